/- General laws on worlds and on a loop over an iterator (no function of the program in sight). -/
import Derived.Test.YtcggghamnmflcaaDoorKwk
import Derived.Deep.AppendLies
import Derived.Laws.OwnMore
import Derived.Laws.Rows
import Derived.Deep.OwnRows
import Derived.LoopTactic
import Derived.RangeFuncNested
import Derived.RangeFuncBound
import Derived.RangeFuncCalls
import Derived.RangeFuncLeaves
import Derived.Shelf.Abstract
import Derived.Shelf.RegionOpen
import Derived.WalkKit
import Derived.OwnWalkIn
import Derived.TacticsInMore
import Derived.LoopNIn
import Derived.LoopIn
import Derived.WalkMore
import Derived.TacticsIn
import Derived.OrdersIn
import Derived.Deep.Quiet
import Derived.StillTail
namespace Go.Proofs.YtcggghamnmflcaaDoor
open Go Go.RowKit Go.Shelf
theorem bel_alloc {w W : World} (h : Below w.heap.size w W) (o : Obj) : Below w.heap.size w (W.alloc o) := h.alloc h.size o
theorem bel_drewN {B : Nat} {w W : World} (h : Below B w W) (n : Nat) : Below B w (W.drewN n) := ⟨h.os, h.tape, h.output, h.size, h.block⟩
theorem bel_drew {B : Nat} {w W : World} (h : Below B w W) : Below B w W.drew := ⟨h.os, h.tape, h.output, h.size, h.block⟩
theorem bel_then {w w1 w2 : World} (h : Below w.heap.size w w1) (k : Below w1.heap.size w1 w2) : Below w.heap.size w w2 := h.trans (k.mono h.size)
theorem bel_cell {w w1 : World} (h : Below w.heap.size w w1) {a : Addr} {v : Value} (hc : w.cell? a = some v) : w1.cell? a = some v := (h.cell (World.block_lt_of_cell? w a hc)).trans hc
theorem cell_new (W : World) (cs : Array Value) (T : TypeId) (j : Nat) (v : Value) (h : cs[j]? = some v) : (W.alloc (.cells cs T)).cell? ⟨W.heap.size, j, none⟩ = some v := by
  rw [← h]; exact cell_of_row (W.alloc (.cells cs T)) W.heap.size j cs T (0, 0) (heap_alloc_new W _)
theorem grown_none {w w1 : World} (h : Below w.heap.size w w1) : w.grownBy w1 none := ⟨h.os, h.tape, h.output, h.size, fun i hi _ => h.block i hi⟩
def BxK (n₀ Lb Db : Nat) (W W' : World) : Prop := Below n₀ W W' ∧ W'.heap[Lb]? = W.heap[Lb]? ∧ W'.heap[Db]? = W.heap[Db]?
theorem wide_fn (k : FuncId) : Fence.wide.fn k = True := rfl
/-- Block g is just these cells, none frozen. -/
def Bk (w : World) (g : Nat) (t : TypeId) (cs : Array Value) : Prop := w.heap[g]? = some (.cells cs t (0, 0))
section
variable {w w' : World} {g : Nat} {t : TypeId} {cs : Array Value}
theorem Bk.lt (h : Bk w g t cs) : g < w.heap.size := (Array.getElem?_eq_some_iff.1 h).1
theorem Bk.cell (h : Bk w g t cs) (i : Nat) : w.cell? ⟨g, i, none⟩ = cs[i]? := cell_of_row w g i cs t (0, 0) h
theorem Bk.at_ (h : Bk w g t cs) {i : Nat} {v : Value} (hv : cs[i]? = some v) : w.cell? ⟨g, i, none⟩ = some v := (h.cell i).trans hv
theorem Bk.frozen (h : Bk w g t cs) (i : Nat) : w.frozen? ⟨g, i, none⟩ = false := by
  unfold Bk at h
  simp [World.frozen?, h]
theorem Bk.new (w : World) (t : TypeId) (cs : Array Value) : Bk (w.alloc (.cells cs t)) w.heap.size t cs := heap_alloc_new w _
theorem Bk.alloc (h : Bk w g t cs) (o : Obj) : Bk (w.alloc o) g t cs := (Below.heap_alloc w o g h.lt).trans h
theorem Bk.set_ (h : Bk w g t cs) (i : Nat) (u : Value) : Bk (w.setCell ⟨g, i, none⟩ u) g t (cs.setIfInBounds i u) := by
  unfold Bk at h ⊢
  simp [World.setCell, Array.getElem?_modify, h]
theorem Bk.far (h : Bk w g t cs) {p : Addr} (hp : g ≠ p.block) (u : Value) : Bk (w.setCell p u) g t cs := (Below.heap_setCell w p u g hp).trans h
theorem Bk.below {B : Nat} (h : Bk w g t cs) (hb : Below B w w') (hg : g < B) : Bk w' g t cs := (hb.block g hg).trans h
theorem Bk.grown {row : Option Nat} (h : Bk w g t cs) (hb : w.grownBy w' row) (hg : some g ≠ row) : Bk w' g t cs := (hb.block g h.lt hg).trans h
/-- It abides the loop's own book-keeping. -/
theorem Bk.kept {row : Option Nat} (h : Bk w g t cs) (hb : w.grownBy w' row) (hr : ∀ r, row = some r → ∃ o : Obj, w.heap[r]? = some o ∧ o.isCells = false) : Bk w' g t cs :=
  h.grown hb fun e => by
    obtain ⟨o, ho, hc⟩ := hr g e.symm
    rw [show w.heap[g]? = _ from h] at ho
    cases ho
    cases hc
end
theorem Bk.new1 (w : World) (o : Obj) (t : TypeId) (cs : Array Value) : Bk ((w.alloc o).alloc (.cells cs t)) (w.heap.size + 1) t cs := by
  have := Bk.new (w.alloc o) t cs
  rwa [World.size_alloc] at this
theorem Bk.new2 (w : World) (o o' : Obj) (t : TypeId) (cs : Array Value) : Bk (((w.alloc o).alloc o').alloc (.cells cs t)) (w.heap.size + 1 + 1) t cs := by
  have := Bk.new1 (w.alloc o) o' t cs
  rwa [World.size_alloc] at this
theorem BxK_t {n₀ Lb Db : Nat} {A B C : World} (h : BxK n₀ Lb Db A B) (k : BxK n₀ Lb Db B C) : BxK n₀ Lb Db A C := ⟨h.1.trans k.1, k.2.1.trans h.2.1, k.2.2.trans h.2.2⟩
theorem BxK_b {n₀ Lb Db : Nat} {w : World} (h0 : n₀ ≤ w.heap.size) (h1 : Lb < w.heap.size) (h2 : Db < w.heap.size) (W : World) (l : Nat) (o o' : Obj) (hl : w.heap.size ≤ l) (h : W.heap[l]? = some o) (hc : o.isCells = false) (hw : o.isWalk = false) : BxK n₀ Lb Db W (W.putObj l o') :=
  ⟨belowK_b h0 W l o o' hl h hc hw, World.putObj_heap_other (by omega), World.putObj_heap_other (by omega)⟩
theorem Bk.newk {w : World} {g : Nat} {t : TypeId} {cs : Array Value} (h : w.heap.size = g) : Bk (w.alloc (.cells cs t)) g t cs := by
  subst h; exact Bk.new w t cs
theorem keeps_set {B : Nat} {W W1 : World} (h : KeepsFrom B W W1) (p : Addr) (v : Value) : KeepsFrom B W (W1.setCell p v) := h.trans ((KeepsOthers.setCell _ _ _).from _)
theorem keeps_alloc {B : Nat} {W W1 : World} (h : KeepsFrom B W W1) (o : Obj) : KeepsFrom B W (W1.alloc o) := h.trans ((KeepsOthers.alloc _ _).from _)
theorem keeps_below {B : Nat} {W W1 W2 : World} (h : KeepsFrom B W W1) (hb : Below W1.heap.size W1 W2) : KeepsFrom B W W2 := h.trans (KeepsFrom.of_grownBy (grown_none hb) (by simp))
theorem range_box {α : Type} {P : Program} {g : Operand} {ps : Array Tmp} {assign body : Code} {Q : Exit → Act → World → Prop} {T : Array Value} {w : World} {n : Nat} (f : Array Value → α → Nat → Array Value) (Ax0 : α → World → Nat → Prop)
    (h1 : 1 ≤ n) {gf : Nat} {lb : Array Value} (hg : Act.eval { tmps := T, defers := [] } g = .func (.func gf) #[] lb) (eg : ∀ args w, (callFunc gf args).run P w = .ok (.enter gf args) w)
    {encs : α → Array Value} {Kp : World → World → Prop} {S Sp : List α → Prop} {N : Nat} (hseq : SeqStopsK Fence.wide (n - 1) P gf lb encs Kp S Sp N w)
    (hKt : ∀ {A B C : World}, Kp A B → Kp B C → Kp A C) (hKb : ∀ (W : World) (l : Nat) (o o' : Obj), w.heap.size ≤ l → W.heap[l]? = some o → o.isCells = false → o.isWalk = false → Kp W (W.putObj l o')) (hps : ∀ x, (encs x).size = ps.size)
    (I : List α → World → Prop) (Ix : Code → List α → World → Prop) (hI : OwnFrom w.heap.size I) (hIx : ∀ c, OwnFrom w.heap.size (Ix c)) (h0 : I [] w) (hAx : ∀ x Bx, OwnFrom w.heap.size (fun (_ : Unit) W => Ax0 x W Bx))
    (hassign : ∀ (l : Nat) (pre : List α) (x : α) (W : World) (K : Act → World → Prop), I pre W → (∀ Bx W', KeepsFrom w.heap.size W W' → Kp W W' → I pre W' → Ax0 x W' Bx → K { tmps := f T x Bx, defers := [] } W') →
      assign.wpIn (Fence.wide.inRound l) (n - 1 - 1) P (Exit.then K (fun _ _ _ => False)) { tmps := (ps.zip (encs x)).foldl (fun t (p, v) => t.setIfInBounds p v) T, defers := [] } W)
    (hbody : ∀ (l : Nat) (pre : List α) (x : α) (Bx : Nat) (W : World), w.heap.size ≤ l → I pre W → Ax0 x W Bx → pre.length < N → body.wpIn (Fence.wide.inRound l) (n - 1 - 1) P (ownPostG w.heap.size Kp I Ix (pre ++ [x]) W) { tmps := f T x Bx, defers := [] } W)
    (hdone : ∀ (D : Nat) (xs : List α) (W : World), w.heap.size ≤ D → S xs → I xs W → W.heap[D]? = some (.deferred (some [])) → Q .normal { tmps := T, defers := [{ target := .collected D, args := #[] }] } W)
    (hstop : ∀ (D : Nat) (c : Code) (pre : List α) (W : World), w.heap.size ≤ D → Sp pre → Ix c pre W → W.heap[D]? = some (.deferred (some [])) → c.wp P Q { tmps := T, defers := [{ target := .collected D, args := #[] }] } W) :
    (Code.rangeFunc g ps assign body).wp P Q { tmps := T, defers := [] } w :=
  (wpIn_wide (n := n)).1 (wpIn_rangeFunc_ownH rfl h1 hg trivial eg hseq hKt hKb (Below.refl _ _) hps I Ix hI hIx h0 (fun x a' W => ∃ Bx, Ax0 x W Bx ∧ a' = { tmps := f T x Bx, defers := [] })
    (fun x a' s A B row h hg hr => by
      obtain ⟨Bx, h1, h2⟩ := h
      exact ⟨Bx, hAx x Bx () A B row h1 hg hr, h2⟩)
    (fun l pre x W K hi hK => hassign l pre x W K hi fun Bx W' k1 k2 k3 k4 => hK _ _ k1 k2 k3 ⟨Bx, k4, rfl⟩)
    (fun l pre x a' W hl _ hi ha hlen => by
      obtain ⟨Bx, h1, rfl⟩ := ha
      exact hbody l pre x Bx W hl hi h1 hlen)
    hdone (fun D c pre W hD hs hx hk => wpIn_wide.2 (hstop D c pre W hD hs hx hk)))
end Go.Proofs.YtcggghamnmflcaaDoor

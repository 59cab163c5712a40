/- What shape.compound's own cells hold between two rounds. -/
import Derived.Test.YtcggghamnmflcaaGa
import Derived.Test.YtcggghamnmflcaaTail
namespace Go.Proofs.Ytcggghamnmflcaa
open Go Go.RowKit Go.Shelf
attribute [local go_sem] wide_fn mx2_int mx_two Oper.semAt_some

theorem Bk.new1 (w : World) (o : Obj) (t : TypeId) (cs : Array Value) : Bk ((w.alloc o).alloc (.cells cs t)) (w.heap.size + 1) t cs := by
  have := Bk.new (w.alloc o) t cs
  rwa [World.size_alloc] at this
theorem Bk.new2 (w : World) (o o' : Obj) (t : TypeId) (cs : Array Value) : Bk (((w.alloc o).alloc o').alloc (.cells cs t)) (w.heap.size + 1 + 1) t cs := by
  have := Bk.new1 (w.alloc o) o' t cs
  rwa [World.size_alloc] at this
theorem lt_more {a b : Nat} (h : a + 1 + 1 < b) : a < b ∧ a < b + 1 ∧ a < b + 1 + 1 ∧ a < b + 1 + 1 + 1 ∧ a < b + 1 + 1 + 1 + 1 ∧ a + 1 < b ∧ a + 1 < b + 1 ∧ a + 1 < b + 1 + 1 ∧ a + 1 < b + 1 + 1 + 1 ∧ a + 1 < b + 1 + 1 + 1 + 1 := by omega
theorem boxes_stops (deep : Int) (hL : LieC deep) (n : Nat) (hn : 1 ≤ n) {d : Nat} (A : Option Addr) (c : Nat) (l : List (Fld (Tp d))) (w0 : World) (Lb Db : Nat) (hF : FdsAt w0 d A l) (hc : l.length ≤ c) (hm : c ≤ 9223372036854775807) (W0 : World) (hB0 : Below w0.heap.size w0 W0)
    (hLb : Bk W0 Lb 36 #[.slice A l.length c]) (hDb : Bk W0 Db 3 #[.int .i64 deep]) :
    SeqStopsK Fence.wide n Try.prog 128 #[.pointer (some ⟨Lb, 0, none⟩), .pointer (some ⟨Db, 0, none⟩)] BxV.encs (BxK w0.heap.size Lb Db)
      (fun xs => PreR d deep l xs ∧ ((∀ x ∈ xs, x.er = 0) → xs.length = l.length)) (PreR d deep l) l.length W0 :=
  fun l₀ J Jx W hW hJ _ hY h0 => boxes1_in deep hL n hn l₀ A c l w0 Lb Db hF hc hm J Jx W hJ (hB0.trans (hW.mono hB0.size)) (bel_cell hW (hLb.at_ rfl)) (bel_cell hW (hDb.at_ rfl)) hY h0
def sptC (L : List Spt) : List Value := L.flatMap fun s => [.int .i64 s.bit, .int .i64 s.bits, .int .i64 s.k]
def lay0 (al : Int) : Lay := { at_ := 0, end_ := 0, align := mx 1 al, l := [] }
def layK {d : Nat} (un pk : Bool) (al : Int) (l : List (Fld (Tp d))) (pre : List BxV) : Lay :=
  (l.zip pre).foldl (fun s p => layS un pk p.1.nm (tk d p.1.t) p.1.bits { size := p.2.sz, align := p.2.ag, l := [] } s) (lay0 al)
/-- What compound's own cells hold between two rounds. -/
structure CmpI {d : Nat} (w0 : World) (B : Nat) (t0 : Array Value) (deep : Int) (sl : Value) (un pk : Bool) (al : Int) (l : List (Fld (Tp d))) (wo : Int) (i : Nat) (pre : List BxV) (W : World) : Prop where
  ex : ∃ (at_ en ag : Int) (L : List Spt) (S : Value), Bk W B 99 #[.int .i64 0, .int .i64 ag, S] ∧ Bk W (B + 1) 2 #[.int .i64 at_] ∧ Bk W (B + 1 + 1) 2 #[.int .i64 en] ∧ W.ownsRow (B + 1 + 1 + 1 + 1 + 1 + 1 + 1) 48 3 S L.length (sptC L) ∧
    L.length = pre.length ∧ I64 at_ ∧ I64 en ∧ 1 ≤ ag ∧ ag ≤ 64 ∧ (PreR d (deep - 1) l pre → layK un pk al l pre = { at_ := at_, end_ := en, align := ag, l := L })
  er0 : ∀ x ∈ pre, x.er = 0
  wo : Bk W (B + 1 + 1 + 1) 23 #[.int .i64 wo]
  i : Bk W (B + 1 + 1 + 1 + 1) 3 #[.int .i64 i]
  sl : Bk W (B + 1 + 1 + 1 + 1 + 1) 36 #[sl]
  dp : Bk W (B + 1 + 1 + 1 + 1 + 1 + 1) 3 #[.int .i64 (deep - 1)]
  t : Bk W w0.heap.size 38 t0
  de : Bk W (w0.heap.size + 1) 3 #[.int .i64 deep]
  re : Bk W (w0.heap.size + 1 + 1) 99 #[.int .i64 0, .int .i64 0, .slice none 0 0]
  bel : Below w0.heap.size w0 W
theorem CmpI.own {d : Nat} {w0 : World} {B B1 : Nat} {t0 : Array Value} {deep : Int} {sl : Value} {un pk : Bool} {al : Int} {l : List (Fld (Tp d))} {wo : Int} {i : List BxV → Nat} (hB : w0.heap.size ≤ B1) :
    OwnFrom B1 (fun pre W => CmpI w0 B t0 deep sl un pk al l wo (i pre) pre W) := fun s A C row h hg hr => by
  have hr' : ∀ r, row = some r → ∃ o : Obj, A.heap[r]? = some o ∧ o.isCells = false := fun r e => (hr r e).2
  obtain ⟨at_, en, ag, L, S, e1, e2, e3, e4, e5⟩ := h.ex
  refine ⟨⟨at_, en, ag, L, S, e1.kept hg hr', e2.kept hg hr', e3.kept hg hr', e4.kept hg ?_, e5⟩, h.er0, h.wo.kept hg hr', h.i.kept hg hr', h.sl.kept hg hr', h.dp.kept hg hr', h.t.kept hg hr', h.de.kept hg hr', h.re.kept hg hr', ?_⟩
  · cases hob : S.ownBlock with
    | none => exact .inl rfl
    | some g =>
      refine .inr fun e => ?_
      obtain ⟨o, ho, hc⟩ := hr' g e.symm
      rcases e4.2 with ⟨rfl, _⟩ | ⟨g', cap, cur, rfl, _, hh, _⟩
      · simp [Value.ownBlock] at hob
      · have : g' = g := by simpa [Value.ownBlock] using hob
        subst this
        rw [hh] at ho
        cases ho
        cases hc
  · exact h.bel.grown hg h.bel.size (fun k e => Nat.le_trans hB (hr k e).1)
theorem BxK_t {n₀ Lb Db : Nat} {A B C : World} (h : BxK n₀ Lb Db A B) (k : BxK n₀ Lb Db B C) : BxK n₀ Lb Db A C := ⟨h.1.trans k.1, k.2.1.trans h.2.1, k.2.2.trans h.2.2⟩
theorem BxK_b {n₀ Lb Db : Nat} {w : World} (h0 : n₀ ≤ w.heap.size) (h1 : Lb < w.heap.size) (h2 : Db < w.heap.size) (W : World) (l : Nat) (o o' : Obj) (hl : w.heap.size ≤ l) (h : W.heap[l]? = some o) (hc : o.isCells = false) (hw : o.isWalk = false) : BxK n₀ Lb Db W (W.putObj l o') :=
  ⟨belowK_b h0 W l o o' hl h hc hw, World.putObj_heap_other (by omega), World.putObj_heap_other (by omega)⟩

theorem Bk.newk {w : World} {g : Nat} {t : TypeId} {cs : Array Value} (h : w.heap.size = g) : Bk (w.alloc (.cells cs t)) g t cs := by
  subst h; exact Bk.new w t cs
theorem lt_seven {a b : Nat} (h : a + 1 + 1 + 1 + 1 + 1 + 1 < b) : a < b ∧ a + 1 < b ∧ a + 1 + 1 < b ∧ a + 1 + 1 + 1 < b ∧ a + 1 + 1 + 1 + 1 < b ∧ a + 1 + 1 + 1 + 1 + 1 < b ∧ a + 1 + 1 + 1 + 1 + 1 + 1 < b := by omega
/-- The law of a loop over an iterator at the wide fence, where the assign code boxes the first variable. -/
theorem range_box {α : Type} {P : Program} {g : Operand} {ps : Array Tmp} {assign body : Code} {Q : Exit → Act → World → Prop} {T : Array Value} {w : World} {n : Nat} (f : Array Value → α → Nat → Array Value) (Ax0 : α → World → Nat → Prop)
    (h1 : 1 ≤ n) {gf : Nat} {lb : Array Value} (hg : Act.eval { tmps := T, defers := [] } g = .func (.func gf) #[] lb) (eg : ∀ args w, (callFunc gf args).run P w = .ok (.enter gf args) w)
    {encs : α → Array Value} {Kp : World → World → Prop} {S Sp : List α → Prop} {N : Nat} (hseq : SeqStopsK Fence.wide (n - 1) P gf lb encs Kp S Sp N w)
    (hKt : ∀ {A B C : World}, Kp A B → Kp B C → Kp A C) (hKb : ∀ (W : World) (l : Nat) (o o' : Obj), w.heap.size ≤ l → W.heap[l]? = some o → o.isCells = false → o.isWalk = false → Kp W (W.putObj l o')) (hps : ∀ x, (encs x).size = ps.size)
    (I : List α → World → Prop) (Ix : Code → List α → World → Prop) (hI : OwnFrom w.heap.size I) (hIx : ∀ c, OwnFrom w.heap.size (Ix c)) (h0 : I [] w) (hAx : ∀ x Bx, OwnFrom w.heap.size (fun (_ : Unit) W => Ax0 x W Bx))
    (hassign : ∀ (l : Nat) (pre : List α) (x : α) (W : World) (K : Act → World → Prop), I pre W → (∀ Bx W', KeepsFrom w.heap.size W W' → Kp W W' → I pre W' → Ax0 x W' Bx → K { tmps := f T x Bx, defers := [] } W') →
      assign.wpIn (Fence.wide.inRound l) (n - 1 - 1) P (Exit.then K (fun _ _ _ => False)) { tmps := (ps.zip (encs x)).foldl (fun t (p, v) => t.setIfInBounds p v) T, defers := [] } W)
    (hbody : ∀ (l : Nat) (pre : List α) (x : α) (Bx : Nat) (W : World), w.heap.size ≤ l → I pre W → Ax0 x W Bx → pre.length < N → body.wpIn (Fence.wide.inRound l) (n - 1 - 1) P (ownPostG w.heap.size Kp I Ix (pre ++ [x]) W) { tmps := f T x Bx, defers := [] } W)
    (hdone : ∀ (D : Nat) (xs : List α) (W : World), w.heap.size ≤ D → S xs → I xs W → W.heap[D]? = some (.deferred (some [])) → Q .normal { tmps := T, defers := [{ target := .collected D, args := #[] }] } W)
    (hstop : ∀ (D : Nat) (c : Code) (pre : List α) (W : World), w.heap.size ≤ D → Sp pre → Ix c pre W → W.heap[D]? = some (.deferred (some [])) → c.wp P Q { tmps := T, defers := [{ target := .collected D, args := #[] }] } W) :
    (Code.rangeFunc g ps assign body).wp P Q { tmps := T, defers := [] } w :=
  (wpIn_wide (n := n)).1 (wpIn_rangeFunc_ownH rfl h1 hg trivial eg hseq hKt hKb (Below.refl _ _) hps I Ix hI hIx h0 (fun x a' W => ∃ Bx, Ax0 x W Bx ∧ a' = { tmps := f T x Bx, defers := [] })
    (fun x a' s A B row h hg hr => by
      obtain ⟨Bx, h1, h2⟩ := h
      exact ⟨Bx, hAx x Bx () A B row h1 hg hr, h2⟩)
    (fun l pre x W K hi hK => hassign l pre x W K hi fun Bx W' k1 k2 k3 k4 => hK _ _ k1 k2 k3 ⟨Bx, k4, rfl⟩)
    (fun l pre x a' W hl _ hi ha hlen => by
      obtain ⟨Bx, h1, rfl⟩ := ha
      exact hbody l pre x Bx W hl hi h1 hlen)
    hdone (fun D c pre W hD hs hx hk => wpIn_wide.2 (hstop D c pre W hD hs hx hk)))

theorem CmpI.below_ {d : Nat} {w0 : World} {B : Nat} {t0 : Array Value} {deep : Int} {sl : Value} {un pk : Bool} {al : Int} {l : List (Fld (Tp d))} {wo : Int} {i : Nat} {pre : List BxV} {W W1 : World} (h : CmpI w0 B t0 deep sl un pk al l wo i pre W) (hb : Below W.heap.size W W1) : CmpI w0 B t0 deep sl un pk al l wo i pre W1 := by
  obtain ⟨at_, en, ag, L, S, e1, e2, e3, e4, e5⟩ := h.ex
  exact ⟨⟨at_, en, ag, L, S, e1.below hb e1.lt, e2.below hb e2.lt, e3.below hb e3.lt, e4.kept (grown_none hb) (by cases S.ownBlock <;> simp), e5⟩, h.er0, h.wo.below hb h.wo.lt, h.i.below hb h.i.lt, h.sl.below hb h.sl.lt, h.dp.below hb h.dp.lt, h.t.below hb h.t.lt, h.de.below hb h.de.lt, h.re.below hb h.re.lt, bel_then h.bel hb⟩
theorem own_ne {W : World} {base n : Nat} {S : Value} {xs : List Value} (h : W.ownsRow base 48 3 S n xs) {g : Nat} (hg : g < base) : S.ownBlock ≠ some g := by
  rcases h.2 with ⟨rfl, _⟩ | ⟨g', cap, cur, rfl, hb, _⟩
  · simp [Value.ownBlock]
  · intro e
    have : g' = g := by simpa [Value.ownBlock] using e
    omega
theorem CmpI.setI {d : Nat} {w0 : World} {B : Nat} {t0 : Array Value} {deep : Int} {sl : Value} {un pk : Bool} {al : Int} {l : List (Fld (Tp d))} {wo : Int} {i : Nat} {pre : List BxV} {W : World} (h : CmpI w0 B t0 deep sl un pk al l wo i pre W) (hB : w0.heap.size + 1 + 1 < B) (i' : Int) (j : Nat) (hj : i' = j) : CmpI w0 B t0 deep sl un pk al l wo j pre (W.setCell ⟨B + 1 + 1 + 1 + 1, 0, none⟩ (.int .i64 i')) := by
  subst hj
  obtain ⟨at_, en, ag, L, S, e1, e2, e3, e4, e5⟩ := h.ex
  exact ⟨⟨at_, en, ag, L, S, e1.far (by simp only; omega) _, e2.far (by simp only; omega) _, e3.far (by simp only; omega) _, e4.kept (grownBy_setCell' W (B + 1 + 1 + 1 + 1) _) (.inr (own_ne e4 (by omega))), e5⟩, h.er0, h.wo.far (by simp only; omega) _, h.i.set_ 0 _, h.sl.far (by simp only; omega) _, h.dp.far (by simp only; omega) _, h.t.far (by simp only; omega) _, h.de.far (by simp only; omega) _, h.re.far (by simp only; omega) _, h.bel.setCell (by simp; omega) _⟩
theorem CmpI.setWo {d : Nat} {w0 : World} {B : Nat} {t0 : Array Value} {deep : Int} {sl : Value} {un pk : Bool} {al : Int} {l : List (Fld (Tp d))} {wo : Int} {i : Nat} {pre : List BxV} {W : World} (h : CmpI w0 B t0 deep sl un pk al l wo i pre W) (hB : w0.heap.size + 1 + 1 < B) (wo' : Int) : CmpI w0 B t0 deep sl un pk al l wo' i pre (W.setCell ⟨B + 1 + 1 + 1, 0, none⟩ (.int .i64 wo')) := by
  obtain ⟨at_, en, ag, L, S, e1, e2, e3, e4, e5⟩ := h.ex
  exact ⟨⟨at_, en, ag, L, S, e1.far (by simp only; omega) _, e2.far (by simp only; omega) _, e3.far (by simp only; omega) _, e4.kept (grownBy_setCell' W (B + 1 + 1 + 1) _) (.inr (own_ne e4 (by omega))), e5⟩, h.er0, h.wo.set_ 0 _, h.i.far (by simp only; omega) _, h.sl.far (by simp only; omega) _, h.dp.far (by simp only; omega) _, h.t.far (by simp only; omega) _, h.de.far (by simp only; omega) _, h.re.far (by simp only; omega) _, h.bel.setCell (by simp; omega) _⟩
theorem keeps_set {B : Nat} {W W1 : World} (h : KeepsFrom B W W1) (p : Addr) (v : Value) : KeepsFrom B W (W1.setCell p v) := h.trans ((KeepsOthers.setCell _ _ _).from _)
theorem keeps_alloc {B : Nat} {W W1 : World} (h : KeepsFrom B W W1) (o : Obj) : KeepsFrom B W (W1.alloc o) := h.trans ((KeepsOthers.alloc _ _).from _)
theorem keeps_below {B : Nat} {W W1 W2 : World} (h : KeepsFrom B W W1) (hb : Below W1.heap.size W1 W2) : KeepsFrom B W W2 := h.trans (KeepsFrom.of_grownBy (grown_none hb) (by simp))
theorem below_both {n : Nat} {a b c : World} (h : Below n a b) (k : Below n a c) (hs : b.heap.size ≤ c.heap.size) : Below n b c := ⟨k.os.trans h.os.symm, k.tape.trans h.tape.symm, k.output.trans h.output.symm, hs, fun i hi => (k.block i hi).trans (h.block i hi).symm⟩
/-- What lies there where a round has left the loop. -/
def CmpX {d : Nat} (w0 : World) (B : Nat) (t0 : Array Value) (deep : Int) (sl : Value) (un pk : Bool) (al : Int) (l : List (Fld (Tp d))) (c : Code) (pre' : List BxV) (W : World) : Prop :=
  c = .exit 0 ∧ ∃ (pre : List BxV) (x : BxV) (wo : Int), pre' = pre ++ [x] ∧ pre.length < l.length ∧ ((x.er = 100 ∧ wo = 100) ∨ (x.er = 101 ∧ wo = laterS d (l.drop (pre.length + 1)) (deep - 1))) ∧ CmpI w0 B t0 deep sl un pk al l wo (pre.length + 1) pre W
theorem CmpX.own {d : Nat} {w0 : World} {B B1 : Nat} {t0 : Array Value} {deep : Int} {sl : Value} {un pk : Bool} {al : Int} {l : List (Fld (Tp d))} (hB : w0.heap.size ≤ B1) (c : Code) :
    OwnFrom B1 (fun pre W => CmpX w0 B t0 deep sl un pk al l c pre W) := by
  intro s A C row h hg hr
  obtain ⟨hc0, pre, x, wo, h1, hl, h2, h3⟩ := h
  exact ⟨hc0, pre, x, wo, h1, hl, h2, CmpI.own (i := fun p => p.length + 1) hB pre A C row h3 hg hr⟩

end Go.Proofs.Ytcggghamnmflcaa

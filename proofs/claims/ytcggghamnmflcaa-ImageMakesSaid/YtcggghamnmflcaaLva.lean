/- All numbers within a type: the plain answer; shape.leaves makes an iterator; small laws on worlds. -/
import Derived.Test.YtcggghamnmflcaaRgq
import Derived.Test.YtcggghamnmflcaaPla
namespace Go.Proofs.Ytcggghamnmflcaa
open Go Go.RowKit Go.Shelf
/-- How many bytes a type has. -/
def bsz (d : Nat) (t : Tp d) : Int := (boxD d t).size
/-- All numbers within a type, from a bit on. -/
def leavesS : (d : Nat) → Tp d → Int → List Spt
  | 0, t, _ => nomatch t
  | d + 1, t, fr =>
    let t : Nd (Tp d) := t
    if t.sh = 1 then [⟨fr, 8 * ksize t.k, t.k⟩]
    else if t.sh = 2 then [⟨fr, 64, 8⟩]
    else if t.sh = 3 then (match t.of with
      | [x] => (List.range t.n.toNat).flatMap fun (i : Nat) => leavesS d x (fr + 8 * bsz d x * i)
      | _ => [])
    else (t.fs.zip (boxD (d + 1) t).l).flatMap fun p => if p.1.bits = 0 then [] else if 0 < p.1.bits then [⟨fr + p.2.bit, p.1.bits, tk d p.1.t⟩] else leavesS d p.1.t (fr + p.2.bit)
def Spt.encs (x : Spt) : Array Value := #[.agg #[.int .i64 x.bit, .int .i64 x.bits, .int .i64 x.k]]
set_option maxRecDepth 100000 in
theorem leaves76_c (sh k n al fr : Int) (A1 A2 : Option Addr) (n1 n2 c1 c2 : Nat) (pk : Bool) (w : World) : Calls Try.prog 76 #[.agg #[.int .i64 sh, .int .i64 k, .int .i64 n, .slice A1 n1 c1, .slice A2 n2 c2, .bool pk, .int .i64 al], .int .i64 fr] w
    fun e w' => e = .returned (.func (.func 107) #[] #[.pointer (some ⟨w.heap.size, 0, none⟩), .pointer (some ⟨w.heap.size + 1, 0, none⟩)]) ∧ (w.alloc (.cells #[.int .i64 sh, .int .i64 k, .int .i64 n, .slice A1 n1 c1, .slice A2 n2 c2, .bool pk, .int .i64 al] 38)).alloc (.cells #[.int .i64 fr] 2) = w' := by
  go_enter Try.func76, Try.ntmps76
  go_wp2
  go_ret
  exact ⟨rfl, rfl⟩
/-- On the way out the marks of the loops are come to, one by one. -/
theorem leaves_marks {P : Program} {n : Nat} {fn : Func} {tmps : Array Value} {R : Ending → World → Prop} (Z : World → Prop) (B : Nat) (hZ : ∀ (W : World) (D : Nat), Z W → B ≤ D → W.heap[D]? = some (.deferred (some [])) → Z (W.putObj D (.deferred none)))
    (hR : ∀ W, Z W → ∃ v, (results fn tmps).run P W = .ok v W ∧ R (.returned v) W) : ∀ (ds : List Nat) (W : World), Z W → ds.Nodup → (∀ D ∈ ds, B ≤ D ∧ W.heap[D]? = some (.deferred (some []))) → LeavesInM Fence.wide n P fn tmps R (ds.map markQ) .returning W
  | [], W, hz, _, _ => hR W hz
  | D :: ds, W, hz, hn, hd => by
    obtain ⟨hB, hD⟩ := hd D (List.mem_cons_self ..)
    rw [List.nodup_cons] at hn
    refine ⟨by simp, .inl ⟨D, _, rfl, run_takeDeferred hD, ?_⟩⟩
    refine leaves_marks Z B hZ hR ds _ (hZ W D hz hB hD) hn.2 fun D' hD' => ?_
    obtain ⟨h1, h2⟩ := hd D' (List.mem_cons_of_mem _ hD')
    exact ⟨h1, (World.putObj_heap_other (by rintro rfl; exact hn.1 hD')).trans h2⟩
theorem cells_of_cell {W : World} {a : Addr} {v : Value} (h : W.cell? a = some v) : ∃ o : Obj, W.heap[a.block]? = some o ∧ o.isCells = true := by
  unfold World.cell? at h
  cases ho : W.heap[a.block]? with
  | none => simp [ho] at h
  | some o => exact ⟨o, rfl, by cases o <;> simp_all [Obj.isCells]⟩
section
variable {n₀ Lb : Nat} {W W' : World}
theorem TrQ.cell (h : TrQ n₀ Lb W W') {a : Addr} {v : Value} (hc : W.cell? a = some v) (hm : ¬ Mine n₀ Lb W a.block) : W'.cell? a = some v := by
  obtain ⟨o, ho, hcl⟩ := cells_of_cell hc
  exact (World.cell?_of_block ((h.cells _ o ho hcl hm).trans ho.symm)).trans hc
theorem TrQ.spts (h : TrQ n₀ Lb W W') {A : Option Addr} {n : Nat} {l : List Spt} (hs : SptsAt W A n l) (hm : ∀ a, A = some a → ¬ Mine n₀ Lb W a.block) : SptsAt W' A n l :=
  ⟨hs.1, fun i s hi => by
    obtain ⟨b, o, ha, h0, h1, h2⟩ := hs.2 i s hi
    have := hm _ ha
    exact ⟨b, o, ha, h.cell h0 this, h.cell h1 this, h.cell h2 this⟩⟩
/-- The consumer's own blocks lie below what is new. -/
theorem not_mine_new (ok : ∀ k, Mine n₀ Lb W k → k < W.heap.size) (hb : W'.heap[Lb]? = W.heap[Lb]?) {k : Nat} (hk : W.heap.size ≤ k) : ¬ Mine n₀ Lb W' k := fun hm => by
  have := ok k ((Mine_same hb k).1 hm)
  omega
end
theorem range_qi {α : Type} {n : Nat} {P : Program} {g : Operand} {ps : Array Tmp} {assign body : Code} {Q : Exit → Act → World → Prop} {a : Act} {w : World} {gf : Nat} {lb : Array Value} {encs : α → Array Value} {xs : List α} {n₀ Lb : Nat}
    (hg : a.eval g = .func (.func gf) #[] lb) (eg : ∀ args w, (callFunc gf args).run P w = .ok (.enter gf args) w)
    (hseq : SeqQ P n₀ Lb gf lb encs xs w) (hn : n₀ ≤ w.heap.size) (hL : Lb < w.heap.size) (hok : ∀ k, Mine n₀ Lb w k → k < w.heap.size) (hps : ∀ x, (encs x).size = ps.size)
    (I : List α → World → Prop) (Ix : Code → List α → World → Prop) (hI : OwnFrom w.heap.size I) (hIx : ∀ c, OwnFrom w.heap.size (Ix c)) (h0 : I [] w) (Ax : List α → α → Act → World → Prop) (hAx : ∀ pre x a', OwnFrom w.heap.size (fun (_ : Unit) W => Ax pre x a' W))
    (hassign : ∀ (l : Nat) (pre : List α) (x : α) (W : World) (K : Act → World → Prop), I pre W → (∀ a' W', KpQ n₀ Lb w.heap.size W W' → Ax pre x a' W' → K a' W') →
      assign.wpIn (Fence.wide.inRound l) 8 P (Exit.then K (fun _ _ _ => False)) { tmps := (ps.zip (encs x)).foldl (fun t (p, v) => t.setIfInBounds p v) a.tmps, defers := [] } W)
    (hbody : ∀ (l : Nat) (pre : List α) (x : α) (a' : Act) (W : World), w.heap.size ≤ l → Ax pre x a' W → body.wpIn (Fence.wide.inRound l) 8 P (postQ n₀ Lb w.heap.size I Ix (pre ++ [x]) W) a' W)
    (hdone : ∀ (W : World), I xs W → W.heap[w.heap.size]? = some (.deferred (some [])) → Q .normal { a with defers := markQ w.heap.size :: a.defers } W)
    (hstop : ∀ (c : Code) (pre : List α) (W : World), pre <+: xs → Ix c pre W → W.heap[w.heap.size]? = some (.deferred (some [])) → c.wpIn Fence.wide n P Q { a with defers := markQ w.heap.size :: a.defers } W) :
    (Code.rangeFunc g ps assign body).wpIn Fence.wide n P Q a w :=
  wpIn_wide.2 (range_q hg eg hseq hn hL hok hps I Ix hI hIx h0 Ax hAx hassign hbody hdone fun c pre W h1 h2 h3 => wpIn_wide.1 (hstop c pre W h1 h2 h3))
/-- What holds in an iterator between two of its loops. -/
structure LoopQ (J : List Spt → World → Prop) (n₀ Lb B : Nat) (V0 : World) (ds : List Nat) (pre : List Spt) (V : World) : Prop where
  j : J pre V
  tr : TrQ n₀ Lb V0 V
  nd : ds.Nodup
  ma : ∀ D ∈ ds, B ≤ D ∧ D < V.heap.size ∧ V.heap[D]? = some (.deferred (some []))
section
variable {J : List Spt → World → Prop} {n₀ Lb B : Nat} {V0 V V' : World} {ds : List Nat} {pre pre' : List Spt}
theorem LoopQ.own (hJ : OwnFrom B J) (hn : n₀ ≤ V0.heap.size) (hL : Lb < V0.heap.size) {B1 : Nat} (h0 : B ≤ B1) (h1 : V0.heap.size ≤ B1) (hd : ∀ D ∈ ds, D < B1) : OwnFrom B1 (fun p V => LoopQ J n₀ Lb B V0 ds (pre ++ p) V) := fun p A C row h hg hr =>
  ⟨hJ _ A C row h.j hg (fun r e => ⟨by have := (hr r e).1; omega, (hr r e).2⟩), TrQ.own hn hL h1 p A C row h.tr hg hr, h.nd, fun D hD => by
    obtain ⟨q1, q2, q3⟩ := h.ma D hD
    exact ⟨q1, Nat.lt_of_lt_of_le q2 hg.size, (hg.block D q2 fun e => by have := (hr D e.symm).1; have := hd D hD; omega).trans q3⟩⟩
theorem LoopQ.step {J' : List Spt → World → Prop} (h : LoopQ J n₀ Lb B V0 ds pre V) (hj : J' pre' V') (hk : KpQ n₀ Lb B V V') : LoopQ J' n₀ Lb B V0 ds pre' V' :=
  ⟨hj, h.tr.step hk, h.nd, fun D hD => by
    obtain ⟨q1, q2, q3⟩ := h.ma D hD
    exact ⟨q1, Nat.lt_of_lt_of_le q2 hk.keeps.size, hk.keeps.same D _ q1 q3 rfl⟩⟩
/-- Memory is made. -/
theorem LoopQ.below_ (h : LoopQ J n₀ Lb B V0 ds pre V) (hJ : OwnFrom B J) (hn : n₀ ≤ V.heap.size) (hL : Lb < V.heap.size) (hb : Below V.heap.size V V') : LoopQ J n₀ Lb B V0 ds pre V' :=
  h.step (hJ _ V V' none h.j (grown_none hb) (by simp)) (KpQ.of_below hb hn hL)
end
/-- What an iterator's caller is told at its end. -/
def LvZ (J Jx : List Spt → World → Prop) (X : List Spt) (V : World) : Prop := J X V ∨ ∃ pre, pre <+: X ∧ Jx pre V
theorem LvZ.put {J Jx : List Spt → World → Prop} {X : List Spt} {B : Nat} (hJ : OwnFrom B J) (hJx : OwnFrom B Jx) (V : World) (D : Nat) (h : LvZ J Jx X V) (hB : B ≤ D) (hD : V.heap[D]? = some (.deferred (some []))) : LvZ J Jx X (V.putObj D (.deferred none)) := by
  rcases h with h | ⟨pre, h1, h2⟩
  · exact .inl (hJ.putObj _ h hB hD rfl)
  · exact .inr ⟨pre, h1, hJx.putObj _ h2 hB hD rfl⟩
theorem lv_out {J Jx : List Spt → World → Prop} {X : List Spt} {B : Nat} (hJ : OwnFrom B J) (hJx : OwnFrom B Jx) {n : Nat} {tmps : Array Value} {ds : List Nat} {V : World} (hz : LvZ J Jx X V) (hn : ds.Nodup) (hd : ∀ D ∈ ds, B ≤ D ∧ V.heap[D]? = some (.deferred (some []))) :
    LeavesInM Fence.wide n Try.prog Try.f107 tmps (fun e W' => (∃ v, e = Ending.returned v) ∧ (J X W' ∨ ∃ pre, pre <+: X ∧ Jx pre W')) (ds.map markQ) .returning V :=
  leaves_marks (LvZ J Jx X) B (LvZ.put hJ hJx) (fun _ h => ⟨_, results_none rfl _ _ _, ⟨_, rfl⟩, h⟩) ds V hz hn hd
theorem flat_prefix {α : Type} {f : Nat → List α} {j N : Nat} {p : List α} (hj : j < N) (hp : p <+: f j) : (List.range j).flatMap f ++ p <+: (List.range N).flatMap f := by
  obtain ⟨k, rfl⟩ : ∃ k, N = j + 1 + k := ⟨N - (j + 1), by omega⟩
  rw [List.range_add, List.flatMap_append, List.range_succ, List.flatMap_append]
  obtain ⟨r, hr⟩ := hp
  refine ⟨r ++ ((List.range k).map (j + 1 + ·)).flatMap f, ?_⟩
  simp [← hr, List.append_assoc]
theorem flat_snoc {α : Type} {f : Nat → List α} {j : Nat} : (List.range j).flatMap f ++ f j = (List.range (j + 1)).flatMap f := by
  rw [List.range_succ, List.flatMap_append]
  simp
end Go.Proofs.Ytcggghamnmflcaa

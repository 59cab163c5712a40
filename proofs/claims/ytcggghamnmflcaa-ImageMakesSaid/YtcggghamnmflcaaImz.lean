/- image.Make: the memory that it keeps. -/
import Derived.Test.YtcggghamnmflcaaImp
import Derived.Laws.CopyOwn
namespace Go.Proofs.Ytcggghamnmflcaa
open Go Go.RowKit Go.Shelf
theorem setN_far (g : Nat) : ∀ (vs : List Value) (o : Nat) (w : World), (w.setCells g o vs).os = w.os ∧ (w.setCells g o vs).tape = w.tape ∧ (w.setCells g o vs).output = w.output ∧ (w.setCells g o vs).heap.size = w.heap.size ∧ ∀ k, k ≠ g → (w.setCells g o vs).heap[k]? = w.heap[k]?
  | [], _, _ => ⟨rfl, rfl, rfl, rfl, fun _ _ => rfl⟩
  | v :: r, o, w => by
    obtain ⟨a, b, c, d, e⟩ := setN_far g r (o + 1) (w.setCell ⟨g, o, none⟩ v)
    exact ⟨a.trans rfl, b.trans rfl, c.trans rfl, d.trans (by simp [World.setCell]), fun k hk => (e k hk).trans (Below.heap_setCell _ _ _ _ hk)⟩
theorem clr_get {l : List Nat} {a n : Nat} (h : a + n ≤ l.length) (i : Nat) : (clr l a n)[i]? = if i < a then l[i]? else if i < a + n then some 0 else l[i]? := by
  unfold clr
  have hl : (l.take a).length = a := by rw [List.length_take]; omega
  rw [List.getElem?_append, hl]
  by_cases h1 : i < a
  · rw [if_pos h1, if_pos h1, List.getElem?_take, if_pos h1]
  · rw [if_neg h1, if_neg h1, List.getElem?_append, List.length_replicate]
    by_cases h2 : i < a + n
    · rw [if_pos (by omega), if_pos h2, List.getElem?_replicate, if_pos (by omega)]
    · rw [if_neg (by omega), if_neg h2, List.getElem?_drop]
      congr 1
      omega
theorem clr_set {l : List Nat} {o n : Nat} (h : o + (n + 1) ≤ l.length) : clr (l.set o 0) (o + 1) n = clr l o (n + 1) := by
  apply List.ext_getElem?
  intro i
  rw [clr_get (by rw [List.length_set]; omega), clr_get h, List.getElem?_set]
  by_cases h1 : i < o
  · rw [if_pos (by omega), if_pos h1, if_neg (by omega)]
  · by_cases h2 : i = o
    · subst h2
      rw [if_pos (by omega), if_pos rfl, if_pos (by omega), if_neg h1, if_pos (by omega)]
    · rw [if_neg (by omega), if_neg h1]
      by_cases h3 : i < o + (n + 1)
      · rw [if_pos (by omega), if_pos h3]
      · rw [if_neg (by omega), if_neg h3, if_neg (by omega)]
theorem clr_0 (l : List Nat) (o : Nat) : clr l o 0 = l := by unfold clr; simp
/-- Noughts are laid over bytes. -/
theorem ByA.zero {g : Nat} {rest : List Value} : ∀ (n : Nat) {W : World} {l : List Nat} {o : Nat}, ByA W g l rest → o + n ≤ l.length → ByA (W.setCells g o (byC (List.replicate n 0))) g (clr l o n) rest
  | 0, W, l, o, h, _ => by rw [clr_0]; exact h
  | n + 1, W, l, o, h, hn => by
    have h1 := h.set_ (i := o) (by omega) 0
    have h2 := ByA.zero n h1 (o := o + 1) (by rw [List.length_set]; omega)
    rw [clr_set hn] at h2
    exact h2
/-- All but a call's own bytes and map stays. -/
structure KpB (gb : Nat) (W W' : World) : Prop where
  os : W'.os = W.os
  tape : W'.tape = W.tape
  output : W'.output = W.output
  size : W.heap.size ≤ W'.heap.size
  block : ∀ k, k < W.heap.size → k ≠ gb → k ≠ gb + 2 → W'.heap[k]? = W.heap[k]?
theorem KpB.refl (gb : Nat) (W : World) : KpB gb W W := ⟨rfl, rfl, rfl, Nat.le_refl _, fun _ _ _ _ => rfl⟩
theorem KpB.trans {gb : Nat} {A B C : World} (h : KpB gb A B) (k : KpB gb B C) : KpB gb A C :=
  ⟨k.os.trans h.os, k.tape.trans h.tape, k.output.trans h.output, Nat.le_trans h.size k.size, fun i hi h1 h2 => (k.block i (Nat.lt_of_lt_of_le hi h.size) h1 h2).trans (h.block i hi h1 h2)⟩
theorem KpB.of {gb : Nat} {W W' : World} (h : Below W.heap.size W W') : KpB gb W W' := ⟨h.os, h.tape, h.output, h.size, fun k hk _ _ => h.block k hk⟩
theorem KpB.setN {gb : Nat} {W : World} (o : Nat) (cs : List Value) : KpB gb W (W.setCells gb o cs) := by
  obtain ⟨a, b, c, d, e⟩ := setN_far gb cs o W
  exact ⟨a, b, c, Nat.le_of_eq d.symm, fun k _ h _ => e k h⟩
theorem KpB.upd {gb : Nat} {W W' : World} (h : W.grownBy W' (some (gb + 2))) : KpB gb W W' :=
  ⟨h.os, h.tape, h.output, h.size, fun k hk _ h2 => h.block k hk (fun e => h2 (by injection e))⟩
theorem KpB.gx {gb : Nat} {W W' : World} (h : Gx gb W W') : KpB gb W W' := ⟨h.os, h.tape, h.output, h.size, fun k hk h1 _ => h.block k hk h1⟩
theorem KpB.bk {gb : Nat} {W W' : World} (h : KpB gb W W') {g : Nat} {t : TypeId} {cs : Array Value} (hb : Bk W g t cs) (h1 : g ≠ gb) (h2 : g ≠ gb + 2) : Bk W' g t cs := (h.block g hb.lt h1 h2).trans hb
theorem KpB.cell {gb : Nat} {W W' : World} (h : KpB gb W W') {a : Addr} {v : Value} (hc : W.cell? a = some v) (h1 : a.block ≠ gb) (h2 : a.block ≠ gb + 2) : W'.cell? a = some v :=
  (World.cell?_of_block (w := W) (h.block a.block (World.block_lt_of_cell? W a hc) h1 h2)).trans hc
theorem KpB.bel {gb : Nat} {w W W' : World} (h : KpB gb W W') (hb : Below w.heap.size w W) (hg : w.heap.size ≤ gb) : Below w.heap.size w W' :=
  ⟨h.os.trans hb.os, h.tape.trans hb.tape, h.output.trans hb.output, Nat.le_trans hb.size h.size, fun k hk => (h.block k (Nat.lt_of_lt_of_le hk hb.size) (by omega) (by omega)).trans (hb.block k hk)⟩
theorem KpB.stps {gb base : Nat} {W W' : World} (h : KpB gb W W') {A : Option Addr} {n : Nat} {l : List Stp} (hs : StpsF base W A n l) (hb : gb + 2 < base) : StpsF base W' A n l := by
  refine ⟨⟨hs.1.1, fun i s hi => ?_⟩, hs.2⟩
  obtain ⟨b, o, he, c0, c1, c2, c3⟩ := hs.1.2 i s hi
  have hbb := hs.2 _ he
  dsimp only at hbb
  exact ⟨b, o, he, h.cell c0 (by dsimp only; omega) (by dsimp only; omega), h.cell c1 (by dsimp only; omega) (by dsimp only; omega), h.cell c2 (by dsimp only; omega) (by dsimp only; omega), h.cell c3 (by dsimp only; omega) (by dsimp only; omega)⟩
/-- What Make keeps in memory: the bytes, noughts, which member of which union was led through last. -/
structure MkM (w : World) (gb n : Nat) (v0 v1 v2 v3 v4 v5 v6 : Value) (st : Mst) (W : World) : Prop where
  by_ : ByA W gb st.1 []
  no : ByA W (gb + 1) (List.replicate n 0) []
  mp : ∃ L, MapA W (gb + 2) L ∧ ∀ k, valL L k = st.2 k
  bel : Below w.heap.size w W
  g2 : Bk W w.heap.size 38 #[v0, v1, v2, v3, v4, v5, v6]
  len : st.1.length = n
  lt : ∀ x ∈ st.1, x < 256
theorem MkM.below {w : World} {gb n : Nat} {v0 v1 v2 v3 v4 v5 v6 : Value} {st : Mst} {W W' : World} (h : MkM w gb n v0 v1 v2 v3 v4 v5 v6 st W) (hb : Below W.heap.size W W') : MkM w gb n v0 v1 v2 v3 v4 v5 v6 st W' := by
  obtain ⟨L, h1, h2⟩ := h.mp
  exact ⟨h.by_.below hb h.by_.lt, h.no.below hb h.no.lt, ⟨L, h1.below hb h1.lt, h2⟩, bel_then h.bel hb, h.g2.below hb h.g2.lt, h.len, h.lt⟩
theorem ByA.of_block {W W' : World} {g : Nat} {l : List Nat} {rest : List Value} (h : ByA W g l rest) (e : W'.heap[g]? = W.heap[g]?) : ByA W' g l rest := by
  obtain ⟨lo, hi, a, b⟩ := h
  exact ⟨lo, hi, e.trans a, b⟩
theorem MapA.of_block {W W' : World} {m : Nat} {L : List (Uky × Int)} (h : MapA W m L) (e : W'.heap[m]? = W.heap[m]?) : MapA W' m L := by
  obtain ⟨es, clock, a, b⟩ := h
  exact ⟨es, clock, e.trans a, b⟩
/-- Bytes are made nought. -/
theorem MkM.clr {w : World} {gb n : Nat} {v0 v1 v2 v3 v4 v5 v6 : Value} {st : Mst} {W : World} (h : MkM w gb n v0 v1 v2 v3 v4 v5 v6 st W) (hg : w.heap.size < gb) {a m : Nat} (hm : a + m ≤ n) :
    MkM w gb n v0 v1 v2 v3 v4 v5 v6 (clr st.1 a m, st.2) (W.setCells gb a (byC (List.replicate m 0))) := by
  have hk := KpB.setN (gb := gb) (W := W) a (byC (List.replicate m 0))
  obtain ⟨-, -, -, -, hf⟩ := setN_far gb (byC (List.replicate m 0)) a W
  obtain ⟨L, h1, h2⟩ := h.mp
  refine ⟨h.by_.zero m (by rw [h.len]; exact hm), h.no.of_block (hf _ (by omega)), ⟨L, h1.of_block (hf _ (by omega)), h2⟩, hk.bel h.bel (by omega), hk.bk h.g2 (by omega) (by omega), ?_, clr_lt h.lt⟩
  show (Go.Proofs.Ytcggghamnmflcaa.clr st.1 a m).length = n
  rw [clr_len (by rw [h.len]; exact hm), h.len]
/-- A union is met. -/
theorem MkM.upd {w : World} {gb n : Nat} {v0 v1 v2 v3 v4 v5 v6 : Value} {st : Mst} {W W' : World} (h : MkM w gb n v0 v1 v2 v3 v4 v5 v6 st W) (hg : w.heap.size < gb) {L : List (Uky × Int)} (hL : ∀ k, valL L k = st.2 k) (k : Uky) (v : Int)
    (hm : MapA W' (gb + 2) (updL L k v)) (hgr : W.grownBy W' (some (gb + 2))) : MkM w gb n v0 v1 v2 v3 v4 v5 v6 (st.1, fun k' => if k' = k then some v else st.2 k') W' := by
  have hk := KpB.upd hgr
  refine ⟨h.by_.of_block (hgr.block _ h.by_.lt (fun e => by injection e with e; omega)), h.no.of_block (hgr.block _ h.no.lt (fun e => by injection e with e; omega)), ⟨_, hm, fun k' => ?_⟩, hk.bel h.bel (by omega), hk.bk h.g2 (by omega) (by omega), h.len, h.lt⟩
  rw [valL_upd, hL]
/-- A value is written. -/
theorem MkM.write {w : World} {gb n : Nat} {v0 v1 v2 v3 v4 v5 v6 : Value} {st : Mst} {W W' : World} (h : MkM w gb n v0 v1 v2 v3 v4 v5 v6 st W) (hg : w.heap.size < gb) {bt u bs : Nat} (hb : bt + bs ≤ 8 * n)
    (hw : ByA W' gb (wrS st.1 bt u bs) []) (hx : Gx gb W W') : MkM w gb n v0 v1 v2 v3 v4 v5 v6 (wrS st.1 bt u bs, st.2) W' := by
  have hk := KpB.gx hx
  obtain ⟨L, h1, h2⟩ := h.mp
  refine ⟨hw, h.no.of_block (hx.block _ h.no.lt (by omega)), ⟨L, h1.of_block (hx.block _ h1.lt (by omega)), h2⟩, hk.bel h.bel (by omega), hk.bk h.g2 (by omega) (by omega), ?_, wrS_lt h.lt (by rw [h.len]; exact hb)⟩
  show (wrS st.1 bt u bs).length = n
  rw [wrS_len, h.len]
/-- 'copy(b[from:from+size], noughts)'. -/
theorem run_copy_by {w : World} (ty : TypeId) {g g2 off n m c c2 : Nat} {l : List Nat} {rest1 rest2 : List Value}
    (h1 : ByA w g l rest1) (h2 : ByA w g2 (List.replicate m 0) rest2) (hn : n ≤ m) (hf : off + n ≤ l.length) :
    (Builtin.copy_ #[75, 75] ty #[.slice (some ⟨g, off, none⟩) n c, .slice (some ⟨g2, 0, none⟩) m c2]).run Try.prog w = .ok (.int .i64 (n : Int)) (w.setCells g off (byC (List.replicate n 0))) := by
  have hl : (byC (List.replicate n 0)).length = n := by simp [byC]
  have hrun := run_copy_cells (P := Try.prog) w 75 75 ty 5 g off n c ⟨g2, 0, none⟩ m c2 (byC (List.replicate n 0)) Try.underlying75 (by kernel_rfl) (by rw [hl]; exact (Nat.min_eq_right hn).symm)
    (fun j v hv => by
      rw [add_off _ rfl, Nat.zero_add]
      have hj : j < n := by rw [← hl]; exact (List.getElem?_eq_some_iff.1 hv).1
      refine h2.at_ ?_
      have e : v = .int .u8 0 := by
        simp [byC, hj] at hv
        exact hv.symm
      subst e
      simp [byC, List.getElem?_append, show j < m by omega])
    (fun j hj => by
      rw [hl] at hj
      have hlt : off + j < l.length := by omega
      rw [h1.at_ (i := off + j) (v := .int .u8 ((l[off + j] : Nat) : Int)) (by simp [byC, List.getElem?_append, hlt])]
      rfl)
    (fun j hj => h1.frozen (by rw [hl] at hj; omega))
    (fun v hv => by
      simp only [byC, List.mem_map] at hv
      obtain ⟨x, _, rfl⟩ := hv
      rfl)
  rw [hl] at hrun
  exact hrun
end Go.Proofs.Ytcggghamnmflcaa

/- Walks of the iterator over members and their boxes. -/
import Derived.RangeFuncNested
import Derived.RangeFuncBound
import Derived.RangeFuncCalls
import Derived.RangeFuncLeaves
import Derived.Shelf.Abstract
import Derived.Shelf.RegionOpen
import Derived.WalkKit
import Derived.OwnWalkIn
import Derived.TacticsInMore
import Derived.LoopNIn
import Derived.LoopIn
import Derived.Test.YtcggghamnmflcaaSwc
import Derived.Test.YtcggghamnmflcaaSwd
namespace Go.Proofs.Ytcggghamnmflcaa
open Go Go.RowKit Go.Shelf
attribute [local go_sem] Oper.semAt_some

/-- A box that is handed on: its numbers, its slice, its error. -/
structure BxV where
  sz : Int
  ag : Int
  A : Option Addr
  n : Nat
  c : Nat
  er : Int
  ok : (er = 0 ∧ 1 ≤ sz ∧ sz ≤ 65536 ∧ 1 ≤ ag ∧ ag ≤ 64) ∨ er = 100 ∨ er = 101
def BxV.encs (x : BxV) : Array Value := #[.agg #[.int .i64 x.sz, .int .i64 x.ag, .slice x.A x.n x.c], .int .i64 x.er]
/-- Spots lie in a row of three cells each. -/
def SptsAt (w : World) (A : Option Addr) (n : Nat) (l : List Spt) : Prop :=
  n = l.length ∧ ∀ i s, l[i]? = some s → ∃ b o, A = some ⟨b, o, none⟩ ∧ w.cell? ⟨b, o + i * 3, none⟩ = some (.int .i64 s.bit) ∧ w.cell? ⟨b, o + i * 3 + 1, none⟩ = some (.int .i64 s.bits) ∧ w.cell? ⟨b, o + i * 3 + 2, none⟩ = some (.int .i64 s.k)
theorem SptsAt.below {w w1 : World} {A : Option Addr} {n : Nat} {l : List Spt} (h : SptsAt w A n l) (hb : Below w.heap.size w w1) : SptsAt w1 A n l :=
  ⟨h.1, fun i s hs => by
    obtain ⟨b, o, ha, h0, h1, h2⟩ := h.2 i s hs
    exact ⟨b, o, ha, bel_cell hb h0, bel_cell hb h1, bel_cell hb h2⟩⟩
/-- Spots in new memory. -/
def Spts (base : Nat) (w : World) (A : Option Addr) (n : Nat) (l : List Spt) : Prop := SptsAt w A n l ∧ ∀ a, A = some a → base ≤ a.block
/-- What lie is to answer, for all types of depth deep. -/
def LieC (deep : Int) : Prop := ∀ (d : Nat) (t : Tp d) (v0 v1 v2 v3 v4 v5 v6 : Value) (w : World), TyAt w d t [v0, v1, v2, v3, v4, v5, v6] →
  Calls Try.prog 77 #[.agg #[v0, v1, v2, v3, v4, v5, v6], .int .i64 deep] w fun e w' => ∃ x : BxV, e = .returned (.tuple #[.agg #[.int .i64 x.sz, .int .i64 x.ag, .slice x.A x.n x.c], .int .i64 x.er]) ∧ x.er = lieE d t deep ∧ (x.er = 0 → ∀ b, boxS d t = some b → x.sz = b.size ∧ x.ag = b.align ∧ Spts w.heap.size w' x.A x.n b.l) ∧ Below w.heap.size w w'
/-- What a member comes to. -/
def fldE (d : Nat) (f : Fld (Tp d)) (deep : Int) : Int := if isFieldS f.nm (tsh d f.t) (tk d f.t) f.bits = true then lieE d f.t deep else 100
theorem cell_new (W : World) (cs : Array Value) (T : TypeId) (j : Nat) (v : Value) (h : cs[j]? = some v) : (W.alloc (.cells cs T)).cell? ⟨W.heap.size, j, none⟩ = some v := by
  rw [← h]; exact cell_of_row (W.alloc (.cells cs T)) W.heap.size j cs T (0, 0) (heap_alloc_new W _)
def FldR (d : Nat) (deep : Int) (f : Fld (Tp d)) (x : BxV) : Prop := x.er = fldE d f deep ∧ (x.er = 0 → ∀ b, boxS d f.t = some b → x.sz = b.size ∧ x.ag = b.align)
def PreR (d : Nat) (deep : Int) (l : List (Fld (Tp d))) (pre : List BxV) : Prop := ∀ (j : Nat) (x : BxV) (f : Fld (Tp d)), pre[j]? = some x → l[j]? = some f → FldR d deep f x
theorem pre_snoc {d : Nat} {deep : Int} {l : List (Fld (Tp d))} {pre : List BxV} {k : Nat} {f : Fld (Tp d)} {x : BxV} (h : PreR d deep l pre) (hk : pre.length = k) (hf : l[k]? = some f) (hx : FldR d deep f x) : PreR d deep l (pre ++ [x]) := by
  intro j y g hy hg
  rw [List.getElem?_append] at hy
  split at hy
  · exact h j y g hy hg
  · rename_i hge
    have hj : j = k := by
      rcases Nat.lt_or_ge (j - pre.length) 1 with h1 | h1
      · omega
      · rw [List.getElem?_eq_none (by simpa using h1)] at hy; cases hy
    subst hj
    rw [hk, Nat.sub_self] at hy
    simp at hy
    rw [hf] at hg
    cases hg
    subst hy
    exact hx
theorem er_snoc {pre : List BxV} {x : BxV} (h : ∀ y ∈ pre, y.er = 0) (hx : x.er = 0) : ∀ y ∈ pre ++ [x], y.er = 0 := by
  intro y hy
  rcases List.mem_append.1 hy with hy | hy
  · exact h y hy
  · simp at hy; rw [hy]; exact hx
theorem fldE_100 {d : Nat} {f : Fld (Tp d)} {deep : Int} (h : 100 = lieE d f.t deep) : 100 = fldE d f deep := by
  unfold fldE
  split
  · exact h
  · rfl
theorem grown_none {w w1 : World} (h : Below w.heap.size w w1) : w.grownBy w1 none := ⟨h.os, h.tape, h.output, h.size, fun i hi _ => h.block i hi⟩
/-- What a round over boxes must keep. -/
def BxK (n₀ Lb Db : Nat) (W W' : World) : Prop := Below n₀ W W' ∧ W'.heap[Lb]? = W.heap[Lb]? ∧ W'.heap[Db]? = W.heap[Db]?

theorem wide_fn (k : FuncId) : Fence.wide.fn k = True := rfl
attribute [local go_sem] wide_fn
theorem boxes_c (A : Option Addr) (n c : Nat) (deep : Int) (w : World) : Calls Try.prog 119 #[.slice A n c, .int .i64 deep] w fun e w' => e = .returned (.func (.func 128) #[] #[.pointer (some ⟨w.heap.size, 0, none⟩), .pointer (some ⟨w.heap.size + 1, 0, none⟩)]) ∧ (w.alloc (.cells #[.slice A n c] 36)).alloc (.cells #[.int .i64 deep] 3) = w' := by
  go_enter Try.func119, Try.ntmps119
  go_wp2
  go_ret
  exact ⟨rfl, rfl⟩

set_option maxRecDepth 100000 in
set_option maxHeartbeats 2000000 in
theorem boxes1_in (deep : Int) (hL : LieC deep) (n : Nat) (hn : 1 ≤ n) (l₀ : Nat) {d : Nat} (A : Option Addr) (c : Nat) (l : List (Fld (Tp d))) (w0 : World) (Lb Db : Nat) (hF : FdsAt w0 d A l) (hc : l.length ≤ c) (hm : c ≤ 9223372036854775807)
    (J Jx : List BxV → World → Prop) (W : World) (hJ : AbidesFrom W.heap.size J) (hB0 : Below w0.heap.size w0 W)
    (hLb : W.cell? ⟨Lb, 0, none⟩ = some (.slice A l.length c)) (hDb : W.cell? ⟨Db, 0, none⟩ = some (.int .i64 deep))
    (hY : ∀ pre x W1, J pre W1 → pre.length < l.length → YieldAt Fence.wide (n - 1) Try.prog l₀ x.encs W1 fun e W' =>
      (e = .returned (.bool true) ∧ J (pre ++ [x]) W' ∧ BxK w0.heap.size Lb Db W1 W') ∨ (e = .returned (.bool false) ∧ Jx (pre ++ [x]) W'))
    (h0 : J [] W) :
    CallsIn Fence.wide n Try.prog 128 #[.func (.yield l₀) #[] #[], .pointer (some ⟨Lb, 0, none⟩), .pointer (some ⟨Db, 0, none⟩)] W fun e W' => (∃ v, e = .returned v) ∧
      ((∃ xs, (PreR d deep l xs ∧ ((∀ x ∈ xs, x.er = 0) → xs.length = l.length)) ∧ J xs W') ∨ (∃ pre, PreR d deep l pre ∧ Jx pre W')) := by
  have hlen : l.length ≤ 9223372036854775807 := by omega
  refine callsIn_of_wp Try.func128 rfl trivial ?_ rfl
  simp only [Try.ntmps128, List.size_toArray, List.length_cons, List.length_nil, Nat.reduceAdd, Nat.reduceSub, Array.replicate_succ, Array.replicate_zero, List.push_toArray, List.append_toArray, List.nil_append, List.cons_append]
  gi_wp2
  gi_loopw [10] (fun i wr => ∃ (k : Nat) (pre : List BxV), i = .int .i64 k ∧ pre.length = k ∧ k ≤ l.length ∧ PreR d deep l pre ∧ (∀ x ∈ pre, x.er = 0) ∧ J pre wr ∧ Below w0.heap.size w0 wr ∧ wr.cell? ⟨Lb, 0, none⟩ = some (.slice A l.length c) ∧ wr.cell? ⟨Db, 0, none⟩ = some (.int .i64 deep))
    (fun i _ => l.length - (intOf i).toNat)
  case atStart => exact ⟨0, [], rfl, rfl, Nat.zero_le _, fun j x f hx => by simp at hx, fun x hx => by simp at hx, h0, hB0, hLb, hDb⟩
  case round =>
    obtain ⟨k, pre, rfl, hpl, hk, hpre, her, hJs, hB, hLw, hDw⟩ := hrel
    by_cases hlt : k < l.length
    · obtain ⟨f, hf⟩ : ∃ f, l[k]? = some f := ⟨_, List.getElem?_eq_getElem hlt⟩
      obtain ⟨b, o, nn, A1, A2, n1, n2, c1, c2, pk, al, hA, hbt, hnm, hty, q0, q1, q2, q3, q4, q5, q6, q7, q8⟩ := (hF.below hB).at_ hf
      subst hA
      have HF := Lib.hid hf
      clear hf
      have hDl := World.block_lt_of_cell? wr _ hDw
      simp only at hDl
      gi_wp2_with fail
      refine (callsIn_wide.2 (hL d f.t _ _ _ _ _ _ _ _ (hty.below (bel_alloc (Below.refl _ _) _)))).mono ?_
      rintro e w1 ⟨x, rfl, hxe, hxb, hb1⟩
      have p0 : w1.cell? ⟨wr.heap.size, 0, none⟩ = some (.string f.nm) := bel_cell hb1 (cell_new _ _ _ 0 _ rfl)
      have p1 : w1.cell? ⟨wr.heap.size, 1, none⟩ = some (.int .i64 (tsh d f.t)) := bel_cell hb1 (cell_new _ _ _ 1 _ rfl)
      have p2 : w1.cell? ⟨wr.heap.size, 2, none⟩ = some (.int .i64 (tk d f.t)) := bel_cell hb1 (cell_new _ _ _ 2 _ rfl)
      have p3 : w1.cell? ⟨wr.heap.size, 3, none⟩ = some (.int .i64 nn) := bel_cell hb1 (cell_new _ _ _ 3 _ rfl)
      have p4 : w1.cell? ⟨wr.heap.size, 4, none⟩ = some (.slice A1 n1 c1) := bel_cell hb1 (cell_new _ _ _ 4 _ rfl)
      have p5 : w1.cell? ⟨wr.heap.size, 5, none⟩ = some (.slice A2 n2 c2) := bel_cell hb1 (cell_new _ _ _ 5 _ rfl)
      have p6 : w1.cell? ⟨wr.heap.size, 6, none⟩ = some (.bool pk) := bel_cell hb1 (cell_new _ _ _ 6 _ rfl)
      have p7 : w1.cell? ⟨wr.heap.size, 7, none⟩ = some (.int .i64 al) := bel_cell hb1 (cell_new _ _ _ 7 _ rfl)
      have p8 : w1.cell? ⟨wr.heap.size, 8, none⟩ = some (.int .i64 f.bits) := bel_cell hb1 (cell_new _ _ _ 8 _ rfl)
      have hs1 : wr.heap.size + 1 ≤ w1.heap.size := by have := hb1.size; simpa using this
      have hs2 : wr.heap.size < w1.heap.size := by omega
      obtain ⟨xsz, xag, xA, xn, xc, xer, xok⟩ := x
      have HE := Lib.hid hxe
      have HB := Lib.hid hxb
      clear hxe hxb
      rcases xok with ⟨rfl, k1, k2, k3, k4⟩ | rfl | rfl
      · gi_wp2_with fail
        refine (callsIn_wide.2 (isField_c f.nm (tsh d f.t) (tk d f.t) nn al f.bits A1 A2 n1 n2 c1 c2 pk _)).mono ?_
        rintro e w2 ⟨rfl, hb2⟩
        have r0 : w2.cell? ⟨w1.heap.size, 0, none⟩ = some (.int .i64 xsz) := bel_cell hb2 (cell_new _ _ _ 0 _ rfl)
        have r1 : w2.cell? ⟨w1.heap.size, 1, none⟩ = some (.int .i64 xag) := bel_cell hb2 (cell_new _ _ _ 1 _ rfl)
        have r2 : w2.cell? ⟨w1.heap.size, 2, none⟩ = some (.slice xA xn xc) := bel_cell hb2 (cell_new _ _ _ 2 _ rfl)
        clear p0 p1 p2 p3 p4 p5 p6 p7 p8 q0 q1 q2 q3 q4 q5 q6 q7 q8
        cases hfd : isFieldS f.nm (tsh d f.t) (tk d f.t) f.bits with
        | true =>
          have HFD := Lib.hid hfd
          clear hfd
          have hW2 : Below wr.heap.size wr (w2) := bel_then (bel_alloc (bel_then (bel_alloc (Below.refl _ _) _) hb1) _) hb2
          have hJ2 : J pre (w2) := hJ pre wr _ none hJs (grown_none hW2) (by simp)
          obtain ⟨fn, tmps, assign, body, hy, hR⟩ := hY pre ⟨xsz, xag, xA, xn, xc, 0, .inl ⟨rfl, k1, k2, k3, k4⟩⟩ _ hJ2 (by omega)
          dsimp only [BxV.encs] at hy
          have hlen2 : pre.length < l.length := by omega
          gi_wp2_with fail
          refine hR.mono ?_
          rintro e W3 (⟨rfl, hJ3, hk3⟩ | ⟨rfl, hJx3⟩)
          · clear hy hR
            gi_wp2_with fail
            go_roundw
            case rel => exact ⟨k + 1, pre ++ [⟨xsz, xag, xA, xn, xc, 0, .inl ⟨rfl, k1, k2, k3, k4⟩⟩], by go_num, by simp; omega, by omega, pre_snoc hpre hpl HF.out ⟨by unfold fldE; rw [if_pos HFD.out]; exact HE.out, fun _ b hb => ⟨(HB.out trivial b hb).1, (HB.out trivial b hb).2.1⟩⟩, er_snoc her rfl, hJ3, (hB.trans (hW2.mono hB.size)).trans hk3.1, (World.cell?_of_block hk3.2.1).trans (bel_cell hW2 hLw), (World.cell?_of_block hk3.2.2).trans (bel_cell hW2 hDw)⟩
            case measure => simp [intOf]; omega
          · clear hy hR
            gi_wp2_with fail
            refine bodyPost_ret (results_none rfl _ _ _) rfl ?_
            exact ⟨⟨_, rfl⟩, .inr ⟨pre ++ [⟨xsz, xag, xA, xn, xc, 0, .inl ⟨rfl, k1, k2, k3, k4⟩⟩], pre_snoc hpre hpl HF.out ⟨by unfold fldE; rw [if_pos HFD.out]; exact HE.out, fun _ b hb => ⟨(HB.out trivial b hb).1, (HB.out trivial b hb).2.1⟩⟩, hJx3⟩⟩
        | false =>
          have HFD := Lib.hid hfd
          clear hfd
          have hW2 : Below wr.heap.size wr (w2) := bel_then (bel_alloc (bel_then (bel_alloc (Below.refl _ _) _) hb1) _) hb2
          have hJ2 : J pre (w2) := hJ pre wr _ none hJs (grown_none hW2) (by simp)
          obtain ⟨fn, tmps, assign, body, hy, hR⟩ := hY pre ⟨xsz, xag, xA, xn, xc, 100, .inr (.inl rfl)⟩ _ hJ2 (by omega)
          dsimp only [BxV.encs] at hy
          have hlen2 : pre.length < l.length := by omega
          gi_wp2_with fail
          refine hR.mono ?_
          rintro e W3 (⟨rfl, hJ3, hk3⟩ | ⟨rfl, hJx3⟩)
          · clear hy hR
            gi_wp2_with fail
            refine bodyPost_ret (results_none rfl _ _ _) rfl ?_
            exact ⟨⟨_, rfl⟩, .inl ⟨pre ++ [⟨xsz, xag, xA, xn, xc, 100, .inr (.inl rfl)⟩], ⟨pre_snoc hpre hpl HF.out ⟨by unfold fldE; rw [HFD.out]; rfl, fun h => by simp at h⟩, fun h0 => absurd (h0 ⟨xsz, xag, xA, xn, xc, 100, .inr (.inl rfl)⟩ (by simp)) (by simp)⟩, hJ3⟩⟩
          · clear hy hR
            gi_wp2_with fail
            refine bodyPost_ret (results_none rfl _ _ _) rfl ?_
            exact ⟨⟨_, rfl⟩, .inr ⟨pre ++ [⟨xsz, xag, xA, xn, xc, 100, .inr (.inl rfl)⟩], pre_snoc hpre hpl HF.out ⟨by unfold fldE; rw [HFD.out]; rfl, fun h => by simp at h⟩, hJx3⟩⟩
      · clear p0 p1 p2 p3 p4 p5 p6 p7 p8 q0 q1 q2 q3 q4 q5 q6 q7 q8
        have hW2 : Below wr.heap.size wr (w1.alloc (.cells #[.int .i64 xsz, .int .i64 xag, .slice xA xn xc] 99)) := bel_alloc (bel_then (bel_alloc (Below.refl _ _) _) hb1) _
        have hJ2 : J pre (w1.alloc (.cells #[.int .i64 xsz, .int .i64 xag, .slice xA xn xc] 99)) := hJ pre wr _ none hJs (grown_none hW2) (by simp)
        obtain ⟨fn, tmps, assign, body, hy, hR⟩ := hY pre ⟨xsz, xag, xA, xn, xc, 100, .inr (.inl rfl)⟩ _ hJ2 (by omega)
        dsimp only [BxV.encs] at hy
        have hlen2 : pre.length < l.length := by omega
        gi_wp2_with fail
        refine hR.mono ?_
        rintro e W3 (⟨rfl, hJ3, hk3⟩ | ⟨rfl, hJx3⟩)
        · clear hy hR
          gi_wp2_with fail
          refine bodyPost_ret (results_none rfl _ _ _) rfl ?_
          exact ⟨⟨_, rfl⟩, .inl ⟨pre ++ [⟨xsz, xag, xA, xn, xc, 100, .inr (.inl rfl)⟩], ⟨pre_snoc hpre hpl HF.out ⟨fldE_100 HE.out, fun h => by simp at h⟩, fun h0 => absurd (h0 ⟨xsz, xag, xA, xn, xc, 100, .inr (.inl rfl)⟩ (by simp)) (by simp)⟩, hJ3⟩⟩
        · clear hy hR
          gi_wp2_with fail
          refine bodyPost_ret (results_none rfl _ _ _) rfl ?_
          exact ⟨⟨_, rfl⟩, .inr ⟨pre ++ [⟨xsz, xag, xA, xn, xc, 100, .inr (.inl rfl)⟩], pre_snoc hpre hpl HF.out ⟨fldE_100 HE.out, fun h => by simp at h⟩, hJx3⟩⟩
      · gi_wp2_with fail
        refine (callsIn_wide.2 (isField_c f.nm (tsh d f.t) (tk d f.t) nn al f.bits A1 A2 n1 n2 c1 c2 pk _)).mono ?_
        rintro e w2 ⟨rfl, hb2⟩
        have r0 : w2.cell? ⟨w1.heap.size, 0, none⟩ = some (.int .i64 xsz) := bel_cell hb2 (cell_new _ _ _ 0 _ rfl)
        have r1 : w2.cell? ⟨w1.heap.size, 1, none⟩ = some (.int .i64 xag) := bel_cell hb2 (cell_new _ _ _ 1 _ rfl)
        have r2 : w2.cell? ⟨w1.heap.size, 2, none⟩ = some (.slice xA xn xc) := bel_cell hb2 (cell_new _ _ _ 2 _ rfl)
        clear p0 p1 p2 p3 p4 p5 p6 p7 p8 q0 q1 q2 q3 q4 q5 q6 q7 q8
        cases hfd : isFieldS f.nm (tsh d f.t) (tk d f.t) f.bits with
        | true =>
          have HFD := Lib.hid hfd
          clear hfd
          have hW2 : Below wr.heap.size wr (w2) := bel_then (bel_alloc (bel_then (bel_alloc (Below.refl _ _) _) hb1) _) hb2
          have hJ2 : J pre (w2) := hJ pre wr _ none hJs (grown_none hW2) (by simp)
          obtain ⟨fn, tmps, assign, body, hy, hR⟩ := hY pre ⟨xsz, xag, xA, xn, xc, 101, .inr (.inr rfl)⟩ _ hJ2 (by omega)
          dsimp only [BxV.encs] at hy
          have hlen2 : pre.length < l.length := by omega
          gi_wp2_with fail
          refine hR.mono ?_
          rintro e W3 (⟨rfl, hJ3, hk3⟩ | ⟨rfl, hJx3⟩)
          · clear hy hR
            gi_wp2_with fail
            refine bodyPost_ret (results_none rfl _ _ _) rfl ?_
            exact ⟨⟨_, rfl⟩, .inl ⟨pre ++ [⟨xsz, xag, xA, xn, xc, 101, .inr (.inr rfl)⟩], ⟨pre_snoc hpre hpl HF.out ⟨by unfold fldE; rw [if_pos HFD.out]; exact HE.out, fun h => by simp at h⟩, fun h0 => absurd (h0 ⟨xsz, xag, xA, xn, xc, 101, .inr (.inr rfl)⟩ (by simp)) (by simp)⟩, hJ3⟩⟩
          · clear hy hR
            gi_wp2_with fail
            refine bodyPost_ret (results_none rfl _ _ _) rfl ?_
            exact ⟨⟨_, rfl⟩, .inr ⟨pre ++ [⟨xsz, xag, xA, xn, xc, 101, .inr (.inr rfl)⟩], pre_snoc hpre hpl HF.out ⟨by unfold fldE; rw [if_pos HFD.out]; exact HE.out, fun h => by simp at h⟩, hJx3⟩⟩
        | false =>
          have HFD := Lib.hid hfd
          clear hfd
          have hW2 : Below wr.heap.size wr (w2) := bel_then (bel_alloc (bel_then (bel_alloc (Below.refl _ _) _) hb1) _) hb2
          have hJ2 : J pre (w2) := hJ pre wr _ none hJs (grown_none hW2) (by simp)
          obtain ⟨fn, tmps, assign, body, hy, hR⟩ := hY pre ⟨xsz, xag, xA, xn, xc, 100, .inr (.inl rfl)⟩ _ hJ2 (by omega)
          dsimp only [BxV.encs] at hy
          have hlen2 : pre.length < l.length := by omega
          gi_wp2_with fail
          refine hR.mono ?_
          rintro e W3 (⟨rfl, hJ3, hk3⟩ | ⟨rfl, hJx3⟩)
          · clear hy hR
            gi_wp2_with fail
            refine bodyPost_ret (results_none rfl _ _ _) rfl ?_
            exact ⟨⟨_, rfl⟩, .inl ⟨pre ++ [⟨xsz, xag, xA, xn, xc, 100, .inr (.inl rfl)⟩], ⟨pre_snoc hpre hpl HF.out ⟨by unfold fldE; rw [HFD.out]; rfl, fun h => by simp at h⟩, fun h0 => absurd (h0 ⟨xsz, xag, xA, xn, xc, 100, .inr (.inl rfl)⟩ (by simp)) (by simp)⟩, hJ3⟩⟩
          · clear hy hR
            gi_wp2_with fail
            refine bodyPost_ret (results_none rfl _ _ _) rfl ?_
            exact ⟨⟨_, rfl⟩, .inr ⟨pre ++ [⟨xsz, xag, xA, xn, xc, 100, .inr (.inl rfl)⟩], pre_snoc hpre hpl HF.out ⟨by unfold fldE; rw [HFD.out]; rfl, fun h => by simp at h⟩, hJx3⟩⟩
    · have hge : l.length ≤ k := by omega
      gi_wp2
      go_end0
      exact ⟨⟨_, rfl⟩, .inl ⟨pre, ⟨hpre, fun _ => by omega⟩, hJs⟩⟩
end Go.Proofs.Ytcggghamnmflcaa

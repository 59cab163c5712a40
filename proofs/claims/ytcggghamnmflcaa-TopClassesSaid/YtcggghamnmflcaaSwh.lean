/- The walk of shape.later. -/
import Derived.Test.YtcggghamnmflcaaSwe
namespace Go.Proofs.Ytcggghamnmflcaa
open Go Go.RowKit
def laterS (d : Nat) (l : List (Fld (Tp d))) (deep : Int) : Int := if (l.all fun f => fldE d f deep != 100) = true then 101 else 100
theorem later_no {d : Nat} {l : List (Fld (Tp d))} {deep : Int} {k : Nat} {f : Fld (Tp d)} (hf : l[k]? = some f) (h : fldE d f deep = 100) : laterS d l deep = 100 := by
  unfold laterS
  rw [if_neg]
  intro ha
  have := List.all_eq_true.1 ha f (List.mem_of_getElem? hf)
  rw [h] at this
  cases this
theorem take_all_snoc {d : Nat} {l : List (Fld (Tp d))} {deep : Int} {k : Nat} {f : Fld (Tp d)} (hf : l[k]? = some f) (h : ((l.take k).all fun f => fldE d f deep != 100) = true) (h2 : (fldE d f deep != 100) = true) : ((l.take (k + 1)).all fun f => fldE d f deep != 100) = true := by
  rw [take_snoc_of hf, List.all_append, h]
  simpa using h2
set_option maxRecDepth 100000 in
set_option maxHeartbeats 2000000 in
theorem later_c (deep : Int) (hL : LieC deep) {d : Nat} (A : Option Addr) (c : Nat) (l : List (Fld (Tp d))) (w : World) (hF : FdsAt w d A l) (hc : l.length ≤ c) (hm : c ≤ 9223372036854775807) :
    Calls Try.prog 120 #[.slice A l.length c, .int .i64 deep] w fun e w' => e = .returned (.int .i64 (laterS d l deep)) ∧ Below w.heap.size w w' := by
  have hlen : l.length ≤ 9223372036854775807 := by omega
  go_enter Try.func120, Try.ntmps120
  go_wp2
  go_loopw [11] (fun i wr => ∃ k : Nat, k ≤ l.length ∧ i = .int .i64 k ∧ ((l.take k).all fun f => fldE d f deep != 100) = true ∧ Below w.heap.size w wr)
    (fun i _ => l.length - (intOf i).toNat)
  case atStart => exact ⟨0, Nat.zero_le _, rfl, rfl, Below.refl _ _⟩
  case round =>
    obtain ⟨k, hk, rfl, hp, hB⟩ := hrel
    have HP := Lib.hid hp
    clear hp
    by_cases hlt : k < l.length
    · obtain ⟨f, hf⟩ : ∃ f, l[k]? = some f := ⟨_, List.getElem?_eq_getElem hlt⟩
      obtain ⟨b, o, nn, A1, A2, n1, n2, c1, c2, pk, al, hA, hbt, hnm, hty, q0, q1, q2, q3, q4, q5, q6, q7, q8⟩ := (hF.below hB).at_ hf
      subst hA
      have HF := Lib.hid hf
      clear hf
      go_wp2_with fail
      refine (hL d f.t _ _ _ _ _ _ _ _ (hty.below (bel_alloc (Below.refl _ _) _))).mono ?_
      rintro e w1 ⟨x, rfl, hxe, hxb, hb1⟩
      have p0 : w1.cell? ⟨wr.heap.size, 0, none⟩ = some (.string f.nm) := bel_cell hb1 (cell_new _ _ _ 0 _ rfl)
      have p1 : w1.cell? ⟨wr.heap.size, 1, none⟩ = some (.int .i64 (tsh d f.t)) := bel_cell hb1 (cell_new _ _ _ 1 _ rfl)
      have p2 : w1.cell? ⟨wr.heap.size, 2, none⟩ = some (.int .i64 (tk d f.t)) := bel_cell hb1 (cell_new _ _ _ 2 _ rfl)
      have p3 : w1.cell? ⟨wr.heap.size, 3, none⟩ = some (.int .i64 nn) := bel_cell hb1 (cell_new _ _ _ 3 _ rfl)
      have p4 : w1.cell? ⟨wr.heap.size, 4, none⟩ = some (.slice A1 n1 c1) := bel_cell hb1 (cell_new _ _ _ 4 _ rfl)
      have p5 : w1.cell? ⟨wr.heap.size, 5, none⟩ = some (.slice A2 n2 c2) := bel_cell hb1 (cell_new _ _ _ 5 _ rfl)
      have p6 : w1.cell? ⟨wr.heap.size, 6, none⟩ = some (.bool pk) := bel_cell hb1 (cell_new _ _ _ 6 _ rfl)
      have p7 : w1.cell? ⟨wr.heap.size, 7, none⟩ = some (.int .i64 al) := bel_cell hb1 (cell_new _ _ _ 7 _ rfl)
      have p8 : w1.cell? ⟨wr.heap.size, 8, none⟩ = some (.int .i64 f.bits) := bel_cell hb1 (cell_new _ _ _ 8 _ rfl)
      have hs1 : wr.heap.size + 1 ≤ w1.heap.size := by have := hb1.size; simpa using this
      have hs2 : wr.heap.size < w1.heap.size := by omega
      obtain ⟨xsz, xag, xA, xn, xc, xer, xok⟩ := x
      have HE := Lib.hid hxe
      clear hxe hxb
      rcases xok with ⟨rfl, k1, k2, k3, k4⟩ | rfl | rfl
      · go_wp2_with fail
        refine (isField_c f.nm (tsh d f.t) (tk d f.t) nn al f.bits A1 A2 n1 n2 c1 c2 pk _).mono ?_
        rintro e w2 ⟨rfl, hb2⟩
        have hB2 : Below wr.heap.size wr w2 := bel_then (bel_alloc (bel_then (bel_alloc (Below.refl _ _) _) hb1) _) hb2
        clear p0 p1 p2 p3 p4 p5 p6 p7 p8 q0 q1 q2 q3 q4 q5 q6 q7 q8 hb1 hb2
        cases hfd : isFieldS f.nm (tsh d f.t) (tk d f.t) f.bits with
        | true =>
          have HFD := Lib.hid hfd
          clear hfd
          go_wp2_with fail
          go_roundw
          case rel => exact ⟨k + 1, by omega, by go_num, take_all_snoc HF.out HP.out (by unfold fldE; rw [if_pos HFD.out, ← HE.out]; decide), bel_then hB hB2⟩
          case measure => simp [intOf]; omega
        | false =>
          have HFD := Lib.hid hfd
          clear hfd
          go_wp2_with fail
          go_ret
          exact ⟨by rw [later_no (HF.out) (by unfold fldE; rw [HFD.out]; rfl)]; rfl, bel_then hB hB2⟩
      · go_wp2_with fail
        go_ret
        exact ⟨by rw [later_no (HF.out) (fldE_100 HE.out).symm]; rfl, bel_then hB (bel_alloc (bel_then (bel_alloc (Below.refl _ _) _) hb1) _)⟩
      · go_wp2_with fail
        refine (isField_c f.nm (tsh d f.t) (tk d f.t) nn al f.bits A1 A2 n1 n2 c1 c2 pk _).mono ?_
        rintro e w2 ⟨rfl, hb2⟩
        have hB2 : Below wr.heap.size wr w2 := bel_then (bel_alloc (bel_then (bel_alloc (Below.refl _ _) _) hb1) _) hb2
        clear p0 p1 p2 p3 p4 p5 p6 p7 p8 q0 q1 q2 q3 q4 q5 q6 q7 q8 hb1 hb2
        cases hfd : isFieldS f.nm (tsh d f.t) (tk d f.t) f.bits with
        | true =>
          have HFD := Lib.hid hfd
          clear hfd
          go_wp2_with fail
          go_roundw
          case rel => exact ⟨k + 1, by omega, by go_num, take_all_snoc HF.out HP.out (by unfold fldE; rw [if_pos HFD.out, ← HE.out]; decide), bel_then hB hB2⟩
          case measure => simp [intOf]; omega
        | false =>
          have HFD := Lib.hid hfd
          clear hfd
          go_wp2_with fail
          go_ret
          exact ⟨by rw [later_no (HF.out) (by unfold fldE; rw [HFD.out]; rfl)]; rfl, bel_then hB hB2⟩
    · have hge : l.length ≤ k := by omega
      have hkl : k = l.length := by omega
      have HK := Lib.hid hkl
      clear hkl
      go_wp2
      go_ret
      exact ⟨by unfold laterS; rw [if_pos (by have := HP.out; rwa [HK.out, List.take_length] at this)]; rfl, hB⟩
end Go.Proofs.Ytcggghamnmflcaa

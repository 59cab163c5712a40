/- The contract of the reference's Of: whatever the words, it answers what kind.Of answers. -/
import Derived.Test.YtcggghamnmflcaaOff
namespace Go.Proofs.Ytcggghamnmflcaa
open Go Go.RowKit
set_option maxRecDepth 100000 in
set_option maxHeartbeats 4000000 in
theorem rof_c (A : Option Addr) (c : Nat) (l : List ByteArray) (w : World) (hF : StrsAt w A l) (hc : l.length ≤ c) (hm : c ≤ 9223372036854775807) :
    Calls Try.prog 43 #[.slice A l.length c] w fun e w' => e = .returned (.tuple #[.int .i64 (kofV (pl l)), .int .i64 (kofE (pl l))]) ∧ w = w' := by
  have hlen : l.length ≤ 9223372036854775807 := by omega
  have hsum := cnt_sum (pl l)
  have hl : (pl l).length = l.length := by simp [pl]
  have EV0 := kofV_is (pl l)
  have EE0 := kofE_is (pl l)
  have C0 := fun w' hF' => count_c A c l ⟨#[99, 104, 97, 114]⟩ w' hF' hc hm
  have C1 := fun w' hF' => count_c A c l ⟨#[115, 104, 111, 114, 116]⟩ w' hF' hc hm
  have C2 := fun w' hF' => count_c A c l ⟨#[108, 111, 110, 103]⟩ w' hF' hc hm
  have C3 := fun w' hF' => count_c A c l ⟨#[105, 110, 116]⟩ w' hF' hc hm
  have C4 := fun w' hF' => count_c A c l ⟨#[115, 105, 103, 110, 101, 100]⟩ w' hF' hc hm
  have C5 := fun w' hF' => count_c A c l ⟨#[117, 110, 115, 105, 103, 110, 101, 100]⟩ w' hF' hc hm
  rw [cntS_0] at C0
  rw [cntS_1] at C1
  rw [cntS_2] at C2
  rw [cntS_3] at C3
  rw [cntS_4] at C4
  rw [cntS_5] at C5
  rw [hl] at EV0 EE0 hsum
  generalize cnt (pl l) 0 = k0 at *
  generalize cnt (pl l) 1 = k1 at *
  generalize cnt (pl l) 2 = k2 at *
  generalize cnt (pl l) 3 = k3 at *
  generalize cnt (pl l) 4 = k4 at *
  generalize cnt (pl l) 5 = k5 at *
  generalize cnt (pl l) 6 = k6 at *
  have EV := Lib.hid EV0
  have EE := Lib.hid EE0
  clear EV0 EE0
  go_enter Try.func43, Try.ntmps43
  go_wp2_with (first | (go_at_call 81; (with_reducible refine (C0 _ hF).mono ?_); rintro e w' ⟨rfl, rfl⟩) | (go_at_call 81; (with_reducible refine (C1 _ hF).mono ?_); rintro e w' ⟨rfl, rfl⟩) | (go_at_call 81; (with_reducible refine (C2 _ hF).mono ?_); rintro e w' ⟨rfl, rfl⟩) | (go_at_call 81; (with_reducible refine (C3 _ hF).mono ?_); rintro e w' ⟨rfl, rfl⟩) | (go_at_call 81; (with_reducible refine (C4 _ hF).mono ?_); rintro e w' ⟨rfl, rfl⟩) | (go_at_call 81; (with_reducible refine (C5 _ hF).mono ?_); rintro e w' ⟨rfl, rfl⟩))
  all_goals
    go_ret2
    refine ⟨?_, rfl⟩
    rw [EV.out, EE.out]
    clear C0 C1 C2 C3 C4 C5 EV EE hF
    try (have hz : l.length = 0 := by rw [‹l = []›]; rfl)
    try simp only [beq_iff_eq, ne_eq, beq_eq_false_iff_ne] at *
    first | (rw [(of_bad (by unfold ofBad; omega)).1, (of_bad (by unfold ofBad; omega)).2]; rfl) | (rw [(of_good (by unfold ofBad; omega)).1, (of_good (by unfold ofBad; omega)).2]; first | exact ret_ii (by rw [if_pos (by omega)]) rfl | exact ret_ii (by rw [if_neg (by omega), if_pos (by omega)]) rfl | exact ret_ii (by rw [if_neg (by omega), if_neg (by omega), if_pos (by omega)]) rfl | exact ret_ii (by rw [if_neg (by omega), if_neg (by omega), if_neg (by omega)]) rfl)
end Go.Proofs.Ytcggghamnmflcaa

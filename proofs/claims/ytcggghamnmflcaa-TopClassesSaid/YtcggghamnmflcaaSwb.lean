/- Walks of shape's functions: where a member begins. -/
import Derived.Test.YtcggghamnmflcaaSwa
namespace Go.Proofs.Ytcggghamnmflcaa
open Go Go.RowKit

theorem unit_iff {a u b : Int} (hu : 0 < u) (h1 : 1 ≤ b) (h2 : b ≤ u) : (u < a % u + b) ↔ a / u ≠ (a + b - 1) / u := by
  have e := Int.mul_ediv_add_emod a u
  have r0 := Int.emod_nonneg a (show u ≠ 0 by omega)
  have r1 := Int.emod_lt_of_pos a hu
  generalize hq : a / u = q at *
  generalize hr : a % u = r at *
  have : (a + b - 1) / u = q + (r + b - 1) / u := by
    rw [show a + b - 1 = (r + b - 1) + u * q by omega, Int.add_mul_ediv_left _ _ (by omega)]; omega
  rw [this]
  by_cases h : u < r + b
  · have : (r + b - 1) / u = 1 := by
      have e1 : r + b - 1 = (r + b - 1 - u) + u * 1 := by omega
      rw [e1, Int.add_mul_ediv_left _ _ (by omega), Int.ediv_eq_zero_of_lt (by omega) (by omega)]; rfl
    omega
  · have : (r + b - 1) / u = 0 := Int.ediv_eq_zero_of_lt (by omega) (by omega)
    omega

theorem begins_c (nm : ByteArray) (sh k n al bits : Int) (A1 A2 : Option Addr) (n1 n2 c1 c2 : Nat) (pk : Bool) (sz ag : Int) (S : Option Addr) (sn sc : Nat) (up : Bool) (at_ : Int) (w : World) (h0 : 0 ≤ at_) (h1 : at_ ≤ 1000000000) (h2 : 1 ≤ sz) (h3 : sz ≤ 65536) (h4 : 1 ≤ ag) (h5 : ag ≤ 64) (h6 : bits ≤ 8 * sz) :
    Calls Try.prog 121 #[.agg #[.string nm, .int .i64 sh, .int .i64 k, .int .i64 n, .slice A1 n1 c1, .slice A2 n2 c2, .bool pk, .int .i64 al, .int .i64 bits], .agg #[.int .i64 sz, .int .i64 ag, .slice S sn sc], .bool up, .int .i64 at_] w fun e w' => e = .returned (.int .i64 (nextS up bits sz ag at_)) ∧ Below w.heap.size w w' := by
  by_cases hb : bits < 0
  · cases up with
    | true =>
      have H := Lib.hid (show nextS true bits sz ag at_ = upS at_ 8 by unfold nextS; rw [if_pos hb]; rfl)
      go_enter Try.func121, Try.ntmps121
      go_wp2_with (go_at_call 122; refine (up_c _ _ _ (by omega) (by omega) (by omega) (by omega)).mono ?_; rintro e w' ⟨rfl, rfl⟩)
      go_ret
      exact ⟨by rw [H.out]; rfl, by (repeat (first | exact Below.refl _ _ | apply bel_drewN | apply bel_alloc))⟩
    | false =>
      have H := Lib.hid (show nextS false bits sz ag at_ = upS at_ (8 * ag) by unfold nextS; rw [if_pos hb]; rfl)
      go_enter Try.func121, Try.ntmps121
      go_wp2_with (go_at_call 122; refine (up_c _ _ _ (by omega) (by omega) (by omega) (by omega)).mono ?_; rintro e w' ⟨rfl, rfl⟩)
      go_ret
      exact ⟨by rw [H.out]; rfl, by (repeat (first | exact Below.refl _ _ | apply bel_drewN | apply bel_alloc))⟩
  · by_cases hz : bits = 0
    · subst hz
      have H := Lib.hid (show nextS up 0 sz ag at_ = upS at_ (8 * sz) by unfold nextS; rfl)
      go_enter Try.func121, Try.ntmps121
      go_wp2_with (go_at_call 122; refine (up_c _ _ _ (by omega) (by omega) (by omega) (by omega)).mono ?_; rintro e w' ⟨rfl, rfl⟩)
      go_ret
      exact ⟨by rw [H.out]; rfl, by (repeat (first | exact Below.refl _ _ | apply bel_drewN | apply bel_alloc))⟩
    · have gz : (bits == 0) = false := by simpa using hz
      have r0 := Int.emod_nonneg at_ (show 8 * sz ≠ 0 by omega)
      have r1 := Int.emod_lt_of_pos at_ (show 0 < 8 * sz by omega)
      have hi := unit_iff (a := at_) (show 0 < 8 * sz by omega) (show 1 ≤ bits by omega) h6
      cases up with
      | true =>
        have H := Lib.hid (show nextS true bits sz ag at_ = at_ by unfold nextS; rw [if_neg hb, if_neg hz, if_neg (by simp)])
        clear hz hi
        go_enter Try.func121, Try.ntmps121
        go_wp2_with (go_at_call 122; refine (up_c _ _ _ (by omega) (by omega) (by omega) (by omega)).mono ?_; rintro e w' ⟨rfl, rfl⟩)
        go_quiet (fail)
        go_wp2_with (go_at_call 122; refine (up_c _ _ _ (by omega) (by omega) (by omega) (by omega)).mono ?_; rintro e w' ⟨rfl, rfl⟩)
        go_ret
        exact ⟨by rw [H.out]; rfl, by (repeat (first | exact Below.refl _ _ | apply bel_drewN | apply bel_alloc))⟩
      | false =>
        by_cases hc : 8 * sz < at_ % (8 * sz) + bits
        · have H := Lib.hid (show nextS false bits sz ag at_ = upS at_ (8 * sz) by unfold nextS; rw [if_neg hb, if_neg hz, if_pos ⟨rfl, hi.1 hc⟩])
          have dc : decide (8 * sz < at_ % (8 * sz) + bits) = true := decide_eq_true hc
          clear hz hi
          go_enter Try.func121, Try.ntmps121
          go_wp2_with (go_at_call 122; refine (up_c _ _ _ (by omega) (by omega) (by omega) (by omega)).mono ?_; rintro e w' ⟨rfl, rfl⟩)
          go_quiet (fail)
          go_wp2_with (go_at_call 122; refine (up_c _ _ _ (by omega) (by omega) (by omega) (by omega)).mono ?_; rintro e w' ⟨rfl, rfl⟩)
          go_ret
          exact ⟨by rw [H.out]; rfl, by (repeat (first | exact Below.refl _ _ | apply bel_drewN | apply bel_alloc))⟩
        · have H := Lib.hid (show nextS false bits sz ag at_ = at_ by unfold nextS; rw [if_neg hb, if_neg hz, if_neg (fun h => hc (hi.2 h.2))])
          have dc : decide (8 * sz < at_ % (8 * sz) + bits) = false := decide_eq_false hc
          clear hz hi
          go_enter Try.func121, Try.ntmps121
          go_wp2_with (go_at_call 122; refine (up_c _ _ _ (by omega) (by omega) (by omega) (by omega)).mono ?_; rintro e w' ⟨rfl, rfl⟩)
          go_quiet (fail)
          go_wp2_with (go_at_call 122; refine (up_c _ _ _ (by omega) (by omega) (by omega) (by omega)).mono ?_; rintro e w' ⟨rfl, rfl⟩)
          go_ret
          exact ⟨by rw [H.out]; rfl, by (repeat (first | exact Below.refl _ _ | apply bel_drewN | apply bel_alloc))⟩

end Go.Proofs.Ytcggghamnmflcaa

/- The walk of the reference's next: where a member begins. -/
import Derived.Test.YtcggghamnmflcaaSrd
namespace Go.Proofs.Ytcggghamnmflcaa
open Go Go.RowKit Go.Shelf
theorem next_c (tsh ttk tn tal : Int) (T1 T2 : Option Addr) (tn1 tc1 tn2 tc2 : Nat) (pk : Bool) (nm : ByteArray) (sh k n al bits : Int) (A1 A2 : Option Addr) (n1 n2 c1 c2 : Nat) (fpk : Bool) (sz ag : Int) (big : Bool) (S : Option Addr) (sn sc : Nat) (at_ : Int) (w : World) (h0 : 0 ≤ at_) (h1 : at_ ≤ 1000000000) (h2 : 1 ≤ sz) (h3 : sz ≤ 65536) (h4 : 1 ≤ ag) (h5 : ag ≤ 64) (h6 : bits ≤ 8 * sz) :
    Calls Try.prog 124 #[.agg #[.int .i64 tsh, .int .i64 ttk, .int .i64 tn, .slice T1 tn1 tc1, .slice T2 tn2 tc2, .bool pk, .int .i64 tal], .agg #[.string nm, .int .i64 sh, .int .i64 k, .int .i64 n, .slice A1 n1 c1, .slice A2 n2 c2, .bool fpk, .int .i64 al, .int .i64 bits], .agg #[.int .i64 sz, .int .i64 ag, .bool big, .slice S sn sc], .int .i64 at_] w fun e w' => e = .returned (.int .i64 (nextS pk bits sz ag at_)) ∧ Below w.heap.size w w' := by
  by_cases hb : bits < 0
  · cases pk with
    | true =>
      have H := Lib.hid (show nextS true bits sz ag at_ = upS at_ 8 by unfold nextS; rw [if_pos hb]; rfl)
      go_enter Try.func124, Try.ntmps124
      go_wp2_with (go_at_call 125; refine (rup_c _ _ _ (by omega) (by omega) (by omega) (by omega)).mono ?_; rintro e w' ⟨rfl, rfl⟩)
      go_ret
      exact ⟨by rw [H.out]; rfl, by (repeat (first | exact Below.refl _ _ | apply bel_drewN | apply bel_alloc))⟩
    | false =>
      have H := Lib.hid (show nextS false bits sz ag at_ = upS at_ (8 * ag) by unfold nextS; rw [if_pos hb]; rfl)
      go_enter Try.func124, Try.ntmps124
      go_wp2_with (go_at_call 125; refine (rup_c _ _ _ (by omega) (by omega) (by omega) (by omega)).mono ?_; rintro e w' ⟨rfl, rfl⟩)
      go_ret
      exact ⟨by rw [H.out]; rfl, by (repeat (first | exact Below.refl _ _ | apply bel_drewN | apply bel_alloc))⟩
  · by_cases hz : bits = 0
    · subst hz
      have H := Lib.hid (show nextS pk 0 sz ag at_ = upS at_ (8 * sz) by unfold nextS; rfl)
      go_enter Try.func124, Try.ntmps124
      go_wp2_with (go_at_call 125; refine (rup_c _ _ _ (by omega) (by omega) (by omega) (by omega)).mono ?_; rintro e w' ⟨rfl, rfl⟩)
      go_quiet (fail)
      go_wp2_with (go_at_call 125; refine (rup_c _ _ _ (by omega) (by omega) (by omega) (by omega)).mono ?_; rintro e w' ⟨rfl, rfl⟩)
      go_ret
      exact ⟨by rw [H.out]; rfl, by (repeat (first | exact Below.refl _ _ | apply bel_drewN | apply bel_alloc))⟩
    · have gz : (bits == 0) = false := by simpa using hz
      have q1 : 0 ≤ at_ / (8 * sz) := Int.ediv_nonneg (by omega) (by omega)
      have q2 : at_ / (8 * sz) ≤ at_ := Int.ediv_le_self _ (by omega)
      have q3 : 0 ≤ (at_ + bits - 1) / (8 * sz) := Int.ediv_nonneg (by omega) (by omega)
      have q4 : (at_ + bits - 1) / (8 * sz) ≤ at_ + bits - 1 := Int.ediv_le_self _ (by omega)
      cases pk with
      | true =>
        have H := Lib.hid (show nextS true bits sz ag at_ = at_ by unfold nextS; rw [if_neg hb, if_neg hz, if_neg (by simp)])
        clear hz
        go_enter Try.func124, Try.ntmps124
        go_wp2_with (go_at_call 125; refine (rup_c _ _ _ (by omega) (by omega) (by omega) (by omega)).mono ?_; rintro e w' ⟨rfl, rfl⟩)
        go_quiet (fail)
        go_wp2_with (go_at_call 125; refine (rup_c _ _ _ (by omega) (by omega) (by omega) (by omega)).mono ?_; rintro e w' ⟨rfl, rfl⟩)
        go_ret
        exact ⟨by rw [H.out]; rfl, by (repeat (first | exact Below.refl _ _ | apply bel_drewN | apply bel_alloc))⟩
      | false =>
        cases hc : (at_ / (8 * sz) == (at_ + bits - 1) / (8 * sz)) with
        | false =>
          have hc' : (at_ / (8 * sz) != (at_ + bits - 1) / (8 * sz)) = true := by rw [bne, hc]; rfl
          have H := Lib.hid (show nextS false bits sz ag at_ = upS at_ (8 * sz) by unfold nextS; rw [if_neg hb, if_neg hz, if_pos ⟨rfl, by simpa using hc⟩])
          clear hz
          go_enter Try.func124, Try.ntmps124
          go_wp2_with (go_at_call 125; refine (rup_c _ _ _ (by omega) (by omega) (by omega) (by omega)).mono ?_; rintro e w' ⟨rfl, rfl⟩)
          go_quiet (fail)
          go_wp2_with (go_at_call 125; refine (rup_c _ _ _ (by omega) (by omega) (by omega) (by omega)).mono ?_; rintro e w' ⟨rfl, rfl⟩)
          go_ret
          exact ⟨by rw [H.out]; rfl, by (repeat (first | exact Below.refl _ _ | apply bel_drewN | apply bel_alloc))⟩
        | true =>
          have hc' : (at_ / (8 * sz) != (at_ + bits - 1) / (8 * sz)) = false := by rw [bne, hc]; rfl
          have H := Lib.hid (show nextS false bits sz ag at_ = at_ by unfold nextS; rw [if_neg hb, if_neg hz, if_neg (fun h => h.2 (by simpa using hc))])
          clear hz
          go_enter Try.func124, Try.ntmps124
          go_wp2_with (go_at_call 125; refine (rup_c _ _ _ (by omega) (by omega) (by omega) (by omega)).mono ?_; rintro e w' ⟨rfl, rfl⟩)
          go_quiet (fail)
          go_wp2_with (go_at_call 125; refine (rup_c _ _ _ (by omega) (by omega) (by omega) (by omega)).mono ?_; rintro e w' ⟨rfl, rfl⟩)
          go_ret
          exact ⟨by rw [H.out]; rfl, by (repeat (first | exact Below.refl _ _ | apply bel_drewN | apply bel_alloc))⟩
end Go.Proofs.Ytcggghamnmflcaa

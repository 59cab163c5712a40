/- Walks of shape's functions at whatever numbers, one answer each: where a member begins. -/
import Derived.Test.YtcggghamnmflcaaSwd
namespace Go.Proofs.Ytcggghamnmflcaa
open Go Go.RowKit
def upW (v n : Int) : Int := wrap64 (wrap64 ((wrap64 (wrap64 (v + n) - 1)).tdiv n) * n)
theorem up_t (v n : Int) (w : World) (h2 : 1 ≤ n) (h3 : n ≤ 1000000000000) : Calls Try.prog 122 #[.int .i64 v, .int .i64 n] w fun e w' => e = .returned (.int .i64 (upW v n)) ∧ w = w' := by
  go_enter Try.func122, Try.ntmps122
  go_wp2
  go_ret
  exact ⟨rfl, rfl⟩
theorem upW_is {v n : Int} (h0 : 0 ≤ v) (h1 : v ≤ 1000000000000) (h2 : 1 ≤ n) (h3 : n ≤ 1000000000000) : upW v n = upS v n := by
  have hr := upS_rng (v := v) h2
  have hq : 0 ≤ (v + n - 1) / n := Int.ediv_nonneg (by omega) (by omega)
  have hq2 : (v + n - 1) / n ≤ v + n - 1 := Int.ediv_le_self _ (by omega)
  unfold upW
  rw [wrap64_is (v := v + n) (by unfold I64; omega), wrap64_is (v := v + n - 1) (by unfold I64; omega), Int.tdiv_eq_ediv_of_nonneg (by omega), wrap64_is (v := (v + n - 1) / n) (by unfold I64; omega)]
  exact wrap64_is (by unfold upS at hr; unfold I64; omega)
def nextW (pk : Bool) (bits size align at_ : Int) : Int :=
  if bits < 0 then (if pk then upW at_ 8 else upW at_ (8 * align))
  else if bits = 0 then upW at_ (8 * size)
  else if pk = false ∧ 8 * size < wrap64 (at_.tmod (8 * size) + bits) then upW at_ (8 * size) else at_
theorem nextW_is {pk : Bool} {bits sz ag at_ : Int} (h0 : 0 ≤ at_) (h1 : at_ ≤ 1000000000) (h2 : 1 ≤ sz) (h3 : sz ≤ 65536) (h4 : 1 ≤ ag) (h5 : ag ≤ 64) (h6 : bits ≤ 8 * sz) : nextW pk bits sz ag at_ = nextS pk bits sz ag at_ := by
  unfold nextW nextS
  rw [upW_is h0 (by omega) (by omega) (by omega), upW_is h0 (by omega) (by omega) (by omega), upW_is h0 (by omega) (by omega) (by omega)]
  by_cases hb : bits < 0
  · rw [if_pos hb, if_pos hb]
  · rw [if_neg hb, if_neg hb]
    by_cases hz : bits = 0
    · rw [if_pos hz, if_pos hz]
    · rw [if_neg hz, if_neg hz]
      have r0 := Int.emod_nonneg at_ (show 8 * sz ≠ 0 by omega)
      have r1 := Int.emod_lt_of_pos at_ (show 0 < 8 * sz by omega)
      have hi := unit_iff (a := at_) (show 0 < 8 * sz by omega) (show 1 ≤ bits by omega) h6
      rw [Int.tmod_eq_emod_of_nonneg h0, wrap64_is (by unfold I64; omega)]
      simp only [hi]
theorem upW_I64 (v n : Int) : I64 (upW v n) := wrap64_I64 _
theorem nextW_I64 (pk : Bool) (bits sz ag at_ : Int) (h : I64 at_) : I64 (nextW pk bits sz ag at_) := by
  unfold nextW
  repeat' split
  all_goals first | exact upW_I64 _ _ | exact h
theorem begins_t (nm : ByteArray) (sh k n al bits : Int) (A1 A2 : Option Addr) (n1 n2 c1 c2 : Nat) (pk : Bool) (sz ag : Int) (S : Option Addr) (sn sc : Nat) (up : Bool) (at_ : Int) (w : World) (h2 : 1 ≤ sz) (h3 : sz ≤ 65536) (h4 : 1 ≤ ag) (h5 : ag ≤ 64) :
    Calls Try.prog 121 #[.agg #[.string nm, .int .i64 sh, .int .i64 k, .int .i64 n, .slice A1 n1 c1, .slice A2 n2 c2, .bool pk, .int .i64 al, .int .i64 bits], .agg #[.int .i64 sz, .int .i64 ag, .slice S sn sc], .bool up, .int .i64 at_] w fun e w' => e = .returned (.int .i64 (nextW up bits sz ag at_)) ∧ Below w.heap.size w w' := by
  by_cases hb : bits < 0
  · cases up with
    | true =>
      have H := Lib.hid (show nextW true bits sz ag at_ = upW at_ 8 by unfold nextW; rw [if_pos hb]; rfl)
      go_enter Try.func121, Try.ntmps121
      go_wp2_with (go_at_call 122; refine (up_t _ _ _ (by omega) (by omega)).mono ?_; rintro e w' ⟨rfl, rfl⟩)
      go_ret
      exact ⟨by rw [H.out]; rfl, by (repeat (first | exact Below.refl _ _ | apply bel_drewN | apply bel_alloc))⟩
    | false =>
      have H := Lib.hid (show nextW false bits sz ag at_ = upW at_ (8 * ag) by unfold nextW; rw [if_pos hb]; rfl)
      go_enter Try.func121, Try.ntmps121
      go_wp2_with (go_at_call 122; refine (up_t _ _ _ (by omega) (by omega)).mono ?_; rintro e w' ⟨rfl, rfl⟩)
      go_ret
      exact ⟨by rw [H.out]; rfl, by (repeat (first | exact Below.refl _ _ | apply bel_drewN | apply bel_alloc))⟩
  · by_cases hz : bits = 0
    · subst hz
      have H := Lib.hid (show nextW up 0 sz ag at_ = upW at_ (8 * sz) by unfold nextW; rfl)
      go_enter Try.func121, Try.ntmps121
      go_wp2_with (go_at_call 122; refine (up_t _ _ _ (by omega) (by omega)).mono ?_; rintro e w' ⟨rfl, rfl⟩)
      go_ret
      exact ⟨by rw [H.out]; rfl, by (repeat (first | exact Below.refl _ _ | apply bel_drewN | apply bel_alloc))⟩
    · have gz : (bits == 0) = false := by simpa using hz
      cases up with
      | true =>
        have H := Lib.hid (show nextW true bits sz ag at_ = at_ by unfold nextW; rw [if_neg hb, if_neg hz, if_neg (by simp)])
        clear hz
        go_enter Try.func121, Try.ntmps121
        go_wp2_with (go_at_call 122; refine (up_t _ _ _ (by omega) (by omega)).mono ?_; rintro e w' ⟨rfl, rfl⟩)
        go_quiet (fail)
        go_wp2_with (go_at_call 122; refine (up_t _ _ _ (by omega) (by omega)).mono ?_; rintro e w' ⟨rfl, rfl⟩)
        go_ret
        exact ⟨by rw [H.out]; rfl, by (repeat (first | exact Below.refl _ _ | apply bel_drewN | apply bel_alloc))⟩
      | false =>
        by_cases hc : 8 * sz < wrap64 (at_.tmod (8 * sz) + bits)
        · have H := Lib.hid (show nextW false bits sz ag at_ = upW at_ (8 * sz) by unfold nextW; rw [if_neg hb, if_neg hz, if_pos ⟨rfl, hc⟩])
          have dc : decide (8 * sz < wrap64 (at_.tmod (8 * sz) + bits)) = true := decide_eq_true hc
          clear hz
          go_enter Try.func121, Try.ntmps121
          go_wp2_with (go_at_call 122; refine (up_t _ _ _ (by omega) (by omega)).mono ?_; rintro e w' ⟨rfl, rfl⟩)
          go_quiet (fail)
          go_wp2_with (go_at_call 122; refine (up_t _ _ _ (by omega) (by omega)).mono ?_; rintro e w' ⟨rfl, rfl⟩)
          go_ret
          exact ⟨by rw [H.out]; rfl, by (repeat (first | exact Below.refl _ _ | apply bel_drewN | apply bel_alloc))⟩
        · have H := Lib.hid (show nextW false bits sz ag at_ = at_ by unfold nextW; rw [if_neg hb, if_neg hz, if_neg (fun h => hc h.2)])
          have dc : decide (8 * sz < wrap64 (at_.tmod (8 * sz) + bits)) = false := decide_eq_false hc
          clear hz
          go_enter Try.func121, Try.ntmps121
          go_wp2_with (go_at_call 122; refine (up_t _ _ _ (by omega) (by omega)).mono ?_; rintro e w' ⟨rfl, rfl⟩)
          go_quiet (fail)
          go_wp2_with (go_at_call 122; refine (up_t _ _ _ (by omega) (by omega)).mono ?_; rintro e w' ⟨rfl, rfl⟩)
          go_ret
          exact ⟨by rw [H.out]; rfl, by (repeat (first | exact Below.refl _ _ | apply bel_drewN | apply bel_alloc))⟩

end Go.Proofs.Ytcggghamnmflcaa

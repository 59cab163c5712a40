/- Walks of shape's functions at whatever numbers: where a member begins. -/
import Derived.Test.YtcggghamnmflcaaSwb
namespace Go.Proofs.Ytcggghamnmflcaa
open Go Go.RowKit
theorem upS_rng {v n : Int} (h2 : 1 ≤ n) : v ≤ upS v n ∧ upS v n ≤ v + n - 1 := by
  unfold upS
  have h1 : (v + n - 1) / n * n ≤ v + n - 1 := Int.ediv_mul_le _ (by omega)
  have h3 := Int.lt_ediv_add_one_mul_self (v + n - 1) (show 0 < n by omega)
  rw [Int.add_mul, Int.one_mul] at h3
  omega
theorem nextS_rng (up : Bool) (bits sz ag at_ : Int) (h2 : 1 ≤ sz) (h4 : 1 ≤ ag) (h5 : ag ≤ 64) : at_ ≤ nextS up bits sz ag at_ ∧ nextS up bits sz ag at_ ≤ at_ + (if bits < 0 then 511 else 8 * sz - 1) := by
  have a := upS_rng (v := at_) (show (1 : Int) ≤ 8 by omega)
  have b := upS_rng (v := at_) (show 1 ≤ 8 * ag by omega)
  have c := upS_rng (v := at_) (show 1 ≤ 8 * sz by omega)
  unfold nextS
  repeat' split
  all_goals omega
theorem nextS_I64 (up : Bool) (bits sz ag at_ : Int) (h0 : 0 ≤ at_) (h1 : at_ ≤ 1000000000) (h2 : 1 ≤ sz) (h3 : sz ≤ 65536) (h4 : 1 ≤ ag) (h5 : ag ≤ 64) : I64 (nextS up bits sz ag at_) := by
  have := nextS_rng up bits sz ag at_ h2 h4 h5
  unfold I64
  split at this <;> omega
theorem up_w (v n : Int) (w : World) (h2 : 1 ≤ n) (h3 : n ≤ 1000000000000) : Calls Try.prog 122 #[.int .i64 v, .int .i64 n] w fun e w' => ∃ r, e = .returned (.int .i64 r) ∧ I64 r ∧ w = w' := by
  go_enter Try.func122, Try.ntmps122
  go_wp2
  go_ret
  exact ⟨_, rfl, wrap64_I64 _, rfl⟩
theorem begins_bad (nm : ByteArray) (sh k n al bits : Int) (A1 A2 : Option Addr) (n1 n2 c1 c2 : Nat) (pk : Bool) (sz ag : Int) (S : Option Addr) (sn sc : Nat) (up : Bool) (at_ : Int) (w : World) (hat : I64 at_) (h2 : 1 ≤ sz) (h3 : sz ≤ 65536) (h4 : 1 ≤ ag) (h5 : ag ≤ 64) :
    Calls Try.prog 121 #[.agg #[.string nm, .int .i64 sh, .int .i64 k, .int .i64 n, .slice A1 n1 c1, .slice A2 n2 c2, .bool pk, .int .i64 al, .int .i64 bits], .agg #[.int .i64 sz, .int .i64 ag, .slice S sn sc], .bool up, .int .i64 at_] w fun e w' => ∃ r, e = .returned (.int .i64 r) ∧ I64 r ∧ Below w.heap.size w w' := by
  by_cases hb : bits < 0
  · cases up with
    | true =>
      go_enter Try.func121, Try.ntmps121
      go_wp2_with (go_at_call 122; refine (up_w _ _ _ (by omega) (by omega)).mono ?_; rintro e w' ⟨r, rfl, hr, rfl⟩)
      go_ret
      exact ⟨_, rfl, hr, by (repeat (first | exact Below.refl _ _ | apply bel_drewN | apply bel_alloc))⟩
    | false =>
      go_enter Try.func121, Try.ntmps121
      go_wp2_with (go_at_call 122; refine (up_w _ _ _ (by omega) (by omega)).mono ?_; rintro e w' ⟨r, rfl, hr, rfl⟩)
      go_ret
      exact ⟨_, rfl, hr, by (repeat (first | exact Below.refl _ _ | apply bel_drewN | apply bel_alloc))⟩
  · cases hz : bits == 0 with
    | true =>
      go_enter Try.func121, Try.ntmps121
      go_wp2_with (go_at_call 122; refine (up_w _ _ _ (by omega) (by omega)).mono ?_; rintro e w' ⟨r, rfl, hr, rfl⟩)
      go_ret
      exact ⟨_, rfl, hr, by (repeat (first | exact Below.refl _ _ | apply bel_drewN | apply bel_alloc))⟩
    | false =>
      cases up with
      | true =>
        go_enter Try.func121, Try.ntmps121
        go_wp2_with (go_at_call 122; refine (up_w _ _ _ (by omega) (by omega)).mono ?_; rintro e w' ⟨r, rfl, hr, rfl⟩)
        go_quiet (fail)
        go_wp2_with (go_at_call 122; refine (up_w _ _ _ (by omega) (by omega)).mono ?_; rintro e w' ⟨r, rfl, hr, rfl⟩)
        go_ret
        exact ⟨_, rfl, hat, by (repeat (first | exact Below.refl _ _ | apply bel_drewN | apply bel_alloc))⟩
      | false =>
        go_enter Try.func121, Try.ntmps121
        go_wp2_with (go_at_call 122; refine (up_w _ _ _ (by omega) (by omega)).mono ?_; rintro e w' ⟨r, rfl, hr, rfl⟩)
        go_quiet (fail)
        go_wp2_with (go_at_call 122; refine (up_w _ _ _ (by omega) (by omega)).mono ?_; rintro e w' ⟨r, rfl, hr, rfl⟩)
        all_goals
          go_ret
          exact ⟨_, rfl, by first | exact hr | exact hat, by (repeat (first | exact Below.refl _ _ | apply bel_drewN | apply bel_alloc))⟩
theorem begins_any (nm : ByteArray) (sh k n al bits : Int) (A1 A2 : Option Addr) (n1 n2 c1 c2 : Nat) (pk : Bool) (sz ag : Int) (S : Option Addr) (sn sc : Nat) (up : Bool) (at_ : Int) (w : World) (hat : I64 at_) (h2 : 1 ≤ sz) (h3 : sz ≤ 65536) (h4 : 1 ≤ ag) (h5 : ag ≤ 64) :
    Calls Try.prog 121 #[.agg #[.string nm, .int .i64 sh, .int .i64 k, .int .i64 n, .slice A1 n1 c1, .slice A2 n2 c2, .bool pk, .int .i64 al, .int .i64 bits], .agg #[.int .i64 sz, .int .i64 ag, .slice S sn sc], .bool up, .int .i64 at_] w fun e w' => ∃ r, e = .returned (.int .i64 r) ∧ I64 r ∧ (0 ≤ at_ ∧ at_ ≤ 1000000000 ∧ bits ≤ 8 * sz → r = nextS up bits sz ag at_) ∧ Below w.heap.size w w' := by
  by_cases hg : 0 ≤ at_ ∧ at_ ≤ 1000000000 ∧ bits ≤ 8 * sz
  · refine (begins_c nm sh k n al bits A1 A2 n1 n2 c1 c2 pk sz ag S sn sc up at_ w hg.1 hg.2.1 h2 h3 h4 h5 hg.2.2).mono fun e w' ⟨he, hb⟩ => ⟨_, he, ?_, fun _ => rfl, hb⟩
    exact nextS_I64 up bits sz ag at_ hg.1 hg.2.1 h2 h3 h4 h5
  · exact (begins_bad nm sh k n al bits A1 A2 n1 n2 c1 c2 pk sz ag S sn sc up at_ w hat h2 h3 h4 h5).mono fun e w' ⟨r, he, hr, hb⟩ => ⟨r, he, hr, fun h => absurd h hg, hb⟩
end Go.Proofs.Ytcggghamnmflcaa

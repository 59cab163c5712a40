/- The search for the first place that is met: whatever the numbers. -/
import Derived.Test.YtcggghamnmflcaaOfb
namespace Go.Proofs.Ytcggghamnmflcaa
open Go Go.RowKit
def fstPos (a b c : Int) : Int := if 0 < a then 0 else if 0 < b then 1 else if 0 < c then 2 else -1
theorem fstPos_is (a b c : Int) : fstPos a b c = if 0 < a then 0 else if 0 < b then 1 else if 0 < c then 2 else -1 := rfl
set_option maxHeartbeats 2000000 in
theorem idx_c (a b c : Int) (g : Nat) (w : World) (h0 : w.cell? ⟨g, 0, none⟩ = some (.int .i64 a)) (h1 : w.cell? ⟨g, 1, none⟩ = some (.int .i64 b)) (h2 : w.cell? ⟨g, 2, none⟩ = some (.int .i64 c)) :
    Calls Try.prog 79 #[.slice (some ⟨g, 0, none⟩) 3 3, .func (.func 80) #[] #[]] w fun e w' => e = .returned (.int .i64 (fstPos a b c)) ∧ w = w' := by
  go_enter Try.func79, Try.ntmps79
  go_wp2
  go_loopw [8] (fun i wr => wr = w ∧ ∃ k : Nat, i = .int .i64 k ∧ k ≤ 3 ∧ (0 < k → a ≤ 0) ∧ (1 < k → b ≤ 0) ∧ (2 < k → c ≤ 0)) (fun i _ => 3 - (intOf i).toNat)
  case atStart => exact ⟨rfl, 0, rfl, by omega, by omega, by omega, by omega⟩
  case round =>
    obtain ⟨rfl, k, rfl, hk, k0, k1, k2⟩ := hrel
    obtain rfl | rfl | rfl | rfl : k = 0 ∨ k = 1 ∨ k = 2 ∨ k = 3 := by omega
    · by_cases hv : 0 < a
      · have hd : decide (0 < a) = true := by simpa using hv
        have HP := Lib.hid (show fstPos a b c = 0 by rw [fstPos_is]; rw [if_pos hv])
        clear k0 k1 k2
        go_wp2_with (go_at_call 80; refine (pos_c a _).mono ?_; rintro e w' ⟨rfl, rfl⟩; rw [hd])
        go_ret
        exact ⟨by rw [HP.out]; rfl, rfl⟩
      · have hd : decide (0 < a) = false := by simpa using hv
        have K := Lib.hid (And.intro k0 (And.intro k1 k2))
        clear k0 k1 k2
        go_wp2_with (go_at_call 80; refine (pos_c a _).mono ?_; rintro e w' ⟨rfl, rfl⟩; rw [hd])
        go_roundw
        case rel => exact ⟨trivial, 1, by go_num, by omega, fun h => by omega, fun h => by omega, fun h => by omega⟩
        case measure => simp [intOf]
    · by_cases hv : 0 < b
      · have hd : decide (0 < b) = true := by simpa using hv
        have HP := Lib.hid (show fstPos a b c = 1 by rw [fstPos_is]; rw [if_neg (by omega)]; rw [if_pos hv])
        clear k0 k1 k2
        go_wp2_with (go_at_call 80; refine (pos_c b _).mono ?_; rintro e w' ⟨rfl, rfl⟩; rw [hd])
        go_ret
        exact ⟨by rw [HP.out]; rfl, rfl⟩
      · have hd : decide (0 < b) = false := by simpa using hv
        have K := Lib.hid (And.intro k0 (And.intro k1 k2))
        clear k0 k1 k2
        go_wp2_with (go_at_call 80; refine (pos_c b _).mono ?_; rintro e w' ⟨rfl, rfl⟩; rw [hd])
        go_roundw
        case rel => exact ⟨trivial, 2, by go_num, by omega, fun h => K.out.1 (by omega), fun h => by omega, fun h => by omega⟩
        case measure => simp [intOf]
    · by_cases hv : 0 < c
      · have hd : decide (0 < c) = true := by simpa using hv
        have HP := Lib.hid (show fstPos a b c = 2 by rw [fstPos_is]; rw [if_neg (by omega)]; rw [if_neg (by omega)]; rw [if_pos hv])
        clear k0 k1 k2
        go_wp2_with (go_at_call 80; refine (pos_c c _).mono ?_; rintro e w' ⟨rfl, rfl⟩; rw [hd])
        go_ret
        exact ⟨by rw [HP.out]; rfl, rfl⟩
      · have hd : decide (0 < c) = false := by simpa using hv
        have K := Lib.hid (And.intro k0 (And.intro k1 k2))
        clear k0 k1 k2
        go_wp2_with (go_at_call 80; refine (pos_c c _).mono ?_; rintro e w' ⟨rfl, rfl⟩; rw [hd])
        go_roundw
        case rel => exact ⟨trivial, 3, by go_num, by omega, fun h => K.out.1 (by omega), fun h => K.out.2.1 (by omega), fun h => by omega⟩
        case measure => simp [intOf]
    · have HP := Lib.hid (show fstPos a b c = -1 by rw [fstPos_is, if_neg (by have := k0 (by omega); omega), if_neg (by have := k1 (by omega); omega), if_neg (by have := k2 (by omega); omega)])
      clear k0 k1 k2
      go_wp2
      go_ret
      exact ⟨by rw [HP.out]; rfl, rfl⟩
end Go.Proofs.Ytcggghamnmflcaa

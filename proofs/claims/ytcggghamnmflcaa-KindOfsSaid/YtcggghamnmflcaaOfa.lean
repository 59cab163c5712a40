/- Walks of kind.Of: which place a word has, and the closure over words; no condition but that the slice reads as words. -/
import Derived.Test.YtcggghamnmflcaaKwk
import Derived.Test.YtcggghamnmflcaaMem
import Derived.Test.YtcggghamnmflcaaSwe
import Derived.Test.YtcggghamnmflcaaSwi
namespace Go.Proofs.Ytcggghamnmflcaa
open Go Go.RowKit
/-- The place of a word in a count. -/
def plc (s : ByteArray) : Nat :=
  if (s.toList == [99, 104, 97, 114]) = true then 0 else
  if (s.toList == [115, 104, 111, 114, 116]) = true then 1 else
  if (s.toList == [108, 111, 110, 103]) = true then 2 else
  if (s.toList == [105, 110, 116]) = true then 3 else
  if (s.toList == [115, 105, 103, 110, 101, 100]) = true then 4 else
  if (s.toList == [117, 110, 115, 105, 103, 110, 101, 100]) = true then 5 else 6
theorem plc_lt (s : ByteArray) : plc s < 7 := by
  unfold plc
  repeat' split
  all_goals omega
set_option maxHeartbeats 1000000 in
theorem placeOf_c (s : ByteArray) (w : World) : Calls Try.prog 110 #[.string s] w fun e w' => e = .returned (.int .i64 (plc s)) ∧ w = w' := by
  cases h0 : s.toList == [99, 104, 97, 114] with
  | true =>
    have HP := Lib.hid (show plc s = 0 by unfold plc; rw [if_pos h0])
    go_enter Try.func110, Try.ntmps110
    go_wp2
    go_ret
    exact ⟨by rw [HP.out]; rfl, rfl⟩
  | false =>
    cases h1 : s.toList == [115, 104, 111, 114, 116] with
    | true =>
      have HP := Lib.hid (show plc s = 1 by unfold plc; rw [if_neg (by rw [h0]; simp), if_pos h1])
      go_enter Try.func110, Try.ntmps110
      go_wp2
      go_ret
      exact ⟨by rw [HP.out]; rfl, rfl⟩
    | false =>
      cases h2 : s.toList == [108, 111, 110, 103] with
      | true =>
        have HP := Lib.hid (show plc s = 2 by unfold plc; rw [if_neg (by rw [h0]; simp), if_neg (by rw [h1]; simp), if_pos h2])
        go_enter Try.func110, Try.ntmps110
        go_wp2
        go_ret
        exact ⟨by rw [HP.out]; rfl, rfl⟩
      | false =>
        cases h3 : s.toList == [105, 110, 116] with
        | true =>
          have HP := Lib.hid (show plc s = 3 by unfold plc; rw [if_neg (by rw [h0]; simp), if_neg (by rw [h1]; simp), if_neg (by rw [h2]; simp), if_pos h3])
          go_enter Try.func110, Try.ntmps110
          go_wp2
          go_ret
          exact ⟨by rw [HP.out]; rfl, rfl⟩
        | false =>
          cases h4 : s.toList == [115, 105, 103, 110, 101, 100] with
          | true =>
            have HP := Lib.hid (show plc s = 4 by unfold plc; rw [if_neg (by rw [h0]; simp), if_neg (by rw [h1]; simp), if_neg (by rw [h2]; simp), if_neg (by rw [h3]; simp), if_pos h4])
            go_enter Try.func110, Try.ntmps110
            go_wp2
            go_ret
            exact ⟨by rw [HP.out]; rfl, rfl⟩
          | false =>
            cases h5 : s.toList == [117, 110, 115, 105, 103, 110, 101, 100] with
            | true =>
              have HP := Lib.hid (show plc s = 5 by unfold plc; rw [if_neg (by rw [h0]; simp), if_neg (by rw [h1]; simp), if_neg (by rw [h2]; simp), if_neg (by rw [h3]; simp), if_neg (by rw [h4]; simp), if_pos h5])
              go_enter Try.func110, Try.ntmps110
              go_wp2
              go_ret
              exact ⟨by rw [HP.out]; rfl, rfl⟩
            | false =>
              have HP := Lib.hid (show plc s = 6 by unfold plc; rw [if_neg (by rw [h0]; simp), if_neg (by rw [h1]; simp), if_neg (by rw [h2]; simp), if_neg (by rw [h3]; simp), if_neg (by rw [h4]; simp), if_neg (by rw [h5]; simp)])
              go_enter Try.func110, Try.ntmps110
              go_wp2
              go_ret
              exact ⟨by rw [HP.out]; rfl, rfl⟩

theorem pos_c (m : Int) (w : World) : Calls Try.prog 80 #[.int .i64 m] w fun e w' => e = .returned (.bool (decide (0 < m))) ∧ w = w' := by
  by_cases h : 0 < m
  all_goals
    go_enter Try.func80, Try.ntmps80
    go_wp2
    go_ret
    exact ⟨by first | (simp; exact h) | (simp; omega), rfl⟩
theorem places_c (A : Option Addr) (n c : Nat) (w : World) : Calls Try.prog 78 #[.slice A n c] w fun e w' => e = .returned (.func (.func 109) #[] #[.pointer (some ⟨w.heap.size, 0, none⟩)]) ∧ w.alloc (.cells #[.slice A n c] 50) = w' := by
  go_enter Try.func78, Try.ntmps78
  go_wp2
  go_ret
  exact ⟨rfl, rfl⟩
end Go.Proofs.Ytcggghamnmflcaa

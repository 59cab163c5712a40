/- Walks of shape's small functions. -/
import Derived.Test.YtcggghamnmflcaaKwk
import Derived.Test.YtcggghamnmflcaaMem
namespace Go.Proofs.Ytcggghamnmflcaa
open Go Go.RowKit

theorem ksize_rng (k : Int) : 0 ≤ ksize k ∧ ksize k ≤ 8 := by rcases ksize_vals k with h | h | h | h | h <;> rw [h] <;> decide

theorem up_c (v n : Int) (w : World) (h0 : 0 ≤ v) (h1 : v ≤ 1000000000000) (h2 : 1 ≤ n) (h3 : n ≤ 1000000000000) : Calls Try.prog 122 #[.int .i64 v, .int .i64 n] w fun e w' => e = .returned (.int .i64 (upS v n)) ∧ w = w' := by
  have hq : 0 ≤ (v + n - 1) / n * n := Int.mul_nonneg (Int.ediv_nonneg (by omega) (by omega)) (by omega)
  have hm : (v + n - 1) / n * n ≤ v + n - 1 := Int.ediv_mul_le _ (by omega)
  go_enter Try.func122, Try.ntmps122
  go_wp2
  go_ret
  exact ⟨rfl, rfl⟩

theorem isAlign_c (n : Int) (w : World) : Calls Try.prog 117 #[.int .i64 n] w fun e w' => e = .returned (.bool (isAlignS n)) ∧ w = w' := by
  by_cases h0 : n = 0
  · subst h0
    go_enter Try.func117, Try.ntmps117
    go_wp2
    go_ret
    exact ⟨rfl, rfl⟩
  · have g0 : (n == 0) = false := by simpa using h0
    by_cases h1 : 0 < n
    · by_cases h2 : n ≤ 64
      · have hb : ∃ b, (bits .and .i64 n (n - 1) == 0) = b ∧ isAlignS n = b := by
          have : ∀ k : Fin 65, 0 < k.val → (bits .and .i64 (k.val : Int) ((k.val : Int) - 1) == 0) = isAlignS (k.val : Int) := by decide
          obtain ⟨k, rfl⟩ : ∃ k : Nat, n = k := ⟨n.toNat, by omega⟩
          exact ⟨_, rfl, (this ⟨k, by omega⟩ (by simp; omega)).symm⟩
        obtain ⟨b, hb1, hb2⟩ := hb
        have H := Lib.hid hb2
        clear hb2 h0
        go_enter Try.func117, Try.ntmps117
        go_wp2
        go_ret
        exact ⟨by rw [H.out]; rfl, rfl⟩
      · have H := Lib.hid (show isAlignS n = false by simp [isAlignS]; omega)
        clear h0
        go_enter Try.func117, Try.ntmps117
        go_wp2
        go_ret
        exact ⟨by rw [H.out]; rfl, rfl⟩
    · have H := Lib.hid (show isAlignS n = false by simp [isAlignS]; omega)
      clear h0
      go_enter Try.func117, Try.ntmps117
      go_wp2
      go_ret
      exact ⟨by rw [H.out]; rfl, rfl⟩

theorem isField_c (nm : ByteArray) (sh k n al bits : Int) (A1 A2 : Option Addr) (n1 n2 c1 c2 : Nat) (pk : Bool) (w : World) : Calls Try.prog 129 #[.agg #[.string nm, .int .i64 sh, .int .i64 k, .int .i64 n, .slice A1 n1 c1, .slice A2 n2 c2, .bool pk, .int .i64 al, .int .i64 bits]] w fun e w' => e = .returned (.bool (isFieldS nm sh k bits)) ∧ Below w.heap.size w w' := by
  obtain ⟨r1, r2⟩ := ksize_rng k
  by_cases hb : bits < 0
  · have H := Lib.hid (show isFieldS nm sh k bits = !nm.toList.isEmpty by unfold isFieldS; rw [if_pos hb])
    go_enter Try.func129, Try.ntmps129
    go_wp2
    go_ret
    exact ⟨by rw [H.out]; rfl, by (repeat (first | exact Below.refl _ _ | apply bel_drewN | apply bel_alloc))⟩
  · have H0 : isFieldS nm sh k bits = (sh == 1 && decide (bits ≤ 8 * ksize k) && (decide (0 < bits) || nm.toList.isEmpty)) := by unfold isFieldS; rw [if_neg hb]
    cases h1 : sh == 1 with
    | false =>
      have H := Lib.hid (show isFieldS nm sh k bits = false by rw [H0, h1]; rfl)
      clear H0
      go_enter Try.func129, Try.ntmps129
      go_wp2
      go_quiet ((go_at_call 32; with_reducible exact Calls.quiet_of_same ((size_c _ _).mono fun _ _ ⟨a, b⟩ => ⟨a, b.symm⟩)))
      go_wp2
      go_ret
      exact ⟨by rw [H.out]; rfl, by (repeat (first | exact Below.refl _ _ | apply bel_drewN | apply bel_alloc))⟩
    | true =>
      by_cases h2 : bits ≤ 8 * ksize k
      · by_cases h3 : 0 < bits
        · have H := Lib.hid (show isFieldS nm sh k bits = true by rw [H0, h1, decide_eq_true h2, decide_eq_true h3]; rfl)
          clear H0
          go_enter Try.func129, Try.ntmps129
          go_wp2
          go_quiet ((go_at_call 32; with_reducible exact Calls.quiet_of_same ((size_c _ _).mono fun _ _ ⟨a, b⟩ => ⟨a, b.symm⟩)))
          go_wp2
          go_ret
          exact ⟨by rw [H.out]; rfl, by (repeat (first | exact Below.refl _ _ | apply bel_drewN | apply bel_alloc))⟩
        · have H := Lib.hid (show isFieldS nm sh k bits = nm.toList.isEmpty by rw [H0, h1, decide_eq_true h2, decide_eq_false h3]; rfl)
          have d3 : decide (0 < bits) = false := decide_eq_false h3
          clear H0
          go_enter Try.func129, Try.ntmps129
          go_wp2
          go_quiet ((go_at_call 32; with_reducible exact Calls.quiet_of_same ((size_c _ _).mono fun _ _ ⟨a, b⟩ => ⟨a, b.symm⟩)))
          go_wp2
          go_ret
          exact ⟨by rw [H.out]; rfl, by (repeat (first | exact Below.refl _ _ | apply bel_drewN | apply bel_alloc))⟩
      · have H := Lib.hid (show isFieldS nm sh k bits = false by rw [H0, h1, decide_eq_false h2]; rfl)
        have d2 : decide (bits ≤ 8 * ksize k) = false := decide_eq_false h2
        clear H0
        go_enter Try.func129, Try.ntmps129
        go_wp2
        go_quiet ((go_at_call 32; with_reducible exact Calls.quiet_of_same ((size_c _ _).mono fun _ _ ⟨a, b⟩ => ⟨a, b.symm⟩)))
        go_wp2
        go_ret
        exact ⟨by rw [H.out]; rfl, by (repeat (first | exact Below.refl _ _ | apply bel_drewN | apply bel_alloc))⟩

end Go.Proofs.Ytcggghamnmflcaa

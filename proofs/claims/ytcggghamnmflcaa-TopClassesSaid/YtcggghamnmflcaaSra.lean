/- Walks of the reference's small functions of shapes. -/
import Derived.Test.YtcggghamnmflcaaSwp
namespace Go.Proofs.Ytcggghamnmflcaa
open Go Go.RowKit Go.Shelf
theorem rup_c (v n : Int) (w : World) (h0 : 0 ≤ v) (h1 : v ≤ 1000000000000) (h2 : 1 ≤ n) (h3 : n ≤ 1000000000000) : Calls Try.prog 125 #[.int .i64 v, .int .i64 n] w fun e w' => e = .returned (.int .i64 (upS v n)) ∧ w = w' := by
  have hq : 0 ≤ (v + n - 1) / n * n := Int.mul_nonneg (Int.ediv_nonneg (by omega) (by omega)) (by omega)
  have hm : (v + n - 1) / n * n ≤ v + n - 1 := Int.ediv_mul_le _ (by omega)
  go_enter Try.func125, Try.ntmps125
  go_wp2
  go_ret
  exact ⟨rfl, rfl⟩
theorem bareField_c (nm : ByteArray) (sh k n al bits : Int) (A1 A2 : Option Addr) (n1 n2 c1 c2 : Nat) (pk : Bool) (w : World) : Calls Try.prog 123 #[.agg #[.string nm, .int .i64 sh, .int .i64 k, .int .i64 n, .slice A1 n1 c1, .slice A2 n2 c2, .bool pk, .int .i64 al, .int .i64 bits]] w fun e w' => e = .returned (.bool (isFieldS nm sh k bits)) ∧ Below w.heap.size w w' := by
  obtain ⟨r1, r2⟩ := ksize_rng k
  by_cases hb : bits < 0
  · have H := Lib.hid (show isFieldS nm sh k bits = !nm.toList.isEmpty by unfold isFieldS; rw [if_pos hb])
    go_enter Try.func123, Try.ntmps123
    go_wp2
    go_ret
    exact ⟨by rw [H.out]; rfl, by (repeat (first | exact Below.refl _ _ | apply bel_drewN | apply bel_alloc))⟩
  · have H0 : isFieldS nm sh k bits = (sh == 1 && decide (bits ≤ 8 * ksize k) && (decide (0 < bits) || nm.toList.isEmpty)) := by unfold isFieldS; rw [if_neg hb]
    cases h1 : sh == 1 with
    | false =>
      have H := Lib.hid (show isFieldS nm sh k bits = false by rw [H0, h1]; rfl)
      have h1' : (sh != 1) = true := by rw [bne, h1]; rfl
      clear H0
      go_enter Try.func123, Try.ntmps123
      go_wp2
      go_quiet ((go_at_call 72; with_reducible exact Calls.quiet_of_same ((rsize_c _ _).mono fun _ _ ⟨a, b⟩ => ⟨a, b.symm⟩)))
      go_wp2
      go_ret
      exact ⟨by rw [H.out]; rfl, by (repeat (first | exact Below.refl _ _ | apply bel_drewN | apply bel_alloc))⟩
    | true =>
      have h1' : (sh != 1) = false := by rw [bne, h1]; rfl
      by_cases h2 : bits ≤ 8 * ksize k
      · have d2 : decide (8 * ksize k < bits) = false := decide_eq_false (by omega)
        by_cases h3 : 0 < bits
        · have H := Lib.hid (show isFieldS nm sh k bits = true by rw [H0, h1, decide_eq_true h2, decide_eq_true h3]; rfl)
          clear H0
          go_enter Try.func123, Try.ntmps123
          go_wp2
          go_quiet ((go_at_call 72; with_reducible exact Calls.quiet_of_same ((rsize_c _ _).mono fun _ _ ⟨a, b⟩ => ⟨a, b.symm⟩)))
          go_wp2
          go_ret
          exact ⟨by rw [H.out]; rfl, by (repeat (first | exact Below.refl _ _ | apply bel_drewN | apply bel_alloc))⟩
        · have H := Lib.hid (show isFieldS nm sh k bits = nm.toList.isEmpty by rw [H0, h1, decide_eq_true h2, decide_eq_false h3]; rfl)
          have d3 : decide (0 < bits) = false := decide_eq_false h3
          clear H0
          go_enter Try.func123, Try.ntmps123
          go_wp2
          go_quiet ((go_at_call 72; with_reducible exact Calls.quiet_of_same ((rsize_c _ _).mono fun _ _ ⟨a, b⟩ => ⟨a, b.symm⟩)))
          go_wp2
          go_ret
          exact ⟨by rw [H.out]; rfl, by (repeat (first | exact Below.refl _ _ | apply bel_drewN | apply bel_alloc))⟩
      · have H := Lib.hid (show isFieldS nm sh k bits = false by rw [H0, h1, decide_eq_false h2]; rfl)
        have d2 : decide (8 * ksize k < bits) = true := decide_eq_true (by omega)
        clear H0
        go_enter Try.func123, Try.ntmps123
        go_wp2
        go_quiet ((go_at_call 72; with_reducible exact Calls.quiet_of_same ((rsize_c _ _).mono fun _ _ ⟨a, b⟩ => ⟨a, b.symm⟩)))
        go_wp2
        go_ret
        exact ⟨by rw [H.out]; rfl, by (repeat (first | exact Below.refl _ _ | apply bel_drewN | apply bel_alloc))⟩
def AlR (n k : Int) : Prop := (k = 1) ∨ (k = 2 ∧ (n == 1) = false) ∨ (k = 4 ∧ (n == 1) = false ∧ (n == 2) = false) ∨ (k = 8 ∧ (n == 1) = false ∧ (n == 2) = false ∧ (n == 4) = false) ∨ (k = 16 ∧ (n == 1) = false ∧ (n == 2) = false ∧ (n == 4) = false ∧ (n == 8) = false) ∨ (k = 32 ∧ (n == 1) = false ∧ (n == 2) = false ∧ (n == 4) = false ∧ (n == 8) = false ∧ (n == 16) = false) ∨ (k = 64 ∧ (n == 1) = false ∧ (n == 2) = false ∧ (n == 4) = false ∧ (n == 8) = false ∧ (n == 16) = false ∧ (n == 32) = false) ∨ (k = 128 ∧ (n == 1) = false ∧ (n == 2) = false ∧ (n == 4) = false ∧ (n == 8) = false ∧ (n == 16) = false ∧ (n == 32) = false ∧ (n == 64) = false)
theorem risAlign_c (n : Int) (w : World) : Calls Try.prog 111 #[.int .i64 n] w fun e w' => e = .returned (.bool (isAlignS n)) ∧ w = w' := by
  go_enter Try.func111, Try.ntmps111
  go_wp2
  go_loop [3] (fun k => ∃ j : Int, k = .int .i64 j ∧ AlR n j) (fun k => (128 - intOf k).toNat)
  case atStart => exact ⟨1, rfl, .inl rfl⟩
  case round =>
    obtain ⟨j, rfl, hj⟩ := hrel
    unfold AlR at hj
    rcases hj with rfl | ⟨rfl, g0⟩ | ⟨rfl, g0, g1⟩ | ⟨rfl, g0, g1, g2⟩ | ⟨rfl, g0, g1, g2, g3⟩ | ⟨rfl, g0, g1, g2, g3, g4⟩ | ⟨rfl, g0, g1, g2, g3, g4, g5⟩ | ⟨rfl, g0, g1, g2, g3, g4, g5, g6⟩
    · cases h : (n == 1) with
      | true =>
        obtain rfl : n = 1 := by simpa using h
        clear h
        go_wp2
        go_ret
        exact ⟨rfl, rfl⟩
      | false =>
        go_wp2
        go_round
        case rel => exact ⟨2, rfl, .inr (.inl ⟨rfl, h⟩)⟩
        case measure => simp [intOf]
    · cases h : (n == 2) with
      | true =>
        obtain rfl : n = 2 := by simpa using h
        clear h
        go_wp2
        go_ret
        exact ⟨rfl, rfl⟩
      | false =>
        go_wp2
        go_round
        case rel => exact ⟨4, rfl, .inr (.inr (.inl ⟨rfl, g0, h⟩))⟩
        case measure => simp [intOf]
    · cases h : (n == 4) with
      | true =>
        obtain rfl : n = 4 := by simpa using h
        clear h
        go_wp2
        go_ret
        exact ⟨rfl, rfl⟩
      | false =>
        go_wp2
        go_round
        case rel => exact ⟨8, rfl, .inr (.inr (.inr (.inl ⟨rfl, g0, g1, h⟩)))⟩
        case measure => simp [intOf]
    · cases h : (n == 8) with
      | true =>
        obtain rfl : n = 8 := by simpa using h
        clear h
        go_wp2
        go_ret
        exact ⟨rfl, rfl⟩
      | false =>
        go_wp2
        go_round
        case rel => exact ⟨16, rfl, .inr (.inr (.inr (.inr (.inl ⟨rfl, g0, g1, g2, h⟩))))⟩
        case measure => simp [intOf]
    · cases h : (n == 16) with
      | true =>
        obtain rfl : n = 16 := by simpa using h
        clear h
        go_wp2
        go_ret
        exact ⟨rfl, rfl⟩
      | false =>
        go_wp2
        go_round
        case rel => exact ⟨32, rfl, .inr (.inr (.inr (.inr (.inr (.inl ⟨rfl, g0, g1, g2, g3, h⟩)))))⟩
        case measure => simp [intOf]
    · cases h : (n == 32) with
      | true =>
        obtain rfl : n = 32 := by simpa using h
        clear h
        go_wp2
        go_ret
        exact ⟨rfl, rfl⟩
      | false =>
        go_wp2
        go_round
        case rel => exact ⟨64, rfl, .inr (.inr (.inr (.inr (.inr (.inr (.inl ⟨rfl, g0, g1, g2, g3, g4, h⟩))))))⟩
        case measure => simp [intOf]
    · cases h : (n == 64) with
      | true =>
        obtain rfl : n = 64 := by simpa using h
        clear h
        go_wp2
        go_ret
        exact ⟨rfl, rfl⟩
      | false =>
        go_wp2
        go_round
        case rel => exact ⟨128, rfl, .inr (.inr (.inr (.inr (.inr (.inr (.inr (⟨rfl, g0, g1, g2, g3, g4, g5, h⟩)))))))⟩
        case measure => simp [intOf]
    · have HN := Lib.hid (show isAlignS n = (n == 0) by unfold isAlignS; rw [g0, g1, g2, g3, g4, g5, g6]; simp)
      clear g0 g1 g2 g3 g4 g5 g6
      go_wp2
      go_ret
      exact ⟨by rw [HN.out]; rfl, rfl⟩
end Go.Proofs.Ytcggghamnmflcaa

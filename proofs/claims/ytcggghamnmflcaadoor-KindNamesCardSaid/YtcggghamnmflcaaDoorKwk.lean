/- The walks of the functions of kinds. -/
import Derived.Test.YtcggghamnmflcaaDoorProg
import Derived.Test.YtcggghamnmflcaaDoorKpl
import Derived.Below
import Derived.Deep.Draws
import Derived.OwnWalk
import Derived.Tactics
import Derived.WalkKit
import Derived.KernelRfl
import Derived.RowKit3
import Derived.Deep.QuietTactic
import Derived.BigQuiet
import Derived.Outline
import Derived.Lib.Hide
namespace Go.Proofs.YtcggghamnmflcaaDoor
open Go.RowKit

theorem is_c (k : Int) (w : World) : Calls Tryd.prog 17 #[.int .i64 k] w fun e w' => e = .returned (.bool (isK k)) ∧ w = w' := by
  by_cases h1 : 1 ≤ k
  · by_cases h2 : k ≤ 8
    · go_enter Tryd.func17, Tryd.ntmps17
      go_wp2
      go_ret
      exact ⟨by simp [isK, h1, h2], rfl⟩
    · go_enter Tryd.func17, Tryd.ntmps17
      go_wp2
      go_ret
      exact ⟨by simp [isK, h1, h2], rfl⟩
  · go_enter Tryd.func17, Tryd.ntmps17
    go_wp2
    go_ret
    exact ⟨by simp [isK]; omega, rfl⟩

theorem size_c (k : Int) (w : World) : Calls Tryd.prog 8 #[.int .i64 k] w fun e w' => e = .returned (.int .i64 (ksize k)) ∧ w = w' := by
  cases h : isK k with
  | false =>
    have HS := Lib.hid (isK_false h).1
    have HI := Lib.hid h
    clear h
    go_enter Tryd.func8, Tryd.ntmps8
    go_wp2_with (go_at_call 17; refine (is_c _ _).mono ?_; rintro e w' ⟨rfl, rfl⟩; rw [HI.out])
    go_ret
    exact ⟨by rw [HS.out]; rfl, rfl⟩
  | true =>
    rcases isK_cases h with rfl | rfl | rfl | rfl | rfl | rfl | rfl | rfl
    all_goals
      clear h
      go_enter Tryd.func8, Tryd.ntmps8
      go_wp2_with (go_at_call 17; refine (is_c _ _).mono ?_; rintro e w' ⟨rfl, rfl⟩)
      go_ret
      exact ⟨rfl, rfl⟩

theorem uns_c (k : Int) (w : World) : Calls Tryd.prog 10 #[.int .i64 k] w fun e w' => e = .returned (.bool (kuns k)) ∧ w = w' := by
  cases h : isK k with
  | false =>
    have HS := Lib.hid (isK_false h).2
    have HI := Lib.hid h
    clear h
    go_enter Tryd.func10, Tryd.ntmps10
    go_wp2_with (go_at_call 17; refine (is_c _ _).mono ?_; rintro e w' ⟨rfl, rfl⟩; rw [HI.out])
    go_ret
    exact ⟨by rw [HS.out]; rfl, rfl⟩
  | true =>
    rcases isK_cases h with rfl | rfl | rfl | rfl | rfl | rfl | rfl | rfl
    all_goals
      clear h
      go_enter Tryd.func10, Tryd.ntmps10
      go_wp2_with (go_at_call 17; refine (is_c _ _).mono ?_; rintro e w' ⟨rfl, rfl⟩)
      go_ret
      exact ⟨rfl, rfl⟩

theorem to_c (v k : Int) (w : World) (hv : I64 v) : Calls Tryd.prog 15 #[.int .i64 v, .int .i64 k] w fun e w' => e = .returned (.tuple #[.int .i64 (kto v k), .int .i64 (kerr k)]) ∧ w = w' := by
  cases h : isK k with
  | false =>
    have HS := Lib.hid (kto_no v h)
    have HI := Lib.hid h
    clear h
    go_enter Tryd.func15, Tryd.ntmps15
    go_wp2_with (go_at_call 17; refine (is_c _ _).mono ?_; rintro e w' ⟨rfl, rfl⟩; rw [HI.out])
    go_ret2
    exact ⟨by rw [HS.out.1, HS.out.2]; rfl, rfl⟩
  | true =>
    rcases isK_cases h with rfl | rfl | rfl | rfl | rfl | rfl | rfl | rfl
    all_goals
      clear h
      go_enter Tryd.func15, Tryd.ntmps15
      go_wp2_with (first | (go_at_call 17; refine (is_c _ _).mono ?_; rintro e w' ⟨rfl, rfl⟩) | (go_at_call 8; refine (size_c _ _).mono ?_; rintro e w' ⟨rfl, rfl⟩; simp only [ksize, Int.reduceEq, if_true, if_false]) | (go_at_call 10; refine (uns_c _ _).mono ?_; rintro e w' ⟨rfl, rfl⟩; simp only [kuns, Int.reduceBEq, Bool.or_false, Bool.or_true]))
      go_ret2
      refine ⟨?_, rfl⟩
      first | (rw [← sh1]; rfl) | (rw [← sh2]; rfl) | (rw [← sh3]; rfl) | (rw [← sh4]; rfl) | (rw [← sh5]; rfl) | (rw [← sh6]; rfl) | (rw [← sh7 hv]; rfl) | (rw [← sh8 hv]; rfl)

theorem ret_ii {a b c d : Int} (h : a = c) (k : b = d) : Ending.returned (.tuple #[.int .i64 a, .int .i64 b]) = .returned (.tuple #[.int .i64 c, .int .i64 d]) := by rw [h, k]

theorem prom_yes (k : Int) (w : World) (h : isK k = true) : Calls Tryd.prog 6 #[.int .i64 k] w fun e w' => e = .returned (.tuple #[.int .i64 (kprom k), .int .i64 0]) ∧ w = w' := by
  have HS := Lib.hid (kprom_yes h)
  have HI := Lib.hid h
  clear h
  by_cases h5 : k < 5
  all_goals
    go_enter Tryd.func6, Tryd.ntmps6
    go_wp2_with (go_at_call 17; refine (is_c _ _).mono ?_; rintro e w' ⟨rfl, rfl⟩; rw [HI.out])
    go_ret2
    exact ⟨by rw [HS.out]; first | (rw [if_pos h5]; rfl) | (rw [if_neg (Int.not_lt.2 h5)]; rfl), rfl⟩

theorem prom_no (k : Int) (w : World) (h : isK k = false) : Calls Tryd.prog 6 #[.int .i64 k] w fun e w' => e = .returned (.tuple #[.int .i64 0, .int .i64 80]) ∧ w = w' := by
  have HI := Lib.hid h
  clear h
  go_enter Tryd.func6, Tryd.ntmps6
  go_wp2_with (go_at_call 17; refine (is_c _ _).mono ?_; rintro e w' ⟨rfl, rfl⟩; rw [HI.out])
  go_ret2
  exact ⟨rfl, rfl⟩

theorem usual_c (a b : Int) (w : World) : Calls Tryd.prog 16 #[.int .i64 a, .int .i64 b] w fun e w' => e = .returned (.tuple #[.int .i64 (kusl a b), .int .i64 (kusle a b)]) ∧ w = w' := by
  cases ha : isK a with
  | false =>
    have HS := Lib.hid (show kusl a b = 0 ∧ kusle a b = 80 by unfold kusl kusle; rw [ha]; exact ⟨rfl, rfl⟩)
    have HA := Lib.hid ha
    clear ha
    cases hb : isK b with
    | false =>
      have HB := Lib.hid hb
      clear hb
      go_enter Tryd.func16, Tryd.ntmps16
      go_wp2_with (first | (go_at_call 6; (with_reducible refine (prom_no a _ HA.out).mono ?_); rintro e w' ⟨rfl, rfl⟩) | (go_at_call 6; (with_reducible refine (prom_no b _ HB.out).mono ?_); rintro e w' ⟨rfl, rfl⟩))
      go_ret2
      exact ⟨by rw [HS.out.1, HS.out.2]; rfl, rfl⟩
    | true =>
      have HB := Lib.hid hb
      clear hb
      go_enter Tryd.func16, Tryd.ntmps16
      go_wp2_with (first | (go_at_call 6; (with_reducible refine (prom_no a _ HA.out).mono ?_); rintro e w' ⟨rfl, rfl⟩) | (go_at_call 6; (with_reducible refine (prom_yes b _ HB.out).mono ?_); rintro e w' ⟨rfl, rfl⟩))
      go_ret2
      exact ⟨by rw [HS.out.1, HS.out.2]; rfl, rfl⟩
  | true =>
    cases hb : isK b with
    | false =>
      have HS := Lib.hid (show kusl a b = 0 ∧ kusle a b = 80 by unfold kusl kusle; rw [ha, hb]; exact ⟨rfl, rfl⟩)
      have HA := Lib.hid ha
      clear ha
      have HB := Lib.hid hb
      clear hb
      go_enter Tryd.func16, Tryd.ntmps16
      go_wp2_with (first | (go_at_call 6; (with_reducible refine (prom_yes a _ HA.out).mono ?_); rintro e w' ⟨rfl, rfl⟩) | (go_at_call 6; (with_reducible refine (prom_no b _ HB.out).mono ?_); rintro e w' ⟨rfl, rfl⟩))
      go_ret2
      exact ⟨by rw [HS.out.1, HS.out.2]; rfl, rfl⟩
    | true =>
      have HS := Lib.hid (show kusl a b = max (kprom a) (kprom b) ∧ kusle a b = 0 by unfold kusl kusle; rw [ha, hb]; exact ⟨rfl, rfl⟩)
      have HA := Lib.hid ha
      clear ha
      have HB := Lib.hid hb
      clear hb
      go_enter Tryd.func16, Tryd.ntmps16
      go_wp2_with (first | (go_at_call 6; (with_reducible refine (prom_yes a _ HA.out).mono ?_); rintro e w' ⟨rfl, rfl⟩) | (go_at_call 6; (with_reducible refine (prom_yes b _ HB.out).mono ?_); rintro e w' ⟨rfl, rfl⟩))
      all_goals
        go_ret2
        exact ⟨by rw [HS.out.1, HS.out.2]; exact ret_ii (by show _ = max _ _; omega) rfl, rfl⟩

theorem ris_c (k : Int) (w : World) : Calls Tryd.prog 18 #[.int .i64 k] w fun e w' => e = .returned (.bool (isK k)) ∧ w = w' := by
  by_cases h1 : 1 ≤ k
  · by_cases h2 : k ≤ 8
    · go_enter Tryd.func18, Tryd.ntmps18
      go_wp2
      go_ret
      exact ⟨by simp [isK, h1, h2], rfl⟩
    · go_enter Tryd.func18, Tryd.ntmps18
      go_wp2
      go_ret
      exact ⟨by simp [isK, h1, h2], rfl⟩
  · go_enter Tryd.func18, Tryd.ntmps18
    go_wp2
    go_ret
    exact ⟨by simp [isK]; omega, rfl⟩

theorem rsize_c (k : Int) (w : World) : Calls Tryd.prog 9 #[.int .i64 k] w fun e w' => e = .returned (.int .i64 (ksize k)) ∧ w = w' := by
  cases h : isK k with
  | false =>
    have HS := Lib.hid (isK_false h).1
    obtain ⟨n1, n2, n3, n4, n5, n6, n7, n8⟩ := isK_ne h
    clear h
    go_enter Tryd.func9, Tryd.ntmps9
    go_wp2
    go_ret
    exact ⟨by rw [HS.out]; rfl, rfl⟩
  | true =>
    rcases isK_cases h with rfl | rfl | rfl | rfl | rfl | rfl | rfl | rfl
    all_goals
      clear h
      go_enter Tryd.func9, Tryd.ntmps9
      go_wp2
      go_ret
      exact ⟨rfl, rfl⟩

theorem runs_c (k : Int) (w : World) : Calls Tryd.prog 11 #[.int .i64 k] w fun e w' => e = .returned (.bool (kuns k)) ∧ w = w' := by
  cases h : isK k with
  | false =>
    have HS := Lib.hid (isK_false h).2
    obtain ⟨n1, n2, n3, n4, n5, n6, n7, n8⟩ := isK_ne h
    clear h
    go_enter Tryd.func11, Tryd.ntmps11
    go_wp2
    go_ret
    exact ⟨by rw [HS.out]; rfl, rfl⟩
  | true =>
    rcases isK_cases h with rfl | rfl | rfl | rfl | rfl | rfl | rfl | rfl
    all_goals
      clear h
      go_enter Tryd.func11, Tryd.ntmps11
      go_wp2
      go_ret
      exact ⟨rfl, rfl⟩

theorem rprom_yes (k : Int) (w : World) (h : isK k = true) : Calls Tryd.prog 7 #[.int .i64 k] w fun e w' => e = .returned (.tuple #[.int .i64 (kprom k), .int .i64 0]) ∧ w = w' := by
  rcases isK_cases h with rfl | rfl | rfl | rfl | rfl | rfl | rfl | rfl
  all_goals
    clear h
    go_enter Tryd.func7, Tryd.ntmps7
    go_wp2_with (first | (go_at_call 18; refine (ris_c _ _).mono ?_; rintro e w' ⟨rfl, rfl⟩) | (go_at_call 9; refine (rsize_c _ _).mono ?_; rintro e w' ⟨rfl, rfl⟩; simp only [ksize, Int.reduceEq, if_true, if_false]))
    go_ret2
    exact ⟨rfl, rfl⟩

theorem rprom_no (k : Int) (w : World) (h : isK k = false) : Calls Tryd.prog 7 #[.int .i64 k] w fun e w' => e = .returned (.tuple #[.int .i64 0, .int .i64 80]) ∧ w = w' := by
  have HI := Lib.hid h
  clear h
  go_enter Tryd.func7, Tryd.ntmps7
  go_wp2_with (go_at_call 18; refine (ris_c _ _).mono ?_; rintro e w' ⟨rfl, rfl⟩; rw [HI.out])
  go_ret2
  exact ⟨rfl, rfl⟩

theorem shown_c (w : World) : Calls Tryd.prog 5 #[] w fun e w' => e = .returned (.bool true) ∧ w = w' := by
  go_enter Tryd.func5, Tryd.ntmps5
  go_wp2_with (first | (go_at_call 15; refine (to_c 200 1 _ ⟨by omega, by omega⟩).mono ?_; rintro e w' ⟨rfl, rfl⟩; rw [show kto 200 1 = -56 by decide, show kerr 1 = 0 by decide]) | (go_at_call 16; refine (usual_c _ _ _).mono ?_; rintro e w' ⟨rfl, rfl⟩; rw [show kusl 6 7 = 7 by decide, show kusle 6 7 = 0 by decide]) | (go_at_call 8; refine (size_c _ _).mono ?_; rintro e w' ⟨rfl, rfl⟩; rw [show ksize 4 = 2 by decide]))
  go_ret
  exact ⟨rfl, rfl⟩



end Go.Proofs.YtcggghamnmflcaaDoor

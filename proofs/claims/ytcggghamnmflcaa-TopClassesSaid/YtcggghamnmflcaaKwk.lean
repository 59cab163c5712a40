/- The walks of the functions of kinds. -/
import Derived.Test.YtcggghamnmflcaaProg
import Derived.Test.YtcggghamnmflcaaKpl
import Derived.Below
import Derived.Deep.Draws
import Derived.OwnWalk
import Derived.Tactics
import Derived.WalkKit
import Derived.KernelRfl
import Derived.RowKit3
import Derived.Deep.QuietTactic
import Derived.BigQuiet
import Derived.Outline
import Derived.Lib.Hide
namespace Go.Proofs.Ytcggghamnmflcaa
open Go.RowKit

theorem is_c (k : Int) (w : World) : Calls Try.prog 73 #[.int .i64 k] w fun e w' => e = .returned (.bool (isK k)) ∧ w = w' := by
  by_cases h1 : 1 ≤ k
  · by_cases h2 : k ≤ 8
    · go_enter Try.func73, Try.ntmps73
      go_wp2
      go_ret
      exact ⟨by simp [isK, h1, h2], rfl⟩
    · go_enter Try.func73, Try.ntmps73
      go_wp2
      go_ret
      exact ⟨by simp [isK, h1, h2], rfl⟩
  · go_enter Try.func73, Try.ntmps73
    go_wp2
    go_ret
    exact ⟨by simp [isK]; omega, rfl⟩

theorem size_c (k : Int) (w : World) : Calls Try.prog 32 #[.int .i64 k] w fun e w' => e = .returned (.int .i64 (ksize k)) ∧ w = w' := by
  cases h : isK k with
  | false =>
    have HS := Lib.hid (isK_false h).1
    have HI := Lib.hid h
    clear h
    go_enter Try.func32, Try.ntmps32
    go_wp2_with (go_at_call 73; refine (is_c _ _).mono ?_; rintro e w' ⟨rfl, rfl⟩; rw [HI.out])
    go_ret
    exact ⟨by rw [HS.out]; rfl, rfl⟩
  | true =>
    rcases isK_cases h with rfl | rfl | rfl | rfl | rfl | rfl | rfl | rfl
    all_goals
      clear h
      go_enter Try.func32, Try.ntmps32
      go_wp2_with (go_at_call 73; refine (is_c _ _).mono ?_; rintro e w' ⟨rfl, rfl⟩)
      go_ret
      exact ⟨rfl, rfl⟩

theorem uns_c (k : Int) (w : World) : Calls Try.prog 37 #[.int .i64 k] w fun e w' => e = .returned (.bool (kuns k)) ∧ w = w' := by
  cases h : isK k with
  | false =>
    have HS := Lib.hid (isK_false h).2
    have HI := Lib.hid h
    clear h
    go_enter Try.func37, Try.ntmps37
    go_wp2_with (go_at_call 73; refine (is_c _ _).mono ?_; rintro e w' ⟨rfl, rfl⟩; rw [HI.out])
    go_ret
    exact ⟨by rw [HS.out]; rfl, rfl⟩
  | true =>
    rcases isK_cases h with rfl | rfl | rfl | rfl | rfl | rfl | rfl | rfl
    all_goals
      clear h
      go_enter Try.func37, Try.ntmps37
      go_wp2_with (go_at_call 73; refine (is_c _ _).mono ?_; rintro e w' ⟨rfl, rfl⟩)
      go_ret
      exact ⟨rfl, rfl⟩

theorem to_c (v k : Int) (w : World) (hv : I64 v) : Calls Try.prog 33 #[.int .i64 v, .int .i64 k] w fun e w' => e = .returned (.tuple #[.int .i64 (kto v k), .int .i64 (kerr k)]) ∧ w = w' := by
  cases h : isK k with
  | false =>
    have HS := Lib.hid (kto_no v h)
    have HI := Lib.hid h
    clear h
    go_enter Try.func33, Try.ntmps33
    go_wp2_with (go_at_call 73; refine (is_c _ _).mono ?_; rintro e w' ⟨rfl, rfl⟩; rw [HI.out])
    go_ret2
    exact ⟨by rw [HS.out.1, HS.out.2]; rfl, rfl⟩
  | true =>
    rcases isK_cases h with rfl | rfl | rfl | rfl | rfl | rfl | rfl | rfl
    all_goals
      clear h
      go_enter Try.func33, Try.ntmps33
      go_wp2_with (first | (go_at_call 73; refine (is_c _ _).mono ?_; rintro e w' ⟨rfl, rfl⟩) | (go_at_call 32; refine (size_c _ _).mono ?_; rintro e w' ⟨rfl, rfl⟩; simp only [ksize, Int.reduceEq, if_true, if_false]) | (go_at_call 37; refine (uns_c _ _).mono ?_; rintro e w' ⟨rfl, rfl⟩; simp only [kuns, Int.reduceBEq, Bool.or_false, Bool.or_true]))
      go_ret2
      refine ⟨?_, rfl⟩
      first | (rw [← sh1]; rfl) | (rw [← sh2]; rfl) | (rw [← sh3]; rfl) | (rw [← sh4]; rfl) | (rw [← sh5]; rfl) | (rw [← sh6]; rfl) | (rw [← sh7 hv]; rfl) | (rw [← sh8 hv]; rfl)

theorem ret_ii {a b c d : Int} (h : a = c) (k : b = d) : Ending.returned (.tuple #[.int .i64 a, .int .i64 b]) = .returned (.tuple #[.int .i64 c, .int .i64 d]) := by rw [h, k]

theorem prom_yes (k : Int) (w : World) (h : isK k = true) : Calls Try.prog 31 #[.int .i64 k] w fun e w' => e = .returned (.tuple #[.int .i64 (kprom k), .int .i64 0]) ∧ w = w' := by
  have HS := Lib.hid (kprom_yes h)
  have HI := Lib.hid h
  clear h
  by_cases h5 : k < 5
  all_goals
    go_enter Try.func31, Try.ntmps31
    go_wp2_with (go_at_call 73; refine (is_c _ _).mono ?_; rintro e w' ⟨rfl, rfl⟩; rw [HI.out])
    go_ret2
    exact ⟨by rw [HS.out]; first | (rw [if_pos h5]; rfl) | (rw [if_neg (Int.not_lt.2 h5)]; rfl), rfl⟩

theorem prom_no (k : Int) (w : World) (h : isK k = false) : Calls Try.prog 31 #[.int .i64 k] w fun e w' => e = .returned (.tuple #[.int .i64 0, .int .i64 80]) ∧ w = w' := by
  have HI := Lib.hid h
  clear h
  go_enter Try.func31, Try.ntmps31
  go_wp2_with (go_at_call 73; refine (is_c _ _).mono ?_; rintro e w' ⟨rfl, rfl⟩; rw [HI.out])
  go_ret2
  exact ⟨rfl, rfl⟩

theorem usual_c (a b : Int) (w : World) : Calls Try.prog 29 #[.int .i64 a, .int .i64 b] w fun e w' => e = .returned (.tuple #[.int .i64 (kusl a b), .int .i64 (kusle a b)]) ∧ w = w' := by
  cases ha : isK a with
  | false =>
    have HS := Lib.hid (show kusl a b = 0 ∧ kusle a b = 80 by unfold kusl kusle; rw [ha]; exact ⟨rfl, rfl⟩)
    have HA := Lib.hid ha
    clear ha
    cases hb : isK b with
    | false =>
      have HB := Lib.hid hb
      clear hb
      go_enter Try.func29, Try.ntmps29
      go_wp2_with (first | (go_at_call 31; (with_reducible refine (prom_no a _ HA.out).mono ?_); rintro e w' ⟨rfl, rfl⟩) | (go_at_call 31; (with_reducible refine (prom_no b _ HB.out).mono ?_); rintro e w' ⟨rfl, rfl⟩))
      go_ret2
      exact ⟨by rw [HS.out.1, HS.out.2]; rfl, rfl⟩
    | true =>
      have HB := Lib.hid hb
      clear hb
      go_enter Try.func29, Try.ntmps29
      go_wp2_with (first | (go_at_call 31; (with_reducible refine (prom_no a _ HA.out).mono ?_); rintro e w' ⟨rfl, rfl⟩) | (go_at_call 31; (with_reducible refine (prom_yes b _ HB.out).mono ?_); rintro e w' ⟨rfl, rfl⟩))
      go_ret2
      exact ⟨by rw [HS.out.1, HS.out.2]; rfl, rfl⟩
  | true =>
    cases hb : isK b with
    | false =>
      have HS := Lib.hid (show kusl a b = 0 ∧ kusle a b = 80 by unfold kusl kusle; rw [ha, hb]; exact ⟨rfl, rfl⟩)
      have HA := Lib.hid ha
      clear ha
      have HB := Lib.hid hb
      clear hb
      go_enter Try.func29, Try.ntmps29
      go_wp2_with (first | (go_at_call 31; (with_reducible refine (prom_yes a _ HA.out).mono ?_); rintro e w' ⟨rfl, rfl⟩) | (go_at_call 31; (with_reducible refine (prom_no b _ HB.out).mono ?_); rintro e w' ⟨rfl, rfl⟩))
      go_ret2
      exact ⟨by rw [HS.out.1, HS.out.2]; rfl, rfl⟩
    | true =>
      have HS := Lib.hid (show kusl a b = max (kprom a) (kprom b) ∧ kusle a b = 0 by unfold kusl kusle; rw [ha, hb]; exact ⟨rfl, rfl⟩)
      have HA := Lib.hid ha
      clear ha
      have HB := Lib.hid hb
      clear hb
      go_enter Try.func29, Try.ntmps29
      go_wp2_with (first | (go_at_call 31; (with_reducible refine (prom_yes a _ HA.out).mono ?_); rintro e w' ⟨rfl, rfl⟩) | (go_at_call 31; (with_reducible refine (prom_yes b _ HB.out).mono ?_); rintro e w' ⟨rfl, rfl⟩))
      all_goals
        go_ret2
        exact ⟨by rw [HS.out.1, HS.out.2]; exact ret_ii (by show _ = max _ _; omega) rfl, rfl⟩

theorem lies_c (v k : Int) (w : World) (hv : I64 v) : Calls Try.prog 35 #[.int .i64 v, .int .i64 k] w fun e w' => e = .returned (.bool (isK k && v == kto v k)) ∧ w = w' := by
  cases h : isK k with
  | false =>
    have HE := Lib.hid (kto_no v h).2
    clear h
    go_enter Try.func35, Try.ntmps35
    go_wp2_with (go_at_call 33; refine (to_c _ _ _ hv).mono ?_; rintro e w' ⟨rfl, rfl⟩; rw [HE.out])
    go_ret
    exact ⟨rfl, rfl⟩
  | true =>
    have HE := Lib.hid (kerr_yes h)
    clear h
    go_enter Try.func35, Try.ntmps35
    go_wp2_with (go_at_call 33; refine (to_c _ _ _ hv).mono ?_; rintro e w' ⟨rfl, rfl⟩; rw [HE.out])
    go_ret
    exact ⟨rfl, rfl⟩

theorem rto_c (v k : Int) (w : World) (hv : I64 v) : Calls Try.prog 34 #[.int .i64 v, .int .i64 k] w fun e w' => e = .returned (.tuple #[.int .i64 (kto v k), .int .i64 (kerr k)]) ∧ w = w' := by
  cases h : isK k with
  | false =>
    have HS := Lib.hid (kto_no v h)
    obtain ⟨n1, n2, n3, n4, n5, n6, n7, n8⟩ := isK_ne h
    clear h
    go_enter Try.func34, Try.ntmps34
    go_wp2
    go_ret2
    exact ⟨by rw [HS.out.1, HS.out.2]; rfl, rfl⟩
  | true =>
    rcases isK_cases h with rfl | rfl | rfl | rfl | rfl | rfl | rfl | rfl
    all_goals
      clear h
      go_enter Try.func34, Try.ntmps34
      go_wp2
      go_ret2
      refine ⟨?_, rfl⟩
      first | rfl | (rw [← wrap64_is (kto_I64 hv _)]; rfl) | (exact ret_ii (k5 v) rfl)

theorem rlies_c (v k : Int) (w : World) (hv : I64 v) : Calls Try.prog 36 #[.int .i64 v, .int .i64 k] w fun e w' => e = .returned (.bool (isK k && v == kto v k)) ∧ w = w' := by
  cases h : isK k with
  | false =>
    have HE := Lib.hid (kto_no v h).2
    clear h
    go_enter Try.func36, Try.ntmps36
    go_wp2_with (go_at_call 34; refine (rto_c _ _ _ hv).mono ?_; rintro e w' ⟨rfl, rfl⟩; rw [HE.out])
    go_ret
    exact ⟨rfl, rfl⟩
  | true =>
    have HE := Lib.hid (kerr_yes h)
    clear h
    go_enter Try.func36, Try.ntmps36
    go_wp2_with (go_at_call 34; refine (rto_c _ _ _ hv).mono ?_; rintro e w' ⟨rfl, rfl⟩; rw [HE.out])
    go_ret
    exact ⟨rfl, rfl⟩

theorem ris_c (k : Int) (w : World) : Calls Try.prog 105 #[.int .i64 k] w fun e w' => e = .returned (.bool (isK k)) ∧ w = w' := by
  by_cases h1 : 1 ≤ k
  · by_cases h2 : k ≤ 8
    · go_enter Try.func105, Try.ntmps105
      go_wp2
      go_ret
      exact ⟨by simp [isK, h1, h2], rfl⟩
    · go_enter Try.func105, Try.ntmps105
      go_wp2
      go_ret
      exact ⟨by simp [isK, h1, h2], rfl⟩
  · go_enter Try.func105, Try.ntmps105
    go_wp2
    go_ret
    exact ⟨by simp [isK]; omega, rfl⟩

theorem rsize_c (k : Int) (w : World) : Calls Try.prog 72 #[.int .i64 k] w fun e w' => e = .returned (.int .i64 (ksize k)) ∧ w = w' := by
  cases h : isK k with
  | false =>
    have HS := Lib.hid (isK_false h).1
    obtain ⟨n1, n2, n3, n4, n5, n6, n7, n8⟩ := isK_ne h
    clear h
    go_enter Try.func72, Try.ntmps72
    go_wp2
    go_ret
    exact ⟨by rw [HS.out]; rfl, rfl⟩
  | true =>
    rcases isK_cases h with rfl | rfl | rfl | rfl | rfl | rfl | rfl | rfl
    all_goals
      clear h
      go_enter Try.func72, Try.ntmps72
      go_wp2
      go_ret
      exact ⟨rfl, rfl⟩

theorem runs_c (k : Int) (w : World) : Calls Try.prog 71 #[.int .i64 k] w fun e w' => e = .returned (.bool (kuns k)) ∧ w = w' := by
  cases h : isK k with
  | false =>
    have HS := Lib.hid (isK_false h).2
    obtain ⟨n1, n2, n3, n4, n5, n6, n7, n8⟩ := isK_ne h
    clear h
    go_enter Try.func71, Try.ntmps71
    go_wp2
    go_ret
    exact ⟨by rw [HS.out]; rfl, rfl⟩
  | true =>
    rcases isK_cases h with rfl | rfl | rfl | rfl | rfl | rfl | rfl | rfl
    all_goals
      clear h
      go_enter Try.func71, Try.ntmps71
      go_wp2
      go_ret
      exact ⟨rfl, rfl⟩

theorem rprom_yes (k : Int) (w : World) (h : isK k = true) : Calls Try.prog 70 #[.int .i64 k] w fun e w' => e = .returned (.tuple #[.int .i64 (kprom k), .int .i64 0]) ∧ w = w' := by
  rcases isK_cases h with rfl | rfl | rfl | rfl | rfl | rfl | rfl | rfl
  all_goals
    clear h
    go_enter Try.func70, Try.ntmps70
    go_wp2_with (first | (go_at_call 105; refine (ris_c _ _).mono ?_; rintro e w' ⟨rfl, rfl⟩) | (go_at_call 72; refine (rsize_c _ _).mono ?_; rintro e w' ⟨rfl, rfl⟩; simp only [ksize, Int.reduceEq, if_true, if_false]))
    go_ret2
    exact ⟨rfl, rfl⟩

theorem rprom_no (k : Int) (w : World) (h : isK k = false) : Calls Try.prog 70 #[.int .i64 k] w fun e w' => e = .returned (.tuple #[.int .i64 0, .int .i64 80]) ∧ w = w' := by
  have HI := Lib.hid h
  clear h
  go_enter Try.func70, Try.ntmps70
  go_wp2_with (go_at_call 105; refine (ris_c _ _).mono ?_; rintro e w' ⟨rfl, rfl⟩; rw [HI.out])
  go_ret2
  exact ⟨rfl, rfl⟩

theorem rusual_c (a b : Int) (w : World) : Calls Try.prog 30 #[.int .i64 a, .int .i64 b] w fun e w' => e = .returned (.tuple #[.int .i64 (kusl a b), .int .i64 (kusle a b)]) ∧ w = w' := by
  cases ha : isK a with
  | false =>
    have HS := Lib.hid (show kusl a b = 0 ∧ kusle a b = 80 by unfold kusl kusle; rw [ha]; exact ⟨rfl, rfl⟩)
    have HA := Lib.hid ha
    clear ha
    cases hb : isK b with
    | false =>
      have HB := Lib.hid hb
      clear hb
      go_enter Try.func30, Try.ntmps30
      go_wp2_with (first | (go_at_call 70; (with_reducible refine (rprom_no a _ HA.out).mono ?_); rintro e w' ⟨rfl, rfl⟩) | (go_at_call 70; (with_reducible refine (rprom_no b _ HB.out).mono ?_); rintro e w' ⟨rfl, rfl⟩))
      go_ret2
      exact ⟨by rw [HS.out.1, HS.out.2]; rfl, rfl⟩
    | true =>
      have HB := Lib.hid hb
      clear hb
      go_enter Try.func30, Try.ntmps30
      go_wp2_with (first | (go_at_call 70; (with_reducible refine (rprom_no a _ HA.out).mono ?_); rintro e w' ⟨rfl, rfl⟩) | (go_at_call 70; (with_reducible refine (rprom_yes b _ HB.out).mono ?_); rintro e w' ⟨rfl, rfl⟩))
      go_ret2
      exact ⟨by rw [HS.out.1, HS.out.2]; rfl, rfl⟩
  | true =>
    cases hb : isK b with
    | false =>
      have HS := Lib.hid (show kusl a b = 0 ∧ kusle a b = 80 by unfold kusl kusle; rw [ha, hb]; exact ⟨rfl, rfl⟩)
      have HA := Lib.hid ha
      clear ha
      have HB := Lib.hid hb
      clear hb
      go_enter Try.func30, Try.ntmps30
      go_wp2_with (first | (go_at_call 70; (with_reducible refine (rprom_yes a _ HA.out).mono ?_); rintro e w' ⟨rfl, rfl⟩) | (go_at_call 70; (with_reducible refine (rprom_no b _ HB.out).mono ?_); rintro e w' ⟨rfl, rfl⟩))
      go_ret2
      exact ⟨by rw [HS.out.1, HS.out.2]; rfl, rfl⟩
    | true =>
      have HS := Lib.hid (show kusl a b = max (kprom a) (kprom b) ∧ kusle a b = 0 by unfold kusl kusle; rw [ha, hb]; exact ⟨rfl, rfl⟩)
      have hpa := kprom_vals ha
      have hpb := kprom_vals hb
      have HA := Lib.hid ha
      clear ha
      have HB := Lib.hid hb
      clear hb
      rcases hpa with hpa | hpa | hpa | hpa <;> rcases hpb with hpb | hpb | hpb | hpb
      all_goals
        have PA := Lib.hid hpa
        have PB := Lib.hid hpb
        clear hpa hpb
        go_enter Try.func30, Try.ntmps30
        go_wp2_with (first | (go_at_call 70; (with_reducible refine (rprom_yes a _ HA.out).mono ?_); rintro e w' ⟨rfl, rfl⟩; rw [PA.out]) | (go_at_call 70; (with_reducible refine (rprom_yes b _ HB.out).mono ?_); rintro e w' ⟨rfl, rfl⟩; rw [PB.out]) | (go_at_call 71; (with_reducible refine (runs_c _ _).mono ?_); rintro e w' ⟨rfl, rfl⟩; simp only [kuns, Int.reduceBEq, Bool.or_false, Bool.or_true]) | (go_at_call 72; (with_reducible refine (rsize_c _ _).mono ?_); rintro e w' ⟨rfl, rfl⟩; simp only [ksize, Int.reduceEq, if_true, if_false]))
        go_ret2
        exact ⟨by rw [HS.out.1, HS.out.2, PA.out, PB.out]; rfl, rfl⟩

theorem shown_c (w : World) : Calls Try.prog 28 #[] w fun e w' => e = .returned (.bool true) ∧ w = w' := by
  go_enter Try.func28, Try.ntmps28
  go_wp2_with (first | (go_at_call 33; refine (to_c 200 1 _ ⟨by omega, by omega⟩).mono ?_; rintro e w' ⟨rfl, rfl⟩; rw [show kto 200 1 = -56 by decide, show kerr 1 = 0 by decide]) | (go_at_call 29; refine (usual_c _ _ _).mono ?_; rintro e w' ⟨rfl, rfl⟩; rw [show kusl 6 7 = 7 by decide, show kusle 6 7 = 0 by decide]) | (go_at_call 32; refine (size_c _ _).mono ?_; rintro e w' ⟨rfl, rfl⟩; rw [show ksize 4 = 2 by decide]))
  go_ret
  exact ⟨rfl, rfl⟩

end Go.Proofs.Ytcggghamnmflcaa

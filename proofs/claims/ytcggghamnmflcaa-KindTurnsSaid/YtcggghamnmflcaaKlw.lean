/- The walks of the laws of kinds. -/
import Derived.Test.YtcggghamnmflcaaKwk
namespace Go.Proofs.Ytcggghamnmflcaa
open Go.RowKit

theorem kindUsual_w (a b : Int) (w : World) : Calls Try.prog 3 #[.int .i64 a, .int .i64 b] w fun e w' => e = .returned (.bool true) ∧ w = w' := by
  go_enter Try.func3, Try.ntmps3
  go_wp2_with (first | (go_at_call 28; (with_reducible refine (shown_c _).mono ?_); rintro e w' ⟨rfl, rfl⟩) | (go_at_call 29; (with_reducible refine (usual_c _ _ _).mono ?_); rintro e w' ⟨rfl, rfl⟩) | (go_at_call 30; (with_reducible refine (rusual_c _ _ _).mono ?_); rintro e w' ⟨rfl, rfl⟩))
  go_ret
  exact ⟨rfl, rfl⟩

theorem kindTo_w (v k : Int) (w : World) (hv : I64 v) : Calls Try.prog 6 #[.int .i64 v, .int .i64 k] w fun e w' => e = .returned (.bool true) ∧ w = w' := by
  go_enter Try.func6, Try.ntmps6
  go_wp2_with (first | (go_at_call 28; (with_reducible refine (shown_c _).mono ?_); rintro e w' ⟨rfl, rfl⟩) | (go_at_call 33; (with_reducible refine (to_c _ _ _ hv).mono ?_); rintro e w' ⟨rfl, rfl⟩) | (go_at_call 34; (with_reducible refine (rto_c _ _ _ hv).mono ?_); rintro e w' ⟨rfl, rfl⟩) | (go_at_call 35; (with_reducible refine (lies_c _ _ _ hv).mono ?_); rintro e w' ⟨rfl, rfl⟩) | (go_at_call 36; (with_reducible refine (rlies_c _ _ _ hv).mono ?_); rintro e w' ⟨rfl, rfl⟩))
  go_ret
  exact ⟨rfl, rfl⟩

theorem kindTurns_w (a b : Int) (w : World) : Calls Try.prog 4 #[.int .i64 a, .int .i64 b] w fun e w' => e = .returned (.bool true) ∧ w = w' := by
  cases ha : isK a && isK b with
  | false =>
    obtain ⟨h1, h2⟩ := usl_no ha
    have H1 := Lib.hid h1
    have H2 := Lib.hid h2
    clear ha h1 h2
    go_enter Try.func4, Try.ntmps4
    go_wp2_with (first | (go_at_call 28; (with_reducible refine (shown_c _).mono ?_); rintro e w' ⟨rfl, rfl⟩) | (go_at_call 29; (with_reducible refine (usual_c _ _ _).mono ?_); rintro e w' ⟨rfl, rfl⟩; first | rw [H1.out.1, H1.out.2] | rw [H2.out.1, H2.out.2]))
    go_ret
    exact ⟨rfl, rfl⟩
  | true =>
    obtain ⟨x, h1, h2, h3, h4, h5, h6⟩ := usl_yes ha
    have H1 := Lib.hid h1
    have H2 := Lib.hid h2
    have H3 := Lib.hid h3
    have H4 := Lib.hid h4
    clear ha h1 h2 h3 h4
    have d5 : decide (ksize a ≤ ksize x) = true := decide_eq_true h5
    have d6 : decide (ksize b ≤ ksize x) = true := decide_eq_true h6
    clear h5 h6
    go_enter Try.func4, Try.ntmps4
    go_wp2_with (first | (go_at_call 28; (with_reducible refine (shown_c _).mono ?_); rintro e w' ⟨rfl, rfl⟩) | (go_at_call 29; (with_reducible refine (usual_c _ _ _).mono ?_); rintro e w' ⟨rfl, rfl⟩; first | rw [H1.out.1, H1.out.2] | rw [H2.out.1, H2.out.2]) | (go_at_call 31; (with_reducible refine (prom_yes x _ H3.out).mono ?_); rintro e w' ⟨rfl, rfl⟩; rw [H4.out]) | (go_at_call 32; (with_reducible refine (size_c _ _).mono ?_); rintro e w' ⟨rfl, rfl⟩))
    go_ret
    exact ⟨rfl, rfl⟩

theorem kindNarrow_w (v a b : Int) (w : World) (hv : I64 v) : Calls Try.prog 5 #[.int .i64 v, .int .i64 a, .int .i64 b] w fun e w' => e = .returned (.bool true) ∧ w = w' := by
  have hx := kto_I64 hv a
  cases ha : isK a && isK b with
  | false =>
    have hn : (kerr a != 0) = true ∨ (kerr a != 0) = false ∧ (kerr b != 0) = true := by
      unfold kerr
      cases h1 : isK a <;> cases h2 : isK b <;> rw [h1, h2] at ha <;> simp at ha ⊢
    clear ha
    rcases hn with hn | ⟨hn, hm⟩
    all_goals
      go_enter Try.func5, Try.ntmps5
      go_wp2_with (first | (go_at_call 28; (with_reducible refine (shown_c _).mono ?_); rintro e w' ⟨rfl, rfl⟩) | (go_at_call 33; (with_reducible refine (to_c v a _ hv).mono ?_); rintro e w' ⟨rfl, rfl⟩) | (go_at_call 33; (with_reducible refine (to_c v b _ hv).mono ?_); rintro e w' ⟨rfl, rfl⟩) | (go_at_call 33; (with_reducible refine (to_c (kto v a) b _ hx).mono ?_); rintro e w' ⟨rfl, rfl⟩))
      go_ret
      exact ⟨rfl, rfl⟩
  | true =>
    rw [Bool.and_eq_true] at ha
    have e1 := Lib.hid (kerr_yes ha.1)
    have e2 := Lib.hid (kerr_yes ha.2)
    have hc : decide (ksize a < ksize b) = true ∨ decide (ksize a < ksize b) = false ∧ (kto (kto v a) b == kto v b) = true := by
      by_cases hlt : ksize a < ksize b
      · exact .inl (decide_eq_true hlt)
      · exact .inr ⟨decide_eq_false hlt, beq_iff_eq.2 (kto_kto ha.1 ha.2 (by omega))⟩
    clear ha
    rcases hc with hc | ⟨hc, hd⟩
    all_goals
      go_enter Try.func5, Try.ntmps5
      go_wp2_with (first | (go_at_call 28; (with_reducible refine (shown_c _).mono ?_); rintro e w' ⟨rfl, rfl⟩) | (go_at_call 33; (with_reducible refine (to_c v a _ hv).mono ?_); rintro e w' ⟨rfl, rfl⟩; rw [e1.out]) | (go_at_call 33; (with_reducible refine (to_c v b _ hv).mono ?_); rintro e w' ⟨rfl, rfl⟩; rw [e2.out]) | (go_at_call 33; (with_reducible refine (to_c (kto v a) b _ hx).mono ?_); rintro e w' ⟨rfl, rfl⟩; rw [e2.out]) | (go_at_call 32; (with_reducible refine (size_c a _).mono ?_); rintro e w' ⟨rfl, rfl⟩) | (go_at_call 32; (with_reducible refine (size_c b _).mono ?_); rintro e w' ⟨rfl, rfl⟩))
      go_ret
      exact ⟨rfl, rfl⟩

theorem lies_yes (v k : Int) (w : World) (hv : I64 v) (b : Bool) (h : (isK k && v == kto v k) = b) : Calls Try.prog 35 #[.int .i64 v, .int .i64 k] w fun e w' => e = .returned (.bool b) ∧ w' = w :=
  (lies_c v k w hv).mono fun _ _ ⟨he, hw⟩ => ⟨by rw [he, h], hw.symm⟩
theorem uns_is (k : Int) (w : World) (b : Bool) (h : kuns k = b) : Calls Try.prog 37 #[.int .i64 k] w fun e w' => e = .returned (.bool b) ∧ w' = w :=
  (uns_c k w).mono fun _ _ ⟨he, hw⟩ => ⟨by rw [he, h], hw.symm⟩

theorem kindOnce_no (v k : Int) (w : World) (hv : I64 v) (h : isK k = false) : Calls Try.prog 7 #[.int .i64 v, .int .i64 k] w fun e w' => e = .returned (.bool true) ∧ w = w' := by
  have h1 := Lib.hid (kto_no v h).2
  have h2 := Lib.hid (isK_false h).1
  have h3 := Lib.hid (show (isK k && v == kto v k) = false by rw [h]; rfl)
  clear h
  go_enter Try.func7, Try.ntmps7
  go_wp2_with (first | (go_at_call 28; (with_reducible refine (shown_c _).mono ?_); rintro e w' ⟨rfl, rfl⟩) | (go_at_call 33; (with_reducible refine (to_c v k _ hv).mono ?_); rintro e w' ⟨rfl, rfl⟩; rw [h1.out]) | (go_at_call 35; (with_reducible refine (lies_yes v k _ hv false h3.out).mono ?_); rintro e w' ⟨rfl, rfl⟩) | (go_at_call 32; (with_reducible refine (size_c k _).mono ?_); rintro e w' ⟨rfl, rfl⟩; rw [h2.out]))
  go_ret
  exact ⟨rfl, rfl⟩

set_option maxRecDepth 100000 in
set_option maxRecDepth 100000 in
theorem kindOnce_1 (v : Int) (w : World) (hv : I64 v) : Calls Try.prog 7 #[.int .i64 v, .int .i64 1] w fun e w' => e = .returned (.bool true) ∧ ∃ nq, w' = w.drewN nq := by
  have hy0 := kto_I64 hv 1
  have hk2 := kto_kto (v := v) (a := 1) (b := 1) (by decide) (by decide) (Int.le_refl _)
  have he := Lib.hid (show kerr 1 = 0 by decide)
  have hu := Lib.hid (show kuns 1 = false by decide)
  obtain ⟨y, hyk⟩ : ∃ y, kto v 1 = y := ⟨_, rfl⟩
  rw [hyk] at hk2 hy0
  have hs := sl1 v
  rw [hyk] at hs
  have hl := Lib.hid (show (isK 1 && v == kto v 1) = (v == y) by rw [hyk]; rfl)
  have hl2 := Lib.hid (show (isK 1 && y == kto y 1) = true by rw [hk2]; simp [isK])
  have hk3 := Lib.hid hk2
  have hk1 := Lib.hid hyk
  clear hk2 hyk
  by_cases hc : 0 ≤ y
  all_goals
    go_enter Try.func7, Try.ntmps7
    go_wp2_with (first | (go_at_call 28; (with_reducible refine (shown_c _).mono ?_); rintro e w' ⟨rfl, rfl⟩) | (go_at_call 33; (with_reducible refine (to_c v _ _ hv).mono ?_); rintro e w' ⟨rfl, rfl⟩; rw [he.out, hk1.out]) | (go_at_call 33; (with_reducible refine (to_c y _ _ hy0).mono ?_); rintro e w' ⟨rfl, rfl⟩; rw [he.out, hk3.out]) | (go_at_call 32; (with_reducible refine (size_c _ _).mono ?_); rintro e w' ⟨rfl, rfl⟩; simp only [ksize, Int.reduceEq, if_true, if_false]))
    go_quiet (first | (go_at_call 35; with_reducible exact Calls.quiet_of_same (lies_yes v 1 _ hv (v == y) hl.out)) | (go_at_call 35; with_reducible exact Calls.quiet_of_same (lies_yes y 1 _ hy0 true hl2.out)) | (go_at_call 37; with_reducible exact Calls.quiet_of_same (uns_is 1 _ _ hu.out)))
    go_wp2
    go_ret
    exact ⟨rfl, _, rfl⟩

set_option maxRecDepth 100000 in
theorem kindOnce_2 (v : Int) (w : World) (hv : I64 v) : Calls Try.prog 7 #[.int .i64 v, .int .i64 2] w fun e w' => e = .returned (.bool true) ∧ ∃ nq, w' = w.drewN nq := by
  have hy0 := kto_I64 hv 2
  have hk2 := kto_kto (v := v) (a := 2) (b := 2) (by decide) (by decide) (Int.le_refl _)
  have he := Lib.hid (show kerr 2 = 0 by decide)
  have hu := Lib.hid (show kuns 2 = true by decide)
  obtain ⟨y, hyk⟩ : ∃ y, kto v 2 = y := ⟨_, rfl⟩
  rw [hyk] at hk2 hy0
  have hs := sl2 v
  rw [hyk] at hs
  have hc := kto_ge v 2 (by omega)
  rw [hyk] at hc
  have hl := Lib.hid (show (isK 2 && v == kto v 2) = (v == y) by rw [hyk]; rfl)
  have hl2 := Lib.hid (show (isK 2 && y == kto y 2) = true by rw [hk2]; simp [isK])
  have hk3 := Lib.hid hk2
  have hk1 := Lib.hid hyk
  clear hk2 hyk
  all_goals
    go_enter Try.func7, Try.ntmps7
    go_wp2_with (first | (go_at_call 28; (with_reducible refine (shown_c _).mono ?_); rintro e w' ⟨rfl, rfl⟩) | (go_at_call 33; (with_reducible refine (to_c v _ _ hv).mono ?_); rintro e w' ⟨rfl, rfl⟩; rw [he.out, hk1.out]) | (go_at_call 33; (with_reducible refine (to_c y _ _ hy0).mono ?_); rintro e w' ⟨rfl, rfl⟩; rw [he.out, hk3.out]) | (go_at_call 32; (with_reducible refine (size_c _ _).mono ?_); rintro e w' ⟨rfl, rfl⟩; simp only [ksize, Int.reduceEq, if_true, if_false]))
    go_quiet (first | (go_at_call 35; with_reducible exact Calls.quiet_of_same (lies_yes v 2 _ hv (v == y) hl.out)) | (go_at_call 35; with_reducible exact Calls.quiet_of_same (lies_yes y 2 _ hy0 true hl2.out)) | (go_at_call 37; with_reducible exact Calls.quiet_of_same (uns_is 2 _ _ hu.out)))
    go_wp2
    go_ret
    exact ⟨rfl, _, rfl⟩

set_option maxRecDepth 100000 in
theorem kindOnce_3 (v : Int) (w : World) (hv : I64 v) : Calls Try.prog 7 #[.int .i64 v, .int .i64 3] w fun e w' => e = .returned (.bool true) ∧ ∃ nq, w' = w.drewN nq := by
  have hy0 := kto_I64 hv 3
  have hk2 := kto_kto (v := v) (a := 3) (b := 3) (by decide) (by decide) (Int.le_refl _)
  have he := Lib.hid (show kerr 3 = 0 by decide)
  have hu := Lib.hid (show kuns 3 = false by decide)
  obtain ⟨y, hyk⟩ : ∃ y, kto v 3 = y := ⟨_, rfl⟩
  rw [hyk] at hk2 hy0
  have hs := sl3 v
  rw [hyk] at hs
  have hl := Lib.hid (show (isK 3 && v == kto v 3) = (v == y) by rw [hyk]; rfl)
  have hl2 := Lib.hid (show (isK 3 && y == kto y 3) = true by rw [hk2]; simp [isK])
  have hk3 := Lib.hid hk2
  have hk1 := Lib.hid hyk
  clear hk2 hyk
  by_cases hc : 0 ≤ y
  all_goals
    go_enter Try.func7, Try.ntmps7
    go_wp2_with (first | (go_at_call 28; (with_reducible refine (shown_c _).mono ?_); rintro e w' ⟨rfl, rfl⟩) | (go_at_call 33; (with_reducible refine (to_c v _ _ hv).mono ?_); rintro e w' ⟨rfl, rfl⟩; rw [he.out, hk1.out]) | (go_at_call 33; (with_reducible refine (to_c y _ _ hy0).mono ?_); rintro e w' ⟨rfl, rfl⟩; rw [he.out, hk3.out]) | (go_at_call 32; (with_reducible refine (size_c _ _).mono ?_); rintro e w' ⟨rfl, rfl⟩; simp only [ksize, Int.reduceEq, if_true, if_false]))
    go_quiet (first | (go_at_call 35; with_reducible exact Calls.quiet_of_same (lies_yes v 3 _ hv (v == y) hl.out)) | (go_at_call 35; with_reducible exact Calls.quiet_of_same (lies_yes y 3 _ hy0 true hl2.out)) | (go_at_call 37; with_reducible exact Calls.quiet_of_same (uns_is 3 _ _ hu.out)))
    go_wp2
    go_ret
    exact ⟨rfl, _, rfl⟩

set_option maxRecDepth 100000 in
theorem kindOnce_4 (v : Int) (w : World) (hv : I64 v) : Calls Try.prog 7 #[.int .i64 v, .int .i64 4] w fun e w' => e = .returned (.bool true) ∧ ∃ nq, w' = w.drewN nq := by
  have hy0 := kto_I64 hv 4
  have hk2 := kto_kto (v := v) (a := 4) (b := 4) (by decide) (by decide) (Int.le_refl _)
  have he := Lib.hid (show kerr 4 = 0 by decide)
  have hu := Lib.hid (show kuns 4 = true by decide)
  obtain ⟨y, hyk⟩ : ∃ y, kto v 4 = y := ⟨_, rfl⟩
  rw [hyk] at hk2 hy0
  have hs := sl4 v
  rw [hyk] at hs
  have hc := kto_ge v 4 (by omega)
  rw [hyk] at hc
  have hl := Lib.hid (show (isK 4 && v == kto v 4) = (v == y) by rw [hyk]; rfl)
  have hl2 := Lib.hid (show (isK 4 && y == kto y 4) = true by rw [hk2]; simp [isK])
  have hk3 := Lib.hid hk2
  have hk1 := Lib.hid hyk
  clear hk2 hyk
  all_goals
    go_enter Try.func7, Try.ntmps7
    go_wp2_with (first | (go_at_call 28; (with_reducible refine (shown_c _).mono ?_); rintro e w' ⟨rfl, rfl⟩) | (go_at_call 33; (with_reducible refine (to_c v _ _ hv).mono ?_); rintro e w' ⟨rfl, rfl⟩; rw [he.out, hk1.out]) | (go_at_call 33; (with_reducible refine (to_c y _ _ hy0).mono ?_); rintro e w' ⟨rfl, rfl⟩; rw [he.out, hk3.out]) | (go_at_call 32; (with_reducible refine (size_c _ _).mono ?_); rintro e w' ⟨rfl, rfl⟩; simp only [ksize, Int.reduceEq, if_true, if_false]))
    go_quiet (first | (go_at_call 35; with_reducible exact Calls.quiet_of_same (lies_yes v 4 _ hv (v == y) hl.out)) | (go_at_call 35; with_reducible exact Calls.quiet_of_same (lies_yes y 4 _ hy0 true hl2.out)) | (go_at_call 37; with_reducible exact Calls.quiet_of_same (uns_is 4 _ _ hu.out)))
    go_wp2
    go_ret
    exact ⟨rfl, _, rfl⟩

set_option maxRecDepth 100000 in
theorem kindOnce_5 (v : Int) (w : World) (hv : I64 v) : Calls Try.prog 7 #[.int .i64 v, .int .i64 5] w fun e w' => e = .returned (.bool true) ∧ ∃ nq, w' = w.drewN nq := by
  have hy0 := kto_I64 hv 5
  have hk2 := kto_kto (v := v) (a := 5) (b := 5) (by decide) (by decide) (Int.le_refl _)
  have he := Lib.hid (show kerr 5 = 0 by decide)
  have hu := Lib.hid (show kuns 5 = false by decide)
  obtain ⟨y, hyk⟩ : ∃ y, kto v 5 = y := ⟨_, rfl⟩
  rw [hyk] at hk2 hy0
  have hs := sl5 v
  rw [hyk] at hs
  have hl := Lib.hid (show (isK 5 && v == kto v 5) = (v == y) by rw [hyk]; rfl)
  have hl2 := Lib.hid (show (isK 5 && y == kto y 5) = true by rw [hk2]; simp [isK])
  have hk3 := Lib.hid hk2
  have hk1 := Lib.hid hyk
  clear hk2 hyk
  by_cases hc : 0 ≤ y
  all_goals
    go_enter Try.func7, Try.ntmps7
    go_wp2_with (first | (go_at_call 28; (with_reducible refine (shown_c _).mono ?_); rintro e w' ⟨rfl, rfl⟩) | (go_at_call 33; (with_reducible refine (to_c v _ _ hv).mono ?_); rintro e w' ⟨rfl, rfl⟩; rw [he.out, hk1.out]) | (go_at_call 33; (with_reducible refine (to_c y _ _ hy0).mono ?_); rintro e w' ⟨rfl, rfl⟩; rw [he.out, hk3.out]) | (go_at_call 32; (with_reducible refine (size_c _ _).mono ?_); rintro e w' ⟨rfl, rfl⟩; simp only [ksize, Int.reduceEq, if_true, if_false]))
    go_quiet (first | (go_at_call 35; with_reducible exact Calls.quiet_of_same (lies_yes v 5 _ hv (v == y) hl.out)) | (go_at_call 35; with_reducible exact Calls.quiet_of_same (lies_yes y 5 _ hy0 true hl2.out)) | (go_at_call 37; with_reducible exact Calls.quiet_of_same (uns_is 5 _ _ hu.out)))
    go_wp2
    go_ret
    exact ⟨rfl, _, rfl⟩

set_option maxRecDepth 100000 in
theorem kindOnce_6 (v : Int) (w : World) (hv : I64 v) : Calls Try.prog 7 #[.int .i64 v, .int .i64 6] w fun e w' => e = .returned (.bool true) ∧ ∃ nq, w' = w.drewN nq := by
  have hy0 := kto_I64 hv 6
  have hk2 := kto_kto (v := v) (a := 6) (b := 6) (by decide) (by decide) (Int.le_refl _)
  have he := Lib.hid (show kerr 6 = 0 by decide)
  have hu := Lib.hid (show kuns 6 = true by decide)
  obtain ⟨y, hyk⟩ : ∃ y, kto v 6 = y := ⟨_, rfl⟩
  rw [hyk] at hk2 hy0
  have hs := sl6 v
  rw [hyk] at hs
  have hc := kto_ge v 6 (by omega)
  rw [hyk] at hc
  have hl := Lib.hid (show (isK 6 && v == kto v 6) = (v == y) by rw [hyk]; rfl)
  have hl2 := Lib.hid (show (isK 6 && y == kto y 6) = true by rw [hk2]; simp [isK])
  have hk3 := Lib.hid hk2
  have hk1 := Lib.hid hyk
  clear hk2 hyk
  all_goals
    go_enter Try.func7, Try.ntmps7
    go_wp2_with (first | (go_at_call 28; (with_reducible refine (shown_c _).mono ?_); rintro e w' ⟨rfl, rfl⟩) | (go_at_call 33; (with_reducible refine (to_c v _ _ hv).mono ?_); rintro e w' ⟨rfl, rfl⟩; rw [he.out, hk1.out]) | (go_at_call 33; (with_reducible refine (to_c y _ _ hy0).mono ?_); rintro e w' ⟨rfl, rfl⟩; rw [he.out, hk3.out]) | (go_at_call 32; (with_reducible refine (size_c _ _).mono ?_); rintro e w' ⟨rfl, rfl⟩; simp only [ksize, Int.reduceEq, if_true, if_false]))
    go_quiet (first | (go_at_call 35; with_reducible exact Calls.quiet_of_same (lies_yes v 6 _ hv (v == y) hl.out)) | (go_at_call 35; with_reducible exact Calls.quiet_of_same (lies_yes y 6 _ hy0 true hl2.out)) | (go_at_call 37; with_reducible exact Calls.quiet_of_same (uns_is 6 _ _ hu.out)))
    go_wp2
    go_ret
    exact ⟨rfl, _, rfl⟩

set_option maxRecDepth 100000 in
theorem kindOnce_7 (v : Int) (w : World) (hv : I64 v) : Calls Try.prog 7 #[.int .i64 v, .int .i64 7] w fun e w' => e = .returned (.bool true) ∧ ∃ nq, w' = w.drewN nq := by
  have he := Lib.hid (show kerr 7 = 0 by decide)
  have hu := Lib.hid (show kuns 7 = false by decide)
  have hk2 : kto v 7 = v := rfl
  have hl2 := Lib.hid (show (isK 7 && v == kto v 7) = true by rw [hk2]; simp [isK])
  have hk3 := Lib.hid hk2
  clear hk2
  by_cases hc : 0 ≤ v
  all_goals
    go_enter Try.func7, Try.ntmps7
    go_wp2_with (first | (go_at_call 28; (with_reducible refine (shown_c _).mono ?_); rintro e w' ⟨rfl, rfl⟩) | (go_at_call 33; (with_reducible refine (to_c v _ _ hv).mono ?_); rintro e w' ⟨rfl, rfl⟩; rw [he.out, hk3.out]) | (go_at_call 32; (with_reducible refine (size_c _ _).mono ?_); rintro e w' ⟨rfl, rfl⟩; simp only [ksize, Int.reduceEq, if_true, if_false]))
    go_quiet (first | (go_at_call 35; with_reducible exact Calls.quiet_of_same (lies_yes v 7 _ hv true hl2.out)) | (go_at_call 37; with_reducible exact Calls.quiet_of_same (uns_is 7 _ _ hu.out)))
    go_wp2
    go_ret
    exact ⟨rfl, _, rfl⟩

set_option maxRecDepth 100000 in
theorem kindOnce_8 (v : Int) (w : World) (hv : I64 v) : Calls Try.prog 7 #[.int .i64 v, .int .i64 8] w fun e w' => e = .returned (.bool true) ∧ ∃ nq, w' = w.drewN nq := by
  have he := Lib.hid (show kerr 8 = 0 by decide)
  have hu := Lib.hid (show kuns 8 = true by decide)
  have hk2 : kto v 8 = v := rfl
  have hl2 := Lib.hid (show (isK 8 && v == kto v 8) = true by rw [hk2]; simp [isK])
  have hk3 := Lib.hid hk2
  clear hk2
  by_cases hc : 0 ≤ v
  all_goals
    go_enter Try.func7, Try.ntmps7
    go_wp2_with (first | (go_at_call 28; (with_reducible refine (shown_c _).mono ?_); rintro e w' ⟨rfl, rfl⟩) | (go_at_call 33; (with_reducible refine (to_c v _ _ hv).mono ?_); rintro e w' ⟨rfl, rfl⟩; rw [he.out, hk3.out]) | (go_at_call 32; (with_reducible refine (size_c _ _).mono ?_); rintro e w' ⟨rfl, rfl⟩; simp only [ksize, Int.reduceEq, if_true, if_false]))
    go_quiet (first | (go_at_call 35; with_reducible exact Calls.quiet_of_same (lies_yes v 8 _ hv true hl2.out)) | (go_at_call 37; with_reducible exact Calls.quiet_of_same (uns_is 8 _ _ hu.out)))
    go_wp2
    go_ret
    exact ⟨rfl, _, rfl⟩

theorem kindOnce_w (v k : Int) (w : World) (hv : I64 v) : Calls Try.prog 7 #[.int .i64 v, .int .i64 k] w fun e w' => e = .returned (.bool true) ∧ ∃ nq, w' = w.drewN nq := by
  cases h : isK k with
  | false => exact (kindOnce_no v k w hv h).mono fun _ _ ⟨he, hw⟩ => ⟨he, 0, hw.symm⟩
  | true =>
    rcases isK_cases h with rfl | rfl | rfl | rfl | rfl | rfl | rfl | rfl
    · exact kindOnce_1 v w hv
    · exact kindOnce_2 v w hv
    · exact kindOnce_3 v w hv
    · exact kindOnce_4 v w hv
    · exact kindOnce_5 v w hv
    · exact kindOnce_6 v w hv
    · exact kindOnce_7 v w hv
    · exact kindOnce_8 v w hv
end Go.Proofs.Ytcggghamnmflcaa

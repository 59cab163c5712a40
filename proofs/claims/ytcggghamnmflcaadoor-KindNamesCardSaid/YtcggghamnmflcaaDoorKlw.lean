/- The walks of kind.Name, the reference's Name, and the law KindTells. -/
import Derived.Test.YtcggghamnmflcaaDoorKwk
import Derived.LaidLaws
namespace Go.Proofs.YtcggghamnmflcaaDoor
open Go.RowKit

/-- A kind's name. -/
def kname (k : Int) : ByteArray :=
  if k = 0 then ⟨#[118, 111, 105, 100]⟩ else
  if k = 1 then ⟨#[99, 104, 97, 114]⟩ else
  if k = 2 then ⟨#[117, 110, 115, 105, 103, 110, 101, 100, 32, 99, 104, 97, 114]⟩ else
  if k = 3 then ⟨#[115, 104, 111, 114, 116]⟩ else
  if k = 4 then ⟨#[117, 110, 115, 105, 103, 110, 101, 100, 32, 115, 104, 111, 114, 116]⟩ else
  if k = 5 then ⟨#[105, 110, 116]⟩ else
  if k = 6 then ⟨#[117, 110, 115, 105, 103, 110, 101, 100, 32, 105, 110, 116]⟩ else
  if k = 7 then ⟨#[108, 111, 110, 103]⟩ else
  if k = 8 then ⟨#[117, 110, 115, 105, 103, 110, 101, 100, 32, 108, 111, 110, 103]⟩ else ⟨#[]⟩

/-- The variable names holds the nine names. -/
structure NamesAt (w : World) : Prop where
  c0 : w.cell? ⟨0, 0, none⟩ = some (.string ⟨#[118, 111, 105, 100]⟩)
  c1 : w.cell? ⟨0, 1, none⟩ = some (.string ⟨#[99, 104, 97, 114]⟩)
  c2 : w.cell? ⟨0, 2, none⟩ = some (.string ⟨#[117, 110, 115, 105, 103, 110, 101, 100, 32, 99, 104, 97, 114]⟩)
  c3 : w.cell? ⟨0, 3, none⟩ = some (.string ⟨#[115, 104, 111, 114, 116]⟩)
  c4 : w.cell? ⟨0, 4, none⟩ = some (.string ⟨#[117, 110, 115, 105, 103, 110, 101, 100, 32, 115, 104, 111, 114, 116]⟩)
  c5 : w.cell? ⟨0, 5, none⟩ = some (.string ⟨#[105, 110, 116]⟩)
  c6 : w.cell? ⟨0, 6, none⟩ = some (.string ⟨#[117, 110, 115, 105, 103, 110, 101, 100, 32, 105, 110, 116]⟩)
  c7 : w.cell? ⟨0, 7, none⟩ = some (.string ⟨#[108, 111, 110, 103]⟩)
  c8 : w.cell? ⟨0, 8, none⟩ = some (.string ⟨#[117, 110, 115, 105, 103, 110, 101, 100, 32, 108, 111, 110, 103]⟩)

theorem kname_no {k : Int} (h : isK k = false) (h0 : (k == 0) = false) : kname k = ⟨#[]⟩ := by
  obtain ⟨n1, n2, n3, n4, n5, n6, n7, n8⟩ := isK_ne h
  have n0 : k ≠ 0 := by simpa using h0
  simp at n1 n2 n3 n4 n5 n6 n7 n8
  simp [kname, *]

theorem rname_c (k : Int) (w : World) : Calls Tryd.prog 13 #[.int .i64 k] w fun e w' => e = .returned (.string (kname k)) ∧ w = w' := by
  cases h : isK k with
  | false =>
    cases h0 : k == 0 with
    | false =>
      have HS := Lib.hid (kname_no h h0)
      obtain ⟨n1, n2, n3, n4, n5, n6, n7, n8⟩ := isK_ne h
      clear h
      go_enter Tryd.func13, Tryd.ntmps13
      go_wp2
      go_ret
      exact ⟨by rw [HS.out]; rfl, rfl⟩
    | true =>
      obtain rfl : k = 0 := by simpa using h0
      clear h h0
      go_enter Tryd.func13, Tryd.ntmps13
      go_wp2
      go_ret
      exact ⟨rfl, rfl⟩
  | true =>
    rcases isK_cases h with rfl | rfl | rfl | rfl | rfl | rfl | rfl | rfl
    all_goals
      clear h
      go_enter Tryd.func13, Tryd.ntmps13
      go_wp2
      go_ret
      exact ⟨rfl, rfl⟩

theorem name_c (k : Int) (w : World) (hn : NamesAt w) : Calls Tryd.prog 12 #[.int .i64 k] w fun e w' => e = .returned (.string (kname k)) ∧ w = w' := by
  have c0 := hn.c0; have c1 := hn.c1; have c2 := hn.c2; have c3 := hn.c3; have c4 := hn.c4; have c5 := hn.c5; have c6 := hn.c6; have c7 := hn.c7; have c8 := hn.c8
  clear hn
  cases h : isK k with
  | false =>
    cases h0 : k == 0 with
    | false =>
      have HS := Lib.hid (kname_no h h0)
      have h0' : (k != 0) = true := by simpa using h0
      have HI := Lib.hid h
      clear h
      go_enter Tryd.func12, Tryd.ntmps12
      go_wp2_with (go_at_call 17; refine (is_c _ _).mono ?_; rintro e w' ⟨rfl, rfl⟩; rw [HI.out])
      go_ret
      exact ⟨by rw [HS.out]; rfl, rfl⟩
    | true =>
      obtain rfl : k = 0 := by simpa using h0
      clear h h0
      go_enter Tryd.func12, Tryd.ntmps12
      go_wp2_with (go_at_call 17; refine (is_c _ _).mono ?_; rintro e w' ⟨rfl, rfl⟩)
      go_ret
      exact ⟨rfl, rfl⟩
  | true =>
    rcases isK_cases h with rfl | rfl | rfl | rfl | rfl | rfl | rfl | rfl
    all_goals
      clear h
      go_enter Tryd.func12, Tryd.ntmps12
      go_wp2_with (go_at_call 17; refine (is_c _ _).mono ?_; rintro e w' ⟨rfl, rfl⟩)
      go_ret
      exact ⟨rfl, rfl⟩

theorem kindTells_w (k : Int) (w : World) (hn : NamesAt w) : Calls Tryd.prog 3 #[.int .i64 k] w fun e w' => e = .returned (.bool true) ∧ w = w' := by
  cases h : isK k with
  | false =>
    have H := Lib.hid h
    clear h
    go_enter Tryd.func3, Tryd.ntmps3
    go_wp2_with (first | (go_at_call 5; (with_reducible refine (shown_c _).mono ?_); rintro e w' ⟨rfl, rfl⟩) | (go_at_call 6; (with_reducible refine (prom_no k _ H.out).mono ?_); rintro e w' ⟨rfl, rfl⟩) | (go_at_call 7; (with_reducible refine (rprom_no k _ H.out).mono ?_); rintro e w' ⟨rfl, rfl⟩) | (go_at_call 8; (with_reducible refine (size_c k _).mono ?_); rintro e w' ⟨rfl, rfl⟩) | (go_at_call 9; (with_reducible refine (rsize_c k _).mono ?_); rintro e w' ⟨rfl, rfl⟩) | (go_at_call 10; (with_reducible refine (uns_c k _).mono ?_); rintro e w' ⟨rfl, rfl⟩) | (go_at_call 11; (with_reducible refine (runs_c k _).mono ?_); rintro e w' ⟨rfl, rfl⟩) | (go_at_call 12; (with_reducible refine (name_c k _ hn).mono ?_); rintro e w' ⟨rfl, rfl⟩) | (go_at_call 13; (with_reducible refine (rname_c k _).mono ?_); rintro e w' ⟨rfl, rfl⟩))
    go_ret
    exact ⟨rfl, rfl⟩
  | true =>
    have H := Lib.hid h
    clear h
    go_enter Tryd.func3, Tryd.ntmps3
    go_wp2_with (first | (go_at_call 5; (with_reducible refine (shown_c _).mono ?_); rintro e w' ⟨rfl, rfl⟩) | (go_at_call 6; (with_reducible refine (prom_yes k _ H.out).mono ?_); rintro e w' ⟨rfl, rfl⟩) | (go_at_call 7; (with_reducible refine (rprom_yes k _ H.out).mono ?_); rintro e w' ⟨rfl, rfl⟩) | (go_at_call 8; (with_reducible refine (size_c k _).mono ?_); rintro e w' ⟨rfl, rfl⟩) | (go_at_call 9; (with_reducible refine (rsize_c k _).mono ?_); rintro e w' ⟨rfl, rfl⟩) | (go_at_call 10; (with_reducible refine (uns_c k _).mono ?_); rintro e w' ⟨rfl, rfl⟩) | (go_at_call 11; (with_reducible refine (runs_c k _).mono ?_); rintro e w' ⟨rfl, rfl⟩) | (go_at_call 12; (with_reducible refine (name_c k _ hn).mono ?_); rintro e w' ⟨rfl, rfl⟩) | (go_at_call 13; (with_reducible refine (rname_c k _).mono ?_); rintro e w' ⟨rfl, rfl⟩))
    go_ret
    exact ⟨rfl, rfl⟩
end Go.Proofs.YtcggghamnmflcaaDoor

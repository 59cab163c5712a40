/- The plain numbers of kinds: size, sign, the value made, the kind in which two are reckoned. The walks of the functions of kinds. Types as plain data, and how they lie: plain definitions, no program. How types lie in memory, and small laws on worlds. Walks of shape's small functions. Walks of shape's functions: where a member begins. The walk of shape.named: names in a map. Walks of shape's functions at whatever numbers: where a member begins. Walks of the iterator over members and their boxes. The walk of shape.compound where its head does not fit. Walks of shape's functions at whatever numbers, one answer each: where a member begins. The walk of shape.later. Blocks that are known whole, and the small laws on worlds that a loop over an iterator asks. -/
import Derived.WalkKit
import Derived.Laws.BitsLemmas
import Derived.Test.YtcggghamnmflcaaProg
import Derived.Below
import Derived.Deep.Draws
import Derived.OwnWalk
import Derived.Tactics
import Derived.KernelRfl
import Derived.RowKit3
import Derived.Deep.QuietTactic
import Derived.BigQuiet
import Derived.Outline
import Derived.Lib.Hide
import Derived.Laws.OwnMore
import Derived.Deep.AppendLies
import Derived.LoopTactic
import Derived.Maps.OwnOps
import Derived.Maps.OwnSet
import Derived.Maps.Views
import Derived.RangeFuncNested
import Derived.RangeFuncBound
import Derived.RangeFuncCalls
import Derived.RangeFuncLeaves
import Derived.Shelf.Abstract
import Derived.Shelf.RegionOpen
import Derived.OwnWalkIn
import Derived.TacticsInMore
import Derived.LoopNIn
import Derived.LoopIn
import Derived.WalkMore
import Derived.Laws.Rows
import Derived.Deep.OwnRows
namespace Go.Proofs.Ytcggghamnmflcaa
open Go Go.RowKit
def I64 (v : Int) : Prop := -9223372036854775808 ≤ v ∧ v ≤ 9223372036854775807
def isK (k : Int) : Bool := decide (1 ≤ k) && decide (k ≤ 8)
def ksize (k : Int) : Int := if k = 1 then 1 else if k = 2 then 1 else if k = 3 then 2 else if k = 4 then 2 else if k = 5 then 4 else if k = 6 then 4 else if k = 7 then 8 else if k = 8 then 8 else 0
def kuns (k : Int) : Bool := k == 2 || k == 4 || k == 6 || k == 8
theorem isK_cases {k : Int} (h : isK k = true) : k = 1 ∨ k = 2 ∨ k = 3 ∨ k = 4 ∨ k = 5 ∨ k = 6 ∨ k = 7 ∨ k = 8 := by
  simp [isK] at h; omega
theorem isK_no {k : Int} (h : isK k = false) : ¬ (1 ≤ k ∧ k ≤ 8) := by simp [isK] at h; omega
theorem isK_false {k : Int} (h : isK k = false) : ksize k = 0 ∧ kuns k = false := by
  have h' := isK_no h
  unfold ksize kuns
  constructor
  · repeat (rw [if_neg (by omega)])
  · simp; omega
theorem isK_ne {k : Int} (h : isK k = false) : (k == 1) = false ∧ (k == 2) = false ∧ (k == 3) = false ∧ (k == 4) = false ∧ (k == 5) = false ∧ (k == 6) = false ∧ (k == 7) = false ∧ (k == 8) = false := by
  have h' := isK_no h
  simp; omega
theorem ksize_vals (k : Int) : ksize k = 0 ∨ ksize k = 1 ∨ ksize k = 2 ∨ ksize k = 4 ∨ ksize k = 8 := by
  unfold ksize
  repeat' split
  all_goals simp
theorem ksize_pos {k : Int} (h : isK k = true) : 1 ≤ ksize k ∧ ksize k ≤ 8 := by
  rcases isK_cases h with rfl | rfl | rfl | rfl | rfl | rfl | rfl | rfl <;> decide
def kerr (k : Int) : Int := if isK k = true then 0 else 80
def kto (v k : Int) : Int := if k = 1 then IntKind.i8.wrap v else if k = 2 then IntKind.u8.wrap v else if k = 3 then IntKind.i16.wrap v else if k = 4 then IntKind.u16.wrap v else if k = 5 then IntKind.i32.wrap v else if k = 6 then IntKind.u32.wrap v else if k = 7 then v else if k = 8 then v else 0
theorem kto_no (v : Int) {k : Int} (h : isK k = false) : kto v k = 0 ∧ kerr k = 80 := by
  have h' := isK_no h
  unfold kto kerr
  constructor
  · repeat (rw [if_neg (by omega)])
  · rw [h]; rfl
theorem kerr_yes {k : Int} (h : isK k = true) : kerr k = 0 := by unfold kerr; rw [if_pos h]
def kprom (k : Int) : Int := if isK k = true then (if k < 5 then 5 else k) else 0
theorem kprom_yes {k : Int} (h : isK k = true) : kprom k = (if k < 5 then 5 else k) := by unfold kprom; rw [if_pos h]
theorem kprom_no {k : Int} (h : isK k = false) : kprom k = 0 ∧ kerr k = 80 := by unfold kprom kerr; rw [h]; exact ⟨rfl, rfl⟩
theorem kprom_vals {k : Int} (h : isK k = true) : kprom k = 5 ∨ kprom k = 6 ∨ kprom k = 7 ∨ kprom k = 8 := by
  rcases isK_cases h with rfl | rfl | rfl | rfl | rfl | rfl | rfl | rfl <;> decide
def kusl (a b : Int) : Int := if isK a = true then (if isK b = true then max (kprom a) (kprom b) else 0) else 0
def kusle (a b : Int) : Int := if isK a = true then (if isK b = true then 0 else 80) else 80

/-! wraps in omega's words -/
theorem wrapI8 (v : Int) : IntKind.i8.wrap v = (v + 128) % 256 - 128 := by
  simp [IntKind.wrap, IntKind.bits, IntKind.signed]; omega
theorem wrapU8 (v : Int) : IntKind.u8.wrap v = v % 256 := by
  simp [IntKind.wrap, IntKind.bits, IntKind.signed]
theorem wrapI16 (v : Int) : IntKind.i16.wrap v = (v + 32768) % 65536 - 32768 := by
  simp [IntKind.wrap, IntKind.bits, IntKind.signed]; omega
theorem wrapU16 (v : Int) : IntKind.u16.wrap v = v % 65536 := by
  simp [IntKind.wrap, IntKind.bits, IntKind.signed]
theorem wrapI32 (v : Int) : IntKind.i32.wrap v = (v + 2147483648) % 4294967296 - 2147483648 := by
  simp [IntKind.wrap, IntKind.bits, IntKind.signed]; omega
theorem wrapU32 (v : Int) : IntKind.u32.wrap v = v % 4294967296 := by
  simp [IntKind.wrap, IntKind.bits, IntKind.signed]
theorem wrapU64 (v : Int) : IntKind.u64.wrap v = v % 18446744073709551616 := by
  simp [IntKind.wrap, IntKind.bits, IntKind.signed]
theorem wrapI64 (v : Int) : IntKind.i64.wrap v = (v + 9223372036854775808) % 18446744073709551616 - 9223372036854775808 := by
  simp [IntKind.wrap, IntKind.bits, IntKind.signed]; omega
theorem wrap64_is {v : Int} (h : I64 v) : wrap64 v = v := by
  unfold I64 at h; unfold wrap64; omega
theorem wrap64_I64 (v : Int) : I64 (wrap64 v) := by unfold I64 wrap64; omega
theorem sh1 (v : Int) : wrap64 (v * 72057594037927936) / 72057594037927936 = kto v 1 := by
  simp only [kto, if_true, wrapI8, wrap64]; omega
theorem sh2 (v : Int) : wrap64 (IntKind.u64.wrap (IntKind.u64.wrap v * 72057594037927936) / 72057594037927936) = kto v 2 := by
  simp only [kto, Int.reduceEq, if_true, if_false, wrapU8, wrapU64, wrap64]; omega
theorem sh3 (v : Int) : wrap64 (v * 281474976710656) / 281474976710656 = kto v 3 := by
  simp only [kto, Int.reduceEq, if_true, if_false, wrapI16, wrap64]; omega
theorem sh4 (v : Int) : wrap64 (IntKind.u64.wrap (IntKind.u64.wrap v * 281474976710656) / 281474976710656) = kto v 4 := by
  simp only [kto, Int.reduceEq, if_true, if_false, wrapU16, wrapU64, wrap64]; omega
theorem sh5 (v : Int) : wrap64 (v * 4294967296) / 4294967296 = kto v 5 := by
  simp only [kto, Int.reduceEq, if_true, if_false, wrapI32, wrap64]; omega
theorem sh6 (v : Int) : wrap64 (IntKind.u64.wrap (IntKind.u64.wrap v * 4294967296) / 4294967296) = kto v 6 := by
  simp only [kto, Int.reduceEq, if_true, if_false, wrapU32, wrapU64, wrap64]; omega
theorem sh7 {v : Int} (h : I64 v) : wrap64 v = kto v 7 := by
  simp only [kto, Int.reduceEq, if_true, if_false]; exact wrap64_is h
theorem sh8 {v : Int} (h : I64 v) : wrap64 (IntKind.u64.wrap (IntKind.u64.wrap v)) = kto v 8 := by
  unfold I64 at h
  simp only [kto, Int.reduceEq, if_true, if_false, wrapU64, wrap64]; omega
theorem kto_I64 {v : Int} (h : I64 v) (k : Int) : I64 (kto v k) := by
  unfold kto
  repeat' split
  all_goals first | exact h | (simp only [I64, wrapI8, wrapU8, wrapI16, wrapU16, wrapI32, wrapU32] at h ⊢; omega)
theorem k5 (v : Int) : wrap64 (wrap32 v) = kto v 5 := by
  simp only [kto, Int.reduceEq, if_true, if_false, wrapI32]; unfold wrap64 wrap32; omega
theorem usl_no {a b : Int} (h : (isK a && isK b) = false) : (kusl a b = 0 ∧ kusle a b = 80) ∧ (kusl b a = 0 ∧ kusle b a = 80) := by
  unfold kusl kusle
  cases ha : isK a <;> cases hb : isK b <;> rw [ha, hb] at h <;> simp at h ⊢
theorem usl_yes {a b : Int} (h : (isK a && isK b) = true) : ∃ x, (kusl a b = x ∧ kusle a b = 0) ∧ (kusl b a = x ∧ kusle b a = 0) ∧ isK x = true ∧ kprom x = x ∧ ksize a ≤ ksize x ∧ ksize b ≤ ksize x := by
  rw [Bool.and_eq_true] at h
  rcases isK_cases h.1 with rfl | rfl | rfl | rfl | rfl | rfl | rfl | rfl <;> rcases isK_cases h.2 with rfl | rfl | rfl | rfl | rfl | rfl | rfl | rfl <;> exact ⟨_, ⟨rfl, rfl⟩, ⟨rfl, rfl⟩, by decide, by decide, by decide, by decide⟩
theorem kto_kto {v a b : Int} (ha : isK a = true) (hb : isK b = true) (h : ksize b ≤ ksize a) : kto (kto v a) b = kto v b := by
  rcases isK_cases ha with rfl | rfl | rfl | rfl | rfl | rfl | rfl | rfl <;> rcases isK_cases hb with rfl | rfl | rfl | rfl | rfl | rfl | rfl | rfl <;> first | (exfalso; revert h; decide) | (simp only [kto, Int.reduceEq, if_true, if_false, wrapI8, wrapU8, wrapI16, wrapU16, wrapI32, wrapU32]; omega) | (simp only [kto, Int.reduceEq, if_true, if_false, wrapI8, wrapU8, wrapI16, wrapU16, wrapI32, wrapU32])
theorem sl1 (v : Int) : (IntKind.u64.wrap (IntKind.u64.wrap v * 72057594037927936) == IntKind.u64.wrap (IntKind.u64.wrap (kto v 1) * 72057594037927936)) = true := by
  rw [beq_iff_eq]; simp only [kto, Int.reduceEq, if_true, if_false, wrapU64, wrapI8]; omega
theorem sl2 (v : Int) : (IntKind.u64.wrap (IntKind.u64.wrap v * 72057594037927936) == IntKind.u64.wrap (IntKind.u64.wrap (kto v 2) * 72057594037927936)) = true := by
  rw [beq_iff_eq]; simp only [kto, Int.reduceEq, if_true, if_false, wrapU64, wrapU8]; omega
theorem sl3 (v : Int) : (IntKind.u64.wrap (IntKind.u64.wrap v * 281474976710656) == IntKind.u64.wrap (IntKind.u64.wrap (kto v 3) * 281474976710656)) = true := by
  rw [beq_iff_eq]; simp only [kto, Int.reduceEq, if_true, if_false, wrapU64, wrapI16]; omega
theorem sl4 (v : Int) : (IntKind.u64.wrap (IntKind.u64.wrap v * 281474976710656) == IntKind.u64.wrap (IntKind.u64.wrap (kto v 4) * 281474976710656)) = true := by
  rw [beq_iff_eq]; simp only [kto, Int.reduceEq, if_true, if_false, wrapU64, wrapU16]; omega
theorem sl5 (v : Int) : (IntKind.u64.wrap (IntKind.u64.wrap v * 4294967296) == IntKind.u64.wrap (IntKind.u64.wrap (kto v 5) * 4294967296)) = true := by
  rw [beq_iff_eq]; simp only [kto, Int.reduceEq, if_true, if_false, wrapU64, wrapI32]; omega
theorem sl6 (v : Int) : (IntKind.u64.wrap (IntKind.u64.wrap v * 4294967296) == IntKind.u64.wrap (IntKind.u64.wrap (kto v 6) * 4294967296)) = true := by
  rw [beq_iff_eq]; simp only [kto, Int.reduceEq, if_true, if_false, wrapU64, wrapU32]; omega
theorem kto_ge (v k : Int) (h : k = 2 ∨ k = 4 ∨ k = 6) : 0 ≤ kto v k := by
  rcases h with rfl | rfl | rfl <;> simp only [kto, Int.reduceEq, if_true, if_false, wrapU8, wrapU16, wrapU32] <;> omega
end Go.Proofs.Ytcggghamnmflcaa
namespace Go.Proofs.Ytcggghamnmflcaa
open Go.RowKit

theorem is_c (k : Int) (w : World) : Calls Try.prog 73 #[.int .i64 k] w fun e w' => e = .returned (.bool (isK k)) ∧ w = w' := by
  by_cases h1 : 1 ≤ k
  · by_cases h2 : k ≤ 8
    · go_enter Try.func73, Try.ntmps73
      go_wp2
      go_ret
      exact ⟨by simp [isK, h1, h2], rfl⟩
    · go_enter Try.func73, Try.ntmps73
      go_wp2
      go_ret
      exact ⟨by simp [isK, h1, h2], rfl⟩
  · go_enter Try.func73, Try.ntmps73
    go_wp2
    go_ret
    exact ⟨by simp [isK]; omega, rfl⟩

theorem size_c (k : Int) (w : World) : Calls Try.prog 32 #[.int .i64 k] w fun e w' => e = .returned (.int .i64 (ksize k)) ∧ w = w' := by
  cases h : isK k with
  | false =>
    have HS := Lib.hid (isK_false h).1
    have HI := Lib.hid h
    clear h
    go_enter Try.func32, Try.ntmps32
    go_wp2_with (go_at_call 73; refine (is_c _ _).mono ?_; rintro e w' ⟨rfl, rfl⟩; rw [HI.out])
    go_ret
    exact ⟨by rw [HS.out]; rfl, rfl⟩
  | true =>
    rcases isK_cases h with rfl | rfl | rfl | rfl | rfl | rfl | rfl | rfl
    all_goals
      clear h
      go_enter Try.func32, Try.ntmps32
      go_wp2_with (go_at_call 73; refine (is_c _ _).mono ?_; rintro e w' ⟨rfl, rfl⟩)
      go_ret
      exact ⟨rfl, rfl⟩

theorem uns_c (k : Int) (w : World) : Calls Try.prog 37 #[.int .i64 k] w fun e w' => e = .returned (.bool (kuns k)) ∧ w = w' := by
  cases h : isK k with
  | false =>
    have HS := Lib.hid (isK_false h).2
    have HI := Lib.hid h
    clear h
    go_enter Try.func37, Try.ntmps37
    go_wp2_with (go_at_call 73; refine (is_c _ _).mono ?_; rintro e w' ⟨rfl, rfl⟩; rw [HI.out])
    go_ret
    exact ⟨by rw [HS.out]; rfl, rfl⟩
  | true =>
    rcases isK_cases h with rfl | rfl | rfl | rfl | rfl | rfl | rfl | rfl
    all_goals
      clear h
      go_enter Try.func37, Try.ntmps37
      go_wp2_with (go_at_call 73; refine (is_c _ _).mono ?_; rintro e w' ⟨rfl, rfl⟩)
      go_ret
      exact ⟨rfl, rfl⟩

theorem to_c (v k : Int) (w : World) (hv : I64 v) : Calls Try.prog 33 #[.int .i64 v, .int .i64 k] w fun e w' => e = .returned (.tuple #[.int .i64 (kto v k), .int .i64 (kerr k)]) ∧ w = w' := by
  cases h : isK k with
  | false =>
    have HS := Lib.hid (kto_no v h)
    have HI := Lib.hid h
    clear h
    go_enter Try.func33, Try.ntmps33
    go_wp2_with (go_at_call 73; refine (is_c _ _).mono ?_; rintro e w' ⟨rfl, rfl⟩; rw [HI.out])
    go_ret2
    exact ⟨by rw [HS.out.1, HS.out.2]; rfl, rfl⟩
  | true =>
    rcases isK_cases h with rfl | rfl | rfl | rfl | rfl | rfl | rfl | rfl
    all_goals
      clear h
      go_enter Try.func33, Try.ntmps33
      go_wp2_with (first | (go_at_call 73; refine (is_c _ _).mono ?_; rintro e w' ⟨rfl, rfl⟩) | (go_at_call 32; refine (size_c _ _).mono ?_; rintro e w' ⟨rfl, rfl⟩; simp only [ksize, Int.reduceEq, if_true, if_false]) | (go_at_call 37; refine (uns_c _ _).mono ?_; rintro e w' ⟨rfl, rfl⟩; simp only [kuns, Int.reduceBEq, Bool.or_false, Bool.or_true]))
      go_ret2
      refine ⟨?_, rfl⟩
      first | (rw [← sh1]; rfl) | (rw [← sh2]; rfl) | (rw [← sh3]; rfl) | (rw [← sh4]; rfl) | (rw [← sh5]; rfl) | (rw [← sh6]; rfl) | (rw [← sh7 hv]; rfl) | (rw [← sh8 hv]; rfl)

theorem ret_ii {a b c d : Int} (h : a = c) (k : b = d) : Ending.returned (.tuple #[.int .i64 a, .int .i64 b]) = .returned (.tuple #[.int .i64 c, .int .i64 d]) := by rw [h, k]

theorem prom_yes (k : Int) (w : World) (h : isK k = true) : Calls Try.prog 31 #[.int .i64 k] w fun e w' => e = .returned (.tuple #[.int .i64 (kprom k), .int .i64 0]) ∧ w = w' := by
  have HS := Lib.hid (kprom_yes h)
  have HI := Lib.hid h
  clear h
  by_cases h5 : k < 5
  all_goals
    go_enter Try.func31, Try.ntmps31
    go_wp2_with (go_at_call 73; refine (is_c _ _).mono ?_; rintro e w' ⟨rfl, rfl⟩; rw [HI.out])
    go_ret2
    exact ⟨by rw [HS.out]; first | (rw [if_pos h5]; rfl) | (rw [if_neg (Int.not_lt.2 h5)]; rfl), rfl⟩

theorem prom_no (k : Int) (w : World) (h : isK k = false) : Calls Try.prog 31 #[.int .i64 k] w fun e w' => e = .returned (.tuple #[.int .i64 0, .int .i64 80]) ∧ w = w' := by
  have HI := Lib.hid h
  clear h
  go_enter Try.func31, Try.ntmps31
  go_wp2_with (go_at_call 73; refine (is_c _ _).mono ?_; rintro e w' ⟨rfl, rfl⟩; rw [HI.out])
  go_ret2
  exact ⟨rfl, rfl⟩

theorem usual_c (a b : Int) (w : World) : Calls Try.prog 29 #[.int .i64 a, .int .i64 b] w fun e w' => e = .returned (.tuple #[.int .i64 (kusl a b), .int .i64 (kusle a b)]) ∧ w = w' := by
  cases ha : isK a with
  | false =>
    have HS := Lib.hid (show kusl a b = 0 ∧ kusle a b = 80 by unfold kusl kusle; rw [ha]; exact ⟨rfl, rfl⟩)
    have HA := Lib.hid ha
    clear ha
    cases hb : isK b with
    | false =>
      have HB := Lib.hid hb
      clear hb
      go_enter Try.func29, Try.ntmps29
      go_wp2_with (first | (go_at_call 31; (with_reducible refine (prom_no a _ HA.out).mono ?_); rintro e w' ⟨rfl, rfl⟩) | (go_at_call 31; (with_reducible refine (prom_no b _ HB.out).mono ?_); rintro e w' ⟨rfl, rfl⟩))
      go_ret2
      exact ⟨by rw [HS.out.1, HS.out.2]; rfl, rfl⟩
    | true =>
      have HB := Lib.hid hb
      clear hb
      go_enter Try.func29, Try.ntmps29
      go_wp2_with (first | (go_at_call 31; (with_reducible refine (prom_no a _ HA.out).mono ?_); rintro e w' ⟨rfl, rfl⟩) | (go_at_call 31; (with_reducible refine (prom_yes b _ HB.out).mono ?_); rintro e w' ⟨rfl, rfl⟩))
      go_ret2
      exact ⟨by rw [HS.out.1, HS.out.2]; rfl, rfl⟩
  | true =>
    cases hb : isK b with
    | false =>
      have HS := Lib.hid (show kusl a b = 0 ∧ kusle a b = 80 by unfold kusl kusle; rw [ha, hb]; exact ⟨rfl, rfl⟩)
      have HA := Lib.hid ha
      clear ha
      have HB := Lib.hid hb
      clear hb
      go_enter Try.func29, Try.ntmps29
      go_wp2_with (first | (go_at_call 31; (with_reducible refine (prom_yes a _ HA.out).mono ?_); rintro e w' ⟨rfl, rfl⟩) | (go_at_call 31; (with_reducible refine (prom_no b _ HB.out).mono ?_); rintro e w' ⟨rfl, rfl⟩))
      go_ret2
      exact ⟨by rw [HS.out.1, HS.out.2]; rfl, rfl⟩
    | true =>
      have HS := Lib.hid (show kusl a b = max (kprom a) (kprom b) ∧ kusle a b = 0 by unfold kusl kusle; rw [ha, hb]; exact ⟨rfl, rfl⟩)
      have HA := Lib.hid ha
      clear ha
      have HB := Lib.hid hb
      clear hb
      go_enter Try.func29, Try.ntmps29
      go_wp2_with (first | (go_at_call 31; (with_reducible refine (prom_yes a _ HA.out).mono ?_); rintro e w' ⟨rfl, rfl⟩) | (go_at_call 31; (with_reducible refine (prom_yes b _ HB.out).mono ?_); rintro e w' ⟨rfl, rfl⟩))
      all_goals
        go_ret2
        exact ⟨by rw [HS.out.1, HS.out.2]; exact ret_ii (by show _ = max _ _; omega) rfl, rfl⟩

theorem lies_c (v k : Int) (w : World) (hv : I64 v) : Calls Try.prog 35 #[.int .i64 v, .int .i64 k] w fun e w' => e = .returned (.bool (isK k && v == kto v k)) ∧ w = w' := by
  cases h : isK k with
  | false =>
    have HE := Lib.hid (kto_no v h).2
    clear h
    go_enter Try.func35, Try.ntmps35
    go_wp2_with (go_at_call 33; refine (to_c _ _ _ hv).mono ?_; rintro e w' ⟨rfl, rfl⟩; rw [HE.out])
    go_ret
    exact ⟨rfl, rfl⟩
  | true =>
    have HE := Lib.hid (kerr_yes h)
    clear h
    go_enter Try.func35, Try.ntmps35
    go_wp2_with (go_at_call 33; refine (to_c _ _ _ hv).mono ?_; rintro e w' ⟨rfl, rfl⟩; rw [HE.out])
    go_ret
    exact ⟨rfl, rfl⟩

theorem rto_c (v k : Int) (w : World) (hv : I64 v) : Calls Try.prog 34 #[.int .i64 v, .int .i64 k] w fun e w' => e = .returned (.tuple #[.int .i64 (kto v k), .int .i64 (kerr k)]) ∧ w = w' := by
  cases h : isK k with
  | false =>
    have HS := Lib.hid (kto_no v h)
    obtain ⟨n1, n2, n3, n4, n5, n6, n7, n8⟩ := isK_ne h
    clear h
    go_enter Try.func34, Try.ntmps34
    go_wp2
    go_ret2
    exact ⟨by rw [HS.out.1, HS.out.2]; rfl, rfl⟩
  | true =>
    rcases isK_cases h with rfl | rfl | rfl | rfl | rfl | rfl | rfl | rfl
    all_goals
      clear h
      go_enter Try.func34, Try.ntmps34
      go_wp2
      go_ret2
      refine ⟨?_, rfl⟩
      first | rfl | (rw [← wrap64_is (kto_I64 hv _)]; rfl) | (exact ret_ii (k5 v) rfl)

theorem rlies_c (v k : Int) (w : World) (hv : I64 v) : Calls Try.prog 36 #[.int .i64 v, .int .i64 k] w fun e w' => e = .returned (.bool (isK k && v == kto v k)) ∧ w = w' := by
  cases h : isK k with
  | false =>
    have HE := Lib.hid (kto_no v h).2
    clear h
    go_enter Try.func36, Try.ntmps36
    go_wp2_with (go_at_call 34; refine (rto_c _ _ _ hv).mono ?_; rintro e w' ⟨rfl, rfl⟩; rw [HE.out])
    go_ret
    exact ⟨rfl, rfl⟩
  | true =>
    have HE := Lib.hid (kerr_yes h)
    clear h
    go_enter Try.func36, Try.ntmps36
    go_wp2_with (go_at_call 34; refine (rto_c _ _ _ hv).mono ?_; rintro e w' ⟨rfl, rfl⟩; rw [HE.out])
    go_ret
    exact ⟨rfl, rfl⟩

theorem ris_c (k : Int) (w : World) : Calls Try.prog 105 #[.int .i64 k] w fun e w' => e = .returned (.bool (isK k)) ∧ w = w' := by
  by_cases h1 : 1 ≤ k
  · by_cases h2 : k ≤ 8
    · go_enter Try.func105, Try.ntmps105
      go_wp2
      go_ret
      exact ⟨by simp [isK, h1, h2], rfl⟩
    · go_enter Try.func105, Try.ntmps105
      go_wp2
      go_ret
      exact ⟨by simp [isK, h1, h2], rfl⟩
  · go_enter Try.func105, Try.ntmps105
    go_wp2
    go_ret
    exact ⟨by simp [isK]; omega, rfl⟩

theorem rsize_c (k : Int) (w : World) : Calls Try.prog 72 #[.int .i64 k] w fun e w' => e = .returned (.int .i64 (ksize k)) ∧ w = w' := by
  cases h : isK k with
  | false =>
    have HS := Lib.hid (isK_false h).1
    obtain ⟨n1, n2, n3, n4, n5, n6, n7, n8⟩ := isK_ne h
    clear h
    go_enter Try.func72, Try.ntmps72
    go_wp2
    go_ret
    exact ⟨by rw [HS.out]; rfl, rfl⟩
  | true =>
    rcases isK_cases h with rfl | rfl | rfl | rfl | rfl | rfl | rfl | rfl
    all_goals
      clear h
      go_enter Try.func72, Try.ntmps72
      go_wp2
      go_ret
      exact ⟨rfl, rfl⟩

theorem runs_c (k : Int) (w : World) : Calls Try.prog 71 #[.int .i64 k] w fun e w' => e = .returned (.bool (kuns k)) ∧ w = w' := by
  cases h : isK k with
  | false =>
    have HS := Lib.hid (isK_false h).2
    obtain ⟨n1, n2, n3, n4, n5, n6, n7, n8⟩ := isK_ne h
    clear h
    go_enter Try.func71, Try.ntmps71
    go_wp2
    go_ret
    exact ⟨by rw [HS.out]; rfl, rfl⟩
  | true =>
    rcases isK_cases h with rfl | rfl | rfl | rfl | rfl | rfl | rfl | rfl
    all_goals
      clear h
      go_enter Try.func71, Try.ntmps71
      go_wp2
      go_ret
      exact ⟨rfl, rfl⟩

theorem rprom_yes (k : Int) (w : World) (h : isK k = true) : Calls Try.prog 70 #[.int .i64 k] w fun e w' => e = .returned (.tuple #[.int .i64 (kprom k), .int .i64 0]) ∧ w = w' := by
  rcases isK_cases h with rfl | rfl | rfl | rfl | rfl | rfl | rfl | rfl
  all_goals
    clear h
    go_enter Try.func70, Try.ntmps70
    go_wp2_with (first | (go_at_call 105; refine (ris_c _ _).mono ?_; rintro e w' ⟨rfl, rfl⟩) | (go_at_call 72; refine (rsize_c _ _).mono ?_; rintro e w' ⟨rfl, rfl⟩; simp only [ksize, Int.reduceEq, if_true, if_false]))
    go_ret2
    exact ⟨rfl, rfl⟩

theorem rprom_no (k : Int) (w : World) (h : isK k = false) : Calls Try.prog 70 #[.int .i64 k] w fun e w' => e = .returned (.tuple #[.int .i64 0, .int .i64 80]) ∧ w = w' := by
  have HI := Lib.hid h
  clear h
  go_enter Try.func70, Try.ntmps70
  go_wp2_with (go_at_call 105; refine (ris_c _ _).mono ?_; rintro e w' ⟨rfl, rfl⟩; rw [HI.out])
  go_ret2
  exact ⟨rfl, rfl⟩

theorem rusual_c (a b : Int) (w : World) : Calls Try.prog 30 #[.int .i64 a, .int .i64 b] w fun e w' => e = .returned (.tuple #[.int .i64 (kusl a b), .int .i64 (kusle a b)]) ∧ w = w' := by
  cases ha : isK a with
  | false =>
    have HS := Lib.hid (show kusl a b = 0 ∧ kusle a b = 80 by unfold kusl kusle; rw [ha]; exact ⟨rfl, rfl⟩)
    have HA := Lib.hid ha
    clear ha
    cases hb : isK b with
    | false =>
      have HB := Lib.hid hb
      clear hb
      go_enter Try.func30, Try.ntmps30
      go_wp2_with (first | (go_at_call 70; (with_reducible refine (rprom_no a _ HA.out).mono ?_); rintro e w' ⟨rfl, rfl⟩) | (go_at_call 70; (with_reducible refine (rprom_no b _ HB.out).mono ?_); rintro e w' ⟨rfl, rfl⟩))
      go_ret2
      exact ⟨by rw [HS.out.1, HS.out.2]; rfl, rfl⟩
    | true =>
      have HB := Lib.hid hb
      clear hb
      go_enter Try.func30, Try.ntmps30
      go_wp2_with (first | (go_at_call 70; (with_reducible refine (rprom_no a _ HA.out).mono ?_); rintro e w' ⟨rfl, rfl⟩) | (go_at_call 70; (with_reducible refine (rprom_yes b _ HB.out).mono ?_); rintro e w' ⟨rfl, rfl⟩))
      go_ret2
      exact ⟨by rw [HS.out.1, HS.out.2]; rfl, rfl⟩
  | true =>
    cases hb : isK b with
    | false =>
      have HS := Lib.hid (show kusl a b = 0 ∧ kusle a b = 80 by unfold kusl kusle; rw [ha, hb]; exact ⟨rfl, rfl⟩)
      have HA := Lib.hid ha
      clear ha
      have HB := Lib.hid hb
      clear hb
      go_enter Try.func30, Try.ntmps30
      go_wp2_with (first | (go_at_call 70; (with_reducible refine (rprom_yes a _ HA.out).mono ?_); rintro e w' ⟨rfl, rfl⟩) | (go_at_call 70; (with_reducible refine (rprom_no b _ HB.out).mono ?_); rintro e w' ⟨rfl, rfl⟩))
      go_ret2
      exact ⟨by rw [HS.out.1, HS.out.2]; rfl, rfl⟩
    | true =>
      have HS := Lib.hid (show kusl a b = max (kprom a) (kprom b) ∧ kusle a b = 0 by unfold kusl kusle; rw [ha, hb]; exact ⟨rfl, rfl⟩)
      have hpa := kprom_vals ha
      have hpb := kprom_vals hb
      have HA := Lib.hid ha
      clear ha
      have HB := Lib.hid hb
      clear hb
      rcases hpa with hpa | hpa | hpa | hpa <;> rcases hpb with hpb | hpb | hpb | hpb
      all_goals
        have PA := Lib.hid hpa
        have PB := Lib.hid hpb
        clear hpa hpb
        go_enter Try.func30, Try.ntmps30
        go_wp2_with (first | (go_at_call 70; (with_reducible refine (rprom_yes a _ HA.out).mono ?_); rintro e w' ⟨rfl, rfl⟩; rw [PA.out]) | (go_at_call 70; (with_reducible refine (rprom_yes b _ HB.out).mono ?_); rintro e w' ⟨rfl, rfl⟩; rw [PB.out]) | (go_at_call 71; (with_reducible refine (runs_c _ _).mono ?_); rintro e w' ⟨rfl, rfl⟩; simp only [kuns, Int.reduceBEq, Bool.or_false, Bool.or_true]) | (go_at_call 72; (with_reducible refine (rsize_c _ _).mono ?_); rintro e w' ⟨rfl, rfl⟩; simp only [ksize, Int.reduceEq, if_true, if_false]))
        go_ret2
        exact ⟨by rw [HS.out.1, HS.out.2, PA.out, PB.out]; rfl, rfl⟩

theorem shown_c (w : World) : Calls Try.prog 28 #[] w fun e w' => e = .returned (.bool true) ∧ w = w' := by
  go_enter Try.func28, Try.ntmps28
  go_wp2_with (first | (go_at_call 33; refine (to_c 200 1 _ ⟨by omega, by omega⟩).mono ?_; rintro e w' ⟨rfl, rfl⟩; rw [show kto 200 1 = -56 by decide, show kerr 1 = 0 by decide]) | (go_at_call 29; refine (usual_c _ _ _).mono ?_; rintro e w' ⟨rfl, rfl⟩; rw [show kusl 6 7 = 7 by decide, show kusle 6 7 = 0 by decide]) | (go_at_call 32; refine (size_c _ _).mono ?_; rintro e w' ⟨rfl, rfl⟩; rw [show ksize 4 = 2 by decide]))
  go_ret
  exact ⟨rfl, rfl⟩

end Go.Proofs.Ytcggghamnmflcaa
namespace Go.Proofs.Ytcggghamnmflcaa
open Go Go.RowKit

/-- A member of a type: its name, its type, its bits. -/
structure Fld (α : Type) where
  nm : ByteArray
  t : α
  bits : Int
/-- A type whose parts are of α. -/
structure Nd (α : Type) where
  sh : Int
  k : Int
  n : Int
  of : List α
  fs : List (Fld α)
  pk : Bool
  al : Int
/-- Types of depth d at most. -/
def Tp : Nat → Type
  | 0 => Empty
  | d + 1 => Nd (Tp d)
structure Spt where
  bit : Int
  bits : Int
  k : Int
deriving DecidableEq
structure Bx where
  size : Int
  align : Int
  l : List Spt
def tsh : (d : Nat) → Tp d → Int
  | 0, t => nomatch t
  | _ + 1, t => Nd.sh t
def tk : (d : Nat) → Tp d → Int
  | 0, t => nomatch t
  | _ + 1, t => Nd.k t
def upS (v n : Int) : Int := (v + n - 1) / n * n
def isAlignS (n : Int) : Bool := n == 0 || n == 1 || n == 2 || n == 4 || n == 8 || n == 16 || n == 32 || n == 64
def isFieldS (nm : ByteArray) (sh k bits : Int) : Bool :=
  if bits < 0 then !nm.toList.isEmpty else (sh == 1 && decide (bits ≤ 8 * ksize k) && (decide (0 < bits) || nm.toList.isEmpty))
/-- No two names that are not empty are alike. -/
def apartS : List ByteArray → Bool
  | [] => true
  | x :: l => (x.toList.isEmpty || !(l.any fun y => y.data.toList == x.data.toList)) && apartS l
def namedS (l : List ByteArray) : Bool := apartS l && (l.any fun x => !x.toList.isEmpty) && decide (l.length ≤ 40)
def bareS {α : Type} (t : Nd α) : Bool := t.fs.isEmpty && !t.pk && t.al == 0
def plainS : (d : Nat) → Tp d → Int → Bool
  | 0, t, _ => nomatch t
  | d + 1, t, deep =>
    let t : Nd (Tp d) := t
    if deep < 1 then false
    else if t.sh = 1 then bareS t && isK t.k && t.n == 0 && t.of.isEmpty
    else if t.sh = 2 then bareS t && t.k == 0 && t.n == 0 && t.of.isEmpty
    else if t.sh = 3 then bareS t && t.k == 0 && decide (1 ≤ t.n) && (match t.of with | [x] => plainS d x (deep - 1) | _ => false)
    else if t.sh = 4 ∨ t.sh = 5 then t.k == 0 && t.n == 0 && t.of.isEmpty && isAlignS t.al && namedS (t.fs.map Fld.nm) && (t.fs.all fun f => plainS d f.t (deep - 1) && isFieldS f.nm (tsh d f.t) (tk d f.t) f.bits)
    else false
/-- Where a member begins. -/
def nextS (pk : Bool) (bits size align at_ : Int) : Int :=
  if bits < 0 then (if pk then upS at_ 8 else upS at_ (8 * align))
  else if bits = 0 then upS at_ (8 * size)
  else if pk = false ∧ at_ / (8 * size) ≠ (at_ + bits - 1) / (8 * size) then upS at_ (8 * size) else at_
structure Lay where
  at_ : Int
  end_ : Int
  align : Int
  l : List Spt
/-- One member laid behind the others. -/
def layS (union pk : Bool) (nm : ByteArray) (k bits : Int) (b : Bx) (s : Lay) : Lay :=
  let at0 := if union then 0 else s.at_
  let bit := nextS pk bits b.size b.align at0
  let w := if bits < 0 then 8 * b.size else bits
  { at_ := bit + w, end_ := max s.end_ (bit + w), align := if !pk && !nm.toList.isEmpty then max s.align b.align else s.align, l := s.l ++ [{ bit := bit, bits := w, k := k }] }
def closeS (s : Lay) : Int := upS (upS s.end_ 8 / 8) s.align
def boxS : (d : Nat) → Tp d → Option Bx
  | 0, t => nomatch t
  | d + 1, t =>
    let t : Nd (Tp d) := t
    if t.sh = 1 then some { size := ksize t.k, align := ksize t.k, l := [] }
    else if t.sh = 2 then some { size := 8, align := 8, l := [] }
    else if t.sh = 3 then (match t.of with
      | [x] => (match boxS d x with
        | none => none
        | some b => if 65536 < t.n ∨ 65536 < b.size * t.n then none else some { size := b.size * t.n, align := b.align, l := [] })
      | _ => none)
    else match t.fs.foldlM (fun s f => (boxS d f.t).map fun b => layS (t.sh == 5) t.pk f.nm (tk d f.t) f.bits b s) { at_ := 0, end_ := 0, align := max 1 t.al, l := [] } with
      | none => none
      | some s => if 65536 < closeS s then none else some { size := closeS s, align := s.align, l := s.l }
/-- What lie answers: 100 not right, 101 too big, 0 right. -/
def lieE (d : Nat) (t : Tp d) (deep : Int) : Int := if plainS d t deep then (match boxS d t with | none => 101 | some _ => 0) else 100
end Go.Proofs.Ytcggghamnmflcaa
namespace Go.Proofs.Ytcggghamnmflcaa
open Go Go.RowKit

theorem bel_alloc {w W : World} (h : Below w.heap.size w W) (o : Obj) : Below w.heap.size w (W.alloc o) := h.alloc h.size o
theorem bel_drewN {B : Nat} {w W : World} (h : Below B w W) (n : Nat) : Below B w (W.drewN n) := ⟨h.os, h.tape, h.output, h.size, h.block⟩
theorem bel_drew {B : Nat} {w W : World} (h : Below B w W) : Below B w W.drew := ⟨h.os, h.tape, h.output, h.size, h.block⟩
theorem bel_then {w w1 w2 : World} (h : Below w.heap.size w w1) (k : Below w1.heap.size w1 w2) : Below w.heap.size w w2 := h.trans (k.mono h.size)
theorem bel_cell {w w1 : World} (h : Below w.heap.size w w1) {a : Addr} {v : Value} (hc : w.cell? a = some v) : w1.cell? a = some v := (h.cell (World.block_lt_of_cell? w a hc)).trans hc

/-- Cells that lie one behind the other. -/
def Row (w : World) (b o : Nat) (cs : List Value) : Prop := ∀ j v, cs[j]? = some v → w.cell? ⟨b, o + j, none⟩ = some v
theorem Row.below {w w1 : World} {b o : Nat} {cs : List Value} (h : Row w b o cs) (hb : Below w.heap.size w w1) : Row w1 b o cs :=
  fun j v hv => bel_cell hb (h j v hv)

/-- The seven cells of a type, as they lie in a struct: cs; what its slices hold lies in w. -/
def TyAt (w : World) : (d : Nat) → Tp d → List Value → Prop
  | 0, t, _ => nomatch t
  | d + 1, t, cs =>
    let t : Nd (Tp d) := t
    ∃ (A1 A2 : Option Addr) (c1 c2 : Nat), cs = [.int .i64 t.sh, .int .i64 t.k, .int .i64 t.n, .slice A1 t.of.length c1, .slice A2 t.fs.length c2, .bool t.pk, .int .i64 t.al] ∧
      I64 t.sh ∧ I64 t.k ∧ I64 t.n ∧ I64 t.al ∧ t.of.length ≤ c1 ∧ t.fs.length ≤ c2 ∧ c1 ≤ 9223372036854775807 ∧ c2 ≤ 9223372036854775807 ∧
      (∀ i x, t.of[i]? = some x → ∃ b o xs, A1 = some ⟨b, o, none⟩ ∧ xs.length = 7 ∧ Row w b (o + i * 7) xs ∧ TyAt w d x xs) ∧
      (∀ i f, t.fs[i]? = some f → ∃ b o xs, A2 = some ⟨b, o, none⟩ ∧ xs.length = 7 ∧ I64 f.bits ∧ f.nm.size ≤ 9223372036854775807 ∧ Row w b (o + i * 9) ([.string f.nm] ++ xs ++ [.int .i64 f.bits]) ∧ TyAt w d f.t xs)
theorem TyAt.below {w w1 : World} (hb : Below w.heap.size w w1) : ∀ {d : Nat} {t : Tp d} {cs : List Value}, TyAt w d t cs → TyAt w1 d t cs
  | 0, t, _, _ => nomatch t
  | d + 1, t, cs, h => by
    obtain ⟨A1, A2, c1, c2, e, b1, b2, b3, b4, l1, l2, m1, m2, h1, h2⟩ := h
    refine ⟨A1, A2, c1, c2, e, b1, b2, b3, b4, l1, l2, m1, m2, fun i x hx => ?_, fun i f hf => ?_⟩
    · obtain ⟨b, o, xs, ha, hl, hr, ht⟩ := h1 i x hx
      exact ⟨b, o, xs, ha, hl, hr.below hb, TyAt.below hb ht⟩
    · obtain ⟨b, o, xs, ha, hl, hbt, hn, hr, ht⟩ := h2 i f hf
      exact ⟨b, o, xs, ha, hl, hbt, hn, hr.below hb, TyAt.below hb ht⟩
/-- A slice of members: its address, what lies there. -/
def FdsAt (w : World) (d : Nat) (A : Option Addr) (l : List (Fld (Tp d))) : Prop :=
  ∀ i f, l[i]? = some f → ∃ b o xs, A = some ⟨b, o, none⟩ ∧ xs.length = 7 ∧ I64 f.bits ∧ f.nm.size ≤ 9223372036854775807 ∧ Row w b (o + i * 9) ([.string f.nm] ++ xs ++ [.int .i64 f.bits]) ∧ TyAt w d f.t xs
theorem FdsAt.below {w w1 : World} {d : Nat} {A : Option Addr} {l : List (Fld (Tp d))} (h : FdsAt w d A l) (hb : Below w.heap.size w w1) : FdsAt w1 d A l := fun i f hf => by
  obtain ⟨b, o, xs, ha, hl, hbt, hn, hr, ht⟩ := h i f hf
  exact ⟨b, o, xs, ha, hl, hbt, hn, hr.below hb, ht.below hb⟩
theorem TyAt.form {w : World} : ∀ {d : Nat} {t : Tp d} {cs : List Value}, TyAt w d t cs → ∃ (n : Int) (A1 A2 : Option Addr) (n1 n2 c1 c2 : Nat) (pk : Bool) (al : Int), cs = [.int .i64 (tsh d t), .int .i64 (tk d t), .int .i64 n, .slice A1 n1 c1, .slice A2 n2 c2, .bool pk, .int .i64 al]
  | 0, t, _, _ => nomatch t
  | d + 1, t, cs, h => by
    obtain ⟨A1, A2, c1, c2, e, _⟩ := h
    exact ⟨_, A1, A2, _, _, c1, c2, _, _, e⟩
/-- The cells of one member, written out. -/
theorem FdsAt.at_ {w : World} {d : Nat} {A : Option Addr} {l : List (Fld (Tp d))} (h : FdsAt w d A l) {i : Nat} {f : Fld (Tp d)} (hf : l[i]? = some f) :
    ∃ (b o : Nat) (n : Int) (A1 A2 : Option Addr) (n1 n2 c1 c2 : Nat) (pk : Bool) (al : Int), A = some ⟨b, o, none⟩ ∧ I64 f.bits ∧ f.nm.size ≤ 9223372036854775807 ∧
      TyAt w d f.t [.int .i64 (tsh d f.t), .int .i64 (tk d f.t), .int .i64 n, .slice A1 n1 c1, .slice A2 n2 c2, .bool pk, .int .i64 al] ∧
      w.cell? ⟨b, o + i * 9, none⟩ = some (.string f.nm) ∧ w.cell? ⟨b, o + i * 9 + 1, none⟩ = some (.int .i64 (tsh d f.t)) ∧ w.cell? ⟨b, o + i * 9 + 2, none⟩ = some (.int .i64 (tk d f.t)) ∧ w.cell? ⟨b, o + i * 9 + 3, none⟩ = some (.int .i64 n) ∧
      w.cell? ⟨b, o + i * 9 + 4, none⟩ = some (.slice A1 n1 c1) ∧ w.cell? ⟨b, o + i * 9 + 5, none⟩ = some (.slice A2 n2 c2) ∧ w.cell? ⟨b, o + i * 9 + 6, none⟩ = some (.bool pk) ∧ w.cell? ⟨b, o + i * 9 + 7, none⟩ = some (.int .i64 al) ∧ w.cell? ⟨b, o + i * 9 + 8, none⟩ = some (.int .i64 f.bits) := by
  obtain ⟨b, o, xs, ha, hl, hbt, hn, hr, ht⟩ := h i f hf
  obtain ⟨n, A1, A2, n1, n2, c1, c2, pk, al, rfl⟩ := ht.form
  exact ⟨b, o, n, A1, A2, n1, n2, c1, c2, pk, al, ha, hbt, hn, ht, hr 0 _ rfl, hr 1 _ rfl, hr 2 _ rfl, hr 3 _ rfl, hr 4 _ rfl, hr 5 _ rfl, hr 6 _ rfl, hr 7 _ rfl, hr 8 _ rfl⟩
end Go.Proofs.Ytcggghamnmflcaa
namespace Go.Proofs.Ytcggghamnmflcaa
open Go Go.RowKit

theorem ksize_rng (k : Int) : 0 ≤ ksize k ∧ ksize k ≤ 8 := by rcases ksize_vals k with h | h | h | h | h <;> rw [h] <;> decide

theorem up_c (v n : Int) (w : World) (h0 : 0 ≤ v) (h1 : v ≤ 1000000000000) (h2 : 1 ≤ n) (h3 : n ≤ 1000000000000) : Calls Try.prog 122 #[.int .i64 v, .int .i64 n] w fun e w' => e = .returned (.int .i64 (upS v n)) ∧ w = w' := by
  have hq : 0 ≤ (v + n - 1) / n * n := Int.mul_nonneg (Int.ediv_nonneg (by omega) (by omega)) (by omega)
  have hm : (v + n - 1) / n * n ≤ v + n - 1 := Int.ediv_mul_le _ (by omega)
  go_enter Try.func122, Try.ntmps122
  go_wp2
  go_ret
  exact ⟨rfl, rfl⟩

theorem isAlign_c (n : Int) (w : World) : Calls Try.prog 117 #[.int .i64 n] w fun e w' => e = .returned (.bool (isAlignS n)) ∧ w = w' := by
  by_cases h0 : n = 0
  · subst h0
    go_enter Try.func117, Try.ntmps117
    go_wp2
    go_ret
    exact ⟨rfl, rfl⟩
  · have g0 : (n == 0) = false := by simpa using h0
    by_cases h1 : 0 < n
    · by_cases h2 : n ≤ 64
      · have hb : ∃ b, (bits .and .i64 n (n - 1) == 0) = b ∧ isAlignS n = b := by
          have : ∀ k : Fin 65, 0 < k.val → (bits .and .i64 (k.val : Int) ((k.val : Int) - 1) == 0) = isAlignS (k.val : Int) := by decide
          obtain ⟨k, rfl⟩ : ∃ k : Nat, n = k := ⟨n.toNat, by omega⟩
          exact ⟨_, rfl, (this ⟨k, by omega⟩ (by simp; omega)).symm⟩
        obtain ⟨b, hb1, hb2⟩ := hb
        have H := Lib.hid hb2
        clear hb2 h0
        go_enter Try.func117, Try.ntmps117
        go_wp2
        go_ret
        exact ⟨by rw [H.out]; rfl, rfl⟩
      · have H := Lib.hid (show isAlignS n = false by simp [isAlignS]; omega)
        clear h0
        go_enter Try.func117, Try.ntmps117
        go_wp2
        go_ret
        exact ⟨by rw [H.out]; rfl, rfl⟩
    · have H := Lib.hid (show isAlignS n = false by simp [isAlignS]; omega)
      clear h0
      go_enter Try.func117, Try.ntmps117
      go_wp2
      go_ret
      exact ⟨by rw [H.out]; rfl, rfl⟩

theorem isField_c (nm : ByteArray) (sh k n al bits : Int) (A1 A2 : Option Addr) (n1 n2 c1 c2 : Nat) (pk : Bool) (w : World) : Calls Try.prog 129 #[.agg #[.string nm, .int .i64 sh, .int .i64 k, .int .i64 n, .slice A1 n1 c1, .slice A2 n2 c2, .bool pk, .int .i64 al, .int .i64 bits]] w fun e w' => e = .returned (.bool (isFieldS nm sh k bits)) ∧ Below w.heap.size w w' := by
  obtain ⟨r1, r2⟩ := ksize_rng k
  by_cases hb : bits < 0
  · have H := Lib.hid (show isFieldS nm sh k bits = !nm.toList.isEmpty by unfold isFieldS; rw [if_pos hb])
    go_enter Try.func129, Try.ntmps129
    go_wp2
    go_ret
    exact ⟨by rw [H.out]; rfl, by (repeat (first | exact Below.refl _ _ | apply bel_drewN | apply bel_alloc))⟩
  · have H0 : isFieldS nm sh k bits = (sh == 1 && decide (bits ≤ 8 * ksize k) && (decide (0 < bits) || nm.toList.isEmpty)) := by unfold isFieldS; rw [if_neg hb]
    cases h1 : sh == 1 with
    | false =>
      have H := Lib.hid (show isFieldS nm sh k bits = false by rw [H0, h1]; rfl)
      clear H0
      go_enter Try.func129, Try.ntmps129
      go_wp2
      go_quiet ((go_at_call 32; with_reducible exact Calls.quiet_of_same ((size_c _ _).mono fun _ _ ⟨a, b⟩ => ⟨a, b.symm⟩)))
      go_wp2
      go_ret
      exact ⟨by rw [H.out]; rfl, by (repeat (first | exact Below.refl _ _ | apply bel_drewN | apply bel_alloc))⟩
    | true =>
      by_cases h2 : bits ≤ 8 * ksize k
      · by_cases h3 : 0 < bits
        · have H := Lib.hid (show isFieldS nm sh k bits = true by rw [H0, h1, decide_eq_true h2, decide_eq_true h3]; rfl)
          clear H0
          go_enter Try.func129, Try.ntmps129
          go_wp2
          go_quiet ((go_at_call 32; with_reducible exact Calls.quiet_of_same ((size_c _ _).mono fun _ _ ⟨a, b⟩ => ⟨a, b.symm⟩)))
          go_wp2
          go_ret
          exact ⟨by rw [H.out]; rfl, by (repeat (first | exact Below.refl _ _ | apply bel_drewN | apply bel_alloc))⟩
        · have H := Lib.hid (show isFieldS nm sh k bits = nm.toList.isEmpty by rw [H0, h1, decide_eq_true h2, decide_eq_false h3]; rfl)
          have d3 : decide (0 < bits) = false := decide_eq_false h3
          clear H0
          go_enter Try.func129, Try.ntmps129
          go_wp2
          go_quiet ((go_at_call 32; with_reducible exact Calls.quiet_of_same ((size_c _ _).mono fun _ _ ⟨a, b⟩ => ⟨a, b.symm⟩)))
          go_wp2
          go_ret
          exact ⟨by rw [H.out]; rfl, by (repeat (first | exact Below.refl _ _ | apply bel_drewN | apply bel_alloc))⟩
      · have H := Lib.hid (show isFieldS nm sh k bits = false by rw [H0, h1, decide_eq_false h2]; rfl)
        have d2 : decide (bits ≤ 8 * ksize k) = false := decide_eq_false h2
        clear H0
        go_enter Try.func129, Try.ntmps129
        go_wp2
        go_quiet ((go_at_call 32; with_reducible exact Calls.quiet_of_same ((size_c _ _).mono fun _ _ ⟨a, b⟩ => ⟨a, b.symm⟩)))
        go_wp2
        go_ret
        exact ⟨by rw [H.out]; rfl, by (repeat (first | exact Below.refl _ _ | apply bel_drewN | apply bel_alloc))⟩

end Go.Proofs.Ytcggghamnmflcaa
namespace Go.Proofs.Ytcggghamnmflcaa
open Go Go.RowKit

theorem unit_iff {a u b : Int} (hu : 0 < u) (h1 : 1 ≤ b) (h2 : b ≤ u) : (u < a % u + b) ↔ a / u ≠ (a + b - 1) / u := by
  have e := Int.mul_ediv_add_emod a u
  have r0 := Int.emod_nonneg a (show u ≠ 0 by omega)
  have r1 := Int.emod_lt_of_pos a hu
  generalize hq : a / u = q at *
  generalize hr : a % u = r at *
  have : (a + b - 1) / u = q + (r + b - 1) / u := by
    rw [show a + b - 1 = (r + b - 1) + u * q by omega, Int.add_mul_ediv_left _ _ (by omega)]; omega
  rw [this]
  by_cases h : u < r + b
  · have : (r + b - 1) / u = 1 := by
      have e1 : r + b - 1 = (r + b - 1 - u) + u * 1 := by omega
      rw [e1, Int.add_mul_ediv_left _ _ (by omega), Int.ediv_eq_zero_of_lt (by omega) (by omega)]; rfl
    omega
  · have : (r + b - 1) / u = 0 := Int.ediv_eq_zero_of_lt (by omega) (by omega)
    omega

theorem begins_c (nm : ByteArray) (sh k n al bits : Int) (A1 A2 : Option Addr) (n1 n2 c1 c2 : Nat) (pk : Bool) (sz ag : Int) (S : Option Addr) (sn sc : Nat) (up : Bool) (at_ : Int) (w : World) (h0 : 0 ≤ at_) (h1 : at_ ≤ 1000000000) (h2 : 1 ≤ sz) (h3 : sz ≤ 65536) (h4 : 1 ≤ ag) (h5 : ag ≤ 64) (h6 : bits ≤ 8 * sz) :
    Calls Try.prog 121 #[.agg #[.string nm, .int .i64 sh, .int .i64 k, .int .i64 n, .slice A1 n1 c1, .slice A2 n2 c2, .bool pk, .int .i64 al, .int .i64 bits], .agg #[.int .i64 sz, .int .i64 ag, .slice S sn sc], .bool up, .int .i64 at_] w fun e w' => e = .returned (.int .i64 (nextS up bits sz ag at_)) ∧ Below w.heap.size w w' := by
  by_cases hb : bits < 0
  · cases up with
    | true =>
      have H := Lib.hid (show nextS true bits sz ag at_ = upS at_ 8 by unfold nextS; rw [if_pos hb]; rfl)
      go_enter Try.func121, Try.ntmps121
      go_wp2_with (go_at_call 122; refine (up_c _ _ _ (by omega) (by omega) (by omega) (by omega)).mono ?_; rintro e w' ⟨rfl, rfl⟩)
      go_ret
      exact ⟨by rw [H.out]; rfl, by (repeat (first | exact Below.refl _ _ | apply bel_drewN | apply bel_alloc))⟩
    | false =>
      have H := Lib.hid (show nextS false bits sz ag at_ = upS at_ (8 * ag) by unfold nextS; rw [if_pos hb]; rfl)
      go_enter Try.func121, Try.ntmps121
      go_wp2_with (go_at_call 122; refine (up_c _ _ _ (by omega) (by omega) (by omega) (by omega)).mono ?_; rintro e w' ⟨rfl, rfl⟩)
      go_ret
      exact ⟨by rw [H.out]; rfl, by (repeat (first | exact Below.refl _ _ | apply bel_drewN | apply bel_alloc))⟩
  · by_cases hz : bits = 0
    · subst hz
      have H := Lib.hid (show nextS up 0 sz ag at_ = upS at_ (8 * sz) by unfold nextS; rfl)
      go_enter Try.func121, Try.ntmps121
      go_wp2_with (go_at_call 122; refine (up_c _ _ _ (by omega) (by omega) (by omega) (by omega)).mono ?_; rintro e w' ⟨rfl, rfl⟩)
      go_ret
      exact ⟨by rw [H.out]; rfl, by (repeat (first | exact Below.refl _ _ | apply bel_drewN | apply bel_alloc))⟩
    · have gz : (bits == 0) = false := by simpa using hz
      have r0 := Int.emod_nonneg at_ (show 8 * sz ≠ 0 by omega)
      have r1 := Int.emod_lt_of_pos at_ (show 0 < 8 * sz by omega)
      have hi := unit_iff (a := at_) (show 0 < 8 * sz by omega) (show 1 ≤ bits by omega) h6
      cases up with
      | true =>
        have H := Lib.hid (show nextS true bits sz ag at_ = at_ by unfold nextS; rw [if_neg hb, if_neg hz, if_neg (by simp)])
        clear hz hi
        go_enter Try.func121, Try.ntmps121
        go_wp2_with (go_at_call 122; refine (up_c _ _ _ (by omega) (by omega) (by omega) (by omega)).mono ?_; rintro e w' ⟨rfl, rfl⟩)
        go_quiet (fail)
        go_wp2_with (go_at_call 122; refine (up_c _ _ _ (by omega) (by omega) (by omega) (by omega)).mono ?_; rintro e w' ⟨rfl, rfl⟩)
        go_ret
        exact ⟨by rw [H.out]; rfl, by (repeat (first | exact Below.refl _ _ | apply bel_drewN | apply bel_alloc))⟩
      | false =>
        by_cases hc : 8 * sz < at_ % (8 * sz) + bits
        · have H := Lib.hid (show nextS false bits sz ag at_ = upS at_ (8 * sz) by unfold nextS; rw [if_neg hb, if_neg hz, if_pos ⟨rfl, hi.1 hc⟩])
          have dc : decide (8 * sz < at_ % (8 * sz) + bits) = true := decide_eq_true hc
          clear hz hi
          go_enter Try.func121, Try.ntmps121
          go_wp2_with (go_at_call 122; refine (up_c _ _ _ (by omega) (by omega) (by omega) (by omega)).mono ?_; rintro e w' ⟨rfl, rfl⟩)
          go_quiet (fail)
          go_wp2_with (go_at_call 122; refine (up_c _ _ _ (by omega) (by omega) (by omega) (by omega)).mono ?_; rintro e w' ⟨rfl, rfl⟩)
          go_ret
          exact ⟨by rw [H.out]; rfl, by (repeat (first | exact Below.refl _ _ | apply bel_drewN | apply bel_alloc))⟩
        · have H := Lib.hid (show nextS false bits sz ag at_ = at_ by unfold nextS; rw [if_neg hb, if_neg hz, if_neg (fun h => hc (hi.2 h.2))])
          have dc : decide (8 * sz < at_ % (8 * sz) + bits) = false := decide_eq_false hc
          clear hz hi
          go_enter Try.func121, Try.ntmps121
          go_wp2_with (go_at_call 122; refine (up_c _ _ _ (by omega) (by omega) (by omega) (by omega)).mono ?_; rintro e w' ⟨rfl, rfl⟩)
          go_quiet (fail)
          go_wp2_with (go_at_call 122; refine (up_c _ _ _ (by omega) (by omega) (by omega) (by omega)).mono ?_; rintro e w' ⟨rfl, rfl⟩)
          go_ret
          exact ⟨by rw [H.out]; rfl, by (repeat (first | exact Below.refl _ _ | apply bel_drewN | apply bel_alloc))⟩

end Go.Proofs.Ytcggghamnmflcaa
namespace Go.Proofs.Ytcggghamnmflcaa
open Go Go.RowKit
def keyB (b : ByteArray) : Lit := .string b.data.toList
def setB (l : List ByteArray) : DataW Unit := Maps.setOf (.lit (.bool true)) (l.map keyB)
def seenS (l : List ByteArray) (x : ByteArray) : Bool := l.any fun y => y.data.toList == x.data.toList
theorem keyed9 : Maps.Keyed Try.prog 9 := Maps.string_keyed Try.underlying9
theorem keyOf9 {s : ByteArray} (h : s.size ≤ 9223372036854775807) : keyOf Try.prog 9 (.string s) = some (keyB s) := Go.WideMaps.keyOf_string_mk Try.underlying9 (by simpa [maxLen] using h)
theorem zero4 (w : World) : (zeroValue 4).run Try.prog w = .ok (.bool false) w := by kernel_rfl
theorem keyB_lit (b : ByteArray) : WideAt.IsKeyLit (keyB b) := by
  simp [WideAt.IsKeyLit, keyB]
theorem keyB_same (x y : ByteArray) : (keyB y).sameKey (keyB x) = (y.data.toList == x.data.toList) := by
  simp [keyB, Lit.sameKey]
theorem keyB_ne {x y : ByteArray} (h : (y.data.toList == x.data.toList) = false) : keyB x ≠ keyB y := by
  intro e
  simp [keyB] at e
  simp [e] at h
theorem fold_at (x : ByteArray) : ∀ (l : List ByteArray) (m : DataW Unit), Maps.IsMap m → ((l.map keyB).foldl (fun m x => m.put x (.lit (.bool true))) m).atKey (keyB x) (.lit (.bool false)) = if (l.any fun y => y.data.toList == x.data.toList) = true then .lit (.bool true) else m.atKey (keyB x) (.lit (.bool false))
  | [], m, _ => rfl
  | y :: l, m, hm => by
    rw [List.map_cons, List.foldl_cons, fold_at x l _ (hm.put _ _), List.any_cons]
    cases h : (l.any fun y => y.data.toList == x.data.toList) with
    | true => simp
    | false =>
      cases h2 : (y.data.toList == x.data.toList) with
      | true =>
        have e : keyB y = keyB x := by simp at h2; simp [keyB, h2]
        rw [e]
        simp [Maps.atKey_put_same hm (keyB_lit x)]
      | false => simp [Maps.atKey_put_other (keyB_ne h2)]
theorem setB_at (l : List ByteArray) (x : ByteArray) : (setB l).atKey (keyB x) (.lit (.bool false)) = .lit (.bool (seenS l x)) := by
  unfold setB seenS Maps.setOf
  rw [fold_at x l _ Maps.isMap_empty]
  cases (l.any fun y => y.data.toList == x.data.toList) <;> rfl
theorem setB_snoc (l : List ByteArray) (x : ByteArray) : setB (l ++ [x]) = (setB l).put (keyB x) (.lit (.bool true)) := by
  unfold setB
  rw [List.map_append, List.map_singleton, Maps.setOf_snoc]
theorem plainElem_bool_inv {P : Program} {e : TypeId} (he : P.underlying e = some .bool) {v : Value} {z : DataW Unit × List MemPlace} (h : plainElem P e v = some z) : ∃ x, v = .bool x ∧ z = (.lit (.bool x), []) := by
  unfold plainElem at h
  rw [he] at h
  cases v <;> simp at h
  exact ⟨_, rfl, h.symm⟩
theorem look_seen {w : World} {b n : Nat} {l : List ByteArray} {x : ByteArray} (h : w.ownsMap Try.prog 9 (plainElem Try.prog 4) b n (setB l)) (hx : x.size ≤ 9223372036854775807) :
    (Instr.lookup 168 (.map (some b)) (.string x) false).run Try.prog w = .ok (.bool (seenS l x)) w := by
  obtain ⟨v, ps, hrun, hv⟩ := h.lookup keyed9 Try.underlying168 (zero4 w) (zd := .lit (.bool false)) (zp := []) (plainElem_bool Try.underlying4 false) (keyOf9 hx)
  obtain ⟨y, rfl, hz⟩ := plainElem_bool_inv Try.underlying4 hv
  rw [setB_at] at hz
  simp at hz
  rw [hrun, hz.1]
def key0 : Lit := keyB ⟨#[]⟩
theorem empty_iff (x : ByteArray) : x.toList.isEmpty = true ↔ keyB x = key0 := by
  rw [Go.ByteArray.toList_eq]
  cases h : x.data.toList with
  | nil => simp [keyB, key0, h]
  | cons a l => simp [keyB, key0, h]
theorem has_size {E : DataW Unit} {k : Lit} (h : Maps.has E k = true) : 0 < Maps.size E := by
  cases E with
  | map es =>
    rw [Maps.has_eq, List.any_eq_true] at h
    obtain ⟨p, hp, _⟩ := h
    rw [Maps.size_eq]
    exact List.length_pos_of_mem hp
  | _ => cases h
theorem filter_insert {f : Lit × DataW Unit → Bool} {x : Lit × DataW Unit} (hx : f x = false) : ∀ l : List (Lit × DataW Unit), (DataW.insert x l).filter f = l.filter f
  | [] => by simp [DataW.insert, hx]
  | y :: l => by
    unfold DataW.insert
    split
    · rw [List.filter_cons, hx]; rfl
    · rw [List.filter_cons, List.filter_cons, filter_insert hx l]
theorem put_del (m : DataW Unit) (k : Lit) (hk : WideAt.IsKeyLit k) (u : DataW Unit) : (m.put k u).del k = m.del k := by
  cases m <;> try rfl
  rename_i es
  simp only [DataW.put, DataW.del]
  rw [filter_insert (by simp [WideAt.sameKey_self hk])]
  simp
theorem fold_del : ∀ (l : List ByteArray) (m : DataW Unit), (∀ x ∈ l, keyB x = key0) → ((l.map keyB).foldl (fun m x => m.put x (.lit (.bool true))) m).del key0 = m.del key0
  | [], m, _ => rfl
  | y :: l, m, h => by
    rw [List.map_cons, List.foldl_cons, fold_del l _ (fun x hx => h x (List.mem_cons_of_mem _ hx)), h y (List.mem_cons_self ..)]
    exact put_del m key0 (keyB_lit _) _
theorem size_named (l : List ByteArray) : 0 < Maps.size ((setB l).del key0) ↔ (l.any fun x => !x.toList.isEmpty) = true := by
  constructor
  · intro h
    cases ha : (l.any fun x => !x.toList.isEmpty) with
    | true => rfl
    | false =>
      have h2 : ∀ x ∈ l, keyB x = key0 := fun x hx => by
        rw [List.any_eq_false] at ha
        exact (empty_iff x).1 (by simpa using ha x hx)
      have h3 : (setB l).del key0 = (.map [] : DataW Unit).del key0 := fold_del l _ h2
      rw [h3] at h
      simp [DataW.del, Maps.size] at h
  · intro h
    rw [List.any_eq_true] at h
    obtain ⟨x, hx, hne⟩ := h
    have hk : keyB x ≠ key0 := fun e => by rw [(empty_iff x).2 e] at hne; cases hne
    refine has_size (k := keyB x) ?_
    rw [Maps.has_del_other hk]
    unfold setB
    rw [Maps.has_setOf _ _ _ (fun y hy => by obtain ⟨z, _, rfl⟩ := List.mem_map.1 hy; exact keyB_lit z), List.any_eq_true]
    exact ⟨keyB x, List.mem_map_of_mem hx, WideAt.sameKey_self (keyB_lit x)⟩
theorem apartS_iff : ∀ l : List ByteArray, apartS l = true ↔ l.Pairwise (fun a b => a.toList.isEmpty = true ∨ b.data.toList ≠ a.data.toList)
  | [] => by simp [apartS]
  | x :: l => by
    rw [apartS, Bool.and_eq_true, apartS_iff l, List.pairwise_cons]
    refine and_congr ?_ Iff.rfl
    rw [Bool.or_eq_true, Bool.not_eq_true', List.any_eq_false]
    constructor
    · rintro (h | h) y hy
      · exact .inl h
      · exact .inr (by simpa using h y hy)
    · intro h
      cases he : x.toList.isEmpty with
      | true => exact .inl rfl
      | false => exact .inr (fun y hy => by rcases h y hy with h | h <;> simp_all)
theorem seen_of_apart {l : List ByteArray} (h : apartS l = true) {j : Nat} {x : ByteArray} (hx : l[j]? = some x) : x.toList.isEmpty = true ∨ seenS (l.take j) x = false := by
  rw [apartS_iff, List.pairwise_iff_getElem] at h
  obtain ⟨hj, rfl⟩ := List.getElem?_eq_some_iff.1 hx
  cases he : (l[j]).toList.isEmpty with
  | true => exact .inl rfl
  | false =>
    refine .inr ?_
    unfold seenS
    rw [List.any_eq_false]
    intro y hy
    obtain ⟨i, hi, rfl⟩ := List.mem_iff_getElem.1 hy
    simp at hi
    have hij : i < j := by omega
    rw [List.getElem_take]
    rcases h i j (by omega) hj hij with h | h
    · intro e
      simp at e
      have : keyB l[i] = keyB l[j] := by simp [keyB, e]
      rw [empty_iff, this, ← empty_iff, he] at h
      cases h
    · intro e
      simp at e
      exact h (congrArg Array.toList e.symm)
theorem apart_of_seen {l : List ByteArray} (h : ∀ j x, j < l.length → l[j]? = some x → x.toList.isEmpty = true ∨ seenS (l.take j) x = false) : apartS l = true := by
  rw [apartS_iff, List.pairwise_iff_getElem]
  intro i j hi hj hij
  rcases h j _ hj (List.getElem?_eq_getElem hj) with h | h
  · by_cases e : l[j].data.toList = l[i].data.toList
    · left
      rw [empty_iff] at h ⊢
      rw [← h]
      simp [keyB, e]
    · exact .inr e
  · right
    intro e
    unfold seenS at h
    rw [List.any_eq_false] at h
    have hm : l[i] ∈ l.take j := by
      rw [List.mem_iff_getElem]
      exact ⟨i, by simp; omega, by simp⟩
    have := h _ hm
    simp [e] at this
theorem ret_b {a b : Bool} (h : a = b) : Ending.returned (.bool a) = .returned (.bool b) := by rw [h]
theorem take_snoc_of {α : Type} {l : List α} {k : Nat} {x : α} (h : l[k]? = some x) : l.take (k + 1) = l.take k ++ [x] := by
  rw [List.take_add_one, h]; rfl
set_option maxRecDepth 100000 in
theorem named_c {d : Nat} (A : Option Addr) (c : Nat) (l : List (Fld (Tp d))) (w : World) (hc : l.length ≤ c) (hm : c ≤ 9223372036854775807) (h : FdsAt w d A l) :
    Calls Try.prog 118 #[.slice A l.length c] w fun e w' => e = .returned (.bool (namedS (l.map Fld.nm))) ∧ Below w.heap.size w w' := by
  have hmm := @run_makeMap Try.prog
  go_enter Try.func118, Try.ntmps118
  go_wp2
  clear hmm
  have hlen : l.length ≤ 9223372036854775807 := by omega
  go_loopw [9] (fun i wr => ∃ k : Nat, k ≤ l.length ∧ i = .int .i64 k ∧ wr.ownsMap Try.prog 9 (plainElem Try.prog 4) w.heap.size k (setB ((l.map Fld.nm).take k)) ∧ Below w.heap.size w wr ∧ (∀ j x, j < k → (l.map Fld.nm)[j]? = some x → x.toList.isEmpty = true ∨ seenS ((l.map Fld.nm).take j) x = false))
     (fun i _ => l.length - (intOf i).toNat)
  case atStart => exact ⟨0, Nat.zero_le _, rfl, World.ownsMap_made _ _ _ _, bel_alloc (Below.refl _ _) _, fun j x hj => by omega⟩
  case round =>
    obtain ⟨k, hk, rfl, hown, hB, hs⟩ := hrel
    by_cases hlt : k < l.length
    · obtain ⟨f, hf⟩ : ∃ f, l[k]? = some f := ⟨_, List.getElem?_eq_getElem hlt⟩
      obtain ⟨b, o, n, A1, A2, n1, n2, c1, c2, pk, al, rfl, hbt, hnm, -, q0, q1, q2, q3, q4, q5, q6, q7, q8⟩ := (h.below hB).at_ hf
      have hrun := look_seen (hown.alloc (.cells #[.string f.nm, .int .i64 (tsh d f.t), .int .i64 (tk d f.t), .int .i64 n, .slice A1 n1 c1, .slice A2 n2 c2, .bool pk, .int .i64 al, .int .i64 f.bits] 56)) hnm
      have HS := Lib.hid hs
      have HF := Lib.hid hf
      clear h hs hf
      cases he : f.nm.toList.isEmpty with
      | true =>
          have HE := Lib.hid he
          go_wp2_with (at_mapUpdate; refine wpList_mapUpdate_own _ rfl _ _ _ 168 rfl 9 4 keyed9 Try.underlying168 _ _ k _ rfl (hown.alloc _) (by unfold maxLen; omega) _ _ (keyB f.nm) rfl rfl (keyOf9 hnm) _ [] (plainElem_bool Try.underlying4 true) ?_; intro w1 hown1 hgrow1)
          go_roundw
          case rel => exact ⟨k + 1, by omega, by go_num, by rw [take_snoc_of (l := l.map Fld.nm) (x := f.nm) (by simp [HF.out]), setB_snoc]; exact hown1, (bel_alloc hB _).grown hgrow1 (Nat.le_trans hB.size (by simp)) (by rintro g hg; cases hg; exact Nat.le_refl _), fun j x hj hx => by
              rcases Nat.lt_or_ge j k with h1 | h1
              · exact HS.out j x h1 hx
              · obtain rfl : j = k := by omega
                have : x = f.nm := by simp [HF.out] at hx; exact hx.symm
                subst this
                exact .inl HE.out⟩
          case measure => simp [intOf]; omega

      | false =>
        cases hb : seenS (List.take k (List.map Fld.nm l)) f.nm with
        | true =>
          have HN := Lib.hid (show namedS (l.map Fld.nm) = false by
            unfold namedS
            cases ha : apartS (l.map Fld.nm) with
            | false => rfl
            | true =>
              rcases seen_of_apart ha (j := k) (x := f.nm) (by simp [HF.out]) with h | h
              · rw [he] at h; cases h
              · rw [hb] at h; cases h)
          go_wp2_with fail
          go_ret
          exact ⟨by rw [HN.out]; rfl, bel_alloc hB _⟩
        | false =>
          have HE := Lib.hid hb
          go_wp2_with (at_mapUpdate; refine wpList_mapUpdate_own _ rfl _ _ _ 168 rfl 9 4 keyed9 Try.underlying168 _ _ k _ rfl (hown.alloc _) (by unfold maxLen; omega) _ _ (keyB f.nm) rfl rfl (keyOf9 hnm) _ [] (plainElem_bool Try.underlying4 true) ?_; intro w1 hown1 hgrow1)
          go_roundw
          case rel => exact ⟨k + 1, by omega, by go_num, by rw [take_snoc_of (l := l.map Fld.nm) (x := f.nm) (by simp [HF.out]), setB_snoc]; exact hown1, (bel_alloc hB _).grown hgrow1 (Nat.le_trans hB.size (by simp)) (by rintro g hg; cases hg; exact Nat.le_refl _), fun j x hj hx => by
              rcases Nat.lt_or_ge j k with h1 | h1
              · exact HS.out j x h1 hx
              · obtain rfl : j = k := by omega
                have : x = f.nm := by simp [HF.out] at hx; exact hx.symm
                subst this
                exact .inr HE.out⟩
          case measure => simp [intOf]; omega

    · obtain rfl : k = l.length := by omega
      rw [List.take_of_length_le (by simp)] at hown
      have HA := Lib.hid (apart_of_seen (l := l.map Fld.nm) (by simpa using hs))
      have hsz := size_named (l.map Fld.nm)
      obtain ⟨z, hz⟩ : ∃ z, Maps.size ((setB (l.map Fld.nm)).del key0) = z := ⟨_, rfl⟩
      rw [hz] at hsz
      have HZ := Lib.hid hz
      have HN := Lib.hid (show namedS (l.map Fld.nm) = (decide (0 < z) && decide (l.length ≤ 40)) by
        unfold namedS
        rw [HA.out, List.length_map, Bool.true_and]
        cases hany : ((l.map Fld.nm).any fun x => !x.toList.isEmpty) with
        | true =>
          have hz0 : 0 < z := hsz.2 hany
          rw [decide_eq_true hz0]
        | false =>
          have hz0 : ¬ 0 < z := fun h0 => by rw [hsz.1 h0] at hany; cases hany
          rw [decide_eq_false hz0])
      clear h hs hsz hz
      by_cases h1 : 0 < z
      all_goals by_cases h2 : l.length ≤ 40
      all_goals
        go_wp2_with (first | (at_delete; refine wpList_delete_own _ rfl _ _ 168 9 rfl 4 keyed9 Try.underlying168 _ _ l.length _ rfl hown _ key0 rfl (keyOf9 (by decide)) ?_; intro w1 hown1 hturn1) | (at_len; refine wpList_len_own _ rfl _ 168 rfl 9 4 Try.underlying168 _ _ l.length _ rfl hown1 ?_; rw [HZ.out]))
        go_ret
        exact ⟨ret_b (by rw [HN.out]; simp [h1]; try omega), hB.grown hturn1.grown hB.size (by rintro g hg; cases hg; exact Nat.le_refl _)⟩
end Go.Proofs.Ytcggghamnmflcaa
namespace Go.Proofs.Ytcggghamnmflcaa
open Go Go.RowKit
theorem upS_rng {v n : Int} (h2 : 1 ≤ n) : v ≤ upS v n ∧ upS v n ≤ v + n - 1 := by
  unfold upS
  have h1 : (v + n - 1) / n * n ≤ v + n - 1 := Int.ediv_mul_le _ (by omega)
  have h3 := Int.lt_ediv_add_one_mul_self (v + n - 1) (show 0 < n by omega)
  rw [Int.add_mul, Int.one_mul] at h3
  omega
theorem nextS_rng (up : Bool) (bits sz ag at_ : Int) (h2 : 1 ≤ sz) (h4 : 1 ≤ ag) (h5 : ag ≤ 64) : at_ ≤ nextS up bits sz ag at_ ∧ nextS up bits sz ag at_ ≤ at_ + (if bits < 0 then 511 else 8 * sz - 1) := by
  have a := upS_rng (v := at_) (show (1 : Int) ≤ 8 by omega)
  have b := upS_rng (v := at_) (show 1 ≤ 8 * ag by omega)
  have c := upS_rng (v := at_) (show 1 ≤ 8 * sz by omega)
  unfold nextS
  repeat' split
  all_goals omega
theorem nextS_I64 (up : Bool) (bits sz ag at_ : Int) (h0 : 0 ≤ at_) (h1 : at_ ≤ 1000000000) (h2 : 1 ≤ sz) (h3 : sz ≤ 65536) (h4 : 1 ≤ ag) (h5 : ag ≤ 64) : I64 (nextS up bits sz ag at_) := by
  have := nextS_rng up bits sz ag at_ h2 h4 h5
  unfold I64
  split at this <;> omega
theorem up_w (v n : Int) (w : World) (h2 : 1 ≤ n) (h3 : n ≤ 1000000000000) : Calls Try.prog 122 #[.int .i64 v, .int .i64 n] w fun e w' => ∃ r, e = .returned (.int .i64 r) ∧ I64 r ∧ w = w' := by
  go_enter Try.func122, Try.ntmps122
  go_wp2
  go_ret
  exact ⟨_, rfl, wrap64_I64 _, rfl⟩
theorem begins_bad (nm : ByteArray) (sh k n al bits : Int) (A1 A2 : Option Addr) (n1 n2 c1 c2 : Nat) (pk : Bool) (sz ag : Int) (S : Option Addr) (sn sc : Nat) (up : Bool) (at_ : Int) (w : World) (hat : I64 at_) (h2 : 1 ≤ sz) (h3 : sz ≤ 65536) (h4 : 1 ≤ ag) (h5 : ag ≤ 64) :
    Calls Try.prog 121 #[.agg #[.string nm, .int .i64 sh, .int .i64 k, .int .i64 n, .slice A1 n1 c1, .slice A2 n2 c2, .bool pk, .int .i64 al, .int .i64 bits], .agg #[.int .i64 sz, .int .i64 ag, .slice S sn sc], .bool up, .int .i64 at_] w fun e w' => ∃ r, e = .returned (.int .i64 r) ∧ I64 r ∧ Below w.heap.size w w' := by
  by_cases hb : bits < 0
  · cases up with
    | true =>
      go_enter Try.func121, Try.ntmps121
      go_wp2_with (go_at_call 122; refine (up_w _ _ _ (by omega) (by omega)).mono ?_; rintro e w' ⟨r, rfl, hr, rfl⟩)
      go_ret
      exact ⟨_, rfl, hr, by (repeat (first | exact Below.refl _ _ | apply bel_drewN | apply bel_alloc))⟩
    | false =>
      go_enter Try.func121, Try.ntmps121
      go_wp2_with (go_at_call 122; refine (up_w _ _ _ (by omega) (by omega)).mono ?_; rintro e w' ⟨r, rfl, hr, rfl⟩)
      go_ret
      exact ⟨_, rfl, hr, by (repeat (first | exact Below.refl _ _ | apply bel_drewN | apply bel_alloc))⟩
  · cases hz : bits == 0 with
    | true =>
      go_enter Try.func121, Try.ntmps121
      go_wp2_with (go_at_call 122; refine (up_w _ _ _ (by omega) (by omega)).mono ?_; rintro e w' ⟨r, rfl, hr, rfl⟩)
      go_ret
      exact ⟨_, rfl, hr, by (repeat (first | exact Below.refl _ _ | apply bel_drewN | apply bel_alloc))⟩
    | false =>
      cases up with
      | true =>
        go_enter Try.func121, Try.ntmps121
        go_wp2_with (go_at_call 122; refine (up_w _ _ _ (by omega) (by omega)).mono ?_; rintro e w' ⟨r, rfl, hr, rfl⟩)
        go_quiet (fail)
        go_wp2_with (go_at_call 122; refine (up_w _ _ _ (by omega) (by omega)).mono ?_; rintro e w' ⟨r, rfl, hr, rfl⟩)
        go_ret
        exact ⟨_, rfl, hat, by (repeat (first | exact Below.refl _ _ | apply bel_drewN | apply bel_alloc))⟩
      | false =>
        go_enter Try.func121, Try.ntmps121
        go_wp2_with (go_at_call 122; refine (up_w _ _ _ (by omega) (by omega)).mono ?_; rintro e w' ⟨r, rfl, hr, rfl⟩)
        go_quiet (fail)
        go_wp2_with (go_at_call 122; refine (up_w _ _ _ (by omega) (by omega)).mono ?_; rintro e w' ⟨r, rfl, hr, rfl⟩)
        all_goals
          go_ret
          exact ⟨_, rfl, by first | exact hr | exact hat, by (repeat (first | exact Below.refl _ _ | apply bel_drewN | apply bel_alloc))⟩
theorem begins_any (nm : ByteArray) (sh k n al bits : Int) (A1 A2 : Option Addr) (n1 n2 c1 c2 : Nat) (pk : Bool) (sz ag : Int) (S : Option Addr) (sn sc : Nat) (up : Bool) (at_ : Int) (w : World) (hat : I64 at_) (h2 : 1 ≤ sz) (h3 : sz ≤ 65536) (h4 : 1 ≤ ag) (h5 : ag ≤ 64) :
    Calls Try.prog 121 #[.agg #[.string nm, .int .i64 sh, .int .i64 k, .int .i64 n, .slice A1 n1 c1, .slice A2 n2 c2, .bool pk, .int .i64 al, .int .i64 bits], .agg #[.int .i64 sz, .int .i64 ag, .slice S sn sc], .bool up, .int .i64 at_] w fun e w' => ∃ r, e = .returned (.int .i64 r) ∧ I64 r ∧ (0 ≤ at_ ∧ at_ ≤ 1000000000 ∧ bits ≤ 8 * sz → r = nextS up bits sz ag at_) ∧ Below w.heap.size w w' := by
  by_cases hg : 0 ≤ at_ ∧ at_ ≤ 1000000000 ∧ bits ≤ 8 * sz
  · refine (begins_c nm sh k n al bits A1 A2 n1 n2 c1 c2 pk sz ag S sn sc up at_ w hg.1 hg.2.1 h2 h3 h4 h5 hg.2.2).mono fun e w' ⟨he, hb⟩ => ⟨_, he, ?_, fun _ => rfl, hb⟩
    exact nextS_I64 up bits sz ag at_ hg.1 hg.2.1 h2 h3 h4 h5
  · exact (begins_bad nm sh k n al bits A1 A2 n1 n2 c1 c2 pk sz ag S sn sc up at_ w hat h2 h3 h4 h5).mono fun e w' ⟨r, he, hr, hb⟩ => ⟨r, he, hr, fun h => absurd h hg, hb⟩
end Go.Proofs.Ytcggghamnmflcaa
namespace Go.Proofs.Ytcggghamnmflcaa
open Go Go.RowKit Go.Shelf
attribute [local go_sem] Oper.semAt_some

/-- A box that is handed on: its numbers, its slice, its error. -/
structure BxV where
  sz : Int
  ag : Int
  A : Option Addr
  n : Nat
  c : Nat
  er : Int
  ok : (er = 0 ∧ 1 ≤ sz ∧ sz ≤ 65536 ∧ 1 ≤ ag ∧ ag ≤ 64) ∨ er = 100 ∨ er = 101
def BxV.encs (x : BxV) : Array Value := #[.agg #[.int .i64 x.sz, .int .i64 x.ag, .slice x.A x.n x.c], .int .i64 x.er]
/-- Spots lie in a row of three cells each. -/
def SptsAt (w : World) (A : Option Addr) (n : Nat) (l : List Spt) : Prop :=
  n = l.length ∧ ∀ i s, l[i]? = some s → ∃ b o, A = some ⟨b, o, none⟩ ∧ w.cell? ⟨b, o + i * 3, none⟩ = some (.int .i64 s.bit) ∧ w.cell? ⟨b, o + i * 3 + 1, none⟩ = some (.int .i64 s.bits) ∧ w.cell? ⟨b, o + i * 3 + 2, none⟩ = some (.int .i64 s.k)
theorem SptsAt.below {w w1 : World} {A : Option Addr} {n : Nat} {l : List Spt} (h : SptsAt w A n l) (hb : Below w.heap.size w w1) : SptsAt w1 A n l :=
  ⟨h.1, fun i s hs => by
    obtain ⟨b, o, ha, h0, h1, h2⟩ := h.2 i s hs
    exact ⟨b, o, ha, bel_cell hb h0, bel_cell hb h1, bel_cell hb h2⟩⟩
/-- Spots in new memory. -/
def Spts (base : Nat) (w : World) (A : Option Addr) (n : Nat) (l : List Spt) : Prop := SptsAt w A n l ∧ ∀ a, A = some a → base ≤ a.block
/-- What lie is to answer, for all types of depth deep. -/
def LieC (deep : Int) : Prop := ∀ (d : Nat) (t : Tp d) (v0 v1 v2 v3 v4 v5 v6 : Value) (w : World), TyAt w d t [v0, v1, v2, v3, v4, v5, v6] →
  Calls Try.prog 77 #[.agg #[v0, v1, v2, v3, v4, v5, v6], .int .i64 deep] w fun e w' => ∃ x : BxV, e = .returned (.tuple #[.agg #[.int .i64 x.sz, .int .i64 x.ag, .slice x.A x.n x.c], .int .i64 x.er]) ∧ x.er = lieE d t deep ∧ (x.er = 0 → ∀ b, boxS d t = some b → x.sz = b.size ∧ x.ag = b.align ∧ Spts w.heap.size w' x.A x.n b.l) ∧ Below w.heap.size w w'
/-- What a member comes to. -/
def fldE (d : Nat) (f : Fld (Tp d)) (deep : Int) : Int := if isFieldS f.nm (tsh d f.t) (tk d f.t) f.bits = true then lieE d f.t deep else 100
theorem cell_new (W : World) (cs : Array Value) (T : TypeId) (j : Nat) (v : Value) (h : cs[j]? = some v) : (W.alloc (.cells cs T)).cell? ⟨W.heap.size, j, none⟩ = some v := by
  rw [← h]; exact cell_of_row (W.alloc (.cells cs T)) W.heap.size j cs T (0, 0) (heap_alloc_new W _)
def FldR (d : Nat) (deep : Int) (f : Fld (Tp d)) (x : BxV) : Prop := x.er = fldE d f deep ∧ (x.er = 0 → ∀ b, boxS d f.t = some b → x.sz = b.size ∧ x.ag = b.align)
def PreR (d : Nat) (deep : Int) (l : List (Fld (Tp d))) (pre : List BxV) : Prop := ∀ (j : Nat) (x : BxV) (f : Fld (Tp d)), pre[j]? = some x → l[j]? = some f → FldR d deep f x
theorem pre_snoc {d : Nat} {deep : Int} {l : List (Fld (Tp d))} {pre : List BxV} {k : Nat} {f : Fld (Tp d)} {x : BxV} (h : PreR d deep l pre) (hk : pre.length = k) (hf : l[k]? = some f) (hx : FldR d deep f x) : PreR d deep l (pre ++ [x]) := by
  intro j y g hy hg
  rw [List.getElem?_append] at hy
  split at hy
  · exact h j y g hy hg
  · rename_i hge
    have hj : j = k := by
      rcases Nat.lt_or_ge (j - pre.length) 1 with h1 | h1
      · omega
      · rw [List.getElem?_eq_none (by simpa using h1)] at hy; cases hy
    subst hj
    rw [hk, Nat.sub_self] at hy
    simp at hy
    rw [hf] at hg
    cases hg
    subst hy
    exact hx
theorem er_snoc {pre : List BxV} {x : BxV} (h : ∀ y ∈ pre, y.er = 0) (hx : x.er = 0) : ∀ y ∈ pre ++ [x], y.er = 0 := by
  intro y hy
  rcases List.mem_append.1 hy with hy | hy
  · exact h y hy
  · simp at hy; rw [hy]; exact hx
theorem fldE_100 {d : Nat} {f : Fld (Tp d)} {deep : Int} (h : 100 = lieE d f.t deep) : 100 = fldE d f deep := by
  unfold fldE
  split
  · exact h
  · rfl
theorem grown_none {w w1 : World} (h : Below w.heap.size w w1) : w.grownBy w1 none := ⟨h.os, h.tape, h.output, h.size, fun i hi _ => h.block i hi⟩
/-- What a round over boxes must keep. -/
def BxK (n₀ Lb Db : Nat) (W W' : World) : Prop := Below n₀ W W' ∧ W'.heap[Lb]? = W.heap[Lb]? ∧ W'.heap[Db]? = W.heap[Db]?

theorem wide_fn (k : FuncId) : Fence.wide.fn k = True := rfl
attribute [local go_sem] wide_fn
theorem boxes_c (A : Option Addr) (n c : Nat) (deep : Int) (w : World) : Calls Try.prog 119 #[.slice A n c, .int .i64 deep] w fun e w' => e = .returned (.func (.func 128) #[] #[.pointer (some ⟨w.heap.size, 0, none⟩), .pointer (some ⟨w.heap.size + 1, 0, none⟩)]) ∧ (w.alloc (.cells #[.slice A n c] 36)).alloc (.cells #[.int .i64 deep] 3) = w' := by
  go_enter Try.func119, Try.ntmps119
  go_wp2
  go_ret
  exact ⟨rfl, rfl⟩

set_option maxRecDepth 100000 in
set_option maxHeartbeats 2000000 in
theorem boxes1_in (deep : Int) (hL : LieC deep) (n : Nat) (hn : 1 ≤ n) (l₀ : Nat) {d : Nat} (A : Option Addr) (c : Nat) (l : List (Fld (Tp d))) (w0 : World) (Lb Db : Nat) (hF : FdsAt w0 d A l) (hc : l.length ≤ c) (hm : c ≤ 9223372036854775807)
    (J Jx : List BxV → World → Prop) (W : World) (hJ : AbidesFrom W.heap.size J) (hB0 : Below w0.heap.size w0 W)
    (hLb : W.cell? ⟨Lb, 0, none⟩ = some (.slice A l.length c)) (hDb : W.cell? ⟨Db, 0, none⟩ = some (.int .i64 deep))
    (hY : ∀ pre x W1, J pre W1 → pre.length < l.length → YieldAt Fence.wide (n - 1) Try.prog l₀ x.encs W1 fun e W' =>
      (e = .returned (.bool true) ∧ J (pre ++ [x]) W' ∧ BxK w0.heap.size Lb Db W1 W') ∨ (e = .returned (.bool false) ∧ Jx (pre ++ [x]) W'))
    (h0 : J [] W) :
    CallsIn Fence.wide n Try.prog 128 #[.func (.yield l₀) #[] #[], .pointer (some ⟨Lb, 0, none⟩), .pointer (some ⟨Db, 0, none⟩)] W fun e W' => (∃ v, e = .returned v) ∧
      ((∃ xs, (PreR d deep l xs ∧ ((∀ x ∈ xs, x.er = 0) → xs.length = l.length)) ∧ J xs W') ∨ (∃ pre, PreR d deep l pre ∧ Jx pre W')) := by
  have hlen : l.length ≤ 9223372036854775807 := by omega
  refine callsIn_of_wp Try.func128 rfl trivial ?_ rfl
  simp only [Try.ntmps128, List.size_toArray, List.length_cons, List.length_nil, Nat.reduceAdd, Nat.reduceSub, Array.replicate_succ, Array.replicate_zero, List.push_toArray, List.append_toArray, List.nil_append, List.cons_append]
  gi_wp2
  gi_loopw [10] (fun i wr => ∃ (k : Nat) (pre : List BxV), i = .int .i64 k ∧ pre.length = k ∧ k ≤ l.length ∧ PreR d deep l pre ∧ (∀ x ∈ pre, x.er = 0) ∧ J pre wr ∧ Below w0.heap.size w0 wr ∧ wr.cell? ⟨Lb, 0, none⟩ = some (.slice A l.length c) ∧ wr.cell? ⟨Db, 0, none⟩ = some (.int .i64 deep))
    (fun i _ => l.length - (intOf i).toNat)
  case atStart => exact ⟨0, [], rfl, rfl, Nat.zero_le _, fun j x f hx => by simp at hx, fun x hx => by simp at hx, h0, hB0, hLb, hDb⟩
  case round =>
    obtain ⟨k, pre, rfl, hpl, hk, hpre, her, hJs, hB, hLw, hDw⟩ := hrel
    by_cases hlt : k < l.length
    · obtain ⟨f, hf⟩ : ∃ f, l[k]? = some f := ⟨_, List.getElem?_eq_getElem hlt⟩
      obtain ⟨b, o, nn, A1, A2, n1, n2, c1, c2, pk, al, hA, hbt, hnm, hty, q0, q1, q2, q3, q4, q5, q6, q7, q8⟩ := (hF.below hB).at_ hf
      subst hA
      have HF := Lib.hid hf
      clear hf
      have hDl := World.block_lt_of_cell? wr _ hDw
      simp only at hDl
      gi_wp2_with fail
      refine (callsIn_wide.2 (hL d f.t _ _ _ _ _ _ _ _ (hty.below (bel_alloc (Below.refl _ _) _)))).mono ?_
      rintro e w1 ⟨x, rfl, hxe, hxb, hb1⟩
      have p0 : w1.cell? ⟨wr.heap.size, 0, none⟩ = some (.string f.nm) := bel_cell hb1 (cell_new _ _ _ 0 _ rfl)
      have p1 : w1.cell? ⟨wr.heap.size, 1, none⟩ = some (.int .i64 (tsh d f.t)) := bel_cell hb1 (cell_new _ _ _ 1 _ rfl)
      have p2 : w1.cell? ⟨wr.heap.size, 2, none⟩ = some (.int .i64 (tk d f.t)) := bel_cell hb1 (cell_new _ _ _ 2 _ rfl)
      have p3 : w1.cell? ⟨wr.heap.size, 3, none⟩ = some (.int .i64 nn) := bel_cell hb1 (cell_new _ _ _ 3 _ rfl)
      have p4 : w1.cell? ⟨wr.heap.size, 4, none⟩ = some (.slice A1 n1 c1) := bel_cell hb1 (cell_new _ _ _ 4 _ rfl)
      have p5 : w1.cell? ⟨wr.heap.size, 5, none⟩ = some (.slice A2 n2 c2) := bel_cell hb1 (cell_new _ _ _ 5 _ rfl)
      have p6 : w1.cell? ⟨wr.heap.size, 6, none⟩ = some (.bool pk) := bel_cell hb1 (cell_new _ _ _ 6 _ rfl)
      have p7 : w1.cell? ⟨wr.heap.size, 7, none⟩ = some (.int .i64 al) := bel_cell hb1 (cell_new _ _ _ 7 _ rfl)
      have p8 : w1.cell? ⟨wr.heap.size, 8, none⟩ = some (.int .i64 f.bits) := bel_cell hb1 (cell_new _ _ _ 8 _ rfl)
      have hs1 : wr.heap.size + 1 ≤ w1.heap.size := by have := hb1.size; simpa using this
      have hs2 : wr.heap.size < w1.heap.size := by omega
      obtain ⟨xsz, xag, xA, xn, xc, xer, xok⟩ := x
      have HE := Lib.hid hxe
      have HB := Lib.hid hxb
      clear hxe hxb
      rcases xok with ⟨rfl, k1, k2, k3, k4⟩ | rfl | rfl
      · gi_wp2_with fail
        refine (callsIn_wide.2 (isField_c f.nm (tsh d f.t) (tk d f.t) nn al f.bits A1 A2 n1 n2 c1 c2 pk _)).mono ?_
        rintro e w2 ⟨rfl, hb2⟩
        have r0 : w2.cell? ⟨w1.heap.size, 0, none⟩ = some (.int .i64 xsz) := bel_cell hb2 (cell_new _ _ _ 0 _ rfl)
        have r1 : w2.cell? ⟨w1.heap.size, 1, none⟩ = some (.int .i64 xag) := bel_cell hb2 (cell_new _ _ _ 1 _ rfl)
        have r2 : w2.cell? ⟨w1.heap.size, 2, none⟩ = some (.slice xA xn xc) := bel_cell hb2 (cell_new _ _ _ 2 _ rfl)
        clear p0 p1 p2 p3 p4 p5 p6 p7 p8 q0 q1 q2 q3 q4 q5 q6 q7 q8
        cases hfd : isFieldS f.nm (tsh d f.t) (tk d f.t) f.bits with
        | true =>
          have HFD := Lib.hid hfd
          clear hfd
          have hW2 : Below wr.heap.size wr (w2) := bel_then (bel_alloc (bel_then (bel_alloc (Below.refl _ _) _) hb1) _) hb2
          have hJ2 : J pre (w2) := hJ pre wr _ none hJs (grown_none hW2) (by simp)
          obtain ⟨fn, tmps, assign, body, hy, hR⟩ := hY pre ⟨xsz, xag, xA, xn, xc, 0, .inl ⟨rfl, k1, k2, k3, k4⟩⟩ _ hJ2 (by omega)
          dsimp only [BxV.encs] at hy
          have hlen2 : pre.length < l.length := by omega
          gi_wp2_with fail
          refine hR.mono ?_
          rintro e W3 (⟨rfl, hJ3, hk3⟩ | ⟨rfl, hJx3⟩)
          · clear hy hR
            gi_wp2_with fail
            go_roundw
            case rel => exact ⟨k + 1, pre ++ [⟨xsz, xag, xA, xn, xc, 0, .inl ⟨rfl, k1, k2, k3, k4⟩⟩], by go_num, by simp; omega, by omega, pre_snoc hpre hpl HF.out ⟨by unfold fldE; rw [if_pos HFD.out]; exact HE.out, fun _ b hb => ⟨(HB.out trivial b hb).1, (HB.out trivial b hb).2.1⟩⟩, er_snoc her rfl, hJ3, (hB.trans (hW2.mono hB.size)).trans hk3.1, (World.cell?_of_block hk3.2.1).trans (bel_cell hW2 hLw), (World.cell?_of_block hk3.2.2).trans (bel_cell hW2 hDw)⟩
            case measure => simp [intOf]; omega
          · clear hy hR
            gi_wp2_with fail
            refine bodyPost_ret (results_none rfl _ _ _) rfl ?_
            exact ⟨⟨_, rfl⟩, .inr ⟨pre ++ [⟨xsz, xag, xA, xn, xc, 0, .inl ⟨rfl, k1, k2, k3, k4⟩⟩], pre_snoc hpre hpl HF.out ⟨by unfold fldE; rw [if_pos HFD.out]; exact HE.out, fun _ b hb => ⟨(HB.out trivial b hb).1, (HB.out trivial b hb).2.1⟩⟩, hJx3⟩⟩
        | false =>
          have HFD := Lib.hid hfd
          clear hfd
          have hW2 : Below wr.heap.size wr (w2) := bel_then (bel_alloc (bel_then (bel_alloc (Below.refl _ _) _) hb1) _) hb2
          have hJ2 : J pre (w2) := hJ pre wr _ none hJs (grown_none hW2) (by simp)
          obtain ⟨fn, tmps, assign, body, hy, hR⟩ := hY pre ⟨xsz, xag, xA, xn, xc, 100, .inr (.inl rfl)⟩ _ hJ2 (by omega)
          dsimp only [BxV.encs] at hy
          have hlen2 : pre.length < l.length := by omega
          gi_wp2_with fail
          refine hR.mono ?_
          rintro e W3 (⟨rfl, hJ3, hk3⟩ | ⟨rfl, hJx3⟩)
          · clear hy hR
            gi_wp2_with fail
            refine bodyPost_ret (results_none rfl _ _ _) rfl ?_
            exact ⟨⟨_, rfl⟩, .inl ⟨pre ++ [⟨xsz, xag, xA, xn, xc, 100, .inr (.inl rfl)⟩], ⟨pre_snoc hpre hpl HF.out ⟨by unfold fldE; rw [HFD.out]; rfl, fun h => by simp at h⟩, fun h0 => absurd (h0 ⟨xsz, xag, xA, xn, xc, 100, .inr (.inl rfl)⟩ (by simp)) (by simp)⟩, hJ3⟩⟩
          · clear hy hR
            gi_wp2_with fail
            refine bodyPost_ret (results_none rfl _ _ _) rfl ?_
            exact ⟨⟨_, rfl⟩, .inr ⟨pre ++ [⟨xsz, xag, xA, xn, xc, 100, .inr (.inl rfl)⟩], pre_snoc hpre hpl HF.out ⟨by unfold fldE; rw [HFD.out]; rfl, fun h => by simp at h⟩, hJx3⟩⟩
      · clear p0 p1 p2 p3 p4 p5 p6 p7 p8 q0 q1 q2 q3 q4 q5 q6 q7 q8
        have hW2 : Below wr.heap.size wr (w1.alloc (.cells #[.int .i64 xsz, .int .i64 xag, .slice xA xn xc] 99)) := bel_alloc (bel_then (bel_alloc (Below.refl _ _) _) hb1) _
        have hJ2 : J pre (w1.alloc (.cells #[.int .i64 xsz, .int .i64 xag, .slice xA xn xc] 99)) := hJ pre wr _ none hJs (grown_none hW2) (by simp)
        obtain ⟨fn, tmps, assign, body, hy, hR⟩ := hY pre ⟨xsz, xag, xA, xn, xc, 100, .inr (.inl rfl)⟩ _ hJ2 (by omega)
        dsimp only [BxV.encs] at hy
        have hlen2 : pre.length < l.length := by omega
        gi_wp2_with fail
        refine hR.mono ?_
        rintro e W3 (⟨rfl, hJ3, hk3⟩ | ⟨rfl, hJx3⟩)
        · clear hy hR
          gi_wp2_with fail
          refine bodyPost_ret (results_none rfl _ _ _) rfl ?_
          exact ⟨⟨_, rfl⟩, .inl ⟨pre ++ [⟨xsz, xag, xA, xn, xc, 100, .inr (.inl rfl)⟩], ⟨pre_snoc hpre hpl HF.out ⟨fldE_100 HE.out, fun h => by simp at h⟩, fun h0 => absurd (h0 ⟨xsz, xag, xA, xn, xc, 100, .inr (.inl rfl)⟩ (by simp)) (by simp)⟩, hJ3⟩⟩
        · clear hy hR
          gi_wp2_with fail
          refine bodyPost_ret (results_none rfl _ _ _) rfl ?_
          exact ⟨⟨_, rfl⟩, .inr ⟨pre ++ [⟨xsz, xag, xA, xn, xc, 100, .inr (.inl rfl)⟩], pre_snoc hpre hpl HF.out ⟨fldE_100 HE.out, fun h => by simp at h⟩, hJx3⟩⟩
      · gi_wp2_with fail
        refine (callsIn_wide.2 (isField_c f.nm (tsh d f.t) (tk d f.t) nn al f.bits A1 A2 n1 n2 c1 c2 pk _)).mono ?_
        rintro e w2 ⟨rfl, hb2⟩
        have r0 : w2.cell? ⟨w1.heap.size, 0, none⟩ = some (.int .i64 xsz) := bel_cell hb2 (cell_new _ _ _ 0 _ rfl)
        have r1 : w2.cell? ⟨w1.heap.size, 1, none⟩ = some (.int .i64 xag) := bel_cell hb2 (cell_new _ _ _ 1 _ rfl)
        have r2 : w2.cell? ⟨w1.heap.size, 2, none⟩ = some (.slice xA xn xc) := bel_cell hb2 (cell_new _ _ _ 2 _ rfl)
        clear p0 p1 p2 p3 p4 p5 p6 p7 p8 q0 q1 q2 q3 q4 q5 q6 q7 q8
        cases hfd : isFieldS f.nm (tsh d f.t) (tk d f.t) f.bits with
        | true =>
          have HFD := Lib.hid hfd
          clear hfd
          have hW2 : Below wr.heap.size wr (w2) := bel_then (bel_alloc (bel_then (bel_alloc (Below.refl _ _) _) hb1) _) hb2
          have hJ2 : J pre (w2) := hJ pre wr _ none hJs (grown_none hW2) (by simp)
          obtain ⟨fn, tmps, assign, body, hy, hR⟩ := hY pre ⟨xsz, xag, xA, xn, xc, 101, .inr (.inr rfl)⟩ _ hJ2 (by omega)
          dsimp only [BxV.encs] at hy
          have hlen2 : pre.length < l.length := by omega
          gi_wp2_with fail
          refine hR.mono ?_
          rintro e W3 (⟨rfl, hJ3, hk3⟩ | ⟨rfl, hJx3⟩)
          · clear hy hR
            gi_wp2_with fail
            refine bodyPost_ret (results_none rfl _ _ _) rfl ?_
            exact ⟨⟨_, rfl⟩, .inl ⟨pre ++ [⟨xsz, xag, xA, xn, xc, 101, .inr (.inr rfl)⟩], ⟨pre_snoc hpre hpl HF.out ⟨by unfold fldE; rw [if_pos HFD.out]; exact HE.out, fun h => by simp at h⟩, fun h0 => absurd (h0 ⟨xsz, xag, xA, xn, xc, 101, .inr (.inr rfl)⟩ (by simp)) (by simp)⟩, hJ3⟩⟩
          · clear hy hR
            gi_wp2_with fail
            refine bodyPost_ret (results_none rfl _ _ _) rfl ?_
            exact ⟨⟨_, rfl⟩, .inr ⟨pre ++ [⟨xsz, xag, xA, xn, xc, 101, .inr (.inr rfl)⟩], pre_snoc hpre hpl HF.out ⟨by unfold fldE; rw [if_pos HFD.out]; exact HE.out, fun h => by simp at h⟩, hJx3⟩⟩
        | false =>
          have HFD := Lib.hid hfd
          clear hfd
          have hW2 : Below wr.heap.size wr (w2) := bel_then (bel_alloc (bel_then (bel_alloc (Below.refl _ _) _) hb1) _) hb2
          have hJ2 : J pre (w2) := hJ pre wr _ none hJs (grown_none hW2) (by simp)
          obtain ⟨fn, tmps, assign, body, hy, hR⟩ := hY pre ⟨xsz, xag, xA, xn, xc, 100, .inr (.inl rfl)⟩ _ hJ2 (by omega)
          dsimp only [BxV.encs] at hy
          have hlen2 : pre.length < l.length := by omega
          gi_wp2_with fail
          refine hR.mono ?_
          rintro e W3 (⟨rfl, hJ3, hk3⟩ | ⟨rfl, hJx3⟩)
          · clear hy hR
            gi_wp2_with fail
            refine bodyPost_ret (results_none rfl _ _ _) rfl ?_
            exact ⟨⟨_, rfl⟩, .inl ⟨pre ++ [⟨xsz, xag, xA, xn, xc, 100, .inr (.inl rfl)⟩], ⟨pre_snoc hpre hpl HF.out ⟨by unfold fldE; rw [HFD.out]; rfl, fun h => by simp at h⟩, fun h0 => absurd (h0 ⟨xsz, xag, xA, xn, xc, 100, .inr (.inl rfl)⟩ (by simp)) (by simp)⟩, hJ3⟩⟩
          · clear hy hR
            gi_wp2_with fail
            refine bodyPost_ret (results_none rfl _ _ _) rfl ?_
            exact ⟨⟨_, rfl⟩, .inr ⟨pre ++ [⟨xsz, xag, xA, xn, xc, 100, .inr (.inl rfl)⟩], pre_snoc hpre hpl HF.out ⟨by unfold fldE; rw [HFD.out]; rfl, fun h => by simp at h⟩, hJx3⟩⟩
    · have hge : l.length ≤ k := by omega
      gi_wp2
      go_end0
      exact ⟨⟨_, rfl⟩, .inl ⟨pre, ⟨hpre, fun _ => by omega⟩, hJs⟩⟩
end Go.Proofs.Ytcggghamnmflcaa
namespace Go.Proofs.Ytcggghamnmflcaa
open Go Go.RowKit Go.Shelf
attribute [local go_sem] wide_fn
attribute [local go_sem] Oper.semAt_some

theorem bcell {W w1 : World} (hb : Below W.heap.size W w1) : (∀ b o, b < W.heap.size → w1.cell? ⟨b, o, none⟩ = W.cell? ⟨b, o, none⟩) ∧ (∀ b o, b < W.heap.size → w1.frozen? ⟨b, o, none⟩ = W.frozen? ⟨b, o, none⟩) :=
  ⟨fun b o h => hb.cell (p := ⟨b, o, none⟩) h, fun b o h => hb.frozen (p := ⟨b, o, none⟩) h⟩
theorem bel_set {w W : World} (h : Below w.heap.size w W) {p : Addr} (hp : w.heap.size ≤ p.block) (v : Value) : Below w.heap.size w (W.setCell p v) := h.setCell hp v
def mx (x y : Int) : Int := if x < y then y else x
theorem mx_eq (x y : Int) : mx x y = max x y := by unfold mx; split <;> omega
theorem mx2_int (k k' : IntKind) (x y : Int) : Builtin.max2 (.int k x) (.int k' y) = pure (.int k (mx x y)) := by simp only [Builtin.max2, gt_iff_lt, mx]
theorem mx_two (ats : Array TypeId) (ty : TypeId) (a b : Value) : Builtin.max_ ats ty #[a, b] = (Builtin.max2 a b >>= fun s => pure s) := by simp only [Builtin.max_, List.foldlM_cons, List.foldlM_nil]
attribute [local go_sem] mx2_int mx_two
set_option maxRecDepth 100000 in
theorem compound_no {d : Nat} (A1 A2 : Option Addr) (sh k n al : Int) (n1 c1 c2 : Nat) (pk : Bool) (l : List (Fld (Tp d))) (deep : Int) (w : World) (hc : l.length ≤ c2) (hm : c2 ≤ 9223372036854775807) (hc1 : n1 ≤ c1) (hF : FdsAt w d A2 l)
    (h : (k == 0 && (n == 0 && (decide (n1 = 0) && (isAlignS al && namedS (l.map Fld.nm))))) = false) :
    Calls Try.prog 108 #[.agg #[.int .i64 sh, .int .i64 k, .int .i64 n, .slice A1 n1 c1, .slice A2 l.length c2, .bool pk, .int .i64 al], .int .i64 deep] w fun e w' => e = .returned (.tuple #[.agg #[.int .i64 0, .int .i64 0, .slice none 0 0], .int .i64 100]) ∧ Below w.heap.size w w' := by
  cases h1 : (k == 0) with
  | false =>
    have g1 : (k != 0) = true := by simpa using h1
    clear h hF
    go_enter Try.func108, Try.ntmps108
    go_wp2
    go_step3
    go_wp2_with (first | (go_at_call 117; (with_reducible refine (isAlign_c _ _).mono ?_); rintro e w' ⟨rfl, rfl⟩; rw [HA.out]) | (go_at_call 118; refine (named_c A2 c2 l _ hc hm (hF.below (by repeat (first | exact Below.refl _ _ | apply bel_alloc)))).mono ?_; rintro e w' ⟨rfl, hb⟩; rw [HN.out]; obtain ⟨hcc, hff⟩ := bcell hb; have HB := Lib.hid hb; clear hb))
    rw [Exit.noGoto_ret]
    exact bodyPost_ret (v := .tuple #[.agg #[.int .i64 0, .int .i64 0, .slice none 0 0], .int .i64 100]) (by simp [results, Try.results108, go_sem]) rfl ⟨rfl, by repeat (first | exact Below.refl _ _ | apply bel_alloc)⟩
  | true =>
    obtain rfl : k = 0 := by simpa using h1
    cases h2 : (n == 0) with
    | false =>
      have g2 : (n != 0) = true := by simpa using h2
      clear h hF
      go_enter Try.func108, Try.ntmps108
      go_wp2
      go_step3
      go_wp2_with (first | (go_at_call 117; (with_reducible refine (isAlign_c _ _).mono ?_); rintro e w' ⟨rfl, rfl⟩; rw [HA.out]) | (go_at_call 118; refine (named_c A2 c2 l _ hc hm (hF.below (by repeat (first | exact Below.refl _ _ | apply bel_alloc)))).mono ?_; rintro e w' ⟨rfl, hb⟩; rw [HN.out]; obtain ⟨hcc, hff⟩ := bcell hb; have HB := Lib.hid hb; clear hb))
      rw [Exit.noGoto_ret]
      exact bodyPost_ret (v := .tuple #[.agg #[.int .i64 0, .int .i64 0, .slice none 0 0], .int .i64 100]) (by simp [results, Try.results108, go_sem]) rfl ⟨rfl, by repeat (first | exact Below.refl _ _ | apply bel_alloc)⟩
    | true =>
      obtain rfl : n = 0 := by simpa using h2
      by_cases h3 : n1 = 0
      · cases h4 : isAlignS al with
        | false =>
          have HA := Lib.hid h4
          clear h hF h4
          subst h3
          go_enter Try.func108, Try.ntmps108
          go_wp2
          go_step3
          go_wp2_with (first | (go_at_call 117; (with_reducible refine (isAlign_c _ _).mono ?_); rintro e w' ⟨rfl, rfl⟩; rw [HA.out]) | (go_at_call 118; refine (named_c A2 c2 l _ hc hm (hF.below (by repeat (first | exact Below.refl _ _ | apply bel_alloc)))).mono ?_; rintro e w' ⟨rfl, hb⟩; rw [HN.out]; obtain ⟨hcc, hff⟩ := bcell hb; have HB := Lib.hid hb; clear hb))
          rw [Exit.noGoto_ret]
          exact bodyPost_ret (v := .tuple #[.agg #[.int .i64 0, .int .i64 0, .slice none 0 0], .int .i64 100]) (by simp [results, Try.results108, go_sem]) rfl ⟨rfl, by repeat (first | exact Below.refl _ _ | apply bel_alloc)⟩
        | true =>
          have HA := Lib.hid h4
          have HN := Lib.hid (show namedS (l.map Fld.nm) = false by rw [h4, decide_eq_true h3] at h; simpa using h)
          clear h h4
          subst h3
          go_enter Try.func108, Try.ntmps108
          go_wp2
          go_step3
          go_wp2_with (first | (go_at_call 117; (with_reducible refine (isAlign_c _ _).mono ?_); rintro e w' ⟨rfl, rfl⟩; rw [HA.out]) | (go_at_call 118; refine (named_c A2 c2 l _ hc hm (hF.below (by repeat (first | exact Below.refl _ _ | apply bel_alloc)))).mono ?_; rintro e w' ⟨rfl, hb⟩; rw [HN.out]; obtain ⟨hcc, hff⟩ := bcell hb; have HB := Lib.hid hb; clear hb))
          rw [Exit.noGoto_ret]
          exact bodyPost_ret (v := .tuple #[.agg #[.int .i64 0, .int .i64 0, .slice none 0 0], .int .i64 100]) (by simp [results, Try.results108, go_sem, hcc]) rfl ⟨rfl, by repeat (first | exact bel_then (by repeat (first | exact Below.refl _ _ | apply bel_alloc)) HB.out | (refine bel_set ?_ (by simp; try omega) _) | apply bel_alloc)⟩
      · have h3' : 0 < n1 := by omega
        clear h hF
        go_enter Try.func108, Try.ntmps108
        go_wp2
        go_step3
        go_wp2_with (first | (go_at_call 117; (with_reducible refine (isAlign_c _ _).mono ?_); rintro e w' ⟨rfl, rfl⟩; rw [HA.out]) | (go_at_call 118; refine (named_c A2 c2 l _ hc hm (hF.below (by repeat (first | exact Below.refl _ _ | apply bel_alloc)))).mono ?_; rintro e w' ⟨rfl, hb⟩; rw [HN.out]; obtain ⟨hcc, hff⟩ := bcell hb; have HB := Lib.hid hb; clear hb))
        rw [Exit.noGoto_ret]
        exact bodyPost_ret (v := .tuple #[.agg #[.int .i64 0, .int .i64 0, .slice none 0 0], .int .i64 100]) (by simp [results, Try.results108, go_sem]) rfl ⟨rfl, by repeat (first | exact Below.refl _ _ | apply bel_alloc)⟩
end Go.Proofs.Ytcggghamnmflcaa
namespace Go.Proofs.Ytcggghamnmflcaa
open Go Go.RowKit
def upW (v n : Int) : Int := wrap64 (wrap64 ((wrap64 (wrap64 (v + n) - 1)).tdiv n) * n)
theorem up_t (v n : Int) (w : World) (h2 : 1 ≤ n) (h3 : n ≤ 1000000000000) : Calls Try.prog 122 #[.int .i64 v, .int .i64 n] w fun e w' => e = .returned (.int .i64 (upW v n)) ∧ w = w' := by
  go_enter Try.func122, Try.ntmps122
  go_wp2
  go_ret
  exact ⟨rfl, rfl⟩
theorem upW_is {v n : Int} (h0 : 0 ≤ v) (h1 : v ≤ 1000000000000) (h2 : 1 ≤ n) (h3 : n ≤ 1000000000000) : upW v n = upS v n := by
  have hr := upS_rng (v := v) h2
  have hq : 0 ≤ (v + n - 1) / n := Int.ediv_nonneg (by omega) (by omega)
  have hq2 : (v + n - 1) / n ≤ v + n - 1 := Int.ediv_le_self _ (by omega)
  unfold upW
  rw [wrap64_is (v := v + n) (by unfold I64; omega), wrap64_is (v := v + n - 1) (by unfold I64; omega), Int.tdiv_eq_ediv_of_nonneg (by omega), wrap64_is (v := (v + n - 1) / n) (by unfold I64; omega)]
  exact wrap64_is (by unfold upS at hr; unfold I64; omega)
def nextW (pk : Bool) (bits size align at_ : Int) : Int :=
  if bits < 0 then (if pk then upW at_ 8 else upW at_ (8 * align))
  else if bits = 0 then upW at_ (8 * size)
  else if pk = false ∧ 8 * size < wrap64 (at_.tmod (8 * size) + bits) then upW at_ (8 * size) else at_
theorem nextW_is {pk : Bool} {bits sz ag at_ : Int} (h0 : 0 ≤ at_) (h1 : at_ ≤ 1000000000) (h2 : 1 ≤ sz) (h3 : sz ≤ 65536) (h4 : 1 ≤ ag) (h5 : ag ≤ 64) (h6 : bits ≤ 8 * sz) : nextW pk bits sz ag at_ = nextS pk bits sz ag at_ := by
  unfold nextW nextS
  rw [upW_is h0 (by omega) (by omega) (by omega), upW_is h0 (by omega) (by omega) (by omega), upW_is h0 (by omega) (by omega) (by omega)]
  by_cases hb : bits < 0
  · rw [if_pos hb, if_pos hb]
  · rw [if_neg hb, if_neg hb]
    by_cases hz : bits = 0
    · rw [if_pos hz, if_pos hz]
    · rw [if_neg hz, if_neg hz]
      have r0 := Int.emod_nonneg at_ (show 8 * sz ≠ 0 by omega)
      have r1 := Int.emod_lt_of_pos at_ (show 0 < 8 * sz by omega)
      have hi := unit_iff (a := at_) (show 0 < 8 * sz by omega) (show 1 ≤ bits by omega) h6
      rw [Int.tmod_eq_emod_of_nonneg h0, wrap64_is (by unfold I64; omega)]
      simp only [hi]
theorem upW_I64 (v n : Int) : I64 (upW v n) := wrap64_I64 _
theorem nextW_I64 (pk : Bool) (bits sz ag at_ : Int) (h : I64 at_) : I64 (nextW pk bits sz ag at_) := by
  unfold nextW
  repeat' split
  all_goals first | exact upW_I64 _ _ | exact h
theorem begins_t (nm : ByteArray) (sh k n al bits : Int) (A1 A2 : Option Addr) (n1 n2 c1 c2 : Nat) (pk : Bool) (sz ag : Int) (S : Option Addr) (sn sc : Nat) (up : Bool) (at_ : Int) (w : World) (h2 : 1 ≤ sz) (h3 : sz ≤ 65536) (h4 : 1 ≤ ag) (h5 : ag ≤ 64) :
    Calls Try.prog 121 #[.agg #[.string nm, .int .i64 sh, .int .i64 k, .int .i64 n, .slice A1 n1 c1, .slice A2 n2 c2, .bool pk, .int .i64 al, .int .i64 bits], .agg #[.int .i64 sz, .int .i64 ag, .slice S sn sc], .bool up, .int .i64 at_] w fun e w' => e = .returned (.int .i64 (nextW up bits sz ag at_)) ∧ Below w.heap.size w w' := by
  by_cases hb : bits < 0
  · cases up with
    | true =>
      have H := Lib.hid (show nextW true bits sz ag at_ = upW at_ 8 by unfold nextW; rw [if_pos hb]; rfl)
      go_enter Try.func121, Try.ntmps121
      go_wp2_with (go_at_call 122; refine (up_t _ _ _ (by omega) (by omega)).mono ?_; rintro e w' ⟨rfl, rfl⟩)
      go_ret
      exact ⟨by rw [H.out]; rfl, by (repeat (first | exact Below.refl _ _ | apply bel_drewN | apply bel_alloc))⟩
    | false =>
      have H := Lib.hid (show nextW false bits sz ag at_ = upW at_ (8 * ag) by unfold nextW; rw [if_pos hb]; rfl)
      go_enter Try.func121, Try.ntmps121
      go_wp2_with (go_at_call 122; refine (up_t _ _ _ (by omega) (by omega)).mono ?_; rintro e w' ⟨rfl, rfl⟩)
      go_ret
      exact ⟨by rw [H.out]; rfl, by (repeat (first | exact Below.refl _ _ | apply bel_drewN | apply bel_alloc))⟩
  · by_cases hz : bits = 0
    · subst hz
      have H := Lib.hid (show nextW up 0 sz ag at_ = upW at_ (8 * sz) by unfold nextW; rfl)
      go_enter Try.func121, Try.ntmps121
      go_wp2_with (go_at_call 122; refine (up_t _ _ _ (by omega) (by omega)).mono ?_; rintro e w' ⟨rfl, rfl⟩)
      go_ret
      exact ⟨by rw [H.out]; rfl, by (repeat (first | exact Below.refl _ _ | apply bel_drewN | apply bel_alloc))⟩
    · have gz : (bits == 0) = false := by simpa using hz
      cases up with
      | true =>
        have H := Lib.hid (show nextW true bits sz ag at_ = at_ by unfold nextW; rw [if_neg hb, if_neg hz, if_neg (by simp)])
        clear hz
        go_enter Try.func121, Try.ntmps121
        go_wp2_with (go_at_call 122; refine (up_t _ _ _ (by omega) (by omega)).mono ?_; rintro e w' ⟨rfl, rfl⟩)
        go_quiet (fail)
        go_wp2_with (go_at_call 122; refine (up_t _ _ _ (by omega) (by omega)).mono ?_; rintro e w' ⟨rfl, rfl⟩)
        go_ret
        exact ⟨by rw [H.out]; rfl, by (repeat (first | exact Below.refl _ _ | apply bel_drewN | apply bel_alloc))⟩
      | false =>
        by_cases hc : 8 * sz < wrap64 (at_.tmod (8 * sz) + bits)
        · have H := Lib.hid (show nextW false bits sz ag at_ = upW at_ (8 * sz) by unfold nextW; rw [if_neg hb, if_neg hz, if_pos ⟨rfl, hc⟩])
          have dc : decide (8 * sz < wrap64 (at_.tmod (8 * sz) + bits)) = true := decide_eq_true hc
          clear hz
          go_enter Try.func121, Try.ntmps121
          go_wp2_with (go_at_call 122; refine (up_t _ _ _ (by omega) (by omega)).mono ?_; rintro e w' ⟨rfl, rfl⟩)
          go_quiet (fail)
          go_wp2_with (go_at_call 122; refine (up_t _ _ _ (by omega) (by omega)).mono ?_; rintro e w' ⟨rfl, rfl⟩)
          go_ret
          exact ⟨by rw [H.out]; rfl, by (repeat (first | exact Below.refl _ _ | apply bel_drewN | apply bel_alloc))⟩
        · have H := Lib.hid (show nextW false bits sz ag at_ = at_ by unfold nextW; rw [if_neg hb, if_neg hz, if_neg (fun h => hc h.2)])
          have dc : decide (8 * sz < wrap64 (at_.tmod (8 * sz) + bits)) = false := decide_eq_false hc
          clear hz
          go_enter Try.func121, Try.ntmps121
          go_wp2_with (go_at_call 122; refine (up_t _ _ _ (by omega) (by omega)).mono ?_; rintro e w' ⟨rfl, rfl⟩)
          go_quiet (fail)
          go_wp2_with (go_at_call 122; refine (up_t _ _ _ (by omega) (by omega)).mono ?_; rintro e w' ⟨rfl, rfl⟩)
          go_ret
          exact ⟨by rw [H.out]; rfl, by (repeat (first | exact Below.refl _ _ | apply bel_drewN | apply bel_alloc))⟩

end Go.Proofs.Ytcggghamnmflcaa
namespace Go.Proofs.Ytcggghamnmflcaa
open Go Go.RowKit
def laterS (d : Nat) (l : List (Fld (Tp d))) (deep : Int) : Int := if (l.all fun f => fldE d f deep != 100) = true then 101 else 100
theorem later_no {d : Nat} {l : List (Fld (Tp d))} {deep : Int} {k : Nat} {f : Fld (Tp d)} (hf : l[k]? = some f) (h : fldE d f deep = 100) : laterS d l deep = 100 := by
  unfold laterS
  rw [if_neg]
  intro ha
  have := List.all_eq_true.1 ha f (List.mem_of_getElem? hf)
  rw [h] at this
  cases this
theorem take_all_snoc {d : Nat} {l : List (Fld (Tp d))} {deep : Int} {k : Nat} {f : Fld (Tp d)} (hf : l[k]? = some f) (h : ((l.take k).all fun f => fldE d f deep != 100) = true) (h2 : (fldE d f deep != 100) = true) : ((l.take (k + 1)).all fun f => fldE d f deep != 100) = true := by
  rw [take_snoc_of hf, List.all_append, h]
  simpa using h2
set_option maxRecDepth 100000 in
set_option maxHeartbeats 2000000 in
theorem later_c (deep : Int) (hL : LieC deep) {d : Nat} (A : Option Addr) (c : Nat) (l : List (Fld (Tp d))) (w : World) (hF : FdsAt w d A l) (hc : l.length ≤ c) (hm : c ≤ 9223372036854775807) :
    Calls Try.prog 120 #[.slice A l.length c, .int .i64 deep] w fun e w' => e = .returned (.int .i64 (laterS d l deep)) ∧ Below w.heap.size w w' := by
  have hlen : l.length ≤ 9223372036854775807 := by omega
  go_enter Try.func120, Try.ntmps120
  go_wp2
  go_loopw [11] (fun i wr => ∃ k : Nat, k ≤ l.length ∧ i = .int .i64 k ∧ ((l.take k).all fun f => fldE d f deep != 100) = true ∧ Below w.heap.size w wr)
    (fun i _ => l.length - (intOf i).toNat)
  case atStart => exact ⟨0, Nat.zero_le _, rfl, rfl, Below.refl _ _⟩
  case round =>
    obtain ⟨k, hk, rfl, hp, hB⟩ := hrel
    have HP := Lib.hid hp
    clear hp
    by_cases hlt : k < l.length
    · obtain ⟨f, hf⟩ : ∃ f, l[k]? = some f := ⟨_, List.getElem?_eq_getElem hlt⟩
      obtain ⟨b, o, nn, A1, A2, n1, n2, c1, c2, pk, al, hA, hbt, hnm, hty, q0, q1, q2, q3, q4, q5, q6, q7, q8⟩ := (hF.below hB).at_ hf
      subst hA
      have HF := Lib.hid hf
      clear hf
      go_wp2_with fail
      refine (hL d f.t _ _ _ _ _ _ _ _ (hty.below (bel_alloc (Below.refl _ _) _))).mono ?_
      rintro e w1 ⟨x, rfl, hxe, hxb, hb1⟩
      have p0 : w1.cell? ⟨wr.heap.size, 0, none⟩ = some (.string f.nm) := bel_cell hb1 (cell_new _ _ _ 0 _ rfl)
      have p1 : w1.cell? ⟨wr.heap.size, 1, none⟩ = some (.int .i64 (tsh d f.t)) := bel_cell hb1 (cell_new _ _ _ 1 _ rfl)
      have p2 : w1.cell? ⟨wr.heap.size, 2, none⟩ = some (.int .i64 (tk d f.t)) := bel_cell hb1 (cell_new _ _ _ 2 _ rfl)
      have p3 : w1.cell? ⟨wr.heap.size, 3, none⟩ = some (.int .i64 nn) := bel_cell hb1 (cell_new _ _ _ 3 _ rfl)
      have p4 : w1.cell? ⟨wr.heap.size, 4, none⟩ = some (.slice A1 n1 c1) := bel_cell hb1 (cell_new _ _ _ 4 _ rfl)
      have p5 : w1.cell? ⟨wr.heap.size, 5, none⟩ = some (.slice A2 n2 c2) := bel_cell hb1 (cell_new _ _ _ 5 _ rfl)
      have p6 : w1.cell? ⟨wr.heap.size, 6, none⟩ = some (.bool pk) := bel_cell hb1 (cell_new _ _ _ 6 _ rfl)
      have p7 : w1.cell? ⟨wr.heap.size, 7, none⟩ = some (.int .i64 al) := bel_cell hb1 (cell_new _ _ _ 7 _ rfl)
      have p8 : w1.cell? ⟨wr.heap.size, 8, none⟩ = some (.int .i64 f.bits) := bel_cell hb1 (cell_new _ _ _ 8 _ rfl)
      have hs1 : wr.heap.size + 1 ≤ w1.heap.size := by have := hb1.size; simpa using this
      have hs2 : wr.heap.size < w1.heap.size := by omega
      obtain ⟨xsz, xag, xA, xn, xc, xer, xok⟩ := x
      have HE := Lib.hid hxe
      clear hxe hxb
      rcases xok with ⟨rfl, k1, k2, k3, k4⟩ | rfl | rfl
      · go_wp2_with fail
        refine (isField_c f.nm (tsh d f.t) (tk d f.t) nn al f.bits A1 A2 n1 n2 c1 c2 pk _).mono ?_
        rintro e w2 ⟨rfl, hb2⟩
        have hB2 : Below wr.heap.size wr w2 := bel_then (bel_alloc (bel_then (bel_alloc (Below.refl _ _) _) hb1) _) hb2
        clear p0 p1 p2 p3 p4 p5 p6 p7 p8 q0 q1 q2 q3 q4 q5 q6 q7 q8 hb1 hb2
        cases hfd : isFieldS f.nm (tsh d f.t) (tk d f.t) f.bits with
        | true =>
          have HFD := Lib.hid hfd
          clear hfd
          go_wp2_with fail
          go_roundw
          case rel => exact ⟨k + 1, by omega, by go_num, take_all_snoc HF.out HP.out (by unfold fldE; rw [if_pos HFD.out, ← HE.out]; decide), bel_then hB hB2⟩
          case measure => simp [intOf]; omega
        | false =>
          have HFD := Lib.hid hfd
          clear hfd
          go_wp2_with fail
          go_ret
          exact ⟨by rw [later_no (HF.out) (by unfold fldE; rw [HFD.out]; rfl)]; rfl, bel_then hB hB2⟩
      · go_wp2_with fail
        go_ret
        exact ⟨by rw [later_no (HF.out) (fldE_100 HE.out).symm]; rfl, bel_then hB (bel_alloc (bel_then (bel_alloc (Below.refl _ _) _) hb1) _)⟩
      · go_wp2_with fail
        refine (isField_c f.nm (tsh d f.t) (tk d f.t) nn al f.bits A1 A2 n1 n2 c1 c2 pk _).mono ?_
        rintro e w2 ⟨rfl, hb2⟩
        have hB2 : Below wr.heap.size wr w2 := bel_then (bel_alloc (bel_then (bel_alloc (Below.refl _ _) _) hb1) _) hb2
        clear p0 p1 p2 p3 p4 p5 p6 p7 p8 q0 q1 q2 q3 q4 q5 q6 q7 q8 hb1 hb2
        cases hfd : isFieldS f.nm (tsh d f.t) (tk d f.t) f.bits with
        | true =>
          have HFD := Lib.hid hfd
          clear hfd
          go_wp2_with fail
          go_roundw
          case rel => exact ⟨k + 1, by omega, by go_num, take_all_snoc HF.out HP.out (by unfold fldE; rw [if_pos HFD.out, ← HE.out]; decide), bel_then hB hB2⟩
          case measure => simp [intOf]; omega
        | false =>
          have HFD := Lib.hid hfd
          clear hfd
          go_wp2_with fail
          go_ret
          exact ⟨by rw [later_no (HF.out) (by unfold fldE; rw [HFD.out]; rfl)]; rfl, bel_then hB hB2⟩
    · have hge : l.length ≤ k := by omega
      have hkl : k = l.length := by omega
      have HK := Lib.hid hkl
      clear hkl
      go_wp2
      go_ret
      exact ⟨by unfold laterS; rw [if_pos (by have := HP.out; rwa [HK.out, List.take_length] at this)]; rfl, hB⟩
end Go.Proofs.Ytcggghamnmflcaa
namespace Go.Proofs.Ytcggghamnmflcaa
open Go Go.RowKit
/-- Block g is just these cells, none frozen. -/
def Bk (w : World) (g : Nat) (t : TypeId) (cs : Array Value) : Prop := w.heap[g]? = some (.cells cs t (0, 0))
section
variable {w w' : World} {g : Nat} {t : TypeId} {cs : Array Value}
theorem Bk.lt (h : Bk w g t cs) : g < w.heap.size := (Array.getElem?_eq_some_iff.1 h).1
theorem Bk.cell (h : Bk w g t cs) (i : Nat) : w.cell? ⟨g, i, none⟩ = cs[i]? := cell_of_row w g i cs t (0, 0) h
theorem Bk.at_ (h : Bk w g t cs) {i : Nat} {v : Value} (hv : cs[i]? = some v) : w.cell? ⟨g, i, none⟩ = some v := (h.cell i).trans hv
theorem Bk.frozen (h : Bk w g t cs) (i : Nat) : w.frozen? ⟨g, i, none⟩ = false := by
  unfold Bk at h
  simp [World.frozen?, h]
theorem Bk.new (w : World) (t : TypeId) (cs : Array Value) : Bk (w.alloc (.cells cs t)) w.heap.size t cs := heap_alloc_new w _
theorem Bk.alloc (h : Bk w g t cs) (o : Obj) : Bk (w.alloc o) g t cs := (Below.heap_alloc w o g h.lt).trans h
theorem Bk.set_ (h : Bk w g t cs) (i : Nat) (u : Value) : Bk (w.setCell ⟨g, i, none⟩ u) g t (cs.setIfInBounds i u) := by
  unfold Bk at h ⊢
  simp [World.setCell, Array.getElem?_modify, h]
theorem Bk.far (h : Bk w g t cs) {p : Addr} (hp : g ≠ p.block) (u : Value) : Bk (w.setCell p u) g t cs := (Below.heap_setCell w p u g hp).trans h
theorem Bk.below {B : Nat} (h : Bk w g t cs) (hb : Below B w w') (hg : g < B) : Bk w' g t cs := (hb.block g hg).trans h
theorem Bk.grown {row : Option Nat} (h : Bk w g t cs) (hb : w.grownBy w' row) (hg : some g ≠ row) : Bk w' g t cs := (hb.block g h.lt hg).trans h
/-- It abides the loop's own book-keeping. -/
theorem Bk.kept {row : Option Nat} (h : Bk w g t cs) (hb : w.grownBy w' row) (hr : ∀ r, row = some r → ∃ o : Obj, w.heap[r]? = some o ∧ o.isCells = false) : Bk w' g t cs :=
  h.grown hb fun e => by
    obtain ⟨o, ho, hc⟩ := hr g e.symm
    rw [show w.heap[g]? = _ from h] at ho
    cases ho
    cases hc
end
end Go.Proofs.Ytcggghamnmflcaa

/- The plain numbers of kinds: size, sign, the value made, the kind in which two are reckoned. -/
import Derived.WalkKit
import Derived.Laws.BitsLemmas
namespace Go.Proofs.Ytcggghamnmflcaa
open Go Go.RowKit
def I64 (v : Int) : Prop := -9223372036854775808 ≤ v ∧ v ≤ 9223372036854775807
def isK (k : Int) : Bool := decide (1 ≤ k) && decide (k ≤ 8)
def ksize (k : Int) : Int := if k = 1 then 1 else if k = 2 then 1 else if k = 3 then 2 else if k = 4 then 2 else if k = 5 then 4 else if k = 6 then 4 else if k = 7 then 8 else if k = 8 then 8 else 0
def kuns (k : Int) : Bool := k == 2 || k == 4 || k == 6 || k == 8
theorem isK_cases {k : Int} (h : isK k = true) : k = 1 ∨ k = 2 ∨ k = 3 ∨ k = 4 ∨ k = 5 ∨ k = 6 ∨ k = 7 ∨ k = 8 := by
  simp [isK] at h; omega
theorem isK_no {k : Int} (h : isK k = false) : ¬ (1 ≤ k ∧ k ≤ 8) := by simp [isK] at h; omega
theorem isK_false {k : Int} (h : isK k = false) : ksize k = 0 ∧ kuns k = false := by
  have h' := isK_no h
  unfold ksize kuns
  constructor
  · repeat (rw [if_neg (by omega)])
  · simp; omega
theorem isK_ne {k : Int} (h : isK k = false) : (k == 1) = false ∧ (k == 2) = false ∧ (k == 3) = false ∧ (k == 4) = false ∧ (k == 5) = false ∧ (k == 6) = false ∧ (k == 7) = false ∧ (k == 8) = false := by
  have h' := isK_no h
  simp; omega
theorem ksize_vals (k : Int) : ksize k = 0 ∨ ksize k = 1 ∨ ksize k = 2 ∨ ksize k = 4 ∨ ksize k = 8 := by
  unfold ksize
  repeat' split
  all_goals simp
theorem ksize_pos {k : Int} (h : isK k = true) : 1 ≤ ksize k ∧ ksize k ≤ 8 := by
  rcases isK_cases h with rfl | rfl | rfl | rfl | rfl | rfl | rfl | rfl <;> decide
def kerr (k : Int) : Int := if isK k = true then 0 else 80
def kto (v k : Int) : Int := if k = 1 then IntKind.i8.wrap v else if k = 2 then IntKind.u8.wrap v else if k = 3 then IntKind.i16.wrap v else if k = 4 then IntKind.u16.wrap v else if k = 5 then IntKind.i32.wrap v else if k = 6 then IntKind.u32.wrap v else if k = 7 then v else if k = 8 then v else 0
theorem kto_no (v : Int) {k : Int} (h : isK k = false) : kto v k = 0 ∧ kerr k = 80 := by
  have h' := isK_no h
  unfold kto kerr
  constructor
  · repeat (rw [if_neg (by omega)])
  · rw [h]; rfl
theorem kerr_yes {k : Int} (h : isK k = true) : kerr k = 0 := by unfold kerr; rw [if_pos h]
def kprom (k : Int) : Int := if isK k = true then (if k < 5 then 5 else k) else 0
theorem kprom_yes {k : Int} (h : isK k = true) : kprom k = (if k < 5 then 5 else k) := by unfold kprom; rw [if_pos h]
theorem kprom_no {k : Int} (h : isK k = false) : kprom k = 0 ∧ kerr k = 80 := by unfold kprom kerr; rw [h]; exact ⟨rfl, rfl⟩
theorem kprom_vals {k : Int} (h : isK k = true) : kprom k = 5 ∨ kprom k = 6 ∨ kprom k = 7 ∨ kprom k = 8 := by
  rcases isK_cases h with rfl | rfl | rfl | rfl | rfl | rfl | rfl | rfl <;> decide
def kusl (a b : Int) : Int := if isK a = true then (if isK b = true then max (kprom a) (kprom b) else 0) else 0
def kusle (a b : Int) : Int := if isK a = true then (if isK b = true then 0 else 80) else 80

/-! wraps in omega's words -/
theorem wrapI8 (v : Int) : IntKind.i8.wrap v = (v + 128) % 256 - 128 := by
  simp [IntKind.wrap, IntKind.bits, IntKind.signed]; omega
theorem wrapU8 (v : Int) : IntKind.u8.wrap v = v % 256 := by
  simp [IntKind.wrap, IntKind.bits, IntKind.signed]
theorem wrapI16 (v : Int) : IntKind.i16.wrap v = (v + 32768) % 65536 - 32768 := by
  simp [IntKind.wrap, IntKind.bits, IntKind.signed]; omega
theorem wrapU16 (v : Int) : IntKind.u16.wrap v = v % 65536 := by
  simp [IntKind.wrap, IntKind.bits, IntKind.signed]
theorem wrapI32 (v : Int) : IntKind.i32.wrap v = (v + 2147483648) % 4294967296 - 2147483648 := by
  simp [IntKind.wrap, IntKind.bits, IntKind.signed]; omega
theorem wrapU32 (v : Int) : IntKind.u32.wrap v = v % 4294967296 := by
  simp [IntKind.wrap, IntKind.bits, IntKind.signed]
theorem wrapU64 (v : Int) : IntKind.u64.wrap v = v % 18446744073709551616 := by
  simp [IntKind.wrap, IntKind.bits, IntKind.signed]
theorem wrapI64 (v : Int) : IntKind.i64.wrap v = (v + 9223372036854775808) % 18446744073709551616 - 9223372036854775808 := by
  simp [IntKind.wrap, IntKind.bits, IntKind.signed]; omega
theorem wrap64_is {v : Int} (h : I64 v) : wrap64 v = v := by
  unfold I64 at h; unfold wrap64; omega
theorem wrap64_I64 (v : Int) : I64 (wrap64 v) := by unfold I64 wrap64; omega
theorem sh1 (v : Int) : wrap64 (v * 72057594037927936) / 72057594037927936 = kto v 1 := by
  simp only [kto, if_true, wrapI8, wrap64]; omega
theorem sh2 (v : Int) : wrap64 (IntKind.u64.wrap (IntKind.u64.wrap v * 72057594037927936) / 72057594037927936) = kto v 2 := by
  simp only [kto, Int.reduceEq, if_true, if_false, wrapU8, wrapU64, wrap64]; omega
theorem sh3 (v : Int) : wrap64 (v * 281474976710656) / 281474976710656 = kto v 3 := by
  simp only [kto, Int.reduceEq, if_true, if_false, wrapI16, wrap64]; omega
theorem sh4 (v : Int) : wrap64 (IntKind.u64.wrap (IntKind.u64.wrap v * 281474976710656) / 281474976710656) = kto v 4 := by
  simp only [kto, Int.reduceEq, if_true, if_false, wrapU16, wrapU64, wrap64]; omega
theorem sh5 (v : Int) : wrap64 (v * 4294967296) / 4294967296 = kto v 5 := by
  simp only [kto, Int.reduceEq, if_true, if_false, wrapI32, wrap64]; omega
theorem sh6 (v : Int) : wrap64 (IntKind.u64.wrap (IntKind.u64.wrap v * 4294967296) / 4294967296) = kto v 6 := by
  simp only [kto, Int.reduceEq, if_true, if_false, wrapU32, wrapU64, wrap64]; omega
theorem sh7 {v : Int} (h : I64 v) : wrap64 v = kto v 7 := by
  simp only [kto, Int.reduceEq, if_true, if_false]; exact wrap64_is h
theorem sh8 {v : Int} (h : I64 v) : wrap64 (IntKind.u64.wrap (IntKind.u64.wrap v)) = kto v 8 := by
  unfold I64 at h
  simp only [kto, Int.reduceEq, if_true, if_false, wrapU64, wrap64]; omega
theorem kto_I64 {v : Int} (h : I64 v) (k : Int) : I64 (kto v k) := by
  unfold kto
  repeat' split
  all_goals first | exact h | (simp only [I64, wrapI8, wrapU8, wrapI16, wrapU16, wrapI32, wrapU32] at h ⊢; omega)
theorem k5 (v : Int) : wrap64 (wrap32 v) = kto v 5 := by
  simp only [kto, Int.reduceEq, if_true, if_false, wrapI32]; unfold wrap64 wrap32; omega
theorem usl_no {a b : Int} (h : (isK a && isK b) = false) : (kusl a b = 0 ∧ kusle a b = 80) ∧ (kusl b a = 0 ∧ kusle b a = 80) := by
  unfold kusl kusle
  cases ha : isK a <;> cases hb : isK b <;> rw [ha, hb] at h <;> simp at h ⊢
theorem usl_yes {a b : Int} (h : (isK a && isK b) = true) : ∃ x, (kusl a b = x ∧ kusle a b = 0) ∧ (kusl b a = x ∧ kusle b a = 0) ∧ isK x = true ∧ kprom x = x ∧ ksize a ≤ ksize x ∧ ksize b ≤ ksize x := by
  rw [Bool.and_eq_true] at h
  rcases isK_cases h.1 with rfl | rfl | rfl | rfl | rfl | rfl | rfl | rfl <;> rcases isK_cases h.2 with rfl | rfl | rfl | rfl | rfl | rfl | rfl | rfl <;> exact ⟨_, ⟨rfl, rfl⟩, ⟨rfl, rfl⟩, by decide, by decide, by decide, by decide⟩
theorem kto_kto {v a b : Int} (ha : isK a = true) (hb : isK b = true) (h : ksize b ≤ ksize a) : kto (kto v a) b = kto v b := by
  rcases isK_cases ha with rfl | rfl | rfl | rfl | rfl | rfl | rfl | rfl <;> rcases isK_cases hb with rfl | rfl | rfl | rfl | rfl | rfl | rfl | rfl <;> first | (exfalso; revert h; decide) | (simp only [kto, Int.reduceEq, if_true, if_false, wrapI8, wrapU8, wrapI16, wrapU16, wrapI32, wrapU32]; omega) | (simp only [kto, Int.reduceEq, if_true, if_false, wrapI8, wrapU8, wrapI16, wrapU16, wrapI32, wrapU32])
theorem sl1 (v : Int) : (IntKind.u64.wrap (IntKind.u64.wrap v * 72057594037927936) == IntKind.u64.wrap (IntKind.u64.wrap (kto v 1) * 72057594037927936)) = true := by
  rw [beq_iff_eq]; simp only [kto, Int.reduceEq, if_true, if_false, wrapU64, wrapI8]; omega
theorem sl2 (v : Int) : (IntKind.u64.wrap (IntKind.u64.wrap v * 72057594037927936) == IntKind.u64.wrap (IntKind.u64.wrap (kto v 2) * 72057594037927936)) = true := by
  rw [beq_iff_eq]; simp only [kto, Int.reduceEq, if_true, if_false, wrapU64, wrapU8]; omega
theorem sl3 (v : Int) : (IntKind.u64.wrap (IntKind.u64.wrap v * 281474976710656) == IntKind.u64.wrap (IntKind.u64.wrap (kto v 3) * 281474976710656)) = true := by
  rw [beq_iff_eq]; simp only [kto, Int.reduceEq, if_true, if_false, wrapU64, wrapI16]; omega
theorem sl4 (v : Int) : (IntKind.u64.wrap (IntKind.u64.wrap v * 281474976710656) == IntKind.u64.wrap (IntKind.u64.wrap (kto v 4) * 281474976710656)) = true := by
  rw [beq_iff_eq]; simp only [kto, Int.reduceEq, if_true, if_false, wrapU64, wrapU16]; omega
theorem sl5 (v : Int) : (IntKind.u64.wrap (IntKind.u64.wrap v * 4294967296) == IntKind.u64.wrap (IntKind.u64.wrap (kto v 5) * 4294967296)) = true := by
  rw [beq_iff_eq]; simp only [kto, Int.reduceEq, if_true, if_false, wrapU64, wrapI32]; omega
theorem sl6 (v : Int) : (IntKind.u64.wrap (IntKind.u64.wrap v * 4294967296) == IntKind.u64.wrap (IntKind.u64.wrap (kto v 6) * 4294967296)) = true := by
  rw [beq_iff_eq]; simp only [kto, Int.reduceEq, if_true, if_false, wrapU64, wrapU32]; omega
theorem kto_ge (v k : Int) (h : k = 2 ∨ k = 4 ∨ k = 6) : 0 ≤ kto v k := by
  rcases h with rfl | rfl | rfl <;> simp only [kto, Int.reduceEq, if_true, if_false, wrapU8, wrapU16, wrapU32] <;> omega
end Go.Proofs.Ytcggghamnmflcaa

/- Plain numbers: what the two counts of words come to are the same; no program. -/
import Derived.Test.YtcggghamnmflcaaOfe
namespace Go.Proofs.Ytcggghamnmflcaa
open Go Go.RowKit
theorem plc_0 (x : ByteArray) : (plc x == 0) = (x.toList == [99, 104, 97, 114]) := by
  cases h : x.toList == [99, 104, 97, 114] with
  | true =>
    have e := eq_of_beq h
    unfold plc
    rw [e]
    decide
  | false =>
    unfold plc
    rw [h]
    repeat' split
    all_goals first | rfl | simp_all
theorem cntS_0 (l : List ByteArray) : cntS l ⟨#[99, 104, 97, 114]⟩ = cnt (pl l) 0 := by
  unfold cntS cnt pl
  rw [List.filter_map, List.length_map]
  congr 1
  refine List.filter_congr fun x _ => ?_
  rw [show (⟨#[99, 104, 97, 114]⟩ : ByteArray).toList = [99, 104, 97, 114] by kernel_rfl]
  exact (plc_0 x).symm
theorem plc_1 (x : ByteArray) : (plc x == 1) = (x.toList == [115, 104, 111, 114, 116]) := by
  cases h : x.toList == [115, 104, 111, 114, 116] with
  | true =>
    have e := eq_of_beq h
    unfold plc
    rw [e]
    decide
  | false =>
    unfold plc
    rw [h]
    repeat' split
    all_goals first | rfl | simp_all
theorem cntS_1 (l : List ByteArray) : cntS l ⟨#[115, 104, 111, 114, 116]⟩ = cnt (pl l) 1 := by
  unfold cntS cnt pl
  rw [List.filter_map, List.length_map]
  congr 1
  refine List.filter_congr fun x _ => ?_
  rw [show (⟨#[115, 104, 111, 114, 116]⟩ : ByteArray).toList = [115, 104, 111, 114, 116] by kernel_rfl]
  exact (plc_1 x).symm
theorem plc_2 (x : ByteArray) : (plc x == 2) = (x.toList == [108, 111, 110, 103]) := by
  cases h : x.toList == [108, 111, 110, 103] with
  | true =>
    have e := eq_of_beq h
    unfold plc
    rw [e]
    decide
  | false =>
    unfold plc
    rw [h]
    repeat' split
    all_goals first | rfl | simp_all
theorem cntS_2 (l : List ByteArray) : cntS l ⟨#[108, 111, 110, 103]⟩ = cnt (pl l) 2 := by
  unfold cntS cnt pl
  rw [List.filter_map, List.length_map]
  congr 1
  refine List.filter_congr fun x _ => ?_
  rw [show (⟨#[108, 111, 110, 103]⟩ : ByteArray).toList = [108, 111, 110, 103] by kernel_rfl]
  exact (plc_2 x).symm
theorem plc_3 (x : ByteArray) : (plc x == 3) = (x.toList == [105, 110, 116]) := by
  cases h : x.toList == [105, 110, 116] with
  | true =>
    have e := eq_of_beq h
    unfold plc
    rw [e]
    decide
  | false =>
    unfold plc
    rw [h]
    repeat' split
    all_goals first | rfl | simp_all
theorem cntS_3 (l : List ByteArray) : cntS l ⟨#[105, 110, 116]⟩ = cnt (pl l) 3 := by
  unfold cntS cnt pl
  rw [List.filter_map, List.length_map]
  congr 1
  refine List.filter_congr fun x _ => ?_
  rw [show (⟨#[105, 110, 116]⟩ : ByteArray).toList = [105, 110, 116] by kernel_rfl]
  exact (plc_3 x).symm
theorem plc_4 (x : ByteArray) : (plc x == 4) = (x.toList == [115, 105, 103, 110, 101, 100]) := by
  cases h : x.toList == [115, 105, 103, 110, 101, 100] with
  | true =>
    have e := eq_of_beq h
    unfold plc
    rw [e]
    decide
  | false =>
    unfold plc
    rw [h]
    repeat' split
    all_goals first | rfl | simp_all
theorem cntS_4 (l : List ByteArray) : cntS l ⟨#[115, 105, 103, 110, 101, 100]⟩ = cnt (pl l) 4 := by
  unfold cntS cnt pl
  rw [List.filter_map, List.length_map]
  congr 1
  refine List.filter_congr fun x _ => ?_
  rw [show (⟨#[115, 105, 103, 110, 101, 100]⟩ : ByteArray).toList = [115, 105, 103, 110, 101, 100] by kernel_rfl]
  exact (plc_4 x).symm
theorem plc_5 (x : ByteArray) : (plc x == 5) = (x.toList == [117, 110, 115, 105, 103, 110, 101, 100]) := by
  cases h : x.toList == [117, 110, 115, 105, 103, 110, 101, 100] with
  | true =>
    have e := eq_of_beq h
    unfold plc
    rw [e]
    decide
  | false =>
    unfold plc
    rw [h]
    repeat' split
    all_goals first | rfl | simp_all
theorem cntS_5 (l : List ByteArray) : cntS l ⟨#[117, 110, 115, 105, 103, 110, 101, 100]⟩ = cnt (pl l) 5 := by
  unfold cntS cnt pl
  rw [List.filter_map, List.length_map]
  congr 1
  refine List.filter_congr fun x _ => ?_
  rw [show (⟨#[117, 110, 115, 105, 103, 110, 101, 100]⟩ : ByteArray).toList = [117, 110, 115, 105, 103, 110, 101, 100] by kernel_rfl]
  exact (plc_5 x).symm
end Go.Proofs.Ytcggghamnmflcaa

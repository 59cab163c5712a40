/- The contract of the reference's SameSpots. -/
import Derived.Test.YtcggghamnmflcaaSrh
import Derived.Laws.StructEq
namespace Go.Proofs.Ytcggghamnmflcaa
open Go Go.RowKit Go.Shelf
def eqB (a b c d e f : Int) : Bool := decide (a = d ∧ b = e ∧ c = f)
theorem eq48 (a b c d e f : Int) (w : World) : (Op.equalIn 10000 48 (.agg #[.int .i64 a, .int .i64 b, .int .i64 c]) (.agg #[.int .i64 d, .int .i64 e, .int .i64 f])).run Try.prog w = .ok (eqB a b c d e f) w := by
  have u3 := Try.underlying3
  have a3 := Try.isAgg3
  have z3 := Try.sizeOf3
  have u2 := Try.underlying2
  have a2 := Try.isAgg2
  have z2 := Try.sizeOf2
  have hS : Try.prog.underlying 48 = some (.struct (Try.prog.fieldsOf 48)) := by kernel_rfl
  have hp : Try.prog.stoodInHeld 48 = false := by kernel_rfl
  rw [show (10000 : Nat) = 9999 + 1 from rfl, run_equalIn_agg w 9999 48 _ _ hS hp]
  simp only [Program.fieldsOf, Try.underlying48]
  go_simp
  unfold eqB
  by_cases h1 : a = d <;> by_cases h2 : b = e <;> by_cases h3 : c = f <;> simp [h1, h2, h3]
theorem guard48 (op : BinOp) (x y : Operand) (xs ys : Array Value) (w : World) : (eqGuard op 48 x y (.agg xs) (.agg ys)).run Try.prog w = .ok () w := run_eqGuard_agg w op 48 x y xs ys (by kernel_rfl)
theorem eqB_iff (x y : Spt) : eqB x.bit x.bits x.k y.bit y.bits y.k = decide (x = y) := by
  unfold eqB
  cases x
  cases y
  simp
attribute [local go_sem ↓] eq48 guard48
theorem take_snoc_eq {α : Type} {l k : List α} {j : Nat} {x y : α} (hx : l[j]? = some x) (hy : k[j]? = some y) (h : x = y) (ht : l.take j = k.take j) : l.take (j + 1) = k.take (j + 1) := by
  rw [List.take_add_one, List.take_add_one, ht, hx, hy, h]
theorem sp_ne {l k : List Spt} {j : Nat} {x y : Spt} (hx : l[j]? = some x) (hy : k[j]? = some y) (h : eqB x.bit x.bits x.k y.bit y.bits y.k = false) : l ≠ k := by
  rintro rfl
  rw [hx] at hy
  cases hy
  rw [eqB_iff] at h
  simp at h
theorem sp_eq {x y : Spt} (h : eqB x.bit x.bits x.k y.bit y.bits y.k = true) : x = y := by
  rw [eqB_iff] at h
  simpa using h
set_option maxRecDepth 100000 in
theorem sameSpots_c (A B : Option Addr) (n m c c' : Nat) (l k : List Spt) (w : World) (hA : SptsAt w A n l) (hB : SptsAt w B m k) (hn : n ≤ 9223372036854775807) (hm : m ≤ 9223372036854775807) :
    Calls Try.prog 47 #[.slice A n c, .slice B m c'] w fun e w' => e = .returned (.bool (decide (l = k))) ∧ Below w.heap.size w w' := by
  obtain ⟨rfl, hA⟩ := hA
  obtain ⟨rfl, hB⟩ := hB
  by_cases hl : l.length = k.length
  · have HLL := Lib.hid hl
    rw [hl]
    rw [hl] at hn
    clear hl
    go_enter Try.func47, Try.ntmps47
    go_wp2
    go_loopw [5] (fun s5 wr => ∃ j : Nat, j ≤ k.length ∧ s5 = .int .i64 j ∧ l.take j = k.take j ∧ Below w.heap.size w wr) (fun i _ => k.length - (intOf i).toNat)
    case atStart => exact ⟨0, Nat.zero_le _, rfl, rfl, Below.refl _ _⟩
    case round =>
      obtain ⟨j, hj, rfl, htk, hb⟩ := hrel
      have HTK := Lib.hid htk
      clear htk
      by_cases hlt : j < k.length
      · obtain ⟨x, hx⟩ : ∃ x, l[j]? = some x := ⟨_, List.getElem?_eq_getElem (by rw [HLL.out]; exact hlt)⟩
        obtain ⟨y, hy⟩ : ∃ y, k[j]? = some y := ⟨_, List.getElem?_eq_getElem hlt⟩
        obtain ⟨b, o, rfl, a0, a1, a2⟩ := hA j x hx
        obtain ⟨b', o', rfl, e0, e1, e2⟩ := hB j y hy
        have g0 := bel_cell hb a0
        have g1 := bel_cell hb a1
        have g2 := bel_cell hb a2
        have i0 := bel_cell hb e0
        have i1 := bel_cell hb e1
        have i2 := bel_cell hb e2
        have HX := Lib.hid hx
        have HY := Lib.hid hy
        clear hx hy hA hB a0 a1 a2 e0 e1 e2
        cases hq : eqB x.bit x.bits x.k y.bit y.bits y.k with
        | true =>
          go_wp2_with fail
          go_quiet (fail)
          go_wp2_with fail
          go_roundw
          case rel => exact ⟨j + 1, by omega, by go_num, take_snoc_eq HX.out HY.out (sp_eq hq) HTK.out, bel_drewN hb _⟩
          case measure => simp [intOf]; omega
        | false =>
          have HN := Lib.hid (sp_ne HX.out HY.out hq)
          go_wp2_with fail
          go_quiet (fail)
          go_wp2_with fail
          go_ret
          exact ⟨by rw [decide_eq_false HN.out]; rfl, bel_drewN hb _⟩
      · have hkl : j = k.length := by omega
        have HE := Lib.hid (show l = k by have := HTK.out; rwa [hkl, List.take_length, ← HLL.out, List.take_length] at this)
        clear hkl
        go_wp2_with fail
        go_ret
        exact ⟨by rw [decide_eq_true HE.out]; rfl, hb⟩
  · have HN := Lib.hid (show l ≠ k from fun h => hl (congrArg _ h))
    have q1 : ((l.length : Int) != k.length) = true := by rw [bne_iff_ne]; omega
    clear hl
    go_enter Try.func47, Try.ntmps47
    go_wp2_with fail
    go_ret
    exact ⟨by rw [decide_eq_false HN.out]; rfl, Below.refl _ _⟩
end Go.Proofs.Ytcggghamnmflcaa

/- Small functions of classes: the two up, integers, SameInts and Same of places. The iterator over the eights of an argument's classes. Does an argument's word row still fit? A region that draws its order, in a round of a loop over an iterator: the law of the held condition (OrdersHeld), carried into a round. -/
import Derived.Test.YtcggghamnmflcaaCld
import Derived.Laws.StructEq
import Derived.Test.YtcggghamnmflcaaSwi
import Derived.Test.YtcggghamnmflcaaTail
import Derived.Deep.RegionHeld3
namespace Go.Proofs.Ytcggghamnmflcaa
open Go Go.RowKit Go.Shelf
/-- A place of a word. -/
structure Plw where
  arg : Int
  eight : Int
  reg : Int
  off : Int
deriving DecidableEq
def PlwsAt (w : World) (A : Option Addr) (n : Nat) (l : List Plw) : Prop :=
  n = l.length ∧ ∀ i s, l[i]? = some s → ∃ b o, A = some ⟨b, o, none⟩ ∧ w.cell? ⟨b, o + i * 4, none⟩ = some (.int .i64 s.arg) ∧ w.cell? ⟨b, o + i * 4 + 1, none⟩ = some (.int .i64 s.eight) ∧ w.cell? ⟨b, o + i * 4 + 2, none⟩ = some (.int .i64 s.reg) ∧ w.cell? ⟨b, o + i * 4 + 3, none⟩ = some (.int .i64 s.off)
theorem PlwsAt.below {w w1 : World} {A : Option Addr} {n : Nat} {l : List Plw} (h : PlwsAt w A n l) (hb : Below w.heap.size w w1) : PlwsAt w1 A n l :=
  ⟨h.1, fun i s hs => by
    obtain ⟨b, o, ha, h0, h1, h2, h3⟩ := h.2 i s hs
    exact ⟨b, o, ha, bel_cell hb h0, bel_cell hb h1, bel_cell hb h2, bel_cell hb h3⟩⟩
def eqP (a b c d e f g h : Int) : Bool := decide (a = e ∧ b = f ∧ c = g ∧ d = h)
theorem eq87 (a b c d e f g h : Int) (w : World) : (Op.equalIn 10000 87 (.agg #[.int .i64 a, .int .i64 b, .int .i64 c, .int .i64 d]) (.agg #[.int .i64 e, .int .i64 f, .int .i64 g, .int .i64 h])).run Try.prog w = .ok (eqP a b c d e f g h) w := by
  have u3 := Try.underlying3
  have a3 := Try.isAgg3
  have z3 := Try.sizeOf3
  have u2 := Try.underlying2
  have a2 := Try.isAgg2
  have z2 := Try.sizeOf2
  have hS : Try.prog.underlying 87 = some (.struct (Try.prog.fieldsOf 87)) := by kernel_rfl
  have hp : Try.prog.stoodInHeld 87 = false := by kernel_rfl
  rw [show (10000 : Nat) = 9999 + 1 from rfl, run_equalIn_agg w 9999 87 _ _ hS hp]
  simp only [Program.fieldsOf, Try.underlying87]
  go_simp
  unfold eqP
  by_cases h1 : a = e <;> by_cases h2 : b = f <;> by_cases h3 : c = g <;> by_cases h4 : d = h <;> simp [h1, h2, h3, h4]
theorem guard87 (op : BinOp) (x y : Operand) (xs ys : Array Value) (w : World) : (eqGuard op 87 x y (.agg xs) (.agg ys)).run Try.prog w = .ok () w := run_eqGuard_agg w op 87 x y xs ys (by kernel_rfl)
theorem eqP_iff (x y : Plw) : eqP x.arg x.eight x.reg x.off y.arg y.eight y.reg y.off = decide (x = y) := by
  unfold eqP
  cases x
  cases y
  simp
theorem plw_ne {l k : List Plw} {j : Nat} {x y : Plw} (hx : l[j]? = some x) (hy : k[j]? = some y) (h : eqP x.arg x.eight x.reg x.off y.arg y.eight y.reg y.off = false) : l ≠ k := by
  rintro rfl
  rw [hx] at hy
  cases hy
  rw [eqP_iff] at h
  simp at h
theorem plw_eq {x y : Plw} (h : eqP x.arg x.eight x.reg x.off y.arg y.eight y.reg y.off = true) : x = y := by
  rw [eqP_iff] at h
  simpa using h
attribute [local go_sem ↓] eq87 guard87
theorem int_ne {l k : List Int} {j : Nat} {x y : Int} (hx : l[j]? = some x) (hy : k[j]? = some y) (h : (x != y) = true) : l ≠ k := by
  rintro rfl
  rw [hx] at hy
  cases hy
  simp at h
theorem cup_c (v n : Int) (w : World) (h0 : 0 ≤ v) (h1 : v ≤ 1000000000000) (h2 : 1 ≤ n) (h3 : n ≤ 1000000000000) : Calls Try.prog 102 #[.int .i64 v, .int .i64 n] w fun e w' => e = .returned (.int .i64 (upS v n)) ∧ w = w' := by
  have hq : 0 ≤ (v + n - 1) / n * n := Int.mul_nonneg (Int.ediv_nonneg (by omega) (by omega)) (by omega)
  have hm : (v + n - 1) / n * n ≤ v + n - 1 := Int.ediv_mul_le _ (by omega)
  go_enter Try.func102, Try.ntmps102
  go_wp2
  go_ret
  exact ⟨rfl, rfl⟩
theorem crup_c (v n : Int) (w : World) (h0 : 0 ≤ v) (h1 : v ≤ 1000000000000) (h2 : 1 ≤ n) (h3 : n ≤ 1000000000000) : Calls Try.prog 104 #[.int .i64 v, .int .i64 n] w fun e w' => e = .returned (.int .i64 (upS v n)) ∧ w = w' := by
  have hq : 0 ≤ (v + n - 1) / n * n := Int.mul_nonneg (Int.ediv_nonneg (by omega) (by omega)) (by omega)
  have hm : (v + n - 1) / n * n ≤ v + n - 1 := Int.ediv_mul_le _ (by omega)
  go_enter Try.func104, Try.ntmps104
  go_wp2
  go_ret
  exact ⟨rfl, rfl⟩
/-- How many ones. -/
def ones (l : List Int) : Nat := (l.filter (· == 1)).length
theorem ones_snoc {l : List Int} {j : Nat} {x : Int} (hx : l[j]? = some x) : ones (l.take (j + 1)) = ones (l.take j) + (if x = 1 then 1 else 0) := by
  unfold ones
  rw [take_snoc_of hx, List.filter_append, List.length_append]
  congr 1
  by_cases h : x = 1 <;> simp [h]
theorem ones_le (l : List Int) : ones l ≤ l.length := List.length_filter_le ..
set_option maxRecDepth 100000 in
theorem rints_c (A : Option Addr) (n c : Nat) (l : List Int) (w : World) (hA : IntsAt w A n l) (hn : n ≤ 1000000) :
    Calls Try.prog 103 #[.slice A n c] w fun e w' => e = .returned (.int .i64 (ones l)) ∧ Below w.heap.size w w' := by
  obtain ⟨rfl, hA⟩ := hA
  have HA := Lib.hid hA
  clear hA
  go_enter Try.func103, Try.ntmps103
  go_wp2_with fail
  go_loopw [3, 4] (fun s3 s4 wr => ∃ j : Nat, j ≤ l.length ∧ s4 = .int .i64 j ∧ s3 = .int .i64 (ones (l.take j)) ∧ Below w.heap.size w wr) (fun _ i _ => l.length - (intOf i).toNat)
  case atStart => exact ⟨0, Nat.zero_le _, rfl, rfl, Below.refl _ _⟩
  case round =>
    obtain ⟨j, hj, rfl, rfl, hb⟩ := hrel
    have ho := ones_le (l.take j)
    have hol : (l.take j).length = j := by simp; omega
    by_cases hlt : j < l.length
    · obtain ⟨x, hx⟩ : ∃ x, l[j]? = some x := ⟨_, List.getElem?_eq_getElem hlt⟩
      obtain ⟨b, o, rfl, a0⟩ := HA.out j x hx
      have g0 := bel_cell hb a0
      have HO := Lib.hid (ones_snoc hx)
      clear hx a0
      obtain ⟨q, hq⟩ : ∃ q, ones (l.take j) = q := ⟨_, rfl⟩
      rw [hq] at HO ho ⊢
      rw [hol] at ho
      clear hq hol
      by_cases h1 : x = 1
      · subst h1
        go_wp2_with fail
        go_roundw
        case rel => exact ⟨j + 1, by omega, by go_num, by rw [HO.out, if_pos rfl]; go_num, hb⟩
        case measure => simp [intOf]; omega
      · have hd : (x == 1) = false := by simpa using h1
        go_wp2_with fail
        go_roundw
        case rel => exact ⟨j + 1, by omega, by go_num, by rw [HO.out, if_neg h1]; rfl, hb⟩
        case measure => simp [intOf]; omega
    · have hge : l.length ≤ j := by omega
      rw [List.take_of_length_le hge]
      go_wp2_with fail
      go_ret
      exact ⟨rfl, hb⟩
set_option maxRecDepth 100000 in
theorem samePlws_c (A B : Option Addr) (n m c c' : Nat) (l k : List Plw) (w : World) (hA : PlwsAt w A n l) (hB : PlwsAt w B m k) (hn : n ≤ 9223372036854775807) (hm : m ≤ 9223372036854775807) :
    Calls Try.prog 69 #[.slice A n c, .slice B m c'] w fun e w' => e = .returned (.bool (decide (l = k))) ∧ Below w.heap.size w w' := by
  obtain ⟨rfl, hA⟩ := hA
  obtain ⟨rfl, hB⟩ := hB
  by_cases hl : l.length = k.length
  · have HLL := Lib.hid hl
    rw [hl]
    rw [hl] at hn
    clear hl
    go_enter Try.func69, Try.ntmps69
    go_wp2
    go_loopw [5] (fun s5 wr => ∃ j : Nat, j ≤ k.length ∧ s5 = .int .i64 j ∧ l.take j = k.take j ∧ Below w.heap.size w wr) (fun i _ => k.length - (intOf i).toNat)
    case atStart => exact ⟨0, Nat.zero_le _, rfl, rfl, Below.refl _ _⟩
    case round =>
      obtain ⟨j, hj, rfl, htk, hb⟩ := hrel
      have HTK := Lib.hid htk
      clear htk
      by_cases hlt : j < k.length
      · obtain ⟨x, hx⟩ : ∃ x, l[j]? = some x := ⟨_, List.getElem?_eq_getElem (by rw [HLL.out]; exact hlt)⟩
        obtain ⟨y, hy⟩ : ∃ y, k[j]? = some y := ⟨_, List.getElem?_eq_getElem hlt⟩
        obtain ⟨b, o, rfl, a0, a1, a2, a3⟩ := hA j x hx
        obtain ⟨b', o', rfl, e0, e1, e2, e3⟩ := hB j y hy
        have g0 := bel_cell hb a0
        have g1 := bel_cell hb a1
        have g2 := bel_cell hb a2
        have g3 := bel_cell hb a3
        have i0 := bel_cell hb e0
        have i1 := bel_cell hb e1
        have i2 := bel_cell hb e2
        have i3 := bel_cell hb e3
        have HX := Lib.hid hx
        have HY := Lib.hid hy
        clear hx hy hA hB a0 a1 a2 a3 e0 e1 e2 e3
        cases hq : eqP x.arg x.eight x.reg x.off y.arg y.eight y.reg y.off with
        | true =>
          go_wp2_with fail
          go_quiet (fail)
          go_wp2_with fail
          go_roundw
          case rel => exact ⟨j + 1, by omega, by go_num, take_snoc_eq HX.out HY.out (plw_eq hq) HTK.out, bel_drewN hb _⟩
          case measure => simp [intOf]; omega
        | false =>
          have HN := Lib.hid (plw_ne HX.out HY.out hq)
          go_wp2_with fail
          go_quiet (fail)
          go_wp2_with fail
          go_ret
          exact ⟨by rw [decide_eq_false HN.out]; rfl, bel_drewN hb _⟩
      · have hkl : j = k.length := by omega
        have HE := Lib.hid (show l = k by have := HTK.out; rwa [hkl, List.take_length, ← HLL.out, List.take_length] at this)
        clear hkl
        go_wp2_with fail
        go_ret
        exact ⟨by rw [decide_eq_true HE.out]; rfl, hb⟩
  · have HN := Lib.hid (show l ≠ k from fun h => hl (congrArg _ h))
    have q1 : ((l.length : Int) != k.length) = true := by rw [bne_iff_ne]; omega
    clear hl
    go_enter Try.func69, Try.ntmps69
    go_wp2_with fail
    go_ret
    exact ⟨by rw [decide_eq_false HN.out]; rfl, Below.refl _ _⟩
set_option maxRecDepth 100000 in
theorem sameInts_c (A B : Option Addr) (n m c c' : Nat) (l k : List Int) (w : World) (hA : IntsAt w A n l) (hB : IntsAt w B m k) (hn : n ≤ 9223372036854775807) (hm : m ≤ 9223372036854775807) :
    Calls Try.prog 66 #[.slice A n c, .slice B m c'] w fun e w' => e = .returned (.bool (decide (l = k))) ∧ Below w.heap.size w w' := by
  obtain ⟨rfl, hA⟩ := hA
  obtain ⟨rfl, hB⟩ := hB
  by_cases hl : l.length = k.length
  · have HLL := Lib.hid hl
    rw [hl]
    rw [hl] at hn
    clear hl
    go_enter Try.func66, Try.ntmps66
    go_wp2
    go_loopw [5] (fun s5 wr => ∃ j : Nat, j ≤ k.length ∧ s5 = .int .i64 j ∧ l.take j = k.take j ∧ Below w.heap.size w wr) (fun i _ => k.length - (intOf i).toNat)
    case atStart => exact ⟨0, Nat.zero_le _, rfl, rfl, Below.refl _ _⟩
    case round =>
      obtain ⟨j, hj, rfl, htk, hb⟩ := hrel
      have HTK := Lib.hid htk
      clear htk
      by_cases hlt : j < k.length
      · obtain ⟨x, hx⟩ : ∃ x, l[j]? = some x := ⟨_, List.getElem?_eq_getElem (by rw [HLL.out]; exact hlt)⟩
        obtain ⟨y, hy⟩ : ∃ y, k[j]? = some y := ⟨_, List.getElem?_eq_getElem hlt⟩
        obtain ⟨b, o, rfl, a0⟩ := hA j x hx
        obtain ⟨b', o', rfl, e0⟩ := hB j y hy
        have g0 := bel_cell hb a0
        have i0 := bel_cell hb e0
        have HX := Lib.hid hx
        have HY := Lib.hid hy
        clear hx hy hA hB a0 e0
        cases hq : (x != y) with
        | false =>
          go_wp2_with fail
          go_quiet (fail)
          go_wp2_with fail
          go_roundw
          case rel => exact ⟨j + 1, by omega, by go_num, take_snoc_eq HX.out HY.out (by simpa using hq) HTK.out, bel_drewN hb _⟩
          case measure => simp [intOf]; omega
        | true =>
          have HN := Lib.hid (int_ne HX.out HY.out hq)
          go_wp2_with fail
          go_quiet (fail)
          go_wp2_with fail
          go_ret
          exact ⟨by rw [decide_eq_false HN.out]; rfl, bel_drewN hb _⟩
      · have hkl : j = k.length := by omega
        have HE := Lib.hid (show l = k by have := HTK.out; rwa [hkl, List.take_length, ← HLL.out, List.take_length] at this)
        clear hkl
        go_wp2_with fail
        go_ret
        exact ⟨by rw [decide_eq_true HE.out]; rfl, hb⟩
  · have HN := Lib.hid (show l ≠ k from fun h => hl (congrArg _ h))
    have q1 : ((l.length : Int) != k.length) = true := by rw [bne_iff_ne]; omega
    clear hl
    go_enter Try.func66, Try.ntmps66
    go_wp2_with fail
    go_ret
    exact ⟨by rw [decide_eq_false HN.out]; rfl, Below.refl _ _⟩
end Go.Proofs.Ytcggghamnmflcaa
namespace Go.Proofs.Ytcggghamnmflcaa
open Go Go.RowKit Go.Shelf
attribute [local go_sem] wide_fn
/-- What the iterator hands on among the first j. -/
def evN (r : Int) (l : List Int) (j : Nat) : List (Nat × Bool) := (List.range j).filterMap fun i => if l[i]? = some 1 then some (i, decide (1 ≤ 6 - r - (ones (l.take i) : Int))) else none
theorem evN_yes {r : Int} {l : List Int} {j : Nat} (h : l[j]? = some 1) : evN r l (j + 1) = evN r l j ++ [(j, decide (1 ≤ 6 - r - (ones (l.take j) : Int)))] := by
  unfold evN
  rw [List.range_succ, List.filterMap_append]
  simp [h]
theorem evN_no {r : Int} {l : List Int} {j : Nat} {x : Int} (h : l[j]? = some x) (hx : x ≠ 1) : evN r l (j + 1) = evN r l j := by
  unfold evN
  rw [List.range_succ, List.filterMap_append]
  simp [h, hx]
theorem evN_len (r : Int) (l : List Int) (j : Nat) : (evN r l j).length ≤ j := by
  unfold evN
  exact Nat.le_trans (List.length_filterMap_le ..) (by simp)
def evEnc (x : Nat × Bool) : Array Value := #[.int .i64 (x.1 : Int), .bool x.2]
/-- What a round of a loop over the eights is to keep. -/
def Kp3 (a b c : Nat) (W W' : World) : Prop := W'.heap[a]? = W.heap[a]? ∧ W'.heap[b]? = W.heap[b]? ∧ W'.heap[c]? = W.heap[c]?
set_option maxRecDepth 100000 in
set_option maxHeartbeats 2000000 in
theorem eights1_in (n : Nat) (hn : 1 ≤ n) (l₀ : Nat) (Hb : Nat) (r : Int) (hr0 : 0 ≤ r) (hr1 : r ≤ 100) (Cb o c : Nat) (l : List Int) (hl : l.length ≤ 2000) (Lb Db : Nat)
    (J Jx : List (Nat × Bool) → World → Prop) (W : World)
    (hL : W.cell? ⟨Lb, 0, none⟩ = some (.pointer (some ⟨Hb, 0, none⟩))) (hD : W.cell? ⟨Db, 0, none⟩ = some (.slice (some ⟨Cb, o, none⟩) l.length c)) (hH : W.cell? ⟨Hb, 1, none⟩ = some (.int .i64 r))
    (hC : ∀ i v, l[i]? = some v → W.cell? ⟨Cb, o + i, none⟩ = some (.int .i64 v))
    (hY : ∀ pre x W1, J pre W1 → pre.length < l.length → YieldAt Fence.wide (n - 1) Try.prog l₀ (evEnc x) W1 fun e W' =>
      (e = .returned (.bool true) ∧ J (pre ++ [x]) W' ∧ Kp3 Lb Db Cb W1 W') ∨ (e = .returned (.bool false) ∧ Jx (pre ++ [x]) W'))
    (h0 : J [] W) :
    CallsIn Fence.wide n Try.prog 127 #[.func (.yield l₀) #[] #[], .pointer (some ⟨Lb, 0, none⟩), .pointer (some ⟨Db, 0, none⟩)] W fun e W' => (∃ v, e = .returned v) ∧
      ((∃ xs, xs = evN r l l.length ∧ J xs W') ∨ (∃ pre, (∃ k, k ≤ l.length ∧ pre = evN r l k) ∧ Jx pre W')) := by
  have HY := Lib.hid hY
  clear hY
  refine callsIn_of_wp Try.func127 rfl trivial ?_ rfl
  simp only [Try.ntmps127, List.size_toArray, List.length_cons, List.length_nil, Nat.reduceAdd, Nat.reduceSub, Array.replicate_succ, Array.replicate_zero, List.push_toArray, List.append_toArray, List.nil_append, List.cons_append]
  gi_wp2_with fail
  clear hH hL hD
  gi_loopw [14, 4] (fun i s4 wr => ∃ (k : Nat), i = .int .i64 k ∧ k ≤ l.length ∧ s4 = .int .i64 (6 - r - (ones (l.take k) : Int)) ∧ J (evN r l k) wr ∧ (∀ i v, l[i]? = some v → wr.cell? ⟨Cb, o + i, none⟩ = some (.int .i64 v)))
    (fun i _ _ => l.length - (intOf i).toNat)
  case atStart => exact ⟨0, rfl, Nat.zero_le _, by simp [ones], h0, hC⟩
  case round =>
    obtain ⟨k, rfl, hk, rfl, hJs, hC1⟩ := hrel
    have HC := Lib.hid hC1
    clear hC1 hC
    have ho := ones_le (l.take k)
    rw [List.length_take, Nat.min_eq_left hk] at ho
    by_cases hlt : k < l.length
    · obtain ⟨x, hx⟩ : ∃ x, l[k]? = some x := ⟨_, List.getElem?_eq_getElem hlt⟩
      have hcell := HC.out k x hx
      have HO := Lib.hid (ones_snoc hx)
      by_cases h1 : x = 1
      · subst h1
        have HE := Lib.hid (evN_yes (r := r) hx)
        rw [if_pos rfl] at HO
        clear hx
        obtain ⟨q, hq⟩ : ∃ q, ones (l.take k) = q := ⟨_, rfl⟩
        rw [hq] at HO HE ho ⊢
        clear hq
        obtain ⟨fn, tmps, assign, body, hy, hR⟩ := HY.out (evN r l k) (k, decide (1 ≤ 6 - r - (q : Int))) _ hJs (Nat.lt_of_le_of_lt (evN_len ..) hlt)
        dsimp only [evEnc] at hy
        have HR := Lib.hid hR
        clear hR
        gi_wp2_with fail
        refine HR.out.mono ?_
        rintro e W3 (⟨rfl, hJ3, hk3⟩ | ⟨rfl, hJx3⟩)
        · clear hy HR
          gi_wp2_with fail
          go_roundw
          case rel => exact ⟨k + 1, by go_num, by omega, by rw [HO.out]; go_num, by rw [HE.out]; exact hJ3, fun i v hv => (World.cell?_of_block hk3.2.2).trans (HC.out i v hv)⟩
          case measure => simp [intOf]; omega
        · clear hy HR
          gi_wp2_with fail
          refine bodyPost_ret (results_none rfl _ _ _) rfl ?_
          exact ⟨⟨_, rfl⟩, .inr ⟨_, ⟨k + 1, hlt, HE.out.symm⟩, hJx3⟩⟩
      · have HE := Lib.hid (evN_no (r := r) hx h1)
        have hd : (x != 1) = true := by simpa using h1
        rw [if_neg h1] at HO
        clear hx
        gi_wp2_with fail
        go_roundw
        case rel => exact ⟨k + 1, by go_num, by omega, by rw [HO.out]; rfl, by rw [HE.out]; exact hJs, HC.out⟩
        case measure => simp [intOf]; omega
    · have hge : k = l.length := by omega
      subst hge
      gi_wp2_with fail
      go_end0
      exact ⟨⟨_, rfl⟩, .inl ⟨_, rfl, hJs⟩⟩
theorem eights_stops (n : Nat) (hn : 1 ≤ n) (Hb : Nat) (r : Int) (hr0 : 0 ≤ r) (hr1 : r ≤ 100) (Cb o c : Nat) (l : List Int) (hl : l.length ≤ 2000) (Lb Db : Nat) (W0 : World)
    (hL : W0.cell? ⟨Lb, 0, none⟩ = some (.pointer (some ⟨Hb, 0, none⟩))) (hD : W0.cell? ⟨Db, 0, none⟩ = some (.slice (some ⟨Cb, o, none⟩) l.length c)) (hH : W0.cell? ⟨Hb, 1, none⟩ = some (.int .i64 r))
    (hC : ∀ i v, l[i]? = some v → W0.cell? ⟨Cb, o + i, none⟩ = some (.int .i64 v)) :
    SeqStopsK Fence.wide n Try.prog 127 #[.pointer (some ⟨Lb, 0, none⟩), .pointer (some ⟨Db, 0, none⟩)] evEnc (Kp3 Lb Db Cb) (fun xs => xs = evN r l l.length) (fun pre => ∃ k, k ≤ l.length ∧ pre = evN r l k) l.length W0 :=
  fun l₀ J Jx W hW _ _ hY h0 => eights1_in n hn l₀ Hb r hr0 hr1 Cb o c l hl Lb Db J Jx W (bel_cell hW hL) (bel_cell hW hD) (bel_cell hW hH) (fun i v hv => bel_cell hW (hC i v hv)) hY h0
theorem Kp3_t {a b c : Nat} {A B C : World} (h : Kp3 a b c A B) (k : Kp3 a b c B C) : Kp3 a b c A C := ⟨k.1.trans h.1, k.2.1.trans h.2.1, k.2.2.trans h.2.2⟩
end Go.Proofs.Ytcggghamnmflcaa
namespace Go.Proofs.Ytcggghamnmflcaa
open Go Go.RowKit Go.Shelf
attribute [local go_sem] wide_fn Oper.semAt_some
theorem ev_all {r : Int} (hr : r ≤ 6) (l : List Int) : ∀ j, j ≤ l.length → ((evN r l j).all (·.2) = true ↔ (ones (l.take j) : Int) ≤ 6 - r)
  | 0, _ => by simp [evN, ones]; omega
  | j + 1, hj => by
    have ih := ev_all hr l j (by omega)
    obtain ⟨x, hx⟩ : ∃ x, l[j]? = some x := ⟨_, List.getElem?_eq_getElem (by omega)⟩
    have ho := ones_snoc hx
    by_cases h1 : x = 1
    · subst h1
      rw [evN_yes hx, List.all_append, Bool.and_eq_true, ih, ho, if_pos rfl]
      simp only [List.all_cons, List.all_nil, Bool.and_true, decide_eq_true_eq]
      omega
    · rw [evN_no hx h1, ho, if_neg h1, Nat.add_zero]
      exact ih
/-- Does a word row fit? -/
def fitsS (r : Int) (l : List Int) : Bool := l[0]? != some 2 && decide ((ones l : Int) ≤ 6 - r)
theorem ones_mono (l : List Int) (k : Nat) : ones (l.take k) ≤ ones l := by
  unfold ones
  exact ((List.take_sublist k l).filter _).length_le
theorem eights_c (p A : Option Addr) (n c : Nat) (w : World) : Calls Try.prog 116 #[.pointer p, .slice A n c] w fun e w' => e = .returned (.func (.func 127) #[] #[.pointer (some ⟨w.heap.size, 0, none⟩), .pointer (some ⟨w.heap.size + 1, 0, none⟩)]) ∧ (w.alloc (.cells #[.pointer p] 139)).alloc (.cells #[.slice A n c] 39) = w' := by
  go_enter Try.func116, Try.ntmps116
  go_wp2
  go_ret
  exact ⟨rfl, rfl⟩
structure FtI (w0 : World) (b : Bool) (W : World) : Prop where
  g : Bk W w0.heap.size 4 #[.bool b]
  bel : Below w0.heap.size w0 W
theorem FtI.own {w0 : World} {b : Bool} {B1 : Nat} (hB : w0.heap.size ≤ B1) : OwnFrom B1 (fun (_ : Unit) W => FtI w0 b W) := fun s A C row h hg hr => by
  have hr' : ∀ r, row = some r → ∃ o : Obj, A.heap[r]? = some o ∧ o.isCells = false := fun r e => (hr r e).2
  exact ⟨h.g.kept hg hr', h.bel.grown hg h.bel.size (fun k e => Nat.le_trans hB (hr k e).1)⟩
set_option maxRecDepth 100000 in
set_option maxHeartbeats 4000000 in
theorem fits_c (Hb : Nat) (r : Int) (hr0 : 0 ≤ r) (hr1 : r ≤ 6) (Cb o c : Nat) (l : List Int) (f0 : Int) (hf : l[0]? = some f0) (hl : l.length ≤ 2000) (w : World) (hH : w.cell? ⟨Hb, 1, none⟩ = some (.int .i64 r))
    (hC : ∀ i v, l[i]? = some v → w.cell? ⟨Cb, o + i, none⟩ = some (.int .i64 v)) :
    Calls Try.prog 115 #[.pointer (some ⟨Hb, 0, none⟩), .slice (some ⟨Cb, o, none⟩) l.length c] w fun e w' => e = .returned (.bool (fitsS r l)) ∧ Below w.heap.size w w' := by
  have c0 := hC 0 f0 hf
  rw [Nat.add_zero] at c0
  have hl0 : 0 < l.length := by
    rcases Nat.eq_zero_or_pos l.length with h | h
    · rw [List.length_eq_zero_iff.1 h] at hf; cases hf
    · exact h
  have HC := Lib.hid hC
  have HF := Lib.hid hf
  clear hC hf
  refine (callsIn_wide (n := 9)).1 (callsIn_of_wp_marks Try.func115 rfl trivial ?_ rfl)
  simp only [Try.ntmps115, List.size_toArray, List.length_cons, List.length_nil, Nat.reduceAdd, Nat.reduceSub, Array.replicate_succ, Array.replicate_zero, List.push_toArray, List.append_toArray, List.nil_append, List.cons_append]
  refine wpIn_wide.2 ?_
  go_wp2
  go_step3
  go_wp2
  go_step3
  go_wp2_with fail
  refine (eights_c _ _ _ _ _).mono ?_
  rintro e w1 ⟨rfl, rfl⟩
  go_wp2_with fail
  have hcb := World.block_lt_of_cell? _ _ c0
  simp only at hcb
  have hb0 : Below w.heap.size w (((w.alloc (.cells #[.bool (f0 != 2)] 4)).alloc (.cells #[.pointer (some ⟨Hb, 0, none⟩)] 139)).alloc (.cells #[.slice (some ⟨Cb, o, none⟩) l.length c] 39)) := bel_alloc (bel_alloc (bel_alloc (Below.refl _ _) _) _) _
  refine range_box (n := 9) (α := Nat × Bool) (fun T x _ => ((T.setIfInBounds 15 (.int .i64 (x.1 : Int))).setIfInBounds 16 (.bool x.2)).setIfInBounds 7 (.bool x.2)) (fun _ _ _ => True)
    (by omega) rfl (enters_of Try.func127 (by kernel_rfl) rfl)
    (eights_stops 8 (by omega) Hb r hr0 (by omega) Cb o c l hl (w.heap.size + 1) (w.heap.size + 1 + 1) _ ?hL ?hD ?hH ?hC) Kp3_t ?hKb ?hps
    (fun pre W => FtI w (f0 != 2) W ∧ pre.all (·.2) = true)
    (fun c' pre W => c' = .exit 0 ∧ FtI w false W ∧ pre.all (·.2) = false)
    ?hI ?hIx ?h0 (fun _ _ _ _ _ _ _ _ _ => trivial) ?assign ?body ?done ?stop
  case hL => exact ((Bk.new1 w (.cells #[.bool (f0 != 2)] 4) 139 #[.pointer (some ⟨Hb, 0, none⟩)]).alloc _).at_ rfl
  case hD => exact (Bk.new2 w (.cells #[.bool (f0 != 2)] 4) (.cells #[.pointer (some ⟨Hb, 0, none⟩)] 139) 39 _).at_ rfl
  case hH => exact bel_cell hb0 hH
  case hC => exact fun i v hv => bel_cell hb0 (HC.out i v hv)
  case hKb => exact fun W l o o' hl _ _ _ => by simp at hl; exact ⟨World.putObj_heap_other (by omega), World.putObj_heap_other (by omega), World.putObj_heap_other (by omega)⟩
  case hps => exact fun _ => rfl
  case hI => exact fun s X C row h hg hr => ⟨FtI.own (by simp; omega) () X C row h.1 hg hr, h.2⟩
  case hIx => exact fun c' s X C row h hg hr => ⟨h.1, FtI.own (by simp; omega) () X C row h.2.1 hg hr, h.2.2⟩
  case h0 => exact ⟨⟨((Bk.new w 4 _).alloc _).alloc _, hb0⟩, rfl⟩
  case assign =>
    intro rr pre x W K hi hK
    simp only [evEnc, List.zip_toArray, List.zip_cons_cons, List.zip_nil_right, List.foldl_toArray', List.size_toArray, List.length_cons, List.length_nil, Nat.reduceAdd, List.foldl_cons, List.foldl_nil, List.setIfInBounds_toArray, List.set_cons_succ, List.set_cons_zero] at hK ⊢
    gi_wp2
    exact hK 0 _ (KeepsFrom.refl _ _) ⟨rfl, rfl, rfl⟩ hi trivial
  case body =>
    intro rr pre x Bx W hr hi _ hlen
    simp only [List.setIfInBounds_toArray, List.set_cons_succ, List.set_cons_zero]
    obtain ⟨hi, ha⟩ := hi
    obtain ⟨k, b⟩ := x
    have fg := hi.g.frozen 0
    have hg0 : W.cell? ⟨w.heap.size, 0, none⟩ = some (.bool (f0 != 2)) := hi.g.at_ (i := 0) rfl
    by_cases hb : b = true
    · have hnb : (!b) = false := by rw [hb]; rfl
      have HX := Lib.hid hb
      clear hb
      gi_wp2_with fail
      exact ⟨KeepsFrom.refl _ _, ⟨rfl, rfl, rfl⟩, hi, by rw [List.all_append, ha]; simp [HX.out]⟩
    · have hnb : (!b) = true := by simpa using hb
      have HX := Lib.hid hnb
      clear hb
      gi_wp2_with fail
      exact ⟨keeps_set (KeepsFrom.refl _ _) _ _, rfl, ⟨hi.g.set_ 0 _, hi.bel.setCell (by simp) _⟩, by rw [List.all_append]; simp; intro _; simpa using HX.out⟩
  case done =>
    intro D xs W hD hxs hi hK
    subst hxs
    obtain ⟨hi, ha⟩ := hi
    have hg0 : W.cell? ⟨w.heap.size, 0, none⟩ = some (.bool (f0 != 2)) := hi.g.at_ (i := 0) rfl
    have hbel := hi.bel
    have hx0 := hi.g.lt
    have HR := Lib.hid (show fitsS r l = (f0 != 2) by
      have h := (ev_all hr1 l l.length (Nat.le_refl _)).1 ha
      rw [List.take_length] at h
      unfold fitsS
      rw [HF.out, decide_eq_true h, Bool.and_true]
      rw [Bool.eq_iff_iff]; simp)
    have KB : Below w.heap.size W (W.putObj D (.deferred none)) := belowK_b (w := w) (Nat.le_refl _) W D _ _ (by simp at hD; omega) hK rfl rfl
    clear hi ha
    go_wp2_with fail
    refine ⟨by simp, .inl ⟨_, _, rfl, run_takeDeferred hK, ?_⟩⟩
    refine ⟨_, results_tmp rfl _ _ _, ?_, hbel.trans KB⟩
    rw [HR.out]; rfl
  case stop =>
    intro D c' pre W hD hxs hi hK
    obtain ⟨k, hk, rfl⟩ := hxs
    obtain ⟨rfl, hi, ha⟩ := hi
    have hg0 : W.cell? ⟨w.heap.size, 0, none⟩ = some (.bool false) := hi.g.at_ (i := 0) rfl
    have hbel := hi.bel
    have hx0 := hi.g.lt
    have HR := Lib.hid (show fitsS r l = false by
      have h : ¬ (ones (l.take k) : Int) ≤ 6 - r := fun h => by rw [(ev_all hr1 l k hk).2 h] at ha; cases ha
      have h2 := ones_mono l k
      unfold fitsS
      rw [decide_eq_false (by omega), Bool.and_false])
    have KB : Below w.heap.size W (W.putObj D (.deferred none)) := belowK_b (w := w) (Nat.le_refl _) W D _ _ (by simp at hD; omega) hK rfl rfl
    clear hi ha
    go_wp2_with fail
    refine ⟨by simp, .inl ⟨_, _, rfl, run_takeDeferred hK, ?_⟩⟩
    refine ⟨_, results_tmp rfl _ _ _, ?_, hbel.trans KB⟩
    rw [HR.out]; rfl
end Go.Proofs.Ytcggghamnmflcaa
namespace Go.Proofs.Ytcggghamnmflcaa
open Go
section
variable {P : Program} {ops : Array Oper} {md : Region.Mode} {S : World → Prop}
theorem opIn_of_wp {r m : Nat} {o : Oper} {a : Act} {K : Act → World → Prop} {Q' : Exit → Act → World → Prop} {w : World} (hd : ∀ c, o.op ≠ .defer c) (h : o.wp P a w K Q') :
    o.wpIn (Fence.wide.inRound r) m P a w K Q' := by
  unfold Oper.wp at h
  unfold Oper.wpIn
  refine ⟨fun _ _ => trivial, ?_⟩
  have e : o.semAt (Fence.wide.inRound r).round a.eval = execOp a.eval o := Oper.semAt_some r _ _ hd
  rw [e]
  generalize (execOp a.eval o).run P w = q at *
  cases q with
  | ok x w' =>
    cases x <;> simp only [Oper.upon] at h <;> simp only [Oper.uponIn]
    case value u => exact h
    case skip => exact h
    case defer d => exact h
    case enter f args =>
      refine ⟨fun h => by simp [Fence.wide] at h, CallsIn.inRound r (callsIn_wide.2 (h.mono fun e w'' he => ?_))⟩
      cases e <;> exact he
    case row row args =>
      refine ⟨fun h => by simp [Fence.wide] at h, fun c cs _ => ?_⟩
      obtain ⟨v, w'', hr, hs⟩ := h c cs
      exact ⟨v, w'', hr, stepsIn_wide.2 hs⟩
  | halt x w' => cases x <;> simp only [Oper.upon] at h <;> simp only [Oper.uponIn] <;> exact h
theorem anyIn_of_held {r m : Nat} {Q' : Exit → Act → World → Prop} (hd : ∀ (i : Nat) (o : Oper) c, ops[i]? = some o → o.op ≠ .defer c) (hl : ¬ LetsOut Q') :
    ∀ (f : Nat) (listed : Array Bool) (a : Act) (w : World), wpAnyH P md ops Q' S f listed a w → wpAnyIn (Fence.wide.inRound r) m P md ops Q' f listed a w
  | 0, _, _, _, h => h
  | f + 1, listed, a, w, h => by
    refine ⟨h.1, fun i hi => ?_⟩
    have hq := h.2 i hi
    unfold wpOp at hq
    unfold wpOpIn
    split
    · rename_i ho; simp only [ho] at hq; exact anyIn_of_held hd hl f _ _ _ hq.2
    · rename_i o ho
      simp only [ho] at hq
      split
      · rename_i hw'
        simp only [hw', if_true] at hq
        rcases hq with hq | hq
        · exact Oper.wpIn_mono (fun a' w' h' => anyIn_of_held hd hl f _ a' w' h'.2) (opIn_of_wp (fun c => hd i o c ho) hq)
        · exact absurd hq.2 hl
      · rename_i hw'; simp only [hw'] at hq; exact ⟨fun _ _ => trivial, anyIn_of_held hd hl f _ _ _ hq.2⟩
theorem regionIn_held {id r m : Nat} {Q : Exit → Act → World → Prop} {a : Act} {w : World} {l : List Oper} (hm : P.follows .mixedOrders = true) (hd : noDefer l = true) (hl : ¬ LetsOut Q) (hS : S w.drew)
    (h : S w.drew → wpAnyH P .any l.toArray Q S l.toArray.size (Array.replicate l.toArray.size false) a w.drew) : (Code.region id l.toArray true).wpIn (Fence.wide.inRound r) m P Q a w :=
  wpIn_region_any hm (anyIn_of_held (fun i o c ho => noDefer_spec hd i o c ho) hl _ _ _ _ (h hS))
end
end Go.Proofs.Ytcggghamnmflcaa

/- ImageMakes: which bytes sets make, or which set can't be. -/
import Derived.Test.YtcggghamnmflcaaIrm
import Derived.Laws.Small
namespace Go.Proofs.Ytcggghamnmflcaa
open Go Go.RowKit Go.Shelf
theorem setsAt_below {w w1 : World} {A : Option Addr} {n : Nat} {l : List (List Int × Int)} (h : SetsAt w A n l) (hb : Below w.heap.size w w1) : SetsAt w1 A n l := by
  refine ⟨h.1, fun i x hx => ?_⟩
  obtain ⟨b, o, A', c, rfl, c0, c1, hI, h1, h2⟩ := h.2 i x hx
  exact ⟨b, o, A', c, rfl, bel_cell hb c0, bel_cell hb c1, hI.below hb, h1, h2⟩
theorem setsAt_take {w : World} {A : Option Addr} {n : Nat} {l : List (List Int × Int)} (h : SetsAt w A n l) {m : Nat} (hm : m ≤ n) : SetsAt w A m (l.take m) := by
  have hn := h.1
  refine ⟨by rw [List.length_take]; omega, fun i x hx => h.2 i x ?_⟩
  rw [List.getElem?_take] at hx
  split at hx
  · exact hx
  · cases hx
set_option maxRecDepth 100000 in
set_option maxHeartbeats 4000000 in
theorem imageMakes_w (d : Nat) (t : Tp d) (v0 v1 v2 v3 v4 v5 v6 : Value) (A : Option Addr) (l0 : List (List Int × Int)) (c : Nat) (w : World) (ht : TyAt w d t [v0, v1, v2, v3, v4, v5, v6])
    (hc1 : l0.length ≤ c) (hc2 : c ≤ 9223372036854775807) (hS0 : SetsAt w A l0.length l0 ∧ ∀ x ∈ l0, I64 x.2) :
    Calls Try.prog 17 #[.agg #[v0, v1, v2, v3, v4, v5, v6], .slice A l0.length c] w fun e w' => e = .returned (.bool true) ∧ Below w.heap.size w w' := by
  obtain ⟨n, hn⟩ : ∃ n, min l0.length 100 = n := ⟨_, rfl⟩
  obtain ⟨l, hl⟩ : ∃ l, l0.take n = l := ⟨_, rfl⟩
  have hS : SetsAt w A n l := by rw [← hl]; exact setsAt_take hS0.1 (by omega)
  have hln : n = l.length := hS.1
  have hn1 : n ≤ 100 := by omega
  have hnc : n ≤ c := by omega
  have hmin : min (l0.length : Int) 100 = (n : Int) := by omega
  have hn0 : n ≤ l0.length := by omega
  have HMK := Lib.hid (fun w' (hb : Below w.heap.size w w') => make_c A l c w' (ht.below hb) (by rw [← hln]; exact setsAt_below hS hb) (by omega))
  have HRM := Lib.hid (fun w' (hb : Below w.heap.size w w') => rmake_c A l c w' (ht.below hb) (by rw [← hln]; exact setsAt_below hS hb) (by omega) (by omega))
  rw [← hln] at HMK HRM
  clear hn hl hS hS0 ht
  unfold MakP at HMK HRM
  obtain ⟨V, hV⟩ : ∃ z, mkV d t l = z := ⟨_, rfl⟩
  obtain ⟨E, hE⟩ : ∃ z, mkE d t l = z := ⟨_, rfl⟩
  obtain ⟨I, hI⟩ : ∃ z, mkI d t l = z := ⟨_, rfl⟩
  rw [hV, hE, hI] at HMK HRM
  clear hV hE hI hln
  have hlen0 : (0 : Int) ≤ (l0.length : Int) := Int.natCast_nonneg _
  obtain ⟨m0, hm0⟩ : ∃ m, l0.length = m := ⟨_, rfl⟩
  rw [hm0] at hc1 hmin hn0 hlen0 ⊢
  clear hm0
  go_enter Try.func17, Try.ntmps17
  go_wp2_with fail
  refine (shown54_c _).mono ?_
  rintro e w1 ⟨rfl, hb1⟩
  have hT1 := (Bk.new w 38 #[v0, v1, v2, v3, v4, v5, v6]).below hb1 (by simp)
  have t0 := hT1.at_ (i := 0) rfl; have t1 := hT1.at_ (i := 1) rfl; have t2 := hT1.at_ (i := 2) rfl; have t3 := hT1.at_ (i := 3) rfl; have t4 := hT1.at_ (i := 4) rfl; have t5 := hT1.at_ (i := 5) rfl; have t6 := hT1.at_ (i := 6) rfl
  have HB1 := Lib.hid (bel_then (bel_alloc (Below.refl _ _) _) hb1)
  clear hb1
  go_upto_region 3 with (fail)
  have emin : (if 100 < (m0 : Int) then (100 : Int) else (m0 : Int)) = (n : Int) := by split <;> omega
  rw [emin, Int.toNat_natCast]
  clear emin hmin
  go_wp2_with fail
  refine (HMK.out _ HB1.out).mono ?_
  rintro e w2 ⟨rfl, hb2⟩
  have hT2 := hT1.below hb2 hT1.lt
  have HB2 := Lib.hid (bel_then HB1.out hb2)
  clear t0 t1 t2 t3 t4 t5 t6 hT1 HB1 hb2
  have t0 := hT2.at_ (i := 0) rfl; have t1 := hT2.at_ (i := 1) rfl; have t2 := hT2.at_ (i := 2) rfl; have t3 := hT2.at_ (i := 3) rfl; have t4 := hT2.at_ (i := 4) rfl; have t5 := hT2.at_ (i := 5) rfl; have t6 := hT2.at_ (i := 6) rfl
  go_wp2_with fail
  refine (HRM.out _ HB2.out).mono ?_
  rintro e w3 ⟨rfl, hb3⟩
  have HB3 := Lib.hid (bel_then HB2.out hb3)
  clear t0 t1 t2 t3 t4 t5 t6 hT2 HB2 hb3
  go_wp2_with fail
  go_ret
  exact ⟨rfl, HB3.out⟩
end Go.Proofs.Ytcggghamnmflcaa

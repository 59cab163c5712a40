/- The law ClassTypes. -/
import Derived.Test.YtcggghamnmflcaaClk
namespace Go.Proofs.Ytcggghamnmflcaa
open Go Go.RowKit Go.Shelf
set_option maxRecDepth 100000 in
theorem classTypes_w (d : Nat) (t : Tp d) (v0 v1 v2 v3 v4 v5 v6 : Value) (w : World) (ht : TyAt w d t [v0, v1, v2, v3, v4, v5, v6]) :
    Calls Try.prog 23 #[.agg #[v0, v1, v2, v3, v4, v5, v6]] w fun e w' => e = .returned (.bool true) ∧ Below w.heap.size w w' := by
  have HC := Lib.hid (fun w' (hb : Below w.heap.size w w') => classes_c (ht.below hb))
  have HR := Lib.hid (fun w' (hb : Below w.heap.size w w') => rclasses_c (ht.below hb))
  obtain ⟨hl1, hl2⟩ : 0 ≤ (clsL d t).length ∧ (clsL d t).length ≤ 100 := by
    by_cases hc : clsE d t = 0
    · have := cls_len hc; omega
    · have : clsL d t = [] := by unfold clsL; rw [if_neg hc]
      rw [this]; simp
  clear ht
  go_enter Try.func23, Try.ntmps23
  go_wp2_with fail
  have hT := Bk.new w 38 #[v0, v1, v2, v3, v4, v5, v6]
  have hb0 := bel_alloc (Below.refl _ w) (.cells #[v0, v1, v2, v3, v4, v5, v6] 38)
  generalize World.alloc w _ = W0 at hT hb0 ⊢
  refine (shown64_c _).mono ?_
  rintro e w1 ⟨rfl, hb1⟩
  have hT1 := hT.below hb1 hT.lt
  have t0 := hT1.at_ (i := 0) rfl; have t1 := hT1.at_ (i := 1) rfl; have t2 := hT1.at_ (i := 2) rfl; have t3 := hT1.at_ (i := 3) rfl; have t4 := hT1.at_ (i := 4) rfl; have t5 := hT1.at_ (i := 5) rfl; have t6 := hT1.at_ (i := 6) rfl
  have HB1 := Lib.hid (bel_then hb0 hb1)
  clear hb1 hb0 hT
  go_wp2_with fail
  refine (HC.out _ HB1.out).mono ?_
  rintro e w2 ⟨C, cn, cc, rfl, hC2, hb2⟩
  have hT2 := hT1.below hb2 hT1.lt
  have HC2 := Lib.hid hC2
  have HB2 := Lib.hid (bel_then HB1.out hb2)
  clear hb2 hC2 hT1 t0 t1 t2 t3 t4 t5 t6
  have t0 := hT2.at_ (i := 0) rfl; have t1 := hT2.at_ (i := 1) rfl; have t2 := hT2.at_ (i := 2) rfl; have t3 := hT2.at_ (i := 3) rfl; have t4 := hT2.at_ (i := 4) rfl; have t5 := hT2.at_ (i := 5) rfl; have t6 := hT2.at_ (i := 6) rfl
  go_wp2_with fail
  refine (HR.out _ HB2.out).mono ?_
  rintro e w3 ⟨D, dn, dc, rfl, hD3, hb3⟩
  have HC3 := Lib.hid (HC2.out.below hb3)
  have HD3 := Lib.hid hD3
  have HB3 := Lib.hid (bel_then HB2.out hb3)
  clear hb3 hD3 HC2 hT2 t0 t1 t2 t3 t4 t5 t6
  obtain rfl : cn = (clsL d t).length := HC3.out.1
  obtain rfl : dn = (clsL d t).length := HD3.out.1
  have HS := Lib.hid (sameInts_c C D _ _ cc dc (clsL d t) (clsL d t) w3 HC3.out HD3.out (by omega) (by omega))
  go_wp2_with fail
  refine HS.out.mono ?_
  rintro e w4 ⟨rfl, hb4⟩
  have HB4 := Lib.hid (bel_then HB3.out hb4)
  clear hb4
  simp only [decide_true]
  go_wp2_with fail
  go_ret
  exact ⟨rfl, HB4.out⟩
end Go.Proofs.Ytcggghamnmflcaa

/- The law ClassPasses. -/
import Derived.Test.YtcggghamnmflcaaCll
namespace Go.Proofs.Ytcggghamnmflcaa
open Go Go.RowKit Go.Shelf
attribute [local go_sem] mn2_int mn_two
theorem TysAt.take {w : World} {d : Nat} {A : Option Addr} {l : List (Tp d)} (h : TysAt w d A l) (n : Nat) : TysAt w d A (l.take n) := fun i x hx => by
  rw [List.getElem?_take] at hx
  split at hx
  · exact h i x hx
  · cases hx
theorem plw_len {d e : Nat} (ts : List (Tp d)) (ret : Tp e) : (passL d e ts ret).length ≤ 1000000 := by
  by_cases h : passE d e ts ret = 0
  · obtain ⟨y1, _⟩ := passL_1 h
    have h16 : ts.length ≤ 16 := by
      unfold passE at h
      split at h
      · cases h
      · omega
    have hz : ∀ t ∈ ts, clsE d t = 0 := by
      unfold passE at h
      rw [if_neg (by omega)] at h
      split at h
      · rename_i h1; exact absurd h h1
      · rename_i h1
        exact firstE_z (by simpa using h1)
    have hs : 0 ≤ (start0 e ret).r ∧ (start0 e ret).r ≤ 6 ∧ (start0 e ret).top = 0 ∧ (start0 e ret).l.length ≤ 1 := by unfold start0; split <;> simp
    have := (runP_ok (start0 e ret) hz hs.1 hs.2.1 (by omega) ts.length).2.2.2.2
    rw [y1]
    omega
  · rw [(passL_0 rfl h).1]; simp
set_option maxRecDepth 100000 in
set_option maxHeartbeats 2000000 in
theorem classPasses_w (d : Nat) (A : Option Addr) (ts : List (Tp d)) (c : Nat) (rt : Tp d) (v0 v1 v2 v3 v4 v5 v6 : Value) (w : World) (hk : ts.length ≤ c) (hc : c ≤ 9223372036854775807) (hT : TysAt w d A ts) (hR : TyAt w d rt [v0, v1, v2, v3, v4, v5, v6]) :
    Calls Try.prog 24 #[.slice A ts.length c, .agg #[v0, v1, v2, v3, v4, v5, v6]] w fun e w' => e = .returned (.bool true) ∧ Below w.heap.size w w' := by
  obtain ⟨m, hm, hm1, hm2, hmin⟩ : ∃ m : Nat, (ts.take 20).length = m ∧ m ≤ 20 ∧ m ≤ ts.length ∧ mn (ts.length : Int) 20 = (m : Int) := ⟨_, rfl, by rw [List.length_take]; omega, by rw [List.length_take]; omega, by unfold mn; rw [List.length_take]; split <;> omega⟩
  have HP := Lib.hid (fun w' (hb : Below w.heap.size w w') => pass_c (ts.take 20) A c rt v0 v1 v2 v3 v4 v5 v6 w' ((hT.take 20).below hb) (by omega) (hR.below hb))
  have HQ := Lib.hid (fun w' (hb : Below w.heap.size w w') => rpass_c (ts.take 20) A c rt v0 v1 v2 v3 v4 v5 v6 w' ((hT.take 20).below hb) (by omega) (hR.below hb))
  rw [hm] at HP HQ
  have hpl := plw_len (ts.take 20) rt
  obtain ⟨pL, hL⟩ : ∃ x, passL d d (ts.take 20) rt = x := ⟨_, rfl⟩
  obtain ⟨pN, hN⟩ : ∃ x, passN d d (ts.take 20) rt = x := ⟨_, rfl⟩
  obtain ⟨pE, hE⟩ : ∃ x, passE d d (ts.take 20) rt = x := ⟨_, rfl⟩
  rw [hL, hN, hE] at HP HQ
  rw [hL] at hpl
  clear hT hR hm hL hN hE
  go_enter Try.func24, Try.ntmps24
  go_upto_region 1 with (fail)
  have hT := Bk.new w 38 #[v0, v1, v2, v3, v4, v5, v6]
  have hb0 := bel_alloc (Below.refl _ w) (.cells #[v0, v1, v2, v3, v4, v5, v6] 38)
  generalize World.alloc w _ = W0 at hT hb0 ⊢
  go_wp2_with fail
  refine (shown64_c _).mono ?_
  rintro e w1 ⟨rfl, hb1⟩
  have hT1 := hT.below hb1 hT.lt
  have HB1 := Lib.hid (bel_then hb0 hb1)
  clear hb1 hb0 hT
  have t0 := hT1.at_ (i := 0) rfl; have t1 := hT1.at_ (i := 1) rfl; have t2 := hT1.at_ (i := 2) rfl; have t3 := hT1.at_ (i := 3) rfl; have t4 := hT1.at_ (i := 4) rfl; have t5 := hT1.at_ (i := 5) rfl; have t6 := hT1.at_ (i := 6) rfl
  have z1 : (0 : Int) ≤ (m : Int) := Int.natCast_nonneg _
  have z2 : (m : Int) ≤ (c : Int) := by omega
  go_wp2_with fail
  refine (HP.out _ HB1.out).mono ?_
  rintro e w2 ⟨B, n, c', rfl, hP2, hb2⟩
  have hT2 := hT1.below hb2 hT1.lt
  have HP2 := Lib.hid hP2
  have HB2 := Lib.hid (bel_then HB1.out hb2)
  clear hb2 hP2 hT1 t0 t1 t2 t3 t4 t5 t6
  have t0 := hT2.at_ (i := 0) rfl; have t1 := hT2.at_ (i := 1) rfl; have t2 := hT2.at_ (i := 2) rfl; have t3 := hT2.at_ (i := 3) rfl; have t4 := hT2.at_ (i := 4) rfl; have t5 := hT2.at_ (i := 5) rfl; have t6 := hT2.at_ (i := 6) rfl
  go_wp2_with fail
  refine (HQ.out _ HB2.out).mono ?_
  rintro e w3 ⟨D, dn, dc, rfl, hD3, hb3⟩
  have HP3 := Lib.hid (HP2.out.below hb3)
  have HD3 := Lib.hid hD3
  have HB3 := Lib.hid (bel_then HB2.out hb3)
  clear hb3 hD3 HP2 hT2 t0 t1 t2 t3 t4 t5 t6
  obtain rfl : n = pL.length := HP3.out.1
  obtain rfl : dn = pL.length := HD3.out.1
  have HS := Lib.hid (samePlws_c B D _ _ c' dc pL pL w3 HP3.out HD3.out (by omega) (by omega))
  go_wp2_with fail
  refine HS.out.mono ?_
  rintro e w4 ⟨rfl, hb4⟩
  have HB4 := Lib.hid (bel_then HB3.out hb4)
  clear hb4
  simp only [decide_true]
  go_wp2_with fail
  go_ret
  exact ⟨rfl, HB4.out⟩
end Go.Proofs.Ytcggghamnmflcaa

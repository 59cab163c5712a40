/- The law ClassApart. -/
import Derived.Test.YtcggghamnmflcaaClo
import Derived.Test.YtcggghamnmflcaaClm
namespace Go.Proofs.Ytcggghamnmflcaa
open Go Go.RowKit Go.Shelf
attribute [local go_sem] mn2_int mn_two
theorem nx_snoc {l : List Plw} {j : Nat} {x : Plw} (h : l[j]? = some x) (r e : Int) : (l.take (j + 1)).foldl nxR r = nxR ((l.take j).foldl nxR r) x ∧ (l.take (j + 1)).foldl nxE e = nxE ((l.take j).foldl nxE e) x := by
  rw [take_snoc_of h, List.foldl_append, List.foldl_append]
  exact ⟨rfl, rfl⟩
theorem okL_rng {d : Nat} {ts : List (Tp d)} : ∀ (l : List Plw) (r e : Int), okL d ts r e l → -1 ≤ r → r ≤ 5 → 0 ≤ e → e ≤ 2000000000 → ∀ j, -1 ≤ (l.take j).foldl nxR r ∧ (l.take j).foldl nxR r ≤ 5 ∧ 0 ≤ (l.take j).foldl nxE e ∧ (l.take j).foldl nxE e ≤ 2000000000
  | [], r, e, _, h1, h2, h3, h4, j => by simp; omega
  | a :: l, r, e, h, h1, h2, h3, h4, 0 => by simp; omega
  | a :: l, r, e, h, h1, h2, h3, h4, j + 1 => by
    rw [List.take_succ_cons, List.foldl_cons, List.foldl_cons]
    refine okL_rng l _ _ h.2 ?_ ?_ ?_ ?_ j
    all_goals
      first | unfold nxR | unfold nxE
      rcases h.1 with ⟨q1, q2, q3, q4⟩ | ⟨q1, _, _, _, _, _, q2, q3, q4, _⟩
      all_goals split <;> omega
set_option maxRecDepth 100000 in
set_option maxHeartbeats 4000000 in
theorem classApart_w (d : Nat) (A : Option Addr) (ts : List (Tp d)) (c : Nat) (rt : Tp d) (v0 v1 v2 v3 v4 v5 v6 : Value) (w : World) (hk : ts.length ≤ c) (hc : c ≤ 9223372036854775807) (hT : TysAt w d A ts) (hR : TyAt w d rt [v0, v1, v2, v3, v4, v5, v6]) :
    Calls Try.prog 25 #[.slice A ts.length c, .agg #[v0, v1, v2, v3, v4, v5, v6]] w fun e w' => e = .returned (.bool true) ∧ Below w.heap.size w w' := by
  obtain ⟨m, hm, hm1, hm2, hmin⟩ : ∃ m : Nat, (ts.take 20).length = m ∧ m ≤ 20 ∧ m ≤ ts.length ∧ mn (ts.length : Int) 20 = (m : Int) := ⟨_, rfl, by rw [List.length_take]; omega, by rw [List.length_take]; omega, by unfold mn; rw [List.length_take]; split <;> omega⟩
  have HP := Lib.hid (fun w' (hb : Below w.heap.size w w') => pass_c (ts.take 20) A c rt v0 v1 v2 v3 v4 v5 v6 w' ((hT.take 20).below hb) (by omega) (hR.below hb))
  rw [hm] at HP
  have HT := Lib.hid (hT.take 20)
  have hpl := plw_len (ts.take 20) rt
  have HA := Lib.hid (pass_apart (ts := ts.take 20) (ret := rt))
  have HZ := Lib.hid (fun x => passL_0 (ts := ts.take 20) (ret := rt) (x := x))
  obtain ⟨us, hus⟩ : ∃ us, ts.take 20 = us := ⟨_, rfl⟩
  rw [hus] at HP HT hpl HA HZ hm
  obtain ⟨pL, hL⟩ : ∃ x, passL d d us rt = x := ⟨_, rfl⟩
  obtain ⟨pN, hN⟩ : ∃ x, passN d d us rt = x := ⟨_, rfl⟩
  obtain ⟨pE, hE⟩ : ∃ x, passE d d us rt = x := ⟨_, rfl⟩
  rw [hL, hN, hE] at HP
  rw [hL] at hpl
  rw [hL, hN, hE] at HA
  rw [hL, hN] at HZ
  have HE := Lib.hid hE
  have HM := Lib.hid hm
  clear hT hR hm hL hN hE hus
  go_enter Try.func25, Try.ntmps25
  go_upto_region 1 with (fail)
  have hT := Bk.new w 38 #[v0, v1, v2, v3, v4, v5, v6]
  have hb0 := bel_alloc (Below.refl _ w) (.cells #[v0, v1, v2, v3, v4, v5, v6] 38)
  generalize World.alloc w _ = W0 at hT hb0 ⊢
  go_wp2_with fail
  refine (shown64_c _).mono ?_
  rintro e w1 ⟨rfl, hb1⟩
  have hT1 := hT.below hb1 hT.lt
  have HB1 := Lib.hid (bel_then hb0 hb1)
  clear hb1 hb0 hT
  have t0 := hT1.at_ (i := 0) rfl; have t1 := hT1.at_ (i := 1) rfl; have t2 := hT1.at_ (i := 2) rfl; have t3 := hT1.at_ (i := 3) rfl; have t4 := hT1.at_ (i := 4) rfl; have t5 := hT1.at_ (i := 5) rfl; have t6 := hT1.at_ (i := 6) rfl
  have z1 : (0 : Int) ≤ (m : Int) := Int.natCast_nonneg _
  have z2 : (m : Int) ≤ (c : Int) := by omega
  go_wp2_with fail
  refine (HP.out _ HB1.out).mono ?_
  rintro e w2 ⟨B, n, c', rfl, hP2, hb2⟩
  have HP2 := Lib.hid hP2
  have HB2 := Lib.hid (bel_then HB1.out hb2)
  clear hb2 hP2 hT1 t0 t1 t2 t3 t4 t5 t6
  obtain rfl : n = pL.length := HP2.out.1
  by_cases he : pE = 0
  · subst he
    obtain ⟨hok, en, hen, y1, y2, y3, y4, y5⟩ := HA.out rfl
    have HOK := Lib.hid hok
    have HEN := Lib.hid hen
    have HRG := Lib.hid (okL_rng pL _ _ hok (by decide) (by decide) (by decide) (by decide))
    clear hok hen
    go_wp2_with fail
    go_loopw [9, 10, 11] (fun s9 s10 s11 wr => ∃ j : Nat, j ≤ pL.length ∧ s11 = .int .i64 j ∧ s9 = .int .i64 ((pL.take j).foldl nxR (-1)) ∧ s10 = .int .i64 ((pL.take j).foldl nxE 0) ∧ Below w2.heap.size w2 wr) (fun _ _ i _ => pL.length - (intOf i).toNat)
    case atStart => exact ⟨0, Nat.zero_le _, rfl, rfl, rfl, Below.refl _ _⟩
    case round =>
      obtain ⟨j, hj, rfl, rfl, rfl, hb⟩ := hrel
      have HB := Lib.hid hb
      clear hb
      obtain ⟨g1, g2, g3, g4⟩ := HRG.out j
      by_cases hlt : j < pL.length
      · obtain ⟨x, hx⟩ : ∃ x, pL[j]? = some x := ⟨_, List.getElem?_eq_getElem hlt⟩
        obtain ⟨b, o, rfl, a0, a1, a2, a3⟩ := (HP2.out.below HB.out).2 j x hx
        have hokx := okL_at d us pL _ _ j x HOK.out hx
        obtain ⟨n1, n2⟩ := nx_snoc hx (-1) 0
        have HN1 := Lib.hid n1
        have HN2 := Lib.hid n2
        obtain ⟨R, hR⟩ : ∃ R, (pL.take j).foldl nxR (-1) = R := ⟨_, rfl⟩
        obtain ⟨E, hE⟩ : ∃ R, (pL.take j).foldl nxE 0 = R := ⟨_, rfl⟩
        rw [hR] at g1 g2 hokx HN1 ⊢
        rw [hE] at g3 g4 hokx HN2 ⊢
        clear hx n1 n2 hR hE
        obtain ⟨xa, xe, xr, xo⟩ := x
        simp only at a0 a1 a2 a3
        rcases hokx with ⟨q1, q2, q3, q4⟩ | ⟨q1, q, t, q2, q3, q4, q5, q6, q7, q8, q9⟩
        · simp only at q1 q2 q3 q4
          subst q1 q4
          go_wp2_with fail
          go_roundw
          case rel =>
            refine ⟨j + 1, by omega, by go_num, ?_, ?_, bel_alloc HB.out _⟩
            · rw [HN1.out]; unfold nxR; rw [if_pos q2]
            · rw [HN2.out]; unfold nxE; rw [if_pos q2]
          case measure => simp [intOf]; omega
        · simp only at q1 q2 q5 q6 q7 q8 q9
          subst q1 q2
          have hql : q < us.length := (List.getElem?_eq_some_iff.1 q3).1
          have k1 : (0 : Int) ≤ (q : Int) := Int.natCast_nonneg _
          have k2 : (q : Int) < (m : Int) := by have := HM.out; omega
          obtain ⟨tb, tof, y60, y61, y62, y63, y64, y65, y66, rfl, hty, p0, p1, p2, p3, p4, p5, p6⟩ := (HT.out.below (bel_then HB2.out HB.out)).at_ q3
          have hb5 := bel_alloc (Below.refl _ wr) (.cells #[.int .i64 q, .int .i64 xe, .int .i64 (-1), .int .i64 xo] 87)
          have hS := ssize_c (hty.below hb5)
          have hx5 := Bk.new wr 87 #[.int .i64 q, .int .i64 xe, .int .i64 (-1), .int .i64 xo]
          go_upto_region 16 with (fail)
          generalize World.alloc wr _ = W5 at hb5 hS hx5 ⊢
          obtain ⟨ze, hsz1, hsz2⟩ := Clsz q4
          have hag := agS_rng q4
          rw [ze] at hS
          obtain ⟨ag, hagg⟩ : ∃ x, agS d t = x := ⟨_, rfl⟩
          rw [hagg] at hS hag q9
          have HS := Lib.hid hS
          replace p0 := bel_cell hb5 p0; replace p1 := bel_cell hb5 p1; replace p2 := bel_cell hb5 p2; replace p3 := bel_cell hb5 p3; replace p4 := bel_cell hb5 p4; replace p5 := bel_cell hb5 p5; replace p6 := bel_cell hb5 p6
          have x0 := hx5.at_ (i := 0) rfl
          have HB5 := Lib.hid (bel_then HB.out hb5)
          clear hS hty a0 a1 a2 a3 hagg ze hb5
          go_wp2_with fail
          refine HS.out.mono ?_
          rintro e W6 ⟨rfl, hb6⟩
          have hx6 := hx5.below hb6 hx5.lt
          replace HB5 := Lib.hid (bel_then HB5.out hb6)
          clear x0 p0 p1 p2 p3 p4 p5 p6 hb6 hx5
          have x1 := hx6.at_ (i := 1) rfl
          have x3 := hx6.at_ (i := 3) rfl
          have hd1 : decide (xo < E) = false := decide_eq_false (by omega)
          have hd2 : (xo % 8 != 0) = false := by simpa using q8
          by_cases h0 : xe = 0
          · subst h0
            have hd3 : (xo % ag != 0) = false := by simpa using q9 rfl
            go_wp2_with fail
            go_roundw
            case rel =>
              refine ⟨j + 1, by omega, by go_num, ?_, ?_, HB5.out⟩
              · rw [HN1.out]; rfl
              · rw [HN2.out]; rfl
            case measure => simp [intOf]; omega
          · have hd3 : (xe == 0) = false := by simpa using h0
            go_wp2_with fail
            go_roundw
            case rel =>
              refine ⟨j + 1, by omega, by go_num, ?_, ?_, HB5.out⟩
              · rw [HN1.out]; rfl
              · rw [HN2.out]; rfl
            case measure => simp [intOf]; omega
      · obtain rfl : j = pL.length := by omega
        rw [List.take_length] at g1 g2 g3 g4 ⊢
        rw [HEN.out] at g3 g4 ⊢
        have hd1 : (pN % 16 == 0) = true := by simpa using y2
        go_wp2_with fail
        go_ret
        exact ⟨rfl, bel_then HB2.out HB.out⟩
  · have hn : (pE != 0) = true := by simpa using he
    obtain ⟨y1, y2⟩ := HZ.out _ HE.out he
    subst y1 y2
    go_wp2_with fail
    go_ret
    exact ⟨rfl, HB2.out⟩
end Go.Proofs.Ytcggghamnmflcaa

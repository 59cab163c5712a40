/- ImageSwaps: two values at spots that share no bit may be put in whichever order. -/
import Derived.Test.YtcggghamnmflcaaIsp
import Derived.Test.YtcggghamnmflcaaIza
import Derived.Test.YtcggghamnmflcaaIhu
namespace Go.Proofs.Ytcggghamnmflcaa
open Go Go.RowKit Go.Shelf
theorem spot_rng {d : Nat} {t : Tp d} {p : List Int} (h : findE d t p = 0) : 0 ≤ (spotS d t p).bit ∧ 1 ≤ (spotS d t p).bits ∧ (spotS d t p).bits ≤ 64 ∧ (spotS d t p).bit + (spotS d t p).bits ≤ 524288 := by
  obtain ⟨he, us, hw⟩ := find_0' h
  obtain ⟨q1, q2⟩ := err_0 he
  obtain ⟨k1, k2, k3, k4⟩ := walk_rng q1 q2 hw
  obtain ⟨z1, z2, z3, z4⟩ := sz_nat he
  exact ⟨k1, k2, k3, by omega⟩
/-- Two sets, one behind the other. -/
theorem two_sets {w : World} {g : Nat} {A A' : Option Addr} {p q : List Int} {c c' : Nat} {x y : Int} (h : Bk w g 77 #[.slice A p.length c, .int .i64 x, .slice A' q.length c', .int .i64 y])
    (hc1 : p.length ≤ c) (hc2 : c ≤ 9223372036854775807) (hP : IntsAt w A p.length p) (hq1 : q.length ≤ c') (hq2 : c' ≤ 9223372036854775807) (hQ : IntsAt w A' q.length q) : SetsAt w (some ⟨g, 0, none⟩) 2 [(p, x), (q, y)] := by
  refine ⟨rfl, fun i z hz => ?_⟩
  match i with
  | 0 =>
    cases hz
    exact ⟨g, 0, A, c, rfl, h.at_ (i := 0) rfl, h.at_ (i := 1) rfl, hP, hc1, hc2⟩
  | 1 =>
    cases hz
    exact ⟨g, 0, A', c', rfl, h.at_ (i := 2) rfl, h.at_ (i := 3) rfl, hQ, hq1, hq2⟩
  | _ + 2 => simp at hz
set_option maxRecDepth 100000 in
set_option maxHeartbeats 4000000 in
theorem imageSwaps_w (d : Nat) (t : Tp d) (v0 v1 v2 v3 v4 v5 v6 : Value) (s : ByteArray) (A : Option Addr) (p : List Int) (c : Nat) (A' : Option Addr) (q : List Int) (c' : Nat) (x y : Int) (w : World) (ht : TyAt w d t [v0, v1, v2, v3, v4, v5, v6]) (hs : s.size ≤ 9223372036854775807)
    (hc1 : p.length ≤ c) (hc2 : c ≤ 9223372036854775807) (hP : IntsAt w A p.length p) (hq1 : q.length ≤ c') (hq2 : c' ≤ 9223372036854775807) (hQ : IntsAt w A' q.length q) :
    Calls Try.prog 22 #[.agg #[v0, v1, v2, v3, v4, v5, v6], .string s, .slice A p.length c, .slice A' q.length c', .int .i64 x, .int .i64 y] w fun e w' => e = .returned (.bool true) ∧ Below w.heap.size w w' := by
  have HSP := Lib.hid (fun w' (hb : Below w.heap.size w w') => spot_c A p c w' (ht.below hb) (hP.below hb) hc1 hc2)
  have HSO := Lib.hid (fun w' (hb : Below w.heap.size w w') => spot_c A' q c' w' (ht.below hb) (hQ.below hb) hq1 hq2)
  have HPP := Lib.hid (fun (z : ByteArray) (hz : z.size ≤ 9223372036854775807) w' (hb : Below w.heap.size w w') => put_c A p c z x w' (ht.below hb) (hP.below hb) hc1 hc2 hz)
  have HPQ := Lib.hid (fun (z : ByteArray) (hz : z.size ≤ 9223372036854775807) w' (hb : Below w.heap.size w w') => put_c A' q c' z y w' (ht.below hb) (hQ.below hb) hq1 hq2 hz)
  have HM1 := Lib.hid (fun w' g (h : Bk w' g 77 #[.slice A p.length c, .int .i64 x, .slice A' q.length c', .int .i64 y]) (hb : Below w.heap.size w w') => make_c (some ⟨g, 0, none⟩) [(p, x), (q, y)] 2 w' (ht.below hb) (two_sets h hc1 hc2 (hP.below hb) hq1 hq2 (hQ.below hb)) (by simp))
  have HM2 := Lib.hid (fun w' g (h : Bk w' g 77 #[.slice A' q.length c', .int .i64 y, .slice A p.length c, .int .i64 x]) (hb : Below w.heap.size w w') => make_c (some ⟨g, 0, none⟩) [(q, y), (p, x)] 2 w' (ht.below hb) (two_sets h hq1 hq2 (hQ.below hb) hc1 hc2 (hP.below hb)) (by simp))
  have HHU := Lib.hid (fun w' (hb : Below w.heap.size w w') => hu_c d t v0 v1 v2 v3 v4 v5 v6 w' (ht.below hb))
  have HSW := Lib.hid (fun h1 h2 h3 => swap_p (d := d) (t := t) (s := s) (p := p) (q := q) (v := x) (w := y) h1 h2 h3)
  have HR1 := Lib.hid (fun h => spot_rng (d := d) (t := t) (p := p) h)
  have HR2 := Lib.hid (fun h => spot_rng (d := d) (t := t) (p := q) h)
  have HS := Lib.hid hs
  clear ht hP hQ
  go_enter Try.func22, Try.ntmps22
  go_wp2_with fail
  refine (shown54_c _).mono ?_
  rintro e w1 ⟨rfl, hb1⟩
  have hT1 := (Bk.new w 38 #[v0, v1, v2, v3, v4, v5, v6]).below hb1 (by simp)
  have t0 := hT1.at_ (i := 0) rfl; have t1 := hT1.at_ (i := 1) rfl; have t2 := hT1.at_ (i := 2) rfl; have t3 := hT1.at_ (i := 3) rfl; have t4 := hT1.at_ (i := 4) rfl; have t5 := hT1.at_ (i := 5) rfl; have t6 := hT1.at_ (i := 6) rfl
  have HB1 := Lib.hid (bel_then (bel_alloc (Below.refl _ _) _) hb1)
  clear hb1
  go_wp2_with fail
  refine (HSP.out _ HB1.out).mono ?_
  unfold SpotP
  rintro e w2 ⟨rfl, hb2⟩
  obtain ⟨⟨pb, ps, pk⟩, hsp⟩ : ∃ x, spotS d t p = x := ⟨_, rfl⟩
  obtain ⟨pe, hpe⟩ : ∃ x, findE d t p = x := ⟨_, rfl⟩
  rw [hsp, hpe]
  rw [hsp, hpe] at HSW HR1
  clear hsp hpe
  simp only at HSW HR1 ⊢
  have hT2 := (hT1.below hb2 hT1.lt).alloc (.cells #[.int .i64 pb, .int .i64 ps, .int .i64 pk] 48)
  have hS2 := Bk.new w2 48 #[.int .i64 pb, .int .i64 ps, .int .i64 pk]
  have hB2 := bel_alloc (bel_then HB1.out hb2) (.cells #[.int .i64 pb, .int .i64 ps, .int .i64 pk] 48)
  clear t0 t1 t2 t3 t4 t5 t6 hT1 HB1 hb2
  go_upto_region 3 with (fail)
  generalize World.alloc w2 _ = W3 at hT2 hS2 hB2 ⊢
  have t0 := hT2.at_ (i := 0) rfl; have t1 := hT2.at_ (i := 1) rfl; have t2 := hT2.at_ (i := 2) rfl; have t3 := hT2.at_ (i := 3) rfl; have t4 := hT2.at_ (i := 4) rfl; have t5 := hT2.at_ (i := 5) rfl; have t6 := hT2.at_ (i := 6) rfl
  have HB2 := Lib.hid hB2
  clear hB2
  go_wp2_with fail
  refine (HSO.out _ HB2.out).mono ?_
  unfold SpotP
  rintro e w4 ⟨rfl, hb4⟩
  obtain ⟨⟨qb, qs, qk⟩, hsq⟩ : ∃ x, spotS d t q = x := ⟨_, rfl⟩
  obtain ⟨qe, hqe⟩ : ∃ x, findE d t q = x := ⟨_, rfl⟩
  rw [hsq, hqe]
  rw [hsq, hqe] at HSW HR2
  clear hsq hqe
  simp only at HSW HR2 ⊢
  have hT4 := (hT2.below hb4 hT2.lt).alloc (.cells #[.int .i64 qb, .int .i64 qs, .int .i64 qk] 48)
  have hS4 := (hS2.below hb4 hS2.lt).alloc (.cells #[.int .i64 qb, .int .i64 qs, .int .i64 qk] 48)
  have hO4 := Bk.new w4 48 #[.int .i64 qb, .int .i64 qs, .int .i64 qk]
  have hB4 := bel_alloc (bel_then HB2.out hb4) (.cells #[.int .i64 qb, .int .i64 qs, .int .i64 qk] 48)
  clear t0 t1 t2 t3 t4 t5 t6 hT2 hS2 HB2 hb4
  go_upto_region 4 with (fail)
  generalize World.alloc w4 _ = W5 at hT4 hS4 hO4 hB4 ⊢
  have HB5 := Lib.hid hB4
  clear hB4
  by_cases hp0 : pe = 0
  · subst hp0
    obtain ⟨a1, a2, a3, a4⟩ := HR1.out rfl
    by_cases hq0 : qe = 0
    · subst hq0
      obtain ⟨b1, b2, b3, b4⟩ := HR2.out rfl
      have s0 := hS4.at_ (i := 0) rfl; have s1 := hS4.at_ (i := 1) rfl
      have o0 := hO4.at_ (i := 0) rfl; have o1 := hO4.at_ (i := 1) rfl
      have hgo : (qb < pb + ps ∧ pb < qb + qs) ∨ (qb + qs ≤ pb ∨ pb + ps ≤ qb) := by omega
      rcases hgo with ⟨hl1, hl2⟩ | hd
      · have d1 : decide (qb < pb + ps) = true := decide_eq_true hl1
        have d2 : decide (pb < qb + qs) = true := decide_eq_true hl2
        go_wp2_with fail
        go_ret
        exact ⟨rfl, HB5.out⟩
      · obtain ⟨hE, h0, m1, m2, hm⟩ := HSW.out rfl rfl hd
        have HE := Lib.hid hE
        have H0 := Lib.hid h0
        have HM1' := Lib.hid m1
        have HM2' := Lib.hid m2
        have HMM := Lib.hid hm
        clear hE h0 m1 m2 hm
        obtain ⟨b, hbd, hbb⟩ : ∃ b : Bool, (decide (qb < pb + ps) && decide (pb < qb + qs)) = b ∧ b = false := ⟨_, rfl, by
          rw [Bool.and_eq_false_iff]
          rcases hd with h | h
          · exact .inr (decide_eq_false (by omega))
          · exact .inl (decide_eq_false (by omega))⟩
        have t0 := hT4.at_ (i := 0) rfl; have t1 := hT4.at_ (i := 1) rfl; have t2 := hT4.at_ (i := 2) rfl; have t3 := hT4.at_ (i := 3) rfl; have t4 := hT4.at_ (i := 4) rfl; have t5 := hT4.at_ (i := 5) rfl; have t6 := hT4.at_ (i := 6) rfl
        by_cases hl1 : qb < pb + ps
        · have d1 : decide (qb < pb + ps) = true := decide_eq_true hl1
          have d2 : decide (pb < qb + qs) = false := decide_eq_false (by omega)
          clear hbd hd
          go_upto_region 6 with (fail)
          go_wp2_with fail
          refine (HPP.out s HS.out _ HB5.out).mono ?_
          unfold PutP
          rintro e w6 ⟨rfl, hb6⟩
          obtain ⟨X, hX⟩ : ∃ z, putV d t s p x = z := ⟨_, rfl⟩
          obtain ⟨E, hE⟩ : ∃ z, sizedE d t s.size p = z := ⟨_, rfl⟩
          rw [hX, hE]
          rw [hX, hE] at H0
          rw [hE] at HE
          clear hX hE
          have hT6 := hT4.below hb6 hT4.lt
          have HB6 := Lib.hid (bel_then HB5.out hb6)
          clear t0 t1 t2 t3 t4 t5 t6 hT4 HB5 hb6 s0 s1 o0 o1 hS4 hO4
          have t0 := hT6.at_ (i := 0) rfl; have t1 := hT6.at_ (i := 1) rfl; have t2 := hT6.at_ (i := 2) rfl; have t3 := hT6.at_ (i := 3) rfl; have t4 := hT6.at_ (i := 4) rfl; have t5 := hT6.at_ (i := 5) rfl; have t6 := hT6.at_ (i := 6) rfl
          go_wp2_with fail
          refine (HPQ.out s HS.out _ HB6.out).mono ?_
          unfold PutP
          rintro e w7 ⟨rfl, hb7⟩
          obtain ⟨Y, hY⟩ : ∃ z, putV d t s q y = z := ⟨_, rfl⟩
          rw [hY, ← HE.out]
          rw [hY] at H0
          clear hY HE
          have hT7 := hT6.below hb7 hT6.lt
          have HB7 := Lib.hid (bel_then HB6.out hb7)
          clear t0 t1 t2 t3 t4 t5 t6 hT6 HB6 hb7
          by_cases hE0 : E = 0
          · subst hE0
            obtain ⟨n1, n2, n3, n4, n5, n6⟩ := H0.out rfl
            have HX := Lib.hid (show X.size ≤ 9223372036854775807 by omega)
            have HY := Lib.hid (show Y.size ≤ 9223372036854775807 by omega)
            have N4 := Lib.hid n4
            have N5 := Lib.hid n5
            have N6 := Lib.hid n6
            clear n1 n2 n3 n4 n5 n6 H0
            have t0 := hT7.at_ (i := 0) rfl; have t1 := hT7.at_ (i := 1) rfl; have t2 := hT7.at_ (i := 2) rfl; have t3 := hT7.at_ (i := 3) rfl; have t4 := hT7.at_ (i := 4) rfl; have t5 := hT7.at_ (i := 5) rfl; have t6 := hT7.at_ (i := 6) rfl
            go_wp2_with fail
            refine (HPQ.out X HX.out _ HB7.out).mono ?_
            unfold PutP
            rintro e w8 ⟨rfl, hb8⟩
            rw [N4.out]
            obtain ⟨Z, hZ⟩ : ∃ z, putV d t X q y = z := ⟨_, rfl⟩
            rw [hZ]
            rw [hZ] at N6
            clear hZ
            have hT8 := hT7.below hb8 hT7.lt
            have HB8 := Lib.hid (bel_then HB7.out hb8)
            clear t0 t1 t2 t3 t4 t5 t6 hT7 HB7 hb8
            have t0 := hT8.at_ (i := 0) rfl; have t1 := hT8.at_ (i := 1) rfl; have t2 := hT8.at_ (i := 2) rfl; have t3 := hT8.at_ (i := 3) rfl; have t4 := hT8.at_ (i := 4) rfl; have t5 := hT8.at_ (i := 5) rfl; have t6 := hT8.at_ (i := 6) rfl
            go_wp2_with fail
            refine (HPP.out Y HY.out _ HB8.out).mono ?_
            unfold PutP
            rintro e w9 ⟨rfl, hb9⟩
            rw [N5.out, ← N6.out]
            have hT9 := ((hT8.below hb9 hT8.lt).alloc (.cells #[.slice A p.length c, .int .i64 x] 77)).alloc (.cells #[.slice A' q.length c', .int .i64 y] 77)
            have h26 := (Bk.new w9 77 #[.slice A p.length c, .int .i64 x]).alloc (.cells #[.slice A' q.length c', .int .i64 y] 77)
            have h27 := Bk.new1 w9 (.cells #[.slice A p.length c, .int .i64 x] 77) 77 #[.slice A' q.length c', .int .i64 y]
            have HB9 := Lib.hid (bel_alloc (bel_alloc (bel_then HB8.out hb9) (.cells #[.slice A p.length c, .int .i64 x] 77)) (.cells #[.slice A' q.length c', .int .i64 y] 77))
            clear t0 t1 t2 t3 t4 t5 t6 hT8 HB8 hb9
            go_upto_region 16 with (fail)
            generalize World.alloc (World.alloc w9 _) _ = Wa at hT9 h26 h27 HB9 ⊢
            have t0 := hT9.at_ (i := 0) rfl; have t1 := hT9.at_ (i := 1) rfl; have t2 := hT9.at_ (i := 2) rfl; have t3 := hT9.at_ (i := 3) rfl; have t4 := hT9.at_ (i := 4) rfl; have t5 := hT9.at_ (i := 5) rfl; have t6 := hT9.at_ (i := 6) rfl
            have a0 := h26.at_ (i := 0) rfl; have a1' := h26.at_ (i := 1) rfl
            have b0 := h27.at_ (i := 0) rfl; have b1' := h27.at_ (i := 1) rfl
            go_wp2_with fail
            refine (HM1.out _ _ (Bk.new Wa 77 _) (bel_alloc HB9.out _)).mono ?_
            unfold MakP
            rintro e wb ⟨rfl, hbb'⟩
            rw [HM1'.out]
            obtain ⟨M, hM⟩ : ∃ z, mkV d t [(p, x), (q, y)] = z := ⟨_, rfl⟩
            obtain ⟨I1, hI1⟩ : ∃ z, mkI d t [(p, x), (q, y)] = z := ⟨_, rfl⟩
            rw [hM, hI1]
            rw [hM] at HMM
            clear hM hI1
            have hbc := bel_then (bel_alloc (Below.refl _ Wa) _) hbb'
            have hTb := hT9.below hbc hT9.lt
            have h26b := h26.below hbc h26.lt
            have h27b := h27.below hbc h27.lt
            have HBb := Lib.hid (bel_then HB9.out hbc)
            clear t0 t1 t2 t3 t4 t5 t6 a0 a1' b0 b1' hT9 h26 h27 HB9 hbb' hbc
            have t0 := hTb.at_ (i := 0) rfl; have t1 := hTb.at_ (i := 1) rfl; have t2 := hTb.at_ (i := 2) rfl; have t3 := hTb.at_ (i := 3) rfl; have t4 := hTb.at_ (i := 4) rfl; have t5 := hTb.at_ (i := 5) rfl; have t6 := hTb.at_ (i := 6) rfl
            have a0 := h26b.at_ (i := 0) rfl; have a1' := h26b.at_ (i := 1) rfl
            have b0 := h27b.at_ (i := 0) rfl; have b1' := h27b.at_ (i := 1) rfl
            go_wp2_with fail
            refine (HM2.out _ _ (Bk.new wb 77 _) (bel_alloc HBb.out _)).mono ?_
            unfold MakP
            rintro e wd ⟨rfl, hbd'⟩
            rw [HM2'.out]
            obtain ⟨N, hN⟩ : ∃ z, mkV d t [(q, y), (p, x)] = z := ⟨_, rfl⟩
            obtain ⟨I2, hI2⟩ : ∃ z, mkI d t [(q, y), (p, x)] = z := ⟨_, rfl⟩
            rw [hN, hI2]
            rw [hN] at HMM
            clear hN hI2
            have hbe := bel_then (bel_alloc (Below.refl _ wb) _) hbd'
            have hTd := hTb.below hbe hTb.lt
            have HBd := Lib.hid (bel_then HBb.out hbe)
            clear t0 t1 t2 t3 t4 t5 t6 a0 a1' b0 b1' hTb h26b h27b HBb hbd' hbe
            have t0 := hTd.at_ (i := 0) rfl; have t1 := hTd.at_ (i := 1) rfl; have t2 := hTd.at_ (i := 2) rfl; have t3 := hTd.at_ (i := 3) rfl; have t4 := hTd.at_ (i := 4) rfl; have t5 := hTd.at_ (i := 5) rfl; have t6 := hTd.at_ (i := 6) rfl
            by_cases hMN : M = N
            · subst hMN
              go_wp2_with fail
              go_ret
              exact ⟨rfl, HBd.out⟩
            · have HU := Lib.hid (show hasU d t = true from by
                cases hu : hasU d t with
                | true => rfl
                | false => exact absurd (HMM.out hu) hMN)
              go_wp2_with fail
              · go_ret
                exact ⟨rfl, HBd.out⟩
              · refine (HHU.out _ HBd.out).mono ?_
                rintro e wf ⟨rfl, hbf⟩
                rw [HU.out]
                have HBf := Lib.hid (bel_then HBd.out hbf)
                clear hbf
                go_wp2_with fail
                go_ret
                exact ⟨rfl, HBf.out⟩
          · have hEn : (E != 0) = true := by simpa using hE0
            go_wp2_with fail
            go_ret
            exact ⟨rfl, HB7.out⟩
        · have d1 : decide (qb < pb + ps) = false := decide_eq_false hl1
          clear hbd hd
          go_upto_region 6 with (fail)
          go_wp2_with fail
          refine (HPP.out s HS.out _ HB5.out).mono ?_
          unfold PutP
          rintro e w6 ⟨rfl, hb6⟩
          obtain ⟨X, hX⟩ : ∃ z, putV d t s p x = z := ⟨_, rfl⟩
          obtain ⟨E, hE⟩ : ∃ z, sizedE d t s.size p = z := ⟨_, rfl⟩
          rw [hX, hE]
          rw [hX, hE] at H0
          rw [hE] at HE
          clear hX hE
          have hT6 := hT4.below hb6 hT4.lt
          have HB6 := Lib.hid (bel_then HB5.out hb6)
          clear t0 t1 t2 t3 t4 t5 t6 hT4 HB5 hb6 s0 s1 o0 o1 hS4 hO4
          have t0 := hT6.at_ (i := 0) rfl; have t1 := hT6.at_ (i := 1) rfl; have t2 := hT6.at_ (i := 2) rfl; have t3 := hT6.at_ (i := 3) rfl; have t4 := hT6.at_ (i := 4) rfl; have t5 := hT6.at_ (i := 5) rfl; have t6 := hT6.at_ (i := 6) rfl
          go_wp2_with fail
          refine (HPQ.out s HS.out _ HB6.out).mono ?_
          unfold PutP
          rintro e w7 ⟨rfl, hb7⟩
          obtain ⟨Y, hY⟩ : ∃ z, putV d t s q y = z := ⟨_, rfl⟩
          rw [hY, ← HE.out]
          rw [hY] at H0
          clear hY HE
          have hT7 := hT6.below hb7 hT6.lt
          have HB7 := Lib.hid (bel_then HB6.out hb7)
          clear t0 t1 t2 t3 t4 t5 t6 hT6 HB6 hb7
          by_cases hE0 : E = 0
          · subst hE0
            obtain ⟨n1, n2, n3, n4, n5, n6⟩ := H0.out rfl
            have HX := Lib.hid (show X.size ≤ 9223372036854775807 by omega)
            have HY := Lib.hid (show Y.size ≤ 9223372036854775807 by omega)
            have N4 := Lib.hid n4
            have N5 := Lib.hid n5
            have N6 := Lib.hid n6
            clear n1 n2 n3 n4 n5 n6 H0
            have t0 := hT7.at_ (i := 0) rfl; have t1 := hT7.at_ (i := 1) rfl; have t2 := hT7.at_ (i := 2) rfl; have t3 := hT7.at_ (i := 3) rfl; have t4 := hT7.at_ (i := 4) rfl; have t5 := hT7.at_ (i := 5) rfl; have t6 := hT7.at_ (i := 6) rfl
            go_wp2_with fail
            refine (HPQ.out X HX.out _ HB7.out).mono ?_
            unfold PutP
            rintro e w8 ⟨rfl, hb8⟩
            rw [N4.out]
            obtain ⟨Z, hZ⟩ : ∃ z, putV d t X q y = z := ⟨_, rfl⟩
            rw [hZ]
            rw [hZ] at N6
            clear hZ
            have hT8 := hT7.below hb8 hT7.lt
            have HB8 := Lib.hid (bel_then HB7.out hb8)
            clear t0 t1 t2 t3 t4 t5 t6 hT7 HB7 hb8
            have t0 := hT8.at_ (i := 0) rfl; have t1 := hT8.at_ (i := 1) rfl; have t2 := hT8.at_ (i := 2) rfl; have t3 := hT8.at_ (i := 3) rfl; have t4 := hT8.at_ (i := 4) rfl; have t5 := hT8.at_ (i := 5) rfl; have t6 := hT8.at_ (i := 6) rfl
            go_wp2_with fail
            refine (HPP.out Y HY.out _ HB8.out).mono ?_
            unfold PutP
            rintro e w9 ⟨rfl, hb9⟩
            rw [N5.out, ← N6.out]
            have hT9 := ((hT8.below hb9 hT8.lt).alloc (.cells #[.slice A p.length c, .int .i64 x] 77)).alloc (.cells #[.slice A' q.length c', .int .i64 y] 77)
            have h26 := (Bk.new w9 77 #[.slice A p.length c, .int .i64 x]).alloc (.cells #[.slice A' q.length c', .int .i64 y] 77)
            have h27 := Bk.new1 w9 (.cells #[.slice A p.length c, .int .i64 x] 77) 77 #[.slice A' q.length c', .int .i64 y]
            have HB9 := Lib.hid (bel_alloc (bel_alloc (bel_then HB8.out hb9) (.cells #[.slice A p.length c, .int .i64 x] 77)) (.cells #[.slice A' q.length c', .int .i64 y] 77))
            clear t0 t1 t2 t3 t4 t5 t6 hT8 HB8 hb9
            go_upto_region 16 with (fail)
            generalize World.alloc (World.alloc w9 _) _ = Wa at hT9 h26 h27 HB9 ⊢
            have t0 := hT9.at_ (i := 0) rfl; have t1 := hT9.at_ (i := 1) rfl; have t2 := hT9.at_ (i := 2) rfl; have t3 := hT9.at_ (i := 3) rfl; have t4 := hT9.at_ (i := 4) rfl; have t5 := hT9.at_ (i := 5) rfl; have t6 := hT9.at_ (i := 6) rfl
            have a0 := h26.at_ (i := 0) rfl; have a1' := h26.at_ (i := 1) rfl
            have b0 := h27.at_ (i := 0) rfl; have b1' := h27.at_ (i := 1) rfl
            go_wp2_with fail
            refine (HM1.out _ _ (Bk.new Wa 77 _) (bel_alloc HB9.out _)).mono ?_
            unfold MakP
            rintro e wb ⟨rfl, hbb'⟩
            rw [HM1'.out]
            obtain ⟨M, hM⟩ : ∃ z, mkV d t [(p, x), (q, y)] = z := ⟨_, rfl⟩
            obtain ⟨I1, hI1⟩ : ∃ z, mkI d t [(p, x), (q, y)] = z := ⟨_, rfl⟩
            rw [hM, hI1]
            rw [hM] at HMM
            clear hM hI1
            have hbc := bel_then (bel_alloc (Below.refl _ Wa) _) hbb'
            have hTb := hT9.below hbc hT9.lt
            have h26b := h26.below hbc h26.lt
            have h27b := h27.below hbc h27.lt
            have HBb := Lib.hid (bel_then HB9.out hbc)
            clear t0 t1 t2 t3 t4 t5 t6 a0 a1' b0 b1' hT9 h26 h27 HB9 hbb' hbc
            have t0 := hTb.at_ (i := 0) rfl; have t1 := hTb.at_ (i := 1) rfl; have t2 := hTb.at_ (i := 2) rfl; have t3 := hTb.at_ (i := 3) rfl; have t4 := hTb.at_ (i := 4) rfl; have t5 := hTb.at_ (i := 5) rfl; have t6 := hTb.at_ (i := 6) rfl
            have a0 := h26b.at_ (i := 0) rfl; have a1' := h26b.at_ (i := 1) rfl
            have b0 := h27b.at_ (i := 0) rfl; have b1' := h27b.at_ (i := 1) rfl
            go_wp2_with fail
            refine (HM2.out _ _ (Bk.new wb 77 _) (bel_alloc HBb.out _)).mono ?_
            unfold MakP
            rintro e wd ⟨rfl, hbd'⟩
            rw [HM2'.out]
            obtain ⟨N, hN⟩ : ∃ z, mkV d t [(q, y), (p, x)] = z := ⟨_, rfl⟩
            obtain ⟨I2, hI2⟩ : ∃ z, mkI d t [(q, y), (p, x)] = z := ⟨_, rfl⟩
            rw [hN, hI2]
            rw [hN] at HMM
            clear hN hI2
            have hbe := bel_then (bel_alloc (Below.refl _ wb) _) hbd'
            have hTd := hTb.below hbe hTb.lt
            have HBd := Lib.hid (bel_then HBb.out hbe)
            clear t0 t1 t2 t3 t4 t5 t6 a0 a1' b0 b1' hTb h26b h27b HBb hbd' hbe
            have t0 := hTd.at_ (i := 0) rfl; have t1 := hTd.at_ (i := 1) rfl; have t2 := hTd.at_ (i := 2) rfl; have t3 := hTd.at_ (i := 3) rfl; have t4 := hTd.at_ (i := 4) rfl; have t5 := hTd.at_ (i := 5) rfl; have t6 := hTd.at_ (i := 6) rfl
            by_cases hMN : M = N
            · subst hMN
              go_wp2_with fail
              go_ret
              exact ⟨rfl, HBd.out⟩
            · have HU := Lib.hid (show hasU d t = true from by
                cases hu : hasU d t with
                | true => rfl
                | false => exact absurd (HMM.out hu) hMN)
              go_wp2_with fail
              · go_ret
                exact ⟨rfl, HBd.out⟩
              · refine (HHU.out _ HBd.out).mono ?_
                rintro e wf ⟨rfl, hbf⟩
                rw [HU.out]
                have HBf := Lib.hid (bel_then HBd.out hbf)
                clear hbf
                go_wp2_with fail
                go_ret
                exact ⟨rfl, HBf.out⟩
          · have hEn : (E != 0) = true := by simpa using hE0
            go_wp2_with fail
            go_ret
            exact ⟨rfl, HB7.out⟩
    · have hqn : (qe != 0) = true := by simpa using hq0
      go_wp2_with fail
      go_ret
      exact ⟨rfl, HB5.out⟩
  · have hpn : (pe != 0) = true := by simpa using hp0
    go_wp2_with fail
    go_ret
    exact ⟨rfl, HB5.out⟩
end Go.Proofs.Ytcggghamnmflcaa

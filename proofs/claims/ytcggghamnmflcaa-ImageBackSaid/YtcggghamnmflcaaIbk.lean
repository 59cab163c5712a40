/- ImageBack: what is put is got, as far as its bits go; what shares no bit with it stays. -/
import Derived.Test.YtcggghamnmflcaaIbp
namespace Go.Proofs.Ytcggghamnmflcaa
open Go Go.RowKit Go.Shelf
set_option maxRecDepth 100000 in
set_option maxHeartbeats 4000000 in
theorem imageBack_w (d : Nat) (t : Tp d) (v0 v1 v2 v3 v4 v5 v6 : Value) (s : ByteArray) (A : Option Addr) (p : List Int) (c : Nat) (A' : Option Addr) (q : List Int) (c' : Nat) (v : Int) (w : World) (ht : TyAt w d t [v0, v1, v2, v3, v4, v5, v6]) (hs : s.size ≤ 9223372036854775807)
    (hc1 : p.length ≤ c) (hc2 : c ≤ 9223372036854775807) (hP : IntsAt w A p.length p) (hq1 : q.length ≤ c') (hq2 : c' ≤ 9223372036854775807) (hQ : IntsAt w A' q.length q) :
    Calls Try.prog 21 #[.agg #[v0, v1, v2, v3, v4, v5, v6], .string s, .slice A p.length c, .slice A' q.length c', .int .i64 v] w fun e w' => e = .returned (.bool true) ∧ Below w.heap.size w w' := by
  have HPU := Lib.hid (fun w' (hb : Below w.heap.size w w') => put_c A p c s v w' (ht.below hb) (hP.below hb) hc1 hc2 hs)
  have HSP := Lib.hid (fun w' (hb : Below w.heap.size w w') => spot_c A p c w' (ht.below hb) (hP.below hb) hc1 hc2)
  have HSO := Lib.hid (fun w' (hb : Below w.heap.size w w') => spot_c A' q c' w' (ht.below hb) (hQ.below hb) hq1 hq2)
  have HGP := Lib.hid (fun (y : ByteArray) (hy : y.size ≤ 9223372036854775807) w' (hb : Below w.heap.size w w') => get_c A p c y w' (ht.below hb) (hP.below hb) hc1 hc2 hy)
  have HGO := Lib.hid (fun (y : ByteArray) (hy : y.size ≤ 9223372036854775807) w' (hb : Below w.heap.size w w') => get_c A' q c' y w' (ht.below hb) (hQ.below hb) hq1 hq2 hy)
  have HBK := Lib.hid (fun h => back_p (d := d) (t := t) (s := s) (p := p) (v := v) h)
  have HNO := Lib.hid (fun h => put_no (d := d) (t := t) (s := s) (p := p) (v := v) h)
  have HFN := Lib.hid (fun h => (sized_find (d := d) (t := t) (n := s.size) (p := p) h).1)
  have HS := Lib.hid hs
  clear ht hP hQ
  go_enter Try.func21, Try.ntmps21
  go_wp2_with fail
  refine (shown54_c _).mono ?_
  rintro e w1 ⟨rfl, hb1⟩
  have hT1 := (Bk.new w 38 #[v0, v1, v2, v3, v4, v5, v6]).below hb1 (by simp)
  have t0 := hT1.at_ (i := 0) rfl; have t1 := hT1.at_ (i := 1) rfl; have t2 := hT1.at_ (i := 2) rfl; have t3 := hT1.at_ (i := 3) rfl; have t4 := hT1.at_ (i := 4) rfl; have t5 := hT1.at_ (i := 5) rfl; have t6 := hT1.at_ (i := 6) rfl
  have HB1 := Lib.hid (bel_then (bel_alloc (Below.refl _ _) _) hb1)
  clear hb1
  go_wp2_with fail
  refine (HPU.out _ HB1.out).mono ?_
  unfold PutP
  rintro e w2 ⟨rfl, hb2⟩
  obtain ⟨X, hX⟩ : ∃ x, putV d t s p v = x := ⟨_, rfl⟩
  obtain ⟨pe, hpe⟩ : ∃ x, sizedE d t s.size p = x := ⟨_, rfl⟩
  rw [hX, hpe]
  have HE0 := Lib.hid hpe
  rw [hX, hpe] at HBK HNO
  rw [hpe] at HFN
  clear hX hpe
  have hT2 := hT1.below hb2 hT1.lt
  have HB2 := Lib.hid (bel_then HB1.out hb2)
  clear t0 t1 t2 t3 t4 t5 t6 hT1 HB1 hb2
  have t0 := hT2.at_ (i := 0) rfl; have t1 := hT2.at_ (i := 1) rfl; have t2 := hT2.at_ (i := 2) rfl; have t3 := hT2.at_ (i := 3) rfl; have t4 := hT2.at_ (i := 4) rfl; have t5 := hT2.at_ (i := 5) rfl; have t6 := hT2.at_ (i := 6) rfl
  go_wp2_with fail
  refine (HSP.out _ HB2.out).mono ?_
  unfold SpotP
  rintro e w3 ⟨rfl, hb3⟩
  obtain ⟨sp, hsp⟩ : ∃ x, spotS d t p = x := ⟨_, rfl⟩
  obtain ⟨fe, hfe⟩ : ∃ x, findE d t p = x := ⟨_, rfl⟩
  rw [hsp, hfe]
  rw [hsp, hfe] at HBK
  rw [hfe] at HFN
  clear hsp hfe
  have hT3 := (hT2.below hb3 hT2.lt).alloc (.cells #[.int .i64 sp.bit, .int .i64 sp.bits, .int .i64 sp.k] 48)
  have hS3 := Bk.new w3 48 #[.int .i64 sp.bit, .int .i64 sp.bits, .int .i64 sp.k]
  have hB3 := bel_alloc (bel_then HB2.out hb3) (.cells #[.int .i64 sp.bit, .int .i64 sp.bits, .int .i64 sp.k] 48)
  clear t0 t1 t2 t3 t4 t5 t6 hT2 HB2 hb3
  go_upto_region 4 with (fail)
  generalize World.alloc w3 _ = W3 at hT3 hS3 hB3 ⊢
  by_cases he : pe = 0
  · subst he
    obtain ⟨hXs, hf0, bs, e5, e6, e7, e8, e9, hshl, hoth⟩ := HBK.out rfl
    subst hf0
    have HSH := Lib.hid hshl
    have HOT := Lib.hid hoth
    have hX63 : X.size ≤ 9223372036854775807 := by omega
    have t0 := hT3.at_ (i := 0) rfl; have t1 := hT3.at_ (i := 1) rfl; have t2 := hT3.at_ (i := 2) rfl; have t3 := hT3.at_ (i := 3) rfl; have t4 := hT3.at_ (i := 4) rfl; have t5 := hT3.at_ (i := 5) rfl; have t6 := hT3.at_ (i := 6) rfl
    have HB3 := Lib.hid hB3
    have HX := Lib.hid hX63
    clear hshl hoth hB3 HBK HNO HFN hX63
    go_wp2_with fail
    refine (HGP.out _ HX.out _ HB3.out).mono ?_
    unfold GetP
    rintro e w4 ⟨rfl, hb4⟩
    obtain ⟨gv, hgv⟩ : ∃ x, getV d t X p = x := ⟨_, rfl⟩
    have hE2 : sizedE d t X.size p = 0 := by rw [hXs]; exact HE0.out
    rw [hgv, hE2]
    have HSH2 := Lib.hid (show gv * 2 ^ (64 - bs) % 18446744073709551616 = v * 2 ^ (64 - bs) % 18446744073709551616 by rw [← hgv]; exact HSH.out)
    have hT4 := hT3.below hb4 hT3.lt
    have hS4 := hS3.below hb4 hS3.lt
    have HB4 := Lib.hid (bel_then HB3.out hb4)
    have s0 := hS4.at_ (i := 0) rfl; have s1 := hS4.at_ (i := 1) rfl
    rw [e5] at s1
    clear t0 t1 t2 t3 t4 t5 t6 hT3 hS3 HB3 hb4 hgv hE2 HSH
    go_upto_region 8 with (fail)
    rw [show (64 : Int) - (bs : Int) = ((64 - bs : Nat) : Int) by omega]
    obtain ⟨sh, hsh⟩ : ∃ y, 64 - bs = y := ⟨_, rfl⟩
    rw [hsh] at HSH2 ⊢
    have hs64 : sh ≤ 63 := by omega
    have hsn := Int.natCast_nonneg sh
    have hue : (IntKind.u64.wrap (IntKind.u64.wrap gv * 2 ^ sh) != IntKind.u64.wrap (IntKind.u64.wrap v * 2 ^ sh)) = false := by
      have hm : ∀ x y : Int, x % 18446744073709551616 * y % 18446744073709551616 = x * y % 18446744073709551616 := fun x y => by
        rw [Int.mul_emod, Int.emod_emod_of_dvd _ (Int.dvd_refl _), ← Int.mul_emod]
      simp only [IntKind.wrap_u64]
      rw [hm, hm, HSH2.out]
      simp
    have hlx : ((X.size : Int) != (s.size : Int)) = false := by rw [hXs]; simp
    clear HSH2
    go_quiet (fail)
    have HBd := Lib.hid (bel_drewN HB4.out nq)
    have hTd := hT4.below (bel_drewN (Below.refl _ w4) nq) hT4.lt
    have hSd := hS4.below (bel_drewN (Below.refl _ w4) nq) hS4.lt
    generalize World.drewN w4 nq = w4' at HBd hTd hSd ⊢
    clear hT4 hS4 s0 s1 hue
    have t0 := hTd.at_ (i := 0) rfl; have t1 := hTd.at_ (i := 1) rfl; have t2 := hTd.at_ (i := 2) rfl; have t3 := hTd.at_ (i := 3) rfl; have t4 := hTd.at_ (i := 4) rfl; have t5 := hTd.at_ (i := 5) rfl; have t6 := hTd.at_ (i := 6) rfl
    go_wp2_with fail
    refine (HSO.out _ HBd.out).mono ?_
    unfold SpotP
    rintro e w5 ⟨rfl, hb5⟩
    obtain ⟨so, hso⟩ : ∃ x, spotS d t q = x := ⟨_, rfl⟩
    obtain ⟨ge, hge⟩ : ∃ x, findE d t q = x := ⟨_, rfl⟩
    rw [hso, hge]
    have HSO2 := Lib.hid hso
    have HGE := Lib.hid hge
    have hT5 := (hTd.below hb5 hTd.lt).alloc (.cells #[.int .i64 so.bit, .int .i64 so.bits, .int .i64 so.k] 48)
    have hS5 := (hSd.below hb5 hSd.lt).alloc (.cells #[.int .i64 so.bit, .int .i64 so.bits, .int .i64 so.k] 48)
    have hO5 := Bk.new w5 48 #[.int .i64 so.bit, .int .i64 so.bits, .int .i64 so.k]
    have hB5 := bel_alloc (bel_then HBd.out hb5) (.cells #[.int .i64 so.bit, .int .i64 so.bits, .int .i64 so.k] 48)
    clear t0 t1 t2 t3 t4 t5 t6 hTd hSd hb5 hso hge
    go_upto_region 11 with (fail)
    generalize World.alloc w5 _ = W6 at hT5 hS5 hO5 hB5 ⊢
    have s0 := hS5.at_ (i := 0) rfl; have s1 := hS5.at_ (i := 1) rfl
    rw [e5] at s1
    have o0 := hO5.at_ (i := 0) rfl; have o1 := hO5.at_ (i := 1) rfl
    by_cases hg0 : ge = 0
    · subst hg0
      obtain ⟨hq0, z1, z2, z3, hor⟩ := HOT.out q HGE.out
      rw [HSO2.out] at z1 z2 z3 hor
      rw [e5] at hor
      have t0 := hT5.at_ (i := 0) rfl; have t1 := hT5.at_ (i := 1) rfl; have t2 := hT5.at_ (i := 2) rfl; have t3 := hT5.at_ (i := 3) rfl; have t4 := hT5.at_ (i := 4) rfl; have t5 := hT5.at_ (i := 5) rfl; have t6 := hT5.at_ (i := 6) rfl
      by_cases hl1 : so.bit < sp.bit + bs
      · by_cases hl2 : sp.bit < so.bit + so.bits
        · have d1 : decide (so.bit < sp.bit + (bs : Int)) = true := decide_eq_true hl1
          have d2 : decide (sp.bit < so.bit + so.bits) = true := decide_eq_true hl2
          clear hor
          go_wp2_with fail
          go_ret
          exact ⟨rfl, hB5⟩
        · have d1 : decide (so.bit < sp.bit + (bs : Int)) = true := decide_eq_true hl1
          have d2 : decide (sp.bit < so.bit + so.bits) = false := decide_eq_false hl2
          have HEQ := Lib.hid (show getV d t X q = getV d t s q from hor.resolve_left (fun h => hl2 h.2))
          have HQ0 := Lib.hid hq0
          clear hor hq0
          have HB5 := Lib.hid hB5
          clear hB5
          go_wp2_with fail
          refine (HGO.out s HS.out _ HB5.out).mono ?_
          unfold GetP
          rintro e w6 ⟨rfl, hb6⟩
          rw [HQ0.out]
          have hT6 := hT5.below hb6 hT5.lt
          have HB6 := Lib.hid (bel_then HB5.out hb6)
          clear t0 t1 t2 t3 t4 t5 t6 hT5 HB5 hb6 s0 s1 o0 o1 hS5 hO5
          have t0 := hT6.at_ (i := 0) rfl; have t1 := hT6.at_ (i := 1) rfl; have t2 := hT6.at_ (i := 2) rfl; have t3 := hT6.at_ (i := 3) rfl; have t4 := hT6.at_ (i := 4) rfl; have t5 := hT6.at_ (i := 5) rfl; have t6 := hT6.at_ (i := 6) rfl
          go_wp2_with fail
          refine (HGO.out X HX.out _ HB6.out).mono ?_
          unfold GetP
          rintro e w7 ⟨rfl, hb7⟩
          rw [hXs, HQ0.out, HEQ.out]
          have HB7 := Lib.hid (bel_then HB6.out hb7)
          clear t0 t1 t2 t3 t4 t5 t6 hT6 HB6 hb7
          go_wp2_with fail
          go_ret
          exact ⟨rfl, HB7.out⟩
      · have d1 : decide (so.bit < sp.bit + (bs : Int)) = false := decide_eq_false hl1
        have HEQ := Lib.hid (show getV d t X q = getV d t s q from hor.resolve_left (fun h => hl1 h.1))
        have HQ0 := Lib.hid hq0
        clear hor hq0
        have HB5 := Lib.hid hB5
        clear hB5
        go_wp2_with fail
        refine (HGO.out s HS.out _ HB5.out).mono ?_
        unfold GetP
        rintro e w6 ⟨rfl, hb6⟩
        rw [HQ0.out]
        have hT6 := hT5.below hb6 hT5.lt
        have HB6 := Lib.hid (bel_then HB5.out hb6)
        clear t0 t1 t2 t3 t4 t5 t6 hT5 HB5 hb6 s0 s1 o0 o1 hS5 hO5
        have t0 := hT6.at_ (i := 0) rfl; have t1 := hT6.at_ (i := 1) rfl; have t2 := hT6.at_ (i := 2) rfl; have t3 := hT6.at_ (i := 3) rfl; have t4 := hT6.at_ (i := 4) rfl; have t5 := hT6.at_ (i := 5) rfl; have t6 := hT6.at_ (i := 6) rfl
        go_wp2_with fail
        refine (HGO.out X HX.out _ HB6.out).mono ?_
        unfold GetP
        rintro e w7 ⟨rfl, hb7⟩
        rw [hXs, HQ0.out, HEQ.out]
        have HB7 := Lib.hid (bel_then HB6.out hb7)
        clear t0 t1 t2 t3 t4 t5 t6 hT6 HB6 hb7
        go_wp2_with fail
        go_ret
        exact ⟨rfl, HB7.out⟩
    · have hgn : (ge != 0) = true := by simpa using hg0
      go_wp2_with fail
      go_ret
      exact ⟨rfl, hB5⟩
  · have hne : (pe != 0) = true := by simpa using he
    obtain rfl := HNO.out he
    have HB3 := Lib.hid hB3
    clear hB3 HBK HNO HFN
    go_wp2_with fail
    go_ret
    exact ⟨rfl, HB3.out⟩
end Go.Proofs.Ytcggghamnmflcaa

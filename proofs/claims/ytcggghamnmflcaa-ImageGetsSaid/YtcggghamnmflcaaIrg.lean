/- burinref11.Get and burinref11.Put. -/
import Derived.Test.YtcggghamnmflcaaIrs
import Derived.Test.YtcggghamnmflcaaIrw
import Derived.Test.YtcggghamnmflcaaIbp
namespace Go.Proofs.Ytcggghamnmflcaa
open Go Go.RowKit Go.Shelf
theorem GetP.mk {d : Nat} {t : Tp d} {s : ByteArray} {p : List Int} {w w' : World} {v fe : Int} (h1 : getV d t s p = v) (h2 : sizedE d t s.size p = fe) (hb : Below w.heap.size w w') :
    GetP d t s p w (.returned (.tuple #[.int .i64 v, .int .i64 fe])) w' := by
  unfold GetP
  rw [h1, h2]
  exact ⟨rfl, hb⟩
theorem PutP.mk {d : Nat} {t : Tp d} {s : ByteArray} {p : List Int} {v : Int} {w w' : World} {x : ByteArray} {fe : Int} (h1 : putV d t s p v = x) (h2 : sizedE d t s.size p = fe) (hb : Below w.heap.size w w') :
    PutP d t s p v w (.returned (.tuple #[.string x, .int .i64 fe])) w' := by
  unfold PutP
  rw [h1, h2]
  exact ⟨rfl, hb⟩
theorem get_no {d : Nat} {t : Tp d} {s : ByteArray} {p : List Int} (h : sizedE d t s.size p ≠ 0) : getV d t s p = 0 := by unfold getV; rw [if_neg h]
theorem get_yes {d : Nat} {t : Tp d} {s : ByteArray} {p : List Int} (h : sizedE d t s.size p = 0) {bt bs : Nat} {k : Int} (hs : spotS d t p = ⟨bt, bs, k⟩) : getV d t s p = rdS (rdN (byN s) bt bs) bs k := by
  unfold getV
  rw [if_pos h, hs, Int.toNat_natCast, Int.toNat_natCast]
set_option maxRecDepth 100000 in
set_option maxHeartbeats 2000000 in
theorem rget_c {d : Nat} {t : Tp d} {v0 v1 v2 v3 v4 v5 v6 : Value} (A : Option Addr) (p : List Int) (c : Nat) (s : ByteArray) (w : World) (ht : TyAt w d t [v0, v1, v2, v3, v4, v5, v6]) (hP : IntsAt w A p.length p) (hc1 : p.length ≤ c) (hc2 : c ≤ 9223372036854775807) (hs : s.size ≤ 9223372036854775807) :
    Calls Try.prog 60 #[.agg #[v0, v1, v2, v3, v4, v5, v6], .string s, .slice A p.length c] w (GetP d t s p w) := by
  have HF := Lib.hid (fun w' (hb : Below w.heap.size w w') => rspot_c A p c w' (ht.below hb) (hP.below hb) hc1 hc2)
  have HO := fun w' (hb : Below w.heap.size w w') => rOf_c (ht.below hb)
  unfold OfP at HO
  obtain ⟨sz, hsz⟩ : ∃ x, szS d t = x := ⟨_, rfl⟩
  obtain ⟨ag, hag⟩ : ∃ x, agS d t = x := ⟨_, rfl⟩
  obtain ⟨er, her⟩ : ∃ x, errS d t = x := ⟨_, rfl⟩
  rw [hsz, hag, her] at HO
  replace HO := Lib.hid HO
  have HZ := Lib.hid hsz
  clear ht hP hsz her hag
  go_enter Try.func60, Try.ntmps60
  go_upto_region 1 with (fail)
  have hT := Bk.new w 38 #[v0, v1, v2, v3, v4, v5, v6]
  have hb0 := bel_alloc (Below.refl _ w) (.cells #[v0, v1, v2, v3, v4, v5, v6] 38)
  generalize World.alloc w _ = W0 at hT hb0 ⊢
  have t0 := hT.at_ (i := 0) rfl; have t1 := hT.at_ (i := 1) rfl; have t2 := hT.at_ (i := 2) rfl; have t3 := hT.at_ (i := 3) rfl; have t4 := hT.at_ (i := 4) rfl; have t5 := hT.at_ (i := 5) rfl; have t6 := hT.at_ (i := 6) rfl
  go_wp2_with fail
  refine (HF.out _ hb0).mono ?_
  unfold SpotP
  rintro e w1 ⟨rfl, hb1⟩
  obtain ⟨sp, hsp⟩ : ∃ x, spotS d t p = x := ⟨_, rfl⟩
  obtain ⟨fe, hfe⟩ : ∃ x, findE d t p = x := ⟨_, rfl⟩
  rw [hsp, hfe]
  have HSP := Lib.hid hsp
  have HFE := Lib.hid hfe
  have hT1 := (hT.below hb1 hT.lt).alloc (.cells #[.int .i64 sp.bit, .int .i64 sp.bits, .int .i64 sp.k] 48)
  have h8 := Bk.new w1 48 #[.int .i64 sp.bit, .int .i64 sp.bits, .int .i64 sp.k]
  have hb2 := bel_alloc (bel_then hb0 hb1) (.cells #[.int .i64 sp.bit, .int .i64 sp.bits, .int .i64 sp.k] 48)
  clear t0 t1 t2 t3 t4 t5 t6 hb0 hb1 hT hsp hfe
  go_upto_region 2 with (fail)
  generalize World.alloc w1 _ = W3 at hT1 h8 hb2 ⊢
  by_cases he : fe = 0
  · subst he
    have t0 := hT1.at_ (i := 0) rfl; have t1 := hT1.at_ (i := 1) rfl; have t2 := hT1.at_ (i := 2) rfl; have t3 := hT1.at_ (i := 3) rfl; have t4 := hT1.at_ (i := 4) rfl; have t5 := hT1.at_ (i := 5) rfl; have t6 := hT1.at_ (i := 6) rfl
    have HB2 := Lib.hid hb2
    clear hb2
    go_wp2_with fail
    refine (HO.out _ HB2.out).mono ?_
    rintro e w4 ⟨XA, xn, xc, rfl, hb4, -, -⟩
    have h84 := (h8.below hb4 h8.lt).alloc (.cells #[.int .i64 sz, .int .i64 ag, .bool false, .slice XA xn xc] 58)
    have h10 := Bk.new w4 58 #[.int .i64 sz, .int .i64 ag, .bool false, .slice XA xn xc]
    have hb5 := bel_alloc (bel_then HB2.out hb4) (.cells #[.int .i64 sz, .int .i64 ag, .bool false, .slice XA xn xc] 58)
    clear t0 t1 t2 t3 t4 t5 t6 hT1 h8 hb4
    go_upto_region 5 with (fail)
    generalize World.alloc w4 _ = W5 at h84 h10 hb5 ⊢
    have k0 := h10.at_ (i := 0) rfl
    have hlen := Int.natCast_nonneg s.size
    by_cases hn : (s.size : Int) = sz
    · have hne : ((s.size : Int) != sz) = false := by simpa using hn
      have HE := Lib.hid (show sizedE d t s.size p = 0 by unfold sizedE; rw [if_pos HFE.out, if_pos (by rw [HZ.out]; exact hn)])
      obtain ⟨e1, e2, e3, bt, bs, e4, e5, e6, e7, e8, e9⟩ := sized_0 HE.out
      obtain ⟨sb, ss, sk⟩ := sp
      rw [HSP.out] at e4 e5
      simp only at e4 e5 h84
      subst e4 e5
      have HV := Lib.hid (get_yes HE.out HSP.out)
      obtain ⟨cap, W6, hrun, ⟨rest, hby⟩, hb6⟩ := conv_bytes W5 s
      have h86 := h84.below hb6 h84.lt
      have u0 := h86.at_ (i := 0) rfl; have u1 := h86.at_ (i := 1) rfl; have u2 := h86.at_ (i := 2) rfl
      have hl := byN_len s
      have HRD := rread_c W5.heap.size cap (byN s) rest bt bs sk W6 hby (byN_lt s) (by omega) (by omega) e6 e7
      rw [hl] at HRD
      replace HRD := Lib.hid HRD
      have HB6 := Lib.hid (bel_then hb5 hb6)
      clear e1 e2 e3 e6 e7 e8 e9 hby hb6 h86 hl hn hb5
      go_wp2_with fail
      refine HRD.out.mono ?_
      rintro e w7 ⟨rfl, hb7⟩
      have HB7 := Lib.hid (bel_then HB6.out hb7)
      clear hb7 hrun
      go_wp2_with fail
      go_ret2
      exact GetP.mk HV.out HE.out HB7.out
    · have hne : ((s.size : Int) != sz) = true := by simpa using hn
      have HE := Lib.hid (show sizedE d t s.size p = 2 by unfold sizedE; rw [if_pos HFE.out, if_neg (by rw [HZ.out]; exact hn)])
      go_wp2_with fail
      go_ret2
      exact GetP.mk (get_no (by rw [HE.out]; decide)) HE.out hb5
  · have hne : (fe != 0) = true := by simpa using he
    have HE := Lib.hid (show sizedE d t s.size p = fe by unfold sizedE; rw [HFE.out, if_neg he])
    go_wp2_with fail
    go_ret2
    exact GetP.mk (get_no (by rw [HE.out]; exact he)) HE.out hb2
set_option maxRecDepth 100000 in
set_option maxHeartbeats 2000000 in
theorem rput_c {d : Nat} {t : Tp d} {v0 v1 v2 v3 v4 v5 v6 : Value} (A : Option Addr) (p : List Int) (c : Nat) (s : ByteArray) (v : Int) (w : World) (ht : TyAt w d t [v0, v1, v2, v3, v4, v5, v6]) (hP : IntsAt w A p.length p) (hc1 : p.length ≤ c) (hc2 : c ≤ 9223372036854775807) (hs : s.size ≤ 9223372036854775807) :
    Calls Try.prog 62 #[.agg #[v0, v1, v2, v3, v4, v5, v6], .string s, .slice A p.length c, .int .i64 v] w (PutP d t s p v w) := by
  have HF := Lib.hid (fun w' (hb : Below w.heap.size w w') => rspot_c A p c w' (ht.below hb) (hP.below hb) hc1 hc2)
  have HO := fun w' (hb : Below w.heap.size w w') => rOf_c (ht.below hb)
  unfold OfP at HO
  obtain ⟨sz, hsz⟩ : ∃ x, szS d t = x := ⟨_, rfl⟩
  obtain ⟨ag, hag⟩ : ∃ x, agS d t = x := ⟨_, rfl⟩
  obtain ⟨er, her⟩ : ∃ x, errS d t = x := ⟨_, rfl⟩
  rw [hsz, hag, her] at HO
  replace HO := Lib.hid HO
  have HZ := Lib.hid hsz
  clear ht hP hsz her hag
  go_enter Try.func62, Try.ntmps62
  go_upto_region 1 with (fail)
  have hT := Bk.new w 38 #[v0, v1, v2, v3, v4, v5, v6]
  have hb0 := bel_alloc (Below.refl _ w) (.cells #[v0, v1, v2, v3, v4, v5, v6] 38)
  generalize World.alloc w _ = W0 at hT hb0 ⊢
  have t0 := hT.at_ (i := 0) rfl; have t1 := hT.at_ (i := 1) rfl; have t2 := hT.at_ (i := 2) rfl; have t3 := hT.at_ (i := 3) rfl; have t4 := hT.at_ (i := 4) rfl; have t5 := hT.at_ (i := 5) rfl; have t6 := hT.at_ (i := 6) rfl
  go_wp2_with fail
  refine (HF.out _ hb0).mono ?_
  unfold SpotP
  rintro e w1 ⟨rfl, hb1⟩
  obtain ⟨sp, hsp⟩ : ∃ x, spotS d t p = x := ⟨_, rfl⟩
  obtain ⟨fe, hfe⟩ : ∃ x, findE d t p = x := ⟨_, rfl⟩
  rw [hsp, hfe]
  have HSP := Lib.hid hsp
  have HFE := Lib.hid hfe
  have hT1 := (hT.below hb1 hT.lt).alloc (.cells #[.int .i64 sp.bit, .int .i64 sp.bits, .int .i64 sp.k] 48)
  have h8 := Bk.new w1 48 #[.int .i64 sp.bit, .int .i64 sp.bits, .int .i64 sp.k]
  have hb2 := bel_alloc (bel_then hb0 hb1) (.cells #[.int .i64 sp.bit, .int .i64 sp.bits, .int .i64 sp.k] 48)
  clear t0 t1 t2 t3 t4 t5 t6 hb0 hb1 hT hsp hfe
  go_upto_region 2 with (fail)
  generalize World.alloc w1 _ = W3 at hT1 h8 hb2 ⊢
  by_cases he : fe = 0
  · subst he
    have t0 := hT1.at_ (i := 0) rfl; have t1 := hT1.at_ (i := 1) rfl; have t2 := hT1.at_ (i := 2) rfl; have t3 := hT1.at_ (i := 3) rfl; have t4 := hT1.at_ (i := 4) rfl; have t5 := hT1.at_ (i := 5) rfl; have t6 := hT1.at_ (i := 6) rfl
    have HB2 := Lib.hid hb2
    clear hb2
    go_wp2_with fail
    refine (HO.out _ HB2.out).mono ?_
    rintro e w4 ⟨XA, xn, xc, rfl, hb4, -, -⟩
    have h84 := (h8.below hb4 h8.lt).alloc (.cells #[.int .i64 sz, .int .i64 ag, .bool false, .slice XA xn xc] 58)
    have h10 := Bk.new w4 58 #[.int .i64 sz, .int .i64 ag, .bool false, .slice XA xn xc]
    have hb5 := bel_alloc (bel_then HB2.out hb4) (.cells #[.int .i64 sz, .int .i64 ag, .bool false, .slice XA xn xc] 58)
    clear t0 t1 t2 t3 t4 t5 t6 hT1 h8 hb4
    go_upto_region 5 with (fail)
    generalize World.alloc w4 _ = W5 at h84 h10 hb5 ⊢
    have k0 := h10.at_ (i := 0) rfl
    have hlen := Int.natCast_nonneg s.size
    by_cases hn : (s.size : Int) = sz
    · have hne : ((s.size : Int) != sz) = false := by simpa using hn
      have HE := Lib.hid (show sizedE d t s.size p = 0 by unfold sizedE; rw [if_pos HFE.out, if_pos (by rw [HZ.out]; exact hn)])
      obtain ⟨e1, e2, e3, bt, bs, e4, e5, e6, e7, e8, e9⟩ := sized_0 HE.out
      obtain ⟨u, hu⟩ : ∃ u : Nat, v % 18446744073709551616 = (u : Int) := ⟨(v % 18446744073709551616).toNat, by omega⟩
      have HV := Lib.hid (put_yes (v := v) HE.out e4 e5 hu)
      obtain ⟨sb, ss, sk⟩ := sp
      rw [HSP.out] at e4 e5
      simp only at e4 e5 h84
      subst e4 e5
      obtain ⟨cap, W6, hrun, ⟨rest, hby⟩, hb6⟩ := conv_bytes W5 s
      have h86 := h84.below hb6 h84.lt
      have u0 := h86.at_ (i := 0) rfl; have u1 := h86.at_ (i := 1) rfl; have u2 := h86.at_ (i := 2) rfl
      have hl := byN_len s
      have HWR := rwrite_c W5.heap.size cap (byN s) rest bt bs sk v u W6 hby (byN_lt s) (by omega) (by omega) e7 hu
      rw [hl] at HWR
      replace HWR := Lib.hid HWR
      have HLT := Lib.hid (wrS_lt (u := u) (byN_lt s) (show bt + bs ≤ 8 * (byN s).length by omega))
      have HLN := Lib.hid (show (wrS (byN s) bt u bs).length = s.size by rw [wrS_len, hl])
      have HB6 := Lib.hid (bel_then hb5 hb6)
      have hgz := hb5.size
      clear e1 e2 e3 e6 e7 e8 e9 hby hb6 h86 hl hn hb5 hu
      go_wp2_with fail
      refine HWR.out.mono ?_
      rintro e w7 ⟨⟨r, rfl⟩, hby7, hgx⟩
      have HB7 := Lib.hid (Gx.bel HB6.out hgx hgz)
      have hcv := conv_back hby7 HLT.out cap
      rw [HLN.out, ← HV.out] at hcv
      clear hby7 hgx hrun u0 u1 u2
      go_wp2_with fail
      go_ret2
      exact PutP.mk rfl HE.out HB7.out
    · have hne : ((s.size : Int) != sz) = true := by simpa using hn
      have HE := Lib.hid (show sizedE d t s.size p = 2 by unfold sizedE; rw [if_pos HFE.out, if_neg (by rw [HZ.out]; exact hn)])
      go_wp2_with fail
      go_ret2
      exact PutP.mk (put_no (by rw [HE.out]; decide)) HE.out hb5
  · have hne : (fe != 0) = true := by simpa using he
    have HE := Lib.hid (show sizedE d t s.size p = fe by unfold sizedE; rw [HFE.out, if_neg he])
    go_wp2_with fail
    go_ret2
    exact PutP.mk (put_no (by rw [HE.out]; exact he)) HE.out hb2
end Go.Proofs.Ytcggghamnmflcaa

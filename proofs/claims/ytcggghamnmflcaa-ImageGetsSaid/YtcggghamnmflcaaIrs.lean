/- burinref11.Spot. ImageSpots. -/
import Derived.Test.YtcggghamnmflcaaIro
import Derived.Test.YtcggghamnmflcaaSri
namespace Go.Proofs.Ytcggghamnmflcaa
open Go Go.RowKit Go.Shelf
attribute [local go_sem ↓] eq48 guard48
theorem results58 {tmps : Array Value} {W : World} {g : Nat} {v0 v1 v2 v : Value} (h4 : tmps.getD 4 undef = .pointer (some ⟨g, 0, none⟩)) (h5 : tmps.getD 5 undef = v) (h : Bk W g 48 #[v0, v1, v2]) :
    (results Try.f58 tmps).run Try.prog W = .ok (.tuple #[.agg #[v0, v1, v2], v]) W := by
  have c0 : W.cell? ⟨g, 0, none⟩ = some v0 := h.at_ (i := 0) rfl
  have c1 : W.cell? ⟨g, 1, none⟩ = some v1 := h.at_ (i := 1) rfl
  have c2 : W.cell? ⟨g, 2, none⟩ = some v2 := h.at_ (i := 2) rfl
  rw [Array.getD_eq_getD_getElem?] at h4 h5
  simp [results, Try.results58, go_sem, h4, h5, c0, c1, c2]
theorem SpotP.mk {d : Nat} {t : Tp d} {p : List Int} {w w' : World} {a b k fe : Int} (h1 : spotS d t p = ⟨a, b, k⟩) (h2 : findE d t p = fe) (hb : Below w.heap.size w w') :
    SpotP d t p w (.returned (.tuple #[.agg #[.int .i64 a, .int .i64 b, .int .i64 k], .int .i64 fe])) w' := by
  unfold SpotP
  rw [h1, h2]
  exact ⟨rfl, hb⟩
set_option maxRecDepth 100000 in
set_option maxHeartbeats 2000000 in
theorem rspot_c {d : Nat} {t : Tp d} {v0 v1 v2 v3 v4 v5 v6 : Value} (A : Option Addr) (p : List Int) (c : Nat) (w : World) (ht : TyAt w d t [v0, v1, v2, v3, v4, v5, v6]) (hP : IntsAt w A p.length p) (hc1 : p.length ≤ c) (hc2 : c ≤ 9223372036854775807) :
    Calls Try.prog 58 #[.agg #[v0, v1, v2, v3, v4, v5, v6], .slice A p.length c] w (SpotP d t p w) := by
  have HO := fun w' (hb : Below w.heap.size w w') => rOf_c (ht.below hb)
  unfold OfP at HO
  obtain ⟨sz, hsz⟩ : ∃ x, szS d t = x := ⟨_, rfl⟩
  obtain ⟨ag, hag⟩ : ∃ x, agS d t = x := ⟨_, rfl⟩
  obtain ⟨er, her⟩ : ∃ x, errS d t = x := ⟨_, rfl⟩
  rw [hsz, hag, her] at HO
  replace HO := Lib.hid HO
  have HER := Lib.hid her
  have HT := Lib.hid ht
  have HP := Lib.hid hP
  clear ht hP her
  go_enter Try.func58, Try.ntmps58
  go_upto_region 1 with (fail)
  have hT := (Bk.new w 38 #[v0, v1, v2, v3, v4, v5, v6]).alloc (.cells #[.int .i64 0, .int .i64 0, .int .i64 0] 48)
  have h4 := Bk.new1 w (.cells #[v0, v1, v2, v3, v4, v5, v6] 38) 48 #[.int .i64 0, .int .i64 0, .int .i64 0]
  have hb0 := bel_alloc (bel_alloc (Below.refl _ w) (.cells #[v0, v1, v2, v3, v4, v5, v6] 38)) (.cells #[.int .i64 0, .int .i64 0, .int .i64 0] 48)
  generalize World.alloc (World.alloc w _) _ = W0 at hT h4 hb0 ⊢
  have t0 := hT.at_ (i := 0) rfl; have t1 := hT.at_ (i := 1) rfl; have t2 := hT.at_ (i := 2) rfl; have t3 := hT.at_ (i := 3) rfl; have t4 := hT.at_ (i := 4) rfl; have t5 := hT.at_ (i := 5) rfl; have t6 := hT.at_ (i := 6) rfl
  go_wp2_with fail
  refine (HO.out _ hb0).mono ?_
  rintro e w1 ⟨XA, xn, xc, rfl, hb1, -, -⟩
  have hT1 := (hT.below hb1 hT.lt).alloc (.cells #[.int .i64 sz, .int .i64 ag, .bool false, .slice XA xn xc] 58)
  have h41 := (h4.below hb1 h4.lt).alloc (.cells #[.int .i64 sz, .int .i64 ag, .bool false, .slice XA xn xc] 58)
  have hb2 := bel_alloc (bel_then hb0 hb1) (.cells #[.int .i64 sz, .int .i64 ag, .bool false, .slice XA xn xc] 58)
  clear t0 t1 t2 t3 t4 t5 t6 hb0 hb1 hT h4
  go_upto_region 2 with (fail)
  generalize World.alloc w1 _ = W2 at hT1 h41 hb2 ⊢
  by_cases he : er = 0
  · subst he
    obtain ⟨q1, q2⟩ := err_0 HER.out
    have hok := boxS_ok d t 6 _ q1 q2
    have HB2 := Lib.hid hb2
    have HW := Lib.hid (rwalk_c d t v0 v1 v2 v3 v4 v5 v6 A p c 0 0 6 _ W2 q1 (by omega) q2 (HT.out.below hb2) (HP.out.below hb2) hc1 hc2 (by omega) (by have := hok.2.1; omega) (by omega) (by omega))
    have t0 := hT1.at_ (i := 0) rfl; have t1 := hT1.at_ (i := 1) rfl; have t2 := hT1.at_ (i := 2) rfl; have t3 := hT1.at_ (i := 3) rfl; have t4 := hT1.at_ (i := 4) rfl; have t5 := hT1.at_ (i := 5) rfl; have t6 := hT1.at_ (i := 6) rfl
    clear q1 q2 hok hb2
    go_wp2_with fail
    refine HW.out.mono ?_
    rintro e w3 ⟨sp, us, B, k, c', ok, rfl, -, -, hres, hb3⟩
    have HRES := Lib.hid hres
    have h43 := (h41.below hb3 h41.lt).alloc (.cells #[.int .i64 sp.bit, .int .i64 sp.bits, .int .i64 sp.k] 48)
    have h8 := Bk.new w3 48 #[.int .i64 sp.bit, .int .i64 sp.bits, .int .i64 sp.k]
    have hb4 := bel_alloc (bel_then HB2.out hb3) (.cells #[.int .i64 sp.bit, .int .i64 sp.bits, .int .i64 sp.k] 48)
    clear t0 t1 t2 t3 t4 t5 t6 hres hT1 h41 hb3
    go_upto_region 5 with (fail)
    generalize World.alloc w3 _ = W4 at h43 h8 hb4 ⊢
    have f40 := h43.frozen 0; have f41 := h43.frozen 1; have f42 := h43.frozen 2
    have u40 := h43.at_ (i := 0) rfl; have u41 := h43.at_ (i := 1) rfl; have u42 := h43.at_ (i := 2) rfl
    have u80 := h8.at_ (i := 0) rfl; have u81 := h8.at_ (i := 1) rfl; have u82 := h8.at_ (i := 2) rfl
    cases ok with
    | true =>
      have HQ := Lib.hid (find_some HER.out (show walkS d t 0 0 p = some (sp, us) by
        rcases HRES.out with ⟨_, h⟩ | ⟨h, _⟩
        · exact h
        · cases h))
      go_wp2_with fail
      exact bodyPost_ret (results58 rfl rfl (fin3 h43 _ _ _)) rfl (SpotP.mk HQ.out.2.1 HQ.out.1 (fin3b hb4 (by omega) _ _ _))
    | false =>
      have HQ := Lib.hid (find_none HER.out (show walkS d t 0 0 p = none by
        rcases HRES.out with ⟨h, _⟩ | ⟨_, h⟩
        · cases h
        · exact h))
      go_wp2_with fail
      exact bodyPost_ret (results58 rfl rfl (fin3 h43 _ _ _)) rfl (SpotP.mk HQ.out.2.1 HQ.out.1 (fin3b hb4 (by omega) _ _ _))
  · have hne : (er != 0) = true := by simpa using he
    have HQ := Lib.hid (find_no (p := p) (show errS d t ≠ 0 by rw [HER.out]; exact he))
    have f40 := h41.frozen 0; have f41 := h41.frozen 1; have f42 := h41.frozen 2
    have u40 := h41.at_ (i := 0) rfl; have u41 := h41.at_ (i := 1) rfl; have u42 := h41.at_ (i := 2) rfl
    go_wp2_with fail
    exact bodyPost_ret (results58 rfl rfl (fin3 h41 _ _ _)) rfl (SpotP.mk HQ.out.2.1 (HQ.out.1.trans HER.out) (fin3b hb2 (by omega) _ _ _))
set_option maxRecDepth 100000 in
set_option maxHeartbeats 4000000 in
theorem imageSpots_w (d : Nat) (t : Tp d) (v0 v1 v2 v3 v4 v5 v6 : Value) (A : Option Addr) (p : List Int) (c : Nat) (w : World) (ht : TyAt w d t [v0, v1, v2, v3, v4, v5, v6]) (hc1 : p.length ≤ c) (hc2 : c ≤ 9223372036854775807) (hP : IntsAt w A p.length p) :
    Calls Try.prog 18 #[.agg #[v0, v1, v2, v3, v4, v5, v6], .slice A p.length c] w fun e w' => e = .returned (.bool true) ∧ Below w.heap.size w w' := by
  have HS := Lib.hid (fun w' (hb : Below w.heap.size w w') => spot_c A p c w' (ht.below hb) (hP.below hb) hc1 hc2)
  have HR := Lib.hid (fun w' (hb : Below w.heap.size w w') => rspot_c A p c w' (ht.below hb) (hP.below hb) hc1 hc2)
  clear ht hP
  go_enter Try.func18, Try.ntmps18
  go_wp2_with fail
  refine (shown54_c _).mono ?_
  rintro e w1 ⟨rfl, hb1⟩
  have hT1 := (Bk.new w 38 #[v0, v1, v2, v3, v4, v5, v6]).below hb1 (by simp)
  have t0 := hT1.at_ (i := 0) rfl; have t1 := hT1.at_ (i := 1) rfl; have t2 := hT1.at_ (i := 2) rfl; have t3 := hT1.at_ (i := 3) rfl; have t4 := hT1.at_ (i := 4) rfl; have t5 := hT1.at_ (i := 5) rfl; have t6 := hT1.at_ (i := 6) rfl
  have HB1 := Lib.hid (bel_then (bel_alloc (Below.refl _ _) _) hb1)
  clear hb1
  go_wp2_with fail
  refine (HS.out _ HB1.out).mono ?_
  unfold SpotP
  rintro e w2 ⟨rfl, hb2⟩
  obtain ⟨⟨sb, ss, sk⟩, hsp⟩ : ∃ x, spotS d t p = x := ⟨_, rfl⟩
  obtain ⟨fe, hfe⟩ : ∃ x, findE d t p = x := ⟨_, rfl⟩
  unfold SpotP at HR
  rw [hsp, hfe] at HR ⊢
  clear hsp hfe
  simp only at HR ⊢
  have hT2 := (hT1.below hb2 hT1.lt).alloc (.cells #[.int .i64 sb, .int .i64 ss, .int .i64 sk] 48)
  have hS2 := Bk.new w2 48 #[.int .i64 sb, .int .i64 ss, .int .i64 sk]
  have hB2 := bel_alloc (bel_then HB1.out hb2) (.cells #[.int .i64 sb, .int .i64 ss, .int .i64 sk] 48)
  clear t0 t1 t2 t3 t4 t5 t6 hT1 HB1 hb2
  go_upto_region 3 with (fail)
  generalize World.alloc w2 _ = W3 at hT2 hS2 hB2 ⊢
  have t0 := hT2.at_ (i := 0) rfl; have t1 := hT2.at_ (i := 1) rfl; have t2 := hT2.at_ (i := 2) rfl; have t3 := hT2.at_ (i := 3) rfl; have t4 := hT2.at_ (i := 4) rfl; have t5 := hT2.at_ (i := 5) rfl; have t6 := hT2.at_ (i := 6) rfl
  have HB2 := Lib.hid hB2
  clear hB2
  go_wp2_with fail
  refine (HR.out _ HB2.out).mono ?_
  rintro e w4 ⟨rfl, hb4⟩
  have hS4 := (hS2.below hb4 hS2.lt).alloc (.cells #[.int .i64 sb, .int .i64 ss, .int .i64 sk] 48)
  have hR4 := Bk.new w4 48 #[.int .i64 sb, .int .i64 ss, .int .i64 sk]
  have hB4 := bel_alloc (bel_then HB2.out hb4) (.cells #[.int .i64 sb, .int .i64 ss, .int .i64 sk] 48)
  clear t0 t1 t2 t3 t4 t5 t6 hT2 hS2 HB2 hb4
  go_upto_region 4 with (fail)
  generalize World.alloc w4 _ = W5 at hS4 hR4 hB4 ⊢
  have s0 := hS4.at_ (i := 0) rfl; have s1 := hS4.at_ (i := 1) rfl; have s2 := hS4.at_ (i := 2) rfl
  have r0 := hR4.at_ (i := 0) rfl; have r1 := hR4.at_ (i := 1) rfl; have r2 := hR4.at_ (i := 2) rfl
  have hq : eqB sb ss sk sb ss sk = true := by unfold eqB; simp
  have HB4 := Lib.hid hB4
  clear hB4 hS4 hR4
  go_wp2_with fail
  go_ret
  exact ⟨rfl, HB4.out⟩
end Go.Proofs.Ytcggghamnmflcaa

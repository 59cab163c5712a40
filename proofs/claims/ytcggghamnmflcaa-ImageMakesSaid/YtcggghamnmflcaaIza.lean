/- image.Make. -/
import Derived.Test.YtcggghamnmflcaaImz
namespace Go.Proofs.Ytcggghamnmflcaa
open Go Go.RowKit Go.Shelf
theorem fail_none {d : Nat} {t : Tp d} {l : List (List Int × Int)} (h : ∀ x ∈ l, (walkS d t 0 0 x.1).isSome = true) : failI d t l = none := by
  unfold failI
  rw [List.findIdx?_eq_none_iff]
  intro x hx
  have := h x hx
  cases hw : walkS d t 0 0 x.1 with
  | none => rw [hw] at this; cases this
  | some r => rfl
theorem fail_some {d : Nat} {t : Tp d} {l : List (List Int × Int)} {j : Nat} {x : List Int × Int} (h : ∀ y ∈ l.take j, (walkS d t 0 0 y.1).isSome = true) (hx : l[j]? = some x) (hn : walkS d t 0 0 x.1 = none) : failI d t l = some j := by
  unfold failI
  obtain ⟨hj, hx'⟩ := List.getElem?_eq_some_iff.1 hx
  rw [List.findIdx?_eq_some_iff_getElem]
  refine ⟨hj, by rw [hx', hn]; rfl, fun i hi => ?_⟩
  have := h l[i] (by
    rw [List.mem_take_iff_getElem]
    exact ⟨i, by omega, rfl⟩)
  cases hw : walkS d t 0 0 l[i].1 with
  | none => rw [hw] at this; cases this
  | some r => simp
/-- What Make answers. -/
def MakP (d : Nat) (t : Tp d) (l : List (List Int × Int)) (w : World) (e : Ending) (w' : World) : Prop :=
  e = .returned (.tuple #[.string (mkV d t l), .int .i64 (mkE d t l), .int .i64 (mkI d t l)]) ∧ Below w.heap.size w w'
theorem mk_bad {d : Nat} {t : Tp d} {l : List (List Int × Int)} (h : errS d t ≠ 0) : mkE d t l = errS d t ∧ mkI d t l = 0 ∧ mkV d t l = ⟨#[]⟩ := by
  have e : mkE d t l = errS d t := by unfold mkE; rw [if_neg h]
  exact ⟨e, by unfold mkI; rw [if_neg h], by unfold mkV; rw [e, if_neg h]⟩
theorem mk_path {d : Nat} {t : Tp d} {l : List (List Int × Int)} (h : errS d t = 0) {j : Nat} (hj : failI d t l = some j) : mkE d t l = 110 ∧ mkI d t l = (j : Int) ∧ mkV d t l = ⟨#[]⟩ := by
  have e : mkE d t l = 110 := by unfold mkE; rw [if_pos h, hj]
  exact ⟨e, by unfold mkI; rw [if_pos h, hj], by unfold mkV; rw [e]; rfl⟩
theorem mk_ok {d : Nat} {t : Tp d} {l : List (List Int × Int)} (h : errS d t = 0) (hj : failI d t l = none) : mkE d t l = 0 ∧ mkI d t l = 0 ∧ mkV d t l = ofN (l.foldl (set1 d t) (mst0 (szS d t).toNat)).1 := by
  have e : mkE d t l = 0 := by unfold mkE; rw [if_pos h, hj]
  exact ⟨e, by unfold mkI; rw [if_pos h, hj], by unfold mkV; rw [e]; rfl⟩
set_option maxRecDepth 100000 in
set_option maxHeartbeats 4000000 in
theorem make_c {d : Nat} {t : Tp d} {v0 v1 v2 v3 v4 v5 v6 : Value} (A : Option Addr) (l : List (List Int × Int)) (c : Nat) (w : World) (ht : TyAt w d t [v0, v1, v2, v3, v4, v5, v6]) (hS : SetsAt w A l.length l) (hl : l.length ≤ 9223372036854775807) :
    Calls Try.prog 55 #[.agg #[v0, v1, v2, v3, v4, v5, v6], .slice A l.length c] w (MakP d t l w) := by
  have HT := Lib.hid ht
  have HS := Lib.hid hS
  have HSZ := Lib.hid (fun w' (hb : Below w.heap.size w w') => ssize_c (ht.below hb))
  obtain ⟨V, hV⟩ : ∃ x, mkV d t l = x := ⟨_, rfl⟩
  obtain ⟨E, hE⟩ : ∃ x, mkE d t l = x := ⟨_, rfl⟩
  obtain ⟨I, hI⟩ : ∃ x, mkI d t l = x := ⟨_, rfl⟩
  have HV := Lib.hid hV
  have HE := Lib.hid hE
  have HI := Lib.hid hI
  have HP := Lib.hid (show ∀ e w', (e = .returned (.tuple #[.string V, .int .i64 E, .int .i64 I]) ∧ Below w.heap.size w w') → MakP d t l w e w' from fun e w' h => by unfold MakP; rw [hV, hE, hI]; exact h)
  obtain ⟨sz, hsz⟩ : ∃ x, szS d t = x := ⟨_, rfl⟩
  obtain ⟨ag, hag⟩ : ∃ x, agS d t = x := ⟨_, rfl⟩
  obtain ⟨er, her⟩ : ∃ x, errS d t = x := ⟨_, rfl⟩
  rw [hsz, hag, her] at HSZ
  have HZ := Lib.hid hsz
  have HER := Lib.hid her
  clear ht hS hV hE hI hsz hag her
  refine Calls.mono ?_ (fun e w' h => HP.out e w' h)
  clear HP
  go_enter Try.func55, Try.ntmps55
  go_upto_region 1 with (fail)
  have hT := Bk.new w 38 #[v0, v1, v2, v3, v4, v5, v6]
  have hb0 := bel_alloc (Below.refl _ w) (.cells #[v0, v1, v2, v3, v4, v5, v6] 38)
  generalize World.alloc w _ = W0 at hT hb0 ⊢
  have t0 := hT.at_ (i := 0) rfl; have t1 := hT.at_ (i := 1) rfl; have t2 := hT.at_ (i := 2) rfl; have t3 := hT.at_ (i := 3) rfl; have t4 := hT.at_ (i := 4) rfl; have t5 := hT.at_ (i := 5) rfl; have t6 := hT.at_ (i := 6) rfl
  go_wp2_with fail
  refine (HSZ.out _ hb0).mono ?_
  rintro e w1 ⟨rfl, hb1⟩
  have hT1 := hT.below hb1 hT.lt
  have HB1 := Lib.hid (bel_then hb0 hb1)
  clear t0 t1 t2 t3 t4 t5 t6 hb0 hb1 hT
  by_cases he : er = 0
  · subst he
    obtain ⟨q1, q2⟩ := err_0 HER.out
    have hok := boxS_ok d t 6 _ q1 q2
    have hsz' : szS d t = (boxD d t).size := by unfold szS; rw [if_pos HER.out]
    obtain ⟨n, rfl⟩ : ∃ n : Nat, sz = (n : Int) := ⟨sz.toNat, by have := hok.1; have := HZ.out; omega⟩
    have hn1 : 1 ≤ n ∧ n ≤ 65536 := by have := hok.1; have := hok.2.1; have := HZ.out; omega
    have HQ1 := Lib.hid q1
    have HQ2 := Lib.hid q2
    have HN := Lib.hid (show (boxD d t).size = (n : Int) by rw [← hsz', HZ.out])
    clear q1 q2 hok hsz'
    have hmk := fun W => make_bytes W n hn1.2
    have hmm := @run_makeMap Try.prog
    go_upto_region 7 with (fail)
    have hby : ByA (((w1.alloc (.cells (byC (List.replicate n 0)).toArray 5)).alloc (.cells (byC (List.replicate n 0)).toArray 5)).alloc (.map #[] 0)) w1.heap.size (List.replicate n 0) [] := .of_bk (by rw [List.append_nil]; exact ((Bk.new w1 5 _).alloc _).alloc _)
    have hno : ByA (((w1.alloc (.cells (byC (List.replicate n 0)).toArray 5)).alloc (.cells (byC (List.replicate n 0)).toArray 5)).alloc (.map #[] 0)) (w1.heap.size + 1) (List.replicate n 0) [] := .of_bk (by rw [List.append_nil]; exact (Bk.new1 w1 (.cells (byC (List.replicate n 0)).toArray 5) 5 (byC (List.replicate n 0)).toArray).alloc (.map #[] 0))
    have hmp : MapA (((w1.alloc (.cells (byC (List.replicate n 0)).toArray 5)).alloc (.cells (byC (List.replicate n 0)).toArray 5)).alloc (.map #[] 0)) (w1.heap.size + 2) [] := by
      have h := MapA.new ((w1.alloc (.cells (byC (List.replicate n 0)).toArray 5)).alloc (.cells (byC (List.replicate n 0)).toArray 5))
      rw [World.size_alloc, World.size_alloc] at h
      exact h
    have hT7 := ((hT1.alloc (.cells (byC (List.replicate n 0)).toArray 5)).alloc (.cells (byC (List.replicate n 0)).toArray 5)).alloc (.map #[] 0)
    have hb7 := bel_alloc (bel_alloc (bel_alloc HB1.out (.cells (byC (List.replicate n 0)).toArray 5)) (.cells (byC (List.replicate n 0)).toArray 5)) (.map #[] 0)
    have hgb2 := hT1.lt
    clear hmk hmm hT1 HB1
    obtain ⟨gb, hgbe⟩ : ∃ g, w1.heap.size = g := ⟨_, rfl⟩
    generalize World.alloc (World.alloc (World.alloc w1 _) _) _ = W7 at hby hno hmp hT7 hb7 ⊢
    rw [hgbe] at hby hno hmp hgb2 ⊢
    clear hgbe
    have HM7 := Lib.hid (show MkM w gb n v0 v1 v2 v3 v4 v5 v6 (mst0 n) W7 from ⟨hby, hno, ⟨[], hmp, fun k => rfl⟩, hb7, hT7, by simp [mst0], fun x hx => by have := List.eq_of_mem_replicate hx; omega⟩)
    clear hby hno hmp hT7 hb7
    go_wp2_with fail
    go_loopw [37] (fun s37 wr => ∃ j : Nat, j ≤ l.length ∧ s37 = .int .i64 j ∧ (∀ x ∈ l.take j, (walkS d t 0 0 x.1).isSome = true) ∧ MkM w gb n v0 v1 v2 v3 v4 v5 v6 ((l.take j).foldl (set1 d t) (mst0 n)) wr) (fun i _ => l.length - (intOf i).toNat)
    case atStart => exact ⟨0, Nat.zero_le _, rfl, by simp, HM7.out⟩
    case round =>
      clear HM7
      obtain ⟨j, hj, rfl, hall, hM⟩ := hrel
      have HALL := Lib.hid hall
      clear hall
      by_cases hlt : j < l.length
      · obtain ⟨x, hx⟩ : ∃ x, l[j]? = some x := ⟨_, List.getElem?_eq_getElem hlt⟩
        obtain ⟨sb', so, PA, pc, rfl, c0, c1, hPI, hp1, hp2⟩ := HS.out.2 j x hx
        have hsnoc := set1_snoc d t (l.take j) (mst0 n) x
        rw [← take_snoc_of hx] at hsnoc
        obtain ⟨st, hst⟩ : ∃ s, (l.take j).foldl (set1 d t) (mst0 n) = s := ⟨_, rfl⟩
        rw [hst] at hsnoc hM
        obtain ⟨p, xv⟩ := x
        simp only at c0 c1 hPI hp1 hp2 hsnoc
        have HSN := Lib.hid hsnoc
        have HXX := Lib.hid hx
        replace c0 := bel_cell hM.bel c0
        replace c1 := bel_cell hM.bel c1
        have HF := Lib.hid (fun w' (hb : Below w.heap.size w w') => follow_c PA p pc w' HQ1.out HQ2.out (HT.out.below hb) (hPI.below hb) hp1 hp2)
        clear hsnoc hx hPI hst
        have HPL := Lib.hid (Nat.le_trans hp1 hp2)
        obtain ⟨np, hnp⟩ : ∃ y, p.length = y := ⟨_, rfl⟩
        rw [hnp] at c0 HF
        clear hp1 hnp
        obtain ⟨wo, rfl⟩ : ∃ wo : World, wo = wr := ⟨_, rfl⟩
        go_upto_region 10 with (fail)
        have h14 := Bk.new wo 77 #[.slice PA np pc, .int .i64 xv]
        have hM2 := hM.below (bel_alloc (Below.refl _ wo) (.cells #[.slice PA np pc, .int .i64 xv] 77))
        obtain ⟨G14, hG14⟩ : ∃ g, wo.heap.size = g := ⟨_, rfl⟩
        have hgl : gb + 2 < G14 := by obtain ⟨L, h, _⟩ := hM.mp; rw [← hG14]; exact h.lt
        rw [hG14] at h14 ⊢
        generalize World.alloc wo _ = W2 at h14 hM2 ⊢
        clear hM c0 c1 hG14
        have t0 := hM2.g2.at_ (i := 0) rfl; have t1 := hM2.g2.at_ (i := 1) rfl; have t2 := hM2.g2.at_ (i := 2) rfl; have t3 := hM2.g2.at_ (i := 3) rfl; have t4 := hM2.g2.at_ (i := 4) rfl; have t5 := hM2.g2.at_ (i := 5) rfl; have t6 := hM2.g2.at_ (i := 6) rfl
        have p0 := h14.at_ (i := 0) rfl
        have HM2 := Lib.hid hM2
        clear hM2
        go_wp2_with fail
        refine (HF.out _ HM2.out.bel).mono ?_
        rintro e w4 ⟨s', B, k, c', rfl, hw, hb4⟩
        have h144 := h14.below hb4 h14.lt
        have HM4 := Lib.hid (HM2.out.below hb4)
        have hsz4 := h14.lt
        clear t0 t1 t2 t3 t4 t5 t6 p0 h14 HM2
        cases hws : walkS d t 0 0 p with
        | none =>
          obtain ⟨k1, k2, k3⟩ := mk_path HER.out (fail_some HALL.out HXX.out hws)
          obtain rfl : V = ⟨#[]⟩ := by rw [← HV.out]; exact k3
          obtain rfl : E = 110 := by rw [← HE.out]; exact k1
          obtain rfl : I = (j : Int) := by rw [← HI.out]; exact k2
          simp only [Option.isSome_none]
          clear hw hb4 h144 k1 k2 k3 hws HSN
          go_wp2_with fail
          go_ret3
          exact ⟨rfl, bel_alloc HM4.out.bel _⟩
        | some r =>
          obtain ⟨s1, us⟩ := r
          obtain ⟨rfl, hst⟩ := hw s1 us hws
          obtain ⟨k1, k2, k3, k4⟩ := walk_rng HQ1.out HQ2.out hws
          have hrg := stp_rng d t 0 0 p s' us _ HQ1.out HQ2.out hws
          rw [HN.out] at k4 hrg
          have hsn := HSN.out
          have hset : set1 d t st (p, xv) = (wrS (us.foldl thr1 st).1 s'.bit.toNat (xv % 18446744073709551616).toNat s'.bits.toNat, (us.foldl thr1 st).2) := by
            unfold set1
            simp only
            rw [hws]
          rw [hset] at hsn
          clear hset
          have HWS := Lib.hid hws
          have hul := Nat.le_trans (walk_len d t 0 0 p s' us _ HQ1.out HQ2.out hws) HPL.out
          have HRG := Lib.hid hrg
          simp only [Option.isSome_some]
          obtain ⟨bt, bs, e4, e5, e6, e7, e8⟩ : ∃ bt bs : Nat, s'.bit = (bt : Int) ∧ s'.bits = (bs : Int) ∧ 1 ≤ bs ∧ bs ≤ 64 ∧ bt + bs ≤ 8 * n := ⟨s'.bit.toNat, s'.bits.toNat, by omega, by omega, by omega, by omega, by omega⟩
          obtain ⟨u, hu⟩ : ∃ u : Nat, xv % 18446744073709551616 = (u : Int) := ⟨(xv % 18446744073709551616).toNat, by omega⟩
          rw [e4, e5, hu, Int.toNat_natCast, Int.toNat_natCast, Int.toNat_natCast] at hsn
          rw [e4, e5]
          have HSN2 := Lib.hid hsn
          have HU := Lib.hid hu
          obtain ⟨sk, hsk⟩ : ∃ y, s'.k = y := ⟨_, rfl⟩
          rw [hsk]
          obtain rfl : k = us.length := hst.1.1
          clear hw hws hrg hsn hu hsk e4 e5 HSN k1 k2 k3 k4
          go_upto_region 11 with (fail)
          have h15 := Bk.new w4 119 #[.int .i64 bt, .int .i64 bs, .int .i64 sk, .slice B us.length c']
          have h145 := h144.alloc (.cells #[.int .i64 bt, .int .i64 bs, .int .i64 sk, .slice B us.length c'] 119)
          have HM5 := Lib.hid (HM4.out.below (bel_alloc (Below.refl _ w4) (.cells #[.int .i64 bt, .int .i64 bs, .int .i64 sk, .slice B us.length c'] 119)))
          have hst5 := hst.below (bel_alloc (Below.refl _ w4) (.cells #[.int .i64 bt, .int .i64 bs, .int .i64 sk, .slice B us.length c'] 119))
          obtain ⟨G15, hG15⟩ : ∃ g, w4.heap.size = g := ⟨_, rfl⟩
          have hgl5 : G14 < G15 := by rw [← hG15]; exact h144.lt
          rw [hG15] at h15 ⊢
          generalize World.alloc w4 _ = W5 at h15 h145 HM5 hst5 ⊢
          clear HM4 h144 hst hb4 hG15
          have r3 := h15.at_ (i := 3) rfl
          have H15 := Lib.hid h15
          have H14 := Lib.hid h145
          have HST := Lib.hid hst5
          clear h15 h145 hst5
          go_wp2_with fail
          go_loopw [55] (fun s55 wr => ∃ i : Nat, i ≤ us.length ∧ s55 = .int .i64 i ∧ KpB gb W5 wr ∧ MkM w gb n v0 v1 v2 v3 v4 v5 v6 ((us.take i).foldl thr1 st) wr) (fun i _ => us.length - (intOf i).toNat)
          case atStart => exact ⟨0, Nat.zero_le _, rfl, KpB.refl _ _, HM5.out⟩
          case round =>
            clear HM5 r3
            obtain ⟨i, hi, rfl, hkp, hMi⟩ := hrel
            have h15 := hkp.bk H15.out (by omega) (by omega)
            have h14 := hkp.bk H14.out (by omega) (by omega)
            have hstp := hkp.stps HST.out (by omega)
            have HKP := Lib.hid hkp
            clear hkp
            by_cases hil : i < us.length
            · obtain ⟨s, hs⟩ : ∃ s, us[i]? = some s := ⟨_, List.getElem?_eq_getElem hil⟩
              obtain ⟨ub, uo, rfl, a0, a1, a2, a3⟩ := hstp.1.2 i s hs
              obtain ⟨g1, g2, g3⟩ := HRG.out s (List.mem_of_getElem? hs)
              have hsn := thr_snoc (us.take i) st s
              rw [← take_snoc_of hs] at hsn
              obtain ⟨sti, hsti⟩ : ∃ y, (us.take i).foldl thr1 st = y := ⟨_, rfl⟩
              rw [hsti] at hsn hMi
              have HSI := Lib.hid hsn
              have r3 := h15.at_ (i := 3) rfl
              have hM6 := hMi.below (bel_alloc (Below.refl _ wr) (.cells #[.int .i64 s.from_, .int .i64 s.size, .int .i64 s.deep, .int .i64 s.member] 125))
              have h18 := Bk.new wr 125 #[.int .i64 s.from_, .int .i64 s.size, .int .i64 s.deep, .int .i64 s.member]
              have hK6 := HKP.out.trans (KpB.of (bel_alloc (Below.refl _ wr) (.cells #[.int .i64 s.from_, .int .i64 s.size, .int .i64 s.deep, .int .i64 s.member] 125)))
              have hgw := HKP.out.size
              clear hsn hs hsti hstp hMi h14 h15
              obtain ⟨wi, rfl⟩ : ∃ wi : World, wi = wr := ⟨_, rfl⟩
              go_upto_region 16 with (fail)
              obtain ⟨G18, hG18⟩ : ∃ g, wi.heap.size = g := ⟨_, rfl⟩
              have hgl8 : gb + 2 < G18 := by have := H15.out.lt; omega
              rw [hG18] at h18 ⊢
              generalize World.alloc wi _ = W6 at hM6 h18 hK6 ⊢
              clear a0 a1 a2 a3 r3 hG18
              obtain ⟨L, hL, hvl⟩ := hM6.mp
              have hlk := lookup_run hL (ukOf s)
              have hvs := hvl (ukOf s)
              unfold valL at hvs
              simp only [Uky.v, ukOf] at hlk
              rw [show gb + 2 = gb + 1 + 1 from rfl] at hlk
              have n0 := h18.at_ (i := 0) rfl; have n1 := h18.at_ (i := 1) rfl; have n2 := h18.at_ (i := 2) rfl; have n3 := h18.at_ (i := 3) rfl
              cases hf : findL L (ukOf s) 0 with
              | none =>
                rw [hf] at hvs
                simp only [ukOf] at hf
                rw [hf] at hlk
                simp only [Option.map_none, Option.getD_none, Option.isSome_none] at hlk
                have HTH := Lib.hid (show thr1 sti s = (sti.1, fun k => if k = ukOf s then some s.member else sti.2 k) by
                  unfold thr1
                  rw [← hvs]
                  rfl)
                have hMc := hM6
                have hKc := hK6
                have h18c := h18
                clear hvs hf hL hvl hM6 hK6 h18
                go_upto_region 19 with (fail)
                clear hlk n0 n1 n2 n3
                have hb18 := h18c
                obtain ⟨Lc, hLc, hvc⟩ := hMc.mp
                obtain ⟨Wu, hup, hma, hgr⟩ := upd_run hLc (ukOf s) s.member
                have hMu := hMc.upd (by omega) hvc (ukOf s) s.member hma hgr
                have hKu := hKc.trans (KpB.upd hgr)
                simp only [Uky.v, ukOf] at hup
                rw [show gb + 2 = gb + 1 + 1 from rfl] at hup
                have HMU := Lib.hid hMu
                have HKU := Lib.hid hKu
                have n0 := hb18.at_ (i := 0) rfl; have n1 := hb18.at_ (i := 1) rfl; have n2 := hb18.at_ (i := 2) rfl; have n3 := hb18.at_ (i := 3) rfl
                clear hMu hKu hma hgr hLc hvc hMc hKc h18c
                go_wp2_with fail
                go_roundw
                case rel => exact ⟨i + 1, by omega, by go_num, HKU.out, by rw [HSI.out, HTH.out]; exact HMU.out⟩
                case measure => simp [intOf]; omega
              | some r =>
                obtain ⟨ix, m⟩ := r
                rw [hf] at hvs
                simp only [ukOf] at hf
                rw [hf] at hlk
                simp only [Option.map_some, Option.getD_some, Option.isSome_some] at hlk
                by_cases hm : m = s.member
                · have HTH := Lib.hid (show thr1 sti s = (sti.1, fun k => if k = ukOf s then some s.member else sti.2 k) by
                    unfold thr1
                    rw [← hvs]
                    simp only [Option.map_some]
                    rw [if_pos hm])
                  have hm' : (m != s.member) = false := by simpa using hm
                  have hMc := hM6
                  have hKc := hK6
                  have h18c := h18
                  clear hvs hf hL hvl hM6 hK6 h18
                  go_upto_region 19 with (fail)
                  clear hlk n0 n1 n2 n3
                  have hb18 := h18c
                  obtain ⟨Lc, hLc, hvc⟩ := hMc.mp
                  obtain ⟨Wu, hup, hma, hgr⟩ := upd_run hLc (ukOf s) s.member
                  have hMu := hMc.upd (by omega) hvc (ukOf s) s.member hma hgr
                  have hKu := hKc.trans (KpB.upd hgr)
                  simp only [Uky.v, ukOf] at hup
                  rw [show gb + 2 = gb + 1 + 1 from rfl] at hup
                  have HMU := Lib.hid hMu
                  have HKU := Lib.hid hKu
                  have n0 := hb18.at_ (i := 0) rfl; have n1 := hb18.at_ (i := 1) rfl; have n2 := hb18.at_ (i := 2) rfl; have n3 := hb18.at_ (i := 3) rfl
                  clear hMu hKu hma hgr hLc hvc hMc hKc h18c
                  go_wp2_with fail
                  go_roundw
                  case rel => exact ⟨i + 1, by omega, by go_num, HKU.out, by rw [HSI.out, HTH.out]; exact HMU.out⟩
                  case measure => simp [intOf]; omega
                · have HTH := Lib.hid (show thr1 sti s = (clr sti.1 s.from_.toNat s.size.toNat, fun k => if k = ukOf s then some s.member else sti.2 k) by
                    unfold thr1
                    rw [← hvs]
                    simp only [Option.map_some]
                    rw [if_neg hm])
                  have hm' : (m != s.member) = true := by simpa using hm
                  have hby := hM6.by_
                  have hno := hM6.no
                  have hlen := hM6.len
                  obtain ⟨uf, huf⟩ : ∃ y : Nat, s.from_ = (y : Int) := ⟨s.from_.toNat, by omega⟩
                  obtain ⟨uz, huz⟩ : ∃ y : Nat, s.size = (y : Int) := ⟨s.size.toNat, by omega⟩
                  have hfz : uf + uz ≤ n := by omega
                  rw [huf, huz, Int.toNat_natCast, Int.toNat_natCast] at HTH
                  rw [huf, huz] at hlk
                  rw [huf] at n0
                  rw [huz] at n1
                  have hz1 : (1 : Int) ≤ (uz : Int) := by omega
                  have hz0 : (0 : Int) ≤ (uf : Int) := Int.natCast_nonneg _
                  have hz2 : (uf : Int) + (uz : Int) ≤ (n : Int) := by omega
                  have hz3 : (uf : Int) < (n : Int) := by omega
                  have hMc := hM6.clr (by omega) hfz
                  have hKc := hK6.trans (KpB.setN (gb := gb) (W := W6) uf (byC (List.replicate uz 0)))
                  have h18c := (KpB.setN (gb := gb) (W := W6) uf (byC (List.replicate uz 0))).bk h18 (by omega) (by omega)
                  have HMC := Lib.hid hMc
                  have HKC := Lib.hid hKc
                  have H18C := Lib.hid h18c
                  clear hvs hf hL hvl hM6 hK6 h18 hMc hKc h18c
                  have hcp := run_copy_by (c := n - uf) (c2 := n) 3 hby hno (show uz ≤ n by omega) (show uf + uz ≤ sti.1.length by omega)
                  clear hby hno hlen
                  go_upto_region 19 with (fail)
                  clear hlk n0 n1 n2 n3 hcp
                  generalize World.setCells W6 gb uf _ = W7 at HMC HKC H18C ⊢
                  have hb18 := H18C.out
                  obtain ⟨Lc, hLc, hvc⟩ := HMC.out.mp
                  obtain ⟨Wu, hup, hma, hgr⟩ := upd_run hLc (ukOf s) s.member
                  have hMu := HMC.out.upd (by omega) hvc (ukOf s) s.member hma hgr
                  have hKu := HKC.out.trans (KpB.upd hgr)
                  simp only [Uky.v, ukOf] at hup
                  rw [show gb + 2 = gb + 1 + 1 from rfl] at hup
                  rw [huf, huz] at hup
                  have HMU := Lib.hid hMu
                  have HKU := Lib.hid hKu
                  have n0 := hb18.at_ (i := 0) rfl; have n1 := hb18.at_ (i := 1) rfl; have n2 := hb18.at_ (i := 2) rfl; have n3 := hb18.at_ (i := 3) rfl
                  clear hMu hKu hma hgr hLc hvc HMC HKC
                  go_wp2_with fail
                  go_roundw
                  case rel => exact ⟨i + 1, by omega, by go_num, HKU.out, by rw [HSI.out, HTH.out]; exact HMU.out⟩
                  case measure => simp [intOf]; omega
            · obtain rfl : i = us.length := by omega
              rw [List.take_length] at hMi
              obtain ⟨st', hst'⟩ : ∃ y, us.foldl thr1 st = y := ⟨_, rfl⟩
              have hsn := HSN2.out
              rw [hst'] at hMi hsn
              have HW := write_c gb n st'.1 [] bt bs sk xv u wr hMi.by_ hMi.lt (by rw [hMi.len]; exact e8) (by rw [hMi.len]; omega) e7 HU.out
              rw [hMi.len] at HW
              have HWR := Lib.hid HW
              have HMI := Lib.hid hMi
              have HS2 := Lib.hid hsn
              have HA2 := Lib.hid (show ∀ x ∈ l.take (j + 1), (walkS d t 0 0 x.1).isSome = true from fun y hy => by
                rw [List.take_add_one, HXX.out] at hy
                rcases List.mem_append.1 hy with h | h
                · exact HALL.out y h
                · simp at h
                  subst h
                  simp only
                  rw [HWS.out]
                  rfl)
              have r0 := h15.at_ (i := 0) rfl; have r1 := h15.at_ (i := 1) rfl; have r2 := h15.at_ (i := 2) rfl
              have r4 := h14.at_ (i := 1) rfl
              clear HW hMi hsn hst' h14 h15 hstp
              go_wp2_with fail
              refine HWR.out.mono ?_
              rintro e w6 ⟨⟨r, rfl⟩, hby6, hgx⟩
              have HM6 := Lib.hid (HMI.out.write (by omega) e8 hby6 hgx)
              clear hby6 hgx r0 r1 r2 r4
              go_wp2_with fail
              go_roundw
              case rel => exact ⟨j + 1, by omega, by go_num, HA2.out, by rw [HS2.out]; exact HM6.out⟩
              case measure => simp [intOf]; omega
      · obtain rfl : j = l.length := by omega
        rw [List.take_length] at hM
        have hal := HALL.out
        rw [List.take_length] at hal
        obtain ⟨k1, k2, k3⟩ := mk_ok HER.out (fail_none hal)
        rw [HZ.out, Int.toNat_natCast] at k3
        have hcv := conv_back hM.by_ hM.lt n
        rw [hM.len, ← k3, HV.out] at hcv
        obtain rfl : E = 0 := by rw [← HE.out]; exact k1
        obtain rfl : I = 0 := by rw [← HI.out]; exact k2
        have HB := Lib.hid hM.bel
        clear hM hal k1 k2 k3
        go_wp2_with fail
        go_ret3
        exact ⟨rfl, HB.out⟩
  · have hne : (er != 0) = true := by simpa using he
    obtain ⟨k1, k2, k3⟩ := mk_bad (l := l) (show errS d t ≠ 0 by rw [HER.out]; exact he)
    rw [HER.out] at k1
    obtain rfl : V = ⟨#[]⟩ := by rw [← HV.out]; exact k3
    obtain rfl : E = er := by rw [← HE.out]; exact k1
    obtain rfl : I = 0 := by rw [← HI.out]; exact k2
    clear k1 k2 k3
    go_wp2_with fail
    go_ret3
    exact ⟨rfl, HB1.out⟩
end Go.Proofs.Ytcggghamnmflcaa

/- The reference's Classes in plain words. -/
import Derived.Test.YtcggghamnmflcaaClb
import Derived.Test.YtcggghamnmflcaaGc
import Derived.BigQuiet
namespace Go.Proofs.Ytcggghamnmflcaa
open Go Go.RowKit Go.Shelf
theorem full_c (k : Int) (w : World) : Calls Try.prog 100 #[.int .i64 k] w fun e w' => e = .returned (.int .i64 (8 * ksize k)) ∧ w = w' := by
  obtain ⟨z, hz⟩ : ∃ z, ksize k = z := ⟨_, rfl⟩
  have HQ := rsize_c k
  obtain ⟨z1, z2⟩ := ksize_08 k
  rw [hz] at HQ z1 z2 ⊢
  replace HQ := Lib.hid HQ
  clear hz
  go_enter Try.func100, Try.ntmps100
  go_wp2_with fail
  refine (HQ.out _).mono ?_
  rintro e w1 ⟨rfl, rfl⟩
  go_wp2_with fail
  go_ret
  exact ⟨rfl, rfl⟩
theorem full_q (k : Int) (w : World) (n : Nat) : Calls Try.prog 100 #[.int .i64 k] (w.drewN n) fun e w'' => e = .returned (.int .i64 (8 * ksize k)) ∧ ∃ m, w'' = w.drewN m := (full_c k _).mono fun _ _ ⟨h1, h2⟩ => ⟨h1, n, h2.symm⟩
set_option maxRecDepth 100000 in
set_option maxHeartbeats 8000000 in
theorem rclasses_f {d : Nat} {t : Tp d} {v0 v1 v2 v3 v4 v5 v6 : Value} {w : World} (ht : TyAt w d t [v0, v1, v2, v3, v4, v5, v6]) :
    Calls Try.prog 65 #[.agg #[v0, v1, v2, v3, v4, v5, v6]] w fun e w' => ∃ (A : Option Addr) (n c : Nat), e = .returned (.tuple #[.slice A n c, .int .i64 (clsE d t)]) ∧ IntsAt w' A n (clsL d t) ∧ Below w.heap.size w w' ∧ ∀ a, A = some a → w.heap.size ≤ a.block := by
  obtain ⟨n0, A1, A2, n1, n2, c1, c2, pk, al, hcs⟩ := ht.form
  simp only [List.cons.injEq, and_true] at hcs
  obtain ⟨rfl, rfl, rfl, rfl, rfl, rfl, rfl⟩ := hcs
  have HR := fun w' (hb : Below w.heap.size w w') => rOf_c (ht.below hb)
  have HL := fun w' (hb : Below w.heap.size w w') => rLeaves_c (ht.below hb)
  unfold OfP at HR
  obtain ⟨sh, hsh⟩ : ∃ x, tsh d t = x := ⟨_, rfl⟩
  obtain ⟨tk0, hk⟩ : ∃ x, tk d t = x := ⟨_, rfl⟩
  obtain ⟨er, her⟩ : ∃ x, errS d t = x := ⟨_, rfl⟩
  obtain ⟨f1, hf1⟩ : ∃ x, leafE d t = x := ⟨_, rfl⟩
  obtain ⟨sz, hsz⟩ : ∃ x, szS d t = x := ⟨_, rfl⟩
  obtain ⟨ag, hag⟩ : ∃ x, agS d t = x := ⟨_, rfl⟩
  obtain ⟨ll, hll⟩ : ∃ x, leafL d t = x := ⟨_, rfl⟩
  obtain ⟨ce, hce⟩ : ∃ x, clsE d t = x := ⟨_, rfl⟩
  obtain ⟨cl, hcl⟩ : ∃ x, clsL d t = x := ⟨_, rfl⟩
  rw [hf1, hll] at HL
  rw [her, hsz, hag] at HR
  rw [hsh, hk] at HR HL ⊢
  rw [hce, hcl]
  have HSH := Lib.hid hsh
  have HER := Lib.hid her
  have HF1 := Lib.hid hf1
  have HSZ := Lib.hid hsz
  have HLL := Lib.hid hll
  have HCE := Lib.hid hce
  have HCL := Lib.hid hcl
  replace HR := Lib.hid HR
  replace HL := Lib.hid HL
  clear hsh hk her hf1 hsz hll hce hcl hag ht
  go_enter Try.func65, Try.ntmps65
  go_wp2_with fail
  have hT0 := (Bk.new w 38 #[.int .i64 sh, .int .i64 tk0, .int .i64 n0, .slice A1 n1 c1, .slice A2 n2 c2, .bool pk, .int .i64 al])
  refine (HR.out _ (bel_alloc (Below.refl _ _) _)).mono ?_
  rintro e w1 ⟨Ao, no, co, rfl, hb1, -, -⟩
  have hT1 := (hT0.below hb1 hT0.lt).alloc (.cells #[.int .i64 sz, .int .i64 ag, .bool false, .slice Ao no co] 58)
  have hlt1 := (hT0.below hb1 hT0.lt).lt
  have HB1 := Lib.hid (bel_alloc (bel_then (bel_alloc (Below.refl _ _) _) hb1) (.cells #[.int .i64 sz, .int .i64 ag, .bool false, .slice Ao no co] 58))
  have hX1 := Bk.new w1 58 #[.int .i64 sz, .int .i64 ag, .bool false, .slice Ao no co]
  clear hb1 hT0
  have t0 := hT1.at_ (i := 0) rfl; have t1 := hT1.at_ (i := 1) rfl; have t2 := hT1.at_ (i := 2) rfl; have t3 := hT1.at_ (i := 3) rfl; have t4 := hT1.at_ (i := 4) rfl; have t5 := hT1.at_ (i := 5) rfl; have t6 := hT1.at_ (i := 6) rfl
  by_cases h1 : er = 0
  · subst h1
    by_cases h2 : sh = 3
    · subst h2
      have HC := Lib.hid (show ce = 2 by rw [← HCE.out]; unfold clsE; rw [if_pos HER.out, if_pos HSH.out])
      have HD := Lib.hid (show cl = [] by rw [← HCL.out]; unfold clsL; rw [if_neg (by rw [HCE.out, HC.out]; decide)])
      go_wp2_with fail
      go_ret2
      exact ⟨none, 0, 0, by rw [HC.out]; rfl, by rw [HD.out]; exact .nil _ _, HB1.out, fun a ha => by cases ha⟩
    · go_wp2_with fail
      refine (HL.out _ HB1.out).mono ?_
      rintro e w2 ⟨A, nn, c, rfl, hA2, hb2⟩
      have hX2 := hX1.below hb2 hX1.lt
      have HB2 := Lib.hid (bel_then HB1.out hb2)
      have HA2 := Lib.hid hA2.1
      clear hb2 hA2 hX1 hT1 t0 t1 t2 t3 t4 t5 t6
      have x0 := hX2.at_ (i := 0) rfl
      by_cases h3 : f1 = 0
      · subst h3
        obtain ⟨_, o1, o2⟩ := leaf_z HF1.out
        have hol : ll = leavesS d t 0 := HLL.out.symm.trans o1
        rw [← hol] at o2
        obtain ⟨q1, q2⟩ := err_0 HER.out
        have hok := boxS_ok d t 6 _ q1 q2
        have hszb : sz = (boxD d t).size := by have := HSZ.out; unfold szS at this; rw [if_pos HER.out] at this; exact this.symm
        have z1 : 1 ≤ sz := by have := hok.1; omega
        have z2 : sz ≤ 65536 := by have := hok.2.1; omega
        have HRNG := Lib.hid (fun s (hs : s ∈ ll) => leaves_rng d t 0 _ q1 q2 s (by rw [← hol]; exact hs))
        rw [← hszb] at HRNG
        have HOL := Lib.hid hol
        have HC := Lib.hid (show ce = 0 by rw [← HCE.out]; unfold clsE; rw [if_pos HER.out, if_neg (by rw [HSH.out]; exact h2), HF1.out])
        have HD := Lib.hid (show cl = if 16 < sz ∨ ll.any misS = true then [2] else clsV (((sz + 7) / 8).toNat) ll by rw [← HCL.out]; unfold clsL; rw [if_pos (by rw [HCE.out, HC.out]), HSZ.out, ← HOL.out])
        clear hol hszb hok q1 q2 o1
        obtain rfl : nn = ll.length := HA2.out.1
        by_cases h4 : 16 < sz
        · go_wp2_with fail
          go_ret2
          exact ⟨some ⟨w2.heap.size, 0, none⟩, 1, 1, by rw [HC.out]; rfl, by rw [HD.out, if_pos (.inl h4)]; exact .two (Bk.new _ _ _), bel_alloc HB2.out _, fun a ha => by cases ha; exact HB2.out.size⟩
        · obtain ⟨m, hm, hm1, hm2⟩ : ∃ m : Nat, (sz + 7) / 8 = (m : Int) ∧ 1 ≤ m ∧ m ≤ 2 := ⟨((sz + 7) / 8).toNat, by omega, by omega, by omega⟩
          have HD3 := Lib.hid (show ll.any misS = false → cl = clsV m ll from fun h => by rw [HD.out, if_neg (by rw [h]; simp; omega), hm, Int.toNat_natCast])
          have hmk : ∀ w, (Instr.makeSlice 39 (.int .i64 (m : Int)) (.int .i64 (m : Int))).run Try.prog w = .ok (.slice (some ⟨w.heap.size, 0, none⟩) m m) (w.alloc (.cells (cA m fun _ => false) 3)) := by
            intro w
            rcases (show m = 1 ∨ m = 2 by omega) with rfl | rfl
            · exact make39_1 w
            · exact make39_2 w
          go_wp2_with fail
          have hK0 := Bk.new w2 3 (cA m fun _ => false)
          have hb0 : Below w2.heap.size w2 (w2.alloc (.cells (cA m fun _ => false) 3)) := bel_alloc (Below.refl _ _) _
          generalize World.alloc _ _ = w5 at hK0 hb0 ⊢
          clear hmk x0 hX2 hlt1
          have hz : sz ≤ 8 * m := by omega
          clear hm
          have HK0 := Lib.hid hK0
          have HB0 := Lib.hid hb0
          clear hK0 hb0
          go_loopw [9] (fun s9 wr => ∃ j : Nat, j ≤ ll.length ∧ s9 = .int .i64 j ∧ (ll.take j).any misS = false ∧ Bk wr w2.heap.size 3 (cA m fun q => (ll.take j).any (covS · q)) ∧ Below w2.heap.size w2 wr) (fun i _ => ll.length - (intOf i).toNat)
          case atStart => exact ⟨0, Nat.zero_le _, rfl, rfl, HK0.out, HB0.out⟩
          case round =>
            obtain ⟨j, hj, rfl, hmi, hk, hb⟩ := hrel
            have HMI := Lib.hid hmi
            have HK := Lib.hid hk
            have HB := Lib.hid hb
            clear hk hb hmi HK0 HB0
            obtain ⟨wo, rfl⟩ : ∃ wo : World, wo = wr := ⟨_, rfl⟩
            by_cases hlt : j < ll.length
            · obtain ⟨x, hx⟩ : ∃ x, ll[j]? = some x := ⟨_, List.getElem?_eq_getElem hlt⟩
              obtain ⟨b, o, rfl, a0, a1, a2⟩ := (HA2.out.below HB.out).2 j x hx
              have hr := HRNG.out x (List.mem_of_getElem? hx)
              have HX := Lib.hid hx
              clear hx
              obtain ⟨bit, bits, k⟩ := x
              simp only at a0 a1 a2 hr
              obtain ⟨r0, r1, r2, r3⟩ := hr
              obtain ⟨bt, rfl⟩ := Int.eq_ofNat_of_zero_le r0
              obtain ⟨bs, rfl⟩ := Int.eq_ofNat_of_zero_le (show 0 ≤ bits by omega)
              obtain ⟨z, hz2⟩ : ∃ z, ksize k = z := ⟨_, rfl⟩
              have HQ := fun w n => full_q k w n
              obtain ⟨y1, y2⟩ := ksize_08 k
              rw [hz2] at HQ y1 y2
              replace HQ := Lib.hid HQ
              have HZ := Lib.hid hz2
              clear hz2
              by_cases hbz : (bs : Int) = 8 * z
              · by_cases hc : (bt : Int) % (bs : Int) = 0
                · have HM := Lib.hid (show misS ⟨(bt : Int), (bs : Int), k⟩ = false by unfold misS; simp only [HZ.out, hc]; simp)
                  have HM2 := Lib.hid (any_snoc HX.out HMI.out HM.out)
                  have hd : ((bs : Int) == 8 * z) = true := by simpa using hbz
                  have hd2 : ((bt : Int) % (bs : Int) != 0) = false := by rw [hc]; rfl
                  clear hbz
                  go_wp2_with fail
                  go_quiet ((go_at_call 100; exact HQ.out _ _))
                  go_wp2_with fail
                  clear a0 a1 a2 hd hd2
                  go_loopw [10] (fun s10 wr => ∃ q : Nat, s10 = .int .i64 q ∧ bt ≤ q ∧ q ≤ bt + bs ∧ Bk wr w2.heap.size 3 (cA m fun r => (ll.take j).any (covS · r) || (decide (bt < q) && decide (bt / 64 ≤ r) && decide (64 * r < q))) ∧ Below w2.heap.size w2 wr) (fun i _ => ((bt + bs : Int) - intOf i).toNat)
                  case atStart =>
                    refine ⟨bt, rfl, by omega, by omega, ?_, bel_drewN HB.out _⟩
                    rw [cA_congr (g := fun q => (ll.take j).any (covS · q)) (fun k _ => ?_)]
                    · exact HK.out.below (bel_drewN (Below.refl _ _) _) HK.out.lt
                    · have : decide (bt < bt) = false := by simp
                      rw [this, Bool.false_and, Bool.false_and, Bool.or_false]
                  case round =>
                    obtain ⟨q, rfl, q1, q2, hk, hb⟩ := hrel
                    have HK2 := Lib.hid hk
                    have HB2 := Lib.hid hb
                    obtain ⟨b', o', he, a0, a1, a2⟩ := (HA2.out.below hb).2 j _ HX.out
                    obtain ⟨rfl, rfl⟩ : b = b' ∧ o = o' := by simpa using he
                    simp only at a0 a1 a2
                    clear hk hb he
                    by_cases hq : q < bt + bs
                    · have hqm : q / 64 < m := by omega
                      have hc := HK2.out.at_ (cA_get _ hqm)
                      have hfz := HK2.out.frozen (q / 64)
                      have hbl := World.block_lt_of_cell? _ _ a0
                      simp only at hbl
                      go_wp2_with fail
                      go_quiet (fail)
                      go_wp2_with fail
                      go_roundw
                      case rel =>
                        refine ⟨q + 1, by go_num, by omega, by omega, ?_, bel_set (bel_drewN HB2.out _) (Nat.le_refl _) _⟩
                        have h := (HK2.out.below (bel_drewN (Below.refl _ _) nq) HK2.out.lt).set_ (q / 64) (.int .i64 1)
                        rwa [cA_set (g := fun r => (ll.take j).any (covS · r) || (decide (bt < q + 1) && decide (bt / 64 ≤ r) && decide (64 * r < q + 1))) (by simp; omega) (fun k hkq => by
                          have : (decide (bt < q + 1) && decide (bt / 64 ≤ k) && decide (64 * k < q + 1)) = (decide (bt < q) && decide (bt / 64 ≤ k) && decide (64 * k < q)) := by
                            rw [Bool.eq_iff_iff]
                            simp only [Bool.and_eq_true, decide_eq_true_eq]
                            omega
                          simp only [this])] at h
                      case measure => simp [intOf]; omega
                    · go_wp2_with fail
                      go_quiet (fail)
                      go_wp2_with fail
                      go_roundw
                      case rel =>
                        refine ⟨j + 1, by omega, by go_num, HM2.out, ?_, bel_drewN HB2.out _⟩
                        have h := HK2.out.below (bel_drewN (Below.refl _ _) nq) HK2.out.lt
                        rwa [cA_congr (g := fun r => (ll.take (j + 1)).any (covS · r)) (fun r _ => by
                          rw [take_snoc_of HX.out, List.any_append]
                          have : ([⟨(bt : Int), (bs : Int), k⟩] : List Spt).any (covS · r) = (decide (bt < q) && decide (bt / 64 ≤ r) && decide (64 * r < q)) := by
                            simp only [List.any_cons, List.any_nil, Bool.or_false]
                            unfold covS
                            simp only
                            rw [Bool.eq_iff_iff]
                            simp only [Bool.and_eq_true, decide_eq_true_eq]
                            omega
                          rw [this])] at h
                      case measure => simp [intOf]; omega
                · have HM := Lib.hid (show misS ⟨(bt : Int), (bs : Int), k⟩ = true by unfold misS; simp only [HZ.out, hbz]; simp; rw [← hbz]; exact hc)
                  have HM2 := Lib.hid (any_yes HX.out HM.out)
                  have HCL2 := Lib.hid (show cl = [2] by rw [HD.out, if_pos (.inr HM2.out)])
                  have hd : ((bs : Int) == 8 * z) = true := by simpa using hbz
                  have hd2 : ((bt : Int) % (bs : Int) != 0) = true := by simpa using hc
                  clear hbz hc
                  go_wp2_with fail
                  go_quiet ((go_at_call 100; exact HQ.out _ _))
                  go_wp2_with fail
                  go_ret2
                  exact ⟨some ⟨_, 0, none⟩, 1, 1, by rw [HC.out]; rfl, by rw [HCL2.out]; exact .two (Bk.new _ _ _), bel_alloc (bel_drewN (bel_then HB2.out HB.out) _) _, fun a ha => by cases ha; exact (bel_then HB2.out HB.out).size⟩
              · have HM := Lib.hid (show misS ⟨(bt : Int), (bs : Int), k⟩ = false by unfold misS; simp only [HZ.out]; simp [hbz])
                have HM2 := Lib.hid (any_snoc HX.out HMI.out HM.out)
                have hd : decide ((bs : Int) = 8 * z) = false := decide_eq_false hbz
                have hd2 : ((bs : Int) == 8 * z) = false := by simpa using hbz
                clear hbz
                go_wp2_with fail
                go_quiet ((go_at_call 100; exact HQ.out _ _))
                go_wp2_with fail
                clear a0 a1 a2 hd hd2
                go_loopw [10] (fun s10 wr => ∃ q : Nat, s10 = .int .i64 q ∧ bt ≤ q ∧ q ≤ bt + bs ∧ Bk wr w2.heap.size 3 (cA m fun r => (ll.take j).any (covS · r) || (decide (bt < q) && decide (bt / 64 ≤ r) && decide (64 * r < q))) ∧ Below w2.heap.size w2 wr) (fun i _ => ((bt + bs : Int) - intOf i).toNat)
                case atStart =>
                  refine ⟨bt, rfl, by omega, by omega, ?_, bel_drewN HB.out _⟩
                  rw [cA_congr (g := fun q => (ll.take j).any (covS · q)) (fun k _ => ?_)]
                  · exact HK.out.below (bel_drewN (Below.refl _ _) _) HK.out.lt
                  · have : decide (bt < bt) = false := by simp
                    rw [this, Bool.false_and, Bool.false_and, Bool.or_false]
                case round =>
                  obtain ⟨q, rfl, q1, q2, hk, hb⟩ := hrel
                  have HK2 := Lib.hid hk
                  have HB2 := Lib.hid hb
                  obtain ⟨b', o', he, a0, a1, a2⟩ := (HA2.out.below hb).2 j _ HX.out
                  obtain ⟨rfl, rfl⟩ : b = b' ∧ o = o' := by simpa using he
                  simp only at a0 a1 a2
                  clear hk hb he
                  by_cases hq : q < bt + bs
                  · have hqm : q / 64 < m := by omega
                    have hc := HK2.out.at_ (cA_get _ hqm)
                    have hfz := HK2.out.frozen (q / 64)
                    have hbl := World.block_lt_of_cell? _ _ a0
                    simp only at hbl
                    go_wp2_with fail
                    go_quiet (fail)
                    go_wp2_with fail
                    go_roundw
                    case rel =>
                      refine ⟨q + 1, by go_num, by omega, by omega, ?_, bel_set (bel_drewN HB2.out _) (Nat.le_refl _) _⟩
                      have h := (HK2.out.below (bel_drewN (Below.refl _ _) nq) HK2.out.lt).set_ (q / 64) (.int .i64 1)
                      rwa [cA_set (g := fun r => (ll.take j).any (covS · r) || (decide (bt < q + 1) && decide (bt / 64 ≤ r) && decide (64 * r < q + 1))) (by simp; omega) (fun k hkq => by
                        have : (decide (bt < q + 1) && decide (bt / 64 ≤ k) && decide (64 * k < q + 1)) = (decide (bt < q) && decide (bt / 64 ≤ k) && decide (64 * k < q)) := by
                          rw [Bool.eq_iff_iff]
                          simp only [Bool.and_eq_true, decide_eq_true_eq]
                          omega
                        simp only [this])] at h
                    case measure => simp [intOf]; omega
                  · go_wp2_with fail
                    go_quiet (fail)
                    go_wp2_with fail
                    go_roundw
                    case rel =>
                      refine ⟨j + 1, by omega, by go_num, HM2.out, ?_, bel_drewN HB2.out _⟩
                      have h := HK2.out.below (bel_drewN (Below.refl _ _) nq) HK2.out.lt
                      rwa [cA_congr (g := fun r => (ll.take (j + 1)).any (covS · r)) (fun r _ => by
                        rw [take_snoc_of HX.out, List.any_append]
                        have : ([⟨(bt : Int), (bs : Int), k⟩] : List Spt).any (covS · r) = (decide (bt < q) && decide (bt / 64 ≤ r) && decide (64 * r < q)) := by
                          simp only [List.any_cons, List.any_nil, Bool.or_false]
                          unfold covS
                          simp only
                          rw [Bool.eq_iff_iff]
                          simp only [Bool.and_eq_true, decide_eq_true_eq]
                          omega
                        rw [this])] at h
                    case measure => simp [intOf]; omega
            · have HFIN := Lib.hid (show cl = (List.range m).map fun q => if ll.any (covS · q) then (1 : Int) else 0 from HD3.out (by have := HMI.out; rwa [List.take_of_length_le (by omega)] at this))
              go_wp2_with fail
              go_ret2
              refine ⟨some ⟨w2.heap.size, 0, none⟩, m, m, by rw [HC.out]; rfl, ?_, bel_then HB2.out HB.out, fun a ha => by cases ha; exact HB2.out.size⟩
              rw [HFIN.out]
              have h := HK.out
              rw [List.take_of_length_le (by omega)] at h
              exact .of_bk h
      · have HC := Lib.hid (show ce = f1 by rw [← HCE.out]; unfold clsE; rw [if_pos HER.out, if_neg (by rw [HSH.out]; exact h2), HF1.out])
        have HD := Lib.hid (show cl = [] by rw [← HCL.out]; unfold clsL; rw [if_neg (by rw [HCE.out, HC.out]; exact h3)])
        go_wp2_with fail
        go_ret2
        exact ⟨none, 0, 0, by rw [HC.out]; rfl, by rw [HD.out]; exact .nil _ _, HB2.out, fun a ha => by cases ha⟩
  · have HC := Lib.hid (show ce = er by rw [← HCE.out]; unfold clsE; rw [if_neg (by rw [HER.out]; exact h1), HER.out])
    have HD := Lib.hid (show cl = [] by rw [← HCL.out]; unfold clsL; rw [if_neg (by rw [HCE.out, HC.out]; exact h1)])
    go_wp2_with fail
    go_ret2
    exact ⟨none, 0, 0, by rw [HC.out]; rfl, by rw [HD.out]; exact .nil _ _, HB1.out, fun a ha => by cases ha⟩
theorem rclasses_c {d : Nat} {t : Tp d} {v0 v1 v2 v3 v4 v5 v6 : Value} {w : World} (ht : TyAt w d t [v0, v1, v2, v3, v4, v5, v6]) :
    Calls Try.prog 65 #[.agg #[v0, v1, v2, v3, v4, v5, v6]] w fun e w' => ∃ (A : Option Addr) (n c : Nat), e = .returned (.tuple #[.slice A n c, .int .i64 (clsE d t)]) ∧ IntsAt w' A n (clsL d t) ∧ Below w.heap.size w w' :=
  (rclasses_f ht).mono fun _ _ ⟨A, n, c, h1, h2, h3, _⟩ => ⟨A, n, c, h1, h2, h3⟩
end Go.Proofs.Ytcggghamnmflcaa

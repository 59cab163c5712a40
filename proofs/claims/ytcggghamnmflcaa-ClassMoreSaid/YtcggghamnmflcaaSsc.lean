/- The contract of the reference's Same, and the law ShapeSame walked: whatever two types. -/
import Derived.Test.YtcggghamnmflcaaSsb
import Derived.Test.YtcggghamnmflcaaFlo
namespace Go.Proofs.Ytcggghamnmflcaa
open Go Go.RowKit Go.Shelf
theorem all2_at {α β : Type} {p : α → β → Bool} {l : List α} {k : List β} (h : all2 p l k = true) : l.length = k.length := by
  unfold all2 at h
  simp only [Bool.and_eq_true, decide_eq_true_eq] at h
  exact h.1
set_option maxRecDepth 100000 in
set_option maxHeartbeats 16000000 in
theorem rsame_step {d e : Nat} (hC : SameC 52 d e) : SameC 52 (d + 1) (e + 1) := by
  intro a b u0 u1 u2 u3 u4 u5 u6 v0 v1 v2 v3 v4 v5 v6 w hta htb
  replace hC := Lib.hid hC
  obtain ⟨A1, A2, c1, c2, hcs, a1, a2, a3, a4, l1, l2, m1, m2, hof, hfs⟩ := hta
  simp only [List.cons.injEq, and_true] at hcs
  obtain ⟨rfl, rfl, rfl, rfl, rfl, rfl, rfl⟩ := hcs
  obtain ⟨B1, B2, e1, e2, hcs, b1, b2, b3, b4, j1, j2, i1, i2, hof2, hfs2⟩ := htb
  simp only [List.cons.injEq, and_true] at hcs
  obtain ⟨rfl, rfl, rfl, rfl, rfl, rfl, rfl⟩ := hcs
  obtain ⟨sh, k, n, of, fs, pk, al⟩ := a
  obtain ⟨sh2, k2, n2, of2, fs2, pk2, al2⟩ := b
  have HT := Lib.hid (show TysAt w d A1 of from hof)
  have HT2 := Lib.hid (show TysAt w e B1 of2 from hof2)
  have HF := Lib.hid (show FdsAt w d A2 fs from hfs)
  have HF2 := Lib.hid (show FdsAt w e B2 fs2 from hfs2)
  clear hof hof2 hfs hfs2
  have HE := Lib.hid (show sameS (d + 1) (e + 1) (⟨sh, k, n, of, fs, pk, al⟩ : Nd (Tp d)) (⟨sh2, k2, n2, of2, fs2, pk2, al2⟩ : Nd (Tp e)) = (sh == sh2 && (k == k2 && (n == n2 && (pk == pk2 && (al == al2 && (all2 (sameS d e) of of2 && all2 (sameF d e) fs fs2)))))) from rfl)
  obtain ⟨R, hR⟩ : ∃ R, sameS (d + 1) (e + 1) (⟨sh, k, n, of, fs, pk, al⟩ : Nd (Tp d)) (⟨sh2, k2, n2, of2, fs2, pk2, al2⟩ : Nd (Tp e)) = R := ⟨_, rfl⟩
  rw [hR] at HE ⊢
  clear hR
  simp only at a1 a2 a3 a4 b1 b2 b3 b4 l1 l2 j1 j2 ⊢
  have HB := Lib.hid (bel_alloc (bel_alloc (Below.refl _ w) (.cells #[.int .i64 sh, .int .i64 k, .int .i64 n, .slice A1 of.length c1, .slice A2 fs.length c2, .bool pk, .int .i64 al] 38)) (.cells #[.int .i64 sh2, .int .i64 k2, .int .i64 n2, .slice B1 of2.length e1, .slice B2 fs2.length e2, .bool pk2, .int .i64 al2] 38))
  have hT0 := (Bk.new w 38 #[.int .i64 sh, .int .i64 k, .int .i64 n, .slice A1 of.length c1, .slice A2 fs.length c2, .bool pk, .int .i64 al]).alloc (.cells #[.int .i64 sh2, .int .i64 k2, .int .i64 n2, .slice B1 of2.length e1, .slice B2 fs2.length e2, .bool pk2, .int .i64 al2] 38)
  have hQ0 := Bk.new1 w (.cells #[.int .i64 sh, .int .i64 k, .int .i64 n, .slice A1 of.length c1, .slice A2 fs.length c2, .bool pk, .int .i64 al] 38) 38 #[.int .i64 sh2, .int .i64 k2, .int .i64 n2, .slice B1 of2.length e1, .slice B2 fs2.length e2, .bool pk2, .int .i64 al2]
  have g1 : of.length ≤ 9223372036854775807 := by omega
  have g2 : fs.length ≤ 9223372036854775807 := by omega
  cases h0 : (sh == sh2) with
  | false =>
    have HR := Lib.hid (show R = false by rw [HE.out, h0]; simp)
    have n0 : (sh != sh2) = true := by rw [bne, h0]; rfl
    clear hT0 hQ0
    go_enter Try.func52, Try.ntmps52
    go_wp2_with fail
    go_ret
    exact ⟨eqT_done HR.out.symm, HB.out⟩
  | true =>
    have n0 : (sh != sh2) = false := by rw [bne, h0]; rfl
    cases h1 : (k == k2) with
    | false =>
      have HR := Lib.hid (show R = false by rw [HE.out, h0, h1]; simp)
      have n1 : (k != k2) = true := by rw [bne, h1]; rfl
      clear hT0 hQ0
      go_enter Try.func52, Try.ntmps52
      go_wp2_with fail
      go_ret
      exact ⟨eqT_done HR.out.symm, HB.out⟩
    | true =>
      have n1 : (k != k2) = false := by rw [bne, h1]; rfl
      cases h2 : (n == n2) with
      | false =>
        have HR := Lib.hid (show R = false by rw [HE.out, h0, h1, h2]; simp)
        have n2 : (n != n2) = true := by rw [bne, h2]; rfl
        clear hT0 hQ0
        go_enter Try.func52, Try.ntmps52
        go_wp2_with fail
        go_ret
        exact ⟨eqT_done HR.out.symm, HB.out⟩
      | true =>
        have n2 : (n != n2) = false := by rw [bne, h2]; rfl
        cases h3 : (pk == pk2) with
        | false =>
          have HR := Lib.hid (show R = false by rw [HE.out, h0, h1, h2, h3]; simp)
          have n3 : (pk != pk2) = true := by rw [bne, h3]; rfl
          clear hT0 hQ0
          go_enter Try.func52, Try.ntmps52
          go_wp2_with fail
          go_ret
          exact ⟨eqT_done HR.out.symm, HB.out⟩
        | true =>
          have n3 : (pk != pk2) = false := by rw [bne, h3]; rfl
          cases h4 : (al == al2) with
          | false =>
            have HR := Lib.hid (show R = false by rw [HE.out, h0, h1, h2, h3, h4]; simp)
            have n4 : (al != al2) = true := by rw [bne, h4]; rfl
            clear hT0 hQ0
            go_enter Try.func52, Try.ntmps52
            go_wp2_with fail
            go_ret
            exact ⟨eqT_done HR.out.symm, HB.out⟩
          | true =>
            have n4 : (al != al2) = false := by rw [bne, h4]; rfl
            cases h5 : ((of.length : Int) == of2.length) with
            | false =>
              have HR := Lib.hid (show R = false by rw [HE.out, h0, h1, h2, h3, h4, all2_len (show of.length ≠ of2.length from fun h => by rw [h] at h5; simp at h5)]; simp)
              have n5 : ((of.length : Int) != of2.length) = true := by rw [bne, h5]; rfl
              clear hT0 hQ0
              go_enter Try.func52, Try.ntmps52
              go_wp2_with fail
              go_ret
              exact ⟨eqT_done HR.out.symm, HB.out⟩
            | true =>
              have n5 : ((of.length : Int) != of2.length) = false := by rw [bne, h5]; rfl
              cases h6 : ((fs.length : Int) == fs2.length) with
              | false =>
                have HR := Lib.hid (show R = false by rw [HE.out, h0, h1, h2, h3, h4, all2_len (p := sameF d e) (show fs.length ≠ fs2.length from fun h => by rw [h] at h6; simp at h6)]; simp)
                have n6 : ((fs.length : Int) != fs2.length) = true := by rw [bne, h6]; rfl
                clear hT0 hQ0
                go_enter Try.func52, Try.ntmps52
                go_wp2_with fail
                go_ret
                exact ⟨eqT_done HR.out.symm, HB.out⟩
              | true =>
                have n6 : ((fs.length : Int) != fs2.length) = false := by rw [bne, h6]; rfl
                have HR := Lib.hid (show R = (all2 (sameS d e) of of2 && all2 (sameF d e) fs fs2) by rw [HE.out, h0, h1, h2, h3, h4]; simp)
                have HL1 := Lib.hid (show of.length = of2.length by have := h5; simp at this; omega)
                have HL2 := Lib.hid (show fs.length = fs2.length by have := h6; simp at this; omega)
                clear HE
                go_enter Try.func52, Try.ntmps52
                go_wp2_with fail
                generalize hW : World.alloc (World.alloc w _) _ = W0 at HB hT0 hQ0 ⊢
                clear hW
                go_loopw [5] (fun i wr => ∃ j : Nat, j ≤ of.length ∧ i = .int .i64 j ∧ (((of.zip of2).take j).all fun q => sameS d e q.1 q.2) = true ∧ Below W0.heap.size W0 wr) (fun i _ => of.length - (intOf i).toNat)
                case atStart => exact ⟨0, Nat.zero_le _, rfl, rfl, Below.refl _ _⟩
                case round =>
                  obtain ⟨j, hj, rfl, hp, hb⟩ := hrel
                  have HP := Lib.hid hp
                  clear hp
                  have hTr := hT0.below hb hT0.lt
                  have hQr := hQ0.below hb hQ0.lt
                  have t3 := hTr.at_ (i := 3) rfl
                  by_cases hlt : j < of.length
                  · have q3 := hQr.at_ (i := 3) rfl
                    obtain ⟨x, hx⟩ : ∃ x, of[j]? = some x := ⟨_, List.getElem?_eq_getElem hlt⟩
                    obtain ⟨y, hy⟩ : ∃ y, of2[j]? = some y := ⟨_, List.getElem?_eq_getElem (by rw [← HL1.out]; exact hlt)⟩
                    have hlt2 : j < of2.length := by rw [← HL1.out]; exact hlt
                    obtain ⟨b, o, u0, u1, u2, u3, u4, u5, u6, hA1, hta, q10, q11, q12, q13, q14, q15, q16⟩ := ((HT.out.below HB.out).below hb).at_ hx
                    obtain ⟨en, eA, eB, em1, em2, ed1, ed2, epk, eal, hcse⟩ := hta.form
                    simp only [List.cons.injEq, and_true] at hcse
                    obtain ⟨rfl, rfl, rfl, rfl, rfl, rfl, rfl⟩ := hcse
                    obtain ⟨b', o', v0, v1, v2, v3, v4, v5, v6, hB1, htb, r0, r1, r2, r3, r4, r5, r6⟩ := ((HT2.out.below HB.out).below hb).at_ hy
                    obtain ⟨gn, gA, gB, gm1, gm2, gd1, gd2, gpk, gal, hcsg⟩ := htb.form
                    simp only [List.cons.injEq, and_true] at hcsg
                    obtain ⟨rfl, rfl, rfl, rfl, rfl, rfl, rfl⟩ := hcsg
                    subst hA1 hB1
                    have HX := Lib.hid hx
                    have HY := Lib.hid hy
                    obtain ⟨sb, hsb⟩ : ∃ s, sameS d e x y = s := ⟨_, rfl⟩
                    have HC := Lib.hid (fun w' (hb' : Below wr.heap.size wr w') => hC.out x y _ _ _ _ _ _ _ _ _ _ _ _ _ _ w' (hta.below hb') (htb.below hb'))
                    rw [hsb] at HC
                    have HSB := Lib.hid hsb
                    clear hsb hta htb hx hy
                    go_wp2_with fail
                    refine region_tail (C := fun w' => ∃ n, w' = wr.drewN n) 10 (by kernel_rfl) (by kernel_rfl) ⟨1, rfl⟩ ?_
                    simp only [List.take_succ_cons, List.take_zero, List.drop_succ_cons, List.drop_zero]
                    repeat (go_big_quiet_step (fail))
                    refine wpQuiet_nil ?_
                    rintro _ ⟨nq, rfl⟩
                    clear t3 q3 q10 q11 q12 q13 q14 q15 q16 r0 r1 r2 r3 r4 r5 r6
                    have HBQ := Lib.hid (bel_drewN (Below.refl wr.heap.size wr) nq)
                    generalize World.drewN wr nq = wq at HBQ ⊢
                    go_wp2_with fail
                    refine (HC.out _ HBQ.out).mono ?_
                    rintro e' w1 ⟨rfl, hb1⟩
                    have HB1 := Lib.hid (bel_then hb (bel_then HBQ.out hb1))
                    clear hb hb1 HC
                    cases sb with
                    | true =>
                      go_wp2_with fail
                      go_roundw
                      case rel => exact ⟨j + 1, by omega, by go_num, all2_snoc HX.out HY.out HSB.out HP.out, HB1.out⟩
                      case measure => simp [intOf]; omega
                    | false =>
                      go_wp2_with fail
                      go_ret
                      exact ⟨eqT_done (HR.out.trans (by rw [all2_bad HX.out HY.out HSB.out]; rfl)).symm, bel_then HB.out HB1.out⟩
                  · have HO := Lib.hid (all2_done (p := sameS d e) HL1.out (by rw [← HL1.out]; omega) HP.out)
                    have HBw := Lib.hid (bel_then HB.out hb)
                    clear HP hT0 hQ0 hb HB
                    go_wp2_with fail
                    clear t3
                    obtain ⟨wo, rfl⟩ : ∃ wo : World, wo = wr := ⟨_, rfl⟩
                    go_loopw [7] (fun i wr => ∃ j : Nat, j ≤ fs.length ∧ i = .int .i64 j ∧ (((fs.zip fs2).take j).all fun q => sameF d e q.1 q.2) = true ∧ Below wo.heap.size wo wr) (fun i _ => fs.length - (intOf i).toNat)
                    case atStart => exact ⟨0, Nat.zero_le _, rfl, rfl, Below.refl _ _⟩
                    case round =>
                      obtain ⟨j2, hj2, rfl, hp, hb⟩ := hrel
                      have HP := Lib.hid hp
                      clear hp
                      have hT2 := hTr.below hb hTr.lt
                      have hQ2 := hQr.below hb hQr.lt
                      have t4 := hT2.at_ (i := 4) rfl
                      by_cases hlt : j2 < fs.length
                      · have q4 := hQ2.at_ (i := 4) rfl
                        obtain ⟨x, hx⟩ : ∃ x, fs[j2]? = some x := ⟨_, List.getElem?_eq_getElem hlt⟩
                        obtain ⟨y, hy⟩ : ∃ y, fs2[j2]? = some y := ⟨_, List.getElem?_eq_getElem (by rw [← HL2.out]; exact hlt)⟩
                        have hlt2 : j2 < fs2.length := by rw [← HL2.out]; exact hlt
                        obtain ⟨b, o, en, eA, eB, em1, em2, ed1, ed2, epk, eal, hA1, hbt, hnm, hta, q10, q11, q12, q13, q14, q15, q16, q17, q18⟩ := ((HF.out.below HBw.out).below hb).at_ hx
                        obtain ⟨b', o', gn, gA, gB, gm1, gm2, gd1, gd2, gpk, gal, hB1, hbt2, hnm2, htb, r0, r1, r2, r3, r4, r5, r6, r7, r8⟩ := ((HF2.out.below HBw.out).below hb).at_ hy
                        subst hA1 hB1
                        have HX := Lib.hid hx
                        have HY := Lib.hid hy
                        obtain ⟨sb, hsb⟩ : ∃ s, sameS d e x.t y.t = s := ⟨_, rfl⟩
                        have HC := Lib.hid (fun w' (hb' : Below wr.heap.size wr w') => hC.out x.t y.t _ _ _ _ _ _ _ _ _ _ _ _ _ _ w' (hta.below hb') (htb.below hb'))
                        rw [hsb] at HC
                        have HSB := Lib.hid hsb
                        clear hsb hta htb hx hy
                        go_wp2_with fail
                        refine region_tail (C := fun w' => ∃ n, w' = wr.drewN n) 12 (by kernel_rfl) (by kernel_rfl) ⟨1, rfl⟩ ?_
                        simp only [List.take_succ_cons, List.take_zero, List.drop_succ_cons, List.drop_zero]
                        repeat (go_big_quiet_step (fail))
                        refine wpQuiet_nil ?_
                        rintro _ ⟨nq, rfl⟩
                        have HBQ := Lib.hid (bel_drewN (Below.refl wr.heap.size wr) nq)
                        generalize World.drewN wr nq = wq at HBQ ⊢
                        go_wp2_with fail
                        refine (HC.out _ HBQ.out).mono ?_
                        rintro e' w1 ⟨rfl, hb1⟩
                        have hbq := bel_then HBQ.out hb1
                        have HB1 := Lib.hid (bel_then hb hbq)
                        have hT3 := hT2.below hbq hT2.lt
                        have hQ3 := hQ2.below hbq hQ2.lt
                        replace t4 := hT3.at_ (i := 4) rfl
                        replace q4 := hQ3.at_ (i := 4) rfl
                        replace q10 := bel_cell hbq q10
                        replace q18 := bel_cell hbq q18
                        replace r0 := bel_cell hbq r0
                        replace r8 := bel_cell hbq r8
                        clear hb hb1 hbq HC q11 q12 q13 q14 q15 q16 q17 r1 r2 r3 r4 r5 r6 r7 hT2 hQ2
                        cases sb with
                        | false =>
                          go_wp2_with fail
                          go_quiet (fail)
                          go_wp2_with fail
                          go_ret
                          exact ⟨eqT_done (HR.out.trans (by rw [all2_bad (p := sameF d e) HX.out HY.out (by unfold sameF; rw [HSB.out]; simp)]; simp)).symm, bel_drewN (bel_then HBw.out HB1.out) _⟩
                        | true =>
                          cases hn : (x.nm.toList == y.nm.toList) with
                          | false =>
                            go_wp2_with fail
                            go_quiet (fail)
                            go_wp2_with fail
                            go_ret
                            exact ⟨eqT_done (HR.out.trans (by rw [all2_bad (p := sameF d e) HX.out HY.out (by unfold sameF; rw [hn]; simp)]; simp)).symm, bel_drewN (bel_then HBw.out HB1.out) _⟩
                          | true =>
                            cases hbb : (x.bits == y.bits) with
                            | false =>
                              have nbb : (x.bits != y.bits) = true := by rw [bne, hbb]; rfl
                              go_wp2_with fail
                              go_quiet (fail)
                              go_wp2_with fail
                              go_ret
                              exact ⟨eqT_done (HR.out.trans (by rw [all2_bad (p := sameF d e) HX.out HY.out (by unfold sameF; rw [hbb]; simp)]; simp)).symm, bel_drewN (bel_then HBw.out HB1.out) _⟩
                            | true =>
                              have nbb : (x.bits != y.bits) = false := by rw [bne, hbb]; rfl
                              go_wp2_with fail
                              go_quiet (fail)
                              go_wp2_with fail
                              go_roundw
                              case rel => exact ⟨j2 + 1, by omega, by go_num, all2_snoc HX.out HY.out (by unfold sameF; rw [hn, hbb, HSB.out]; rfl) HP.out, bel_drewN HB1.out _⟩
                              case measure => simp [intOf]; omega
                      · have HO2 := Lib.hid (all2_done (p := sameF d e) HL2.out (by rw [← HL2.out]; omega) HP.out)
                        go_wp2_with fail
                        go_ret
                        exact ⟨eqT_done (HR.out.trans (by rw [HO.out, HO2.out]; rfl)).symm, bel_then HBw.out hb⟩
theorem rsame_c : ∀ d e, SameC 52 d e
  | 0, _ => fun a => nomatch a
  | _ + 1, 0 => fun _ b => nomatch b
  | d + 1, e + 1 => rsame_step (rsame_c d e)
end Go.Proofs.Ytcggghamnmflcaa

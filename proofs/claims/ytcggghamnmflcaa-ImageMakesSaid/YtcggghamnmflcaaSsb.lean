/- The contract of shape.Same: whatever two types. -/
import Derived.Test.YtcggghamnmflcaaSsa
namespace Go.Proofs.Ytcggghamnmflcaa
open Go Go.RowKit Go.Shelf
set_option maxRecDepth 100000 in
set_option maxHeartbeats 2000000 in
theorem sameF_c {d e : Nat} (hC : SameC 51 d e) : SameFC d e := by
  intro x y u0 u1 u2 u3 u4 u5 u6 v0 v1 v2 v3 v4 v5 v6 w hta htb
  replace hC := Lib.hid hC
  obtain ⟨en, eA, eB, em1, em2, ed1, ed2, epk, eal, hcse⟩ := hta.form
  simp only [List.cons.injEq, and_true] at hcse
  obtain ⟨rfl, rfl, rfl, rfl, rfl, rfl, rfl⟩ := hcse
  obtain ⟨gn, gA, gB, gm1, gm2, gd1, gd2, gpk, gal, hcsg⟩ := htb.form
  simp only [List.cons.injEq, and_true] at hcsg
  obtain ⟨rfl, rfl, rfl, rfl, rfl, rfl, rfl⟩ := hcsg
  cases h1 : (x.nm.toList == y.nm.toList) with
  | false =>
    have HR := Lib.hid (show sameF d e x y = false by unfold sameF; rw [h1]; rfl)
    clear hta htb
    go_enter Try.func85, Try.ntmps85
    go_wp2_with fail
    go_ret
    exact ⟨eqT_done HR.out.symm, bel_alloc (bel_alloc (Below.refl _ _) _) _⟩
  | true =>
    cases h2 : (x.bits == y.bits) with
    | false =>
      have HR := Lib.hid (show sameF d e x y = false by unfold sameF; rw [h1, h2]; rfl)
      clear hta htb
      go_enter Try.func85, Try.ntmps85
      go_wp2_with fail
      go_ret
      exact ⟨eqT_done HR.out.symm, bel_alloc (bel_alloc (Below.refl _ _) _) _⟩
    | true =>
      have HR := Lib.hid (show sameF d e x y = sameS d e x.t y.t by unfold sameF; rw [h1, h2]; rfl)
      have HB := Lib.hid (bel_alloc (bel_alloc (Below.refl _ w) (.cells #[.string x.nm, .int .i64 (tsh d x.t), .int .i64 (tk d x.t), .int .i64 en, .slice eA em1 ed1, .slice eB em2 ed2, .bool epk, .int .i64 eal, .int .i64 x.bits] 56)) (.cells #[.string y.nm, .int .i64 (tsh e y.t), .int .i64 (tk e y.t), .int .i64 gn, .slice gA gm1 gd1, .slice gB gm2 gd2, .bool gpk, .int .i64 gal, .int .i64 y.bits] 56))
      have HC := Lib.hid (hC.out x.t y.t _ _ _ _ _ _ _ _ _ _ _ _ _ _ _ (hta.below HB.out) (htb.below HB.out))
      clear hta htb
      obtain ⟨sb, hsb⟩ : ∃ s, sameS d e x.t y.t = s := ⟨_, rfl⟩
      rw [hsb] at HC HR
      clear hsb
      go_enter Try.func85, Try.ntmps85
      go_wp2_with fail
      refine HC.out.mono ?_
      rintro e' w1 ⟨rfl, hb1⟩
      have HB1 := Lib.hid (bel_then HB.out hb1)
      clear hb1
      go_wp2_with fail
      go_ret
      exact ⟨eqT_done HR.out.symm, HB1.out⟩
set_option maxRecDepth 100000 in
set_option maxHeartbeats 8000000 in
theorem same_step {d e : Nat} (hC : SameC 51 d e) : SameC 51 (d + 1) (e + 1) := by
  intro a b u0 u1 u2 u3 u4 u5 u6 v0 v1 v2 v3 v4 v5 v6 w hta htb
  have HFC := Lib.hid (sameF_c hC)
  replace hC := Lib.hid hC
  obtain ⟨A1, A2, c1, c2, hcs, a1, a2, a3, a4, l1, l2, m1, m2, hof, hfs⟩ := hta
  simp only [List.cons.injEq, and_true] at hcs
  obtain ⟨rfl, rfl, rfl, rfl, rfl, rfl, rfl⟩ := hcs
  obtain ⟨B1, B2, e1, e2, hcs, b1, b2, b3, b4, j1, j2, i1, i2, hof2, hfs2⟩ := htb
  simp only [List.cons.injEq, and_true] at hcs
  obtain ⟨rfl, rfl, rfl, rfl, rfl, rfl, rfl⟩ := hcs
  obtain ⟨sh, k, n, of, fs, pk, al⟩ := a
  obtain ⟨sh2, k2, n2, of2, fs2, pk2, al2⟩ := b
  have HT := Lib.hid (show TysAt w d A1 of from hof)
  have HT2 := Lib.hid (show TysAt w e B1 of2 from hof2)
  have HF := Lib.hid (show FdsAt w d A2 fs from hfs)
  have HF2 := Lib.hid (show FdsAt w e B2 fs2 from hfs2)
  clear hof hof2 hfs hfs2
  have HE := Lib.hid (show sameS (d + 1) (e + 1) (⟨sh, k, n, of, fs, pk, al⟩ : Nd (Tp d)) (⟨sh2, k2, n2, of2, fs2, pk2, al2⟩ : Nd (Tp e)) = (sh == sh2 && (k == k2 && (n == n2 && (pk == pk2 && (al == al2 && (all2 (sameS d e) of of2 && all2 (sameF d e) fs fs2)))))) from rfl)
  obtain ⟨R, hR⟩ : ∃ R, sameS (d + 1) (e + 1) (⟨sh, k, n, of, fs, pk, al⟩ : Nd (Tp d)) (⟨sh2, k2, n2, of2, fs2, pk2, al2⟩ : Nd (Tp e)) = R := ⟨_, rfl⟩
  rw [hR] at HE ⊢
  clear hR
  simp only at a1 a2 a3 a4 b1 b2 b3 b4 l1 l2 j1 j2 ⊢
  have HB := Lib.hid (bel_alloc (bel_alloc (Below.refl _ w) (.cells #[.int .i64 sh, .int .i64 k, .int .i64 n, .slice A1 of.length c1, .slice A2 fs.length c2, .bool pk, .int .i64 al] 38)) (.cells #[.int .i64 sh2, .int .i64 k2, .int .i64 n2, .slice B1 of2.length e1, .slice B2 fs2.length e2, .bool pk2, .int .i64 al2] 38))
  cases h0 : (sh == sh2) with
  | false =>
    have HR := Lib.hid (show R = false by rw [HE.out, h0]; simp)
    go_enter Try.func51, Try.ntmps51
    go_wp2_with fail
    go_ret
    exact ⟨eqT_done HR.out.symm, HB.out⟩
  | true =>
    cases h1 : (k == k2) with
    | false =>
      have HR := Lib.hid (show R = false by rw [HE.out, h0, h1]; simp)
      go_enter Try.func51, Try.ntmps51
      go_wp2_with fail
      go_ret
      exact ⟨eqT_done HR.out.symm, HB.out⟩
    | true =>
      cases h2 : (n == n2) with
      | false =>
        have HR := Lib.hid (show R = false by rw [HE.out, h0, h1, h2]; simp)
        go_enter Try.func51, Try.ntmps51
        go_wp2_with fail
        go_ret
        exact ⟨eqT_done HR.out.symm, HB.out⟩
      | true =>
        cases h3 : (pk == pk2) with
        | false =>
          have HR := Lib.hid (show R = false by rw [HE.out, h0, h1, h2, h3]; simp)
          go_enter Try.func51, Try.ntmps51
          go_wp2_with fail
          go_ret
          exact ⟨eqT_done HR.out.symm, HB.out⟩
        | true =>
          cases h4 : (al == al2) with
          | false =>
            have HR := Lib.hid (show R = false by rw [HE.out, h0, h1, h2, h3, h4]; simp)
            go_enter Try.func51, Try.ntmps51
            go_wp2_with fail
            go_ret
            exact ⟨eqT_done HR.out.symm, HB.out⟩
          | true =>
            have HR := Lib.hid (show R = (all2 (sameS d e) of of2 && all2 (sameF d e) fs fs2) by rw [HE.out, h0, h1, h2, h3, h4]; simp)
            obtain ⟨s1, hs1⟩ : ∃ s, all2 (sameS d e) of of2 = s := ⟨_, rfl⟩
            obtain ⟨s2, hs2⟩ : ∃ s, all2 (sameF d e) fs fs2 = s := ⟨_, rfl⟩
            have HC := Lib.hid (eqTypes_c hC.out A1 B1 c1 e1 of of2 _ (HT.out.below HB.out) (HT2.out.below HB.out) l1 j1 m1 i1)
            have HD := Lib.hid (fun w' (hb : Below w.heap.size w w') => eqFields_c HFC.out A2 B2 c2 e2 fs fs2 w' (HF.out.below hb) (HF2.out.below hb) l2 j2 m2 i2)
            rw [hs1, hs2] at HR
            rw [hs1] at HC
            rw [hs2] at HD
            clear hs1 hs2 hC HFC HT HT2 HF HF2 HE
            go_enter Try.func51, Try.ntmps51
            go_wp2_with fail
            refine HC.out.mono ?_
            rintro e' w1 ⟨rfl, hb1⟩
            have hT1 := ((Bk.new w 38 #[.int .i64 sh, .int .i64 k, .int .i64 n, .slice A1 of.length c1, .slice A2 fs.length c2, .bool pk, .int .i64 al]).alloc (.cells #[.int .i64 sh2, .int .i64 k2, .int .i64 n2, .slice B1 of2.length e1, .slice B2 fs2.length e2, .bool pk2, .int .i64 al2] 38)).below hb1 (by simp; omega)
            have hT2 := (Bk.new1 w (.cells #[.int .i64 sh, .int .i64 k, .int .i64 n, .slice A1 of.length c1, .slice A2 fs.length c2, .bool pk, .int .i64 al] 38) 38 #[.int .i64 sh2, .int .i64 k2, .int .i64 n2, .slice B1 of2.length e1, .slice B2 fs2.length e2, .bool pk2, .int .i64 al2]).below hb1 (by simp)
            have HB1 := Lib.hid (bel_then HB.out hb1)
            clear hb1
            have t4 := hT1.at_ (i := 4) rfl
            have q4 := hT2.at_ (i := 4) rfl
            cases s1 with
            | false =>
              go_wp2_with fail
              go_ret
              exact ⟨eqT_done HR.out.symm, HB1.out⟩
            | true =>
              go_wp2_with fail
              refine (HD.out _ HB1.out).mono ?_
              rintro e' w2 ⟨rfl, hb2⟩
              have HB2 := Lib.hid (bel_then HB1.out hb2)
              clear hb2 t4 q4 hT1 hT2
              go_wp2_with fail
              go_ret
              exact ⟨eqT_done (HR.out.trans (Bool.true_and _)).symm, HB2.out⟩
theorem same_c : ∀ d e, SameC 51 d e
  | 0, _ => fun a => nomatch a
  | _ + 1, 0 => fun _ b => nomatch b
  | d + 1, e + 1 => same_step (same_c d e)
end Go.Proofs.Ytcggghamnmflcaa

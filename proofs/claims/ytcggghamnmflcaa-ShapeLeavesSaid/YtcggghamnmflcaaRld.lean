/- The reference's leaves at structs and unions. -/
import Derived.Test.YtcggghamnmflcaaRlc
import Derived.Deep.RegionHeld3
import Derived.Deep.AppendLies
namespace Go.Proofs.Ytcggghamnmflcaa
open Go Go.RowKit Go.Shelf
theorem zip_more {d : Nat} {fr : Int} {L : List Spt} {l : List (Fld (Tp d))} {K : List Spt} {j n : Nat} (h : l.length ≤ j ∨ n ≤ ((L ++ ((l.zip K).take j).flatMap (memLv d fr)).take n).length) : (L ++ (l.zip K).flatMap (memLv d fr)).take n = (L ++ ((l.zip K).take j).flatMap (memLv d fr)).take n := by
  rcases h with h | h
  · rw [List.take_of_length_le (l := l.zip K) (by rw [List.length_zip]; omega)]
  · conv => lhs; rw [← List.take_append_drop j (l.zip K), List.flatMap_append, ← List.append_assoc]
    exact take_more h
set_option maxRecDepth 100000 in
set_option maxHeartbeats 8000000 in
theorem rlv_cmp4 {d : Nat} (IH : RLvC d) {t : Nd (Tp d)} {v0 v1 v2 v3 v4 v5 v6 : Value} {b : Bx} {fr : Int} {base : Nat} {v : Value} {L : List Spt} {w w0 : World} (ht : TyAt w0 (d + 1) t [v0, v1, v2, v3, v4, v5, v6]) (hw : Below w0.heap.size w0 w) (hp : plainS (d + 1) t 6 = true) (hbx : boxS (d + 1) t = some b) (h0 : 0 ≤ fr) (h1 : fr + 8 * b.size ≤ 1000000) (hs : t.sh = 4)
    (hrow : w.ownsRow base 48 3 v L.length (sptC L)) (hbs0 : w0.heap.size ≤ base) (hbs : base ≤ w.heap.size) (hL : L.length ≤ 2000) :
    Calls Try.prog 88 #[v, .agg #[v0, v1, v2, v3, v4, v5, v6], .int .i64 fr] w fun e w' => ∃ v', e = .returned v' ∧ w'.ownsRow base 48 3 v' ((L ++ leavesS (d + 1) t fr).take 2001).length (sptC ((L ++ leavesS (d + 1) t fr).take 2001)) ∧ RTr w v w' v' := by
  have h0e := (err_of hp (by omega) hbx)
  have HLI := liesR h0e.1 (show t.sh = 4 ∨ t.sh = 5 by omega)
  rw [h0e.2.2.1, h0e.2.2.2] at HLI
  have hmL : memL (d + 1) t = b.l := by
    unfold memL
    rw [if_pos ⟨h0e.1, show t.sh = 4 ∨ t.sh = 5 by omega⟩, h0e.2.1]
  rw [hmL] at HLI
  have HB := Lib.hid (fun w' (hb : Below w.heap.size w w') => box_c (d + 1) t 6 v0 v1 v2 v3 v4 v5 v6 w' hp (ht.below (hw.trans (hb.mono hw.size))))
  have hX : leavesS (d + 1) t fr = (t.fs.zip b.l).flatMap (memLv d fr) := by
    show (if Nd.sh t = 1 then _ else _) = _
    rw [if_neg (by omega), if_neg (by omega), if_neg (by omega), h0e.2.1]
    rfl
  obtain ⟨X, hXX⟩ : ∃ X, leavesS (d + 1) t fr = X := ⟨_, rfl⟩
  rw [hXX] at hX ⊢
  obtain ⟨A1, A2, c1, c2, hcs, b1, b2, b3, b4, l1, l2, m1, m2, hty, hfs⟩ := id ht
  have hF : FdsAt w0 d A2 t.fs := hfs
  clear hty hfs
  simp only [List.cons.injEq, and_true] at hcs
  obtain ⟨rfl, rfl, rfl, rfl, rfl, rfl, rfl⟩ := hcs
  obtain ⟨A, c, rfl, hsp⟩ := spts_of_row hrow
  obtain ⟨K, hK⟩ : ∃ K, b.l = K := ⟨_, rfl⟩
  rw [hK] at HLI hX
  have hlen : K.length = t.fs.length := HLI.len
  have HALL := HLI.all
  have hsz2 : b.size ≤ 65536 := by have := HLI.n2; omega
  obtain ⟨fs, hfs⟩ : ∃ fs, t.fs = fs := ⟨_, rfl⟩
  rw [hfs] at hlen hF hX HALL l2
  obtain ⟨sh, hsh⟩ : ∃ x, t.sh = x := ⟨_, rfl⟩
  obtain ⟨k, hk⟩ : ∃ x, t.k = x := ⟨_, rfl⟩
  obtain ⟨n, hn⟩ : ∃ x, t.n = x := ⟨_, rfl⟩
  obtain ⟨on, hon⟩ : ∃ x, t.of.length = x := ⟨_, rfl⟩
  obtain ⟨pk, hpk⟩ : ∃ x, t.pk = x := ⟨_, rfl⟩
  obtain ⟨al, hal⟩ : ∃ x, t.al = x := ⟨_, rfl⟩
  obtain ⟨sz, hsz⟩ : ∃ x, b.size = x := ⟨_, rfl⟩
  rw [hsz] at h1 HALL hsz2
  rw [hsh] at hs
  subst hs
  rw [hsh, hk, hn, hon, hfs, hpk, hal] at HB ⊢
  have HX := Lib.hid hX
  have HBX := Lib.hid hbx
  have HR := Lib.hid hrow
  have HF := Lib.hid hF
  have HW := Lib.hid hw
  have HKK := Lib.hid hK
  have HLEN := Lib.hid hlen
  replace HALL := Lib.hid HALL
  have hfl : fs.length ≤ 9223372036854775807 := by omega
  clear hX hXX hbx hsz hsh hk hrow hsp ht hp hw hn hon hfs hpk hal hK hF hlen HLI hmL h0e
  go_enter Try.func88, Try.ntmps88
  go_wp2_with fail
  refine (HB.out _ (bel_alloc (Below.refl _ _) _)).mono ?_
  rintro e w1 ⟨bsz, bag, big, xA, xn, xc, rfl, hb1, hx⟩
  obtain ⟨rfl, hsp⟩ : big = false ∧ Spts (w.alloc (.cells #[.int .i64 4, .int .i64 k, .int .i64 n, .slice A1 on c1, .slice A2 fs.length c2, .bool pk, .int .i64 al] 38)).heap.size w1 xA xn K := by
    rcases hx with ⟨h, _⟩ | ⟨b', h, e1, _, _, e4⟩
    · rw [HBX.out] at h; cases h
    · rw [HBX.out] at h; cases h; exact ⟨e1, by rw [← HKK.out]; exact e4⟩
  obtain rfl : xn = fs.length := by rw [hsp.1.1, HLEN.out]
  have hT1 := (Bk.new w 38 #[.int .i64 4, .int .i64 k, .int .i64 n, .slice A1 on c1, .slice A2 fs.length c2, .bool pk, .int .i64 al]).below hb1 (by simp)
  have HB1 := Lib.hid (bel_then (bel_alloc (Below.refl _ _) _) hb1)
  have t0 := hT1.at_ (i := 0) rfl
  have hT3 := hT1.alloc (.cells #[.int .i64 bsz, .int .i64 bag, .bool false, .slice xA fs.length xc] 58)
  have hO3 := Bk.new w1 58 #[.int .i64 bsz, .int .i64 bag, .bool false, .slice xA fs.length xc]
  have HB3 := Lib.hid (bel_alloc HB1.out (.cells #[.int .i64 bsz, .int .i64 bag, .bool false, .slice xA fs.length xc] 58))
  have hlt1 := hT1.lt
  have HSP := Lib.hid (hsp.1.below (bel_alloc (Below.refl _ _) (.cells #[.int .i64 bsz, .int .i64 bag, .bool false, .slice xA fs.length xc] 58)))
  have HSB := Lib.hid (fun a (ha : xA = some a) => Nat.le_trans (show w.heap.size ≤ (w.alloc (.cells #[.int .i64 4, .int .i64 k, .int .i64 n, .slice A1 on c1, .slice A2 fs.length c2, .bool pk, .int .i64 al] 38)).heap.size by simp) (hsp.2 a ha))
  clear hb1 hx hsp
  go_wp2_with fail
  clear t0 hlt1 hT1
  generalize World.alloc w1 _ = W3 at hT3 hO3 HB3 HSP ⊢
  have hrow3 := row_below HR.out HB3.out
  have HT3 := Lib.hid hT3
  have HO3 := Lib.hid hO3
  have HW3 := Lib.hid (HW.out.trans (HB3.out.mono HW.out.size))
  have hs3 := HB3.out.size
  have NT := Lib.hid (hT3.ne_row (by decide) hrow3)
  have NO := Lib.hid (hO3.ne_row (by decide) hrow3)
  have HR3 := Lib.hid hrow3
  clear hT3 hO3 hrow3
  go_loopw [0, 10] (fun s0 s10 wr => ∃ (j : Nat) (L' : List Spt) (A' : Option Addr) (c' : Nat), j ≤ fs.length ∧ s10 = .int .i64 j ∧ s0 = .slice A' L'.length c' ∧ wr.ownsRow base 48 3 (.slice A' L'.length c') L'.length (sptC L') ∧ RTr W3 (.slice A L.length c) wr (.slice A' L'.length c') ∧ L' = (L ++ ((fs.zip K).take j).flatMap (memLv d fr)).take 2001) (fun _ i _ => fs.length - (intOf i).toNat)
  case atStart => exact ⟨0, L, A, c, Nat.zero_le _, rfl, rfl, HR3.out, RTr.refl _ _, by simp; rw [List.take_of_length_le (by omega)]⟩
  case round =>
    obtain ⟨j, L', A', c', hj, rfl, rfl, hro, htr, hLe⟩ := hrel
    have HLE := Lib.hid hLe
    have hl2 : L'.length ≤ 2001 := by rw [hLe]; exact List.length_take_le _ _
    have hTr := htr.bk HT3.out NT.out
    have hOr := htr.bk HO3.out NO.out
    have t4 := hTr.at_ (i := 4) rfl
    have HRO := Lib.hid hro
    have HTR := Lib.hid htr
    clear hLe hro htr
    by_cases hlt : j < fs.length
    · by_cases hle : L'.length ≤ 2000
      · obtain ⟨f, hf⟩ : ∃ f, fs[j]? = some f := ⟨_, List.getElem?_eq_getElem hlt⟩
        obtain ⟨x, hx⟩ : ∃ x, K[j]? = some x := ⟨_, List.getElem?_eq_getElem (by rw [HLEN.out]; exact hlt)⟩
        obtain ⟨y1, y2, y3, -, -, y6, -, bb, y8⟩ := HALL.out j f x hf hx
        have y9 := y8.bits
        have HP8 := Lib.hid y8
        have HP6 := Lib.hid y6
        have hlow := HTR.out.low HW3.out (fun g hg => Nat.le_trans hbs0 (own_of_row HR3.out g hg).1)
        have HLOW := Lib.hid hlow
        obtain ⟨fb, fo, xn', E1, E2, m1', m2', d1, d2, xpk, xal, hA1, hbt, hnm, htx, p0, p1, p2, p3, p4, p5, p6, p7, p8⟩ := HF.out.at_ hf
        subst hA1
        obtain ⟨sb, so, hA, s0, s1, s2⟩ := HSP.out.2 j x hx
        have hnes : some sb ≠ (Value.slice A L.length c).ownBlock := fun e => by
          have := (own_of_row HR.out sb e.symm).2
          have := HSB.out _ hA
          simp only at this
          omega
        subst hA
        have s0w := s0
        replace s0 := HTR.out.cell s0 hnes
        clear s1 s2
        replace p0 := bel_cell hlow p0
        replace p1 := bel_cell hlow p1
        replace p2 := bel_cell hlow p2
        replace p3 := bel_cell hlow p3
        replace p4 := bel_cell hlow p4
        replace p5 := bel_cell hlow p5
        replace p6 := bel_cell hlow p6
        replace p7 := bel_cell hlow p7
        replace p8 := bel_cell hlow p8
        have o3 := hOr.at_ (i := 3) rfl
        have HTXX := Lib.hid htx
        have HFF := Lib.hid hf
        have HXX := Lib.hid hx
        have hsb := World.block_lt_of_cell? wr _ s0
        simp only at hsb
        have hOl := hOr.lt
        have hTl := hTr.lt
        have hbf := bel_alloc (Below.refl wr.heap.size wr) (.cells #[.string f.nm, .int .i64 (tsh d f.t), .int .i64 (tk d f.t), .int .i64 xn', .slice E1 m1' d1, .slice E2 m2' d2, .bool xpk, .int .i64 xal, .int .i64 f.bits] 56)
        have HBF := Lib.hid hbf
        have hroF := row_below HRO.out hbf
        have hfB := Bk.new wr 56 #[.string f.nm, .int .i64 (tsh d f.t), .int .i64 (tk d f.t), .int .i64 xn', .slice E1 m1' d1, .slice E2 m2' d2, .bool xpk, .int .i64 xal, .int .i64 f.bits]
        have N2 := Lib.hid (show (Value.slice A' L'.length c').ownBlock ≠ some sb from fun e => by
          rcases HTR.out.o with h | ⟨g, h, hg⟩
          · exact hnes (by rw [← h]; exact e.symm)
          · rw [h] at e
            cases e
            have := World.block_lt_of_cell? W3 _ s0w
            simp only at this
            omega)
        have N1 := Lib.hid (show (Value.slice A' L'.length c').ownBlock ≠ some w1.heap.size from fun e => hOr.ne_row (by decide) HRO.out e.symm)
        clear htx y6 y8 hf hx hnes hlow hbf s0w
        by_cases hbp : 0 < f.bits
        · rw [if_neg (by omega)] at y9
          have HMV := Lib.hid (show memLv d fr (f, x) = [⟨fr + x.bit, f.bits, tk d f.t⟩] by unfold memLv; rw [if_neg (by simp only; omega), if_pos hbp])
          have gd : decide (0 < f.bits) = true := decide_eq_true hbp
          go_wp2_with fail
          have o3' := (hOr.below HBF.out hOl).at_ (i := 3) rfl
          have s0' := bel_cell HBF.out s0
          have f2' := hfB.at_ (i := 2) rfl
          have f8' := hfB.at_ (i := 8) rfl
          have NF := Lib.hid (hfB.ne_row (by decide) hroF)
          have hsF := HBF.out.size
          clear t4 o3 s0 p0 p1 p2 p3 p4 p5 p6 p7 p8 hTr hOr
          generalize hWF : World.alloc wr _ = WF at HBF hroF hfB o3' s0' f2' f8' NF hsF ⊢
          have HWF := Lib.hid hWF
          clear hWF
          have hsq := HBF.out.size
          have hrs := HTR.out.g.size
          obtain ⟨i0, hi0, hz0', hz1', hz2'⟩ := info_parts info48
          have z1 : (0 : Int) ≤ (j : Int) := Int.natCast_nonneg _
          have z2 : (j : Int) < (fs.length : Int) := by omega
          have z3 : IntKind.i64.wrap (fr + x.bit) = fr + x.bit := IntWalk.i64_in _ (by omega)
          have n1 : (Value.slice A' L'.length c').ownBlock ≠ some w1.heap.size := N1.out
          have n2 : (Value.slice A' L'.length c').ownBlock ≠ some sb := N2.out
          have n3 : (Value.slice A' L'.length c').ownBlock ≠ some wr.heap.size := Ne.symm NF.out
          have lb1 := World.block_lt_of_cell? _ _ o3'
          have lb2 := World.block_lt_of_cell? _ _ s0'
          have lb3 := World.block_lt_of_cell? _ _ f2'
          simp only at lb1 lb2 lb3
          have HROF := Lib.hid hroF
          clear hroF hfB
          go_region_held3 (fun w' => w'.cell? ⟨w1.heap.size, 3, none⟩ = some (.slice (some ⟨sb, so, none⟩) fs.length xc) ∧ w'.cell? ⟨sb, so + j * 3, none⟩ = some (.int .i64 x.bit) ∧ w'.cell? ⟨wr.heap.size, 2, none⟩ = some (.int .i64 (tk d f.t)) ∧ w'.cell? ⟨wr.heap.size, 8, none⟩ = some (.int .i64 f.bits))
            (first
              | go_keep
              | (go_split_ands
                 refine ⟨?_, ?_, ?_, ?_⟩
                 · (rw [hgrow.cell_far _ (by simp; omega) (Ne.symm n1)]; assumption)
                 · (rw [hgrow.cell_far _ (by simp; omega) (Ne.symm n2)]; assumption)
                 · (rw [hgrow.cell_far _ (by simp; omega) (Ne.symm n3)]; assumption)
                 · (rw [hgrow.cell_far _ (by simp; omega) (Ne.symm n3)]; assumption)))
            ((refine step_append_lies _ (by rfl) _ _ _ (by rfl) base 48 i0 _ 3 24 Try.underlying42 hi0 hz0' hz1' hz2' rfl (by omega) (.slice A' L'.length c') L'.length (sptC L') (by rfl) ((HROF.out.alloc _).drew)
                ⟨WF.heap.size, 0, none⟩ 1 1 [.int .i64 (fr + x.bit), .int .i64 f.bits, .int .i64 (tk d f.t)] (by rfl) (by rfl) (World.news_of_block (cs := #[.int .i64 (fr + x.bit), .int .i64 f.bits, .int .i64 (tk d f.t)]) (t := 48) (fr := (0, 0)) (heap_alloc_new WF _)) (by simp [Value.oneCell'])
                (by omega) (by unfold maxLen; omega) (by omega) (by simp; omega) (WF.heap.size + 1) (by simp) ?_; intro g5 c5 w7 hown7 hgrow hat hlt7))
          obtain ⟨-, -, -, f8⟩ : w7.cell? ⟨w1.heap.size, 3, none⟩ = some (.slice (some ⟨sb, so, none⟩) fs.length xc) ∧ w7.cell? ⟨sb, so + j * 3, none⟩ = some (.int .i64 x.bit) ∧ w7.cell? ⟨wr.heap.size, 2, none⟩ = some (.int .i64 (tk d f.t)) ∧ w7.cell? ⟨wr.heap.size, 8, none⟩ = some (.int .i64 f.bits) := by assumption
          have hO : w7.ownsRow base 48 3 (.slice (some ⟨g5, 0, none⟩) (L' ++ [(⟨fr + x.bit, f.bits, tk d f.t⟩ : Spt)]).length c5) (L' ++ [(⟨fr + x.bit, f.bits, tk d f.t⟩ : Spt)]).length (sptC (L' ++ [(⟨fr + x.bit, f.bits, tk d f.t⟩ : Spt)])) := by
            rw [sptC_snoc, List.length_append]
            exact hown7
          have hE5 : L'.length + 1 = (L' ++ [(⟨fr + x.bit, f.bits, tk d f.t⟩ : Spt)]).length := by rw [List.length_append]; rfl
          have HTR7 := Lib.hid (HTR.out.trans ((RTr.below HBF.out).trans ((RTr.below (v := .slice A' L'.length c') (bel_drew (bel_alloc (Below.refl WF.heap.size WF) (.cells #[.int .i64 (fr + x.bit), .int .i64 f.bits, .int .i64 (tk d f.t)] 48)))).trans (⟨hgrow, by
            rcases hat with h | h
            · exact .inl h.symm
            · exact .inr ⟨g5, rfl, by rw [h]; simp⟩⟩ : RTr _ (.slice A' L'.length c') w7 (.slice (some ⟨g5, 0, none⟩) (L'.length + 1) c5)))))
          rw [hE5] at HTR7 ⊢
          obtain ⟨L5, hL5⟩ : ∃ L5, L' ++ [(⟨fr + x.bit, f.bits, tk d f.t⟩ : Spt)] = L5 := ⟨_, rfl⟩
          rw [hL5] at hO HTR7 ⊢
          have HL5 := Lib.hid (show L5 = (L' ++ [(⟨fr + x.bit, f.bits, tk d f.t⟩ : Spt)]).take 2001 by rw [← hL5, List.take_of_length_le (by simp; omega)])
          have HO5 := Lib.hid hO
          clear hO hL5 hE5 hown7 hgrow hat hlt7 z3 n1 n2 n3
          go_wp2_with fail
          go_roundw
          case rel => exact ⟨j + 1, L5, some ⟨g5, 0, none⟩, c5, by omega, by go_num, rfl, HO5.out, HTR7.out, by rw [HL5.out, ← HMV.out, take_join HLE.out, List.append_assoc, zip_snoc HFF.out HXX.out]⟩
          case measure => simp [intOf]; omega
        · by_cases hbn : f.bits < 0
          · rw [if_pos hbn] at y9
            have HMV := Lib.hid (show memLv d fr (f, x) = leavesS d f.t (fr + x.bit) by unfold memLv; rw [if_neg (by simp only; omega), if_neg hbp])
            have gd : decide (0 < f.bits) = false := decide_eq_false hbp
            go_wp2_with fail
            have o3' := (hOr.below HBF.out hOl).at_ (i := 3) rfl
            have s0' := bel_cell HBF.out s0
            have g1 := hfB.at_ (i := 1) rfl
            have g2 := hfB.at_ (i := 2) rfl
            have g3 := hfB.at_ (i := 3) rfl
            have g4 := hfB.at_ (i := 4) rfl
            have g5 := hfB.at_ (i := 5) rfl
            have g6 := hfB.at_ (i := 6) rfl
            have g7 := hfB.at_ (i := 7) rfl
            have hsF := HBF.out.size
            clear t4 o3 s0 p0 p1 p2 p3 p4 p5 p6 p7 p8 hTr hOr
            generalize hWF : World.alloc wr _ = WF at HBF hroF hfB o3' s0' g1 g2 g3 g4 g5 g6 g7 hsF ⊢
            clear hWF
            refine region_tail (C := fun w' => ∃ n, w' = WF.drewN n) 11 (by kernel_rfl) (by kernel_rfl) ⟨1, rfl⟩ ?_
            simp only [List.take_succ_cons, List.take_zero, List.drop_succ_cons, List.drop_zero]
            repeat (go_big_quiet_step (fail))
            refine wpQuiet_nil ?_
            rintro _ ⟨nq, rfl⟩
            have hbq := bel_drewN (Below.refl WF.heap.size WF) nq
            have hroq := row_below hroF hbq
            have HBQ := Lib.hid (bel_then HBF.out hbq)
            clear o3' s0' g1 g2 g3 g4 g5 g6 g7 hroF hfB
            generalize World.drewN WF nq = Wq at hbq hroq HBQ ⊢
            have hsq := HBQ.out.size
            have hrs := HTR.out.g.size
            clear hbq
            go_wp2_with fail
            refine (IH w0 f.t _ _ _ _ _ _ _ _ bb (fr + x.bit) base _ L' Wq rfl HTXX.out (HLOW.out.trans (HBQ.out.mono HLOW.out.size)) (plain_mono _ _ _ _ HP6.out (by omega)) HP8.out.bx (by omega) (by omega) hroq hbs0 (by omega) (by omega)).mono ?_
            rintro e w5 ⟨v5, rfl, hro5, htr5⟩
            obtain ⟨L5, hL5⟩ : ∃ L5, (L' ++ leavesS d f.t (fr + x.bit)).take 2001 = L5 := ⟨_, rfl⟩
            rw [hL5] at hro5
            have HL5 := Lib.hid hL5
            clear hL5
            obtain ⟨A5, c5, rfl, -⟩ := spts_of_row hro5
            have HRO5 := Lib.hid hro5
            have HTR5 := Lib.hid (HTR.out.trans ((RTr.below HBQ.out).trans htr5))
            clear hro5 htr5 hroq
            go_wp2_with fail
            go_roundw
            case rel => exact ⟨j + 1, L5, A5, c5, by omega, by go_num, rfl, HRO5.out, HTR5.out, by rw [← HL5.out, ← HMV.out, take_join HLE.out, List.append_assoc, zip_snoc HFF.out HXX.out]⟩
            case measure => simp [intOf]; omega
          · have hbz : f.bits = 0 := by omega
            have HMV := Lib.hid (show memLv d fr (f, x) = [] by unfold memLv; rw [if_pos hbz])
            clear y9
            rw [hbz] at HBF hroF
            go_wp2_with fail
            go_roundw
            case rel => exact ⟨j + 1, L', A', c', by omega, by go_num, rfl, hroF, HTR.out.trans (RTr.below HBF.out), by rw [← zip_snoc HFF.out HXX.out, HMV.out, List.append_nil]; exact HLE.out⟩
            case measure => simp [intOf]; omega
      · have HFm := Lib.hid (zip_more (fr := fr) (L := L) (l := fs) (K := K) (j := j) (n := 2001) (.inr (by rw [← HLE.out]; omega)))
        go_wp2_with fail
        go_ret
        refine ⟨_, rfl, ?_, (RTr.below HB3.out).trans HTR.out⟩
        rw [HX.out, HFm.out, ← HLE.out]
        exact HRO.out
    · have HFm := Lib.hid (zip_more (fr := fr) (L := L) (l := fs) (K := K) (j := j) (n := 2001) (.inl (by omega)))
      have hge : fs.length ≤ j := by omega
      go_wp2_with fail
      go_ret
      refine ⟨_, rfl, ?_, (RTr.below HB3.out).trans HTR.out⟩
      rw [HX.out, HFm.out, ← HLE.out]
      exact HRO.out
set_option maxRecDepth 100000 in
set_option maxHeartbeats 8000000 in
theorem rlv_cmp5 {d : Nat} (IH : RLvC d) {t : Nd (Tp d)} {v0 v1 v2 v3 v4 v5 v6 : Value} {b : Bx} {fr : Int} {base : Nat} {v : Value} {L : List Spt} {w w0 : World} (ht : TyAt w0 (d + 1) t [v0, v1, v2, v3, v4, v5, v6]) (hw : Below w0.heap.size w0 w) (hp : plainS (d + 1) t 6 = true) (hbx : boxS (d + 1) t = some b) (h0 : 0 ≤ fr) (h1 : fr + 8 * b.size ≤ 1000000) (hs : t.sh = 5)
    (hrow : w.ownsRow base 48 3 v L.length (sptC L)) (hbs0 : w0.heap.size ≤ base) (hbs : base ≤ w.heap.size) (hL : L.length ≤ 2000) :
    Calls Try.prog 88 #[v, .agg #[v0, v1, v2, v3, v4, v5, v6], .int .i64 fr] w fun e w' => ∃ v', e = .returned v' ∧ w'.ownsRow base 48 3 v' ((L ++ leavesS (d + 1) t fr).take 2001).length (sptC ((L ++ leavesS (d + 1) t fr).take 2001)) ∧ RTr w v w' v' := by
  have h0e := (err_of hp (by omega) hbx)
  have HLI := liesR h0e.1 (show t.sh = 4 ∨ t.sh = 5 by omega)
  rw [h0e.2.2.1, h0e.2.2.2] at HLI
  have hmL : memL (d + 1) t = b.l := by
    unfold memL
    rw [if_pos ⟨h0e.1, show t.sh = 4 ∨ t.sh = 5 by omega⟩, h0e.2.1]
  rw [hmL] at HLI
  have HB := Lib.hid (fun w' (hb : Below w.heap.size w w') => box_c (d + 1) t 6 v0 v1 v2 v3 v4 v5 v6 w' hp (ht.below (hw.trans (hb.mono hw.size))))
  have hX : leavesS (d + 1) t fr = (t.fs.zip b.l).flatMap (memLv d fr) := by
    show (if Nd.sh t = 1 then _ else _) = _
    rw [if_neg (by omega), if_neg (by omega), if_neg (by omega), h0e.2.1]
    rfl
  obtain ⟨X, hXX⟩ : ∃ X, leavesS (d + 1) t fr = X := ⟨_, rfl⟩
  rw [hXX] at hX ⊢
  obtain ⟨A1, A2, c1, c2, hcs, b1, b2, b3, b4, l1, l2, m1, m2, hty, hfs⟩ := id ht
  have hF : FdsAt w0 d A2 t.fs := hfs
  clear hty hfs
  simp only [List.cons.injEq, and_true] at hcs
  obtain ⟨rfl, rfl, rfl, rfl, rfl, rfl, rfl⟩ := hcs
  obtain ⟨A, c, rfl, hsp⟩ := spts_of_row hrow
  obtain ⟨K, hK⟩ : ∃ K, b.l = K := ⟨_, rfl⟩
  rw [hK] at HLI hX
  have hlen : K.length = t.fs.length := HLI.len
  have HALL := HLI.all
  have hsz2 : b.size ≤ 65536 := by have := HLI.n2; omega
  obtain ⟨fs, hfs⟩ : ∃ fs, t.fs = fs := ⟨_, rfl⟩
  rw [hfs] at hlen hF hX HALL l2
  obtain ⟨sh, hsh⟩ : ∃ x, t.sh = x := ⟨_, rfl⟩
  obtain ⟨k, hk⟩ : ∃ x, t.k = x := ⟨_, rfl⟩
  obtain ⟨n, hn⟩ : ∃ x, t.n = x := ⟨_, rfl⟩
  obtain ⟨on, hon⟩ : ∃ x, t.of.length = x := ⟨_, rfl⟩
  obtain ⟨pk, hpk⟩ : ∃ x, t.pk = x := ⟨_, rfl⟩
  obtain ⟨al, hal⟩ : ∃ x, t.al = x := ⟨_, rfl⟩
  obtain ⟨sz, hsz⟩ : ∃ x, b.size = x := ⟨_, rfl⟩
  rw [hsz] at h1 HALL hsz2
  rw [hsh] at hs
  subst hs
  rw [hsh, hk, hn, hon, hfs, hpk, hal] at HB ⊢
  have HX := Lib.hid hX
  have HBX := Lib.hid hbx
  have HR := Lib.hid hrow
  have HF := Lib.hid hF
  have HW := Lib.hid hw
  have HKK := Lib.hid hK
  have HLEN := Lib.hid hlen
  replace HALL := Lib.hid HALL
  have hfl : fs.length ≤ 9223372036854775807 := by omega
  clear hX hXX hbx hsz hsh hk hrow hsp ht hp hw hn hon hfs hpk hal hK hF hlen HLI hmL h0e
  go_enter Try.func88, Try.ntmps88
  go_wp2_with fail
  refine (HB.out _ (bel_alloc (Below.refl _ _) _)).mono ?_
  rintro e w1 ⟨bsz, bag, big, xA, xn, xc, rfl, hb1, hx⟩
  obtain ⟨rfl, hsp⟩ : big = false ∧ Spts (w.alloc (.cells #[.int .i64 5, .int .i64 k, .int .i64 n, .slice A1 on c1, .slice A2 fs.length c2, .bool pk, .int .i64 al] 38)).heap.size w1 xA xn K := by
    rcases hx with ⟨h, _⟩ | ⟨b', h, e1, _, _, e4⟩
    · rw [HBX.out] at h; cases h
    · rw [HBX.out] at h; cases h; exact ⟨e1, by rw [← HKK.out]; exact e4⟩
  obtain rfl : xn = fs.length := by rw [hsp.1.1, HLEN.out]
  have hT1 := (Bk.new w 38 #[.int .i64 5, .int .i64 k, .int .i64 n, .slice A1 on c1, .slice A2 fs.length c2, .bool pk, .int .i64 al]).below hb1 (by simp)
  have HB1 := Lib.hid (bel_then (bel_alloc (Below.refl _ _) _) hb1)
  have t0 := hT1.at_ (i := 0) rfl
  have hT3 := hT1.alloc (.cells #[.int .i64 bsz, .int .i64 bag, .bool false, .slice xA fs.length xc] 58)
  have hO3 := Bk.new w1 58 #[.int .i64 bsz, .int .i64 bag, .bool false, .slice xA fs.length xc]
  have HB3 := Lib.hid (bel_alloc HB1.out (.cells #[.int .i64 bsz, .int .i64 bag, .bool false, .slice xA fs.length xc] 58))
  have hlt1 := hT1.lt
  have HSP := Lib.hid (hsp.1.below (bel_alloc (Below.refl _ _) (.cells #[.int .i64 bsz, .int .i64 bag, .bool false, .slice xA fs.length xc] 58)))
  have HSB := Lib.hid (fun a (ha : xA = some a) => Nat.le_trans (show w.heap.size ≤ (w.alloc (.cells #[.int .i64 5, .int .i64 k, .int .i64 n, .slice A1 on c1, .slice A2 fs.length c2, .bool pk, .int .i64 al] 38)).heap.size by simp) (hsp.2 a ha))
  clear hb1 hx hsp
  go_wp2_with fail
  clear t0 hlt1 hT1
  generalize World.alloc w1 _ = W3 at hT3 hO3 HB3 HSP ⊢
  have hrow3 := row_below HR.out HB3.out
  have HT3 := Lib.hid hT3
  have HO3 := Lib.hid hO3
  have HW3 := Lib.hid (HW.out.trans (HB3.out.mono HW.out.size))
  have hs3 := HB3.out.size
  have NT := Lib.hid (hT3.ne_row (by decide) hrow3)
  have NO := Lib.hid (hO3.ne_row (by decide) hrow3)
  have HR3 := Lib.hid hrow3
  clear hT3 hO3 hrow3
  go_loopw [0, 10] (fun s0 s10 wr => ∃ (j : Nat) (L' : List Spt) (A' : Option Addr) (c' : Nat), j ≤ fs.length ∧ s10 = .int .i64 j ∧ s0 = .slice A' L'.length c' ∧ wr.ownsRow base 48 3 (.slice A' L'.length c') L'.length (sptC L') ∧ RTr W3 (.slice A L.length c) wr (.slice A' L'.length c') ∧ L' = (L ++ ((fs.zip K).take j).flatMap (memLv d fr)).take 2001) (fun _ i _ => fs.length - (intOf i).toNat)
  case atStart => exact ⟨0, L, A, c, Nat.zero_le _, rfl, rfl, HR3.out, RTr.refl _ _, by simp; rw [List.take_of_length_le (by omega)]⟩
  case round =>
    obtain ⟨j, L', A', c', hj, rfl, rfl, hro, htr, hLe⟩ := hrel
    have HLE := Lib.hid hLe
    have hl2 : L'.length ≤ 2001 := by rw [hLe]; exact List.length_take_le _ _
    have hTr := htr.bk HT3.out NT.out
    have hOr := htr.bk HO3.out NO.out
    have t4 := hTr.at_ (i := 4) rfl
    have HRO := Lib.hid hro
    have HTR := Lib.hid htr
    clear hLe hro htr
    by_cases hlt : j < fs.length
    · by_cases hle : L'.length ≤ 2000
      · obtain ⟨f, hf⟩ : ∃ f, fs[j]? = some f := ⟨_, List.getElem?_eq_getElem hlt⟩
        obtain ⟨x, hx⟩ : ∃ x, K[j]? = some x := ⟨_, List.getElem?_eq_getElem (by rw [HLEN.out]; exact hlt)⟩
        obtain ⟨y1, y2, y3, -, -, y6, -, bb, y8⟩ := HALL.out j f x hf hx
        have y9 := y8.bits
        have HP8 := Lib.hid y8
        have HP6 := Lib.hid y6
        have hlow := HTR.out.low HW3.out (fun g hg => Nat.le_trans hbs0 (own_of_row HR3.out g hg).1)
        have HLOW := Lib.hid hlow
        obtain ⟨fb, fo, xn', E1, E2, m1', m2', d1, d2, xpk, xal, hA1, hbt, hnm, htx, p0, p1, p2, p3, p4, p5, p6, p7, p8⟩ := HF.out.at_ hf
        subst hA1
        obtain ⟨sb, so, hA, s0, s1, s2⟩ := HSP.out.2 j x hx
        have hnes : some sb ≠ (Value.slice A L.length c).ownBlock := fun e => by
          have := (own_of_row HR.out sb e.symm).2
          have := HSB.out _ hA
          simp only at this
          omega
        subst hA
        have s0w := s0
        replace s0 := HTR.out.cell s0 hnes
        clear s1 s2
        replace p0 := bel_cell hlow p0
        replace p1 := bel_cell hlow p1
        replace p2 := bel_cell hlow p2
        replace p3 := bel_cell hlow p3
        replace p4 := bel_cell hlow p4
        replace p5 := bel_cell hlow p5
        replace p6 := bel_cell hlow p6
        replace p7 := bel_cell hlow p7
        replace p8 := bel_cell hlow p8
        have o3 := hOr.at_ (i := 3) rfl
        have HTXX := Lib.hid htx
        have HFF := Lib.hid hf
        have HXX := Lib.hid hx
        have hsb := World.block_lt_of_cell? wr _ s0
        simp only at hsb
        have hOl := hOr.lt
        have hTl := hTr.lt
        have hbf := bel_alloc (Below.refl wr.heap.size wr) (.cells #[.string f.nm, .int .i64 (tsh d f.t), .int .i64 (tk d f.t), .int .i64 xn', .slice E1 m1' d1, .slice E2 m2' d2, .bool xpk, .int .i64 xal, .int .i64 f.bits] 56)
        have HBF := Lib.hid hbf
        have hroF := row_below HRO.out hbf
        have hfB := Bk.new wr 56 #[.string f.nm, .int .i64 (tsh d f.t), .int .i64 (tk d f.t), .int .i64 xn', .slice E1 m1' d1, .slice E2 m2' d2, .bool xpk, .int .i64 xal, .int .i64 f.bits]
        have N2 := Lib.hid (show (Value.slice A' L'.length c').ownBlock ≠ some sb from fun e => by
          rcases HTR.out.o with h | ⟨g, h, hg⟩
          · exact hnes (by rw [← h]; exact e.symm)
          · rw [h] at e
            cases e
            have := World.block_lt_of_cell? W3 _ s0w
            simp only at this
            omega)
        have N1 := Lib.hid (show (Value.slice A' L'.length c').ownBlock ≠ some w1.heap.size from fun e => hOr.ne_row (by decide) HRO.out e.symm)
        clear htx y6 y8 hf hx hnes hlow hbf s0w
        by_cases hbp : 0 < f.bits
        · rw [if_neg (by omega)] at y9
          have HMV := Lib.hid (show memLv d fr (f, x) = [⟨fr + x.bit, f.bits, tk d f.t⟩] by unfold memLv; rw [if_neg (by simp only; omega), if_pos hbp])
          have gd : decide (0 < f.bits) = true := decide_eq_true hbp
          go_wp2_with fail
          have o3' := (hOr.below HBF.out hOl).at_ (i := 3) rfl
          have s0' := bel_cell HBF.out s0
          have f2' := hfB.at_ (i := 2) rfl
          have f8' := hfB.at_ (i := 8) rfl
          have NF := Lib.hid (hfB.ne_row (by decide) hroF)
          have hsF := HBF.out.size
          clear t4 o3 s0 p0 p1 p2 p3 p4 p5 p6 p7 p8 hTr hOr
          generalize hWF : World.alloc wr _ = WF at HBF hroF hfB o3' s0' f2' f8' NF hsF ⊢
          have HWF := Lib.hid hWF
          clear hWF
          have hsq := HBF.out.size
          have hrs := HTR.out.g.size
          obtain ⟨i0, hi0, hz0', hz1', hz2'⟩ := info_parts info48
          have z1 : (0 : Int) ≤ (j : Int) := Int.natCast_nonneg _
          have z2 : (j : Int) < (fs.length : Int) := by omega
          have z3 : IntKind.i64.wrap (fr + x.bit) = fr + x.bit := IntWalk.i64_in _ (by omega)
          have n1 : (Value.slice A' L'.length c').ownBlock ≠ some w1.heap.size := N1.out
          have n2 : (Value.slice A' L'.length c').ownBlock ≠ some sb := N2.out
          have n3 : (Value.slice A' L'.length c').ownBlock ≠ some wr.heap.size := Ne.symm NF.out
          have lb1 := World.block_lt_of_cell? _ _ o3'
          have lb2 := World.block_lt_of_cell? _ _ s0'
          have lb3 := World.block_lt_of_cell? _ _ f2'
          simp only at lb1 lb2 lb3
          have HROF := Lib.hid hroF
          clear hroF hfB
          go_region_held3 (fun w' => w'.cell? ⟨w1.heap.size, 3, none⟩ = some (.slice (some ⟨sb, so, none⟩) fs.length xc) ∧ w'.cell? ⟨sb, so + j * 3, none⟩ = some (.int .i64 x.bit) ∧ w'.cell? ⟨wr.heap.size, 2, none⟩ = some (.int .i64 (tk d f.t)) ∧ w'.cell? ⟨wr.heap.size, 8, none⟩ = some (.int .i64 f.bits))
            (first
              | go_keep
              | (go_split_ands
                 refine ⟨?_, ?_, ?_, ?_⟩
                 · (rw [hgrow.cell_far _ (by simp; omega) (Ne.symm n1)]; assumption)
                 · (rw [hgrow.cell_far _ (by simp; omega) (Ne.symm n2)]; assumption)
                 · (rw [hgrow.cell_far _ (by simp; omega) (Ne.symm n3)]; assumption)
                 · (rw [hgrow.cell_far _ (by simp; omega) (Ne.symm n3)]; assumption)))
            ((refine step_append_lies _ (by rfl) _ _ _ (by rfl) base 48 i0 _ 3 24 Try.underlying42 hi0 hz0' hz1' hz2' rfl (by omega) (.slice A' L'.length c') L'.length (sptC L') (by rfl) ((HROF.out.alloc _).drew)
                ⟨WF.heap.size, 0, none⟩ 1 1 [.int .i64 (fr + x.bit), .int .i64 f.bits, .int .i64 (tk d f.t)] (by rfl) (by rfl) (World.news_of_block (cs := #[.int .i64 (fr + x.bit), .int .i64 f.bits, .int .i64 (tk d f.t)]) (t := 48) (fr := (0, 0)) (heap_alloc_new WF _)) (by simp [Value.oneCell'])
                (by omega) (by unfold maxLen; omega) (by omega) (by simp; omega) (WF.heap.size + 1) (by simp) ?_; intro g5 c5 w7 hown7 hgrow hat hlt7))
          obtain ⟨-, -, -, f8⟩ : w7.cell? ⟨w1.heap.size, 3, none⟩ = some (.slice (some ⟨sb, so, none⟩) fs.length xc) ∧ w7.cell? ⟨sb, so + j * 3, none⟩ = some (.int .i64 x.bit) ∧ w7.cell? ⟨wr.heap.size, 2, none⟩ = some (.int .i64 (tk d f.t)) ∧ w7.cell? ⟨wr.heap.size, 8, none⟩ = some (.int .i64 f.bits) := by assumption
          have hO : w7.ownsRow base 48 3 (.slice (some ⟨g5, 0, none⟩) (L' ++ [(⟨fr + x.bit, f.bits, tk d f.t⟩ : Spt)]).length c5) (L' ++ [(⟨fr + x.bit, f.bits, tk d f.t⟩ : Spt)]).length (sptC (L' ++ [(⟨fr + x.bit, f.bits, tk d f.t⟩ : Spt)])) := by
            rw [sptC_snoc, List.length_append]
            exact hown7
          have hE5 : L'.length + 1 = (L' ++ [(⟨fr + x.bit, f.bits, tk d f.t⟩ : Spt)]).length := by rw [List.length_append]; rfl
          have HTR7 := Lib.hid (HTR.out.trans ((RTr.below HBF.out).trans ((RTr.below (v := .slice A' L'.length c') (bel_drew (bel_alloc (Below.refl WF.heap.size WF) (.cells #[.int .i64 (fr + x.bit), .int .i64 f.bits, .int .i64 (tk d f.t)] 48)))).trans (⟨hgrow, by
            rcases hat with h | h
            · exact .inl h.symm
            · exact .inr ⟨g5, rfl, by rw [h]; simp⟩⟩ : RTr _ (.slice A' L'.length c') w7 (.slice (some ⟨g5, 0, none⟩) (L'.length + 1) c5)))))
          rw [hE5] at HTR7 ⊢
          obtain ⟨L5, hL5⟩ : ∃ L5, L' ++ [(⟨fr + x.bit, f.bits, tk d f.t⟩ : Spt)] = L5 := ⟨_, rfl⟩
          rw [hL5] at hO HTR7 ⊢
          have HL5 := Lib.hid (show L5 = (L' ++ [(⟨fr + x.bit, f.bits, tk d f.t⟩ : Spt)]).take 2001 by rw [← hL5, List.take_of_length_le (by simp; omega)])
          have HO5 := Lib.hid hO
          clear hO hL5 hE5 hown7 hgrow hat hlt7 z3 n1 n2 n3
          go_wp2_with fail
          go_roundw
          case rel => exact ⟨j + 1, L5, some ⟨g5, 0, none⟩, c5, by omega, by go_num, rfl, HO5.out, HTR7.out, by rw [HL5.out, ← HMV.out, take_join HLE.out, List.append_assoc, zip_snoc HFF.out HXX.out]⟩
          case measure => simp [intOf]; omega
        · by_cases hbn : f.bits < 0
          · rw [if_pos hbn] at y9
            have HMV := Lib.hid (show memLv d fr (f, x) = leavesS d f.t (fr + x.bit) by unfold memLv; rw [if_neg (by simp only; omega), if_neg hbp])
            have gd : decide (0 < f.bits) = false := decide_eq_false hbp
            go_wp2_with fail
            have o3' := (hOr.below HBF.out hOl).at_ (i := 3) rfl
            have s0' := bel_cell HBF.out s0
            have g1 := hfB.at_ (i := 1) rfl
            have g2 := hfB.at_ (i := 2) rfl
            have g3 := hfB.at_ (i := 3) rfl
            have g4 := hfB.at_ (i := 4) rfl
            have g5 := hfB.at_ (i := 5) rfl
            have g6 := hfB.at_ (i := 6) rfl
            have g7 := hfB.at_ (i := 7) rfl
            have hsF := HBF.out.size
            clear t4 o3 s0 p0 p1 p2 p3 p4 p5 p6 p7 p8 hTr hOr
            generalize hWF : World.alloc wr _ = WF at HBF hroF hfB o3' s0' g1 g2 g3 g4 g5 g6 g7 hsF ⊢
            clear hWF
            refine region_tail (C := fun w' => ∃ n, w' = WF.drewN n) 11 (by kernel_rfl) (by kernel_rfl) ⟨1, rfl⟩ ?_
            simp only [List.take_succ_cons, List.take_zero, List.drop_succ_cons, List.drop_zero]
            repeat (go_big_quiet_step (fail))
            refine wpQuiet_nil ?_
            rintro _ ⟨nq, rfl⟩
            have hbq := bel_drewN (Below.refl WF.heap.size WF) nq
            have hroq := row_below hroF hbq
            have HBQ := Lib.hid (bel_then HBF.out hbq)
            clear o3' s0' g1 g2 g3 g4 g5 g6 g7 hroF hfB
            generalize World.drewN WF nq = Wq at hbq hroq HBQ ⊢
            have hsq := HBQ.out.size
            have hrs := HTR.out.g.size
            clear hbq
            go_wp2_with fail
            refine (IH w0 f.t _ _ _ _ _ _ _ _ bb (fr + x.bit) base _ L' Wq rfl HTXX.out (HLOW.out.trans (HBQ.out.mono HLOW.out.size)) (plain_mono _ _ _ _ HP6.out (by omega)) HP8.out.bx (by omega) (by omega) hroq hbs0 (by omega) (by omega)).mono ?_
            rintro e w5 ⟨v5, rfl, hro5, htr5⟩
            obtain ⟨L5, hL5⟩ : ∃ L5, (L' ++ leavesS d f.t (fr + x.bit)).take 2001 = L5 := ⟨_, rfl⟩
            rw [hL5] at hro5
            have HL5 := Lib.hid hL5
            clear hL5
            obtain ⟨A5, c5, rfl, -⟩ := spts_of_row hro5
            have HRO5 := Lib.hid hro5
            have HTR5 := Lib.hid (HTR.out.trans ((RTr.below HBQ.out).trans htr5))
            clear hro5 htr5 hroq
            go_wp2_with fail
            go_roundw
            case rel => exact ⟨j + 1, L5, A5, c5, by omega, by go_num, rfl, HRO5.out, HTR5.out, by rw [← HL5.out, ← HMV.out, take_join HLE.out, List.append_assoc, zip_snoc HFF.out HXX.out]⟩
            case measure => simp [intOf]; omega
          · have hbz : f.bits = 0 := by omega
            have HMV := Lib.hid (show memLv d fr (f, x) = [] by unfold memLv; rw [if_pos hbz])
            clear y9
            rw [hbz] at HBF hroF
            go_wp2_with fail
            go_roundw
            case rel => exact ⟨j + 1, L', A', c', by omega, by go_num, rfl, hroF, HTR.out.trans (RTr.below HBF.out), by rw [← zip_snoc HFF.out HXX.out, HMV.out, List.append_nil]; exact HLE.out⟩
            case measure => simp [intOf]; omega
      · have HFm := Lib.hid (zip_more (fr := fr) (L := L) (l := fs) (K := K) (j := j) (n := 2001) (.inr (by rw [← HLE.out]; omega)))
        go_wp2_with fail
        go_ret
        refine ⟨_, rfl, ?_, (RTr.below HB3.out).trans HTR.out⟩
        rw [HX.out, HFm.out, ← HLE.out]
        exact HRO.out
    · have HFm := Lib.hid (zip_more (fr := fr) (L := L) (l := fs) (K := K) (j := j) (n := 2001) (.inl (by omega)))
      have hge : fs.length ≤ j := by omega
      go_wp2_with fail
      go_ret
      refine ⟨_, rfl, ?_, (RTr.below HB3.out).trans HTR.out⟩
      rw [HX.out, HFm.out, ← HLE.out]
      exact HRO.out
theorem rlv_c : ∀ d, RLvC d
  | 0 => fun _ t => nomatch t
  | d + 1 => fun w0 t cs v0 v1 v2 v3 v4 v5 v6 b fr base v L w hcs ht hw hp hbx h0 h1 hrow hb0 hb1 hL => by
    subst hcs
    by_cases hL2 : L.length = 2001
    · exact rlv_full ht hrow hL2
    · have hL3 : L.length ≤ 2000 := by omega
      by_cases h1' : Nd.sh t = 1
      · exact rlv_int (t := t) ht hw hp hbx h1 h0 h1' hrow hb1 hL3
      · by_cases h2 : Nd.sh t = 2
        · exact rlv_ptr (t := t) ht hw hp hbx h1 h0 h2 hrow hb1 hL3
        · by_cases h3 : Nd.sh t = 3
          · exact rlv_arr (rlv_c d) (t := t) ht hw hp hbx h0 h1 h3 hrow hb0 hb1 hL3
          · by_cases h4 : Nd.sh t = 4
            · exact rlv_cmp4 (rlv_c d) (t := t) ht hw hp hbx h0 h1 h4 hrow hb0 hb1 hL3
            · by_cases h5 : Nd.sh t = 5
              · exact rlv_cmp5 (rlv_c d) (t := t) ht hw hp hbx h0 h1 h5 hrow hb0 hb1 hL3
              · rw [show plainS (d + 1) t 6 = _ from plain_else h1' h2 h3 h4 h5] at hp
                cases hp
end Go.Proofs.Ytcggghamnmflcaa

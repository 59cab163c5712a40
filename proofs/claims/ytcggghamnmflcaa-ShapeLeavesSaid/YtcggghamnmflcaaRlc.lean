/- The reference's leaves at arrays. -/
import Derived.Test.YtcggghamnmflcaaRlb
import Derived.Test.YtcggghamnmflcaaFlo
namespace Go.Proofs.Ytcggghamnmflcaa
open Go Go.RowKit Go.Shelf
theorem flat_more {α : Type} {f : Nat → List α} {L : List α} {j N n : Nat} (hj : j ≤ N) (h : j = N ∨ n ≤ ((L ++ (List.range j).flatMap f).take n).length) : (L ++ (List.range N).flatMap f).take n = (L ++ (List.range j).flatMap f).take n := by
  rcases h with rfl | h
  · rfl
  · obtain ⟨k, rfl⟩ : ∃ k, N = j + k := ⟨N - j, by omega⟩
    rw [List.range_add, List.flatMap_append, ← List.append_assoc]
    exact take_more h
set_option maxRecDepth 100000 in
set_option maxHeartbeats 8000000 in
theorem rlv_arr {d : Nat} (IH : RLvC d) {t : Nd (Tp d)} {v0 v1 v2 v3 v4 v5 v6 : Value} {b : Bx} {fr : Int} {base : Nat} {v : Value} {L : List Spt} {w w0 : World} (ht : TyAt w0 (d + 1) t [v0, v1, v2, v3, v4, v5, v6]) (hw : Below w0.heap.size w0 w) (hp : plainS (d + 1) t 6 = true) (hbx : boxS (d + 1) t = some b) (h0 : 0 ≤ fr) (h1 : fr + 8 * b.size ≤ 1000000) (hs : t.sh = 3)
    (hrow : w.ownsRow base 48 3 v L.length (sptC L)) (hbs0 : w0.heap.size ≤ base) (hbs : base ≤ w.heap.size) (hL : L.length ≤ 2000) :
    Calls Try.prog 88 #[v, .agg #[v0, v1, v2, v3, v4, v5, v6], .int .i64 fr] w fun e w' => ∃ v', e = .returned v' ∧ w'.ownsRow base 48 3 v' ((L ++ leavesS (d + 1) t fr).take 2001).length (sptC ((L ++ leavesS (d + 1) t fr).take 2001)) ∧ RTr w v w' v' := by
  obtain ⟨x, bx, hof, hbare, htk, g1, g2, hpx, hbbx, hbe, g3, hok⟩ := arr_parts hs hp hbx
  have HB := Lib.hid (fun w' (hb : Below w.heap.size w w') => box_c (d + 1) t 6 v0 v1 v2 v3 v4 v5 v6 w' hp (ht.below (hw.trans (hb.mono hw.size))))
  have hX : leavesS (d + 1) t fr = (List.range t.n.toNat).flatMap fun (i : Nat) => leavesS d x (fr + 8 * bx.size * i) := by
    show (if Nd.sh t = 1 then _ else _) = _
    rw [if_neg (by omega), if_neg (by omega), if_pos hs, hof]
    show (List.range t.n.toNat).flatMap (fun (i : Nat) => leavesS d x (fr + 8 * bsz d x * i)) = _
    have : bsz d x = bx.size := by unfold bsz; rw [(err_of hpx (by omega) hbbx).2.1]
    rw [this]
  obtain ⟨X, hXX⟩ : ∃ X, leavesS (d + 1) t fr = X := ⟨_, rfl⟩
  rw [hXX] at hX ⊢
  obtain ⟨A1, A2, c1, c2, hcs, b1, b2, b3, b4, l1, l2, m1, m2, hty, hfs⟩ := id ht
  have hTX : TysAt w0 d A1 [x] := by rw [hof] at hty; exact hty
  clear hty hfs
  simp only [List.cons.injEq, and_true] at hcs
  obtain ⟨rfl, rfl, rfl, rfl, rfl, rfl, rfl⟩ := hcs
  obtain ⟨A, c, rfl, hsp⟩ := spts_of_row hrow
  have ofl : t.of.length = 1 := by rw [hof]; rfl
  have hNn : t.n = ((t.n.toNat : Nat) : Int) := by omega
  obtain ⟨N, hN⟩ : ∃ N, t.n.toNat = N := ⟨_, rfl⟩
  rw [hN] at hNn hX
  obtain ⟨sh, hsh⟩ : ∃ x, t.sh = x := ⟨_, rfl⟩
  obtain ⟨k, hk⟩ : ∃ x, t.k = x := ⟨_, rfl⟩
  obtain ⟨fln, hfl⟩ : ∃ x, t.fs.length = x := ⟨_, rfl⟩
  obtain ⟨pk, hpk⟩ : ∃ x, t.pk = x := ⟨_, rfl⟩
  obtain ⟨al, hal⟩ : ∃ x, t.al = x := ⟨_, rfl⟩
  obtain ⟨z, hz⟩ : ∃ z, bx.size = z := ⟨_, rfl⟩
  rw [hsh] at hs
  subst hs
  rw [hsh, hk, hNn, ofl, hfl, hpk, hal] at HB ⊢
  rw [hNn] at g1 g2 g3
  rw [hz] at hX g3
  have hsz : b.size = z * N := by rw [hbe, hz, hNn]
  rw [hsz] at h1
  have hz1 : 1 ≤ z := by have := hok.1; omega
  have hz2 : z ≤ 65536 := by have := hok.2.1; omega
  have HX := Lib.hid hX
  have HBX := Lib.hid hbx
  have HR := Lib.hid hrow
  have HBBX := Lib.hid hbbx
  have HPX := Lib.hid hpx
  have HTX := Lib.hid hTX
  have HW := Lib.hid hw
  have HZ := Lib.hid hz
  have HBE := Lib.hid hbe
  clear hX hXX hbx hsz hsh hk hok hrow hsp ht hp hw hbe hof hbare htk ofl hNn hfl hpk hal hbbx hpx hTX hz hN
  go_enter Try.func88, Try.ntmps88
  go_wp2_with fail
  refine (HB.out _ (bel_alloc (Below.refl _ _) _)).mono ?_
  rintro e w1 ⟨bsz, bag, big, xA, xn, xc, rfl, hb1, hx⟩
  obtain rfl : big = false := by
    rcases hx with ⟨h, _⟩ | ⟨b', h, e1, e2, _⟩
    · rw [HBX.out] at h; cases h
    · exact e1
  have hT1 := (Bk.new w 38 #[.int .i64 3, .int .i64 k, .int .i64 N, .slice A1 1 c1, .slice A2 fln c2, .bool pk, .int .i64 al]).below hb1 (by simp)
  have HB1 := Lib.hid (bel_then (bel_alloc (Below.refl _ _) _) hb1)
  have t0 := hT1.at_ (i := 0) rfl
  have t3 := hT1.at_ (i := 3) rfl
  obtain ⟨ob, oo, u0, u1, u2, u3, u4, u5, u6, hA1, htx, q0, q1, q2, q3, q4, q5, q6⟩ := HTX.out.at_ (i := 0) rfl
  obtain ⟨xn', E1, E2, m1', m2', d1, d2, xpk, xal, hcs⟩ := htx.form
  simp only [List.cons.injEq, and_true] at hcs
  obtain ⟨rfl, rfl, rfl, rfl, rfl, rfl, rfl⟩ := hcs
  subst hA1
  simp only [Nat.zero_mul, Nat.add_zero] at q0 q1 q2 q3 q4 q5 q6
  have HTXX := Lib.hid htx
  have HQ0 := Lib.hid q0
  have HQ1 := Lib.hid q1
  have HQ2 := Lib.hid q2
  have HQ3 := Lib.hid q3
  have HQ4 := Lib.hid q4
  have HQ5 := Lib.hid q5
  have HQ6 := Lib.hid q6
  have hW1 := HW.out.trans (HB1.out.mono HW.out.size)
  have p0 := bel_cell hW1 q0
  have p1 := bel_cell hW1 q1
  have p2 := bel_cell hW1 q2
  have p3 := bel_cell hW1 q3
  have p4 := bel_cell hW1 q4
  have p5 := bel_cell hW1 q5
  have p6 := bel_cell hW1 q6
  have hT2 := hT1.alloc (.cells #[.int .i64 bsz, .int .i64 bag, .bool false, .slice xA xn xc] 58)
  have HBX1 := Lib.hid (bel_alloc HB1.out (.cells #[.int .i64 bsz, .int .i64 bag, .bool false, .slice xA xn xc] 58))
  have HBB := Lib.hid (fun w' (hb : Below w0.heap.size w0 w') => box_c d x 6 _ _ _ _ _ _ _ w' HPX.out (htx.below hb))
  have hlt1 := hT1.lt
  have hob1 := World.block_lt_of_cell? _ _ p0
  simp only at hob1
  clear hb1 hx htx q0 q1 q2 q3 q4 q5 q6
  go_wp2_with fail
  refine (HBB.out _ (HW.out.trans (HBX1.out.mono HW.out.size))).mono ?_
  rintro e w2 ⟨zz, zag, zbig, zA, zn, zc, rfl, hb2, hx⟩
  obtain ⟨rfl, rfl⟩ : zbig = false ∧ zz = z := by
    rcases hx with ⟨h, _⟩ | ⟨b', h, e1, e2, _⟩
    · rw [HBBX.out] at h; cases h
    · rw [HBBX.out] at h; cases h; exact ⟨e1, e2.trans HZ.out⟩
  have hT3 := (hT2.below hb2 hT2.lt).alloc (.cells #[.int .i64 zz, .int .i64 zag, .bool false, .slice zA zn zc] 58)
  have hO3 := Bk.new w2 58 #[.int .i64 zz, .int .i64 zag, .bool false, .slice zA zn zc]
  have HB3 := Lib.hid (bel_alloc (bel_then HBX1.out hb2) (.cells #[.int .i64 zz, .int .i64 zag, .bool false, .slice zA zn zc] 58))
  clear t0 t3 p0 p1 p2 p3 p4 p5 p6 hb2 hx hT1 hT2 hlt1 hob1
  go_wp2_with fail
  generalize World.alloc w2 _ = W3 at hT3 hO3 HB3 ⊢
  have hrow3 := row_below HR.out HB3.out
  have HT3 := Lib.hid hT3
  have HO3 := Lib.hid hO3
  have HW3 := Lib.hid (HW.out.trans (HB3.out.mono HW.out.size))
  have hs3 := HB3.out.size
  have nT := hT3.ne_row (by decide) hrow3
  have nO := hO3.ne_row (by decide) hrow3
  clear hT3 hO3
  have HR3 := Lib.hid hrow3
  have NT := Lib.hid nT
  have NO := Lib.hid nO
  clear nT nO hrow3
  go_loopw [0, 9] (fun s0 s9 wr => ∃ (j : Nat) (L' : List Spt) (A' : Option Addr) (c' : Nat), j ≤ N ∧ s9 = .int .i64 j ∧ s0 = .slice A' L'.length c' ∧ wr.ownsRow base 48 3 (.slice A' L'.length c') L'.length (sptC L') ∧ RTr W3 (.slice A L.length c) wr (.slice A' L'.length c') ∧ L' = (L ++ (List.range j).flatMap fun (i : Nat) => leavesS d x (fr + 8 * zz * i)).take 2001) (fun _ i _ => N - (intOf i).toNat)
  case atStart => exact ⟨0, L, A, c, Nat.zero_le _, rfl, rfl, HR3.out, RTr.refl _ _, by simp; rw [List.take_of_length_le (by omega)]⟩
  case round =>
    obtain ⟨j, L', A', c', hj, rfl, rfl, hro, htr, hLe⟩ := hrel
    have HLE := Lib.hid hLe
    have hl2 : L'.length ≤ 2001 := by rw [hLe]; exact List.length_take_le _ _
    have hTr := htr.bk HT3.out NT.out
    have hOr := htr.bk HO3.out NO.out
    have t2 := hTr.at_ (i := 2) rfl
    have HRO := Lib.hid hro
    have HTR := Lib.hid htr
    clear hLe hro htr
    by_cases hlt : j < N
    · by_cases hle : L'.length ≤ 2000
      · have t3 := hTr.at_ (i := 3) rfl
        have o0 := hOr.at_ (i := 0) rfl
        have hlow := HTR.out.low HW3.out (fun g hg => Nat.le_trans hbs0 (own_of_row HR3.out g hg).1)
        have HLOW := Lib.hid hlow
        have p0 := bel_cell hlow HQ0.out
        have p1 := bel_cell hlow HQ1.out
        have p2 := bel_cell hlow HQ2.out
        have p3 := bel_cell hlow HQ3.out
        have p4 := bel_cell hlow HQ4.out
        have p5 := bel_cell hlow HQ5.out
        have p6 := bel_cell hlow HQ6.out
        have r1 : 8 * zz * (j : Int) + 8 * zz ≤ 8 * (zz * N) := by
          have := Int.mul_le_mul_of_nonneg_left (show (j : Int) + 1 ≤ N by omega) (show 0 ≤ 8 * zz by omega)
          rw [Int.mul_add, Int.mul_one, Int.mul_assoc 8 zz N] at this
          exact this
        have r0 : 0 ≤ 8 * zz * (j : Int) := Int.mul_nonneg (by omega) (by omega)
        have r3 : 8 * zz * (j : Int) ≤ 524288 := by omega
        clear hlow hTr hOr
        go_wp2_with fail
        refine region_tail (C := fun w' => ∃ n, w' = wr.drewN n) 12 (by kernel_rfl) (by kernel_rfl) ⟨1, rfl⟩ ?_
        simp only [List.take_succ_cons, List.take_zero, List.drop_succ_cons, List.drop_zero]
        repeat (go_big_quiet_step (fail))
        refine wpQuiet_nil ?_
        rintro _ ⟨nq, rfl⟩
        clear t2 t3 o0 p0 p1 p2 p3 p4 p5 p6
        have hbq := bel_drewN (Below.refl wr.heap.size wr) nq
        have hroq := row_below HRO.out hbq
        have HTQ := Lib.hid (HTR.out.trans (RTr.below hbq))
        have HLQ := Lib.hid (HLOW.out.trans (hbq.mono HLOW.out.size))
        generalize World.drewN wr nq = Wq at hbq hroq HTQ HLQ ⊢
        have hsq := HTQ.out.g.size
        go_wp2_with fail
        refine (IH w0 x _ _ _ _ _ _ _ _ bx (fr + 8 * zz * j) base _ L' Wq rfl HTXX.out HLQ.out HPX.out HBBX.out (by omega) (by rw [HZ.out]; omega) hroq hbs0 (by omega) (by omega)).mono ?_
        rintro e w5 ⟨v5, rfl, hro5, htr5⟩
        obtain ⟨L5, hL5⟩ : ∃ L5, (L' ++ leavesS d x (fr + 8 * zz * j)).take 2001 = L5 := ⟨_, rfl⟩
        rw [hL5] at hro5
        have HL5 := Lib.hid hL5
        clear hL5
        obtain ⟨A5, c5, rfl, -⟩ := spts_of_row hro5
        have HRO5 := Lib.hid hro5
        have HTR5 := Lib.hid (HTQ.out.trans htr5)
        clear hro5 htr5 hbq hroq
        go_wp2_with fail
        go_roundw
        case rel => exact ⟨j + 1, L5, A5, c5, by omega, by go_num, rfl, HRO5.out, HTR5.out, by rw [← HL5.out, take_join HLE.out, List.append_assoc, flat_snoc (f := fun (i : Nat) => leavesS d x (fr + 8 * zz * i))]⟩
        case measure => simp [intOf]; omega
      · have HF := Lib.hid (flat_more (f := fun (i : Nat) => leavesS d x (fr + 8 * zz * i)) (L := L) (n := 2001) hj (.inr (by rw [← HLE.out]; omega)))
        go_wp2_with fail
        go_ret
        refine ⟨_, rfl, ?_, (RTr.below HB3.out).trans HTR.out⟩
        rw [HX.out, HF.out, ← HLE.out]
        exact HRO.out
    · have HF := Lib.hid (flat_more (f := fun (i : Nat) => leavesS d x (fr + 8 * zz * i)) (L := L) (n := 2001) hj (.inl (by omega)))
      have hge : N ≤ j := by omega
      go_wp2_with fail
      go_ret
      refine ⟨_, rfl, ?_, (RTr.below HB3.out).trans HTR.out⟩
      rw [HX.out, HF.out, ← HLE.out]
      exact HRO.out
end Go.Proofs.Ytcggghamnmflcaa

/- The law ShapeArrays walked: whatever the type and how many, it returns true. -/
import Derived.Test.YtcggghamnmflcaaPlc
import Derived.Test.YtcggghamnmflcaaSrj
import Derived.Test.YtcggghamnmflcaaFlo
namespace Go.Proofs.Ytcggghamnmflcaa
open Go Go.RowKit Go.Shelf
attribute [local go_sem ↓] eq48 guard48
set_option maxRecDepth 100000 in
theorem shapeArrays_no (d : Nat) (_t : Tp d) (v0 v1 v2 v3 v4 v5 v6 : Value) (many : Int) (w : World) (h : many < 1 ∨ 20 < many) :
    Calls Try.prog 16 #[.agg #[v0, v1, v2, v3, v4, v5, v6], .int .i64 many] w fun e w' => e = .returned (.bool true) ∧ Below w.heap.size w w' := by
  rcases h with h | h
  all_goals
    go_enter Try.func16, Try.ntmps16
    go_wp2_with fail
    refine (shown44_c _).mono ?_
    rintro e w1 ⟨rfl, hb1⟩
    have HB1 := Lib.hid (bel_then (bel_alloc (Below.refl _ _) _) hb1)
    clear hb1
    go_wp2_with fail
    go_ret
    exact ⟨rfl, HB1.out⟩
theorem arrT_at {W : World} {d : Nat} {t : Tp d} {g : Nat} {v0 v1 v2 v3 v4 v5 v6 : Value} {N : Int} (hN : I64 N) (h : Bk W g 38 #[v0, v1, v2, v3, v4, v5, v6]) (ht : TyAt W d t [v0, v1, v2, v3, v4, v5, v6]) : TyAt W (d + 1) (arrT d t N) [.int .i64 3, .int .i64 0, .int .i64 N, .slice (some ⟨g, 0, none⟩) 1 1, .slice none 0 0, .bool false, .int .i64 0] := by
  refine ⟨some ⟨g, 0, none⟩, none, 1, 0, rfl, i64d (n := 3) (by decide), i64d (n := 0) (by decide), hN, i64d (n := 0) (by decide), Nat.le_refl _, Nat.le_refl _, by decide, by decide, fun i x hx => ?_, fun i f hf => by simp [arrT] at hf⟩
  match i, hx with
  | 0, hx =>
    cases hx
    refine ⟨g, 0, _, rfl, rfl, row_of_bk h _ _ (fun j v hv => ?_), ht⟩
    match j, hv with
    | 0, hv | 1, hv | 2, hv | 3, hv | 4, hv | 5, hv | 6, hv => exact hv
    | j + 7, hv => simp at hv
  | i + 1, hx => simp [arrT] at hx
theorem leaf_0 {d : Nat} {t : Tp d} (h : leafE d t = 0) : errS d t = 0 ∧ leafL d t = leavesS d t 0 ∧ (leavesS d t 0).length ≤ 2000 := by
  have hL : leafL d t = leavesS d t 0 := by unfold leafL; rw [if_pos h]
  unfold leafE at h
  split at h
  · rename_i h0
    split at h
    · cases h
    · exact ⟨h0, hL, by omega⟩
  · rename_i h0; exact absurd h h0
set_option maxRecDepth 100000 in
set_option maxHeartbeats 8000000 in
theorem shapeArrays_yes (d : Nat) (t : Tp d) (v0 v1 v2 v3 v4 v5 v6 : Value) (N : Nat) (w : World) (ht : TyAt w d t [v0, v1, v2, v3, v4, v5, v6]) (hN1 : 1 ≤ N) (hN2 : N ≤ 20) :
    Calls Try.prog 16 #[.agg #[v0, v1, v2, v3, v4, v5, v6], .int .i64 N] w fun e w' => e = .returned (.bool true) ∧ Below w.heap.size w w' := by
  obtain ⟨n0, A1, A2, n1, n2, c1, c2, pk, al, hcs⟩ := ht.form
  simp only [List.cons.injEq, and_true] at hcs
  obtain ⟨rfl, rfl, rfl, rfl, rfl, rfl, rfl⟩ := hcs
  obtain ⟨sh, hsh⟩ : ∃ x, tsh d t = x := ⟨_, rfl⟩
  obtain ⟨tk0, hk⟩ : ∃ x, tk d t = x := ⟨_, rfl⟩
  rw [hsh, hk] at ht ⊢
  clear hsh hk
  have HT := Lib.hid ht
  have HS := fun w' (hb : Below w.heap.size w w') => ssize_c (ht.below hb)
  have HL := fun w' (hb : Below w.heap.size w w') => leaves40_c (ht.below hb)
  have HA := fun w' g (hb : Below w.heap.size w w') (hg : Bk w' g 38 #[.int .i64 sh, .int .i64 tk0, .int .i64 n0, .slice A1 n1 c1, .slice A2 n2 c2, .bool pk, .int .i64 al]) => leaves40_c (arrT_at (N := (N : Int)) (i64d (n := N) (by simp; omega)) hg (ht.below hb))
  obtain ⟨er, her⟩ : ∃ x, errS d t = x := ⟨_, rfl⟩
  obtain ⟨f1, hf1⟩ : ∃ x, leafE d t = x := ⟨_, rfl⟩
  obtain ⟨g1, hg1⟩ : ∃ x, leafE (d + 1) (arrT d t N) = x := ⟨_, rfl⟩
  obtain ⟨sz, hsz⟩ : ∃ x, szS d t = x := ⟨_, rfl⟩
  obtain ⟨one, hone⟩ : ∃ x, leafL d t = x := ⟨_, rfl⟩
  obtain ⟨all, hall⟩ : ∃ x, leafL (d + 1) (arrT d t N) = x := ⟨_, rfl⟩
  rw [her, hsz] at HS
  rw [hf1, hone] at HL
  rw [hg1, hall] at HA
  have HER := Lib.hid her
  have HF1 := Lib.hid hf1
  have HG1 := Lib.hid hg1
  have HSZ := Lib.hid hsz
  have HONE := Lib.hid hone
  have HALL := Lib.hid hall
  replace HS := Lib.hid HS
  replace HL := Lib.hid HL
  replace HA := Lib.hid HA
  clear her hf1 hg1 hsz hone hall ht
  go_enter Try.func16, Try.ntmps16
  go_wp2_with fail
  refine (shown44_c _).mono ?_
  rintro e w1 ⟨rfl, hb1⟩
  have hT1 := (Bk.new w 38 #[.int .i64 sh, .int .i64 tk0, .int .i64 n0, .slice A1 n1 c1, .slice A2 n2 c2, .bool pk, .int .i64 al]).below hb1 (by simp)
  have t0 := hT1.at_ (i := 0) rfl; have t1 := hT1.at_ (i := 1) rfl; have t2 := hT1.at_ (i := 2) rfl; have t3 := hT1.at_ (i := 3) rfl; have t4 := hT1.at_ (i := 4) rfl; have t5 := hT1.at_ (i := 5) rfl; have t6 := hT1.at_ (i := 6) rfl
  have HB1 := Lib.hid (bel_then (bel_alloc (Below.refl _ _) _) hb1)
  clear hb1
  go_wp2_with fail
  refine (HS.out _ HB1.out).mono ?_
  rintro e w2 ⟨rfl, hb2⟩
  have hT2 := hT1.below hb2 hT1.lt
  clear t0 t1 t2 t3 t4 t5 t6 hT1
  have t0 := hT2.at_ (i := 0) rfl; have t1 := hT2.at_ (i := 1) rfl; have t2 := hT2.at_ (i := 2) rfl; have t3 := hT2.at_ (i := 3) rfl; have t4 := hT2.at_ (i := 4) rfl; have t5 := hT2.at_ (i := 5) rfl; have t6 := hT2.at_ (i := 6) rfl
  have HB2 := Lib.hid (bel_then HB1.out hb2)
  clear hb2
  go_wp2_with fail
  refine (HL.out _ HB2.out).mono ?_
  rintro e w3 ⟨A, nn, c, rfl, hA3, hb3⟩
  have hT3 := hT2.below hb3 hT2.lt
  clear t0 t1 t2 t3 t4 t5 t6 hT2
  have t0 := hT3.at_ (i := 0) rfl; have t1 := hT3.at_ (i := 1) rfl; have t2 := hT3.at_ (i := 2) rfl; have t3 := hT3.at_ (i := 3) rfl; have t4 := hT3.at_ (i := 4) rfl; have t5 := hT3.at_ (i := 5) rfl; have t6 := hT3.at_ (i := 6) rfl
  have HB3 := Lib.hid (bel_then HB2.out hb3)
  have HSP := Lib.hid hA3.1
  clear hb3 hA3
  go_wp2_with fail
  refine (HA.out _ w3.heap.size (bel_alloc HB3.out _) (Bk.new w3 38 #[.int .i64 sh, .int .i64 tk0, .int .i64 n0, .slice A1 n1 c1, .slice A2 n2 c2, .bool pk, .int .i64 al])).mono ?_
  rintro e w4 ⟨B, mm, c', rfl, hA4, hb4⟩
  have HSA := Lib.hid hA4.1
  have HSO := Lib.hid (HSP.out.below (bel_then (bel_alloc (Below.refl _ _) _) hb4))
  have HB4 := Lib.hid (bel_then (bel_alloc HB3.out _) hb4)
  clear hb4 hA4 t0 t1 t2 t3 t4 t5 t6 hT3 HSP
  by_cases hz : er = 0 ∧ f1 = 0 ∧ g1 = 0
  · obtain ⟨rfl, rfl, rfl⟩ := hz
    obtain ⟨_, o1, o2⟩ := leaf_0 HF1.out
    obtain ⟨_, a1, a2⟩ := leaf_0 HG1.out
    have hol : one = leavesS d t 0 := HONE.out.symm.trans o1
    have hal : all = leavesS (d + 1) (arrT d t N) 0 := HALL.out.symm.trans a1
    have hlen := arr_len t N
    rw [← hal, ← hol] at hlen
    rw [← hol] at o2
    rw [← hal] at a2
    obtain rfl : nn = one.length := HSO.out.1
    obtain rfl : mm = all.length := HSA.out.1
    obtain ⟨m, hm⟩ : ∃ m, one.length = m := ⟨_, rfl⟩
    rw [hm] at hlen o2 ⊢
    have HAT := Lib.hid (fun i (hi : i < N * m) => arr_at t N i (by rw [← hol, hm]; exact hi))
    rw [← hol, ← hal, hm] at HAT
    have hbs : bsz d t = sz := by
      have := HSZ.out
      unfold szS at this
      rw [if_pos HER.out] at this
      exact this
    rw [hbs] at HAT
    obtain ⟨q1, q2⟩ := err_0 HER.out
    have hok := boxS_ok d t 6 _ q1 q2
    have hszb : sz = (boxD d t).size := by rw [← hbs]; rfl
    have z1 : 1 ≤ sz := by have := hok.1; omega
    have z2 : sz ≤ 65536 := by have := hok.2.1; omega
    have HRNG := Lib.hid (fun s (hs : s ∈ one) => leaves_rng d t 0 _ q1 q2 s (by rw [← hol]; exact hs))
    rw [← hszb] at HRNG
    obtain ⟨M, hM⟩ : ∃ M, all.length = M := ⟨_, rfl⟩
    rw [hM] at hlen a2 ⊢
    have HMM := Lib.hid hM
    have HM := Lib.hid hm
    have HLEN := Lib.hid hlen
    have gne : ((M : Int) != (m : Int) * (N : Int)) = false := by
      rw [hlen, bne_eq_false_iff_eq]; push_cast; exact Int.mul_comm _ _
    have p1 : (0 : Int) ≤ (m : Int) * (N : Int) := Int.mul_nonneg (by omega) (by omega)
    have p2 : (m : Int) * (N : Int) ≤ 2000 := by
      have : ((N * m : Nat) : Int) ≤ 2000 := by omega
      push_cast at this
      rw [Int.mul_comm]; exact this
    clear hm hM hlen hol hal o1 a1 hbs hok hszb q1 q2
    go_wp2_with fail
    go_loopw [13] (fun s13 wr => ∃ i : Nat, i ≤ M ∧ s13 = .int .i64 i ∧ Below w4.heap.size w4 wr) (fun i _ => M - (intOf i).toNat)
    case atStart => exact ⟨0, Nat.zero_le _, rfl, Below.refl _ _⟩
    case round =>
      obtain ⟨i, hi, rfl, hb⟩ := hrel
      by_cases hlt : i < M
      · have hm1 : 0 < m := by
          rcases Nat.eq_zero_or_pos m with h | h
          · have := HLEN.out; rw [h, Nat.mul_zero] at this; omega
          · exact h
        have hr : i % m < m := Nat.mod_lt _ hm1
        obtain ⟨x, hx⟩ : ∃ x, one[i % m]? = some x := ⟨_, List.getElem?_eq_getElem (by rw [HM.out]; exact hr)⟩
        have hy := HAT.out i (by rw [← HLEN.out]; exact hlt)
        rw [hx] at hy
        simp only [Option.map_some] at hy
        obtain ⟨xb, xo, hAe, x0, x1, x2⟩ := (HSO.out.below hb).2 _ x hx
        obtain ⟨yb, yo, hBe, y0, y1, y2⟩ := (HSA.out.below hb).2 _ _ hy
        subst hAe hBe
        obtain ⟨b1, b2, b3, b4⟩ := HRNG.out x (List.mem_of_getElem? hx)
        have hq : i / m ≤ 19 := by
          have h1 := HLEN.out
          have : i / m < N := by
            rw [Nat.div_lt_iff_lt_mul hm1]
            omega
          omega
        have g0 : (0 : Int) ≤ (i : Int) / (m : Int) := Int.ediv_nonneg (by omega) (by omega)
        have g1 : (i : Int) / (m : Int) ≤ 19 := by
          have : ((i / m : Nat) : Int) ≤ 19 := by omega
          rwa [Int.natCast_ediv] at this
        have g2 : (0 : Int) ≤ (i : Int) % (m : Int) := Int.emod_nonneg _ (by omega)
        have g3 : (i : Int) % (m : Int) < (m : Int) := Int.emod_lt_of_pos _ (by omega)
        have g4 : (0 : Int) ≤ 8 * sz * ((i : Int) / (m : Int)) := Int.mul_nonneg (by omega) g0
        have g5 : 8 * sz * ((i : Int) / (m : Int)) ≤ 8 * 65536 * 19 := by
          refine Int.le_trans (Int.mul_le_mul_of_nonneg_right (show 8 * sz ≤ 8 * 65536 by omega) g0) (Int.mul_le_mul_of_nonneg_left g1 (by omega))
        simp only [shiftS] at y0 y1 y2
        have hbx := World.block_lt_of_cell? _ _ x0
        have hby := World.block_lt_of_cell? _ _ y0
        simp only at hbx hby
        go_wp2_with fail
        rw [Int.natCast_ediv] at y0
        have HY0 := Lib.hid y0
        have HY1 := Lib.hid y1
        have HY2 := Lib.hid y2
        have hBx := Bk.new wr 48 #[.int .i64 x.bit, .int .i64 x.bits, .int .i64 x.k]
        have hbb := bel_alloc (Below.refl wr.heap.size wr) (.cells #[.int .i64 x.bit, .int .i64 x.bits, .int .i64 x.k] 48)
        replace y0 := bel_cell hbb y0
        replace y1 := bel_cell hbb y1
        replace y2 := bel_cell hbb y2
        have HBB := Lib.hid hbb
        clear hbb x0 x1 x2
        generalize World.alloc wr _ = Wb at hBx HBB y0 y1 y2 ⊢
        have k0 := hBx.at_ (i := 0) rfl
        have k1 := hBx.at_ (i := 1) rfl
        have k2 := hBx.at_ (i := 2) rfl
        have fk := hBx.frozen 0
        have hlb := hBx.lt
        refine region_tail (C := fun w' => ∃ n, w' = Wb.drewN n) 11 (by kernel_rfl) (by kernel_rfl) ⟨1, rfl⟩ ?_
        simp only [List.take_succ_cons, List.take_zero, List.drop_succ_cons, List.drop_zero]
        repeat (go_big_quiet_step (fail))
        refine wpQuiet_nil ?_
        rintro _ ⟨nq, rfl⟩
        have hbq := bel_drewN (Below.refl Wb.heap.size Wb) nq
        replace hBx := hBx.below hbq hlb
        replace y0 := bel_cell hbq y0
        replace y1 := bel_cell hbq y1
        replace y2 := bel_cell hbq y2
        have HBQ := Lib.hid (bel_then HBB.out hbq)
        clear k0 k1 k2 fk hbq hlb
        generalize World.drewN Wb nq = Wq at hBx HBQ y0 y1 y2 ⊢
        have k0 := hBx.at_ (i := 0) rfl
        have k1 := hBx.at_ (i := 1) rfl
        have k2 := hBx.at_ (i := 2) rfl
        have fk := hBx.frozen 0
        have hne : yb ≠ wr.heap.size := by omega
        go_wp2_with fail
        have hB6 := hBx.set_ 0 (.int .i64 (x.bit + 8 * sz * ((i : Int) / (m : Int))))
        have hB5 := bel_set HBQ.out (p := ⟨wr.heap.size, 0, none⟩) (by simp) (.int .i64 (x.bit + 8 * sz * ((i : Int) / (m : Int))))
        clear y0 y1 y2 k0 k1 k2 fk hBx
        generalize World.setCell _ _ _ = W5 at hB6 hB5 ⊢
        have y0 := bel_cell hB5 HY0.out
        have y1 := bel_cell hB5 HY1.out
        have y2 := bel_cell hB5 HY2.out
        have k0 := hB6.at_ (i := 0) rfl
        have k1 := hB6.at_ (i := 1) rfl
        have k2 := hB6.at_ (i := 2) rfl
        have heq : eqB (x.bit + 8 * sz * ((i : Int) / (m : Int))) x.bits x.k (x.bit + 8 * sz * ((i : Int) / (m : Int))) x.bits x.k = true := by unfold eqB; simp
        go_quiet (fail)
        go_wp2_with fail
        go_roundw
        case rel => exact ⟨i + 1, by omega, by go_num, bel_drewN (bel_then hb hB5) _⟩
        case measure => simp [intOf]; omega
      · have hge : M ≤ i := by omega
        go_wp2_with fail
        go_ret
        exact ⟨rfl, bel_then HB4.out hb⟩
  · have hz' : ¬ (er = 0 ∧ f1 = 0 ∧ g1 = 0) := hz
    cases e1 : (er == 0) with
    | false =>
      have e1' : (er != 0) = true := by rw [bne, e1]; rfl
      clear hz hz'
      go_wp2_with fail
      go_ret
      exact ⟨rfl, HB4.out⟩
    | true =>
      obtain rfl : er = 0 := by simpa using e1
      cases e2 : (f1 == 0) with
      | false =>
        have e2' : (f1 != 0) = true := by rw [bne, e2]; rfl
        clear hz hz' e1
        go_wp2_with fail
        go_ret
        exact ⟨rfl, HB4.out⟩
      | true =>
        obtain rfl : f1 = 0 := by simpa using e2
        have e3 : (g1 == 0) = false := by simp; omega
        have e3' : (g1 != 0) = true := by rw [bne, e3]; rfl
        clear hz hz' e1 e2
        go_wp2_with fail
        go_ret
        exact ⟨rfl, HB4.out⟩
theorem shapeArrays_w (d : Nat) (t : Tp d) (v0 v1 v2 v3 v4 v5 v6 : Value) (many : Int) (w : World) (ht : TyAt w d t [v0, v1, v2, v3, v4, v5, v6]) (_hm : I64 many) :
    Calls Try.prog 16 #[.agg #[v0, v1, v2, v3, v4, v5, v6], .int .i64 many] w fun e w' => e = .returned (.bool true) ∧ Below w.heap.size w w' := by
  by_cases h : many < 1 ∨ 20 < many
  · exact shapeArrays_no d t v0 v1 v2 v3 v4 v5 v6 many w h
  · obtain ⟨N, rfl⟩ := Int.eq_ofNat_of_zero_le (show 0 ≤ many by omega)
    exact shapeArrays_yes d t v0 v1 v2 v3 v4 v5 v6 N w ht (by omega) (by omega)
end Go.Proofs.Ytcggghamnmflcaa

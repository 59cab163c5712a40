/- The law ShapeLies walked: whatever the type, it returns true. -/
import Derived.Test.YtcggghamnmflcaaSrl
namespace Go.Proofs.Ytcggghamnmflcaa
open Go Go.RowKit Go.Shelf
theorem mem_no {d : Nat} {t : Tp d} (h : memE d t ≠ 0) : memL d t = [] := by
  unfold memL
  rw [if_neg]
  rintro ⟨h1, h2⟩
  apply h
  unfold memE
  rw [if_pos h1, if_pos h2]
theorem mem_yes {d : Nat} {t : Tp d} (h : memE d t = 0) : errS d t = 0 ∧ (tsh d t = 4 ∨ tsh d t = 5) := by
  unfold memE at h
  split at h
  · rename_i h0
    split at h
    · rename_i h1; exact ⟨h0, h1⟩
    · cases h
  · rename_i h0; exact absurd h h0
theorem Spts.len {base : Nat} {w : World} {A : Option Addr} {n : Nat} {l : List Spt} (h : Spts base w A n l) : n = l.length := h.1.1
set_option maxRecDepth 100000 in
theorem shapeLies_no (d : Nat) (t : Tp d) (v0 v1 v2 v3 v4 v5 v6 : Value) (w : World) (ht : TyAt w d t [v0, v1, v2, v3, v4, v5, v6]) (he : memE d t ≠ 0) :
    Calls Try.prog 11 #[.agg #[v0, v1, v2, v3, v4, v5, v6]] w fun e w' => e = .returned (.bool true) ∧ Below w.heap.size w w' := by
  have HM := fun w' (hb : Below w.heap.size w w') => members_c (ht.below hb)
  have HS := fun w' (hb : Below w.heap.size w w') => ssize_c (ht.below hb)
  rw [mem_no he] at HM
  obtain ⟨er, her⟩ : ∃ x, memE d t = x := ⟨_, rfl⟩
  rw [her] at HM he
  have HM := Lib.hid HM
  have HS := Lib.hid HS
  have h' : (er != 0) = true := by rw [bne_iff_ne]; exact he
  clear he her
  go_enter Try.func11, Try.ntmps11
  go_wp2_with fail
  refine (shown44_c _).mono ?_
  rintro e w1 ⟨rfl, hb1⟩
  have hT1 := (Bk.new w 38 #[v0, v1, v2, v3, v4, v5, v6]).below hb1 (by simp)
  have t0 := hT1.at_ (i := 0) rfl; have t1 := hT1.at_ (i := 1) rfl; have t2 := hT1.at_ (i := 2) rfl; have t3 := hT1.at_ (i := 3) rfl; have t4 := hT1.at_ (i := 4) rfl; have t5 := hT1.at_ (i := 5) rfl; have t6 := hT1.at_ (i := 6) rfl
  have HB1 := Lib.hid (bel_then (bel_alloc (Below.refl _ _) _) hb1)
  clear hb1
  go_wp2_with fail
  refine (HM.out _ HB1.out).mono ?_
  rintro e w2 ⟨A, n, c, rfl, hA, hb2⟩
  obtain rfl : n = 0 := hA.len
  have hT2 := hT1.below hb2 hT1.lt
  clear t0 t1 t2 t3 t4 t5 t6 hT1
  have t0 := hT2.at_ (i := 0) rfl; have t1 := hT2.at_ (i := 1) rfl; have t2 := hT2.at_ (i := 2) rfl; have t3 := hT2.at_ (i := 3) rfl; have t4 := hT2.at_ (i := 4) rfl; have t5 := hT2.at_ (i := 5) rfl; have t6 := hT2.at_ (i := 6) rfl
  have HB2 := Lib.hid (bel_then HB1.out hb2)
  clear hb2 hA
  go_wp2_with fail
  refine (HS.out _ HB2.out).mono ?_
  rintro e w3 ⟨rfl, hb3⟩
  have HB3 := Lib.hid (bel_then HB2.out hb3)
  clear hb3 t0 t1 t2 t3 t4 t5 t6
  go_wp2_with fail
  go_ret
  exact ⟨rfl, HB3.out⟩
theorem SptsAt.at_ {w : World} {A : Option Addr} {n : Nat} {l : List Spt} (h : SptsAt w A n l) {i : Nat} {s : Spt} (hs : l[i]? = some s) : ∃ b o, A = some ⟨b, o, none⟩ ∧ w.cell? ⟨b, o + i * 3, none⟩ = some (.int .i64 s.bit) ∧ w.cell? ⟨b, o + i * 3 + 1, none⟩ = some (.int .i64 s.bits) ∧ w.cell? ⟨b, o + i * 3 + 2, none⟩ = some (.int .i64 s.k) := h.2 i s hs
theorem field_k {d : Nat} {f : Fld (Tp d)} (h1 : plainS d f.t 5 = true) (h2 : isFieldS f.nm (tsh d f.t) (tk d f.t) f.bits = true) (h3 : 0 ≤ f.bits) : 1 ≤ ksize (tk d f.t) ∧ ksize (tk d f.t) ≤ 8 ∧ f.bits ≤ 64 := by
  unfold isFieldS at h2
  rw [if_neg (by omega)] at h2
  simp only [Bool.and_eq_true, beq_iff_eq, decide_eq_true_eq] at h2
  obtain ⟨⟨hs, hb⟩, _⟩ := h2
  cases d with
  | zero => exact nomatch f.t
  | succ d =>
    rw [show plainS (d + 1) f.t 5 = _ from plain_1 (by omega) hs] at h1
    simp only [Bool.and_eq_true] at h1
    have := ksize_pos h1.2.1
    have e : tk (d + 1) f.t = Nd.k f.t := rfl
    rw [e] at hb ⊢
    omega
/-- What stands answers of a member of a type that is not packed. -/
theorem stands_yes {d : Nat} {un : Bool} {f : Fld (Tp d)} {x : Spt} {b : Bx} {e0 : Int} (h : LiesAt d un false f x b e0) (h1 : plainS d f.t 5 = true) (h2 : isFieldS f.nm (tsh d f.t) (tk d f.t) f.bits = true) : standsB f.bits b.align (tk d f.t) x.bit = true := by
  have hb := h.bit
  have hk := h.ok
  obtain ⟨q1, q2, q3, q4⟩ := hk
  unfold standsB
  by_cases h0 : f.bits < 0
  · rw [if_pos h0]
    unfold nextS at hb
    rw [if_pos h0] at hb
    simp only [Bool.false_eq_true, if_false] at hb
    rw [hb, upS_mul]
    rfl
  · rw [if_neg h0]
    have hf := field_k h1 h2 (by omega)
    have hs : b.size = ksize (tk d f.t) := by
      unfold isFieldS at h2
      rw [if_neg h0] at h2
      simp only [Bool.and_eq_true, beq_iff_eq, decide_eq_true_eq] at h2
      have := boxS_int h2.1.1
      rw [h.bx] at this
      cases this
      rfl
    rw [← hs]
    unfold nextS at hb
    rw [if_neg h0] at hb
    by_cases hz : f.bits = 0
    · rw [if_pos hz] at hb ⊢
      rw [hb, upS_mul]
      rfl
    · rw [if_neg hz] at hb ⊢
      have hle := h.le
      generalize (if un = true then 0 else e0) = v at hb
      split at hb
      · have hm := upS_mul (v := v) (n := 8 * b.size)
        rw [← hb] at hm
        have hd := Int.mul_ediv_add_emod x.bit (8 * b.size)
        rw [hm] at hd
        have : (x.bit + f.bits - 1) / (8 * b.size) = x.bit / (8 * b.size) := by
          have e : x.bit + f.bits - 1 = (f.bits - 1) + (8 * b.size) * (x.bit / (8 * b.size)) := by omega
          rw [e, Int.add_mul_ediv_left _ _ (by omega), Int.ediv_eq_zero_of_lt (by omega) (by omega), Int.zero_add]
        rw [this]
        simp
      · rename_i hn
        rw [hb]
        have : v / (8 * b.size) = (v + f.bits - 1) / (8 * b.size) := Classical.byContradiction fun h => hn ⟨rfl, h⟩
        rw [← this]
        simp
set_option maxRecDepth 100000 in
set_option maxHeartbeats 8000000 in
theorem shapeLies_yes (d : Nat) (t : Nd (Tp d)) (v0 v1 v2 v3 v4 v5 v6 : Value) (w : World) (ht : TyAt w (d + 1) t [v0, v1, v2, v3, v4, v5, v6]) (he : memE (d + 1) t = 0) :
    Calls Try.prog 11 #[.agg #[v0, v1, v2, v3, v4, v5, v6]] w fun e w' => e = .returned (.bool true) ∧ Below w.heap.size w w' := by
  obtain ⟨h0, hs⟩ := mem_yes he
  have HL := Lib.hid (liesR h0 hs)
  have hs : t.sh = 4 ∨ t.sh = 5 := hs
  have HM := fun w' (hb : Below w.heap.size w w') => members_c (ht.below hb)
  have HS := fun w' (hb : Below w.heap.size w w') => ssize_c (ht.below hb)
  rw [he] at HM
  rw [h0] at HS
  obtain ⟨L, hL⟩ : ∃ x, memL (d + 1) t = x := ⟨_, rfl⟩
  obtain ⟨sz, hsz⟩ : ∃ x, szS (d + 1) t = x := ⟨_, rfl⟩
  obtain ⟨ag, hag⟩ : ∃ x, agS (d + 1) t = x := ⟨_, rfl⟩
  rw [hL] at HM
  rw [hsz, hag] at HS
  rw [hL, hsz, hag] at HL
  replace HM := Lib.hid HM
  replace HS := Lib.hid HS
  clear hL hsz hag h0 he
  obtain ⟨A1, A2, c1, c2, hcs, b1, b2, b3, b4, l1, l2, m1, m2, hof, hfs⟩ := ht
  simp only [List.cons.injEq, and_true] at hcs
  obtain ⟨rfl, rfl, rfl, rfl, rfl, rfl, rfl⟩ := hcs
  clear hof
  obtain ⟨sh, k, n, of, fs, pk, al⟩ := t
  have hF : FdsAt w d A2 fs := hfs
  clear hfs
  simp only at hs HL HM HS b1 b2 b3 b4 l1 l2 ⊢
  have hlen : L.length = fs.length := HL.out.len
  have h40 : fs.length ≤ 9223372036854775807 := by omega
  have z1 := HL.out.n1
  have z2 := HL.out.n2
  have z3 := HL.out.a1
  have z4 := HL.out.a2
  have z5 : al ≤ ag := HL.out.al
  have z6 : (sz % ag != 0) = false := by rw [HL.out.div]; rfl
  rcases hs with rfl | rfl
  · go_enter Try.func11, Try.ntmps11
    go_wp2_with fail
    refine (shown44_c _).mono ?_
    rintro e w1 ⟨rfl, hb1⟩
    have hT1 := (Bk.new w 38 #[.int .i64 4, .int .i64 k, .int .i64 n, .slice A1 of.length c1, .slice A2 fs.length c2, .bool pk, .int .i64 al]).below hb1 (by simp)
    have t0 := hT1.at_ (i := 0) rfl; have t1 := hT1.at_ (i := 1) rfl; have t2 := hT1.at_ (i := 2) rfl; have t3 := hT1.at_ (i := 3) rfl; have t4 := hT1.at_ (i := 4) rfl; have t5 := hT1.at_ (i := 5) rfl; have t6 := hT1.at_ (i := 6) rfl
    have HB1 := Lib.hid (bel_then (bel_alloc (Below.refl _ _) _) hb1)
    clear hb1
    go_wp2_with fail
    refine (HM.out _ HB1.out).mono ?_
    rintro e w2 ⟨A, nn, c, rfl, hA, hb2⟩
    obtain rfl : nn = fs.length := by rw [hA.len, hlen]
    have hT2 := hT1.below hb2 hT1.lt
    clear t0 t1 t2 t3 t4 t5 t6 hT1
    have t0 := hT2.at_ (i := 0) rfl; have t1 := hT2.at_ (i := 1) rfl; have t2 := hT2.at_ (i := 2) rfl; have t3 := hT2.at_ (i := 3) rfl; have t4 := hT2.at_ (i := 4) rfl; have t5 := hT2.at_ (i := 5) rfl; have t6 := hT2.at_ (i := 6) rfl
    have HB2 := Lib.hid (bel_then HB1.out hb2)
    clear hb2
    go_wp2_with fail
    refine (HS.out _ HB2.out).mono ?_
    rintro e w3 ⟨rfl, hb3⟩
    have hT3 := hT2.below hb3 hT2.lt
    have HA := Lib.hid (hA.1.below hb3)
    clear t0 t1 t2 t3 t4 t5 t6 hT2 hA
    have t0 := hT3.at_ (i := 0) rfl; have t1 := hT3.at_ (i := 1) rfl; have t2 := hT3.at_ (i := 2) rfl; have t3 := hT3.at_ (i := 3) rfl; have t4 := hT3.at_ (i := 4) rfl; have t5 := hT3.at_ (i := 5) rfl; have t6 := hT3.at_ (i := 6) rfl
    have HB3 := Lib.hid (bel_then HB2.out hb3)
    have HF3 := Lib.hid (hF.below HB3.out)
    have HLEN := Lib.hid hlen
    clear hb3 hF hlen
    go_wp2_with fail
    clear t0 t1 t2 t3 t4 t5 t6
    go_loopw [9, 10] (fun s9 s10 wr => ∃ j : Nat, j ≤ fs.length ∧ s9 = .int .i64 (endAt 0 L j) ∧ s10 = .int .i64 j ∧ Below w3.heap.size w3 wr) (fun _ i _ => fs.length - (intOf i).toNat)
    case atStart => exact ⟨0, Nat.zero_le _, by cases L <;> rfl, rfl, Below.refl _ _⟩
    case round =>
      obtain ⟨j, hj, rfl, rfl, hb⟩ := hrel
      by_cases hlt : j < fs.length
      · obtain ⟨f, hf⟩ : ∃ f, fs[j]? = some f := ⟨_, List.getElem?_eq_getElem hlt⟩
        obtain ⟨x, hx⟩ : ∃ x, L[j]? = some x := ⟨_, List.getElem?_eq_getElem (by rw [HLEN.out]; exact hlt)⟩
        obtain ⟨p1, p2, p3, p4, p5, p6, p7, bb, p8⟩ := HL.out.all j f x hf hx
        have HP8 := Lib.hid p8
        have HP6 := Lib.hid p6
        have HP7 := Lib.hid p7
        have HX := Lib.hid hx
        obtain ⟨e0, he0⟩ : ∃ e0, endAt 0 L j = e0 := ⟨_, rfl⟩
        rw [he0] at p4 ⊢
        have r4 := p4 rfl
        have r4b : decide (x.bit < e0) = false := decide_eq_false (by omega)
        have r1 : decide (x.bit < 0) = false := decide_eq_false (by omega)
        have r2 : decide (8 * sz < x.bit + x.bits) = false := decide_eq_false (by omega)
        obtain ⟨b, o, hAe, x0, x1, x2⟩ := (HA.out.below hb).at_ hx
        obtain ⟨b', o', nn, a1, a2, n1, n2, d1, d2, fpk, fal, hA2, hbt, hnm, hty, q0, q1, q2, q3, q4, q5, q6, q7, q8⟩ := (HF3.out.below hb).at_ hf
        subst hAe hA2
        have HTY := Lib.hid hty
        have hTr := hT3.below hb hT3.lt
        have t0 := hTr.at_ (i := 0) rfl
        have t4 := hTr.at_ (i := 4) rfl
        have t5 := hTr.at_ (i := 5) rfl
        clear p8 p6 p7 p4 p5 hx he0 hf hty
        go_wp2_with fail
        go_quiet (fail)
        obtain ⟨nq0, rfl⟩ : ∃ n, n = nq := ⟨_, rfl⟩
        go_wp2_with fail
        go_quiet (fail)
        go_wp2_with fail
        refine region_tail (C := fun w' => ∃ n, w' = ((wr.drewN nq0).drewN nq).drewN n) 9 (by kernel_rfl) (by kernel_rfl) ⟨1, rfl⟩ ?_
        simp only [List.take_succ_cons, List.take_zero, List.drop_succ_cons, List.drop_zero]
        repeat (go_big_quiet_step (fail))
        refine wpQuiet_nil ?_
        rintro _ ⟨nq2, rfl⟩
        clear t0 t4 t5 x0 x1 x2 q0 q1 q2 q3 q4 q5 q6 q7 q8
        have hbq : Below wr.heap.size wr (((wr.drewN nq0).drewN nq).drewN nq2) := bel_drewN (bel_drewN (bel_drewN (Below.refl _ _) _) _) _
        have HBQ := Lib.hid (bel_then hb hbq)
        have hTq := hTr.below hbq hTr.lt
        have HTQ := Lib.hid (HTY.out.below hbq)
        generalize World.drewN (World.drewN _ _) _ = wq at hTq HBQ HTQ ⊢
        clear hbq hTr hb HTY
        obtain ⟨sb, hsb⟩ : ∃ s, standsB f.bits bb.align (tk d f.t) x.bit = s := ⟨_, rfl⟩
        have HC := Lib.hid (stands_c (xk := x.k) HTQ.out (err_of HP6.out (by omega) HP8.out.bx).1 (err_of HP6.out (by omega) HP8.out.bx).2.2.1 (err_of HP6.out (by omega) HP8.out.bx).2.2.2 HP8.out.ok.1 HP8.out.ok.2.1 HP8.out.ok.2.2.1 HP8.out.ok.2.2.2 p1 (by omega) HP8.out.bits (fun h => field_k HP6.out HP7.out h))
        rw [hsb] at HC
        have HSB := Lib.hid hsb
        clear hsb
        go_wp2_with fail
        refine HC.out.mono ?_
        rintro e w4 ⟨rfl, hb4⟩
        have hT4 := hTq.below hb4 hTq.lt
        have t5 := hT4.at_ (i := 5) rfl
        have HB4 := Lib.hid (bel_then HBQ.out hb4)
        clear hTq hb4 HC
        cases pk with
        | false =>
          obtain rfl : sb = true := by rw [← HSB.out]; exact stands_yes HP8.out HP6.out HP7.out
          clear HSB
          go_wp2_with fail
          go_roundw
          case rel => exact ⟨j + 1, by omega, by rw [endAt_succ _ _ _ _ HX.out], by go_num, HB4.out⟩
          case measure => simp [intOf]; omega
        | true =>
          clear HSB
          go_wp2_with fail
          go_roundw
          case rel => exact ⟨j + 1, by omega, by rw [endAt_succ _ _ _ _ HX.out], by go_num, HB4.out⟩
          case measure => simp [intOf]; omega
      · have hkl : fs.length ≤ j := by omega
        go_wp2_with fail
        go_ret
        exact ⟨rfl, bel_then HB3.out hb⟩
  · go_enter Try.func11, Try.ntmps11
    go_wp2_with fail
    refine (shown44_c _).mono ?_
    rintro e w1 ⟨rfl, hb1⟩
    have hT1 := (Bk.new w 38 #[.int .i64 5, .int .i64 k, .int .i64 n, .slice A1 of.length c1, .slice A2 fs.length c2, .bool pk, .int .i64 al]).below hb1 (by simp)
    have t0 := hT1.at_ (i := 0) rfl; have t1 := hT1.at_ (i := 1) rfl; have t2 := hT1.at_ (i := 2) rfl; have t3 := hT1.at_ (i := 3) rfl; have t4 := hT1.at_ (i := 4) rfl; have t5 := hT1.at_ (i := 5) rfl; have t6 := hT1.at_ (i := 6) rfl
    have HB1 := Lib.hid (bel_then (bel_alloc (Below.refl _ _) _) hb1)
    clear hb1
    go_wp2_with fail
    refine (HM.out _ HB1.out).mono ?_
    rintro e w2 ⟨A, nn, c, rfl, hA, hb2⟩
    obtain rfl : nn = fs.length := by rw [hA.len, hlen]
    have hT2 := hT1.below hb2 hT1.lt
    clear t0 t1 t2 t3 t4 t5 t6 hT1
    have t0 := hT2.at_ (i := 0) rfl; have t1 := hT2.at_ (i := 1) rfl; have t2 := hT2.at_ (i := 2) rfl; have t3 := hT2.at_ (i := 3) rfl; have t4 := hT2.at_ (i := 4) rfl; have t5 := hT2.at_ (i := 5) rfl; have t6 := hT2.at_ (i := 6) rfl
    have HB2 := Lib.hid (bel_then HB1.out hb2)
    clear hb2
    go_wp2_with fail
    refine (HS.out _ HB2.out).mono ?_
    rintro e w3 ⟨rfl, hb3⟩
    have hT3 := hT2.below hb3 hT2.lt
    have HA := Lib.hid (hA.1.below hb3)
    clear t0 t1 t2 t3 t4 t5 t6 hT2 hA
    have t0 := hT3.at_ (i := 0) rfl; have t1 := hT3.at_ (i := 1) rfl; have t2 := hT3.at_ (i := 2) rfl; have t3 := hT3.at_ (i := 3) rfl; have t4 := hT3.at_ (i := 4) rfl; have t5 := hT3.at_ (i := 5) rfl; have t6 := hT3.at_ (i := 6) rfl
    have HB3 := Lib.hid (bel_then HB2.out hb3)
    have HF3 := Lib.hid (hF.below HB3.out)
    have HLEN := Lib.hid hlen
    clear hb3 hF hlen
    go_wp2_with fail
    clear t0 t1 t2 t3 t4 t5 t6
    go_loopw [9, 10] (fun s9 s10 wr => ∃ j : Nat, j ≤ fs.length ∧ s9 = .int .i64 (endAt 0 L j) ∧ s10 = .int .i64 j ∧ Below w3.heap.size w3 wr) (fun _ i _ => fs.length - (intOf i).toNat)
    case atStart => exact ⟨0, Nat.zero_le _, by cases L <;> rfl, rfl, Below.refl _ _⟩
    case round =>
      obtain ⟨j, hj, rfl, rfl, hb⟩ := hrel
      by_cases hlt : j < fs.length
      · obtain ⟨f, hf⟩ : ∃ f, fs[j]? = some f := ⟨_, List.getElem?_eq_getElem hlt⟩
        obtain ⟨x, hx⟩ : ∃ x, L[j]? = some x := ⟨_, List.getElem?_eq_getElem (by rw [HLEN.out]; exact hlt)⟩
        obtain ⟨p1, p2, p3, p4, p5, p6, p7, bb, p8⟩ := HL.out.all j f x hf hx
        have HP8 := Lib.hid p8
        have HP6 := Lib.hid p6
        have HP7 := Lib.hid p7
        have HX := Lib.hid hx
        obtain ⟨e0, he0⟩ : ∃ e0, endAt 0 L j = e0 := ⟨_, rfl⟩
        rw [he0] at p4 ⊢
        have r5 : (x.bit != 0) = false := by rw [p5 rfl]; rfl
        
        have r1 : decide (x.bit < 0) = false := decide_eq_false (by omega)
        have r2 : decide (8 * sz < x.bit + x.bits) = false := decide_eq_false (by omega)
        obtain ⟨b, o, hAe, x0, x1, x2⟩ := (HA.out.below hb).at_ hx
        obtain ⟨b', o', nn, a1, a2, n1, n2, d1, d2, fpk, fal, hA2, hbt, hnm, hty, q0, q1, q2, q3, q4, q5, q6, q7, q8⟩ := (HF3.out.below hb).at_ hf
        subst hAe hA2
        have HTY := Lib.hid hty
        have hTr := hT3.below hb hT3.lt
        have t0 := hTr.at_ (i := 0) rfl
        have t4 := hTr.at_ (i := 4) rfl
        have t5 := hTr.at_ (i := 5) rfl
        clear p8 p6 p7 p4 p5 hx he0 hf hty
        go_wp2_with fail
        go_quiet (fail)
        obtain ⟨nq0, rfl⟩ : ∃ n, n = nq := ⟨_, rfl⟩
        go_wp2_with fail
        go_quiet (fail)
        go_wp2_with fail
        refine region_tail (C := fun w' => ∃ n, w' = ((wr.drewN nq0).drewN nq).drewN n) 9 (by kernel_rfl) (by kernel_rfl) ⟨1, rfl⟩ ?_
        simp only [List.take_succ_cons, List.take_zero, List.drop_succ_cons, List.drop_zero]
        repeat (go_big_quiet_step (fail))
        refine wpQuiet_nil ?_
        rintro _ ⟨nq2, rfl⟩
        clear t0 t4 t5 x0 x1 x2 q0 q1 q2 q3 q4 q5 q6 q7 q8
        have hbq : Below wr.heap.size wr (((wr.drewN nq0).drewN nq).drewN nq2) := bel_drewN (bel_drewN (bel_drewN (Below.refl _ _) _) _) _
        have HBQ := Lib.hid (bel_then hb hbq)
        have hTq := hTr.below hbq hTr.lt
        have HTQ := Lib.hid (HTY.out.below hbq)
        generalize World.drewN (World.drewN _ _) _ = wq at hTq HBQ HTQ ⊢
        clear hbq hTr hb HTY
        obtain ⟨sb, hsb⟩ : ∃ s, standsB f.bits bb.align (tk d f.t) x.bit = s := ⟨_, rfl⟩
        have HC := Lib.hid (stands_c (xk := x.k) HTQ.out (err_of HP6.out (by omega) HP8.out.bx).1 (err_of HP6.out (by omega) HP8.out.bx).2.2.1 (err_of HP6.out (by omega) HP8.out.bx).2.2.2 HP8.out.ok.1 HP8.out.ok.2.1 HP8.out.ok.2.2.1 HP8.out.ok.2.2.2 p1 (by omega) HP8.out.bits (fun h => field_k HP6.out HP7.out h))
        rw [hsb] at HC
        have HSB := Lib.hid hsb
        clear hsb
        go_wp2_with fail
        refine HC.out.mono ?_
        rintro e w4 ⟨rfl, hb4⟩
        have hT4 := hTq.below hb4 hTq.lt
        have t5 := hT4.at_ (i := 5) rfl
        have HB4 := Lib.hid (bel_then HBQ.out hb4)
        clear hTq hb4 HC
        cases pk with
        | false =>
          obtain rfl : sb = true := by rw [← HSB.out]; exact stands_yes HP8.out HP6.out HP7.out
          clear HSB
          go_wp2_with fail
          go_roundw
          case rel => exact ⟨j + 1, by omega, by rw [endAt_succ _ _ _ _ HX.out], by go_num, HB4.out⟩
          case measure => simp [intOf]; omega
        | true =>
          clear HSB
          go_wp2_with fail
          go_roundw
          case rel => exact ⟨j + 1, by omega, by rw [endAt_succ _ _ _ _ HX.out], by go_num, HB4.out⟩
          case measure => simp [intOf]; omega
      · have hkl : fs.length ≤ j := by omega
        go_wp2_with fail
        go_ret
        exact ⟨rfl, bel_then HB3.out hb⟩
theorem shapeLies_w (d : Nat) (t : Tp d) (v0 v1 v2 v3 v4 v5 v6 : Value) (w : World) (ht : TyAt w d t [v0, v1, v2, v3, v4, v5, v6]) :
    Calls Try.prog 11 #[.agg #[v0, v1, v2, v3, v4, v5, v6]] w fun e w' => e = .returned (.bool true) ∧ Below w.heap.size w w' := by
  by_cases h : memE d t = 0
  · cases d with
    | zero => exact nomatch t
    | succ d => exact shapeLies_yes d t v0 v1 v2 v3 v4 v5 v6 w ht h
  · exact shapeLies_no d t v0 v1 v2 v3 v4 v5 v6 w ht h
end Go.Proofs.Ytcggghamnmflcaa

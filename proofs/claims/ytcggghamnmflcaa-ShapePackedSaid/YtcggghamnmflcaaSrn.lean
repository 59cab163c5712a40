/- The law ShapePacked walked: whatever the type, it returns true. -/
import Derived.Test.YtcggghamnmflcaaPlb
namespace Go.Proofs.Ytcggghamnmflcaa
open Go Go.RowKit Go.Shelf
set_option maxRecDepth 100000 in
theorem shapePacked_no (d : Nat) (t : Tp d) (v0 v1 v2 v3 v4 v5 v6 : Value) (w : World) (ht : TyAt w d t [v0, v1, v2, v3, v4, v5, v6]) (he : memE d t ≠ 0) :
    Calls Try.prog 12 #[.agg #[v0, v1, v2, v3, v4, v5, v6]] w fun e w' => e = .returned (.bool true) ∧ Below w.heap.size w w' := by
  have HS := fun w' (hb : Below w.heap.size w w') => ssize_c (ht.below hb)
  obtain rfl := ht.cell0
  obtain ⟨er, her⟩ : ∃ x, errS d t = x := ⟨_, rfl⟩
  obtain ⟨sh, hsh⟩ : ∃ x, tsh d t = x := ⟨_, rfl⟩
  have hcase : er ≠ 0 ∨ (er = 0 ∧ sh ≠ 4 ∧ sh ≠ 5) := by
    unfold memE at he
    rw [her, hsh] at he
    split at he
    · split at he
      · exact absurd rfl he
      · rename_i h1 h2
        exact .inr ⟨h1, fun h => h2 (.inl h), fun h => h2 (.inr h)⟩
    · rename_i h1; exact .inl h1
  rw [her, hsh] at HS
  rw [hsh] at ht ⊢
  replace HS := Lib.hid HS
  clear he her hsh ht
  rcases hcase with h | ⟨rfl, hn4, hn5⟩
  · have h' : (er != 0) = true := by rw [bne_iff_ne]; exact h
    clear h
    go_enter Try.func12, Try.ntmps12
    go_wp2_with fail
    refine (shown44_c _).mono ?_
    rintro e w1 ⟨rfl, hb1⟩
    have hT1 := (Bk.new w 38 #[.int .i64 sh, v1, v2, v3, v4, v5, v6]).below hb1 (by simp)
    have t0 := hT1.at_ (i := 0) rfl; have t1 := hT1.at_ (i := 1) rfl; have t2 := hT1.at_ (i := 2) rfl; have t3 := hT1.at_ (i := 3) rfl; have t4 := hT1.at_ (i := 4) rfl; have t5 := hT1.at_ (i := 5) rfl; have t6 := hT1.at_ (i := 6) rfl
    have HB1 := Lib.hid (bel_then (bel_alloc (Below.refl _ _) _) hb1)
    clear hb1
    go_wp2_with fail
    refine (HS.out _ HB1.out).mono ?_
    rintro e w2 ⟨rfl, hb2⟩
    have hT2 := hT1.below hb2 hT1.lt
    clear t0 t1 t2 t3 t4 t5 t6 hT1
    have t0 := hT2.at_ (i := 0) rfl
    have HB2 := Lib.hid (bel_then HB1.out hb2)
    clear hb2
    go_wp2_with fail
    go_ret
    exact ⟨rfl, HB2.out⟩
  · have h4 : (sh != 4) = true := by rw [bne_iff_ne]; exact hn4
    have h5 : (sh != 5) = true := by rw [bne_iff_ne]; exact hn5
    have g4 : (sh == 4) = false := by simpa using hn4
    have g5 : (sh == 5) = false := by simpa using hn5
    clear hn4 hn5
    go_enter Try.func12, Try.ntmps12
    go_wp2_with fail
    refine (shown44_c _).mono ?_
    rintro e w1 ⟨rfl, hb1⟩
    have hT1 := (Bk.new w 38 #[.int .i64 sh, v1, v2, v3, v4, v5, v6]).below hb1 (by simp)
    have t0 := hT1.at_ (i := 0) rfl; have t1 := hT1.at_ (i := 1) rfl; have t2 := hT1.at_ (i := 2) rfl; have t3 := hT1.at_ (i := 3) rfl; have t4 := hT1.at_ (i := 4) rfl; have t5 := hT1.at_ (i := 5) rfl; have t6 := hT1.at_ (i := 6) rfl
    have HB1 := Lib.hid (bel_then (bel_alloc (Below.refl _ _) _) hb1)
    clear hb1
    go_wp2_with fail
    refine (HS.out _ HB1.out).mono ?_
    rintro e w2 ⟨rfl, hb2⟩
    have hT2 := hT1.below hb2 hT1.lt
    clear t0 t1 t2 t3 t4 t5 t6 hT1
    have t0 := hT2.at_ (i := 0) rfl
    have HB2 := Lib.hid (bel_then HB1.out hb2)
    clear hb2
    go_wp2_with fail
    go_ret
    exact ⟨rfl, HB2.out⟩
theorem TyAt.pack {w : World} {d : Nat} {t : Nd (Tp d)} {A1 A2 : Option Addr} {c1 c2 : Nat} (h : TyAt w (d + 1) t [.int .i64 t.sh, .int .i64 t.k, .int .i64 t.n, .slice A1 t.of.length c1, .slice A2 t.fs.length c2, .bool t.pk, .int .i64 t.al]) :
    TyAt w (d + 1) ({ t with pk := true } : Nd (Tp d)) [.int .i64 t.sh, .int .i64 t.k, .int .i64 t.n, .slice A1 t.of.length c1, .slice A2 t.fs.length c2, .bool true, .int .i64 t.al] ∧
    TyAt w (d + 1) ({ t with sh := 5 } : Nd (Tp d)) [.int .i64 5, .int .i64 t.k, .int .i64 t.n, .slice A1 t.of.length c1, .slice A2 t.fs.length c2, .bool t.pk, .int .i64 t.al] := by
  obtain ⟨B1, B2, e1, e2, hcs, b1, b2, b3, b4, l1, l2, m1, m2, hof, hfs⟩ := h
  simp only [List.cons.injEq, and_true, true_and, Value.slice.injEq] at hcs
  obtain ⟨⟨rfl, rfl⟩, ⟨rfl, rfl⟩⟩ := hcs
  exact ⟨⟨_, _, _, _, rfl, b1, b2, b3, b4, l1, l2, m1, m2, hof, hfs⟩, ⟨_, _, _, _, rfl, i64d (n := 5) (by decide), b2, b3, b4, l1, l2, m1, m2, hof, hfs⟩⟩
set_option maxRecDepth 100000 in
set_option maxHeartbeats 8000000 in
theorem shapePacked_yes (d : Nat) (t : Nd (Tp d)) (v0 v1 v2 v3 v4 v5 v6 : Value) (w : World) (ht : TyAt w (d + 1) t [v0, v1, v2, v3, v4, v5, v6]) (he : memE (d + 1) t = 0) :
    Calls Try.prog 12 #[.agg #[v0, v1, v2, v3, v4, v5, v6]] w fun e w' => e = .returned (.bool true) ∧ Below w.heap.size w w' := by
  obtain ⟨h0, hs⟩ := mem_yes he
  have hs : t.sh = 4 ∨ t.sh = 5 := hs
  obtain ⟨m, b, p0, pm, pb, pmn, pba⟩ := packed_le h0 hs
  obtain ⟨u0, ukn⟩ := union_le h0 hs
  have HUF := Lib.hid (fun i f hf => union_fields (t := { t with sh := 5 }) u0 rfl (i := i) (f := f) hf)
  have HS := fun w' (hb : Below w.heap.size w w') => ssize_c (ht.below hb)
  obtain ⟨A1, A2, c1, c2, hcs, b1, b2, b3, b4, l1, l2, m1, m2, hof, hfs⟩ := id ht
  simp only [List.cons.injEq, and_true] at hcs
  obtain ⟨rfl, rfl, rfl, rfl, rfl, rfl, rfl⟩ := hcs
  have HP := fun w' (hb : Below w.heap.size w w') => ssize_c (ht.below hb).pack.1
  have HU := fun w' (hb : Below w.heap.size w w') => ssize_c (ht.below hb).pack.2
  rw [h0] at HS
  rw [p0, pm, pb] at HP
  rw [u0] at HU
  obtain ⟨sz, hsz⟩ : ∃ x, szS (d + 1) t = x := ⟨_, rfl⟩
  obtain ⟨ag, hag⟩ : ∃ x, agS (d + 1) t = x := ⟨_, rfl⟩
  obtain ⟨uk, huk⟩ : ∃ x, szS (d + 1) ({ t with sh := 5 } : Nd (Tp d)) = x := ⟨_, rfl⟩
  obtain ⟨ua, hua⟩ : ∃ x, agS (d + 1) ({ t with sh := 5 } : Nd (Tp d)) = x := ⟨_, rfl⟩
  rw [hsz, hag] at HS
  rw [hsz] at pmn ukn
  rw [hag] at pba
  rw [huk, hua] at HU
  rw [huk] at HUF ukn
  replace HS := Lib.hid HS
  replace HP := Lib.hid HP
  replace HU := Lib.hid HU
  clear h0 p0 pm pb u0 hsz hag huk hua he ht hof
  obtain ⟨sh, k, n, of, fs, pk, al⟩ := t
  have hF : FdsAt w d A2 fs := hfs
  clear hfs
  simp only at hs HS HP HU HUF b1 b2 b3 b4 l1 l2 ⊢
  have h40 : fs.length ≤ 9223372036854775807 := by omega
  have r1 : decide (sz < m) = false := decide_eq_false (by omega)
  have r2 : decide (ag < b) = false := decide_eq_false (by omega)
  have r3 : decide (sz < uk) = false := decide_eq_false (by omega)
  have s45 : (sh != 4 && sh != 5) = false := by rcases hs with rfl | rfl <;> rfl
  rcases hs with rfl | rfl
  · clear s45
    go_enter Try.func12, Try.ntmps12
    go_wp2_with fail
    refine (shown44_c _).mono ?_
    rintro e w1 ⟨rfl, hb1⟩
    have hT1 := (Bk.new w 38 #[.int .i64 4, .int .i64 k, .int .i64 n, .slice A1 of.length c1, .slice A2 fs.length c2, .bool pk, .int .i64 al]).below hb1 (by simp)
    have t0 := hT1.at_ (i := 0) rfl; have t1 := hT1.at_ (i := 1) rfl; have t2 := hT1.at_ (i := 2) rfl; have t3 := hT1.at_ (i := 3) rfl; have t4 := hT1.at_ (i := 4) rfl; have t5 := hT1.at_ (i := 5) rfl; have t6 := hT1.at_ (i := 6) rfl
    have HB1 := Lib.hid (bel_then (bel_alloc (Below.refl _ _) _) hb1)
    clear hb1
    go_wp2_with fail
    refine (HS.out _ HB1.out).mono ?_
    rintro e w2 ⟨rfl, hb2⟩
    have hT2 := hT1.below hb2 hT1.lt
    clear t0 t1 t2 t3 t4 t5 t6 hT1
    have t0 := hT2.at_ (i := 0) rfl; have t1 := hT2.at_ (i := 1) rfl; have t2 := hT2.at_ (i := 2) rfl; have t3 := hT2.at_ (i := 3) rfl; have t4 := hT2.at_ (i := 4) rfl; have t5 := hT2.at_ (i := 5) rfl; have t6 := hT2.at_ (i := 6) rfl
    have HB2 := Lib.hid (bel_then HB1.out hb2)
    clear hb2
    go_wp2_with fail
    have hT3 := hT2.alloc (.cells #[.int .i64 4, .int .i64 k, .int .i64 n, .slice A1 of.length c1, .slice A2 fs.length c2, .bool true, .int .i64 al] 38)
    have HB3 := Lib.hid (bel_alloc HB2.out (.cells #[.int .i64 4, .int .i64 k, .int .i64 n, .slice A1 of.length c1, .slice A2 fs.length c2, .bool true, .int .i64 al] 38))
    refine (HP.out _ HB3.out).mono ?_
    rintro e w3 ⟨rfl, hb3⟩
    have hT4 := hT3.below hb3 hT3.lt
    clear t0 t1 t2 t3 t4 t5 t6 hT2
    have t0 := hT4.at_ (i := 0) rfl; have t1 := hT4.at_ (i := 1) rfl; have t2 := hT4.at_ (i := 2) rfl; have t3 := hT4.at_ (i := 3) rfl; have t4 := hT4.at_ (i := 4) rfl; have t5 := hT4.at_ (i := 5) rfl; have t6 := hT4.at_ (i := 6) rfl
    have HB4 := Lib.hid (bel_then HB3.out hb3)
    clear hb3 hT3
    go_wp2_with fail
    have hT5 := hT4.alloc (.cells #[.int .i64 5, .int .i64 k, .int .i64 n, .slice A1 of.length c1, .slice A2 fs.length c2, .bool pk, .int .i64 al] 38)
    have HB5 := Lib.hid (bel_alloc HB4.out (.cells #[.int .i64 5, .int .i64 k, .int .i64 n, .slice A1 of.length c1, .slice A2 fs.length c2, .bool pk, .int .i64 al] 38))
    refine (HU.out _ HB5.out).mono ?_
    rintro e w5 ⟨rfl, hb5⟩
    have hT6 := hT5.below hb5 hT5.lt
    clear t0 t1 t2 t3 t4 t5 t6 hT4
    have t0 := hT6.at_ (i := 0) rfl
    have HB6 := Lib.hid (bel_then HB5.out hb5)
    clear hb5 hT5
    go_wp2_with fail
    have HF := Lib.hid (hF.below HB6.out)
    clear hF t0
    go_loopw [15] (fun i wr => ∃ j : Nat, j ≤ fs.length ∧ i = .int .i64 j ∧ Below w5.heap.size w5 wr) (fun i _ => fs.length - (intOf i).toNat)
    case atStart => exact ⟨0, Nat.zero_le _, rfl, Below.refl _ _⟩
    case round =>
      obtain ⟨j, hj, rfl, hb⟩ := hrel
      have hTr := hT6.below hb hT6.lt
      have t4 := hTr.at_ (i := 4) rfl
      by_cases hlt : j < fs.length
      · obtain ⟨f, hf⟩ : ∃ f, fs[j]? = some f := ⟨_, List.getElem?_eq_getElem hlt⟩
        obtain ⟨hf0, hfk⟩ := HUF.out j f hf
        obtain ⟨b', o', nn, a1, a2, n1, n2, d1, d2, fpk, fal, hA2, hbt, hnm, hty, q0, q1, q2, q3, q4, q5, q6, q7, q8⟩ := (HF.out.below hb).at_ hf
        subst hA2
        have HC := ssize_c hty
        rw [hf0] at HC
        obtain ⟨fz, hfz⟩ : ∃ x, szS d f.t = x := ⟨_, rfl⟩
        obtain ⟨fa, hfa⟩ : ∃ x, agS d f.t = x := ⟨_, rfl⟩
        rw [hfz] at hfk HC
        rw [hfa] at HC
        replace HC := Lib.hid HC
        clear hf0 hfz hfa hf hty
        have HFK := Lib.hid hfk
        clear hfk
        go_wp2_with fail
        refine HC.out.mono ?_
        rintro e w7 ⟨rfl, hb7⟩
        have hT7 := hTr.below hb7 hTr.lt
        have t4' := hT7.at_ (i := 4) rfl
        have q8' := bel_cell hb7 q8
        clear t4 q0 q1 q2 q3 q4 q5 q6 q7 q8 hTr
        have HB7 := Lib.hid (bel_then hb hb7)
        clear hb hb7
        by_cases hbn : f.bits < 0
        · have g1 : fz ≤ uk := HFK.out hbn
          have g2 : decide (uk < fz) = false := decide_eq_false (by omega)
          go_wp2_with fail
          go_roundw
          case rel => exact ⟨j + 1, by omega, by go_num, HB7.out⟩
          case measure => simp [intOf]; omega
        · have g2 : decide (f.bits < 0) = false := decide_eq_false hbn
          go_wp2_with fail
          go_roundw
          case rel => exact ⟨j + 1, by omega, by go_num, HB7.out⟩
          case measure => simp [intOf]; omega
      · have hkl : fs.length ≤ j := by omega
        go_wp2_with fail
        go_ret
        exact ⟨rfl, bel_then HB6.out hb⟩
  · clear s45
    go_enter Try.func12, Try.ntmps12
    go_wp2_with fail
    refine (shown44_c _).mono ?_
    rintro e w1 ⟨rfl, hb1⟩
    have hT1 := (Bk.new w 38 #[.int .i64 5, .int .i64 k, .int .i64 n, .slice A1 of.length c1, .slice A2 fs.length c2, .bool pk, .int .i64 al]).below hb1 (by simp)
    have t0 := hT1.at_ (i := 0) rfl; have t1 := hT1.at_ (i := 1) rfl; have t2 := hT1.at_ (i := 2) rfl; have t3 := hT1.at_ (i := 3) rfl; have t4 := hT1.at_ (i := 4) rfl; have t5 := hT1.at_ (i := 5) rfl; have t6 := hT1.at_ (i := 6) rfl
    have HB1 := Lib.hid (bel_then (bel_alloc (Below.refl _ _) _) hb1)
    clear hb1
    go_wp2_with fail
    refine (HS.out _ HB1.out).mono ?_
    rintro e w2 ⟨rfl, hb2⟩
    have hT2 := hT1.below hb2 hT1.lt
    clear t0 t1 t2 t3 t4 t5 t6 hT1
    have t0 := hT2.at_ (i := 0) rfl; have t1 := hT2.at_ (i := 1) rfl; have t2 := hT2.at_ (i := 2) rfl; have t3 := hT2.at_ (i := 3) rfl; have t4 := hT2.at_ (i := 4) rfl; have t5 := hT2.at_ (i := 5) rfl; have t6 := hT2.at_ (i := 6) rfl
    have HB2 := Lib.hid (bel_then HB1.out hb2)
    clear hb2
    go_wp2_with fail
    have hT3 := hT2.alloc (.cells #[.int .i64 5, .int .i64 k, .int .i64 n, .slice A1 of.length c1, .slice A2 fs.length c2, .bool true, .int .i64 al] 38)
    have HB3 := Lib.hid (bel_alloc HB2.out (.cells #[.int .i64 5, .int .i64 k, .int .i64 n, .slice A1 of.length c1, .slice A2 fs.length c2, .bool true, .int .i64 al] 38))
    refine (HP.out _ HB3.out).mono ?_
    rintro e w3 ⟨rfl, hb3⟩
    have hT4 := hT3.below hb3 hT3.lt
    clear t0 t1 t2 t3 t4 t5 t6 hT2
    have t0 := hT4.at_ (i := 0) rfl; have t1 := hT4.at_ (i := 1) rfl; have t2 := hT4.at_ (i := 2) rfl; have t3 := hT4.at_ (i := 3) rfl; have t4 := hT4.at_ (i := 4) rfl; have t5 := hT4.at_ (i := 5) rfl; have t6 := hT4.at_ (i := 6) rfl
    have HB4 := Lib.hid (bel_then HB3.out hb3)
    clear hb3 hT3
    go_wp2_with fail
    have hT5 := hT4.alloc (.cells #[.int .i64 5, .int .i64 k, .int .i64 n, .slice A1 of.length c1, .slice A2 fs.length c2, .bool pk, .int .i64 al] 38)
    have HB5 := Lib.hid (bel_alloc HB4.out (.cells #[.int .i64 5, .int .i64 k, .int .i64 n, .slice A1 of.length c1, .slice A2 fs.length c2, .bool pk, .int .i64 al] 38))
    refine (HU.out _ HB5.out).mono ?_
    rintro e w5 ⟨rfl, hb5⟩
    have hT6 := hT5.below hb5 hT5.lt
    clear t0 t1 t2 t3 t4 t5 t6 hT4
    have t0 := hT6.at_ (i := 0) rfl
    have HB6 := Lib.hid (bel_then HB5.out hb5)
    clear hb5 hT5
    go_wp2_with fail
    have HF := Lib.hid (hF.below HB6.out)
    clear hF t0
    go_loopw [15] (fun i wr => ∃ j : Nat, j ≤ fs.length ∧ i = .int .i64 j ∧ Below w5.heap.size w5 wr) (fun i _ => fs.length - (intOf i).toNat)
    case atStart => exact ⟨0, Nat.zero_le _, rfl, Below.refl _ _⟩
    case round =>
      obtain ⟨j, hj, rfl, hb⟩ := hrel
      have hTr := hT6.below hb hT6.lt
      have t4 := hTr.at_ (i := 4) rfl
      by_cases hlt : j < fs.length
      · obtain ⟨f, hf⟩ : ∃ f, fs[j]? = some f := ⟨_, List.getElem?_eq_getElem hlt⟩
        obtain ⟨hf0, hfk⟩ := HUF.out j f hf
        obtain ⟨b', o', nn, a1, a2, n1, n2, d1, d2, fpk, fal, hA2, hbt, hnm, hty, q0, q1, q2, q3, q4, q5, q6, q7, q8⟩ := (HF.out.below hb).at_ hf
        subst hA2
        have HC := ssize_c hty
        rw [hf0] at HC
        obtain ⟨fz, hfz⟩ : ∃ x, szS d f.t = x := ⟨_, rfl⟩
        obtain ⟨fa, hfa⟩ : ∃ x, agS d f.t = x := ⟨_, rfl⟩
        rw [hfz] at hfk HC
        rw [hfa] at HC
        replace HC := Lib.hid HC
        clear hf0 hfz hfa hf hty
        have HFK := Lib.hid hfk
        clear hfk
        go_wp2_with fail
        refine HC.out.mono ?_
        rintro e w7 ⟨rfl, hb7⟩
        have hT7 := hTr.below hb7 hTr.lt
        have t4' := hT7.at_ (i := 4) rfl
        have q8' := bel_cell hb7 q8
        clear t4 q0 q1 q2 q3 q4 q5 q6 q7 q8 hTr
        have HB7 := Lib.hid (bel_then hb hb7)
        clear hb hb7
        by_cases hbn : f.bits < 0
        · have g1 : fz ≤ uk := HFK.out hbn
          have g2 : decide (uk < fz) = false := decide_eq_false (by omega)
          go_wp2_with fail
          go_roundw
          case rel => exact ⟨j + 1, by omega, by go_num, HB7.out⟩
          case measure => simp [intOf]; omega
        · have g2 : decide (f.bits < 0) = false := decide_eq_false hbn
          go_wp2_with fail
          go_roundw
          case rel => exact ⟨j + 1, by omega, by go_num, HB7.out⟩
          case measure => simp [intOf]; omega
      · have hkl : fs.length ≤ j := by omega
        go_wp2_with fail
        go_ret
        exact ⟨rfl, bel_then HB6.out hb⟩
theorem shapePacked_w (d : Nat) (t : Tp d) (v0 v1 v2 v3 v4 v5 v6 : Value) (w : World) (ht : TyAt w d t [v0, v1, v2, v3, v4, v5, v6]) :
    Calls Try.prog 12 #[.agg #[v0, v1, v2, v3, v4, v5, v6]] w fun e w' => e = .returned (.bool true) ∧ Below w.heap.size w w' := by
  by_cases h : memE d t = 0
  · cases d with
    | zero => exact nomatch t
    | succ d => exact shapePacked_yes d t v0 v1 v2 v3 v4 v5 v6 w ht h
  · exact shapePacked_no d t v0 v1 v2 v3 v4 v5 v6 w ht h
end Go.Proofs.Ytcggghamnmflcaa

/- The walk of the reference's box: how a right type lies. -/
import Derived.Test.YtcggghamnmflcaaSrf
namespace Go.Proofs.Ytcggghamnmflcaa
open Go Go.RowKit Go.Shelf
theorem box_of_end {d : Nat} {t : Tp d} {w w' : World} {sz ag : Int} {b : Bx} (hb : boxS d t = some b) (h1 : sz = b.size) (h2 : ag = b.align) (h3 : b.l = []) (hw : Below w.heap.size w w') :
    BoxP d t w (.returned (.agg #[.int .i64 sz, .int .i64 ag, .bool false, .slice none 0 0])) w' :=
  ⟨sz, ag, false, none, 0, 0, rfl, hw, .inr ⟨b, hb, rfl, h1, h2, by rw [h3]; exact ⟨⟨rfl, fun i s hs => by simp at hs⟩, fun a ha => by cases ha⟩⟩⟩
theorem boxS_ptr {d : Nat} {t : Nd (Tp d)} (h : t.sh = 2) : boxS (d + 1) t = some { size := 8, align := 8, l := [] } := by
  show (if t.sh = 1 then _ else _) = _
  rw [if_neg (by omega), if_pos h]
theorem boxS_arr {d : Nat} {t : Nd (Tp d)} {x : Tp d} (h : t.sh = 3) (ho : t.of = [x]) : boxS (d + 1) t = (match boxS d x with | none => none | some b => if 65536 < t.n ∨ 65536 < b.size * t.n then none else some { size := b.size * t.n, align := b.align, l := [] }) := by
  show (if t.sh = 1 then _ else _) = _
  rw [if_neg (by omega), if_neg (by omega), if_pos h, ho]
  rfl
set_option maxRecDepth 100000 in
set_option maxHeartbeats 4000000 in
theorem box_step {d : Nat} (hBC : BoxC d) : BoxC (d + 1) := by
  intro t deep v0 v1 v2 v3 v4 v5 v6 w hp ht
  obtain ⟨A1, A2, c1, c2, rfl, rfl, rfl, rfl, rfl, rfl, rfl, b1, b2, b3, b4, l1, l2, m1, m2, h1, h2⟩ := ht.fds
  clear ht
  have hd : 1 ≤ deep := by
    rcases Int.lt_or_le deep 1 with h | h
    · rw [show plainS (d + 1) t deep = _ from plain_low h] at hp; cases hp
    · exact h
  by_cases s1 : Nd.sh t = 1
  · have e : boxS (d + 1) t = some { size := ksize (Nd.k t), align := ksize (Nd.k t), l := [] } := boxS_int s1
    have HE := Lib.hid e
    clear e h1 h2 hp
    rw [s1]
    generalize (Nd.fs t).length = nf at *
    generalize (Nd.of t).length = no at *
    obtain ⟨k, hk⟩ : ∃ x, Nd.k t = x := ⟨_, rfl⟩
    rw [hk]
    have HK := Lib.hid hk
    clear hk
    go_enter Try.func84, Try.ntmps84
    go_wp2_with (go_at_call 72; (with_reducible refine (rsize_c _ _).mono ?_); rintro e w' ⟨rfl, rfl⟩)
    exact bodyPost_ret (results_at (fn := Try.f84) (k := 2) rfl rfl (Bk.new1 w _ _ _)) rfl (box_of_end HE.out (by rw [HK.out]) (by rw [HK.out]) rfl (bel_alloc (bel_alloc (Below.refl _ _) _) _))
  · by_cases s2 : Nd.sh t = 2
    · have HE := Lib.hid (boxS_ptr (d := d) s2)
      clear h1 h2 hp s1
      rw [s2]
      generalize (Nd.fs t).length = nf at *
      generalize (Nd.of t).length = no at *
      go_enter Try.func84, Try.ntmps84
      go_wp2_with fail
      exact bodyPost_ret (results_at (fn := Try.f84) (k := 2) rfl rfl (Bk.new1 w _ _ _)) rfl (box_of_end HE.out rfl rfl rfl (bel_alloc (bel_alloc (Below.refl _ _) _) _))
    · by_cases s3 : Nd.sh t = 3
      · cases hx : (bareS t && (Nd.k t == 0 && (decide (1 ≤ Nd.n t) && decide ((Nd.of t).length = 1)))) with
        | false => rw [show plainS (d + 1) t deep = _ from plain_3no hd s3 hx] at hp; cases hp
        | true =>
          simp only [Bool.and_eq_true, beq_iff_eq, decide_eq_true_eq] at hx
          obtain ⟨q1, q2, q3, q4⟩ := hx
          obtain ⟨x, hof⟩ := List.length_eq_one_iff.1 q4
          rw [show plainS (d + 1) t deep = _ from plain_3 hd s3 q1 q2 q3 hof] at hp
          obtain ⟨b, o, xs, rfl, hxl, hrow, hxt⟩ := h1 0 x (by rw [hof]; rfl)
          have HBA := Lib.hid (boxS_arr (d := d) s3 hof)
          clear h1 h2 hof s1 s2
          rw [s3, q2, q4]
          generalize (Nd.fs t).length = nf at *
          obtain ⟨n, hn⟩ : ∃ x, Nd.n t = x := ⟨_, rfl⟩
          rw [hn] at b3 q3 HBA ⊢
          clear hn q2 q4 s3 q1
          match xs, hxl with
          | [y0, y1, y2, y3, y4, y5, y6], _ =>
            have hrow' := hrow.below (bel_alloc (bel_alloc (Below.refl w.heap.size w) (.cells #[.int .i64 3, .int .i64 0, .int .i64 n, .slice (some ⟨b, o, none⟩) 1 c1, .slice A2 nf c2, .bool (Nd.pk t), .int .i64 (Nd.al t)] 38)) (.cells #[.int .i64 0, .int .i64 0, .bool false, .slice none 0 0] 58))
            have HXT := Lib.hid (hxt.below (bel_alloc (bel_alloc (Below.refl w.heap.size w) (.cells #[.int .i64 3, .int .i64 0, .int .i64 n, .slice (some ⟨b, o, none⟩) 1 c1, .slice A2 nf c2, .bool (Nd.pk t), .int .i64 (Nd.al t)] 38)) (.cells #[.int .i64 0, .int .i64 0, .bool false, .slice none 0 0] 58)))
            have r0 := hrow 0 _ rfl
            have r1 := hrow 1 _ rfl
            have r2 := hrow 2 _ rfl
            have r3 := hrow 3 _ rfl
            have r4 := hrow 4 _ rfl
            have r5 := hrow 5 _ rfl
            have r6 := hrow 6 _ rfl
            simp only [Nat.zero_mul, Nat.add_zero] at r0 r1 r2 r3 r4 r5 r6
            have hbl := World.block_lt_of_cell? w _ r0
            simp only at hbl
            clear hrow' hxt hrow
            have HPX := Lib.hid hp
            clear hp
            go_enter Try.func84, Try.ntmps84
            go_upto_region 9 with (go_at_call 84; refine (hBC x (deep - 1) _ _ _ _ _ _ _ _ HPX.out HXT.out).mono ?_; rintro e w1 ⟨sz, ag, big, xA, xn, xc, rfl, hb1, hx⟩; have HB1 := Lib.hid hb1; have HX := Lib.hid hx; have hR1 := (Bk.new1 w _ 58 #[.int .i64 0, .int .i64 0, .bool false, .slice none 0 0]).below hb1 (by simp); have hT1 := ((Bk.new w 38 #[.int .i64 3, .int .i64 0, .int .i64 n, .slice (some ⟨b, o, none⟩) 1 c1, .slice A2 nf c2, .bool (Nd.pk t), .int .i64 (Nd.al t)]).alloc _).below hb1 (by simp; omega); clear hb1 hx r0 r1 r2 r3 r4 r5 r6)
            have hR2 := hR1.alloc (.cells #[.int .i64 sz, .int .i64 ag, .bool big, .slice xA xn xc] 58)
            have hT2 := hT1.alloc (.cells #[.int .i64 sz, .int .i64 ag, .bool big, .slice xA xn xc] 58)
            have hX2 : Bk (w1.alloc (.cells #[.int .i64 sz, .int .i64 ag, .bool big, .slice xA xn xc] 58)) w1.heap.size 58 #[.int .i64 sz, .int .i64 ag, .bool big, .slice xA xn xc] := Bk.new w1 _ _
            have hB2 : Below w.heap.size w (w1.alloc (.cells #[.int .i64 sz, .int .i64 ag, .bool big, .slice xA xn xc] 58)) := bel_alloc (bel_then (bel_alloc (bel_alloc (Below.refl _ _) _) _) HB1.out) _
            generalize World.alloc w1 _ = W2 at hR2 hT2 hX2 hB2 ⊢
            clear hR1 hT1 HB1 HXT
            have t2 := hT2.at_ (i := 2) rfl
            have x0 := hX2.at_ (i := 0) rfl
            have x1 := hX2.at_ (i := 1) rfl
            have x2 := hX2.at_ (i := 2) rfl
            have z0 := hR2.at_ (i := 0) rfl
            have z1 := hR2.at_ (i := 1) rfl
            have z2 := hR2.at_ (i := 2) rfl
            have z3 := hR2.at_ (i := 3) rfl
            have f0 := hR2.frozen 0
            have f1 := hR2.frozen 1
            have f2 := hR2.frozen 2
            have f3 := hR2.frozen 3
            cases hbx : boxS d x with
            | none =>
              have HN := Lib.hid (show boxS (d + 1) t = none by rw [HBA.out, hbx])
              have hbig : big = true := by
                rcases HX.out with ⟨_, h⟩ | ⟨b', h, _⟩
                · exact h
                · rw [hbx] at h; cases h
              subst hbig
              clear hbx
              go_wp2_with fail
              have hre := ((((hR2).set_ 0 (.int .i64 0)).set_ 1 (.int .i64 0)).set_ 2 (.bool true)).set_ 3 (.slice none 0 0)
              have hbe := bel_set (bel_set (bel_set (bel_set (hB2) (p := ⟨w.heap.size + 1, 0, none⟩) (by simp only; omega) (.int .i64 0)) (p := ⟨w.heap.size + 1, 1, none⟩) (by simp only; omega) (.int .i64 0)) (p := ⟨w.heap.size + 1, 2, none⟩) (by simp only; omega) (.bool true)) (p := ⟨w.heap.size + 1, 3, none⟩) (by simp only; omega) (.slice none 0 0)
              generalize World.setCell _ _ _ = W5 at hre hbe ⊢
              have hre' : Bk W5 (w.heap.size + 1) 58 #[.int .i64 0, .int .i64 0, .bool true, .slice none 0 0] := hre
              exact bodyPost_ret (results_at (fn := Try.f84) (k := 2) rfl rfl hre') rfl (⟨0, 0, true, none, 0, 0, rfl, hbe, .inl ⟨HN.out, rfl⟩⟩)
            | some bb =>
              have hk := boxS_ok d x (deep - 1) bb HPX.out hbx
              have hsame : big = false ∧ sz = bb.size ∧ ag = bb.align := by
                rcases HX.out with ⟨h, _⟩ | ⟨b', h, e1, e2, e3, _⟩
                · rw [hbx] at h; cases h
                · rw [hbx] at h; cases h; exact ⟨e1, e2, e3⟩
              obtain ⟨rfl, rfl, rfl⟩ := hsame
              have HBA2 := Lib.hid (show boxS (d + 1) t = (if 65536 < n ∨ 65536 < bb.size * n then none else some { size := bb.size * n, align := bb.align, l := [] }) by rw [HBA.out, hbx])
              clear hbx HX
              obtain ⟨xsz, xag, xl⟩ := bb
              obtain ⟨k1, k2, k3, k4⟩ := hk
              dsimp only at k1 k2 k3 k4 x0 x1 hX2
              by_cases hb1 : 65536 < n
              · have HN := Lib.hid (show boxS (d + 1) t = none by rw [HBA2.out, if_pos (.inl hb1)])
                go_wp2_with fail
                have hre := ((((hR2).set_ 0 (.int .i64 0)).set_ 1 (.int .i64 0)).set_ 2 (.bool true)).set_ 3 (.slice none 0 0)
                have hbe := bel_set (bel_set (bel_set (bel_set (hB2) (p := ⟨w.heap.size + 1, 0, none⟩) (by simp only; omega) (.int .i64 0)) (p := ⟨w.heap.size + 1, 1, none⟩) (by simp only; omega) (.int .i64 0)) (p := ⟨w.heap.size + 1, 2, none⟩) (by simp only; omega) (.bool true)) (p := ⟨w.heap.size + 1, 3, none⟩) (by simp only; omega) (.slice none 0 0)
                generalize World.setCell _ _ _ = W5 at hre hbe ⊢
                have hre' : Bk W5 (w.heap.size + 1) 58 #[.int .i64 0, .int .i64 0, .bool true, .slice none 0 0] := hre
                exact bodyPost_ret (results_at (fn := Try.f84) (k := 2) rfl rfl hre') rfl (⟨0, 0, true, none, 0, 0, rfl, hbe, .inl ⟨HN.out, rfl⟩⟩)
              · have hp1 : 0 ≤ xsz * n := Int.mul_nonneg (by omega) (by omega)
                have hp2 : xsz * n ≤ 65536 * 65536 := Int.mul_le_mul k2 (by omega) (by omega) (by omega)
                by_cases hb2 : 65536 < xsz * n
                · have HN := Lib.hid (show boxS (d + 1) t = none by rw [HBA2.out, if_pos (.inr hb2)])
                  go_wp2_with fail
                  have hre := ((((hR2).set_ 0 (.int .i64 0)).set_ 1 (.int .i64 0)).set_ 2 (.bool true)).set_ 3 (.slice none 0 0)
                  have hbe := bel_set (bel_set (bel_set (bel_set (hB2) (p := ⟨w.heap.size + 1, 0, none⟩) (by simp only; omega) (.int .i64 0)) (p := ⟨w.heap.size + 1, 1, none⟩) (by simp only; omega) (.int .i64 0)) (p := ⟨w.heap.size + 1, 2, none⟩) (by simp only; omega) (.bool true)) (p := ⟨w.heap.size + 1, 3, none⟩) (by simp only; omega) (.slice none 0 0)
                  generalize World.setCell _ _ _ = W5 at hre hbe ⊢
                  have hre' : Bk W5 (w.heap.size + 1) 58 #[.int .i64 0, .int .i64 0, .bool true, .slice none 0 0] := hre
                  exact bodyPost_ret (results_at (fn := Try.f84) (k := 2) rfl rfl hre') rfl (⟨0, 0, true, none, 0, 0, rfl, hbe, .inl ⟨HN.out, rfl⟩⟩)
                · have HN := Lib.hid (show boxS (d + 1) t = some { size := xsz * n, align := xag, l := [] } by rw [HBA2.out, if_neg (by simp only; omega)])
                  go_wp2_with fail
                  have hre := ((((hR2).set_ 0 (.int .i64 (xsz * n))).set_ 1 (.int .i64 xag)).set_ 2 (.bool false)).set_ 3 (.slice none 0 0)
                  have hbe := bel_set (bel_set (bel_set (bel_set (hB2) (p := ⟨w.heap.size + 1, 0, none⟩) (by simp only; omega) (.int .i64 (xsz * n))) (p := ⟨w.heap.size + 1, 1, none⟩) (by simp only; omega) (.int .i64 xag)) (p := ⟨w.heap.size + 1, 2, none⟩) (by simp only; omega) (.bool false)) (p := ⟨w.heap.size + 1, 3, none⟩) (by simp only; omega) (.slice none 0 0)
                  generalize World.setCell _ _ _ = W5 at hre hbe ⊢
                  have hre' : Bk W5 (w.heap.size + 1) 58 #[.int .i64 (xsz * n), .int .i64 xag, .bool false, .slice none 0 0] := hre
                  exact bodyPost_ret (results_at (fn := Try.f84) (k := 2) rfl rfl hre') rfl (box_of_end HN.out rfl rfl rfl hbe)
      · by_cases s45 : Nd.sh t = 4 ∨ Nd.sh t = 5
        · rw [show plainS (d + 1) t deep = _ from plain_45 hd s45] at hp
          simp only [Bool.and_eq_true, beq_iff_eq, decide_eq_true_eq] at hp
          obtain ⟨q1, q2, q3, q4, q5⟩ := hp
          have HBS := Lib.hid (show boxS (d + 1) t = _ from boxS_mem s45)
          have HW := Lib.hid (fun (w' : World) (hb : Below w.heap.size w w') => members_w hBC A1 A2 (Nd.sh t) (Nd.al t) c1 c2 (Nd.pk t) (Nd.fs t) (deep - 1) w' l2 m2 (FdsAt.below h2 hb) q4 q5)
          clear h1 h2 q4 q5
          rw [q1, q2, q3]
          obtain ⟨sh, hsh⟩ : ∃ x, Nd.sh t = x := ⟨_, rfl⟩
          rw [hsh] at s1 s2 s3 s45 HW HBS ⊢
          have n1 : (sh == 1) = false := by simpa using s1
          have n2 : (sh == 2) = false := by simpa using s2
          have n3 : (sh == 3) = false := by simpa using s3
          clear q1 q2 q3 hsh s1 s2 s3 s45
          go_enter Try.func84, Try.ntmps84
          go_wp2_with (go_at_call 113; refine (HW.out _ (bel_alloc (bel_alloc (Below.refl _ _) _) _)).mono ?_; rintro e w1 ⟨sz, ag, big, xA, xn, xc, rfl, hb1, hx⟩; have HB1 := Lib.hid hb1; have HX := Lib.hid hx; have hR1 := (Bk.new1 w _ 58 #[.int .i64 0, .int .i64 0, .bool false, .slice none 0 0]).below hb1 (by simp); clear hb1 hx; have z0 := hR1.at_ (i := 0) rfl; have z1 := hR1.at_ (i := 1) rfl; have z2 := hR1.at_ (i := 2) rfl; have z3 := hR1.at_ (i := 3) rfl; have f0 := hR1.frozen 0; have f1 := hR1.frozen 1; have f2 := hR1.frozen 2; have f3 := hR1.frozen 3)
          have hre := ((((hR1).set_ 0 (.int .i64 sz)).set_ 1 (.int .i64 ag)).set_ 2 (.bool big)).set_ 3 (.slice xA xn xc)
          have hbe := bel_set (bel_set (bel_set (bel_set (bel_then (bel_alloc (bel_alloc (Below.refl _ _) _) _) HB1.out) (p := ⟨w.heap.size + 1, 0, none⟩) (by simp only; omega) (.int .i64 sz)) (p := ⟨w.heap.size + 1, 1, none⟩) (by simp only; omega) (.int .i64 ag)) (p := ⟨w.heap.size + 1, 2, none⟩) (by simp only; omega) (.bool big)) (p := ⟨w.heap.size + 1, 3, none⟩) (by simp only; omega) (.slice xA xn xc)
          have hst := fun (ll : List Spt) (h : Spts (w.heap.size + 1 + 1) w1 xA xn ll) => ((((h).set_ (g := w.heap.size + 1) (by simp) 0 (.int .i64 sz)).set_ (g := w.heap.size + 1) (by simp) 1 (.int .i64 ag)).set_ (g := w.heap.size + 1) (by simp) 2 (.bool big)).set_ (g := w.heap.size + 1) (by simp) 3 (.slice xA xn xc)
          generalize World.setCell _ _ _ = W5 at hre hbe hst ⊢
          have hre' : Bk W5 (w.heap.size + 1) 58 #[.int .i64 sz, .int .i64 ag, .bool big, .slice xA xn xc] := hre
          refine bodyPost_ret (results_at (fn := Try.f84) (k := 2) rfl rfl hre') rfl ⟨sz, ag, big, xA, xn, xc, rfl, hbe, ?_⟩
          have hbs := HBS.out
          rcases HX.out with ⟨hn, hb⟩ | ⟨s, hs, e1, e2, e3, e4⟩
          · rw [hn] at hbs
            exact .inl ⟨hbs, hb⟩
          · rw [hs] at hbs
            simp only at hbs
            by_cases hbig : 65536 < closeS s
            · rw [if_pos hbig] at hbs
              exact .inl ⟨hbs, by rw [e3, decide_eq_true hbig]⟩
            · rw [if_neg hbig] at hbs
              exact .inr ⟨_, hbs, by rw [e3, decide_eq_false hbig], e1, e2, (hst _ (e4.less (by simp))).less (by omega)⟩
        · rw [show plainS (d + 1) t deep = _ from plain_else s1 s2 s3 (fun h => s45 (.inl h)) (fun h => s45 (.inr h))] at hp
          cases hp
theorem box_c : ∀ d, BoxC d
  | 0 => fun t => nomatch t
  | d + 1 => box_step (box_c d)
end Go.Proofs.Ytcggghamnmflcaa

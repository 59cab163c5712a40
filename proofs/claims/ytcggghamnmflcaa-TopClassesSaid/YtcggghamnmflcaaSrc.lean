/- The walk of the reference's plain: whatever type. -/
import Derived.Test.YtcggghamnmflcaaSrb
namespace Go.Proofs.Ytcggghamnmflcaa
open Go Go.RowKit Go.Shelf
section
variable {d : Nat} {t : Nd (Tp d)} {deep : Int}
theorem plain_low (h : deep < 1) : plainS (d + 1) t deep = false := by show (if deep < 1 then false else _) = _; rw [if_pos h]
theorem plain_1 (hd : 1 ≤ deep) (h : t.sh = 1) : plainS (d + 1) t deep = (bareS t && (isK t.k && (t.n == 0 && decide (t.of.length = 0)))) := by
  show (if deep < 1 then false else _) = _
  rw [if_neg (by omega), if_pos h, ← empty_len, Bool.and_assoc, Bool.and_assoc]
theorem plain_2 (hd : 1 ≤ deep) (h : t.sh = 2) : plainS (d + 1) t deep = (bareS t && (t.k == 0 && (t.n == 0 && decide (t.of.length = 0)))) := by
  show (if deep < 1 then false else _) = _
  rw [if_neg (by omega), if_neg (by omega), if_pos h, ← empty_len, Bool.and_assoc, Bool.and_assoc]
theorem plain_3no (hd : 1 ≤ deep) (h : t.sh = 3) (hx : (bareS t && (t.k == 0 && (decide (1 ≤ t.n) && decide (t.of.length = 1)))) = false) : plainS (d + 1) t deep = false := by
  show (if deep < 1 then false else _) = _
  rw [if_neg (by omega), if_neg (by omega), if_neg (by omega), if_pos h]
  match hof : t.of with
  | [x] =>
    rw [hof] at hx
    simp only [List.length_cons, List.length_nil, Nat.zero_add, decide_true, Bool.and_true] at hx
    rw [Bool.and_assoc, Bool.and_assoc, ← Bool.and_assoc (t.k == 0), ← Bool.and_assoc (bareS t), hx, Bool.false_and]
  | [] => simp
  | _ :: _ :: _ => simp
theorem plain_3 {x : Tp d} (hd : 1 ≤ deep) (h : t.sh = 3) (hb : bareS t = true) (hk : t.k = 0) (hn : 1 ≤ t.n) (ho : t.of = [x]) : plainS (d + 1) t deep = plainS d x (deep - 1) := by
  show (if deep < 1 then false else _) = _
  rw [if_neg (by omega), if_neg (by omega), if_neg (by omega), if_pos h, hb, hk, ho, decide_eq_true hn]; simp
theorem plain_45 (hd : 1 ≤ deep) (h : t.sh = 4 ∨ t.sh = 5) : plainS (d + 1) t deep = (t.k == 0 && (t.n == 0 && (decide (t.of.length = 0) && (isAlignS t.al && fieldsS d t.fs (deep - 1))))) := by
  rw [plainS_cmp h hd, ← empty_len]
  unfold fieldsS
  simp only [Bool.and_assoc]
  rfl
theorem plain_else (h1 : t.sh ≠ 1) (h2 : t.sh ≠ 2) (h3 : t.sh ≠ 3) (h4 : t.sh ≠ 4) (h5 : t.sh ≠ 5) : plainS (d + 1) t deep = false := by
  show (if deep < 1 then false else _) = _
  by_cases hd : deep < 1
  · rw [if_pos hd]
  · rw [if_neg hd, if_neg h1, if_neg h2, if_neg h3, if_neg (by omega)]
end
set_option maxRecDepth 100000 in
set_option maxHeartbeats 4000000 in
theorem plain_any (deep : Int) (hdq : deep ≤ 100) (hL : 1 ≤ deep → RefC (deep - 1)) : RefC deep := by
  intro d t v0 v1 v2 v3 v4 v5 v6 w ht
  cases d with
  | zero => exact nomatch t
  | succ d =>
    obtain ⟨A1, A2, c1, c2, rfl, rfl, rfl, rfl, rfl, rfl, rfl, b1, b2, b3, b4, l1, l2, m1, m2, h1, h2⟩ := ht.fds
    clear ht
    have HO := Lib.hid h1
    have HF := Lib.hid h2
    clear h1 h2
    obtain ⟨nf, hnf⟩ : ∃ x, (Nd.fs t).length = x := ⟨_, rfl⟩
    obtain ⟨no, hno⟩ : ∃ x, (Nd.of t).length = x := ⟨_, rfl⟩
    obtain ⟨sh, hsh⟩ : ∃ x, Nd.sh t = x := ⟨_, rfl⟩
    obtain ⟨k, hk⟩ : ∃ x, Nd.k t = x := ⟨_, rfl⟩
    obtain ⟨n, hn⟩ : ∃ x, Nd.n t = x := ⟨_, rfl⟩
    obtain ⟨pk, hpk⟩ : ∃ x, Nd.pk t = x := ⟨_, rfl⟩
    obtain ⟨al, hal⟩ : ∃ x, Nd.al t = x := ⟨_, rfl⟩
    have HFS := Lib.hid (fun (hd : 1 ≤ deep) (w' : World) (hb : Below w.heap.size w w') => fields_c (deep - 1) (hL hd) A2 c2 (Nd.fs t) w' (HF.out.below hb) l2 m2)
    rw [hnf] at l2 HFS
    rw [hno] at l1
    rw [hsh] at b1; rw [hk] at b2; rw [hn] at b3; rw [hal] at b4
    rw [hnf, hno, hsh, hk, hn, hpk, hal]
    have HNO := Lib.hid hno
    have HSH := Lib.hid hsh
    have HK := Lib.hid hk
    have HN := Lib.hid hn
    have HAL := Lib.hid hal
    have HBR := Lib.hid (show bareS t = (decide (nf = 0) && (!pk && al == 0)) by
      unfold bareS
      rw [hpk, hal, ← hnf, Bool.and_assoc]
      cases Nd.fs t <;> simp)
    clear hnf hno hsh hk hn hpk hal
    by_cases hd : deep < 1
    · have HP := Lib.hid (plain_low (t := t) hd)
      go_enter Try.func83, Try.ntmps83
      go_wp2_with fail
      go_ret
      exact ⟨by rw [HP.out]; rfl, bel_alloc (Below.refl _ _) _⟩
    have hd1 : 1 ≤ deep := by omega
    go_enter Try.func83, Try.ntmps83
    go_upto_region 3 with (fail)
    have hT : Bk (w.alloc (.cells #[.int .i64 sh, .int .i64 k, .int .i64 n, .slice A1 no c1, .slice A2 nf c2, .bool pk, .int .i64 al] 38)) w.heap.size 38 #[.int .i64 sh, .int .i64 k, .int .i64 n, .slice A1 no c1, .slice A2 nf c2, .bool pk, .int .i64 al] := Bk.new w _ _
    have hB : Below w.heap.size w (w.alloc (.cells #[.int .i64 sh, .int .i64 k, .int .i64 n, .slice A1 no c1, .slice A2 nf c2, .bool pk, .int .i64 al] 38)) := bel_alloc (Below.refl _ _) _
    generalize World.alloc _ _ = W at hT hB ⊢
    have q0 := hT.at_ (i := 0) rfl
    have q1 := hT.at_ (i := 1) rfl
    have q2 := hT.at_ (i := 2) rfl
    have q3 := hT.at_ (i := 3) rfl
    have q4 := hT.at_ (i := 4) rfl
    have q5 := hT.at_ (i := 5) rfl
    have q6 := hT.at_ (i := 6) rfl
    have s1 := hT.lt
    go_cut [5] from 6 (fun s5 wx => s5 = .bool (decide (nf = 0) && (!pk && al == 0)) ∧ wx = W)
    case first =>
      cases nf with
      | succ nf =>
        go_wp2_with fail
        go_meet
        case rel => exact ⟨by simp, rfl⟩
      | zero =>
        cases pk with
        | true =>
          go_wp2_with fail
          go_meet
          case rel => exact ⟨rfl, rfl⟩
        | false =>
          go_wp2_with fail
          go_meet
          case rel => exact ⟨rfl, rfl⟩
    case rest =>
      obtain ⟨rfl, rfl⟩ := hcut
      obtain ⟨bare, hbare⟩ : ∃ x, (decide (nf = 0) && (!pk && al == 0)) = x := ⟨_, rfl⟩
      rw [hbare]
      have HB := Lib.hid (HBR.out.trans hbare)
      clear hbare
      by_cases h1 : sh = 1
      · subst h1
        cases bare with
        | false =>
          have HP := Lib.hid (show plainS (d + 1) t deep = false by rw [plain_1 hd1 HSH.out, HB.out]; rfl)
          go_wp2_with fail
          go_ret
          exact ⟨ret_b HP.out.symm, hB⟩
        | true =>
          cases e1 : isK k with
          | false =>
            have HIS := Lib.hid e1
            have HP := Lib.hid (show plainS (d + 1) t deep = false by rw [plain_1 hd1 HSH.out, HB.out, HK.out, HN.out, HNO.out, e1]; rfl)
            go_wp2_with (go_at_call 105; (with_reducible refine (ris_c _ _).mono ?_); rintro e w' ⟨rfl, rfl⟩; rw [HIS.out])
            go_ret
            exact ⟨ret_b HP.out.symm, hB⟩
          | true =>
            have HIS := Lib.hid e1
            cases e2 : (n == 0) with
            | false =>
              have HP := Lib.hid (show plainS (d + 1) t deep = false by rw [plain_1 hd1 HSH.out, HB.out, HK.out, HN.out, HNO.out, e1, e2]; rfl)
              go_wp2_with (go_at_call 105; (with_reducible refine (ris_c _ _).mono ?_); rintro e w' ⟨rfl, rfl⟩; rw [HIS.out])
              go_ret
              exact ⟨ret_b HP.out.symm, hB⟩
            | true =>
              by_cases e3 : no = 0
              · subst e3
                have HP := Lib.hid (show plainS (d + 1) t deep = true by rw [plain_1 hd1 HSH.out, HB.out, HK.out, HN.out, HNO.out, e1, e2]; rfl)
                go_wp2_with (go_at_call 105; (with_reducible refine (ris_c _ _).mono ?_); rintro e w' ⟨rfl, rfl⟩; rw [HIS.out])
                go_ret
                exact ⟨ret_b HP.out.symm, hB⟩
              · have e3' : ((no : Int) == 0) = false := by simp; omega
                have HP := Lib.hid (show plainS (d + 1) t deep = false by rw [plain_1 hd1 HSH.out, HB.out, HK.out, HN.out, HNO.out, e1, e2, decide_eq_false e3]; rfl)
                go_wp2_with (go_at_call 105; (with_reducible refine (ris_c _ _).mono ?_); rintro e w' ⟨rfl, rfl⟩; rw [HIS.out])
                go_ret
                exact ⟨ret_b HP.out.symm, hB⟩
      by_cases h2 : sh = 2
      · subst h2
        clear h1
        cases bare with
        | false =>
          have HP := Lib.hid (show plainS (d + 1) t deep = false by rw [plain_2 hd1 HSH.out, HB.out]; rfl)
          go_wp2_with fail
          go_ret
          exact ⟨ret_b HP.out.symm, hB⟩
        | true =>
          cases e1 : (k == 0) with
          | false =>
            have HP := Lib.hid (show plainS (d + 1) t deep = false by rw [plain_2 hd1 HSH.out, HB.out, HK.out, HN.out, HNO.out, e1]; rfl)
            go_wp2_with (fail)
            go_ret
            exact ⟨ret_b HP.out.symm, hB⟩
          | true =>
            cases e2 : (n == 0) with
            | false =>
              have HP := Lib.hid (show plainS (d + 1) t deep = false by rw [plain_2 hd1 HSH.out, HB.out, HK.out, HN.out, HNO.out, e1, e2]; rfl)
              go_wp2_with (fail)
              go_ret
              exact ⟨ret_b HP.out.symm, hB⟩
            | true =>
              by_cases e3 : no = 0
              · subst e3
                have HP := Lib.hid (show plainS (d + 1) t deep = true by rw [plain_2 hd1 HSH.out, HB.out, HK.out, HN.out, HNO.out, e1, e2]; rfl)
                go_wp2_with (fail)
                go_ret
                exact ⟨ret_b HP.out.symm, hB⟩
              · have e3' : ((no : Int) == 0) = false := by simp; omega
                have HP := Lib.hid (show plainS (d + 1) t deep = false by rw [plain_2 hd1 HSH.out, HB.out, HK.out, HN.out, HNO.out, e1, e2, decide_eq_false e3]; rfl)
                go_wp2_with (fail)
                go_ret
                exact ⟨ret_b HP.out.symm, hB⟩
      by_cases h3 : sh = 3
      · subst h3
        clear h1 h2
        cases bare with
        | false =>
          have HP := Lib.hid (plain_3no (t := t) hd1 HSH.out (by rw [HB.out]; rfl))
          go_wp2_with fail
          go_ret
          exact ⟨ret_b HP.out.symm, hB⟩
        | true =>
          cases e1 : (k == 0) with
          | false =>
            have e1' : (k != 0) = true := by rw [bne, e1]; rfl
            have HP := Lib.hid (plain_3no (t := t) hd1 HSH.out (by rw [HK.out, e1]; simp))
            go_wp2_with fail
            go_ret
            exact ⟨ret_b HP.out.symm, hB⟩
          | true =>
            obtain rfl : k = 0 := by simpa using e1
            clear e1
            by_cases e2 : n < 1
            · have HP := Lib.hid (plain_3no (t := t) hd1 HSH.out (by rw [HN.out, decide_eq_false (show ¬ 1 ≤ n by omega)]; simp))
              go_wp2_with fail
              go_ret
              exact ⟨ret_b HP.out.symm, hB⟩
            · by_cases e3 : no = 1
              · subst e3
                obtain ⟨x, hof⟩ : ∃ x, Nd.of t = [x] := List.length_eq_one_iff.1 HNO.out
                obtain ⟨b, o, xs, rfl, hxl, hrow, hxt⟩ := HO.out 0 x (by rw [hof]; rfl)
                have HP := Lib.hid (plain_3 (t := t) hd1 HSH.out HB.out HK.out (by rw [HN.out]; omega) hof)
                clear hof
                match xs, hxl with
                | [y0, y1, y2, y3, y4, y5, y6], _ =>
                  have hrow' := hrow.below hB
                  have HXT := Lib.hid (hxt.below hB)
                  clear hxt hrow
                  have r0 := hrow' 0 _ rfl
                  have r1 := hrow' 1 _ rfl
                  have r2 := hrow' 2 _ rfl
                  have r3 := hrow' 3 _ rfl
                  have r4 := hrow' 4 _ rfl
                  have r5 := hrow' 5 _ rfl
                  have r6 := hrow' 6 _ rfl
                  simp only [Nat.zero_mul, Nat.add_zero] at r0 r1 r2 r3 r4 r5 r6
                  have HL := Lib.hid (hL hd1)
                  clear hL hrow'
                  go_wp2_with (go_at_call 83; refine (HL.out d x _ _ _ _ _ _ _ _ HXT.out).mono ?_; rintro e w1 ⟨rfl, hb1⟩; have HB1 := Lib.hid hb1; clear hb1)
                  go_ret
                  exact ⟨ret_b HP.out.symm, bel_then hB HB1.out⟩
              · have e3' : ((no : Int) == 1) = false := by simp; omega
                have e3'' : ((no : Int) != 1) = true := by rw [bne, e3']; rfl
                have HP := Lib.hid (plain_3no (t := t) hd1 HSH.out (by rw [HNO.out, decide_eq_false e3]; simp))
                go_wp2_with fail
                go_ret
                exact ⟨ret_b HP.out.symm, hB⟩
      by_cases h45 : sh = 4 ∨ sh = 5
      · have HSS := Lib.hid (show Nd.sh t = 4 ∨ Nd.sh t = 5 by rw [HSH.out]; exact h45)
        clear h1 h2 h3
        rcases h45 with rfl | rfl
        all_goals
          cases e1 : (k == 0) with
          | false =>
            have e1' : (k != 0) = true := by rw [bne, e1]; rfl
            have HP := Lib.hid (show plainS (d + 1) t deep = false by rw [plain_45 hd1 HSS.out, HK.out, e1]; rfl)
            go_wp2_with fail
            go_ret
            exact ⟨ret_b HP.out.symm, hB⟩
          | true =>
            have e1' : (k != 0) = false := by rw [bne, e1]; rfl
            cases e2 : (n == 0) with
            | false =>
              have e2' : (n != 0) = true := by rw [bne, e2]; rfl
              have HP := Lib.hid (show plainS (d + 1) t deep = false by rw [plain_45 hd1 HSS.out, HK.out, HN.out, e1, e2]; rfl)
              go_wp2_with fail
              go_ret
              exact ⟨ret_b HP.out.symm, hB⟩
            | true =>
              have e2' : (n != 0) = false := by rw [bne, e2]; rfl
              by_cases e3 : no = 0
              · have HP3 := Lib.hid (show plainS (d + 1) t deep = (isAlignS al && fieldsS d (Nd.fs t) (deep - 1)) by rw [plain_45 hd1 HSS.out, HK.out, HN.out, HNO.out, HAL.out, e1, e2, decide_eq_true e3]; rfl)
                subst e3
                cases e4 : isAlignS al with
                | false =>
                  have HA4 := Lib.hid e4
                  have HP := Lib.hid (show plainS (d + 1) t deep = false by rw [HP3.out, e4]; rfl)
                  clear e4
                  go_wp2_with (go_at_call 111; (with_reducible refine (risAlign_c _ _).mono ?_); rintro e w' ⟨rfl, rfl⟩; rw [HA4.out])
                  go_ret
                  exact ⟨ret_b HP.out.symm, hB⟩
                | true =>
                  have HA4 := Lib.hid e4
                  have HP := Lib.hid (show plainS (d + 1) t deep = fieldsS d (Nd.fs t) (deep - 1) by rw [HP3.out, e4]; rfl)
                  clear e4
                  go_wp2_with (first | (go_at_call 111; (with_reducible refine (risAlign_c _ _).mono ?_); rintro e w' ⟨rfl, rfl⟩; rw [HA4.out]) | (go_at_call 112; refine (HFS.out hd1 _ hB).mono ?_; rintro e w1 ⟨rfl, hb1⟩; have HB1 := Lib.hid hb1; clear hb1))
                  go_ret
                  exact ⟨ret_b HP.out.symm, bel_then hB HB1.out⟩
              · have hpos : 0 < no := by omega
                have HP := Lib.hid (show plainS (d + 1) t deep = false by rw [plain_45 hd1 HSS.out, HK.out, HN.out, HNO.out, e1, e2, decide_eq_false e3]; rfl)
                go_wp2_with fail
                go_ret
                exact ⟨ret_b HP.out.symm, hB⟩
      · have HP := Lib.hid (plain_else (t := t) (deep := deep) (by rw [HSH.out]; exact h1) (by rw [HSH.out]; exact h2) (by rw [HSH.out]; exact h3) (by rw [HSH.out]; omega) (by rw [HSH.out]; omega))
        have n1 : (sh == 1) = false := by simpa using h1
        have n2 : (sh == 2) = false := by simpa using h2
        have n3 : (sh == 3) = false := by simpa using h3
        have n4 : (sh == 4) = false := by simp; omega
        have n5 : (sh == 5) = false := by simp; omega
        clear h1 h2 h3 h45
        go_wp2_with fail
        go_ret
        exact ⟨ret_b HP.out.symm, hB⟩
theorem plain_c (deep : Nat) (h : deep ≤ 100) : RefC deep := by
  induction deep with
  | zero => exact plain_any 0 (by omega) (fun h => by omega)
  | succ m ih => exact plain_any _ (by omega) (fun _ => by rw [show ((m + 1 : Nat) : Int) - 1 = (m : Int) by omega]; exact ih (by omega))
end Go.Proofs.Ytcggghamnmflcaa

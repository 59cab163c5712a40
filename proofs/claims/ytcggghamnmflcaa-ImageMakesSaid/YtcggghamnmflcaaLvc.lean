/- The iterator of shape.leaves at arrays. -/
import Derived.Test.YtcggghamnmflcaaLvb
import Derived.Test.YtcggghamnmflcaaSsa
import Derived.Sort.CutIn
import Derived.Deep.Cut
namespace Go.Proofs.Ytcggghamnmflcaa
open Go Go.RowKit Go.Shelf
attribute [local go_sem] wide_fn Oper.semAt_some
/-- An array's parts. -/
theorem arr_parts {d : Nat} {t : Nd (Tp d)} {b : Bx} (hs : t.sh = 3) (hp : plainS (d + 1) t 6 = true) (hb : boxS (d + 1) t = some b) : ∃ (x : Tp d) (bx : Bx), t.of = [x] ∧ bareS t = true ∧ t.k = 0 ∧ 1 ≤ t.n ∧ t.n ≤ 65536 ∧ plainS d x 6 = true ∧ boxS d x = some bx ∧ b = { size := bx.size * t.n, align := bx.align, l := [] } ∧ bx.size * t.n ≤ 65536 ∧ BxOk bx := by
  cases hx : (bareS t && (t.k == 0 && (decide (1 ≤ t.n) && decide (t.of.length = 1)))) with
  | false => rw [show plainS (d + 1) t 6 = _ from plain_3no (by omega) hs hx] at hp; cases hp
  | true =>
    simp only [Bool.and_eq_true, beq_iff_eq, decide_eq_true_eq] at hx
    obtain ⟨q1, q2, q3, q4⟩ := hx
    obtain ⟨x, hof⟩ := List.length_eq_one_iff.1 q4
    rw [show plainS (d + 1) t 6 = _ from plain_3 (by omega) hs q1 q2 q3 hof] at hp
    rw [show boxS (d + 1) t = _ from boxS_arr hs hof] at hb
    cases hbx : boxS d x with
    | none => rw [hbx] at hb; cases hb
    | some bx =>
      rw [hbx] at hb
      simp only at hb
      split at hb
      · cases hb
      · cases hb
        exact ⟨x, bx, hof, q1, q2, q3, by omega, plain_mono d x _ _ hp (by omega), hbx, rfl, by omega, boxS_ok d x _ bx hp hbx⟩
set_option maxRecDepth 100000 in
set_option maxHeartbeats 4000000 in
theorem lv_arr {d : Nat} (IH : LvC d) {w0 : World} {Lb Tb Fb : Nat} {t : Nd (Tp d)} {cs : List Value} {b : Bx} {fr : Int} {w : World} (h : LvH w0 Lb Tb Fb (d + 1) t cs b fr w) (hs : t.sh = 3) :
    SeqQ Try.prog w0.heap.size Lb 107 #[.pointer (some ⟨Tb, 0, none⟩), .pointer (some ⟨Fb, 0, none⟩)] Spt.encs (leavesS (d + 1) t fr) w := by
  intro l J Jx W hT _ hJ hJx hY h0
  replace h := h.at_ hT
  clear hT
  obtain ⟨x, bx, hof, hbare, htk, g1, g2, hpx, hbx, hbe, g3, hok⟩ := arr_parts hs h.pl h.bx
  obtain ⟨A1, A2, c1, c2, hcs, hk, hn⟩ := h.ty.bare hbare
  subst hcs
  have h0e := (err_of h.pl (by omega) h.bx)
  have HL := fun w' (hb : Below W.heap.size W w') => lie6_c (h.ty.below (h.hw.trans (hb.mono h.hw.size)))
  rw [h0e.1, h0e.2.1] at HL
  have hX : leavesS (d + 1) t fr = (List.range t.n.toNat).flatMap fun (i : Nat) => leavesS d x (fr + 8 * bx.size * i) := by
    show (if Nd.sh t = 1 then _ else _) = _
    rw [if_neg (by omega), if_neg (by omega), if_pos hs, hof]
    show (List.range t.n.toNat).flatMap (fun (i : Nat) => leavesS d x (fr + 8 * bsz d x * i)) = _
    have : bsz d x = bx.size := by unfold bsz; rw [(err_of hpx (by omega) hbx).2.1]
    rw [this]
  obtain ⟨X, hXX⟩ : ∃ X, leavesS (d + 1) t fr = X := ⟨_, rfl⟩
  rw [hXX] at hX ⊢
  have hTX : TysAt w0 d A1 [x] := by
    have := h.ty
    obtain ⟨B1, B2, e1, e2, hcs, _, _, _, _, _, _, _, _, hty, _⟩ := this
    simp only [List.cons.injEq, Value.slice.injEq] at hcs
    rw [hof] at hty
    obtain ⟨rfl, _⟩ := hcs.2.2.2.1
    exact hty
  have tb := h.tb
  have fb := h.fb
  have ofl : t.of.length = 1 := by rw [hof]; rfl
  obtain ⟨sh, hsh⟩ : ∃ x, t.sh = x := ⟨_, rfl⟩
  obtain ⟨n, hnn⟩ : ∃ x, t.n = x := ⟨_, rfl⟩
  rw [hsh] at hs
  subst hs
  rw [hsh, htk, hnn, ofl] at tb
  obtain ⟨sz, hsz⟩ : ∃ sz, b.size = sz := ⟨_, rfl⟩
  obtain ⟨ag, hag⟩ : ∃ ag, b.align = ag := ⟨_, rfl⟩
  obtain ⟨z, hz⟩ : ∃ z, bx.size = z := ⟨_, rfl⟩
  have hbl : b.l = [] := by rw [hbe]
  have hszz : sz = z * n := by rw [← hsz, hbe, hnn, hz]
  rw [hsz, hag, hbl] at HL
  rw [hsh, htk, hnn, ofl] at HL
  rw [hnn, hz] at hX g3
  rw [hnn] at g1 g2
  have hz1 : 1 ≤ z := by have := hok.1; omega
  have hz2 : z ≤ 65536 := by have := hok.2.1; omega
  have hs1 : 1 ≤ sz := by rw [hszz]; exact Int.mul_pos (by omega) (by omega)
  have hs2 : sz ≤ 65536 := by omega
  have hone : 8 * sz / n = 8 * z := by
    rw [hszz, ← Int.mul_assoc]
    exact Int.mul_ediv_cancel _ (by omega)
  have HH := Lib.hid h
  replace HL := Lib.hid HL
  have HX := Lib.hid hX
  have HY := Lib.hid hY
  have HONE := Lib.hid hone
  have HSZ := Lib.hid hszz
  have HTX := Lib.hid hTX
  have HPX := Lib.hid hpx
  have HBX := Lib.hid hbx
  have HZ := Lib.hid hz
  have h1 := h.f0
  have h2 := h.f1
  rw [hsz] at h2
  have hTb := tb.lt
  have hFb := fb.lt
  have t0 := tb.at_ (i := 0) rfl
  have t1 := tb.at_ (i := 1) rfl
  have t2 := tb.at_ (i := 2) rfl
  have t3 := tb.at_ (i := 3) rfl
  have t4 := tb.at_ (i := 4) rfl
  have t5 := tb.at_ (i := 5) rfl
  have t6 := tb.at_ (i := 6) rfl
  have f0 := fb.at_ (i := 0) rfl
  clear hY hsh hnn hsz h0e hXX hX h hk hn hof hbare htk hbe hbl hszz hone hTX hpx hbx hz hag hok ofl
  refine (callsIn_wide (n := 9)).1 (callsIn_of_wp_marks Try.func107 rfl trivial ?_ rfl)
  simp only [Try.ntmps107, List.size_toArray, List.length_cons, List.length_nil, Nat.reduceAdd, Nat.reduceSub, Array.replicate_succ, Array.replicate_zero, List.push_toArray, List.append_toArray, List.nil_append, List.cons_append]
  gi_wp2_with fail
  refine (callsIn_wide.2 (HL.out _ (bel_alloc (Below.refl _ _) _))).mono ?_
  rintro e w1 ⟨sz', ag', A, nn, c, rfl, hx, hb1⟩
  obtain ⟨e1, e2, hsp⟩ := hx trivial
  subst e1 e2
  have hb1' := bel_then (bel_alloc (Below.refl W.heap.size W) (.cells #[.func (.yield l) #[] #[]] 93)) hb1
  have hbV := bel_alloc hb1' (.cells #[.int .i64 sz', .int .i64 ag', .slice A nn c] 99)
  have hw1 : W.heap.size < w1.heap.size := by have := hb1.size; simp at this; omega
  have hTb1 : Tb < w1.heap.size := by omega
  have hFb1 : Fb < w1.heap.size := by omega
  have trV : TrQ w0.heap.size Lb W (w1.alloc (.cells #[.int .i64 sz', .int .i64 ag', .slice A nn c] 99)) := (TrQ.refl HH.out.ok).step (B0 := 0) (KpQ.of_below hbV HH.out.hw.size HH.out.lb)
  have hJV : J [] (w1.alloc (.cells #[.int .i64 sz', .int .i64 ag', .slice A nn c] 99)) := hJ [] W _ none h0 (grown_none hbV) (by simp)
  have HHV := Lib.hid (HH.out.at_ trV)
  have HY93 := Lib.hid (((Bk.new W 93 #[.func (.yield l) #[] #[]]).below hb1 (by simp)).alloc (.cells #[.int .i64 sz', .int .i64 ag', .slice A nn c] 99))
  replace t0 := bel_cell hb1' t0
  replace t2 := bel_cell hb1' t2
  have HVB := Lib.hid hbV
  have HTB := Lib.hid (tb.below hbV tb.lt)
  clear t1 t3 t4 t5 t6 f0 hb1 tb fb hsp hbV hx hb1'
  gi_wp2_with fail
  obtain ⟨V, hV⟩ : ∃ V, w1.alloc (.cells #[.int .i64 sz', .int .i64 ag', .slice A nn c] 99) = V := ⟨_, rfl⟩
  obtain ⟨o1, ho1⟩ : ∃ o1, 8 * sz' / n = o1 := ⟨_, rfl⟩
  have HO := Lib.hid (show 8 * z = o1 by rw [← ho1]; exact HONE.out.symm)
  have HOS := Lib.hid (show o1 * n = 8 * sz' by rw [← HO.out, HSZ.out, Int.mul_assoc])
  rw [hV] at hJV HHV HVB HY93 HTB ⊢
  rw [ho1]
  have hVs : V.heap.size = w1.heap.size + 1 := by rw [← hV]; simp
  clear hV ho1 HONE t0 t2 trV
  have hL0 := HHV.out.lb
  have hn0 : w0.heap.size ≤ V.heap.size := HHV.out.hw.size
  have hWV : W.heap.size ≤ V.heap.size := by omega
  obtain ⟨N, hN⟩ : ∃ N : Nat, n.toNat = N := ⟨_, rfl⟩
  have hnN : n = (N : Int) := by omega
  have HN := Lib.hid hN
  subst hnN
  clear hN
  have LQ0 : LoopQ J w0.heap.size Lb W.heap.size V [] [] V := ⟨hJV, TrQ.refl HHV.out.ok, List.nodup_nil, fun D hD => by simp at hD⟩
  obtain ⟨I, hI⟩ : ∃ I : Act → World → Prop, I = (fun a V' => ∃ (j : Nat) (ds : List Nat) (pre : List Spt) (u7 u51 u52 u53 u54 u55 u56 u57 u58 u59 u60 u61 u62 u63 u64 u65 u66 u67 u68 : Value), j ≤ N ∧ a = ⟨(List.toArray ((.func (.yield l) #[] #[]) :: (.pointer (some ⟨Tb, 0, none⟩)) :: (.pointer (some ⟨Fb, 0, none⟩)) :: (.pointer (some ⟨W.heap.size, 0, none⟩)) :: (.pointer (some ⟨w1.heap.size, 0, none⟩)) :: (.int .i64 0) :: (.int .i64 (o1)) :: (u7) :: (undef) :: (undef) :: (undef) :: (undef) :: (undef) :: (.tuple #[.agg #[.int .i64 sz', .int .i64 ag', .slice A nn c], .int .i64 0]) :: (.agg #[.int .i64 3, .int .i64 0, .int .i64 N, .slice A1 1 c1, .slice A2 0 c2, .bool false, .int .i64 0]) :: (.tuple #[.agg #[.int .i64 sz', .int .i64 ag', .slice A nn c], .int .i64 0]) :: (.agg #[.int .i64 sz', .int .i64 ag', .slice A nn c]) :: (.int .i64 0) :: (.pointer (some ⟨Tb, 0, none⟩)) :: (.int .i64 3) :: (.bool false) :: (.bool false) :: (undef) :: (undef) :: (undef) :: (undef) :: (undef) :: (undef) :: (undef) :: (undef) :: (undef) :: (.bool false) :: (.bool false) :: (undef) :: (undef) :: (undef) :: (undef) :: (undef) :: (undef) :: (undef) :: (.bool true) :: (.bool true) :: (.pointer (some ⟨w1.heap.size, 0, none⟩)) :: (.int .i64 sz') :: (.int .i64 (8 * sz')) :: (.pointer (some ⟨Tb, 2, none⟩)) :: (.int .i64 N) :: (.int .i64 (o1)) :: (.pointer (some ⟨Tb, 2, none⟩)) :: (.int .i64 N) :: (.int .i64 j) :: (u51) :: (u52) :: (u53) :: (u54) :: (u55) :: (u56) :: (u57) :: (u58) :: (u59) :: (u60) :: (u61) :: (u62) :: (u63) :: (u64) :: (u65) :: (u66) :: (u67) :: (u68) :: (undef) :: (undef) :: (undef) :: (undef) :: (undef) :: (undef) :: (undef) :: (undef) :: (undef) :: (undef) :: (undef) :: (undef) :: (undef) :: (undef) :: (undef) :: (undef) :: (undef) :: (undef) :: (undef) :: (undef) :: (undef) :: (undef) :: (undef) :: (undef) :: (undef) :: (undef) :: (undef) :: (undef) :: (undef) :: (undef) :: (undef) :: (undef) :: (undef) :: (undef) :: (undef) :: (undef) :: (undef) :: (undef) :: (undef) :: (undef) :: (undef) :: [])), ds.map markQ⟩ ∧ pre = ((List.range j).flatMap fun (i : Nat) => leavesS d x (fr + 8 * z * i)) ∧ LoopQ J w0.heap.size Lb W.heap.size V ds pre V') := ⟨_, rfl⟩
  obtain ⟨mu, hmu⟩ : ∃ mu : Act → World → Nat, mu = (fun a _ => N - (intOf (a.tmps.getD 50 undef)).toNat) := ⟨_, rfl⟩
  have hI0 : I ⟨(List.toArray ((.func (.yield l) #[] #[]) :: (.pointer (some ⟨Tb, 0, none⟩)) :: (.pointer (some ⟨Fb, 0, none⟩)) :: (.pointer (some ⟨W.heap.size, 0, none⟩)) :: (.pointer (some ⟨w1.heap.size, 0, none⟩)) :: (.int .i64 0) :: (.int .i64 (o1)) :: (undef) :: (undef) :: (undef) :: (undef) :: (undef) :: (undef) :: (.tuple #[.agg #[.int .i64 sz', .int .i64 ag', .slice A nn c], .int .i64 0]) :: (.agg #[.int .i64 3, .int .i64 0, .int .i64 N, .slice A1 1 c1, .slice A2 0 c2, .bool false, .int .i64 0]) :: (.tuple #[.agg #[.int .i64 sz', .int .i64 ag', .slice A nn c], .int .i64 0]) :: (.agg #[.int .i64 sz', .int .i64 ag', .slice A nn c]) :: (.int .i64 0) :: (.pointer (some ⟨Tb, 0, none⟩)) :: (.int .i64 3) :: (.bool false) :: (.bool false) :: (undef) :: (undef) :: (undef) :: (undef) :: (undef) :: (undef) :: (undef) :: (undef) :: (undef) :: (.bool false) :: (.bool false) :: (undef) :: (undef) :: (undef) :: (undef) :: (undef) :: (undef) :: (undef) :: (.bool true) :: (.bool true) :: (.pointer (some ⟨w1.heap.size, 0, none⟩)) :: (.int .i64 sz') :: (.int .i64 (8 * sz')) :: (.pointer (some ⟨Tb, 2, none⟩)) :: (.int .i64 N) :: (.int .i64 (o1)) :: (.pointer (some ⟨Tb, 2, none⟩)) :: (.int .i64 N) :: (.int .i64 0) :: (undef) :: (undef) :: (undef) :: (undef) :: (undef) :: (undef) :: (undef) :: (undef) :: (undef) :: (undef) :: (undef) :: (undef) :: (undef) :: (undef) :: (undef) :: (undef) :: (undef) :: (undef) :: (undef) :: (undef) :: (undef) :: (undef) :: (undef) :: (undef) :: (undef) :: (undef) :: (undef) :: (undef) :: (undef) :: (undef) :: (undef) :: (undef) :: (undef) :: (undef) :: (undef) :: (undef) :: (undef) :: (undef) :: (undef) :: (undef) :: (undef) :: (undef) :: (undef) :: (undef) :: (undef) :: (undef) :: (undef) :: (undef) :: (undef) :: (undef) :: (undef) :: (undef) :: (undef) :: (undef) :: (undef) :: (undef) :: (undef) :: (undef) :: (undef) :: [])), []⟩ V := by rw [hI]; exact ⟨0, [], [], _, _, _, _, _, _, _, _, _, _, _, _, _, _, _, _, _, _, _, Nat.zero_le _, rfl, rfl, LQ0⟩
  have HI := Lib.hid hI
  have HMU := Lib.hid hmu
  clear hI hmu LQ0 hJV h0
  refine wpIn_loop I mu hI0 ?_
  clear hI0
  intro a V' hIa
  rw [HI.out] at hIa
  obtain ⟨j, ds, pre, u7, u51, u52, u53, u54, u55, u56, u57, u58, u59, u60, u61, u62, u63, u64, u65, u66, u67, u68, hj, rfl, hpre, hLQ⟩ := hIa
  have hH := HHV.out.at_ hLQ.tr
  have HPRE := Lib.hid hpre
  clear hpre
  by_cases hlt : j < N
  · obtain ⟨ob, oo, v0, v1, v2, v3, v4, v5, v6, hA1, htx, q0, q1, q2, q3, q4, q5, q6⟩ := HTX.out.at_ (i := 0) rfl
    obtain ⟨xn, E1, E2, m1, m2, d1, d2, xpk, xal, hcs⟩ := htx.form
    simp only [List.cons.injEq, and_true] at hcs
    obtain ⟨rfl, rfl, rfl, rfl, rfl, rfl, rfl⟩ := hcs
    subst hA1
    simp only [Nat.zero_mul, Nat.add_zero] at q0 q1 q2 q3 q4 q5 q6
    replace q0 := bel_cell hH.hw q0
    replace q1 := bel_cell hH.hw q1
    replace q2 := bel_cell hH.hw q2
    replace q3 := bel_cell hH.hw q3
    replace q4 := bel_cell hH.hw q4
    replace q5 := bel_cell hH.hw q5
    replace q6 := bel_cell hH.hw q6
    have HTXX := Lib.hid htx
    have t3 := (hLQ.tr.bk HTB.out HHV.out.nt).1.at_ (i := 3) rfl
    have f0 := hH.fb.at_ (i := 0) rfl
    have p1 : (j : Int) * o1 + o1 ≤ 8 * sz' := by
      have h8 : (0 : Int) ≤ o1 := by have := HO.out; omega
      have := Int.mul_le_mul_of_nonneg_right (show (j : Int) + 1 ≤ N by omega) h8
      rw [Int.add_mul, Int.one_mul, Int.mul_comm (N : Int) o1, HOS.out] at this
      exact this
    have p2 : 8 ≤ o1 := by have := HO.out; omega
    have p0 : 0 ≤ (j : Int) * o1 := Int.mul_nonneg (by omega) (by omega)
    have p3 : (j : Int) * o1 ≤ 524288 := by omega
    clear htx
    gi_wp2_with fail
    refine wpIn_wide.2 (region_tail (C := fun w' => ∃ n, w' = V'.drewN n) 9 (by kernel_rfl) (by kernel_rfl) ⟨1, rfl⟩ ?_)
    simp only [List.take_succ_cons, List.take_zero, List.drop_succ_cons, List.drop_zero]
    repeat (go_big_quiet_step (fail))
    refine wpQuiet_nil ?_
    rintro _ ⟨nq, rfl⟩
    have hbq := bel_drewN (Below.refl V'.heap.size V') nq
    have hLQ2 := hLQ.below_ hJ (by have := hH.hw.size; omega) hH.lb hbq
    generalize World.drewN V' nq = Vq at hbq hLQ2 ⊢
    clear t3 f0 q0 q1 q2 q3 q4 q5 q6 hLQ hH hbq
    go_wp2_with fail
    refine (leaves76_c _ _ _ _ _ _ _ _ _ _ _ _ _).mono ?_
    rintro e w2 ⟨rfl, hw2⟩
    go_wp2_with fail
    refine wpIn_block ?_
    have hsz2 : w2.heap.size = Vq.heap.size + 2 := by rw [← hw2]; simp
    have hbw2 : Below Vq.heap.size Vq w2 := by rw [← hw2]; exact bel_alloc (bel_alloc (Below.refl _ _) _) _
    have hTb2 : Bk w2 Vq.heap.size 38 #[.int .i64 (tsh d x), .int .i64 (tk d x), .int .i64 xn, .slice E1 m1 d1, .slice E2 m2 d2, .bool xpk, .int .i64 xal] := by rw [← hw2]; exact (Bk.new Vq _ _).alloc _
    have hFb2 : Bk w2 (Vq.heap.size + 1) 2 #[.int .i64 (fr + ↑j * o1)] := by rw [← hw2]; exact Bk.new1 Vq _ _ _
    clear hw2
    have hVq := hLQ2.tr
    have hHq := HHV.out.at_ hVq
    have hLQ3 := hLQ2.below_ hJ (by have := hHq.hw.size; omega) hHq.lb hbw2
    have hH2 := HHV.out.at_ hLQ3.tr
    have hLv : LvH w0 Lb Vq.heap.size (Vq.heap.size + 1) d x [.int .i64 (tsh d x), .int .i64 (tk d x), .int .i64 xn, .slice E1 m1 d1, .slice E2 m2 d2, .bool xpk, .int .i64 xal] bx (fr + ↑j * o1) w2 :=
      ⟨hH2.hw, HTXX.out, HPX.out, HBX.out, by omega, by have := HZ.out; have := HO.out; omega, hTb2, not_mine_new hVq.ok (hbw2.block Lb hHq.lb) (Nat.le_refl _), hFb2, not_mine_new hVq.ok (hbw2.block Lb hHq.lb) (Nat.le_succ _), hH2.ok, hH2.lb⟩
    have hseq := IH w0 Lb _ _ x _ bx _ w2 hLv
    have hsV := hVq.bel.size
    refine range_qi (α := Spt) (gf := 107) (lb := #[.pointer (some ⟨Vq.heap.size, 0, none⟩), .pointer (some ⟨Vq.heap.size + 1, 0, none⟩)]) rfl (enters_of Try.func107 (by kernel_rfl) rfl) hseq (by omega) hH2.lb hH2.ok (fun _ => rfl)
      (fun p V' => LoopQ J w0.heap.size Lb W.heap.size V ds (pre ++ p) V')
      (fun c p V' => c = .ret ∧ LoopQ Jx w0.heap.size Lb W.heap.size V ds (pre ++ p) V')
      (LoopQ.own hJ hn0 hL0 (by omega) (by omega) (fun D hD => (hLQ3.ma D hD).2.1)) ?hIx (by rw [List.append_nil]; exact hLQ3)
      (fun p y a' V' => LoopQ J w0.heap.size Lb W.heap.size V ds (pre ++ p) V' ∧ ∃ Bx, Bk V' Bx 48 #[.int .i64 y.bit, .int .i64 y.bits, .int .i64 y.k] ∧ a' = ⟨(List.toArray ((.func (.yield l) #[] #[]) :: (.pointer (some ⟨Tb, 0, none⟩)) :: (.pointer (some ⟨Fb, 0, none⟩)) :: (.pointer (some ⟨W.heap.size, 0, none⟩)) :: (.pointer (some ⟨w1.heap.size, 0, none⟩)) :: (.int .i64 0) :: (.int .i64 (o1)) :: (.int .i64 j) :: (.pointer (some ⟨Bx, 0, none⟩)) :: (undef) :: (undef) :: (undef) :: (undef) :: (.tuple #[.agg #[.int .i64 sz', .int .i64 ag', .slice A nn c], .int .i64 0]) :: (.agg #[.int .i64 3, .int .i64 0, .int .i64 N, .slice (some ⟨ob, oo, none⟩) 1 c1, .slice A2 0 c2, .bool false, .int .i64 0]) :: (.tuple #[.agg #[.int .i64 sz', .int .i64 ag', .slice A nn c], .int .i64 0]) :: (.agg #[.int .i64 sz', .int .i64 ag', .slice A nn c]) :: (.int .i64 0) :: (.pointer (some ⟨Tb, 0, none⟩)) :: (.int .i64 3) :: (.bool false) :: (.bool false) :: (undef) :: (undef) :: (undef) :: (undef) :: (undef) :: (undef) :: (undef) :: (undef) :: (undef) :: (.bool false) :: (.bool false) :: (undef) :: (undef) :: (undef) :: (undef) :: (undef) :: (undef) :: (undef) :: (.bool true) :: (.bool true) :: (.pointer (some ⟨w1.heap.size, 0, none⟩)) :: (.int .i64 sz') :: (.int .i64 (8 * sz')) :: (.pointer (some ⟨Tb, 2, none⟩)) :: (.int .i64 N) :: (.int .i64 (o1)) :: (.pointer (some ⟨Tb, 2, none⟩)) :: (.int .i64 N) :: (.int .i64 j) :: (.bool true) :: (.int .i64 j) :: (.pointer (some ⟨Tb, 3, none⟩)) :: (.slice (some ⟨ob, oo, none⟩) 1 c1) :: (.pointer (some ⟨ob, oo, none⟩)) :: (.agg #[.int .i64 (tsh d x), .int .i64 (tk d x), .int .i64 xn, .slice E1 m1 d1, .slice E2 m2 d2, .bool xpk, .int .i64 xal]) :: (.int .i64 fr) :: (.int .i64 j) :: (.int .i64 o1) :: (.int .i64 (j * o1)) :: (.int .i64 (fr + j * o1)) :: (.func (.func 107) #[] #[.pointer (some ⟨Vq.heap.size, 0, none⟩), .pointer (some ⟨Vq.heap.size + 1, 0, none⟩)]) :: (.agg #[.int .i64 y.bit, .int .i64 y.bits, .int .i64 y.k]) :: (u64) :: (u65) :: (u66) :: (u67) :: (u68) :: (undef) :: (undef) :: (undef) :: (undef) :: (undef) :: (undef) :: (undef) :: (undef) :: (undef) :: (undef) :: (undef) :: (undef) :: (undef) :: (undef) :: (undef) :: (undef) :: (undef) :: (undef) :: (undef) :: (undef) :: (undef) :: (undef) :: (undef) :: (undef) :: (undef) :: (undef) :: (undef) :: (undef) :: (undef) :: (undef) :: (undef) :: (undef) :: (undef) :: (undef) :: (undef) :: (undef) :: (undef) :: (undef) :: (undef) :: (undef) :: (undef) :: [])), []⟩)
      ?hAx ?assign ?body ?done ?stop
    case hIx =>
      intro c s A C row h hg hr
      exact ⟨h.1, LoopQ.own hJx hn0 hL0 (by omega) (by omega) (fun D hD => (hLQ3.ma D hD).2.1) s A C row h.2 hg hr⟩
    case hAx =>
      rintro p y a' s A C row ⟨h1, Bx, h3, h4⟩ hg hr
      exact ⟨LoopQ.own hJ hn0 hL0 (by omega) (by omega) (fun D hD => (hLQ3.ma D hD).2.1) p A C row h1 hg hr, Bx, h3.kept hg (fun r e => (hr r e).2), h4⟩
    case assign =>
      intro r p y V' K hi hK
      have hHi := HHV.out.at_ hi.tr
      have hb := bel_alloc (Below.refl V'.heap.size V') (.cells #[.int .i64 y.bit, .int .i64 y.bits, .int .i64 y.k] 48)
      have hsv := hi.tr.bel.size
      simp only [Spt.encs, List.zip_toArray, List.zip_cons_cons, List.zip_nil_right, List.foldl_toArray', List.size_toArray, List.length_cons, List.length_nil, Nat.reduceAdd, List.foldl_cons, List.foldl_nil, List.setIfInBounds_toArray, List.set_cons_succ, List.set_cons_zero] at hK ⊢
      gi_wp2_with fail
      exact hK _ _ (KpQ.of_below hb hHi.hw.size hHi.lb) ⟨hi.below_ hJ hHi.hw.size hHi.lb hb, V'.heap.size, Bk.new _ _ _, rfl⟩
    case body =>
      rintro r p y a' V' hr ⟨hL, Bx, hBx, rfl⟩
      have y0 := (hL.tr.bk HY93.out (not_mine_new HH.out.ok (HVB.out.block Lb HH.out.lb) (Nat.le_refl _))).1.at_ (i := 0) rfl
      have x0 := hBx.at_ (i := 0) rfl
      have x1 := hBx.at_ (i := 1) rfl
      have x2 := hBx.at_ (i := 2) rfl
      obtain ⟨fn, tmps, assign, body, hy, hR⟩ := yield_round (lr := r) (yield_any (m' := 7) (HY.out (pre ++ p) y V' hL.j))
      dsimp only [Spt.encs] at hy
      gi_wp2_with fail
      refine hR.mono ?_
      rintro e W3 (⟨rfl, hJ3, hk3⟩ | ⟨rfl, hJx3, hk3⟩)
      · clear hy hR y0 x0 x1 x2
        gi_wp2_with fail
        exact ⟨hk3.up (by omega), hL.step (by rw [← List.append_assoc]; exact hJ3) hk3⟩
      · clear hy hR y0 x0 x1 x2
        gi_wp2_with fail
        exact ⟨hk3.up (by omega), rfl, hL.step (by rw [← List.append_assoc]; exact hJx3) hk3⟩
    case done =>
      intro V' hi hD
      gi_wp2_with fail
      rw [show (j : Int) + 1 = ((j + 1 : Nat) : Int) from rfl]
      refine ⟨?_, ?_⟩
      · rw [HI.out]
        refine ⟨j + 1, w2.heap.size :: ds, _, _, _, _, _, _, _, _, _, _, _, _, _, _, _, _, _, _, _, _, by omega, rfl, ?_, hi.j, hi.tr, List.nodup_cons.2 ⟨fun h => by have := (hLQ3.ma _ h).2.1; omega, hi.nd⟩, fun D hD' => ?_⟩
        · rw [← flat_snoc, HPRE.out]
          rw [show fr + 8 * z * (j : Int) = fr + j * o1 by rw [HO.out, Int.mul_comm]]
        · rcases List.mem_cons.1 hD' with rfl | h
          · exact ⟨by omega, lt_of_at hD, hD⟩
          · exact hi.ma D h
      · rw [HMU.out]
        show N - (intOf (.int .i64 ((j + 1 : Nat) : Int))).toNat < N - (intOf (.int .i64 (j : Int))).toNat
        simp only [intOf]
        omega
    case stop =>
      rintro c p V' hpr ⟨rfl, hi⟩ hD
      gi_wp2_with fail
      refine lv_out hJ hJx (ds := w2.heap.size :: ds) (.inr ⟨pre ++ p, ?_, hi.j⟩) (List.nodup_cons.2 ⟨fun h => by have := (hLQ3.ma _ h).2.1; omega, hi.nd⟩) (fun D hD' => ?_)
      · rw [HX.out, HN.out, HPRE.out]
        refine flat_prefix hlt ?_
        rw [show fr + 8 * z * (j : Int) = fr + j * o1 by rw [HO.out, Int.mul_comm]]
        exact hpr
      · rcases List.mem_cons.1 hD' with rfl | h
        · exact ⟨by omega, hD⟩
        · exact ⟨(hi.ma D h).1, (hi.ma D h).2.2⟩
  · have hge : N ≤ j := by omega
    have t4 := (hLQ.tr.bk HTB.out HHV.out.nt).1.at_ (i := 4) rfl
    gi_wp2_with fail
    refine wpIn_loop_once ?_
    gi_wp2_with fail
    refine lv_out hJ hJx (ds := ds) (.inl ?_) hLQ.nd (fun D hD => ⟨(hLQ.ma D hD).1, (hLQ.ma D hD).2.2⟩)
    have hjN : j = N := by omega
    have hj' := hLQ.j
    rw [HPRE.out, hjN] at hj'
    rw [HX.out, HN.out]
    exact hj'
end Go.Proofs.Ytcggghamnmflcaa

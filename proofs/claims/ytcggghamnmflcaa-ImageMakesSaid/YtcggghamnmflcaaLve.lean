/- The iterator of shape.leaves at unions, and at whatever right type. -/
import Derived.Test.YtcggghamnmflcaaLvd
namespace Go.Proofs.Ytcggghamnmflcaa
open Go Go.RowKit Go.Shelf
attribute [local go_sem] wide_fn Oper.semAt_some
set_option maxRecDepth 100000 in
set_option maxHeartbeats 8000000 in
theorem lv_cmp5 {d : Nat} (IH : LvC d) {w0 : World} {Lb Tb Fb : Nat} {t : Nd (Tp d)} {cs : List Value} {b : Bx} {fr : Int} {w : World} (h : LvH w0 Lb Tb Fb (d + 1) t cs b fr w) (hs : t.sh = 5) :
    SeqQ Try.prog w0.heap.size Lb 107 #[.pointer (some ⟨Tb, 0, none⟩), .pointer (some ⟨Fb, 0, none⟩)] Spt.encs (leavesS (d + 1) t fr) w := by
  intro l J Jx W hT _ hJ hJx hY h0
  replace h := h.at_ hT
  clear hT
  have h0e := (err_of h.pl (by omega) h.bx)
  have HLI := liesR h0e.1 (show t.sh = 4 ∨ t.sh = 5 by omega)
  rw [h0e.2.2.1, h0e.2.2.2] at HLI
  have hmL : memL (d + 1) t = b.l := by
    unfold memL
    rw [if_pos ⟨h0e.1, show t.sh = 4 ∨ t.sh = 5 by omega⟩, h0e.2.1]
  rw [hmL] at HLI
  obtain ⟨A1, A2, c1, c2, hcs, b1, b2, b3, b4, l1, l2, m1, m2, hof, hfs⟩ := id h.ty
  have hF : FdsAt w0 d A2 t.fs := hfs
  clear hof hfs
  subst hcs
  have HL := fun w' (hb : Below W.heap.size W w') => lie6_c (h.ty.below (h.hw.trans (hb.mono h.hw.size)))
  rw [h0e.1, h0e.2.1] at HL
  have hX : leavesS (d + 1) t fr = (t.fs.zip b.l).flatMap (memLv d fr) := by
    show (if Nd.sh t = 1 then _ else _) = _
    rw [if_neg (by omega), if_neg (by omega), if_neg (by omega), h0e.2.1]
    rfl
  obtain ⟨X, hXX⟩ : ∃ X, leavesS (d + 1) t fr = X := ⟨_, rfl⟩
  rw [hXX] at hX ⊢
  have tb := h.tb
  have fb := h.fb
  obtain ⟨L, hLl⟩ : ∃ L, b.l = L := ⟨_, rfl⟩
  rw [hLl] at HL HLI hX
  have hlen : L.length = t.fs.length := HLI.len
  obtain ⟨fs, hfs⟩ : ∃ fs, t.fs = fs := ⟨_, rfl⟩
  have HALL := HLI.all
  rw [hfs] at hlen hF hX HALL tb HL l2
  obtain ⟨k, hk⟩ : ∃ x, t.k = x := ⟨_, rfl⟩
  obtain ⟨n, hn⟩ : ∃ x, t.n = x := ⟨_, rfl⟩
  obtain ⟨on, hon⟩ : ∃ x, t.of.length = x := ⟨_, rfl⟩
  obtain ⟨pk, hpk⟩ : ∃ x, t.pk = x := ⟨_, rfl⟩
  obtain ⟨al, hal⟩ : ∃ x, t.al = x := ⟨_, rfl⟩
  obtain ⟨sz, hsz⟩ : ∃ x, b.size = x := ⟨_, rfl⟩
  obtain ⟨ag, hag⟩ : ∃ x, b.align = x := ⟨_, rfl⟩
  rw [hs, hk, hn, hon, hpk, hal] at tb HL
  rw [hsz, hag] at HL
  rw [hsz] at HALL
  have hsz1 : 1 ≤ sz := by have := HLI.n1; omega
  have hsz2 : sz ≤ 65536 := by have := HLI.n2; omega
  have h1 := h.f0
  have h2 := h.f1
  rw [hsz] at h2
  have HH := Lib.hid h
  replace HL := Lib.hid HL
  have HX := Lib.hid hX
  have HY := Lib.hid hY
  have HF := Lib.hid hF
  replace HALL := Lib.hid HALL
  have HLEN := Lib.hid hlen
  have hfl : fs.length ≤ 9223372036854775807 := by omega
  have hTb := tb.lt
  have hFb := fb.lt
  have t0 := tb.at_ (i := 0) rfl
  have t1 := tb.at_ (i := 1) rfl
  have t2 := tb.at_ (i := 2) rfl
  have t3 := tb.at_ (i := 3) rfl
  have t4 := tb.at_ (i := 4) rfl
  have t5 := tb.at_ (i := 5) rfl
  have t6 := tb.at_ (i := 6) rfl
  have f0 := fb.at_ (i := 0) rfl
  clear hY hX hXX hF hlen h0e hmL HLI b1 b2 b3 b4 hs hfs hk hn hon hpk hal hsz hag hLl h
  refine (callsIn_wide (n := 9)).1 (callsIn_of_wp_marks Try.func107 rfl trivial ?_ rfl)
  simp only [Try.ntmps107, List.size_toArray, List.length_cons, List.length_nil, Nat.reduceAdd, Nat.reduceSub, Array.replicate_succ, Array.replicate_zero, List.push_toArray, List.append_toArray, List.nil_append, List.cons_append]
  gi_wp2_with fail
  refine (callsIn_wide.2 (HL.out _ (bel_alloc (Below.refl _ _) _))).mono ?_
  rintro e w1 ⟨sz', ag', A, nn, c, rfl, hx, hb1⟩
  obtain ⟨e1, e2, hsp⟩ := hx trivial
  subst e1 e2
  obtain rfl : nn = fs.length := by rw [hsp.1.1, HLEN.out]
  have hb1' := bel_then (bel_alloc (Below.refl W.heap.size W) (.cells #[.func (.yield l) #[] #[]] 93)) hb1
  have hbV := bel_alloc hb1' (.cells #[.int .i64 sz', .int .i64 ag', .slice A fs.length c] 99)
  have hw1 : W.heap.size < w1.heap.size := by have := hb1.size; simp at this; omega
  have hTb1 : Tb < w1.heap.size := by omega
  have hFb1 : Fb < w1.heap.size := by omega
  have trV : TrQ w0.heap.size Lb W (w1.alloc (.cells #[.int .i64 sz', .int .i64 ag', .slice A fs.length c] 99)) := (TrQ.refl HH.out.ok).step (B0 := 0) (KpQ.of_below hbV HH.out.hw.size HH.out.lb)
  have hJV : J [] (w1.alloc (.cells #[.int .i64 sz', .int .i64 ag', .slice A fs.length c] 99)) := hJ [] W _ none h0 (grown_none hbV) (by simp)
  have HHV := Lib.hid (HH.out.at_ trV)
  have HY93 := Lib.hid (((Bk.new W 93 #[.func (.yield l) #[] #[]]).below hb1 (by simp)).alloc (.cells #[.int .i64 sz', .int .i64 ag', .slice A fs.length c] 99))
  have HB99 := Lib.hid (Bk.new w1 99 #[.int .i64 sz', .int .i64 ag', .slice A fs.length c])
  have HSP := Lib.hid (hsp.1.below (bel_alloc (Below.refl w1.heap.size w1) (.cells #[.int .i64 sz', .int .i64 ag', .slice A fs.length c] 99)))
  have HSB := Lib.hid (fun a (ha : A = some a) => Nat.le_trans (show W.heap.size ≤ (W.alloc (.cells #[.func (.yield l) #[] #[]] 93)).heap.size by simp) (hsp.2 a ha))
  replace t0 := bel_cell hb1' t0
  replace t4 := bel_cell hb1' t4
  have HVB := Lib.hid hbV
  have HTB := Lib.hid (tb.below hbV tb.lt)
  clear t1 t2 t3 t5 t6 f0 hb1 tb fb hsp hbV hx hb1'
  gi_wp2_with fail
  obtain ⟨V, hV⟩ : ∃ V, w1.alloc (.cells #[.int .i64 sz', .int .i64 ag', .slice A fs.length c] 99) = V := ⟨_, rfl⟩
  rw [hV] at hJV HHV HVB HY93 HTB HB99 HSP ⊢
  have hVs : V.heap.size = w1.heap.size + 1 := by rw [← hV]; simp
  have hw1V : w1.heap.size < V.heap.size := by omega
  clear hV t0 t4 trV
  have hL0 := HHV.out.lb
  have hn0 : w0.heap.size ≤ V.heap.size := HHV.out.hw.size
  have hWV : W.heap.size ≤ V.heap.size := by omega
  clear hVs
  have LQ0 : LoopQ J w0.heap.size Lb W.heap.size V [] [] V := ⟨hJV, TrQ.refl HHV.out.ok, List.nodup_nil, fun D hD => by simp at hD⟩
  obtain ⟨I, hI⟩ : ∃ I : Act → World → Prop, I = (fun a V' => ∃ (j : Nat) (ds : List Nat) (pre : List Spt) (u9 u10 u11 u73 u74 u75 u76 u77 u78 u79 u80 u81 u82 u83 u84 u85 u86 u87 u88 u89 u90 u91 u92 u93 u94 u95 u96 u97 u98 u99 u100 u101 u102 u103 u104 u105 u106 u107 u108 u109 : Value), j ≤ fs.length ∧ a = ⟨(List.toArray ((.func (.yield l) #[] #[]) :: (.pointer (some ⟨Tb, 0, none⟩)) :: (.pointer (some ⟨Fb, 0, none⟩)) :: (.pointer (some ⟨W.heap.size, 0, none⟩)) :: (.pointer (some ⟨w1.heap.size, 0, none⟩)) :: (.int .i64 0) :: (undef) :: (undef) :: (undef) :: (u9) :: (u10) :: (u11) :: (undef) :: (.tuple #[.agg #[.int .i64 sz', .int .i64 ag', .slice A fs.length c], .int .i64 0]) :: (.agg #[.int .i64 5, .int .i64 k, .int .i64 n, .slice A1 on c1, .slice A2 fs.length c2, .bool pk, .int .i64 al]) :: (.tuple #[.agg #[.int .i64 sz', .int .i64 ag', .slice A fs.length c], .int .i64 0]) :: (.agg #[.int .i64 sz', .int .i64 ag', .slice A fs.length c]) :: (.int .i64 0) :: (.pointer (some ⟨Tb, 0, none⟩)) :: (.int .i64 5) :: (.bool false) :: (.bool false) :: (undef) :: (undef) :: (undef) :: (undef) :: (undef) :: (undef) :: (undef) :: (undef) :: (undef) :: (.bool false) :: (.bool false) :: (undef) :: (undef) :: (undef) :: (undef) :: (undef) :: (undef) :: (undef) :: (.bool false) :: (.bool false) :: (undef) :: (undef) :: (undef) :: (undef) :: (undef) :: (undef) :: (undef) :: (undef) :: (undef) :: (undef) :: (undef) :: (undef) :: (undef) :: (undef) :: (undef) :: (undef) :: (undef) :: (undef) :: (undef) :: (undef) :: (undef) :: (undef) :: (undef) :: (undef) :: (undef) :: (undef) :: (undef) :: (.pointer (some ⟨Tb, 4, none⟩)) :: (.slice A2 fs.length c2) :: (.int .i64 fs.length) :: (.int .i64 j) :: (u73) :: (u74) :: (u75) :: (u76) :: (u77) :: (u78) :: (u79) :: (u80) :: (u81) :: (u82) :: (u83) :: (u84) :: (u85) :: (u86) :: (u87) :: (u88) :: (u89) :: (u90) :: (u91) :: (u92) :: (u93) :: (u94) :: (u95) :: (u96) :: (u97) :: (u98) :: (u99) :: (u100) :: (u101) :: (u102) :: (u103) :: (u104) :: (u105) :: (u106) :: (u107) :: (u108) :: (u109) :: [])), ds.map markQ⟩ ∧ pre = ((fs.zip L).take j).flatMap (memLv d fr) ∧ LoopQ J w0.heap.size Lb W.heap.size V ds pre V') := ⟨_, rfl⟩
  obtain ⟨mu, hmu⟩ : ∃ mu : Act → World → Nat, mu = (fun a _ => fs.length - (intOf (a.tmps.getD 72 undef)).toNat) := ⟨_, rfl⟩
  have hI0 : I ⟨(List.toArray ((.func (.yield l) #[] #[]) :: (.pointer (some ⟨Tb, 0, none⟩)) :: (.pointer (some ⟨Fb, 0, none⟩)) :: (.pointer (some ⟨W.heap.size, 0, none⟩)) :: (.pointer (some ⟨w1.heap.size, 0, none⟩)) :: (.int .i64 0) :: (undef) :: (undef) :: (undef) :: (undef) :: (undef) :: (undef) :: (undef) :: (.tuple #[.agg #[.int .i64 sz', .int .i64 ag', .slice A fs.length c], .int .i64 0]) :: (.agg #[.int .i64 5, .int .i64 k, .int .i64 n, .slice A1 on c1, .slice A2 fs.length c2, .bool pk, .int .i64 al]) :: (.tuple #[.agg #[.int .i64 sz', .int .i64 ag', .slice A fs.length c], .int .i64 0]) :: (.agg #[.int .i64 sz', .int .i64 ag', .slice A fs.length c]) :: (.int .i64 0) :: (.pointer (some ⟨Tb, 0, none⟩)) :: (.int .i64 5) :: (.bool false) :: (.bool false) :: (undef) :: (undef) :: (undef) :: (undef) :: (undef) :: (undef) :: (undef) :: (undef) :: (undef) :: (.bool false) :: (.bool false) :: (undef) :: (undef) :: (undef) :: (undef) :: (undef) :: (undef) :: (undef) :: (.bool false) :: (.bool false) :: (undef) :: (undef) :: (undef) :: (undef) :: (undef) :: (undef) :: (undef) :: (undef) :: (undef) :: (undef) :: (undef) :: (undef) :: (undef) :: (undef) :: (undef) :: (undef) :: (undef) :: (undef) :: (undef) :: (undef) :: (undef) :: (undef) :: (undef) :: (undef) :: (undef) :: (undef) :: (undef) :: (.pointer (some ⟨Tb, 4, none⟩)) :: (.slice A2 fs.length c2) :: (.int .i64 fs.length) :: (.int .i64 0) :: (undef) :: (undef) :: (undef) :: (undef) :: (undef) :: (undef) :: (undef) :: (undef) :: (undef) :: (undef) :: (undef) :: (undef) :: (undef) :: (undef) :: (undef) :: (undef) :: (undef) :: (undef) :: (undef) :: (undef) :: (undef) :: (undef) :: (undef) :: (undef) :: (undef) :: (undef) :: (undef) :: (undef) :: (undef) :: (undef) :: (undef) :: (undef) :: (undef) :: (undef) :: (undef) :: (undef) :: (undef) :: [])), []⟩ V := by rw [hI]; exact ⟨0, [], [], _, _, _, _, _, _, _, _, _, _, _, _, _, _, _, _, _, _, _, _, _, _, _, _, _, _, _, _, _, _, _, _, _, _, _, _, _, _, _, _, Nat.zero_le _, rfl, rfl, LQ0⟩
  have HI := Lib.hid hI
  have HMU := Lib.hid hmu
  clear hI hmu LQ0 hJV h0
  refine wpIn_loop I mu hI0 ?_
  clear hI0
  intro a V' hIa
  rw [HI.out] at hIa
  obtain ⟨j, ds, pre, u9, u10, u11, u73, u74, u75, u76, u77, u78, u79, u80, u81, u82, u83, u84, u85, u86, u87, u88, u89, u90, u91, u92, u93, u94, u95, u96, u97, u98, u99, u100, u101, u102, u103, u104, u105, u106, u107, u108, u109, hj, rfl, hpre, hLQ⟩ := hIa
  have hH := HHV.out.at_ hLQ.tr
  have HPRE := Lib.hid hpre
  clear hpre
  by_cases hlt : j < fs.length
  · obtain ⟨f, hf⟩ : ∃ f, fs[j]? = some f := ⟨_, List.getElem?_eq_getElem hlt⟩
    obtain ⟨x, hx⟩ : ∃ x, L[j]? = some x := ⟨_, List.getElem?_eq_getElem (by rw [HLEN.out]; exact hlt)⟩
    obtain ⟨p1, p2, p3, -, -, p6, p7, bb, p8⟩ := HALL.out j f x hf hx
    have p9 := p8.bits
    have HP8 := Lib.hid p8
    have HP6 := Lib.hid p6
    have HXK := Lib.hid p8.k
    obtain ⟨fb, fo, xn, E1, E2, m1', m2', d1, d2, xpk, xal, hA1, hbt, hnm, htx, q0, q1, q2, q3, q4, q5, q6, q7, q8⟩ := HF.out.at_ hf
    subst hA1
    obtain ⟨sb, so, hA, s0, s1, s2⟩ := (hLQ.tr.spts HSP.out (fun a ha => not_mine_new HH.out.ok (HVB.out.block Lb HH.out.lb) (HSB.out a ha))).2 j x hx
    subst hA
    replace q0 := bel_cell hH.hw q0
    replace q1 := bel_cell hH.hw q1
    replace q2 := bel_cell hH.hw q2
    replace q3 := bel_cell hH.hw q3
    replace q4 := bel_cell hH.hw q4
    replace q5 := bel_cell hH.hw q5
    replace q6 := bel_cell hH.hw q6
    replace q7 := bel_cell hH.hw q7
    replace q8 := bel_cell hH.hw q8
    have HTXX := Lib.hid htx
    have HFF := Lib.hid hf
    have HXX := Lib.hid hx
    have k2 := (hLQ.tr.bk HB99.out (not_mine_new HH.out.ok (HVB.out.block Lb HH.out.lb) (by omega))).1.at_ (i := 2) rfl
    have f0 := hH.fb.at_ (i := 0) rfl
    have y0 := (hLQ.tr.bk HY93.out (not_mine_new HH.out.ok (HVB.out.block Lb HH.out.lb) (Nat.le_refl _))).1.at_ (i := 0) rfl
    have hsV := hLQ.tr.bel.size
    have hsb := World.block_lt_of_cell? V' _ s0
    have hfbk := World.block_lt_of_cell? V' _ f0
    have hw1V' : w1.heap.size < V'.heap.size := by omega
    have hWV' : W.heap.size < V'.heap.size := by omega
    simp only at hsb hfbk
    clear htx p6 p8 hf hx
    by_cases hbn : f.bits < 0
    · rw [if_pos hbn] at p9
      have hbc : Below V'.heap.size V' ((V'.alloc (.cells #[.string f.nm, .int .i64 (tsh d f.t), .int .i64 (tk d f.t), .int .i64 xn, .slice E1 m1' d1, .slice E2 m2' d2, .bool xpk, .int .i64 xal, .int .i64 f.bits] 56)).alloc (.cells #[.int .i64 (x.bit + fr), .int .i64 (8 * bb.size), .int .i64 x.k] 48)) := bel_alloc (bel_alloc (Below.refl _ _) _) _
      have hLQ2 := hLQ.below_ hJ hH.hw.size hH.lb hbc
      have hsb := Bk.new1 V' (.cells #[.string f.nm, .int .i64 (tsh d f.t), .int .i64 (tk d f.t), .int .i64 xn, .slice E1 m1' d1, .slice E2 m2' d2, .bool xpk, .int .i64 xal, .int .i64 f.bits] 56) 48 #[.int .i64 (x.bit + fr), .int .i64 (8 * bb.size), .int .i64 x.k]
      have hw1c : V'.heap.size + 1 < ((V'.alloc (.cells #[.string f.nm, .int .i64 (tsh d f.t), .int .i64 (tk d f.t), .int .i64 xn, .slice E1 m1' d1, .slice E2 m2' d2, .bool xpk, .int .i64 xal, .int .i64 f.bits] 56)).alloc (.cells #[.int .i64 (x.bit + fr), .int .i64 (8 * bb.size), .int .i64 x.k] 48)).heap.size := by simp
      gi_wp2_with fail
      clear q0 q1 q2 q3 q4 q5 q6 q7 q8 s0 s1 s2 k2 f0 y0 hbc
      generalize World.alloc (World.alloc V' _) _ = Wc at hLQ2 hw1c ⊢
      clear hLQ hH
      refine (callsIn_wide.2 (leaves76_c _ _ _ _ _ _ _ _ _ _ _ _ _)).mono ?_
      rintro e w2 ⟨rfl, hw2⟩
      gi_wp2_with fail
      have hsz2 : w2.heap.size = Wc.heap.size + 2 := by rw [← hw2]; simp
      have hbw2 : Below Wc.heap.size Wc w2 := by rw [← hw2]; exact bel_alloc (bel_alloc (Below.refl _ _) _) _
      have hTb2 : Bk w2 Wc.heap.size 38 #[.int .i64 (tsh d f.t), .int .i64 (tk d f.t), .int .i64 xn, .slice E1 m1' d1, .slice E2 m2' d2, .bool xpk, .int .i64 xal] := by rw [← hw2]; exact (Bk.new Wc _ _).alloc _
      have hFb2 : Bk w2 (Wc.heap.size + 1) 2 #[.int .i64 (x.bit + fr)] := by rw [← hw2]; exact Bk.new1 Wc _ _ _
      clear hw2
      have hVq := hLQ2.tr
      have hHq := HHV.out.at_ hVq
      have hLQ3 := hLQ2.below_ hJ hHq.hw.size hHq.lb hbw2
      have hH2 := HHV.out.at_ hLQ3.tr
      have hLv : LvH w0 Lb Wc.heap.size (Wc.heap.size + 1) d f.t [.int .i64 (tsh d f.t), .int .i64 (tk d f.t), .int .i64 xn, .slice E1 m1' d1, .slice E2 m2' d2, .bool xpk, .int .i64 xal] bb (x.bit + fr) w2 :=
        ⟨hH2.hw, HTXX.out, plain_mono _ _ _ _ HP6.out (by omega), HP8.out.bx, by omega, by omega, hTb2, not_mine_new hVq.ok (hbw2.block Lb hHq.lb) (Nat.le_refl _), hFb2, not_mine_new hVq.ok (hbw2.block Lb hHq.lb) (Nat.le_succ _), hH2.ok, hH2.lb⟩
      have hseq := IH w0 Lb _ _ f.t _ bb _ w2 hLv
      have hsVq := hVq.bel.size
      have HMV := Lib.hid (show memLv d fr (f, x) = leavesS d f.t (x.bit + fr) by unfold memLv; rw [if_neg (by simp only; omega), if_neg (by simp only; omega), Int.add_comm])
      refine range_qi (α := Spt) (gf := 107) (lb := #[.pointer (some ⟨Wc.heap.size, 0, none⟩), .pointer (some ⟨Wc.heap.size + 1, 0, none⟩)]) rfl (enters_of Try.func107 (by kernel_rfl) rfl) hseq (by omega) hH2.lb hH2.ok (fun _ => rfl)
        (fun p V' => LoopQ J w0.heap.size Lb W.heap.size V ds (pre ++ p) V')
        (fun c p V' => c = .ret ∧ LoopQ Jx w0.heap.size Lb W.heap.size V ds (pre ++ p) V')
        (LoopQ.own hJ hn0 hL0 (by omega) (by omega) (fun D hD => (hLQ3.ma D hD).2.1)) ?hIx (by rw [List.append_nil]; exact hLQ3)
        (fun p y a' V'' => LoopQ J w0.heap.size Lb W.heap.size V ds (pre ++ p) V'' ∧ ∃ Bx, Bk V'' Bx 48 #[.int .i64 y.bit, .int .i64 y.bits, .int .i64 y.k] ∧ a' = ⟨(List.toArray ((.func (.yield l) #[] #[]) :: (.pointer (some ⟨Tb, 0, none⟩)) :: (.pointer (some ⟨Fb, 0, none⟩)) :: (.pointer (some ⟨W.heap.size, 0, none⟩)) :: (.pointer (some ⟨w1.heap.size, 0, none⟩)) :: (.int .i64 0) :: (undef) :: (undef) :: (undef) :: (.int .i64 j) :: (.pointer (some ⟨V'.heap.size, 0, none⟩)) :: (.pointer (some ⟨V'.heap.size + 1, 0, none⟩)) :: (.pointer (some ⟨Bx, 0, none⟩)) :: (.tuple #[.agg #[.int .i64 sz', .int .i64 ag', .slice (some ⟨sb, so, none⟩) fs.length c], .int .i64 0]) :: (.agg #[.int .i64 5, .int .i64 k, .int .i64 n, .slice A1 on c1, .slice (some ⟨fb, fo, none⟩) fs.length c2, .bool pk, .int .i64 al]) :: (.tuple #[.agg #[.int .i64 sz', .int .i64 ag', .slice (some ⟨sb, so, none⟩) fs.length c], .int .i64 0]) :: (.agg #[.int .i64 sz', .int .i64 ag', .slice (some ⟨sb, so, none⟩) fs.length c]) :: (.int .i64 0) :: (.pointer (some ⟨Tb, 0, none⟩)) :: (.int .i64 5) :: (.bool false) :: (.bool false) :: (undef) :: (undef) :: (undef) :: (undef) :: (undef) :: (undef) :: (undef) :: (undef) :: (undef) :: (.bool false) :: (.bool false) :: (undef) :: (undef) :: (undef) :: (undef) :: (undef) :: (undef) :: (undef) :: (.bool false) :: (.bool false) :: (undef) :: (undef) :: (undef) :: (undef) :: (undef) :: (undef) :: (undef) :: (undef) :: (undef) :: (undef) :: (undef) :: (undef) :: (undef) :: (undef) :: (undef) :: (undef) :: (undef) :: (undef) :: (undef) :: (undef) :: (undef) :: (undef) :: (undef) :: (undef) :: (undef) :: (undef) :: (undef) :: (.pointer (some ⟨Tb, 4, none⟩)) :: (.slice (some ⟨fb, fo, none⟩) fs.length c2) :: (.int .i64 fs.length) :: (.int .i64 j) :: (.bool true) :: (.int .i64 j) :: (.pointer (some ⟨fb, fo + j * 9, none⟩)) :: (.agg #[.string f.nm, .int .i64 (tsh d f.t), .int .i64 (tk d f.t), .int .i64 xn, .slice E1 m1' d1, .slice E2 m2' d2, .bool xpk, .int .i64 xal, .int .i64 f.bits]) :: (.pointer (some ⟨w1.heap.size, 2, none⟩)) :: (.slice (some ⟨sb, so, none⟩) fs.length c) :: (.int .i64 j) :: (.pointer (some ⟨sb, so + j * 3, none⟩)) :: (.agg #[.int .i64 x.bit, .int .i64 (8 * bb.size), .int .i64 x.k]) :: (.pointer (some ⟨V'.heap.size + 1, 0, none⟩)) :: (.int .i64 x.bit) :: (.int .i64 fr) :: (.int .i64 (x.bit + fr)) :: (.pointer (some ⟨V'.heap.size + 1, 0, none⟩)) :: (.bool false) :: (.pointer (some ⟨V'.heap.size, 8, none⟩)) :: (.int .i64 f.bits) :: (.bool false) :: (.bool (decide (0 < f.bits))) :: (.pointer (some ⟨V'.heap.size, 8, none⟩)) :: (.int .i64 f.bits) :: (.bool (decide (0 < f.bits))) :: (u95) :: (u96) :: (u97) :: (u98) :: (.pointer (some ⟨V'.heap.size, 1, none⟩)) :: (.agg #[.int .i64 (tsh d f.t), .int .i64 (tk d f.t), .int .i64 xn, .slice E1 m1' d1, .slice E2 m2' d2, .bool xpk, .int .i64 xal]) :: (.pointer (some ⟨V'.heap.size + 1, 0, none⟩)) :: (.int .i64 (x.bit + fr)) :: (.func (.func 107) #[] #[.pointer (some ⟨Wc.heap.size, 0, none⟩), .pointer (some ⟨Wc.heap.size + 1, 0, none⟩)]) :: (.agg #[.int .i64 y.bit, .int .i64 y.bits, .int .i64 y.k]) :: (u105) :: (u106) :: (u107) :: (u108) :: (u109) :: [])), []⟩)
        ?hAx ?assign ?body ?done ?stop
      case hIx =>
        intro c s A C row h hg hr
        exact ⟨h.1, LoopQ.own hJx hn0 hL0 (by omega) (by omega) (fun D hD => (hLQ3.ma D hD).2.1) s A C row h.2 hg hr⟩
      case hAx =>
        rintro p y a' s A C row ⟨h1, Bx, h3, h4⟩ hg hr
        exact ⟨LoopQ.own hJ hn0 hL0 (by omega) (by omega) (fun D hD => (hLQ3.ma D hD).2.1) p A C row h1 hg hr, Bx, h3.kept hg (fun r e => (hr r e).2), h4⟩
      case assign =>
        intro r p y V'' K hi hK
        have hHi := HHV.out.at_ hi.tr
        have hb := bel_alloc (Below.refl V''.heap.size V'') (.cells #[.int .i64 y.bit, .int .i64 y.bits, .int .i64 y.k] 48)
        simp only [Spt.encs, List.zip_toArray, List.zip_cons_cons, List.zip_nil_right, List.foldl_toArray', List.size_toArray, List.length_cons, List.length_nil, Nat.reduceAdd, List.foldl_cons, List.foldl_nil, List.setIfInBounds_toArray, List.set_cons_succ, List.set_cons_zero] at hK ⊢
        gi_wp2_with fail
        exact hK _ _ (KpQ.of_below hb hHi.hw.size hHi.lb) ⟨hi.below_ hJ hHi.hw.size hHi.lb hb, V''.heap.size, Bk.new _ _ _, rfl⟩
      case body =>
        rintro r p y a' V'' hr ⟨hL, Bx, hBx, rfl⟩
        have y0 := (hL.tr.bk HY93.out (not_mine_new HH.out.ok (HVB.out.block Lb HH.out.lb) (Nat.le_refl _))).1.at_ (i := 0) rfl
        have x0 := hBx.at_ (i := 0) rfl
        have x1 := hBx.at_ (i := 1) rfl
        have x2 := hBx.at_ (i := 2) rfl
        obtain ⟨fn, tmps, assign, body, hy, hR⟩ := yield_round (lr := r) (yield_any (m' := 7) (HY.out (pre ++ p) y V'' hL.j))
        dsimp only [Spt.encs] at hy
        gi_wp2_with fail
        refine hR.mono ?_
        rintro e W3 (⟨rfl, hJ3, hk3⟩ | ⟨rfl, hJx3, hk3⟩)
        · clear hy hR y0 x0 x1 x2
          gi_wp2_with fail
          exact ⟨hk3.up (by omega), hL.step (by rw [← List.append_assoc]; exact hJ3) hk3⟩
        · clear hy hR y0 x0 x1 x2
          gi_wp2_with fail
          exact ⟨hk3.up (by omega), rfl, hL.step (by rw [← List.append_assoc]; exact hJx3) hk3⟩
      case done =>
        intro V'' hi hD
        gi_wp2_with fail
        rw [show (j : Int) + 1 = ((j + 1 : Nat) : Int) from rfl]
        refine ⟨?_, ?_⟩
        · rw [HI.out]
          refine ⟨j + 1, w2.heap.size :: ds, _, _, _, _, _, _, _, _, _, _, _, _, _, _, _, _, _, _, _, _, _, _, _, _, _, _, _, _, _, _, _, _, _, _, _, _, _, _, _, _, _, by omega, rfl, ?_, hi.j, hi.tr, List.nodup_cons.2 ⟨fun h => by have := (hLQ3.ma _ h).2.1; omega, hi.nd⟩, fun D hD' => ?_⟩
          · rw [← zip_snoc HFF.out HXX.out, HPRE.out, HMV.out]
          · rcases List.mem_cons.1 hD' with rfl | h
            · exact ⟨by omega, lt_of_at hD, hD⟩
            · exact hi.ma D h
        · rw [HMU.out]
          show fs.length - (intOf (.int .i64 ((j + 1 : Nat) : Int))).toNat < fs.length - (intOf (.int .i64 (j : Int))).toNat
          simp only [intOf]
          omega
      case stop =>
        rintro c p V'' hpr ⟨rfl, hi⟩ hD
        gi_wp2_with fail
        refine lv_out hJ hJx (ds := w2.heap.size :: ds) (.inr ⟨pre ++ p, ?_, hi.j⟩) (List.nodup_cons.2 ⟨fun h => by have := (hLQ3.ma _ h).2.1; omega, hi.nd⟩) (fun D hD' => ?_)
        · rw [HX.out, HPRE.out]
          exact zip_prefix HFF.out HXX.out (by rw [HMV.out]; exact hpr)
        · rcases List.mem_cons.1 hD' with rfl | h
          · exact ⟨by omega, hD⟩
          · exact ⟨(hi.ma D h).1, (hi.ma D h).2.2⟩
    · rw [if_neg hbn] at p9
      by_cases hbz : f.bits = 0
      · have g1 : (f.bits == 0) = true := by simpa using hbz
        have hbc : Below V'.heap.size V' ((V'.alloc (.cells #[.string f.nm, .int .i64 (tsh d f.t), .int .i64 (tk d f.t), .int .i64 xn, .slice E1 m1' d1, .slice E2 m2' d2, .bool xpk, .int .i64 xal, .int .i64 0] 56)).alloc (.cells #[.int .i64 (x.bit + fr), .int .i64 0, .int .i64 x.k] 48)) := bel_alloc (bel_alloc (Below.refl _ _) _) _
        have hLQ2 := hLQ.below_ hJ hH.hw.size hH.lb hbc
        have HMV := Lib.hid (show memLv d fr (f, x) = [] by unfold memLv; rw [if_pos hbz])
        gi_wp2_with fail
        rw [show (j : Int) + 1 = ((j + 1 : Nat) : Int) from rfl]
        refine ⟨?_, ?_⟩
        · rw [HI.out]
          exact ⟨j + 1, ds, pre, _, _, _, _, _, _, _, _, _, _, _, _, _, _, _, _, _, _, _, _, _, _, _, _, _, _, _, _, _, _, _, _, _, _, _, _, _, _, _, _, by omega, rfl, by rw [← zip_snoc HFF.out HXX.out, HMV.out, List.append_nil]; exact HPRE.out, hLQ2⟩
        · rw [HMU.out]
          show fs.length - (intOf (.int .i64 ((j + 1 : Nat) : Int))).toNat < fs.length - (intOf (.int .i64 (j : Int))).toNat
          simp only [intOf]
          omega
      · have g1 : (f.bits == 0) = false := by simpa using hbz
        have g2 : 0 < f.bits := by omega
        have hbc : Below V'.heap.size V' ((V'.alloc (.cells #[.string f.nm, .int .i64 (tsh d f.t), .int .i64 (tk d f.t), .int .i64 xn, .slice E1 m1' d1, .slice E2 m2' d2, .bool xpk, .int .i64 xal, .int .i64 f.bits] 56)).alloc (.cells #[.int .i64 (x.bit + fr), .int .i64 f.bits, .int .i64 x.k] 48)) := bel_alloc (bel_alloc (Below.refl _ _) _) _
        have hLQ2 := hLQ.below_ hJ hH.hw.size hH.lb hbc
        have HMV := Lib.hid (show memLv d fr (f, x) = [⟨x.bit + fr, f.bits, x.k⟩] by unfold memLv; rw [if_neg (by simp only; omega), if_pos (by simp only; omega), HXK.out, Int.add_comm])
        obtain ⟨fn, tmps, assign, body, hy, hR⟩ := yield_any (m' := 8) (HY.out pre ⟨x.bit + fr, f.bits, x.k⟩ _ hLQ2.j)
        dsimp only [Spt.encs] at hy
        clear hbz
        gi_wp2_with fail
        refine hR.mono ?_
        rintro e W3 (⟨rfl, hJ3, hk3⟩ | ⟨rfl, hJx3, hk3⟩)
        · have hLQ4 := hLQ2.step hJ3 hk3
          clear hy hR q0 q1 q2 q3 q4 q5 q6 q7 q8 s0 s1 s2 k2 f0 y0 hLQ hLQ2 hbc hH hk3 hJ3
          gi_wp2_with fail
          rw [show (j : Int) + 1 = ((j + 1 : Nat) : Int) from rfl]
          refine ⟨?_, ?_⟩
          · rw [HI.out]
            exact ⟨j + 1, ds, _, _, _, _, _, _, _, _, _, _, _, _, _, _, _, _, _, _, _, _, _, _, _, _, _, _, _, _, _, _, _, _, _, _, _, _, _, _, _, _, _, by omega, rfl, by rw [← zip_snoc HFF.out HXX.out, HMV.out, HPRE.out], hLQ4⟩
          · rw [HMU.out]
            show fs.length - (intOf (.int .i64 ((j + 1 : Nat) : Int))).toNat < fs.length - (intOf (.int .i64 (j : Int))).toNat
            simp only [intOf]
            omega
        · have hLQ4 := hLQ2.step hJx3 hk3
          clear hy hR q0 q1 q2 q3 q4 q5 q6 q7 q8 s0 s1 s2 k2 f0 y0 hLQ hLQ2 hbc hH hk3 hJx3
          gi_wp2_with fail
          refine lv_out hJ hJx (ds := ds) (.inr ⟨_, ?_, hLQ4.j⟩) hLQ4.nd (fun D hD => ⟨(hLQ4.ma D hD).1, (hLQ4.ma D hD).2.2⟩)
          rw [HX.out, HPRE.out]
          exact zip_prefix HFF.out HXX.out (by rw [HMV.out]; exact List.prefix_refl _)
  · have hge : fs.length ≤ j := by omega
    gi_wp2_with fail
    refine lv_out hJ hJx (ds := ds) (.inl ?_) hLQ.nd (fun D hD => ⟨(hLQ.ma D hD).1, (hLQ.ma D hD).2.2⟩)
    have hj' := hLQ.j
    rw [HPRE.out, List.take_of_length_le (by rw [List.length_zip, HLEN.out]; omega)] at hj'
    rw [HX.out]
    exact hj'
theorem lv_c : ∀ d, LvC d
  | 0 => fun _ _ _ _ t => nomatch t
  | d + 1 => fun w0 Lb Tb Fb t cs b fr w h => by
    have hp := h.pl
    by_cases h1 : Nd.sh t = 1
    · exact lv_int (t := t) h h1
    · by_cases h2 : Nd.sh t = 2
      · exact lv_ptr (t := t) h h2
      · by_cases h3 : Nd.sh t = 3
        · exact lv_arr (lv_c d) (t := t) h h3
        · by_cases h4 : Nd.sh t = 4
          · exact lv_cmp4 (lv_c d) (t := t) h h4
          · by_cases h5 : Nd.sh t = 5
            · exact lv_cmp5 (lv_c d) (t := t) h h5
            · rw [show plainS (d + 1) t 6 = _ from plain_else h1 h2 h3 h4 h5] at hp
              cases hp
end Go.Proofs.Ytcggghamnmflcaa

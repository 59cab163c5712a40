/- The contract of shape.Leaves: whatever type. -/
import Derived.Test.YtcggghamnmflcaaLve
import Derived.Maps.OwnIn
namespace Go.Proofs.Ytcggghamnmflcaa
open Go Go.RowKit Go.Shelf
attribute [local go_sem] wide_fn Oper.semAt_some
/-- What Leaves answers. -/
def leafE (d : Nat) (t : Tp d) : Int := if errS d t = 0 then (if 2000 < (leavesS d t 0).length then 101 else 0) else errS d t
def leafL (d : Nat) (t : Tp d) : List Spt := if leafE d t = 0 then leavesS d t 0 else []
section
variable {n₀ Lb B0 : Nat} {W W1 : World}
/-- A store into one of the consumer's own boxes, but for Lb. -/
theorem KpQ.set_ {b : Nat} (hb : n₀ ≤ b) (hl : b < Lb) (k : Nat) (v : Value) : KpQ n₀ Lb B0 W (W.setCell ⟨b, k, none⟩ v) := by
  have hL : (W.setCell ⟨b, k, none⟩ v).heap[Lb]? = W.heap[Lb]? := Below.heap_setCell W ⟨b, k, none⟩ v Lb (by simp only; omega)
  have hs : (W.setCell ⟨b, k, none⟩ v).heap.size = W.heap.size := by simp [World.setCell]
  refine ⟨(Below.refl n₀ W).setCell (p := ⟨b, k, none⟩) hb v, (KeepsOthers.setCell _ _ _).from _, fun i o hi _ hm => (Below.heap_setCell W ⟨b, k, none⟩ v i (fun e => hm (.inl (by simp only at e; omega)))).trans hi, fun i _ hm => (Mine_same hL i).1 hm, fun ok i hm => by rw [hs]; exact ok i ((Mine_same hL i).1 hm)⟩
/-- An append to the slice in box Lb, stored back. -/
theorem KpQ.app {S S' : Value} {n n' base : Nat} {L L' : List Value} {o : Obj} (hL : Lb < W.heap.size) (_hn : n₀ ≤ base) (hn0 : n₀ ≤ Lb) (hc : W.cell? ⟨Lb, 0, none⟩ = some S) (hr : W.ownsRow base 48 3 S n L) (hbl : Lb < base) (hg : (W.alloc o).grownBy W1 S.ownBlock) (hr' : W1.ownsRow base 48 3 S' n' L') (ha : S'.ownBlock = S.ownBlock ∨ S'.ownBlock = some (W.alloc o).heap.size) :
    KpQ n₀ Lb B0 W (W1.setCell ⟨Lb, 0, none⟩ S') := by
  have hs1 : W.heap.size + 1 ≤ W1.heap.size := by have := hg.size; simpa using this
  have hs : (W1.setCell ⟨Lb, 0, none⟩ S').heap.size = W1.heap.size := by simp [World.setCell]
  have hold : ∀ k, k < W.heap.size → k ≠ Lb → some k ≠ S.ownBlock → (W1.setCell ⟨Lb, 0, none⟩ S').heap[k]? = W.heap[k]? := fun k hk h1 h2 =>
    (Below.heap_setCell W1 ⟨Lb, 0, none⟩ S' k h1).trans ((hg.block k (by simp; omega) h2).trans (Below.heap_alloc W o k hk))
  have hbase : ∀ k, S.ownBlock = some k → base ≤ k := fun k hk => by
    rcases hr.2 with ⟨rfl, _⟩ | ⟨g', cap, cur, rfl, hb, _⟩
    · simp [Value.ownBlock] at hk
    · have : g' = k := by simpa [Value.ownBlock] using hk
      omega
  have hcell : (W1.setCell ⟨Lb, 0, none⟩ S').cell? ⟨Lb, 0, none⟩ = some S' := by
    refine World.cell?_setCell_same' W1 ⟨Lb, 0, none⟩ S' ?_
    have : W1.cell? ⟨Lb, 0, none⟩ = some S := by
      rw [World.cell?_of_block (a := ⟨Lb, 0, none⟩) ((hg.block Lb (by simp; omega) (fun e => by have := hbase Lb e.symm; omega)).trans (Below.heap_alloc W o Lb hL))]
      exact hc
    rw [this]
    rfl
  have hown : ownB Lb (W1.setCell ⟨Lb, 0, none⟩ S') = S'.ownBlock := by unfold ownB; rw [hcell]; rfl
  have hown0 : ownB Lb W = S.ownBlock := by unfold ownB; rw [hc]; rfl
  have hk2 : KeepsFrom B0 W (W1.setCell ⟨Lb, 0, none⟩ S') := ⟨by rw [hs]; omega, fun k ob hB hk ho => by
    have hne : k ≠ Lb := fun e => by
      obtain ⟨o2, ho2, hc2⟩ := cells_of_cell hc
      simp only at ho2
      rw [e, ho2] at hk
      cases hk
      rw [ho] at hc2
      cases hc2
    refine (hold k (lt_of_at hk) hne fun e => ?_).trans hk
    rcases hr.2 with ⟨rfl, _⟩ | ⟨g', cap, cur, rfl, _, hh, _⟩
    · simp [Value.ownBlock] at e
    · have : k = g' := by simpa [Value.ownBlock] using e
      subst this
      rw [hh] at hk
      cases hk
      cases ho⟩
  have hsz : ∀ k, S'.ownBlock = some k → k < W1.heap.size := fun k hk => by
    rcases hr'.2 with ⟨rfl, _⟩ | ⟨g', cap, cur, rfl, _, hh, _⟩
    · simp [Value.ownBlock] at hk
    · have : g' = k := by simpa [Value.ownBlock] using hk
      subst this
      exact lt_of_at hh
  refine ⟨?_, hk2, fun k ob hk _ hm => ?_, fun k hk hm => ?_, fun _ k hm => ?_⟩
  · refine ((((Below.refl n₀ W).alloc (by omega) o).grown hg (by simp; omega) (fun k hk => by have := hbase k hk; omega))).setCell (p := ⟨Lb, 0, none⟩) hn0 _
  · exact (hold k (lt_of_at hk) (fun e => hm (.inl (by omega))) (fun e => hm (.inr (by rw [hown0]; exact e.symm)))).trans hk
  · rcases hm with h | h
    · exact .inl h
    · rw [hown] at h
      rcases ha with ha | ha
      · exact .inr (by rw [hown0, ← ha]; exact h)
      · rw [ha] at h
        simp at h
        omega
  · rw [hs]
    rcases hm with h | h
    · omega
    · rw [hown] at h
      exact hsz k h
end
theorem put_cell {V : World} {D : Nat} {x : Option (List Deferred)} {o : Obj} {a : Addr} {v : Value} (hD : V.heap[D]? = some (.deferred x)) (hc : V.cell? a = some v) : (V.putObj D o).cell? a = some v := by
  obtain ⟨o2, ho, hcl⟩ := cells_of_cell hc
  refine (World.cell?_of_block (World.putObj_heap_other (fun e => ?_))).trans hc
  rw [e, hD] at ho
  cases ho
  cases hcl
theorem Bk.put {V : World} {D : Nat} {x : Option (List Deferred)} {o : Obj} {g : Nat} {t : TypeId} {cs : Array Value} (hD : V.heap[D]? = some (.deferred x)) (h : Bk V g t cs) : Bk (V.putObj D o) g t cs := by
  refine (World.putObj_heap_other (fun e => ?_)).trans h
  rw [← e, show V.heap[g]? = _ from h] at hD
  cases hD
/-- What lies there where Leaves goes out. -/
def LfZ (w : World) (er : Int) (l : List Spt) (V : World) : Prop := ∃ (A : Option Addr) (n c : Nat), Bk V (w.heap.size + 1) 42 #[.slice A n c] ∧ Bk V (w.heap.size + 1 + 1) 23 #[.int .i64 er] ∧ SptsAt V A n l ∧ (∀ a, A = some a → w.heap.size ≤ a.block) ∧ Below w.heap.size w V
theorem LfZ.put {w : World} {er : Int} {l : List Spt} (V : World) (D : Nat) (h : LfZ w er l V) (hB : w.heap.size ≤ D) (hD : V.heap[D]? = some (.deferred (some []))) : LfZ w er l (V.putObj D (.deferred none)) := by
  obtain ⟨A, n, c, h1, h2, h3, h4, h5⟩ := h
  refine ⟨A, n, c, h1.put hD, h2.put hD, ⟨h3.1, fun i s hs => ?_⟩, h4, h5.trans (below_put hB (lt_of_at hD))⟩
  obtain ⟨b, o, ha, q0, q1, q2⟩ := h3.2 i s hs
  exact ⟨b, o, ha, put_cell hD q0, put_cell hD q1, put_cell hD q2⟩
theorem results40 {tmps : Array Value} {W : World} {g g2 : Nat} {a b : Value} (h4 : tmps.getD 2 undef = .pointer (some ⟨g, 0, none⟩)) (h5 : tmps.getD 3 undef = .pointer (some ⟨g2, 0, none⟩)) (h : Bk W g 42 #[a]) (h2 : Bk W g2 23 #[b]) : (results Try.f40 tmps).run Try.prog W = .ok (.tuple #[a, b]) W := by
  have c0 : W.cell? ⟨g, 0, none⟩ = some a := h.at_ (i := 0) rfl
  have c1 : W.cell? ⟨g2, 0, none⟩ = some b := h2.at_ (i := 0) rfl
  rw [Array.getD_eq_getD_getElem?] at h4 h5
  simp [results, Try.results40, go_sem, h4, h5, c0, c1]
theorem ownB_nil {Lb : Nat} {W : World} (h : Bk W Lb 42 #[.slice none 0 0]) : ownB Lb W = none := by
  unfold ownB
  rw [h.at_ (i := 0) rfl]
  rfl
/-- What Leaves' own cells hold between two rounds. -/
structure LfI (w : World) (Lb : Nat) (xs : List Spt) (V : World) : Prop where
  le : xs.length ≤ 2000
  sz : Lb + 1 + 1 + 1 ≤ V.heap.size
  s : ∃ S, Bk V Lb 42 #[S] ∧ V.ownsRow (Lb + 1 + 1 + 1) 48 3 S xs.length (sptC xs)
  r1 : Bk V (w.heap.size + 1) 42 #[.slice none 0 0]
  r2 : Bk V (w.heap.size + 1 + 1) 23 #[.int .i64 0]
  bel : Below w.heap.size w V
structure LfX (w : World) (xs : List Spt) (V : World) : Prop where
  lt : 2000 < xs.length
  r1 : Bk V (w.heap.size + 1) 42 #[.slice none 0 0]
  r2 : Bk V (w.heap.size + 1 + 1) 23 #[.int .i64 101]
  bel : Below w.heap.size w V
theorem LfI.own {w : World} {Lb B1 : Nat} (hB : w.heap.size ≤ B1) : OwnFrom B1 (fun xs V => LfI w Lb xs V) := fun _ A _ row h hg hr => by
  have hr' : ∀ r, row = some r → ∃ o : Obj, A.heap[r]? = some o ∧ o.isCells = false := fun r e => (hr r e).2
  obtain ⟨S, q1, q2⟩ := h.s
  refine ⟨h.le, Nat.le_trans h.sz hg.size, ⟨S, q1.kept hg hr', q2.kept hg ?_⟩, h.r1.kept hg hr', h.r2.kept hg hr', h.bel.grown hg h.bel.size (fun k e => Nat.le_trans hB (hr k e).1)⟩
  cases hob : S.ownBlock with
  | none => exact .inl rfl
  | some g =>
    refine .inr fun e => ?_
    obtain ⟨o, ho, hc⟩ := hr' g e.symm
    rcases q2.2 with ⟨rfl, _⟩ | ⟨g', cap, cur, rfl, _, hh, _⟩
    · simp [Value.ownBlock] at hob
    · have : g' = g := by simpa [Value.ownBlock] using hob
      subst this
      rw [hh] at ho
      cases ho
      cases hc
theorem LfX.own {w : World} {B1 : Nat} (hB : w.heap.size ≤ B1) : OwnFrom B1 (fun xs V => LfX w xs V) := fun _ _ _ _ h hg hr =>
  ⟨h.lt, h.r1.kept hg (fun r e => (hr r e).2), h.r2.kept hg (fun r e => (hr r e).2), h.bel.grown hg h.bel.size (fun k e => Nat.le_trans hB (hr k e).1)⟩
theorem LfI.below_ {w : World} {Lb : Nat} {xs : List Spt} {V V' : World} (h : LfI w Lb xs V) (hb : Below V.heap.size V V') : LfI w Lb xs V' := by
  obtain ⟨S, q1, q2⟩ := h.s
  exact ⟨h.le, Nat.le_trans h.sz hb.size, ⟨S, q1.below hb q1.lt, q2.kept (grown_none hb) (by cases S.ownBlock <;> simp)⟩, h.r1.below hb h.r1.lt, h.r2.below hb h.r2.lt, bel_then h.bel hb⟩
set_option maxRecDepth 100000 in
set_option maxHeartbeats 4000000 in
theorem leaves40_c {d : Nat} {t : Tp d} {v0 v1 v2 v3 v4 v5 v6 : Value} {w : World} (ht : TyAt w d t [v0, v1, v2, v3, v4, v5, v6]) :
    Calls Try.prog 40 #[.agg #[v0, v1, v2, v3, v4, v5, v6]] w fun e w' => ∃ (A : Option Addr) (n c : Nat), e = .returned (.tuple #[.slice A n c, .int .i64 (leafE d t)]) ∧ Spts w.heap.size w' A n (leafL d t) ∧ Below w.heap.size w w' := by
  obtain ⟨xn, E1, E2, m1, m2, d1, d2, xpk, xal, hcs⟩ := ht.form
  simp only [List.cons.injEq, and_true] at hcs
  obtain ⟨rfl, rfl, rfl, rfl, rfl, rfl, rfl⟩ := hcs
  have hR := fun w' (hb : Below w.heap.size w w') => right_c (ht.below hb)
  obtain ⟨er, her⟩ : ∃ x, errS d t = x := ⟨_, rfl⟩
  rw [her] at hR
  replace hR := Lib.hid hR
  have HE := Lib.hid her
  have HT := Lib.hid ht
  clear her ht
  cases hq : (er == 0) with
  | false =>
    have H0 := Lib.hid (show er ≠ 0 by simpa using hq)
    have h' : (er != 0) = true := by rw [bne, hq]; rfl
    go_enter Try.func40, Try.ntmps40
    go_wp2_with fail
    refine (hR.out _ (bel_alloc (bel_alloc (bel_alloc (Below.refl _ _) _) _) _)).mono ?_
    rintro e w1 ⟨rfl, hb1⟩
    have g1 := ((Bk.new1 w (.cells #[.int .i64 (tsh d t), .int .i64 (tk d t), .int .i64 xn, .slice E1 m1 d1, .slice E2 m2 d2, .bool xpk, .int .i64 xal] 38) 42 #[.slice none 0 0]).alloc (.cells #[.int .i64 0] 23)).below hb1 (by simp)
    have g2 := (Bk.new2 w (.cells #[.int .i64 (tsh d t), .int .i64 (tk d t), .int .i64 xn, .slice E1 m1 d1, .slice E2 m2 d2, .bool xpk, .int .i64 xal] 38) (.cells #[.slice none 0 0] 42) 23 #[.int .i64 0]).below hb1 (by simp)
    have HB1 := Lib.hid (bel_then (bel_alloc (bel_alloc (bel_alloc (Below.refl _ _) _) _) _) hb1)
    clear hb1
    have c1 := g1.at_ (i := 0) rfl
    have c2 := g2.at_ (i := 0) rfl
    have f1 := g1.frozen 0
    have f2 := g2.frozen 0
    go_wp2_with fail
    have hg1 := ((g1.set_ 0 (.slice none 0 0)).far (p := ⟨w.heap.size + 1 + 1, 0, none⟩) (by simp only; omega) (.int .i64 er))
    have hg2 := ((g2.far (p := ⟨w.heap.size + 1, 0, none⟩) (by simp only; omega) (.slice none 0 0)).set_ 0 (.int .i64 er))
    have hbe := bel_set (bel_set HB1.out (p := ⟨w.heap.size + 1, 0, none⟩) (by simp only; omega) (.slice none 0 0)) (p := ⟨w.heap.size + 1 + 1, 0, none⟩) (by simp only; omega) (.int .i64 er)
    generalize World.setCell _ _ _ = W5 at hg1 hg2 hbe ⊢
    refine bodyPost_ret (results40 rfl rfl hg1 hg2) rfl ⟨none, 0, 0, ?_, ?_, hbe⟩
    · unfold leafE; rw [if_neg (by rw [HE.out]; exact H0.out), HE.out]
    · have : leafL d t = [] := by
        unfold leafL leafE
        rw [if_neg (by rw [HE.out, if_neg H0.out]; exact H0.out)]
      rw [this]
      exact ⟨⟨rfl, fun i s hs => by simp at hs⟩, fun a ha => by cases ha⟩
  | true =>
    obtain rfl : er = 0 := by simpa using hq
    clear hq
    refine (callsIn_wide (n := 9)).1 (callsIn_of_wp_marks Try.func40 rfl trivial ?_ rfl)
    simp only [Try.ntmps40, List.size_toArray, List.length_cons, List.length_nil, Nat.reduceAdd, Nat.reduceSub, Array.replicate_succ, Array.replicate_zero, List.push_toArray, List.append_toArray, List.nil_append, List.cons_append]
    gi_wp2_with fail
    refine (callsIn_wide.2 (hR.out _ (bel_alloc (bel_alloc (bel_alloc (Below.refl _ _) _) _) _))).mono ?_
    rintro e w1 ⟨rfl, hb1⟩
    have g0 := (((Bk.new w 38 #[.int .i64 (tsh d t), .int .i64 (tk d t), .int .i64 xn, .slice E1 m1 d1, .slice E2 m2 d2, .bool xpk, .int .i64 xal]).alloc (.cells #[.slice none 0 0] 42)).alloc (.cells #[.int .i64 0] 23)).below hb1 (by simp; omega)
    have g1 := ((Bk.new1 w (.cells #[.int .i64 (tsh d t), .int .i64 (tk d t), .int .i64 xn, .slice E1 m1 d1, .slice E2 m2 d2, .bool xpk, .int .i64 xal] 38) 42 #[.slice none 0 0]).alloc (.cells #[.int .i64 0] 23)).below hb1 (by simp)
    have g2 := (Bk.new2 w (.cells #[.int .i64 (tsh d t), .int .i64 (tk d t), .int .i64 xn, .slice E1 m1 d1, .slice E2 m2 d2, .bool xpk, .int .i64 xal] 38) (.cells #[.slice none 0 0] 42) 23 #[.int .i64 0]).below hb1 (by simp)
    have hB1 := bel_then (bel_alloc (bel_alloc (bel_alloc (Below.refl _ _) _) _) _) hb1
    have t0 := g0.at_ (i := 0) rfl
    have t1 := g0.at_ (i := 1) rfl
    have t2 := g0.at_ (i := 2) rfl
    have t3 := g0.at_ (i := 3) rfl
    have t4 := g0.at_ (i := 4) rfl
    have t5 := g0.at_ (i := 5) rfl
    have t6 := g0.at_ (i := 6) rfl
    have hz1 : w.heap.size + 1 + 1 < w1.heap.size := g2.lt
    have hz0 : w.heap.size < w1.heap.size := by omega
    clear hb1
    gi_wp2_with fail
    refine (callsIn_wide.2 (leaves76_c _ _ _ _ _ _ _ _ _ _ _ _ _)).mono ?_
    rintro e w3 ⟨rfl, hw3⟩
    gi_wp2_with fail
    have hsz3 : w3.heap.size = w1.heap.size + 3 := by rw [← hw3]; simp
    have g5 : Bk w3 w1.heap.size 42 #[.slice none 0 0] := by rw [← hw3]; exact ((Bk.new w1 _ _).alloc _).alloc _
    have g6 : Bk w3 (w1.heap.size + 1) 38 #[.int .i64 (tsh d t), .int .i64 (tk d t), .int .i64 xn, .slice E1 m1 d1, .slice E2 m2 d2, .bool xpk, .int .i64 xal] := by rw [← hw3]; exact (Bk.new1 w1 _ _ _).alloc _
    have g7 : Bk w3 (w1.heap.size + 1 + 1) 2 #[.int .i64 0] := by rw [← hw3]; exact Bk.new2 w1 _ _ _ _
    have hb13 : Below w1.heap.size w1 w3 := by rw [← hw3]; exact bel_alloc (bel_alloc (bel_alloc (Below.refl _ _) _) _) _
    have hB3 := Lib.hid (bel_then hB1 hb13)
    have q1 := g1.below hb13 g1.lt
    have q2 := g2.below hb13 g2.lt
    obtain ⟨hpl, hbx⟩ := err_0 HE.out
    obtain ⟨ok1, ok2, ok3, ok4⟩ := boxS_ok d t 6 _ hpl hbx
    have hob := ownB_nil g5
    have hnm : ∀ k, w1.heap.size < k → ¬ Mine w.heap.size w1.heap.size w3 k := fun k hk h => by
      rcases h with h | h
      · omega
      · rw [hob] at h; cases h
    have hokm : ∀ k, Mine w.heap.size w1.heap.size w3 k → k < w3.heap.size := fun k h => by
      rcases h with h | h
      · omega
      · rw [hob] at h; cases h
    have hLv : LvH w w1.heap.size (w1.heap.size + 1) (w1.heap.size + 1 + 1) d t [.int .i64 (tsh d t), .int .i64 (tk d t), .int .i64 xn, .slice E1 m1 d1, .slice E2 m2 d2, .bool xpk, .int .i64 xal] (boxD d t) 0 w3 :=
      ⟨hB3.out, HT.out, hpl, hbx, by omega, by omega, g6, hnm _ (by omega), g7, hnm _ (by omega), hokm, by omega⟩
    have hseq := lv_c d w w1.heap.size _ _ t _ _ 0 w3 hLv
    clear hw3 hpl hbx ok1 ok2 ok3 ok4 t0 t1 t2 t3 t4 t5 t6 g0 g1 g2 g6 g7 hB1 hb13 hLv
    refine range_qi (α := Spt) (gf := 107) (lb := #[.pointer (some ⟨w1.heap.size + 1, 0, none⟩), .pointer (some ⟨w1.heap.size + 1 + 1, 0, none⟩)]) rfl (enters_of Try.func107 (by kernel_rfl) rfl) hseq (by omega) (by omega) hokm (fun _ => rfl)
      (fun p V => LfI w w1.heap.size p V)
      (fun c p V => c = .ret ∧ LfX w p V)
      (LfI.own (by omega)) (fun c s A C row h hg hr => ⟨h.1, LfX.own (by omega) s A C row h.2 hg hr⟩) ⟨by simp, by omega, ⟨_, g5, World.ownsRow_nil _ _ _ _⟩, q1, q2, hB3.out⟩
      (fun p y a' V => LfI w w1.heap.size p V ∧ ∃ Bx, Bk V Bx 48 #[.int .i64 y.bit, .int .i64 y.bits, .int .i64 y.k] ∧ a' = ⟨(List.toArray ((.agg #[.int .i64 (tsh d t), .int .i64 (tk d t), .int .i64 xn, .slice E1 m1 d1, .slice E2 m2 d2, .bool xpk, .int .i64 xal]) :: (.pointer (some ⟨w.heap.size, 0, none⟩)) :: (.pointer (some ⟨w.heap.size + 1, 0, none⟩)) :: (.pointer (some ⟨w.heap.size + 1 + 1, 0, none⟩)) :: (.int .i64 0) :: (.pointer (some ⟨w1.heap.size, 0, none⟩)) :: (.pointer (some ⟨Bx, 0, none⟩)) :: (.agg #[.int .i64 (tsh d t), .int .i64 (tk d t), .int .i64 xn, .slice E1 m1 d1, .slice E2 m2 d2, .bool xpk, .int .i64 xal]) :: (.int .i64 0) :: (.int .i64 0) :: (.bool false) :: (undef) :: (.agg #[.int .i64 (tsh d t), .int .i64 (tk d t), .int .i64 xn, .slice E1 m1 d1, .slice E2 m2 d2, .bool xpk, .int .i64 xal]) :: (.func (.func 107) #[] #[.pointer (some ⟨w1.heap.size + 1, 0, none⟩), .pointer (some ⟨w1.heap.size + 1 + 1, 0, none⟩)]) :: (.agg #[.int .i64 y.bit, .int .i64 y.bits, .int .i64 y.k]) :: (undef) :: (undef) :: (undef) :: (undef) :: (undef) :: (undef) :: (undef) :: (undef) :: [])), []⟩)
      ?hAx ?assign ?body ?done ?stop
    case hAx =>
      rintro p y a' s A C row ⟨h1, Bx, h4, h5⟩ hg hr
      exact ⟨LfI.own (by omega) p A C row h1 hg hr, Bx, h4.kept hg (fun r e => (hr r e).2), h5⟩
    case assign =>
      intro r p y V K hi hK
      have hb := bel_alloc (Below.refl V.heap.size V) (.cells #[.int .i64 y.bit, .int .i64 y.bits, .int .i64 y.k] 48)
      have hsV := hi.bel.size
      obtain ⟨_, hS0, _⟩ := hi.s
      have hlV := hS0.lt
      simp only [Spt.encs, List.zip_toArray, List.zip_cons_cons, List.zip_nil_right, List.foldl_toArray', List.size_toArray, List.length_cons, List.length_nil, Nat.reduceAdd, List.foldl_cons, List.foldl_nil, List.setIfInBounds_toArray, List.set_cons_succ, List.set_cons_zero] at hK ⊢
      gi_wp2_with fail
      exact hK _ _ (KpQ.of_below hb hsV hlV) ⟨hi.below_ hb, V.heap.size, Bk.new _ _ _, rfl⟩
    case body =>
      rintro r p y a' V hr ⟨hi, Bx, hBx, rfl⟩
      obtain ⟨S, qS, hrow⟩ := hi.s
      obtain ⟨SA, sc, rfl, hsp⟩ := spts_of_row hrow
      have hle := hi.le
      have hszV := hi.sz
      have y0 := hBx.at_ (i := 0) rfl
      have y1 := hBx.at_ (i := 1) rfl
      have y2 := hBx.at_ (i := 2) rfl
      have s0 := qS.at_ (i := 0) rfl
      have fs0 := qS.frozen 0
      have hlV := qS.lt
      have hBxl := hBx.lt
      cases hq2 : ((p.length : Int) == 2000) with
      | true =>
        have e2000 : p.length = 2000 := by have := hq2; simp at this; omega
        have c1 := hi.r1.at_ (i := 0) rfl
        have c2 := hi.r2.at_ (i := 0) rfl
        have f1 := hi.r1.frozen 0
        have f2 := hi.r2.frozen 0
        have E2 := Lib.hid e2000
        clear e2000
        gi_wp2_with fail
        have hg1 := ((hi.r1.set_ 0 (.slice none 0 0)).far (p := ⟨w.heap.size + 1 + 1, 0, none⟩) (by simp only; omega) (.int .i64 101))
        have hg2 := ((hi.r2.far (p := ⟨w.heap.size + 1, 0, none⟩) (by simp only; omega) (.slice none 0 0)).set_ 0 (.int .i64 101))
        have hbe := (hi.bel.setCell (p := ⟨w.heap.size + 1, 0, none⟩) (by simp only; omega) (.slice none 0 0)).setCell (p := ⟨w.heap.size + 1 + 1, 0, none⟩) (by simp only; omega) (.int .i64 101)
        have hkq := (KpQ.set_ (n₀ := w.heap.size) (Lb := w1.heap.size) (B0 := w3.heap.size) (W := V) (b := w.heap.size + 1) (by omega) (by omega) 0 (.slice none 0 0)).trans (KpQ.set_ (b := w.heap.size + 1 + 1) (by omega) (by omega) 0 (.int .i64 101))
        exact ⟨hkq, rfl, by rw [List.length_append, E2.out]; simp, hg1, hg2, hbe⟩
      | false =>
        have hlt2 : p.length < 2000 := by have := hq2; simp at this; omega
        obtain ⟨i0, hi0, hz0', hz1', hz2'⟩ := info_parts info48
        gi_wp2_with (gi_at_builtin; refine wpListIn_append_own_at _ rfl (.tmp 18) (.tmp 20) 42 rfl (w1.heap.size + 1 + 1 + 1) 48 i0 _ 3 24 Try.underlying42 hi0 hz0' hz1' hz2' rfl (by decide) _ _ _ rfl (hrow.alloc _) ⟨V.heap.size, 0, none⟩ 1 1 [.int .i64 y.bit, .int .i64 y.bits, .int .i64 y.k] rfl rfl (new_cells _ _ _) (by simp [Value.oneCell']) (by unfold maxLen; omega) (by omega) (by simp; omega) ?_; intro v' w7 hown' hgrow _ hat; obtain ⟨g', cap', rfl⟩ := ownsRow_succ hown'; have HG := Lib.hid hgrow; have HO := Lib.hid hown'; have HA := Lib.hid hat; have qS7 := (qS.alloc (.cells #[.int .i64 y.bit, .int .i64 y.bits, .int .i64 y.k] 48)).grown hgrow (own_ne' hrow (by omega)); have s7 := qS7.at_ (i := 0) rfl; have fs7 := qS7.frozen 0; clear hgrow hown' hat s0 fs0 y0 y1 y2)
        have hr9 := HO.out.kept (grown_set w7 w1.heap.size 0 (.slice (some ⟨g', 0, none⟩) (p.length + 1) cap')) (.inr (own_ne HO.out (by omega)))
        have hkq := KpQ.app (n₀ := w.heap.size) (Lb := w1.heap.size) (B0 := w3.heap.size) hlV (by omega) (by omega) (qS.at_ (i := 0) rfl) hrow (by omega) HG.out HO.out HA.out
        have hb9 := hi.bel.trans hkq.bel
        have r19 : Bk (w7.setCell ⟨w1.heap.size, 0, none⟩ (.slice (some ⟨g', 0, none⟩) (p.length + 1) cap')) (w.heap.size + 1) 42 #[.slice none 0 0] := ((hi.r1.alloc _).grown HG.out (own_ne' hrow (by omega))).far (by simp only; omega) _
        have r29 : Bk (w7.setCell ⟨w1.heap.size, 0, none⟩ (.slice (some ⟨g', 0, none⟩) (p.length + 1) cap')) (w.heap.size + 1 + 1) 23 #[.int .i64 0] := ((hi.r2.alloc _).grown HG.out (own_ne' hrow (by omega))).far (by simp only; omega) _
        refine ⟨hkq, ⟨by simp; omega, Nat.le_trans hszV hkq.keeps.size, ⟨_, qS7.set_ 0 _, ?_⟩, r19, r29, hb9⟩⟩
        rw [sptC_snoc, List.length_append]
        exact hr9
    case done =>
      intro V hi hD
      obtain ⟨S, qS, hrow⟩ := hi.s
      obtain ⟨SA, sc, rfl, hsp⟩ := spts_of_row hrow
      have s0 := qS.at_ (i := 0) rfl
      have c1 := hi.r1.at_ (i := 0) rfl
      have c2 := hi.r2.at_ (i := 0) rfl
      have f1 := hi.r1.frozen 0
      have f2 := hi.r2.frozen 0
      have hlV := qS.lt
      have hle := hi.le
      have hE0 : leafE d t = 0 := by unfold leafE; rw [if_pos HE.out, if_neg (by omega)]
      have hL0 : leafL d t = leavesS d t 0 := by unfold leafL; rw [if_pos hE0]
      have HE0 := Lib.hid hE0
      have HL0 := Lib.hid hL0
      have hlt3 := lt_of_at hD
      have hle3 := hi.sz
      clear hE0 hL0
      gi_wp2_with fail
      have hg1 := ((hi.r1.set_ 0 (.slice SA (leavesS d t 0).length sc)).far (p := ⟨w.heap.size + 1 + 1, 0, none⟩) (by simp only; omega) (.int .i64 0))
      have hg2 := ((hi.r2.far (p := ⟨w.heap.size + 1, 0, none⟩) (by simp only; omega) (.slice SA (leavesS d t 0).length sc)).set_ 0 (.int .i64 0))
      have hbe := (hi.bel.setCell (p := ⟨w.heap.size + 1, 0, none⟩) (by simp only; omega) (.slice SA (leavesS d t 0).length sc)).setCell (p := ⟨w.heap.size + 1 + 1, 0, none⟩) (by simp only; omega) (.int .i64 0)
      have hst := (hsp.set_ (g := w.heap.size + 1) (by omega) 0 (.slice SA (leavesS d t 0).length sc)).set_ (g := w.heap.size + 1 + 1) (by omega) 0 (.int .i64 0)
      have hD2 : ((V.setCell ⟨w.heap.size + 1, 0, none⟩ (.slice SA (leavesS d t 0).length sc)).setCell ⟨w.heap.size + 1 + 1, 0, none⟩ (.int .i64 0)).heap[w3.heap.size]? = some (.deferred (some [])) := (Below.heap_setCell _ _ _ _ (by simp only; omega)).trans ((Below.heap_setCell _ _ _ _ (by simp only; omega)).trans hD)
      generalize World.setCell _ _ _ = W5 at hg1 hg2 hbe hst hD2 ⊢
      refine leaves_marks (LfZ w 0 (leavesS d t 0)) w.heap.size LfZ.put ?_ [w3.heap.size] W5 ⟨SA, _, sc, hg1, hg2, hst.1, fun a ha => Nat.le_trans (by omega) (hst.2 a ha), hbe⟩ (by simp) (fun D hD' => by rw [List.mem_singleton] at hD'; rw [hD']; exact ⟨by omega, hD2⟩)
      rintro W6 ⟨A, n, c, h1, h2, h3, h4, h5⟩
      refine ⟨_, results40 rfl rfl h1 h2, A, n, c, by rw [HE0.out], by rw [HL0.out]; exact ⟨h3, h4⟩, h5⟩
    case stop =>
      rintro c p V hpr ⟨rfl, hx⟩ hD
      have hlp := List.IsPrefix.length_le hpr
      have hlt := hx.lt
      have hE0 : leafE d t = 101 := by unfold leafE; rw [if_pos HE.out, if_pos (by omega)]
      have hL0 : leafL d t = [] := by unfold leafL; rw [if_neg (by rw [hE0]; decide)]
      have HE0 := Lib.hid hE0
      have HL0 := Lib.hid hL0
      clear hE0 hL0 hlp hlt
      gi_wp2_with fail
      refine leaves_marks (LfZ w 101 []) w.heap.size LfZ.put ?_ [w3.heap.size] V ⟨none, 0, 0, hx.r1, hx.r2, ⟨rfl, fun i s hs => by simp at hs⟩, (fun a ha => by cases ha), hx.bel⟩ (by simp) (fun D hD' => by rw [List.mem_singleton] at hD'; rw [hD']; exact ⟨by omega, hD⟩)
      rintro W6 ⟨A, n, c, h1, h2, h3, h4, h5⟩
      refine ⟨_, results40 rfl rfl h1 h2, A, n, c, by rw [HE0.out], by rw [HL0.out]; exact ⟨h3, h4⟩, h5⟩
end Go.Proofs.Ytcggghamnmflcaa

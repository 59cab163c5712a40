/- The iterator of shape.leaves: its contract; integers and pointers. -/
import Derived.Test.YtcggghamnmflcaaLva
import Derived.Laws.EntriesVeiled
namespace Go.Proofs.Ytcggghamnmflcaa
open Go Go.RowKit Go.Shelf
attribute [local go_sem] wide_fn Oper.semAt_some
/-- What the iterator's caller holds ready. -/
structure LvH (w0 : World) (Lb Tb Fb : Nat) (d : Nat) (t : Tp d) (cs : List Value) (b : Bx) (fr : Int) (w : World) : Prop where
  hw : Below w0.heap.size w0 w
  ty : TyAt w0 d t cs
  pl : plainS d t 6 = true
  bx : boxS d t = some b
  f0 : 0 ≤ fr
  f1 : fr + 8 * b.size ≤ 1000000
  tb : Bk w Tb 38 cs.toArray
  nt : ¬ Mine w0.heap.size Lb w Tb
  fb : Bk w Fb 2 #[.int .i64 fr]
  nf : ¬ Mine w0.heap.size Lb w Fb
  ok : ∀ k, Mine w0.heap.size Lb w k → k < w.heap.size
  lb : Lb < w.heap.size
theorem LvH.at_ {w0 : World} {Lb Tb Fb d : Nat} {t : Tp d} {cs : List Value} {b : Bx} {fr : Int} {w W : World} (h : LvH w0 Lb Tb Fb d t cs b fr w) (k : TrQ w0.heap.size Lb w W) : LvH w0 Lb Tb Fb d t cs b fr W :=
  ⟨h.hw.trans k.bel, h.ty, h.pl, h.bx, h.f0, h.f1, (k.bk h.tb h.nt).1, (k.bk h.tb h.nt).2, (k.bk h.fb h.nf).1, (k.bk h.fb h.nf).2, k.ok, Nat.lt_of_lt_of_le h.lb k.bel.size⟩
/-- What the iterator is to give. -/
def LvC (d : Nat) : Prop := ∀ (w0 : World) (Lb Tb Fb : Nat) (t : Tp d) (cs : List Value) (b : Bx) (fr : Int) (w : World), LvH w0 Lb Tb Fb d t cs b fr w →
  SeqQ Try.prog w0.heap.size Lb 107 #[.pointer (some ⟨Tb, 0, none⟩), .pointer (some ⟨Fb, 0, none⟩)] Spt.encs (leavesS d t fr) w
theorem TyAt.bare {w : World} {d : Nat} {t : Nd (Tp d)} {cs : List Value} (h : TyAt w (d + 1) t cs) (hb : bareS t = true) : ∃ (A1 A2 : Option Addr) (c1 c2 : Nat), cs = [.int .i64 t.sh, .int .i64 t.k, .int .i64 t.n, .slice A1 t.of.length c1, .slice A2 0 c2, .bool false, .int .i64 0] ∧ I64 t.k ∧ I64 t.n := by
  obtain ⟨A1, A2, c1, c2, e, b1, b2, b3, b4, _⟩ := h
  unfold bareS at hb
  simp only [Bool.and_eq_true, List.isEmpty_iff, Bool.not_eq_true', beq_iff_eq] at hb
  obtain ⟨⟨h1, h2⟩, h3⟩ := hb
  rw [h1, h2, h3] at e
  exact ⟨A1, A2, c1, c2, e, b2, b3⟩
set_option maxRecDepth 100000 in
set_option maxHeartbeats 4000000 in
theorem lv_int {d : Nat} {w0 : World} {Lb Tb Fb : Nat} {t : Nd (Tp d)} {cs : List Value} {b : Bx} {fr : Int} {w : World} (h : LvH w0 Lb Tb Fb (d + 1) t cs b fr w) (hs : t.sh = 1) :
    SeqQ Try.prog w0.heap.size Lb 107 #[.pointer (some ⟨Tb, 0, none⟩), .pointer (some ⟨Fb, 0, none⟩)] Spt.encs (leavesS (d + 1) t fr) w := by
  intro l J Jx W hT _ hJ hJx hY h0
  replace h := h.at_ hT
  clear hT
  have hpl := h.pl
  rw [show plainS (d + 1) t 6 = _ from plain_1 (by omega) hs] at hpl
  simp only [Bool.and_eq_true] at hpl
  obtain ⟨A1, A2, c1, c2, rfl, hk, hn⟩ := h.ty.bare hpl.1
  have hbb := h.bx
  rw [show boxS (d + 1) t = _ from boxS_int (d := d + 1) (t := t) hs] at hbb
  obtain rfl := (Option.some.inj hbb).symm
  have h0e := (err_of h.pl (by omega) h.bx)
  have HL := fun w' (hb : Below W.heap.size W w') => lie6_c (h.ty.below (h.hw.trans (hb.mono h.hw.size)))
  rw [h0e.1, h0e.2.1] at HL
  have hX : leavesS (d + 1) t fr = [⟨fr, 8 * ksize t.k, t.k⟩] := by
    show (if Nd.sh t = 1 then _ else _) = _
    rw [if_pos hs]
  obtain ⟨X, hXX⟩ : ∃ X, leavesS (d + 1) t fr = X := ⟨_, rfl⟩
  rw [hXX] at hX ⊢
  obtain ⟨k1, k2⟩ := ksize_pos hpl.2.1
  have e1 : tk (d + 1) t = t.k := rfl
  rw [e1] at HL
  have tb := h.tb
  have fb := h.fb
  obtain ⟨sh, hsh⟩ : ∃ x, t.sh = x := ⟨_, rfl⟩
  obtain ⟨k, hkk⟩ : ∃ x, t.k = x := ⟨_, rfl⟩
  obtain ⟨n, hnn⟩ : ∃ x, t.n = x := ⟨_, rfl⟩
  obtain ⟨on, hon⟩ : ∃ x, t.of.length = x := ⟨_, rfl⟩
  obtain ⟨sz, hsz⟩ : ∃ sz, ksize t.k = sz := ⟨_, rfl⟩
  rw [hsh] at hs
  subst hs
  rw [hsh, hkk, hnn, hon] at tb
  rw [hsz] at HL hX k1 k2
  rw [hsh, hkk, hnn, hon] at HL
  rw [hkk] at hX
  have HH := Lib.hid h
  replace HL := Lib.hid HL
  have HX := Lib.hid hX
  have Y := fun V (hV : J [] V) => hY [] ⟨fr, 8 * sz, k⟩ V hV
  replace Y := Lib.hid Y
  have h1 := h.f0
  have h2 := h.f1
  have hTb := tb.lt
  have hFb := fb.lt
  have t0 := tb.at_ (i := 0) rfl
  have t1 := tb.at_ (i := 1) rfl
  have t2 := tb.at_ (i := 2) rfl
  have t3 := tb.at_ (i := 3) rfl
  have t4 := tb.at_ (i := 4) rfl
  have t5 := tb.at_ (i := 5) rfl
  have t6 := tb.at_ (i := 6) rfl
  have f0 := fb.at_ (i := 0) rfl
  clear hY hsh hkk hnn hon hsz hbb h0e hXX hX hpl e1 h hk hn
  refine (callsIn_wide (n := 9)).1 (callsIn_of_wp_marks Try.func107 rfl trivial ?_ rfl)
  simp only [Try.ntmps107, List.size_toArray, List.length_cons, List.length_nil, Nat.reduceAdd, Nat.reduceSub, Array.replicate_succ, Array.replicate_zero, List.push_toArray, List.append_toArray, List.nil_append, List.cons_append]
  gi_wp2_with fail
  refine (callsIn_wide.2 (HL.out _ (bel_alloc (Below.refl _ _) _))).mono ?_
  rintro e w1 ⟨sz', ag, A, nn, c, rfl, hx, hb1⟩
  obtain ⟨rfl, rfl, hsp⟩ := hx trivial
  have hb1' := bel_then (bel_alloc (Below.refl W.heap.size W) (.cells #[.func (.yield l) #[] #[]] 93)) hb1
  have hbV := bel_alloc hb1' (.cells #[.int .i64 ag, .int .i64 ag, .slice A nn c] 99)
  have hw1 : W.heap.size < w1.heap.size := by have := hb1.size; simp at this; omega
  have hTb1 : Tb < w1.heap.size := by omega
  have hFb1 : Fb < w1.heap.size := by omega
  have trV : TrQ w0.heap.size Lb W (w1.alloc (.cells #[.int .i64 ag, .int .i64 ag, .slice A nn c] 99)) := (TrQ.refl HH.out.ok).step (B0 := 0) (KpQ.of_below hbV HH.out.hw.size HH.out.lb)
  have hJV : J [] (w1.alloc (.cells #[.int .i64 ag, .int .i64 ag, .slice A nn c] 99)) := hJ [] W _ none h0 (grown_none hbV) (by simp)
  have HHV := Lib.hid (HH.out.at_ trV)
  replace t0 := bel_cell hb1' t0
  replace t1 := bel_cell hb1' t1
  replace f0 := bel_cell hb1' f0
  have y0 : w1.cell? ⟨W.heap.size, 0, none⟩ = some (.func (.yield l) #[] #[]) := bel_cell hb1 (cell_new _ _ _ 0 _ rfl)
  obtain ⟨fn, tmps, assign, body, hy, hR⟩ := yield_any (m' := 8) (Y.out _ hJV)
  dsimp only [Spt.encs] at hy
  have HVB := Lib.hid hbV
  clear t2 t3 t4 t5 t6 hb1 tb fb hsp hbV hx hb1'
  gi_wp2_with fail
  refine hR.mono ?_
  rintro e W3 (⟨rfl, hJ3, hk3⟩ | ⟨rfl, hJx3, hk3⟩)
  all_goals
    have tb3 := (HHV.out.at_ ((TrQ.refl HHV.out.ok).step hk3)).tb
    have t4 := tb3.at_ (i := 4) rfl
    clear tb3 t0 t1 f0 y0 hy hR hk3
    gi_wp2_with fail
    refine wpIn_loop_once ?_
    gi_wp2_with fail
  · exact ⟨_, results_none rfl _ _ _, ⟨_, rfl⟩, .inl (by rw [HX.out]; exact hJ3)⟩
  · exact ⟨_, results_none rfl _ _ _, ⟨_, rfl⟩, .inr ⟨_, by rw [HX.out]; exact List.prefix_refl _, hJx3⟩⟩
set_option maxRecDepth 100000 in
set_option maxHeartbeats 4000000 in
theorem lv_ptr {d : Nat} {w0 : World} {Lb Tb Fb : Nat} {t : Nd (Tp d)} {cs : List Value} {b : Bx} {fr : Int} {w : World} (h : LvH w0 Lb Tb Fb (d + 1) t cs b fr w) (hs : t.sh = 2) :
    SeqQ Try.prog w0.heap.size Lb 107 #[.pointer (some ⟨Tb, 0, none⟩), .pointer (some ⟨Fb, 0, none⟩)] Spt.encs (leavesS (d + 1) t fr) w := by
  intro l J Jx W hT _ hJ hJx hY h0
  replace h := h.at_ hT
  clear hT
  have hpl := h.pl
  rw [show plainS (d + 1) t 6 = _ from plain_2 (by omega) hs] at hpl
  simp only [Bool.and_eq_true] at hpl
  obtain ⟨A1, A2, c1, c2, rfl, hk, hn⟩ := h.ty.bare hpl.1
  have hbb := h.bx
  rw [show boxS (d + 1) t = _ from boxS_ptr hs] at hbb
  obtain rfl := (Option.some.inj hbb).symm
  have h0e := (err_of h.pl (by omega) h.bx)
  have HL := fun w' (hb : Below W.heap.size W w') => lie6_c (h.ty.below (h.hw.trans (hb.mono h.hw.size)))
  rw [h0e.1, h0e.2.1] at HL
  have hX : leavesS (d + 1) t fr = [⟨fr, 64, 8⟩] := by
    show (if Nd.sh t = 1 then _ else _) = _
    rw [if_neg (by omega), if_pos hs]
  obtain ⟨X, hXX⟩ : ∃ X, leavesS (d + 1) t fr = X := ⟨_, rfl⟩
  rw [hXX] at hX ⊢
  have tb := h.tb
  have fb := h.fb
  obtain ⟨sh, hsh⟩ : ∃ x, t.sh = x := ⟨_, rfl⟩
  obtain ⟨k, hkk⟩ : ∃ x, t.k = x := ⟨_, rfl⟩
  obtain ⟨n, hnn⟩ : ∃ x, t.n = x := ⟨_, rfl⟩
  obtain ⟨on, hon⟩ : ∃ x, t.of.length = x := ⟨_, rfl⟩
  rw [hsh] at hs
  subst hs
  rw [hsh, hkk, hnn, hon] at tb
  rw [hsh, hkk, hnn, hon] at HL
  have HH := Lib.hid h
  replace HL := Lib.hid HL
  have HX := Lib.hid hX
  have Y := fun V (hV : J [] V) => hY [] ⟨fr, 64, 8⟩ V hV
  replace Y := Lib.hid Y
  have h1 := h.f0
  have h2 := h.f1
  have hTb := tb.lt
  have hFb := fb.lt
  have t0 := tb.at_ (i := 0) rfl
  have t1 := tb.at_ (i := 1) rfl
  have t2 := tb.at_ (i := 2) rfl
  have t3 := tb.at_ (i := 3) rfl
  have t4 := tb.at_ (i := 4) rfl
  have t5 := tb.at_ (i := 5) rfl
  have t6 := tb.at_ (i := 6) rfl
  have f0 := fb.at_ (i := 0) rfl
  clear hY hsh hkk hnn hon hbb h0e hXX hX hpl h hk hn
  refine (callsIn_wide (n := 9)).1 (callsIn_of_wp_marks Try.func107 rfl trivial ?_ rfl)
  simp only [Try.ntmps107, List.size_toArray, List.length_cons, List.length_nil, Nat.reduceAdd, Nat.reduceSub, Array.replicate_succ, Array.replicate_zero, List.push_toArray, List.append_toArray, List.nil_append, List.cons_append]
  gi_wp2_with fail
  refine (callsIn_wide.2 (HL.out _ (bel_alloc (Below.refl _ _) _))).mono ?_
  rintro e w1 ⟨sz', ag, A, nn, c, rfl, hx, hb1⟩
  obtain ⟨rfl, rfl, hsp⟩ := hx trivial
  have hb1' := bel_then (bel_alloc (Below.refl W.heap.size W) (.cells #[.func (.yield l) #[] #[]] 93)) hb1
  have hbV := bel_alloc hb1' (.cells #[.int .i64 8, .int .i64 8, .slice A nn c] 99)
  have hw1 : W.heap.size < w1.heap.size := by have := hb1.size; simp at this; omega
  have hTb1 : Tb < w1.heap.size := by omega
  have hFb1 : Fb < w1.heap.size := by omega
  have trV : TrQ w0.heap.size Lb W (w1.alloc (.cells #[.int .i64 8, .int .i64 8, .slice A nn c] 99)) := (TrQ.refl HH.out.ok).step (B0 := 0) (KpQ.of_below hbV HH.out.hw.size HH.out.lb)
  have hJV : J [] (w1.alloc (.cells #[.int .i64 8, .int .i64 8, .slice A nn c] 99)) := hJ [] W _ none h0 (grown_none hbV) (by simp)
  have HHV := Lib.hid (HH.out.at_ trV)
  replace t0 := bel_cell hb1' t0
  replace t1 := bel_cell hb1' t1
  replace f0 := bel_cell hb1' f0
  have y0 : w1.cell? ⟨W.heap.size, 0, none⟩ = some (.func (.yield l) #[] #[]) := bel_cell hb1 (cell_new _ _ _ 0 _ rfl)
  obtain ⟨fn, tmps, assign, body, hy, hR⟩ := yield_any (m' := 8) (Y.out _ hJV)
  dsimp only [Spt.encs] at hy
  have HVB := Lib.hid hbV
  clear t2 t3 t4 t5 t6 hb1 tb fb hsp hbV hx hb1'
  gi_wp2_with fail
  refine hR.mono ?_
  rintro e W3 (⟨rfl, hJ3, hk3⟩ | ⟨rfl, hJx3, hk3⟩)
  all_goals
    have tb3 := (HHV.out.at_ ((TrQ.refl HHV.out.ok).step hk3)).tb
    have t4 := tb3.at_ (i := 4) rfl
    clear tb3 t0 t1 f0 y0 hy hR hk3
    gi_wp2_with fail
    refine wpIn_loop_once ?_
    gi_wp2_with fail
  · exact ⟨_, results_none rfl _ _ _, ⟨_, rfl⟩, .inl (by rw [HX.out]; exact hJ3)⟩
  · exact ⟨_, results_none rfl _ _ _, ⟨_, rfl⟩, .inr ⟨_, by rw [HX.out]; exact List.prefix_refl _, hJx3⟩⟩
end Go.Proofs.Ytcggghamnmflcaa

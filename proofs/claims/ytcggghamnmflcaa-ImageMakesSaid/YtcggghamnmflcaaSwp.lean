/- Contracts of shape.Right, shape.Size, shape.Members: whatever type. -/
import Derived.Test.YtcggghamnmflcaaSwo
namespace Go.Proofs.Ytcggghamnmflcaa
open Go Go.RowKit Go.Shelf
/-- Right's answer. -/
def errS (d : Nat) (t : Tp d) : Int := lieE d t 6
def boxD (d : Nat) (t : Tp d) : Bx := (boxS d t).getD ⟨0, 0, []⟩
def szS (d : Nat) (t : Tp d) : Int := if errS d t = 0 then (boxD d t).size else 0
def agS (d : Nat) (t : Tp d) : Int := if errS d t = 0 then (boxD d t).align else 0
def memE (d : Nat) (t : Tp d) : Int := if errS d t = 0 then (if tsh d t = 4 ∨ tsh d t = 5 then 0 else 100) else errS d t
def memL (d : Nat) (t : Tp d) : List Spt := if errS d t = 0 ∧ (tsh d t = 4 ∨ tsh d t = 5) then (boxD d t).l else []
theorem errS_vals (d : Nat) (t : Tp d) : errS d t = 0 ∨ errS d t = 100 ∨ errS d t = 101 := by
  unfold errS lieE
  split
  · split <;> simp
  · simp
theorem lie6 : LieC 6 := lie_c 6 (by omega)
/-- lie at MaxDeep, in plain words. -/
theorem lie6_c {d : Nat} {t : Tp d} {v0 v1 v2 v3 v4 v5 v6 : Value} {w : World} (ht : TyAt w d t [v0, v1, v2, v3, v4, v5, v6]) :
    Calls Try.prog 77 #[.agg #[v0, v1, v2, v3, v4, v5, v6], .int .i64 6] w fun e w' => ∃ (sz ag : Int) (A : Option Addr) (n c : Nat), e = .returned (.tuple #[.agg #[.int .i64 sz, .int .i64 ag, .slice A n c], .int .i64 (errS d t)]) ∧ (errS d t = 0 → sz = (boxD d t).size ∧ ag = (boxD d t).align ∧ Spts w.heap.size w' A n (boxD d t).l) ∧ Below w.heap.size w w' := by
  refine (lie6 d t _ _ _ _ _ _ _ w ht).mono fun e w' ⟨x, he, h1, h2, h3⟩ => ?_
  refine ⟨x.sz, x.ag, x.A, x.n, x.c, by rw [he, h1]; rfl, fun h0 => ?_, h3⟩
  have h0' : 0 = lieE d t 6 := h0.symm
  obtain ⟨_, b, hb⟩ := lieE_0 h0'
  have := h2 (h1.trans h0) b hb
  unfold boxD
  rw [hb]
  exact this
set_option maxRecDepth 100000 in
theorem right_c {d : Nat} {t : Tp d} {v0 v1 v2 v3 v4 v5 v6 : Value} {w : World} (ht : TyAt w d t [v0, v1, v2, v3, v4, v5, v6]) :
    Calls Try.prog 50 #[.agg #[v0, v1, v2, v3, v4, v5, v6]] w fun e w' => e = .returned (.int .i64 (errS d t)) ∧ Below w.heap.size w w' := by
  go_enter Try.func50, Try.ntmps50
  go_wp2_with (go_at_call 77; refine (lie6_c (ht.below (bel_alloc (Below.refl _ _) _))).mono ?_; rintro e w1 ⟨sz, ag, A, n, c, rfl, -, hb⟩; have HB := Lib.hid hb; clear hb)
  go_ret
  exact ⟨rfl, bel_alloc (bel_then (bel_alloc (Below.refl _ _) _) HB.out) _⟩
theorem ret_iii {a b c a' b' c' : Int} (h1 : a = a') (h2 : b = b') (h3 : c = c') : Ending.returned (.tuple #[.int .i64 a, .int .i64 b, .int .i64 c]) = .returned (.tuple #[.int .i64 a', .int .i64 b', .int .i64 c']) := by rw [h1, h2, h3]
set_option maxRecDepth 100000 in
theorem ssize_c {d : Nat} {t : Tp d} {v0 v1 v2 v3 v4 v5 v6 : Value} {w : World} (ht : TyAt w d t [v0, v1, v2, v3, v4, v5, v6]) :
    Calls Try.prog 41 #[.agg #[v0, v1, v2, v3, v4, v5, v6]] w fun e w' => e = .returned (.tuple #[.int .i64 (szS d t), .int .i64 (agS d t), .int .i64 (errS d t)]) ∧ Below w.heap.size w w' := by
  cases h : (errS d t == 0) with
  | true =>
    have h0 : errS d t = 0 := by simpa using h
    have H0 := Lib.hid h0
    clear h
    have hL := lie6_c (ht.below (bel_alloc (Below.refl _ _) (.cells #[v0, v1, v2, v3, v4, v5, v6] 38)))
    rw [h0] at hL
    clear h0
    go_enter Try.func41, Try.ntmps41
    go_wp2_with (go_at_call 77; refine hL.mono ?_; rintro e w1 ⟨sz, ag, A, n, c, rfl, hx, hb⟩; have HX := Lib.hid hx; have HB := Lib.hid hb; clear hx hb)
    go_quiet (fail)
    go_wp2
    go_ret3
    refine ⟨ret_iii ?_ ?_ ?_, bel_drewN (bel_alloc (bel_then (bel_alloc (Below.refl _ _) _) HB.out) _) _⟩
    · unfold szS; rw [if_pos H0.out]; exact (HX.out trivial).1
    · unfold agS; rw [if_pos H0.out]; exact (HX.out trivial).2.1
    · exact H0.out.symm
  | false =>
    have h0 : errS d t ≠ 0 := by simpa using h
    have H0 := Lib.hid h0
    clear h0
    have hL := lie6_c (ht.below (bel_alloc (Below.refl _ _) (.cells #[v0, v1, v2, v3, v4, v5, v6] 38)))
    obtain ⟨er, her⟩ : ∃ x, errS d t = x := ⟨_, rfl⟩
    rw [her] at hL h
    have HE := Lib.hid her
    clear her
    have h' : (er != 0) = true := by rw [bne, h]; rfl
    go_enter Try.func41, Try.ntmps41
    go_wp2_with (go_at_call 77; refine hL.mono ?_; rintro e w1 ⟨sz, ag, A, n, c, rfl, hx, hb⟩; have HB := Lib.hid hb; clear hx hb)
    go_ret3
    refine ⟨ret_iii ?_ ?_ ?_, bel_alloc (bel_then (bel_alloc (Below.refl _ _) _) HB.out) _⟩
    · unfold szS; rw [if_neg H0.out]
    · unfold agS; rw [if_neg H0.out]
    · exact HE.out.symm
theorem TyAt.cell0 {w : World} {d : Nat} {t : Tp d} {v0 v1 v2 v3 v4 v5 v6 : Value} (h : TyAt w d t [v0, v1, v2, v3, v4, v5, v6]) : v0 = .int .i64 (tsh d t) := by
  cases d with
  | zero => exact nomatch t
  | succ d =>
    obtain ⟨A1, A2, c1, c2, e, _⟩ := h
    simp only [List.cons.injEq] at e
    exact e.1
set_option maxRecDepth 100000 in
theorem members_c {d : Nat} {t : Tp d} {v0 v1 v2 v3 v4 v5 v6 : Value} {w : World} (ht : TyAt w d t [v0, v1, v2, v3, v4, v5, v6]) :
    Calls Try.prog 45 #[.agg #[v0, v1, v2, v3, v4, v5, v6]] w fun e w' => ∃ (A : Option Addr) (n c : Nat), e = .returned (.tuple #[.slice A n c, .int .i64 (memE d t)]) ∧ Spts w.heap.size w' A n (memL d t) ∧ Below w.heap.size w w' := by
  obtain rfl := ht.cell0
  obtain ⟨sh, hsh⟩ : ∃ x, tsh d t = x := ⟨_, rfl⟩
  have HSH := Lib.hid hsh
  rw [hsh] at ht ⊢
  clear hsh
  have hL := lie6_c (ht.below (bel_alloc (Below.refl _ _) (.cells #[.int .i64 sh, v1, v2, v3, v4, v5, v6] 38)))
  obtain ⟨er, her⟩ : ∃ x, errS d t = x := ⟨_, rfl⟩
  rw [her] at hL
  have HE := Lib.hid her
  clear her
  cases h : (er == 0) with
  | false =>
    have H0 := Lib.hid (show ¬ errS d t = 0 by rw [HE.out]; simpa using h)
    have h' : (er != 0) = true := by rw [bne, h]; rfl
    go_enter Try.func45, Try.ntmps45
    go_wp2_with (go_at_call 77; refine hL.mono ?_; rintro e w1 ⟨sz, ag, A, n, c, rfl, hx, hb⟩; have HB := Lib.hid hb; clear hx hb)
    go_ret2
    refine ⟨none, 0, 0, ?_, ?_, bel_alloc (bel_then (bel_alloc (Below.refl _ _) _) HB.out) _⟩
    · unfold memE; rw [if_neg H0.out, HE.out]; rfl
    · unfold memL; rw [if_neg (fun h => H0.out h.1)]; exact ⟨⟨rfl, fun i s hs => by simp at hs⟩, fun a ha => by cases ha⟩
  | true =>
    obtain rfl : er = 0 := by simpa using h
    clear h
    by_cases hs : sh = 4 ∨ sh = 5
    · have hss : tsh d t = 4 ∨ tsh d t = 5 := by rw [HSH.out]; exact hs
      have HS := Lib.hid hss
      clear hss
      rcases hs with rfl | rfl
      all_goals
        go_enter Try.func45, Try.ntmps45
        go_wp2_with (go_at_call 77; refine hL.mono ?_; rintro e w1 ⟨sz, ag, A, n, c, rfl, hx, hb⟩; have HX := Lib.hid hx; have hcell := bel_cell hb (cell_new _ _ _ 0 _ rfl); have hz : w.heap.size < w1.heap.size := (by have := hb.size; simp at this; omega); have HB := Lib.hid hb; clear hx hb)
        go_ret2
        refine ⟨A, n, c, ?_, ?_, bel_alloc (bel_then (bel_alloc (Below.refl _ _) _) HB.out) _⟩
        · unfold memE; rw [if_pos HE.out, if_pos HS.out]; rfl
        · unfold memL; rw [if_pos ⟨HE.out, HS.out⟩]
          obtain ⟨_, _, q⟩ := HX.out trivial
          exact ⟨q.1.below (bel_alloc (Below.refl _ _) _), fun a ha => Nat.le_trans (by simp) (q.2 a ha)⟩
    · have n4 : (sh == 4) = false := by simp; omega
      have n5 : (sh == 5) = false := by simp; omega
      have m4 : (sh != 4) = true := by rw [bne, n4]; rfl
      have m5 : (sh != 5) = true := by rw [bne, n5]; rfl
      have HS := Lib.hid (show ¬ (tsh d t = 4 ∨ tsh d t = 5) by rw [HSH.out]; exact hs)
      clear hs
      go_enter Try.func45, Try.ntmps45
      go_wp2_with (go_at_call 77; refine hL.mono ?_; rintro e w1 ⟨sz, ag, A, n, c, rfl, hx, hb⟩; have hcell := bel_cell hb (cell_new _ _ _ 0 _ rfl); have hz : w.heap.size < w1.heap.size := (by have := hb.size; simp at this; omega); have HB := Lib.hid hb; clear hx hb)
      go_ret2
      refine ⟨none, 0, 0, ?_, ?_, bel_alloc (bel_then (bel_alloc (Below.refl _ _) _) HB.out) _⟩
      · unfold memE; rw [if_pos HE.out, if_neg HS.out]; rfl
      · unfold memL; rw [if_neg (fun h => HS.out h.2)]; exact ⟨⟨rfl, fun i s hs => by simp at hs⟩, fun a ha => by cases ha⟩
end Go.Proofs.Ytcggghamnmflcaa

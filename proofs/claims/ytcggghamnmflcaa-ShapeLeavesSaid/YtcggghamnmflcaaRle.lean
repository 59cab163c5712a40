/- The contract of the reference's Leaves, and the law ShapeLeaves walked: whatever type. -/
import Derived.Test.YtcggghamnmflcaaRld
namespace Go.Proofs.Ytcggghamnmflcaa
open Go Go.RowKit Go.Shelf
theorem RTr.nil_below {W W1 : World} {v : Value} (h : RTr W (.slice none 0 0) W1 v) : Below W.heap.size W W1 := ⟨h.g.os, h.g.tape, h.g.output, h.g.size, fun i hi => h.g.block i hi (by simp [Value.ownBlock])⟩
theorem leafE_of {d : Nat} {t : Tp d} (h : errS d t = 0) : (2000 < (leavesS d t 0).length ∧ leafE d t = 101 ∧ leafL d t = []) ∨ ((leavesS d t 0).length ≤ 2000 ∧ leafE d t = 0 ∧ leafL d t = leavesS d t 0) := by
  unfold leafL leafE
  rw [if_pos h]
  by_cases hl : 2000 < (leavesS d t 0).length
  · rw [if_pos hl, if_neg (by decide)]
    exact .inl ⟨hl, rfl, rfl⟩
  · rw [if_neg hl, if_pos rfl]
    exact .inr ⟨by omega, rfl, rfl⟩
theorem leaf_bad {d : Nat} {t : Tp d} (h : errS d t ≠ 0) : leafE d t = errS d t ∧ leafL d t = [] := by
  unfold leafL leafE
  rw [if_neg h, if_neg h]
  exact ⟨rfl, rfl⟩
theorem leafL_2000 (d : Nat) (t : Tp d) : (leafL d t).length ≤ 2000 := by
  by_cases h : errS d t = 0
  · rcases leafE_of h with ⟨_, _, e⟩ | ⟨h2, _, e⟩
    · rw [e]; simp
    · rw [e]; exact h2
  · rw [(leaf_bad h).2]; simp
set_option maxRecDepth 100000 in
set_option maxHeartbeats 4000000 in
theorem rLeaves_c {d : Nat} {t : Tp d} {v0 v1 v2 v3 v4 v5 v6 : Value} {w : World} (ht : TyAt w d t [v0, v1, v2, v3, v4, v5, v6]) :
    Calls Try.prog 53 #[.agg #[v0, v1, v2, v3, v4, v5, v6]] w fun e w' => ∃ (A : Option Addr) (n c : Nat), e = .returned (.tuple #[.slice A n c, .int .i64 (leafE d t)]) ∧ Spts w.heap.size w' A n (leafL d t) ∧ Below w.heap.size w w' := by
  have HR := fun w' (hb : Below w.heap.size w w') => rOf_c (ht.below hb)
  unfold OfP at HR
  obtain ⟨er, her⟩ : ∃ x, errS d t = x := ⟨_, rfl⟩
  rw [her] at HR
  replace HR := Lib.hid HR
  have HE := Lib.hid her
  have HT := Lib.hid ht
  clear her ht
  cases hq : (er == 0) with
  | false =>
    have h' : (er != 0) = true := by rw [bne, hq]; rfl
    have H0 := Lib.hid (show er ≠ 0 by simpa using hq)
    go_enter Try.func53, Try.ntmps53
    go_wp2_with fail
    refine (HR.out _ (bel_alloc (Below.refl _ _) _)).mono ?_
    rintro e w1 ⟨A, n, c, rfl, hb1, -, -⟩
    have HB1 := Lib.hid (bel_alloc (bel_then (bel_alloc (Below.refl _ _) _) hb1) (.cells #[.int .i64 (szS d t), .int .i64 (agS d t), .bool false, .slice A n c] 58))
    clear hb1
    go_wp2_with fail
    go_ret2
    have hE := leaf_bad (t := t) (show errS d t ≠ 0 by rw [HE.out]; exact H0.out)
    refine ⟨none, 0, 0, ?_, ?_, HB1.out⟩
    · rw [hE.1, HE.out]; rfl
    · rw [hE.2]; exact ⟨⟨rfl, fun i s hs => by simp at hs⟩, fun a ha => by cases ha⟩
  | true =>
    obtain rfl : er = 0 := by simpa using hq
    clear hq
    obtain ⟨hpl, hbx⟩ := err_0 HE.out
    have hok := boxS_ok d t 6 _ hpl hbx
    have HPL := Lib.hid hpl
    have HBX := Lib.hid hbx
    have HOK := Lib.hid hok
    clear hpl hbx hok
    go_enter Try.func53, Try.ntmps53
    go_wp2_with fail
    refine (HR.out _ (bel_alloc (Below.refl _ _) _)).mono ?_
    rintro e w1 ⟨A, n, c, rfl, hb1, -, -⟩
    have hT1 := (Bk.new w 38 #[v0, v1, v2, v3, v4, v5, v6]).below hb1 (by simp)
    have t0 := hT1.at_ (i := 0) rfl; have t1 := hT1.at_ (i := 1) rfl; have t2 := hT1.at_ (i := 2) rfl; have t3 := hT1.at_ (i := 3) rfl; have t4 := hT1.at_ (i := 4) rfl; have t5 := hT1.at_ (i := 5) rfl; have t6 := hT1.at_ (i := 6) rfl
    have hlt1 := hT1.lt
    have HB1 := Lib.hid (bel_alloc (bel_then (bel_alloc (Below.refl _ _) _) hb1) (.cells #[.int .i64 (szS d t), .int .i64 (agS d t), .bool false, .slice A n c] 58))
    clear hb1
    go_wp2_with fail
    generalize hW : World.alloc w1 _ = W2 at HB1 ⊢
    clear hW t0 t1 t2 t3 t4 t5 t6 hT1 hlt1
    refine (rlv_c d w t _ v0 v1 v2 v3 v4 v5 v6 (boxD d t) 0 W2.heap.size (.slice none 0 0) [] W2 rfl HT.out HB1.out HPL.out HBX.out (by omega) (by have := HOK.out.2.1; omega) (World.ownsRow_nil _ _ _ _) HB1.out.size (Nat.le_refl _) (by simp)).mono ?_
    rintro e w3 ⟨v3, rfl, hro, htr⟩
    rw [List.nil_append] at hro
    obtain ⟨X, hX⟩ : ∃ X, (leavesS d t 0).take 2001 = X := ⟨_, rfl⟩
    rw [hX] at hro
    obtain ⟨A3, c3, rfl, hsp⟩ := spts_of_row hro
    have HSP := Lib.hid hsp
    have HB3 := Lib.hid (bel_then HB1.out htr.nil_below)
    have HX := Lib.hid hX
    have hXl : X.length ≤ 2001 := by rw [← hX]; exact List.length_take_le _ _
    clear hsp htr hro hX
    by_cases hl : 2000 < X.length
    · have hlen : 2000 < (leavesS d t 0).length := by have := HX.out; rw [← this, List.length_take] at hl; omega
      rcases leafE_of HE.out with ⟨_, e1, e2⟩ | ⟨h2, _, _⟩
      · have E1 := Lib.hid e1
        have E2 := Lib.hid e2
        clear e1 e2 hlen
        go_wp2_with fail
        go_ret2
        refine ⟨none, 0, 0, ?_, ?_, HB3.out⟩
        · rw [E1.out]; rfl
        · rw [E2.out]; exact ⟨⟨rfl, fun i s hs => by simp at hs⟩, fun a ha => by cases ha⟩
      · omega
    · have hlen : (leavesS d t 0).length ≤ 2000 := by have := HX.out; rw [← this, List.length_take] at hl; omega
      rcases leafE_of HE.out with ⟨h2, _, _⟩ | ⟨_, e1, e2⟩
      · omega
      · have E1 := Lib.hid e1
        have E2 := Lib.hid (show leafL d t = X by rw [e2, ← HX.out, List.take_of_length_le (by omega)])
        clear e1 e2 hlen
        go_wp2_with fail
        go_ret2
        refine ⟨A3, X.length, c3, ?_, ?_, HB3.out⟩
        · rw [E1.out]; rfl
        · rw [E2.out]
          have := HB1.out.size
          exact ⟨HSP.out.1, fun a ha => Nat.le_trans this (HSP.out.2 a ha)⟩
set_option maxRecDepth 100000 in
theorem shapeLeaves_w (d : Nat) (t : Tp d) (v0 v1 v2 v3 v4 v5 v6 : Value) (w : World) (ht : TyAt w d t [v0, v1, v2, v3, v4, v5, v6]) :
    Calls Try.prog 15 #[.agg #[v0, v1, v2, v3, v4, v5, v6]] w fun e w' => e = .returned (.bool true) ∧ Below w.heap.size w w' := by
  have H4 := Lib.hid (leafL_2000 d t)
  obtain ⟨er, her⟩ : ∃ x, leafE d t = x := ⟨_, rfl⟩
  have HM := fun w' (hb : Below w.heap.size w w') => leaves40_c (ht.below hb)
  have HR := fun w' (hb : Below w.heap.size w w') => rLeaves_c (ht.below hb)
  rw [her] at HM HR
  replace HM := Lib.hid HM
  replace HR := Lib.hid HR
  clear her ht
  go_enter Try.func15, Try.ntmps15
  go_wp2_with fail
  refine (shown44_c _).mono ?_
  rintro e w1 ⟨rfl, hb1⟩
  have hT1 := (Bk.new w 38 #[v0, v1, v2, v3, v4, v5, v6]).below hb1 (by simp)
  have t0 := hT1.at_ (i := 0) rfl; have t1 := hT1.at_ (i := 1) rfl; have t2 := hT1.at_ (i := 2) rfl; have t3 := hT1.at_ (i := 3) rfl; have t4 := hT1.at_ (i := 4) rfl; have t5 := hT1.at_ (i := 5) rfl; have t6 := hT1.at_ (i := 6) rfl
  have HB1 := Lib.hid (bel_then (bel_alloc (Below.refl _ _) _) hb1)
  clear hb1
  go_wp2_with fail
  refine (HM.out _ HB1.out).mono ?_
  rintro e w2 ⟨A, n, c, rfl, hA, hb2⟩
  have hT2 := hT1.below hb2 hT1.lt
  clear t0 t1 t2 t3 t4 t5 t6 hT1
  have t0 := hT2.at_ (i := 0) rfl; have t1 := hT2.at_ (i := 1) rfl; have t2 := hT2.at_ (i := 2) rfl; have t3 := hT2.at_ (i := 3) rfl; have t4 := hT2.at_ (i := 4) rfl; have t5 := hT2.at_ (i := 5) rfl; have t6 := hT2.at_ (i := 6) rfl
  have HB2 := Lib.hid (bel_then HB1.out hb2)
  have HA := Lib.hid hA
  clear hb2 hA
  go_wp2_with fail
  refine (HR.out _ HB2.out).mono ?_
  rintro e w3 ⟨A', n', c', rfl, hA', hb3⟩
  have hS := sameSpots_c A A' n n' c c' _ _ w3 (HA.out.1.below hb3) hA'.1 (by have := HA.out.1.1; have := H4.out; omega) (by have := hA'.1.1; have := H4.out; omega)
  rw [decide_eq_true rfl] at hS
  have HS := Lib.hid hS
  have HB3 := Lib.hid (bel_then HB2.out hb3)
  clear hS hb3 hA' t0 t1 t2 t3 t4 t5 t6
  go_wp2_with fail
  refine HS.out.mono ?_
  rintro e w4 ⟨rfl, hb4⟩
  go_wp2_with fail
  go_ret
  exact ⟨rfl, bel_then HB3.out hb4⟩
end Go.Proofs.Ytcggghamnmflcaa

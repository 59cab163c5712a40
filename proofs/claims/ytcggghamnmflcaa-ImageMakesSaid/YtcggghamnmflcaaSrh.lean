/- Contracts of the reference's Of and Members: whatever type. -/
import Derived.Test.YtcggghamnmflcaaSrg
namespace Go.Proofs.Ytcggghamnmflcaa
open Go Go.RowKit Go.Shelf
/-- What Of answers. -/
def OfP (d : Nat) (t : Tp d) (w : World) (e : Ending) (w' : World) : Prop :=
  ∃ (A : Option Addr) (n c : Nat), e = .returned (.tuple #[.agg #[.int .i64 (szS d t), .int .i64 (agS d t), .bool false, .slice A n c], .int .i64 (errS d t)]) ∧ Below w.heap.size w w' ∧ (errS d t = 0 → Spts w.heap.size w' A n (boxD d t).l) ∧ (errS d t ≠ 0 → A = none ∧ n = 0 ∧ c = 0)
theorem results49 {tmps : Array Value} {W : World} {g : Nat} {a b c e er : Value} (h4 : tmps.getD 2 undef = .pointer (some ⟨g, 0, none⟩)) (h5 : tmps.getD 3 undef = er) (h : Bk W g 58 #[a, b, c, e]) : (results Try.f49 tmps).run Try.prog W = .ok (.tuple #[.agg #[a, b, c, e], er]) W := by
  have c0 : W.cell? ⟨g, 0, none⟩ = some a := h.at_ (i := 0) rfl
  have c1 : W.cell? ⟨g, 1, none⟩ = some b := h.at_ (i := 1) rfl
  have c2 : W.cell? ⟨g, 2, none⟩ = some c := h.at_ (i := 2) rfl
  have c3 : W.cell? ⟨g, 3, none⟩ = some e := h.at_ (i := 3) rfl
  rw [Array.getD_eq_getD_getElem?] at h4 h5
  simp [results, Try.results49, go_sem, h4, h5, c0, c1, c2, c3]
theorem plain6 : RefC 6 := plain_c 6 (by omega)
theorem of_bad_end {d : Nat} {t : Tp d} {w w' : World} {er : Int} (he : errS d t = er) (h0 : er ≠ 0) (hb : Below w.heap.size w w') : OfP d t w (.returned (.tuple #[.agg #[.int .i64 0, .int .i64 0, .bool false, .slice none 0 0], .int .i64 er])) w' := by
  subst he
  exact ⟨none, 0, 0, by unfold szS agS; rw [if_neg h0, if_neg h0], hb, fun h => absurd h h0, fun _ => ⟨rfl, rfl, rfl⟩⟩
set_option maxRecDepth 100000 in
set_option maxHeartbeats 2000000 in
theorem rOf_c {d : Nat} {t : Tp d} {v0 v1 v2 v3 v4 v5 v6 : Value} {w : World} (ht : TyAt w d t [v0, v1, v2, v3, v4, v5, v6]) : Calls Try.prog 49 #[.agg #[v0, v1, v2, v3, v4, v5, v6]] w (OfP d t w) := by
  obtain ⟨n0, A1, A2, n1, n2, c1, c2, pk, al, hcs⟩ := ht.form
  simp only [List.cons.injEq, and_true] at hcs
  obtain ⟨rfl, rfl, rfl, rfl, rfl, rfl, rfl⟩ := hcs
  obtain ⟨sh, hsh⟩ : ∃ x, tsh d t = x := ⟨_, rfl⟩
  obtain ⟨k, hk⟩ : ∃ x, tk d t = x := ⟨_, rfl⟩
  rw [hsh, hk] at ht ⊢
  clear hsh hk
  have HT := Lib.hid ht
  clear ht
  cases hp : plainS d t 6 with
  | false =>
    have HE := Lib.hid (show errS d t = 100 by unfold errS lieE; rw [hp]; rfl)
    have HP := Lib.hid hp
    clear hp
    go_enter Try.func49, Try.ntmps49
    go_wp2_with (go_at_call 83; refine (plain6 d t _ _ _ _ _ _ _ _ (HT.out.below (bel_alloc (bel_alloc (Below.refl _ _) _) _))).mono ?_; rintro e w1 ⟨rfl, hb1⟩; rw [HP.out]; have HB1 := Lib.hid hb1; have hR1 := (Bk.new1 w _ 58 #[.int .i64 0, .int .i64 0, .bool false, .slice none 0 0]).below hb1 (by simp); clear hb1; have z0 := hR1.at_ (i := 0) rfl; have z1 := hR1.at_ (i := 1) rfl; have z2 := hR1.at_ (i := 2) rfl; have z3 := hR1.at_ (i := 3) rfl; have f0 := hR1.frozen 0; have f1 := hR1.frozen 1; have f2 := hR1.frozen 2; have f3 := hR1.frozen 3)
    have hre := ((((hR1).set_ 0 (.int .i64 0)).set_ 1 (.int .i64 0)).set_ 2 (.bool false)).set_ 3 (.slice none 0 0)
    have hbe := bel_set (bel_set (bel_set (bel_set (bel_then (bel_alloc (bel_alloc (Below.refl _ _) _) _) HB1.out) (p := ⟨w.heap.size + 1, 0, none⟩) (by simp only; omega) (.int .i64 0)) (p := ⟨w.heap.size + 1, 1, none⟩) (by simp only; omega) (.int .i64 0)) (p := ⟨w.heap.size + 1, 2, none⟩) (by simp only; omega) (.bool false)) (p := ⟨w.heap.size + 1, 3, none⟩) (by simp only; omega) (.slice none 0 0)
    generalize World.setCell _ _ _ = W5 at hre hbe ⊢
    have hre' : Bk W5 (w.heap.size + 1) 58 #[.int .i64 0, .int .i64 0, .bool false, .slice none 0 0] := hre
    exact bodyPost_ret (results49 rfl rfl hre') rfl (of_bad_end HE.out (by decide) hbe)
  | true =>
    have HP := Lib.hid hp
    clear hp
    go_enter Try.func49, Try.ntmps49
    go_upto_region 5 with (first | (go_at_call 83; refine (plain6 d t _ _ _ _ _ _ _ _ (HT.out.below (bel_alloc (bel_alloc (Below.refl _ _) _) _))).mono ?_; rintro e w1 ⟨rfl, hb1⟩; rw [HP.out]; have HB1 := Lib.hid hb1; have hT1 := ((Bk.new w 38 #[.int .i64 sh, .int .i64 k, .int .i64 n0, .slice A1 n1 c1, .slice A2 n2 c2, .bool pk, .int .i64 al]).alloc _).below hb1 (by simp; omega); clear hb1; have t0 := hT1.at_ (i := 0) rfl; have t1 := hT1.at_ (i := 1) rfl; have t2 := hT1.at_ (i := 2) rfl; have t3 := hT1.at_ (i := 3) rfl; have t4 := hT1.at_ (i := 4) rfl; have t5 := hT1.at_ (i := 5) rfl; have t6 := hT1.at_ (i := 6) rfl) | (go_at_call 84; refine (box_c d t 6 _ _ _ _ _ _ _ _ HP.out (HT.out.below (bel_then (bel_alloc (bel_alloc (Below.refl _ _) _) _) HB1.out))).mono ?_; rintro e w2 ⟨sz, ag, big, xA, xn, xc, rfl, hb2, hx⟩; have HB2 := Lib.hid hb2; have HX := Lib.hid hx; have hR2 := ((Bk.new1 w _ 58 #[.int .i64 0, .int .i64 0, .bool false, .slice none 0 0]).below HB1.out (by simp)); clear hb2 hx t0 t1 t2 t3 t4 t5 t6))
    have hR1 := (hR2.below HB2.out hR2.lt).alloc (.cells #[.int .i64 sz, .int .i64 ag, .bool big, .slice xA xn xc] 58)
    have hX3 : Bk (w2.alloc (.cells #[.int .i64 sz, .int .i64 ag, .bool big, .slice xA xn xc] 58)) w2.heap.size 58 #[.int .i64 sz, .int .i64 ag, .bool big, .slice xA xn xc] := Bk.new w2 _ _
    have hB3 : Below w.heap.size w (w2.alloc (.cells #[.int .i64 sz, .int .i64 ag, .bool big, .slice xA xn xc] 58)) := bel_alloc (bel_then (bel_then (bel_alloc (bel_alloc (Below.refl _ _) _) _) HB1.out) HB2.out) _
    have hSP : ∀ l, Spts w1.heap.size w2 xA xn l → Spts w1.heap.size (w2.alloc (.cells #[.int .i64 sz, .int .i64 ag, .bool big, .slice xA xn xc] 58)) xA xn l := fun l h => ⟨h.1.below (bel_alloc (Below.refl _ _) _), h.2⟩
    have hlt1 := hR2.lt
    generalize World.alloc w2 _ = W3 at hR1 hX3 hB3 hSP ⊢
    clear hR2
    have x0 := hX3.at_ (i := 0) rfl
    have x1 := hX3.at_ (i := 1) rfl
    have x2 := hX3.at_ (i := 2) rfl
    have x3 := hX3.at_ (i := 3) rfl
    have z0 := hR1.at_ (i := 0) rfl; have z1 := hR1.at_ (i := 1) rfl; have z2 := hR1.at_ (i := 2) rfl; have z3 := hR1.at_ (i := 3) rfl; have f0 := hR1.frozen 0; have f1 := hR1.frozen 1; have f2 := hR1.frozen 2; have f3 := hR1.frozen 3
    cases hbx : boxS d t with
    | none =>
      have HE := Lib.hid (show errS d t = 101 by unfold errS lieE; rw [HP.out, hbx]; rfl)
      have hbig : big = true := by
        rcases HX.out with ⟨_, h⟩ | ⟨b', h, _⟩
        · exact h
        · rw [hbx] at h; cases h
      subst hbig
      clear hbx hSP
      go_wp2_with fail
      have hre := ((((hR1).set_ 0 (.int .i64 0)).set_ 1 (.int .i64 0)).set_ 2 (.bool false)).set_ 3 (.slice none 0 0)
      have hbe := bel_set (bel_set (bel_set (bel_set (hB3) (p := ⟨w.heap.size + 1, 0, none⟩) (by simp only; omega) (.int .i64 0)) (p := ⟨w.heap.size + 1, 1, none⟩) (by simp only; omega) (.int .i64 0)) (p := ⟨w.heap.size + 1, 2, none⟩) (by simp only; omega) (.bool false)) (p := ⟨w.heap.size + 1, 3, none⟩) (by simp only; omega) (.slice none 0 0)
      generalize World.setCell _ _ _ = W5 at hre hbe ⊢
      have hre' : Bk W5 (w.heap.size + 1) 58 #[.int .i64 0, .int .i64 0, .bool false, .slice none 0 0] := hre
      exact bodyPost_ret (results49 rfl rfl hre') rfl (of_bad_end HE.out (by decide) hbe)
    | some bb =>
      have HE := Lib.hid (show errS d t = 0 by unfold errS lieE; rw [HP.out, hbx]; rfl)
      have HBD := Lib.hid (show boxD d t = bb by unfold boxD; rw [hbx]; rfl)
      have hsame : big = false ∧ sz = bb.size ∧ ag = bb.align ∧ Spts w1.heap.size W3 xA xn bb.l := by
        rcases HX.out with ⟨h, _⟩ | ⟨b', h, e1, e2, e3, e4⟩
        · rw [hbx] at h; cases h
        · rw [hbx] at h; cases h; exact ⟨e1, e2, e3, hSP _ e4⟩
      obtain ⟨rfl, hsz, hag, hsp⟩ := hsame
      have HSZ := Lib.hid hsz
      have HAG := Lib.hid hag
      have HSP := Lib.hid hsp
      clear hbx hSP hsz hag hsp HX
      go_wp2_with fail
      have hre := ((((hR1).set_ 0 (.int .i64 sz)).set_ 1 (.int .i64 ag)).set_ 2 (.bool false)).set_ 3 (.slice xA xn xc)
      have hbe := bel_set (bel_set (bel_set (bel_set (hB3) (p := ⟨w.heap.size + 1, 0, none⟩) (by simp only; omega) (.int .i64 sz)) (p := ⟨w.heap.size + 1, 1, none⟩) (by simp only; omega) (.int .i64 ag)) (p := ⟨w.heap.size + 1, 2, none⟩) (by simp only; omega) (.bool false)) (p := ⟨w.heap.size + 1, 3, none⟩) (by simp only; omega) (.slice xA xn xc)
      have hst := ((((HSP.out).set_ (g := w.heap.size + 1) hlt1 0 (.int .i64 sz)).set_ (g := w.heap.size + 1) hlt1 1 (.int .i64 ag)).set_ (g := w.heap.size + 1) hlt1 2 (.bool false)).set_ (g := w.heap.size + 1) hlt1 3 (.slice xA xn xc)
      generalize World.setCell _ _ _ = W5 at hre hbe hst ⊢
      have hre' : Bk W5 (w.heap.size + 1) 58 #[.int .i64 sz, .int .i64 ag, .bool false, .slice xA xn xc] := hre
      refine bodyPost_ret (results49 rfl rfl hre') rfl ⟨xA, xn, xc, ?_, hbe, fun _ => by rw [HBD.out]; exact hst.less (by omega), fun h => absurd HE.out h⟩
      unfold szS agS
      rw [if_pos HE.out, if_pos HE.out, HBD.out, HE.out, HSZ.out, HAG.out]
      rfl
set_option maxRecDepth 100000 in
theorem rMembers_c {d : Nat} {t : Tp d} {v0 v1 v2 v3 v4 v5 v6 : Value} {w : World} (ht : TyAt w d t [v0, v1, v2, v3, v4, v5, v6]) :
    Calls Try.prog 46 #[.agg #[v0, v1, v2, v3, v4, v5, v6]] w fun e w' => ∃ (A : Option Addr) (n c : Nat), e = .returned (.tuple #[.slice A n c, .int .i64 (memE d t)]) ∧ Spts w.heap.size w' A n (memL d t) ∧ Below w.heap.size w w' := by
  obtain rfl := ht.cell0
  obtain ⟨sh, hsh⟩ : ∃ x, tsh d t = x := ⟨_, rfl⟩
  have HSH := Lib.hid hsh
  rw [hsh] at ht ⊢
  clear hsh
  have hL := rOf_c (ht.below (bel_alloc (Below.refl _ _) (.cells #[.int .i64 sh, v1, v2, v3, v4, v5, v6] 38)))
  unfold OfP at hL
  obtain ⟨er, her⟩ : ∃ x, errS d t = x := ⟨_, rfl⟩
  rw [her] at hL
  have HE := Lib.hid her
  clear her
  cases h : (er == 0) with
  | false =>
    have H0 := Lib.hid (show ¬ errS d t = 0 by rw [HE.out]; simpa using h)
    have h' : (er != 0) = true := by rw [bne, h]; rfl
    go_enter Try.func46, Try.ntmps46
    go_wp2_with (go_at_call 49; refine hL.mono ?_; rintro e w1 ⟨A, n, c, rfl, hb, hx, -⟩; have HB := Lib.hid hb; clear hx hb)
    go_ret2
    refine ⟨none, 0, 0, ?_, ?_, bel_alloc (bel_then (bel_alloc (Below.refl _ _) _) HB.out) _⟩
    · unfold memE; rw [if_neg H0.out, HE.out]; rfl
    · unfold memL; rw [if_neg (fun h => H0.out h.1)]; exact ⟨⟨rfl, fun i s hs => by simp at hs⟩, fun a ha => by cases ha⟩
  | true =>
    obtain rfl : er = 0 := by simpa using h
    clear h
    by_cases hs : sh = 4 ∨ sh = 5
    · have hss : tsh d t = 4 ∨ tsh d t = 5 := by rw [HSH.out]; exact hs
      have HS := Lib.hid hss
      clear hss
      rcases hs with rfl | rfl
      all_goals
        go_enter Try.func46, Try.ntmps46
        go_wp2_with (go_at_call 49; refine hL.mono ?_; rintro e w1 ⟨A, n, c, rfl, hb, hx, -⟩; have HX := Lib.hid hx; have hcell := bel_cell hb (cell_new _ _ _ 0 _ rfl); have hz : w.heap.size < w1.heap.size := (by have := hb.size; simp at this; omega); have HB := Lib.hid hb; clear hx hb)
        go_ret2
        refine ⟨A, n, c, ?_, ?_, bel_alloc (bel_then (bel_alloc (Below.refl _ _) _) HB.out) _⟩
        · unfold memE; rw [if_pos HE.out, if_pos HS.out]; rfl
        · unfold memL; rw [if_pos ⟨HE.out, HS.out⟩]
          have q := HX.out trivial
          exact ⟨q.1.below (bel_alloc (Below.refl _ _) _), fun a ha => Nat.le_trans (by simp) (q.2 a ha)⟩
    · have n4 : (sh == 4) = false := by simp; omega
      have n5 : (sh == 5) = false := by simp; omega
      have m4 : (sh != 4) = true := by rw [bne, n4]; rfl
      have m5 : (sh != 5) = true := by rw [bne, n5]; rfl
      have HS := Lib.hid (show ¬ (tsh d t = 4 ∨ tsh d t = 5) by rw [HSH.out]; exact hs)
      clear hs
      go_enter Try.func46, Try.ntmps46
      go_wp2_with (go_at_call 49; refine hL.mono ?_; rintro e w1 ⟨A, n, c, rfl, hb, hx, -⟩; have hcell := bel_cell hb (cell_new _ _ _ 0 _ rfl); have hz : w.heap.size < w1.heap.size := (by have := hb.size; simp at this; omega); have HB := Lib.hid hb; clear hx hb)
      go_ret2
      refine ⟨none, 0, 0, ?_, ?_, bel_alloc (bel_then (bel_alloc (Below.refl _ _) _) HB.out) _⟩
      · unfold memE; rw [if_pos HE.out, if_neg HS.out]; rfl
      · unfold memL; rw [if_neg (fun h => HS.out h.2)]; exact ⟨⟨rfl, fun i s hs => by simp at hs⟩, fun a ha => by cases ha⟩
end Go.Proofs.Ytcggghamnmflcaa

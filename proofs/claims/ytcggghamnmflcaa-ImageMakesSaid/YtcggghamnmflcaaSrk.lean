/- The laws ShapeMembers and ShapeSizes walked: whatever the type, each returns true. -/
import Derived.Test.YtcggghamnmflcaaSrj
namespace Go.Proofs.Ytcggghamnmflcaa
open Go Go.RowKit Go.Shelf
theorem err_0 {d : Nat} {t : Tp d} (h : errS d t = 0) : plainS d t 6 = true ∧ boxS d t = some (boxD d t) := by
  obtain ⟨h1, b, hb⟩ := lieE_0 h.symm
  exact ⟨h1, by unfold boxD; rw [hb]; rfl⟩
/-- A right struct's or union's members laid. -/
theorem cmp_fold {d : Nat} {t : Nd (Tp d)} {deep : Int} (hs : t.sh = 4 ∨ t.sh = 5) (hd : 1 ≤ deep) (hp : plainS (d + 1) t deep = true) {b : Bx} (hb : boxS (d + 1) t = some b) :
    ∃ s, t.fs.foldlM (layF d (t.sh == 5) t.pk) (lay0 t.al) = some s ∧ b = { size := closeS s, align := s.align, l := s.l } ∧ closeS s ≤ 65536 ∧ isAlignS t.al = true ∧ fieldsS d t.fs (deep - 1) = true := by
  rw [show plainS (d + 1) t deep = _ from plain_45 hd hs] at hp
  simp only [Bool.and_eq_true] at hp
  obtain ⟨_, _, _, ha, hf⟩ := hp
  rw [show boxS (d + 1) t = _ from boxS_mem hs] at hb
  cases hfold : t.fs.foldlM (layF d (t.sh == 5) t.pk) (lay0 t.al) with
  | none => rw [hfold] at hb; cases hb
  | some s =>
    rw [hfold] at hb
    simp only at hb
    split at hb
    · cases hb
    · cases hb
      exact ⟨s, rfl, rfl, by omega, ha, hf⟩
theorem fields_40 {d : Nat} {l : List (Fld (Tp d))} {deep : Int} (h : fieldsS d l deep = true) : l.length ≤ 40 := by
  unfold fieldsS namedS at h
  simp only [Bool.and_eq_true, decide_eq_true_eq, List.length_map] at h
  exact h.1.2
theorem memL_40 : ∀ (d : Nat) (t : Tp d), (memL d t).length ≤ 40
  | 0, t => nomatch t
  | d + 1, t => by
    unfold memL
    split
    · rename_i h
      obtain ⟨h1, h2⟩ := err_0 h.1
      obtain ⟨s, e1, e2, _, _, e5⟩ := cmp_fold (t := t) (show Nd.sh t = 4 ∨ Nd.sh t = 5 from h.2) (by omega) h1 h2
      rw [e2]
      have := foldF_len _ _ _ e1
      have := fields_40 e5
      simp only [lay0, List.length_nil] at *
      omega
    · simp
set_option maxRecDepth 100000 in
theorem shapeMembers_w (d : Nat) (t : Tp d) (v0 v1 v2 v3 v4 v5 v6 : Value) (w : World) (ht : TyAt w d t [v0, v1, v2, v3, v4, v5, v6]) :
    Calls Try.prog 10 #[.agg #[v0, v1, v2, v3, v4, v5, v6]] w fun e w' => e = .returned (.bool true) ∧ Below w.heap.size w w' := by
  have H4 := Lib.hid (memL_40 d t)
  obtain ⟨er, her⟩ : ∃ x, memE d t = x := ⟨_, rfl⟩
  have HM := fun w' (hb : Below w.heap.size w w') => members_c (ht.below hb)
  have HR := fun w' (hb : Below w.heap.size w w') => rMembers_c (ht.below hb)
  rw [her] at HM HR
  have HM := Lib.hid HM
  have HR := Lib.hid HR
  clear her ht
  go_enter Try.func10, Try.ntmps10
  go_wp2_with fail
  refine (shown44_c _).mono ?_
  rintro e w1 ⟨rfl, hb1⟩
  have hT1 := (Bk.new w 38 #[v0, v1, v2, v3, v4, v5, v6]).below hb1 (by simp)
  have t0 := hT1.at_ (i := 0) rfl; have t1 := hT1.at_ (i := 1) rfl; have t2 := hT1.at_ (i := 2) rfl; have t3 := hT1.at_ (i := 3) rfl; have t4 := hT1.at_ (i := 4) rfl; have t5 := hT1.at_ (i := 5) rfl; have t6 := hT1.at_ (i := 6) rfl
  have HB1 := Lib.hid (bel_then (bel_alloc (Below.refl _ _) _) hb1)
  clear hb1
  go_wp2_with fail
  refine (HM.out _ HB1.out).mono ?_
  rintro e w2 ⟨A, n, c, rfl, hA, hb2⟩
  have hT2 := hT1.below hb2 hT1.lt
  clear t0 t1 t2 t3 t4 t5 t6 hT1
  have t0 := hT2.at_ (i := 0) rfl; have t1 := hT2.at_ (i := 1) rfl; have t2 := hT2.at_ (i := 2) rfl; have t3 := hT2.at_ (i := 3) rfl; have t4 := hT2.at_ (i := 4) rfl; have t5 := hT2.at_ (i := 5) rfl; have t6 := hT2.at_ (i := 6) rfl
  have HB2 := Lib.hid (bel_then HB1.out hb2)
  have HA := Lib.hid hA
  clear hb2 hA
  go_wp2_with fail
  refine (HR.out _ HB2.out).mono ?_
  rintro e w3 ⟨A', n', c', rfl, hA', hb3⟩
  have hS := sameSpots_c A A' n n' c c' _ _ w3 (HA.out.1.below hb3) hA'.1 (by have := HA.out.1.1; have := H4.out; omega) (by have := hA'.1.1; have := H4.out; omega)
  rw [decide_eq_true rfl] at hS
  have HS := Lib.hid hS
  have HB3 := Lib.hid (bel_then HB2.out hb3)
  clear hS hb3 hA' t0 t1 t2 t3 t4 t5 t6
  go_wp2_with fail
  refine HS.out.mono ?_
  rintro e w4 ⟨rfl, hb4⟩
  go_wp2_with fail
  go_ret
  exact ⟨rfl, bel_then HB3.out hb4⟩
theorem szS_of {d : Nat} {t : Tp d} {er : Int} (h : errS d t = er) (h0 : er ≠ 0) : szS d t = 0 ∧ agS d t = 0 := by
  subst h
  unfold szS agS
  rw [if_neg h0, if_neg h0]
  exact ⟨rfl, rfl⟩
set_option maxRecDepth 100000 in
theorem shapeSizes_w (d : Nat) (t : Tp d) (v0 v1 v2 v3 v4 v5 v6 : Value) (w : World) (ht : TyAt w d t [v0, v1, v2, v3, v4, v5, v6]) :
    Calls Try.prog 13 #[.agg #[v0, v1, v2, v3, v4, v5, v6]] w fun e w' => e = .returned (.bool true) ∧ Below w.heap.size w w' := by
  obtain ⟨er, her⟩ : ∃ x, errS d t = x := ⟨_, rfl⟩
  obtain ⟨sz, hsz⟩ : ∃ x, szS d t = x := ⟨_, rfl⟩
  obtain ⟨ag, hag⟩ : ∃ x, agS d t = x := ⟨_, rfl⟩
  have HM := fun w' (hb : Below w.heap.size w w') => ssize_c (ht.below hb)
  have HR := fun w' (hb : Below w.heap.size w w') => rOf_c (ht.below hb)
  have HQ := fun w' (hb : Below w.heap.size w w') => right_c (ht.below hb)
  unfold OfP at HR
  rw [her, hsz, hag] at HM HR
  rw [her] at HQ
  have HM := Lib.hid HM
  have HR := Lib.hid HR
  have HQ := Lib.hid HQ
  clear her hsz hag ht
  go_enter Try.func13, Try.ntmps13
  go_wp2_with fail
  refine (shown44_c _).mono ?_
  rintro e w1 ⟨rfl, hb1⟩
  have hT1 := (Bk.new w 38 #[v0, v1, v2, v3, v4, v5, v6]).below hb1 (by simp)
  have t0 := hT1.at_ (i := 0) rfl; have t1 := hT1.at_ (i := 1) rfl; have t2 := hT1.at_ (i := 2) rfl; have t3 := hT1.at_ (i := 3) rfl; have t4 := hT1.at_ (i := 4) rfl; have t5 := hT1.at_ (i := 5) rfl; have t6 := hT1.at_ (i := 6) rfl
  have HB1 := Lib.hid (bel_then (bel_alloc (Below.refl _ _) _) hb1)
  clear hb1
  go_wp2_with fail
  refine (HM.out _ HB1.out).mono ?_
  rintro e w2 ⟨rfl, hb2⟩
  have hT2 := hT1.below hb2 hT1.lt
  clear t0 t1 t2 t3 t4 t5 t6 hT1
  have t0 := hT2.at_ (i := 0) rfl; have t1 := hT2.at_ (i := 1) rfl; have t2 := hT2.at_ (i := 2) rfl; have t3 := hT2.at_ (i := 3) rfl; have t4 := hT2.at_ (i := 4) rfl; have t5 := hT2.at_ (i := 5) rfl; have t6 := hT2.at_ (i := 6) rfl
  have HB2 := Lib.hid (bel_then HB1.out hb2)
  clear hb2
  go_wp2_with fail
  refine (HR.out _ HB2.out).mono ?_
  rintro e w3 ⟨A, n, c, rfl, hb3, -, -⟩
  have hT3 := (hT2.below hb3 hT2.lt).alloc (.cells #[.int .i64 sz, .int .i64 ag, .bool false, .slice A n c] 58)
  have hlt3 := (hT2.below hb3 hT2.lt).lt
  clear t0 t1 t2 t3 t4 t5 t6 hT2
  have t0 := hT3.at_ (i := 0) rfl; have t1 := hT3.at_ (i := 1) rfl; have t2 := hT3.at_ (i := 2) rfl; have t3 := hT3.at_ (i := 3) rfl; have t4 := hT3.at_ (i := 4) rfl; have t5 := hT3.at_ (i := 5) rfl; have t6 := hT3.at_ (i := 6) rfl
  have HB3 := Lib.hid (bel_alloc (bel_then HB2.out hb3) (.cells #[.int .i64 sz, .int .i64 ag, .bool false, .slice A n c] 58))
  have hX3 := Bk.new w3 58 #[.int .i64 sz, .int .i64 ag, .bool false, .slice A n c]
  clear hb3
  go_wp2_with fail
  refine (HQ.out _ HB3.out).mono ?_
  rintro e w4 ⟨rfl, hb4⟩
  have hX4 := hX3.below hb4 hX3.lt
  have x0 := hX4.at_ (i := 0) rfl
  have x1 := hX4.at_ (i := 1) rfl
  have HB4 := Lib.hid (bel_then HB3.out hb4)
  clear hb4 t0 t1 t2 t3 t4 t5 t6 hX3 hT3
  go_wp2_with fail
  go_ret
  exact ⟨rfl, HB4.out⟩
end Go.Proofs.Ytcggghamnmflcaa

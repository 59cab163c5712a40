/- burinref11.HasUnion. -/
import Derived.Test.YtcggghamnmflcaaImp
namespace Go.Proofs.Ytcggghamnmflcaa
open Go Go.RowKit Go.Shelf
def HuC (d : Nat) : Prop := ∀ (t : Tp d) (v0 v1 v2 v3 v4 v5 v6 : Value) (w : World), TyAt w d t [v0, v1, v2, v3, v4, v5, v6] →
  Calls Try.prog 63 #[.agg #[v0, v1, v2, v3, v4, v5, v6]] w fun e w' => e = .returned (.bool (hasU d t)) ∧ Below w.heap.size w w'
theorem hasU_5 {d : Nat} {t : Nd (Tp d)} (h : t.sh = 5) : hasU (d + 1) t = true := by
  show (t.sh == 5 || t.of.any (hasU d) || t.fs.any (fun f => hasU d f.t)) = true
  rw [h]; rfl
theorem hasU_of {d : Nat} {t : Nd (Tp d)} {x : Tp d} (h : x ∈ t.of) (hx : hasU d x = true) : hasU (d + 1) t = true := by
  show (t.sh == 5 || t.of.any (hasU d) || t.fs.any (fun f => hasU d f.t)) = true
  simp only [Bool.or_eq_true, List.any_eq_true]
  exact .inl (.inr ⟨x, h, hx⟩)
theorem hasU_fs {d : Nat} {t : Nd (Tp d)} {f : Fld (Tp d)} (h : f ∈ t.fs) (hx : hasU d f.t = true) : hasU (d + 1) t = true := by
  show (t.sh == 5 || t.of.any (hasU d) || t.fs.any (fun f => hasU d f.t)) = true
  simp only [Bool.or_eq_true, List.any_eq_true]
  exact .inr ⟨f, h, hx⟩
theorem hasU_not {d : Nat} {t : Nd (Tp d)} (h5 : t.sh ≠ 5) (ho : ∀ x ∈ t.of, hasU d x = false) (hf : ∀ f ∈ t.fs, hasU d f.t = false) : hasU (d + 1) t = false := by
  show (t.sh == 5 || t.of.any (hasU d) || t.fs.any (fun f => hasU d f.t)) = false
  simp only [Bool.or_eq_false_iff, List.any_eq_false, beq_eq_false_iff_ne]
  exact ⟨⟨h5, fun x hx => by rw [ho x hx]; decide⟩, fun f hx => by rw [hf f hx]; decide⟩
set_option maxRecDepth 100000 in
set_option maxHeartbeats 4000000 in
theorem hu_s {d : Nat} (IH : HuC d) : HuC (d + 1) := by
  intro t v0 v1 v2 v3 v4 v5 v6 w ht
  obtain ⟨t, rfl⟩ : ∃ t' : Nd (Tp d), t = t' := ⟨t, rfl⟩
  obtain ⟨A1, A2, c1, c2, hcs, b1, b2, b3, b4, l1, l2, m1, m2, hof, hfs⟩ := id ht
  simp only [List.cons.injEq, and_true] at hcs
  obtain ⟨rfl, rfl, rfl, rfl, rfl, rfl, rfl⟩ := hcs
  have HOF := Lib.hid (show TysAt w d A1 t.of from hof)
  have HFS := Lib.hid (show FdsAt w d A2 t.fs from hfs)
  have IH := Lib.hid IH
  clear ht hof hfs
  obtain ⟨R, hR⟩ : ∃ x, hasU (d + 1) t = x := ⟨_, rfl⟩
  rw [hR]
  have HR := Lib.hid hR
  clear hR
  obtain ⟨sh, hsh⟩ : ∃ x, t.sh = x := ⟨_, rfl⟩
  rw [hsh]
  have HSH := Lib.hid hsh
  obtain ⟨no, hno⟩ : ∃ x, t.of.length = x := ⟨_, rfl⟩
  rw [hno] at l1 ⊢
  have HNO := Lib.hid hno
  obtain ⟨nf, hnf⟩ : ∃ x, t.fs.length = x := ⟨_, rfl⟩
  rw [hnf] at l2 ⊢
  have HNF := Lib.hid hnf
  clear hsh hno hnf
  go_enter Try.func63, Try.ntmps63
  go_upto_region 1 with (fail)
  have hT := Bk.new w 38 #[.int .i64 sh, .int .i64 t.k, .int .i64 t.n, .slice A1 no c1, .slice A2 nf c2, .bool t.pk, .int .i64 t.al]
  have hb0 := bel_alloc (Below.refl _ w) (.cells #[.int .i64 sh, .int .i64 t.k, .int .i64 t.n, .slice A1 no c1, .slice A2 nf c2, .bool t.pk, .int .i64 t.al] 38)
  generalize World.alloc w _ = W0 at hT hb0 ⊢
  have t0 := hT.at_ (i := 0) rfl; have t3 := hT.at_ (i := 3) rfl
  by_cases h5 : sh = 5
  · subst h5
    have HE := Lib.hid (hasU_5 HSH.out)
    obtain rfl : R = true := by rw [← HR.out, HE.out]
    go_wp2_with fail
    go_ret
    exact ⟨rfl, hb0⟩
  · have h5' : (sh == 5) = false := by simpa using h5
    have HB0 := Lib.hid hb0
    have HT := Lib.hid hT
    clear hb0 hT
    go_wp2_with fail
    go_loopw [3] (fun s3 wr => ∃ j : Nat, j ≤ no ∧ s3 = .int .i64 j ∧ (∀ x ∈ t.of.take j, hasU d x = false) ∧ Below w.heap.size w wr ∧ Bk wr w.heap.size 38 #[.int .i64 sh, .int .i64 t.k, .int .i64 t.n, .slice A1 no c1, .slice A2 nf c2, .bool t.pk, .int .i64 t.al]) (fun i _ => no - (intOf i).toNat)
    case atStart => exact ⟨0, Nat.zero_le _, rfl, by simp, HB0.out, HT.out⟩
    case round =>
      clear HB0 HT t0 t3
      obtain ⟨j, hj, rfl, hall, hbel, hT⟩ := hrel
      have t3 := hT.at_ (i := 3) rfl; have t4 := hT.at_ (i := 4) rfl
      have HALL := Lib.hid hall
      clear hall
      by_cases hlt : j < no
      · obtain ⟨x, hx⟩ : ∃ x, t.of[j]? = some x := ⟨_, List.getElem?_eq_getElem (by have := HNO.out; omega)⟩
        obtain ⟨xb, xo, s0, s1, s2, s3, s4, s5, s6, rfl, hxt, p0, p1, p2, p3, p4, p5, p6⟩ := HOF.out.at_ (i := j) (x := x) hx
        have HC := Lib.hid (IH.out x s0 s1 s2 s3 s4 s5 s6 wr (hxt.below hbel))
        replace p0 := bel_cell hbel p0; replace p1 := bel_cell hbel p1; replace p2 := bel_cell hbel p2; replace p3 := bel_cell hbel p3; replace p4 := bel_cell hbel p4; replace p5 := bel_cell hbel p5; replace p6 := bel_cell hbel p6
        have HX := Lib.hid hx
        have HB := Lib.hid hbel
        have HT := Lib.hid hT
        clear hxt hx hbel hT
        go_wp2_with fail
        refine HC.out.mono ?_
        rintro e w2 ⟨rfl, hb2⟩
        have HB2 := Lib.hid (bel_then HB.out hb2)
        have HT2 := Lib.hid (HT.out.below hb2 HT.out.lt)
        clear t3 t4 p0 p1 p2 p3 p4 p5 p6 hb2
        cases hh : hasU d x with
        | true =>
          obtain rfl : R = true := by rw [← HR.out, hasU_of (List.mem_of_getElem? HX.out) hh]
          go_wp2_with fail
          go_ret
          exact ⟨rfl, HB2.out⟩
        | false =>
          have HA2 := Lib.hid (show ∀ y ∈ t.of.take (j + 1), hasU d y = false from fun y hy => by
            rw [List.take_add_one, HX.out] at hy
            rcases List.mem_append.1 hy with h | h
            · exact HALL.out y h
            · simp at h; subst h; exact hh)
          clear hh
          go_wp2_with fail
          go_roundw
          case rel => exact ⟨j + 1, by omega, by go_num, HA2.out, HB2.out, HT2.out⟩
          case measure => simp [intOf]; omega
      · have HAO := Lib.hid (show ∀ y ∈ t.of, hasU d y = false from fun y hy => HALL.out y (by rwa [List.take_of_length_le (by have := HNO.out; omega)]))
        obtain rfl : j = no := by omega
        have HB := Lib.hid hbel
        have HT := Lib.hid hT
        clear hbel hT
        obtain ⟨wo, rfl⟩ : ∃ wo : World, wo = wr := ⟨_, rfl⟩
        go_wp2_with fail
        go_loopw [4] (fun s4 wr => ∃ i : Nat, i ≤ nf ∧ s4 = .int .i64 i ∧ (∀ f ∈ t.fs.take i, hasU d f.t = false) ∧ Below w.heap.size w wr ∧ Bk wr w.heap.size 38 #[.int .i64 sh, .int .i64 t.k, .int .i64 t.n, .slice A1 j c1, .slice A2 nf c2, .bool t.pk, .int .i64 t.al]) (fun i _ => nf - (intOf i).toNat)
        case atStart => exact ⟨0, Nat.zero_le _, rfl, by simp, HB.out, HT.out⟩
        case round =>
          clear HB HT t3 t4
          obtain ⟨i, hi, rfl, hall, hbel, hT⟩ := hrel
          have t4 := hT.at_ (i := 4) rfl
          have HALF := Lib.hid hall
          clear hall
          by_cases hlt : i < nf
          · obtain ⟨f, hf⟩ : ∃ f, t.fs[i]? = some f := ⟨_, List.getElem?_eq_getElem (by have := HNF.out; omega)⟩
            obtain ⟨xb, xo, fn, C1, C2, cn1, cn2, cc1, cc2, fpk, fal, rfl, -, -, hfty, p0, p1, p2, p3, p4, p5, p6, p7, p8⟩ := HFS.out.at_ hf
            have HC := Lib.hid (IH.out f.t _ _ _ _ _ _ _ wr (hfty.below hbel))
            replace p1 := bel_cell hbel p1; replace p2 := bel_cell hbel p2; replace p3 := bel_cell hbel p3; replace p4 := bel_cell hbel p4; replace p5 := bel_cell hbel p5; replace p6 := bel_cell hbel p6; replace p7 := bel_cell hbel p7
            have HX := Lib.hid hf
            have HB := Lib.hid hbel
            have HT := Lib.hid hT
            clear hfty hf hbel hT p0 p8
            go_wp2_with fail
            refine HC.out.mono ?_
            rintro e w2 ⟨rfl, hb2⟩
            have HB2 := Lib.hid (bel_then HB.out hb2)
            have HT2 := Lib.hid (HT.out.below hb2 HT.out.lt)
            clear t4 p1 p2 p3 p4 p5 p6 p7 hb2
            cases hh : hasU d f.t with
            | true =>
              obtain rfl : R = true := by rw [← HR.out, hasU_fs (List.mem_of_getElem? HX.out) hh]
              go_wp2_with fail
              go_ret
              exact ⟨rfl, HB2.out⟩
            | false =>
              have HA2 := Lib.hid (show ∀ y ∈ t.fs.take (i + 1), hasU d y.t = false from fun y hy => by
                rw [List.take_add_one, HX.out] at hy
                rcases List.mem_append.1 hy with h | h
                · exact HALF.out y h
                · simp at h; subst h; exact hh)
              clear hh
              go_wp2_with fail
              go_roundw
              case rel => exact ⟨i + 1, by omega, by go_num, HA2.out, HB2.out, HT2.out⟩
              case measure => simp [intOf]; omega
          · have HAF := Lib.hid (show ∀ y ∈ t.fs, hasU d y.t = false from fun y hy => HALF.out y (by rwa [List.take_of_length_le (by have := HNF.out; omega)]))
            obtain rfl : R = false := by rw [← HR.out, hasU_not (by rw [HSH.out]; exact h5) HAO.out HAF.out]
            obtain rfl : i = nf := by omega
            have HB := Lib.hid hbel
            clear hbel hT
            go_wp2_with fail
            go_ret
            exact ⟨rfl, HB.out⟩
theorem hu_c : ∀ d, HuC d
  | 0 => fun t => nomatch t
  | d + 1 => hu_s (hu_c d)
end Go.Proofs.Ytcggghamnmflcaa

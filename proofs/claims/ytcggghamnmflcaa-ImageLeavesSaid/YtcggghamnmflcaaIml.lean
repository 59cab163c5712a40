/- ImageLeaves: what a path leads to is one of the numbers that shape tells. -/
import Derived.Test.YtcggghamnmflcaaGi
import Derived.Test.YtcggghamnmflcaaSri
import Derived.Test.YtcggghamnmflcaaLvf
namespace Go.Proofs.Ytcggghamnmflcaa
open Go Go.RowKit Go.Shelf
attribute [local go_sem ↓] eq48 guard48
theorem leaf_2000 (d : Nat) (t : Tp d) : (leafL d t).length ≤ 2000 := by
  unfold leafL leafE
  by_cases he : errS d t = 0
  · rw [if_pos he]
    by_cases hl : 2000 < (leavesS d t 0).length
    · rw [if_pos hl, if_neg (by decide)]; exact Nat.zero_le _
    · rw [if_neg hl, if_pos rfl]; omega
  · rw [if_neg he, if_neg he]; exact Nat.zero_le _
theorem find_0 {d : Nat} {t : Tp d} {p : List Int} (h : findE d t p = 0) : errS d t = 0 ∧ ∃ us, walkS d t 0 0 p = some (spotS d t p, us) := by
  unfold findE at h
  by_cases he : errS d t = 0
  · refine ⟨he, ?_⟩
    rw [if_pos he] at h
    unfold spotS
    rw [if_pos he]
    cases hw : walkS d t 0 0 p with
    | none => rw [hw] at h; exact absurd h (by decide)
    | some r => exact ⟨r.2, rfl⟩
  · rw [if_neg he] at h; exact absurd h he
theorem find_leaf {d : Nat} {t : Tp d} {p : List Int} (h : findE d t p = 0) : leafE d t = 101 ∨ (leafE d t = 0 ∧ spotS d t p ∈ leafL d t) := by
  obtain ⟨he, us, hw⟩ := find_0 h
  unfold leafL leafE
  rw [if_pos he]
  by_cases hl : 2000 < (leavesS d t 0).length
  · exact .inl (if_pos hl)
  · refine .inr ⟨if_neg hl, ?_⟩
    rw [if_neg hl, if_pos rfl]
    obtain ⟨hp, hb⟩ := err_0 he
    exact walk_leaf d t 0 0 p _ us _ hp hb hw
set_option maxRecDepth 100000 in
set_option maxHeartbeats 4000000 in
theorem imageLeaves_w (d : Nat) (t : Tp d) (v0 v1 v2 v3 v4 v5 v6 : Value) (A : Option Addr) (p : List Int) (c : Nat) (w : World) (ht : TyAt w d t [v0, v1, v2, v3, v4, v5, v6]) (hc1 : p.length ≤ c) (hc2 : c ≤ 9223372036854775807) (hP : IntsAt w A p.length p) :
    Calls Try.prog 27 #[.agg #[v0, v1, v2, v3, v4, v5, v6], .slice A p.length c] w fun e w' => e = .returned (.bool true) ∧ Below w.heap.size w w' := by
  have HS := Lib.hid (fun w' (hb : Below w.heap.size w w') => spot_c A p c w' (ht.below hb) (hP.below hb) hc1 hc2)
  have HL := Lib.hid (fun w' (hb : Below w.heap.size w w') => leaves40_c (ht.below hb))
  have HN := Lib.hid (leaf_2000 d t)
  have HF := Lib.hid (fun h => find_leaf (d := d) (t := t) (p := p) h)
  clear ht hP
  go_enter Try.func27, Try.ntmps27
  go_wp2_with fail
  refine (shown54_c _).mono ?_
  rintro e w1 ⟨rfl, hb1⟩
  have hT1 := (Bk.new w 38 #[v0, v1, v2, v3, v4, v5, v6]).below hb1 (by simp)
  have t0 := hT1.at_ (i := 0) rfl; have t1 := hT1.at_ (i := 1) rfl; have t2 := hT1.at_ (i := 2) rfl; have t3 := hT1.at_ (i := 3) rfl; have t4 := hT1.at_ (i := 4) rfl; have t5 := hT1.at_ (i := 5) rfl; have t6 := hT1.at_ (i := 6) rfl
  have HB1 := Lib.hid (bel_then (bel_alloc (Below.refl _ _) _) hb1)
  clear hb1
  go_wp2_with fail
  refine (HS.out _ HB1.out).mono ?_
  unfold SpotP
  rintro e w2 ⟨rfl, hb2⟩
  obtain ⟨sp, hsp⟩ : ∃ x, spotS d t p = x := ⟨_, rfl⟩
  obtain ⟨fe, hfe⟩ : ∃ x, findE d t p = x := ⟨_, rfl⟩
  obtain ⟨le, hle⟩ : ∃ x, leafE d t = x := ⟨_, rfl⟩
  obtain ⟨L, hL⟩ : ∃ x, leafL d t = x := ⟨_, rfl⟩
  rw [hsp, hfe, hle, hL] at HF
  rw [hle, hL] at HL
  rw [hL] at HN
  rw [hsp, hfe]
  clear hsp hfe hle hL
  have hT2 := (hT1.below hb2 hT1.lt).alloc (.cells #[.int .i64 sp.bit, .int .i64 sp.bits, .int .i64 sp.k] 48)
  have hS2 := Bk.new w2 48 #[.int .i64 sp.bit, .int .i64 sp.bits, .int .i64 sp.k]
  have hB2 := bel_alloc (bel_then HB1.out hb2) (.cells #[.int .i64 sp.bit, .int .i64 sp.bits, .int .i64 sp.k] 48)
  clear t0 t1 t2 t3 t4 t5 t6 hT1 HB1 hb2
  go_upto_region 3 with (fail)
  generalize World.alloc w2 _ = W3 at hT2 hS2 hB2 ⊢
  have t0 := hT2.at_ (i := 0) rfl; have t1 := hT2.at_ (i := 1) rfl; have t2 := hT2.at_ (i := 2) rfl; have t3 := hT2.at_ (i := 3) rfl; have t4 := hT2.at_ (i := 4) rfl; have t5 := hT2.at_ (i := 5) rfl; have t6 := hT2.at_ (i := 6) rfl
  go_wp2_with fail
  refine (HL.out _ hB2).mono ?_
  rintro e w4 ⟨B, n, c4, rfl, hA, hb4⟩
  obtain rfl := hA.1.1
  have hS4 := hS2.below hb4 hS2.lt
  have HB4 := Lib.hid (bel_then hB2 hb4)
  have HX := Lib.hid hA
  clear t0 t1 t2 t3 t4 t5 t6 hT2 hS2 hB2 hb4 hA
  by_cases hf : fe = 0
  · rcases HF.out hf with hl | ⟨hl, hm⟩
    · subst hf hl
      go_wp2_with fail
      go_ret
      exact ⟨rfl, HB4.out⟩
    · subst hf hl
      have HM := Lib.hid hm
      clear hm HF
      have s0 := hS4.at_ (i := 0) rfl; have s1 := hS4.at_ (i := 1) rfl; have s2 := hS4.at_ (i := 2) rfl
      go_upto_region 6 with (fail)
      go_wp2_with fail
      go_loopw [10] (fun s10 wr => ∃ j : Nat, j ≤ L.length ∧ s10 = .int .i64 j ∧ sp ∉ L.take j ∧ Below w4.heap.size w4 wr) (fun i _ => L.length - (intOf i).toNat)
      case atStart => exact ⟨0, Nat.zero_le _, rfl, by simp, Below.refl _ _⟩
      case round =>
        obtain ⟨j, hj, rfl, htk, hb⟩ := hrel
        have HTK := Lib.hid htk
        clear htk
        have hn := HN.out
        by_cases hlt : j < L.length
        · obtain ⟨x, hx⟩ : ∃ x, L[j]? = some x := ⟨_, List.getElem?_eq_getElem hlt⟩
          obtain ⟨b, o, rfl, a0, a1, a2⟩ := HX.out.1.2 j x hx
          have g0 := bel_cell hb a0
          have g1 := bel_cell hb a1
          have g2 := bel_cell hb a2
          have i0 := bel_cell hb s0
          have i1 := bel_cell hb s1
          have i2 := bel_cell hb s2
          have HXJ := Lib.hid hx
          clear hx a0 a1 a2 s0 s1 s2
          cases hq : eqB x.bit x.bits x.k sp.bit sp.bits sp.k with
          | true =>
            go_wp2_with fail
            go_quiet (fail)
            go_wp2_with fail
            go_ret
            exact ⟨rfl, bel_then HB4.out (bel_drewN hb _)⟩
          | false =>
            have HNE := Lib.hid (show sp ∉ L.take (j + 1) by
              rw [List.take_add_one, HXJ.out]
              intro hmem
              rcases List.mem_append.1 hmem with h | h
              · exact HTK.out h
              · simp at h
                subst h
                rw [eqB_iff] at hq
                simp at hq)
            go_wp2_with fail
            go_quiet (fail)
            go_wp2_with fail
            go_roundw
            case rel => exact ⟨j + 1, by omega, by go_num, HNE.out, bel_drewN hb _⟩
            case measure => simp [intOf]; omega
        · exact absurd HM.out (by have := HTK.out; rwa [List.take_of_length_le (by omega)] at this)
  · have q : (fe != 0) = true := by rw [bne_iff_ne]; exact hf
    have HQ := Lib.hid hf
    clear hf
    go_wp2_with fail
    go_ret
    exact ⟨rfl, HB4.out⟩
end Go.Proofs.Ytcggghamnmflcaa

/- The walk of the reference's fields: whatever members, by what plain answers. -/
import Derived.Test.YtcggghamnmflcaaSra
import Derived.Deep.CutRange
namespace Go.Proofs.Ytcggghamnmflcaa
open Go Go.RowKit Go.Shelf
/-- What plain is to answer. -/
def RefC (deep : Int) : Prop := ∀ (d : Nat) (t : Tp d) (v0 v1 v2 v3 v4 v5 v6 : Value) (w : World), TyAt w d t [v0, v1, v2, v3, v4, v5, v6] →
  Calls Try.prog 83 #[.agg #[v0, v1, v2, v3, v4, v5, v6], .int .i64 deep] w fun e w' => e = .returned (.bool (plainS d t deep)) ∧ Below w.heap.size w w'
def fldB (d : Nat) (f : Fld (Tp d)) (deep : Int) : Bool := plainS d f.t deep && isFieldS f.nm (tsh d f.t) (tk d f.t) f.bits
def fieldsS (d : Nat) (l : List (Fld (Tp d))) (deep : Int) : Bool := namedS (l.map Fld.nm) && l.all fun f => fldB d f deep
theorem FdsAt.nm {w : World} {d : Nat} {b o : Nat} {l : List (Fld (Tp d))} (h : FdsAt w d (some ⟨b, o, none⟩) l) {i : Nat} {f : Fld (Tp d)} (hf : l[i]? = some f) : w.cell? ⟨b, o + i * 9, none⟩ = some (.string f.nm) := by
  obtain ⟨b', o', xs, ha, hl, hbt, hn, hr, ht⟩ := h i f hf
  cases ha
  exact hr 0 _ rfl
theorem fields_bad {d : Nat} {l : List (Fld (Tp d))} {deep : Int} {k : Nat} {f : Fld (Tp d)} (hf : l[k]? = some f) (h : fldB d f deep = false) : fieldsS d l deep = false := by
  unfold fieldsS
  have : (l.all fun f => fldB d f deep) = false := by
    rw [List.all_eq_false]
    exact ⟨f, List.mem_of_getElem? hf, by rw [h]; simp⟩
  rw [this, Bool.and_false]
theorem fields_dup {d : Nat} {l : List (Fld (Tp d))} {deep : Int} {k : Nat} {f : Fld (Tp d)} (hf : l[k]? = some f) (h1 : f.nm.toList.isEmpty = false) (h2 : seenS ((l.map Fld.nm).take k) f.nm = true) : fieldsS d l deep = false := by
  unfold fieldsS namedS
  cases ha : apartS (l.map Fld.nm) with
  | false => rfl
  | true =>
    rcases seen_of_apart ha (j := k) (x := f.nm) (by simp [hf]) with h | h
    · rw [h] at h1; cases h1
    · rw [h] at h2; cases h2
theorem seen_snoc {l : List ByteArray} {m : Nat} {y x : ByteArray} (hy : l[m]? = some y) : seenS (l.take (m + 1)) x = (seenS (l.take m) x || (y.data.toList == x.data.toList)) := by
  unfold seenS
  rw [take_snoc_of hy, List.any_append]
  simp
/-- Not met among the first m, or no name. -/
def SeenR (l : List ByteArray) (m : Nat) (x : ByteArray) : Prop := x.toList.isEmpty = true ∨ seenS (l.take m) x = false
def anyN (l : List ByteArray) : Bool := l.any fun x => !x.toList.isEmpty
theorem anyN_snoc {l : List ByteArray} {k : Nat} {x : ByteArray} (hx : l[k]? = some x) : anyN (l.take (k + 1)) = (anyN (l.take k) || !x.toList.isEmpty) := by
  unfold anyN
  rw [take_snoc_of hx, List.any_append]
  simp
set_option maxRecDepth 100000 in
set_option maxHeartbeats 4000000 in
theorem fields_c (deep : Int) (hR : RefC deep) {d : Nat} (A : Option Addr) (c : Nat) (l : List (Fld (Tp d))) (w : World) (hF : FdsAt w d A l) (hc : l.length ≤ c) (hm : c ≤ 9223372036854775807) :
    Calls Try.prog 112 #[.slice A l.length c, .int .i64 deep] w fun e w' => e = .returned (.bool (fieldsS d l deep)) ∧ Below w.heap.size w w' := by
  have hlen : l.length ≤ 9223372036854775807 := by omega
  go_enter Try.func112, Try.ntmps112
  go_wp2
  go_loopw [5, 6] (fun s5 s6 wr => ∃ k : Nat, k ≤ l.length ∧ s6 = .int .i64 k ∧ s5 = .bool (anyN ((l.map Fld.nm).take k)) ∧ ((l.take k).all fun f => fldB d f deep) = true ∧ (∀ j x, j < k → (l.map Fld.nm)[j]? = some x → x.toList.isEmpty = true ∨ seenS ((l.map Fld.nm).take j) x = false) ∧ Below w.heap.size w wr)
    (fun _ i _ => l.length - (intOf i).toNat)
  case atStart => exact ⟨0, Nat.zero_le _, rfl, rfl, rfl, fun j x hj => by omega, Below.refl _ _⟩
  case round =>
    obtain ⟨k, hk, rfl, rfl, hall, hs, hB⟩ := hrel
    have HA := Lib.hid hall
    have HS := Lib.hid hs
    clear hall hs
    by_cases hlt : k < l.length
    · obtain ⟨f, hf⟩ : ∃ f, l[k]? = some f := ⟨_, List.getElem?_eq_getElem hlt⟩
      obtain ⟨b, o, nn, A1, A2, n1, n2, c1, c2, pk, al, hA, hbt, hnm, hty, q0, q1, q2, q3, q4, q5, q6, q7, q8⟩ := (hF.below hB).at_ hf
      subst hA
      have HF := Lib.hid hf
      obtain ⟨nd, hnd⟩ : ∃ x, anyN ((l.map Fld.nm).take k) = x := ⟨_, rfl⟩
      rw [hnd]
      have HND := Lib.hid hnd
      clear hf hnd
      cases hp : plainS d f.t deep with
      | false =>
        have HP := Lib.hid (show fieldsS d l deep = false from fields_bad HF.out (by unfold fldB; rw [hp]; rfl))
        go_wp2_with (go_at_call 83; refine (hR d f.t _ _ _ _ _ _ _ _ hty).mono ?_; rintro e w1 ⟨rfl, hb1⟩; rw [hp]; have HB1 := Lib.hid hb1; clear hb1)
        go_ret
        exact ⟨by rw [HP.out]; rfl, bel_then hB HB1.out⟩
      | true =>
        have HP := Lib.hid hp
        clear hp
        go_upto_region 6 with (go_at_call 83; refine (hR d f.t _ _ _ _ _ _ _ _ hty).mono ?_; rintro e w1 ⟨rfl, hb1⟩; rw [HP.out]; have HB1 := Lib.hid hb1; clear hb1)
        have hB1 := bel_then hB HB1.out
        have hF1 := hF.below hB1
        have p0 := bel_cell HB1.out q0
        have p1 := bel_cell HB1.out q1
        have p2 := bel_cell HB1.out q2
        have p3 := bel_cell HB1.out q3
        have p4 := bel_cell HB1.out q4
        have p5 := bel_cell HB1.out q5
        have p6 := bel_cell HB1.out q6
        have p7 := bel_cell HB1.out q7
        have p8 := bel_cell HB1.out q8
        clear q0 q1 q2 q3 q4 q5 q6 q7 q8 hty
        cases hfd : isFieldS f.nm (tsh d f.t) (tk d f.t) f.bits with
        | false =>
          have HQ := Lib.hid (show fieldsS d l deep = false from fields_bad HF.out (by unfold fldB; rw [hfd, Bool.and_false]))
          go_wp2_with (go_at_call 123; refine (bareField_c _ _ _ _ _ _ _ _ _ _ _ _ _ _).mono ?_; rintro e w2 ⟨rfl, hb2⟩; rw [hfd]; have HB2 := Lib.hid hb2; clear hb2)
          go_ret
          exact ⟨by rw [HQ.out]; rfl, bel_then hB1 HB2.out⟩
        | true =>
          have HFD := Lib.hid hfd
          clear hfd
          go_upto_region 8 with (go_at_call 123; refine (bareField_c _ _ _ _ _ _ _ _ _ _ _ _ _ _).mono ?_; rintro e w2 ⟨rfl, hb2⟩; rw [HFD.out]; have HB2 := Lib.hid hb2; clear hb2)
          have hB2 := bel_then hB1 HB2.out
          have hF2 := hF.below hB2
          have r0 := hF2.nm HF.out
          clear p0 p1 p2 p3 p4 p5 p6 p7 p8 hF1
          go_cut [5] from 9 to 64 (fun s5 wx => s5 = .bool (nd || !f.nm.toList.isEmpty) ∧ wx = w2)
          case first =>
            cases nd with
            | true =>
              go_wp2_with fail
              go_meet
              case rel => exact ⟨rfl, rfl⟩
            | false =>
              cases he : f.nm.toList.isEmpty with
              | true =>
                go_wp2_with fail
                go_meet
                case rel => exact ⟨by rw [he]; rfl, rfl⟩
              | false =>
                go_wp2_with fail
                go_meet
                case rel => exact ⟨by rw [he]; rfl, rfl⟩
          case rest =>
            obtain ⟨rfl, rfl⟩ := hcut
            obtain ⟨n5, hn5⟩ : ∃ x, (nd || !f.nm.toList.isEmpty) = x := ⟨_, rfl⟩
            rw [hn5]
            have H5 := Lib.hid hn5
            clear hn5
            go_wp2_with fail
            go_loopw [8] (fun s8 wx => ∃ m : Nat, m ≤ k ∧ s8 = .int .i64 m ∧ SeenR (l.map Fld.nm) m f.nm ∧ Below wc.heap.size wc wx) (fun i _ => k - (intOf i).toNat)
            case atStart => exact ⟨0, Nat.zero_le _, rfl, .inr rfl, Below.refl _ _⟩
            case round =>
              obtain ⟨m, hmk, rfl, hseen, hBx⟩ := hrel
              have HSE := Lib.hid hseen
              clear hseen
              by_cases hltm : m < k
              · obtain ⟨g, hg⟩ : ∃ g, l[m]? = some g := ⟨_, List.getElem?_eq_getElem (by omega)⟩
                have t0 := bel_cell hBx r0
                have t1 := bel_cell hBx (hF2.nm hg)
                have HG := Lib.hid hg
                clear hg
                cases he : f.nm.toList.isEmpty with
                | true =>
                  have HE := Lib.hid (show SeenR (l.map Fld.nm) (m + 1) f.nm from .inl he)
                  go_wp2_with fail
                  go_quiet (fail)
                  go_wp2_with fail
                  go_roundw
                  case rel => exact ⟨m + 1, by omega, by go_num, HE.out, bel_drewN hBx _⟩
                  case measure => simp [intOf]; omega
                | false =>
                  have hqe : (g.nm.toList == f.nm.toList) = (g.nm.data.toList == f.nm.data.toList) := by rw [Go.ByteArray.toList_eq, Go.ByteArray.toList_eq]
                  have HQE := Lib.hid hqe
                  clear hqe
                  cases hq : (g.nm.toList == f.nm.toList) with
                  | true =>
                    have HD := Lib.hid (show fieldsS d l deep = false from fields_dup HF.out he (by
                      unfold seenS
                      rw [List.any_eq_true]
                      exact ⟨g.nm, List.mem_iff_getElem?.2 ⟨m, by rw [List.getElem?_take, if_pos hltm]; simp [HG.out]⟩, HQE.out.symm.trans hq⟩))
                    go_wp2_with fail
                    go_quiet (fail)
                    go_wp2_with fail
                    go_ret
                    exact ⟨by rw [HD.out]; rfl, bel_then hB2 (bel_drewN hBx _)⟩
                  | false =>
                    have HE := Lib.hid (show SeenR (l.map Fld.nm) (m + 1) f.nm from .inr (by
                      rw [seen_snoc (y := g.nm) (by simp [HG.out]), ← HQE.out, hq, Bool.or_false]
                      rcases HSE.out with h | h
                      · rw [h] at he; cases he
                      · exact h))
                    go_wp2_with fail
                    go_quiet (fail)
                    go_wp2_with fail
                    go_roundw
                    case rel => exact ⟨m + 1, by omega, by go_num, HE.out, bel_drewN hBx _⟩
                    case measure => simp [intOf]; omega
              · have hmk2 : m = k := by omega
                have HM := Lib.hid hmk2
                clear hmk2
                go_wp2_with fail
                go_roundw
                case rel => exact ⟨k + 1, by omega, by go_num, by rw [anyN_snoc (x := f.nm) (by simp [HF.out]), HND.out, H5.out], by rw [take_snoc_of HF.out, List.all_append, HA.out]; simp [fldB, HP.out, HFD.out], fun j x hj hx => by
                  rcases Nat.lt_or_ge j k with h1 | h1
                  · exact HS.out j x h1 hx
                  · obtain rfl : j = k := by omega
                    have : x = f.nm := by simp [HF.out] at hx; exact hx.symm
                    subst this
                    have := HSE.out
                    rwa [HM.out] at this, bel_then hB2 hBx⟩
                case measure => simp [intOf]; omega
    · have hkl : k = l.length := by omega
      have HNA := Lib.hid (show fieldsS d l deep = (anyN ((l.map Fld.nm).take k) && decide (l.length ≤ 40)) by
        have h1 : apartS (l.map Fld.nm) = true := apart_of_seen fun j x hj hx => HS.out j x (by simpa [hkl] using hj) hx
        have h2 : (l.all fun f => fldB d f deep) = true := by have := HA.out; rwa [hkl, List.take_length] at this
        have h3 : (l.map Fld.nm).take k = l.map Fld.nm := by rw [hkl]; exact List.take_of_length_le (by simp)
        unfold fieldsS namedS
        rw [h1, h2, h3, List.length_map, Bool.true_and, Bool.and_true]
        rfl)
      clear hkl
      obtain ⟨nd, hnd⟩ : ∃ x, anyN ((l.map Fld.nm).take k) = x := ⟨_, rfl⟩
      rw [hnd] at HNA ⊢
      clear hnd
      cases nd with
      | false =>
        go_wp2_with fail
        go_ret
        exact ⟨by rw [HNA.out]; rfl, hB⟩
      | true =>
        go_wp2_with fail
        go_ret
        exact ⟨ret_b (by rw [HNA.out]; simp; omega), hB⟩
end Go.Proofs.Ytcggghamnmflcaa

/- Walks of the reference's small functions of shapes. The walk of the reference's fields: whatever members, by what plain answers. The walk of the reference's plain: whatever type. Plain laws: the numbers of a right type's box; no program. The walk of the reference's next: where a member begins. -/
import Derived.Test.YtcggghamnmflcaaSwp
import Derived.Deep.CutRange
namespace Go.Proofs.Ytcggghamnmflcaa
open Go Go.RowKit Go.Shelf
theorem rup_c (v n : Int) (w : World) (h0 : 0 ≤ v) (h1 : v ≤ 1000000000000) (h2 : 1 ≤ n) (h3 : n ≤ 1000000000000) : Calls Try.prog 125 #[.int .i64 v, .int .i64 n] w fun e w' => e = .returned (.int .i64 (upS v n)) ∧ w = w' := by
  have hq : 0 ≤ (v + n - 1) / n * n := Int.mul_nonneg (Int.ediv_nonneg (by omega) (by omega)) (by omega)
  have hm : (v + n - 1) / n * n ≤ v + n - 1 := Int.ediv_mul_le _ (by omega)
  go_enter Try.func125, Try.ntmps125
  go_wp2
  go_ret
  exact ⟨rfl, rfl⟩
theorem bareField_c (nm : ByteArray) (sh k n al bits : Int) (A1 A2 : Option Addr) (n1 n2 c1 c2 : Nat) (pk : Bool) (w : World) : Calls Try.prog 123 #[.agg #[.string nm, .int .i64 sh, .int .i64 k, .int .i64 n, .slice A1 n1 c1, .slice A2 n2 c2, .bool pk, .int .i64 al, .int .i64 bits]] w fun e w' => e = .returned (.bool (isFieldS nm sh k bits)) ∧ Below w.heap.size w w' := by
  obtain ⟨r1, r2⟩ := ksize_rng k
  by_cases hb : bits < 0
  · have H := Lib.hid (show isFieldS nm sh k bits = !nm.toList.isEmpty by unfold isFieldS; rw [if_pos hb])
    go_enter Try.func123, Try.ntmps123
    go_wp2
    go_ret
    exact ⟨by rw [H.out]; rfl, by (repeat (first | exact Below.refl _ _ | apply bel_drewN | apply bel_alloc))⟩
  · have H0 : isFieldS nm sh k bits = (sh == 1 && decide (bits ≤ 8 * ksize k) && (decide (0 < bits) || nm.toList.isEmpty)) := by unfold isFieldS; rw [if_neg hb]
    cases h1 : sh == 1 with
    | false =>
      have H := Lib.hid (show isFieldS nm sh k bits = false by rw [H0, h1]; rfl)
      have h1' : (sh != 1) = true := by rw [bne, h1]; rfl
      clear H0
      go_enter Try.func123, Try.ntmps123
      go_wp2
      go_quiet ((go_at_call 72; with_reducible exact Calls.quiet_of_same ((rsize_c _ _).mono fun _ _ ⟨a, b⟩ => ⟨a, b.symm⟩)))
      go_wp2
      go_ret
      exact ⟨by rw [H.out]; rfl, by (repeat (first | exact Below.refl _ _ | apply bel_drewN | apply bel_alloc))⟩
    | true =>
      have h1' : (sh != 1) = false := by rw [bne, h1]; rfl
      by_cases h2 : bits ≤ 8 * ksize k
      · have d2 : decide (8 * ksize k < bits) = false := decide_eq_false (by omega)
        by_cases h3 : 0 < bits
        · have H := Lib.hid (show isFieldS nm sh k bits = true by rw [H0, h1, decide_eq_true h2, decide_eq_true h3]; rfl)
          clear H0
          go_enter Try.func123, Try.ntmps123
          go_wp2
          go_quiet ((go_at_call 72; with_reducible exact Calls.quiet_of_same ((rsize_c _ _).mono fun _ _ ⟨a, b⟩ => ⟨a, b.symm⟩)))
          go_wp2
          go_ret
          exact ⟨by rw [H.out]; rfl, by (repeat (first | exact Below.refl _ _ | apply bel_drewN | apply bel_alloc))⟩
        · have H := Lib.hid (show isFieldS nm sh k bits = nm.toList.isEmpty by rw [H0, h1, decide_eq_true h2, decide_eq_false h3]; rfl)
          have d3 : decide (0 < bits) = false := decide_eq_false h3
          clear H0
          go_enter Try.func123, Try.ntmps123
          go_wp2
          go_quiet ((go_at_call 72; with_reducible exact Calls.quiet_of_same ((rsize_c _ _).mono fun _ _ ⟨a, b⟩ => ⟨a, b.symm⟩)))
          go_wp2
          go_ret
          exact ⟨by rw [H.out]; rfl, by (repeat (first | exact Below.refl _ _ | apply bel_drewN | apply bel_alloc))⟩
      · have H := Lib.hid (show isFieldS nm sh k bits = false by rw [H0, h1, decide_eq_false h2]; rfl)
        have d2 : decide (8 * ksize k < bits) = true := decide_eq_true (by omega)
        clear H0
        go_enter Try.func123, Try.ntmps123
        go_wp2
        go_quiet ((go_at_call 72; with_reducible exact Calls.quiet_of_same ((rsize_c _ _).mono fun _ _ ⟨a, b⟩ => ⟨a, b.symm⟩)))
        go_wp2
        go_ret
        exact ⟨by rw [H.out]; rfl, by (repeat (first | exact Below.refl _ _ | apply bel_drewN | apply bel_alloc))⟩
def AlR (n k : Int) : Prop := (k = 1) ∨ (k = 2 ∧ (n == 1) = false) ∨ (k = 4 ∧ (n == 1) = false ∧ (n == 2) = false) ∨ (k = 8 ∧ (n == 1) = false ∧ (n == 2) = false ∧ (n == 4) = false) ∨ (k = 16 ∧ (n == 1) = false ∧ (n == 2) = false ∧ (n == 4) = false ∧ (n == 8) = false) ∨ (k = 32 ∧ (n == 1) = false ∧ (n == 2) = false ∧ (n == 4) = false ∧ (n == 8) = false ∧ (n == 16) = false) ∨ (k = 64 ∧ (n == 1) = false ∧ (n == 2) = false ∧ (n == 4) = false ∧ (n == 8) = false ∧ (n == 16) = false ∧ (n == 32) = false) ∨ (k = 128 ∧ (n == 1) = false ∧ (n == 2) = false ∧ (n == 4) = false ∧ (n == 8) = false ∧ (n == 16) = false ∧ (n == 32) = false ∧ (n == 64) = false)
theorem risAlign_c (n : Int) (w : World) : Calls Try.prog 111 #[.int .i64 n] w fun e w' => e = .returned (.bool (isAlignS n)) ∧ w = w' := by
  go_enter Try.func111, Try.ntmps111
  go_wp2
  go_loop [3] (fun k => ∃ j : Int, k = .int .i64 j ∧ AlR n j) (fun k => (128 - intOf k).toNat)
  case atStart => exact ⟨1, rfl, .inl rfl⟩
  case round =>
    obtain ⟨j, rfl, hj⟩ := hrel
    unfold AlR at hj
    rcases hj with rfl | ⟨rfl, g0⟩ | ⟨rfl, g0, g1⟩ | ⟨rfl, g0, g1, g2⟩ | ⟨rfl, g0, g1, g2, g3⟩ | ⟨rfl, g0, g1, g2, g3, g4⟩ | ⟨rfl, g0, g1, g2, g3, g4, g5⟩ | ⟨rfl, g0, g1, g2, g3, g4, g5, g6⟩
    · cases h : (n == 1) with
      | true =>
        obtain rfl : n = 1 := by simpa using h
        clear h
        go_wp2
        go_ret
        exact ⟨rfl, rfl⟩
      | false =>
        go_wp2
        go_round
        case rel => exact ⟨2, rfl, .inr (.inl ⟨rfl, h⟩)⟩
        case measure => simp [intOf]
    · cases h : (n == 2) with
      | true =>
        obtain rfl : n = 2 := by simpa using h
        clear h
        go_wp2
        go_ret
        exact ⟨rfl, rfl⟩
      | false =>
        go_wp2
        go_round
        case rel => exact ⟨4, rfl, .inr (.inr (.inl ⟨rfl, g0, h⟩))⟩
        case measure => simp [intOf]
    · cases h : (n == 4) with
      | true =>
        obtain rfl : n = 4 := by simpa using h
        clear h
        go_wp2
        go_ret
        exact ⟨rfl, rfl⟩
      | false =>
        go_wp2
        go_round
        case rel => exact ⟨8, rfl, .inr (.inr (.inr (.inl ⟨rfl, g0, g1, h⟩)))⟩
        case measure => simp [intOf]
    · cases h : (n == 8) with
      | true =>
        obtain rfl : n = 8 := by simpa using h
        clear h
        go_wp2
        go_ret
        exact ⟨rfl, rfl⟩
      | false =>
        go_wp2
        go_round
        case rel => exact ⟨16, rfl, .inr (.inr (.inr (.inr (.inl ⟨rfl, g0, g1, g2, h⟩))))⟩
        case measure => simp [intOf]
    · cases h : (n == 16) with
      | true =>
        obtain rfl : n = 16 := by simpa using h
        clear h
        go_wp2
        go_ret
        exact ⟨rfl, rfl⟩
      | false =>
        go_wp2
        go_round
        case rel => exact ⟨32, rfl, .inr (.inr (.inr (.inr (.inr (.inl ⟨rfl, g0, g1, g2, g3, h⟩)))))⟩
        case measure => simp [intOf]
    · cases h : (n == 32) with
      | true =>
        obtain rfl : n = 32 := by simpa using h
        clear h
        go_wp2
        go_ret
        exact ⟨rfl, rfl⟩
      | false =>
        go_wp2
        go_round
        case rel => exact ⟨64, rfl, .inr (.inr (.inr (.inr (.inr (.inr (.inl ⟨rfl, g0, g1, g2, g3, g4, h⟩))))))⟩
        case measure => simp [intOf]
    · cases h : (n == 64) with
      | true =>
        obtain rfl : n = 64 := by simpa using h
        clear h
        go_wp2
        go_ret
        exact ⟨rfl, rfl⟩
      | false =>
        go_wp2
        go_round
        case rel => exact ⟨128, rfl, .inr (.inr (.inr (.inr (.inr (.inr (.inr (⟨rfl, g0, g1, g2, g3, g4, g5, h⟩)))))))⟩
        case measure => simp [intOf]
    · have HN := Lib.hid (show isAlignS n = (n == 0) by unfold isAlignS; rw [g0, g1, g2, g3, g4, g5, g6]; simp)
      clear g0 g1 g2 g3 g4 g5 g6
      go_wp2
      go_ret
      exact ⟨by rw [HN.out]; rfl, rfl⟩
end Go.Proofs.Ytcggghamnmflcaa
namespace Go.Proofs.Ytcggghamnmflcaa
open Go Go.RowKit Go.Shelf
/-- What plain is to answer. -/
def RefC (deep : Int) : Prop := ∀ (d : Nat) (t : Tp d) (v0 v1 v2 v3 v4 v5 v6 : Value) (w : World), TyAt w d t [v0, v1, v2, v3, v4, v5, v6] →
  Calls Try.prog 83 #[.agg #[v0, v1, v2, v3, v4, v5, v6], .int .i64 deep] w fun e w' => e = .returned (.bool (plainS d t deep)) ∧ Below w.heap.size w w'
def fldB (d : Nat) (f : Fld (Tp d)) (deep : Int) : Bool := plainS d f.t deep && isFieldS f.nm (tsh d f.t) (tk d f.t) f.bits
def fieldsS (d : Nat) (l : List (Fld (Tp d))) (deep : Int) : Bool := namedS (l.map Fld.nm) && l.all fun f => fldB d f deep
theorem FdsAt.nm {w : World} {d : Nat} {b o : Nat} {l : List (Fld (Tp d))} (h : FdsAt w d (some ⟨b, o, none⟩) l) {i : Nat} {f : Fld (Tp d)} (hf : l[i]? = some f) : w.cell? ⟨b, o + i * 9, none⟩ = some (.string f.nm) := by
  obtain ⟨b', o', xs, ha, hl, hbt, hn, hr, ht⟩ := h i f hf
  cases ha
  exact hr 0 _ rfl
theorem fields_bad {d : Nat} {l : List (Fld (Tp d))} {deep : Int} {k : Nat} {f : Fld (Tp d)} (hf : l[k]? = some f) (h : fldB d f deep = false) : fieldsS d l deep = false := by
  unfold fieldsS
  have : (l.all fun f => fldB d f deep) = false := by
    rw [List.all_eq_false]
    exact ⟨f, List.mem_of_getElem? hf, by rw [h]; simp⟩
  rw [this, Bool.and_false]
theorem fields_dup {d : Nat} {l : List (Fld (Tp d))} {deep : Int} {k : Nat} {f : Fld (Tp d)} (hf : l[k]? = some f) (h1 : f.nm.toList.isEmpty = false) (h2 : seenS ((l.map Fld.nm).take k) f.nm = true) : fieldsS d l deep = false := by
  unfold fieldsS namedS
  cases ha : apartS (l.map Fld.nm) with
  | false => rfl
  | true =>
    rcases seen_of_apart ha (j := k) (x := f.nm) (by simp [hf]) with h | h
    · rw [h] at h1; cases h1
    · rw [h] at h2; cases h2
theorem seen_snoc {l : List ByteArray} {m : Nat} {y x : ByteArray} (hy : l[m]? = some y) : seenS (l.take (m + 1)) x = (seenS (l.take m) x || (y.data.toList == x.data.toList)) := by
  unfold seenS
  rw [take_snoc_of hy, List.any_append]
  simp
/-- Not met among the first m, or no name. -/
def SeenR (l : List ByteArray) (m : Nat) (x : ByteArray) : Prop := x.toList.isEmpty = true ∨ seenS (l.take m) x = false
def anyN (l : List ByteArray) : Bool := l.any fun x => !x.toList.isEmpty
theorem anyN_snoc {l : List ByteArray} {k : Nat} {x : ByteArray} (hx : l[k]? = some x) : anyN (l.take (k + 1)) = (anyN (l.take k) || !x.toList.isEmpty) := by
  unfold anyN
  rw [take_snoc_of hx, List.any_append]
  simp
set_option maxRecDepth 100000 in
set_option maxHeartbeats 4000000 in
theorem fields_c (deep : Int) (hR : RefC deep) {d : Nat} (A : Option Addr) (c : Nat) (l : List (Fld (Tp d))) (w : World) (hF : FdsAt w d A l) (hc : l.length ≤ c) (hm : c ≤ 9223372036854775807) :
    Calls Try.prog 112 #[.slice A l.length c, .int .i64 deep] w fun e w' => e = .returned (.bool (fieldsS d l deep)) ∧ Below w.heap.size w w' := by
  have hlen : l.length ≤ 9223372036854775807 := by omega
  go_enter Try.func112, Try.ntmps112
  go_wp2
  go_loopw [5, 6] (fun s5 s6 wr => ∃ k : Nat, k ≤ l.length ∧ s6 = .int .i64 k ∧ s5 = .bool (anyN ((l.map Fld.nm).take k)) ∧ ((l.take k).all fun f => fldB d f deep) = true ∧ (∀ j x, j < k → (l.map Fld.nm)[j]? = some x → x.toList.isEmpty = true ∨ seenS ((l.map Fld.nm).take j) x = false) ∧ Below w.heap.size w wr)
    (fun _ i _ => l.length - (intOf i).toNat)
  case atStart => exact ⟨0, Nat.zero_le _, rfl, rfl, rfl, fun j x hj => by omega, Below.refl _ _⟩
  case round =>
    obtain ⟨k, hk, rfl, rfl, hall, hs, hB⟩ := hrel
    have HA := Lib.hid hall
    have HS := Lib.hid hs
    clear hall hs
    by_cases hlt : k < l.length
    · obtain ⟨f, hf⟩ : ∃ f, l[k]? = some f := ⟨_, List.getElem?_eq_getElem hlt⟩
      obtain ⟨b, o, nn, A1, A2, n1, n2, c1, c2, pk, al, hA, hbt, hnm, hty, q0, q1, q2, q3, q4, q5, q6, q7, q8⟩ := (hF.below hB).at_ hf
      subst hA
      have HF := Lib.hid hf
      obtain ⟨nd, hnd⟩ : ∃ x, anyN ((l.map Fld.nm).take k) = x := ⟨_, rfl⟩
      rw [hnd]
      have HND := Lib.hid hnd
      clear hf hnd
      cases hp : plainS d f.t deep with
      | false =>
        have HP := Lib.hid (show fieldsS d l deep = false from fields_bad HF.out (by unfold fldB; rw [hp]; rfl))
        go_wp2_with (go_at_call 83; refine (hR d f.t _ _ _ _ _ _ _ _ hty).mono ?_; rintro e w1 ⟨rfl, hb1⟩; rw [hp]; have HB1 := Lib.hid hb1; clear hb1)
        go_ret
        exact ⟨by rw [HP.out]; rfl, bel_then hB HB1.out⟩
      | true =>
        have HP := Lib.hid hp
        clear hp
        go_upto_region 6 with (go_at_call 83; refine (hR d f.t _ _ _ _ _ _ _ _ hty).mono ?_; rintro e w1 ⟨rfl, hb1⟩; rw [HP.out]; have HB1 := Lib.hid hb1; clear hb1)
        have hB1 := bel_then hB HB1.out
        have hF1 := hF.below hB1
        have p0 := bel_cell HB1.out q0
        have p1 := bel_cell HB1.out q1
        have p2 := bel_cell HB1.out q2
        have p3 := bel_cell HB1.out q3
        have p4 := bel_cell HB1.out q4
        have p5 := bel_cell HB1.out q5
        have p6 := bel_cell HB1.out q6
        have p7 := bel_cell HB1.out q7
        have p8 := bel_cell HB1.out q8
        clear q0 q1 q2 q3 q4 q5 q6 q7 q8 hty
        cases hfd : isFieldS f.nm (tsh d f.t) (tk d f.t) f.bits with
        | false =>
          have HQ := Lib.hid (show fieldsS d l deep = false from fields_bad HF.out (by unfold fldB; rw [hfd, Bool.and_false]))
          go_wp2_with (go_at_call 123; refine (bareField_c _ _ _ _ _ _ _ _ _ _ _ _ _ _).mono ?_; rintro e w2 ⟨rfl, hb2⟩; rw [hfd]; have HB2 := Lib.hid hb2; clear hb2)
          go_ret
          exact ⟨by rw [HQ.out]; rfl, bel_then hB1 HB2.out⟩
        | true =>
          have HFD := Lib.hid hfd
          clear hfd
          go_upto_region 8 with (go_at_call 123; refine (bareField_c _ _ _ _ _ _ _ _ _ _ _ _ _ _).mono ?_; rintro e w2 ⟨rfl, hb2⟩; rw [HFD.out]; have HB2 := Lib.hid hb2; clear hb2)
          have hB2 := bel_then hB1 HB2.out
          have hF2 := hF.below hB2
          have r0 := hF2.nm HF.out
          clear p0 p1 p2 p3 p4 p5 p6 p7 p8 hF1
          go_cut [5] from 9 to 64 (fun s5 wx => s5 = .bool (nd || !f.nm.toList.isEmpty) ∧ wx = w2)
          case first =>
            cases nd with
            | true =>
              go_wp2_with fail
              go_meet
              case rel => exact ⟨rfl, rfl⟩
            | false =>
              cases he : f.nm.toList.isEmpty with
              | true =>
                go_wp2_with fail
                go_meet
                case rel => exact ⟨by rw [he]; rfl, rfl⟩
              | false =>
                go_wp2_with fail
                go_meet
                case rel => exact ⟨by rw [he]; rfl, rfl⟩
          case rest =>
            obtain ⟨rfl, rfl⟩ := hcut
            obtain ⟨n5, hn5⟩ : ∃ x, (nd || !f.nm.toList.isEmpty) = x := ⟨_, rfl⟩
            rw [hn5]
            have H5 := Lib.hid hn5
            clear hn5
            go_wp2_with fail
            go_loopw [8] (fun s8 wx => ∃ m : Nat, m ≤ k ∧ s8 = .int .i64 m ∧ SeenR (l.map Fld.nm) m f.nm ∧ Below wc.heap.size wc wx) (fun i _ => k - (intOf i).toNat)
            case atStart => exact ⟨0, Nat.zero_le _, rfl, .inr rfl, Below.refl _ _⟩
            case round =>
              obtain ⟨m, hmk, rfl, hseen, hBx⟩ := hrel
              have HSE := Lib.hid hseen
              clear hseen
              by_cases hltm : m < k
              · obtain ⟨g, hg⟩ : ∃ g, l[m]? = some g := ⟨_, List.getElem?_eq_getElem (by omega)⟩
                have t0 := bel_cell hBx r0
                have t1 := bel_cell hBx (hF2.nm hg)
                have HG := Lib.hid hg
                clear hg
                cases he : f.nm.toList.isEmpty with
                | true =>
                  have HE := Lib.hid (show SeenR (l.map Fld.nm) (m + 1) f.nm from .inl he)
                  go_wp2_with fail
                  go_quiet (fail)
                  go_wp2_with fail
                  go_roundw
                  case rel => exact ⟨m + 1, by omega, by go_num, HE.out, bel_drewN hBx _⟩
                  case measure => simp [intOf]; omega
                | false =>
                  have hqe : (g.nm.toList == f.nm.toList) = (g.nm.data.toList == f.nm.data.toList) := by rw [Go.ByteArray.toList_eq, Go.ByteArray.toList_eq]
                  have HQE := Lib.hid hqe
                  clear hqe
                  cases hq : (g.nm.toList == f.nm.toList) with
                  | true =>
                    have HD := Lib.hid (show fieldsS d l deep = false from fields_dup HF.out he (by
                      unfold seenS
                      rw [List.any_eq_true]
                      exact ⟨g.nm, List.mem_iff_getElem?.2 ⟨m, by rw [List.getElem?_take, if_pos hltm]; simp [HG.out]⟩, HQE.out.symm.trans hq⟩))
                    go_wp2_with fail
                    go_quiet (fail)
                    go_wp2_with fail
                    go_ret
                    exact ⟨by rw [HD.out]; rfl, bel_then hB2 (bel_drewN hBx _)⟩
                  | false =>
                    have HE := Lib.hid (show SeenR (l.map Fld.nm) (m + 1) f.nm from .inr (by
                      rw [seen_snoc (y := g.nm) (by simp [HG.out]), ← HQE.out, hq, Bool.or_false]
                      rcases HSE.out with h | h
                      · rw [h] at he; cases he
                      · exact h))
                    go_wp2_with fail
                    go_quiet (fail)
                    go_wp2_with fail
                    go_roundw
                    case rel => exact ⟨m + 1, by omega, by go_num, HE.out, bel_drewN hBx _⟩
                    case measure => simp [intOf]; omega
              · have hmk2 : m = k := by omega
                have HM := Lib.hid hmk2
                clear hmk2
                go_wp2_with fail
                go_roundw
                case rel => exact ⟨k + 1, by omega, by go_num, by rw [anyN_snoc (x := f.nm) (by simp [HF.out]), HND.out, H5.out], by rw [take_snoc_of HF.out, List.all_append, HA.out]; simp [fldB, HP.out, HFD.out], fun j x hj hx => by
                  rcases Nat.lt_or_ge j k with h1 | h1
                  · exact HS.out j x h1 hx
                  · obtain rfl : j = k := by omega
                    have : x = f.nm := by simp [HF.out] at hx; exact hx.symm
                    subst this
                    have := HSE.out
                    rwa [HM.out] at this, bel_then hB2 hBx⟩
                case measure => simp [intOf]; omega
    · have hkl : k = l.length := by omega
      have HNA := Lib.hid (show fieldsS d l deep = (anyN ((l.map Fld.nm).take k) && decide (l.length ≤ 40)) by
        have h1 : apartS (l.map Fld.nm) = true := apart_of_seen fun j x hj hx => HS.out j x (by simpa [hkl] using hj) hx
        have h2 : (l.all fun f => fldB d f deep) = true := by have := HA.out; rwa [hkl, List.take_length] at this
        have h3 : (l.map Fld.nm).take k = l.map Fld.nm := by rw [hkl]; exact List.take_of_length_le (by simp)
        unfold fieldsS namedS
        rw [h1, h2, h3, List.length_map, Bool.true_and, Bool.and_true]
        rfl)
      clear hkl
      obtain ⟨nd, hnd⟩ : ∃ x, anyN ((l.map Fld.nm).take k) = x := ⟨_, rfl⟩
      rw [hnd] at HNA ⊢
      clear hnd
      cases nd with
      | false =>
        go_wp2_with fail
        go_ret
        exact ⟨by rw [HNA.out]; rfl, hB⟩
      | true =>
        go_wp2_with fail
        go_ret
        exact ⟨ret_b (by rw [HNA.out]; simp; omega), hB⟩
end Go.Proofs.Ytcggghamnmflcaa
namespace Go.Proofs.Ytcggghamnmflcaa
open Go Go.RowKit Go.Shelf
section
variable {d : Nat} {t : Nd (Tp d)} {deep : Int}
theorem plain_low (h : deep < 1) : plainS (d + 1) t deep = false := by show (if deep < 1 then false else _) = _; rw [if_pos h]
theorem plain_1 (hd : 1 ≤ deep) (h : t.sh = 1) : plainS (d + 1) t deep = (bareS t && (isK t.k && (t.n == 0 && decide (t.of.length = 0)))) := by
  show (if deep < 1 then false else _) = _
  rw [if_neg (by omega), if_pos h, ← empty_len, Bool.and_assoc, Bool.and_assoc]
theorem plain_2 (hd : 1 ≤ deep) (h : t.sh = 2) : plainS (d + 1) t deep = (bareS t && (t.k == 0 && (t.n == 0 && decide (t.of.length = 0)))) := by
  show (if deep < 1 then false else _) = _
  rw [if_neg (by omega), if_neg (by omega), if_pos h, ← empty_len, Bool.and_assoc, Bool.and_assoc]
theorem plain_3no (hd : 1 ≤ deep) (h : t.sh = 3) (hx : (bareS t && (t.k == 0 && (decide (1 ≤ t.n) && decide (t.of.length = 1)))) = false) : plainS (d + 1) t deep = false := by
  show (if deep < 1 then false else _) = _
  rw [if_neg (by omega), if_neg (by omega), if_neg (by omega), if_pos h]
  match hof : t.of with
  | [x] =>
    rw [hof] at hx
    simp only [List.length_cons, List.length_nil, Nat.zero_add, decide_true, Bool.and_true] at hx
    rw [Bool.and_assoc, Bool.and_assoc, ← Bool.and_assoc (t.k == 0), ← Bool.and_assoc (bareS t), hx, Bool.false_and]
  | [] => simp
  | _ :: _ :: _ => simp
theorem plain_3 {x : Tp d} (hd : 1 ≤ deep) (h : t.sh = 3) (hb : bareS t = true) (hk : t.k = 0) (hn : 1 ≤ t.n) (ho : t.of = [x]) : plainS (d + 1) t deep = plainS d x (deep - 1) := by
  show (if deep < 1 then false else _) = _
  rw [if_neg (by omega), if_neg (by omega), if_neg (by omega), if_pos h, hb, hk, ho, decide_eq_true hn]; simp
theorem plain_45 (hd : 1 ≤ deep) (h : t.sh = 4 ∨ t.sh = 5) : plainS (d + 1) t deep = (t.k == 0 && (t.n == 0 && (decide (t.of.length = 0) && (isAlignS t.al && fieldsS d t.fs (deep - 1))))) := by
  rw [plainS_cmp h hd, ← empty_len]
  unfold fieldsS
  simp only [Bool.and_assoc]
  rfl
theorem plain_else (h1 : t.sh ≠ 1) (h2 : t.sh ≠ 2) (h3 : t.sh ≠ 3) (h4 : t.sh ≠ 4) (h5 : t.sh ≠ 5) : plainS (d + 1) t deep = false := by
  show (if deep < 1 then false else _) = _
  by_cases hd : deep < 1
  · rw [if_pos hd]
  · rw [if_neg hd, if_neg h1, if_neg h2, if_neg h3, if_neg (by omega)]
end
set_option maxRecDepth 100000 in
set_option maxHeartbeats 4000000 in
theorem plain_any (deep : Int) (hdq : deep ≤ 100) (hL : 1 ≤ deep → RefC (deep - 1)) : RefC deep := by
  intro d t v0 v1 v2 v3 v4 v5 v6 w ht
  cases d with
  | zero => exact nomatch t
  | succ d =>
    obtain ⟨A1, A2, c1, c2, rfl, rfl, rfl, rfl, rfl, rfl, rfl, b1, b2, b3, b4, l1, l2, m1, m2, h1, h2⟩ := ht.fds
    clear ht
    have HO := Lib.hid h1
    have HF := Lib.hid h2
    clear h1 h2
    obtain ⟨nf, hnf⟩ : ∃ x, (Nd.fs t).length = x := ⟨_, rfl⟩
    obtain ⟨no, hno⟩ : ∃ x, (Nd.of t).length = x := ⟨_, rfl⟩
    obtain ⟨sh, hsh⟩ : ∃ x, Nd.sh t = x := ⟨_, rfl⟩
    obtain ⟨k, hk⟩ : ∃ x, Nd.k t = x := ⟨_, rfl⟩
    obtain ⟨n, hn⟩ : ∃ x, Nd.n t = x := ⟨_, rfl⟩
    obtain ⟨pk, hpk⟩ : ∃ x, Nd.pk t = x := ⟨_, rfl⟩
    obtain ⟨al, hal⟩ : ∃ x, Nd.al t = x := ⟨_, rfl⟩
    have HFS := Lib.hid (fun (hd : 1 ≤ deep) (w' : World) (hb : Below w.heap.size w w') => fields_c (deep - 1) (hL hd) A2 c2 (Nd.fs t) w' (HF.out.below hb) l2 m2)
    rw [hnf] at l2 HFS
    rw [hno] at l1
    rw [hsh] at b1; rw [hk] at b2; rw [hn] at b3; rw [hal] at b4
    rw [hnf, hno, hsh, hk, hn, hpk, hal]
    have HNO := Lib.hid hno
    have HSH := Lib.hid hsh
    have HK := Lib.hid hk
    have HN := Lib.hid hn
    have HAL := Lib.hid hal
    have HBR := Lib.hid (show bareS t = (decide (nf = 0) && (!pk && al == 0)) by
      unfold bareS
      rw [hpk, hal, ← hnf, Bool.and_assoc]
      cases Nd.fs t <;> simp)
    clear hnf hno hsh hk hn hpk hal
    by_cases hd : deep < 1
    · have HP := Lib.hid (plain_low (t := t) hd)
      go_enter Try.func83, Try.ntmps83
      go_wp2_with fail
      go_ret
      exact ⟨by rw [HP.out]; rfl, bel_alloc (Below.refl _ _) _⟩
    have hd1 : 1 ≤ deep := by omega
    go_enter Try.func83, Try.ntmps83
    go_upto_region 3 with (fail)
    have hT : Bk (w.alloc (.cells #[.int .i64 sh, .int .i64 k, .int .i64 n, .slice A1 no c1, .slice A2 nf c2, .bool pk, .int .i64 al] 38)) w.heap.size 38 #[.int .i64 sh, .int .i64 k, .int .i64 n, .slice A1 no c1, .slice A2 nf c2, .bool pk, .int .i64 al] := Bk.new w _ _
    have hB : Below w.heap.size w (w.alloc (.cells #[.int .i64 sh, .int .i64 k, .int .i64 n, .slice A1 no c1, .slice A2 nf c2, .bool pk, .int .i64 al] 38)) := bel_alloc (Below.refl _ _) _
    generalize World.alloc _ _ = W at hT hB ⊢
    have q0 := hT.at_ (i := 0) rfl
    have q1 := hT.at_ (i := 1) rfl
    have q2 := hT.at_ (i := 2) rfl
    have q3 := hT.at_ (i := 3) rfl
    have q4 := hT.at_ (i := 4) rfl
    have q5 := hT.at_ (i := 5) rfl
    have q6 := hT.at_ (i := 6) rfl
    have s1 := hT.lt
    go_cut [5] from 6 (fun s5 wx => s5 = .bool (decide (nf = 0) && (!pk && al == 0)) ∧ wx = W)
    case first =>
      cases nf with
      | succ nf =>
        go_wp2_with fail
        go_meet
        case rel => exact ⟨by simp, rfl⟩
      | zero =>
        cases pk with
        | true =>
          go_wp2_with fail
          go_meet
          case rel => exact ⟨rfl, rfl⟩
        | false =>
          go_wp2_with fail
          go_meet
          case rel => exact ⟨rfl, rfl⟩
    case rest =>
      obtain ⟨rfl, rfl⟩ := hcut
      obtain ⟨bare, hbare⟩ : ∃ x, (decide (nf = 0) && (!pk && al == 0)) = x := ⟨_, rfl⟩
      rw [hbare]
      have HB := Lib.hid (HBR.out.trans hbare)
      clear hbare
      by_cases h1 : sh = 1
      · subst h1
        cases bare with
        | false =>
          have HP := Lib.hid (show plainS (d + 1) t deep = false by rw [plain_1 hd1 HSH.out, HB.out]; rfl)
          go_wp2_with fail
          go_ret
          exact ⟨ret_b HP.out.symm, hB⟩
        | true =>
          cases e1 : isK k with
          | false =>
            have HIS := Lib.hid e1
            have HP := Lib.hid (show plainS (d + 1) t deep = false by rw [plain_1 hd1 HSH.out, HB.out, HK.out, HN.out, HNO.out, e1]; rfl)
            go_wp2_with (go_at_call 105; (with_reducible refine (ris_c _ _).mono ?_); rintro e w' ⟨rfl, rfl⟩; rw [HIS.out])
            go_ret
            exact ⟨ret_b HP.out.symm, hB⟩
          | true =>
            have HIS := Lib.hid e1
            cases e2 : (n == 0) with
            | false =>
              have HP := Lib.hid (show plainS (d + 1) t deep = false by rw [plain_1 hd1 HSH.out, HB.out, HK.out, HN.out, HNO.out, e1, e2]; rfl)
              go_wp2_with (go_at_call 105; (with_reducible refine (ris_c _ _).mono ?_); rintro e w' ⟨rfl, rfl⟩; rw [HIS.out])
              go_ret
              exact ⟨ret_b HP.out.symm, hB⟩
            | true =>
              by_cases e3 : no = 0
              · subst e3
                have HP := Lib.hid (show plainS (d + 1) t deep = true by rw [plain_1 hd1 HSH.out, HB.out, HK.out, HN.out, HNO.out, e1, e2]; rfl)
                go_wp2_with (go_at_call 105; (with_reducible refine (ris_c _ _).mono ?_); rintro e w' ⟨rfl, rfl⟩; rw [HIS.out])
                go_ret
                exact ⟨ret_b HP.out.symm, hB⟩
              · have e3' : ((no : Int) == 0) = false := by simp; omega
                have HP := Lib.hid (show plainS (d + 1) t deep = false by rw [plain_1 hd1 HSH.out, HB.out, HK.out, HN.out, HNO.out, e1, e2, decide_eq_false e3]; rfl)
                go_wp2_with (go_at_call 105; (with_reducible refine (ris_c _ _).mono ?_); rintro e w' ⟨rfl, rfl⟩; rw [HIS.out])
                go_ret
                exact ⟨ret_b HP.out.symm, hB⟩
      by_cases h2 : sh = 2
      · subst h2
        clear h1
        cases bare with
        | false =>
          have HP := Lib.hid (show plainS (d + 1) t deep = false by rw [plain_2 hd1 HSH.out, HB.out]; rfl)
          go_wp2_with fail
          go_ret
          exact ⟨ret_b HP.out.symm, hB⟩
        | true =>
          cases e1 : (k == 0) with
          | false =>
            have HP := Lib.hid (show plainS (d + 1) t deep = false by rw [plain_2 hd1 HSH.out, HB.out, HK.out, HN.out, HNO.out, e1]; rfl)
            go_wp2_with (fail)
            go_ret
            exact ⟨ret_b HP.out.symm, hB⟩
          | true =>
            cases e2 : (n == 0) with
            | false =>
              have HP := Lib.hid (show plainS (d + 1) t deep = false by rw [plain_2 hd1 HSH.out, HB.out, HK.out, HN.out, HNO.out, e1, e2]; rfl)
              go_wp2_with (fail)
              go_ret
              exact ⟨ret_b HP.out.symm, hB⟩
            | true =>
              by_cases e3 : no = 0
              · subst e3
                have HP := Lib.hid (show plainS (d + 1) t deep = true by rw [plain_2 hd1 HSH.out, HB.out, HK.out, HN.out, HNO.out, e1, e2]; rfl)
                go_wp2_with (fail)
                go_ret
                exact ⟨ret_b HP.out.symm, hB⟩
              · have e3' : ((no : Int) == 0) = false := by simp; omega
                have HP := Lib.hid (show plainS (d + 1) t deep = false by rw [plain_2 hd1 HSH.out, HB.out, HK.out, HN.out, HNO.out, e1, e2, decide_eq_false e3]; rfl)
                go_wp2_with (fail)
                go_ret
                exact ⟨ret_b HP.out.symm, hB⟩
      by_cases h3 : sh = 3
      · subst h3
        clear h1 h2
        cases bare with
        | false =>
          have HP := Lib.hid (plain_3no (t := t) hd1 HSH.out (by rw [HB.out]; rfl))
          go_wp2_with fail
          go_ret
          exact ⟨ret_b HP.out.symm, hB⟩
        | true =>
          cases e1 : (k == 0) with
          | false =>
            have e1' : (k != 0) = true := by rw [bne, e1]; rfl
            have HP := Lib.hid (plain_3no (t := t) hd1 HSH.out (by rw [HK.out, e1]; simp))
            go_wp2_with fail
            go_ret
            exact ⟨ret_b HP.out.symm, hB⟩
          | true =>
            obtain rfl : k = 0 := by simpa using e1
            clear e1
            by_cases e2 : n < 1
            · have HP := Lib.hid (plain_3no (t := t) hd1 HSH.out (by rw [HN.out, decide_eq_false (show ¬ 1 ≤ n by omega)]; simp))
              go_wp2_with fail
              go_ret
              exact ⟨ret_b HP.out.symm, hB⟩
            · by_cases e3 : no = 1
              · subst e3
                obtain ⟨x, hof⟩ : ∃ x, Nd.of t = [x] := List.length_eq_one_iff.1 HNO.out
                obtain ⟨b, o, xs, rfl, hxl, hrow, hxt⟩ := HO.out 0 x (by rw [hof]; rfl)
                have HP := Lib.hid (plain_3 (t := t) hd1 HSH.out HB.out HK.out (by rw [HN.out]; omega) hof)
                clear hof
                match xs, hxl with
                | [y0, y1, y2, y3, y4, y5, y6], _ =>
                  have hrow' := hrow.below hB
                  have HXT := Lib.hid (hxt.below hB)
                  clear hxt hrow
                  have r0 := hrow' 0 _ rfl
                  have r1 := hrow' 1 _ rfl
                  have r2 := hrow' 2 _ rfl
                  have r3 := hrow' 3 _ rfl
                  have r4 := hrow' 4 _ rfl
                  have r5 := hrow' 5 _ rfl
                  have r6 := hrow' 6 _ rfl
                  simp only [Nat.zero_mul, Nat.add_zero] at r0 r1 r2 r3 r4 r5 r6
                  have HL := Lib.hid (hL hd1)
                  clear hL hrow'
                  go_wp2_with (go_at_call 83; refine (HL.out d x _ _ _ _ _ _ _ _ HXT.out).mono ?_; rintro e w1 ⟨rfl, hb1⟩; have HB1 := Lib.hid hb1; clear hb1)
                  go_ret
                  exact ⟨ret_b HP.out.symm, bel_then hB HB1.out⟩
              · have e3' : ((no : Int) == 1) = false := by simp; omega
                have e3'' : ((no : Int) != 1) = true := by rw [bne, e3']; rfl
                have HP := Lib.hid (plain_3no (t := t) hd1 HSH.out (by rw [HNO.out, decide_eq_false e3]; simp))
                go_wp2_with fail
                go_ret
                exact ⟨ret_b HP.out.symm, hB⟩
      by_cases h45 : sh = 4 ∨ sh = 5
      · have HSS := Lib.hid (show Nd.sh t = 4 ∨ Nd.sh t = 5 by rw [HSH.out]; exact h45)
        clear h1 h2 h3
        rcases h45 with rfl | rfl
        all_goals
          cases e1 : (k == 0) with
          | false =>
            have e1' : (k != 0) = true := by rw [bne, e1]; rfl
            have HP := Lib.hid (show plainS (d + 1) t deep = false by rw [plain_45 hd1 HSS.out, HK.out, e1]; rfl)
            go_wp2_with fail
            go_ret
            exact ⟨ret_b HP.out.symm, hB⟩
          | true =>
            have e1' : (k != 0) = false := by rw [bne, e1]; rfl
            cases e2 : (n == 0) with
            | false =>
              have e2' : (n != 0) = true := by rw [bne, e2]; rfl
              have HP := Lib.hid (show plainS (d + 1) t deep = false by rw [plain_45 hd1 HSS.out, HK.out, HN.out, e1, e2]; rfl)
              go_wp2_with fail
              go_ret
              exact ⟨ret_b HP.out.symm, hB⟩
            | true =>
              have e2' : (n != 0) = false := by rw [bne, e2]; rfl
              by_cases e3 : no = 0
              · have HP3 := Lib.hid (show plainS (d + 1) t deep = (isAlignS al && fieldsS d (Nd.fs t) (deep - 1)) by rw [plain_45 hd1 HSS.out, HK.out, HN.out, HNO.out, HAL.out, e1, e2, decide_eq_true e3]; rfl)
                subst e3
                cases e4 : isAlignS al with
                | false =>
                  have HA4 := Lib.hid e4
                  have HP := Lib.hid (show plainS (d + 1) t deep = false by rw [HP3.out, e4]; rfl)
                  clear e4
                  go_wp2_with (go_at_call 111; (with_reducible refine (risAlign_c _ _).mono ?_); rintro e w' ⟨rfl, rfl⟩; rw [HA4.out])
                  go_ret
                  exact ⟨ret_b HP.out.symm, hB⟩
                | true =>
                  have HA4 := Lib.hid e4
                  have HP := Lib.hid (show plainS (d + 1) t deep = fieldsS d (Nd.fs t) (deep - 1) by rw [HP3.out, e4]; rfl)
                  clear e4
                  go_wp2_with (first | (go_at_call 111; (with_reducible refine (risAlign_c _ _).mono ?_); rintro e w' ⟨rfl, rfl⟩; rw [HA4.out]) | (go_at_call 112; refine (HFS.out hd1 _ hB).mono ?_; rintro e w1 ⟨rfl, hb1⟩; have HB1 := Lib.hid hb1; clear hb1))
                  go_ret
                  exact ⟨ret_b HP.out.symm, bel_then hB HB1.out⟩
              · have hpos : 0 < no := by omega
                have HP := Lib.hid (show plainS (d + 1) t deep = false by rw [plain_45 hd1 HSS.out, HK.out, HN.out, HNO.out, e1, e2, decide_eq_false e3]; rfl)
                go_wp2_with fail
                go_ret
                exact ⟨ret_b HP.out.symm, hB⟩
      · have HP := Lib.hid (plain_else (t := t) (deep := deep) (by rw [HSH.out]; exact h1) (by rw [HSH.out]; exact h2) (by rw [HSH.out]; exact h3) (by rw [HSH.out]; omega) (by rw [HSH.out]; omega))
        have n1 : (sh == 1) = false := by simpa using h1
        have n2 : (sh == 2) = false := by simpa using h2
        have n3 : (sh == 3) = false := by simpa using h3
        have n4 : (sh == 4) = false := by simp; omega
        have n5 : (sh == 5) = false := by simp; omega
        clear h1 h2 h3 h45
        go_wp2_with fail
        go_ret
        exact ⟨ret_b HP.out.symm, hB⟩
theorem plain_c (deep : Nat) (h : deep ≤ 100) : RefC deep := by
  induction deep with
  | zero => exact plain_any 0 (by omega) (fun h => by omega)
  | succ m ih => exact plain_any _ (by omega) (fun _ => by rw [show ((m + 1 : Nat) : Int) - 1 = (m : Int) by omega]; exact ih (by omega))
end Go.Proofs.Ytcggghamnmflcaa
namespace Go.Proofs.Ytcggghamnmflcaa
open Go Go.RowKit
def BxOk (b : Bx) : Prop := 1 ≤ b.size ∧ b.size ≤ 65536 ∧ 1 ≤ b.align ∧ b.align ≤ 64
/-- One member laid, by its box. -/
def layF (d : Nat) (un pk : Bool) (s : Lay) (f : Fld (Tp d)) : Option Lay := (boxS d f.t).map fun b => layS un pk f.nm (tk d f.t) f.bits b s
theorem bits_ok {d : Nat} {f : Fld (Tp d)} {deep : Int} {b : Bx} (h : fldB d f deep = true) (hb : boxS d f.t = some b) (hk : BxOk b) : f.bits ≤ 8 * b.size := by
  unfold fldB at h
  simp only [Bool.and_eq_true] at h
  obtain ⟨_, hf⟩ := h
  unfold isFieldS at hf
  split at hf
  · have := hk.1; omega
  · simp only [Bool.and_eq_true, beq_iff_eq, decide_eq_true_eq] at hf
    rw [boxS_int hf.1.1] at hb
    cases hb
    exact hf.1.2
theorem bits_ne {d : Nat} {f : Fld (Tp d)} {deep : Int} (h : fldB d f deep = true) (hn : f.nm.toList.isEmpty = false) : f.bits ≠ 0 := by
  intro hb
  unfold fldB at h
  simp only [Bool.and_eq_true] at h
  have := h.2
  unfold isFieldS at this
  rw [if_neg (by omega), hb] at this
  simp at this
  simp [this] at hn
theorem foldF_rng {d : Nat} {un pk : Bool} {deep : Int} (ih : ∀ (t : Tp d) (deep : Int) (b : Bx), plainS d t deep = true → boxS d t = some b → BxOk b) : ∀ (l : List (Fld (Tp d))) (s s' : Lay) (m : Nat), LayR m s → (l.all fun f => fldB d f deep) = true → l.foldlM (layF d un pk) s = some s' → LayR (m + l.length) s' ∧ s.end_ ≤ s'.end_ ∧ ((∃ f ∈ l, f.bits ≠ 0) → 1 ≤ s'.end_)
  | [], s, s', m, h, _, hs => by
    cases hs
    exact ⟨h, Int.le_refl _, fun ⟨f, hf, _⟩ => by simp at hf⟩
  | f :: l, s, s', m, h, hall, hs => by
    rw [List.all_cons, Bool.and_eq_true] at hall
    rw [List.foldlM_cons] at hs
    cases hb : boxS d f.t with
    | none => unfold layF at hs; rw [hb] at hs; cases hs
    | some b =>
      have hk := ih f.t deep b (by have := hall.1; unfold fldB at this; simp only [Bool.and_eq_true] at this; exact this.1) hb
      obtain ⟨q1, q2, q3, q4⟩ := hk
      have q5 := bits_ok hall.1 hb ⟨q1, q2, q3, q4⟩
      have hs' : l.foldlM (layF d un pk) (layS un pk f.nm (tk d f.t) f.bits b s) = some s' := by
        have : layF d un pk s f = some (layS un pk f.nm (tk d f.t) f.bits b s) := by unfold layF; rw [hb]; rfl
        rw [this] at hs
        exact hs
      obtain ⟨r1, r2, r3⟩ := foldF_rng ih l _ s' (m + 1) (layS_rng h q1 q2 q3 q4 q5) hall.2 hs'
      have hr := nextS_rng pk f.bits b.size b.align (if un then 0 else s.at_) q1 q3 q4
      have hat : (0 : Int) ≤ (if un then 0 else s.at_) := by have := h.1; split <;> omega
      have he : s.end_ ≤ (layS un pk f.nm (tk d f.t) f.bits b s).end_ ∧ (f.bits ≠ 0 → 1 ≤ (layS un pk f.nm (tk d f.t) f.bits b s).end_) := by
        unfold layS
        simp only
        generalize (if un then 0 else s.at_) = at0 at *
        refine ⟨by omega, fun hne => ?_⟩
        split <;> omega
      refine ⟨by rw [List.length_cons, show m + (l.length + 1) = m + 1 + l.length by omega]; exact r1, Int.le_trans he.1 r2, ?_⟩
      rintro ⟨g, hg, hne⟩
      rcases List.mem_cons.1 hg with rfl | hg
      · exact Int.le_trans (he.2 hne) r2
      · exact r3 ⟨g, hg, hne⟩
theorem named_bits {d : Nat} {l : List (Fld (Tp d))} {deep : Int} (h : fieldsS d l deep = true) : ∃ f ∈ l, f.bits ≠ 0 := by
  unfold fieldsS namedS at h
  simp only [Bool.and_eq_true, List.any_eq_true, List.mem_map] at h
  obtain ⟨⟨⟨_, nm, ⟨f, hf, rfl⟩, hne⟩, _⟩, hall⟩ := h
  exact ⟨f, hf, bits_ne (List.all_eq_true.1 hall f hf) (by simpa using hne)⟩
/-- A struct's box, by its members. -/
theorem boxS_mem {d : Nat} {t : Nd (Tp d)} (hs : t.sh = 4 ∨ t.sh = 5) :
    boxS (d + 1) t = (match t.fs.foldlM (layF d (t.sh == 5) t.pk) (lay0 t.al) with
      | none => none
      | some s => if 65536 < closeS s then none else some { size := closeS s, align := s.align, l := s.l }) := by
  have h0 : ({ at_ := 0, end_ := 0, align := max 1 t.al, l := [] } : Lay) = lay0 t.al := by unfold lay0; rw [mx_eq]
  rw [boxS_cmp hs, h0]
  rfl
theorem boxS_ok : ∀ (d : Nat) (t : Tp d) (deep : Int) (b : Bx), plainS d t deep = true → boxS d t = some b → BxOk b
  | 0, t, _, _, _, _ => nomatch t
  | d + 1, t, deep, b, hp, hb => by
    have ih := boxS_ok d
    have hd : 1 ≤ deep := by
      rcases Int.lt_or_le deep 1 with h | h
      · rw [show plainS (d + 1) t deep = _ from plain_low h] at hp; cases hp
      · exact h
    by_cases h1 : Nd.sh t = 1
    · rw [show plainS (d + 1) t deep = _ from plain_1 hd h1] at hp
      simp only [Bool.and_eq_true] at hp
      have := ksize_pos hp.2.1
      have e : boxS (d + 1) t = some { size := ksize (Nd.k t), align := ksize (Nd.k t), l := [] } := boxS_int h1
      rw [e] at hb
      cases hb
      unfold BxOk
      simp only
      omega
    · by_cases h2 : Nd.sh t = 2
      · have e : boxS (d + 1) t = some { size := 8, align := 8, l := [] } := by
          show (if Nd.sh t = 1 then _ else _) = _
          rw [if_neg h1, if_pos h2]
        rw [e] at hb
        cases hb
        unfold BxOk
        simp
      · by_cases h3 : Nd.sh t = 3
        · cases hx : (bareS t && (Nd.k t == 0 && (decide (1 ≤ Nd.n t) && decide ((Nd.of t).length = 1)))) with
          | false => rw [show plainS (d + 1) t deep = _ from plain_3no hd h3 hx] at hp; cases hp
          | true =>
            simp only [Bool.and_eq_true, beq_iff_eq, decide_eq_true_eq] at hx
            obtain ⟨q1, q2, q3, q4⟩ := hx
            obtain ⟨x, hof⟩ := List.length_eq_one_iff.1 q4
            rw [show plainS (d + 1) t deep = _ from plain_3 hd h3 q1 q2 q3 hof] at hp
            have e : boxS (d + 1) t = (match boxS d x with | none => none | some b => if 65536 < Nd.n t ∨ 65536 < b.size * Nd.n t then none else some { size := b.size * Nd.n t, align := b.align, l := [] }) := by
              show (if Nd.sh t = 1 then _ else _) = _
              rw [if_neg h1, if_neg h2, if_pos h3, hof]
              rfl
            rw [e] at hb
            cases hbx : boxS d x with
            | none => rw [hbx] at hb; cases hb
            | some b' =>
              rw [hbx] at hb
              simp only at hb
              split at hb
              · cases hb
              · cases hb
                obtain ⟨k1, k2, k3, k4⟩ := ih x (deep - 1) b' hp hbx
                have : 1 ≤ b'.size * Nd.n t := Int.mul_pos (by omega) (by omega)
                unfold BxOk
                simp only
                omega
        · by_cases h45 : Nd.sh t = 4 ∨ Nd.sh t = 5
          · rw [show plainS (d + 1) t deep = _ from plain_45 hd h45] at hp
            simp only [Bool.and_eq_true] at hp
            obtain ⟨_, _, _, ha, hf⟩ := hp
            rw [show boxS (d + 1) t = _ from boxS_mem h45] at hb
            cases hfold : (Nd.fs t).foldlM (layF d (Nd.sh t == 5) (Nd.pk t)) (lay0 (Nd.al t)) with
            | none => rw [hfold] at hb; cases hb
            | some s =>
              rw [hfold] at hb
              simp only at hb
              split at hb
              · cases hb
              · cases hb
                have hall : ((Nd.fs t).all fun f => fldB d f (deep - 1)) = true := by unfold fieldsS at hf; simp only [Bool.and_eq_true] at hf; exact hf.2
                obtain ⟨r1, _, r3⟩ := foldF_rng ih (Nd.fs t) (lay0 (Nd.al t)) s 0 (lay0_rng ha) hall hfold
                have := closeS_pos r1 (r3 (named_bits hf))
                unfold BxOk
                simp only
                exact ⟨this, by omega, r1.2.2.2.2.1, r1.2.2.2.2.2⟩
          · rw [show plainS (d + 1) t deep = _ from plain_else h1 h2 h3 (fun h => h45 (.inl h)) (fun h => h45 (.inr h))] at hp
            cases hp
end Go.Proofs.Ytcggghamnmflcaa
namespace Go.Proofs.Ytcggghamnmflcaa
open Go Go.RowKit Go.Shelf
theorem next_c (tsh ttk tn tal : Int) (T1 T2 : Option Addr) (tn1 tc1 tn2 tc2 : Nat) (pk : Bool) (nm : ByteArray) (sh k n al bits : Int) (A1 A2 : Option Addr) (n1 n2 c1 c2 : Nat) (fpk : Bool) (sz ag : Int) (big : Bool) (S : Option Addr) (sn sc : Nat) (at_ : Int) (w : World) (h0 : 0 ≤ at_) (h1 : at_ ≤ 1000000000) (h2 : 1 ≤ sz) (h3 : sz ≤ 65536) (h4 : 1 ≤ ag) (h5 : ag ≤ 64) (h6 : bits ≤ 8 * sz) :
    Calls Try.prog 124 #[.agg #[.int .i64 tsh, .int .i64 ttk, .int .i64 tn, .slice T1 tn1 tc1, .slice T2 tn2 tc2, .bool pk, .int .i64 tal], .agg #[.string nm, .int .i64 sh, .int .i64 k, .int .i64 n, .slice A1 n1 c1, .slice A2 n2 c2, .bool fpk, .int .i64 al, .int .i64 bits], .agg #[.int .i64 sz, .int .i64 ag, .bool big, .slice S sn sc], .int .i64 at_] w fun e w' => e = .returned (.int .i64 (nextS pk bits sz ag at_)) ∧ Below w.heap.size w w' := by
  by_cases hb : bits < 0
  · cases pk with
    | true =>
      have H := Lib.hid (show nextS true bits sz ag at_ = upS at_ 8 by unfold nextS; rw [if_pos hb]; rfl)
      go_enter Try.func124, Try.ntmps124
      go_wp2_with (go_at_call 125; refine (rup_c _ _ _ (by omega) (by omega) (by omega) (by omega)).mono ?_; rintro e w' ⟨rfl, rfl⟩)
      go_ret
      exact ⟨by rw [H.out]; rfl, by (repeat (first | exact Below.refl _ _ | apply bel_drewN | apply bel_alloc))⟩
    | false =>
      have H := Lib.hid (show nextS false bits sz ag at_ = upS at_ (8 * ag) by unfold nextS; rw [if_pos hb]; rfl)
      go_enter Try.func124, Try.ntmps124
      go_wp2_with (go_at_call 125; refine (rup_c _ _ _ (by omega) (by omega) (by omega) (by omega)).mono ?_; rintro e w' ⟨rfl, rfl⟩)
      go_ret
      exact ⟨by rw [H.out]; rfl, by (repeat (first | exact Below.refl _ _ | apply bel_drewN | apply bel_alloc))⟩
  · by_cases hz : bits = 0
    · subst hz
      have H := Lib.hid (show nextS pk 0 sz ag at_ = upS at_ (8 * sz) by unfold nextS; rfl)
      go_enter Try.func124, Try.ntmps124
      go_wp2_with (go_at_call 125; refine (rup_c _ _ _ (by omega) (by omega) (by omega) (by omega)).mono ?_; rintro e w' ⟨rfl, rfl⟩)
      go_quiet (fail)
      go_wp2_with (go_at_call 125; refine (rup_c _ _ _ (by omega) (by omega) (by omega) (by omega)).mono ?_; rintro e w' ⟨rfl, rfl⟩)
      go_ret
      exact ⟨by rw [H.out]; rfl, by (repeat (first | exact Below.refl _ _ | apply bel_drewN | apply bel_alloc))⟩
    · have gz : (bits == 0) = false := by simpa using hz
      have q1 : 0 ≤ at_ / (8 * sz) := Int.ediv_nonneg (by omega) (by omega)
      have q2 : at_ / (8 * sz) ≤ at_ := Int.ediv_le_self _ (by omega)
      have q3 : 0 ≤ (at_ + bits - 1) / (8 * sz) := Int.ediv_nonneg (by omega) (by omega)
      have q4 : (at_ + bits - 1) / (8 * sz) ≤ at_ + bits - 1 := Int.ediv_le_self _ (by omega)
      cases pk with
      | true =>
        have H := Lib.hid (show nextS true bits sz ag at_ = at_ by unfold nextS; rw [if_neg hb, if_neg hz, if_neg (by simp)])
        clear hz
        go_enter Try.func124, Try.ntmps124
        go_wp2_with (go_at_call 125; refine (rup_c _ _ _ (by omega) (by omega) (by omega) (by omega)).mono ?_; rintro e w' ⟨rfl, rfl⟩)
        go_quiet (fail)
        go_wp2_with (go_at_call 125; refine (rup_c _ _ _ (by omega) (by omega) (by omega) (by omega)).mono ?_; rintro e w' ⟨rfl, rfl⟩)
        go_ret
        exact ⟨by rw [H.out]; rfl, by (repeat (first | exact Below.refl _ _ | apply bel_drewN | apply bel_alloc))⟩
      | false =>
        cases hc : (at_ / (8 * sz) == (at_ + bits - 1) / (8 * sz)) with
        | false =>
          have hc' : (at_ / (8 * sz) != (at_ + bits - 1) / (8 * sz)) = true := by rw [bne, hc]; rfl
          have H := Lib.hid (show nextS false bits sz ag at_ = upS at_ (8 * sz) by unfold nextS; rw [if_neg hb, if_neg hz, if_pos ⟨rfl, by simpa using hc⟩])
          clear hz
          go_enter Try.func124, Try.ntmps124
          go_wp2_with (go_at_call 125; refine (rup_c _ _ _ (by omega) (by omega) (by omega) (by omega)).mono ?_; rintro e w' ⟨rfl, rfl⟩)
          go_quiet (fail)
          go_wp2_with (go_at_call 125; refine (rup_c _ _ _ (by omega) (by omega) (by omega) (by omega)).mono ?_; rintro e w' ⟨rfl, rfl⟩)
          go_ret
          exact ⟨by rw [H.out]; rfl, by (repeat (first | exact Below.refl _ _ | apply bel_drewN | apply bel_alloc))⟩
        | true =>
          have hc' : (at_ / (8 * sz) != (at_ + bits - 1) / (8 * sz)) = false := by rw [bne, hc]; rfl
          have H := Lib.hid (show nextS false bits sz ag at_ = at_ by unfold nextS; rw [if_neg hb, if_neg hz, if_neg (fun h => h.2 (by simpa using hc))])
          clear hz
          go_enter Try.func124, Try.ntmps124
          go_wp2_with (go_at_call 125; refine (rup_c _ _ _ (by omega) (by omega) (by omega) (by omega)).mono ?_; rintro e w' ⟨rfl, rfl⟩)
          go_quiet (fail)
          go_wp2_with (go_at_call 125; refine (rup_c _ _ _ (by omega) (by omega) (by omega) (by omega)).mono ?_; rintro e w' ⟨rfl, rfl⟩)
          go_ret
          exact ⟨by rw [H.out]; rfl, by (repeat (first | exact Below.refl _ _ | apply bel_drewN | apply bel_alloc))⟩
end Go.Proofs.Ytcggghamnmflcaa

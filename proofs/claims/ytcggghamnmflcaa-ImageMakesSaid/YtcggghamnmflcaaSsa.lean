/- Which types are alike: the plain answer, and the contracts of slices.EqualFunc at types and at members. -/
import Derived.Test.YtcggghamnmflcaaSrj
namespace Go.Proofs.Ytcggghamnmflcaa
open Go Go.RowKit Go.Shelf
def all2 {α β : Type} (p : α → β → Bool) (l : List α) (k : List β) : Bool := decide (l.length = k.length) && (l.zip k).all fun q => p q.1 q.2
/-- Are two types alike? -/
def sameS : (d e : Nat) → Tp d → Tp e → Bool
  | 0, _, a, _ => nomatch a
  | _ + 1, 0, _, b => nomatch b
  | d + 1, e + 1, a, b =>
    let a : Nd (Tp d) := a
    let b : Nd (Tp e) := b
    a.sh == b.sh && (a.k == b.k && (a.n == b.n && (a.pk == b.pk && (a.al == b.al && (all2 (sameS d e) a.of b.of && all2 (fun x y => x.nm.toList == y.nm.toList && (x.bits == y.bits && sameS d e x.t y.t)) a.fs b.fs)))))
/-- Are two members alike? -/
def sameF (d e : Nat) (x : Fld (Tp d)) (y : Fld (Tp e)) : Bool := x.nm.toList == y.nm.toList && (x.bits == y.bits && sameS d e x.t y.t)
section
variable {α β : Type} {p : α → β → Bool} {l : List α} {k : List β}
theorem all2_len (h : l.length ≠ k.length) : all2 p l k = false := by unfold all2; rw [decide_eq_false h]; rfl
theorem zip_at {j : Nat} {x : α} {y : β} (hx : l[j]? = some x) (hy : k[j]? = some y) : (l.zip k)[j]? = some (x, y) := List.getElem?_zip_eq_some.2 ⟨hx, hy⟩
theorem all2_bad {j : Nat} {x : α} {y : β} (hx : l[j]? = some x) (hy : k[j]? = some y) (h : p x y = false) : all2 p l k = false := by
  unfold all2
  rw [Bool.and_eq_false_iff]
  refine .inr ?_
  rw [List.all_eq_false]
  exact ⟨(x, y), List.mem_of_getElem? (zip_at hx hy), by simp [h]⟩
theorem all2_snoc {j : Nat} {x : α} {y : β} (hx : l[j]? = some x) (hy : k[j]? = some y) (h : p x y = true) (ht : (((l.zip k).take j).all fun q => p q.1 q.2) = true) : (((l.zip k).take (j + 1)).all fun q => p q.1 q.2) = true := by
  rw [List.take_add_one, zip_at hx hy]
  simp only [List.all_append, ht, Option.toList, List.all_cons, List.all_nil, h, Bool.and_true]
theorem all2_done {j : Nat} (hl : l.length = k.length) (hj : k.length ≤ j) (ht : (((l.zip k).take j).all fun q => p q.1 q.2) = true) : all2 p l k = true := by
  rw [List.take_of_length_le (by simp; omega)] at ht
  unfold all2
  rw [ht, decide_eq_true hl]
  rfl
end
/-- A slice of types: its address, what lies there. -/
def TysAt (w : World) (d : Nat) (A : Option Addr) (l : List (Tp d)) : Prop :=
  ∀ i x, l[i]? = some x → ∃ b o xs, A = some ⟨b, o, none⟩ ∧ xs.length = 7 ∧ Row w b (o + i * 7) xs ∧ TyAt w d x xs
theorem TysAt.below {w w1 : World} {d : Nat} {A : Option Addr} {l : List (Tp d)} (h : TysAt w d A l) (hb : Below w.heap.size w w1) : TysAt w1 d A l := fun i f hf => by
  obtain ⟨b, o, xs, ha, hl, hr, ht⟩ := h i f hf
  exact ⟨b, o, xs, ha, hl, hr.below hb, ht.below hb⟩
theorem TysAt.at_ {w : World} {d : Nat} {A : Option Addr} {l : List (Tp d)} (h : TysAt w d A l) {i : Nat} {x : Tp d} (hf : l[i]? = some x) :
    ∃ (b o : Nat) (v0 v1 v2 v3 v4 v5 v6 : Value), A = some ⟨b, o, none⟩ ∧ TyAt w d x [v0, v1, v2, v3, v4, v5, v6] ∧
      w.cell? ⟨b, o + i * 7, none⟩ = some v0 ∧ w.cell? ⟨b, o + i * 7 + 1, none⟩ = some v1 ∧ w.cell? ⟨b, o + i * 7 + 2, none⟩ = some v2 ∧ w.cell? ⟨b, o + i * 7 + 3, none⟩ = some v3 ∧
      w.cell? ⟨b, o + i * 7 + 4, none⟩ = some v4 ∧ w.cell? ⟨b, o + i * 7 + 5, none⟩ = some v5 ∧ w.cell? ⟨b, o + i * 7 + 6, none⟩ = some v6 := by
  obtain ⟨b, o, xs, ha, hl, hr, ht⟩ := h i x hf
  match xs, hl with
  | [v0, v1, v2, v3, v4, v5, v6], _ =>
    exact ⟨b, o, v0, v1, v2, v3, v4, v5, v6, ha, ht, hr 0 _ rfl, hr 1 _ rfl, hr 2 _ rfl, hr 3 _ rfl, hr 4 _ rfl, hr 5 _ rfl, hr 6 _ rfl⟩
theorem FdsAt.form {w : World} {d : Nat} {A : Option Addr} {l : List (Fld (Tp d))} (h : FdsAt w d A l) {i : Nat} {f : Fld (Tp d)} (hf : l[i]? = some f) :
    ∃ (b o : Nat) (v1 v2 v3 v4 v5 v6 v7 : Value), A = some ⟨b, o, none⟩ ∧ I64 f.bits ∧ f.nm.size ≤ 9223372036854775807 ∧ TyAt w d f.t [v1, v2, v3, v4, v5, v6, v7] ∧
      w.cell? ⟨b, o + i * 9, none⟩ = some (.string f.nm) ∧ w.cell? ⟨b, o + i * 9 + 1, none⟩ = some v1 ∧ w.cell? ⟨b, o + i * 9 + 2, none⟩ = some v2 ∧ w.cell? ⟨b, o + i * 9 + 3, none⟩ = some v3 ∧
      w.cell? ⟨b, o + i * 9 + 4, none⟩ = some v4 ∧ w.cell? ⟨b, o + i * 9 + 5, none⟩ = some v5 ∧ w.cell? ⟨b, o + i * 9 + 6, none⟩ = some v6 ∧ w.cell? ⟨b, o + i * 9 + 7, none⟩ = some v7 ∧ w.cell? ⟨b, o + i * 9 + 8, none⟩ = some (.int .i64 f.bits) := by
  obtain ⟨b, o, xs, ha, hl, hbt, hn, hr, ht⟩ := h i f hf
  match xs, hl with
  | [v0, v1, v2, v3, v4, v5, v6], _ =>
    exact ⟨b, o, v0, v1, v2, v3, v4, v5, v6, ha, hbt, hn, ht, hr 0 _ rfl, hr 1 _ rfl, hr 2 _ rfl, hr 3 _ rfl, hr 4 _ rfl, hr 5 _ rfl, hr 6 _ rfl, hr 7 _ rfl, hr 8 _ rfl⟩
/-- What function g is to answer of two types. -/
def SameC (g : Nat) (d e : Nat) : Prop := ∀ (a : Tp d) (b : Tp e) (u0 u1 u2 u3 u4 u5 u6 v0 v1 v2 v3 v4 v5 v6 : Value) (w : World), TyAt w d a [u0, u1, u2, u3, u4, u5, u6] → TyAt w e b [v0, v1, v2, v3, v4, v5, v6] →
  Calls Try.prog g #[.agg #[u0, u1, u2, u3, u4, u5, u6], .agg #[v0, v1, v2, v3, v4, v5, v6]] w fun e' w' => e' = .returned (.bool (sameS d e a b)) ∧ Below w.heap.size w w'
/-- What the function at members is to answer. -/
def SameFC (d e : Nat) : Prop := ∀ (x : Fld (Tp d)) (y : Fld (Tp e)) (u0 u1 u2 u3 u4 u5 u6 v0 v1 v2 v3 v4 v5 v6 : Value) (w : World), TyAt w d x.t [u0, u1, u2, u3, u4, u5, u6] → TyAt w e y.t [v0, v1, v2, v3, v4, v5, v6] →
  Calls Try.prog 85 #[.agg #[.string x.nm, u0, u1, u2, u3, u4, u5, u6, .int .i64 x.bits], .agg #[.string y.nm, v0, v1, v2, v3, v4, v5, v6, .int .i64 y.bits]] w fun e' w' => e' = .returned (.bool (sameF d e x y)) ∧ Below w.heap.size w w'
theorem eqT_done {a b : Bool} (h : a = b) : Ending.returned (.bool a) = .returned (.bool b) := by rw [h]
set_option maxRecDepth 100000 in
set_option maxHeartbeats 2000000 in
theorem eqTypes_c {d e : Nat} (hC : SameC 51 d e) (A B : Option Addr) (c c' : Nat) (l : List (Tp d)) (k : List (Tp e)) (w : World) (hA : TysAt w d A l) (hB : TysAt w e B k) (hl : l.length ≤ c) (_hk : k.length ≤ c') (hc : c ≤ 9223372036854775807) (_hc' : c' ≤ 9223372036854775807) :
    Calls Try.prog 86 #[.slice A l.length c, .slice B k.length c', .func (.func 51) #[] #[]] w fun e' w' => e' = .returned (.bool (all2 (sameS d e) l k)) ∧ Below w.heap.size w w' := by
  replace hC := Lib.hid hC
  replace hA := Lib.hid hA
  replace hB := Lib.hid hB
  by_cases hlk : l.length = k.length
  · have HLK := Lib.hid hlk
    have hkm : k.length ≤ 9223372036854775807 := by omega
    rw [hlk]
    clear hlk hl
    go_enter Try.func86, Try.ntmps86
    go_wp2_with fail
    go_loopw [17] (fun i wr => ∃ j : Nat, j ≤ k.length ∧ i = .int .i64 j ∧ (((l.zip k).take j).all fun q => (sameS d e) q.1 q.2) = true ∧ Below w.heap.size w wr) (fun i _ => k.length - (intOf i).toNat)
    case atStart => exact ⟨0, Nat.zero_le _, rfl, rfl, Below.refl _ _⟩
    case round =>
      obtain ⟨j, hj, rfl, hp, hb⟩ := hrel
      have HP := Lib.hid hp
      clear hp
      by_cases hlt : j < k.length
      · obtain ⟨x, hx⟩ : ∃ x, l[j]? = some x := ⟨_, List.getElem?_eq_getElem (by rw [HLK.out]; exact hlt)⟩
        obtain ⟨y, hy⟩ : ∃ y, k[j]? = some y := ⟨_, List.getElem?_eq_getElem hlt⟩
        obtain ⟨b, o, u0, u1, u2, u3, u4, u5, u6, hA1, hta, q0, q1, q2, q3, q4, q5, q6⟩ := (hA.out.below hb).at_ hx
        obtain ⟨en, eA, eB, em1, em2, ed1, ed2, epk, eal, hcse⟩ := hta.form
        simp only [List.cons.injEq, and_true] at hcse
        obtain ⟨rfl, rfl, rfl, rfl, rfl, rfl, rfl⟩ := hcse
        obtain ⟨b', o', v0, v1, v2, v3, v4, v5, v6, hB1, htb, r0, r1, r2, r3, r4, r5, r6⟩ := (hB.out.below hb).at_ hy
        obtain ⟨gn, gA, gB, gm1, gm2, gd1, gd2, gpk, gal, hcsg⟩ := htb.form
        simp only [List.cons.injEq, and_true] at hcsg
        obtain ⟨rfl, rfl, rfl, rfl, rfl, rfl, rfl⟩ := hcsg
        subst hA1 hB1
        have hbl := World.block_lt_of_cell? wr _ r0
        simp only at hbl
        have HX := Lib.hid hx
        have HY := Lib.hid hy
        clear hx hy
        obtain ⟨sb, hsb⟩ : ∃ s, (sameS d e) x y = s := ⟨_, rfl⟩
        have HC := Lib.hid (hC.out x y _ _ _ _ _ _ _ _ _ _ _ _ _ _ _ (hta.below (bel_alloc (bel_alloc (Below.refl _ _) (.cells #[.int .i64 (tsh d x), .int .i64 (tk d x), .int .i64 en, .slice eA em1 ed1, .slice eB em2 ed2, .bool epk, .int .i64 eal] 38)) (.cells #[.int .i64 (tsh e y), .int .i64 (tk e y), .int .i64 gn, .slice gA gm1 gd1, .slice gB gm2 gd2, .bool gpk, .int .i64 gal] 38))) (htb.below (bel_alloc (bel_alloc (Below.refl _ _) (.cells #[.int .i64 (tsh d x), .int .i64 (tk d x), .int .i64 en, .slice eA em1 ed1, .slice eB em2 ed2, .bool epk, .int .i64 eal] 38)) (.cells #[.int .i64 (tsh e y), .int .i64 (tk e y), .int .i64 gn, .slice gA gm1 gd1, .slice gB gm2 gd2, .bool gpk, .int .i64 gal] 38))))
        rw [hsb] at HC
        have HSB := Lib.hid hsb
        clear hsb hta htb
        go_wp2_with fail
        refine HC.out.mono ?_
        rintro e' w1 ⟨rfl, hb1⟩
        have HB1 := Lib.hid (bel_then hb (bel_then (bel_alloc (bel_alloc (Below.refl _ _) _) _) hb1))
        clear hb hb1 HC q0 q1 q2 q3 q4 q5 q6 r0 r1 r2 r3 r4 r5 r6
        cases sb with
        | true =>
          go_wp2_with fail
          go_roundw
          case rel => exact ⟨j + 1, by omega, by go_num, all2_snoc HX.out HY.out HSB.out HP.out, HB1.out⟩
          case measure => simp [intOf]; omega
        | false =>
          go_wp2_with fail
          go_ret
          exact ⟨eqT_done (all2_bad HX.out HY.out HSB.out).symm, HB1.out⟩
      · have hkl : k.length ≤ j := by omega
        go_wp2_with fail
        go_ret
        exact ⟨eqT_done (all2_done HLK.out hkl HP.out).symm, hb⟩
  · have HN := Lib.hid (all2_len (p := (sameS d e)) hlk)
    have q1 : ((l.length : Int) != k.length) = true := by rw [bne_iff_ne]; omega
    clear hlk
    go_enter Try.func86, Try.ntmps86
    go_wp2_with fail
    go_ret
    exact ⟨eqT_done HN.out.symm, Below.refl _ _⟩
set_option maxRecDepth 100000 in
set_option maxHeartbeats 2000000 in
theorem eqFields_c {d e : Nat} (hC : SameFC d e) (A B : Option Addr) (c c' : Nat) (l : List (Fld (Tp d))) (k : List (Fld (Tp e))) (w : World) (hA : FdsAt w d A l) (hB : FdsAt w e B k) (hl : l.length ≤ c) (_hk : k.length ≤ c') (hc : c ≤ 9223372036854775807) (_hc' : c' ≤ 9223372036854775807) :
    Calls Try.prog 87 #[.slice A l.length c, .slice B k.length c', .func (.func 85) #[] #[]] w fun e' w' => e' = .returned (.bool (all2 (sameF d e) l k)) ∧ Below w.heap.size w w' := by
  replace hC := Lib.hid hC
  replace hA := Lib.hid hA
  replace hB := Lib.hid hB
  by_cases hlk : l.length = k.length
  · have HLK := Lib.hid hlk
    have hkm : k.length ≤ 9223372036854775807 := by omega
    rw [hlk]
    clear hlk hl
    go_enter Try.func87, Try.ntmps87
    go_wp2_with fail
    go_loopw [17] (fun i wr => ∃ j : Nat, j ≤ k.length ∧ i = .int .i64 j ∧ (((l.zip k).take j).all fun q => (sameF d e) q.1 q.2) = true ∧ Below w.heap.size w wr) (fun i _ => k.length - (intOf i).toNat)
    case atStart => exact ⟨0, Nat.zero_le _, rfl, rfl, Below.refl _ _⟩
    case round =>
      obtain ⟨j, hj, rfl, hp, hb⟩ := hrel
      have HP := Lib.hid hp
      clear hp
      by_cases hlt : j < k.length
      · obtain ⟨x, hx⟩ : ∃ x, l[j]? = some x := ⟨_, List.getElem?_eq_getElem (by rw [HLK.out]; exact hlt)⟩
        obtain ⟨y, hy⟩ : ∃ y, k[j]? = some y := ⟨_, List.getElem?_eq_getElem hlt⟩
        obtain ⟨b, o, en, eA, eB, em1, em2, ed1, ed2, epk, eal, hA1, hbt, hnm, hta, q0, q1, q2, q3, q4, q5, q6, q7, q8⟩ := (hA.out.below hb).at_ hx
        obtain ⟨b', o', gn, gA, gB, gm1, gm2, gd1, gd2, gpk, gal, hB1, hbt2, hnm2, htb, r0, r1, r2, r3, r4, r5, r6, r7, r8⟩ := (hB.out.below hb).at_ hy
        subst hA1 hB1
        have hbl := World.block_lt_of_cell? wr _ r0
        simp only at hbl
        have HX := Lib.hid hx
        have HY := Lib.hid hy
        clear hx hy
        obtain ⟨sb, hsb⟩ : ∃ s, (sameF d e) x y = s := ⟨_, rfl⟩
        have HC := Lib.hid (hC.out x y _ _ _ _ _ _ _ _ _ _ _ _ _ _ _ (hta.below (bel_alloc (bel_alloc (Below.refl _ _) (.cells #[.string x.nm, .int .i64 (tsh d x.t), .int .i64 (tk d x.t), .int .i64 en, .slice eA em1 ed1, .slice eB em2 ed2, .bool epk, .int .i64 eal, .int .i64 x.bits] 56)) (.cells #[.string y.nm, .int .i64 (tsh e y.t), .int .i64 (tk e y.t), .int .i64 gn, .slice gA gm1 gd1, .slice gB gm2 gd2, .bool gpk, .int .i64 gal, .int .i64 y.bits] 56))) (htb.below (bel_alloc (bel_alloc (Below.refl _ _) (.cells #[.string x.nm, .int .i64 (tsh d x.t), .int .i64 (tk d x.t), .int .i64 en, .slice eA em1 ed1, .slice eB em2 ed2, .bool epk, .int .i64 eal, .int .i64 x.bits] 56)) (.cells #[.string y.nm, .int .i64 (tsh e y.t), .int .i64 (tk e y.t), .int .i64 gn, .slice gA gm1 gd1, .slice gB gm2 gd2, .bool gpk, .int .i64 gal, .int .i64 y.bits] 56))))
        rw [hsb] at HC
        have HSB := Lib.hid hsb
        clear hsb hta htb
        go_wp2_with fail
        refine HC.out.mono ?_
        rintro e' w1 ⟨rfl, hb1⟩
        have HB1 := Lib.hid (bel_then hb (bel_then (bel_alloc (bel_alloc (Below.refl _ _) _) _) hb1))
        clear hb hb1 HC q0 q1 q2 q3 q4 q5 q6 q7 q8 r0 r1 r2 r3 r4 r5 r6 r7 r8
        cases sb with
        | true =>
          go_wp2_with fail
          go_roundw
          case rel => exact ⟨j + 1, by omega, by go_num, all2_snoc HX.out HY.out HSB.out HP.out, HB1.out⟩
          case measure => simp [intOf]; omega
        | false =>
          go_wp2_with fail
          go_ret
          exact ⟨eqT_done (all2_bad HX.out HY.out HSB.out).symm, HB1.out⟩
      · have hkl : k.length ≤ j := by omega
        go_wp2_with fail
        go_ret
        exact ⟨eqT_done (all2_done HLK.out hkl HP.out).symm, hb⟩
  · have HN := Lib.hid (all2_len (p := (sameF d e)) hlk)
    have q1 : ((l.length : Int) != k.length) = true := by rw [bne_iff_ne]; omega
    clear hlk
    go_enter Try.func87, Try.ntmps87
    go_wp2_with fail
    go_ret
    exact ⟨eqT_done HN.out.symm, Below.refl _ _⟩
end Go.Proofs.Ytcggghamnmflcaa

/- Plain laws: a struct that is packed, or made a union, is no greater; no program. -/
import Derived.Test.YtcggghamnmflcaaSrm
namespace Go.Proofs.Ytcggghamnmflcaa
open Go Go.RowKit
def pow7 (a : Int) : Prop := a = 1 ∨ a = 2 ∨ a = 4 ∨ a = 8 ∨ a = 16 ∨ a = 32 ∨ a = 64
theorem pow7_max {a b : Int} (h : pow7 a) (k : pow7 b) : pow7 (max a b) := by
  rw [Int.max_def]
  split <;> assumption
theorem pow7_mod {a b : Int} (h : pow7 a) (k : pow7 b) (hab : a ≤ b) : b % a = 0 := by
  unfold pow7 at h k
  rcases h with rfl | rfl | rfl | rfl | rfl | rfl | rfl <;> rcases k with rfl | rfl | rfl | rfl | rfl | rfl | rfl <;> first | decide | (exact absurd hab (by decide))
theorem pow7_pos {a : Int} (h : pow7 a) : 1 ≤ a := by unfold pow7 at h; omega
theorem pow7_al {al : Int} (h : isAlignS al = true) : pow7 (lay0 al).align := by
  have : al = 0 ∨ al = 1 ∨ al = 2 ∨ al = 4 ∨ al = 8 ∨ al = 16 ∨ al = 32 ∨ al = 64 := by
    simp [isAlignS] at h; omega
  unfold pow7
  rcases this with rfl | rfl | rfl | rfl | rfl | rfl | rfl | rfl <;> decide
theorem ksize_pow {k : Int} (h : isK k = true) : pow7 (ksize k) := by
  have : k = 1 ∨ k = 2 ∨ k = 3 ∨ k = 4 ∨ k = 5 ∨ k = 6 ∨ k = 7 ∨ k = 8 := by
    simp [isK] at h; omega
  unfold pow7
  rcases this with rfl | rfl | rfl | rfl | rfl | rfl | rfl | rfl <;> decide
theorem fold_pow {d : Nat} {un pk : Bool} {deep : Int} (ih : ∀ (t : Tp d) (deep : Int) (b : Bx), plainS d t deep = true → boxS d t = some b → pow7 b.align) : ∀ (l : List (Fld (Tp d))) (s s' : Lay), pow7 s.align → (l.all fun f => fldB d f deep) = true → l.foldlM (layF d un pk) s = some s' → pow7 s'.align
  | [], s, s', h, _, hs => by cases hs; exact h
  | f :: l, s, s', h, hall, hs => by
    rw [List.all_cons, Bool.and_eq_true] at hall
    obtain ⟨b, hb, hs1⟩ := fold_cons hs
    refine fold_pow ih l _ s' ?_ hall.2 hs1
    have := ih f.t deep b (fld_parts hall.1).1 hb
    unfold layS
    simp only
    split
    · exact pow7_max h this
    · exact h
theorem boxS_pow : ∀ (d : Nat) (t : Tp d) (deep : Int) (b : Bx), plainS d t deep = true → boxS d t = some b → pow7 b.align
  | 0, t, _, _, _, _ => nomatch t
  | d + 1, t, deep, b, hp, hb => by
    have ih := boxS_pow d
    have hd : 1 ≤ deep := by
      rcases Int.lt_or_le deep 1 with h | h
      · rw [show plainS (d + 1) t deep = _ from plain_low h] at hp; cases hp
      · exact h
    by_cases h1 : Nd.sh t = 1
    · rw [show plainS (d + 1) t deep = _ from plain_1 hd h1] at hp
      simp only [Bool.and_eq_true] at hp
      have e : boxS (d + 1) t = some { size := ksize (Nd.k t), align := ksize (Nd.k t), l := [] } := boxS_int h1
      rw [e] at hb
      cases hb
      exact ksize_pow hp.2.1
    · by_cases h2 : Nd.sh t = 2
      · rw [show boxS (d + 1) t = _ from boxS_ptr h2] at hb
        cases hb
        exact .inr (.inr (.inr (.inl rfl)))
      · by_cases h3 : Nd.sh t = 3
        · cases hx : (bareS t && (Nd.k t == 0 && (decide (1 ≤ Nd.n t) && decide ((Nd.of t).length = 1)))) with
          | false => rw [show plainS (d + 1) t deep = _ from plain_3no hd h3 hx] at hp; cases hp
          | true =>
            simp only [Bool.and_eq_true, beq_iff_eq, decide_eq_true_eq] at hx
            obtain ⟨q1, q2, q3, q4⟩ := hx
            obtain ⟨x, hof⟩ := List.length_eq_one_iff.1 q4
            rw [show plainS (d + 1) t deep = _ from plain_3 hd h3 q1 q2 q3 hof] at hp
            rw [show boxS (d + 1) t = _ from boxS_arr h3 hof] at hb
            cases hbx : boxS d x with
            | none => rw [hbx] at hb; cases hb
            | some b' =>
              rw [hbx] at hb
              simp only at hb
              split at hb
              · cases hb
              · cases hb
                exact ih x (deep - 1) b' hp hbx
        · by_cases h45 : Nd.sh t = 4 ∨ Nd.sh t = 5
          · obtain ⟨s, e1, rfl, e3, e4, e5⟩ := cmp_fold (t := t) h45 hd hp hb
            have hall : ((Nd.fs t).all fun f => fldB d f (deep - 1)) = true := by unfold fieldsS at e5; simp only [Bool.and_eq_true] at e5; exact e5.2
            exact fold_pow ih _ _ s (pow7_al e4) hall e1
          · rw [show plainS (d + 1) t deep = _ from plain_else h1 h2 h3 (fun h => h45 (.inl h)) (fun h => h45 (.inr h))] at hp
            cases hp
theorem upS_least {v n M : Int} (hn : 1 ≤ n) (hM : M % n = 0) (h : v ≤ M) : upS v n ≤ M := by
  have h2 := (upS_rng (v := v) hn).2
  unfold upS at h2 ⊢
  have hd := Int.mul_ediv_add_emod M n
  rw [hM, Int.add_zero] at hd
  generalize (v + n - 1) / n = q at *
  generalize M / n = m at *
  subst hd
  have : q * n < (m + 1) * n := by rw [Int.add_mul, Int.one_mul, Int.mul_comm m n]; omega
  have := Int.lt_of_mul_lt_mul_right this (by omega)
  have : q ≤ m := by omega
  calc q * n ≤ m * n := Int.mul_le_mul_of_nonneg_right this (by omega)
    _ = n * m := Int.mul_comm _ _
theorem upS_le {v v' a b : Int} (ha : 1 ≤ a) (hb : 1 ≤ b) (hm : b % a = 0) (h : v' ≤ v) : upS v' a ≤ upS v b := by
  refine upS_least ha ?_ (Int.le_trans h (upS_rng hb).1)
  unfold upS
  obtain ⟨c, hc⟩ := Int.dvd_of_emod_eq_zero hm
  rw [hc, ← Int.mul_assoc, Int.mul_comm _ a, Int.mul_assoc]
  exact Int.mul_emod_right _ _
theorem mod_mul {a b c : Int} (h : b % a = 0) : (c * b) % (c * a) = 0 := by
  obtain ⟨e, he⟩ := Int.dvd_of_emod_eq_zero h
  rw [he, ← Int.mul_assoc]
  exact Int.mul_emod_right _ _
theorem closeS_le {s s' : Lay} (h : s'.end_ ≤ s.end_) (ha : pow7 s.align) (ha' : pow7 s'.align) (hle : s'.align ≤ s.align) : closeS s' ≤ closeS s := by
  unfold closeS
  have h8 := upS_le (v := s.end_) (v' := s'.end_) (show (1 : Int) ≤ 8 by omega) (show (1 : Int) ≤ 8 by omega) (by decide) h
  exact upS_le (pow7_pos ha') (pow7_pos ha) (pow7_mod ha' ha hle) (Int.ediv_le_ediv (by omega) h8)
/-- Two layings side by side. -/
theorem fold_cmp {d : Nat} {un pk un' pk' : Bool} {deep : Int} {R : Lay → Lay → Prop} (hR : ∀ (f : Fld (Tp d)) (b : Bx) (s1 s2 : Lay), BxOk b → f.bits ≤ 8 * b.size → R s1 s2 → R (layS un pk f.nm (tk d f.t) f.bits b s1) (layS un' pk' f.nm (tk d f.t) f.bits b s2)) :
    ∀ (l : List (Fld (Tp d))) (s1 s2 s1' : Lay), (l.all fun f => fldB d f deep) = true → R s1 s2 → l.foldlM (layF d un pk) s1 = some s1' → ∃ s2', l.foldlM (layF d un' pk') s2 = some s2' ∧ R s1' s2'
  | [], s1, s2, s1', _, h, hs => by cases hs; exact ⟨s2, rfl, h⟩
  | f :: l, s1, s2, s1', hall, h, hs => by
    rw [List.all_cons, Bool.and_eq_true] at hall
    obtain ⟨b, hb, hs1⟩ := fold_cons hs
    have hk := boxS_ok d f.t deep b (fld_parts hall.1).1 hb
    obtain ⟨s2', e1, e2⟩ := fold_cmp hR l _ _ s1' hall.2 (hR f b s1 s2 hk (bits_ok hall.1 hb hk) h) hs1
    refine ⟨s2', ?_, e2⟩
    rw [List.foldlM_cons]
    have : layF d un' pk' s2 f = some (layS un' pk' f.nm (tk d f.t) f.bits b s2) := by unfold layF; rw [hb]; rfl
    rw [this]
    exact e1
theorem cmp_make {d : Nat} {t : Nd (Tp d)} {s : Lay} (hs : t.sh = 4 ∨ t.sh = 5) (hp : plainS (d + 1) t 6 = true) (hf : t.fs.foldlM (layF d (t.sh == 5) t.pk) (lay0 t.al) = some s) (hc : closeS s ≤ 65536) : errS (d + 1) t = 0 ∧ szS (d + 1) t = closeS s ∧ agS (d + 1) t = s.align := by
  have hb : boxS (d + 1) t = some { size := closeS s, align := s.align, l := s.l } := by
    rw [show boxS (d + 1) t = _ from boxS_mem hs, hf]
    simp only
    rw [if_neg (by omega)]
  obtain ⟨h0, _, h1, h2⟩ := err_of hp (by omega) hb
  exact ⟨h0, h1, h2⟩
theorem nextS_packed {pk : Bool} {bits sz ag a a' : Int} (h1 : 1 ≤ sz) (h2 : 1 ≤ ag) (h : a' ≤ a) : nextS true bits sz ag a' ≤ nextS pk bits sz ag a := by
  have u1 := upS_le (v := a) (v' := a') (show (1 : Int) ≤ 8 by omega) (show (1 : Int) ≤ 8 * ag by omega) (by simp) h
  have u2 := upS_le (v := a) (v' := a') (show (1 : Int) ≤ 8 by omega) (show (1 : Int) ≤ 8 by omega) (by decide) h
  have u3 := upS_le (v := a) (v' := a') (show 1 ≤ 8 * sz by omega) (show 1 ≤ 8 * sz by omega) (Int.emod_self) h
  have u4 := (upS_rng (v := a) (show 1 ≤ 8 * sz by omega)).1
  unfold nextS
  by_cases hb : bits < 0
  · rw [if_pos hb, if_pos hb]
    cases pk
    · exact u1
    · exact u2
  · rw [if_neg hb, if_neg hb]
    by_cases hz : bits = 0
    · rw [if_pos hz, if_pos hz]; exact u3
    · rw [if_neg hz, if_neg hz, if_neg (by simp)]
      split <;> omega
def RPk (al : Int) (s1 s2 : Lay) : Prop := s2.at_ ≤ s1.at_ ∧ s2.end_ ≤ s1.end_ ∧ s2.align = al ∧ al ≤ s1.align
def RUn (s1 s2 : Lay) : Prop := 0 ≤ s1.at_ ∧ s2.end_ ≤ s1.end_ ∧ s2.align = s1.align
/-- A packed one is no greater, nor aligned to more. -/
theorem packed_le {d : Nat} {t : Nd (Tp d)} (h0 : errS (d + 1) t = 0) (hs : t.sh = 4 ∨ t.sh = 5) : ∃ m b, errS (d + 1) { t with pk := true } = 0 ∧ szS (d + 1) { t with pk := true } = m ∧ agS (d + 1) { t with pk := true } = b ∧ m ≤ szS (d + 1) t ∧ b ≤ agS (d + 1) t := by
  obtain ⟨h1, h2⟩ := err_0 h0
  obtain ⟨s, e1, e2, e3, e4, e5⟩ := cmp_fold (t := t) hs (by omega) h1 h2
  have hall : (t.fs.all fun f => fldB d f 5) = true := by unfold fieldsS at e5; simp only [Bool.and_eq_true] at e5; exact e5.2
  obtain ⟨s2, g1, g2⟩ := fold_cmp (un' := (t.sh == 5)) (pk' := true) (R := RPk (lay0 t.al).align) (fun f b s1 s2 hk hbt h => by
    obtain ⟨q1, q2, q3, q4⟩ := hk
    obtain ⟨r1, r2, r3, r4⟩ := h
    have hn := nextS_packed (pk := t.pk) (bits := f.bits) q1 q3 (show (if (t.sh == 5) = true then 0 else s2.at_) ≤ (if (t.sh == 5) = true then 0 else s1.at_) by split <;> omega)
    unfold RPk layS
    simp only
    refine ⟨by omega, by omega, by simpa using r3, ?_⟩
    split <;> omega) t.fs (lay0 t.al) (lay0 t.al) s hall ⟨Int.le_refl _, Int.le_refl _, rfl, Int.le_refl _⟩ e1
  have hpw := fold_pow (boxS_pow d) t.fs (lay0 t.al) s (pow7_al e4) hall e1
  obtain ⟨r1, r2, r3, r4⟩ := g2
  have hcl := closeS_le (s := s) (s' := s2) r2 hpw (by rw [r3]; exact pow7_al e4) (by omega)
  have hp : plainS (d + 1) ({ t with pk := true } : Nd (Tp d)) 6 = true := by
    rw [show plainS (d + 1) t 6 = _ from plain_45 (by omega) hs] at h1
    rw [show plainS (d + 1) ({ t with pk := true } : Nd (Tp d)) 6 = _ from plain_45 (by omega) hs]
    exact h1
  obtain ⟨k0, k1, k2⟩ := cmp_make (t := { t with pk := true }) hs hp g1 (by omega)
  have hsz : szS (d + 1) t = closeS s := by unfold szS; rw [if_pos h0, e2]
  have hag : agS (d + 1) t = s.align := by unfold agS; rw [if_pos h0, e2]
  exact ⟨_, _, k0, k1, k2, by rw [hsz]; exact hcl, by rw [hag]; omega⟩
/-- A union of the same members is no greater. -/
theorem union_le {d : Nat} {t : Nd (Tp d)} (h0 : errS (d + 1) t = 0) (hs : t.sh = 4 ∨ t.sh = 5) : errS (d + 1) { t with sh := 5 } = 0 ∧ szS (d + 1) { t with sh := 5 } ≤ szS (d + 1) t := by
  obtain ⟨h1, h2⟩ := err_0 h0
  obtain ⟨s, e1, e2, e3, e4, e5⟩ := cmp_fold (t := t) hs (by omega) h1 h2
  have hall : (t.fs.all fun f => fldB d f 5) = true := by unfold fieldsS at e5; simp only [Bool.and_eq_true] at e5; exact e5.2
  obtain ⟨s2, g1, g2⟩ := fold_cmp (un' := true) (pk' := t.pk) (R := RUn) (fun f b s1 s2 hk hbt h => by
    obtain ⟨q1, q2, q3, q4⟩ := hk
    obtain ⟨r1, r2, r3⟩ := h
    have hz := nextS_zero (pk := t.pk) (bits := f.bits) q1 q3
    have hr := nextS_rng t.pk f.bits b.size b.align (if (t.sh == 5) = true then 0 else s1.at_) q1 q3 q4
    have hat : (0 : Int) ≤ (if (t.sh == 5) = true then 0 else s1.at_) := by split <;> omega
    have hw : (0 : Int) ≤ (if f.bits < 0 then 8 * b.size else f.bits) := by split <;> omega
    unfold RUn layS
    simp only [if_true, hz, r3]
    refine ⟨by omega, by omega, trivial⟩) t.fs (lay0 t.al) (lay0 t.al) s hall ⟨by unfold lay0; simp, Int.le_refl _, rfl⟩ e1
  have hpw := fold_pow (boxS_pow d) t.fs (lay0 t.al) s (pow7_al e4) hall e1
  obtain ⟨r1, r2, r3⟩ := g2
  have hcl := closeS_le (s := s) (s' := s2) r2 hpw (by rw [r3]; exact hpw) (by omega)
  have hp : plainS (d + 1) ({ t with sh := 5 } : Nd (Tp d)) 6 = true := by
    rw [show plainS (d + 1) t 6 = _ from plain_45 (by omega) hs] at h1
    rw [show plainS (d + 1) ({ t with sh := 5 } : Nd (Tp d)) 6 = _ from plain_45 (by omega) (.inr rfl)]
    exact h1
  obtain ⟨k0, k1, k2⟩ := cmp_make (t := { t with sh := 5 }) (.inr rfl) hp g1 (by omega)
  have hsz : szS (d + 1) t = closeS s := by unfold szS; rw [if_pos h0, e2]
  exact ⟨k0, by rw [k1, hsz]; exact hcl⟩
/-- Each member of a union is no greater. -/
theorem union_fields {d : Nat} {t : Nd (Tp d)} (h0 : errS (d + 1) t = 0) (hs : t.sh = 5) {i : Nat} {f : Fld (Tp d)} (hf : t.fs[i]? = some f) : errS d f.t = 0 ∧ (f.bits < 0 → szS d f.t ≤ szS (d + 1) t) := by
  have HL := liesR h0 (.inr hs)
  have hlt := (List.getElem?_eq_some_iff.1 hf).1
  obtain ⟨x, hx⟩ : ∃ x, (memL (d + 1) t)[i]? = some x := ⟨_, List.getElem?_eq_getElem (by rw [HL.len]; exact hlt)⟩
  obtain ⟨p1, p2, p3, p4, p5, p6, p7, b, p8⟩ := HL.all i f x hf hx
  obtain ⟨k0, _, k1, _⟩ := err_of p6 (by omega) p8.bx
  refine ⟨k0, fun hb => ?_⟩
  have := p8.bits
  rw [if_pos hb] at this
  rw [k1]
  omega
end Go.Proofs.Ytcggghamnmflcaa

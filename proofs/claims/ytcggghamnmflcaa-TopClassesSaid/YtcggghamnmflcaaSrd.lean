/- Plain laws: the numbers of a right type's box; no program. -/
import Derived.Test.YtcggghamnmflcaaSrc
namespace Go.Proofs.Ytcggghamnmflcaa
open Go Go.RowKit
def BxOk (b : Bx) : Prop := 1 ≤ b.size ∧ b.size ≤ 65536 ∧ 1 ≤ b.align ∧ b.align ≤ 64
/-- One member laid, by its box. -/
def layF (d : Nat) (un pk : Bool) (s : Lay) (f : Fld (Tp d)) : Option Lay := (boxS d f.t).map fun b => layS un pk f.nm (tk d f.t) f.bits b s
theorem bits_ok {d : Nat} {f : Fld (Tp d)} {deep : Int} {b : Bx} (h : fldB d f deep = true) (hb : boxS d f.t = some b) (hk : BxOk b) : f.bits ≤ 8 * b.size := by
  unfold fldB at h
  simp only [Bool.and_eq_true] at h
  obtain ⟨_, hf⟩ := h
  unfold isFieldS at hf
  split at hf
  · have := hk.1; omega
  · simp only [Bool.and_eq_true, beq_iff_eq, decide_eq_true_eq] at hf
    rw [boxS_int hf.1.1] at hb
    cases hb
    exact hf.1.2
theorem bits_ne {d : Nat} {f : Fld (Tp d)} {deep : Int} (h : fldB d f deep = true) (hn : f.nm.toList.isEmpty = false) : f.bits ≠ 0 := by
  intro hb
  unfold fldB at h
  simp only [Bool.and_eq_true] at h
  have := h.2
  unfold isFieldS at this
  rw [if_neg (by omega), hb] at this
  simp at this
  simp [this] at hn
theorem foldF_rng {d : Nat} {un pk : Bool} {deep : Int} (ih : ∀ (t : Tp d) (deep : Int) (b : Bx), plainS d t deep = true → boxS d t = some b → BxOk b) : ∀ (l : List (Fld (Tp d))) (s s' : Lay) (m : Nat), LayR m s → (l.all fun f => fldB d f deep) = true → l.foldlM (layF d un pk) s = some s' → LayR (m + l.length) s' ∧ s.end_ ≤ s'.end_ ∧ ((∃ f ∈ l, f.bits ≠ 0) → 1 ≤ s'.end_)
  | [], s, s', m, h, _, hs => by
    cases hs
    exact ⟨h, Int.le_refl _, fun ⟨f, hf, _⟩ => by simp at hf⟩
  | f :: l, s, s', m, h, hall, hs => by
    rw [List.all_cons, Bool.and_eq_true] at hall
    rw [List.foldlM_cons] at hs
    cases hb : boxS d f.t with
    | none => unfold layF at hs; rw [hb] at hs; cases hs
    | some b =>
      have hk := ih f.t deep b (by have := hall.1; unfold fldB at this; simp only [Bool.and_eq_true] at this; exact this.1) hb
      obtain ⟨q1, q2, q3, q4⟩ := hk
      have q5 := bits_ok hall.1 hb ⟨q1, q2, q3, q4⟩
      have hs' : l.foldlM (layF d un pk) (layS un pk f.nm (tk d f.t) f.bits b s) = some s' := by
        have : layF d un pk s f = some (layS un pk f.nm (tk d f.t) f.bits b s) := by unfold layF; rw [hb]; rfl
        rw [this] at hs
        exact hs
      obtain ⟨r1, r2, r3⟩ := foldF_rng ih l _ s' (m + 1) (layS_rng h q1 q2 q3 q4 q5) hall.2 hs'
      have hr := nextS_rng pk f.bits b.size b.align (if un then 0 else s.at_) q1 q3 q4
      have hat : (0 : Int) ≤ (if un then 0 else s.at_) := by have := h.1; split <;> omega
      have he : s.end_ ≤ (layS un pk f.nm (tk d f.t) f.bits b s).end_ ∧ (f.bits ≠ 0 → 1 ≤ (layS un pk f.nm (tk d f.t) f.bits b s).end_) := by
        unfold layS
        simp only
        generalize (if un then 0 else s.at_) = at0 at *
        refine ⟨by omega, fun hne => ?_⟩
        split <;> omega
      refine ⟨by rw [List.length_cons, show m + (l.length + 1) = m + 1 + l.length by omega]; exact r1, Int.le_trans he.1 r2, ?_⟩
      rintro ⟨g, hg, hne⟩
      rcases List.mem_cons.1 hg with rfl | hg
      · exact Int.le_trans (he.2 hne) r2
      · exact r3 ⟨g, hg, hne⟩
theorem named_bits {d : Nat} {l : List (Fld (Tp d))} {deep : Int} (h : fieldsS d l deep = true) : ∃ f ∈ l, f.bits ≠ 0 := by
  unfold fieldsS namedS at h
  simp only [Bool.and_eq_true, List.any_eq_true, List.mem_map] at h
  obtain ⟨⟨⟨_, nm, ⟨f, hf, rfl⟩, hne⟩, _⟩, hall⟩ := h
  exact ⟨f, hf, bits_ne (List.all_eq_true.1 hall f hf) (by simpa using hne)⟩
/-- A struct's box, by its members. -/
theorem boxS_mem {d : Nat} {t : Nd (Tp d)} (hs : t.sh = 4 ∨ t.sh = 5) :
    boxS (d + 1) t = (match t.fs.foldlM (layF d (t.sh == 5) t.pk) (lay0 t.al) with
      | none => none
      | some s => if 65536 < closeS s then none else some { size := closeS s, align := s.align, l := s.l }) := by
  have h0 : ({ at_ := 0, end_ := 0, align := max 1 t.al, l := [] } : Lay) = lay0 t.al := by unfold lay0; rw [mx_eq]
  rw [boxS_cmp hs, h0]
  rfl
theorem boxS_ok : ∀ (d : Nat) (t : Tp d) (deep : Int) (b : Bx), plainS d t deep = true → boxS d t = some b → BxOk b
  | 0, t, _, _, _, _ => nomatch t
  | d + 1, t, deep, b, hp, hb => by
    have ih := boxS_ok d
    have hd : 1 ≤ deep := by
      rcases Int.lt_or_le deep 1 with h | h
      · rw [show plainS (d + 1) t deep = _ from plain_low h] at hp; cases hp
      · exact h
    by_cases h1 : Nd.sh t = 1
    · rw [show plainS (d + 1) t deep = _ from plain_1 hd h1] at hp
      simp only [Bool.and_eq_true] at hp
      have := ksize_pos hp.2.1
      have e : boxS (d + 1) t = some { size := ksize (Nd.k t), align := ksize (Nd.k t), l := [] } := boxS_int h1
      rw [e] at hb
      cases hb
      unfold BxOk
      simp only
      omega
    · by_cases h2 : Nd.sh t = 2
      · have e : boxS (d + 1) t = some { size := 8, align := 8, l := [] } := by
          show (if Nd.sh t = 1 then _ else _) = _
          rw [if_neg h1, if_pos h2]
        rw [e] at hb
        cases hb
        unfold BxOk
        simp
      · by_cases h3 : Nd.sh t = 3
        · cases hx : (bareS t && (Nd.k t == 0 && (decide (1 ≤ Nd.n t) && decide ((Nd.of t).length = 1)))) with
          | false => rw [show plainS (d + 1) t deep = _ from plain_3no hd h3 hx] at hp; cases hp
          | true =>
            simp only [Bool.and_eq_true, beq_iff_eq, decide_eq_true_eq] at hx
            obtain ⟨q1, q2, q3, q4⟩ := hx
            obtain ⟨x, hof⟩ := List.length_eq_one_iff.1 q4
            rw [show plainS (d + 1) t deep = _ from plain_3 hd h3 q1 q2 q3 hof] at hp
            have e : boxS (d + 1) t = (match boxS d x with | none => none | some b => if 65536 < Nd.n t ∨ 65536 < b.size * Nd.n t then none else some { size := b.size * Nd.n t, align := b.align, l := [] }) := by
              show (if Nd.sh t = 1 then _ else _) = _
              rw [if_neg h1, if_neg h2, if_pos h3, hof]
              rfl
            rw [e] at hb
            cases hbx : boxS d x with
            | none => rw [hbx] at hb; cases hb
            | some b' =>
              rw [hbx] at hb
              simp only at hb
              split at hb
              · cases hb
              · cases hb
                obtain ⟨k1, k2, k3, k4⟩ := ih x (deep - 1) b' hp hbx
                have : 1 ≤ b'.size * Nd.n t := Int.mul_pos (by omega) (by omega)
                unfold BxOk
                simp only
                omega
        · by_cases h45 : Nd.sh t = 4 ∨ Nd.sh t = 5
          · rw [show plainS (d + 1) t deep = _ from plain_45 hd h45] at hp
            simp only [Bool.and_eq_true] at hp
            obtain ⟨_, _, _, ha, hf⟩ := hp
            rw [show boxS (d + 1) t = _ from boxS_mem h45] at hb
            cases hfold : (Nd.fs t).foldlM (layF d (Nd.sh t == 5) (Nd.pk t)) (lay0 (Nd.al t)) with
            | none => rw [hfold] at hb; cases hb
            | some s =>
              rw [hfold] at hb
              simp only at hb
              split at hb
              · cases hb
              · cases hb
                have hall : ((Nd.fs t).all fun f => fldB d f (deep - 1)) = true := by unfold fieldsS at hf; simp only [Bool.and_eq_true] at hf; exact hf.2
                obtain ⟨r1, _, r3⟩ := foldF_rng ih (Nd.fs t) (lay0 (Nd.al t)) s 0 (lay0_rng ha) hall hfold
                have := closeS_pos r1 (r3 (named_bits hf))
                unfold BxOk
                simp only
                exact ⟨this, by omega, r1.2.2.2.2.1, r1.2.2.2.2.2⟩
          · rw [show plainS (d + 1) t deep = _ from plain_else h1 h2 h3 (fun h => h45 (.inl h)) (fun h => h45 (.inr h))] at hp
            cases hp
end Go.Proofs.Ytcggghamnmflcaa

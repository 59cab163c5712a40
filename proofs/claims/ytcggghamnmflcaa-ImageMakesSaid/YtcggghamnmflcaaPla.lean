/- Plain laws: where the members of a right struct or union lie; no program. -/
import Derived.Test.YtcggghamnmflcaaSrk
namespace Go.Proofs.Ytcggghamnmflcaa
open Go Go.RowKit
/-- Where the i-th member's predecessor ends. -/
def endAt : Int → List Spt → Nat → Int
  | a, _, 0 => a
  | a, [], _ + 1 => a
  | _, x :: L, i + 1 => endAt (x.bit + x.bits) L i
theorem endAt_succ : ∀ (L : List Spt) (a : Int) (i : Nat) (x : Spt), L[i]? = some x → endAt a L (i + 1) = x.bit + x.bits
  | [], _, _, _, h => by simp at h
  | y :: L, a, 0, x, h => by cases h; cases L <;> rfl
  | y :: L, a, i + 1, x, h => by
    show endAt (y.bit + y.bits) L (i + 1) = _
    exact endAt_succ L _ i x (by simpa using h)
theorem fld_parts {d : Nat} {f : Fld (Tp d)} {deep : Int} (h : fldB d f deep = true) : plainS d f.t deep = true ∧ isFieldS f.nm (tsh d f.t) (tk d f.t) f.bits = true := by
  unfold fldB at h
  simpa only [Bool.and_eq_true] using h
theorem plain_mono : ∀ (d : Nat) (t : Tp d) (n m : Int), plainS d t n = true → n ≤ m → plainS d t m = true
  | 0, t, _, _, _, _ => nomatch t
  | d + 1, t, n, m, hp, hnm => by
    have hn : 1 ≤ n := by
      rcases Int.lt_or_le n 1 with h | h
      · rw [show plainS (d + 1) t n = _ from plain_low h] at hp; cases hp
      · exact h
    have hm : 1 ≤ m := by omega
    by_cases h1 : Nd.sh t = 1
    · rw [show plainS (d + 1) t n = _ from plain_1 hn h1] at hp
      rw [show plainS (d + 1) t m = _ from plain_1 hm h1]
      exact hp
    · by_cases h2 : Nd.sh t = 2
      · rw [show plainS (d + 1) t n = _ from plain_2 hn h2] at hp
        rw [show plainS (d + 1) t m = _ from plain_2 hm h2]
        exact hp
      · by_cases h3 : Nd.sh t = 3
        · cases hx : (bareS t && (Nd.k t == 0 && (decide (1 ≤ Nd.n t) && decide ((Nd.of t).length = 1)))) with
          | false => rw [show plainS (d + 1) t n = _ from plain_3no hn h3 hx] at hp; cases hp
          | true =>
            simp only [Bool.and_eq_true, beq_iff_eq, decide_eq_true_eq] at hx
            obtain ⟨q1, q2, q3, q4⟩ := hx
            obtain ⟨x, hof⟩ := List.length_eq_one_iff.1 q4
            rw [show plainS (d + 1) t n = _ from plain_3 hn h3 q1 q2 q3 hof] at hp
            rw [show plainS (d + 1) t m = _ from plain_3 hm h3 q1 q2 q3 hof]
            exact plain_mono d x _ _ hp (by omega)
        · by_cases h45 : Nd.sh t = 4 ∨ Nd.sh t = 5
          · rw [show plainS (d + 1) t n = _ from plain_45 hn h45] at hp
            rw [show plainS (d + 1) t m = _ from plain_45 hm h45]
            simp only [Bool.and_eq_true] at hp ⊢
            obtain ⟨a, b, c, e, hf⟩ := hp
            refine ⟨a, b, c, e, ?_⟩
            unfold fieldsS at hf ⊢
            simp only [Bool.and_eq_true] at hf ⊢
            refine ⟨hf.1, List.all_eq_true.2 fun f hfm => ?_⟩
            have := List.all_eq_true.1 hf.2 f hfm
            obtain ⟨g1, g2⟩ := fld_parts this
            unfold fldB
            rw [plain_mono d f.t _ _ g1 (show n - 1 ≤ m - 1 by omega), g2]
            rfl
          · rw [show plainS (d + 1) t n = _ from plain_else h1 h2 h3 (fun h => h45 (.inl h)) (fun h => h45 (.inr h))] at hp
            cases hp
/-- A part of a right type is right, and its box is its own. -/
theorem err_of {d : Nat} {t : Tp d} {deep : Int} {b : Bx} (hp : plainS d t deep = true) (hd : deep ≤ 6) (hb : boxS d t = some b) : errS d t = 0 ∧ boxD d t = b ∧ szS d t = b.size ∧ agS d t = b.align := by
  have h0 : errS d t = 0 := by unfold errS lieE; rw [plain_mono d t deep 6 hp hd, hb]; rfl
  have h1 : boxD d t = b := by unfold boxD; rw [hb]; rfl
  exact ⟨h0, h1, by unfold szS; rw [if_pos h0, h1], by unfold agS; rw [if_pos h0, h1]⟩
theorem layF_some {d : Nat} {un pk : Bool} {s s1 : Lay} {f : Fld (Tp d)} (h : layF d un pk s f = some s1) : ∃ b, boxS d f.t = some b ∧ s1 = layS un pk f.nm (tk d f.t) f.bits b s := by
  unfold layF at h
  cases hb : boxS d f.t with
  | none => rw [hb] at h; cases h
  | some b => rw [hb] at h; cases h; exact ⟨b, rfl, rfl⟩
/-- What is known of one member laid. -/
structure LiesAt (d : Nat) (un pk : Bool) (f : Fld (Tp d)) (x : Spt) (b : Bx) (e0 : Int) : Prop where
  bx : boxS d f.t = some b
  ok : BxOk b
  le : f.bits ≤ 8 * b.size
  bit : x.bit = nextS pk f.bits b.size b.align (if un then 0 else e0)
  bits : x.bits = if f.bits < 0 then 8 * b.size else f.bits
  k : x.k = tk d f.t
  e0 : 0 ≤ e0
theorem fold_cons {d : Nat} {un pk : Bool} {f : Fld (Tp d)} {l : List (Fld (Tp d))} {s s' : Lay} (hs : (f :: l).foldlM (layF d un pk) s = some s') : ∃ b, boxS d f.t = some b ∧ l.foldlM (layF d un pk) (layS un pk f.nm (tk d f.t) f.bits b s) = some s' := by
  rw [List.foldlM_cons] at hs
  cases hb : boxS d f.t with
  | none => unfold layF at hs; rw [hb] at hs; cases hs
  | some b =>
    have : layF d un pk s f = some (layS un pk f.nm (tk d f.t) f.bits b s) := by unfold layF; rw [hb]; rfl
    rw [this] at hs
    exact ⟨b, rfl, hs⟩
theorem fold_lies {d : Nat} {un pk : Bool} {deep : Int} : ∀ (l : List (Fld (Tp d))) (s s' : Lay) (m : Nat), LayR m s → (l.all fun f => fldB d f deep) = true → l.foldlM (layF d un pk) s = some s' →
    ∃ L, s'.l = s.l ++ L ∧ L.length = l.length ∧ s.align ≤ s'.align ∧ ∀ (i : Nat) (f : Fld (Tp d)) (x : Spt), l[i]? = some f → L[i]? = some x → endAt s.at_ L i ≤ ((m : Int) + i) * 1048576 ∧ x.bit + x.bits ≤ s'.end_ ∧ ∃ b, LiesAt d un pk f x b (endAt s.at_ L i)
  | [], s, s', m, h, _, hs => by
    cases hs
    exact ⟨[], by simp, rfl, Int.le_refl _, fun i f x hf _ => by simp at hf⟩
  | f :: l, s, s', m, h, hall, hs => by
    rw [List.all_cons, Bool.and_eq_true] at hall
    obtain ⟨b, hb, hs1⟩ := fold_cons hs
    have hk := boxS_ok d f.t deep b (fld_parts hall.1).1 hb
    have hk' := hk
    obtain ⟨q1, q2, q3, q4⟩ := hk
    have q5 := bits_ok hall.1 hb hk'
    have hR1 := layS_rng (un := un) (pk := pk) (nm := f.nm) (k := tk d f.t) h q1 q2 q3 q4 q5
    obtain ⟨L, e1, e2, e3, e4⟩ := fold_lies l _ s' (m + 1) hR1 hall.2 hs1
    have hend := (foldF_rng (fun t deep b h1 h2 => boxS_ok d t deep b h1 h2) l _ s' (m + 1) hR1 hall.2 hs1).2.1
    refine ⟨{ bit := nextS pk f.bits b.size b.align (if un then 0 else s.at_), bits := if f.bits < 0 then 8 * b.size else f.bits, k := tk d f.t } :: L, ?_, by simp [e2], ?_, ?_⟩
    · rw [e1]
      simp [layS]
    · refine Int.le_trans ?_ e3
      unfold layS
      simp only
      split <;> omega
    · intro i g x hg hx
      cases i with
      | zero =>
        simp at hg hx
        subst hg hx
        have e0 : ∀ a L, endAt a L 0 = a := fun a L => by cases L <;> rfl
        rw [e0]
        obtain ⟨a1, a2, _⟩ := h
        refine ⟨by simpa using a2, ?_, b, hb, hk', q5, rfl, rfl, rfl, a1⟩
        refine Int.le_trans ?_ hend
        unfold layS
        simp only
        omega
      | succ i =>
        obtain ⟨f1, f2, b', f3⟩ := e4 i g x (by simpa using hg) (by simpa using hx)
        refine ⟨?_, f2, b', f3⟩
        refine Int.le_trans f1 ?_
        push_cast
        omega
theorem upS_mul {v n : Int} : upS v n % n = 0 := by unfold upS; exact Int.mul_emod_left _ _
theorem upS_zero {n : Int} (hn : 1 ≤ n) : upS 0 n = 0 := by
  unfold upS
  rw [Int.ediv_eq_zero_of_lt (by omega) (by omega)]
  simp
theorem closeS_end {s : Lay} (h : 1 ≤ s.align) : s.end_ ≤ 8 * closeS s := by
  have a := upS_rng (v := s.end_) (show (1 : Int) ≤ 8 by omega)
  have b := upS_rng (v := upS s.end_ 8 / 8) h
  have c := upS_mul (v := s.end_) (n := 8)
  unfold closeS
  omega
theorem nextS_zero {pk : Bool} {bits sz ag : Int} (h1 : 1 ≤ sz) (h2 : 1 ≤ ag) : nextS pk bits sz ag 0 = 0 := by
  unfold nextS
  rw [upS_zero (by omega), upS_zero (by omega), upS_zero (by omega)]
  split
  · split <;> rfl
  · split
    · rfl
    · split <;> rfl
/-- What the law asks of a right struct or union. -/
structure LiesR (d : Nat) (t : Nd (Tp d)) (n a : Int) (l : List Spt) : Prop where
  len : l.length = t.fs.length
  div : n % a = 0
  al : t.al ≤ a
  n1 : 1 ≤ n
  n2 : n ≤ 65536
  a1 : 1 ≤ a
  a2 : a ≤ 64
  all : ∀ (i : Nat) (f : Fld (Tp d)) (x : Spt), t.fs[i]? = some f → l[i]? = some x → 0 ≤ x.bit ∧ 0 ≤ x.bits ∧ x.bit + x.bits ≤ 8 * n ∧ (t.sh = 4 → endAt 0 l i ≤ x.bit) ∧ (t.sh = 5 → x.bit = 0) ∧ plainS d f.t 5 = true ∧ isFieldS f.nm (tsh d f.t) (tk d f.t) f.bits = true ∧ ∃ b, LiesAt d (t.sh == 5) t.pk f x b (endAt 0 l i)
theorem liesR {d : Nat} {t : Nd (Tp d)} (h0 : errS (d + 1) t = 0) (hs : t.sh = 4 ∨ t.sh = 5) : LiesR d t (szS (d + 1) t) (agS (d + 1) t) (memL (d + 1) t) := by
  obtain ⟨h1, h2⟩ := err_0 h0
  obtain ⟨s, e1, e2, e3, e4, e5⟩ := cmp_fold (t := t) hs (by omega) h1 h2
  obtain ⟨k1, k2, k3, k4⟩ := boxS_ok (d + 1) t 6 _ h1 h2
  have hall : (t.fs.all fun f => fldB d f 5) = true := by unfold fieldsS at e5; simp only [Bool.and_eq_true] at e5; exact e5.2
  obtain ⟨L, l1, l2, l3, l4⟩ := fold_lies t.fs (lay0 t.al) s 0 (lay0_rng e4) hall e1
  have hl : memL (d + 1) t = L := by
    unfold memL
    rw [if_pos ⟨h0, hs⟩, e2]
    simp only [l1, lay0, List.nil_append]
  have hsz : szS (d + 1) t = closeS s := by unfold szS; rw [if_pos h0, e2]
  have hag : agS (d + 1) t = s.align := by unfold agS; rw [if_pos h0, e2]
  rw [e2] at k1 k2 k3 k4
  simp only at k1 k2 k3 k4
  rw [hsz, hag, hl]
  refine ⟨l2, upS_mul, ?_, k1, k2, k3, k4, fun i f x hf hx => ?_⟩
  · refine Int.le_trans ?_ l3
    unfold lay0
    simp only [mx_eq]
    omega
  · obtain ⟨f1, f2, b, f3⟩ := l4 i f x hf hx
    obtain ⟨q1, q2, q3, q4⟩ := f3.ok
    have hf5 := fld_parts (List.all_eq_true.1 hall f (List.mem_of_getElem? hf))
    have hr := nextS_rng t.pk f.bits b.size b.align (if (t.sh == 5) = true then 0 else endAt 0 L i) q1 q3 q4
    have e00 : (lay0 t.al).at_ = 0 := rfl
    rw [e00] at f1 f3
    rw [← f3.bit] at hr
    have h5 := f3.e0
    have hbits := f3.bits
    have hce := closeS_end k3
    refine ⟨?_, ?_, by omega, fun h4 => ?_, fun h5 => ?_, hf5.1, hf5.2, b, f3⟩
    · split at hr <;> omega
    · split at hbits <;> omega
    · have : (t.sh == 5) = false := by rw [h4]; rfl
      rw [this] at hr
      exact hr.1
    · have : (t.sh == 5) = true := by rw [h5]; rfl
      rw [f3.bit, this]
      exact nextS_zero q1 q3
end Go.Proofs.Ytcggghamnmflcaa

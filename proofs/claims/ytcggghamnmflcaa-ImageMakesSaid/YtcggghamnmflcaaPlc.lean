/- Plain laws: the numbers within a type lie within it, and move with it; no program. -/
import Derived.Test.YtcggghamnmflcaaLvf
namespace Go.Proofs.Ytcggghamnmflcaa
open Go Go.RowKit
def shiftS (k : Int) (s : Spt) : Spt := ⟨s.bit + k, s.bits, s.k⟩
theorem flat_map_congr {α β : Type} {f g : α → List β} {l : List α} (h : ∀ x ∈ l, f x = g x) : l.flatMap f = l.flatMap g := by
  induction l with
  | nil => rfl
  | cons x l ih =>
    rw [List.flatMap_cons, List.flatMap_cons, h x (List.mem_cons_self ..), ih fun y hy => h y (List.mem_cons_of_mem _ hy)]
theorem leaves_shift : ∀ (d : Nat) (t : Tp d) (a k : Int), leavesS d t (a + k) = (leavesS d t a).map (shiftS k)
  | 0, t, _, _ => nomatch t
  | d + 1, t, a, k => by
    have ih := leaves_shift d
    by_cases h1 : Nd.sh t = 1
    · have e : ∀ fr, leavesS (d + 1) t fr = [⟨fr, 8 * ksize (Nd.k t), Nd.k t⟩] := fun fr => by
        show (if Nd.sh t = 1 then _ else _) = _
        rw [if_pos h1]
      rw [e, e]; rfl
    · by_cases h2 : Nd.sh t = 2
      · have e : ∀ fr, leavesS (d + 1) t fr = [⟨fr, 64, 8⟩] := fun fr => by
          show (if Nd.sh t = 1 then _ else _) = _
          rw [if_neg h1, if_pos h2]
        rw [e, e]; rfl
      · by_cases h3 : Nd.sh t = 3
        · cases ho : Nd.of t with
          | nil =>
            have e : ∀ fr, leavesS (d + 1) t fr = [] := fun fr => by
              show (if Nd.sh t = 1 then _ else _) = _
              rw [if_neg h1, if_neg h2, if_pos h3, ho]
            rw [e, e]; rfl
          | cons x l =>
            cases l with
            | cons y l =>
              have e : ∀ fr, leavesS (d + 1) t fr = [] := fun fr => by
                show (if Nd.sh t = 1 then _ else _) = _
                rw [if_neg h1, if_neg h2, if_pos h3, ho]
              rw [e, e]; rfl
            | nil =>
              have e : ∀ fr, leavesS (d + 1) t fr = (List.range (Nd.n t).toNat).flatMap fun (i : Nat) => leavesS d x (fr + 8 * bsz d x * i) := fun fr => by
                show (if Nd.sh t = 1 then _ else _) = _
                rw [if_neg h1, if_neg h2, if_pos h3, ho]
              rw [e, e, List.map_flatMap]
              refine flat_map_congr fun i _ => ?_
              rw [show a + k + 8 * bsz d x * (i : Int) = a + 8 * bsz d x * i + k by omega, ih]
        · have e : ∀ fr, leavesS (d + 1) t fr = ((Nd.fs t).zip (boxD (d + 1) t).l).flatMap (memLv d fr) := fun fr => by
            show (if Nd.sh t = 1 then _ else _) = _
            rw [if_neg h1, if_neg h2, if_neg h3]
            rfl
          rw [e, e, List.map_flatMap]
          refine flat_map_congr fun p _ => ?_
          unfold memLv
          split
          · rfl
          · split
            · simp only [List.map_cons, List.map_nil, shiftS]
              rw [show a + k + p.2.bit = a + p.2.bit + k by omega]
            · rw [show a + k + p.2.bit = a + p.2.bit + k by omega, ih]
theorem field_bits {d : Nat} {f : Fld (Tp d)} (h1 : plainS d f.t 5 = true) (h2 : isFieldS f.nm (tsh d f.t) (tk d f.t) f.bits = true) (h3 : 0 ≤ f.bits) : f.bits ≤ 64 := by
  unfold isFieldS at h2
  rw [if_neg (by omega)] at h2
  simp only [Bool.and_eq_true, beq_iff_eq, decide_eq_true_eq] at h2
  obtain ⟨⟨hs, hb⟩, _⟩ := h2
  cases d with
  | zero => exact nomatch f.t
  | succ d =>
    rw [show plainS (d + 1) f.t 5 = _ from plain_1 (by omega) hs] at h1
    simp only [Bool.and_eq_true] at h1
    have := ksize_pos h1.2.1
    have e : tk (d + 1) f.t = Nd.k f.t := rfl
    rw [e] at hb
    omega
/-- Each number lies within its type. -/
theorem leaves_rng : ∀ (d : Nat) (t : Tp d) (fr : Int) (b : Bx), plainS d t 6 = true → boxS d t = some b → ∀ s ∈ leavesS d t fr, fr ≤ s.bit ∧ 1 ≤ s.bits ∧ s.bits ≤ 64 ∧ s.bit + s.bits ≤ fr + 8 * b.size
  | 0, t, _, _, _, _ => nomatch t
  | d + 1, t, fr, b, hp, hb => by
    have ih := leaves_rng d
    by_cases h1 : Nd.sh t = 1
    · have e : leavesS (d + 1) t fr = [⟨fr, 8 * ksize (Nd.k t), Nd.k t⟩] := by
        show (if Nd.sh t = 1 then _ else _) = _
        rw [if_pos h1]
      rw [show plainS (d + 1) t 6 = _ from plain_1 (by omega) h1] at hp
      simp only [Bool.and_eq_true] at hp
      have hk := ksize_pos hp.2.1
      have e2 : boxS (d + 1) t = some { size := ksize (Nd.k t), align := ksize (Nd.k t), l := [] } := boxS_int h1
      rw [e2] at hb
      cases hb
      rw [e]
      intro s hs
      simp only [List.mem_singleton] at hs
      subst hs
      simp only
      omega
    · by_cases h2 : Nd.sh t = 2
      · have e : leavesS (d + 1) t fr = [⟨fr, 64, 8⟩] := by
          show (if Nd.sh t = 1 then _ else _) = _
          rw [if_neg h1, if_pos h2]
        rw [show boxS (d + 1) t = _ from boxS_ptr h2] at hb
        cases hb
        rw [e]
        intro s hs
        simp only [List.mem_singleton] at hs
        subst hs
        simp only
        omega
      · by_cases h3 : Nd.sh t = 3
        · obtain ⟨x, bx, hof, _, _, g1, _, hpx, hbx, rfl, _, hok⟩ := arr_parts (t := t) h3 hp hb
          have e : leavesS (d + 1) t fr = (List.range (Nd.n t).toNat).flatMap fun (i : Nat) => leavesS d x (fr + 8 * bsz d x * i) := by
            show (if Nd.sh t = 1 then _ else _) = _
            rw [if_neg h1, if_neg h2, if_pos h3, hof]
          have hbz : bsz d x = bx.size := by unfold bsz; rw [(err_of hpx (by omega) hbx).2.1]
          rw [e]
          intro s hs
          obtain ⟨i, hi, hs⟩ := List.mem_flatMap.1 hs
          have hi' := List.mem_range.1 hi
          obtain ⟨q1, q2, q3, q4⟩ := ih x _ bx hpx hbx s hs
          rw [hbz] at q1 q4
          have p0 : 0 ≤ 8 * bx.size * (i : Int) := Int.mul_nonneg (by have := hok.1; omega) (by omega)
          have p1 := Int.mul_le_mul_of_nonneg_left (show (i : Int) + 1 ≤ Nd.n t by omega) (show 0 ≤ 8 * bx.size by have := hok.1; omega)
          rw [Int.mul_add, Int.mul_one, Int.mul_assoc 8 bx.size (Nd.n t)] at p1
          simp only
          exact ⟨by omega, q2, q3, by omega⟩
        · by_cases h45 : Nd.sh t = 4 ∨ Nd.sh t = 5
          · have h0e := err_of hp (by omega) hb
            have HLI := liesR (t := t) h0e.1 h45
            rw [h0e.2.2.1, h0e.2.2.2] at HLI
            have hmL : memL (d + 1) t = b.l := by
              unfold memL
              rw [if_pos ⟨h0e.1, show tsh (d + 1) t = 4 ∨ tsh (d + 1) t = 5 from h45⟩, h0e.2.1]
            rw [hmL] at HLI
            have e : leavesS (d + 1) t fr = ((Nd.fs t).zip b.l).flatMap (memLv d fr) := by
              show (if Nd.sh t = 1 then _ else _) = _
              rw [if_neg h1, if_neg h2, if_neg h3, h0e.2.1]
              rfl
            rw [e]
            intro s hs
            obtain ⟨⟨f, x⟩, hi, hs⟩ := List.mem_flatMap.1 hs
            obtain ⟨i, hi⟩ := List.mem_iff_getElem?.1 hi
            obtain ⟨hf, hx⟩ := List.getElem?_zip_eq_some.1 hi
            obtain ⟨p1, p2, p3, _, _, p6, p7, bb, p8⟩ := HLI.all i f x hf hx
            have p9 := p8.bits
            unfold memLv at hs
            simp only at hs
            split at hs
            · simp at hs
            · split at hs
              · rename_i hz hp'
                rw [if_neg (by omega)] at p9
                simp only [List.mem_singleton] at hs
                subst hs
                have := field_bits p6 p7 (by omega)
                simp only
                omega
              · rename_i hz hp'
                rw [if_pos (by omega)] at p9
                obtain ⟨q1, q2, q3, q4⟩ := ih f.t _ bb (plain_mono _ _ _ _ p6 (by omega)) p8.bx s hs
                exact ⟨by omega, q2, q3, by omega⟩
          · rw [show plainS (d + 1) t 6 = _ from plain_else h1 h2 h3 (fun h => h45 (.inl h)) (fun h => h45 (.inr h))] at hp
            cases hp
theorem flat_get {α : Type} {f : Nat → List α} {m : Nat} (hm : ∀ i, (f i).length = m) : ∀ (N i : Nat), i < N * m → ((List.range N).flatMap f)[i]? = (f (i / m))[i % m]?
  | 0, i, h => by simp at h
  | N + 1, i, h => by
    have hl : ∀ N, ((List.range N).flatMap f).length = N * m := fun N => by
      induction N with
      | zero => simp
      | succ N ih => rw [List.range_succ, List.flatMap_append, List.length_append, ih]; simp [hm, Nat.succ_mul]
    have hm0 : 0 < m := by
      rcases Nat.eq_zero_or_pos m with h0 | h0
      · subst h0; simp at h
      · exact h0
    rw [List.range_succ, List.flatMap_append]
    by_cases hi : i < N * m
    · rw [List.getElem?_append_left (by rw [hl]; exact hi)]
      exact flat_get hm N i hi
    · rw [List.getElem?_append_right (by rw [hl]; omega), hl]
      rw [Nat.succ_mul] at h
      have e1 : i / m = N := by
        rw [Nat.div_eq_of_lt_le]
        · rw [Nat.mul_comm]; rw [Nat.mul_comm] at hi; omega
        · rw [Nat.succ_mul]; omega
      have e2 : i % m = i - N * m := by
        have := Nat.div_add_mod i m
        rw [e1, Nat.mul_comm] at this
        omega
      rw [e1, e2]
      simp
theorem flat_len {α : Type} {f : Nat → List α} {m : Nat} (hm : ∀ i, (f i).length = m) (N : Nat) : ((List.range N).flatMap f).length = N * m := by
  induction N with
  | zero => simp
  | succ N ih => rw [List.range_succ, List.flatMap_append, List.length_append, ih]; simp [hm, Nat.succ_mul]
/-- An array of a type. -/
def arrT (d : Nat) (t : Tp d) (n : Int) : Tp (d + 1) := ({ sh := 3, k := 0, n := n, of := [t], fs := [], pk := false, al := 0 } : Nd (Tp d))
theorem arr_leaves {d : Nat} (t : Tp d) (N : Nat) : leavesS (d + 1) (arrT d t N) 0 = (List.range N).flatMap fun (i : Nat) => (leavesS d t 0).map (shiftS (8 * bsz d t * i)) := by
  have e : leavesS (d + 1) (arrT d t N) 0 = (List.range (N : Int).toNat).flatMap fun (i : Nat) => leavesS d t (0 + 8 * bsz d t * i) := rfl
  rw [e, Int.toNat_natCast]
  exact flat_map_congr fun i _ => leaves_shift d t 0 _
theorem arr_at {d : Nat} (t : Tp d) (N i : Nat) (hi : i < N * (leavesS d t 0).length) : (leavesS (d + 1) (arrT d t N) 0)[i]? = ((leavesS d t 0)[i % (leavesS d t 0).length]?).map (shiftS (8 * bsz d t * ((i / (leavesS d t 0).length : Nat) : Int))) := by
  rw [arr_leaves, flat_get (f := fun (i : Nat) => (leavesS d t 0).map (shiftS (8 * bsz d t * i))) (fun i => List.length_map ..) N i hi, List.getElem?_map]
theorem arr_len {d : Nat} (t : Tp d) (N : Nat) : (leavesS (d + 1) (arrT d t N) 0).length = N * (leavesS d t 0).length := by
  rw [arr_leaves]
  exact flat_len (f := fun (i : Nat) => (leavesS d t 0).map (shiftS (8 * bsz d t * i))) (fun i => List.length_map ..) N
end Go.Proofs.Ytcggghamnmflcaa

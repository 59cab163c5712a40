/- Plain laws of making an image: unions led through, which set fails, types without unions. -/
import Derived.Test.YtcggghamnmflcaaIbt
namespace Go.Proofs.Ytcggghamnmflcaa
open Go Go.RowKit Go.Shelf
/-- Bytes are made nought. -/
def clr (b : List Nat) (a n : Nat) : List Nat := b.take a ++ (List.replicate n 0 ++ b.drop (a + n))
theorem clr_len {b : List Nat} {a n : Nat} (h : a + n ≤ b.length) : (clr b a n).length = b.length := by
  unfold clr
  simp only [List.length_append, List.length_take, List.length_replicate, List.length_drop]
  omega
theorem clr_lt {b : List Nat} {a n : Nat} (h : ∀ x ∈ b, x < 256) : ∀ x ∈ clr b a n, x < 256 := fun x hx => by
  unfold clr at hx
  rcases List.mem_append.1 hx with hx | hx
  · exact h _ (List.mem_of_mem_take hx)
  · rcases List.mem_append.1 hx with hx | hx
    · have := List.eq_of_mem_replicate hx; omega
    · exact h _ (List.mem_of_mem_drop hx)
def ukOf (u : Stp) : Uky := ⟨u.from_, u.size, u.deep⟩
abbrev Mst := List Nat × (Uky → Option Int)
/-- A union is led through. -/
def thr1 (s : Mst) (u : Stp) : Mst :=
  ((match s.2 (ukOf u) with | some m => if m = u.member then s.1 else clr s.1 u.from_.toNat u.size.toNat | none => s.1), fun k => if k = ukOf u then some u.member else s.2 k)
def set1 (d : Nat) (t : Tp d) (s : Mst) (x : List Int × Int) : Mst := match walkS d t 0 0 x.1 with
  | some r => (wrS (r.2.foldl thr1 s).1 r.1.bit.toNat (x.2 % 18446744073709551616).toNat r.1.bits.toNat, (r.2.foldl thr1 s).2)
  | none => s
def mst0 (n : Nat) : Mst := (List.replicate n 0, fun _ => none)
/-- Which set's path leads to nothing. -/
def failI (d : Nat) (t : Tp d) (l : List (List Int × Int)) : Option Nat := l.findIdx? fun x => (walkS d t 0 0 x.1).isNone
def mkE (d : Nat) (t : Tp d) (l : List (List Int × Int)) : Int := if errS d t = 0 then (match failI d t l with | some _ => 110 | none => 0) else errS d t
def mkI (d : Nat) (t : Tp d) (l : List (List Int × Int)) : Int := if errS d t = 0 then (match failI d t l with | some i => (i : Int) | none => 0) else 0
def mkV (d : Nat) (t : Tp d) (l : List (List Int × Int)) : ByteArray := if mkE d t l = 0 then ofN (l.foldl (set1 d t) (mst0 (szS d t).toNat)).1 else ⟨#[]⟩
theorem set1_snoc (d : Nat) (t : Tp d) (l : List (List Int × Int)) (s : Mst) (x : List Int × Int) : (l ++ [x]).foldl (set1 d t) s = set1 d t (l.foldl (set1 d t) s) x := by
  rw [List.foldl_append]; rfl
theorem thr_snoc (us : List Stp) (s : Mst) (u : Stp) : (us ++ [u]).foldl thr1 s = thr1 (us.foldl thr1 s) u := by
  rw [List.foldl_append]; rfl
/-- What a map of unions says. -/
def valL (L : List (Uky × Int)) (k : Uky) : Option Int := (findL L k 0).map (·.2)
theorem findL_sh (k : Uky) : ∀ (L : List (Uky × Int)) (j : Nat), findL L k (j + 1) = (findL L k j).map fun r => (r.1 + 1, r.2)
  | [], _ => rfl
  | x :: L, j => by
    unfold findL
    by_cases h : k = x.1
    · rw [if_pos h, if_pos h]; rfl
    · rw [if_neg h, if_neg h]; exact findL_sh k L (j + 1)
theorem valL_cons (x : Uky × Int) (L : List (Uky × Int)) (k : Uky) : valL (x :: L) k = if k = x.1 then some x.2 else valL L k := by
  unfold valL
  rw [findL]
  by_cases h : k = x.1
  · rw [if_pos h, if_pos h]; rfl
  · rw [if_neg h, if_neg h, findL_sh, Option.map_map]; rfl
theorem updL_cons (x : Uky × Int) (L : List (Uky × Int)) (k : Uky) (v : Int) : updL (x :: L) k v = if k = x.1 then (k, v) :: L else x :: updL L k v := by
  unfold updL
  rw [findL]
  by_cases h : k = x.1
  · rw [if_pos h, if_pos h]; rfl
  · rw [if_neg h, if_neg h, findL_sh]
    cases findL L k 0 with
    | none => rfl
    | some r => rfl
/-- A map written is read. -/
theorem valL_upd (k : Uky) (v : Int) (k' : Uky) : ∀ L : List (Uky × Int), valL (updL L k v) k' = if k' = k then some v else valL L k'
  | [] => by
    show valL [(k, v)] k' = _
    rw [valL_cons]
  | x :: L => by
    rw [updL_cons]
    by_cases h : k = x.1
    · rw [if_pos h, valL_cons, valL_cons]
      by_cases h' : k' = k
      · simp [h']
      · simp only [if_neg h']; rw [if_neg (by rw [← h]; exact h')]
    · rw [if_neg h, valL_cons, valL_cons, valL_upd k v k' L]
      by_cases h' : k' = x.1
      · rw [if_pos h', if_pos h', if_neg (by rw [h']; exact fun e => h e.symm)]
      · rw [if_neg h', if_neg h']
/-- Unions on the way lie within the type. -/
theorem stp_rng : ∀ (d : Nat) (t : Tp d) (fr dp : Int) (p : List Int) (s : Spt) (us : List Stp) (b : Bx), plainS d t 6 = true → boxS d t = some b → walkS d t fr dp p = some (s, us) →
    ∀ u ∈ us, fr / 8 ≤ u.from_ ∧ 1 ≤ u.size ∧ 8 * u.from_ + 8 * u.size ≤ fr + 8 * b.size
  | 0, t, _, _, _, _, _, _, _, _, _ => nomatch t
  | d + 1, t, fr, dp, p, s, us, b, hp, hb, hw => by
    obtain ⟨t', rfl⟩ : ∃ t' : Nd (Tp d), t' = t := ⟨t, rfl⟩
    have he := err_of hp (by omega) hb
    by_cases h12 : t'.sh = 1 ∨ t'.sh = 2
    · cases p with
      | cons i q => rw [walk_num_no h12 (by simp)] at hw; cases hw
      | nil =>
        rw [walk_num h12] at hw
        injection hw with hw
        injection hw with _ hs
        subst hs
        intro u hu
        cases hu
    · cases p with
      | nil => rw [walk_nil h12] at hw; cases hw
      | cons i q =>
        by_cases hi : i < 0
        · rw [walk_neg h12 hi] at hw; cases hw
        · by_cases h3 : t'.sh = 3
          · obtain ⟨x, bx, hof, _, _, n1, n2, px6, hbx, hbs, _, hok⟩ := arr_parts h3 hp hb
            by_cases hn : t'.n ≤ i
            · rw [walk_arr_no h3 (by omega) hn] at hw; cases hw
            · rw [walk_arr h3 (by omega) (by omega) hof] at hw
              have ih := stp_rng d x _ _ _ _ _ bx px6 hbx hw
              have hbz : bsz d x = bx.size := by unfold bsz; rw [(err_of px6 (by omega) hbx).2.1]
              rw [hbz] at ih
              intro u hu
              obtain ⟨q1, q2, q3⟩ := ih u hu
              have p0 : 0 ≤ 8 * bx.size * i := Int.mul_nonneg (by have := hok.1; omega) (by omega)
              have p1 := Int.mul_le_mul_of_nonneg_left (show i + 1 ≤ t'.n by omega) (show 0 ≤ 8 * bx.size by have := hok.1; omega)
              rw [Int.mul_add, Int.mul_one] at p1
              have p2 : 8 * b.size = 8 * bx.size * t'.n := by rw [hbs]; show 8 * (bx.size * t'.n) = _; rw [Int.mul_assoc]
              exact ⟨by omega, q2, by omega⟩
          · have hss : t'.sh = 4 ∨ t'.sh = 5 := by
              rcases plain_sh hp with h | h | h | h | h
              · exact absurd (.inl h) h12
              · exact absurd (.inr h) h12
              · exact absurd h h3
              · exact .inl h
              · exact .inr h
            have LR := liesR he.1 hss
            have hmL : memL (d + 1) t' = b.l := by unfold memL; rw [if_pos ⟨he.1, hss⟩, he.2.1]
            rw [hmL, he.2.2.1] at LR
            have hbl : (boxD (d + 1) t').l = b.l := by rw [he.2.1]
            have hbs : bsz (d + 1) t' = b.size := by unfold bsz; rw [he.2.1]
            have n1 := LR.n1
            have hown : ∀ u ∈ (if t'.sh = 5 then [(⟨fr / 8, bsz (d + 1) t', dp, i⟩ : Stp)] else []), fr / 8 ≤ u.from_ ∧ 1 ≤ u.size ∧ 8 * u.from_ + 8 * u.size ≤ fr + 8 * b.size := by
              intro u hu
              split at hu
              · simp only [List.mem_singleton] at hu
                subst hu
                simp only [hbs]
                omega
              · cases hu
            cases hf : t'.fs[i.toNat]? with
            | none => rw [walk_cmp_far hss (by omega) (by simpa using hf)] at hw; cases hw
            | some f =>
              obtain ⟨x, hx⟩ : ∃ x, b.l[i.toNat]? = some x := ⟨_, List.getElem?_eq_getElem (by have := (List.getElem?_eq_some_iff.1 hf).1; have := LR.len; omega)⟩
              obtain ⟨xb0, xb1, xb2, _, _, pl5, _, bf, hl⟩ := LR.all i.toNat f x hf hx
              rw [walk_cmp hss (by omega) hf (by rw [hbl]; exact hx)] at hw
              by_cases h0 : f.bits = 0
              · rw [if_pos h0] at hw; cases hw
              · rw [if_neg h0] at hw
                by_cases hpos : 0 < f.bits
                · rw [if_pos hpos] at hw
                  cases q with
                  | cons => cases hw
                  | nil =>
                    injection hw with hw
                    injection hw with _ hs
                    subst hs
                    exact hown
                · rw [if_neg hpos] at hw
                  cases hr : walkS d f.t (fr + x.bit) (dp + 1) q with
                  | none => rw [hr] at hw; cases hw
                  | some r =>
                    obtain ⟨s1, us1⟩ := r
                    rw [hr] at hw
                    injection hw with hw
                    injection hw with _ hs
                    subst hs
                    intro u hu
                    rcases List.mem_append.1 hu with hu | hu
                    · exact hown u hu
                    · obtain ⟨q1, q2, q3⟩ := stp_rng d f.t _ _ _ _ _ bf (plain_mono d f.t _ _ pl5 (by omega)) hl.bx hr u hu
                      have e1 := hl.bits
                      rw [if_pos (by omega)] at e1
                      exact ⟨by omega, q2, by omega⟩
/-- Is there a union within a type? -/
def hasU : (d : Nat) → Tp d → Bool
  | 0, t => nomatch t
  | d + 1, t =>
    let t : Nd (Tp d) := t
    t.sh == 5 || t.of.any (hasU d) || t.fs.any (fun f => hasU d f.t)
theorem hasU_no {d : Nat} {t : Nd (Tp d)} (h : hasU (d + 1) t = false) : t.sh ≠ 5 ∧ (∀ x ∈ t.of, hasU d x = false) ∧ (∀ f ∈ t.fs, hasU d f.t = false) := by
  have h : (t.sh == 5 || t.of.any (hasU d) || t.fs.any (fun f => hasU d f.t)) = false := h
  simp only [Bool.or_eq_false_iff, List.any_eq_false, beq_eq_false_iff_ne] at h
  exact ⟨h.1.1, fun x hx => by simpa using h.1.2 x hx, fun f hf => by simpa using h.2 f hf⟩
/-- Where there is no union, no path leads through one. -/
theorem walk_nou : ∀ (d : Nat) (t : Tp d) (fr dp : Int) (p : List Int) (s : Spt) (us : List Stp) (b : Bx), plainS d t 6 = true → boxS d t = some b → hasU d t = false → walkS d t fr dp p = some (s, us) → us = []
  | 0, t, _, _, _, _, _, _, _, _, _, _ => nomatch t
  | d + 1, t, fr, dp, p, s, us, b, hp, hb, hu, hw => by
    obtain ⟨t', rfl⟩ : ∃ t' : Nd (Tp d), t' = t := ⟨t, rfl⟩
    have he := err_of hp (by omega) hb
    obtain ⟨u5, uof, ufs⟩ := hasU_no hu
    by_cases h12 : t'.sh = 1 ∨ t'.sh = 2
    · cases p with
      | cons i q => rw [walk_num_no h12 (by simp)] at hw; cases hw
      | nil =>
        rw [walk_num h12] at hw
        injection hw with hw
        injection hw with _ hs
        exact hs.symm
    · cases p with
      | nil => rw [walk_nil h12] at hw; cases hw
      | cons i q =>
        by_cases hi : i < 0
        · rw [walk_neg h12 hi] at hw; cases hw
        · by_cases h3 : t'.sh = 3
          · obtain ⟨x, bx, hof, _, _, n1, n2, px6, hbx, hbs, _, hok⟩ := arr_parts h3 hp hb
            by_cases hn : t'.n ≤ i
            · rw [walk_arr_no h3 (by omega) hn] at hw; cases hw
            · rw [walk_arr h3 (by omega) (by omega) hof] at hw
              exact walk_nou d x _ _ _ _ _ bx px6 hbx (uof x (by rw [hof]; simp)) hw
          · have hss : t'.sh = 4 ∨ t'.sh = 5 := by
              rcases plain_sh hp with h | h | h | h | h
              · exact absurd (.inl h) h12
              · exact absurd (.inr h) h12
              · exact absurd h h3
              · exact .inl h
              · exact .inr h
            have LR := liesR he.1 hss
            have hmL : memL (d + 1) t' = b.l := by unfold memL; rw [if_pos ⟨he.1, hss⟩, he.2.1]
            rw [hmL] at LR
            have hbl : (boxD (d + 1) t').l = b.l := by rw [he.2.1]
            cases hf : t'.fs[i.toNat]? with
            | none => rw [walk_cmp_far hss (by omega) (by simpa using hf)] at hw; cases hw
            | some f =>
              obtain ⟨x, hx⟩ : ∃ x, b.l[i.toNat]? = some x := ⟨_, List.getElem?_eq_getElem (by have := (List.getElem?_eq_some_iff.1 hf).1; have := LR.len; omega)⟩
              obtain ⟨xb0, xb1, xb2, _, _, pl5, _, bf, hl⟩ := LR.all i.toNat f x hf hx
              rw [walk_cmp hss (by omega) hf (by rw [hbl]; exact hx), if_neg u5] at hw
              by_cases h0 : f.bits = 0
              · rw [if_pos h0] at hw; cases hw
              · rw [if_neg h0] at hw
                by_cases hpos : 0 < f.bits
                · rw [if_pos hpos] at hw
                  cases q with
                  | cons => cases hw
                  | nil =>
                    injection hw with hw
                    injection hw with _ hs
                    exact hs.symm
                · rw [if_neg hpos] at hw
                  cases hr : walkS d f.t (fr + x.bit) (dp + 1) q with
                  | none => rw [hr] at hw; cases hw
                  | some r =>
                    obtain ⟨s1, us1⟩ := r
                    rw [hr] at hw
                    injection hw with hw
                    injection hw with _ hs
                    have := walk_nou d f.t _ _ _ _ _ bf (plain_mono d f.t _ _ pl5 (by omega)) hl.bx (ufs f (List.mem_of_getElem? hf)) hr
                    rw [← hs, this]
                    rfl
/-- No more unions on the way than the path has members. -/
theorem walk_len : ∀ (d : Nat) (t : Tp d) (fr dp : Int) (p : List Int) (s : Spt) (us : List Stp) (b : Bx), plainS d t 6 = true → boxS d t = some b → walkS d t fr dp p = some (s, us) → us.length ≤ p.length
  | 0, t, _, _, _, _, _, _, _, _, _ => nomatch t
  | d + 1, t, fr, dp, p, s, us, b, hp, hb, hw => by
    obtain ⟨t', rfl⟩ : ∃ t' : Nd (Tp d), t' = t := ⟨t, rfl⟩
    have he := err_of hp (by omega) hb
    by_cases h12 : t'.sh = 1 ∨ t'.sh = 2
    · cases p with
      | cons i q => rw [walk_num_no h12 (by simp)] at hw; cases hw
      | nil =>
        rw [walk_num h12] at hw
        injection hw with hw
        injection hw with _ hs
        rw [← hs]; exact Nat.zero_le _
    · cases p with
      | nil => rw [walk_nil h12] at hw; cases hw
      | cons i q =>
        by_cases hi : i < 0
        · rw [walk_neg h12 hi] at hw; cases hw
        · by_cases h3 : t'.sh = 3
          · obtain ⟨x, bx, hof, _, _, n1, n2, px6, hbx, hbs, _, hok⟩ := arr_parts h3 hp hb
            by_cases hn : t'.n ≤ i
            · rw [walk_arr_no h3 (by omega) hn] at hw; cases hw
            · rw [walk_arr h3 (by omega) (by omega) hof] at hw
              have := walk_len d x _ _ _ _ _ bx px6 hbx hw
              rw [List.length_cons]
              omega
          · have hss : t'.sh = 4 ∨ t'.sh = 5 := by
              rcases plain_sh hp with h | h | h | h | h
              · exact absurd (.inl h) h12
              · exact absurd (.inr h) h12
              · exact absurd h h3
              · exact .inl h
              · exact .inr h
            have LR := liesR he.1 hss
            have hmL : memL (d + 1) t' = b.l := by unfold memL; rw [if_pos ⟨he.1, hss⟩, he.2.1]
            rw [hmL] at LR
            have hbl : (boxD (d + 1) t').l = b.l := by rw [he.2.1]
            cases hf : t'.fs[i.toNat]? with
            | none => rw [walk_cmp_far hss (by omega) (by simpa using hf)] at hw; cases hw
            | some f =>
              obtain ⟨x, hx⟩ : ∃ x, b.l[i.toNat]? = some x := ⟨_, List.getElem?_eq_getElem (by have := (List.getElem?_eq_some_iff.1 hf).1; have := LR.len; omega)⟩
              obtain ⟨xb0, xb1, xb2, _, _, pl5, _, bf, hl⟩ := LR.all i.toNat f x hf hx
              rw [walk_cmp hss (by omega) hf (by rw [hbl]; exact hx)] at hw
              by_cases h0 : f.bits = 0
              · rw [if_pos h0] at hw; cases hw
              · rw [if_neg h0] at hw
                by_cases hpos : 0 < f.bits
                · rw [if_pos hpos] at hw
                  cases q with
                  | cons => cases hw
                  | nil =>
                    injection hw with hw
                    injection hw with _ hs
                    rw [← hs]
                    split <;> simp
                · rw [if_neg hpos] at hw
                  cases hr : walkS d f.t (fr + x.bit) (dp + 1) q with
                  | none => rw [hr] at hw; cases hw
                  | some r =>
                    obtain ⟨s1, us1⟩ := r
                    rw [hr] at hw
                    injection hw with hw
                    injection hw with _ hs
                    have := walk_len d f.t _ _ _ _ _ bf (plain_mono d f.t _ _ pl5 (by omega)) hl.bx hr
                    rw [← hs, List.length_append, List.length_cons]
                    simp only
                    split <;> simp only [List.length_cons, List.length_nil] <;> omega
end Go.Proofs.Ytcggghamnmflcaa

/- Plain laws of ImageSteps and ImageSwaps. -/
import Derived.Test.YtcggghamnmflcaaImp
import Derived.Test.YtcggghamnmflcaaIbp
namespace Go.Proofs.Ytcggghamnmflcaa
open Go Go.RowKit Go.Shelf
theorem find_0' {d : Nat} {t : Tp d} {p : List Int} (h : findE d t p = 0) : errS d t = 0 ∧ ∃ us, walkS d t 0 0 p = some (spotS d t p, us) := by
  unfold findE at h
  by_cases he : errS d t = 0
  · refine ⟨he, ?_⟩
    rw [if_pos he] at h
    unfold spotS
    rw [if_pos he]
    cases hw : walkS d t 0 0 p with
    | none => rw [hw] at h; exact absurd h (by decide)
    | some r => exact ⟨r.2, rfl⟩
  · rw [if_neg he] at h; exact absurd h he
/-- Where there is no union, sets are written one behind the other. -/
theorem set1_nou {d : Nat} {t : Tp d} {bx : Bx} (hp : plainS d t 6 = true) (hb : boxS d t = some bx) (hu : hasU d t = false) : ∀ (l : List (List Int × Int)) (s : Mst), (l.foldl (set1 d t) s).1 = mkS d t s.1 l
  | [], _ => rfl
  | x :: l, s => by
    rw [List.foldl_cons, set1_nou hp hb hu l]
    unfold set1
    rw [mkS]
    cases hw : walkS d t 0 0 x.1 with
    | none => rfl
    | some r =>
      obtain ⟨sp, us⟩ := r
      have := walk_nou d t 0 0 x.1 sp us bx hp hb hu hw
      subst this
      rfl
theorem mkS_bit {d : Nat} {t : Tp d} {bx : Bx} (hp : plainS d t 6 = true) (hb : boxS d t = some bx) (a : Nat) : ∀ (l : List (List Int × Int)) (b b' : List Nat), b.length = b'.length → (b.length : Int) = bx.size → bitN b a = bitN b' a → bitN (mkS d t b l) a = bitN (mkS d t b' l) a
  | [], _, _, _, _, h => h
  | x :: l, b, b', hl, hn, h => by
    rw [mkS, mkS]
    cases hw : walkS d t 0 0 x.1 with
    | none => exact mkS_bit hp hb a l b b' hl hn h
    | some r =>
      obtain ⟨s, us⟩ := r
      obtain ⟨k1, k2, k3, k4⟩ := walk_rng hp hb hw
      refine mkS_bit hp hb a l _ _ (by simp only [wrS_len]; exact hl) (by simp only [wrS_len]; exact hn) ?_
      simp only
      rw [bit_wr _ _ _ _ _ (by omega), bit_wr _ _ _ _ _ (by omega), h]
/-- The last set of a path counts. -/
theorem mkS_last {d : Nat} {t : Tp d} {bx : Bx} (hp : plainS d t 6 = true) (hb : boxS d t = some bx) {x y : List Int × Int} (hxy : x.1 = y.1) (l : List (List Int × Int)) (b : List Nat) (hn : (b.length : Int) = bx.size) (hlt : ∀ x ∈ b, x < 256) :
    mkS d t b (x :: (l ++ [y])) = mkS d t b (l ++ [y]) := by
  rw [show x :: (l ++ [y]) = (x :: l) ++ [y] from rfl, mkS_snoc, mkS_snoc]
  cases hw : walkS d t 0 0 y.1 with
  | none => rw [mkS, hxy, hw]
  | some r =>
    obtain ⟨s, us⟩ := r
    obtain ⟨k1, k2, k3, k4⟩ := walk_rng hp hb hw
    simp only
    have e1 := mkS_lt hp hb (x :: l) b hn hlt
    have e2 := mkS_lt hp hb l b hn hlt
    have f1 := mkS_len d t (x :: l) b
    have f2 := mkS_len d t l b
    refine bits_ext (by rw [wrS_len, wrS_len, f1, f2]) (wrS_lt e1 (by omega)) (wrS_lt e2 (by omega)) fun a => ?_
    rw [bit_wr _ _ _ _ _ (by omega), bit_wr _ _ _ _ _ (by omega)]
    split
    · rfl
    · rename_i hout
      rw [mkS, hxy, hw]
      simp only
      refine mkS_bit hp hb a l _ _ (wrS_len ..) (by rw [wrS_len]; exact hn) ?_
      rw [bit_wr _ _ _ _ _ (by omega), if_neg hout]
theorem mkE_0 {d : Nat} {t : Tp d} {l : List (List Int × Int)} (h : mkE d t l = 0) : errS d t = 0 ∧ failI d t l = none ∧ mkV d t l = ofN (l.foldl (set1 d t) (mst0 (szS d t).toNat)).1 := by
  unfold mkE at h
  by_cases he : errS d t = 0
  · rw [if_pos he] at h
    cases hf : failI d t l with
    | none => exact ⟨he, rfl, by unfold mkV mkE; rw [if_pos he, hf]; rfl⟩
    | some i => rw [hf] at h; cases h
  · rw [if_neg he] at h; exact absurd h he
theorem fail_walk {d : Nat} {t : Tp d} {l : List (List Int × Int)} (h : failI d t l = none) : ∀ x ∈ l, ∃ s us, walkS d t 0 0 x.1 = some (s, us) := by
  intro x hx
  unfold failI at h
  rw [List.findIdx?_eq_none_iff] at h
  have := h x hx
  cases hw : walkS d t 0 0 x.1 with
  | none => rw [hw] at this; cases this
  | some r => exact ⟨r.1, r.2, rfl⟩
theorem walk_fail {d : Nat} {t : Tp d} {l : List (List Int × Int)} (h : ∀ x ∈ l, (walkS d t 0 0 x.1).isSome = true) : failI d t l = none := by
  unfold failI
  rw [List.findIdx?_eq_none_iff]
  intro x hx
  have := h x hx
  cases hw : walkS d t 0 0 x.1 with
  | none => rw [hw] at this; cases this
  | some r => rfl
/-- What is said of sets, where there is no union. -/
theorem mk_nou {d : Nat} {t : Tp d} {l : List (List Int × Int)} (he : errS d t = 0) (hf : failI d t l = none) (hu : hasU d t = false) : mkV d t l = ofN (mkS d t (List.replicate (szS d t).toNat 0) l) := by
  obtain ⟨q1, q2⟩ := err_0 he
  have hE : mkE d t l = 0 := by unfold mkE; rw [if_pos he, hf]
  rw [(mkE_0 hE).2.2, set1_nou q1 q2 hu]
  rfl
theorem sz_nat {d : Nat} {t : Tp d} (he : errS d t = 0) : ((szS d t).toNat : Int) = szS d t ∧ szS d t = (boxD d t).size ∧ 1 ≤ szS d t ∧ szS d t ≤ 65536 := by
  obtain ⟨q1, q2⟩ := err_0 he
  have hok := boxS_ok d t 6 _ q1 q2
  have hsz : szS d t = (boxD d t).size := by unfold szS; rw [if_pos he]
  have h1 := hok.1
  have h2 := hok.2.1
  exact ⟨by omega, hsz, by omega, by omega⟩
theorem zero_lt (n : Nat) : ∀ x ∈ List.replicate n 0, x < 256 := fun x hx => by have := List.eq_of_mem_replicate hx; omega
/-- One set more is one writing more. -/
theorem steps_put {d : Nat} {t : Tp d} {l : List (List Int × Int)} (he : errS d t = 0) (hf : failI d t l = none) {j : Nat} {x : List Int × Int} (hx : l[j]? = some x) :
    let y := ofN (mkS d t (List.replicate (szS d t).toNat 0) (l.take j))
    sizedE d t y.size x.1 = 0 ∧ putV d t y x.1 x.2 = ofN (mkS d t (List.replicate (szS d t).toNat 0) (l.take (j + 1))) ∧ y.size ≤ 65536 := by
  intro y
  obtain ⟨q1, q2⟩ := err_0 he
  obtain ⟨s, us, hw⟩ := fail_walk hf x (List.mem_of_getElem? hx)
  obtain ⟨z1, z2, z3, z4⟩ := sz_nat he
  have hlt := mkS_lt q1 q2 (l.take j) (List.replicate (szS d t).toNat 0) (by rw [List.length_replicate, z1, z2]) (zero_lt _)
  have hby : byN y = mkS d t (List.replicate (szS d t).toNat 0) (l.take j) := byN_ofN hlt
  have hsz : y.size = (szS d t).toNat := by rw [← byN_len, hby, mkS_len, List.length_replicate]
  obtain ⟨f1, f2, -⟩ := find_some he hw
  have hE : sizedE d t y.size x.1 = 0 := by unfold sizedE; rw [if_pos f1, if_pos (by rw [hsz]; exact z1)]
  refine ⟨hE, ?_, by omega⟩
  unfold putV
  rw [if_pos hE, hby, f2, take_snoc_of hx, mkS_snoc, hw]
/-- An empty row of sets makes noughts. -/
theorem steps_0 {d : Nat} {t : Tp d} (l : List (List Int × Int)) : ofN (mkS d t (List.replicate (szS d t).toNat 0) (l.take 0)) = ofN (List.replicate (szS d t).toNat 0) := rfl
/-- A set ahead of the others, at the last one's path, makes no difference. -/
theorem steps_last {d : Nat} {t : Tp d} {l : List (List Int × Int)} (he : errS d t = 0) (hf : failI d t l = none) (hu : hasU d t = false) {j : Nat} {x : List Int × Int} (hj : j + 1 = l.length) (hx : l[j]? = some x) (v : Int) :
    mkE d t ((x.1, v) :: l) = 0 ∧ mkV d t ((x.1, v) :: l) = mkV d t l := by
  obtain ⟨q1, q2⟩ := err_0 he
  obtain ⟨z1, z2, z3, z4⟩ := sz_nat he
  have hf2 : failI d t ((x.1, v) :: l) = none := walk_fail fun y hy => by
    rcases List.mem_cons.1 hy with rfl | hy
    · obtain ⟨s, us, hw⟩ := fail_walk hf x (List.mem_of_getElem? hx)
      rw [hw]; rfl
    · obtain ⟨s, us, hw⟩ := fail_walk hf y hy
      rw [hw]; rfl
  have hl : l = l.take j ++ [x] := by
    rw [← take_snoc_of hx, hj, List.take_length]
  refine ⟨by unfold mkE; rw [if_pos he, hf2], ?_⟩
  rw [mk_nou he hf2 hu, mk_nou he hf hu]
  congr 1
  rw [hl]
  exact mkS_last (x := (x.1, v)) (y := x) q1 q2 rfl (l.take j) _ (by rw [List.length_replicate, z1, z2]) (zero_lt _)
/-- Two values at spots that share no bit. -/
theorem swap_p {d : Nat} {t : Tp d} {s : ByteArray} {p q : List Int} {v w : Int} (hp : findE d t p = 0) (hq : findE d t q = 0)
    (hd : (spotS d t q).bit + (spotS d t q).bits ≤ (spotS d t p).bit ∨ (spotS d t p).bit + (spotS d t p).bits ≤ (spotS d t q).bit) :
    (sizedE d t s.size p = sizedE d t s.size q) ∧
    (sizedE d t s.size p = 0 → s.size ≤ 65536 ∧ (putV d t s p v).size = s.size ∧ (putV d t s q w).size = s.size ∧ sizedE d t (putV d t s p v).size q = 0 ∧ sizedE d t (putV d t s q w).size p = 0 ∧ putV d t (putV d t s p v) q w = putV d t (putV d t s q w) p v) ∧
    mkE d t [(p, v), (q, w)] = 0 ∧ mkE d t [(q, w), (p, v)] = 0 ∧ (hasU d t = false → mkV d t [(p, v), (q, w)] = mkV d t [(q, w), (p, v)]) := by
  obtain ⟨he, us, hw⟩ := find_0' hp
  obtain ⟨-, vs, hw'⟩ := find_0' hq
  obtain ⟨q1, q2⟩ := err_0 he
  obtain ⟨z1, z2, z3, z4⟩ := sz_nat he
  have hE : sizedE d t s.size p = sizedE d t s.size q := by unfold sizedE; rw [if_pos hp, if_pos hq]
  obtain ⟨a1, a2, a3, a4⟩ := walk_rng q1 q2 hw
  obtain ⟨b1, b2, b3, b4⟩ := walk_rng q1 q2 hw'
  have hf1 : failI d t [(p, v), (q, w)] = none := walk_fail fun y hy => by
    simp only [List.mem_cons, List.not_mem_nil, or_false] at hy
    rcases hy with rfl | rfl
    · simp only; rw [hw]; rfl
    · simp only; rw [hw']; rfl
  have hf2 : failI d t [(q, w), (p, v)] = none := walk_fail fun y hy => by
    simp only [List.mem_cons, List.not_mem_nil, or_false] at hy
    rcases hy with rfl | rfl
    · simp only; rw [hw']; rfl
    · simp only; rw [hw]; rfl
  refine ⟨hE, fun h0 => ?_, by unfold mkE; rw [if_pos he, hf1], by unfold mkE; rw [if_pos he, hf2], fun hu => ?_⟩
  · have h0' : sizedE d t s.size q = 0 := by rw [← hE]; exact h0
    have hz1 := putV_size (v := v) h0
    have hz2 := putV_size (v := w) h0'
    have hsz := (sized_find h0).2
    have hb1 : (spotS d t p).bit.toNat + (spotS d t p).bits.toNat ≤ 8 * (byN s).length := by rw [byN_len]; omega
    have hb2 : (spotS d t q).bit.toNat + (spotS d t q).bits.toNat ≤ 8 * (byN s).length := by rw [byN_len]; omega
    refine ⟨by omega, hz1, hz2, by rw [hz1]; exact h0', by rw [hz2]; exact h0, ?_⟩
    have e1 : byN (putV d t s p v) = wrS (byN s) (spotS d t p).bit.toNat (v % 18446744073709551616).toNat (spotS d t p).bits.toNat := by
      unfold putV; rw [if_pos h0]; exact byN_ofN (wrS_lt (byN_lt s) hb1)
    have e2 : byN (putV d t s q w) = wrS (byN s) (spotS d t q).bit.toNat (w % 18446744073709551616).toNat (spotS d t q).bits.toNat := by
      unfold putV; rw [if_pos h0']; exact byN_ofN (wrS_lt (byN_lt s) hb2)
    have f1 : putV d t (putV d t s p v) q w = ofN (wrS (byN (putV d t s p v)) (spotS d t q).bit.toNat (w % 18446744073709551616).toNat (spotS d t q).bits.toNat) := by
      rw [putV.eq_1 d t (putV d t s p v), if_pos (by rw [hz1]; exact h0')]
    have f2 : putV d t (putV d t s q w) p v = ofN (wrS (byN (putV d t s q w)) (spotS d t p).bit.toNat (v % 18446744073709551616).toNat (spotS d t p).bits.toNat) := by
      rw [putV.eq_1 d t (putV d t s q w), if_pos (by rw [hz2]; exact h0)]
    rw [f1, f2, e1, e2, wr_swap (byN_lt s) hb1 hb2 (by omega)]
  · rw [mk_nou he hf1 hu, mk_nou he hf2 hu]
    congr 1
    simp only [mkS]
    rw [hw, hw']
    simp only
    exact wr_swap (zero_lt _) (by rw [List.length_replicate]; omega) (by rw [List.length_replicate]; omega) (by omega)
end Go.Proofs.Ytcggghamnmflcaa

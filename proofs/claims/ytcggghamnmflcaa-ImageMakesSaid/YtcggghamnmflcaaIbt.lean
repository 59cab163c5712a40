/- Plain laws of bits: what writing and reading does to each bit. -/
import Derived.Test.YtcggghamnmflcaaGi
namespace Go.Proofs.Ytcggghamnmflcaa
open Go Go.RowKit Go.Shelf
theorem sb_same {x n q : Nat} (hn : n < 8) (hq : q < 2) : sb x n q / 2 ^ n % 2 = q := by
  unfold sb
  have h : n = 0 ∨ n = 1 ∨ n = 2 ∨ n = 3 ∨ n = 4 ∨ n = 5 ∨ n = 6 ∨ n = 7 := by omega
  rcases h with rfl | rfl | rfl | rfl | rfl | rfl | rfl | rfl <;> simp only [Nat.reducePow] <;> omega
theorem sb_other {x n m q : Nat} (hn : n < 8) (hm : m < 8) (hq : q < 2) (h : m ≠ n) : sb x n q / 2 ^ m % 2 = x / 2 ^ m % 2 := by
  unfold sb
  have h1 : n = 0 ∨ n = 1 ∨ n = 2 ∨ n = 3 ∨ n = 4 ∨ n = 5 ∨ n = 6 ∨ n = 7 := by omega
  have h2 : m = 0 ∨ m = 1 ∨ m = 2 ∨ m = 3 ∨ m = 4 ∨ m = 5 ∨ m = 6 ∨ m = 7 := by omega
  rcases h1 with rfl | rfl | rfl | rfl | rfl | rfl | rfl | rfl <;> rcases h2 with rfl | rfl | rfl | rfl | rfl | rfl | rfl | rfl <;> first | exact absurd rfl h | (simp only [Nat.reducePow]; omega)
theorem bit_wr1 {l : List Nat} {a b q : Nat} (ha : a < 8 * l.length) (hq : q < 2) : bitN (wr1 l a q) b = if b = a then q else bitN l b := by
  unfold bitN wr1
  rw [List.getElem?_set]
  by_cases h8 : a / 8 = b / 8
  · rw [if_pos h8, if_pos (by omega), Option.getD_some, h8]
    by_cases hb : b = a
    · subst hb
      rw [if_pos rfl, sb_same (by omega) hq]
    · rw [if_neg hb, sb_other (by omega) (by omega) hq (by omega)]
  · rw [if_neg h8, if_neg (by omega)]
theorem wrS_succ (l : List Nat) (bt u bs : Nat) : wrS l bt u (bs + 1) = wr1 (wrS l bt u bs) (bt + bs) (u / 2 ^ bs % 2) := by
  unfold wrS
  rw [List.range_succ, wrQ_snoc, wrQ_n, List.length_range]
/-- Each bit behind a writing. -/
theorem bit_wr (l : List Nat) (bt u a : Nat) : ∀ bs, bt + bs ≤ 8 * l.length → bitN (wrS l bt u bs) a = if bt ≤ a ∧ a < bt + bs then u / 2 ^ (a - bt) % 2 else bitN l a
  | 0, _ => by rw [if_neg (by omega)]; rfl
  | bs + 1, h => by
    rw [wrS_succ, bit_wr1 (by rw [wrS_len]; omega) (Nat.mod_lt _ (by omega)), bit_wr l bt u a bs (by omega)]
    by_cases h1 : a = bt + bs
    · subst h1
      rw [if_pos rfl, if_pos (by omega), show bt + bs - bt = bs by omega]
    · rw [if_neg h1]
      by_cases h2 : bt ≤ a ∧ a < bt + bs
      · rw [if_pos h2, if_pos (by omega)]
      · rw [if_neg h2, if_neg (by omega)]
theorem rdN_succ (l : List Nat) (bt bs : Nat) : rdN l bt (bs + 1) = rdN l bt bs + bitN l (bt + bs) * 2 ^ bs := by
  unfold rdN
  rw [List.range_succ, rdQ_snoc, (rdQ_n l bt _).1, List.length_range]
/-- What is read hangs on the bits alone. -/
theorem rdN_congr {l l' : List Nat} {bt : Nat} : ∀ bs, (∀ i, i < bs → bitN l (bt + i) = bitN l' (bt + i)) → rdN l bt bs = rdN l' bt bs
  | 0, _ => rfl
  | bs + 1, h => by rw [rdN_succ, rdN_succ, rdN_congr bs (fun i hi => h i (by omega)), h bs (by omega)]
theorem rdN_of {l : List Nat} {bt u : Nat} : ∀ bs, (∀ i, i < bs → bitN l (bt + i) = u / 2 ^ i % 2) → rdN l bt bs = u % 2 ^ bs
  | 0, _ => by simp [rdN, rdQ, Nat.mod_one]
  | bs + 1, h => by rw [rdN_succ, rdN_of bs (fun i hi => h i (by omega)), h bs (by omega), Nat.mod_pow_succ, Nat.mul_comm]
/-- What was written is read. -/
theorem rd_wr {l : List Nat} {bt u bs : Nat} (h : bt + bs ≤ 8 * l.length) : rdN (wrS l bt u bs) bt bs = u % 2 ^ bs :=
  rdN_of bs fun i hi => by rw [bit_wr l bt u _ bs h, if_pos (by omega), show bt + i - bt = i by omega]
/-- What shares no bit with it is read as before. -/
theorem rd_far {l : List Nat} {bt u bs ct cs : Nat} (h : bt + bs ≤ 8 * l.length) (hd : ct + cs ≤ bt ∨ bt + bs ≤ ct) : rdN (wrS l bt u bs) ct cs = rdN l ct cs :=
  rdN_congr cs fun i hi => by rw [bit_wr l bt u _ bs h, if_neg (by omega)]
/-- Bytes are alike where their bits are. -/
theorem bits_ext {l l' : List Nat} (hn : l.length = l'.length) (h1 : ∀ x ∈ l, x < 256) (h2 : ∀ x ∈ l', x < 256) (hb : ∀ a, bitN l a = bitN l' a) : l = l' := by
  apply List.ext_getElem hn
  intro i hi hi'
  have e : ∀ n, n < 8 → l[i] / 2 ^ n % 2 = l'[i] / 2 ^ n % 2 := fun n hn => by
    have := hb (8 * i + n)
    unfold bitN at this
    rw [show (8 * i + n) / 8 = i by omega, show (8 * i + n) % 8 = n by omega, List.getElem?_eq_getElem hi, List.getElem?_eq_getElem hi'] at this
    exact this
  have a1 := h1 _ (List.getElem_mem hi)
  have a2 := h2 _ (List.getElem_mem hi')
  have q0 := e 0 (by omega); have q1 := e 1 (by omega); have q2 := e 2 (by omega); have q3 := e 3 (by omega); have q4 := e 4 (by omega); have q5 := e 5 (by omega); have q6 := e 6 (by omega); have q7 := e 7 (by omega)
  simp only [Nat.reducePow] at q0 q1 q2 q3 q4 q5 q6 q7
  omega
theorem wrS_lt {l : List Nat} {bt u bs : Nat} (hl : ∀ x ∈ l, x < 256) (hb : bt + bs ≤ 8 * l.length) : ∀ x ∈ wrS l bt u bs, x < 256 :=
  wrQ_lt hl (bs := bs) hb _ (fun x hx => by simpa using hx)
/-- Two writings that share no bit may be done in whichever order. -/
theorem wr_swap {l : List Nat} {bt u bs ct v cs : Nat} (hl : ∀ x ∈ l, x < 256) (h : bt + bs ≤ 8 * l.length) (h' : ct + cs ≤ 8 * l.length) (hd : ct + cs ≤ bt ∨ bt + bs ≤ ct) :
    wrS (wrS l bt u bs) ct v cs = wrS (wrS l ct v cs) bt u bs := by
  refine bits_ext (by simp [wrS_len]) (wrS_lt (wrS_lt hl h) (by rw [wrS_len]; exact h')) (wrS_lt (wrS_lt hl h') (by rw [wrS_len]; exact h)) fun a => ?_
  rw [bit_wr _ _ _ _ _ (by rw [wrS_len]; exact h'), bit_wr _ _ _ _ _ h, bit_wr _ _ _ _ _ (by rw [wrS_len]; exact h), bit_wr _ _ _ _ _ h']
  by_cases c1 : ct ≤ a ∧ a < ct + cs
  · rw [if_pos c1, if_neg (by omega), if_pos c1]
  · rw [if_neg c1, if_neg c1]
/-- The last writing at a spot counts. -/
theorem wr_over {l : List Nat} {bt u u' bs : Nat} (hl : ∀ x ∈ l, x < 256) (h : bt + bs ≤ 8 * l.length) :
    wrS (wrS l bt u bs) bt u' bs = wrS l bt u' bs := by
  refine bits_ext (by simp [wrS_len]) (wrS_lt (wrS_lt hl h) (by rw [wrS_len]; exact h)) (wrS_lt hl h) fun a => ?_
  rw [bit_wr _ _ _ _ _ (by rw [wrS_len]; exact h), bit_wr _ _ _ _ _ h, bit_wr _ _ _ _ _ h]
  by_cases c1 : bt ≤ a ∧ a < bt + bs
  · rw [if_pos c1, if_pos c1]
  · rw [if_neg c1, if_neg c1, if_neg c1]
/-- A number is what it was, up to its bits. -/
theorem i64S_mod (u : Nat) : ∃ k : Int, i64S u = u + k * 18446744073709551616 := by
  unfold i64S
  split
  · exact ⟨0, by omega⟩
  · exact ⟨-1, by omega⟩
theorem rdS_mod (u bs : Nat) (hb : bs ≤ 64) (kk : Int) : ∃ k : Int, rdS u bs kk = u + k * 2 ^ bs := by
  have h64 : (18446744073709551616 : Int) = 2 ^ (64 - bs) * 2 ^ bs := by
    rw [← Int.pow_add, show 64 - bs + bs = 64 by omega]; rfl
  have hi : ∃ k : Int, i64S u = u + k * 2 ^ bs := by
    obtain ⟨k, hk⟩ := i64S_mod u
    refine ⟨k * 2 ^ (64 - bs), ?_⟩
    rw [hk, Int.mul_assoc, ← h64]
  unfold rdS
  split
  · exact hi
  · split
    · exact ⟨-1, by omega⟩
    · exact hi
/-- Shifted up, so that their bits alone are left, what was written and what is read are the same. -/
theorem shl_same {v : Int} {u bs : Nat} (hu : v % 18446744073709551616 = (u : Int)) (hb : bs ≤ 64) (kk : Int) :
    rdS (u % 2 ^ bs) bs kk * 2 ^ (64 - bs) % 18446744073709551616 = v * 2 ^ (64 - bs) % 18446744073709551616 := by
  obtain ⟨k, hk⟩ := rdS_mod (u % 2 ^ bs) bs hb kk
  have h64 : (18446744073709551616 : Int) = 2 ^ bs * 2 ^ (64 - bs) := by
    rw [← Int.pow_add, show bs + (64 - bs) = 64 by omega]; rfl
  have hm : ((u % 2 ^ bs : Nat) : Int) = (u : Int) % 2 ^ bs := by rw [Int.natCast_emod, Int.natCast_pow]; rfl
  have hu2 : (u : Int) = 2 ^ bs * ((u : Int) / 2 ^ bs) + (u : Int) % 2 ^ bs := (Int.mul_ediv_add_emod _ _).symm
  have hv : v = 18446744073709551616 * (v / 18446744073709551616) + u := by rw [← hu]; exact (Int.mul_ediv_add_emod _ _).symm
  rw [hk, hm]
  have e : v * 2 ^ (64 - bs) = ((u : Int) % 2 ^ bs + k * 2 ^ bs) * 2 ^ (64 - bs) + 18446744073709551616 * ((v / 18446744073709551616) * 2 ^ (64 - bs) + (u : Int) / 2 ^ bs - k) := by
    generalize (u : Int) % 2 ^ bs = r at hu2 ⊢
    generalize (u : Int) / 2 ^ bs = y at hu2 ⊢
    generalize hV : v / 18446744073709551616 = z at hv ⊢
    rw [hv, hu2]
    rw [h64]
    generalize (2 : Int) ^ bs = P
    generalize (2 : Int) ^ (64 - bs) = Q
    simp only [Int.add_mul, Int.mul_add, Int.mul_sub]
    simp only [Int.mul_comm, Int.mul_left_comm]
    omega
  rw [e, Int.add_mul_emod_self_left]
end Go.Proofs.Ytcggghamnmflcaa

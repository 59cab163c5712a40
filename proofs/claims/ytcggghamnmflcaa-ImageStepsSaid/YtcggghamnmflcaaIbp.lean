/- Plain laws of putting and getting. -/
import Derived.Test.YtcggghamnmflcaaIbt
import Derived.Test.YtcggghamnmflcaaIpu
namespace Go.Proofs.Ytcggghamnmflcaa
open Go Go.RowKit Go.Shelf
theorem sized_find {d : Nat} {t : Tp d} {n : Nat} {p : List Int} (h : sizedE d t n p = 0) : findE d t p = 0 ∧ (n : Int) = szS d t := by
  refine ⟨?_, (sized_0 h).2.1⟩
  unfold sizedE at h
  split at h
  · rename_i hf; exact hf
  · rename_i hf; exact absurd h hf
theorem sized_other {d : Nat} {t : Tp d} {n : Nat} {p q : List Int} (h : sizedE d t n p = 0) (hq : findE d t q = 0) : sizedE d t n q = 0 := by
  unfold sizedE
  rw [if_pos hq, if_pos (sized_find h).2]
theorem put_no {d : Nat} {t : Tp d} {s : ByteArray} {p : List Int} {v : Int} (h : sizedE d t s.size p ≠ 0) : putV d t s p v = ⟨#[]⟩ := by unfold putV; rw [if_neg h]
theorem put_yes {d : Nat} {t : Tp d} {s : ByteArray} {p : List Int} {v : Int} (h : sizedE d t s.size p = 0) {bt bs u : Nat} (e4 : (spotS d t p).bit = (bt : Int)) (e5 : (spotS d t p).bits = (bs : Int)) (hu : v % 18446744073709551616 = (u : Int)) :
    putV d t s p v = ofN (wrS (byN s) bt u bs) := by
  unfold putV
  rw [if_pos h, e4, e5, hu, Int.toNat_natCast, Int.toNat_natCast, Int.toNat_natCast]
theorem putV_size {d : Nat} {t : Tp d} {s : ByteArray} {p : List Int} {v : Int} (h : sizedE d t s.size p = 0) : (putV d t s p v).size = s.size := by
  unfold putV
  rw [if_pos h, ofN_len, wrS_len, byN_len]
theorem put_by {d : Nat} {t : Tp d} {s : ByteArray} {p : List Int} {v : Int} (h : sizedE d t s.size p = 0) {bt bs u : Nat} (e4 : (spotS d t p).bit = (bt : Int)) (e5 : (spotS d t p).bits = (bs : Int)) (hu : v % 18446744073709551616 = (u : Int)) (hb : bt + bs ≤ 8 * s.size) :
    byN (putV d t s p v) = wrS (byN s) bt u bs := by
  rw [put_yes h e4 e5 hu]
  exact byN_ofN (wrS_lt (byN_lt s) (by rw [byN_len]; exact hb))
/-- What is put is got, as far as its bits go; what shares no bit with it stays. -/
theorem back_p {d : Nat} {t : Tp d} {s : ByteArray} {p : List Int} {v : Int} (h : sizedE d t s.size p = 0) :
    (putV d t s p v).size = s.size ∧ findE d t p = 0 ∧ ∃ bs : Nat, (spotS d t p).bits = (bs : Int) ∧ 1 ≤ bs ∧ bs ≤ 64 ∧ 0 ≤ (spotS d t p).bit ∧ (spotS d t p).bit + bs ≤ 524288 ∧
    getV d t (putV d t s p v) p * 2 ^ (64 - bs) % 18446744073709551616 = v * 2 ^ (64 - bs) % 18446744073709551616 ∧
    ∀ q, findE d t q = 0 → sizedE d t s.size q = 0 ∧ 0 ≤ (spotS d t q).bit ∧ 0 ≤ (spotS d t q).bits ∧ (spotS d t q).bit + (spotS d t q).bits ≤ 524288 ∧
      (((spotS d t q).bit < (spotS d t p).bit + (spotS d t p).bits ∧ (spotS d t p).bit < (spotS d t q).bit + (spotS d t q).bits) ∨ getV d t (putV d t s p v) q = getV d t s q) := by
  obtain ⟨e1, e2, e3, bt, bs, e4, e5, e6, e7, e8, e9⟩ := sized_0 h
  obtain ⟨u, hu⟩ : ∃ u : Nat, v % 18446744073709551616 = (u : Int) := ⟨(v % 18446744073709551616).toNat, by omega⟩
  have hz := putV_size (v := v) h
  have hby := put_by (v := v) h e4 e5 hu e8
  refine ⟨hz, (sized_find h).1, bs, e5, e6, e7, by omega, by omega, ?_, fun q hq => ?_⟩
  · unfold getV
    rw [hz, if_pos h, hby, e4, e5, Int.toNat_natCast, Int.toNat_natCast, rd_wr (by rw [byN_len]; exact e8)]
    exact shl_same hu e7 _
  · have hq' := sized_other h hq
    obtain ⟨_, _, _, ct, cs, g4, g5, g6, g7, g8, g9⟩ := sized_0 hq'
    refine ⟨hq', by omega, by omega, by omega, ?_⟩
    by_cases hd : (spotS d t q).bit < (spotS d t p).bit + (spotS d t p).bits ∧ (spotS d t p).bit < (spotS d t q).bit + (spotS d t q).bits
    · exact .inl hd
    · right
      rw [e4, e5, g4, g5] at hd
      unfold getV
      rw [hz, if_pos hq', if_pos hq', hby, g4, g5, Int.toNat_natCast, Int.toNat_natCast, rd_far (by rw [byN_len]; exact e8) (by omega)]
end Go.Proofs.Ytcggghamnmflcaa

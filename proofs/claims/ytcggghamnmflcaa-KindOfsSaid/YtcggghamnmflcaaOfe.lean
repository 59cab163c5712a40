/- The reference's count of a word among words: whatever the words. -/
import Derived.Test.YtcggghamnmflcaaOfd
namespace Go.Proofs.Ytcggghamnmflcaa
open Go Go.RowKit
/-- How often a text is there. -/
def cntS (l : List ByteArray) (s : ByteArray) : Nat := (l.filter fun x => x.toList == s.toList).length
theorem cntS_take {l : List ByteArray} {k : Nat} {x s : ByteArray} (hx : l[k]? = some x) : cntS (l.take (k + 1)) s = cntS (l.take k) s + if (x.toList == s.toList) = true then 1 else 0 := by
  unfold cntS
  rw [List.take_add_one, hx, List.filter_append, List.length_append]
  cases h : x.toList == s.toList <;> simp [h]
theorem cntS_le (l : List ByteArray) (s : ByteArray) : cntS l s ≤ l.length := List.length_filter_le _ _
theorem count_c (A : Option Addr) (c : Nat) (l : List ByteArray) (s : ByteArray) (w : World) (hF : StrsAt w A l) (hc : l.length ≤ c) (hm : c ≤ 9223372036854775807) :
    Calls Try.prog 81 #[.slice A l.length c, .string s] w fun e w' => e = .returned (.int .i64 (cntS l s)) ∧ w = w' := by
  have hlen : l.length ≤ 9223372036854775807 := by omega
  go_enter Try.func81, Try.ntmps81
  go_wp2
  go_loopw [5, 6] (fun u i wr => wr = w ∧ ∃ k : Nat, i = .int .i64 k ∧ k ≤ l.length ∧ u = .int .i64 (cntS (l.take k) s)) (fun _ i _ => l.length - (intOf i).toNat)
  case atStart => exact ⟨rfl, 0, rfl, by omega, rfl⟩
  case round =>
    obtain ⟨rfl, k, rfl, hk, rfl⟩ := hrel
    by_cases hlt : k < l.length
    · obtain ⟨x, hx⟩ : ∃ x, l[k]? = some x := ⟨_, List.getElem?_eq_getElem hlt⟩
      obtain ⟨b, o, hA, hcell⟩ := hF k x hx
      subst hA
      have HT := Lib.hid (cntS_take (s := s) hx)
      have hle := cntS_le (l.take k) s
      have hlk : (l.take k).length ≤ k := List.length_take_le _ _
      clear hx
      cases hs : x.toList == s.toList with
      | true =>
        rw [hs] at HT
        go_wp2
        go_roundw
        case rel => exact ⟨trivial, k + 1, by go_num, by omega, by rw [HT.out]; go_num⟩
        case measure => simp [intOf]; omega
      | false =>
        rw [hs] at HT
        go_wp2
        go_roundw
        case rel => exact ⟨trivial, k + 1, by go_num, by omega, by rw [HT.out]; go_num⟩
        case measure => simp [intOf]; omega
    · obtain rfl : k = l.length := by omega
      go_wp2
      go_ret
      exact ⟨by rw [List.take_length]; rfl, rfl⟩
end Go.Proofs.Ytcggghamnmflcaa

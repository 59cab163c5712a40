/- The iterator over places of words: it hands on the place of each word, whatever the words. -/
import Derived.Test.YtcggghamnmflcaaOfa
namespace Go.Proofs.Ytcggghamnmflcaa
open Go Go.RowKit
attribute [local go_sem] wide_fn
/-- The texts of a slice of strings, in the heap. -/
def StrsAt (w : World) (A : Option Addr) (l : List ByteArray) : Prop :=
  ∀ (i : Nat) s, l[i]? = some s → ∃ b o, A = some ⟨b, o, none⟩ ∧ w.cell? ⟨b, o + i, none⟩ = some (.string s)
theorem StrsAt.below {w w1 : World} {A : Option Addr} {l : List ByteArray} (h : StrsAt w A l) (hb : Below w.heap.size w w1) : StrsAt w1 A l := fun i s hs => by
  obtain ⟨b, o, ha, hc⟩ := h i s hs
  exact ⟨b, o, ha, bel_cell hb hc⟩
def pl (l : List ByteArray) : List (Fin 7) := l.map fun s => ⟨plc s, plc_lt s⟩
def pEnc (x : Fin 7) : Array Value := #[.int .i64 ((x.val : Nat) : Int)]
theorem pl_snoc {l : List ByteArray} {k : Nat} {s : ByteArray} (hs : l[k]? = some s) : (pl l).take (k + 1) = (pl l).take k ++ [⟨plc s, plc_lt s⟩] := by
  rw [List.take_add_one]
  simp [pl, hs]

set_option maxRecDepth 100000 in
set_option maxHeartbeats 2000000 in
theorem places1_in (n : Nat) (hn : 1 ≤ n) (l₀ : Nat) (A : Option Addr) (c : Nat) (l : List ByteArray) (w0 : World) (Lb : Nat) (hF : StrsAt w0 A l) (hc : l.length ≤ c) (hm : c ≤ 9223372036854775807)
    (J Jx : List (Fin 7) → World → Prop) (W : World) (_hJ : AbidesFrom W.heap.size J) (hB0 : Below w0.heap.size w0 W)
    (hLb : W.cell? ⟨Lb, 0, none⟩ = some (.slice A l.length c))
    (hY : ∀ pre x W1, J pre W1 → pre.length < l.length → YieldAt Fence.wide (n - 1) Try.prog l₀ (pEnc x) W1 fun e W' =>
      (e = .returned (.bool true) ∧ J (pre ++ [x]) W' ∧ BxK w0.heap.size Lb Lb W1 W') ∨ (e = .returned (.bool false) ∧ Jx (pre ++ [x]) W'))
    (h0 : J [] W) :
    CallsIn Fence.wide n Try.prog 109 #[.func (.yield l₀) #[] #[], .pointer (some ⟨Lb, 0, none⟩)] W fun e W' => (∃ v, e = .returned v) ∧
      ((∃ xs, xs = pl l ∧ J xs W') ∨ (∃ pre, (∃ k, pre = (pl l).take k) ∧ Jx pre W')) := by
  have hlen : l.length ≤ 9223372036854775807 := by omega
  refine callsIn_of_wp Try.func109 rfl trivial ?_ rfl
  simp only [Try.ntmps109, List.size_toArray, List.length_cons, List.length_nil, Nat.reduceAdd, Nat.reduceSub, Array.replicate_succ, Array.replicate_zero, List.push_toArray, List.append_toArray, List.nil_append, List.cons_append]
  gi_wp2
  gi_loopw [7] (fun i wr => ∃ (k : Nat), i = .int .i64 k ∧ k ≤ l.length ∧ J ((pl l).take k) wr ∧ Below w0.heap.size w0 wr ∧ wr.cell? ⟨Lb, 0, none⟩ = some (.slice A l.length c))
    (fun i _ => l.length - (intOf i).toNat)
  case atStart => exact ⟨0, rfl, Nat.zero_le _, h0, hB0, hLb⟩
  case round =>
    obtain ⟨k, rfl, hk, hJs, hB, hLw⟩ := hrel
    by_cases hlt : k < l.length
    · obtain ⟨s, hs⟩ : ∃ s, l[k]? = some s := ⟨_, List.getElem?_eq_getElem hlt⟩
      obtain ⟨b, o, hA, hcell⟩ := (hF.below hB) k s hs
      subst hA
      have HS := Lib.hid hs
      clear hs
      gi_wp2_with fail
      refine (callsIn_wide.2 (placeOf_c s _)).mono ?_
      rintro e w1 ⟨rfl, rfl⟩
      obtain ⟨fn, tmps, assign, body, hy, hR⟩ := hY ((pl l).take k) ⟨plc s, plc_lt s⟩ _ hJs (by simp [pl]; omega)
      dsimp only [pEnc] at hy
      gi_wp2_with fail
      refine hR.mono ?_
      rintro e W3 (⟨rfl, hJ3, hk3⟩ | ⟨rfl, hJx3⟩)
      · clear hy hR
        gi_wp2_with fail
        go_roundw
        case rel => exact ⟨k + 1, by go_num, by omega, by rw [pl_snoc HS.out]; exact hJ3, hB.trans hk3.1, (World.cell?_of_block hk3.2.1).trans hLw⟩
        case measure => simp [intOf]; omega
      · clear hy hR
        gi_wp2_with fail
        refine bodyPost_ret (results_none rfl _ _ _) rfl ?_
        exact ⟨⟨_, rfl⟩, .inr ⟨_, ⟨k + 1, (pl_snoc HS.out).symm⟩, hJx3⟩⟩
    · have hge : l.length ≤ k := by omega
      gi_wp2
      go_end0
      exact ⟨⟨_, rfl⟩, .inl ⟨_, rfl, by rw [List.take_of_length_le (by simp [pl]; omega)] at hJs; exact hJs⟩⟩
theorem places_stops (n : Nat) (hn : 1 ≤ n) (A : Option Addr) (c : Nat) (l : List ByteArray) (w0 : World) (Lb : Nat) (hF : StrsAt w0 A l) (hc : l.length ≤ c) (hm : c ≤ 9223372036854775807) (W0 : World) (hB0 : Below w0.heap.size w0 W0)
    (hLb : Bk W0 Lb 50 #[.slice A l.length c]) :
    SeqStopsK Fence.wide n Try.prog 109 #[.pointer (some ⟨Lb, 0, none⟩)] pEnc (BxK w0.heap.size Lb Lb) (fun xs => xs = pl l) (fun pre => ∃ k, pre = (pl l).take k) l.length W0 :=
  fun l₀ J Jx W hW hJ _ hY h0 => places1_in n hn l₀ A c l w0 Lb hF hc hm J Jx W hJ (hB0.trans (hW.mono hB0.size)) (bel_cell hW (hLb.at_ rfl)) hY h0
end Go.Proofs.Ytcggghamnmflcaa

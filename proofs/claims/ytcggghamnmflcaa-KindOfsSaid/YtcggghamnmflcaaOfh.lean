/- The law KindOfs walked: whatever the words, it returns true; no condition but that the slice reads as words. -/
import Derived.Test.YtcggghamnmflcaaOfg
namespace Go.Proofs.Ytcggghamnmflcaa
open Go Go.RowKit
theorem kindOfs_w (A : Option Addr) (c : Nat) (l : List ByteArray) (w : World) (hF : StrsAt w A l) (hc : l.length ≤ c) (hm : c ≤ 9223372036854775807) :
    Calls Try.prog 9 #[.slice A l.length c] w fun e w' => e = .returned (.bool true) ∧ Below w.heap.size w w' := by
  have R := fun w' (hb : Below w.heap.size w w') => rof_c A c l w' (hF.below hb) hc hm
  have O := of_c A c l w hF hc hm
  go_enter Try.func9, Try.ntmps9
  go_wp2_with (first | (go_at_call 28; (with_reducible refine (shown_c _).mono ?_); rintro e w' ⟨rfl, rfl⟩) | (go_at_call 42; (with_reducible refine O.mono ?_); rintro e w1 ⟨rfl, hb⟩) | (go_at_call 43; refine (R _ hb).mono ?_; rintro e w' ⟨rfl, rfl⟩))
  go_ret
  exact ⟨rfl, hb⟩
theorem kindOfs_r (A : Option Addr) (l : List ByteArray) (c : Nat) (w : World) (hc : l.length ≤ c) (hm : c ≤ 9223372036854775807) (hF : StrsAt w A l) :
    Calls Try.prog 9 #[.slice A l.length c] w fun e w' => e = .returned (.bool true) ∧ Below w.heap.size w w' := kindOfs_w A c l w hF hc hm
end Go.Proofs.Ytcggghamnmflcaa

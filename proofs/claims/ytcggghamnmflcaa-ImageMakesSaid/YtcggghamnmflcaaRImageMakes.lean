/- The given statement ImageMakes: whatever the input, the law returns true, and each argument reads as before. No condition. -/
import Derived.Test.YtcggghamnmflcaaRows
import Derived.Test.YtcggghamnmflcaaIrt
import Derived.Test.YtcggghamnmflcaaAra
import Derived.WalkKit
import Derived.OpenShut
import Derived.ShutString
import Derived.ChangeOld
import Derived.Below
import Derived.SizedLaws
import Derived.Test.YtcggghamnmflcaaFacts
import Derived.WideLaws
import Derived.ChangeAt
import Derived.JoinedOf
import Derived.Handed
import Derived.ChangeShapes
namespace Go.Proofs.Ytcggghamnmflcaa.imageMakes
open Go Go.ChangeShapes Go.WideShapes Go.ChangeAt Go.RowKit
theorem own : ownKnob Try.prog.godebug = none := by kernel_rfl
set_option maxRecDepth 100000 in
theorem lifted (os : Os) (started : os.Started) (H : Type) (enc : TypeId × Value → H) :
    ReturnsInHanded {} Try.checked os 17 .any (Rows.imageMakesSpec.pre6 enc Try.prog Try.f17 Rows.imageMakesRow.domain false) (Rows.imageMakesSpec.post enc Try.prog Try.f17 false true false false) := by
  refine returnsInHanded_of_change_sized (C := Try.checked) own started (by kernel_rfl) Try.func17
    (ChangeSpec.witness6 (enc := enc) (C := Try.checked) false ⟨#[], #[.agg #[.int .i64 0, .int .i64 0, .int .i64 0, .slice none 0 0, .slice none 0 0, .bool false, .int .i64 0], .slice none 0 0], []⟩ 8 (by kernel_rfl) (by kernel_rfl) (by kernel_rfl) (by kernel_rfl)) ?_
  intro W base args ds gs before hval0 hW hcnd hsz0 _
  have hval : ∀ (j : Nat) t v, Try.f17.params[j]? = some t → args[j]? = some v → Value.okWide Try.prog W .any base t v := hval0
  have hW' := hW
  obtain ⟨p, q, hA0, hV, rfl, hfz, hnd⟩ := hW
  have hA : DataW.TrodAll enc Try.prog W 0 (fun _ => true) true Try.f17.params.toList args.toList ds p := hA0
  rw [Try.params17] at hA hval
  obtain ⟨rfl, rfl⟩ := trodVars_none hV
  simp only [List.append_nil] at hW'
  have hlt : ∀ x ∈ p, x.block < W.heap.size := fun x hx => by simpa using hW'.lt x hx
  have hst : ∀ W', Below W.heap.size W W' → DataW.TrodAll enc Try.prog W' 0 (fun b => decide (b < W.heap.size)) true [38, 64] args.toList ds p := fun W' hb => args_stay hb laid_is (by kernel_rfl) hA hlt
  clear hlt hA0 hval0 hsz0 hV
  obtain ⟨v0, vs0, d0, ds0, p0, q0, hargs, rfl, rfl, h0, r0⟩ := trodAll_cons hA
  obtain ⟨v1, vs1, d1, ds1, p1, q1, rfl, rfl, rfl, h1, r1⟩ := trodAll_cons r0
  obtain ⟨rfl, rfl, rfl⟩ := trodAll_nil r1
  obtain rfl : args = #[v0, v1] := by cases args; simp_all
  obtain ⟨m0, t0, x00, x01, x02, x03, x04, x05, x06, rfl, w0⟩ := arg_ty (hval 0 38 v0 rfl rfl) h0
  obtain ⟨A1, l1, c1, rfl, k1, m1, w1⟩ := arg_sets (hval 1 64 v1 rfl rfl) h1
  refine (imageMakes_w m0 t0 x00 x01 x02 x03 x04 x05 x06 A1 l1 c1 W w0 k1 m1 w1).mono fun e W' ⟨he, bel⟩ => ?_
  subst he
  exact ⟨_, rfl, _, _, _, [], _, [], hW', trodAll_mk1 (shut_bool Try.underlying4 _), hst W' bel, rfl, bel.frame _, fun h => by cases h⟩
theorem over : Rows.imageMakesRow.holds Try.pinned (OpenSpec.ofChange Rows.imageMakesSpec) :=
  OpenClaim.holds_of_wide 17 Try.f17 rfl rfl rfl rfl rfl rfl rfl ⟨rfl, rfl, rfl, rfl, rfl⟩ rfl rfl rfl rfl rfl (by kernel_rfl) Try.func17 (joined_of (by kernel_rfl) laid_is rowed_is (by kernel_rfl) (by kernel_rfl) (by kernel_rfl) stops_is (by kernel_rfl) knobs_is (by kernel_rfl) (by kernel_rfl) (by kernel_rfl) (by kernel_rfl) (by kernel_rfl) (by kernel_rfl) (by kernel_rfl) (by kernel_rfl) (by kernel_rfl) (by kernel_rfl) (by kernel_rfl) (by kernel_rfl) (by kernel_rfl) (by kernel_rfl) (by kernel_rfl) heard_is mayEnter_is rfl lifts_is rfl make_is (by kernel_rfl) (by kernel_rfl) (by kernel_rfl) (by kernel_rfl))
    (of_decide_eq_true (by kernel_rfl)) (by unfold Func.isWrapper; first | (rw [if_pos (by decide +kernel)]; kernel_rfl) | (rw [if_neg (by decide +kernel)]; exact ⟨rfl, rfl⟩))
    (fun os started H enc _ => lifted os started H enc)
end Go.Proofs.Ytcggghamnmflcaa.imageMakes
namespace Go.Proofs.Ytcggghamnmflcaa
/-- The row, under a short name, for the claim. -/
theorem imageMakes_holds : Rows.ImageMakesSaid := imageMakes.over
#print axioms imageMakes_holds
end Go.Proofs.Ytcggghamnmflcaa

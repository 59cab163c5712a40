/- The given statement ImageGets: whatever the input, the law returns true, and each argument reads as before. No condition. -/
import Derived.Test.YtcggghamnmflcaaRows
import Derived.Test.YtcggghamnmflcaaIgt
import Derived.Test.YtcggghamnmflcaaAra
import Derived.WalkKit
import Derived.OpenShut
import Derived.ShutString
import Derived.ChangeOld
import Derived.Below
import Derived.SizedLaws
import Derived.Test.YtcggghamnmflcaaFacts
import Derived.WideLaws
import Derived.ChangeAt
import Derived.JoinedOf
import Derived.Handed
import Derived.ChangeShapes
namespace Go.Proofs.Ytcggghamnmflcaa.imageGets
open Go Go.ChangeShapes Go.WideShapes Go.ChangeAt Go.RowKit
theorem own : ownKnob Try.prog.godebug = none := by kernel_rfl
set_option maxRecDepth 100000 in
theorem lifted (os : Os) (started : os.Started) (H : Type) (enc : TypeId × Value → H) :
    ReturnsInHanded {} Try.checked os 19 .any (Rows.imageGetsSpec.pre6 enc Try.prog Try.f19 Rows.imageGetsRow.domain false) (Rows.imageGetsSpec.post enc Try.prog Try.f19 false true false false) := by
  refine returnsInHanded_of_change_sized (C := Try.checked) own started (by kernel_rfl) Try.func19
    (ChangeSpec.witness6 (enc := enc) (C := Try.checked) false ⟨#[], #[.agg #[.int .i64 0, .int .i64 0, .int .i64 0, .slice none 0 0, .slice none 0 0, .bool false, .int .i64 0], .string ⟨#[]⟩, .slice none 0 0, .int .i64 0], []⟩ 8 (by kernel_rfl) (by kernel_rfl) (by kernel_rfl) (by kernel_rfl)) ?_
  intro W base args ds gs before hval0 hW hcnd hsz0 _
  have hval : ∀ (j : Nat) t v, Try.f19.params[j]? = some t → args[j]? = some v → Value.okWide Try.prog W .any base t v := hval0
  have hW' := hW
  obtain ⟨p, q, hA0, hV, rfl, hfz, hnd⟩ := hW
  have hA : DataW.TrodAll enc Try.prog W 0 (fun _ => true) true Try.f19.params.toList args.toList ds p := hA0
  rw [Try.params19] at hA hval
  obtain ⟨rfl, rfl⟩ := trodVars_none hV
  simp only [List.append_nil] at hW'
  have hlt : ∀ x ∈ p, x.block < W.heap.size := fun x hx => by simpa using hW'.lt x hx
  have hst : ∀ W', Below W.heap.size W W' → DataW.TrodAll enc Try.prog W' 0 (fun b => decide (b < W.heap.size)) true [38, 9, 39, 2] args.toList ds p := fun W' hb => args_stay hb laid_is (by kernel_rfl) hA hlt
  clear hlt hA0 hval0 hsz0 hV
  obtain ⟨v0, vs0, d0, ds0, p0, q0, hargs, rfl, rfl, h0, r0⟩ := trodAll_cons hA
  obtain ⟨v1, vs1, d1, ds1, p1, q1, rfl, rfl, rfl, h1, r1⟩ := trodAll_cons r0
  obtain ⟨v2, vs2, d2, ds2, p2, q2, rfl, rfl, rfl, h2, r2⟩ := trodAll_cons r1
  obtain ⟨v3, vs3, d3, ds3, p3, q3, rfl, rfl, rfl, h3, r3⟩ := trodAll_cons r2
  obtain ⟨rfl, rfl, rfl⟩ := trodAll_nil r3
  obtain rfl : args = #[v0, v1, v2, v3] := by cases args; simp_all
  obtain ⟨m0, t0, x00, x01, x02, x03, x04, x05, x06, rfl, w0⟩ := arg_ty (hval 0 38 v0 rfl rfl) h0
  obtain ⟨a1, rfl, w1⟩ := arg_str (hval 1 9 v1 rfl rfl) h1
  obtain ⟨A2, l2, c2, rfl, k2, m2, w2⟩ := arg_ints (hval 2 39 v2 rfl rfl) h2
  obtain ⟨a3, rfl, rfl, rfl, w3⟩ := open_int Try.underlying2 (hval 3 2 v3 rfl rfl) h3
  refine (imageGets_w m0 t0 x00 x01 x02 x03 x04 x05 x06 a1 A2 l2 c2 a3 W w0 w1 k2 m2 w2).mono fun e W' ⟨he, bel⟩ => ?_
  subst he
  exact ⟨_, rfl, _, _, _, [], _, [], hW', trodAll_mk1 (shut_bool Try.underlying4 _), hst W' bel, rfl, bel.frame _, fun h => by cases h⟩
theorem over : Rows.imageGetsRow.holds Try.pinned (OpenSpec.ofChange Rows.imageGetsSpec) :=
  OpenClaim.holds_of_wide 19 Try.f19 rfl rfl rfl rfl rfl rfl rfl ⟨rfl, rfl, rfl, rfl, rfl⟩ rfl rfl rfl rfl rfl (by kernel_rfl) Try.func19 (joined_of (by kernel_rfl) laid_is rowed_is (by kernel_rfl) (by kernel_rfl) (by kernel_rfl) stops_is (by kernel_rfl) knobs_is (by kernel_rfl) (by kernel_rfl) (by kernel_rfl) (by kernel_rfl) (by kernel_rfl) (by kernel_rfl) (by kernel_rfl) (by kernel_rfl) (by kernel_rfl) (by kernel_rfl) (by kernel_rfl) (by kernel_rfl) (by kernel_rfl) (by kernel_rfl) (by kernel_rfl) heard_is mayEnter_is rfl lifts_is rfl make_is (by kernel_rfl) (by kernel_rfl) (by kernel_rfl) (by kernel_rfl))
    (of_decide_eq_true (by kernel_rfl)) (by unfold Func.isWrapper; first | (rw [if_pos (by decide +kernel)]; kernel_rfl) | (rw [if_neg (by decide +kernel)]; exact ⟨rfl, rfl⟩))
    (fun os started H enc _ => lifted os started H enc)
end Go.Proofs.Ytcggghamnmflcaa.imageGets
namespace Go.Proofs.Ytcggghamnmflcaa
/-- The row, under a short name, for the claim. -/
theorem imageGets_holds : Rows.ImageGetsSaid := imageGets.over
#print axioms imageGets_holds
end Go.Proofs.Ytcggghamnmflcaa

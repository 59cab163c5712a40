/- The given statement ClassMore: whatever the input, the law returns true, and each argument reads as before. No condition. -/
import Derived.Test.YtcggghamnmflcaaRows
import Derived.Test.YtcggghamnmflcaaClq
import Derived.Test.YtcggghamnmflcaaArq
import Derived.WalkKit
import Derived.OpenShut
import Derived.ShutString
import Derived.ChangeOld
import Derived.Below
import Derived.SizedLaws
import Derived.Test.YtcggghamnmflcaaFacts
import Derived.WideLaws
import Derived.ChangeAt
import Derived.JoinedOf
import Derived.Handed
import Derived.ChangeShapes
namespace Go.Proofs.Ytcggghamnmflcaa.classMore
open Go Go.ChangeShapes Go.WideShapes Go.ChangeAt Go.RowKit
theorem own : ownKnob Try.prog.godebug = none := by kernel_rfl
set_option maxRecDepth 100000 in
theorem lifted (os : Os) (started : os.Started) (H : Type) (enc : TypeId × Value → H) :
    ReturnsInHanded {} Try.checked os 26 .any (Rows.classMoreSpec.pre6 enc Try.prog Try.f26 Rows.classMoreRow.domain false) (Rows.classMoreSpec.post enc Try.prog Try.f26 false true false false) := by
  refine returnsInHanded_of_change_sized (C := Try.checked) own started (by kernel_rfl) Try.func26
    (ChangeSpec.witness6 (enc := enc) (C := Try.checked) false ⟨#[], #[.slice none 0 0, .agg #[.int .i64 0, .int .i64 0, .int .i64 0, .slice none 0 0, .slice none 0 0, .bool false, .int .i64 0], .agg #[.int .i64 0, .int .i64 0, .int .i64 0, .slice none 0 0, .slice none 0 0, .bool false, .int .i64 0]], []⟩ 8 (by kernel_rfl) (by kernel_rfl) (by kernel_rfl) (by kernel_rfl)) ?_
  intro W base args ds gs before hval0 hW hcnd hsz0 _
  have hval : ∀ (j : Nat) t v, Try.f26.params[j]? = some t → args[j]? = some v → Value.okWide Try.prog W .any base t v := hval0
  have hW' := hW
  obtain ⟨p, q, hA0, hV, rfl, hfz, hnd⟩ := hW
  have hA : DataW.TrodAll enc Try.prog W 0 (fun _ => true) true Try.f26.params.toList args.toList ds p := hA0
  rw [Try.params26] at hA hval
  obtain ⟨rfl, rfl⟩ := trodVars_none hV
  simp only [List.append_nil] at hW'
  have hlt : ∀ x ∈ p, x.block < W.heap.size := fun x hx => by simpa using hW'.lt x hx
  have hst : ∀ W', Below W.heap.size W W' → DataW.TrodAll enc Try.prog W' 0 (fun b => decide (b < W.heap.size)) true [35, 38, 38] args.toList ds p := fun W' hb => args_stay hb laid_is (by kernel_rfl) hA hlt
  clear hlt hA0 hval0 hsz0 hV
  obtain ⟨v0, vs0, d0, ds0, p0, q0, hargs, rfl, rfl, h0, r0⟩ := trodAll_cons hA
  obtain ⟨v1, vs1, d1, ds1, p1, q1, rfl, rfl, rfl, h1, r1⟩ := trodAll_cons r0
  obtain ⟨v2, vs2, d2, ds2, p2, q2, rfl, rfl, rfl, h2, r2⟩ := trodAll_cons r1
  obtain ⟨rfl, rfl, rfl⟩ := trodAll_nil r2
  obtain rfl : args = #[v0, v1, v2] := by cases args; simp_all
  obtain ⟨m0, A0, n0, c0, rfl, k0, q0, g0⟩ := arg_tys (hval 0 35 v0 rfl rfl) h0
  obtain ⟨m1, x10, x11, x12, x13, x14, x15, x16, rfl, g1⟩ := arg_tyD (hval 1 38 v1 rfl rfl) h1
  obtain ⟨m2, x20, x21, x22, x23, x24, x25, x26, rfl, g2⟩ := arg_tyD (hval 2 38 v2 rfl rfl) h2
  obtain ⟨l0, rfl, w0⟩ := g0 (m0 + m1 + m2) (by omega)
  obtain ⟨t1, w1⟩ := g1 (m0 + m1 + m2) (by omega)
  obtain ⟨t2, w2⟩ := g2 (m0 + m1 + m2) (by omega)
  refine (classMore_w (m0 + m1 + m2) A0 l0 c0 t1 x10 x11 x12 x13 x14 x15 x16 t2 x20 x21 x22 x23 x24 x25 x26 W k0 q0 w0 w1 w2).mono fun e W' ⟨he, bel⟩ => ?_
  subst he
  exact ⟨_, rfl, _, _, _, [], _, [], hW', trodAll_mk1 (shut_bool Try.underlying4 _), hst W' bel, rfl, bel.frame _, fun h => by cases h⟩
theorem over : Rows.classMoreRow.holds Try.pinned (OpenSpec.ofChange Rows.classMoreSpec) :=
  OpenClaim.holds_of_wide 26 Try.f26 rfl rfl rfl rfl rfl rfl rfl ⟨rfl, rfl, rfl, rfl, rfl⟩ rfl rfl rfl rfl rfl (by kernel_rfl) Try.func26 (joined_of (by kernel_rfl) laid_is rowed_is (by kernel_rfl) (by kernel_rfl) (by kernel_rfl) stops_is (by kernel_rfl) knobs_is (by kernel_rfl) (by kernel_rfl) (by kernel_rfl) (by kernel_rfl) (by kernel_rfl) (by kernel_rfl) (by kernel_rfl) (by kernel_rfl) (by kernel_rfl) (by kernel_rfl) (by kernel_rfl) (by kernel_rfl) (by kernel_rfl) (by kernel_rfl) (by kernel_rfl) heard_is mayEnter_is rfl lifts_is rfl make_is (by kernel_rfl) (by kernel_rfl) (by kernel_rfl) (by kernel_rfl))
    (of_decide_eq_true (by kernel_rfl)) (by unfold Func.isWrapper; first | (rw [if_pos (by decide +kernel)]; kernel_rfl) | (rw [if_neg (by decide +kernel)]; exact ⟨rfl, rfl⟩))
    (fun os started H enc _ => lifted os started H enc)
end Go.Proofs.Ytcggghamnmflcaa.classMore
namespace Go.Proofs.Ytcggghamnmflcaa
/-- The row, under a short name, for the claim. -/
theorem classMore_holds : Rows.ClassMoreSaid := classMore.over
#print axioms classMore_holds
end Go.Proofs.Ytcggghamnmflcaa

/- Arguments of the laws, opened to plain data; and that they read behind the call as they did before. -/
import Derived.Test.YtcggghamnmflcaaOpn
import Derived.Carry
import Derived.SliceStrings
import Derived.ShutString
import Derived.ChangeSlices
namespace Go.Proofs.Ytcggghamnmflcaa
open Go Go.RowKit Go.WideShapes Go.ChangeShapes
theorem args_stay {H : Type} {enc : TypeId × Value → H} {P : Program} {W W' : World} (hb : Below W.heap.size W W') (hl : laidOutB P = true) : ∀ {ts : List TypeId} {vs : List Value} {ds : List (DataW H)} {ps : List MemPlace},
    ts.all (fun t => P.readableRec t && decide (t < P.types.size)) = true → DataW.TrodAll enc P W 0 (fun _ => true) true ts vs ds ps → (∀ x ∈ ps, x.block < W.heap.size) →
    DataW.TrodAll enc P W' 0 (fun b => decide (b < W.heap.size)) true ts vs ds ps := by
  intro ts
  induction ts with
  | nil =>
    intro vs ds ps _ h _
    cases vs <;> cases ds <;> first | exact h | exact h.elim
  | cons t ts ih =>
    intro vs ds ps hr h hlt
    cases vs with
    | nil => exact h.elim
    | cons v vs =>
      cases ds with
      | nil => exact h.elim
      | cons d ds =>
        obtain ⟨p, q, h1, h2, rfl⟩ := h
        rw [List.all_cons, Bool.and_eq_true, Bool.and_eq_true, decide_eq_true_eq] at hr
        exact ⟨p, q, Below.trod hl hr.1.1 hr.1.2 h1 hb (fun x hx => hlt x (List.mem_append_left _ hx)), ih hr.2 h2 (fun x hx => hlt x (List.mem_append_right _ hx)), rfl⟩
section
variable {H : Type} {enc : TypeId × Value → H} {W : World} {base : Nat} {v : Value} {d : DataW H} {p : List MemPlace}
set_option maxRecDepth 100000 in
theorem arg_ty (hv : Value.okWide Try.prog W .any base 38 v) (h : DataW.Trod enc Try.prog W 0 (fun _ => true) true 38 v d p) :
    ∃ (n : Nat) (t : Tp n) (v0 v1 v2 v3 v4 v5 v6 : Value), v = .agg #[v0, v1, v2, v3, v4, v5, v6] ∧ TyAt W n t [v0, v1, v2, v3, v4, v5, v6] := by
  obtain ⟨cs, rfl, hs⟩ := okWide_struct Try.underlying38 hv
  obtain ⟨fuel, hf⟩ := h
  rw [cells38] at hs
  obtain ⟨cs⟩ := cs
  match cs, hs with
  | [v0, v1, v2, v3, v4, v5, v6], _ =>
    obtain ⟨t, ht⟩ := open_ty fuel fuel _ _ (Nat.le_refl _) hf
    exact ⟨fuel, t, v0, v1, v2, v3, v4, v5, v6, rfl, ht⟩
set_option maxRecDepth 100000 in
theorem arg_strs (hv : Value.okWide Try.prog W .any base 50 v) (h : DataW.Trod enc Try.prog W 0 (fun _ => true) true 50 v d p) :
    ∃ (A : Option Addr) (l : List ByteArray) (c : Nat), v = .slice A l.length c ∧ l.length ≤ c ∧ c ≤ 9223372036854775807 ∧ ∀ (i : Nat) s, l[i]? = some s → ∃ b o, A = some ⟨b, o, none⟩ ∧ W.cell? ⟨b, o + i, none⟩ = some (.string s) := by
  obtain ⟨a0, len, cap, rfl⟩ := okWide_slice Try.underlying50 hv
  obtain ⟨fuel, hf⟩ := h
  rcases open_strings Try.underlying50 Try.underlying9 cells9 hf with ⟨hcs, hx⟩ | ⟨a, len', cap', ss, hcs, _, hl, hm, hz, hx, hcell, hws⟩
  · simp [Value.cells] at hcs
    obtain ⟨rfl, rfl, rfl⟩ := hcs
    exact ⟨none, [], 0, rfl, Nat.le_refl _, by omega, fun i s hs => by simp at hs⟩
  · simp [Value.cells] at hcs
    obtain ⟨rfl, rfl, rfl⟩ := hcs
    simp only [if_true] at hz
    refine ⟨some a, ss.take len, cap, by simp [List.length_take]; omega, by simp; omega, by simpa [maxLen] using hm, fun i s hs => ?_⟩
    obtain ⟨hi, rfl⟩ := List.getElem?_eq_some_iff.1 hs
    simp only [List.length_take] at hi
    have hsp : a.spot = none := by
      have := spot_of_cell (hcell 0 (by omega))
      simpa [Addr.add] using this
    refine ⟨a.block, a.off, congrArg some (addr_is a hsp), ?_⟩
    have := hcell i (by omega)
    rw [add_off _ hsp] at this
    rw [this, List.getElem_take, List.getD_eq_getElem?_getD, List.getElem?_eq_getElem (by omega)]
    rfl
end
end Go.Proofs.Ytcggghamnmflcaa

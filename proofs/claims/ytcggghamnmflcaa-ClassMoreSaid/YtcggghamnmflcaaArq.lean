/- Arguments that are types and slices of types, opened at whatever depth is great enough. -/
import Derived.Test.YtcggghamnmflcaaArg
import Derived.Test.YtcggghamnmflcaaSsa
namespace Go.Proofs.Ytcggghamnmflcaa
open Go Go.RowKit Go.WideShapes Go.ChangeShapes
section
variable {H : Type} {enc : TypeId × Value → H} {W : World} {base : Nat} {v : Value} {d : DataW H} {p : List MemPlace}
set_option maxRecDepth 100000 in
theorem arg_tyD (hv : Value.okWide Try.prog W .any base 38 v) (h : DataW.Trod enc Try.prog W 0 (fun _ => true) true 38 v d p) :
    ∃ (n : Nat) (v0 v1 v2 v3 v4 v5 v6 : Value), v = .agg #[v0, v1, v2, v3, v4, v5, v6] ∧ ∀ m, n ≤ m → ∃ t : Tp m, TyAt W m t [v0, v1, v2, v3, v4, v5, v6] := by
  obtain ⟨cs, rfl, hs⟩ := okWide_struct Try.underlying38 hv
  obtain ⟨fuel, hf⟩ := h
  rw [cells38] at hs
  obtain ⟨cs⟩ := cs
  match cs, hs with
  | [v0, v1, v2, v3, v4, v5, v6], _ => exact ⟨fuel, v0, v1, v2, v3, v4, v5, v6, rfl, fun m hm => open_ty m fuel _ _ hm hf⟩
set_option maxRecDepth 100000 in
theorem arg_tys (hv : Value.okWide Try.prog W .any base 35 v) (h : DataW.Trod enc Try.prog W 0 (fun _ => true) true 35 v d p) :
    ∃ (n : Nat) (A : Option Addr) (len c : Nat), v = .slice A len c ∧ len ≤ c ∧ c ≤ 9223372036854775807 ∧ ∀ m, n ≤ m → ∃ l : List (Tp m), l.length = len ∧ TysAt W m A l := by
  obtain ⟨a0, len0, cap0, rfl⟩ := okWide_slice Try.underlying35 hv
  obtain ⟨fuel, hf⟩ := h
  rcases DataW.trod_slice Try.underlying35 hf with ⟨h0, -⟩ | ⟨a, len, cap, elems, rest, m, hm, h0, -, hb, hle, hcap, hlen, hel, -, -⟩
  · simp [Value.cells] at h0
    obtain ⟨rfl, rfl, rfl⟩ := h0
    exact ⟨0, none, 0, 0, rfl, Nat.le_refl _, by omega, fun m _ => ⟨[], rfl, fun i x hx => by simp at hx⟩⟩
  · simp [Value.cells] at h0
    obtain ⟨rfl, rfl, rfl⟩ := h0
    have hsp : 0 < len0 → a.spot = none := fun h0 => by
      have h1 := hel 0 h0
      rw [cells38] at h1
      obtain ⟨ei, he⟩ : ∃ ei, elems[0]? = some ei := ⟨_, List.getElem?_eq_getElem (by omega)⟩
      rw [he, Option.bind_eq_some_iff] at h1
      obtain ⟨cs', hc, _⟩ := h1
      exact spot_at (by omega) hc
    refine ⟨fuel, some a, len0, cap0, rfl, hle, by simpa [maxLen] using hcap, fun k hk => ?_⟩
    have key : ∀ i, i < len0 → ∃ x : Tp k, ∃ xs, xs.length = 7 ∧ Row W a.block (a.off + i * 7) xs ∧ TyAt W k x xs := by
      intro i hi
      have h1 := hel i hi
      rw [cells38] at h1
      obtain ⟨ei, he⟩ : ∃ ei, elems[i]? = some ei := ⟨_, List.getElem?_eq_getElem (by omega)⟩
      rw [he, Option.bind_eq_some_iff] at h1
      obtain ⟨cs', hc, ht⟩ := h1
      obtain ⟨hl', hr⟩ := row_at (hsp (by omega)) hc
      obtain ⟨t, htt⟩ := open_ty k m cs' ei (by omega) ht
      exact ⟨t, cs', hl', hr, htt⟩
    obtain ⟨l, hl, hp⟩ := list_choose _ len0 key
    subst hl
    refine ⟨l, rfl, fun i x hx => ?_⟩
    obtain ⟨xs, q1, q2, q3⟩ := hp i x hx
    have hlt := (List.getElem?_eq_some_iff.1 hx).1
    exact ⟨a.block, a.off, xs, congrArg some (addr_is a (hsp (by omega))), q1, q2, q3⟩
end
end Go.Proofs.Ytcggghamnmflcaa

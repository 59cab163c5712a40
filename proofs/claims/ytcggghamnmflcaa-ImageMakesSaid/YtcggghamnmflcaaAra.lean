/- Arguments of the image laws, opened to plain data: strings, paths, sets. -/
import Derived.Test.YtcggghamnmflcaaArg
import Derived.Test.YtcggghamnmflcaaGi
import Derived.ChangeMaps5
namespace Go.Proofs.Ytcggghamnmflcaa
open Go Go.RowKit Go.WideShapes Go.ChangeShapes
section
variable {H : Type} {enc : TypeId × Value → H} {W : World} {base : Nat} {v : Value} {d : DataW H} {p : List MemPlace}
theorem cells77 : Try.prog.cellsOf 77 = 2 := by kernel_rfl
theorem cells64 : Try.prog.cellsOf 64 = 1 := by kernel_rfl
theorem cells39 : Try.prog.cellsOf 39 = 1 := by kernel_rfl
set_option maxRecDepth 100000 in
theorem arg_str (hv : Value.okWide Try.prog W .any base 9 v) (h : DataW.Trod enc Try.prog W 0 (fun _ => true) true 9 v d p) :
    ∃ s : ByteArray, v = .string s ∧ s.size ≤ 9223372036854775807 := by
  obtain ⟨s, rfl, -, -, hs⟩ := Go.ChangeMaps.open_string Try.underlying9 hv h
  exact ⟨s, rfl, by simpa [maxLen] using hs⟩
set_option maxRecDepth 100000 in
/-- A slice of numbers, out of the cells that were trod. -/
theorem ints_of {fuel : Nat} {A : Option Addr} {n c : Nat} {x : DataW H × List MemPlace} (hf : DataW.trod enc Try.prog W 0 (fun _ => true) true fuel 39 [.slice A n c] = some x) :
    ∃ l : List Int, n = l.length ∧ l.length ≤ c ∧ c ≤ 9223372036854775807 ∧ IntsAt W A l.length l := by
  rcases open_ints Try.underlying39 Try.underlying3 cells3 hf with ⟨hcs, -⟩ | ⟨a, len, cap, zs, hcs, -, hl, hm, hz, -, hcell, -⟩
  · simp at hcs
    obtain ⟨rfl, rfl, rfl⟩ := hcs
    exact ⟨[], rfl, Nat.le_refl _, by omega, rfl, fun i s hs => by simp at hs⟩
  · simp at hcs
    obtain ⟨rfl, rfl, rfl⟩ := hcs
    simp only [if_true] at hz
    refine ⟨zs.take n, by simp [List.length_take]; omega, by simp; omega, by simpa [maxLen] using hm, rfl, fun i s hs => ?_⟩
    obtain ⟨hi, rfl⟩ := List.getElem?_eq_some_iff.1 hs
    simp only [List.length_take] at hi
    have hsp : a.spot = none := by
      have := spot_of_cell (hcell 0 (by omega))
      simpa [Addr.add] using this
    refine ⟨a.block, a.off, congrArg some (addr_is a hsp), ?_⟩
    have := hcell i (by omega)
    rw [add_off _ hsp] at this
    rw [this, List.getElem_take, List.getD_eq_getElem?_getD, List.getElem?_eq_getElem (by omega)]
    rfl
set_option maxRecDepth 100000 in
theorem arg_ints (hv : Value.okWide Try.prog W .any base 39 v) (h : DataW.Trod enc Try.prog W 0 (fun _ => true) true 39 v d p) :
    ∃ (A : Option Addr) (l : List Int) (c : Nat), v = .slice A l.length c ∧ l.length ≤ c ∧ c ≤ 9223372036854775807 ∧ IntsAt W A l.length l := by
  obtain ⟨a0, len, cap, rfl⟩ := okWide_slice Try.underlying39 hv
  obtain ⟨fuel, hf⟩ := h
  obtain ⟨l, rfl, h1, h2, h3⟩ := ints_of hf
  exact ⟨a0, l, cap, rfl, h1, h2, h3⟩
set_option maxRecDepth 100000 in
theorem arg_sets (hv : Value.okWide Try.prog W .any base 64 v) (h : DataW.Trod enc Try.prog W 0 (fun _ => true) true 64 v d p) :
    ∃ (A : Option Addr) (l : List (List Int × Int)) (c : Nat), v = .slice A l.length c ∧ l.length ≤ c ∧ c ≤ 9223372036854775807 ∧ (SetsAt W A l.length l ∧ ∀ x ∈ l, I64 x.2) := by
  obtain ⟨a0, len0, cap0, rfl⟩ := okWide_slice Try.underlying64 hv
  obtain ⟨fuel, hf⟩ := h
  rcases DataW.trod_slice Try.underlying64 hf with ⟨h0, -⟩ | ⟨a, len, cap, elems, rest, m, hm, h0, -, hb, hle, hcap, hlen, hel, -, -⟩
  · simp [Value.cells] at h0
    obtain ⟨rfl, rfl, rfl⟩ := h0
    exact ⟨none, [], 0, rfl, Nat.le_refl _, by omega, ⟨rfl, fun i x hx => by simp at hx⟩, fun x hx => by cases hx⟩
  · simp [Value.cells] at h0
    obtain ⟨rfl, rfl, rfl⟩ := h0
    have hsp : 0 < len0 → a.spot = none := fun h0 => by
      have h1 := hel 0 h0
      rw [cells77] at h1
      obtain ⟨ei, he⟩ : ∃ ei, elems[0]? = some ei := ⟨_, List.getElem?_eq_getElem (by omega)⟩
      rw [he, Option.bind_eq_some_iff] at h1
      obtain ⟨cs', hc, _⟩ := h1
      exact spot_at (by omega) hc
    have key : ∀ i, i < len0 → ∃ x : List Int × Int, I64 x.2 ∧ ∃ A' c, W.cell? ⟨a.block, a.off + i * 2, none⟩ = some (.slice A' x.1.length c) ∧ W.cell? ⟨a.block, a.off + i * 2 + 1, none⟩ = some (.int .i64 x.2) ∧ IntsAt W A' x.1.length x.1 ∧ x.1.length ≤ c ∧ c ≤ 9223372036854775807 := by
      intro i hi
      have h1 := hel i hi
      rw [cells77] at h1
      obtain ⟨ei, he⟩ : ∃ ei, elems[i]? = some ei := ⟨_, List.getElem?_eq_getElem (by omega)⟩
      rw [he, Option.bind_eq_some_iff] at h1
      obtain ⟨cs', hc, ht⟩ := h1
      obtain ⟨hl', hr⟩ := row_at (hsp (by omega)) hc
      obtain ⟨ys, n', hn', -, -, hyl, hg⟩ := DataW.trod_struct Try.underlying77 ht
      match cs', hl' with
      | [u0, u1], _ =>
        have hyl' : ys.length = 2 := hyl
        match ys, hyl' with
        | [w0, w1], _ =>
          have g0 := hg 0 _ rfl
          have g1 := hg 1 _ rfl
          have c0 := hr 0 u0 rfl
          have c1 := hr 1 u1 rfl
          obtain ⟨z, e2, -, bz⟩ := DataW.trod_int Try.underlying2 g1
          injection e2 with e2 _
          subst e2
          obtain ⟨A', n, c, rfl⟩ : ∃ A' n c, u0 = .slice A' n c := by
            rcases DataW.trod_slice Try.underlying39 g0 with ⟨h0, -⟩ | ⟨a, len, cap, elems, rest, m, hm, h0, -⟩
            · injection h0 with h0 _; exact ⟨_, _, _, h0⟩
            · injection h0 with h0 _; exact ⟨_, _, _, h0⟩
          obtain ⟨l, rfl, h1, h2, h3⟩ := ints_of g0
          exact ⟨(l, z), bounds_i64 bz, A', c, by simpa using c0, c1, h3, h1, h2⟩
    obtain ⟨l, hl, hp⟩ := list_choose _ len0 key
    subst hl
    refine ⟨some a, l, cap0, rfl, hle, by simpa [maxLen] using hcap, ⟨rfl, fun i x hx => ?_⟩, fun x hx => ?_⟩
    · obtain ⟨-, A', c, q1, q2, q3, q4, q5⟩ := hp i x hx
      have hlt := (List.getElem?_eq_some_iff.1 hx).1
      exact ⟨a.block, a.off, A', c, congrArg some (addr_is a (hsp (by omega))), q1, q2, q3, q4, q5⟩
    · obtain ⟨i, hi⟩ := List.getElem?_of_mem hx
      exact (hp i x hi).1
end
end Go.Proofs.Ytcggghamnmflcaa

/- A type that is handed in, read out of memory as plain data. -/
import Derived.Test.YtcggghamnmflcaaGa
import Derived.ChangeArms
import Derived.ChangeShapes
import Derived.WideShapes
import Derived.Deep.Slices
import Derived.Deep.Fields
import Derived.OpenShut
namespace Go.Proofs.Ytcggghamnmflcaa
open Go Go.RowKit Go.WideShapes Go.ChangeShapes

theorem list_choose {α : Type} (P : Nat → α → Prop) : ∀ n : Nat, (∀ i, i < n → ∃ x, P i x) → ∃ l : List α, l.length = n ∧ ∀ i x, l[i]? = some x → P i x
  | 0, _ => ⟨[], rfl, fun i x h => by simp at h⟩
  | n + 1, h => by
    obtain ⟨l, hl, hp⟩ := list_choose P n (fun i hi => h i (by omega))
    obtain ⟨x, hx⟩ := h n (by omega)
    refine ⟨l ++ [x], by simp [hl], fun i y hy => ?_⟩
    rw [List.getElem?_append] at hy
    split at hy
    · exact hp i y hy
    · rename_i hge
      have : i = n := by
        rcases Nat.lt_or_ge (i - l.length) 1 with h1 | h1
        · omega
        · rw [List.getElem?_eq_none (by simpa using h1)] at hy; cases hy
      subst this
      rw [hl, Nat.sub_self] at hy
      simp at hy
      subst hy
      exact hx

theorem row_of_cells {w : World} {base : Nat} {a : Addr} {n : Nat} {cs : List Value} (h : w.cells? base a n = some cs) : cs.length = n ∧ ∀ j v, cs[j]? = some v → w.cell? (a.add j) = some v := by
  obtain ⟨_, hl, hat⟩ := World.cells?_some h
  refine ⟨hl, fun j v hv => ?_⟩
  have hj : j < cs.length := by
    rcases Nat.lt_or_ge j cs.length with h | h
    · exact h
    · rw [List.getElem?_eq_none h] at hv; cases hv
  rw [hat j (by omega)]
  exact hv

theorem spot_of_cell {w : World} {a : Addr} {v : Value} (h : w.cell? a = some v) : a.spot = none := by
  unfold World.cell? at h
  split at h
  · split at h
    · cases h
    · rename_i hs
      cases hsp : a.spot with
      | none => rfl
      | some _ => rw [hsp] at hs; exact absurd rfl hs
  · cases h
theorem add_off (a : Addr) (h : a.spot = none) (n : Nat) : a.add n = ⟨a.block, a.off + n, none⟩ := by
  unfold Addr.add
  split
  · rename_i h0
    obtain ⟨b, o, s⟩ := a
    simp at h h0 ⊢
    simp [h, h0]
  · rfl
theorem spot_at {w : World} {base : Nat} {a : Addr} {n : Nat} {cs : List Value} (hn : 0 < n) (h : w.cells? base (a.add (0 * n)) n = some cs) : a.spot = none := by
  obtain ⟨hl, hc⟩ := row_of_cells h
  have h0 := hc 0 _ (List.getElem?_eq_getElem (by omega))
  simp at h0
  exact spot_of_cell h0
/-- The cells of an element, at its block and place. -/
theorem row_at {w : World} {base : Nat} {a : Addr} {n k : Nat} {cs : List Value} (hs : a.spot = none) (h : w.cells? base (a.add k) n = some cs) : cs.length = n ∧ Row w a.block (a.off + k) cs := by
  obtain ⟨hl, hc⟩ := row_of_cells h
  refine ⟨hl, fun j v hv => ?_⟩
  have := hc j v hv
  rw [add_off _ hs, add_off _ rfl] at this
  exact this
theorem addr_is (a : Addr) (h : a.spot = none) : a = ⟨a.block, a.off, none⟩ := by
  obtain ⟨b, o, s⟩ := a
  simp at h
  rw [h]
section
variable {H : Type} {enc : TypeId × Value → H} {w : World} {base : Nat} {spare : Nat → Bool} {held : Bool}

theorem cells38 : Try.prog.cellsOf 38 = 7 := by kernel_rfl
theorem cells56 : Try.prog.cellsOf 56 = 9 := by kernel_rfl
theorem cells35 : Try.prog.cellsOf 35 = 1 := by kernel_rfl
theorem cells36 : Try.prog.cellsOf 36 = 1 := by kernel_rfl
theorem cells2 : Try.prog.cellsOf 2 = 1 := by kernel_rfl
theorem cells3 : Try.prog.cellsOf 3 = 1 := by kernel_rfl
theorem cells4 : Try.prog.cellsOf 4 = 1 := by kernel_rfl
theorem cells9 : Try.prog.cellsOf 9 = 1 := by kernel_rfl

set_option maxRecDepth 100000 in
theorem open_ty : ∀ (d fuel : Nat) (cs : List Value) (x : DataW H × List MemPlace), fuel ≤ d → DataW.trod enc Try.prog w base spare held fuel 38 cs = some x → ∃ t : Tp d, TyAt w d t cs := by
  intro d
  induction d using Nat.strongRecOn with
  | _ d ih =>
    intro fuel cs x hd h
    obtain ⟨xs, n, rfl, -, hl, hxl, hf⟩ := DataW.trod_struct Try.underlying38 h
    obtain ⟨d, rfl⟩ : ∃ m, d = m + 1 := ⟨d - 1, by omega⟩
    rw [cells38] at hl
    match cs, hl with
    | [v0, v1, v2, v3, v4, v5, v6], _ =>
      have hxl' : xs.length = 7 := hxl
      match xs, hxl' with
      | [y0, y1, y2, y3, y4, y5, y6], _ =>
        have f0 := hf 0 _ rfl
        have f1 := hf 1 _ rfl
        have f2 := hf 2 _ rfl
        have f3 := hf 3 _ rfl
        have f4 := hf 4 _ rfl
        have f5 := hf 5 _ rfl
        have f6 := hf 6 _ rfl
        obtain ⟨z0, e0, -, b0⟩ := DataW.trod_int Try.underlying3 f0
        obtain ⟨z1, e1, -, b1⟩ := DataW.trod_int Try.underlying3 f1
        obtain ⟨z2, e2, -, b2⟩ := DataW.trod_int Try.underlying2 f2
        obtain ⟨z5, e5, -⟩ := DataW.trod_bool Try.underlying4 f5
        obtain ⟨z6, e6, -, b6⟩ := DataW.trod_int Try.underlying2 f6
        injection e0 with e0 _; injection e1 with e1 _; injection e2 with e2 _; injection e5 with e5 _; injection e6 with e6 _
        subst e0 e1 e2 e5 e6
        have S1 : ∃ (A : Option Addr) (c : Nat) (l : List (Tp d)), v3 = .slice A l.length c ∧ l.length ≤ c ∧ c ≤ 9223372036854775807 ∧ ∀ i x, l[i]? = some x → ∃ b o xs, A = some ⟨b, o, none⟩ ∧ xs.length = 7 ∧ Row w b (o + i * 7) xs ∧ TyAt w d x xs := by
          rcases DataW.trod_slice Try.underlying35 f3 with ⟨h0, -⟩ | ⟨a, len, cap, elems, rest, m, hm, h0, -, hb, hle, hcap, hlen, hel, -, -⟩
          · injection h0 with h0 _
            exact ⟨none, 0, [], h0, Nat.le_refl _, by omega, fun i x hx => by simp at hx⟩
          · injection h0 with h0 _
            subst h0
            have hsp : 0 < len → a.spot = none := fun h0 => by
              have h1 := hel 0 h0
              rw [cells38] at h1
              obtain ⟨ei, he⟩ : ∃ ei, elems[0]? = some ei := ⟨_, List.getElem?_eq_getElem (by omega)⟩
              rw [he, Option.bind_eq_some_iff] at h1
              obtain ⟨cs', hc, _⟩ := h1
              exact spot_at (by omega) hc
            have key : ∀ i, i < len → ∃ x : Tp d, ∃ xs, xs.length = 7 ∧ Row w a.block (a.off + i * 7) xs ∧ TyAt w d x xs := by
              intro i hi
              have h1 := hel i hi
              rw [cells38] at h1
              obtain ⟨ei, he⟩ : ∃ ei, elems[i]? = some ei := ⟨_, List.getElem?_eq_getElem (by omega)⟩
              rw [he, Option.bind_eq_some_iff] at h1
              obtain ⟨cs', hc, ht⟩ := h1
              obtain ⟨hl', hr⟩ := row_at (hsp (by omega)) hc
              obtain ⟨t, htt⟩ := ih d (by omega) m cs' ei (by omega) ht
              exact ⟨t, cs', hl', hr, htt⟩
            obtain ⟨l, hl, hp⟩ := list_choose _ len key
            subst hl
            refine ⟨some a, cap, l, rfl, hle, by simpa [maxLen] using hcap, fun i x hx => ?_⟩
            obtain ⟨xs, q1, q2, q3⟩ := hp i x hx
            have hlt := (List.getElem?_eq_some_iff.1 hx).1
            exact ⟨a.block, a.off, xs, congrArg some (addr_is a (hsp (by omega))), q1, q2, q3⟩
        have S2 : ∃ (A : Option Addr) (c : Nat) (l : List (Fld (Tp d))), v4 = .slice A l.length c ∧ l.length ≤ c ∧ c ≤ 9223372036854775807 ∧ ∀ i f, l[i]? = some f → ∃ b o xs, A = some ⟨b, o, none⟩ ∧ xs.length = 7 ∧ I64 f.bits ∧ f.nm.size ≤ 9223372036854775807 ∧ Row w b (o + i * 9) ([.string f.nm] ++ xs ++ [.int .i64 f.bits]) ∧ TyAt w d f.t xs := by
          rcases DataW.trod_slice Try.underlying36 f4 with ⟨h0, -⟩ | ⟨a, len, cap, elems, rest, m, hm, h0, -, hb, hle, hcap, hlen, hel, -, -⟩
          · injection h0 with h0 _
            exact ⟨none, 0, [], h0, Nat.le_refl _, by omega, fun i x hx => by simp at hx⟩
          · injection h0 with h0 _
            subst h0
            have hsp : 0 < len → a.spot = none := fun h0 => by
              have h1 := hel 0 h0
              rw [cells56] at h1
              obtain ⟨ei, he⟩ : ∃ ei, elems[0]? = some ei := ⟨_, List.getElem?_eq_getElem (by omega)⟩
              rw [he, Option.bind_eq_some_iff] at h1
              obtain ⟨cs', hc, _⟩ := h1
              exact spot_at (by omega) hc
            have key : ∀ i, i < len → ∃ x : Fld (Tp d), ∃ xs, xs.length = 7 ∧ I64 x.bits ∧ x.nm.size ≤ 9223372036854775807 ∧ Row w a.block (a.off + i * 9) ([.string x.nm] ++ xs ++ [.int .i64 x.bits]) ∧ TyAt w d x.t xs := by
              intro i hi
              have h1 := hel i hi
              rw [cells56] at h1
              obtain ⟨ei, he⟩ : ∃ ei, elems[i]? = some ei := ⟨_, List.getElem?_eq_getElem (by omega)⟩
              rw [he, Option.bind_eq_some_iff] at h1
              obtain ⟨cs', hc, ht⟩ := h1
              obtain ⟨hl', hr⟩ := row_at (hsp (by omega)) hc
              obtain ⟨ys, n', hn', -, -, hyl, hg⟩ := DataW.trod_struct Try.underlying56 ht
              match cs', hl' with
              | [u0, u1, u2, u3, u4, u5, u6, u7, u8], _ =>
                have hyl' : ys.length = 3 := hyl
                match ys, hyl' with
                | [w0, w1, w2], _ =>
                  have g0 := hg 0 _ rfl
                  have g1 := hg 1 _ rfl
                  have g2 := hg 2 _ rfl
                  obtain ⟨s, e0, -, hs⟩ := DataW.trod_string Try.underlying9 g0
                  obtain ⟨z, e2, -, bz⟩ := DataW.trod_int Try.underlying3 g2
                  injection e0 with e0 _; injection e2 with e2 _
                  subst e0 e2
                  obtain ⟨t, htt⟩ := ih d (by omega) n' _ w1 (by omega) g1
                  exact ⟨⟨s, t, z⟩, _, rfl, bounds_i64 bz, by simpa [maxLen] using hs, hr, htt⟩
            obtain ⟨l, hl, hp⟩ := list_choose _ len key
            subst hl
            refine ⟨some a, cap, l, rfl, hle, by simpa [maxLen] using hcap, fun i f hx => ?_⟩
            obtain ⟨xs, q⟩ := hp i f hx
            have hlt := (List.getElem?_eq_some_iff.1 hx).1
            exact ⟨a.block, a.off, xs, congrArg some (addr_is a (hsp (by omega))), q⟩
        obtain ⟨A1, c1, l1, rfl, p1, p2, p3⟩ := S1
        obtain ⟨A2, c2, l2, rfl, q1, q2, q3⟩ := S2
        exact ⟨(⟨z0, z1, z2, l1, l2, z5, z6⟩ : Nd (Tp d)), A1, A2, c1, c2, rfl, bounds_i64 b0, bounds_i64 b1, bounds_i64 b2, bounds_i64 b6, p1, q1, p2, q2, p3, q3⟩
end
end Go.Proofs.Ytcggghamnmflcaa

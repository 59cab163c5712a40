/- From the row's condition on the listed variable to its cells; a world that meets the condition. -/
import Derived.Test.YtcggghamnmflcaaDoorRows
import Derived.Test.YtcggghamnmflcaaDoorKlw
import Derived.Lib.LaidTab
import Derived.LaidLaws
import Derived.FnData
import Derived.MakeChecks
import Derived.Handed
namespace Go.Proofs.YtcggghamnmflcaaDoor
open Go

/-- An array of strings that reads as these texts holds them, cell for cell. -/
theorem cells_of_strs {H : Type} {enc : TypeId × Value → H} {P : Program} {w : World} {base : Nat} {sp : Nat → Bool} {held : Bool} {fuel : Nat} {t e : TypeId} {n : Nat} {cs : List Value} {zs : List (List UInt8)} {p : List MemPlace}
    (ht : P.underlying t = some (.array n e)) (he : P.underlying e = some .string) (hce : P.cellsOf e = 1) (hct : P.cellsOf t = n)
    (h : DataW.trod enc P w base sp held fuel t cs = some (.agg (zs.map fun z => .lit (.string z)), p)) : cs = zs.map fun z => Value.string ⟨z.toArray⟩ := by
  cases fuel with
  | zero => simp [DataW.trod] at h
  | succ fuel =>
    simp only [DataW.trod, ht, hce, hct, Nat.mul_one] at h
    split at h
    · rename_i hl
      obtain ⟨xs, hm, hx⟩ := Option.map_eq_some_iff.1 h
      have hxs : xs.map (·.1) = zs.map fun z => (DataW.lit (.string z) : DataW H) := by
        have := congrArg Prod.fst hx
        simpa using this
      have hxl : xs.length = n := by simpa using Lib.mapM_length hm
      have hzl : zs.length = n := by
        have := congrArg List.length hxs
        simp at this
        omega
      apply List.ext_getElem?
      intro i
      by_cases hi : i < n
      · obtain ⟨b, hb, hf⟩ := Lib.mapM_at hm i i (by simp [hi])
        obtain ⟨s, hc, rfl, _⟩ := DataW.trod_string he hf
        have h1 : cs[i]? = some (.string s) := by
          have := congrArg (·[0]?) hc
          simpa [List.getElem?_take, List.getElem?_drop] using this
        have h2 : (xs.map (·.1))[i]? = some (DataW.lit (.string s.data.toList) : DataW H) := by simp [hb]
        rw [hxs] at h2
        simp only [List.getElem?_map, Option.map_eq_some_iff, DataW.lit.injEq, Lit.string.injEq] at h2
        obtain ⟨z', hz', rfl⟩ := h2
        rw [List.getElem?_map, hz', h1]
        simp
      · rw [List.getElem?_eq_none (by omega), List.getElem?_eq_none (by simp; omega)]
    · cases h

def nameBytes : List (List UInt8) := [[118, 111, 105, 100], [99, 104, 97, 114], [117, 110, 115, 105, 103, 110, 101, 100, 32, 99, 104, 97, 114], [115, 104, 111, 114, 116], [117, 110, 115, 105, 103, 110, 101, 100, 32, 115, 104, 111, 114, 116], [105, 110, 116], [117, 110, 115, 105, 103, 110, 101, 100, 32, 105, 110, 116], [108, 111, 110, 103], [117, 110, 115, 105, 103, 110, 101, 100, 32, 108, 111, 110, 103]]
theorem named0 : Tryd.prog.globalNamed "burin/kind.names" = some 0 := by kernel_rfl
theorem named0t : (Tryd.prog.globals[0]?).map (·.type) = some 35 := by kernel_rfl
theorem cells9 : Tryd.prog.cellsOf 9 = 1 := by kernel_rfl
theorem cells35 : Tryd.prog.cellsOf 35 = 9 := by kernel_rfl

theorem names_of_laid {W : World} (h : laidMet Tryd.prog [("burin/kind.names", Rows.laid_burin_kind_names)] W) : NamesAt W := by
  obtain ⟨ps, ⟨g', t', cs, fuel, p, q, hg', ht', hvar, hd, _, _⟩, _⟩ := h
  obtain rfl := Option.some.inj (named0.symm.trans hg')
  obtain rfl := Option.some.inj (named0t.symm.trans ht')
  have hd' : DataW.trod (fun _ => ()) Tryd.prog W 0 (fun _ => true) false fuel 35 cs.toList = some (.agg (nameBytes.map fun z => .lit (.string z)), p) := hd
  have hc := cells_of_strs Tryd.underlying35 Tryd.underlying9 cells9 cells35 hd'
  have he : ∀ i, W.cell? ⟨0, i, none⟩ = (nameBytes.map fun z => Value.string ⟨z.toArray⟩)[i]? := fun i => by
    rw [World.var?_cell named0 hvar i, ← hc]; simp
  exact ⟨he 0, he 1, he 2, he 3, he 4, he 5, he 6, he 7, he 8⟩

/-- A world that meets the condition. -/
noncomputable def laidWorld (os : Os) : World :=
  let w0 := World.holding Tryd.prog os ⟨#[], #[], []⟩
  { w0 with heap := w0.heap.modify 0 fun
      | .cells _ t frozen => .cells #[.string ⟨#[118, 111, 105, 100]⟩, .string ⟨#[99, 104, 97, 114]⟩, .string ⟨#[117, 110, 115, 105, 103, 110, 101, 100, 32, 99, 104, 97, 114]⟩, .string ⟨#[115, 104, 111, 114, 116]⟩, .string ⟨#[117, 110, 115, 105, 103, 110, 101, 100, 32, 115, 104, 111, 114, 116]⟩, .string ⟨#[105, 110, 116]⟩, .string ⟨#[117, 110, 115, 105, 103, 110, 101, 100, 32, 105, 110, 116]⟩, .string ⟨#[108, 111, 110, 103]⟩, .string ⟨#[117, 110, 115, 105, 103, 110, 101, 100, 32, 108, 111, 110, 103]⟩] t frozen
      | o => o }
theorem laidWorld_met (os : Os) (args : Array Value) : laidMet Tryd.prog [("burin/kind.names", Rows.laid_burin_kind_names)] ((laidWorld os).forCall (fun _ _ => 0) ⟨#[], args, []⟩).memory :=
  laidMet_of_run' 8 (by kernel_rfl) (by kernel_rfl)
end Go.Proofs.YtcggghamnmflcaaDoor

/-
  DERIVED. GIVEN WITH THE SEED: THE CARDS: each row of YtcggghamnmflcaaDoorRows.lean that lists a variable, with what it lists TIED to the program's text (the seventh form; the later family's looks); each row that meets fmt, with fmt's text TOLD by the authors' own Lean function (tested against real Go, not proved from fmt's source: count such statements apart). THE CARD IS WHAT COUNTS. Prove the row's statement (the work); the ties are given (YtcggghamnmflcaaDoorTie.lean); close each card by the builder's one call (the guide's Derived/Test/ToyasCard.lean, 'card_holds'). Laid BY PROGRAM, IN A SANDBOX (cutbox-door.mjs). By AI agents, Wed Nov 11 2026. No macro, syntax, notation, axiom, sorry.
-/
import Derived.Test.YtcggghamnmflcaaDoorRows
import GoSem.ClaimSeven
namespace Go.Proofs.YtcggghamnmflcaaDoor
namespace Rows

/-- THE TIED CARD OF 'burinlaw08.KindTells'. -/
def kindTellsCard : Claim7 := { stood := { row := kindTellsRow, standIns := [], harness := (true, "ecb7ededa03239ee8cafb73a187240d5b0b72412f98764c4d574a80f27643a73"), looks := false }, kinds := [], alts := [], laidByText := true, laidKinds := [.data], laidTests := true, laidLooks := .later }
def KindTellsCardSaid : Prop := Claim7.holds Tryd.pinned (.plain (OpenSpec.ofChange kindTellsSpec)) kindTellsCard

/-- THE TIED CARD OF 'burinlaw08.KindNames'. -/
def kindNamesCard : Claim7 := { stood := { row := kindNamesRow, standIns := [], harness := (true, "ecb7ededa03239ee8cafb73a187240d5b0b72412f98764c4d574a80f27643a73"), looks := false }, kinds := [], alts := [], laidByText := true, laidKinds := [.data], laidTests := true, laidLooks := .later }
def KindNamesCardSaid : Prop := Claim7.holds Tryd.pinned (.plain (OpenSpec.ofChange kindNamesSpec)) kindNamesCard

/-- THE SECOND FORM's CARD OF 'burinlaw08.KindTells'. -/
def kindTellsUptoCard : Claim7 := { stood := { row := kindTellsUptoRow, standIns := [], harness := (true, "ecb7ededa03239ee8cafb73a187240d5b0b72412f98764c4d574a80f27643a73"), looks := false }, kinds := [], alts := [], laidByText := true, laidKinds := [.data], laidTests := true, laidLooks := .later }
def KindTellsUptoCardSaid : Prop := Claim7.holds Tryd.pinned (.plain (OpenSpec.upto kindTellsSpec)) kindTellsUptoCard

/-- THE SECOND FORM's CARD OF 'burinlaw08.KindNames'. -/
def kindNamesUptoCard : Claim7 := { stood := { row := kindNamesUptoRow, standIns := [], harness := (true, "ecb7ededa03239ee8cafb73a187240d5b0b72412f98764c4d574a80f27643a73"), looks := false }, kinds := [], alts := [], laidByText := true, laidKinds := [.data], laidTests := true, laidLooks := .later }
def KindNamesUptoCardSaid : Prop := Claim7.holds Tryd.pinned (.plain (OpenSpec.upto kindNamesSpec)) kindNamesUptoCard
end Rows
end Go.Proofs.YtcggghamnmflcaaDoor

/-
  NARROWER THAN 'FOR EVERY INPUT', by the rows' own cells (each row's printed sentence says how): KindTells: laid · KindNames: laid.
  DERIVED. THE GIVEN ROWS OF THIS SEAT. 2 by the template 'for every input the law returns true; each argument reads behind the call as it read before'; 0 by the template 'total and deterministic' (their statements: YtcggghamnmflcaaDoorTotals.lean).
  GIVEN WITH THE SEED: the statements are not yours to turn. If you find one false, say at which input.
  Laid BY PROGRAM, IN A SANDBOX (cutbox-rows.mjs): the forced cells as the released guide's own fill.sh prints them over the translation 651210a1a604beef… (all of the seat's roots in one cut). By AI agents, Wed Nov 11 2026. No macro, syntax, notation, axiom, sorry.
-/
import Derived.Test.YtcggghamnmflcaaDoorChecked
import GoSem.Claim
import GoSem.ClaimJoined
import GoSem.ClaimMapViews
import Derived.JoinedTies
import Derived.KernelRfl
namespace Go.Proofs.YtcggghamnmflcaaDoor
/- THE CELL 'sum', in the pinned program and in every row, IS THE sha256 OF THE DUMP (.gsa) THAT YtcggghamnmflcaaDoorProg.lean LOADS. Nothing in Lean hashes anything: it is a label: what it is worth is what the hold of that sum in a sandbox is worth. -/
noncomputable def Tryd.pinned : Pinned := { name := "ytcggghamnmflcaadoor", sum := "651210a1a604beef4540fe188c5a14e89f1da708445a75faa0c59ca0579f2010", checked := Tryd.checked }
namespace Rows
def none {H : Type} : Left H := { results := [], args := [] }

/- WHAT THE LISTED PACKAGE-LEVEL VARIABLES READ AS WHEN THE CALL BEGINS. Each datum BY PROGRAM (the guide's laid-datum.mjs) off the statement by which the dump's own 'gosem.cut.vars' lays the variable. In a bare row this is a premise. The card (YtcggghamnmflcaaDoorCards.lean) ties it to the program's text. -/
def laid_burin_kind_names {H : Type} : DataW H := .agg [.lit (.string [118, 111, 105, 100]), .lit (.string [99, 104, 97, 114]), .lit (.string [117, 110, 115, 105, 103, 110, 101, 100, 32, 99, 104, 97, 114]), .lit (.string [115, 104, 111, 114, 116]), .lit (.string [117, 110, 115, 105, 103, 110, 101, 100, 32, 115, 104, 111, 114, 116]), .lit (.string [105, 110, 116]), .lit (.string [117, 110, 115, 105, 103, 110, 101, 100, 32, 105, 110, 116]), .lit (.string [108, 111, 110, 103]), .lit (.string [117, 110, 115, 105, 103, 110, 101, 100, 32, 108, 111, 110, 103])]

/-- 'burinlaw08.KindTells': WHATEVER THE INPUT: true; the input reads as it did. -/
def kindTellsSpec : ChangeSpec := { name := "kindTells", fn := fun _ => fun
  | [d] => { results := [.lit (.bool true)], args := [d] }
  | _ => none }
def kindTellsRow : OpenClaim := { program := "ytcggghamnmflcaadoor", sum := "651210a1a604beef4540fe188c5a14e89f1da708445a75faa0c59ca0579f2010", func := "burin/burinlaw08.KindTells", spec := "kindTells", named := ["burin/kind.names"], apart := false, laid := [("burin/kind.names", laid_burin_kind_names)] }
def KindTellsSaid : Prop := kindTellsRow.holds Tryd.pinned (OpenSpec.ofChange kindTellsSpec)

/-- ITS FALSE NEIGHBOUR: 'it returns false'. Refute it at one input. -/
def kindTellsWrong : ChangeSpec := { name := "kindTells", fn := fun _ => fun
  | [d] => { results := [.lit (.bool false)], args := [d] }
  | _ => none }
def KindTellsWrongFalsely : Prop := kindTellsRow.holds Tryd.pinned (OpenSpec.ofChange kindTellsWrong)

/-- 'burinlaw08.KindNames': WHATEVER THE INPUT: true; the input reads as it did. -/
def kindNamesSpec : ChangeSpec := { name := "kindNames", fn := fun _ => fun
  | [d1, d2] => { results := [.lit (.bool true)], args := [d1, d2] }
  | _ => none }
def kindNamesRow : OpenClaim := { program := "ytcggghamnmflcaadoor", sum := "651210a1a604beef4540fe188c5a14e89f1da708445a75faa0c59ca0579f2010", func := "burin/burinlaw08.KindNames", spec := "kindNames", unfollowed := true, recurses := true, named := ["burin/kind.names"], apart := false, laid := [("burin/kind.names", laid_burin_kind_names)] }
def KindNamesSaid : Prop := kindNamesRow.holds Tryd.pinned (OpenSpec.ofChange kindNamesSpec)

/-- ITS FALSE NEIGHBOUR: 'it returns false'. Refute it at one input. -/
def kindNamesWrong : ChangeSpec := { name := "kindNames", fn := fun _ => fun
  | [d1, d2] => { results := [.lit (.bool false)], args := [d1, d2] }
  | _ => none }
def KindNamesWrongFalsely : Prop := kindNamesRow.holds Tryd.pinned (OpenSpec.ofChange kindNamesWrong)

/- THE SECOND FORM. 'bulk': how many values and letters a reading holds, each counted each time it is reached (what is shared counts as often as it is met; a slice's spare places count too). A statement '..UptoSaid' is the law's where the arguments, and the package variables that the reading takes, are together of bulk at most 1048576: NARROWER than '..Said'. Prove '..Said' where nothing that the law and all that it calls make is longer than what came in: it says more and counts as full. Else prove '..UptoSaid'. A law counts once. -/
mutual
def uptoBulk {H : Type} : DataW H → Nat
  | .lit (.string bytes) => bytes.length + 1
  | .lit _ => 1
  | .nil => 1
  | .ptr d => uptoBulk d + 1
  | .slice elems spare => uptoBulkAll elems + uptoBulkAll spare + 1
  | .agg parts => uptoBulkAll parts + 1
  | .iface _ d => uptoBulk d + 1
  | .map entries => uptoBulkEntries entries + 1
  | .held _ => 1
def uptoBulkAll {H : Type} : List (DataW H) → Nat
  | [] => 0
  | d :: r => uptoBulk d + uptoBulkAll r
def uptoBulkEntries {H : Type} : List (Lit × DataW H) → Nat
  | [] => 0
  | x :: r => uptoBulkEntry x + uptoBulkEntries r
def uptoBulkEntry {H : Type} : Lit × DataW H → Nat
  | (.string bytes, d) => bytes.length + uptoBulk d + 1
  | (_, d) => uptoBulk d + 1
 end
def uptoSmall : (H : Type) → List (DataW H) → Bool := fun _ ds => decide (uptoBulkAll ds ≤ 1048576)
def OpenSpec.upto (s : _root_.Go.ChangeSpec) : _root_.Go.OpenSpec := { _root_.Go.OpenSpec.ofChange s with cond := some uptoSmall }

/-- 'burinlaw08.KindTells', WHERE WHAT IT READS IS OF BULK AT MOST 1048576: true; the input reads as it did. -/
def kindTellsUptoRow : OpenClaim := { program := "ytcggghamnmflcaadoor", sum := "651210a1a604beef4540fe188c5a14e89f1da708445a75faa0c59ca0579f2010", func := "burin/burinlaw08.KindTells", spec := "kindTells", named := ["burin/kind.names"], apart := false, laid := [("burin/kind.names", laid_burin_kind_names)], narrowed := true }
def KindTellsUptoSaid : Prop := kindTellsUptoRow.holds Tryd.pinned (OpenSpec.upto kindTellsSpec)

/-- 'burinlaw08.KindNames', WHERE WHAT IT READS IS OF BULK AT MOST 1048576: true; the input reads as it did. -/
def kindNamesUptoRow : OpenClaim := { program := "ytcggghamnmflcaadoor", sum := "651210a1a604beef4540fe188c5a14e89f1da708445a75faa0c59ca0579f2010", func := "burin/burinlaw08.KindNames", spec := "kindNames", unfollowed := true, recurses := true, named := ["burin/kind.names"], apart := false, laid := [("burin/kind.names", laid_burin_kind_names)], narrowed := true }
def KindNamesUptoSaid : Prop := kindNamesUptoRow.holds Tryd.pinned (OpenSpec.upto kindNamesSpec)

end Rows
end Go.Proofs.YtcggghamnmflcaaDoor

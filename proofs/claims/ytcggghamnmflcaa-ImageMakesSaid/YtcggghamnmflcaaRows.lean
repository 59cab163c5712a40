/-
  NARROWER THAN 'FOR EVERY INPUT', by the rows' own cells (each row's printed sentence says how): TopClasses: loops · ShapeMembers: loops · ShapeLies: loops · ShapePacked: loops · ShapeSizes: loops · ShapeSame: loops · ShapeLeaves: loops · ShapeArrays: loops · ImageMakes: loops · ImageSpots: loops · ImageGets: loops · ImageSteps: loops · ImageBack: loops · ImageSwaps: loops · ClassTypes: loops · ClassPasses: loops · ClassApart: loops · ClassMore: loops · ImageLeaves: loops.
  DERIVED. THE GIVEN ROWS OF THIS SEAT. 25 by the template 'for every input the law returns true; each argument reads behind the call as it read before'; 0 by the template 'total and deterministic' (their statements: YtcggghamnmflcaaTotals.lean).
  GIVEN WITH THE SEED: the statements are not yours to turn. If you find one false, say at which input.
  Laid BY PROGRAM, IN A SANDBOX (cutbox-rows.mjs): the forced cells as the released guide's own fill.sh prints them over the translation deab62682de19148… (all of the seat's roots in one cut). By AI agents, Wed Nov 11 2026. No macro, syntax, notation, axiom, sorry.
-/
import Derived.Test.YtcggghamnmflcaaChecked
import GoSem.Claim
import GoSem.ClaimJoined
import GoSem.ClaimMapViews
import Derived.JoinedTies
import Derived.KernelRfl
namespace Go.Proofs.Ytcggghamnmflcaa
/- THE CELL 'sum', in the pinned program and in every row, IS THE sha256 OF THE DUMP (.gsa) THAT YtcggghamnmflcaaProg.lean LOADS. Nothing in Lean hashes anything: it is a label: what it is worth is what the hold of that sum in a sandbox is worth. -/
noncomputable def Try.pinned : Pinned := { name := "ytcggghamnmflcaa", sum := "deab62682de1914896faba5145038978e45692792d2b249fc6480bc04430d2fc", checked := Try.checked }
namespace Rows
def none {H : Type} : Left H := { results := [], args := [] }

/-- 'burinlaw08.KindUsual': WHATEVER THE INPUT: true; the input reads as it did. -/
def kindUsualSpec : ChangeSpec := { name := "kindUsual", fn := fun _ => fun
  | [d1, d2] => { results := [.lit (.bool true)], args := [d1, d2] }
  | _ => none }
def kindUsualRow : OpenClaim := { program := "ytcggghamnmflcaa", sum := "deab62682de1914896faba5145038978e45692792d2b249fc6480bc04430d2fc", func := "burin/burinlaw08.KindUsual", spec := "kindUsual", plainKeys := false, apart := false }
def KindUsualSaid : Prop := kindUsualRow.holds Try.pinned (OpenSpec.ofChange kindUsualSpec)

/-- ITS FALSE NEIGHBOUR: 'it returns false'. Refute it at one input. -/
def kindUsualWrong : ChangeSpec := { name := "kindUsual", fn := fun _ => fun
  | [d1, d2] => { results := [.lit (.bool false)], args := [d1, d2] }
  | _ => none }
def KindUsualWrongFalsely : Prop := kindUsualRow.holds Try.pinned (OpenSpec.ofChange kindUsualWrong)

/-- 'burinlaw08.KindTurns': WHATEVER THE INPUT: true; the input reads as it did. -/
def kindTurnsSpec : ChangeSpec := { name := "kindTurns", fn := fun _ => fun
  | [d1, d2] => { results := [.lit (.bool true)], args := [d1, d2] }
  | _ => none }
def kindTurnsRow : OpenClaim := { program := "ytcggghamnmflcaa", sum := "deab62682de1914896faba5145038978e45692792d2b249fc6480bc04430d2fc", func := "burin/burinlaw08.KindTurns", spec := "kindTurns", plainKeys := false, apart := false }
def KindTurnsSaid : Prop := kindTurnsRow.holds Try.pinned (OpenSpec.ofChange kindTurnsSpec)

/-- ITS FALSE NEIGHBOUR: 'it returns false'. Refute it at one input. -/
def kindTurnsWrong : ChangeSpec := { name := "kindTurns", fn := fun _ => fun
  | [d1, d2] => { results := [.lit (.bool false)], args := [d1, d2] }
  | _ => none }
def KindTurnsWrongFalsely : Prop := kindTurnsRow.holds Try.pinned (OpenSpec.ofChange kindTurnsWrong)

/-- 'burinlaw08.KindNarrow': WHATEVER THE INPUT: true; the input reads as it did. -/
def kindNarrowSpec : ChangeSpec := { name := "kindNarrow", fn := fun _ => fun
  | [d1, d2, d3] => { results := [.lit (.bool true)], args := [d1, d2, d3] }
  | _ => none }
def kindNarrowRow : OpenClaim := { program := "ytcggghamnmflcaa", sum := "deab62682de1914896faba5145038978e45692792d2b249fc6480bc04430d2fc", func := "burin/burinlaw08.KindNarrow", spec := "kindNarrow", plainKeys := false, apart := false }
def KindNarrowSaid : Prop := kindNarrowRow.holds Try.pinned (OpenSpec.ofChange kindNarrowSpec)

/-- ITS FALSE NEIGHBOUR: 'it returns false'. Refute it at one input. -/
def kindNarrowWrong : ChangeSpec := { name := "kindNarrow", fn := fun _ => fun
  | [d1, d2, d3] => { results := [.lit (.bool false)], args := [d1, d2, d3] }
  | _ => none }
def KindNarrowWrongFalsely : Prop := kindNarrowRow.holds Try.pinned (OpenSpec.ofChange kindNarrowWrong)

/-- 'burinlaw08.KindTo': WHATEVER THE INPUT: true; the input reads as it did. -/
def kindToSpec : ChangeSpec := { name := "kindTo", fn := fun _ => fun
  | [d1, d2] => { results := [.lit (.bool true)], args := [d1, d2] }
  | _ => none }
def kindToRow : OpenClaim := { program := "ytcggghamnmflcaa", sum := "deab62682de1914896faba5145038978e45692792d2b249fc6480bc04430d2fc", func := "burin/burinlaw08.KindTo", spec := "kindTo", plainKeys := false, apart := false }
def KindToSaid : Prop := kindToRow.holds Try.pinned (OpenSpec.ofChange kindToSpec)

/-- ITS FALSE NEIGHBOUR: 'it returns false'. Refute it at one input. -/
def kindToWrong : ChangeSpec := { name := "kindTo", fn := fun _ => fun
  | [d1, d2] => { results := [.lit (.bool false)], args := [d1, d2] }
  | _ => none }
def KindToWrongFalsely : Prop := kindToRow.holds Try.pinned (OpenSpec.ofChange kindToWrong)

/-- 'burinlaw08.KindOnce': WHATEVER THE INPUT: true; the input reads as it did. -/
def kindOnceSpec : ChangeSpec := { name := "kindOnce", fn := fun _ => fun
  | [d1, d2] => { results := [.lit (.bool true)], args := [d1, d2] }
  | _ => none }
def kindOnceRow : OpenClaim := { program := "ytcggghamnmflcaa", sum := "deab62682de1914896faba5145038978e45692792d2b249fc6480bc04430d2fc", func := "burin/burinlaw08.KindOnce", spec := "kindOnce", plainKeys := false, apart := false }
def KindOnceSaid : Prop := kindOnceRow.holds Try.pinned (OpenSpec.ofChange kindOnceSpec)

/-- ITS FALSE NEIGHBOUR: 'it returns false'. Refute it at one input. -/
def kindOnceWrong : ChangeSpec := { name := "kindOnce", fn := fun _ => fun
  | [d1, d2] => { results := [.lit (.bool false)], args := [d1, d2] }
  | _ => none }
def KindOnceWrongFalsely : Prop := kindOnceRow.holds Try.pinned (OpenSpec.ofChange kindOnceWrong)

/-- 'burintop.TopClasses': WHATEVER THE INPUT: true; the input reads as it did. -/
def topClassesSpec : ChangeSpec := { name := "topClasses", fn := fun _ => fun
  | [d] => { results := [.lit (.bool true)], args := [d] }
  | _ => none }
def topClassesRow : OpenClaim := { program := "ytcggghamnmflcaa", sum := "deab62682de1914896faba5145038978e45692792d2b249fc6480bc04430d2fc", func := "burin/burintop.TopClasses", spec := "topClasses", unfollowed := true, recurses := true, loops := true, plainKeys := false, apart := false }
def TopClassesSaid : Prop := topClassesRow.holds Try.pinned (OpenSpec.ofChange topClassesSpec)

/-- ITS FALSE NEIGHBOUR: 'it returns false'. Refute it at one input. -/
def topClassesWrong : ChangeSpec := { name := "topClasses", fn := fun _ => fun
  | [d] => { results := [.lit (.bool false)], args := [d] }
  | _ => none }
def TopClassesWrongFalsely : Prop := topClassesRow.holds Try.pinned (OpenSpec.ofChange topClassesWrong)

/-- 'burinlaw08.KindOfs': WHATEVER THE INPUT: true; the input reads as it did. -/
def kindOfsSpec : ChangeSpec := { name := "kindOfs", fn := fun _ => fun
  | [d] => { results := [.lit (.bool true)], args := [d] }
  | _ => none }
def kindOfsRow : OpenClaim := { program := "ytcggghamnmflcaa", sum := "deab62682de1914896faba5145038978e45692792d2b249fc6480bc04430d2fc", func := "burin/burinlaw08.KindOfs", spec := "kindOfs", unfollowed := true, recurses := true, plainKeys := false, apart := false }
def KindOfsSaid : Prop := kindOfsRow.holds Try.pinned (OpenSpec.ofChange kindOfsSpec)

/-- ITS FALSE NEIGHBOUR: 'it returns false'. Refute it at one input. -/
def kindOfsWrong : ChangeSpec := { name := "kindOfs", fn := fun _ => fun
  | [d] => { results := [.lit (.bool false)], args := [d] }
  | _ => none }
def KindOfsWrongFalsely : Prop := kindOfsRow.holds Try.pinned (OpenSpec.ofChange kindOfsWrong)

/-- 'burinlaw10.ShapeMembers': WHATEVER THE INPUT: true; the input reads as it did. -/
def shapeMembersSpec : ChangeSpec := { name := "shapeMembers", fn := fun _ => fun
  | [d] => { results := [.lit (.bool true)], args := [d] }
  | _ => none }
def shapeMembersRow : OpenClaim := { program := "ytcggghamnmflcaa", sum := "deab62682de1914896faba5145038978e45692792d2b249fc6480bc04430d2fc", func := "burin/burinlaw10.ShapeMembers", spec := "shapeMembers", unfollowed := true, recurses := true, loops := true, plainKeys := false, apart := false }
def ShapeMembersSaid : Prop := shapeMembersRow.holds Try.pinned (OpenSpec.ofChange shapeMembersSpec)

/-- ITS FALSE NEIGHBOUR: 'it returns false'. Refute it at one input. -/
def shapeMembersWrong : ChangeSpec := { name := "shapeMembers", fn := fun _ => fun
  | [d] => { results := [.lit (.bool false)], args := [d] }
  | _ => none }
def ShapeMembersWrongFalsely : Prop := shapeMembersRow.holds Try.pinned (OpenSpec.ofChange shapeMembersWrong)

/-- 'burinlaw10.ShapeLies': WHATEVER THE INPUT: true; the input reads as it did. -/
def shapeLiesSpec : ChangeSpec := { name := "shapeLies", fn := fun _ => fun
  | [d] => { results := [.lit (.bool true)], args := [d] }
  | _ => none }
def shapeLiesRow : OpenClaim := { program := "ytcggghamnmflcaa", sum := "deab62682de1914896faba5145038978e45692792d2b249fc6480bc04430d2fc", func := "burin/burinlaw10.ShapeLies", spec := "shapeLies", unfollowed := true, recurses := true, loops := true, plainKeys := false, apart := false }
def ShapeLiesSaid : Prop := shapeLiesRow.holds Try.pinned (OpenSpec.ofChange shapeLiesSpec)

/-- ITS FALSE NEIGHBOUR: 'it returns false'. Refute it at one input. -/
def shapeLiesWrong : ChangeSpec := { name := "shapeLies", fn := fun _ => fun
  | [d] => { results := [.lit (.bool false)], args := [d] }
  | _ => none }
def ShapeLiesWrongFalsely : Prop := shapeLiesRow.holds Try.pinned (OpenSpec.ofChange shapeLiesWrong)

/-- 'burinlaw10.ShapePacked': WHATEVER THE INPUT: true; the input reads as it did. -/
def shapePackedSpec : ChangeSpec := { name := "shapePacked", fn := fun _ => fun
  | [d] => { results := [.lit (.bool true)], args := [d] }
  | _ => none }
def shapePackedRow : OpenClaim := { program := "ytcggghamnmflcaa", sum := "deab62682de1914896faba5145038978e45692792d2b249fc6480bc04430d2fc", func := "burin/burinlaw10.ShapePacked", spec := "shapePacked", unfollowed := true, recurses := true, loops := true, plainKeys := false, apart := false }
def ShapePackedSaid : Prop := shapePackedRow.holds Try.pinned (OpenSpec.ofChange shapePackedSpec)

/-- ITS FALSE NEIGHBOUR: 'it returns false'. Refute it at one input. -/
def shapePackedWrong : ChangeSpec := { name := "shapePacked", fn := fun _ => fun
  | [d] => { results := [.lit (.bool false)], args := [d] }
  | _ => none }
def ShapePackedWrongFalsely : Prop := shapePackedRow.holds Try.pinned (OpenSpec.ofChange shapePackedWrong)

/-- 'burinlaw10.ShapeSizes': WHATEVER THE INPUT: true; the input reads as it did. -/
def shapeSizesSpec : ChangeSpec := { name := "shapeSizes", fn := fun _ => fun
  | [d] => { results := [.lit (.bool true)], args := [d] }
  | _ => none }
def shapeSizesRow : OpenClaim := { program := "ytcggghamnmflcaa", sum := "deab62682de1914896faba5145038978e45692792d2b249fc6480bc04430d2fc", func := "burin/burinlaw10.ShapeSizes", spec := "shapeSizes", unfollowed := true, recurses := true, loops := true, plainKeys := false, apart := false }
def ShapeSizesSaid : Prop := shapeSizesRow.holds Try.pinned (OpenSpec.ofChange shapeSizesSpec)

/-- ITS FALSE NEIGHBOUR: 'it returns false'. Refute it at one input. -/
def shapeSizesWrong : ChangeSpec := { name := "shapeSizes", fn := fun _ => fun
  | [d] => { results := [.lit (.bool false)], args := [d] }
  | _ => none }
def ShapeSizesWrongFalsely : Prop := shapeSizesRow.holds Try.pinned (OpenSpec.ofChange shapeSizesWrong)

/-- 'burinlaw10.ShapeSame': WHATEVER THE INPUT: true; the input reads as it did. -/
def shapeSameSpec : ChangeSpec := { name := "shapeSame", fn := fun _ => fun
  | [d1, d2] => { results := [.lit (.bool true)], args := [d1, d2] }
  | _ => none }
def shapeSameRow : OpenClaim := { program := "ytcggghamnmflcaa", sum := "deab62682de1914896faba5145038978e45692792d2b249fc6480bc04430d2fc", func := "burin/burinlaw10.ShapeSame", spec := "shapeSame", unfollowed := true, recurses := true, loops := true, plainKeys := false, apart := false }
def ShapeSameSaid : Prop := shapeSameRow.holds Try.pinned (OpenSpec.ofChange shapeSameSpec)

/-- ITS FALSE NEIGHBOUR: 'it returns false'. Refute it at one input. -/
def shapeSameWrong : ChangeSpec := { name := "shapeSame", fn := fun _ => fun
  | [d1, d2] => { results := [.lit (.bool false)], args := [d1, d2] }
  | _ => none }
def ShapeSameWrongFalsely : Prop := shapeSameRow.holds Try.pinned (OpenSpec.ofChange shapeSameWrong)

/-- 'burinlaw10.ShapeLeaves': WHATEVER THE INPUT: true; the input reads as it did. -/
def shapeLeavesSpec : ChangeSpec := { name := "shapeLeaves", fn := fun _ => fun
  | [d] => { results := [.lit (.bool true)], args := [d] }
  | _ => none }
def shapeLeavesRow : OpenClaim := { program := "ytcggghamnmflcaa", sum := "deab62682de1914896faba5145038978e45692792d2b249fc6480bc04430d2fc", func := "burin/burinlaw10.ShapeLeaves", spec := "shapeLeaves", unfollowed := true, recurses := true, loops := true, plainKeys := false, apart := false }
def ShapeLeavesSaid : Prop := shapeLeavesRow.holds Try.pinned (OpenSpec.ofChange shapeLeavesSpec)

/-- ITS FALSE NEIGHBOUR: 'it returns false'. Refute it at one input. -/
def shapeLeavesWrong : ChangeSpec := { name := "shapeLeaves", fn := fun _ => fun
  | [d] => { results := [.lit (.bool false)], args := [d] }
  | _ => none }
def ShapeLeavesWrongFalsely : Prop := shapeLeavesRow.holds Try.pinned (OpenSpec.ofChange shapeLeavesWrong)

/-- 'burinlaw10.ShapeArrays': WHATEVER THE INPUT: true; the input reads as it did. -/
def shapeArraysSpec : ChangeSpec := { name := "shapeArrays", fn := fun _ => fun
  | [d1, d2] => { results := [.lit (.bool true)], args := [d1, d2] }
  | _ => none }
def shapeArraysRow : OpenClaim := { program := "ytcggghamnmflcaa", sum := "deab62682de1914896faba5145038978e45692792d2b249fc6480bc04430d2fc", func := "burin/burinlaw10.ShapeArrays", spec := "shapeArrays", unfollowed := true, recurses := true, loops := true, plainKeys := false, apart := false }
def ShapeArraysSaid : Prop := shapeArraysRow.holds Try.pinned (OpenSpec.ofChange shapeArraysSpec)

/-- ITS FALSE NEIGHBOUR: 'it returns false'. Refute it at one input. -/
def shapeArraysWrong : ChangeSpec := { name := "shapeArrays", fn := fun _ => fun
  | [d1, d2] => { results := [.lit (.bool false)], args := [d1, d2] }
  | _ => none }
def ShapeArraysWrongFalsely : Prop := shapeArraysRow.holds Try.pinned (OpenSpec.ofChange shapeArraysWrong)

/-- 'burinlaw11.ImageMakes': WHATEVER THE INPUT: true; the input reads as it did. -/
def imageMakesSpec : ChangeSpec := { name := "imageMakes", fn := fun _ => fun
  | [d1, d2] => { results := [.lit (.bool true)], args := [d1, d2] }
  | _ => none }
def imageMakesRow : OpenClaim := { program := "ytcggghamnmflcaa", sum := "deab62682de1914896faba5145038978e45692792d2b249fc6480bc04430d2fc", func := "burin/burinlaw11.ImageMakes", spec := "imageMakes", unfollowed := true, recurses := true, loops := true, plainKeys := false, apart := false }
def ImageMakesSaid : Prop := imageMakesRow.holds Try.pinned (OpenSpec.ofChange imageMakesSpec)

/-- ITS FALSE NEIGHBOUR: 'it returns false'. Refute it at one input. -/
def imageMakesWrong : ChangeSpec := { name := "imageMakes", fn := fun _ => fun
  | [d1, d2] => { results := [.lit (.bool false)], args := [d1, d2] }
  | _ => none }
def ImageMakesWrongFalsely : Prop := imageMakesRow.holds Try.pinned (OpenSpec.ofChange imageMakesWrong)

/-- 'burinlaw11.ImageSpots': WHATEVER THE INPUT: true; the input reads as it did. -/
def imageSpotsSpec : ChangeSpec := { name := "imageSpots", fn := fun _ => fun
  | [d1, d2] => { results := [.lit (.bool true)], args := [d1, d2] }
  | _ => none }
def imageSpotsRow : OpenClaim := { program := "ytcggghamnmflcaa", sum := "deab62682de1914896faba5145038978e45692792d2b249fc6480bc04430d2fc", func := "burin/burinlaw11.ImageSpots", spec := "imageSpots", unfollowed := true, recurses := true, loops := true, plainKeys := false, apart := false }
def ImageSpotsSaid : Prop := imageSpotsRow.holds Try.pinned (OpenSpec.ofChange imageSpotsSpec)

/-- ITS FALSE NEIGHBOUR: 'it returns false'. Refute it at one input. -/
def imageSpotsWrong : ChangeSpec := { name := "imageSpots", fn := fun _ => fun
  | [d1, d2] => { results := [.lit (.bool false)], args := [d1, d2] }
  | _ => none }
def ImageSpotsWrongFalsely : Prop := imageSpotsRow.holds Try.pinned (OpenSpec.ofChange imageSpotsWrong)

/-- 'burinlaw11.ImageGets': WHATEVER THE INPUT: true; the input reads as it did. -/
def imageGetsSpec : ChangeSpec := { name := "imageGets", fn := fun _ => fun
  | [d1, d2, d3, d4] => { results := [.lit (.bool true)], args := [d1, d2, d3, d4] }
  | _ => none }
def imageGetsRow : OpenClaim := { program := "ytcggghamnmflcaa", sum := "deab62682de1914896faba5145038978e45692792d2b249fc6480bc04430d2fc", func := "burin/burinlaw11.ImageGets", spec := "imageGets", unfollowed := true, recurses := true, loops := true, plainKeys := false, apart := false }
def ImageGetsSaid : Prop := imageGetsRow.holds Try.pinned (OpenSpec.ofChange imageGetsSpec)

/-- ITS FALSE NEIGHBOUR: 'it returns false'. Refute it at one input. -/
def imageGetsWrong : ChangeSpec := { name := "imageGets", fn := fun _ => fun
  | [d1, d2, d3, d4] => { results := [.lit (.bool false)], args := [d1, d2, d3, d4] }
  | _ => none }
def ImageGetsWrongFalsely : Prop := imageGetsRow.holds Try.pinned (OpenSpec.ofChange imageGetsWrong)

/-- 'burinlaw11.ImageSteps': WHATEVER THE INPUT: true; the input reads as it did. -/
def imageStepsSpec : ChangeSpec := { name := "imageSteps", fn := fun _ => fun
  | [d1, d2] => { results := [.lit (.bool true)], args := [d1, d2] }
  | _ => none }
def imageStepsRow : OpenClaim := { program := "ytcggghamnmflcaa", sum := "deab62682de1914896faba5145038978e45692792d2b249fc6480bc04430d2fc", func := "burin/burinlaw11.ImageSteps", spec := "imageSteps", unfollowed := true, recurses := true, loops := true, plainKeys := false, apart := false }
def ImageStepsSaid : Prop := imageStepsRow.holds Try.pinned (OpenSpec.ofChange imageStepsSpec)

/-- ITS FALSE NEIGHBOUR: 'it returns false'. Refute it at one input. -/
def imageStepsWrong : ChangeSpec := { name := "imageSteps", fn := fun _ => fun
  | [d1, d2] => { results := [.lit (.bool false)], args := [d1, d2] }
  | _ => none }
def ImageStepsWrongFalsely : Prop := imageStepsRow.holds Try.pinned (OpenSpec.ofChange imageStepsWrong)

/-- 'burinlaw11.ImageBack': WHATEVER THE INPUT: true; the input reads as it did. -/
def imageBackSpec : ChangeSpec := { name := "imageBack", fn := fun _ => fun
  | [d1, d2, d3, d4, d5] => { results := [.lit (.bool true)], args := [d1, d2, d3, d4, d5] }
  | _ => none }
def imageBackRow : OpenClaim := { program := "ytcggghamnmflcaa", sum := "deab62682de1914896faba5145038978e45692792d2b249fc6480bc04430d2fc", func := "burin/burinlaw11.ImageBack", spec := "imageBack", unfollowed := true, recurses := true, loops := true, plainKeys := false, apart := false }
def ImageBackSaid : Prop := imageBackRow.holds Try.pinned (OpenSpec.ofChange imageBackSpec)

/-- ITS FALSE NEIGHBOUR: 'it returns false'. Refute it at one input. -/
def imageBackWrong : ChangeSpec := { name := "imageBack", fn := fun _ => fun
  | [d1, d2, d3, d4, d5] => { results := [.lit (.bool false)], args := [d1, d2, d3, d4, d5] }
  | _ => none }
def ImageBackWrongFalsely : Prop := imageBackRow.holds Try.pinned (OpenSpec.ofChange imageBackWrong)

/-- 'burinlaw11.ImageSwaps': WHATEVER THE INPUT: true; the input reads as it did. -/
def imageSwapsSpec : ChangeSpec := { name := "imageSwaps", fn := fun _ => fun
  | [d1, d2, d3, d4, d5, d6] => { results := [.lit (.bool true)], args := [d1, d2, d3, d4, d5, d6] }
  | _ => none }
def imageSwapsRow : OpenClaim := { program := "ytcggghamnmflcaa", sum := "deab62682de1914896faba5145038978e45692792d2b249fc6480bc04430d2fc", func := "burin/burinlaw11.ImageSwaps", spec := "imageSwaps", unfollowed := true, recurses := true, loops := true, plainKeys := false, apart := false }
def ImageSwapsSaid : Prop := imageSwapsRow.holds Try.pinned (OpenSpec.ofChange imageSwapsSpec)

/-- ITS FALSE NEIGHBOUR: 'it returns false'. Refute it at one input. -/
def imageSwapsWrong : ChangeSpec := { name := "imageSwaps", fn := fun _ => fun
  | [d1, d2, d3, d4, d5, d6] => { results := [.lit (.bool false)], args := [d1, d2, d3, d4, d5, d6] }
  | _ => none }
def ImageSwapsWrongFalsely : Prop := imageSwapsRow.holds Try.pinned (OpenSpec.ofChange imageSwapsWrong)

/-- 'burinlaw12.ClassTypes': WHATEVER THE INPUT: true; the input reads as it did. -/
def classTypesSpec : ChangeSpec := { name := "classTypes", fn := fun _ => fun
  | [d] => { results := [.lit (.bool true)], args := [d] }
  | _ => none }
def classTypesRow : OpenClaim := { program := "ytcggghamnmflcaa", sum := "deab62682de1914896faba5145038978e45692792d2b249fc6480bc04430d2fc", func := "burin/burinlaw12.ClassTypes", spec := "classTypes", unfollowed := true, recurses := true, loops := true, plainKeys := false, apart := false }
def ClassTypesSaid : Prop := classTypesRow.holds Try.pinned (OpenSpec.ofChange classTypesSpec)

/-- ITS FALSE NEIGHBOUR: 'it returns false'. Refute it at one input. -/
def classTypesWrong : ChangeSpec := { name := "classTypes", fn := fun _ => fun
  | [d] => { results := [.lit (.bool false)], args := [d] }
  | _ => none }
def ClassTypesWrongFalsely : Prop := classTypesRow.holds Try.pinned (OpenSpec.ofChange classTypesWrong)

/-- 'burinlaw12.ClassPasses': WHATEVER THE INPUT: true; the input reads as it did. -/
def classPassesSpec : ChangeSpec := { name := "classPasses", fn := fun _ => fun
  | [d1, d2] => { results := [.lit (.bool true)], args := [d1, d2] }
  | _ => none }
def classPassesRow : OpenClaim := { program := "ytcggghamnmflcaa", sum := "deab62682de1914896faba5145038978e45692792d2b249fc6480bc04430d2fc", func := "burin/burinlaw12.ClassPasses", spec := "classPasses", unfollowed := true, recurses := true, loops := true, plainKeys := false, apart := false }
def ClassPassesSaid : Prop := classPassesRow.holds Try.pinned (OpenSpec.ofChange classPassesSpec)

/-- ITS FALSE NEIGHBOUR: 'it returns false'. Refute it at one input. -/
def classPassesWrong : ChangeSpec := { name := "classPasses", fn := fun _ => fun
  | [d1, d2] => { results := [.lit (.bool false)], args := [d1, d2] }
  | _ => none }
def ClassPassesWrongFalsely : Prop := classPassesRow.holds Try.pinned (OpenSpec.ofChange classPassesWrong)

/-- 'burinlaw12.ClassApart': WHATEVER THE INPUT: true; the input reads as it did. -/
def classApartSpec : ChangeSpec := { name := "classApart", fn := fun _ => fun
  | [d1, d2] => { results := [.lit (.bool true)], args := [d1, d2] }
  | _ => none }
def classApartRow : OpenClaim := { program := "ytcggghamnmflcaa", sum := "deab62682de1914896faba5145038978e45692792d2b249fc6480bc04430d2fc", func := "burin/burinlaw12.ClassApart", spec := "classApart", unfollowed := true, recurses := true, loops := true, plainKeys := false, apart := false }
def ClassApartSaid : Prop := classApartRow.holds Try.pinned (OpenSpec.ofChange classApartSpec)

/-- ITS FALSE NEIGHBOUR: 'it returns false'. Refute it at one input. -/
def classApartWrong : ChangeSpec := { name := "classApart", fn := fun _ => fun
  | [d1, d2] => { results := [.lit (.bool false)], args := [d1, d2] }
  | _ => none }
def ClassApartWrongFalsely : Prop := classApartRow.holds Try.pinned (OpenSpec.ofChange classApartWrong)

/-- 'burinlaw12.ClassMore': WHATEVER THE INPUT: true; the input reads as it did. -/
def classMoreSpec : ChangeSpec := { name := "classMore", fn := fun _ => fun
  | [d1, d2, d3] => { results := [.lit (.bool true)], args := [d1, d2, d3] }
  | _ => none }
def classMoreRow : OpenClaim := { program := "ytcggghamnmflcaa", sum := "deab62682de1914896faba5145038978e45692792d2b249fc6480bc04430d2fc", func := "burin/burinlaw12.ClassMore", spec := "classMore", unfollowed := true, recurses := true, loops := true, plainKeys := false, apart := false }
def ClassMoreSaid : Prop := classMoreRow.holds Try.pinned (OpenSpec.ofChange classMoreSpec)

/-- ITS FALSE NEIGHBOUR: 'it returns false'. Refute it at one input. -/
def classMoreWrong : ChangeSpec := { name := "classMore", fn := fun _ => fun
  | [d1, d2, d3] => { results := [.lit (.bool false)], args := [d1, d2, d3] }
  | _ => none }
def ClassMoreWrongFalsely : Prop := classMoreRow.holds Try.pinned (OpenSpec.ofChange classMoreWrong)

/-- 'burinlaw11.ImageLeaves': WHATEVER THE INPUT: true; the input reads as it did. -/
def imageLeavesSpec : ChangeSpec := { name := "imageLeaves", fn := fun _ => fun
  | [d1, d2] => { results := [.lit (.bool true)], args := [d1, d2] }
  | _ => none }
def imageLeavesRow : OpenClaim := { program := "ytcggghamnmflcaa", sum := "deab62682de1914896faba5145038978e45692792d2b249fc6480bc04430d2fc", func := "burin/burinlaw11.ImageLeaves", spec := "imageLeaves", unfollowed := true, recurses := true, loops := true, plainKeys := false, apart := false }
def ImageLeavesSaid : Prop := imageLeavesRow.holds Try.pinned (OpenSpec.ofChange imageLeavesSpec)

/-- ITS FALSE NEIGHBOUR: 'it returns false'. Refute it at one input. -/
def imageLeavesWrong : ChangeSpec := { name := "imageLeaves", fn := fun _ => fun
  | [d1, d2] => { results := [.lit (.bool false)], args := [d1, d2] }
  | _ => none }
def ImageLeavesWrongFalsely : Prop := imageLeavesRow.holds Try.pinned (OpenSpec.ofChange imageLeavesWrong)

/- THE SECOND FORM. 'bulk': how many values and letters a reading holds, each counted each time it is reached (what is shared counts as often as it is met; a slice's spare places count too). A statement '..UptoSaid' is the law's where the arguments, and the package variables that the reading takes, are together of bulk at most 1048576: NARROWER than '..Said'. Prove '..Said' where nothing that the law and all that it calls make is longer than what came in: it says more and counts as full. Else prove '..UptoSaid'. A law counts once. -/
mutual
def uptoBulk {H : Type} : DataW H → Nat
  | .lit (.string bytes) => bytes.length + 1
  | .lit _ => 1
  | .nil => 1
  | .ptr d => uptoBulk d + 1
  | .slice elems spare => uptoBulkAll elems + uptoBulkAll spare + 1
  | .agg parts => uptoBulkAll parts + 1
  | .iface _ d => uptoBulk d + 1
  | .map entries => uptoBulkEntries entries + 1
  | .held _ => 1
def uptoBulkAll {H : Type} : List (DataW H) → Nat
  | [] => 0
  | d :: r => uptoBulk d + uptoBulkAll r
def uptoBulkEntries {H : Type} : List (Lit × DataW H) → Nat
  | [] => 0
  | x :: r => uptoBulkEntry x + uptoBulkEntries r
def uptoBulkEntry {H : Type} : Lit × DataW H → Nat
  | (.string bytes, d) => bytes.length + uptoBulk d + 1
  | (_, d) => uptoBulk d + 1
 end
def uptoSmall : (H : Type) → List (DataW H) → Bool := fun _ ds => decide (uptoBulkAll ds ≤ 1048576)
def OpenSpec.upto (s : _root_.Go.ChangeSpec) : _root_.Go.OpenSpec := { _root_.Go.OpenSpec.ofChange s with cond := some uptoSmall }

/-- 'burinlaw08.KindUsual', WHERE WHAT IT READS IS OF BULK AT MOST 1048576: true; the input reads as it did. -/
def kindUsualUptoRow : OpenClaim := { program := "ytcggghamnmflcaa", sum := "deab62682de1914896faba5145038978e45692792d2b249fc6480bc04430d2fc", func := "burin/burinlaw08.KindUsual", spec := "kindUsual", plainKeys := false, apart := false, narrowed := true }
def KindUsualUptoSaid : Prop := kindUsualUptoRow.holds Try.pinned (OpenSpec.upto kindUsualSpec)

/-- 'burinlaw08.KindTurns', WHERE WHAT IT READS IS OF BULK AT MOST 1048576: true; the input reads as it did. -/
def kindTurnsUptoRow : OpenClaim := { program := "ytcggghamnmflcaa", sum := "deab62682de1914896faba5145038978e45692792d2b249fc6480bc04430d2fc", func := "burin/burinlaw08.KindTurns", spec := "kindTurns", plainKeys := false, apart := false, narrowed := true }
def KindTurnsUptoSaid : Prop := kindTurnsUptoRow.holds Try.pinned (OpenSpec.upto kindTurnsSpec)

/-- 'burinlaw08.KindNarrow', WHERE WHAT IT READS IS OF BULK AT MOST 1048576: true; the input reads as it did. -/
def kindNarrowUptoRow : OpenClaim := { program := "ytcggghamnmflcaa", sum := "deab62682de1914896faba5145038978e45692792d2b249fc6480bc04430d2fc", func := "burin/burinlaw08.KindNarrow", spec := "kindNarrow", plainKeys := false, apart := false, narrowed := true }
def KindNarrowUptoSaid : Prop := kindNarrowUptoRow.holds Try.pinned (OpenSpec.upto kindNarrowSpec)

/-- 'burinlaw08.KindTo', WHERE WHAT IT READS IS OF BULK AT MOST 1048576: true; the input reads as it did. -/
def kindToUptoRow : OpenClaim := { program := "ytcggghamnmflcaa", sum := "deab62682de1914896faba5145038978e45692792d2b249fc6480bc04430d2fc", func := "burin/burinlaw08.KindTo", spec := "kindTo", plainKeys := false, apart := false, narrowed := true }
def KindToUptoSaid : Prop := kindToUptoRow.holds Try.pinned (OpenSpec.upto kindToSpec)

/-- 'burinlaw08.KindOnce', WHERE WHAT IT READS IS OF BULK AT MOST 1048576: true; the input reads as it did. -/
def kindOnceUptoRow : OpenClaim := { program := "ytcggghamnmflcaa", sum := "deab62682de1914896faba5145038978e45692792d2b249fc6480bc04430d2fc", func := "burin/burinlaw08.KindOnce", spec := "kindOnce", plainKeys := false, apart := false, narrowed := true }
def KindOnceUptoSaid : Prop := kindOnceUptoRow.holds Try.pinned (OpenSpec.upto kindOnceSpec)

/-- 'burintop.TopClasses', WHERE WHAT IT READS IS OF BULK AT MOST 1048576: true; the input reads as it did. -/
def topClassesUptoRow : OpenClaim := { program := "ytcggghamnmflcaa", sum := "deab62682de1914896faba5145038978e45692792d2b249fc6480bc04430d2fc", func := "burin/burintop.TopClasses", spec := "topClasses", unfollowed := true, recurses := true, loops := true, plainKeys := false, apart := false, narrowed := true }
def TopClassesUptoSaid : Prop := topClassesUptoRow.holds Try.pinned (OpenSpec.upto topClassesSpec)

/-- 'burinlaw08.KindOfs', WHERE WHAT IT READS IS OF BULK AT MOST 1048576: true; the input reads as it did. -/
def kindOfsUptoRow : OpenClaim := { program := "ytcggghamnmflcaa", sum := "deab62682de1914896faba5145038978e45692792d2b249fc6480bc04430d2fc", func := "burin/burinlaw08.KindOfs", spec := "kindOfs", unfollowed := true, recurses := true, plainKeys := false, apart := false, narrowed := true }
def KindOfsUptoSaid : Prop := kindOfsUptoRow.holds Try.pinned (OpenSpec.upto kindOfsSpec)

/-- 'burinlaw10.ShapeMembers', WHERE WHAT IT READS IS OF BULK AT MOST 1048576: true; the input reads as it did. -/
def shapeMembersUptoRow : OpenClaim := { program := "ytcggghamnmflcaa", sum := "deab62682de1914896faba5145038978e45692792d2b249fc6480bc04430d2fc", func := "burin/burinlaw10.ShapeMembers", spec := "shapeMembers", unfollowed := true, recurses := true, loops := true, plainKeys := false, apart := false, narrowed := true }
def ShapeMembersUptoSaid : Prop := shapeMembersUptoRow.holds Try.pinned (OpenSpec.upto shapeMembersSpec)

/-- 'burinlaw10.ShapeLies', WHERE WHAT IT READS IS OF BULK AT MOST 1048576: true; the input reads as it did. -/
def shapeLiesUptoRow : OpenClaim := { program := "ytcggghamnmflcaa", sum := "deab62682de1914896faba5145038978e45692792d2b249fc6480bc04430d2fc", func := "burin/burinlaw10.ShapeLies", spec := "shapeLies", unfollowed := true, recurses := true, loops := true, plainKeys := false, apart := false, narrowed := true }
def ShapeLiesUptoSaid : Prop := shapeLiesUptoRow.holds Try.pinned (OpenSpec.upto shapeLiesSpec)

/-- 'burinlaw10.ShapePacked', WHERE WHAT IT READS IS OF BULK AT MOST 1048576: true; the input reads as it did. -/
def shapePackedUptoRow : OpenClaim := { program := "ytcggghamnmflcaa", sum := "deab62682de1914896faba5145038978e45692792d2b249fc6480bc04430d2fc", func := "burin/burinlaw10.ShapePacked", spec := "shapePacked", unfollowed := true, recurses := true, loops := true, plainKeys := false, apart := false, narrowed := true }
def ShapePackedUptoSaid : Prop := shapePackedUptoRow.holds Try.pinned (OpenSpec.upto shapePackedSpec)

/-- 'burinlaw10.ShapeSizes', WHERE WHAT IT READS IS OF BULK AT MOST 1048576: true; the input reads as it did. -/
def shapeSizesUptoRow : OpenClaim := { program := "ytcggghamnmflcaa", sum := "deab62682de1914896faba5145038978e45692792d2b249fc6480bc04430d2fc", func := "burin/burinlaw10.ShapeSizes", spec := "shapeSizes", unfollowed := true, recurses := true, loops := true, plainKeys := false, apart := false, narrowed := true }
def ShapeSizesUptoSaid : Prop := shapeSizesUptoRow.holds Try.pinned (OpenSpec.upto shapeSizesSpec)

/-- 'burinlaw10.ShapeSame', WHERE WHAT IT READS IS OF BULK AT MOST 1048576: true; the input reads as it did. -/
def shapeSameUptoRow : OpenClaim := { program := "ytcggghamnmflcaa", sum := "deab62682de1914896faba5145038978e45692792d2b249fc6480bc04430d2fc", func := "burin/burinlaw10.ShapeSame", spec := "shapeSame", unfollowed := true, recurses := true, loops := true, plainKeys := false, apart := false, narrowed := true }
def ShapeSameUptoSaid : Prop := shapeSameUptoRow.holds Try.pinned (OpenSpec.upto shapeSameSpec)

/-- 'burinlaw10.ShapeLeaves', WHERE WHAT IT READS IS OF BULK AT MOST 1048576: true; the input reads as it did. -/
def shapeLeavesUptoRow : OpenClaim := { program := "ytcggghamnmflcaa", sum := "deab62682de1914896faba5145038978e45692792d2b249fc6480bc04430d2fc", func := "burin/burinlaw10.ShapeLeaves", spec := "shapeLeaves", unfollowed := true, recurses := true, loops := true, plainKeys := false, apart := false, narrowed := true }
def ShapeLeavesUptoSaid : Prop := shapeLeavesUptoRow.holds Try.pinned (OpenSpec.upto shapeLeavesSpec)

/-- 'burinlaw10.ShapeArrays', WHERE WHAT IT READS IS OF BULK AT MOST 1048576: true; the input reads as it did. -/
def shapeArraysUptoRow : OpenClaim := { program := "ytcggghamnmflcaa", sum := "deab62682de1914896faba5145038978e45692792d2b249fc6480bc04430d2fc", func := "burin/burinlaw10.ShapeArrays", spec := "shapeArrays", unfollowed := true, recurses := true, loops := true, plainKeys := false, apart := false, narrowed := true }
def ShapeArraysUptoSaid : Prop := shapeArraysUptoRow.holds Try.pinned (OpenSpec.upto shapeArraysSpec)

/-- 'burinlaw11.ImageMakes', WHERE WHAT IT READS IS OF BULK AT MOST 1048576: true; the input reads as it did. -/
def imageMakesUptoRow : OpenClaim := { program := "ytcggghamnmflcaa", sum := "deab62682de1914896faba5145038978e45692792d2b249fc6480bc04430d2fc", func := "burin/burinlaw11.ImageMakes", spec := "imageMakes", unfollowed := true, recurses := true, loops := true, plainKeys := false, apart := false, narrowed := true }
def ImageMakesUptoSaid : Prop := imageMakesUptoRow.holds Try.pinned (OpenSpec.upto imageMakesSpec)

/-- 'burinlaw11.ImageSpots', WHERE WHAT IT READS IS OF BULK AT MOST 1048576: true; the input reads as it did. -/
def imageSpotsUptoRow : OpenClaim := { program := "ytcggghamnmflcaa", sum := "deab62682de1914896faba5145038978e45692792d2b249fc6480bc04430d2fc", func := "burin/burinlaw11.ImageSpots", spec := "imageSpots", unfollowed := true, recurses := true, loops := true, plainKeys := false, apart := false, narrowed := true }
def ImageSpotsUptoSaid : Prop := imageSpotsUptoRow.holds Try.pinned (OpenSpec.upto imageSpotsSpec)

/-- 'burinlaw11.ImageGets', WHERE WHAT IT READS IS OF BULK AT MOST 1048576: true; the input reads as it did. -/
def imageGetsUptoRow : OpenClaim := { program := "ytcggghamnmflcaa", sum := "deab62682de1914896faba5145038978e45692792d2b249fc6480bc04430d2fc", func := "burin/burinlaw11.ImageGets", spec := "imageGets", unfollowed := true, recurses := true, loops := true, plainKeys := false, apart := false, narrowed := true }
def ImageGetsUptoSaid : Prop := imageGetsUptoRow.holds Try.pinned (OpenSpec.upto imageGetsSpec)

/-- 'burinlaw11.ImageSteps', WHERE WHAT IT READS IS OF BULK AT MOST 1048576: true; the input reads as it did. -/
def imageStepsUptoRow : OpenClaim := { program := "ytcggghamnmflcaa", sum := "deab62682de1914896faba5145038978e45692792d2b249fc6480bc04430d2fc", func := "burin/burinlaw11.ImageSteps", spec := "imageSteps", unfollowed := true, recurses := true, loops := true, plainKeys := false, apart := false, narrowed := true }
def ImageStepsUptoSaid : Prop := imageStepsUptoRow.holds Try.pinned (OpenSpec.upto imageStepsSpec)

/-- 'burinlaw11.ImageBack', WHERE WHAT IT READS IS OF BULK AT MOST 1048576: true; the input reads as it did. -/
def imageBackUptoRow : OpenClaim := { program := "ytcggghamnmflcaa", sum := "deab62682de1914896faba5145038978e45692792d2b249fc6480bc04430d2fc", func := "burin/burinlaw11.ImageBack", spec := "imageBack", unfollowed := true, recurses := true, loops := true, plainKeys := false, apart := false, narrowed := true }
def ImageBackUptoSaid : Prop := imageBackUptoRow.holds Try.pinned (OpenSpec.upto imageBackSpec)

/-- 'burinlaw11.ImageSwaps', WHERE WHAT IT READS IS OF BULK AT MOST 1048576: true; the input reads as it did. -/
def imageSwapsUptoRow : OpenClaim := { program := "ytcggghamnmflcaa", sum := "deab62682de1914896faba5145038978e45692792d2b249fc6480bc04430d2fc", func := "burin/burinlaw11.ImageSwaps", spec := "imageSwaps", unfollowed := true, recurses := true, loops := true, plainKeys := false, apart := false, narrowed := true }
def ImageSwapsUptoSaid : Prop := imageSwapsUptoRow.holds Try.pinned (OpenSpec.upto imageSwapsSpec)

/-- 'burinlaw12.ClassTypes', WHERE WHAT IT READS IS OF BULK AT MOST 1048576: true; the input reads as it did. -/
def classTypesUptoRow : OpenClaim := { program := "ytcggghamnmflcaa", sum := "deab62682de1914896faba5145038978e45692792d2b249fc6480bc04430d2fc", func := "burin/burinlaw12.ClassTypes", spec := "classTypes", unfollowed := true, recurses := true, loops := true, plainKeys := false, apart := false, narrowed := true }
def ClassTypesUptoSaid : Prop := classTypesUptoRow.holds Try.pinned (OpenSpec.upto classTypesSpec)

/-- 'burinlaw12.ClassPasses', WHERE WHAT IT READS IS OF BULK AT MOST 1048576: true; the input reads as it did. -/
def classPassesUptoRow : OpenClaim := { program := "ytcggghamnmflcaa", sum := "deab62682de1914896faba5145038978e45692792d2b249fc6480bc04430d2fc", func := "burin/burinlaw12.ClassPasses", spec := "classPasses", unfollowed := true, recurses := true, loops := true, plainKeys := false, apart := false, narrowed := true }
def ClassPassesUptoSaid : Prop := classPassesUptoRow.holds Try.pinned (OpenSpec.upto classPassesSpec)

/-- 'burinlaw12.ClassApart', WHERE WHAT IT READS IS OF BULK AT MOST 1048576: true; the input reads as it did. -/
def classApartUptoRow : OpenClaim := { program := "ytcggghamnmflcaa", sum := "deab62682de1914896faba5145038978e45692792d2b249fc6480bc04430d2fc", func := "burin/burinlaw12.ClassApart", spec := "classApart", unfollowed := true, recurses := true, loops := true, plainKeys := false, apart := false, narrowed := true }
def ClassApartUptoSaid : Prop := classApartUptoRow.holds Try.pinned (OpenSpec.upto classApartSpec)

/-- 'burinlaw12.ClassMore', WHERE WHAT IT READS IS OF BULK AT MOST 1048576: true; the input reads as it did. -/
def classMoreUptoRow : OpenClaim := { program := "ytcggghamnmflcaa", sum := "deab62682de1914896faba5145038978e45692792d2b249fc6480bc04430d2fc", func := "burin/burinlaw12.ClassMore", spec := "classMore", unfollowed := true, recurses := true, loops := true, plainKeys := false, apart := false, narrowed := true }
def ClassMoreUptoSaid : Prop := classMoreUptoRow.holds Try.pinned (OpenSpec.upto classMoreSpec)

/-- 'burinlaw11.ImageLeaves', WHERE WHAT IT READS IS OF BULK AT MOST 1048576: true; the input reads as it did. -/
def imageLeavesUptoRow : OpenClaim := { program := "ytcggghamnmflcaa", sum := "deab62682de1914896faba5145038978e45692792d2b249fc6480bc04430d2fc", func := "burin/burinlaw11.ImageLeaves", spec := "imageLeaves", unfollowed := true, recurses := true, loops := true, plainKeys := false, apart := false, narrowed := true }
def ImageLeavesUptoSaid : Prop := imageLeavesUptoRow.holds Try.pinned (OpenSpec.upto imageLeavesSpec)

end Rows
end Go.Proofs.Ytcggghamnmflcaa

/- Closed facts of the program's head, which the rows share: no condition. -/
import Derived.Test.YtcggghamnmflcaaRows
import Derived.JoinedOf
namespace Go.Proofs.Ytcggghamnmflcaa
open Go
theorem head_is : Try.prog.initOrder = "harness 0fbb1a2704ff97e6bbbaa2fc4306c08dfcc5c9e2e2c7f36b70de9e617f9d5bfd cut at burin/burinlaw08.KindUsual burin/burinlaw08.KindTurns burin/burinlaw08.KindNarrow burin/burinlaw08.KindTo burin/burinlaw08.KindOnce burin/burintop.TopClasses burin/burinlaw08.KindOfs burin/burinlaw10.ShapeMembers burin/burinlaw10.ShapeLies burin/burinlaw10.ShapePacked burin/burinlaw10.ShapeSizes burin/burinlaw10.ShapeSame burin/burinlaw10.ShapeLeaves burin/burinlaw10.ShapeArrays burin/burinlaw11.ImageMakes burin/burinlaw11.ImageSpots burin/burinlaw11.ImageGets burin/burinlaw11.ImageSteps burin/burinlaw11.ImageBack burin/burinlaw11.ImageSwaps burin/burinlaw12.ClassTypes burin/burinlaw12.ClassPasses burin/burinlaw12.ClassApart burin/burinlaw12.ClassMore burin/burinlaw11.ImageLeaves" := by kernel_rfl
/-- A head of these first words, whatever else the program is. -/
structure Headed (P : Program) : Prop where mk :: (out : ∃ s r, wordsSigns P.initOrder.toList = "harness".toList :: s :: "cut".toList :: r ∧ isSumSigns s = true)
theorem Headed.behind {P : Program} (h : Headed P) : ∃ r, behindMainWord (wordsSigns P.initOrder.toList) = "cut".toList :: r := by
  obtain ⟨s, r, hw, hs⟩ := h.out
  refine ⟨r, ?_⟩
  rw [hw, behindMainWord, hs]
  rfl
theorem strip_cut (r : List (List Char)) : stripLifts liftWords ("cut".toList :: r) = ([], "cut".toList :: r) := rfl
theorem Headed.lifts {P : Program} (h : Headed P) : P.headLifts = [] := by
  obtain ⟨r, hr⟩ := h.behind
  unfold Program.headLifts
  rw [hr, strip_cut]
  rfl
theorem Headed.make {P : Program} (h : Headed P) : P.make = some .cut := by
  obtain ⟨r, hr⟩ := h.behind
  unfold Program.make
  rw [hr]
  rfl
theorem Headed.final {P : Program} (h : Headed P) : P.liftsFinal = false := by
  obtain ⟨r, hr⟩ := h.behind
  unfold Program.liftsFinal
  rw [hr, h.lifts]
  rfl
theorem Headed.enters {P : Program} (h : Headed P) (h1 : P.laysLater = false) (h2 : P.bearsReflect = false) (h3 : P.doorFits [] = true) : P.mayEnter = true := by
  obtain ⟨r, hr⟩ := h.behind
  unfold Program.mayEnter
  rw [hr, h1, h2]
  simp only [strip_cut, h3]
  rfl
set_option maxRecDepth 100000 in
theorem headed : Headed Try.prog := by
  have hl : Try.prog.initOrder.toList = _ := (congrArg String.toList head_is).trans String.toList_ofList
  have hw := congrArg wordsSigns hl
  simp only [wordsSigns, Char.reduceEq, imp_self] at hw
  exact ⟨_, _, hw, by decide⟩
theorem mayEnter_is : Try.prog.mayEnter = true := headed.enters (by kernel_rfl) (by kernel_rfl) (by kernel_rfl)
theorem lifts_is : Try.prog.liftsFinal = false := headed.final
theorem make_is : Try.prog.make = some .cut := headed.make
theorem and_of {a b : Bool} (h : a = true) (k : b = true) : (a && b) = true := by rw [h, k]; rfl
theorem joined_of {P : Program} {f : FuncId} {fn : Func} {s : ChangeSpec} {c : OpenClaim} (h0 : (c.wf (OpenSpec.ofChange s)) = true) (h1 : (laidOutB P) = true) (h2 : (mapsRowed P) = true) (h3 : (fn.params.all (P.readableRec ·)) = true) (h4 : (namedTie P c.named s.vars) = true) (h5 : ((c.stops == [])) = true) (h6 : ((P.stops == [])) = true) (h7 : ((c.knobs == [])) = true) (h8 : ((P.stopKnobs == [])) = true) (h9 : ((c.inPlace == P.inPlace f)) = true) (h10 : ((c.unfollowed == P.unfollowed f)) = true) (h11 : ((c.recurses == P.recurses f)) = true) (h12 : ((c.named == P.varsNamed f)) = true) (h13 : ((c.maps == (fn.params.toList ++ s.plain.varTypes P).any (P.mapsRec ·))) = true) (h14 : ((c.ifaces == (fn.params.toList ++ s.plain.varTypes P).any (P.ifacesRec ·))) = true) (h15 : ((c.mapsOut == P.mapsAmong fn.resultTypes.toList)) = true) (h16 : ((c.loops == (fn.params.toList ++ s.plain.varTypes P).any (P.loopsFrom ·))) = true) (h17 : ((c.wideKeys == (fn.params.toList ++ s.plain.varTypes P ++ fn.resultTypes.toList).any (P.wideKeysFrom ·))) = true) (h18 : (s.vars.all (P.varReadable ·)) = true) (h19 : (fn.resultTypes.all (fun t => P.readableRec t && decide (t < P.types.size))) = true) (h20 : ((c.ifacesOut == fn.resultTypes.toList.any (P.ifacesRec ·))) = true) (h21 : ((c.loopsOut == fn.resultTypes.toList.any (P.loopsFrom ·))) = true) (h22 : ((c.plainKeys == P.plainKeys)) = true) (h23 : (c.shortTexts.isNone) = true) (h24 : (P.stopsHeard) = true) (h25 : (P.mayEnter) = true) (h26 : c.lifted = false) (h26' : P.liftsFinal = false) (h27 : c.make = .cut) (h27' : P.make = some .cut) (h28 : ((c.kinds == (if c.domain.isEmpty then [] else fn.params.toList.map fun t => match P.underlying t with | some (.int k) => some k | _ => none))) = true) (h29 : ((c.pinned == c.pinnedBy)) = true) (h30 : ((c.veiled == (fn.params.toList ++ s.plain.varTypes P ++ fn.resultTypes.toList).any (P.veiledRec ·))) = true) (h31 : (c.veiledFits P fn.params.toList (fn.params.toList ++ s.plain.varTypes P ++ fn.resultTypes.toList)) = true) : joinedFacts P f fn s c = true :=
  (and_of (and_of (and_of (and_of (and_of (and_of (and_of (and_of (and_of (and_of (and_of (and_of (and_of (and_of (and_of (and_of (and_of (and_of (and_of (and_of (and_of (and_of (and_of (and_of (and_of (and_of (and_of (and_of (and_of (and_of (and_of h0 h1) h2) h3) h4) h5) h6) h7) h8) h9) h10) h11) h12) h13) h14) h15) h16) h17) h18) h19) h20) h21) h22) h23) h24) h25) (by rw [h26, h26']; rfl)) (by rw [h27, h27']; rfl)) h28) h29) h30) h31)
theorem laid_is : (laidOutB Try.prog) = true := by kernel_rfl
theorem rowed_is : (mapsRowed Try.prog) = true := by kernel_rfl
theorem stops_is : ((Try.prog.stops == [])) = true := by kernel_rfl
theorem knobs_is : ((Try.prog.stopKnobs == [])) = true := by kernel_rfl
theorem heard_is : (Try.prog.stopsHeard) = true := by kernel_rfl
end Go.Proofs.Ytcggghamnmflcaa

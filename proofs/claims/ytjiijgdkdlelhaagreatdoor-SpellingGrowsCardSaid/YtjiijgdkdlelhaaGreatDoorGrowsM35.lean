/- SpellingGrows: the closed facts of the row. -/
import Derived.Test.YtjiijgdkdlelhaaGreatDoorGrowsM15
/- SpellingGrows: the closed facts of the row. -/
namespace Go.Proofs.YtjiijgdkdlelhaaGreatDoor
open Go.ChangeShapes Go.WideShapes Go.ChangeAt Go.RowKit Go.Shelf Go.Lib
set_option maxRecDepth 100000
theorem gtF0 : Rows.spellingGrowsRow.wf (OpenSpec.ofChange Rows.spellingGrowsSpec) = true := by kernel_rfl
theorem gtF1 : laidOutB Tryz.prog = true := by kernel_rfl
theorem gtF2 : mapsRowed Tryz.prog = true := by kernel_rfl
theorem gtF3 : Tryz.f3.params.all (Tryz.prog.readableRec ·) = true := by kernel_rfl
theorem gtF4 : namedTie Tryz.prog Rows.spellingGrowsRow.named Rows.spellingGrowsSpec.vars = true := by kernel_rfl
theorem gtF5 : (Rows.spellingGrowsRow.stops == []) = true := by kernel_rfl
theorem gtF6 : (Tryz.prog.stops == []) = true := by kernel_rfl
theorem gtF7 : (Rows.spellingGrowsRow.knobs == []) = true := by kernel_rfl
theorem gtF8 : (Tryz.prog.stopKnobs == []) = true := by kernel_rfl
theorem gtF9 : (Rows.spellingGrowsRow.inPlace == Tryz.prog.inPlace 3) = true := by kernel_rfl
theorem gtF10 : (Rows.spellingGrowsRow.unfollowed == Tryz.prog.unfollowed 3) = true := by kernel_rfl
theorem gtF11 : (Rows.spellingGrowsRow.recurses == Tryz.prog.recurses 3) = true := by kernel_rfl
theorem gtF12 : (Rows.spellingGrowsRow.named == Tryz.prog.varsNamed 3) = true := by kernel_rfl
theorem gtF13 : (Rows.spellingGrowsRow.maps == (Tryz.f3.params.toList ++ Rows.spellingGrowsSpec.plain.varTypes Tryz.prog).any (Tryz.prog.mapsRec ·)) = true := by kernel_rfl
theorem gtF14 : (Rows.spellingGrowsRow.ifaces == (Tryz.f3.params.toList ++ Rows.spellingGrowsSpec.plain.varTypes Tryz.prog).any (Tryz.prog.ifacesRec ·)) = true := by kernel_rfl
theorem gtF15 : (Rows.spellingGrowsRow.mapsOut == Tryz.prog.mapsAmong Tryz.f3.resultTypes.toList) = true := by kernel_rfl
theorem gtF16 : (Rows.spellingGrowsRow.loops == (Tryz.f3.params.toList ++ Rows.spellingGrowsSpec.plain.varTypes Tryz.prog).any (Tryz.prog.loopsFrom ·)) = true := by kernel_rfl
theorem gtF17 : (Rows.spellingGrowsRow.wideKeys == (Tryz.f3.params.toList ++ Rows.spellingGrowsSpec.plain.varTypes Tryz.prog ++ Tryz.f3.resultTypes.toList).any (Tryz.prog.wideKeysFrom ·)) = true := by kernel_rfl
theorem gtF18 : Rows.spellingGrowsSpec.vars.all (Tryz.prog.varReadable ·) = true := by kernel_rfl
theorem gtF19 : Tryz.f3.resultTypes.all (fun t => Tryz.prog.readableRec t && decide (t < Tryz.prog.types.size)) = true := by kernel_rfl
theorem gtF20 : (Rows.spellingGrowsRow.ifacesOut == Tryz.f3.resultTypes.toList.any (Tryz.prog.ifacesRec ·)) = true := by kernel_rfl
theorem gtF21 : (Rows.spellingGrowsRow.loopsOut == Tryz.f3.resultTypes.toList.any (Tryz.prog.loopsFrom ·)) = true := by kernel_rfl
theorem gtF22 : (Rows.spellingGrowsRow.plainKeys == Tryz.prog.plainKeys) = true := by kernel_rfl
theorem gtF23 : Rows.spellingGrowsRow.shortTexts.isNone = true := by kernel_rfl
theorem gtF24 : Tryz.prog.stopsHeard = true := by kernel_rfl
theorem gtF25 : Tryz.prog.mayEnter = true := by kernel_rfl
theorem gtF26 : (Rows.spellingGrowsRow.lifted == Tryz.prog.liftsFinal) = true := by kernel_rfl
theorem gtF27 : (Tryz.prog.make == some Rows.spellingGrowsRow.make) = true := by kernel_rfl
theorem gtF28 : (Rows.spellingGrowsRow.kinds == (if Rows.spellingGrowsRow.domain.isEmpty then [] else Tryz.f3.params.toList.map fun t => match Tryz.prog.underlying t with | some (.int k) => some k | _ => none)) = true := by kernel_rfl
theorem gtF29 : (Rows.spellingGrowsRow.pinned == Rows.spellingGrowsRow.pinnedBy) = true := by kernel_rfl
theorem gtF30 : (Rows.spellingGrowsRow.veiled == (Tryz.f3.params.toList ++ Rows.spellingGrowsSpec.plain.varTypes Tryz.prog ++ Tryz.f3.resultTypes.toList).any (Tryz.prog.veiledRec ·)) = true := by kernel_rfl
theorem gtF31 : Rows.spellingGrowsRow.veiledFits Tryz.prog Tryz.f3.params.toList (Tryz.f3.params.toList ++ Rows.spellingGrowsSpec.plain.varTypes Tryz.prog ++ Tryz.f3.resultTypes.toList) = true := by kernel_rfl
theorem gtFall : joinedFacts Tryz.prog 3 Tryz.f3 Rows.spellingGrowsSpec Rows.spellingGrowsRow = true :=
  and_tt (and_tt (and_tt (and_tt (and_tt (and_tt (and_tt (and_tt (and_tt (and_tt (and_tt (and_tt (and_tt (and_tt (and_tt (and_tt (and_tt (and_tt (and_tt (and_tt (and_tt (and_tt (and_tt (and_tt (and_tt (and_tt (and_tt (and_tt (and_tt (and_tt (and_tt (gtF0) gtF1) gtF2) gtF3) gtF4) gtF5) gtF6) gtF7) gtF8) gtF9) gtF10) gtF11) gtF12) gtF13) gtF14) gtF15) gtF16) gtF17) gtF18) gtF19) gtF20) gtF21) gtF22) gtF23) gtF24) gtF25) gtF26) gtF27) gtF28) gtF29) gtF30) gtF31
end Go.Proofs.YtjiijgdkdlelhaaGreatDoor

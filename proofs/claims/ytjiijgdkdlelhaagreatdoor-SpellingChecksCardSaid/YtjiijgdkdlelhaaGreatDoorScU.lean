/- SpellingChecks: the closed facts of the row. -/
import Derived.Test.YtjiijgdkdlelhaaGreatDoorScT
namespace Go.Proofs.YtjiijgdkdlelhaaGreatDoor
open Go.ChangeShapes Go.WideShapes Go.ChangeAt Go.RowKit Go.Shelf Go.Lib
set_option maxRecDepth 100000
theorem and_tt {a b : Bool} (ha : a = true) (hb : b = true) : (a && b) = true := by rw [ha, hb]; rfl
theorem ckF0 : Rows.spellingChecksRow.wf (OpenSpec.ofChange Rows.spellingChecksSpec) = true := by kernel_rfl
theorem ckF1 : laidOutB Tryz.prog = true := by kernel_rfl
theorem ckF2 : mapsRowed Tryz.prog = true := by kernel_rfl
theorem ckF3 : Tryz.f8.params.all (Tryz.prog.readableRec ·) = true := by kernel_rfl
theorem ckF4 : namedTie Tryz.prog Rows.spellingChecksRow.named Rows.spellingChecksSpec.vars = true := by kernel_rfl
theorem ckF5 : (Rows.spellingChecksRow.stops == []) = true := by kernel_rfl
theorem ckF6 : (Tryz.prog.stops == []) = true := by kernel_rfl
theorem ckF7 : (Rows.spellingChecksRow.knobs == []) = true := by kernel_rfl
theorem ckF8 : (Tryz.prog.stopKnobs == []) = true := by kernel_rfl
theorem ckF9 : (Rows.spellingChecksRow.inPlace == Tryz.prog.inPlace 8) = true := by kernel_rfl
theorem ckF10 : (Rows.spellingChecksRow.unfollowed == Tryz.prog.unfollowed 8) = true := by kernel_rfl
theorem ckF11 : (Rows.spellingChecksRow.recurses == Tryz.prog.recurses 8) = true := by kernel_rfl
theorem ckF12 : (Rows.spellingChecksRow.named == Tryz.prog.varsNamed 8) = true := by kernel_rfl
theorem ckF13 : (Rows.spellingChecksRow.maps == (Tryz.f8.params.toList ++ Rows.spellingChecksSpec.plain.varTypes Tryz.prog).any (Tryz.prog.mapsRec ·)) = true := by kernel_rfl
theorem ckF14 : (Rows.spellingChecksRow.ifaces == (Tryz.f8.params.toList ++ Rows.spellingChecksSpec.plain.varTypes Tryz.prog).any (Tryz.prog.ifacesRec ·)) = true := by kernel_rfl
theorem ckF15 : (Rows.spellingChecksRow.mapsOut == Tryz.prog.mapsAmong Tryz.f8.resultTypes.toList) = true := by kernel_rfl
theorem ckF16 : (Rows.spellingChecksRow.loops == (Tryz.f8.params.toList ++ Rows.spellingChecksSpec.plain.varTypes Tryz.prog).any (Tryz.prog.loopsFrom ·)) = true := by kernel_rfl
theorem ckF17 : (Rows.spellingChecksRow.wideKeys == (Tryz.f8.params.toList ++ Rows.spellingChecksSpec.plain.varTypes Tryz.prog ++ Tryz.f8.resultTypes.toList).any (Tryz.prog.wideKeysFrom ·)) = true := by kernel_rfl
theorem ckF18 : Rows.spellingChecksSpec.vars.all (Tryz.prog.varReadable ·) = true := by kernel_rfl
theorem ckF19 : Tryz.f8.resultTypes.all (fun t => Tryz.prog.readableRec t && decide (t < Tryz.prog.types.size)) = true := by kernel_rfl
theorem ckF20 : (Rows.spellingChecksRow.ifacesOut == Tryz.f8.resultTypes.toList.any (Tryz.prog.ifacesRec ·)) = true := by kernel_rfl
theorem ckF21 : (Rows.spellingChecksRow.loopsOut == Tryz.f8.resultTypes.toList.any (Tryz.prog.loopsFrom ·)) = true := by kernel_rfl
theorem ckF22 : (Rows.spellingChecksRow.plainKeys == Tryz.prog.plainKeys) = true := by kernel_rfl
theorem ckF23 : Rows.spellingChecksRow.shortTexts.isNone = true := by kernel_rfl
theorem ckF24 : Tryz.prog.stopsHeard = true := by kernel_rfl
theorem ckF25 : Tryz.prog.mayEnter = true := by kernel_rfl
theorem ckF26 : (Rows.spellingChecksRow.lifted == Tryz.prog.liftsFinal) = true := by kernel_rfl
theorem ckF27 : (Tryz.prog.make == some Rows.spellingChecksRow.make) = true := by kernel_rfl
theorem ckF28 : (Rows.spellingChecksRow.kinds == (if Rows.spellingChecksRow.domain.isEmpty then [] else Tryz.f8.params.toList.map fun t => match Tryz.prog.underlying t with | some (.int k) => some k | _ => none)) = true := by kernel_rfl
theorem ckF29 : (Rows.spellingChecksRow.pinned == Rows.spellingChecksRow.pinnedBy) = true := by kernel_rfl
theorem ckF30 : (Rows.spellingChecksRow.veiled == (Tryz.f8.params.toList ++ Rows.spellingChecksSpec.plain.varTypes Tryz.prog ++ Tryz.f8.resultTypes.toList).any (Tryz.prog.veiledRec ·)) = true := by kernel_rfl
theorem ckF31 : Rows.spellingChecksRow.veiledFits Tryz.prog Tryz.f8.params.toList (Tryz.f8.params.toList ++ Rows.spellingChecksSpec.plain.varTypes Tryz.prog ++ Tryz.f8.resultTypes.toList) = true := by kernel_rfl
theorem ckFall : joinedFacts Tryz.prog 8 Tryz.f8 Rows.spellingChecksSpec Rows.spellingChecksRow = true :=
  and_tt (and_tt (and_tt (and_tt (and_tt (and_tt (and_tt (and_tt (and_tt (and_tt (and_tt (and_tt (and_tt (and_tt (and_tt (and_tt (and_tt (and_tt (and_tt (and_tt (and_tt (and_tt (and_tt (and_tt (and_tt (and_tt (and_tt (and_tt (and_tt (and_tt (and_tt (ckF0) ckF1) ckF2) ckF3) ckF4) ckF5) ckF6) ckF7) ckF8) ckF9) ckF10) ckF11) ckF12) ckF13) ckF14) ckF15) ckF16) ckF17) ckF18) ckF19) ckF20) ckF21) ckF22) ckF23) ckF24) ckF25) ckF26) ckF27) ckF28) ckF29) ckF30) ckF31
end Go.Proofs.YtjiijgdkdlelhaaGreatDoor

/-
  DERIVED. GIVEN WITH THE SEED: THE CARDS: each row of YtjiijgdkdlelhaaGreatDoorRows.lean that lists a variable, with what it lists TIED to the program's text (the seventh form; the later family's looks); each row that meets fmt, with fmt's text TOLD by the authors' own Lean function (tested against real Go, not proved from fmt's source: count such statements apart). THE CARD IS WHAT COUNTS. Prove the row's statement (the work); the ties are given (YtjiijgdkdlelhaaGreatDoorTie.lean); close each card by the builder's one call (the guide's Derived/Test/ToyasCard.lean, 'card_holds'). Laid BY PROGRAM, IN A SANDBOX (cutbox-door.mjs). By AI agents, Wed Nov 11 2026. No macro, syntax, notation, axiom, sorry.
-/
import Derived.Test.YtjiijgdkdlelhaaGreatDoorRows
import GoSem.ClaimSeven
namespace Go.Proofs.YtjiijgdkdlelhaaGreatDoor
namespace Rows

/-- THE TIED CARD OF 'schismalaw43.SpellingGrows'. -/
def spellingGrowsCard : Claim7 := { stood := { row := spellingGrowsRow, standIns := [], harness := (true, "b6a399bdc7c428af4ba2c096292ff714980af0e6afabb9a6e19845f6be3fe003"), looks := true }, kinds := [], alts := [], laidByText := true, laidKinds := [.data, .data, .data, .sentinel, .sentinel], laidTests := true, laidLooks := .later }
def SpellingGrowsCardSaid : Prop := Claim7.holds Tryz.pinned (.plain (OpenSpec.ofChange spellingGrowsSpec)) spellingGrowsCard

/-- THE TIED CARD OF 'schismalaw43.SpellingEnharmonic'. -/
def spellingEnharmonicCard : Claim7 := { stood := { row := spellingEnharmonicRow, standIns := [], harness := (true, "b6a399bdc7c428af4ba2c096292ff714980af0e6afabb9a6e19845f6be3fe003"), looks := true }, kinds := [], alts := [], laidByText := true, laidKinds := [.data, .data, .data, .sentinel, .sentinel], laidTests := true, laidLooks := .later }
def SpellingEnharmonicCardSaid : Prop := Claim7.holds Tryz.pinned (.plain (OpenSpec.ofChange spellingEnharmonicSpec)) spellingEnharmonicCard

/-- THE TIED CARD OF 'schismalaw43.SpellingAll'. -/
def spellingAllCard : Claim7 := { stood := { row := spellingAllRow, standIns := [], harness := (true, "b6a399bdc7c428af4ba2c096292ff714980af0e6afabb9a6e19845f6be3fe003"), looks := true }, kinds := [], alts := [], laidByText := true, laidKinds := [.data, .data, .data, .sentinel, .sentinel], laidTests := true, laidLooks := .later }
def SpellingAllCardSaid : Prop := Claim7.holds Tryz.pinned (.plain (OpenSpec.ofChange spellingAllSpec)) spellingAllCard

/-- THE TIED CARD OF 'schismalaw43.SpellingReads'. -/
def spellingReadsCard : Claim7 := { stood := { row := spellingReadsRow, standIns := [], harness := (true, "b6a399bdc7c428af4ba2c096292ff714980af0e6afabb9a6e19845f6be3fe003"), looks := true }, kinds := [], alts := [], laidByText := true, laidKinds := [.data, .data, .data, .sentinel, .sentinel], laidTests := true, laidLooks := .later }
def SpellingReadsCardSaid : Prop := Claim7.holds Tryz.pinned (.plain (OpenSpec.ofChange spellingReadsSpec)) spellingReadsCard

/-- THE TIED CARD OF 'schismalaw43.SpellingRelates'. -/
def spellingRelatesCard : Claim7 := { stood := { row := spellingRelatesRow, standIns := [], harness := (true, "b6a399bdc7c428af4ba2c096292ff714980af0e6afabb9a6e19845f6be3fe003"), looks := true }, kinds := [], alts := [], laidByText := true, laidKinds := [.data, .data, .data, .sentinel, .sentinel], laidTests := true, laidLooks := .later }
def SpellingRelatesCardSaid : Prop := Claim7.holds Tryz.pinned (.plain (OpenSpec.ofChange spellingRelatesSpec)) spellingRelatesCard

/-- THE TIED CARD OF 'schismalaw43.SpellingChecks'. -/
def spellingChecksCard : Claim7 := { stood := { row := spellingChecksRow, standIns := [], harness := (true, "b6a399bdc7c428af4ba2c096292ff714980af0e6afabb9a6e19845f6be3fe003"), looks := true }, kinds := [], alts := [], laidByText := true, laidKinds := [.data, .data, .data, .sentinel, .sentinel], laidTests := true, laidLooks := .later }
def SpellingChecksCardSaid : Prop := Claim7.holds Tryz.pinned (.plain (OpenSpec.ofChange spellingChecksSpec)) spellingChecksCard

/-- THE TIED CARD OF 'schismalaw43.SpellingIntervals'. -/
def spellingIntervalsCard : Claim7 := { stood := { row := spellingIntervalsRow, standIns := [], harness := (true, "b6a399bdc7c428af4ba2c096292ff714980af0e6afabb9a6e19845f6be3fe003"), looks := true }, kinds := [], alts := [], laidByText := true, laidKinds := [.data, .data, .data, .sentinel, .sentinel], laidTests := true, laidLooks := .later }
def SpellingIntervalsCardSaid : Prop := Claim7.holds Tryz.pinned (.plain (OpenSpec.ofChange spellingIntervalsSpec)) spellingIntervalsCard

/-- THE TIED CARD OF 'schismalaw43.SpellingAgrees'. -/
def spellingAgreesCard : Claim7 := { stood := { row := spellingAgreesRow, standIns := [], harness := (true, "b6a399bdc7c428af4ba2c096292ff714980af0e6afabb9a6e19845f6be3fe003"), looks := true }, kinds := [], alts := [], laidByText := true, laidKinds := [.data, .data, .data, .sentinel, .sentinel], laidTests := true, laidLooks := .later }
def SpellingAgreesCardSaid : Prop := Claim7.holds Tryz.pinned (.plain (OpenSpec.ofChange spellingAgreesSpec)) spellingAgreesCard

/-- THE SECOND FORM's CARD OF 'schismalaw43.SpellingGrows'. -/
def spellingGrowsUptoCard : Claim7 := { stood := { row := spellingGrowsUptoRow, standIns := [], harness := (true, "b6a399bdc7c428af4ba2c096292ff714980af0e6afabb9a6e19845f6be3fe003"), looks := true }, kinds := [], alts := [], laidByText := true, laidKinds := [.data, .data, .data, .sentinel, .sentinel], laidTests := true, laidLooks := .later }
def SpellingGrowsUptoCardSaid : Prop := Claim7.holds Tryz.pinned (.plain (OpenSpec.upto spellingGrowsSpec)) spellingGrowsUptoCard

/-- THE SECOND FORM's CARD OF 'schismalaw43.SpellingEnharmonic'. -/
def spellingEnharmonicUptoCard : Claim7 := { stood := { row := spellingEnharmonicUptoRow, standIns := [], harness := (true, "b6a399bdc7c428af4ba2c096292ff714980af0e6afabb9a6e19845f6be3fe003"), looks := true }, kinds := [], alts := [], laidByText := true, laidKinds := [.data, .data, .data, .sentinel, .sentinel], laidTests := true, laidLooks := .later }
def SpellingEnharmonicUptoCardSaid : Prop := Claim7.holds Tryz.pinned (.plain (OpenSpec.upto spellingEnharmonicSpec)) spellingEnharmonicUptoCard

/-- THE SECOND FORM's CARD OF 'schismalaw43.SpellingAll'. -/
def spellingAllUptoCard : Claim7 := { stood := { row := spellingAllUptoRow, standIns := [], harness := (true, "b6a399bdc7c428af4ba2c096292ff714980af0e6afabb9a6e19845f6be3fe003"), looks := true }, kinds := [], alts := [], laidByText := true, laidKinds := [.data, .data, .data, .sentinel, .sentinel], laidTests := true, laidLooks := .later }
def SpellingAllUptoCardSaid : Prop := Claim7.holds Tryz.pinned (.plain (OpenSpec.upto spellingAllSpec)) spellingAllUptoCard

/-- THE SECOND FORM's CARD OF 'schismalaw43.SpellingReads'. -/
def spellingReadsUptoCard : Claim7 := { stood := { row := spellingReadsUptoRow, standIns := [], harness := (true, "b6a399bdc7c428af4ba2c096292ff714980af0e6afabb9a6e19845f6be3fe003"), looks := true }, kinds := [], alts := [], laidByText := true, laidKinds := [.data, .data, .data, .sentinel, .sentinel], laidTests := true, laidLooks := .later }
def SpellingReadsUptoCardSaid : Prop := Claim7.holds Tryz.pinned (.plain (OpenSpec.upto spellingReadsSpec)) spellingReadsUptoCard

/-- THE SECOND FORM's CARD OF 'schismalaw43.SpellingRelates'. -/
def spellingRelatesUptoCard : Claim7 := { stood := { row := spellingRelatesUptoRow, standIns := [], harness := (true, "b6a399bdc7c428af4ba2c096292ff714980af0e6afabb9a6e19845f6be3fe003"), looks := true }, kinds := [], alts := [], laidByText := true, laidKinds := [.data, .data, .data, .sentinel, .sentinel], laidTests := true, laidLooks := .later }
def SpellingRelatesUptoCardSaid : Prop := Claim7.holds Tryz.pinned (.plain (OpenSpec.upto spellingRelatesSpec)) spellingRelatesUptoCard

/-- THE SECOND FORM's CARD OF 'schismalaw43.SpellingChecks'. -/
def spellingChecksUptoCard : Claim7 := { stood := { row := spellingChecksUptoRow, standIns := [], harness := (true, "b6a399bdc7c428af4ba2c096292ff714980af0e6afabb9a6e19845f6be3fe003"), looks := true }, kinds := [], alts := [], laidByText := true, laidKinds := [.data, .data, .data, .sentinel, .sentinel], laidTests := true, laidLooks := .later }
def SpellingChecksUptoCardSaid : Prop := Claim7.holds Tryz.pinned (.plain (OpenSpec.upto spellingChecksSpec)) spellingChecksUptoCard

/-- THE SECOND FORM's CARD OF 'schismalaw43.SpellingIntervals'. -/
def spellingIntervalsUptoCard : Claim7 := { stood := { row := spellingIntervalsUptoRow, standIns := [], harness := (true, "b6a399bdc7c428af4ba2c096292ff714980af0e6afabb9a6e19845f6be3fe003"), looks := true }, kinds := [], alts := [], laidByText := true, laidKinds := [.data, .data, .data, .sentinel, .sentinel], laidTests := true, laidLooks := .later }
def SpellingIntervalsUptoCardSaid : Prop := Claim7.holds Tryz.pinned (.plain (OpenSpec.upto spellingIntervalsSpec)) spellingIntervalsUptoCard

/-- THE SECOND FORM's CARD OF 'schismalaw43.SpellingAgrees'. -/
def spellingAgreesUptoCard : Claim7 := { stood := { row := spellingAgreesUptoRow, standIns := [], harness := (true, "b6a399bdc7c428af4ba2c096292ff714980af0e6afabb9a6e19845f6be3fe003"), looks := true }, kinds := [], alts := [], laidByText := true, laidKinds := [.data, .data, .data, .sentinel, .sentinel], laidTests := true, laidLooks := .later }
def SpellingAgreesUptoCardSaid : Prop := Claim7.holds Tryz.pinned (.plain (OpenSpec.upto spellingAgreesSpec)) spellingAgreesUptoCard
end Rows
end Go.Proofs.YtjiijgdkdlelhaaGreatDoor

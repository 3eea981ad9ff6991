/- SpellingChecks: the tied card: for every notation that can be read, with the listed variables as the program's text lays them, the law returns true and the argument reads as it did. -/
import Derived.Test.YtjiijgdkdlelhaaGreatDoorScV
import Derived.Test.YtjiijgdkdlelhaaGreatDoorTie
import Derived.Test.YtjiijgdkdlelhaaGreatDoorCards
namespace Go.Proofs.YtjiijgdkdlelhaaGreatDoor
open Go.ChangeShapes Go.WideShapes Go.ChangeAt Go.RowKit Go.Shelf Go.Lib
theorem checks_card : Rows.SpellingChecksCardSaid :=
  Claim7.holds_tied_plain_at .later [] [.data, .data, .data, .sentinel, .sentinel] true (true, "b6a399bdc7c428af4ba2c096292ff714980af0e6afabb9a6e19845f6be3fe003") true checks_holds (fun _ h => by cases h) (by as_aux_lemma => kernel_rfl) (fun _ h => by cases h) spellingChecks_row_tie rfl ⟨rfl, rfl⟩ (by as_aux_lemma => kernel_rfl) rfl
    (fun f fn hf hfn => by
      obtain rfl : f = 8 := Option.some.inj (ck_named.symm.trans hf) |>.symm
      obtain rfl : fn = Tryz.f8 := (Option.some.inj (Tryz.func8.symm.trans hfn)).symm
      exact ⟨by as_aux_lemma => kernel_rfl, fun j t ht => by
        rw [Tryz.params8] at ht
        have hm : t ∈ [30] := by simpa using Array.mem_of_getElem? ht
        have hall : ([30].all fun u => !Tryz.prog.wantsStandIn u) = true := by as_aux_lemma => kernel_rfl
        exact (show Tryz.prog.wantsStandIn t = false by simpa using List.all_eq_true.1 hall t hm)⟩)
    (by as_aux_lemma => kernel_rfl)
#print axioms checks_card
end Go.Proofs.YtjiijgdkdlelhaaGreatDoor

/- SpellingGrows: the tied card: for every input that can be read, with the listed variables as the program's text lays them, the law returns true and the input reads as it did. -/
import Derived.Test.YtjiijgdkdlelhaaGreatDoorGrowsM36
import Derived.Test.YtjiijgdkdlelhaaGreatDoorTie
import Derived.Test.YtjiijgdkdlelhaaGreatDoorCards
/- SpellingGrows: the tied card: for every input that can be read, with the listed variables as the program's text lays them, the law returns true and the input reads as it did. -/
namespace Go.Proofs.YtjiijgdkdlelhaaGreatDoor
open Go.ChangeShapes Go.WideShapes Go.ChangeAt Go.RowKit Go.Shelf Go.Lib
theorem spellingGrows_card : Rows.SpellingGrowsCardSaid :=
  Claim7.holds_tied_plain_at .later [] [.data, .data, .data, .sentinel, .sentinel] true (true, "b6a399bdc7c428af4ba2c096292ff714980af0e6afabb9a6e19845f6be3fe003") true spellingGrows_holds (fun _ h => by cases h) (by as_aux_lemma => kernel_rfl) (fun _ h => by cases h) spellingGrows_row_tie rfl ⟨rfl, rfl⟩ (by as_aux_lemma => kernel_rfl) rfl
    (fun f fn hf hfn => by
      obtain rfl : f = 3 := Option.some.inj (gt_named.symm.trans hf) |>.symm
      obtain rfl : fn = Tryz.f3 := (Option.some.inj (Tryz.func3.symm.trans hfn)).symm
      exact ⟨by as_aux_lemma => kernel_rfl, fun j t ht => by
        rw [Tryz.params3] at ht
        have hm : t ∈ [26, 23, 5] := by simpa using Array.mem_of_getElem? ht
        have hall : ([26, 23, 5].all fun u => !Tryz.prog.wantsStandIn u) = true := by as_aux_lemma => kernel_rfl
        exact (show Tryz.prog.wantsStandIn t = false by simpa using List.all_eq_true.1 hall t hm)⟩)
    (by as_aux_lemma => kernel_rfl)
#print axioms spellingGrows_card
end Go.Proofs.YtjiijgdkdlelhaaGreatDoor

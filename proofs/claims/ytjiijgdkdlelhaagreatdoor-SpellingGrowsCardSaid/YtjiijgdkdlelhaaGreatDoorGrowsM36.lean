/- SpellingGrows: the row. -/
import Derived.Test.YtjiijgdkdlelhaaGreatDoorGrowsM34
import Derived.Test.YtjiijgdkdlelhaaGreatDoorGrowsM35
/- SpellingGrows: the row. -/
namespace Go.Proofs.YtjiijgdkdlelhaaGreatDoor
open Go.ChangeShapes Go.WideShapes Go.ChangeAt Go.RowKit Go.Shelf Go.Lib
theorem gt_named : Tryz.prog.funcNamed "schisma/schismalaw43.SpellingGrows" = some 3 := by kernel_rfl
theorem gt_inst : Tryz.f3.isInstance Tryz.prog Rows.spellingGrowsRow.origin Rows.spellingGrowsRow.targs := of_decide_eq_true (by kernel_rfl)
theorem gt_wrap : Tryz.f3.isWrapper Tryz.prog Rows.spellingGrowsRow.wrapper Rows.spellingGrowsRow.mainSum := by unfold Func.isWrapper; first | (rw [if_pos (by decide +kernel)]; kernel_rfl) | (rw [if_neg (by decide +kernel)]; exact ⟨rfl, rfl⟩)
theorem spellingGrows_holds : Rows.SpellingGrowsSaid :=
  OpenClaim.holds_of_wide (p := Tryz.pinned) (s := Rows.spellingGrowsSpec) (c := Rows.spellingGrowsRow) 3 Tryz.f3 rfl rfl rfl rfl rfl rfl rfl ⟨rfl, rfl, rfl, rfl, rfl⟩ rfl rfl rfl rfl rfl gt_named Tryz.func3 gtFall gt_inst gt_wrap
    (fun os started H enc _ => spellingGrows_lifted os started H enc)
end Go.Proofs.YtjiijgdkdlelhaaGreatDoor

/- SpellingChecks: the row. -/
import Derived.Test.YtjiijgdkdlelhaaGreatDoorScU
namespace Go.Proofs.YtjiijgdkdlelhaaGreatDoor
open Go.ChangeShapes Go.WideShapes Go.ChangeAt Go.RowKit Go.Shelf Go.Lib
theorem ck_named : Tryz.prog.funcNamed "schisma/schismalaw43.SpellingChecks" = some 8 := by kernel_rfl
theorem ck_inst : Tryz.f8.isInstance Tryz.prog Rows.spellingChecksRow.origin Rows.spellingChecksRow.targs := of_decide_eq_true (by kernel_rfl)
theorem ck_wrap : Tryz.f8.isWrapper Tryz.prog Rows.spellingChecksRow.wrapper Rows.spellingChecksRow.mainSum := by unfold Func.isWrapper; first | (rw [if_pos (by decide +kernel)]; kernel_rfl) | (rw [if_neg (by decide +kernel)]; exact ⟨rfl, rfl⟩)
theorem checks_holds : Rows.SpellingChecksSaid :=
  OpenClaim.holds_of_wide (p := Tryz.pinned) (s := Rows.spellingChecksSpec) (c := Rows.spellingChecksRow) 8 Tryz.f8 rfl rfl rfl rfl rfl rfl rfl ⟨rfl, rfl, rfl, rfl, rfl⟩ rfl rfl rfl rfl rfl ck_named Tryz.func8 ckFall ck_inst ck_wrap
    (fun os started H enc _ => checks_lifted os started H enc)
end Go.Proofs.YtjiijgdkdlelhaaGreatDoor

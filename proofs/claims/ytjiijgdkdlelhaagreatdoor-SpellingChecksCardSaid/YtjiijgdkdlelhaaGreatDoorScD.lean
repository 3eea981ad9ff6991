/- SpellingChecks: the closure of few. -/
import Derived.Test.YtjiijgdkdlelhaaGreatDoorScC
namespace Go.Proofs.YtjiijgdkdlelhaaGreatDoor
open Go.Shelf Go.RowKit Go.Lib

theorem fewClosure_calls (s : ByteArray) (base : Option Addr) (n c : Nat) (w : World) : Calls Tryz.prog 93 #[.agg #[.string s, .slice base n c]] w fun e w' => e = .returned (.bool (decide (40 < s.size) || decide (14 < n))) ∧ Below w.heap.size w w' := by
  by_cases h1 : 40 < s.size
  · have h1' : (40 : Int) < (s.size : Int) := by omega
    go_enter Tryz.func93, Tryz.ntmps93
    go_wp2
    all_goals go_ret
    all_goals exact ⟨by simp_all; try omega, (Below.refl _ w).alloc (Nat.le_refl _) _⟩
  · have h1' : ¬ (40 : Int) < (s.size : Int) := by omega
    go_enter Tryz.func93, Tryz.ntmps93
    go_wp2
    all_goals go_ret
    all_goals exact ⟨by simp_all; try omega, (Below.refl _ w).alloc (Nat.le_refl _) _⟩
end Go.Proofs.YtjiijgdkdlelhaaGreatDoor

/- The examples of the chapter, evaluated by the kernel. -/
import Derived.Test.YtjiijgdkdlelhaaGreatDoorGrowsM11
import Derived.Test.YtjiijgdkdlelhaaGreatDoorGrowsM12
/- The examples of the chapter, evaluated by the kernel. -/
namespace Go.Proofs.YtjiijgdkdlelhaaGreatDoor
open Go.Ev Go.RowKit
noncomputable def u64s (l : List Nat) : List Value := l.map fun (n : Nat) => .int .u64 (Int.ofNat n)
noncomputable def u8s (l : List Nat) : List Value := l.map fun (n : Nat) => .int .u8 (Int.ofNat n)
noncomputable def p10 : List Nat := [1, 10, 100, 1000, 10000, 100000, 1000000, 10000000, 100000000, 1000000000, 10000000000, 100000000000, 1000000000000, 10000000000000, 100000000000000, 1000000000000000, 10000000000000000, 100000000000000000, 1000000000000000000, 10000000000000000000]
noncomputable def db32 : List Nat := [0, 1, 28, 2, 29, 14, 24, 3, 30, 22, 20, 15, 25, 17, 4, 8, 31, 27, 13, 23, 21, 19, 16, 7, 26, 12, 18, 6, 11, 5, 10, 9]
noncomputable def db64 : List Nat := [0, 1, 56, 2, 57, 49, 28, 3, 61, 58, 42, 50, 38, 29, 17, 4, 62, 47, 59, 36, 45, 43, 51, 22, 53, 39, 33, 30, 24, 18, 12, 5, 63, 55, 48, 27, 60, 41, 37, 16, 46, 35, 44, 21, 52, 32, 23, 11, 54, 26, 40, 15, 34, 20, 31, 10, 25, 14, 19, 9, 13, 8, 7, 6]
/-- The globals that the examples read. -/
noncomputable def gs : List (Nat × List Value) := [(5, u8s db64), (4, u8s db32), (0, u64s p10)]
noncomputable def okR (r : Option Res) : Bool := match r with
  | some (.val (.bool true) _) => true
  | _ => false
theorem known_run : okR (run tab 5000 none 0 (.fn 11 []) (hpG gs)) = true := by kernel_rfl
theorem known_calls {w : World} (h1 : ∀ x ∈ gs, x.1 < 64 ∧ x.1 < w.heap.size ∧ x.2.all scal = true ∧ x.2.length ≤ 1000000 ∧ w.rangeAt x.1 0 x.2) :
    Calls Tryz.prog 11 #[] w fun e w' => e = .returned (.bool true) ∧ Below w.heap.size w w' := by
  have h := known_run
  unfold okR at h
  split at h
  · rename_i h' hr
    exact call_start tab_ok hr rfl rfl h1
  · cases h
end Go.Proofs.YtjiijgdkdlelhaaGreatDoor

/- SpellingChecks: slices.Grow of a nil slice of symbols. -/
import Derived.Test.YtjiijgdkdlelhaaGreatDoorScI
namespace Go.Proofs.YtjiijgdkdlelhaaGreatDoor
open Go.Shelf Go.RowKit Go.Lib

theorem grow_calls (m : Nat) (hm : 0 < m) (hm2 : m < 1000) (w : World) : Calls Tryz.prog 146 #[.slice none 0 0, .int .i64 m] w fun e w' =>
    ∃ c, e = .returned (.slice (some ⟨w.heap.size, 0, none⟩) 0 c) ∧ m ≤ c ∧ w'.ownsRow w.heap.size 35 2 (.slice (some ⟨w.heap.size, 0, none⟩) 0 c) 0 [] ∧ Below w.heap.size w w' := by
  have h1 : (0 : Int) < (m : Int) := by omega
  have h2 : ¬ (m : Int) < 0 := by omega
  have hb : Tryz.t35.bytes = 40 := rfl
  have h3 : ¬ 281474976710656 < (m : Int) * (Tryz.t35.bytes : Int) := by rw [hb]; omega
  have h4 : ¬ 281474976710656 < Builtin.nextslicecap m 0 * Tryz.t35.bytes := by
    have e : Builtin.nextslicecap m 0 = m := by unfold Builtin.nextslicecap; rw [if_pos (by omega)]
    rw [e, hb]; omega
  have h5 : ¬ 9223372036854775807 < (m : Int) := by omega
  have h6 : ¬ m = 0 := by omega
  have hge := grownCap_ge w m 0 35
  have hle := grownCap_le_maxLen w m 0 35 (by unfold maxLen; omega)
  have HG : Aside (m ≤ grownCap w m 0 35 ∧ grownCap w m 0 35 ≤ maxLen) := ⟨hge, hle⟩
  clear hb hge hle
  go_enter Tryz.func146, Tryz.ntmps146
  go_wp2
  go_ret
  refine ⟨grownCap w m 0 35, rfl, HG.out.1, ?_, ((Below.refl _ w).alloc (Nat.le_refl _) _).drew⟩
  refine World.ownsRow.drew (World.ownsRow_made w _ _ (Nat.le_refl _) HG.out.2 ?_)
  rw [Array.size_append, size_zeroCells, size_zeroCells]
  show m * 2 + (grownCap w m 0 35 - m) * 2 = grownCap w m 0 35 * 2
  have := HG.out.1
  omega
theorem grow_nil (w : World) : Calls Tryz.prog 146 #[.slice none 0 0, .int .i64 0] w fun e w' => e = .returned (.slice none 0 0) ∧ Below w.heap.size w w' := by
  go_enter Tryz.func146, Tryz.ntmps146
  go_wp2
  go_ret
  exact ⟨rfl, Below.refl _ _⟩
theorem grow_any (m : Nat) (hm : m < 1000) (w : World) : Calls Tryz.prog 146 #[.slice none 0 0, .int .i64 m] w fun e w' =>
    ∃ v, e = .returned v ∧ w'.ownsRow w.heap.size 35 2 v 0 [] ∧ Below w.heap.size w w' := by
  by_cases h0 : m = 0
  · subst h0
    refine (grow_nil w).mono ?_
    rintro e w' ⟨rfl, hb⟩
    exact ⟨_, rfl, World.ownsRow_nil _ _ _ _, hb⟩
  · refine (grow_calls m (by omega) hm w).mono ?_
    rintro e w' ⟨c, rfl, _, h1, h2⟩
    exact ⟨_, rfl, h1, h2⟩
theorem Tryz.info35 : (Tryz.prog.info? 35).map (fun i => (i.zero, i.size, i.bytes)) = some (some (.agg #[.string ⟨#[]⟩, .slice none 0 0]), 2, 40) := by kernel_rfl
end Go.Proofs.YtjiijgdkdlelhaaGreatDoor

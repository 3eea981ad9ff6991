/- SpellingChecks: row.Check. -/
import Derived.Test.YtjiijgdkdlelhaaGreatDoorScA
namespace Go.Proofs.YtjiijgdkdlelhaaGreatDoor
open Go.Shelf Go.RowKit Go.Lib

theorem rowCheck_calls {v : Value} {zs : List Int} {w : World} (h : RowAt w v zs) (hbig : zs.length ≤ 9223372036854775807) : Calls Tryz.prog 30 #[v] w fun e w' => e = .returned (.int .i64 (rowErr zs)) ∧ Below w.heap.size w w' := by
  have hcon := contains_row h hbig
  have hv : ∃ base c, v = .slice base zs.length c := by
    rcases h with ⟨base, c, rfl, rfl⟩ | ⟨b, off, c, rfl, _, _⟩
    · exact ⟨base, c, rfl⟩
    · exact ⟨some ⟨b, off, none⟩, c, rfl⟩
  obtain ⟨base, c, rfl⟩ := hv
  unfold rowErr
  generalize (zs.any fun y => !fitsB y) = q at hcon ⊢
  clear h
  by_cases hl : 64 < zs.length
  · have hl' : (64 : Int) < (zs.length : Int) := by omega
    rw [if_pos (.inl hl)]
    go_enter Tryz.func30, Tryz.ntmps30
    go_wp2_with (go_at_call 16; refine hcon.mono ?_; rintro e w' ⟨rfl, hb'⟩)
    all_goals go_ret
    all_goals exact ⟨rfl, Below.refl _ _⟩
  · have hl' : ¬ (64 : Int) < (zs.length : Int) := by omega
    cases q with
    | true =>
      rw [if_pos (.inr rfl)]
      go_enter Tryz.func30, Tryz.ntmps30
      go_wp2_with (go_at_call 16; refine hcon.mono ?_; rintro e w' ⟨rfl, hb'⟩)
      all_goals go_ret
      all_goals exact ⟨rfl, hb'⟩
    | false =>
      rw [if_neg (by simp; omega)]
      go_enter Tryz.func30, Tryz.ntmps30
      go_wp2_with (go_at_call 16; refine hcon.mono ?_; rintro e w' ⟨rfl, hb'⟩)
      all_goals go_ret
      all_goals exact ⟨rfl, hb'⟩
end Go.Proofs.YtjiijgdkdlelhaaGreatDoor

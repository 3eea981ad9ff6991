/- SpellingChecks: Index, Contains over names. -/
import Derived.Test.YtjiijgdkdlelhaaGreatDoorScF
namespace Go.Proofs.YtjiijgdkdlelhaaGreatDoor
open Go.Shelf Go.RowKit Go.Lib

set_option maxHeartbeats 2000000 in
theorem idx_name (s : ByteArray) (b off n c : Nat) (zs : List ByteArray) (w : World) (hz : n ≤ zs.length) (hbig : n ≤ 9223372036854775807) (hc : ∀ j, j < zs.length → w.cell? ⟨b, off + j, none⟩ = some (.string zs[j]!)) :
    Calls Tryz.prog 147 #[.slice (some ⟨b, off, none⟩) n c, .string s] w fun e w' => e = .returned (.int .i64 (Lib.idxBy (fun _ y => decide (s.toList = y.toList)) (zs.take n) default)) ∧ w' = w := by
  go_enter Tryz.func147, Tryz.ntmps147
  go_wp2
  go_loopg [5, 8] n (fun gg _ s8 wr => ∃ kk : Nat, kk ≤ n ∧ n - kk ≤ gg ∧ s8 = .int .i64 kk ∧ wr = w ∧ Aside (∀ j, j < kk → decide (s.toList = zs[j]!.toList) = false))
  case atStart => exact ⟨0, Nat.zero_le _, by omega, rfl, rfl, fun j hj => absurd hj (Nat.not_lt_zero _)⟩
  case round =>
    obtain ⟨kk, hkk, hg, rfl, rfl, A⟩ := hrel
    by_cases hlt : kk < n
    · have hltz : (kk : Int) < (n : Int) := by omega
      have l2 := hc kk (by omega)
      clear hc
      generalize hy : zs[kk]! = y at l2
      have B : Aside (zs[kk]! = y) := hy
      clear hy
      by_cases hq : s.toList = y.toList
      · have hq' : (s.toList == y.toList) = true := by simpa using hq
        go_wp2
        go_ret
        refine ⟨?_, rfl⟩
        rw [Lib.idxBy_hit (fun _ y => decide (s.toList = y.toList)) zs n kk default hlt hz (by show decide (s.toList = zs[kk]!.toList) = true; rw [B.out]; exact decide_eq_true hq) A.out]
        rfl
      · have hq' : (s.toList == y.toList) = false := by simpa using hq
        go_wp2
        go_roundg (n - (kk + 1))
        case measure => omega
        case rel =>
          refine ⟨kk + 1, by omega, by omega, by go_num, rfl, (show Aside _ from fun j hj => ?_)⟩
          by_cases e : j = kk
          · subst e
            rw [B.out]; exact decide_eq_false hq
          · exact A.out j (by omega)
    · have hltz : ¬ (kk : Int) < (n : Int) := by omega
      have : kk = n := by omega
      subst this
      go_wp2
      go_ret
      refine ⟨?_, rfl⟩
      rw [Lib.idxBy_miss (fun _ y => decide (s.toList = y.toList)) zs kk default A.out]
      rfl

/-- Names behind a slice value. -/
def NamesAt (w : World) (v : Value) (L : List ByteArray) : Prop :=
  (∃ c, v = .slice none 0 c ∧ L = []) ∨ ∃ b off c, v = .slice (some ⟨b, off, none⟩) L.length c ∧ ∀ j, j < L.length → w.cell? ⟨b, off + j, none⟩ = some (.string L[j]!)
theorem idx_name_nil (s : ByteArray) (c : Nat) (w : World) : Calls Tryz.prog 147 #[.slice none 0 c, .string s] w fun e w' => e = .returned (.int .i64 (-1)) ∧ w' = w := by
  go_enter Tryz.func147, Tryz.ntmps147
  go_wp2
  go_loopg [5, 8] 0 (fun gg _ s8 wr => s8 = .int .i64 0 ∧ wr = w)
  case atStart => exact ⟨rfl, rfl⟩
  case round =>
    obtain ⟨rfl, rfl⟩ := hrel
    go_wp2
    go_ret
    exact ⟨rfl, rfl⟩
theorem contains_name (s : ByteArray) {v : Value} {L : List ByteArray} {w : World} (h : NamesAt w v L) (hbig : L.length ≤ 9223372036854775807) : Calls Tryz.prog 95 #[v, .string s] w fun e w' => e = .returned (.bool (L.any fun y => decide (s.toList = y.toList))) ∧ w' = w := by
  rcases h with ⟨c, rfl, rfl⟩ | ⟨b, off, c, rfl, h3⟩
  · go_enter Tryz.func95, Tryz.ntmps95
    go_wp2_with (go_at_call 147; refine (idx_name_nil s c _).mono ?_; rintro e w' ⟨rfl, rfl⟩)
    go_ret
    exact ⟨rfl, rfl⟩
  · have hi := idx_name s b off L.length c L w (Nat.le_refl _) hbig h3
    have e1 : (L.any fun y => decide (s.toList = y.toList)) = decide (0 ≤ Lib.idxBy (fun _ y => decide (s.toList = y.toList)) L default) := (Lib.idxBy_nonneg_iff (fun _ y => decide (s.toList = y.toList)) L default).symm
    rw [List.take_length] at hi
    rw [e1]
    generalize Lib.idxBy (fun _ y => decide (s.toList = y.toList)) L default = q at hi ⊢
    clear h3 e1
    go_enter Tryz.func95, Tryz.ntmps95
    go_wp2_with (go_at_call 147; refine hi.mono ?_; rintro e w' ⟨rfl, rfl⟩)
    go_ret
    exact ⟨rfl, rfl⟩
end Go.Proofs.YtjiijgdkdlelhaaGreatDoor

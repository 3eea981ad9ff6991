/- SpellingChecks: the callees that look at one row. -/
import Derived.Shelf.SlicesQ.IndexFunc
import Derived.Shelf.SlicesE.IndexFunc
import Derived.Ground.SlgfProg
import Derived.Test.YtjiijgdkdlelhaaGreatDoorProg
import Derived.Lib.SliceRun
namespace Go.Proofs.YtjiijgdkdlelhaaGreatDoor
open Go.Shelf Go.RowKit Go.Lib

def fitsB (n : Int) : Bool := decide (-1000000000 ≤ n) && decide (n ≤ 1000000000)
theorem fits_calls (n : Int) (w : World) : Calls Tryz.prog 75 #[.int .i64 n] w fun e w' => e = .returned (.bool (fitsB n)) ∧ Below w.heap.size w w' := by
  go_enter Tryz.func75, Tryz.ntmps75
  go_wp2
  all_goals (go_ret; refine ⟨?_, Below.refl _ w⟩; simp_all [fitsB]; try omega)
theorem fits1_calls (n : Int) (w : World) : Calls Tryz.prog 74 #[.int .i64 n] w fun e w' => e = .returned (.bool (!fitsB n)) ∧ Below w.heap.size w w' := by
  go_enter Tryz.func74, Tryz.ntmps74
  go_wp2_with (go_at_call 75; refine (fits_calls n _).mono ?_; rintro e w' ⟨rfl, hb'⟩)
  go_ret
  exact ⟨rfl, hb'⟩
set_option maxHeartbeats 2000000 in
theorem idx_row (b off n c : Nat) (zs : List Int) (w : World) (hz : n ≤ zs.length) (hbig : n ≤ 9223372036854775807) (hb : b < w.heap.size) (hc : ∀ j, j < zs.length → w.cell? ⟨b, off + j, none⟩ = some (.int .i64 zs[j]!)) :
    Calls Tryz.prog 58 #[.slice (some ⟨b, off, none⟩) n c, .func (.func 74) #[] #[]] w fun e w' => e = .returned (.int .i64 (Lib.idxBy (fun _ y => !fitsB y) (zs.take n) (0 : Int))) ∧ Below w.heap.size w w' := by
  have hrow : ∀ (W : World), Below w.heap.size w W → ∀ j, j < zs.length → W.cell? ⟨b, off + j, none⟩ = some (.int .i64 zs[j]!) := fun W hW j hj => (hW.cell (p := ⟨b, off + j, none⟩) hb).trans (hc j hj)
  clear hc
  go_enter Tryz.func58, Tryz.ntmps58
  go_wp2
  go_loopg [5, 8] n (fun gg _ s8 wr => ∃ kk : Nat, kk ≤ n ∧ n - kk ≤ gg ∧ s8 = .int .i64 kk ∧ Aside (Below w.heap.size w wr) ∧ Aside (∀ j, j < kk → (!fitsB zs[j]!) = false))
  case atStart => exact ⟨0, Nat.zero_le _, by omega, rfl, Below.refl _ w, fun j hj => absurd hj (Nat.not_lt_zero _)⟩
  case round =>
    obtain ⟨kk, hkk, hg, rfl, BW, A⟩ := hrel
    by_cases hlt : kk < n
    · have hltz : (kk : Int) < (n : Int) := by omega
      have l2 := hrow wr BW.out kk (by omega)
      have hcall := fits1_calls zs[kk]! wr
      clear hrow
      generalize hy : zs[kk]! = y at l2 hcall
      have B : Aside (zs[kk]! = y) := hy
      clear hy
      cases hq : (!fitsB y) with
      | true =>
        rw [hq] at hcall
        go_wp2_with (go_at_call 74; refine hcall.mono ?_; rintro e w' ⟨rfl, hb'⟩)
        go_ret
        refine ⟨?_, BW.out.trans (hb'.mono BW.out.size)⟩
        rw [Lib.idxBy_hit (fun _ y => !fitsB y) zs n kk (0 : Int) hlt hz (by show (!fitsB zs[kk]!) = true; rw [B.out]; exact hq) A.out]
        rfl
      | false =>
        rw [hq] at hcall
        go_wp2_with (go_at_call 74; refine hcall.mono ?_; rintro e w' ⟨rfl, hb'⟩)
        go_roundg (n - (kk + 1))
        case measure => omega
        case rel =>
          refine ⟨kk + 1, by omega, by omega, by go_num, (show Aside _ from BW.out.trans (hb'.mono BW.out.size)), (show Aside _ from fun j hj => ?_)⟩
          by_cases e : j = kk
          · subst e
            rw [B.out]; exact hq
          · exact A.out j (by omega)
    · have hltz : ¬ (kk : Int) < (n : Int) := by omega
      have : kk = n := by omega
      subst this
      go_wp2
      go_ret
      refine ⟨?_, BW.out⟩
      rw [Lib.idxBy_miss (fun _ y => !fitsB y) zs kk (0 : Int) A.out]
      rfl

/-- A row lies behind a slice value: its elements. -/
def RowAt (w : World) (v : Value) (zs : List Int) : Prop :=
  (∃ base c, v = .slice base 0 c ∧ zs = []) ∨ ∃ b off c, v = .slice (some ⟨b, off, none⟩) zs.length c ∧ b < w.heap.size ∧ ∀ j, j < zs.length → w.cell? ⟨b, off + j, none⟩ = some (.int .i64 zs[j]!)
theorem RowAt.mono {w W : World} {v : Value} {zs : List Int} (h : RowAt w v zs) (hb : Below w.heap.size w W) : RowAt W v zs := by
  rcases h with h | ⟨b, off, c, h1, h2, h3⟩
  · exact .inl h
  · exact .inr ⟨b, off, c, h1, Nat.lt_of_lt_of_le h2 hb.size, fun j hj => (hb.cell (p := ⟨b, off + j, none⟩) h2).trans (h3 j hj)⟩

theorem idx_nil (base : Option Addr) (c : Nat) (w : World) : Calls Tryz.prog 58 #[.slice base 0 c, .func (.func 74) #[] #[]] w fun e w' => e = .returned (.int .i64 (-1)) ∧ Below w.heap.size w w' := by
  go_enter Tryz.func58, Tryz.ntmps58
  go_wp2
  go_loopg [5, 8] 0 (fun gg _ s8 wr => s8 = .int .i64 0 ∧ wr = w)
  case atStart => exact ⟨rfl, rfl⟩
  case round =>
    obtain ⟨rfl, rfl⟩ := hrel
    go_wp2
    go_ret
    exact ⟨rfl, Below.refl _ _⟩

theorem contains_row {v : Value} {zs : List Int} {w : World} (h : RowAt w v zs) (hbig : zs.length ≤ 9223372036854775807) : Calls Tryz.prog 16 #[v, .func (.func 74) #[] #[]] w fun e w' => e = .returned (.bool (zs.any fun y => !fitsB y)) ∧ Below w.heap.size w w' := by
  rcases h with ⟨base, c, rfl, rfl⟩ | ⟨b, off, c, rfl, h2, h3⟩
  · go_enter Tryz.func16, Tryz.ntmps16
    go_wp2_with (go_at_call 58; refine (idx_nil base c _).mono ?_; rintro e w' ⟨rfl, hb'⟩)
    go_ret
    exact ⟨rfl, hb'⟩
  · have hi := idx_row b off zs.length c zs w (Nat.le_refl _) hbig h2 h3
    have e1 : (zs.any fun y => !fitsB y) = decide (0 ≤ Lib.idxBy (fun _ y => !fitsB y) zs 0) := (Lib.idxBy_nonneg_iff (fun _ y => !fitsB y) zs 0).symm
    rw [List.take_length] at hi
    rw [e1]
    generalize Lib.idxBy (fun _ y => !fitsB y) zs 0 = q at hi ⊢
    clear h3 h2 e1
    go_enter Tryz.func16, Tryz.ntmps16
    go_wp2_with (go_at_call 58; refine hi.mono ?_; rintro e w' ⟨rfl, hb'⟩)
    go_ret
    exact ⟨rfl, hb'⟩

/-- row.Check's error. -/
def rowErr (zs : List Int) : Int := if 64 < zs.length ∨ (zs.any fun y => !fitsB y) = true then 4 else 0
end Go.Proofs.YtjiijgdkdlelhaaGreatDoor

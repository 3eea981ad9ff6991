/- IndexFunc, ContainsFunc over rows, IndexFunc, DeleteFunc over spellings, with whatever test. -/
import Derived.Test.YtjiijgdkdlelhaaGreatDoorGrowsM25
import Derived.Shelf.RegionOpenPlain
/- IndexFunc, ContainsFunc over rows, IndexFunc, DeleteFunc over spellings, with whatever test. -/
namespace Go.Proofs.YtjiijgdkdlelhaaGreatDoor
open Go Go.RowKit Go.Shelf Go.Lib Go.Sort

/-- What a test of numbers gives. -/
def PredI (g : Nat) (lb : Array Value) (p : Int → Bool) (w : World) : Prop := ∀ (W : World) (x : Int), Below w.heap.size w W → Calls Tryz.prog g (#[.int .i64 x] ++ lb) W fun e w' => e = .returned (.bool (p x)) ∧ Below W.heap.size W w'

set_option maxHeartbeats 2000000 in
theorem idx_rowF {g : Nat} {lb : Array Value} {p : Int → Bool} (eg : ∀ args w, (callFunc g args).run Tryz.prog w = .ok (.enter g args) w) (b off n c : Nat) (zs : List Int) (w : World) (hp : PredI g lb p w) (hz : n ≤ zs.length) (hbig : n ≤ 9223372036854775807) (hb : b < w.heap.size) (hc : ∀ j, j < zs.length → w.cell? ⟨b, off + j, none⟩ = some (.int .i64 zs[j]!)) :
    Calls Tryz.prog 58 #[.slice (some ⟨b, off, none⟩) n c, .func (.func g) #[] lb] w fun e w' => e = .returned (.int .i64 (Lib.idxBy (fun _ y => p y) (zs.take n) (0 : Int))) ∧ Below w.heap.size w w' := by
  have hrow : ∀ (W : World), Below w.heap.size w W → ∀ j, j < zs.length → W.cell? ⟨b, off + j, none⟩ = some (.int .i64 zs[j]!) := fun W hW j hj => (hW.cell (p := ⟨b, off + j, none⟩) hb).trans (hc j hj)
  clear hc
  have HP := aside hp
  clear hp
  go_enter Tryz.func58, Tryz.ntmps58
  go_wp2
  go_loopg [5, 8] n (fun gg _ s8 wr => ∃ kk : Nat, kk ≤ n ∧ n - kk ≤ gg ∧ s8 = .int .i64 kk ∧ Aside (Below w.heap.size w wr) ∧ Aside (∀ j, j < kk → (p zs[j]!) = false))
  case atStart => exact ⟨0, Nat.zero_le _, by omega, rfl, Below.refl _ w, fun j hj => absurd hj (Nat.not_lt_zero _)⟩
  case round =>
    obtain ⟨kk, hkk, hg, rfl, BW, A⟩ := hrel
    by_cases hlt : kk < n
    · have hltz : (kk : Int) < (n : Int) := by omega
      have l2 := hrow wr BW.out kk (by omega)
      have hcall := HP.out wr zs[kk]! BW.out
      clear hrow
      generalize hy : zs[kk]! = y at l2 hcall
      have B : Aside (zs[kk]! = y) := hy
      clear hy
      cases hq : p y with
      | true =>
        rw [hq] at hcall
        have HQ := aside hq
        clear hq
        go_wp2_with (go_at_fn g; refine hcall.mono ?_; rintro e w' ⟨rfl, hb'⟩)
        go_ret
        refine ⟨?_, BW.out.trans (hb'.mono BW.out.size)⟩
        rw [Lib.idxBy_hit (fun _ y => p y) zs n kk (0 : Int) hlt hz (by show p zs[kk]! = true; rw [B.out]; exact HQ.out) A.out]
        rfl
      | false =>
        rw [hq] at hcall
        have HQ := aside hq
        clear hq
        go_wp2_with (go_at_fn g; refine hcall.mono ?_; rintro e w' ⟨rfl, hb'⟩)
        go_roundg (n - (kk + 1))
        case measure => omega
        case rel =>
          refine ⟨kk + 1, by omega, by omega, by go_num, (show Aside _ from BW.out.trans (hb'.mono BW.out.size)), (show Aside _ from fun j hj => ?_)⟩
          by_cases e : j = kk
          · subst e
            rw [B.out]; exact HQ.out
          · exact A.out j (by omega)
    · have hltz : ¬ (kk : Int) < (n : Int) := by omega
      have : kk = n := by omega
      subst this
      go_wp2
      go_ret
      refine ⟨?_, BW.out⟩
      rw [Lib.idxBy_miss (fun _ y => p y) zs kk (0 : Int) A.out]
      rfl
theorem idx_rowF_nil (f : Value) (base : Option Addr) (c : Nat) (w : World) : Calls Tryz.prog 58 #[.slice base 0 c, f] w fun e w' => e = .returned (.int .i64 (-1)) ∧ Below w.heap.size w w' := by
  go_enter Tryz.func58, Tryz.ntmps58
  go_wp2
  go_loopg [5, 8] 0 (fun gg _ s8 wr => s8 = .int .i64 0 ∧ wr = w)
  case atStart => exact ⟨rfl, rfl⟩
  case round =>
    obtain ⟨rfl, rfl⟩ := hrel
    go_wp2
    go_ret
    exact ⟨rfl, Below.refl _ _⟩
theorem contains_rowF {g : Nat} {lb : Array Value} {p : Int → Bool} (eg : ∀ args w, (callFunc g args).run Tryz.prog w = .ok (.enter g args) w) {v : Value} {zs : List Int} {w : World} (h : RowAt w v zs) (hp : PredI g lb p w) (hbig : zs.length ≤ 9223372036854775807) :
    Calls Tryz.prog 16 #[v, .func (.func g) #[] lb] w fun e w' => e = .returned (.bool (zs.any p)) ∧ Below w.heap.size w w' := by
  rcases h with ⟨base, c, rfl, rfl⟩ | ⟨b, off, c, rfl, h2, h3⟩
  · go_enter Tryz.func16, Tryz.ntmps16
    go_wp2_with (go_at_call 58; refine (idx_rowF_nil _ base c _).mono ?_; rintro e w' ⟨rfl, hb'⟩)
    go_ret
    exact ⟨rfl, hb'⟩
  · have hi := idx_rowF eg b off zs.length c zs w hp (Nat.le_refl _) hbig h2 h3
    have e1 : (zs.any p) = decide (0 ≤ Lib.idxBy (fun _ y => p y) zs 0) := (Lib.idxBy_nonneg_iff (fun _ y => p y) zs 0).symm
    rw [List.take_length] at hi
    rw [e1]
    generalize Lib.idxBy (fun _ y => p y) zs 0 = q at hi ⊢
    clear h3 h2 e1 hp eg
    go_enter Tryz.func16, Tryz.ntmps16
    go_wp2_with (go_at_call 58; refine hi.mono ?_; rintro e w' ⟨rfl, hb'⟩)
    go_ret
    exact ⟨rfl, hb'⟩
end Go.Proofs.YtjiijgdkdlelhaaGreatDoor

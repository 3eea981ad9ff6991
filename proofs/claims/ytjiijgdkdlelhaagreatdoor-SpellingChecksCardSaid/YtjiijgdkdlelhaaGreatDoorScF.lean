/- SpellingChecks: IndexFunc, ContainsFunc over symbols. -/
import Derived.Test.YtjiijgdkdlelhaaGreatDoorScE
namespace Go.Proofs.YtjiijgdkdlelhaaGreatDoor
open Go.Shelf Go.RowKit Go.Lib

set_option maxHeartbeats 2000000 in
theorem idx_long (b off n c : Nat) (zs : List Sym) (w : World) (hr : ∀ x ∈ zs, RowAt w x.row x.els) (hz : n ≤ zs.length) (hbig : n ≤ 9223372036854775807) (hb : b < w.heap.size) (hc : ∀ j, j < zs.length → ∀ i u, (zs[j]!.enc)[i]? = some u → w.cell? ⟨b, off + j * 2 + i, none⟩ = some u) :
    Calls Tryz.prog 145 #[.slice (some ⟨b, off, none⟩) n c, .func (.func 93) #[] #[]] w fun e w' => e = .returned (.int .i64 (Lib.idxBy (fun _ y => longB y) (zs.take n) default)) ∧ Below w.heap.size w w' := by
  have hrow : ∀ (W : World), Below w.heap.size w W → ∀ j, j < zs.length → W.cell? ⟨b, off + j * 2, none⟩ = some (.string zs[j]!.name) ∧ W.cell? ⟨b, off + j * 2 + 1, none⟩ = some zs[j]!.row := fun W hW j hj =>
    ⟨(hW.cell (p := ⟨b, off + j * 2, none⟩) hb).trans (hc j hj 0 _ rfl), (hW.cell (p := ⟨b, off + j * 2 + 1, none⟩) hb).trans (hc j hj 1 _ rfl)⟩
  have hrw : ∀ (W : World), Below w.heap.size w W → ∀ j, j < zs.length → RowAt W zs[j]!.row zs[j]!.els := fun W hW j hj => by
    have hm : zs[j]! ∈ zs := by rw [getElem!_pos zs j hj]; exact List.getElem_mem hj
    exact (hr _ hm).mono hW
  clear hc hr
  go_enter Tryz.func145, Tryz.ntmps145
  go_wp2
  go_loopg [5, 8] n (fun gg _ s8 wr => ∃ kk : Nat, kk ≤ n ∧ n - kk ≤ gg ∧ s8 = .int .i64 kk ∧ Aside (Below w.heap.size w wr) ∧ Aside (∀ j, j < kk → longB zs[j]! = false))
  case atStart => exact ⟨0, Nat.zero_le _, by omega, rfl, Below.refl _ w, fun j hj => absurd hj (Nat.not_lt_zero _)⟩
  case round =>
    obtain ⟨kk, hkk, hg, rfl, BW, A⟩ := hrel
    by_cases hlt : kk < n
    · have hltz : (kk : Int) < (n : Int) := by omega
      obtain ⟨l2, l3⟩ := hrow wr BW.out kk (by omega)
      have hcall : Calls Tryz.prog 93 #[.agg #[.string zs[kk]!.name, zs[kk]!.row]] wr fun e w' => e = .returned (.bool (longB zs[kk]!)) ∧ Below wr.heap.size wr w' := longClosure zs[kk]! wr (hrw wr BW.out kk (by omega))
      clear hrow hrw
      generalize hy : zs[kk]! = y at l2 l3 hcall
      have B : Aside (zs[kk]! = y) := hy
      clear hy
      cases hq : longB y with
      | true =>
        rw [hq] at hcall
        go_wp2_with (go_at_call 93; refine hcall.mono ?_; rintro e w' ⟨rfl, hb'⟩)
        go_ret
        refine ⟨?_, BW.out.trans (hb'.mono BW.out.size)⟩
        rw [Lib.idxBy_hit (fun _ y => longB y) zs n kk default hlt hz (by show longB zs[kk]! = true; rw [B.out]; exact hq) A.out]
        rfl
      | false =>
        rw [hq] at hcall
        go_wp2_with (go_at_call 93; refine hcall.mono ?_; rintro e w' ⟨rfl, hb'⟩)
        go_roundg (n - (kk + 1))
        case measure => omega
        case rel =>
          refine ⟨kk + 1, by omega, by omega, by go_num, (show Aside _ from BW.out.trans (hb'.mono BW.out.size)), (show Aside _ from fun j hj => ?_)⟩
          by_cases e : j = kk
          · subst e
            rw [B.out]; exact hq
          · exact A.out j (by omega)
    · have hltz : ¬ (kk : Int) < (n : Int) := by omega
      have : kk = n := by omega
      subst this
      go_wp2
      go_ret
      refine ⟨?_, BW.out⟩
      rw [Lib.idxBy_miss (fun _ y => longB y) zs kk default A.out]
      rfl

theorem idx_long_nil (base : Option Addr) (c : Nat) (w : World) : Calls Tryz.prog 145 #[.slice base 0 c, .func (.func 93) #[] #[]] w fun e w' => e = .returned (.int .i64 (-1)) ∧ Below w.heap.size w w' := by
  go_enter Tryz.func145, Tryz.ntmps145
  go_wp2
  go_loopg [5, 8] 0 (fun gg _ s8 wr => s8 = .int .i64 0 ∧ wr = w)
  case atStart => exact ⟨rfl, rfl⟩
  case round =>
    obtain ⟨rfl, rfl⟩ := hrel
    go_wp2
    go_ret
    exact ⟨rfl, Below.refl _ _⟩

theorem contains_long {v : Value} {L : List Sym} {w : World} (h : SymsAt w v L) (hbig : L.length ≤ 9223372036854775807) : Calls Tryz.prog 91 #[v, .func (.func 93) #[] #[]] w fun e w' => e = .returned (.bool (L.any longB)) ∧ Below w.heap.size w w' := by
  obtain ⟨hr, h⟩ := h
  rcases h with ⟨base, c, rfl, rfl, -⟩ | ⟨b, off, c, rfl, h2, h3⟩
  · clear hr
    go_enter Tryz.func91, Tryz.ntmps91
    go_wp2_with (go_at_call 145; refine (idx_long_nil base c _).mono ?_; rintro e w' ⟨rfl, hb'⟩)
    go_ret
    exact ⟨rfl, hb'⟩
  · have hi := idx_long b off L.length c L w hr (Nat.le_refl _) hbig h2 h3
    have e1 : (L.any longB) = decide (0 ≤ Lib.idxBy (fun _ y => longB y) L default) := (Lib.idxBy_nonneg_iff (fun _ y => longB y) L default).symm
    rw [List.take_length] at hi
    rw [e1]
    generalize Lib.idxBy (fun _ y => longB y) L default = q at hi ⊢
    clear h3 h2 e1 hr
    go_enter Tryz.func91, Tryz.ntmps91
    go_wp2_with (go_at_call 145; refine hi.mono ?_; rintro e w' ⟨rfl, hb'⟩)
    go_ret
    exact ⟨rfl, hb'⟩
end Go.Proofs.YtjiijgdkdlelhaaGreatDoor

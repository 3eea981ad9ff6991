/- SpellingChecks: ContainsFunc with the closure of spelling.Check. -/
import Derived.Test.YtjiijgdkdlelhaaGreatDoorScM
namespace Go.Proofs.YtjiijgdkdlelhaaGreatDoor
open Go.Shelf Go.RowKit Go.Lib

def sameB (nm : ByteArray) (x : Sym) : Bool := x.name.toList == nm.toList
theorem same_calls (nm s : ByteArray) (bp : Nat) (base : Option Addr) (n c : Nat) (w : World) (hp : w.cell? ⟨bp, 0, none⟩ = some (.string nm)) : Calls Tryz.prog 96 #[.agg #[.string s, .slice base n c], .pointer (some ⟨bp, 0, none⟩)] w fun e w' => e = .returned (.bool (s.toList == nm.toList)) ∧ Below w.heap.size w w' := by
  have hp' : (w.alloc (.cells #[.string s, .slice base n c] 35)).cell? ⟨bp, 0, none⟩ = some (.string nm) := cell?_alloc_some _ hp
  go_enter Tryz.func96, Tryz.ntmps96
  go_wp2
  go_ret
  exact ⟨rfl, (Below.refl _ w).alloc (Nat.le_refl _) _⟩
theorem sameClosure (nm : ByteArray) (bp : Nat) (x : Sym) (w : World) (h : RowAt w x.row x.els) (hp : w.cell? ⟨bp, 0, none⟩ = some (.string nm)) : Calls Tryz.prog 96 #[.agg x.enc.toArray, .pointer (some ⟨bp, 0, none⟩)] w fun e w' => e = .returned (.bool (sameB nm x)) ∧ Below w.heap.size w w' := by
  obtain ⟨base, c, hv⟩ := h.shape
  have := same_calls nm x.name bp base x.els.length c w hp
  rw [← hv] at this
  exact this
set_option maxHeartbeats 2000000 in
theorem idx_same (nm : ByteArray) (bp b off n c : Nat) (zs : List Sym) (w : World) (hr : ∀ x ∈ zs, RowAt w x.row x.els) (hz : n ≤ zs.length) (hbig : n ≤ 9223372036854775807) (hb : b < w.heap.size) (hbp : bp < w.heap.size) (hp : w.cell? ⟨bp, 0, none⟩ = some (.string nm)) (hc : ∀ j, j < zs.length → ∀ i u, (zs[j]!.enc)[i]? = some u → w.cell? ⟨b, off + j * 2 + i, none⟩ = some u) :
    Calls Tryz.prog 145 #[.slice (some ⟨b, off, none⟩) n c, .func (.func 96) #[] #[.pointer (some ⟨bp, 0, none⟩)]] w fun e w' => e = .returned (.int .i64 (Lib.idxBy (fun _ y => sameB nm y) (zs.take n) default)) ∧ Below w.heap.size w w' := by
  have hrow : ∀ (W : World), Below w.heap.size w W → ∀ j, j < zs.length → W.cell? ⟨b, off + j * 2, none⟩ = some (.string zs[j]!.name) ∧ W.cell? ⟨b, off + j * 2 + 1, none⟩ = some zs[j]!.row := fun W hW j hj =>
    ⟨(hW.cell (p := ⟨b, off + j * 2, none⟩) hb).trans (hc j hj 0 _ rfl), (hW.cell (p := ⟨b, off + j * 2 + 1, none⟩) hb).trans (hc j hj 1 _ rfl)⟩
  have hrw : ∀ (W : World), Below w.heap.size w W → ∀ j, j < zs.length → RowAt W zs[j]!.row zs[j]!.els := fun W hW j hj => by
    have hm : zs[j]! ∈ zs := by rw [getElem!_pos zs j hj]; exact List.getElem_mem hj
    exact (hr _ hm).mono hW
  clear hc hr
  have HP := aside hp
  clear hp
  go_enter Tryz.func145, Tryz.ntmps145
  go_wp2
  go_loopg [5, 8] n (fun gg _ s8 wr => ∃ kk : Nat, kk ≤ n ∧ n - kk ≤ gg ∧ s8 = .int .i64 kk ∧ Aside (Below w.heap.size w wr) ∧ Aside (∀ j, j < kk → sameB nm zs[j]! = false))
  case atStart => exact ⟨0, Nat.zero_le _, by omega, rfl, Below.refl _ w, fun j hj => absurd hj (Nat.not_lt_zero _)⟩
  case round =>
    obtain ⟨kk, hkk, hg, rfl, BW, A⟩ := hrel
    by_cases hlt : kk < n
    · have hltz : (kk : Int) < (n : Int) := by omega
      obtain ⟨l2, l3⟩ := hrow wr BW.out kk (by omega)
      have hcall : Calls Tryz.prog 96 #[.agg #[.string zs[kk]!.name, zs[kk]!.row], .pointer (some ⟨bp, 0, none⟩)] wr fun e w' => e = .returned (.bool (sameB nm zs[kk]!)) ∧ Below wr.heap.size wr w' := sameClosure nm bp zs[kk]! wr (hrw wr BW.out kk (by omega)) ((BW.out.cell (p := ⟨bp, 0, none⟩) hbp).trans HP.out)
      clear hrow hrw
      generalize hy : zs[kk]! = y at l2 l3 hcall
      have B : Aside (zs[kk]! = y) := hy
      clear hy
      cases hq : sameB nm y with
      | true =>
        rw [hq] at hcall
        go_wp2_with (go_at_call 96; refine hcall.mono ?_; rintro e w' ⟨rfl, hb'⟩)
        go_ret
        refine ⟨?_, BW.out.trans (hb'.mono BW.out.size)⟩
        rw [Lib.idxBy_hit (fun _ y => sameB nm y) zs n kk default hlt hz (by show sameB nm zs[kk]! = true; rw [B.out]; exact hq) A.out]
        rfl
      | false =>
        rw [hq] at hcall
        go_wp2_with (go_at_call 96; refine hcall.mono ?_; rintro e w' ⟨rfl, hb'⟩)
        go_roundg (n - (kk + 1))
        case measure => omega
        case rel =>
          refine ⟨kk + 1, by omega, by omega, by go_num, (show Aside _ from BW.out.trans (hb'.mono BW.out.size)), (show Aside _ from fun j hj => ?_)⟩
          by_cases e : j = kk
          · subst e
            rw [B.out]; exact hq
          · exact A.out j (by omega)
    · have hltz : ¬ (kk : Int) < (n : Int) := by omega
      have : kk = n := by omega
      subst this
      go_wp2
      go_ret
      refine ⟨?_, BW.out⟩
      rw [Lib.idxBy_miss (fun _ y => sameB nm y) zs kk default A.out]
      rfl


theorem contains_same (nm : ByteArray) (bp b off n c : Nat) (zs : List Sym) (w : World) (hr : ∀ x ∈ zs, RowAt w x.row x.els) (hz : n ≤ zs.length) (hbig : n ≤ 9223372036854775807) (hb : b < w.heap.size) (hbp : bp < w.heap.size) (hp : w.cell? ⟨bp, 0, none⟩ = some (.string nm)) (hc : ∀ j, j < zs.length → ∀ i u, (zs[j]!.enc)[i]? = some u → w.cell? ⟨b, off + j * 2 + i, none⟩ = some u) :
    Calls Tryz.prog 91 #[.slice (some ⟨b, off, none⟩) n c, .func (.func 96) #[] #[.pointer (some ⟨bp, 0, none⟩)]] w fun e w' => e = .returned (.bool ((zs.take n).any (sameB nm))) ∧ Below w.heap.size w w' := by
  have hi := idx_same nm bp b off n c zs w hr hz hbig hb hbp hp hc
  have e1 : ((zs.take n).any (sameB nm)) = decide (0 ≤ Lib.idxBy (fun _ y => sameB nm y) (zs.take n) default) := (Lib.idxBy_nonneg_iff (fun _ y => sameB nm y) (zs.take n) default).symm
  rw [e1]
  generalize Lib.idxBy (fun _ y => sameB nm y) (zs.take n) default = q at hi ⊢
  clear hr hc e1 hp
  go_enter Tryz.func91, Tryz.ntmps91
  go_wp2_with (go_at_call 145; refine hi.mono ?_; rintro e w' ⟨rfl, hb'⟩)
  go_ret
  exact ⟨rfl, hb'⟩
theorem any_same (nm : ByteArray) (L : List Sym) (kk : Nat) : (L.take kk).any (sameB nm) = (namesOf L kk).any fun y => decide (nm.toList = y.toList) := by
  unfold namesOf
  rw [List.any_map]
  congr 1
  funext x
  rw [Bool.eq_iff_iff]
  show (x.name.toList == nm.toList) = true ↔ decide (nm.toList = x.name.toList) = true
  rw [beq_iff_eq, decide_eq_true_iff]
  exact eq_comm
end Go.Proofs.YtjiijgdkdlelhaaGreatDoor

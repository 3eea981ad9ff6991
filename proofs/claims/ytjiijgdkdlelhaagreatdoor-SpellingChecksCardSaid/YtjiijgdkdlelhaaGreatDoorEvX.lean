/- The evaluator Ev: a call whose argument is a slice over a block that may only be read. -/
import Derived.Test.YtjiijgdkdlelhaaGreatDoorEvU
namespace Go.Ev
open Go.RowKit

def imB (ba : Nat) : Im := fun b => if b = 512 then some (ba, 0, 1000000) else imG b
theorem imG_lt {b : Nat} {c : Nat × Nat × Nat} (h : imG b = some c) : b < 512 := by
  unfold imG at h
  split at h
  · rename_i hb; exact hb.2
  · cases h
theorem imG_le_imB (ba : Nat) : imG.le (imB ba) := fun b c h => by
  have := imG_lt h
  unfold imB
  rw [if_neg (by omega)]
  exact h
theorem gi_imB (ba : Nat) : GI (imB ba) := gi_imG.mono (imG_le_imB ba)

noncomputable def hpB (gs : List (Nat × List Value)) (cs : List Value) : Hp := { next := 65, tab := Tr.ins (Blk.cells cs true) 48 (hpG gs).tab 512 }
theorem hpB_get (gs : List (Nat × List Value)) (cs : List Value) {b : Nat} {y : Blk} (h : (hpB gs cs).get b = some y) : (b = 512 ∧ y = .cells cs true) ∨ (hpG gs).get b = some y := by
  have h2 : (Tr.ins (Blk.cells cs true) 48 (hpG gs).tab 512).get b = some y := h
  rw [Tr.get_ins _ _ _ _ _ (by omega)] at h2
  split at h2
  · rename_i hb
    cases h2
    exact .inl ⟨hb, rfl⟩
  · exact .inr h2

theorem sr_startB {w : World} {gs : List (Nat × List Value)} (h1 : ∀ x ∈ gs, x.1 < 64 ∧ x.1 < w.heap.size ∧ x.2.all scal = true ∧ x.2.length ≤ 1000000 ∧ w.rangeAt x.1 0 x.2)
    {ba : Nat} {cs : List Value} (hb : ba < w.heap.size) (hs : cs.all scal = true) (hl : cs.length ≤ 1000000) (hr : w.rangeAt ba 0 cs) : SR w.heap.size w (imB ba) (hpB gs cs) w :=
  have s := sr_start h1
  { below := Below.refl _ _
    size := Nat.le_refl _
    dom := fun b hb => by
      have hb' : 520 ≤ b := by have : (hpB gs cs).next = 65 := rfl; omega
      have hd := s.dom b (by have : (hpG gs).next = 64 := rfl; omega)
      refine ⟨?_, ?_⟩
      · cases hg : (hpB gs cs).get b with
        | none => rfl
        | some y =>
          rcases hpB_get gs cs hg with ⟨h, _⟩ | h
          · omega
          · rw [hd.1] at h; cases h
      · unfold imB
        rw [if_neg (by omega)]
        exact hd.2
    lt := fun b y c hy hc => by
      unfold imB at hc
      split at hc
      · cases hc; exact hb
      · rename_i hne
        rcases hpB_get gs cs hy with ⟨h, _⟩ | h
        · exact absurd h hne
        · exact s.lt b y c h hc
    blk := fun b y hy => by
      rcases hpB_get gs cs hy with ⟨rfl, rfl⟩ | h
      · exact ⟨(ba, 0, 1000000), if_pos rfl, ⟨cs, LR.scals _ hs, hr, hl, fun e => Bool.noConfusion e, fun _ => hb⟩⟩
      · obtain ⟨c, hc, k⟩ := s.blk b y h
        exact ⟨c, imG_le_imB ba b c hc, k.keep (imG_le_imB ba) (fun _ h _ => h) (fun h => h) (fun _ h _ => h)⟩
    apart := fun b b' x x' c c' _ hx _ hox _ _ _ => by
      rcases hpB_get gs cs hx with ⟨rfl, rfl⟩ | h
      · cases hox
      · obtain ⟨z, hz, _, rfl⟩ := hpG_get gs (fun x hx => (h1 x hx).1) b x h
        cases hox }

theorem call_startB {P : Program} {A : Tab} (T : TabOk P A) {gs : List (Nat × List Value)} {cs : List Value} {k : Nat} {f : FuncId} {n : Nat} {v : Value} {h' : Hp} (e : run A k none 0 (.fn f [.slice (some ⟨512, 0, none⟩) n n]) (hpB gs cs) = some (.val v h'))
    {w : World} (h1 : ∀ x ∈ gs, x.1 < 64 ∧ x.1 < w.heap.size ∧ x.2.all scal = true ∧ x.2.length ≤ 1000000 ∧ w.rangeAt x.1 0 x.2)
    {ba : Nat} (hb : ba < w.heap.size) (hs : cs.all scal = true) (hl : cs.length ≤ 1000000) (hr : w.rangeAt ba 0 cs) :
    Calls P f #[.slice (some ⟨ba, 0, none⟩) n n] w fun e w' => (∃ v' j, e = .returned v' ∧ VR j v v') ∧ Below w.heap.size w w' := by
  have ha : LR (imB ba) [.slice (some ⟨512, 0, none⟩) n n] [.slice (some ⟨ba, 0, none⟩) n n] :=
    LR.cons (VR.slice (b := 512) (o := 0) (cb := ba) (off := 0) (own := 1000000) (x := 0) (if_pos rfl) (Nat.le_refl _) (Nat.le_refl _) (.inr ⟨rfl, .inl rfl⟩)) (LR.nil _)
  refine (run_calls T e (gi_imB ba) (sr_startB h1 hb hs hl hr) ha).mono fun e w' he => ?_
  cases e with
  | returned v' =>
    obtain ⟨j, _, hvr, hs⟩ := he
    exact ⟨⟨v', j, rfl, hvr⟩, hs.below⟩
  | _ => exact he.elim
end Go.Ev

/- The evaluator Ev: a call at a world where some globals lie that may only be read. -/
import Derived.Test.YtjiijgdkdlelhaaGreatDoorGrowsM10
/- The evaluator Ev: a call at a world where some globals lie that may only be read. -/
namespace Go.Ev
open Go.RowKit

/-- The images at the start: the globals lie where they lie. -/
def imG : Im := fun b => if b % 8 = 0 ∧ b < 512 then some (b / 8, 0, 1000000) else none
theorem gi_imG : GI imG := fun g hg => ⟨1000000, by
  unfold imG
  have h1 : g * 8 % 8 = 0 ∧ g * 8 < 512 := by omega
  rw [if_pos h1]
  have : g * 8 / 8 = g := by omega
  rw [this]⟩

/-- The heap of some globals. -/
noncomputable def hpG (gs : List (Nat × List Value)) : Hp := { next := 64, tab := gs.foldr (fun x t => Tr.ins (Blk.cells x.2 true) 48 t (x.1 * 8)) .e }
theorem hpG_get : ∀ (gs : List (Nat × List Value)), (∀ x ∈ gs, x.1 < 64) → ∀ (b : Nat) (y : Blk), (hpG gs).get b = some y → ∃ x ∈ gs, b = x.1 * 8 ∧ y = .cells x.2 true := by
  intro gs
  induction gs with
  | nil => intro _ b y h; cases h
  | cons x xs ih =>
    intro hlt b y h
    have hx := hlt x (List.mem_cons_self ..)
    have h2 : (Tr.ins (Blk.cells x.2 true) 48 (hpG xs).tab (x.1 * 8)).get b = some y := h
    rw [Tr.get_ins _ _ _ _ _ (by omega)] at h2
    split at h2
    · rename_i hb
      cases h2
      exact ⟨x, List.mem_cons_self .., hb, rfl⟩
    · obtain ⟨z, h3, h4⟩ := ih (fun z hz => hlt z (List.mem_cons_of_mem _ hz)) b y h2
      exact ⟨z, List.mem_cons_of_mem _ h3, h4⟩

theorem sr_start {w : World} {gs : List (Nat × List Value)} (h1 : ∀ x ∈ gs, x.1 < 64 ∧ x.1 < w.heap.size ∧ x.2.all scal = true ∧ x.2.length ≤ 1000000 ∧ w.rangeAt x.1 0 x.2) : SR w.heap.size w imG (hpG gs) w where
  below := Below.refl _ _
  size := Nat.le_refl _
  dom := fun b hb => by
    have hb' : 512 ≤ b := by have : (hpG gs).next = 64 := rfl; omega
    refine ⟨?_, ?_⟩
    · cases hg : (hpG gs).get b with
      | none => rfl
      | some y =>
        obtain ⟨x, hx, rfl, _⟩ := hpG_get gs (fun x hx => (h1 x hx).1) b y hg
        have := (h1 x hx).1
        omega
    · unfold imG
      rw [if_neg (by omega)]
  lt := fun b y c hy hc => by
    obtain ⟨x, hx, rfl, _⟩ := hpG_get gs (fun x hx => (h1 x hx).1) b y hy
    unfold imG at hc
    split at hc
    · cases hc
      have := (h1 x hx).2.1
      show x.1 * 8 / 8 < _
      omega
    · cases hc
  blk := fun b y hy => by
    obtain ⟨x, hx, rfl, rfl⟩ := hpG_get gs (fun x hx => (h1 x hx).1) b y hy
    obtain ⟨g1, g2, g3, g5, g4⟩ := h1 x hx
    refine ⟨(x.1, 0, 1000000), ?_, ?_⟩
    · unfold imG
      have : x.1 * 8 % 8 = 0 ∧ x.1 * 8 < 512 := by omega
      rw [if_pos this]
      have : x.1 * 8 / 8 = x.1 := by omega
      rw [this]
    · exact ⟨x.2, LR.scals _ g3, g4, g5, fun e => Bool.noConfusion e, fun _ => g2⟩
  apart := fun b b' x x' c c' _ hx _ hox _ _ _ => by
    obtain ⟨z, _, _, rfl⟩ := hpG_get gs (fun x hx => (h1 x hx).1) b x hx
    cases hox

theorem VR.scal_eq {i : Im} {v v' : Value} (h : VR i v v') (e : Ev.scal v = true) : v' = v := by
  cases h with
  | scal _ => rfl
  | nilSlice n c => rfl
  | _ => cases e

theorem call_start {P : Program} {A : Tab} (T : TabOk P A) {gs : List (Nat × List Value)} {k : Nat} {f : FuncId} {args : List Value} {v : Value} {h' : Hp} (e : run A k none 0 (.fn f args) (hpG gs) = some (.val v h')) (ha : args.all scal = true) (hv : scal v = true)
    {w : World} (h1 : ∀ x ∈ gs, x.1 < 64 ∧ x.1 < w.heap.size ∧ x.2.all scal = true ∧ x.2.length ≤ 1000000 ∧ w.rangeAt x.1 0 x.2) :
    Calls P f args.toArray w fun e w' => e = .returned v ∧ Below w.heap.size w w' := by
  refine (run_calls T e gi_imG (sr_start h1) (LR.scals _ ha)).mono fun e w' he => ?_
  cases e with
  | returned v' =>
    obtain ⟨j, _, hvr, hs⟩ := he
    refine ⟨?_, hs.below⟩
    have := hvr.scal_eq hv
    rw [this]
  | _ => exact he.elim
end Go.Ev

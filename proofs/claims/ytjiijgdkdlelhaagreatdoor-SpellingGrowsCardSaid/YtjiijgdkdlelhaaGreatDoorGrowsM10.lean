/- The evaluator Ev: the tables of a program, checked entry by entry. -/
import Derived.Test.YtjiijgdkdlelhaaGreatDoorGrowsM9
import Derived.ClosedOfChecked
/- The evaluator Ev: the tables of a program, checked entry by entry. -/
namespace Go.Ev
open Go.RowKit

/-- Of every entry: its number is b + a times its number in the sub-trie. -/
def AllAt {α : Type} (Q : Nat → α → Prop) : Tr α → Nat → Nat → Prop
  | .e, _, _ => True
  | .n v l r, a, b => (∀ x, v = some x → Q b x) ∧ AllAt Q l (2 * a) (a + b) ∧ AllAt Q r (2 * a) (2 * a + b)
theorem AllAt.get {α : Type} {Q : Nat → α → Prop} : ∀ (t : Tr α) (a b : Nat), AllAt Q t a b → ∀ (k : Nat) (x : α), t.get k = some x → Q (a * k + b) x := by
  intro t
  induction t with
  | e => intro a b _ k x h; cases h
  | n v l r il ir =>
    intro a b h k x hk
    obtain ⟨h1, h2, h3⟩ := h
    rw [Tr.get_n] at hk
    split at hk
    · rename_i h0
      subst h0
      have := h1 x hk
      simpa using this
    · rename_i h0
      split at hk
      · rename_i h4
        have := il _ _ h2 _ _ hk
        have e : 2 * a * (k / 2) + (a + b) = a * k + b := by
          have : k = 2 * (k / 2) + 1 := by omega
          generalize k / 2 = q at *
          subst this
          rw [Nat.mul_add, Nat.mul_one, ← Nat.mul_assoc, Nat.mul_comm 2 a]
          omega
        rwa [e] at this
      · rename_i h4
        have := ir _ _ h3 _ _ hk
        have e : 2 * a * (k / 2 - 1) + (2 * a + b) = a * k + b := by
          have : k = 2 * (k / 2 - 1) + 2 := by omega
          generalize k / 2 - 1 = q at *
          subst this
          rw [Nat.mul_add, ← Nat.mul_assoc, Nat.mul_comm 2 a]
          omega
        rwa [e] at this

theorem AllAt.leaf {α : Type} {Q : Nat → α → Prop} {a b : Nat} : AllAt Q .e a b := trivial
theorem AllAt.some {α : Type} {Q : Nat → α → Prop} {a b : Nat} {v : α} {l r : Tr α} (h : Q b v) (hl : AllAt Q l (2 * a) (a + b)) (hr : AllAt Q r (2 * a) (2 * a + b)) : AllAt Q (.n (some v) l r) a b :=
  ⟨fun _ e => by cases e; exact h, hl, hr⟩
theorem AllAt.none {α : Type} {Q : Nat → α → Prop} {a b : Nat} {l r : Tr α} (hl : AllAt Q l (2 * a) (a + b)) (hr : AllAt Q r (2 * a) (2 * a + b)) : AllAt Q (.n none l r) a b :=
  ⟨fun _ e => absurd e (by simp), hl, hr⟩
noncomputable def allB {α : Type} (p : α → Bool) (t : Tr α) : Bool :=
  Tr.rec true (fun v _ _ l r => (Option.rec true p v) && (l && r)) t
theorem allB_spec {α : Type} {p : α → Bool} : ∀ (t : Tr α) (a b : Nat), allB p t = true → AllAt (fun _ x => p x = true) t a b := by
  intro t
  induction t with
  | e => intro a b _; trivial
  | n v l r il ir =>
    intro a b h
    have h' : ((Option.rec true p v : Bool) && (allB p l && allB p r)) = true := h
    rw [Bool.and_eq_true, Bool.and_eq_true] at h'
    refine ⟨fun x hx => ?_, il _ _ h'.2.1, ir _ _ h'.2.2⟩
    subst hx
    exact h'.1

noncomputable def nameGood (F : Func) : Bool := !(F.name == "runtime.NumGoroutine")
def FnGood (P : Program) (f : Nat) (F : Func) : Prop := P.funcs[f]? = some F
noncomputable def zeroGood (x : TypeInfo × TypeDesc) : Bool := match x.1.zero with
  | some v => v.cells.toList.all scal && Nat.beq v.cells.toList.length x.1.size
  | none => true
noncomputable def fieldsGood (A : Tab) (x : TypeInfo × TypeDesc) : Bool := match x.2 with
  | .struct fs => fs.toList.all fun f => (A.size f.type).isSome
  | _ => true
def TyGood (P : Program) (t : Nat) (x : TypeInfo × TypeDesc) : Prop := P.types[t]? = some x.1 ∧ P.underlying t = some x.2

theorem tabOk_of {P : Program} {A : Tab} (h1 : AllAt (FnGood P) A.fn 1 0) (h2 : AllAt (TyGood P) A.ty 1 0) (h3 : allB nameGood A.fn = true) (h4 : allB zeroGood A.ty = true) (h5 : allB (fieldsGood A) A.ty = true) (h6 : P.follows .mixedOrders = true) : TabOk P A where
  fn := fun f F h => by
    have g1 := h1.get _ _ _ f F h
    have g2 := (allB_spec _ 1 0 h3).get _ _ _ f F h
    rw [Nat.one_mul, Nat.add_zero] at g1
    refine ⟨g1, ?_⟩
    simpa [nameGood] using g2
  ty := fun t i d h => by
    have g0 := h2.get _ _ _ t _ h
    have g3 := (allB_spec _ 1 0 h4).get _ _ _ t _ h
    have g4 := (allB_spec _ 1 0 h5).get _ _ _ t _ h
    rw [Nat.one_mul, Nat.add_zero] at g0
    obtain ⟨g1, g2⟩ := g0
    have hlt : t < P.types.size := (Array.getElem?_eq_some_iff.1 g1).1
    refine ⟨by unfold Tables.info?; rw [if_pos hlt]; exact g1, g2, fun v hv => ?_, fun fs hfs f hf => ?_⟩
    · unfold zeroGood at g3
      dsimp only at g3
      rw [hv] at g3
      rw [Bool.and_eq_true] at g3
      exact ⟨g3.1, of_beq g3.2⟩
    · unfold fieldsGood at g4
      dsimp only at g4
      rw [hfs] at g4
      exact Option.isSome_iff_exists.1 (List.all_eq_true.1 g4 f hf)
  mixed := h6
end Go.Ev

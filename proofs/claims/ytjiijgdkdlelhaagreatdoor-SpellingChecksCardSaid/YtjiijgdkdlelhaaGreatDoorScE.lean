/- SpellingChecks: symbols; IndexFunc over them. -/
import Derived.Test.YtjiijgdkdlelhaaGreatDoorScD
namespace Go.Proofs.YtjiijgdkdlelhaaGreatDoor
open Go.Shelf Go.RowKit Go.Lib

/-- A symbol: its name, the value of its row, and what the row holds. -/
structure Sym where
  name : ByteArray
  row : Value
  els : List Int
  deriving Inhabited
def Sym.enc (x : Sym) : List Value := [.string x.name, x.row]
def SymsAt (w : World) (v : Value) (L : List Sym) : Prop :=
  (∀ x ∈ L, RowAt w x.row x.els) ∧ ((∃ base c, v = .slice base 0 c ∧ L = [] ∧ (base = none → c = 0)) ∨ ∃ b off c, v = .slice (some ⟨b, off, none⟩) L.length c ∧ b < w.heap.size ∧ ∀ j, j < L.length → ∀ i u, (L[j]!.enc)[i]? = some u → w.cell? ⟨b, off + j * 2 + i, none⟩ = some u)

def longB (x : Sym) : Bool := decide (40 < x.name.size) || decide (14 < x.els.length)
theorem longClosure (x : Sym) (w : World) (h : RowAt w x.row x.els) : Calls Tryz.prog 93 #[.agg x.enc.toArray] w fun e w' => e = .returned (.bool (longB x)) ∧ Below w.heap.size w w' := by
  have hv : ∃ base c, x.row = .slice base x.els.length c := by
    rcases h with ⟨base, c, h1, h2⟩ | ⟨b, off, c, h1, _, _⟩
    · exact ⟨base, c, by rw [h1, h2]; rfl⟩
    · exact ⟨some ⟨b, off, none⟩, c, h1⟩
  obtain ⟨base, c, hv⟩ := hv
  have := fewClosure_calls x.name base x.els.length c w
  rw [← hv] at this
  exact this
end Go.Proofs.YtjiijgdkdlelhaaGreatDoor

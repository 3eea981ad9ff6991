/- What the examples read lies in the world. -/
import Derived.Test.YtjiijgdkdlelhaaGreatDoorGrowsM13
/- What the examples read lies in the world. -/
namespace Go.Proofs.YtjiijgdkdlelhaaGreatDoor
open Go Go.RowKit
/-- What the examples read lies in the world. -/
def GlobsAt (w : World) : Prop := ∀ x ∈ gs, x.1 < 64 ∧ x.1 < w.heap.size ∧ x.2.all Go.Ev.scal = true ∧ x.2.length ≤ 1000000 ∧ w.rangeAt x.1 0 x.2
theorem GlobsAt.mono {w W : World} (h : GlobsAt w) (hb : Below w.heap.size w W) : GlobsAt W := fun x hx => by
  obtain ⟨h1, h2, h3, h4, h5⟩ := h x hx
  exact ⟨h1, Nat.lt_of_lt_of_le h2 hb.size, h3, h4, fun k v hk => (hb.cell (p := ⟨x.1, 0 + k, none⟩) h2).trans (h5 k v hk)⟩
end Go.Proofs.YtjiijgdkdlelhaaGreatDoor

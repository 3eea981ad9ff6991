/- SpellingChecks: a list of symbols as cells of a row. -/
import Derived.Test.YtjiijgdkdlelhaaGreatDoorScG
import Derived.Deep.DeepAppendRoom
import Derived.Laws.AppendOwnNone
import Derived.OwnWalk
import Derived.Below
namespace Go.Proofs.YtjiijgdkdlelhaaGreatDoor
open Go.Shelf Go.RowKit Go.Lib

def symCells (L : List Sym) : List Value := L.flatMap Sym.enc
theorem symCells_cons (x : Sym) (L : List Sym) : symCells (x :: L) = x.enc ++ symCells L := by simp [symCells]
theorem symCells_append (L M : List Sym) : symCells (L ++ M) = symCells L ++ symCells M := by simp [symCells]
theorem symCells_length (L : List Sym) : (symCells L).length = L.length * 2 := by
  induction L with
  | nil => rfl
  | cons x L ih => rw [symCells_cons, List.length_append, ih, List.length_cons, show x.enc.length = 2 from rfl]; omega
theorem symCells_get (L : List Sym) : ∀ (j : Nat), j < L.length → ∀ i, i < 2 → (symCells L)[j * 2 + i]? = (L[j]!.enc)[i]? := by
  induction L with
  | nil => intro j hj; cases hj
  | cons x L ih =>
    intro j hj i hi
    rw [symCells_cons]
    have hl : x.enc.length = 2 := rfl
    cases j with
    | zero =>
      rw [List.getElem?_append_left (by omega)]
      simp
    | succ j =>
      rw [List.getElem?_append_right (by omega), hl, show (j + 1) * 2 + i - 2 = j * 2 + i by omega, ih j (by simpa using hj) i hi]
      simp
theorem symCells_one {L : List Sym} (h : ∀ x ∈ L, ∃ base n c, x.row = .slice base n c) : ∀ u ∈ symCells L, u.oneCell' = true := by
  intro u hu
  unfold symCells at hu
  obtain ⟨x, hx, hu⟩ := List.mem_flatMap.1 hu
  obtain ⟨b, n, c, e⟩ := h x hx
  simp only [Sym.enc, List.mem_cons, List.not_mem_nil, or_false] at hu
  rcases hu with rfl | rfl
  · rfl
  · rw [e]; rfl
theorem RowAt.shape {w : World} {v : Value} {zs : List Int} (h : RowAt w v zs) : ∃ base c, v = .slice base zs.length c := by
  rcases h with ⟨base, c, rfl, rfl⟩ | ⟨b, off, c, rfl, _, _⟩
  · exact ⟨base, c, rfl⟩
  · exact ⟨some ⟨b, off, none⟩, c, rfl⟩
theorem SymsAt.mono {w W : World} {v : Value} {L : List Sym} (h : SymsAt w v L) (hb : Below w.heap.size w W) : SymsAt W v L := by
  obtain ⟨hr, h⟩ := h
  refine ⟨fun x hx => (hr x hx).mono hb, ?_⟩
  rcases h with h | ⟨b, off, c, h1, h2, h3⟩
  · exact .inl h
  · exact .inr ⟨b, off, c, h1, Nat.lt_of_lt_of_le h2 hb.size, fun j hj i u hu => (hb.cell (p := ⟨b, off + j * 2 + i, none⟩) h2).trans (h3 j hj i u hu)⟩
theorem SymsAt.one {w : World} {v : Value} {L : List Sym} (h : SymsAt w v L) : ∀ u ∈ symCells L, u.oneCell' = true :=
  symCells_one fun x hx => by
    obtain ⟨b, c, e⟩ := (h.1 x hx).shape
    exact ⟨b, _, c, e⟩
/-- The cells of a row of symbols, as a law on append wants them. -/
theorem syms_cells {w : World} {b off : Nat} {L : List Sym} (h : ∀ j, j < L.length → ∀ i u, (L[j]!.enc)[i]? = some u → w.cell? ⟨b, off + j * 2 + i, none⟩ = some u) :
    ∀ j u, (symCells L)[j]? = some u → w.cell? ((⟨b, off, none⟩ : Addr).add j) = some u := by
  intro j u hu
  have hj : j < L.length * 2 := by
    have := (List.getElem?_eq_some_iff.1 hu).1
    rwa [symCells_length] at this
  have e : j = j / 2 * 2 + j % 2 := by omega
  rw [e, symCells_get L (j / 2) (by omega) (j % 2) (by omega)] at hu
  have := h (j / 2) (by omega) (j % 2) u hu
  rw [Addr.add_lit, show off + j = off + j / 2 * 2 + j % 2 by omega]
  exact this
/-- An owned row of symbols is one that can be read. -/
theorem syms_of_owns {w : World} {base : Nat} {v : Value} {L : List Sym} (hr : ∀ x ∈ L, RowAt w x.row x.els) (h : w.ownsRow base 35 2 v L.length (symCells L)) : SymsAt w v L := by
  refine ⟨hr, ?_⟩
  rcases h.2 with ⟨rfl, h0⟩ | ⟨g, cap, cur, rfl, hb, hg, hn, hm, hs, ht⟩
  · exact .inl ⟨none, 0, rfl, List.eq_nil_of_length_eq_zero h0, fun _ => rfl⟩
  · refine .inr ⟨g, 0, cap, rfl, (Array.getElem?_eq_some_iff.1 hg).1, fun j hj i u hu => ?_⟩
    have hi : i < 2 := (List.getElem?_eq_some_iff.1 hu).1
    have := h.cells (g := g) rfl (j * 2 + i) u (by rw [symCells_get L j hj i hi]; exact hu)
    rw [Addr.add_lit] at this
    rw [show 0 + j * 2 + i = 0 + (j * 2 + i) by omega]
    exact this
end Go.Proofs.YtjiijgdkdlelhaaGreatDoor

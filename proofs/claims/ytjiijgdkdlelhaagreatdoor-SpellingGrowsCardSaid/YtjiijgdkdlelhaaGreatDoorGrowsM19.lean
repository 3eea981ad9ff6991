/- SpellingChecks: the argument opened. -/
import Derived.Test.YtjiijgdkdlelhaaGreatDoorGrowsM18
import Derived.ProofKit
import Derived.Deep.Slices
/- SpellingChecks: the argument opened. -/
namespace Go.Proofs.YtjiijgdkdlelhaaGreatDoor
open Go.Deep Go.ChangeShapes Go.WideShapes Go.ChangeAt Go.RowKit Go.Shelf Go.Lib

theorem Tryz.cells3 : Tryz.prog.cellsOf 3 = 1 := by kernel_rfl
theorem Tryz.cells9 : Tryz.prog.cellsOf 9 = 1 := by kernel_rfl
theorem Tryz.cells28 : Tryz.prog.cellsOf 28 = 1 := by kernel_rfl
theorem Tryz.cells30 : Tryz.prog.cellsOf 30 = 2 := by kernel_rfl
theorem Tryz.cells33 : Tryz.prog.cellsOf 33 = 1 := by kernel_rfl
theorem Tryz.cells35 : Tryz.prog.cellsOf 35 = 2 := by kernel_rfl
theorem len_two {α : Type} : ∀ {l : List α}, l.length = 2 → ∃ a b, l = [a, b]
  | [a, b], _ => ⟨a, b, rfl⟩
theorem addr_plain {a : Addr} (h : a.spot = none) (n : Nat) : a.add n = ⟨a.block, a.off + n, none⟩ := by
  obtain ⟨b, off, s⟩ := a
  cases h
  exact Addr.add_lit ..

section
variable {H : Type} {enc : TypeId × Value → H} {W : World} {sp : Nat → Bool} {held : Bool}
theorem row_of_trod {fuel : Nat} {c : Value} {x : DataW H × List MemPlace} (h : DataW.trod enc Tryz.prog W 0 sp held fuel 33 [c] = some x) : ∃ zs, RowAt W c zs ∧ zs.length ≤ maxLen := by
  rcases open_ints Tryz.underlying33 Tryz.underlying3 Tryz.cells3 h with ⟨hcs, _⟩ | ⟨a, len, cap, zs, hcs, _, hl, hm, hz, _, hcell, _⟩
  · cases hcs
    exact ⟨[], .inl ⟨none, 0, rfl, rfl⟩, Nat.zero_le _⟩
  · cases hcs
    by_cases h0 : len = 0
    · subst h0
      exact ⟨[], .inl ⟨some a, cap, rfl, rfl⟩, Nat.zero_le _⟩
    · have hlz : len ≤ zs.length := by rw [hz]; split <;> omega
      have hs : a.spot = none := by simpa [Addr.add] using World.cell?_spot (hcell 0 (by omega))
      have htl : (zs.take len).length = len := by rw [List.length_take]; omega
      have hb : a.block < W.heap.size := World.block_lt_of_cell? _ a (by simpa [Addr.add] using hcell 0 (by omega))
      refine ⟨zs.take len, .inr ⟨a.block, a.off, cap, ?_, hb, fun j hj => ?_⟩, by omega⟩
      · rw [htl]
        obtain ⟨b, off, s⟩ := a
        cases hs
        rfl
      · have hj' : j < len := by omega
        have := hcell j (by omega)
        rw [addr_plain hs] at this
        rw [this, getElem!_pos (zs.take len) j hj, List.getElem_take, List.getD_eq_getElem?_getD, List.getElem?_eq_getElem (by omega)]
        rfl

theorem syms_of_trod {fuel : Nat} {c : Value} {x : DataW H × List MemPlace} (h : DataW.trod enc Tryz.prog W 0 sp held fuel 28 [c] = some x) : ∃ L, SymsAt W c L ∧ L.length ≤ maxLen ∧ ∀ y ∈ L, y.els.length ≤ maxLen := by
  rcases open_slice Tryz.underlying28 h with ⟨hcs, _⟩ | ⟨a, len, cap, m, n, D, Pl, hcs, _, hl, hm, hmm, _, hx⟩
  · cases hcs
    exact ⟨[], ⟨fun _ h => (by cases h), .inl ⟨none, 0, rfl, rfl, fun _ => rfl⟩⟩, Nat.zero_le _, fun _ h => by cases h⟩
  · cases hcs
    by_cases h0 : len = 0
    · subst h0
      exact ⟨[], ⟨fun _ h => (by cases h), .inl ⟨some a, cap, rfl, rfl, fun h => (by cases h)⟩⟩, Nat.zero_le _, fun _ h => by cases h⟩
    · have hlm : len ≤ m := by rw [hmm]; split <;> omega
      rw [Tryz.cells35] at hx
      have each : ∀ i, i < len → ∃ y : Sym, RowAt W y.row y.els ∧ y.els.length ≤ maxLen ∧ W.cells? 0 (a.add (i * 2)) 2 = some y.enc := fun i hi => by
        obtain ⟨cs', h1, h2⟩ := hx i (by omega)
        obtain ⟨y0, y1, k, _, hlen, hf0, hf1⟩ := trod_struct2 Tryz.underlying35 h2
        rw [Tryz.cells35] at hlen
        obtain ⟨u0, u1, rfl⟩ := len_two hlen
        dsimp only at hf0 hf1
        rw [Tryz.cells9] at hf0
        rw [Tryz.cells33] at hf1
        have hf0' : DataW.trod enc Tryz.prog W 0 sp held k 9 [u0] = some y0 := hf0
        have hf1' : DataW.trod enc Tryz.prog W 0 sp held k 33 [u1] = some y1 := hf1
        obtain ⟨s, e, _⟩ := DataW.trod_string Tryz.underlying9 hf0'
        cases e
        obtain ⟨zs, hr, hz⟩ := row_of_trod hf1'
        exact ⟨⟨s, u1, zs⟩, hr, hz, h1⟩
      obtain ⟨X, hX⟩ := choose_lt (α := Sym) each
      have hcell : ∀ j, j < len → ∀ i, i < 2 → W.cell? ((a.add (j * 2)).add i) = (X j).enc[i]? := fun j hj i hi => (World.cells?_some (hX j hj).2.2).2.2 i hi
      have hc0 : W.cell? a = some (.string (X 0).name) := by
        have := hcell 0 (by omega) 0 (by omega)
        simpa [Addr.add, Sym.enc] using this
      have hs : a.spot = none := World.cell?_spot hc0
      have hb : a.block < W.heap.size := World.block_lt_of_cell? _ a hc0
      have hlen : ((List.range len).map X).length = len := by simp
      refine ⟨(List.range len).map X, ⟨fun y hy => ?_, .inr ⟨a.block, a.off, cap, ?_, hb, fun j hj i u hu => ?_⟩⟩, by omega, fun y hy => ?_⟩
      · obtain ⟨i, hi, rfl⟩ := List.mem_map.1 hy
        exact (hX i (List.mem_range.1 hi)).1
      · rw [hlen]
        obtain ⟨b, off, s⟩ := a
        cases hs
        rfl
      · have hj' : j < len := by omega
        have e : ((List.range len).map X)[j]! = X j := by
          rw [getElem!_pos _ j hj]
          simp
        rw [e] at hu
        have hi2 : i < 2 := (List.getElem?_eq_some_iff.1 hu).1
        have := hcell j hj' i hi2
        rw [addr_plain hs, Addr.add_lit] at this
        rw [this]
        exact hu
      · obtain ⟨i, hi, rfl⟩ := List.mem_map.1 hy
        exact (hX i (List.mem_range.1 hi)).2.1
theorem note_of_trod {fuel : Nat} {cs : List Value} {x : DataW H × List MemPlace} (h : DataW.trod enc Tryz.prog W 0 sp held fuel 30 cs = some x) : ∃ v1 v2 L1 L2, cs = [v1, v2] ∧ NoteAt W v1 v2 L1 L2 := by
  obtain ⟨y0, y1, k, _, hlen, hf0, hf1⟩ := trod_struct2 Tryz.underlying30 h
  rw [Tryz.cells30] at hlen
  obtain ⟨u0, u1, rfl⟩ := len_two hlen
  dsimp only at hf0 hf1
  rw [Tryz.cells28] at hf0 hf1
  have hf0' : DataW.trod enc Tryz.prog W 0 sp held k 28 [u0] = some y0 := hf0
  have hf1' : DataW.trod enc Tryz.prog W 0 sp held k 28 [u1] = some y1 := hf1
  obtain ⟨L1, h1, g1, k1⟩ := syms_of_trod hf0'
  obtain ⟨L2, h2, g2, k2⟩ := syms_of_trod hf1'
  have e : maxLen = 9223372036854775807 := by unfold maxLen; decide
  exact ⟨u0, u1, L1, L2, rfl, h1, h2, by omega, by omega, fun x hx => by
      rcases List.mem_append.1 hx with h | h
      · have := k1 x h; omega
      · have := k2 x h; omega⟩
end
end Go.Proofs.YtjiijgdkdlelhaaGreatDoor

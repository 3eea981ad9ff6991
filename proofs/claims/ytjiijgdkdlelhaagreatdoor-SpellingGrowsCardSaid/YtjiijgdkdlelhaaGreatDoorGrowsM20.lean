/- The arguments opened: a plan, two small numbers. -/
import Derived.Test.YtjiijgdkdlelhaaGreatDoorGrowsM19
import Derived.Lib.SmallJoins
import Derived.OpenShut
/- The arguments opened: a plan, two small numbers. -/
namespace Go.Proofs.YtjiijgdkdlelhaaGreatDoor
open Go.Deep Go.ChangeShapes Go.WideShapes Go.ChangeAt Go.RowKit Go.Shelf Go.Lib

theorem take_at {cs l : List Value} {o k j : Nat} (h : (cs.drop o).take k = l) (hj : j < k) : cs[o + j]? = l[j]? := by
  subst h
  rw [List.getElem?_take, if_pos hj, List.getElem?_drop]
theorem Tryz.cells4 : Tryz.prog.cellsOf 4 = 1 := by kernel_rfl
theorem Tryz.cells5 : Tryz.prog.cellsOf 5 = 1 := by kernel_rfl
theorem Tryz.cells22 : Tryz.prog.cellsOf 22 = 1 := by kernel_rfl
theorem Tryz.cells23 : Tryz.prog.cellsOf 23 = 2 := by kernel_rfl
theorem Tryz.cells24 : Tryz.prog.cellsOf 24 = 14 := by kernel_rfl
theorem Tryz.cells26 : Tryz.prog.cellsOf 26 = 17 := by kernel_rfl

section
variable {H : Type} {enc : TypeId × Value → H} {W : World} {sp : Nat → Bool} {held : Bool}
theorem pair_of_trod {fuel : Nat} {cs : List Value} {x : DataW H × List MemPlace} (h : DataW.trod enc Tryz.prog W 0 sp held fuel 23 cs = some x) : ∃ r : Nat → Int, ∀ j, j < 2 → cs[j]? = some (.int .i8 (r j)) ∧ -128 ≤ r j ∧ r j ≤ 127 := by
  obtain ⟨xs, m, -, -, hl, hx, hf⟩ := DataW.trod_array Tryz.underlying23 h
  have each : ∀ j, j < 2 → ∃ n : Int, cs[j]? = some (.int .i8 n) ∧ -128 ≤ n ∧ n ≤ 127 := fun j hj => by
    have h1 := hf j hj
    rw [Tryz.cells22, Nat.mul_one, List.getElem?_eq_getElem (by omega)] at h1
    obtain ⟨n, e1, -, hw⟩ := DataW.trod_int Tryz.underlying22 h1
    refine ⟨n, ?_, bounds_i8 hw⟩
    have := take_at e1 (j := 0) (by omega)
    simpa using this
  obtain ⟨r, hr⟩ := choose_lt (α := Int) each
  exact ⟨r, hr⟩
theorem plan_of_trod {fuel : Nat} {cs : List Value} {x : DataW H × List MemPlace} (h : DataW.trod enc Tryz.prog W 0 sp held fuel 26 cs = some x) : ∃ (two : Bool) (pn pa : Int) (R : Nat → Nat → Int), cs[0]? = some (.bool two) ∧ cs[1]? = some (.int .u8 pn) ∧ cs[2]? = some (.int .u8 pa) ∧ (0 ≤ pn ∧ pn ≤ 255) ∧ (0 ≤ pa ∧ pa ≤ 255) ∧
    ∀ i j, i < 7 → j < 2 → cs[3 + i * 2 + j]? = some (.int .i8 (R i j)) ∧ -128 ≤ R i j ∧ R i j ≤ 127 := by
  obtain ⟨y0, y1, y2, y3, k, -, hlen, h0, h1, h2, h3⟩ := Go.Joins.trod_struct4 Tryz.underlying26 h
  dsimp only at h0 h1 h2 h3
  rw [Tryz.cells4] at h0
  rw [Tryz.cells5] at h1 h2
  rw [Tryz.cells24] at h3
  obtain ⟨two, e0, -⟩ := DataW.trod_bool Tryz.underlying4 h0
  obtain ⟨pn, e1, -, w1⟩ := DataW.trod_int Tryz.underlying5 h1
  obtain ⟨pa, e2, -, w2⟩ := DataW.trod_int Tryz.underlying5 h2
  obtain ⟨xs, m, -, -, hl, hx, hf⟩ := DataW.trod_array Tryz.underlying24 h3
  have each : ∀ i, i < 7 → ∃ r : Nat → Int, ∀ j, j < 2 → cs[3 + i * 2 + j]? = some (.int .i8 (r j)) ∧ -128 ≤ r j ∧ r j ≤ 127 := fun i hi => by
    have g1 := hf i hi
    rw [Tryz.cells23, List.getElem?_eq_getElem (by omega)] at g1
    obtain ⟨r, hr⟩ := pair_of_trod g1
    refine ⟨r, fun j hj => ⟨?_, (hr j hj).2⟩⟩
    have a1 := (hr j hj).1
    rw [List.getElem?_take, if_pos hj, List.getElem?_drop, List.getElem?_take, if_pos (by omega), List.getElem?_drop] at a1
    rw [← a1]
    congr 1
    omega
  obtain ⟨R, hR⟩ := choose_lt (α := Nat → Int) each
  refine ⟨two, pn, pa, R, by simpa using take_at e0 (j := 0) (by omega), by simpa using take_at e1 (j := 0) (by omega), by simpa using take_at e2 (j := 0) (by omega), bounds_u8 w1, bounds_u8 w2, fun i j hi hj => hR i hi j hj⟩
end
end Go.Proofs.YtjiijgdkdlelhaaGreatDoor

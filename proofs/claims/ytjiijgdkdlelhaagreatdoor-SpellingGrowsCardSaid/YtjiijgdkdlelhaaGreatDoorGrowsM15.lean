/- SpellingGrows: the globals as the row lays them. -/
import Derived.Test.YtjiijgdkdlelhaaGreatDoorGrowsM14
import Derived.Test.YtjiijgdkdlelhaaGreatDoorRows
import Derived.Test.YtjiijgdkdlelhaaGreatDoorChecked
import Derived.ProofKit
import Derived.Lib.LaidU8
import Derived.OpenShut
import Derived.LaidMore
import Derived.Lay
import Derived.SevenTiedAt
import Derived.Stop.Joined
/- What every row of this seat wants. -/
namespace Go.Proofs.YtjiijgdkdlelhaaGreatDoor
open Go.ChangeShapes Go.WideShapes Go.ChangeAt Go.RowKit Go.Shelf Go.Lib

theorem cell_of_reads {W : World} {name : String} {d : DataW Unit} {g t e n : Nat} {k : IntKind} {zs : List Int} (h : VarReads Tryz.prog W name d) (hd : d = tabData k zs) (hg : Tryz.prog.globalNamed name = some g) (ht : (Tryz.prog.globals[g]?).map (·.type) = some t)
    (h1 : Tryz.prog.underlying t = some (.array n e)) (h2 : Tryz.prog.underlying e = some (.int k)) (h3 : Tryz.prog.cellsOf e = 1) (h4 : Tryz.prog.cellsOf t = n) (hz : 0 < zs.length) :
    g < W.heap.size ∧ W.rangeAt g 0 (zs.map fun z => Value.int k z) := by
  obtain ⟨g', t', cs, fuel, p, e1, e2, e3, e4⟩ := h
  obtain rfl := Option.some.inj (hg.symm.trans e1)
  obtain rfl := Option.some.inj (ht.symm.trans e2)
  rw [hd] at e4
  have hcs := cells_of_tab h1 h2 h3 h4 e4
  have hcell : ∀ j u, (zs.map fun z => Value.int k z)[j]? = some u → W.cell? ⟨g, j, none⟩ = some u := fun j u hu => by
    rw [World.var?_cell e1 e3 j, ← Array.getElem?_toList, hcs]
    exact hu
  have hr : W.rangeAt g 0 (zs.map fun z => Value.int k z) := fun j u hu => by
    rw [Nat.zero_add]
    exact hcell j u hu
  refine ⟨?_, hr⟩
  have h0 : ∃ u, (zs.map fun z => Value.int k z)[0]? = some u := ⟨_, List.getElem?_eq_getElem (by simpa using hz)⟩
  obtain ⟨u, hu⟩ := h0
  exact World.block_lt_of_cell? _ _ (hcell 0 u hu)

noncomputable def zsOf (l : List Nat) : List Int := l.map Int.ofNat
theorem own : ownKnob Tryz.prog.godebug = none := by kernel_rfl
theorem Tryz.laidOut : laidOutB Tryz.prog = true := by kernel_rfl
theorem and_tt {a b : Bool} (ha : a = true) (hb : b = true) : (a && b) = true := by rw [ha, hb]; rfl
end Go.Proofs.YtjiijgdkdlelhaaGreatDoor

/- SpellingGrows: the globals as the row lays them. -/
namespace Go.Proofs.YtjiijgdkdlelhaaGreatDoor
open Go.ChangeShapes Go.WideShapes Go.ChangeAt Go.RowKit Go.Shelf Go.Lib
theorem spellingGrows_globs {W : World} (h : laidMetH Tryz.prog Rows.spellingGrowsRow.laid W) : GlobsAt W := by
  rw [MakeChecks.laidMetH_plain _ _ _ (by kernel_rfl)] at h
  have r1 := Lib.laidMet.reads h (n := "math/bits.deBruijn64tab") (d := Rows.laid_math_bits_deBruijn64tab) (by simp [Rows.spellingGrowsRow])
  have r2 := Lib.laidMet.reads h (n := "math/bits.deBruijn32tab") (d := Rows.laid_math_bits_deBruijn32tab) (by simp [Rows.spellingGrowsRow])
  have r3 := Lib.laidMet.reads h (n := "internal/strconv.uint64pow10") (d := Rows.laid_internal_strconv_uint64pow10) (by simp [Rows.spellingGrowsRow])
  have c1 := cell_of_reads (k := .u8) (zs := zsOf db64) r1 (by kernel_rfl) (g := 5) (t := 367) (by kernel_rfl) (by kernel_rfl) Tryz.underlying367 Tryz.underlying5 (by kernel_rfl) (by kernel_rfl) (by decide +kernel)
  have c2 := cell_of_reads (k := .u8) (zs := zsOf db32) r2 (by kernel_rfl) (g := 4) (t := 366) (by kernel_rfl) (by kernel_rfl) Tryz.underlying366 Tryz.underlying5 (by kernel_rfl) (by kernel_rfl) (by decide +kernel)
  have c3 := cell_of_reads (k := .u64) (zs := zsOf p10) r3 (by kernel_rfl) (g := 0) (t := 344) (by kernel_rfl) (by kernel_rfl) Tryz.underlying344 Tryz.underlying205 (by kernel_rfl) (by kernel_rfl) (by decide +kernel)
  have e1 : (zsOf db64).map (fun z => Value.int .u8 z) = u8s db64 := by unfold zsOf u8s; rw [List.map_map]; rfl
  have e2 : (zsOf db32).map (fun z => Value.int .u8 z) = u8s db32 := by unfold zsOf u8s; rw [List.map_map]; rfl
  have e3 : (zsOf p10).map (fun z => Value.int .u64 z) = u64s p10 := by unfold zsOf u64s; rw [List.map_map]; rfl
  rw [e1] at c1
  rw [e2] at c2
  rw [e3] at c3
  intro x hx
  simp only [gs, List.mem_cons, List.not_mem_nil, or_false] at hx
  rcases hx with rfl | rfl | rfl
  · exact ⟨by omega, c1.1, by kernel_rfl, of_decide_eq_true (by kernel_rfl), c1.2⟩
  · exact ⟨by omega, c2.1, by kernel_rfl, of_decide_eq_true (by kernel_rfl), c2.2⟩
  · exact ⟨by omega, c3.1, by kernel_rfl, of_decide_eq_true (by kernel_rfl), c3.2⟩

end Go.Proofs.YtjiijgdkdlelhaaGreatDoor

/- SpellingChecks: the law's function returns true. -/
import Derived.Test.YtjiijgdkdlelhaaGreatDoorScP
import Derived.Test.YtjiijgdkdlelhaaGreatDoorEvJust
namespace Go.Proofs.YtjiijgdkdlelhaaGreatDoor
open Go.Shelf Go.RowKit Go.Lib

/-- What the examples read lies in the world. -/
def GlobsAt (w : World) : Prop := ∀ x ∈ gs, x.1 < 64 ∧ x.1 < w.heap.size ∧ x.2.all Go.Ev.scal = true ∧ x.2.length ≤ 1000000 ∧ w.rangeAt x.1 0 x.2
theorem GlobsAt.mono {w W : World} (h : GlobsAt w) (hb : Below w.heap.size w W) : GlobsAt W := fun x hx => by
  obtain ⟨h1, h2, h3, h4, h5⟩ := h x hx
  exact ⟨h1, Nat.lt_of_lt_of_le h2 hb.size, h3, h4, fun k v hk => (hb.cell (p := ⟨x.1, 0 + k, none⟩) h2).trans (h5 k v hk)⟩
/-- The law's own boxes, carried along. -/
structure Carry (W : World) (g1 : Nat) (u1 u2 : Value) (g4 : Nat) (s1 s2 s3 : Value) (g6 : Nat) : Prop where
  l1 : g1 < W.heap.size
  l4 : g4 < W.heap.size
  l6 : g6 < W.heap.size
  c10 : W.cell? ⟨g1, 0, none⟩ = some u1
  c11 : W.cell? ⟨g1, 1, none⟩ = some u2
  c40 : W.cell? ⟨g4, 0, none⟩ = some s1
  c41 : W.cell? ⟨g4, 1, none⟩ = some s2
  c42 : W.cell? ⟨g4, 2, none⟩ = some s3
  c60 : W.cell? ⟨g6, 0, none⟩ = some (.int .i64 0)
  c61 : W.cell? ⟨g6, 1, none⟩ = some (.slice none 0 0)
theorem Carry.step {W W' : World} {g1 : Nat} {u1 u2 : Value} {g4 : Nat} {s1 s2 s3 : Value} {g6 : Nat} (c : Carry W g1 u1 u2 g4 s1 s2 s3 g6) (h : Below W.heap.size W W') : Carry W' g1 u1 u2 g4 s1 s2 s3 g6 where
  l1 := Nat.lt_of_lt_of_le c.l1 h.size
  l4 := Nat.lt_of_lt_of_le c.l4 h.size
  l6 := Nat.lt_of_lt_of_le c.l6 h.size
  c10 := (h.cell (p := ⟨g1, 0, none⟩) c.l1).trans c.c10
  c11 := (h.cell (p := ⟨g1, 1, none⟩) c.l1).trans c.c11
  c40 := (h.cell (p := ⟨g4, 0, none⟩) c.l4).trans c.c40
  c41 := (h.cell (p := ⟨g4, 1, none⟩) c.l4).trans c.c41
  c42 := (h.cell (p := ⟨g4, 2, none⟩) c.l4).trans c.c42
  c60 := (h.cell (p := ⟨g6, 0, none⟩) c.l6).trans c.c60
  c61 := (h.cell (p := ⟨g6, 1, none⟩) c.l6).trans c.c61
theorem Carry.start {w5 : World} {g1 : Nat} {u1 u2 s1 s2 s3 : Value} (h : g1 < w5.heap.size ∧ w5.cell? ⟨g1, 0, none⟩ = some u1 ∧ w5.cell? ⟨g1, 1, none⟩ = some u2) :
    Carry ((w5.alloc (.cells #[s1, s2, s3] 88)).alloc (.cells #[.int .i64 0, .slice none 0 0] 42)) g1 u1 u2 w5.heap.size s1 s2 s3 (w5.heap.size + 1) := by
  have h2 := cell_step (cell_step h (below_alloc _ (.cells #[s1, s2, s3] 88))) (below_alloc _ (.cells #[.int .i64 0, .slice none 0 0] 42))
  have b2 : ((w5.alloc (.cells #[s1, s2, s3] 88)).alloc (.cells #[.int .i64 0, .slice none 0 0] 42)).heap[w5.heap.size]? = some (.cells #[s1, s2, s3] 88 (0, 0)) := heap_alloc2_old w5 _ _
  have b3 : ((w5.alloc (.cells #[s1, s2, s3] 88)).alloc (.cells #[.int .i64 0, .slice none 0 0] 42)).heap[w5.heap.size + 1]? = some (.cells #[.int .i64 0, .slice none 0 0] 42 (0, 0)) := heap_alloc2_new w5 _ _
  exact ⟨h2.1, by simp; omega, by simp, h2.2.1, h2.2.2, cell_of_row _ _ 0 _ 88 (0, 0) b2, cell_of_row _ _ 1 _ 88 (0, 0) b2, cell_of_row _ _ 2 _ 88 (0, 0) b2, cell_of_row _ _ 0 _ 42 (0, 0) b3, cell_of_row _ _ 1 _ 42 (0, 0) b3⟩
theorem range_one (W : World) (a : Value) (t : TypeId) : (W.alloc (.cells #[a] t)).rangeAt W.heap.size 0 [a] := fun k v hk => by
  match k, hk with
  | 0, hk => cases hk; exact cell_of_row _ _ 0 _ t (0, 0) (heap_alloc_new W _)

theorem two_lt {w w1 : World} {o : Obj} {a b : Value} (h : w1.cell? ⟨w.heap.size, 0, none⟩ = some a ∧ w1.cell? ⟨w.heap.size, 1, none⟩ = some b ∧ w1.frozen? ⟨w.heap.size, 0, none⟩ = false ∧ w1.frozen? ⟨w.heap.size, 1, none⟩ = false) (_ : Below w.heap.size w w1) (hb : Below (w.alloc o).heap.size (w.alloc o) w1) :
    w.heap.size < w1.heap.size ∧ w1.cell? ⟨w.heap.size, 0, none⟩ = some a ∧ w1.cell? ⟨w.heap.size, 1, none⟩ = some b :=
  ⟨by have := hb.size; simp at this; omega, h.1, h.2.1⟩

set_option maxRecDepth 20000 in
set_option maxHeartbeats 4000000 in
theorem law_calls {w : World} {p1 p2 : Option Addr} {n1 q1 n2 q2 : Nat} {L1 L2 : List Sym} (hG : GlobsAt w) (hN : NoteAt w (.slice p1 n1 q1) (.slice p2 n2 q2) L1 L2) :
    Calls Tryz.prog 8 #[.agg #[.slice p1 n1 q1, .slice p2 n2 q2]] w fun e w' => e = .returned (.bool true) ∧ Below w.heap.size w w' := by
  have hb := below_alloc w (.cells #[.slice p1 n1 q1, .slice p2 n2 q2] 30)
  have HB := aside hb
  have hkn : ∀ W, Below w.heap.size w W → Calls Tryz.prog 11 #[] W fun e w' => e = .returned (.bool true) ∧ Below W.heap.size W w' := fun W hW => known_calls (hG.mono hW)
  have hfew : ∀ W, Below w.heap.size w W → Calls Tryz.prog 43 #[.agg #[.slice p1 n1 q1, .slice p2 n2 q2]] W fun e w' => e = .returned (.bool (fewB L1 L2)) ∧ Below W.heap.size W w' := fun W hW => few_calls (hN.mono hW).one (hN.mono hW).two hN.b1 hN.b2
  have hchk : ∀ W, Below w.heap.size w W → Calls Tryz.prog 44 #[.agg #[.slice p1 n1 q1, .slice p2 n2 q2]] W fun e w' => e = .returned (.int .i64 (noteErr L1 L2)) ∧ Below W.heap.size W w' := fun W hW => check_calls (hN.mono hW).one (hN.mono hW).two hN.b1 hN.b2 hN.b3
  have hspc := checksTo hN
  have hju : ∀ W ba, Below w.heap.size w W → ba < W.heap.size → W.rangeAt ba 0 [.int .i64 2] → Calls Tryz.prog 46 #[.slice (some ⟨ba, 0, none⟩) 1 1] W fun e w' => (∃ a1 b1 c1 a2 b2 c2 a3 b3 c3 y, e = .returned (.tuple #[.agg #[.slice a1 b1 c1, .slice a2 b2 c2, .slice a3 b3 c3], y])) ∧ Below W.heap.size W w' := fun W ba hW hba hr => just_calls (hG.mono hW) hba hr
  have KN := aside hkn
  have HJ := aside hju
  have T0 := aside (cell_two w (.slice p1 n1 q1) (.slice p2 n2 q2) 30)
  clear hb hkn hju hG hN
  generalize noteErr L1 L2 = er at hchk hspc
  have HCHK := aside hchk
  have HSP := aside hspc
  clear hchk hspc
  cases hf : fewB L1 L2 with
  | false =>
    rw [hf] at hfew
    have HF := aside hfew
    clear hfew hf
    go_enter Tryz.func8, Tryz.ntmps8
    go_wp2_with (first
      | (go_at_call 11; refine (KN.out _ HB.out).mono ?_; rintro e w1 ⟨rfl, hb1⟩; have B1 := below_then HB.out hb1; have x1 := new_two (g := w.heap.size) _ _ _ rfl hb1; have x10 := x1.1; have x11 := x1.2.1)
      | (go_at_call 43; refine (HF.out _ B1).mono ?_; rintro e w2 ⟨rfl, hb2⟩; have B2 := below_then B1 hb2)
      | (go_at_call 11; refine (KN.out _ B2).mono ?_; rintro e w3 ⟨rfl, hb3⟩))
    go_ret
    exact ⟨rfl, below_then B2 hb3⟩
  | true =>
    rw [hf] at hfew
    have HF := aside hfew
    clear hfew hf
    by_cases he : er = 0
    · subst he
      go_enter Tryz.func8, Tryz.ntmps8
      go_wp2_with (first
        | (go_at_call 11; refine (KN.out _ HB.out).mono ?_; rintro e w1 ⟨rfl, hb1⟩; have B1 := below_then HB.out hb1; have x1 := new_two (g := w.heap.size) _ _ _ rfl hb1; have y1 := two_lt x1 B1 hb1; have x10 := x1.1; have x11 := x1.2.1)
        | (go_at_call 43; refine (HF.out _ B1).mono ?_; rintro e w2 ⟨rfl, hb2⟩; have B2 := below_then B1 hb2; have y2 := cell_step y1 hb2; have x20 := y2.2.1; have x21 := y2.2.2)
        | (go_at_call 44; refine (HCHK.out _ B2).mono ?_; rintro e w3 ⟨rfl, hb3⟩; have B3 := below_then B2 hb3; have y3 := cell_step y2 hb3; have x30 := y3.2.1; have x31 := y3.2.2)
        | (go_at_call 45; refine (HSP.out _ B3).mono ?_; rintro e w4 ⟨rfl, hb4⟩; have B4 := below_then B3 hb4))
      go_ret
      exact ⟨rfl, B4⟩
    · go_enter Tryz.func8, Tryz.ntmps8
      go_wp2_with (first
        | (go_at_call 11; refine (KN.out _ HB.out).mono ?_; rintro e w1 ⟨rfl, hb1⟩; have B1 := below_then HB.out hb1; have x1 := new_two (g := w.heap.size) _ _ _ rfl hb1; have y1 := two_lt x1 B1 hb1; have x10 := x1.1; have x11 := x1.2.1)
        | (go_at_call 43; refine (HF.out _ B1).mono ?_; rintro e w2 ⟨rfl, hb2⟩; have B2 := below_then B1 hb2; have y2 := cell_step y1 hb2; have x20 := y2.2.1; have x21 := y2.2.2)
        | (go_at_call 44; refine (HCHK.out _ B2).mono ?_; rintro e w3 ⟨rfl, hb3⟩; have B3 := below_then B2 hb3; have y3 := cell_step y2 hb3; have x30 := y3.2.1; have x31 := y3.2.2)
        | (go_at_call 45; refine (HSP.out _ B3).mono ?_; rintro e w4 ⟨rfl, hb4⟩; have B4 := below_then B3 hb4; have y4 := cell_step y3 hb4; clear x10 x11 x20 x21 x30 x31 x1 y1 y2 y3)
        | (go_at_call 46; refine (HJ.out _ _ (below_then B4 (below_alloc w4 _)) (by simp) (range_one _ _ _)).mono ?_; rintro e w5 ⟨⟨a1, b1, c1, a2, b2, c2, a3, b3, c3, y, rfl⟩, hb5⟩; have B5 := below_then (below_then B4 (below_alloc w4 _)) hb5; have C5 := Carry.start (s1 := .slice a1 b1 c1) (s2 := .slice a2 b2 c2) (s3 := .slice a3 b3 c3) (cell_step (cell_step y4 (below_alloc w4 _)) hb5); have D5 := below_then B5 (below_then (below_alloc w5 (.cells #[.slice a1 b1 c1, .slice a2 b2 c2, .slice a3 b3 c3] 88)) (below_alloc _ (.cells #[.int .i64 0, .slice none 0 0] 42))); obtain ⟨-, -, -, z0, z1, z2, z3, z4, z5, z6⟩ := id C5)
        | (go_at_call 18; refine (read_err (HSP.out.mono D5) he _ _ _ _).mono ?_; rintro e w6 ⟨rfl, hb6⟩; have D6 := below_then D5 hb6; have C6 := C5.step hb6; clear z0 z1 z2 z3 z4 z5 z6; obtain ⟨-, -, -, z0, z1, z2, z3, z4, z5, z6⟩ := id C6)
        | (go_at_call 13; refine (all_err (HSP.out.mono D6) he _ _).mono ?_; rintro e w7 ⟨rfl, hb7⟩; have D7 := below_then D6 hb7; have C7 := C6.step hb7; clear z0 z1 z2 z3 z4 z5 z6; obtain ⟨-, -, -, z0, z1, z2, z3, z4, z5, z6⟩ := id C7)
        | (go_at_call 29; refine (simplest_err (HSP.out.mono D7) he _ _).mono ?_; rintro e w8 ⟨rfl, hb8⟩; have D8 := below_then (below_then D7 hb8) (below_alloc w8 (.cells #[.int .i64 0, .slice none 0 0] 42)); have C8 := (C7.step hb8).step (below_alloc w8 (.cells #[.int .i64 0, .slice none 0 0] 42)); clear z0 z1 z2 z3 z4 z5 z6; obtain ⟨-, -, -, z0, z1, z2, z3, z4, z5, z6⟩ := id C8)
        | (go_at_call 22; refine (enh_err (HSP.out.mono D8) he _ _ _ _ _).mono ?_; rintro e w9 ⟨rfl, hb9⟩; have D9 := below_then D8 hb9; have C9 := C8.step hb9; clear z0 z1 z2 z3 z4 z5 z6; obtain ⟨-, -, -, z0, z1, z2, z3, z4, z5, z6⟩ := id C9)
        | (go_at_call 38; refine (rel_err (HSP.out.mono D9) he).mono ?_; rintro e wA ⟨rfl, hbA⟩; have DA := below_then D9 hbA; have CA := C9.step hbA; clear z0 z1 z2 z3 z4 z5 z6; obtain ⟨-, -, -, z0, z1, z2, z3, z4, z5, z6⟩ := id CA)
        | (go_at_call 33; refine (same_err (HSP.out.mono DA) he _ _ _ _ _ _ _ _).mono ?_; rintro e wB ⟨rfl, hbB⟩; have DB := below_then DA hbB; have CB := CA.step hbB; clear z0 z1 z2 z3 z4 z5 z6; obtain ⟨-, -, -, z0, z1, z2, z3, z4, z5, z6⟩ := id CB)
        | (go_at_call 47; refine (interval_err (HSP.out.mono DB) he _ _ _ _ _ _ _ _ _ _ _ _ _).mono ?_; rintro e wC ⟨rfl, hbC⟩; have DC := below_then (below_then DB hbC) (below_alloc wC (.cells #[.int .i64 0, .slice none 0 0] 42))))
      go_ret
      exact ⟨rfl, DC⟩
end Go.Proofs.YtjiijgdkdlelhaaGreatDoor

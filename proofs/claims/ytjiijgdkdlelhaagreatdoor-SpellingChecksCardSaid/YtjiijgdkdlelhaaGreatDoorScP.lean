/- SpellingChecks: every function of the layer returns the error of the notation first. -/
import Derived.Test.YtjiijgdkdlelhaaGreatDoorScO
namespace Go.Proofs.YtjiijgdkdlelhaaGreatDoor
open Go.Shelf Go.RowKit Go.Lib

/-- A notation lies behind two slice values. -/
structure NoteAt (w : World) (v1 v2 : Value) (L1 L2 : List Sym) : Prop where
  one : SymsAt w v1 L1
  two : SymsAt w v2 L2
  b1 : L1.length ≤ 9223372036854775807
  b2 : L2.length ≤ 9223372036854775807
  b3 : ∀ x ∈ L1 ++ L2, x.els.length ≤ 9223372036854775807
theorem NoteAt.mono {w W : World} {v1 v2 : Value} {L1 L2 : List Sym} (h : NoteAt w v1 v2 L1 L2) (hb : Below w.heap.size w W) : NoteAt W v1 v2 L1 L2 :=
  ⟨h.one.mono hb, h.two.mono hb, h.b1, h.b2, h.b3⟩
theorem NoteAt.shape {w : World} {v1 v2 : Value} {L1 L2 : List Sym} (h : NoteAt w v1 v2 L1 L2) : ∃ p1 q1 p2 q2, v1 = .slice p1 L1.length q1 ∧ v2 = .slice p2 L2.length q2 := by
  obtain ⟨p1, q1, e1⟩ := h.one.shape
  obtain ⟨p2, q2, e2⟩ := h.two.shape
  exact ⟨p1, q1, p2, q2, e1, e2⟩
/-- spelling.Check at every later world. -/
def ChecksTo (w : World) (p1 : Option Addr) (n1 q1 : Nat) (p2 : Option Addr) (n2 q2 : Nat) (er : Int) : Prop :=
  ∀ W, Below w.heap.size w W → Calls Tryz.prog 45 #[.agg #[.slice p1 n1 q1, .slice p2 n2 q2]] W fun e w' => e = .returned (.int .i64 er) ∧ Below W.heap.size W w'
theorem ChecksTo.mono {w W : World} {p1 p2 : Option Addr} {n1 q1 n2 q2 : Nat} {er : Int} (h : ChecksTo w p1 n1 q1 p2 n2 q2 er) (hb : Below w.heap.size w W) : ChecksTo W p1 n1 q1 p2 n2 q2 er :=
  fun W' hW => h W' (hb.trans (hW.mono hb.size))
theorem checksTo {w : World} {p1 p2 : Option Addr} {n1 q1 n2 q2 : Nat} {L1 L2 : List Sym} (h : NoteAt w (.slice p1 n1 q1) (.slice p2 n2 q2) L1 L2) : ChecksTo w p1 n1 q1 p2 n2 q2 (noteErr L1 L2) :=
  fun W hW => have k := h.mono hW; spCheck_calls k.one k.two k.b1 k.b2 k.b3

section
variable {w : World} {p1 p2 : Option Addr} {n1 q1 n2 q2 : Nat} {er : Int}
theorem open_err (H : ChecksTo w p1 n1 q1 p2 n2 q2 er) (he : ¬ er = 0) (l : Value) : Calls Tryz.prog 59 #[.agg #[.slice p1 n1 q1, .slice p2 n2 q2], l] w fun e w' => e = .returned (.int .i64 er) ∧ Below w.heap.size w w' := by
  have hb : Below w.heap.size w (w.alloc (.cells #[.slice p1 n1 q1, .slice p2 n2 q2] 30)) := (Below.refl _ w).alloc (Nat.le_refl _) _
  have HC := aside (H _ hb)
  have HB := aside hb
  clear H hb
  go_enter Tryz.func59, Tryz.ntmps59
  go_wp2_with (go_at_call 45; refine HC.out.mono ?_; rintro e w1 ⟨rfl, hb1⟩)
  go_ret
  exact ⟨rfl, HB.out.trans (hb1.mono HB.out.size)⟩

theorem below_alloc (w : World) (o : Obj) : Below w.heap.size w (w.alloc o) := (Below.refl _ w).alloc (Nat.le_refl _) o
theorem below_then {a b c : World} (h : Below a.heap.size a b) (k : Below b.heap.size b c) : Below a.heap.size a c := h.trans (k.mono h.size)

theorem read_err (H : ChecksTo w p1 n1 q1 p2 n2 q2 er) (he : ¬ er = 0) (k : Int) (ps : Option Addr) (ns qs : Nat) : Calls Tryz.prog 18 #[.agg #[.slice p1 n1 q1, .slice p2 n2 q2], .agg #[.int .i64 k, .slice ps ns qs]] w fun e w' => e = .returned (.tuple #[.slice none 0 0, .int .i64 er]) ∧ Below w.heap.size w w' := by
  have hb := below_then (below_alloc w (.cells #[.slice p1 n1 q1, .slice p2 n2 q2] 30)) (below_then (below_alloc _ (.cells #[.int .i64 k, .slice ps ns qs] 42)) (below_alloc _ (.cells #[.int .i64 k, .slice ps ns qs] 42)))
  have HC := aside (open_err (H.mono hb) he)
  have HB := aside hb
  clear H hb
  go_enter Tryz.func18, Tryz.ntmps18
  go_wp2_with (go_at_call 59; refine (HC.out _).mono ?_; rintro e w1 ⟨rfl, hb1⟩)
  go_ret2
  exact ⟨rfl, below_then HB.out hb1⟩
theorem all_err (H : ChecksTo w p1 n1 q1 p2 n2 q2 er) (he : ¬ er = 0) (r m : Value) : Calls Tryz.prog 13 #[.agg #[.slice p1 n1 q1, .slice p2 n2 q2], r, m] w fun e w' => e = .returned (.tuple #[.slice none 0 0, .int .i64 er]) ∧ Below w.heap.size w w' := by
  have hb := below_alloc w (.cells #[.slice p1 n1 q1, .slice p2 n2 q2] 30)
  have HC := aside (H _ hb)
  have HB := aside hb
  clear H hb
  go_enter Tryz.func13, Tryz.ntmps13
  go_wp2_with (go_at_call 45; refine HC.out.mono ?_; rintro e w1 ⟨rfl, hb1⟩)
  go_ret2
  exact ⟨rfl, below_then HB.out hb1⟩
theorem enh_err (H : ChecksTo w p1 n1 q1 p2 n2 q2 er) (he : ¬ er = 0) (k : Int) (ps : Option Addr) (ns qs : Nat) (m : Value) : Calls Tryz.prog 22 #[.agg #[.slice p1 n1 q1, .slice p2 n2 q2], .agg #[.int .i64 k, .slice ps ns qs], m] w fun e w' => e = .returned (.tuple #[.slice none 0 0, .int .i64 er]) ∧ Below w.heap.size w w' := by
  have hb := below_then (below_alloc w (.cells #[.slice p1 n1 q1, .slice p2 n2 q2] 30)) (below_then (below_alloc _ (.cells #[.int .i64 k, .slice ps ns qs] 42)) (below_alloc _ (.cells #[.int .i64 k, .slice ps ns qs] 42)))
  have HC := aside (open_err (H.mono hb) he)
  have HB := aside hb
  clear H hb
  go_enter Tryz.func22, Tryz.ntmps22
  go_wp2_with (go_at_call 59; refine (HC.out _).mono ?_; rintro e w1 ⟨rfl, hb1⟩)
  go_ret2
  exact ⟨rfl, below_then HB.out hb1⟩
theorem rel_err (H : ChecksTo w p1 n1 q1 p2 n2 q2 er) (he : ¬ er = 0) : Calls Tryz.prog 38 #[.agg #[.slice p1 n1 q1, .slice p2 n2 q2]] w fun e w' => e = .returned (.tuple #[.slice none 0 0, .int .i64 er]) ∧ Below w.heap.size w w' := by
  have hb := below_alloc w (.cells #[.slice p1 n1 q1, .slice p2 n2 q2] 30)
  have HC := aside (H _ hb)
  have HB := aside hb
  clear H hb
  go_enter Tryz.func38, Tryz.ntmps38
  go_wp2_with (go_at_call 45; refine HC.out.mono ?_; rintro e w1 ⟨rfl, hb1⟩)
  go_ret2
  exact ⟨rfl, below_then HB.out hb1⟩
theorem same_err (H : ChecksTo w p1 n1 q1 p2 n2 q2 er) (he : ¬ er = 0) (k k' : Int) (ps ps' : Option Addr) (ns qs ns' qs' : Nat) : Calls Tryz.prog 33 #[.agg #[.slice p1 n1 q1, .slice p2 n2 q2], .agg #[.int .i64 k, .slice ps ns qs], .agg #[.int .i64 k', .slice ps' ns' qs']] w fun e w' => e = .returned (.tuple #[.bool false, .int .i64 er]) ∧ Below w.heap.size w w' := by
  have hb := below_then (below_alloc w (.cells #[.slice p1 n1 q1, .slice p2 n2 q2] 30)) (below_then (below_alloc _ (.cells #[.int .i64 k, .slice ps ns qs] 42)) (below_then (below_alloc _ (.cells #[.int .i64 k', .slice ps' ns' qs'] 42)) (below_alloc _ (.cells #[.int .i64 k, .slice ps ns qs, .int .i64 k', .slice ps' ns' qs'] 42))))
  have HC := aside (open_err (H.mono hb) he)
  have HB := aside hb
  clear H hb
  go_enter Tryz.func33, Tryz.ntmps33
  go_wp2_with (go_at_call 59; refine (HC.out _).mono ?_; rintro e w1 ⟨rfl, hb1⟩)
  go_ret2
  exact ⟨rfl, below_then HB.out hb1⟩
theorem new_two {W w1 : World} (a b : Value) (t : TypeId) {g : Nat} (hg : W.heap.size = g) (h : Below (W.alloc (.cells #[a, b] t)).heap.size (W.alloc (.cells #[a, b] t)) w1) :
    w1.cell? ⟨g, 0, none⟩ = some a ∧ w1.cell? ⟨g, 1, none⟩ = some b ∧ w1.frozen? ⟨g, 0, none⟩ = false ∧ w1.frozen? ⟨g, 1, none⟩ = false := by
  subst hg
  have hb : w1.heap[W.heap.size]? = some (.cells #[a, b] t (0, 0)) := (h.block W.heap.size (by simp)).trans (heap_alloc_new W _)
  exact ⟨cell_of_row _ _ 0 _ t (0, 0) hb, cell_of_row _ _ 1 _ t (0, 0) hb, frozen_of_row _ _ 0 _ t hb, frozen_of_row _ _ 1 _ t hb⟩
theorem results_cell3 {P : Program} {fn : Func} {p u v : Tmp} {ty : TypeId} (h : fn.results = #[.cell p ty, .tmp u, .tmp v]) (tmps : Array Value) (w : World) (g : Nat) (t : TypeId) (cs : Array Value) (fr : Nat × Nat) (d : TypeDesc)
    (hp : tmps.getD p undef = .pointer (some ⟨g, 0, none⟩)) (hg : w.heap[g]? = some (.cells cs t fr))
    (hu : P.underlying ty = some d) (hd : (match d with | .struct _ | .array _ _ => true | _ => false) = true) (hi : (P.info? ty).map (·.size) = some cs.size) :
    (results fn tmps).run P w = .ok (.tuple #[.agg cs, tmps.getD u undef, tmps.getD v undef]) w := by
  have hp' : tmps[p]?.getD undef = .pointer (some ⟨g, 0, none⟩) := by simpa using hp
  simp only [results, h]
  simp [hp', asAddr, run_loadVar_row w g t ty cs fr d hg hu hd hi, Sem.run_bind, Result.andThen]
theorem set_two {w : World} {g : Nat} {a b a' b' : Value} {t : TypeId} {fr : Nat × Nat} (h : w.heap[g]? = some (.cells #[a, b] t fr)) : ((w.setCell ⟨g, 0, none⟩ a').setCell ⟨g, 1, none⟩ b').heap[g]? = some (.cells #[a', b'] t fr) := by
  simp [World.setCell, Array.getElem?_modify, h]
theorem new_blk {W w1 : World} {o : Obj} {g : Nat} (hg : W.heap.size = g) (h : Below (W.alloc o).heap.size (W.alloc o) w1) : w1.heap[g]? = some o := by
  subst hg
  exact (h.block W.heap.size (by simp)).trans (heap_alloc_new W _)
theorem Tryz.size42 : (Tryz.prog.info? 42).map (·.size) = some 2 := by kernel_rfl
theorem simplest_err (H : ChecksTo w p1 n1 q1 p2 n2 q2 er) (he : ¬ er = 0) (r : Value) (m : Int) : Calls Tryz.prog 29 #[.agg #[.slice p1 n1 q1, .slice p2 n2 q2], r, .int .i64 m] w fun e w' => e = .returned (.tuple #[.agg #[.int .i64 0, .slice none 0 0], .bool false, .int .i64 er]) ∧ Below w.heap.size w w' := by
  have hb := below_then (below_alloc w (.cells #[.slice p1 n1 q1, .slice p2 n2 q2] 30)) (below_alloc _ (.cells #[.int .i64 0, .slice none 0 0] 42))
  have HC := aside (all_err (H.mono hb) he)
  have HB := aside hb
  clear H hb
  go_enter Tryz.func29, Tryz.ntmps29
  go_wp2_with (go_at_call 13; refine (HC.out _ _).mono ?_; rintro e w1 ⟨rfl, hb1⟩; have hx := new_two (g := w.heap.size + 1) _ _ _ (by simp) hb1; obtain ⟨x0, x1, x2, x3⟩ := hx)
  (try simp only [Exit.inBlock, Exit.then])
  refine bodyPost_ret (results_cell3 rfl _ _ (w.heap.size + 1) 42 #[.int .i64 0, .slice none 0 0] (0, 0) _ rfl (set_two (new_blk (by simp) hb1)) Tryz.underlying42 rfl Tryz.size42) rfl ?_
  exact ⟨rfl, ((below_then HB.out hb1).setCell (p := ⟨w.heap.size + 1, 0, none⟩) (by simp) _).setCell (p := ⟨w.heap.size + 1, 1, none⟩) (by simp) _⟩
theorem interval_err (H : ChecksTo w p1 n1 q1 p2 n2 q2 er) (he : ¬ er = 0) (a1 a2 a3 : Option Addr) (b1 b2 b3 c1 c2 c3 : Nat) (ps : Option Addr) (ns qs : Nat) (m : Int) :
    Calls Tryz.prog 47 #[.agg #[.slice p1 n1 q1, .slice p2 n2 q2], .agg #[.slice a1 b1 c1, .slice a2 b2 c2, .slice a3 b3 c3], .agg #[.slice ps ns qs, .int .i64 m]] w fun e w' => e = .returned (.tuple #[.agg #[.int .i64 0, .slice none 0 0], .bool false, .int .i64 er]) ∧ Below w.heap.size w w' := by
  have hb := below_then (below_alloc w (.cells #[.slice p1 n1 q1, .slice p2 n2 q2] 30)) (below_then (below_alloc _ (.cells #[.slice a1 b1 c1, .slice a2 b2 c2, .slice a3 b3 c3] 88)) (below_then (below_alloc _ (.cells #[.slice ps ns qs, .int .i64 m] 93)) (below_alloc _ (.cells #[.int .i64 0, .slice none 0 0] 42))))
  have HC := aside (H _ hb)
  have HB := aside hb
  clear H hb
  go_enter Tryz.func47, Tryz.ntmps47
  go_wp2_with (go_at_call 45; refine HC.out.mono ?_; rintro e w1 ⟨rfl, hb1⟩; have hx := new_two (g := w.heap.size + 3) _ _ _ (by simp) hb1; obtain ⟨x0, x1, x2, x3⟩ := hx)
  (try simp only [Exit.inBlock, Exit.then])
  refine bodyPost_ret (results_cell3 rfl _ _ (w.heap.size + 3) 42 #[.int .i64 0, .slice none 0 0] (0, 0) _ rfl (set_two (new_blk (by simp) hb1)) Tryz.underlying42 rfl Tryz.size42) rfl ?_
  exact ⟨rfl, ((below_then HB.out hb1).setCell (p := ⟨w.heap.size + 3, 0, none⟩) (by simp) _).setCell (p := ⟨w.heap.size + 3, 1, none⟩) (by simp) _⟩
end
end Go.Proofs.YtjiijgdkdlelhaaGreatDoor

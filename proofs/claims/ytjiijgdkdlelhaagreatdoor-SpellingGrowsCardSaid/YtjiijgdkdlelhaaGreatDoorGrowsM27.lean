/- spelling.box's iterator: the walk. -/
import Derived.Test.YtjiijgdkdlelhaaGreatDoorGrowsM25
import Derived.Sort.QuietIn
/- spelling.box's iterator: the walk. -/
namespace Go.Proofs.YtjiijgdkdlelhaaGreatDoor
open Go Go.RowKit Go.Shelf Go.Lib

attribute [local go_sem] Oper.semAt_some

/-- A row of numbers whose block (if it has elements) is in S. -/
def RowIn (S : Nat → Prop) (w : World) (u : Value) (zs : List Int) : Prop :=
  (zs = [] ∧ ∃ base c, u = .slice base 0 c) ∨ ∃ b off c, u = .slice (some ⟨b, off, none⟩) zs.length c ∧ S b ∧ b < w.heap.size ∧ ∀ j, j < zs.length → w.cell? ⟨b, off + j, none⟩ = some (.int .i64 zs[j]!)
theorem RowIn.at {S : Nat → Prop} {w : World} {u : Value} {zs : List Int} (h : RowIn S w u zs) : RowAt w u zs := by
  rcases h with ⟨rfl, base, c, rfl⟩ | ⟨b, off, c, h1, _, h2, h3⟩
  · exact .inl ⟨base, c, rfl, rfl⟩
  · exact .inr ⟨b, off, c, h1, h2, h3⟩
theorem RowIn.turn {S S' G : Nat → Prop} {w W : World} {u : Value} {zs : List Int} (h : RowIn S w u zs) (ht : Turn G w W) (hn : ∀ b, S b → b < w.heap.size → ¬ G b ∧ S' b) : RowIn S' W u zs := by
  rcases h with h | ⟨b, off, c, h1, hs, h2, h3⟩
  · exact .inl h
  · obtain ⟨hg, hs'⟩ := hn b hs h2
    exact .inr ⟨b, off, c, h1, hs', Nat.lt_of_lt_of_le h2 ht.size, fun j hj => (ht.cell (p := ⟨b, off + j, none⟩) h2 hg).trans (h3 j hj)⟩
theorem RowIn.of_owns {w : World} {base : Nat} {v : Value} {zs : List Int} (h : w.ownsRow base 3 1 v zs.length (intCells zs)) : RowIn (fun b => base ≤ b) w v zs := by
  rcases h.2 with ⟨rfl, h0⟩ | ⟨g, cap, cur, rfl, hb, hg, hn, hm, hs, ht⟩
  · exact .inl ⟨List.eq_nil_of_length_eq_zero h0, none, 0, rfl⟩
  · refine .inr ⟨g, 0, cap, rfl, hb, (Array.getElem?_eq_some_iff.1 hg).1, fun j hj => ?_⟩
    have := h.cells (g := g) rfl j (.int .i64 zs[j]!) (by unfold intCells; rw [List.getElem?_map, List.getElem?_eq_getElem hj, getElem!_pos zs j hj]; rfl)
    rw [Addr.add_lit] at this
    simpa using this
theorem RowIn.wider {S S' : Nat → Prop} {w : World} {u : Value} {zs : List Int} (h : RowIn S w u zs) (hn : ∀ b, S b → S' b) : RowIn S' w u zs := h.turn (G := fun _ => False) (Turn.refl _ w) (fun b hb _ => ⟨fun e => e, hn b hb⟩)

/-- What a round is given: a spelling whose counts lie in a block of its own. -/
def LaySp (B : Nat) (w : World) (v : Value) (x : Nat × List Int) : Prop := ∃ p c, v = .agg #[.int .i64 x.1, .slice p x.2.length c] ∧ RowIn (fun b => B ≤ b) w (.slice p x.2.length c) x.2

theorem Turn.of_grown {A B : World} {row : Option Nat} (h : A.grownBy B row) : Turn (fun k => row = some k) A B := ⟨h.os, h.tape, h.output, h.size, fun k hk hn => h.block k hk (fun e => hn e.symm)⟩
theorem owns_turn {G : Nat → Prop} {w W : World} {base : Nat} {e : TypeId} {size : Nat} {v : Value} {n : Nat} {xs : List Value} (h : w.ownsRow base e size v n xs) (ht : Turn G w W) (hG : ∀ b, v.ownBlock = some b → ¬ G b) : W.ownsRow base e size v n xs := by
  refine ⟨h.1, ?_⟩
  rcases h.2 with hn | ⟨g, cap, cur, rfl, hb, hg, rest⟩
  · exact .inl hn
  · exact .inr ⟨g, cap, cur, rfl, hb, (ht.same g (Array.getElem?_eq_some_iff.1 hg).1 (hG g rfl)).trans hg, rest⟩

theorem wpListIn_make_full {F : Fence} {n : Nat} {P : Program} (w : World) {ops : Array Oper} {rest : List Oper} {o : Oper} {a : Act} {Q : Exit → Act → World → Prop}
    (hg : o.guard = none) (l c : Operand) (t : TypeId) (hop : o.op = Op.makeSlice t l c)
    (base : Nat) (e : TypeId) (i : TypeInfo) (z : Value) (size : Nat) (h1 : P.underlying t = some (.slice e)) (h2 : P.info? e = some i) (h3 : i.zero = some z) (h4 : i.size = size)
    (kl kc : IntKind) (m : Nat) (hl : a.eval l = .int kl (m : Int)) (hc : a.eval c = .int kc (m : Int)) (b2 : i.bytes * m ≤ 281474976710656) (b3 : m ≤ maxLen) (b4 : base ≤ w.heap.size)
    (hK : ∀ w', w'.ownsRow base e size (.slice (some ⟨w.heap.size, 0, none⟩) m m) m (madeCells z.cells (m * size)).toList → w.grownBy w' none → wpListIn F n P ops Q rest (a.put o.dst (.slice (some ⟨w.heap.size, 0, none⟩) m m)) w') :
    wpListIn F n P ops Q (o :: rest) a w := by
  refine wpListIn_plain hg fun K hK' => ?_
  obtain ⟨w', hrun, r1, r2⟩ := run_make_full (P := P) w base t e i z size h1 h2 h3 h4 kl kc m b2 b3 b4
  unfold Oper.wpIn
  refine ⟨?_, ?_⟩
  · simp [Oper.about, hop]
  · rw [Oper.semAt_plain F _ _ (by rw [hop]; intro c hc'; cases hc')]
    simp [execOp, hop, hl, hc, hrun, Result.andThen]
    exact hK' _ _ (hK w' r1 r2)

/-- The row under way while the box is filled with -k. -/
def fillL (k m j : Nat) : List Int := List.replicate j (-(k : Int)) ++ List.replicate (m - j) 0
theorem fillL_length {k m j : Nat} (h : j ≤ m) : (fillL k m j).length = m := by simp [fillL]; omega
theorem fillL_zero (k m : Nat) : fillL k m 0 = List.replicate m 0 := by simp [fillL]
theorem fillL_end (k m : Nat) : fillL k m m = dig k m 0 := by simp [fillL, dig_zero]
theorem set_mid (l : List Int) (x y : Int) (xs : List Int) {j : Nat} (h : l.length = j) : (l ++ x :: xs).set j y = (l ++ [y]) ++ xs := by
  subst h
  simp
theorem fillL_set {k m j : Nat} (h : j < m) : (fillL k m j).set j (-(k : Int)) = fillL k m (j + 1) := by
  unfold fillL
  rw [show m - j = (m - (j + 1)) + 1 by omega, List.replicate_succ, set_mid _ _ _ _ (by simp), ← List.replicate_succ']
/-- The row while the odometer turns. -/
def turnL (k j : Nat) (rest : List Int) : List Int := List.replicate j (-(k : Int)) ++ rest
theorem turnL_length (k j : Nat) (rest : List Int) : (turnL k j rest).length = j + rest.length := by simp [turnL]
theorem turnL_at (k j : Nat) (x : Int) (xs : List Int) : (turnL k j (x :: xs))[j]! = x := by
  unfold turnL
  rw [List.getElem!_eq_getElem?_getD, List.getElem?_append_right (by simp)]
  simp
theorem turnL_set (k j : Nat) (x y : Int) (xs : List Int) : (turnL k j (x :: xs)).set j y = List.replicate j (-(k : Int)) ++ [y] ++ xs := set_mid _ _ _ _ (by simp)
theorem turnL_next (k j : Nat) (x : Int) (xs : List Int) : (turnL k j (x :: xs)).set j (-(k : Int)) = turnL k (j + 1) xs := by
  rw [turnL_set]
  unfold turnL
  rw [List.replicate_succ']
theorem turnL_inc (k j : Nat) (x : Int) (xs : List Int) : (turnL k j (x :: xs)).set j (x + 1) = turnL k j ((x + 1) :: xs) := by
  rw [turnL_set]
  unfold turnL
  simp

/-- What the iterator keeps between two of its own steps. -/
structure Bx (W wr : World) (b1 b2 g : Nat) (J : Prop) (m : Nat) (zs : List Int) : Prop where
  size : W.heap.size ≤ wr.heap.size
  k1 : wr.heap[b1]? = W.heap[b1]?
  k2 : wr.heap[b2]? = W.heap[b2]?
  hg : W.heap.size ≤ g
  hl : g < wr.heap.size
  j : J
  len : zs.length = m
  own : wr.ownsRow W.heap.size 3 1 (.slice (some ⟨g, 0, none⟩) m m) m (intCells zs)
end Go.Proofs.YtjiijgdkdlelhaaGreatDoor

/- spelling.box's iterator: the walk. -/
namespace Go.Proofs.YtjiijgdkdlelhaaGreatDoor
open Go Go.RowKit Go.Shelf Go.Lib

attribute [local go_sem] Oper.semAt_some

theorem Bx.mk' {W wr wq : World} {b1 b2 g m : Nat} {J J' : Prop} {zs zs' : List Int} (h : Bx W wr b1 b2 g J m zs) (ht : Turn (fun k => k = g) wr wq) (hb1 : b1 < W.heap.size) (hb2 : b2 < W.heap.size) (hj : J') (hz : zs'.length = m)
    (ho : wq.ownsRow W.heap.size 3 1 (.slice (some ⟨g, 0, none⟩) m m) m (intCells zs')) : Bx W wq b1 b2 g J' m zs' :=
  ⟨Nat.le_trans h.size ht.size, (ht.same b1 (Nat.lt_of_lt_of_le hb1 h.size) (by have := h.hg; omega)).trans h.k1, (ht.same b2 (Nat.lt_of_lt_of_le hb2 h.size) (by have := h.hg; omega)).trans h.k2, h.hg, Nat.lt_of_lt_of_le h.hl ht.size, hj, hz, ho⟩
theorem Bx.kept {W wr wq : World} {b1 b2 g m : Nat} {J J' : Prop} {zs : List Int} (h : Bx W wr b1 b2 g J m zs) (hs : wr.heap.size ≤ wq.heap.size) (hk : ∀ k, (k = g ∨ k = b1 ∨ k = b2) → wq.heap[k]? = wr.heap[k]?) (hj : J') : Bx W wq b1 b2 g J' m zs := by
  refine ⟨Nat.le_trans h.size hs, (hk _ (.inr (.inl rfl))).trans h.k1, (hk _ (.inr (.inr rfl))).trans h.k2, h.hg, Nat.lt_of_lt_of_le h.hl hs, hj, h.len, ?_⟩
  refine ⟨h.own.1, ?_⟩
  rcases h.own.2 with ⟨e, _⟩ | ⟨g', cap, cur, e, hb, hg, rest⟩
  · cases e
  · cases e
    exact .inr ⟨g, m, cur, rfl, hb, (hk g (.inl rfl)).trans hg, rest⟩
theorem cell_same {A B : World} {b : Nat} (h : B.heap[b]? = A.heap[b]?) (j : Nat) : B.cell? ⟨b, j, none⟩ = A.cell? ⟨b, j, none⟩ := by unfold World.cell?; rw [h]

theorem Bx.made {W wr wm : World} {b1 b2 g m k i : Nat} {J : Nat → List (Nat × List Int) → World → Prop} (h1 : W.heap.size ≤ g) (hws : W.heap.size ≤ wr.heap.size) (k1 : wr.heap[b1]? = W.heap[b1]?) (k2 : wr.heap[b2]? = W.heap[b2]?) (hj : J g (boxTo k m i 0) wr)
    (HJ : ∀ (g g' : Nat) (pre : List (Nat × List Int)) (X Y : World), J g pre X → W.heap.size ≤ g → Turn (fun k => k = g) X Y → g' = g ∨ X.heap.size ≤ g' → J g' pre Y) (hb1 : b1 < W.heap.size) (hb2 : b2 < W.heap.size)
    (hown : wm.ownsRow W.heap.size 3 1 (.slice (some ⟨wr.heap.size, 0, none⟩) m m) m (madeCells (Value.int .i64 0).cells (m * 1)).toList) (hgrow : wr.grownBy wm none) : Bx W wm b1 b2 wr.heap.size (J wr.heap.size (boxTo k m i 0) wm) m (fillL k m 0) := by
  have hown : wm.ownsRow W.heap.size 3 1 (.slice (some ⟨wr.heap.size, 0, none⟩) m m) m (List.replicate m (.int .i64 0)) := by
    have e : (madeCells (Value.int .i64 0).cells (m * 1)).toList = List.replicate m (.int .i64 0) := by rw [Nat.mul_one]; exact toList_madeCells_one _ m
    rw [← e]; exact hown
  have ht : Turn (fun k => k = g) wr wm := (Turn.of_grown hgrow).wider (fun k e => by cases e)
  refine ⟨Nat.le_trans hws ht.size, (ht.same b1 (by omega) (by omega)).trans k1, (ht.same b2 (by omega) (by omega)).trans k2, hws, ?_, HJ g _ _ wr wm hj h1 ht (.inr (Nat.le_refl _)), fillL_length (Nat.zero_le _), ?_⟩
  · rcases hown.2 with ⟨e, _⟩ | ⟨g', cap, cur, e, hb, hg, rest⟩
    · cases e
    · cases e
      exact (Array.getElem?_eq_some_iff.1 hg).1
  · rw [fillL_zero]
    unfold intCells
    rw [List.map_replicate]
    exact hown

theorem Bx.below {W wr w1 : World} {b1 b2 g m : Nat} {J : Nat → List (Nat × List Int) → World → Prop} {pre : List (Nat × List Int)} {zs : List Int} (h : Bx W wr b1 b2 g (J g pre wr) m zs)
    (HJ : ∀ (g g' : Nat) (pre : List (Nat × List Int)) (X Y : World), J g pre X → W.heap.size ≤ g → Turn (fun k => k = g) X Y → g' = g ∨ X.heap.size ≤ g' → J g' pre Y) (hb1 : b1 < W.heap.size) (hb2 : b2 < W.heap.size)
    (hb : Below wr.heap.size wr w1) : Bx W w1 b1 b2 g (J g pre w1) m zs :=
  h.kept hb.size (fun k hk => hb.block k (by have := h.hl; have := h.size; rcases hk with rfl | rfl | rfl <;> omega)) (HJ g g pre wr w1 h.j h.hg (Turn.of_below hb) (.inl rfl))
theorem nxt_wrap (k j : Nat) (xs : List Int) : (nxt k ((k : Int) :: xs)).map (fun l => turnL k j l) = (nxt k xs).map (fun l => turnL k (j + 1) l) := by
  have e : nxt k ((k : Int) :: xs) = (nxt k xs).map (fun l => (-(k : Int)) :: l) := by
    conv => lhs; unfold nxt
    rw [if_pos rfl]
  rw [e, Option.map_map]
  congr 1
  funext l
  show turnL k j (-(k : Int) :: l) = _
  unfold turnL
  rw [List.replicate_succ']
  simp

set_option maxRecDepth 100000 in
set_option maxHeartbeats 4000000 in
theorem box1_in (n : Nat) (hn : 2 ≤ n) {k m N b1 b2 : Nat} {p1 p2 : Option Addr} {q1 q2 : Nat} {w : World} (hb1 : b1 < w.heap.size) (hb2 : b2 < w.heap.size) (c1 : w.cell? ⟨b1, 0, none⟩ = some (.slice p1 N q1)) (c2 : w.cell? ⟨b1, 1, none⟩ = some (.slice p2 m q2))
    (c3 : w.cell? ⟨b2, 0, none⟩ = some (.int .i64 k)) (hN : N < 1000) (hm : m < 1000) (hk : k < 1000) :
    IterOwn n Tryz.prog 169 #[.pointer (some ⟨b1, 0, none⟩), .pointer (some ⟨b2, 0, none⟩)] LaySp (fun j => j = b1 ∨ j = b2) (boxTo k m N 0) w := by
  intro l J W hW hJ hY h0
  have hF : Fence.wide.fn 169 := trivial
  have h64 : Fence.wide.fn 64 := trivial
  have h1n : 1 ≤ n := by omega
  have h1n' : 1 ≤ n - 1 := by omega
  have hB1 : b1 < W.heap.size := Nat.lt_of_lt_of_le hb1 hW.size
  have hB2 : b2 < W.heap.size := Nat.lt_of_lt_of_le hb2 hW.size
  have C1 := aside fun (wr : World) (h : wr.heap[b1]? = W.heap[b1]?) => (cell_same h 0).trans ((hW.cell (p := ⟨b1, 0, none⟩) hb1).trans c1)
  have C2 := aside fun (wr : World) (h : wr.heap[b1]? = W.heap[b1]?) => (cell_same h 1).trans ((hW.cell (p := ⟨b1, 1, none⟩) hb1).trans c2)
  have C3 := aside fun (wr : World) (h : wr.heap[b2]? = W.heap[b2]?) => (cell_same h 0).trans ((hW.cell (p := ⟨b2, 0, none⟩) hb2).trans c3)
  have HJ := aside hJ
  have HY := aside hY
  have H0 := aside h0
  have c1W := C1.out W rfl
  clear hJ hY h0 c1 c2 c3 hW hb1 hb2 w
  obtain ⟨i0, hi, hz0, hz1, hz2⟩ := info_parts Tryz.info3
  have HI := aside (And.intro hi (And.intro hz0 (And.intro hz1 hz2)))
  clear hi hz0 hz1 hz2
  refine callsIn_of_wp Tryz.func169 rfl hF ?_ rfl
  simp only [Tryz.ntmps169, List.size_toArray, List.length_cons, List.length_nil, Nat.reduceAdd, Nat.reduceSub, Array.replicate_succ, Array.replicate_zero, List.push_toArray, List.append_toArray, List.nil_append, List.cons_append]
  gi_wp2
  gi_loopg [11] N (fun gg s11 wr => ∃ i g : Nat, i ≤ N ∧ N - i ≤ gg ∧ s11 = .int .i64 i ∧ Aside (W.heap.size ≤ g ∧ W.heap.size ≤ wr.heap.size ∧ wr.heap[b1]? = W.heap[b1]? ∧ wr.heap[b2]? = W.heap[b2]? ∧ J g (boxTo k m i 0) wr))
  case atStart => exact ⟨0, _, Nat.zero_le _, by omega, rfl, (show Aside _ from ⟨Nat.le_refl _, Nat.le_refl _, rfl, rfl, H0.out⟩)⟩
  case round =>
    obtain ⟨i, g, hiN, hgg, rfl, HR⟩ := hrel
    by_cases hlt : i < N
    · have hltz : (i : Int) < (N : Int) := by omega
      have l1 := C1.out wr HR.out.2.2.1
      have l2 := C2.out wr HR.out.2.2.1
      have l3 := C3.out wr HR.out.2.2.2.1
      have hws := HR.out.2.1
      gi_wp2_with (gi_at_make; refine wpListIn_make_full _ rfl _ _ 33 rfl W.heap.size 3 i0 (.int .i64 0) 1 Tryz.underlying33 HI.out.1 HI.out.2.1 HI.out.2.2.1 .i64 .i64 m rfl rfl (by rw [HI.out.2.2.2]; omega) (by simp only [maxLen]; omega) hws ?_; intro wm hown hgrow; have HX : Aside (Bx W wm b1 b2 wr.heap.size (J wr.heap.size (boxTo k m i 0) wm) m (fillL k m 0)) := Bx.made HR.out.1 hws HR.out.2.2.1 HR.out.2.2.2.1 HR.out.2.2.2.2 HJ.out hB1 hB2 hown hgrow; clear hown hgrow)
      generalize wr.heap.size = g1 at HX
      have HGG := aside hgg
      have HIN := aside hiN
      clear HR l1 l2 l3 hws hgg hiN
      gi_loopg [20] m (fun gg s20 wq => ∃ j : Nat, j ≤ m ∧ m - j ≤ gg ∧ s20 = .int .i64 j ∧ Aside (Bx W wq b1 b2 g1 (J g1 (boxTo k m i 0) wq) m (fillL k m j)))
      case atStart => exact ⟨0, Nat.zero_le _, by omega, rfl, HX⟩
      case round =>
        clear HX wm
        obtain ⟨j, hjm, hgj, rfl, HX⟩ := hrel
        by_cases hjlt : j < m
        · have hjz : (j : Int) < (m : Int) := by omega
          have l3 := C3.out _ HX.out.k2
          obtain ⟨m1, m2⟩ := owns_int (by have := HX.out.own; exact this) (show j < (fillL k m j).length by rw [HX.out.len]; exact hjlt)
          gi_wp2
          go_roundg (m - (j + 1))
          case measure => omega
          case rel =>
            refine ⟨j + 1, by omega, by omega, by go_num, (show Aside _ from ?_)⟩
            refine HX.out.mk' (Turn.set _ rfl) hB1 hB2 (HJ.out _ _ _ _ _ HX.out.j HX.out.hg (Turn.set _ rfl) (.inl rfl)) (fillL_length hjlt) ?_
            have := owns_set (j := j) (u := .int .i64 (-(k : Int))) HX.out.own
            rw [intCells_set, fillL_set hjlt] at this
            exact this
        · have hjz : ¬ (j : Int) < (m : Int) := by omega
          have : m = j := by omega
          subst this
          rw [fillL_end] at HX
          have hB := aside (Nat.pow_pos (n := m) (show 0 < 2 * k + 1 by omega))
          gi_wp2
          gi_loopg [] ((2 * k + 1) ^ m) (fun gg wq => ∃ v : Nat, v < (2 * k + 1) ^ m ∧ (2 * k + 1) ^ m - v ≤ gg ∧ Aside (Bx W wq b1 b2 g1 (J g1 (boxTo k m i v) wq) m (dig k m v)))
          case atStart => exact ⟨0, hB.out, by omega, HX⟩
          case round =>
            clear HX
            obtain ⟨v, hv, hgv, HX⟩ := hrel
            have hrow : RowAt wr (.slice (some ⟨g1, 0, none⟩) m m) (dig k m v) := row_of_owns (by rw [HX.out.len]; exact HX.out.own)
            have HC := aside (clone64_calls hrow (by rw [HX.out.len]; exact hm))
            clear hrow
            gi_wp2_with (gi_at_call 64; refine (callsIn_wide.2 HC.out).mono ?_; rintro e w1 ⟨v', rfl, hown, hb⟩; obtain ⟨pv, cv, rfl⟩ := (row_of_owns hown).shape; rw [HX.out.len] at hown; have HL : Aside (LaySp wr.heap.size w1 (.agg #[.int .i64 i, .slice pv (dig k m v).length cv]) (i, dig k m v)) := ⟨pv, cv, rfl, RowIn.of_owns (by rw [HX.out.len]; exact hown)⟩; have HX1 : Aside (Bx W w1 b1 b2 g1 (J g1 (boxTo k m i v) w1) m (dig k m v)) := HX.out.below HJ.out hB1 hB2 hb; have HBL := aside hb; clear hown hb; obtain ⟨fn, tmps, assign, body, hy, hR⟩ := HY.out g1 _ _ _ wr w1 HX.out.j HX.out.hg HX.out.hl HBL.out HL.out (boxTo_prefix k m hlt hv); have HR := aside hR; clear hR)
            refine HR.out.mono ?_
            rintro e W3 ⟨rfl, hJ3, hs3, hk3⟩
            have HX3 : Aside (Bx W W3 b1 b2 g1 (J g1 (boxTo k m i (v + 1)) W3) m (dig k m v)) := HX1.out.kept hs3 hk3 (by rw [← boxTo_succ]; exact hJ3)
            clear hJ3 hs3 hk3 HX1 HL HBL hy HR HX HC
            have HN := aside (nxt_dig k m v hv)
            have HV := aside hv
            have HGV := aside hgv
            clear hv hgv
            gi_wp2
            gi_loopg [7] m (fun gg s7 wq => ∃ (j : Nat) (rest : List Int), j ≤ m ∧ m - j ≤ gg ∧ s7 = .int .i64 j ∧ Aside (rest.length = m - j ∧ (∀ y ∈ rest, -(k : Int) ≤ y ∧ y ≤ (k : Int)) ∧ nxt k (dig k m v) = (nxt k rest).map (fun l => turnL k j l) ∧ Bx W wq b1 b2 g1 (J g1 (boxTo k m i (v + 1)) wq) m (turnL k j rest)))
            case atStart => exact ⟨0, dig k m v, Nat.zero_le _, by omega, rfl, (show Aside _ from ⟨dig_length k m v, fun y hy => dig_mem k m v y hy, by simp [turnL], HX3.out⟩)⟩
            case round =>
              clear HX3 W3 w1
              obtain ⟨j, rest, hjm, hgj, rfl, HX⟩ := hrel
              cases rest with
              | nil =>
                have hj0 : m = j := by have := HX.out.1; rw [List.length_nil] at this; omega
                subst hj0
                have hjz : ¬ (m : Int) < (m : Int) := by omega
                gi_wp2; gi_quiet (fail)
                gi_wp2
                go_roundg (N - (i + 1))
                case measure => have := HGG.out; omega
                case rel =>
                  have hX := HX.out.2.2.2.below HJ.out hB1 hB2 (below_drewN (Below.refl _ _) nq)
                  have hN2 : v + 1 = (2 * k + 1) ^ m := by
                    have h1 := HX.out.2.2.1
                    rw [HN.out] at h1
                    have h2 := HV.out
                    by_cases h3 : v + 1 < (2 * k + 1) ^ m
                    · rw [if_pos h3] at h1; cases h1
                    · omega
                  rw [hN2, boxTo_end] at hX
                  exact ⟨i + 1, g1, by omega, by omega, by go_num, (show Aside _ from ⟨hX.hg, hX.size, hX.k1, hX.k2, hX.j⟩)⟩
              | cons x xs =>
                have hjlt : j < m := by have := HX.out.1; rw [List.length_cons] at this; omega
                have hjz : (j : Int) < (m : Int) := by omega
                have l3 := C3.out _ HX.out.2.2.2.k2
                obtain ⟨m1, m2⟩ := owns_int HX.out.2.2.2.own (show j < (turnL k j (x :: xs)).length by rw [HX.out.2.2.2.len]; exact hjlt)
                rw [turnL_at] at m1
                by_cases hx : x = (k : Int)
                · subst hx
                  gi_wp2; gi_quiet (fail)
                  gi_wp2
                  go_roundg (m - (j + 1))
                  case measure => omega
                  case rel =>
                    have ht : Turn (fun b => b = g1) wr ((wr.drewN nq).setCell ⟨g1, j, none⟩ (.int .i64 (-(k : Int)))) := (Turn.of_below (below_drewN (Below.refl _ _) nq)).trans (Turn.set _ rfl)
                    refine ⟨j + 1, xs, by omega, by omega, by go_num, (show Aside _ from ⟨?_, fun y hy => HX.out.2.1 y (List.mem_cons_of_mem _ hy), ?_, ?_⟩)⟩
                    · have := HX.out.1
                      rw [List.length_cons] at this
                      omega
                    · rw [HX.out.2.2.1]
                      exact nxt_wrap k j xs
                    · refine HX.out.2.2.2.mk' ht hB1 hB2 (HJ.out _ _ _ _ _ HX.out.2.2.2.j HX.out.2.2.2.hg ht (.inl rfl)) ?_ ?_
                      · rw [turnL_length]
                        have := HX.out.1
                        rw [List.length_cons] at this
                        omega
                      · have := owns_set (j := j) (u := .int .i64 (-(k : Int))) (owns_turn HX.out.2.2.2.own (Turn.of_below (G := fun _ => False) (below_drewN (Below.refl _ _) nq)) (fun _ _ e => e))
                        rw [intCells_set, turnL_next] at this
                        exact this
                · have hxb := HX.out.2.1 x (List.mem_cons_self ..)
                  have hn3 : -9223372036854775808 ≤ x + 1 := by omega
                  have hn4 : x + 1 ≤ 9223372036854775807 := by omega
                  gi_wp2; gi_quiet (fail)
                  gi_wp2
                  have hnx : v + 1 < (2 * k + 1) ^ m ∧ dig k m (v + 1) = turnL k j ((x + 1) :: xs) := by
                    have h1 := HX.out.2.2.1
                    rw [HN.out] at h1
                    unfold nxt at h1
                    rw [if_neg hx] at h1
                    by_cases h3 : v + 1 < (2 * k + 1) ^ m
                    · rw [if_pos h3] at h1
                      injection h1 with h1
                      exact ⟨h3, h1⟩
                    · rw [if_neg h3] at h1; cases h1
                  go_roundg ((2 * k + 1) ^ m - (v + 1))
                  case measure => have := HGV.out; omega
                  case rel =>
                    have ht : Turn (fun b => b = g1) wr ((wr.drewN nq).setCell ⟨g1, j, none⟩ (.int .i64 (x + 1))) := (Turn.of_below (below_drewN (Below.refl _ _) nq)).trans (Turn.set _ rfl)
                    refine ⟨v + 1, hnx.1, by omega, (show Aside _ from ?_)⟩
                    refine HX.out.2.2.2.mk' ht hB1 hB2 (HJ.out _ _ _ _ _ HX.out.2.2.2.j HX.out.2.2.2.hg ht (.inl rfl)) (dig_length _ _ _) ?_
                    have := owns_set (j := j) (u := .int .i64 (x + 1)) (owns_turn HX.out.2.2.2.own (Turn.of_below (G := fun _ => False) (below_drewN (Below.refl _ _) nq)) (fun _ _ e => e))
                    rw [intCells_set, turnL_inc, ← hnx.2] at this
                    exact this
    · have hltz : ¬ (i : Int) < (N : Int) := by omega
      have : N = i := by omega
      subst this
      gi_wp2
      go_end0
      exact ⟨⟨_, rfl⟩, g, HR.out.1, HR.out.2.2.2.2⟩
end Go.Proofs.YtjiijgdkdlelhaaGreatDoor

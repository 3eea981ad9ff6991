/- spelling.all: what lies in 'out' between two rounds. -/
import Derived.Test.YtjiijgdkdlelhaaGreatDoorGrowsM27
import Derived.RangeFuncBox
import Derived.Shelf.RegionOpen
/- spelling.all: what lies in 'out' between two rounds. -/
namespace Go.Proofs.YtjiijgdkdlelhaaGreatDoor
open Go Go.RowKit Go.Shelf Go.Lib

attribute [local go_sem] Oper.semAt_some

theorem wpListIn_append_at {F : Fence} {n : Nat} {P : Program} (w : World) {ops : Array Oper} {rest : List Oper} {o : Oper} {a : Act} {Q : Exit → Act → World → Prop} (hgd : o.guard = none) (s x : Operand) (t : TypeId)
    (hop : o.op = .call { callee := .builtin .append, args := #[s, x], argTypes := #[t, t] })
    (base : Nat) (e : TypeId) (i : TypeInfo) (z : Value) (size bytes : Nat) (ht : P.underlying t = some (.slice e)) (hi : P.info? e = some i) (hz : i.zero = some z)
    (hsize : i.size = size) (hby : i.bytes = bytes) (hzs : z.cells.size = size) (hsz : 0 < size)
    (v : Value) (k : Nat) (xs : List Value) (hs : a.eval s = v) (hown : w.ownsRow base e size v k xs)
    (ad : Addr) (m c : Nat) (news : List Value) (hx : a.eval x = .slice (some ad) m c) (hl : news.length = m * size) (hnews : ∀ j u, news[j]? = some u → w.cell? (ad.add j) = some u) (h1 : ∀ u ∈ news, u.oneCell' = true)
    (h63 : k + m ≤ maxLen) (hbytes : (k + m) * bytes ≤ 140737488355328) (hbase : base ≤ w.heap.size)
    (hK : ∀ v' w', w'.ownsRow base e size v' (k + m) (xs ++ news) → w.grownBy w' v.ownBlock → (v'.ownBlock = v.ownBlock ∨ v'.ownBlock = some w.heap.size) → wpListIn F n P ops Q rest (a.put o.dst v') w') : wpListIn F n P ops Q (o :: rest) a w := by
  obtain ⟨v', w', hr, h2, h3, _⟩ := run_append_own (P := P) w base t o.type e i z size bytes ht hi hz hsize hby hzs hsz v k xs hown ad m c news hl hnews h1 h63 hbytes hbase
  have h4 := append_block (P := P) w base t o.type e i z size bytes ht hi hz hsize hby hzs hsz v k xs hown ad m c news hl hnews h1 h63 hbytes hr
  refine wpListIn_plain hgd fun K hK' => ?_
  unfold Oper.wpIn
  refine ⟨?_, ?_⟩
  · simp [Oper.about, hop, resolve, Target.leads, Sem.run_pure]
  · rw [Oper.semAt_plain F _ _ (by rw [hop]; intro c hc'; cases hc')]
    simp [execOp, hop, resolve, invoke, builtin, hs, hx, hr, Result.andThen]
    exact hK' _ _ (hK v' w' h2 h3 h4)

def spCells (L : List Sp) : List Value := L.flatMap Sp.enc
theorem spCells_snoc (L : List Sp) (x : Sp) : spCells L ++ [.int .i64 x.nom, x.row] = spCells (L ++ [x]) := by simp [spCells, Sp.enc]
theorem spCells_at : ∀ (L : List Sp) (j : Nat), j < L.length → (spCells L)[j * 2]? = some (.int .i64 L[j]!.nom) ∧ (spCells L)[j * 2 + 1]? = some L[j]!.row
  | [], j, h => by cases h
  | x :: L, 0, _ => by simp [spCells, Sp.enc]
  | x :: L, j + 1, h => by
    have := spCells_at L j (by simpa using h)
    have e : spCells (x :: L) = .int .i64 x.nom :: x.row :: spCells L := rfl
    rw [e, show (j + 1) * 2 = j * 2 + 1 + 1 by omega, List.getElem?_cons_succ, List.getElem?_cons_succ, List.getElem?_cons_succ, List.getElem?_cons_succ]
    simpa using this
theorem spCells_length (L : List Sp) : (spCells L).length = L.length * 2 := by
  induction L with
  | nil => rfl
  | cons x L ih => show (_ :: _ :: spCells L).length = _; rw [List.length_cons, List.length_cons, ih, List.length_cons]; omega

/-- 'out' between two rounds: its box bo; a row of its own from B on; the counts of its spellings apart from it and from the iterator's block g. -/
structure OutI (B bo g : Nat) (W : World) (v : Value) (L : List Sp) : Prop where
  box : Boxed W bo 36 v
  lo : bo < B
  hg : B ≤ g
  own : W.ownsRow B 42 2 v L.length (spCells L)
  off : v.ownBlock ≠ some g
  rows : ∀ s ∈ L, RowIn (fun b => B ≤ b ∧ b ≠ g ∧ some b ≠ v.ownBlock) W s.row s.cnt
theorem OutI.turn {B bo g g' c : Nat} {W X : World} {v : Value} {L : List Sp} {G : Nat → Prop} (h : OutI B bo g W v L) (ht : Turn G W X) (hG : ∀ k, G k → k = g ∨ k = c) (hc : bo ≠ c ∧ c < B) (hg' : g' = g ∨ (W.heap.size ≤ g' ∧ B ≤ g')) : OutI B bo g' X v L := by
  have hown : ∀ b, v.ownBlock = some b → B ≤ b ∧ b < W.heap.size := fun b hb => h.own.lt b hb
  refine ⟨(ht.same bo h.box.lt (fun e => ?_)).trans h.box, h.lo, ?_, owns_turn h.own ht (fun b hb e => ?_), fun e => ?_, fun s hs => (h.rows s hs).turn ht (fun b hb hlt => ⟨fun e => ?_, hb.1, fun e => ?_, hb.2.2⟩)⟩
  · have := h.lo; have := h.hg
    rcases hG _ e with e | e <;> omega
  · have := h.hg
    rcases hg' with rfl | hg'
    · exact this
    · exact hg'.2
  · have := hown b hb
    rcases hG _ e with rfl | rfl
    · exact h.off hb
    · omega
  · rcases hg' with rfl | hg'
    · exact h.off e
    · have := hown _ e; omega
  · rcases hG _ e with rfl | rfl
    · exact hb.2.1 rfl
    · omega
  · rcases hg' with rfl | hg'
    · exact hb.2.1 e
    · omega
theorem OutI.hit {B bo g : Nat} {W w1 : World} {v v' : Value} {L : List Sp} {x : Sp} {tmp : Obj} (h : OutI B bo g W v L) (hgW : g < W.heap.size) (hB : B ≤ W.heap.size) (hx : RowIn (fun b => B ≤ b ∧ b ≠ g ∧ some b ≠ v.ownBlock) W x.row x.cnt)
    (hown : w1.ownsRow B 42 2 v' (L.length + 1) (spCells L ++ [.int .i64 x.nom, x.row])) (hgrow : (W.alloc tmp).grownBy w1 v.ownBlock) (hw : v'.ownBlock = v.ownBlock ∨ v'.ownBlock = some (W.alloc tmp).heap.size) :
    OutI B bo g (w1.setCell ⟨bo, 0, none⟩ v') v' (L ++ [x]) ∧ Boxed w1 bo 36 v ∧ Turn (fun k => some k = v.ownBlock ∨ k = bo) W (w1.setCell ⟨bo, 0, none⟩ v') := by
  have t1 : Turn (fun k => some k = v.ownBlock ∨ k = bo) W (W.alloc tmp) := Turn.of_below (below_alloc W tmp)
  have t2 : Turn (fun k => some k = v.ownBlock ∨ k = bo) (W.alloc tmp) w1 := (Turn.of_grown hgrow).wider (fun k e => .inl e.symm)
  have t3 : Turn (fun k => some k = v.ownBlock ∨ k = bo) w1 (w1.setCell ⟨bo, 0, none⟩ v') := Turn.set _ (.inr rfl)
  have hb1 : Boxed w1 bo 36 v := (h.box.alloc tmp).kept hgrow (h.box.not_row (by decide) h.own)
  have hob : ∀ b, v.ownBlock = some b → B ≤ b ∧ b < W.heap.size := fun b hb => h.own.lt b hb
  have hv' : ∀ b, v'.ownBlock = some b → b ≠ g := fun b hb e => by
    subst e
    rcases hw with e | e
    · exact h.off (e ▸ hb)
    · rw [hb] at e
      have := Option.some.inj e
      rw [World.size_alloc] at this
      omega
  have hrow : ∀ (u : Value) (zs : List Int), RowIn (fun b => B ≤ b ∧ b ≠ g ∧ some b ≠ v.ownBlock) W u zs → RowIn (fun b => B ≤ b ∧ b ≠ g ∧ some b ≠ v'.ownBlock) (w1.setCell ⟨bo, 0, none⟩ v') u zs := fun u zs hu =>
    hu.turn ((t1.trans t2).trans t3) (fun b hb hlt => ⟨fun e => by
      rcases e with e | e
      · exact hb.2.2 e
      · have := h.lo; omega, hb.1, hb.2.1, fun e => by
      rcases hw with e2 | e2
      · exact hb.2.2 (e.trans e2)
      · rw [e2] at e
        have := Option.some.inj e
        rw [World.size_alloc] at this
        omega⟩)
  refine ⟨⟨hb1.set v', h.lo, h.hg, ?_, fun e => hv' _ e rfl, fun s hs => ?_⟩, hb1, (t1.trans t2).trans t3⟩
  · rw [spCells_snoc] at hown
    rw [List.length_append, List.length_singleton]
    exact hown.kept (grownBy_setCell' w1 bo v') (.inr (hb1.not_row (by decide) hown).symm)
  · rcases List.mem_append.1 hs with h1 | h1
    · exact hrow _ _ (h.rows s h1)
    · rw [List.mem_singleton.1 h1]
      exact hrow _ _ hx

set_option maxHeartbeats 1000000 in
theorem box_calls (u1 u2 : Value) (k : Int) (w : World) : Calls Tryz.prog 112 #[.agg #[u1, u2], .int .i64 k] w fun e w' => e = .returned (.func (.func 169) #[] #[.pointer (some ⟨w.heap.size, 0, none⟩), .pointer (some ⟨w.heap.size + 1, 0, none⟩)]) ∧
    w' = (w.alloc (.cells #[u1, u2] 30)).alloc (.cells #[.int .i64 k] 3) := by
  go_enter Tryz.func112, Tryz.ntmps112
  go_wp2
  go_ret
  exact ⟨rfl, rfl⟩
end Go.Proofs.YtjiijgdkdlelhaaGreatDoor

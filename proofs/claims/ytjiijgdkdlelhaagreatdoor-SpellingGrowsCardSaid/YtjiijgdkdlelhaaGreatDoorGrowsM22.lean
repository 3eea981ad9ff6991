/- The order of spellings: complexity, cmp.Compare, cmp.Or, slices.Compare. -/
import Derived.Test.YtjiijgdkdlelhaaGreatDoorGrowsM21
import Derived.Laws.OwnMore
import Derived.Deep.QuietTactic
import Derived.BigQuiet
import Derived.Maps.AppendAt
/- spelling.sum: the row of a spelling. -/
namespace Go.Proofs.YtjiijgdkdlelhaaGreatDoor
open Go.Shelf Go.RowKit Go.Lib

def addMul (o : List Int) (k : Int) (a : List Int) : List Int := List.zipWith (fun x y => x + k * y) o a
def sumL (o : List Int) : List (List Int) → List Int → List Int
  | a :: al, k :: ks => sumL (addMul o k a) al ks
  | _, _ => o
/-- A row after j of its elements have been changed. -/
def partMul (o : List Int) (k : Int) (a : List Int) (j : Nat) : List Int := (addMul o k a).take j ++ o.drop j
theorem addMul_length {o a : List Int} {k : Int} (h : o.length = a.length) : (addMul o k a).length = o.length := by simp [addMul, h]
theorem partMul_length {o a : List Int} {k : Int} (h : o.length = a.length) (j : Nat) : (partMul o k a j).length = o.length := by
  simp only [partMul, List.length_append, List.length_take, List.length_drop, addMul_length h]; omega
theorem partMul_zero (o a : List Int) (k : Int) : partMul o k a 0 = o := by simp [partMul]
theorem partMul_end {o a : List Int} {k : Int} (h : o.length = a.length) : partMul o k a o.length = addMul o k a := by
  unfold partMul
  rw [List.take_of_length_le (by rw [addMul_length h]; omega), List.drop_length, List.append_nil]
theorem addMul_get {o a : List Int} {k : Int} (h : o.length = a.length) {i : Nat} (hi : i < o.length) : (addMul o k a)[i]? = some (o[i]! + k * a[i]!) := by
  unfold addMul
  rw [List.getElem?_zipWith, List.getElem?_eq_getElem hi, List.getElem?_eq_getElem (by omega : i < a.length), getElem!_pos o i hi, getElem!_pos a i (by omega)]
theorem partMul_get {o a : List Int} {k : Int} (h : o.length = a.length) {j : Nat} (hj : j ≤ o.length) (i : Nat) : (partMul o k a j)[i]? = if i < j then (addMul o k a)[i]? else o[i]? := by
  have hl : ((addMul o k a).take j).length = j := by rw [List.length_take, addMul_length h]; omega
  unfold partMul
  by_cases hij : i < j
  · rw [if_pos hij, List.getElem?_append_left (by omega), List.getElem?_take, if_pos hij]
  · rw [if_neg hij, List.getElem?_append_right (by omega), hl, List.getElem?_drop, show j + (i - j) = i by omega]
theorem partMul_at {o a : List Int} {k : Int} (h : o.length = a.length) {j : Nat} (hj : j < o.length) : (partMul o k a j)[j]! = o[j]! := by
  have := partMul_get (k := k) h (Nat.le_of_lt hj) j
  rw [if_neg (Nat.lt_irrefl j)] at this
  rw [List.getElem!_eq_getElem?_getD, List.getElem!_eq_getElem?_getD, this]
theorem partMul_succ {o a : List Int} {k : Int} (h : o.length = a.length) {j : Nat} (hj : j < o.length) : (partMul o k a j).set j (o[j]! + k * a[j]!) = partMul o k a (j + 1) := by
  apply List.ext_getElem?
  intro i
  rw [List.getElem?_set, partMul_get h (Nat.le_of_lt hj), partMul_get h hj]
  by_cases e : j = i
  · subst e
    rw [if_pos rfl, if_pos (by rw [partMul_length h]; exact hj), if_pos (by omega), addMul_get h hj]
  · rw [if_neg e]
    by_cases hij : i < j
    · rw [if_pos hij, if_pos (by omega)]
    · rw [if_neg hij, if_neg (by omega)]
theorem sumL_length : ∀ (al : List (List Int)) (ks : List Int) (o : List Int), (∀ a ∈ al, a.length = o.length) → (sumL o al ks).length = o.length
  | [], ks, o, _ => by cases ks <;> rfl
  | _ :: _, [], _, _ => rfl
  | a :: al, k :: ks, o, h => by
    have e : o.length = a.length := (h a (List.mem_cons_self ..)).symm
    show (sumL (addMul o k a) al ks).length = _
    rw [sumL_length al ks _ (fun b hb => by rw [addMul_length e]; exact h b (List.mem_cons_of_mem _ hb)), addMul_length e]
/-- The sum of the first i accidentals. -/
def sumTo (o : List Int) (al : List (List Int)) (ks : List Int) (i : Nat) : List Int := sumL o (al.take i) (ks.take i)
theorem sumTo_zero (o : List Int) (al : List (List Int)) (ks : List Int) : sumTo o al ks 0 = o := by unfold sumTo; rfl
theorem sumTo_succ : ∀ (al : List (List Int)) (ks : List Int) (o : List Int) (i : Nat), i < al.length → i < ks.length → sumTo o al ks (i + 1) = addMul (sumTo o al ks i) ks[i]! al[i]!
  | [], _, _, _, h, _ => by cases h
  | _ :: _, [], _, _, _, h => by cases h
  | a :: al, k :: ks, o, 0, _, _ => by
    unfold sumTo
    rfl
  | a :: al, k :: ks, o, i + 1, h, h' => by
    have := sumTo_succ al ks (addMul o k a) i (by simpa using h) (by simpa using h')
    unfold sumTo at this ⊢
    simp only [List.take_succ_cons] at this ⊢
    show sumL (addMul o k a) (al.take (i + 1)) (ks.take (i + 1)) = addMul (sumL (addMul o k a) (al.take i) (ks.take i)) _ _
    rw [this]
    simp
theorem sumTo_end {o : List Int} {al : List (List Int)} {ks : List Int} (h : al.length = ks.length) : sumTo o al ks ks.length = sumL o al ks := by
  unfold sumTo
  rw [← h, List.take_length, h, List.take_length]

def bndL (B : Int) (l : List Int) : Prop := ∀ j, j < l.length → -B ≤ l[j]! ∧ l[j]! ≤ B
theorem prod_bnd {k x : Int} (hk : -1000000000 ≤ k ∧ k ≤ 1000000000) (hx : -1000 ≤ x ∧ x ≤ 1000) : -1000000000000 ≤ k * x ∧ k * x ≤ 1000000000000 := by
  have h1 : (k * x).natAbs ≤ 1000000000 * 1000 := by
    rw [Int.natAbs_mul]
    exact Nat.mul_le_mul (by omega) (by omega)
  omega
theorem addMul_bnd {B : Int} {o a : List Int} {k : Int} (h : o.length = a.length) (ho : bndL B o) (ha : bndL 1000 a) (hk : -1000000000 ≤ k ∧ k ≤ 1000000000) : bndL (B + 1000000000000) (addMul o k a) := by
  intro j hj
  have hj' : j < o.length := by rw [addMul_length h] at hj; exact hj
  have e : (addMul o k a)[j]! = o[j]! + k * a[j]! := by
    rw [List.getElem!_eq_getElem?_getD, addMul_get h hj']
    rfl
  have := prod_bnd hk (ha j (by omega))
  have := ho j hj'
  rw [e]
  omega

theorem owns_set {w : World} {base g n cap j : Nat} {e : TypeId} {xs : List Value} {u : Value} (h : w.ownsRow base e 1 (.slice (some ⟨g, 0, none⟩) n cap) n xs) : (w.setCell ⟨g, j, none⟩ u).ownsRow base e 1 (.slice (some ⟨g, 0, none⟩) n cap) n (xs.set j u) := by
  refine ⟨by rw [List.length_set]; exact h.1, ?_⟩
  rcases h.2 with ⟨e, _⟩ | ⟨g', cap', cur, e, hb, hg, hn, hm, hs, ht⟩
  · cases e
  · cases e
    refine .inr ⟨g, cap, cur.setIfInBounds j u, rfl, hb, ?_, hn, hm, by simpa using hs, ?_⟩
    · simp [World.setCell, Array.getElem?_modify, hg]
    · rw [Array.toList_setIfInBounds, List.take_set, ht]
theorem intCells_set (zs : List Int) (j : Nat) (x : Int) : (intCells zs).set j (.int .i64 x) = intCells (zs.set j x) := by
  unfold intCells
  rw [List.map_set]
theorem owns_int {w : World} {base g n cap : Nat} {zs : List Int} (h : w.ownsRow base 3 1 (.slice (some ⟨g, 0, none⟩) n cap) n (intCells zs)) {j : Nat} (hj : j < zs.length) : w.cell? ⟨g, j, none⟩ = some (.int .i64 zs[j]!) ∧ w.frozen? ⟨g, j, none⟩ = false := by
  constructor
  · have := h.cells (g := g) rfl j (.int .i64 zs[j]!) (by unfold intCells; rw [List.getElem?_map, List.getElem?_eq_getElem hj, getElem!_pos zs j hj]; rfl)
    rw [Addr.add_lit] at this
    simpa using this
  · exact World.ownsRow.frozenAt h j
end Go.Proofs.YtjiijgdkdlelhaaGreatDoor

/- spelling.sum: the walk. -/
namespace Go.Proofs.YtjiijgdkdlelhaaGreatDoor
open Go.Shelf Go.RowKit Go.Lib

theorem nth_row {w : World} {p : Option Addr} {n q k : Nat} {L : List Sym} (h : SymsAt w (.slice p n q) L) (hk : k < L.length) : ∃ bb oo, p = some ⟨bb, oo, none⟩ ∧ n = L.length ∧ bb < w.heap.size ∧
    ∀ i, i < L.length → ∃ pf cf, w.cell? ⟨bb, oo + i * 2 + 1, none⟩ = some (.slice pf L[i]!.els.length cf) ∧ RowAt w (.slice pf L[i]!.els.length cf) L[i]!.els := by
  rcases h.2 with ⟨base, c, e, rfl, -⟩ | ⟨b, off, c, e, hb, h3⟩
  · cases hk
  · cases e
    refine ⟨b, off, rfl, rfl, hb, fun i hi => ?_⟩
    have hm : L[i]! ∈ L := by rw [getElem!_pos L i hi]; exact List.getElem_mem hi
    obtain ⟨pf, cf, hr⟩ := (h.1 _ hm).shape
    have h4 := h3 i hi 1 _ rfl
    have h5 := h.1 _ hm
    rw [hr] at h4 h5
    exact ⟨pf, cf, h4, h5⟩
theorem RowAt.len {w : World} {p : Option Addr} {n q : Nat} {zs : List Int} (h : RowAt w (.slice p n q) zs) : n = zs.length := by
  rcases h with ⟨b, c, e, rfl⟩ | ⟨b, o, c, e, _⟩
  · cases e; rfl
  · cases e; rfl
theorem SymsAt.len {w : World} {p : Option Addr} {n q : Nat} {L : List Sym} (h : SymsAt w (.slice p n q) L) : n = L.length := by
  rcases h.2 with ⟨b, c, e, rfl, _⟩ | ⟨b, o, c, e, _⟩
  · cases e; rfl
  · cases e; rfl
theorem owns_shape {w : World} {base : Nat} {e : TypeId} {size : Nat} {v : Value} {n : Nat} {xs : List Value} (h : w.ownsRow base e size v n xs) (hn : 0 < n) : ∃ g cap, v = .slice (some ⟨g, 0, none⟩) n cap ∧ base ≤ g ∧ g < w.heap.size := by
  rcases h.2 with ⟨_, h0⟩ | ⟨g, cap, cur, rfl, hb, hg, _⟩
  · omega
  · exact ⟨g, cap, rfl, hb, (Array.getElem?_eq_some_iff.1 hg).1⟩

set_option maxRecDepth 20000 in
set_option maxHeartbeats 4000000 in
theorem sum_calls {w : World} {p1 p2 pc : Option Addr} {n1 q1 n2 q2 m qc k d : Nat} {L1 L2 : List Sym} {cs : List Int} (h1 : SymsAt w (.slice p1 n1 q1) L1) (h2 : SymsAt w (.slice p2 n2 q2) L2) (hc : RowAt w (.slice pc m qc) cs)
    (hk : k < L1.length) (hn1 : L1.length < 1000) (hm : cs.length = L2.length) (hd : ∀ x ∈ L1 ++ L2, x.els.length = d ∧ bndL 1000 x.els) (hd0 : 0 < d) (hd1 : d < 1000) (hcb : bndL 1000000000 cs) (hm1 : cs.length < 1000) :
    Calls Tryz.prog 60 #[.agg #[.slice p1 n1 q1, .slice p2 n2 q2], .agg #[.int .i64 k, .slice pc m qc]] w fun e w' => ∃ v', e = .returned v' ∧ RowAt w' v' (sumL L1[k]!.els (L2.map Sym.els) cs) ∧ Below w.heap.size w w' := by
  have hb12 := below_then (below_alloc w (.cells #[.slice p1 n1 q1, .slice p2 n2 q2] 30)) (below_alloc _ (.cells #[.int .i64 k, .slice pc m qc] 42))
  have hsz : ((w.alloc (.cells #[.slice p1 n1 q1, .slice p2 n2 q2] 30)).alloc (.cells #[.int .i64 k, .slice pc m qc] 42)).heap.size = w.heap.size + 2 := by simp
  have bx := cell_step (⟨by simp, (cell_two w (.slice p1 n1 q1) (.slice p2 n2 q2) 30).1, (cell_two w (.slice p1 n1 q1) (.slice p2 n2 q2) 30).2⟩) (below_alloc (w.alloc (.cells #[.slice p1 n1 q1, .slice p2 n2 q2] 30)) (.cells #[.int .i64 k, .slice pc m qc] 42))
  have by' := cell_two (w.alloc (.cells #[.slice p1 n1 q1, .slice p2 n2 q2] 30)) (.int .i64 k) (.slice pc m qc) 42
  rw [show (w.alloc (.cells #[.slice p1 n1 q1, .slice p2 n2 q2] 30)).heap.size = w.heap.size + 1 by simp] at by'
  have h1' := h1.mono hb12
  have h2' := h2.mono hb12
  have hc' := hc.mono hb12
  obtain ⟨bb, oo, rfl, hl1, hbb, hrow1⟩ := nth_row h1' hk
  obtain ⟨pf, cf, hr1, hR1⟩ := hrow1 k hk
  have hmk : L1[k]! ∈ L1 ++ L2 := List.mem_append_left _ (by rw [getElem!_pos L1 k hk]; exact List.getElem_mem hk)
  have hlm := hc.len
  have hln2 := h2.len
  have hacc : ∀ i, i < L2.length → L2[i]! ∈ L1 ++ L2 := fun i hi => List.mem_append_right _ (by rw [getElem!_pos L2 i hi]; exact List.getElem_mem hi)
  obtain ⟨hdk, hbk⟩ := hd _ hmk
  rw [hdk] at hr1 hR1
  have hcl := clone114_calls hR1 (by omega)
  rw [hdk] at hcl
  have HCL := aside hcl
  clear hcl
  obtain ⟨W0, hW0⟩ : ∃ W0, ((w.alloc (.cells #[.slice (some ⟨bb, oo, none⟩) n1 q1, .slice p2 n2 q2] 30)).alloc (.cells #[.int .i64 k, .slice pc m qc] 42)) = W0 := ⟨_, rfl⟩
  rw [hW0] at hb12 hsz bx by' h2' hc' hr1 hR1 hbb
  have HW0 := aside hW0
  have f2 := aside fun wr (h : Below W0.heap.size W0 wr) => (h.cell (p := ⟨w.heap.size, 1, none⟩) bx.1).trans bx.2.2
  have f3 := aside fun wr (h : Below W0.heap.size W0 wr) => (h.cell (p := ⟨w.heap.size + 1, 1, none⟩) (by show w.heap.size + 1 < _; omega)).trans by'.2
  have f4 := aside fun wr (h : Below W0.heap.size W0 wr) => (h2'.mono h)
  have f5 := aside fun wr (h : Below W0.heap.size W0 wr) => (hc'.mono h)
  have HB := aside hb12
  have HD := aside hd
  have HA := aside hacc
  have HM := aside hm
  have HK := aside hbk
  have HDK := aside hdk
  have HCB := aside hcb
  have HR1 := aside hr1
  have HM2 := aside (show m = n2 by omega)
  have hmk' : m < 1000 := by omega
  have hkz : (k : Int) < (n1 : Int) := by omega
  have HN2 := aside hln2
  have HLM := aside hlm
  clear hb12 hsz bx by' h1 h2 hc h1' h2' hc' hrow1 hr1 hR1 hmk hlm hln2 hacc hdk hbk hd hcb hW0 hm hl1 hm1 hk hn1
  generalize ho : L1[k]!.els = o at *
  have HO := aside ho
  clear ho
  have hl0 := HR1.out
  rw [← HW0.out] at hl0
  go_enter Tryz.func60, Tryz.ntmps60
  go_wp2_with (go_at_call 114; refine HCL.out.mono ?_; rintro e w1 ⟨v5, rfl, hown, hb1⟩; rw [HW0.out] at hown hb1; obtain ⟨g, cap, rfl, hg1, hg2⟩ := owns_shape hown hd0; have g3 := f3.out _ hb1)
  have hmm : m < 1000 := hmk'
  clear hl0
  go_loopg [6, 7, 8, 9, 21] m (fun gg _ _ _ _ s21 wr => ∃ i : Nat, i ≤ m ∧ m - i ≤ gg ∧ s21 = .int .i64 i ∧ Aside (Below W0.heap.size W0 wr) ∧ Aside (wr.ownsRow W0.heap.size 3 1 (.slice (some ⟨g, 0, none⟩) d cap) d (intCells (sumTo o (L2.map Sym.els) cs i))) ∧ Aside ((sumTo o (L2.map Sym.els) cs i).length = d ∧ bndL (1000 + i * 1000000000000) (sumTo o (L2.map Sym.els) cs i)))
  case atStart => exact ⟨0, Nat.zero_le _, by omega, rfl, hb1, by rw [sumTo_zero]; exact hown, by rw [sumTo_zero]; exact ⟨HDK.out, by simpa using HK.out⟩⟩
  case round =>
    obtain ⟨i, him, hg, rfl, BW, OW, BN⟩ := hrel
    by_cases hlt : i < m
    · have hltz : (i : Int) < (m : Int) := by omega
      have hml : m = cs.length := HLM.out
      have hiz2 : (i : Int) < (n2 : Int) := by have := HM2.out; omega
      have hiL : i < L2.length := by rw [← HM.out]; omega
      have hic : i < cs.length := by omega
      obtain ⟨b2, o2, rfl, -, hb2, hrow2⟩ := nth_row (f4.out W0 (Below.refl _ _)) hiL
      obtain ⟨pr, cr, l3, hR⟩ := hrow2 i hiL
      obtain ⟨hdi, hbi⟩ := HD.out _ (HA.out i hiL)
      rw [hdi] at l3 hR
      have l3' := (BW.out.cell (p := ⟨b2, o2 + i * 2 + 1, none⟩) hb2).trans l3
      have l2' := f2.out _ BW.out
      rcases (f5.out W0 (Below.refl _ _)).parts with ⟨_, h0⟩ | ⟨bc, oc, rfl, -, hbc, hcc⟩
      · omega
      have l1' := (BW.out.cell (p := ⟨bc, oc + i, none⟩) hbc).trans (hcc i hic)
      have hstep := sumTo_succ (L2.map Sym.els) cs o i (by rw [List.length_map]; exact hiL) hic
      rw [show (L2.map Sym.els)[i]! = L2[i]!.els by rw [getElem!_pos _ i (by rw [List.length_map]; exact hiL), getElem!_pos L2 i hiL, List.getElem_map]] at hstep
      have hkb := HCB.out i hic
      have HST := aside hstep
      have hlen2 : (sumTo o (L2.map Sym.els) cs i).length = L2[i]!.els.length := by rw [BN.out.1, hdi]
      have HL2 := aside hlen2
      have HDI := aside hdi
      have HBI := aside hbi
      have HRI := aside hR
      have HKB := aside hkb
      clear hcc hrow2 l3 hstep hml hiL hlen2 hdi hbi hR hkb hic
      generalize cs[i]! = K at l1' HST HKB
      generalize L2[i]!.els = a at HST HL2 HDI HBI HRI
      generalize sumTo o (L2.map Sym.els) cs i = oi at OW BN HST HL2
      rcases HRI.out.parts with ⟨h00, h0⟩ | ⟨br, or', rfl, -, hbr, hcr⟩
      · omega
      have HCR := aside hcr
      clear hcr
      go_wp2
      go_loopg [8, 9, 33] d (fun gg _ _ s33 wq => ∃ j : Nat, j ≤ d ∧ d - j ≤ gg ∧ s33 = .int .i64 j ∧ Aside (Below W0.heap.size W0 wq) ∧ Aside (wq.ownsRow W0.heap.size 3 1 (.slice (some ⟨g, 0, none⟩) d cap) d (intCells (partMul oi K a j))))
      case atStart => exact ⟨0, Nat.zero_le _, by omega, rfl, BW, by rw [partMul_zero]; exact OW⟩
      case round =>
        obtain ⟨j, hjd, hgj, rfl, BQ, OQ⟩ := hrel
        by_cases hjlt : j < d
        · have hjz : (j : Int) < (d : Int) := by omega
          have hjo : j < oi.length := by rw [BN.out.1]; exact hjlt
          obtain ⟨m1, m2⟩ := owns_int OQ.out (by rw [partMul_length HL2.out]; exact hjo)
          rw [partMul_at HL2.out hjo] at m1
          have m3 := (BQ.out.cell (p := ⟨br, or' + j, none⟩) hbr).trans (HCR.out j (by rw [HDI.out]; exact hjlt))
          have hyb := BN.out.2 j hjo
          have hxb := prod_bnd HKB.out (HBI.out j (by rw [HDI.out]; exact hjlt))
          have hps := partMul_succ (k := K) HL2.out hjo
          have HPS := aside hps
          clear hps hjo
          generalize oi[j]! = y at m1 hyb HPS
          generalize a[j]! = x at m3 hxb HPS
          have hn1 : -9223372036854775808 ≤ K * x := by omega
          have hn2 : K * x ≤ 9223372036854775807 := by omega
          have hn3 : -9223372036854775808 ≤ y + K * x := by omega
          have hn4 : y + K * x ≤ 9223372036854775807 := by omega
          clear hyb hxb
          go_wp2
          go_roundg (d - (j + 1))
          case measure => omega
          case rel =>
            refine ⟨j + 1, by omega, by omega, by go_num, (show Aside _ from BQ.out.setCell (p := ⟨g, j, none⟩) hg1 _), (show Aside _ from ?_)⟩
            have := owns_set (j := j) (u := .int .i64 (y + K * x)) OQ.out
            rw [intCells_set, HPS.out] at this
            exact this
        · have hjz : ¬ (j : Int) < (d : Int) := by omega
          have : j = d := by omega
          subst this
          go_wp2
          go_roundg (m - (i + 1))
          case measure => omega
          case rel =>
            refine ⟨i + 1, by omega, by omega, by go_num, (show Aside _ from BQ.out), (show Aside _ from ?_), (show Aside _ from ?_)⟩
            · have := OQ.out
              rw [← BN.out.1, partMul_end HL2.out, BN.out.1] at this
              rw [HST.out]
              exact this
            · rw [HST.out]
              refine ⟨by rw [addMul_length HL2.out]; exact BN.out.1, ?_⟩
              have := addMul_bnd HL2.out BN.out.2 HBI.out HKB.out
              have e : (1000 + ((i + 1 : Nat) : Int) * 1000000000000) = 1000 + (i : Int) * 1000000000000 + 1000000000000 := by omega
              rw [e]
              exact this
    · have hltz : ¬ (i : Int) < (m : Int) := by omega
      have : i = m := by omega
      subst this
      go_wp2
      go_ret
      refine ⟨_, rfl, ?_, below_then HB.out BW.out⟩
      have hml : i = cs.length := HLM.out
      have ho := OW.out
      rw [hml, sumTo_end (by rw [List.length_map]; exact HM.out.symm)] at ho
      have hbl := BN.out.1
      rw [hml, sumTo_end (by rw [List.length_map]; exact HM.out.symm)] at hbl
      exact row_of_owns (by rw [hbl]; exact ho)
end Go.Proofs.YtjiijgdkdlelhaaGreatDoor

/- spelling.checkSpelling, open, Read. -/
namespace Go.Proofs.YtjiijgdkdlelhaaGreatDoor
open Go.Shelf Go.RowKit Go.Lib

/-- The error of a spelling of a right notation. -/
def spErr (n1 n2 : Nat) (k : Int) (cs : List Int) : Int := if k < 0 ∨ (n1 : Int) ≤ k then 10 else if cs.length ≠ n2 then 5 else rowErr cs
set_option maxRecDepth 20000 in
theorem checkSp_calls {w : World} {p1 p2 pc : Option Addr} {n1 q1 n2 q2 m qc : Nat} {k : Int} {cs : List Int} (hc : RowAt w (.slice pc m qc) cs) (hb : cs.length ≤ 9223372036854775807) :
    Calls Tryz.prog 113 #[.agg #[.slice p1 n1 q1, .slice p2 n2 q2], .agg #[.int .i64 k, .slice pc m qc]] w fun e w' => e = .returned (.int .i64 (spErr n1 n2 k cs)) ∧ Below w.heap.size w w' := by
  have hb12 := below_then (below_alloc w (.cells #[.slice p1 n1 q1, .slice p2 n2 q2] 30)) (below_alloc _ (.cells #[.int .i64 k, .slice pc m qc] 42))
  have HC := aside (rowCheck_calls (hc.mono hb12) hb)
  have HB := aside hb12
  have hl := hc.len
  have he : spErr n1 n2 k cs = if k < 0 ∨ (n1 : Int) ≤ k then 10 else if m ≠ n2 then 5 else rowErr cs := by unfold spErr; rw [hl]
  rw [he]
  clear hc hb12 hl he hb
  generalize rowErr cs = re at HC ⊢
  by_cases h1 : k < 0
  · rw [if_pos (.inl h1)]
    go_enter Tryz.func113, Tryz.ntmps113
    go_wp2
    go_ret
    exact ⟨rfl, HB.out⟩
  · by_cases h2 : (n1 : Int) ≤ k
    · rw [if_pos (.inr h2)]
      go_enter Tryz.func113, Tryz.ntmps113
      go_wp2
      go_ret
      exact ⟨rfl, HB.out⟩
    · rw [if_neg (by omega)]
      by_cases h3 : (m : Int) = (n2 : Int)
      · have h3' : m = n2 := by omega
        subst h3'
        rw [if_neg (by simp)]
        clear h3
        go_enter Tryz.func113, Tryz.ntmps113
        go_wp2_with (go_at_call 30; refine HC.out.mono ?_; rintro e w1 ⟨rfl, hb1⟩)
        go_ret
        exact ⟨rfl, below_then HB.out hb1⟩
      · have h3' : m ≠ n2 := by omega
        rw [if_pos h3']
        go_enter Tryz.func113, Tryz.ntmps113
        go_wp2
        go_ret
        exact ⟨rfl, HB.out⟩

/-- A spelling: its nominal, the value of its counts, the counts. -/
structure Sp where
  nom : Int
  row : Value
  cnt : List Int
  deriving Inhabited
def Sp.enc (s : Sp) : List Value := [.int .i64 s.nom, s.row]
def SpAt (w : World) (s : Sp) : Prop := RowAt w s.row s.cnt ∧ s.cnt.length ≤ 9223372036854775807
theorem SpAt.mono {w W : World} {s : Sp} (h : SpAt w s) (hb : Below w.heap.size w W) : SpAt W s := ⟨h.1.mono hb, h.2⟩
def openErr (n1 n2 : Nat) : List Sp → Int
  | [] => 0
  | s :: l => if spErr n1 n2 s.nom s.cnt ≠ 0 then spErr n1 n2 s.nom s.cnt else openErr n1 n2 l
theorem openErr_hit {n1 n2 kk : Nat} {L : List Sp} (h : kk < L.length) (he : spErr n1 n2 L[kk]!.nom L[kk]!.cnt ≠ 0) : openErr n1 n2 (L.drop kk) = spErr n1 n2 L[kk]!.nom L[kk]!.cnt := by
  rw [List.drop_eq_getElem_cons h, openErr, if_pos (by rw [← getElem!_pos L kk h]; exact he), getElem!_pos L kk h]
theorem openErr_miss {n1 n2 kk : Nat} {L : List Sp} (h : kk < L.length) (he : spErr n1 n2 L[kk]!.nom L[kk]!.cnt = 0) : openErr n1 n2 (L.drop kk) = openErr n1 n2 (L.drop (kk + 1)) := by
  rw [List.drop_eq_getElem_cons h, openErr, if_neg (by rw [← getElem!_pos L kk h]; simpa using he)]

set_option maxRecDepth 20000 in
set_option maxHeartbeats 2000000 in
theorem open_calls {w : World} {p1 p2 : Option Addr} {n1 q1 n2 q2 b n c : Nat} {L : List Sp} (H : ChecksTo w p1 n1 q1 p2 n2 q2 0) (hn : n = L.length) (hb : b < w.heap.size) (hs : ∀ s ∈ L, SpAt w s)
    (hcells : ∀ j, j < L.length → w.cell? ⟨b, j * 2, none⟩ = some (.int .i64 L[j]!.nom) ∧ w.cell? ⟨b, j * 2 + 1, none⟩ = some L[j]!.row) (hbig : n ≤ 9223372036854775807) :
    Calls Tryz.prog 59 #[.agg #[.slice p1 n1 q1, .slice p2 n2 q2], .slice (some ⟨b, 0, none⟩) n c] w fun e w' => e = .returned (.int .i64 (openErr n1 n2 L)) ∧ Below w.heap.size w w' := by
  have hb12 := below_alloc w (.cells #[.slice p1 n1 q1, .slice p2 n2 q2] 30)
  have bx := cell_two w (.slice p1 n1 q1) (.slice p2 n2 q2) 30
  have HC := aside (H _ hb12)
  have HB := aside hb12
  have HX := aside bx
  have HS := aside hs
  have HL := aside hcells
  have HN := aside hn
  have hsz : w.heap.size < (w.alloc (.cells #[.slice p1 n1 q1, .slice p2 n2 q2] 30)).heap.size := by simp
  have HZ := aside hsz
  clear H hb12 bx hs hcells hn hsz
  go_enter Tryz.func59, Tryz.ntmps59
  go_wp2_with (go_at_call 45; refine HC.out.mono ?_; rintro e w1 ⟨rfl, hb1⟩; have B1 := below_then HB.out hb1; have X1 := cell_step ⟨HZ.out, HX.out.1, HX.out.2⟩ hb1)
  go_loopg [7, 8, 16] n (fun gg _ _ s16 wr => ∃ kk : Nat, kk ≤ n ∧ n - kk ≤ gg ∧ s16 = .int .i64 kk ∧ Aside (Below w1.heap.size w1 wr) ∧ Aside (openErr n1 n2 L = openErr n1 n2 (L.drop kk)))
  case atStart => exact ⟨0, Nat.zero_le _, by omega, rfl, Below.refl _ _, rfl⟩
  case round =>
    obtain ⟨kk, hkk, hg, rfl, BW, A⟩ := hrel
    by_cases hlt : kk < n
    · have hltz : (kk : Int) < (n : Int) := by omega
      have hkL : kk < L.length := by rw [← HN.out]; exact hlt
      have hm : L[kk]! ∈ L := by rw [getElem!_pos L kk hkL]; exact List.getElem_mem hkL
      have BB := below_then B1 BW.out
      obtain ⟨l2, l3⟩ := HL.out kk hkL
      have hS := (HS.out _ hm).mono BB
      obtain ⟨pc, qc, hrow⟩ := hS.1.shape
      have l2' := (BB.cell (p := ⟨b, kk * 2, none⟩) hb).trans l2
      have l3' := (BB.cell (p := ⟨b, kk * 2 + 1, none⟩) hb).trans l3
      rw [hrow] at l3'
      have x1 := (BW.out.cell (p := ⟨w.heap.size, 0, none⟩) X1.1).trans X1.2.1
      have x2 := (BW.out.cell (p := ⟨w.heap.size, 1, none⟩) X1.1).trans X1.2.2
      have x1' := (((below_alloc wr (.cells #[.int .i64 L[kk]!.nom, .slice pc L[kk]!.cnt.length qc] 42)).cell (p := ⟨w.heap.size, 0, none⟩) (Nat.lt_of_lt_of_le X1.1 BW.out.size)).trans x1)
      have x2' := (((below_alloc wr (.cells #[.int .i64 L[kk]!.nom, .slice pc L[kk]!.cnt.length qc] 42)).cell (p := ⟨w.heap.size, 1, none⟩) (Nat.lt_of_lt_of_le X1.1 BW.out.size)).trans x2)
      have hcs : ∀ W, Below wr.heap.size wr W → Calls Tryz.prog 113 #[.agg #[.slice p1 n1 q1, .slice p2 n2 q2], .agg #[.int .i64 L[kk]!.nom, .slice pc L[kk]!.cnt.length qc]] W fun e w' => e = .returned (.int .i64 (spErr n1 n2 L[kk]!.nom L[kk]!.cnt)) ∧ Below W.heap.size W w' := fun W hW => by
        have := hS.mono hW
        have h1 := this.1
        rw [hrow] at h1
        exact checkSp_calls h1 this.2
      have hh := openErr_hit (n1 := n1) (n2 := n2) hkL
      have hmi := openErr_miss (n1 := n1) (n2 := n2) hkL
      have HCS := aside hcs
      have HH := aside hh
      have HMI := aside hmi
      clear l2 l3 hS hrow hcs hh hmi hm hkL x1 x2
      generalize hse : spErr n1 n2 L[kk]!.nom L[kk]!.cnt = se at HCS HH HMI
      generalize L[kk]!.cnt.length = le at HCS l3' x1' x2'
      generalize L[kk]!.nom = nm at l2' HCS x1' x2'
      clear hse
      by_cases h0 : se = 0
      · have HM0 := aside (HMI.out h0)
        clear HMI HH
        subst h0
        go_wp2_with (go_at_call 113; refine (HCS.out _ (below_alloc wr _)).mono ?_; rintro e w3 ⟨rfl, hb3⟩)
        go_roundg (n - (kk + 1))
        case measure => omega
        case rel => exact ⟨kk + 1, by omega, by omega, by go_num, (show Aside _ from below_then BW.out (below_then (below_alloc wr _) hb3)), (show Aside _ from by rw [A.out, HM0.out]; rfl)⟩
      · go_wp2_with (go_at_call 113; refine (HCS.out _ (below_alloc wr _)).mono ?_; rintro e w3 ⟨rfl, hb3⟩)
        go_ret
        refine ⟨?_, below_then BB (below_then (below_alloc wr _) hb3)⟩
        rw [A.out, HH.out h0]
        rfl
    · have hltz : ¬ (kk : Int) < (n : Int) := by omega
      have : kk = n := by omega
      subst this
      go_wp2
      go_ret
      refine ⟨?_, below_then B1 BW.out⟩
      rw [A.out, HN.out, List.drop_length]
      rfl
end Go.Proofs.YtjiijgdkdlelhaaGreatDoor

/- spelling.Read over a right notation. -/
namespace Go.Proofs.YtjiijgdkdlelhaaGreatDoor
open Go.Shelf Go.RowKit Go.Lib

/-- A flat notation: rows of one length, small numbers. -/
structure Flat (L1 L2 : List Sym) (d : Nat) : Prop where
  pos : 0 < L1.length
  l1 : L1.length < 1000
  l2 : L2.length < 1000
  rows : ∀ x ∈ L1 ++ L2, x.els.length = d ∧ bndL 1000 x.els
  d0 : 0 < d
  d1 : d < 1000
theorem rowErr_ok {zs : List Int} (h : rowErr zs = 0) : zs.length ≤ 64 ∧ bndL 1000000000 zs := by
  unfold rowErr at h
  split at h
  · cases h
  · rename_i hn
    have h1 : zs.length ≤ 64 := by omega
    refine ⟨h1, fun j hj => ?_⟩
    have h2 : (zs.any fun y => !fitsB y) = false := by
      cases hq : (zs.any fun y => !fitsB y) with
      | false => rfl
      | true => exact absurd (.inr hq) hn
    have h3 := List.any_eq_false.1 h2 zs[j]! (by rw [getElem!_pos zs j hj]; exact List.getElem_mem hj)
    simp only [fitsB, Bool.not_eq_true', Bool.not_eq_false, Bool.and_eq_true, decide_eq_true_eq] at h3
    exact h3
theorem spErr_ok {n1 n2 : Nat} {k : Int} {cs : List Int} (h : spErr n1 n2 k cs = 0) : 0 ≤ k ∧ k < n1 ∧ cs.length = n2 ∧ rowErr cs = 0 := by
  unfold spErr at h
  split at h
  · cases h
  · split at h
    · cases h
    · rename_i h1 h2
      refine ⟨by omega, by omega, by omega, h⟩
/-- The row of a spelling. -/
def spRow (L1 L2 : List Sym) (k : Int) (cs : List Int) : List Int := sumL L1[k.toNat]!.els (L2.map Sym.els) cs

set_option maxRecDepth 20000 in
set_option maxHeartbeats 2000000 in
theorem read_bad {w : World} {p1 p2 ps : Option Addr} {n1 q1 n2 q2 ns qs : Nat} {k : Int} {cs : List Int} (H : ChecksTo w p1 n1 q1 p2 n2 q2 0) (hc : RowAt w (.slice ps ns qs) cs) (hb : cs.length ≤ 9223372036854775807) (he : ¬ spErr n1 n2 k cs = 0) :
    Calls Tryz.prog 18 #[.agg #[.slice p1 n1 q1, .slice p2 n2 q2], .agg #[.int .i64 k, .slice ps ns qs]] w fun e w' => e = .returned (.tuple #[.slice none 0 0, .int .i64 (spErr n1 n2 k cs)]) ∧ Below w.heap.size w w' := by
  have hb3 := below_then (below_alloc w (.cells #[.slice p1 n1 q1, .slice p2 n2 q2] 30)) (below_then (below_alloc _ (.cells #[.int .i64 k, .slice ps ns qs] 42)) (below_alloc _ (.cells #[.int .i64 k, .slice ps ns qs] 42)))
  have hcell := cell_two ((w.alloc (.cells #[.slice p1 n1 q1, .slice p2 n2 q2] 30)).alloc (.cells #[.int .i64 k, .slice ps ns qs] 42)) (.int .i64 k) (.slice ps ns qs) 42
  rw [show ((w.alloc (.cells #[.slice p1 n1 q1, .slice p2 n2 q2] 30)).alloc (.cells #[.int .i64 k, .slice ps ns qs] 42)).heap.size = w.heap.size + 2 by simp] at hcell
  have ho := open_calls (b := w.heap.size + 2) (n := 1) (c := 1) (L := [⟨k, .slice ps ns qs, cs⟩]) (H.mono hb3) rfl (by simp) (fun s hs => by rw [List.mem_singleton.1 hs]; exact ⟨hc.mono hb3, hb⟩) (fun j hj => by
    have : j = 0 := by simpa using hj
    subst this
    exact hcell) (by omega)
  have e : openErr n1 n2 [⟨k, .slice ps ns qs, cs⟩] = spErr n1 n2 k cs := by
    simp only [openErr]
    rw [if_pos he]
  rw [e] at ho
  have HO := aside ho
  have HB := aside hb3
  clear ho hb3 hcell H hc hb e
  generalize spErr n1 n2 k cs = se at *
  go_enter Tryz.func18, Tryz.ntmps18
  go_wp2_with (go_at_call 59; refine HO.out.mono ?_; rintro e w1 ⟨rfl, hb1⟩)
  go_ret2
  exact ⟨rfl, below_then HB.out hb1⟩

set_option maxRecDepth 20000 in
set_option maxHeartbeats 2000000 in
theorem read_calls {w : World} {p1 p2 ps : Option Addr} {n1 q1 n2 q2 ns qs d : Nat} {k : Int} {cs : List Int} {L1 L2 : List Sym} (H : ChecksTo w p1 n1 q1 p2 n2 q2 0) (h1 : SymsAt w (.slice p1 n1 q1) L1) (h2 : SymsAt w (.slice p2 n2 q2) L2) (F : Flat L1 L2 d)
    (hc : RowAt w (.slice ps ns qs) cs) (he : spErr n1 n2 k cs = 0) :
    Calls Tryz.prog 18 #[.agg #[.slice p1 n1 q1, .slice p2 n2 q2], .agg #[.int .i64 k, .slice ps ns qs]] w fun e w' => ∃ v, e = .returned (.tuple #[v, .int .i64 (rowErr (spRow L1 L2 k cs))]) ∧ (rowErr (spRow L1 L2 k cs) = 0 → RowAt w' v (spRow L1 L2 k cs)) ∧ (rowErr (spRow L1 L2 k cs) ≠ 0 → v = .slice none 0 0) ∧ Below w.heap.size w w' := by
  obtain ⟨hk0, hk1, hl, hre⟩ := spErr_ok he
  obtain ⟨hl64, hbc⟩ := rowErr_ok hre
  have hb3 := below_then (below_alloc w (.cells #[.slice p1 n1 q1, .slice p2 n2 q2] 30)) (below_then (below_alloc _ (.cells #[.int .i64 k, .slice ps ns qs] 42)) (below_alloc _ (.cells #[.int .i64 k, .slice ps ns qs] 42)))
  have bx := cell_step (cell_step ⟨by simp, (cell_two w (.slice p1 n1 q1) (.slice p2 n2 q2) 30).1, (cell_two w (.slice p1 n1 q1) (.slice p2 n2 q2) 30).2⟩ (below_alloc _ (.cells #[.int .i64 k, .slice ps ns qs] 42))) (below_alloc _ (.cells #[.int .i64 k, .slice ps ns qs] 42))
  have by0 := cell_two (w.alloc (.cells #[.slice p1 n1 q1, .slice p2 n2 q2] 30)) (.int .i64 k) (.slice ps ns qs) 42
  rw [show (w.alloc (.cells #[.slice p1 n1 q1, .slice p2 n2 q2] 30)).heap.size = w.heap.size + 1 by simp] at by0
  have by' := cell_step ⟨by simp, by0.1, by0.2⟩ (below_alloc _ (.cells #[.int .i64 k, .slice ps ns qs] 42))
  have hcell := cell_two ((w.alloc (.cells #[.slice p1 n1 q1, .slice p2 n2 q2] 30)).alloc (.cells #[.int .i64 k, .slice ps ns qs] 42)) (.int .i64 k) (.slice ps ns qs) 42
  rw [show ((w.alloc (.cells #[.slice p1 n1 q1, .slice p2 n2 q2] 30)).alloc (.cells #[.int .i64 k, .slice ps ns qs] 42)).heap.size = w.heap.size + 2 by simp] at hcell
  have ho := open_calls (b := w.heap.size + 2) (n := 1) (c := 1) (L := [⟨k, .slice ps ns qs, cs⟩]) (H.mono hb3) rfl (by simp) (fun s hs => by rw [List.mem_singleton.1 hs]; exact ⟨hc.mono hb3, by show cs.length ≤ _; omega⟩) (fun j hj => by
    have : j = 0 := by simpa using hj
    subst this
    exact hcell) (by omega)
  have e : openErr n1 n2 [⟨k, .slice ps ns qs, cs⟩] = 0 := by
    simp only [openErr]
    rw [if_neg (by rw [he]; simp)]
  rw [e] at ho
  obtain ⟨kn, rfl⟩ : ∃ kn : Nat, k = kn := ⟨k.toNat, by omega⟩
  have hn1 := h1.len
  have hn2 := h2.len
  have hsum : ∀ W, Below w.heap.size w W → Calls Tryz.prog 60 #[.agg #[.slice p1 n1 q1, .slice p2 n2 q2], .agg #[.int .i64 kn, .slice ps ns qs]] W fun e w' => ∃ v', e = .returned v' ∧ RowAt w' v' (spRow L1 L2 kn cs) ∧ Below W.heap.size W w' := fun W hW => by
    have := sum_calls (k := kn) (h1.mono hW) (h2.mono hW) (hc.mono hW) (by omega) F.l1 (by omega) F.rows F.d0 F.d1 hbc (by omega)
    exact this
  have hlenr : (spRow L1 L2 kn cs).length ≤ 9223372036854775807 := by
    have hmk : L1[kn]! ∈ L1 ++ L2 := List.mem_append_left _ (by rw [getElem!_pos L1 kn (by omega)]; exact List.getElem_mem (by omega))
    have := (F.rows _ hmk).1
    unfold spRow
    rw [sumL_length _ _ _ (fun a ha => by
      obtain ⟨x, hx, rfl⟩ := List.mem_map.1 ha
      rw [(F.rows x (List.mem_append_right _ hx)).1]
      show d = L1[(kn : Int).toNat]!.els.length
      rw [Int.toNat_natCast, this])]
    show L1[(kn : Int).toNat]!.els.length ≤ _
    rw [Int.toNat_natCast, this]
    have := F.d1
    omega
  have HO := aside ho
  have HB := aside hb3
  have HX := aside bx
  have HY := aside by'
  have HSU := aside hsum
  have HLR := aside hlenr
  clear ho hb3 hcell H hc e bx by0 by' hsum h1 h2 F he hk0 hk1 hl hre hl64 hbc hn1 hn2 hlenr
  generalize spRow L1 L2 kn cs = r at *
  go_enter Tryz.func18, Tryz.ntmps18
  by_cases h0 : rowErr r = 0
  · have H0 := aside h0
    clear h0
    go_wp2_with (first
      | (go_at_call 59; refine HO.out.mono ?_; rintro e w1 ⟨rfl, hb1⟩; have B1 := below_then HB.out hb1; obtain ⟨x0, x1, x2⟩ := cell_step HX.out hb1; obtain ⟨y0, y1, y2⟩ := cell_step HY.out hb1)
      | (go_at_call 60; refine (HSU.out _ B1).mono ?_; rintro e w2 ⟨v5, rfl, hR, hb2⟩; have hR' := aside hR; obtain ⟨pv, qv, hv⟩ := hR.shape; subst hv; clear hR)
      | (go_at_call 30; refine (rowCheck_calls hR'.out HLR.out).mono ?_; rintro e w3 ⟨he3, hb3⟩; rw [H0.out] at he3; subst he3))
    go_ret2
    exact ⟨_, by rw [H0.out]; rfl, fun _ => hR'.out.mono hb3, fun h => absurd H0.out h, below_then B1 (below_then hb2 hb3)⟩
  · have H0 := aside h0
    generalize hq : rowErr r = re at *
    have HQ := aside hq
    clear hq
    go_wp2_with (first
      | (go_at_call 59; refine HO.out.mono ?_; rintro e w1 ⟨rfl, hb1⟩; have B1 := below_then HB.out hb1; obtain ⟨x0, x1, x2⟩ := cell_step HX.out hb1; obtain ⟨y0, y1, y2⟩ := cell_step HY.out hb1)
      | (go_at_call 60; refine (HSU.out _ B1).mono ?_; rintro e w2 ⟨v5, rfl, hR, hb2⟩; have hR' := aside hR; obtain ⟨pv, qv, hv⟩ := hR.shape; subst hv; clear hR)
      | (go_at_call 30; refine (rowCheck_calls hR'.out HLR.out).mono ?_; rintro e w3 ⟨he3, hb3⟩; rw [HQ.out] at he3; subst he3))
    go_ret2
    exact ⟨_, rfl, fun h => absurd h H0.out, fun _ => rfl, below_then B1 (below_then hb2 hb3)⟩
end Go.Proofs.YtjiijgdkdlelhaaGreatDoor

/- Make: what holds between two rounds. -/
namespace Go.Proofs.YtjiijgdkdlelhaaGreatDoor
open Go.Shelf Go.RowKit Go.Lib

def nameOf : Nat → ByteArray
  | 0 => ⟨#[65]⟩
  | 1 => ⟨#[66]⟩
  | 2 => ⟨#[67]⟩
  | 3 => ⟨#[68]⟩
  | 4 => ⟨#[35]⟩
  | 5 => ⟨#[98]⟩
  | _ => ⟨#[94]⟩
theorem names_cell (W : World) (i : Nat) (hi : i < 7) : (W.alloc (.cells #[.string ⟨#[65]⟩, .string ⟨#[66]⟩, .string ⟨#[67]⟩, .string ⟨#[68]⟩, .string ⟨#[35]⟩, .string ⟨#[98]⟩, .string ⟨#[94]⟩] 9)).cell? ⟨W.heap.size, i, none⟩ = some (.string (nameOf i)) := by
  rw [cell_of_row _ W.heap.size i _ 9 (0, 0) (heap_alloc_new W _)]
  match i, hi with
  | 0, _ => rfl
  | 1, _ => rfl
  | 2, _ => rfl
  | 3, _ => rfl
  | 4, _ => rfl
  | 5, _ => rfl
  | 6, _ => rfl

theorem setCell_far (w : World) (p a : Addr) (u : Value) (h : p.block ≠ a.block) : (w.setCell p u).cell? a = w.cell? a := World.cell?_setCell_other w p a u (fun e => h (by rw [e]))
/-- A row of numbers in a block from B on, other than g. -/
def RowFar (B : Nat) (w : World) (v : Value) (zs : List Int) (g : Option Nat) : Prop :=
  ∃ b off c, v = .slice (some ⟨b, off, none⟩) zs.length c ∧ some b ≠ g ∧ B ≤ b ∧ b < w.heap.size ∧ ∀ j, j < zs.length → w.cell? ⟨b, off + j, none⟩ = some (.int .i64 zs[j]!)
theorem RowFar.at {B : Nat} {w : World} {v : Value} {zs : List Int} {g : Option Nat} (h : RowFar B w v zs g) : RowAt w v zs := by
  obtain ⟨b, off, c, h1, _, _, h2, h3⟩ := h
  exact .inr ⟨b, off, c, h1, h2, h3⟩
theorem RowFar.mono {B : Nat} {w W : World} {v : Value} {zs : List Int} {g : Option Nat} (h : RowFar B w v zs g) (hb : Below w.heap.size w W) : RowFar B W v zs g := by
  obtain ⟨b, off, c, h1, h2, h5, h3, h4⟩ := h
  exact ⟨b, off, c, h1, h2, h5, Nat.lt_of_lt_of_le h3 hb.size, fun j hj => (hb.cell (p := ⟨b, off + j, none⟩) h3).trans (h4 j hj)⟩
theorem RowFar.grown {B : Nat} {w W : World} {v : Value} {zs : List Int} {g g' : Option Nat} (h : RowFar B w v zs g) (hg : w.grownBy W g) (e : g' = g ∨ g' = some w.heap.size) : RowFar B W v zs g' := by
  obtain ⟨b, off, c, h1, h2, h5, h3, h4⟩ := h
  refine ⟨b, off, c, h1, ?_, h5, Nat.lt_of_lt_of_le h3 hg.size, fun j hj => hg.cell (h4 j hj) h2⟩
  rcases e with rfl | rfl
  · exact h2
  · intro e; cases e; omega
theorem RowFar.other {B : Nat} {w W : World} {v : Value} {zs : List Int} {g k : Option Nat} (h : RowFar B w v zs g) (hk : RowFar B w v zs k) (hg : w.grownBy W k) : RowFar B W v zs g := by
  obtain ⟨b, off, c, h1, h2, h5, h3, h4⟩ := h
  obtain ⟨b', off', c', h1', h2', _, _, _⟩ := hk
  rw [h1] at h1'
  cases h1'
  exact ⟨b, off, c, h1, h2, h5, Nat.lt_of_lt_of_le h3 hg.size, fun j hj => hg.cell (h4 j hj) h2'⟩
theorem RowFar.set {B : Nat} {w : World} {v : Value} {zs : List Int} {g : Option Nat} (h : RowFar B w v zs g) {p : Addr} (hp : p.block < B) (u : Value) : RowFar B (w.setCell p u) v zs g := by
  obtain ⟨b, off, c, h1, h2, h5, h3, h4⟩ := h
  exact ⟨b, off, c, h1, h2, h5, by simpa [World.setCell] using h3, fun j hj => (setCell_far w p ⟨b, off + j, none⟩ u (by show p.block ≠ b; omega)).trans (h4 j hj)⟩

/-- The boxes: the plan's cells and the notation under way. -/
structure MC (W : World) (b1 b3 : Nat) (two : Bool) (pn pa : Int) (R : Nat → Nat → Int) (v1 v2 : Value) : Prop where
  l1 : b1 < W.heap.size
  l3 : b3 < W.heap.size
  c0 : W.cell? ⟨b1, 0, none⟩ = some (.bool two)
  c1 : W.cell? ⟨b1, 1, none⟩ = some (.int .u8 pn)
  c2 : W.cell? ⟨b1, 2, none⟩ = some (.int .u8 pa)
  d0 : W.cell? ⟨b3, 0, none⟩ = some v1
  d1 : W.cell? ⟨b3, 1, none⟩ = some v2
  f0 : W.frozen? ⟨b3, 0, none⟩ = false
  f1 : W.frozen? ⟨b3, 1, none⟩ = false
  r : ∀ i j, i < 7 → j < 2 → W.cell? ⟨b1, 3 + i * 2 + j, none⟩ = some (.int .i8 (R i j))
theorem MC.step {W W' : World} {b1 b3 : Nat} {two : Bool} {pn pa : Int} {R : Nat → Nat → Int} {v1 v2 : Value} (c : MC W b1 b3 two pn pa R v1 v2) (h : Below W.heap.size W W') : MC W' b1 b3 two pn pa R v1 v2 where
  l1 := Nat.lt_of_lt_of_le c.l1 h.size
  l3 := Nat.lt_of_lt_of_le c.l3 h.size
  c0 := (h.cell (p := ⟨b1, 0, none⟩) c.l1).trans c.c0
  c1 := (h.cell (p := ⟨b1, 1, none⟩) c.l1).trans c.c1
  c2 := (h.cell (p := ⟨b1, 2, none⟩) c.l1).trans c.c2
  d0 := (h.cell (p := ⟨b3, 0, none⟩) c.l3).trans c.d0
  d1 := (h.cell (p := ⟨b3, 1, none⟩) c.l3).trans c.d1
  f0 := (h.frozen (p := ⟨b3, 0, none⟩) c.l3).trans c.f0
  f1 := (h.frozen (p := ⟨b3, 1, none⟩) c.l3).trans c.f1
  r := fun i j hi hj => (h.cell (p := ⟨b1, 3 + i * 2 + j, none⟩) c.l1).trans (c.r i j hi hj)
theorem MC.grown {W W' : World} {B b1 b3 : Nat} {two : Bool} {pn pa : Int} {R : Nat → Nat → Int} {v1 v2 : Value} {g : Option Nat} (c : MC W b1 b3 two pn pa R v1 v2) (h : W.grownBy W' g) (hb1 : b1 < B) (hb3 : b3 < B) (hg : ∀ k, g = some k → B ≤ k) : MC W' b1 b3 two pn pa R v1 v2 :=
  have e1 : some b1 ≠ g := fun e => by have := hg b1 e.symm; omega
  have e3 : some b3 ≠ g := fun e => by have := hg b3 e.symm; omega
  have hfr : ∀ j, W'.frozen? ⟨b3, j, none⟩ = W.frozen? ⟨b3, j, none⟩ := fun j => World.frozen?_of_block (h.block b3 c.l3 e3)
  ⟨Nat.lt_of_lt_of_le c.l1 h.size, Nat.lt_of_lt_of_le c.l3 h.size, h.cell c.c0 e1, h.cell c.c1 e1, h.cell c.c2 e1, h.cell c.d0 e3, h.cell c.d1 e3, (hfr 0).trans c.f0, (hfr 1).trans c.f1, fun i j hi hj => h.cell (c.r i j hi hj) e1⟩
theorem MC.set0 {W : World} {b1 b3 : Nat} {two : Bool} {pn pa : Int} {R : Nat → Nat → Int} {v1 v2 : Value} (c : MC W b1 b3 two pn pa R v1 v2) (hne : b1 ≠ b3) (u : Value) : MC (W.setCell ⟨b3, 0, none⟩ u) b1 b3 two pn pa R u v2 :=
  have hs : (W.setCell ⟨b3, 0, none⟩ u).heap.size = W.heap.size := by simp [World.setCell]
  have far : ∀ j, (W.setCell ⟨b3, 0, none⟩ u).cell? ⟨b1, j, none⟩ = W.cell? ⟨b1, j, none⟩ := fun j => setCell_far W _ _ u (fun e => hne e.symm)
  ⟨by rw [hs]; exact c.l1, by rw [hs]; exact c.l3, (far 0).trans c.c0, (far 1).trans c.c1, (far 2).trans c.c2, World.cell?_setCell_same _ _ _ c.d0, (World.cell?_setCell_other _ _ _ _ (by simp)).trans c.d1, by simpa using c.f0, by simpa using c.f1, fun i j hi hj => (far _).trans (c.r i j hi hj)⟩
theorem MC.set1 {W : World} {b1 b3 : Nat} {two : Bool} {pn pa : Int} {R : Nat → Nat → Int} {v1 v2 : Value} (c : MC W b1 b3 two pn pa R v1 v2) (hne : b1 ≠ b3) (u : Value) : MC (W.setCell ⟨b3, 1, none⟩ u) b1 b3 two pn pa R v1 u :=
  have hs : (W.setCell ⟨b3, 1, none⟩ u).heap.size = W.heap.size := by simp [World.setCell]
  have far : ∀ j, (W.setCell ⟨b3, 1, none⟩ u).cell? ⟨b1, j, none⟩ = W.cell? ⟨b1, j, none⟩ := fun j => setCell_far W _ _ u (fun e => hne e.symm)
  ⟨by rw [hs]; exact c.l1, by rw [hs]; exact c.l3, (far 0).trans c.c0, (far 1).trans c.c1, (far 2).trans c.c2, (World.cell?_setCell_other _ _ _ _ (by simp)).trans c.d0, World.cell?_setCell_same _ _ _ c.d1, by simpa using c.f0, by simpa using c.f1, fun i j hi hj => (far _).trans (c.r i j hi hj)⟩

def symKey (x : Sym) : ByteArray × List Int := (x.name, x.els)
/-- Between two rounds: the first i rows have been laid. -/
structure MInv (W : World) (B b1 b3 nn na i : Nat) (K : Nat → ByteArray × List Int) (two : Bool) (pn pa : Int) (R : Nat → Nat → Int) (v1 v2 : Value) (L1 L2 : List Sym) : Prop where
  mc : MC W b1 b3 two pn pa R v1 v2
  hB1 : b1 < b3
  hB3 : b3 < B
  o1 : W.ownsRow B 35 2 v1 L1.length (symCells L1)
  o2 : W.ownsRow B 35 2 v2 L2.length (symCells L2)
  r1 : ∀ x ∈ L1, RowFar B W x.row x.els v1.ownBlock ∧ RowFar B W x.row x.els v2.ownBlock
  r2 : ∀ x ∈ L2, RowFar B W x.row x.els v2.ownBlock
  d : v1.ownBlock = none ∨ v1.ownBlock ≠ v2.ownBlock
  k1 : L1.map symKey = (List.range (min i nn)).map K
  k2 : L2.map symKey = (List.range (min (i - 4) na)).map fun j => K (4 + j)
  e : i ≤ 4 → v2 = .slice none 0 0
section
variable {W : World} {B b1 b3 nn na i : Nat} {K : Nat → ByteArray × List Int} {two : Bool} {pn pa : Int} {R : Nat → Nat → Int} {v1 v2 : Value} {L1 L2 : List Sym}
theorem MInv.step (h : MInv W B b1 b3 nn na i K two pn pa R v1 v2 L1 L2) {W' : World} (hb : Below W.heap.size W W') : MInv W' B b1 b3 nn na i K two pn pa R v1 v2 L1 L2 :=
  ⟨h.mc.step hb, h.hB1, h.hB3, owns_below h.o1 hb, owns_below h.o2 hb, fun x hx => ⟨(h.r1 x hx).1.mono hb, (h.r1 x hx).2.mono hb⟩, fun x hx => (h.r2 x hx).mono hb, h.d, h.k1, h.k2, h.e⟩
theorem MInv.idle (h : MInv W B b1 b3 nn na i K two pn pa R v1 v2 L1 L2) (h1 : ¬ i < nn) (h2 : ¬ (4 ≤ i ∧ i < 4 + na)) : MInv W B b1 b3 nn na (i + 1) K two pn pa R v1 v2 L1 L2 :=
  ⟨h.mc, h.hB1, h.hB3, h.o1, h.o2, h.r1, h.r2, h.d, by rw [h.k1, show min (i + 1) nn = min i nn by omega], by rw [h.k2, show min (i + 1 - 4) na = min (i - 4) na by omega], fun hi => h.e (by omega)⟩
theorem MInv.nom (h : MInv W B b1 b3 nn na i K two pn pa R v1 v2 L1 L2) (h1 : i < nn) (h4 : i < 4) {x : Sym} (hk : symKey x = K i) (hr : RowFar B W x.row x.els v1.ownBlock) {w5 : World} {v' : Value}
    (ho : w5.ownsRow B 35 2 v' (L1.length + 1) (symCells L1 ++ x.enc)) (hg : W.grownBy w5 v1.ownBlock) (hw : v'.ownBlock = v1.ownBlock ∨ v'.ownBlock = some W.heap.size) :
    MInv (w5.setCell ⟨b3, 0, none⟩ v') B b1 b3 nn na (i + 1) K two pn pa R v' v2 (L1 ++ [x]) L2 := by
  have h2 : v2 = .slice none 0 0 := h.e (by omega)
  subst h2
  have hL2 : L2 = [] := by
    have := h.k2
    rw [show min (i - 4) na = 0 by omega] at this
    simpa using this
  subst hL2
  have hgB : ∀ k, v1.ownBlock = some k → B ≤ k := fun k hk => (h.o1.lt k hk).1
  have hmc := h.mc.grown hg (Nat.lt_trans h.hB1 h.hB3) h.hB3 hgB
  have hx1 := hr.grown hg hw
  have hnone : (Value.slice none 0 0).ownBlock = none := rfl
  have far : ∀ {v : Value} {zs : List Int} {g : Option Nat}, RowFar B w5 v zs g → RowFar B w5 v zs none := fun ⟨b, o, c, e1, _, e3, e4, e5⟩ => ⟨b, o, c, e1, by simp, e3, e4, e5⟩
  refine ⟨hmc.set0 (Nat.ne_of_lt h.hB1) _, h.hB1, h.hB3, ?_, World.ownsRow_nil _ _ _ _, ?_, fun _ hx => (by cases hx), ?_, ?_, by rw [show min (i + 1 - 4) na = 0 by omega]; rfl, fun _ => rfl⟩
  · have := ownsRow_setCell_below (a := ⟨b3, 0, none⟩) ho h.hB3 v'
    rw [symCells_append, List.length_append]
    have e : symCells [x] = x.enc := by simp [symCells]
    rw [e]
    exact this
  · intro y hy
    rcases List.mem_append.1 hy with hy | hy
    · have := (h.r1 y hy).1.grown hg hw
      exact ⟨this.set (p := ⟨b3, 0, none⟩) h.hB3 _, (far this).set (p := ⟨b3, 0, none⟩) h.hB3 _⟩
    · rw [List.mem_singleton.1 hy]
      exact ⟨hx1.set (p := ⟨b3, 0, none⟩) h.hB3 _, (far hx1).set (p := ⟨b3, 0, none⟩) h.hB3 _⟩
  · cases hv : v'.ownBlock with
    | none => exact .inl rfl
    | some k => exact .inr (by rw [hnone]; simp)
  · rw [List.map_append, h.k1, show min (i + 1) nn = min i nn + 1 by omega, List.range_succ, List.map_append, show min i nn = i by omega]
    simp [hk]
theorem MInv.acc (h : MInv W B b1 b3 nn na i K two pn pa R v1 v2 L1 L2) (hn : nn ≤ 4) (h1 : i < 4 + na) (h4 : 4 ≤ i) {x : Sym} (hk : symKey x = K i) (hr : RowFar B W x.row x.els v2.ownBlock) {w5 : World} {v' : Value}
    (ho : w5.ownsRow B 35 2 v' (L2.length + 1) (symCells L2 ++ x.enc)) (hg : W.grownBy w5 v2.ownBlock) (hw : v'.ownBlock = v2.ownBlock ∨ v'.ownBlock = some W.heap.size) :
    MInv (w5.setCell ⟨b3, 1, none⟩ v') B b1 b3 nn na (i + 1) K two pn pa R v1 v' L1 (L2 ++ [x]) := by
  have hgB : ∀ k, v2.ownBlock = some k → B ≤ k := fun k hk => (h.o2.lt k hk).1
  have hmc := h.mc.grown hg (Nat.lt_trans h.hB1 h.hB3) h.hB3 hgB
  have hx1 := hr.grown hg hw
  have ho1 : w5.ownsRow B 35 2 v1 L1.length (symCells L1) := h.o1.kept hg h.d
  refine ⟨hmc.set1 (Nat.ne_of_lt h.hB1) _, h.hB1, h.hB3, ownsRow_setCell_below (a := ⟨b3, 1, none⟩) ho1 h.hB3 _, ?_, ?_, ?_, ?_, by rw [h.k1, show min (i + 1) nn = min i nn by omega], ?_, fun hi => by omega⟩
  · have := ownsRow_setCell_below (a := ⟨b3, 1, none⟩) ho h.hB3 v'
    rw [symCells_append, List.length_append]
    have e : symCells [x] = x.enc := by simp [symCells]
    rw [e]
    exact this
  · intro y hy
    obtain ⟨y1, y2⟩ := h.r1 y hy
    exact ⟨(y1.other y2 hg).set (p := ⟨b3, 1, none⟩) h.hB3 _, (y2.grown hg hw).set (p := ⟨b3, 1, none⟩) h.hB3 _⟩
  · intro y hy
    rcases List.mem_append.1 hy with hy | hy
    · exact ((h.r2 y hy).grown hg hw).set (p := ⟨b3, 1, none⟩) h.hB3 _
    · rw [List.mem_singleton.1 hy]
      exact hx1.set (p := ⟨b3, 1, none⟩) h.hB3 _
  · rcases h.d with hd | hd
    · exact .inl hd
    · rcases hw with hw | hw
      · rw [hw]; exact .inr hd
      · rw [hw]
        refine .inr fun e => ?_
        have := (h.o1.lt _ e).2
        omega
  · rw [List.map_append, h.k2, show min (i + 1 - 4) na = min (i - 4) na + 1 by omega, List.range_succ, List.map_append, show min (i - 4) na = i - 4 by omega]
    simp [hk, show 4 + (i - 4) = i by omega]
end
end Go.Proofs.YtjiijgdkdlelhaaGreatDoor

/- Make: the walk. -/
namespace Go.Proofs.YtjiijgdkdlelhaaGreatDoor
open Go.Shelf Go.RowKit Go.Lib

theorem one_int {x : Int} : ∀ u ∈ [Value.int .i64 x], u.oneCell' = true := by
  intro u hu; simp at hu; subst hu; rfl
theorem one_sym {s : ByteArray} {p : Option Addr} {n c : Nat} : ∀ u ∈ [Value.string s, Value.slice p n c], u.oneCell' = true := by
  intro u hu
  simp at hu
  rcases hu with rfl | rfl <;> rfl
theorem cells_two_new (w : World) (x y : Value) (t : TypeId) : ∀ j u, [x, y][j]? = some u → (w.alloc (.cells #[x, y] t)).cell? ((⟨w.heap.size, 0, none⟩ : Addr).add j) = some u := by
  intro j u hj
  rw [Addr.add_lit]
  match j, hj with
  | 0, hj => cases hj; exact (cell_two w x y t).1
  | 1, hj => cases hj; exact (cell_two w x y t).2
theorem owns_slice {w : World} {base : Nat} {e : TypeId} {size : Nat} {v : Value} {n : Nat} {xs : List Value} (h : w.ownsRow base e size v n xs) : ∃ p c, v = .slice p n c := by
  rcases h.2 with ⟨rfl, rfl⟩ | ⟨g, cap, cur, rfl, _⟩
  · exact ⟨none, 0, rfl⟩
  · exact ⟨_, _, rfl⟩
theorem owns_one (w : World) (x : Value) : (w.alloc (.cells #[x] 3)).ownsRow w.heap.size 3 1 (.slice (some ⟨w.heap.size, 0, none⟩) 1 1) 1 [x] :=
  ⟨rfl, .inr ⟨w.heap.size, 1, #[x], rfl, Nat.le_refl _, heap_alloc_new w _, Nat.le_refl _, by unfold maxLen; omega, rfl, rfl⟩⟩

theorem fresh_two {W wx : World} {B b1 b3 nn na i : Nat} {K : Nat → ByteArray × List Int} {two : Bool} {pn pa : Int} {R : Nat → Nat → Int} {v1 v2 : Value} {L1 L2 : List Sym} (h : MInv W B b1 b3 nn na i K two pn pa R v1 v2 L1 L2) (hB : B ≤ W.heap.size) {x y : Int} {g c : Nat} (hg : W.heap.size ≤ g) (hl : g < wx.heap.size)
    (ho : wx.ownsRow W.heap.size 3 1 (.slice (some ⟨g, 0, none⟩) (1 + 1) c) (1 + 1) ([.int .i64 x] ++ [.int .i64 y])) :
    RowFar B wx (.slice (some ⟨g, 0, none⟩) (1 + 1) c) [x, y] v1.ownBlock ∧ RowFar B wx (.slice (some ⟨g, 0, none⟩) (1 + 1) c) [x, y] v2.ownBlock := by
  have hc : ∀ j, j < [x, y].length → wx.cell? ⟨g, 0 + j, none⟩ = some (.int .i64 [x, y][j]!) := fun j hj => by
    have h2 : j < 2 := by simpa using hj
    have := ho.cells (g := g) rfl j (.int .i64 [x, y][j]!) (by match j, h2 with | 0, _ => rfl | 1, _ => rfl)
    rw [Addr.add_lit] at this
    exact this
  exact ⟨⟨g, 0, c, rfl, fun e => by have := (h.o1.lt _ e.symm).2; omega, Nat.le_trans hB hg, hl, hc⟩, ⟨g, 0, c, rfl, fun e => by have := (h.o2.lt _ e.symm).2; omega, Nat.le_trans hB hg, hl, hc⟩⟩
theorem fresh_row {W : World} {B b1 b3 nn na i : Nat} {K : Nat → ByteArray × List Int} {two : Bool} {pn pa : Int} {R : Nat → Nat → Int} {v1 v2 : Value} {L1 L2 : List Sym} (h : MInv W B b1 b3 nn na i K two pn pa R v1 v2 L1 L2) (hB : B ≤ W.heap.size) (x : Int) :
    RowFar B (W.alloc (.cells #[.int .i64 x] 3)) (.slice (some ⟨W.heap.size, 0, none⟩) 1 1) [x] v1.ownBlock ∧ RowFar B (W.alloc (.cells #[.int .i64 x] 3)) (.slice (some ⟨W.heap.size, 0, none⟩) 1 1) [x] v2.ownBlock := by
  have hc : ∀ j, j < [x].length → (W.alloc (.cells #[.int .i64 x] 3)).cell? ⟨W.heap.size, 0 + j, none⟩ = some (.int .i64 [x][j]!) := fun j hj => by
    have : j = 0 := by simpa using hj
    subst this
    exact cell_of_row _ _ 0 _ 3 (0, 0) (heap_alloc_new W _)
  exact ⟨⟨W.heap.size, 0, 1, rfl, fun e => Nat.lt_irrefl _ (h.o1.lt _ e.symm).2, hB, by simp, hc⟩, ⟨W.heap.size, 0, 1, rfl, fun e => Nat.lt_irrefl _ (h.o2.lt _ e.symm).2, hB, by simp, hc⟩⟩

def rowOf (two : Bool) (R : Nat → Nat → Int) (i : Nat) : List Int := if two then [(R i 0).tmod 8, (R i 1).tmod 8] else [(R i 0).tmod 8]
def planKey (two : Bool) (R : Nat → Nat → Int) (i : Nat) : ByteArray × List Int := (nameOf i, rowOf two R i)

theorem Tryz.size30 : (Tryz.prog.info? 30).map (·.size) = some 2 := by kernel_rfl
set_option maxRecDepth 20000 in
set_option maxHeartbeats 8000000 in
theorem make_calls {w : World} {A : Array Value} {two : Bool} {pn pa : Int} {R : Nat → Nat → Int} {tn ta : Nat} (h0 : A[0]? = some (.bool two)) (h1 : A[1]? = some (.int .u8 pn)) (h2 : A[2]? = some (.int .u8 pa)) (hR : ∀ i j, i < 7 → j < 2 → A[3 + i * 2 + j]? = some (.int .i8 (R i j)) ∧ -128 ≤ R i j ∧ R i j ≤ 127)
    (htn : pn.tmod 4 = (tn : Int)) (htn4 : tn < 4) (hta : pa.tmod 4 = (ta : Int)) (hta4 : ta < 4) :
    Calls Tryz.prog 12 #[.agg A] w fun e w' => ∃ p1 q1 p2 q2, e = .returned (.agg #[.slice p1 (1 + tn) q1, .slice p2 ta q2]) ∧ Aside (∃ L1, SymsAt w' (.slice p1 (1 + tn) q1) L1 ∧ L1.map symKey = (List.range (1 + tn)).map (planKey two R)) ∧
      Aside (∃ L2, SymsAt w' (.slice p2 ta q2) L2 ∧ L2.map symKey = (List.range ta).map (fun j => planKey two R (4 + j))) ∧ Below w.heap.size w w' := by
  have hB1 := below_alloc w (.cells A 26)
  have hB2 := below_alloc (w.alloc (.cells A 26)) (.cells #[.slice none 0 0, .slice none 0 0] 30)
  have hB3 := below_alloc ((w.alloc (.cells A 26)).alloc (.cells #[.slice none 0 0, .slice none 0 0] 30)) (.cells #[.slice none 0 0, .slice none 0 0] 30)
  have hA0 : (w.alloc (.cells A 26)).heap[w.heap.size]? = some (.cells A 26 (0, 0)) := heap_alloc_new w _
  have hW0b : (((w.alloc (.cells A 26)).alloc (.cells #[.slice none 0 0, .slice none 0 0] 30)).alloc (.cells #[.slice none 0 0, .slice none 0 0] 30)).heap[w.heap.size]? = some (.cells A 26 (0, 0)) := by
    rw [hB3.block _ (by simp; omega), hB2.block _ (by simp)]; exact hA0
  have hW1b : (((w.alloc (.cells A 26)).alloc (.cells #[.slice none 0 0, .slice none 0 0] 30)).alloc (.cells #[.slice none 0 0, .slice none 0 0] 30)).heap[w.heap.size + 1]? = some (.cells #[.slice none 0 0, .slice none 0 0] 30 (0, 0)) := by
    rw [hB3.block _ (by simp)]; exact heap_alloc2_new w _ _
  have hW2b : (((w.alloc (.cells A 26)).alloc (.cells #[.slice none 0 0, .slice none 0 0] 30)).alloc (.cells #[.slice none 0 0, .slice none 0 0] 30)).heap[w.heap.size + 1 + 1]? = some (.cells #[.slice none 0 0, .slice none 0 0] 30 (0, 0)) := by
    have := heap_alloc_new ((w.alloc (.cells A 26)).alloc (.cells #[.slice none 0 0, .slice none 0 0] 30)) (.cells #[.slice none 0 0, .slice none 0 0] 30)
    simpa using this
  have hBB := below_then hB1 (below_then hB2 hB3)
  have hsz : (((w.alloc (.cells A 26)).alloc (.cells #[.slice none 0 0, .slice none 0 0] 30)).alloc (.cells #[.slice none 0 0, .slice none 0 0] 30)).heap.size = w.heap.size + 3 := by simp
  obtain ⟨W0, hW0⟩ : ∃ W0, ((w.alloc (.cells A 26)).alloc (.cells #[.slice none 0 0, .slice none 0 0] 30)).alloc (.cells #[.slice none 0 0, .slice none 0 0] 30) = W0 := ⟨_, rfl⟩
  rw [hW0] at hBB hsz hW0b hW1b hW2b
  have hst : MInv W0 W0.heap.size w.heap.size (w.heap.size + 1 + 1) (1 + tn) ta 0 (planKey two R) two pn pa R (.slice none 0 0) (.slice none 0 0) [] [] :=
    ⟨⟨by omega, by omega, by rw [cell_of_row _ _ _ _ _ _ hW0b]; exact h0, by rw [cell_of_row _ _ _ _ _ _ hW0b]; exact h1, by rw [cell_of_row _ _ _ _ _ _ hW0b]; exact h2, cell_of_row _ _ _ _ _ _ hW2b, cell_of_row _ _ _ _ _ _ hW2b, frozen_of_row _ _ _ _ _ hW2b, frozen_of_row _ _ _ _ _ hW2b, fun i j hi hj => by rw [cell_of_row _ _ _ _ _ _ hW0b]; exact (hR i j hi hj).1⟩,
      by omega, by omega, World.ownsRow_nil _ _ _ _, World.ownsRow_nil _ _ _ _, fun _ h => (by cases h), fun _ h => (by cases h), .inl rfl, by simp, by simp, fun _ => rfl⟩
  have HST := aside hst
  have HBB := aside hBB
  have HSZ := aside hsz
  have HT2 := aside hW1b
  have HRB := aside fun i j hi hj => (hR i j hi hj).2
  have HW0 := aside hW0
  clear hB1 hB2 hB3 hA0 hW0b hW1b hW2b hBB hsz hst hR hW0 h0 h1 h2
  go_enter Tryz.func12, Tryz.ntmps12
  go_wp2
  go_loopg [4, 5, 6, 7] 7 (fun gg _ _ _ s7 wr => ∃ i : Nat, i ≤ 7 ∧ 7 - i ≤ gg ∧ s7 = .int .i64 i ∧ Aside (Below (w.heap.size + 2) W0 wr) ∧ Aside (∃ v1 v2 L1 L2, MInv wr W0.heap.size w.heap.size (w.heap.size + 1 + 1) (1 + tn) ta i (planKey two R) two pn pa R v1 v2 L1 L2))
  case atStart => exact ⟨0, Nat.zero_le _, by omega, rfl, (by rw [HW0.out]; exact Below.refl _ _), ⟨_, _, _, _, by rw [HW0.out]; exact HST.out⟩⟩
  case round =>
    obtain ⟨i, hi, hg, rfl, BW, hM⟩ := hrel
    obtain ⟨v1, v2, L1, L2, hM⟩ := hM.out
    by_cases hlt : i < 7
    · have hltz : (i : Int) < 7 := by omega
      have hB : W0.heap.size ≤ wr.heap.size := by
        have h1 := hM.mc.l3
        have h2 := HSZ.out
        omega
      have hlen1 : L1.length ≤ 7 := by
        have := congrArg List.length hM.k1
        simp at this
        omega
      have hlen2 : L2.length ≤ 7 := by
        have := congrArg List.length hM.k2
        simp at this
        omega
      obtain ⟨ra, rb⟩ := HRB.out i 0 hlt (by omega)
      obtain ⟨sa, sb⟩ := HRB.out i 1 hlt (by omega)
      have ra' : -9223372036854775808 ≤ R i 0 := by omega
      have rb' : R i 0 ≤ 9223372036854775807 := by omega
      have sa' : -9223372036854775808 ≤ R i 1 := by omega
      have sb' : R i 1 ≤ 9223372036854775807 := by omega
      have l0 := hM.mc.r i 0 hlt (by omega)
      have l0' : wr.cell? ⟨w.heap.size, 3 + i * 2, none⟩ = some (.int .i8 (R i 0)) := l0
      have HM := aside hM
      clear ra rb sa sb l0 hM
      cases two with
      | false =>
        have mX := aside (HM.out.step (below_alloc wr (.cells #[.int .i64 ((R i 0).tmod 8)] 3)))
        have t1 := mX.out.mc.c0
        have hx := aside (fresh_row HM.out hB ((R i 0).tmod 8))
        have BX := aside (BW.out.trans ((below_alloc wr (.cells #[.int .i64 ((R i 0).tmod 8)] 3)).mono (by have := HSZ.out; omega)))
        have hBx := aside (show W0.heap.size ≤ (wr.alloc (.cells #[.int .i64 ((R i 0).tmod 8)] 3)).heap.size by simp; omega)
        by_cases hq4 : i < 4
        · by_cases hqn : i < 1 + tn
          · have nm := names_cell (wr.alloc (.cells #[.int .i64 ((R i 0).tmod 8)] 3)) i hlt
            have eS : (wr.alloc (.cells #[.int .i64 ((R i 0).tmod 8)] 3)).heap.size = wr.heap.size + 1 := (by simp)
            have eS2 : ((wr.alloc (.cells #[.int .i64 ((R i 0).tmod 8)] 3)).alloc (.cells #[.string ⟨#[65]⟩, .string ⟨#[66]⟩, .string ⟨#[67]⟩, .string ⟨#[68]⟩, .string ⟨#[35]⟩, .string ⟨#[98]⟩, .string ⟨#[94]⟩] 9)).heap.size = wr.heap.size + 1 + 1 := (by simp)
            have eS3 : (((wr.alloc (.cells #[.int .i64 ((R i 0).tmod 8)] 3)).alloc (.cells #[.string ⟨#[65]⟩, .string ⟨#[66]⟩, .string ⟨#[67]⟩, .string ⟨#[68]⟩, .string ⟨#[35]⟩, .string ⟨#[98]⟩, .string ⟨#[94]⟩] 9)).alloc (.cells #[.string (nameOf i), .slice (some ⟨wr.heap.size, 0, none⟩) 1 1] 35)).heap.size = wr.heap.size + 1 + 1 + 1 := (by simp)
            rw [eS] at nm
            have m2 := mX.out.step (below_alloc (wr.alloc (.cells #[.int .i64 ((R i 0).tmod 8)] 3)) (.cells #[.string ⟨#[65]⟩, .string ⟨#[66]⟩, .string ⟨#[67]⟩, .string ⟨#[68]⟩, .string ⟨#[35]⟩, .string ⟨#[98]⟩, .string ⟨#[94]⟩] 9))
            have m3 := m2.step (below_alloc ((wr.alloc (.cells #[.int .i64 ((R i 0).tmod 8)] 3)).alloc (.cells #[.string ⟨#[65]⟩, .string ⟨#[66]⟩, .string ⟨#[67]⟩, .string ⟨#[68]⟩, .string ⟨#[35]⟩, .string ⟨#[98]⟩, .string ⟨#[94]⟩] 9)) (.cells #[.string (nameOf i), .slice (some ⟨wr.heap.size, 0, none⟩) 1 1] 35))
            have p1 := m3.mc.c1
            have p2 := m3.mc.c2
            have d0 := m3.mc.d0
            have d1 := m3.mc.d1
            have xc := cell_two ((wr.alloc (.cells #[.int .i64 ((R i 0).tmod 8)] 3)).alloc (.cells #[.string ⟨#[65]⟩, .string ⟨#[66]⟩, .string ⟨#[67]⟩, .string ⟨#[68]⟩, .string ⟨#[35]⟩, .string ⟨#[98]⟩, .string ⟨#[94]⟩] 9)) (.string (nameOf i)) (.slice (some ⟨wr.heap.size, 0, none⟩) 1 1) 35
            rw [eS2] at xc
            obtain ⟨xc0, xc1⟩ := xc
            have M3 := aside m3
            have M4 := aside (m3.step (below_alloc (((wr.alloc (.cells #[.int .i64 ((R i 0).tmod 8)] 3)).alloc (.cells #[.string ⟨#[65]⟩, .string ⟨#[66]⟩, .string ⟨#[67]⟩, .string ⟨#[68]⟩, .string ⟨#[35]⟩, .string ⟨#[98]⟩, .string ⟨#[94]⟩] 9)).alloc (.cells #[.string (nameOf i), .slice (some ⟨wr.heap.size, 0, none⟩) 1 1] 35)) (.cells #[.string (nameOf i), .slice (some ⟨wr.heap.size, 0, none⟩) 1 1] 35)))
            have B2 := aside (below_then (below_alloc (wr.alloc (.cells #[.int .i64 ((R i 0).tmod 8)] 3)) (.cells #[.string ⟨#[65]⟩, .string ⟨#[66]⟩, .string ⟨#[67]⟩, .string ⟨#[68]⟩, .string ⟨#[35]⟩, .string ⟨#[98]⟩, .string ⟨#[94]⟩] 9)) (below_alloc ((wr.alloc (.cells #[.int .i64 ((R i 0).tmod 8)] 3)).alloc (.cells #[.string ⟨#[65]⟩, .string ⟨#[66]⟩, .string ⟨#[67]⟩, .string ⟨#[68]⟩, .string ⟨#[35]⟩, .string ⟨#[98]⟩, .string ⟨#[94]⟩] 9)) (.cells #[.string (nameOf i), .slice (some ⟨wr.heap.size, 0, none⟩) 1 1] 35)))
            have B3 := aside (below_alloc (((wr.alloc (.cells #[.int .i64 ((R i 0).tmod 8)] 3)).alloc (.cells #[.string ⟨#[65]⟩, .string ⟨#[66]⟩, .string ⟨#[67]⟩, .string ⟨#[68]⟩, .string ⟨#[35]⟩, .string ⟨#[98]⟩, .string ⟨#[94]⟩] 9)).alloc (.cells #[.string (nameOf i), .slice (some ⟨wr.heap.size, 0, none⟩) 1 1] 35)) (.cells #[.string (nameOf i), .slice (some ⟨wr.heap.size, 0, none⟩) 1 1] 35))
            have ES3 := aside eS3
            have HZ := aside (show W0.heap.size ≤ ((((wr.alloc (.cells #[.int .i64 ((R i 0).tmod 8)] 3)).alloc (.cells #[.string ⟨#[65]⟩, .string ⟨#[66]⟩, .string ⟨#[67]⟩, .string ⟨#[68]⟩, .string ⟨#[35]⟩, .string ⟨#[98]⟩, .string ⟨#[94]⟩] 9)).alloc (.cells #[.string (nameOf i), .slice (some ⟨wr.heap.size, 0, none⟩) 1 1] 35)).alloc (.cells #[.string (nameOf i), .slice (some ⟨wr.heap.size, 0, none⟩) 1 1] 35)).heap.size by have := hBx.out; simp; omega)
            clear m2 m3 eS eS2 eS3
            have hi4 : (i : Int) < 4 := by omega
            have hcn : (i : Int) < 1 + (tn : Int) := by omega
            go_wp2_with (at_builtin; obtain ⟨i0, hi', hz0, hz1, hz2⟩ := info_parts Tryz.info35; refine wpList_append_at _ rfl _ _ 28 rfl W0.heap.size 35 i0 _ 2 40 Tryz.underlying28 hi' hz0 hz1 hz2 rfl (by decide) v1 L1.length _ rfl M4.out.o1 ⟨(((wr.alloc (.cells #[.int .i64 ((R i 0).tmod 8)] 3)).alloc (.cells #[.string ⟨#[65]⟩, .string ⟨#[66]⟩, .string ⟨#[67]⟩, .string ⟨#[68]⟩, .string ⟨#[35]⟩, .string ⟨#[98]⟩, .string ⟨#[94]⟩] 9)).alloc (.cells #[.string (nameOf i), .slice (some ⟨wr.heap.size, 0, none⟩) 1 1] 35)).heap.size, 0, none⟩ 1 1 [.string (nameOf i), .slice (some ⟨wr.heap.size, 0, none⟩) 1 1] (by rw [ES3.out]; rfl) rfl (cells_two_new (((wr.alloc (.cells #[.int .i64 ((R i 0).tmod 8)] 3)).alloc (.cells #[.string ⟨#[65]⟩, .string ⟨#[66]⟩, .string ⟨#[67]⟩, .string ⟨#[68]⟩, .string ⟨#[35]⟩, .string ⟨#[98]⟩, .string ⟨#[94]⟩] 9)).alloc (.cells #[.string (nameOf i), .slice (some ⟨wr.heap.size, 0, none⟩) 1 1] 35)) _ _ _) one_sym (by unfold maxLen; omega) (by omega) HZ.out ?_; intro v' w5 hown' hgrow hblk; obtain ⟨g, cap, hv', hgB, _⟩ := owns_shape hown' (Nat.succ_pos _); subst hv'; have mc5 := M4.out.mc.grown hgrow (Nat.lt_trans M4.out.hB1 M4.out.hB3) M4.out.hB3 (fun k hk => (M4.out.o1.lt k hk).1); have mc6 := mc5.set0 (Nat.ne_of_lt M4.out.hB1) (.slice (some ⟨g, 0, none⟩) (L1.length + 1) cap); have u0 := mc5.d0; have u1 := mc5.f0; have u2 := mc6.c2; clear hi' hz0 hz1 hz2)
            go_roundg (7 - (i + 1))
            case measure => omega
            case rel =>
              have hW4 : Below (w.heap.size + 2) W0 ((((wr.alloc (.cells #[.int .i64 ((R i 0).tmod 8)] 3)).alloc (.cells #[.string ⟨#[65]⟩, .string ⟨#[66]⟩, .string ⟨#[67]⟩, .string ⟨#[68]⟩, .string ⟨#[35]⟩, .string ⟨#[98]⟩, .string ⟨#[94]⟩] 9)).alloc (.cells #[.string (nameOf i), .slice (some ⟨wr.heap.size, 0, none⟩) 1 1] 35)).alloc (.cells #[.string (nameOf i), .slice (some ⟨wr.heap.size, 0, none⟩) 1 1] 35)) := BX.out.trans ((below_then B2.out B3.out).mono (by have := hBx.out; have := HSZ.out; omega))
              exact ⟨i + 1, by omega, by omega, by go_num, (show Aside _ from (hW4.grown hgrow (by have := HZ.out; have := HSZ.out; omega) (fun k hk => by have := (M4.out.o1.lt k hk).1; have := HSZ.out; omega)).setCell (p := ⟨w.heap.size + 1 + 1, 0, none⟩) (by show w.heap.size + 2 ≤ w.heap.size + 1 + 1; omega) _), (show Aside _ from ⟨_, _, _, _, M4.out.nom (by omega) (by omega) (x := ⟨nameOf i, .slice (some ⟨wr.heap.size, 0, none⟩) 1 1, [(R i 0).tmod 8]⟩) rfl ((hx.out.1.mono B2.out).mono B3.out) hown' hgrow hblk⟩)⟩
          · have nm := names_cell (wr.alloc (.cells #[.int .i64 ((R i 0).tmod 8)] 3)) i hlt
            have eS : (wr.alloc (.cells #[.int .i64 ((R i 0).tmod 8)] 3)).heap.size = wr.heap.size + 1 := (by simp)
            have eS2 : ((wr.alloc (.cells #[.int .i64 ((R i 0).tmod 8)] 3)).alloc (.cells #[.string ⟨#[65]⟩, .string ⟨#[66]⟩, .string ⟨#[67]⟩, .string ⟨#[68]⟩, .string ⟨#[35]⟩, .string ⟨#[98]⟩, .string ⟨#[94]⟩] 9)).heap.size = wr.heap.size + 1 + 1 := (by simp)
            have eS3 : (((wr.alloc (.cells #[.int .i64 ((R i 0).tmod 8)] 3)).alloc (.cells #[.string ⟨#[65]⟩, .string ⟨#[66]⟩, .string ⟨#[67]⟩, .string ⟨#[68]⟩, .string ⟨#[35]⟩, .string ⟨#[98]⟩, .string ⟨#[94]⟩] 9)).alloc (.cells #[.string (nameOf i), .slice (some ⟨wr.heap.size, 0, none⟩) 1 1] 35)).heap.size = wr.heap.size + 1 + 1 + 1 := (by simp)
            rw [eS] at nm
            have m2 := mX.out.step (below_alloc (wr.alloc (.cells #[.int .i64 ((R i 0).tmod 8)] 3)) (.cells #[.string ⟨#[65]⟩, .string ⟨#[66]⟩, .string ⟨#[67]⟩, .string ⟨#[68]⟩, .string ⟨#[35]⟩, .string ⟨#[98]⟩, .string ⟨#[94]⟩] 9))
            have m3 := m2.step (below_alloc ((wr.alloc (.cells #[.int .i64 ((R i 0).tmod 8)] 3)).alloc (.cells #[.string ⟨#[65]⟩, .string ⟨#[66]⟩, .string ⟨#[67]⟩, .string ⟨#[68]⟩, .string ⟨#[35]⟩, .string ⟨#[98]⟩, .string ⟨#[94]⟩] 9)) (.cells #[.string (nameOf i), .slice (some ⟨wr.heap.size, 0, none⟩) 1 1] 35))
            have p1 := m3.mc.c1
            have p2 := m3.mc.c2
            have d0 := m3.mc.d0
            have d1 := m3.mc.d1
            have xc := cell_two ((wr.alloc (.cells #[.int .i64 ((R i 0).tmod 8)] 3)).alloc (.cells #[.string ⟨#[65]⟩, .string ⟨#[66]⟩, .string ⟨#[67]⟩, .string ⟨#[68]⟩, .string ⟨#[35]⟩, .string ⟨#[98]⟩, .string ⟨#[94]⟩] 9)) (.string (nameOf i)) (.slice (some ⟨wr.heap.size, 0, none⟩) 1 1) 35
            rw [eS2] at xc
            obtain ⟨xc0, xc1⟩ := xc
            have M3 := aside m3
            have M4 := aside (m3.step (below_alloc (((wr.alloc (.cells #[.int .i64 ((R i 0).tmod 8)] 3)).alloc (.cells #[.string ⟨#[65]⟩, .string ⟨#[66]⟩, .string ⟨#[67]⟩, .string ⟨#[68]⟩, .string ⟨#[35]⟩, .string ⟨#[98]⟩, .string ⟨#[94]⟩] 9)).alloc (.cells #[.string (nameOf i), .slice (some ⟨wr.heap.size, 0, none⟩) 1 1] 35)) (.cells #[.string (nameOf i), .slice (some ⟨wr.heap.size, 0, none⟩) 1 1] 35)))
            have B2 := aside (below_then (below_alloc (wr.alloc (.cells #[.int .i64 ((R i 0).tmod 8)] 3)) (.cells #[.string ⟨#[65]⟩, .string ⟨#[66]⟩, .string ⟨#[67]⟩, .string ⟨#[68]⟩, .string ⟨#[35]⟩, .string ⟨#[98]⟩, .string ⟨#[94]⟩] 9)) (below_alloc ((wr.alloc (.cells #[.int .i64 ((R i 0).tmod 8)] 3)).alloc (.cells #[.string ⟨#[65]⟩, .string ⟨#[66]⟩, .string ⟨#[67]⟩, .string ⟨#[68]⟩, .string ⟨#[35]⟩, .string ⟨#[98]⟩, .string ⟨#[94]⟩] 9)) (.cells #[.string (nameOf i), .slice (some ⟨wr.heap.size, 0, none⟩) 1 1] 35)))
            have B3 := aside (below_alloc (((wr.alloc (.cells #[.int .i64 ((R i 0).tmod 8)] 3)).alloc (.cells #[.string ⟨#[65]⟩, .string ⟨#[66]⟩, .string ⟨#[67]⟩, .string ⟨#[68]⟩, .string ⟨#[35]⟩, .string ⟨#[98]⟩, .string ⟨#[94]⟩] 9)).alloc (.cells #[.string (nameOf i), .slice (some ⟨wr.heap.size, 0, none⟩) 1 1] 35)) (.cells #[.string (nameOf i), .slice (some ⟨wr.heap.size, 0, none⟩) 1 1] 35))
            have ES3 := aside eS3
            have HZ := aside (show W0.heap.size ≤ ((((wr.alloc (.cells #[.int .i64 ((R i 0).tmod 8)] 3)).alloc (.cells #[.string ⟨#[65]⟩, .string ⟨#[66]⟩, .string ⟨#[67]⟩, .string ⟨#[68]⟩, .string ⟨#[35]⟩, .string ⟨#[98]⟩, .string ⟨#[94]⟩] 9)).alloc (.cells #[.string (nameOf i), .slice (some ⟨wr.heap.size, 0, none⟩) 1 1] 35)).alloc (.cells #[.string (nameOf i), .slice (some ⟨wr.heap.size, 0, none⟩) 1 1] 35)).heap.size by have := hBx.out; simp; omega)
            clear m2 m3 eS eS2 eS3
            have hi4 : (i : Int) < 4 := by omega
            have hcn : ¬ (i : Int) < 1 + (tn : Int) := by omega
            go_wp2
            go_roundg (7 - (i + 1))
            case measure => omega
            case rel =>
              exact ⟨i + 1, by omega, by omega, by go_num, (show Aside _ from BX.out.trans (B2.out.mono (by have := hBx.out; have := HSZ.out; omega))), (show Aside _ from ⟨_, _, _, _, M3.out.idle (by omega) (by omega)⟩)⟩
        · by_cases hqa : i < 4 + ta
          · have nm := names_cell (wr.alloc (.cells #[.int .i64 ((R i 0).tmod 8)] 3)) i hlt
            have eS : (wr.alloc (.cells #[.int .i64 ((R i 0).tmod 8)] 3)).heap.size = wr.heap.size + 1 := (by simp)
            have eS2 : ((wr.alloc (.cells #[.int .i64 ((R i 0).tmod 8)] 3)).alloc (.cells #[.string ⟨#[65]⟩, .string ⟨#[66]⟩, .string ⟨#[67]⟩, .string ⟨#[68]⟩, .string ⟨#[35]⟩, .string ⟨#[98]⟩, .string ⟨#[94]⟩] 9)).heap.size = wr.heap.size + 1 + 1 := (by simp)
            have eS3 : (((wr.alloc (.cells #[.int .i64 ((R i 0).tmod 8)] 3)).alloc (.cells #[.string ⟨#[65]⟩, .string ⟨#[66]⟩, .string ⟨#[67]⟩, .string ⟨#[68]⟩, .string ⟨#[35]⟩, .string ⟨#[98]⟩, .string ⟨#[94]⟩] 9)).alloc (.cells #[.string (nameOf i), .slice (some ⟨wr.heap.size, 0, none⟩) 1 1] 35)).heap.size = wr.heap.size + 1 + 1 + 1 := (by simp)
            rw [eS] at nm
            have m2 := mX.out.step (below_alloc (wr.alloc (.cells #[.int .i64 ((R i 0).tmod 8)] 3)) (.cells #[.string ⟨#[65]⟩, .string ⟨#[66]⟩, .string ⟨#[67]⟩, .string ⟨#[68]⟩, .string ⟨#[35]⟩, .string ⟨#[98]⟩, .string ⟨#[94]⟩] 9))
            have m3 := m2.step (below_alloc ((wr.alloc (.cells #[.int .i64 ((R i 0).tmod 8)] 3)).alloc (.cells #[.string ⟨#[65]⟩, .string ⟨#[66]⟩, .string ⟨#[67]⟩, .string ⟨#[68]⟩, .string ⟨#[35]⟩, .string ⟨#[98]⟩, .string ⟨#[94]⟩] 9)) (.cells #[.string (nameOf i), .slice (some ⟨wr.heap.size, 0, none⟩) 1 1] 35))
            have p1 := m3.mc.c1
            have p2 := m3.mc.c2
            have d0 := m3.mc.d0
            have d1 := m3.mc.d1
            have xc := cell_two ((wr.alloc (.cells #[.int .i64 ((R i 0).tmod 8)] 3)).alloc (.cells #[.string ⟨#[65]⟩, .string ⟨#[66]⟩, .string ⟨#[67]⟩, .string ⟨#[68]⟩, .string ⟨#[35]⟩, .string ⟨#[98]⟩, .string ⟨#[94]⟩] 9)) (.string (nameOf i)) (.slice (some ⟨wr.heap.size, 0, none⟩) 1 1) 35
            rw [eS2] at xc
            obtain ⟨xc0, xc1⟩ := xc
            have M3 := aside m3
            have M4 := aside (m3.step (below_alloc (((wr.alloc (.cells #[.int .i64 ((R i 0).tmod 8)] 3)).alloc (.cells #[.string ⟨#[65]⟩, .string ⟨#[66]⟩, .string ⟨#[67]⟩, .string ⟨#[68]⟩, .string ⟨#[35]⟩, .string ⟨#[98]⟩, .string ⟨#[94]⟩] 9)).alloc (.cells #[.string (nameOf i), .slice (some ⟨wr.heap.size, 0, none⟩) 1 1] 35)) (.cells #[.string (nameOf i), .slice (some ⟨wr.heap.size, 0, none⟩) 1 1] 35)))
            have B2 := aside (below_then (below_alloc (wr.alloc (.cells #[.int .i64 ((R i 0).tmod 8)] 3)) (.cells #[.string ⟨#[65]⟩, .string ⟨#[66]⟩, .string ⟨#[67]⟩, .string ⟨#[68]⟩, .string ⟨#[35]⟩, .string ⟨#[98]⟩, .string ⟨#[94]⟩] 9)) (below_alloc ((wr.alloc (.cells #[.int .i64 ((R i 0).tmod 8)] 3)).alloc (.cells #[.string ⟨#[65]⟩, .string ⟨#[66]⟩, .string ⟨#[67]⟩, .string ⟨#[68]⟩, .string ⟨#[35]⟩, .string ⟨#[98]⟩, .string ⟨#[94]⟩] 9)) (.cells #[.string (nameOf i), .slice (some ⟨wr.heap.size, 0, none⟩) 1 1] 35)))
            have B3 := aside (below_alloc (((wr.alloc (.cells #[.int .i64 ((R i 0).tmod 8)] 3)).alloc (.cells #[.string ⟨#[65]⟩, .string ⟨#[66]⟩, .string ⟨#[67]⟩, .string ⟨#[68]⟩, .string ⟨#[35]⟩, .string ⟨#[98]⟩, .string ⟨#[94]⟩] 9)).alloc (.cells #[.string (nameOf i), .slice (some ⟨wr.heap.size, 0, none⟩) 1 1] 35)) (.cells #[.string (nameOf i), .slice (some ⟨wr.heap.size, 0, none⟩) 1 1] 35))
            have ES3 := aside eS3
            have HZ := aside (show W0.heap.size ≤ ((((wr.alloc (.cells #[.int .i64 ((R i 0).tmod 8)] 3)).alloc (.cells #[.string ⟨#[65]⟩, .string ⟨#[66]⟩, .string ⟨#[67]⟩, .string ⟨#[68]⟩, .string ⟨#[35]⟩, .string ⟨#[98]⟩, .string ⟨#[94]⟩] 9)).alloc (.cells #[.string (nameOf i), .slice (some ⟨wr.heap.size, 0, none⟩) 1 1] 35)).alloc (.cells #[.string (nameOf i), .slice (some ⟨wr.heap.size, 0, none⟩) 1 1] 35)).heap.size by have := hBx.out; simp; omega)
            clear m2 m3 eS eS2 eS3
            have hi4 : ¬ (i : Int) < 4 := by omega
            have hcn : ¬ (i : Int) < 1 + (tn : Int) := by omega
            have hca : (i : Int) < 4 + (ta : Int) := by omega
            go_wp2_with (at_builtin; obtain ⟨i0, hi', hz0, hz1, hz2⟩ := info_parts Tryz.info35; refine wpList_append_at _ rfl _ _ 28 rfl W0.heap.size 35 i0 _ 2 40 Tryz.underlying28 hi' hz0 hz1 hz2 rfl (by decide) v2 L2.length _ rfl M4.out.o2 ⟨(((wr.alloc (.cells #[.int .i64 ((R i 0).tmod 8)] 3)).alloc (.cells #[.string ⟨#[65]⟩, .string ⟨#[66]⟩, .string ⟨#[67]⟩, .string ⟨#[68]⟩, .string ⟨#[35]⟩, .string ⟨#[98]⟩, .string ⟨#[94]⟩] 9)).alloc (.cells #[.string (nameOf i), .slice (some ⟨wr.heap.size, 0, none⟩) 1 1] 35)).heap.size, 0, none⟩ 1 1 [.string (nameOf i), .slice (some ⟨wr.heap.size, 0, none⟩) 1 1] (by rw [ES3.out]; rfl) rfl (cells_two_new (((wr.alloc (.cells #[.int .i64 ((R i 0).tmod 8)] 3)).alloc (.cells #[.string ⟨#[65]⟩, .string ⟨#[66]⟩, .string ⟨#[67]⟩, .string ⟨#[68]⟩, .string ⟨#[35]⟩, .string ⟨#[98]⟩, .string ⟨#[94]⟩] 9)).alloc (.cells #[.string (nameOf i), .slice (some ⟨wr.heap.size, 0, none⟩) 1 1] 35)) _ _ _) one_sym (by unfold maxLen; omega) (by omega) HZ.out ?_; intro v' w5 hown' hgrow hblk; obtain ⟨g, cap, hv', hgB, _⟩ := owns_shape hown' (Nat.succ_pos _); subst hv'; have mc5 := M4.out.mc.grown hgrow (Nat.lt_trans M4.out.hB1 M4.out.hB3) M4.out.hB3 (fun k hk => (M4.out.o2.lt k hk).1); have mc6 := mc5.set1 (Nat.ne_of_lt M4.out.hB1) (.slice (some ⟨g, 0, none⟩) (L2.length + 1) cap); have u0 := mc5.d1; have u1 := mc5.f1; have u2 := mc6.c2; clear hi' hz0 hz1 hz2)
            go_roundg (7 - (i + 1))
            case measure => omega
            case rel =>
              have hW4 : Below (w.heap.size + 2) W0 ((((wr.alloc (.cells #[.int .i64 ((R i 0).tmod 8)] 3)).alloc (.cells #[.string ⟨#[65]⟩, .string ⟨#[66]⟩, .string ⟨#[67]⟩, .string ⟨#[68]⟩, .string ⟨#[35]⟩, .string ⟨#[98]⟩, .string ⟨#[94]⟩] 9)).alloc (.cells #[.string (nameOf i), .slice (some ⟨wr.heap.size, 0, none⟩) 1 1] 35)).alloc (.cells #[.string (nameOf i), .slice (some ⟨wr.heap.size, 0, none⟩) 1 1] 35)) := BX.out.trans ((below_then B2.out B3.out).mono (by have := hBx.out; have := HSZ.out; omega))
              exact ⟨i + 1, by omega, by omega, by go_num, (show Aside _ from (hW4.grown hgrow (by have := HZ.out; have := HSZ.out; omega) (fun k hk => by have := (M4.out.o2.lt k hk).1; have := HSZ.out; omega)).setCell (p := ⟨w.heap.size + 1 + 1, 1, none⟩) (by show w.heap.size + 2 ≤ w.heap.size + 1 + 1; omega) _), (show Aside _ from ⟨_, _, _, _, M4.out.acc (by omega) (by omega) (by omega) (x := ⟨nameOf i, .slice (some ⟨wr.heap.size, 0, none⟩) 1 1, [(R i 0).tmod 8]⟩) rfl ((hx.out.2.mono B2.out).mono B3.out) hown' hgrow hblk⟩)⟩
          · have nm := names_cell (wr.alloc (.cells #[.int .i64 ((R i 0).tmod 8)] 3)) i hlt
            have eS : (wr.alloc (.cells #[.int .i64 ((R i 0).tmod 8)] 3)).heap.size = wr.heap.size + 1 := (by simp)
            have eS2 : ((wr.alloc (.cells #[.int .i64 ((R i 0).tmod 8)] 3)).alloc (.cells #[.string ⟨#[65]⟩, .string ⟨#[66]⟩, .string ⟨#[67]⟩, .string ⟨#[68]⟩, .string ⟨#[35]⟩, .string ⟨#[98]⟩, .string ⟨#[94]⟩] 9)).heap.size = wr.heap.size + 1 + 1 := (by simp)
            have eS3 : (((wr.alloc (.cells #[.int .i64 ((R i 0).tmod 8)] 3)).alloc (.cells #[.string ⟨#[65]⟩, .string ⟨#[66]⟩, .string ⟨#[67]⟩, .string ⟨#[68]⟩, .string ⟨#[35]⟩, .string ⟨#[98]⟩, .string ⟨#[94]⟩] 9)).alloc (.cells #[.string (nameOf i), .slice (some ⟨wr.heap.size, 0, none⟩) 1 1] 35)).heap.size = wr.heap.size + 1 + 1 + 1 := (by simp)
            rw [eS] at nm
            have m2 := mX.out.step (below_alloc (wr.alloc (.cells #[.int .i64 ((R i 0).tmod 8)] 3)) (.cells #[.string ⟨#[65]⟩, .string ⟨#[66]⟩, .string ⟨#[67]⟩, .string ⟨#[68]⟩, .string ⟨#[35]⟩, .string ⟨#[98]⟩, .string ⟨#[94]⟩] 9))
            have m3 := m2.step (below_alloc ((wr.alloc (.cells #[.int .i64 ((R i 0).tmod 8)] 3)).alloc (.cells #[.string ⟨#[65]⟩, .string ⟨#[66]⟩, .string ⟨#[67]⟩, .string ⟨#[68]⟩, .string ⟨#[35]⟩, .string ⟨#[98]⟩, .string ⟨#[94]⟩] 9)) (.cells #[.string (nameOf i), .slice (some ⟨wr.heap.size, 0, none⟩) 1 1] 35))
            have p1 := m3.mc.c1
            have p2 := m3.mc.c2
            have d0 := m3.mc.d0
            have d1 := m3.mc.d1
            have xc := cell_two ((wr.alloc (.cells #[.int .i64 ((R i 0).tmod 8)] 3)).alloc (.cells #[.string ⟨#[65]⟩, .string ⟨#[66]⟩, .string ⟨#[67]⟩, .string ⟨#[68]⟩, .string ⟨#[35]⟩, .string ⟨#[98]⟩, .string ⟨#[94]⟩] 9)) (.string (nameOf i)) (.slice (some ⟨wr.heap.size, 0, none⟩) 1 1) 35
            rw [eS2] at xc
            obtain ⟨xc0, xc1⟩ := xc
            have M3 := aside m3
            have M4 := aside (m3.step (below_alloc (((wr.alloc (.cells #[.int .i64 ((R i 0).tmod 8)] 3)).alloc (.cells #[.string ⟨#[65]⟩, .string ⟨#[66]⟩, .string ⟨#[67]⟩, .string ⟨#[68]⟩, .string ⟨#[35]⟩, .string ⟨#[98]⟩, .string ⟨#[94]⟩] 9)).alloc (.cells #[.string (nameOf i), .slice (some ⟨wr.heap.size, 0, none⟩) 1 1] 35)) (.cells #[.string (nameOf i), .slice (some ⟨wr.heap.size, 0, none⟩) 1 1] 35)))
            have B2 := aside (below_then (below_alloc (wr.alloc (.cells #[.int .i64 ((R i 0).tmod 8)] 3)) (.cells #[.string ⟨#[65]⟩, .string ⟨#[66]⟩, .string ⟨#[67]⟩, .string ⟨#[68]⟩, .string ⟨#[35]⟩, .string ⟨#[98]⟩, .string ⟨#[94]⟩] 9)) (below_alloc ((wr.alloc (.cells #[.int .i64 ((R i 0).tmod 8)] 3)).alloc (.cells #[.string ⟨#[65]⟩, .string ⟨#[66]⟩, .string ⟨#[67]⟩, .string ⟨#[68]⟩, .string ⟨#[35]⟩, .string ⟨#[98]⟩, .string ⟨#[94]⟩] 9)) (.cells #[.string (nameOf i), .slice (some ⟨wr.heap.size, 0, none⟩) 1 1] 35)))
            have B3 := aside (below_alloc (((wr.alloc (.cells #[.int .i64 ((R i 0).tmod 8)] 3)).alloc (.cells #[.string ⟨#[65]⟩, .string ⟨#[66]⟩, .string ⟨#[67]⟩, .string ⟨#[68]⟩, .string ⟨#[35]⟩, .string ⟨#[98]⟩, .string ⟨#[94]⟩] 9)).alloc (.cells #[.string (nameOf i), .slice (some ⟨wr.heap.size, 0, none⟩) 1 1] 35)) (.cells #[.string (nameOf i), .slice (some ⟨wr.heap.size, 0, none⟩) 1 1] 35))
            have ES3 := aside eS3
            have HZ := aside (show W0.heap.size ≤ ((((wr.alloc (.cells #[.int .i64 ((R i 0).tmod 8)] 3)).alloc (.cells #[.string ⟨#[65]⟩, .string ⟨#[66]⟩, .string ⟨#[67]⟩, .string ⟨#[68]⟩, .string ⟨#[35]⟩, .string ⟨#[98]⟩, .string ⟨#[94]⟩] 9)).alloc (.cells #[.string (nameOf i), .slice (some ⟨wr.heap.size, 0, none⟩) 1 1] 35)).alloc (.cells #[.string (nameOf i), .slice (some ⟨wr.heap.size, 0, none⟩) 1 1] 35)).heap.size by have := hBx.out; simp; omega)
            clear m2 m3 eS eS2 eS3
            have hi4 : ¬ (i : Int) < 4 := by omega
            have hcn : ¬ (i : Int) < 1 + (tn : Int) := by omega
            have hca : ¬ (i : Int) < 4 + (ta : Int) := by omega
            go_wp2
            go_roundg (7 - (i + 1))
            case measure => omega
            case rel =>
              exact ⟨i + 1, by omega, by omega, by go_num, (show Aside _ from BX.out.trans (B2.out.mono (by have := hBx.out; have := HSZ.out; omega))), (show Aside _ from ⟨_, _, _, _, M3.out.idle (by omega) (by omega)⟩)⟩
      | true =>
        have m1 := HM.out.step (below_alloc wr (.cells #[.int .i64 ((R i 0).tmod 8)] 3))
        have t1 := m1.mc.c0
        have t2 := m1.mc.r i 1 hlt (by omega)
        have HO := aside ((owns_one wr (.int .i64 ((R i 0).tmod 8))).alloc (.cells #[.int .i64 ((R i 1).tmod 8)] 3))
        have HA := aside (below_then (below_alloc wr (.cells #[.int .i64 ((R i 0).tmod 8)] 3)) (below_alloc _ (.cells #[.int .i64 ((R i 1).tmod 8)] 3)))
        have HE := aside (show (wr.alloc (.cells #[.int .i64 ((R i 0).tmod 8)] 3)).heap.size = wr.heap.size + 1 by simp)
        have HW := aside (show wr.heap.size ≤ ((wr.alloc (.cells #[.int .i64 ((R i 0).tmod 8)] 3)).alloc (.cells #[.int .i64 ((R i 1).tmod 8)] 3)).heap.size by simp; omega)
        have HW2 := aside (show w.heap.size + 2 ≤ wr.heap.size by have := HSZ.out; omega)
        clear m1
        by_cases hq4 : i < 4
        · by_cases hqn : i < 1 + tn
          · have hi4 : (i : Int) < 4 := by omega
            have hcn : (i : Int) < 1 + (tn : Int) := by omega
            go_wp2_with (first
              | (at_builtin; obtain ⟨i0, hi', hz0, hz1, hz2⟩ := info_parts Tryz.info3; refine wpList_append_at _ rfl _ _ 33 rfl wr.heap.size 3 i0 _ 1 8 Tryz.underlying33 hi' hz0 hz1 hz2 rfl (by decide) _ 1 _ rfl HO.out ⟨(wr.alloc (.cells #[.int .i64 ((R i 0).tmod 8)] 3)).heap.size, 0, none⟩ 1 1 [.int .i64 ((R i 1).tmod 8)] (by rw [HE.out]; rfl) rfl (cell_one_new _ _ _) one_int (by unfold maxLen; omega) (by omega) HW.out ?_; intro vx wx hownx hgrowx hblkx; obtain ⟨gx, cx, hvx, hgxB, hgxl⟩ := owns_shape hownx (Nat.succ_pos _); subst hvx; have bX := HA.out.grown hgrowx HW.out (fun k hk => by cases hk; exact Nat.le_refl _); have mX := aside (HM.out.step bX); have hx := aside (fresh_two HM.out hB hgxB hgxl hownx); have BX := aside (BW.out.trans (bX.mono HW2.out)); have hBx := aside (Nat.le_trans hB bX.size); clear hi' hz0 hz1 hz2 hownx hgrowx hblkx bX hgxB hgxl; have nm := names_cell wx i hlt; have eS2 : (wx.alloc (.cells #[.string ⟨#[65]⟩, .string ⟨#[66]⟩, .string ⟨#[67]⟩, .string ⟨#[68]⟩, .string ⟨#[35]⟩, .string ⟨#[98]⟩, .string ⟨#[94]⟩] 9)).heap.size = wx.heap.size + 1 := (by simp); have eS3 : ((wx.alloc (.cells #[.string ⟨#[65]⟩, .string ⟨#[66]⟩, .string ⟨#[67]⟩, .string ⟨#[68]⟩, .string ⟨#[35]⟩, .string ⟨#[98]⟩, .string ⟨#[94]⟩] 9)).alloc (.cells #[.string (nameOf i), .slice (some ⟨gx, 0, none⟩) (1 + 1) cx] 35)).heap.size = wx.heap.size + 1 + 1 := (by simp); have m2 := mX.out.step (below_alloc wx (.cells #[.string ⟨#[65]⟩, .string ⟨#[66]⟩, .string ⟨#[67]⟩, .string ⟨#[68]⟩, .string ⟨#[35]⟩, .string ⟨#[98]⟩, .string ⟨#[94]⟩] 9)); have m3 := m2.step (below_alloc (wx.alloc (.cells #[.string ⟨#[65]⟩, .string ⟨#[66]⟩, .string ⟨#[67]⟩, .string ⟨#[68]⟩, .string ⟨#[35]⟩, .string ⟨#[98]⟩, .string ⟨#[94]⟩] 9)) (.cells #[.string (nameOf i), .slice (some ⟨gx, 0, none⟩) (1 + 1) cx] 35)); have p1 := m3.mc.c1; have p2 := m3.mc.c2; have d0 := m3.mc.d0; have d1 := m3.mc.d1; have xc := cell_two (wx.alloc (.cells #[.string ⟨#[65]⟩, .string ⟨#[66]⟩, .string ⟨#[67]⟩, .string ⟨#[68]⟩, .string ⟨#[35]⟩, .string ⟨#[98]⟩, .string ⟨#[94]⟩] 9)) (.string (nameOf i)) (.slice (some ⟨gx, 0, none⟩) (1 + 1) cx) 35; rw [eS2] at xc; obtain ⟨xc0, xc1⟩ := xc; have M3 := aside m3; have M4 := aside (m3.step (below_alloc ((wx.alloc (.cells #[.string ⟨#[65]⟩, .string ⟨#[66]⟩, .string ⟨#[67]⟩, .string ⟨#[68]⟩, .string ⟨#[35]⟩, .string ⟨#[98]⟩, .string ⟨#[94]⟩] 9)).alloc (.cells #[.string (nameOf i), .slice (some ⟨gx, 0, none⟩) (1 + 1) cx] 35)) (.cells #[.string (nameOf i), .slice (some ⟨gx, 0, none⟩) (1 + 1) cx] 35))); have B2 := aside (below_then (below_alloc wx (.cells #[.string ⟨#[65]⟩, .string ⟨#[66]⟩, .string ⟨#[67]⟩, .string ⟨#[68]⟩, .string ⟨#[35]⟩, .string ⟨#[98]⟩, .string ⟨#[94]⟩] 9)) (below_alloc (wx.alloc (.cells #[.string ⟨#[65]⟩, .string ⟨#[66]⟩, .string ⟨#[67]⟩, .string ⟨#[68]⟩, .string ⟨#[35]⟩, .string ⟨#[98]⟩, .string ⟨#[94]⟩] 9)) (.cells #[.string (nameOf i), .slice (some ⟨gx, 0, none⟩) (1 + 1) cx] 35))); have B3 := aside (below_alloc ((wx.alloc (.cells #[.string ⟨#[65]⟩, .string ⟨#[66]⟩, .string ⟨#[67]⟩, .string ⟨#[68]⟩, .string ⟨#[35]⟩, .string ⟨#[98]⟩, .string ⟨#[94]⟩] 9)).alloc (.cells #[.string (nameOf i), .slice (some ⟨gx, 0, none⟩) (1 + 1) cx] 35)) (.cells #[.string (nameOf i), .slice (some ⟨gx, 0, none⟩) (1 + 1) cx] 35)); have ES3 := aside eS3; have HZ := aside (show W0.heap.size ≤ (((wx.alloc (.cells #[.string ⟨#[65]⟩, .string ⟨#[66]⟩, .string ⟨#[67]⟩, .string ⟨#[68]⟩, .string ⟨#[35]⟩, .string ⟨#[98]⟩, .string ⟨#[94]⟩] 9)).alloc (.cells #[.string (nameOf i), .slice (some ⟨gx, 0, none⟩) (1 + 1) cx] 35)).alloc (.cells #[.string (nameOf i), .slice (some ⟨gx, 0, none⟩) (1 + 1) cx] 35)).heap.size by have := hBx.out; simp; omega); clear m2 m3 eS2 eS3)
              | (at_builtin; obtain ⟨i0, hi', hz0, hz1, hz2⟩ := info_parts Tryz.info35; refine wpList_append_at _ rfl _ _ 28 rfl W0.heap.size 35 i0 _ 2 40 Tryz.underlying28 hi' hz0 hz1 hz2 rfl (by decide) v1 L1.length _ rfl M4.out.o1 ⟨((wx.alloc (.cells #[.string ⟨#[65]⟩, .string ⟨#[66]⟩, .string ⟨#[67]⟩, .string ⟨#[68]⟩, .string ⟨#[35]⟩, .string ⟨#[98]⟩, .string ⟨#[94]⟩] 9)).alloc (.cells #[.string (nameOf i), .slice (some ⟨gx, 0, none⟩) (1 + 1) cx] 35)).heap.size, 0, none⟩ 1 1 [.string (nameOf i), .slice (some ⟨gx, 0, none⟩) (1 + 1) cx] (by rw [ES3.out]; rfl) rfl (cells_two_new ((wx.alloc (.cells #[.string ⟨#[65]⟩, .string ⟨#[66]⟩, .string ⟨#[67]⟩, .string ⟨#[68]⟩, .string ⟨#[35]⟩, .string ⟨#[98]⟩, .string ⟨#[94]⟩] 9)).alloc (.cells #[.string (nameOf i), .slice (some ⟨gx, 0, none⟩) (1 + 1) cx] 35)) _ _ _) one_sym (by unfold maxLen; omega) (by omega) HZ.out ?_; intro v' w5 hown' hgrow hblk; obtain ⟨g, cap, hv', hgB, _⟩ := owns_shape hown' (Nat.succ_pos _); subst hv'; have mc5 := M4.out.mc.grown hgrow (Nat.lt_trans M4.out.hB1 M4.out.hB3) M4.out.hB3 (fun k hk => (M4.out.o1.lt k hk).1); have mc6 := mc5.set0 (Nat.ne_of_lt M4.out.hB1) (.slice (some ⟨g, 0, none⟩) (L1.length + 1) cap); have u0 := mc5.d0; have u1 := mc5.f0; have u2 := mc6.c2; clear hi' hz0 hz1 hz2))
            go_roundg (7 - (i + 1))
            case measure => omega
            case rel =>
              have hW4 : Below (w.heap.size + 2) W0 (((wx.alloc (.cells #[.string ⟨#[65]⟩, .string ⟨#[66]⟩, .string ⟨#[67]⟩, .string ⟨#[68]⟩, .string ⟨#[35]⟩, .string ⟨#[98]⟩, .string ⟨#[94]⟩] 9)).alloc (.cells #[.string (nameOf i), .slice (some ⟨gx, 0, none⟩) (1 + 1) cx] 35)).alloc (.cells #[.string (nameOf i), .slice (some ⟨gx, 0, none⟩) (1 + 1) cx] 35)) := BX.out.trans ((below_then B2.out B3.out).mono (by have := hBx.out; have := HSZ.out; omega))
              exact ⟨i + 1, by omega, by omega, by go_num, (show Aside _ from (hW4.grown hgrow (by have := HZ.out; have := HSZ.out; omega) (fun k hk => by have := (M4.out.o1.lt k hk).1; have := HSZ.out; omega)).setCell (p := ⟨w.heap.size + 1 + 1, 0, none⟩) (by show w.heap.size + 2 ≤ w.heap.size + 1 + 1; omega) _), (show Aside _ from ⟨_, _, _, _, M4.out.nom (by omega) (by omega) (x := ⟨nameOf i, .slice (some ⟨gx, 0, none⟩) (1 + 1) cx, [(R i 0).tmod 8, (R i 1).tmod 8]⟩) rfl ((hx.out.1.mono B2.out).mono B3.out) hown' hgrow hblk⟩)⟩
          · have hi4 : (i : Int) < 4 := by omega
            have hcn : ¬ (i : Int) < 1 + (tn : Int) := by omega
            go_wp2_with (first
              | (at_builtin; obtain ⟨i0, hi', hz0, hz1, hz2⟩ := info_parts Tryz.info3; refine wpList_append_at _ rfl _ _ 33 rfl wr.heap.size 3 i0 _ 1 8 Tryz.underlying33 hi' hz0 hz1 hz2 rfl (by decide) _ 1 _ rfl HO.out ⟨(wr.alloc (.cells #[.int .i64 ((R i 0).tmod 8)] 3)).heap.size, 0, none⟩ 1 1 [.int .i64 ((R i 1).tmod 8)] (by rw [HE.out]; rfl) rfl (cell_one_new _ _ _) one_int (by unfold maxLen; omega) (by omega) HW.out ?_; intro vx wx hownx hgrowx hblkx; obtain ⟨gx, cx, hvx, hgxB, hgxl⟩ := owns_shape hownx (Nat.succ_pos _); subst hvx; have bX := HA.out.grown hgrowx HW.out (fun k hk => by cases hk; exact Nat.le_refl _); have mX := aside (HM.out.step bX); have hx := aside (fresh_two HM.out hB hgxB hgxl hownx); have BX := aside (BW.out.trans (bX.mono HW2.out)); have hBx := aside (Nat.le_trans hB bX.size); clear hi' hz0 hz1 hz2 hownx hgrowx hblkx bX hgxB hgxl; have nm := names_cell wx i hlt; have eS2 : (wx.alloc (.cells #[.string ⟨#[65]⟩, .string ⟨#[66]⟩, .string ⟨#[67]⟩, .string ⟨#[68]⟩, .string ⟨#[35]⟩, .string ⟨#[98]⟩, .string ⟨#[94]⟩] 9)).heap.size = wx.heap.size + 1 := (by simp); have eS3 : ((wx.alloc (.cells #[.string ⟨#[65]⟩, .string ⟨#[66]⟩, .string ⟨#[67]⟩, .string ⟨#[68]⟩, .string ⟨#[35]⟩, .string ⟨#[98]⟩, .string ⟨#[94]⟩] 9)).alloc (.cells #[.string (nameOf i), .slice (some ⟨gx, 0, none⟩) (1 + 1) cx] 35)).heap.size = wx.heap.size + 1 + 1 := (by simp); have m2 := mX.out.step (below_alloc wx (.cells #[.string ⟨#[65]⟩, .string ⟨#[66]⟩, .string ⟨#[67]⟩, .string ⟨#[68]⟩, .string ⟨#[35]⟩, .string ⟨#[98]⟩, .string ⟨#[94]⟩] 9)); have m3 := m2.step (below_alloc (wx.alloc (.cells #[.string ⟨#[65]⟩, .string ⟨#[66]⟩, .string ⟨#[67]⟩, .string ⟨#[68]⟩, .string ⟨#[35]⟩, .string ⟨#[98]⟩, .string ⟨#[94]⟩] 9)) (.cells #[.string (nameOf i), .slice (some ⟨gx, 0, none⟩) (1 + 1) cx] 35)); have p1 := m3.mc.c1; have p2 := m3.mc.c2; have d0 := m3.mc.d0; have d1 := m3.mc.d1; have xc := cell_two (wx.alloc (.cells #[.string ⟨#[65]⟩, .string ⟨#[66]⟩, .string ⟨#[67]⟩, .string ⟨#[68]⟩, .string ⟨#[35]⟩, .string ⟨#[98]⟩, .string ⟨#[94]⟩] 9)) (.string (nameOf i)) (.slice (some ⟨gx, 0, none⟩) (1 + 1) cx) 35; rw [eS2] at xc; obtain ⟨xc0, xc1⟩ := xc; have M3 := aside m3; have M4 := aside (m3.step (below_alloc ((wx.alloc (.cells #[.string ⟨#[65]⟩, .string ⟨#[66]⟩, .string ⟨#[67]⟩, .string ⟨#[68]⟩, .string ⟨#[35]⟩, .string ⟨#[98]⟩, .string ⟨#[94]⟩] 9)).alloc (.cells #[.string (nameOf i), .slice (some ⟨gx, 0, none⟩) (1 + 1) cx] 35)) (.cells #[.string (nameOf i), .slice (some ⟨gx, 0, none⟩) (1 + 1) cx] 35))); have B2 := aside (below_then (below_alloc wx (.cells #[.string ⟨#[65]⟩, .string ⟨#[66]⟩, .string ⟨#[67]⟩, .string ⟨#[68]⟩, .string ⟨#[35]⟩, .string ⟨#[98]⟩, .string ⟨#[94]⟩] 9)) (below_alloc (wx.alloc (.cells #[.string ⟨#[65]⟩, .string ⟨#[66]⟩, .string ⟨#[67]⟩, .string ⟨#[68]⟩, .string ⟨#[35]⟩, .string ⟨#[98]⟩, .string ⟨#[94]⟩] 9)) (.cells #[.string (nameOf i), .slice (some ⟨gx, 0, none⟩) (1 + 1) cx] 35))); have B3 := aside (below_alloc ((wx.alloc (.cells #[.string ⟨#[65]⟩, .string ⟨#[66]⟩, .string ⟨#[67]⟩, .string ⟨#[68]⟩, .string ⟨#[35]⟩, .string ⟨#[98]⟩, .string ⟨#[94]⟩] 9)).alloc (.cells #[.string (nameOf i), .slice (some ⟨gx, 0, none⟩) (1 + 1) cx] 35)) (.cells #[.string (nameOf i), .slice (some ⟨gx, 0, none⟩) (1 + 1) cx] 35)); have ES3 := aside eS3; have HZ := aside (show W0.heap.size ≤ (((wx.alloc (.cells #[.string ⟨#[65]⟩, .string ⟨#[66]⟩, .string ⟨#[67]⟩, .string ⟨#[68]⟩, .string ⟨#[35]⟩, .string ⟨#[98]⟩, .string ⟨#[94]⟩] 9)).alloc (.cells #[.string (nameOf i), .slice (some ⟨gx, 0, none⟩) (1 + 1) cx] 35)).alloc (.cells #[.string (nameOf i), .slice (some ⟨gx, 0, none⟩) (1 + 1) cx] 35)).heap.size by have := hBx.out; simp; omega); clear m2 m3 eS2 eS3))
            go_roundg (7 - (i + 1))
            case measure => omega
            case rel =>
              exact ⟨i + 1, by omega, by omega, by go_num, (show Aside _ from BX.out.trans (B2.out.mono (by have := hBx.out; have := HSZ.out; omega))), (show Aside _ from ⟨_, _, _, _, M3.out.idle (by omega) (by omega)⟩)⟩
        · by_cases hqa : i < 4 + ta
          · have hi4 : ¬ (i : Int) < 4 := by omega
            have hcn : ¬ (i : Int) < 1 + (tn : Int) := by omega
            have hca : (i : Int) < 4 + (ta : Int) := by omega
            go_wp2_with (first
              | (at_builtin; obtain ⟨i0, hi', hz0, hz1, hz2⟩ := info_parts Tryz.info3; refine wpList_append_at _ rfl _ _ 33 rfl wr.heap.size 3 i0 _ 1 8 Tryz.underlying33 hi' hz0 hz1 hz2 rfl (by decide) _ 1 _ rfl HO.out ⟨(wr.alloc (.cells #[.int .i64 ((R i 0).tmod 8)] 3)).heap.size, 0, none⟩ 1 1 [.int .i64 ((R i 1).tmod 8)] (by rw [HE.out]; rfl) rfl (cell_one_new _ _ _) one_int (by unfold maxLen; omega) (by omega) HW.out ?_; intro vx wx hownx hgrowx hblkx; obtain ⟨gx, cx, hvx, hgxB, hgxl⟩ := owns_shape hownx (Nat.succ_pos _); subst hvx; have bX := HA.out.grown hgrowx HW.out (fun k hk => by cases hk; exact Nat.le_refl _); have mX := aside (HM.out.step bX); have hx := aside (fresh_two HM.out hB hgxB hgxl hownx); have BX := aside (BW.out.trans (bX.mono HW2.out)); have hBx := aside (Nat.le_trans hB bX.size); clear hi' hz0 hz1 hz2 hownx hgrowx hblkx bX hgxB hgxl; have nm := names_cell wx i hlt; have eS2 : (wx.alloc (.cells #[.string ⟨#[65]⟩, .string ⟨#[66]⟩, .string ⟨#[67]⟩, .string ⟨#[68]⟩, .string ⟨#[35]⟩, .string ⟨#[98]⟩, .string ⟨#[94]⟩] 9)).heap.size = wx.heap.size + 1 := (by simp); have eS3 : ((wx.alloc (.cells #[.string ⟨#[65]⟩, .string ⟨#[66]⟩, .string ⟨#[67]⟩, .string ⟨#[68]⟩, .string ⟨#[35]⟩, .string ⟨#[98]⟩, .string ⟨#[94]⟩] 9)).alloc (.cells #[.string (nameOf i), .slice (some ⟨gx, 0, none⟩) (1 + 1) cx] 35)).heap.size = wx.heap.size + 1 + 1 := (by simp); have m2 := mX.out.step (below_alloc wx (.cells #[.string ⟨#[65]⟩, .string ⟨#[66]⟩, .string ⟨#[67]⟩, .string ⟨#[68]⟩, .string ⟨#[35]⟩, .string ⟨#[98]⟩, .string ⟨#[94]⟩] 9)); have m3 := m2.step (below_alloc (wx.alloc (.cells #[.string ⟨#[65]⟩, .string ⟨#[66]⟩, .string ⟨#[67]⟩, .string ⟨#[68]⟩, .string ⟨#[35]⟩, .string ⟨#[98]⟩, .string ⟨#[94]⟩] 9)) (.cells #[.string (nameOf i), .slice (some ⟨gx, 0, none⟩) (1 + 1) cx] 35)); have p1 := m3.mc.c1; have p2 := m3.mc.c2; have d0 := m3.mc.d0; have d1 := m3.mc.d1; have xc := cell_two (wx.alloc (.cells #[.string ⟨#[65]⟩, .string ⟨#[66]⟩, .string ⟨#[67]⟩, .string ⟨#[68]⟩, .string ⟨#[35]⟩, .string ⟨#[98]⟩, .string ⟨#[94]⟩] 9)) (.string (nameOf i)) (.slice (some ⟨gx, 0, none⟩) (1 + 1) cx) 35; rw [eS2] at xc; obtain ⟨xc0, xc1⟩ := xc; have M3 := aside m3; have M4 := aside (m3.step (below_alloc ((wx.alloc (.cells #[.string ⟨#[65]⟩, .string ⟨#[66]⟩, .string ⟨#[67]⟩, .string ⟨#[68]⟩, .string ⟨#[35]⟩, .string ⟨#[98]⟩, .string ⟨#[94]⟩] 9)).alloc (.cells #[.string (nameOf i), .slice (some ⟨gx, 0, none⟩) (1 + 1) cx] 35)) (.cells #[.string (nameOf i), .slice (some ⟨gx, 0, none⟩) (1 + 1) cx] 35))); have B2 := aside (below_then (below_alloc wx (.cells #[.string ⟨#[65]⟩, .string ⟨#[66]⟩, .string ⟨#[67]⟩, .string ⟨#[68]⟩, .string ⟨#[35]⟩, .string ⟨#[98]⟩, .string ⟨#[94]⟩] 9)) (below_alloc (wx.alloc (.cells #[.string ⟨#[65]⟩, .string ⟨#[66]⟩, .string ⟨#[67]⟩, .string ⟨#[68]⟩, .string ⟨#[35]⟩, .string ⟨#[98]⟩, .string ⟨#[94]⟩] 9)) (.cells #[.string (nameOf i), .slice (some ⟨gx, 0, none⟩) (1 + 1) cx] 35))); have B3 := aside (below_alloc ((wx.alloc (.cells #[.string ⟨#[65]⟩, .string ⟨#[66]⟩, .string ⟨#[67]⟩, .string ⟨#[68]⟩, .string ⟨#[35]⟩, .string ⟨#[98]⟩, .string ⟨#[94]⟩] 9)).alloc (.cells #[.string (nameOf i), .slice (some ⟨gx, 0, none⟩) (1 + 1) cx] 35)) (.cells #[.string (nameOf i), .slice (some ⟨gx, 0, none⟩) (1 + 1) cx] 35)); have ES3 := aside eS3; have HZ := aside (show W0.heap.size ≤ (((wx.alloc (.cells #[.string ⟨#[65]⟩, .string ⟨#[66]⟩, .string ⟨#[67]⟩, .string ⟨#[68]⟩, .string ⟨#[35]⟩, .string ⟨#[98]⟩, .string ⟨#[94]⟩] 9)).alloc (.cells #[.string (nameOf i), .slice (some ⟨gx, 0, none⟩) (1 + 1) cx] 35)).alloc (.cells #[.string (nameOf i), .slice (some ⟨gx, 0, none⟩) (1 + 1) cx] 35)).heap.size by have := hBx.out; simp; omega); clear m2 m3 eS2 eS3)
              | (at_builtin; obtain ⟨i0, hi', hz0, hz1, hz2⟩ := info_parts Tryz.info35; refine wpList_append_at _ rfl _ _ 28 rfl W0.heap.size 35 i0 _ 2 40 Tryz.underlying28 hi' hz0 hz1 hz2 rfl (by decide) v2 L2.length _ rfl M4.out.o2 ⟨((wx.alloc (.cells #[.string ⟨#[65]⟩, .string ⟨#[66]⟩, .string ⟨#[67]⟩, .string ⟨#[68]⟩, .string ⟨#[35]⟩, .string ⟨#[98]⟩, .string ⟨#[94]⟩] 9)).alloc (.cells #[.string (nameOf i), .slice (some ⟨gx, 0, none⟩) (1 + 1) cx] 35)).heap.size, 0, none⟩ 1 1 [.string (nameOf i), .slice (some ⟨gx, 0, none⟩) (1 + 1) cx] (by rw [ES3.out]; rfl) rfl (cells_two_new ((wx.alloc (.cells #[.string ⟨#[65]⟩, .string ⟨#[66]⟩, .string ⟨#[67]⟩, .string ⟨#[68]⟩, .string ⟨#[35]⟩, .string ⟨#[98]⟩, .string ⟨#[94]⟩] 9)).alloc (.cells #[.string (nameOf i), .slice (some ⟨gx, 0, none⟩) (1 + 1) cx] 35)) _ _ _) one_sym (by unfold maxLen; omega) (by omega) HZ.out ?_; intro v' w5 hown' hgrow hblk; obtain ⟨g, cap, hv', hgB, _⟩ := owns_shape hown' (Nat.succ_pos _); subst hv'; have mc5 := M4.out.mc.grown hgrow (Nat.lt_trans M4.out.hB1 M4.out.hB3) M4.out.hB3 (fun k hk => (M4.out.o2.lt k hk).1); have mc6 := mc5.set1 (Nat.ne_of_lt M4.out.hB1) (.slice (some ⟨g, 0, none⟩) (L2.length + 1) cap); have u0 := mc5.d1; have u1 := mc5.f1; have u2 := mc6.c2; clear hi' hz0 hz1 hz2))
            go_roundg (7 - (i + 1))
            case measure => omega
            case rel =>
              have hW4 : Below (w.heap.size + 2) W0 (((wx.alloc (.cells #[.string ⟨#[65]⟩, .string ⟨#[66]⟩, .string ⟨#[67]⟩, .string ⟨#[68]⟩, .string ⟨#[35]⟩, .string ⟨#[98]⟩, .string ⟨#[94]⟩] 9)).alloc (.cells #[.string (nameOf i), .slice (some ⟨gx, 0, none⟩) (1 + 1) cx] 35)).alloc (.cells #[.string (nameOf i), .slice (some ⟨gx, 0, none⟩) (1 + 1) cx] 35)) := BX.out.trans ((below_then B2.out B3.out).mono (by have := hBx.out; have := HSZ.out; omega))
              exact ⟨i + 1, by omega, by omega, by go_num, (show Aside _ from (hW4.grown hgrow (by have := HZ.out; have := HSZ.out; omega) (fun k hk => by have := (M4.out.o2.lt k hk).1; have := HSZ.out; omega)).setCell (p := ⟨w.heap.size + 1 + 1, 1, none⟩) (by show w.heap.size + 2 ≤ w.heap.size + 1 + 1; omega) _), (show Aside _ from ⟨_, _, _, _, M4.out.acc (by omega) (by omega) (by omega) (x := ⟨nameOf i, .slice (some ⟨gx, 0, none⟩) (1 + 1) cx, [(R i 0).tmod 8, (R i 1).tmod 8]⟩) rfl ((hx.out.2.mono B2.out).mono B3.out) hown' hgrow hblk⟩)⟩
          · have hi4 : ¬ (i : Int) < 4 := by omega
            have hcn : ¬ (i : Int) < 1 + (tn : Int) := by omega
            have hca : ¬ (i : Int) < 4 + (ta : Int) := by omega
            go_wp2_with (first
              | (at_builtin; obtain ⟨i0, hi', hz0, hz1, hz2⟩ := info_parts Tryz.info3; refine wpList_append_at _ rfl _ _ 33 rfl wr.heap.size 3 i0 _ 1 8 Tryz.underlying33 hi' hz0 hz1 hz2 rfl (by decide) _ 1 _ rfl HO.out ⟨(wr.alloc (.cells #[.int .i64 ((R i 0).tmod 8)] 3)).heap.size, 0, none⟩ 1 1 [.int .i64 ((R i 1).tmod 8)] (by rw [HE.out]; rfl) rfl (cell_one_new _ _ _) one_int (by unfold maxLen; omega) (by omega) HW.out ?_; intro vx wx hownx hgrowx hblkx; obtain ⟨gx, cx, hvx, hgxB, hgxl⟩ := owns_shape hownx (Nat.succ_pos _); subst hvx; have bX := HA.out.grown hgrowx HW.out (fun k hk => by cases hk; exact Nat.le_refl _); have mX := aside (HM.out.step bX); have hx := aside (fresh_two HM.out hB hgxB hgxl hownx); have BX := aside (BW.out.trans (bX.mono HW2.out)); have hBx := aside (Nat.le_trans hB bX.size); clear hi' hz0 hz1 hz2 hownx hgrowx hblkx bX hgxB hgxl; have nm := names_cell wx i hlt; have eS2 : (wx.alloc (.cells #[.string ⟨#[65]⟩, .string ⟨#[66]⟩, .string ⟨#[67]⟩, .string ⟨#[68]⟩, .string ⟨#[35]⟩, .string ⟨#[98]⟩, .string ⟨#[94]⟩] 9)).heap.size = wx.heap.size + 1 := (by simp); have eS3 : ((wx.alloc (.cells #[.string ⟨#[65]⟩, .string ⟨#[66]⟩, .string ⟨#[67]⟩, .string ⟨#[68]⟩, .string ⟨#[35]⟩, .string ⟨#[98]⟩, .string ⟨#[94]⟩] 9)).alloc (.cells #[.string (nameOf i), .slice (some ⟨gx, 0, none⟩) (1 + 1) cx] 35)).heap.size = wx.heap.size + 1 + 1 := (by simp); have m2 := mX.out.step (below_alloc wx (.cells #[.string ⟨#[65]⟩, .string ⟨#[66]⟩, .string ⟨#[67]⟩, .string ⟨#[68]⟩, .string ⟨#[35]⟩, .string ⟨#[98]⟩, .string ⟨#[94]⟩] 9)); have m3 := m2.step (below_alloc (wx.alloc (.cells #[.string ⟨#[65]⟩, .string ⟨#[66]⟩, .string ⟨#[67]⟩, .string ⟨#[68]⟩, .string ⟨#[35]⟩, .string ⟨#[98]⟩, .string ⟨#[94]⟩] 9)) (.cells #[.string (nameOf i), .slice (some ⟨gx, 0, none⟩) (1 + 1) cx] 35)); have p1 := m3.mc.c1; have p2 := m3.mc.c2; have d0 := m3.mc.d0; have d1 := m3.mc.d1; have xc := cell_two (wx.alloc (.cells #[.string ⟨#[65]⟩, .string ⟨#[66]⟩, .string ⟨#[67]⟩, .string ⟨#[68]⟩, .string ⟨#[35]⟩, .string ⟨#[98]⟩, .string ⟨#[94]⟩] 9)) (.string (nameOf i)) (.slice (some ⟨gx, 0, none⟩) (1 + 1) cx) 35; rw [eS2] at xc; obtain ⟨xc0, xc1⟩ := xc; have M3 := aside m3; have M4 := aside (m3.step (below_alloc ((wx.alloc (.cells #[.string ⟨#[65]⟩, .string ⟨#[66]⟩, .string ⟨#[67]⟩, .string ⟨#[68]⟩, .string ⟨#[35]⟩, .string ⟨#[98]⟩, .string ⟨#[94]⟩] 9)).alloc (.cells #[.string (nameOf i), .slice (some ⟨gx, 0, none⟩) (1 + 1) cx] 35)) (.cells #[.string (nameOf i), .slice (some ⟨gx, 0, none⟩) (1 + 1) cx] 35))); have B2 := aside (below_then (below_alloc wx (.cells #[.string ⟨#[65]⟩, .string ⟨#[66]⟩, .string ⟨#[67]⟩, .string ⟨#[68]⟩, .string ⟨#[35]⟩, .string ⟨#[98]⟩, .string ⟨#[94]⟩] 9)) (below_alloc (wx.alloc (.cells #[.string ⟨#[65]⟩, .string ⟨#[66]⟩, .string ⟨#[67]⟩, .string ⟨#[68]⟩, .string ⟨#[35]⟩, .string ⟨#[98]⟩, .string ⟨#[94]⟩] 9)) (.cells #[.string (nameOf i), .slice (some ⟨gx, 0, none⟩) (1 + 1) cx] 35))); have B3 := aside (below_alloc ((wx.alloc (.cells #[.string ⟨#[65]⟩, .string ⟨#[66]⟩, .string ⟨#[67]⟩, .string ⟨#[68]⟩, .string ⟨#[35]⟩, .string ⟨#[98]⟩, .string ⟨#[94]⟩] 9)).alloc (.cells #[.string (nameOf i), .slice (some ⟨gx, 0, none⟩) (1 + 1) cx] 35)) (.cells #[.string (nameOf i), .slice (some ⟨gx, 0, none⟩) (1 + 1) cx] 35)); have ES3 := aside eS3; have HZ := aside (show W0.heap.size ≤ (((wx.alloc (.cells #[.string ⟨#[65]⟩, .string ⟨#[66]⟩, .string ⟨#[67]⟩, .string ⟨#[68]⟩, .string ⟨#[35]⟩, .string ⟨#[98]⟩, .string ⟨#[94]⟩] 9)).alloc (.cells #[.string (nameOf i), .slice (some ⟨gx, 0, none⟩) (1 + 1) cx] 35)).alloc (.cells #[.string (nameOf i), .slice (some ⟨gx, 0, none⟩) (1 + 1) cx] 35)).heap.size by have := hBx.out; simp; omega); clear m2 m3 eS2 eS3))
            go_roundg (7 - (i + 1))
            case measure => omega
            case rel =>
              exact ⟨i + 1, by omega, by omega, by go_num, (show Aside _ from BX.out.trans (B2.out.mono (by have := hBx.out; have := HSZ.out; omega))), (show Aside _ from ⟨_, _, _, _, M3.out.idle (by omega) (by omega)⟩)⟩
    · have hltz : ¬ (i : Int) < 7 := by omega
      have : i = 7 := by omega
      subst this
      have hl1 : L1.length = 1 + tn := by
        have := congrArg List.length hM.k1
        simp at this
        omega
      have hl2 : L2.length = ta := by
        have := congrArg List.length hM.k2
        simp at this
        omega
      obtain ⟨p1, q1, rfl⟩ := owns_slice hM.o1
      obtain ⟨p2, q2, rfl⟩ := owns_slice hM.o2
      rw [hl1, hl2] at hM
      have htb := (BW.out.block (w.heap.size + 1) (by omega)).trans HT2.out
      have d0 := hM.mc.d0
      have d1 := hM.mc.d1
      have e0 := cell_of_row wr _ 0 _ 30 (0, 0) htb
      have e1 := cell_of_row wr _ 1 _ 30 (0, 0) htb
      have g0 := frozen_of_row wr _ 0 _ 30 htb
      have g1 := frozen_of_row wr _ 1 _ 30 htb
      have e0' : wr.cell? ⟨w.heap.size + 1, 0, none⟩ = some (.slice none 0 0) := e0
      have e1' : wr.cell? ⟨w.heap.size + 1, 1, none⟩ = some (.slice none 0 0) := e1
      have HTB := aside htb
      have HM := aside hM
      have HL1 := aside hl1
      have HL2 := aside hl2
      clear e0 e1 htb hM hl1 hl2
      go_wp2
      (try simp only [Exit.inBlock, Exit.then])
      refine bodyPost_ret (results_cell_row rfl _ _ (w.heap.size + 1) 30 #[.slice p1 (1 + tn) q1, .slice p2 ta q2] (0, 0) _ rfl (set_two HTB.out) Tryz.underlying30 rfl Tryz.size30) rfl ?_
      have hb0 : w.heap.size + 1 < W0.heap.size := by have := HSZ.out; omega
      have s1 := ownsRow_setCell_below (a := ⟨w.heap.size + 1, 1, none⟩) (ownsRow_setCell_below (a := ⟨w.heap.size + 1, 0, none⟩) HM.out.o1 hb0 (.slice p1 (1 + tn) q1)) hb0 (.slice p2 ta q2)
      have s2 := ownsRow_setCell_below (a := ⟨w.heap.size + 1, 1, none⟩) (ownsRow_setCell_below (a := ⟨w.heap.size + 1, 0, none⟩) HM.out.o2 hb0 (.slice p1 (1 + tn) q1)) hb0 (.slice p2 ta q2)
      have k1 := HM.out.k1
      rw [show min 7 (1 + tn) = 1 + tn by omega] at k1
      have k2 := HM.out.k2
      rw [show min (7 - 4) ta = ta by omega] at k2
      exact ⟨p1, q1, p2, q2, rfl, ⟨L1, syms_of_owns (fun x hx => (((HM.out.r1 x hx).1.set (p := ⟨w.heap.size + 1, 0, none⟩) hb0 _).set (p := ⟨w.heap.size + 1, 1, none⟩) hb0 _).at) s1, k1⟩, ⟨L2, syms_of_owns (fun x hx => (((HM.out.r2 x hx).set (p := ⟨w.heap.size + 1, 0, none⟩) hb0 _).set (p := ⟨w.heap.size + 1, 1, none⟩) hb0 _).at) s2, k2⟩,
        ((HBB.out.trans (BW.out.mono (by omega))).setCell (p := ⟨w.heap.size + 1, 0, none⟩) (by show w.heap.size ≤ w.heap.size + 1; omega) _).setCell (p := ⟨w.heap.size + 1, 1, none⟩) (by show w.heap.size ≤ w.heap.size + 1; omega) _⟩
end Go.Proofs.YtjiijgdkdlelhaaGreatDoor

/- The order of spellings: complexity, cmp.Compare, cmp.Or, slices.Compare. -/
namespace Go.Proofs.YtjiijgdkdlelhaaGreatDoor
open Go.Shelf Go.RowKit Go.Lib

def cmpI (x y : Int) : Int := if x < y then -1 else if y < x then 1 else 0
theorem nan_calls (x : Int) (w : World) : Calls Tryz.prog 118 #[.int .i64 x] w fun e w' => e = .returned (.bool false) ∧ w' = w := by
  go_enter Tryz.func118, Tryz.ntmps118
  go_wp2
  go_ret
  exact ⟨rfl, rfl⟩
theorem cmp_calls (x y : Int) (w : World) : Calls Tryz.prog 68 #[.int .i64 x, .int .i64 y] w fun e w' => e = .returned (.int .i64 (cmpI x y)) ∧ w' = w := by
  unfold cmpI
  by_cases h1 : x < y
  · rw [if_pos h1]
    go_enter Tryz.func68, Tryz.ntmps68
    go_wp2_with (go_at_call 118; refine (nan_calls _ _).mono ?_; rintro e w1 ⟨rfl, rfl⟩)
    go_ret
    exact ⟨rfl, rfl⟩
  · rw [if_neg h1]
    by_cases h2 : y < x
    · rw [if_pos h2]
      go_enter Tryz.func68, Tryz.ntmps68
      go_wp2_with (go_at_call 118; refine (nan_calls _ _).mono ?_; rintro e w1 ⟨rfl, rfl⟩)
      go_ret
      exact ⟨rfl, rfl⟩
    · rw [if_neg h2]
      go_enter Tryz.func68, Tryz.ntmps68
      go_wp2_with (go_at_call 118; refine (nan_calls _ _).mono ?_; rintro e w1 ⟨rfl, rfl⟩)
      go_ret
      exact ⟨rfl, rfl⟩

def or3 (a b c : Int) : Int := if a ≠ 0 then a else if b ≠ 0 then b else c
set_option maxRecDepth 20000 in
theorem or_calls (a b c : Int) (g : Nat) (w : World) (h0 : w.cell? ⟨g, 0, none⟩ = some (.int .i64 a)) (h1 : w.cell? ⟨g, 1, none⟩ = some (.int .i64 b)) (h2 : w.cell? ⟨g, 2, none⟩ = some (.int .i64 c)) :
    Calls Tryz.prog 67 #[.slice (some ⟨g, 0, none⟩) 3 3] w fun e w' => e = .returned (.int .i64 (or3 a b c)) ∧ w' = w := by
  have H0 := aside h0
  have H1 := aside h1
  have H2 := aside h2
  clear h0 h1 h2
  go_enter Tryz.func67, Tryz.ntmps67
  go_wp2
  go_loopg [5, 8] 3 (fun gg _ s8 wr => wr = w ∧ ((s8 = .int .i64 0 ∧ Aside (3 ≤ gg)) ∨ (s8 = .int .i64 1 ∧ Aside (2 ≤ gg ∧ a = 0)) ∨ (s8 = .int .i64 2 ∧ Aside (1 ≤ gg ∧ a = 0 ∧ b = 0)) ∨ (s8 = .int .i64 3 ∧ Aside (a = 0 ∧ b = 0 ∧ c = 0))))
  case atStart => exact ⟨rfl, .inl ⟨rfl, (show Aside _ from Nat.le_refl _)⟩⟩
  case round =>
    obtain ⟨rfl, ⟨rfl, hg⟩ | ⟨rfl, hg⟩ | ⟨rfl, hg⟩ | ⟨rfl, hg⟩⟩ := hrel
    · have l := H0.out
      by_cases ha : a = 0
      · have HA := aside ha
        clear ha
        have ha2 := HA.out
        go_wp2
        go_roundg 2
        case measure => have := hg.out; omega
        case rel => exact ⟨rfl, .inr (.inl ⟨rfl, (show Aside _ from ⟨Nat.le_refl _, HA.out⟩)⟩)⟩
      · go_wp2
        go_ret
        exact ⟨by unfold or3; rw [if_pos ha]; rfl, rfl⟩
    · have l := H1.out
      obtain ⟨hg, ha⟩ := hg.out
      have HA := aside ha
      have HG := aside hg
      clear ha hg
      by_cases hb : b = 0
      · have HB := aside hb
        go_wp2
        go_roundg 1
        case measure => have := HG.out; omega
        case rel => exact ⟨rfl, .inr (.inr (.inl ⟨rfl, (show Aside _ from ⟨Nat.le_refl _, HA.out, HB.out⟩)⟩))⟩
      · go_wp2
        go_ret
        exact ⟨by unfold or3; rw [if_neg (by simp [HA.out]), if_pos hb]; rfl, rfl⟩
    · have l := H2.out
      obtain ⟨hg, ha, hb⟩ := hg.out
      have HA := aside ha
      have HBB := aside hb
      have HG := aside hg
      clear ha hg hb
      by_cases hc : c = 0
      · have HC := aside hc
        go_wp2
        go_roundg 0
        case measure => have := HG.out; omega
        case rel => exact ⟨rfl, .inr (.inr (.inr ⟨rfl, (show Aside _ from ⟨HA.out, HBB.out, HC.out⟩)⟩))⟩
      · go_wp2
        go_ret
        exact ⟨by unfold or3; rw [if_neg (by simp [HA.out]), if_neg (by simp [HBB.out])]; rfl, rfl⟩
    · obtain ⟨ha, hb, hc⟩ := hg.out
      have HE := aside (show or3 a b c = 0 by unfold or3; rw [if_neg (by simp [ha]), if_neg (by simp [hb]), hc])
      clear ha hb hc
      go_wp2
      go_ret
      exact ⟨by rw [HE.out]; rfl, rfl⟩

/-- Lists in order: the first difference decides, then the length. -/
def cmpL : List Int → List Int → Int
  | [], [] => 0
  | [], _ :: _ => -1
  | _ :: _, [] => 1
  | x :: xs, y :: ys => if cmpI x y ≠ 0 then cmpI x y else cmpL xs ys
theorem cmpL_hit {zs ys : List Int} {k : Nat} (h : k < zs.length) (h' : k < ys.length) (he : cmpI zs[k]! ys[k]! ≠ 0) : cmpL (zs.drop k) (ys.drop k) = cmpI zs[k]! ys[k]! := by
  rw [List.drop_eq_getElem_cons h, List.drop_eq_getElem_cons h', cmpL, if_pos (by rw [← getElem!_pos zs k h, ← getElem!_pos ys k h']; exact he), getElem!_pos zs k h, getElem!_pos ys k h']
theorem cmpL_miss {zs ys : List Int} {k : Nat} (h : k < zs.length) (h' : k < ys.length) (he : cmpI zs[k]! ys[k]! = 0) : cmpL (zs.drop k) (ys.drop k) = cmpL (zs.drop (k + 1)) (ys.drop (k + 1)) := by
  rw [List.drop_eq_getElem_cons h, List.drop_eq_getElem_cons h', cmpL, if_neg (by rw [← getElem!_pos zs k h, ← getElem!_pos ys k h']; simpa using he)]
set_option maxRecDepth 20000 in
set_option maxHeartbeats 2000000 in
theorem cmpRow_calls {v u : Value} {zs ys : List Int} {w : World} (h : RowAt w v zs) (k : RowAt w u ys) (hs : zs.length < 1000) (ks : ys.length < 1000) : Calls Tryz.prog 69 #[v, u] w fun e w' => e = .returned (.int .i64 (cmpL zs ys)) ∧ w' = w := by
  obtain ⟨p, c, rfl⟩ := h.shape
  obtain ⟨p', c', rfl⟩ := k.shape
  have H := aside h
  have K := aside k
  clear h k
  generalize hn : zs.length = n at *
  generalize hm : ys.length = m at *
  have HN := aside hn
  have HM := aside hm
  clear hn hm
  go_enter Tryz.func69, Tryz.ntmps69
  go_wp2
  go_loopg [5, 6, 7, 8, 11] n (fun gg _ _ _ _ s11 wr => wr = w ∧ ∃ kk : Nat, kk ≤ n ∧ kk ≤ m ∧ n - kk ≤ gg ∧ s11 = .int .i64 kk ∧ Aside (cmpL zs ys = cmpL (zs.drop kk) (ys.drop kk)))
  case atStart => exact ⟨rfl, 0, Nat.zero_le _, Nat.zero_le _, by omega, rfl, rfl⟩
  case round =>
    obtain ⟨rfl, kk, hkk, hkm, hg, rfl, A⟩ := hrel
    by_cases hlt : kk < n
    · have hltz : (kk : Int) < (n : Int) := by omega
      rcases H.out.parts with ⟨rfl, h0⟩ | ⟨b, off, rfl, -, hb, hc⟩
      · omega
      have l1 := hc kk (by have := HN.out; omega)
      clear hc hb
      by_cases hltm : kk < m
      · have hltmz : (kk : Int) < (m : Int) := by omega
        rcases K.out.parts with ⟨rfl, h0⟩ | ⟨b', off', rfl, -, hb', hc'⟩
        · omega
        have l2 := hc' kk (by have := HM.out; omega)
        have hh := aside (cmpL_hit (zs := zs) (ys := ys) (k := kk) (by rw [HN.out]; exact hlt) (by rw [HM.out]; exact hltm))
        have hmi := aside (cmpL_miss (zs := zs) (ys := ys) (k := kk) (by rw [HN.out]; exact hlt) (by rw [HM.out]; exact hltm))
        clear hc' hb'
        generalize zs[kk]! = x at l1 hh hmi
        generalize ys[kk]! = y at l2 hh hmi
        have hcm := cmp_calls x y wr
        generalize hq : cmpI x y = q at hcm hh hmi
        clear hq
        have HC := aside hcm
        clear hcm
        by_cases h0 : q = 0
        · have HQ := aside h0
          subst h0
          go_wp2_with (go_at_call 68; refine HC.out.mono ?_; rintro e w1 ⟨rfl, rfl⟩)
          go_roundg (n - (kk + 1))
          case measure => omega
          case rel => exact ⟨rfl, kk + 1, by omega, by omega, by omega, by go_num, (show Aside _ from by rw [A.out, hmi.out HQ.out]; rfl)⟩
        · go_wp2_with (go_at_call 68; refine HC.out.mono ?_; rintro e w1 ⟨rfl, rfl⟩)
          go_ret
          exact ⟨by rw [A.out, hh.out h0]; rfl, rfl⟩
      · have hltmz : ¬ (kk : Int) < (m : Int) := by omega
        have hge : (m : Int) ≤ (kk : Int) := by omega
        have hr : cmpL (zs.drop kk) (ys.drop kk) = 1 := by
          have e2 : ys.drop kk = [] := List.drop_eq_nil_of_le (by rw [HM.out]; omega)
          rw [List.drop_eq_getElem_cons (l := zs) (by rw [HN.out]; exact hlt), e2]
          rfl
        have HR := aside hr
        clear hr
        go_wp2
        go_ret
        exact ⟨by rw [A.out, HR.out]; rfl, rfl⟩
    · have hltz : ¬ (kk : Int) < (n : Int) := by omega
      have : kk = n := by omega
      subst this
      by_cases hlm : (kk : Int) < (m : Int)
      · have hr : cmpL (zs.drop kk) (ys.drop kk) = -1 := by
          have e2 : zs.drop kk = [] := List.drop_eq_nil_of_le (by rw [HN.out]; omega)
          rw [List.drop_eq_getElem_cons (l := ys) (by rw [HM.out]; omega), e2]
          rfl
        have HR := aside hr
        clear hr
        go_wp2
        go_ret
        exact ⟨by rw [A.out, HR.out]; rfl, rfl⟩
      · have hr : cmpL (zs.drop kk) (ys.drop kk) = 0 := by
          have e2 : zs.drop kk = [] := List.drop_eq_nil_of_le (by rw [HN.out]; omega)
          have e3 : ys.drop kk = [] := List.drop_eq_nil_of_le (by rw [HM.out]; omega)
          rw [e2, e3]
          rfl
        have HR := aside hr
        clear hr
        go_wp2
        go_ret
        exact ⟨by rw [A.out, HR.out]; rfl, rfl⟩
theorem rowCompare_calls {v u : Value} {zs ys : List Int} {w : World} (h : RowAt w v zs) (k : RowAt w u ys) (hs : zs.length < 1000) (ks : ys.length < 1000) : Calls Tryz.prog 115 #[v, u] w fun e w' => e = .returned (.int .i64 (cmpL zs ys)) ∧ w' = w := by
  have HC := aside (cmpRow_calls h k hs ks)
  clear h k
  go_enter Tryz.func115, Tryz.ntmps115
  go_wp2_with (go_at_call 69; refine HC.out.mono ?_; rintro e w1 ⟨rfl, rfl⟩)
  go_ret
  exact ⟨rfl, rfl⟩
end Go.Proofs.YtjiijgdkdlelhaaGreatDoor

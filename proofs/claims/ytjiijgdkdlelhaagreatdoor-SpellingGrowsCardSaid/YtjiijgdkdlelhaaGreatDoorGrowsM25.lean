/- The box of spellings: counts as digits. -/
import Derived.Test.YtjiijgdkdlelhaaGreatDoorGrowsM24
import Derived.RangeFuncFrom
import Derived.RangeFuncLeaves
import Derived.RangeFuncCalls
import Derived.OwnWalkIn
import Derived.Sort.LoopGhostIn
/- A range over a function whose iterator writes a block of its own between two rounds. -/
namespace Go.Proofs.YtjiijgdkdlelhaaGreatDoor
open Go Go.RowKit

/-- A step that turns the blocks of G alone, and lays new ones. -/
structure Turn (G : Nat → Prop) (A B : World) : Prop where
  os : B.os = A.os
  tape : B.tape = A.tape
  output : B.output = A.output
  size : A.heap.size ≤ B.heap.size
  same : ∀ k, k < A.heap.size → ¬ G k → B.heap[k]? = A.heap[k]?
theorem Turn.refl (G : Nat → Prop) (A : World) : Turn G A A := ⟨rfl, rfl, rfl, Nat.le_refl _, fun _ _ _ => rfl⟩
theorem Turn.trans {G : Nat → Prop} {A B C : World} (h : Turn G A B) (k : Turn G B C) : Turn G A C :=
  ⟨k.os.trans h.os, k.tape.trans h.tape, k.output.trans h.output, Nat.le_trans h.size k.size, fun i hi hn => (k.same i (Nat.lt_of_lt_of_le hi h.size) hn).trans (h.same i hi hn)⟩
theorem Turn.wider {G H : Nat → Prop} {A B : World} (h : Turn G A B) (hw : ∀ k, G k → H k) : Turn H A B := ⟨h.os, h.tape, h.output, h.size, fun i hi hn => h.same i hi (fun e => hn (hw i e))⟩
theorem Turn.of_below {G : Nat → Prop} {A B : World} (h : Below A.heap.size A B) : Turn G A B := ⟨h.os, h.tape, h.output, h.size, fun i hi _ => h.block i hi⟩
theorem Turn.set {G : Nat → Prop} {A : World} {p : Addr} (u : Value) (hp : G p.block) : Turn G A (A.setCell p u) :=
  ⟨rfl, rfl, rfl, by simp [World.setCell], fun k _ hn => Below.heap_setCell A p u k (fun e => hn (e ▸ hp))⟩
theorem Turn.put {G : Nat → Prop} {A : World} {l : Nat} (o : Obj) (hl : G l) : Turn G A (A.putObj l o) :=
  ⟨rfl, rfl, rfl, by simp, fun k _ hn => World.putObj_heap_other (fun e => hn (e ▸ hl))⟩
/-- A turn of blocks from B on. -/
theorem Turn.below {G : Nat → Prop} {A C : World} {B : Nat} (h : Turn G A C) (hB : B ≤ A.heap.size) (hG : ∀ k, G k → B ≤ k) : Below B A C :=
  ⟨h.os, h.tape, h.output, h.size, fun k hk => h.same k (Nat.lt_of_lt_of_le hk hB) (fun e => by have := hG k e; omega)⟩
theorem Turn.cell {G : Nat → Prop} {A B : World} (h : Turn G A B) {p : Addr} (hp : p.block < A.heap.size) (hn : ¬ G p.block) : B.cell? p = A.cell? p := by
  unfold World.cell?
  rw [h.same p.block hp hn]

section
variable {α : Type}
/-- An iterator that writes its block g between two rounds and keeps all else; its rounds leave g and the blocks of Kept alone. -/
def IterOwn (n : Nat) (P : Program) (gf : Nat) (lb : Array Value) (Lay : Nat → World → Value → α → Prop) (Kept : Nat → Prop) (xs : List α) (w : World) : Prop :=
  ∀ (l : Nat) (J : Nat → List α → World → Prop) (W : World), Below w.heap.size w W →
    (∀ g g' pre X Y, J g pre X → W.heap.size ≤ g → Turn (fun k => k = g) X Y → (g' = g ∨ X.heap.size ≤ g') → J g' pre Y) →
    (∀ g pre x v X0 X, J g pre X0 → W.heap.size ≤ g → g < X0.heap.size → Below X0.heap.size X0 X → Lay X0.heap.size X v x → (pre ++ [x]) <+: xs → YieldAt Fence.wide (n - 1) P l #[v] X fun e X' =>
      e = .returned (.bool true) ∧ J g (pre ++ [x]) X' ∧ X.heap.size ≤ X'.heap.size ∧ ∀ k, (k = g ∨ Kept k) → X'.heap[k]? = X.heap[k]?) →
    J W.heap.size [] W →
    CallsIn Fence.wide n P gf (#[.func (.yield l) #[] #[]] ++ lb) W fun e W' => (∃ v, e = .returned v) ∧ ∃ g, W.heap.size ≤ g ∧ J g xs W'

theorem wpIn_rangeFunc_turn {P : Program} {n : Nat} {g : Operand} {assign body : Code} {Q : Exit → Act → World → Prop} {a : Act} {w : World} {gf : Nat} {lb : Array Value} {p : Tmp}
    (hg : a.eval g = .func (.func gf) #[] lb) (eg : ∀ args w, (callFunc gf args).run P w = .ok (.enter gf args) w)
    {Lay : Nat → World → Value → α → Prop} {Kept : Nat → Prop} {xs : List α} (hseq : IterOwn (n - 1) P gf lb Lay Kept xs w) (hk : ∀ k, Kept k → k < w.heap.size)
    (I : Nat → List α → World → Prop)
    (hI : ∀ g g' pre X Y, I g pre X → w.heap.size + 2 ≤ g → Turn (fun k => k = g ∨ k = w.heap.size + 1) X Y → (g' = g ∨ X.heap.size ≤ g') → I g' pre Y)
    (h0 : ∀ W, Below w.heap.size w W → W.heap.size = w.heap.size + 2 → I (w.heap.size + 2) [] W)
    (at0 : World → Value → Act) (aw : World → Value → World) (haw : ∀ X v, Below X.heap.size X (aw X v))
    (hassign : ∀ (l B : Nat) (x : α) (v : Value) (X : World) (K : Act → World → Prop), Lay B X v x → K (at0 X v) (aw X v) →
      assign.wpIn (Fence.wide.inRound l) (n - 1 - 1) P (Exit.then K (fun _ _ _ => False)) { tmps := a.tmps.setIfInBounds p v, defers := [] } X)
    (hbody : ∀ (l g : Nat) (pre : List α) (x : α) (v : Value) (X0 X W : World), I g pre X0 → w.heap.size + 2 ≤ g → g < X0.heap.size → Below X0.heap.size X0 X → Lay X0.heap.size X v x → Turn (fun k => k = w.heap.size + 1) (aw X v) W → (pre ++ [x]) <+: xs →
      body.wpIn (Fence.wide.inRound l) (n - 1 - 1) P (fun e _ W' => e = .normal ∧ (W.heap.size ≤ W'.heap.size ∧ (∀ k, (k = g ∨ k = w.heap.size ∨ k = w.heap.size + 1 ∨ Kept k) → W'.heap[k]? = W.heap[k]?) ∧ I g (pre ++ [x]) W')) (at0 X v) W)
    (hdone : ∀ (g : Nat) (W : World), w.heap.size + 2 ≤ g → I g xs W → W.heap[w.heap.size]? = some (.deferred (some [])) → Q .normal { a with defers := { target := .collected w.heap.size, args := #[] } :: a.defers } W) :
    (Code.rangeFunc g #[p] assign body).wpIn Fence.wide n P Q a w := by
  refine wpIn_rangeFunc ?_
  intro fn hfn
  obtain ⟨rec, hrec⟩ : ∃ rec : LoopState → Option Code → Loop, rec = fun st pe => { state := st, pending := pe, fn, tmps := a.tmps, params := #[p], assign, body, defers := w.heap.size } := ⟨_, rfl⟩
  obtain ⟨W1, hW1⟩ : ∃ W1, (w.alloc (.deferred (some []))).alloc (.loop (rec .ready none)) = W1 := ⟨_, rfl⟩
  have hs1 : W1.heap.size = w.heap.size + 2 := by rw [← hW1]; simp
  have hL1 : W1.heap[w.heap.size + 1]? = some (.loop (rec .ready none)) := by
    rw [← hW1]; have := World.alloc_heap_new (w.alloc (.deferred (some []))) (.loop (rec .ready none)); rwa [World.size_alloc] at this
  have hK1 : W1.heap[w.heap.size]? = some (.deferred (some [])) := by
    rw [← hW1]; exact (Below.heap_alloc _ _ _ (by simp)).trans (World.alloc_heap_new w _)
  have hb1 : Below w.heap.size w W1 := by
    rw [← hW1]; exact ((Below.refl _ w).alloc (Nat.le_refl _) _).alloc (by simp) _
  refine ⟨w.heap.size + 1, [{ target := .collected w.heap.size, args := #[] }], W1, { target := .fn (.func gf) lb, args := #[.func (.yield (w.heap.size + 1)) #[] #[]] }, W1, gf,
    #[.func (.yield (w.heap.size + 1)) #[] #[]] ++ lb, W1, ?_, ?_, ?_, ?_, (fun h => by cases h), ?_⟩
  · rw [← hW1, hrec]; exact run_enterLoop_outer _ _ _ _ _
  · simp only [resolve, hg]
    simp [go_sem]
  · intro f' _; exact trivial
  · simp [invoke, go_sem, eg]
  · refine (hseq (w.heap.size + 1)
      (fun g pre W => I g pre W ∧ W.heap[w.heap.size + 1]? = some (.loop (rec .ready none)) ∧ W.heap[w.heap.size]? = some (.deferred (some [])))
      W1 hb1 ?_ ?_ ⟨by rw [hs1]; exact h0 W1 hb1 hs1, hL1, hK1⟩).mono ?_
    · rintro g g' pre X Y ⟨hi, hl, hd⟩ hgB ht he
      rw [hs1] at hgB
      refine ⟨hI g g' pre X Y hi hgB (ht.wider (fun k e => .inl e)) he, ?_, ?_⟩
      · rw [ht.same _ (Array.getElem?_eq_some_iff.1 hl).1 (by omega)]; exact hl
      · rw [ht.same _ (Array.getElem?_eq_some_iff.1 hd).1 (by omega)]; exact hd
    · rintro g pre x v X0 X ⟨hi, hl, hd⟩ hgB hgX hbel hlay hpre
      rw [hs1] at hgB
      have hlt0 : w.heap.size + 1 < X0.heap.size := (Array.getElem?_eq_some_iff.1 hl).1
      have hl0 := (hbel.block _ hlt0).trans hl
      have hy := run_yield (P := P) (args := #[v]) hl0 (by rw [hrec]; rfl)
      rw [hrec] at hy
      refine ⟨fn, _, assign, body, hy, roundIn_of_wpIn hfn ?_⟩
      have hz : (#[p].zip #[v]).foldl (fun tmps (t, a) => tmps.setIfInBounds t a) a.tmps = a.tmps.setIfInBounds p v := by simp
      refine hz ▸ hassign _ _ x v X _ hlay ?_
      have hX0 : X0.heap.size ≤ X.heap.size := hbel.size
      have hbA := haw X v
      have hl := (hbA.block _ (by omega)).trans hl0
      have hd := (hbA.block _ (by omega)).trans ((hbel.block _ (by omega)).trans hd)
      obtain ⟨A, hA⟩ : ∃ A, aw X v = A := ⟨_, rfl⟩
      rw [hA] at hbA hl hd ⊢
      have hXA := hbA.size
      refine ⟨_, run_beginRound hl (by rw [hrec]), ?_⟩
      have hlt : w.heap.size + 1 < A.heap.size := by omega
      have t2 : Turn (fun k => k = w.heap.size + 1) A (A.putObj (w.heap.size + 1) (.loop { rec .ready none with state := .busy })) := Turn.put _ rfl
      have hl2 : (A.putObj (w.heap.size + 1) (.loop { rec .ready none with state := .busy })).heap[w.heap.size + 1]? = some (.loop { rec .ready none with state := .busy }) := World.putObj_heap_same hlt
      have hd2 : (A.putObj (w.heap.size + 1) (.loop { rec .ready none with state := .busy })).heap[w.heap.size]? = some (.deferred (some [])) := (World.putObj_heap_other (by omega)).trans hd
      refine wpIn_mono (hbody _ g pre x v X0 X _ hi hgB hgX hbel hlay (hA ▸ t2) hpre) ?_
      rintro e a3 W3 ⟨rfl, hsz, hkeep, hi3⟩
      have hl3 : W3.heap[w.heap.size + 1]? = some (.loop { rec .ready none with state := .busy }) := (hkeep _ (.inr (.inr (.inl rfl)))).trans hl2
      have hd3 : W3.heap[w.heap.size]? = some (.deferred (some [])) := (hkeep _ (.inr (.inl rfl))).trans hd2
      have hr := run_endRound (P := P) none hl3
      rw [hrec] at hr
      refine ⟨_, _, hr, rfl, ⟨?_, ?_, ?_⟩, ?_, ?_⟩
      · exact hI g g _ _ _ hi3 hgB (Turn.put _ (.inr rfl)) (.inl rfl)
      · rw [hrec]; exact World.putObj_heap_same (Array.getElem?_eq_some_iff.1 hl3).1
      · exact (World.putObj_heap_other (by omega)).trans hd3
      · rw [World.putObj_size]
        rw [World.putObj_size] at hsz
        omega
      · intro k hk2
        have hk3 : k ≠ w.heap.size + 1 ∧ k < X.heap.size := by
          rcases hk2 with rfl | hk2
          · omega
          · have := hk k hk2; omega
        rw [World.putObj_heap_other hk3.1, hkeep k (hk2.elim .inl (fun e => .inr (.inr (.inr e)))), World.putObj_heap_other hk3.1, hbA.block k hk3.2]
    · rintro e W2 ⟨⟨v, rfl⟩, g, hgB, hi, hl, hd⟩
      rw [hs1] at hgB
      refine ⟨none, _, by have := run_endLoop (P := P) hl (by rw [hrec]; simp); rw [hrec] at this; exact this, hdone g _ hgB (hI g g _ _ _ hi hgB (Turn.put _ (.inr rfl)) (.inl rfl)) ((World.putObj_heap_other (by omega)).trans hd)⟩
end
end Go.Proofs.YtjiijgdkdlelhaaGreatDoor

/- The box of spellings: counts as digits. -/
namespace Go.Proofs.YtjiijgdkdlelhaaGreatDoor
open Go

/-- Counts of m accidentals: the digits of v, the least first. -/
def dig (k : Nat) : Nat → Nat → List Int
  | 0, _ => []
  | m + 1, v => (((v % (2 * k + 1) : Nat) : Int) - (k : Int)) :: dig k m (v / (2 * k + 1))
def nxt (k : Nat) : List Int → Option (List Int)
  | [] => none
  | x :: xs => if x = (k : Int) then (nxt k xs).map (fun l => (-(k : Int)) :: l) else some ((x + 1) :: xs)
theorem dig_length (k : Nat) : ∀ m v, (dig k m v).length = m
  | 0, _ => rfl
  | m + 1, v => by simp [dig, dig_length k m]
theorem dig_zero (k : Nat) : ∀ m, dig k m 0 = List.replicate m (-(k : Int))
  | 0 => rfl
  | m + 1 => by
    unfold dig
    rw [Nat.zero_div, dig_zero k m, List.replicate_succ, Nat.zero_mod]
    congr 1
    omega
theorem nxt_dig (k : Nat) : ∀ m v, v < (2 * k + 1) ^ m → nxt k (dig k m v) = if v + 1 < (2 * k + 1) ^ m then some (dig k m (v + 1)) else none
  | 0, v, h => by
    rw [Nat.pow_zero] at h ⊢
    rw [if_neg (by omega)]
    rfl
  | m + 1, v, h => by
    have hB : 0 < 2 * k + 1 := by omega
    rw [Nat.pow_succ] at h ⊢
    have hq : v / (2 * k + 1) < (2 * k + 1) ^ m := Nat.div_lt_of_lt_mul (by rw [Nat.mul_comm]; exact h)
    have ih := nxt_dig k m (v / (2 * k + 1)) hq
    have hv := Nat.div_add_mod v (2 * k + 1)
    have hr := Nat.mod_lt v hB
    generalize hqd : v / (2 * k + 1) = q at *
    generalize hrd : v % (2 * k + 1) = r at *
    have e1 : dig k (m + 1) v = ((r : Int) - (k : Int)) :: dig k m q := by show _ :: _ = _; rw [hqd, hrd]
    rw [e1]
    by_cases hk : r = 2 * k
    · have e2 : (v + 1) = (2 * k + 1) * (q + 1) := by rw [Nat.mul_add, Nat.mul_one]; omega
      have e3 : (v + 1) / (2 * k + 1) = q + 1 := by rw [e2, Nat.mul_div_cancel_left _ hB]
      have e4 : (v + 1) % (2 * k + 1) = 0 := by rw [e2, Nat.mul_mod_right]
      have e5 : dig k (m + 1) (v + 1) = (-(k : Int)) :: dig k m (q + 1) := by
        show _ :: _ = _
        rw [e3, e4]
        congr 1
        omega
      have e6 : (v + 1 < (2 * k + 1) ^ m * (2 * k + 1)) ↔ (q + 1 < (2 * k + 1) ^ m) := by
        rw [e2, Nat.mul_comm]
        exact Nat.mul_lt_mul_right hB
      rw [e5]
      unfold nxt
      rw [if_pos (by omega), ih]
      by_cases h6 : q + 1 < (2 * k + 1) ^ m
      · rw [if_pos h6, if_pos (e6.2 h6)]; rfl
      · rw [if_neg h6, if_neg (fun e => h6 (e6.1 e))]; rfl
    · have e2 : v + 1 = (r + 1) + (2 * k + 1) * q := by omega
      have e3 : (v + 1) / (2 * k + 1) = q := by rw [e2, Nat.add_mul_div_left _ _ hB, Nat.div_eq_of_lt (by omega), Nat.zero_add]
      have e4 : (v + 1) % (2 * k + 1) = r + 1 := by rw [e2, Nat.add_mul_mod_self_left, Nat.mod_eq_of_lt (by omega)]
      have e5 : dig k (m + 1) (v + 1) = ((r : Int) - (k : Int) + 1) :: dig k m q := by
        show _ :: _ = _
        rw [e3, e4]
        congr 1
        omega
      have e6 : v + 1 < (2 * k + 1) ^ m * (2 * k + 1) := by
        have h1 : (2 * k + 1) * (q + 1) ≤ (2 * k + 1) * (2 * k + 1) ^ m := Nat.mul_le_mul_left _ hq
        rw [Nat.mul_add, Nat.mul_one] at h1
        rw [Nat.mul_comm ((2 * k + 1) ^ m)]
        omega
      rw [if_pos e6, e5]
      unfold nxt
      rw [if_neg (by omega)]
theorem dig_inj (k : Nat) : ∀ m u v, u < (2 * k + 1) ^ m → v < (2 * k + 1) ^ m → dig k m u = dig k m v → u = v
  | 0, u, v, hu, hv, _ => by rw [Nat.pow_zero] at hu hv; omega
  | m + 1, u, v, hu, hv, h => by
    rw [Nat.pow_succ] at hu hv
    have h' : (((u % (2 * k + 1) : Nat) : Int) - (k : Int)) :: dig k m (u / (2 * k + 1)) = (((v % (2 * k + 1) : Nat) : Int) - (k : Int)) :: dig k m (v / (2 * k + 1)) := h
    injection h' with h1 h2
    have := dig_inj k m _ _ (Nat.div_lt_of_lt_mul (by rw [Nat.mul_comm]; exact hu)) (Nat.div_lt_of_lt_mul (by rw [Nat.mul_comm]; exact hv)) h2
    have a := Nat.div_add_mod u (2 * k + 1)
    have b := Nat.div_add_mod v (2 * k + 1)
    rw [this] at a
    omega
theorem dig_mem (k : Nat) : ∀ m v x, x ∈ dig k m v → -(k : Int) ≤ x ∧ x ≤ (k : Int)
  | 0, _, _, h => by cases h
  | m + 1, v, x, h => by
    have h' : x ∈ (((v % (2 * k + 1) : Nat) : Int) - (k : Int)) :: dig k m (v / (2 * k + 1)) := h
    rcases List.mem_cons.1 h' with rfl | h2
    · have := Nat.mod_lt v (show 0 < 2 * k + 1 by omega)
      omega
    · exact dig_mem k m _ x h2
theorem dig_surj (k : Nat) : ∀ (c : List Int), (∀ x ∈ c, -(k : Int) ≤ x ∧ x ≤ (k : Int)) → ∃ v, v < (2 * k + 1) ^ c.length ∧ dig k c.length v = c
  | [], _ => ⟨0, by simp, rfl⟩
  | x :: xs, h => by
    obtain ⟨q, hq, e⟩ := dig_surj k xs (fun y hy => h y (List.mem_cons_of_mem _ hy))
    obtain ⟨h1, h2⟩ := h x (List.mem_cons_self ..)
    have hB : 0 < 2 * k + 1 := by omega
    obtain ⟨r, hr⟩ : ∃ r : Nat, (r : Int) = x + k := ⟨(x + k).toNat, by omega⟩
    have hr2 : r < 2 * k + 1 := by omega
    refine ⟨r + (2 * k + 1) * q, ?_, ?_⟩
    · rw [List.length_cons, Nat.pow_succ]
      have h1 : (2 * k + 1) * (q + 1) ≤ (2 * k + 1) * (2 * k + 1) ^ xs.length := Nat.mul_le_mul_left _ hq
      rw [Nat.mul_add, Nat.mul_one] at h1
      rw [Nat.mul_comm ((2 * k + 1) ^ xs.length)]
      omega
    · rw [List.length_cons]
      show _ :: _ = _
      rw [Nat.add_mul_mod_self_left, Nat.mod_eq_of_lt hr2, Nat.add_mul_div_left _ _ hB, Nat.div_eq_of_lt hr2, Nat.zero_add, e]
      congr 1
      omega

/-- The spellings that have come when nominal i stands at counts v. -/
def boxTo (k m i v : Nat) : List (Nat × List Int) := (List.range i).flatMap (fun j => (List.range ((2 * k + 1) ^ m)).map fun u => (j, dig k m u)) ++ (List.range v).map fun u => (i, dig k m u)
theorem boxTo_succ (k m i v : Nat) : boxTo k m i v ++ [(i, dig k m v)] = boxTo k m i (v + 1) := by
  unfold boxTo
  rw [List.append_assoc, List.range_succ, List.map_append]
  rfl
theorem boxTo_end (k m i : Nat) : boxTo k m i ((2 * k + 1) ^ m) = boxTo k m (i + 1) 0 := by
  unfold boxTo
  rw [List.range_succ, List.flatMap_append]
  simp
theorem boxTo_zero (k m : Nat) : boxTo k m 0 0 = [] := rfl
theorem boxTo_prefix_v (k m i : Nat) {u v : Nat} (h : u ≤ v) : boxTo k m i u <+: boxTo k m i v := by
  obtain ⟨d, rfl⟩ := Nat.exists_eq_add_of_le h
  clear h
  induction d with
  | zero => exact List.prefix_rfl
  | succ d ih => exact ih.trans ⟨_, boxTo_succ k m i (u + d)⟩
theorem boxTo_prefix_i (k m : Nat) {i j : Nat} (h : i ≤ j) : boxTo k m i 0 <+: boxTo k m j 0 := by
  obtain ⟨d, rfl⟩ := Nat.exists_eq_add_of_le h
  clear h
  induction d with
  | zero => exact List.prefix_rfl
  | succ d ih => exact ih.trans (by rw [← Nat.add_assoc, ← boxTo_end]; exact boxTo_prefix_v k m _ (Nat.zero_le _))
theorem boxTo_prefix (k m : Nat) {i v n : Nat} (hi : i < n) (hv : v < (2 * k + 1) ^ m) : (boxTo k m i v ++ [(i, dig k m v)]) <+: boxTo k m n 0 := by
  rw [boxTo_succ]
  exact (boxTo_prefix_v k m i hv).trans (by rw [boxTo_end]; exact boxTo_prefix_i k m hi)
theorem boxTo_mem (k m n : Nat) (x : Nat × List Int) : x ∈ boxTo k m n 0 ↔ x.1 < n ∧ x.2.length = m ∧ ∀ y ∈ x.2, -(k : Int) ≤ y ∧ y ≤ (k : Int) := by
  unfold boxTo
  rw [List.range_zero, List.map_nil, List.append_nil, List.mem_flatMap]
  constructor
  · rintro ⟨j, hj, hx⟩
    obtain ⟨u, hu, rfl⟩ := List.mem_map.1 hx
    exact ⟨List.mem_range.1 hj, dig_length k m u, fun y hy => dig_mem k m u y hy⟩
  · rintro ⟨h1, h2, h3⟩
    obtain ⟨u, hu, e⟩ := dig_surj k x.2 h3
    rw [h2] at hu e
    exact ⟨x.1, List.mem_range.2 h1, List.mem_map.2 ⟨u, List.mem_range.2 hu, by rw [e]⟩⟩
theorem boxTo_nodup (k m n : Nat) : (boxTo k m n 0).Nodup := by
  unfold boxTo
  rw [List.range_zero, List.map_nil, List.append_nil]
  rw [List.nodup_iff_pairwise_ne, List.pairwise_flatMap]
  constructor
  · intro j _
    rw [List.pairwise_map]
    refine List.Pairwise.imp_of_mem ?_ (List.nodup_range (n := (2 * k + 1) ^ m))
    intro a b ha hb hab e
    injection e with _ e2
    exact hab (dig_inj k m a b (List.mem_range.1 ha) (List.mem_range.1 hb) e2)
  · refine List.Pairwise.imp_of_mem ?_ (List.nodup_range (n := n))
    intro a b _ _ hab x hx y hy e
    obtain ⟨_, _, rfl⟩ := List.mem_map.1 hx
    obtain ⟨_, _, rfl⟩ := List.mem_map.1 hy
    injection e with e1 _
    exact hab e1
end Go.Proofs.YtjiijgdkdlelhaaGreatDoor

/- Lists of spellings: equal, EqualFunc, same. -/
import Derived.Test.YtjiijgdkdlelhaaGreatDoorGrowsM23
import Derived.Shelf.SlSortCmp.QuietGrown
/- spelling.complexity and spelling.order. -/
namespace Go.Proofs.YtjiijgdkdlelhaaGreatDoor
open Go.Shelf Go.RowKit Go.Lib Go.Sort

/-- The sum of numbers without their signs. -/
def cx : List Int → Int
  | [] => 0
  | k :: ks => max k (-k) + cx ks
theorem cx_append (a b : List Int) : cx (a ++ b) = cx a + cx b := by
  induction a with
  | nil => simp [cx]
  | cons x a ih => simp only [List.cons_append, cx, ih]; omega
def cxTo (zs : List Int) (i : Nat) : Int := cx (zs.take i)
theorem cxTo_succ {zs : List Int} {i : Nat} (h : i < zs.length) : cxTo zs (i + 1) = cxTo zs i + max zs[i]! (-zs[i]!) := by
  unfold cxTo
  rw [List.take_add_one, List.getElem?_eq_getElem h, getElem!_pos zs i h, cx_append]
  simp [cx]
theorem cxTo_bnd {zs : List Int} (hb : bndL 1000000000 zs) : ∀ i, i ≤ zs.length → 0 ≤ cxTo zs i ∧ cxTo zs i ≤ i * 1000000000
  | 0, _ => by unfold cxTo cx; simp
  | i + 1, h => by
    have h1 := cxTo_bnd hb i (by omega)
    have h2 := hb i (by omega)
    rw [cxTo_succ (by omega)]
    omega
theorem cxTo_end (zs : List Int) : cxTo zs zs.length = cx zs := by unfold cxTo; rw [List.take_length]

set_option maxRecDepth 20000 in
set_option maxHeartbeats 2000000 in
theorem complexity_calls {k : Int} {p : Option Addr} {n c : Nat} {zs : List Int} {w : World} (h : RowAt w (.slice p n c) zs) (hs : zs.length < 1000) (hb : bndL 1000000000 zs) :
    Calls Tryz.prog 77 #[.agg #[.int .i64 k, .slice p n c]] w fun e w' => e = .returned (.int .i64 (cx zs)) ∧ w' = w.alloc (.cells #[.int .i64 k, .slice p n c] 42) := by
  have hl := h.len
  have H := aside h
  have HB := aside hb
  have HL := aside hl
  have hns : n < 1000 := by omega
  clear h hb hl hs
  go_enter Tryz.func77, Tryz.ntmps77
  go_wp2
  go_loopg [3, 5, 9] n (fun gg s3 _ s9 wr => wr = w.alloc (.cells #[.int .i64 k, .slice p n c] 42) ∧ ∃ i : Nat, i ≤ n ∧ n - i ≤ gg ∧ s9 = .int .i64 i ∧ s3 = .int .i64 (cxTo zs i))
  case atStart => exact ⟨rfl, 0, Nat.zero_le _, by omega, rfl, rfl⟩
  case round =>
    obtain ⟨rfl, i, hi, hg, rfl, rfl⟩ := hrel
    by_cases hlt : i < n
    · have hltz : (i : Int) < (n : Int) := by omega
      rcases H.out.parts with ⟨_, h0⟩ | ⟨b, off, rfl, -, hb, hc⟩
      · omega
      have hil : i < zs.length := by rw [← HL.out]; exact hlt
      have l1 := ((below_alloc w (.cells #[.int .i64 k, .slice (some ⟨b, off, none⟩) n c] 42)).cell (p := ⟨b, off + i, none⟩) hb).trans (hc i hil)
      have hx := HB.out i hil
      have hst := aside (cxTo_succ hil)
      obtain ⟨hc1, hc2⟩ := cxTo_bnd HB.out i (Nat.le_of_lt hil)
      clear hc hb hil
      generalize zs[i]! = x at l1 hx hst
      generalize cxTo zs i = s at hc1 hc2 hst
      have hm1 : -9223372036854775808 ≤ -x := by omega
      have hm2 : -x ≤ 9223372036854775807 := by omega
      have hm3 : -9223372036854775808 ≤ s + max x (-x) := by omega
      have hm4 : s + max x (-x) ≤ 9223372036854775807 := by omega
      clear hx hc1 hc2
      go_wp2
      go_roundg (n - (i + 1))
      case measure => omega
      case rel => exact ⟨rfl, i + 1, by omega, by omega, by go_num, by rw [hst.out]⟩
    · have hltz : ¬ (i : Int) < (n : Int) := by omega
      have : i = n := by omega
      subst this
      go_wp2
      go_ret
      refine ⟨?_, rfl⟩
      rw [HL.out, cxTo_end]
      rfl
theorem complexity_grown {k : Int} {p : Option Addr} {n c : Nat} {zs : List Int} {w : World} (h : RowAt w (.slice p n c) zs) (hs : zs.length < 1000) (hb : bndL 1000000000 zs) (q : Nat) (os : Array Obj) :
    Calls Tryz.prog 77 #[.agg #[.int .i64 k, .slice p n c]] (grow (w.drewN q) os) fun e w' => e = .returned (.int .i64 (cx zs)) ∧ ∃ p : GrownBy, w' = grow (w.drewN p.n) p.os := by
  have hB : Below w.heap.size w (grow (w.drewN q) os) := ⟨rfl, rfl, rfl, by simp, fun i hi => by rw [heap_grow_old _ _ (by exact hi)]; rfl⟩
  refine (complexity_calls (h.mono hB) hs hb).mono ?_
  rintro e w' ⟨rfl, rfl⟩
  exact ⟨rfl, ⟨q, os ++ #[.cells #[.int .i64 k, .slice p n c] 42]⟩, by rw [alloc_eq_grow, grow_grow]⟩

theorem cmp_grown (x y : Int) (w : World) (q : Nat) (os : Array Obj) : Calls Tryz.prog 68 #[.int .i64 x, .int .i64 y] (grow (w.drewN q) os) fun e w' => e = .returned (.int .i64 (cmpI x y)) ∧ ∃ p : GrownBy, w' = grow (w.drewN p.n) p.os :=
  (cmp_calls x y _).mono fun _ _ ⟨he, hw⟩ => ⟨he, ⟨q, os⟩, hw⟩
theorem below_grown (w : World) (q : Nat) (os : Array Obj) : Below w.heap.size w (grow (w.drewN q) os) := ⟨rfl, rfl, rfl, by simp, fun i hi => by rw [heap_grow_old _ _ (by exact hi)]; rfl⟩
theorem rowCompare_grown {v u : Value} {zs ys : List Int} {w : World} (h : RowAt w v zs) (k : RowAt w u ys) (hs : zs.length < 1000) (ks : ys.length < 1000) (q : Nat) (os : Array Obj) : Calls Tryz.prog 115 #[v, u] (grow (w.drewN q) os) fun e w' => e = .returned (.int .i64 (cmpL zs ys)) ∧ ∃ p : GrownBy, w' = grow (w.drewN p.n) p.os :=
  (rowCompare_calls (h.mono (below_grown w q os)) (k.mono (below_grown w q os)) hs ks).mono fun _ _ ⟨he, hw⟩ => ⟨he, ⟨q, os⟩, hw⟩
def ordS (n1 : Int) (c1 : List Int) (n2 : Int) (c2 : List Int) : Int := or3 (cmpI (cx c1) (cx c2)) (cmpI n1 n2) (cmpL c1 c2)
set_option maxRecDepth 20000 in
set_option maxHeartbeats 4000000 in
theorem order_calls {k1 k2 : Int} {p1 p2 : Option Addr} {n1 q1 n2 q2 : Nat} {z1 z2 : List Int} {w : World} (h1 : RowAt w (.slice p1 n1 q1) z1) (h2 : RowAt w (.slice p2 n2 q2) z2) (s1 : z1.length < 1000) (s2 : z2.length < 1000) (b1 : bndL 1000000000 z1) (b2 : bndL 1000000000 z2) :
    Calls Tryz.prog 63 #[.agg #[.int .i64 k1, .slice p1 n1 q1], .agg #[.int .i64 k2, .slice p2 n2 q2]] w fun e w' => e = .returned (.int .i64 (ordS k1 z1 k2 z2)) ∧ ∃ p : GrownBy, w' = grow (w.drewN p.n) p.os := by
  have hb := below_then (below_alloc w (.cells #[.int .i64 k1, .slice p1 n1 q1] 42)) (below_alloc _ (.cells #[.int .i64 k2, .slice p2 n2 q2] 42))
  have hsz : ((w.alloc (.cells #[.int .i64 k1, .slice p1 n1 q1] 42)).alloc (.cells #[.int .i64 k2, .slice p2 n2 q2] 42)).heap.size = w.heap.size + 2 := by simp
  have bx := cell_step ⟨by simp, (cell_two w (.int .i64 k1) (.slice p1 n1 q1) 42).1, (cell_two w (.int .i64 k1) (.slice p1 n1 q1) 42).2⟩ (below_alloc _ (.cells #[.int .i64 k2, .slice p2 n2 q2] 42))
  have by0 := cell_two (w.alloc (.cells #[.int .i64 k1, .slice p1 n1 q1] 42)) (.int .i64 k2) (.slice p2 n2 q2) 42
  rw [show (w.alloc (.cells #[.int .i64 k1, .slice p1 n1 q1] 42)).heap.size = w.heap.size + 1 by simp] at by0
  have H1 := h1.mono hb
  have H2 := h2.mono hb
  obtain ⟨W0, hW0⟩ : ∃ W0, (w.alloc (.cells #[.int .i64 k1, .slice p1 n1 q1] 42)).alloc (.cells #[.int .i64 k2, .slice p2 n2 q2] 42) = W0 := ⟨_, rfl⟩
  rw [hW0] at hb hsz bx by0 H1 H2
  have e0 : ∀ (n : Nat) (os : Array Obj), (grow (W0.drewN n) os).cell? ⟨w.heap.size, 0, none⟩ = some (.int .i64 k1) := fun n os => cell_grown (a := ⟨w.heap.size, 0, none⟩) (by show w.heap.size < _; omega) bx.2.1 n os
  have e1 : ∀ (n : Nat) (os : Array Obj), (grow (W0.drewN n) os).cell? ⟨w.heap.size, 1, none⟩ = some (.slice p1 n1 q1) := fun n os => cell_grown (a := ⟨w.heap.size, 1, none⟩) (by show w.heap.size < _; omega) bx.2.2 n os
  have e2 : ∀ (n : Nat) (os : Array Obj), (grow (W0.drewN n) os).cell? ⟨w.heap.size + 1, 0, none⟩ = some (.int .i64 k2) := fun n os => cell_grown (a := ⟨w.heap.size + 1, 0, none⟩) (by show w.heap.size + 1 < _; omega) by0.1 n os
  have e3 : ∀ (n : Nat) (os : Array Obj), (grow (W0.drewN n) os).cell? ⟨w.heap.size + 1, 1, none⟩ = some (.slice p2 n2 q2) := fun n os => cell_grown (a := ⟨w.heap.size + 1, 1, none⟩) (by show w.heap.size + 1 < _; omega) by0.2 n os
  have c1 := aside fun (q : Nat) (os : Array Obj) => complexity_grown (k := k1) H1 s1 b1 q os
  have c2 := aside fun (q : Nat) (os : Array Obj) => complexity_grown (k := k2) H2 s2 b2 q os
  have c3 := aside fun (q : Nat) (os : Array Obj) => cmp_grown (cx z1) (cx z2) W0 q os
  have c4 := aside fun (q : Nat) (os : Array Obj) => cmp_grown k1 k2 W0 q os
  have c5 := aside fun (q : Nat) (os : Array Obj) => rowCompare_grown H1 H2 s1 s2 q os
  have HB := aside hb
  have HW0 := aside hW0
  clear hb hsz bx by0 h1 h2 hW0 b1 b2 H1 H2
  go_enter Tryz.func63, Tryz.ntmps63
  go_wp2
  rw [HW0.out]
  refine wp_region_quiet_tail (C := fun w' => ∃ p : GrownBy, w' = grow (W0.drewN p.n) p.os) 15 (by kernel_rfl) (by kernel_rfl) ⟨⟨1, #[]⟩, by rw [grow_empty]; rfl⟩ ?_
  simp only [List.take_succ_cons, List.take_zero, List.drop_succ_cons, List.drop_zero]
  quiet_step (fail)
  quiet_step (exact c1.out _ _)
  quiet_step (fail)
  quiet_step (exact c2.out _ _)
  quiet_step (exact c3.out _ _)
  quiet_step (fail)
  quiet_step (fail)
  quiet_step (fail)
  quiet_step (fail)
  quiet_step (exact c4.out _ _)
  quiet_step (fail)
  quiet_step (fail)
  quiet_step (fail)
  quiet_step (fail)
  quiet_step (exact c5.out _ _)
  refine wpQuiet_nil ?_
  rintro w2 ⟨⟨nq, osq⟩, hw2⟩
  have HW2 := aside hw2
  clear hw2 e0 e1 e2 e3
  have ho := or_calls (cmpI (cx z1) (cx z2)) (cmpI k1 k2) (cmpL z1 z2) w2.heap.size (w2.alloc (.cells #[.int .i64 (cmpI (cx z1) (cx z2)), .int .i64 (cmpI k1 k2), .int .i64 (cmpL z1 z2)] 3)) (cell_of_row _ _ 0 _ 3 (0, 0) (heap_alloc_new w2 _)) (cell_of_row _ _ 1 _ 3 (0, 0) (heap_alloc_new w2 _)) (cell_of_row _ _ 2 _ 3 (0, 0) (heap_alloc_new w2 _))
  have HO := aside ho
  clear ho
  go_wp2_with (go_at_call 67; refine HO.out.mono ?_; rintro e w3 ⟨rfl, rfl⟩)
  go_ret
  refine ⟨rfl, ⟨nq, #[.cells #[.int .i64 k1, .slice p1 n1 q1] 42, .cells #[.int .i64 k2, .slice p2 n2 q2] 42] ++ osq ++ #[.cells #[.int .i64 (cmpI (cx z1) (cx z2)), .int .i64 (cmpI k1 k2), .int .i64 (cmpL z1 z2)] 3]⟩, ?_⟩
  rw [HW2.out, ← HW0.out, alloc_eq_grow, alloc_eq_grow, alloc_eq_grow, grow_grow, grow_grow]
  show grow (grow (w.drewN nq) _) _ = grow (w.drewN nq) _
  rw [grow_grow]
  congr 1
  apply Array.ext'
  simp
end Go.Proofs.YtjiijgdkdlelhaaGreatDoor

/- spelling.bound where it is possible; slices.Equal over lists of spellings is to follow. -/
namespace Go.Proofs.YtjiijgdkdlelhaaGreatDoor
open Go.Shelf Go.RowKit Go.Lib

/-- The size of the box behind i accidentals. -/
def boxN (n m : Nat) : Nat → Nat
  | 0 => n
  | i + 1 => boxN n m i * (2 * m + 1)
theorem boxN_le (n m : Nat) : ∀ i j, i ≤ j → boxN n m i ≤ boxN n m j
  | i, 0, h => by have : i = 0 := by omega
                  subst this; exact Nat.le_refl _
  | i, j + 1, h => by
    by_cases e : i = j + 1
    · subst e; exact Nat.le_refl _
    · exact Nat.le_trans (boxN_le n m i j (by omega)) (Nat.le_mul_of_pos_right _ (by omega))
set_option maxRecDepth 20000 in
set_option maxHeartbeats 2000000 in
theorem bound_ok {p1 p2 : Option Addr} {n1 q1 n2 q2 m : Nat} (w : World) (hn : n1 < 1000) (hn2 : n2 < 1000) (hm : m < 1000) (hb : boxN n1 m n2 ≤ 20000) :
    Calls Tryz.prog 55 #[.agg #[.slice p1 n1 q1, .slice p2 n2 q2], .int .i64 m] w fun e w' => e = .returned (.int .i64 0) ∧ Below w.heap.size w w' := by
  have HB := aside hb
  have HX := aside (below_alloc w (.cells #[.slice p1 n1 q1, .slice p2 n2 q2] 30))
  clear hb
  go_enter Tryz.func55, Tryz.ntmps55
  go_wp2
  go_loopg [5, 14] n2 (fun gg s5 s14 wr => wr = w.alloc (.cells #[.slice p1 n1 q1, .slice p2 n2 q2] 30) ∧ ∃ i : Nat, i ≤ n2 ∧ n2 - i ≤ gg ∧ s14 = .int .i64 i ∧ s5 = .int .i64 (boxN n1 m i : Nat))
  case atStart => exact ⟨rfl, 0, Nat.zero_le _, by omega, rfl, rfl⟩
  case round =>
    obtain ⟨rfl, i, hi, hg, rfl, rfl⟩ := hrel
    by_cases hlt : i < n2
    · have hltz : (i : Int) < (n2 : Int) := by omega
      have h1 := boxN_le n1 m (i + 1) n2 (by omega)
      have h2 := boxN_le n1 m i (i + 1) (by omega)
      have h3 := HB.out
      have hs := aside (show boxN n1 m (i + 1) = boxN n1 m i * (2 * m + 1) from rfl)
      have h4 : boxN n1 m i * (2 * m + 1) ≤ 20000 := by rw [← hs.out]; omega
      have h5 : ((boxN n1 m i : Nat) : Int) * (2 * (m : Int) + 1) = ((boxN n1 m i * (2 * m + 1) : Nat) : Int) := by push_cast; rfl
      generalize boxN n1 m i * (2 * m + 1) = nx at h4 h5 hs
      clear h1 h2 h3
      have h6 : ((boxN n1 m i : Nat) : Int) * (2 * (m : Int) + 1) ≤ 20000 := by omega
      have h7 : -9223372036854775808 ≤ ((boxN n1 m i : Nat) : Int) * (2 * (m : Int) + 1) := by omega
      have h8 : ((boxN n1 m i : Nat) : Int) * (2 * (m : Int) + 1) ≤ 9223372036854775807 := by omega
      have h9 : ¬ 20000 < ((boxN n1 m i : Nat) : Int) * (2 * (m : Int) + 1) := by omega
      have HS5 := aside h5
      clear h5
      generalize boxN n1 m i = bx at *
      have h10 : ¬ 20000 < (m : Int) := by omega
      go_wp2
      go_roundg (n2 - (i + 1))
      case measure => omega
      case rel => exact ⟨rfl, i + 1, by omega, by omega, by go_num, by rw [hs.out, ← HS5.out]⟩
    · have hltz : ¬ (i : Int) < (n2 : Int) := by omega
      have : i = n2 := by omega
      subst this
      go_wp2
      go_ret
      exact ⟨rfl, HX.out⟩
end Go.Proofs.YtjiijgdkdlelhaaGreatDoor

/- Lists of spellings: equal, EqualFunc, same. -/
namespace Go.Proofs.YtjiijgdkdlelhaaGreatDoor
open Go.Shelf Go.RowKit Go.Lib

def spKey (s : Sp) : Int × List Int := (s.nom, s.cnt)
/-- Spellings lie behind a slice value. -/
def SpsAt (w : World) (v : Value) (L : List Sp) : Prop :=
  (∀ s ∈ L, RowAt w s.row s.cnt ∧ s.cnt.length < 1000) ∧ ((∃ base c, v = .slice base 0 c ∧ L = []) ∨ ∃ b off c, v = .slice (some ⟨b, off, none⟩) L.length c ∧ b < w.heap.size ∧
    ∀ j, j < L.length → w.cell? ⟨b, off + j * 2, none⟩ = some (.int .i64 L[j]!.nom) ∧ w.cell? ⟨b, off + j * 2 + 1, none⟩ = some L[j]!.row)
theorem SpsAt.mono {w W : World} {v : Value} {L : List Sp} (h : SpsAt w v L) (hb : Below w.heap.size w W) : SpsAt W v L := by
  obtain ⟨hr, h⟩ := h
  refine ⟨fun s hs => ⟨(hr s hs).1.mono hb, (hr s hs).2⟩, ?_⟩
  rcases h with h | ⟨b, off, c, h1, h2, h3⟩
  · exact .inl h
  · exact .inr ⟨b, off, c, h1, Nat.lt_of_lt_of_le h2 hb.size, fun j hj => ⟨(hb.cell (p := ⟨b, off + j * 2, none⟩) h2).trans (h3 j hj).1, (hb.cell (p := ⟨b, off + j * 2 + 1, none⟩) h2).trans (h3 j hj).2⟩⟩
theorem SpsAt.shape {w : World} {v : Value} {L : List Sp} (h : SpsAt w v L) : ∃ p c, v = .slice p L.length c := by
  rcases h.2 with ⟨base, c, rfl, rfl⟩ | ⟨b, off, c, rfl, _, _⟩
  · exact ⟨base, c, rfl⟩
  · exact ⟨some ⟨b, off, none⟩, c, rfl⟩
theorem SpsAt.parts {w : World} {p : Option Addr} {n q : Nat} {L : List Sp} (h : SpsAt w (.slice p n q) L) : (L = [] ∧ n = 0) ∨ ∃ b off, p = some ⟨b, off, none⟩ ∧ n = L.length ∧ b < w.heap.size ∧
    ∀ j, j < L.length → w.cell? ⟨b, off + j * 2, none⟩ = some (.int .i64 L[j]!.nom) ∧ w.cell? ⟨b, off + j * 2 + 1, none⟩ = some L[j]!.row := by
  rcases h.2 with ⟨base, c, e, rfl⟩ | ⟨b, off, c, e, hb, h3⟩
  · cases e; exact .inl ⟨rfl, rfl⟩
  · cases e; exact .inr ⟨b, off, rfl, rfl, hb, h3⟩

set_option maxRecDepth 20000 in
theorem spEqual_calls {k1 k2 : Int} {p1 p2 : Option Addr} {n1 q1 n2 q2 : Nat} {z1 z2 : List Int} {w : World} (h1 : RowAt w (.slice p1 n1 q1) z1) (h2 : RowAt w (.slice p2 n2 q2) z2) (s1 : z1.length < 1000) (s2 : z2.length < 1000) :
    Calls Tryz.prog 28 #[.agg #[.int .i64 k1, .slice p1 n1 q1], .agg #[.int .i64 k2, .slice p2 n2 q2]] w fun e w' => e = .returned (.bool (decide (k1 = k2) && decide (z1 = z2))) ∧ Below w.heap.size w w' := by
  have hb := below_then (below_alloc w (.cells #[.int .i64 k1, .slice p1 n1 q1] 42)) (below_alloc _ (.cells #[.int .i64 k2, .slice p2 n2 q2] 42))
  have HE := aside (equal19_calls (h1.mono hb) (h2.mono hb) s1 s2)
  have HB := aside hb
  clear hb h1 h2
  generalize decide (z1 = z2) = q at HE ⊢
  by_cases hk : k1 = k2
  · rw [decide_eq_true hk, Bool.true_and]
    subst hk
    go_enter Tryz.func28, Tryz.ntmps28
    go_wp2_with (go_at_call 19; refine HE.out.mono ?_; rintro e w1 ⟨rfl, hb1⟩)
    go_ret
    exact ⟨rfl, below_then HB.out hb1⟩
  · rw [decide_eq_false hk, Bool.false_and]
    go_enter Tryz.func28, Tryz.ntmps28
    go_wp2_with (go_at_call 19; refine HE.out.mono ?_; rintro e w1 ⟨rfl, hb1⟩)
    go_ret
    exact ⟨rfl, HB.out⟩

set_option maxRecDepth 20000 in
set_option maxHeartbeats 4000000 in
theorem equalSp_calls {v u : Value} {L M : List Sp} {w : World} (h : SpsAt w v L) (k : SpsAt w u M) (hs : L.length < 100000) (ks : M.length < 100000) : Calls Tryz.prog 61 #[v, u, .func (.func 28) #[] #[]] w fun e w' =>
    e = .returned (.bool (decide (L.map spKey = M.map spKey))) ∧ Below w.heap.size w w' := by
  obtain ⟨p, c, rfl⟩ := h.shape
  obtain ⟨p', c', rfl⟩ := k.shape
  by_cases hl : (L.length : Int) = (M.length : Int)
  · have hl' : L.length = M.length := by omega
    have H := aside h
    have K := aside k
    have HL := aside hl'
    clear h k hl'
    generalize hn : L.length = n at *
    generalize hm : M.length = m at *
    have HN := aside hn
    have HM := aside hm
    clear hn hm
    go_enter Tryz.func61, Tryz.ntmps61
    go_wp2
    go_loopg [7, 8, 9, 17] n (fun gg _ _ _ s17 wr => ∃ kk : Nat, kk ≤ n ∧ n - kk ≤ gg ∧ s17 = .int .i64 kk ∧ Aside (Below w.heap.size w wr) ∧ Aside (∀ j, j < kk → spKey L[j]! = spKey M[j]!))
    case atStart => exact ⟨0, Nat.zero_le _, by omega, rfl, Below.refl _ _, fun j hj => absurd hj (Nat.not_lt_zero _)⟩
    case round =>
      obtain ⟨kk, hkk, hg, rfl, BW, A⟩ := hrel
      by_cases hlt : kk < n
      · have hltz : (kk : Int) < (n : Int) := by omega
        have hltm : (kk : Int) < (m : Int) := by omega
        rcases H.out.parts with ⟨rfl, h0⟩ | ⟨b, off, rfl, -, hb, hc⟩
        · omega
        rcases K.out.parts with ⟨rfl, h0⟩ | ⟨b', off', rfl, -, hb', hc'⟩
        · omega
        have hkL : kk < L.length := by rw [HN.out]; exact hlt
        have hkM : kk < M.length := by rw [HM.out]; omega
        obtain ⟨a0, a1⟩ := hc kk hkL
        obtain ⟨d0, d1⟩ := hc' kk hkM
        obtain ⟨r1, t1⟩ := H.out.1 L[kk]! (by rw [getElem!_pos L kk hkL]; exact List.getElem_mem hkL)
        obtain ⟨r2, t2⟩ := K.out.1 M[kk]! (by rw [getElem!_pos M kk hkM]; exact List.getElem_mem hkM)
        obtain ⟨e1, f1, g1⟩ := r1.shape
        obtain ⟨e2, f2, g2⟩ := r2.shape
        rw [g1] at a1 r1
        rw [g2] at d1 r2
        have l1 := (BW.out.cell (p := ⟨b, off + kk * 2, none⟩) hb).trans a0
        have l2 := (BW.out.cell (p := ⟨b, off + kk * 2 + 1, none⟩) hb).trans a1
        have bal := below_alloc wr (.cells #[.int .i64 L[kk]!.nom, .slice e1 L[kk]!.cnt.length f1] 42)
        have bb := below_then BW.out bal
        have l3 := (bb.cell (p := ⟨b', off' + kk * 2, none⟩) hb').trans d0
        have l4 := (bb.cell (p := ⟨b', off' + kk * 2 + 1, none⟩) hb').trans d1
        have bal2 := below_alloc (wr.alloc (.cells #[.int .i64 L[kk]!.nom, .slice e1 L[kk]!.cnt.length f1] 42)) (.cells #[.int .i64 M[kk]!.nom, .slice e2 M[kk]!.cnt.length f2] 42)
        have BB := aside (below_then bb bal2)
        have HE := aside (spEqual_calls (k1 := L[kk]!.nom) (k2 := M[kk]!.nom) (r1.mono BB.out) (r2.mono BB.out) t1 t2)
        have hx0 := cell_step ⟨by simp, (cell_two wr (.int .i64 L[kk]!.nom) (.slice e1 L[kk]!.cnt.length f1) 42).1, (cell_two wr (.int .i64 L[kk]!.nom) (.slice e1 L[kk]!.cnt.length f1) 42).2⟩ bal2
        obtain ⟨-, x0, x1⟩ := hx0
        have hkey := aside (show (decide (L[kk]!.nom = M[kk]!.nom) && decide (L[kk]!.cnt = M[kk]!.cnt)) = decide (spKey L[kk]! = spKey M[kk]!) by
          unfold spKey
          rw [← Bool.decide_and]
          congr 1
          simp)
        rw [hkey.out] at HE
        clear hc hc' a0 a1 d0 d1 r1 r2 g1 g2 bal bal2 bb t1 t2 hkey
        generalize L[kk]!.cnt.length = w1 at *
        generalize M[kk]!.cnt.length = w2 at *
        generalize L[kk]!.nom = m1 at *
        generalize M[kk]!.nom = m2 at *
        have HKL := aside hkL
        have HKM := aside hkM
        clear hkL hkM
        by_cases hq : spKey L[kk]! = spKey M[kk]!
        · rw [decide_eq_true hq] at HE
          have HQ := aside hq
          clear hq
          go_wp2_with (go_at_call 28; refine HE.out.mono ?_; rintro e w3 ⟨rfl, hb3⟩)
          go_roundg (n - (kk + 1))
          case measure => omega
          case rel =>
            refine ⟨kk + 1, by omega, by omega, by go_num, (show Aside _ from below_then BB.out hb3), (show Aside _ from fun j hj => ?_)⟩
            by_cases e : j = kk
            · subst e; exact HQ.out
            · exact A.out j (by omega)
        · rw [decide_eq_false hq] at HE
          have HQ := aside hq
          clear hq
          go_wp2_with (go_at_call 28; refine HE.out.mono ?_; rintro e w3 ⟨rfl, hb3⟩)
          go_ret
          refine ⟨?_, below_then BB.out hb3⟩
          have hne : ¬ L.map spKey = M.map spKey := fun e => HQ.out (by
            have := congrArg (fun l => l[kk]?) e
            simp only [List.getElem?_map, List.getElem?_eq_getElem HKL.out, List.getElem?_eq_getElem HKM.out, Option.map_some, Option.some.injEq] at this
            rw [getElem!_pos L kk HKL.out, getElem!_pos M kk HKM.out]
            exact this)
          rw [decide_eq_false hne]
          rfl
      · have hltz : ¬ (kk : Int) < (n : Int) := by omega
        have : kk = n := by omega
        subst this
        go_wp2
        go_ret
        refine ⟨?_, BW.out⟩
        have he : L.map spKey = M.map spKey := by
          apply List.ext_getElem (by rw [List.length_map, List.length_map, HN.out, HM.out]; exact HL.out)
          intro j h1 h2
          rw [List.length_map] at h1 h2
          have := A.out j (by rw [← HN.out]; exact h1)
          rw [getElem!_pos L j h1, getElem!_pos M j h2] at this
          rw [List.getElem_map, List.getElem_map]
          exact this
        rw [decide_eq_true he]
        rfl
  · have hne : ¬ L.map spKey = M.map spKey := fun e => hl (by have := congrArg List.length e; rw [List.length_map, List.length_map] at this; omega)
    rw [decide_eq_false hne]
    clear h k hne
    generalize L.length = n at *
    generalize M.length = m at *
    go_enter Tryz.func61, Tryz.ntmps61
    go_wp2
    go_ret
    exact ⟨rfl, Below.refl _ _⟩
theorem same_calls2 {v u : Value} {L M : List Sp} {w : World} (h : SpsAt w v L) (k : SpsAt w u M) (hs : L.length < 100000) (ks : M.length < 100000) : Calls Tryz.prog 20 #[v, u] w fun e w' =>
    e = .returned (.bool (decide (L.map spKey = M.map spKey))) ∧ Below w.heap.size w w' := by
  have HE := aside (equalSp_calls h k hs ks)
  obtain ⟨p, c, rfl⟩ := h.shape
  obtain ⟨p', c', rfl⟩ := k.shape
  clear h k
  go_enter Tryz.func20, Tryz.ntmps20
  go_wp2_with (go_at_call 61; refine HE.out.mono ?_; rintro e w1 ⟨rfl, hb1⟩)
  go_ret
  exact ⟨rfl, hb1⟩
end Go.Proofs.YtjiijgdkdlelhaaGreatDoor

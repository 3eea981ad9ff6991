/- SpellingGrows: the law's function returns true. -/
import Derived.Test.YtjiijgdkdlelhaaGreatDoorGrowsM14
import Derived.Test.YtjiijgdkdlelhaaGreatDoorGrowsM32
/- SpellingGrows: the law's function returns true. -/
namespace Go.Proofs.YtjiijgdkdlelhaaGreatDoor
open Go Go.RowKit Go.Shelf Go.Lib Go.Sort

theorem beyond_calls {c k : Int} {gk : Nat} {w : World} (hk : w.cell? ⟨gk, 0, none⟩ = some (.int .i64 k)) (hb : 0 ≤ k ∧ k ≤ 1000) : Calls Tryz.prog 17 #[.int .i64 c, .pointer (some ⟨gk, 0, none⟩)] w fun e w' => e = .returned (.bool (beyondI k c)) ∧ Below w.heap.size w w' := by
  obtain ⟨h0, h1⟩ := hb
  unfold beyondI
  by_cases h : k < c
  · rw [decide_eq_true h, Bool.true_or]
    go_enter Tryz.func17, Tryz.ntmps17
    go_wp2
    go_ret
    exact ⟨rfl, Below.refl _ _⟩
  · rw [decide_eq_false h, Bool.false_or]
    go_enter Tryz.func17, Tryz.ntmps17
    go_wp2
    all_goals
      go_ret
      refine ⟨?_, Below.refl _ _⟩
      simp_all
theorem far_calls {k n : Int} {pr : Option Addr} {nr cr gk : Nat} {zs : List Int} {w : World} (hk : w.cell? ⟨gk, 0, none⟩ = some (.int .i64 k)) (hb : 0 ≤ k ∧ k ≤ 1000) (hr : RowAt w (.slice pr nr cr) zs) (hl : zs.length < 1000) :
    Calls Tryz.prog 15 #[.agg #[.int .i64 n, .slice pr nr cr], .pointer (some ⟨gk, 0, none⟩)] w fun e w' => e = .returned (.bool (zs.any (beyondI k))) ∧ Below w.heap.size w w' := by
  have hlt : gk < w.heap.size := World.block_lt_of_cell? _ _ hk
  have hb1 := below_alloc w (.cells #[.int .i64 n, .slice pr nr cr] 42)
  have eg : ∀ args w, (callFunc 17 args).run Tryz.prog w = .ok (.enter 17 args) w := enters_of Tryz.func17 (by kernel_rfl) rfl
  have hp : PredI 17 #[.pointer (some ⟨gk, 0, none⟩)] (beyondI k) w := fun W x hW => beyond_calls ((hW.cell (p := ⟨gk, 0, none⟩) hlt).trans hk) hb
  have HC := aside (contains_rowF eg (hr.mono hb1) (fun W x hW => hp W x (below_then hb1 hW)) (by omega))
  have HB := aside hb1
  clear hk hb hr hl hb1 eg hp hlt
  generalize zs.any (beyondI k) = q at HC ⊢
  go_enter Tryz.func15, Tryz.ntmps15
  go_wp2_with (go_at_call 16; refine HC.out.mono ?_; rintro e w1 ⟨rfl, hb1⟩)
  go_ret
  exact ⟨rfl, below_then HB.out hb1⟩

def planO (two : Bool) (pn pa : Int) (R : Nat → Nat → Int) : Obj := .cells #[.bool two, .int .u8 pn, .int .u8 pa, .int .i8 (R 0 0), .int .i8 (R 0 1), .int .i8 (R 1 0), .int .i8 (R 1 1), .int .i8 (R 2 0), .int .i8 (R 2 1), .int .i8 (R 3 0), .int .i8 (R 3 1), .int .i8 (R 4 0), .int .i8 (R 4 1), .int .i8 (R 5 0), .int .i8 (R 5 1), .int .i8 (R 6 0), .int .i8 (R 6 1)] 26
theorem plan_cells {w : World} {g : Nat} {two : Bool} {pn pa : Int} {R : Nat → Nat → Int} (h : w.heap[g]? = some (planO two pn pa R)) : w.cell? ⟨g, 0, none⟩ = some (.bool two) ∧ w.cell? ⟨g, 1, none⟩ = some (.int .u8 pn) ∧ w.cell? ⟨g, 2, none⟩ = some (.int .u8 pa) ∧
    ∀ i j, i < 7 → j < 2 → w.cell? ⟨g, 3 + i * 2 + j, none⟩ = some (.int .i8 (R i j)) := by
  refine ⟨cell_of_row _ _ 0 _ 26 (0, 0) h, cell_of_row _ _ 1 _ 26 (0, 0) h, cell_of_row _ _ 2 _ 26 (0, 0) h, fun i j hi hj => ?_⟩
  rw [cell_of_row _ _ (3 + i * 2 + j) _ 26 (0, 0) h]
  have h1 : i = 0 ∨ i = 1 ∨ i = 2 ∨ i = 3 ∨ i = 4 ∨ i = 5 ∨ i = 6 := by omega
  have h2 : j = 0 ∨ j = 1 := by omega
  rcases h1 with rfl | rfl | rfl | rfl | rfl | rfl | rfl <;> rcases h2 with rfl | rfl <;> rfl
set_option maxRecDepth 100000 in
set_option maxHeartbeats 4000000 in
theorem grows_calls {w : World} {two : Bool} {pn pa x0 x1 mo : Int} {R : Nat → Nat → Int} {tn ta k : Nat} (hG : GlobsAt w) (hR : ∀ i j, i < 7 → j < 2 → -128 ≤ R i j ∧ R i j ≤ 127) (htn : pn.tmod 4 = (tn : Int)) (htn4 : tn < 4) (hta : pa.tmod 4 = (ta : Int)) (hta4 : ta < 4)
    (hx0 : -128 ≤ x0 ∧ x0 ≤ 127) (hx1 : -128 ≤ x1 ∧ x1 ≤ 127) (hmo : 0 ≤ mo ∧ mo ≤ 255) (hk : mo.tmod 3 = (k : Int)) (hk3 : k < 3) :
    Calls Tryz.prog 3 #[.agg #[.bool two, .int .u8 pn, .int .u8 pa, .int .i8 (R 0 0), .int .i8 (R 0 1), .int .i8 (R 1 0), .int .i8 (R 1 1), .int .i8 (R 2 0), .int .i8 (R 2 1), .int .i8 (R 3 0), .int .i8 (R 3 1), .int .i8 (R 4 0), .int .i8 (R 4 1), .int .i8 (R 5 0), .int .i8 (R 5 1), .int .i8 (R 6 0), .int .i8 (R 6 1)], .agg #[.int .i8 x0, .int .i8 x1], .int .u8 mo] w
      fun e w' => e = .returned (.bool true) ∧ Below w.heap.size w w' := by
  obtain ⟨A, hA⟩ : ∃ A : Array Value, A = #[.bool two, .int .u8 pn, .int .u8 pa, .int .i8 (R 0 0), .int .i8 (R 0 1), .int .i8 (R 1 0), .int .i8 (R 1 1), .int .i8 (R 2 0), .int .i8 (R 2 1), .int .i8 (R 3 0), .int .i8 (R 3 1), .int .i8 (R 4 0), .int .i8 (R 4 1), .int .i8 (R 5 0), .int .i8 (R 5 1), .int .i8 (R 6 0), .int .i8 (R 6 1)] := ⟨_, rfl⟩
  have hget : ∀ i j, i < 7 → j < 2 → A[3 + i * 2 + j]? = some (.int .i8 (R i j)) ∧ -128 ≤ R i j ∧ R i j ≤ 127 := fun i j hi hj => by
    refine ⟨?_, hR i j hi hj⟩
    have : i = 0 ∨ i = 1 ∨ i = 2 ∨ i = 3 ∨ i = 4 ∨ i = 5 ∨ i = 6 := by omega
    have h2 : j = 0 ∨ j = 1 := by omega
    rw [hA]
    rcases this with rfl | rfl | rfl | rfl | rfl | rfl | rfl <;> rcases h2 with rfl | rfl <;> rfl
  have hmake : ∀ W : World, _ := fun W => make_calls (w := W) (A := A) (two := two) (by rw [hA]; rfl) (by rw [hA]; rfl) (by rw [hA]; rfl) hget htn htn4 hta hta4
  rw [hA] at hmake
  have HMK := aside hmake
  have HG := aside hG
  have HX0 := aside hx0
  have HX1 := aside hx1
  have HR := aside hR
  have hb2 := below_then (below_alloc w (.cells #[.bool two, .int .u8 pn, .int .u8 pa, .int .i8 (R 0 0), .int .i8 (R 0 1), .int .i8 (R 1 0), .int .i8 (R 1 1), .int .i8 (R 2 0), .int .i8 (R 2 1), .int .i8 (R 3 0), .int .i8 (R 3 1), .int .i8 (R 4 0), .int .i8 (R 4 1), .int .i8 (R 5 0), .int .i8 (R 5 1), .int .i8 (R 6 0), .int .i8 (R 6 1)] 26)) (below_alloc _ (.cells #[.int .i8 x0, .int .i8 x1] 23))
  have HB2 := aside hb2
  have KN := aside fun (W : World) (h : Below w.heap.size w W) => known_calls (hG.mono h)
  have HMOV := aside (And.intro hmo (And.intro hk hk3))
  have HT4 := aside (And.intro htn4 hta4)
  clear hmake hget hA hG hR hb2 hx0 hx1 hmo hk hk3 htn htn4 hta hta4
  go_enter Tryz.func3, Tryz.ntmps3
  go_wp2_with (first
    | (go_at_call 11; refine (KN.out _ HB2.out).mono ?_; rintro e w1 ⟨rfl, hb1⟩; have B1 := below_then HB2.out hb1; have pq := plan_cells (w := w1) (g := w.heap.size) (two := two) (pn := pn) (pa := pa) (R := R) (new_blk rfl (below_then (below_alloc _ _) hb1)); have q0 := pq.1; have q1 := pq.2.1; have q2 := pq.2.2.1; have q3 := pq.2.2.2 0 0 (by omega) (by omega); have q4 := pq.2.2.2 0 1 (by omega) (by omega); have q5 := pq.2.2.2 1 0 (by omega) (by omega); have q6 := pq.2.2.2 1 1 (by omega) (by omega); have q7 := pq.2.2.2 2 0 (by omega) (by omega); have q8 := pq.2.2.2 2 1 (by omega) (by omega); have q9 := pq.2.2.2 3 0 (by omega) (by omega); have q10 := pq.2.2.2 3 1 (by omega) (by omega); have q11 := pq.2.2.2 4 0 (by omega) (by omega); have q12 := pq.2.2.2 4 1 (by omega) (by omega); have q13 := pq.2.2.2 5 0 (by omega) (by omega); have q14 := pq.2.2.2 5 1 (by omega) (by omega); have q15 := pq.2.2.2 6 0 (by omega) (by omega); have q16 := pq.2.2.2 6 1 (by omega) (by omega); clear pq)
    | (go_at_call 12; refine (HMK.out _).mono ?_; rintro e w2 ⟨p1, q1', p2, q2', rfl, hL1, hL2, hb2⟩; clear q0 q1 q2 q3 q4 q5 q6 q7 q8 q9 q10 q11 q12 q13 q14 q15 q16))
  generalize (Value.agg #[.bool two, .int .u8 pn, .int .u8 pa, .int .i8 (R 0 0), .int .i8 (R 0 1), .int .i8 (R 1 0), .int .i8 (R 1 1), .int .i8 (R 2 0), .int .i8 (R 2 1), .int .i8 (R 3 0), .int .i8 (R 3 1), .int .i8 (R 4 0), .int .i8 (R 4 1), .int .i8 (R 5 0), .int .i8 (R 5 1), .int .i8 (R 6 0), .int .i8 (R 6 1)]) = vA
  obtain ⟨L1, s1, k1⟩ := hL1.out
  obtain ⟨L2, s2, k2⟩ := hL2.out
  have PL := aside (PlanL.mk k1 k2 HT4.out.1 HT4.out.2 HR.out)
  have B2 := aside (below_then B1 hb2)
  have F := PL.out.flat
  obtain ⟨bb, oo, rfl, hbb, pf, cf, hr1⟩ := first_row s1 F.pos
  have hm0 : L1[0]! ∈ L1 ++ L2 := List.mem_append_left _ (by rw [getElem!_pos L1 0 F.pos]; exact List.getElem_mem F.pos)
  rw [(F.rows _ hm0).1] at hr1
  have hd12 : 1 ≤ dimOf two ∧ dimOf two ≤ 2 := by cases two <;> exact ⟨by decide, by decide⟩
  have hpair := new_two (W := w.alloc (planO two pn pa R)) (w1 := w1) (g := w.heap.size + 1) (.int .i8 x0) (.int .i8 x1) 23 (by simp) hb1
  have pl : w.heap.size + 1 < w1.heap.size := World.block_lt_of_cell? _ _ hpair.1
  have bal := below_alloc w2 (.cells #[.slice (some ⟨bb, oo, none⟩) (1 + tn) q1', .slice p2 ta q2'] 30)
  obtain ⟨n1, hn1⟩ : ∃ n1, n1 = 1 + tn := ⟨_, rfl⟩
  rw [← hn1] at bal s1 ⊢
  have N1 := aside (show 0 < n1 ∧ n1 ≤ 4 by have := HT4.out.1; omega)
  have cc := cell_two w2 (.slice (some ⟨bb, oo, none⟩) n1 q1') (.slice p2 ta q2') 30
  obtain ⟨W4, hW4⟩ : ∃ W4, w2.alloc (.cells #[.slice (some ⟨bb, oo, none⟩) n1 q1', .slice p2 ta q2'] 30) = W4 := ⟨_, rfl⟩
  rw [hW4] at bal cc ⊢
  have x4 := ((below_then hb2 bal).cell (p := ⟨w.heap.size + 1, 0, none⟩) pl).trans hpair.1
  have x5 := ((below_then hb2 bal).cell (p := ⟨w.heap.size + 1, 1, none⟩) pl).trans hpair.2.1
  have x6 := cc.1
  have x7 := cc.2
  have x8 := (bal.cell (p := ⟨bb, oo + 1, none⟩) hbb).trans hr1
  obtain ⟨d, hd⟩ : ∃ d, d = dimOf two := ⟨_, rfl⟩
  rw [← hd] at x8 hd12 F
  have S1 := aside s1
  have S2 := aside s2
  have BAL := aside bal
  have HD := aside hd
  have FF := aside F
  have hz1 : (0 : Int) < (n1 : Int) := by have := N1.out; omega
  have hd1 : (d : Int) ≤ 2 := by omega
  have bal8 := below_alloc W4 (.cells #[.int .i64 x0, .int .i64 x1] 3)
  have l6 : w2.heap.size < W4.heap.size := World.block_lt_of_cell? _ _ x6
  have y6 := (bal8.cell (p := ⟨w2.heap.size, 0, none⟩) l6).trans x6
  have y8 := (bal8.cell (p := ⟨bb, oo + 1, none⟩) (World.block_lt_of_cell? _ _ x8)).trans x8
  obtain ⟨u0, u1⟩ := HX0.out
  obtain ⟨u2, u3⟩ := HX1.out
  clear s1 s2 k1 k2 hL1 hL2 hpair cc hW4 bal hr1 hbb pl hm0 hn1 hd F hb1 hb2 bal8 l6
  go_region
  obtain ⟨rs, hrs⟩ : ∃ rs, rs = [x0, x1].take d := ⟨_, rfl⟩
  have hrl : rs.length = d := by rw [hrs, List.length_take]; simp; omega
  have hre : rowErr rs = 0 := rowErr_small (by omega) fun y hy => by
    rw [hrs] at hy
    have := List.mem_of_mem_take hy
    simp only [List.mem_cons, List.not_mem_nil, or_false] at this
    rcases this with rfl | rfl <;> omega
  have hrow : RowAt (W4.alloc (.cells #[.int .i64 x0, .int .i64 x1] 3)).drew (.slice (some ⟨W4.heap.size, 0, none⟩) d 2) rs := by
    refine .inr ⟨W4.heap.size, 0, 2, by rw [hrl], by simp, fun j hj => ?_⟩
    have e : rs[j]? = [x0, x1][j]? := by rw [hrs, List.getElem?_take, if_pos (by omega)]
    rw [Nat.zero_add]
    refine (cell_of_row _ _ j _ 3 (0, 0) (show ((W4.alloc (.cells #[.int .i64 x0, .int .i64 x1] 3))).heap[W4.heap.size]? = _ from heap_alloc_new W4 _)).trans ?_
    have h2 : j = 0 ∨ j = 1 := by omega
    rw [List.getElem?_eq_getElem hj] at e
    rw [getElem!_pos rs j hj]
    rcases h2 with rfl | rfl
    · have := Option.some.inj e; rw [this]; rfl
    · have := Option.some.inj e; rw [this]; rfl
  have b8 := (below_alloc W4 (.cells #[.int .i64 x0, .int .i64 x1] 3)).drew
  obtain ⟨W5, hW5⟩ : ∃ W5, (W4.alloc (.cells #[.int .i64 x0, .int .i64 x1] 3)).drew = W5 := ⟨_, rfl⟩
  rw [hW5] at hrow b8 ⊢
  have l6 : w2.heap.size < W4.heap.size := World.block_lt_of_cell? _ _ x6
  have l65 : w2.heap.size < W5.heap.size := Nat.lt_of_lt_of_le l6 b8.size
  have z6 := (b8.cell (p := ⟨w2.heap.size, 0, none⟩) l6).trans x6
  have z7 := (b8.cell (p := ⟨w2.heap.size, 1, none⟩) l6).trans x7
  have b5 := below_then BAL.out b8
  have e1 := S1.out.len
  have e2 := S2.out.len
  have HCK := checksTo (w := W5) (p1 := some ⟨bb, oo, none⟩) (q1 := q1') (p2 := p2) (q2 := q2') (NoteAt.mk (S1.out.mono b5) (S2.out.mono b5) (by have := N1.out; omega) (by have := HT4.out.2; omega) (fun x hx => by have := (FF.out.rows x hx).1; omega))
  rw [PL.out.right] at HCK
  have hbx : ∀ k, k ≤ 3 → n1 * (2 * k + 1) ^ ta ≤ 1372 := fun k hk => box_small hk N1.out.2 HT4.out.2
  have HALL := aside fun (k : Nat) (hk : k ≤ 3) (W : World) (h : Below W5.heap.size W5 W) => allE_calls (k := k) (HCK.mono h) ((S1.out.mono b5).mono h) ((S2.out.mono b5).mono h) FF.out (hrow.mono h) hre hrl (by omega) (by rw [boxN_pow]; have := hbx k hk; omega) (by rw [boxTo_length, ← e1, ← e2]; have := hbx k hk; omega)
  rw [← e1, ← e2] at HALL
  have HRD := aside fun (W : World) (h : Below W5.heap.size W5 W) (s : Sp) (ps : Option Addr) (ns qs : Nat) (hc : RowAt W (.slice ps ns qs) s.cnt) (hs : spKey s ∈ keepS L1 L2 rs (boxTo k ta n1 0)) => read_kept (HCK.mono h) ((S1.out.mono b5).mono h) ((S2.out.mono b5).mono h) FF.out hc (by have := HMOV.out.2.2; omega) (by have := HT4.out.2; omega) hs hre
  have HEQ := aside fun (W : World) (h : Below W5.heap.size W5 W) (v : Value) (hv : RowAt W v rs) => equal19_calls hv (hrow.mono h) (by omega) (by omega)
  rw [decide_eq_true (rfl : rs = rs)] at HEQ
  rw [hrl] at HRD
  have BB := aside (below_then B2.out b5)
  have eg15 : ∀ args w, (callFunc 15 args).run Tryz.prog w = .ok (.enter 15 args) w := enters_of Tryz.func15 (by kernel_rfl) rfl
  have EG := aside eg15
  have HBX := aside hbx
  obtain ⟨m0, m1⟩ := HMOV.out.1
  have m2 := HMOV.out.2.1
  have m3 : k ≤ 2 := by have := HMOV.out.2.2; omega
  have C6 := aside fun (W : World) (h : Below W5.heap.size W5 W) => And.intro ((h.cell (p := ⟨w2.heap.size, 0, none⟩) l65).trans z6) ((h.cell (p := ⟨w2.heap.size, 1, none⟩) l65).trans z7)
  have HK := aside (HMOV.out.2.2)
  have HRL := aside hrl
  clear hrs hre hrl hrow b8 hW5 l6 x4 x5 x6 x7 x8 y6 y8 b5 e1 e2 HCK hbx eg15 HMOV u0 u1 u2 u3 l65
  obtain ⟨y6, y7⟩ := C6.out _ (below_alloc W5 (.cells #[.int .i64 k] 3))
  have ck := aside (show (W5.alloc (.cells #[.int .i64 k] 3)).cell? ⟨W5.heap.size, 0, none⟩ = some (.int .i64 k) from cell_of_row _ _ 0 _ 3 (0, 0) (heap_alloc_new W5 _))
  have lk : Aside (W5.heap.size < (W5.alloc (.cells #[.int .i64 k] 3)).heap.size) := by show _ < _; simp
  go_wp2_with (first
    | (go_at_call 13; (with_reducible refine (HALL.out k (by omega) _ (below_alloc W5 _)).mono ?_); rintro e w6 ⟨v1, La, rfl, ho1, hp1, hpw1, hb6, hv1⟩; obtain ⟨pv1, cv1, hv1'⟩ := ho1.shape; subst hv1'; have D6 := aside (below_then (below_alloc W5 _) hb6); have k6 := (hb6.cell (p := ⟨W5.heap.size, 0, none⟩) lk.out).trans ck.out; have LK6 := aside (Nat.lt_of_lt_of_le lk.out hb6.size); have O1 := aside (And.intro ho1 (And.intro hp1 hpw1)); clear y6 y7 ho1 hp1 hpw1 hb6 hv1; obtain ⟨y6, y7⟩ := C6.out _ D6.out)
    | (go_at_call 13; refine (HALL.out (k + 1) (by omega) _ D6.out).mono ?_; rintro e w7 ⟨v2, Lb, rfl, ho2, hp2, hpw2, hb7, hv2⟩; obtain ⟨pv2, cv2, hv2'⟩ := ho2.shape; subst hv2'; have D7 := aside (below_then D6.out hb7); have k7 := (hb7.cell (p := ⟨W5.heap.size, 0, none⟩) LK6.out).trans k6; have O2 := aside (And.intro ho2 (And.intro hp2 (And.intro hpw2 (And.intro hb7 hv2)))); have HDL := aside (delete_own EG.out (lb := #[.pointer (some ⟨W5.heap.size, 0, none⟩)]) (p := beyondS (k : Int)) ho2 (fun b hb hvb => far_pred k7 (by have := hv2 b hvb; have := LK6.out; omega) (fun W hW => ho2.rowsTurn hvb hW) (fun W n pr nr cr zs hc hr hl => far_calls hc (by omega) hr hl) (fun s hs => by rw [kept_len hp2 s hs]; have := HT4.out.2; omega)) (by have := kept_count hp2; have := HBX.out (k + 1) (by omega); omega)); clear y6 y7 k6 k7 ho2 hp2 hpw2 hb7 hv2)
    | (go_at_call 14; refine HDL.out.mono ?_; rintro e w8 ⟨v3, rfl, ho3, ht⟩; obtain ⟨pv3, cv3, hv3'⟩ := ho3.shape; subst hv3'; have O3 := aside (And.intro ho3 ht); clear ho3 ht HDL))
  have hlb := O2.out.2.2.2.1
  have hB8 : Below w6.heap.size w6 w8 := hlb.trans (O3.out.2.below hlb.size (fun k e => O2.out.2.2.2.2 k e))
  have D8 := aside (below_then D6.out hB8)
  have hta := HT4.out.2
  have LA := aside ((O1.out.1.at (fun s hs => by rw [kept_len O1.out.2.1 s hs]; omega)).mono hB8)
  have LC := aside (O3.out.1.at (fun s hs => by rw [kept_len O2.out.2.1 s (List.mem_filter.1 hs).1]; omega))
  have hEQ : La.map spKey = (Lb.filter fun s => !beyondS k s).map spKey := grows_eq O1.out.2.1 O2.out.2.1 O1.out.2.2 O2.out.2.2.1
  have HNA := aside (show La.length < 100000 by have := kept_count O1.out.2.1; have := HBX.out k (by omega); omega)
  have HNC := aside (show (Lb.filter fun s => !beyondS k s).length < 100000 by have := List.length_filter_le (fun s => !beyondS k s) Lb; have := kept_count O2.out.2.1; have := HBX.out (k + 1) (by omega); omega)
  obtain ⟨Lc, hLc⟩ : ∃ Lc, (Lb.filter fun s => !beyondS k s) = Lc := ⟨_, rfl⟩
  rw [hLc] at LC hEQ HNC ⊢
  have HE := aside hEQ
  have KM := aside (kept_mem O1.out.2.1)
  obtain ⟨n, hn⟩ : ∃ n, La.length = n := ⟨_, rfl⟩
  rw [hn] at LA ⊢
  have HN := aside hn
  have HNN := aside HNA.out
  rw [hn] at HNN
  have hn5 : n < 100000 := HNN.out
  have HSM := aside fun (W : World) (h : Below w8.heap.size w8 W) => same_calls2 (LA.out.mono h) (LC.out.mono h) HNA.out HNC.out
  rw [decide_eq_true HE.out] at HSM
  clear hlb hB8 hta hEQ hLc hn O1 O2 O3
  go_wp2
  go_loopg [15, 16, 17, 65] n (fun gg _ _ _ s65 wr => ∃ kk : Nat, kk ≤ n ∧ n - kk ≤ gg ∧ s65 = .int .i64 kk ∧ Aside (Below w8.heap.size w8 wr))
  case atStart => exact ⟨0, Nat.zero_le _, by omega, rfl, Below.refl _ _⟩
  case round =>
    obtain ⟨kk, hkk, hg, rfl, BW⟩ := hrel
    by_cases hlt : kk < n
    · have hltz : (kk : Int) < (n : Int) := by omega
      have hkL : kk < La.length := by rw [HN.out]; exact hlt
      rcases LA.out.parts with ⟨rfl, h0⟩ | ⟨bl, off, rfl, -, hbl, hc⟩
      · omega
      obtain ⟨a0, a1⟩ := hc kk hkL
      have hm : La[kk]! ∈ La := by rw [getElem!_pos La kk hkL]; exact List.getElem_mem hkL
      obtain ⟨r1, -⟩ := LA.out.1 _ hm
      obtain ⟨e1, f1, g1⟩ := r1.shape
      rw [g1] at a1 r1
      have l1 := (BW.out.cell (p := ⟨bl, off + kk * 2, none⟩) hbl).trans a0
      have l2 := (BW.out.cell (p := ⟨bl, off + kk * 2 + 1, none⟩) hbl).trans a1
      have bal := below_alloc wr (.cells #[.int .i64 La[kk]!.nom, .slice e1 La[kk]!.cnt.length f1] 42)
      have BX := aside (below_then BW.out bal)
      have D9 := aside (below_then D8.out BX.out)
      obtain ⟨y6, y7⟩ := C6.out _ D9.out
      have HR := aside (HRD.out _ D9.out La[kk]! e1 _ f1 (r1.mono BX.out) (KM.out _ hm))
      clear hc a0 a1 hm r1 g1 bal hkL
      generalize La[kk]!.cnt.length = lc at *
      generalize La[kk]!.nom = nm at *
      go_wp2_with (first
        | (go_at_call 18; refine HR.out.mono ?_; rintro e w9 ⟨pv, cv, rfl, hrv, hb9⟩; have D10 := aside (below_then D9.out hb9); have BX2 := aside (below_then BX.out hb9); have HV := aside hrv; clear hrv hb9)
        | (go_at_call 19; refine (HEQ.out _ D10.out _ HV.out).mono ?_; rintro e w10 ⟨rfl, hb10⟩))
      go_roundg (n - (kk + 1))
      case measure => omega
      case rel => exact ⟨kk + 1, by omega, by omega, by go_num, (show Aside _ from below_then BX2.out hb10)⟩
    · have hltz : ¬ (kk : Int) < (n : Int) := by omega
      go_wp2_with (go_at_call 20; refine (HSM.out _ BW.out).mono ?_; rintro e w9 ⟨rfl, hb9⟩)
      go_ret
      exact ⟨rfl, below_then BB.out (below_then D8.out (below_then BW.out hb9))⟩
end Go.Proofs.YtjiijgdkdlelhaaGreatDoor

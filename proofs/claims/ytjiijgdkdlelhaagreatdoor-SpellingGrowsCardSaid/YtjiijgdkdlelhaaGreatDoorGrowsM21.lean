/- slices.Clone and slices.Equal over rows of numbers. -/
import Derived.Test.YtjiijgdkdlelhaaGreatDoorGrowsM18
/- Append to a row of the call's own, with the word where the row lies behind it. -/
namespace Go.Proofs.YtjiijgdkdlelhaaGreatDoor
open Go.Shelf Go.RowKit Go.Lib

section
variable {P : Program} (w : World)
/-- Where the row lies behind an append: where it lay, or in a new block. -/
theorem append_block (base : Nat) (t ty e : TypeId) (i : TypeInfo) (z : Value) (size bytes : Nat) (ht : P.underlying t = some (.slice e)) (hi : P.info? e = some i) (hz : i.zero = some z)
    (hsize : i.size = size) (hby : i.bytes = bytes) (_hzs : z.cells.size = size) (_hsz : 0 < size)
    (v : Value) (n : Nat) (xs : List Value) (hown : w.ownsRow base e size v n xs)
    (a : Addr) (m c : Nat) (news : List Value) (hl : news.length = m * size) (hnews : ∀ j u, news[j]? = some u → w.cell? (a.add j) = some u) (h1 : ∀ u ∈ news, u.oneCell' = true)
    (h63 : n + m ≤ maxLen) (hbytes : (n + m) * bytes ≤ 140737488355328) {v' : Value} {w' : World}
    (hr : (Builtin.append_ #[t, t] ty #[v, .slice (some a) m c]).run P w = .ok v' w') : v'.ownBlock = v.ownBlock ∨ v'.ownBlock = some w.heap.size := by
  subst hsize
  subst hby
  have hsmall : n + m ≤ 9223372036854775807 := by simp only [maxLen] at h63; omega
  rcases hown.2 with ⟨rfl, rfl⟩ | ⟨g, cap, cur, rfl, hbg, hg, hnc, hcm, hcs, htake⟩
  · by_cases hm : m = 0
    · subst hm
      have hn : news = [] := List.eq_nil_of_length_eq_zero (by simpa using hl)
      subst hn
      have e1 : (Builtin.append_ #[t, t] ty #[.slice none 0 0, .slice (some a) 0 c]).run P w = .ok (.slice none 0 0) w := by
        simp [Builtin.append_, run_underlying ht, sizeOf, typeInfo, hi, Builtin.lenOf, Builtin.firstCells, loadCells, loadCellsFrom]
      rw [e1] at hr
      cases hr
      exact .inl rfl
    · have e1 := run_append_nil (P := P) w t ty e i z ht hi hz a m c news hl hnews (by omega) (by omega) (by have hb := hbytes; simp only [Nat.zero_add] at hb; omega)
      rw [e1] at hr
      cases hr
      exact .inr rfl
  · by_cases hroom : n + m ≤ cap
    · have hfit : n * i.size + news.length ≤ cur.size := by rw [hl, hcs, ← Nat.add_mul]; exact Nat.mul_le_mul_right _ hroom
      have e1 := run_append_room (P := P) w t ty e i ht hi g n cap cur hg a m c news hl hnews h1 hroom hfit
      rw [e1] at hr
      cases hr
      exact .inl rfl
    · have holds : ∀ j u, xs[j]? = some u → w.cell? ((⟨g, 0, none⟩ : Addr).add j) = some u := hown.cells (g := g) rfl
      have e1 := run_append_grow (P := P) w t ty e i z ht hi hz ⟨g, 0, none⟩ n cap xs hown.1 holds a m c news hl hnews (by omega) (by omega) (growslice_fits (by omega) hbytes)
      rw [e1] at hr
      cases hr
      exact .inr rfl
theorem wpList_append_at {ops : Array Oper} {rest : List Oper} {o : Oper} {a : Act} {Q : Exit → Act → World → Prop} (hgd : o.guard = none) (s x : Operand) (t : TypeId)
    (ho : o.op = .call { callee := .builtin .append, args := #[s, x], argTypes := #[t, t] })
    (base : Nat) (e : TypeId) (i : TypeInfo) (z : Value) (size bytes : Nat) (ht : P.underlying t = some (.slice e)) (hi : P.info? e = some i) (hz : i.zero = some z)
    (hsize : i.size = size) (hby : i.bytes = bytes) (hzs : z.cells.size = size) (hsz : 0 < size)
    (v : Value) (n : Nat) (xs : List Value) (hs : a.eval s = v) (hown : w.ownsRow base e size v n xs)
    (ad : Addr) (m c : Nat) (news : List Value) (hx : a.eval x = .slice (some ad) m c) (hl : news.length = m * size) (hnews : ∀ j u, news[j]? = some u → w.cell? (ad.add j) = some u) (h1 : ∀ u ∈ news, u.oneCell' = true)
    (h63 : n + m ≤ maxLen) (hbytes : (n + m) * bytes ≤ 140737488355328) (hbase : base ≤ w.heap.size)
    (h : ∀ v' w', w'.ownsRow base e size v' (n + m) (xs ++ news) → w.grownBy w' v.ownBlock → (v'.ownBlock = v.ownBlock ∨ v'.ownBlock = some w.heap.size) → wpList P ops Q rest (a.put o.dst v') w') : wpList P ops Q (o :: rest) a w := by
  obtain ⟨v', w', hr, h2, h3, _⟩ := run_append_own (P := P) w base t o.type e i z size bytes ht hi hz hsize hby hzs hsz v n xs hown ad m c news hl hnews h1 h63 hbytes hbase
  have h4 := append_block (P := P) w base t o.type e i z size bytes ht hi hz hsize hby hzs hsz v n xs hown ad m c news hl hnews h1 h63 hbytes hr
  refine wpList_plain hgd fun K hK => ?_
  unfold Oper.wp execOp
  simp only [ho, resolve, invoke, builtin, Sem.run_bind, Sem.run_pure, Result.andThen_ok, List.map_toArray, List.map_cons, List.map_nil, hs, hx, hr]
  exact hK _ _ (h v' w' h2 h3 h4)
end

/-- A row of numbers lies in a block of its own, other than g. -/
def RowOff (w : World) (v : Value) (zs : List Int) (g : Option Nat) : Prop :=
  ∃ b off c, v = .slice (some ⟨b, off, none⟩) zs.length c ∧ some b ≠ g ∧ b < w.heap.size ∧ ∀ j, j < zs.length → w.cell? ⟨b, off + j, none⟩ = some (.int .i64 zs[j]!)
theorem RowOff.at {w : World} {v : Value} {zs : List Int} {g : Option Nat} (h : RowOff w v zs g) : RowAt w v zs := by
  obtain ⟨b, off, c, h1, _, h2, h3⟩ := h
  exact .inr ⟨b, off, c, h1, h2, h3⟩
theorem RowOff.mono {w W : World} {v : Value} {zs : List Int} {g : Option Nat} (h : RowOff w v zs g) (hb : Below w.heap.size w W) : RowOff W v zs g := by
  obtain ⟨b, off, c, h1, h2, h3, h4⟩ := h
  exact ⟨b, off, c, h1, h2, Nat.lt_of_lt_of_le h3 hb.size, fun j hj => (hb.cell (p := ⟨b, off + j, none⟩) h3).trans (h4 j hj)⟩
theorem RowOff.grown {w W : World} {v : Value} {zs : List Int} {g g' : Option Nat} (h : RowOff w v zs g) (hg : w.grownBy W g) (e : g' = g ∨ g' = some w.heap.size) : RowOff W v zs g' := by
  obtain ⟨b, off, c, h1, h2, h3, h4⟩ := h
  refine ⟨b, off, c, h1, ?_, Nat.lt_of_lt_of_le h3 hg.size, fun j hj => hg.cell (h4 j hj) h2⟩
  rcases e with rfl | rfl
  · exact h2
  · intro e; cases e; omega
theorem RowOff.other {w W : World} {v : Value} {zs : List Int} {g k : Option Nat} (h : RowOff w v zs g) (hk : RowOff w v zs k) (hg : w.grownBy W k) : RowOff W v zs g := by
  obtain ⟨b, off, c, h1, h2, h3, h4⟩ := h
  obtain ⟨b', off', c', h1', h2', _, _⟩ := hk
  rw [h1] at h1'
  cases h1'
  exact ⟨b, off, c, h1, h2, Nat.lt_of_lt_of_le h3 hg.size, fun j hj => hg.cell (h4 j hj) h2'⟩
end Go.Proofs.YtjiijgdkdlelhaaGreatDoor

/- slices.Clone and slices.Equal over rows of numbers. -/
namespace Go.Proofs.YtjiijgdkdlelhaaGreatDoor
open Go.Shelf Go.RowKit Go.Lib

theorem Tryz.info3 : (Tryz.prog.info? 3).map (fun i => (i.zero, i.size, i.bytes)) = some (some (.int .i64 0), 1, 8) := by kernel_rfl
def intCells (zs : List Int) : List Value := zs.map (Value.int .i64)
theorem intCells_length (zs : List Int) : (intCells zs).length = zs.length := by simp [intCells]
theorem intCells_one (zs : List Int) : ∀ u ∈ intCells zs, u.oneCell' = true := ints_oneCell .i64 zs
theorem intCells_at {w : World} {b off : Nat} {zs : List Int} (h : ∀ j, j < zs.length → w.cell? ⟨b, off + j, none⟩ = some (.int .i64 zs[j]!)) : ∀ j u, (intCells zs)[j]? = some u → w.cell? ((⟨b, off, none⟩ : Addr).add j) = some u := by
  intro j u hu
  have hj : j < zs.length := by
    have := (List.getElem?_eq_some_iff.1 hu).1
    rwa [intCells_length] at this
  rw [Addr.add_lit, h j hj]
  unfold intCells at hu
  rw [List.getElem?_map, List.getElem?_eq_getElem hj] at hu
  rw [← hu, getElem!_pos zs j hj]
  rfl
theorem RowAt.parts {w : World} {p : Option Addr} {n q : Nat} {zs : List Int} (h : RowAt w (.slice p n q) zs) : (zs = [] ∧ n = 0) ∨ ∃ b off, p = some ⟨b, off, none⟩ ∧ n = zs.length ∧ b < w.heap.size ∧ ∀ j, j < zs.length → w.cell? ⟨b, off + j, none⟩ = some (.int .i64 zs[j]!) := by
  rcases h with ⟨base, c, e, rfl⟩ | ⟨b, off, c, e, hb, h3⟩
  · cases e; exact .inl ⟨rfl, rfl⟩
  · cases e; exact .inr ⟨b, off, rfl, rfl, hb, h3⟩
theorem row_of_owns {w : World} {base : Nat} {v : Value} {zs : List Int} (h : w.ownsRow base 3 1 v zs.length (intCells zs)) : RowAt w v zs := by
  rcases h.2 with ⟨rfl, h0⟩ | ⟨g, cap, cur, rfl, hb, hg, hn, hm, hs, ht⟩
  · exact .inl ⟨none, 0, rfl, List.eq_nil_of_length_eq_zero h0⟩
  · refine .inr ⟨g, 0, cap, rfl, (Array.getElem?_eq_some_iff.1 hg).1, fun j hj => ?_⟩
    have := h.cells (g := g) rfl j (.int .i64 zs[j]!) (by unfold intCells; rw [List.getElem?_map, List.getElem?_eq_getElem hj, getElem!_pos zs j hj]; rfl)
    rw [Addr.add_lit] at this
    exact this

set_option maxRecDepth 20000 in
theorem clone114_calls {v : Value} {zs : List Int} {w : World} (h : RowAt w v zs) (hs : zs.length < 1000) : Calls Tryz.prog 114 #[v] w fun e w' =>
    ∃ v', e = .returned v' ∧ w'.ownsRow w.heap.size 3 1 v' zs.length (intCells zs) ∧ Below w.heap.size w w' := by
  obtain ⟨p, c, rfl⟩ := h.shape
  have hL := intCells_length zs
  have hO := intCells_one zs
  have hown : (w.alloc (.cells #[] 3)).ownsRow w.heap.size 3 1 (.slice (some ⟨w.heap.size, 0, none⟩) 0 0) 0 [] := World.ownsRow_made w #[] 0 (Nat.le_refl _) (Nat.zero_le _) rfl
  have hbb := below_alloc w (.cells #[] 3)
  have hq : ∀ (W : World) (a : Option Addr) (n : Nat), (binOp .eql 32 (.slice a n c) (.slice none 0 0)).run Tryz.prog W = .ok (.bool a.isNone) W := fun W a n => run_eql_slice_nil W 32 3 a n c 0 0 Tryz.underlying32
  cases p with
  | none =>
    have hz : zs = [] := by
      rcases h.parts with ⟨hz, _⟩ | ⟨b, off, e, _⟩
      · exact hz
      · cases e
    subst hz
    clear h hL hO hown hbb
    go_enter Tryz.func114, Tryz.ntmps114
    go_wp2
    go_ret
    exact ⟨_, rfl, World.ownsRow_nil _ _ _ _, Below.refl _ _⟩
  | some ad =>
    have hcells : ∀ j u, (intCells zs)[j]? = some u → (w.alloc (.cells #[] 3)).cell? (ad.add j) = some u := by
      rcases h.parts with ⟨rfl, _⟩ | ⟨b, off, e, _, hb, hc⟩
      · intro j u hu; simp [intCells] at hu
      · cases e
        exact intCells_at (fun j hj => (hbb.cell (p := ⟨b, off + j, none⟩) hb).trans (hc j hj))
    have HB := aside hbb
    have HC := aside hcells
    have HO := aside hown
    have HL := aside (show (intCells zs).length = zs.length * 1 by omega)
    have H1 := aside hO
    clear hbb hcells hown hL hO h
    generalize zs.length = n at *
    go_enter Tryz.func114, Tryz.ntmps114
    go_wp2_with (at_builtin; obtain ⟨i0, hi, hz0, hz1, hz2⟩ := info_parts Tryz.info3; refine wpList_append_own _ rfl _ _ 32 rfl w.heap.size 3 i0 _ 1 8 Tryz.underlying32 hi hz0 hz1 hz2 rfl (by decide) _ 0 _ rfl HO.out ad n c (intCells zs) rfl HL.out HC.out H1.out (by unfold maxLen; omega) (by omega) (by simp) ?_; intro v' w3 hown' hgrow hnil; clear hnil)
    go_ret
    refine ⟨_, rfl, ?_, HB.out.grown hgrow (by simp) (fun k hk => by cases hk; exact Nat.le_refl _)⟩
    have e0 : 0 + n = n := by omega
    rw [e0] at hown'
    simpa using hown'

set_option maxRecDepth 20000 in
theorem clone64_calls {v : Value} {zs : List Int} {w : World} (h : RowAt w v zs) (hs : zs.length < 1000) : Calls Tryz.prog 64 #[v] w fun e w' =>
    ∃ v', e = .returned v' ∧ w'.ownsRow w.heap.size 3 1 v' zs.length (intCells zs) ∧ Below w.heap.size w w' := by
  obtain ⟨p, c, rfl⟩ := h.shape
  have hL := intCells_length zs
  have hO := intCells_one zs
  have hown : (w.alloc (.cells #[] 3)).ownsRow w.heap.size 3 1 (.slice (some ⟨w.heap.size, 0, none⟩) 0 0) 0 [] := World.ownsRow_made w #[] 0 (Nat.le_refl _) (Nat.zero_le _) rfl
  have hbb := below_alloc w (.cells #[] 3)
  have hq : ∀ (W : World) (a : Option Addr) (n : Nat), (binOp .eql 33 (.slice a n c) (.slice none 0 0)).run Tryz.prog W = .ok (.bool a.isNone) W := fun W a n => run_eql_slice_nil W 33 3 a n c 0 0 Tryz.underlying33
  cases p with
  | none =>
    have hz : zs = [] := by
      rcases h.parts with ⟨hz, _⟩ | ⟨b, off, e, _⟩
      · exact hz
      · cases e
    subst hz
    clear h hL hO hown hbb
    go_enter Tryz.func64, Tryz.ntmps64
    go_wp2
    go_ret
    exact ⟨_, rfl, World.ownsRow_nil _ _ _ _, Below.refl _ _⟩
  | some ad =>
    have hcells : ∀ j u, (intCells zs)[j]? = some u → (w.alloc (.cells #[] 3)).cell? (ad.add j) = some u := by
      rcases h.parts with ⟨rfl, _⟩ | ⟨b, off, e, _, hb, hc⟩
      · intro j u hu; simp [intCells] at hu
      · cases e
        exact intCells_at (fun j hj => (hbb.cell (p := ⟨b, off + j, none⟩) hb).trans (hc j hj))
    have HB := aside hbb
    have HC := aside hcells
    have HO := aside hown
    have HL := aside (show (intCells zs).length = zs.length * 1 by omega)
    have H1 := aside hO
    clear hbb hcells hown hL hO h
    generalize zs.length = n at *
    go_enter Tryz.func64, Tryz.ntmps64
    go_wp2_with (at_builtin; obtain ⟨i0, hi, hz0, hz1, hz2⟩ := info_parts Tryz.info3; refine wpList_append_own _ rfl _ _ 33 rfl w.heap.size 3 i0 _ 1 8 Tryz.underlying33 hi hz0 hz1 hz2 rfl (by decide) _ 0 _ rfl HO.out ad n c (intCells zs) rfl HL.out HC.out H1.out (by unfold maxLen; omega) (by omega) (by simp) ?_; intro v' w3 hown' hgrow hnil; clear hnil)
    go_ret
    refine ⟨_, rfl, ?_, HB.out.grown hgrow (by simp) (fun k hk => by cases hk; exact Nat.le_refl _)⟩
    have e0 : 0 + n = n := by omega
    rw [e0] at hown'
    simpa using hown'

set_option maxRecDepth 20000 in
set_option maxHeartbeats 2000000 in
theorem equal78_calls {v u : Value} {zs ys : List Int} {w : World} (h : RowAt w v zs) (k : RowAt w u ys) (hs : zs.length < 1000) (ks : ys.length < 1000) : Calls Tryz.prog 78 #[v, u] w fun e w' =>
    e = .returned (.bool (decide (zs = ys))) ∧ Below w.heap.size w w' := by
  obtain ⟨p, c, rfl⟩ := h.shape
  obtain ⟨p', c', rfl⟩ := k.shape
  by_cases hl : (zs.length : Int) = (ys.length : Int)
  · have hl' : zs.length = ys.length := by omega
    have H := aside h
    have K := aside k
    have HL := aside hl'
    have hz := aside (rfl : zs.length = zs.length)
    clear h k hl'
    generalize hn : zs.length = n at *
    generalize hm : ys.length = m at *
    have HN := aside hn
    have HM := aside hm
    clear hn hm hz
    go_enter Tryz.func78, Tryz.ntmps78
    go_wp2
    go_loopg [5, 13] n (fun gg _ s13 wr => ∃ kk : Nat, kk ≤ n ∧ n - kk ≤ gg ∧ s13 = .int .i64 kk ∧ Aside (Below w.heap.size w wr) ∧ Aside (∀ j, j < kk → zs[j]! = ys[j]!))
    case atStart => exact ⟨0, Nat.zero_le _, by omega, rfl, Below.refl _ _, fun j hj => absurd hj (Nat.not_lt_zero _)⟩
    case round =>
      obtain ⟨kk, hkk, hg, rfl, BW, A⟩ := hrel
      by_cases hlt : kk < n
      · have hltz : (kk : Int) < (n : Int) := by omega
        have hltm : (kk : Int) < (m : Int) := by omega
        rcases H.out.parts with ⟨rfl, h0⟩ | ⟨b, off, rfl, -, hb, hc⟩
        · omega
        rcases K.out.parts with ⟨rfl, h0⟩ | ⟨b', off', rfl, -, hb', hc'⟩
        · omega
        have l1 := (BW.out.cell (p := ⟨b, off + kk, none⟩) hb).trans (hc kk (by have := HN.out; omega))
        have l2 := (BW.out.cell (p := ⟨b', off' + kk, none⟩) hb').trans (hc' kk (by have := HM.out; omega))
        clear hc hc' hb hb'
        have HQ := aside (rfl : zs[kk]! = zs[kk]!)
        generalize hx : zs[kk]! = x at l1
        generalize hy : ys[kk]! = y at l2
        have HX := aside hx
        have HY := aside hy
        clear hx hy HQ
        by_cases hxy : x = y
        · have HXY := aside hxy
          subst hxy
          go_wp2
          go_quiet (fail)
          go_wp2
          go_roundg (n - (kk + 1))
          case measure => omega
          case rel =>
            refine ⟨kk + 1, by omega, by omega, by go_num, (show Aside _ from below_drewN BW.out _), (show Aside _ from fun j hj => ?_)⟩
            by_cases e : j = kk
            · subst e; rw [HX.out, HY.out]
            · exact A.out j (by omega)
        · go_wp2
          go_quiet (fail)
          go_wp2
          go_ret
          refine ⟨?_, below_drewN BW.out _⟩
          have hne : ¬ zs = ys := fun e => hxy (by rw [← HX.out, ← HY.out, e])
          rw [decide_eq_false hne]
          rfl
      · have hltz : ¬ (kk : Int) < (n : Int) := by omega
        have : kk = n := by omega
        subst this
        go_wp2
        go_ret
        refine ⟨?_, BW.out⟩
        have he : zs = ys := by
          apply List.ext_getElem (by rw [HN.out, HM.out]; exact HL.out)
          intro j h1 h2
          have := A.out j (by rw [← HN.out]; exact h1)
          rw [getElem!_pos zs j h1, getElem!_pos ys j h2] at this
          exact this
        rw [decide_eq_true he]
        rfl
  · have hne : ¬ zs = ys := fun e => hl (by rw [e])
    rw [decide_eq_false hne]
    clear h k hne
    generalize zs.length = n at *
    generalize ys.length = m at *
    go_enter Tryz.func78, Tryz.ntmps78
    go_wp2
    go_ret
    exact ⟨rfl, Below.refl _ _⟩

set_option maxRecDepth 20000 in
set_option maxHeartbeats 2000000 in
theorem equal19_calls {v u : Value} {zs ys : List Int} {w : World} (h : RowAt w v zs) (k : RowAt w u ys) (hs : zs.length < 1000) (ks : ys.length < 1000) : Calls Tryz.prog 19 #[v, u] w fun e w' =>
    e = .returned (.bool (decide (zs = ys))) ∧ Below w.heap.size w w' := by
  obtain ⟨p, c, rfl⟩ := h.shape
  obtain ⟨p', c', rfl⟩ := k.shape
  by_cases hl : (zs.length : Int) = (ys.length : Int)
  · have hl' : zs.length = ys.length := by omega
    have H := aside h
    have K := aside k
    have HL := aside hl'
    have hz := aside (rfl : zs.length = zs.length)
    clear h k hl'
    generalize hn : zs.length = n at *
    generalize hm : ys.length = m at *
    have HN := aside hn
    have HM := aside hm
    clear hn hm hz
    go_enter Tryz.func19, Tryz.ntmps19
    go_wp2
    go_loopg [5, 13] n (fun gg _ s13 wr => ∃ kk : Nat, kk ≤ n ∧ n - kk ≤ gg ∧ s13 = .int .i64 kk ∧ Aside (Below w.heap.size w wr) ∧ Aside (∀ j, j < kk → zs[j]! = ys[j]!))
    case atStart => exact ⟨0, Nat.zero_le _, by omega, rfl, Below.refl _ _, fun j hj => absurd hj (Nat.not_lt_zero _)⟩
    case round =>
      obtain ⟨kk, hkk, hg, rfl, BW, A⟩ := hrel
      by_cases hlt : kk < n
      · have hltz : (kk : Int) < (n : Int) := by omega
        have hltm : (kk : Int) < (m : Int) := by omega
        rcases H.out.parts with ⟨rfl, h0⟩ | ⟨b, off, rfl, -, hb, hc⟩
        · omega
        rcases K.out.parts with ⟨rfl, h0⟩ | ⟨b', off', rfl, -, hb', hc'⟩
        · omega
        have l1 := (BW.out.cell (p := ⟨b, off + kk, none⟩) hb).trans (hc kk (by have := HN.out; omega))
        have l2 := (BW.out.cell (p := ⟨b', off' + kk, none⟩) hb').trans (hc' kk (by have := HM.out; omega))
        clear hc hc' hb hb'
        have HQ := aside (rfl : zs[kk]! = zs[kk]!)
        generalize hx : zs[kk]! = x at l1
        generalize hy : ys[kk]! = y at l2
        have HX := aside hx
        have HY := aside hy
        clear hx hy HQ
        by_cases hxy : x = y
        · have HXY := aside hxy
          subst hxy
          go_wp2
          go_quiet (fail)
          go_wp2
          go_roundg (n - (kk + 1))
          case measure => omega
          case rel =>
            refine ⟨kk + 1, by omega, by omega, by go_num, (show Aside _ from below_drewN BW.out _), (show Aside _ from fun j hj => ?_)⟩
            by_cases e : j = kk
            · subst e; rw [HX.out, HY.out]
            · exact A.out j (by omega)
        · go_wp2
          go_quiet (fail)
          go_wp2
          go_ret
          refine ⟨?_, below_drewN BW.out _⟩
          have hne : ¬ zs = ys := fun e => hxy (by rw [← HX.out, ← HY.out, e])
          rw [decide_eq_false hne]
          rfl
      · have hltz : ¬ (kk : Int) < (n : Int) := by omega
        have : kk = n := by omega
        subst this
        go_wp2
        go_ret
        refine ⟨?_, BW.out⟩
        have he : zs = ys := by
          apply List.ext_getElem (by rw [HN.out, HM.out]; exact HL.out)
          intro j h1 h2
          have := A.out j (by rw [← HN.out]; exact h1)
          rw [getElem!_pos zs j h1, getElem!_pos ys j h2] at this
          exact this
        rw [decide_eq_true he]
        rfl
  · have hne : ¬ zs = ys := fun e => hl (by rw [e])
    rw [decide_eq_false hne]
    clear h k hne
    generalize zs.length = n at *
    generalize ys.length = m at *
    go_enter Tryz.func19, Tryz.ntmps19
    go_wp2
    go_ret
    exact ⟨rfl, Below.refl _ _⟩
end Go.Proofs.YtjiijgdkdlelhaaGreatDoor

/- SpellingChecks: check of the law. -/
import Derived.Test.YtjiijgdkdlelhaaGreatDoorScL
import Derived.Maps.AppendAt
import Derived.Deep.QuietTactic
import Derived.BigQuiet
import Derived.Deep.Draws
import Derived.WalkSmall
namespace Go.Proofs.YtjiijgdkdlelhaaGreatDoor
open Go.Shelf Go.RowKit Go.Lib

theorem aside {p : Prop} (h : p) : Aside p := h
theorem owns_below {w W : World} {base : Nat} {e : TypeId} {size : Nat} {v : Value} {n : Nat} {xs : List Value} (h : w.ownsRow base e size v n xs) (hb : Below w.heap.size w W) : W.ownsRow base e size v n xs := by
  refine ⟨h.1, ?_⟩
  rcases h.2 with hn | ⟨g, cap, cur, rfl, hbg, hgg, rest⟩
  · exact .inl hn
  · refine .inr ⟨g, cap, cur, rfl, hbg, ?_, rest⟩
    rw [hb.block g (Array.getElem?_eq_some_iff.1 hgg).1]
    exact hgg

theorem names_of_owns {w : World} {base : Nat} {v : Value} {N : List ByteArray} (h : w.ownsRow base 9 1 v N.length (N.map Value.string)) : NamesAt w v N := by
  rcases h.2 with ⟨rfl, h0⟩ | ⟨g, cap, cur, rfl, hb, hg, hn, hm, hs, ht⟩
  · exact .inl ⟨0, rfl, List.eq_nil_of_length_eq_zero h0⟩
  · refine .inr ⟨g, 0, cap, rfl, fun j hj => ?_⟩
    have := h.cells (g := g) rfl j (.string N[j]!) (by rw [List.getElem?_map, List.getElem?_eq_getElem hj, getElem!_pos N j hj]; rfl)
    rw [Addr.add_lit] at this
    exact this
theorem first_row {w : World} {p : Option Addr} {n q : Nat} {L : List Sym} (h : SymsAt w (.slice p n q) L) (hp : 0 < L.length) : ∃ bb oo, p = some ⟨bb, oo, none⟩ ∧ bb < w.heap.size ∧ ∃ pf cf, w.cell? ⟨bb, oo + 1, none⟩ = some (.slice pf L[0]!.els.length cf) := by
  rcases h.2 with ⟨base, c, e, rfl, -⟩ | ⟨b, off, c, e, hb, h3⟩
  · simp at hp
  · cases e
    have hm : L[0]! ∈ L := by rw [getElem!_pos L 0 hp]; exact List.getElem_mem hp
    obtain ⟨pf, cf, hr⟩ := (h.1 _ hm).shape
    refine ⟨b, off, rfl, hb, pf, cf, ?_⟩
    have := h3 0 hp 1 _ rfl
    rw [hr] at this
    simpa using this

theorem below_step {w w' : World} (o : Obj) (h : Below (w.alloc o).heap.size (w.alloc o) w') : Below w.heap.size w w' :=
  ((Below.refl _ w).alloc (Nat.le_refl _) o).trans (h.mono (by simp))
theorem step_cell {w w' : World} (a b : Value) (t : TypeId) (h : Below (w.alloc (.cells #[a, b] t)).heap.size (w.alloc (.cells #[a, b] t)) w') : w.heap.size < w'.heap.size ∧ w'.cell? ⟨w.heap.size, 0, none⟩ = some a ∧ w'.cell? ⟨w.heap.size, 1, none⟩ = some b :=
  have c := cell_two w a b t
  ⟨by have := h.size; simp at this; omega, (h.cell (p := ⟨w.heap.size, 0, none⟩) (by simp)).trans c.1, (h.cell (p := ⟨w.heap.size, 1, none⟩) (by simp)).trans c.2⟩
theorem one_string {s : ByteArray} : ∀ u ∈ [Value.string s], u.oneCell' = true := by
  intro u hu; simp at hu; subst hu; rfl
theorem sz_step {wc wr w1 : World} {o : Obj} (h1 : Below wc.heap.size wc wr) (h2 : Below wr.heap.size wr w1) : wc.heap.size ≤ (w1.alloc o).heap.size := by
  have := h1.size; have := h2.size; simp; omega
theorem app_step {wc wr w1 w3 : World} {o : Obj} {v : Value} {n : Nat} {xs : List Value} {e : TypeId} {sz : Nat} (h1 : Below wc.heap.size wc wr) (ho : wr.ownsRow wc.heap.size e sz v n xs) (h2 : Below wr.heap.size wr w1) (hg : (w1.alloc o).grownBy w3 v.ownBlock) : Below wc.heap.size wc w3 :=
  ((h1.trans (h2.mono h1.size)).alloc (by have := h1.size; have := h2.size; omega) o).grown hg (sz_step h1 h2) (fun k hk => (ho.lt k hk).1)
theorem app_cell {wc wr w1 w3 : World} {o : Obj} {v : Value} {n : Nat} {xs : List Value} {e : TypeId} {sz : Nat} {a b : Value} (ho : wr.ownsRow wc.heap.size e sz v n xs) (h2 : Below wr.heap.size wr w1)
    (hx : wr.heap.size < w1.heap.size ∧ w1.cell? ⟨wr.heap.size, 0, none⟩ = some a ∧ w1.cell? ⟨wr.heap.size, 1, none⟩ = some b) (hg : (w1.alloc o).grownBy w3 v.ownBlock) :
    wr.heap.size < w3.heap.size ∧ w3.cell? ⟨wr.heap.size, 0, none⟩ = some a ∧ w3.cell? ⟨wr.heap.size, 1, none⟩ = some b := by
  obtain ⟨hl, h0, h1⟩ := hx
  have hb : Below w1.heap.size w1 (w1.alloc o) := (Below.refl _ w1).alloc (Nat.le_refl _) o
  have hne : some wr.heap.size ≠ v.ownBlock := fun e => by have := (ho.lt _ e.symm).2; omega
  refine ⟨by have := hg.size; simp at this; omega, ?_, ?_⟩
  · exact hg.cell ((hb.cell (p := ⟨wr.heap.size, 0, none⟩) hl).trans h0) hne
  · exact hg.cell ((hb.cell (p := ⟨wr.heap.size, 1, none⟩) hl).trans h1) hne

theorem Tryz.info9 : (Tryz.prog.info? 9).map (fun i => (i.zero, i.size, i.bytes)) = some (some (.string ByteArray.empty), 1, 16) := by kernel_rfl
/-- The world in which Concat is called over the two boxed fields. -/
def boxW (w : World) (v1 v2 : Value) : World := (w.alloc (.cells #[v1, v2] 30)).alloc (.cells #[v1, v2] 28)

theorem concat_boxed {v1 v2 : Value} {L1 L2 : List Sym} {w : World} (h1 : SymsAt w v1 L1) (h2 : SymsAt w v2 L2) (hn : L1.length + L2.length < 1000) (hp : 0 < L1.length) :
    Calls Tryz.prog 92 #[.slice (some ⟨w.heap.size + 1, 0, none⟩) 2 2] ((w.alloc (.cells #[v1, v2] 30)).alloc (.cells #[v1, v2] 28)) fun e w' =>
      ∃ b off c, e = .returned (.slice (some ⟨b, off, none⟩) (L1.length + L2.length) c) ∧ Aside (b < w'.heap.size) ∧ Aside (∀ j, j < (L1 ++ L2).length → w'.cell? ⟨b, off + j * 2, none⟩ = some (.string (L1 ++ L2)[j]!.name) ∧ w'.cell? ⟨b, off + j * 2 + 1, none⟩ = some (L1 ++ L2)[j]!.row) ∧
        Aside (∀ x ∈ L1 ++ L2, RowAt w' x.row x.els) ∧ Aside (Below w.heap.size w w') ∧ Aside (w'.cell? ⟨w.heap.size, 0, none⟩ = some v1 ∧ w.heap.size < w'.heap.size) ∧ Aside (L1.length + L2.length ≤ c) := by
  have hsz : (w.alloc (.cells #[v1, v2] 30)).heap.size = w.heap.size + 1 := by simp
  have hc2 := cell_two (w.alloc (.cells #[v1, v2] 30)) v1 v2 28
  rw [hsz] at hc2
  have hbb : Below w.heap.size w ((w.alloc (.cells #[v1, v2] 30)).alloc (.cells #[v1, v2] 28)) := ((Below.refl _ w).alloc (Nat.le_refl _) _).alloc (by rw [hsz]; omega) _
  refine (concat_calls (by simp) hc2.1 hc2.2 (h1.mono hbb) (h2.mono hbb) hn).mono ?_
  rintro e w' ⟨v, rfl, ho, hb⟩
  have hB := hbb.trans (hb.mono hbb.size)
  have hS := syms_concat h1 h2 hB ho
  have hbox : w'.cell? ⟨w.heap.size, 0, none⟩ = some v1 := by
    rw [hb.cell (p := ⟨w.heap.size, 0, none⟩) (by simp; omega)]
    have h := cell_two w v1 v2 30
    exact (((Below.refl _ (w.alloc (.cells #[v1, v2] 30))).alloc (Nat.le_refl _) (.cells #[v1, v2] 28)).cell (p := ⟨w.heap.size, 0, none⟩) (by simp)).trans h.1
  have hlt : w.heap.size < w'.heap.size := by have := hb.size; simp at this; omega
  rcases hS.2 with ⟨base, c, rfl, h0, -⟩ | ⟨b, off, c, rfl, h2, h3⟩
  · have := congrArg List.length h0
    rw [List.length_append, List.length_nil] at this
    omega
  · rw [List.length_append]
    exact ⟨b, off, c, rfl, h2, fun j hj => ⟨h3 j (by rw [List.length_append]; exact hj) 0 _ rfl, h3 j (by rw [List.length_append]; exact hj) 1 _ rfl⟩, hS.1, hB, ⟨hbox, hlt⟩, by
      rcases ho.2 with ⟨e, _⟩ | ⟨g, cap, cur, e, _, _, hn, _⟩
      · cases e
      · simp only [Value.slice.injEq] at e
        rw [e.2.2]; exact hn⟩

set_option maxRecDepth 20000 in
set_option maxHeartbeats 4000000 in
theorem check_calls {v1 v2 : Value} {L1 L2 : List Sym} {w : World} (h1 : SymsAt w v1 L1) (h2 : SymsAt w v2 L2) (b1 : L1.length ≤ 9223372036854775807) (b2 : L2.length ≤ 9223372036854775807) (b3 : ∀ x ∈ L1 ++ L2, x.els.length ≤ 9223372036854775807) :
    Calls Tryz.prog 44 #[.agg #[v1, v2]] w fun e w' => e = .returned (.int .i64 (noteErr L1 L2)) ∧ Below w.heap.size w w' := by
  obtain ⟨p1, q1, e1⟩ := h1.shape
  obtain ⟨p2, q2, e2⟩ := h2.shape
  have H1 : Aside (SymsAt w v1 L1) := h1
  have H2 : Aside (SymsAt w v2 L2) := h2
  clear h1 h2
  subst e1 e2
  generalize hn1 : L1.length = n1 at *
  generalize hn2 : L2.length = n2 at *
  have N1 : Aside (L1.length = n1) := hn1
  have N2 : Aside (L2.length = n2) := hn2
  clear hn1 hn2
  have B3 := aside b3
  clear b3
  have hr : noteErr L1 L2 = if n1 = 0 then 13 else if 60 < n1 ∨ 6 < n2 then 4 else errFrom L1[0]!.els.length [] (L1 ++ L2) := by unfold noteErr; rw [N1.out, N2.out]
  rw [hr]
  clear hr
  have hbb : Below w.heap.size w (w.alloc (.cells #[.slice p1 n1 q1, .slice p2 n2 q2] 30)) := (Below.refl _ w).alloc (Nat.le_refl _) _
  have HBB := aside hbb
  clear hbb
  by_cases hA : (n1 : Int) = 0
  · rw [if_pos (by omega)]
    go_enter Tryz.func44, Tryz.ntmps44
    go_wp2
    go_ret
    exact ⟨rfl, HBB.out⟩
  · rw [if_neg (by omega)]
    by_cases hB : (60 : Int) < (n1 : Int)
    · rw [if_pos (by omega)]
      go_enter Tryz.func44, Tryz.ntmps44
      go_wp2
      go_ret
      exact ⟨rfl, HBB.out⟩
    · by_cases hC : (6 : Int) < (n2 : Int)
      · rw [if_pos (by omega)]
        go_enter Tryz.func44, Tryz.ntmps44
        go_wp2
        go_ret
        exact ⟨rfl, HBB.out⟩
      · rw [if_neg (by omega)]
        have hcc := concat_boxed H1.out H2.out (by rw [N1.out, N2.out]; omega) (by rw [N1.out]; omega)
        rw [N1.out, N2.out] at hcc
        have hlen : (L1 ++ L2).length = n1 + n2 := by rw [List.length_append, N1.out, N2.out]
        obtain ⟨bb, oo, rfl, hbl, hfirst⟩ := first_row H1.out (by rw [N1.out]; omega)
        generalize hk : L1[0]!.els.length = k at *
        generalize L1 ++ L2 = L at hcc hlen B3 ⊢
        have HL := aside hlen
        have HCC := aside hcc
        have HF := aside hfirst
        have HBL := aside hbl
        clear hcc hlen hk hfirst hbl
        go_enter Tryz.func44, Tryz.ntmps44
        go_wp2_with (go_at_call 92; refine HCC.out.mono ?_; rintro e wc ⟨b, off, c, rfl, hb, hcells, hrows, hBc, hbox, hcap⟩)
        have hnpos : 0 < n1 := by omega
        have hnle : n1 + n2 < 1000 := by omega
        have hbox1 := hbox.out.1
        have hbox2 := hbox.out.2
        obtain ⟨pf, cf, hf⟩ := HF.out
        have hf' := (hBc.out.cell (p := ⟨bb, oo + 1, none⟩) HBL.out).trans hf
        have hbb : bb < wc.heap.size := Nat.lt_of_lt_of_le HBL.out hBc.out.size
        clear hA hB hC hf
        have HFC := aside hf'
        have HBX := aside hbox1
        clear hf' hbox1
        go_loopg [3, 5, 6, 28] (n1 + n2) (fun gg s3 _ _ s28 wr => ∃ kk : Nat, kk ≤ n1 + n2 ∧ n1 + n2 - kk ≤ gg ∧ s28 = .int .i64 kk ∧ Aside (wr.ownsRow wc.heap.size 9 1 s3 kk ((namesOf L kk).map Value.string)) ∧ Aside (Below wc.heap.size wc wr) ∧
          Aside (errFrom k [] L = errFrom k (namesOf L kk) (L.drop kk)))
        case atStart => exact ⟨0, Nat.zero_le _, by omega, rfl, World.ownsRow_nil _ _ _ _, Below.refl _ _, rfl⟩
        case round =>
          obtain ⟨kk, hkk, hg, rfl, OR, BW, A⟩ := hrel
          by_cases hlt : kk < n1 + n2
          · have hltz : (kk : Int) < (n1 : Int) + (n2 : Int) := by omega
            have hkL : kk < L.length := by rw [HL.out]; exact hlt
            have hm : L[kk]! ∈ L := by rw [getElem!_pos L kk hkL]; exact List.getElem_mem hkL
            obtain ⟨l2, l3⟩ := hcells.out kk hkL
            have hRow := (hrows.out _ hm).mono (BW.out.mono (Nat.le_refl _))
            obtain ⟨pr, cr, her⟩ := hRow.shape
            have l2' := (BW.out.cell (p := ⟨b, off + kk * 2, none⟩) hb.out).trans l2
            have l3' := (BW.out.cell (p := ⟨b, off + kk * 2 + 1, none⟩) hb.out).trans l3
            rw [her] at l3'
            have hbx := (BW.out.cell (p := ⟨w.heap.size, 0, none⟩) hbox2).trans HBX.out
            have hfr := (BW.out.cell (p := ⟨bb, oo + 1, none⟩) hbb).trans HFC.out
            clear l2 l3
            have hck : ∀ W, Below wc.heap.size wc W → Calls Tryz.prog 30 #[.slice pr L[kk]!.els.length cr] W fun e w' => e = .returned (.int .i64 (rowErr L[kk]!.els)) ∧ Below W.heap.size W w' := fun W hW => by
              have := rowCheck_calls ((hrows.out _ hm).mono hW) (B3.out _ hm)
              rw [her] at this
              exact this
            have hnm : ∀ W, Calls Tryz.prog 94 #[.string L[kk]!.name] W fun e w' => e = .returned (.bool (isNameB L[kk]!.name)) ∧ Below W.heap.size W w' := isName_calls _
            have hct : ∀ W, Below wr.heap.size wr W → Calls Tryz.prog 95 #[u3, .string L[kk]!.name] W fun e w' => e = .returned (.bool ((namesOf L kk).any fun y => decide (L[kk]!.name.toList = y.toList))) ∧ w' = W := fun W hW =>
              contains_name _ (names_of_owns (by rw [namesOf_length (by omega)]; exact owns_below OR.out hW)) (by rw [namesOf_length (by omega)]; omega)
            have hse : symErr k (namesOf L kk) L[kk]! = if isNameB L[kk]!.name = false then 8 else if ((namesOf L kk).any fun y => decide (L[kk]!.name.toList = y.toList)) = true then 9 else if rowErr L[kk]!.els ≠ 0 then rowErr L[kk]!.els else if 12 < L[kk]!.els.length then 4 else if L[kk]!.els.length ≠ k then 5 else 0 := rfl
            have hns := namesOf_succ hkL
            have hle := B3.out _ hm
            clear her hm hRow
            generalize ((namesOf L kk).any fun y => decide (L[kk]!.name.toList = y.toList)) = dup at hct hse
            generalize isNameB L[kk]!.name = isB at hnm hse
            generalize rowErr L[kk]!.els = re at hck hse
            generalize L[kk]!.els.length = le at hck hse l3' hle
            generalize L[kk]!.name = nm at l2' hnm hct hns
            have HSE := aside hse
            have HNS := aside hns
            have HCK := aside hck
            have HNM := aside hnm
            have HCT := aside hct
            clear hse hns hck hnm hct hkL
            have hw5 : w.heap.size < wr.heap.size := by have := BW.out.size; omega
            have hbW : bb < wr.heap.size := by have := BW.out.size; omega
            cases isB with
            | false =>
              go_wp2_with (first
                | (go_at_call 94; refine (HNM.out _).mono ?_; rintro e w1 ⟨rfl, hb1⟩; have hB1 := below_step _ hb1; have x0 := step_cell _ _ _ hb1)
                | (go_at_call 95; refine (HCT.out _ hB1).mono ?_; rintro e w2 ⟨rfl, rfl⟩)
                | (at_builtin; obtain ⟨i0, hi, hz0, hz1, hz2⟩ := info_parts Tryz.info9; refine wpList_append_own _ rfl _ _ 109 rfl wc.heap.size 9 i0 (.string ByteArray.empty) 1 16 Tryz.underlying109 hi hz0 hz1 hz2 rfl (by decide) _ kk _ rfl ((owns_below OR.out hB1).alloc _) ⟨w2.heap.size, 0, none⟩ 1 1 [.string nm] rfl rfl (cell_one_new _ _ _) one_string (by unfold maxLen; omega) (by omega) (sz_step BW.out hB1) ?_; intro v' w3 hown' hgrow hnil; clear hnil hi hz0 hz1 hz2; have hB3 := app_step BW.out OR.out hB1 hgrow; have x3 := app_cell OR.out hB1 x0 hgrow)
                | (go_at_call 30; refine (HCK.out _ hB3).mono ?_; rintro e w5 ⟨rfl, hb5⟩; have hB5 := hB3.trans (hb5.mono hB3.size); have y0 := (hb5.cell (p := ⟨wr.heap.size, 0, none⟩) x3.1).trans x3.2.1; have y1 := (hb5.cell (p := ⟨wr.heap.size, 1, none⟩) x3.1).trans x3.2.2; have y2 := (hB5.cell (p := ⟨w.heap.size, 0, none⟩) hbox2).trans HBX.out; have y3 := (hB5.cell (p := ⟨bb, oo + 1, none⟩) hbb).trans HFC.out))
              go_ret
              refine ⟨?_, hBc.out.trans ((BW.out.trans (hB1.mono BW.out.size)).mono hBc.out.size)⟩
              rw [A.out, errFrom_hit (by rw [HL.out]; exact hlt) (by rw [HSE.out]; simp), HSE.out]
              rfl
            | true =>
              cases dup with
              | true =>
                go_wp2_with (first
                  | (go_at_call 94; refine (HNM.out _).mono ?_; rintro e w1 ⟨rfl, hb1⟩; have hB1 := below_step _ hb1; have x0 := step_cell _ _ _ hb1)
                  | (go_at_call 95; refine (HCT.out _ hB1).mono ?_; rintro e w2 ⟨rfl, rfl⟩)
                  | (at_builtin; obtain ⟨i0, hi, hz0, hz1, hz2⟩ := info_parts Tryz.info9; refine wpList_append_own _ rfl _ _ 109 rfl wc.heap.size 9 i0 (.string ByteArray.empty) 1 16 Tryz.underlying109 hi hz0 hz1 hz2 rfl (by decide) _ kk _ rfl ((owns_below OR.out hB1).alloc _) ⟨w2.heap.size, 0, none⟩ 1 1 [.string nm] rfl rfl (cell_one_new _ _ _) one_string (by unfold maxLen; omega) (by omega) (sz_step BW.out hB1) ?_; intro v' w3 hown' hgrow hnil; clear hnil hi hz0 hz1 hz2; have hB3 := app_step BW.out OR.out hB1 hgrow; have x3 := app_cell OR.out hB1 x0 hgrow)
                  | (go_at_call 30; refine (HCK.out _ hB3).mono ?_; rintro e w5 ⟨rfl, hb5⟩; have hB5 := hB3.trans (hb5.mono hB3.size); have y0 := (hb5.cell (p := ⟨wr.heap.size, 0, none⟩) x3.1).trans x3.2.1; have y1 := (hb5.cell (p := ⟨wr.heap.size, 1, none⟩) x3.1).trans x3.2.2; have y2 := (hB5.cell (p := ⟨w.heap.size, 0, none⟩) hbox2).trans HBX.out; have y3 := (hB5.cell (p := ⟨bb, oo + 1, none⟩) hbb).trans HFC.out))
                go_ret
                refine ⟨?_, hBc.out.trans ((BW.out.trans (hB1.mono BW.out.size)).mono hBc.out.size)⟩
                rw [A.out, errFrom_hit (by rw [HL.out]; exact hlt) (by rw [HSE.out]; simp), HSE.out]
                rfl
              | false =>
                by_cases hre : re = 0
                · subst hre
                  by_cases hle12 : (12 : Int) < (le : Int)
                  · have hn12 : 12 < le := by omega
                    go_wp2_with (first
                      | (go_at_call 94; refine (HNM.out _).mono ?_; rintro e w1 ⟨rfl, hb1⟩; have hB1 := below_step _ hb1; have x0 := step_cell _ _ _ hb1)
                      | (go_at_call 95; refine (HCT.out _ hB1).mono ?_; rintro e w2 ⟨rfl, rfl⟩)
                      | (at_builtin; obtain ⟨i0, hi, hz0, hz1, hz2⟩ := info_parts Tryz.info9; refine wpList_append_own _ rfl _ _ 109 rfl wc.heap.size 9 i0 (.string ByteArray.empty) 1 16 Tryz.underlying109 hi hz0 hz1 hz2 rfl (by decide) _ kk _ rfl ((owns_below OR.out hB1).alloc _) ⟨w2.heap.size, 0, none⟩ 1 1 [.string nm] rfl rfl (cell_one_new _ _ _) one_string (by unfold maxLen; omega) (by omega) (sz_step BW.out hB1) ?_; intro v' w3 hown' hgrow hnil; clear hnil hi hz0 hz1 hz2; have hB3 := app_step BW.out OR.out hB1 hgrow; have x3 := app_cell OR.out hB1 x0 hgrow)
                      | (go_at_call 30; refine (HCK.out _ hB3).mono ?_; rintro e w5 ⟨rfl, hb5⟩; have hB5 := hB3.trans (hb5.mono hB3.size); have y0 := (hb5.cell (p := ⟨wr.heap.size, 0, none⟩) x3.1).trans x3.2.1; have y1 := (hb5.cell (p := ⟨wr.heap.size, 1, none⟩) x3.1).trans x3.2.2; have y2 := (hB5.cell (p := ⟨w.heap.size, 0, none⟩) hbox2).trans HBX.out; have y3 := (hB5.cell (p := ⟨bb, oo + 1, none⟩) hbb).trans HFC.out))
                    go_ret
                    refine ⟨?_, hBc.out.trans ((hB5).mono hBc.out.size)⟩
                    rw [A.out, errFrom_hit (by rw [HL.out]; exact hlt) (by rw [HSE.out]; simp [hn12]), HSE.out]
                    simp [hn12]
                    try rfl
                  · have hn12 : ¬ 12 < le := by omega
                    have hn1z : (0 : Int) < (n1 : Int) := by omega
                    by_cases hlk : (le : Int) = (k : Int)
                    · have hlk' : le = k := by omega
                      have HLK := aside hlk'
                      clear hlk'
                      go_wp2_with (first
                        | (go_at_call 94; refine (HNM.out _).mono ?_; rintro e w1 ⟨rfl, hb1⟩; have hB1 := below_step _ hb1; have x0 := step_cell _ _ _ hb1)
                        | (go_at_call 95; refine (HCT.out _ hB1).mono ?_; rintro e w2 ⟨rfl, rfl⟩)
                        | (at_builtin; obtain ⟨i0, hi, hz0, hz1, hz2⟩ := info_parts Tryz.info9; refine wpList_append_own _ rfl _ _ 109 rfl wc.heap.size 9 i0 (.string ByteArray.empty) 1 16 Tryz.underlying109 hi hz0 hz1 hz2 rfl (by decide) _ kk _ rfl ((owns_below OR.out hB1).alloc _) ⟨w2.heap.size, 0, none⟩ 1 1 [.string nm] rfl rfl (cell_one_new _ _ _) one_string (by unfold maxLen; omega) (by omega) (sz_step BW.out hB1) ?_; intro v' w3 hown' hgrow hnil; clear hnil hi hz0 hz1 hz2; have hB3 := app_step BW.out OR.out hB1 hgrow; have x3 := app_cell OR.out hB1 x0 hgrow)
                        | (go_at_call 30; refine (HCK.out _ hB3).mono ?_; rintro e w5 ⟨rfl, hb5⟩; have hB5 := hB3.trans (hb5.mono hB3.size); have y0 := (hb5.cell (p := ⟨wr.heap.size, 0, none⟩) x3.1).trans x3.2.1; have y1 := (hb5.cell (p := ⟨wr.heap.size, 1, none⟩) x3.1).trans x3.2.2; have y2 := (hB5.cell (p := ⟨w.heap.size, 0, none⟩) hbox2).trans HBX.out; have y3 := (hB5.cell (p := ⟨bb, oo + 1, none⟩) hbb).trans HFC.out))
                      go_quiet (fail)
                      go_wp2
                      go_roundg (n1 + n2 - (kk + 1))
                      case measure => omega
                      case rel =>
                        refine ⟨kk + 1, by omega, by omega, by go_num, (show Aside _ from ?_), (show Aside _ from below_drewN hB5 _), (show Aside _ from ?_)⟩
                        · have ho := owns_below hown' hb5
                          rw [HNS.out, List.map_append]
                          exact ho
                        · rw [A.out, errFrom_miss (by rw [HL.out]; exact hlt) (by rw [HSE.out]; simp [HLK.out] <;> omega)]
                          rfl
                    · have hlk' : ¬ le = k := by omega
                      go_wp2_with (first
                        | (go_at_call 94; refine (HNM.out _).mono ?_; rintro e w1 ⟨rfl, hb1⟩; have hB1 := below_step _ hb1; have x0 := step_cell _ _ _ hb1)
                        | (go_at_call 95; refine (HCT.out _ hB1).mono ?_; rintro e w2 ⟨rfl, rfl⟩)
                        | (at_builtin; obtain ⟨i0, hi, hz0, hz1, hz2⟩ := info_parts Tryz.info9; refine wpList_append_own _ rfl _ _ 109 rfl wc.heap.size 9 i0 (.string ByteArray.empty) 1 16 Tryz.underlying109 hi hz0 hz1 hz2 rfl (by decide) _ kk _ rfl ((owns_below OR.out hB1).alloc _) ⟨w2.heap.size, 0, none⟩ 1 1 [.string nm] rfl rfl (cell_one_new _ _ _) one_string (by unfold maxLen; omega) (by omega) (sz_step BW.out hB1) ?_; intro v' w3 hown' hgrow hnil; clear hnil hi hz0 hz1 hz2; have hB3 := app_step BW.out OR.out hB1 hgrow; have x3 := app_cell OR.out hB1 x0 hgrow)
                        | (go_at_call 30; refine (HCK.out _ hB3).mono ?_; rintro e w5 ⟨rfl, hb5⟩; have hB5 := hB3.trans (hb5.mono hB3.size); have y0 := (hb5.cell (p := ⟨wr.heap.size, 0, none⟩) x3.1).trans x3.2.1; have y1 := (hb5.cell (p := ⟨wr.heap.size, 1, none⟩) x3.1).trans x3.2.2; have y2 := (hB5.cell (p := ⟨w.heap.size, 0, none⟩) hbox2).trans HBX.out; have y3 := (hB5.cell (p := ⟨bb, oo + 1, none⟩) hbb).trans HFC.out))
                      go_quiet (fail)
                      go_wp2
                      go_ret
                      refine ⟨?_, hBc.out.trans ((below_drewN hB5 _).mono hBc.out.size)⟩
                      rw [A.out, errFrom_hit (by rw [HL.out]; exact hlt) (by rw [HSE.out]; simp [hn12, hlk']), HSE.out]
                      simp [hn12, hlk']
                      try rfl
                · skip
                  go_wp2_with (first
                    | (go_at_call 94; refine (HNM.out _).mono ?_; rintro e w1 ⟨rfl, hb1⟩; have hB1 := below_step _ hb1; have x0 := step_cell _ _ _ hb1)
                    | (go_at_call 95; refine (HCT.out _ hB1).mono ?_; rintro e w2 ⟨rfl, rfl⟩)
                    | (at_builtin; obtain ⟨i0, hi, hz0, hz1, hz2⟩ := info_parts Tryz.info9; refine wpList_append_own _ rfl _ _ 109 rfl wc.heap.size 9 i0 (.string ByteArray.empty) 1 16 Tryz.underlying109 hi hz0 hz1 hz2 rfl (by decide) _ kk _ rfl ((owns_below OR.out hB1).alloc _) ⟨w2.heap.size, 0, none⟩ 1 1 [.string nm] rfl rfl (cell_one_new _ _ _) one_string (by unfold maxLen; omega) (by omega) (sz_step BW.out hB1) ?_; intro v' w3 hown' hgrow hnil; clear hnil hi hz0 hz1 hz2; have hB3 := app_step BW.out OR.out hB1 hgrow; have x3 := app_cell OR.out hB1 x0 hgrow)
                    | (go_at_call 30; refine (HCK.out _ hB3).mono ?_; rintro e w5 ⟨rfl, hb5⟩; have hB5 := hB3.trans (hb5.mono hB3.size); have y0 := (hb5.cell (p := ⟨wr.heap.size, 0, none⟩) x3.1).trans x3.2.1; have y1 := (hb5.cell (p := ⟨wr.heap.size, 1, none⟩) x3.1).trans x3.2.2; have y2 := (hB5.cell (p := ⟨w.heap.size, 0, none⟩) hbox2).trans HBX.out; have y3 := (hB5.cell (p := ⟨bb, oo + 1, none⟩) hbb).trans HFC.out))
                  go_ret
                  refine ⟨?_, hBc.out.trans ((hB5).mono hBc.out.size)⟩
                  rw [A.out, errFrom_hit (by rw [HL.out]; exact hlt) (by rw [HSE.out]; simp [hre]), HSE.out]
                  simp [hre]
                  try rfl
          · have hltz : ¬ (kk : Int) < (n1 : Int) + (n2 : Int) := by omega
            have : kk = n1 + n2 := by omega
            subst this
            go_wp2
            go_ret
            refine ⟨?_, hBc.out.trans (BW.out.mono hBc.out.size)⟩
            rw [A.out, ← HL.out, errFrom_end]
            rfl
end Go.Proofs.YtjiijgdkdlelhaaGreatDoor

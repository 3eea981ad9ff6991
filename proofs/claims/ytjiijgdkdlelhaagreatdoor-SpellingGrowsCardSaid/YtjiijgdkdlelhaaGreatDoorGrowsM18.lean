/- SpellingChecks: every function of the layer returns the error of the notation first. -/
import Derived.Test.YtjiijgdkdlelhaaGreatDoorGrowsM17
import Derived.Maps.AppendAt
import Derived.Deep.QuietTactic
import Derived.BigQuiet
import Derived.Deep.Draws
import Derived.WalkSmall
/- SpellingChecks: check of the law. -/
namespace Go.Proofs.YtjiijgdkdlelhaaGreatDoor
open Go.Shelf Go.RowKit Go.Lib

theorem aside {p : Prop} (h : p) : Aside p := h
theorem owns_below {w W : World} {base : Nat} {e : TypeId} {size : Nat} {v : Value} {n : Nat} {xs : List Value} (h : w.ownsRow base e size v n xs) (hb : Below w.heap.size w W) : W.ownsRow base e size v n xs := by
  refine ⟨h.1, ?_⟩
  rcases h.2 with hn | ⟨g, cap, cur, rfl, hbg, hgg, rest⟩
  · exact .inl hn
  · refine .inr ⟨g, cap, cur, rfl, hbg, ?_, rest⟩
    rw [hb.block g (Array.getElem?_eq_some_iff.1 hgg).1]
    exact hgg

theorem names_of_owns {w : World} {base : Nat} {v : Value} {N : List ByteArray} (h : w.ownsRow base 9 1 v N.length (N.map Value.string)) : NamesAt w v N := by
  rcases h.2 with ⟨rfl, h0⟩ | ⟨g, cap, cur, rfl, hb, hg, hn, hm, hs, ht⟩
  · exact .inl ⟨0, rfl, List.eq_nil_of_length_eq_zero h0⟩
  · refine .inr ⟨g, 0, cap, rfl, fun j hj => ?_⟩
    have := h.cells (g := g) rfl j (.string N[j]!) (by rw [List.getElem?_map, List.getElem?_eq_getElem hj, getElem!_pos N j hj]; rfl)
    rw [Addr.add_lit] at this
    exact this
theorem first_row {w : World} {p : Option Addr} {n q : Nat} {L : List Sym} (h : SymsAt w (.slice p n q) L) (hp : 0 < L.length) : ∃ bb oo, p = some ⟨bb, oo, none⟩ ∧ bb < w.heap.size ∧ ∃ pf cf, w.cell? ⟨bb, oo + 1, none⟩ = some (.slice pf L[0]!.els.length cf) := by
  rcases h.2 with ⟨base, c, e, rfl, -⟩ | ⟨b, off, c, e, hb, h3⟩
  · simp at hp
  · cases e
    have hm : L[0]! ∈ L := by rw [getElem!_pos L 0 hp]; exact List.getElem_mem hp
    obtain ⟨pf, cf, hr⟩ := (h.1 _ hm).shape
    refine ⟨b, off, rfl, hb, pf, cf, ?_⟩
    have := h3 0 hp 1 _ rfl
    rw [hr] at this
    simpa using this

theorem below_step {w w' : World} (o : Obj) (h : Below (w.alloc o).heap.size (w.alloc o) w') : Below w.heap.size w w' :=
  ((Below.refl _ w).alloc (Nat.le_refl _) o).trans (h.mono (by simp))
theorem step_cell {w w' : World} (a b : Value) (t : TypeId) (h : Below (w.alloc (.cells #[a, b] t)).heap.size (w.alloc (.cells #[a, b] t)) w') : w.heap.size < w'.heap.size ∧ w'.cell? ⟨w.heap.size, 0, none⟩ = some a ∧ w'.cell? ⟨w.heap.size, 1, none⟩ = some b :=
  have c := cell_two w a b t
  ⟨by have := h.size; simp at this; omega, (h.cell (p := ⟨w.heap.size, 0, none⟩) (by simp)).trans c.1, (h.cell (p := ⟨w.heap.size, 1, none⟩) (by simp)).trans c.2⟩
theorem one_string {s : ByteArray} : ∀ u ∈ [Value.string s], u.oneCell' = true := by
  intro u hu; simp at hu; subst hu; rfl
theorem sz_step {wc wr w1 : World} {o : Obj} (h1 : Below wc.heap.size wc wr) (h2 : Below wr.heap.size wr w1) : wc.heap.size ≤ (w1.alloc o).heap.size := by
  have := h1.size; have := h2.size; simp; omega
theorem app_step {wc wr w1 w3 : World} {o : Obj} {v : Value} {n : Nat} {xs : List Value} {e : TypeId} {sz : Nat} (h1 : Below wc.heap.size wc wr) (ho : wr.ownsRow wc.heap.size e sz v n xs) (h2 : Below wr.heap.size wr w1) (hg : (w1.alloc o).grownBy w3 v.ownBlock) : Below wc.heap.size wc w3 :=
  ((h1.trans (h2.mono h1.size)).alloc (by have := h1.size; have := h2.size; omega) o).grown hg (sz_step h1 h2) (fun k hk => (ho.lt k hk).1)
theorem app_cell {wc wr w1 w3 : World} {o : Obj} {v : Value} {n : Nat} {xs : List Value} {e : TypeId} {sz : Nat} {a b : Value} (ho : wr.ownsRow wc.heap.size e sz v n xs) (h2 : Below wr.heap.size wr w1)
    (hx : wr.heap.size < w1.heap.size ∧ w1.cell? ⟨wr.heap.size, 0, none⟩ = some a ∧ w1.cell? ⟨wr.heap.size, 1, none⟩ = some b) (hg : (w1.alloc o).grownBy w3 v.ownBlock) :
    wr.heap.size < w3.heap.size ∧ w3.cell? ⟨wr.heap.size, 0, none⟩ = some a ∧ w3.cell? ⟨wr.heap.size, 1, none⟩ = some b := by
  obtain ⟨hl, h0, h1⟩ := hx
  have hb : Below w1.heap.size w1 (w1.alloc o) := (Below.refl _ w1).alloc (Nat.le_refl _) o
  have hne : some wr.heap.size ≠ v.ownBlock := fun e => by have := (ho.lt _ e.symm).2; omega
  refine ⟨by have := hg.size; simp at this; omega, ?_, ?_⟩
  · exact hg.cell ((hb.cell (p := ⟨wr.heap.size, 0, none⟩) hl).trans h0) hne
  · exact hg.cell ((hb.cell (p := ⟨wr.heap.size, 1, none⟩) hl).trans h1) hne

theorem Tryz.info9 : (Tryz.prog.info? 9).map (fun i => (i.zero, i.size, i.bytes)) = some (some (.string ByteArray.empty), 1, 16) := by kernel_rfl
/-- The world in which Concat is called over the two boxed fields. -/
def boxW (w : World) (v1 v2 : Value) : World := (w.alloc (.cells #[v1, v2] 30)).alloc (.cells #[v1, v2] 28)

theorem concat_boxed {v1 v2 : Value} {L1 L2 : List Sym} {w : World} (h1 : SymsAt w v1 L1) (h2 : SymsAt w v2 L2) (hn : L1.length + L2.length < 1000) (hp : 0 < L1.length) :
    Calls Tryz.prog 92 #[.slice (some ⟨w.heap.size + 1, 0, none⟩) 2 2] ((w.alloc (.cells #[v1, v2] 30)).alloc (.cells #[v1, v2] 28)) fun e w' =>
      ∃ b off c, e = .returned (.slice (some ⟨b, off, none⟩) (L1.length + L2.length) c) ∧ Aside (b < w'.heap.size) ∧ Aside (∀ j, j < (L1 ++ L2).length → w'.cell? ⟨b, off + j * 2, none⟩ = some (.string (L1 ++ L2)[j]!.name) ∧ w'.cell? ⟨b, off + j * 2 + 1, none⟩ = some (L1 ++ L2)[j]!.row) ∧
        Aside (∀ x ∈ L1 ++ L2, RowAt w' x.row x.els) ∧ Aside (Below w.heap.size w w') ∧ Aside (w'.cell? ⟨w.heap.size, 0, none⟩ = some v1 ∧ w.heap.size < w'.heap.size) ∧ Aside (L1.length + L2.length ≤ c) := by
  have hsz : (w.alloc (.cells #[v1, v2] 30)).heap.size = w.heap.size + 1 := by simp
  have hc2 := cell_two (w.alloc (.cells #[v1, v2] 30)) v1 v2 28
  rw [hsz] at hc2
  have hbb : Below w.heap.size w ((w.alloc (.cells #[v1, v2] 30)).alloc (.cells #[v1, v2] 28)) := ((Below.refl _ w).alloc (Nat.le_refl _) _).alloc (by rw [hsz]; omega) _
  refine (concat_calls (by simp) hc2.1 hc2.2 (h1.mono hbb) (h2.mono hbb) hn).mono ?_
  rintro e w' ⟨v, rfl, ho, hb⟩
  have hB := hbb.trans (hb.mono hbb.size)
  have hS := syms_concat h1 h2 hB ho
  have hbox : w'.cell? ⟨w.heap.size, 0, none⟩ = some v1 := by
    rw [hb.cell (p := ⟨w.heap.size, 0, none⟩) (by simp; omega)]
    have h := cell_two w v1 v2 30
    exact (((Below.refl _ (w.alloc (.cells #[v1, v2] 30))).alloc (Nat.le_refl _) (.cells #[v1, v2] 28)).cell (p := ⟨w.heap.size, 0, none⟩) (by simp)).trans h.1
  have hlt : w.heap.size < w'.heap.size := by have := hb.size; simp at this; omega
  rcases hS.2 with ⟨base, c, rfl, h0, -⟩ | ⟨b, off, c, rfl, h2, h3⟩
  · have := congrArg List.length h0
    rw [List.length_append, List.length_nil] at this
    omega
  · rw [List.length_append]
    exact ⟨b, off, c, rfl, h2, fun j hj => ⟨h3 j (by rw [List.length_append]; exact hj) 0 _ rfl, h3 j (by rw [List.length_append]; exact hj) 1 _ rfl⟩, hS.1, hB, ⟨hbox, hlt⟩, by
      rcases ho.2 with ⟨e, _⟩ | ⟨g, cap, cur, e, _, _, hn, _⟩
      · cases e
      · simp only [Value.slice.injEq] at e
        rw [e.2.2]; exact hn⟩

set_option maxRecDepth 20000 in
set_option maxHeartbeats 4000000 in
theorem check_calls {v1 v2 : Value} {L1 L2 : List Sym} {w : World} (h1 : SymsAt w v1 L1) (h2 : SymsAt w v2 L2) (b1 : L1.length ≤ 9223372036854775807) (b2 : L2.length ≤ 9223372036854775807) (b3 : ∀ x ∈ L1 ++ L2, x.els.length ≤ 9223372036854775807) :
    Calls Tryz.prog 44 #[.agg #[v1, v2]] w fun e w' => e = .returned (.int .i64 (noteErr L1 L2)) ∧ Below w.heap.size w w' := by
  obtain ⟨p1, q1, e1⟩ := h1.shape
  obtain ⟨p2, q2, e2⟩ := h2.shape
  have H1 : Aside (SymsAt w v1 L1) := h1
  have H2 : Aside (SymsAt w v2 L2) := h2
  clear h1 h2
  subst e1 e2
  generalize hn1 : L1.length = n1 at *
  generalize hn2 : L2.length = n2 at *
  have N1 : Aside (L1.length = n1) := hn1
  have N2 : Aside (L2.length = n2) := hn2
  clear hn1 hn2
  have B3 := aside b3
  clear b3
  have hr : noteErr L1 L2 = if n1 = 0 then 13 else if 60 < n1 ∨ 6 < n2 then 4 else errFrom L1[0]!.els.length [] (L1 ++ L2) := by unfold noteErr; rw [N1.out, N2.out]
  rw [hr]
  clear hr
  have hbb : Below w.heap.size w (w.alloc (.cells #[.slice p1 n1 q1, .slice p2 n2 q2] 30)) := (Below.refl _ w).alloc (Nat.le_refl _) _
  have HBB := aside hbb
  clear hbb
  by_cases hA : (n1 : Int) = 0
  · rw [if_pos (by omega)]
    go_enter Tryz.func44, Tryz.ntmps44
    go_wp2
    go_ret
    exact ⟨rfl, HBB.out⟩
  · rw [if_neg (by omega)]
    by_cases hB : (60 : Int) < (n1 : Int)
    · rw [if_pos (by omega)]
      go_enter Tryz.func44, Tryz.ntmps44
      go_wp2
      go_ret
      exact ⟨rfl, HBB.out⟩
    · by_cases hC : (6 : Int) < (n2 : Int)
      · rw [if_pos (by omega)]
        go_enter Tryz.func44, Tryz.ntmps44
        go_wp2
        go_ret
        exact ⟨rfl, HBB.out⟩
      · rw [if_neg (by omega)]
        have hcc := concat_boxed H1.out H2.out (by rw [N1.out, N2.out]; omega) (by rw [N1.out]; omega)
        rw [N1.out, N2.out] at hcc
        have hlen : (L1 ++ L2).length = n1 + n2 := by rw [List.length_append, N1.out, N2.out]
        obtain ⟨bb, oo, rfl, hbl, hfirst⟩ := first_row H1.out (by rw [N1.out]; omega)
        generalize hk : L1[0]!.els.length = k at *
        generalize L1 ++ L2 = L at hcc hlen B3 ⊢
        have HL := aside hlen
        have HCC := aside hcc
        have HF := aside hfirst
        have HBL := aside hbl
        clear hcc hlen hk hfirst hbl
        go_enter Tryz.func44, Tryz.ntmps44
        go_wp2_with (go_at_call 92; refine HCC.out.mono ?_; rintro e wc ⟨b, off, c, rfl, hb, hcells, hrows, hBc, hbox, hcap⟩)
        have hnpos : 0 < n1 := by omega
        have hnle : n1 + n2 < 1000 := by omega
        have hbox1 := hbox.out.1
        have hbox2 := hbox.out.2
        obtain ⟨pf, cf, hf⟩ := HF.out
        have hf' := (hBc.out.cell (p := ⟨bb, oo + 1, none⟩) HBL.out).trans hf
        have hbb : bb < wc.heap.size := Nat.lt_of_lt_of_le HBL.out hBc.out.size
        clear hA hB hC hf
        have HFC := aside hf'
        have HBX := aside hbox1
        clear hf' hbox1
        go_loopg [3, 5, 6, 28] (n1 + n2) (fun gg s3 _ _ s28 wr => ∃ kk : Nat, kk ≤ n1 + n2 ∧ n1 + n2 - kk ≤ gg ∧ s28 = .int .i64 kk ∧ Aside (wr.ownsRow wc.heap.size 9 1 s3 kk ((namesOf L kk).map Value.string)) ∧ Aside (Below wc.heap.size wc wr) ∧
          Aside (errFrom k [] L = errFrom k (namesOf L kk) (L.drop kk)))
        case atStart => exact ⟨0, Nat.zero_le _, by omega, rfl, World.ownsRow_nil _ _ _ _, Below.refl _ _, rfl⟩
        case round =>
          obtain ⟨kk, hkk, hg, rfl, OR, BW, A⟩ := hrel
          by_cases hlt : kk < n1 + n2
          · have hltz : (kk : Int) < (n1 : Int) + (n2 : Int) := by omega
            have hkL : kk < L.length := by rw [HL.out]; exact hlt
            have hm : L[kk]! ∈ L := by rw [getElem!_pos L kk hkL]; exact List.getElem_mem hkL
            obtain ⟨l2, l3⟩ := hcells.out kk hkL
            have hRow := (hrows.out _ hm).mono (BW.out.mono (Nat.le_refl _))
            obtain ⟨pr, cr, her⟩ := hRow.shape
            have l2' := (BW.out.cell (p := ⟨b, off + kk * 2, none⟩) hb.out).trans l2
            have l3' := (BW.out.cell (p := ⟨b, off + kk * 2 + 1, none⟩) hb.out).trans l3
            rw [her] at l3'
            have hbx := (BW.out.cell (p := ⟨w.heap.size, 0, none⟩) hbox2).trans HBX.out
            have hfr := (BW.out.cell (p := ⟨bb, oo + 1, none⟩) hbb).trans HFC.out
            clear l2 l3
            have hck : ∀ W, Below wc.heap.size wc W → Calls Tryz.prog 30 #[.slice pr L[kk]!.els.length cr] W fun e w' => e = .returned (.int .i64 (rowErr L[kk]!.els)) ∧ Below W.heap.size W w' := fun W hW => by
              have := rowCheck_calls ((hrows.out _ hm).mono hW) (B3.out _ hm)
              rw [her] at this
              exact this
            have hnm : ∀ W, Calls Tryz.prog 94 #[.string L[kk]!.name] W fun e w' => e = .returned (.bool (isNameB L[kk]!.name)) ∧ Below W.heap.size W w' := isName_calls _
            have hct : ∀ W, Below wr.heap.size wr W → Calls Tryz.prog 95 #[u3, .string L[kk]!.name] W fun e w' => e = .returned (.bool ((namesOf L kk).any fun y => decide (L[kk]!.name.toList = y.toList))) ∧ w' = W := fun W hW =>
              contains_name _ (names_of_owns (by rw [namesOf_length (by omega)]; exact owns_below OR.out hW)) (by rw [namesOf_length (by omega)]; omega)
            have hse : symErr k (namesOf L kk) L[kk]! = if isNameB L[kk]!.name = false then 8 else if ((namesOf L kk).any fun y => decide (L[kk]!.name.toList = y.toList)) = true then 9 else if rowErr L[kk]!.els ≠ 0 then rowErr L[kk]!.els else if 12 < L[kk]!.els.length then 4 else if L[kk]!.els.length ≠ k then 5 else 0 := rfl
            have hns := namesOf_succ hkL
            have hle := B3.out _ hm
            clear her hm hRow
            generalize ((namesOf L kk).any fun y => decide (L[kk]!.name.toList = y.toList)) = dup at hct hse
            generalize isNameB L[kk]!.name = isB at hnm hse
            generalize rowErr L[kk]!.els = re at hck hse
            generalize L[kk]!.els.length = le at hck hse l3' hle
            generalize L[kk]!.name = nm at l2' hnm hct hns
            have HSE := aside hse
            have HNS := aside hns
            have HCK := aside hck
            have HNM := aside hnm
            have HCT := aside hct
            clear hse hns hck hnm hct hkL
            have hw5 : w.heap.size < wr.heap.size := by have := BW.out.size; omega
            have hbW : bb < wr.heap.size := by have := BW.out.size; omega
            cases isB with
            | false =>
              go_wp2_with (first
                | (go_at_call 94; refine (HNM.out _).mono ?_; rintro e w1 ⟨rfl, hb1⟩; have hB1 := below_step _ hb1; have x0 := step_cell _ _ _ hb1)
                | (go_at_call 95; refine (HCT.out _ hB1).mono ?_; rintro e w2 ⟨rfl, rfl⟩)
                | (at_builtin; obtain ⟨i0, hi, hz0, hz1, hz2⟩ := info_parts Tryz.info9; refine wpList_append_own _ rfl _ _ 109 rfl wc.heap.size 9 i0 (.string ByteArray.empty) 1 16 Tryz.underlying109 hi hz0 hz1 hz2 rfl (by decide) _ kk _ rfl ((owns_below OR.out hB1).alloc _) ⟨w2.heap.size, 0, none⟩ 1 1 [.string nm] rfl rfl (cell_one_new _ _ _) one_string (by unfold maxLen; omega) (by omega) (sz_step BW.out hB1) ?_; intro v' w3 hown' hgrow hnil; clear hnil hi hz0 hz1 hz2; have hB3 := app_step BW.out OR.out hB1 hgrow; have x3 := app_cell OR.out hB1 x0 hgrow)
                | (go_at_call 30; refine (HCK.out _ hB3).mono ?_; rintro e w5 ⟨rfl, hb5⟩; have hB5 := hB3.trans (hb5.mono hB3.size); have y0 := (hb5.cell (p := ⟨wr.heap.size, 0, none⟩) x3.1).trans x3.2.1; have y1 := (hb5.cell (p := ⟨wr.heap.size, 1, none⟩) x3.1).trans x3.2.2; have y2 := (hB5.cell (p := ⟨w.heap.size, 0, none⟩) hbox2).trans HBX.out; have y3 := (hB5.cell (p := ⟨bb, oo + 1, none⟩) hbb).trans HFC.out))
              go_ret
              refine ⟨?_, hBc.out.trans ((BW.out.trans (hB1.mono BW.out.size)).mono hBc.out.size)⟩
              rw [A.out, errFrom_hit (by rw [HL.out]; exact hlt) (by rw [HSE.out]; simp), HSE.out]
              rfl
            | true =>
              cases dup with
              | true =>
                go_wp2_with (first
                  | (go_at_call 94; refine (HNM.out _).mono ?_; rintro e w1 ⟨rfl, hb1⟩; have hB1 := below_step _ hb1; have x0 := step_cell _ _ _ hb1)
                  | (go_at_call 95; refine (HCT.out _ hB1).mono ?_; rintro e w2 ⟨rfl, rfl⟩)
                  | (at_builtin; obtain ⟨i0, hi, hz0, hz1, hz2⟩ := info_parts Tryz.info9; refine wpList_append_own _ rfl _ _ 109 rfl wc.heap.size 9 i0 (.string ByteArray.empty) 1 16 Tryz.underlying109 hi hz0 hz1 hz2 rfl (by decide) _ kk _ rfl ((owns_below OR.out hB1).alloc _) ⟨w2.heap.size, 0, none⟩ 1 1 [.string nm] rfl rfl (cell_one_new _ _ _) one_string (by unfold maxLen; omega) (by omega) (sz_step BW.out hB1) ?_; intro v' w3 hown' hgrow hnil; clear hnil hi hz0 hz1 hz2; have hB3 := app_step BW.out OR.out hB1 hgrow; have x3 := app_cell OR.out hB1 x0 hgrow)
                  | (go_at_call 30; refine (HCK.out _ hB3).mono ?_; rintro e w5 ⟨rfl, hb5⟩; have hB5 := hB3.trans (hb5.mono hB3.size); have y0 := (hb5.cell (p := ⟨wr.heap.size, 0, none⟩) x3.1).trans x3.2.1; have y1 := (hb5.cell (p := ⟨wr.heap.size, 1, none⟩) x3.1).trans x3.2.2; have y2 := (hB5.cell (p := ⟨w.heap.size, 0, none⟩) hbox2).trans HBX.out; have y3 := (hB5.cell (p := ⟨bb, oo + 1, none⟩) hbb).trans HFC.out))
                go_ret
                refine ⟨?_, hBc.out.trans ((BW.out.trans (hB1.mono BW.out.size)).mono hBc.out.size)⟩
                rw [A.out, errFrom_hit (by rw [HL.out]; exact hlt) (by rw [HSE.out]; simp), HSE.out]
                rfl
              | false =>
                by_cases hre : re = 0
                · subst hre
                  by_cases hle12 : (12 : Int) < (le : Int)
                  · have hn12 : 12 < le := by omega
                    go_wp2_with (first
                      | (go_at_call 94; refine (HNM.out _).mono ?_; rintro e w1 ⟨rfl, hb1⟩; have hB1 := below_step _ hb1; have x0 := step_cell _ _ _ hb1)
                      | (go_at_call 95; refine (HCT.out _ hB1).mono ?_; rintro e w2 ⟨rfl, rfl⟩)
                      | (at_builtin; obtain ⟨i0, hi, hz0, hz1, hz2⟩ := info_parts Tryz.info9; refine wpList_append_own _ rfl _ _ 109 rfl wc.heap.size 9 i0 (.string ByteArray.empty) 1 16 Tryz.underlying109 hi hz0 hz1 hz2 rfl (by decide) _ kk _ rfl ((owns_below OR.out hB1).alloc _) ⟨w2.heap.size, 0, none⟩ 1 1 [.string nm] rfl rfl (cell_one_new _ _ _) one_string (by unfold maxLen; omega) (by omega) (sz_step BW.out hB1) ?_; intro v' w3 hown' hgrow hnil; clear hnil hi hz0 hz1 hz2; have hB3 := app_step BW.out OR.out hB1 hgrow; have x3 := app_cell OR.out hB1 x0 hgrow)
                      | (go_at_call 30; refine (HCK.out _ hB3).mono ?_; rintro e w5 ⟨rfl, hb5⟩; have hB5 := hB3.trans (hb5.mono hB3.size); have y0 := (hb5.cell (p := ⟨wr.heap.size, 0, none⟩) x3.1).trans x3.2.1; have y1 := (hb5.cell (p := ⟨wr.heap.size, 1, none⟩) x3.1).trans x3.2.2; have y2 := (hB5.cell (p := ⟨w.heap.size, 0, none⟩) hbox2).trans HBX.out; have y3 := (hB5.cell (p := ⟨bb, oo + 1, none⟩) hbb).trans HFC.out))
                    go_ret
                    refine ⟨?_, hBc.out.trans ((hB5).mono hBc.out.size)⟩
                    rw [A.out, errFrom_hit (by rw [HL.out]; exact hlt) (by rw [HSE.out]; simp [hn12]), HSE.out]
                    simp [hn12]
                    try rfl
                  · have hn12 : ¬ 12 < le := by omega
                    have hn1z : (0 : Int) < (n1 : Int) := by omega
                    by_cases hlk : (le : Int) = (k : Int)
                    · have hlk' : le = k := by omega
                      have HLK := aside hlk'
                      clear hlk'
                      go_wp2_with (first
                        | (go_at_call 94; refine (HNM.out _).mono ?_; rintro e w1 ⟨rfl, hb1⟩; have hB1 := below_step _ hb1; have x0 := step_cell _ _ _ hb1)
                        | (go_at_call 95; refine (HCT.out _ hB1).mono ?_; rintro e w2 ⟨rfl, rfl⟩)
                        | (at_builtin; obtain ⟨i0, hi, hz0, hz1, hz2⟩ := info_parts Tryz.info9; refine wpList_append_own _ rfl _ _ 109 rfl wc.heap.size 9 i0 (.string ByteArray.empty) 1 16 Tryz.underlying109 hi hz0 hz1 hz2 rfl (by decide) _ kk _ rfl ((owns_below OR.out hB1).alloc _) ⟨w2.heap.size, 0, none⟩ 1 1 [.string nm] rfl rfl (cell_one_new _ _ _) one_string (by unfold maxLen; omega) (by omega) (sz_step BW.out hB1) ?_; intro v' w3 hown' hgrow hnil; clear hnil hi hz0 hz1 hz2; have hB3 := app_step BW.out OR.out hB1 hgrow; have x3 := app_cell OR.out hB1 x0 hgrow)
                        | (go_at_call 30; refine (HCK.out _ hB3).mono ?_; rintro e w5 ⟨rfl, hb5⟩; have hB5 := hB3.trans (hb5.mono hB3.size); have y0 := (hb5.cell (p := ⟨wr.heap.size, 0, none⟩) x3.1).trans x3.2.1; have y1 := (hb5.cell (p := ⟨wr.heap.size, 1, none⟩) x3.1).trans x3.2.2; have y2 := (hB5.cell (p := ⟨w.heap.size, 0, none⟩) hbox2).trans HBX.out; have y3 := (hB5.cell (p := ⟨bb, oo + 1, none⟩) hbb).trans HFC.out))
                      go_quiet (fail)
                      go_wp2
                      go_roundg (n1 + n2 - (kk + 1))
                      case measure => omega
                      case rel =>
                        refine ⟨kk + 1, by omega, by omega, by go_num, (show Aside _ from ?_), (show Aside _ from below_drewN hB5 _), (show Aside _ from ?_)⟩
                        · have ho := owns_below hown' hb5
                          rw [HNS.out, List.map_append]
                          exact ho
                        · rw [A.out, errFrom_miss (by rw [HL.out]; exact hlt) (by rw [HSE.out]; simp [HLK.out] <;> omega)]
                          rfl
                    · have hlk' : ¬ le = k := by omega
                      go_wp2_with (first
                        | (go_at_call 94; refine (HNM.out _).mono ?_; rintro e w1 ⟨rfl, hb1⟩; have hB1 := below_step _ hb1; have x0 := step_cell _ _ _ hb1)
                        | (go_at_call 95; refine (HCT.out _ hB1).mono ?_; rintro e w2 ⟨rfl, rfl⟩)
                        | (at_builtin; obtain ⟨i0, hi, hz0, hz1, hz2⟩ := info_parts Tryz.info9; refine wpList_append_own _ rfl _ _ 109 rfl wc.heap.size 9 i0 (.string ByteArray.empty) 1 16 Tryz.underlying109 hi hz0 hz1 hz2 rfl (by decide) _ kk _ rfl ((owns_below OR.out hB1).alloc _) ⟨w2.heap.size, 0, none⟩ 1 1 [.string nm] rfl rfl (cell_one_new _ _ _) one_string (by unfold maxLen; omega) (by omega) (sz_step BW.out hB1) ?_; intro v' w3 hown' hgrow hnil; clear hnil hi hz0 hz1 hz2; have hB3 := app_step BW.out OR.out hB1 hgrow; have x3 := app_cell OR.out hB1 x0 hgrow)
                        | (go_at_call 30; refine (HCK.out _ hB3).mono ?_; rintro e w5 ⟨rfl, hb5⟩; have hB5 := hB3.trans (hb5.mono hB3.size); have y0 := (hb5.cell (p := ⟨wr.heap.size, 0, none⟩) x3.1).trans x3.2.1; have y1 := (hb5.cell (p := ⟨wr.heap.size, 1, none⟩) x3.1).trans x3.2.2; have y2 := (hB5.cell (p := ⟨w.heap.size, 0, none⟩) hbox2).trans HBX.out; have y3 := (hB5.cell (p := ⟨bb, oo + 1, none⟩) hbb).trans HFC.out))
                      go_quiet (fail)
                      go_wp2
                      go_ret
                      refine ⟨?_, hBc.out.trans ((below_drewN hB5 _).mono hBc.out.size)⟩
                      rw [A.out, errFrom_hit (by rw [HL.out]; exact hlt) (by rw [HSE.out]; simp [hn12, hlk']), HSE.out]
                      simp [hn12, hlk']
                      try rfl
                · skip
                  go_wp2_with (first
                    | (go_at_call 94; refine (HNM.out _).mono ?_; rintro e w1 ⟨rfl, hb1⟩; have hB1 := below_step _ hb1; have x0 := step_cell _ _ _ hb1)
                    | (go_at_call 95; refine (HCT.out _ hB1).mono ?_; rintro e w2 ⟨rfl, rfl⟩)
                    | (at_builtin; obtain ⟨i0, hi, hz0, hz1, hz2⟩ := info_parts Tryz.info9; refine wpList_append_own _ rfl _ _ 109 rfl wc.heap.size 9 i0 (.string ByteArray.empty) 1 16 Tryz.underlying109 hi hz0 hz1 hz2 rfl (by decide) _ kk _ rfl ((owns_below OR.out hB1).alloc _) ⟨w2.heap.size, 0, none⟩ 1 1 [.string nm] rfl rfl (cell_one_new _ _ _) one_string (by unfold maxLen; omega) (by omega) (sz_step BW.out hB1) ?_; intro v' w3 hown' hgrow hnil; clear hnil hi hz0 hz1 hz2; have hB3 := app_step BW.out OR.out hB1 hgrow; have x3 := app_cell OR.out hB1 x0 hgrow)
                    | (go_at_call 30; refine (HCK.out _ hB3).mono ?_; rintro e w5 ⟨rfl, hb5⟩; have hB5 := hB3.trans (hb5.mono hB3.size); have y0 := (hb5.cell (p := ⟨wr.heap.size, 0, none⟩) x3.1).trans x3.2.1; have y1 := (hb5.cell (p := ⟨wr.heap.size, 1, none⟩) x3.1).trans x3.2.2; have y2 := (hB5.cell (p := ⟨w.heap.size, 0, none⟩) hbox2).trans HBX.out; have y3 := (hB5.cell (p := ⟨bb, oo + 1, none⟩) hbb).trans HFC.out))
                  go_ret
                  refine ⟨?_, hBc.out.trans ((hB5).mono hBc.out.size)⟩
                  rw [A.out, errFrom_hit (by rw [HL.out]; exact hlt) (by rw [HSE.out]; simp [hre]), HSE.out]
                  simp [hre]
                  try rfl
          · have hltz : ¬ (kk : Int) < (n1 : Int) + (n2 : Int) := by omega
            have : kk = n1 + n2 := by omega
            subst this
            go_wp2
            go_ret
            refine ⟨?_, hBc.out.trans (BW.out.mono hBc.out.size)⟩
            rw [A.out, ← HL.out, errFrom_end]
            rfl
end Go.Proofs.YtjiijgdkdlelhaaGreatDoor

/- SpellingChecks: ContainsFunc with the closure of spelling.Check. -/
namespace Go.Proofs.YtjiijgdkdlelhaaGreatDoor
open Go.Shelf Go.RowKit Go.Lib

def sameB (nm : ByteArray) (x : Sym) : Bool := x.name.toList == nm.toList
theorem same_calls (nm s : ByteArray) (bp : Nat) (base : Option Addr) (n c : Nat) (w : World) (hp : w.cell? ⟨bp, 0, none⟩ = some (.string nm)) : Calls Tryz.prog 96 #[.agg #[.string s, .slice base n c], .pointer (some ⟨bp, 0, none⟩)] w fun e w' => e = .returned (.bool (s.toList == nm.toList)) ∧ Below w.heap.size w w' := by
  have hp' : (w.alloc (.cells #[.string s, .slice base n c] 35)).cell? ⟨bp, 0, none⟩ = some (.string nm) := cell?_alloc_some _ hp
  go_enter Tryz.func96, Tryz.ntmps96
  go_wp2
  go_ret
  exact ⟨rfl, (Below.refl _ w).alloc (Nat.le_refl _) _⟩
theorem sameClosure (nm : ByteArray) (bp : Nat) (x : Sym) (w : World) (h : RowAt w x.row x.els) (hp : w.cell? ⟨bp, 0, none⟩ = some (.string nm)) : Calls Tryz.prog 96 #[.agg x.enc.toArray, .pointer (some ⟨bp, 0, none⟩)] w fun e w' => e = .returned (.bool (sameB nm x)) ∧ Below w.heap.size w w' := by
  obtain ⟨base, c, hv⟩ := h.shape
  have := same_calls nm x.name bp base x.els.length c w hp
  rw [← hv] at this
  exact this
set_option maxHeartbeats 2000000 in
theorem idx_same (nm : ByteArray) (bp b off n c : Nat) (zs : List Sym) (w : World) (hr : ∀ x ∈ zs, RowAt w x.row x.els) (hz : n ≤ zs.length) (hbig : n ≤ 9223372036854775807) (hb : b < w.heap.size) (hbp : bp < w.heap.size) (hp : w.cell? ⟨bp, 0, none⟩ = some (.string nm)) (hc : ∀ j, j < zs.length → ∀ i u, (zs[j]!.enc)[i]? = some u → w.cell? ⟨b, off + j * 2 + i, none⟩ = some u) :
    Calls Tryz.prog 145 #[.slice (some ⟨b, off, none⟩) n c, .func (.func 96) #[] #[.pointer (some ⟨bp, 0, none⟩)]] w fun e w' => e = .returned (.int .i64 (Lib.idxBy (fun _ y => sameB nm y) (zs.take n) default)) ∧ Below w.heap.size w w' := by
  have hrow : ∀ (W : World), Below w.heap.size w W → ∀ j, j < zs.length → W.cell? ⟨b, off + j * 2, none⟩ = some (.string zs[j]!.name) ∧ W.cell? ⟨b, off + j * 2 + 1, none⟩ = some zs[j]!.row := fun W hW j hj =>
    ⟨(hW.cell (p := ⟨b, off + j * 2, none⟩) hb).trans (hc j hj 0 _ rfl), (hW.cell (p := ⟨b, off + j * 2 + 1, none⟩) hb).trans (hc j hj 1 _ rfl)⟩
  have hrw : ∀ (W : World), Below w.heap.size w W → ∀ j, j < zs.length → RowAt W zs[j]!.row zs[j]!.els := fun W hW j hj => by
    have hm : zs[j]! ∈ zs := by rw [getElem!_pos zs j hj]; exact List.getElem_mem hj
    exact (hr _ hm).mono hW
  clear hc hr
  have HP := aside hp
  clear hp
  go_enter Tryz.func145, Tryz.ntmps145
  go_wp2
  go_loopg [5, 8] n (fun gg _ s8 wr => ∃ kk : Nat, kk ≤ n ∧ n - kk ≤ gg ∧ s8 = .int .i64 kk ∧ Aside (Below w.heap.size w wr) ∧ Aside (∀ j, j < kk → sameB nm zs[j]! = false))
  case atStart => exact ⟨0, Nat.zero_le _, by omega, rfl, Below.refl _ w, fun j hj => absurd hj (Nat.not_lt_zero _)⟩
  case round =>
    obtain ⟨kk, hkk, hg, rfl, BW, A⟩ := hrel
    by_cases hlt : kk < n
    · have hltz : (kk : Int) < (n : Int) := by omega
      obtain ⟨l2, l3⟩ := hrow wr BW.out kk (by omega)
      have hcall : Calls Tryz.prog 96 #[.agg #[.string zs[kk]!.name, zs[kk]!.row], .pointer (some ⟨bp, 0, none⟩)] wr fun e w' => e = .returned (.bool (sameB nm zs[kk]!)) ∧ Below wr.heap.size wr w' := sameClosure nm bp zs[kk]! wr (hrw wr BW.out kk (by omega)) ((BW.out.cell (p := ⟨bp, 0, none⟩) hbp).trans HP.out)
      clear hrow hrw
      generalize hy : zs[kk]! = y at l2 l3 hcall
      have B : Aside (zs[kk]! = y) := hy
      clear hy
      cases hq : sameB nm y with
      | true =>
        rw [hq] at hcall
        go_wp2_with (go_at_call 96; refine hcall.mono ?_; rintro e w' ⟨rfl, hb'⟩)
        go_ret
        refine ⟨?_, BW.out.trans (hb'.mono BW.out.size)⟩
        rw [Lib.idxBy_hit (fun _ y => sameB nm y) zs n kk default hlt hz (by show sameB nm zs[kk]! = true; rw [B.out]; exact hq) A.out]
        rfl
      | false =>
        rw [hq] at hcall
        go_wp2_with (go_at_call 96; refine hcall.mono ?_; rintro e w' ⟨rfl, hb'⟩)
        go_roundg (n - (kk + 1))
        case measure => omega
        case rel =>
          refine ⟨kk + 1, by omega, by omega, by go_num, (show Aside _ from BW.out.trans (hb'.mono BW.out.size)), (show Aside _ from fun j hj => ?_)⟩
          by_cases e : j = kk
          · subst e
            rw [B.out]; exact hq
          · exact A.out j (by omega)
    · have hltz : ¬ (kk : Int) < (n : Int) := by omega
      have : kk = n := by omega
      subst this
      go_wp2
      go_ret
      refine ⟨?_, BW.out⟩
      rw [Lib.idxBy_miss (fun _ y => sameB nm y) zs kk default A.out]
      rfl


theorem contains_same (nm : ByteArray) (bp b off n c : Nat) (zs : List Sym) (w : World) (hr : ∀ x ∈ zs, RowAt w x.row x.els) (hz : n ≤ zs.length) (hbig : n ≤ 9223372036854775807) (hb : b < w.heap.size) (hbp : bp < w.heap.size) (hp : w.cell? ⟨bp, 0, none⟩ = some (.string nm)) (hc : ∀ j, j < zs.length → ∀ i u, (zs[j]!.enc)[i]? = some u → w.cell? ⟨b, off + j * 2 + i, none⟩ = some u) :
    Calls Tryz.prog 91 #[.slice (some ⟨b, off, none⟩) n c, .func (.func 96) #[] #[.pointer (some ⟨bp, 0, none⟩)]] w fun e w' => e = .returned (.bool ((zs.take n).any (sameB nm))) ∧ Below w.heap.size w w' := by
  have hi := idx_same nm bp b off n c zs w hr hz hbig hb hbp hp hc
  have e1 : ((zs.take n).any (sameB nm)) = decide (0 ≤ Lib.idxBy (fun _ y => sameB nm y) (zs.take n) default) := (Lib.idxBy_nonneg_iff (fun _ y => sameB nm y) (zs.take n) default).symm
  rw [e1]
  generalize Lib.idxBy (fun _ y => sameB nm y) (zs.take n) default = q at hi ⊢
  clear hr hc e1 hp
  go_enter Tryz.func91, Tryz.ntmps91
  go_wp2_with (go_at_call 145; refine hi.mono ?_; rintro e w' ⟨rfl, hb'⟩)
  go_ret
  exact ⟨rfl, hb'⟩
theorem any_same (nm : ByteArray) (L : List Sym) (kk : Nat) : (L.take kk).any (sameB nm) = (namesOf L kk).any fun y => decide (nm.toList = y.toList) := by
  unfold namesOf
  rw [List.any_map]
  congr 1
  funext x
  rw [Bool.eq_iff_iff]
  show (x.name.toList == nm.toList) = true ↔ decide (nm.toList = x.name.toList) = true
  rw [beq_iff_eq, decide_eq_true_iff]
  exact eq_comm
end Go.Proofs.YtjiijgdkdlelhaaGreatDoor

/- SpellingChecks: spelling.Check. -/
namespace Go.Proofs.YtjiijgdkdlelhaaGreatDoor
open Go.Shelf Go.RowKit Go.Lib

theorem cell_step {b : Nat} {u v : Value} {w w' : World} (hx : b < w.heap.size ∧ w.cell? ⟨b, 0, none⟩ = some u ∧ w.cell? ⟨b, 1, none⟩ = some v) (h : Below w.heap.size w w') : b < w'.heap.size ∧ w'.cell? ⟨b, 0, none⟩ = some u ∧ w'.cell? ⟨b, 1, none⟩ = some v :=
  ⟨Nat.lt_of_lt_of_le hx.1 h.size, (h.cell (p := ⟨b, 0, none⟩) hx.1).trans hx.2.1, (h.cell (p := ⟨b, 1, none⟩) hx.1).trans hx.2.2⟩
theorem pair_cells {w : World} {b o : Nat} {x : Sym} (h : w.cell? ⟨b, o, none⟩ = some (.string x.name) ∧ w.cell? ⟨b, o + 1, none⟩ = some x.row) (i : Nat) (u : Value) (hu : x.enc[i]? = some u) : w.cell? ⟨b, o + i, none⟩ = some u := by
  match i, hu with
  | 0, hu => cases hu; exact h.1
  | 1, hu => cases hu; exact h.2
set_option maxRecDepth 20000 in
set_option maxHeartbeats 4000000 in
theorem spCheck_calls {v1 v2 : Value} {L1 L2 : List Sym} {w : World} (h1 : SymsAt w v1 L1) (h2 : SymsAt w v2 L2) (b1 : L1.length ≤ 9223372036854775807) (b2 : L2.length ≤ 9223372036854775807) (b3 : ∀ x ∈ L1 ++ L2, x.els.length ≤ 9223372036854775807) :
    Calls Tryz.prog 45 #[.agg #[v1, v2]] w fun e w' => e = .returned (.int .i64 (noteErr L1 L2)) ∧ Below w.heap.size w w' := by
  obtain ⟨p1, q1, e1⟩ := h1.shape
  obtain ⟨p2, q2, e2⟩ := h2.shape
  have H1 : Aside (SymsAt w v1 L1) := h1
  have H2 : Aside (SymsAt w v2 L2) := h2
  clear h1 h2
  subst e1 e2
  generalize hn1 : L1.length = n1 at *
  generalize hn2 : L2.length = n2 at *
  have N1 : Aside (L1.length = n1) := hn1
  have N2 : Aside (L2.length = n2) := hn2
  clear hn1 hn2
  have B3 := aside b3
  clear b3
  have hr : noteErr L1 L2 = if n1 = 0 then 13 else if 60 < n1 ∨ 6 < n2 then 4 else errFrom L1[0]!.els.length [] (L1 ++ L2) := by unfold noteErr; rw [N1.out, N2.out]
  rw [hr]
  clear hr
  have hbb : Below w.heap.size w (w.alloc (.cells #[.slice p1 n1 q1, .slice p2 n2 q2] 30)) := (Below.refl _ w).alloc (Nat.le_refl _) _
  have HBB := aside hbb
  clear hbb
  by_cases hA : (n1 : Int) = 0
  · rw [if_pos (by omega)]
    go_enter Tryz.func45, Tryz.ntmps45
    go_wp2
    go_ret
    exact ⟨rfl, HBB.out⟩
  · rw [if_neg (by omega)]
    by_cases hB : (60 : Int) < (n1 : Int)
    · rw [if_pos (by omega)]
      go_enter Tryz.func45, Tryz.ntmps45
      go_wp2
      go_ret
      exact ⟨rfl, HBB.out⟩
    · by_cases hC : (6 : Int) < (n2 : Int)
      · rw [if_pos (by omega)]
        go_enter Tryz.func45, Tryz.ntmps45
        go_wp2
        go_ret
        exact ⟨rfl, HBB.out⟩
      · rw [if_neg (by omega)]
        have hcc := concat_boxed H1.out H2.out (by rw [N1.out, N2.out]; omega) (by rw [N1.out]; omega)
        rw [N1.out, N2.out] at hcc
        have hlen : (L1 ++ L2).length = n1 + n2 := by rw [List.length_append, N1.out, N2.out]
        have h0 : (L1 ++ L2)[0]! = L1[0]! := by
          cases L1 with
          | nil => have := N1.out; simp at this; omega
          | cons x L => rfl
        rw [← h0]
        clear h0
        generalize L1 ++ L2 = L at hcc hlen B3 ⊢
        have HL := aside hlen
        have HCC := aside hcc
        generalize hk : L[0]!.els.length = k
        have hk0 := aside hk
        clear hcc hlen hk
        go_enter Tryz.func45, Tryz.ntmps45
        go_wp2_with (go_at_call 92; refine HCC.out.mono ?_; rintro e wc ⟨b, off, c, rfl, hb, hcells, hrows, hBc, hbox, hcap⟩)
        have hnpos : 0 < n1 := by omega
        have hnle : n1 + n2 < 1000 := by omega
        clear hA hB hC
        go_loopg [4, 5, 6, 29] (n1 + n2) (fun gg _ _ _ s29 wr => ∃ kk : Nat, kk ≤ n1 + n2 ∧ n1 + n2 - kk ≤ gg ∧ s29 = .int .i64 kk ∧ Aside (Below wc.heap.size wc wr) ∧
          Aside (errFrom k [] L = errFrom k (namesOf L kk) (L.drop kk)))
        case atStart => exact ⟨0, Nat.zero_le _, by omega, rfl, Below.refl _ _, rfl⟩
        case round =>
          obtain ⟨kk, hkk, hg, rfl, BW, A⟩ := hrel
          by_cases hlt : kk < n1 + n2
          · have hltz : (kk : Int) < (n1 : Int) + (n2 : Int) := by omega
            have hkL : kk < L.length := by rw [HL.out]; exact hlt
            have hm : L[kk]! ∈ L := by rw [getElem!_pos L kk hkL]; exact List.getElem_mem hkL
            obtain ⟨l2, l3⟩ := hcells.out kk hkL
            have hRow := (hrows.out _ hm).mono (BW.out.mono (Nat.le_refl _))
            obtain ⟨pr, cr, her⟩ := hRow.shape
            have l2' := (BW.out.cell (p := ⟨b, off + kk * 2, none⟩) hb.out).trans l2
            have l3' := (BW.out.cell (p := ⟨b, off + kk * 2 + 1, none⟩) hb.out).trans l3
            rw [her] at l3'
            obtain ⟨f2, f3⟩ := hcells.out 0 (by omega)
            have hfr := f3
            obtain ⟨pf, cf, hpf⟩ := (hrows.out L[0]! (by rw [getElem!_pos L 0 (by omega)]; exact List.getElem_mem (by omega))).shape
            rw [hpf, hk0.out] at hfr
            clear l2 l3
            have hck : ∀ W, Below wc.heap.size wc W → Calls Tryz.prog 30 #[.slice pr L[kk]!.els.length cr] W fun e w' => e = .returned (.int .i64 (rowErr L[kk]!.els)) ∧ Below W.heap.size W w' := fun W hW => by
              have := rowCheck_calls ((hrows.out _ hm).mono hW) (B3.out _ hm)
              rw [her] at this
              exact this
            have hnm : ∀ W, Calls Tryz.prog 94 #[.string L[kk]!.name] W fun e w' => e = .returned (.bool (isNameB L[kk]!.name)) ∧ Below W.heap.size W w' := isName_calls _
            have hct : ∀ (W : World) (bp : Nat), Below wc.heap.size wc W → bp < W.heap.size → W.cell? ⟨bp, 0, none⟩ = some (.string L[kk]!.name) → Calls Tryz.prog 91 #[.slice (some ⟨b, off, none⟩) kk c, .func (.func 96) #[] #[.pointer (some ⟨bp, 0, none⟩)]] W fun e w' => e = .returned (.bool ((namesOf L kk).any fun y => decide (L[kk]!.name.toList = y.toList))) ∧ Below W.heap.size W w' := fun W bp hW hbp hp => by
              rw [← any_same]
              exact contains_same _ bp b off kk c L W (fun x hx => (hrows.out x hx).mono hW) (by omega) (by omega) (Nat.lt_of_lt_of_le hb.out hW.size) hbp hp (fun j hj i u hu => (hW.cell (p := ⟨b, off + j * 2 + i, none⟩) hb.out).trans (pair_cells (hcells.out j hj) i u hu))
            have hse : symErr k (namesOf L kk) L[kk]! = if isNameB L[kk]!.name = false then 8 else if ((namesOf L kk).any fun y => decide (L[kk]!.name.toList = y.toList)) = true then 9 else if rowErr L[kk]!.els ≠ 0 then rowErr L[kk]!.els else if 12 < L[kk]!.els.length then 4 else if L[kk]!.els.length ≠ k then 5 else 0 := rfl
            have hns := namesOf_succ hkL
            have hle := B3.out _ hm
            clear her hm hRow hpf f2 f3
            generalize ((namesOf L kk).any fun y => decide (L[kk]!.name.toList = y.toList)) = dup at hct hse
            generalize isNameB L[kk]!.name = isB at hnm hse
            generalize rowErr L[kk]!.els = re at hck hse
            generalize L[kk]!.els.length = le at hck hse l3' hle
            generalize L[kk]!.name = nm at l2' hnm hct hns
            have HSE := aside hse
            have HNS := aside hns
            have HCK := aside hck
            have HNM := aside hnm
            have HCT := aside hct
            have HFC := aside hfr
            clear hse hns hck hnm hct hkL hfr
            have hn1z : (0 : Int) < (n1 : Int) + (n2 : Int) := by omega
            have hkc : kk ≤ c := by have := hcap.out; omega
            have hkcz : (kk : Int) ≤ (c : Int) := by omega
            cases isB with
            | false =>
              go_wp2_with (first
                | (go_at_call 94; refine (HNM.out _).mono ?_; rintro e w1 ⟨rfl, hb1⟩; have hB1 := below_step _ hb1; have x0 := step_cell _ _ _ hb1)
                | (go_at_call 91; refine (HCT.out _ _ (BW.out.trans (hB1.mono BW.out.size)) x0.1 x0.2.1).mono ?_; rintro e w3 ⟨rfl, hb3⟩; have hB3 := BW.out.trans ((hB1.trans (hb3.mono hB1.size)).mono BW.out.size); have x3 := cell_step x0 hb3)
                | (go_at_call 30; refine (HCK.out _ hB3).mono ?_; rintro e w5 ⟨rfl, hb5⟩; have hB5 := hB3.trans (hb5.mono hB3.size); have y0 := (hb5.cell (p := ⟨wr.heap.size, 0, none⟩) x3.1).trans x3.2.1; have y1 := (hb5.cell (p := ⟨wr.heap.size, 1, none⟩) x3.1).trans x3.2.2; have y3 := (hB5.cell (p := ⟨b, off + 0 * 2 + 1, none⟩) hb.out).trans HFC.out))
              go_ret
              refine ⟨?_, hBc.out.trans ((BW.out.trans (hB1.mono BW.out.size)).mono hBc.out.size)⟩
              rw [A.out, errFrom_hit (by rw [HL.out]; exact hlt) (by rw [HSE.out]; simp), HSE.out]
              simp
              try rfl
            | true =>
              cases dup with
              | true =>
                go_wp2_with (first
                  | (go_at_call 94; refine (HNM.out _).mono ?_; rintro e w1 ⟨rfl, hb1⟩; have hB1 := below_step _ hb1; have x0 := step_cell _ _ _ hb1)
                  | (go_at_call 91; refine (HCT.out _ _ (BW.out.trans (hB1.mono BW.out.size)) x0.1 x0.2.1).mono ?_; rintro e w3 ⟨rfl, hb3⟩; have hB3 := BW.out.trans ((hB1.trans (hb3.mono hB1.size)).mono BW.out.size); have x3 := cell_step x0 hb3)
                  | (go_at_call 30; refine (HCK.out _ hB3).mono ?_; rintro e w5 ⟨rfl, hb5⟩; have hB5 := hB3.trans (hb5.mono hB3.size); have y0 := (hb5.cell (p := ⟨wr.heap.size, 0, none⟩) x3.1).trans x3.2.1; have y1 := (hb5.cell (p := ⟨wr.heap.size, 1, none⟩) x3.1).trans x3.2.2; have y3 := (hB5.cell (p := ⟨b, off + 0 * 2 + 1, none⟩) hb.out).trans HFC.out))
                go_ret
                refine ⟨?_, hBc.out.trans ((hB3).mono hBc.out.size)⟩
                rw [A.out, errFrom_hit (by rw [HL.out]; exact hlt) (by rw [HSE.out]; simp), HSE.out]
                simp
                try rfl
              | false =>
                by_cases hre : re = 0
                · subst hre
                  by_cases hle12 : (12 : Int) < (le : Int)
                  · have hn12 : 12 < le := by omega
                    go_wp2_with (first
                      | (go_at_call 94; refine (HNM.out _).mono ?_; rintro e w1 ⟨rfl, hb1⟩; have hB1 := below_step _ hb1; have x0 := step_cell _ _ _ hb1)
                      | (go_at_call 91; refine (HCT.out _ _ (BW.out.trans (hB1.mono BW.out.size)) x0.1 x0.2.1).mono ?_; rintro e w3 ⟨rfl, hb3⟩; have hB3 := BW.out.trans ((hB1.trans (hb3.mono hB1.size)).mono BW.out.size); have x3 := cell_step x0 hb3)
                      | (go_at_call 30; refine (HCK.out _ hB3).mono ?_; rintro e w5 ⟨rfl, hb5⟩; have hB5 := hB3.trans (hb5.mono hB3.size); have y0 := (hb5.cell (p := ⟨wr.heap.size, 0, none⟩) x3.1).trans x3.2.1; have y1 := (hb5.cell (p := ⟨wr.heap.size, 1, none⟩) x3.1).trans x3.2.2; have y3 := (hB5.cell (p := ⟨b, off + 0 * 2 + 1, none⟩) hb.out).trans HFC.out))
                    go_ret
                    refine ⟨?_, hBc.out.trans ((hB5).mono hBc.out.size)⟩
                    rw [A.out, errFrom_hit (by rw [HL.out]; exact hlt) (by rw [HSE.out]; simp [hn12]), HSE.out]
                    simp [hn12]
                    try rfl
                  · have hn12 : ¬ 12 < le := by omega
                    by_cases hlk : (le : Int) = (k : Int)
                    · have hlk' : le = k := by omega
                      have HLK := aside hlk'
                      clear hlk'
                      go_wp2_with (first
                        | (go_at_call 94; refine (HNM.out _).mono ?_; rintro e w1 ⟨rfl, hb1⟩; have hB1 := below_step _ hb1; have x0 := step_cell _ _ _ hb1)
                        | (go_at_call 91; refine (HCT.out _ _ (BW.out.trans (hB1.mono BW.out.size)) x0.1 x0.2.1).mono ?_; rintro e w3 ⟨rfl, hb3⟩; have hB3 := BW.out.trans ((hB1.trans (hb3.mono hB1.size)).mono BW.out.size); have x3 := cell_step x0 hb3)
                        | (go_at_call 30; refine (HCK.out _ hB3).mono ?_; rintro e w5 ⟨rfl, hb5⟩; have hB5 := hB3.trans (hb5.mono hB3.size); have y0 := (hb5.cell (p := ⟨wr.heap.size, 0, none⟩) x3.1).trans x3.2.1; have y1 := (hb5.cell (p := ⟨wr.heap.size, 1, none⟩) x3.1).trans x3.2.2; have y3 := (hB5.cell (p := ⟨b, off + 0 * 2 + 1, none⟩) hb.out).trans HFC.out))
                      go_quiet (fail)
                      go_wp2
                      go_roundg (n1 + n2 - (kk + 1))
                      case measure => omega
                      case rel =>
                        refine ⟨kk + 1, by omega, by omega, by go_num, (show Aside _ from below_drewN hB5 _), (show Aside _ from ?_)⟩
                        rw [A.out, errFrom_miss (by rw [HL.out]; exact hlt) (by rw [HSE.out]; simp [HLK.out] <;> omega)]
                        rfl
                    · have hlk' : ¬ le = k := by omega
                      go_wp2_with (first
                        | (go_at_call 94; refine (HNM.out _).mono ?_; rintro e w1 ⟨rfl, hb1⟩; have hB1 := below_step _ hb1; have x0 := step_cell _ _ _ hb1)
                        | (go_at_call 91; refine (HCT.out _ _ (BW.out.trans (hB1.mono BW.out.size)) x0.1 x0.2.1).mono ?_; rintro e w3 ⟨rfl, hb3⟩; have hB3 := BW.out.trans ((hB1.trans (hb3.mono hB1.size)).mono BW.out.size); have x3 := cell_step x0 hb3)
                        | (go_at_call 30; refine (HCK.out _ hB3).mono ?_; rintro e w5 ⟨rfl, hb5⟩; have hB5 := hB3.trans (hb5.mono hB3.size); have y0 := (hb5.cell (p := ⟨wr.heap.size, 0, none⟩) x3.1).trans x3.2.1; have y1 := (hb5.cell (p := ⟨wr.heap.size, 1, none⟩) x3.1).trans x3.2.2; have y3 := (hB5.cell (p := ⟨b, off + 0 * 2 + 1, none⟩) hb.out).trans HFC.out))
                      go_quiet (fail)
                      go_wp2
                      go_ret
                      refine ⟨?_, hBc.out.trans ((below_drewN hB5 _).mono hBc.out.size)⟩
                      rw [A.out, errFrom_hit (by rw [HL.out]; exact hlt) (by rw [HSE.out]; simp [hn12, hlk']), HSE.out]
                      simp [hn12, hlk']
                      try rfl
                · skip
                  go_wp2_with (first
                    | (go_at_call 94; refine (HNM.out _).mono ?_; rintro e w1 ⟨rfl, hb1⟩; have hB1 := below_step _ hb1; have x0 := step_cell _ _ _ hb1)
                    | (go_at_call 91; refine (HCT.out _ _ (BW.out.trans (hB1.mono BW.out.size)) x0.1 x0.2.1).mono ?_; rintro e w3 ⟨rfl, hb3⟩; have hB3 := BW.out.trans ((hB1.trans (hb3.mono hB1.size)).mono BW.out.size); have x3 := cell_step x0 hb3)
                    | (go_at_call 30; refine (HCK.out _ hB3).mono ?_; rintro e w5 ⟨rfl, hb5⟩; have hB5 := hB3.trans (hb5.mono hB3.size); have y0 := (hb5.cell (p := ⟨wr.heap.size, 0, none⟩) x3.1).trans x3.2.1; have y1 := (hb5.cell (p := ⟨wr.heap.size, 1, none⟩) x3.1).trans x3.2.2; have y3 := (hB5.cell (p := ⟨b, off + 0 * 2 + 1, none⟩) hb.out).trans HFC.out))
                  go_ret
                  refine ⟨?_, hBc.out.trans ((hB5).mono hBc.out.size)⟩
                  rw [A.out, errFrom_hit (by rw [HL.out]; exact hlt) (by rw [HSE.out]; simp [hre]), HSE.out]
                  simp [hre]
                  try rfl
          · have hltz : ¬ (kk : Int) < (n1 : Int) + (n2 : Int) := by omega
            have : kk = n1 + n2 := by omega
            subst this
            go_wp2
            go_ret
            refine ⟨?_, hBc.out.trans (BW.out.mono hBc.out.size)⟩
            rw [A.out, ← HL.out, errFrom_end]
            rfl
end Go.Proofs.YtjiijgdkdlelhaaGreatDoor

/- SpellingChecks: every function of the layer returns the error of the notation first. -/
namespace Go.Proofs.YtjiijgdkdlelhaaGreatDoor
open Go.Shelf Go.RowKit Go.Lib

/-- A notation lies behind two slice values. -/
structure NoteAt (w : World) (v1 v2 : Value) (L1 L2 : List Sym) : Prop where
  one : SymsAt w v1 L1
  two : SymsAt w v2 L2
  b1 : L1.length ≤ 9223372036854775807
  b2 : L2.length ≤ 9223372036854775807
  b3 : ∀ x ∈ L1 ++ L2, x.els.length ≤ 9223372036854775807
theorem NoteAt.mono {w W : World} {v1 v2 : Value} {L1 L2 : List Sym} (h : NoteAt w v1 v2 L1 L2) (hb : Below w.heap.size w W) : NoteAt W v1 v2 L1 L2 :=
  ⟨h.one.mono hb, h.two.mono hb, h.b1, h.b2, h.b3⟩
theorem NoteAt.shape {w : World} {v1 v2 : Value} {L1 L2 : List Sym} (h : NoteAt w v1 v2 L1 L2) : ∃ p1 q1 p2 q2, v1 = .slice p1 L1.length q1 ∧ v2 = .slice p2 L2.length q2 := by
  obtain ⟨p1, q1, e1⟩ := h.one.shape
  obtain ⟨p2, q2, e2⟩ := h.two.shape
  exact ⟨p1, q1, p2, q2, e1, e2⟩
/-- spelling.Check at every later world. -/
def ChecksTo (w : World) (p1 : Option Addr) (n1 q1 : Nat) (p2 : Option Addr) (n2 q2 : Nat) (er : Int) : Prop :=
  ∀ W, Below w.heap.size w W → Calls Tryz.prog 45 #[.agg #[.slice p1 n1 q1, .slice p2 n2 q2]] W fun e w' => e = .returned (.int .i64 er) ∧ Below W.heap.size W w'
theorem ChecksTo.mono {w W : World} {p1 p2 : Option Addr} {n1 q1 n2 q2 : Nat} {er : Int} (h : ChecksTo w p1 n1 q1 p2 n2 q2 er) (hb : Below w.heap.size w W) : ChecksTo W p1 n1 q1 p2 n2 q2 er :=
  fun W' hW => h W' (hb.trans (hW.mono hb.size))
theorem checksTo {w : World} {p1 p2 : Option Addr} {n1 q1 n2 q2 : Nat} {L1 L2 : List Sym} (h : NoteAt w (.slice p1 n1 q1) (.slice p2 n2 q2) L1 L2) : ChecksTo w p1 n1 q1 p2 n2 q2 (noteErr L1 L2) :=
  fun W hW => have k := h.mono hW; spCheck_calls k.one k.two k.b1 k.b2 k.b3

section
variable {w : World} {p1 p2 : Option Addr} {n1 q1 n2 q2 : Nat} {er : Int}
theorem open_err (H : ChecksTo w p1 n1 q1 p2 n2 q2 er) (he : ¬ er = 0) (l : Value) : Calls Tryz.prog 59 #[.agg #[.slice p1 n1 q1, .slice p2 n2 q2], l] w fun e w' => e = .returned (.int .i64 er) ∧ Below w.heap.size w w' := by
  have hb : Below w.heap.size w (w.alloc (.cells #[.slice p1 n1 q1, .slice p2 n2 q2] 30)) := (Below.refl _ w).alloc (Nat.le_refl _) _
  have HC := aside (H _ hb)
  have HB := aside hb
  clear H hb
  go_enter Tryz.func59, Tryz.ntmps59
  go_wp2_with (go_at_call 45; refine HC.out.mono ?_; rintro e w1 ⟨rfl, hb1⟩)
  go_ret
  exact ⟨rfl, HB.out.trans (hb1.mono HB.out.size)⟩

theorem below_alloc (w : World) (o : Obj) : Below w.heap.size w (w.alloc o) := (Below.refl _ w).alloc (Nat.le_refl _) o
theorem below_then {a b c : World} (h : Below a.heap.size a b) (k : Below b.heap.size b c) : Below a.heap.size a c := h.trans (k.mono h.size)

theorem read_err (H : ChecksTo w p1 n1 q1 p2 n2 q2 er) (he : ¬ er = 0) (k : Int) (ps : Option Addr) (ns qs : Nat) : Calls Tryz.prog 18 #[.agg #[.slice p1 n1 q1, .slice p2 n2 q2], .agg #[.int .i64 k, .slice ps ns qs]] w fun e w' => e = .returned (.tuple #[.slice none 0 0, .int .i64 er]) ∧ Below w.heap.size w w' := by
  have hb := below_then (below_alloc w (.cells #[.slice p1 n1 q1, .slice p2 n2 q2] 30)) (below_then (below_alloc _ (.cells #[.int .i64 k, .slice ps ns qs] 42)) (below_alloc _ (.cells #[.int .i64 k, .slice ps ns qs] 42)))
  have HC := aside (open_err (H.mono hb) he)
  have HB := aside hb
  clear H hb
  go_enter Tryz.func18, Tryz.ntmps18
  go_wp2_with (go_at_call 59; refine (HC.out _).mono ?_; rintro e w1 ⟨rfl, hb1⟩)
  go_ret2
  exact ⟨rfl, below_then HB.out hb1⟩
theorem all_err (H : ChecksTo w p1 n1 q1 p2 n2 q2 er) (he : ¬ er = 0) (r m : Value) : Calls Tryz.prog 13 #[.agg #[.slice p1 n1 q1, .slice p2 n2 q2], r, m] w fun e w' => e = .returned (.tuple #[.slice none 0 0, .int .i64 er]) ∧ Below w.heap.size w w' := by
  have hb := below_alloc w (.cells #[.slice p1 n1 q1, .slice p2 n2 q2] 30)
  have HC := aside (H _ hb)
  have HB := aside hb
  clear H hb
  go_enter Tryz.func13, Tryz.ntmps13
  go_wp2_with (go_at_call 45; refine HC.out.mono ?_; rintro e w1 ⟨rfl, hb1⟩)
  go_ret2
  exact ⟨rfl, below_then HB.out hb1⟩
theorem enh_err (H : ChecksTo w p1 n1 q1 p2 n2 q2 er) (he : ¬ er = 0) (k : Int) (ps : Option Addr) (ns qs : Nat) (m : Value) : Calls Tryz.prog 22 #[.agg #[.slice p1 n1 q1, .slice p2 n2 q2], .agg #[.int .i64 k, .slice ps ns qs], m] w fun e w' => e = .returned (.tuple #[.slice none 0 0, .int .i64 er]) ∧ Below w.heap.size w w' := by
  have hb := below_then (below_alloc w (.cells #[.slice p1 n1 q1, .slice p2 n2 q2] 30)) (below_then (below_alloc _ (.cells #[.int .i64 k, .slice ps ns qs] 42)) (below_alloc _ (.cells #[.int .i64 k, .slice ps ns qs] 42)))
  have HC := aside (open_err (H.mono hb) he)
  have HB := aside hb
  clear H hb
  go_enter Tryz.func22, Tryz.ntmps22
  go_wp2_with (go_at_call 59; refine (HC.out _).mono ?_; rintro e w1 ⟨rfl, hb1⟩)
  go_ret2
  exact ⟨rfl, below_then HB.out hb1⟩
theorem rel_err (H : ChecksTo w p1 n1 q1 p2 n2 q2 er) (he : ¬ er = 0) : Calls Tryz.prog 38 #[.agg #[.slice p1 n1 q1, .slice p2 n2 q2]] w fun e w' => e = .returned (.tuple #[.slice none 0 0, .int .i64 er]) ∧ Below w.heap.size w w' := by
  have hb := below_alloc w (.cells #[.slice p1 n1 q1, .slice p2 n2 q2] 30)
  have HC := aside (H _ hb)
  have HB := aside hb
  clear H hb
  go_enter Tryz.func38, Tryz.ntmps38
  go_wp2_with (go_at_call 45; refine HC.out.mono ?_; rintro e w1 ⟨rfl, hb1⟩)
  go_ret2
  exact ⟨rfl, below_then HB.out hb1⟩
theorem same_err (H : ChecksTo w p1 n1 q1 p2 n2 q2 er) (he : ¬ er = 0) (k k' : Int) (ps ps' : Option Addr) (ns qs ns' qs' : Nat) : Calls Tryz.prog 33 #[.agg #[.slice p1 n1 q1, .slice p2 n2 q2], .agg #[.int .i64 k, .slice ps ns qs], .agg #[.int .i64 k', .slice ps' ns' qs']] w fun e w' => e = .returned (.tuple #[.bool false, .int .i64 er]) ∧ Below w.heap.size w w' := by
  have hb := below_then (below_alloc w (.cells #[.slice p1 n1 q1, .slice p2 n2 q2] 30)) (below_then (below_alloc _ (.cells #[.int .i64 k, .slice ps ns qs] 42)) (below_then (below_alloc _ (.cells #[.int .i64 k', .slice ps' ns' qs'] 42)) (below_alloc _ (.cells #[.int .i64 k, .slice ps ns qs, .int .i64 k', .slice ps' ns' qs'] 42))))
  have HC := aside (open_err (H.mono hb) he)
  have HB := aside hb
  clear H hb
  go_enter Tryz.func33, Tryz.ntmps33
  go_wp2_with (go_at_call 59; refine (HC.out _).mono ?_; rintro e w1 ⟨rfl, hb1⟩)
  go_ret2
  exact ⟨rfl, below_then HB.out hb1⟩
theorem new_two {W w1 : World} (a b : Value) (t : TypeId) {g : Nat} (hg : W.heap.size = g) (h : Below (W.alloc (.cells #[a, b] t)).heap.size (W.alloc (.cells #[a, b] t)) w1) :
    w1.cell? ⟨g, 0, none⟩ = some a ∧ w1.cell? ⟨g, 1, none⟩ = some b ∧ w1.frozen? ⟨g, 0, none⟩ = false ∧ w1.frozen? ⟨g, 1, none⟩ = false := by
  subst hg
  have hb : w1.heap[W.heap.size]? = some (.cells #[a, b] t (0, 0)) := (h.block W.heap.size (by simp)).trans (heap_alloc_new W _)
  exact ⟨cell_of_row _ _ 0 _ t (0, 0) hb, cell_of_row _ _ 1 _ t (0, 0) hb, frozen_of_row _ _ 0 _ t hb, frozen_of_row _ _ 1 _ t hb⟩
theorem results_cell3 {P : Program} {fn : Func} {p u v : Tmp} {ty : TypeId} (h : fn.results = #[.cell p ty, .tmp u, .tmp v]) (tmps : Array Value) (w : World) (g : Nat) (t : TypeId) (cs : Array Value) (fr : Nat × Nat) (d : TypeDesc)
    (hp : tmps.getD p undef = .pointer (some ⟨g, 0, none⟩)) (hg : w.heap[g]? = some (.cells cs t fr))
    (hu : P.underlying ty = some d) (hd : (match d with | .struct _ | .array _ _ => true | _ => false) = true) (hi : (P.info? ty).map (·.size) = some cs.size) :
    (results fn tmps).run P w = .ok (.tuple #[.agg cs, tmps.getD u undef, tmps.getD v undef]) w := by
  have hp' : tmps[p]?.getD undef = .pointer (some ⟨g, 0, none⟩) := by simpa using hp
  simp only [results, h]
  simp [hp', asAddr, run_loadVar_row w g t ty cs fr d hg hu hd hi, Sem.run_bind, Result.andThen]
theorem set_two {w : World} {g : Nat} {a b a' b' : Value} {t : TypeId} {fr : Nat × Nat} (h : w.heap[g]? = some (.cells #[a, b] t fr)) : ((w.setCell ⟨g, 0, none⟩ a').setCell ⟨g, 1, none⟩ b').heap[g]? = some (.cells #[a', b'] t fr) := by
  simp [World.setCell, Array.getElem?_modify, h]
theorem new_blk {W w1 : World} {o : Obj} {g : Nat} (hg : W.heap.size = g) (h : Below (W.alloc o).heap.size (W.alloc o) w1) : w1.heap[g]? = some o := by
  subst hg
  exact (h.block W.heap.size (by simp)).trans (heap_alloc_new W _)
theorem Tryz.size42 : (Tryz.prog.info? 42).map (·.size) = some 2 := by kernel_rfl
theorem simplest_err (H : ChecksTo w p1 n1 q1 p2 n2 q2 er) (he : ¬ er = 0) (r : Value) (m : Int) : Calls Tryz.prog 29 #[.agg #[.slice p1 n1 q1, .slice p2 n2 q2], r, .int .i64 m] w fun e w' => e = .returned (.tuple #[.agg #[.int .i64 0, .slice none 0 0], .bool false, .int .i64 er]) ∧ Below w.heap.size w w' := by
  have hb := below_then (below_alloc w (.cells #[.slice p1 n1 q1, .slice p2 n2 q2] 30)) (below_alloc _ (.cells #[.int .i64 0, .slice none 0 0] 42))
  have HC := aside (all_err (H.mono hb) he)
  have HB := aside hb
  clear H hb
  go_enter Tryz.func29, Tryz.ntmps29
  go_wp2_with (go_at_call 13; refine (HC.out _ _).mono ?_; rintro e w1 ⟨rfl, hb1⟩; have hx := new_two (g := w.heap.size + 1) _ _ _ (by simp) hb1; obtain ⟨x0, x1, x2, x3⟩ := hx)
  (try simp only [Exit.inBlock, Exit.then])
  refine bodyPost_ret (results_cell3 rfl _ _ (w.heap.size + 1) 42 #[.int .i64 0, .slice none 0 0] (0, 0) _ rfl (set_two (new_blk (by simp) hb1)) Tryz.underlying42 rfl Tryz.size42) rfl ?_
  exact ⟨rfl, ((below_then HB.out hb1).setCell (p := ⟨w.heap.size + 1, 0, none⟩) (by simp) _).setCell (p := ⟨w.heap.size + 1, 1, none⟩) (by simp) _⟩
theorem interval_err (H : ChecksTo w p1 n1 q1 p2 n2 q2 er) (he : ¬ er = 0) (a1 a2 a3 : Option Addr) (b1 b2 b3 c1 c2 c3 : Nat) (ps : Option Addr) (ns qs : Nat) (m : Int) :
    Calls Tryz.prog 47 #[.agg #[.slice p1 n1 q1, .slice p2 n2 q2], .agg #[.slice a1 b1 c1, .slice a2 b2 c2, .slice a3 b3 c3], .agg #[.slice ps ns qs, .int .i64 m]] w fun e w' => e = .returned (.tuple #[.agg #[.int .i64 0, .slice none 0 0], .bool false, .int .i64 er]) ∧ Below w.heap.size w w' := by
  have hb := below_then (below_alloc w (.cells #[.slice p1 n1 q1, .slice p2 n2 q2] 30)) (below_then (below_alloc _ (.cells #[.slice a1 b1 c1, .slice a2 b2 c2, .slice a3 b3 c3] 88)) (below_then (below_alloc _ (.cells #[.slice ps ns qs, .int .i64 m] 93)) (below_alloc _ (.cells #[.int .i64 0, .slice none 0 0] 42))))
  have HC := aside (H _ hb)
  have HB := aside hb
  clear H hb
  go_enter Tryz.func47, Tryz.ntmps47
  go_wp2_with (go_at_call 45; refine HC.out.mono ?_; rintro e w1 ⟨rfl, hb1⟩; have hx := new_two (g := w.heap.size + 3) _ _ _ (by simp) hb1; obtain ⟨x0, x1, x2, x3⟩ := hx)
  (try simp only [Exit.inBlock, Exit.then])
  refine bodyPost_ret (results_cell3 rfl _ _ (w.heap.size + 3) 42 #[.int .i64 0, .slice none 0 0] (0, 0) _ rfl (set_two (new_blk (by simp) hb1)) Tryz.underlying42 rfl Tryz.size42) rfl ?_
  exact ⟨rfl, ((below_then HB.out hb1).setCell (p := ⟨w.heap.size + 3, 0, none⟩) (by simp) _).setCell (p := ⟨w.heap.size + 3, 1, none⟩) (by simp) _⟩
end
end Go.Proofs.YtjiijgdkdlelhaaGreatDoor

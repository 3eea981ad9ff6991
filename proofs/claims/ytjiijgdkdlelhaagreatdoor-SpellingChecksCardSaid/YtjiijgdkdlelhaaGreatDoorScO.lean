/- SpellingChecks: spelling.Check. -/
import Derived.Test.YtjiijgdkdlelhaaGreatDoorScN
namespace Go.Proofs.YtjiijgdkdlelhaaGreatDoor
open Go.Shelf Go.RowKit Go.Lib

theorem cell_step {b : Nat} {u v : Value} {w w' : World} (hx : b < w.heap.size ∧ w.cell? ⟨b, 0, none⟩ = some u ∧ w.cell? ⟨b, 1, none⟩ = some v) (h : Below w.heap.size w w') : b < w'.heap.size ∧ w'.cell? ⟨b, 0, none⟩ = some u ∧ w'.cell? ⟨b, 1, none⟩ = some v :=
  ⟨Nat.lt_of_lt_of_le hx.1 h.size, (h.cell (p := ⟨b, 0, none⟩) hx.1).trans hx.2.1, (h.cell (p := ⟨b, 1, none⟩) hx.1).trans hx.2.2⟩
theorem pair_cells {w : World} {b o : Nat} {x : Sym} (h : w.cell? ⟨b, o, none⟩ = some (.string x.name) ∧ w.cell? ⟨b, o + 1, none⟩ = some x.row) (i : Nat) (u : Value) (hu : x.enc[i]? = some u) : w.cell? ⟨b, o + i, none⟩ = some u := by
  match i, hu with
  | 0, hu => cases hu; exact h.1
  | 1, hu => cases hu; exact h.2
set_option maxRecDepth 20000 in
set_option maxHeartbeats 4000000 in
theorem spCheck_calls {v1 v2 : Value} {L1 L2 : List Sym} {w : World} (h1 : SymsAt w v1 L1) (h2 : SymsAt w v2 L2) (b1 : L1.length ≤ 9223372036854775807) (b2 : L2.length ≤ 9223372036854775807) (b3 : ∀ x ∈ L1 ++ L2, x.els.length ≤ 9223372036854775807) :
    Calls Tryz.prog 45 #[.agg #[v1, v2]] w fun e w' => e = .returned (.int .i64 (noteErr L1 L2)) ∧ Below w.heap.size w w' := by
  obtain ⟨p1, q1, e1⟩ := h1.shape
  obtain ⟨p2, q2, e2⟩ := h2.shape
  have H1 : Aside (SymsAt w v1 L1) := h1
  have H2 : Aside (SymsAt w v2 L2) := h2
  clear h1 h2
  subst e1 e2
  generalize hn1 : L1.length = n1 at *
  generalize hn2 : L2.length = n2 at *
  have N1 : Aside (L1.length = n1) := hn1
  have N2 : Aside (L2.length = n2) := hn2
  clear hn1 hn2
  have B3 := aside b3
  clear b3
  have hr : noteErr L1 L2 = if n1 = 0 then 13 else if 60 < n1 ∨ 6 < n2 then 4 else errFrom L1[0]!.els.length [] (L1 ++ L2) := by unfold noteErr; rw [N1.out, N2.out]
  rw [hr]
  clear hr
  have hbb : Below w.heap.size w (w.alloc (.cells #[.slice p1 n1 q1, .slice p2 n2 q2] 30)) := (Below.refl _ w).alloc (Nat.le_refl _) _
  have HBB := aside hbb
  clear hbb
  by_cases hA : (n1 : Int) = 0
  · rw [if_pos (by omega)]
    go_enter Tryz.func45, Tryz.ntmps45
    go_wp2
    go_ret
    exact ⟨rfl, HBB.out⟩
  · rw [if_neg (by omega)]
    by_cases hB : (60 : Int) < (n1 : Int)
    · rw [if_pos (by omega)]
      go_enter Tryz.func45, Tryz.ntmps45
      go_wp2
      go_ret
      exact ⟨rfl, HBB.out⟩
    · by_cases hC : (6 : Int) < (n2 : Int)
      · rw [if_pos (by omega)]
        go_enter Tryz.func45, Tryz.ntmps45
        go_wp2
        go_ret
        exact ⟨rfl, HBB.out⟩
      · rw [if_neg (by omega)]
        have hcc := concat_boxed H1.out H2.out (by rw [N1.out, N2.out]; omega) (by rw [N1.out]; omega)
        rw [N1.out, N2.out] at hcc
        have hlen : (L1 ++ L2).length = n1 + n2 := by rw [List.length_append, N1.out, N2.out]
        have h0 : (L1 ++ L2)[0]! = L1[0]! := by
          cases L1 with
          | nil => have := N1.out; simp at this; omega
          | cons x L => rfl
        rw [← h0]
        clear h0
        generalize L1 ++ L2 = L at hcc hlen B3 ⊢
        have HL := aside hlen
        have HCC := aside hcc
        generalize hk : L[0]!.els.length = k
        have hk0 := aside hk
        clear hcc hlen hk
        go_enter Tryz.func45, Tryz.ntmps45
        go_wp2_with (go_at_call 92; refine HCC.out.mono ?_; rintro e wc ⟨b, off, c, rfl, hb, hcells, hrows, hBc, hbox, hcap⟩)
        have hnpos : 0 < n1 := by omega
        have hnle : n1 + n2 < 1000 := by omega
        clear hA hB hC
        go_loopg [4, 5, 6, 29] (n1 + n2) (fun gg _ _ _ s29 wr => ∃ kk : Nat, kk ≤ n1 + n2 ∧ n1 + n2 - kk ≤ gg ∧ s29 = .int .i64 kk ∧ Aside (Below wc.heap.size wc wr) ∧
          Aside (errFrom k [] L = errFrom k (namesOf L kk) (L.drop kk)))
        case atStart => exact ⟨0, Nat.zero_le _, by omega, rfl, Below.refl _ _, rfl⟩
        case round =>
          obtain ⟨kk, hkk, hg, rfl, BW, A⟩ := hrel
          by_cases hlt : kk < n1 + n2
          · have hltz : (kk : Int) < (n1 : Int) + (n2 : Int) := by omega
            have hkL : kk < L.length := by rw [HL.out]; exact hlt
            have hm : L[kk]! ∈ L := by rw [getElem!_pos L kk hkL]; exact List.getElem_mem hkL
            obtain ⟨l2, l3⟩ := hcells.out kk hkL
            have hRow := (hrows.out _ hm).mono (BW.out.mono (Nat.le_refl _))
            obtain ⟨pr, cr, her⟩ := hRow.shape
            have l2' := (BW.out.cell (p := ⟨b, off + kk * 2, none⟩) hb.out).trans l2
            have l3' := (BW.out.cell (p := ⟨b, off + kk * 2 + 1, none⟩) hb.out).trans l3
            rw [her] at l3'
            obtain ⟨f2, f3⟩ := hcells.out 0 (by omega)
            have hfr := f3
            obtain ⟨pf, cf, hpf⟩ := (hrows.out L[0]! (by rw [getElem!_pos L 0 (by omega)]; exact List.getElem_mem (by omega))).shape
            rw [hpf, hk0.out] at hfr
            clear l2 l3
            have hck : ∀ W, Below wc.heap.size wc W → Calls Tryz.prog 30 #[.slice pr L[kk]!.els.length cr] W fun e w' => e = .returned (.int .i64 (rowErr L[kk]!.els)) ∧ Below W.heap.size W w' := fun W hW => by
              have := rowCheck_calls ((hrows.out _ hm).mono hW) (B3.out _ hm)
              rw [her] at this
              exact this
            have hnm : ∀ W, Calls Tryz.prog 94 #[.string L[kk]!.name] W fun e w' => e = .returned (.bool (isNameB L[kk]!.name)) ∧ Below W.heap.size W w' := isName_calls _
            have hct : ∀ (W : World) (bp : Nat), Below wc.heap.size wc W → bp < W.heap.size → W.cell? ⟨bp, 0, none⟩ = some (.string L[kk]!.name) → Calls Tryz.prog 91 #[.slice (some ⟨b, off, none⟩) kk c, .func (.func 96) #[] #[.pointer (some ⟨bp, 0, none⟩)]] W fun e w' => e = .returned (.bool ((namesOf L kk).any fun y => decide (L[kk]!.name.toList = y.toList))) ∧ Below W.heap.size W w' := fun W bp hW hbp hp => by
              rw [← any_same]
              exact contains_same _ bp b off kk c L W (fun x hx => (hrows.out x hx).mono hW) (by omega) (by omega) (Nat.lt_of_lt_of_le hb.out hW.size) hbp hp (fun j hj i u hu => (hW.cell (p := ⟨b, off + j * 2 + i, none⟩) hb.out).trans (pair_cells (hcells.out j hj) i u hu))
            have hse : symErr k (namesOf L kk) L[kk]! = if isNameB L[kk]!.name = false then 8 else if ((namesOf L kk).any fun y => decide (L[kk]!.name.toList = y.toList)) = true then 9 else if rowErr L[kk]!.els ≠ 0 then rowErr L[kk]!.els else if 12 < L[kk]!.els.length then 4 else if L[kk]!.els.length ≠ k then 5 else 0 := rfl
            have hns := namesOf_succ hkL
            have hle := B3.out _ hm
            clear her hm hRow hpf f2 f3
            generalize ((namesOf L kk).any fun y => decide (L[kk]!.name.toList = y.toList)) = dup at hct hse
            generalize isNameB L[kk]!.name = isB at hnm hse
            generalize rowErr L[kk]!.els = re at hck hse
            generalize L[kk]!.els.length = le at hck hse l3' hle
            generalize L[kk]!.name = nm at l2' hnm hct hns
            have HSE := aside hse
            have HNS := aside hns
            have HCK := aside hck
            have HNM := aside hnm
            have HCT := aside hct
            have HFC := aside hfr
            clear hse hns hck hnm hct hkL hfr
            have hn1z : (0 : Int) < (n1 : Int) + (n2 : Int) := by omega
            have hkc : kk ≤ c := by have := hcap.out; omega
            have hkcz : (kk : Int) ≤ (c : Int) := by omega
            cases isB with
            | false =>
              go_wp2_with (first
                | (go_at_call 94; refine (HNM.out _).mono ?_; rintro e w1 ⟨rfl, hb1⟩; have hB1 := below_step _ hb1; have x0 := step_cell _ _ _ hb1)
                | (go_at_call 91; refine (HCT.out _ _ (BW.out.trans (hB1.mono BW.out.size)) x0.1 x0.2.1).mono ?_; rintro e w3 ⟨rfl, hb3⟩; have hB3 := BW.out.trans ((hB1.trans (hb3.mono hB1.size)).mono BW.out.size); have x3 := cell_step x0 hb3)
                | (go_at_call 30; refine (HCK.out _ hB3).mono ?_; rintro e w5 ⟨rfl, hb5⟩; have hB5 := hB3.trans (hb5.mono hB3.size); have y0 := (hb5.cell (p := ⟨wr.heap.size, 0, none⟩) x3.1).trans x3.2.1; have y1 := (hb5.cell (p := ⟨wr.heap.size, 1, none⟩) x3.1).trans x3.2.2; have y3 := (hB5.cell (p := ⟨b, off + 0 * 2 + 1, none⟩) hb.out).trans HFC.out))
              go_ret
              refine ⟨?_, hBc.out.trans ((BW.out.trans (hB1.mono BW.out.size)).mono hBc.out.size)⟩
              rw [A.out, errFrom_hit (by rw [HL.out]; exact hlt) (by rw [HSE.out]; simp), HSE.out]
              simp
              try rfl
            | true =>
              cases dup with
              | true =>
                go_wp2_with (first
                  | (go_at_call 94; refine (HNM.out _).mono ?_; rintro e w1 ⟨rfl, hb1⟩; have hB1 := below_step _ hb1; have x0 := step_cell _ _ _ hb1)
                  | (go_at_call 91; refine (HCT.out _ _ (BW.out.trans (hB1.mono BW.out.size)) x0.1 x0.2.1).mono ?_; rintro e w3 ⟨rfl, hb3⟩; have hB3 := BW.out.trans ((hB1.trans (hb3.mono hB1.size)).mono BW.out.size); have x3 := cell_step x0 hb3)
                  | (go_at_call 30; refine (HCK.out _ hB3).mono ?_; rintro e w5 ⟨rfl, hb5⟩; have hB5 := hB3.trans (hb5.mono hB3.size); have y0 := (hb5.cell (p := ⟨wr.heap.size, 0, none⟩) x3.1).trans x3.2.1; have y1 := (hb5.cell (p := ⟨wr.heap.size, 1, none⟩) x3.1).trans x3.2.2; have y3 := (hB5.cell (p := ⟨b, off + 0 * 2 + 1, none⟩) hb.out).trans HFC.out))
                go_ret
                refine ⟨?_, hBc.out.trans ((hB3).mono hBc.out.size)⟩
                rw [A.out, errFrom_hit (by rw [HL.out]; exact hlt) (by rw [HSE.out]; simp), HSE.out]
                simp
                try rfl
              | false =>
                by_cases hre : re = 0
                · subst hre
                  by_cases hle12 : (12 : Int) < (le : Int)
                  · have hn12 : 12 < le := by omega
                    go_wp2_with (first
                      | (go_at_call 94; refine (HNM.out _).mono ?_; rintro e w1 ⟨rfl, hb1⟩; have hB1 := below_step _ hb1; have x0 := step_cell _ _ _ hb1)
                      | (go_at_call 91; refine (HCT.out _ _ (BW.out.trans (hB1.mono BW.out.size)) x0.1 x0.2.1).mono ?_; rintro e w3 ⟨rfl, hb3⟩; have hB3 := BW.out.trans ((hB1.trans (hb3.mono hB1.size)).mono BW.out.size); have x3 := cell_step x0 hb3)
                      | (go_at_call 30; refine (HCK.out _ hB3).mono ?_; rintro e w5 ⟨rfl, hb5⟩; have hB5 := hB3.trans (hb5.mono hB3.size); have y0 := (hb5.cell (p := ⟨wr.heap.size, 0, none⟩) x3.1).trans x3.2.1; have y1 := (hb5.cell (p := ⟨wr.heap.size, 1, none⟩) x3.1).trans x3.2.2; have y3 := (hB5.cell (p := ⟨b, off + 0 * 2 + 1, none⟩) hb.out).trans HFC.out))
                    go_ret
                    refine ⟨?_, hBc.out.trans ((hB5).mono hBc.out.size)⟩
                    rw [A.out, errFrom_hit (by rw [HL.out]; exact hlt) (by rw [HSE.out]; simp [hn12]), HSE.out]
                    simp [hn12]
                    try rfl
                  · have hn12 : ¬ 12 < le := by omega
                    by_cases hlk : (le : Int) = (k : Int)
                    · have hlk' : le = k := by omega
                      have HLK := aside hlk'
                      clear hlk'
                      go_wp2_with (first
                        | (go_at_call 94; refine (HNM.out _).mono ?_; rintro e w1 ⟨rfl, hb1⟩; have hB1 := below_step _ hb1; have x0 := step_cell _ _ _ hb1)
                        | (go_at_call 91; refine (HCT.out _ _ (BW.out.trans (hB1.mono BW.out.size)) x0.1 x0.2.1).mono ?_; rintro e w3 ⟨rfl, hb3⟩; have hB3 := BW.out.trans ((hB1.trans (hb3.mono hB1.size)).mono BW.out.size); have x3 := cell_step x0 hb3)
                        | (go_at_call 30; refine (HCK.out _ hB3).mono ?_; rintro e w5 ⟨rfl, hb5⟩; have hB5 := hB3.trans (hb5.mono hB3.size); have y0 := (hb5.cell (p := ⟨wr.heap.size, 0, none⟩) x3.1).trans x3.2.1; have y1 := (hb5.cell (p := ⟨wr.heap.size, 1, none⟩) x3.1).trans x3.2.2; have y3 := (hB5.cell (p := ⟨b, off + 0 * 2 + 1, none⟩) hb.out).trans HFC.out))
                      go_quiet (fail)
                      go_wp2
                      go_roundg (n1 + n2 - (kk + 1))
                      case measure => omega
                      case rel =>
                        refine ⟨kk + 1, by omega, by omega, by go_num, (show Aside _ from below_drewN hB5 _), (show Aside _ from ?_)⟩
                        rw [A.out, errFrom_miss (by rw [HL.out]; exact hlt) (by rw [HSE.out]; simp [HLK.out] <;> omega)]
                        rfl
                    · have hlk' : ¬ le = k := by omega
                      go_wp2_with (first
                        | (go_at_call 94; refine (HNM.out _).mono ?_; rintro e w1 ⟨rfl, hb1⟩; have hB1 := below_step _ hb1; have x0 := step_cell _ _ _ hb1)
                        | (go_at_call 91; refine (HCT.out _ _ (BW.out.trans (hB1.mono BW.out.size)) x0.1 x0.2.1).mono ?_; rintro e w3 ⟨rfl, hb3⟩; have hB3 := BW.out.trans ((hB1.trans (hb3.mono hB1.size)).mono BW.out.size); have x3 := cell_step x0 hb3)
                        | (go_at_call 30; refine (HCK.out _ hB3).mono ?_; rintro e w5 ⟨rfl, hb5⟩; have hB5 := hB3.trans (hb5.mono hB3.size); have y0 := (hb5.cell (p := ⟨wr.heap.size, 0, none⟩) x3.1).trans x3.2.1; have y1 := (hb5.cell (p := ⟨wr.heap.size, 1, none⟩) x3.1).trans x3.2.2; have y3 := (hB5.cell (p := ⟨b, off + 0 * 2 + 1, none⟩) hb.out).trans HFC.out))
                      go_quiet (fail)
                      go_wp2
                      go_ret
                      refine ⟨?_, hBc.out.trans ((below_drewN hB5 _).mono hBc.out.size)⟩
                      rw [A.out, errFrom_hit (by rw [HL.out]; exact hlt) (by rw [HSE.out]; simp [hn12, hlk']), HSE.out]
                      simp [hn12, hlk']
                      try rfl
                · skip
                  go_wp2_with (first
                    | (go_at_call 94; refine (HNM.out _).mono ?_; rintro e w1 ⟨rfl, hb1⟩; have hB1 := below_step _ hb1; have x0 := step_cell _ _ _ hb1)
                    | (go_at_call 91; refine (HCT.out _ _ (BW.out.trans (hB1.mono BW.out.size)) x0.1 x0.2.1).mono ?_; rintro e w3 ⟨rfl, hb3⟩; have hB3 := BW.out.trans ((hB1.trans (hb3.mono hB1.size)).mono BW.out.size); have x3 := cell_step x0 hb3)
                    | (go_at_call 30; refine (HCK.out _ hB3).mono ?_; rintro e w5 ⟨rfl, hb5⟩; have hB5 := hB3.trans (hb5.mono hB3.size); have y0 := (hb5.cell (p := ⟨wr.heap.size, 0, none⟩) x3.1).trans x3.2.1; have y1 := (hb5.cell (p := ⟨wr.heap.size, 1, none⟩) x3.1).trans x3.2.2; have y3 := (hB5.cell (p := ⟨b, off + 0 * 2 + 1, none⟩) hb.out).trans HFC.out))
                  go_ret
                  refine ⟨?_, hBc.out.trans ((hB5).mono hBc.out.size)⟩
                  rw [A.out, errFrom_hit (by rw [HL.out]; exact hlt) (by rw [HSE.out]; simp [hre]), HSE.out]
                  simp [hre]
                  try rfl
          · have hltz : ¬ (kk : Int) < (n1 : Int) + (n2 : Int) := by omega
            have : kk = n1 + n2 := by omega
            subst this
            go_wp2
            go_ret
            refine ⟨?_, hBc.out.trans (BW.out.mono hBc.out.size)⟩
            rw [A.out, ← HL.out, errFrom_end]
            rfl
end Go.Proofs.YtjiijgdkdlelhaaGreatDoor

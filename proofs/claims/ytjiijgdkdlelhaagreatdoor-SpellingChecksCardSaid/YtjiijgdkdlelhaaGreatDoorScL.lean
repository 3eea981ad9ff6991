/- SpellingChecks: few. -/
import Derived.Test.YtjiijgdkdlelhaaGreatDoorScK
namespace Go.Proofs.YtjiijgdkdlelhaaGreatDoor
open Go.Shelf Go.RowKit Go.Lib

theorem syms_concat {w W : World} {v1 v2 v : Value} {L1 L2 : List Sym} {B : Nat} (h1 : SymsAt w v1 L1) (h2 : SymsAt w v2 L2) (hb : Below w.heap.size w W) (ho : W.ownsRow B 35 2 v (L1.length + L2.length) (symCells (L1 ++ L2))) : SymsAt W v (L1 ++ L2) :=
  syms_of_owns (fun x hx => by
    rcases List.mem_append.1 hx with h | h
    · exact (h1.1 x h).mono hb
    · exact (h2.1 x h).mono hb) (by rw [List.length_append]; exact ho)

theorem cell_two (w : World) (a b : Value) (t : TypeId) : (w.alloc (.cells #[a, b] t)).cell? ⟨w.heap.size, 0, none⟩ = some a ∧ (w.alloc (.cells #[a, b] t)).cell? ⟨w.heap.size, 1, none⟩ = some b := by
  have h := heap_alloc_new w (.cells #[a, b] t)
  exact ⟨cell_of_row _ w.heap.size 0 #[a, b] t (0, 0) h, cell_of_row _ w.heap.size 1 #[a, b] t (0, 0) h⟩

set_option maxHeartbeats 2000000 in
theorem few_calls {v1 v2 : Value} {L1 L2 : List Sym} {w : World} (h1 : SymsAt w v1 L1) (h2 : SymsAt w v2 L2) (b1 : L1.length ≤ 9223372036854775807) (b2 : L2.length ≤ 9223372036854775807) :
    Calls Tryz.prog 43 #[.agg #[v1, v2]] w fun e w' => e = .returned (.bool (fewB L1 L2)) ∧ Below w.heap.size w w' := by
  obtain ⟨p1, q1, e1⟩ := h1.shape
  obtain ⟨p2, q2, e2⟩ := h2.shape
  have H1 : Aside (SymsAt w v1 L1) := h1
  have H2 : Aside (SymsAt w v2 L2) := h2
  clear h1 h2
  subst e1 e2
  generalize hn1 : L1.length = n1 at *
  generalize hn2 : L2.length = n2 at *
  have N1 : Aside (L1.length = n1) := hn1
  have N2 : Aside (L2.length = n2) := hn2
  clear hn1 hn2
  have hcat : ∀ (W : World) (ab : Nat), ab < W.heap.size → W.cell? ⟨ab, 0, none⟩ = some (.slice p1 n1 q1) → W.cell? ⟨ab, 1, none⟩ = some (.slice p2 n2 q2) → Below w.heap.size w W → n1 + n2 < 1000 →
      Calls Tryz.prog 92 #[.slice (some ⟨ab, 0, none⟩) 2 2] W fun e w' => ∃ v, e = .returned v ∧ Aside (SymsAt w' v (L1 ++ L2)) ∧ Below W.heap.size W w' := fun W ab h1 h2 h3 h4 h5 => by
    refine (concat_calls h1 h2 h3 (H1.out.mono h4) (H2.out.mono h4) (by rw [N1.out, N2.out]; exact h5)).mono ?_
    rintro e w' ⟨v, rfl, ho, hb⟩
    exact ⟨v, rfl, syms_concat H1.out H2.out (h4.trans (hb.mono h4.size)) ho, hb⟩
  have hcall : n1 + n2 < 1000 → Calls Tryz.prog 92 #[.slice (some ⟨w.heap.size + 1, 0, none⟩) 2 2] ((w.alloc (.cells #[.slice p1 n1 q1, .slice p2 n2 q2] 30)).alloc (.cells #[.slice p1 n1 q1, .slice p2 n2 q2] 28)) fun e w' => ∃ v, e = .returned v ∧ Aside (SymsAt w' v (L1 ++ L2)) ∧ Aside (Below w.heap.size w w') := fun h5 => by
    have hsz : (w.alloc (.cells #[.slice p1 n1 q1, .slice p2 n2 q2] 30)).heap.size = w.heap.size + 1 := by simp
    have hc2 := cell_two (w.alloc (.cells #[.slice p1 n1 q1, .slice p2 n2 q2] 30)) (.slice p1 n1 q1) (.slice p2 n2 q2) 28
    rw [hsz] at hc2
    have hbb : Below w.heap.size w ((w.alloc (.cells #[.slice p1 n1 q1, .slice p2 n2 q2] 30)).alloc (.cells #[.slice p1 n1 q1, .slice p2 n2 q2] 28)) := ((Below.refl _ w).alloc (Nat.le_refl _) _).alloc (by rw [hsz]; omega) _
    refine (hcat _ (w.heap.size + 1) (by simp) hc2.1 hc2.2 hbb h5).mono ?_
    rintro e w' ⟨v, rfl, hS, hb⟩
    exact ⟨v, rfl, hS, hbb.trans (hb.mono hbb.size)⟩
  have HC : Aside _ := hcall
  clear hcat hcall
  have hlen : (L1 ++ L2).length = n1 + n2 := by rw [List.length_append, N1.out, N2.out]
  have HL : Aside ((L1 ++ L2).length = n1 + n2) := hlen
  have hr : fewB L1 L2 = if (4 < n1 ∧ (n1 < 60 ∨ 62 < n1)) ∨ 8 < n2 then false else !((L1 ++ L2).any longB) := by unfold fewB; rw [N1.out, N2.out]
  rw [hr]
  clear hr hlen
  have hcon : ∀ (W : World) (v : Value), SymsAt W v (L1 ++ L2) → n1 + n2 < 1000 → Calls Tryz.prog 91 #[v, .func (.func 93) #[] #[]] W fun e w' => e = .returned (.bool ((L1 ++ L2).any longB)) ∧ Below W.heap.size W w' := fun W v hS h5 => contains_long hS (by rw [HL.out]; omega)
  generalize (L1 ++ L2).any longB = q at hcon ⊢
  have HQ : Aside _ := hcon
  clear hcon
  by_cases hA : (4 : Int) < (n1 : Int)
  · by_cases hB : (n1 : Int) < 60
    · rw [if_pos (by omega)]
      go_enter Tryz.func43, Tryz.ntmps43
      go_wp2
      go_ret
      exact ⟨rfl, (Below.refl _ w).alloc (Nat.le_refl _) _⟩
    · by_cases hC : (62 : Int) < (n1 : Int)
      · rw [if_pos (by omega)]
        go_enter Tryz.func43, Tryz.ntmps43
        go_wp2
        go_ret
        exact ⟨rfl, (Below.refl _ w).alloc (Nat.le_refl _) _⟩
      · by_cases hD : (8 : Int) < (n2 : Int)
        · rw [if_pos (by omega)]
          go_enter Tryz.func43, Tryz.ntmps43
          go_wp2
          go_ret
          exact ⟨rfl, (Below.refl _ w).alloc (Nat.le_refl _) _⟩
        · rw [if_neg (by omega)]
          go_enter Tryz.func43, Tryz.ntmps43
          go_wp2_with (first
            | (go_at_call 92; refine (HC.out (by omega)).mono ?_; rintro e w' ⟨v, rfl, hS, hBW⟩)
            | (go_at_call 91; refine (HQ.out _ _ hS.out (by omega)).mono ?_; rintro e w'' ⟨rfl, hB2⟩))
          go_ret
          exact ⟨rfl, hBW.out.trans (hB2.mono hBW.out.size)⟩
  · by_cases hD : (8 : Int) < (n2 : Int)
    · rw [if_pos (by omega)]
      go_enter Tryz.func43, Tryz.ntmps43
      go_wp2
      go_ret
      exact ⟨rfl, (Below.refl _ w).alloc (Nat.le_refl _) _⟩
    · rw [if_neg (by omega)]
      go_enter Tryz.func43, Tryz.ntmps43
      go_wp2_with (first
        | (go_at_call 92; refine (HC.out (by omega)).mono ?_; rintro e w' ⟨v, rfl, hS, hBW⟩)
        | (go_at_call 91; refine (HQ.out _ _ hS.out (by omega)).mono ?_; rintro e w'' ⟨rfl, hB2⟩))
      go_ret
      exact ⟨rfl, hBW.out.trans (hB2.mono hBW.out.size)⟩
end Go.Proofs.YtjiijgdkdlelhaaGreatDoor

/- SpellingChecks: slices.Concat of two slices of symbols. -/
import Derived.Test.YtjiijgdkdlelhaaGreatDoorScJ
namespace Go.Proofs.YtjiijgdkdlelhaaGreatDoor
open Go.Shelf Go.RowKit Go.Lib

theorem SymsAt.shape {w : World} {v : Value} {L : List Sym} (h : SymsAt w v L) : ∃ p c, v = .slice p L.length c := by
  rcases h.2 with ⟨base, c, rfl, rfl, -⟩ | ⟨b, off, c, rfl, _, _⟩
  · exact ⟨base, c, rfl⟩
  · exact ⟨some ⟨b, off, none⟩, c, rfl⟩

theorem SymsAt.parts {w : World} {p : Option Addr} {n q : Nat} {L : List Sym} (h : SymsAt w (.slice p n q) L) : (p = none ∧ n = 0 ∧ q = 0 ∧ L = []) ∨ ∃ a, p = some a ∧ ∀ j u, (symCells L)[j]? = some u → w.cell? (a.add j) = some u := by
  rcases h.2 with ⟨base, c, e, rfl, h0⟩ | ⟨b, off, c, e, _, h3⟩
  · cases e
    cases p with
    | none => exact .inl ⟨rfl, rfl, h0 rfl, rfl⟩
    | some a => exact .inr ⟨a, rfl, fun j u hu => by simp [symCells] at hu⟩
  · cases e; exact .inr ⟨⟨b, off, none⟩, rfl, syms_cells h3⟩

set_option maxHeartbeats 2000000 in
theorem concat_calls {ab : Nat} {v1 v2 : Value} {L1 L2 : List Sym} {w : World} (hab : ab < w.heap.size) (c1 : w.cell? ⟨ab, 0, none⟩ = some v1) (c2 : w.cell? ⟨ab, 1, none⟩ = some v2) (h1 : SymsAt w v1 L1) (h2 : SymsAt w v2 L2) (hn : L1.length + L2.length < 1000) :
    Calls Tryz.prog 92 #[.slice (some ⟨ab, 0, none⟩) 2 2] w fun e w' => ∃ v, e = .returned v ∧ w'.ownsRow w.heap.size 35 2 v (L1.length + L2.length) (symCells (L1 ++ L2)) ∧ Below w.heap.size w w' := by
  obtain ⟨p1, q1, e1⟩ := h1.shape
  obtain ⟨p2, q2, e2⟩ := h2.shape
  have H1 : Aside (SymsAt w v1 L1) := h1
  have H2 : Aside (SymsAt w v2 L2) := h2
  clear h1 h2
  subst e1 e2
  generalize hn1 : L1.length = n1 at *
  generalize hn2 : L2.length = n2 at *
  have N1 : Aside (L1.length = n1) := hn1
  have N2 : Aside (L2.length = n2) := hn2
  clear hn1 hn2
  go_enter Tryz.func92, Tryz.ntmps92
  go_wp2
  go_loopg [3, 5, 11] 2 (fun gg s3 _ s11 wr => w = wr ∧ ((s11 = .int .i64 0 ∧ s3 = .int .i64 0 ∧ Aside (2 ≤ gg)) ∨ (s11 = .int .i64 1 ∧ s3 = .int .i64 (n1 : Nat) ∧ Aside (1 ≤ gg)) ∨ (s11 = .int .i64 2 ∧ s3 = .int .i64 ((n1 + n2 : Nat) : Int))))
  case atStart => exact ⟨rfl, .inl ⟨rfl, rfl, (show Aside _ from Nat.le_refl _)⟩⟩
  case round =>
    obtain ⟨rfl, ⟨rfl, rfl, hg⟩ | ⟨rfl, rfl, hg⟩ | ⟨rfl, rfl⟩⟩ := hrel
    · go_wp2
      go_roundg 1
      case measure => have := hg.out; omega
      case rel => exact ⟨rfl, .inr (.inl ⟨rfl, by go_num, (show Aside _ from Nat.le_refl _)⟩)⟩
    · go_wp2
      go_roundg 0
      case measure => have := hg.out; omega
      case rel => exact ⟨rfl, .inr (.inr ⟨rfl, by go_num⟩)⟩
    · go_wp2_with (go_at_call 146; refine (grow_any (n1 + n2) hn _).mono ?_; rintro e w' ⟨v, rfl, hown, hb'⟩)
      have hsz := hb'.size
      go_loopg [6, 8, 27] 2 (fun gg s6 _ s27 wq => Aside (Below w.heap.size w wq) ∧ ((s27 = .int .i64 0 ∧ Aside (2 ≤ gg ∧ wq.ownsRow w.heap.size 35 2 s6 0 [])) ∨ (s27 = .int .i64 1 ∧ Aside (1 ≤ gg ∧ wq.ownsRow w.heap.size 35 2 s6 n1 (symCells L1))) ∨ (s27 = .int .i64 2 ∧ Aside (wq.ownsRow w.heap.size 35 2 s6 (n1 + n2) (symCells (L1 ++ L2))))))
      case atStart => exact ⟨hb', .inl ⟨rfl, (show Aside _ from ⟨Nat.le_refl _, hown⟩)⟩⟩
      case round =>
        obtain ⟨BW, ⟨rfl, hg⟩ | ⟨rfl, hg⟩ | ⟨rfl, hg⟩⟩ := hrel
        · have hl := (BW.out.cell (p := ⟨ab, 0, none⟩) hab).trans c1
          have hS := H1.out.mono BW.out
          have O1 := hS.one
          have hsq := BW.out.size
          have hlen : (symCells L1).length = n1 * 2 := by rw [symCells_length, N1.out]
          obtain ⟨hg, hown⟩ := hg.out
          have HG : Aside (2 ≤ gk) := hg
          clear c1 c2 hg
          rcases hS.parts with ⟨rfl, h0, h00, hL⟩ | ⟨ad, rfl, hcells⟩
          · have HL : Aside (Value.slice none n1 q1 = .slice none 0 0 ∧ L1 = [] ∧ n1 = 0) := ⟨by rw [h0, h00], hL, h0⟩
            clear hL hS h0 h00
            go_wp2_with (at_builtin; obtain ⟨i0, hi, hz0, hz1, hz2⟩ := info_parts Tryz.info35; refine wpList_append_own_none rfl _ _ 28 rfl w.heap.size 35 i0 2 Tryz.underlying28 hi _ 0 _ rfl hown HL.out.1 ?_)
            go_roundg 1
            case measure => have := HG.out; omega
            case rel => exact ⟨BW, .inr (.inl ⟨rfl, (show Aside _ from ⟨Nat.le_refl _, by rw [HL.out.2.1, HL.out.2.2]; exact hown⟩)⟩)⟩
          · clear hS
            go_wp2_with (at_builtin; obtain ⟨i0, hi, hz0, hz1, hz2⟩ := info_parts Tryz.info35; refine wpList_append_own _ rfl _ _ 28 rfl w.heap.size 35 i0 _ 2 40 Tryz.underlying28 hi hz0 hz1 hz2 rfl (by decide) _ 0 _ rfl hown ad n1 q1 (symCells L1) rfl hlen hcells O1 (by unfold maxLen; omega) (by omega) hsq ?_; intro v' w3 hown' hgrow hnil)
            go_roundg 1
            case measure => have := HG.out; omega
            case rel => exact ⟨BW.out.grown hgrow hsq (fun k hk => (hown.lt k hk).1), .inr (.inl ⟨rfl, (show Aside _ from ⟨Nat.le_refl _, by simpa using hown'⟩)⟩)⟩
        · have hl := (BW.out.cell (p := ⟨ab, 1, none⟩) hab).trans c2
          have hS := H2.out.mono BW.out
          have O1 := hS.one
          have hsq := BW.out.size
          have hlen : (symCells L2).length = n2 * 2 := by rw [symCells_length, N2.out]
          obtain ⟨hg, hown⟩ := hg.out
          have HG : Aside (1 ≤ gk) := hg
          clear c1 c2 hg
          rcases hS.parts with ⟨rfl, h0, h00, hL⟩ | ⟨ad, rfl, hcells⟩
          · have HL : Aside (Value.slice none n2 q2 = .slice none 0 0 ∧ L2 = [] ∧ n2 = 0) := ⟨by rw [h0, h00], hL, h0⟩
            clear hL hS h0 h00
            go_wp2_with (at_builtin; obtain ⟨i0, hi, hz0, hz1, hz2⟩ := info_parts Tryz.info35; refine wpList_append_own_none rfl _ _ 28 rfl w.heap.size 35 i0 2 Tryz.underlying28 hi _ n1 _ rfl hown HL.out.1 ?_)
            go_roundg 0
            case measure => have := HG.out; omega
            case rel => exact ⟨BW, .inr (.inr ⟨rfl, (show Aside _ from by rw [HL.out.2.1, HL.out.2.2, List.append_nil]; exact hown)⟩)⟩
          · clear hS
            go_wp2_with (at_builtin; obtain ⟨i0, hi, hz0, hz1, hz2⟩ := info_parts Tryz.info35; refine wpList_append_own _ rfl _ _ 28 rfl w.heap.size 35 i0 _ 2 40 Tryz.underlying28 hi hz0 hz1 hz2 rfl (by decide) _ n1 _ rfl hown ad n2 q2 (symCells L2) rfl hlen hcells O1 (by unfold maxLen; omega) (by omega) hsq ?_; intro v' w3 hown' hgrow hnil)
            go_roundg 0
            case measure => have := HG.out; omega
            case rel => exact ⟨BW.out.grown hgrow hsq (fun k hk => (hown.lt k hk).1), .inr (.inr ⟨rfl, (show Aside _ from by rw [symCells_append]; exact hown')⟩)⟩
        · go_wp2
          go_ret
          exact ⟨_, rfl, hg.out, BW.out⟩
end Go.Proofs.YtjiijgdkdlelhaaGreatDoor

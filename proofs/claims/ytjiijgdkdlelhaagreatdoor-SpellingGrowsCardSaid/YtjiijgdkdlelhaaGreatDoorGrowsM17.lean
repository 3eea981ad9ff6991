/- SpellingChecks: few. -/
import Derived.Test.YtjiijgdkdlelhaaGreatDoorGrowsM16
import Derived.Deep.DeepAppendRoom
import Derived.Laws.AppendOwnNone
import Derived.OwnWalk
import Derived.Below
/- SpellingChecks: a list of symbols as cells of a row. -/
namespace Go.Proofs.YtjiijgdkdlelhaaGreatDoor
open Go.Shelf Go.RowKit Go.Lib

def symCells (L : List Sym) : List Value := L.flatMap Sym.enc
theorem symCells_cons (x : Sym) (L : List Sym) : symCells (x :: L) = x.enc ++ symCells L := by simp [symCells]
theorem symCells_append (L M : List Sym) : symCells (L ++ M) = symCells L ++ symCells M := by simp [symCells]
theorem symCells_length (L : List Sym) : (symCells L).length = L.length * 2 := by
  induction L with
  | nil => rfl
  | cons x L ih => rw [symCells_cons, List.length_append, ih, List.length_cons, show x.enc.length = 2 from rfl]; omega
theorem symCells_get (L : List Sym) : ∀ (j : Nat), j < L.length → ∀ i, i < 2 → (symCells L)[j * 2 + i]? = (L[j]!.enc)[i]? := by
  induction L with
  | nil => intro j hj; cases hj
  | cons x L ih =>
    intro j hj i hi
    rw [symCells_cons]
    have hl : x.enc.length = 2 := rfl
    cases j with
    | zero =>
      rw [List.getElem?_append_left (by omega)]
      simp
    | succ j =>
      rw [List.getElem?_append_right (by omega), hl, show (j + 1) * 2 + i - 2 = j * 2 + i by omega, ih j (by simpa using hj) i hi]
      simp
theorem symCells_one {L : List Sym} (h : ∀ x ∈ L, ∃ base n c, x.row = .slice base n c) : ∀ u ∈ symCells L, u.oneCell' = true := by
  intro u hu
  unfold symCells at hu
  obtain ⟨x, hx, hu⟩ := List.mem_flatMap.1 hu
  obtain ⟨b, n, c, e⟩ := h x hx
  simp only [Sym.enc, List.mem_cons, List.not_mem_nil, or_false] at hu
  rcases hu with rfl | rfl
  · rfl
  · rw [e]; rfl
theorem RowAt.shape {w : World} {v : Value} {zs : List Int} (h : RowAt w v zs) : ∃ base c, v = .slice base zs.length c := by
  rcases h with ⟨base, c, rfl, rfl⟩ | ⟨b, off, c, rfl, _, _⟩
  · exact ⟨base, c, rfl⟩
  · exact ⟨some ⟨b, off, none⟩, c, rfl⟩
theorem SymsAt.mono {w W : World} {v : Value} {L : List Sym} (h : SymsAt w v L) (hb : Below w.heap.size w W) : SymsAt W v L := by
  obtain ⟨hr, h⟩ := h
  refine ⟨fun x hx => (hr x hx).mono hb, ?_⟩
  rcases h with h | ⟨b, off, c, h1, h2, h3⟩
  · exact .inl h
  · exact .inr ⟨b, off, c, h1, Nat.lt_of_lt_of_le h2 hb.size, fun j hj i u hu => (hb.cell (p := ⟨b, off + j * 2 + i, none⟩) h2).trans (h3 j hj i u hu)⟩
theorem SymsAt.one {w : World} {v : Value} {L : List Sym} (h : SymsAt w v L) : ∀ u ∈ symCells L, u.oneCell' = true :=
  symCells_one fun x hx => by
    obtain ⟨b, c, e⟩ := (h.1 x hx).shape
    exact ⟨b, _, c, e⟩
/-- The cells of a row of symbols, as a law on append wants them. -/
theorem syms_cells {w : World} {b off : Nat} {L : List Sym} (h : ∀ j, j < L.length → ∀ i u, (L[j]!.enc)[i]? = some u → w.cell? ⟨b, off + j * 2 + i, none⟩ = some u) :
    ∀ j u, (symCells L)[j]? = some u → w.cell? ((⟨b, off, none⟩ : Addr).add j) = some u := by
  intro j u hu
  have hj : j < L.length * 2 := by
    have := (List.getElem?_eq_some_iff.1 hu).1
    rwa [symCells_length] at this
  have e : j = j / 2 * 2 + j % 2 := by omega
  rw [e, symCells_get L (j / 2) (by omega) (j % 2) (by omega)] at hu
  have := h (j / 2) (by omega) (j % 2) u hu
  rw [Addr.add_lit, show off + j = off + j / 2 * 2 + j % 2 by omega]
  exact this
/-- An owned row of symbols is one that can be read. -/
theorem syms_of_owns {w : World} {base : Nat} {v : Value} {L : List Sym} (hr : ∀ x ∈ L, RowAt w x.row x.els) (h : w.ownsRow base 35 2 v L.length (symCells L)) : SymsAt w v L := by
  refine ⟨hr, ?_⟩
  rcases h.2 with ⟨rfl, h0⟩ | ⟨g, cap, cur, rfl, hb, hg, hn, hm, hs, ht⟩
  · exact .inl ⟨none, 0, rfl, List.eq_nil_of_length_eq_zero h0, fun _ => rfl⟩
  · refine .inr ⟨g, 0, cap, rfl, (Array.getElem?_eq_some_iff.1 hg).1, fun j hj i u hu => ?_⟩
    have hi : i < 2 := (List.getElem?_eq_some_iff.1 hu).1
    have := h.cells (g := g) rfl (j * 2 + i) u (by rw [symCells_get L j hj i hi]; exact hu)
    rw [Addr.add_lit] at this
    rw [show 0 + j * 2 + i = 0 + (j * 2 + i) by omega]
    exact this
end Go.Proofs.YtjiijgdkdlelhaaGreatDoor

/- SpellingChecks: the error of a notation, as a plain function. -/
namespace Go.Proofs.YtjiijgdkdlelhaaGreatDoor
open Go.Shelf Go.RowKit Go.Lib

/-- The error of one symbol behind others. -/
def symErr (k : Nat) (N : List ByteArray) (x : Sym) : Int :=
  if isNameB x.name = false then 8
  else if (N.any fun y => decide (x.name.toList = y.toList)) = true then 9
  else if rowErr x.els ≠ 0 then rowErr x.els
  else if 12 < x.els.length then 4
  else if x.els.length ≠ k then 5
  else 0
/-- The first error of the symbols from the kk-th on. -/
def errFrom (k : Nat) (N : List ByteArray) : List Sym → Int
  | [] => 0
  | x :: L => if symErr k N x ≠ 0 then symErr k N x else errFrom k (N ++ [x.name]) L
def noteErr (L M : List Sym) : Int :=
  if L.length = 0 then 13
  else if 60 < L.length ∨ 6 < M.length then 4
  else errFrom L[0]!.els.length [] (L ++ M)
def fewB (L M : List Sym) : Bool :=
  if (4 < L.length ∧ (L.length < 60 ∨ 62 < L.length)) ∨ 8 < M.length then false else !((L ++ M).any longB)

def namesOf (L : List Sym) (kk : Nat) : List ByteArray := (L.take kk).map Sym.name
theorem namesOf_succ {L : List Sym} {kk : Nat} (h : kk < L.length) : namesOf L (kk + 1) = namesOf L kk ++ [L[kk]!.name] := by
  unfold namesOf
  rw [List.take_add_one, List.map_append, getElem!_pos L kk h, List.getElem?_eq_getElem h]
  rfl
theorem namesOf_length {L : List Sym} {kk : Nat} (h : kk ≤ L.length) : (namesOf L kk).length = kk := by
  unfold namesOf
  simp
  omega
theorem errFrom_hit {L : List Sym} {k kk : Nat} (h : kk < L.length) (he : symErr k (namesOf L kk) L[kk]! ≠ 0) : errFrom k (namesOf L kk) (L.drop kk) = symErr k (namesOf L kk) L[kk]! := by
  rw [List.drop_eq_getElem_cons h, errFrom, if_pos (by rw [← getElem!_pos L kk h]; exact he), getElem!_pos L kk h]
theorem errFrom_miss {L : List Sym} {k kk : Nat} (h : kk < L.length) (he : symErr k (namesOf L kk) L[kk]! = 0) : errFrom k (namesOf L kk) (L.drop kk) = errFrom k (namesOf L (kk + 1)) (L.drop (kk + 1)) := by
  rw [List.drop_eq_getElem_cons h, errFrom, if_neg (by rw [← getElem!_pos L kk h]; simpa using he), namesOf_succ h, getElem!_pos L kk h]
theorem errFrom_end {L : List Sym} {k : Nat} {N : List ByteArray} : errFrom k N (L.drop L.length) = 0 := by
  rw [List.drop_length]; rfl
end Go.Proofs.YtjiijgdkdlelhaaGreatDoor

/- SpellingChecks: slices.Grow of a nil slice of symbols. -/
namespace Go.Proofs.YtjiijgdkdlelhaaGreatDoor
open Go.Shelf Go.RowKit Go.Lib

theorem grow_calls (m : Nat) (hm : 0 < m) (hm2 : m < 1000) (w : World) : Calls Tryz.prog 146 #[.slice none 0 0, .int .i64 m] w fun e w' =>
    ∃ c, e = .returned (.slice (some ⟨w.heap.size, 0, none⟩) 0 c) ∧ m ≤ c ∧ w'.ownsRow w.heap.size 35 2 (.slice (some ⟨w.heap.size, 0, none⟩) 0 c) 0 [] ∧ Below w.heap.size w w' := by
  have h1 : (0 : Int) < (m : Int) := by omega
  have h2 : ¬ (m : Int) < 0 := by omega
  have hb : Tryz.t35.bytes = 40 := rfl
  have h3 : ¬ 281474976710656 < (m : Int) * (Tryz.t35.bytes : Int) := by rw [hb]; omega
  have h4 : ¬ 281474976710656 < Builtin.nextslicecap m 0 * Tryz.t35.bytes := by
    have e : Builtin.nextslicecap m 0 = m := by unfold Builtin.nextslicecap; rw [if_pos (by omega)]
    rw [e, hb]; omega
  have h5 : ¬ 9223372036854775807 < (m : Int) := by omega
  have h6 : ¬ m = 0 := by omega
  have hge := grownCap_ge w m 0 35
  have hle := grownCap_le_maxLen w m 0 35 (by unfold maxLen; omega)
  have HG : Aside (m ≤ grownCap w m 0 35 ∧ grownCap w m 0 35 ≤ maxLen) := ⟨hge, hle⟩
  clear hb hge hle
  go_enter Tryz.func146, Tryz.ntmps146
  go_wp2
  go_ret
  refine ⟨grownCap w m 0 35, rfl, HG.out.1, ?_, ((Below.refl _ w).alloc (Nat.le_refl _) _).drew⟩
  refine World.ownsRow.drew (World.ownsRow_made w _ _ (Nat.le_refl _) HG.out.2 ?_)
  rw [Array.size_append, size_zeroCells, size_zeroCells]
  show m * 2 + (grownCap w m 0 35 - m) * 2 = grownCap w m 0 35 * 2
  have := HG.out.1
  omega
theorem grow_nil (w : World) : Calls Tryz.prog 146 #[.slice none 0 0, .int .i64 0] w fun e w' => e = .returned (.slice none 0 0) ∧ Below w.heap.size w w' := by
  go_enter Tryz.func146, Tryz.ntmps146
  go_wp2
  go_ret
  exact ⟨rfl, Below.refl _ _⟩
theorem grow_any (m : Nat) (hm : m < 1000) (w : World) : Calls Tryz.prog 146 #[.slice none 0 0, .int .i64 m] w fun e w' =>
    ∃ v, e = .returned v ∧ w'.ownsRow w.heap.size 35 2 v 0 [] ∧ Below w.heap.size w w' := by
  by_cases h0 : m = 0
  · subst h0
    refine (grow_nil w).mono ?_
    rintro e w' ⟨rfl, hb⟩
    exact ⟨_, rfl, World.ownsRow_nil _ _ _ _, hb⟩
  · refine (grow_calls m (by omega) hm w).mono ?_
    rintro e w' ⟨c, rfl, _, h1, h2⟩
    exact ⟨_, rfl, h1, h2⟩
theorem Tryz.info35 : (Tryz.prog.info? 35).map (fun i => (i.zero, i.size, i.bytes)) = some (some (.agg #[.string ⟨#[]⟩, .slice none 0 0]), 2, 40) := by kernel_rfl
end Go.Proofs.YtjiijgdkdlelhaaGreatDoor

/- SpellingChecks: slices.Concat of two slices of symbols. -/
namespace Go.Proofs.YtjiijgdkdlelhaaGreatDoor
open Go.Shelf Go.RowKit Go.Lib

theorem SymsAt.shape {w : World} {v : Value} {L : List Sym} (h : SymsAt w v L) : ∃ p c, v = .slice p L.length c := by
  rcases h.2 with ⟨base, c, rfl, rfl, -⟩ | ⟨b, off, c, rfl, _, _⟩
  · exact ⟨base, c, rfl⟩
  · exact ⟨some ⟨b, off, none⟩, c, rfl⟩

theorem SymsAt.parts {w : World} {p : Option Addr} {n q : Nat} {L : List Sym} (h : SymsAt w (.slice p n q) L) : (p = none ∧ n = 0 ∧ q = 0 ∧ L = []) ∨ ∃ a, p = some a ∧ ∀ j u, (symCells L)[j]? = some u → w.cell? (a.add j) = some u := by
  rcases h.2 with ⟨base, c, e, rfl, h0⟩ | ⟨b, off, c, e, _, h3⟩
  · cases e
    cases p with
    | none => exact .inl ⟨rfl, rfl, h0 rfl, rfl⟩
    | some a => exact .inr ⟨a, rfl, fun j u hu => by simp [symCells] at hu⟩
  · cases e; exact .inr ⟨⟨b, off, none⟩, rfl, syms_cells h3⟩

set_option maxHeartbeats 2000000 in
theorem concat_calls {ab : Nat} {v1 v2 : Value} {L1 L2 : List Sym} {w : World} (hab : ab < w.heap.size) (c1 : w.cell? ⟨ab, 0, none⟩ = some v1) (c2 : w.cell? ⟨ab, 1, none⟩ = some v2) (h1 : SymsAt w v1 L1) (h2 : SymsAt w v2 L2) (hn : L1.length + L2.length < 1000) :
    Calls Tryz.prog 92 #[.slice (some ⟨ab, 0, none⟩) 2 2] w fun e w' => ∃ v, e = .returned v ∧ w'.ownsRow w.heap.size 35 2 v (L1.length + L2.length) (symCells (L1 ++ L2)) ∧ Below w.heap.size w w' := by
  obtain ⟨p1, q1, e1⟩ := h1.shape
  obtain ⟨p2, q2, e2⟩ := h2.shape
  have H1 : Aside (SymsAt w v1 L1) := h1
  have H2 : Aside (SymsAt w v2 L2) := h2
  clear h1 h2
  subst e1 e2
  generalize hn1 : L1.length = n1 at *
  generalize hn2 : L2.length = n2 at *
  have N1 : Aside (L1.length = n1) := hn1
  have N2 : Aside (L2.length = n2) := hn2
  clear hn1 hn2
  go_enter Tryz.func92, Tryz.ntmps92
  go_wp2
  go_loopg [3, 5, 11] 2 (fun gg s3 _ s11 wr => w = wr ∧ ((s11 = .int .i64 0 ∧ s3 = .int .i64 0 ∧ Aside (2 ≤ gg)) ∨ (s11 = .int .i64 1 ∧ s3 = .int .i64 (n1 : Nat) ∧ Aside (1 ≤ gg)) ∨ (s11 = .int .i64 2 ∧ s3 = .int .i64 ((n1 + n2 : Nat) : Int))))
  case atStart => exact ⟨rfl, .inl ⟨rfl, rfl, (show Aside _ from Nat.le_refl _)⟩⟩
  case round =>
    obtain ⟨rfl, ⟨rfl, rfl, hg⟩ | ⟨rfl, rfl, hg⟩ | ⟨rfl, rfl⟩⟩ := hrel
    · go_wp2
      go_roundg 1
      case measure => have := hg.out; omega
      case rel => exact ⟨rfl, .inr (.inl ⟨rfl, by go_num, (show Aside _ from Nat.le_refl _)⟩)⟩
    · go_wp2
      go_roundg 0
      case measure => have := hg.out; omega
      case rel => exact ⟨rfl, .inr (.inr ⟨rfl, by go_num⟩)⟩
    · go_wp2_with (go_at_call 146; refine (grow_any (n1 + n2) hn _).mono ?_; rintro e w' ⟨v, rfl, hown, hb'⟩)
      have hsz := hb'.size
      go_loopg [6, 8, 27] 2 (fun gg s6 _ s27 wq => Aside (Below w.heap.size w wq) ∧ ((s27 = .int .i64 0 ∧ Aside (2 ≤ gg ∧ wq.ownsRow w.heap.size 35 2 s6 0 [])) ∨ (s27 = .int .i64 1 ∧ Aside (1 ≤ gg ∧ wq.ownsRow w.heap.size 35 2 s6 n1 (symCells L1))) ∨ (s27 = .int .i64 2 ∧ Aside (wq.ownsRow w.heap.size 35 2 s6 (n1 + n2) (symCells (L1 ++ L2))))))
      case atStart => exact ⟨hb', .inl ⟨rfl, (show Aside _ from ⟨Nat.le_refl _, hown⟩)⟩⟩
      case round =>
        obtain ⟨BW, ⟨rfl, hg⟩ | ⟨rfl, hg⟩ | ⟨rfl, hg⟩⟩ := hrel
        · have hl := (BW.out.cell (p := ⟨ab, 0, none⟩) hab).trans c1
          have hS := H1.out.mono BW.out
          have O1 := hS.one
          have hsq := BW.out.size
          have hlen : (symCells L1).length = n1 * 2 := by rw [symCells_length, N1.out]
          obtain ⟨hg, hown⟩ := hg.out
          have HG : Aside (2 ≤ gk) := hg
          clear c1 c2 hg
          rcases hS.parts with ⟨rfl, h0, h00, hL⟩ | ⟨ad, rfl, hcells⟩
          · have HL : Aside (Value.slice none n1 q1 = .slice none 0 0 ∧ L1 = [] ∧ n1 = 0) := ⟨by rw [h0, h00], hL, h0⟩
            clear hL hS h0 h00
            go_wp2_with (at_builtin; obtain ⟨i0, hi, hz0, hz1, hz2⟩ := info_parts Tryz.info35; refine wpList_append_own_none rfl _ _ 28 rfl w.heap.size 35 i0 2 Tryz.underlying28 hi _ 0 _ rfl hown HL.out.1 ?_)
            go_roundg 1
            case measure => have := HG.out; omega
            case rel => exact ⟨BW, .inr (.inl ⟨rfl, (show Aside _ from ⟨Nat.le_refl _, by rw [HL.out.2.1, HL.out.2.2]; exact hown⟩)⟩)⟩
          · clear hS
            go_wp2_with (at_builtin; obtain ⟨i0, hi, hz0, hz1, hz2⟩ := info_parts Tryz.info35; refine wpList_append_own _ rfl _ _ 28 rfl w.heap.size 35 i0 _ 2 40 Tryz.underlying28 hi hz0 hz1 hz2 rfl (by decide) _ 0 _ rfl hown ad n1 q1 (symCells L1) rfl hlen hcells O1 (by unfold maxLen; omega) (by omega) hsq ?_; intro v' w3 hown' hgrow hnil)
            go_roundg 1
            case measure => have := HG.out; omega
            case rel => exact ⟨BW.out.grown hgrow hsq (fun k hk => (hown.lt k hk).1), .inr (.inl ⟨rfl, (show Aside _ from ⟨Nat.le_refl _, by simpa using hown'⟩)⟩)⟩
        · have hl := (BW.out.cell (p := ⟨ab, 1, none⟩) hab).trans c2
          have hS := H2.out.mono BW.out
          have O1 := hS.one
          have hsq := BW.out.size
          have hlen : (symCells L2).length = n2 * 2 := by rw [symCells_length, N2.out]
          obtain ⟨hg, hown⟩ := hg.out
          have HG : Aside (1 ≤ gk) := hg
          clear c1 c2 hg
          rcases hS.parts with ⟨rfl, h0, h00, hL⟩ | ⟨ad, rfl, hcells⟩
          · have HL : Aside (Value.slice none n2 q2 = .slice none 0 0 ∧ L2 = [] ∧ n2 = 0) := ⟨by rw [h0, h00], hL, h0⟩
            clear hL hS h0 h00
            go_wp2_with (at_builtin; obtain ⟨i0, hi, hz0, hz1, hz2⟩ := info_parts Tryz.info35; refine wpList_append_own_none rfl _ _ 28 rfl w.heap.size 35 i0 2 Tryz.underlying28 hi _ n1 _ rfl hown HL.out.1 ?_)
            go_roundg 0
            case measure => have := HG.out; omega
            case rel => exact ⟨BW, .inr (.inr ⟨rfl, (show Aside _ from by rw [HL.out.2.1, HL.out.2.2, List.append_nil]; exact hown)⟩)⟩
          · clear hS
            go_wp2_with (at_builtin; obtain ⟨i0, hi, hz0, hz1, hz2⟩ := info_parts Tryz.info35; refine wpList_append_own _ rfl _ _ 28 rfl w.heap.size 35 i0 _ 2 40 Tryz.underlying28 hi hz0 hz1 hz2 rfl (by decide) _ n1 _ rfl hown ad n2 q2 (symCells L2) rfl hlen hcells O1 (by unfold maxLen; omega) (by omega) hsq ?_; intro v' w3 hown' hgrow hnil)
            go_roundg 0
            case measure => have := HG.out; omega
            case rel => exact ⟨BW.out.grown hgrow hsq (fun k hk => (hown.lt k hk).1), .inr (.inr ⟨rfl, (show Aside _ from by rw [symCells_append]; exact hown')⟩)⟩
        · go_wp2
          go_ret
          exact ⟨_, rfl, hg.out, BW.out⟩
end Go.Proofs.YtjiijgdkdlelhaaGreatDoor

/- SpellingChecks: few. -/
namespace Go.Proofs.YtjiijgdkdlelhaaGreatDoor
open Go.Shelf Go.RowKit Go.Lib

theorem syms_concat {w W : World} {v1 v2 v : Value} {L1 L2 : List Sym} {B : Nat} (h1 : SymsAt w v1 L1) (h2 : SymsAt w v2 L2) (hb : Below w.heap.size w W) (ho : W.ownsRow B 35 2 v (L1.length + L2.length) (symCells (L1 ++ L2))) : SymsAt W v (L1 ++ L2) :=
  syms_of_owns (fun x hx => by
    rcases List.mem_append.1 hx with h | h
    · exact (h1.1 x h).mono hb
    · exact (h2.1 x h).mono hb) (by rw [List.length_append]; exact ho)

theorem cell_two (w : World) (a b : Value) (t : TypeId) : (w.alloc (.cells #[a, b] t)).cell? ⟨w.heap.size, 0, none⟩ = some a ∧ (w.alloc (.cells #[a, b] t)).cell? ⟨w.heap.size, 1, none⟩ = some b := by
  have h := heap_alloc_new w (.cells #[a, b] t)
  exact ⟨cell_of_row _ w.heap.size 0 #[a, b] t (0, 0) h, cell_of_row _ w.heap.size 1 #[a, b] t (0, 0) h⟩

set_option maxHeartbeats 2000000 in
theorem few_calls {v1 v2 : Value} {L1 L2 : List Sym} {w : World} (h1 : SymsAt w v1 L1) (h2 : SymsAt w v2 L2) (b1 : L1.length ≤ 9223372036854775807) (b2 : L2.length ≤ 9223372036854775807) :
    Calls Tryz.prog 43 #[.agg #[v1, v2]] w fun e w' => e = .returned (.bool (fewB L1 L2)) ∧ Below w.heap.size w w' := by
  obtain ⟨p1, q1, e1⟩ := h1.shape
  obtain ⟨p2, q2, e2⟩ := h2.shape
  have H1 : Aside (SymsAt w v1 L1) := h1
  have H2 : Aside (SymsAt w v2 L2) := h2
  clear h1 h2
  subst e1 e2
  generalize hn1 : L1.length = n1 at *
  generalize hn2 : L2.length = n2 at *
  have N1 : Aside (L1.length = n1) := hn1
  have N2 : Aside (L2.length = n2) := hn2
  clear hn1 hn2
  have hcat : ∀ (W : World) (ab : Nat), ab < W.heap.size → W.cell? ⟨ab, 0, none⟩ = some (.slice p1 n1 q1) → W.cell? ⟨ab, 1, none⟩ = some (.slice p2 n2 q2) → Below w.heap.size w W → n1 + n2 < 1000 →
      Calls Tryz.prog 92 #[.slice (some ⟨ab, 0, none⟩) 2 2] W fun e w' => ∃ v, e = .returned v ∧ Aside (SymsAt w' v (L1 ++ L2)) ∧ Below W.heap.size W w' := fun W ab h1 h2 h3 h4 h5 => by
    refine (concat_calls h1 h2 h3 (H1.out.mono h4) (H2.out.mono h4) (by rw [N1.out, N2.out]; exact h5)).mono ?_
    rintro e w' ⟨v, rfl, ho, hb⟩
    exact ⟨v, rfl, syms_concat H1.out H2.out (h4.trans (hb.mono h4.size)) ho, hb⟩
  have hcall : n1 + n2 < 1000 → Calls Tryz.prog 92 #[.slice (some ⟨w.heap.size + 1, 0, none⟩) 2 2] ((w.alloc (.cells #[.slice p1 n1 q1, .slice p2 n2 q2] 30)).alloc (.cells #[.slice p1 n1 q1, .slice p2 n2 q2] 28)) fun e w' => ∃ v, e = .returned v ∧ Aside (SymsAt w' v (L1 ++ L2)) ∧ Aside (Below w.heap.size w w') := fun h5 => by
    have hsz : (w.alloc (.cells #[.slice p1 n1 q1, .slice p2 n2 q2] 30)).heap.size = w.heap.size + 1 := by simp
    have hc2 := cell_two (w.alloc (.cells #[.slice p1 n1 q1, .slice p2 n2 q2] 30)) (.slice p1 n1 q1) (.slice p2 n2 q2) 28
    rw [hsz] at hc2
    have hbb : Below w.heap.size w ((w.alloc (.cells #[.slice p1 n1 q1, .slice p2 n2 q2] 30)).alloc (.cells #[.slice p1 n1 q1, .slice p2 n2 q2] 28)) := ((Below.refl _ w).alloc (Nat.le_refl _) _).alloc (by rw [hsz]; omega) _
    refine (hcat _ (w.heap.size + 1) (by simp) hc2.1 hc2.2 hbb h5).mono ?_
    rintro e w' ⟨v, rfl, hS, hb⟩
    exact ⟨v, rfl, hS, hbb.trans (hb.mono hbb.size)⟩
  have HC : Aside _ := hcall
  clear hcat hcall
  have hlen : (L1 ++ L2).length = n1 + n2 := by rw [List.length_append, N1.out, N2.out]
  have HL : Aside ((L1 ++ L2).length = n1 + n2) := hlen
  have hr : fewB L1 L2 = if (4 < n1 ∧ (n1 < 60 ∨ 62 < n1)) ∨ 8 < n2 then false else !((L1 ++ L2).any longB) := by unfold fewB; rw [N1.out, N2.out]
  rw [hr]
  clear hr hlen
  have hcon : ∀ (W : World) (v : Value), SymsAt W v (L1 ++ L2) → n1 + n2 < 1000 → Calls Tryz.prog 91 #[v, .func (.func 93) #[] #[]] W fun e w' => e = .returned (.bool ((L1 ++ L2).any longB)) ∧ Below W.heap.size W w' := fun W v hS h5 => contains_long hS (by rw [HL.out]; omega)
  generalize (L1 ++ L2).any longB = q at hcon ⊢
  have HQ : Aside _ := hcon
  clear hcon
  by_cases hA : (4 : Int) < (n1 : Int)
  · by_cases hB : (n1 : Int) < 60
    · rw [if_pos (by omega)]
      go_enter Tryz.func43, Tryz.ntmps43
      go_wp2
      go_ret
      exact ⟨rfl, (Below.refl _ w).alloc (Nat.le_refl _) _⟩
    · by_cases hC : (62 : Int) < (n1 : Int)
      · rw [if_pos (by omega)]
        go_enter Tryz.func43, Tryz.ntmps43
        go_wp2
        go_ret
        exact ⟨rfl, (Below.refl _ w).alloc (Nat.le_refl _) _⟩
      · by_cases hD : (8 : Int) < (n2 : Int)
        · rw [if_pos (by omega)]
          go_enter Tryz.func43, Tryz.ntmps43
          go_wp2
          go_ret
          exact ⟨rfl, (Below.refl _ w).alloc (Nat.le_refl _) _⟩
        · rw [if_neg (by omega)]
          go_enter Tryz.func43, Tryz.ntmps43
          go_wp2_with (first
            | (go_at_call 92; refine (HC.out (by omega)).mono ?_; rintro e w' ⟨v, rfl, hS, hBW⟩)
            | (go_at_call 91; refine (HQ.out _ _ hS.out (by omega)).mono ?_; rintro e w'' ⟨rfl, hB2⟩))
          go_ret
          exact ⟨rfl, hBW.out.trans (hB2.mono hBW.out.size)⟩
  · by_cases hD : (8 : Int) < (n2 : Int)
    · rw [if_pos (by omega)]
      go_enter Tryz.func43, Tryz.ntmps43
      go_wp2
      go_ret
      exact ⟨rfl, (Below.refl _ w).alloc (Nat.le_refl _) _⟩
    · rw [if_neg (by omega)]
      go_enter Tryz.func43, Tryz.ntmps43
      go_wp2_with (first
        | (go_at_call 92; refine (HC.out (by omega)).mono ?_; rintro e w' ⟨v, rfl, hS, hBW⟩)
        | (go_at_call 91; refine (HQ.out _ _ hS.out (by omega)).mono ?_; rintro e w'' ⟨rfl, hB2⟩))
      go_ret
      exact ⟨rfl, hBW.out.trans (hB2.mono hBW.out.size)⟩
end Go.Proofs.YtjiijgdkdlelhaaGreatDoor

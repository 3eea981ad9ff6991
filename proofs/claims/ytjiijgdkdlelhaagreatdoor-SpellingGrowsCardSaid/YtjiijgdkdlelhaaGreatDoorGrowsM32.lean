/- SpellingGrows: what the law asks of its callees. -/
import Derived.Test.YtjiijgdkdlelhaaGreatDoorGrowsM30
import Derived.Test.YtjiijgdkdlelhaaGreatDoorGrowsM31
/- SpellingGrows: what the law asks of its callees. -/
namespace Go.Proofs.YtjiijgdkdlelhaaGreatDoor
open Go Go.RowKit Go.Shelf Go.Lib Go.Sort

theorem SpsOwn.shape {w : World} {v : Value} {L : List Sp} (h : SpsOwn w v L) : ∃ p c, v = .slice p L.length c := by
  rcases h with ⟨rfl, p, c, rfl⟩ | ⟨b, c, rfl, _⟩
  · exact ⟨p, c, rfl⟩
  · exact ⟨_, c, rfl⟩
theorem SpsOwn.turn {G : Nat → Prop} {w W : World} {v : Value} {L : List Sp} (h : SpsOwn w v L) (ht : Turn G w W) (hG : ∀ b, b < w.heap.size → ¬ G b) : SpsOwn W v L := by
  rcases h with h | ⟨b, c, rfl, hc, hb, hH, hr⟩
  · exact .inl h
  · exact .inr ⟨b, c, rfl, hc, Nat.lt_of_lt_of_le hb ht.size, spC_iff.1 ((spC_iff.2 hH).turn ht hb (hG b hb)), fun s hs => (hr s hs).turn ht (fun k hk hl => ⟨hG k hl, hk⟩)⟩
theorem SpsOwn.at {w : World} {v : Value} {L : List Sp} (h : SpsOwn w v L) (hl : ∀ s ∈ L, s.cnt.length < 1000) : SpsAt w v L := by
  rcases h with ⟨rfl, p, c, rfl⟩ | ⟨b, c, rfl, hc, hb, hH, hr⟩
  · exact ⟨fun s hs => (by cases hs), .inl ⟨p, c, rfl, rfl⟩⟩
  · refine ⟨fun s hs => ⟨(hr s hs).at, hl s hs⟩, .inr ⟨b, 0, c, rfl, hb, fun j hj => ?_⟩⟩
    have := spC_iff.2 hH j hj
    rw [Nat.zero_add]
    exact ⟨this.1.1, this.2.1⟩
theorem SpsOwn.rows {w : World} {v : Value} {L : List Sp} (h : SpsOwn w v L) {s : Sp} (hs : s ∈ L) : RowAt w s.row s.cnt := by
  rcases h with ⟨rfl, _⟩ | ⟨b, c, rfl, hc, hb, hH, hr⟩
  · cases hs
  · exact (hr s hs).at
theorem delete_own {g : Nat} {lb : Array Value} {p : Sp → Bool} (eg : ∀ args w, (callFunc g args).run Tryz.prog w = .ok (.enter g args) w) {v : Value} {L : List Sp} {w : World} (h : SpsOwn w v L) (hp : ∀ b, b < w.heap.size → v.ownBlock = some b → PredS g lb p b L w) (hlen : L.length < 100000) :
    Calls Tryz.prog 14 #[v, .func (.func g) #[] lb] w fun e w' => ∃ v', e = .returned v' ∧ SpsOwn w' v' (L.filter fun x => !p x) ∧ Turn (fun k => v.ownBlock = some k) w w' := by
  by_cases hL : L = []
  · subst hL
    obtain ⟨q, c, rfl⟩ := h.shape
    clear h hp
    go_enter Tryz.func14, Tryz.ntmps14
    go_wp2_with (go_at_call 57; refine (idx_sps_nil _ q c _).mono ?_; rintro e w1 ⟨rfl, hb1⟩)
    go_ret
    exact ⟨_, rfl, .inl ⟨rfl, q, c, rfl⟩, Turn.of_below hb1⟩
  · rcases h with ⟨e, _⟩ | ⟨b, c, rfl, hc, hb, hH, hr⟩
    · exact absurd e hL
    · have hsh : ∀ s ∈ L, ∃ p n c, s.row = .slice p n c := fun s hs => by
        obtain ⟨p, c, e⟩ := (hr s hs).shape
        exact ⟨p, _, c, e⟩
      refine (delete_sps eg b L.length c L w (hp b hb rfl) hsh rfl hlen hc hb (spC_iff.2 hH)).mono ?_
      rintro e w' ⟨rfl, hC, hT⟩
      refine ⟨_, rfl, .inr ⟨b, c, rfl, Nat.le_trans (List.length_filter_le _ _) hc, Nat.lt_of_lt_of_le hb hT.size, spC_iff.1 hC, fun s hs => ?_⟩, hT.wider fun k e => by rw [e]; rfl⟩
      exact (hr s (List.mem_filter.1 hs).1).turn hT (fun k hk _ => ⟨hk, hk⟩)

theorem SpsOwn.rowsTurn {w W : World} {v : Value} {L : List Sp} {b : Nat} (h : SpsOwn w v L) (hb : v.ownBlock = some b) (ht : Turn (fun k => k = b) w W) : ∀ s ∈ L, RowAt W s.row s.cnt := fun s hs => by
  rcases h with ⟨rfl, _⟩ | ⟨b', c, rfl, hc, hb', hH, hr⟩
  · cases hs
  · obtain rfl : b' = b := Option.some.inj hb
    exact ((hr s hs).turn (S' := fun _ => True) ht (fun k hk _ => ⟨hk, trivial⟩)).at
theorem kept_mem {L : List Sp} {L1 L2 : List Sym} {rs : List Int} {k m n : Nat} (h : (L.map spKey).Perm (keepS L1 L2 rs (boxTo k m n 0))) : ∀ s ∈ L, spKey s ∈ keepS L1 L2 rs (boxTo k m n 0) := fun s hs => h.subset (List.mem_map.2 ⟨s, hs, rfl⟩)
theorem kept_len {L : List Sp} {L1 L2 : List Sym} {rs : List Int} {k m n : Nat} (h : (L.map spKey).Perm (keepS L1 L2 rs (boxTo k m n 0))) : ∀ s ∈ L, s.cnt.length = m := fun s hs => by
  obtain ⟨i, -, -, hl, -⟩ := (keepS_mem L1 L2 rs k m n _).1 (kept_mem h s hs)
  exact hl
theorem kept_count {L : List Sp} {L1 L2 : List Sym} {rs : List Int} {k m n : Nat} (h : (L.map spKey).Perm (keepS L1 L2 rs (boxTo k m n 0))) : L.length ≤ n * (2 * k + 1) ^ m := by
  have h1 := h.length_eq
  have h2 := List.length_filter_le (hitB L1 L2 rs) (boxTo k m n 0)
  rw [boxTo_length] at h2
  unfold keepS at h1
  rw [List.length_map, List.length_map] at h1
  omega

/-- The law's test at every spelling of a list. -/
theorem far_pred {k : Int} {gk b : Nat} {L : List Sp} {w : World} (hk : w.cell? ⟨gk, 0, none⟩ = some (.int .i64 k)) (hb : gk ≠ b) (hr : ∀ W, Turn (fun k => k = b) w W → ∀ s ∈ L, RowAt W s.row s.cnt)
    (hfar : ∀ (W : World) (n : Int) (pr : Option Addr) (nr cr : Nat) (zs : List Int), W.cell? ⟨gk, 0, none⟩ = some (.int .i64 k) → RowAt W (.slice pr nr cr) zs → zs.length < 1000 → Calls Tryz.prog 15 #[.agg #[.int .i64 n, .slice pr nr cr], .pointer (some ⟨gk, 0, none⟩)] W fun e w' => e = .returned (.bool (zs.any (beyondI k))) ∧ Below W.heap.size W w')
    (hl : ∀ s ∈ L, s.cnt.length < 1000) : PredS 15 #[.pointer (some ⟨gk, 0, none⟩)] (beyondS k) b L w := fun W hW s hs => by
  have hlt : gk < w.heap.size := World.block_lt_of_cell? _ _ hk
  have h1 := hr W hW s hs
  obtain ⟨p, c, e⟩ := h1.shape
  have hc := (hW.cell (p := ⟨gk, 0, none⟩) hlt hb).trans hk
  rw [e] at h1
  have := hfar W s.nom p _ c s.cnt hc h1 (hl s hs)
  rw [← e] at this
  exact this
theorem spErr_zero {n1 n2 : Nat} {i : Nat} {cs : List Int} (hi : i < n1) (hl : cs.length = n2) (hr : rowErr cs = 0) : spErr n1 n2 i cs = 0 := by
  unfold spErr
  rw [if_neg (by omega), if_neg (by omega), hr]
/-- Read at a spelling that has been kept. -/
theorem read_kept {w : World} {p1 p2 ps : Option Addr} {n1 q1 n2 q2 ns qs d k : Nat} {L1 L2 : List Sym} {rs : List Int} {s : Sp} (H : ChecksTo w p1 n1 q1 p2 n2 q2 0) (h1 : SymsAt w (.slice p1 n1 q1) L1) (h2 : SymsAt w (.slice p2 n2 q2) L2) (F : Flat L1 L2 d)
    (hc : RowAt w (.slice ps ns qs) s.cnt) (hk : k < 1000) (hn2 : n2 ≤ 64) (hs : spKey s ∈ keepS L1 L2 rs (boxTo k n2 n1 0)) (hr : rowErr rs = 0) :
    Calls Tryz.prog 18 #[.agg #[.slice p1 n1 q1, .slice p2 n2 q2], .agg #[.int .i64 s.nom, .slice ps ns qs]] w fun e w' => ∃ pv cv, e = .returned (.tuple #[.slice pv rs.length cv, .int .i64 0]) ∧ RowAt w' (.slice pv rs.length cv) rs ∧ Below w.heap.size w w' := by
  obtain ⟨i, hi, hin, hl, hb, hsum⟩ := (keepS_mem L1 L2 rs k n2 n1 _).1 hs
  have e0 : s.nom = i := hi
  have e1 : s.cnt.length = n2 := hl
  have herr : spErr n1 n2 s.nom s.cnt = 0 := by
    rw [e0]
    exact spErr_zero hin e1 (rowErr_small (by omega) fun y hy => by have := hb y hy; omega)
  have e2 : spRow L1 L2 s.nom s.cnt = rs := by
    unfold spRow
    rw [e0, Int.toNat_natCast]
    exact hsum
  have := read_calls H h1 h2 F hc herr
  rw [e2, hr] at this
  refine this.mono ?_
  rintro e w' ⟨v, rfl, hv, -, hb⟩
  have hR := hv rfl
  obtain ⟨pv, cv, rfl⟩ := hR.shape
  exact ⟨pv, cv, rfl, hR, hb⟩
end Go.Proofs.YtjiijgdkdlelhaaGreatDoor

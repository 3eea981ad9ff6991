/- IndexFunc and DeleteFunc over spellings, with whatever test. -/
import Derived.Test.YtjiijgdkdlelhaaGreatDoorGrowsM26
import Derived.Test.YtjiijgdkdlelhaaGreatDoorGrowsM29
/- IndexFunc and DeleteFunc over spellings, with whatever test. -/
namespace Go.Proofs.YtjiijgdkdlelhaaGreatDoor
open Go Go.RowKit Go.Shelf Go.Lib Go.Sort

/-- What a test of spellings gives, whatever their own block holds meanwhile. -/
def PredS (g : Nat) (lb : Array Value) (p : Sp → Bool) (b : Nat) (L : List Sp) (w : World) : Prop :=
  ∀ W : World, Turn (fun k => k = b) w W → ∀ s ∈ L, Calls Tryz.prog g (#[.agg #[.int .i64 s.nom, s.row]] ++ lb) W fun e w' => e = .returned (.bool (p s)) ∧ Below W.heap.size W w'

set_option maxHeartbeats 2000000 in
theorem idx_sps {g : Nat} {lb : Array Value} {p : Sp → Bool} (eg : ∀ args w, (callFunc g args).run Tryz.prog w = .ok (.enter g args) w) (b n c : Nat) (L : List Sp) (w : World) (hp : PredS g lb p b L w) (hsh : ∀ s ∈ L, ∃ p n c, s.row = .slice p n c) (hn : n = L.length) (hbig : n ≤ 9223372036854775807) (hb : b < w.heap.size) (hc : SpC w b L) :
    Calls Tryz.prog 57 #[.slice (some ⟨b, 0, none⟩) n c, .func (.func g) #[] lb] w fun e w' => e = .returned (.int .i64 (Lib.idxBy (fun _ y => p y) L default)) ∧ Below w.heap.size w w' := by
  have HC := aside hc
  have HP := aside hp
  have HS := aside hsh
  have HN := aside hn
  clear hc hp hsh hn
  go_enter Tryz.func57, Tryz.ntmps57
  go_wp2
  go_loopg [5, 8] n (fun gg _ s8 wr => ∃ kk : Nat, kk ≤ n ∧ n - kk ≤ gg ∧ s8 = .int .i64 kk ∧ Aside (Below w.heap.size w wr) ∧ Aside (∀ j, j < kk → p L[j]! = false))
  case atStart => exact ⟨0, Nat.zero_le _, by omega, rfl, Below.refl _ w, fun j hj => absurd hj (Nat.not_lt_zero _)⟩
  case round =>
    obtain ⟨kk, hkk, hg, rfl, BW, A⟩ := hrel
    by_cases hlt : kk < n
    · have hltz : (kk : Int) < (n : Int) := by omega
      have hkL : kk < L.length := by rw [← HN.out]; exact hlt
      have hm : L[kk]! ∈ L := by rw [getElem!_pos L kk hkL]; exact List.getElem_mem hkL
      obtain ⟨l2, l3⟩ := HC.out kk hkL
      have c2 := (BW.out.cell (p := ⟨b, kk * 2, none⟩) hb).trans l2.1
      have c3 := (BW.out.cell (p := ⟨b, kk * 2 + 1, none⟩) hb).trans l3.1
      have hcall := HP.out wr (Turn.of_below BW.out) L[kk]! hm
      obtain ⟨pr, nr, cr, hrow⟩ := HS.out _ hm
      rw [hrow] at c3 hcall
      have HKL := aside hkL
      clear l2 l3 hm hrow hkL
      generalize hy : L[kk]! = y at c2 c3 hcall
      have B : Aside (L[kk]! = y) := hy
      clear hy
      cases hq : p y with
      | true =>
        rw [hq] at hcall
        have HQ := aside hq
        clear hq
        go_wp2_with (go_at_fn g; refine hcall.mono ?_; rintro e w' ⟨rfl, hb'⟩)
        go_ret
        refine ⟨?_, BW.out.trans (hb'.mono BW.out.size)⟩
        have := Lib.idxBy_hit (fun _ y => p y) L n kk (default : Sp) hlt (by rw [HN.out]; exact Nat.le_refl _) (by show p L[kk]! = true; rw [B.out]; exact HQ.out) A.out
        rw [HN.out, List.take_length] at this
        rw [this]
        rfl
      | false =>
        rw [hq] at hcall
        have HQ := aside hq
        clear hq
        go_wp2_with (go_at_fn g; refine hcall.mono ?_; rintro e w' ⟨rfl, hb'⟩)
        go_roundg (n - (kk + 1))
        case measure => omega
        case rel =>
          refine ⟨kk + 1, by omega, by omega, by go_num, (show Aside _ from BW.out.trans (hb'.mono BW.out.size)), (show Aside _ from fun j hj => ?_)⟩
          by_cases e : j = kk
          · subst e
            rw [B.out]; exact HQ.out
          · exact A.out j (by omega)
    · have hltz : ¬ (kk : Int) < (n : Int) := by omega
      have : kk = n := by omega
      subst this
      go_wp2
      go_ret
      refine ⟨?_, BW.out⟩
      have := Lib.idxBy_miss (fun _ y => p y) L kk (default : Sp) A.out
      rw [HN.out, List.take_length] at this
      rw [this]
      rfl
theorem idx_sps_nil (f : Value) (base : Option Addr) (c : Nat) (w : World) : Calls Tryz.prog 57 #[.slice base 0 c, f] w fun e w' => e = .returned (.int .i64 (-1)) ∧ Below w.heap.size w w' := by
  go_enter Tryz.func57, Tryz.ntmps57
  go_wp2
  go_loopg [5, 8] 0 (fun gg _ s8 wr => s8 = .int .i64 0 ∧ wr = w)
  case atStart => exact ⟨rfl, rfl⟩
  case round =>
    obtain ⟨rfl, rfl⟩ := hrel
    go_wp2
    go_ret
    exact ⟨rfl, Below.refl _ _⟩
/-- What 'idxBy' gives: -1 and no hit, or the first hit's place. -/
theorem idxBy_cases (p : Sp → Bool) : ∀ (L : List Sp) (i : Nat), (Lib.idxByFrom (fun _ y => p y) (default : Sp) L i = -1 ∧ ∀ j, j < L.length → p L[j]! = false) ∨ ∃ k, k < L.length ∧ Lib.idxByFrom (fun _ y => p y) (default : Sp) L i = ((i + k : Nat) : Int) ∧ p L[k]! = true ∧ ∀ j, j < k → p L[j]! = false
  | [], _ => .inl ⟨rfl, fun j hj => absurd hj (Nat.not_lt_zero _)⟩
  | y :: r, i => by
    cases h : p y with
    | true => exact .inr ⟨0, by simp, by simp [Lib.idxByFrom, h], by simpa using h, fun j hj => absurd hj (Nat.not_lt_zero _)⟩
    | false =>
      rcases idxBy_cases p r (i + 1) with ⟨e, ha⟩ | ⟨k, hk, e, ht, ha⟩
      · refine .inl ⟨by simp [Lib.idxByFrom, h, e], fun j hj => ?_⟩
        cases j with
        | zero => simpa using h
        | succ j => simpa using ha j (by simpa using hj)
      · refine .inr ⟨k + 1, by simpa using hk, by simp only [Lib.idxByFrom, h]; rw [show (if false = true then (i : Int) else Lib.idxByFrom (fun _ y => p y) (default : Sp) r (i + 1)) = Lib.idxByFrom (fun _ y => p y) (default : Sp) r (i + 1) from rfl, e]; congr 1; omega, by simpa using ht, fun j hj => ?_⟩
        cases j with
        | zero => simpa using h
        | succ j => simpa using ha j (by omega)

set_option maxRecDepth 20000 in
set_option maxHeartbeats 4000000 in
theorem delete_sps {g : Nat} {lb : Array Value} {p : Sp → Bool} (eg : ∀ args w, (callFunc g args).run Tryz.prog w = .ok (.enter g args) w) (b n c : Nat) (L : List Sp) (w : World) (hp : PredS g lb p b L w) (hsh : ∀ s ∈ L, ∃ p n c, s.row = .slice p n c) (hn : n = L.length) (hlen : n < 100000) (hcap : n ≤ c) (hb : b < w.heap.size) (hc : SpC w b L) :
    Calls Tryz.prog 14 #[.slice (some ⟨b, 0, none⟩) n c, .func (.func g) #[] lb] w fun e w' => e = .returned (.slice (some ⟨b, 0, none⟩) (L.filter fun x => !p x).length c) ∧ SpC w' b (L.filter fun x => !p x) ∧ Turn (fun k => k = b) w w' := by
  have hI := idx_sps eg b n c L w hp hsh hn (by omega) hb hc
  have HC := aside hc
  have HP := aside hp
  have HS := aside hsh
  have HN := aside hn
  rcases idxBy_cases p L 0 with ⟨e1, hall⟩ | ⟨k0, hk0, e1, ht, hall⟩
  · have e2 : Lib.idxBy (fun _ y => p y) L (default : Sp) = -1 := e1
    rw [e2] at hI
    have e3 : (L.filter fun x => !p x) = L := by
      rw [List.filter_eq_self]
      intro a ha
      obtain ⟨j, hj, rfl⟩ := List.getElem_of_mem ha
      have := hall j hj
      rw [getElem!_pos L j hj] at this
      rw [this]; rfl
    rw [e3, ← hn]
    clear hc hp hsh hn e1 e2 e3 hall
    go_enter Tryz.func14, Tryz.ntmps14
    go_wp2_with (go_at_call 57; refine hI.mono ?_; rintro e w1 ⟨rfl, hb1⟩)
    go_ret
    have hT : Turn (fun k => k = b) w w1 := Turn.of_below hb1
    exact ⟨rfl, HC.out.turn (G := fun _ => False) (Turn.of_below hb1) hb (fun e => e), hT⟩
  · have e2 : Lib.idxBy (fun _ y => p y) L (default : Sp) = (k0 : Int) := by unfold Lib.idxBy; rw [e1]; simp
    rw [e2] at hI
    have K0 := aside (KeptL.start hk0 hall ht)
    have hk0n : k0 < n := by omega
    have hne1 : ((k0 : Int) == -1) = false := beq_eq_false_iff_ne.2 (by omega)
    clear hc hp hsh hn e1 e2 hall ht hk0
    go_enter Tryz.func14, Tryz.ntmps14
    go_wp2_with (go_at_call 57; refine hI.mono ?_; rintro e w1 ⟨rfl, hb1⟩)
    go_loopg [5, 6, 7] n (fun gg s5 s6 _ wr => ∃ (i j : Nat) (D : List Sp), s5 = .int .i64 i ∧ s6 = .int .i64 j ∧ i < n ∧ j ≤ n ∧ n - j ≤ gg ∧ Aside (Turn (fun k => k = b) w wr) ∧ Aside (SpC wr b D) ∧ Aside (KeptL p L j i D))
    case atStart => exact ⟨k0, k0 + 1, L, rfl, by go_num, hk0n, by omega, by omega, (show Aside _ from Turn.of_below hb1), (show Aside _ from HC.out.turn (G := fun _ => False) (Turn.of_below hb1) hb (fun e => e)), K0⟩
    case round =>
      obtain ⟨i, j, D, rfl, rfl, hin, hjn, hgg, TW, CW, KW⟩ := hrel
      have hbr : b < wr.heap.size := Nat.lt_of_lt_of_le hb TW.out.size
      have HBR := aside hbr
      by_cases hlt : j < n
      · have hltz : (j : Int) < (n : Int) := by omega
        have hjL : j < L.length := by rw [← HN.out]; exact hlt
        have hm : L[j]! ∈ L := by rw [getElem!_pos L j hjL]; exact List.getElem_mem hjL
        have hDl := KW.out.len
        have hDj := CW.out j (by rw [hDl]; exact hjL)
        have hDi := CW.out i (by rw [hDl, ← HN.out]; exact hin)
        have eDj := KW.out.at hjL
        rw [eDj] at hDj
        obtain ⟨pr, nr, cr, hrow⟩ := HS.out _ hm
        have c2 := hDj.1.1
        have c3 := hDj.2.1
        rw [hrow] at c3
        have bal := below_alloc wr (.cells #[.int .i64 L[j]!.nom, .slice pr nr cr] 42)
        have BAL := aside bal
        have TA : Aside (Turn (fun k => k = b) w (wr.alloc (.cells #[.int .i64 L[j]!.nom, .slice pr nr cr] 42))) := TW.out.trans (Turn.of_below bal)
        have hcall := HP.out _ TA.out L[j]! hm
        rw [hrow] at hcall
        have HKJ := aside (fun (h : p L[j]! = false) => KW.out.keep hjL h)
        have HSJ := aside (fun (h : p L[j]! = true) => KW.out.skip hjL h)
        have HSET := aside (fun (W : World) (h : Below wr.heap.size wr W) => (CW.out.turn (G := fun _ => False) (Turn.of_below h) HBR.out (fun e => e)).set (s := L[j]!) (i := i) (by rw [KW.out.len, ← HN.out]; exact hin))
        have HCW := aside (fun (W : World) (h : Below wr.heap.size wr W) => (CW.out.turn (G := fun _ => False) (Turn.of_below h) HBR.out (fun e => e)))
        have e2 := hDi.1.1
        have f2 := hDi.1.2
        have e3 := hDi.2.1
        have f3 := hDi.2.2
        rw [hrow] at HSET
        clear hDj hDi eDj hm hjL hDl bal hbr hrow
        generalize D[i]!.row = oldr at e3
        generalize D[i]!.nom = oldn at e2
        generalize L[j]!.nom = nm at c2 hcall BAL TA HSET
        cases hq : p L[j]! with
        | false =>
          rw [hq] at hcall
          have HK2 := aside (HKJ.out hq)
          clear hq HKJ HSJ
          go_wp2_with (go_at_fn g; refine hcall.mono ?_; rintro e w2 ⟨rfl, hb2⟩; have hbW := below_then BAL.out hb2; have xx := new_two (g := wr.heap.size) _ _ _ rfl hb2; have x0 := xx.1; have x1 := xx.2.1; have y0 := (hbW.cell (p := ⟨b, i * 2, none⟩) HBR.out).trans e2; have y1 := (hbW.cell (p := ⟨b, i * 2 + 1, none⟩) HBR.out).trans e3; have z0 := (hbW.frozen (p := ⟨b, i * 2, none⟩) HBR.out).trans f2; have z1 := (hbW.frozen (p := ⟨b, i * 2 + 1, none⟩) HBR.out).trans f3; have S2 := aside (HSET.out _ hbW); have T2 := aside (TA.out.trans (Turn.of_below hb2)); clear xx hbW)
          go_roundg (n - (j + 1))
          case measure => omega
          case rel =>
            have hL1 := HK2.out.lt
            have hL2 := HK2.out.le
            refine ⟨i + 1, j + 1, _, by go_num, by go_num, by rw [HN.out]; omega, by omega, by omega, (show Aside _ from ?_), S2, HK2⟩
            exact (T2.out.trans (Turn.set (G := fun k => k = b) (p := ⟨b, i * 2, none⟩) _ rfl)).trans (Turn.set (G := fun k => k = b) (p := ⟨b, i * 2 + 1, none⟩) _ rfl)
        | true =>
          rw [hq] at hcall
          have HK2 := aside (HSJ.out hq)
          clear hq HKJ HSJ
          go_wp2_with (go_at_fn g; refine hcall.mono ?_; rintro e w2 ⟨rfl, hb2⟩; have S2 := aside (HCW.out _ (below_then BAL.out hb2)); have T2 := aside (TA.out.trans (Turn.of_below hb2)))
          go_roundg (n - (j + 1))
          case measure => omega
          case rel => exact ⟨i, j + 1, _, rfl, by go_num, by omega, by omega, by omega, T2, S2, HK2⟩
      · have hltz : ¬ (j : Int) < (n : Int) := by omega
        obtain rfl : j = n := by omega
        have hlD := KW.out.len
        have hf : ∀ t, t < (j - i) * 2 → (wr.cell? ⟨b, i * 2 + t, none⟩).isSome = true ∧ wr.frozen? ⟨b, i * 2 + t, none⟩ = false := fun t ht => by
          have h4 : t % 2 = 0 ∨ t % 2 = 1 := by omega
          have hq := CW.out (i + t / 2) (by rw [hlD, ← HN.out]; omega)
          rcases h4 with h4 | h4
          · rw [show i * 2 + t = (i + t / 2) * 2 by omega, hq.1.1]
            exact ⟨rfl, hq.1.2⟩
          · rw [show i * 2 + t = (i + t / 2) * 2 + 1 by omega, hq.2.1]
            exact ⟨rfl, hq.2.2⟩
        obtain ⟨vs, hvs⟩ := run_clear_sps wr 0 b (i * 2) (j - i) (c - i) (by omega) (fun t ht => (hf t ht).1) (fun t ht => (hf t ht).2)
        clear hbr hf hlD
        go_wp2
        go_ret
        have hi : i ≤ D.length := by rw [KW.out.len, ← HN.out]; omega
        have e9 : D.take i = L.filter fun x => !p x := by
          have := KW.out
          rw [HN.out] at this
          exact this.end
        rw [← e9]
        refine ⟨by rw [List.length_take, Nat.min_eq_left hi]; rfl, CW.out.clear hi, TW.out.trans (Turn.setCells (G := fun k => k = b) rfl _ _ _)⟩
end Go.Proofs.YtjiijgdkdlelhaaGreatDoor

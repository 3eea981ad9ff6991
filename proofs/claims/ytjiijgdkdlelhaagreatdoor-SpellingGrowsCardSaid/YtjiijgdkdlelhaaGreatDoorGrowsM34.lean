/- SpellingGrows: the law over every plan, row and bound that can be read. -/
import Derived.Test.YtjiijgdkdlelhaaGreatDoorGrowsM15
import Derived.Test.YtjiijgdkdlelhaaGreatDoorGrowsM20
import Derived.Test.YtjiijgdkdlelhaaGreatDoorGrowsM33
/- SpellingGrows: the law over every plan, row and bound that can be read. -/
namespace Go.Proofs.YtjiijgdkdlelhaaGreatDoor
open Go.ChangeShapes Go.WideShapes Go.ChangeAt Go.RowKit Go.Shelf Go.Lib

theorem okWide_array {P : Program} {w : World} {r : Reach} {base n : Nat} {t e : TypeId} {v : Value} (ht : P.underlying t = some (.array n e)) (h : Value.okWide P w r base t v) : ∃ cs, v = .agg cs ∧ cs.size = P.cellsOf t := by
  simp only [Value.okWide, ht] at h
  obtain ⟨cs, h1, h2, _⟩ := h
  exact ⟨cs, h1, h2⟩
theorem mod_nat {x : Int} (h : 0 ≤ x) (m : Nat) (hm : 0 < m) : ∃ t : Nat, x.tmod (m : Int) = (t : Int) ∧ t < m := by
  refine ⟨x.toNat % m, ?_, Nat.mod_lt _ hm⟩
  obtain ⟨n, rfl⟩ : ∃ n : Nat, x = n := ⟨x.toNat, by omega⟩
  rw [Int.toNat_natCast]
  rfl
/-- The cells of a plan, written out. -/
theorem plan_eq {cs : Array Value} {two : Bool} {pn pa : Int} {R : Nat → Nat → Int} (hs : cs.size = 17) (h0 : cs.toList[0]? = some (.bool two)) (h1 : cs.toList[1]? = some (.int .u8 pn)) (h2 : cs.toList[2]? = some (.int .u8 pa)) (hR : ∀ i j, i < 7 → j < 2 → cs.toList[3 + i * 2 + j]? = some (.int .i8 (R i j))) :
    cs = #[.bool two, .int .u8 pn, .int .u8 pa, .int .i8 (R 0 0), .int .i8 (R 0 1), .int .i8 (R 1 0), .int .i8 (R 1 1), .int .i8 (R 2 0), .int .i8 (R 2 1), .int .i8 (R 3 0), .int .i8 (R 3 1), .int .i8 (R 4 0), .int .i8 (R 4 1), .int .i8 (R 5 0), .int .i8 (R 5 1), .int .i8 (R 6 0), .int .i8 (R 6 1)] := by
  obtain ⟨l⟩ := cs
  have hl : l.length = 17 := hs
  congr 1
  apply List.ext_getElem?
  intro t
  by_cases ht : t < 17
  · have : t = 0 ∨ t = 1 ∨ t = 2 ∨ ∃ i j, i < 7 ∧ j < 2 ∧ t = 3 + i * 2 + j := by
      by_cases h3 : 3 ≤ t
      · exact .inr (.inr (.inr ⟨(t - 3) / 2, (t - 3) % 2, by omega, by omega, by omega⟩))
      · omega
    rcases this with rfl | rfl | rfl | ⟨i, j, hi, hj, rfl⟩
    · exact h0
    · exact h1
    · exact h2
    · refine (hR i j hi hj).trans ?_
      have h1 : i = 0 ∨ i = 1 ∨ i = 2 ∨ i = 3 ∨ i = 4 ∨ i = 5 ∨ i = 6 := by omega
      have h2 : j = 0 ∨ j = 1 := by omega
      rcases h1 with rfl | rfl | rfl | rfl | rfl | rfl | rfl <;> rcases h2 with rfl | rfl <;> rfl
  · rw [List.getElem?_eq_none (by omega), List.getElem?_eq_none (by show 17 ≤ t; omega)]

set_option maxRecDepth 100000 in
theorem spellingGrows_lifted (os : Os) (started : os.Started) (H : Type) (enc : TypeId × Value → H) :
    ReturnsInHanded {} Tryz.checked os 3 .any (fun w args => (Rows.spellingGrowsSpec.pre enc Tryz.prog Tryz.f3 Rows.spellingGrowsRow.domain false w args ∧ laidMetH Tryz.prog Rows.spellingGrowsRow.laid w) ∧ sizedMet enc Tryz.prog Tryz.f3 (OpenSpec.ofChange Rows.spellingGrowsSpec) false w args)
      (Rows.spellingGrowsSpec.post enc Tryz.prog Tryz.f3 false true false false) := by
  refine returnsInHanded_of_change_and (C := Tryz.checked) (X := fun w _ => laidMetH Tryz.prog Rows.spellingGrowsRow.laid w) (fun _ _ _ hh h => h.of_heap hh) own started (by kernel_rfl) Tryz.func3
    (ChangeSpec.witness_shaped (enc := enc) (C := Tryz.checked) (os := os) (X := fun w _ => laidMetH Tryz.prog Rows.spellingGrowsRow.laid w) false (World.laidAll Tryz.prog os Rows.spellingGrowsRow.laid)
      #[.agg #[.bool false, .int .u8 0, .int .u8 0, .int .i8 0, .int .i8 0, .int .i8 0, .int .i8 0, .int .i8 0, .int .i8 0, .int .i8 0, .int .i8 0, .int .i8 0, .int .i8 0, .int .i8 0, .int .i8 0, .int .i8 0, .int .i8 0], .agg #[.int .i8 0, .int .i8 0], .int .u8 0] 8 (World.laidAll_os _ _ _)
      (World.shaped_of_ZipB (by kernel_rfl) (by kernel_rfl)) (by kernel_rfl) (by kernel_rfl) (by kernel_rfl)
      (by rw [MakeChecks.laidMetH_plain _ _ _ (by kernel_rfl)]; exact laidMet_laidAll _ (by kernel_rfl) (by kernel_rfl))) ?_
  intro W base args ds gs before hval0 hW hc _ hL _
  have hval : ∀ (j : Nat) t v, Tryz.f3.params[j]? = some t → args[j]? = some v → Value.okWide Tryz.prog W .any base t v := hval0
  have hW' := hW
  obtain ⟨p, q, hA0, hV, rfl, _, _⟩ := hW
  have hA : DataW.TrodAll enc Tryz.prog W 0 (fun _ => true) true Tryz.f3.params.toList args.toList ds p := hA0
  rw [Tryz.params3] at hA hval
  obtain ⟨v0, v1, v2, d0, d1, d2, z0, z1, z2, rfl, rfl, rfl, h0, h1, h2⟩ := trodAll_three hA
  obtain ⟨rfl, rfl⟩ := trodVars_none hV
  obtain ⟨cs, rfl, hcs⟩ := okWide_struct Tryz.underlying26 (hval 0 26 v0 rfl rfl)
  obtain ⟨c1, rfl, hc1⟩ := okWide_array Tryz.underlying23 (hval 1 23 v1 rfl rfl)
  obtain ⟨mo, rfl⟩ := okWide_int Tryz.underlying5 (hval 2 5 v2 rfl rfl)
  rw [Tryz.cells26] at hcs
  rw [Tryz.cells23] at hc1
  obtain ⟨f0, g0⟩ := id h0
  obtain ⟨f1, g1⟩ := id h1
  obtain ⟨f2, g2⟩ := id h2
  obtain ⟨two, pn, pa, R, r0, r1, r2, hpn, hpa, hR⟩ := plan_of_trod g0
  obtain ⟨r, hr⟩ := pair_of_trod g1
  obtain ⟨mo', emo, -, hmo⟩ := DataW.trod_int Tryz.underlying5 g2
  have hmo2 : 0 ≤ mo ∧ mo ≤ 255 := by
    have e : Value.int IntKind.u8 mo = .int .u8 mo' := List.cons.inj emo |>.1
    cases e
    exact bounds_u8 hmo
  obtain rfl := plan_eq hcs r0 r1 r2 (fun i j hi hj => (hR i j hi hj).1)
  obtain rfl : c1 = #[.int .i8 (r 0), .int .i8 (r 1)] := by
    obtain ⟨l⟩ := c1
    obtain ⟨a, b, rfl⟩ := len_two (l := l) hc1
    have e0 : some a = some (Value.int .i8 (r 0)) := (hr 0 (by omega)).1
    have e1 : some b = some (Value.int .i8 (r 1)) := (hr 1 (by omega)).1
    cases e0; cases e1; rfl
  obtain ⟨tn, htn, htn4⟩ := mod_nat hpn.1 4 (by omega)
  obtain ⟨ta, hta, hta4⟩ := mod_nat hpa.1 4 (by omega)
  obtain ⟨k, hk, hk3⟩ := mod_nat hmo2.1 3 (by omega)
  simp only [List.append_nil] at hW'
  refine (grows_calls (spellingGrows_globs hL) (fun i j hi hj => (hR i j hi hj).2) htn htn4 hta hta4 (hr 0 (by omega)).2 (hr 1 (by omega)).2 hmo2 hk hk3).mono fun e W' ⟨he, hB⟩ => ?_
  subst he
  have e1 : Rows.spellingGrowsSpec.fn H ([d0, d1, d2] ++ []) = { results := [.lit (.bool true)], args := [d0, d1, d2] } := rfl
  refine ⟨_, rfl, [d0, d1, d2], [], z0 ++ z1 ++ z2, [], z0 ++ z1 ++ z2, [], hW', ?_, ?_, ?_, hB.frame _, fun h => by cases h⟩
  · rw [e1]; exact trodAll_mk1 (shut_bool Tryz.underlying4 true)
  · rw [e1, List.append_assoc]
    have hlt := hW'.lt
    exact trodAll_mk3 (Below.trod Tryz.laidOut (by kernel_rfl) (of_decide_eq_true (by kernel_rfl)) h0 hB (fun x hx => hlt x (by simp [hx]))) (Below.trod Tryz.laidOut (by kernel_rfl) (of_decide_eq_true (by kernel_rfl)) h1 hB (fun x hx => hlt x (by simp [hx]))) (Below.trod Tryz.laidOut (by kernel_rfl) (of_decide_eq_true (by kernel_rfl)) h2 hB (fun x hx => hlt x (by simp [hx])))
  · rw [e1]; rfl
end Go.Proofs.YtjiijgdkdlelhaaGreatDoor

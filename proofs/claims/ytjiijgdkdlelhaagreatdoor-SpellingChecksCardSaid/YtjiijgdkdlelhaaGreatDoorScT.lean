/- SpellingChecks: the law over every notation that can be read. -/
import Derived.Test.YtjiijgdkdlelhaaGreatDoorScS
namespace Go.Proofs.YtjiijgdkdlelhaaGreatDoor
open Go.ChangeShapes Go.WideShapes Go.ChangeAt Go.RowKit Go.Shelf Go.Lib

theorem own : ownKnob Tryz.prog.godebug = none := by kernel_rfl
theorem Tryz.laidOut : laidOutB Tryz.prog = true := by kernel_rfl
set_option maxRecDepth 100000 in
theorem checks_lifted (os : Os) (started : os.Started) (H : Type) (enc : TypeId × Value → H) :
    ReturnsInHanded {} Tryz.checked os 8 .any (fun w args => (Rows.spellingChecksSpec.pre enc Tryz.prog Tryz.f8 Rows.spellingChecksRow.domain false w args ∧ laidMetH Tryz.prog Rows.spellingChecksRow.laid w) ∧ sizedMet enc Tryz.prog Tryz.f8 (OpenSpec.ofChange Rows.spellingChecksSpec) false w args)
      (Rows.spellingChecksSpec.post enc Tryz.prog Tryz.f8 false true false false) := by
  refine returnsInHanded_of_change_and (C := Tryz.checked) (X := fun w _ => laidMetH Tryz.prog Rows.spellingChecksRow.laid w) (fun _ _ _ hh h => h.of_heap hh) own started (by kernel_rfl) Tryz.func8
    (ChangeSpec.witness_shaped (enc := enc) (C := Tryz.checked) (os := os) (X := fun w _ => laidMetH Tryz.prog Rows.spellingChecksRow.laid w) false (World.laidAll Tryz.prog os Rows.spellingChecksRow.laid) #[.agg #[.slice none 0 0, .slice none 0 0]] 8 (World.laidAll_os _ _ _)
      (World.shaped_of_ZipB (by kernel_rfl) (by kernel_rfl)) (by kernel_rfl) (by kernel_rfl) (by kernel_rfl)
      (by rw [MakeChecks.laidMetH_plain _ _ _ (by kernel_rfl)]; exact laidMet_laidAll _ (by kernel_rfl) (by kernel_rfl))) ?_
  intro W base args ds gs before hval0 hW hc _ hL _
  have hval : ∀ (j : Nat) t v, Tryz.f8.params[j]? = some t → args[j]? = some v → Value.okWide Tryz.prog W .any base t v := hval0
  have hW' := hW
  obtain ⟨p, q, hA0, hV, rfl, _, _⟩ := hW
  have hA : DataW.TrodAll enc Tryz.prog W 0 (fun _ => true) true Tryz.f8.params.toList args.toList ds p := hA0
  rw [Tryz.params8] at hA hval
  obtain ⟨v0, d0, rfl, rfl, h0⟩ := trodAll_one hA
  obtain ⟨rfl, rfl⟩ := trodVars_none hV
  obtain ⟨cs, rfl, hcs⟩ := okWide_struct Tryz.underlying30 (hval 0 30 v0 rfl rfl)
  obtain ⟨fuel, hf⟩ := id h0
  obtain ⟨v1, v2, L1, L2, hcells, hN⟩ := note_of_trod hf
  have hcells' : cs = #[v1, v2] := by
    apply Array.ext'
    exact hcells
  subst hcells'
  obtain ⟨p1, q1, p2, q2, rfl, rfl⟩ := hN.shape
  simp only [List.append_nil] at hW'
  refine (law_calls (globs_of_laid hL) hN).mono fun e W' ⟨he, hB⟩ => ?_
  subst he
  have e1 : Rows.spellingChecksSpec.fn H ([d0] ++ []) = { results := [.lit (.bool true)], args := [d0] } := rfl
  refine ⟨_, rfl, [d0], [], p, [], p, [], hW', ?_, ?_, ?_, hB.frame _, fun h => by cases h⟩
  · rw [e1]; exact trodAll_mk1 (shut_bool Tryz.underlying4 true)
  · rw [e1]; exact trodAll_mk1 (Below.trod Tryz.laidOut (by kernel_rfl) (of_decide_eq_true (by kernel_rfl)) h0 hB (fun x hx => hW'.lt x hx))
  · rw [e1]; rfl

end Go.Proofs.YtjiijgdkdlelhaaGreatDoor

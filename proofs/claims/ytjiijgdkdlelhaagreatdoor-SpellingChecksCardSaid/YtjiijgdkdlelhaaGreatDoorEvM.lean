/- The evaluator Ev: functions, code. -/
import Derived.Test.YtjiijgdkdlelhaaGreatDoorEvL
namespace Go.Ev
open Go.RowKit Go.Lib

section
variable {P : Program} {A : Tab} {B : Nat} {w₀ : World} {i : Im} {h h' : Hp} {w : World} {rec : Rec}

/-! ### Functions -/
theorem load_var (T : TabOk P A) (s : SR B w₀ i h w) {t : TypeId} {p p' v : Value} (e : h.loadV A t p = some v) (hp : VR i p p') :
    ∃ v', (do loadVar t (← asAddr p') : Sem Value).run P w = .ok v' w ∧ VR i v v' := by
  have hptr : ∃ a, p = .pointer (some a) := by
    unfold Hp.loadV at e
    split at e
    · exact ⟨_, rfl⟩
    · cases e
  obtain ⟨a, rfl⟩ := hptr
  obtain ⟨j, v', w', h1, h2, h3, h4⟩ := load_VS (P := P) T s e hp
  obtain ⟨b, o, cb, off, own, rfl, hi, rfl⟩ := hp.inv_ptr
  -- the load turns nothing
  unfold Hp.loadV at e
  dsimp only at e
  split at e
  case h_2 => cases e
  rename_i ti d hty
  obtain ⟨hinfo, hund, _⟩ := T.ty _ _ _ hty
  split at e
  case h_2 => cases e
  rename_i cs ro hg
  obtain ⟨vs, l1, l2, _⟩ := s.im hg hi
  split at e
  · rename_i hagg
    split at e
    · rename_i hle
      have hle := of_ble hle
      cases e
      have hlen : ((vs.drop o).take ti.size).length = ti.size := by have := l1.1; simp; omega
      refine ⟨_, ?_, VR.agg' ((l1.drop o).take ti.size)⟩
      have hl := run_loadCells' (P := P) (rangeAt_sub l2 o ti.size)
      rw [hlen] at hl
      simp [asAddr, loadVar, run_isAgg' w hund, hagg, run_sizeOf' w hinfo, hl]
    · cases e
  · rename_i hagg
    rw [nthL_eq] at e
    obtain ⟨u, hu, hvr⟩ := l1.some e
    refine ⟨u, ?_, hvr⟩
    have hc := l2 _ u hu
    simp [asAddr, loadVar, run_isAgg' w hund, hagg, hc]

theorem results_list (T : TabOk P A) (s : SR B w₀ i h w) {env : List Value} {tmps : Array Value} (he : LR i env tmps.toList) : ∀ (rs : List ResultVar) (vs : List Value), resV h A env rs = some vs →
    ∃ vs', (rs.mapM (fun (x : ResultVar) => (match x with
      | .tmp t => pure (tmps.getD t undef)
      | .cell a t => do loadVar t (← asAddr (tmps.getD a undef)) : Sem Value))).run P w = .ok vs' w ∧ LR i vs vs' := by
  intro rs
  induction rs with
  | nil => intro vs e; cases e; exact ⟨[], by simp, LR.nil i⟩
  | cons r rs ih =>
    intro vs e
    cases r with
    | tmp t =>
      simp only [resV] at e
      split at e
      case h_2 => cases e
      rename_i us hus
      cases e
      obtain ⟨vs', h1, h2⟩ := ih us hus
      refine ⟨tmps.getD t undef :: vs', ?_, h2.cons (he.getL t)⟩
      simp only [List.mapM_cons, Sem.run_bind, Sem.run_pure, Result.andThen_ok, h1]
    | cell a t =>
      simp only [resV] at e
      split at e
      case h_2 => cases e
      rename_i u us hu hus
      cases e
      obtain ⟨vs', h1, h2⟩ := ih us hus
      obtain ⟨u', h3, h4⟩ := load_var (P := P) T s hu (he.getL a)
      refine ⟨u' :: vs', ?_, h2.cons h4⟩
      rw [List.mapM_cons, Sem.run_bind]
      show ((do loadVar t (← asAddr (tmps.getD a undef)) : Sem Value).run P w).andThen _ = _
      rw [h3]
      simp only [Sem.run_bind, Sem.run_pure, Result.andThen_ok, h1]

theorem results_VS (T : TabOk P A) (s : SR B w₀ i h w) {env : List Value} {tmps : Array Value} (he : LR i env tmps.toList) {F : Func} {vs : List Value} (e : resV h A env F.results.toList = some vs) :
    ∃ v', (results F tmps).run P w = .ok v' w ∧ VR i (packV vs) v' := by
  obtain ⟨vs', h1, h2⟩ := results_list (P := P) T s he _ _ e
  have h3 : (F.results.mapM (fun (x : ResultVar) => (match x with
      | .tmp t => pure (tmps.getD t undef)
      | .cell a t => do loadVar t (← asAddr (tmps.getD a undef)) : Sem Value))).run P w = .ok vs'.toArray w := by
    rw [Array.mapM_eq_mapM_toList, Sem.run_map, h1]; rfl
  have h4 : (results F tmps).run P w = .ok (if h : vs'.toArray.size = 1 then vs'.toArray[0] else .tuple vs'.toArray) w := by
    unfold results
    rw [Sem.run_bind]
    refine Eq.trans (congrArg (fun r => Result.andThen r _) h3) ?_
    rfl
  refine ⟨_, h4, ?_⟩
  have hlen := h2.1
  unfold packV
  split
  · rename_i v
    obtain ⟨v', _, rfl, hv, ht⟩ := h2.uncons
    rw [ht.unnil]
    exact hv
  · rename_i hne
    have : ¬ vs'.toArray.size = 1 := by
      intro h
      rw [List.size_toArray, ← hlen] at h
      obtain ⟨v, hv⟩ := List.length_eq_one_iff.1 h
      exact hne v hv
    rw [dif_neg this]
    exact VR.tuple' h2

theorem kill_leaves {F : Func} {tmps : Array Value} {R : Ending → World → Prop} : ∀ (ds : List Nat) (xs : List Deferred) (h h' : Hp) (w : World), DR i ds xs → SR B w₀ i h w → killAll ds h = some h' →
    (∀ w', SR B w₀ i h' w' → ∃ v, (results F tmps).run P w' = .ok v w' ∧ R (.returned v) w') → LeavesInM Fence.wide 0 P F tmps R xs .returning w := by
  intro ds
  induction ds with
  | nil =>
    intro xs h h' w d s e hR
    cases xs with
    | cons x xs => exact d.elim
    | nil => cases e; exact hR w s
  | cons d ds ih =>
    intro xs h h' w hd s e hR
    cases xs with
    | nil => exact hd.elim
    | cons x xs =>
      obtain ⟨⟨c, o, n, hi, rfl⟩, hd⟩ := hd
      simp only [killAll] at e
      split at e
      case h_2 => cases e
      rename_i hg
      obtain ⟨h1, h2, h3⟩ := s.im hg hi
      have h1' : w.heap[c]? = some (.deferred (some [])) := h1
      refine ⟨by simp, .inl ⟨c, { w with heap := w.heap.setIfInBounds c (.deferred none) }, rfl, by simp [Instr.takeDeferred, getObj, setObj, Sem.run, h1'], ?_⟩⟩
      refine ih xs _ _ _ hd ?_ e hR
      exact s.obj hg hi rfl (fun _ _ e => by cases e) h1 (fun _ _ _ e => by cases e) trivial

theorem fn_step (T : TabOk P A) (RC : CodeOk P B w₀ rec) {rd : Option Nat} {g : FuncId} {f : FuncId} {args : List Value} {v : Value} (he : stFn f args A rec rd g h = some (.val v h')) {args' : List Value} (hG : GI i) (s : SR B w₀ i h w) (hl : LR i args args') :
    (callFunc f args'.toArray).run P w = .ok (.enter f args'.toArray) w ∧
    ∀ R : Ending → World → Prop, (∀ j v' w', i.le j → VR j v v' → SR B w₀ j h' w' → R (.returned v') w') → CallsIn Fence.wide 0 P f args'.toArray w R := by
  replace he : fnGo f args A rec h = some (.val v h') := he
  unfold fnGo at he
  split at he
  case h_2 => cases he
  rename_i F hF
  obtain ⟨hf, hname⟩ := T.fn _ _ hF
  unfold fnBody at he
  split at he
  case h_2 => cases he
  rename_i c hb
  refine ⟨?_, fun R hR => ?_⟩
  · have hne : ¬ F.name = "runtime.NumGoroutine" := by simpa using hname
    simp [callFunc, hf, hne, hb]
  · refine callsIn_of_wp_marks hf hb trivial ?_
    have hlr : LR i (args ++ List.replicate (F.ntmps - args.length) undef) (args'.toArray ++ Array.replicate (F.ntmps - args'.toArray.size) undef).toList := by
      have := hl.1
      simp only [Array.toList_append, Array.toList_replicate, List.size_toArray, ← this]
      exact hl.append (LR.replicate (VR.undef i) _)
    have key : ∀ (e : Ex) (env : List Value) (ds : List Nat) (h1 : Hp), rec none f (.code c (args ++ List.replicate (F.ntmps - args.length) undef) []) h = some (.out e env ds h1) → (e = .normal ∨ e = .ret) → fnVal A F.results.toList env ds h1 = some (.val v h') →
        c.wpIn Fence.wide 0 P (bodyPostM Fence.wide 0 P F R) { tmps := args'.toArray ++ Array.replicate (F.ntmps - args'.toArray.size) undef, defers := [] } w := by
      intro e env ds h1 hrun hex hval
      unfold fnVal at hval
      split at hval
      case h_2 => cases hval
      rename_i h2 hkill
      unfold retV at hval
      split at hval
      case h_2 => cases hval
      rename_i vs hres
      cases hval
      refine RC _ _ _ _ _ _ _ _ _ _ hrun i w { tmps := args'.toArray ++ Array.replicate (F.ntmps - args'.toArray.size) undef, defers := [] } none ⟨hG, s, hlr, trivial⟩ (.inl ⟨rfl, rfl⟩) _ (fun j a' w' hij st => ?_)
      have hleave : LeavesInM Fence.wide 0 P F a'.tmps R a'.defers .returning w' := by
        refine kill_leaves ds a'.defers h1 h' w' st.d st.s hkill (fun w2 s2 => ?_)
        obtain ⟨v', r1, r2⟩ := results_VS (P := P) T s2 st.e hres
        exact ⟨v', r1, hR j v' w2 hij r2 s2⟩
      rcases hex with rfl | rfl
      · exact hleave
      · exact hleave
    unfold fnOut at he
    split at he
    · rename_i env ds h1 hrun
      exact key _ _ _ _ hrun (.inl rfl) he
    · rename_i env ds h1 hrun
      exact key _ _ _ _ hrun (.inr rfl) he
    · cases he
end
end Go.Ev

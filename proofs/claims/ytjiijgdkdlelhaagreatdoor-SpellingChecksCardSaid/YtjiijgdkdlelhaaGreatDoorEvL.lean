/- The evaluator Ev: code, functions, rounds: one step of the evaluator's. -/
import Derived.Test.YtjiijgdkdlelhaaGreatDoorEvK
namespace Go.Ev
open Go.RowKit Go.Lib

section
variable {P : Program} {A : Tab} {B : Nat} {w₀ : World} {i : Im} {h h' : Hp} {w : World} {rec : Rec}

theorem LR.getL {i : Im} {env : List Value} {tmps : Array Value} (he : LR i env tmps.toList) (t : Nat) : VR i (getL env t) (tmps.getD t undef) := by
  rw [getL_eq]
  have := he.get t
  simpa [Array.getD_eq_getD_getElem?, List.getD_eq_getElem?_getD] using this

theorem ST.put {i j : Im} {env : List Value} {ds : List Nat} {a : Act} (st : ST B w₀ i h w env ds a) {h1 : Hp} {w1 : World} {v v' : Value} (hij : i.le j) (hv : VR j v v') (s1 : SR B w₀ j h1 w1) (d : Option Tmp) :
    ST B w₀ j h1 w1 (putD env d v) ds (a.put d v') where
  g := st.g.mono hij
  s := s1
  e := by
    cases d with
    | none => exact st.e.mono hij
    | some t =>
      show LR j (setL v env t) (a.tmps.setIfInBounds t v').toList
      rw [setL_eq, Array.toList_setIfInBounds]
      exact (st.e.mono hij).set hv t
  d := by cases d <;> exact st.d.mono hij

theorem ST.hop {i : Im} {env : List Value} {ds : List Nat} {a : Act} (st : ST B w₀ i h w env ds a) : ∀ x u, opnd env x = some u → VR i u (a.eval x) := fun _ _ e => opnd_VR st.g st.e e

theorem ops_inv {all rest : List Oper} {o : Oper} {env : List Value} {ds : List Nat} {rd : Option Nat} {fn : FuncId} {r : Res} (e : stOps all (o :: rest) env ds A rec rd fn h = some r) :
    (wantedV all env o.guard = true ∧ ∃ v h1, Did A rec o env h v h1 ∧ rec rd fn (.ops all rest (putD env o.dst v) ds) h1 = some r) ∨ (wantedV all env o.guard = false ∧ rec rd fn (.ops all rest (putD env o.dst undef) ds) h = some r) := by
  replace e : opOne all rest o env ds A rec rd fn h = some r := e
  unfold opOne at e
  split at e
  · rename_i hw
    refine .inl ⟨hw, ?_⟩
    unfold opDo at e
    split at e
    · rename_i f args hc
      unfold opBack at e
      split at e
      · rename_i v h1 hv
        exact ⟨v, h1, .inl ⟨f, args, hc, hv⟩, e⟩
      · cases e
    · rename_i hc
      unfold opAfter at e
      split at e
      · rename_i v h1 hv
        exact ⟨v, h1, .inr ⟨hc, hv⟩, e⟩
      · cases e
  · rename_i hw
    exact .inr ⟨hw, e⟩

theorem ops_step (T : TabOk P A) (RF : FnOk P B w₀ rec) (RR : RoundOk P B w₀ rec) (RO : OpsOk P B w₀ rec) {rd : Option Nat} {g : FuncId} {all rest : List Oper} {env : List Value} {ds : List Nat} {e : Ex} {env' : List Value} {ds' : List Nat}
    (he : stOps all rest env ds A rec rd g h = some (.out e env' ds' h')) {a : Act} {rc : Option Nat} {k : Nat} (st : ST B w₀ i h w env ds a) (hrd : RD i rd rc) (hk : rest = all.drop k)
    (Q : Exit → Act → World → Prop) (hQ : ∀ j a' w', i.le j → ST B w₀ j h' w' env' ds' a' → Q (exOf e) a' w') : wpOpsIn (fen rc) 0 P all.toArray Q (List.range' k rest.length) a w := by
  cases rest with
  | nil =>
    cases he
    exact hQ i a w (Im.le_refl i) st
  | cons o rest =>
    have hlt : k < all.length := by
      rcases Nat.lt_or_ge k all.length with h | h
      · exact h
      · rw [List.drop_eq_nil_of_le h] at hk; cases hk
    have hdrop := List.drop_eq_getElem_cons hlt
    rw [← hk] at hdrop
    injection hdrop with ho hrest
    have hok : all.toArray[k]? = some o := by simp [hlt, ho]
    simp only [List.length_cons, List.range'_succ, wpOpsIn, hok]
    have hw := wanted_eq (all := all) o (fun j want d _ _ => st.e.getL d)
    rw [hw]
    rcases ops_inv he with ⟨hwt, v, h1, hd, hr⟩ | ⟨hwt, hr⟩
    · rw [hwt]
      simp only [if_true]
      refine oper_wpIn T RF RR hd st.g st.s (fun x u _ e => st.hop x u e) rc (fun j v' w' hij hv hs => ?_)
      exact RO _ _ _ _ _ _ _ _ _ _ _ hr j w' _ rc (k + 1) (st.put hij hv hs o.dst) (hrd.mono hij) hrest Q (fun j' a' w' hjj st' => hQ j' a' w' (Im.le_trans hij hjj) st')
    · rw [hwt]
      simp only [Bool.false_eq_true, if_false]
      refine ⟨fun _ _ => trivial, ?_⟩
      exact RO _ _ _ _ _ _ _ _ _ _ _ hr i w _ rc (k + 1) (st.put (Im.le_refl i) (VR.undef i) st.s o.dst) hrd hrest Q hQ

/-- The record of a loop over a function, turned. -/
theorem loop_turn (s : SR B w₀ i h w) {l : Nat} {c o n : Nat} {r : ALoop} (hg : h.get l = some (.loop r)) (hc : i l = some (c, o, n)) :
    ∃ rc : Loop, (Instr.getLoop c).run P w = .ok rc w ∧ w.heap[c]? = some (.loop rc) ∧ rc.state = r.state ∧ rc.pending = r.pending ∧ LR i r.env rc.tmps.toList ∧ rc.params.toList = r.params ∧ rc.assign = r.assign ∧ rc.body = r.body ∧
      (∃ o n, i r.defers = some (rc.defers, o, n)) ∧
      (∀ rc', (setObj c (.loop rc')).run P w = .ok () { w with heap := w.heap.setIfInBounds c (.loop rc') }) ∧
      ∀ st pd, SR B w₀ i (h.upd l (.loop { r with state := st, pending := pd })) { w with heap := w.heap.setIfInBounds c (.loop { rc with state := st, pending := pd }) } := by
  obtain ⟨rc, h1, h2, h3, h4, h5, h6, h7, h8, h9, h10⟩ := s.im hg hc
  have h1' : w.heap[c]? = some (.loop rc) := h1
  refine ⟨rc, by simp [Instr.getLoop, getObj, Sem.run, h1'], h1, h2, h3, h4, h5, h6, h7, h8, fun rc' => by simp [setObj, Sem.run, h1'], fun st pd => ?_⟩
  refine s.obj hg hc rfl (fun _ _ e => by cases e) h1 (fun _ _ _ e => by cases e) ⟨{ rc with state := st, pending := pd }, ?_, rfl, rfl, h4, h5, h6, h7, h8, h9, h10⟩
  have hlt := s.lt _ _ _ hg hc
  show (w.heap.setIfInBounds c _)[c]? = _
  rw [Array.getElem?_setIfInBounds_self_of_lt hlt]

theorem bindPs_VS : ∀ (ps : List Tmp) (args args' : List Value) (env : List Value) (tmps : Array Value), LR i args args' → LR i env tmps.toList → args.length = ps.length →
    LR i (bindPs env (ps.zip args)) ((ps.zip args').foldl (fun tmps (x : Tmp × Value) => tmps.setIfInBounds x.1 x.2) tmps).toList := by
  intro ps
  induction ps with
  | nil => intro args args' env tmps _ he _; exact he
  | cons p ps ih =>
    intro args args' env tmps hl he hlen
    cases args with
    | nil => simp at hlen
    | cons x xs =>
      obtain ⟨x', xs', rfl, hx, ht⟩ := hl.uncons
      simp only [List.zip_cons_cons, List.foldl_cons]
      show LR i (bindPs (setL x env p) (ps.zip xs)) _
      refine ih xs xs' _ _ ht ?_ (by simpa using hlen)
      rw [setL_eq, Array.toList_setIfInBounds]
      exact he.set hx p

theorem yield_run {c : Nat} {rc : Loop} (hg : (Instr.getLoop c).run P w = .ok rc w) (args : List Value) (hlen : args.length = rc.params.size) :
    (Instr.yield c args.toArray).run P w = .ok (.round c rc.fn ((rc.params.toList.zip args).foldl (fun tmps (x : Tmp × Value) => tmps.setIfInBounds x.1 x.2) rc.tmps) rc.assign rc.body) w := by
  have h1 : ¬ (args.toArray.size ≠ rc.params.size) := by simp [hlen]
  simp only [Instr.yield, Sem.run_bind, hg, Result.andThen_ok, h1, if_false, Sem.run_pure]
  have hz : rc.params.zip args.toArray = (rc.params.toList.zip args).toArray := by apply Array.ext'; simp
  rw [hz]
  simp

theorem round_step (RC : CodeOk P B w₀ rec) {rd : Option Nat} {g : FuncId} {l : Nat} {args : List Value} {v : Value} (he : stRound l args A rec rd g h = some (.val v h')) {args' : List Value} {c o n : Nat} (hG : GI i) (s : SR B w₀ i h w) (hl : LR i args args') (hc : i l = some (c, o, n)) :
    ∃ f tmps assign body, (Instr.yield c args'.toArray).run P w = .ok (.round c f tmps assign body) w ∧
      ∀ R : Ending → World → Prop, (∀ j v' w', i.le j → VR j v v' → SR B w₀ j h' w' → R (.returned v') w') → RoundIn Fence.wide 0 P c f tmps assign body w R := by
  unfold stRound at he
  split at he
  case h_2 => cases he
  rename_i r hg
  obtain ⟨rc, g1, g2, g3, g4, g5, g6, g7, g8, g9, g11, g10⟩ := loop_turn (P := P) s hg hc
  unfold rdGo at he
  split at he
  case h_2 => cases he
  rename_i hlen
  have hlen := of_beq hlen
  have hplen : rc.params.size = r.params.length := by rw [← g6]; simp
  refine ⟨_, _, _, _, yield_run g1 args' (by have := hl.1; omega), fun R hR => ?_⟩
  unfold rdBody at he
  split at he
  case h_2 => cases he
  rename_i env1 h1 hass
  split at he
  case h_2 => cases he
  rename_i r1 hg1
  split at he
  case h_2 => cases he
  rename_i hready
  refine roundIn_of_wpIn trivial ?_
  rw [g7, g8, g6]
  have hrd : RD i (some l) (some c) := .inr ⟨l, c, o, n, rfl, rfl, hc⟩
  refine RC _ _ _ _ _ _ _ _ _ _ hass i w { tmps := _, defers := [] } (some c) ⟨hG, s, bindPs_VS r.params args args' r.env rc.tmps hl g5 hlen, (trivial : DR i [] [])⟩ hrd _ (fun j a' w' hij st' => ?_)
  obtain ⟨rc1, k1, k2, k3, k4, k5, k6, k7, k8, k9, k11, k10⟩ := loop_turn (P := P) st'.s hg1 (hij _ _ hc)
  refine ⟨{ w' with heap := w'.heap.setIfInBounds c (.loop { rc1 with state := .busy }) }, ?_, ?_⟩
  · simp only [Instr.beginRound, Sem.run_bind, k1, k11, Result.andThen_ok]
    rw [k3, hready]
    rfl
  · have hs2 := k10 .busy r1.pending
    rw [← k4] at hs2
    have hbusy : ({ rc1 with state := .busy, pending := rc1.pending } : Loop) = { rc1 with state := .busy } := rfl
    rw [hbusy] at hs2
    unfold rdOut at he
    split at he
    case h_2 => cases he
    rename_i e env2 h2 hbody
    split at he
    case h_2 => cases he
    rename_i r2 hg2
    have hs2' : SR B w₀ j (h1.upd l (.loop { r1 with state := .busy })) { w' with heap := w'.heap.setIfInBounds c (.loop { rc1 with state := .busy }) } := by
      have : ({ r1 with state := .busy, pending := rc1.pending } : ALoop) = { r1 with state := .busy } := by rw [k4]
      rw [this] at hs2
      exact hs2
    refine RC _ _ _ _ _ _ _ _ _ _ hbody j _ a' (some c) ⟨st'.g, hs2', st'.e, st'.d⟩ (hrd.mono hij) _ (fun j2 a2 w2 hij2 st2 => ?_)
    obtain ⟨rc2, m1, m2, m3, m4, m5, m6, m7, m8, m9, m11, m10⟩ := loop_turn (P := P) st2.s hg2 (hij2 _ _ (hij _ _ hc))
    cases e with
    | normal =>
      cases he
      refine ⟨.bool true, { w2 with heap := w2.heap.setIfInBounds c (.loop { rc2 with state := .ready, pending := none }) }, ?_, hR j2 _ _ (Im.le_trans hij hij2) (.scal rfl) (m10 .ready none)⟩
      simp only [Instr.endRound, Sem.run_bind, m1, m11, Result.andThen_ok]
      rfl
    | ret =>
      cases he
      refine ⟨.bool false, { w2 with heap := w2.heap.setIfInBounds c (.loop { rc2 with state := .done, pending := some .ret }) }, ?_, hR j2 _ _ (Im.le_trans hij hij2) (.scal rfl) (m10 .done (some .ret))⟩
      simp only [Instr.endRound, Sem.run_bind, m1, m11, Result.andThen_ok]
      rfl
    | exit id =>
      cases he
      refine ⟨.bool false, { w2 with heap := w2.heap.setIfInBounds c (.loop { rc2 with state := .done, pending := some (.exit id) }) }, ?_, hR j2 _ _ (Im.le_trans hij hij2) (.scal rfl) (m10 .done (some (.exit id)))⟩
      simp only [Instr.endRound, Sem.run_bind, m1, m11, Result.andThen_ok]
      rfl
end
end Go.Ev

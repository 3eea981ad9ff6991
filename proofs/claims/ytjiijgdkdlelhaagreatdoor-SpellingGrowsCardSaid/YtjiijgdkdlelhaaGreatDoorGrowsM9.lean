/- The evaluator Ev: a region that draws its order, in every order; the evaluator is sound. -/
import Derived.Test.YtjiijgdkdlelhaaGreatDoorGrowsM8
import Derived.LoopNIn
import Derived.RangeFuncCalls
import Derived.RangeFuncLeaves
import Derived.OrdersIn
/- The evaluator Ev: what its tasks say of the machine; operations with calls. -/
namespace Go.Ev
open Go.RowKit Go.Lib

/-- The fence of an activation, or of a round. -/
def fen (rc : Option Nat) : Fence := { Fence.wide with round := rc }

/-- The marks of the loops over functions. -/
def DR (i : Im) : List Nat → List Deferred → Prop
  | [], [] => True
  | d :: ds, x :: xs => (∃ c o n, i d = some (c, o, n) ∧ x = { target := .collected c, args := #[] }) ∧ DR i ds xs
  | _, _ => False
theorem DR.mono {i j : Im} (h : i.le j) : ∀ {ds : List Nat} {xs : List Deferred}, DR i ds xs → DR j ds xs := by
  intro ds
  induction ds with
  | nil => intro xs d; cases xs with
    | nil => trivial
    | cons x xs => exact d.elim
  | cons y ys ih =>
    intro xs d
    cases xs with
    | nil => exact d.elim
    | cons x xs =>
      obtain ⟨⟨c, o, n, h1, h2⟩, h3⟩ := d
      exact ⟨⟨c, o, n, h _ _ h1, h2⟩, ih h3⟩

/-- In which round's frame. -/
def RD (i : Im) (rd rc : Option Nat) : Prop := (rd = none ∧ rc = none) ∨ ∃ l c o n, rd = some l ∧ rc = some c ∧ i l = some (c, o, n)
theorem RD.mono {i j : Im} (h : i.le j) {rd rc : Option Nat} (r : RD i rd rc) : RD j rd rc := by
  rcases r with r | ⟨l, c, o, n, h1, h2, h3⟩
  · exact .inl r
  · exact .inr ⟨l, c, o, n, h1, h2, h _ _ h3⟩

structure ST (B : Nat) (w₀ : World) (i : Im) (h : Hp) (w : World) (env : List Value) (ds : List Nat) (a : Act) : Prop where
  g : GI i
  s : SR B w₀ i h w
  e : LR i env a.tmps.toList
  d : DR i ds a.defers

def exOf : Ex → Exit
  | .normal => .normal
  | .exit id => .exit id
  | .ret => .ret

section
variable (P : Program) (A : Tab) (B : Nat) (w₀ : World)

def FnOk (rec : Rec) : Prop := ∀ rd g f args h v h', rec rd g (.fn f args) h = some (.val v h') → ∀ i w args', GI i → SR B w₀ i h w → LR i args args' →
  (callFunc f args'.toArray).run P w = .ok (.enter f args'.toArray) w ∧
  ∀ R : Ending → World → Prop, (∀ j v' w', i.le j → VR j v v' → SR B w₀ j h' w' → R (.returned v') w') → CallsIn Fence.wide 0 P f args'.toArray w R

def RoundOk (rec : Rec) : Prop := ∀ rd g l args h v h', rec rd g (.round l args) h = some (.val v h') → ∀ i w args' c o n, GI i → SR B w₀ i h w → LR i args args' → i l = some (c, o, n) →
  ∃ f tmps assign body, (Instr.yield c args'.toArray).run P w = .ok (.round c f tmps assign body) w ∧
  ∀ R : Ending → World → Prop, (∀ j v' w', i.le j → VR j v v' → SR B w₀ j h' w' → R (.returned v') w') → RoundIn Fence.wide 0 P c f tmps assign body w R

def CodeOk (rec : Rec) : Prop := ∀ rd g c env ds h e env' ds' h', rec rd g (.code c env ds) h = some (.out e env' ds' h') → ∀ i w a rc, ST B w₀ i h w env ds a → RD i rd rc →
  ∀ Q : Exit → Act → World → Prop, (∀ j a' w', i.le j → ST B w₀ j h' w' env' ds' a' → Q (exOf e) a' w') → c.wpIn (fen rc) 0 P Q a w

def LoopOk (rec : Rec) : Prop := ∀ rd g c env ds h e env' ds' h', rec rd g (.code (.loop c) env ds) h = some (.out e env' ds' h') → ∃ m, ∀ i w a rc, ST B w₀ i h w env ds a → RD i rd rc →
  ∀ Q : Exit → Act → World → Prop, (∀ j a' w', i.le j → ST B w₀ j h' w' env' ds' a' → Q (exOf e) a' w') → Code.roundsIn (fen rc) 0 P c Q m a w

def OpsOk (rec : Rec) : Prop := ∀ rd g all rest env ds h e env' ds' h', rec rd g (.ops all rest env ds) h = some (.out e env' ds' h') → ∀ i w a rc k, ST B w₀ i h w env ds a → RD i rd rc → rest = all.drop k →
  ∀ Q : Exit → Act → World → Prop, (∀ j a' w', i.le j → ST B w₀ j h' w' env' ds' a' → Q (exOf e) a' w') → wpOpsIn (fen rc) 0 P all.toArray Q (List.range' k rest.length) a w

/-- An operation is carried out. -/
def Did (rec : Rec) (o : Oper) (env : List Value) (h : Hp) (v : Value) (h' : Hp) : Prop :=
  (∃ f args, calleeOf o.op = some (f, args) ∧ callV rec h (opnd env f) (opnds env args) = some (.val v h')) ∨ (calleeOf o.op = none ∧ pureOp o.op A env h = some (v, h'))
end

section
variable {P : Program} {A : Tab} {B : Nat} {w₀ : World} {i : Im} {h h' : Hp} {w : World} {v : Value} {rec : Rec}

theorem calleeOf_some {op : Op} {f : Operand} {args : List Operand} (h : calleeOf op = some (f, args)) : ∃ c, op = .call c ∧ c.callee = .value f ∧ c.args.toList = args := by
  cases op with
  | call c =>
    unfold calleeOf at h
    dsimp only at h
    split at h
    · rename_i g hg
      cases h
      exact ⟨c, rfl, hg, rfl⟩
    · cases h
  | _ => cases h

theorem oper_wpIn (T : TabOk P A) (RF : FnOk P B w₀ rec) (RR : RoundOk P B w₀ rec) {o : Oper} {env : List Value} (hd : Did A rec o env h v h') (g : GI i) (s : SR B w₀ i h w) {a : Act}
    (hop : ∀ x u, x ∈ o.op.operands.toList → opnd env x = some u → VR i u (a.eval x)) (rc : Option Nat) {K : Act → World → Prop} {Q : Exit → Act → World → Prop}
    (hK : ∀ j v' w', i.le j → VR j v v' → SR B w₀ j h' w' → K (a.put o.dst v') w') : o.wpIn (fen rc) 0 P a w K Q := by
  refine ⟨fun _ _ => trivial, ?_⟩
  rcases hd with ⟨f, args, hc, hv⟩ | ⟨hc, hp⟩
  · obtain ⟨c, hO, hcal, rfl⟩ := calleeOf_some hc
    have hsem : o.semAt (fen rc).round a.eval = execOp a.eval o := Oper.semAt_eq _ _ _ (fun c' e => by rw [hO] at e; cases e)
    rw [hsem]
    cases hf : opnd env f with
    | none => rw [hf] at hv; cases hv
    | some fv =>
      cases hvs : opnds env c.args.toList with
      | none => rw [hf, hvs] at hv; cases fv <;> cases hv
      | some vs =>
        rw [hf, hvs] at hv
        have hfv := hop f fv (by rw [hO]; simp [Op.operands, Call.operands, hcal]) hf
        have hl := opnds_VR (i := i) (ρ := a.eval) _ _ (fun x u hx => hop x u (by rw [hO]; simp [Op.operands, Call.operands, hcal]; exact .inr (by simpa using hx))) hvs
        cases fv with
        | func fn first cap =>
          obtain ⟨fn', p', q', hev, hfr, hpp, hqq⟩ := hfv.inv_func
          have hres : (resolve a.eval c o.type).run P w = .ok { target := .fn fn' q', args := p' ++ c.args.map a.eval } w := by
            unfold resolve
            simp only [hcal]
            rw [hev]
            rfl
          have hex : (execOp a.eval o).run P w = (invoke (.fn fn' q') (p' ++ c.args.map a.eval)).run P w := by
            unfold execOp
            rw [hO]
            show (do let d ← resolve a.eval c o.type; invoke d.target d.args : Sem Next).run P w = _
            rw [Sem.run_bind, hres]
            rfl
          rw [hex]
          cases fn with
          | func k =>
            cases hfr
            replace hv : rec none k (.fn k (first.toList ++ vs ++ cap.toList)) h = some (.val v h') := hv
            obtain ⟨h1, h2⟩ := RF _ _ _ _ _ _ _ hv i w (p'.toList ++ c.args.toList.map a.eval ++ q'.toList) g s ((hpp.append hl).append hqq)
            have ha : (p'.toList ++ c.args.toList.map a.eval ++ q'.toList).toArray = p' ++ c.args.map a.eval ++ q' := by apply Array.ext'; simp
            rw [ha] at h1 h2
            show o.uponIn (fen rc) 0 P a K Q ((callFunc k (p' ++ c.args.map a.eval ++ q')).run P w)
            rw [h1, Oper.uponIn_enter]
            refine ⟨fun h => Bool.noConfusion (show false = true from h), ?_⟩
            exact h2 _ (fun j v' w' hij hv' hs' => hK j v' w' hij hv' hs')
          | yield l =>
            cases hfr with
            | yield hil =>
              replace hv : rec none 0 (.round l (first.toList ++ vs)) h = some (.val v h') := hv
              obtain ⟨f', tmps, assign, body, h1, h2⟩ := RR _ _ _ _ _ _ _ hv i w (p'.toList ++ c.args.toList.map a.eval) _ _ _ g s (hpp.append hl) hil
              have ha : (p'.toList ++ c.args.toList.map a.eval).toArray = p' ++ c.args.map a.eval := by apply Array.ext'; simp
              rw [ha] at h1
              show o.uponIn (fen rc) 0 P a K Q ((Instr.yield _ (p' ++ c.args.map a.eval)).run P w)
              rw [h1, Oper.uponIn_round]
              refine ⟨fun h => Bool.noConfusion (show false = true from h), ?_⟩
              exact h2 _ (fun j v' w' hij hv' hs' => hK j v' w' hij hv' hs')
          | _ => cases hv
        | _ => cases hv
  · have hsem : o.semAt (fen rc).round a.eval = execOp a.eval o := Oper.semAt_eq _ _ _ (fun c' e => by rw [e] at hp; cases hp)
    rw [hsem]
    obtain ⟨j, v', w', nx, h1, h2, h3, h4, h5⟩ := pureOp_sound T s o hop hp
    rw [h1]
    rcases h2 with rfl | ⟨rfl, rfl, rfl⟩
    · exact hK j v' w' h3 h4 h5
    · exact hK j undef w' h3 h4 h5

theorem VR.bool_iff {v v' : Value} (h : VR i v v') (b : Bool) : isB b v = isB b v' := by
  cases h with
  | scal e => cases v <;> rfl
  | _ => rfl

theorem wanted_eq {all : List Oper} {env : List Value} {a : Act} (o : Oper) (hd : ∀ j want d, o.guard = some (j, want) → dstOf (nthL all j) = some d → VR i (getL env d) (a.tmps.getD d undef)) :
    Region.wanted o (yielded all.toArray a.tmps) = wantedV all env o.guard := by
  unfold Region.wanted wantedV
  cases hg : o.guard with
  | none => rfl
  | some jw =>
    obtain ⟨j, want⟩ := jw
    dsimp only
    unfold yielded
    have hj : all.toArray[j]? = nthL all j := by rw [nthL_eq]; simp
    rw [hj]
    cases hn : nthL all j with
    | none => simp [dstOf]
    | some oj =>
      cases hdst : oj.dst with
      | none => simp [dstOf, hdst]
      | some d =>
        have hv := hd j want d hg (by rw [hn]; exact hdst)
        simp only [Option.bind_some, hdst, dstOf]
        rw [hv.bool_iff]
        by_cases hlt : d < a.tmps.size
        · have hgd : a.tmps.getD d undef = a.tmps[d] := by simp [Array.getD, hlt]
          rw [hgd, Array.getElem?_eq_getElem hlt]
          cases a.tmps[d] <;> rfl
        · have hgd : a.tmps.getD d undef = undef := by simp [Array.getD, hlt]
          rw [hgd, Array.getElem?_eq_none (Nat.le_of_not_lt hlt)]
          rfl
end
end Go.Ev

/- The evaluator Ev: code, functions, rounds: one step of the evaluator's. -/
namespace Go.Ev
open Go.RowKit Go.Lib

section
variable {P : Program} {A : Tab} {B : Nat} {w₀ : World} {i : Im} {h h' : Hp} {w : World} {rec : Rec}

theorem LR.getL {i : Im} {env : List Value} {tmps : Array Value} (he : LR i env tmps.toList) (t : Nat) : VR i (getL env t) (tmps.getD t undef) := by
  rw [getL_eq]
  have := he.get t
  simpa [Array.getD_eq_getD_getElem?, List.getD_eq_getElem?_getD] using this

theorem ST.put {i j : Im} {env : List Value} {ds : List Nat} {a : Act} (st : ST B w₀ i h w env ds a) {h1 : Hp} {w1 : World} {v v' : Value} (hij : i.le j) (hv : VR j v v') (s1 : SR B w₀ j h1 w1) (d : Option Tmp) :
    ST B w₀ j h1 w1 (putD env d v) ds (a.put d v') where
  g := st.g.mono hij
  s := s1
  e := by
    cases d with
    | none => exact st.e.mono hij
    | some t =>
      show LR j (setL v env t) (a.tmps.setIfInBounds t v').toList
      rw [setL_eq, Array.toList_setIfInBounds]
      exact (st.e.mono hij).set hv t
  d := by cases d <;> exact st.d.mono hij

theorem ST.hop {i : Im} {env : List Value} {ds : List Nat} {a : Act} (st : ST B w₀ i h w env ds a) : ∀ x u, opnd env x = some u → VR i u (a.eval x) := fun _ _ e => opnd_VR st.g st.e e

theorem ops_inv {all rest : List Oper} {o : Oper} {env : List Value} {ds : List Nat} {rd : Option Nat} {fn : FuncId} {r : Res} (e : stOps all (o :: rest) env ds A rec rd fn h = some r) :
    (wantedV all env o.guard = true ∧ ∃ v h1, Did A rec o env h v h1 ∧ rec rd fn (.ops all rest (putD env o.dst v) ds) h1 = some r) ∨ (wantedV all env o.guard = false ∧ rec rd fn (.ops all rest (putD env o.dst undef) ds) h = some r) := by
  replace e : opOne all rest o env ds A rec rd fn h = some r := e
  unfold opOne at e
  split at e
  · rename_i hw
    refine .inl ⟨hw, ?_⟩
    unfold opDo at e
    split at e
    · rename_i f args hc
      unfold opBack at e
      split at e
      · rename_i v h1 hv
        exact ⟨v, h1, .inl ⟨f, args, hc, hv⟩, e⟩
      · cases e
    · rename_i hc
      unfold opAfter at e
      split at e
      · rename_i v h1 hv
        exact ⟨v, h1, .inr ⟨hc, hv⟩, e⟩
      · cases e
  · rename_i hw
    exact .inr ⟨hw, e⟩

theorem ops_step (T : TabOk P A) (RF : FnOk P B w₀ rec) (RR : RoundOk P B w₀ rec) (RO : OpsOk P B w₀ rec) {rd : Option Nat} {g : FuncId} {all rest : List Oper} {env : List Value} {ds : List Nat} {e : Ex} {env' : List Value} {ds' : List Nat}
    (he : stOps all rest env ds A rec rd g h = some (.out e env' ds' h')) {a : Act} {rc : Option Nat} {k : Nat} (st : ST B w₀ i h w env ds a) (hrd : RD i rd rc) (hk : rest = all.drop k)
    (Q : Exit → Act → World → Prop) (hQ : ∀ j a' w', i.le j → ST B w₀ j h' w' env' ds' a' → Q (exOf e) a' w') : wpOpsIn (fen rc) 0 P all.toArray Q (List.range' k rest.length) a w := by
  cases rest with
  | nil =>
    cases he
    exact hQ i a w (Im.le_refl i) st
  | cons o rest =>
    have hlt : k < all.length := by
      rcases Nat.lt_or_ge k all.length with h | h
      · exact h
      · rw [List.drop_eq_nil_of_le h] at hk; cases hk
    have hdrop := List.drop_eq_getElem_cons hlt
    rw [← hk] at hdrop
    injection hdrop with ho hrest
    have hok : all.toArray[k]? = some o := by simp [hlt, ho]
    simp only [List.length_cons, List.range'_succ, wpOpsIn, hok]
    have hw := wanted_eq (all := all) o (fun j want d _ _ => st.e.getL d)
    rw [hw]
    rcases ops_inv he with ⟨hwt, v, h1, hd, hr⟩ | ⟨hwt, hr⟩
    · rw [hwt]
      simp only [if_true]
      refine oper_wpIn T RF RR hd st.g st.s (fun x u _ e => st.hop x u e) rc (fun j v' w' hij hv hs => ?_)
      exact RO _ _ _ _ _ _ _ _ _ _ _ hr j w' _ rc (k + 1) (st.put hij hv hs o.dst) (hrd.mono hij) hrest Q (fun j' a' w' hjj st' => hQ j' a' w' (Im.le_trans hij hjj) st')
    · rw [hwt]
      simp only [Bool.false_eq_true, if_false]
      refine ⟨fun _ _ => trivial, ?_⟩
      exact RO _ _ _ _ _ _ _ _ _ _ _ hr i w _ rc (k + 1) (st.put (Im.le_refl i) (VR.undef i) st.s o.dst) hrd hrest Q hQ

/-- The record of a loop over a function, turned. -/
theorem loop_turn (s : SR B w₀ i h w) {l : Nat} {c o n : Nat} {r : ALoop} (hg : h.get l = some (.loop r)) (hc : i l = some (c, o, n)) :
    ∃ rc : Loop, (Instr.getLoop c).run P w = .ok rc w ∧ w.heap[c]? = some (.loop rc) ∧ rc.state = r.state ∧ rc.pending = r.pending ∧ LR i r.env rc.tmps.toList ∧ rc.params.toList = r.params ∧ rc.assign = r.assign ∧ rc.body = r.body ∧
      (∃ o n, i r.defers = some (rc.defers, o, n)) ∧
      (∀ rc', (setObj c (.loop rc')).run P w = .ok () { w with heap := w.heap.setIfInBounds c (.loop rc') }) ∧
      ∀ st pd, SR B w₀ i (h.upd l (.loop { r with state := st, pending := pd })) { w with heap := w.heap.setIfInBounds c (.loop { rc with state := st, pending := pd }) } := by
  obtain ⟨rc, h1, h2, h3, h4, h5, h6, h7, h8, h9, h10⟩ := s.im hg hc
  have h1' : w.heap[c]? = some (.loop rc) := h1
  refine ⟨rc, by simp [Instr.getLoop, getObj, Sem.run, h1'], h1, h2, h3, h4, h5, h6, h7, h8, fun rc' => by simp [setObj, Sem.run, h1'], fun st pd => ?_⟩
  refine s.obj hg hc rfl (fun _ _ e => by cases e) h1 (fun _ _ _ e => by cases e) ⟨{ rc with state := st, pending := pd }, ?_, rfl, rfl, h4, h5, h6, h7, h8, h9, h10⟩
  have hlt := s.lt _ _ _ hg hc
  show (w.heap.setIfInBounds c _)[c]? = _
  rw [Array.getElem?_setIfInBounds_self_of_lt hlt]

theorem bindPs_VS : ∀ (ps : List Tmp) (args args' : List Value) (env : List Value) (tmps : Array Value), LR i args args' → LR i env tmps.toList → args.length = ps.length →
    LR i (bindPs env (ps.zip args)) ((ps.zip args').foldl (fun tmps (x : Tmp × Value) => tmps.setIfInBounds x.1 x.2) tmps).toList := by
  intro ps
  induction ps with
  | nil => intro args args' env tmps _ he _; exact he
  | cons p ps ih =>
    intro args args' env tmps hl he hlen
    cases args with
    | nil => simp at hlen
    | cons x xs =>
      obtain ⟨x', xs', rfl, hx, ht⟩ := hl.uncons
      simp only [List.zip_cons_cons, List.foldl_cons]
      show LR i (bindPs (setL x env p) (ps.zip xs)) _
      refine ih xs xs' _ _ ht ?_ (by simpa using hlen)
      rw [setL_eq, Array.toList_setIfInBounds]
      exact he.set hx p

theorem yield_run {c : Nat} {rc : Loop} (hg : (Instr.getLoop c).run P w = .ok rc w) (args : List Value) (hlen : args.length = rc.params.size) :
    (Instr.yield c args.toArray).run P w = .ok (.round c rc.fn ((rc.params.toList.zip args).foldl (fun tmps (x : Tmp × Value) => tmps.setIfInBounds x.1 x.2) rc.tmps) rc.assign rc.body) w := by
  have h1 : ¬ (args.toArray.size ≠ rc.params.size) := by simp [hlen]
  simp only [Instr.yield, Sem.run_bind, hg, Result.andThen_ok, h1, if_false, Sem.run_pure]
  have hz : rc.params.zip args.toArray = (rc.params.toList.zip args).toArray := by apply Array.ext'; simp
  rw [hz]
  simp

theorem round_step (RC : CodeOk P B w₀ rec) {rd : Option Nat} {g : FuncId} {l : Nat} {args : List Value} {v : Value} (he : stRound l args A rec rd g h = some (.val v h')) {args' : List Value} {c o n : Nat} (hG : GI i) (s : SR B w₀ i h w) (hl : LR i args args') (hc : i l = some (c, o, n)) :
    ∃ f tmps assign body, (Instr.yield c args'.toArray).run P w = .ok (.round c f tmps assign body) w ∧
      ∀ R : Ending → World → Prop, (∀ j v' w', i.le j → VR j v v' → SR B w₀ j h' w' → R (.returned v') w') → RoundIn Fence.wide 0 P c f tmps assign body w R := by
  unfold stRound at he
  split at he
  case h_2 => cases he
  rename_i r hg
  obtain ⟨rc, g1, g2, g3, g4, g5, g6, g7, g8, g9, g11, g10⟩ := loop_turn (P := P) s hg hc
  unfold rdGo at he
  split at he
  case h_2 => cases he
  rename_i hlen
  have hlen := of_beq hlen
  have hplen : rc.params.size = r.params.length := by rw [← g6]; simp
  refine ⟨_, _, _, _, yield_run g1 args' (by have := hl.1; omega), fun R hR => ?_⟩
  unfold rdBody at he
  split at he
  case h_2 => cases he
  rename_i env1 h1 hass
  split at he
  case h_2 => cases he
  rename_i r1 hg1
  split at he
  case h_2 => cases he
  rename_i hready
  refine roundIn_of_wpIn trivial ?_
  rw [g7, g8, g6]
  have hrd : RD i (some l) (some c) := .inr ⟨l, c, o, n, rfl, rfl, hc⟩
  refine RC _ _ _ _ _ _ _ _ _ _ hass i w { tmps := _, defers := [] } (some c) ⟨hG, s, bindPs_VS r.params args args' r.env rc.tmps hl g5 hlen, (trivial : DR i [] [])⟩ hrd _ (fun j a' w' hij st' => ?_)
  obtain ⟨rc1, k1, k2, k3, k4, k5, k6, k7, k8, k9, k11, k10⟩ := loop_turn (P := P) st'.s hg1 (hij _ _ hc)
  refine ⟨{ w' with heap := w'.heap.setIfInBounds c (.loop { rc1 with state := .busy }) }, ?_, ?_⟩
  · simp only [Instr.beginRound, Sem.run_bind, k1, k11, Result.andThen_ok]
    rw [k3, hready]
    rfl
  · have hs2 := k10 .busy r1.pending
    rw [← k4] at hs2
    have hbusy : ({ rc1 with state := .busy, pending := rc1.pending } : Loop) = { rc1 with state := .busy } := rfl
    rw [hbusy] at hs2
    unfold rdOut at he
    split at he
    case h_2 => cases he
    rename_i e env2 h2 hbody
    split at he
    case h_2 => cases he
    rename_i r2 hg2
    have hs2' : SR B w₀ j (h1.upd l (.loop { r1 with state := .busy })) { w' with heap := w'.heap.setIfInBounds c (.loop { rc1 with state := .busy }) } := by
      have : ({ r1 with state := .busy, pending := rc1.pending } : ALoop) = { r1 with state := .busy } := by rw [k4]
      rw [this] at hs2
      exact hs2
    refine RC _ _ _ _ _ _ _ _ _ _ hbody j _ a' (some c) ⟨st'.g, hs2', st'.e, st'.d⟩ (hrd.mono hij) _ (fun j2 a2 w2 hij2 st2 => ?_)
    obtain ⟨rc2, m1, m2, m3, m4, m5, m6, m7, m8, m9, m11, m10⟩ := loop_turn (P := P) st2.s hg2 (hij2 _ _ (hij _ _ hc))
    cases e with
    | normal =>
      cases he
      refine ⟨.bool true, { w2 with heap := w2.heap.setIfInBounds c (.loop { rc2 with state := .ready, pending := none }) }, ?_, hR j2 _ _ (Im.le_trans hij hij2) (.scal rfl) (m10 .ready none)⟩
      simp only [Instr.endRound, Sem.run_bind, m1, m11, Result.andThen_ok]
      rfl
    | ret =>
      cases he
      refine ⟨.bool false, { w2 with heap := w2.heap.setIfInBounds c (.loop { rc2 with state := .done, pending := some .ret }) }, ?_, hR j2 _ _ (Im.le_trans hij hij2) (.scal rfl) (m10 .done (some .ret))⟩
      simp only [Instr.endRound, Sem.run_bind, m1, m11, Result.andThen_ok]
      rfl
    | exit id =>
      cases he
      refine ⟨.bool false, { w2 with heap := w2.heap.setIfInBounds c (.loop { rc2 with state := .done, pending := some (.exit id) }) }, ?_, hR j2 _ _ (Im.le_trans hij hij2) (.scal rfl) (m10 .done (some (.exit id)))⟩
      simp only [Instr.endRound, Sem.run_bind, m1, m11, Result.andThen_ok]
      rfl
end
end Go.Ev

/- The evaluator Ev: functions, code. -/
namespace Go.Ev
open Go.RowKit Go.Lib

section
variable {P : Program} {A : Tab} {B : Nat} {w₀ : World} {i : Im} {h h' : Hp} {w : World} {rec : Rec}

/-! ### Functions -/
theorem load_var (T : TabOk P A) (s : SR B w₀ i h w) {t : TypeId} {p p' v : Value} (e : h.loadV A t p = some v) (hp : VR i p p') :
    ∃ v', (do loadVar t (← asAddr p') : Sem Value).run P w = .ok v' w ∧ VR i v v' := by
  have hptr : ∃ a, p = .pointer (some a) := by
    unfold Hp.loadV at e
    split at e
    · exact ⟨_, rfl⟩
    · cases e
  obtain ⟨a, rfl⟩ := hptr
  obtain ⟨j, v', w', h1, h2, h3, h4⟩ := load_VS (P := P) T s e hp
  obtain ⟨b, o, cb, off, own, rfl, hi, rfl⟩ := hp.inv_ptr
  -- the load turns nothing
  unfold Hp.loadV at e
  dsimp only at e
  split at e
  case h_2 => cases e
  rename_i ti d hty
  obtain ⟨hinfo, hund, _⟩ := T.ty _ _ _ hty
  split at e
  case h_2 => cases e
  rename_i cs ro hg
  obtain ⟨vs, l1, l2, _⟩ := s.im hg hi
  split at e
  · rename_i hagg
    split at e
    · rename_i hle
      have hle := of_ble hle
      cases e
      have hlen : ((vs.drop o).take ti.size).length = ti.size := by have := l1.1; simp; omega
      refine ⟨_, ?_, VR.agg' ((l1.drop o).take ti.size)⟩
      have hl := run_loadCells' (P := P) (rangeAt_sub l2 o ti.size)
      rw [hlen] at hl
      simp [asAddr, loadVar, run_isAgg' w hund, hagg, run_sizeOf' w hinfo, hl]
    · cases e
  · rename_i hagg
    rw [nthL_eq] at e
    obtain ⟨u, hu, hvr⟩ := l1.some e
    refine ⟨u, ?_, hvr⟩
    have hc := l2 _ u hu
    simp [asAddr, loadVar, run_isAgg' w hund, hagg, hc]

theorem results_list (T : TabOk P A) (s : SR B w₀ i h w) {env : List Value} {tmps : Array Value} (he : LR i env tmps.toList) : ∀ (rs : List ResultVar) (vs : List Value), resV h A env rs = some vs →
    ∃ vs', (rs.mapM (fun (x : ResultVar) => (match x with
      | .tmp t => pure (tmps.getD t undef)
      | .cell a t => do loadVar t (← asAddr (tmps.getD a undef)) : Sem Value))).run P w = .ok vs' w ∧ LR i vs vs' := by
  intro rs
  induction rs with
  | nil => intro vs e; cases e; exact ⟨[], by simp, LR.nil i⟩
  | cons r rs ih =>
    intro vs e
    cases r with
    | tmp t =>
      simp only [resV] at e
      split at e
      case h_2 => cases e
      rename_i us hus
      cases e
      obtain ⟨vs', h1, h2⟩ := ih us hus
      refine ⟨tmps.getD t undef :: vs', ?_, h2.cons (he.getL t)⟩
      simp only [List.mapM_cons, Sem.run_bind, Sem.run_pure, Result.andThen_ok, h1]
    | cell a t =>
      simp only [resV] at e
      split at e
      case h_2 => cases e
      rename_i u us hu hus
      cases e
      obtain ⟨vs', h1, h2⟩ := ih us hus
      obtain ⟨u', h3, h4⟩ := load_var (P := P) T s hu (he.getL a)
      refine ⟨u' :: vs', ?_, h2.cons h4⟩
      rw [List.mapM_cons, Sem.run_bind]
      show ((do loadVar t (← asAddr (tmps.getD a undef)) : Sem Value).run P w).andThen _ = _
      rw [h3]
      simp only [Sem.run_bind, Sem.run_pure, Result.andThen_ok, h1]

theorem results_VS (T : TabOk P A) (s : SR B w₀ i h w) {env : List Value} {tmps : Array Value} (he : LR i env tmps.toList) {F : Func} {vs : List Value} (e : resV h A env F.results.toList = some vs) :
    ∃ v', (results F tmps).run P w = .ok v' w ∧ VR i (packV vs) v' := by
  obtain ⟨vs', h1, h2⟩ := results_list (P := P) T s he _ _ e
  have h3 : (F.results.mapM (fun (x : ResultVar) => (match x with
      | .tmp t => pure (tmps.getD t undef)
      | .cell a t => do loadVar t (← asAddr (tmps.getD a undef)) : Sem Value))).run P w = .ok vs'.toArray w := by
    rw [Array.mapM_eq_mapM_toList, Sem.run_map, h1]; rfl
  have h4 : (results F tmps).run P w = .ok (if h : vs'.toArray.size = 1 then vs'.toArray[0] else .tuple vs'.toArray) w := by
    unfold results
    rw [Sem.run_bind]
    refine Eq.trans (congrArg (fun r => Result.andThen r _) h3) ?_
    rfl
  refine ⟨_, h4, ?_⟩
  have hlen := h2.1
  unfold packV
  split
  · rename_i v
    obtain ⟨v', _, rfl, hv, ht⟩ := h2.uncons
    rw [ht.unnil]
    exact hv
  · rename_i hne
    have : ¬ vs'.toArray.size = 1 := by
      intro h
      rw [List.size_toArray, ← hlen] at h
      obtain ⟨v, hv⟩ := List.length_eq_one_iff.1 h
      exact hne v hv
    rw [dif_neg this]
    exact VR.tuple' h2

theorem kill_leaves {F : Func} {tmps : Array Value} {R : Ending → World → Prop} : ∀ (ds : List Nat) (xs : List Deferred) (h h' : Hp) (w : World), DR i ds xs → SR B w₀ i h w → killAll ds h = some h' →
    (∀ w', SR B w₀ i h' w' → ∃ v, (results F tmps).run P w' = .ok v w' ∧ R (.returned v) w') → LeavesInM Fence.wide 0 P F tmps R xs .returning w := by
  intro ds
  induction ds with
  | nil =>
    intro xs h h' w d s e hR
    cases xs with
    | cons x xs => exact d.elim
    | nil => cases e; exact hR w s
  | cons d ds ih =>
    intro xs h h' w hd s e hR
    cases xs with
    | nil => exact hd.elim
    | cons x xs =>
      obtain ⟨⟨c, o, n, hi, rfl⟩, hd⟩ := hd
      simp only [killAll] at e
      split at e
      case h_2 => cases e
      rename_i hg
      obtain ⟨h1, h2, h3⟩ := s.im hg hi
      have h1' : w.heap[c]? = some (.deferred (some [])) := h1
      refine ⟨by simp, .inl ⟨c, { w with heap := w.heap.setIfInBounds c (.deferred none) }, rfl, by simp [Instr.takeDeferred, getObj, setObj, Sem.run, h1'], ?_⟩⟩
      refine ih xs _ _ _ hd ?_ e hR
      exact s.obj hg hi rfl (fun _ _ e => by cases e) h1 (fun _ _ _ e => by cases e) trivial

theorem fn_step (T : TabOk P A) (RC : CodeOk P B w₀ rec) {rd : Option Nat} {g : FuncId} {f : FuncId} {args : List Value} {v : Value} (he : stFn f args A rec rd g h = some (.val v h')) {args' : List Value} (hG : GI i) (s : SR B w₀ i h w) (hl : LR i args args') :
    (callFunc f args'.toArray).run P w = .ok (.enter f args'.toArray) w ∧
    ∀ R : Ending → World → Prop, (∀ j v' w', i.le j → VR j v v' → SR B w₀ j h' w' → R (.returned v') w') → CallsIn Fence.wide 0 P f args'.toArray w R := by
  replace he : fnGo f args A rec h = some (.val v h') := he
  unfold fnGo at he
  split at he
  case h_2 => cases he
  rename_i F hF
  obtain ⟨hf, hname⟩ := T.fn _ _ hF
  unfold fnBody at he
  split at he
  case h_2 => cases he
  rename_i c hb
  refine ⟨?_, fun R hR => ?_⟩
  · have hne : ¬ F.name = "runtime.NumGoroutine" := by simpa using hname
    simp [callFunc, hf, hne, hb]
  · refine callsIn_of_wp_marks hf hb trivial ?_
    have hlr : LR i (args ++ List.replicate (F.ntmps - args.length) undef) (args'.toArray ++ Array.replicate (F.ntmps - args'.toArray.size) undef).toList := by
      have := hl.1
      simp only [Array.toList_append, Array.toList_replicate, List.size_toArray, ← this]
      exact hl.append (LR.replicate (VR.undef i) _)
    have key : ∀ (e : Ex) (env : List Value) (ds : List Nat) (h1 : Hp), rec none f (.code c (args ++ List.replicate (F.ntmps - args.length) undef) []) h = some (.out e env ds h1) → (e = .normal ∨ e = .ret) → fnVal A F.results.toList env ds h1 = some (.val v h') →
        c.wpIn Fence.wide 0 P (bodyPostM Fence.wide 0 P F R) { tmps := args'.toArray ++ Array.replicate (F.ntmps - args'.toArray.size) undef, defers := [] } w := by
      intro e env ds h1 hrun hex hval
      unfold fnVal at hval
      split at hval
      case h_2 => cases hval
      rename_i h2 hkill
      unfold retV at hval
      split at hval
      case h_2 => cases hval
      rename_i vs hres
      cases hval
      refine RC _ _ _ _ _ _ _ _ _ _ hrun i w { tmps := args'.toArray ++ Array.replicate (F.ntmps - args'.toArray.size) undef, defers := [] } none ⟨hG, s, hlr, trivial⟩ (.inl ⟨rfl, rfl⟩) _ (fun j a' w' hij st => ?_)
      have hleave : LeavesInM Fence.wide 0 P F a'.tmps R a'.defers .returning w' := by
        refine kill_leaves ds a'.defers h1 h' w' st.d st.s hkill (fun w2 s2 => ?_)
        obtain ⟨v', r1, r2⟩ := results_VS (P := P) T s2 st.e hres
        exact ⟨v', r1, hR j v' w2 hij r2 s2⟩
      rcases hex with rfl | rfl
      · exact hleave
      · exact hleave
    unfold fnOut at he
    split at he
    · rename_i env ds h1 hrun
      exact key _ _ _ _ hrun (.inl rfl) he
    · rename_i env ds h1 hrun
      exact key _ _ _ _ hrun (.inr rfl) he
    · cases he
end
end Go.Ev

/- The evaluator Ev: code. -/
namespace Go.Ev
open Go.RowKit Go.Lib

section
variable (P : Program) (A : Tab) (B : Nat) (w₀ : World)
/-- A region that draws its order comes, in every order, to what the evaluator says. -/
def DrawOk (rec : Rec) : Prop := ∀ rd g all pl env ds h e env' ds' h', rec rd g (.draw all all pl env ds [] []) h = some (.out e env' ds' h') → planOf A all = some pl → ∀ i w a rc, ST B w₀ i h w env ds a → RD i rd rc →
  ∀ Q : Exit → Act → World → Prop, (∀ j a' w', i.le j → ST B w₀ j h' w' env' ds' a' → Q (exOf e) a' w') → wpAnyIn (fen rc) 0 P .any all.toArray Q all.length (Array.replicate all.length false) a w
end

section
variable {P : Program} {A : Tab} {B : Nat} {w₀ : World} {i : Im} {h h' : Hp} {w : World} {rec : Rec}

theorem seq_parts {b : Code} {rd : Option Nat} {g : FuncId} {r : Option Res} {e : Ex} {env' : List Value} {ds' : List Nat} (he : sqThen b rec rd g r = some (.out e env' ds' h')) :
    (∃ env1 ds1 h1, r = some (.out .normal env1 ds1 h1) ∧ rec rd g (.code b env1 ds1) h1 = some (.out e env' ds' h')) ∨ (e ≠ .normal ∧ r = some (.out e env' ds' h')) := by
  unfold sqThen at he
  split at he
  · exact .inl ⟨_, _, _, rfl, he⟩
  · rename_i hn
    refine .inr ⟨fun e => ?_, he⟩
    subst e
    exact hn _ _ _ he

theorem then_other {e : Ex} (hne : e ≠ .normal) (K : Act → World → Prop) (Q : Exit → Act → World → Prop) (a : Act) (w : World) : Exit.then K Q (exOf e) a w = Q (exOf e) a w := by
  cases e with
  | normal => exact absurd rfl hne
  | exit id => rfl
  | ret => rfl

theorem rfEnter_VS {rd : Option Nat} {rc : Option Nat} {fn fn' : FuncId} {env : List Value} {tmps : Array Value} {ps : Array Tmp} {assign body : Code} {l : Nat} {mark : List Nat} {h1 : Hp} (g : GI i) (s : SR B w₀ i h w) (he : LR i env tmps.toList) (hrd : RD i rd rc)
    (e : rfEnter rd fn env ps.toList assign body h = some (l, mark, h1)) :
    ∃ j lc mark' w1, (Instr.enterLoop fn' tmps ps assign body rc).run P w = .ok (lc, mark') w1 ∧ i.le j ∧ SR B w₀ j h1 w1 ∧ (∃ o n, j l = some (lc, o, n)) ∧ DR j mark mark' := by
  have new : ∀ (i : Im) (h : Hp) (w : World) (db dc : Nat) (mark : List Nat), SR B w₀ i h w → LR i env tmps.toList → (∃ o n, i db = some (dc, o, n)) → rfNew fn env ps.toList assign body db mark h = some (l, mark, h1) →
      ∃ j, i.le j ∧ SR B w₀ j h1 (w.alloc (.loop { state := .ready, pending := none, fn := fn', tmps, params := ps, assign, body, defers := dc })) ∧ (∃ o n, j l = some (w.heap.size, o, n)) := by
    intro i h w db dc mark s he hd e
    unfold rfNew at e
    split at e
    case h_2 => cases e
    rename_i nb h2 hn
    cases e
    have hle : i.le (i.set l (w.heap.size, 0, 1)) := Im.le_set (by rw [(Hp.new_some hn).1]; exact s.none _)
    refine ⟨_, hle, s.new hn (.loop { state := .ready, pending := none, fn := fn', tmps, params := ps, assign, body, defers := dc }) 1 ⟨{ state := .ready, pending := none, fn := fn', tmps, params := ps, assign, body, defers := dc }, ?_, rfl, rfl, he.mono hle, rfl, rfl, rfl, ?_, s.size, rfl⟩, ⟨0, 1, Im.set_self _ _ _⟩⟩
    · show (w.heap.push _)[w.heap.size]? = _
      simp
    · obtain ⟨o, n, hd⟩ := hd
      exact ⟨o, n, hle _ _ hd⟩
  unfold rfEnter at e
  rcases hrd with ⟨rfl, rfl⟩ | ⟨l0, c0, o0, n0, rfl, rfl, hi⟩
  · dsimp only at e
    split at e
    case h_2 => cases e
    rename_i db h2 hn
    have hle : i.le (i.set db (w.heap.size, 0, 1)) := Im.le_set (by rw [(Hp.new_some hn).1]; exact s.none _)
    have s2 := s.new hn (.deferred (some [])) 1 ⟨by show (w.heap.push _)[w.heap.size]? = _; simp, s.size, rfl⟩
    have hm : mark = [db] := by
      unfold rfNew at e
      split at e
      · cases e; rfl
      · cases e
    subst hm
    obtain ⟨j, h3, h4, h5⟩ := new _ _ _ _ w.heap.size _ s2 (he.mono hle) ⟨0, 1, Im.set_self _ _ _⟩ e
    refine ⟨j, (w.alloc (.deferred (some []))).heap.size, [{ target := .collected w.heap.size, args := #[] }], _, ?_, Im.le_trans hle h3, h4, h5, ⟨w.heap.size, 0, 1, h3 _ _ (Im.set_self _ _ _), rfl⟩, trivial⟩
    simp only [Instr.enterLoop, Sem.run_bind, run_newObj, Result.andThen_ok, Sem.run_pure]
    rfl
  · dsimp only at e
    split at e
    case h_2 => cases e
    rename_i r0 hg0
    obtain ⟨rc0, g1, g2, g3, g4, g5, g6, g7, g8, g9, g11, g10⟩ := loop_turn (P := P) s hg0 hi
    have hm : mark = [] := by
      unfold rfNew at e
      split at e
      · cases e; rfl
      · cases e
    subst hm
    obtain ⟨j, h3, h4, h5⟩ := new _ _ _ _ rc0.defers _ s he g9 e
    refine ⟨j, w.heap.size, [], _, ?_, h3, h4, h5, trivial⟩
    simp only [Instr.enterLoop, Sem.run_bind, g1, run_newObj, Result.andThen_ok, Sem.run_pure]
    rfl

theorem DR.append {ds ds' : List Nat} {xs xs' : List Deferred} (h : DR i ds xs) (k : DR i ds' xs') : DR i (ds ++ ds') (xs ++ xs') := by
  induction ds generalizing xs with
  | nil => cases xs with
    | nil => exact k
    | cons x xs => exact h.elim
  | cons d ds ih => cases xs with
    | nil => exact h.elim
    | cons x xs => exact ⟨h.1, ih h.2⟩

theorem range_step (RC : CodeOk P B w₀ rec) (RF : FnOk P B w₀ rec) {rd : Option Nat} {g : FuncId} {go : Operand} {ps : Array Tmp} {assign body : Code} {env : List Value} {ds : List Nat} {e : Ex} {env' : List Value} {ds' : List Nat}
    (he : cdRange go ps assign body env ds A rec rd g h = some (.out e env' ds' h')) {a : Act} {rc : Option Nat} (st : ST B w₀ i h w env ds a) (hrd : RD i rd rc)
    (Q : Exit → Act → World → Prop) (hQ : ∀ j a' w', i.le j → ST B w₀ j h' w' env' ds' a' → Q (exOf e) a' w') : (Code.rangeFunc go ps assign body).wpIn (fen rc) 0 P Q a w := by
  unfold cdRange at he
  split at he
  case h_2 => cases he
  rename_i gf first cap hgo
  obtain ⟨fn', p', q', hev, hfr, hpp, hqq⟩ := (st.hop _ _ hgo).inv_func
  cases hfr
  unfold rfGo at he
  split at he
  case h_2 => cases he
  rename_i l mark h1 hent
  unfold rfBack at he
  split at he
  case h_2 => cases he
  rename_i v h2 hcall
  split at he
  case h_2 => cases he
  rename_i r hg2
  refine wpIn_rangeFunc (fun fn _ => ?_)
  obtain ⟨j, lc, mark', w1, hrun, hij, s1, ⟨o, n, hl⟩, hdm⟩ := rfEnter_VS (P := P) (fn' := fn) st.g st.s st.e hrd hent
  have hargs : LR j (first.toList ++ [.func (.yield l) #[] #[]] ++ cap.toList) (p'.toList ++ [.func (.yield lc) #[] #[]] ++ q'.toList) :=
    ((hpp.mono hij).append ((LR.nil j).cons (VR.func' (.yield hl) (LR.nil j) (LR.nil j)))).append (hqq.mono hij)
  obtain ⟨c1, c2⟩ := RF _ _ _ _ _ _ _ hcall j w1 _ (st.g.mono hij) s1 hargs
  have ha : (p'.toList ++ [Value.func (.yield lc) #[] #[]] ++ q'.toList).toArray = p' ++ #[Value.func (.yield lc) #[] #[]] ++ q' := by apply Array.ext'; simp
  rw [ha] at c1 c2
  refine ⟨lc, mark', w1, { target := .fn (.func gf) q', args := p' ++ #[Value.func (.yield lc) #[] #[]] }, w1, gf, _, w1, hrun, ?_, fun _ _ => trivial, c1, fun h => Bool.noConfusion (show false = true from h), ?_⟩
  · unfold resolve
    show (Deferred.ofValue (a.eval go) _).run P w1 = _
    rw [hev]
    simp [Deferred.ofValue, Act.eval]
  · refine c2 _ (fun j2 v' w2 hij2 _ s2 => ?_)
    have hi2 : i.le j2 := Im.le_trans hij hij2
    obtain ⟨rc2, k1, k2, k3, k4, k5, k6, k7, k8, k9, k11, k10⟩ := loop_turn (P := P) s2 hg2 (hij2 _ _ hl)
    unfold rfEnd at he
    split at he
    · cases he
    · rename_i hnb
      have hnb2 : (rc2.state == LoopState.busy) = false := by
        rw [k3]
        cases hs : r.state <;> first | rfl | exact absurd hs hnb
      refine ⟨rc2.pending, { w2 with heap := w2.heap.setIfInBounds lc (.loop { rc2 with state := .exhausted }) }, ?_, ?_⟩
      · simp only [Instr.endLoop, Sem.run_bind, k1, Result.andThen_ok, hnb2, Bool.false_eq_true, if_false, k11, Sem.run_pure]
      · have hs3 := k10 .exhausted r.pending
        have hex1 : ({ r with state := .exhausted, pending := r.pending } : ALoop) = { r with state := .exhausted } := rfl
        have hex2 : ({ rc2 with state := .exhausted, pending := r.pending } : Loop) = { rc2 with state := .exhausted } := by rw [← k4]
        rw [hex1, hex2] at hs3
        have st3 : ST B w₀ j2 (h2.upd l (.loop { r with state := .exhausted })) { w2 with heap := w2.heap.setIfInBounds lc (.loop { rc2 with state := .exhausted }) } env (mark ++ ds) { a with defers := mark' ++ a.defers } :=
          ⟨st.g.mono hi2, hs3, st.e.mono hi2, (hdm.mono hij2).append (st.d.mono hi2)⟩
        generalize ({ w2 with heap := w2.heap.setIfInBounds lc (.loop { rc2 with state := .exhausted }) } : World) = w3 at st3 ⊢
        split at he
        · rename_i hpn
          rw [k4.trans hpn]
          cases he
          exact hQ j2 _ _ hi2 st3
        · rename_i jc hpn
          rw [k4.trans hpn]
          exact RC _ _ _ _ _ _ _ _ _ _ he j2 _ _ rc st3 (hrd.mono hi2) Q (fun j3 a' w' hj st' => hQ j3 a' w' (Im.le_trans hi2 hj) st')

theorem loop_step (RC : CodeOk P B w₀ rec) (RL : LoopOk P B w₀ rec) {rd : Option Nat} {g : FuncId} {c : Code} {env : List Value} {ds : List Nat} {e : Ex} {env' : List Value} {ds' : List Nat}
    (he : stCode (.loop c) env ds A rec rd g h = some (.out e env' ds' h')) : ∃ m, ∀ i w a rc, ST B w₀ i h w env ds a → RD i rd rc →
    ∀ Q : Exit → Act → World → Prop, (∀ j a' w', i.le j → ST B w₀ j h' w' env' ds' a' → Q (exOf e) a' w') → Code.roundsIn (fen rc) 0 P c Q m a w := by
  rcases seq_parts (show sqThen (.loop c) rec rd g (rec rd g (.code c env ds) h) = _ from he) with ⟨env1, ds1, h1, hx, hy⟩ | ⟨hne, hx⟩
  · obtain ⟨m, hm⟩ := RL _ _ _ _ _ _ _ _ _ _ hy
    refine ⟨m + 1, fun i w a rc st hrd Q hQ => ?_⟩
    rw [roundsIn_succ]
    refine RC _ _ _ _ _ _ _ _ _ _ hx i w a rc st hrd _ (fun j a' w' hij st' => ?_)
    exact hm j w' a' rc st' (hrd.mono hij) Q (fun j2 a2 w2 hj st2 => hQ j2 a2 w2 (Im.le_trans hij hj) st2)
  · refine ⟨1, fun i w a rc st hrd Q hQ => ?_⟩
    rw [roundsIn_succ]
    refine RC _ _ _ _ _ _ _ _ _ _ hx i w a rc st hrd _ (fun j a' w' hij st' => ?_)
    rw [then_other hne]
    exact hQ j a' w' hij st'

theorem code_step (RC : CodeOk P B w₀ rec) (RL : LoopOk P B w₀ rec) (RF : FnOk P B w₀ rec) (RO : OpsOk P B w₀ rec) (RDr : DrawOk P A B w₀ rec) (T : TabOk P A) {rd : Option Nat} {g : FuncId} {c : Code} {env : List Value} {ds : List Nat} {e : Ex} {env' : List Value} {ds' : List Nat}
    (he : stCode c env ds A rec rd g h = some (.out e env' ds' h')) {a : Act} {rc : Option Nat} (st : ST B w₀ i h w env ds a) (hrd : RD i rd rc)
    (Q : Exit → Act → World → Prop) (hQ : ∀ j a' w', i.le j → ST B w₀ j h' w' env' ds' a' → Q (exOf e) a' w') : c.wpIn (fen rc) 0 P Q a w := by
  cases c with
  | skip =>
    cases he
    exact wpIn_skip (hQ i a w (Im.le_refl i) st)
  | label l =>
    cases he
    exact wpIn_label (hQ i a w (Im.le_refl i) st)
  | exit id =>
    cases he
    exact wpIn_exit (hQ i a w (Im.le_refl i) st)
  | ret =>
    cases he
    exact wpIn_ret (hQ i a w (Im.le_refl i) st)
  | seq x y =>
    refine wpIn_seq ?_
    rcases seq_parts (show sqThen y rec rd g (rec rd g (.code x env ds) h) = _ from he) with ⟨env1, ds1, h1, hx, hy⟩ | ⟨hne, hx⟩
    · refine RC _ _ _ _ _ _ _ _ _ _ hx i w a rc st hrd _ (fun j a' w' hij st' => ?_)
      exact RC _ _ _ _ _ _ _ _ _ _ hy j w' a' rc st' (hrd.mono hij) Q (fun j2 a2 w2 hj st2 => hQ j2 a2 w2 (Im.le_trans hij hj) st2)
    · refine RC _ _ _ _ _ _ _ _ _ _ hx i w a rc st hrd _ (fun j a' w' hij st' => ?_)
      rw [then_other hne]
      exact hQ j a' w' hij st'
  | cond x p q =>
    replace he : cdCond x p q env ds A rec rd g h = _ := he
    unfold cdCond at he
    split at he
    · rename_i hx
      exact wpIn_cond_true (st.hop _ _ hx).inv_bool (RC _ _ _ _ _ _ _ _ _ _ he i w a rc st hrd Q hQ)
    · rename_i hx
      exact wpIn_cond_false (st.hop _ _ hx).inv_bool (RC _ _ _ _ _ _ _ _ _ _ he i w a rc st hrd Q hQ)
    · cases he
  | block id body =>
    refine wpIn_block ?_
    replace he : bkOut id (rec rd g (.code body env ds) h) = _ := he
    unfold bkOut at he
    split at he
    · rename_i id' env1 ds1 h1 hb
      split at he
      · rename_i hid
        have hid := of_beq hid
        cases he
        refine RC _ _ _ _ _ _ _ _ _ _ hb i w a rc st hrd _ (fun j a' w' hij st' => ?_)
        simp only [exOf, Exit.inBlock, hid, if_true]
        exact hQ j a' w' hij st'
      · rename_i hid
        have hid := of_beq_false hid
        cases he
        refine RC _ _ _ _ _ _ _ _ _ _ hb i w a rc st hrd _ (fun j a' w' hij st' => ?_)
        simp only [exOf, Exit.inBlock, hid, if_false]
        exact hQ j a' w' hij st'
    · rename_i hn
      refine RC _ _ _ _ _ _ _ _ _ _ he i w a rc st hrd _ (fun j a' w' hij st' => ?_)
      have := hQ j a' w' hij st'
      cases e with
      | normal => exact this
      | ret => exact this
      | exit id' => exact absurd he (hn _ _ _ _)
  | loop body =>
    obtain ⟨m, hm⟩ := loop_step RC RL he
    exact wpIn_loop_rounds m (hm i w a rc st hrd Q hQ)
  | region id ops draw =>
    replace he : cdRegion ops draw env ds A rec rd g h = _ := he
    unfold cdRegion at he
    split at he
    · split at he
      case h_2 => cases he
      rename_i pl hpl
      refine wpIn_region_any T.mixed ?_
      have := RDr _ _ _ _ _ _ _ _ _ _ _ he hpl i { w with drawn := w.drawn + 1 } a rc ⟨st.g, st.s.drew, st.e, st.d⟩ hrd Q hQ
      simpa using this
    · refine wpIn_region ?_
      have := RO _ _ _ _ _ _ _ _ _ _ _ he i w a rc 0 st hrd rfl Q hQ
      simpa [List.range_eq_range'] using this
  | rangeFunc go ps assign body => exact range_step (A := A) RC RF he st hrd Q hQ
  | _ => cases he
end
end Go.Ev

/- The evaluator Ev: the plan of a region that draws its order: what its checks say. -/
namespace Go.Ev
open Go.RowKit Go.Lib

/-! ### Sets of operations -/
theorem bitIn_eq (m i : Nat) : bitIn m i = m.testBit i := by
  unfold bitIn
  rw [Nat.testBit_eq_decide_div_mod_eq]
  have : Nat.mod (Nat.shiftRight m i) 2 = m / 2 ^ i % 2 := by
    show (m >>> i) % 2 = _
    rw [Nat.shiftRight_eq_div_pow]
  rw [this, Bool.eq_iff_iff, beq_iff', decide_eq_true_eq]

theorem bitIn_lor {a b i : Nat} (h : bitIn (Nat.lor a b) i = true) : bitIn a i = true ∨ bitIn b i = true := by
  simp only [bitIn_eq] at *
  have : (Nat.lor a b).testBit i = (a.testBit i || b.testBit i) := Nat.testBit_or a b i
  rw [this, Bool.or_eq_true] at h
  exact h
theorem bitIn_one {k i : Nat} (h : bitIn (Nat.shiftLeft 1 k) i = true) : i = k := by
  rw [bitIn_eq] at h
  have h2 : (1 <<< k).testBit i = true := h
  rw [Nat.testBit_shiftLeft] at h2
  simp only [Bool.and_eq_true, decide_eq_true_eq] at h2
  obtain ⟨h3, h4⟩ := h2
  have : i - k = 0 := by
    rcases Nat.eq_zero_or_pos (i - k) with h | h
    · exact h
    · rw [show (1 : Nat) = 2 ^ 0 from rfl, Nat.testBit_two_pow] at h4
      simp at h4
      omega
  omega
theorem bitIn_zero (i : Nat) : bitIn 0 i = false := by rw [bitIn_eq]; exact Nat.zero_testBit i

theorem maskOf_spec (ms : List Nat) : ∀ (es : List Edge) (i : Nat), bitIn (maskOf ms es) i = true → ∃ e ∈ es, bindsE e = true ∧ ∃ m, ms[e.on]? = some m ∧ (i = e.on ∨ bitIn m i = true) := by
  intro es
  induction es with
  | nil => intro i h; rw [show maskOf ms [] = 0 from rfl, bitIn_zero] at h; cases h
  | cons e es ih =>
    intro i h
    have skip : bitIn (maskOf ms es) i = true → ∃ e' ∈ e :: es, bindsE e' = true ∧ ∃ m, ms[e'.on]? = some m ∧ (i = e'.on ∨ bitIn m i = true) := fun h => by
      obtain ⟨e', h1, h2⟩ := ih i h
      exact ⟨e', List.mem_cons_of_mem _ h1, h2⟩
    simp only [maskOf] at h
    split at h
    · rename_i hb
      split at h
      · rename_i m hm
        rw [nthL_eq] at hm
        rcases bitIn_lor h with h | h
        · rcases bitIn_lor h with h | h
          · exact ⟨e, List.mem_cons_self .., hb, m, hm, .inl (bitIn_one h)⟩
          · exact ⟨e, List.mem_cons_self .., hb, m, hm, .inr h⟩
        · exact skip h
      · exact skip h
    · exact skip h

theorem masks_prefix : ∀ (os : List Oper) (ms : List Nat), ∃ r, masks ms os = ms ++ r ∧ r.length = os.length := by
  intro os
  induction os with
  | nil => intro ms; exact ⟨[], by simp [masks], rfl⟩
  | cons o os ih =>
    intro ms
    obtain ⟨r, h1, h2⟩ := ih (ms ++ [maskOf ms o.after.toList])
    exact ⟨maskOf ms o.after.toList :: r, by simp [masks, h1], by simp [h2]⟩

theorem masks_get : ∀ (os : List Oper) (ms : List Nat) (q : Nat) (o : Oper), os[q]? = some o → ∃ m, (masks ms os)[ms.length + q]? = some m ∧ m = maskOf ((masks ms os).take (ms.length + q)) o.after.toList := by
  intro os
  induction os with
  | nil => intro ms q o h; simp at h
  | cons o' os ih =>
    intro ms q o h
    cases q with
    | zero =>
      simp at h
      subst h
      obtain ⟨r, h1, h2⟩ := masks_prefix os (ms ++ [maskOf ms o'.after.toList])
      refine ⟨maskOf ms o'.after.toList, ?_, ?_⟩
      · simp [masks, h1]
      · simp [masks, h1]
    | succ q =>
      simp at h
      obtain ⟨m, h1, h2⟩ := ih (ms ++ [maskOf ms o'.after.toList]) q o h
      have hlen : (ms ++ [maskOf ms o'.after.toList]).length + q = ms.length + (q + 1) := by simp; omega
      rw [hlen] at h1 h2
      exact ⟨m, h1, h2⟩

/-- What the plan's checks say. -/
structure PlanOk (A : Tab) (all : List Oper) (pl : List Pl) (ms : List Nat) (cls : List Cls) : Prop where
  mlen : ms.length = all.length
  clen : cls = all.map fun o => clsOf A o.op
  mask : ∀ (k : Nat) (o : Oper), all[k]? = some o → ∃ m, ms[k]? = some m ∧ m = maskOf (ms.take k) o.after.toList
  back : ∀ (k : Nat) (o : Oper), all[k]? = some o → ∀ e ∈ o.after.toList, bindsE e = true → e.on < k
  tmps : ∀ (i k : Nat) (oi ok : Oper) (m : Nat), i < k → all[i]? = some oi → all[k]? = some ok → ms[k]? = some m → bitIn m i = true ∨ freeOf all oi ok = true
  eff : okEff none 0 cls ms = true
  plans : pl = plansOf cls ms 0 cls ms

theorem okEdges_spec {k : Nat} : ∀ {es : List Edge}, okEdges k es = true → ∀ e ∈ es, bindsE e = true → e.on < k := by
  intro es
  induction es with
  | nil => intro _ e he; cases he
  | cons x xs ih =>
    intro h e he hb
    simp only [okEdges, Bool.and_eq_true, Bool.or_eq_true, Bool.not_eq_true'] at h
    cases he with
    | head =>
      rcases h.1 with h | h
      · rw [hb] at h; cases h
      · exact of_blt h
    | tail _ hm => exact ih h.2 e hm hb
theorem okBack_spec : ∀ (os : List Oper) (n : Nat), okBack n os = true → ∀ (q : Nat) (o : Oper), os[q]? = some o → ∀ e ∈ o.after.toList, bindsE e = true → e.on < n + q := by
  intro os
  induction os with
  | nil => intro n _ q o h; simp at h
  | cons o' os ih =>
    intro n h q o hq
    simp only [okBack, Bool.and_eq_true] at h
    cases q with
    | zero => simp at hq; subst hq; exact okEdges_spec h.1
    | succ q =>
      simp at hq
      intro e he hb
      have := ih (n + 1) h.2 q o hq e he hb
      omega
theorem okRow_spec {all : List Oper} {m : Nat} {oj : Oper} : ∀ (os : List Oper) (n : Nat), okRow all m oj n os = true → ∀ (q : Nat) (o : Oper), os[q]? = some o → bitIn m (n + q) = true ∨ freeOf all o oj = true := by
  intro os
  induction os with
  | nil => intro n _ q o h; simp at h
  | cons o' os ih =>
    intro n h q o hq
    simp only [okRow, Bool.and_eq_true, okPair, Bool.or_eq_true] at h
    cases q with
    | zero => simp at hq; subst hq; exact h.1
    | succ q =>
      simp at hq
      have := ih (n + 1) h.2 q o hq
      rwa [show n + 1 + q = n + (q + 1) by omega] at this
theorem okTmps_spec {all : List Oper} : ∀ (os done : List Oper) (ms : List Nat), okTmps all done os ms = true → ∀ (i q : Nat) (oi oq : Oper) (m : Nat), i < done.length + q → (done ++ os)[i]? = some oi → os[q]? = some oq → ms[q]? = some m → bitIn m i = true ∨ freeOf all oi oq = true := by
  intro os
  induction os with
  | nil => intro done ms _ i q oi oq m _ _ h; simp at h
  | cons o os ih =>
    intro done ms h i q oi oq m hlt hi hq hm
    cases ms with
    | nil => cases h
    | cons m' ms =>
      simp only [okTmps, Bool.and_eq_true] at h
      cases q with
      | zero =>
        simp at hq hm
        subst hq hm
        have := okRow_spec done 0 h.1 i oi (by rwa [List.getElem?_append_left (by omega)] at hi)
        rwa [Nat.zero_add] at this
      | succ q =>
        simp at hq hm
        exact ih (done ++ [o]) ms h.2 i q oi oq m (by simp; omega) (by simpa using hi) hq hm

theorem planOf_ok {A : Tab} {all : List Oper} {pl : List Pl} (h : planOf A all = some pl) : ∃ ms cls, PlanOk A all pl ms cls := by
  unfold planOf planGo at h
  split at h
  · rename_i hok
    simp only [Bool.and_eq_true] at hok
    obtain ⟨h1, h2, h3⟩ := hok
    cases h
    obtain ⟨r, hr1, hr2⟩ := masks_prefix all []
    refine ⟨masks [] all, all.map fun o => clsOf A o.op, by rw [hr1]; simpa using hr2, rfl, ?_, ?_, ?_, h3, rfl⟩
    · intro k o hk
      have := masks_get all [] k o hk
      simpa using this
    · intro k o hk e he hb
      have := okBack_spec all 0 h1 k o hk e he hb
      omega
    · intro i k oi ok m hik hi hk hm
      exact okTmps_spec all [] (masks [] all) h2 i k oi ok m (by simpa using hik) (by simpa using hi) hk hm
  · cases h

/-! ### Counting effects -/
noncomputable def cntSel (sel : Nat → Bool) : Nat → List Cls → Nat
  | _, [] => 0
  | i, c :: cs => if (isE c && sel i) = true then cntSel sel (i + 1) cs + 1 else cntSel sel (i + 1) cs
theorem cntSel_congr {sel sel' : Nat → Bool} : ∀ (cs : List Cls) (i : Nat), (∀ q c, cs[q]? = some c → isE c = true → sel (i + q) = sel' (i + q)) → cntSel sel i cs = cntSel sel' i cs := by
  intro cs
  induction cs with
  | nil => intro i _; rfl
  | cons c cs ih =>
    intro i h
    have ht := ih (i + 1) (fun q c' hq hc => by
      have := h (q + 1) c' (by simpa using hq) hc
      rwa [show i + (q + 1) = i + 1 + q by omega] at this)
    simp only [cntSel, ht]
    by_cases hc : isE c = true
    · have := h 0 c rfl hc
      simp only [Nat.add_zero] at this
      rw [this]
    · simp [hc]
theorem cntSel_le {sel sel' : Nat → Bool} : ∀ (cs : List Cls) (i : Nat), (∀ q c, cs[q]? = some c → isE c = true → sel (i + q) = true → sel' (i + q) = true) → cntSel sel i cs ≤ cntSel sel' i cs := by
  intro cs
  induction cs with
  | nil => intro i _; exact Nat.le_refl _
  | cons c cs ih =>
    intro i h
    have ht := ih (i + 1) (fun q c' hq hc hs => by
      have := h (q + 1) c' (by simpa using hq) hc (by rwa [show i + (q + 1) = i + 1 + q by omega])
      rwa [show i + (q + 1) = i + 1 + q by omega] at this)
    simp only [cntSel]
    by_cases hc : isE c = true
    · have := h 0 c rfl hc
      simp only [Nat.add_zero] at this
      cases hs : sel i with
      | true => rw [this hs]; simp [hc]; exact ht
      | false => cases hs' : sel' i with
        | true => simp [hc]; omega
        | false => simp; exact ht
    · simp [hc]; exact ht
theorem cntLo_eq (m : Nat) : ∀ (cs : List Cls) (i : Nat), cntLo m i cs = cntSel (bitIn m) i cs := by
  intro cs
  induction cs with
  | nil => intro i; rfl
  | cons c cs ih =>
    intro i
    simp only [cntLo, cntSel, ih]
    split
    · rename_i h; simp [h]
    · rename_i h; simp [h]
theorem cntHi_eq (j : Nat) (sel : Nat → Bool) : ∀ (cs : List Cls) (ms : List Nat) (i : Nat), ms.length = cs.length → (∀ q m, ms[q]? = some m → sel (i + q) = !bitIn m j) → cntHi j cs ms = cntSel sel i cs := by
  intro cs
  induction cs with
  | nil => intro ms i hl _; simp at hl; subst hl; rfl
  | cons c cs ih =>
    intro ms i hl h
    cases ms with
    | nil => simp at hl
    | cons m ms =>
      have ht := ih ms (i + 1) (by simpa using hl) (fun q m' hq => by
        have := h (q + 1) m' (by simpa using hq)
        rwa [show i + (q + 1) = i + 1 + q by omega] at this)
      have h0 := h 0 m rfl
      simp only [Nat.add_zero] at h0
      simp only [cntHi, cntSel, ht, h0]
      split
      · rename_i h; simp [h]
      · rename_i h; simp [h]

def isPlE : Pl → Bool
  | .e => true
  | _ => false
theorem plans_get (cls0 : List Cls) (ms0 : List Nat) : ∀ (cs : List Cls) (ms : List Nat) (j q : Nat) (c : Cls), ms.length = cs.length → cs[q]? = some c → ∃ m, ms[q]? = some m ∧ (plansOf cls0 ms0 j cs ms)[q]? = some (match c with
    | .p => .p
    | .r => .r (cntLo m 0 cls0) (cntHi (j + q) cls0 ms0)
    | .e => .e) := by
  intro cs
  induction cs with
  | nil => intro ms j q c _ h; simp at h
  | cons c' cs ih =>
    intro ms j q c hl hq
    cases ms with
    | nil => simp at hl
    | cons m ms =>
      cases q with
      | zero =>
        simp at hq
        subst hq
        refine ⟨m, rfl, ?_⟩
        simp only [plansOf, List.getElem?_cons_zero, Nat.add_zero]
        cases c' <;> rfl
      | succ q =>
        simp at hq
        obtain ⟨m', h1, h2⟩ := ih ms (j + 1) q c (by simpa using hl) hq
        refine ⟨m', by simpa using h1, ?_⟩
        simp only [plansOf, List.getElem?_cons_succ]
        rw [h2, show j + 1 + q = j + (q + 1) by omega]
theorem plans_length (cls0 : List Cls) (ms0 : List Nat) : ∀ (cs : List Cls) (ms : List Nat) (j : Nat), ms.length = cs.length → (plansOf cls0 ms0 j cs ms).length = cs.length := by
  intro cs
  induction cs with
  | nil => intro ms j h; simp at h; subst h; rfl
  | cons c cs ih =>
    intro ms j h
    cases ms with
    | nil => simp at h
    | cons m ms => simp [plansOf, ih ms (j + 1) (by simpa using h)]

theorem okEff_spec : ∀ (cs : List Cls) (ms : List Nat) (last : Option Nat) (i : Nat), okEff last i cs ms = true → ms.length = cs.length → ∀ (q : Nat) (m : Nat), cs[q]?.map isE = some true → ms[q]? = some m →
    (∀ l, last = some l → (∀ p, p < q → cs[p]?.map isE ≠ some true) → bitIn m l = true) ∧
    (∀ p, p < q → cs[p]?.map isE = some true → (∀ r, p < r → r < q → cs[r]?.map isE ≠ some true) → bitIn m (i + p) = true) := by
  intro cs
  induction cs with
  | nil => intro ms last i _ _ q m h; simp at h
  | cons c cs ih =>
    intro ms last i h hl q m hq hm
    cases ms with
    | nil => simp at hl
    | cons m' ms =>
      simp only [okEff] at h
      cases hc : isE c with
      | true =>
        rw [hc] at h
        simp only [Bool.and_eq_true] at h
        cases q with
        | zero =>
          simp at hm
          subst hm
          refine ⟨fun l hlast _ => ?_, fun p hp => by omega⟩
          subst hlast
          exact h.1
        | succ q =>
          simp at hq hm
          obtain ⟨g1, g2⟩ := ih ms (some i) (i + 1) h.2 (by simpa using hl) q m (by simpa using hq) hm
          refine ⟨fun l _ hno => ?_, fun p hp hpe hno => ?_⟩
          · exact absurd (by simp [hc]) (hno 0 (by omega))
          · cases p with
            | zero =>
              exact g1 i rfl (fun p hp => by
                have := hno (p + 1) (by omega) (by omega)
                simpa using this)
            | succ p =>
              have := g2 p (by omega) (by simpa using hpe) (fun r hr hr2 => by
                have := hno (r + 1) (by omega) (by omega)
                simpa using this)
              rwa [show i + 1 + p = i + (p + 1) by omega] at this
      | false =>
        rw [hc] at h
        dsimp only at h
        cases q with
        | zero => simp [hc] at hq
        | succ q =>
          simp at hq hm
          obtain ⟨g1, g2⟩ := ih ms last (i + 1) h (by simpa using hl) q m (by simpa using hq) hm
          refine ⟨fun l hlast hno => ?_, fun p hp hpe hno => ?_⟩
          · exact g1 l hlast (fun p hp => by
              have := hno (p + 1) (by omega)
              simpa using this)
          · cases p with
            | zero => simp [hc] at hpe
            | succ p =>
              have := g2 p (by omega) (by simpa using hpe) (fun r hr hr2 => by
                have := hno (r + 1) (by omega) (by omega)
                simpa using this)
              rwa [show i + 1 + p = i + (p + 1) by omega] at this
end Go.Ev

/- The evaluator Ev: a region that draws its order: the evaluator's way through it, and what it says of every order. -/
namespace Go.Ev
open Go.RowKit Go.Lib

/-! ### Environments behind a set of the operations -/
noncomputable def foldS (sel : Nat → Bool) : Nat → List (Option Tmp × Value) → List Value → List Value
  | _, [], env => env
  | k, e :: es, env => foldS sel (k + 1) es (if sel k = true then putD env e.1 e.2 else env)
theorem putD_length (env : List Value) (d : Option Tmp) (v : Value) : (putD env d v).length = env.length := by
  cases d with
  | none => rfl
  | some t => show (setL v env t).length = _; rw [setL_eq]; simp
theorem getL_putD_ne (env : List Value) (d : Option Tmp) (v : Value) (t : Nat) (h : d ≠ some t) : getL (putD env d v) t = getL env t := by
  cases d with
  | none => rfl
  | some u =>
    show getL (setL v env u) t = _
    rw [setL_eq, getL_eq, getL_eq, List.getD_eq_getElem?_getD, List.getD_eq_getElem?_getD, List.getElem?_set_ne (fun e => h (by rw [e]))]
theorem getL_putD_eq (env env' : List Value) (v : Value) (t : Nat) (h : env.length = env'.length) : getL (putD env (some t) v) t = getL (putD env' (some t) v) t := by
  show getL (setL v env t) t = getL (setL v env' t) t
  rw [setL_eq, setL_eq, getL_eq, getL_eq, List.getD_eq_getElem?_getD, List.getD_eq_getElem?_getD, List.getElem?_set, List.getElem?_set, h]
  simp
theorem getL_putD_self (env : List Value) (v : Value) (t : Nat) (h : t < env.length) : getL (putD env (some t) v) t = v := by
  show getL (setL v env t) t = v
  rw [setL_eq, getL_eq, List.getD_eq_getElem?_getD, List.getElem?_set]
  simp [h]
theorem foldS_length (sel : Nat → Bool) : ∀ (es : List (Option Tmp × Value)) (k : Nat) (env : List Value), (foldS sel k es env).length = env.length := by
  intro es
  induction es with
  | nil => intro k env; rfl
  | cons e es ih =>
    intro k env
    simp only [foldS]
    rw [ih]
    split
    · exact putD_length ..
    · rfl
theorem foldS_get {sel sel' : Nat → Bool} {t : Nat} : ∀ (es : List (Option Tmp × Value)) (k : Nat) (env env' : List Value), (∀ q e, es[q]? = some e → e.1 = some t → sel (k + q) = sel' (k + q)) → env.length = env'.length → getL env t = getL env' t →
    getL (foldS sel k es env) t = getL (foldS sel' k es env') t := by
  intro es
  induction es with
  | nil => intro k env env' _ _ h; exact h
  | cons e es ih =>
    intro k env env' hs hl hg
    simp only [foldS]
    refine ih (k + 1) _ _ (fun q e' hq ht => ?_) ?_ ?_
    · have := hs (q + 1) e' (by simpa using hq) ht
      rwa [show k + (q + 1) = k + 1 + q by omega] at this
    · split <;> split <;> simp [putD_length, hl]
    · obtain ⟨d, v⟩ := e
      by_cases hd : d = some t
      · subst hd
        have h0 := hs 0 _ rfl rfl
        simp only [Nat.add_zero] at h0
        rw [h0]
        split
        · exact getL_putD_eq _ _ _ _ hl
        · exact hg
      · split <;> split <;> simp only [getL_putD_ne _ _ _ _ hd, hg]
/-- The environment ahead of operation q, in the text's order. -/
noncomputable def putAll : List (Option Tmp × Value) → List Value → List Value
  | [], env => env
  | e :: es, env => putAll es (putD env e.1 e.2)
theorem putAll_take : ∀ (es : List (Option Tmp × Value)) (k n : Nat) (env : List Value), putAll (es.take n) env = foldS (fun q => decide (q < k + n)) k es env := by
  intro es
  induction es with
  | nil => intro k n env; simp [putAll, foldS]
  | cons e es ih =>
    intro k n env
    cases n with
    | zero =>
      have no : ∀ (es : List (Option Tmp × Value)) (j : Nat) (env : List Value), k ≤ j → foldS (fun q => decide (q < k + 0)) j es env = env := by
        intro es
        induction es with
        | nil => intro j env _; rfl
        | cons e es ih =>
          intro j env hj
          have : ¬ j < k + 0 := by omega
          simp only [foldS, this, decide_false, Bool.false_eq_true, if_false]
          exact ih (j + 1) env (by omega)
      rw [no _ _ _ (Nat.le_refl _)]
      rfl
    | succ n =>
      have : k < k + (n + 1) := by omega
      simp only [List.take_succ_cons, putAll, foldS, this, decide_true, if_true]
      rw [ih (k + 1) n]
      congr 1
      funext q
      congr 1
      apply propext
      omega

/-! ### The evaluator's way -/
section
variable (P : Program) (A : Tab) (B : Nat) (w₀ : World)
/-- The operation is an effect that comes to this. -/
def EffD (o : Oper) (env : List Value) (h : Hp) (v : Value) (h' : Hp) : Prop := ∃ rec, FnOk P B w₀ rec ∧ RoundOk P B w₀ rec ∧ Did A rec o env h v h'

/-- One operation, between two states of the way. -/
inductive D1 (all : List Oper) (o : Oper) (env : List Value) (hs : List Hp) (h : Hp) (pend : List Pend) : Pl → Value → List Hp → Hp → List Pend → Prop
  | notP {pn : Pl} (hw : wantedV all env o.guard = false) (hn : isPlE pn = false) : D1 all o env hs h pend pn undef hs h pend
  | notE (hw : wantedV all env o.guard = false) (hp : pendOk A (hs.length + 1) h pend = true) : D1 all o env hs h pend .e undef (h :: hs) h pend
  | p {v : Value} {hx : Hp} (hw : wantedV all env o.guard = true) (hv : pureOp o.op A env h = some (v, hx)) : D1 all o env hs h pend .p v hs h pend
  | r {lo hi : Nat} {t : TypeId} {x : Operand} {ptr v : Value} (hw : wantedV all env o.guard = true) (hl : loadOf o.op = some (t, x)) (hx : opnd env x = some ptr) (hv : h.loadV A t ptr = some v) (hb : backOk A t ptr v lo hs = true) :
      D1 all o env hs h pend (.r lo hi) v hs h ({ t, ptr, v, hi } :: pend)
  | e {v : Value} {h1 : Hp} (hw : wantedV all env o.guard = true) (hv : EffD P A B w₀ o env h v h1) (hp : pendOk A (hs.length + 1) h1 pend = true) : D1 all o env hs h pend .e v (h :: hs) h1 pend

inductive DT (all : List Oper) : List Oper → List Pl → List Value → List Hp → Hp → List Pend → List Value → List Hp → Hp → List Value → Prop
  | nil {pl env hs h pend} : DT all [] pl env hs h pend [] hs h env
  | cons {o os pn pl env hs h pend v vs hs1 h1 pend1 hs' h' env'} (hd : D1 P A B w₀ all o env hs h pend pn v hs1 h1 pend1) (ht : DT all os pl (putD env o.dst v) hs1 h1 pend1 vs hs' h' env') : DT all (o :: os) (pn :: pl) env hs h pend (v :: vs) hs' h' env'

def DrawTr (rec : Rec) : Prop := ∀ rd g all rest pl env ds hs pend h r, rec rd g (.draw all rest pl env ds hs pend) h = some r → ∃ vs hs' h' env', r = .out .normal env' ds h' ∧ DT P A B w₀ all rest pl env hs h pend vs hs' h' env'
end

section
variable {P : Program} {A : Tab} {B : Nat} {w₀ : World} {rec : Rec}
theorem draw_step (RF : FnOk P B w₀ rec) (RR : RoundOk P B w₀ rec) (RT : DrawTr P A B w₀ rec) {rd : Option Nat} {g : FuncId} {all rest : List Oper} {pl : List Pl} {env : List Value} {ds : List Nat} {hs : List Hp} {pend : List Pend} {h : Hp} {r : Res}
    (he : stDraw all rest pl env ds hs pend A rec rd g h = some r) : ∃ vs hs' h' env', r = .out .normal env' ds h' ∧ DT P A B w₀ all rest pl env hs h pend vs hs' h' env' := by
  cases rest with
  | nil =>
    cases he
    exact ⟨[], hs, h, env, rfl, .nil⟩
  | cons o rest =>
    cases pl with
    | nil => cases he
    | cons pn pl =>
      have step : ∀ {v hs1 h1 pend1}, D1 P A B w₀ all o env hs h pend pn v hs1 h1 pend1 → rec rd g (.draw all rest pl (putD env o.dst v) ds hs1 pend1) h1 = some r → ∃ vs hs' h' env', r = .out .normal env' ds h' ∧ DT P A B w₀ all (o :: rest) (pn :: pl) env hs h pend vs hs' h' env' := by
        intro v hs1 h1 pend1 hd hr
        obtain ⟨vs, hs', h', env', h2, h3⟩ := RT _ _ _ _ _ _ _ _ _ _ _ hr
        exact ⟨_, _, _, _, h2, .cons hd h3⟩
      replace he : drOne all rest pl o pn env ds hs pend A rec rd g h = some r := he
      unfold drOne at he
      split at he
      · rename_i hw
        cases pn with
        | p =>
          replace he : drP all rest pl o env ds hs pend A rec rd g h = some r := he
          unfold drP at he
          split at he
          case h_2 => cases he
          rename_i v hx hv
          exact step (.p hw hv) he
        | r lo hi =>
          replace he : drR all rest pl o lo hi env ds hs pend A rec rd g h = some r := he
          unfold drR at he
          split at he
          case h_2 => cases he
          rename_i t x hl
          split at he
          case h_2 => cases he
          rename_i ptr hx
          split at he
          case h_2 => cases he
          rename_i v hv
          unfold drRead at he
          split at he
          case h_2 => cases he
          rename_i hb
          exact step (.r hw hl hx hv hb) he
        | e =>
          replace he : drE all rest pl o env ds hs pend A rec rd g h = some r := he
          unfold drE at he
          split at he
          · rename_i f args hc
            unfold drBack at he
            split at he
            case h_2 => cases he
            rename_i v h1 hv
            unfold drEff at he
            split at he
            case h_2 => cases he
            rename_i hp
            exact step (.e hw ⟨rec, RF, RR, .inl ⟨f, args, hc, hv⟩⟩ hp) he
          · rename_i hc
            unfold drAfter at he
            split at he
            case h_2 => cases he
            rename_i v h1 hv
            unfold drEff at he
            split at he
            case h_2 => cases he
            rename_i hp
            exact step (.e hw ⟨rec, RF, RR, .inr ⟨hc, hv⟩⟩ hp) he
      · rename_i hw
        unfold drNot at he
        split at he
        · unfold drEff at he
          split at he
          case h_2 => cases he
          rename_i hp
          exact step (.notE hw hp) he
        · rename_i hne
          exact step (.notP hw (by cases pn <;> first | rfl | exact absurd rfl hne)) he

/-! ### What the way says -/
/-- Of operation o, between the heaps H, behind c effects. -/
def Fact (P : Program) (A : Tab) (B : Nat) (w₀ : World) (all : List Oper) (H : List Hp) (o : Oper) (pn : Pl) (env : List Value) (c : Nat) (v : Value) : Prop :=
  (wantedV all env o.guard = false ∧ v = undef ∧ (isPlE pn = true → ∃ h, H[c]? = some h ∧ H[c + 1]? = some h)) ∨
  (wantedV all env o.guard = true ∧ match pn with
    | .p => ∃ h hx, pureOp o.op A env h = some (v, hx)
    | .r lo hi => ∃ t x ptr, loadOf o.op = some (t, x) ∧ opnd env x = some ptr ∧ ∀ m h, lo ≤ m → m ≤ hi → H[m]? = some h → h.loadV A t ptr = some v
    | .e => ∃ h h1, H[c]? = some h ∧ H[c + 1]? = some h1 ∧ EffD P A B w₀ o env h v h1)

theorem eqOA_eq {a b : Option Addr} (h : eqOA a b = true) : a = b := by
  unfold eqOA at h
  split at h
  · rfl
  · unfold eqAddr at h
    split at h
    · rw [Bool.and_eq_true] at h
      rw [of_beq h.1, of_beq h.2]
    · cases h
  · cases h
theorem eqS_eq {x y : Value} (h : eqS x y = true) : x = y := by
  unfold eqS at h
  split at h
  · simp only [beq_iff_eq] at h; rw [h]
  · rw [Bool.and_eq_true, sameK_iff, eqI_eq, beq_iff_eq] at h
    rw [h.1, h.2]
  · rename_i a b
    obtain ⟨⟨a⟩⟩ := a
    obtain ⟨⟨b⟩⟩ := b
    have := eqBytes_eq a b
    simp only at h
    rw [this, beq_iff_eq] at h
    rw [h]
  · rw [eqOA_eq h]
  · simp only [Bool.and_eq_true] at h
    rw [eqOA_eq h.1.1, of_beq h.1.2, of_beq h.2]
  · rfl
  · rw [of_beq h]
  · rfl
  · rfl
  · rw [of_beq h]
  · cases h
theorem eqSs_eq : ∀ {xs ys : List Value}, eqSs xs ys = true → xs = ys := by
  intro xs
  induction xs with
  | nil => intro ys h; cases ys with
    | nil => rfl
    | cons y ys => cases h
  | cons x xs ih =>
    intro ys h
    cases ys with
    | nil => cases h
    | cons y ys =>
      simp only [eqSs, Bool.and_eq_true] at h
      rw [eqS_eq h.1, ih h.2]
theorem veq_eq {x y : Value} (h : veq x y = true) : x = y := by
  unfold veq at h
  split at h
  · rename_i xs ys
    obtain ⟨xs⟩ := xs
    obtain ⟨ys⟩ := ys
    rw [show xs = ys from eqSs_eq h]
  · exact eqS_eq h
theorem readEq_eq {t : TypeId} {ptr v : Value} {h : Hp} (e : readEq A t ptr v h = true) : h.loadV A t ptr = some v := by
  unfold readEq at e
  split at e
  · rename_i u hu
    rw [hu, veq_eq e]
  · cases e
theorem pendOk_spec {k : Nat} {h : Hp} : ∀ {ps : List Pend}, pendOk A k h ps = true → ∀ p ∈ ps, k ≤ p.hi → h.loadV A p.t p.ptr = some p.v := by
  intro ps
  induction ps with
  | nil => intro _ p hp; cases hp
  | cons x xs ih =>
    intro h p hp hk
    simp only [pendOk] at h
    split at h
    · rw [Bool.and_eq_true] at h
      cases hp with
      | head => exact readEq_eq h.1
      | tail _ hm => exact ih h.2 p hm hk
    · rename_i hn
      cases hp with
      | head => exact absurd hk (of_ble_false hn)
      | tail _ hm => exact ih h p hm hk
theorem backOk_spec {t : TypeId} {ptr v : Value} {lo : Nat} : ∀ {hs : List Hp}, backOk A t ptr v lo hs = true → ∀ m h, lo ≤ m → m < hs.length → hs.reverse[m]? = some h → h.loadV A t ptr = some v := by
  intro hs
  induction hs with
  | nil => intro _ m h _ hm; simp at hm
  | cons x xs ih =>
    intro hb m h hlo hm hg
    simp only [backOk] at hb
    simp only [List.reverse_cons] at hg
    simp only [List.length_cons] at hm
    split at hb
    · rw [Bool.and_eq_true] at hb
      by_cases hmx : m < xs.length
      · rw [List.getElem?_append_left (by simpa using hmx)] at hg
        exact ih hb.2 m h hlo hmx hg
      · have : m = xs.length := by omega
        subst this
        rw [List.getElem?_append_right (by simp)] at hg
        simp at hg
        subst hg
        exact readEq_eq hb.1
    · rename_i hn
      have := of_ble_false hn
      omega

/-- The heaps that the way comes by. -/
theorem DT.heaps {all rest : List Oper} {pl : List Pl} {env : List Value} {hs : List Hp} {h : Hp} {pend : List Pend} {vs : List Value} {hs' : List Hp} {h' : Hp} {env' : List Value} (d : DT P A B w₀ all rest pl env hs h pend vs hs' h' env') :
    ∃ fut, (h' :: hs').reverse = (h :: hs).reverse ++ fut := by
  induction d with
  | nil => exact ⟨[], by simp⟩
  | cons hd _ ih =>
    obtain ⟨fut, hf⟩ := ih
    cases hd with
    | notP => exact ⟨fut, hf⟩
    | notE => exact ⟨_, by rw [hf, List.reverse_cons, List.append_assoc]⟩
    | p => exact ⟨fut, hf⟩
    | r => exact ⟨fut, hf⟩
    | e => exact ⟨_, by rw [hf, List.reverse_cons, List.append_assoc]⟩

theorem at_len {h : Hp} {hs : List Hp} {H fut : List Hp} (e : H = (h :: hs).reverse ++ fut) : H[hs.length]? = some h := by
  subst e
  rw [List.getElem?_append_left (by simp)]
  simp

theorem at_len2 {h h1 : Hp} {hs : List Hp} {H fut : List Hp} (e : H = (h1 :: h :: hs).reverse ++ fut) : H[hs.length]? = some h := by
  rw [List.reverse_cons, List.append_assoc] at e
  exact at_len e

theorem DT.pends {all rest : List Oper} {pl : List Pl} {env : List Value} {hs : List Hp} {h : Hp} {pend : List Pend} {vs : List Value} {hs' : List Hp} {h' : Hp} {env' : List Value} (d : DT P A B w₀ all rest pl env hs h pend vs hs' h' env') :
    ∀ p ∈ pend, ∀ m hm, hs.length < m → m ≤ p.hi → (h' :: hs').reverse[m]? = some hm → hm.loadV A p.t p.ptr = some p.v := by
  induction d with
  | nil =>
    intro p _ m hm h1 _ h3
    rw [List.getElem?_eq_none (by simp; omega)] at h3
    cases h3
  | @cons o os pn pl env hs h pend v vs hs1 h1 pend1 hs' h' env' hd ht ih =>
    intro p hp m hm hlt hle hg
    have eff : ∀ (h1 : Hp) (hs1 : List Hp), hs1 = h :: hs → (∃ fut, (h' :: hs').reverse = (h1 :: hs1).reverse ++ fut) → pendOk A (hs.length + 1) h1 pend = true → (m ≠ hs.length + 1 → hm.loadV A p.t p.ptr = some p.v) → hm.loadV A p.t p.ptr = some p.v := by
      intro h1 hs1 e1 hf hpk hother
      by_cases hm1 : m = hs.length + 1
      · obtain ⟨fut, hf⟩ := hf
        subst e1
        have := at_len hf
        simp only [List.length_cons] at this
        rw [hm1, this] at hg
        cases hg
        exact pendOk_spec hpk p hp (by omega)
      · exact hother hm1
    cases hd with
    | notP => exact ih p hp m hm hlt hle hg
    | notE hw hpk => exact eff _ _ rfl ht.heaps hpk (fun hne => ih p hp m hm (by simp only [List.length_cons]; omega) hle hg)
    | p => exact ih p hp m hm hlt hle hg
    | r => exact ih p (List.mem_cons_of_mem _ hp) m hm hlt hle hg
    | e hw hv hpk => exact eff _ _ rfl ht.heaps hpk (fun hne => ih p hp m hm (by simp only [List.length_cons]; omega) hle hg)

noncomputable def cntP (pl : List Pl) (n : Nat) : Nat := (pl.take n).countP isPlE
noncomputable def ents (os : List Oper) (vs : List Value) : List (Option Tmp × Value) := (os.zip vs).map fun x => (x.1.dst, x.2)

theorem DT.facts {all rest : List Oper} {pl : List Pl} {env : List Value} {hs : List Hp} {h : Hp} {pend : List Pend} {vs : List Value} {hs' : List Hp} {h' : Hp} {env' : List Value} (d : DT P A B w₀ all rest pl env hs h pend vs hs' h' env') :
    vs.length = rest.length ∧ env' = putAll (ents rest vs) env ∧ hs'.length = hs.length + cntP pl rest.length ∧
    ∀ (k : Nat) (o : Oper), rest[k]? = some o → ∃ pn v, pl[k]? = some pn ∧ vs[k]? = some v ∧ Fact P A B w₀ all (h' :: hs').reverse o pn (putAll ((ents rest vs).take k) env) (hs.length + cntP pl k) v := by
  induction d with
  | nil => exact ⟨rfl, rfl, by simp [cntP], fun k o hk => by simp at hk⟩
  | @cons o os pn pl env hs h pend v vs hs1 h1 pend1 hs' h' env' hd ht ih =>
    obtain ⟨i1, i2, i3, i4⟩ := ih
    have hlen : hs1.length = hs.length + (if isPlE pn = true then 1 else 0) := by
      cases hd with
      | notP hw hn => simp [hn]
      | _ => simp [isPlE]
    have hcnt : ∀ n, hs1.length + cntP pl n = hs.length + cntP (pn :: pl) (n + 1) := by
      intro n
      rw [hlen]
      unfold cntP
      simp only [List.take_succ_cons, List.countP_cons]
      omega
    refine ⟨by simp [i1], by rw [i2]; rfl, by rw [i3, hcnt]; rfl, fun k o' hk => ?_⟩
    cases k with
    | succ k =>
      simp at hk
      obtain ⟨pn', v', g1, g2, g3⟩ := i4 k o' hk
      refine ⟨pn', v', by simpa using g1, by simpa using g2, ?_⟩
      rw [← hcnt]
      exact g3
    | zero =>
      simp at hk
      subst hk
      refine ⟨pn, v, rfl, rfl, ?_⟩
      have e0 : cntP (pn :: pl) 0 = 0 := rfl
      rw [e0, Nat.add_zero]
      show Fact P A B w₀ all _ o pn env hs.length v
      obtain ⟨fut1, hf1⟩ := ht.heaps
      cases hd with
      | notP hw hn => exact .inl ⟨hw, rfl, fun he => by rw [hn] at he; cases he⟩
      | notE hw hp =>
        refine .inl ⟨hw, rfl, fun _ => ⟨h, ?_, ?_⟩⟩
        · exact at_len2 hf1
        · have := at_len hf1
          simpa using this
      | p hw hv => exact .inr ⟨hw, h, _, hv⟩
      | @r lo hi t x ptr v hw hl hx hv hb =>
        refine .inr ⟨hw, t, x, ptr, hl, hx, fun m hm hlo hhi hg => ?_⟩
        rcases Nat.lt_trichotomy m hs.length with hlt | heq | hgt
        · refine backOk_spec hb m hm hlo hlt ?_
          rw [hf1, List.reverse_cons, List.append_assoc, List.getElem?_append_left (by simpa using hlt)] at hg
          exact hg
        · subst heq
          rw [at_len hf1] at hg
          cases hg
          exact hv
        · exact ht.pends { t, ptr, v, hi } (List.mem_cons_self ..) m hm hgt hhi hg
      | e hw hv hp =>
        refine .inr ⟨hw, h, h1, ?_, ?_, hv⟩
        · exact at_len2 hf1
        · have := at_len hf1
          simpa using this
end
end Go.Ev

/- The evaluator Ev: operations that touch no memory. -/
namespace Go.Ev
open Go.RowKit Go.Lib

/-- It hands back the heap that it was given, and would do so of any. -/
def Free (f : Hp → Option (Value × Hp)) : Prop := ∀ h v hx, f h = some (v, hx) → ∀ h2, f h2 = some (v, h2)
theorem free_none : Free fun _ => none := fun _ _ _ e => by cases e
theorem free_some (v : Value) : Free fun h => some (v, h) := fun _ _ _ e h2 => by cases e; rfl
theorem free_withH (x : Option Value) : Free fun h => withH h x := by
  cases x with
  | none => exact free_none
  | some v => exact free_some v

section
variable {A : Tab}
theorem free_pick (c a b : Operand) (env : List Value) : Free (opPick c a b A env) := by
  intro h v hx e h2
  unfold opPick at e ⊢
  split at e
  · exact free_withH _ h v hx e h2
  · exact free_withH _ h v hx e h2
  · cases e
theorem free_build (t : TypeId) (ps : Array (Nat × Operand)) (env : List Value) : Free (opBuild t ps A env) := by
  intro h v hx e h2
  unfold opBuild at e ⊢
  split at e
  · unfold bdGo at e ⊢
    split at e
    · unfold aggH at e ⊢
      split at e
      · cases e; rfl
      · cases e
    · cases e
  · cases e
theorem free_nil (x : Operand) (env : List Value) : Free (opNilCheck x A env) := by
  intro h v hx e h2
  unfold opNilCheck at e ⊢
  split at e
  · split at e
    · cases e; rfl
    · cases e
  · cases e
theorem free_bin (op : BinOp) (t : TypeId) (x y : Operand) (u : TypeId) (env : List Value) : Free (opBin op t x y u A env) := by
  intro h v hx e h2
  unfold opBin at e ⊢
  split at e
  · exact free_withH _ h v hx e h2
  · cases e
theorem free_un (op : UnOp) (t : TypeId) (x : Operand) (env : List Value) : Free (opUn op t x A env) := by
  intro h v hx e h2
  unfold opUn at e ⊢
  split at e
  · exact free_withH _ h v hx e h2
  · cases e
theorem free_iface (t : TypeId) (x : Operand) (env : List Value) : Free (opMakeIface t x A env) := by
  intro h v hx e h2
  unfold opMakeIface at e ⊢
  split at e
  · split at e
    · cases e
    · cases e; rfl
  · cases e
theorem free_func (fn : Fn) (p q : Array Operand) (env : List Value) : Free (opMakeFunc fn p q A env) := by
  intro h v hx e h2
  unfold opMakeFunc at e ⊢
  split at e
  · cases e; rfl
  · cases e
theorem free_slMk (base : Option Addr) (sz lo hi c : Nat) : Free fun h => slMk h base sz lo hi c := by
  intro h v hx e h2
  dsimp only at e ⊢
  unfold slMk at e ⊢
  split at e
  · cases e; rfl
  · split at e
    · cases e; rfl
    · cases e
  · cases e
theorem free_slGo (e : TypeId) (base : Option Addr) (n c : Nat) (lo hi : Option Value) : Free fun h => slGo A h e base n c lo hi := by
  intro h v hx e h2
  dsimp only at e ⊢
  unfold slGo at e ⊢
  split at e
  · split at e
    · exact free_slMk _ _ _ _ _ h v hx e h2
    · cases e
  · cases e
theorem free_slDesc (d : TypeDesc) (x : Value) (lo hi : Option Value) : Free fun h => slDesc A h d x lo hi := by
  intro h v hx e h2
  dsimp only at e ⊢
  unfold slDesc at e ⊢
  split at e
  · split at e
    · unfold slStr at e ⊢
      split at e
      · split at e
        · cases e; rfl
        · cases e
      · cases e
    · cases e
  · split at e
    · exact free_slGo _ _ _ _ _ _ h v hx e h2
    · cases e
  · split at e
    · split at e
      · exact free_slGo _ _ _ _ _ _ h v hx e h2
      · cases e
    · cases e
  · cases e
theorem free_slice (t : TypeId) (x : Operand) (lo hi mx : Option Operand) (env : List Value) : Free (opSlice t x lo hi mx A env) := by
  intro h v hx e h2
  unfold opSlice at e ⊢
  split at e
  · split at e
    · exact free_slDesc _ _ _ _ h v hx e h2
    · cases e
  · cases e
theorem free_fieldAddr (t : TypeId) (x : Operand) (f : Nat) (env : List Value) : Free (opFieldAddr t x f A env) := by
  intro h v hx e h2
  unfold opFieldAddr at e ⊢
  split at e
  · unfold faGo at e ⊢
    split at e
    · split at e
      · cases e; rfl
      · cases e
    · cases e
  · cases e
theorem free_field (t : TypeId) (x : Operand) (f : Nat) (env : List Value) : Free (opField t x f A env) := by
  intro h v hx e h2
  unfold opField at e ⊢
  split at e
  · split at e
    · exact free_withH _ h v hx e h2
    · cases e
  · cases e
theorem free_iaGo (e : TypeId) (b o n i : Nat) : Free fun h => iaGo A h e b o n i := by
  intro h v hx e h2
  dsimp only at e ⊢
  unfold iaGo at e ⊢
  split at e
  · split at e
    · cases e; rfl
    · cases e
  · cases e
theorem free_indexAddr (t : TypeId) (x ix : Operand) (env : List Value) : Free (opIndexAddr t x ix A env) := by
  intro h v hx e h2
  unfold opIndexAddr at e ⊢
  split at e
  · unfold iaDesc at e ⊢
    split at e
    · split at e
      · exact free_iaGo _ _ _ _ _ h v hx e h2
      · cases e
    · split at e
      · exact free_iaGo _ _ _ _ _ h v hx e h2
      · cases e
    · cases e
  · cases e
theorem free_index (t : TypeId) (x ix : Operand) (env : List Value) : Free (opIndex t x ix A env) := by
  intro h v hx e h2
  unfold opIndex at e ⊢
  split at e
  · unfold ixDesc at e ⊢
    split at e
    · split at e
      · unfold ixArr at e ⊢
        split at e
        · exact free_withH _ h v hx e h2
        · cases e
      · cases e
    · split at e
      · unfold ixStr at e ⊢
        split at e
        · cases e; rfl
        · cases e
      · cases e
    · cases e
  · cases e
theorem free_extract (t : Operand) (ix : Nat) (env : List Value) : Free (opExtract t ix A env) := by
  intro h v hx e h2
  unfold opExtract at e ⊢
  split at e
  · exact free_withH _ h v hx e h2
  · cases e
theorem free_convert (src dst : TypeId) (x : Operand) (env : List Value) (hc : convP A src dst = true) : Free (opConvert src dst x A env) := by
  intro h v hx e h2
  unfold opConvert at e ⊢
  split at e
  case h_2 => cases e
  rename_i u ds dd hu hs hd
  unfold convP at hc
  rw [hs, hd] at hc
  unfold cvGo at e ⊢
  split at hc
  · rename_i k1 k2 h1 h2'
    cases h1
    cases h2'
    split at e
    · exact free_withH _ h v hx e h2
    · cases e
    · cases e
    · cases e
  · rename_i h1 h2'
    cases h1
    cases h2'
    split at e
    · cases e
    · unfold cvStr at e ⊢
      cases e
      rfl
    · unfold cvBytes at e
      cases e
    · cases e
  · cases hc
theorem free_lenV (d : TypeDesc) (x : Value) (hd : (match d with | .string | .slice _ | .array _ _ => true | _ => false) = true) : Free fun h => lenV h d x := by
  intro h v hx e h2
  dsimp only at e ⊢
  unfold lenV at e ⊢
  split at e
  · split at e
    · cases e; rfl
    · cases e
  · split at e
    · cases e; rfl
    · cases e
  · split at e
    · cases hd
    · cases e
  · split at e
    · cases hd
    · cases e
  · split at e
    · cases e; rfl
    · cases e
  · cases e
theorem free_call (c : Call) (env : List Value) (hc : callP A c = true) : Free (opCall c A env) := by
  intro h v hx e h2
  unfold callP at hc
  unfold opCall at e ⊢
  cases hcal : c.callee with
  | value f => rw [hcal] at hc; cases hc
  | invoke r n => rw [hcal] at hc; cases hc
  | builtin b =>
    rw [hcal] at hc e
    replace e : opBuiltin b c.args c.argTypes A env h = some (v, hx) := e
    show opBuiltin b c.args c.argTypes A env h2 = some (v, h2)
    unfold opBuiltin at e ⊢
    split at e
    case h_2 => cases e
    rename_i vs hvs
    cases b with
    | len =>
      replace hc : lenP A c.argTypes.toList = true := hc
      replace e : buLen A h c.argTypes.toList vs = some (v, hx) := e
      show buLen A h2 c.argTypes.toList vs = some (v, h2)
      unfold buLen at e ⊢
      unfold lenP at hc
      split at e
      case h_2 => cases e
      rename_i t rest x hts
      rw [hts] at hc
      dsimp only at hc
      split at e
      case h_2 => cases e
      rename_i d hd
      rw [hd] at hc
      refine free_lenV d x ?_ h v hx e h2
      cases d <;> first | rfl | cases hc
    | cap =>
      replace e : buCap A h c.argTypes.toList vs = some (v, hx) := e
      show buCap A h2 c.argTypes.toList vs = some (v, h2)
      unfold buCap at e ⊢
      split at e
      case h_2 => cases e
      split at e
      case h_2 => cases e
      unfold capV at e ⊢
      split at e
      · cases e; rfl
      · cases e; rfl
      · cases e
    | max =>
      replace e : buMax A h c.argTypes.toList vs = some (v, hx) := e
      show buMax A h2 c.argTypes.toList vs = some (v, h2)
      unfold buMax at e ⊢
      split at e
      · exact free_withH _ h v hx e h2
      · cases e
    | min =>
      replace e : buMin A h c.argTypes.toList vs = some (v, hx) := e
      show buMin A h2 c.argTypes.toList vs = some (v, h2)
      unfold buMin at e ⊢
      split at e
      · exact free_withH _ h v hx e h2
      · cases e
    | _ => cases hc

theorem pOrE_p {b : Bool} (h : pOrE b = .p) : b = true := by cases b <;> first | rfl | cases h

/-- What the plan calls 'p'. -/
theorem pure_free (op : Op) (env : List Value) (hc : clsOf A op = .p) : Free (pureOp op A env) := by
  cases op with
  | move x => exact free_withH (opnd env x)
  | assign x => exact free_withH (opnd env x)
  | pick c a b => exact free_pick (A := A) c a b env
  | build t ps => exact free_build t ps env
  | nilCheck x => exact free_nil (A := A) x env
  | binOp op t x y u => exact free_bin op t x y u env
  | unOp op t x => exact free_un (A := A) op t x env
  | makeInterface t x => exact free_iface t x env
  | makeFunc fn p q => exact free_func (A := A) fn p q env
  | slice t x lo hi mx => exact free_slice t x lo hi mx env
  | fieldAddr t x f => exact free_fieldAddr t x f env
  | field t x f => exact free_field t x f env
  | indexAddr t x ix => exact free_indexAddr t x ix env
  | index t x ix => exact free_index t x ix env
  | extract t ix => exact free_extract (A := A) t ix env
  | convert src dst x => exact free_convert src dst x env (pOrE_p hc)
  | call c => exact free_call c env (pOrE_p hc)
  | load t x => cases hc
  | _ => first | (cases hc; done) | exact free_none
theorem cls_callee (op : Op) (hc : clsOf A op = .p) : calleeOf op = none := by
  cases op with
  | call c =>
    have h := pOrE_p (show pOrE (callP A c) = .p from hc)
    unfold callP at h
    unfold calleeOf
    cases hcal : c.callee with
    | value f => rw [hcal] at h; cases h
    | _ => simp only [hcal]
  | _ => rfl
theorem cls_load (op : Op) (hc : clsOf A op = .r) : ∃ t x, op = .load t x := by
  cases op with
  | load t x => exact ⟨t, x, rfl⟩
  | convert src dst x => 
    have : pOrE (convP A src dst) = .r := hc
    cases h : convP A src dst <;> rw [h] at this <;> cases this
  | call c =>
    have : pOrE (callP A c) = .r := hc
    cases h : callP A c <;> rw [h] at this <;> cases this
  | _ => cases hc
end
end Go.Ev

/- The evaluator Ev: a region that draws its order, in every order. -/
namespace Go.Ev
open Go.RowKit Go.Lib

section
variable {A : Tab} {all : List Oper} {pl : List Pl} {ms : List Nat} {cls : List Cls}

/-- With each operation, those that come ahead of it in every order. -/
theorem PlanOk.down (PO : PlanOk A all pl ms cls) {S : Nat → Bool} (hS : ∀ k o, all[k]? = some o → S k = true → ∀ e ∈ o.after.toList, bindsE e = true → S e.on = true) :
    ∀ (n k : Nat) (o : Oper) (m : Nat), k < n → all[k]? = some o → ms[k]? = some m → (∀ e ∈ o.after.toList, bindsE e = true → S e.on = true) → ∀ i, bitIn m i = true → S i = true := by
  intro n
  induction n with
  | zero => intro k _ _ h; omega
  | succ n ih =>
    intro k o m hk ho hm hpre i hi
    obtain ⟨m', h1, h2⟩ := PO.mask k o ho
    rw [hm] at h1
    cases h1
    rw [h2] at hi
    obtain ⟨e, he, hb, me, hme, hor⟩ := maskOf_spec _ _ _ hi
    have hlt : e.on < k := PO.back k o ho e he hb
    rw [List.getElem?_take_of_lt hlt] at hme
    rcases hor with h | h
    · rw [h]; exact hpre e he hb
    · have hlen : e.on < all.length := by
        have := (List.getElem?_eq_some_iff.1 ho).1
        omega
      exact ih e.on all[e.on] me (by omega) (List.getElem?_eq_getElem hlen) hme (hS e.on _ (List.getElem?_eq_getElem hlen) (hpre e he hb)) i h

/-- Of the effects, those ahead of one in the text come ahead of it. -/
theorem PlanOk.effs (PO : PlanOk A all pl ms cls) {S : Nat → Bool} (hS : ∀ k o, all[k]? = some o → S k = true → ∀ e ∈ o.after.toList, bindsE e = true → S e.on = true) :
    ∀ (n k p : Nat) (m : Nat), k - p ≤ n → p < k → cls[k]?.map isE = some true → ms[k]? = some m → (∀ i, bitIn m i = true → S i = true) → cls[p]?.map isE = some true → S p = true := by
  have hml : ms.length = cls.length := by rw [PO.mlen, PO.clen]; simp
  intro n
  induction n with
  | zero => intro k p m h1 h2; omega
  | succ n ih =>
    intro k p m hn hpk hk hm hpre hp
    by_cases hr : ∃ r, p < r ∧ r < k ∧ cls[r]?.map isE = some true
    · obtain ⟨r, h1, h2, h3⟩ := hr
      have hSr := ih k r m (by omega) h2 hk hm hpre h3
      have hrl : r < all.length := by
        have := (List.getElem?_eq_some_iff.1 hm).1
        rw [PO.mlen] at this
        omega
      obtain ⟨mr, hmr, _⟩ := PO.mask r _ (List.getElem?_eq_getElem hrl)
      exact ih r p mr (by omega) h1 h3 hmr (PO.down hS (r + 1) r _ mr (by omega) (List.getElem?_eq_getElem hrl) hmr (hS r _ (List.getElem?_eq_getElem hrl) hSr)) hp
    · have := (okEff_spec cls ms none 0 PO.eff hml k m hk hm).2 p hpk hp (fun r h1 h2 h3 => hr ⟨r, h1, h2, h3⟩)
      rw [Nat.zero_add] at this
      exact hpre p this

theorem cnt_take : ∀ (cs : List Cls) (pl : List Pl) (i k : Nat), pl.length = cs.length → (∀ (q : Nat) (c : Cls) (pn : Pl), cs[q]? = some c → pl[q]? = some pn → isPlE pn = isE c) → cntSel (fun q => decide (q < i + k)) i cs = cntP pl k := by
  intro cs
  induction cs with
  | nil => intro pl i k hl _; simp at hl; subst hl; simp [cntSel, cntP]
  | cons c cs ih =>
    intro pl i k hl h
    cases pl with
    | nil => simp at hl
    | cons pn pl =>
      have h0 := h 0 c pn rfl rfl
      cases k with
      | zero =>
        have no : ∀ (cs : List Cls) (j : Nat), i ≤ j → cntSel (fun q => decide (q < i + 0)) j cs = 0 := by
          intro cs
          induction cs with
          | nil => intro j _; rfl
          | cons c cs ih =>
            intro j hj
            have : ¬ j < i + 0 := by omega
            simp only [cntSel, this, decide_false, Bool.and_false, Bool.false_eq_true, if_false]
            exact ih (j + 1) (by omega)
        rw [no _ _ (Nat.le_refl _)]
        rfl
      | succ k =>
        have hlt : i < i + (k + 1) := by omega
        have ht := ih pl (i + 1) k (by simpa using hl) (fun q c' pn' hq hp => h (q + 1) c' pn' (by simpa using hq) (by simpa using hp))
        have hf : (fun q => decide (q < i + 1 + k)) = fun q => decide (q < i + (k + 1)) := by
          funext q
          congr 1
          apply propext
          omega
        rw [hf] at ht
        simp only [cntSel, hlt, decide_true, Bool.and_true, ht]
        unfold cntP
        rw [List.take_succ_cons, List.countP_cons, h0]
        split <;> rfl

theorem ents_get {os : List Oper} {vs : List Value} (hl : vs.length = os.length) {q : Nat} {e : Option Tmp × Value} (h : (ents os vs)[q]? = some e) : ∃ o v, os[q]? = some o ∧ vs[q]? = some v ∧ e = (o.dst, v) := by
  unfold ents at h
  rw [List.getElem?_map] at h
  cases hz : (os.zip vs)[q]? with
  | none => rw [hz] at h; cases h
  | some x =>
    rw [hz] at h
    cases h
    obtain ⟨h1, h2⟩ := List.getElem?_zip_eq_some.1 hz
    exact ⟨x.1, x.2, h1, h2, rfl⟩
theorem ents_take (os : List Oper) (vs : List Value) (q : Nat) (o : Oper) (v : Value) (h1 : os[q]? = some o) (h2 : vs[q]? = some v) (env : List Value) :
    putAll ((ents os vs).take (q + 1)) env = putD (putAll ((ents os vs).take q) env) o.dst v := by
  induction os generalizing vs q env with
  | nil => simp at h1
  | cons o' os ih =>
    cases vs with
    | nil => simp at h2
    | cons v' vs =>
      cases q with
      | zero =>
        simp at h1 h2
        subst h1 h2
        simp [ents, putAll]
      | succ q =>
        simp at h1 h2
        have := ih vs q h1 h2 (putD env o'.dst v')
        simpa [ents, putAll] using this

theorem memN_iff {t : Nat} : ∀ {l : List Nat}, memN t l = true ↔ t ∈ l := by
  intro l
  induction l with
  | nil => simp [memN]
  | cons x xs ih =>
    simp only [memN, List.mem_cons]
    split
    · rename_i h; simp [of_beq h]
    · rename_i h
      have := of_beq_false h
      simp [this, ih]
theorem inO_iff {d : Option Tmp} {l : List Tmp} : inO d l = true ↔ ∃ t, d = some t ∧ t ∈ l := by
  unfold inO
  cases d with
  | none => simp
  | some x => simp [memN_iff]
theorem eqO_iff {a b : Option Tmp} : eqO a b = true ↔ ∃ t, a = some t ∧ b = some t := by
  unfold eqO
  cases a with
  | none => simp
  | some x => cases b with
    | none => simp
    | some y =>
      simp only [beq_iff', Option.some.injEq]
      constructor
      · intro h; subst h; exact ⟨x, rfl, rfl⟩
      · rintro ⟨t, h1, h2⟩; rw [h1, h2]
theorem freeOf_spec {oi oj : Oper} (h : freeOf all oi oj = true) : (∀ t, oi.dst = some t → t ∉ looks all oj) ∧ (∀ t, oi.dst = some t → oj.dst ≠ some t) ∧ (∀ t, oj.dst = some t → t ∉ looks all oi) := by
  unfold freeOf at h
  simp only [Bool.not_eq_true', Bool.or_eq_false_iff] at h
  obtain ⟨⟨h1, h2⟩, h3⟩ := h
  refine ⟨fun t ht hm => ?_, fun t ht hm => ?_, fun t ht hm => ?_⟩
  · rw [inO_iff.2 ⟨t, ht, hm⟩] at h1; cases h1
  · rw [eqO_iff.2 ⟨t, ht, hm⟩] at h2; cases h2
  · rw [inO_iff.2 ⟨t, ht, hm⟩] at h3; cases h3

theorem tmpsOf_mem {t : Tmp} : ∀ {l : List Operand}, Operand.tmp t ∈ l → t ∈ tmpsOf l := by
  intro l
  induction l with
  | nil => intro h; cases h
  | cons x xs ih =>
    intro h
    cases x with
    | tmp u =>
      cases h with
      | head => exact List.mem_cons_self ..
      | tail _ hm => exact List.mem_cons_of_mem _ (ih hm)
    | _ =>
      cases h with
      | tail _ hm => exact ih hm
theorem looks_op {o : Oper} {t : Tmp} (h : Operand.tmp t ∈ o.op.operands.toList) : t ∈ looks all o := by
  have hm := tmpsOf_mem h
  unfold looks
  split
  · split
    · exact List.mem_cons_of_mem _ hm
    · exact hm
  · exact hm
theorem looks_guard {o : Oper} {j : Nat} {want : Bool} {d : Tmp} (hg : o.guard = some (j, want)) (hd : dstOf (nthL all j) = some d) : d ∈ looks all o := by
  unfold looks
  rw [hg]
  dsimp only
  rw [hd]
  exact List.mem_cons_self ..
end
end Go.Ev

/- The evaluator Ev: a region that draws its order, in every order; the evaluator is sound. -/
namespace Go.Ev
open Go.RowKit Go.Lib

theorem fnOk_none (P : Program) (B : Nat) (w₀ : World) : FnOk P B w₀ (fun _ _ _ _ => none) := fun _ _ _ _ _ _ _ e => by cases e
theorem roundOk_none (P : Program) (B : Nat) (w₀ : World) : RoundOk P B w₀ (fun _ _ _ _ => none) := fun _ _ _ _ _ _ _ e => by cases e

section
variable {P : Program} {A : Tab} {B : Nat} {w₀ : World}

theorem draw_any (T : TabOk P A) {all : List Oper} {pl : List Pl} {ms : List Nat} {cls : List Cls} (PO : PlanOk A all pl ms cls) {env : List Value} {h : Hp} {vs : List Value} {hs' : List Hp} {h' : Hp} {env' : List Value}
    (d : DT P A B w₀ all all pl env [] h [] vs hs' h' env') {i : Im} {ds : List Nat} {Q : Exit → Act → World → Prop} (rc : Option Nat) (hG : GI i) (hQ : ∀ j a' w', i.le j → ST B w₀ j h' w' env' ds a' → Q .normal a' w') :
    ∀ (fuel : Nat) (listed : Array Bool) (a : Act) (w : World), listed.size = all.length → listed.toList.count false = fuel →
      (∀ k o, all[k]? = some o → listed.getD k false = true → ∀ e ∈ o.after.toList, bindsE e = true → listed.getD e.on false = true) →
      (∃ j hm, i.le j ∧ (h' :: hs').reverse[cntSel (fun k => listed.getD k false) 0 cls]? = some hm ∧ SR B w₀ j hm w ∧ LR j (foldS (fun k => listed.getD k false) 0 (ents all vs) env) a.tmps.toList ∧ DR j ds a.defers) →
      wpAnyIn (fen rc) 0 P .any all.toArray Q fuel listed a w := by
  obtain ⟨vlen, henv, hhs, facts⟩ := d.facts
  have hml : ms.length = cls.length := by rw [PO.mlen, PO.clen]; simp
  have hcl : cls.length = all.length := by rw [PO.clen]; simp
  have hpl : pl.length = cls.length := by rw [PO.plans]; exact plans_length _ _ _ _ _ hml
  have hcls : ∀ (k : Nat) (o : Oper), all[k]? = some o → cls[k]? = some (clsOf A o.op) := fun k o hk => by rw [PO.clen, List.getElem?_map, hk]; rfl
  have hplan : ∀ (k : Nat) (o : Oper), all[k]? = some o → ∃ m, ms[k]? = some m ∧ pl[k]? = some (match clsOf A o.op with
      | .p => .p
      | .r => .r (cntLo m 0 cls) (cntHi k cls ms)
      | .e => .e) := fun k o hk => by
    obtain ⟨m, h1, h2⟩ := plans_get cls ms cls ms 0 k _ hml (hcls k o hk)
    rw [Nat.zero_add] at h2
    exact ⟨m, h1, by rw [PO.plans]; exact h2⟩
  have hisE : ∀ (q : Nat) (c : Cls) (pn : Pl), cls[q]? = some c → pl[q]? = some pn → isPlE pn = isE c := fun q c pn hc hp => by
    have hq : q < all.length := by have := (List.getElem?_eq_some_iff.1 hc).1; omega
    have h1 := hcls q _ (List.getElem?_eq_getElem hq)
    rw [hc] at h1
    cases h1
    obtain ⟨m, _, h2⟩ := hplan q _ (List.getElem?_eq_getElem hq)
    rw [hp] at h2
    cases h2
    cases clsOf A all[q].op <;> rfl
  have hcnt : ∀ k, cntSel (fun q => decide (q < k)) 0 cls = cntP pl k := fun k => by
    have := cnt_take cls pl 0 k hpl hisE
    simpa using this
  intro fuel
  induction fuel with
  | zero =>
    intro listed a w hsz hcount hdown hst
    -- nothing is left
    have hall : ∀ k, k < all.length → listed.getD k false = true := by
      intro k hk
      cases hl : listed.getD k false with
      | true => rfl
      | false =>
        exfalso
        have hk' : k < listed.size := by omega
        have : false ∈ listed.toList := by
          have h1 : listed[k] = false := by simpa [Array.getD, hk'] using hl
          exact List.mem_iff_getElem.2 ⟨k, by simpa using hk', by simpa using h1⟩
        have := List.count_pos_iff.2 this
        omega
    refine ⟨?_, ?_⟩
    · rw [List.eq_nil_iff_forall_not_mem]
      intro j hj
      obtain ⟨h1, o, h2, _⟩ := mem_ready.1 hj
      have hjl : j < all.length := by
        have := (List.getElem?_eq_some_iff.1 (by simpa using h2 : all[j]? = some o)).1
        exact this
      have h3 := hall j hjl
      have hk' : j < listed.size := by omega
      simp [Array.getD, hk'] at h1 h3
      rw [h1] at h3
      cases h3
    · obtain ⟨j, hm, hij, hH, hs, hl, hd⟩ := hst
      have e1 : cntSel (fun k => listed.getD k false) 0 cls = hs'.length := by
        rw [cntSel_congr (sel' := fun q => decide (q < all.length)) cls 0 (fun q c hq _ => by
          have : q < all.length := by have := (List.getElem?_eq_some_iff.1 hq).1; omega
          simp only [Nat.zero_add, this, decide_true]
          exact hall q this), hcnt, hhs]
        simp
      rw [e1] at hH
      have : (h' :: hs').reverse[hs'.length]? = some h' := at_len (h := h') (hs := hs') (fut := []) (by simp)
      rw [this] at hH
      cases hH
      refine hQ j a w hij ⟨hG.mono hij, hs, ?_, hd⟩
      have e2 : foldS (fun k => listed.getD k false) 0 (ents all vs) env = env' := by
        apply List.ext_getElem?
        intro t
        rw [henv]
        have hlen : (foldS (fun k => listed.getD k false) 0 (ents all vs) env).length = (putAll (ents all vs) env).length := by
          have := putAll_take (ents all vs) 0 (ents all vs).length env
          rw [List.take_length] at this
          rw [this, foldS_length, foldS_length]
        have hget : getL (foldS (fun k => listed.getD k false) 0 (ents all vs) env) t = getL (putAll (ents all vs) env) t := by
          have := putAll_take (ents all vs) 0 (ents all vs).length env
          rw [List.take_length] at this
          rw [this]
          refine foldS_get _ _ _ _ (fun q e hq _ => ?_) rfl rfl
          have h1 := (List.getElem?_eq_some_iff.1 hq).1
          obtain ⟨o, v, h2, _⟩ := ents_get vlen hq
          have h3 := (List.getElem?_eq_some_iff.1 h2).1
          simp only [Nat.zero_add, h1, decide_true]
          exact hall q h3
        by_cases ht : t < (putAll (ents all vs) env).length
        · rw [getL_eq, getL_eq, List.getD_eq_getElem?_getD, List.getD_eq_getElem?_getD] at hget
          rw [List.getElem?_eq_getElem ht, List.getElem?_eq_getElem (by omega)] at hget ⊢
          simpa using hget
        · rw [List.getElem?_eq_none (by omega), List.getElem?_eq_none (by omega)]
      rw [e2] at hl
      exact hl
  | succ fuel ih =>
    intro listed a w hsz hcount hdown hst
    refine ⟨fun hnil => ?_, fun k hk => ?_⟩
    · -- something is left, so something is ready
      exfalso
      have hall : ∀ n k, k < n → k < all.length → listed.getD k false = true := by
        intro n
        induction n with
        | zero => intro k h; omega
        | succ n ihn =>
          intro k hkn hk
          cases hl : listed.getD k false with
          | true => rfl
          | false =>
            exfalso
            have hk' : k < listed.size := by omega
            have : k ∈ Region.ready .any all.toArray listed := mem_ready.2 ⟨by simpa [Array.getD, hk'] using hl, all[k], by simp [hk], fun e he hb => ihn e.on (by
              have := PO.back k _ (List.getElem?_eq_getElem hk) e (by simpa using he) hb
              omega) (by
              have := PO.back k _ (List.getElem?_eq_getElem hk) e (by simpa using he) hb
              omega)⟩
            rw [hnil] at this
            cases this
      have : ∀ b ∈ listed.toList, b = true := by
        intro b hb
        obtain ⟨k, hk, rfl⟩ := List.mem_iff_getElem.1 hb
        have hk' : k < listed.size := by simpa using hk
        have := hall (k + 1) k (by omega) (by omega)
        simpa [Array.getD, hk'] using this
      have : listed.toList.count false = 0 := List.count_eq_zero.2 (fun hf => by have := this false hf; cases this)
      omega
    · obtain ⟨hun, o, hok, hpre⟩ := mem_ready.1 hk
      have hok : all[k]? = some o := by simpa using hok
      have hkl : k < all.length := (List.getElem?_eq_some_iff.1 hok).1
      have hks : k < listed.size := by omega
      have hun' : listed.getD k false = false := by simpa [Array.getD, hks] using hun
      have hpre : ∀ e ∈ o.after.toList, bindsE e = true → listed.getD e.on false = true := fun e he hb => hpre e (by simpa using he) hb
      obtain ⟨j, hm, hij, hH, hs, hl, hd⟩ := hst
      obtain ⟨m, hmk, hplk⟩ := hplan k o hok
      obtain ⟨pn, v, hpn, hv, hfact⟩ := facts k o hok
      rw [hplk] at hpn
      cases hpn
      have hmask : ∀ q, bitIn m q = true → listed.getD q false = true := PO.down hdown (k + 1) k o m (by omega) hok hmk hpre
      have hafter : ∀ q oq mq, k < q → all[q]? = some oq → ms[q]? = some mq → bitIn mq k = true → listed.getD q false = false := by
        intro q oq mq _ hq hmq hb
        cases hlq : listed.getD q false with
        | false => rfl
        | true =>
          have := PO.down hdown (q + 1) q oq mq (by omega) hq hmq (hdown q oq hq hlq) k hb
          rw [hun'] at this
          cases this
      -- the set behind k
      have hS' : ∀ q, (listed.setIfInBounds k true).getD q false = if q = k then true else listed.getD q false := by
        intro q
        by_cases hqk : q = k
        · subst hqk
          simp [Array.getD, hks]
        · rw [if_neg hqk, getD_set_ne false (Ne.symm hqk)]
      -- who writes the temporaries that k looks at, or writes
      have agree : ∀ t, (t ∈ looks all o ∨ o.dst = some t) → ∀ (q : Nat) (e : Option Tmp × Value), (ents all vs)[q]? = some e → e.1 = some t → q ≠ k → listed.getD q false = decide (q < k) := by
        intro t ht q e hq het hqk
        obtain ⟨oq, vq, h1, h2, rfl⟩ := ents_get vlen hq
        have hql := (List.getElem?_eq_some_iff.1 h1).1
        obtain ⟨mq, hmq, _⟩ := PO.mask q oq h1
        rcases Nat.lt_or_gt_of_ne hqk with hlt | hgt
        · simp only [hlt, decide_true]
          rcases PO.tmps q k oq o m hlt h1 hok hmk with hb | hf
          · exact hmask q hb
          · obtain ⟨f1, f2, f3⟩ := freeOf_spec hf
            rcases ht with ht | ht
            · exact absurd ht (f1 t het)
            · exact absurd ht (f2 t het)
        · have : ¬ q < k := by omega
          simp only [this, decide_false]
          rcases PO.tmps k q o oq mq hgt hok h1 hmq with hb | hf
          · exact hafter q oq mq hgt h1 hmq hb
          · obtain ⟨f1, f2, f3⟩ := freeOf_spec hf
            rcases ht with ht | ht
            · exact absurd ht (f3 t het)
            · exact absurd het (f2 t ht)
      have henvk : putAll ((ents all vs).take k) env = foldS (fun q => decide (q < k)) 0 (ents all vs) env := by
        have := putAll_take (ents all vs) 0 k env
        simpa using this
      have hlook : ∀ t, t ∈ looks all o → getL (foldS (fun q => listed.getD q false) 0 (ents all vs) env) t = getL (putAll ((ents all vs).take k) env) t := by
        intro t ht
        rw [henvk]
        refine foldS_get _ _ _ _ (fun q e hq het => ?_) rfl rfl
        rw [Nat.zero_add]
        by_cases hqk : q = k
        · subst hqk; simp [hun']
        · exact agree t (.inl ht) q e hq het hqk
      have hwant : Region.wanted o (yielded all.toArray a.tmps) = wantedV all (putAll ((ents all vs).take k) env) o.guard := by
        refine wanted_eq (i := j) o (fun jj want dd hg hdd => ?_)
        rw [← hlook dd (looks_guard hg hdd)]
        exact hl.getL dd
      have hop : ∀ x u, x ∈ o.op.operands.toList → opnd (putAll ((ents all vs).take k) env) x = some u → VR j u (a.eval x) := by
        intro x u hx hu
        cases x with
        | tmp t =>
          cases hu
          rw [← hlook t (looks_op hx)]
          exact hl.getL t
        | const c => exact opnd_VR (hG.mono hij) hl (x := .const c) hu
        | global g => exact opnd_VR (hG.mono hij) hl (x := .global g) hu
        | func f => exact opnd_VR (hG.mono hij) hl (x := .func f) hu
      -- on with the rest
      have next : ∀ j' v' w' hm', j.le j' → VR j' v v' → SR B w₀ j' hm' w' → (h' :: hs').reverse[cntSel (fun q => (listed.setIfInBounds k true).getD q false) 0 cls]? = some hm' →
          wpAnyIn (fen rc) 0 P .any all.toArray Q fuel (listed.setIfInBounds k true) (a.put o.dst v') w' := by
        intro j' v' w' hm' hjj hvr hsr hHm
        refine ih _ _ _ (by simpa using hsz) ?_ ?_ ⟨j', hm', Im.le_trans hij hjj, hHm, hsr, ?_, ?_⟩
        · rw [Array.toList_setIfInBounds, List.count_set (by simpa using hks)]
          have h1 : listed.toList[k]'(by simpa using hks) = false := by simpa [Array.getD, hks] using hun'
          have e1 : (false == false) = true := rfl
          have e2 : ¬ (true == false) = true := by decide
          rw [h1, if_pos e1, if_neg e2]
          omega
        · intro q oq hq hSq e he hb
          rw [hS'] at hSq ⊢
          split
          · rfl
          · by_cases hqk : q = k
            · subst hqk
              rw [hok] at hq
              cases hq
              exact hpre e he hb
            · rw [if_neg hqk] at hSq
              exact hdown q oq hq hSq e he hb
        · have hlen : (foldS (fun q => (listed.setIfInBounds k true).getD q false) 0 (ents all vs) env).length = (a.put o.dst v').tmps.toList.length := by
            rw [foldS_length]
            have h1 := hl.1
            rw [foldS_length] at h1
            cases o.dst with
            | none => exact h1
            | some t => simpa [Act.put] using h1
          refine ⟨hlen, fun t ht => ?_⟩
          have hL : (foldS (fun q => (listed.setIfInBounds k true).getD q false) 0 (ents all vs) env).getD t undef = getL (foldS (fun q => (listed.setIfInBounds k true).getD q false) 0 (ents all vs) env) t := (getL_eq _ _).symm
          rw [hL]
          by_cases hdt : o.dst = some t
          · have h1 : getL (foldS (fun q => (listed.setIfInBounds k true).getD q false) 0 (ents all vs) env) t = v := by
              have h2 : getL (foldS (fun q => (listed.setIfInBounds k true).getD q false) 0 (ents all vs) env) t = getL (foldS (fun q => decide (q < k + 1)) 0 (ents all vs) env) t := by
                refine foldS_get _ _ _ _ (fun q e hq het => ?_) rfl rfl
                rw [Nat.zero_add, hS']
                by_cases hqk : q = k
                · subst hqk; simp
                · rw [if_neg hqk, agree t (.inr hdt) q e hq het hqk]
                  congr 1
                  apply propext
                  omega
              rw [h2]
              have h3 := putAll_take (ents all vs) 0 (k + 1) env
              rw [Nat.zero_add] at h3
              rw [← h3, ents_take all vs k o v hok hv, hdt]
              refine getL_putD_self _ _ _ ?_
              rw [henvk, foldS_length]
              rw [foldS_length] at ht
              exact ht
            rw [h1, hdt]
            have ht' : t < a.tmps.size := by
              have h4 := hl.1
              rw [foldS_length] at h4 ht
              simp at h4
              omega
            show VR j' v ((a.tmps.setIfInBounds t v').toList.getD t undef)
            rw [Array.toList_setIfInBounds, List.getD_eq_getElem?_getD, List.getElem?_set]
            simpa [ht'] using hvr
          · have h1 : getL (foldS (fun q => (listed.setIfInBounds k true).getD q false) 0 (ents all vs) env) t = getL (foldS (fun q => listed.getD q false) 0 (ents all vs) env) t := by
              refine foldS_get _ _ _ _ (fun q e hq het => ?_) rfl rfl
              rw [Nat.zero_add, hS']
              by_cases hqk : q = k
              · subst hqk
                obtain ⟨oq, vq, h2, _, rfl⟩ := ents_get vlen hq
                rw [hok] at h2
                cases h2
                exact absurd het hdt
              · rw [if_neg hqk]
            rw [h1]
            have h2 : (a.put o.dst v').tmps.toList.getD t undef = a.tmps.getD t undef := by
              cases hdd : o.dst with
              | none => simp [Act.put]
              | some u =>
                have hut : u ≠ t := fun e => hdt (by rw [hdd, e])
                show (a.tmps.setIfInBounds u v').toList.getD t undef = _
                rw [Array.toList_setIfInBounds, List.getD_eq_getElem?_getD, List.getElem?_set_ne hut]
                simp
            rw [h2]
            exact (hl.getL t).mono hjj
        · cases o.dst with
          | none => exact hd.mono hjj
          | some t => exact hd.mono hjj
      -- the count of the effects
      have cntSame : isE (clsOf A o.op) = false → cntSel (fun q => (listed.setIfInBounds k true).getD q false) 0 cls = cntSel (fun q => listed.getD q false) 0 cls := by
        intro hne
        refine cntSel_congr cls 0 (fun q c hq hc => ?_)
        rw [Nat.zero_add, hS']
        by_cases hqk : q = k
        · subst hqk
          rw [hcls q o hok] at hq
          cases hq
          rw [hne] at hc
          cases hc
        · rw [if_neg hqk]
      have cntE : isE (clsOf A o.op) = true → cntSel (fun q => listed.getD q false) 0 cls = cntP pl k ∧ cntSel (fun q => (listed.setIfInBounds k true).getD q false) 0 cls = cntP pl k + 1 := by
        intro hE
        have hkE : cls[k]?.map isE = some true := by rw [hcls k o hok]; simp [hE]
        have key : ∀ (q : Nat) (c : Cls), cls[q]? = some c → isE c = true → q ≠ k → listed.getD q false = decide (q < k) := by
          intro q c hq hc hqk
          have hqE : cls[q]?.map isE = some true := by rw [hq]; simp [hc]
          rcases Nat.lt_or_gt_of_ne hqk with hlt | hgt
          · simp only [hlt, decide_true]
            exact PO.effs hdown (k - q) k q m (Nat.le_refl _) hlt hkE hmk hmask hqE
          · have : ¬ q < k := by omega
            simp only [this, decide_false]
            cases hlq : listed.getD q false with
            | false => rfl
            | true =>
              have hql : q < all.length := by have := (List.getElem?_eq_some_iff.1 hq).1; omega
              obtain ⟨mq, hmq, _⟩ := PO.mask q _ (List.getElem?_eq_getElem hql)
              have := PO.effs hdown (q - k) q k mq (Nat.le_refl _) hgt hqE hmq (PO.down hdown (q + 1) q _ mq (by omega) (List.getElem?_eq_getElem hql) hmq (hdown q _ (List.getElem?_eq_getElem hql) hlq)) hkE
              rw [hun'] at this
              cases this
        refine ⟨?_, ?_⟩
        · rw [← hcnt]
          refine cntSel_congr cls 0 (fun q c hq hc => ?_)
          rw [Nat.zero_add]
          by_cases hqk : q = k
          · subst hqk; simp [hun']
          · exact key q c hq hc hqk
        · have h1 : cntP pl (k + 1) = cntP pl k + 1 := by
            have hp : pl[k]? = some .e := by
              rw [hplk]
              cases hc : clsOf A o.op <;> first | rfl | (rw [hc] at hE; cases hE)
            unfold cntP
            rw [List.take_add_one, hp]
            simp [List.countP_append, isPlE]
          rw [← h1, ← hcnt]
          refine cntSel_congr cls 0 (fun q c hq hc => ?_)
          rw [Nat.zero_add, hS']
          by_cases hqk : q = k
          · subst hqk; simp
          · rw [if_neg hqk, key q c hq hc hqk]
            congr 1
            apply propext
            omega
      have hc0 : ([] : List Hp).length + cntP pl k = cntP pl k := by simp
      rw [hc0] at hfact
      unfold wpOpIn
      have hok' : all.toArray[k]? = some o := by simpa using hok
      simp only [hok', hwant]
      rcases hfact with ⟨hwf, hvu, hEff⟩ | ⟨hwt, hfact⟩
      · rw [hwf]
        simp only [Bool.false_eq_true, if_false]
        refine ⟨fun _ _ => trivial, ?_⟩
        subst hvu
        refine next j undef w hm (Im.le_refl j) (VR.undef j) hs ?_
        cases hE : isE (clsOf A o.op) with
        | false => rw [cntSame hE]; exact hH
        | true =>
          obtain ⟨c1, c2⟩ := cntE hE
          obtain ⟨hx, e1, e2⟩ := hEff (by
            have := hisE k _ _ (hcls k o hok) hplk
            rw [this]
            exact hE)
          rw [c1, e1] at hH
          cases hH
          rw [c2]
          exact e2
      · rw [hwt]
        simp only [if_true]
        cases hcl : clsOf A o.op with
        | p =>
          rw [hcl] at hfact
          obtain ⟨h0, hx, hpu⟩ := hfact
          have hpu' := pure_free o.op _ hcl h0 v hx hpu hm
          refine oper_wpIn T (fnOk_none P B w₀) (roundOk_none P B w₀) (.inr ⟨cls_callee _ hcl, hpu'⟩) (hG.mono hij) hs hop rc (fun j' v' w' hjj hvr hsr => next j' v' w' hm hjj hvr hsr ?_)
          rw [cntSame (by rw [hcl]; rfl)]
          exact hH
        | r =>
          rw [hcl] at hfact
          obtain ⟨t, x, ptr, hld, hx, hread⟩ := hfact
          obtain ⟨t', x', hopl⟩ := cls_load o.op hcl
          rw [hopl] at hld
          cases hld
          have hlo : cntLo m 0 cls ≤ cntSel (fun q => listed.getD q false) 0 cls := by
            rw [cntLo_eq]
            exact cntSel_le cls 0 (fun q c _ _ hb => by rw [Nat.zero_add] at hb ⊢; exact hmask q hb)
          have hhi : cntSel (fun q => listed.getD q false) 0 cls ≤ cntHi k cls ms := by
            rw [cntHi_eq k (fun q => !bitIn (ms.getD q 0) k) cls ms 0 hml (fun q mq hq => by
              rw [Nat.zero_add, List.getD_eq_getElem?_getD, hq]; rfl)]
            refine cntSel_le cls 0 (fun q c hq hc hSq => ?_)
            rw [Nat.zero_add] at hSq ⊢
            have hql : q < all.length := by have := (List.getElem?_eq_some_iff.1 hq).1; omega
            obtain ⟨mq, hmq, _⟩ := PO.mask q _ (List.getElem?_eq_getElem hql)
            rw [List.getD_eq_getElem?_getD, hmq]
            cases hb : bitIn mq k with
            | false => simp [hb]
            | true =>
              have := PO.down hdown (q + 1) q _ mq (by omega) (List.getElem?_eq_getElem hql) hmq (hdown q _ (List.getElem?_eq_getElem hql) hSq) k hb
              rw [hun'] at this
              cases this
          have hv' := hread _ hm hlo hhi hH
          have hpu : pureOp o.op A (putAll ((ents all vs).take k) env) hm = some (v, hm) := by
            rw [hopl]
            show opLoad t x A _ hm = _
            unfold opLoad
            rw [hx]
            dsimp only
            rw [hv']
            rfl
          refine oper_wpIn T (fnOk_none P B w₀) (roundOk_none P B w₀) (.inr ⟨by rw [hopl]; rfl, hpu⟩) (hG.mono hij) hs hop rc (fun j' v' w' hjj hvr hsr => next j' v' w' hm hjj hvr hsr ?_)
          rw [cntSame (by rw [hcl]; rfl)]
          exact hH
        | e =>
          rw [hcl] at hfact
          obtain ⟨hx, h1, e1, e2, rec, RF, RR, hdid⟩ := hfact
          obtain ⟨c1, c2⟩ := cntE (by rw [hcl]; rfl)
          rw [c1, e1] at hH
          cases hH
          refine oper_wpIn T RF RR hdid (hG.mono hij) hs hop rc (fun j' v' w' hjj hvr hsr => next j' v' w' h1 hjj hvr hsr ?_)
          rw [c2]
          exact e2

/-! ### The evaluator is sound -/
structure RecOk (P : Program) (A : Tab) (B : Nat) (w₀ : World) (rec : Rec) : Prop where
  fn : FnOk P B w₀ rec
  round : RoundOk P B w₀ rec
  code : CodeOk P B w₀ rec
  loop : LoopOk P B w₀ rec
  ops : OpsOk P B w₀ rec
  draw : DrawTr P A B w₀ rec

theorem RecOk.drawOk (T : TabOk P A) {rec : Rec} (R : RecOk P A B w₀ rec) : DrawOk P A B w₀ rec := by
  intro rd g all pl env ds h e env' ds' h' he hpl i w a rc st hrd Q hQ
  obtain ⟨vs, hs', h1, env1, hr, d⟩ := R.draw _ _ _ _ _ _ _ _ _ _ _ he
  cases hr
  obtain ⟨ms, cls, PO⟩ := planOf_ok hpl
  have hml : ms.length = cls.length := by rw [PO.mlen, PO.clen]; simp
  have hfalse : ∀ k, (Array.replicate all.length false).getD k false = false := by
    intro k
    simp [Array.getD]
  refine draw_any T PO d rc st.g (fun j a' w' hij st' => hQ j a' w' hij st') all.length _ a w (by simp) (by simp) (fun k o _ hk => by rw [hfalse] at hk; cases hk) ⟨i, h, Im.le_refl i, ?_, st.s, ?_, st.d⟩
  · obtain ⟨fut, hf⟩ := d.heaps
    have h0 : cntSel (fun k => (Array.replicate all.length false).getD k false) 0 cls = 0 := by
      have : ∀ (cs : List Cls) (i : Nat), cntSel (fun k => (Array.replicate all.length false).getD k false) i cs = 0 := by
        intro cs
        induction cs with
        | nil => intro i; rfl
        | cons c cs ih =>
          intro i
          have h1 := ih (i + 1)
          simp only [cntSel, hfalse, Bool.and_false, Bool.false_eq_true, if_false] at h1 ⊢
          exact h1
      exact this cls 0
    rw [h0]
    exact at_len (hs := []) hf
  · have : foldS (fun k => (Array.replicate all.length false).getD k false) 0 (ents all vs) env = env := by
      have : ∀ (es : List (Option Tmp × Value)) (i : Nat), foldS (fun k => (Array.replicate all.length false).getD k false) i es env = env := by
        intro es
        induction es with
        | nil => intro i; rfl
        | cons e es ih =>
          intro i
          have h1 := ih (i + 1)
          simp only [foldS, hfalse, Bool.false_eq_true, if_false] at h1 ⊢
          exact h1
      exact this _ 0
    rw [this]
    exact st.e

theorem run_succ (A : Tab) (k : Nat) (rd : Option Nat) (g : FuncId) (t : Task) (h : Hp) : run A (k + 1) rd g t h = step t A (run A k) rd g h := rfl

theorem run_sound (T : TabOk P A) (B : Nat) (w₀ : World) : ∀ k, RecOk P A B w₀ (run A k) := by
  intro k
  induction k with
  | zero =>
    refine ⟨?_, ?_, ?_, ?_, ?_, ?_⟩
    · intro _ _ _ _ _ _ _ e; cases e
    · intro _ _ _ _ _ _ _ e; cases e
    · intro _ _ _ _ _ _ _ _ _ _ e; cases e
    · intro _ _ _ _ _ _ _ _ _ _ e; cases e
    · intro _ _ _ _ _ _ _ _ _ _ _ e; cases e
    · intro _ _ _ _ _ _ _ _ _ _ _ e; cases e
  | succ k R =>
    refine ⟨?_, ?_, ?_, ?_, ?_, ?_⟩
    · intro rd g f args h v h' e i w args' hG s hl
      exact fn_step T R.code (rd := rd) (g := g) e hG s hl
    · intro rd g l args h v h' e i w args' c o n hG s hl hc
      exact round_step (A := A) R.code (rd := rd) (g := g) e hG s hl hc
    · intro rd g c env ds h e env' ds' h' he i w a rc st hrd Q hQ
      exact code_step R.code R.loop R.fn R.ops (R.drawOk T) T (rd := rd) (g := g) he st hrd Q hQ
    · intro rd g c env ds h e env' ds' h' he
      exact loop_step (A := A) R.code R.loop (rd := rd) (g := g) he
    · intro rd g all rest env ds h e env' ds' h' he i w a rc k st hrd hk Q hQ
      exact ops_step T R.fn R.round R.ops (rd := rd) (g := g) he st hrd hk Q hQ
    · intro rd g all rest pl env ds hs pend h r he
      exact draw_step R.fn R.round R.draw (rd := rd) (g := g) he

/-- What the evaluator says of a call is what the machine does. -/
theorem run_calls (T : TabOk P A) {k : Nat} {f : FuncId} {args args' : List Value} {h h' : Hp} {v : Value} {i : Im} {w : World} (e : run A k none 0 (.fn f args) h = some (.val v h')) (hG : GI i) (s : SR B w₀ i h w) (hl : LR i args args') :
    Calls P f args'.toArray w fun
      | .returned v', w' => ∃ j, i.le j ∧ VR j v v' ∧ SR B w₀ j h' w'
      | _, _ => False :=
  callsIn_wide.1 (((run_sound T B w₀ k).fn _ _ _ _ _ _ _ e i w args' hG s hl).2 _ (fun j v' w' h1 h2 h3 => ⟨j, h1, h2, h3⟩))
#print axioms run_calls
end
end Go.Ev

/- The evaluator Ev: what its tasks say of the machine; operations with calls. -/
import Derived.Test.YtjiijgdkdlelhaaGreatDoorEvJ
import Derived.LoopNIn
import Derived.RangeFuncCalls
import Derived.RangeFuncLeaves
namespace Go.Ev
open Go.RowKit Go.Lib

/-- The fence of an activation, or of a round. -/
def fen (rc : Option Nat) : Fence := { Fence.wide with round := rc }

/-- The marks of the loops over functions. -/
def DR (i : Im) : List Nat → List Deferred → Prop
  | [], [] => True
  | d :: ds, x :: xs => (∃ c o n, i d = some (c, o, n) ∧ x = { target := .collected c, args := #[] }) ∧ DR i ds xs
  | _, _ => False
theorem DR.mono {i j : Im} (h : i.le j) : ∀ {ds : List Nat} {xs : List Deferred}, DR i ds xs → DR j ds xs := by
  intro ds
  induction ds with
  | nil => intro xs d; cases xs with
    | nil => trivial
    | cons x xs => exact d.elim
  | cons y ys ih =>
    intro xs d
    cases xs with
    | nil => exact d.elim
    | cons x xs =>
      obtain ⟨⟨c, o, n, h1, h2⟩, h3⟩ := d
      exact ⟨⟨c, o, n, h _ _ h1, h2⟩, ih h3⟩

/-- In which round's frame. -/
def RD (i : Im) (rd rc : Option Nat) : Prop := (rd = none ∧ rc = none) ∨ ∃ l c o n, rd = some l ∧ rc = some c ∧ i l = some (c, o, n)
theorem RD.mono {i j : Im} (h : i.le j) {rd rc : Option Nat} (r : RD i rd rc) : RD j rd rc := by
  rcases r with r | ⟨l, c, o, n, h1, h2, h3⟩
  · exact .inl r
  · exact .inr ⟨l, c, o, n, h1, h2, h _ _ h3⟩

structure ST (B : Nat) (w₀ : World) (i : Im) (h : Hp) (w : World) (env : List Value) (ds : List Nat) (a : Act) : Prop where
  g : GI i
  s : SR B w₀ i h w
  e : LR i env a.tmps.toList
  d : DR i ds a.defers

def exOf : Ex → Exit
  | .normal => .normal
  | .exit id => .exit id
  | .ret => .ret

section
variable (P : Program) (A : Tab) (B : Nat) (w₀ : World)

def FnOk (rec : Rec) : Prop := ∀ rd g f args h v h', rec rd g (.fn f args) h = some (.val v h') → ∀ i w args', GI i → SR B w₀ i h w → LR i args args' →
  (callFunc f args'.toArray).run P w = .ok (.enter f args'.toArray) w ∧
  ∀ R : Ending → World → Prop, (∀ j v' w', i.le j → VR j v v' → SR B w₀ j h' w' → R (.returned v') w') → CallsIn Fence.wide 0 P f args'.toArray w R

def RoundOk (rec : Rec) : Prop := ∀ rd g l args h v h', rec rd g (.round l args) h = some (.val v h') → ∀ i w args' c o n, GI i → SR B w₀ i h w → LR i args args' → i l = some (c, o, n) →
  ∃ f tmps assign body, (Instr.yield c args'.toArray).run P w = .ok (.round c f tmps assign body) w ∧
  ∀ R : Ending → World → Prop, (∀ j v' w', i.le j → VR j v v' → SR B w₀ j h' w' → R (.returned v') w') → RoundIn Fence.wide 0 P c f tmps assign body w R

def CodeOk (rec : Rec) : Prop := ∀ rd g c env ds h e env' ds' h', rec rd g (.code c env ds) h = some (.out e env' ds' h') → ∀ i w a rc, ST B w₀ i h w env ds a → RD i rd rc →
  ∀ Q : Exit → Act → World → Prop, (∀ j a' w', i.le j → ST B w₀ j h' w' env' ds' a' → Q (exOf e) a' w') → c.wpIn (fen rc) 0 P Q a w

def LoopOk (rec : Rec) : Prop := ∀ rd g c env ds h e env' ds' h', rec rd g (.code (.loop c) env ds) h = some (.out e env' ds' h') → ∃ m, ∀ i w a rc, ST B w₀ i h w env ds a → RD i rd rc →
  ∀ Q : Exit → Act → World → Prop, (∀ j a' w', i.le j → ST B w₀ j h' w' env' ds' a' → Q (exOf e) a' w') → Code.roundsIn (fen rc) 0 P c Q m a w

def OpsOk (rec : Rec) : Prop := ∀ rd g all rest env ds h e env' ds' h', rec rd g (.ops all rest env ds) h = some (.out e env' ds' h') → ∀ i w a rc k, ST B w₀ i h w env ds a → RD i rd rc → rest = all.drop k →
  ∀ Q : Exit → Act → World → Prop, (∀ j a' w', i.le j → ST B w₀ j h' w' env' ds' a' → Q (exOf e) a' w') → wpOpsIn (fen rc) 0 P all.toArray Q (List.range' k rest.length) a w

/-- An operation is carried out. -/
def Did (rec : Rec) (o : Oper) (env : List Value) (h : Hp) (v : Value) (h' : Hp) : Prop :=
  (∃ f args, calleeOf o.op = some (f, args) ∧ callV rec h (opnd env f) (opnds env args) = some (.val v h')) ∨ (calleeOf o.op = none ∧ pureOp o.op A env h = some (v, h'))
end

section
variable {P : Program} {A : Tab} {B : Nat} {w₀ : World} {i : Im} {h h' : Hp} {w : World} {v : Value} {rec : Rec}

theorem calleeOf_some {op : Op} {f : Operand} {args : List Operand} (h : calleeOf op = some (f, args)) : ∃ c, op = .call c ∧ c.callee = .value f ∧ c.args.toList = args := by
  cases op with
  | call c =>
    unfold calleeOf at h
    dsimp only at h
    split at h
    · rename_i g hg
      cases h
      exact ⟨c, rfl, hg, rfl⟩
    · cases h
  | _ => cases h

theorem oper_wpIn (T : TabOk P A) (RF : FnOk P B w₀ rec) (RR : RoundOk P B w₀ rec) {o : Oper} {env : List Value} (hd : Did A rec o env h v h') (g : GI i) (s : SR B w₀ i h w) {a : Act}
    (hop : ∀ x u, x ∈ o.op.operands.toList → opnd env x = some u → VR i u (a.eval x)) (rc : Option Nat) {K : Act → World → Prop} {Q : Exit → Act → World → Prop}
    (hK : ∀ j v' w', i.le j → VR j v v' → SR B w₀ j h' w' → K (a.put o.dst v') w') : o.wpIn (fen rc) 0 P a w K Q := by
  refine ⟨fun _ _ => trivial, ?_⟩
  rcases hd with ⟨f, args, hc, hv⟩ | ⟨hc, hp⟩
  · obtain ⟨c, hO, hcal, rfl⟩ := calleeOf_some hc
    have hsem : o.semAt (fen rc).round a.eval = execOp a.eval o := Oper.semAt_eq _ _ _ (fun c' e => by rw [hO] at e; cases e)
    rw [hsem]
    cases hf : opnd env f with
    | none => rw [hf] at hv; cases hv
    | some fv =>
      cases hvs : opnds env c.args.toList with
      | none => rw [hf, hvs] at hv; cases fv <;> cases hv
      | some vs =>
        rw [hf, hvs] at hv
        have hfv := hop f fv (by rw [hO]; simp [Op.operands, Call.operands, hcal]) hf
        have hl := opnds_VR (i := i) (ρ := a.eval) _ _ (fun x u hx => hop x u (by rw [hO]; simp [Op.operands, Call.operands, hcal]; exact .inr (by simpa using hx))) hvs
        cases fv with
        | func fn first cap =>
          obtain ⟨fn', p', q', hev, hfr, hpp, hqq⟩ := hfv.inv_func
          have hres : (resolve a.eval c o.type).run P w = .ok { target := .fn fn' q', args := p' ++ c.args.map a.eval } w := by
            unfold resolve
            simp only [hcal]
            rw [hev]
            rfl
          have hex : (execOp a.eval o).run P w = (invoke (.fn fn' q') (p' ++ c.args.map a.eval)).run P w := by
            unfold execOp
            rw [hO]
            show (do let d ← resolve a.eval c o.type; invoke d.target d.args : Sem Next).run P w = _
            rw [Sem.run_bind, hres]
            rfl
          rw [hex]
          cases fn with
          | func k =>
            cases hfr
            replace hv : rec none k (.fn k (first.toList ++ vs ++ cap.toList)) h = some (.val v h') := hv
            obtain ⟨h1, h2⟩ := RF _ _ _ _ _ _ _ hv i w (p'.toList ++ c.args.toList.map a.eval ++ q'.toList) g s ((hpp.append hl).append hqq)
            have ha : (p'.toList ++ c.args.toList.map a.eval ++ q'.toList).toArray = p' ++ c.args.map a.eval ++ q' := by apply Array.ext'; simp
            rw [ha] at h1 h2
            show o.uponIn (fen rc) 0 P a K Q ((callFunc k (p' ++ c.args.map a.eval ++ q')).run P w)
            rw [h1, Oper.uponIn_enter]
            refine ⟨fun h => Bool.noConfusion (show false = true from h), ?_⟩
            exact h2 _ (fun j v' w' hij hv' hs' => hK j v' w' hij hv' hs')
          | yield l =>
            cases hfr with
            | yield hil =>
              replace hv : rec none 0 (.round l (first.toList ++ vs)) h = some (.val v h') := hv
              obtain ⟨f', tmps, assign, body, h1, h2⟩ := RR _ _ _ _ _ _ _ hv i w (p'.toList ++ c.args.toList.map a.eval) _ _ _ g s (hpp.append hl) hil
              have ha : (p'.toList ++ c.args.toList.map a.eval).toArray = p' ++ c.args.map a.eval := by apply Array.ext'; simp
              rw [ha] at h1
              show o.uponIn (fen rc) 0 P a K Q ((Instr.yield _ (p' ++ c.args.map a.eval)).run P w)
              rw [h1, Oper.uponIn_round]
              refine ⟨fun h => Bool.noConfusion (show false = true from h), ?_⟩
              exact h2 _ (fun j v' w' hij hv' hs' => hK j v' w' hij hv' hs')
          | _ => cases hv
        | _ => cases hv
  · have hsem : o.semAt (fen rc).round a.eval = execOp a.eval o := Oper.semAt_eq _ _ _ (fun c' e => by rw [e] at hp; cases hp)
    rw [hsem]
    obtain ⟨j, v', w', nx, h1, h2, h3, h4, h5⟩ := pureOp_sound T s o hop hp
    rw [h1]
    rcases h2 with rfl | ⟨rfl, rfl, rfl⟩
    · exact hK j v' w' h3 h4 h5
    · exact hK j undef w' h3 h4 h5

theorem VR.bool_iff {v v' : Value} (h : VR i v v') (b : Bool) : isB b v = isB b v' := by
  cases h with
  | scal e => cases v <;> rfl
  | _ => rfl

theorem wanted_eq {all : List Oper} {env : List Value} {a : Act} (o : Oper) (hd : ∀ j want d, o.guard = some (j, want) → dstOf (nthL all j) = some d → VR i (getL env d) (a.tmps.getD d undef)) :
    Region.wanted o (yielded all.toArray a.tmps) = wantedV all env o.guard := by
  unfold Region.wanted wantedV
  cases hg : o.guard with
  | none => rfl
  | some jw =>
    obtain ⟨j, want⟩ := jw
    dsimp only
    unfold yielded
    have hj : all.toArray[j]? = nthL all j := by rw [nthL_eq]; simp
    rw [hj]
    cases hn : nthL all j with
    | none => simp [dstOf]
    | some oj =>
      cases hdst : oj.dst with
      | none => simp [dstOf, hdst]
      | some d =>
        have hv := hd j want d hg (by rw [hn]; exact hdst)
        simp only [Option.bind_some, hdst, dstOf]
        rw [hv.bool_iff]
        by_cases hlt : d < a.tmps.size
        · have hgd : a.tmps.getD d undef = a.tmps[d] := by simp [Array.getD, hlt]
          rw [hgd, Array.getElem?_eq_getElem hlt]
          cases a.tmps[d] <;> rfl
        · have hgd : a.tmps.getD d undef = undef := by simp [Array.getD, hlt]
          rw [hgd, Array.getElem?_eq_none (Nat.le_of_not_lt hlt)]
          rfl
end
end Go.Ev

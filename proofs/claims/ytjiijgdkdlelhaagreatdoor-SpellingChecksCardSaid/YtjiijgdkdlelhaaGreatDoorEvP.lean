/- The evaluator Ev: a region that draws its order: the evaluator's way through it, and what it says of every order. -/
import Derived.Test.YtjiijgdkdlelhaaGreatDoorEvO
namespace Go.Ev
open Go.RowKit Go.Lib

/-! ### Environments behind a set of the operations -/
noncomputable def foldS (sel : Nat → Bool) : Nat → List (Option Tmp × Value) → List Value → List Value
  | _, [], env => env
  | k, e :: es, env => foldS sel (k + 1) es (if sel k = true then putD env e.1 e.2 else env)
theorem putD_length (env : List Value) (d : Option Tmp) (v : Value) : (putD env d v).length = env.length := by
  cases d with
  | none => rfl
  | some t => show (setL v env t).length = _; rw [setL_eq]; simp
theorem getL_putD_ne (env : List Value) (d : Option Tmp) (v : Value) (t : Nat) (h : d ≠ some t) : getL (putD env d v) t = getL env t := by
  cases d with
  | none => rfl
  | some u =>
    show getL (setL v env u) t = _
    rw [setL_eq, getL_eq, getL_eq, List.getD_eq_getElem?_getD, List.getD_eq_getElem?_getD, List.getElem?_set_ne (fun e => h (by rw [e]))]
theorem getL_putD_eq (env env' : List Value) (v : Value) (t : Nat) (h : env.length = env'.length) : getL (putD env (some t) v) t = getL (putD env' (some t) v) t := by
  show getL (setL v env t) t = getL (setL v env' t) t
  rw [setL_eq, setL_eq, getL_eq, getL_eq, List.getD_eq_getElem?_getD, List.getD_eq_getElem?_getD, List.getElem?_set, List.getElem?_set, h]
  simp
theorem getL_putD_self (env : List Value) (v : Value) (t : Nat) (h : t < env.length) : getL (putD env (some t) v) t = v := by
  show getL (setL v env t) t = v
  rw [setL_eq, getL_eq, List.getD_eq_getElem?_getD, List.getElem?_set]
  simp [h]
theorem foldS_length (sel : Nat → Bool) : ∀ (es : List (Option Tmp × Value)) (k : Nat) (env : List Value), (foldS sel k es env).length = env.length := by
  intro es
  induction es with
  | nil => intro k env; rfl
  | cons e es ih =>
    intro k env
    simp only [foldS]
    rw [ih]
    split
    · exact putD_length ..
    · rfl
theorem foldS_get {sel sel' : Nat → Bool} {t : Nat} : ∀ (es : List (Option Tmp × Value)) (k : Nat) (env env' : List Value), (∀ q e, es[q]? = some e → e.1 = some t → sel (k + q) = sel' (k + q)) → env.length = env'.length → getL env t = getL env' t →
    getL (foldS sel k es env) t = getL (foldS sel' k es env') t := by
  intro es
  induction es with
  | nil => intro k env env' _ _ h; exact h
  | cons e es ih =>
    intro k env env' hs hl hg
    simp only [foldS]
    refine ih (k + 1) _ _ (fun q e' hq ht => ?_) ?_ ?_
    · have := hs (q + 1) e' (by simpa using hq) ht
      rwa [show k + (q + 1) = k + 1 + q by omega] at this
    · split <;> split <;> simp [putD_length, hl]
    · obtain ⟨d, v⟩ := e
      by_cases hd : d = some t
      · subst hd
        have h0 := hs 0 _ rfl rfl
        simp only [Nat.add_zero] at h0
        rw [h0]
        split
        · exact getL_putD_eq _ _ _ _ hl
        · exact hg
      · split <;> split <;> simp only [getL_putD_ne _ _ _ _ hd, hg]
/-- The environment ahead of operation q, in the text's order. -/
noncomputable def putAll : List (Option Tmp × Value) → List Value → List Value
  | [], env => env
  | e :: es, env => putAll es (putD env e.1 e.2)
theorem putAll_take : ∀ (es : List (Option Tmp × Value)) (k n : Nat) (env : List Value), putAll (es.take n) env = foldS (fun q => decide (q < k + n)) k es env := by
  intro es
  induction es with
  | nil => intro k n env; simp [putAll, foldS]
  | cons e es ih =>
    intro k n env
    cases n with
    | zero =>
      have no : ∀ (es : List (Option Tmp × Value)) (j : Nat) (env : List Value), k ≤ j → foldS (fun q => decide (q < k + 0)) j es env = env := by
        intro es
        induction es with
        | nil => intro j env _; rfl
        | cons e es ih =>
          intro j env hj
          have : ¬ j < k + 0 := by omega
          simp only [foldS, this, decide_false, Bool.false_eq_true, if_false]
          exact ih (j + 1) env (by omega)
      rw [no _ _ _ (Nat.le_refl _)]
      rfl
    | succ n =>
      have : k < k + (n + 1) := by omega
      simp only [List.take_succ_cons, putAll, foldS, this, decide_true, if_true]
      rw [ih (k + 1) n]
      congr 1
      funext q
      congr 1
      apply propext
      omega

/-! ### The evaluator's way -/
section
variable (P : Program) (A : Tab) (B : Nat) (w₀ : World)
/-- The operation is an effect that comes to this. -/
def EffD (o : Oper) (env : List Value) (h : Hp) (v : Value) (h' : Hp) : Prop := ∃ rec, FnOk P B w₀ rec ∧ RoundOk P B w₀ rec ∧ Did A rec o env h v h'

/-- One operation, between two states of the way. -/
inductive D1 (all : List Oper) (o : Oper) (env : List Value) (hs : List Hp) (h : Hp) (pend : List Pend) : Pl → Value → List Hp → Hp → List Pend → Prop
  | notP {pn : Pl} (hw : wantedV all env o.guard = false) (hn : isPlE pn = false) : D1 all o env hs h pend pn undef hs h pend
  | notE (hw : wantedV all env o.guard = false) (hp : pendOk A (hs.length + 1) h pend = true) : D1 all o env hs h pend .e undef (h :: hs) h pend
  | p {v : Value} {hx : Hp} (hw : wantedV all env o.guard = true) (hv : pureOp o.op A env h = some (v, hx)) : D1 all o env hs h pend .p v hs h pend
  | r {lo hi : Nat} {t : TypeId} {x : Operand} {ptr v : Value} (hw : wantedV all env o.guard = true) (hl : loadOf o.op = some (t, x)) (hx : opnd env x = some ptr) (hv : h.loadV A t ptr = some v) (hb : backOk A t ptr v lo hs = true) :
      D1 all o env hs h pend (.r lo hi) v hs h ({ t, ptr, v, hi } :: pend)
  | e {v : Value} {h1 : Hp} (hw : wantedV all env o.guard = true) (hv : EffD P A B w₀ o env h v h1) (hp : pendOk A (hs.length + 1) h1 pend = true) : D1 all o env hs h pend .e v (h :: hs) h1 pend

inductive DT (all : List Oper) : List Oper → List Pl → List Value → List Hp → Hp → List Pend → List Value → List Hp → Hp → List Value → Prop
  | nil {pl env hs h pend} : DT all [] pl env hs h pend [] hs h env
  | cons {o os pn pl env hs h pend v vs hs1 h1 pend1 hs' h' env'} (hd : D1 P A B w₀ all o env hs h pend pn v hs1 h1 pend1) (ht : DT all os pl (putD env o.dst v) hs1 h1 pend1 vs hs' h' env') : DT all (o :: os) (pn :: pl) env hs h pend (v :: vs) hs' h' env'

def DrawTr (rec : Rec) : Prop := ∀ rd g all rest pl env ds hs pend h r, rec rd g (.draw all rest pl env ds hs pend) h = some r → ∃ vs hs' h' env', r = .out .normal env' ds h' ∧ DT P A B w₀ all rest pl env hs h pend vs hs' h' env'
end

section
variable {P : Program} {A : Tab} {B : Nat} {w₀ : World} {rec : Rec}
theorem draw_step (RF : FnOk P B w₀ rec) (RR : RoundOk P B w₀ rec) (RT : DrawTr P A B w₀ rec) {rd : Option Nat} {g : FuncId} {all rest : List Oper} {pl : List Pl} {env : List Value} {ds : List Nat} {hs : List Hp} {pend : List Pend} {h : Hp} {r : Res}
    (he : stDraw all rest pl env ds hs pend A rec rd g h = some r) : ∃ vs hs' h' env', r = .out .normal env' ds h' ∧ DT P A B w₀ all rest pl env hs h pend vs hs' h' env' := by
  cases rest with
  | nil =>
    cases he
    exact ⟨[], hs, h, env, rfl, .nil⟩
  | cons o rest =>
    cases pl with
    | nil => cases he
    | cons pn pl =>
      have step : ∀ {v hs1 h1 pend1}, D1 P A B w₀ all o env hs h pend pn v hs1 h1 pend1 → rec rd g (.draw all rest pl (putD env o.dst v) ds hs1 pend1) h1 = some r → ∃ vs hs' h' env', r = .out .normal env' ds h' ∧ DT P A B w₀ all (o :: rest) (pn :: pl) env hs h pend vs hs' h' env' := by
        intro v hs1 h1 pend1 hd hr
        obtain ⟨vs, hs', h', env', h2, h3⟩ := RT _ _ _ _ _ _ _ _ _ _ _ hr
        exact ⟨_, _, _, _, h2, .cons hd h3⟩
      replace he : drOne all rest pl o pn env ds hs pend A rec rd g h = some r := he
      unfold drOne at he
      split at he
      · rename_i hw
        cases pn with
        | p =>
          replace he : drP all rest pl o env ds hs pend A rec rd g h = some r := he
          unfold drP at he
          split at he
          case h_2 => cases he
          rename_i v hx hv
          exact step (.p hw hv) he
        | r lo hi =>
          replace he : drR all rest pl o lo hi env ds hs pend A rec rd g h = some r := he
          unfold drR at he
          split at he
          case h_2 => cases he
          rename_i t x hl
          split at he
          case h_2 => cases he
          rename_i ptr hx
          split at he
          case h_2 => cases he
          rename_i v hv
          unfold drRead at he
          split at he
          case h_2 => cases he
          rename_i hb
          exact step (.r hw hl hx hv hb) he
        | e =>
          replace he : drE all rest pl o env ds hs pend A rec rd g h = some r := he
          unfold drE at he
          split at he
          · rename_i f args hc
            unfold drBack at he
            split at he
            case h_2 => cases he
            rename_i v h1 hv
            unfold drEff at he
            split at he
            case h_2 => cases he
            rename_i hp
            exact step (.e hw ⟨rec, RF, RR, .inl ⟨f, args, hc, hv⟩⟩ hp) he
          · rename_i hc
            unfold drAfter at he
            split at he
            case h_2 => cases he
            rename_i v h1 hv
            unfold drEff at he
            split at he
            case h_2 => cases he
            rename_i hp
            exact step (.e hw ⟨rec, RF, RR, .inr ⟨hc, hv⟩⟩ hp) he
      · rename_i hw
        unfold drNot at he
        split at he
        · unfold drEff at he
          split at he
          case h_2 => cases he
          rename_i hp
          exact step (.notE hw hp) he
        · rename_i hne
          exact step (.notP hw (by cases pn <;> first | rfl | exact absurd rfl hne)) he

/-! ### What the way says -/
/-- Of operation o, between the heaps H, behind c effects. -/
def Fact (P : Program) (A : Tab) (B : Nat) (w₀ : World) (all : List Oper) (H : List Hp) (o : Oper) (pn : Pl) (env : List Value) (c : Nat) (v : Value) : Prop :=
  (wantedV all env o.guard = false ∧ v = undef ∧ (isPlE pn = true → ∃ h, H[c]? = some h ∧ H[c + 1]? = some h)) ∨
  (wantedV all env o.guard = true ∧ match pn with
    | .p => ∃ h hx, pureOp o.op A env h = some (v, hx)
    | .r lo hi => ∃ t x ptr, loadOf o.op = some (t, x) ∧ opnd env x = some ptr ∧ ∀ m h, lo ≤ m → m ≤ hi → H[m]? = some h → h.loadV A t ptr = some v
    | .e => ∃ h h1, H[c]? = some h ∧ H[c + 1]? = some h1 ∧ EffD P A B w₀ o env h v h1)

theorem eqOA_eq {a b : Option Addr} (h : eqOA a b = true) : a = b := by
  unfold eqOA at h
  split at h
  · rfl
  · unfold eqAddr at h
    split at h
    · rw [Bool.and_eq_true] at h
      rw [of_beq h.1, of_beq h.2]
    · cases h
  · cases h
theorem eqS_eq {x y : Value} (h : eqS x y = true) : x = y := by
  unfold eqS at h
  split at h
  · simp only [beq_iff_eq] at h; rw [h]
  · rw [Bool.and_eq_true, sameK_iff, eqI_eq, beq_iff_eq] at h
    rw [h.1, h.2]
  · rename_i a b
    obtain ⟨⟨a⟩⟩ := a
    obtain ⟨⟨b⟩⟩ := b
    have := eqBytes_eq a b
    simp only at h
    rw [this, beq_iff_eq] at h
    rw [h]
  · rw [eqOA_eq h]
  · simp only [Bool.and_eq_true] at h
    rw [eqOA_eq h.1.1, of_beq h.1.2, of_beq h.2]
  · rfl
  · rw [of_beq h]
  · rfl
  · rfl
  · rw [of_beq h]
  · cases h
theorem eqSs_eq : ∀ {xs ys : List Value}, eqSs xs ys = true → xs = ys := by
  intro xs
  induction xs with
  | nil => intro ys h; cases ys with
    | nil => rfl
    | cons y ys => cases h
  | cons x xs ih =>
    intro ys h
    cases ys with
    | nil => cases h
    | cons y ys =>
      simp only [eqSs, Bool.and_eq_true] at h
      rw [eqS_eq h.1, ih h.2]
theorem veq_eq {x y : Value} (h : veq x y = true) : x = y := by
  unfold veq at h
  split at h
  · rename_i xs ys
    obtain ⟨xs⟩ := xs
    obtain ⟨ys⟩ := ys
    rw [show xs = ys from eqSs_eq h]
  · exact eqS_eq h
theorem readEq_eq {t : TypeId} {ptr v : Value} {h : Hp} (e : readEq A t ptr v h = true) : h.loadV A t ptr = some v := by
  unfold readEq at e
  split at e
  · rename_i u hu
    rw [hu, veq_eq e]
  · cases e
theorem pendOk_spec {k : Nat} {h : Hp} : ∀ {ps : List Pend}, pendOk A k h ps = true → ∀ p ∈ ps, k ≤ p.hi → h.loadV A p.t p.ptr = some p.v := by
  intro ps
  induction ps with
  | nil => intro _ p hp; cases hp
  | cons x xs ih =>
    intro h p hp hk
    simp only [pendOk] at h
    split at h
    · rw [Bool.and_eq_true] at h
      cases hp with
      | head => exact readEq_eq h.1
      | tail _ hm => exact ih h.2 p hm hk
    · rename_i hn
      cases hp with
      | head => exact absurd hk (of_ble_false hn)
      | tail _ hm => exact ih h p hm hk
theorem backOk_spec {t : TypeId} {ptr v : Value} {lo : Nat} : ∀ {hs : List Hp}, backOk A t ptr v lo hs = true → ∀ m h, lo ≤ m → m < hs.length → hs.reverse[m]? = some h → h.loadV A t ptr = some v := by
  intro hs
  induction hs with
  | nil => intro _ m h _ hm; simp at hm
  | cons x xs ih =>
    intro hb m h hlo hm hg
    simp only [backOk] at hb
    simp only [List.reverse_cons] at hg
    simp only [List.length_cons] at hm
    split at hb
    · rw [Bool.and_eq_true] at hb
      by_cases hmx : m < xs.length
      · rw [List.getElem?_append_left (by simpa using hmx)] at hg
        exact ih hb.2 m h hlo hmx hg
      · have : m = xs.length := by omega
        subst this
        rw [List.getElem?_append_right (by simp)] at hg
        simp at hg
        subst hg
        exact readEq_eq hb.1
    · rename_i hn
      have := of_ble_false hn
      omega

/-- The heaps that the way comes by. -/
theorem DT.heaps {all rest : List Oper} {pl : List Pl} {env : List Value} {hs : List Hp} {h : Hp} {pend : List Pend} {vs : List Value} {hs' : List Hp} {h' : Hp} {env' : List Value} (d : DT P A B w₀ all rest pl env hs h pend vs hs' h' env') :
    ∃ fut, (h' :: hs').reverse = (h :: hs).reverse ++ fut := by
  induction d with
  | nil => exact ⟨[], by simp⟩
  | cons hd _ ih =>
    obtain ⟨fut, hf⟩ := ih
    cases hd with
    | notP => exact ⟨fut, hf⟩
    | notE => exact ⟨_, by rw [hf, List.reverse_cons, List.append_assoc]⟩
    | p => exact ⟨fut, hf⟩
    | r => exact ⟨fut, hf⟩
    | e => exact ⟨_, by rw [hf, List.reverse_cons, List.append_assoc]⟩

theorem at_len {h : Hp} {hs : List Hp} {H fut : List Hp} (e : H = (h :: hs).reverse ++ fut) : H[hs.length]? = some h := by
  subst e
  rw [List.getElem?_append_left (by simp)]
  simp

theorem at_len2 {h h1 : Hp} {hs : List Hp} {H fut : List Hp} (e : H = (h1 :: h :: hs).reverse ++ fut) : H[hs.length]? = some h := by
  rw [List.reverse_cons, List.append_assoc] at e
  exact at_len e

theorem DT.pends {all rest : List Oper} {pl : List Pl} {env : List Value} {hs : List Hp} {h : Hp} {pend : List Pend} {vs : List Value} {hs' : List Hp} {h' : Hp} {env' : List Value} (d : DT P A B w₀ all rest pl env hs h pend vs hs' h' env') :
    ∀ p ∈ pend, ∀ m hm, hs.length < m → m ≤ p.hi → (h' :: hs').reverse[m]? = some hm → hm.loadV A p.t p.ptr = some p.v := by
  induction d with
  | nil =>
    intro p _ m hm h1 _ h3
    rw [List.getElem?_eq_none (by simp; omega)] at h3
    cases h3
  | @cons o os pn pl env hs h pend v vs hs1 h1 pend1 hs' h' env' hd ht ih =>
    intro p hp m hm hlt hle hg
    have eff : ∀ (h1 : Hp) (hs1 : List Hp), hs1 = h :: hs → (∃ fut, (h' :: hs').reverse = (h1 :: hs1).reverse ++ fut) → pendOk A (hs.length + 1) h1 pend = true → (m ≠ hs.length + 1 → hm.loadV A p.t p.ptr = some p.v) → hm.loadV A p.t p.ptr = some p.v := by
      intro h1 hs1 e1 hf hpk hother
      by_cases hm1 : m = hs.length + 1
      · obtain ⟨fut, hf⟩ := hf
        subst e1
        have := at_len hf
        simp only [List.length_cons] at this
        rw [hm1, this] at hg
        cases hg
        exact pendOk_spec hpk p hp (by omega)
      · exact hother hm1
    cases hd with
    | notP => exact ih p hp m hm hlt hle hg
    | notE hw hpk => exact eff _ _ rfl ht.heaps hpk (fun hne => ih p hp m hm (by simp only [List.length_cons]; omega) hle hg)
    | p => exact ih p hp m hm hlt hle hg
    | r => exact ih p (List.mem_cons_of_mem _ hp) m hm hlt hle hg
    | e hw hv hpk => exact eff _ _ rfl ht.heaps hpk (fun hne => ih p hp m hm (by simp only [List.length_cons]; omega) hle hg)

noncomputable def cntP (pl : List Pl) (n : Nat) : Nat := (pl.take n).countP isPlE
noncomputable def ents (os : List Oper) (vs : List Value) : List (Option Tmp × Value) := (os.zip vs).map fun x => (x.1.dst, x.2)

theorem DT.facts {all rest : List Oper} {pl : List Pl} {env : List Value} {hs : List Hp} {h : Hp} {pend : List Pend} {vs : List Value} {hs' : List Hp} {h' : Hp} {env' : List Value} (d : DT P A B w₀ all rest pl env hs h pend vs hs' h' env') :
    vs.length = rest.length ∧ env' = putAll (ents rest vs) env ∧ hs'.length = hs.length + cntP pl rest.length ∧
    ∀ (k : Nat) (o : Oper), rest[k]? = some o → ∃ pn v, pl[k]? = some pn ∧ vs[k]? = some v ∧ Fact P A B w₀ all (h' :: hs').reverse o pn (putAll ((ents rest vs).take k) env) (hs.length + cntP pl k) v := by
  induction d with
  | nil => exact ⟨rfl, rfl, by simp [cntP], fun k o hk => by simp at hk⟩
  | @cons o os pn pl env hs h pend v vs hs1 h1 pend1 hs' h' env' hd ht ih =>
    obtain ⟨i1, i2, i3, i4⟩ := ih
    have hlen : hs1.length = hs.length + (if isPlE pn = true then 1 else 0) := by
      cases hd with
      | notP hw hn => simp [hn]
      | _ => simp [isPlE]
    have hcnt : ∀ n, hs1.length + cntP pl n = hs.length + cntP (pn :: pl) (n + 1) := by
      intro n
      rw [hlen]
      unfold cntP
      simp only [List.take_succ_cons, List.countP_cons]
      omega
    refine ⟨by simp [i1], by rw [i2]; rfl, by rw [i3, hcnt]; rfl, fun k o' hk => ?_⟩
    cases k with
    | succ k =>
      simp at hk
      obtain ⟨pn', v', g1, g2, g3⟩ := i4 k o' hk
      refine ⟨pn', v', by simpa using g1, by simpa using g2, ?_⟩
      rw [← hcnt]
      exact g3
    | zero =>
      simp at hk
      subst hk
      refine ⟨pn, v, rfl, rfl, ?_⟩
      have e0 : cntP (pn :: pl) 0 = 0 := rfl
      rw [e0, Nat.add_zero]
      show Fact P A B w₀ all _ o pn env hs.length v
      obtain ⟨fut1, hf1⟩ := ht.heaps
      cases hd with
      | notP hw hn => exact .inl ⟨hw, rfl, fun he => by rw [hn] at he; cases he⟩
      | notE hw hp =>
        refine .inl ⟨hw, rfl, fun _ => ⟨h, ?_, ?_⟩⟩
        · exact at_len2 hf1
        · have := at_len hf1
          simpa using this
      | p hw hv => exact .inr ⟨hw, h, _, hv⟩
      | @r lo hi t x ptr v hw hl hx hv hb =>
        refine .inr ⟨hw, t, x, ptr, hl, hx, fun m hm hlo hhi hg => ?_⟩
        rcases Nat.lt_trichotomy m hs.length with hlt | heq | hgt
        · refine backOk_spec hb m hm hlo hlt ?_
          rw [hf1, List.reverse_cons, List.append_assoc, List.getElem?_append_left (by simpa using hlt)] at hg
          exact hg
        · subst heq
          rw [at_len hf1] at hg
          cases hg
          exact hv
        · exact ht.pends { t, ptr, v, hi } (List.mem_cons_self ..) m hm hgt hhi hg
      | e hw hv hp =>
        refine .inr ⟨hw, h, h1, ?_, ?_, hv⟩
        · exact at_len2 hf1
        · have := at_len hf1
          simpa using this
end
end Go.Ev

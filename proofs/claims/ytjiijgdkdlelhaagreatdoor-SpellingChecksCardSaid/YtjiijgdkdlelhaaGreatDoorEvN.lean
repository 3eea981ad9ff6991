/- The evaluator Ev: code. -/
import Derived.Test.YtjiijgdkdlelhaaGreatDoorEvM
import Derived.OrdersIn
namespace Go.Ev
open Go.RowKit Go.Lib

section
variable (P : Program) (A : Tab) (B : Nat) (w₀ : World)
/-- A region that draws its order comes, in every order, to what the evaluator says. -/
def DrawOk (rec : Rec) : Prop := ∀ rd g all pl env ds h e env' ds' h', rec rd g (.draw all all pl env ds [] []) h = some (.out e env' ds' h') → planOf A all = some pl → ∀ i w a rc, ST B w₀ i h w env ds a → RD i rd rc →
  ∀ Q : Exit → Act → World → Prop, (∀ j a' w', i.le j → ST B w₀ j h' w' env' ds' a' → Q (exOf e) a' w') → wpAnyIn (fen rc) 0 P .any all.toArray Q all.length (Array.replicate all.length false) a w
end

section
variable {P : Program} {A : Tab} {B : Nat} {w₀ : World} {i : Im} {h h' : Hp} {w : World} {rec : Rec}

theorem seq_parts {b : Code} {rd : Option Nat} {g : FuncId} {r : Option Res} {e : Ex} {env' : List Value} {ds' : List Nat} (he : sqThen b rec rd g r = some (.out e env' ds' h')) :
    (∃ env1 ds1 h1, r = some (.out .normal env1 ds1 h1) ∧ rec rd g (.code b env1 ds1) h1 = some (.out e env' ds' h')) ∨ (e ≠ .normal ∧ r = some (.out e env' ds' h')) := by
  unfold sqThen at he
  split at he
  · exact .inl ⟨_, _, _, rfl, he⟩
  · rename_i hn
    refine .inr ⟨fun e => ?_, he⟩
    subst e
    exact hn _ _ _ he

theorem then_other {e : Ex} (hne : e ≠ .normal) (K : Act → World → Prop) (Q : Exit → Act → World → Prop) (a : Act) (w : World) : Exit.then K Q (exOf e) a w = Q (exOf e) a w := by
  cases e with
  | normal => exact absurd rfl hne
  | exit id => rfl
  | ret => rfl

theorem rfEnter_VS {rd : Option Nat} {rc : Option Nat} {fn fn' : FuncId} {env : List Value} {tmps : Array Value} {ps : Array Tmp} {assign body : Code} {l : Nat} {mark : List Nat} {h1 : Hp} (g : GI i) (s : SR B w₀ i h w) (he : LR i env tmps.toList) (hrd : RD i rd rc)
    (e : rfEnter rd fn env ps.toList assign body h = some (l, mark, h1)) :
    ∃ j lc mark' w1, (Instr.enterLoop fn' tmps ps assign body rc).run P w = .ok (lc, mark') w1 ∧ i.le j ∧ SR B w₀ j h1 w1 ∧ (∃ o n, j l = some (lc, o, n)) ∧ DR j mark mark' := by
  have new : ∀ (i : Im) (h : Hp) (w : World) (db dc : Nat) (mark : List Nat), SR B w₀ i h w → LR i env tmps.toList → (∃ o n, i db = some (dc, o, n)) → rfNew fn env ps.toList assign body db mark h = some (l, mark, h1) →
      ∃ j, i.le j ∧ SR B w₀ j h1 (w.alloc (.loop { state := .ready, pending := none, fn := fn', tmps, params := ps, assign, body, defers := dc })) ∧ (∃ o n, j l = some (w.heap.size, o, n)) := by
    intro i h w db dc mark s he hd e
    unfold rfNew at e
    split at e
    case h_2 => cases e
    rename_i nb h2 hn
    cases e
    have hle : i.le (i.set l (w.heap.size, 0, 1)) := Im.le_set (by rw [(Hp.new_some hn).1]; exact s.none _)
    refine ⟨_, hle, s.new hn (.loop { state := .ready, pending := none, fn := fn', tmps, params := ps, assign, body, defers := dc }) 1 ⟨{ state := .ready, pending := none, fn := fn', tmps, params := ps, assign, body, defers := dc }, ?_, rfl, rfl, he.mono hle, rfl, rfl, rfl, ?_, s.size, rfl⟩, ⟨0, 1, Im.set_self _ _ _⟩⟩
    · show (w.heap.push _)[w.heap.size]? = _
      simp
    · obtain ⟨o, n, hd⟩ := hd
      exact ⟨o, n, hle _ _ hd⟩
  unfold rfEnter at e
  rcases hrd with ⟨rfl, rfl⟩ | ⟨l0, c0, o0, n0, rfl, rfl, hi⟩
  · dsimp only at e
    split at e
    case h_2 => cases e
    rename_i db h2 hn
    have hle : i.le (i.set db (w.heap.size, 0, 1)) := Im.le_set (by rw [(Hp.new_some hn).1]; exact s.none _)
    have s2 := s.new hn (.deferred (some [])) 1 ⟨by show (w.heap.push _)[w.heap.size]? = _; simp, s.size, rfl⟩
    have hm : mark = [db] := by
      unfold rfNew at e
      split at e
      · cases e; rfl
      · cases e
    subst hm
    obtain ⟨j, h3, h4, h5⟩ := new _ _ _ _ w.heap.size _ s2 (he.mono hle) ⟨0, 1, Im.set_self _ _ _⟩ e
    refine ⟨j, (w.alloc (.deferred (some []))).heap.size, [{ target := .collected w.heap.size, args := #[] }], _, ?_, Im.le_trans hle h3, h4, h5, ⟨w.heap.size, 0, 1, h3 _ _ (Im.set_self _ _ _), rfl⟩, trivial⟩
    simp only [Instr.enterLoop, Sem.run_bind, run_newObj, Result.andThen_ok, Sem.run_pure]
    rfl
  · dsimp only at e
    split at e
    case h_2 => cases e
    rename_i r0 hg0
    obtain ⟨rc0, g1, g2, g3, g4, g5, g6, g7, g8, g9, g11, g10⟩ := loop_turn (P := P) s hg0 hi
    have hm : mark = [] := by
      unfold rfNew at e
      split at e
      · cases e; rfl
      · cases e
    subst hm
    obtain ⟨j, h3, h4, h5⟩ := new _ _ _ _ rc0.defers _ s he g9 e
    refine ⟨j, w.heap.size, [], _, ?_, h3, h4, h5, trivial⟩
    simp only [Instr.enterLoop, Sem.run_bind, g1, run_newObj, Result.andThen_ok, Sem.run_pure]
    rfl

theorem DR.append {ds ds' : List Nat} {xs xs' : List Deferred} (h : DR i ds xs) (k : DR i ds' xs') : DR i (ds ++ ds') (xs ++ xs') := by
  induction ds generalizing xs with
  | nil => cases xs with
    | nil => exact k
    | cons x xs => exact h.elim
  | cons d ds ih => cases xs with
    | nil => exact h.elim
    | cons x xs => exact ⟨h.1, ih h.2⟩

theorem range_step (RC : CodeOk P B w₀ rec) (RF : FnOk P B w₀ rec) {rd : Option Nat} {g : FuncId} {go : Operand} {ps : Array Tmp} {assign body : Code} {env : List Value} {ds : List Nat} {e : Ex} {env' : List Value} {ds' : List Nat}
    (he : cdRange go ps assign body env ds A rec rd g h = some (.out e env' ds' h')) {a : Act} {rc : Option Nat} (st : ST B w₀ i h w env ds a) (hrd : RD i rd rc)
    (Q : Exit → Act → World → Prop) (hQ : ∀ j a' w', i.le j → ST B w₀ j h' w' env' ds' a' → Q (exOf e) a' w') : (Code.rangeFunc go ps assign body).wpIn (fen rc) 0 P Q a w := by
  unfold cdRange at he
  split at he
  case h_2 => cases he
  rename_i gf first cap hgo
  obtain ⟨fn', p', q', hev, hfr, hpp, hqq⟩ := (st.hop _ _ hgo).inv_func
  cases hfr
  unfold rfGo at he
  split at he
  case h_2 => cases he
  rename_i l mark h1 hent
  unfold rfBack at he
  split at he
  case h_2 => cases he
  rename_i v h2 hcall
  split at he
  case h_2 => cases he
  rename_i r hg2
  refine wpIn_rangeFunc (fun fn _ => ?_)
  obtain ⟨j, lc, mark', w1, hrun, hij, s1, ⟨o, n, hl⟩, hdm⟩ := rfEnter_VS (P := P) (fn' := fn) st.g st.s st.e hrd hent
  have hargs : LR j (first.toList ++ [.func (.yield l) #[] #[]] ++ cap.toList) (p'.toList ++ [.func (.yield lc) #[] #[]] ++ q'.toList) :=
    ((hpp.mono hij).append ((LR.nil j).cons (VR.func' (.yield hl) (LR.nil j) (LR.nil j)))).append (hqq.mono hij)
  obtain ⟨c1, c2⟩ := RF _ _ _ _ _ _ _ hcall j w1 _ (st.g.mono hij) s1 hargs
  have ha : (p'.toList ++ [Value.func (.yield lc) #[] #[]] ++ q'.toList).toArray = p' ++ #[Value.func (.yield lc) #[] #[]] ++ q' := by apply Array.ext'; simp
  rw [ha] at c1 c2
  refine ⟨lc, mark', w1, { target := .fn (.func gf) q', args := p' ++ #[Value.func (.yield lc) #[] #[]] }, w1, gf, _, w1, hrun, ?_, fun _ _ => trivial, c1, fun h => Bool.noConfusion (show false = true from h), ?_⟩
  · unfold resolve
    show (Deferred.ofValue (a.eval go) _).run P w1 = _
    rw [hev]
    simp [Deferred.ofValue, Act.eval]
  · refine c2 _ (fun j2 v' w2 hij2 _ s2 => ?_)
    have hi2 : i.le j2 := Im.le_trans hij hij2
    obtain ⟨rc2, k1, k2, k3, k4, k5, k6, k7, k8, k9, k11, k10⟩ := loop_turn (P := P) s2 hg2 (hij2 _ _ hl)
    unfold rfEnd at he
    split at he
    · cases he
    · rename_i hnb
      have hnb2 : (rc2.state == LoopState.busy) = false := by
        rw [k3]
        cases hs : r.state <;> first | rfl | exact absurd hs hnb
      refine ⟨rc2.pending, { w2 with heap := w2.heap.setIfInBounds lc (.loop { rc2 with state := .exhausted }) }, ?_, ?_⟩
      · simp only [Instr.endLoop, Sem.run_bind, k1, Result.andThen_ok, hnb2, Bool.false_eq_true, if_false, k11, Sem.run_pure]
      · have hs3 := k10 .exhausted r.pending
        have hex1 : ({ r with state := .exhausted, pending := r.pending } : ALoop) = { r with state := .exhausted } := rfl
        have hex2 : ({ rc2 with state := .exhausted, pending := r.pending } : Loop) = { rc2 with state := .exhausted } := by rw [← k4]
        rw [hex1, hex2] at hs3
        have st3 : ST B w₀ j2 (h2.upd l (.loop { r with state := .exhausted })) { w2 with heap := w2.heap.setIfInBounds lc (.loop { rc2 with state := .exhausted }) } env (mark ++ ds) { a with defers := mark' ++ a.defers } :=
          ⟨st.g.mono hi2, hs3, st.e.mono hi2, (hdm.mono hij2).append (st.d.mono hi2)⟩
        generalize ({ w2 with heap := w2.heap.setIfInBounds lc (.loop { rc2 with state := .exhausted }) } : World) = w3 at st3 ⊢
        split at he
        · rename_i hpn
          rw [k4.trans hpn]
          cases he
          exact hQ j2 _ _ hi2 st3
        · rename_i jc hpn
          rw [k4.trans hpn]
          exact RC _ _ _ _ _ _ _ _ _ _ he j2 _ _ rc st3 (hrd.mono hi2) Q (fun j3 a' w' hj st' => hQ j3 a' w' (Im.le_trans hi2 hj) st')

theorem loop_step (RC : CodeOk P B w₀ rec) (RL : LoopOk P B w₀ rec) {rd : Option Nat} {g : FuncId} {c : Code} {env : List Value} {ds : List Nat} {e : Ex} {env' : List Value} {ds' : List Nat}
    (he : stCode (.loop c) env ds A rec rd g h = some (.out e env' ds' h')) : ∃ m, ∀ i w a rc, ST B w₀ i h w env ds a → RD i rd rc →
    ∀ Q : Exit → Act → World → Prop, (∀ j a' w', i.le j → ST B w₀ j h' w' env' ds' a' → Q (exOf e) a' w') → Code.roundsIn (fen rc) 0 P c Q m a w := by
  rcases seq_parts (show sqThen (.loop c) rec rd g (rec rd g (.code c env ds) h) = _ from he) with ⟨env1, ds1, h1, hx, hy⟩ | ⟨hne, hx⟩
  · obtain ⟨m, hm⟩ := RL _ _ _ _ _ _ _ _ _ _ hy
    refine ⟨m + 1, fun i w a rc st hrd Q hQ => ?_⟩
    rw [roundsIn_succ]
    refine RC _ _ _ _ _ _ _ _ _ _ hx i w a rc st hrd _ (fun j a' w' hij st' => ?_)
    exact hm j w' a' rc st' (hrd.mono hij) Q (fun j2 a2 w2 hj st2 => hQ j2 a2 w2 (Im.le_trans hij hj) st2)
  · refine ⟨1, fun i w a rc st hrd Q hQ => ?_⟩
    rw [roundsIn_succ]
    refine RC _ _ _ _ _ _ _ _ _ _ hx i w a rc st hrd _ (fun j a' w' hij st' => ?_)
    rw [then_other hne]
    exact hQ j a' w' hij st'

theorem code_step (RC : CodeOk P B w₀ rec) (RL : LoopOk P B w₀ rec) (RF : FnOk P B w₀ rec) (RO : OpsOk P B w₀ rec) (RDr : DrawOk P A B w₀ rec) (T : TabOk P A) {rd : Option Nat} {g : FuncId} {c : Code} {env : List Value} {ds : List Nat} {e : Ex} {env' : List Value} {ds' : List Nat}
    (he : stCode c env ds A rec rd g h = some (.out e env' ds' h')) {a : Act} {rc : Option Nat} (st : ST B w₀ i h w env ds a) (hrd : RD i rd rc)
    (Q : Exit → Act → World → Prop) (hQ : ∀ j a' w', i.le j → ST B w₀ j h' w' env' ds' a' → Q (exOf e) a' w') : c.wpIn (fen rc) 0 P Q a w := by
  cases c with
  | skip =>
    cases he
    exact wpIn_skip (hQ i a w (Im.le_refl i) st)
  | label l =>
    cases he
    exact wpIn_label (hQ i a w (Im.le_refl i) st)
  | exit id =>
    cases he
    exact wpIn_exit (hQ i a w (Im.le_refl i) st)
  | ret =>
    cases he
    exact wpIn_ret (hQ i a w (Im.le_refl i) st)
  | seq x y =>
    refine wpIn_seq ?_
    rcases seq_parts (show sqThen y rec rd g (rec rd g (.code x env ds) h) = _ from he) with ⟨env1, ds1, h1, hx, hy⟩ | ⟨hne, hx⟩
    · refine RC _ _ _ _ _ _ _ _ _ _ hx i w a rc st hrd _ (fun j a' w' hij st' => ?_)
      exact RC _ _ _ _ _ _ _ _ _ _ hy j w' a' rc st' (hrd.mono hij) Q (fun j2 a2 w2 hj st2 => hQ j2 a2 w2 (Im.le_trans hij hj) st2)
    · refine RC _ _ _ _ _ _ _ _ _ _ hx i w a rc st hrd _ (fun j a' w' hij st' => ?_)
      rw [then_other hne]
      exact hQ j a' w' hij st'
  | cond x p q =>
    replace he : cdCond x p q env ds A rec rd g h = _ := he
    unfold cdCond at he
    split at he
    · rename_i hx
      exact wpIn_cond_true (st.hop _ _ hx).inv_bool (RC _ _ _ _ _ _ _ _ _ _ he i w a rc st hrd Q hQ)
    · rename_i hx
      exact wpIn_cond_false (st.hop _ _ hx).inv_bool (RC _ _ _ _ _ _ _ _ _ _ he i w a rc st hrd Q hQ)
    · cases he
  | block id body =>
    refine wpIn_block ?_
    replace he : bkOut id (rec rd g (.code body env ds) h) = _ := he
    unfold bkOut at he
    split at he
    · rename_i id' env1 ds1 h1 hb
      split at he
      · rename_i hid
        have hid := of_beq hid
        cases he
        refine RC _ _ _ _ _ _ _ _ _ _ hb i w a rc st hrd _ (fun j a' w' hij st' => ?_)
        simp only [exOf, Exit.inBlock, hid, if_true]
        exact hQ j a' w' hij st'
      · rename_i hid
        have hid := of_beq_false hid
        cases he
        refine RC _ _ _ _ _ _ _ _ _ _ hb i w a rc st hrd _ (fun j a' w' hij st' => ?_)
        simp only [exOf, Exit.inBlock, hid, if_false]
        exact hQ j a' w' hij st'
    · rename_i hn
      refine RC _ _ _ _ _ _ _ _ _ _ he i w a rc st hrd _ (fun j a' w' hij st' => ?_)
      have := hQ j a' w' hij st'
      cases e with
      | normal => exact this
      | ret => exact this
      | exit id' => exact absurd he (hn _ _ _ _)
  | loop body =>
    obtain ⟨m, hm⟩ := loop_step RC RL he
    exact wpIn_loop_rounds m (hm i w a rc st hrd Q hQ)
  | region id ops draw =>
    replace he : cdRegion ops draw env ds A rec rd g h = _ := he
    unfold cdRegion at he
    split at he
    · split at he
      case h_2 => cases he
      rename_i pl hpl
      refine wpIn_region_any T.mixed ?_
      have := RDr _ _ _ _ _ _ _ _ _ _ _ he hpl i { w with drawn := w.drawn + 1 } a rc ⟨st.g, st.s.drew, st.e, st.d⟩ hrd Q hQ
      simpa using this
    · refine wpIn_region ?_
      have := RO _ _ _ _ _ _ _ _ _ _ _ he i w a rc 0 st hrd rfl Q hQ
      simpa [List.range_eq_range'] using this
  | rangeFunc go ps assign body => exact range_step (A := A) RC RF he st hrd Q hQ
  | _ => cases he
end
end Go.Ev

/- The evaluator Ev: a region that draws its order, in every order; the evaluator is sound. -/
import Derived.Test.YtjiijgdkdlelhaaGreatDoorEvR
namespace Go.Ev
open Go.RowKit Go.Lib

theorem fnOk_none (P : Program) (B : Nat) (w₀ : World) : FnOk P B w₀ (fun _ _ _ _ => none) := fun _ _ _ _ _ _ _ e => by cases e
theorem roundOk_none (P : Program) (B : Nat) (w₀ : World) : RoundOk P B w₀ (fun _ _ _ _ => none) := fun _ _ _ _ _ _ _ e => by cases e

section
variable {P : Program} {A : Tab} {B : Nat} {w₀ : World}

theorem draw_any (T : TabOk P A) {all : List Oper} {pl : List Pl} {ms : List Nat} {cls : List Cls} (PO : PlanOk A all pl ms cls) {env : List Value} {h : Hp} {vs : List Value} {hs' : List Hp} {h' : Hp} {env' : List Value}
    (d : DT P A B w₀ all all pl env [] h [] vs hs' h' env') {i : Im} {ds : List Nat} {Q : Exit → Act → World → Prop} (rc : Option Nat) (hG : GI i) (hQ : ∀ j a' w', i.le j → ST B w₀ j h' w' env' ds a' → Q .normal a' w') :
    ∀ (fuel : Nat) (listed : Array Bool) (a : Act) (w : World), listed.size = all.length → listed.toList.count false = fuel →
      (∀ k o, all[k]? = some o → listed.getD k false = true → ∀ e ∈ o.after.toList, bindsE e = true → listed.getD e.on false = true) →
      (∃ j hm, i.le j ∧ (h' :: hs').reverse[cntSel (fun k => listed.getD k false) 0 cls]? = some hm ∧ SR B w₀ j hm w ∧ LR j (foldS (fun k => listed.getD k false) 0 (ents all vs) env) a.tmps.toList ∧ DR j ds a.defers) →
      wpAnyIn (fen rc) 0 P .any all.toArray Q fuel listed a w := by
  obtain ⟨vlen, henv, hhs, facts⟩ := d.facts
  have hml : ms.length = cls.length := by rw [PO.mlen, PO.clen]; simp
  have hcl : cls.length = all.length := by rw [PO.clen]; simp
  have hpl : pl.length = cls.length := by rw [PO.plans]; exact plans_length _ _ _ _ _ hml
  have hcls : ∀ (k : Nat) (o : Oper), all[k]? = some o → cls[k]? = some (clsOf A o.op) := fun k o hk => by rw [PO.clen, List.getElem?_map, hk]; rfl
  have hplan : ∀ (k : Nat) (o : Oper), all[k]? = some o → ∃ m, ms[k]? = some m ∧ pl[k]? = some (match clsOf A o.op with
      | .p => .p
      | .r => .r (cntLo m 0 cls) (cntHi k cls ms)
      | .e => .e) := fun k o hk => by
    obtain ⟨m, h1, h2⟩ := plans_get cls ms cls ms 0 k _ hml (hcls k o hk)
    rw [Nat.zero_add] at h2
    exact ⟨m, h1, by rw [PO.plans]; exact h2⟩
  have hisE : ∀ (q : Nat) (c : Cls) (pn : Pl), cls[q]? = some c → pl[q]? = some pn → isPlE pn = isE c := fun q c pn hc hp => by
    have hq : q < all.length := by have := (List.getElem?_eq_some_iff.1 hc).1; omega
    have h1 := hcls q _ (List.getElem?_eq_getElem hq)
    rw [hc] at h1
    cases h1
    obtain ⟨m, _, h2⟩ := hplan q _ (List.getElem?_eq_getElem hq)
    rw [hp] at h2
    cases h2
    cases clsOf A all[q].op <;> rfl
  have hcnt : ∀ k, cntSel (fun q => decide (q < k)) 0 cls = cntP pl k := fun k => by
    have := cnt_take cls pl 0 k hpl hisE
    simpa using this
  intro fuel
  induction fuel with
  | zero =>
    intro listed a w hsz hcount hdown hst
    -- nothing is left
    have hall : ∀ k, k < all.length → listed.getD k false = true := by
      intro k hk
      cases hl : listed.getD k false with
      | true => rfl
      | false =>
        exfalso
        have hk' : k < listed.size := by omega
        have : false ∈ listed.toList := by
          have h1 : listed[k] = false := by simpa [Array.getD, hk'] using hl
          exact List.mem_iff_getElem.2 ⟨k, by simpa using hk', by simpa using h1⟩
        have := List.count_pos_iff.2 this
        omega
    refine ⟨?_, ?_⟩
    · rw [List.eq_nil_iff_forall_not_mem]
      intro j hj
      obtain ⟨h1, o, h2, _⟩ := mem_ready.1 hj
      have hjl : j < all.length := by
        have := (List.getElem?_eq_some_iff.1 (by simpa using h2 : all[j]? = some o)).1
        exact this
      have h3 := hall j hjl
      have hk' : j < listed.size := by omega
      simp [Array.getD, hk'] at h1 h3
      rw [h1] at h3
      cases h3
    · obtain ⟨j, hm, hij, hH, hs, hl, hd⟩ := hst
      have e1 : cntSel (fun k => listed.getD k false) 0 cls = hs'.length := by
        rw [cntSel_congr (sel' := fun q => decide (q < all.length)) cls 0 (fun q c hq _ => by
          have : q < all.length := by have := (List.getElem?_eq_some_iff.1 hq).1; omega
          simp only [Nat.zero_add, this, decide_true]
          exact hall q this), hcnt, hhs]
        simp
      rw [e1] at hH
      have : (h' :: hs').reverse[hs'.length]? = some h' := at_len (h := h') (hs := hs') (fut := []) (by simp)
      rw [this] at hH
      cases hH
      refine hQ j a w hij ⟨hG.mono hij, hs, ?_, hd⟩
      have e2 : foldS (fun k => listed.getD k false) 0 (ents all vs) env = env' := by
        apply List.ext_getElem?
        intro t
        rw [henv]
        have hlen : (foldS (fun k => listed.getD k false) 0 (ents all vs) env).length = (putAll (ents all vs) env).length := by
          have := putAll_take (ents all vs) 0 (ents all vs).length env
          rw [List.take_length] at this
          rw [this, foldS_length, foldS_length]
        have hget : getL (foldS (fun k => listed.getD k false) 0 (ents all vs) env) t = getL (putAll (ents all vs) env) t := by
          have := putAll_take (ents all vs) 0 (ents all vs).length env
          rw [List.take_length] at this
          rw [this]
          refine foldS_get _ _ _ _ (fun q e hq _ => ?_) rfl rfl
          have h1 := (List.getElem?_eq_some_iff.1 hq).1
          obtain ⟨o, v, h2, _⟩ := ents_get vlen hq
          have h3 := (List.getElem?_eq_some_iff.1 h2).1
          simp only [Nat.zero_add, h1, decide_true]
          exact hall q h3
        by_cases ht : t < (putAll (ents all vs) env).length
        · rw [getL_eq, getL_eq, List.getD_eq_getElem?_getD, List.getD_eq_getElem?_getD] at hget
          rw [List.getElem?_eq_getElem ht, List.getElem?_eq_getElem (by omega)] at hget ⊢
          simpa using hget
        · rw [List.getElem?_eq_none (by omega), List.getElem?_eq_none (by omega)]
      rw [e2] at hl
      exact hl
  | succ fuel ih =>
    intro listed a w hsz hcount hdown hst
    refine ⟨fun hnil => ?_, fun k hk => ?_⟩
    · -- something is left, so something is ready
      exfalso
      have hall : ∀ n k, k < n → k < all.length → listed.getD k false = true := by
        intro n
        induction n with
        | zero => intro k h; omega
        | succ n ihn =>
          intro k hkn hk
          cases hl : listed.getD k false with
          | true => rfl
          | false =>
            exfalso
            have hk' : k < listed.size := by omega
            have : k ∈ Region.ready .any all.toArray listed := mem_ready.2 ⟨by simpa [Array.getD, hk'] using hl, all[k], by simp [hk], fun e he hb => ihn e.on (by
              have := PO.back k _ (List.getElem?_eq_getElem hk) e (by simpa using he) hb
              omega) (by
              have := PO.back k _ (List.getElem?_eq_getElem hk) e (by simpa using he) hb
              omega)⟩
            rw [hnil] at this
            cases this
      have : ∀ b ∈ listed.toList, b = true := by
        intro b hb
        obtain ⟨k, hk, rfl⟩ := List.mem_iff_getElem.1 hb
        have hk' : k < listed.size := by simpa using hk
        have := hall (k + 1) k (by omega) (by omega)
        simpa [Array.getD, hk'] using this
      have : listed.toList.count false = 0 := List.count_eq_zero.2 (fun hf => by have := this false hf; cases this)
      omega
    · obtain ⟨hun, o, hok, hpre⟩ := mem_ready.1 hk
      have hok : all[k]? = some o := by simpa using hok
      have hkl : k < all.length := (List.getElem?_eq_some_iff.1 hok).1
      have hks : k < listed.size := by omega
      have hun' : listed.getD k false = false := by simpa [Array.getD, hks] using hun
      have hpre : ∀ e ∈ o.after.toList, bindsE e = true → listed.getD e.on false = true := fun e he hb => hpre e (by simpa using he) hb
      obtain ⟨j, hm, hij, hH, hs, hl, hd⟩ := hst
      obtain ⟨m, hmk, hplk⟩ := hplan k o hok
      obtain ⟨pn, v, hpn, hv, hfact⟩ := facts k o hok
      rw [hplk] at hpn
      cases hpn
      have hmask : ∀ q, bitIn m q = true → listed.getD q false = true := PO.down hdown (k + 1) k o m (by omega) hok hmk hpre
      have hafter : ∀ q oq mq, k < q → all[q]? = some oq → ms[q]? = some mq → bitIn mq k = true → listed.getD q false = false := by
        intro q oq mq _ hq hmq hb
        cases hlq : listed.getD q false with
        | false => rfl
        | true =>
          have := PO.down hdown (q + 1) q oq mq (by omega) hq hmq (hdown q oq hq hlq) k hb
          rw [hun'] at this
          cases this
      -- the set behind k
      have hS' : ∀ q, (listed.setIfInBounds k true).getD q false = if q = k then true else listed.getD q false := by
        intro q
        by_cases hqk : q = k
        · subst hqk
          simp [Array.getD, hks]
        · rw [if_neg hqk, getD_set_ne false (Ne.symm hqk)]
      -- who writes the temporaries that k looks at, or writes
      have agree : ∀ t, (t ∈ looks all o ∨ o.dst = some t) → ∀ (q : Nat) (e : Option Tmp × Value), (ents all vs)[q]? = some e → e.1 = some t → q ≠ k → listed.getD q false = decide (q < k) := by
        intro t ht q e hq het hqk
        obtain ⟨oq, vq, h1, h2, rfl⟩ := ents_get vlen hq
        have hql := (List.getElem?_eq_some_iff.1 h1).1
        obtain ⟨mq, hmq, _⟩ := PO.mask q oq h1
        rcases Nat.lt_or_gt_of_ne hqk with hlt | hgt
        · simp only [hlt, decide_true]
          rcases PO.tmps q k oq o m hlt h1 hok hmk with hb | hf
          · exact hmask q hb
          · obtain ⟨f1, f2, f3⟩ := freeOf_spec hf
            rcases ht with ht | ht
            · exact absurd ht (f1 t het)
            · exact absurd ht (f2 t het)
        · have : ¬ q < k := by omega
          simp only [this, decide_false]
          rcases PO.tmps k q o oq mq hgt hok h1 hmq with hb | hf
          · exact hafter q oq mq hgt h1 hmq hb
          · obtain ⟨f1, f2, f3⟩ := freeOf_spec hf
            rcases ht with ht | ht
            · exact absurd ht (f3 t het)
            · exact absurd het (f2 t ht)
      have henvk : putAll ((ents all vs).take k) env = foldS (fun q => decide (q < k)) 0 (ents all vs) env := by
        have := putAll_take (ents all vs) 0 k env
        simpa using this
      have hlook : ∀ t, t ∈ looks all o → getL (foldS (fun q => listed.getD q false) 0 (ents all vs) env) t = getL (putAll ((ents all vs).take k) env) t := by
        intro t ht
        rw [henvk]
        refine foldS_get _ _ _ _ (fun q e hq het => ?_) rfl rfl
        rw [Nat.zero_add]
        by_cases hqk : q = k
        · subst hqk; simp [hun']
        · exact agree t (.inl ht) q e hq het hqk
      have hwant : Region.wanted o (yielded all.toArray a.tmps) = wantedV all (putAll ((ents all vs).take k) env) o.guard := by
        refine wanted_eq (i := j) o (fun jj want dd hg hdd => ?_)
        rw [← hlook dd (looks_guard hg hdd)]
        exact hl.getL dd
      have hop : ∀ x u, x ∈ o.op.operands.toList → opnd (putAll ((ents all vs).take k) env) x = some u → VR j u (a.eval x) := by
        intro x u hx hu
        cases x with
        | tmp t =>
          cases hu
          rw [← hlook t (looks_op hx)]
          exact hl.getL t
        | const c => exact opnd_VR (hG.mono hij) hl (x := .const c) hu
        | global g => exact opnd_VR (hG.mono hij) hl (x := .global g) hu
        | func f => exact opnd_VR (hG.mono hij) hl (x := .func f) hu
      -- on with the rest
      have next : ∀ j' v' w' hm', j.le j' → VR j' v v' → SR B w₀ j' hm' w' → (h' :: hs').reverse[cntSel (fun q => (listed.setIfInBounds k true).getD q false) 0 cls]? = some hm' →
          wpAnyIn (fen rc) 0 P .any all.toArray Q fuel (listed.setIfInBounds k true) (a.put o.dst v') w' := by
        intro j' v' w' hm' hjj hvr hsr hHm
        refine ih _ _ _ (by simpa using hsz) ?_ ?_ ⟨j', hm', Im.le_trans hij hjj, hHm, hsr, ?_, ?_⟩
        · rw [Array.toList_setIfInBounds, List.count_set (by simpa using hks)]
          have h1 : listed.toList[k]'(by simpa using hks) = false := by simpa [Array.getD, hks] using hun'
          have e1 : (false == false) = true := rfl
          have e2 : ¬ (true == false) = true := by decide
          rw [h1, if_pos e1, if_neg e2]
          omega
        · intro q oq hq hSq e he hb
          rw [hS'] at hSq ⊢
          split
          · rfl
          · by_cases hqk : q = k
            · subst hqk
              rw [hok] at hq
              cases hq
              exact hpre e he hb
            · rw [if_neg hqk] at hSq
              exact hdown q oq hq hSq e he hb
        · have hlen : (foldS (fun q => (listed.setIfInBounds k true).getD q false) 0 (ents all vs) env).length = (a.put o.dst v').tmps.toList.length := by
            rw [foldS_length]
            have h1 := hl.1
            rw [foldS_length] at h1
            cases o.dst with
            | none => exact h1
            | some t => simpa [Act.put] using h1
          refine ⟨hlen, fun t ht => ?_⟩
          have hL : (foldS (fun q => (listed.setIfInBounds k true).getD q false) 0 (ents all vs) env).getD t undef = getL (foldS (fun q => (listed.setIfInBounds k true).getD q false) 0 (ents all vs) env) t := (getL_eq _ _).symm
          rw [hL]
          by_cases hdt : o.dst = some t
          · have h1 : getL (foldS (fun q => (listed.setIfInBounds k true).getD q false) 0 (ents all vs) env) t = v := by
              have h2 : getL (foldS (fun q => (listed.setIfInBounds k true).getD q false) 0 (ents all vs) env) t = getL (foldS (fun q => decide (q < k + 1)) 0 (ents all vs) env) t := by
                refine foldS_get _ _ _ _ (fun q e hq het => ?_) rfl rfl
                rw [Nat.zero_add, hS']
                by_cases hqk : q = k
                · subst hqk; simp
                · rw [if_neg hqk, agree t (.inr hdt) q e hq het hqk]
                  congr 1
                  apply propext
                  omega
              rw [h2]
              have h3 := putAll_take (ents all vs) 0 (k + 1) env
              rw [Nat.zero_add] at h3
              rw [← h3, ents_take all vs k o v hok hv, hdt]
              refine getL_putD_self _ _ _ ?_
              rw [henvk, foldS_length]
              rw [foldS_length] at ht
              exact ht
            rw [h1, hdt]
            have ht' : t < a.tmps.size := by
              have h4 := hl.1
              rw [foldS_length] at h4 ht
              simp at h4
              omega
            show VR j' v ((a.tmps.setIfInBounds t v').toList.getD t undef)
            rw [Array.toList_setIfInBounds, List.getD_eq_getElem?_getD, List.getElem?_set]
            simpa [ht'] using hvr
          · have h1 : getL (foldS (fun q => (listed.setIfInBounds k true).getD q false) 0 (ents all vs) env) t = getL (foldS (fun q => listed.getD q false) 0 (ents all vs) env) t := by
              refine foldS_get _ _ _ _ (fun q e hq het => ?_) rfl rfl
              rw [Nat.zero_add, hS']
              by_cases hqk : q = k
              · subst hqk
                obtain ⟨oq, vq, h2, _, rfl⟩ := ents_get vlen hq
                rw [hok] at h2
                cases h2
                exact absurd het hdt
              · rw [if_neg hqk]
            rw [h1]
            have h2 : (a.put o.dst v').tmps.toList.getD t undef = a.tmps.getD t undef := by
              cases hdd : o.dst with
              | none => simp [Act.put]
              | some u =>
                have hut : u ≠ t := fun e => hdt (by rw [hdd, e])
                show (a.tmps.setIfInBounds u v').toList.getD t undef = _
                rw [Array.toList_setIfInBounds, List.getD_eq_getElem?_getD, List.getElem?_set_ne hut]
                simp
            rw [h2]
            exact (hl.getL t).mono hjj
        · cases o.dst with
          | none => exact hd.mono hjj
          | some t => exact hd.mono hjj
      -- the count of the effects
      have cntSame : isE (clsOf A o.op) = false → cntSel (fun q => (listed.setIfInBounds k true).getD q false) 0 cls = cntSel (fun q => listed.getD q false) 0 cls := by
        intro hne
        refine cntSel_congr cls 0 (fun q c hq hc => ?_)
        rw [Nat.zero_add, hS']
        by_cases hqk : q = k
        · subst hqk
          rw [hcls q o hok] at hq
          cases hq
          rw [hne] at hc
          cases hc
        · rw [if_neg hqk]
      have cntE : isE (clsOf A o.op) = true → cntSel (fun q => listed.getD q false) 0 cls = cntP pl k ∧ cntSel (fun q => (listed.setIfInBounds k true).getD q false) 0 cls = cntP pl k + 1 := by
        intro hE
        have hkE : cls[k]?.map isE = some true := by rw [hcls k o hok]; simp [hE]
        have key : ∀ (q : Nat) (c : Cls), cls[q]? = some c → isE c = true → q ≠ k → listed.getD q false = decide (q < k) := by
          intro q c hq hc hqk
          have hqE : cls[q]?.map isE = some true := by rw [hq]; simp [hc]
          rcases Nat.lt_or_gt_of_ne hqk with hlt | hgt
          · simp only [hlt, decide_true]
            exact PO.effs hdown (k - q) k q m (Nat.le_refl _) hlt hkE hmk hmask hqE
          · have : ¬ q < k := by omega
            simp only [this, decide_false]
            cases hlq : listed.getD q false with
            | false => rfl
            | true =>
              have hql : q < all.length := by have := (List.getElem?_eq_some_iff.1 hq).1; omega
              obtain ⟨mq, hmq, _⟩ := PO.mask q _ (List.getElem?_eq_getElem hql)
              have := PO.effs hdown (q - k) q k mq (Nat.le_refl _) hgt hqE hmq (PO.down hdown (q + 1) q _ mq (by omega) (List.getElem?_eq_getElem hql) hmq (hdown q _ (List.getElem?_eq_getElem hql) hlq)) hkE
              rw [hun'] at this
              cases this
        refine ⟨?_, ?_⟩
        · rw [← hcnt]
          refine cntSel_congr cls 0 (fun q c hq hc => ?_)
          rw [Nat.zero_add]
          by_cases hqk : q = k
          · subst hqk; simp [hun']
          · exact key q c hq hc hqk
        · have h1 : cntP pl (k + 1) = cntP pl k + 1 := by
            have hp : pl[k]? = some .e := by
              rw [hplk]
              cases hc : clsOf A o.op <;> first | rfl | (rw [hc] at hE; cases hE)
            unfold cntP
            rw [List.take_add_one, hp]
            simp [List.countP_append, isPlE]
          rw [← h1, ← hcnt]
          refine cntSel_congr cls 0 (fun q c hq hc => ?_)
          rw [Nat.zero_add, hS']
          by_cases hqk : q = k
          · subst hqk; simp
          · rw [if_neg hqk, key q c hq hc hqk]
            congr 1
            apply propext
            omega
      have hc0 : ([] : List Hp).length + cntP pl k = cntP pl k := by simp
      rw [hc0] at hfact
      unfold wpOpIn
      have hok' : all.toArray[k]? = some o := by simpa using hok
      simp only [hok', hwant]
      rcases hfact with ⟨hwf, hvu, hEff⟩ | ⟨hwt, hfact⟩
      · rw [hwf]
        simp only [Bool.false_eq_true, if_false]
        refine ⟨fun _ _ => trivial, ?_⟩
        subst hvu
        refine next j undef w hm (Im.le_refl j) (VR.undef j) hs ?_
        cases hE : isE (clsOf A o.op) with
        | false => rw [cntSame hE]; exact hH
        | true =>
          obtain ⟨c1, c2⟩ := cntE hE
          obtain ⟨hx, e1, e2⟩ := hEff (by
            have := hisE k _ _ (hcls k o hok) hplk
            rw [this]
            exact hE)
          rw [c1, e1] at hH
          cases hH
          rw [c2]
          exact e2
      · rw [hwt]
        simp only [if_true]
        cases hcl : clsOf A o.op with
        | p =>
          rw [hcl] at hfact
          obtain ⟨h0, hx, hpu⟩ := hfact
          have hpu' := pure_free o.op _ hcl h0 v hx hpu hm
          refine oper_wpIn T (fnOk_none P B w₀) (roundOk_none P B w₀) (.inr ⟨cls_callee _ hcl, hpu'⟩) (hG.mono hij) hs hop rc (fun j' v' w' hjj hvr hsr => next j' v' w' hm hjj hvr hsr ?_)
          rw [cntSame (by rw [hcl]; rfl)]
          exact hH
        | r =>
          rw [hcl] at hfact
          obtain ⟨t, x, ptr, hld, hx, hread⟩ := hfact
          obtain ⟨t', x', hopl⟩ := cls_load o.op hcl
          rw [hopl] at hld
          cases hld
          have hlo : cntLo m 0 cls ≤ cntSel (fun q => listed.getD q false) 0 cls := by
            rw [cntLo_eq]
            exact cntSel_le cls 0 (fun q c _ _ hb => by rw [Nat.zero_add] at hb ⊢; exact hmask q hb)
          have hhi : cntSel (fun q => listed.getD q false) 0 cls ≤ cntHi k cls ms := by
            rw [cntHi_eq k (fun q => !bitIn (ms.getD q 0) k) cls ms 0 hml (fun q mq hq => by
              rw [Nat.zero_add, List.getD_eq_getElem?_getD, hq]; rfl)]
            refine cntSel_le cls 0 (fun q c hq hc hSq => ?_)
            rw [Nat.zero_add] at hSq ⊢
            have hql : q < all.length := by have := (List.getElem?_eq_some_iff.1 hq).1; omega
            obtain ⟨mq, hmq, _⟩ := PO.mask q _ (List.getElem?_eq_getElem hql)
            rw [List.getD_eq_getElem?_getD, hmq]
            cases hb : bitIn mq k with
            | false => simp [hb]
            | true =>
              have := PO.down hdown (q + 1) q _ mq (by omega) (List.getElem?_eq_getElem hql) hmq (hdown q _ (List.getElem?_eq_getElem hql) hSq) k hb
              rw [hun'] at this
              cases this
          have hv' := hread _ hm hlo hhi hH
          have hpu : pureOp o.op A (putAll ((ents all vs).take k) env) hm = some (v, hm) := by
            rw [hopl]
            show opLoad t x A _ hm = _
            unfold opLoad
            rw [hx]
            dsimp only
            rw [hv']
            rfl
          refine oper_wpIn T (fnOk_none P B w₀) (roundOk_none P B w₀) (.inr ⟨by rw [hopl]; rfl, hpu⟩) (hG.mono hij) hs hop rc (fun j' v' w' hjj hvr hsr => next j' v' w' hm hjj hvr hsr ?_)
          rw [cntSame (by rw [hcl]; rfl)]
          exact hH
        | e =>
          rw [hcl] at hfact
          obtain ⟨hx, h1, e1, e2, rec, RF, RR, hdid⟩ := hfact
          obtain ⟨c1, c2⟩ := cntE (by rw [hcl]; rfl)
          rw [c1, e1] at hH
          cases hH
          refine oper_wpIn T RF RR hdid (hG.mono hij) hs hop rc (fun j' v' w' hjj hvr hsr => next j' v' w' h1 hjj hvr hsr ?_)
          rw [c2]
          exact e2

/-! ### The evaluator is sound -/
structure RecOk (P : Program) (A : Tab) (B : Nat) (w₀ : World) (rec : Rec) : Prop where
  fn : FnOk P B w₀ rec
  round : RoundOk P B w₀ rec
  code : CodeOk P B w₀ rec
  loop : LoopOk P B w₀ rec
  ops : OpsOk P B w₀ rec
  draw : DrawTr P A B w₀ rec

theorem RecOk.drawOk (T : TabOk P A) {rec : Rec} (R : RecOk P A B w₀ rec) : DrawOk P A B w₀ rec := by
  intro rd g all pl env ds h e env' ds' h' he hpl i w a rc st hrd Q hQ
  obtain ⟨vs, hs', h1, env1, hr, d⟩ := R.draw _ _ _ _ _ _ _ _ _ _ _ he
  cases hr
  obtain ⟨ms, cls, PO⟩ := planOf_ok hpl
  have hml : ms.length = cls.length := by rw [PO.mlen, PO.clen]; simp
  have hfalse : ∀ k, (Array.replicate all.length false).getD k false = false := by
    intro k
    simp [Array.getD]
  refine draw_any T PO d rc st.g (fun j a' w' hij st' => hQ j a' w' hij st') all.length _ a w (by simp) (by simp) (fun k o _ hk => by rw [hfalse] at hk; cases hk) ⟨i, h, Im.le_refl i, ?_, st.s, ?_, st.d⟩
  · obtain ⟨fut, hf⟩ := d.heaps
    have h0 : cntSel (fun k => (Array.replicate all.length false).getD k false) 0 cls = 0 := by
      have : ∀ (cs : List Cls) (i : Nat), cntSel (fun k => (Array.replicate all.length false).getD k false) i cs = 0 := by
        intro cs
        induction cs with
        | nil => intro i; rfl
        | cons c cs ih =>
          intro i
          have h1 := ih (i + 1)
          simp only [cntSel, hfalse, Bool.and_false, Bool.false_eq_true, if_false] at h1 ⊢
          exact h1
      exact this cls 0
    rw [h0]
    exact at_len (hs := []) hf
  · have : foldS (fun k => (Array.replicate all.length false).getD k false) 0 (ents all vs) env = env := by
      have : ∀ (es : List (Option Tmp × Value)) (i : Nat), foldS (fun k => (Array.replicate all.length false).getD k false) i es env = env := by
        intro es
        induction es with
        | nil => intro i; rfl
        | cons e es ih =>
          intro i
          have h1 := ih (i + 1)
          simp only [foldS, hfalse, Bool.false_eq_true, if_false] at h1 ⊢
          exact h1
      exact this _ 0
    rw [this]
    exact st.e

theorem run_succ (A : Tab) (k : Nat) (rd : Option Nat) (g : FuncId) (t : Task) (h : Hp) : run A (k + 1) rd g t h = step t A (run A k) rd g h := rfl

theorem run_sound (T : TabOk P A) (B : Nat) (w₀ : World) : ∀ k, RecOk P A B w₀ (run A k) := by
  intro k
  induction k with
  | zero =>
    refine ⟨?_, ?_, ?_, ?_, ?_, ?_⟩
    · intro _ _ _ _ _ _ _ e; cases e
    · intro _ _ _ _ _ _ _ e; cases e
    · intro _ _ _ _ _ _ _ _ _ _ e; cases e
    · intro _ _ _ _ _ _ _ _ _ _ e; cases e
    · intro _ _ _ _ _ _ _ _ _ _ _ e; cases e
    · intro _ _ _ _ _ _ _ _ _ _ _ e; cases e
  | succ k R =>
    refine ⟨?_, ?_, ?_, ?_, ?_, ?_⟩
    · intro rd g f args h v h' e i w args' hG s hl
      exact fn_step T R.code (rd := rd) (g := g) e hG s hl
    · intro rd g l args h v h' e i w args' c o n hG s hl hc
      exact round_step (A := A) R.code (rd := rd) (g := g) e hG s hl hc
    · intro rd g c env ds h e env' ds' h' he i w a rc st hrd Q hQ
      exact code_step R.code R.loop R.fn R.ops (R.drawOk T) T (rd := rd) (g := g) he st hrd Q hQ
    · intro rd g c env ds h e env' ds' h' he
      exact loop_step (A := A) R.code R.loop (rd := rd) (g := g) he
    · intro rd g all rest env ds h e env' ds' h' he i w a rc k st hrd hk Q hQ
      exact ops_step T R.fn R.round R.ops (rd := rd) (g := g) he st hrd hk Q hQ
    · intro rd g all rest pl env ds hs pend h r he
      exact draw_step R.fn R.round R.draw (rd := rd) (g := g) he

/-- What the evaluator says of a call is what the machine does. -/
theorem run_calls (T : TabOk P A) {k : Nat} {f : FuncId} {args args' : List Value} {h h' : Hp} {v : Value} {i : Im} {w : World} (e : run A k none 0 (.fn f args) h = some (.val v h')) (hG : GI i) (s : SR B w₀ i h w) (hl : LR i args args') :
    Calls P f args'.toArray w fun
      | .returned v', w' => ∃ j, i.le j ∧ VR j v v' ∧ SR B w₀ j h' w'
      | _, _ => False :=
  callsIn_wide.1 (((run_sound T B w₀ k).fn _ _ _ _ _ _ _ e i w args' hG s hl).2 _ (fun j v' w' h1 h2 h3 => ⟨j, h1, h2, h3⟩))
#print axioms run_calls
end
end Go.Ev

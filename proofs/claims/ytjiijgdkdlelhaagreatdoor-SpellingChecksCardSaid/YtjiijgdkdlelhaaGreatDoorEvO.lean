/- The evaluator Ev: the plan of a region that draws its order: what its checks say. -/
import Derived.Test.YtjiijgdkdlelhaaGreatDoorEvN
namespace Go.Ev
open Go.RowKit Go.Lib

/-! ### Sets of operations -/
theorem bitIn_eq (m i : Nat) : bitIn m i = m.testBit i := by
  unfold bitIn
  rw [Nat.testBit_eq_decide_div_mod_eq]
  have : Nat.mod (Nat.shiftRight m i) 2 = m / 2 ^ i % 2 := by
    show (m >>> i) % 2 = _
    rw [Nat.shiftRight_eq_div_pow]
  rw [this, Bool.eq_iff_iff, beq_iff', decide_eq_true_eq]

theorem bitIn_lor {a b i : Nat} (h : bitIn (Nat.lor a b) i = true) : bitIn a i = true ∨ bitIn b i = true := by
  simp only [bitIn_eq] at *
  have : (Nat.lor a b).testBit i = (a.testBit i || b.testBit i) := Nat.testBit_or a b i
  rw [this, Bool.or_eq_true] at h
  exact h
theorem bitIn_one {k i : Nat} (h : bitIn (Nat.shiftLeft 1 k) i = true) : i = k := by
  rw [bitIn_eq] at h
  have h2 : (1 <<< k).testBit i = true := h
  rw [Nat.testBit_shiftLeft] at h2
  simp only [Bool.and_eq_true, decide_eq_true_eq] at h2
  obtain ⟨h3, h4⟩ := h2
  have : i - k = 0 := by
    rcases Nat.eq_zero_or_pos (i - k) with h | h
    · exact h
    · rw [show (1 : Nat) = 2 ^ 0 from rfl, Nat.testBit_two_pow] at h4
      simp at h4
      omega
  omega
theorem bitIn_zero (i : Nat) : bitIn 0 i = false := by rw [bitIn_eq]; exact Nat.zero_testBit i

theorem maskOf_spec (ms : List Nat) : ∀ (es : List Edge) (i : Nat), bitIn (maskOf ms es) i = true → ∃ e ∈ es, bindsE e = true ∧ ∃ m, ms[e.on]? = some m ∧ (i = e.on ∨ bitIn m i = true) := by
  intro es
  induction es with
  | nil => intro i h; rw [show maskOf ms [] = 0 from rfl, bitIn_zero] at h; cases h
  | cons e es ih =>
    intro i h
    have skip : bitIn (maskOf ms es) i = true → ∃ e' ∈ e :: es, bindsE e' = true ∧ ∃ m, ms[e'.on]? = some m ∧ (i = e'.on ∨ bitIn m i = true) := fun h => by
      obtain ⟨e', h1, h2⟩ := ih i h
      exact ⟨e', List.mem_cons_of_mem _ h1, h2⟩
    simp only [maskOf] at h
    split at h
    · rename_i hb
      split at h
      · rename_i m hm
        rw [nthL_eq] at hm
        rcases bitIn_lor h with h | h
        · rcases bitIn_lor h with h | h
          · exact ⟨e, List.mem_cons_self .., hb, m, hm, .inl (bitIn_one h)⟩
          · exact ⟨e, List.mem_cons_self .., hb, m, hm, .inr h⟩
        · exact skip h
      · exact skip h
    · exact skip h

theorem masks_prefix : ∀ (os : List Oper) (ms : List Nat), ∃ r, masks ms os = ms ++ r ∧ r.length = os.length := by
  intro os
  induction os with
  | nil => intro ms; exact ⟨[], by simp [masks], rfl⟩
  | cons o os ih =>
    intro ms
    obtain ⟨r, h1, h2⟩ := ih (ms ++ [maskOf ms o.after.toList])
    exact ⟨maskOf ms o.after.toList :: r, by simp [masks, h1], by simp [h2]⟩

theorem masks_get : ∀ (os : List Oper) (ms : List Nat) (q : Nat) (o : Oper), os[q]? = some o → ∃ m, (masks ms os)[ms.length + q]? = some m ∧ m = maskOf ((masks ms os).take (ms.length + q)) o.after.toList := by
  intro os
  induction os with
  | nil => intro ms q o h; simp at h
  | cons o' os ih =>
    intro ms q o h
    cases q with
    | zero =>
      simp at h
      subst h
      obtain ⟨r, h1, h2⟩ := masks_prefix os (ms ++ [maskOf ms o'.after.toList])
      refine ⟨maskOf ms o'.after.toList, ?_, ?_⟩
      · simp [masks, h1]
      · simp [masks, h1]
    | succ q =>
      simp at h
      obtain ⟨m, h1, h2⟩ := ih (ms ++ [maskOf ms o'.after.toList]) q o h
      have hlen : (ms ++ [maskOf ms o'.after.toList]).length + q = ms.length + (q + 1) := by simp; omega
      rw [hlen] at h1 h2
      exact ⟨m, h1, h2⟩

/-- What the plan's checks say. -/
structure PlanOk (A : Tab) (all : List Oper) (pl : List Pl) (ms : List Nat) (cls : List Cls) : Prop where
  mlen : ms.length = all.length
  clen : cls = all.map fun o => clsOf A o.op
  mask : ∀ (k : Nat) (o : Oper), all[k]? = some o → ∃ m, ms[k]? = some m ∧ m = maskOf (ms.take k) o.after.toList
  back : ∀ (k : Nat) (o : Oper), all[k]? = some o → ∀ e ∈ o.after.toList, bindsE e = true → e.on < k
  tmps : ∀ (i k : Nat) (oi ok : Oper) (m : Nat), i < k → all[i]? = some oi → all[k]? = some ok → ms[k]? = some m → bitIn m i = true ∨ freeOf all oi ok = true
  eff : okEff none 0 cls ms = true
  plans : pl = plansOf cls ms 0 cls ms

theorem okEdges_spec {k : Nat} : ∀ {es : List Edge}, okEdges k es = true → ∀ e ∈ es, bindsE e = true → e.on < k := by
  intro es
  induction es with
  | nil => intro _ e he; cases he
  | cons x xs ih =>
    intro h e he hb
    simp only [okEdges, Bool.and_eq_true, Bool.or_eq_true, Bool.not_eq_true'] at h
    cases he with
    | head =>
      rcases h.1 with h | h
      · rw [hb] at h; cases h
      · exact of_blt h
    | tail _ hm => exact ih h.2 e hm hb
theorem okBack_spec : ∀ (os : List Oper) (n : Nat), okBack n os = true → ∀ (q : Nat) (o : Oper), os[q]? = some o → ∀ e ∈ o.after.toList, bindsE e = true → e.on < n + q := by
  intro os
  induction os with
  | nil => intro n _ q o h; simp at h
  | cons o' os ih =>
    intro n h q o hq
    simp only [okBack, Bool.and_eq_true] at h
    cases q with
    | zero => simp at hq; subst hq; exact okEdges_spec h.1
    | succ q =>
      simp at hq
      intro e he hb
      have := ih (n + 1) h.2 q o hq e he hb
      omega
theorem okRow_spec {all : List Oper} {m : Nat} {oj : Oper} : ∀ (os : List Oper) (n : Nat), okRow all m oj n os = true → ∀ (q : Nat) (o : Oper), os[q]? = some o → bitIn m (n + q) = true ∨ freeOf all o oj = true := by
  intro os
  induction os with
  | nil => intro n _ q o h; simp at h
  | cons o' os ih =>
    intro n h q o hq
    simp only [okRow, Bool.and_eq_true, okPair, Bool.or_eq_true] at h
    cases q with
    | zero => simp at hq; subst hq; exact h.1
    | succ q =>
      simp at hq
      have := ih (n + 1) h.2 q o hq
      rwa [show n + 1 + q = n + (q + 1) by omega] at this
theorem okTmps_spec {all : List Oper} : ∀ (os done : List Oper) (ms : List Nat), okTmps all done os ms = true → ∀ (i q : Nat) (oi oq : Oper) (m : Nat), i < done.length + q → (done ++ os)[i]? = some oi → os[q]? = some oq → ms[q]? = some m → bitIn m i = true ∨ freeOf all oi oq = true := by
  intro os
  induction os with
  | nil => intro done ms _ i q oi oq m _ _ h; simp at h
  | cons o os ih =>
    intro done ms h i q oi oq m hlt hi hq hm
    cases ms with
    | nil => cases h
    | cons m' ms =>
      simp only [okTmps, Bool.and_eq_true] at h
      cases q with
      | zero =>
        simp at hq hm
        subst hq hm
        have := okRow_spec done 0 h.1 i oi (by rwa [List.getElem?_append_left (by omega)] at hi)
        rwa [Nat.zero_add] at this
      | succ q =>
        simp at hq hm
        exact ih (done ++ [o]) ms h.2 i q oi oq m (by simp; omega) (by simpa using hi) hq hm

theorem planOf_ok {A : Tab} {all : List Oper} {pl : List Pl} (h : planOf A all = some pl) : ∃ ms cls, PlanOk A all pl ms cls := by
  unfold planOf planGo at h
  split at h
  · rename_i hok
    simp only [Bool.and_eq_true] at hok
    obtain ⟨h1, h2, h3⟩ := hok
    cases h
    obtain ⟨r, hr1, hr2⟩ := masks_prefix all []
    refine ⟨masks [] all, all.map fun o => clsOf A o.op, by rw [hr1]; simpa using hr2, rfl, ?_, ?_, ?_, h3, rfl⟩
    · intro k o hk
      have := masks_get all [] k o hk
      simpa using this
    · intro k o hk e he hb
      have := okBack_spec all 0 h1 k o hk e he hb
      omega
    · intro i k oi ok m hik hi hk hm
      exact okTmps_spec all [] (masks [] all) h2 i k oi ok m (by simpa using hik) (by simpa using hi) hk hm
  · cases h

/-! ### Counting effects -/
noncomputable def cntSel (sel : Nat → Bool) : Nat → List Cls → Nat
  | _, [] => 0
  | i, c :: cs => if (isE c && sel i) = true then cntSel sel (i + 1) cs + 1 else cntSel sel (i + 1) cs
theorem cntSel_congr {sel sel' : Nat → Bool} : ∀ (cs : List Cls) (i : Nat), (∀ q c, cs[q]? = some c → isE c = true → sel (i + q) = sel' (i + q)) → cntSel sel i cs = cntSel sel' i cs := by
  intro cs
  induction cs with
  | nil => intro i _; rfl
  | cons c cs ih =>
    intro i h
    have ht := ih (i + 1) (fun q c' hq hc => by
      have := h (q + 1) c' (by simpa using hq) hc
      rwa [show i + (q + 1) = i + 1 + q by omega] at this)
    simp only [cntSel, ht]
    by_cases hc : isE c = true
    · have := h 0 c rfl hc
      simp only [Nat.add_zero] at this
      rw [this]
    · simp [hc]
theorem cntSel_le {sel sel' : Nat → Bool} : ∀ (cs : List Cls) (i : Nat), (∀ q c, cs[q]? = some c → isE c = true → sel (i + q) = true → sel' (i + q) = true) → cntSel sel i cs ≤ cntSel sel' i cs := by
  intro cs
  induction cs with
  | nil => intro i _; exact Nat.le_refl _
  | cons c cs ih =>
    intro i h
    have ht := ih (i + 1) (fun q c' hq hc hs => by
      have := h (q + 1) c' (by simpa using hq) hc (by rwa [show i + (q + 1) = i + 1 + q by omega])
      rwa [show i + (q + 1) = i + 1 + q by omega] at this)
    simp only [cntSel]
    by_cases hc : isE c = true
    · have := h 0 c rfl hc
      simp only [Nat.add_zero] at this
      cases hs : sel i with
      | true => rw [this hs]; simp [hc]; exact ht
      | false => cases hs' : sel' i with
        | true => simp [hc]; omega
        | false => simp; exact ht
    · simp [hc]; exact ht
theorem cntLo_eq (m : Nat) : ∀ (cs : List Cls) (i : Nat), cntLo m i cs = cntSel (bitIn m) i cs := by
  intro cs
  induction cs with
  | nil => intro i; rfl
  | cons c cs ih =>
    intro i
    simp only [cntLo, cntSel, ih]
    split
    · rename_i h; simp [h]
    · rename_i h; simp [h]
theorem cntHi_eq (j : Nat) (sel : Nat → Bool) : ∀ (cs : List Cls) (ms : List Nat) (i : Nat), ms.length = cs.length → (∀ q m, ms[q]? = some m → sel (i + q) = !bitIn m j) → cntHi j cs ms = cntSel sel i cs := by
  intro cs
  induction cs with
  | nil => intro ms i hl _; simp at hl; subst hl; rfl
  | cons c cs ih =>
    intro ms i hl h
    cases ms with
    | nil => simp at hl
    | cons m ms =>
      have ht := ih ms (i + 1) (by simpa using hl) (fun q m' hq => by
        have := h (q + 1) m' (by simpa using hq)
        rwa [show i + (q + 1) = i + 1 + q by omega] at this)
      have h0 := h 0 m rfl
      simp only [Nat.add_zero] at h0
      simp only [cntHi, cntSel, ht, h0]
      split
      · rename_i h; simp [h]
      · rename_i h; simp [h]

def isPlE : Pl → Bool
  | .e => true
  | _ => false
theorem plans_get (cls0 : List Cls) (ms0 : List Nat) : ∀ (cs : List Cls) (ms : List Nat) (j q : Nat) (c : Cls), ms.length = cs.length → cs[q]? = some c → ∃ m, ms[q]? = some m ∧ (plansOf cls0 ms0 j cs ms)[q]? = some (match c with
    | .p => .p
    | .r => .r (cntLo m 0 cls0) (cntHi (j + q) cls0 ms0)
    | .e => .e) := by
  intro cs
  induction cs with
  | nil => intro ms j q c _ h; simp at h
  | cons c' cs ih =>
    intro ms j q c hl hq
    cases ms with
    | nil => simp at hl
    | cons m ms =>
      cases q with
      | zero =>
        simp at hq
        subst hq
        refine ⟨m, rfl, ?_⟩
        simp only [plansOf, List.getElem?_cons_zero, Nat.add_zero]
        cases c' <;> rfl
      | succ q =>
        simp at hq
        obtain ⟨m', h1, h2⟩ := ih ms (j + 1) q c (by simpa using hl) hq
        refine ⟨m', by simpa using h1, ?_⟩
        simp only [plansOf, List.getElem?_cons_succ]
        rw [h2, show j + 1 + q = j + (q + 1) by omega]
theorem plans_length (cls0 : List Cls) (ms0 : List Nat) : ∀ (cs : List Cls) (ms : List Nat) (j : Nat), ms.length = cs.length → (plansOf cls0 ms0 j cs ms).length = cs.length := by
  intro cs
  induction cs with
  | nil => intro ms j h; simp at h; subst h; rfl
  | cons c cs ih =>
    intro ms j h
    cases ms with
    | nil => simp at h
    | cons m ms => simp [plansOf, ih ms (j + 1) (by simpa using h)]

theorem okEff_spec : ∀ (cs : List Cls) (ms : List Nat) (last : Option Nat) (i : Nat), okEff last i cs ms = true → ms.length = cs.length → ∀ (q : Nat) (m : Nat), cs[q]?.map isE = some true → ms[q]? = some m →
    (∀ l, last = some l → (∀ p, p < q → cs[p]?.map isE ≠ some true) → bitIn m l = true) ∧
    (∀ p, p < q → cs[p]?.map isE = some true → (∀ r, p < r → r < q → cs[r]?.map isE ≠ some true) → bitIn m (i + p) = true) := by
  intro cs
  induction cs with
  | nil => intro ms last i _ _ q m h; simp at h
  | cons c cs ih =>
    intro ms last i h hl q m hq hm
    cases ms with
    | nil => simp at hl
    | cons m' ms =>
      simp only [okEff] at h
      cases hc : isE c with
      | true =>
        rw [hc] at h
        simp only [Bool.and_eq_true] at h
        cases q with
        | zero =>
          simp at hm
          subst hm
          refine ⟨fun l hlast _ => ?_, fun p hp => by omega⟩
          subst hlast
          exact h.1
        | succ q =>
          simp at hq hm
          obtain ⟨g1, g2⟩ := ih ms (some i) (i + 1) h.2 (by simpa using hl) q m (by simpa using hq) hm
          refine ⟨fun l _ hno => ?_, fun p hp hpe hno => ?_⟩
          · exact absurd (by simp [hc]) (hno 0 (by omega))
          · cases p with
            | zero =>
              exact g1 i rfl (fun p hp => by
                have := hno (p + 1) (by omega) (by omega)
                simpa using this)
            | succ p =>
              have := g2 p (by omega) (by simpa using hpe) (fun r hr hr2 => by
                have := hno (r + 1) (by omega) (by omega)
                simpa using this)
              rwa [show i + 1 + p = i + (p + 1) by omega] at this
      | false =>
        rw [hc] at h
        dsimp only at h
        cases q with
        | zero => simp [hc] at hq
        | succ q =>
          simp at hq hm
          obtain ⟨g1, g2⟩ := ih ms last (i + 1) h (by simpa using hl) q m (by simpa using hq) hm
          refine ⟨fun l hlast hno => ?_, fun p hp hpe hno => ?_⟩
          · exact g1 l hlast (fun p hp => by
              have := hno (p + 1) (by omega)
              simpa using this)
          · cases p with
            | zero => simp [hc] at hpe
            | succ p =>
              have := g2 p (by omega) (by simpa using hpe) (fun r hr hr2 => by
                have := hno (r + 1) (by omega) (by omega)
                simpa using this)
              rwa [show i + 1 + p = i + (p + 1) by omega] at this
end Go.Ev

/- The evaluator Ev: a region that draws its order, in every order. -/
import Derived.Test.YtjiijgdkdlelhaaGreatDoorEvQ
namespace Go.Ev
open Go.RowKit Go.Lib

section
variable {A : Tab} {all : List Oper} {pl : List Pl} {ms : List Nat} {cls : List Cls}

/-- With each operation, those that come ahead of it in every order. -/
theorem PlanOk.down (PO : PlanOk A all pl ms cls) {S : Nat → Bool} (hS : ∀ k o, all[k]? = some o → S k = true → ∀ e ∈ o.after.toList, bindsE e = true → S e.on = true) :
    ∀ (n k : Nat) (o : Oper) (m : Nat), k < n → all[k]? = some o → ms[k]? = some m → (∀ e ∈ o.after.toList, bindsE e = true → S e.on = true) → ∀ i, bitIn m i = true → S i = true := by
  intro n
  induction n with
  | zero => intro k _ _ h; omega
  | succ n ih =>
    intro k o m hk ho hm hpre i hi
    obtain ⟨m', h1, h2⟩ := PO.mask k o ho
    rw [hm] at h1
    cases h1
    rw [h2] at hi
    obtain ⟨e, he, hb, me, hme, hor⟩ := maskOf_spec _ _ _ hi
    have hlt : e.on < k := PO.back k o ho e he hb
    rw [List.getElem?_take_of_lt hlt] at hme
    rcases hor with h | h
    · rw [h]; exact hpre e he hb
    · have hlen : e.on < all.length := by
        have := (List.getElem?_eq_some_iff.1 ho).1
        omega
      exact ih e.on all[e.on] me (by omega) (List.getElem?_eq_getElem hlen) hme (hS e.on _ (List.getElem?_eq_getElem hlen) (hpre e he hb)) i h

/-- Of the effects, those ahead of one in the text come ahead of it. -/
theorem PlanOk.effs (PO : PlanOk A all pl ms cls) {S : Nat → Bool} (hS : ∀ k o, all[k]? = some o → S k = true → ∀ e ∈ o.after.toList, bindsE e = true → S e.on = true) :
    ∀ (n k p : Nat) (m : Nat), k - p ≤ n → p < k → cls[k]?.map isE = some true → ms[k]? = some m → (∀ i, bitIn m i = true → S i = true) → cls[p]?.map isE = some true → S p = true := by
  have hml : ms.length = cls.length := by rw [PO.mlen, PO.clen]; simp
  intro n
  induction n with
  | zero => intro k p m h1 h2; omega
  | succ n ih =>
    intro k p m hn hpk hk hm hpre hp
    by_cases hr : ∃ r, p < r ∧ r < k ∧ cls[r]?.map isE = some true
    · obtain ⟨r, h1, h2, h3⟩ := hr
      have hSr := ih k r m (by omega) h2 hk hm hpre h3
      have hrl : r < all.length := by
        have := (List.getElem?_eq_some_iff.1 hm).1
        rw [PO.mlen] at this
        omega
      obtain ⟨mr, hmr, _⟩ := PO.mask r _ (List.getElem?_eq_getElem hrl)
      exact ih r p mr (by omega) h1 h3 hmr (PO.down hS (r + 1) r _ mr (by omega) (List.getElem?_eq_getElem hrl) hmr (hS r _ (List.getElem?_eq_getElem hrl) hSr)) hp
    · have := (okEff_spec cls ms none 0 PO.eff hml k m hk hm).2 p hpk hp (fun r h1 h2 h3 => hr ⟨r, h1, h2, h3⟩)
      rw [Nat.zero_add] at this
      exact hpre p this

theorem cnt_take : ∀ (cs : List Cls) (pl : List Pl) (i k : Nat), pl.length = cs.length → (∀ (q : Nat) (c : Cls) (pn : Pl), cs[q]? = some c → pl[q]? = some pn → isPlE pn = isE c) → cntSel (fun q => decide (q < i + k)) i cs = cntP pl k := by
  intro cs
  induction cs with
  | nil => intro pl i k hl _; simp at hl; subst hl; simp [cntSel, cntP]
  | cons c cs ih =>
    intro pl i k hl h
    cases pl with
    | nil => simp at hl
    | cons pn pl =>
      have h0 := h 0 c pn rfl rfl
      cases k with
      | zero =>
        have no : ∀ (cs : List Cls) (j : Nat), i ≤ j → cntSel (fun q => decide (q < i + 0)) j cs = 0 := by
          intro cs
          induction cs with
          | nil => intro j _; rfl
          | cons c cs ih =>
            intro j hj
            have : ¬ j < i + 0 := by omega
            simp only [cntSel, this, decide_false, Bool.and_false, Bool.false_eq_true, if_false]
            exact ih (j + 1) (by omega)
        rw [no _ _ (Nat.le_refl _)]
        rfl
      | succ k =>
        have hlt : i < i + (k + 1) := by omega
        have ht := ih pl (i + 1) k (by simpa using hl) (fun q c' pn' hq hp => h (q + 1) c' pn' (by simpa using hq) (by simpa using hp))
        have hf : (fun q => decide (q < i + 1 + k)) = fun q => decide (q < i + (k + 1)) := by
          funext q
          congr 1
          apply propext
          omega
        rw [hf] at ht
        simp only [cntSel, hlt, decide_true, Bool.and_true, ht]
        unfold cntP
        rw [List.take_succ_cons, List.countP_cons, h0]
        split <;> rfl

theorem ents_get {os : List Oper} {vs : List Value} (hl : vs.length = os.length) {q : Nat} {e : Option Tmp × Value} (h : (ents os vs)[q]? = some e) : ∃ o v, os[q]? = some o ∧ vs[q]? = some v ∧ e = (o.dst, v) := by
  unfold ents at h
  rw [List.getElem?_map] at h
  cases hz : (os.zip vs)[q]? with
  | none => rw [hz] at h; cases h
  | some x =>
    rw [hz] at h
    cases h
    obtain ⟨h1, h2⟩ := List.getElem?_zip_eq_some.1 hz
    exact ⟨x.1, x.2, h1, h2, rfl⟩
theorem ents_take (os : List Oper) (vs : List Value) (q : Nat) (o : Oper) (v : Value) (h1 : os[q]? = some o) (h2 : vs[q]? = some v) (env : List Value) :
    putAll ((ents os vs).take (q + 1)) env = putD (putAll ((ents os vs).take q) env) o.dst v := by
  induction os generalizing vs q env with
  | nil => simp at h1
  | cons o' os ih =>
    cases vs with
    | nil => simp at h2
    | cons v' vs =>
      cases q with
      | zero =>
        simp at h1 h2
        subst h1 h2
        simp [ents, putAll]
      | succ q =>
        simp at h1 h2
        have := ih vs q h1 h2 (putD env o'.dst v')
        simpa [ents, putAll] using this

theorem memN_iff {t : Nat} : ∀ {l : List Nat}, memN t l = true ↔ t ∈ l := by
  intro l
  induction l with
  | nil => simp [memN]
  | cons x xs ih =>
    simp only [memN, List.mem_cons]
    split
    · rename_i h; simp [of_beq h]
    · rename_i h
      have := of_beq_false h
      simp [this, ih]
theorem inO_iff {d : Option Tmp} {l : List Tmp} : inO d l = true ↔ ∃ t, d = some t ∧ t ∈ l := by
  unfold inO
  cases d with
  | none => simp
  | some x => simp [memN_iff]
theorem eqO_iff {a b : Option Tmp} : eqO a b = true ↔ ∃ t, a = some t ∧ b = some t := by
  unfold eqO
  cases a with
  | none => simp
  | some x => cases b with
    | none => simp
    | some y =>
      simp only [beq_iff', Option.some.injEq]
      constructor
      · intro h; subst h; exact ⟨x, rfl, rfl⟩
      · rintro ⟨t, h1, h2⟩; rw [h1, h2]
theorem freeOf_spec {oi oj : Oper} (h : freeOf all oi oj = true) : (∀ t, oi.dst = some t → t ∉ looks all oj) ∧ (∀ t, oi.dst = some t → oj.dst ≠ some t) ∧ (∀ t, oj.dst = some t → t ∉ looks all oi) := by
  unfold freeOf at h
  simp only [Bool.not_eq_true', Bool.or_eq_false_iff] at h
  obtain ⟨⟨h1, h2⟩, h3⟩ := h
  refine ⟨fun t ht hm => ?_, fun t ht hm => ?_, fun t ht hm => ?_⟩
  · rw [inO_iff.2 ⟨t, ht, hm⟩] at h1; cases h1
  · rw [eqO_iff.2 ⟨t, ht, hm⟩] at h2; cases h2
  · rw [inO_iff.2 ⟨t, ht, hm⟩] at h3; cases h3

theorem tmpsOf_mem {t : Tmp} : ∀ {l : List Operand}, Operand.tmp t ∈ l → t ∈ tmpsOf l := by
  intro l
  induction l with
  | nil => intro h; cases h
  | cons x xs ih =>
    intro h
    cases x with
    | tmp u =>
      cases h with
      | head => exact List.mem_cons_self ..
      | tail _ hm => exact List.mem_cons_of_mem _ (ih hm)
    | _ =>
      cases h with
      | tail _ hm => exact ih hm
theorem looks_op {o : Oper} {t : Tmp} (h : Operand.tmp t ∈ o.op.operands.toList) : t ∈ looks all o := by
  have hm := tmpsOf_mem h
  unfold looks
  split
  · split
    · exact List.mem_cons_of_mem _ hm
    · exact hm
  · exact hm
theorem looks_guard {o : Oper} {j : Nat} {want : Bool} {d : Tmp} (hg : o.guard = some (j, want)) (hd : dstOf (nthL all j) = some d) : d ∈ looks all o := by
  unfold looks
  rw [hg]
  dsimp only
  rw [hd]
  exact List.mem_cons_self ..
end
end Go.Ev

/- The evaluator Ev: literals, makes, conversions, maps, tuples. -/
import Derived.Test.YtjiijgdkdlelhaaGreatDoorGrowsM5
import Derived.Laws.BytesString
import Derived.Lib.ConvBytes
/- The evaluator Ev: literals, makes, conversions, maps, tuples. -/
namespace Go.Ev
open Go.RowKit

theorem repL_length {α : Type} (n : Nat) (xs : List α) : (repL n xs).length = n * xs.length := by
  induction n with
  | zero => simp [repL]
  | succ n ih => simp [repL, ih, Nat.succ_mul]; omega
theorem repL_get {α : Type} (xs : List α) : ∀ (n k : Nat), k < n * xs.length → (repL n xs)[k]? = xs[k % xs.length]? := by
  intro n
  induction n with
  | zero => intro k hk; simp at hk
  | succ n ih =>
    intro k hk
    rw [Nat.succ_mul] at hk
    simp only [repL]
    by_cases h : k < xs.length
    · rw [List.getElem?_append_left h, Nat.mod_eq_of_lt h]
    · rw [List.getElem?_append_right (by omega), ih _ (by omega)]
      congr 1
      rw [Nat.mod_eq_sub_mod (show k ≥ xs.length by omega)]
theorem repL_nil {α : Type} (n : Nat) : repL n ([] : List α) = [] := by
  induction n with
  | zero => rfl
  | succ n ih => simp [repL, ih]
/-- The model's row of zero values. -/
theorem zeros_toList (z : Array Value) (n m : Nat) (hm : m = n * z.size) : ((Array.range m).map (fun i => z[i % z.size]!)).toList = repL n z.toList := by
  subst hm
  apply List.ext_getElem?
  intro k
  by_cases hz : z.size = 0
  · have : z.toList = [] := List.eq_nil_of_length_eq_zero (by simpa using hz)
    rw [this, repL_nil]
    simp [hz]
  · by_cases hk : k < n * z.size
    · rw [repL_get _ n k (by simpa using hk)]
      have hmod : k % z.size < z.size := Nat.mod_lt _ (by omega)
      simp [hk, hmod]
    · rw [List.getElem?_eq_none (by simp; omega), List.getElem?_eq_none (by rw [repL_length]; simp; omega)]
theorem LR.repL {i : Im} {xs ys : List Value} (h : LR i xs ys) (n : Nat) : LR i (Ev.repL n xs) (Ev.repL n ys) := by
  induction n with
  | zero => exact LR.nil i
  | succ n ih => exact h.append ih

section
variable {P : Program} {A : Tab} {B : Nat} {w₀ : World} {i : Im} {h h' : Hp} {w : World} {v : Value}

theorem parts_zip {i : Im} {env : List Value} {ρ : Operand → Value} (hρ : ∀ x u, opnd env x = some u → VR i u (ρ x)) : ∀ (l : List Operand) (vs : List Value), opnds env l = some vs → LR i vs (l.map ρ) := by
  intro l
  induction l with
  | nil => intro vs e; rw [opnds_nil] at e; cases e; exact LR.nil i
  | cons x xs ih =>
    intro vs e
    rw [opnds_cons] at e
    cases hx : opnd env x with
    | none => rw [hx] at e; cases e
    | some u =>
      rw [hx] at e
      cases hxs : opnds env xs with
      | none => rw [hxs] at e; cases e
      | some us =>
        rw [hxs] at e
        cases e
        exact (ih us hxs).cons (hρ x u hx)

theorem zip_parts {i : Im} {ks : List Nat} {vs ws : List Value} (hl : LR i vs ws) (hk : ks.length = vs.length) : (ks.zip vs).map (·.1) = (ks.zip ws).map (·.1) ∧ LR i ((ks.zip vs).map (·.2)) ((ks.zip ws).map (·.2)) := by
  have h1 := hl.1
  rw [List.map_fst_zip (by omega), List.map_fst_zip (by omega), List.map_snd_zip (by omega), List.map_snd_zip (by omega)]
  exact ⟨rfl, hl⟩

theorem opnds_length {env : List Value} : ∀ (l : List Operand) (vs : List Value), opnds env l = some vs → vs.length = l.length := by
  intro l
  induction l with
  | nil => intro vs e; rw [opnds_nil] at e; cases e; rfl
  | cons x xs ih =>
    intro vs e
    rw [opnds_cons] at e
    cases hx : opnd env x with
    | none => rw [hx] at e; cases e
    | some u =>
      rw [hx] at e
      cases hxs : opnds env xs with
      | none => rw [hxs] at e; cases e
      | some us => rw [hxs] at e; cases e; simp [ih us hxs]

theorem mapM_fields (T : TabOk P A) : ∀ (fs : List Field), (∀ f ∈ fs, ∃ s, A.size f.type = some s) →
    (fs.mapM fun (f : Field) => (do pure (f.offset, ← sizeOf f.type) : Sem (Nat × Nat))).run P w = .ok (fs.map fun f => (f.offset, (A.size f.type).getD 0)) w := by
  intro fs
  induction fs with
  | nil => intro _; simp
  | cons f fs ih =>
    intro hall
    obtain ⟨s, hs⟩ := hall f (by simp)
    obtain ⟨ti, hinfo, hsz⟩ := T.size hs
    have := ih (fun g hg => hall g (by simp [hg]))
    simp only [List.mapM_cons, Sem.run_bind, run_sizeOf' w hinfo, Result.andThen_ok, Sem.run_pure, hsz, this, hs, List.map_cons, Option.getD_some]

theorem build_VS (T : TabOk P A) (s : SR B w₀ i h w) {t : TypeId} {d : TypeDesc} {z : List Value} {ps ps' : List (Nat × Value)} (hd : A.desc t = some d) (hz : A.zero t = some z) (e : bdGo A h d z ps = some (v, h')) (hk : ps.map (·.1) = ps'.map (·.1)) (hl : LR i (ps.map (·.2)) (ps'.map (·.2))) :
    VS P B w₀ i h' w v (Instr.build t ⟨ps'⟩) := by
  have hund := T.desc hd
  obtain ⟨ti, zv, hinfo, hzv, rfl, hsc, _⟩ := T.zero hz
  unfold bdGo at e
  split at e
  · unfold aggH at e
    split at e
    · rename_i cs hfill
      cases e
      cases d with
      | struct fs =>
        have hall : ∀ f ∈ fs.toList, ∃ s, A.size f.type = some s := by
          unfold Tab.desc at hd
          cases hg : A.ty.get t with
          | none => rw [hg] at hd; cases hd
          | some x =>
            rw [hg] at hd
            obtain ⟨i1, d1⟩ := x
            cases hd
            exact (T.ty t i1 _ hg).2.2.2 fs rfl
        have hm := mapM_fields (P := P) (w := w) T fs.toList hall
        have hplace : ∀ k x, placeOf A (.struct fs) k = some x → (fs.toList.map fun f => (f.offset, (A.size f.type).getD 0)).toArray[k]? = some x := by
          intro k x hx
          unfold placeOf at hx
          dsimp only at hx
          split at hx
          · rename_i f hf
            rw [nthL_eq] at hf
            cases hs : A.size f.type with
            | none => rw [hs] at hx; cases hx
            | some sz => rw [hs] at hx; cases hx; simp [hf, hs]
          · cases hx
        obtain ⟨out', ho, hlo⟩ := fill_VS (i := i) (place' := ((fs.toList.map fun f => (f.offset, (A.size f.type).getD 0)).toArray[·]?)) hplace ps ps' zv.cells.toList zv.cells cs hfill (LR.scals _ hsc) hk hl
        refine VS.pure s (v' := .agg out') (.agg (by simpa using hlo.1) (fun k hk => by simpa [List.getD_eq_getElem?_getD] using hlo.2 k (by simpa using hk))) ?_
        have hm' : (fs.mapM fun (f : Field) => (do pure (f.offset, ← sizeOf f.type) : Sem (Nat × Nat))).run P w = .ok (fs.toList.map fun f => (f.offset, (A.size f.type).getD 0)).toArray w := by
          rw [Array.mapM_eq_mapM_toList, Sem.run_map, hm]; rfl
        simp only [Instr.build, Sem.run_bind, run_zero' w hinfo hzv, Result.andThen_ok, run_underlying hund, hm', ho]
        rfl
      | array n el =>
        have hplace : ∀ k x, placeOf A (.array n el) k = some x → ∃ sz, A.size el = some sz ∧ x = (k * sz, sz) := by
          intro k x hx
          unfold placeOf at hx
          dsimp only at hx
          cases hs : A.size el with
          | none => rw [hs] at hx; cases hx
          | some sz => rw [hs] at hx; cases hx; exact ⟨sz, rfl, rfl⟩
        cases hs : A.size el with
        | none => rename_i hagg; simp [bdOk, hs] at hagg
        | some sz =>
          obtain ⟨te, hinfoe, hse⟩ := T.size hs
          obtain ⟨out', ho, hlo⟩ := fill_VS (i := i) (place' := fun k => some (k * sz, sz)) (fun k x hx => by
            obtain ⟨sz', h1, h2⟩ := hplace k x hx
            rw [hs] at h1; cases h1; rw [h2]) ps ps' zv.cells.toList zv.cells cs hfill (LR.scals _ hsc) hk hl
          refine VS.pure s (v' := .agg out') (.agg (by simpa using hlo.1) (fun k hk => by simpa [List.getD_eq_getElem?_getD] using hlo.2 k (by simpa using hk))) ?_
          simp only [Instr.build, Sem.run_bind, run_zero' w hinfo hzv, Result.andThen_ok, run_underlying hund, run_sizeOf' w hinfoe, hse, ho]
          rfl
      | _ => rename_i hagg; simp [bdOk] at hagg
    · cases e
  · cases e

theorem fillV_length {place : Nat → Option (Nat × Nat)} : ∀ {ps : List (Nat × Value)} {cs out : List Value}, fillV place cs ps = some out → out.length = cs.length := by
  intro ps
  induction ps with
  | nil => intro cs out e; cases e; rfl
  | cons p ps ih =>
    intro cs out e
    obtain ⟨k, x⟩ := p
    simp only [fillV] at e
    split at e
    · split at e
      · rename_i hok
        rw [Bool.and_eq_true] at hok
        have h1 := of_beq hok.1
        have h2 := of_ble hok.2
        rw [ih e, putL_length _ _ _ (by omega)]
      · cases e
    · cases e

theorem buildSlice_VS (T : TabOk P A) (s : SR B w₀ i h w) {t el : TypeId} {len : Nat} {ps ps' : List (Nat × Value)} (hd : A.desc t = some (.slice el)) (e : bsElem A h el len ps = some (v, h')) (hk : ps.map (·.1) = ps'.map (·.1)) (hl : LR i (ps.map (·.2)) (ps'.map (·.2))) :
    VS P B w₀ i h' w v (Instr.buildSlice t len ⟨ps'⟩) := by
  have hund := T.desc hd
  unfold bsElem at e
  split at e
  · rename_i sz z hs hz
    obtain ⟨te, hinfoe, hse⟩ := T.size hs
    obtain ⟨ti, zv, hinfo, hzv, rfl, hsc, hzl⟩ := T.zero hz
    rw [hinfoe] at hinfo
    cases hinfo
    subst hse
    unfold bsGo at e
    split at e
    · rename_i hok
      rw [Bool.and_eq_true] at hok
      have hle := of_ble hok.1
      have hzl' := of_beq hok.2
      split at e
      · rename_i cs hfill
        have hz0 : (repL len zv.cells.toList) = ((Array.range (len * te.size)).map (fun i => (if len * te.size = 0 then #[] else zv.cells)[i % (if len * te.size = 0 then #[] else zv.cells).size]!)).toList := by
          by_cases h0 : len * te.size = 0
          · rw [if_pos h0, h0]
            have : repL len zv.cells.toList = [] := List.eq_nil_of_length_eq_zero (by rw [repL_length, hzl']; exact h0)
            rw [this]; simp
          · rw [if_neg h0, zeros_toList _ len _ (by simp at hzl'; rw [hzl'])]
        obtain ⟨out', ho, hlo⟩ := fill_VS (i := i) (place' := fun k => some (k * te.size, te.size)) (fun k x hx => hx) ps ps' _ ((Array.range (len * te.size)).map (fun i => (if len * te.size = 0 then #[] else zv.cells)[i % (if len * te.size = 0 then #[] else zv.cells).size]!)) cs hfill (by rw [← hz0]; exact (LR.scals _ hsc).repL len) hk hl
        have hlen : out'.toList.length = len * te.size := by
          have h1 := hlo.1
          have h2 := fillV_length hfill
          rw [repL_length, hzl'] at h2
          omega
        obtain ⟨j, v', w', h1, h2⟩ := newSl_VS (P := P) s (n' := len) el e hlo [] (Nat.le_refl _) (by simp at hlen; simp [hlen])
        refine ⟨j, v', w', ?_, h2⟩
        rw [← h1]
        have h3 : ¬ (len * te.size > 2 ^ 24) := by omega
        simp only [Instr.buildSlice, Sem.run_bind, run_underlying hund, Result.andThen_ok, run_sizeOf' w hinfoe, h3, if_false]
        by_cases h0 : len * te.size = 0
        · simp only [h0, if_true, List.append_nil] at ho ⊢
          simp only [Sem.run_bind, Sem.run_pure, Result.andThen_ok, ho]
        · simp only [h0, if_false, List.append_nil] at ho ⊢
          simp only [Sem.run_bind, run_zero' w hinfoe hzv, Sem.run_pure, Result.andThen_ok, ho]
      · cases e
    · cases e
  · cases e
end
end Go.Ev

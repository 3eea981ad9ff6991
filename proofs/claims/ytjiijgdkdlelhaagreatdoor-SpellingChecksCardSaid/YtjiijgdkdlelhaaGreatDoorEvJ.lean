/- The evaluator Ev: the other built-ins, and every operation that calls nothing, in one theorem. -/
import Derived.Test.YtjiijgdkdlelhaaGreatDoorEvI
namespace Go.Ev
open Go.RowKit Go.Lib

section
variable {P : Program} {A : Tab} {B : Nat} {w₀ : World} {i : Im} {h h' : Hp} {w : World} {v : Value}

theorem goInt_scal (n : Nat) : scal (goInt n) = true := rfl

theorem cpPut_VS (s : SR B w₀ i h w) {bd od m dn dc : Nat} {cs vs : List Value} {dst' src' : Value} {t e : TypeId} {ie : TypeInfo} {rest : List TypeId} {ty : TypeId} (ut : P.underlying t = some (.slice e)) (hi : P.info? e = some ie)
    (hput : cpPut h bd od m cs = some (v, h')) (hm : 0 < m) (hd : VR i (.slice (some ⟨bd, od, none⟩) dn dc) dst') (hmd : m ≤ dn) (hl : LR i cs vs) (hone : cs.all Ev.one = true) (q : Nat)
    (hlen : (Builtin.lenOf src').run P w = .ok q w) (hq : Nat.min q dn = m) (hcell : (Builtin.firstCells ie.size m src').run P w = .ok vs.toArray w) :
    VS P B w₀ i h' w v (Builtin.copy_ (t :: rest).toArray ty #[dst', src']) := by
  obtain ⟨_, _, cb, off, own, xx, c', hb, him, hnc, hc, hxx, rfl⟩ := hd.inv_slice
  cases hb
  have hx0 : xx = off + od := by rcases hxx with h | h <;> omega
  subst hx0
  unfold cpPut at hput
  split at hput
  case h_2 => cases hput
  rename_i h2 hp
  cases hput
  obtain ⟨hs1, hth⟩ := s.put hp him hl
  have hst := run_storeCells_cells (P := P) cb (off + od) vs 0 w (fun j hj => (hth j hj).1) (fun j hj => (hth j hj).2) (hl.one hone)
  simp only [Nat.add_zero] at hst
  refine ⟨i, goInt m, _, ?_, Im.le_refl i, .scal rfl, hs1⟩
  simp only [Builtin.copy_, Sem.run_bind, run_underlying ut, Result.andThen_ok, hlen, hq, run_sizeOf' w hi, hcell, hst, Sem.run_pure, List.getElem?_toArray, List.getElem?_cons_zero, List.getElem?_cons_succ]

theorem copy0_VS (s : SR B w₀ i h w) {bd od dn dc : Nat} {dst' src' : Value} {t e : TypeId} {ie : TypeInfo} {rest : List TypeId} {ty : TypeId} (ut : P.underlying t = some (.slice e)) (hi : P.info? e = some ie)
    (hd : VR i (.slice (some ⟨bd, od, none⟩) dn dc) dst') (q : Nat)
    (hlen : (Builtin.lenOf src').run P w = .ok q w) (hq : Nat.min q dn = 0) (hcell : (Builtin.firstCells ie.size 0 src').run P w = .ok #[] w) :
    VS P B w₀ i h w (goInt 0) (Builtin.copy_ (t :: rest).toArray ty #[dst', src']) := by
  obtain ⟨_, _, cb, off, own, xx, c', hb, him, hnc, hc, hxx, rfl⟩ := hd.inv_slice
  refine VS.pure s (.scal rfl) ?_
  simp only [Builtin.copy_, Sem.run_bind, run_underlying ut, Result.andThen_ok, hlen, hq, run_sizeOf' w hi, hcell, storeCells, Sem.run_pure, List.getElem?_toArray, List.getElem?_cons_zero, List.getElem?_cons_succ]
  rfl

theorem copy_VS (T : TabOk P A) (s : SR B w₀ i h w) {bd od dn dc : Nat} {src dst' src' : Value} {t e : TypeId} {rest : List TypeId} {ty : TypeId} (ht : A.desc t = some (.slice e)) (he : copyV A h e bd od dn src = some (v, h'))
    (hd : VR i (.slice (some ⟨bd, od, none⟩) dn dc) dst') (hs : VR i src src') : VS P B w₀ i h' w v (Builtin.copy_ (t :: rest).toArray ty #[dst', src']) := by
  have ut := T.desc ht
  unfold copyV at he
  split at he
  case h_2 => cases he
  rename_i sz hsz
  obtain ⟨ie, hi, rfl⟩ := T.size hsz
  split at he
  · cases he
    obtain rfl := hs.inv_nilSlice
    exact copy0_VS s ut hi hd 0 rfl (Nat.zero_min _) rfl
  · rename_i bs os sn sc
    obtain ⟨_, _, cb, off, own, xx, c', hb, him, hnc, hc, hxx, rfl⟩ := hs.inv_slice
    cases hb
    unfold cpSlice at he
    split at he
    · rename_i hm
      cases he
      exact copy0_VS s ut hi hd sn rfl hm (by simp [Builtin.firstCells, loadCells, loadCellsFrom])
    · rename_i m hm
      split at he
      case h_2 => cases he
      rename_i cs hcs
      split at he
      case h_2 => cases he
      rename_i hone
      obtain ⟨vs, hl, hr, hlen⟩ := cells_VS s hcs him
      have h1 : Nat.min sn dn ≤ sn := Nat.min_le_left _ _
      have h2 : Nat.min sn dn ≤ dn := Nat.min_le_right _ _
      have hx0 : xx = off + os := by rcases hxx with h | h <;> omega
      subst hx0
      have hload := run_loadCells' (P := P) hr
      rw [hlen] at hload
      exact cpPut_VS s ut hi he (by omega) hd (by omega) hl hone sn rfl hm hload
  · rename_i str
    obtain rfl := hs.inv_string
    unfold cpStr at he
    split at he
    · rename_i hm
      cases he
      exact copy0_VS s ut hi hd _ rfl hm (by simp [Builtin.firstCells])
    · rename_i m hm
      have h2 : Nat.min str.data.toList.length dn ≤ dn := Nat.min_le_right _ _
      have h1 : Nat.min str.data.toList.length dn ≤ str.data.toList.length := Nat.min_le_left _ _
      refine cpPut_VS s ut hi he (by omega) hd (by omega) (byteCells_LR i _) ?_ str.data.toList.length rfl hm ?_
      · rw [List.all_eq_true]
        intro u hu
        unfold byteCells at hu
        obtain ⟨_, _, rfl⟩ := List.mem_map.1 hu
        rfl
      · simp only [Builtin.firstCells, Sem.run_pure]
        congr 1
        apply Array.ext'
        simp [byteCells, List.map_take]
  · cases he

theorem clear_VS (T : TabOk P A) (s : SR B w₀ i h w) {b o n c : Nat} {x' : Value} {t e : TypeId} {rest : List TypeId} {ty : TypeId} (ht : A.desc t = some (.slice e)) (he : clearV A h e b o n = some (v, h'))
    (hd : VR i (.slice (some ⟨b, o, none⟩) n c) x') : VS P B w₀ i h' w v (Builtin.clear_ (t :: rest).toArray ty #[x']) := by
  have ut := T.desc ht
  obtain ⟨_, _, cb, off, own, xx, c', hb, him, hnc, hc, hxx, rfl⟩ := hd.inv_slice
  cases hb
  unfold clearV at he
  split at he
  · cases he
    refine VS.pure s (.tuple rfl (fun k hk => by simp at hk)) (v' := .tuple #[]) ?_
    simp only [Builtin.clear_, Sem.run_bind, run_underlying ut, Result.andThen_ok, Sem.run_pure, List.getElem?_toArray, List.getElem?_cons_zero]
  · rename_i n
    split at he
    case h_2 => cases he
    rename_i z hz
    obtain ⟨ie, zv, hi, hzv, rfl, hsc, hzl⟩ := T.zero hz
    split at he
    case h_2 => cases he
    rename_i h2 hput
    cases he
    have hx0 : xx = off + o := by rcases hxx with h | h <;> omega
    subst hx0
    have hl := (LR.scals (i := i) _ hsc).repL (n + 1)
    obtain ⟨hs1, hth⟩ := s.put hput him hl
    have hst := run_storeCells_cells (P := P) cb (off + o) _ 0 w (fun j hj => (hth j hj).1) (fun j hj => (hth j hj).2) (hl.one (all_repL _ (scal_one _ hsc) _))
    simp only [Nat.add_zero] at hst
    refine ⟨i, .tuple #[], _, ?_, Im.le_refl i, .tuple rfl (fun k hk => by simp at hk), hs1⟩
    simp only [Builtin.clear_, Sem.run_bind, run_underlying ut, Result.andThen_ok, Sem.run_pure, List.getElem?_toArray, List.getElem?_cons_zero, run_zero' w hi hzv, zeroCells_toList, hst]

theorem len_VS (T : TabOk P A) (s : SR B w₀ i h w) {x x' : Value} {t : TypeId} {d : TypeDesc} {rest : List TypeId} {ty : TypeId} (ht : A.desc t = some d) (he : lenV h d x = some (v, h')) (hx : VR i x x') :
    VS P B w₀ i h' w v (Builtin.len_ (t :: rest).toArray ty #[x']) := by
  have ut := T.desc ht
  have fin : ∀ (n : Nat), (Builtin.len_ (t :: rest).toArray ty #[x']).run P w = .ok (goInt n) w → some (goInt n, h) = some (v, h') → VS P B w₀ i h' w v (Builtin.len_ (t :: rest).toArray ty #[x']) := by
    intro n hr e
    cases e
    exact VS.pure s (.scal rfl) hr
  unfold lenV at he
  split at he
  · obtain rfl := hx.inv_string
    split at he
    · refine fin _ ?_ he
      simp [Builtin.len_, run_underlying ut]
    · cases he
  · rename_i base n c
    split at he
    · refine fin _ ?_ he
      cases base with
      | none => obtain rfl := hx.inv_nilSlice; simp [Builtin.len_, run_underlying ut]
      | some a => obtain ⟨_, _, _, _, _, _, _, _, _, _, _, _, rfl⟩ := hx.inv_slice; simp [Builtin.len_, run_underlying ut]
    · cases he
  · obtain rfl := hx.inv_nilMap
    split at he
    · refine fin _ ?_ he
      simp [Builtin.len_, run_underlying ut]
    · cases he
  · rename_i r
    obtain ⟨cb, off, own, him, rfl⟩ := hx.inv_map
    split at he
    · unfold lenMap at he
      split at he
      · rename_i es hg
        obtain ⟨en, ck, h1, h2, _⟩ := s.im hg him
        refine fin _ ?_ he
        have hlen : en.size = es.length := by have := h2.1; simp at this; omega
        have h1' : w.heap[cb]? = some (.map en ck) := h1
        simp [Builtin.len_, run_underlying ut, getObj, Sem.run, h1', hlen]
      · cases he
    · cases he
  · split at he
    · refine fin _ ?_ he
      simp [Builtin.len_, run_underlying ut]
    · cases he
  · cases he

theorem cap_VS (T : TabOk P A) (s : SR B w₀ i h w) {x x' : Value} {t : TypeId} {d : TypeDesc} {rest : List TypeId} {ty : TypeId} (ht : A.desc t = some d) (he : capV h d x = some (v, h')) (hx : VR i x x') :
    VS P B w₀ i h' w v (Builtin.cap_ (t :: rest).toArray ty #[x']) := by
  have ut := T.desc ht
  unfold capV at he
  split at he
  · cases he
    obtain rfl := hx.inv_nilSlice
    exact VS.pure s (.scal rfl) (by simp [Builtin.cap_, run_underlying ut])
  · cases he
    exact VS.pure s (.scal rfl) (by simp [Builtin.cap_, run_underlying ut])
  · cases he

theorem max2_VS {x y z x' y' : Value} (e : maxV x y = some z) (hx : VR i x x') (hy : VR i y y') : (Builtin.max2 x' y').run P w = .ok z w ∧ scal z = true := by
  unfold maxV at e
  split at e
  · obtain rfl := hx.inv_int
    obtain rfl := hy.inv_int
    simp only [Option.some.injEq] at e
    subst e
    refine ⟨?_, rfl⟩
    rename_i k a k' b
    simp only [Builtin.max2, Sem.run_pure, ltI_eq]
    by_cases hab : a < b
    · simp [hab]
    · simp [hab]
  · cases e
theorem min2_VS {x y z x' y' : Value} (e : minV x y = some z) (hx : VR i x x') (hy : VR i y y') : (Builtin.min2 x' y').run P w = .ok z w ∧ scal z = true := by
  unfold minV at e
  split at e
  · obtain rfl := hx.inv_int
    obtain rfl := hy.inv_int
    simp only [Option.some.injEq] at e
    subst e
    refine ⟨?_, rfl⟩
    rename_i k a k' b
    simp only [Builtin.min2, Sem.run_pure, ltI_eq]
    by_cases hab : b < a
    · simp [hab]
    · simp [hab]
  · cases e
theorem fold_VS {f : Value → Value → Option Value} {m : Value → Value → Sem Value} (hf : ∀ x y z x' y', f x y = some z → VR i x x' → VR i y y' → (m x' y').run P w = .ok z w ∧ scal z = true) :
    ∀ (xs xs' : List Value) (x x' z : Value), foldV f x xs = some z → VR i x x' → LR i xs xs' → ∃ z', (xs'.foldlM m x').run P w = .ok z' w ∧ VR i z z' := by
  intro xs
  induction xs with
  | nil => intro xs' x x' z e hx hl; cases e; rw [hl.unnil]; exact ⟨x', rfl, hx⟩
  | cons y ys ih =>
    intro xs' x x' z e hx hl
    obtain ⟨y', ys', rfl, hy, ht⟩ := hl.uncons
    simp only [foldV] at e
    split at e
    case h_2 => cases e
    rename_i u hu
    obtain ⟨h1, h2⟩ := hf _ _ _ _ _ hu hx hy
    obtain ⟨z', h3, h4⟩ := ih ys' u u z e (.scal h2) ht
    exact ⟨z', by rw [List.foldlM_cons, Sem.run_bind, h1]; exact h3, h4⟩

/-! ### Every operation that calls nothing -/
/-- The operation comes to what the evaluator says. -/
def OS (P : Program) (B : Nat) (w₀ : World) (i : Im) (h' : Hp) (w : World) (v : Value) (m : Sem Next) : Prop :=
  ∃ j v' w' nx, m.run P w = .ok nx w' ∧ (nx = .value v' ∨ (nx = .skip ∧ v = undef ∧ v' = undef)) ∧ i.le j ∧ VR j v v' ∧ SR B w₀ j h' w'
theorem OS.of_VS {m : Sem Value} (h1 : VS P B w₀ i h' w v m) : OS P B w₀ i h' w v (do pure (.value (← m))) := by
  obtain ⟨j, v', w', h2, h3, h4, h5⟩ := h1
  exact ⟨j, v', w', .value v', by rw [Sem.run_bind, h2]; rfl, .inl rfl, h3, h4, h5⟩
theorem OS.of_unit {m : Sem Unit} {w' : World} (h1 : m.run P w = .ok () w') (s : SR B w₀ i h' w') : OS P B w₀ i h' w undef (do m; pure .skip) :=
  ⟨i, undef, w', .skip, by rw [Sem.run_bind, h1]; rfl, .inr ⟨rfl, rfl, rfl⟩, Im.le_refl i, VR.undef i, s⟩
theorem OS.pure (s : SR B w₀ i h w) {v' : Value} (hv : VR i v v') : OS P B w₀ i h w v (Pure.pure (.value v')) :=
  ⟨i, v', w, .value v', rfl, .inl rfl, Im.le_refl i, hv, s⟩
theorem VS.of_val (s : SR B w₀ i h w) {m : Sem Value} (e : ∃ v', m.run P w = .ok v' w ∧ VR i v v') : VS P B w₀ i h w v m := by
  obtain ⟨v', h1, h2⟩ := e
  exact VS.pure s h2 h1

theorem opnds_VR {env : List Value} {ρ : Operand → Value} : ∀ (l : List Operand) (vs : List Value), (∀ x u, x ∈ l → opnd env x = some u → VR i u (ρ x)) → opnds env l = some vs → LR i vs (l.map ρ) := by
  intro l
  induction l with
  | nil => intro vs _ e; rw [opnds_nil] at e; cases e; exact LR.nil i
  | cons x xs ih =>
    intro vs hρ e
    rw [opnds_cons] at e
    cases hx : opnd env x with
    | none => rw [hx] at e; cases e
    | some u =>
      rw [hx] at e
      cases hxs : opnds env xs with
      | none => rw [hxs] at e; cases e
      | some us =>
        rw [hxs] at e
        cases e
        exact (ih us (fun y u hy => hρ y u (List.mem_cons_of_mem _ hy)) hxs).cons (hρ x u (List.mem_cons_self ..) hx)

theorem builtin_VS (T : TabOk P A) (s : SR B w₀ i h w) {b : Builtin} {ts : List TypeId} {vs : List Value} {vs' : List Value} {ty : TypeId} {consts : Array Bool} (e : builtinV b A h ts vs = some (v, h')) (hl : LR i vs vs') :
    OS P B w₀ i h' w v (builtin b ts.toArray ty consts vs'.toArray) := by
  cases b with
  | len =>
    simp only [builtinV, buLen] at e
    split at e
    case h_2 => cases e
    rename_i t rest x
    obtain ⟨x', _, rfl, hx, ht⟩ := hl.uncons
    rw [ht.unnil]
    split at e
    case h_2 => cases e
    rename_i d hd
    exact OS.of_VS (len_VS T s hd e hx)
  | cap =>
    simp only [builtinV, buCap] at e
    split at e
    case h_2 => cases e
    rename_i t rest x
    obtain ⟨x', _, rfl, hx, ht⟩ := hl.uncons
    rw [ht.unnil]
    split at e
    case h_2 => cases e
    rename_i d hd
    exact OS.of_VS (cap_VS T s hd e hx)
  | append =>
    simp only [builtinV, appendV] at e
    split at e
    case h_2 => cases e
    rename_i t0 t1 rest base n c x
    obtain ⟨b', _, rfl, hb, ht⟩ := hl.uncons
    obtain ⟨x', _, rfl, hx, ht⟩ := ht.uncons
    rw [ht.unnil]
    split at e
    case h_2 => cases e
    rename_i el d1 h0 h1
    exact OS.of_VS (append_VS T s h0 h1 e hb hx rest)
  | max =>
    simp only [builtinV, buMax] at e
    split at e
    case h_2 => cases e
    rename_i x xs
    obtain ⟨rfl, e2⟩ := withH_some e
    obtain ⟨x', xs', rfl, hx, ht⟩ := hl.uncons
    exact OS.of_VS (VS.of_val s (fold_VS (fun _ _ _ _ _ => max2_VS) _ _ _ _ _ e2 hx ht))
  | min =>
    simp only [builtinV, buMin] at e
    split at e
    case h_2 => cases e
    rename_i x xs
    obtain ⟨rfl, e2⟩ := withH_some e
    obtain ⟨x', xs', rfl, hx, ht⟩ := hl.uncons
    exact OS.of_VS (VS.of_val s (fold_VS (fun _ _ _ _ _ => min2_VS) _ _ _ _ _ e2 hx ht))
  | copy =>
    simp only [builtinV, buCopy] at e
    split at e
    case h_2 => cases e
    rename_i t rest bd od dn dc src
    obtain ⟨b', _, rfl, hb, ht⟩ := hl.uncons
    obtain ⟨x', _, rfl, hx, ht⟩ := ht.uncons
    rw [ht.unnil]
    split at e
    case h_2 => cases e
    rename_i el h0
    exact OS.of_VS (copy_VS T s h0 e hb hx)
  | clear =>
    simp only [builtinV, buClear] at e
    split at e
    case h_2 => cases e
    rename_i t rest b o n c
    obtain ⟨b', _, rfl, hb, ht⟩ := hl.uncons
    rw [ht.unnil]
    split at e
    case h_2 => cases e
    rename_i el h0
    exact OS.of_VS (clear_VS T s h0 e hb)
  | _ => cases e

theorem optOpnd_OVR {env : List Value} {ρ : Operand → Value} {x : Option Operand} {u : Option Value} (hρ : ∀ y u, y ∈ x.toList → opnd env y = some u → VR i u (ρ y)) (e : optOpnd env x = some u) : OVR i u (x.map ρ) := by
  cases x with
  | none => cases e; exact .inl ⟨rfl, rfl⟩
  | some x =>
    simp only [optOpnd] at e
    split at e
    case h_2 => cases e
    rename_i v hv
    cases e
    exact .inr ⟨v, ρ x, rfl, rfl, hρ x v (by simp) hv⟩

theorem parts_eval {env : List Value} {ρ : Operand → Value} {parts : Array (Nat × Operand)} {vs : List Value} (hρ : ∀ x u, x ∈ parts.toList.map (·.2) → opnd env x = some u → VR i u (ρ x)) (e : opnds env (parts.toList.map (·.2)) = some vs) :
    (⟨(parts.toList.map (·.1)).zip ((parts.toList.map (·.2)).map ρ)⟩ : Array (Nat × Value)) = parts.map (fun (i, x) => (i, ρ x)) ∧
    (((parts.toList.map (·.1)).zip vs).map (·.1) = ((parts.toList.map (·.1)).zip ((parts.toList.map (·.2)).map ρ)).map (·.1) ∧ LR i (((parts.toList.map (·.1)).zip vs).map (·.2)) (((parts.toList.map (·.1)).zip ((parts.toList.map (·.2)).map ρ)).map (·.2))) := by
  refine ⟨?_, zip_parts (opnds_VR _ _ hρ e) (by rw [opnds_length _ _ e]; simp)⟩
  apply Array.ext'
  simp only [Array.toList_map, List.map_map]
  generalize parts.toList = l
  induction l with
  | nil => rfl
  | cons x xs ih => simp only [List.map_cons, List.zip_cons_cons, ih]; rfl

theorem pureOp_sound (T : TabOk P A) (s : SR B w₀ i h w) {env : List Value} {ρ : Operand → Value} (o : Oper) (hop : ∀ x u, x ∈ o.op.operands.toList → opnd env x = some u → VR i u (ρ x)) (e : pureOp o.op A env h = some (v, h')) : OS P B w₀ i h' w v (execOp ρ o) := by
  unfold execOp
  cases hO : o.op with
  | move x =>
    rw [hO] at e hop
    obtain ⟨rfl, e2⟩ := withH_some (show withH h (opnd env x) = some (v, h') from e)
    exact OS.pure s (hop _ _ (by simp [Op.operands]) e2)
  | assign x =>
    rw [hO] at e hop
    obtain ⟨rfl, e2⟩ := withH_some (show withH h (opnd env x) = some (v, h') from e)
    exact OS.pure s (hop _ _ (by simp [Op.operands]) e2)
  | pick c x y =>
    rw [hO] at e hop
    replace e : opPick c x y A env h = some (v, h') := e
    unfold opPick at e
    split at e
    · rename_i hc
      obtain ⟨rfl, e2⟩ := withH_some e
      have hb := (hop _ _ (by simp [Op.operands]) hc).inv_bool
      exact ⟨i, ρ x, w, .value (ρ x), by simp [hb, asBool], .inl rfl, Im.le_refl i, hop _ _ (by simp [Op.operands]) e2, s⟩
    · rename_i hc
      obtain ⟨rfl, e2⟩ := withH_some e
      have hb := (hop _ _ (by simp [Op.operands]) hc).inv_bool
      exact ⟨i, ρ y, w, .value (ρ y), by simp [hb, asBool], .inl rfl, Im.le_refl i, hop _ _ (by simp [Op.operands]) e2, s⟩
    · cases e
  | alloc t =>
    rw [hO] at e hop
    replace e : opAlloc t A env h = some (v, h') := e
    unfold opAlloc at e
    split at e
    case h_2 => cases e
    rename_i z hz
    exact OS.of_VS (alloc_VS T s hz e)
  | box t x =>
    rw [hO] at e hop
    replace e : opBox t x A env h = some (v, h') := e
    unfold opBox at e
    split at e
    case h_2 => cases e
    rename_i u hu
    exact OS.of_VS (box_VS s e (hop _ _ (by simp [Op.operands]) hu))
  | build t parts =>
    rw [hO] at e hop
    replace e : opBuild t parts A env h = some (v, h') := e
    unfold opBuild at e
    split at e
    case h_2 => cases e
    rename_i d z vs hd hz hvs
    obtain ⟨p1, p2⟩ := parts_eval (fun x u hx => hop x u hx) hvs
    have r := build_VS T s hd hz e p2.1 p2.2
    rw [p1] at r
    exact OS.of_VS r
  | buildSlice t len parts =>
    rw [hO] at e hop
    replace e : opBuildSlice t len parts A env h = some (v, h') := e
    unfold opBuildSlice at e
    split at e
    case h_2 => cases e
    rename_i el vs hd hvs
    obtain ⟨p1, p2⟩ := parts_eval (fun x u hx => hop x u hx) hvs
    have r := buildSlice_VS T s hd e p2.1 p2.2
    rw [p1] at r
    exact OS.of_VS r
  | load t x =>
    rw [hO] at e hop
    replace e : opLoad t x A env h = some (v, h') := e
    unfold opLoad at e
    split at e
    case h_2 => cases e
    rename_i u hu
    obtain ⟨rfl, e2⟩ := withH_some e
    exact OS.of_VS (load_VS T s e2 (hop _ _ (by simp [Op.operands]) hu))
  | store t x y =>
    rw [hO] at e hop
    replace e : opStore t x y A env h = some (v, h') := e
    unfold opStore at e
    split at e
    case h_2 => cases e
    rename_i p u hp hu
    unfold unH at e
    split at e
    case h_2 => cases e
    rename_i h2 hst
    cases e
    obtain ⟨w', h1, h2⟩ := store_VS T s hst (hop _ _ (by simp [Op.operands]) hp) (hop _ _ (by simp [Op.operands]) hu)
    exact OS.of_unit h1 h2
  | nilCheck x =>
    rw [hO] at e hop
    replace e : opNilCheck x A env h = some (v, h') := e
    unfold opNilCheck at e
    split at e
    case h_2 => cases e
    rename_i u hu
    split at e
    case h_2 => cases e
    rename_i hok
    cases e
    have hv := hop _ _ (by simp [Op.operands]) hu
    dsimp only
    unfold nilOk at hok
    split at hok
    · obtain ⟨_, _, _, _, _, _, _, hx⟩ := hv.inv_ptr
      rw [hx] at hv ⊢
      exact OS.pure s hv
    · obtain ⟨f, p, q, hx, hf, _⟩ := hv.inv_func
      rw [hx] at hv ⊢
      cases hf
      exact OS.pure s hv
    · obtain ⟨f, p, q, hx, hf, _⟩ := hv.inv_func
      rw [hx] at hv ⊢
      cases hf
      exact OS.pure s hv
    · rename_i base n c
      cases base with
      | none =>
        have hx := hv.inv_nilSlice
        rw [hx] at hv ⊢
        exact OS.pure s hv
      | some p =>
        obtain ⟨_, _, _, _, _, _, _, _, _, _, _, _, hx⟩ := hv.inv_slice
        rw [hx] at hv ⊢
        exact OS.pure s hv
    · cases hok
  | binOp op t x y u =>
    rw [hO] at e hop
    replace e : opBin op t x y u A env h = some (v, h') := e
    unfold opBin at e
    split at e
    case h_2 => cases e
    rename_i p q hp hq
    obtain ⟨rfl, e2⟩ := withH_some e
    obtain ⟨h1, h2⟩ := binV_VS (w := w) T e2 (hop _ _ (by simp [Op.operands]) hp) (hop _ _ (by simp [Op.operands]) hq)
    exact OS.of_VS (VS.pure s (.scal h2) h1)
  | unOp op t x =>
    rw [hO] at e hop
    replace e : opUn op t x A env h = some (v, h') := e
    unfold opUn at e
    split at e
    case h_2 => cases e
    rename_i u hu
    obtain ⟨rfl, e2⟩ := withH_some e
    obtain ⟨h1, h2⟩ := unV_VS (P := P) (w := w) e2 (hop _ _ (by simp [Op.operands]) hu)
    exact OS.of_VS (VS.pure s (.scal h2) h1)
  | convert src dst x =>
    rw [hO] at e hop
    replace e : opConvert src dst x A env h = some (v, h') := e
    unfold opConvert at e
    split at e
    case h_2 => cases e
    rename_i u ds dd hu hs hd
    exact OS.of_VS (convert_VS T s hs hd e (hop _ _ (by simp [Op.operands]) hu))
  | makeInterface t x =>
    rw [hO] at e hop
    replace e : opMakeIface t x A env h = some (v, h') := e
    unfold opMakeIface at e
    split at e
    case h_2 => cases e
    rename_i u d hu hd
    split at e
    · cases e
    · rename_i hif
      cases e
      have hund := T.desc hd
      refine OS.of_VS (VS.pure s (.iface (hop _ _ (by simp [Op.operands]) hu)) ?_)
      cases d <;> first | (cases hif; done) | simp [Instr.makeInterface, run_underlying hund]
  | makeFunc fn first cap =>
    rw [hO] at e hop
    replace e : opMakeFunc fn first cap A env h = some (v, h') := e
    unfold opMakeFunc at e
    split at e
    case h_2 => cases e
    rename_i p q f hp hq
    cases e
    have h1 := opnds_VR _ _ (fun x u hx => hop x u (by simp [Op.operands]; exact .inl (by simpa using hx))) hp
    have h2 := opnds_VR _ _ (fun x u hx => hop x u (by simp [Op.operands]; exact .inr (by simpa using hx))) hq
    have hv := VR.func' (.func f) h1 h2
    have e1 : ∀ (r : Array Operand), (⟨r.toList.map ρ⟩ : Array Value) = r.map ρ := fun r => by apply Array.ext'; simp
    rw [e1, e1] at hv
    exact OS.of_VS (VS.pure s hv rfl)
  | makeMap t r =>
    rw [hO] at e hop
    replace e : opMakeMap t r A env h = some (v, h') := e
    unfold opMakeMap at e
    split at e
    case h_2 => cases e
    split at e
    case h_2 => cases e
    rename_i nb h2 hn
    cases e
    exact OS.of_VS (newMap_VS s hn)
  | makeSlice t l c =>
    rw [hO] at e hop
    replace e : opMakeSlice t l c A env h = some (v, h') := e
    unfold opMakeSlice at e
    split at e
    case h_2 => cases e
    rename_i el l0 c0 hd hl hc
    have h1 := (hop _ _ (by simp [Op.operands]) hl).inv_int
    have h2 := (hop _ _ (by simp [Op.operands]) hc).inv_int
    dsimp only
    rw [h1, h2]
    exact OS.of_VS (makeSlice_VS T s hd e)
  | slice t x lo hi mx =>
    rw [hO] at e hop
    replace e : opSlice t x lo hi mx A env h = some (v, h') := e
    unfold opSlice at e
    split at e
    case h_2 => cases e
    split at e
    case h_2 => cases e
    rename_i u lo0 hi0 d hu hlo hhi hd
    exact OS.of_VS (slice_VS T s hd e (hop _ _ (by simp [Op.operands]) hu) (optOpnd_OVR (fun y u hy => hop y u (by simp [Op.operands]; exact .inr (.inl (by simpa using hy)))) hlo) (optOpnd_OVR (fun y u hy => hop y u (by simp [Op.operands]; exact .inr (.inr (by simpa using hy)))) hhi))
  | fieldAddr st x f =>
    rw [hO] at e hop
    replace e : opFieldAddr st x f A env h = some (v, h') := e
    unfold opFieldAddr at e
    split at e
    case h_2 => cases e
    rename_i fs b o hd hu
    exact OS.of_VS (fieldAddr_VS T s hd e (hop _ _ (by simp [Op.operands]) hu))
  | field t x f =>
    rw [hO] at e hop
    replace e : opField t x f A env h = some (v, h') := e
    unfold opField at e
    split at e
    case h_2 => cases e
    rename_i fs cs hd hu
    split at e
    case h_2 => cases e
    rename_i fd hf
    obtain ⟨rfl, e2⟩ := withH_some e
    exact OS.of_VS (VS.of_val s (field_VS T hd hf e2 (hop _ _ (by simp [Op.operands]) hu)))
  | indexAddr t x ix =>
    rw [hO] at e hop
    replace e : opIndexAddr t x ix A env h = some (v, h') := e
    unfold opIndexAddr at e
    split at e
    case h_2 => cases e
    rename_i d u k n hd hu hix
    have h1 := (hop _ _ (by simp [Op.operands]) hix).inv_int
    dsimp only
    rw [h1]
    exact OS.of_VS (indexAddr_VS T s hd e (hop _ _ (by simp [Op.operands]) hu))
  | index t x ix =>
    rw [hO] at e hop
    replace e : opIndex t x ix A env h = some (v, h') := e
    unfold opIndex at e
    split at e
    case h_2 => cases e
    rename_i d u k n hd hu hix
    have h1 := (hop _ _ (by simp [Op.operands]) hix).inv_int
    dsimp only
    rw [h1]
    exact OS.of_VS (index_VS T s hd e (hop _ _ (by simp [Op.operands]) hu))
  | lookup t x ix ok =>
    rw [hO] at e hop
    replace e : opLookup t x ix ok A env h = some (v, h') := e
    unfold opLookup at e
    split at e
    case h_2 => cases e
    rename_i k el m key hd hm hk
    exact OS.of_VS (lookup_VS T s hd e (hop _ _ (by simp [Op.operands]) hm) _ (hop _ _ (by simp [Op.operands]) hk))
  | mapUpdate t m k x =>
    rw [hO] at e hop
    replace e : opMapUpdate t m k x A env h = some (v, h') := e
    unfold opMapUpdate at e
    split at e
    case h_2 => cases e
    rename_i kt el r key u hd hm hk hu
    obtain ⟨rfl, w', h1, h2⟩ := mapUpdate_VS T s hd e (hop _ _ (by simp [Op.operands]) hm) (hop _ _ (by simp [Op.operands]) hk) (hop _ _ (by simp [Op.operands]) hu)
    exact OS.of_unit h1 h2
  | insert t m k x =>
    rw [hO] at e hop
    replace e : opMapUpdate t m k x A env h = some (v, h') := e
    unfold opMapUpdate at e
    split at e
    case h_2 => cases e
    rename_i kt el r key u hd hm hk hu
    obtain ⟨rfl, w', h1, h2⟩ := mapUpdate_VS T s hd e (hop _ _ (by simp [Op.operands]) hm) (hop _ _ (by simp [Op.operands]) hk) (hop _ _ (by simp [Op.operands]) hu)
    exact OS.of_unit h1 h2
  | extract t ix =>
    rw [hO] at e hop
    replace e : opExtract t ix A env h = some (v, h') := e
    unfold opExtract at e
    split at e
    case h_2 => cases e
    rename_i vs hu
    obtain ⟨rfl, e2⟩ := withH_some e
    exact OS.of_VS (VS.of_val s (extract_VS (hop _ _ (by simp [Op.operands]) hu) e2))
  | call c =>
    rw [hO] at e hop
    replace e : opCall c A env h = some (v, h') := e
    unfold opCall at e
    cases hb : c.callee with
    | value f => rw [hb] at e; cases e
    | invoke r n => rw [hb] at e; cases e
    | builtin b =>
    rw [hb] at e
    replace e : opBuiltin b c.args c.argTypes A env h = some (v, h') := e
    unfold opBuiltin at e
    split at e
    case h_2 => cases e
    rename_i vs hvs
    have h1 := builtin_VS T s (ty := o.type) (consts := c.args.map fun | .const _ => true | _ => false) e (opnds_VR _ _ (fun x u hx => hop x u (by simp [Op.operands, Call.operands, hb]; simpa using hx)) hvs)
    have e1 : (c.args.toList.map ρ).toArray = c.args.map ρ := by apply Array.ext'; simp
    rw [e1] at h1
    obtain ⟨j, v', w', nx, g1, g2⟩ := h1
    refine ⟨j, v', w', nx, ?_, g2⟩
    simp only [resolve, hb, Sem.run_bind, Sem.run_pure, Result.andThen_ok, invoke]
    exact g1
  | _ => rw [hO] at e; cases e
end
end Go.Ev

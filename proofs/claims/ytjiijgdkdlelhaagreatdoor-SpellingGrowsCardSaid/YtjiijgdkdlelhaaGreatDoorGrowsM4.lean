/- The evaluator Ev: operations that call nothing: what the evaluator says of them is what the model does. -/
import Derived.Test.YtjiijgdkdlelhaaGreatDoorGrowsM3
import Derived.Laws.Entries
/- The evaluator Ev: operations that call nothing: what the evaluator says of them is what the model does. -/
namespace Go.Ev
open Go.RowKit

/-- The tables say of the program what is so. -/
structure TabOk (P : Program) (A : Tab) : Prop where
  fn : ∀ f F, A.fn.get f = some F → P.funcs[f]? = some F ∧ (F.name == "runtime.NumGoroutine") = false
  ty : ∀ t i d, A.ty.get t = some (i, d) → P.info? t = some i ∧ P.underlying t = some d ∧ (∀ v, i.zero = some v → v.cells.toList.all scal = true ∧ v.cells.toList.length = i.size) ∧ (∀ fs, d = .struct fs → ∀ f ∈ fs.toList, ∃ s, A.size f.type = some s)
  mixed : P.follows .mixedOrders = true

section
variable {P : Program} {A : Tab} (T : TabOk P A)
include T
theorem TabOk.desc {t : TypeId} {d : TypeDesc} (h : A.desc t = some d) : P.underlying t = some d := by
  unfold Tab.desc at h
  cases hg : A.ty.get t with
  | none => rw [hg] at h; cases h
  | some x => rw [hg] at h; cases h; exact (T.ty t x.1 x.2 hg).2.1
theorem TabOk.size {t : TypeId} {n : Nat} (h : A.size t = some n) : ∃ i, P.info? t = some i ∧ i.size = n := by
  unfold Tab.size at h
  cases hg : A.ty.get t with
  | none => rw [hg] at h; cases h
  | some x => rw [hg] at h; cases h; exact ⟨x.1, (T.ty t x.1 x.2 hg).1, rfl⟩
theorem TabOk.zero {t : TypeId} {z : List Value} (h : A.zero t = some z) : ∃ i v, P.info? t = some i ∧ i.zero = some v ∧ z = v.cells.toList ∧ z.all scal = true ∧ z.length = i.size := by
  unfold Tab.zero at h
  cases hg : A.ty.get t with
  | none => rw [hg] at h; cases h
  | some x =>
    rw [hg] at h
    obtain ⟨i, d⟩ := x
    dsimp only at h
    cases hz : i.zero with
    | none => rw [hz] at h; cases h
    | some v => rw [hz] at h; cases h; exact ⟨i, v, (T.ty t i d hg).1, hz, rfl, (T.ty t i d hg).2.2.1 v hz⟩
end

section
variable {P : Program} (w : World)
theorem run_typeInfo' {t : TypeId} {i : TypeInfo} (h : P.info? t = some i) : (typeInfo t).run P w = .ok i w := by simp [typeInfo, h]
theorem run_sizeOf' {t : TypeId} {i : TypeInfo} (h : P.info? t = some i) : (sizeOf t).run P w = .ok i.size w := by simp [sizeOf, run_typeInfo' w h]
theorem run_zero' {t : TypeId} {i : TypeInfo} {v : Value} (h : P.info? t = some i) (hz : i.zero = some v) : (zeroValue t).run P w = .ok v w := by simp [zeroValue, run_typeInfo' w h, hz]
theorem run_isAgg' {t : TypeId} {d : TypeDesc} (h : P.underlying t = some d) : (isAgg t).run P w = .ok (isAggD d) w := by
  unfold isAgg
  rw [Sem.run_bind, run_underlying h w]
  cases d <;> rfl
end

/-- A computation of the model comes to what the evaluator says. -/
def VS (P : Program) (B : Nat) (w₀ : World) (i : Im) (h' : Hp) (w : World) (v : Value) (m : Sem Value) : Prop :=
  ∃ j v' w', m.run P w = .ok v' w' ∧ i.le j ∧ VR j v v' ∧ SR B w₀ j h' w'
theorem VS.pure {P : Program} {B : Nat} {w₀ : World} {i : Im} {h : Hp} {w : World} {v v' : Value} {m : Sem Value} (s : SR B w₀ i h w) (hv : VR i v v') (hm : m.run P w = .ok v' w) : VS P B w₀ i h w v m :=
  ⟨i, v', w, hm, Im.le_refl i, hv, s⟩

theorem withH_some {h h' : Hp} {x : Option Value} {v : Value} (e : withH h x = some (v, h')) : h' = h ∧ x = some v := by
  cases x with
  | none => cases e
  | some u => cases e; exact ⟨rfl, rfl⟩

/-- The globals lie where they lie. -/
def GI (i : Im) : Prop := ∀ g, g < 64 → ∃ own, i (g * 8) = some (g, 0, own)
theorem GI.mono {i j : Im} (h : i.le j) (k : GI i) : GI j := fun g hg => let ⟨own, e⟩ := k g hg; ⟨own, h _ _ e⟩

theorem opnd_VR {i : Im} (g : GI i) {env : List Value} {a : Act} (he : LR i env a.tmps.toList) {x : Operand} {v : Value} (e : opnd env x = some v) : VR i v (a.eval x) := by
  cases x with
  | tmp t =>
    cases e
    rw [getL_eq]
    have := he.get t
    simpa [Act.eval, Array.getD_eq_getD_getElem?, List.getD_eq_getElem?_getD] using this
  | const u =>
    simp only [opnd] at e
    split at e
    · rename_i hf; cases e; exact VR.flat hf
    · cases e
  | global k =>
    simp only [opnd] at e
    split at e
    · rename_i hk
      cases e
      obtain ⟨own, ho⟩ := g k (of_blt hk)
      have := VR.pointer (o := 0) ho
      simpa [Act.eval] using this
    · cases e
  | func f => cases e; exact VR.func' (.func f) (LR.nil i) (LR.nil i)

section
variable {P : Program} {A : Tab} {B : Nat} {w₀ : World} {i : Im} {h h' : Hp} {w : World} {v : Value}

theorem rangeAt_sub {w : World} {b o : Nat} {vs : List Value} (hr : w.rangeAt b o vs) (k n : Nat) : w.rangeAt b (o + k) ((vs.drop k).take n) := by
  intro j u hj
  have : ((vs.drop k).take n)[j]? = if j < n then vs[k + j]? else none := by
    by_cases hjn : j < n
    · rw [if_pos hjn, List.getElem?_take_of_lt hjn, List.getElem?_drop]
    · rw [if_neg hjn, List.getElem?_eq_none (by simp; omega)]
  rw [this] at hj
  split at hj
  · have := hr (k + j) u hj
    rwa [show o + (k + j) = o + k + j by omega] at this
  · cases hj

theorem cells_VS (s : SR B w₀ i h w) {b o n : Nat} {cs : List Value} {c : Nat × Nat × Nat} (e : h.cells b o n = some cs) (hc : i b = some c) :
    ∃ vs, LR i cs vs ∧ w.rangeAt c.1 (c.2.1 + o) vs ∧ vs.length = n := by
  unfold Hp.cells at e
  cases hg : h.get b with
  | none => rw [hg] at e; cases e
  | some x =>
    rw [hg] at e
    cases x with
    | cells ds ro =>
      dsimp only at e
      split at e
      · rename_i hle
        have hle := of_ble hle
        cases e
        obtain ⟨vs, h1, h2, _⟩ := s.im hg hc
        refine ⟨(vs.drop o).take n, (h1.drop o).take n, rangeAt_sub h2 o n, ?_⟩
        have := h1.1
        simp; omega
      · cases e
    | _ => cases e

theorem run_loadCells' {w : World} {b o : Nat} {vs : List Value} (hr : w.rangeAt b o vs) : (loadCells ⟨b, o, none⟩ vs.length).run P w = .ok vs.toArray w :=
  run_loadCells_list (P := P) w ⟨b, o, none⟩ vs (fun j u hu => by rw [Addr.add_mid]; exact hr j u hu)

theorem load_VS (T : TabOk P A) (s : SR B w₀ i h w) {t : TypeId} {p p' : Value} (e : h.loadV A t p = some v) (hp : VR i p p') : VS P B w₀ i h w v (Instr.loadAt t p') := by
  unfold Hp.loadV at e
  split at e
  · rename_i b o
    obtain ⟨_, _, cb, off, own, hb, hi, rfl⟩ := hp.inv_ptr
    cases hb
    split at e
    · rename_i ti d hty
      obtain ⟨hinfo, hund, _⟩ := T.ty _ _ _ hty
      split at e
      · rename_i cs ro hg
        obtain ⟨vs, h1, h2, _⟩ := s.im hg hi
        split at e
        · rename_i hagg
          split at e
          · rename_i hle
            have hle := of_ble hle
            cases e
            have hlen : ((vs.drop o).take ti.size).length = ti.size := by have := h1.1; simp; omega
            refine VS.pure s (VR.agg' ((h1.drop o).take ti.size)) ?_
            have hl := run_loadCells' (P := P) (rangeAt_sub h2 o ti.size)
            rw [hlen] at hl
            simp [Instr.loadAt, Instr.sureAddr, loadVar, run_isAgg' w hund, hagg, run_sizeOf' w hinfo, hl]
          · cases e
        · rename_i hagg
          rw [nthL_eq] at e
          obtain ⟨v', hv', hvr⟩ := h1.some e
          refine VS.pure s hvr ?_
          have hc := h2 o v' hv'
          simp [Instr.loadAt, Instr.sureAddr, loadVar, run_isAgg' w hund, hagg, hc]
      · cases e
    · cases e
  · cases e

theorem store_VS (T : TabOk P A) (s : SR B w₀ i h w) {t : TypeId} {p p' u u' : Value} (e : h.storeV A t u p = some h') (hp : VR i p p') (hu : VR i u u') :
    ∃ w', (Instr.storeAt t p' u').run P w = .ok () w' ∧ SR B w₀ i h' w' := by
  unfold Hp.storeV at e
  split at e
  · rename_i b o
    obtain ⟨_, _, cb, off, own, hb, hi, rfl⟩ := hp.inv_ptr
    cases hb
    split at e
    · rename_i ti d hty
      obtain ⟨hinfo, hund, _⟩ := T.ty _ _ _ hty
      split at e
      · rename_i hok
        rw [Bool.and_eq_true] at hok
        have hlen := of_beq hok.1
        have hl := hu.cells
        obtain ⟨hs, hth⟩ := s.put e hi hl
        have hone := hl.one hok.2
        refine ⟨_, ?_, hs⟩
        have hsz : u'.cells.size = ti.size := by have := hl.1; simp at this hlen; omega
        have hst := run_storeCells_cells (P := P) cb (off + o) u'.cells.toList 0 w (fun j hj => (hth j hj).1) (fun j hj => (hth j hj).2) hone
        simp only [Nat.add_zero] at hst
        simp [Instr.storeAt, Instr.sureAddr, storeVar, run_sizeOf' w hinfo, hsz, hst]
      · cases e
    · cases e
  · cases e

theorem newPtr_VS (s : SR B w₀ i h w) {cs vs : List Value} (t : TypeId) (e : newPtr h cs = some (v, h')) (hl : LR i cs vs) : VS P B w₀ i h' w v (do pure (.pointer (some (← newRow t ⟨vs⟩)))) := by
  unfold newPtr at e
  split at e
  · rename_i nb h1 hn
    cases e
    have := s.new_cells hn ⟨vs⟩ t hl (List.prefix_refl _)
    exact ⟨_, .pointer (some ⟨w.heap.size, 0, none⟩), _, rfl, Im.le_set (by rw [(Hp.new_some hn).1]; exact s.none _), VR.pointer (o := 0) (off := 0) (Im.set_self _ _ _), this⟩
  · cases e

theorem newRow_VS (s : SR B w₀ i h w) {sz : Nat} {cs vs : List Value} {l c c' : Nat} {nb : Nat} {h1 : Hp} (t : TypeId) (hn : h.new (elFor sz) (.cells cs false) = some (nb, h1)) (hl : LR i cs vs) (extra : List Value) (hlc : l ≤ c) (hcc : c ≤ c') (hlen : c' * sz ≤ (vs ++ extra).length) :
    VS P B w₀ i h1 w (.slice (some ⟨nb, 0, none⟩) l c) (do pure (.slice (some (← newRow t ⟨vs ++ extra⟩)) l c')) := by
  have := s.new_cells hn ⟨vs ++ extra⟩ t hl ⟨extra, rfl⟩
  obtain ⟨hnb, hel, _⟩ := Hp.new_some hn
  have hfor : elFor sz = 0 ∨ elFor sz = sz := by unfold elFor; split <;> simp
  refine ⟨_, .slice (some ⟨w.heap.size, 0, none⟩) l c', _, rfl, Im.le_set (by rw [hnb]; exact s.none _), VR.slice (x := 0) (c' := c') (Im.set_self _ _ _) hlc hcc (.inr ⟨rfl, ?_⟩), this⟩
  rw [hnb, elOf_num h hel]
  rcases hfor with h0 | h0
  · exact .inl h0
  · refine .inr ?_
    rw [h0]
    show 0 + c' * sz ≤ (vs ++ extra).length
    omega
theorem newSl_VS (s : SR B w₀ i h w) {sz : Nat} {cs vs : List Value} {n n' : Nat} (t : TypeId) (e : newSl h sz cs n = some (v, h')) (hl : LR i cs vs) (extra : List Value) (hn' : n ≤ n') (hlen : n' * sz ≤ (vs ++ extra).length) :
    VS P B w₀ i h' w v (do pure (.slice (some (← newRow t ⟨vs ++ extra⟩)) n n')) := by
  unfold newSl at e
  split at e
  · rename_i nb h1 hn
    cases e
    exact newRow_VS s t hn hl extra (Nat.le_refl _) hn' hlen
  · cases e
end
end Go.Ev

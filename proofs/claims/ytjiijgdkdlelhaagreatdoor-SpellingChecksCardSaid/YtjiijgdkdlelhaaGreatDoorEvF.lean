/- The evaluator Ev: addresses, parts, slices, conversions, boxes and literals. -/
import Derived.Test.YtjiijgdkdlelhaaGreatDoorEvE
namespace Go.Ev
open Go.RowKit

theorem leNat_some {n m k : Nat} (e : leNat n m = some k) : k = n ∧ n ≤ m := by
  unfold leNat at e
  split at e
  · rename_i h; cases e; exact ⟨rfl, of_ble h⟩
  · cases e
theorem eqb_or {a b c : Nat} (h : (Nat.beq a b || Nat.beq a c) = true) : a = b ∨ a = c := by
  rw [Bool.or_eq_true] at h
  rcases h with h | h
  · exact .inl (of_beq h)
  · exact .inr (of_beq h)

section
variable {P : Program} {A : Tab} {B : Nat} {w₀ : World} {i : Im} {h h' : Hp} {w : World} {v : Value}

theorem fieldAddr_VS (T : TabOk P A) (s : SR B w₀ i h w) {t : TypeId} {f : Nat} {fs : Array Field} {b o : Nat} {p' : Value} (hd : A.desc t = some (.struct fs)) (e : faGo A h b o (nthL fs.toList f) = some (v, h')) (hp : VR i (.pointer (some ⟨b, o, none⟩)) p') :
    VS P B w₀ i h' w v (Instr.fieldAt t p' f) := by
  obtain ⟨_, _, cb, off, own, hb, hi, rfl⟩ := hp.inv_ptr
  cases hb
  unfold faGo at e
  split at e
  · rename_i fd hfd
    rw [nthL_eq] at hfd
    split at e
    · rename_i n hsz
      cases e
      obtain ⟨ti, hinfo, hs⟩ := T.size hsz
      refine VS.pure s (VR.pointer hi) ?_
      have hf' : fs[f]? = some fd := by rw [← hfd]; simp
      simp [Instr.fieldAt, run_underlying (T.desc hd), hf', Instr.sureAddr, fieldPlace, run_sizeOf' w hinfo, hs, Addr.add_mid, Nat.add_assoc]
    · cases e
  · cases e

theorem part_VS (T : TabOk P A) {t : TypeId} {cs : List Value} {cs' : Array Value} {off : Nat} (e : partV A t cs off = some v) (hl : LR i cs cs'.toList) :
    ∃ v', (part t cs' off).run P w = .ok v' w ∧ VR i v v' := by
  unfold partV at e
  split at e
  · rename_i ti d hty
    obtain ⟨hinfo, hund, _⟩ := T.ty _ _ _ hty
    split at e
    · rename_i hagg
      cases e
      refine ⟨_, ?_, VR.agg' ((hl.drop off).take ti.size)⟩
      simp only [part, Sem.run_bind, run_isAgg' w hund, hagg, Result.andThen_ok, if_true, run_sizeOf' w hinfo, Sem.run_pure]
      congr 2
      apply Array.toList_inj.1
      simp [Array.toList_extract, List.extract_eq_take_drop]
    · rename_i hagg
      rw [nthL_eq] at e
      obtain ⟨v', hv', hvr⟩ := hl.some e
      refine ⟨v', ?_, hvr⟩
      have : cs'[off]? = some v' := by rw [← hv']; simp
      simp [part, run_isAgg' w hund, hagg, this]
  · cases e

theorem field_VS (T : TabOk P A) {t : TypeId} {f : Nat} {fs : Array Field} {fd : Field} {cs : Array Value} {x' : Value} (hd : A.desc t = some (.struct fs)) (hf : nthL fs.toList f = some fd) (e : partV A fd.type cs.toList fd.offset = some v) (hx : VR i (.agg cs) x') :
    ∃ v', (Instr.field t x' f).run P w = .ok v' w ∧ VR i v v' := by
  obtain ⟨cs', rfl, hl⟩ := hx.inv_agg
  obtain ⟨v', hv', hvr⟩ := part_VS (P := P) (w := w) T e hl
  rw [nthL_eq] at hf
  have hf' : fs[f]? = some fd := by rw [← hf]; simp
  exact ⟨v', by simp [Instr.field, run_underlying (T.desc hd), hf', asAgg, hv'], hvr⟩

theorem indexAddr_VS (T : TabOk P A) (s : SR B w₀ i h w) {t : TypeId} {d : TypeDesc} {x x' : Value} {k : IntKind} {n : Nat} (hd : A.desc t = some d) (e : iaDesc A h d x n = some (v, h')) (hx : VR i x x') :
    VS P B w₀ i h' w v (Instr.indexAt t x' (.int k (.ofNat n))) := by
  have hund := T.desc hd
  unfold iaDesc at e
  split at e
  · rename_i b o len c
    obtain ⟨_, _, cb, off, own, x, c', hb, hi, hnc, hc, hxx, rfl⟩ := hx.inv_slice
    cases hb
    split at e
    · rename_i el
      unfold iaGo at e
      split at e
      · rename_i sz hsz
        split at e
        · rename_i hlt
          have hlt := of_blt hlt
          cases e
          obtain ⟨ti, hinfo, hs⟩ := T.size hsz
          have hx0 : x = off + o := by rcases hxx with h | h <;> omega
          subst hx0
          refine VS.pure s (VR.pointer hi) ?_
          have h1 : (0 : Int) ≤ (n : Int) ∧ (n : Int) < (len : Int) := by omega
          simp only [Instr.indexAt, asIntOf, Sem.run_bind, Sem.run_pure, Result.andThen_ok, run_underlying hund, Int.ofNat_eq_natCast, h1, and_self, if_true, Int.toNat_natCast, run_sizeOf' w hinfo, hs, Addr.add_mid, Nat.add_assoc]
        · cases e
      · cases e
    · cases e
  · rename_i b o
    obtain ⟨_, _, cb, off, own, hb, hi, rfl⟩ := hx.inv_ptr
    cases hb
    split at e
    · rename_i len el
      unfold iaGo at e
      split at e
      · rename_i sz hsz
        split at e
        · rename_i hlt
          have hlt := of_blt hlt
          cases e
          obtain ⟨ti, hinfo, hs⟩ := T.size hsz
          refine VS.pure s (VR.pointer hi) ?_
          have h1 : (0 : Int) ≤ (n : Int) ∧ (n : Int) < (len : Int) := by omega
          simp only [Instr.indexAt, asIntOf, Sem.run_bind, Sem.run_pure, Result.andThen_ok, run_underlying hund, Instr.sureAddr, Int.ofNat_eq_natCast, h1, and_self, if_true, Int.toNat_natCast, run_sizeOf' w hinfo, hs, Addr.add_mid, Nat.add_assoc]
        · cases e
      · cases e
    · cases e
  · cases e

theorem index_VS (T : TabOk P A) (s : SR B w₀ i h w) {t : TypeId} {d : TypeDesc} {x x' : Value} {k : IntKind} {n : Nat} (hd : A.desc t = some d) (e : ixDesc A h d x n = some (v, h')) (hx : VR i x x') :
    VS P B w₀ i h' w v (Instr.index t x' (.int k (.ofNat n))) := by
  have hund := T.desc hd
  unfold ixDesc at e
  split at e
  · obtain ⟨cs', rfl, hl⟩ := hx.inv_agg
    split at e
    · rename_i len el
      unfold ixArr at e
      split at e
      · rename_i sz hsz hlt
        have hlt := of_blt hlt
        obtain ⟨rfl, e2⟩ := withH_some e
        obtain ⟨ti, hinfo, hs⟩ := T.size hsz
        obtain ⟨v', hv', hvr⟩ := part_VS (P := P) (w := w) T e2 hl
        refine VS.pure s hvr ?_
        have h1 : (0 : Int) ≤ (n : Int) ∧ (n : Int) < (len : Int) := by omega
        simp only [Instr.index, asIntOf, Sem.run_bind, Sem.run_pure, Result.andThen_ok, run_underlying hund, Int.ofNat_eq_natCast, h1, and_self, if_true, Int.toNat_natCast, run_sizeOf' w hinfo, hs, hv']
      · cases e
    · cases e
  · obtain rfl := hx.inv_string
    rename_i str
    split at e
    · unfold ixStr at e
      split at e
      · rename_i b hb
        cases e
        rw [nthL_eq] at hb
        refine VS.pure s (.scal rfl) ?_
        have h1 : str[n]? = some b := by
          have hn : n < str.data.toList.length := (List.getElem?_eq_some_iff.1 hb).1
          have hn' : n < str.size := by simpa using hn
          rw [getElem?_pos str n hn']
          rw [List.getElem?_eq_getElem hn] at hb
          have : str[n] = str.data.toList[n] := rfl
          rw [this]; exact hb
        have h0 : (0 : Int) ≤ (n : Int) := by omega
        simp only [Instr.index, asIntOf, Sem.run_bind, Sem.run_pure, Result.andThen_ok, run_underlying hund, Int.ofNat_eq_natCast, h0, if_true, Int.toNat_natCast, h1]
      · cases e
    · cases e
  · cases e

/-- Two bounds of a slice expression. -/
def OVR (i : Im) (x y : Option Value) : Prop := (x = none ∧ y = none) ∨ ∃ u u', x = some u ∧ y = some u' ∧ VR i u u'

theorem sliceBound_run {k : IntKind} {n y : Nat} {code : BoundsCode} (h : n ≤ y) : (Instr.sliceBound (.int k (n : Int)) y code).run P w = .ok n w := by
  have h1 : (0 : Int) ≤ (n : Int) ∧ (n : Int) ≤ (y : Int) := by omega
  simp only [Instr.sliceBound, asIntOf, Sem.run_bind, Sem.run_pure, Result.andThen_ok, h1, and_self, if_true, Int.toNat_natCast]

theorem sliceBounds_run {isS : Bool} {lo lo' hi hi' : Option Value} {n c C L H : Nat} (eh : sliceIx hi n c = some H) (el : sliceIx lo 0 H = some L) (hc : c ≤ C) (hlo : OVR i lo lo') (hhi : OVR i hi hi') :
    (Instr.sliceBounds isS n C lo' hi' none).run P w = .ok (L, H, C) w ∧ L ≤ H ∧ (H ≤ c ∨ H = n) := by
  have h1 : ∃ H0, H0 = H ∧ (hi' = none ∧ H = n ∨ ∃ k, hi' = some (.int k (H : Int)) ∧ H ≤ c) := by
    refine ⟨H, rfl, ?_⟩
    unfold sliceIx at eh
    split at eh
    · cases eh
      rcases hhi with ⟨_, h⟩ | ⟨_, _, h, _⟩
      · exact .inl ⟨h, rfl⟩
      · cases h
    · obtain ⟨rfl, hle⟩ := leNat_some eh
      rcases hhi with ⟨h, _⟩ | ⟨u, u', h, hu, hv⟩
      · cases h
      · cases h; rw [hv.inv_int] at hu; exact .inr ⟨_, hu, hle⟩
    · cases eh
  have h2 : (lo' = none ∧ L = 0) ∨ ∃ k, lo' = some (.int k (L : Int)) ∧ L ≤ H := by
    unfold sliceIx at el
    split at el
    · cases el
      rcases hlo with ⟨_, h⟩ | ⟨_, _, h, _⟩
      · exact .inl ⟨h, rfl⟩
      · cases h
    · obtain ⟨rfl, hle⟩ := leNat_some el
      rcases hlo with ⟨h, _⟩ | ⟨u, u', h, hu, hv⟩
      · cases h
      · cases h; rw [hv.inv_int] at hu; exact .inr ⟨_, hu, hle⟩
    · cases el
  obtain ⟨_, _, h1⟩ := h1
  rcases h1 with ⟨rfl, rfl⟩ | ⟨k, rfl, hle⟩ <;> rcases h2 with ⟨rfl, rfl⟩ | ⟨k', rfl, hle'⟩
  · exact ⟨rfl, by omega, .inr rfl⟩
  · exact ⟨by simp [Instr.sliceBounds, sliceBound_run hle'], hle', .inr rfl⟩
  · exact ⟨by simp [Instr.sliceBounds, sliceBound_run (P := P) (w := w) (k := k) (Nat.le_trans hle hc)], by omega, .inl hle⟩
  · exact ⟨by simp [Instr.sliceBounds, sliceBound_run (P := P) (w := w) (k := k) (Nat.le_trans hle hc), sliceBound_run hle'], hle', .inl hle⟩

theorem strCut_eq (s : ByteArray) (l h : Nat) : s.extract l h = strCut s l h := by
  apply bytes_inj'
  simp [strCut, ByteArray.data_extract, Array.toList_extract, List.extract_eq_take_drop]

theorem slMk_VS {base : Option Addr} {sz lo hi n c c0 C : Nat} {x0 : Option Addr} (e : slMk h base sz lo hi c = some (v, h')) (hb : VR i (.slice base n c0) (.slice x0 n C)) (hcc : c ≤ C) (hlo : lo ≤ hi) (hhi : hi ≤ c) (hc0 : base.isSome = false → C = c) :
    h' = h ∧ VR i v (.slice (if C = lo then x0 else x0.map (·.add (lo * sz))) (hi - lo) (C - lo)) := by
  unfold slMk at e
  split at e
  · cases e
    have := hb.inv_nilSlice
    cases this
    have hC := hc0 rfl
    subst hC
    refine ⟨rfl, ?_⟩
    have : ∀ (p : Prop) [Decidable p], (if p then (none : Option Addr) else (none : Option Addr).map (·.add (lo * sz))) = none := by
      intro p _
      split <;> rfl
    rw [this]
    exact .nilSlice _ _
  · rename_i b o
    split at e
    · rename_i hel
      cases e
      refine ⟨rfl, ?_⟩
      obtain ⟨_, _, cb, off, own, x, c', hb', hi', _, _, hxx, heq⟩ := hb.inv_slice
      cases hb'
      cases heq
      by_cases hCl : C = lo
      · rw [if_pos hCl]
        exact .slice hi' (by omega) (by omega) (.inl (by omega))
      · rw [if_neg hCl]
        have hx0 : x = off + o ∧ (elOf b = 0 ∨ o + C * elOf b ≤ own) := by
          rcases hxx with h | h
          · omega
          · exact h
        obtain ⟨rfl, hroom⟩ := hx0
        have : (some (⟨cb, off + o, none⟩ : Addr)).map (·.add (lo * sz)) = some ⟨cb, off + o + lo * sz, none⟩ := by simp [Addr.add_mid]
        rw [this]
        refine .slice hi' (by omega) (by omega) (.inr ⟨by omega, ?_⟩)
        rcases eqb_or hel with h0 | h0
        · exact .inl h0
        · rcases hroom with h1 | h1
          · exact .inl h1
          · refine .inr ?_
            rw [h0] at h1 ⊢
            have h2 : lo * sz + (C - lo) * sz = C * sz := by rw [← Nat.add_mul]; congr 1; omega
            omega
    · cases e
  · cases e

theorem slice_VS (T : TabOk P A) (s : SR B w₀ i h w) {t : TypeId} {d : TypeDesc} {x x' : Value} {lo lo' hi hi' : Option Value} (hd : A.desc t = some d) (e : slDesc A h d x lo hi = some (v, h')) (hx : VR i x x') (hlo : OVR i lo lo') (hhi : OVR i hi hi') :
    VS P B w₀ i h' w v (Instr.sliceAt t x' lo' hi' none) := by
  have hund := T.desc hd
  unfold slDesc at e
  split at e
  · obtain rfl := hx.inv_string
    rename_i str
    split at e
    · unfold slStr at e
      split at e
      · rename_i H eh
        split at e
        · rename_i L el
          cases e
          have hlen : str.data.toList.length = str.size := by simp
          rw [hlen] at eh
          obtain ⟨hb, _⟩ := sliceBounds_run (P := P) (w := w) (isS := false) (n := str.size) (C := str.size) eh el (Nat.le_refl _) hlo hhi
          refine VS.pure s (.scal rfl) ?_
          simp [Instr.sliceAt, Instr.slice, run_underlying hund, hb, strCut_eq]
        · cases e
      · cases e
    · cases e
  · rename_i base n c
    split at e
    · rename_i el
      unfold slGo at e
      split at e
      · rename_i sz H hsz eh
        split at e
        · rename_i L elo
          obtain ⟨ti, hinfo, hs⟩ := T.size hsz
          subst hs
          cases base with
          | none =>
            obtain rfl := hx.inv_nilSlice
            obtain ⟨hb, h1, h2⟩ := sliceBounds_run (P := P) (w := w) (isS := true) (n := n) (C := c) eh elo (Nat.le_refl _) hlo hhi
            have e3 := e
            unfold slMk at e
            cases e
            refine VS.pure s (.nilSlice _ _) ?_
            simp [Instr.sliceAt, Instr.slice, run_underlying hund, hb, run_sizeOf' w hinfo]
          | some a =>
            obtain ⟨b, o, cb, off, own, xx, c', rfl, hi0, hnc, hc, hxx, rfl⟩ := hx.inv_slice
            obtain ⟨hb, h1, h2⟩ := sliceBounds_run (P := P) (w := w) (isS := true) (n := n) (C := c') eh elo hc hlo hhi
            obtain ⟨rfl, hv⟩ := slMk_VS e hx hc h1 (by omega) (by simp)
            refine VS.pure s hv ?_
            simp [Instr.sliceAt, Instr.slice, run_underlying hund, hb, run_sizeOf' w hinfo]
        · cases e
      · cases e
    · cases e
  · rename_i b o
    obtain ⟨_, _, cb, off, own, hb, hi0, rfl⟩ := hx.inv_ptr
    cases hb
    split at e
    · rename_i n el
      split at e
      · rename_i hel
        unfold slGo at e
        split at e
        · rename_i sz H hsz eh
          split at e
          · rename_i L elo
            obtain ⟨ti, hinfo, hs⟩ := T.size hsz
            subst hs
            obtain ⟨hb, h1, h2⟩ := sliceBounds_run (P := P) (w := w) (isS := false) (n := n) (C := n) eh elo (Nat.le_refl _) hlo hhi
            have hbase : VR i (.slice (some ⟨b, o, none⟩) n n) (.slice (some ⟨cb, off + o, none⟩) n n) := .slice hi0 (Nat.le_refl _) (Nat.le_refl _) (.inr ⟨rfl, .inl (of_beq hel)⟩)
            obtain ⟨rfl, hv⟩ := slMk_VS e hbase (Nat.le_refl _) h1 (by omega) (by simp)
            refine VS.pure s hv ?_
            by_cases hnl : n = L
            · subst hnl
              simp [Instr.sliceAt, run_underlying hund, Instr.sureAddr, hb, run_sizeOf' w hinfo]
            · simp [Instr.sliceAt, run_underlying hund, Instr.sureAddr, hb, run_sizeOf' w hinfo, hnl]
          · cases e
        · cases e
      · cases e
    · cases e
  · cases e

theorem alloc_VS (T : TabOk P A) (s : SR B w₀ i h w) {t : TypeId} {z : List Value} (hz : A.zero t = some z) (e : newPtr h z = some (v, h')) : VS P B w₀ i h' w v (Instr.alloc t true (.tuple #[])) := by
  obtain ⟨ti, zv, hinfo, hzv, rfl, hsc, _⟩ := T.zero hz
  obtain ⟨j, v', w', h1, h2⟩ := newPtr_VS (P := P) s t e (LR.scals _ hsc)
  refine ⟨j, v', w', ?_, h2⟩
  rw [← h1]
  simp [Instr.alloc, run_zero' w hinfo hzv, newVar]

theorem box_VS (s : SR B w₀ i h w) {t : TypeId} {x x' : Value} (e : bxGo h x.cells.toList = some (v, h')) (hx : VR i x x') : VS P B w₀ i h' w v (Instr.box t x') := by
  unfold bxGo at e
  split at e
  · obtain ⟨j, v', w', h1, h2⟩ := newPtr_VS (P := P) s t e hx.cells
    refine ⟨j, v', w', ?_, h2⟩
    rw [← h1]
    simp [Instr.box, newVar]
  · cases e

/-- Setting the cells one by one is putting the list over. -/
theorem foldl_put : ∀ (vs : List Value) (cs : Array Value) (off k : Nat), off + k + vs.length ≤ cs.size →
    ((vs.zipIdx k).foldl (fun cs (x : Value × Nat) => cs.setIfInBounds (off + x.2) x.1) cs).toList = putL cs.toList (off + k) vs := by
  intro vs
  induction vs with
  | nil => intro cs off k _; simp [putL]
  | cons v vs ih =>
    intro cs off k h
    simp only [List.length_cons] at h
    rw [List.zipIdx_cons, List.foldl_cons, ih _ off (k + 1) (by simp; omega)]
    have hlt : off + k < cs.toList.length := by simp; omega
    have e1 : (cs.setIfInBounds (off + k) v).toList = cs.toList.set (off + k) v := by simp
    rw [e1]
    apply List.ext_getElem?
    intro n
    rw [show off + (k + 1) = off + k + 1 by omega]
    rw [putL_get _ _ _ (by simp; omega), putL_get _ _ _ (by simp; omega)]
    by_cases h1 : off + k + 1 ≤ n ∧ n < off + k + 1 + vs.length
    · rw [if_pos h1, if_pos (by simp; omega), show n - (off + k) = n - (off + k + 1) + 1 by omega]; simp
    · rw [if_neg h1]
      by_cases h2 : n = off + k
      · subst h2
        rw [if_pos (by simp), List.getElem?_set_self hlt]
        simp
      · rw [if_neg (by simp; omega), List.getElem?_set_ne (by omega)]

theorem fill_VS {place place' : Nat → Option (Nat × Nat)} (hpp : ∀ k x, place k = some x → place' k = some x) : ∀ (ps ps' : List (Nat × Value)) (cs : List Value) (cs' : Array Value) (out : List Value), fillV place cs ps = some out → LR i cs cs'.toList → ps.map (·.1) = ps'.map (·.1) → LR i (ps.map (·.2)) (ps'.map (·.2)) →
    ∃ out', Instr.fill place' cs' ps' = some out' ∧ LR i out out'.toList := by
  intro ps
  induction ps with
  | nil =>
    intro ps' cs cs' out e hl h1 _
    cases ps' with
    | nil => cases e; exact ⟨cs', rfl, hl⟩
    | cons _ _ => simp at h1
  | cons p ps ih =>
    intro ps' cs cs' out e hl h1 h2
    obtain ⟨k, x⟩ := p
    cases ps' with
    | nil => simp at h1
    | cons p' ps' =>
      obtain ⟨k', x'⟩ := p'
      simp only [List.map_cons, List.cons.injEq] at h1
      obtain ⟨rfl, h1⟩ := h1
      have hx := h2.head
      have ht := h2.tail
      dsimp only at hx
      simp only [fillV] at e
      split at e
      · rename_i off sz hpl
        split at e
        · rename_i hok
          rw [Bool.and_eq_true] at hok
          have hlen := of_beq hok.1
          have hfit := of_ble hok.2
          have hcl := hx.cells
          have hcs := hl.1
          have hcl1 := hcl.1
          simp only [Array.length_toList] at hcl1 hcs hlen
          simp only [Instr.fill, hpp _ _ hpl]
          rw [if_neg (by simp only [ne_eq, Bool.or_eq_true, decide_eq_true_eq, not_or]; refine ⟨?_, ?_⟩ <;> simp <;> omega)]
          refine ih ps' _ _ out e ?_ h1 ht
          have hf := foldl_put x'.cells.toList cs' off 0 (by simp; omega)
          have : x'.cells.zipIdx.foldl (fun cs (x : Value × Nat) => cs.setIfInBounds (off + x.2) x.1) cs' = (x'.cells.toList.zipIdx 0).foldl (fun cs (x : Value × Nat) => cs.setIfInBounds (off + x.2) x.1) cs' := by
            rw [← Array.foldl_toList, Array.toList_zipIdx]
          rw [this, hf]
          exact hl.putL hcl _
        · cases e
      · cases e
end
end Go.Ev

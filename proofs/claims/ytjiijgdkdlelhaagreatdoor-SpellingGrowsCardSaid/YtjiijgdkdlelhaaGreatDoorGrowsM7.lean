/- The evaluator Ev: makes, conversions, maps, tuples, lengths. -/
import Derived.Test.YtjiijgdkdlelhaaGreatDoorGrowsM6
import Derived.MapKept
/- The evaluator Ev: makes, conversions, maps, tuples, lengths. -/
namespace Go.Ev
open Go.RowKit

theorem wrap_nat (n : Nat) (h : n < 1000000000000) : IntKind.i64.wrap (n : Int) = n := by
  refine wrap_sp .i64 n (by omega) ?_ (two_bits .i64)
  have : (2 : Int) ^ (IntKind.i64.bits - 1) = 9223372036854775808 := by decide
  omega

section
variable {P : Program} {A : Tab} {B : Nat} {w₀ : World} {i : Im} {h h' : Hp} {w : World} {v : Value}

theorem makeSlice_VS (T : TabOk P A) (s : SR B w₀ i h w) {t el : TypeId} {l c : Nat} (hd : A.desc t = some (.slice el)) (e : msElem A h el l c = some (v, h')) :
    VS P B w₀ i h' w v (Instr.makeSlice t (.int .i64 (l : Int)) (.int .i64 (c : Int))) := by
  have hund := T.desc hd
  unfold msElem at e
  split at e
  · rename_i ie _ z hty hz
    obtain ⟨hinfo, _⟩ := T.ty _ _ _ hty
    obtain ⟨ti, zv, hinfo', hzv, rfl, hsc, hzl⟩ := T.zero hz
    rw [hinfo] at hinfo'
    cases hinfo'
    unfold msGo at e
    split at e
    · rename_i hok
      unfold msFits at hok
      simp only [Bool.and_eq_true] at hok
      obtain ⟨⟨⟨h1, h2⟩, h3⟩, h4⟩ := hok
      have h1 := of_ble h1
      have h2 := of_ble h2
      have h3 := of_blt h3
      have h4 := of_beq h4
      split at e
      · rename_i nb h1' hn
        cases e
        have hz0 : (repL c zv.cells.toList) = ((Array.range (c * ie.size)).map (fun i => (if c * ie.size = 0 then #[] else zv.cells)[i % (if c * ie.size = 0 then #[] else zv.cells).size]!)).toList := by
          by_cases h0 : c * ie.size = 0
          · rw [if_pos h0, h0]
            have : repL c zv.cells.toList = [] := List.eq_nil_of_length_eq_zero (by rw [repL_length, h4]; exact h0)
            rw [this]; simp
          · rw [if_neg h0, zeros_toList _ c _ (by simp at h4; rw [h4])]
        obtain ⟨j, v', w', g1, g2⟩ := newRow_VS (P := P) s (sz := ie.size) (l := l) (c := c) (c' := c) el hn ((LR.scals _ hsc).repL c) [] h1 (Nat.le_refl _) (by rw [List.append_nil, repL_length, h4]; exact Nat.le_refl _)
        refine ⟨j, v', w', ?_, g2⟩
        rw [← g1]
        have wl := wrap_nat l (by omega)
        have wc := wrap_nat c h3
        have hb : ¬ ((ie.bytes : Int) * (c : Int) > 2 ^ 48) := by
          have : ((c * ie.bytes : Nat) : Int) ≤ 100000000000000 := by omega
          have e2 : (2 : Int) ^ 48 = 281474976710656 := by decide
          rw [Int.mul_comm, ← Int.natCast_mul, e2]
          omega
        have hc0 : ¬ ((c : Int) < 0) := by omega
        have hl0 : ¬ ((l : Int) < 0) := by omega
        have hlc : ¬ ((l : Int) > (c : Int)) := by omega
        simp only [Instr.makeSlice, Sem.run_bind, run_underlying hund, Result.andThen_ok, asInt, asIntOf, Sem.run_pure, run_typeInfo' w hinfo, wl, wc, hb, hc0, hl0, hlc, decide_false, Bool.or_false, Bool.or_self, Bool.false_eq_true, if_false, run_askRoom, Int.toNat_natCast, run_sizeOf' w hinfo]
        rw [List.append_nil]
        by_cases h0 : c * ie.size = 0
        · simp only [h0, if_true] at hz0 ⊢
          rw [hz0]
          simp only [Sem.run_bind, Sem.run_pure, Result.andThen_ok]
        · simp only [h0, if_false] at hz0 ⊢
          rw [hz0]
          simp only [Sem.run_bind, run_zero' w hinfo hzv, Sem.run_pure, Result.andThen_ok]
      · cases e
    · cases e
  · cases e

theorem concreteD {P : Program} {t : TypeId} {d : TypeDesc} (h : P.underlying t = some d) (hn : isIfD d = false) (x : Value) (w : World) : (Instr.makeInterface t x).run P w = .ok (.iface t x) w := by
  simp only [Instr.makeInterface, Sem.run_bind, run_underlying h, Result.andThen_ok]
  cases d <;> first | rfl | (simp [isIfD] at hn)

/-! ### Maps -/
theorem keyOk_cases {d : TypeDesc} {k : Value} (h : keyOk d k = true) : (∃ s, d = .string ∧ k = .string s) ∨ (∃ kd n, d = .int kd ∧ k = .int kd n) := by
  unfold keyOk at h
  split at h
  · exact .inl ⟨_, rfl, rfl⟩
  · exact .inr ⟨_, _, rfl, by rw [(sameK_iff _ _).1 h]⟩
  · cases h

theorem run_checkKey {t : TypeId} {d : TypeDesc} {k : Value} {em : Bool} (n : Nat) (hu : P.underlying t = some d) (h : keyOk d k = true) : (Instr.checkKey em (n + 1) t k).run P w = .ok () w := by
  rcases keyOk_cases h with ⟨s, rfl, rfl⟩ | ⟨kd, m, rfl, rfl⟩ <;> simp [Instr.checkKey, run_underlying hu]

theorem sameNow_eq {d : TypeDesc} {k : Value} (h : keyOk d k = true) (k' : Value) (r : Bool) (e : eqKey k k' = some r) : Instr.sameNow d k k' = some r ∧ (r = true → k' = k) := by
  rcases keyOk_cases h with ⟨s, rfl, rfl⟩ | ⟨kd, m, rfl, rfl⟩
  · unfold eqKey at e
    split at e
    · rename_i a b heq
      cases heq
      cases e
      refine ⟨?_, fun hr => ?_⟩
      · simp only [Instr.sameNow]
        rw [eqBytes_eq]
        congr 1
        rw [Bool.eq_iff_iff, Go.MapKept.bytes_beq, beq_iff_eq]
        exact ⟨fun h => by rw [h], fun h => bytes_inj' h⟩
      · rw [bytes_inj' ((eqBytes_iff _ _).1 hr)]
    · rename_i heq; cases heq
    · cases e
  · unfold eqKey at e
    split at e
    · rename_i heq; cases heq
    · rename_i k1 a k2 b heq
      cases heq
      split at e
      · rename_i hk
        obtain rfl := (sameK_iff _ _).1 hk
        cases e
        refine ⟨by simp [Instr.sameNow, eqI_eq], fun hr => ?_⟩
        rw [eqI_eq] at hr
        have := beq_iff_eq.1 hr
        rw [this]
      · cases e
    · cases e

theorem MR.uncons {i : Im} {e : Value × Value} {es : List (Value × Value)} {en : List MapEntry} (h : MR i (e :: es) en) : ∃ e' en', en = e' :: en' ∧ e'.key = e.1 ∧ VR i e.2 e'.val ∧ MR i es en' := by
  cases en with
  | nil => have := h.1; simp at this
  | cons e' en =>
    obtain ⟨x, hx, h1, h2⟩ := h.2 0 e (by simp)
    simp only [List.getElem?_cons_zero, Option.some.injEq] at hx
    subst hx
    exact ⟨_, en, rfl, h1, h2, by simpa using h.1, fun k y hy => by simpa using h.2 (k + 1) y (by simpa using hy)⟩
theorem MR.cons {i : Im} {e : Value × Value} {e' : MapEntry} {es : List (Value × Value)} {en : List MapEntry} (hk : e'.key = e.1) (hv : VR i e.2 e'.val) (h : MR i es en) : MR i (e :: es) (e' :: en) :=
  ⟨by simp [h.1], fun k y hy => by
    cases k with
    | zero => simp only [List.getElem?_cons_zero, Option.some.injEq] at hy; subst hy; exact ⟨e', by simp, hk, hv⟩
    | succ k => simpa using h.2 k y (by simpa using hy)⟩

theorem findK_VS {i : Im} {d : TypeDesc} {k : Value} (h : keyOk d k = true) : ∀ (es : List (Value × Value)) (en : List MapEntry) (n : Nat) (r : Option Value), MR i es en → findK k es = some r →
    (r = none ∧ Instr.findNow d k en n = some none) ∨ (∃ x u m, r = some x ∧ Instr.findNow d k en n = some (some (m, u)) ∧ VR i x u) := by
  intro es
  induction es with
  | nil => intro en n r hm e; have := hm.1; simp at this; obtain rfl := List.eq_nil_of_length_eq_zero this.symm; cases e; exact .inl ⟨rfl, rfl⟩
  | cons x es ih =>
    intro en n r hm e
    obtain ⟨e', en', rfl, hk, hv, ht⟩ := hm.uncons
    simp only [findK] at e
    split at e
    · rename_i hq
      cases e
      have := (sameNow_eq h x.1 true hq).1
      refine .inr ⟨_, _, n, rfl, ?_, hv⟩
      simp [Instr.findNow, hk, this]
    · rename_i hq
      have := (sameNow_eq h x.1 false hq).1
      simp only [Instr.findNow, hk, this]
      exact ih en' (n + 1) r ht e
    · cases e

theorem setK_VS {i : Im} {d : TypeDesc} {k x x' : Value} (h : keyOk d k = true) (hx : VR i x x') : ∀ (es : List (Value × Value)) (en : List MapEntry) (n ck : Nat) (es' : List (Value × Value)), MR i es en → setK k x es = some es' →
    (Instr.findNow d k en n = some none ∧ MR i es' (en ++ [{ key := k, val := x', born := ck }])) ∨
    (∃ m u e, Instr.findNow d k en n = some (some (n + m, u)) ∧ en[m]? = some e ∧ e.key = k ∧ MR i es' (en.modify m fun e => { e with key := k, val := x' })) := by
  intro es
  induction es with
  | nil =>
    intro en n ck es' hm e
    have := hm.1; simp at this
    obtain rfl := List.eq_nil_of_length_eq_zero this.symm
    cases e
    exact .inl ⟨rfl, MR.cons (e := (k, x)) (e' := { key := k, val := x', born := ck }) rfl hx ⟨rfl, fun k e he => by simp at he⟩⟩
  | cons y es ih =>
    intro en n ck es' hm e
    obtain ⟨e', en', rfl, hk, hv, ht⟩ := hm.uncons
    simp only [setK] at e
    split at e
    · rename_i hq
      cases e
      obtain ⟨h1, h2⟩ := sameNow_eq h y.1 true hq
      refine .inr ⟨0, e'.val, e', ?_, by simp, by rw [hk]; exact h2 rfl, ?_⟩
      · simp [Instr.findNow, hk, h1]
      · simp only [List.modify_zero_cons]
        exact MR.cons (e := (k, x)) rfl hx ht
    · rename_i hq
      obtain ⟨h1, _⟩ := sameNow_eq h y.1 false hq
      split at e
      · rename_i es2 hs
        cases e
        rcases ih en' (n + 1) ck es2 ht hs with ⟨g1, g2⟩ | ⟨m, u, e0, g1, g2, g3, g4⟩
        · exact .inl ⟨by simp only [Instr.findNow, hk, h1]; exact g1, MR.cons hk hv g2⟩
        · refine .inr ⟨m + 1, u, e0, ?_, by simpa using g2, g3, ?_⟩
          · simp only [Instr.findNow, hk, h1]
            rw [g1]; congr 3; omega
          · rw [List.modify_succ_cons]
            exact MR.cons hk hv g4
      · cases e
    · cases e

theorem lookup_VS (T : TabOk P A) (s : SR B w₀ i h w) {t k el : TypeId} {ok : Bool} {m m' key : Value} (hd : A.desc t = some (.map k el)) (e : lkDesc A h ok k el m key = some (v, h')) (hm : VR i m m') :
    ∀ key', VR i key key' → VS P B w₀ i h' w v (Instr.lookup t m' key' ok) := by
  intro key' hkey
  have hund := T.desc hd
  unfold lkDesc at e
  split at e
  · rename_i kd ei ed hkd hty
    obtain ⟨hinfo, _, hz0, _⟩ := T.ty _ _ _ hty
    split at e
    · rename_i z hok hz
      have hkd' := T.desc hkd
      have hkk : key' = key := by
        rcases keyOk_cases hok with ⟨s, rfl, rfl⟩ | ⟨kd, n, rfl, rfl⟩
        · exact hkey.inv_string
        · exact hkey.inv_int
      subst hkk
      have hzz := run_zero' (P := P) w hinfo hz
      have hzv : VR i z z := by
        have := (hz0 z hz).1
        cases z with
        | agg cs => exact VR.flat (by simpa [flat, Value.cells] using this)
        | _ => exact .scal (by simpa [Value.cells] using this)
      unfold lkGo at e
      split at e
      · obtain rfl := hm.inv_nilMap
        cases ok <;> simp only [lkOut] at e <;> cases e
        · refine VS.pure s hzv ?_
          simp [Instr.lookup, run_underlying hund, run_checkKey 9999 hkd' hok, Instr.findKey, run_underlying hkd', Instr.findNow, hzz]
        · refine VS.pure s (VR.tuple' (p := [z, .bool false]) (p' := [z, .bool false]) ((LR.cons hzv ((LR.nil i).cons (.scal rfl))))) ?_
          simp [Instr.lookup, run_underlying hund, run_checkKey 9999 hkd' hok, Instr.findKey, run_underlying hkd', Instr.findNow, hzz]
      · rename_i r
        obtain ⟨cb, off, own, hi, rfl⟩ := hm.inv_map
        split at e
        · rename_i es hg
          split at e
          · rename_i res hres
            obtain ⟨en, ck, hobj, hmr, _⟩ := s.im hg hi
            dsimp only at hobj
            rcases findK_VS hok es en.toList 0 res hmr hres with ⟨rfl, hf⟩ | ⟨x, u, n, rfl, hf, hxu⟩
            · cases ok <;> simp only [lkOut] at e <;> cases e
              · refine VS.pure s hzv ?_
                simp [Instr.lookup, run_underlying hund, getObj, Sem.run, hobj, run_checkKey 9999 hkd' hok, Instr.findKey, run_underlying hkd', hf, hzz]
              · refine VS.pure s (VR.tuple' (p := [z, .bool false]) (p' := [z, .bool false]) ((LR.cons hzv ((LR.nil i).cons (.scal rfl))))) ?_
                simp [Instr.lookup, run_underlying hund, getObj, Sem.run, hobj, run_checkKey 9999 hkd' hok, Instr.findKey, run_underlying hkd', hf, hzz]
            · cases ok <;> simp only [lkOut] at e <;> cases e
              · refine VS.pure s hxu ?_
                simp [Instr.lookup, run_underlying hund, getObj, Sem.run, hobj, run_checkKey 9999 hkd' hok, Instr.findKey, run_underlying hkd', hf]
              · refine VS.pure s (VR.tuple' (p := [x, .bool true]) (p' := [u, .bool true]) ((LR.cons hxu ((LR.nil i).cons (.scal rfl))))) ?_
                simp [Instr.lookup, run_underlying hund, getObj, Sem.run, hobj, run_checkKey 9999 hkd' hok, Instr.findKey, run_underlying hkd', hf]
          · cases e
        · cases e
      · cases e
    · cases e
  · cases e

theorem sameBits_self {d : TypeDesc} {k : Value} (h : keyOk d k = true) (n : Nat) : Instr.sameBits n k k = true := by
  rcases keyOk_cases h with ⟨s, rfl, rfl⟩ | ⟨kd, m, rfl, rfl⟩
  · simp [Instr.sameBits, Go.MapKept.bytes_beq]
  · simp [Instr.sameBits]

theorem mapUpdate_VS (T : TabOk P A) (s : SR B w₀ i h w) {t kt el : TypeId} {r : Nat} {m' key key' x x' : Value} (hd : A.desc t = some (.map kt el)) (e : muGo A h kt r key x = some (v, h')) (hm : VR i (.map (some r)) m') (hkey : VR i key key') (hx : VR i x x') :
    v = undef ∧ ∃ w', (Instr.mapUpdate t m' key' x').run P w = .ok () w' ∧ SR B w₀ i h' w' := by
  have hund := T.desc hd
  unfold muGo at e
  split at e
  · rename_i kd hkd
    split at e
    · rename_i es hok hg
      split at e
      · rename_i es' hset
        cases e
        refine ⟨rfl, ?_⟩
        have hkd' := T.desc hkd
        have hkk : key' = key := by
          rcases keyOk_cases hok with ⟨s, rfl, rfl⟩ | ⟨kd, n, rfl, rfl⟩
          · exact hkey.inv_string
          · exact hkey.inv_int
        subst hkk
        obtain ⟨cb, off, own, hi, rfl⟩ := hm.inv_map
        obtain ⟨en, ck, hobj, hmr, hB, hpos⟩ := s.im hg hi
        dsimp only at hobj hB hpos
        have hlt : cb < w.heap.size := (Array.getElem?_eq_some_iff.1 hobj).1
        rcases setK_VS hok hx es en.toList 0 ck es' hmr hset with ⟨hf, hm'⟩ | ⟨m, u, e0, hf, he0, hk0, hm'⟩
        · have hs := s.obj (y := .map es') (o' := .map (en.push { key := key', val := x', born := ck }) (ck + 1)) hg hi rfl (fun _ _ e => by cases e) hobj (fun _ _ _ e => by cases e)
            ⟨en.push { key := key', val := x', born := ck }, ck + 1, by simp [hlt], by simpa using hm', hB, hpos⟩
          refine ⟨_, ?_, hs⟩
          simp [Instr.mapUpdate, run_underlying hund, getObj, setObj, Sem.run, hobj, run_checkKey 9999 hkd' hok, Instr.findKey, run_underlying hkd', hf]
        · have hs := s.obj (y := .map es') (o' := .map (en.modify m fun e => { e with key := key', val := x' }) ck) hg hi rfl (fun _ _ e => by cases e) hobj (fun _ _ _ e => by cases e)
            ⟨en.modify m fun e => { e with key := key', val := x' }, ck, by simp [hlt], by simpa [Array.toList_modify] using hm', hB, hpos⟩
          refine ⟨_, ?_, hs⟩
          have he0' : en[m]? = some e0 := by simpa using he0
          simp [Instr.mapUpdate, run_underlying hund, getObj, setObj, Sem.run, hobj, run_checkKey 9999 hkd' hok, Instr.findKey, run_underlying hkd', hf, he0', hk0, Instr.keyThatStays, sameBits_self hok]
      · cases e
    · cases e
  · cases e

theorem newMap_VS (s : SR B w₀ i h w) {nb : Nat} {h1 : Hp} (hn : h.new 0 (.map []) = some (nb, h1)) {t : TypeId} : VS P B w₀ i h1 w (.map (some nb)) (Instr.makeMap t none) := by
  obtain ⟨hnb, _⟩ := Hp.new_some hn
  have hs := s.new hn (.map #[] 0) 1 ⟨#[], 0, by show (w.heap.push _)[w.heap.size]? = _; simp, ⟨rfl, fun k e he => by simp at he⟩, s.size, rfl⟩
  exact ⟨_, .map (some w.heap.size), _, by simp [Instr.makeMap], Im.le_set (by rw [hnb]; exact s.none _), VR.map (Im.set_self _ _ _), hs⟩

theorem extract_VS {x' : Value} {ix : Nat} {vs : Array Value} (hx : VR i (.tuple vs) x') (e : nthL vs.toList ix = some v) : ∃ v', (Instr.extract x' ix).run P w = .ok v' w ∧ VR i v v' := by
  obtain ⟨vs', rfl, hl⟩ := hx.inv_tuple
  rw [nthL_eq] at e
  obtain ⟨v', hv', hvr⟩ := hl.some e
  have : vs'[ix]? = some v' := by rw [← hv']; simp
  exact ⟨v', by simp [Instr.extract, this], hvr⟩

/-! ### Conversions -/
theorem bytesOf_some : ∀ (cs : List Value) (bs : List UInt8), bytesOf cs = some bs → ∃ ns : List Int, cs = ns.map (Value.int .u8) ∧ bs = ns.map fun n => UInt8.ofNat n.toNat := by
  intro cs
  induction cs with
  | nil => intro bs e; cases e; exact ⟨[], rfl, rfl⟩
  | cons c cs ih =>
    intro bs e
    unfold bytesOf at e
    split at e
    · rename_i heq; cases heq
    · rename_i n vs heq
      cases heq
      split at e
      · rename_i bs' hb
        cases e
        obtain ⟨ns, rfl, rfl⟩ := ih bs' hb
        exact ⟨n :: ns, rfl, rfl⟩
      · cases e
    · cases e
theorem LR.ints {i : Im} : ∀ (ns : List Int) (vs : List Value), LR i (ns.map (Value.int .u8)) vs → vs = ns.map (Value.int .u8) := by
  intro ns
  induction ns with
  | nil => intro vs h; exact h.unnil
  | cons n ns ih =>
    intro vs h
    obtain ⟨y, ys, rfl, hv, ht⟩ := h.uncons
    rw [hv.inv_int, ih ys ht]; rfl
theorem foldl_push : ∀ (ns : List Int) (s : ByteArray), (ns.foldl (fun r n => r.push (UInt8.ofNat n.toNat)) s).data.toList = s.data.toList ++ ns.map fun n => UInt8.ofNat n.toNat := by
  intro ns
  induction ns with
  | nil => intro s; simp
  | cons n ns ih => intro s; rw [List.foldl_cons, ih]; simp [ByteArray.push]
end
end Go.Ev

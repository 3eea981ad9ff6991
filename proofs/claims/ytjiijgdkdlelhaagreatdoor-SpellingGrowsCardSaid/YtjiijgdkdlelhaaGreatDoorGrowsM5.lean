/- The evaluator Ev: addresses, parts, slices, conversions, boxes and literals. -/
import Derived.Test.YtjiijgdkdlelhaaGreatDoorGrowsM4
import Derived.Laws.Strings
/- The evaluator Ev: the operations on numbers, strings and truth values. -/
namespace Go.Ev
open Go.RowKit

theorem bytes_inj' {a b : ByteArray} (h : a.data.toList = b.data.toList) : a = b := by
  cases a; cases b; simp at h; subst h; rfl

section
variable {P : Program} {w : World}

theorem run_equalIn_VS {i : Im} {t : TypeId} {d : TypeDesc} {x y x' y' : Value} {r : Bool} (n : Nat) (hd : P.underlying t = some d) (e : eqlV d x y = some r) (hx : VR i x x') (hy : VR i y y') :
    (Op.equalIn (n + 1) t x' y').run P w = .ok r w := by
  unfold eqlV at e
  split at e
  · -- bools
    rw [hx.inv_bool, hy.inv_bool]
    split at e
    · cases e; simp [Op.equalIn, run_underlying hd]
    · cases e
  · -- nil pointer left
    rename_i b
    rw [hx.inv_nilPtr]
    cases b with
    | none =>
      rw [hy.inv_nilPtr]
      split at e
      · cases e; simp [Op.equalIn, run_underlying hd]
      · cases e
    | some b =>
      obtain ⟨_, _, _, _, _, _, _, rfl⟩ := hy.inv_ptr
      split at e
      · cases e; simp [Op.equalIn, run_underlying hd]
      · cases e
  · rename_i a
    obtain ⟨_, _, _, _, _, _, _, rfl⟩ := hx.inv_ptr
    rw [hy.inv_nilPtr]
    split at e
    · cases e; simp [Op.equalIn, run_underlying hd]
    · cases e
  · obtain ⟨u, rfl, _⟩ := hy.inv_iface
    rw [hx.inv_nilIface]
    split at e
    · cases e; simp [Op.equalIn, run_underlying hd]
    · cases e
  · obtain ⟨u, rfl, _⟩ := hx.inv_iface
    rw [hy.inv_nilIface]
    split at e
    · cases e; simp [Op.equalIn, run_underlying hd]
    · cases e
  · rename_i b n c
    rw [hx.inv_nilSlice]
    cases b with
    | none =>
      rw [hy.inv_nilSlice]
      split at e
      · cases e; simp [Op.equalIn, run_underlying hd]
      · cases e
    | some b =>
      obtain ⟨_, _, _, _, _, _, _, _, _, _, _, _, rfl⟩ := hy.inv_slice
      split at e
      · cases e; simp [Op.equalIn, run_underlying hd]
      · cases e
  · obtain ⟨_, _, _, _, _, _, _, _, _, _, _, _, rfl⟩ := hx.inv_slice
    rw [hy.inv_nilSlice]
    split at e
    · cases e; simp [Op.equalIn, run_underlying hd]
    · cases e
  · rename_i b
    rw [hx.inv_nilMap]
    cases b with
    | none =>
      rw [hy.inv_nilMap]
      split at e
      · cases e; simp [Op.equalIn, run_underlying hd]
      · cases e
    | some b =>
      obtain ⟨_, _, _, _, rfl⟩ := hy.inv_map
      split at e
      · cases e; simp [Op.equalIn, run_underlying hd]
      · cases e
  · obtain ⟨_, _, _, _, rfl⟩ := hx.inv_map
    rw [hy.inv_nilMap]
    split at e
    · cases e; simp [Op.equalIn, run_underlying hd]
    · cases e
  · rw [hx.inv_nilFunc, hy.inv_nilFunc]
    split at e
    · cases e; simp [Op.equalIn, run_underlying hd]
    · cases e
  · obtain ⟨_, _, _, rfl, _⟩ := hy.inv_func
    rw [hx.inv_nilFunc]
    split at e
    · cases e; simp [Op.equalIn, run_underlying hd]
    · cases e
  · obtain ⟨_, _, _, rfl, _⟩ := hx.inv_func
    rw [hy.inv_nilFunc]
    split at e
    · cases e; simp [Op.equalIn, run_underlying hd]
    · cases e
  · cases e

theorem run_equal_VS {i : Im} {t : TypeId} {d : TypeDesc} {x y x' y' : Value} {r : Bool} (hd : P.underlying t = some d) (e : eqlV d x y = some r) (hx : VR i x x') (hy : VR i y y') :
    (Op.equal t x' y').run P w = .ok r w := run_equalIn_VS 9999 hd e hx hy

theorem leI (a b : Int) : (!decide (b < a)) = decide (a ≤ b) := by
  rw [← decide_not]; exact decide_eq_decide.2 Int.not_lt

theorem binI_run {op : BinOp} {k : IntKind} {a b : Int} {v : Value} (e : binI op k a b = some v) (hs : isShift op = false) : ∀ t, (binOp op t (.int k a) (.int k b)).run P w = .ok v w ∧ scal v = true := by
  intro t
  cases op <;> simp only [binI] at e <;> first
    | (cases hs; done)
    | (simp only [biAdd, biSub, biMul, someI, wrapI_eq, Option.some.injEq] at e; subst e; exact ⟨by simp [binOp, Op.intArith], rfl⟩)
    | (simp only [biEql, biNeq, biLss, biLeq, biGtr, biGeq, someB, eqI_eq, ltI_eq, Option.some.injEq] at e; subst e; refine ⟨?_, rfl⟩; simp [binOp, Op.intCmp, bne, ← leI]; done)
    | (simp only [biLeq, biGeq, someB, ltI_eq, leI, Option.some.injEq] at e; subst e; exact ⟨by simp [binOp, Op.intCmp], rfl⟩)
    | (simp only [biAnd, biOr, biXor, Option.some.injEq] at e; subst e; exact ⟨by simp [binOp, Op.intBits], rfl⟩)
    | (simp only [biQuo, biRem, someI, wrapI_eq, eqI_eq] at e
       split at e
       · cases e
       · rename_i hb
         have hb0 : b ≠ 0 := by simpa using hb
         simp only [Option.some.injEq] at e; subst e
         exact ⟨by simp [binOp, Op.intDiv, hb0], rfl⟩)
    | (exact absurd e (by simp [biNone]))
    | (cases e)

theorem shiftI_run {op : BinOp} {k k' : IntKind} {a b : Int} {v : Value} (e : shiftI op k a b = some v) (hs : isShift op = true) : ∀ t, (binOp op t (.int k a) (.int k' b)).run P w = .ok v w ∧ scal v = true := by
  intro t
  cases b with
  | negSucc n => cases e
  | ofNat n =>
    have hn : ¬ ((n : Int) < 0) := by omega
    cases op <;> first
      | (cases hs; done)
      | (simp only [shiftI, biShl, biShr, Option.some.injEq] at e; subst e; exact ⟨by simp [binOp, Op.shift, hn], rfl⟩)

theorem binS_run {op : BinOp} {a b : ByteArray} {v : Value} (e : binS op a b = some v) : ∀ t, (binOp op t (.string a) (.string b)).run P w = .ok v w ∧ scal v = true := by
  intro t
  cases op <;> simp only [binS] at e <;> first
    | (simp only [bsEql, bsNeq, bsLss, bsGeq, bsLeq, bsGtr, someB, eqBytes_eq, ltBytes_eq, Option.some.injEq] at e; subst e; exact ⟨by simp [binOp, Op.stringOp, ByteArray.toList_eq], rfl⟩)
    | (exact absurd e (by simp [bsNone]))
    | (simp only [bsAdd] at e
       split at e
       · rename_i hlt
         have hlt := of_blt hlt
         simp only [Option.some.injEq] at e; subst e
         refine ⟨?_, rfl⟩
         have h1 : ¬ (((a.size + b.size : Nat) : Int) > IntKind.i64.max) := by
           have : (IntKind.i64.max : Int) = 9223372036854775807 := by decide
           have ha : a.data.toList.length = a.size := by simp
           have hb : b.data.toList.length = b.size := by simp
           omega
         have h2 : a ++ b = strCat a b := by
           apply bytes_inj'
           simp [strCat, ByteArray.data_append]
         simp only [binOp, Op.stringOp, h2]
         rw [if_neg h1]; rfl
       · cases e)

theorem eqGuard_other {op : BinOp} {t : TypeId} {x y : Operand} {a b : Value} (h1 : ¬ (a = .nilIface ∧ b = .nilIface)) (h2 : ∀ cs, a ≠ .agg cs) : (eqGuard op t x y a b).run P w = .ok () w := by
  unfold eqGuard
  cases op <;> first
    | rfl
    | (simp only [Bool.not_true, Bool.false_eq_true, if_false]
       split
       · exact absurd ⟨rfl, rfl⟩ h1
       · exact absurd rfl (h2 _)
       · rfl)

theorem bvEq_VS {A : Tab} (T : TabOk P A) {i : Im} {op : BinOp} {t : TypeId} {a b a' b' v : Value} (e : bvEq A op t a b = some v) (ha : VR i a a') (hb : VR i b b') :
    scal v = true ∧ ((∃ r, v = .bool r ∧ op = .eql ∧ (Op.equal t a' b').run P w = .ok r w) ∨ (∃ r, v = .bool (!r) ∧ op = .neq ∧ (Op.equal t a' b').run P w = .ok r w)) := by
  unfold bvEq at e
  split at e
  · rename_i d hd
    split at e
    · rename_i r hr
      have he := run_equal_VS (w := w) (T.desc hd) hr ha hb
      split at e
      · cases e; exact ⟨rfl, .inl ⟨r, rfl, rfl, he⟩⟩
      · cases e; exact ⟨rfl, .inr ⟨r, rfl, rfl, he⟩⟩
      · cases e
    · cases e
  · cases e

/-- The shapes that eqlV compares. -/
theorem eqlV_shape {d : TypeDesc} {x y : Value} {r : Bool} (e : eqlV d x y = some r) : (∃ a b, x = .bool a ∧ y = .bool b) ∨ (∃ a b, x = .pointer a ∧ y = .pointer b) ∨ (x = .nilIface ∧ ∃ t u, y = .iface t u) ∨ (y = .nilIface ∧ ∃ t u, x = .iface t u) ∨
    (∃ a n c b m e, x = .slice a n c ∧ y = .slice b m e) ∨ (∃ a b, x = .map a ∧ y = .map b) ∨ (x = .nilFunc ∧ y = .nilFunc) ∨ (x = .nilFunc ∧ ∃ f p q, y = .func f p q) ∨ (y = .nilFunc ∧ ∃ f p q, x = .func f p q) := by
  unfold eqlV at e
  split at e <;> first
    | cases e
    | exact .inl ⟨_, _, rfl, rfl⟩
    | exact .inr (.inl ⟨_, _, rfl, rfl⟩)
    | exact .inr (.inr (.inl ⟨rfl, _, _, rfl⟩))
    | exact .inr (.inr (.inr (.inl ⟨rfl, _, _, rfl⟩)))
    | exact .inr (.inr (.inr (.inr (.inl ⟨_, _, _, _, _, _, rfl, rfl⟩))))
    | exact .inr (.inr (.inr (.inr (.inr (.inl ⟨_, _, rfl, rfl⟩)))))
    | exact .inr (.inr (.inr (.inr (.inr (.inr (.inl ⟨rfl, rfl⟩))))))
    | exact .inr (.inr (.inr (.inr (.inr (.inr (.inr (.inl ⟨rfl, _, _, _, rfl⟩)))))))
    | exact .inr (.inr (.inr (.inr (.inr (.inr (.inr (.inr ⟨rfl, _, _, _, rfl⟩)))))))

theorem binOp_eq {t : TypeId} {d : TypeDesc} {i : Im} {x y x' y' : Value} {r r' : Bool} (e : eqlV d x y = some r) (hx : VR i x x') (hy : VR i y y') (he : (Op.equal t x' y').run P w = .ok r' w) :
    (binOp .eql t x' y').run P w = .ok (.bool r') w ∧ (binOp .neq t x' y').run P w = .ok (.bool (!r')) w ∧ ¬ (x' = .nilIface ∧ y' = .nilIface) ∧ ∀ cs, x' ≠ .agg cs := by
  rcases eqlV_shape e with ⟨a, b, rfl, rfl⟩ | ⟨a, b, rfl, rfl⟩ | ⟨rfl, t', u, rfl⟩ | ⟨rfl, t', u, rfl⟩ | ⟨a, n, c, b, m, e', rfl, rfl⟩ | ⟨a, b, rfl, rfl⟩ | ⟨rfl, rfl⟩ | ⟨rfl, f, p, q, rfl⟩ | ⟨rfl, f, p, q, rfl⟩
  · obtain rfl := hx.inv_bool; obtain rfl := hy.inv_bool; exact ⟨by simp [binOp, he], by simp [binOp, he], by simp, by simp⟩
  · have h1 : ∃ a', x' = .pointer a' := by
      cases a with
      | none => exact ⟨_, hx.inv_nilPtr⟩
      | some a => obtain ⟨_, _, _, _, _, _, _, h⟩ := hx.inv_ptr; exact ⟨_, h⟩
    have h2 : ∃ a', y' = .pointer a' := by
      cases b with
      | none => exact ⟨_, hy.inv_nilPtr⟩
      | some a => obtain ⟨_, _, _, _, _, _, _, h⟩ := hy.inv_ptr; exact ⟨_, h⟩
    obtain ⟨a', rfl⟩ := h1
    obtain ⟨b', rfl⟩ := h2
    exact ⟨by simp [binOp, he], by simp [binOp, he], by simp, by simp⟩
  · obtain ⟨u', rfl, _⟩ := hy.inv_iface; obtain rfl := hx.inv_nilIface; exact ⟨by simp [binOp, he], by simp [binOp, he], by simp, by simp⟩
  · obtain ⟨u', rfl, _⟩ := hx.inv_iface; obtain rfl := hy.inv_nilIface; exact ⟨by simp [binOp, he], by simp [binOp, he], by simp, by simp⟩
  · have h1 : ∃ a n c, x' = .slice a n c := by
      cases a with
      | none => exact ⟨_, _, _, hx.inv_nilSlice⟩
      | some a => obtain ⟨_, _, _, _, _, _, _, _, _, _, _, _, h⟩ := hx.inv_slice; exact ⟨_, _, _, h⟩
    have h2 : ∃ a n c, y' = .slice a n c := by
      cases b with
      | none => exact ⟨_, _, _, hy.inv_nilSlice⟩
      | some a => obtain ⟨_, _, _, _, _, _, _, _, _, _, _, _, h⟩ := hy.inv_slice; exact ⟨_, _, _, h⟩
    obtain ⟨_, _, _, rfl⟩ := h1
    obtain ⟨_, _, _, rfl⟩ := h2
    exact ⟨by simp [binOp, he], by simp [binOp, he], by simp, by simp⟩
  · have h1 : ∃ a', x' = .map a' := by
      cases a with
      | none => exact ⟨_, hx.inv_nilMap⟩
      | some a => obtain ⟨_, _, _, _, h⟩ := hx.inv_map; exact ⟨_, h⟩
    have h2 : ∃ a', y' = .map a' := by
      cases b with
      | none => exact ⟨_, hy.inv_nilMap⟩
      | some a => obtain ⟨_, _, _, _, h⟩ := hy.inv_map; exact ⟨_, h⟩
    obtain ⟨a', rfl⟩ := h1
    obtain ⟨b', rfl⟩ := h2
    exact ⟨by simp [binOp, he], by simp [binOp, he], by simp, by simp⟩
  · obtain rfl := hx.inv_nilFunc; obtain rfl := hy.inv_nilFunc; exact ⟨by simp [binOp, he], by simp [binOp, he], by simp, by simp⟩
  · obtain ⟨_, _, _, rfl, _⟩ := hy.inv_func; obtain rfl := hx.inv_nilFunc; exact ⟨by simp [binOp, he], by simp [binOp, he], by simp, by simp⟩
  · obtain ⟨_, _, _, rfl, _⟩ := hx.inv_func; obtain rfl := hy.inv_nilFunc; exact ⟨by simp [binOp, he], by simp [binOp, he], by simp, by simp⟩

theorem run_equalIn_nil {t : TypeId} {ms : Array (String × TypeId)} (n : Nat) (h : P.underlying t = some (.interface ms)) : (Op.equalIn (n + 1) t .nilIface .nilIface).run P w = .ok true w := by
  simp [Op.equalIn, run_underlying h]

theorem binV_VS {A : Tab} (T : TabOk P A) {i : Im} {op : BinOp} {t : TypeId} {x y : Operand} {a b a' b' v : Value} (e : binV A op t (isConstO x || isConstO y) a b = some v) (ha : VR i a a') (hb : VR i b b') :
    (do eqGuard op t x y a' b'; binOp op t a' b' : Sem Value).run P w = .ok v w ∧ scal v = true := by
  unfold binV at e
  split at e
  · obtain rfl := ha.inv_int
    obtain rfl := hb.inv_int
    rw [Sem.run_bind, eqGuard_other (by simp) (by simp)]
    unfold bvInt at e
    split at e
    · rename_i hs; exact shiftI_run e hs t
    · rename_i hs
      split at e
      · rename_i hk
        obtain rfl := (sameK_iff _ _).1 hk
        exact binI_run e hs t
      · cases e
  · obtain rfl := ha.inv_string
    obtain rfl := hb.inv_string
    rw [Sem.run_bind, eqGuard_other (by simp) (by simp)]
    exact binS_run e t
  · obtain rfl := ha.inv_nilIface
    obtain rfl := hb.inv_nilIface
    unfold bvNil at e
    split at e
    · rename_i ms hc hd
      have hund := T.desc hd
      have hg : ∀ op, (eqGuard op t x y .nilIface .nilIface).run P w = .ok () w := by
        intro op
        unfold eqGuard
        rw [Bool.or_eq_true] at hc
        cases op <;> first
          | rfl
          | (rcases hc with h | h
             · cases x <;> first | rfl | cases h
             · cases y <;> first | (cases x <;> rfl) | cases h)
      have he : (Op.equal t .nilIface .nilIface).run P w = .ok true w := run_equalIn_nil 9999 hund
      rw [Sem.run_bind, hg]
      split at e
      · cases e; exact ⟨by simp [binOp, he], rfl⟩
      · cases e; exact ⟨by simp [binOp, he], rfl⟩
      · cases e
    · cases e
  · obtain ⟨hs, h⟩ := bvEq_VS (w := w) T e ha hb
    unfold bvEq at e
    split at e
    · rename_i d hd
      split at e
      · rename_i r hr
        have he := run_equal_VS (w := w) (T.desc hd) hr ha hb
        obtain ⟨h1, h2, h3, h4⟩ := binOp_eq (w := w) hr ha hb he
        rw [Sem.run_bind, eqGuard_other h3 h4]
        split at e
        · cases e; exact ⟨h1, rfl⟩
        · cases e; exact ⟨h2, rfl⟩
        · cases e
      · cases e
    · cases e

theorem unV_VS {i : Im} {op : UnOp} {a a' v : Value} (e : unV op a = some v) (ha : VR i a a') : (Op.unary op a').run P w = .ok v w ∧ scal v = true := by
  unfold unV at e
  split at e
  · obtain rfl := ha.inv_int
    simp only [someI, wrapI_eq, Option.some.injEq] at e
    subst e
    exact ⟨by simp [Op.unary, Op.intArith], rfl⟩
  · obtain rfl := ha.inv_bool
    cases e
    exact ⟨by simp [Op.unary], rfl⟩
  · cases e
end
end Go.Ev

/- The evaluator Ev: addresses, parts, slices, conversions, boxes and literals. -/
namespace Go.Ev
open Go.RowKit

theorem leNat_some {n m k : Nat} (e : leNat n m = some k) : k = n ∧ n ≤ m := by
  unfold leNat at e
  split at e
  · rename_i h; cases e; exact ⟨rfl, of_ble h⟩
  · cases e
theorem eqb_or {a b c : Nat} (h : (Nat.beq a b || Nat.beq a c) = true) : a = b ∨ a = c := by
  rw [Bool.or_eq_true] at h
  rcases h with h | h
  · exact .inl (of_beq h)
  · exact .inr (of_beq h)

section
variable {P : Program} {A : Tab} {B : Nat} {w₀ : World} {i : Im} {h h' : Hp} {w : World} {v : Value}

theorem fieldAddr_VS (T : TabOk P A) (s : SR B w₀ i h w) {t : TypeId} {f : Nat} {fs : Array Field} {b o : Nat} {p' : Value} (hd : A.desc t = some (.struct fs)) (e : faGo A h b o (nthL fs.toList f) = some (v, h')) (hp : VR i (.pointer (some ⟨b, o, none⟩)) p') :
    VS P B w₀ i h' w v (Instr.fieldAt t p' f) := by
  obtain ⟨_, _, cb, off, own, hb, hi, rfl⟩ := hp.inv_ptr
  cases hb
  unfold faGo at e
  split at e
  · rename_i fd hfd
    rw [nthL_eq] at hfd
    split at e
    · rename_i n hsz
      cases e
      obtain ⟨ti, hinfo, hs⟩ := T.size hsz
      refine VS.pure s (VR.pointer hi) ?_
      have hf' : fs[f]? = some fd := by rw [← hfd]; simp
      simp [Instr.fieldAt, run_underlying (T.desc hd), hf', Instr.sureAddr, fieldPlace, run_sizeOf' w hinfo, hs, Addr.add_mid, Nat.add_assoc]
    · cases e
  · cases e

theorem part_VS (T : TabOk P A) {t : TypeId} {cs : List Value} {cs' : Array Value} {off : Nat} (e : partV A t cs off = some v) (hl : LR i cs cs'.toList) :
    ∃ v', (part t cs' off).run P w = .ok v' w ∧ VR i v v' := by
  unfold partV at e
  split at e
  · rename_i ti d hty
    obtain ⟨hinfo, hund, _⟩ := T.ty _ _ _ hty
    split at e
    · rename_i hagg
      cases e
      refine ⟨_, ?_, VR.agg' ((hl.drop off).take ti.size)⟩
      simp only [part, Sem.run_bind, run_isAgg' w hund, hagg, Result.andThen_ok, if_true, run_sizeOf' w hinfo, Sem.run_pure]
      congr 2
      apply Array.toList_inj.1
      simp [Array.toList_extract, List.extract_eq_take_drop]
    · rename_i hagg
      rw [nthL_eq] at e
      obtain ⟨v', hv', hvr⟩ := hl.some e
      refine ⟨v', ?_, hvr⟩
      have : cs'[off]? = some v' := by rw [← hv']; simp
      simp [part, run_isAgg' w hund, hagg, this]
  · cases e

theorem field_VS (T : TabOk P A) {t : TypeId} {f : Nat} {fs : Array Field} {fd : Field} {cs : Array Value} {x' : Value} (hd : A.desc t = some (.struct fs)) (hf : nthL fs.toList f = some fd) (e : partV A fd.type cs.toList fd.offset = some v) (hx : VR i (.agg cs) x') :
    ∃ v', (Instr.field t x' f).run P w = .ok v' w ∧ VR i v v' := by
  obtain ⟨cs', rfl, hl⟩ := hx.inv_agg
  obtain ⟨v', hv', hvr⟩ := part_VS (P := P) (w := w) T e hl
  rw [nthL_eq] at hf
  have hf' : fs[f]? = some fd := by rw [← hf]; simp
  exact ⟨v', by simp [Instr.field, run_underlying (T.desc hd), hf', asAgg, hv'], hvr⟩

theorem indexAddr_VS (T : TabOk P A) (s : SR B w₀ i h w) {t : TypeId} {d : TypeDesc} {x x' : Value} {k : IntKind} {n : Nat} (hd : A.desc t = some d) (e : iaDesc A h d x n = some (v, h')) (hx : VR i x x') :
    VS P B w₀ i h' w v (Instr.indexAt t x' (.int k (.ofNat n))) := by
  have hund := T.desc hd
  unfold iaDesc at e
  split at e
  · rename_i b o len c
    obtain ⟨_, _, cb, off, own, x, c', hb, hi, hnc, hc, hxx, rfl⟩ := hx.inv_slice
    cases hb
    split at e
    · rename_i el
      unfold iaGo at e
      split at e
      · rename_i sz hsz
        split at e
        · rename_i hlt
          have hlt := of_blt hlt
          cases e
          obtain ⟨ti, hinfo, hs⟩ := T.size hsz
          have hx0 : x = off + o := by rcases hxx with h | h <;> omega
          subst hx0
          refine VS.pure s (VR.pointer hi) ?_
          have h1 : (0 : Int) ≤ (n : Int) ∧ (n : Int) < (len : Int) := by omega
          simp only [Instr.indexAt, asIntOf, Sem.run_bind, Sem.run_pure, Result.andThen_ok, run_underlying hund, Int.ofNat_eq_natCast, h1, and_self, if_true, Int.toNat_natCast, run_sizeOf' w hinfo, hs, Addr.add_mid, Nat.add_assoc]
        · cases e
      · cases e
    · cases e
  · rename_i b o
    obtain ⟨_, _, cb, off, own, hb, hi, rfl⟩ := hx.inv_ptr
    cases hb
    split at e
    · rename_i len el
      unfold iaGo at e
      split at e
      · rename_i sz hsz
        split at e
        · rename_i hlt
          have hlt := of_blt hlt
          cases e
          obtain ⟨ti, hinfo, hs⟩ := T.size hsz
          refine VS.pure s (VR.pointer hi) ?_
          have h1 : (0 : Int) ≤ (n : Int) ∧ (n : Int) < (len : Int) := by omega
          simp only [Instr.indexAt, asIntOf, Sem.run_bind, Sem.run_pure, Result.andThen_ok, run_underlying hund, Instr.sureAddr, Int.ofNat_eq_natCast, h1, and_self, if_true, Int.toNat_natCast, run_sizeOf' w hinfo, hs, Addr.add_mid, Nat.add_assoc]
        · cases e
      · cases e
    · cases e
  · cases e

theorem index_VS (T : TabOk P A) (s : SR B w₀ i h w) {t : TypeId} {d : TypeDesc} {x x' : Value} {k : IntKind} {n : Nat} (hd : A.desc t = some d) (e : ixDesc A h d x n = some (v, h')) (hx : VR i x x') :
    VS P B w₀ i h' w v (Instr.index t x' (.int k (.ofNat n))) := by
  have hund := T.desc hd
  unfold ixDesc at e
  split at e
  · obtain ⟨cs', rfl, hl⟩ := hx.inv_agg
    split at e
    · rename_i len el
      unfold ixArr at e
      split at e
      · rename_i sz hsz hlt
        have hlt := of_blt hlt
        obtain ⟨rfl, e2⟩ := withH_some e
        obtain ⟨ti, hinfo, hs⟩ := T.size hsz
        obtain ⟨v', hv', hvr⟩ := part_VS (P := P) (w := w) T e2 hl
        refine VS.pure s hvr ?_
        have h1 : (0 : Int) ≤ (n : Int) ∧ (n : Int) < (len : Int) := by omega
        simp only [Instr.index, asIntOf, Sem.run_bind, Sem.run_pure, Result.andThen_ok, run_underlying hund, Int.ofNat_eq_natCast, h1, and_self, if_true, Int.toNat_natCast, run_sizeOf' w hinfo, hs, hv']
      · cases e
    · cases e
  · obtain rfl := hx.inv_string
    rename_i str
    split at e
    · unfold ixStr at e
      split at e
      · rename_i b hb
        cases e
        rw [nthL_eq] at hb
        refine VS.pure s (.scal rfl) ?_
        have h1 : str[n]? = some b := by
          have hn : n < str.data.toList.length := (List.getElem?_eq_some_iff.1 hb).1
          have hn' : n < str.size := by simpa using hn
          rw [getElem?_pos str n hn']
          rw [List.getElem?_eq_getElem hn] at hb
          have : str[n] = str.data.toList[n] := rfl
          rw [this]; exact hb
        have h0 : (0 : Int) ≤ (n : Int) := by omega
        simp only [Instr.index, asIntOf, Sem.run_bind, Sem.run_pure, Result.andThen_ok, run_underlying hund, Int.ofNat_eq_natCast, h0, if_true, Int.toNat_natCast, h1]
      · cases e
    · cases e
  · cases e

/-- Two bounds of a slice expression. -/
def OVR (i : Im) (x y : Option Value) : Prop := (x = none ∧ y = none) ∨ ∃ u u', x = some u ∧ y = some u' ∧ VR i u u'

theorem sliceBound_run {k : IntKind} {n y : Nat} {code : BoundsCode} (h : n ≤ y) : (Instr.sliceBound (.int k (n : Int)) y code).run P w = .ok n w := by
  have h1 : (0 : Int) ≤ (n : Int) ∧ (n : Int) ≤ (y : Int) := by omega
  simp only [Instr.sliceBound, asIntOf, Sem.run_bind, Sem.run_pure, Result.andThen_ok, h1, and_self, if_true, Int.toNat_natCast]

theorem sliceBounds_run {isS : Bool} {lo lo' hi hi' : Option Value} {n c C L H : Nat} (eh : sliceIx hi n c = some H) (el : sliceIx lo 0 H = some L) (hc : c ≤ C) (hlo : OVR i lo lo') (hhi : OVR i hi hi') :
    (Instr.sliceBounds isS n C lo' hi' none).run P w = .ok (L, H, C) w ∧ L ≤ H ∧ (H ≤ c ∨ H = n) := by
  have h1 : ∃ H0, H0 = H ∧ (hi' = none ∧ H = n ∨ ∃ k, hi' = some (.int k (H : Int)) ∧ H ≤ c) := by
    refine ⟨H, rfl, ?_⟩
    unfold sliceIx at eh
    split at eh
    · cases eh
      rcases hhi with ⟨_, h⟩ | ⟨_, _, h, _⟩
      · exact .inl ⟨h, rfl⟩
      · cases h
    · obtain ⟨rfl, hle⟩ := leNat_some eh
      rcases hhi with ⟨h, _⟩ | ⟨u, u', h, hu, hv⟩
      · cases h
      · cases h; rw [hv.inv_int] at hu; exact .inr ⟨_, hu, hle⟩
    · cases eh
  have h2 : (lo' = none ∧ L = 0) ∨ ∃ k, lo' = some (.int k (L : Int)) ∧ L ≤ H := by
    unfold sliceIx at el
    split at el
    · cases el
      rcases hlo with ⟨_, h⟩ | ⟨_, _, h, _⟩
      · exact .inl ⟨h, rfl⟩
      · cases h
    · obtain ⟨rfl, hle⟩ := leNat_some el
      rcases hlo with ⟨h, _⟩ | ⟨u, u', h, hu, hv⟩
      · cases h
      · cases h; rw [hv.inv_int] at hu; exact .inr ⟨_, hu, hle⟩
    · cases el
  obtain ⟨_, _, h1⟩ := h1
  rcases h1 with ⟨rfl, rfl⟩ | ⟨k, rfl, hle⟩ <;> rcases h2 with ⟨rfl, rfl⟩ | ⟨k', rfl, hle'⟩
  · exact ⟨rfl, by omega, .inr rfl⟩
  · exact ⟨by simp [Instr.sliceBounds, sliceBound_run hle'], hle', .inr rfl⟩
  · exact ⟨by simp [Instr.sliceBounds, sliceBound_run (P := P) (w := w) (k := k) (Nat.le_trans hle hc)], by omega, .inl hle⟩
  · exact ⟨by simp [Instr.sliceBounds, sliceBound_run (P := P) (w := w) (k := k) (Nat.le_trans hle hc), sliceBound_run hle'], hle', .inl hle⟩

theorem strCut_eq (s : ByteArray) (l h : Nat) : s.extract l h = strCut s l h := by
  apply bytes_inj'
  simp [strCut, ByteArray.data_extract, Array.toList_extract, List.extract_eq_take_drop]

theorem slMk_VS {base : Option Addr} {sz lo hi n c c0 C : Nat} {x0 : Option Addr} (e : slMk h base sz lo hi c = some (v, h')) (hb : VR i (.slice base n c0) (.slice x0 n C)) (hcc : c ≤ C) (hlo : lo ≤ hi) (hhi : hi ≤ c) (hc0 : base.isSome = false → C = c) :
    h' = h ∧ VR i v (.slice (if C = lo then x0 else x0.map (·.add (lo * sz))) (hi - lo) (C - lo)) := by
  unfold slMk at e
  split at e
  · cases e
    have := hb.inv_nilSlice
    cases this
    have hC := hc0 rfl
    subst hC
    refine ⟨rfl, ?_⟩
    have : ∀ (p : Prop) [Decidable p], (if p then (none : Option Addr) else (none : Option Addr).map (·.add (lo * sz))) = none := by
      intro p _
      split <;> rfl
    rw [this]
    exact .nilSlice _ _
  · rename_i b o
    split at e
    · rename_i hel
      cases e
      refine ⟨rfl, ?_⟩
      obtain ⟨_, _, cb, off, own, x, c', hb', hi', _, _, hxx, heq⟩ := hb.inv_slice
      cases hb'
      cases heq
      by_cases hCl : C = lo
      · rw [if_pos hCl]
        exact .slice hi' (by omega) (by omega) (.inl (by omega))
      · rw [if_neg hCl]
        have hx0 : x = off + o ∧ (elOf b = 0 ∨ o + C * elOf b ≤ own) := by
          rcases hxx with h | h
          · omega
          · exact h
        obtain ⟨rfl, hroom⟩ := hx0
        have : (some (⟨cb, off + o, none⟩ : Addr)).map (·.add (lo * sz)) = some ⟨cb, off + o + lo * sz, none⟩ := by simp [Addr.add_mid]
        rw [this]
        refine .slice hi' (by omega) (by omega) (.inr ⟨by omega, ?_⟩)
        rcases eqb_or hel with h0 | h0
        · exact .inl h0
        · rcases hroom with h1 | h1
          · exact .inl h1
          · refine .inr ?_
            rw [h0] at h1 ⊢
            have h2 : lo * sz + (C - lo) * sz = C * sz := by rw [← Nat.add_mul]; congr 1; omega
            omega
    · cases e
  · cases e

theorem slice_VS (T : TabOk P A) (s : SR B w₀ i h w) {t : TypeId} {d : TypeDesc} {x x' : Value} {lo lo' hi hi' : Option Value} (hd : A.desc t = some d) (e : slDesc A h d x lo hi = some (v, h')) (hx : VR i x x') (hlo : OVR i lo lo') (hhi : OVR i hi hi') :
    VS P B w₀ i h' w v (Instr.sliceAt t x' lo' hi' none) := by
  have hund := T.desc hd
  unfold slDesc at e
  split at e
  · obtain rfl := hx.inv_string
    rename_i str
    split at e
    · unfold slStr at e
      split at e
      · rename_i H eh
        split at e
        · rename_i L el
          cases e
          have hlen : str.data.toList.length = str.size := by simp
          rw [hlen] at eh
          obtain ⟨hb, _⟩ := sliceBounds_run (P := P) (w := w) (isS := false) (n := str.size) (C := str.size) eh el (Nat.le_refl _) hlo hhi
          refine VS.pure s (.scal rfl) ?_
          simp [Instr.sliceAt, Instr.slice, run_underlying hund, hb, strCut_eq]
        · cases e
      · cases e
    · cases e
  · rename_i base n c
    split at e
    · rename_i el
      unfold slGo at e
      split at e
      · rename_i sz H hsz eh
        split at e
        · rename_i L elo
          obtain ⟨ti, hinfo, hs⟩ := T.size hsz
          subst hs
          cases base with
          | none =>
            obtain rfl := hx.inv_nilSlice
            obtain ⟨hb, h1, h2⟩ := sliceBounds_run (P := P) (w := w) (isS := true) (n := n) (C := c) eh elo (Nat.le_refl _) hlo hhi
            have e3 := e
            unfold slMk at e
            cases e
            refine VS.pure s (.nilSlice _ _) ?_
            simp [Instr.sliceAt, Instr.slice, run_underlying hund, hb, run_sizeOf' w hinfo]
          | some a =>
            obtain ⟨b, o, cb, off, own, xx, c', rfl, hi0, hnc, hc, hxx, rfl⟩ := hx.inv_slice
            obtain ⟨hb, h1, h2⟩ := sliceBounds_run (P := P) (w := w) (isS := true) (n := n) (C := c') eh elo hc hlo hhi
            obtain ⟨rfl, hv⟩ := slMk_VS e hx hc h1 (by omega) (by simp)
            refine VS.pure s hv ?_
            simp [Instr.sliceAt, Instr.slice, run_underlying hund, hb, run_sizeOf' w hinfo]
        · cases e
      · cases e
    · cases e
  · rename_i b o
    obtain ⟨_, _, cb, off, own, hb, hi0, rfl⟩ := hx.inv_ptr
    cases hb
    split at e
    · rename_i n el
      split at e
      · rename_i hel
        unfold slGo at e
        split at e
        · rename_i sz H hsz eh
          split at e
          · rename_i L elo
            obtain ⟨ti, hinfo, hs⟩ := T.size hsz
            subst hs
            obtain ⟨hb, h1, h2⟩ := sliceBounds_run (P := P) (w := w) (isS := false) (n := n) (C := n) eh elo (Nat.le_refl _) hlo hhi
            have hbase : VR i (.slice (some ⟨b, o, none⟩) n n) (.slice (some ⟨cb, off + o, none⟩) n n) := .slice hi0 (Nat.le_refl _) (Nat.le_refl _) (.inr ⟨rfl, .inl (of_beq hel)⟩)
            obtain ⟨rfl, hv⟩ := slMk_VS e hbase (Nat.le_refl _) h1 (by omega) (by simp)
            refine VS.pure s hv ?_
            by_cases hnl : n = L
            · subst hnl
              simp [Instr.sliceAt, run_underlying hund, Instr.sureAddr, hb, run_sizeOf' w hinfo]
            · simp [Instr.sliceAt, run_underlying hund, Instr.sureAddr, hb, run_sizeOf' w hinfo, hnl]
          · cases e
        · cases e
      · cases e
    · cases e
  · cases e

theorem alloc_VS (T : TabOk P A) (s : SR B w₀ i h w) {t : TypeId} {z : List Value} (hz : A.zero t = some z) (e : newPtr h z = some (v, h')) : VS P B w₀ i h' w v (Instr.alloc t true (.tuple #[])) := by
  obtain ⟨ti, zv, hinfo, hzv, rfl, hsc, _⟩ := T.zero hz
  obtain ⟨j, v', w', h1, h2⟩ := newPtr_VS (P := P) s t e (LR.scals _ hsc)
  refine ⟨j, v', w', ?_, h2⟩
  rw [← h1]
  simp [Instr.alloc, run_zero' w hinfo hzv, newVar]

theorem box_VS (s : SR B w₀ i h w) {t : TypeId} {x x' : Value} (e : bxGo h x.cells.toList = some (v, h')) (hx : VR i x x') : VS P B w₀ i h' w v (Instr.box t x') := by
  unfold bxGo at e
  split at e
  · obtain ⟨j, v', w', h1, h2⟩ := newPtr_VS (P := P) s t e hx.cells
    refine ⟨j, v', w', ?_, h2⟩
    rw [← h1]
    simp [Instr.box, newVar]
  · cases e

/-- Setting the cells one by one is putting the list over. -/
theorem foldl_put : ∀ (vs : List Value) (cs : Array Value) (off k : Nat), off + k + vs.length ≤ cs.size →
    ((vs.zipIdx k).foldl (fun cs (x : Value × Nat) => cs.setIfInBounds (off + x.2) x.1) cs).toList = putL cs.toList (off + k) vs := by
  intro vs
  induction vs with
  | nil => intro cs off k _; simp [putL]
  | cons v vs ih =>
    intro cs off k h
    simp only [List.length_cons] at h
    rw [List.zipIdx_cons, List.foldl_cons, ih _ off (k + 1) (by simp; omega)]
    have hlt : off + k < cs.toList.length := by simp; omega
    have e1 : (cs.setIfInBounds (off + k) v).toList = cs.toList.set (off + k) v := by simp
    rw [e1]
    apply List.ext_getElem?
    intro n
    rw [show off + (k + 1) = off + k + 1 by omega]
    rw [putL_get _ _ _ (by simp; omega), putL_get _ _ _ (by simp; omega)]
    by_cases h1 : off + k + 1 ≤ n ∧ n < off + k + 1 + vs.length
    · rw [if_pos h1, if_pos (by simp; omega), show n - (off + k) = n - (off + k + 1) + 1 by omega]; simp
    · rw [if_neg h1]
      by_cases h2 : n = off + k
      · subst h2
        rw [if_pos (by simp), List.getElem?_set_self hlt]
        simp
      · rw [if_neg (by simp; omega), List.getElem?_set_ne (by omega)]

theorem fill_VS {place place' : Nat → Option (Nat × Nat)} (hpp : ∀ k x, place k = some x → place' k = some x) : ∀ (ps ps' : List (Nat × Value)) (cs : List Value) (cs' : Array Value) (out : List Value), fillV place cs ps = some out → LR i cs cs'.toList → ps.map (·.1) = ps'.map (·.1) → LR i (ps.map (·.2)) (ps'.map (·.2)) →
    ∃ out', Instr.fill place' cs' ps' = some out' ∧ LR i out out'.toList := by
  intro ps
  induction ps with
  | nil =>
    intro ps' cs cs' out e hl h1 _
    cases ps' with
    | nil => cases e; exact ⟨cs', rfl, hl⟩
    | cons _ _ => simp at h1
  | cons p ps ih =>
    intro ps' cs cs' out e hl h1 h2
    obtain ⟨k, x⟩ := p
    cases ps' with
    | nil => simp at h1
    | cons p' ps' =>
      obtain ⟨k', x'⟩ := p'
      simp only [List.map_cons, List.cons.injEq] at h1
      obtain ⟨rfl, h1⟩ := h1
      have hx := h2.head
      have ht := h2.tail
      dsimp only at hx
      simp only [fillV] at e
      split at e
      · rename_i off sz hpl
        split at e
        · rename_i hok
          rw [Bool.and_eq_true] at hok
          have hlen := of_beq hok.1
          have hfit := of_ble hok.2
          have hcl := hx.cells
          have hcs := hl.1
          have hcl1 := hcl.1
          simp only [Array.length_toList] at hcl1 hcs hlen
          simp only [Instr.fill, hpp _ _ hpl]
          rw [if_neg (by simp only [ne_eq, Bool.or_eq_true, decide_eq_true_eq, not_or]; refine ⟨?_, ?_⟩ <;> simp <;> omega)]
          refine ih ps' _ _ out e ?_ h1 ht
          have hf := foldl_put x'.cells.toList cs' off 0 (by simp; omega)
          have : x'.cells.zipIdx.foldl (fun cs (x : Value × Nat) => cs.setIfInBounds (off + x.2) x.1) cs' = (x'.cells.toList.zipIdx 0).foldl (fun cs (x : Value × Nat) => cs.setIfInBounds (off + x.2) x.1) cs' := by
            rw [← Array.foldl_toList, Array.toList_zipIdx]
          rw [this, hf]
          exact hl.putL hcl _
        · cases e
      · cases e
end
end Go.Ev

/- The evaluator Ev: the operations on numbers, strings and truth values. -/
import Derived.Test.YtjiijgdkdlelhaaGreatDoorEvD
import Derived.Laws.Strings
namespace Go.Ev
open Go.RowKit

theorem bytes_inj' {a b : ByteArray} (h : a.data.toList = b.data.toList) : a = b := by
  cases a; cases b; simp at h; subst h; rfl

section
variable {P : Program} {w : World}

theorem run_equalIn_VS {i : Im} {t : TypeId} {d : TypeDesc} {x y x' y' : Value} {r : Bool} (n : Nat) (hd : P.underlying t = some d) (e : eqlV d x y = some r) (hx : VR i x x') (hy : VR i y y') :
    (Op.equalIn (n + 1) t x' y').run P w = .ok r w := by
  unfold eqlV at e
  split at e
  · -- bools
    rw [hx.inv_bool, hy.inv_bool]
    split at e
    · cases e; simp [Op.equalIn, run_underlying hd]
    · cases e
  · -- nil pointer left
    rename_i b
    rw [hx.inv_nilPtr]
    cases b with
    | none =>
      rw [hy.inv_nilPtr]
      split at e
      · cases e; simp [Op.equalIn, run_underlying hd]
      · cases e
    | some b =>
      obtain ⟨_, _, _, _, _, _, _, rfl⟩ := hy.inv_ptr
      split at e
      · cases e; simp [Op.equalIn, run_underlying hd]
      · cases e
  · rename_i a
    obtain ⟨_, _, _, _, _, _, _, rfl⟩ := hx.inv_ptr
    rw [hy.inv_nilPtr]
    split at e
    · cases e; simp [Op.equalIn, run_underlying hd]
    · cases e
  · obtain ⟨u, rfl, _⟩ := hy.inv_iface
    rw [hx.inv_nilIface]
    split at e
    · cases e; simp [Op.equalIn, run_underlying hd]
    · cases e
  · obtain ⟨u, rfl, _⟩ := hx.inv_iface
    rw [hy.inv_nilIface]
    split at e
    · cases e; simp [Op.equalIn, run_underlying hd]
    · cases e
  · rename_i b n c
    rw [hx.inv_nilSlice]
    cases b with
    | none =>
      rw [hy.inv_nilSlice]
      split at e
      · cases e; simp [Op.equalIn, run_underlying hd]
      · cases e
    | some b =>
      obtain ⟨_, _, _, _, _, _, _, _, _, _, _, _, rfl⟩ := hy.inv_slice
      split at e
      · cases e; simp [Op.equalIn, run_underlying hd]
      · cases e
  · obtain ⟨_, _, _, _, _, _, _, _, _, _, _, _, rfl⟩ := hx.inv_slice
    rw [hy.inv_nilSlice]
    split at e
    · cases e; simp [Op.equalIn, run_underlying hd]
    · cases e
  · rename_i b
    rw [hx.inv_nilMap]
    cases b with
    | none =>
      rw [hy.inv_nilMap]
      split at e
      · cases e; simp [Op.equalIn, run_underlying hd]
      · cases e
    | some b =>
      obtain ⟨_, _, _, _, rfl⟩ := hy.inv_map
      split at e
      · cases e; simp [Op.equalIn, run_underlying hd]
      · cases e
  · obtain ⟨_, _, _, _, rfl⟩ := hx.inv_map
    rw [hy.inv_nilMap]
    split at e
    · cases e; simp [Op.equalIn, run_underlying hd]
    · cases e
  · rw [hx.inv_nilFunc, hy.inv_nilFunc]
    split at e
    · cases e; simp [Op.equalIn, run_underlying hd]
    · cases e
  · obtain ⟨_, _, _, rfl, _⟩ := hy.inv_func
    rw [hx.inv_nilFunc]
    split at e
    · cases e; simp [Op.equalIn, run_underlying hd]
    · cases e
  · obtain ⟨_, _, _, rfl, _⟩ := hx.inv_func
    rw [hy.inv_nilFunc]
    split at e
    · cases e; simp [Op.equalIn, run_underlying hd]
    · cases e
  · cases e

theorem run_equal_VS {i : Im} {t : TypeId} {d : TypeDesc} {x y x' y' : Value} {r : Bool} (hd : P.underlying t = some d) (e : eqlV d x y = some r) (hx : VR i x x') (hy : VR i y y') :
    (Op.equal t x' y').run P w = .ok r w := run_equalIn_VS 9999 hd e hx hy

theorem leI (a b : Int) : (!decide (b < a)) = decide (a ≤ b) := by
  rw [← decide_not]; exact decide_eq_decide.2 Int.not_lt

theorem binI_run {op : BinOp} {k : IntKind} {a b : Int} {v : Value} (e : binI op k a b = some v) (hs : isShift op = false) : ∀ t, (binOp op t (.int k a) (.int k b)).run P w = .ok v w ∧ scal v = true := by
  intro t
  cases op <;> simp only [binI] at e <;> first
    | (cases hs; done)
    | (simp only [biAdd, biSub, biMul, someI, wrapI_eq, Option.some.injEq] at e; subst e; exact ⟨by simp [binOp, Op.intArith], rfl⟩)
    | (simp only [biEql, biNeq, biLss, biLeq, biGtr, biGeq, someB, eqI_eq, ltI_eq, Option.some.injEq] at e; subst e; refine ⟨?_, rfl⟩; simp [binOp, Op.intCmp, bne, ← leI]; done)
    | (simp only [biLeq, biGeq, someB, ltI_eq, leI, Option.some.injEq] at e; subst e; exact ⟨by simp [binOp, Op.intCmp], rfl⟩)
    | (simp only [biAnd, biOr, biXor, Option.some.injEq] at e; subst e; exact ⟨by simp [binOp, Op.intBits], rfl⟩)
    | (simp only [biQuo, biRem, someI, wrapI_eq, eqI_eq] at e
       split at e
       · cases e
       · rename_i hb
         have hb0 : b ≠ 0 := by simpa using hb
         simp only [Option.some.injEq] at e; subst e
         exact ⟨by simp [binOp, Op.intDiv, hb0], rfl⟩)
    | (exact absurd e (by simp [biNone]))
    | (cases e)

theorem shiftI_run {op : BinOp} {k k' : IntKind} {a b : Int} {v : Value} (e : shiftI op k a b = some v) (hs : isShift op = true) : ∀ t, (binOp op t (.int k a) (.int k' b)).run P w = .ok v w ∧ scal v = true := by
  intro t
  cases b with
  | negSucc n => cases e
  | ofNat n =>
    have hn : ¬ ((n : Int) < 0) := by omega
    cases op <;> first
      | (cases hs; done)
      | (simp only [shiftI, biShl, biShr, Option.some.injEq] at e; subst e; exact ⟨by simp [binOp, Op.shift, hn], rfl⟩)

theorem binS_run {op : BinOp} {a b : ByteArray} {v : Value} (e : binS op a b = some v) : ∀ t, (binOp op t (.string a) (.string b)).run P w = .ok v w ∧ scal v = true := by
  intro t
  cases op <;> simp only [binS] at e <;> first
    | (simp only [bsEql, bsNeq, bsLss, bsGeq, bsLeq, bsGtr, someB, eqBytes_eq, ltBytes_eq, Option.some.injEq] at e; subst e; exact ⟨by simp [binOp, Op.stringOp, ByteArray.toList_eq], rfl⟩)
    | (exact absurd e (by simp [bsNone]))
    | (simp only [bsAdd] at e
       split at e
       · rename_i hlt
         have hlt := of_blt hlt
         simp only [Option.some.injEq] at e; subst e
         refine ⟨?_, rfl⟩
         have h1 : ¬ (((a.size + b.size : Nat) : Int) > IntKind.i64.max) := by
           have : (IntKind.i64.max : Int) = 9223372036854775807 := by decide
           have ha : a.data.toList.length = a.size := by simp
           have hb : b.data.toList.length = b.size := by simp
           omega
         have h2 : a ++ b = strCat a b := by
           apply bytes_inj'
           simp [strCat, ByteArray.data_append]
         simp only [binOp, Op.stringOp, h2]
         rw [if_neg h1]; rfl
       · cases e)

theorem eqGuard_other {op : BinOp} {t : TypeId} {x y : Operand} {a b : Value} (h1 : ¬ (a = .nilIface ∧ b = .nilIface)) (h2 : ∀ cs, a ≠ .agg cs) : (eqGuard op t x y a b).run P w = .ok () w := by
  unfold eqGuard
  cases op <;> first
    | rfl
    | (simp only [Bool.not_true, Bool.false_eq_true, if_false]
       split
       · exact absurd ⟨rfl, rfl⟩ h1
       · exact absurd rfl (h2 _)
       · rfl)

theorem bvEq_VS {A : Tab} (T : TabOk P A) {i : Im} {op : BinOp} {t : TypeId} {a b a' b' v : Value} (e : bvEq A op t a b = some v) (ha : VR i a a') (hb : VR i b b') :
    scal v = true ∧ ((∃ r, v = .bool r ∧ op = .eql ∧ (Op.equal t a' b').run P w = .ok r w) ∨ (∃ r, v = .bool (!r) ∧ op = .neq ∧ (Op.equal t a' b').run P w = .ok r w)) := by
  unfold bvEq at e
  split at e
  · rename_i d hd
    split at e
    · rename_i r hr
      have he := run_equal_VS (w := w) (T.desc hd) hr ha hb
      split at e
      · cases e; exact ⟨rfl, .inl ⟨r, rfl, rfl, he⟩⟩
      · cases e; exact ⟨rfl, .inr ⟨r, rfl, rfl, he⟩⟩
      · cases e
    · cases e
  · cases e

/-- The shapes that eqlV compares. -/
theorem eqlV_shape {d : TypeDesc} {x y : Value} {r : Bool} (e : eqlV d x y = some r) : (∃ a b, x = .bool a ∧ y = .bool b) ∨ (∃ a b, x = .pointer a ∧ y = .pointer b) ∨ (x = .nilIface ∧ ∃ t u, y = .iface t u) ∨ (y = .nilIface ∧ ∃ t u, x = .iface t u) ∨
    (∃ a n c b m e, x = .slice a n c ∧ y = .slice b m e) ∨ (∃ a b, x = .map a ∧ y = .map b) ∨ (x = .nilFunc ∧ y = .nilFunc) ∨ (x = .nilFunc ∧ ∃ f p q, y = .func f p q) ∨ (y = .nilFunc ∧ ∃ f p q, x = .func f p q) := by
  unfold eqlV at e
  split at e <;> first
    | cases e
    | exact .inl ⟨_, _, rfl, rfl⟩
    | exact .inr (.inl ⟨_, _, rfl, rfl⟩)
    | exact .inr (.inr (.inl ⟨rfl, _, _, rfl⟩))
    | exact .inr (.inr (.inr (.inl ⟨rfl, _, _, rfl⟩)))
    | exact .inr (.inr (.inr (.inr (.inl ⟨_, _, _, _, _, _, rfl, rfl⟩))))
    | exact .inr (.inr (.inr (.inr (.inr (.inl ⟨_, _, rfl, rfl⟩)))))
    | exact .inr (.inr (.inr (.inr (.inr (.inr (.inl ⟨rfl, rfl⟩))))))
    | exact .inr (.inr (.inr (.inr (.inr (.inr (.inr (.inl ⟨rfl, _, _, _, rfl⟩)))))))
    | exact .inr (.inr (.inr (.inr (.inr (.inr (.inr (.inr ⟨rfl, _, _, _, rfl⟩)))))))

theorem binOp_eq {t : TypeId} {d : TypeDesc} {i : Im} {x y x' y' : Value} {r r' : Bool} (e : eqlV d x y = some r) (hx : VR i x x') (hy : VR i y y') (he : (Op.equal t x' y').run P w = .ok r' w) :
    (binOp .eql t x' y').run P w = .ok (.bool r') w ∧ (binOp .neq t x' y').run P w = .ok (.bool (!r')) w ∧ ¬ (x' = .nilIface ∧ y' = .nilIface) ∧ ∀ cs, x' ≠ .agg cs := by
  rcases eqlV_shape e with ⟨a, b, rfl, rfl⟩ | ⟨a, b, rfl, rfl⟩ | ⟨rfl, t', u, rfl⟩ | ⟨rfl, t', u, rfl⟩ | ⟨a, n, c, b, m, e', rfl, rfl⟩ | ⟨a, b, rfl, rfl⟩ | ⟨rfl, rfl⟩ | ⟨rfl, f, p, q, rfl⟩ | ⟨rfl, f, p, q, rfl⟩
  · obtain rfl := hx.inv_bool; obtain rfl := hy.inv_bool; exact ⟨by simp [binOp, he], by simp [binOp, he], by simp, by simp⟩
  · have h1 : ∃ a', x' = .pointer a' := by
      cases a with
      | none => exact ⟨_, hx.inv_nilPtr⟩
      | some a => obtain ⟨_, _, _, _, _, _, _, h⟩ := hx.inv_ptr; exact ⟨_, h⟩
    have h2 : ∃ a', y' = .pointer a' := by
      cases b with
      | none => exact ⟨_, hy.inv_nilPtr⟩
      | some a => obtain ⟨_, _, _, _, _, _, _, h⟩ := hy.inv_ptr; exact ⟨_, h⟩
    obtain ⟨a', rfl⟩ := h1
    obtain ⟨b', rfl⟩ := h2
    exact ⟨by simp [binOp, he], by simp [binOp, he], by simp, by simp⟩
  · obtain ⟨u', rfl, _⟩ := hy.inv_iface; obtain rfl := hx.inv_nilIface; exact ⟨by simp [binOp, he], by simp [binOp, he], by simp, by simp⟩
  · obtain ⟨u', rfl, _⟩ := hx.inv_iface; obtain rfl := hy.inv_nilIface; exact ⟨by simp [binOp, he], by simp [binOp, he], by simp, by simp⟩
  · have h1 : ∃ a n c, x' = .slice a n c := by
      cases a with
      | none => exact ⟨_, _, _, hx.inv_nilSlice⟩
      | some a => obtain ⟨_, _, _, _, _, _, _, _, _, _, _, _, h⟩ := hx.inv_slice; exact ⟨_, _, _, h⟩
    have h2 : ∃ a n c, y' = .slice a n c := by
      cases b with
      | none => exact ⟨_, _, _, hy.inv_nilSlice⟩
      | some a => obtain ⟨_, _, _, _, _, _, _, _, _, _, _, _, h⟩ := hy.inv_slice; exact ⟨_, _, _, h⟩
    obtain ⟨_, _, _, rfl⟩ := h1
    obtain ⟨_, _, _, rfl⟩ := h2
    exact ⟨by simp [binOp, he], by simp [binOp, he], by simp, by simp⟩
  · have h1 : ∃ a', x' = .map a' := by
      cases a with
      | none => exact ⟨_, hx.inv_nilMap⟩
      | some a => obtain ⟨_, _, _, _, h⟩ := hx.inv_map; exact ⟨_, h⟩
    have h2 : ∃ a', y' = .map a' := by
      cases b with
      | none => exact ⟨_, hy.inv_nilMap⟩
      | some a => obtain ⟨_, _, _, _, h⟩ := hy.inv_map; exact ⟨_, h⟩
    obtain ⟨a', rfl⟩ := h1
    obtain ⟨b', rfl⟩ := h2
    exact ⟨by simp [binOp, he], by simp [binOp, he], by simp, by simp⟩
  · obtain rfl := hx.inv_nilFunc; obtain rfl := hy.inv_nilFunc; exact ⟨by simp [binOp, he], by simp [binOp, he], by simp, by simp⟩
  · obtain ⟨_, _, _, rfl, _⟩ := hy.inv_func; obtain rfl := hx.inv_nilFunc; exact ⟨by simp [binOp, he], by simp [binOp, he], by simp, by simp⟩
  · obtain ⟨_, _, _, rfl, _⟩ := hx.inv_func; obtain rfl := hy.inv_nilFunc; exact ⟨by simp [binOp, he], by simp [binOp, he], by simp, by simp⟩

theorem run_equalIn_nil {t : TypeId} {ms : Array (String × TypeId)} (n : Nat) (h : P.underlying t = some (.interface ms)) : (Op.equalIn (n + 1) t .nilIface .nilIface).run P w = .ok true w := by
  simp [Op.equalIn, run_underlying h]

theorem binV_VS {A : Tab} (T : TabOk P A) {i : Im} {op : BinOp} {t : TypeId} {x y : Operand} {a b a' b' v : Value} (e : binV A op t (isConstO x || isConstO y) a b = some v) (ha : VR i a a') (hb : VR i b b') :
    (do eqGuard op t x y a' b'; binOp op t a' b' : Sem Value).run P w = .ok v w ∧ scal v = true := by
  unfold binV at e
  split at e
  · obtain rfl := ha.inv_int
    obtain rfl := hb.inv_int
    rw [Sem.run_bind, eqGuard_other (by simp) (by simp)]
    unfold bvInt at e
    split at e
    · rename_i hs; exact shiftI_run e hs t
    · rename_i hs
      split at e
      · rename_i hk
        obtain rfl := (sameK_iff _ _).1 hk
        exact binI_run e hs t
      · cases e
  · obtain rfl := ha.inv_string
    obtain rfl := hb.inv_string
    rw [Sem.run_bind, eqGuard_other (by simp) (by simp)]
    exact binS_run e t
  · obtain rfl := ha.inv_nilIface
    obtain rfl := hb.inv_nilIface
    unfold bvNil at e
    split at e
    · rename_i ms hc hd
      have hund := T.desc hd
      have hg : ∀ op, (eqGuard op t x y .nilIface .nilIface).run P w = .ok () w := by
        intro op
        unfold eqGuard
        rw [Bool.or_eq_true] at hc
        cases op <;> first
          | rfl
          | (rcases hc with h | h
             · cases x <;> first | rfl | cases h
             · cases y <;> first | (cases x <;> rfl) | cases h)
      have he : (Op.equal t .nilIface .nilIface).run P w = .ok true w := run_equalIn_nil 9999 hund
      rw [Sem.run_bind, hg]
      split at e
      · cases e; exact ⟨by simp [binOp, he], rfl⟩
      · cases e; exact ⟨by simp [binOp, he], rfl⟩
      · cases e
    · cases e
  · obtain ⟨hs, h⟩ := bvEq_VS (w := w) T e ha hb
    unfold bvEq at e
    split at e
    · rename_i d hd
      split at e
      · rename_i r hr
        have he := run_equal_VS (w := w) (T.desc hd) hr ha hb
        obtain ⟨h1, h2, h3, h4⟩ := binOp_eq (w := w) hr ha hb he
        rw [Sem.run_bind, eqGuard_other h3 h4]
        split at e
        · cases e; exact ⟨h1, rfl⟩
        · cases e; exact ⟨h2, rfl⟩
        · cases e
      · cases e
    · cases e

theorem unV_VS {i : Im} {op : UnOp} {a a' v : Value} (e : unV op a = some v) (ha : VR i a a') : (Op.unary op a').run P w = .ok v w ∧ scal v = true := by
  unfold unV at e
  split at e
  · obtain rfl := ha.inv_int
    simp only [someI, wrapI_eq, Option.some.injEq] at e
    subst e
    exact ⟨by simp [Op.unary, Op.intArith], rfl⟩
  · obtain rfl := ha.inv_bool
    cases e
    exact ⟨by simp [Op.unary], rfl⟩
  · cases e
end
end Go.Ev

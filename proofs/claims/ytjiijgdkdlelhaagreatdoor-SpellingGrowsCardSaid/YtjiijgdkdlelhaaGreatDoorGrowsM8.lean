/- The evaluator Ev: the other built-ins, and every operation that calls nothing, in one theorem. -/
import Derived.Test.YtjiijgdkdlelhaaGreatDoorGrowsM7
import Derived.Laws.IdiomStrings
import Derived.Deep.AppendSrc
/- The evaluator Ev: conversions between strings and bytes; append, copy and the other built-ins. -/
namespace Go.Ev
open Go.RowKit Go.Lib

section
variable {P : Program} {A : Tab} {B : Nat} {w₀ : World} {i : Im} {h h' : Hp} {w : World} {v : Value}

theorem isU8_some {e : TypeId} (T : TabOk P A) (h : isU8 A e = true) : P.underlying e = some (.int .u8) := by
  unfold isU8 at h
  split at h
  · rename_i hd; exact T.desc hd
  · cases h

theorem byteCells_LR (i : Im) (bs : List UInt8) : LR i (byteCells bs) (byteCells bs) := LR.scals _ (by
  induction bs with
  | nil => rfl
  | cons b bs ih => simp [byteCells, Ev.scal])

theorem strBytes_VS (T : TabOk P A) (s : SR B w₀ i h w) {src dst e : TypeId} {str : ByteArray} (hs : A.desc src = some .string) (hd : A.desc dst = some (.slice e)) (hu : isU8 A e = true)
    (he : newSl h 1 (byteCells str.data.toList) str.data.toList.length = some (v, h')) : VS P B w₀ i h' w v (convert src dst (.string str)) := by
  unfold newSl at he
  split at he
  · rename_i nb h1 hn
    cases he
    have hrun := Go.Lib.run_convert_string_bytes (P := P) w src dst e str (T.desc hs) (T.desc hd) (isU8_some T hu)
    have sd : SR B w₀ i h w.drew := s.drew
    have hsz : w.drew.heap.size = w.heap.size := rfl
    have hcap : str.size ≤ grownCap w str.size 0 e := Nat.le_add_right str.size _
    have hC : (bytesCells w e str).size = grownCap w str.size 0 e := by
      unfold bytesCells
      simp
      have : str.data.size = str.size := rfl
      omega
    have hCl : (bytesCells w e str).toList = byteCells str.data.toList ++ List.replicate (grownCap w str.size 0 e - str.size) (.int .u8 0) := by
      unfold bytesCells byteCells; simp
    have hcell : ∀ k, (w.drew.alloc (.cells (bytesCells w e str) e ((bytesCells w e str).size, (bytesCells w e str).size + 1))).cell? ⟨w.heap.size, k, none⟩ = (bytesCells w e str)[k]? := fun k => World.cell?_alloc_mark w.drew _ _ _ k
    have hfr : ∀ k, k < (bytesCells w e str).size → (w.drew.alloc (.cells (bytesCells w e str) e ((bytesCells w e str).size, (bytesCells w e str).size + 1))).frozen? ⟨w.heap.size, k, none⟩ = false := fun k hk => by
      refine (World.frozen?_alloc_mark w.drew _ _ _ _ k).trans ?_
      have : ¬ (bytesCells w e str).size ≤ k := by omega
      simp [this]
    obtain ⟨hnb, hel, _⟩ := Hp.new_some hn
    have hs1 := sd.new hn (.cells (bytesCells w e str) e ((bytesCells w e str).size, (bytesCells w e str).size + 1)) (bytesCells w e str).size
      ⟨byteCells str.data.toList, byteCells_LR _ _, fun k u hk => by
        show World.cell? _ ⟨w.heap.size, 0 + k, none⟩ = some u
        rw [Nat.zero_add, hcell, ← Array.getElem?_toList, hCl, List.getElem?_append_left (List.getElem?_eq_some_iff.1 hk).1]
        exact hk, by
        have : (byteCells str.data.toList).length = str.size := by simp [byteCells]
        show (byteCells str.data.toList).length ≤ (bytesCells w e str).size
        omega, fun _ => ⟨s.size, fun k hk => by
        show (World.cell? _ ⟨w.heap.size, 0 + k, none⟩).isSome = true ∧ World.frozen? _ ⟨w.heap.size, 0 + k, none⟩ = false
        have hk' : k < (bytesCells w e str).size := hk
        rw [Nat.zero_add, hcell, hfr k hk']
        simp [hk']⟩, fun er => by cases er⟩
    have hheap : (bytesWorld w e str).heap = (w.drew.alloc (.cells (bytesCells w e str) e ((bytesCells w e str).size, (bytesCells w e str).size + 1))).heap := by
      apply Array.ext_getElem?
      intro k
      show _ = (w.heap.push _)[k]?
      rw [Array.getElem?_push]
      by_cases h1 : k = w.heap.size
      · subst h1; rw [if_pos rfl, bytesWorld_at_new]
      · rw [if_neg h1]
        by_cases h2 : k < w.heap.size
        · exact bytesWorld_at_old w e str k h2
        · rw [Array.getElem?_eq_none (by rw [bytesWorld_size]; omega), Array.getElem?_eq_none (by omega)]
    have hbel : Below B w₀ (bytesWorld w e str) := ⟨hs1.below.os, hs1.below.tape, hs1.below.output, by rw [hheap]; exact hs1.below.size, fun k hk => by rw [hheap]; exact hs1.below.block k hk⟩
    have hlen : str.data.toList.length = str.size := by simp
    refine ⟨_, _, _, hrun, Im.le_set (by rw [hnb]; exact s.none _), ?_, hs1.heap hheap hbel⟩
    rw [hlen]
    refine VR.slice (x := 0) (Im.set_self _ _ _) (Nat.le_refl _) hcap (.inr ⟨rfl, .inr ?_⟩)
    rw [hnb, elOf_num h hel]
    show 0 + grownCap w str.size 0 e * elFor 1 ≤ (bytesCells w e str).size
    have : elFor 1 = 1 := rfl
    rw [this]
    omega
  · cases he

theorem convert_VS (T : TabOk P A) (s : SR B w₀ i h w) {src dst : TypeId} {ds dd : TypeDesc} {x x' : Value} (hs : A.desc src = some ds) (hd : A.desc dst = some dd) (e : cvGo A h ds dd x = some (v, h')) (hx : VR i x x') : VS P B w₀ i h' w v (convert src dst x') := by
  have us := T.desc hs
  have ud := T.desc hd
  unfold cvGo at e
  split at e
  · obtain rfl := hx.inv_int
    split at e
    · obtain ⟨rfl, e2⟩ := withH_some e
      simp only [someI, wrapI_eq, Option.some.injEq] at e2
      subst e2
      exact VS.pure s (.scal rfl) (by simp [convert, run_underlying us, run_underlying ud, Conv.intToInt])
    · cases e
  · obtain rfl := hx.inv_string
    split at e
    · unfold cvStr at e
      split at e
      · cases e
        exact VS.pure s (.scal rfl) (by simp [convert, run_underlying us, run_underlying ud])
      · split at e
        · rename_i hok
          rw [Bool.and_eq_true] at hok
          exact strBytes_VS T s hs hd hok.1 e
        · cases e
      · cases e
    · cases e
  · rename_i base n c
    split at e
    · unfold cvBytes at e
      split at e
      · rename_i el
        split at e
        · rename_i hu
          have he := isU8_some (P := P) T hu
          split at e
          · obtain rfl := hx.inv_nilSlice
            cases e
            refine VS.pure s (.scal rfl) ?_
            rw [run_convert_bytes_string w src dst el none n c us he ud]
            simp [Conv.bytesToString]
            rfl
          · rename_i b o
            obtain ⟨_, _, cb, off, own, xx, c', hb, hi, hnc, hc, hxx, rfl⟩ := hx.inv_slice
            cases hb
            split at e
            · cases e
              refine VS.pure s (.scal rfl) ?_
              rw [run_convert_bytes_string w src dst el _ _ _ us he ud, run_bytesToString w _ 0 c' [] (by rfl)]
              rfl
            · rename_i n
              unfold strOf at e
              split at e
              · rename_i cs hcs
                split at e
                · rename_i bs hbs
                  cases e
                  obtain ⟨vs, hl, hr, hlen⟩ := cells_VS s hcs hi
                  obtain ⟨ns, rfl, rfl⟩ := bytesOf_some _ _ hbs
                  obtain rfl := LR.ints ns vs hl
                  have hx0 : xx = off + o := by rcases hxx with h | h <;> omega
                  subst hx0
                  have hload := run_loadCells' (P := P) hr
                  rw [hlen] at hload
                  refine VS.pure s (v' := .string ⟨⟨ns.map fun n => UInt8.ofNat n.toNat⟩⟩) (.scal rfl) ?_
                  rw [run_convert_bytes_string w src dst el _ _ _ us he ud, run_bytesToString w _ (n + 1) c' ns hload]
                  congr 2
                  apply bytes_inj'
                  rw [foldl_push]
                  simp
                · cases e
              · cases e
          · cases e
        · cases e
      · cases e
    · cases e
  · cases e

/-! ### append -/
theorem growBy_le (need : Nat) : ∀ (r c : Nat), c ≤ 2 * need + 200 → Builtin.growBy need r c ≤ 2 * need + 200 := by
  intro r
  induction r with
  | zero => intro c h; exact h
  | succ r ih =>
    intro c h
    unfold Builtin.growBy
    split
    · exact h
    · exact ih _ (by omega)
theorem nextcap_le {need c : Nat} (h : c < need) : Builtin.nextslicecap need c ≤ 2 * need + 2000 := by
  unfold Builtin.nextslicecap
  split
  · omega
  · split
    · omega
    · have := growBy_le need 4 c (by omega); omega

theorem zeroCells_toList (z : Array Value) (n : Nat) : (Builtin.zeroCells z n).toList = repL n z.toList := zeros_toList z n _ rfl

/-- What the second operand of an append brings, in the model. -/
structure Src2 (P : Program) (e tx : TypeId) (ie : TypeInfo) (x : Value) (n : Nat) (news : List Value) (w : World) : Prop where
  kind : (∃ d, P.underlying tx = some d ∧ isIntD d = false ∧ (∀ w' : World, (Builtin.lenOf x).run P w' = .ok n w') ∧ ∀ w' : World, w'.heap = w.heap → (Builtin.firstCells ie.size n x).run P w' = .ok news.toArray w') ∨
    (∃ k k' zv, P.underlying tx = some (.int k) ∧ x = .int k' (n : Int) ∧ n < 1000000000000 ∧ n * ie.bytes ≤ 100000000000000 ∧ ie.zero = some zv ∧ news.toArray = Builtin.zeroCells zv.cells n)
  newsLen : news.length = n * ie.size
  one : ∀ u ∈ news, u.oneCell' = true

theorem scal_one : ∀ (l : List Value), l.all scal = true → l.all Ev.one = true := by
  intro l
  induction l with
  | nil => intro _; rfl
  | cons x xs ih =>
    intro h
    simp only [List.all_cons, Bool.and_eq_true] at h ⊢
    refine ⟨?_, ih h.2⟩
    cases x <;> first | rfl | exact h.1
theorem all_repL {p : Value → Bool} (l : List Value) (h : l.all p = true) (n : Nat) : (repL n l).all p = true := by
  induction n with
  | zero => rfl
  | succ n ih => simp only [repL, List.all_append, h, ih, Bool.and_self]

theorem src_VS (T : TabOk P A) (s : SR B w₀ i h w) {e tx : TypeId} {dx : TypeDesc} {ie : TypeInfo} {de : TypeDesc} {x x' : Value} {m : Nat} {new : List Value} (he : A.ty.get e = some (ie, de)) (ht : A.desc tx = some dx)
    (hsrc : srcCells A h ie.size ie.bytes e (isIntD dx) x = some (m, new)) (hx : VR i x x') : ∃ new', LR i new new' ∧ Src2 P e tx ie x' m new' w := by
  obtain ⟨hinfo, _⟩ := T.ty _ _ _ he
  have hund := T.desc ht
  unfold srcCells at hsrc
  cases hz : isIntD dx with
  | true =>
    rw [hz] at hsrc
    dsimp only at hsrc
    have hk : ∃ k, dx = .int k := by cases dx <;> first | exact ⟨_, rfl⟩ | cases hz
    obtain ⟨k, rfl⟩ := hk
    split at hsrc
    · rename_i k' m0
      obtain rfl := hx.inv_int
      unfold srcZeros at hsrc
      split at hsrc
      · rename_i hok
        rw [Bool.and_eq_true] at hok
        have h1 := of_blt hok.1
        have h2 := of_ble hok.2
        split at hsrc
        · rename_i z hzz
          cases hsrc
          obtain ⟨ti, zv, hinfo', hzv, rfl, hsc, hzl⟩ := T.zero hzz
          rw [hinfo] at hinfo'
          cases hinfo'
          have hl := (LR.scals (i := i) _ hsc).repL m
          refine ⟨repL m zv.cells.toList, hl, .inr ⟨k, k', zv, hund, rfl, h1, h2, hzv, ?_⟩, by rw [repL_length, hzl], hl.one ?_⟩
          · apply Array.ext'
            rw [zeroCells_toList]
          · exact all_repL _ (scal_one _ hsc) m
        · cases hsrc
      · cases hsrc
    · cases hsrc
  | false =>
    rw [hz] at hsrc
    dsimp only at hsrc
    split at hsrc
    · cases hsrc
      obtain rfl := hx.inv_nilSlice
      exact ⟨[], LR.nil i, .inl ⟨dx, hund, hz, fun _ => rfl, fun _ _ => rfl⟩, by simp, fun _ hu => by cases hu⟩
    · rename_i b o n c
      obtain ⟨_, _, cb, off, own, xx, c', hb, hi, hnc, hc, hxx, rfl⟩ := hx.inv_slice
      cases hb
      unfold srcSlice at hsrc
      split at hsrc
      · cases hsrc
        exact ⟨[], LR.nil i, .inl ⟨dx, hund, hz, fun _ => rfl, fun w' _ => by simp [Builtin.firstCells, loadCells, loadCellsFrom]⟩, by simp, fun _ hu => by cases hu⟩
      · rename_i n
        split at hsrc
        · rename_i cs hcs
          split at hsrc
          case h_2 => cases hsrc
          rename_i hone
          cases hsrc
          obtain ⟨vs, hl, hr, hlen⟩ := cells_VS s hcs hi
          have hx0 : xx = off + o := by rcases hxx with h | h <;> omega
          subst hx0
          refine ⟨vs, hl, .inl ⟨dx, hund, hz, fun _ => rfl, fun w' hw' => ?_⟩, hlen, hl.one hone⟩
          have hr' : w'.rangeAt cb (off + o) vs := fun k u hk => by
            have := hr k u hk
            simpa [World.cell?, hw'] using this
          have := run_loadCells' (P := P) hr'
          rw [hlen] at this
          exact this
        · cases hsrc
    · obtain rfl := hx.inv_string
      rename_i str
      split at hsrc
      · rename_i hsz
        have hsz := of_beq hsz
        cases hsrc
        have hl := byteCells_LR i str.data.toList
        refine ⟨_, hl, .inl ⟨dx, hund, hz, fun _ => rfl, fun w' _ => ?_⟩, ?_, hl.one ?_⟩
        · rw [hsz]
          have := firstCells_string (P := P) str w'
          exact this
        · simp [byteCells, hsz]
        · rw [List.all_eq_true]
          intro u hu
          unfold byteCells at hu
          obtain ⟨_, _, rfl⟩ := List.mem_map.1 hu
          rfl
      · cases hsrc
    · cases hsrc

theorem run_append_room2 (w : World) {t tx ty e : TypeId} {ie : TypeInfo} {x : Value} {n : Nat} {news : List Value} (ht : P.underlying t = some (.slice e)) (hi : P.info? e = some ie) (hs : Src2 P e tx ie x n news w) (rest : List TypeId) (b o sLen sCap : Nat)
    (hroom : sLen + n ≤ sCap) (hc : w.there b (o + sLen * ie.size) news.length) :
    (Builtin.append_ (t :: tx :: rest).toArray ty #[.slice (some ⟨b, o, none⟩) sLen sCap, x]).run P w = .ok (.slice (some ⟨b, o, none⟩) (sLen + n) sCap) (w.setCells b (o + sLen * ie.size) news) := by
  have hst := run_storeCells_cells (P := P) b (o + sLen * ie.size) news 0 w (fun j hj => (hc j hj).1) (fun j hj => (hc j hj).2) hs.one
  simp only [Nat.add_zero] at hst
  rcases hs.kind with ⟨d, hd, hz, h1, h2⟩ | ⟨k, k', zv, hk, rfl, h1, h2, h3, h4⟩
  · have h2' := h2 w rfl
    simp only [Builtin.append_, Sem.run_bind, run_underlying ht, run_underlying hd, Result.andThen_ok, List.getElem?_toArray, List.getElem?_cons_succ, List.getElem?_cons_zero]
    show ((sizeOf e).run P w).andThen (fun a w' => ((pure (isIntD d) : Sem Bool).run P w').andThen _) = _
    rw [hz]
    simp only [run_sizeOf' w hi, Sem.run_pure, Result.andThen_ok, Bool.false_eq_true, if_false, h1, hroom, if_true, Sem.run_bind, Bool.not_false, h2', Addr.add_lit, hst]
  · have wn := wrap_nat n h1
    have hb : ¬ ((n : Int) * (ie.bytes : Int) > 2 ^ 48) := by
      have e2 : (2 : Int) ^ 48 = 281474976710656 := by decide
      rw [← Int.natCast_mul, e2]
      omega
    have hn0 : ¬ ((n : Int) < 0) := by omega
    have hnl := hs.newsLen
    by_cases h0 : n * ie.size = 0
    · have : news = [] := List.eq_nil_of_length_eq_zero (by omega)
      subst this
      simp only [Builtin.append_, Sem.run_bind, run_underlying ht, run_underlying hk, Result.andThen_ok, List.getElem?_toArray, List.getElem?_cons_succ, List.getElem?_cons_zero, run_sizeOf' w hi, Sem.run_pure, if_true, asInt, asIntOf, wn, hn0, if_false, run_typeInfo' w hi, hb, Int.toNat_natCast, hroom, Bool.not_true, Bool.false_eq_true, h0, Addr.add_lit, hst]
    · have hzc : (Builtin.zeroCells zv.cells n).toList = news := by rw [← h4]
      simp only [Builtin.append_, Sem.run_bind, run_underlying ht, run_underlying hk, Result.andThen_ok, List.getElem?_toArray, List.getElem?_cons_succ, List.getElem?_cons_zero, run_sizeOf' w hi, Sem.run_pure, if_true, asInt, asIntOf, wn, hn0, if_false, run_typeInfo' w hi, hb, Int.toNat_natCast, hroom, Bool.not_true, Bool.false_eq_true, h0, Addr.add_lit, run_zero' w hi h3, hzc, hst]

theorem run_append_grow2 (w : World) {t tx ty e : TypeId} {ie : TypeInfo} {zv x : Value} {n : Nat} {news olds : List Value} (ht : P.underlying t = some (.slice e)) (hi : P.info? e = some ie) (hzv : ie.zero = some zv) (hs : Src2 P e tx ie x n news w) (rest : List TypeId) (base : Option Addr) (sLen sCap : Nat)
    (hroom : ¬ sLen + n ≤ sCap) (hold : (Builtin.firstCells ie.size sLen (.slice base sLen sCap)).run P w.drew = .ok olds.toArray w.drew) (hlt : sLen + n < 1000000000000) (hbytes : ie.bytes ≠ 0) (hfit : Builtin.nextslicecap (sLen + n) sCap * ie.bytes ≤ 100000000000000) :
    (Builtin.append_ (t :: tx :: rest).toArray ty #[.slice base sLen sCap, x]).run P w =
      .ok (.slice (some ⟨w.heap.size, 0, none⟩) (sLen + n) (grownCap w (sLen + n) sCap e)) (w.drew.alloc (.cells (olds.toArray ++ news.toArray ++ Builtin.zeroCells zv.cells (grownCap w (sLen + n) sCap e - (sLen + n))) e)) := by
  have h63 : ¬ (((sLen + n : Nat) : Int) > IntKind.i64.max) := by
    have : IntKind.i64.max = 9223372036854775807 := by decide
    rw [this]; omega
  have e2 : (2 : Nat) ^ 48 = 281474976710656 := by decide
  have h48 : ¬ (Builtin.nextslicecap (sLen + n) sCap * ie.bytes > 2 ^ 48) := by rw [e2]; omega
  have hq : (choose (.appendCap (sLen + n) sCap e)).run P w = .ok (grownCap w (sLen + n) sCap e) w.drew := by
    rw [run_choose]; rfl
  rcases hs.kind with ⟨d, hd, hz, h1, h2⟩ | ⟨k, k', zv', hk, rfl, h1, h2, h3, h4⟩
  · have h2' := h2 w.drew rfl
    simp only [Builtin.append_, Sem.run_bind, run_underlying ht, run_underlying hd, Result.andThen_ok, List.getElem?_toArray, List.getElem?_cons_succ, List.getElem?_cons_zero]
    show ((sizeOf e).run P w).andThen (fun a w' => ((pure (isIntD d) : Sem Bool).run P w').andThen _) = _
    rw [hz]
    simp only [run_sizeOf' w hi, Sem.run_pure, Result.andThen_ok, Bool.false_eq_true, if_false, h1, hroom, if_true, Sem.run_bind, Bool.not_false, h63, false_and, run_typeInfo' w hi, h48, hq, run_typeInfo' w.drew hi, run_askRoom, hold, h2', run_zero' w.drew hi hzv]
    rfl
  · have wn := wrap_nat n h1
    rw [h3] at hzv
    cases hzv
    have hb : ¬ ((n : Int) * (ie.bytes : Int) > 2 ^ 48) := by
      have e2 : (2 : Int) ^ 48 = 281474976710656 := by decide
      rw [← Int.natCast_mul, e2]
      omega
    have hn0 : ¬ ((n : Int) < 0) := by omega
    have hnl := hs.newsLen
    by_cases h0 : n * ie.size = 0
    · have : news = [] := List.eq_nil_of_length_eq_zero (by omega)
      subst this
      simp only [Builtin.append_, Sem.run_bind, run_underlying ht, run_underlying hk, Result.andThen_ok, List.getElem?_toArray, List.getElem?_cons_succ, List.getElem?_cons_zero, run_sizeOf' w hi, Sem.run_pure, if_true, asInt, asIntOf, wn, hn0, if_false, run_typeInfo' w hi, hb, Int.toNat_natCast, hroom, Bool.not_true, Bool.false_eq_true, h0, h63, false_and, h48, hq, run_typeInfo' w.drew hi, run_askRoom, hold, run_zero' w.drew hi h3]
      rfl
    · simp only [Builtin.append_, Sem.run_bind, run_underlying ht, run_underlying hk, Result.andThen_ok, List.getElem?_toArray, List.getElem?_cons_succ, List.getElem?_cons_zero, run_sizeOf' w hi, Sem.run_pure, if_true, asInt, asIntOf, wn, hn0, if_false, run_typeInfo' w hi, hb, Int.toNat_natCast, hroom, Bool.not_true, Bool.false_eq_true, h0, h63, false_and, h48, hq, run_typeInfo' w.drew hi, run_askRoom, hold, run_zero' w.drew hi h3, ← h4]
      rfl

theorem run_append_nil2 (w : World) {t tx ty e : TypeId} {ie : TypeInfo} {x : Value} (ht : P.underlying t = some (.slice e)) (hi : P.info? e = some ie) (hs : Src2 P e tx ie x 0 [] w) (rest : List TypeId) (sLen sCap : Nat) (hroom : sLen ≤ sCap) :
    (Builtin.append_ (t :: tx :: rest).toArray ty #[.slice none sLen sCap, x]).run P w = .ok (.slice none sLen sCap) w := by
  have hroom' : sLen + 0 ≤ sCap := hroom
  rcases hs.kind with ⟨d, hd, hz, h1, h2⟩ | ⟨k, k', zv, hk, rfl, h1, h2, h3, h4⟩
  · have h2' := h2 w rfl
    simp only [Builtin.append_, Sem.run_bind, run_underlying ht, run_underlying hd, Result.andThen_ok, List.getElem?_toArray, List.getElem?_cons_succ, List.getElem?_cons_zero]
    show ((sizeOf e).run P w).andThen (fun a w' => ((pure (isIntD d) : Sem Bool).run P w').andThen _) = _
    rw [hz]
    simp only [run_sizeOf' w hi, Sem.run_pure, Result.andThen_ok, Bool.false_eq_true, if_false, h1, hroom', if_true, Sem.run_bind, Bool.not_false, h2']
    rfl
  · have wn := wrap_nat 0 h1
    have hb : ¬ (((0 : Nat) : Int) * (ie.bytes : Int) > 2 ^ 48) := by simp
    have hn0 : ¬ (((0 : Nat) : Int) < 0) := by omega
    have h0 : 0 * ie.size = 0 := Nat.zero_mul _
    simp only [Builtin.append_, Sem.run_bind, run_underlying ht, run_underlying hk, Result.andThen_ok, List.getElem?_toArray, List.getElem?_cons_succ, List.getElem?_cons_zero, run_sizeOf' w hi, Sem.run_pure, if_true, asInt, asIntOf, wn, hn0, if_false, run_typeInfo' w hi, hb, Int.toNat_natCast, hroom', Bool.not_true, Bool.false_eq_true, h0]
    rfl

theorem grown_VS (s : SR B w₀ i h w) {e : TypeId} {sz n m : Nat} {cs olds' news new' : List Value} {zv : Value} (hsl : newSl h sz (cs ++ news) (n + m) = some (v, h')) (hl1 : LR i cs olds') (hl2 : LR i news new') (h1 : cs.length = n * sz) (h2 : news.length = m * sz) (hz : zv.cells.toList.length = sz) {X : Sem Value} {sCap : Nat}
    (hX : X.run P w = .ok (.slice (some ⟨w.heap.size, 0, none⟩) (n + m) (grownCap w (n + m) sCap e)) (w.drew.alloc (.cells (olds'.toArray ++ new'.toArray ++ Builtin.zeroCells zv.cells (grownCap w (n + m) sCap e - (n + m))) e))) : VS P B w₀ i h' w v X := by
  have sd : SR B w₀ i h w.drew := s.drew
  have hge := grownCap_ge w (n + m) sCap e
  obtain ⟨j, v', w', g1, g2⟩ := newSl_VS (P := P) sd (n' := grownCap w (n + m) sCap e) e hsl (hl1.append hl2) (Builtin.zeroCells zv.cells (grownCap w (n + m) sCap e - (n + m))).toList hge (by
    rw [List.length_append, List.length_append, ← hl1.1, ← hl2.1, h1, h2, zeroCells_toList, repL_length, hz, ← Nat.add_mul, ← Nat.add_mul]
    exact Nat.mul_le_mul_right _ (by omega))
  refine ⟨j, v', w', ?_, g2⟩
  rw [hX, ← g1]
  have ha : (⟨olds' ++ new' ++ (Builtin.zeroCells zv.cells (grownCap w (n + m) sCap e - (n + m))).toList⟩ : Array Value) = olds'.toArray ++ new'.toArray ++ Builtin.zeroCells zv.cells (grownCap w (n + m) sCap e - (n + m)) := by
    apply Array.ext'
    simp
  rw [ha]
  rfl

theorem append_VS (T : TabOk P A) (s : SR B w₀ i h w) {ts0 ts1 ty e : TypeId} {d1 : TypeDesc} {base : Option Addr} {n c : Nat} {x b' x' : Value} (h0 : A.desc ts0 = some (.slice e)) (h1 : A.desc ts1 = some d1)
    (he : apElem A h e (isIntD d1) base n c x = some (v, h')) (hb : VR i (.slice base n c) b') (hx : VR i x x') (rest : List TypeId) : VS P B w₀ i h' w v (Builtin.append_ (ts0 :: ts1 :: rest).toArray ty #[b', x']) := by
  have u0 := T.desc h0
  unfold apElem at he
  split at he
  case h_2 => cases he
  rename_i ie de hty
  obtain ⟨hinfo, _, hzero, _⟩ := T.ty _ _ _ hty
  split at he
  case h_2 => cases he
  rename_i m new hsrc
  obtain ⟨new', hl, hs⟩ := src_VS T s hty h1 hsrc hx
  have hnl := hs.newsLen
  have hll := hl.1
  unfold apGo at he
  split at he
  · rename_i hroom
    have hroom := of_ble hroom
    unfold apIn at he
    split at he
    · rename_i b o
      obtain ⟨_, _, cb, off, own, xx, c', hb', hi, hnc, hc, hxx, rfl⟩ := hb.inv_slice
      cases hb'
      split at he
      · cases he
        have : new' = [] := List.eq_nil_of_length_eq_zero (by omega)
        subst this
        refine VS.pure s hb ?_
        exact run_append_room2 w u0 hinfo hs rest cb xx n c' (by omega) (fun k hk => by simp at hk)
      · rename_i m
        split at he
        case h_2 => cases he
        rename_i h2 hput
        cases he
        have hx0 : xx = off + o := by rcases hxx with h | h <;> omega
        subst hx0
        obtain ⟨hs1, hth⟩ := s.put hput hi hl
        rw [show off + (o + n * ie.size) = off + o + n * ie.size by omega] at hs1 hth
        exact ⟨i, _, _, run_append_room2 w u0 hinfo hs rest cb (off + o) n c' (by omega) hth, Im.le_refl i, VR.slice hi hroom hc hxx, hs1⟩
    · cases he
    · split at he
      · cases he
        obtain rfl := hb.inv_nilSlice
        have : new' = [] := List.eq_nil_of_length_eq_zero (by omega)
        subst this
        exact VS.pure s hb (run_append_nil2 w u0 hinfo hs rest 0 0 (Nat.le_refl _))
      · cases he
  · rename_i hroom
    have hroom := of_ble_false hroom
    split at he
    case h_2 => cases he
    rename_i hfit
    rw [Bool.and_eq_true] at hfit
    obtain ⟨hfit, hzs⟩ := hfit
    obtain ⟨zv, hzv⟩ := Option.isSome_iff_exists.1 hzs
    obtain ⟨hsc, hzl⟩ := hzero zv hzv
    unfold apFits at hfit
    simp only [Bool.and_eq_true] at hfit
    obtain ⟨⟨f1, f2⟩, f3⟩ := hfit
    have f1 := of_ble f1
    have f2 := of_blt f2
    have f3 := of_blt f3
    have fit : ∀ c', ¬ n + m ≤ c' → Builtin.nextslicecap (n + m) c' * ie.bytes ≤ 100000000000000 := fun c' hc' =>
      Nat.le_trans (Nat.mul_le_mul_right _ (nextcap_le (by omega))) f1
    unfold apOut at he
    split at he
    · split at he
      case h_2 => cases he
      obtain rfl := hb.inv_nilSlice
      have hX := run_append_grow2 (P := P) (ty := ty) w u0 hinfo hzv hs rest none 0 c hroom (olds := []) rfl f2 (by omega) (fit c hroom)
      exact grown_VS s (cs := []) (n := 0) (by simpa using he) (LR.nil i) hl (by simp) (by omega) hzl hX
    · rename_i b o
      obtain ⟨_, _, cb, off, own, xx, c', hb', hi, hnc, hc, hxx, rfl⟩ := hb.inv_slice
      cases hb'
      split at he
      case h_2 => cases he
      rename_i cs hg
      unfold apOld at he
      split at he
      case h_2 => cases he
      rename_i hok
      simp only [Bool.and_eq_true] at hok
      obtain ⟨⟨k1, k2⟩, k3⟩ := hok
      have k1 := of_ble k1
      have k2 := of_beq k2
      have k3 := of_blt k3
      by_cases hin : n + m ≤ c'
      · -- the model still has room
        obtain ⟨hx0, hown⟩ : xx = off + o ∧ (elOf b = 0 ∨ o + c' * elOf b ≤ own) := by
          rcases hxx with h | h
          · omega
          · exact h
        subst hx0
        have hown : o + c' * ie.size ≤ own := by
          rcases hown with h | h
          · omega
          · rw [k2] at h; exact h
        unfold newSl at he
        split at he
        case h_2 => cases he
        rename_i nb h2 hn
        cases he
        have hmul : (n + m) * ie.size ≤ c' * ie.size := Nat.mul_le_mul_right _ hin
        rw [Nat.add_mul] at hmul
        obtain ⟨hs1, hth⟩ := s.grow hg hi k1 hn hl (by show o + n * ie.size + new'.length ≤ own; omega)
        obtain ⟨hnb, hel, _⟩ := Hp.new_some hn
        refine ⟨_, _, _, run_append_room2 w u0 hinfo hs rest cb (off + o) n c' hin hth, Im.le_set (by rw [hnb]; exact s.none _), ?_, hs1⟩
        refine VR.slice (x := off + o) (Im.set_self _ _ _) (Nat.le_refl _) hin (.inr ⟨rfl, ?_⟩)
        rw [hnb, elOf_num _ hel]
        have hfor : elFor ie.size = 0 ∨ elFor ie.size = ie.size := by unfold elFor; split <;> simp
        rcases hfor with h0 | h0
        · exact .inl h0
        · refine .inr ?_
          rw [h0]
          show 0 + c' * ie.size ≤ own - o
          omega
      · -- a new row
        obtain ⟨ds, g1, g2, g3, _⟩ := s.im hg hi
        have hold : ∃ olds', LR i ((cs.drop o).take (n * ie.size)) olds' ∧ (Builtin.firstCells ie.size n (.slice (some ⟨cb, xx, none⟩) n c')).run P w.drew = .ok olds'.toArray w.drew := by
          by_cases hn0 : n = 0
          · subst hn0
            refine ⟨[], by simpa using LR.nil i, by simp [Builtin.firstCells, loadCells, loadCellsFrom]⟩
          · have hx0 : xx = off + o := by rcases hxx with h | h <;> omega
            subst hx0
            refine ⟨(ds.drop o).take (n * ie.size), (g1.drop o).take _, ?_⟩
            have hr : w.drew.rangeAt cb (off + o) ((ds.drop o).take (n * ie.size)) := rangeAt_sub g2 o _
            have := run_loadCells' (P := P) hr
            have hlen : ((ds.drop o).take (n * ie.size)).length = n * ie.size := by have := g1.1; simp; omega
            rw [hlen] at this
            exact this
        obtain ⟨olds', hol, hrun⟩ := hold
        have hX := run_append_grow2 (P := P) (ty := ty) w u0 hinfo hzv hs rest (some ⟨cb, xx, none⟩) n c' hin hrun f2 (by omega) (fit c' hin)
        exact grown_VS (s.kill b) he hol hl (by simp; omega) (by omega) hzl hX
    · cases he

end
end Go.Ev

/- The evaluator Ev: the other built-ins, and every operation that calls nothing, in one theorem. -/
namespace Go.Ev
open Go.RowKit Go.Lib

section
variable {P : Program} {A : Tab} {B : Nat} {w₀ : World} {i : Im} {h h' : Hp} {w : World} {v : Value}

theorem goInt_scal (n : Nat) : scal (goInt n) = true := rfl

theorem cpPut_VS (s : SR B w₀ i h w) {bd od m dn dc : Nat} {cs vs : List Value} {dst' src' : Value} {t e : TypeId} {ie : TypeInfo} {rest : List TypeId} {ty : TypeId} (ut : P.underlying t = some (.slice e)) (hi : P.info? e = some ie)
    (hput : cpPut h bd od m cs = some (v, h')) (hm : 0 < m) (hd : VR i (.slice (some ⟨bd, od, none⟩) dn dc) dst') (hmd : m ≤ dn) (hl : LR i cs vs) (hone : cs.all Ev.one = true) (q : Nat)
    (hlen : (Builtin.lenOf src').run P w = .ok q w) (hq : Nat.min q dn = m) (hcell : (Builtin.firstCells ie.size m src').run P w = .ok vs.toArray w) :
    VS P B w₀ i h' w v (Builtin.copy_ (t :: rest).toArray ty #[dst', src']) := by
  obtain ⟨_, _, cb, off, own, xx, c', hb, him, hnc, hc, hxx, rfl⟩ := hd.inv_slice
  cases hb
  have hx0 : xx = off + od := by rcases hxx with h | h <;> omega
  subst hx0
  unfold cpPut at hput
  split at hput
  case h_2 => cases hput
  rename_i h2 hp
  cases hput
  obtain ⟨hs1, hth⟩ := s.put hp him hl
  have hst := run_storeCells_cells (P := P) cb (off + od) vs 0 w (fun j hj => (hth j hj).1) (fun j hj => (hth j hj).2) (hl.one hone)
  simp only [Nat.add_zero] at hst
  refine ⟨i, goInt m, _, ?_, Im.le_refl i, .scal rfl, hs1⟩
  simp only [Builtin.copy_, Sem.run_bind, run_underlying ut, Result.andThen_ok, hlen, hq, run_sizeOf' w hi, hcell, hst, Sem.run_pure, List.getElem?_toArray, List.getElem?_cons_zero, List.getElem?_cons_succ]

theorem copy0_VS (s : SR B w₀ i h w) {bd od dn dc : Nat} {dst' src' : Value} {t e : TypeId} {ie : TypeInfo} {rest : List TypeId} {ty : TypeId} (ut : P.underlying t = some (.slice e)) (hi : P.info? e = some ie)
    (hd : VR i (.slice (some ⟨bd, od, none⟩) dn dc) dst') (q : Nat)
    (hlen : (Builtin.lenOf src').run P w = .ok q w) (hq : Nat.min q dn = 0) (hcell : (Builtin.firstCells ie.size 0 src').run P w = .ok #[] w) :
    VS P B w₀ i h w (goInt 0) (Builtin.copy_ (t :: rest).toArray ty #[dst', src']) := by
  obtain ⟨_, _, cb, off, own, xx, c', hb, him, hnc, hc, hxx, rfl⟩ := hd.inv_slice
  refine VS.pure s (.scal rfl) ?_
  simp only [Builtin.copy_, Sem.run_bind, run_underlying ut, Result.andThen_ok, hlen, hq, run_sizeOf' w hi, hcell, storeCells, Sem.run_pure, List.getElem?_toArray, List.getElem?_cons_zero, List.getElem?_cons_succ]
  rfl

theorem copy_VS (T : TabOk P A) (s : SR B w₀ i h w) {bd od dn dc : Nat} {src dst' src' : Value} {t e : TypeId} {rest : List TypeId} {ty : TypeId} (ht : A.desc t = some (.slice e)) (he : copyV A h e bd od dn src = some (v, h'))
    (hd : VR i (.slice (some ⟨bd, od, none⟩) dn dc) dst') (hs : VR i src src') : VS P B w₀ i h' w v (Builtin.copy_ (t :: rest).toArray ty #[dst', src']) := by
  have ut := T.desc ht
  unfold copyV at he
  split at he
  case h_2 => cases he
  rename_i sz hsz
  obtain ⟨ie, hi, rfl⟩ := T.size hsz
  split at he
  · cases he
    obtain rfl := hs.inv_nilSlice
    exact copy0_VS s ut hi hd 0 rfl (Nat.zero_min _) rfl
  · rename_i bs os sn sc
    obtain ⟨_, _, cb, off, own, xx, c', hb, him, hnc, hc, hxx, rfl⟩ := hs.inv_slice
    cases hb
    unfold cpSlice at he
    split at he
    · rename_i hm
      cases he
      exact copy0_VS s ut hi hd sn rfl hm (by simp [Builtin.firstCells, loadCells, loadCellsFrom])
    · rename_i m hm
      split at he
      case h_2 => cases he
      rename_i cs hcs
      split at he
      case h_2 => cases he
      rename_i hone
      obtain ⟨vs, hl, hr, hlen⟩ := cells_VS s hcs him
      have h1 : Nat.min sn dn ≤ sn := Nat.min_le_left _ _
      have h2 : Nat.min sn dn ≤ dn := Nat.min_le_right _ _
      have hx0 : xx = off + os := by rcases hxx with h | h <;> omega
      subst hx0
      have hload := run_loadCells' (P := P) hr
      rw [hlen] at hload
      exact cpPut_VS s ut hi he (by omega) hd (by omega) hl hone sn rfl hm hload
  · rename_i str
    obtain rfl := hs.inv_string
    unfold cpStr at he
    split at he
    · rename_i hm
      cases he
      exact copy0_VS s ut hi hd _ rfl hm (by simp [Builtin.firstCells])
    · rename_i m hm
      have h2 : Nat.min str.data.toList.length dn ≤ dn := Nat.min_le_right _ _
      have h1 : Nat.min str.data.toList.length dn ≤ str.data.toList.length := Nat.min_le_left _ _
      refine cpPut_VS s ut hi he (by omega) hd (by omega) (byteCells_LR i _) ?_ str.data.toList.length rfl hm ?_
      · rw [List.all_eq_true]
        intro u hu
        unfold byteCells at hu
        obtain ⟨_, _, rfl⟩ := List.mem_map.1 hu
        rfl
      · simp only [Builtin.firstCells, Sem.run_pure]
        congr 1
        apply Array.ext'
        simp [byteCells, List.map_take]
  · cases he

theorem clear_VS (T : TabOk P A) (s : SR B w₀ i h w) {b o n c : Nat} {x' : Value} {t e : TypeId} {rest : List TypeId} {ty : TypeId} (ht : A.desc t = some (.slice e)) (he : clearV A h e b o n = some (v, h'))
    (hd : VR i (.slice (some ⟨b, o, none⟩) n c) x') : VS P B w₀ i h' w v (Builtin.clear_ (t :: rest).toArray ty #[x']) := by
  have ut := T.desc ht
  obtain ⟨_, _, cb, off, own, xx, c', hb, him, hnc, hc, hxx, rfl⟩ := hd.inv_slice
  cases hb
  unfold clearV at he
  split at he
  · cases he
    refine VS.pure s (.tuple rfl (fun k hk => by simp at hk)) (v' := .tuple #[]) ?_
    simp only [Builtin.clear_, Sem.run_bind, run_underlying ut, Result.andThen_ok, Sem.run_pure, List.getElem?_toArray, List.getElem?_cons_zero]
  · rename_i n
    split at he
    case h_2 => cases he
    rename_i z hz
    obtain ⟨ie, zv, hi, hzv, rfl, hsc, hzl⟩ := T.zero hz
    split at he
    case h_2 => cases he
    rename_i h2 hput
    cases he
    have hx0 : xx = off + o := by rcases hxx with h | h <;> omega
    subst hx0
    have hl := (LR.scals (i := i) _ hsc).repL (n + 1)
    obtain ⟨hs1, hth⟩ := s.put hput him hl
    have hst := run_storeCells_cells (P := P) cb (off + o) _ 0 w (fun j hj => (hth j hj).1) (fun j hj => (hth j hj).2) (hl.one (all_repL _ (scal_one _ hsc) _))
    simp only [Nat.add_zero] at hst
    refine ⟨i, .tuple #[], _, ?_, Im.le_refl i, .tuple rfl (fun k hk => by simp at hk), hs1⟩
    simp only [Builtin.clear_, Sem.run_bind, run_underlying ut, Result.andThen_ok, Sem.run_pure, List.getElem?_toArray, List.getElem?_cons_zero, run_zero' w hi hzv, zeroCells_toList, hst]

theorem len_VS (T : TabOk P A) (s : SR B w₀ i h w) {x x' : Value} {t : TypeId} {d : TypeDesc} {rest : List TypeId} {ty : TypeId} (ht : A.desc t = some d) (he : lenV h d x = some (v, h')) (hx : VR i x x') :
    VS P B w₀ i h' w v (Builtin.len_ (t :: rest).toArray ty #[x']) := by
  have ut := T.desc ht
  have fin : ∀ (n : Nat), (Builtin.len_ (t :: rest).toArray ty #[x']).run P w = .ok (goInt n) w → some (goInt n, h) = some (v, h') → VS P B w₀ i h' w v (Builtin.len_ (t :: rest).toArray ty #[x']) := by
    intro n hr e
    cases e
    exact VS.pure s (.scal rfl) hr
  unfold lenV at he
  split at he
  · obtain rfl := hx.inv_string
    split at he
    · refine fin _ ?_ he
      simp [Builtin.len_, run_underlying ut]
    · cases he
  · rename_i base n c
    split at he
    · refine fin _ ?_ he
      cases base with
      | none => obtain rfl := hx.inv_nilSlice; simp [Builtin.len_, run_underlying ut]
      | some a => obtain ⟨_, _, _, _, _, _, _, _, _, _, _, _, rfl⟩ := hx.inv_slice; simp [Builtin.len_, run_underlying ut]
    · cases he
  · obtain rfl := hx.inv_nilMap
    split at he
    · refine fin _ ?_ he
      simp [Builtin.len_, run_underlying ut]
    · cases he
  · rename_i r
    obtain ⟨cb, off, own, him, rfl⟩ := hx.inv_map
    split at he
    · unfold lenMap at he
      split at he
      · rename_i es hg
        obtain ⟨en, ck, h1, h2, _⟩ := s.im hg him
        refine fin _ ?_ he
        have hlen : en.size = es.length := by have := h2.1; simp at this; omega
        have h1' : w.heap[cb]? = some (.map en ck) := h1
        simp [Builtin.len_, run_underlying ut, getObj, Sem.run, h1', hlen]
      · cases he
    · cases he
  · split at he
    · refine fin _ ?_ he
      simp [Builtin.len_, run_underlying ut]
    · cases he
  · cases he

theorem cap_VS (T : TabOk P A) (s : SR B w₀ i h w) {x x' : Value} {t : TypeId} {d : TypeDesc} {rest : List TypeId} {ty : TypeId} (ht : A.desc t = some d) (he : capV h d x = some (v, h')) (hx : VR i x x') :
    VS P B w₀ i h' w v (Builtin.cap_ (t :: rest).toArray ty #[x']) := by
  have ut := T.desc ht
  unfold capV at he
  split at he
  · cases he
    obtain rfl := hx.inv_nilSlice
    exact VS.pure s (.scal rfl) (by simp [Builtin.cap_, run_underlying ut])
  · cases he
    exact VS.pure s (.scal rfl) (by simp [Builtin.cap_, run_underlying ut])
  · cases he

theorem max2_VS {x y z x' y' : Value} (e : maxV x y = some z) (hx : VR i x x') (hy : VR i y y') : (Builtin.max2 x' y').run P w = .ok z w ∧ scal z = true := by
  unfold maxV at e
  split at e
  · obtain rfl := hx.inv_int
    obtain rfl := hy.inv_int
    simp only [Option.some.injEq] at e
    subst e
    refine ⟨?_, rfl⟩
    rename_i k a k' b
    simp only [Builtin.max2, Sem.run_pure, ltI_eq]
    by_cases hab : a < b
    · simp [hab]
    · simp [hab]
  · cases e
theorem min2_VS {x y z x' y' : Value} (e : minV x y = some z) (hx : VR i x x') (hy : VR i y y') : (Builtin.min2 x' y').run P w = .ok z w ∧ scal z = true := by
  unfold minV at e
  split at e
  · obtain rfl := hx.inv_int
    obtain rfl := hy.inv_int
    simp only [Option.some.injEq] at e
    subst e
    refine ⟨?_, rfl⟩
    rename_i k a k' b
    simp only [Builtin.min2, Sem.run_pure, ltI_eq]
    by_cases hab : b < a
    · simp [hab]
    · simp [hab]
  · cases e
theorem fold_VS {f : Value → Value → Option Value} {m : Value → Value → Sem Value} (hf : ∀ x y z x' y', f x y = some z → VR i x x' → VR i y y' → (m x' y').run P w = .ok z w ∧ scal z = true) :
    ∀ (xs xs' : List Value) (x x' z : Value), foldV f x xs = some z → VR i x x' → LR i xs xs' → ∃ z', (xs'.foldlM m x').run P w = .ok z' w ∧ VR i z z' := by
  intro xs
  induction xs with
  | nil => intro xs' x x' z e hx hl; cases e; rw [hl.unnil]; exact ⟨x', rfl, hx⟩
  | cons y ys ih =>
    intro xs' x x' z e hx hl
    obtain ⟨y', ys', rfl, hy, ht⟩ := hl.uncons
    simp only [foldV] at e
    split at e
    case h_2 => cases e
    rename_i u hu
    obtain ⟨h1, h2⟩ := hf _ _ _ _ _ hu hx hy
    obtain ⟨z', h3, h4⟩ := ih ys' u u z e (.scal h2) ht
    exact ⟨z', by rw [List.foldlM_cons, Sem.run_bind, h1]; exact h3, h4⟩

/-! ### Every operation that calls nothing -/
/-- The operation comes to what the evaluator says. -/
def OS (P : Program) (B : Nat) (w₀ : World) (i : Im) (h' : Hp) (w : World) (v : Value) (m : Sem Next) : Prop :=
  ∃ j v' w' nx, m.run P w = .ok nx w' ∧ (nx = .value v' ∨ (nx = .skip ∧ v = undef ∧ v' = undef)) ∧ i.le j ∧ VR j v v' ∧ SR B w₀ j h' w'
theorem OS.of_VS {m : Sem Value} (h1 : VS P B w₀ i h' w v m) : OS P B w₀ i h' w v (do pure (.value (← m))) := by
  obtain ⟨j, v', w', h2, h3, h4, h5⟩ := h1
  exact ⟨j, v', w', .value v', by rw [Sem.run_bind, h2]; rfl, .inl rfl, h3, h4, h5⟩
theorem OS.of_unit {m : Sem Unit} {w' : World} (h1 : m.run P w = .ok () w') (s : SR B w₀ i h' w') : OS P B w₀ i h' w undef (do m; pure .skip) :=
  ⟨i, undef, w', .skip, by rw [Sem.run_bind, h1]; rfl, .inr ⟨rfl, rfl, rfl⟩, Im.le_refl i, VR.undef i, s⟩
theorem OS.pure (s : SR B w₀ i h w) {v' : Value} (hv : VR i v v') : OS P B w₀ i h w v (Pure.pure (.value v')) :=
  ⟨i, v', w, .value v', rfl, .inl rfl, Im.le_refl i, hv, s⟩
theorem VS.of_val (s : SR B w₀ i h w) {m : Sem Value} (e : ∃ v', m.run P w = .ok v' w ∧ VR i v v') : VS P B w₀ i h w v m := by
  obtain ⟨v', h1, h2⟩ := e
  exact VS.pure s h2 h1

theorem opnds_VR {env : List Value} {ρ : Operand → Value} : ∀ (l : List Operand) (vs : List Value), (∀ x u, x ∈ l → opnd env x = some u → VR i u (ρ x)) → opnds env l = some vs → LR i vs (l.map ρ) := by
  intro l
  induction l with
  | nil => intro vs _ e; rw [opnds_nil] at e; cases e; exact LR.nil i
  | cons x xs ih =>
    intro vs hρ e
    rw [opnds_cons] at e
    cases hx : opnd env x with
    | none => rw [hx] at e; cases e
    | some u =>
      rw [hx] at e
      cases hxs : opnds env xs with
      | none => rw [hxs] at e; cases e
      | some us =>
        rw [hxs] at e
        cases e
        exact (ih us (fun y u hy => hρ y u (List.mem_cons_of_mem _ hy)) hxs).cons (hρ x u (List.mem_cons_self ..) hx)

theorem builtin_VS (T : TabOk P A) (s : SR B w₀ i h w) {b : Builtin} {ts : List TypeId} {vs : List Value} {vs' : List Value} {ty : TypeId} {consts : Array Bool} (e : builtinV b A h ts vs = some (v, h')) (hl : LR i vs vs') :
    OS P B w₀ i h' w v (builtin b ts.toArray ty consts vs'.toArray) := by
  cases b with
  | len =>
    simp only [builtinV, buLen] at e
    split at e
    case h_2 => cases e
    rename_i t rest x
    obtain ⟨x', _, rfl, hx, ht⟩ := hl.uncons
    rw [ht.unnil]
    split at e
    case h_2 => cases e
    rename_i d hd
    exact OS.of_VS (len_VS T s hd e hx)
  | cap =>
    simp only [builtinV, buCap] at e
    split at e
    case h_2 => cases e
    rename_i t rest x
    obtain ⟨x', _, rfl, hx, ht⟩ := hl.uncons
    rw [ht.unnil]
    split at e
    case h_2 => cases e
    rename_i d hd
    exact OS.of_VS (cap_VS T s hd e hx)
  | append =>
    simp only [builtinV, appendV] at e
    split at e
    case h_2 => cases e
    rename_i t0 t1 rest base n c x
    obtain ⟨b', _, rfl, hb, ht⟩ := hl.uncons
    obtain ⟨x', _, rfl, hx, ht⟩ := ht.uncons
    rw [ht.unnil]
    split at e
    case h_2 => cases e
    rename_i el d1 h0 h1
    exact OS.of_VS (append_VS T s h0 h1 e hb hx rest)
  | max =>
    simp only [builtinV, buMax] at e
    split at e
    case h_2 => cases e
    rename_i x xs
    obtain ⟨rfl, e2⟩ := withH_some e
    obtain ⟨x', xs', rfl, hx, ht⟩ := hl.uncons
    exact OS.of_VS (VS.of_val s (fold_VS (fun _ _ _ _ _ => max2_VS) _ _ _ _ _ e2 hx ht))
  | min =>
    simp only [builtinV, buMin] at e
    split at e
    case h_2 => cases e
    rename_i x xs
    obtain ⟨rfl, e2⟩ := withH_some e
    obtain ⟨x', xs', rfl, hx, ht⟩ := hl.uncons
    exact OS.of_VS (VS.of_val s (fold_VS (fun _ _ _ _ _ => min2_VS) _ _ _ _ _ e2 hx ht))
  | copy =>
    simp only [builtinV, buCopy] at e
    split at e
    case h_2 => cases e
    rename_i t rest bd od dn dc src
    obtain ⟨b', _, rfl, hb, ht⟩ := hl.uncons
    obtain ⟨x', _, rfl, hx, ht⟩ := ht.uncons
    rw [ht.unnil]
    split at e
    case h_2 => cases e
    rename_i el h0
    exact OS.of_VS (copy_VS T s h0 e hb hx)
  | clear =>
    simp only [builtinV, buClear] at e
    split at e
    case h_2 => cases e
    rename_i t rest b o n c
    obtain ⟨b', _, rfl, hb, ht⟩ := hl.uncons
    rw [ht.unnil]
    split at e
    case h_2 => cases e
    rename_i el h0
    exact OS.of_VS (clear_VS T s h0 e hb)
  | _ => cases e

theorem optOpnd_OVR {env : List Value} {ρ : Operand → Value} {x : Option Operand} {u : Option Value} (hρ : ∀ y u, y ∈ x.toList → opnd env y = some u → VR i u (ρ y)) (e : optOpnd env x = some u) : OVR i u (x.map ρ) := by
  cases x with
  | none => cases e; exact .inl ⟨rfl, rfl⟩
  | some x =>
    simp only [optOpnd] at e
    split at e
    case h_2 => cases e
    rename_i v hv
    cases e
    exact .inr ⟨v, ρ x, rfl, rfl, hρ x v (by simp) hv⟩

theorem parts_eval {env : List Value} {ρ : Operand → Value} {parts : Array (Nat × Operand)} {vs : List Value} (hρ : ∀ x u, x ∈ parts.toList.map (·.2) → opnd env x = some u → VR i u (ρ x)) (e : opnds env (parts.toList.map (·.2)) = some vs) :
    (⟨(parts.toList.map (·.1)).zip ((parts.toList.map (·.2)).map ρ)⟩ : Array (Nat × Value)) = parts.map (fun (i, x) => (i, ρ x)) ∧
    (((parts.toList.map (·.1)).zip vs).map (·.1) = ((parts.toList.map (·.1)).zip ((parts.toList.map (·.2)).map ρ)).map (·.1) ∧ LR i (((parts.toList.map (·.1)).zip vs).map (·.2)) (((parts.toList.map (·.1)).zip ((parts.toList.map (·.2)).map ρ)).map (·.2))) := by
  refine ⟨?_, zip_parts (opnds_VR _ _ hρ e) (by rw [opnds_length _ _ e]; simp)⟩
  apply Array.ext'
  simp only [Array.toList_map, List.map_map]
  generalize parts.toList = l
  induction l with
  | nil => rfl
  | cons x xs ih => simp only [List.map_cons, List.zip_cons_cons, ih]; rfl

theorem pureOp_sound (T : TabOk P A) (s : SR B w₀ i h w) {env : List Value} {ρ : Operand → Value} (o : Oper) (hop : ∀ x u, x ∈ o.op.operands.toList → opnd env x = some u → VR i u (ρ x)) (e : pureOp o.op A env h = some (v, h')) : OS P B w₀ i h' w v (execOp ρ o) := by
  unfold execOp
  cases hO : o.op with
  | move x =>
    rw [hO] at e hop
    obtain ⟨rfl, e2⟩ := withH_some (show withH h (opnd env x) = some (v, h') from e)
    exact OS.pure s (hop _ _ (by simp [Op.operands]) e2)
  | assign x =>
    rw [hO] at e hop
    obtain ⟨rfl, e2⟩ := withH_some (show withH h (opnd env x) = some (v, h') from e)
    exact OS.pure s (hop _ _ (by simp [Op.operands]) e2)
  | pick c x y =>
    rw [hO] at e hop
    replace e : opPick c x y A env h = some (v, h') := e
    unfold opPick at e
    split at e
    · rename_i hc
      obtain ⟨rfl, e2⟩ := withH_some e
      have hb := (hop _ _ (by simp [Op.operands]) hc).inv_bool
      exact ⟨i, ρ x, w, .value (ρ x), by simp [hb, asBool], .inl rfl, Im.le_refl i, hop _ _ (by simp [Op.operands]) e2, s⟩
    · rename_i hc
      obtain ⟨rfl, e2⟩ := withH_some e
      have hb := (hop _ _ (by simp [Op.operands]) hc).inv_bool
      exact ⟨i, ρ y, w, .value (ρ y), by simp [hb, asBool], .inl rfl, Im.le_refl i, hop _ _ (by simp [Op.operands]) e2, s⟩
    · cases e
  | alloc t =>
    rw [hO] at e hop
    replace e : opAlloc t A env h = some (v, h') := e
    unfold opAlloc at e
    split at e
    case h_2 => cases e
    rename_i z hz
    exact OS.of_VS (alloc_VS T s hz e)
  | box t x =>
    rw [hO] at e hop
    replace e : opBox t x A env h = some (v, h') := e
    unfold opBox at e
    split at e
    case h_2 => cases e
    rename_i u hu
    exact OS.of_VS (box_VS s e (hop _ _ (by simp [Op.operands]) hu))
  | build t parts =>
    rw [hO] at e hop
    replace e : opBuild t parts A env h = some (v, h') := e
    unfold opBuild at e
    split at e
    case h_2 => cases e
    rename_i d z vs hd hz hvs
    obtain ⟨p1, p2⟩ := parts_eval (fun x u hx => hop x u hx) hvs
    have r := build_VS T s hd hz e p2.1 p2.2
    rw [p1] at r
    exact OS.of_VS r
  | buildSlice t len parts =>
    rw [hO] at e hop
    replace e : opBuildSlice t len parts A env h = some (v, h') := e
    unfold opBuildSlice at e
    split at e
    case h_2 => cases e
    rename_i el vs hd hvs
    obtain ⟨p1, p2⟩ := parts_eval (fun x u hx => hop x u hx) hvs
    have r := buildSlice_VS T s hd e p2.1 p2.2
    rw [p1] at r
    exact OS.of_VS r
  | load t x =>
    rw [hO] at e hop
    replace e : opLoad t x A env h = some (v, h') := e
    unfold opLoad at e
    split at e
    case h_2 => cases e
    rename_i u hu
    obtain ⟨rfl, e2⟩ := withH_some e
    exact OS.of_VS (load_VS T s e2 (hop _ _ (by simp [Op.operands]) hu))
  | store t x y =>
    rw [hO] at e hop
    replace e : opStore t x y A env h = some (v, h') := e
    unfold opStore at e
    split at e
    case h_2 => cases e
    rename_i p u hp hu
    unfold unH at e
    split at e
    case h_2 => cases e
    rename_i h2 hst
    cases e
    obtain ⟨w', h1, h2⟩ := store_VS T s hst (hop _ _ (by simp [Op.operands]) hp) (hop _ _ (by simp [Op.operands]) hu)
    exact OS.of_unit h1 h2
  | nilCheck x =>
    rw [hO] at e hop
    replace e : opNilCheck x A env h = some (v, h') := e
    unfold opNilCheck at e
    split at e
    case h_2 => cases e
    rename_i u hu
    split at e
    case h_2 => cases e
    rename_i hok
    cases e
    have hv := hop _ _ (by simp [Op.operands]) hu
    dsimp only
    unfold nilOk at hok
    split at hok
    · obtain ⟨_, _, _, _, _, _, _, hx⟩ := hv.inv_ptr
      rw [hx] at hv ⊢
      exact OS.pure s hv
    · obtain ⟨f, p, q, hx, hf, _⟩ := hv.inv_func
      rw [hx] at hv ⊢
      cases hf
      exact OS.pure s hv
    · obtain ⟨f, p, q, hx, hf, _⟩ := hv.inv_func
      rw [hx] at hv ⊢
      cases hf
      exact OS.pure s hv
    · rename_i base n c
      cases base with
      | none =>
        have hx := hv.inv_nilSlice
        rw [hx] at hv ⊢
        exact OS.pure s hv
      | some p =>
        obtain ⟨_, _, _, _, _, _, _, _, _, _, _, _, hx⟩ := hv.inv_slice
        rw [hx] at hv ⊢
        exact OS.pure s hv
    · cases hok
  | binOp op t x y u =>
    rw [hO] at e hop
    replace e : opBin op t x y u A env h = some (v, h') := e
    unfold opBin at e
    split at e
    case h_2 => cases e
    rename_i p q hp hq
    obtain ⟨rfl, e2⟩ := withH_some e
    obtain ⟨h1, h2⟩ := binV_VS (w := w) T e2 (hop _ _ (by simp [Op.operands]) hp) (hop _ _ (by simp [Op.operands]) hq)
    exact OS.of_VS (VS.pure s (.scal h2) h1)
  | unOp op t x =>
    rw [hO] at e hop
    replace e : opUn op t x A env h = some (v, h') := e
    unfold opUn at e
    split at e
    case h_2 => cases e
    rename_i u hu
    obtain ⟨rfl, e2⟩ := withH_some e
    obtain ⟨h1, h2⟩ := unV_VS (P := P) (w := w) e2 (hop _ _ (by simp [Op.operands]) hu)
    exact OS.of_VS (VS.pure s (.scal h2) h1)
  | convert src dst x =>
    rw [hO] at e hop
    replace e : opConvert src dst x A env h = some (v, h') := e
    unfold opConvert at e
    split at e
    case h_2 => cases e
    rename_i u ds dd hu hs hd
    exact OS.of_VS (convert_VS T s hs hd e (hop _ _ (by simp [Op.operands]) hu))
  | makeInterface t x =>
    rw [hO] at e hop
    replace e : opMakeIface t x A env h = some (v, h') := e
    unfold opMakeIface at e
    split at e
    case h_2 => cases e
    rename_i u d hu hd
    split at e
    · cases e
    · rename_i hif
      cases e
      have hund := T.desc hd
      refine OS.of_VS (VS.pure s (.iface (hop _ _ (by simp [Op.operands]) hu)) ?_)
      cases d <;> first | (cases hif; done) | simp [Instr.makeInterface, run_underlying hund]
  | makeFunc fn first cap =>
    rw [hO] at e hop
    replace e : opMakeFunc fn first cap A env h = some (v, h') := e
    unfold opMakeFunc at e
    split at e
    case h_2 => cases e
    rename_i p q f hp hq
    cases e
    have h1 := opnds_VR _ _ (fun x u hx => hop x u (by simp [Op.operands]; exact .inl (by simpa using hx))) hp
    have h2 := opnds_VR _ _ (fun x u hx => hop x u (by simp [Op.operands]; exact .inr (by simpa using hx))) hq
    have hv := VR.func' (.func f) h1 h2
    have e1 : ∀ (r : Array Operand), (⟨r.toList.map ρ⟩ : Array Value) = r.map ρ := fun r => by apply Array.ext'; simp
    rw [e1, e1] at hv
    exact OS.of_VS (VS.pure s hv rfl)
  | makeMap t r =>
    rw [hO] at e hop
    replace e : opMakeMap t r A env h = some (v, h') := e
    unfold opMakeMap at e
    split at e
    case h_2 => cases e
    split at e
    case h_2 => cases e
    rename_i nb h2 hn
    cases e
    exact OS.of_VS (newMap_VS s hn)
  | makeSlice t l c =>
    rw [hO] at e hop
    replace e : opMakeSlice t l c A env h = some (v, h') := e
    unfold opMakeSlice at e
    split at e
    case h_2 => cases e
    rename_i el l0 c0 hd hl hc
    have h1 := (hop _ _ (by simp [Op.operands]) hl).inv_int
    have h2 := (hop _ _ (by simp [Op.operands]) hc).inv_int
    dsimp only
    rw [h1, h2]
    exact OS.of_VS (makeSlice_VS T s hd e)
  | slice t x lo hi mx =>
    rw [hO] at e hop
    replace e : opSlice t x lo hi mx A env h = some (v, h') := e
    unfold opSlice at e
    split at e
    case h_2 => cases e
    split at e
    case h_2 => cases e
    rename_i u lo0 hi0 d hu hlo hhi hd
    exact OS.of_VS (slice_VS T s hd e (hop _ _ (by simp [Op.operands]) hu) (optOpnd_OVR (fun y u hy => hop y u (by simp [Op.operands]; exact .inr (.inl (by simpa using hy)))) hlo) (optOpnd_OVR (fun y u hy => hop y u (by simp [Op.operands]; exact .inr (.inr (by simpa using hy)))) hhi))
  | fieldAddr st x f =>
    rw [hO] at e hop
    replace e : opFieldAddr st x f A env h = some (v, h') := e
    unfold opFieldAddr at e
    split at e
    case h_2 => cases e
    rename_i fs b o hd hu
    exact OS.of_VS (fieldAddr_VS T s hd e (hop _ _ (by simp [Op.operands]) hu))
  | field t x f =>
    rw [hO] at e hop
    replace e : opField t x f A env h = some (v, h') := e
    unfold opField at e
    split at e
    case h_2 => cases e
    rename_i fs cs hd hu
    split at e
    case h_2 => cases e
    rename_i fd hf
    obtain ⟨rfl, e2⟩ := withH_some e
    exact OS.of_VS (VS.of_val s (field_VS T hd hf e2 (hop _ _ (by simp [Op.operands]) hu)))
  | indexAddr t x ix =>
    rw [hO] at e hop
    replace e : opIndexAddr t x ix A env h = some (v, h') := e
    unfold opIndexAddr at e
    split at e
    case h_2 => cases e
    rename_i d u k n hd hu hix
    have h1 := (hop _ _ (by simp [Op.operands]) hix).inv_int
    dsimp only
    rw [h1]
    exact OS.of_VS (indexAddr_VS T s hd e (hop _ _ (by simp [Op.operands]) hu))
  | index t x ix =>
    rw [hO] at e hop
    replace e : opIndex t x ix A env h = some (v, h') := e
    unfold opIndex at e
    split at e
    case h_2 => cases e
    rename_i d u k n hd hu hix
    have h1 := (hop _ _ (by simp [Op.operands]) hix).inv_int
    dsimp only
    rw [h1]
    exact OS.of_VS (index_VS T s hd e (hop _ _ (by simp [Op.operands]) hu))
  | lookup t x ix ok =>
    rw [hO] at e hop
    replace e : opLookup t x ix ok A env h = some (v, h') := e
    unfold opLookup at e
    split at e
    case h_2 => cases e
    rename_i k el m key hd hm hk
    exact OS.of_VS (lookup_VS T s hd e (hop _ _ (by simp [Op.operands]) hm) _ (hop _ _ (by simp [Op.operands]) hk))
  | mapUpdate t m k x =>
    rw [hO] at e hop
    replace e : opMapUpdate t m k x A env h = some (v, h') := e
    unfold opMapUpdate at e
    split at e
    case h_2 => cases e
    rename_i kt el r key u hd hm hk hu
    obtain ⟨rfl, w', h1, h2⟩ := mapUpdate_VS T s hd e (hop _ _ (by simp [Op.operands]) hm) (hop _ _ (by simp [Op.operands]) hk) (hop _ _ (by simp [Op.operands]) hu)
    exact OS.of_unit h1 h2
  | insert t m k x =>
    rw [hO] at e hop
    replace e : opMapUpdate t m k x A env h = some (v, h') := e
    unfold opMapUpdate at e
    split at e
    case h_2 => cases e
    rename_i kt el r key u hd hm hk hu
    obtain ⟨rfl, w', h1, h2⟩ := mapUpdate_VS T s hd e (hop _ _ (by simp [Op.operands]) hm) (hop _ _ (by simp [Op.operands]) hk) (hop _ _ (by simp [Op.operands]) hu)
    exact OS.of_unit h1 h2
  | extract t ix =>
    rw [hO] at e hop
    replace e : opExtract t ix A env h = some (v, h') := e
    unfold opExtract at e
    split at e
    case h_2 => cases e
    rename_i vs hu
    obtain ⟨rfl, e2⟩ := withH_some e
    exact OS.of_VS (VS.of_val s (extract_VS (hop _ _ (by simp [Op.operands]) hu) e2))
  | call c =>
    rw [hO] at e hop
    replace e : opCall c A env h = some (v, h') := e
    unfold opCall at e
    cases hb : c.callee with
    | value f => rw [hb] at e; cases e
    | invoke r n => rw [hb] at e; cases e
    | builtin b =>
    rw [hb] at e
    replace e : opBuiltin b c.args c.argTypes A env h = some (v, h') := e
    unfold opBuiltin at e
    split at e
    case h_2 => cases e
    rename_i vs hvs
    have h1 := builtin_VS T s (ty := o.type) (consts := c.args.map fun | .const _ => true | _ => false) e (opnds_VR _ _ (fun x u hx => hop x u (by simp [Op.operands, Call.operands, hb]; simpa using hx)) hvs)
    have e1 : (c.args.toList.map ρ).toArray = c.args.map ρ := by apply Array.ext'; simp
    rw [e1] at h1
    obtain ⟨j, v', w', nx, g1, g2⟩ := h1
    refine ⟨j, v', w', nx, ?_, g2⟩
    simp only [resolve, hb, Sem.run_bind, Sem.run_pure, Result.andThen_ok, invoke]
    exact g1
  | _ => rw [hO] at e; cases e
end
end Go.Ev

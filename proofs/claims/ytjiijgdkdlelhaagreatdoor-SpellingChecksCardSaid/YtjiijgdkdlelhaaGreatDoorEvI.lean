/- The evaluator Ev: conversions between strings and bytes; append, copy and the other built-ins. -/
import Derived.Test.YtjiijgdkdlelhaaGreatDoorEvH
import Derived.Laws.IdiomStrings
import Derived.Deep.AppendSrc
namespace Go.Ev
open Go.RowKit Go.Lib

section
variable {P : Program} {A : Tab} {B : Nat} {w₀ : World} {i : Im} {h h' : Hp} {w : World} {v : Value}

theorem isU8_some {e : TypeId} (T : TabOk P A) (h : isU8 A e = true) : P.underlying e = some (.int .u8) := by
  unfold isU8 at h
  split at h
  · rename_i hd; exact T.desc hd
  · cases h

theorem byteCells_LR (i : Im) (bs : List UInt8) : LR i (byteCells bs) (byteCells bs) := LR.scals _ (by
  induction bs with
  | nil => rfl
  | cons b bs ih => simp [byteCells, Ev.scal])

theorem strBytes_VS (T : TabOk P A) (s : SR B w₀ i h w) {src dst e : TypeId} {str : ByteArray} (hs : A.desc src = some .string) (hd : A.desc dst = some (.slice e)) (hu : isU8 A e = true)
    (he : newSl h 1 (byteCells str.data.toList) str.data.toList.length = some (v, h')) : VS P B w₀ i h' w v (convert src dst (.string str)) := by
  unfold newSl at he
  split at he
  · rename_i nb h1 hn
    cases he
    have hrun := Go.Lib.run_convert_string_bytes (P := P) w src dst e str (T.desc hs) (T.desc hd) (isU8_some T hu)
    have sd : SR B w₀ i h w.drew := s.drew
    have hsz : w.drew.heap.size = w.heap.size := rfl
    have hcap : str.size ≤ grownCap w str.size 0 e := Nat.le_add_right str.size _
    have hC : (bytesCells w e str).size = grownCap w str.size 0 e := by
      unfold bytesCells
      simp
      have : str.data.size = str.size := rfl
      omega
    have hCl : (bytesCells w e str).toList = byteCells str.data.toList ++ List.replicate (grownCap w str.size 0 e - str.size) (.int .u8 0) := by
      unfold bytesCells byteCells; simp
    have hcell : ∀ k, (w.drew.alloc (.cells (bytesCells w e str) e ((bytesCells w e str).size, (bytesCells w e str).size + 1))).cell? ⟨w.heap.size, k, none⟩ = (bytesCells w e str)[k]? := fun k => World.cell?_alloc_mark w.drew _ _ _ k
    have hfr : ∀ k, k < (bytesCells w e str).size → (w.drew.alloc (.cells (bytesCells w e str) e ((bytesCells w e str).size, (bytesCells w e str).size + 1))).frozen? ⟨w.heap.size, k, none⟩ = false := fun k hk => by
      refine (World.frozen?_alloc_mark w.drew _ _ _ _ k).trans ?_
      have : ¬ (bytesCells w e str).size ≤ k := by omega
      simp [this]
    obtain ⟨hnb, hel, _⟩ := Hp.new_some hn
    have hs1 := sd.new hn (.cells (bytesCells w e str) e ((bytesCells w e str).size, (bytesCells w e str).size + 1)) (bytesCells w e str).size
      ⟨byteCells str.data.toList, byteCells_LR _ _, fun k u hk => by
        show World.cell? _ ⟨w.heap.size, 0 + k, none⟩ = some u
        rw [Nat.zero_add, hcell, ← Array.getElem?_toList, hCl, List.getElem?_append_left (List.getElem?_eq_some_iff.1 hk).1]
        exact hk, by
        have : (byteCells str.data.toList).length = str.size := by simp [byteCells]
        show (byteCells str.data.toList).length ≤ (bytesCells w e str).size
        omega, fun _ => ⟨s.size, fun k hk => by
        show (World.cell? _ ⟨w.heap.size, 0 + k, none⟩).isSome = true ∧ World.frozen? _ ⟨w.heap.size, 0 + k, none⟩ = false
        have hk' : k < (bytesCells w e str).size := hk
        rw [Nat.zero_add, hcell, hfr k hk']
        simp [hk']⟩, fun er => by cases er⟩
    have hheap : (bytesWorld w e str).heap = (w.drew.alloc (.cells (bytesCells w e str) e ((bytesCells w e str).size, (bytesCells w e str).size + 1))).heap := by
      apply Array.ext_getElem?
      intro k
      show _ = (w.heap.push _)[k]?
      rw [Array.getElem?_push]
      by_cases h1 : k = w.heap.size
      · subst h1; rw [if_pos rfl, bytesWorld_at_new]
      · rw [if_neg h1]
        by_cases h2 : k < w.heap.size
        · exact bytesWorld_at_old w e str k h2
        · rw [Array.getElem?_eq_none (by rw [bytesWorld_size]; omega), Array.getElem?_eq_none (by omega)]
    have hbel : Below B w₀ (bytesWorld w e str) := ⟨hs1.below.os, hs1.below.tape, hs1.below.output, by rw [hheap]; exact hs1.below.size, fun k hk => by rw [hheap]; exact hs1.below.block k hk⟩
    have hlen : str.data.toList.length = str.size := by simp
    refine ⟨_, _, _, hrun, Im.le_set (by rw [hnb]; exact s.none _), ?_, hs1.heap hheap hbel⟩
    rw [hlen]
    refine VR.slice (x := 0) (Im.set_self _ _ _) (Nat.le_refl _) hcap (.inr ⟨rfl, .inr ?_⟩)
    rw [hnb, elOf_num h hel]
    show 0 + grownCap w str.size 0 e * elFor 1 ≤ (bytesCells w e str).size
    have : elFor 1 = 1 := rfl
    rw [this]
    omega
  · cases he

theorem convert_VS (T : TabOk P A) (s : SR B w₀ i h w) {src dst : TypeId} {ds dd : TypeDesc} {x x' : Value} (hs : A.desc src = some ds) (hd : A.desc dst = some dd) (e : cvGo A h ds dd x = some (v, h')) (hx : VR i x x') : VS P B w₀ i h' w v (convert src dst x') := by
  have us := T.desc hs
  have ud := T.desc hd
  unfold cvGo at e
  split at e
  · obtain rfl := hx.inv_int
    split at e
    · obtain ⟨rfl, e2⟩ := withH_some e
      simp only [someI, wrapI_eq, Option.some.injEq] at e2
      subst e2
      exact VS.pure s (.scal rfl) (by simp [convert, run_underlying us, run_underlying ud, Conv.intToInt])
    · cases e
  · obtain rfl := hx.inv_string
    split at e
    · unfold cvStr at e
      split at e
      · cases e
        exact VS.pure s (.scal rfl) (by simp [convert, run_underlying us, run_underlying ud])
      · split at e
        · rename_i hok
          rw [Bool.and_eq_true] at hok
          exact strBytes_VS T s hs hd hok.1 e
        · cases e
      · cases e
    · cases e
  · rename_i base n c
    split at e
    · unfold cvBytes at e
      split at e
      · rename_i el
        split at e
        · rename_i hu
          have he := isU8_some (P := P) T hu
          split at e
          · obtain rfl := hx.inv_nilSlice
            cases e
            refine VS.pure s (.scal rfl) ?_
            rw [run_convert_bytes_string w src dst el none n c us he ud]
            simp [Conv.bytesToString]
            rfl
          · rename_i b o
            obtain ⟨_, _, cb, off, own, xx, c', hb, hi, hnc, hc, hxx, rfl⟩ := hx.inv_slice
            cases hb
            split at e
            · cases e
              refine VS.pure s (.scal rfl) ?_
              rw [run_convert_bytes_string w src dst el _ _ _ us he ud, run_bytesToString w _ 0 c' [] (by rfl)]
              rfl
            · rename_i n
              unfold strOf at e
              split at e
              · rename_i cs hcs
                split at e
                · rename_i bs hbs
                  cases e
                  obtain ⟨vs, hl, hr, hlen⟩ := cells_VS s hcs hi
                  obtain ⟨ns, rfl, rfl⟩ := bytesOf_some _ _ hbs
                  obtain rfl := LR.ints ns vs hl
                  have hx0 : xx = off + o := by rcases hxx with h | h <;> omega
                  subst hx0
                  have hload := run_loadCells' (P := P) hr
                  rw [hlen] at hload
                  refine VS.pure s (v' := .string ⟨⟨ns.map fun n => UInt8.ofNat n.toNat⟩⟩) (.scal rfl) ?_
                  rw [run_convert_bytes_string w src dst el _ _ _ us he ud, run_bytesToString w _ (n + 1) c' ns hload]
                  congr 2
                  apply bytes_inj'
                  rw [foldl_push]
                  simp
                · cases e
              · cases e
          · cases e
        · cases e
      · cases e
    · cases e
  · cases e

/-! ### append -/
theorem growBy_le (need : Nat) : ∀ (r c : Nat), c ≤ 2 * need + 200 → Builtin.growBy need r c ≤ 2 * need + 200 := by
  intro r
  induction r with
  | zero => intro c h; exact h
  | succ r ih =>
    intro c h
    unfold Builtin.growBy
    split
    · exact h
    · exact ih _ (by omega)
theorem nextcap_le {need c : Nat} (h : c < need) : Builtin.nextslicecap need c ≤ 2 * need + 2000 := by
  unfold Builtin.nextslicecap
  split
  · omega
  · split
    · omega
    · have := growBy_le need 4 c (by omega); omega

theorem zeroCells_toList (z : Array Value) (n : Nat) : (Builtin.zeroCells z n).toList = repL n z.toList := zeros_toList z n _ rfl

/-- What the second operand of an append brings, in the model. -/
structure Src2 (P : Program) (e tx : TypeId) (ie : TypeInfo) (x : Value) (n : Nat) (news : List Value) (w : World) : Prop where
  kind : (∃ d, P.underlying tx = some d ∧ isIntD d = false ∧ (∀ w' : World, (Builtin.lenOf x).run P w' = .ok n w') ∧ ∀ w' : World, w'.heap = w.heap → (Builtin.firstCells ie.size n x).run P w' = .ok news.toArray w') ∨
    (∃ k k' zv, P.underlying tx = some (.int k) ∧ x = .int k' (n : Int) ∧ n < 1000000000000 ∧ n * ie.bytes ≤ 100000000000000 ∧ ie.zero = some zv ∧ news.toArray = Builtin.zeroCells zv.cells n)
  newsLen : news.length = n * ie.size
  one : ∀ u ∈ news, u.oneCell' = true

theorem scal_one : ∀ (l : List Value), l.all scal = true → l.all Ev.one = true := by
  intro l
  induction l with
  | nil => intro _; rfl
  | cons x xs ih =>
    intro h
    simp only [List.all_cons, Bool.and_eq_true] at h ⊢
    refine ⟨?_, ih h.2⟩
    cases x <;> first | rfl | exact h.1
theorem all_repL {p : Value → Bool} (l : List Value) (h : l.all p = true) (n : Nat) : (repL n l).all p = true := by
  induction n with
  | zero => rfl
  | succ n ih => simp only [repL, List.all_append, h, ih, Bool.and_self]

theorem src_VS (T : TabOk P A) (s : SR B w₀ i h w) {e tx : TypeId} {dx : TypeDesc} {ie : TypeInfo} {de : TypeDesc} {x x' : Value} {m : Nat} {new : List Value} (he : A.ty.get e = some (ie, de)) (ht : A.desc tx = some dx)
    (hsrc : srcCells A h ie.size ie.bytes e (isIntD dx) x = some (m, new)) (hx : VR i x x') : ∃ new', LR i new new' ∧ Src2 P e tx ie x' m new' w := by
  obtain ⟨hinfo, _⟩ := T.ty _ _ _ he
  have hund := T.desc ht
  unfold srcCells at hsrc
  cases hz : isIntD dx with
  | true =>
    rw [hz] at hsrc
    dsimp only at hsrc
    have hk : ∃ k, dx = .int k := by cases dx <;> first | exact ⟨_, rfl⟩ | cases hz
    obtain ⟨k, rfl⟩ := hk
    split at hsrc
    · rename_i k' m0
      obtain rfl := hx.inv_int
      unfold srcZeros at hsrc
      split at hsrc
      · rename_i hok
        rw [Bool.and_eq_true] at hok
        have h1 := of_blt hok.1
        have h2 := of_ble hok.2
        split at hsrc
        · rename_i z hzz
          cases hsrc
          obtain ⟨ti, zv, hinfo', hzv, rfl, hsc, hzl⟩ := T.zero hzz
          rw [hinfo] at hinfo'
          cases hinfo'
          have hl := (LR.scals (i := i) _ hsc).repL m
          refine ⟨repL m zv.cells.toList, hl, .inr ⟨k, k', zv, hund, rfl, h1, h2, hzv, ?_⟩, by rw [repL_length, hzl], hl.one ?_⟩
          · apply Array.ext'
            rw [zeroCells_toList]
          · exact all_repL _ (scal_one _ hsc) m
        · cases hsrc
      · cases hsrc
    · cases hsrc
  | false =>
    rw [hz] at hsrc
    dsimp only at hsrc
    split at hsrc
    · cases hsrc
      obtain rfl := hx.inv_nilSlice
      exact ⟨[], LR.nil i, .inl ⟨dx, hund, hz, fun _ => rfl, fun _ _ => rfl⟩, by simp, fun _ hu => by cases hu⟩
    · rename_i b o n c
      obtain ⟨_, _, cb, off, own, xx, c', hb, hi, hnc, hc, hxx, rfl⟩ := hx.inv_slice
      cases hb
      unfold srcSlice at hsrc
      split at hsrc
      · cases hsrc
        exact ⟨[], LR.nil i, .inl ⟨dx, hund, hz, fun _ => rfl, fun w' _ => by simp [Builtin.firstCells, loadCells, loadCellsFrom]⟩, by simp, fun _ hu => by cases hu⟩
      · rename_i n
        split at hsrc
        · rename_i cs hcs
          split at hsrc
          case h_2 => cases hsrc
          rename_i hone
          cases hsrc
          obtain ⟨vs, hl, hr, hlen⟩ := cells_VS s hcs hi
          have hx0 : xx = off + o := by rcases hxx with h | h <;> omega
          subst hx0
          refine ⟨vs, hl, .inl ⟨dx, hund, hz, fun _ => rfl, fun w' hw' => ?_⟩, hlen, hl.one hone⟩
          have hr' : w'.rangeAt cb (off + o) vs := fun k u hk => by
            have := hr k u hk
            simpa [World.cell?, hw'] using this
          have := run_loadCells' (P := P) hr'
          rw [hlen] at this
          exact this
        · cases hsrc
    · obtain rfl := hx.inv_string
      rename_i str
      split at hsrc
      · rename_i hsz
        have hsz := of_beq hsz
        cases hsrc
        have hl := byteCells_LR i str.data.toList
        refine ⟨_, hl, .inl ⟨dx, hund, hz, fun _ => rfl, fun w' _ => ?_⟩, ?_, hl.one ?_⟩
        · rw [hsz]
          have := firstCells_string (P := P) str w'
          exact this
        · simp [byteCells, hsz]
        · rw [List.all_eq_true]
          intro u hu
          unfold byteCells at hu
          obtain ⟨_, _, rfl⟩ := List.mem_map.1 hu
          rfl
      · cases hsrc
    · cases hsrc

theorem run_append_room2 (w : World) {t tx ty e : TypeId} {ie : TypeInfo} {x : Value} {n : Nat} {news : List Value} (ht : P.underlying t = some (.slice e)) (hi : P.info? e = some ie) (hs : Src2 P e tx ie x n news w) (rest : List TypeId) (b o sLen sCap : Nat)
    (hroom : sLen + n ≤ sCap) (hc : w.there b (o + sLen * ie.size) news.length) :
    (Builtin.append_ (t :: tx :: rest).toArray ty #[.slice (some ⟨b, o, none⟩) sLen sCap, x]).run P w = .ok (.slice (some ⟨b, o, none⟩) (sLen + n) sCap) (w.setCells b (o + sLen * ie.size) news) := by
  have hst := run_storeCells_cells (P := P) b (o + sLen * ie.size) news 0 w (fun j hj => (hc j hj).1) (fun j hj => (hc j hj).2) hs.one
  simp only [Nat.add_zero] at hst
  rcases hs.kind with ⟨d, hd, hz, h1, h2⟩ | ⟨k, k', zv, hk, rfl, h1, h2, h3, h4⟩
  · have h2' := h2 w rfl
    simp only [Builtin.append_, Sem.run_bind, run_underlying ht, run_underlying hd, Result.andThen_ok, List.getElem?_toArray, List.getElem?_cons_succ, List.getElem?_cons_zero]
    show ((sizeOf e).run P w).andThen (fun a w' => ((pure (isIntD d) : Sem Bool).run P w').andThen _) = _
    rw [hz]
    simp only [run_sizeOf' w hi, Sem.run_pure, Result.andThen_ok, Bool.false_eq_true, if_false, h1, hroom, if_true, Sem.run_bind, Bool.not_false, h2', Addr.add_lit, hst]
  · have wn := wrap_nat n h1
    have hb : ¬ ((n : Int) * (ie.bytes : Int) > 2 ^ 48) := by
      have e2 : (2 : Int) ^ 48 = 281474976710656 := by decide
      rw [← Int.natCast_mul, e2]
      omega
    have hn0 : ¬ ((n : Int) < 0) := by omega
    have hnl := hs.newsLen
    by_cases h0 : n * ie.size = 0
    · have : news = [] := List.eq_nil_of_length_eq_zero (by omega)
      subst this
      simp only [Builtin.append_, Sem.run_bind, run_underlying ht, run_underlying hk, Result.andThen_ok, List.getElem?_toArray, List.getElem?_cons_succ, List.getElem?_cons_zero, run_sizeOf' w hi, Sem.run_pure, if_true, asInt, asIntOf, wn, hn0, if_false, run_typeInfo' w hi, hb, Int.toNat_natCast, hroom, Bool.not_true, Bool.false_eq_true, h0, Addr.add_lit, hst]
    · have hzc : (Builtin.zeroCells zv.cells n).toList = news := by rw [← h4]
      simp only [Builtin.append_, Sem.run_bind, run_underlying ht, run_underlying hk, Result.andThen_ok, List.getElem?_toArray, List.getElem?_cons_succ, List.getElem?_cons_zero, run_sizeOf' w hi, Sem.run_pure, if_true, asInt, asIntOf, wn, hn0, if_false, run_typeInfo' w hi, hb, Int.toNat_natCast, hroom, Bool.not_true, Bool.false_eq_true, h0, Addr.add_lit, run_zero' w hi h3, hzc, hst]

theorem run_append_grow2 (w : World) {t tx ty e : TypeId} {ie : TypeInfo} {zv x : Value} {n : Nat} {news olds : List Value} (ht : P.underlying t = some (.slice e)) (hi : P.info? e = some ie) (hzv : ie.zero = some zv) (hs : Src2 P e tx ie x n news w) (rest : List TypeId) (base : Option Addr) (sLen sCap : Nat)
    (hroom : ¬ sLen + n ≤ sCap) (hold : (Builtin.firstCells ie.size sLen (.slice base sLen sCap)).run P w.drew = .ok olds.toArray w.drew) (hlt : sLen + n < 1000000000000) (hbytes : ie.bytes ≠ 0) (hfit : Builtin.nextslicecap (sLen + n) sCap * ie.bytes ≤ 100000000000000) :
    (Builtin.append_ (t :: tx :: rest).toArray ty #[.slice base sLen sCap, x]).run P w =
      .ok (.slice (some ⟨w.heap.size, 0, none⟩) (sLen + n) (grownCap w (sLen + n) sCap e)) (w.drew.alloc (.cells (olds.toArray ++ news.toArray ++ Builtin.zeroCells zv.cells (grownCap w (sLen + n) sCap e - (sLen + n))) e)) := by
  have h63 : ¬ (((sLen + n : Nat) : Int) > IntKind.i64.max) := by
    have : IntKind.i64.max = 9223372036854775807 := by decide
    rw [this]; omega
  have e2 : (2 : Nat) ^ 48 = 281474976710656 := by decide
  have h48 : ¬ (Builtin.nextslicecap (sLen + n) sCap * ie.bytes > 2 ^ 48) := by rw [e2]; omega
  have hq : (choose (.appendCap (sLen + n) sCap e)).run P w = .ok (grownCap w (sLen + n) sCap e) w.drew := by
    rw [run_choose]; rfl
  rcases hs.kind with ⟨d, hd, hz, h1, h2⟩ | ⟨k, k', zv', hk, rfl, h1, h2, h3, h4⟩
  · have h2' := h2 w.drew rfl
    simp only [Builtin.append_, Sem.run_bind, run_underlying ht, run_underlying hd, Result.andThen_ok, List.getElem?_toArray, List.getElem?_cons_succ, List.getElem?_cons_zero]
    show ((sizeOf e).run P w).andThen (fun a w' => ((pure (isIntD d) : Sem Bool).run P w').andThen _) = _
    rw [hz]
    simp only [run_sizeOf' w hi, Sem.run_pure, Result.andThen_ok, Bool.false_eq_true, if_false, h1, hroom, if_true, Sem.run_bind, Bool.not_false, h63, false_and, run_typeInfo' w hi, h48, hq, run_typeInfo' w.drew hi, run_askRoom, hold, h2', run_zero' w.drew hi hzv]
    rfl
  · have wn := wrap_nat n h1
    rw [h3] at hzv
    cases hzv
    have hb : ¬ ((n : Int) * (ie.bytes : Int) > 2 ^ 48) := by
      have e2 : (2 : Int) ^ 48 = 281474976710656 := by decide
      rw [← Int.natCast_mul, e2]
      omega
    have hn0 : ¬ ((n : Int) < 0) := by omega
    have hnl := hs.newsLen
    by_cases h0 : n * ie.size = 0
    · have : news = [] := List.eq_nil_of_length_eq_zero (by omega)
      subst this
      simp only [Builtin.append_, Sem.run_bind, run_underlying ht, run_underlying hk, Result.andThen_ok, List.getElem?_toArray, List.getElem?_cons_succ, List.getElem?_cons_zero, run_sizeOf' w hi, Sem.run_pure, if_true, asInt, asIntOf, wn, hn0, if_false, run_typeInfo' w hi, hb, Int.toNat_natCast, hroom, Bool.not_true, Bool.false_eq_true, h0, h63, false_and, h48, hq, run_typeInfo' w.drew hi, run_askRoom, hold, run_zero' w.drew hi h3]
      rfl
    · simp only [Builtin.append_, Sem.run_bind, run_underlying ht, run_underlying hk, Result.andThen_ok, List.getElem?_toArray, List.getElem?_cons_succ, List.getElem?_cons_zero, run_sizeOf' w hi, Sem.run_pure, if_true, asInt, asIntOf, wn, hn0, if_false, run_typeInfo' w hi, hb, Int.toNat_natCast, hroom, Bool.not_true, Bool.false_eq_true, h0, h63, false_and, h48, hq, run_typeInfo' w.drew hi, run_askRoom, hold, run_zero' w.drew hi h3, ← h4]
      rfl

theorem run_append_nil2 (w : World) {t tx ty e : TypeId} {ie : TypeInfo} {x : Value} (ht : P.underlying t = some (.slice e)) (hi : P.info? e = some ie) (hs : Src2 P e tx ie x 0 [] w) (rest : List TypeId) (sLen sCap : Nat) (hroom : sLen ≤ sCap) :
    (Builtin.append_ (t :: tx :: rest).toArray ty #[.slice none sLen sCap, x]).run P w = .ok (.slice none sLen sCap) w := by
  have hroom' : sLen + 0 ≤ sCap := hroom
  rcases hs.kind with ⟨d, hd, hz, h1, h2⟩ | ⟨k, k', zv, hk, rfl, h1, h2, h3, h4⟩
  · have h2' := h2 w rfl
    simp only [Builtin.append_, Sem.run_bind, run_underlying ht, run_underlying hd, Result.andThen_ok, List.getElem?_toArray, List.getElem?_cons_succ, List.getElem?_cons_zero]
    show ((sizeOf e).run P w).andThen (fun a w' => ((pure (isIntD d) : Sem Bool).run P w').andThen _) = _
    rw [hz]
    simp only [run_sizeOf' w hi, Sem.run_pure, Result.andThen_ok, Bool.false_eq_true, if_false, h1, hroom', if_true, Sem.run_bind, Bool.not_false, h2']
    rfl
  · have wn := wrap_nat 0 h1
    have hb : ¬ (((0 : Nat) : Int) * (ie.bytes : Int) > 2 ^ 48) := by simp
    have hn0 : ¬ (((0 : Nat) : Int) < 0) := by omega
    have h0 : 0 * ie.size = 0 := Nat.zero_mul _
    simp only [Builtin.append_, Sem.run_bind, run_underlying ht, run_underlying hk, Result.andThen_ok, List.getElem?_toArray, List.getElem?_cons_succ, List.getElem?_cons_zero, run_sizeOf' w hi, Sem.run_pure, if_true, asInt, asIntOf, wn, hn0, if_false, run_typeInfo' w hi, hb, Int.toNat_natCast, hroom', Bool.not_true, Bool.false_eq_true, h0]
    rfl

theorem grown_VS (s : SR B w₀ i h w) {e : TypeId} {sz n m : Nat} {cs olds' news new' : List Value} {zv : Value} (hsl : newSl h sz (cs ++ news) (n + m) = some (v, h')) (hl1 : LR i cs olds') (hl2 : LR i news new') (h1 : cs.length = n * sz) (h2 : news.length = m * sz) (hz : zv.cells.toList.length = sz) {X : Sem Value} {sCap : Nat}
    (hX : X.run P w = .ok (.slice (some ⟨w.heap.size, 0, none⟩) (n + m) (grownCap w (n + m) sCap e)) (w.drew.alloc (.cells (olds'.toArray ++ new'.toArray ++ Builtin.zeroCells zv.cells (grownCap w (n + m) sCap e - (n + m))) e))) : VS P B w₀ i h' w v X := by
  have sd : SR B w₀ i h w.drew := s.drew
  have hge := grownCap_ge w (n + m) sCap e
  obtain ⟨j, v', w', g1, g2⟩ := newSl_VS (P := P) sd (n' := grownCap w (n + m) sCap e) e hsl (hl1.append hl2) (Builtin.zeroCells zv.cells (grownCap w (n + m) sCap e - (n + m))).toList hge (by
    rw [List.length_append, List.length_append, ← hl1.1, ← hl2.1, h1, h2, zeroCells_toList, repL_length, hz, ← Nat.add_mul, ← Nat.add_mul]
    exact Nat.mul_le_mul_right _ (by omega))
  refine ⟨j, v', w', ?_, g2⟩
  rw [hX, ← g1]
  have ha : (⟨olds' ++ new' ++ (Builtin.zeroCells zv.cells (grownCap w (n + m) sCap e - (n + m))).toList⟩ : Array Value) = olds'.toArray ++ new'.toArray ++ Builtin.zeroCells zv.cells (grownCap w (n + m) sCap e - (n + m)) := by
    apply Array.ext'
    simp
  rw [ha]
  rfl

theorem append_VS (T : TabOk P A) (s : SR B w₀ i h w) {ts0 ts1 ty e : TypeId} {d1 : TypeDesc} {base : Option Addr} {n c : Nat} {x b' x' : Value} (h0 : A.desc ts0 = some (.slice e)) (h1 : A.desc ts1 = some d1)
    (he : apElem A h e (isIntD d1) base n c x = some (v, h')) (hb : VR i (.slice base n c) b') (hx : VR i x x') (rest : List TypeId) : VS P B w₀ i h' w v (Builtin.append_ (ts0 :: ts1 :: rest).toArray ty #[b', x']) := by
  have u0 := T.desc h0
  unfold apElem at he
  split at he
  case h_2 => cases he
  rename_i ie de hty
  obtain ⟨hinfo, _, hzero, _⟩ := T.ty _ _ _ hty
  split at he
  case h_2 => cases he
  rename_i m new hsrc
  obtain ⟨new', hl, hs⟩ := src_VS T s hty h1 hsrc hx
  have hnl := hs.newsLen
  have hll := hl.1
  unfold apGo at he
  split at he
  · rename_i hroom
    have hroom := of_ble hroom
    unfold apIn at he
    split at he
    · rename_i b o
      obtain ⟨_, _, cb, off, own, xx, c', hb', hi, hnc, hc, hxx, rfl⟩ := hb.inv_slice
      cases hb'
      split at he
      · cases he
        have : new' = [] := List.eq_nil_of_length_eq_zero (by omega)
        subst this
        refine VS.pure s hb ?_
        exact run_append_room2 w u0 hinfo hs rest cb xx n c' (by omega) (fun k hk => by simp at hk)
      · rename_i m
        split at he
        case h_2 => cases he
        rename_i h2 hput
        cases he
        have hx0 : xx = off + o := by rcases hxx with h | h <;> omega
        subst hx0
        obtain ⟨hs1, hth⟩ := s.put hput hi hl
        rw [show off + (o + n * ie.size) = off + o + n * ie.size by omega] at hs1 hth
        exact ⟨i, _, _, run_append_room2 w u0 hinfo hs rest cb (off + o) n c' (by omega) hth, Im.le_refl i, VR.slice hi hroom hc hxx, hs1⟩
    · cases he
    · split at he
      · cases he
        obtain rfl := hb.inv_nilSlice
        have : new' = [] := List.eq_nil_of_length_eq_zero (by omega)
        subst this
        exact VS.pure s hb (run_append_nil2 w u0 hinfo hs rest 0 0 (Nat.le_refl _))
      · cases he
  · rename_i hroom
    have hroom := of_ble_false hroom
    split at he
    case h_2 => cases he
    rename_i hfit
    rw [Bool.and_eq_true] at hfit
    obtain ⟨hfit, hzs⟩ := hfit
    obtain ⟨zv, hzv⟩ := Option.isSome_iff_exists.1 hzs
    obtain ⟨hsc, hzl⟩ := hzero zv hzv
    unfold apFits at hfit
    simp only [Bool.and_eq_true] at hfit
    obtain ⟨⟨f1, f2⟩, f3⟩ := hfit
    have f1 := of_ble f1
    have f2 := of_blt f2
    have f3 := of_blt f3
    have fit : ∀ c', ¬ n + m ≤ c' → Builtin.nextslicecap (n + m) c' * ie.bytes ≤ 100000000000000 := fun c' hc' =>
      Nat.le_trans (Nat.mul_le_mul_right _ (nextcap_le (by omega))) f1
    unfold apOut at he
    split at he
    · split at he
      case h_2 => cases he
      obtain rfl := hb.inv_nilSlice
      have hX := run_append_grow2 (P := P) (ty := ty) w u0 hinfo hzv hs rest none 0 c hroom (olds := []) rfl f2 (by omega) (fit c hroom)
      exact grown_VS s (cs := []) (n := 0) (by simpa using he) (LR.nil i) hl (by simp) (by omega) hzl hX
    · rename_i b o
      obtain ⟨_, _, cb, off, own, xx, c', hb', hi, hnc, hc, hxx, rfl⟩ := hb.inv_slice
      cases hb'
      split at he
      case h_2 => cases he
      rename_i cs hg
      unfold apOld at he
      split at he
      case h_2 => cases he
      rename_i hok
      simp only [Bool.and_eq_true] at hok
      obtain ⟨⟨k1, k2⟩, k3⟩ := hok
      have k1 := of_ble k1
      have k2 := of_beq k2
      have k3 := of_blt k3
      by_cases hin : n + m ≤ c'
      · -- the model still has room
        obtain ⟨hx0, hown⟩ : xx = off + o ∧ (elOf b = 0 ∨ o + c' * elOf b ≤ own) := by
          rcases hxx with h | h
          · omega
          · exact h
        subst hx0
        have hown : o + c' * ie.size ≤ own := by
          rcases hown with h | h
          · omega
          · rw [k2] at h; exact h
        unfold newSl at he
        split at he
        case h_2 => cases he
        rename_i nb h2 hn
        cases he
        have hmul : (n + m) * ie.size ≤ c' * ie.size := Nat.mul_le_mul_right _ hin
        rw [Nat.add_mul] at hmul
        obtain ⟨hs1, hth⟩ := s.grow hg hi k1 hn hl (by show o + n * ie.size + new'.length ≤ own; omega)
        obtain ⟨hnb, hel, _⟩ := Hp.new_some hn
        refine ⟨_, _, _, run_append_room2 w u0 hinfo hs rest cb (off + o) n c' hin hth, Im.le_set (by rw [hnb]; exact s.none _), ?_, hs1⟩
        refine VR.slice (x := off + o) (Im.set_self _ _ _) (Nat.le_refl _) hin (.inr ⟨rfl, ?_⟩)
        rw [hnb, elOf_num _ hel]
        have hfor : elFor ie.size = 0 ∨ elFor ie.size = ie.size := by unfold elFor; split <;> simp
        rcases hfor with h0 | h0
        · exact .inl h0
        · refine .inr ?_
          rw [h0]
          show 0 + c' * ie.size ≤ own - o
          omega
      · -- a new row
        obtain ⟨ds, g1, g2, g3, _⟩ := s.im hg hi
        have hold : ∃ olds', LR i ((cs.drop o).take (n * ie.size)) olds' ∧ (Builtin.firstCells ie.size n (.slice (some ⟨cb, xx, none⟩) n c')).run P w.drew = .ok olds'.toArray w.drew := by
          by_cases hn0 : n = 0
          · subst hn0
            refine ⟨[], by simpa using LR.nil i, by simp [Builtin.firstCells, loadCells, loadCellsFrom]⟩
          · have hx0 : xx = off + o := by rcases hxx with h | h <;> omega
            subst hx0
            refine ⟨(ds.drop o).take (n * ie.size), (g1.drop o).take _, ?_⟩
            have hr : w.drew.rangeAt cb (off + o) ((ds.drop o).take (n * ie.size)) := rangeAt_sub g2 o _
            have := run_loadCells' (P := P) hr
            have hlen : ((ds.drop o).take (n * ie.size)).length = n * ie.size := by have := g1.1; simp; omega
            rw [hlen] at this
            exact this
        obtain ⟨olds', hol, hrun⟩ := hold
        have hX := run_append_grow2 (P := P) (ty := ty) w u0 hinfo hzv hs rest (some ⟨cb, xx, none⟩) n c' hin hrun f2 (by omega) (fit c' hin)
        exact grown_VS (s.kill b) he hol hl (by simp; omega) (by omega) hzl hX
    · cases he

end
end Go.Ev

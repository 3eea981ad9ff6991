/- The evaluator Ev: the relation between its heap and a world, and how steps of the heap keep it. -/
import Derived.Test.YtjiijgdkdlelhaaGreatDoorGrowsM2
import Derived.Deep.MidRow
import Derived.Deep.Draws
/- The evaluator Ev: the relation between its heap and a world, and how steps of the heap keep it. -/
namespace Go.Ev
open Go.RowKit

/-- May the block be written: then it lies from B on and shares no cell with another such one. -/
def Blk.own : Blk → Bool
  | .cells _ ro => !ro
  | .dead => false
  | _ => true

/-- Entries of a map, one by one. -/
def MR (i : Im) (es : List (Value × Value)) (en : List MapEntry) : Prop :=
  es.length = en.length ∧ ∀ (k : Nat) (e : Value × Value), es[k]? = some e → ∃ e' : MapEntry, en[k]? = some e' ∧ e'.key = e.1 ∧ VR i e.2 e'.val

/-- How a block stands in the world. -/
def BR (B : Nat) (i : Im) (w : World) (c : Nat × Nat × Nat) : Blk → Prop
  | .dead => True
  | .cells cs ro => ∃ vs, LR i cs vs ∧ w.rangeAt c.1 c.2.1 vs ∧ cs.length ≤ c.2.2 ∧ (ro = false → B ≤ c.1 ∧ w.there c.1 c.2.1 c.2.2) ∧ (ro = true → c.1 < B)
  | .map es => ∃ en ck, w.heap[c.1]? = some (.map en ck) ∧ MR i es en.toList ∧ B ≤ c.1 ∧ c.2 = (0, 1)
  | .loop r => ∃ rc, w.heap[c.1]? = some (.loop rc) ∧ rc.state = r.state ∧ rc.pending = r.pending ∧ LR i r.env rc.tmps.toList ∧ rc.params.toList = r.params ∧ rc.assign = r.assign ∧ rc.body = r.body ∧
      (∃ o n, i r.defers = some (rc.defers, o, n)) ∧ B ≤ c.1 ∧ c.2 = (0, 1)
  | .defs => w.heap[c.1]? = some (.deferred (some [])) ∧ B ≤ c.1 ∧ c.2 = (0, 1)

def apartR (c c' : Nat × Nat × Nat) : Prop := c.1 ≠ c'.1 ∨ c.2.1 + c.2.2 ≤ c'.2.1 ∨ c'.2.1 + c'.2.2 ≤ c.2.1

structure SR (B : Nat) (w₀ : World) (i : Im) (h : Hp) (w : World) : Prop where
  below : Below B w₀ w
  size : B ≤ w.heap.size
  dom : ∀ b, h.next * 8 ≤ b → h.get b = none ∧ i b = none
  lt : ∀ b x c, h.get b = some x → i b = some c → c.1 < w.heap.size
  blk : ∀ b x, h.get b = some x → ∃ c, i b = some c ∧ BR B i w c x
  apart : ∀ b b' x x' c c', b ≠ b' → h.get b = some x → h.get b' = some x' → x.own = true → x'.own = true → i b = some c → i b' = some c' → apartR c c'

theorem apartR.symm {c c' : Nat × Nat × Nat} (h : apartR c c') : apartR c' c := by
  rcases h with h | h | h
  · exact .inl (Ne.symm h)
  · exact .inr (.inr h)
  · exact .inr (.inl h)

theorem MR.mono {i j : Im} (h : i.le j) {es : List (Value × Value)} {en : List MapEntry} (k : MR i es en) : MR j es en :=
  ⟨k.1, fun n e he => let ⟨e', a, b, c⟩ := k.2 n e he; ⟨e', a, b, c.mono h⟩⟩

/-- A block stands as it stood where its own cells, or its object, are as they were. -/
theorem BR.keep {B : Nat} {i j : Im} {w w' : World} {c : Nat × Nat × Nat} {x : Blk} (hij : i.le j) (k : BR B i w c x)
    (hcell : ∀ vs, w.rangeAt c.1 c.2.1 vs → vs.length ≤ c.2.2 → w'.rangeAt c.1 c.2.1 vs) (hthere : w.there c.1 c.2.1 c.2.2 → w'.there c.1 c.2.1 c.2.2)
    (hobj : ∀ o, w.heap[c.1]? = some o → (∀ a b d, o ≠ .cells a b d) → w'.heap[c.1]? = some o) : BR B j w' c x := by
  cases x with
  | dead => trivial
  | cells cs ro =>
    obtain ⟨vs, h1, h2, h3, h4⟩ := k
    exact ⟨vs, h1.mono hij, hcell vs h2 (by rw [← h1.1]; exact h3), h3, fun e => ⟨(h4.1 e).1, hthere (h4.1 e).2⟩, h4.2⟩
  | map es =>
    obtain ⟨en, ck, h1, h2, h3⟩ := k
    exact ⟨en, ck, hobj _ h1 (fun _ _ _ e => by cases e), h2.mono hij, h3⟩
  | loop r =>
    obtain ⟨rc, h1, h2, h3, h4, h5, h6, h7, ⟨o, n, h8⟩, h9⟩ := k
    exact ⟨rc, hobj _ h1 (fun _ _ _ e => by cases e), h2, h3, h4.mono hij, h5, h6, h7, ⟨o, n, hij _ _ h8⟩, h9⟩
  | defs => exact ⟨hobj _ k.1 (fun _ _ _ e => by cases e), k.2⟩

theorem BR.own_ge {B : Nat} {i : Im} {w : World} {c : Nat × Nat × Nat} {x : Blk} (k : BR B i w c x) (h : x.own = true) : B ≤ c.1 := by
  cases x with
  | dead => cases h
  | cells cs ro =>
    obtain ⟨_, _, _, _, h4⟩ := k
    exact (h4.1 (by simpa [Blk.own] using h)).1
  | map es => obtain ⟨_, _, _, _, h, _⟩ := k; exact h
  | loop r => obtain ⟨_, _, _, _, _, _, _, _, _, h, _⟩ := k; exact h
  | defs => exact k.2.1

section
variable {B : Nat} {w₀ : World} {i : Im} {h : Hp} {w : World}

theorem Hp.get_upd_some {h : Hp} {b b' : Nat} {x y : Blk} (e : (h.upd b y).get b' = some x) : ∃ x', h.get b' = some x' := by
  rw [Hp.get_upd] at e
  split at e
  · rename_i hb
    subst hb
    cases hg : h.get b' with
    | none => rw [hg] at e; cases e
    | some z => exact ⟨z, rfl⟩
  · exact ⟨x, e⟩
theorem SR.get_lt (s : SR B w₀ i h w) {b : Nat} {x : Blk} (e : h.get b = some x) : b < h.next * 8 := by
  rcases Nat.lt_or_ge b (h.next * 8) with hb | hb
  · exact hb
  · rw [(s.dom b hb).1] at e; cases e
theorem SR.im (s : SR B w₀ i h w) {b : Nat} {x : Blk} {c : Nat × Nat × Nat} (e : h.get b = some x) (k : i b = some c) : BR B i w c x := by
  obtain ⟨c', h1, h2⟩ := s.blk b x e
  rw [k] at h1
  cases h1
  exact h2
theorem SR.none (s : SR B w₀ i h w) (el : Nat) : i (h.num el) = none := (s.dom _ (by unfold Hp.num; omega)).2

/-- A world with the same heap. -/
theorem SR.heap (s : SR B w₀ i h w) {w' : World} (hh : w'.heap = w.heap) (hb : Below B w₀ w') : SR B w₀ i h w' where
  below := hb
  size := by rw [hh]; exact s.size
  dom := s.dom
  lt := fun b x c e k => by rw [hh]; exact s.lt b x c e k
  blk := fun b x e => by
    obtain ⟨c, h1, h2⟩ := s.blk b x e
    have hcell : ∀ a, w'.cell? a = w.cell? a := fun a => by simp [World.cell?, hh]
    have hfr : ∀ a, w'.frozen? a = w.frozen? a := fun a => by simp [World.frozen?, hh]
    exact ⟨c, h1, h2.keep (Im.le_refl i) (fun vs hv _ k v hk => by rw [hcell]; exact hv k v hk) (fun ht k hk => by rw [hcell, hfr]; exact ht k hk) (fun o ho _ => by rw [hh]; exact ho)⟩
  apart := s.apart
theorem SR.drew (s : SR B w₀ i h w) : SR B w₀ i h { w with drawn := w.drawn + 1 } := s.heap rfl ⟨s.below.os, s.below.tape, s.below.output, s.below.size, s.below.block⟩

/-- A new block. -/
theorem SR.new (s : SR B w₀ i h w) {x : Blk} {nb el : Nat} {h' : Hp} (e : h.new el x = some (nb, h')) (o : Obj) (n : Nat)
    (hb : BR B (i.set nb (w.heap.size, 0, n)) (w.alloc o) (w.heap.size, 0, n) x) : SR B w₀ (i.set nb (w.heap.size, 0, n)) h' (w.alloc o) := by
  obtain ⟨rfl, hel, hnext, hget⟩ := Hp.new_some e
  have hnum : h.num el = h.next * 8 + el := rfl
  have hle : i.le (i.set (h.num el) (w.heap.size, 0, n)) := Im.le_set (s.none el)
  have hsz : (w.alloc o).heap.size = w.heap.size + 1 := by show (w.heap.push o).size = _; simp
  refine ⟨s.below.alloc s.size o, by rw [hsz]; have := s.size; omega, ?_, ?_, ?_, ?_⟩
  · intro b hb'
    rw [hnext] at hb'
    rw [hget, if_neg (by omega)]
    refine ⟨(s.dom b (by omega)).1, ?_⟩
    unfold Im.set
    rw [if_neg (by omega)]
    exact (s.dom b (by omega)).2
  · intro b x c hx hc
    rw [hsz]
    rw [hget] at hx
    unfold Im.set at hc
    split at hc
    · cases hc; show w.heap.size < w.heap.size + 1; omega
    · rename_i hb0
      rw [if_neg hb0] at hx
      have := s.lt b x c hx hc; omega
  · intro b y hy
    rw [hget] at hy
    split at hy
    · rename_i hbn
      subst hbn
      cases hy
      exact ⟨_, Im.set_self _ _ _, hb⟩
    · rename_i hbn
      obtain ⟨c, h1, h2⟩ := s.blk b y hy
      have hlt := s.lt b y c hy h1
      refine ⟨c, hle _ _ h1, h2.keep hle (fun vs hv _ => World.rangeAt_alloc hv o) (fun ht => World.there_alloc ht o) (fun o' ho _ => ?_)⟩
      rw [Below.heap_alloc _ _ _ hlt]; exact ho
  · intro b b' y y' c c' hne hy hy' ho ho' hc hc'
    have key : ∀ b y c, h'.get b = some y → i.set (h.num el) (w.heap.size, 0, n) b = some c → (b = h.num el ∧ c.1 = w.heap.size) ∨ (b ≠ h.num el ∧ h.get b = some y ∧ i b = some c ∧ c.1 < w.heap.size) := by
      intro b y c hy hc
      rw [hget] at hy
      unfold Im.set at hc
      split at hy
      · rename_i hb0; rw [if_pos hb0] at hc; cases hc; exact .inl ⟨hb0, rfl⟩
      · rename_i hb0; rw [if_neg hb0] at hc; exact .inr ⟨hb0, hy, hc, s.lt b y c hy hc⟩
    rcases key b y c hy hc with ⟨e1, e2⟩ | ⟨e1, e2, e3, e4⟩ <;> rcases key b' y' c' hy' hc' with ⟨f1, f2⟩ | ⟨f1, f2, f3, f4⟩
    · exact absurd (e1.trans f1.symm) hne
    · exact .inl (by omega)
    · exact .inl (by omega)
    · exact s.apart b b' y y' c c' hne e2 f2 ho ho' e3 f3

theorem BR.new_cells {cs vs : List Value} (c : Array Value) (t : TypeId) {j : Im} (hl : LR j cs vs) (hv : vs <+: c.toList) (hB : B ≤ w.heap.size) :
    BR B j (w.alloc (.cells c t)) (w.heap.size, 0, c.size) (.cells cs false) := by
  have hat : ∀ k, (w.alloc (.cells c t)).cell? ⟨w.heap.size, k, Option.none⟩ = c[k]? := fun k => World.cell?_alloc_at c t _ k rfl
  refine ⟨vs, hl, fun k v hk => ?_, ?_, fun _ => ⟨hB, fun k hk => ?_⟩, fun e => by cases e⟩
  · show (w.alloc (.cells c t)).cell? ⟨w.heap.size, 0 + k, Option.none⟩ = some v
    rw [Nat.zero_add, hat]
    obtain ⟨r, hr⟩ := hv
    rw [← Array.getElem?_toList, ← hr, List.getElem?_append_left (List.getElem?_eq_some_iff.1 hk).1]
    exact hk
  · rw [hl.1]
    obtain ⟨r, hr⟩ := hv
    show vs.length ≤ c.size
    rw [← Array.length_toList, ← hr]; simp
  · show ((w.alloc (.cells c t)).cell? ⟨w.heap.size, 0 + k, Option.none⟩).isSome = true ∧ _
    rw [Nat.zero_add, hat]
    refine ⟨?_, World.frozen?_alloc_at c t _ k rfl⟩
    have hk' : k < c.size := hk
    simp [hk']
theorem SR.new_cells (s : SR B w₀ i h w) {cs vs : List Value} {nb el : Nat} {h' : Hp} (e : h.new el (.cells cs false) = some (nb, h')) (c : Array Value) (t : TypeId) (hl : LR i cs vs) (hv : vs <+: c.toList) :
    SR B w₀ (i.set nb (w.heap.size, 0, c.size)) h' (w.alloc (.cells c t)) := by
  have hn := (Hp.new_some e).1
  have hle : i.le (i.set nb (w.heap.size, 0, c.size)) := Im.le_set (by rw [hn]; exact s.none el)
  exact s.new e _ _ (BR.new_cells c t (hl.mono hle) hv s.size)

/-- A block given up. -/
theorem SR.kill (s : SR B w₀ i h w) (b : Nat) : SR B w₀ i (h.upd b .dead) w where
  below := s.below
  size := s.size
  dom := fun b' hb' => by
    rw [Hp.next_upd] at hb'
    rw [Hp.get_upd]
    refine ⟨?_, (s.dom b' hb').2⟩
    split
    · rename_i e; subst e; rw [(s.dom b' hb').1]; rfl
    · exact (s.dom b' hb').1
  lt := fun b' x c e k => by obtain ⟨y, hy⟩ := Hp.get_upd_some e; exact s.lt b' y c hy k
  blk := fun b' x e => by
    rw [Hp.get_upd] at e
    split at e
    · rename_i hb; subst hb
      cases hg : h.get b' with
      | none => rw [hg] at e; cases e
      | some y =>
        rw [hg] at e; cases e
        obtain ⟨c, h1, _⟩ := s.blk b' y hg
        exact ⟨c, h1, trivial⟩
    · exact s.blk b' x e
  apart := fun b1 b2 x x' c c' hne e e' o o' hc hc' => by
    rw [Hp.get_upd] at e e'
    have key : ∀ b' x, (if b' = b then (h.get b).map (fun _ => Blk.dead) else h.get b') = some x → x.own = true → h.get b' = some x := by
      intro b' x e o
      split at e
      · cases hg : h.get b with
        | none => rw [hg] at e; cases e
        | some y => rw [hg] at e; cases e; cases o
      · exact e
    exact s.apart b1 b2 x x' c c' hne (key _ _ e o) (key _ _ e' o') o o' hc hc'

theorem heap_setCells (b : Nat) : ∀ (vs : List Value) (o : Nat) (w : World) (k : Nat), k ≠ b → (w.setCells b o vs).heap[k]? = w.heap[k]?
  | [], _, _, _, _ => rfl
  | v :: r, o, w, k, hk => by rw [World.setCells, heap_setCells b r (o + 1) _ k hk, Below.heap_setCell _ _ _ _ hk]
theorem size_setCells (b : Nat) : ∀ (vs : List Value) (o : Nat) (w : World), (w.setCells b o vs).heap.size = w.heap.size
  | [], _, _ => rfl
  | v :: r, o, w => by rw [World.setCells, size_setCells b r (o + 1)]; simp [World.setCell]
theorem below_setCells {B b : Nat} (hB : B ≤ b) : ∀ (vs : List Value) (o : Nat) (w₀ w : World), Below B w₀ w → Below B w₀ (w.setCells b o vs)
  | [], _, _, _, h => h
  | v :: r, o, w₀, w, h => by rw [World.setCells]; exact below_setCells hB r (o + 1) w₀ _ (h.setCell (p := ⟨b, o, Option.none⟩) hB v)
theorem cells_of_cell {w : World} {b o : Nat} (h : (w.cell? ⟨b, o, Option.none⟩).isSome = true) : ∃ x y z, w.heap[b]? = some (.cells x y z) := by
  unfold World.cell? at h
  dsimp only at h
  cases hb : w.heap[b]? with
  | none => rw [hb] at h; cases h
  | some ob => rw [hb] at h; cases ob <;> first | exact ⟨_, _, _, rfl⟩ | cases h

/-- A block other than b, behind a store into b's own range. -/
theorem SR.other (s : SR B w₀ i h w) {b b' : Nat} {x y : Blk} {c c' : Nat × Nat × Nat} (hb : h.get b = some y) (hy : y.own = true) (hB : B ≤ c.1) (hth : w.there c.1 c.2.1 c.2.2) (hc : i b = some c) (hne : b' ≠ b) (hx : h.get b' = some x) (hc' : i b' = some c')
    (o : Nat) (vs : List Value) (ho : c.2.1 ≤ o) (hv : o + vs.length ≤ c.2.1 + c.2.2) : BR B i (w.setCells c.1 o vs) c' x := by
  have hbr := s.im hx hc'
  by_cases hnil : vs = []
  · subst hnil; exact hbr
  have hpos : 0 < vs.length := List.length_pos_iff.2 hnil
  have hcell : ∃ x y z, w.heap[c.1]? = some (.cells x y z) := by
    have := (hth (o - c.2.1) (by omega)).1
    rw [show c.2.1 + (o - c.2.1) = o by omega] at this
    exact cells_of_cell this
  have hobj : ∀ ob, w.heap[c'.1]? = some ob → (∀ a b d, ob ≠ .cells a b d) → (w.setCells c.1 o vs).heap[c'.1]? = some ob := by
    intro ob hob hncell
    have hne' : c'.1 ≠ c.1 := fun e => by
      obtain ⟨p, q, r, hp⟩ := hcell
      rw [e, hp] at hob
      cases hob
      exact hncell _ _ _ rfl
    rw [heap_setCells _ _ _ _ _ hne']; exact hob
  cases x with
  | cells cs' ro =>
    have ap : c'.1 ≠ c.1 ∨ c'.2.1 + c'.2.2 ≤ c.2.1 ∨ c.2.1 + c.2.2 ≤ c'.2.1 := by
      cases ro with
      | true => obtain ⟨_, _, _, _, _, h5⟩ := hbr; exact .inl (by have := h5 rfl; omega)
      | false => exact s.apart b' b _ _ c' c hne hx hb rfl hy hc' hc
    refine hbr.keep (Im.le_refl i) (fun us hu hl => World.rangeAt_setCells_apart hu _ _ _ ?_) (fun ht => World.there_setCells ht _ _ _) hobj
    rcases ap with h | h | h
    · exact .inl h
    · exact .inr (.inl (by omega))
    · exact .inr (.inr (by omega))
  | dead => trivial
  | map es => exact hbr.keep (Im.le_refl i) (fun us hu hl => by obtain ⟨_, _, h1, _⟩ := hbr; exact fun k v hk => absurd (hu k v hk) (by simp [World.cell?, h1])) (fun ht => World.there_setCells ht _ _ _) hobj
  | loop r => exact hbr.keep (Im.le_refl i) (fun us hu hl => by obtain ⟨_, h1, _⟩ := hbr; exact fun k v hk => absurd (hu k v hk) (by simp [World.cell?, h1])) (fun ht => World.there_setCells ht _ _ _) hobj
  | defs => exact hbr.keep (Im.le_refl i) (fun us hu hl => by obtain ⟨h1, _⟩ := hbr; exact fun k v hk => absurd (hu k v hk) (by simp [World.cell?, h1])) (fun ht => World.there_setCells ht _ _ _) hobj

theorem LR.putL {cs ds vs us : List Value} (hl : LR i cs ds) (hv : LR i vs us) (o : Nat) : LR i (putL cs o vs) (putL ds o us) := by
  unfold Ev.putL
  rw [← hv.1]
  exact ((hl.take o).append hv).append (hl.drop _)
theorem putL_get (ds us : List Value) (o : Nat) (ho : o + us.length ≤ ds.length) (k : Nat) : (putL ds o us)[k]? = if o ≤ k ∧ k < o + us.length then us[k - o]? else ds[k]? := by
  unfold Ev.putL
  have hlen : (ds.take o).length = o := by simp; omega
  by_cases h1 : k < o
  · rw [if_neg (by omega), List.append_assoc, List.getElem?_append_left (by omega), List.getElem?_take_of_lt h1]
  · by_cases h2 : k < o + us.length
    · rw [if_pos ⟨by omega, h2⟩, List.getElem?_append_left (by simp; omega), List.getElem?_append_right (by omega), hlen]
    · rw [if_neg (by omega), List.getElem?_append_right (by simp; omega), List.getElem?_drop]
      congr 1
      simp; omega
theorem putL_length (ds us : List Value) (o : Nat) (ho : o + us.length ≤ ds.length) : (putL ds o us).length = ds.length := by
  unfold Ev.putL; simp; omega

/-- A store into a block of its own. -/
theorem SR.put (s : SR B w₀ i h w) {b o : Nat} {vs us : List Value} {h' : Hp} {c : Nat × Nat × Nat} (e : h.put b o vs = some h') (hc : i b = some c) (hv : LR i vs us) :
    SR B w₀ i h' (w.setCells c.1 (c.2.1 + o) us) ∧ w.there c.1 (c.2.1 + o) us.length := by
  unfold Hp.put at e
  cases hg : h.get b with
  | none => rw [hg] at e; cases e
  | some x =>
    rw [hg] at e
    cases x with
    | cells cs ro =>
      cases ro with
      | true => cases e
      | false =>
        dsimp only at e
        split at e
        · rename_i hle
          have hle := of_ble hle
          cases e
          obtain ⟨ds, h1, h2, h3, h4, _⟩ := s.im hg hc
          obtain ⟨hB, hth⟩ := h4 rfl
          have hlen := h1.1
          have hvl := hv.1
          have hthere : w.there c.1 (c.2.1 + o) us.length := fun k hk => by
            have := hth (o + k) (by omega)
            rwa [show c.2.1 + (o + k) = c.2.1 + o + k by omega] at this
          refine ⟨⟨below_setCells hB _ _ _ _ s.below, by rw [size_setCells]; exact s.size, ?_, fun b' x c e k => by rw [size_setCells]; obtain ⟨y, hy⟩ := Hp.get_upd_some e; exact s.lt b' y c hy k, ?_, ?_⟩, hthere⟩
          · intro b' hb'
            rw [Hp.next_upd] at hb'
            rw [Hp.get_upd]
            refine ⟨?_, (s.dom b' hb').2⟩
            split
            · rename_i e; subst e; rw [(s.dom b' hb').1]; rfl
            · exact (s.dom b' hb').1
          · intro b' x e
            rw [Hp.get_upd] at e
            split at e
            · rename_i hb; subst hb
              rw [hg] at e; cases e
              refine ⟨c, hc, putL ds o us, h1.putL hv o, ?_, by rw [putL_length _ _ _ (by omega)]; exact h3, fun _ => ⟨hB, World.there_setCells hth _ _ _⟩, fun e => by cases e⟩
              intro k v hk
              rw [putL_get _ _ _ (by omega)] at hk
              split at hk
              · rename_i hin
                have := World.rangeAt_setCells_same w c.1 (c.2.1 + o) us hthere (k - o) v hk
                rwa [show c.2.1 + o + (k - o) = c.2.1 + k by omega] at this
              · rename_i hout
                rw [World.cell?_setCells_out c.1 us (c.2.1 + o) w ⟨c.1, c.2.1 + k, Option.none⟩ (fun _ _ => by dsimp only; omega)]
                exact h2 k v hk
            · rename_i hb
              obtain ⟨c', h5, _⟩ := s.blk b' x e
              exact ⟨c', h5, s.other hg rfl hB hth hc hb e h5 _ us (by omega) (by omega)⟩
          · intro b1 b2 x x' c1 c2 hne e e' o1 o2 hc1 hc2
            rw [Hp.get_upd] at e e'
            have key : ∀ b' x, (if b' = b then (h.get b).map (fun _ => Blk.cells (Ev.putL cs o vs) false) else h.get b') = some x → x.own = true → ∃ x', h.get b' = some x' ∧ x'.own = true := by
              intro b' x e ox
              split at e
              · rename_i hb; subst hb; exact ⟨_, hg, rfl⟩
              · exact ⟨x, e, ox⟩
            obtain ⟨y, hy, oy⟩ := key _ _ e o1
            obtain ⟨y', hy', oy'⟩ := key _ _ e' o2
            exact s.apart b1 b2 y y' c1 c2 hne hy hy' oy oy' hc1 hc2
        · cases e
    | _ => cases e

theorem BR.obj_pos {B : Nat} {i : Im} {w : World} {c : Nat × Nat × Nat} {x : Blk} (k : BR B i w c x) (hx : x.own = true) (hn : ∀ cs ro, x ≠ .cells cs ro) : c.2 = (0, 1) := by
  cases x with
  | dead => cases hx
  | cells cs ro => exact absurd rfl (hn cs ro)
  | map es => obtain ⟨_, _, _, _, _, h⟩ := k; exact h
  | loop r => obtain ⟨_, _, _, _, _, _, _, _, _, _, h⟩ := k; exact h
  | defs => exact k.2.2

/-- An object that is turned. -/
theorem SR.obj (s : SR B w₀ i h w) {b : Nat} {x y : Blk} {c : Nat × Nat × Nat} (hg : h.get b = some x) (hc : i b = some c) (hx : x.own = true) (hxn : ∀ cs ro, x ≠ .cells cs ro) {o o' : Obj} (ho : w.heap[c.1]? = some o) (hno : ∀ a b d, o ≠ .cells a b d)
    (hbr : BR B i { w with heap := w.heap.setIfInBounds c.1 o' } c y) : SR B w₀ i (h.upd b y) { w with heap := w.heap.setIfInBounds c.1 o' } := by
  have hB : B ≤ c.1 := (s.im hg hc).own_ge hx
  have hpos := (s.im hg hc).obj_pos hx hxn
  have hother : ∀ k, k ≠ c.1 → ({ w with heap := w.heap.setIfInBounds c.1 o' } : World).heap[k]? = w.heap[k]? := fun k hk => by
    show (w.heap.setIfInBounds c.1 o')[k]? = _
    rw [Array.getElem?_setIfInBounds_ne (Ne.symm hk)]
  have hnocell : ∀ k, w.cell? ⟨c.1, k, Option.none⟩ = Option.none := fun k => by
    unfold World.cell?
    dsimp only
    rw [ho]
    cases o <;> first | rfl | exact absurd rfl (hno _ _ _)
  have ho' := ho
  refine ⟨s.below.trans ⟨rfl, rfl, rfl, by simp, fun k hk => hother k (by omega)⟩, by simpa using s.size, ?_, fun b' x c e k => by obtain ⟨y, hy⟩ := Hp.get_upd_some e; simpa using s.lt b' y c hy k, ?_, ?_⟩
  · intro b' hb'
    rw [Hp.next_upd] at hb'
    rw [Hp.get_upd]
    refine ⟨?_, (s.dom b' hb').2⟩
    split
    · rename_i e; subst e; rw [(s.dom b' hb').1]; rfl
    · exact (s.dom b' hb').1
  · intro b' z e
    rw [Hp.get_upd] at e
    split at e
    · rename_i hb; subst hb
      rw [hg] at e; cases e
      exact ⟨c, hc, hbr⟩
    · rename_i hb
      obtain ⟨c', h5, h6⟩ := s.blk b' z e
      refine ⟨c', h5, ?_⟩
      by_cases hcc : c'.1 = c.1
      · cases z with
        | dead => trivial
        | cells cs ro =>
          obtain ⟨vs, g1, g2, g3, g4, g5⟩ := h6
          have hvs : vs = [] := by
            cases vs with
            | nil => rfl
            | cons v vs =>
              have := g2 0 v rfl
              rw [hcc, hnocell] at this
              cases this
          subst hvs
          refine ⟨[], g1, fun k v hk => by simp at hk, g3, fun er => ⟨(g4 er).1, fun k hk => ?_⟩, g5⟩
          have := ((g4 er).2 k hk).1
          rw [hcc, hnocell] at this
          cases this
        | _ =>
          have hap := s.apart b' b _ _ c' c hb e hg rfl hx h5 hc
          have hp' := h6.obj_pos rfl (fun _ _ e => by cases e)
          rcases hap with h | h | h
          · exact absurd hcc h
          · rw [hpos, hp'] at h; simp at h
          · rw [hpos, hp'] at h; simp at h
      · have hcell : ∀ k, ({ w with heap := w.heap.setIfInBounds c.1 o' } : World).cell? ⟨c'.1, k, Option.none⟩ = w.cell? ⟨c'.1, k, Option.none⟩ := fun k => World.cell?_of_block (w := w) (hother c'.1 hcc)
        have hfr : ∀ k, ({ w with heap := w.heap.setIfInBounds c.1 o' } : World).frozen? ⟨c'.1, k, Option.none⟩ = w.frozen? ⟨c'.1, k, Option.none⟩ := fun k => World.frozen?_of_block (w := w) (hother c'.1 hcc)
        exact h6.keep (Im.le_refl i) (fun vs hv _ k v hk => by rw [hcell]; exact hv k v hk) (fun ht k hk => by rw [hcell, hfr]; exact ht k hk) (fun ob hob _ => by rw [hother _ hcc]; exact hob)
  · intro b1 b2 z z' c1 c2 hne e e' o1 o2 hc1 hc2
    rw [Hp.get_upd] at e e'
    have key : ∀ b' z, (if b' = b then (h.get b).map (fun _ => y) else h.get b') = some z → z.own = true → ∃ z', h.get b' = some z' ∧ z'.own = true := by
      intro b' z e oz
      split at e
      · rename_i hb; subst hb; exact ⟨x, hg, hx⟩
      · exact ⟨z, e, oz⟩
    obtain ⟨y1, hy, oy⟩ := key _ _ e o1
    obtain ⟨y2, hy', oy'⟩ := key _ _ e' o2
    exact s.apart b1 b2 y1 y2 c1 c2 hne hy hy' oy oy' hc1 hc2

/-- An append that stays in the row: the old block is given up, the new one begins at the slice's head. -/
theorem SR.grow (s : SR B w₀ i h w) {b o k : Nat} {cs new us : List Value} {c : Nat × Nat × Nat} {nb el : Nat} {h' : Hp} (hg : h.get b = some (.cells cs false)) (hc : i b = some c) (hk : o + k ≤ cs.length)
    (e : (h.upd b .dead).new el (.cells ((cs.drop o).take k ++ new) false) = some (nb, h')) (hl : LR i new us) (hroom : o + k + us.length ≤ c.2.2) :
    SR B w₀ (i.set nb (c.1, c.2.1 + o, c.2.2 - o)) h' (w.setCells c.1 (c.2.1 + o + k) us) ∧ w.there c.1 (c.2.1 + o + k) us.length := by
  obtain ⟨ds, h1, h2, h3, h4, _⟩ := s.im hg hc
  obtain ⟨hB, hth⟩ := h4 rfl
  have hlen := h1.1
  have hthere : w.there c.1 (c.2.1 + o + k) us.length := fun j hj => by
    have := hth (o + k + j) (by omega)
    rwa [show c.2.1 + (o + k + j) = c.2.1 + o + k + j by omega] at this
  refine ⟨?_, hthere⟩
  obtain ⟨rfl, hel, hnext, hget⟩ := Hp.new_some e
  rw [Hp.next_upd] at hnext
  have hnb : (h.upd b .dead).num el = h.num el := rfl
  have hnum : h.num el = h.next * 8 + el := rfl
  rw [hnb] at hget
  rw [hnb]
  have hbn : b ≠ h.num el := fun eb => by have := s.get_lt hg; omega
  have hle : i.le (i.set (h.num el) (c.1, c.2.1 + o, c.2.2 - o)) := Im.le_set (s.none el)
  have hget' : ∀ b', h'.get b' = if b' = h.num el then some (.cells ((cs.drop o).take k ++ new) false) else if b' = b then some .dead else h.get b' := by
    intro b'
    rw [hget]
    split
    · rfl
    · rw [Hp.get_upd]
      split
      · rename_i hb; rw [hg]; rfl
      · rfl
  refine ⟨below_setCells hB _ _ _ _ s.below, by rw [size_setCells]; exact s.size, ?_, ?_, ?_, ?_⟩
  · intro b' hb'
    rw [hnext] at hb'
    rw [hget', if_neg (by omega), if_neg (by have := s.get_lt hg; omega)]
    refine ⟨(s.dom b' (by omega)).1, ?_⟩
    unfold Im.set
    rw [if_neg (by omega)]
    exact (s.dom b' (by omega)).2
  · intro b' x c' hx hc'
    rw [size_setCells]
    rw [hget'] at hx
    unfold Im.set at hc'
    split at hc'
    · cases hc'; exact s.lt b _ c hg hc
    · rename_i hb0
      rw [if_neg hb0] at hx
      split at hx
      · rename_i hb1
        subst hb1
        exact s.lt b' _ c' hg hc'
      · exact s.lt b' x c' hx hc'
  · intro b' x hx
    rw [hget'] at hx
    split at hx
    · rename_i hb; subst hb
      cases hx
      refine ⟨_, Im.set_self _ _ _, (ds.drop o).take k ++ us, ?_, ?_, ?_, fun _ => ⟨hB, ?_⟩, fun er => by cases er⟩
      · exact (((h1.drop o).take k).append hl).mono hle
      · intro j v hj
        have hkl : ((ds.drop o).take k).length = k := by simp; omega
        show (w.setCells c.1 (c.2.1 + o + k) us).cell? ⟨c.1, c.2.1 + o + j, Option.none⟩ = some v
        by_cases hjk : j < k
        · rw [List.getElem?_append_left (by omega), List.getElem?_take_of_lt hjk, List.getElem?_drop] at hj
          rw [World.cell?_setCells_out c.1 us _ w ⟨c.1, c.2.1 + o + j, Option.none⟩ (fun _ _ => by dsimp only; omega)]
          have := h2 (o + j) v hj
          rwa [show c.2.1 + (o + j) = c.2.1 + o + j by omega] at this
        · rw [List.getElem?_append_right (by omega), hkl] at hj
          have := World.rangeAt_setCells_same w c.1 (c.2.1 + o + k) us hthere (j - k) v hj
          rwa [show c.2.1 + o + k + (j - k) = c.2.1 + o + j by omega] at this
      · have := hl.1
        simp only [List.length_append, List.length_take, List.length_drop]
        omega
      · intro j hj
        have hj' : j < c.2.2 - o := hj
        have := (World.there_setCells hth c.1 (c.2.1 + o + k) us) (o + j) (by omega)
        rwa [show c.2.1 + (o + j) = c.2.1 + o + j by omega] at this
    · rename_i hbn'
      split at hx
      · rename_i hb; cases hx; subst hb; exact ⟨c, hle _ _ hc, trivial⟩
      · rename_i hb
        obtain ⟨c', h5, _⟩ := s.blk b' x hx
        exact ⟨c', hle _ _ h5, (s.other hg rfl hB hth hc hb hx h5 _ us (by omega) (by omega)).keep hle (fun _ hv _ => hv) (fun ht => ht) (fun _ ho _ => ho)⟩
  · intro b1 b2 x x' c1 c2 hne e e' o1 o2 hc1 hc2
    have key : ∀ b' x c', h'.get b' = some x → x.own = true → i.set (h.num el) (c.1, c.2.1 + o, c.2.2 - o) b' = some c' → (b' = h.num el ∧ c' = (c.1, c.2.1 + o, c.2.2 - o)) ∨ (b' ≠ h.num el ∧ b' ≠ b ∧ h.get b' = some x ∧ i b' = some c') := by
      intro b' x c' hx ox hc'
      rw [hget'] at hx
      unfold Im.set at hc'
      split at hx
      · rename_i hb; rw [if_pos hb] at hc'; cases hc'; exact .inl ⟨hb, rfl⟩
      · rename_i hb
        rw [if_neg hb] at hc'
        split at hx
        · cases hx; cases ox
        · rename_i hb2; exact .inr ⟨hb, hb2, hx, hc'⟩
    have low : ∀ b' x c', b' ≠ b → h.get b' = some x → x.own = true → i b' = some c' → apartR (c.1, c.2.1 + o, c.2.2 - o) c' := by
      intro b' x c' hb' hx ox hc'
      rcases s.apart b b' _ x c c' (Ne.symm hb') hg hx rfl ox hc hc' with h | h | h
      · exact .inl h
      · refine .inr (.inl ?_); show c.2.1 + o + (c.2.2 - o) ≤ _; omega
      · refine .inr (.inr ?_); show _ ≤ c.2.1 + o; omega
    rcases key b1 x c1 e o1 hc1 with ⟨e1, e2⟩ | ⟨e1, e2, e3, e4⟩ <;> rcases key b2 x' c2 e' o2 hc2 with ⟨f1, f2⟩ | ⟨f1, f2, f3, f4⟩
    · exact absurd (e1.trans f1.symm) hne
    · subst e2; exact low b2 x' c2 f2 f3 o2 f4
    · subst f2; exact (low b1 x c1 e2 e3 o1 e4).symm
    · exact s.apart b1 b2 x x' c1 c2 hne e3 f3 o1 o2 e4 f4
end
end Go.Ev

/- SpellingGrows: the plain law. -/
import Derived.Test.YtjiijgdkdlelhaaGreatDoorGrowsM29
/- SpellingGrows: the plain law. -/
namespace Go.Proofs.YtjiijgdkdlelhaaGreatDoor
open Go Go.RowKit Go.Shelf Go.Lib

/-- The order of spellings' keys. -/
def keyLst (x : Int × List Int) : List Int := cx x.2 :: x.1 :: x.2
theorem keyLst_inj {x y : Int × List Int} (h : keyLst x = keyLst y) : x = y := by
  obtain ⟨a, b⟩ := x
  obtain ⟨c, d⟩ := y
  simp only [keyLst, List.cons.injEq] at h
  obtain ⟨-, rfl, rfl⟩ := h
  rfl
theorem spLst_key (s : Sp) : spLst s = keyLst (spKey s) := rfl
theorem sorted_eq {A B : List (Int × List Int)} (hA : A.Pairwise fun a b => ¬ keyLst b < keyLst a) (hB : B.Pairwise fun a b => ¬ keyLst b < keyLst a) (hp : A.Perm B) : A = B :=
  List.Perm.eq_of_pairwise (le := fun a b => ¬ keyLst b < keyLst a) (fun a b _ _ h1 h2 => keyLst_inj (List.le_antisymm (by simpa using h1) (by simpa using h2))) hA hB hp
theorem keys_sorted {L : List Sp} (h : L.Pairwise fun a b => ¬ spLst b < spLst a) : (L.map spKey).Pairwise fun a b => ¬ keyLst b < keyLst a := by
  rw [List.pairwise_map]
  exact h
theorem keepS_mem (L1 L2 : List Sym) (rs : List Int) (k m n : Nat) (y : Int × List Int) : y ∈ keepS L1 L2 rs (boxTo k m n 0) ↔ ∃ i : Nat, y.1 = i ∧ i < n ∧ y.2.length = m ∧ (∀ c ∈ y.2, -(k : Int) ≤ c ∧ c ≤ (k : Int)) ∧ sumL L1[i]!.els (L2.map Sym.els) y.2 = rs := by
  unfold keepS
  rw [List.mem_map]
  constructor
  · rintro ⟨x, hx, rfl⟩
    obtain ⟨h1, h2⟩ := List.mem_filter.1 hx
    obtain ⟨h3, h4, h5⟩ := (boxTo_mem k m n x).1 h1
    exact ⟨x.1, rfl, h3, h4, h5, of_decide_eq_true h2⟩
  · rintro ⟨i, h1, h2, h3, h4, h5⟩
    refine ⟨(i, y.2), List.mem_filter.2 ⟨(boxTo_mem k m n _).2 ⟨h2, h3, h4⟩, decide_eq_true h5⟩, ?_⟩
    exact Prod.ext h1.symm rfl
theorem keepS_nodup (L1 L2 : List Sym) (rs : List Int) (k m n : Nat) : (keepS L1 L2 rs (boxTo k m n 0)).Nodup := by
  unfold keepS
  have h : ((boxTo k m n 0).filter (hitB L1 L2 rs)).Nodup := (boxTo_nodup k m n).filter _
  unfold List.Nodup at h ⊢
  rw [List.pairwise_map]
  refine h.imp fun {a b} hne e => hne ?_
  obtain ⟨a1, a2⟩ := a
  obtain ⟨b1, b2⟩ := b
  simp only [Prod.mk.injEq] at e ⊢
  exact ⟨by omega, e.2⟩
/-- The law's test: a count beyond the bound. -/
def beyondI (k : Int) (c : Int) : Bool := decide (k < c) || decide (c < -k)
def beyondK (k : Int) (x : Int × List Int) : Bool := x.2.any (beyondI k)
def beyondS (k : Int) (s : Sp) : Bool := s.cnt.any (beyondI k)
theorem grows_eq {A B : List Sp} {L1 L2 : List Sym} {rs : List Int} {k m n : Nat} (hA : (A.map spKey).Perm (keepS L1 L2 rs (boxTo k m n 0))) (hB : (B.map spKey).Perm (keepS L1 L2 rs (boxTo (k + 1) m n 0)))
    (pA : A.Pairwise fun a b => ¬ spLst b < spLst a) (pB : B.Pairwise fun a b => ¬ spLst b < spLst a) : A.map spKey = (B.filter fun s => !beyondS k s).map spKey := by
  refine sorted_eq (keys_sorted pA) (keys_sorted (pB.filter _)) ?_
  have e : (B.filter fun s => !beyondS k s).map spKey = (B.map spKey).filter fun x => !beyondK k x := by
    rw [List.filter_map]
    rfl
  rw [e]
  refine hA.trans (List.Perm.trans ?_ (hB.filter _).symm)
  rw [List.perm_ext_iff_of_nodup (keepS_nodup _ _ _ _ _ _) ((keepS_nodup _ _ _ _ _ _).filter _)]
  intro y
  rw [List.mem_filter, keepS_mem, keepS_mem]
  have hb : ∀ c, (!beyondI k c) = true ↔ -(k : Int) ≤ c ∧ c ≤ (k : Int) := fun c => by
    unfold beyondI
    simp only [Bool.not_eq_true', Bool.or_eq_false_iff, decide_eq_false_iff_not]
    omega
  have hy : (!beyondK k y) = true ↔ ∀ c ∈ y.2, -(k : Int) ≤ c ∧ c ≤ (k : Int) := by
    unfold beyondK
    rw [Bool.not_eq_true', List.any_eq_false]
    refine ⟨fun h c hc => (hb c).1 (by simpa using h c hc), fun h c hc => by simpa using (hb c).2 (h c hc)⟩
  rw [hy]
  constructor
  · rintro ⟨i, h1, h2, h3, h4, h5⟩
    exact ⟨⟨i, h1, h2, h3, fun c hc => by have := h4 c hc; omega, h5⟩, h4⟩
  · rintro ⟨⟨i, h1, h2, h3, -, h5⟩, h4⟩
    exact ⟨i, h1, h2, h3, h4, h5⟩

/-- What Make lays. -/
structure PlanL (two : Bool) (R : Nat → Nat → Int) (tn ta : Nat) (L1 L2 : List Sym) : Prop where
  k1 : L1.map symKey = (List.range (1 + tn)).map (planKey two R)
  k2 : L2.map symKey = (List.range ta).map fun j => planKey two R (4 + j)
  n4 : tn < 4
  a4 : ta < 4
  r : ∀ i j, i < 7 → j < 2 → -128 ≤ R i j ∧ R i j ≤ 127
def dimOf (two : Bool) : Nat := if two then 2 else 1
theorem rowOf_len (two : Bool) (R : Nat → Nat → Int) (i : Nat) : (rowOf two R i).length = dimOf two := by cases two <;> rfl
theorem rowOf_bnd {two : Bool} {R : Nat → Nat → Int} (i : Nat) : ∀ y ∈ rowOf two R i, -7 ≤ y ∧ y ≤ 7 := by
  have h : ∀ x : Int, -7 ≤ x.tmod 8 ∧ x.tmod 8 ≤ 7 := fun x => by
    have := Int.tmod_lt_of_pos x (b := 8) (by omega)
    have h2 : -8 < x.tmod 8 := by
      have := Int.neg_lt_of_neg_lt (a := x.tmod 8) (b := 8)
      have h3 := Int.tmod_lt_of_pos (-x) (b := 8) (by omega)
      rw [Int.neg_tmod] at h3
      omega
    omega
  intro y hy
  cases two
  · simp only [rowOf, Bool.false_eq_true, if_false, List.mem_singleton] at hy
    subst hy; exact h _
  · simp only [rowOf, if_true, List.mem_cons, List.not_mem_nil, or_false] at hy
    rcases hy with rfl | rfl <;> exact h _
section
variable {two : Bool} {R : Nat → Nat → Int} {tn ta : Nat} {L1 L2 : List Sym}
theorem PlanL.len1 (h : PlanL two R tn ta L1 L2) : L1.length = 1 + tn := by
  have := congrArg List.length h.k1
  simpa using this
theorem PlanL.len2 (h : PlanL two R tn ta L1 L2) : L2.length = ta := by
  have := congrArg List.length h.k2
  simpa using this
theorem PlanL.mem (h : PlanL two R tn ta L1 L2) {x : Sym} (hx : x ∈ L1 ++ L2) : ∃ i, i < 7 ∧ symKey x = planKey two R i := by
  have h1 := h.n4
  have h2 := h.a4
  rcases List.mem_append.1 hx with hx | hx
  · have : symKey x ∈ L1.map symKey := List.mem_map.2 ⟨x, hx, rfl⟩
    rw [h.k1] at this
    obtain ⟨i, hi, e⟩ := List.mem_map.1 this
    have := List.mem_range.1 hi
    exact ⟨i, by omega, e.symm⟩
  · have : symKey x ∈ L2.map symKey := List.mem_map.2 ⟨x, hx, rfl⟩
    rw [h.k2] at this
    obtain ⟨i, hi, e⟩ := List.mem_map.1 this
    have := List.mem_range.1 hi
    exact ⟨4 + i, by omega, e.symm⟩
theorem bnd_of_mem {B : Int} {l : List Int} (h : ∀ y ∈ l, -B ≤ y ∧ y ≤ B) : bndL B l := fun j hj => h l[j]! (by rw [getElem!_pos l j hj]; exact List.getElem_mem hj)
theorem rowErr_small {l : List Int} (hl : l.length ≤ 64) (h : ∀ y ∈ l, -1000000000 ≤ y ∧ y ≤ 1000000000) : rowErr l = 0 := by
  unfold rowErr
  rw [if_neg]
  rintro (h1 | h1)
  · omega
  · obtain ⟨y, hy, h2⟩ := List.any_eq_true.1 h1
    have := h y hy
    simp only [fitsB, Bool.not_eq_true', Bool.and_eq_false_iff, decide_eq_false_iff_not] at h2
    omega
theorem PlanL.flat (h : PlanL two R tn ta L1 L2) : Flat L1 L2 (dimOf two) := by
  have h1 := h.n4
  have h2 := h.a4
  have hd : dimOf two = 1 ∨ dimOf two = 2 := by cases two; exact .inl rfl; exact .inr rfl
  refine ⟨by rw [h.len1]; omega, by rw [h.len1]; omega, by rw [h.len2]; omega, fun x hx => ?_, by omega, by omega⟩
  obtain ⟨i, -, e⟩ := h.mem hx
  have e2 : x.els = rowOf two R i := congrArg Prod.snd e
  rw [e2]
  exact ⟨rowOf_len two R i, bnd_of_mem fun y hy => by have := rowOf_bnd i y hy; omega⟩
theorem errFrom_zero (d : Nat) : ∀ (L : List Sym) (N : List ByteArray), (∀ x ∈ L, isNameB x.name = true ∧ rowErr x.els = 0 ∧ x.els.length ≤ 12 ∧ x.els.length = d) → (L.map Sym.name).Nodup → (∀ x ∈ L, ∀ y ∈ N, x.name ≠ y) → errFrom d N L = 0
  | [], _, _, _, _ => rfl
  | x :: L, N, h, hn, hd => by
    obtain ⟨h1, h2, h3, h4⟩ := h x (List.mem_cons_self ..)
    have he : symErr d N x = 0 := by
      unfold symErr
      rw [if_neg (by rw [h1]; simp), if_neg, if_neg (by rw [h2]; simp), if_neg (by omega), if_neg (by omega)]
      intro hc
      obtain ⟨y, hy, e⟩ := List.any_eq_true.1 hc
      have e2 := of_decide_eq_true e
      refine hd x (List.mem_cons_self ..) y hy ?_
      have : x.name.data.toList = y.data.toList := by
        have g : ∀ b : ByteArray, b.toList = b.data.toList := fun b => ByteArray.toList_eq b
        rw [← g, ← g]; exact e2
      exact ByteArray.ext (Array.ext' this)
    rw [errFrom, he, if_neg (by simp)]
    rw [List.map_cons, List.nodup_cons] at hn
    refine errFrom_zero d L _ (fun y hy => h y (List.mem_cons_of_mem _ hy)) hn.2 (fun y hy z hz => ?_)
    rcases List.mem_append.1 hz with hz | hz
    · exact hd y (List.mem_cons_of_mem _ hy) z hz
    · rw [List.mem_singleton.1 hz]
      exact fun e => hn.1 (List.mem_map.2 ⟨y, hy, e⟩)
theorem PlanL.names (h : PlanL two R tn ta L1 L2) : (L1 ++ L2).map Sym.name = (List.range (1 + tn)).map nameOf ++ (List.range ta).map fun j => nameOf (4 + j) := by
  have e : ∀ L : List Sym, L.map Sym.name = (L.map symKey).map Prod.fst := fun L => by rw [List.map_map]; rfl
  rw [List.map_append, e, e, h.k1, h.k2, List.map_map, List.map_map]
  rfl
theorem PlanL.right (h : PlanL two R tn ta L1 L2) : noteErr L1 L2 = 0 := by
  have h1 := h.n4
  have h2 := h.a4
  have hd : dimOf two = 1 ∨ dimOf two = 2 := by cases two; exact .inl rfl; exact .inr rfl
  have hl1 := h.len1
  have hl2 := h.len2
  have hf : L1[0]! ∈ L1 ++ L2 := List.mem_append_left _ (by rw [getElem!_pos L1 0 (by omega)]; exact List.getElem_mem _)
  unfold noteErr
  rw [if_neg (by omega), if_neg (by omega), (h.flat.rows _ hf).1]
  refine errFrom_zero _ _ _ (fun x hx => ?_) ?_ (fun x _ y hy => absurd hy (List.not_mem_nil))
  · obtain ⟨i, hi, e⟩ := h.mem hx
    have e1 : x.name = nameOf i := congrArg Prod.fst e
    have e2 : x.els = rowOf two R i := congrArg Prod.snd e
    rw [e1, e2, rowOf_len]
    refine ⟨?_, rowErr_small (by rw [rowOf_len]; omega) fun y hy => (by have := rowOf_bnd i y hy; omega), by omega, rfl⟩
    have : ∀ i, i < 7 → isNameB (nameOf i) = true := by decide +kernel
    exact this i hi
  · rw [h.names]
    have : ∀ tn, tn < 4 → ∀ ta, ta < 4 → ((List.range (1 + tn)).map nameOf ++ (List.range ta).map fun j => nameOf (4 + j)).Nodup := by decide +kernel
    exact this tn h1 ta h2
theorem boxN_pow (n k : Nat) : ∀ m, boxN n k m = n * (2 * k + 1) ^ m
  | 0 => by simp [boxN]
  | m + 1 => by rw [boxN, boxN_pow n k m, Nat.pow_succ, Nat.mul_assoc]
theorem box_small {k n m : Nat} (hk : k ≤ 3) (hn : n ≤ 4) (hm : m < 4) : n * (2 * k + 1) ^ m ≤ 1372 := by
  have : ∀ k, k < 4 → ∀ n, n < 5 → ∀ m, m < 4 → n * (2 * k + 1) ^ m ≤ 1372 := by decide
  exact this k (by omega) n (by omega) m hm
end
end Go.Proofs.YtjiijgdkdlelhaaGreatDoor

/- SpellingChecks: Index, Contains over names. -/
import Derived.Shelf.SlicesQ.IndexFunc
import Derived.Shelf.SlicesE.IndexFunc
import Derived.Ground.SlgfProg
import Derived.Test.YtjiijgdkdlelhaaGreatDoorProg
import Derived.Lib.SliceRun
/- SpellingChecks: the callees that look at one row. -/
namespace Go.Proofs.YtjiijgdkdlelhaaGreatDoor
open Go.Shelf Go.RowKit Go.Lib

def fitsB (n : Int) : Bool := decide (-1000000000 ≤ n) && decide (n ≤ 1000000000)
theorem fits_calls (n : Int) (w : World) : Calls Tryz.prog 75 #[.int .i64 n] w fun e w' => e = .returned (.bool (fitsB n)) ∧ Below w.heap.size w w' := by
  go_enter Tryz.func75, Tryz.ntmps75
  go_wp2
  all_goals (go_ret; refine ⟨?_, Below.refl _ w⟩; simp_all [fitsB]; try omega)
theorem fits1_calls (n : Int) (w : World) : Calls Tryz.prog 74 #[.int .i64 n] w fun e w' => e = .returned (.bool (!fitsB n)) ∧ Below w.heap.size w w' := by
  go_enter Tryz.func74, Tryz.ntmps74
  go_wp2_with (go_at_call 75; refine (fits_calls n _).mono ?_; rintro e w' ⟨rfl, hb'⟩)
  go_ret
  exact ⟨rfl, hb'⟩
set_option maxHeartbeats 2000000 in
theorem idx_row (b off n c : Nat) (zs : List Int) (w : World) (hz : n ≤ zs.length) (hbig : n ≤ 9223372036854775807) (hb : b < w.heap.size) (hc : ∀ j, j < zs.length → w.cell? ⟨b, off + j, none⟩ = some (.int .i64 zs[j]!)) :
    Calls Tryz.prog 58 #[.slice (some ⟨b, off, none⟩) n c, .func (.func 74) #[] #[]] w fun e w' => e = .returned (.int .i64 (Lib.idxBy (fun _ y => !fitsB y) (zs.take n) (0 : Int))) ∧ Below w.heap.size w w' := by
  have hrow : ∀ (W : World), Below w.heap.size w W → ∀ j, j < zs.length → W.cell? ⟨b, off + j, none⟩ = some (.int .i64 zs[j]!) := fun W hW j hj => (hW.cell (p := ⟨b, off + j, none⟩) hb).trans (hc j hj)
  clear hc
  go_enter Tryz.func58, Tryz.ntmps58
  go_wp2
  go_loopg [5, 8] n (fun gg _ s8 wr => ∃ kk : Nat, kk ≤ n ∧ n - kk ≤ gg ∧ s8 = .int .i64 kk ∧ Aside (Below w.heap.size w wr) ∧ Aside (∀ j, j < kk → (!fitsB zs[j]!) = false))
  case atStart => exact ⟨0, Nat.zero_le _, by omega, rfl, Below.refl _ w, fun j hj => absurd hj (Nat.not_lt_zero _)⟩
  case round =>
    obtain ⟨kk, hkk, hg, rfl, BW, A⟩ := hrel
    by_cases hlt : kk < n
    · have hltz : (kk : Int) < (n : Int) := by omega
      have l2 := hrow wr BW.out kk (by omega)
      have hcall := fits1_calls zs[kk]! wr
      clear hrow
      generalize hy : zs[kk]! = y at l2 hcall
      have B : Aside (zs[kk]! = y) := hy
      clear hy
      cases hq : (!fitsB y) with
      | true =>
        rw [hq] at hcall
        go_wp2_with (go_at_call 74; refine hcall.mono ?_; rintro e w' ⟨rfl, hb'⟩)
        go_ret
        refine ⟨?_, BW.out.trans (hb'.mono BW.out.size)⟩
        rw [Lib.idxBy_hit (fun _ y => !fitsB y) zs n kk (0 : Int) hlt hz (by show (!fitsB zs[kk]!) = true; rw [B.out]; exact hq) A.out]
        rfl
      | false =>
        rw [hq] at hcall
        go_wp2_with (go_at_call 74; refine hcall.mono ?_; rintro e w' ⟨rfl, hb'⟩)
        go_roundg (n - (kk + 1))
        case measure => omega
        case rel =>
          refine ⟨kk + 1, by omega, by omega, by go_num, (show Aside _ from BW.out.trans (hb'.mono BW.out.size)), (show Aside _ from fun j hj => ?_)⟩
          by_cases e : j = kk
          · subst e
            rw [B.out]; exact hq
          · exact A.out j (by omega)
    · have hltz : ¬ (kk : Int) < (n : Int) := by omega
      have : kk = n := by omega
      subst this
      go_wp2
      go_ret
      refine ⟨?_, BW.out⟩
      rw [Lib.idxBy_miss (fun _ y => !fitsB y) zs kk (0 : Int) A.out]
      rfl

/-- A row lies behind a slice value: its elements. -/
def RowAt (w : World) (v : Value) (zs : List Int) : Prop :=
  (∃ base c, v = .slice base 0 c ∧ zs = []) ∨ ∃ b off c, v = .slice (some ⟨b, off, none⟩) zs.length c ∧ b < w.heap.size ∧ ∀ j, j < zs.length → w.cell? ⟨b, off + j, none⟩ = some (.int .i64 zs[j]!)
theorem RowAt.mono {w W : World} {v : Value} {zs : List Int} (h : RowAt w v zs) (hb : Below w.heap.size w W) : RowAt W v zs := by
  rcases h with h | ⟨b, off, c, h1, h2, h3⟩
  · exact .inl h
  · exact .inr ⟨b, off, c, h1, Nat.lt_of_lt_of_le h2 hb.size, fun j hj => (hb.cell (p := ⟨b, off + j, none⟩) h2).trans (h3 j hj)⟩

theorem idx_nil (base : Option Addr) (c : Nat) (w : World) : Calls Tryz.prog 58 #[.slice base 0 c, .func (.func 74) #[] #[]] w fun e w' => e = .returned (.int .i64 (-1)) ∧ Below w.heap.size w w' := by
  go_enter Tryz.func58, Tryz.ntmps58
  go_wp2
  go_loopg [5, 8] 0 (fun gg _ s8 wr => s8 = .int .i64 0 ∧ wr = w)
  case atStart => exact ⟨rfl, rfl⟩
  case round =>
    obtain ⟨rfl, rfl⟩ := hrel
    go_wp2
    go_ret
    exact ⟨rfl, Below.refl _ _⟩

theorem contains_row {v : Value} {zs : List Int} {w : World} (h : RowAt w v zs) (hbig : zs.length ≤ 9223372036854775807) : Calls Tryz.prog 16 #[v, .func (.func 74) #[] #[]] w fun e w' => e = .returned (.bool (zs.any fun y => !fitsB y)) ∧ Below w.heap.size w w' := by
  rcases h with ⟨base, c, rfl, rfl⟩ | ⟨b, off, c, rfl, h2, h3⟩
  · go_enter Tryz.func16, Tryz.ntmps16
    go_wp2_with (go_at_call 58; refine (idx_nil base c _).mono ?_; rintro e w' ⟨rfl, hb'⟩)
    go_ret
    exact ⟨rfl, hb'⟩
  · have hi := idx_row b off zs.length c zs w (Nat.le_refl _) hbig h2 h3
    have e1 : (zs.any fun y => !fitsB y) = decide (0 ≤ Lib.idxBy (fun _ y => !fitsB y) zs 0) := (Lib.idxBy_nonneg_iff (fun _ y => !fitsB y) zs 0).symm
    rw [List.take_length] at hi
    rw [e1]
    generalize Lib.idxBy (fun _ y => !fitsB y) zs 0 = q at hi ⊢
    clear h3 h2 e1
    go_enter Tryz.func16, Tryz.ntmps16
    go_wp2_with (go_at_call 58; refine hi.mono ?_; rintro e w' ⟨rfl, hb'⟩)
    go_ret
    exact ⟨rfl, hb'⟩

/-- row.Check's error. -/
def rowErr (zs : List Int) : Int := if 64 < zs.length ∨ (zs.any fun y => !fitsB y) = true then 4 else 0
end Go.Proofs.YtjiijgdkdlelhaaGreatDoor

/- SpellingChecks: row.Check. -/
namespace Go.Proofs.YtjiijgdkdlelhaaGreatDoor
open Go.Shelf Go.RowKit Go.Lib

theorem rowCheck_calls {v : Value} {zs : List Int} {w : World} (h : RowAt w v zs) (hbig : zs.length ≤ 9223372036854775807) : Calls Tryz.prog 30 #[v] w fun e w' => e = .returned (.int .i64 (rowErr zs)) ∧ Below w.heap.size w w' := by
  have hcon := contains_row h hbig
  have hv : ∃ base c, v = .slice base zs.length c := by
    rcases h with ⟨base, c, rfl, rfl⟩ | ⟨b, off, c, rfl, _, _⟩
    · exact ⟨base, c, rfl⟩
    · exact ⟨some ⟨b, off, none⟩, c, rfl⟩
  obtain ⟨base, c, rfl⟩ := hv
  unfold rowErr
  generalize (zs.any fun y => !fitsB y) = q at hcon ⊢
  clear h
  by_cases hl : 64 < zs.length
  · have hl' : (64 : Int) < (zs.length : Int) := by omega
    rw [if_pos (.inl hl)]
    go_enter Tryz.func30, Tryz.ntmps30
    go_wp2_with (go_at_call 16; refine hcon.mono ?_; rintro e w' ⟨rfl, hb'⟩)
    all_goals go_ret
    all_goals exact ⟨rfl, Below.refl _ _⟩
  · have hl' : ¬ (64 : Int) < (zs.length : Int) := by omega
    cases q with
    | true =>
      rw [if_pos (.inr rfl)]
      go_enter Tryz.func30, Tryz.ntmps30
      go_wp2_with (go_at_call 16; refine hcon.mono ?_; rintro e w' ⟨rfl, hb'⟩)
      all_goals go_ret
      all_goals exact ⟨rfl, hb'⟩
    | false =>
      rw [if_neg (by simp; omega)]
      go_enter Tryz.func30, Tryz.ntmps30
      go_wp2_with (go_at_call 16; refine hcon.mono ?_; rintro e w' ⟨rfl, hb'⟩)
      all_goals go_ret
      all_goals exact ⟨rfl, hb'⟩
end Go.Proofs.YtjiijgdkdlelhaaGreatDoor

/- SpellingChecks: notation.IsName. -/
namespace Go.Proofs.YtjiijgdkdlelhaaGreatDoor
open Go.Shelf Go.RowKit Go.Lib

def badB (b : Nat) : Bool := decide (b < 33) || decide (126 < b) || (decide (48 ≤ b) && decide (b ≤ 57)) || decide (b = 43) || decide (b = 45)
def isNameB (s : ByteArray) : Bool := !(decide (s.size = 0)) && !(decide (32 < s.size)) && s.data.toList.all fun b => !badB b.toNat

theorem toList_nil_iff (s : ByteArray) : s.toList = [] ↔ s.size = 0 := by
  rw [← List.length_eq_zero_iff]
  simp [ByteArray.toList_eq]

theorem isName_bad {s : ByteArray} {kk : Nat} (hlt : kk < s.size) (hb : badB (s[kk]'hlt).toNat = true) : isNameB s = false := by
  have : (s.data.toList.all fun b => !badB b.toNat) = false := by
    rw [List.all_eq_false]
    exact ⟨s[kk], by
      have : s[kk] ∈ s.data := Array.getElem_mem ..
      simpa using this, by simpa using hb⟩
  simp [isNameB, this]
theorem good_step {s : ByteArray} {kk : Nat} (h : ∀ j, j < kk → badB (s.data[j]!).toNat = false) (hlt : kk < s.size) (hb : badB (s[kk]'hlt).toNat = false) : ∀ j, j < kk + 1 → badB (s.data[j]!).toNat = false := by
  intro j hj
  by_cases e : j = kk
  · subst e
    have : s.data[j]! = s[j] := getElem!_pos s.data j hlt
    rw [this]; exact hb
  · exact h j (by omega)
theorem isName_good {s : ByteArray} (h0 : ¬ s.size = 0) (h1 : ¬ 32 < s.size) (h : ∀ j, j < s.size → badB (s.data[j]!).toNat = false) : isNameB s = true := by
  have : (s.data.toList.all fun b => !badB b.toNat) = true := by
    rw [List.all_eq_true]
    intro b hb
    obtain ⟨j, hj, rfl⟩ := List.mem_iff_getElem.1 hb
    have hj' : j < s.data.size := by simpa using hj
    have := h j hj'
    rw [getElem!_pos s.data j hj'] at this
    simpa using this
  simp [isNameB, this, h0, h1]

set_option maxHeartbeats 2000000 in
theorem isName_calls (s : ByteArray) (w : World) : Calls Tryz.prog 94 #[.string s] w fun e w' => e = .returned (.bool (isNameB s)) ∧ Below w.heap.size w w' := by
  by_cases h0 : s.size = 0
  · have he : s.toList = [] := (toList_nil_iff s).2 h0
    have hr : isNameB s = false := by simp [isNameB, h0]
    rw [hr]
    go_enter Tryz.func94, Tryz.ntmps94
    go_wp2
    all_goals go_ret
    all_goals exact ⟨rfl, Below.refl _ _⟩
  · have he : ¬ s.toList = [] := fun e => h0 ((toList_nil_iff s).1 e)
    have he2 : s.toList.isEmpty = false := by cases h : s.toList <;> simp_all
    by_cases h1 : 32 < s.size
    · have h1' : (32 : Int) < (s.size : Int) := by omega
      have hr : isNameB s = false := by simp [isNameB, h1]
      rw [hr]
      go_enter Tryz.func94, Tryz.ntmps94
      go_wp2
      all_goals go_ret
      all_goals exact ⟨rfl, Below.refl _ _⟩
    · have h1' : ¬ (32 : Int) < (s.size : Int) := by omega
      go_enter Tryz.func94, Tryz.ntmps94
      go_wp2
      go_loopg [3, 4, 14] s.size (fun gg _ _ s14 wr => ∃ kk : Nat, kk ≤ s.size ∧ s.size - kk ≤ gg ∧ s14 = .int .i64 kk ∧ wr = w ∧ Aside (∀ j, j < kk → badB (s.data[j]!).toNat = false))
      case atStart => exact ⟨0, Nat.zero_le _, by omega, rfl, rfl, fun j hj => absurd hj (Nat.not_lt_zero _)⟩
      case round =>
        obtain ⟨kk, hkk, hg, rfl, rfl, A⟩ := hrel
        by_cases hlt : kk < s.size
        · have hltz : (kk : Int) < (s.size : Int) := by omega
          go_wp2
          all_goals first
            | (go_roundg (s.size - (kk + 1))
               case measure => omega
               case rel =>
                 have hb : badB (s[kk]'hlt).toNat = false := by
                   simp only [badB, Bool.or_eq_false_iff, Bool.and_eq_false_iff, decide_eq_false_iff_not]
                   simp_all
                   try omega
                 exact ⟨kk + 1, by omega, by omega, by go_num, rfl, (show Aside _ from good_step A.out hlt hb)⟩)
            | (have hb : badB (s[kk]'hlt).toNat = true := by
                 simp only [badB, Bool.or_eq_true, Bool.and_eq_true, decide_eq_true_eq]
                 simp_all
                 try omega
               rw [isName_bad hlt hb]
               go_ret
               exact ⟨rfl, Below.refl _ _⟩)
            | trace_state
        · have hltz : ¬ (kk : Int) < (s.size : Int) := by omega
          have : kk = s.size := by omega
          subst this
          go_wp2
          go_ret
          exact ⟨by rw [isName_good h0 h1 A.out]; rfl, Below.refl _ _⟩
end Go.Proofs.YtjiijgdkdlelhaaGreatDoor

/- SpellingChecks: the closure of few. -/
namespace Go.Proofs.YtjiijgdkdlelhaaGreatDoor
open Go.Shelf Go.RowKit Go.Lib

theorem fewClosure_calls (s : ByteArray) (base : Option Addr) (n c : Nat) (w : World) : Calls Tryz.prog 93 #[.agg #[.string s, .slice base n c]] w fun e w' => e = .returned (.bool (decide (40 < s.size) || decide (14 < n))) ∧ Below w.heap.size w w' := by
  by_cases h1 : 40 < s.size
  · have h1' : (40 : Int) < (s.size : Int) := by omega
    go_enter Tryz.func93, Tryz.ntmps93
    go_wp2
    all_goals go_ret
    all_goals exact ⟨by simp_all; try omega, (Below.refl _ w).alloc (Nat.le_refl _) _⟩
  · have h1' : ¬ (40 : Int) < (s.size : Int) := by omega
    go_enter Tryz.func93, Tryz.ntmps93
    go_wp2
    all_goals go_ret
    all_goals exact ⟨by simp_all; try omega, (Below.refl _ w).alloc (Nat.le_refl _) _⟩
end Go.Proofs.YtjiijgdkdlelhaaGreatDoor

/- SpellingChecks: symbols; IndexFunc over them. -/
namespace Go.Proofs.YtjiijgdkdlelhaaGreatDoor
open Go.Shelf Go.RowKit Go.Lib

/-- A symbol: its name, the value of its row, and what the row holds. -/
structure Sym where
  name : ByteArray
  row : Value
  els : List Int
  deriving Inhabited
def Sym.enc (x : Sym) : List Value := [.string x.name, x.row]
def SymsAt (w : World) (v : Value) (L : List Sym) : Prop :=
  (∀ x ∈ L, RowAt w x.row x.els) ∧ ((∃ base c, v = .slice base 0 c ∧ L = [] ∧ (base = none → c = 0)) ∨ ∃ b off c, v = .slice (some ⟨b, off, none⟩) L.length c ∧ b < w.heap.size ∧ ∀ j, j < L.length → ∀ i u, (L[j]!.enc)[i]? = some u → w.cell? ⟨b, off + j * 2 + i, none⟩ = some u)

def longB (x : Sym) : Bool := decide (40 < x.name.size) || decide (14 < x.els.length)
theorem longClosure (x : Sym) (w : World) (h : RowAt w x.row x.els) : Calls Tryz.prog 93 #[.agg x.enc.toArray] w fun e w' => e = .returned (.bool (longB x)) ∧ Below w.heap.size w w' := by
  have hv : ∃ base c, x.row = .slice base x.els.length c := by
    rcases h with ⟨base, c, h1, h2⟩ | ⟨b, off, c, h1, _, _⟩
    · exact ⟨base, c, by rw [h1, h2]; rfl⟩
    · exact ⟨some ⟨b, off, none⟩, c, h1⟩
  obtain ⟨base, c, hv⟩ := hv
  have := fewClosure_calls x.name base x.els.length c w
  rw [← hv] at this
  exact this
end Go.Proofs.YtjiijgdkdlelhaaGreatDoor

/- SpellingChecks: IndexFunc, ContainsFunc over symbols. -/
namespace Go.Proofs.YtjiijgdkdlelhaaGreatDoor
open Go.Shelf Go.RowKit Go.Lib

set_option maxHeartbeats 2000000 in
theorem idx_long (b off n c : Nat) (zs : List Sym) (w : World) (hr : ∀ x ∈ zs, RowAt w x.row x.els) (hz : n ≤ zs.length) (hbig : n ≤ 9223372036854775807) (hb : b < w.heap.size) (hc : ∀ j, j < zs.length → ∀ i u, (zs[j]!.enc)[i]? = some u → w.cell? ⟨b, off + j * 2 + i, none⟩ = some u) :
    Calls Tryz.prog 145 #[.slice (some ⟨b, off, none⟩) n c, .func (.func 93) #[] #[]] w fun e w' => e = .returned (.int .i64 (Lib.idxBy (fun _ y => longB y) (zs.take n) default)) ∧ Below w.heap.size w w' := by
  have hrow : ∀ (W : World), Below w.heap.size w W → ∀ j, j < zs.length → W.cell? ⟨b, off + j * 2, none⟩ = some (.string zs[j]!.name) ∧ W.cell? ⟨b, off + j * 2 + 1, none⟩ = some zs[j]!.row := fun W hW j hj =>
    ⟨(hW.cell (p := ⟨b, off + j * 2, none⟩) hb).trans (hc j hj 0 _ rfl), (hW.cell (p := ⟨b, off + j * 2 + 1, none⟩) hb).trans (hc j hj 1 _ rfl)⟩
  have hrw : ∀ (W : World), Below w.heap.size w W → ∀ j, j < zs.length → RowAt W zs[j]!.row zs[j]!.els := fun W hW j hj => by
    have hm : zs[j]! ∈ zs := by rw [getElem!_pos zs j hj]; exact List.getElem_mem hj
    exact (hr _ hm).mono hW
  clear hc hr
  go_enter Tryz.func145, Tryz.ntmps145
  go_wp2
  go_loopg [5, 8] n (fun gg _ s8 wr => ∃ kk : Nat, kk ≤ n ∧ n - kk ≤ gg ∧ s8 = .int .i64 kk ∧ Aside (Below w.heap.size w wr) ∧ Aside (∀ j, j < kk → longB zs[j]! = false))
  case atStart => exact ⟨0, Nat.zero_le _, by omega, rfl, Below.refl _ w, fun j hj => absurd hj (Nat.not_lt_zero _)⟩
  case round =>
    obtain ⟨kk, hkk, hg, rfl, BW, A⟩ := hrel
    by_cases hlt : kk < n
    · have hltz : (kk : Int) < (n : Int) := by omega
      obtain ⟨l2, l3⟩ := hrow wr BW.out kk (by omega)
      have hcall : Calls Tryz.prog 93 #[.agg #[.string zs[kk]!.name, zs[kk]!.row]] wr fun e w' => e = .returned (.bool (longB zs[kk]!)) ∧ Below wr.heap.size wr w' := longClosure zs[kk]! wr (hrw wr BW.out kk (by omega))
      clear hrow hrw
      generalize hy : zs[kk]! = y at l2 l3 hcall
      have B : Aside (zs[kk]! = y) := hy
      clear hy
      cases hq : longB y with
      | true =>
        rw [hq] at hcall
        go_wp2_with (go_at_call 93; refine hcall.mono ?_; rintro e w' ⟨rfl, hb'⟩)
        go_ret
        refine ⟨?_, BW.out.trans (hb'.mono BW.out.size)⟩
        rw [Lib.idxBy_hit (fun _ y => longB y) zs n kk default hlt hz (by show longB zs[kk]! = true; rw [B.out]; exact hq) A.out]
        rfl
      | false =>
        rw [hq] at hcall
        go_wp2_with (go_at_call 93; refine hcall.mono ?_; rintro e w' ⟨rfl, hb'⟩)
        go_roundg (n - (kk + 1))
        case measure => omega
        case rel =>
          refine ⟨kk + 1, by omega, by omega, by go_num, (show Aside _ from BW.out.trans (hb'.mono BW.out.size)), (show Aside _ from fun j hj => ?_)⟩
          by_cases e : j = kk
          · subst e
            rw [B.out]; exact hq
          · exact A.out j (by omega)
    · have hltz : ¬ (kk : Int) < (n : Int) := by omega
      have : kk = n := by omega
      subst this
      go_wp2
      go_ret
      refine ⟨?_, BW.out⟩
      rw [Lib.idxBy_miss (fun _ y => longB y) zs kk default A.out]
      rfl

theorem idx_long_nil (base : Option Addr) (c : Nat) (w : World) : Calls Tryz.prog 145 #[.slice base 0 c, .func (.func 93) #[] #[]] w fun e w' => e = .returned (.int .i64 (-1)) ∧ Below w.heap.size w w' := by
  go_enter Tryz.func145, Tryz.ntmps145
  go_wp2
  go_loopg [5, 8] 0 (fun gg _ s8 wr => s8 = .int .i64 0 ∧ wr = w)
  case atStart => exact ⟨rfl, rfl⟩
  case round =>
    obtain ⟨rfl, rfl⟩ := hrel
    go_wp2
    go_ret
    exact ⟨rfl, Below.refl _ _⟩

theorem contains_long {v : Value} {L : List Sym} {w : World} (h : SymsAt w v L) (hbig : L.length ≤ 9223372036854775807) : Calls Tryz.prog 91 #[v, .func (.func 93) #[] #[]] w fun e w' => e = .returned (.bool (L.any longB)) ∧ Below w.heap.size w w' := by
  obtain ⟨hr, h⟩ := h
  rcases h with ⟨base, c, rfl, rfl, -⟩ | ⟨b, off, c, rfl, h2, h3⟩
  · clear hr
    go_enter Tryz.func91, Tryz.ntmps91
    go_wp2_with (go_at_call 145; refine (idx_long_nil base c _).mono ?_; rintro e w' ⟨rfl, hb'⟩)
    go_ret
    exact ⟨rfl, hb'⟩
  · have hi := idx_long b off L.length c L w hr (Nat.le_refl _) hbig h2 h3
    have e1 : (L.any longB) = decide (0 ≤ Lib.idxBy (fun _ y => longB y) L default) := (Lib.idxBy_nonneg_iff (fun _ y => longB y) L default).symm
    rw [List.take_length] at hi
    rw [e1]
    generalize Lib.idxBy (fun _ y => longB y) L default = q at hi ⊢
    clear h3 h2 e1 hr
    go_enter Tryz.func91, Tryz.ntmps91
    go_wp2_with (go_at_call 145; refine hi.mono ?_; rintro e w' ⟨rfl, hb'⟩)
    go_ret
    exact ⟨rfl, hb'⟩
end Go.Proofs.YtjiijgdkdlelhaaGreatDoor

/- SpellingChecks: Index, Contains over names. -/
namespace Go.Proofs.YtjiijgdkdlelhaaGreatDoor
open Go.Shelf Go.RowKit Go.Lib

set_option maxHeartbeats 2000000 in
theorem idx_name (s : ByteArray) (b off n c : Nat) (zs : List ByteArray) (w : World) (hz : n ≤ zs.length) (hbig : n ≤ 9223372036854775807) (hc : ∀ j, j < zs.length → w.cell? ⟨b, off + j, none⟩ = some (.string zs[j]!)) :
    Calls Tryz.prog 147 #[.slice (some ⟨b, off, none⟩) n c, .string s] w fun e w' => e = .returned (.int .i64 (Lib.idxBy (fun _ y => decide (s.toList = y.toList)) (zs.take n) default)) ∧ w' = w := by
  go_enter Tryz.func147, Tryz.ntmps147
  go_wp2
  go_loopg [5, 8] n (fun gg _ s8 wr => ∃ kk : Nat, kk ≤ n ∧ n - kk ≤ gg ∧ s8 = .int .i64 kk ∧ wr = w ∧ Aside (∀ j, j < kk → decide (s.toList = zs[j]!.toList) = false))
  case atStart => exact ⟨0, Nat.zero_le _, by omega, rfl, rfl, fun j hj => absurd hj (Nat.not_lt_zero _)⟩
  case round =>
    obtain ⟨kk, hkk, hg, rfl, rfl, A⟩ := hrel
    by_cases hlt : kk < n
    · have hltz : (kk : Int) < (n : Int) := by omega
      have l2 := hc kk (by omega)
      clear hc
      generalize hy : zs[kk]! = y at l2
      have B : Aside (zs[kk]! = y) := hy
      clear hy
      by_cases hq : s.toList = y.toList
      · have hq' : (s.toList == y.toList) = true := by simpa using hq
        go_wp2
        go_ret
        refine ⟨?_, rfl⟩
        rw [Lib.idxBy_hit (fun _ y => decide (s.toList = y.toList)) zs n kk default hlt hz (by show decide (s.toList = zs[kk]!.toList) = true; rw [B.out]; exact decide_eq_true hq) A.out]
        rfl
      · have hq' : (s.toList == y.toList) = false := by simpa using hq
        go_wp2
        go_roundg (n - (kk + 1))
        case measure => omega
        case rel =>
          refine ⟨kk + 1, by omega, by omega, by go_num, rfl, (show Aside _ from fun j hj => ?_)⟩
          by_cases e : j = kk
          · subst e
            rw [B.out]; exact decide_eq_false hq
          · exact A.out j (by omega)
    · have hltz : ¬ (kk : Int) < (n : Int) := by omega
      have : kk = n := by omega
      subst this
      go_wp2
      go_ret
      refine ⟨?_, rfl⟩
      rw [Lib.idxBy_miss (fun _ y => decide (s.toList = y.toList)) zs kk default A.out]
      rfl

/-- Names behind a slice value. -/
def NamesAt (w : World) (v : Value) (L : List ByteArray) : Prop :=
  (∃ c, v = .slice none 0 c ∧ L = []) ∨ ∃ b off c, v = .slice (some ⟨b, off, none⟩) L.length c ∧ ∀ j, j < L.length → w.cell? ⟨b, off + j, none⟩ = some (.string L[j]!)
theorem idx_name_nil (s : ByteArray) (c : Nat) (w : World) : Calls Tryz.prog 147 #[.slice none 0 c, .string s] w fun e w' => e = .returned (.int .i64 (-1)) ∧ w' = w := by
  go_enter Tryz.func147, Tryz.ntmps147
  go_wp2
  go_loopg [5, 8] 0 (fun gg _ s8 wr => s8 = .int .i64 0 ∧ wr = w)
  case atStart => exact ⟨rfl, rfl⟩
  case round =>
    obtain ⟨rfl, rfl⟩ := hrel
    go_wp2
    go_ret
    exact ⟨rfl, rfl⟩
theorem contains_name (s : ByteArray) {v : Value} {L : List ByteArray} {w : World} (h : NamesAt w v L) (hbig : L.length ≤ 9223372036854775807) : Calls Tryz.prog 95 #[v, .string s] w fun e w' => e = .returned (.bool (L.any fun y => decide (s.toList = y.toList))) ∧ w' = w := by
  rcases h with ⟨c, rfl, rfl⟩ | ⟨b, off, c, rfl, h3⟩
  · go_enter Tryz.func95, Tryz.ntmps95
    go_wp2_with (go_at_call 147; refine (idx_name_nil s c _).mono ?_; rintro e w' ⟨rfl, rfl⟩)
    go_ret
    exact ⟨rfl, rfl⟩
  · have hi := idx_name s b off L.length c L w (Nat.le_refl _) hbig h3
    have e1 : (L.any fun y => decide (s.toList = y.toList)) = decide (0 ≤ Lib.idxBy (fun _ y => decide (s.toList = y.toList)) L default) := (Lib.idxBy_nonneg_iff (fun _ y => decide (s.toList = y.toList)) L default).symm
    rw [List.take_length] at hi
    rw [e1]
    generalize Lib.idxBy (fun _ y => decide (s.toList = y.toList)) L default = q at hi ⊢
    clear h3 e1
    go_enter Tryz.func95, Tryz.ntmps95
    go_wp2_with (go_at_call 147; refine hi.mono ?_; rintro e w' ⟨rfl, rfl⟩)
    go_ret
    exact ⟨rfl, rfl⟩
end Go.Proofs.YtjiijgdkdlelhaaGreatDoor

/- SpellingChecks: notation.IsName. -/
import Derived.Test.YtjiijgdkdlelhaaGreatDoorScB
namespace Go.Proofs.YtjiijgdkdlelhaaGreatDoor
open Go.Shelf Go.RowKit Go.Lib

def badB (b : Nat) : Bool := decide (b < 33) || decide (126 < b) || (decide (48 ≤ b) && decide (b ≤ 57)) || decide (b = 43) || decide (b = 45)
def isNameB (s : ByteArray) : Bool := !(decide (s.size = 0)) && !(decide (32 < s.size)) && s.data.toList.all fun b => !badB b.toNat

theorem toList_nil_iff (s : ByteArray) : s.toList = [] ↔ s.size = 0 := by
  rw [← List.length_eq_zero_iff]
  simp [ByteArray.toList_eq]

theorem isName_bad {s : ByteArray} {kk : Nat} (hlt : kk < s.size) (hb : badB (s[kk]'hlt).toNat = true) : isNameB s = false := by
  have : (s.data.toList.all fun b => !badB b.toNat) = false := by
    rw [List.all_eq_false]
    exact ⟨s[kk], by
      have : s[kk] ∈ s.data := Array.getElem_mem ..
      simpa using this, by simpa using hb⟩
  simp [isNameB, this]
theorem good_step {s : ByteArray} {kk : Nat} (h : ∀ j, j < kk → badB (s.data[j]!).toNat = false) (hlt : kk < s.size) (hb : badB (s[kk]'hlt).toNat = false) : ∀ j, j < kk + 1 → badB (s.data[j]!).toNat = false := by
  intro j hj
  by_cases e : j = kk
  · subst e
    have : s.data[j]! = s[j] := getElem!_pos s.data j hlt
    rw [this]; exact hb
  · exact h j (by omega)
theorem isName_good {s : ByteArray} (h0 : ¬ s.size = 0) (h1 : ¬ 32 < s.size) (h : ∀ j, j < s.size → badB (s.data[j]!).toNat = false) : isNameB s = true := by
  have : (s.data.toList.all fun b => !badB b.toNat) = true := by
    rw [List.all_eq_true]
    intro b hb
    obtain ⟨j, hj, rfl⟩ := List.mem_iff_getElem.1 hb
    have hj' : j < s.data.size := by simpa using hj
    have := h j hj'
    rw [getElem!_pos s.data j hj'] at this
    simpa using this
  simp [isNameB, this, h0, h1]

set_option maxHeartbeats 2000000 in
theorem isName_calls (s : ByteArray) (w : World) : Calls Tryz.prog 94 #[.string s] w fun e w' => e = .returned (.bool (isNameB s)) ∧ Below w.heap.size w w' := by
  by_cases h0 : s.size = 0
  · have he : s.toList = [] := (toList_nil_iff s).2 h0
    have hr : isNameB s = false := by simp [isNameB, h0]
    rw [hr]
    go_enter Tryz.func94, Tryz.ntmps94
    go_wp2
    all_goals go_ret
    all_goals exact ⟨rfl, Below.refl _ _⟩
  · have he : ¬ s.toList = [] := fun e => h0 ((toList_nil_iff s).1 e)
    have he2 : s.toList.isEmpty = false := by cases h : s.toList <;> simp_all
    by_cases h1 : 32 < s.size
    · have h1' : (32 : Int) < (s.size : Int) := by omega
      have hr : isNameB s = false := by simp [isNameB, h1]
      rw [hr]
      go_enter Tryz.func94, Tryz.ntmps94
      go_wp2
      all_goals go_ret
      all_goals exact ⟨rfl, Below.refl _ _⟩
    · have h1' : ¬ (32 : Int) < (s.size : Int) := by omega
      go_enter Tryz.func94, Tryz.ntmps94
      go_wp2
      go_loopg [3, 4, 14] s.size (fun gg _ _ s14 wr => ∃ kk : Nat, kk ≤ s.size ∧ s.size - kk ≤ gg ∧ s14 = .int .i64 kk ∧ wr = w ∧ Aside (∀ j, j < kk → badB (s.data[j]!).toNat = false))
      case atStart => exact ⟨0, Nat.zero_le _, by omega, rfl, rfl, fun j hj => absurd hj (Nat.not_lt_zero _)⟩
      case round =>
        obtain ⟨kk, hkk, hg, rfl, rfl, A⟩ := hrel
        by_cases hlt : kk < s.size
        · have hltz : (kk : Int) < (s.size : Int) := by omega
          go_wp2
          all_goals first
            | (go_roundg (s.size - (kk + 1))
               case measure => omega
               case rel =>
                 have hb : badB (s[kk]'hlt).toNat = false := by
                   simp only [badB, Bool.or_eq_false_iff, Bool.and_eq_false_iff, decide_eq_false_iff_not]
                   simp_all
                   try omega
                 exact ⟨kk + 1, by omega, by omega, by go_num, rfl, (show Aside _ from good_step A.out hlt hb)⟩)
            | (have hb : badB (s[kk]'hlt).toNat = true := by
                 simp only [badB, Bool.or_eq_true, Bool.and_eq_true, decide_eq_true_eq]
                 simp_all
                 try omega
               rw [isName_bad hlt hb]
               go_ret
               exact ⟨rfl, Below.refl _ _⟩)
            | trace_state
        · have hltz : ¬ (kk : Int) < (s.size : Int) := by omega
          have : kk = s.size := by omega
          subst this
          go_wp2
          go_ret
          exact ⟨by rw [isName_good h0 h1 A.out]; rfl, Below.refl _ _⟩
end Go.Proofs.YtjiijgdkdlelhaaGreatDoor

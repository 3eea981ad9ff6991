/- temperament.Just over one prime, evaluated by the kernel: what it returns is a pair whose first part is three slices. -/
import Derived.Test.YtjiijgdkdlelhaaGreatDoorEvKn43
import Derived.Test.YtjiijgdkdlelhaaGreatDoorEvX
namespace Go.Proofs.YtjiijgdkdlelhaaGreatDoor
open Go.Ev Go.RowKit
noncomputable def isSl : Value → Bool
  | .slice _ _ _ => true
  | _ => false
noncomputable def shapeT : Value → Bool
  | .tuple p => Nat.beq p.size 2 && (match p.getD 0 undef with
    | .agg q => Nat.beq q.size 3 && (isSl (q.getD 0 undef) && (isSl (q.getD 1 undef) && isSl (q.getD 2 undef)))
    | _ => false)
  | _ => false
noncomputable def okT (r : Option Res) : Bool := match r with
  | some (.val v _) => shapeT v
  | _ => false
theorem just_run : okT (run tab 5000 none 0 (.fn 46 [.slice (some ⟨512, 0, none⟩) 1 1]) (hpB gs [.int .i64 2])) = true := by kernel_rfl

theorem VR_sl {i : Im} {v v' : Value} (h : VR i v v') (e : isSl v = true) : ∃ b n c, v' = .slice b n c := by
  cases h with
  | scal _ =>
    cases v with
    | slice b n c => exact ⟨b, n, c, rfl⟩
    | _ => cases e
  | nilSlice n c => exact ⟨_, _, _, rfl⟩
  | slice _ _ _ _ => exact ⟨_, _, _, rfl⟩
  | _ => cases e
theorem arr2 {p : Array Value} {a b : Value} (hs : p.size = 2) (h0 : p.getD 0 undef = a) (h1 : p.getD 1 undef = b) : p = #[a, b] := by
  apply Array.ext
  · simpa using hs
  · intro i hi _
    have hi2 : i < 2 := by omega
    match i, hi2 with
    | 0, _ => simpa [Array.getD, show 0 < p.size by omega] using h0
    | 1, _ => simpa [Array.getD, show 1 < p.size by omega] using h1
theorem arr3 {p : Array Value} {a b c : Value} (hs : p.size = 3) (h0 : p.getD 0 undef = a) (h1 : p.getD 1 undef = b) (h2 : p.getD 2 undef = c) : p = #[a, b, c] := by
  apply Array.ext
  · simpa using hs
  · intro i hi _
    have hi2 : i < 3 := by omega
    match i, hi2 with
    | 0, _ => simpa [Array.getD, show 0 < p.size by omega] using h0
    | 1, _ => simpa [Array.getD, show 1 < p.size by omega] using h1
    | 2, _ => simpa [Array.getD, show 2 < p.size by omega] using h2
theorem VR_shapeT {i : Im} {v v' : Value} (h : VR i v v') (e : shapeT v = true) : ∃ a1 b1 c1 a2 b2 c2 a3 b3 c3 y, v' = .tuple #[.agg #[.slice a1 b1 c1, .slice a2 b2 c2, .slice a3 b3 c3], y] := by
  cases h with
  | tuple hp hpp =>
    rename_i p p'
    simp only [shapeT, Bool.and_eq_true] at e
    obtain ⟨e1, e2⟩ := e
    have e1 : p.size = 2 := Nat.eq_of_beq_eq_true e1
    have h0 := hpp 0 (by omega)
    split at e2
    · rename_i q hq
      rw [hq] at h0
      simp only [Bool.and_eq_true] at e2
      obtain ⟨e3, e4, e5, e6⟩ := e2
      have e3 : q.size = 3 := Nat.eq_of_beq_eq_true e3
      generalize hx : p'.getD 0 undef = x at h0
      cases h0 with
      | scal h => cases h
      | agg hp2 hpp2 =>
        rename_i q'
        obtain ⟨a1, b1, c1, g1⟩ := VR_sl (hpp2 0 (by omega)) e4
        obtain ⟨a2, b2, c2, g2⟩ := VR_sl (hpp2 1 (by omega)) e5
        obtain ⟨a3, b3, c3, g3⟩ := VR_sl (hpp2 2 (by omega)) e6
        refine ⟨a1, b1, c1, a2, b2, c2, a3, b3, c3, p'.getD 1 undef, ?_⟩
        have hq' : q' = #[.slice a1 b1 c1, .slice a2 b2 c2, .slice a3 b3 c3] := arr3 (by omega) g1 g2 g3
        rw [hq'] at hx
        exact congrArg Value.tuple (arr2 (by omega) hx rfl)
    · cases e2
  | scal h =>
    cases v with
    | tuple p => cases h
    | _ => cases e
  | _ => cases e
theorem just_calls {w : World} (h1 : ∀ x ∈ gs, x.1 < 64 ∧ x.1 < w.heap.size ∧ x.2.all scal = true ∧ x.2.length ≤ 1000000 ∧ w.rangeAt x.1 0 x.2) {ba : Nat} (hb : ba < w.heap.size) (hr : w.rangeAt ba 0 [.int .i64 2]) :
    Calls Tryz.prog 46 #[.slice (some ⟨ba, 0, none⟩) 1 1] w fun e w' => (∃ a1 b1 c1 a2 b2 c2 a3 b3 c3 y, e = .returned (.tuple #[.agg #[.slice a1 b1 c1, .slice a2 b2 c2, .slice a3 b3 c3], y])) ∧ Below w.heap.size w w' := by
  have h := just_run
  unfold okT at h
  split at h
  · rename_i v h' hr'
    refine (call_startB tab_ok hr' h1 hb rfl (by simp) hr).mono ?_
    rintro e w' ⟨⟨v', j, rfl, hvr⟩, hB⟩
    obtain ⟨a1, b1, c1, a2, b2, c2, a3, b3, c3, y, rfl⟩ := VR_shapeT hvr h
    exact ⟨⟨a1, b1, c1, a2, b2, c2, a3, b3, c3, y, rfl⟩, hB⟩
  · cases h
end Go.Proofs.YtjiijgdkdlelhaaGreatDoor

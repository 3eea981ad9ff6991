/- The evaluator Ev: operations that touch no memory. -/
import Derived.Test.YtjiijgdkdlelhaaGreatDoorEvP
namespace Go.Ev
open Go.RowKit Go.Lib

/-- It hands back the heap that it was given, and would do so of any. -/
def Free (f : Hp → Option (Value × Hp)) : Prop := ∀ h v hx, f h = some (v, hx) → ∀ h2, f h2 = some (v, h2)
theorem free_none : Free fun _ => none := fun _ _ _ e => by cases e
theorem free_some (v : Value) : Free fun h => some (v, h) := fun _ _ _ e h2 => by cases e; rfl
theorem free_withH (x : Option Value) : Free fun h => withH h x := by
  cases x with
  | none => exact free_none
  | some v => exact free_some v

section
variable {A : Tab}
theorem free_pick (c a b : Operand) (env : List Value) : Free (opPick c a b A env) := by
  intro h v hx e h2
  unfold opPick at e ⊢
  split at e
  · exact free_withH _ h v hx e h2
  · exact free_withH _ h v hx e h2
  · cases e
theorem free_build (t : TypeId) (ps : Array (Nat × Operand)) (env : List Value) : Free (opBuild t ps A env) := by
  intro h v hx e h2
  unfold opBuild at e ⊢
  split at e
  · unfold bdGo at e ⊢
    split at e
    · unfold aggH at e ⊢
      split at e
      · cases e; rfl
      · cases e
    · cases e
  · cases e
theorem free_nil (x : Operand) (env : List Value) : Free (opNilCheck x A env) := by
  intro h v hx e h2
  unfold opNilCheck at e ⊢
  split at e
  · split at e
    · cases e; rfl
    · cases e
  · cases e
theorem free_bin (op : BinOp) (t : TypeId) (x y : Operand) (u : TypeId) (env : List Value) : Free (opBin op t x y u A env) := by
  intro h v hx e h2
  unfold opBin at e ⊢
  split at e
  · exact free_withH _ h v hx e h2
  · cases e
theorem free_un (op : UnOp) (t : TypeId) (x : Operand) (env : List Value) : Free (opUn op t x A env) := by
  intro h v hx e h2
  unfold opUn at e ⊢
  split at e
  · exact free_withH _ h v hx e h2
  · cases e
theorem free_iface (t : TypeId) (x : Operand) (env : List Value) : Free (opMakeIface t x A env) := by
  intro h v hx e h2
  unfold opMakeIface at e ⊢
  split at e
  · split at e
    · cases e
    · cases e; rfl
  · cases e
theorem free_func (fn : Fn) (p q : Array Operand) (env : List Value) : Free (opMakeFunc fn p q A env) := by
  intro h v hx e h2
  unfold opMakeFunc at e ⊢
  split at e
  · cases e; rfl
  · cases e
theorem free_slMk (base : Option Addr) (sz lo hi c : Nat) : Free fun h => slMk h base sz lo hi c := by
  intro h v hx e h2
  dsimp only at e ⊢
  unfold slMk at e ⊢
  split at e
  · cases e; rfl
  · split at e
    · cases e; rfl
    · cases e
  · cases e
theorem free_slGo (e : TypeId) (base : Option Addr) (n c : Nat) (lo hi : Option Value) : Free fun h => slGo A h e base n c lo hi := by
  intro h v hx e h2
  dsimp only at e ⊢
  unfold slGo at e ⊢
  split at e
  · split at e
    · exact free_slMk _ _ _ _ _ h v hx e h2
    · cases e
  · cases e
theorem free_slDesc (d : TypeDesc) (x : Value) (lo hi : Option Value) : Free fun h => slDesc A h d x lo hi := by
  intro h v hx e h2
  dsimp only at e ⊢
  unfold slDesc at e ⊢
  split at e
  · split at e
    · unfold slStr at e ⊢
      split at e
      · split at e
        · cases e; rfl
        · cases e
      · cases e
    · cases e
  · split at e
    · exact free_slGo _ _ _ _ _ _ h v hx e h2
    · cases e
  · split at e
    · split at e
      · exact free_slGo _ _ _ _ _ _ h v hx e h2
      · cases e
    · cases e
  · cases e
theorem free_slice (t : TypeId) (x : Operand) (lo hi mx : Option Operand) (env : List Value) : Free (opSlice t x lo hi mx A env) := by
  intro h v hx e h2
  unfold opSlice at e ⊢
  split at e
  · split at e
    · exact free_slDesc _ _ _ _ h v hx e h2
    · cases e
  · cases e
theorem free_fieldAddr (t : TypeId) (x : Operand) (f : Nat) (env : List Value) : Free (opFieldAddr t x f A env) := by
  intro h v hx e h2
  unfold opFieldAddr at e ⊢
  split at e
  · unfold faGo at e ⊢
    split at e
    · split at e
      · cases e; rfl
      · cases e
    · cases e
  · cases e
theorem free_field (t : TypeId) (x : Operand) (f : Nat) (env : List Value) : Free (opField t x f A env) := by
  intro h v hx e h2
  unfold opField at e ⊢
  split at e
  · split at e
    · exact free_withH _ h v hx e h2
    · cases e
  · cases e
theorem free_iaGo (e : TypeId) (b o n i : Nat) : Free fun h => iaGo A h e b o n i := by
  intro h v hx e h2
  dsimp only at e ⊢
  unfold iaGo at e ⊢
  split at e
  · split at e
    · cases e; rfl
    · cases e
  · cases e
theorem free_indexAddr (t : TypeId) (x ix : Operand) (env : List Value) : Free (opIndexAddr t x ix A env) := by
  intro h v hx e h2
  unfold opIndexAddr at e ⊢
  split at e
  · unfold iaDesc at e ⊢
    split at e
    · split at e
      · exact free_iaGo _ _ _ _ _ h v hx e h2
      · cases e
    · split at e
      · exact free_iaGo _ _ _ _ _ h v hx e h2
      · cases e
    · cases e
  · cases e
theorem free_index (t : TypeId) (x ix : Operand) (env : List Value) : Free (opIndex t x ix A env) := by
  intro h v hx e h2
  unfold opIndex at e ⊢
  split at e
  · unfold ixDesc at e ⊢
    split at e
    · split at e
      · unfold ixArr at e ⊢
        split at e
        · exact free_withH _ h v hx e h2
        · cases e
      · cases e
    · split at e
      · unfold ixStr at e ⊢
        split at e
        · cases e; rfl
        · cases e
      · cases e
    · cases e
  · cases e
theorem free_extract (t : Operand) (ix : Nat) (env : List Value) : Free (opExtract t ix A env) := by
  intro h v hx e h2
  unfold opExtract at e ⊢
  split at e
  · exact free_withH _ h v hx e h2
  · cases e
theorem free_convert (src dst : TypeId) (x : Operand) (env : List Value) (hc : convP A src dst = true) : Free (opConvert src dst x A env) := by
  intro h v hx e h2
  unfold opConvert at e ⊢
  split at e
  case h_2 => cases e
  rename_i u ds dd hu hs hd
  unfold convP at hc
  rw [hs, hd] at hc
  unfold cvGo at e ⊢
  split at hc
  · rename_i k1 k2 h1 h2'
    cases h1
    cases h2'
    split at e
    · exact free_withH _ h v hx e h2
    · cases e
    · cases e
    · cases e
  · rename_i h1 h2'
    cases h1
    cases h2'
    split at e
    · cases e
    · unfold cvStr at e ⊢
      cases e
      rfl
    · unfold cvBytes at e
      cases e
    · cases e
  · cases hc
theorem free_lenV (d : TypeDesc) (x : Value) (hd : (match d with | .string | .slice _ | .array _ _ => true | _ => false) = true) : Free fun h => lenV h d x := by
  intro h v hx e h2
  dsimp only at e ⊢
  unfold lenV at e ⊢
  split at e
  · split at e
    · cases e; rfl
    · cases e
  · split at e
    · cases e; rfl
    · cases e
  · split at e
    · cases hd
    · cases e
  · split at e
    · cases hd
    · cases e
  · split at e
    · cases e; rfl
    · cases e
  · cases e
theorem free_call (c : Call) (env : List Value) (hc : callP A c = true) : Free (opCall c A env) := by
  intro h v hx e h2
  unfold callP at hc
  unfold opCall at e ⊢
  cases hcal : c.callee with
  | value f => rw [hcal] at hc; cases hc
  | invoke r n => rw [hcal] at hc; cases hc
  | builtin b =>
    rw [hcal] at hc e
    replace e : opBuiltin b c.args c.argTypes A env h = some (v, hx) := e
    show opBuiltin b c.args c.argTypes A env h2 = some (v, h2)
    unfold opBuiltin at e ⊢
    split at e
    case h_2 => cases e
    rename_i vs hvs
    cases b with
    | len =>
      replace hc : lenP A c.argTypes.toList = true := hc
      replace e : buLen A h c.argTypes.toList vs = some (v, hx) := e
      show buLen A h2 c.argTypes.toList vs = some (v, h2)
      unfold buLen at e ⊢
      unfold lenP at hc
      split at e
      case h_2 => cases e
      rename_i t rest x hts
      rw [hts] at hc
      dsimp only at hc
      split at e
      case h_2 => cases e
      rename_i d hd
      rw [hd] at hc
      refine free_lenV d x ?_ h v hx e h2
      cases d <;> first | rfl | cases hc
    | cap =>
      replace e : buCap A h c.argTypes.toList vs = some (v, hx) := e
      show buCap A h2 c.argTypes.toList vs = some (v, h2)
      unfold buCap at e ⊢
      split at e
      case h_2 => cases e
      split at e
      case h_2 => cases e
      unfold capV at e ⊢
      split at e
      · cases e; rfl
      · cases e; rfl
      · cases e
    | max =>
      replace e : buMax A h c.argTypes.toList vs = some (v, hx) := e
      show buMax A h2 c.argTypes.toList vs = some (v, h2)
      unfold buMax at e ⊢
      split at e
      · exact free_withH _ h v hx e h2
      · cases e
    | min =>
      replace e : buMin A h c.argTypes.toList vs = some (v, hx) := e
      show buMin A h2 c.argTypes.toList vs = some (v, h2)
      unfold buMin at e ⊢
      split at e
      · exact free_withH _ h v hx e h2
      · cases e
    | _ => cases hc

theorem pOrE_p {b : Bool} (h : pOrE b = .p) : b = true := by cases b <;> first | rfl | cases h

/-- What the plan calls 'p'. -/
theorem pure_free (op : Op) (env : List Value) (hc : clsOf A op = .p) : Free (pureOp op A env) := by
  cases op with
  | move x => exact free_withH (opnd env x)
  | assign x => exact free_withH (opnd env x)
  | pick c a b => exact free_pick (A := A) c a b env
  | build t ps => exact free_build t ps env
  | nilCheck x => exact free_nil (A := A) x env
  | binOp op t x y u => exact free_bin op t x y u env
  | unOp op t x => exact free_un (A := A) op t x env
  | makeInterface t x => exact free_iface t x env
  | makeFunc fn p q => exact free_func (A := A) fn p q env
  | slice t x lo hi mx => exact free_slice t x lo hi mx env
  | fieldAddr t x f => exact free_fieldAddr t x f env
  | field t x f => exact free_field t x f env
  | indexAddr t x ix => exact free_indexAddr t x ix env
  | index t x ix => exact free_index t x ix env
  | extract t ix => exact free_extract (A := A) t ix env
  | convert src dst x => exact free_convert src dst x env (pOrE_p hc)
  | call c => exact free_call c env (pOrE_p hc)
  | load t x => cases hc
  | _ => first | (cases hc; done) | exact free_none
theorem cls_callee (op : Op) (hc : clsOf A op = .p) : calleeOf op = none := by
  cases op with
  | call c =>
    have h := pOrE_p (show pOrE (callP A c) = .p from hc)
    unfold callP at h
    unfold calleeOf
    cases hcal : c.callee with
    | value f => rw [hcal] at h; cases h
    | _ => simp only [hcal]
  | _ => rfl
theorem cls_load (op : Op) (hc : clsOf A op = .r) : ∃ t x, op = .load t x := by
  cases op with
  | load t x => exact ⟨t, x, rfl⟩
  | convert src dst x => 
    have : pOrE (convP A src dst) = .r := hc
    cases h : convP A src dst <;> rw [h] at this <;> cases this
  | call c =>
    have : pOrE (callP A c) = .r := hc
    cases h : callP A c <;> rw [h] at this <;> cases this
  | _ => cases hc
end
end Go.Ev

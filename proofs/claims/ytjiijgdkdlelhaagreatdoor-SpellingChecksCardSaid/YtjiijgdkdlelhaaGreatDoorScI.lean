/- SpellingChecks: the error of a notation, as a plain function. -/
import Derived.Test.YtjiijgdkdlelhaaGreatDoorScH
namespace Go.Proofs.YtjiijgdkdlelhaaGreatDoor
open Go.Shelf Go.RowKit Go.Lib

/-- The error of one symbol behind others. -/
def symErr (k : Nat) (N : List ByteArray) (x : Sym) : Int :=
  if isNameB x.name = false then 8
  else if (N.any fun y => decide (x.name.toList = y.toList)) = true then 9
  else if rowErr x.els ≠ 0 then rowErr x.els
  else if 12 < x.els.length then 4
  else if x.els.length ≠ k then 5
  else 0
/-- The first error of the symbols from the kk-th on. -/
def errFrom (k : Nat) (N : List ByteArray) : List Sym → Int
  | [] => 0
  | x :: L => if symErr k N x ≠ 0 then symErr k N x else errFrom k (N ++ [x.name]) L
def noteErr (L M : List Sym) : Int :=
  if L.length = 0 then 13
  else if 60 < L.length ∨ 6 < M.length then 4
  else errFrom L[0]!.els.length [] (L ++ M)
def fewB (L M : List Sym) : Bool :=
  if (4 < L.length ∧ (L.length < 60 ∨ 62 < L.length)) ∨ 8 < M.length then false else !((L ++ M).any longB)

def namesOf (L : List Sym) (kk : Nat) : List ByteArray := (L.take kk).map Sym.name
theorem namesOf_succ {L : List Sym} {kk : Nat} (h : kk < L.length) : namesOf L (kk + 1) = namesOf L kk ++ [L[kk]!.name] := by
  unfold namesOf
  rw [List.take_add_one, List.map_append, getElem!_pos L kk h, List.getElem?_eq_getElem h]
  rfl
theorem namesOf_length {L : List Sym} {kk : Nat} (h : kk ≤ L.length) : (namesOf L kk).length = kk := by
  unfold namesOf
  simp
  omega
theorem errFrom_hit {L : List Sym} {k kk : Nat} (h : kk < L.length) (he : symErr k (namesOf L kk) L[kk]! ≠ 0) : errFrom k (namesOf L kk) (L.drop kk) = symErr k (namesOf L kk) L[kk]! := by
  rw [List.drop_eq_getElem_cons h, errFrom, if_pos (by rw [← getElem!_pos L kk h]; exact he), getElem!_pos L kk h]
theorem errFrom_miss {L : List Sym} {k kk : Nat} (h : kk < L.length) (he : symErr k (namesOf L kk) L[kk]! = 0) : errFrom k (namesOf L kk) (L.drop kk) = errFrom k (namesOf L (kk + 1)) (L.drop (kk + 1)) := by
  rw [List.drop_eq_getElem_cons h, errFrom, if_neg (by rw [← getElem!_pos L kk h]; simpa using he), namesOf_succ h, getElem!_pos L kk h]
theorem errFrom_end {L : List Sym} {k : Nat} {N : List ByteArray} : errFrom k N (L.drop L.length) = 0 := by
  rw [List.drop_length]; rfl
end Go.Proofs.YtjiijgdkdlelhaaGreatDoor

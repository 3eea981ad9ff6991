/- The evaluator Ev: definitions (trie of blocks, abstract heap, evaluation of operations and code). No theorem of the program is stated here. -/
import Derived.CallsIn
import Derived.RangeFuncLeaves
import Derived.OrdersIn
import Derived.Below
/- The evaluator Ev: definitions (trie of blocks, abstract heap, evaluation of operations and code). No theorem of the program is stated here. -/
namespace Go.Ev

/-! ### 1. A trie over numbers -/
inductive Tr (α : Type) where
  | e
  | n (v : Option α) (l r : Tr α)

/-- A Bool's two ways. -/
noncomputable abbrev ifB {α : Type} (b : Bool) (x y : α) : α := Bool.rec y x b

noncomputable def Tr.get {α : Type} (t : Tr α) : Nat → Option α :=
  Tr.rec (fun _ => none) (fun v _ _ l r k => ifB (Nat.beq k (nat_lit 0)) v (ifB (Nat.beq (Nat.mod k (nat_lit 2)) (nat_lit 1)) (l (Nat.div k (nat_lit 2))) (r (Nat.pred (Nat.div k (nat_lit 2)))))) t

noncomputable def Tr.upd {α : Type} (x : α) (t : Tr α) : Nat → Tr α :=
  Tr.rec (fun _ => .e) (fun v l r il ir k => ifB (Nat.beq k (nat_lit 0)) (.n (v.map fun _ => x) l r) (ifB (Nat.beq (Nat.mod k (nat_lit 2)) (nat_lit 1)) (.n v (il (Nat.div k (nat_lit 2))) r) (.n v l (ir (Nat.pred (Nat.div k (nat_lit 2))))))) t

noncomputable def Tr.ins {α : Type} (x : α) (d : Nat) : Tr α → Nat → Tr α :=
  Nat.rec (fun t _ => t) (fun _ ih t k => Tr.rec
    (ifB (Nat.beq k (nat_lit 0)) (.n (some x) .e .e) (ifB (Nat.beq (Nat.mod k (nat_lit 2)) (nat_lit 1)) (.n none (ih .e (Nat.div k (nat_lit 2))) .e) (.n none .e (ih .e (Nat.pred (Nat.div k (nat_lit 2)))))))
    (fun v l r _ _ => ifB (Nat.beq k (nat_lit 0)) (.n (some x) l r) (ifB (Nat.beq (Nat.mod k (nat_lit 2)) (nat_lit 1)) (.n v (ih l (Nat.div k (nat_lit 2))) r) (.n v l (ih r (Nat.pred (Nat.div k (nat_lit 2)))))))
    t) d

/-! ### 2. The abstract heap -/
structure ALoop where
  state : LoopState
  pending : Option Code
  fn : FuncId
  env : List Value
  params : List Tmp
  assign : Code
  body : Code
  defers : Nat

inductive Blk where
  | cells (cs : List Value) (ro : Bool)
  | map (es : List (Value × Value))
  | loop (l : ALoop)
  | defs
  | dead

structure Hp where
  next : Nat
  tab : Tr Blk

noncomputable def Hp.get (h : Hp) (b : Nat) : Option Blk := h.tab.get b
noncomputable def Hp.upd (h : Hp) (b : Nat) (x : Blk) : Hp := { h with tab := h.tab.upd x b }
/-- A block's number tells how many cells an element of its slices has (1 to 7; 0: it doesn't tell). -/
noncomputable def elOf (b : Nat) : Nat := b % 8
noncomputable def elFor (sz : Nat) : Nat := match Nat.ble sz 7 with
  | true => sz
  | false => 0
noncomputable def Hp.num (h : Hp) (el : Nat) : Nat := h.next * 8 + el
noncomputable def Hp.new (h : Hp) (el : Nat) (x : Blk) : Option (Nat × Hp) :=
  match Nat.blt h.next 1000000000000 && Nat.blt el 8 with
  | true => some (h.num el, { next := h.next + 1, tab := Tr.ins x 48 h.tab (h.num el) })
  | false => none

/-! ### 3. The program, as the evaluator reads it -/
structure Tab where
  fn : Tr Func
  ty : Tr (TypeInfo × TypeDesc)

noncomputable def Tab.desc (A : Tab) (t : TypeId) : Option TypeDesc := (A.ty.get t).map (·.2)
noncomputable def Tab.size (A : Tab) (t : TypeId) : Option Nat := (A.ty.get t).map (·.1.size)
noncomputable def Tab.zero (A : Tab) (t : TypeId) : Option (List Value) :=
  match A.ty.get t with
  | some (i, _) => match i.zero with
    | some v => some v.cells.toList
    | none => none
  | none => none

/-! ### 4. Values -/
noncomputable def scal : Value → Bool
  | .bool _ | .int _ _ | .string _ | .nilFunc | .nilIface | .pointer none | .map none | .slice none 0 0 => true
  | _ => false
noncomputable def flat : Value → Bool
  | .agg cs => cs.toList.all scal
  | v => scal v

noncomputable def getL (l : List Value) : Nat → Value :=
  List.rec (fun _ => undef) (fun x _ ih n => Nat.rec x (fun m _ => ih m) n) l
noncomputable def setL (v : Value) (l : List Value) : Nat → List Value :=
  List.rec (fun _ => []) (fun x xs ih n => Nat.rec (v :: xs) (fun m _ => x :: ih m) n) l
/-- vs over the cells from o on. -/
noncomputable def putL (cs : List Value) (o : Nat) (vs : List Value) : List Value := cs.take o ++ vs ++ cs.drop (o + vs.length)
noncomputable def nthL {α : Type} (l : List α) : Nat → Option α :=
  List.rec (fun _ => none) (fun x _ ih n => Nat.rec (some x) (fun m _ => ih m) n) l

noncomputable def opnd (env : List Value) : Operand → Option Value
  | .tmp t => some (getL env t)
  | .const v => match flat v with
    | true => some v
    | false => none
  | .global g => match Nat.blt g 64 with
    | true => some (.pointer (some ⟨g * 8, 0, none⟩))
    | false => none
  | .func f => some (.func (.func f) #[] #[])

noncomputable def bindO {α β : Type} (x : Option α) (f : α → Option β) : Option β := Option.rec none f x
noncomputable def opnds (env : List Value) (l : List Operand) : Option (List Value) :=
  List.rec (some []) (fun x _ ih => bindO (opnd env x) fun v => bindO ih fun vs => some (v :: vs)) l

noncomputable def isAggD : TypeDesc → Bool
  | .struct _ | .array _ _ => true
  | _ => false

/-- n cells from o on of block b. -/
noncomputable def Hp.cells (h : Hp) (b o n : Nat) : Option (List Value) :=
  match h.get b with
  | some (.cells cs _) => match Nat.ble (o + n) cs.length with
    | true => some ((cs.drop o).take n)
    | false => none
  | _ => none

noncomputable def Hp.loadV (A : Tab) (h : Hp) (t : TypeId) : Value → Option Value
  | .pointer (some ⟨b, o, none⟩) =>
    match A.ty.get t with
    | some (i, d) =>
      match h.get b with
      | some (.cells cs _) =>
        match isAggD d with
        | true => match Nat.ble (o + i.size) cs.length with
          | true => some (.agg ⟨(cs.drop o).take i.size⟩)
          | false => none
        | false => nthL cs o
      | _ => none
    | none => none
  | _ => none

/-- vs into the cells from o on of block b: not if it may only be read. -/
noncomputable def Hp.put (h : Hp) (b o : Nat) (vs : List Value) : Option Hp :=
  match h.get b with
  | some (.cells cs false) => match Nat.ble (o + vs.length) cs.length with
    | true => some (h.upd b (.cells (putL cs o vs) false))
    | false => none
  | _ => none

noncomputable def one : Value → Bool
  | .agg _ | .tuple _ => false
  | _ => true

noncomputable def Hp.storeV (A : Tab) (h : Hp) (t : TypeId) (v : Value) : Value → Option Hp
  | .pointer (some ⟨b, o, none⟩) =>
    match A.ty.get t with
    | some (i, _) =>
      match Nat.beq v.cells.toList.length i.size && v.cells.toList.all one with
      | true => h.put b o v.cells.toList
      | false => none
    | none => none
  | _ => none

/-! ### 5. Operations without calls
Every definition is small, and the branches of the great ones name no variable of theirs: the kernel copies what it unfolds. -/
noncomputable def strCat (x y : ByteArray) : ByteArray := ⟨⟨x.data.toList ++ y.data.toList⟩⟩
noncomputable def strCut (s : ByteArray) (l h : Nat) : ByteArray := ⟨⟨(s.data.toList.drop l).take (h - l)⟩⟩
noncomputable def eqBytes : List UInt8 → List UInt8 → Bool
  | [], [] => true
  | x :: xs, y :: ys => match Nat.beq x.toNat y.toNat with
    | true => eqBytes xs ys
    | false => false
  | _, _ => false
noncomputable def ltBytes : List UInt8 → List UInt8 → Bool
  | _, [] => false
  | [], _ :: _ => true
  | x :: xs, y :: ys => match Nat.blt x.toNat y.toNat with
    | true => true
    | false => match Nat.beq x.toNat y.toNat with
      | true => ltBytes xs ys
      | false => false

noncomputable def eqI : Int → Int → Bool
  | .ofNat a, .ofNat b => Nat.beq a b
  | .negSucc a, .negSucc b => Nat.beq a b
  | _, _ => false
noncomputable def ltI : Int → Int → Bool
  | .ofNat a, .ofNat b => Nat.blt a b
  | .negSucc a, .negSucc b => Nat.blt b a
  | .negSucc _, .ofNat _ => true
  | .ofNat _, .negSucc _ => false
/-- Up to this number the values of a kind, and so many below zero. -/
noncomputable def topOf : IntKind → Nat
  | .i8 => 127
  | .i16 => 32767
  | .i32 => 2147483647
  | .i64 => 9223372036854775807
  | .u8 => 255
  | .u16 => 65535
  | .u32 => 4294967295
  | .u64 => 18446744073709551615
noncomputable def lowOf : IntKind → Nat
  | .i8 => 128
  | .i16 => 32768
  | .i32 => 2147483648
  | .i64 => 9223372036854775808
  | _ => 0
noncomputable def wrapN (k : IntKind) (n : Nat) : Int := match Nat.ble n (topOf k) with
  | true => .ofNat n
  | false => k.wrap (.ofNat n)
noncomputable def wrapM (k : IntKind) (n : Nat) : Int := match Nat.blt n (lowOf k) with
  | true => .negSucc n
  | false => k.wrap (.negSucc n)
noncomputable def wrapI (k : IntKind) (n : Int) : Int := match n with
  | .ofNat n => wrapN k n
  | .negSucc n => wrapM k n

noncomputable def someI (k : IntKind) (n : Int) : Option Value := some (.int k (wrapI k n))
noncomputable def someB (b : Bool) : Option Value := some (.bool b)
noncomputable def biAdd (k : IntKind) (a b : Int) := someI k (a + b)
noncomputable def biSub (k : IntKind) (a b : Int) := someI k (a - b)
noncomputable def biMul (k : IntKind) (a b : Int) := someI k (a * b)
noncomputable def biQuo (k : IntKind) (a b : Int) : Option Value := match eqI b 0 with
  | true => none
  | false => someI k (a.tdiv b)
noncomputable def biRem (k : IntKind) (a b : Int) : Option Value := match eqI b 0 with
  | true => none
  | false => some (.int k (a.tmod b))
noncomputable def biAnd (k : IntKind) (a b : Int) : Option Value := some (.int k (k.wrap ((BitVec.ofInt k.bits a &&& BitVec.ofInt k.bits b).toNat)))
noncomputable def biOr (k : IntKind) (a b : Int) : Option Value := some (.int k (k.wrap ((BitVec.ofInt k.bits a ||| BitVec.ofInt k.bits b).toNat)))
noncomputable def biXor (k : IntKind) (a b : Int) : Option Value := some (.int k (k.wrap ((BitVec.ofInt k.bits a ^^^ BitVec.ofInt k.bits b).toNat)))
noncomputable def biEql (_ : IntKind) (a b : Int) := someB (eqI a b)
noncomputable def biNeq (_ : IntKind) (a b : Int) := someB (!eqI a b)
noncomputable def biLss (_ : IntKind) (a b : Int) := someB (ltI a b)
noncomputable def biLeq (_ : IntKind) (a b : Int) := someB (!ltI b a)
noncomputable def biGtr (_ : IntKind) (a b : Int) := someB (ltI b a)
noncomputable def biGeq (_ : IntKind) (a b : Int) := someB (!ltI a b)
noncomputable def biNone (_ : IntKind) (_ _ : Int) : Option Value := none
noncomputable def binI (op : BinOp) : IntKind → Int → Int → Option Value :=
  match op with
  | .add => biAdd
  | .sub => biSub
  | .mul => biMul
  | .quo => biQuo
  | .rem => biRem
  | .and => biAnd
  | .or => biOr
  | .xor => biXor
  | .eql => biEql
  | .neq => biNeq
  | .lss => biLss
  | .leq => biLeq
  | .gtr => biGtr
  | .geq => biGeq
  | _ => biNone

noncomputable def biShl (k : IntKind) (a : Int) (n : Nat) : Option Value := some (.int k (k.wrap (a * 2 ^ (min n k.bits))))
noncomputable def biShr (k : IntKind) (a : Int) (n : Nat) : Option Value := some (.int k (a.fdiv (2 ^ (min n k.bits))))
noncomputable def shiftI (op : BinOp) (k : IntKind) (a b : Int) : Option Value :=
  match b with
  | .ofNat n => match op with
    | .shl => biShl k a n
    | .shr => biShr k a n
    | _ => none
  | .negSucc _ => none

noncomputable def bsAdd (a b : ByteArray) : Option Value := match Nat.blt (a.data.toList.length + b.data.toList.length) 1000000000000 with
  | true => some (.string (strCat a b))
  | false => none
noncomputable def bsEql (a b : ByteArray) := someB (eqBytes a.data.toList b.data.toList)
noncomputable def bsNeq (a b : ByteArray) := someB (!eqBytes a.data.toList b.data.toList)
noncomputable def bsLss (a b : ByteArray) := someB (ltBytes a.data.toList b.data.toList)
noncomputable def bsGeq (a b : ByteArray) := someB (!ltBytes a.data.toList b.data.toList)
noncomputable def bsLeq (a b : ByteArray) := someB (ltBytes a.data.toList b.data.toList || eqBytes a.data.toList b.data.toList)
noncomputable def bsGtr (a b : ByteArray) := someB (!(ltBytes a.data.toList b.data.toList || eqBytes a.data.toList b.data.toList))
noncomputable def bsNone (_ _ : ByteArray) : Option Value := none
noncomputable def binS (op : BinOp) : ByteArray → ByteArray → Option Value :=
  match op with
  | .add => bsAdd
  | .eql => bsEql
  | .neq => bsNeq
  | .lss => bsLss
  | .geq => bsGeq
  | .leq => bsLeq
  | .gtr => bsGtr
  | _ => bsNone

/-- Equality of what is no integer and no string: with nil, or of two bools. -/
noncomputable def eqlV (d : TypeDesc) (x y : Value) : Option Bool :=
  match x, y with
  | .bool a, .bool b => match d with
    | .bool => some (a == b)
    | _ => none
  | .pointer none, .pointer b => match d with
    | .pointer _ => some b.isNone
    | _ => none
  | .pointer (some _), .pointer none => match d with
    | .pointer _ => some false
    | _ => none
  | .nilIface, .iface _ _ | .iface _ _, .nilIface => match d with
    | .interface _ => some false
    | _ => none
  | .slice none _ _, .slice b _ _ => match d with
    | .slice _ => some b.isNone
    | _ => none
  | .slice (some _) _ _, .slice none _ _ => match d with
    | .slice _ => some false
    | _ => none
  | .map none, .map b => match d with
    | .map _ _ => some b.isNone
    | _ => none
  | .map (some _), .map none => match d with
    | .map _ _ => some false
    | _ => none
  | .nilFunc, .nilFunc => match d with
    | .func _ _ _ => some true
    | _ => none
  | .nilFunc, .func _ _ _ | .func _ _ _, .nilFunc => match d with
    | .func _ _ _ => some false
    | _ => none
  | _, _ => none

noncomputable def isConstO : Operand → Bool
  | .const _ => true
  | _ => false
noncomputable def isShift : BinOp → Bool
  | .shl | .shr => true
  | _ => false
noncomputable def sameK : IntKind → IntKind → Bool
  | .i8, .i8 | .i16, .i16 | .i32, .i32 | .i64, .i64 | .u8, .u8 | .u16, .u16 | .u32, .u32 | .u64, .u64 => true
  | _, _ => false

noncomputable def bvInt (op : BinOp) (k : IntKind) (a : Int) (k' : IntKind) (b : Int) : Option Value :=
  match isShift op with
  | true => shiftI op k a b
  | false => match sameK k k' with
    | true => binI op k a b
    | false => none
noncomputable def bvNil (A : Tab) (op : BinOp) (t : TypeId) (cx : Bool) : Option Value :=
  match cx, A.desc t with
  | true, some (.interface _) => match op with
    | .eql => some (.bool true)
    | .neq => some (.bool false)
    | _ => none
  | _, _ => none
noncomputable def bvEq (A : Tab) (op : BinOp) (t : TypeId) (x y : Value) : Option Value :=
  match A.desc t with
  | some d => match eqlV d x y with
    | some r => match op with
      | .eql => some (.bool r)
      | .neq => some (.bool (!r))
      | _ => none
    | none => none
  | none => none
noncomputable def binV (A : Tab) (op : BinOp) (t : TypeId) (cx : Bool) (x y : Value) : Option Value :=
  match x, y with
  | .int k a, .int k' b => bvInt op k a k' b
  | .string a, .string b => binS op a b
  | .nilIface, .nilIface => bvNil A op t cx
  | x, y => bvEq A op t x y

noncomputable def unV (op : UnOp) (x : Value) : Option Value :=
  match op, x with
  | .neg, .int k n => someI k (0 - n)
  | .not, .bool b => some (.bool (!b))
  | _, _ => none

/-- Reading bytes out of cells. -/
noncomputable def bytesOf : List Value → Option (List UInt8)
  | [] => some []
  | .int .u8 n :: vs => match bytesOf vs with
    | some bs => some (UInt8.ofNat n.toNat :: bs)
    | none => none
  | _ => none

noncomputable def byteCells (s : List UInt8) : List Value := s.map fun b => .int .u8 b.toNat

noncomputable def natOf (n : Int) : Option Nat :=
  match n with
  | .ofNat k => some k
  | .negSucc _ => none

noncomputable def placeOf (A : Tab) (d : TypeDesc) (i : Nat) : Option (Nat × Nat) :=
  match d with
  | .struct fs => match nthL fs.toList i with
    | some f => (A.size f.type).map fun s => (f.offset, s)
    | none => none
  | .array _ e => (A.size e).map fun s => (i * s, s)
  | _ => none

noncomputable def fillV (place : Nat → Option (Nat × Nat)) : List Value → List (Nat × Value) → Option (List Value)
  | cs, [] => some cs
  | cs, (i, v) :: rest => match place i with
    | some (off, sz) => match Nat.beq v.cells.toList.length sz && Nat.ble (off + sz) cs.length with
      | true => fillV place (putL cs off v.cells.toList) rest
      | false => none
    | none => none

noncomputable def repL {α : Type} : Nat → List α → List α
  | 0, _ => []
  | n + 1, xs => xs ++ repL n xs

noncomputable def leNat (n most : Nat) : Option Nat := match Nat.ble n most with
  | true => some n
  | false => none
noncomputable def sliceIx (x : Option Value) (dflt most : Nat) : Option Nat :=
  match x with
  | none => some dflt
  | some (.int _ (.ofNat n)) => leNat n most
  | _ => none

noncomputable def optOpnd (env : List Value) : Option Operand → Option (Option Value)
  | none => some none
  | some x => match opnd env x with
    | some v => some (some v)
    | none => none

/-- The cells that an append's second operand brings. -/
noncomputable def srcZeros (A : Tab) (bytes : Nat) (e : TypeId) (m : Nat) : Option (Nat × List Value) :=
  match Nat.blt m 1000000000000 && Nat.ble (m * bytes) 100000000000000 with
  | true => match A.zero e with
    | some z => some (m, repL m z)
    | none => none
  | false => none
noncomputable def srcSlice (h : Hp) (sz b o m : Nat) : Option (Nat × List Value) :=
  match m with
  | 0 => some (0, [])
  | m + 1 => match h.cells b o ((m + 1) * sz) with
    | some cs => match cs.all one with
      | true => some (m + 1, cs)
      | false => none
    | none => none
noncomputable def srcCells (A : Tab) (h : Hp) (sz bytes : Nat) (e : TypeId) (zeros : Bool) (x : Value) : Option (Nat × List Value) :=
  match zeros with
  | true => match x with
    | .int _ (.ofNat m) => srcZeros A bytes e m
    | _ => none
  | false => match x with
    | .slice none 0 _ => some (0, [])
    | .slice (some ⟨b, o, none⟩) m _ => srcSlice h sz b o m
    | .string s => match Nat.beq sz 1 with
      | true => some (s.data.toList.length, byteCells s.data.toList)
      | false => none
    | _ => none

noncomputable def isIntD : TypeDesc → Bool
  | .int _ => true
  | _ => false

/-- Within the capacity. -/
noncomputable def apIn (h : Hp) (sz : Nat) (base : Option Addr) (n m c : Nat) (new : List Value) : Option (Value × Hp) :=
  match base with
  | some ⟨b, o, none⟩ => match m with
    | 0 => some (.slice base n c, h)
    | m + 1 => match h.put b (o + n * sz) new with
      | some h' => some (.slice base (n + (m + 1)) c, h')
      | none => none
  | some _ => none
  | none => match n, m, c with
    | 0, 0, 0 => some (.slice none 0 0, h)
    | _, _, _ => none
noncomputable def newSl (h : Hp) (sz : Nat) (cs : List Value) (n : Nat) : Option (Value × Hp) :=
  match h.new (elFor sz) (.cells cs false) with
  | some (nb, h') => some (.slice (some ⟨nb, 0, none⟩) n n, h')
  | none => none
noncomputable def apOld (h : Hp) (sz b o n m : Nat) (new cs : List Value) : Option (Value × Hp) :=
  match Nat.ble (o + n * sz) cs.length && Nat.beq (elOf b) sz && Nat.blt 0 sz with
  | true => newSl (h.upd b .dead) sz ((cs.drop o).take (n * sz) ++ new) (n + m)
  | false => none
/-- Beyond it: a new block; the old one is given up. -/
noncomputable def apOut (h : Hp) (sz : Nat) (base : Option Addr) (n m : Nat) (new : List Value) : Option (Value × Hp) :=
  match base with
  | none => match n with
    | 0 => newSl h sz new m
    | _ => none
  | some ⟨b, o, none⟩ => match h.get b with
    | some (.cells cs false) => apOld h sz b o n m new cs
    | _ => none
  | some _ => none
noncomputable def apFits (n m bytes : Nat) : Bool := Nat.ble ((2 * (n + m) + 2000) * bytes) 100000000000000 && Nat.blt (n + m) 1000000000000 && Nat.blt 0 bytes
noncomputable def apGo (h : Hp) (ie : TypeInfo) (base : Option Addr) (n c m : Nat) (new : List Value) : Option (Value × Hp) :=
  match Nat.ble (n + m) c with
  | true => apIn h ie.size base n m c new
  | false => match apFits n m ie.bytes && ie.zero.isSome with
    | true => apOut h ie.size base n m new
    | false => none
noncomputable def apElem (A : Tab) (h : Hp) (e : TypeId) (zeros : Bool) (base : Option Addr) (n c : Nat) (x : Value) : Option (Value × Hp) :=
  match A.ty.get e with
  | some (ie, _) => match srcCells A h ie.size ie.bytes e zeros x with
    | some (m, new) => apGo h ie base n c m new
    | none => none
  | none => none
noncomputable def appendV (A : Tab) (h : Hp) (ts : List TypeId) (args : List Value) : Option (Value × Hp) :=
  match ts, args with
  | ts0 :: ts1 :: _, [.slice base n c, x] => match A.desc ts0, A.desc ts1 with
    | some (.slice e), some d1 => apElem A h e (isIntD d1) base n c x
    | _, _ => none
  | _, _ => none

noncomputable def maxV : Value → Value → Option Value
  | .int k x, .int _ y => some (.int k (match ltI x y with
    | true => y
    | false => x))
  | _, _ => none
noncomputable def minV : Value → Value → Option Value
  | .int k x, .int _ y => some (.int k (match ltI y x with
    | true => y
    | false => x))
  | _, _ => none
noncomputable def foldV (f : Value → Value → Option Value) : Value → List Value → Option Value
  | x, [] => some x
  | x, y :: ys => match f x y with
    | some z => foldV f z ys
    | none => none

noncomputable def eqKey : Value → Value → Option Bool
  | .string a, .string b => some (eqBytes a.data.toList b.data.toList)
  | .int k a, .int k' b => match sameK k k' with
    | true => some (eqI a b)
    | false => none
  | _, _ => none
noncomputable def findK (k : Value) : List (Value × Value) → Option (Option Value)
  | [] => some none
  | e :: es => match eqKey k e.1 with
    | some true => some (some e.2)
    | some false => findK k es
    | none => none
noncomputable def setK (k x : Value) : List (Value × Value) → Option (List (Value × Value))
  | [] => some [(k, x)]
  | e :: es => match eqKey k e.1 with
    | some true => some ((k, x) :: es)
    | some false => match setK k x es with
      | some es' => some (e :: es')
      | none => none
    | none => none

noncomputable def lenMap (h : Hp) (r : Nat) : Option (Value × Hp) :=
  match h.get r with
  | some (.map es) => some (goInt es.length, h)
  | _ => none
noncomputable def lenV (h : Hp) (d : TypeDesc) (x : Value) : Option (Value × Hp) :=
  match x with
  | .string s => match d with
    | .string => some (goInt s.data.toList.length, h)
    | _ => none
  | .slice _ n _ => match d with
    | .slice _ => some (goInt n, h)
    | _ => none
  | .map none => match d with
    | .map _ _ => some (goInt 0, h)
    | _ => none
  | .map (some r) => match d with
    | .map _ _ => lenMap h r
    | _ => none
  | .agg _ => match d with
    | .array n _ => some (goInt n, h)
    | _ => none
  | _ => none
noncomputable def capV (h : Hp) (d : TypeDesc) (x : Value) : Option (Value × Hp) :=
  match d, x with
  | .slice _, .slice none 0 0 => some (goInt 0, h)
  | .array n _, _ => some (goInt n, h)
  | _, _ => none
noncomputable def cpPut (h : Hp) (bd od m : Nat) (cs : List Value) : Option (Value × Hp) :=
  match h.put bd od cs with
  | some h' => some (goInt m, h')
  | none => none
noncomputable def cpSlice (h : Hp) (sz bd od bs os m : Nat) : Option (Value × Hp) :=
  match m with
  | 0 => some (goInt 0, h)
  | m + 1 => match h.cells bs os ((m + 1) * sz) with
    | some cs => match cs.all one with
      | true => cpPut h bd od (m + 1) cs
      | false => none
    | none => none
noncomputable def cpStr (h : Hp) (bd od m : Nat) (s : ByteArray) : Option (Value × Hp) :=
  match m with
  | 0 => some (goInt 0, h)
  | m + 1 => cpPut h bd od (m + 1) (byteCells (s.data.toList.take (m + 1)))
noncomputable def copyV (A : Tab) (h : Hp) (e : TypeId) (bd od dn : Nat) (src : Value) : Option (Value × Hp) :=
  match A.size e with
  | some sz => match src with
    | .slice none 0 _ => some (goInt 0, h)
    | .slice (some ⟨bs, os, none⟩) sn _ => cpSlice h sz bd od bs os (Nat.min sn dn)
    | .string s => cpStr h bd od (Nat.min s.data.toList.length dn) s
    | _ => none
  | none => none
noncomputable def clearV (A : Tab) (h : Hp) (e : TypeId) (b o n : Nat) : Option (Value × Hp) :=
  match n with
  | 0 => some (.tuple #[], h)
  | n + 1 => match A.zero e with
    | some z => match h.put b o (repL (n + 1) z) with
      | some h' => some (.tuple #[], h')
      | none => none
    | none => none
noncomputable def withH (h : Hp) (v : Option Value) : Option (Value × Hp) := match v with
  | some v => some (v, h)
  | none => none

noncomputable def buLen (A : Tab) (h : Hp) (ts : List TypeId) (args : List Value) : Option (Value × Hp) :=
  match ts, args with
  | t :: _, [x] => match A.desc t with
    | some d => lenV h d x
    | none => none
  | _, _ => none
noncomputable def buCap (A : Tab) (h : Hp) (ts : List TypeId) (args : List Value) : Option (Value × Hp) :=
  match ts, args with
  | t :: _, [x] => match A.desc t with
    | some d => capV h d x
    | none => none
  | _, _ => none
noncomputable def buMax (_ : Tab) (h : Hp) (_ : List TypeId) (args : List Value) : Option (Value × Hp) :=
  match args with
  | x :: xs => withH h (foldV maxV x xs)
  | [] => none
noncomputable def buMin (_ : Tab) (h : Hp) (_ : List TypeId) (args : List Value) : Option (Value × Hp) :=
  match args with
  | x :: xs => withH h (foldV minV x xs)
  | [] => none
noncomputable def buCopy (A : Tab) (h : Hp) (ts : List TypeId) (args : List Value) : Option (Value × Hp) :=
  match ts, args with
  | t :: _, [.slice (some ⟨bd, od, none⟩) dn _, src] => match A.desc t with
    | some (.slice e) => copyV A h e bd od dn src
    | _ => none
  | _, _ => none
noncomputable def buClear (A : Tab) (h : Hp) (ts : List TypeId) (args : List Value) : Option (Value × Hp) :=
  match ts, args with
  | t :: _, [.slice (some ⟨b, o, none⟩) n _] => match A.desc t with
    | some (.slice e) => clearV A h e b o n
    | _ => none
  | _, _ => none
noncomputable def buNone (_ : Tab) (_ : Hp) (_ : List TypeId) (_ : List Value) : Option (Value × Hp) := none
noncomputable def builtinV (b : Builtin) : Tab → Hp → List TypeId → List Value → Option (Value × Hp) :=
  match b with
  | .len => buLen
  | .cap => buCap
  | .append => appendV
  | .max => buMax
  | .min => buMin
  | .copy => buCopy
  | .clear => buClear
  | _ => buNone

noncomputable def partV (A : Tab) (t : TypeId) (cs : List Value) (off : Nat) : Option Value :=
  match A.ty.get t with
  | some (i, d) => match isAggD d with
    | true => some (.agg ⟨(cs.drop off).take i.size⟩)
    | false => nthL cs off
  | none => none

noncomputable def keyOk : TypeDesc → Value → Bool
  | .string, .string _ => true
  | .int k, .int k' _ => sameK k k'
  | _, _ => false

/-! The operations, one by one. -/
noncomputable def newPtr (h : Hp) (cs : List Value) : Option (Value × Hp) :=
  match h.new 0 (.cells cs false) with
  | some (nb, h') => some (.pointer (some ⟨nb, 0, none⟩), h')
  | none => none
noncomputable def opMove (x : Operand) (_ : Tab) (env : List Value) (h : Hp) : Option (Value × Hp) := withH h (opnd env x)
noncomputable def opPick (c a b : Operand) (_ : Tab) (env : List Value) (h : Hp) : Option (Value × Hp) :=
  match opnd env c with
  | some (.bool true) => withH h (opnd env a)
  | some (.bool false) => withH h (opnd env b)
  | _ => none
noncomputable def opAlloc (t : TypeId) (A : Tab) (_ : List Value) (h : Hp) : Option (Value × Hp) :=
  match A.zero t with
  | some cs => newPtr h cs
  | none => none
noncomputable def bxGo (h : Hp) (cs : List Value) : Option (Value × Hp) := match cs.all one with
  | true => newPtr h cs
  | false => none
noncomputable def opBox (_ : TypeId) (x : Operand) (_ : Tab) (env : List Value) (h : Hp) : Option (Value × Hp) :=
  match opnd env x with
  | some v => bxGo h v.cells.toList
  | none => none
noncomputable def aggH (h : Hp) (cs : Option (List Value)) : Option (Value × Hp) := match cs with
  | some cs => some (.agg ⟨cs⟩, h)
  | none => none
noncomputable def bdOk (A : Tab) : TypeDesc → Bool
  | .struct _ => true
  | .array _ e => (A.size e).isSome
  | _ => false
noncomputable def bdGo (A : Tab) (h : Hp) (d : TypeDesc) (z : List Value) (ps : List (Nat × Value)) : Option (Value × Hp) := match bdOk A d with
  | true => aggH h (fillV (placeOf A d) z ps)
  | false => none
noncomputable def opBuild (t : TypeId) (parts : Array (Nat × Operand)) (A : Tab) (env : List Value) (h : Hp) : Option (Value × Hp) :=
  match A.desc t, A.zero t, opnds env (parts.toList.map (·.2)) with
  | some d, some z, some vs => bdGo A h d z ((parts.toList.map (·.1)).zip vs)
  | _, _, _ => none
noncomputable def bsGo (h : Hp) (sz : Nat) (z : List Value) (len : Nat) (ps : List (Nat × Value)) : Option (Value × Hp) :=
  match Nat.ble (len * sz) 16000000 && Nat.beq z.length sz with
  | true => match fillV (fun i => some (i * sz, sz)) (repL len z) ps with
    | some cs => newSl h sz cs len
    | none => none
  | false => none
noncomputable def bsElem (A : Tab) (h : Hp) (e : TypeId) (len : Nat) (ps : List (Nat × Value)) : Option (Value × Hp) :=
  match A.size e, A.zero e with
  | some sz, some z => bsGo h sz z len ps
  | _, _ => none
noncomputable def opBuildSlice (t : TypeId) (len : Nat) (parts : Array (Nat × Operand)) (A : Tab) (env : List Value) (h : Hp) : Option (Value × Hp) :=
  match A.desc t, opnds env (parts.toList.map (·.2)) with
  | some (.slice e), some vs => bsElem A h e len ((parts.toList.map (·.1)).zip vs)
  | _, _ => none
noncomputable def opLoad (t : TypeId) (x : Operand) (A : Tab) (env : List Value) (h : Hp) : Option (Value × Hp) :=
  match opnd env x with
  | some p => withH h (h.loadV A t p)
  | none => none
noncomputable def unH (h : Option Hp) : Option (Value × Hp) := match h with
  | some h => some (undef, h)
  | none => none
noncomputable def opStore (t : TypeId) (x y : Operand) (A : Tab) (env : List Value) (h : Hp) : Option (Value × Hp) :=
  match opnd env x, opnd env y with
  | some p, some v => unH (h.storeV A t v p)
  | _, _ => none
noncomputable def nilOk : Value → Bool
  | .pointer (some _) | .func (.func _) _ _ | .func (.yield _) _ _ | .slice _ _ _ => true
  | _ => false
noncomputable def opNilCheck (x : Operand) (_ : Tab) (env : List Value) (h : Hp) : Option (Value × Hp) :=
  match opnd env x with
  | some v => match nilOk v with
    | true => some (v, h)
    | false => none
  | none => none
noncomputable def opBin (op : BinOp) (t : TypeId) (x y : Operand) (_ : TypeId) (A : Tab) (env : List Value) (h : Hp) : Option (Value × Hp) :=
  match opnd env x, opnd env y with
  | some a, some b => withH h (binV A op t (isConstO x || isConstO y) a b)
  | _, _ => none
noncomputable def opUn (op : UnOp) (_ : TypeId) (x : Operand) (_ : Tab) (env : List Value) (h : Hp) : Option (Value × Hp) :=
  match opnd env x with
  | some a => withH h (unV op a)
  | none => none
noncomputable def isU8 (A : Tab) (e : TypeId) : Bool := match A.desc e with
  | some (.int .u8) => true
  | _ => false
noncomputable def cvStr (A : Tab) (h : Hp) (s : ByteArray) (dd : TypeDesc) : Option (Value × Hp) :=
  match dd with
  | .string => some (.string s, h)
  | .slice e => match isU8 A e && Nat.blt s.data.toList.length 1000000000000 with
    | true => newSl h 1 (byteCells s.data.toList) s.data.toList.length
    | false => none
  | _ => none
noncomputable def strOf (h : Hp) (cs : Option (List Value)) : Option (Value × Hp) := match cs with
  | some cs => match bytesOf cs with
    | some bs => some (.string ⟨⟨bs⟩⟩, h)
    | none => none
  | none => none
noncomputable def cvBytes (A : Tab) (h : Hp) (base : Option Addr) (n : Nat) (ds : TypeDesc) : Option (Value × Hp) :=
  match ds with
  | .slice e => match isU8 A e with
    | true => match base with
      | none => some (.string ⟨⟨[]⟩⟩, h)
      | some ⟨b, o, none⟩ => match n with
        | 0 => some (.string ⟨⟨[]⟩⟩, h)
        | n + 1 => strOf h (h.cells b o (n + 1))
      | some _ => none
    | false => none
  | _ => none
noncomputable def cvGo (A : Tab) (h : Hp) (ds dd : TypeDesc) (v : Value) : Option (Value × Hp) :=
  match v with
  | .int _ n => match ds, dd with
    | .int _, .int k => withH h (someI k n)
    | _, _ => none
  | .string s => match ds with
    | .string => cvStr A h s dd
    | _ => none
  | .slice base n _ => match dd with
    | .string => cvBytes A h base n ds
    | _ => none
  | _ => none
noncomputable def opConvert (src dst : TypeId) (x : Operand) (A : Tab) (env : List Value) (h : Hp) : Option (Value × Hp) :=
  match opnd env x, A.desc src, A.desc dst with
  | some v, some ds, some dd => cvGo A h ds dd v
  | _, _, _ => none
noncomputable def isIfD : TypeDesc → Bool
  | .interface _ => true
  | _ => false
noncomputable def opMakeIface (t : TypeId) (x : Operand) (A : Tab) (env : List Value) (h : Hp) : Option (Value × Hp) :=
  match opnd env x, A.desc t with
  | some v, some d => match isIfD d with
    | true => none
    | false => some (.iface t v, h)
  | _, _ => none
noncomputable def opMakeFunc (fn : Fn) (first cap : Array Operand) (_ : Tab) (env : List Value) (h : Hp) : Option (Value × Hp) :=
  match opnds env first.toList, opnds env cap.toList, fn with
  | some p, some q, .func f => some (.func (.func f) ⟨p⟩ ⟨q⟩, h)
  | _, _, _ => none
noncomputable def opMakeMap (_ : TypeId) (r : Option Operand) (_ : Tab) (_ : List Value) (h : Hp) : Option (Value × Hp) :=
  match r with
  | none => match h.new 0 (.map []) with
    | some (nb, h') => some (.map (some nb), h')
    | none => none
  | some _ => none
noncomputable def msFits (l c : Nat) (ie : TypeInfo) (z : List Value) : Bool := Nat.ble l c && Nat.ble (c * ie.bytes) 100000000000000 && Nat.blt c 1000000000000 && Nat.beq z.length ie.size
noncomputable def msGo (h : Hp) (l c : Nat) (ie : TypeInfo) (z : List Value) : Option (Value × Hp) :=
  match msFits l c ie z with
  | true => match h.new (elFor ie.size) (.cells (repL c z) false) with
    | some (nb, h') => some (.slice (some ⟨nb, 0, none⟩) l c, h')
    | none => none
  | false => none
noncomputable def msElem (A : Tab) (h : Hp) (e : TypeId) (l c : Nat) : Option (Value × Hp) :=
  match A.ty.get e, A.zero e with
  | some (ie, _), some z => msGo h l c ie z
  | _, _ => none
noncomputable def opMakeSlice (t : TypeId) (l c : Operand) (A : Tab) (env : List Value) (h : Hp) : Option (Value × Hp) :=
  match A.desc t, opnd env l, opnd env c with
  | some (.slice e), some (.int .i64 (.ofNat l)), some (.int .i64 (.ofNat c)) => msElem A h e l c
  | _, _, _ => none
noncomputable def slStr (h : Hp) (s : ByteArray) (lo hi : Option Value) : Option (Value × Hp) :=
  match sliceIx hi s.data.toList.length s.data.toList.length with
  | some hi => match sliceIx lo 0 hi with
    | some lo => some (.string (strCut s lo hi), h)
    | none => none
  | none => none
noncomputable def slMk (h : Hp) (base : Option Addr) (sz lo hi c : Nat) : Option (Value × Hp) :=
  match base with
  | none => some (.slice none (hi - lo) (c - lo), h)
  | some ⟨b, o, none⟩ => match Nat.beq (elOf b) 0 || Nat.beq (elOf b) sz with
    | true => some (.slice (some ⟨b, o + lo * sz, none⟩) (hi - lo) (c - lo), h)
    | false => none
  | some _ => none
noncomputable def slGo (A : Tab) (h : Hp) (e : TypeId) (base : Option Addr) (n c : Nat) (lo hi : Option Value) : Option (Value × Hp) :=
  match A.size e, sliceIx hi n c with
  | some sz, some hi => match sliceIx lo 0 hi with
    | some lo => slMk h base sz lo hi c
    | none => none
  | _, _ => none
noncomputable def slDesc (A : Tab) (h : Hp) (d : TypeDesc) (v : Value) (lo hi : Option Value) : Option (Value × Hp) :=
  match v with
  | .string s => match d with
    | .string => slStr h s lo hi
    | _ => none
  | .slice a n c => match d with
    | .slice e => slGo A h e a n c lo hi
    | _ => none
  | .pointer (some ⟨b, o, none⟩) => match d with
    | .array n e => match Nat.beq (elOf b) 0 with
      | true => slGo A h e (some ⟨b, o, none⟩) n n lo hi
      | false => none
    | _ => none
  | _ => none
noncomputable def opSlice (t : TypeId) (x : Operand) (lo hi mx : Option Operand) (A : Tab) (env : List Value) (h : Hp) : Option (Value × Hp) :=
  match mx with
  | none => match opnd env x, optOpnd env lo, optOpnd env hi, A.desc t with
    | some v, some lo, some hi, some d => slDesc A h d v lo hi
    | _, _, _, _ => none
  | some _ => none
noncomputable def ptrH (h : Hp) (b o : Nat) : Option (Value × Hp) := some (.pointer (some ⟨b, o, none⟩), h)
noncomputable def faGo (A : Tab) (h : Hp) (b o : Nat) (fd : Option Field) : Option (Value × Hp) :=
  match fd with
  | some fd => match A.size fd.type with
    | some (_ + 1) => ptrH h b (o + fd.offset)
    | _ => none
  | none => none
noncomputable def opFieldAddr (s : TypeId) (x : Operand) (f : Nat) (A : Tab) (env : List Value) (h : Hp) : Option (Value × Hp) :=
  match A.desc s, opnd env x with
  | some (.struct fs), some (.pointer (some ⟨b, o, none⟩)) => faGo A h b o (nthL fs.toList f)
  | _, _ => none
noncomputable def opField (t : TypeId) (x : Operand) (f : Nat) (A : Tab) (env : List Value) (h : Hp) : Option (Value × Hp) :=
  match A.desc t, opnd env x with
  | some (.struct fs), some (.agg cs) => match nthL fs.toList f with
    | some fd => withH h (partV A fd.type cs.toList fd.offset)
    | none => none
  | _, _ => none
noncomputable def iaGo (A : Tab) (h : Hp) (e : TypeId) (b o n i : Nat) : Option (Value × Hp) :=
  match A.size e with
  | some sz => match Nat.blt i n with
    | true => ptrH h b (o + i * sz)
    | false => none
  | none => none
noncomputable def iaDesc (A : Tab) (h : Hp) (d : TypeDesc) (v : Value) (i : Nat) : Option (Value × Hp) :=
  match v with
  | .slice (some ⟨b, o, none⟩) n _ => match d with
    | .slice e => iaGo A h e b o n i
    | _ => none
  | .pointer (some ⟨b, o, none⟩) => match d with
    | .array n e => iaGo A h e b o n i
    | _ => none
  | _ => none
noncomputable def opIndexAddr (t : TypeId) (x ix : Operand) (A : Tab) (env : List Value) (h : Hp) : Option (Value × Hp) :=
  match A.desc t, opnd env x, opnd env ix with
  | some d, some v, some (.int _ (.ofNat i)) => iaDesc A h d v i
  | _, _, _ => none
noncomputable def ixArr (A : Tab) (h : Hp) (e : TypeId) (n i : Nat) (cs : List Value) : Option (Value × Hp) :=
  match A.size e, Nat.blt i n with
  | some sz, true => withH h (partV A e cs (i * sz))
  | _, _ => none
noncomputable def ixStr (h : Hp) (b : Option UInt8) : Option (Value × Hp) := match b with
  | some b => some (.int .u8 b.toNat, h)
  | none => none
noncomputable def ixDesc (A : Tab) (h : Hp) (d : TypeDesc) (v : Value) (i : Nat) : Option (Value × Hp) :=
  match v with
  | .agg cs => match d with
    | .array n e => ixArr A h e n i cs.toList
    | _ => none
  | .string s => match d with
    | .string => ixStr h (nthL s.data.toList i)
    | _ => none
  | _ => none
noncomputable def opIndex (t : TypeId) (x ix : Operand) (A : Tab) (env : List Value) (h : Hp) : Option (Value × Hp) :=
  match A.desc t, opnd env x, opnd env ix with
  | some d, some v, some (.int _ (.ofNat i)) => ixDesc A h d v i
  | _, _, _ => none
noncomputable def lkOut (h : Hp) (ok : Bool) (z : Value) (v : Option Value) : Option (Value × Hp) :=
  match ok with
  | true => match v with
    | some v => some (.tuple #[v, .bool true], h)
    | none => some (.tuple #[z, .bool false], h)
  | false => match v with
    | some v => some (v, h)
    | none => some (z, h)
noncomputable def lkGo (h : Hp) (ok : Bool) (z key : Value) (m : Value) : Option (Value × Hp) :=
  match m with
  | .map none => lkOut h ok z none
  | .map (some r) => match h.get r with
    | some (.map es) => match findK key es with
      | some r => lkOut h ok z r
      | none => none
    | _ => none
  | _ => none
noncomputable def lkDesc (A : Tab) (h : Hp) (ok : Bool) (k e : TypeId) (m key : Value) : Option (Value × Hp) :=
  match A.desc k, A.ty.get e with
  | some kd, some (ei, _) => match keyOk kd key, ei.zero with
    | true, some z => lkGo h ok z key m
    | _, _ => none
  | _, _ => none
noncomputable def opLookup (t : TypeId) (x ix : Operand) (ok : Bool) (A : Tab) (env : List Value) (h : Hp) : Option (Value × Hp) :=
  match A.desc t, opnd env x, opnd env ix with
  | some (.map k e), some m, some key => lkDesc A h ok k e m key
  | _, _, _ => none
noncomputable def muGo (A : Tab) (h : Hp) (kt : TypeId) (r : Nat) (key v : Value) : Option (Value × Hp) :=
  match A.desc kt with
  | some kd => match keyOk kd key, h.get r with
    | true, some (.map es) => match setK key v es with
      | some es' => some (undef, h.upd r (.map es'))
      | none => none
    | _, _ => none
  | none => none
noncomputable def opMapUpdate (t : TypeId) (m k x : Operand) (A : Tab) (env : List Value) (h : Hp) : Option (Value × Hp) :=
  match A.desc t, opnd env m, opnd env k, opnd env x with
  | some (.map kt _), some (.map (some r)), some key, some v => muGo A h kt r key v
  | _, _, _, _ => none
noncomputable def opExtract (t : Operand) (ix : Nat) (_ : Tab) (env : List Value) (h : Hp) : Option (Value × Hp) :=
  match opnd env t with
  | some (.tuple vs) => withH h (nthL vs.toList ix)
  | _ => none
noncomputable def opBuiltin (b : Builtin) (args : Array Operand) (ts : Array TypeId) (A : Tab) (env : List Value) (h : Hp) : Option (Value × Hp) :=
  match opnds env args.toList with
  | some vs => builtinV b A h ts.toList vs
  | none => none
noncomputable def opNone (_ : Tab) (_ : List Value) (_ : Hp) : Option (Value × Hp) := none
noncomputable def opCall (c : Call) : Tab → List Value → Hp → Option (Value × Hp) :=
  match c.callee with
  | .builtin b => opBuiltin b c.args c.argTypes
  | _ => opNone

/-- An operation that calls no function: its value, and the heap behind it. -/
noncomputable def pureOp (op : Op) : Tab → List Value → Hp → Option (Value × Hp) :=
  match op with
  | .move x => opMove x
  | .assign x => opMove x
  | .pick c a b => opPick c a b
  | .alloc t => opAlloc t
  | .box t x => opBox t x
  | .build t parts => opBuild t parts
  | .buildSlice t len parts => opBuildSlice t len parts
  | .load t x => opLoad t x
  | .store t x y => opStore t x y
  | .nilCheck x => opNilCheck x
  | .binOp op t x y u => opBin op t x y u
  | .unOp op t x => opUn op t x
  | .convert src dst x => opConvert src dst x
  | .makeInterface t x => opMakeIface t x
  | .makeFunc fn first cap => opMakeFunc fn first cap
  | .makeMap t r => opMakeMap t r
  | .makeSlice t l c => opMakeSlice t l c
  | .slice t x lo hi mx => opSlice t x lo hi mx
  | .fieldAddr s x f => opFieldAddr s x f
  | .field t x f => opField t x f
  | .indexAddr t x ix => opIndexAddr t x ix
  | .index t x ix => opIndex t x ix
  | .lookup t x ix ok => opLookup t x ix ok
  | .mapUpdate t m k x => opMapUpdate t m k x
  | .insert t m k x => opMapUpdate t m k x
  | .extract t ix => opExtract t ix
  | .call c => opCall c
  | _ => opNone

/-! ### 6. Code -/
inductive Ex where
  | normal
  | exit (id : Nat)
  | ret

/-- What a task comes to: a value, or a way out with the frame and the marks. -/
inductive Res where
  | val (v : Value) (h : Hp)
  | out (e : Ex) (env : List Value) (ds : List Nat) (h : Hp)

noncomputable def dstOf (o : Option Oper) : Option Tmp := match o with
  | some o => o.dst
  | none => none
/-- How an operation stands in a region that draws its order: it reads and writes no memory; it reads a cell, behind so many of the effects and ahead of so many; it is an effect (these have one order). -/
inductive Pl where
  | p
  | r (lo hi : Nat)
  | e
/-- A read that a later effect must not turn. -/
structure Pend where
  t : TypeId
  ptr : Value
  v : Value
  hi : Nat

inductive Cls where
  | p
  | r
  | e
noncomputable def convP (A : Tab) (src dst : TypeId) : Bool :=
  match A.desc src, A.desc dst with
  | some (.int _), some (.int _) => true
  | some .string, some .string => true
  | _, _ => false
noncomputable def lenP (A : Tab) (ts : List TypeId) : Bool :=
  match ts with
  | t :: _ => match A.desc t with
    | some .string | some (.slice _) | some (.array _ _) => true
    | _ => false
  | [] => false
noncomputable def callP (A : Tab) (c : Call) : Bool :=
  match c.callee with
  | .builtin .len => lenP A c.argTypes.toList
  | .builtin .cap => true
  | .builtin .max => true
  | .builtin .min => true
  | _ => false
noncomputable def pOrE : Bool → Cls
  | true => .p
  | false => .e
noncomputable def clsOf (A : Tab) (op : Op) : Cls :=
  match op with
  | .move _ | .assign _ | .pick _ _ _ | .build _ _ | .nilCheck _ | .binOp _ _ _ _ _ | .unOp _ _ _ | .makeInterface _ _ | .makeFunc _ _ _ | .slice _ _ _ _ _ | .fieldAddr _ _ _ | .field _ _ _ | .indexAddr _ _ _ | .index _ _ _ | .extract _ _ => .p
  | .load _ _ => .r
  | .convert src dst _ => pOrE (convP A src dst)
  | .call c => pOrE (callP A c)
  | _ => .e

noncomputable def bitIn (m i : Nat) : Bool := Nat.beq (Nat.mod (Nat.shiftRight m i) 2) 1
noncomputable def bindsE (e : Edge) : Bool := Region.binds .any e
noncomputable def maskOf (ms : List Nat) : List Edge → Nat
  | [] => 0
  | e :: es => match bindsE e with
    | true => match nthL ms e.on with
      | some m => Nat.lor (Nat.lor (Nat.shiftLeft 1 e.on) m) (maskOf ms es)
      | none => maskOf ms es
    | false => maskOf ms es
/-- For each operation the set of those that come ahead of it in every order. -/
noncomputable def masks (ms : List Nat) : List Oper → List Nat
  | [] => ms
  | o :: os => masks (ms ++ [maskOf ms o.after.toList]) os

noncomputable def tmpsOf : List Operand → List Tmp
  | [] => []
  | .tmp t :: xs => t :: tmpsOf xs
  | _ :: xs => tmpsOf xs
/-- The temporaries at which an operation looks. -/
noncomputable def looks (all : List Oper) (o : Oper) : List Tmp :=
  match o.guard with
  | some (j, _) => match dstOf (nthL all j) with
    | some d => d :: tmpsOf o.op.operands.toList
    | none => tmpsOf o.op.operands.toList
  | none => tmpsOf o.op.operands.toList
noncomputable def memN (t : Nat) : List Nat → Bool
  | [] => false
  | x :: xs => match Nat.beq t x with
    | true => true
    | false => memN t xs
noncomputable def eqO (a b : Option Tmp) : Bool := match a, b with
  | some x, some y => Nat.beq x y
  | _, _ => false
noncomputable def inO (a : Option Tmp) (l : List Tmp) : Bool := match a with
  | some x => memN x l
  | none => false
/-- Operation i, ahead of j in the text, has nothing to do with j's temporaries. -/
noncomputable def freeOf (all : List Oper) (oi oj : Oper) : Bool := !(inO oi.dst (looks all oj) || eqO oi.dst oj.dst || inO oj.dst (looks all oi))
noncomputable def okPair (all : List Oper) (m i : Nat) (oi oj : Oper) : Bool := bitIn m i || freeOf all oi oj
noncomputable def okRow (all : List Oper) (m : Nat) (oj : Oper) : Nat → List Oper → Bool
  | _, [] => true
  | i, oi :: os => okPair all m i oi oj && okRow all m oj (i + 1) os
/-- Every two operations that share a temporary have one order. -/
noncomputable def okTmps (all : List Oper) : List Oper → List Oper → List Nat → Bool
  | _, [], _ => true
  | done, o :: os, m :: ms => okRow all m o 0 done && okTmps all (done ++ [o]) os ms
  | _, _ :: _, [] => false
noncomputable def isE : Cls → Bool
  | .e => true
  | _ => false
/-- Each effect stands behind the one ahead of it in the text. -/
noncomputable def okEff : Option Nat → Nat → List Cls → List Nat → Bool
  | _, _, [], _ => true
  | last, i, c :: cs, m :: ms => match isE c with
    | true => (match last with
      | some l => bitIn m l
      | none => true) && okEff (some i) (i + 1) cs ms
    | false => okEff last (i + 1) cs ms
  | _, _, _ :: _, [] => false
/-- How many effects come ahead of an operation with this set. -/
noncomputable def cntLo (m : Nat) : Nat → List Cls → Nat
  | _, [] => 0
  | i, c :: cs => match isE c && bitIn m i with
    | true => cntLo m (i + 1) cs + 1
    | false => cntLo m (i + 1) cs
/-- How many effects are not behind operation j. -/
noncomputable def cntHi (j : Nat) : List Cls → List Nat → Nat
  | c :: cs, m :: ms => match isE c && !bitIn m j with
    | true => cntHi j cs ms + 1
    | false => cntHi j cs ms
  | _, _ => 0
noncomputable def plansOf (cls : List Cls) (ms : List Nat) : Nat → List Cls → List Nat → List Pl
  | j, c :: cs, m :: rest => (match c with
    | .p => .p
    | .r => .r (cntLo m 0 cls) (cntHi j cls ms)
    | .e => .e) :: plansOf cls ms (j + 1) cs rest
  | _, _, _ => []
/-- Every edge that binds points backwards. -/
noncomputable def okEdges (k : Nat) : List Edge → Bool
  | [] => true
  | e :: es => (!bindsE e || Nat.blt e.on k) && okEdges k es
noncomputable def okBack : Nat → List Oper → Bool
  | _, [] => true
  | k, o :: os => okEdges k o.after.toList && okBack (k + 1) os
noncomputable def planGo (all : List Oper) (cls : List Cls) (ms : List Nat) : Option (List Pl) :=
  match okBack 0 all && (okTmps all [] all ms && okEff none 0 cls ms) with
  | true => some (plansOf cls ms 0 cls ms)
  | false => none
noncomputable def planOf (A : Tab) (all : List Oper) : Option (List Pl) := planGo all (all.map fun o => clsOf A o.op) (masks [] all)

noncomputable def eqAddr : Addr → Addr → Bool
  | ⟨b, o, none⟩, ⟨b', o', none⟩ => Nat.beq b b' && Nat.beq o o'
  | _, _ => false
noncomputable def eqOA : Option Addr → Option Addr → Bool
  | none, none => true
  | some a, some b => eqAddr a b
  | _, _ => false
noncomputable def eqS : Value → Value → Bool
  | .bool a, .bool b => a == b
  | .int k a, .int k' b => sameK k k' && eqI a b
  | .string a, .string b => eqBytes a.data.toList b.data.toList
  | .pointer a, .pointer b => eqOA a b
  | .slice a n c, .slice b m d => eqOA a b && Nat.beq n m && Nat.beq c d
  | .map none, .map none => true
  | .map (some a), .map (some b) => Nat.beq a b
  | .nilFunc, .nilFunc => true
  | .nilIface, .nilIface => true
  | .func (.func f) ⟨[]⟩ ⟨[]⟩, .func (.func g) ⟨[]⟩ ⟨[]⟩ => Nat.beq f g
  | _, _ => false
noncomputable def eqSs : List Value → List Value → Bool
  | [], [] => true
  | x :: xs, y :: ys => eqS x y && eqSs xs ys
  | _, _ => false
/-- Surely the same value. -/
noncomputable def veq : Value → Value → Bool
  | .agg xs, .agg ys => eqSs xs.toList ys.toList
  | x, y => eqS x y

inductive Task where
  | fn (f : FuncId) (args : List Value)
  | code (c : Code) (env : List Value) (ds : List Nat)
  | ops (all : List Oper) (rest : List Oper) (env : List Value) (ds : List Nat)
  | draw (all : List Oper) (rest : List Oper) (pl : List Pl) (env : List Value) (ds : List Nat) (hs : List Hp) (pend : List Pend)
  | round (l : Nat) (args : List Value)

/-- An evaluator of tasks: in which round's frame, in which function's activation. -/
abbrev Rec := Option Nat → FuncId → Task → Hp → Option Res

noncomputable def resV (h : Hp) (A : Tab) (env : List Value) : List ResultVar → Option (List Value)
  | [] => some []
  | .tmp t :: rs => match resV h A env rs with
    | some vs => some (getL env t :: vs)
    | none => none
  | .cell a t :: rs => match h.loadV A t (getL env a), resV h A env rs with
    | some v, some vs => some (v :: vs)
    | _, _ => none
noncomputable def packV : List Value → Value
  | [v] => v
  | vs => .tuple ⟨vs⟩

noncomputable def bindPs : List Value → List (Tmp × Value) → List Value
  | env, [] => env
  | env, (t, v) :: ps => bindPs (setL v env t) ps

noncomputable def isB (want : Bool) : Value → Bool
  | .bool b => b == want
  | _ => false
/-- Is an operation of the region wanted: its guard. -/
noncomputable def wantedV (all : List Oper) (env : List Value) (g : Option (Nat × Bool)) : Bool :=
  match g with
  | none => true
  | some (j, want) => match dstOf (nthL all j) with
    | some d => isB want (getL env d)
    | none => false

noncomputable def putD (env : List Value) (d : Option Tmp) (v : Value) : List Value :=
  match d with
  | some t => setL v env t
  | none => env

/-! The steps. -/
noncomputable def killAll : List Nat → Hp → Option Hp
  | [], h => some h
  | d :: ds, h => match h.get d with
    | some .defs => killAll ds (h.upd d .dead)
    | _ => none
noncomputable def retV (A : Tab) (rs : List ResultVar) (env : List Value) (h : Hp) : Option Res :=
  match resV h A env rs with
  | some vs => some (.val (packV vs) h)
  | none => none
noncomputable def fnVal (A : Tab) (rs : List ResultVar) (env : List Value) (ds : List Nat) (h : Hp) : Option Res :=
  match killAll ds h with
  | some h => retV A rs env h
  | none => none
noncomputable def fnOut (A : Tab) (rs : List ResultVar) (r : Option Res) : Option Res :=
  match r with
  | some (.out .normal env ds h) => fnVal A rs env ds h
  | some (.out .ret env ds h) => fnVal A rs env ds h
  | _ => none
noncomputable def fnBody (f : FuncId) (args : List Value) (A : Tab) (rec : Rec) (h : Hp) (F : Func) : Option Res :=
  match F.body with
  | some c => fnOut A F.results.toList (rec none f (.code c (args ++ List.replicate (F.ntmps - args.length) undef) []) h)
  | none => none
noncomputable def fnGo (f : FuncId) (args : List Value) (A : Tab) (rec : Rec) (h : Hp) : Option Res :=
  match A.fn.get f with
  | some F => fnBody f args A rec h F
  | none => none
noncomputable def stFn (f : FuncId) (args : List Value) (A : Tab) (rec : Rec) (_ : Option Nat) (_ : FuncId) (h : Hp) : Option Res := fnGo f args A rec h

noncomputable def rdEnd (l : Nat) (e : Ex) (r : ALoop) (h : Hp) : Option Res :=
  match e with
  | .normal => some (.val (.bool true) (h.upd l (.loop { r with state := .ready, pending := none })))
  | .ret => some (.val (.bool false) (h.upd l (.loop { r with state := .done, pending := some .ret })))
  | .exit id => some (.val (.bool false) (h.upd l (.loop { r with state := .done, pending := some (.exit id) })))
noncomputable def rdOut (l : Nat) (r : Option Res) : Option Res :=
  match r with
  | some (.out e _ [] h) => match h.get l with
    | some (.loop r) => rdEnd l e r h
    | _ => none
  | _ => none
noncomputable def rdBody (l : Nat) (f : FuncId) (body : Code) (rec : Rec) (r : Option Res) : Option Res :=
  match r with
  | some (.out .normal env [] h) => match h.get l with
    | some (.loop r1) => match r1.state with
      | .ready => rdOut l (rec (some l) f (.code body env []) (h.upd l (.loop { r1 with state := .busy })))
      | _ => none
    | _ => none
  | _ => none
noncomputable def rdGo (l : Nat) (args : List Value) (rec : Rec) (h : Hp) (r : ALoop) : Option Res :=
  match Nat.beq args.length r.params.length with
  | true => rdBody l r.fn r.body rec (rec (some l) r.fn (.code r.assign (bindPs r.env (r.params.zip args)) []) h)
  | false => none
noncomputable def stRound (l : Nat) (args : List Value) (_ : Tab) (rec : Rec) (_ : Option Nat) (_ : FuncId) (h : Hp) : Option Res :=
  match h.get l with
  | some (.loop r) => rdGo l args rec h r
  | _ => none

/-- On with the operations behind one. -/
noncomputable def opNext (all rest : List Oper) (d : Option Tmp) (env : List Value) (ds : List Nat) (rec : Rec) (rd : Option Nat) (fn : FuncId) (v : Value) (h : Hp) : Option Res :=
  rec rd fn (.ops all rest (putD env d v) ds) h
noncomputable def opAfter (all rest : List Oper) (d : Option Tmp) (env : List Value) (ds : List Nat) (rec : Rec) (rd : Option Nat) (fn : FuncId) (r : Option (Value × Hp)) : Option Res :=
  match r with
  | some (v, h) => opNext all rest d env ds rec rd fn v h
  | none => none
noncomputable def opBack (all rest : List Oper) (d : Option Tmp) (env : List Value) (ds : List Nat) (rec : Rec) (rd : Option Nat) (fn : FuncId) (r : Option Res) : Option Res :=
  match r with
  | some (.val v h) => opNext all rest d env ds rec rd fn v h
  | _ => none
/-- The function value of a call, if the operation is one. -/
noncomputable def calleeOf (op : Op) : Option (Operand × List Operand) :=
  match op with
  | .call c => match c.callee with
    | .value f => some (f, c.args.toList)
    | _ => none
  | _ => none
noncomputable def callV (rec : Rec) (h : Hp) (f : Option Value) (vs : Option (List Value)) : Option Res :=
  match f, vs with
  | some (.func g first cap), some vs => match g with
    | .func g => rec none g (.fn g (first.toList ++ vs ++ cap.toList)) h
    | .yield l => rec none 0 (.round l (first.toList ++ vs)) h
    | _ => none
  | _, _ => none
noncomputable def opDo (all rest : List Oper) (o : Oper) (env : List Value) (ds : List Nat) (A : Tab) (rec : Rec) (rd : Option Nat) (fn : FuncId) (h : Hp) : Option Res :=
  match calleeOf o.op with
  | some (f, args) => opBack all rest o.dst env ds rec rd fn (callV rec h (opnd env f) (opnds env args))
  | none => opAfter all rest o.dst env ds rec rd fn (pureOp o.op A env h)
noncomputable def opOne (all rest : List Oper) (o : Oper) (env : List Value) (ds : List Nat) (A : Tab) (rec : Rec) (rd : Option Nat) (fn : FuncId) (h : Hp) : Option Res :=
  match wantedV all env o.guard with
  | true => opDo all rest o env ds A rec rd fn h
  | false => opNext all rest o.dst env ds rec rd fn undef h
noncomputable def stOps (all rest : List Oper) (env : List Value) (ds : List Nat) (A : Tab) (rec : Rec) (rd : Option Nat) (fn : FuncId) (h : Hp) : Option Res :=
  match rest with
  | [] => some (.out .normal env ds h)
  | o :: rest => opOne all rest o env ds A rec rd fn h

/-! A region that draws its order: in the text's order, the reads held against every heap at which they may come up. -/
noncomputable def readEq (A : Tab) (t : TypeId) (ptr v : Value) (h : Hp) : Bool := match h.loadV A t ptr with
  | some u => veq u v
  | none => false
/-- The heaps ahead of now, the latest first, n of them: those with at least lo effects read the same. -/
noncomputable def backOk (A : Tab) (t : TypeId) (ptr v : Value) (lo : Nat) : List Hp → Bool
  | [] => true
  | h :: hs => match Nat.ble lo hs.length with
    | true => readEq A t ptr v h && backOk A t ptr v lo hs
    | false => true
noncomputable def pendOk (A : Tab) (k : Nat) (h : Hp) : List Pend → Bool
  | [] => true
  | p :: ps => match Nat.ble k p.hi with
    | true => readEq A p.t p.ptr p.v h && pendOk A k h ps
    | false => pendOk A k h ps
noncomputable def drNext (all rest : List Oper) (pl : List Pl) (d : Option Tmp) (env : List Value) (ds : List Nat) (hs : List Hp) (pend : List Pend) (rec : Rec) (rd : Option Nat) (fn : FuncId) (v : Value) (h : Hp) : Option Res :=
  rec rd fn (.draw all rest pl (putD env d v) ds hs pend) h
noncomputable def drP (all rest : List Oper) (pl : List Pl) (o : Oper) (env : List Value) (ds : List Nat) (hs : List Hp) (pend : List Pend) (A : Tab) (rec : Rec) (rd : Option Nat) (fn : FuncId) (h : Hp) : Option Res :=
  match pureOp o.op A env h with
  | some (v, _) => drNext all rest pl o.dst env ds hs pend rec rd fn v h
  | none => none
noncomputable def drRead (all rest : List Oper) (pl : List Pl) (d : Option Tmp) (lo hi : Nat) (t : TypeId) (ptr v : Value) (env : List Value) (ds : List Nat) (hs : List Hp) (pend : List Pend) (A : Tab) (rec : Rec) (rd : Option Nat) (fn : FuncId) (h : Hp) : Option Res :=
  match backOk A t ptr v lo hs with
  | true => drNext all rest pl d env ds hs ({ t, ptr, v, hi } :: pend) rec rd fn v h
  | false => none
noncomputable def loadOf (op : Op) : Option (TypeId × Operand) := match op with
  | .load t x => some (t, x)
  | _ => none
noncomputable def drR (all rest : List Oper) (pl : List Pl) (o : Oper) (lo hi : Nat) (env : List Value) (ds : List Nat) (hs : List Hp) (pend : List Pend) (A : Tab) (rec : Rec) (rd : Option Nat) (fn : FuncId) (h : Hp) : Option Res :=
  match loadOf o.op with
  | some (t, x) => match opnd env x with
    | some ptr => match h.loadV A t ptr with
      | some v => drRead all rest pl o.dst lo hi t ptr v env ds hs pend A rec rd fn h
      | none => none
    | none => none
  | none => none
noncomputable def drEff (all rest : List Oper) (pl : List Pl) (d : Option Tmp) (env : List Value) (ds : List Nat) (hs : List Hp) (pend : List Pend) (A : Tab) (rec : Rec) (rd : Option Nat) (fn : FuncId) (h : Hp) (v : Value) (h' : Hp) : Option Res :=
  match pendOk A (hs.length + 1) h' pend with
  | true => drNext all rest pl d env ds (h :: hs) pend rec rd fn v h'
  | false => none
noncomputable def drBack (all rest : List Oper) (pl : List Pl) (d : Option Tmp) (env : List Value) (ds : List Nat) (hs : List Hp) (pend : List Pend) (A : Tab) (rec : Rec) (rd : Option Nat) (fn : FuncId) (h : Hp) (r : Option Res) : Option Res :=
  match r with
  | some (.val v h') => drEff all rest pl d env ds hs pend A rec rd fn h v h'
  | _ => none
noncomputable def drAfter (all rest : List Oper) (pl : List Pl) (d : Option Tmp) (env : List Value) (ds : List Nat) (hs : List Hp) (pend : List Pend) (A : Tab) (rec : Rec) (rd : Option Nat) (fn : FuncId) (h : Hp) (r : Option (Value × Hp)) : Option Res :=
  match r with
  | some (v, h') => drEff all rest pl d env ds hs pend A rec rd fn h v h'
  | none => none
noncomputable def drE (all rest : List Oper) (pl : List Pl) (o : Oper) (env : List Value) (ds : List Nat) (hs : List Hp) (pend : List Pend) (A : Tab) (rec : Rec) (rd : Option Nat) (fn : FuncId) (h : Hp) : Option Res :=
  match calleeOf o.op with
  | some (f, args) => drBack all rest pl o.dst env ds hs pend A rec rd fn h (callV rec h (opnd env f) (opnds env args))
  | none => drAfter all rest pl o.dst env ds hs pend A rec rd fn h (pureOp o.op A env h)
noncomputable def drDo (all rest : List Oper) (pl : List Pl) (o : Oper) (pn : Pl) (env : List Value) (ds : List Nat) (hs : List Hp) (pend : List Pend) (A : Tab) (rec : Rec) (rd : Option Nat) (fn : FuncId) (h : Hp) : Option Res :=
  match pn with
  | .p => drP all rest pl o env ds hs pend A rec rd fn h
  | .r lo hi => drR all rest pl o lo hi env ds hs pend A rec rd fn h
  | .e => drE all rest pl o env ds hs pend A rec rd fn h
noncomputable def drNot (all rest : List Oper) (pl : List Pl) (o : Oper) (pn : Pl) (env : List Value) (ds : List Nat) (hs : List Hp) (pend : List Pend) (A : Tab) (rec : Rec) (rd : Option Nat) (fn : FuncId) (h : Hp) : Option Res :=
  match pn with
  | .e => drEff all rest pl o.dst env ds hs pend A rec rd fn h undef h
  | _ => drNext all rest pl o.dst env ds hs pend rec rd fn undef h
noncomputable def drOne (all rest : List Oper) (pl : List Pl) (o : Oper) (pn : Pl) (env : List Value) (ds : List Nat) (hs : List Hp) (pend : List Pend) (A : Tab) (rec : Rec) (rd : Option Nat) (fn : FuncId) (h : Hp) : Option Res :=
  match wantedV all env o.guard with
  | true => drDo all rest pl o pn env ds hs pend A rec rd fn h
  | false => drNot all rest pl o pn env ds hs pend A rec rd fn h
noncomputable def stDraw (all rest : List Oper) (pl : List Pl) (env : List Value) (ds : List Nat) (hs : List Hp) (pend : List Pend) (A : Tab) (rec : Rec) (rd : Option Nat) (fn : FuncId) (h : Hp) : Option Res :=
  match rest, pl with
  | [], _ => some (.out .normal env ds h)
  | o :: rest, pn :: pl => drOne all rest pl o pn env ds hs pend A rec rd fn h
  | _ :: _, [] => none

noncomputable def cdSkip (env : List Value) (ds : List Nat) (_ : Tab) (_ : Rec) (_ : Option Nat) (_ : FuncId) (h : Hp) : Option Res := some (.out .normal env ds h)
noncomputable def sqThen (b : Code) (rec : Rec) (rd : Option Nat) (fn : FuncId) (r : Option Res) : Option Res :=
  match r with
  | some (.out .normal env ds h) => rec rd fn (.code b env ds) h
  | r => r
noncomputable def cdSeq (a b : Code) (env : List Value) (ds : List Nat) (_ : Tab) (rec : Rec) (rd : Option Nat) (fn : FuncId) (h : Hp) : Option Res :=
  sqThen b rec rd fn (rec rd fn (.code a env ds) h)
noncomputable def cdCond (x : Operand) (a b : Code) (env : List Value) (ds : List Nat) (_ : Tab) (rec : Rec) (rd : Option Nat) (fn : FuncId) (h : Hp) : Option Res :=
  match opnd env x with
  | some (.bool true) => rec rd fn (.code a env ds) h
  | some (.bool false) => rec rd fn (.code b env ds) h
  | _ => none
noncomputable def bkOut (id : Nat) (r : Option Res) : Option Res :=
  match r with
  | some (.out (.exit id') env ds h) => match Nat.beq id' id with
    | true => some (.out .normal env ds h)
    | false => some (.out (.exit id') env ds h)
  | r => r
noncomputable def cdBlock (id : Nat) (body : Code) (env : List Value) (ds : List Nat) (_ : Tab) (rec : Rec) (rd : Option Nat) (fn : FuncId) (h : Hp) : Option Res :=
  bkOut id (rec rd fn (.code body env ds) h)
noncomputable def cdLoop (body : Code) (env : List Value) (ds : List Nat) (_ : Tab) (rec : Rec) (rd : Option Nat) (fn : FuncId) (h : Hp) : Option Res :=
  sqThen (.loop body) rec rd fn (rec rd fn (.code body env ds) h)
noncomputable def cdExit (id : Nat) (env : List Value) (ds : List Nat) (_ : Tab) (_ : Rec) (_ : Option Nat) (_ : FuncId) (h : Hp) : Option Res := some (.out (.exit id) env ds h)
noncomputable def cdRet (env : List Value) (ds : List Nat) (_ : Tab) (_ : Rec) (_ : Option Nat) (_ : FuncId) (h : Hp) : Option Res := some (.out .ret env ds h)
noncomputable def cdRegion (ops : Array Oper) (draw : Bool) (env : List Value) (ds : List Nat) (A : Tab) (rec : Rec) (rd : Option Nat) (fn : FuncId) (h : Hp) : Option Res :=
  match draw with
  | true => match planOf A ops.toList with
    | some pl => rec rd fn (.draw ops.toList ops.toList pl env ds [] []) h
    | none => none
  | false => rec rd fn (.ops ops.toList ops.toList env ds) h
/-- Entering a range over a function: the loop's record; at an outermost one also the block of the deferred calls, whose mark is kept. -/
noncomputable def rfNew (fn : FuncId) (env : List Value) (ps : List Tmp) (assign body : Code) (db : Nat) (mark : List Nat) (h : Hp) : Option (Nat × List Nat × Hp) :=
  match h.new 0 (.loop { state := .ready, pending := none, fn, env, params := ps, assign, body, defers := db }) with
  | some (l, h) => some (l, mark, h)
  | none => none
noncomputable def rfEnter (rd : Option Nat) (fn : FuncId) (env : List Value) (ps : List Tmp) (assign body : Code) (h : Hp) : Option (Nat × List Nat × Hp) :=
  match rd with
  | none => match h.new 0 .defs with
    | some (db, h) => rfNew fn env ps assign body db [db] h
    | none => none
  | some l0 => match h.get l0 with
    | some (.loop r0) => rfNew fn env ps assign body r0.defers [] h
    | _ => none
noncomputable def rfEnd (env : List Value) (ds : List Nat) (rec : Rec) (rd : Option Nat) (fn : FuncId) (l : Nat) (r : ALoop) (h : Hp) : Option Res :=
  match r.state with
  | .busy => none
  | _ => match r.pending with
    | none => some (.out .normal env ds (h.upd l (.loop { r with state := .exhausted })))
    | some j => rec rd fn (.code j env ds) (h.upd l (.loop { r with state := .exhausted }))
noncomputable def rfBack (env : List Value) (ds : List Nat) (rec : Rec) (rd : Option Nat) (fn : FuncId) (l : Nat) (r : Option Res) : Option Res :=
  match r with
  | some (.val _ h) => match h.get l with
    | some (.loop r) => rfEnd env ds rec rd fn l r h
    | _ => none
  | _ => none
noncomputable def rfGo (gf : FuncId) (first cap : List Value) (env : List Value) (ds : List Nat) (rec : Rec) (rd : Option Nat) (fn : FuncId) (e : Option (Nat × List Nat × Hp)) : Option Res :=
  match e with
  | some (l, mark, h) => rfBack env (mark ++ ds) rec rd fn l (rec none gf (.fn gf (first ++ [.func (.yield l) #[] #[]] ++ cap)) h)
  | none => none
noncomputable def cdRange (g : Operand) (ps : Array Tmp) (assign body : Code) (env : List Value) (ds : List Nat) (_ : Tab) (rec : Rec) (rd : Option Nat) (fn : FuncId) (h : Hp) : Option Res :=
  match opnd env g with
  | some (.func (.func gf) first cap) => rfGo gf first.toList cap.toList env ds rec rd fn (rfEnter rd fn env ps.toList assign body h)
  | _ => none
noncomputable def cdNone (_ : List Value) (_ : List Nat) (_ : Tab) (_ : Rec) (_ : Option Nat) (_ : FuncId) (_ : Hp) : Option Res := none
noncomputable def stCode (c : Code) : List Value → List Nat → Tab → Rec → Option Nat → FuncId → Hp → Option Res :=
  match c with
  | .skip => cdSkip
  | .label _ => cdSkip
  | .seq a b => cdSeq a b
  | .cond x a b => cdCond x a b
  | .block id body => cdBlock id body
  | .loop body => cdLoop body
  | .exit id => cdExit id
  | .ret => cdRet
  | .region _ ops draw => cdRegion ops draw
  | .rangeFunc g ps assign body => cdRange g ps assign body
  | _ => cdNone

noncomputable def step (t : Task) : Tab → Rec → Option Nat → FuncId → Hp → Option Res :=
  Task.rec stFn stCode stOps stDraw stRound t

noncomputable def run (A : Tab) (k : Nat) : Rec :=
  Nat.rec (fun _ _ _ _ => none) (fun _ ih rd fn t h => step t A ih rd fn h) k

end Go.Ev

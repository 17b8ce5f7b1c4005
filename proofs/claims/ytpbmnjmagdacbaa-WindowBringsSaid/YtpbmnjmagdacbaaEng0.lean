/- The definitions of a condition generator for Go code in the model: what must hold of a piece of code, written as one proposition without slots. No program in sight. -/
import Derived.Orders
import Derived.Below
namespace Go.Eng
open Go

/-! Shapes of values -/
inductive Leaf where
  | bool | int (k : IntKind) | str | ptr | slice | map | any

inductive Sh where
  | leaf (l : Leaf)
  | agg (ls : List Leaf)

inductive TK where
  | bool | int (k : IntKind) | str | ptr (e : TypeId) | slice (e : TypeId) | arr (n : Nat) (e : TypeId) | map
  | strct (fs : List (Nat × TypeId)) | func | iface | tup (ts : List TypeId) | other

/-- What is asked of a type. -/
structure TI where
  kind : TK
  agg : Bool
  size : Nat
  bytes : Nat
  sh : Sh
  zero : Option (List Value)

def leafOf : TypeDesc → Leaf
  | .bool => .bool
  | .int k => .int k
  | .string => .str
  | .pointer _ => .ptr
  | .slice _ => .slice
  | .map _ _ => .map
  | _ => .any

def leavesOf (P : Program) : Nat → TypeId → List Leaf
  | 0, _ => []
  | n + 1, t =>
    match P.underlying t with
    | some (.struct fs) => fs.toList.flatMap fun f => leavesOf P n f.type
    | some (.array m e) => (List.replicate m (leavesOf P n e)).flatten
    | some d => [leafOf d]
    | none => []

def kindOf : TypeDesc → TK
  | .bool => .bool
  | .int k => .int k
  | .string => .str
  | .pointer e => .ptr e
  | .slice e => .slice e
  | .array n e => .arr n e
  | .map _ _ => .map
  | .struct fs => .strct (fs.toList.map fun f => (f.offset, f.type))
  | .func _ _ _ => .func
  | .interface _ => .iface
  | .tuple ts => .tup ts.toList
  | _ => .other

def aggOf : TypeDesc → Bool
  | .struct _ | .array _ _ => true
  | _ => false

def tiOf (P : Program) (t : TypeId) (inf : TypeInfo) (d : TypeDesc) : TI :=
  { kind := kindOf d, agg := aggOf d, size := inf.size, bytes := inf.bytes,
    sh := if aggOf d then .agg (leavesOf P 20 t) else .leaf (leafOf d),
    zero := inf.zero.map (·.cells.toList) }

def tbOf (P : Program) (t : TypeId) : Option TI :=
  match P.info? t, P.underlying t with
  | some inf, some d => some (tiOf P t inf d)
  | _, _ => none

/-- A table tells the truth of a program's types. -/
def TOk (P : Program) (T : Nat → Option TI) : Prop := ∀ t i, T t = some i → tbOf P t = some i

def nth : List Value → Nat → Value
  | [], _ => undef
  | v :: _, 0 => v
  | _ :: r, n + 1 => nth r n

def nthO {α : Type} : List α → Nat → Option α
  | [], _ => none
  | v :: _, 0 => some v
  | _ :: r, n + 1 => nthO r n

def ikn : IntKind → Nat
  | .i8 => 0 | .i16 => 1 | .i32 => 2 | .i64 => 3 | .u8 => 4 | .u16 => 5 | .u32 => 6 | .u64 => 7

def same (a b : IntKind) : Bool := Nat.beq (ikn a) (ikn b)

/-! Words that stay in the printed condition -/
def withSome {α : Type} (o : Option α) (K : α → Prop) : Prop := match o with | some a => K a | none => False
/-- The value of one cell. -/
def one (v : Value) (K : Prop) : Prop := match v with | .agg _ => False | .tuple _ => False | _ => K
def isNilFn (v : Value) (K : Bool → Prop) : Prop := match v with | .nilFunc => K true | .func _ _ _ => K false | _ => False
def isNilIf (v : Value) (K : Bool → Prop) : Prop := match v with | .nilIface => K true | .iface _ _ => K false | _ => False
/-- A value that is not nil. -/
def nilX (v : Value) (K : Value → Prop) : Prop :=
  match v with
  | .pointer o => withSome o fun a => K (.pointer (some a))
  | .func (.func f) a b => K (.func (.func f) a b)
  | _ => False
def isIface (v : Value) (K : TypeId → Value → Prop) : Prop := match v with | .iface t x => K t x | _ => False

def oneCell : Value → Bool
  | .agg _ => false
  | .tuple _ => false
  | _ => true

def St (w : World) (a : Addr) (v : Value) (K : World → Prop) : Prop := (∃ u, w.cell? a = some u) ∧ w.frozen? a = false ∧ oneCell v = true ∧ K (w.setCell a v)
def New (w : World) (o : Obj) (K : Nat → World → Prop) : Prop := K w.heap.size (w.alloc o)
def Drew (w : World) (K : World → Prop) : Prop := K w.drew
def Prim (P : Program) (s : Sem Value) (w : World) (K : Value → World → Prop) : Prop := ∃ v w', s.run P w = .ok v w' ∧ K v w'
def PrimU (P : Program) (s : Sem Unit) (w : World) (K : World → Prop) : Prop := ∃ w', s.run P w = .ok () w' ∧ K w'
def CallR (P : Program) (f : FuncId) (args : List Value) (w : World) (Kp : List PanicEntry → World → Prop) (K : Value → World → Prop) : Prop :=
  Calls P f args.toArray w fun | .returned v, w' => K v w' | .panicked ch, w' => Kp ch w' | .outgrown, _ => False
/-- A call of a function value. -/
def CallV (P : Program) (bl : Nat → Bool) (v : Value) (args : List Value) (w : World) (Kp : List PanicEntry → World → Prop) (K : Value → World → Prop) : Prop :=
  match v with
  | .func (.func f) first cap => cond (bl f) False (CallR P f (first.toList ++ args ++ cap.toList) w Kp K)
  | _ => False
/-- A method of an interface value. -/
def CallI (P : Program) (v : Value) (name : String) (args : List Value) (w : World) (Kp : List PanicEntry → World → Prop) (K : Value → World → Prop) : Prop :=
  ∃ f args' w1, (callMethod v name args.toArray).run P w = .ok (.enter f args'.toArray) w1 ∧ CallR P f args' w1 Kp K
/-- A body-less function. -/
def CallX (P : Program) (f : FuncId) (args : List Value) (w : World) (Kp : List PanicEntry → World → Prop) (K : Value → World → Prop) : Prop :=
  (∃ v w', (callFunc f args.toArray).run P w = .ok (.value v) w' ∧ K v w') ∨
  (∃ f' args' w1, (callFunc f args.toArray).run P w = .ok (.enter f' args'.toArray) w1 ∧ CallR P f' args' w1 Kp K)
def Meet {σ : Type} (body : (σ → World → Prop) → Prop) (rest : σ → World → Prop) : Prop := ∃ J : σ → World → Prop, body J ∧ ∀ s w, J s w → rest s w
def Loop {σ : Type} (body : (σ → World → Prop) → σ → World → Prop) (s : σ) (w : World) : Prop := ∀ X : σ → World → Prop, (∀ s w, body X s w → X s w) → X s w

/-! Binders by shape -/
def Leaf.ex : Leaf → (Value → Prop) → Prop
  | .bool, K => ∃ b : Bool, K (.bool b)
  | .int k, K => ∃ n : Int, K (.int k n)
  | .str, K => ∃ s : ByteArray, K (.string s)
  | .ptr, K => ∃ a : Option Addr, K (.pointer a)
  | .slice, K => ∃ (a : Option Addr) (l c : Nat), K (.slice a l c)
  | .map, K => ∃ r : Option Nat, K (.map r)
  | .any, K => ∃ v : Value, K v

def leavesEx : List Leaf → (List Value → Prop) → Prop
  | [], K => K []
  | l :: r, K => l.ex fun v => leavesEx r fun vs => K (v :: vs)

def Sh.ex : Sh → (Value → Prop) → Prop
  | .leaf l, K => l.ex K
  | .agg ls, K => leavesEx ls fun vs => K (.agg vs.toArray)

def shsEx : List Sh → (List Value → Prop) → Prop
  | [], K => K []
  | l :: r, K => l.ex fun v => shsEx r fun vs => K (v :: vs)

def shOf (T : Nat → Option TI) (t : TypeId) : Sh := match T t with | some i => i.sh | none => .leaf .any

/-- A result of a type. -/
def resEx (T : Nat → Option TI) (t : TypeId) (K : Value → Prop) : Prop :=
  match T t with
  | some i => match i.kind with
    | .tup ts => shsEx (ts.map (shOf T)) fun vs => K (.tuple vs.toArray)
    | _ => i.sh.ex K
  | none => ∃ v, K v

def evL (fr : List Value) : Operand → Value
  | .tmp t => nth fr t
  | .const v => v
  | .global g => .pointer (some ⟨g, 0, none⟩)
  | .func f => .func (.func f) #[] #[]

/-! Operations that look at no memory -/
def intBin (op : BinOp) (k : IntKind) (a b : Int) (K : Value → Prop) : Prop :=
  match op with
  | .add => K (.int k (k.wrap (a + b)))
  | .sub => K (.int k (k.wrap (a - b)))
  | .mul => K (.int k (k.wrap (a * b)))
  | .quo => cond (b == 0) False (K (.int k (k.wrap (a.tdiv b))))
  | .rem => cond (b == 0) False (K (.int k (a.tmod b)))
  | .and => K (.int k (k.wrap (BitVec.ofInt k.bits a &&& BitVec.ofInt k.bits b).toNat))
  | .or => K (.int k (k.wrap (BitVec.ofInt k.bits a ||| BitVec.ofInt k.bits b).toNat))
  | .xor => K (.int k (k.wrap (BitVec.ofInt k.bits a ^^^ BitVec.ofInt k.bits b).toNat))
  | .andNot => K (.int k (k.wrap (BitVec.ofInt k.bits a &&& ~~~ BitVec.ofInt k.bits b).toNat))
  | .eql => K (.bool (a == b))
  | .neq => K (.bool (a != b))
  | .lss => K (.bool (decide (a < b)))
  | .leq => K (.bool (decide (a ≤ b)))
  | .gtr => K (.bool (decide (a > b)))
  | .geq => K (.bool (decide (a ≥ b)))
  | _ => False

def strBin (op : BinOp) (x y : ByteArray) (K : Value → Prop) : Prop :=
  match op with
  | .add => (x.size + y.size ≤ 9223372036854775807) ∧ K (.string (x ++ y))
  | .eql => K (.bool (x.toList == y.toList))
  | .neq => K (.bool (!(x.toList == y.toList)))
  | .lss => K (.bool (Op.bytesLess x.toList y.toList))
  | .geq => K (.bool (!(Op.bytesLess x.toList y.toList)))
  | .leq => K (.bool (Op.bytesLess x.toList y.toList || x.toList == y.toList))
  | .gtr => K (.bool (!(Op.bytesLess x.toList y.toList || x.toList == y.toList)))
  | _ => False

def isConst : Operand → Bool
  | .const _ => true
  | _ => false

/-- A value against the constant nil. -/
def eqNil (k : TK) (a : Value) (K : Bool → Prop) : Prop :=
  match k, a with
  | .ptr _, .pointer o => K o.isNone
  | .slice _, .slice o _ _ => K o.isNone
  | .map, .map o => K o.isNone
  | .func, v => isNilFn v K
  | .iface, v => isNilIf v K
  | _, _ => False

def nilOf (k : TK) (v : Value) : Bool :=
  match k, v with
  | .ptr _, .pointer none => true
  | .slice _, .slice none _ _ => true
  | .map, .map none => true
  | .func, .nilFunc => true
  | .iface, .nilIface => true
  | _, _ => false

def eqBin (k : TK) (x y : Operand) (a b : Value) (K : Bool → Prop) : Prop :=
  match isConst y, isConst x with
  | true, _ => match k, a, b with
    | .bool, .bool p, .bool q => K (p == q)
    | k, a, b => cond (nilOf k b) (eqNil k a K) False
  | false, true => cond (nilOf k a) (eqNil k b K) False
  | false, false => match k, a, b with
    | .bool, .bool p, .bool q => K (p == q)
    | _, _, _ => False

def kindAt (T : Nat → Option TI) (t : TypeId) : TK := match T t with | some i => i.kind | none => .other
def sizeAt (T : Nat → Option TI) (t : TypeId) : Nat := match T t with | some i => i.size | none => 0
def isAggAt (T : Nat → Option TI) (t : TypeId) : Bool := match T t with | some i => i.agg | none => false
def known (T : Nat → Option TI) (t : TypeId) : Bool := match T t with | some _ => true | none => false

def shBin (op : BinOp) (a b : Value) (K : Value → Prop) : Prop :=
  match op, a, b with
  | .shl, .int k n, .int _ m => cond (decide (m < 0)) False (K (.int k (k.wrap (n * 2 ^ (min m.toNat k.bits)))))
  | .shr, .int k n, .int _ m => cond (decide (m < 0)) False (K (.int k (n.fdiv (2 ^ (min m.toNat k.bits)))))
  | op, .int k n, .int k' m => cond (same k k') (intBin op k n m K) False
  | _, _, _ => False

def binX (T : Nat → Option TI) (op : BinOp) (t : TypeId) (x y : Operand) (a b : Value) (K : Value → Prop) : Prop :=
  match kindAt T t with
  | .int _ => shBin op a b K
  | .str => match a, b with
    | .string s, .string u => strBin op s u K
    | _, _ => False
  | k => match op with
    | .eql => eqBin k x y a b fun r => K (.bool r)
    | .neq => eqBin k x y a b fun r => K (.bool (!r))
    | _ => False

def unX (op : UnOp) (a : Value) (K : Value → Prop) : Prop :=
  match op, a with
  | .neg, .int k n => K (.int k (k.wrap (0 - n)))
  | .xor, .int k n => K (.int k (k.wrap (BitVec.ofInt k.bits (if k.signed then -1 else k.max) ^^^ BitVec.ofInt k.bits n).toNat))
  | .not, .bool b => K (.bool (!b))
  | _, _ => False

/-- An optional int operand. -/
def optInt (v : Option Value) (none' : Prop) (K : Int → Prop) : Prop :=
  match v with
  | none => none'
  | some (.int _ n) => K n
  | some _ => False

def sliceX (size : Nat) (a : Option Addr) (len cap : Nat) (lo hi mx : Option Value) (K : Value → Prop) : Prop :=
  let fin (m h : Nat) : Prop :=
    match lo with
    | none => K (.slice a h m)
    | some (.int _ l) => (0 ≤ l ∧ l ≤ (h : Int)) ∧ K (.slice (if m = l.toNat then a else a.map (·.add (l.toNat * size))) (h - l.toNat) (m - l.toNat))
    | some _ => False
  match mx, hi with
  | none, none => fin cap len
  | none, some (.int _ h) => (0 ≤ h ∧ h ≤ (cap : Int)) ∧ fin cap h.toNat
  | some (.int _ m), some (.int _ h) => (0 ≤ m ∧ m ≤ (cap : Int)) ∧ (0 ≤ h ∧ h ≤ m) ∧ fin m.toNat h.toNat
  | _, _ => False

def strSliceX (s : ByteArray) (lo hi : Option Value) (K : Value → Prop) : Prop :=
  let fin (h : Nat) : Prop :=
    match lo with
    | none => K (.string (s.extract 0 h))
    | some (.int _ l) => (0 ≤ l ∧ l ≤ (h : Int)) ∧ K (.string (s.extract l.toNat h))
    | some _ => False
  match hi with
  | none => fin s.size
  | some (.int _ h) => (0 ≤ h ∧ h ≤ (s.size : Int)) ∧ fin h.toNat
  | some _ => False

def fieldOf (T : Nat → Option TI) (t : TypeId) (f : Nat) : Option (Nat × TypeId) :=
  match kindAt T t with
  | .strct fs => nthO fs f
  | _ => none

/-- A part of an aggregate. -/
def partX (T : Nat → Option TI) (t : TypeId) (cs : List Value) (off : Nat) (K : Value → Prop) : Prop :=
  match T t with
  | some i => cond i.agg (K (.agg ((cs.drop off).take i.size).toArray)) (match nthO cs off with | some v => K v | none => False)
  | none => False

/-- A value's cells, by its type. -/
def cellsX (T : Nat → Option TI) (t : TypeId) (v : Value) (K : List Value → Prop) : Prop :=
  match T t with
  | some i => cond i.agg (match v with | .agg cs => cond (Nat.beq cs.toList.length i.size) (K cs.toList) False | _ => False) (cond (Nat.beq i.size 1) (one v (K [v])) False)
  | none => False

def putL : List Value → Nat → List Value → List Value
  | cs, _, [] => cs
  | cs, off, v :: r => putL (cs.set off v) (off + 1) r

def fillX (T : Nat → Option TI) (place : Nat → Option (Nat × TypeId)) (ev : Operand → Value) : List Value → List (Nat × Operand) → (List Value → Prop) → Prop
  | cells, [], K => K cells
  | cells, (i, x) :: r, K =>
    match place i with
    | none => False
    | some (off, ft) => cellsX T ft (ev x) fun vs => cond (Nat.ble (off + vs.length) cells.length) (fillX T place ev (putL cells off vs) r K) False

def byteAt (s : ByteArray) (i : Nat) : Nat := (s.data.getD i 0).toNat

def lenKind (T : Nat → Option TI) (ts : Array TypeId) : TK := match ts.toList with | t :: _ => kindAt T t | [] => .other

def pureX (T : Nat → Option TI) (ev : Operand → Value) (op : Op) (K : Value → Prop) : Prop :=
  match op with
  | .move x => K (ev x)
  | .assign x => K (ev x)
  | .pick c a b =>
    match ev c with
    | .bool t => match ev a, ev b with
      | .bool p, .bool q => K (.bool (cond t p q))
      | x, y => cond t (K x) (K y)
    | _ => False
  | .nilCheck x =>
    nilX (ev x) K
  | .fieldAddr s x f =>
    match ev x with
    | .pointer o => withSome o fun a =>
      match fieldOf T s f with
      | some (off, ft) => cond (Nat.beq (sizeAt T ft) 0) False (K (.pointer (some (a.add off))))
      | none => False
    | _ => False
  | .field t x f =>
    match ev x with
    | .agg cs => match fieldOf T t f with
      | some (off, ft) => partX T ft cs.toList off K
      | none => False
    | _ => False
  | .binOp op t x y _ => binX T op t x y (ev x) (ev y) K
  | .unOp op _ x => unX op (ev x) K
  | .convert src dst x =>
    match kindAt T dst, ev x with
    | .int k, .int _ n => cond (known T src) (K (.int k (k.wrap n))) False
    | .str, .string s => cond (known T src) (K (.string s)) False
    | _, _ => False
  | .makeInterface t x =>
    match kindAt T t with
    | .iface => False
    | .other => False
    | _ => K (.iface t (ev x))
  | .makeFunc fn first cap => K (.func fn (first.toList.map ev).toArray (cap.toList.map ev).toArray)
  | .extract t i =>
    match ev t with
    | .tuple vs => match nthO vs.toList i with
      | some v => K v
      | none => False
    | _ => False
  | .build t parts =>
    match T t with
    | some i => match i.kind, i.zero with
      | .strct fs, some z => cond (fs.all fun f => known T f.2) (fillX T (nthO fs) ev z parts.toList fun cs => K (.agg cs.toArray)) False
      | .arr _ e, some z => cond (known T e) (fillX T (fun j => some (j * sizeAt T e, e)) ev z parts.toList fun cs => K (.agg cs.toArray)) False
      | _, _ => False
    | none => False
  | .slice t x lo hi mx =>
    match kindAt T t, ev x with
    | .slice e, .slice a len cap => cond (known T e) (sliceX (sizeAt T e) a len cap (lo.map ev) (hi.map ev) (mx.map ev) K) False
    | .str, .string s => match mx with
      | none => strSliceX s (lo.map ev) (hi.map ev) K
      | some _ => False
    | _, _ => False
  | .indexAddr t x ix =>
    match kindAt T t, ev x, ev ix with
    | .slice e, .slice a len _, .int _ i => cond (known T e) (withSome a fun a => (0 ≤ i ∧ i < (len : Int)) ∧ K (.pointer (some (a.add (i.toNat * sizeAt T e))))) False
    | .arr n e, .pointer a, .int _ i => cond (known T e) (withSome a fun a => (0 ≤ i ∧ i < (n : Int)) ∧ K (.pointer (some (a.add (i.toNat * sizeAt T e))))) False
    | _, _, _ => False
  | .index t x ix =>
    match kindAt T t, ev x, ev ix with
    | .str, .string s, .int _ i => (0 ≤ i ∧ i < (s.size : Int)) ∧ K (.int .u8 (byteAt s i.toNat))
    | _, _, _ => False
  | .call { callee := .builtin .len, args, argTypes } =>
    match lenKind T argTypes, args.toList.map ev with
    | .slice _, [.slice _ n _] => K (.int .i64 n)
    | .str, [.string s] => K (.int .i64 s.size)
    | _, _ => False
  | .call { callee := .builtin .cap, args, argTypes } =>
    match lenKind T argTypes, args.toList.map ev with
    | .slice _, [.slice _ _ n] => K (.int .i64 n)
    | _, _ => False
  | .call { callee := .builtin .min, args, argTypes := _ } =>
    match args.toList.map ev with
    | [.int k a, .int _ b] => K (.int k (if b < a then b else a))
    | _ => False
  | .call { callee := .builtin .max, args, argTypes := _ } =>
    match args.toList.map ev with
    | [.int k a, .int _ b] => K (.int k (if b > a then b else a))
    | _ => False
  | _ => False

/-- Is an operation one of those? -/
def isPure (T : Nat → Option TI) : Op → Bool
  | .move _ | .assign _ | .pick .. | .nilCheck _ | .fieldAddr .. | .field .. | .binOp .. | .unOp .. | .makeInterface .. | .makeFunc .. | .extract .. | .build .. | .slice .. | .indexAddr .. => true
  | .index t _ _ => match kindAt T t with | .str => true | _ => false
  | .convert src dst _ => match kindAt T src, kindAt T dst with
    | .int _, .int _ => true
    | .str, .str => true
    | _, _ => false
  | .call { callee := .builtin .len, args := _, argTypes } => match lenKind T argTypes with
    | .slice _ => true
    | .str => true
    | _ => false
  | .call { callee := .builtin .cap, .. } | .call { callee := .builtin .min, .. } | .call { callee := .builtin .max, .. } => true
  | _ => false

/-! Operations that read -/
def ldCells (w : World) (a : Addr) : Nat → List Leaf → (List Value → Prop) → Prop
  | _, [], K => K []
  | i, l :: r, K => l.ex fun v => w.cell? (a.add i) = some v ∧ ldCells w a (i + 1) r fun vs => K (v :: vs)

/-- These cells hold these values. -/
def cellsAre (w : World) (a : Addr) : Nat → List Value → Prop
  | _, [] => True
  | i, [v] => w.cell? (a.add i) = some v
  | i, v :: r => w.cell? (a.add i) = some v ∧ cellsAre w a (i + 1) r

def loadX (T : Nat → Option TI) (t : TypeId) (a : Addr) (w : World) (K : Value → (World → Prop) → Prop) : Prop :=
  match T t with
  | some i => cond i.agg
      (match i.sh with
        | .agg ls => cond (Nat.beq ls.length i.size) (ldCells w a 0 ls fun vs => K (.agg vs.toArray) fun w' => cellsAre w' a 0 vs) False
        | .leaf _ => False)
      (match i.sh with
        | .leaf l => l.ex fun v => w.cell? a = some v ∧ K v fun w' => w'.cell? a = some v
        | .agg _ => False)
  | none => False

/-! Operations that write, make memory or call -/
def stCells (w : World) (a : Addr) : Nat → List Value → (World → Prop) → Prop
  | _, [], K => K w
  | i, v :: r, K => St w (a.add i) v fun w' => stCells w' a (i + 1) r K

def zerosX (T : Nat → Option TI) (e : TypeId) (n : Nat) (K : List Value → Prop) : Prop :=
  match T e with
  | some i => match i.zero with
    | some z => K (List.replicate n z).flatten
    | none => False
  | none => False

def effX (P : Program) (T : Nat → Option TI) (bl : Nat → Bool) (ev : Operand → Value) (o : Oper) (w : World) (Kp : List PanicEntry → World → Prop) (K : Value → World → Prop) : Prop :=
  match o.op with
  | .alloc t => match T t with
    | some i => match i.zero with
      | some z => New w (.cells z.toArray t (0, 0)) fun b w' => K (.pointer (some ⟨b, 0, none⟩)) w'
      | none => False
    | none => False
  | .box t x => cellsX T t (ev x) fun cs => New w (.cells cs.toArray t (0, 0)) fun b w' => K (.pointer (some ⟨b, 0, none⟩)) w'
  | .buildSlice t len parts =>
    match kindAt T t with
    | .slice e => cond (Nat.ble (len * sizeAt T e) 16777216) (zerosX T e len fun zs => cond (Nat.beq zs.length (len * sizeAt T e))
        (fillX T (fun j => some (j * sizeAt T e, e)) ev zs parts.toList fun cs => New w (.cells cs.toArray e (0, 0)) fun b w' => K (.slice (some ⟨b, 0, none⟩) len len) w') False) False
    | _ => False
  | .store t a x =>
    match ev a with
    | .pointer oa => withSome oa fun ad => cellsX T t (ev x) fun cs => stCells w ad 0 cs fun w' => K undef w'
    | _ => False
  | .makeMap _ none => New w (.map #[] 0) fun b w' => K (.map (some b)) w'
  | .makeSlice t l c => Prim P (Instr.makeSlice t (ev l) (ev c)) w fun v w' => resEx T o.type fun u => v = u ∧ K u w'
  | .convert s d x => Prim P (convert s d (ev x)) w fun v w' => resEx T o.type fun u => v = u ∧ K u w'
  | .lookup t x ix ok => Prim P (Instr.lookup t (ev x) (ev ix) ok) w fun v w' => resEx T o.type fun u => v = u ∧ K u w'
  | .mapUpdate t m k x => PrimU P (Instr.mapUpdate t (ev m) (ev k) (ev x)) w fun w' => K undef w'
  | .insert t m k x => PrimU P (Instr.mapUpdate t (ev m) (ev k) (ev x)) w fun w' => K undef w'
  | .range t x => Prim P (Instr.range t (ev x)) w fun v w' => resEx T o.type fun u => v = u ∧ K u w'
  | .next it s => Prim P (Instr.next (ev it) s o.type) w fun v w' => resEx T o.type fun u => v = u ∧ K u w'
  | .typeAssert x xt at_ ok => Prim P (Instr.typeAssert (ev x) xt at_ ok) w fun v w' => resEx T o.type fun u => v = u ∧ K u w'
  | .index t x ix => Prim P (Instr.index t (ev x) (ev ix)) w fun v w' => resEx T o.type fun u => v = u ∧ K u w'
  | .panic x => match ev x with
    | .iface t v => Kp [{ v := .iface t v, recovered := false }] w
    | _ => False
  | .call { callee := .builtin b, args, argTypes } =>
    match b with
    | .len => Prim P (Builtin.len_ argTypes o.type (args.toList.map ev).toArray) w fun v w' => resEx T o.type fun u => v = u ∧ K u w'
    | .append => Prim P (Builtin.append_ argTypes o.type (args.toList.map ev).toArray) w fun v w' => resEx T o.type fun u => v = u ∧ K u w'
    | .copy => Prim P (Builtin.copy_ argTypes o.type (args.toList.map ev).toArray) w fun v w' => resEx T o.type fun u => v = u ∧ K u w'
    | .delete => Prim P (Builtin.delete_ argTypes o.type (args.toList.map ev).toArray) w fun v w' => resEx T o.type fun u => v = u ∧ K u w'
    | .clear => Prim P (Builtin.clear_ argTypes o.type (args.toList.map ev).toArray) w fun v w' => resEx T o.type fun u => v = u ∧ K u w'
    | _ => False
  | .call { callee := .value fv, args, argTypes := _ } =>
    match fv with
    | .func f => cond (bl f)
        (CallX P f (args.toList.map ev) w Kp fun v w' => resEx T o.type fun u => v = u ∧ K u w')
        (CallR P f (args.toList.map ev) w Kp fun v w' => resEx T o.type fun u => v = u ∧ K u w')
    | x => CallV P bl (ev x) (args.toList.map ev) w Kp fun v w' => resEx T o.type fun u => v = u ∧ K u w'
  | .call { callee := .invoke recv name, args, argTypes := _ } =>
    CallI P (ev recv) name (args.toList.map ev) w Kp fun v w' => resEx T o.type fun u => v = u ∧ K u w'
  | _ => False

/-! A region -/
def putO (fr : List Value) (d : Option Tmp) (v : Value) : List Value := match d with | some t => fr.set t v | none => fr

def guardX (all : List Oper) (o : Oper) (fr : List Value) (K : List Value → Bool → Prop) : Prop :=
  match o.guard with
  | none => K fr true
  | some (j, want) =>
    match nthO all j with
    | some oj => match oj.dst with
      | some s => match nth fr s with
        | .bool b => cond b (K (fr.set s (.bool true)) want) (K (fr.set s (.bool false)) (!want))
        | .tuple _ => K fr false
        | _ => False
      | none => False
    | none => False

def opX (P : Program) (T : Nat → Option TI) (bl : Nat → Bool) (o : Oper) (ev : Operand → Value) (w : World) (Kp : List PanicEntry → World → Prop) (K : Value → World → Prop) : Prop :=
  match o.op with
  | .load t a => match ev a with
    | .pointer oa => withSome oa fun ad => loadX T t ad w fun v _ => K v w
    | _ => False
  | op => cond (isPure T op) (pureX T ev op fun v => K v w) (effX P T bl ev o w Kp K)

def opsX (P : Program) (T : Nat → Option TI) (bl : Nat → Bool) (all : List Oper) : List Oper → List Value → World → (List PanicEntry → World → Prop) → (List Value → World → Prop) → Prop
  | [], fr, w, _, K => K fr w
  | o :: r, fr, w, Kp, K => guardX all o fr fun fr yes =>
      cond yes (opX P T bl o (evL fr) w Kp fun v w' => opsX P T bl all r (putO fr o.dst v) w' Kp K) (opsX P T bl all r (putO fr o.dst undef) w Kp K)

/-- How the orders of a region that draws are gone through: 'take': an operation that only looks, first; 'eff', 'alt': whichever of these comes up. -/
inductive Plan where
  | done
  | take (i : Nat) (r : Plan)
  | eff (i : Nat) (r : Plan)
  | alt (i : Nat) (r rest : Plan)

def isQuiet (T : Nat → Option TI) (o : Oper) : Bool := match o.op with | .load .. => true | op => isPure T op

def setB : List Bool → Nat → List Bool
  | [], _ => []
  | _ :: r, 0 => true :: r
  | b :: r, n + 1 => b :: setB r n

def getB : List Bool → Nat → Bool
  | [], _ => false
  | b :: _, 0 => b
  | _ :: r, n + 1 => getB r n

/-- May operation i come up now? -/
def readyB (o : Oper) (ls : List Bool) : Bool := o.after.toList.all fun e => !Region.binds .any e || getB ls e.on

/-- The operations that may come up. -/
def readyL : List Oper → List Bool → List Bool → Nat → List Nat
  | [], _, _, _ => []
  | o :: r, b :: bs, ls, i => cond (!b && readyB o ls) (i :: readyL r bs ls (i + 1)) (readyL r bs ls (i + 1))
  | _ :: _, [], _, _ => []

def ready (ops : List Oper) (ls : List Bool) : List Nat := readyL ops ls ls 0

def firstQuiet (T : Nat → Option TI) (ops : List Oper) : List Nat → Option Nat
  | [] => none
  | i :: r => match nthO ops i with
    | some o => cond (isQuiet T o) (some i) (firstQuiet T ops r)
    | none => firstQuiet T ops r

def altOf (f : Nat → Plan) : List Nat → Plan
  | [] => .done
  | [i] => .eff i (f i)
  | i :: r => .alt i (f i) (altOf f r)

def planOf (T : Nat → Option TI) (ops : List Oper) : Nat → List Bool → Plan
  | 0, _ => .done
  | n + 1, ls =>
    match firstQuiet T ops (ready ops ls) with
    | some i => .take i (planOf T ops n (setB ls i))
    | none => altOf (fun i => planOf T ops n (setB ls i)) (ready ops ls)

/-- Of each operation, as bits: all that must have been carried out before it. -/
def befL (acc : List Nat) : List Edge → Nat
  | [] => 0
  | e :: r => cond (Region.binds .any e) ((2 ^ e.on ||| (acc.getD e.on 0)) ||| befL acc r) (befL acc r)

def befs (acc : List Nat) : List Oper → List Nat
  | [] => acc
  | o :: r => befs (acc ++ [befL acc o.after.toList]) r

/-- Of the reads that have been taken and need not have been carried out: what must still hold in a world; and which these are. -/
def keepX (before : Nat) : List (Nat × (World → Prop)) → World → (List (Nat × (World → Prop)) → Prop) → Prop
  | [], _, K => K []
  | (i, S) :: r, w, K => cond (before.testBit i) (keepX before r w K) (S w ∧ keepX before r w fun l => K ((i, S) :: l))

def dropX (before : Nat) : List (Nat × (World → Prop)) → List (Nat × (World → Prop))
  | [] => []
  | (i, S) :: r => cond (before.testBit i) (dropX before r) ((i, S) :: dropX before r)

def planX (P : Program) (T : Nat → Option TI) (bl : Nat → Bool) (all : List Oper) (bm : List Nat) : Plan → List (Nat × (World → Prop)) → List Value → World → (List PanicEntry → World → Prop) → (List Value → World → Prop) → Prop
  | .done, _, fr, w, _, K => K fr w
  | .take i r, pend, fr, w, Kp, K =>
    match nthO all i with
    | some o => guardX all o fr fun fr yes =>
        cond yes
          (match o.op with
            | .load t a => match evL fr a with
              | .pointer oa => withSome oa fun ad => loadX T t ad w fun v S => planX P T bl all bm r ((i, S) :: pend) (putO fr o.dst v) w Kp K
              | _ => False
            | op => pureX T (evL fr) op fun v => planX P T bl all bm r pend (putO fr o.dst v) w Kp K)
          (planX P T bl all bm r pend (putO fr o.dst undef) w Kp K)
    | none => False
  | .eff i r, pend, fr, w, Kp, K =>
    match nthO all i with
    | some o => guardX all o fr fun fr yes =>
        cond yes (effX P T bl (evL fr) o w Kp fun v w' => keepX (bm.getD i 0) pend w' fun pend => planX P T bl all bm r pend (putO fr o.dst v) w' Kp K)
          (planX P T bl all bm r (dropX (bm.getD i 0) pend) (putO fr o.dst undef) w Kp K)
    | none => False
  | .alt i r rest, pend, fr, w, Kp, K =>
    (match nthO all i with
      | some o => guardX all o fr fun fr yes =>
          cond yes (effX P T bl (evL fr) o w Kp fun v w' => keepX (bm.getD i 0) pend w' fun pend => planX P T bl all bm r pend (putO fr o.dst v) w' Kp K)
            (planX P T bl all bm r (dropX (bm.getD i 0) pend) (putO fr o.dst undef) w Kp K)
      | none => False) ∧ planX P T bl all bm rest pend fr w Kp K

/-- Does a plan go through all orders? -/
def planOk (T : Nat → Option TI) (ops : Array Oper) : Plan → Nat → Array Bool → List Nat → Bool
  | .done, _, ls, _ => (Region.ready .any ops ls).isEmpty
  | .take i r, f, ls, _ =>
    match f with
    | 0 => false
    | f + 1 => (Region.ready .any ops ls).contains i && Region.free .any ops ls i && (match ops[i]? with | some o => isQuiet T o | none => false) && planOk T ops r f (ls.setIfInBounds i true) []
  | .eff i r, f, ls, seen =>
    match f with
    | 0 => false
    | f + 1 => (Region.ready .any ops ls).all (fun j => j == i || seen.contains j) && (Region.ready .any ops ls).contains i && planOk T ops r f (ls.setIfInBounds i true) []
  | .alt i r rest, f, ls, seen =>
    match f with
    | 0 => false
    | f' + 1 => (Region.ready .any ops ls).contains i && planOk T ops r f' (ls.setIfInBounds i true) [] && planOk T ops rest f ls (i :: seen)

/-- A region. -/
def regionX (P : Program) (T : Nat → Option TI) (bl : Nat → Bool) (ops : List Oper) (draw : Bool) (fr : List Value) (w : World) (Kp : List PanicEntry → World → Prop) (K : List Value → World → Prop) : Prop :=
  cond draw
    (cond (planOk T ops.toArray (planOf T ops ops.length (List.replicate ops.length false)) ops.length (Array.replicate ops.length false) [] && Region.noSelect ops.toArray)
      (Drew w fun w' => planX P T bl ops (befs [] ops) (planOf T ops ops.length (List.replicate ops.length false)) [] fr w' Kp K) False)
    (opsX P T bl ops ops fr w Kp K)

/-! Code -/
def regDefs (ops : List Oper) : List Nat := ops.filterMap (·.dst)

/-- The slots that a piece of code writes. -/
def defs : Code → List Nat
  | .region _ ops _ => regDefs ops.toList
  | .seq a b => defs a ++ defs b
  | .cond _ a b => defs a ++ defs b
  | .block _ b => defs b
  | .loop b => defs b
  | _ => []

def tmpOf : Operand → List Nat
  | .tmp t => [t]
  | _ => []

def opUses (o : Oper) : List Nat := o.op.operands.toList.flatMap tmpOf

/-- The slots that it looks at, each as often as it does. -/
def uses (res : List Nat) : Code → List Nat
  | .region _ ops _ => ops.toList.flatMap opUses
  | .seq a b => uses res a ++ uses res b
  | .cond c a b => tmpOf c ++ (uses res a ++ uses res b)
  | .block _ b => uses res b
  | .loop b => uses res b
  | .ret => res
  | _ => []

def memN (n : Nat) : List Nat → Bool
  | [] => false
  | m :: r => Nat.beq m n || memN n r

def cntN (n : Nat) : List Nat → Nat
  | [] => 0
  | m :: r => cond (Nat.beq m n) (cntN n r + 1) (cntN n r)

def dedupN : List Nat → List Nat
  | [] => []
  | m :: r => cond (memN m r) (dedupN r) (m :: dedupN r)

def filtN (p : Nat → Bool) : List Nat → List Nat
  | [] => []
  | m :: r => cond (p m) (m :: filtN p r) (filtN p r)

/-- Looked at before written; written in any case. -/
def flowR : List Oper → List Nat → List Nat → List Nat × List Nat
  | [], e, m => (e, m)
  | o :: r, e, m => flowR r (filtN (fun t => !memN t m) (opUses o) ++ e) (match o.dst with | some t => t :: m | none => m)

def flow (res : List Nat) : Code → List Nat × List Nat
  | .region _ ops _ => flowR ops.toList [] []
  | .seq a b => match flow res a, flow res b with | (ea, ma), (eb, mb) => (ea ++ filtN (fun t => !memN t ma) eb, ma ++ mb)
  | .cond c a b => match flow res a, flow res b with | (ea, ma), (eb, mb) => (tmpOf c ++ (ea ++ eb), filtN (fun t => memN t mb) ma)
  | .block _ b => ((flow res b).1, [])
  | .loop b => ((flow res b).1, [])
  | .ret => (res, [])
  | _ => ([], [])

def bindE (env : List (Nat × Bool)) (t : Nat) : Option Bool → List (Nat × Bool)
  | some b => (t, b) :: env.filter fun x => !Nat.beq x.1 t
  | none => env.filter fun x => !Nat.beq x.1 t

def lookE (env : List (Nat × Bool)) (t : Nat) : Option Bool :=
  match env with
  | [] => none
  | (u, b) :: r => cond (Nat.beq u t) (some b) (lookE r t)

def valE (env : List (Nat × Bool)) : Operand → Option Bool
  | .tmp t => lookE env t
  | .const (.bool b) => some b
  | _ => none

def absOp (env : List (Nat × Bool)) (o : Oper) : List (Nat × Bool) :=
  match o.dst with
  | none => env
  | some t => bindE env t (match o.op with
    | .move x => valE env x
    | .assign x => valE env x
    | .pick c a b => match valE env c with
      | some true => valE env a
      | some false => valE env b
      | none => none
    | .unOp .not _ x => (valE env x).map (!·)
    | _ => none)

/-- The ways through a region that its guards leave. -/
def absR (all : List Oper) : List Oper → List (Nat × Bool) → List (List (Nat × Bool))
  | [], env => [env]
  | o :: r, env =>
    match o.guard with
    | none => absR all r (absOp env o)
    | some (j, want) =>
      match (nthO all j).bind (·.dst) with
      | none => absR all r (absOp env o)
      | some s => match lookE env s with
        | some b => cond (b == want) (absR all r (absOp env o)) (absR all r env)
        | none => absR all r (absOp (bindE env s (some want)) o) ++ absR all r (bindE env s (some (!want)))

/-- The ways on which a piece of code comes to its end, and its exits. -/
def fall : Code → List (Nat × Bool) → List (List (Nat × Bool)) × List Nat
  | .skip, env => ([env], [])
  | .label _, env => ([env], [])
  | .region _ ops _, env => (absR ops.toList ops.toList env, [])
  | .seq a b, env =>
    match fall a env with
    | ([], xa) => ([], xa)
    | ([e], xa) => match fall b e with | (fb, xb) => (fb, xa ++ xb)
    | (_, xa) => match fall b [] with | (fb, xb) => (fb, xa ++ xb)
  | .cond c a b, env =>
    match valE env c with
    | some true => fall a env
    | some false => fall b env
    | none =>
      match c with
      | .tmp t => match fall a (bindE env t (some true)), fall b (bindE env t (some false)) with | (fa, xa), (fb, xb) => (fa ++ fb, xa ++ xb)
      | _ => match fall a env, fall b env with | (fa, xa), (fb, xb) => (fa ++ fb, xa ++ xb)
  | .block id b, env => match fall b env with | (f, x) => (f ++ (filtN (fun i => Nat.beq i id) x).map fun _ => [], filtN (fun i => !Nat.beq i id) x)
  | .loop b, _ => ([], (fall b []).2)
  | .exit id, _ => ([], [id])
  | _, _ => ([], [])

/-- Is there more than one way to its end? -/
def multi (c : Code) : Bool :=
  match (fall c []).1 with
  | [] => false
  | [_] => false
  | _ => true

/-! Typed states -/
def LT : Leaf → Type
  | .bool => Bool
  | .int _ => Int
  | .str => ByteArray
  | .ptr => Option Addr
  | .slice => Option Addr × Nat × Nat
  | .map => Option Nat
  | .any => Value

def LT.val : (l : Leaf) → LT l → Value
  | .bool, b => .bool b
  | .int k, n => .int k n
  | .str, s => .string s
  | .ptr, a => .pointer a
  | .slice, a => .slice a.1 a.2.1 a.2.2
  | .map, r => .map r
  | .any, v => v

def ofLeaf : (l : Leaf) → Value → (LT l → Prop) → Prop
  | .bool, v, K => match v with | .bool b => K b | _ => False
  | .int k, v, K => match v with | .int k' n => cond (same k k') (K n) False | _ => False
  | .str, v, K => match v with | .string s => K s | _ => False
  | .ptr, v, K => match v with | .pointer a => K a | _ => False
  | .slice, v, K => match v with | .slice a l c => K (a, l, c) | _ => False
  | .map, v, K => match v with | .map r => K r | _ => False
  | .any, v, K => K v

def LsT : List Leaf → Type
  | [] => Unit
  | [l] => LT l
  | l :: m :: r => LT l × LsT (m :: r)

def LsT.vals : (ls : List Leaf) → LsT ls → List Value
  | [], _ => []
  | [l], s => [LT.val l s]
  | l :: m :: r, s => LT.val l s.1 :: LsT.vals (m :: r) s.2

def ofLeaves : (ls : List Leaf) → List Value → (LsT ls → Prop) → Prop
  | [], vs, K => match vs with | [] => K () | _ => False
  | [l], vs, K => match vs with | [v] => ofLeaf l v K | _ => False
  | l :: m :: r, vs, K => match vs with | v :: us => ofLeaf l v fun a => ofLeaves (m :: r) us fun s => K (a, s) | [] => False

def ShT : Sh → Type
  | .leaf l => LT l
  | .agg ls => LsT ls

def ShT.val : (s : Sh) → ShT s → Value
  | .leaf l, a => LT.val l a
  | .agg ls, a => .agg (LsT.vals ls a).toArray

def ofSh : (s : Sh) → Value → (ShT s → Prop) → Prop
  | .leaf l, v, K => ofLeaf l v K
  | .agg ls, v, K => match v with | .agg cs => ofLeaves ls cs.toList K | _ => False

def SsT : List Sh → Type
  | [] => Unit
  | [s] => ShT s
  | s :: t :: r => ShT s × SsT (t :: r)

def SsT.vals : (ss : List Sh) → SsT ss → List Value
  | [], _ => []
  | [s], a => [ShT.val s a]
  | s :: t :: r, a => ShT.val s a.1 :: SsT.vals (t :: r) a.2

def ofVals : (ss : List Sh) → List Value → (SsT ss → Prop) → Prop
  | [], vs, K => match vs with | [] => K () | _ => False
  | [s], vs, K => match vs with | [v] => ofSh s v K | _ => False
  | s :: t :: r, vs, K => match vs with | v :: us => ofSh s v fun a => ofVals (t :: r) us fun b => K (a, b) | [] => False

def setZ : List Value → List Nat → List Value → List Value
  | fr, c :: cs, v :: vs => setZ (fr.set c v) cs vs
  | fr, _, _ => fr

def setF : List Value → List Nat → (Nat → Value) → List Value
  | fr, [], _ => fr
  | fr, d :: ds, j => setF (fr.set d (j d)) ds j

def restore (fr : List Value) (cs : List Nat) (vs : List Value) (dead : List Nat) (j : Nat → Value) : List Value := setF (setZ fr cs vs) dead j

def allJ (dead : List Nat) (F : (Nat → Value) → Prop) : Prop :=
  match dead with
  | [] => F fun _ => undef
  | _ => ∀ j : Nat → Value, F j

def putC (fr : List Value) (c : Operand) (b : Bool) : List Value := match c with | .tmp t => fr.set t (.bool b) | _ => fr

/-- What a function's code is read with: the slots' shapes, the results' slots, all that is looked at. -/
structure Cx where
  st : Nat → Sh
  res : List Nat
  all : List Nat

def outside (C : Cx) (c : Code) (t : Nat) : Bool := Nat.blt (cntN t (uses C.res c)) (cntN t C.all)
def carryS (C : Cx) (a : Code) : List Nat := filtN (fun t => memN t (flow C.res a).1 || outside C a t) (dedupN (defs a))
def carryL (C : Cx) (b : Code) : List Nat := filtN (fun t => memN t (flow C.res b).1 || outside C b t) (dedupN (defs b))
def deadOf (a : Code) (cs : List Nat) : List Nat := filtN (fun t => !memN t cs) (dedupN (defs a))

def codeX (P : Program) (T : Nat → Option TI) (bl : Nat → Bool) (C : Cx) : Code → List Value → World → (List PanicEntry → World → Prop) → (List Value → World → Prop) → (Nat → List Value → World → Prop) → (List Value → World → Prop) → Prop
  | .skip, fr, w, _, _, _, Kn => Kn fr w
  | .label _, fr, w, _, _, _, Kn => Kn fr w
  | .region _ ops draw, fr, w, Kp, _, _, Kn => regionX P T bl ops.toList draw fr w Kp Kn
  | .seq a b, fr, w, Kp, Kr, Kx, Kn =>
    cond (multi a)
      (Meet (σ := SsT ((carryS C a).map C.st)) (fun J => codeX P T bl C a fr w Kp Kr Kx fun fr' w' => ofVals ((carryS C a).map C.st) ((carryS C a).map (nth fr')) fun s => J s w')
        fun s w => allJ (deadOf a (carryS C a)) fun j => codeX P T bl C b (restore fr (carryS C a) (SsT.vals ((carryS C a).map C.st) s) (deadOf a (carryS C a)) j) w Kp Kr Kx Kn)
      (codeX P T bl C a fr w Kp Kr Kx fun fr w => codeX P T bl C b fr w Kp Kr Kx Kn)
  | .cond c a b, fr, w, Kp, Kr, Kx, Kn =>
    match evL fr c with
    | .bool t => cond t (codeX P T bl C a (putC fr c true) w Kp Kr Kx Kn) (codeX P T bl C b (putC fr c false) w Kp Kr Kx Kn)
    | _ => False
  | .block id b, fr, w, Kp, Kr, Kx, Kn => codeX P T bl C b fr w Kp Kr (fun i fr w => cond (Nat.beq i id) (Kn fr w) (Kx i fr w)) Kn
  | .loop b, fr, w, Kp, Kr, Kx, _ =>
    ofVals ((carryL C b).map C.st) ((carryL C b).map (nth fr)) fun s =>
      Loop (σ := SsT ((carryL C b).map C.st)) (fun X s w => allJ (deadOf b (carryL C b)) fun j =>
        codeX P T bl C b (restore fr (carryL C b) (SsT.vals ((carryL C b).map C.st) s) (deadOf b (carryL C b)) j) w Kp Kr Kx fun fr' w' =>
          ofVals ((carryL C b).map C.st) ((carryL C b).map (nth fr')) fun s' => X s' w') s w
  | .exit id, fr, w, _, _, Kx, _ => Kx id fr w
  | .ret, fr, w, _, Kr, _, _ => Kr fr w
  | _, _, _, _, _, _, _ => False

def resVals (T : Nat → Option TI) : List ResultVar → List Value → World → (List Value → Prop) → Prop
  | [], _, _, K => K []
  | .tmp t :: r, fr, w, K => resVals T r fr w fun vs => K (nth fr t :: vs)
  | .cell a t :: r, fr, w, K => match nth fr a with
    | .pointer oa => withSome oa fun ad => loadX T t ad w fun v _ => resVals T r fr w fun vs => K (v :: vs)
    | _ => False

def resultsX (T : Nat → Option TI) (rs : List ResultVar) (fr : List Value) (w : World) (K : Value → Prop) : Prop :=
  resVals T rs fr w fun vs => match vs with | [v] => K v | vs => K (.tuple vs.toArray)

def resSlots : List ResultVar → List Nat
  | [] => []
  | .tmp t :: r => t :: resSlots r
  | .cell a _ :: r => a :: resSlots r

def opsOf : Code → List Oper
  | .region _ ops _ => ops.toList
  | .seq a b => opsOf a ++ opsOf b
  | .cond _ a b => opsOf a ++ opsOf b
  | .block _ b => opsOf b
  | .loop b => opsOf b
  | _ => []

def firstW (t : Nat) : List Oper → Option Oper
  | [] => none
  | o :: r => match o.dst with
    | some u => cond (Nat.beq u t) (some o) (firstW t r)
    | none => firstW t r

/-- The shape of what a slot holds. -/
def stOf (T : Nat → Option TI) (fn : Func) (t : Nat) : Sh :=
  match nthO fn.params.toList t with
  | some ty => shOf T ty
  | none => cond (Nat.blt t (fn.params.size + fn.nfree)) (.leaf .ptr)
    (match fn.body with
      | some c => match firstW t (opsOf c) with
        | some o => match o.op with
          | .alloc _ | .box _ _ | .fieldAddr .. | .indexAddr .. | .nilCheck _ => .leaf .ptr
          | _ => shOf T o.type
        | none => .leaf .any
      | none => .leaf .any)

/-- A whole function. -/
def funcX (P : Program) (T : Nat → Option TI) (bl : Nat → Bool) (fn : Func) (args : List Value) (w : World) (R : Ending → World → Prop) : Prop :=
  match fn.body with
  | some c => codeX P T bl ⟨stOf T fn, resSlots fn.results.toList, resSlots fn.results.toList ++ uses (resSlots fn.results.toList) c⟩ c (args ++ List.replicate (fn.ntmps - args.length) undef) w
      (fun ch w => R (.panicked ch) w)
      (fun fr w => resultsX T fn.results.toList fr w fun v => R (.returned v) w)
      (fun _ _ _ => False)
      (fun fr w => resultsX T fn.results.toList fr w fun v => R (.returned v) w)
  | none => False

end Go.Eng

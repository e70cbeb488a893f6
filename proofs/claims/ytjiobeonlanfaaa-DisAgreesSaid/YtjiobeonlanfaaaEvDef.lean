import Derived.Orders
import Derived.Below
namespace Go.Ev

/-! ### Abstract values, objects, frames -/
inductive V where
  | bool (b : Bool)
  | int (k : IntKind) (n : Int)
  | str (s : ByteArray)
  | nsl
  | cst (v : Value)
  | ptr (id off : Nat)
  | eptr (id sz i c : Nat)
  | iptr (cs : List V)
  | imm (len sz : Nat) (get : Nat → List V)
  | own (id sz off len : Nat)
  | arr (id sz coff len : Nat)
  | agg (cs : List V)
  | tup (vs : List V)
  | clo (f : FuncId) (first caps : List V)
  | ifc (t : TypeId) (v : V)
instance : Inhabited V := ⟨.nsl⟩

inductive Ob where
  | box (cs : List V)
  | seq (E : TypeId) (sz len : Nat) (get : Nat → List V)

abbrev Fr := List (Option V)
abbrev Hp := List (Option Ob)

def getF {α : Type} : List (Option α) → Nat → Option α
  | [], _ => none
  | x :: _, 0 => x
  | _ :: l, n + 1 => getF l n
def setF {α : Type} : List (Option α) → Nat → Option α → List (Option α)
  | [], _, _ => []
  | _ :: l, 0, v => v :: l
  | x :: l, n + 1, v => x :: setF l n v
def putF (fr : Fr) (dst : Option Tmp) (v : Option V) : Fr :=
  match dst with
  | some d => setF fr d v
  | none => fr
/-- the same, the list laid out as far as it is set -/
def setK (k : Fr → Prop) : Fr → Nat → Option V → (Fr → Fr) → Prop
  | [], _, _, c => k (c [])
  | _ :: l, 0, v, c => k (c (v :: l))
  | x :: l, n + 1, v, c => setK k l n v (fun l' => c (x :: l'))
def putK (fr : Fr) (dst : Option Tmp) (v : Option V) (k : Fr → Prop) : Prop :=
  match dst with
  | some d => setK k fr d v (fun l => l)
  | none => k fr
def nthL {α : Type} : List α → Nat → Option α
  | [], _ => none
  | x :: _, 0 => some x
  | _ :: l, n + 1 => nthL l n
/-- l with its cells from off on overwritten by vs, as long as they fit -/
def putL : List V → Nat → List V → List V
  | l, _, [] => l
  | [], _, _ :: _ => []
  | _ :: l, 0, v :: vs => v :: putL l 0 vs
  | x :: l, n + 1, vs => x :: putL l n vs

def ofC1 : Value → V
  | .bool b => .bool b
  | .int k n => .int k n
  | .string s => .str s
  | .slice none 0 0 => .nsl
  | v => .cst v
def ofConst : Value → V
  | .agg cs => .agg (cs.toList.map ofC1)
  | v => ofC1 v

def evO (fr : Fr) : Operand → Option V
  | .tmp t => getF fr t
  | .const v => some (ofConst v)
  | .func f => some (.clo f [] [])
  | .global _ => none

/-! ### Types, as the program's tables have them -/
inductive TK where
  | slice (e : TypeId) | array (n : Nat) (e : TypeId) | struct (fs : List (Nat × TypeId)) | int (k : IntKind) | bool | str | other
structure Ty where
  size : Nat
  bytes : Nat
  kind : TK
  zero : List Value
  eq : Bool := false
def Ty.isAgg (y : Ty) : Bool := match y.kind with | .array .. => true | .struct .. => true | _ => false

/-! ### Operations that look at nothing but operands -/
/-- what an operation asks: nothing, or something -/
abbrev Rq := Option Prop
def okS (p : Rq) (v : V) : Option (Rq × V) := some (p, v)
def rqW (p : Rq) (k : Prop) : Prop := match p with | some q => q ∧ k | none => k
def rqA (p q : Rq) : Rq := match p, q with | none, q => q | some p, none => some p | some p, some q => some (p ∧ q)
def Rq.holds (p : Rq) : Prop := match p with | some q => q | none => True
def kEq : IntKind → IntKind → Bool
  | .i8, .i8 | .i16, .i16 | .i32, .i32 | .i64, .i64 | .u8, .u8 | .u16, .u16 | .u32, .u32 | .u64, .u64 => true
  | _, _ => false
def bitsOf (op : BinOp) (k : IntKind) (x y : Int) : Int :=
  match op with
  | .and => k.wrap (BitVec.ofInt k.bits x &&& BitVec.ofInt k.bits y).toNat
  | .or => k.wrap (BitVec.ofInt k.bits x ||| BitVec.ofInt k.bits y).toNat
  | .xor => k.wrap (BitVec.ofInt k.bits x ^^^ BitVec.ofInt k.bits y).toNat
  | _ => k.wrap (BitVec.ofInt k.bits x &&& ~~~(BitVec.ofInt k.bits y)).toNat
def shlI (k : IntKind) (x y : Int) : Int := k.wrap (x * 2 ^ (min y.toNat k.bits))
def shrI (k : IntKind) (x y : Int) : Int := x.fdiv (2 ^ (min y.toNat k.bits))
def binI (op : BinOp) (k : IntKind) (a b : Int) : Option (Rq × V) :=
  match op with
  | .add => okS none (.int k (k.wrap (a + b)))
  | .sub => okS none (.int k (k.wrap (a - b)))
  | .mul => okS none (.int k (k.wrap (a * b)))
  | .quo => okS (some (b ≠ 0)) (.int k (k.wrap (a.tdiv b)))
  | .rem => okS (some (b ≠ 0)) (.int k (a.tmod b))
  | .and => okS none (.int k (bitsOf .and k a b))
  | .or => okS none (.int k (bitsOf .or k a b))
  | .xor => okS none (.int k (bitsOf .xor k a b))
  | .andNot => okS none (.int k (bitsOf .andNot k a b))
  | .eql => okS none (.bool (a == b))
  | .neq => okS none (.bool (a != b))
  | .lss => okS none (.bool (decide (a < b)))
  | .leq => okS none (.bool (decide (a ≤ b)))
  | .gtr => okS none (.bool (decide (a > b)))
  | .geq => okS none (.bool (decide (a ≥ b)))
  | _ => none
def eqC : V → V → Option Bool
  | .int k a, .int k' b => bif kEq k k' then some (a == b) else none
  | .bool a, .bool b => some (a == b)
  | .str a, .str b => some (a == b)
  | _, _ => none
def andB (a b : Bool) : Bool := match a with | true => b | false => false
def eqL : List V → List V → Option Bool
  | [], [] => some true
  | x :: xs, y :: ys => match eqC x y, eqL xs ys with
    | some a, some b => some (andB a b)
    | _, _ => none
  | _, _ => none
def sameK : V → Value → Bool
  | .int k _, .int k' _ => kEq k k'
  | .bool _, .bool _ => true
  | .str _, .string _ => true
  | _, _ => false
def sameKs : List V → List Value → Bool
  | [], [] => true
  | x :: xs, y :: ys => andB (sameK x y) (sameKs xs ys)
  | _, _ => false
def eqV (ty : TypeId → Option Ty) (t : TypeId) (x y : V) : Option Bool :=
  match x, y with
  | .bool a, .bool b => match ty t with
    | some T => (match T.kind with | .bool => some (a == b) | _ => none)
    | none => none
  | .agg xs, .agg ys => match ty t with
    | some T => bif andB T.eq (andB (sameKs xs T.zero) (sameKs ys T.zero)) then eqL xs ys else none
    | none => none
  | .nsl, .nsl => match ty t with
    | some T => (match T.kind with | .slice _ => some true | _ => none)
    | none => none
  | _, _ => none
def binV (ty : TypeId → Option Ty) (op : BinOp) (t : TypeId) (x y : V) : Option (Rq × V) :=
  match x, y with
  | .int k a, .int k' b => match op with
    | .shl => okS (some (0 ≤ b)) (.int k (shlI k a b))
    | .shr => okS (some (0 ≤ b)) (.int k (shrI k a b))
    | _ => bif kEq k k' then binI op k a b else none
  | .str a, .str b => match op with
    | .add => okS (some (((a.size + b.size : Nat) : Int) ≤ 9223372036854775807)) (.str (a ++ b))
    | .eql => okS none (.bool (a.toList == b.toList))
    | .neq => okS none (.bool (!(a.toList == b.toList)))
    | .lss => okS none (.bool (Op.bytesLess a.toList b.toList))
    | .leq => okS none (.bool (Op.bytesLess a.toList b.toList || a.toList == b.toList))
    | .gtr => okS none (.bool (!(Op.bytesLess a.toList b.toList || a.toList == b.toList)))
    | .geq => okS none (.bool (!(Op.bytesLess a.toList b.toList)))
    | _ => none
  | x, y => match op with
    | .eql => match eqV ty t x y with | some b => okS none (.bool b) | none => none
    | .neq => match eqV ty t x y with | some b => okS none (.bool (!b)) | none => none
    | _ => none
def unV (op : UnOp) (x : V) : Option (Rq × V) :=
  match op, x with
  | .neg, .int k n => okS none (.int k (k.wrap (0 - n)))
  | .xor, .int k n => okS none (.int k (bitsOf .xor k (if k.signed then -1 else k.max) n))
  | .not, .bool b => okS none (.bool (!b))
  | _, _ => none
def iteV (b : Bool) (x y : V) : Option V :=
  match b with
  | true => some x
  | false => some y
def partV (ty : TypeId → Option Ty) (t : TypeId) (cs : List V) (off : Nat) : Option V :=
  match ty t with
  | some y => match y.isAgg with
    | true => (match Nat.ble (off + y.size) cs.length with | true => some (.agg ((cs.drop off).take y.size)) | false => none)
    | false => nthL cs off
  | none => none
def lenV (ty : TypeId → Option Ty) (t : TypeId) (v : V) : Option Nat :=
  match ty t with
  | some y => (match y.kind, v with
    | .slice _, .nsl => some 0
    | .slice _, .imm n _ _ => some n
    | .slice _, .own _ _ _ n => some n
    | .slice _, .arr _ _ _ n => some n
    | .str, .str s => some s.size
    | .array n _, _ => some n
    | _, _ => none)
  | none => none
def byteI : List V → Int
  | [.int _ b] => b
  | _ => 0
def strOf (n : Nat) (g : Nat → List V) : ByteArray := ⟨((List.range n).map fun i => UInt8.ofNat (byteI (g i)).toNat).toArray⟩
def strG (s : ByteArray) : Nat → List V := fun i => [.int .u8 ((s.data.toList.getD i 0).toNat : Int)]
def litG (sz : Nat) (cs : List V) : Nat → List V := fun i => (cs.drop (i * sz)).take sz
def subG (off : Nat) (g : Nat → List V) : Nat → List V := fun i => g (i + off)
def appG (n : Nat) (g g' : Nat → List V) : Nat → List V := fun i => if i < n then g i else g' (i - n)
def setG (i c : Nat) (vs : List V) (g : Nat → List V) : Nat → List V := fun j => if j = i then putL (g j) c vs else g j
def copG (off n : Nat) (src g : Nat → List V) : Nat → List V := fun j => if off ≤ j ∧ j < off + n then src (j - off) else g j
def conG (cs : List V) : Nat → List V := fun _ => cs

def forceV (v : V) (k : V → Prop) : Prop :=
  match v with
  | .bool b => k (.bool b)
  | .int i n => k (.int i n)
  | .str s => k (.str s)
  | .nsl => k .nsl
  | .cst v => k (.cst v)
  | .ptr a b => k (.ptr a b)
  | .eptr a b c d => k (.eptr a b c d)
  | .iptr cs => k (.iptr cs)
  | .imm a b g => k (.imm a b g)
  | .own a b c d => k (.own a b c d)
  | .arr a b c d => k (.arr a b c d)
  | .agg cs => k (.agg cs)
  | .tup cs => k (.tup cs)
  | .clo f a b => k (.clo f a b)
  | .ifc t v => k (.ifc t v)
def forceL : List V → (List V → Prop) → Prop
  | [], k => k []
  | v :: l, k => forceV v fun v' => forceL l fun l' => k (v' :: l')
def forceF : Fr → (Fr → Prop) → Prop
  | [], k => k []
  | none :: l, k => forceF l fun l' => k (none :: l')
  | some v :: l, k => forceV v fun v' => forceF l fun l' => k (some v' :: l')
def forceH : Hp → (Hp → Prop) → Prop
  | [], k => k []
  | none :: l, k => forceH l fun l' => k (none :: l')
  | some (.box cs) :: l, k => forceL cs fun cs' => forceH l fun l' => k (some (.box cs') :: l')
  | some (.seq a b c g) :: l, k => forceH l fun l' => k (some (.seq a b c g) :: l')

def optB (x : Option V) (d : V) : V := match x with | some v => v | none => d
/-- the bounds of x[lo:hi] -/
def bnds (n : Nat) (lo hi : Option V) : Option (Rq × Nat × Nat) :=
  match optB hi (.int .i64 n), optB lo (.int .i64 0) with
  | .int _ h, .int _ l => some (some (0 ≤ l ∧ l ≤ h ∧ h ≤ n), l.toNat, h.toNat)
  | _, _ => none
def evOp (ev : Operand → Option V) : Option Operand → Option (Option V)
  | none => some none
  | some x => match ev x with | some v => some (some v) | none => none
/-- a slice type's element type, as the table has it -/
def elK (ty : TypeId → Option Ty) (t : TypeId) : Option Ty := match ty t with | some y => (match y.kind with | .slice e => ty e | _ => none) | none => none
def sliceV (ty : TypeId → Option Ty) (t : TypeId) (x : V) (lo hi : Option V) : Option (Rq × V) :=
  match x with
  | .nsl => match elK ty t, bnds 0 lo hi with | some _, some (p, _, _) => okS p .nsl | _, _ => none
  | .imm n sz g => match elK ty t, bnds n lo hi with
    | some z, some (p, l, h) => (match Nat.beq z.size sz with | true => okS p (.imm (h - l) sz (subG l g)) | false => none)
    | _, _ => none
  | .arr id sz co n => match elK ty t, bnds n lo hi with
    | some z, some (p, l, h) => (match Nat.beq z.size sz with | true => okS p (.arr id sz (co + l * sz) (h - l)) | false => none)
    | _, _ => none
  | .str s => match ty t, bnds s.size lo hi with
    | some y, some (p, l, h) => (match y.kind with | .str => okS p (.str (s.extract l h)) | _ => none)
    | _, _ => none
  | .ptr id off => match ty t with
    | some y => match y.kind with
      | .array n e => match ty e, bnds n lo hi with
        | some z, some (p, l, h) => (match Nat.ble n 1000000 with | true => okS p (.arr id z.size (off + l * z.size) (h - l)) | false => none)
        | _, _ => none
      | _ => none
    | none => none
  | .iptr cs => match ty t with
    | some y => match y.kind with
      | .array n e => match ty e, bnds n lo hi with
        | some z, some (p, l, h) => (match andB (Nat.ble n 1000000) (Nat.ble (n * z.size) cs.length) with | true => okS p (.imm (h - l) z.size (subG l (litG z.size cs))) | false => none)
        | _, _ => none
      | _ => none
    | none => none
  | _ => none

def evL (ev : Operand → Option V) : List Operand → Option (List V)
  | [] => some []
  | x :: l => match ev x, evL ev l with
    | some v, some vs => some (v :: vs)
    | _, _ => none
def cellsV : V → List V
  | .agg cs => cs
  | v => [v]
def oneB : Value → Bool
  | .agg _ | .tuple _ => false
  | _ => true
/-- may it lie in one cell? -/
def cellB : V → Bool
  | .agg _ | .tup _ => false
  | .cst v => oneB v
  | _ => true
def allC : List V → Bool
  | [] => true
  | x :: l => andB (cellB x) (allC l)
/-- parts laid into cells: place i is (offset, size) -/
def fillV (place : Nat → Option (Nat × Nat)) (ev : Operand → Option V) : List (Nat × Operand) → List V → Option (List V)
  | [], cs => some cs
  | (i, x) :: l, cs => match place i, ev x with
    | some (off, n), some v => match andB (andB (Nat.beq (cellsV v).length n) (Nat.ble (off + n) cs.length)) (allC (cellsV v)) with
      | true => fillV place ev l (putL cs off (cellsV v))
      | false => none
    | _, _ => none
def fldPlace (ty : TypeId → Option Ty) (fs : List (Nat × TypeId)) (i : Nat) : Option (Nat × Nat) :=
  match nthL fs i with
  | some (off, t) => match ty t with | some y => some (off, y.size) | none => none
  | none => none
def allT (ty : TypeId → Option Ty) : List (Nat × TypeId) → Bool
  | [] => true
  | (_, t) :: l => match ty t with | some _ => allT ty l | none => false
def repL (n : Nat) (cs : List V) : List V := match n with | 0 => [] | n + 1 => cs ++ repL n cs

/-- the built-in functions that need no memory -/
def pureB (ty : TypeId → Option Ty) (ev : Operand → Option V) : Callee → List Operand → List TypeId → Option (Rq × V)
  | .builtin .len, [x], [t] => match ev x with
    | some v => (match lenV ty t v with | some n => okS none (.int .i64 n) | none => none)
    | none => none
  | .builtin .min, [x, y], _ => match ev x, ev y with
    | some (.int k a), some (.int k' b) => bif kEq k k' then okS none (.int k (if b < a then b else a)) else none
    | _, _ => none
  | .builtin .max, [x, y], _ => match ev x, ev y with
    | some (.int k a), some (.int k' b) => bif kEq k k' then okS none (.int k (if b > a then b else a)) else none
    | _, _ => none
  | _, _, _ => none
/-- what needs no memory: what it asks, and its value -/
def pureV (ty : TypeId → Option Ty) (ev : Operand → Option V) : Op → Option (Rq × V)
  | .move x => match ev x with | some v => okS none v | none => none
  | .assign x => match ev x with | some v => okS none v | none => none
  | .pick c a b => match ev c with
    | some (.bool true) => (match ev a with | some v => okS none v | none => none)
    | some (.bool false) => (match ev b with | some v => okS none v | none => none)
    | _ => none
  | .build t parts => match ty t with
    | some y => match y.kind with
      | .struct fs => (match allT ty fs, fillV (fldPlace ty fs) ev parts.toList (y.zero.map ofC1) with | true, some cs => okS none (.agg cs) | _, _ => none)
      | .array _ e => (match ty e with
        | some z => (match fillV (fun i => some (i * z.size, z.size)) ev parts.toList (y.zero.map ofC1) with | some cs => okS none (.agg cs) | none => none)
        | none => none)
      | _ => none
    | none => none
  | .nilCheck x => match ev x with
    | some (.ptr i o) => okS none (.ptr i o)
    | some (.eptr i s j c) => okS none (.eptr i s j c)
    | some (.iptr cs) => okS none (.iptr cs)
    | _ => none
  | .binOp op t x y _ => match ev x, ev y with
    | some a, some b => binV ty op t a b
    | _, _ => none
  | .unOp op _ x => match ev x with | some a => unV op a | none => none
  | .convert s d x => match ty s, ty d, ev x with
    | some _, some D, some (.int _ n) => (match D.kind with | .int k => okS none (.int k (k.wrap n)) | _ => none)
    | some _, some D, some (.str s) => (match D.kind with | .str => okS none (.str s) | _ => none)
    | _, _, _ => none
  | .makeInterface t x => match ty t, ev x with
    | some _, some v => okS none (.ifc t v)
    | _, _ => none
  | .makeFunc (.func f) first caps => match evL ev first.toList, evL ev caps.toList with
    | some a, some b => okS none (.clo f a b)
    | _, _ => none
  | .slice t x lo hi none => match ev x, evOp ev lo, evOp ev hi with
    | some (.own ..), _, _ => none
    | some v, some l, some h => sliceV ty t v l h
    | _, _, _ => none
  | .fieldAddr t x f => match ty t, ev x with
    | some y, some v => (match y.kind with
      | .struct fs => (match fldPlace ty fs f, v with
        | some (off, _ + 1), .ptr id o => okS none (.ptr id (o + off))
        | some (off, _ + 1), .eptr id sz i c => okS none (.eptr id sz i (c + off))
        | some (off, _ + 1), .iptr cs => okS none (.iptr (cs.drop off))
        | _, _ => none)
      | _ => none)
    | _, _ => none
  | .field t x f => match ty t, ev x with
    | some y, some (.agg cs) => (match y.kind with
      | .struct fs => (match nthL fs f with
        | some (off, ft) => (match partV ty ft cs off with | some v => okS none v | none => none)
        | none => none)
      | _ => none)
    | _, _ => none
  | .indexAddr t x i => match ty t, ev x, ev i with
    | some y, some v, some (.int _ n) => (match y.kind, v with
      | .array l e, .ptr id o => (match ty e with | some z => okS (some (0 ≤ n ∧ n < l)) (.ptr id (o + n.toNat * z.size)) | none => none)
      | .slice e, .imm l sz g => (match ty e with | some z => (match Nat.beq z.size sz with | true => okS (some (0 ≤ n ∧ n < l)) (.iptr (g n.toNat)) | false => none) | none => none)
      | .slice e, .own id sz off l => (match ty e with | some z => (match Nat.beq z.size sz with | true => okS (some (0 ≤ n ∧ n < l)) (.eptr id sz (n.toNat + off) 0) | false => none) | none => none)
      | .slice e, .arr id sz co l => (match ty e with | some z => (match Nat.beq z.size sz with | true => okS (some (0 ≤ n ∧ n < l)) (.ptr id (co + n.toNat * sz)) | false => none) | none => none)
      | _, _ => none)
    | _, _, _ => none
  | .index t x i => match ty t, ev x, ev i with
    | some y, some v, some (.int _ n) => (match y.kind, v with
      | .array l e, .agg cs => (match ty e with | some z => (match partV ty e cs (n.toNat * z.size) with | some r => okS (some (0 ≤ n ∧ n < l)) r | none => none) | none => none)
      | .str, .str s => okS (some (0 ≤ n ∧ n < s.size)) (.int .u8 ((s.data.toList.getD n.toNat 0).toNat : Int))
      | _, _ => none)
    | _, _, _ => none
  | .extract x i => match ev x with
    | some (.tup vs) => (match nthL vs i with | some v => okS none v | none => none)
    | _ => none
  | .call cl => pureB ty ev cl.callee cl.args.toList cl.argTypes.toList
  | _ => none

end Go.Ev

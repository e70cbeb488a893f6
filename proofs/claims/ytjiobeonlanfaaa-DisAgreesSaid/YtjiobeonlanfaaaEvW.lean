import Derived.Test.YtjiobeonlanfaaaEvDef
namespace Go.Ev

def newH (nid : Option Nat) (h : Hp) (o : Ob) : Nat × Hp :=
  match nid with
  | some i => (i, setF h i (some o))
  | none => (h.length, h ++ [some o])
def pureC : V → Bool
  | .bool _ | .int .. | .str _ | .nsl | .imm .. => true
  | .cst v => oneB v
  | _ => false
def allP : List V → Bool
  | [] => true
  | x :: l => andB (pureC x) (allP l)
/-- what a slice or a string holds: what that asks, how many elements, and each one's cells -/
def contV (h : Hp) (sz0 : Nat) : V → Option (Rq × Nat × (Nat → List V))
  | .nsl => some (none, 0, fun _ => [])
  | .imm n sz g => match Nat.beq sz sz0 with | true => some (none, n, g) | false => none
  | .own id sz off n => match getF h id with
    | some (.seq _ sz' L g) => (match andB (Nat.beq sz sz0) (Nat.beq sz' sz0) with | true => some (some (off + n ≤ L), n, subG off g) | false => none)
    | _ => none
  | .arr id sz co n => match getF h id with
    | some (.box cs) => (match andB (Nat.beq sz sz0) (allP cs) with | true => some (some (co + n * sz ≤ cs.length), n, litG sz (cs.drop co)) | false => none)
    | _ => none
  | .str s => match sz0 with | 1 => some (none, s.size, strG s) | _ => none
  | _ => none
/-- cells that are to lie within a row: an own slice among them is the row's from now on, and never written again -/
def frz : List V → Hp → Option (Rq × List V × Hp)
  | [], h => some (none, [], h)
  | .own id sz off n :: l, h => match getF h id with
    | some (.seq _ sz' L g) => (match Nat.beq sz sz' with
      | true => (match frz l (setF h id none) with
        | some (p, l', h') => some (rqA (some (off + n ≤ L)) p, .imm n sz (subG off g) :: l', h')
        | none => none)
      | false => none)
    | _ => none
  | v :: l, h => match pureC v with
    | true => (match frz l h with | some (p, l', h') => some (p, v :: l', h') | none => none)
    | false => none
def loadV (ty : TypeId → Option Ty) (t : TypeId) (h : Hp) : V → Option (Rq × V)
  | .ptr id off => match getF h id with
    | some (.box cs) => (match partV ty t cs off with | some v => okS True v | none => none)
    | _ => none
  | .eptr id sz i c => match getF h id with
    | some (.seq _ sz' L g) => (match Nat.beq sz sz', partV ty t (g i) c with | true, some v => okS (some (i < L)) v | _, _ => none)
    | _ => none
  | .iptr cs => match partV ty t cs 0 with | some v => okS True v | none => none
  | _ => none
def bytesG (n : Nat) (g : Nat → List V) : Prop := ∀ i, i < n → ∃ b : Nat, b < 256 ∧ g i = [.int .u8 (b : Int)]
/-- what looks at memory and turns nothing -/
def readV (ty : TypeId → Option Ty) (ev : Operand → Option V) (h : Hp) : Op → Option (Rq × V)
  | .load t x => match ev x with | some v => loadV ty t h v | none => none
  | .convert s d x => match ty s, ty d, ev x with
    | some _, some _, some (.str _) => none
    | some S, some D, some v => (match S.kind, D.kind with
      | .slice e, .str => (match ty e, contV h 1 v with
        | some z, some (p, n, g) => (match z.kind with | .int .u8 => okS (rqA p (some (bytesG n g))) (.str (strOf n g)) | _ => none)
        | _, _ => none)
      | _, _ => none)
    | _, _, _ => none
  | .slice t x lo hi none => match ev x, evOp ev lo, evOp ev hi with
    | some (.own id sz off n), some l, some u => (match getF h id, elK ty t with
      | some (.seq _ sz' L _), some z => (match andB (Nat.beq sz sz') (Nat.beq z.size sz), bnds n l u with
        | true, some (_, a, b) => (match optB u (.int .i64 n), optB l (.int .i64 0) with
          | .int _ b', .int _ a' => okS (some (0 ≤ a' ∧ a' ≤ b' ∧ ((off : Int) + b' ≤ L))) (.own id sz (off + a) (b - a))
          | _, _ => none)
        | _, _ => none)
      | _, _ => none)
    | _, _, _ => none
  | _ => none
def bigB : Nat := 140737488355328
def maxL : Nat := 9223372036854775807
def iteC (b : Bool) (x y : V) : Option V :=
  match x, y with
  | .int k a, .int k' a' => bif kEq k k' then some (.int k (bif b then a else a')) else none
  | .bool a, .bool a' => some (.bool (bif b then a else a'))
  | _, _ => none
/-- the cells of a box from j on, the first m of which come from elsewhere -/
def cpBox (g : Nat → List V) (m : Nat) : Nat → List V → Option (List V)
  | _, [] => some []
  | j, c :: cs => match g j, cpBox g m (j + 1) cs with
    | [v], some l => (match iteC (decide (j < m)) v c with | some u => some (u :: l) | none => none)
    | _, _ => none
def appW (ty : TypeId → Option Ty) (t : TypeId) (d s : V) (h : Hp) (K : V → Hp → Prop) : Prop :=
  match ty t with
  | some y => match y.kind with
    | .slice e => match ty e with
      | some u =>
        match contV h u.size s with
        | some (p, m, g') => (match d with
          | .nsl => rqW (rqA p (some (m * u.bytes ≤ bigB ∧ m ≤ maxL))) <| K (.own h.length u.size 0 m) (h ++ [some (.seq e u.size m g')])
          | .own id sz off n => (match getF h id with
            | some (.seq E sz' L g) => (match andB (Nat.beq E e) (andB (Nat.beq sz u.size) (Nat.beq sz' u.size)) with
              | true => rqW (rqA p (some (off = 0 ∧ n = L ∧ (n + m) * u.bytes ≤ bigB ∧ n + m ≤ maxL))) <|
                  K (.own h.length u.size 0 (n + m)) (setF h id none ++ [some (.seq e u.size (n + m) (appG n g g'))])
              | false => False)
            | _ => False)
          | _ => False)
        | none => False
      | none => False
    | _ => False
  | none => False
def isStr : V → Bool | .str _ => true | _ => false
def copyW (ty : TypeId → Option Ty) (t : TypeId) (d s : V) (h : Hp) (K : V → Hp → Prop) : Prop :=
  match (match isStr s with | true => none | false => ty t) with
  | some y => match y.kind with
    | .slice e => match ty e with
      | some u => (match contV h u.size s, d with
        | some (p, m, g'), .own id sz off n => (match getF h id with
          | some (.seq E sz' L g) => (match andB (Nat.beq sz u.size) (Nat.beq sz' u.size) with
            | true => rqW (rqA p (some (off + n ≤ L))) <| K (.int .i64 ((min m n : Nat) : Int)) (setF h id (some (.seq E sz' L (copG off (min m n) g' g))))
            | false => False)
          | _ => False)
        | some (p, m, g'), .arr id 1 co n => (match getF h id, u.size with
          | some (.box cs), 1 => (match cpBox g' m 0 ((cs.drop co).take n) with
            | some l => rqW (rqA p (some (co + n ≤ cs.length))) <| K (.int .i64 ((min m n : Nat) : Int)) (setF h id (some (.box (putL cs co l))))
            | none => False)
          | _, _ => False)
        | _, _ => False)
      | none => False
    | _ => False
  | none => False
abbrev CallW := FuncId → List V → Hp → (V → Hp → Prop) → (V → Hp → Prop) → Prop

def callE (ty : TypeId → Option Ty) (cw : CallW) (ev : Operand → Option V) (h : Hp) (K Kp : V → Hp → Prop) : Callee → List Operand → List TypeId → Prop
      | .builtin .append, [d, s], [t, t'] => (match ev d, ev s, ty t' with
        | some a, some b, some T => (match T.kind, isStr b with | .slice _, false => appW ty t a b h K | .str, true => appW ty t a b h K | _, _ => False)
        | _, _, _ => False)
      | .builtin .copy, [d, s], [t, _] => (match ev d, ev s with
        | some a, some b => copyW ty t a b h K
        | _, _ => False)
      | .value f, args, _ => (match ev f, evL ev args with
        | some (.clo g first caps), some vs => cw g (first ++ (vs ++ caps)) h K Kp
        | _, _ => False)
      | _, _, _ => False
/-- one operation: K is handed its value and the memory behind it, Kp what is panicked with -/
def opE (ty : TypeId → Option Ty) (cw : CallW) (o : Op) (ev : Operand → Option V) (nid : Option Nat) (h : Hp) (K Kp : V → Hp → Prop) : Prop :=
  match o with
      | .alloc t => (match ty t with | some y => (match newH nid h (.box (y.zero.map ofC1)) with | (i, h') => K (.ptr i 0) h') | none => False)
      | .box t x => (match ty t, ev x with
        | some y, some v => (match andB (Nat.beq (cellsV v).length y.size) (allC (cellsV v)), newH nid h (.box (cellsV v)) with | true, (i, h') => K (.ptr i 0) h' | _, _ => False)
        | _, _ => False)
      | .buildSlice t len parts => (match ty t with
        | some y => (match y.kind with
          | .slice e => (match ty e with
            | some u => (match andB (Nat.ble (len * u.size) 1000) (andB (Nat.ble len 1000) (Nat.ble 1 u.size)), fillV (fun i => some (i * u.size, u.size)) ev parts.toList (repL len (u.zero.map ofC1)) with
              | true, some cs => (match frz cs h with
                | some (p, cs', h1) => (match newH nid h1 (.seq e u.size len (litG u.size cs')) with | (i, h') => rqW p (K (.own i u.size 0 len) h'))
                | none => False)
              | _, _ => False)
            | none => False)
          | _ => False)
        | none => False)
      | .makeSlice t l c => (match ty t, ev l, ev c with
        | some y, some (.int _ l), some (.int _ c) => (match y.kind with
          | .slice e => (match ty e with
            | some u => (match newH nid h (.seq e u.size l.toNat (conG (u.zero.map ofC1))) with
              | (i, h') => 0 ≤ l ∧ l ≤ c ∧ c ≤ 140737488355328 ∧ c * u.bytes ≤ 140737488355328 ∧ K (.own i u.size 0 l.toNat) h')
            | none => False)
          | _ => False)
        | _, _, _ => False)
      | .store t a x => (match ty t, ev a, ev x with
        | some y, some (.ptr id off), some v => (match getF h id with
          | some (.box cs) => (match andB (Nat.beq (cellsV v).length y.size) (andB (Nat.ble (off + y.size) cs.length) (allC (cellsV v))) with
            | true => K (.tup []) (setF h id (some (.box (putL cs off (cellsV v)))))
            | false => False)
          | _ => False)
        | some y, some (.eptr id sz i c), some v => (match frz (cellsV v) h with
          | some (p, vs, h1) => (match getF h1 id with
            | some (.seq E sz' L g) => (match andB (Nat.beq sz sz') (andB (Nat.beq (cellsV v).length y.size) (Nat.ble (c + y.size) sz)) with
              | true => rqW (rqA p (some (i < L))) (K (.tup []) (setF h1 id (some (.seq E sz' L (setG i c vs g)))))
              | false => False)
            | _ => False)
          | none => False)
        | _, _, _ => False)
      | .convert s d x => (match ty s, ty d, ev x with
        | some S, some D, some (.str b) => (match S.kind, D.kind with
          | .str, .slice e => (match ty e with
            | some u => (match u.kind with | .int .u8 => rqW (some (b.size ≤ maxL)) (K (.imm b.size 1 (strG b)) h) | _ => False)
            | none => False)
          | _, _ => False)
        | _, _, _ => False)
      | .panic x => (match ev x with | some (.ifc t v) => Kp (.ifc t v) h | _ => False)
      | .call cl => callE ty cw ev h K Kp cl.callee cl.args.toList cl.argTypes.toList
      | _ => False

def opW (ty : TypeId → Option Ty) (cw : CallW) (o : Op) (ev : Operand → Option V) (nid : Option Nat) (h : Hp) (K Kp : V → Hp → Prop) : Prop :=
  match pureV ty ev o with
  | some (p, v) => rqW p (K v h)
  | none => match readV ty ev h o with
    | some (p, v) => rqW p (K v h)
    | none => opE ty cw o ev nid h (fun v h' => forceH h' fun h' => K v h') Kp

/-! ### Regions -/
def gslot (ops : List Oper) (g : Nat) : Option Tmp := match nthL ops g with | some o => o.dst | none => none
def splitB (b : Bool) (f : Bool → Prop) : Prop := match b with | true => f true | false => f false
/-- one operation of a region, its guard asked -/
def stepW (ty : TypeId → Option Ty) (cw : CallW) (ops : List Oper) (o : Oper) (nid : Option Nat) (fr : Fr) (h : Hp) (K : Fr → Hp → Prop) (Kp : V → Hp → Prop) : Prop :=
  match o.guard with
  | none => opW ty cw o.op (evO fr) nid h (fun v h' => forceV v fun v => putK fr o.dst (some v) fun fr => K fr h') Kp
  | some (g, want) => match gslot ops g with
    | some s => (match getF fr s with
      | some (.bool b) => splitB b fun b => setK (fun fr =>
          match b, want with
          | true, true | false, false => opW ty cw o.op (evO fr) nid h (fun v h' => forceV v fun v => putK fr o.dst (some v) fun fr => K fr h') Kp
          | _, _ => putK fr o.dst (some (.tup [])) fun fr => K fr h) fr s (some (.bool b)) (fun l => l)
      | some (.tup []) => putK fr o.dst (some (.tup [])) fun fr => K fr h
      | _ => False)
    | none => False
def runW (ty : TypeId → Option Ty) (cw : CallW) (ops : List Oper) (K : Fr → Hp → Prop) (Kp : V → Hp → Prop) : List Oper → Fr → Hp → Prop
  | [], fr, h => K fr h
  | o :: os, fr, h => stepW ty cw ops o none fr h (fun fr' h' => runW ty cw ops K Kp os fr' h') Kp
def clearD : List Oper → Fr → Fr
  | [], fr => fr
  | o :: os, fr => clearD os (putF fr o.dst none)

/-! Regions whose order is open -/
def bindE (e : Edge) : Bool := match e.ground with | .textOnly _ => false | .gcOnly _ => false | _ => true
def edgesOf (o : Oper) : List Nat := (o.after.toList.filter bindE).map (·.on)
/-- what is left of a region of open order: each with its place -/
abbrev Rem := List (Nat × Oper)
inductive Cl where | pure | read | quiet | grow | new | other
def isSl (ty : TypeId → Option Ty) (t : TypeId) : Bool := match ty t with | some y => (match y.kind with | .slice _ => true | _ => false) | none => true
def clOf (ty : TypeId → Option Ty) (quiet : FuncId → Bool) : Op → Cl
  | .move _ | .assign _ | .pick .. | .build .. | .nilCheck _ | .binOp .. | .unOp .. | .makeInterface .. | .makeFunc (.func _) _ _
  | .fieldAddr .. | .field .. | .indexAddr .. | .index .. | .extract .. => .pure
  | .call { callee := .builtin .len, .. } | .call { callee := .builtin .min, .. } | .call { callee := .builtin .max, .. } => .pure
  | .load .. | .slice .. => .read
  | .convert _ d _ => bif isSl ty d then .other else .read
  | .call { callee := .value (.func f), .. } => bif quiet f then .quiet else .other
  | .call { callee := .builtin .append, .. } => .grow
  | .alloc _ | .box .. | .buildSlice .. | .makeSlice .. => .new
  | _ => .other
/-- may the first be taken ahead of the second? (st: what it reads is a box or lies still) -/
def compat (st : Bool) : Cl → Cl → Bool
  | .pure, _ => true
  | .read, .pure | .read, .read => true
  | .read, .quiet | .read, .new | .read, .grow => st
  | _, _ => false
def prB : Cl → Bool
  | .pure | .read => true
  | _ => false
def stV : Option V → Bool
  | some (.ptr ..) => true
  | some (.iptr _) => true
  | _ => false
def nonOwn : Option V → Bool
  | some (.own ..) => false
  | some _ => true
  | none => false
def stB (ev : Operand → Option V) : Op → Bool
  | .load _ x => stV (ev x)
  | .slice _ x _ _ _ => nonOwn (ev x)
  | _ => false
def inN (k : Nat) : List Nat → Bool
  | [] => false
  | j :: l => match Nat.beq k j with | true => true | false => inN k l
def anyN (S : List Nat) : List Nat → Bool
  | [] => false
  | k :: ks => match inN k S with | true => true | false => anyN S ks
/-- with those that wait for one of S -/
def waitS : Rem → List Nat → List Nat
  | [], S => S
  | (j, p) :: l, S => match anyN S (edgesOf p) with | true => waitS l (j :: S) | false => waitS l S
/-- may o be taken now, ahead of all that are left? -/
def safeN (ty : TypeId → Option Ty) (quiet : FuncId → Bool) (opsA : Array Oper) (S : List Nat) (o : Oper) (st : Bool) : Rem → Bool
  | [] => true
  | (j, p) :: l => match inN j S with
      | true => safeN ty quiet opsA S o st l
      | false => match compat st (clOf ty quiet o.op) (clOf ty quiet p.op) with
        | true => (match o.apart opsA p with | true => safeN ty quiet opsA S o st l | false => false)
        | false => false
def memN (k : Nat) : Rem → Bool
  | [] => false
  | (j, _) :: l => match Nat.beq k j with | true => true | false => memN k l
def readyB (n : Nat) (rem : Rem) : List Nat → Bool
  | [] => true
  | k :: ks => match Nat.ble (k + 1) n with
    | true => (match memN k rem with | true => false | false => readyB n rem ks)
    | false => false
def delN (k : Nat) : Rem → Rem
  | [] => []
  | (j, p) :: l => match Nat.beq k j with | true => delN k l | false => (j, p) :: delN k l
def pickN (ty : TypeId → Option Ty) (quiet : FuncId → Bool) (opsA : Array Oper) (ev : Operand → Option V) (rem : Rem) : Rem → Option (Nat × Oper)
  | [] => none
  | (i, o) :: l => match prB (clOf ty quiet o.op) with
    | true => (match readyB opsA.size rem (edgesOf o) with
      | true => (match safeN ty quiet opsA (waitS rem [i]) o (stB ev o.op) (delN i rem) with
        | true => some (i, o)
        | false => pickN ty quiet opsA ev rem l)
      | false => pickN ty quiet opsA ev rem l)
    | false => pickN ty quiet opsA ev rem l
def readyL (n : Nat) (rem : Rem) : Rem → Rem
  | [] => []
  | (i, o) :: l => match readyB n rem (edgesOf o) with
    | true => (i, o) :: readyL n rem l
    | false => readyL n rem l
def conjL (f : Nat → Oper → Prop) : Rem → Prop
  | [] => False
  | [(i, o)] => f i o
  | (i, o) :: r :: l => f i o ∧ conjL f (r :: l)
def numL : Nat → List Oper → Rem
  | _, [] => []
  | i, o :: l => (i, o) :: numL (i + 1) l
def drawN (ty : TypeId → Option Ty) (quiet : FuncId → Bool) (cw : CallW) (opsA : Array Oper) (K : Fr → Hp → Prop) (Kp : V → Hp → Prop) : Nat → Rem → Fr → Hp → Prop
  | _, [], fr, h => K fr h
  | 0, _ :: _, _, _ => False
  | n + 1, r :: l, fr, h => match pickN ty quiet opsA (evO fr) (r :: l) (r :: l) with
    | some (i, o) => stepW ty cw opsA.toList o none fr h (fun fr' h' => drawN ty quiet cw opsA K Kp n (delN i (r :: l)) fr' h') Kp
    | none => conjL (fun i o => stepW ty cw opsA.toList o none fr h (fun fr' h' => drawN ty quiet cw opsA K Kp n (delN i (r :: l)) fr' h') Kp) (readyL opsA.size (r :: l) (r :: l))
def drawW (ty : TypeId → Option Ty) (quiet : FuncId → Bool) (cw : CallW) (opsA : Array Oper) (K : Fr → Hp → Prop) (Kp : V → Hp → Prop) (fr : Fr) (h : Hp) : Prop :=
  drawN ty quiet cw opsA K Kp opsA.size (numL 0 opsA.toList) fr h

/-! ### Code -/
inductive Ex where
  | normal
  | exit (id : Nat)
  | ret
  | panic (v : V)
abbrev Post := Ex → Fr → Hp → Prop
def thenQ (next : Fr → Hp → Prop) (Q : Post) : Post
  | .normal, fr, h => next fr h
  | e, fr, h => Q e fr h
def blockQ (id : Nat) (Q : Post) : Post
  | .exit i, fr, h => match Nat.beq i id with | true => Q .normal fr h | false => Q (.exit i) fr h
  | e, fr, h => Q e fr h
/-- what is alike, as far as it is told -/
def vle : V → V → Prop
  | .imm n sz g, .imm n' sz' g' => n = n' ∧ sz = sz' ∧ ∀ i, i < n → g i = g' i
  | .nsl, .imm n' _ _ => n' = 0
  | v, v' => v = v'
mutual
def idsB (n : Nat) : V → Prop
  | .ptr id _ => id < n
  | .eptr id _ _ _ => id < n
  | .own id _ _ _ => id < n
  | .arr id _ _ _ => id < n
  | .agg cs => idsL n cs
  | .tup cs => idsL n cs
  | .clo _ a b => idsL n a ∧ idsL n b
  | .ifc _ v => idsB n v
  | _ => True
def idsL (n : Nat) : List V → Prop
  | [] => True
  | d :: l => idsB n d ∧ idsL n l
end
def wkL (n : Nat) : List V → List V → Prop
  | [], [] => True
  | v :: l, v' :: l' => vle v v' ∧ idsB n v' ∧ wkL n l l'
  | _, _ => False
def wkF (n : Nat) : Fr → Fr → Prop
  | [], [] => True
  | _ :: l, none :: l' => wkF n l l'
  | some v :: l, some v' :: l' => vle v v' ∧ idsB n v' ∧ wkF n l l'
  | _, _ => False
def wkO (n : Nat) : Ob → Ob → Prop
  | .box cs, .box cs' => wkL n cs cs'
  | .seq E sz m g, .seq E' sz' m' g' => E = E' ∧ sz = sz' ∧ m = m' ∧ ∀ i, i < m → g i = g' i
  | _, _ => False
def wkH (n : Nat) : Hp → Hp → Prop
  | _, [] => True
  | _ :: l, none :: l' => wkH n l l'
  | some o :: l, some o' :: l' => wkO n o o' ∧ wkH n l l'
  | _, _ => False
/-- slots forgotten, no more -/
def fgF : Fr → Fr → Prop
  | [], [] => True
  | _ :: l, none :: l' => fgF l l'
  | some v :: l, some v' :: l' => v = v' ∧ fgF l l'
  | _, _ => False
def keepF (ks : List Nat) : Nat → Fr → Fr
  | _, [] => []
  | p, x :: l => (match inN p ks with | true => x | false => none) :: keepF ks (p + 1) l
def lookF (p : Nat) : List (Nat × V) → Option V
  | [] => none
  | (q, v) :: l => match Nat.beq p q with | true => some v | false => lookF p l
def mkF : Nat → Nat → List (Nat × V) → Fr
  | 0, _, _ => []
  | n + 1, p, l => lookF p l :: mkF n (p + 1) l
mutual
def mapS (s : Nat → Nat) : V → V
  | .ptr id o => .ptr (s id) o
  | .eptr id a b c => .eptr (s id) a b c
  | .own id a b c => .own (s id) a b c
  | .arr id a b c => .arr (s id) a b c
  | .agg cs => .agg (mapSL s cs)
  | .tup cs => .tup (mapSL s cs)
  | .clo f a b => .clo f (mapSL s a) (mapSL s b)
  | .ifc t v => .ifc t (mapS s v)
  | .bool b => .bool b
  | .int k n => .int k n
  | .str b => .str b
  | .nsl => .nsl
  | .cst v => .cst v
  | .iptr cs => .iptr cs
  | .imm n sz g => .imm n sz g
def mapSL (s : Nat → Nat) : List V → List V
  | [] => []
  | d :: l => mapS s d :: mapSL s l
end
/-- fr, h under other numbers: s tells the old one of each new one; what has none is let go -/
def wkR (lo : Nat) (fr : Fr) (h : Hp) (fr' : Fr) (h' : Hp) : Prop :=
  ∃ s : Nat → Nat, lo ≤ h'.length ∧ (∀ i, i < lo → s i = i) ∧ (∀ i j, i < h'.length → j < h'.length → s i = s j → i = j) ∧ fr.length = fr'.length ∧
    (∀ p d', getF fr' p = some d' → idsB h'.length d' ∧ getF fr p = some (mapS s d')) ∧
    (∀ i cs', getF h' i = some (.box cs') → idsL h'.length cs' ∧ getF h (s i) = some (.box (mapSL s cs'))) ∧
    (∀ i E sz m g, getF h' i = some (.seq E sz m g) → getF h (s i) = some (.seq E sz m g))
/-- fr, h may be told as fr', h': slots forgotten, memory let go, or told under other numbers -/
def wk (lo : Nat) (fr : Fr) (h : Hp) (fr' : Fr) (h' : Hp) : Prop := (h' = h ∧ fgF fr fr') ∨ (lo ≤ h'.length ∧ h'.length ≤ h.length ∧ wkF h'.length fr fr' ∧ wkH h'.length h h') ∨ wkR lo fr h fr' h'
@[irreducible] def LoopW (lo : Nat) (body : Post → Fr → Hp → Prop) (Q : Post) (fr : Fr) (h : Hp) : Prop :=
  ∃ I : Nat → Fr → Hp → Prop, (∃ n fr' h', wk lo fr h fr' h' ∧ I n fr' h') ∧
    ∀ n fr h, I n fr h → body (thenQ (fun fr1 h1 => ∃ m fr2 h2, m < n ∧ wk lo fr1 h1 fr2 h2 ∧ I m fr2 h2) Q) fr h
def litK (fr : Fr) (c : Operand) (b : Bool) (k : Fr → Prop) : Prop := match c with | .tmp t => setK k fr t (some (.bool b)) (fun l => l) | _ => k fr
def AWP (ty : TypeId → Option Ty) (quiet : FuncId → Bool) (cw : CallW) (lo : Nat) : Code → Post → Fr → Hp → Prop
  | .skip, Q, fr, h => Q .normal fr h
  | .label _, Q, fr, h => Q .normal fr h
  | .region _ ops draw, Q, fr, h => match draw with
    | false => runW ty cw ops.toList (Q .normal) (fun v h' => Q (.panic v) (clearD ops.toList fr) h') ops.toList fr h
    | true => drawW ty quiet cw ops (Q .normal) (fun v h' => Q (.panic v) (clearD ops.toList fr) h') fr h
  | .seq a b, Q, fr, h => AWP ty quiet cw lo a (thenQ (AWP ty quiet cw lo b Q) Q) fr h
  | .cond c x y, Q, fr, h => match evO fr c with
    | some (.bool b) => splitB b fun b => match b with
      | true => litK fr c true fun fr => AWP ty quiet cw lo x Q fr h
      | false => litK fr c false fun fr => AWP ty quiet cw lo y Q fr h
    | _ => False
  | .block id c, Q, fr, h => AWP ty quiet cw lo c (blockQ id Q) fr h
  | .loop c, Q, fr, h => LoopW lo (AWP ty quiet cw lo c) Q fr h
  | .exit id, Q, fr, h => Q (.exit id) fr h
  | .ret, Q, fr, h => Q .ret fr h
  | _, _, _, _ => False

/-! ### Calls -/
def resV (ty : TypeId → Option Ty) (fr : Fr) (h : Hp) : List ResultVar → Option (Rq × List V)
  | [] => some (none, [])
  | .tmp t :: l => match getF fr t, resV ty fr h l with
    | some v, some (p, vs) => some (p, v :: vs)
    | _, _ => none
  | .cell a t :: l => match getF fr a, resV ty fr h l with
    | some v, some (p, vs) => (match loadV ty t h v with | some (q, u) => some (rqA q p, u :: vs) | none => none)
    | _, _ => none
def retQ (ty : TypeId → Option Ty) (rs : List ResultVar) (K Kp : V → Hp → Prop) : Post
  | .normal, fr, h | .ret, fr, h => match resV ty fr h rs with
    | some (p, [v]) => rqW p (K v h)
    | some (p, vs) => rqW p (K (.tup vs) h)
    | none => False
  | .panic v, _, h => Kp v h
  | .exit _, _, _ => False
def someL (l : List V) : Fr := l.map some
def noneF : Nat → Fr
  | 0 => []
  | n + 1 => none :: noneF n
abbrev Ct := FuncId → Option (List V → Hp → (V → Hp → Prop) → (V → Hp → Prop) → Prop)
structure Env where
  ty : TypeId → Option Ty
  fn : FuncId → Option Func
  ct : Ct
  quiet : FuncId → Bool
def bodyW (E : Env) (cw : CallW) (f : Func) (args : List V) (h : Hp) (K Kp : V → Hp → Prop) : Prop :=
  match f.body with
  | some c => forceF (someL args ++ noneF (f.ntmps - args.length)) fun fr => AWP E.ty E.quiet cw h.length c (retQ E.ty f.results.toList K Kp) fr h
  | none => False
def callW (E : Env) : Nat → CallW
  | 0 => fun _ _ _ _ _ => False
  | n + 1 => fun f args h K Kp => match E.ct f with
    | some c => c args h K Kp
    | none => match E.fn f with
      | some fn => bodyW E (callW E n) fn args h K Kp
      | none => False
end Go.Ev

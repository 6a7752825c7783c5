/- The layer: an abstract machine over the model's code and the proof that it is sound. -/
import Derived.Orders
import Derived.Laws.IdiomCopy
import Derived.Laws.Cells
import Derived.Laws.Sem
import Derived.Deep.MidRow
import Derived.Laws.StructEq
import Derived.IntWalk
/-
  An abstract machine on the model's own Code: pure values, own boxes and rows. It is evaluated by unfolding; that it is sound is proved in the texts behind this one.
-/

namespace Go.Ab

/-- Abstract values. 'sl': an immutable slice of n elements of es cells each; 'ro': a pointer into immutable memory; 'ptr', 'osl': a pointer into, a slice of, an own object. -/
inductive AV where
  | undef
  | bool (b : Bool)
  | int (k : IntKind) (n : Int)
  | str (s : ByteArray)
  | sl (es n : Nat) (full : Bool) (g : Nat → AV)
  | ro (cs : List AV)
  | agg (cs : List AV)
  | ptr (o i off : Nat)
  | osl (o i n : Nat) (full : Bool)
  | fn (f : FuncId) (caps : List AV)
  | tup (vs : List AV)
  | nilp
  | raw (o : Nat) (a : Option Addr) (n cap : Nat)

/-- Own objects: a box of cells; a row of n elements of es cells each (elements are pure). -/
inductive AObj where
  | box (cs : List AV)
  | row (es n : Nat) (g : Nat → AV)
  | held (a : Option Addr) (cap es n : Nat) (g : Nat → AV)

inductive ZK where
  | bool | int (k : IntKind) | str | slice | ptr | other
  deriving DecidableEq

inductive TD where
  | bool | int (k : IntKind) | str | slice (e : TypeId) | struct (fs : List (Nat × Nat)) | pointer (e : TypeId) | other
  deriving DecidableEq

structure TyI where
  size : Nat
  agg : Bool
  bytes : Nat
  zero : List ZK
  desc : TD
  deriving DecidableEq

structure FnI where
  muts : List Nat := []
  frz : Bool := false

structure Cfg where
  ty : List (Nat × TyI)
  eqs : List (Nat × List ZK) := []
  fns : List (Nat × FnI)
  glob : List (Nat × List AV)

def look {α : Type} : List (Nat × α) → Nat → Option α
  | [], _ => none
  | (k, v) :: l, t => match Nat.beq k t with | true => some v | false => look l t

def tget (T : List (Nat × AV)) (t : Nat) : AV :=
  match look T t with | some v => v | none => .undef

def hget (H : List (Nat × Option AObj)) (o : Nat) : Option AObj :=
  match look H o with | some (some x) => some x | _ => none

abbrev Ups := List (Nat × Option AObj)

/-- The abstract course of one operation. -/
inductive Pg where
  | ret (v : AV) (ups : Ups)
  | need (p : Prop) (k : Pg)
  | rd (o : Nat) (k : AObj → Pg)
  | call (f : FuncId) (args : List AV) (obs : List AObj) (k : AV → List AObj → Pg)
  | fail

def nilG : Nat → AV := fun _ => .undef

def ofConst : Value → AV
  | .bool b => .bool b
  | .int k n => .int k n
  | .string s => .str s
  | .slice none 0 0 => .sl 0 0 true nilG
  | .pointer none => .nilp
  | _ => .undef

def ofZ : ZK → AV
  | .bool => .bool false
  | .int k => .int k 0
  | .str => .str ByteArray.empty
  | .slice => .sl 0 0 true nilG
  | .ptr => .nilp
  | .other => .undef

def ofZs : List ZK → List AV
  | [] => []
  | z :: l => ofZ z :: ofZs l

def AV.cells : AV → List AV
  | .agg cs => cs
  | v => [v]

def nth : List AV → Nat → AV
  | [], _ => .undef
  | v :: _, 0 => v
  | _ :: l, n + 1 => nth l n

/-- Put 'new' into 'l' from place 'off' on. -/
def putL : Nat → List AV → List AV → List AV
  | _, [], l => l
  | 0, v :: new, _ :: l => v :: putL 0 new l
  | n + 1, new, x :: l => x :: putL n new l
  | _, _, [] => []

def okCell : AV → Bool
  | .undef | .agg _ | .tup _ => false
  | _ => true

def okCells : List AV → Bool
  | [] => true
  | v :: l => match okCell v with | true => okCells l | false => false

/-- The value's cells, if each is one cell of known kind. -/
def cellsK (v : AV) (k : List AV → Pg) : Pg :=
  match v.cells with
  | cs => match okCells cs with | true => k cs | false => .fail

def chkK (b : Bool) (k : Pg) : Pg := match b with | true => k | false => .fail

/-- Force the heads. -/
def forceL : List AV → (List AV → Prop) → Prop
  | [], K => K []
  | v :: l, K => forceL l (fun l' =>
    match v with
    | .undef => K (.undef :: l') | .bool b => K (.bool b :: l') | .int k n => K (.int k n :: l') | .str s => K (.str s :: l')
    | .sl es n f g => K (.sl es n f g :: l') | .ro cs => K (.ro cs :: l') | .agg cs => K (.agg cs :: l') | .ptr o i off => K (.ptr o i off :: l')
    | .osl o i n f => K (.osl o i n f :: l') | .fn f caps => K (.fn f caps :: l') | .tup vs => K (.tup vs :: l') | .nilp => K (.nilp :: l') | .raw o a n c => K (.raw o a n c :: l'))

def force (v : AV) (K : AV → Prop) : Prop :=
  match v with
  | .undef => K .undef | .bool b => K (.bool b) | .int k n => K (.int k n) | .str s => K (.str s)
  | .sl es n f g => K (.sl es n f g)
  | .ro cs => forceL cs fun cs' => K (.ro cs')
  | .agg cs => forceL cs fun cs' => K (.agg cs')
  | .ptr o i off => K (.ptr o i off) | .osl o i n f => K (.osl o i n f)
  | .fn f caps => forceL caps fun cs' => K (.fn f cs')
  | .tup vs => forceL vs fun cs' => K (.tup cs')
  | .nilp => K .nilp
  | .raw o a n c => K (.raw o a n c)

def forceUps : Ups → (Ups → Prop) → Prop
  | [], K => K []
  | (o, none) :: l, K => forceUps l fun l' => K ((o, none) :: l')
  | (o, some (.row es n g)) :: l, K => forceUps l fun l' => K ((o, some (.row es n g)) :: l')
  | (o, some (.held a c es n g)) :: l, K => forceUps l fun l' => K ((o, some (.held a c es n g)) :: l')
  | (o, some (.box cs)) :: l, K => forceL cs fun cs' => forceUps l fun l' => K ((o, some (.box cs')) :: l')

def InI64 (n : Int) : Prop := -9223372036854775808 ≤ n ∧ n ≤ 9223372036854775807

def addN : Nat → Nat → Nat
  | 0, k => k
  | n + 1, k => n + 1 + k

def shiftG (i : Nat) (g : Nat → AV) : Nat → AV := match i with | 0 => g | n + 1 => fun j => g (n + 1 + j)

def listG (l : List AV) : Nat → AV := fun i => nth l i

def appG (n : Nat) (g h : Nat → AV) : Nat → AV := fun j => bif Nat.blt j n then g j else h (j - n)

def setG (g : Nat → AV) (i : Nat) (v : AV) : Nat → AV := fun j => bif Nat.beq j i then v else g j

/-- From own memory to pure values: own slices become immutable ones; the own objects that were met. -/
def pur : Nat → AV → (AV → List Nat → Pg) → Pg
  | 0, _, _ => .fail
  | _ + 1, .osl o i n full, k => .rd o fun
    | .row es _ g => k (.sl es n full (shiftG i g)) [o]
    | _ => .fail
  | f + 1, .ptr o i off, k => match i with
    | 0 => .rd o fun
      | .box cs => purL f (cs.drop off) fun cs' ids => k (.ro cs') (o :: ids)
      | _ => .fail
    | _ + 1 => .fail
  | f + 1, .agg cs, k => purL f cs fun cs' ids => k (.agg cs') ids
  | f + 1, .tup cs, k => purL f cs fun cs' ids => k (.tup cs') ids
  | f + 1, .fn fn cs, k => purL f cs fun cs' ids => k (.fn fn cs') ids
  | _ + 1, v, k => k v []
  where purL : Nat → List AV → (List AV → List Nat → Pg) → Pg
  | 0, _, _ => .fail
  | _ + 1, [], k => k [] []
  | f + 1, v :: l, k => pur f v fun v' i1 => purL f l fun l' i2 => k (v' :: l') (i1 ++ i2)

def fuel : Nat := 60

/-- Objects that have become immutable. -/
def dead : List Nat → Ups
  | [] => []
  | o :: l => (o, none) :: dead l

def need1 (p : Prop) (v : AV) : Pg := .need p (.ret v [])

def ret1 (v : AV) : Pg := .ret v []

def loadPg (ti : TyI) (cs : List AV) : Pg :=
  match ti.agg with
  | true => chkK (Nat.ble ti.size cs.length) (ret1 (.agg (cs.take ti.size)))
  | false => match cs with
    | v :: _ => ret1 v
    | [] => .fail

def arith (op : BinOp) (a b : Int) : Pg :=
  match op with
  | .add => need1 (InI64 (a + b)) (.int .i64 (a + b))
  | .sub => need1 (InI64 (a - b)) (.int .i64 (a - b))
  | .mul => need1 (InI64 (a * b)) (.int .i64 (a * b))
  | .quo => need1 (b ≠ 0 ∧ InI64 (a.tdiv b)) (.int .i64 (a.tdiv b))
  | .rem => need1 (b ≠ 0) (.int .i64 (a.tmod b))
  | _ => .fail

def cmpI (op : BinOp) (a b : Int) : Pg :=
  match op with
  | .eql => ret1 (.bool (a == b))
  | .neq => ret1 (.bool (a != b))
  | .lss => ret1 (.bool (decide (a < b)))
  | .leq => ret1 (.bool (decide (a ≤ b)))
  | .gtr => ret1 (.bool (decide (b < a)))
  | .geq => ret1 (.bool (decide (b ≤ a)))
  | _ => .fail

def isArith : BinOp → Bool
  | .add | .sub | .mul | .quo | .rem => true
  | _ => false

/-- arithmetic of other kinds, with its wraps -/
def arithW (k : IntKind) (op : BinOp) (a b : Int) : Pg :=
  match op with
  | .add => ret1 (.int k (k.wrap (a + b)))
  | .sub => ret1 (.int k (k.wrap (a - b)))
  | .mul => ret1 (.int k (k.wrap (a * b)))
  | _ => .fail

def andI (k : IntKind) (a b : Int) : Int := k.wrap (BitVec.ofInt k.bits a &&& BitVec.ofInt k.bits b).toNat
def shrI (k : IntKind) (a b : Int) : Int := a.fdiv (2 ^ min b.toNat k.bits)

def kindEq (a b : IntKind) : Bool := decide (a = b)

/-- '==' of cells, plain kinds alone. -/
def eqZ : List ZK → List AV → List AV → Option Bool
  | [], [], [] => some true
  | .int k :: zs, .int k1 a :: l, .int k2 b :: m => match kindEq k k1, kindEq k k2, eqZ zs l m with
    | true, true, some r => some ((a == b) && r)
    | _, _, _ => none
  | .bool :: zs, .bool a :: l, .bool b :: m => match eqZ zs l m with
    | some r => some ((a == b) && r)
    | none => none
  | .str :: zs, .str a :: l, .str b :: m => match eqZ zs l m with
    | some r => some ((a.toList == b.toList) && r)
    | none => none
  | _, _, _ => none

def strPg (op : BinOp) (a b : ByteArray) : Pg :=
  match op with
  | .add => need1 (a.size + b.size ≤ 9223372036854775807) (.str (a ++ b))
  | .eql => ret1 (.bool (a.toList == b.toList))
  | .neq => ret1 (.bool (!(a.toList == b.toList)))
  | .lss => ret1 (.bool (Op.bytesLess a.toList b.toList))
  | .leq => ret1 (.bool (Op.bytesLess a.toList b.toList || a.toList == b.toList))
  | .gtr => ret1 (.bool (!(Op.bytesLess a.toList b.toList || a.toList == b.toList)))
  | .geq => ret1 (.bool (!Op.bytesLess a.toList b.toList))
  | _ => .fail

def pickPg (c : AV) (ea eb : Operand) (a b : AV) : Pg :=
  match c with
  | .bool c => match ea, eb, a, b with
    | _, .const (.bool false), .bool x, _ => ret1 (.bool (c && x))
    | .const (.bool true), _, _, .bool y => ret1 (.bool (c || y))
    | _, _, .bool x, .bool y => ret1 (.bool (bif c then x else y))
    | _, _, .undef, y => need1 (c = false) y
    | _, _, x, .undef => need1 (c = true) x
    | _, _, _, _ => .fail
  | _ => .fail

section ops
variable (cfg : Cfg)

def tyK (t : TypeId) (k : TyI → Pg) : Pg := match look cfg.ty t with | some i => k i | none => .fail

/-- the element type of a slice type -/
def elemK (t : TypeId) (k : TyI → Pg) : Pg := match look cfg.ty t with
  | some i => match i.desc with
    | .slice e => tyK cfg e k
    | _ => .fail
  | none => .fail

def binPg (op : BinOp) (t : TypeId) (x y : AV) : Pg :=
  match x, y with
  | .int k a, .int k' b => chkK (kindEq k k') (match isArith op with
    | true => match kindEq k .i64 with
      | true => arith op a b
      | false => arithW k op a b
    | false => match op with
      | .and => ret1 (.int k (andI k a b))
      | .shr => need1 (0 ≤ b) (.int k (shrI k a b))
      | _ => cmpI op a b)
  | .bool a, .bool b => tyK cfg t fun ti => match ti.desc, op with
    | .bool, .eql => ret1 (.bool (a == b))
    | .bool, .neq => ret1 (.bool (!(a == b)))
    | _, _ => .fail
  | .str a, .str b => strPg op a b
  | .agg cs, .agg cs' => match look cfg.eqs t with
    | some zs => match eqZ zs cs cs', op with
      | some r, .eql => ret1 (.bool r)
      | some r, .neq => ret1 (.bool (!r))
      | _, _ => .fail
    | none => .fail
  | _, _ => .fail

def nthF : List (Nat × Nat) → Nat → Option (Nat × Nat)
  | [], _ => none
  | x :: _, 0 => some x
  | _ :: l, n + 1 => nthF l n

def fieldOf (ti : TyI) (f : Nat) : Option (Nat × Nat) := match ti.desc with
  | .struct fs => nthF fs f
  | _ => none

/-- parts into the cells of a struct -/
def fillS (fs : List (Nat × Nat)) : List (Nat × AV) → List AV → (List AV → Pg) → Pg
  | [], cs, k => k cs
  | (i, v) :: rest, cs, k => match nthF fs i with
    | some (off, t) => tyK cfg t fun ti => cellsK v fun vs => chkK (Nat.beq vs.length ti.size) (chkK (Nat.ble (off + vs.length) cs.length) (fillS fs rest (putL off vs cs) k))
    | none => .fail

/-- the elements of a slice literal -/
def setNth : Nat → AV → List AV → List AV
  | _, _, [] => []
  | 0, v, _ :: l => v :: l
  | n + 1, v, x :: l => x :: setNth n v l

def fillE (size : Nat) (agg : Bool) : List (Nat × AV) → List AV → (List AV → Pg) → Pg
  | [], es, k => k es
  | (i, v) :: rest, es, k => chkK (match agg, v with | true, .agg _ => true | true, _ => false | false, .agg _ => false | false, _ => true)
    (cellsK v fun vs => chkK (Nat.beq vs.length size) (chkK (Nat.blt i es.length) (fillE size agg rest (setNth i v es) k)))

def zeroOf (ti : TyI) : AV := match ti.agg with
  | true => .agg (ofZs ti.zero)
  | false => nth (ofZs ti.zero) 0

/-- zero values can be made -/
def zok (ti : TyI) : Bool := match Nat.blt 0 ti.size with
  | true => match ti.agg with
    | true => true
    | false => Nat.beq ti.size 1
  | false => false

def repE : Nat → AV → List AV
  | 0, _ => []
  | n + 1, z => z :: repE n z

def purParts : List (Nat × AV) → (List (Nat × AV) → List Nat → Pg) → Pg
  | [], k => k [] []
  | (i, v) :: l, k => pur fuel v fun v' i1 => purParts l fun l' i2 => k ((i, v') :: l') (i1 ++ i2)

def slicePg (x : AV) (lo hi : Option AV) (hasMax full3 : Bool) : Pg :=
  match lo, hi with
  | none, none => chkK (!hasMax) (match x with
    | .sl es n full g => ret1 (.sl es n full g)
    | .osl o i n full => ret1 (.osl o i n full)
    | _ => .fail)
  | none, some (.int _ h) => chkK (!hasMax || full3) (match x with
    | .sl es n _ g => need1 (0 ≤ h ∧ h ≤ n) (.sl es h.toNat full3 g)
    | .osl o i n _ => need1 (0 ≤ h ∧ h ≤ n) (.osl o i h.toNat full3)
    | _ => .fail)
  | some (.int _ l), none => chkK (!hasMax) (match x with
    | .sl es n full g => need1 (0 ≤ l ∧ l ≤ n) (.sl es (n - l.toNat) full (fun j => g (l.toNat + j)))
    | .osl o i n full => need1 (0 ≤ l ∧ l ≤ n) (.osl o (i + l.toNat) (n - l.toNat) full)
    | _ => .fail)
  | some (.int _ l), some (.int _ h) => chkK (!hasMax || full3) (match x with
    | .sl es n _ g => need1 (0 ≤ l ∧ l ≤ h ∧ h ≤ n) (.sl es (h.toNat - l.toNat) full3 (fun j => g (l.toNat + j)))
    | .osl o i n _ => need1 (0 ≤ l ∧ l ≤ h ∧ h ≤ n) (.osl o (i + l.toNat) (h.toNat - l.toNat) full3)
    | _ => .fail)
  | _, _ => .fail

def sameOperand : Option Operand → Option Operand → Bool
  | some (.tmp a), some (.tmp b) => Nat.beq a b
  | _, _ => false

/-- the third index of a slice expression: it has to be the second one -/
def maxK (ρ : Operand → AV) (hi mx : Option Operand) (k : Pg) : Pg :=
  match mx with
  | none => k
  | some m => match hi with
    | none => .fail
    | some h => match ρ h, ρ m with
      | .int kk a, .int kk' b => chkK (kindEq kk kk') (.need (a = b) k)
      | _, _ => .fail

/-- source of an append: how many elements, which -/
def srcOf (x : AV) (k : Nat → Nat → (Nat → AV) → Pg) : Pg :=
  match x with
  | .sl es n _ g => k es n g
  | .osl o i n _ => .rd o fun
    | .row es _ g => k es n (shiftG i g)
    | _ => .fail
  | _ => .fail

def isZ : Nat → Bool
  | 0 => true
  | _ + 1 => false

/-- element size fits (or there are no elements) -/
def esOk (es n size : Nat) : Bool := match Nat.beq es size with | true => true | false => isZ n

def big : Nat := 140737488355328

def appendPg (ti : TyI) (nid : Nat) (d s : AV) : Pg :=
  srcOf s fun es' m h => chkK (esOk es' m ti.size) (
  match d with
  | .sl es n full g => chkK full (match es with
    | 0 => chkK (isZ n) (.need (m * ti.bytes ≤ big) (.ret (.osl nid 0 m false) [(nid, some (.row ti.size m h))]))
    | es1 + 1 => chkK (esOk (es1 + 1) n ti.size) (need1 ((n + m) * ti.bytes ≤ big) (.sl ti.size (n + m) false (appG n g h))))
  | .osl o i n _ => .rd o fun
    | .row es _ g => chkK (Nat.beq es ti.size) (.need ((n + m) * ti.bytes ≤ big) (.ret (.osl nid 0 (n + m) false) [(nid, some (.row es (n + m) (appG n (shiftG i g) h))), (o, none)]))
    | _ => .fail
  | _ => .fail)

/-- append to a row that is held aside -/
def heldPg (ti : TyI) (nid o : Nat) (a : Option Addr) (n c : Nat) (s : AV) : Pg :=
  srcOf s fun es' m h => chkK (esOk es' m ti.size) (.rd o fun
    | .held a' c' es n' g => chkK (Nat.beq es ti.size) (.need (a = a' ∧ n = n' ∧ c = c' ∧ (n + m) * ti.bytes ≤ big) (.ret (.osl nid 0 (n + m) false) [(nid, some (.row es (n + m) (appG n g h))), (o, none)]))
    | _ => .fail)

/-- 'k' elements of 'h' laid over 'g' from 'i' on -/
def cpG (i k : Nat) (g h : Nat → AV) : Nat → AV := fun j => bif Nat.ble i j && Nat.blt j (i + k) then h (j - i) else g j

def copyPg (ti : TyI) (d s : AV) : Pg :=
  srcOf s fun es' m h => chkK (esOk es' m ti.size) (
  match d with
  | .osl o i n _ => .rd o fun
    | .row es N g => chkK (Nat.beq es ti.size) (.ret (.int .i64 (Nat.min m n : Nat)) [(o, some (.row es N (cpG i (Nat.min m n) g h)))])
    | _ => .fail
  | _ => .fail)

def idxN : List Nat → Nat → Nat → Option Nat
  | [], _, _ => none
  | a :: l, o, j => match Nat.beq a o with | true => some j | false => idxN l o (j + 1)

/-- arguments as the callee sees them: the objects 'sg' by reference, all else pure -/
def viewArg (sg : List Nat) (v : AV) (k : AV → List Nat → Pg) : Pg :=
  match v with
  | .ptr o i off => match idxN sg o 0 with
    | some j => k (.ptr j i off) []
    | none => pur fuel (.ptr o i off) k
  | .osl o i n full => match idxN sg o 0 with
    | some j => k (.osl j i n full) []
    | none => pur fuel (.osl o i n full) k
  | v => pur fuel v k

def viewArgs (sg : List Nat) : List AV → (List AV → List Nat → Pg) → Pg
  | [], k => k [] []
  | v :: l, k => viewArg sg v fun v' i1 => viewArgs sg l fun l' i2 => k (v' :: l') (i1 ++ i2)

def rdAll : List Nat → (List AObj → Pg) → Pg
  | [], k => k []
  | o :: l, k => .rd o fun ob => rdAll l fun obs => k (ob :: obs)

def sigma (args : List AV) : List Nat → List Nat
  | [] => []
  | p :: l => match nth args p with
    | .ptr o _ _ => o :: sigma args l
    | .osl o _ _ _ => o :: sigma args l
    | _ => sigma args l

def memN : Nat → List Nat → Bool
  | _, [] => false
  | a, b :: l => match Nat.beq a b with | true => true | false => memN a l

def nodupN : List Nat → Bool
  | [] => true
  | a :: l => match memN a l with | true => false | false => nodupN l

def noMem1 : AV → Bool
  | .bool _ | .int .. | .str _ => true
  | _ => false

def noMemL : List AV → Bool
  | [] => true
  | v :: l => match noMem1 v with | true => noMemL l | false => false

def noMemV : AV → Bool
  | .agg vs => noMemL vs
  | v => noMem1 v

def noMemT : List AV → Bool
  | [] => true
  | v :: l => match noMemV v with | true => noMemT l | false => false

def noMem : AV → Bool
  | .tup vs => noMemT vs
  | v => noMemV v

def nthN : List Nat → Nat → Nat
  | [], _ => 0
  | a :: _, 0 => a
  | _ :: l, n + 1 => nthN l n

/-- the callee's numbers of objects turned into the caller's (a pointer alone) -/
def renR (sg : List Nat) : AV → AV
  | .ptr j i off => .ptr (nthN sg j) i off
  | .osl j i n full => .osl (nthN sg j) i n full
  | v => v

def zipUps : List Nat → List AObj → Ups
  | o :: l, x :: m => (o, some x) :: zipUps l m
  | _, _ => []

def fnOf (f : FuncId) : FnI := match look cfg.fns f with | some i => i | none => {}

def pureCell : AV → Bool
  | .undef | .bool _ | .int .. | .str _ | .sl .. | .ro _ | .nilp | .raw .. => true
  | _ => false

def pureCells : List AV → Bool
  | [] => true
  | v :: l => match pureCell v with | true => pureCells l | false => false

def pureObj : AObj → Bool
  | .box cs => pureCells cs
  | .row .. => true
  | .held .. => false

def pureObs : List AObj → Bool
  | [] => true
  | x :: l => match pureObj x with | true => pureObs l | false => false

def pureV : AV → Bool
  | .agg vs => pureCells vs
  | v => pureCell v

def pureVs : List AV → Bool
  | [] => true
  | v :: l => match pureV v with | true => pureVs l | false => false

/-- a result: pure, or a pointer to an object -/
def pureR : AV → Bool
  | .tup vs => pureVs vs
  | .ptr .. => true
  | .osl .. => true
  | .fn _ vs => pureCells vs
  | v => pureV v

def disjN : List Nat → List Nat → Bool
  | [], _ => true
  | x :: l, m => match memN x m with | true => false | false => disjN l m

def callRef (nid : Nat) (f : FuncId) (args : List AV) (sg : List Nat) : Pg :=
  chkK (nodupN sg) (rdAll sg fun obs => chkK (pureObs obs) (viewArgs sg args fun args' ids => chkK (disjN ids sg)
    (.call f args' obs fun r obs' => chkK (pureObs obs') (chkK (Nat.ble obs'.length (sg.length + 1)) (chkK (pureR r)
      (.ret (renR (sg ++ [nid]) r) (zipUps (sg ++ [nid]) obs' ++ dead ids)))))))

def callPg (nid : Nat) (f : FuncId) (args : List AV) : Pg :=
  match sigma args (fnOf cfg f).muts with
  | [] => match (fnOf cfg f).frz with
    | false => viewArgs [] args fun args' _ => .call f args' [] fun r obs' => match obs' with
      | [] => chkK (noMem r) (ret1 r)
      | _ :: _ => .fail
    | true => callRef nid f args []
  | x :: sg => callRef nid f args (x :: sg)

def opPg (nid : Nat) (op : Op) (ρ : Operand → AV) : Pg :=
  match op with
  | .move x => ret1 (ρ x)
  | .assign x => ret1 (ρ x)
  | .pick c a b => pickPg (ρ c) a b (ρ a) (ρ b)
  | .alloc e => tyK cfg e fun ti => .ret (.ptr nid 0 0) [(nid, some (.box (ofZs ti.zero)))]
  | .box _ x => cellsK (ρ x) fun cs => .ret (.ptr nid 0 0) [(nid, some (.box cs))]
  | .build t parts => tyK cfg t fun ti => match ti.desc with
    | .struct fs => fillS cfg fs (parts.toList.map fun p => (p.1, ρ p.2)) (ofZs ti.zero) fun cs => ret1 (.agg cs)
    | _ => .fail
  | .buildSlice t len parts => elemK cfg t fun ti => chkK (zok ti) (chkK (Nat.ble (len * ti.size) 4096) (purParts (parts.toList.map fun p => (p.1, ρ p.2)) fun ps ids =>
      fillE ti.size ti.agg ps (repE len (zeroOf ti)) fun es =>
      .ret (.osl nid 0 len true) ((nid, some (.row ti.size len (listG es))) :: dead ids)))
  | .load t a => tyK cfg t fun ti => match ρ a with
    | .ptr o i off => .rd o fun
      | .box cs => loadPg ti (cs.drop off)
      | .row es _ g => chkK (Nat.ble (off + ti.size) es) (loadPg ti ((g i).cells.drop off))
      | .held _ _ es _ g => chkK (Nat.ble (off + ti.size) es) (loadPg ti ((g i).cells.drop off))
    | .ro cs => loadPg ti cs
    | _ => .fail
  | .store t a x => tyK cfg t fun ti => match ρ a with
    | .ptr o i off => .rd o fun
      | .box cs => cellsK (ρ x) fun vs => chkK (Nat.beq vs.length ti.size) (chkK (Nat.ble (off + vs.length) cs.length) (.ret .undef [(o, some (.box (putL off vs cs)))]))
      | .row es n g => pur fuel (ρ x) fun x' ids => chkK (!memN o ids) (cellsK x' fun vs => chkK (Nat.beq vs.length ti.size) (chkK (Nat.blt 0 ti.size) (chkK (Nat.ble (off + vs.length) es)
          (.ret .undef ((o, some (.row es n (setG g i (match g i with
            | .agg cs => .agg (putL off vs cs)
            | _ => x')))) :: dead ids)))))
      | .held .. => .fail
    | _ => .fail
  | .nilCheck x => match ρ x with
    | .ptr o i off => .rd o fun _ => ret1 (.ptr o i off)
    | .ro cs => ret1 (.ro cs)
    | .fn f cs => ret1 (.fn f cs)
    | _ => .fail
  | .binOp op t x y _ => binPg cfg op t (ρ x) (ρ y)
  | .unOp op _ x => match op, ρ x with
    | .not, .bool b => ret1 (.bool (!b))
    | .neg, .int k n => chkK (kindEq k .i64) (need1 (InI64 (-n)) (.int .i64 (-n)))
    | _, _ => .fail
  | .convert src dst x => tyK cfg src fun _ => tyK cfg dst fun ti => match ti.desc, ρ x with
    | .int k, .int _ n => ret1 (.int k (k.wrap n))
    | _, _ => .fail
  | .makeFunc fn first captured => match fn, first.toList with
    | .func f, [] => ret1 (.fn f (captured.toList.map ρ))
    | _, _ => .fail
  | .makeSlice t l c => elemK cfg t fun ti => match ρ l with
    | .int _ n => chkK (sameOperand (some l) (some c)) (chkK (Nat.blt 0 ti.bytes) (chkK (zok ti) (.need (0 ≤ n ∧ n * ti.bytes ≤ big) (.ret (.osl nid 0 n.toNat true) [(nid, some (.row ti.size n.toNat (fun _ => zeroOf ti)))]))))
    | _ => .fail
  | .slice t x lo hi mx => maxK ρ hi mx <| elemK cfg t fun ti => match ρ x with
      | .sl es n f g => chkK (esOk es n ti.size) (slicePg (.sl es n f g) (lo.map ρ) (hi.map ρ) mx.isSome mx.isSome)
      | .osl o i n f => .rd o fun
        | .row es _ _ => chkK (Nat.beq es ti.size) (slicePg (.osl o i n f) (lo.map ρ) (hi.map ρ) mx.isSome mx.isSome)
        | _ => .fail
      | _ => .fail
  | .fieldAddr s x f => tyK cfg s fun ts => match fieldOf ts f with
    | some (o, t) => tyK cfg t fun ti => chkK (Nat.blt 0 ti.size) (match ρ x with
      | .ptr ob i off => .rd ob fun _ => ret1 (.ptr ob i (off + o))
      | .ro cs => ret1 (.ro (cs.drop o))
      | _ => .fail)
    | none => .fail
  | .field s x f => tyK cfg s fun ts => match fieldOf ts f with
    | some (o, t) => tyK cfg t fun ti => match ρ x with
      | .agg cs => loadPg ti (cs.drop o)
      | _ => .fail
    | none => .fail
  | .indexAddr t x ix => elemK cfg t fun ti => match ρ ix with
    | .int _ i => match ρ x with
      | .sl es n _ g => chkK (esOk es n ti.size) (need1 (0 ≤ i ∧ i < n) (.ro (g i.toNat).cells))
      | .osl o j n _ => .rd o fun
        | .row es _ _ => chkK (Nat.beq es ti.size) (need1 (0 ≤ i ∧ i < n) (.ptr o (addN j i.toNat) 0))
        | _ => .fail
      | .raw o b n c => .rd o fun
        | .held b' c' es n' _ => chkK (Nat.beq es ti.size) (need1 ((b = b' ∧ n = n' ∧ c = c') ∧ 0 ≤ i ∧ i < n) (.ptr o i.toNat 0))
        | _ => .fail
      | _ => .fail
    | _ => .fail
  | .extract t i => match ρ t with
    | .tup vs => chkK (Nat.blt i vs.length) (ret1 (nth vs i))
    | _ => .fail
  | .call c => match c.callee with
    | .builtin .len => match c.args.toList.map ρ, c.argTypes.toList with
      | [v], [t] => tyK cfg t fun ti => match v, ti.desc with
        | .sl _ n _ _, .slice _ => ret1 (.int .i64 n)
        | .osl o _ n _, .slice _ => .rd o fun _ => ret1 (.int .i64 n)
        | .str s, .str => ret1 (.int .i64 s.size)
        | _, _ => .fail
      | _, _ => .fail
    | .builtin .append => match c.args.toList.map ρ, c.argTypes.toList with
      | [d, s], [t, t'] => elemK cfg t' fun _ => elemK cfg t fun ti => chkK (Nat.blt 0 ti.size) (chkK (Nat.blt 0 ti.bytes) (match d with | .raw o a n c => heldPg ti nid o a n c s | d => appendPg ti nid d s))
      | _, _ => .fail
    | .builtin .copy => match c.args.toList.map ρ, c.argTypes.toList with
      | [d, s], [t, t'] => elemK cfg t' fun _ => elemK cfg t fun ti => chkK (Nat.blt 0 ti.size) (copyPg ti d s)
      | _, _ => .fail
    | .builtin .min => match c.args.toList.map ρ with
      | [.int k a, .int _ b] => ret1 (.int k (if b < a then b else a))
      | _ => .fail
    | .builtin .max => match c.args.toList.map ρ with
      | [.int k a, .int _ b] => ret1 (.int k (if b > a then b else a))
      | _ => .fail
    | .builtin _ => .fail
    | .value f => match ρ f with
      | .fn g caps => callPg cfg nid g (c.args.toList.map ρ ++ caps)
      | _ => .fail
    | .invoke _ _ => .fail
  | _ => .fail

def rho (T : Nat → AV) : Operand → AV
  | .tmp t => T t
  | .const v => ofConst v
  | .global g => match look cfg.glob g with | some cs => .ro cs | none => .undef
  | .func f => .fn f []

end ops

/-- The meaning of a call: 'f' with these arguments and objects by reference hands back 'r' and leaves the objects so. -/
abbrev SpecT := FuncId → List AV → List AObj → AV → List AObj → Prop

structure Log where
  rds : List Nat
  wrs : List Nat

structure St where
  tmps : List (Nat × AV)
  heap : Ups
  nx : Nat

abbrev PC := List (Bool × Bool)

def impK : PC → Prop → (Prop → Prop) → Prop
  | [], p, K => K p
  | (c, b) :: l, p, K => impK l (c = b → p) K

section run
variable (cfg : Cfg) (Sp : SpecT)

def ids : Ups → List Nat
  | [] => []
  | (o, _) :: l => o :: ids l

def ev (pc : PC) (H : Nat → Option AObj) : Pg → List Nat → (AV → Ups → List Nat → Prop) → Prop
  | .ret v ups, rds, K => force v fun v' => forceUps ups fun ups' => K v' ups' rds
  | .need p k, rds, K => impK pc p fun p' => p' ∧ ev pc H k rds K
  | .rd o k, rds, K => match H o with
    | some x => ev pc H (k x) (o :: rds) K
    | none => impK pc False fun p' => p' ∧ K .undef [] rds
  | .call f args obs k, rds, K => ∃ r obs', impK pc (Sp f args obs r obs') fun p' => p' ∧ ev pc H (k r obs') rds K
  | .fail, rds, K => impK pc False fun p' => p' ∧ K .undef [] rds

/-- an operation that may be walked under an open guard -/
def quietOp : Op → Bool
  | .move _ | .assign _ | .pick .. | .build .. | .load .. | .nilCheck _ | .binOp .. | .unOp .. | .convert .. | .makeFunc .. | .slice .. | .fieldAddr .. | .field .. | .indexAddr .. | .extract .. => true
  | .call c => match c.callee with
    | .builtin .len | .builtin .min | .builtin .max => true
    | .value (.func f) => match (fnOf cfg f).muts, (fnOf cfg f).frz with | [], false => true | _, _ => false
    | _ => false
  | _ => false

def bcase (c : Bool) (A B : Prop) : Prop := match c with | true => A | false => B

def nthOp : List Oper → Nat → Option Oper
  | [], _ => none
  | o :: _, 0 => some o
  | _ :: l, n + 1 => nthOp l n

def dstOf (all : List Oper) (j : Nat) : Option Nat := match nthOp all j with
  | some o => o.dst
  | none => none

/-- 'ups' laid over 'H' -/
def catH (ups H : Ups) (K : Ups → Prop) : Prop :=
  match ups with
  | [] => K H
  | u :: l => catH l H fun H' => K (u :: H')

def put2 (dst : Option Nat) (v u : AV) (T U : List (Nat × AV)) (K : List (Nat × AV) → List (Nat × AV) → Prop) : Prop :=
  match dst with
  | some d => K ((d, v) :: T) ((d, u) :: U)
  | none => K T U

def nthPC : List PC → Nat → PC
  | [], _ => []
  | p :: _, 0 => p
  | _ :: l, n + 1 => nthPC l n

def nthPCK : List PC → Nat → (PC → Prop) → Prop
  | [], _, K => K []
  | p :: _, 0, K => K p
  | _ :: l, n + 1, K => nthPCK l n K

def snocPC : List PC → PC → (List PC → Prop) → Prop
  | [], p, K => K [p]
  | q :: l, p, K => snocPC l p fun l' => K (q :: l')

def isNone {α : Type} : Option α → Bool
  | none => true
  | some _ => false

/-- 'T': the temporaries inside the region; 'U': what stays behind it (not those that a guard may have left out). -/
def xops (all : List Oper) (nx : Nat) : List Oper → Nat → List (Nat × AV) → List (Nat × AV) → Ups → List PC → List Log → (St → List Log → Prop) → Prop
  | [], i, _, U, H, _, log, K => K ⟨U, H, nx + i⟩ log
  | o :: rest, i, T, U, H, pcs, log, K =>
    match o.guard with
    | none => ev Sp [] (hget H) (opPg cfg (nx + i) o.op (rho cfg (tget T))) [] fun v ups rds =>
        put2 o.dst v v T U fun T' U' => catH ups H fun H' => snocPC pcs [] fun pcs' => xops all nx rest (i + 1) T' U' H' pcs' (⟨rds, ids ups⟩ :: log) K
    | some (j, b) => match dstOf all j with
      | some d => match tget T d with
        | .bool c => match quietOp cfg o.op with
          | true => nthPCK pcs j fun pcj => ev Sp ((c, b) :: pcj) (hget H) (opPg cfg (nx + i) o.op (rho cfg (tget T))) [] fun v ups rds =>
            match ups with
            | [] => put2 o.dst v .undef T U fun T' U' => snocPC pcs ((c, b) :: pcj) fun pcs' => xops all nx rest (i + 1) T' U' H pcs' (⟨rds, []⟩ :: log) K
            | _ :: _ => False
          | false => match nthPC pcs j with
            | [] => bcase (c == b)
              (ev Sp [] (hget H) (opPg cfg (nx + i) o.op (rho cfg (tget T))) [] fun v ups rds =>
                put2 o.dst v v T U fun T' U' => catH ups H fun H' => snocPC pcs [] fun pcs' => xops all nx rest (i + 1) T' U' H' pcs' (⟨rds, ids ups⟩ :: log) K)
              (put2 o.dst .undef .undef T U fun T' U' => snocPC pcs [(c, b)] fun pcs' => xops all nx rest (i + 1) T' U' H pcs' (⟨[], []⟩ :: log) K)
            | _ :: _ => False
        | _ => False
      | none => False

/-! Looks at a region that need no values -/
def glOf (all : List Oper) (i : Nat) : Option (Nat × Bool) := match nthOp all i with
  | some o => o.guard
  | none => none

def chain (all : List Oper) : Nat → Option (Nat × Bool) → List (Nat × Bool)
  | 0, _ => []
  | _ + 1, none => []
  | f + 1, some (j, b) => (j, b) :: chain all f (glOf all j)

def dstIs (d : Option Nat) (t : Nat) : Bool := match d with
  | some x => Nat.beq x t
  | none => false

/-- the operations that write a temporary -/
def writersFrom (t : Nat) : List Oper → Nat → List Nat
  | [], _ => []
  | o :: l, i => match dstIs o.dst t with
    | true => i :: writersFrom t l (i + 1)
    | false => writersFrom t l (i + 1)

def writers (all : List Oper) (t : Nat) : List Nat := writersFrom t all 0

def allFree (all : List Oper) : List Nat → Bool
  | [] => true
  | i :: l => match glOf all i with
    | none => allFree all l
    | some _ => false

def eqB : Bool → Bool → Bool
  | true, true => true
  | false, false => true
  | _, _ => false

def memG (j : Nat) (b : Bool) : List (Nat × Bool) → Bool
  | [] => false
  | (j', b') :: l => match Nat.beq j j', eqB b b' with
    | true, true => true
    | _, _ => memG j b l

/-- operation 'k' may read the temporary 't' -/
def okRead (all : List Oper) (k : Nat) (g : Option (Nat × Bool)) (t : Nat) : Bool :=
  match writers all t with
  | [i] => match glOf all i with
    | none => true
    | some (j, b) => match Nat.blt i k with
      | true => memG j b (chain all 20 g)
      | false => false
  | l => allFree all l

/-- an arm of a pick -/
def okArm (all : List Oper) (k : Nat) (g : Option (Nat × Bool)) (c : Operand) (pol : Bool) (x : Operand) : Bool :=
  match x with
  | .tmp t => match okRead all k g t with
    | true => true
    | false => match c, writers all t with
      | .tmp ct, [i] => match glOf all i, writers all ct, Nat.blt i k with
        | some (j, b), [jc], true => match Nat.beq j jc, Nat.blt jc k with
          | true, true => eqB b pol
          | _, _ => false
        | _, _, _ => false
      | _, _ => false
  | _ => true

def okOperand (all : List Oper) (k : Nat) (g : Option (Nat × Bool)) : Operand → Bool
  | .tmp t => okRead all k g t
  | _ => true

def okOperands (all : List Oper) (k : Nat) (g : Option (Nat × Bool)) : List Operand → Bool
  | [] => true
  | x :: l => match okOperand all k g x with
    | true => okOperands all k g l
    | false => false

def okOp (all : List Oper) (k : Nat) (o : Oper) : Bool :=
  match (match o.guard with
    | none => true
    | some (j, _) => match Nat.blt j k with
      | true => match dstOf all j with
        | some d => match writers all d with
          | [j'] => Nat.beq j' j
          | _ => false
        | none => false
      | false => false) with
  | true => match o.op with
    | .pick c x y => match okOperand all k o.guard c, okArm all k o.guard c true x with
      | true, true => okArm all k o.guard c false y
      | _, _ => false
    | op => okOperands all k o.guard op.operands.toList
  | false => false

def okOpsFrom (N : Nat) (all : List Oper) : List Oper → Nat → Bool
  | [], _ => true
  | o :: l, k => match okOp all k o, (match o.dst with | some d => Nat.blt d N | none => true) with
    | true, true => okOpsFrom N all l (k + 1)
    | _, _ => false

/-- edges that bind -/
def edgeTo (o : Oper) (i : Nat) : Bool := o.after.toList.any fun e => Region.binds .any e && Nat.beq e.on i

/-- is operation 'i' always before 'j'? -/
def before (all : List Oper) : Nat → Nat → Nat → Bool
  | 0, _, _ => false
  | f + 1, i, j => match nthOp all j with
    | some o => o.after.toList.any fun e => Region.binds .any e && Nat.blt e.on j && (Nat.beq e.on i || before all f i e.on)
    | none => false

/-- temporaries that an operation looks at -/
def looks (all : List Oper) (o : Oper) : List Nat :=
  (o.op.operands.toList.filterMap fun | .tmp t => some t | _ => none) ++ (match o.guard with | some (j, _) => (dstOf all j).toList | none => [])

def isIn (d : Option Nat) (l : List Nat) : Bool := match d with
  | some x => memN x l
  | none => false

/-- operations that are not in order have nothing to do with each other's temporaries -/
def apartT (all : List Oper) (x y : Oper) : Bool := !isIn x.dst (looks all y) && !isIn y.dst (looks all x) && !isIn x.dst y.dst.toList

def drawFrom (all : List Oper) (j : Nat) (oj : Oper) : List Oper → Nat → Bool
  | [], _ => true
  | o :: l, i => match Nat.blt i j with
    | true => (apartT all o oj || before all 40 i j) && drawFrom all j oj l (i + 1)
    | false => true

def edgesLt (o : Oper) (k : Nat) : Bool := o.after.toList.all fun e => !Region.binds .any e || Nat.blt e.on k

def drawOK (all : List Oper) : List Oper → Nat → Bool
  | [], _ => true
  | o :: l, j => edgesLt o j && drawFrom all j o all 0 && drawOK all l (j + 1)

def regOK (N : Nat) (all : List Oper) (draw : Bool) : Bool := okOpsFrom N all all 0 && (!draw || drawOK all all 0)

def codeOK (N : Nat) : Code → Bool
  | .region _ ops draw => regOK N ops.toList draw
  | .seq a b => codeOK N a && codeOK N b
  | .cond _ a b => codeOK N a && codeOK N b
  | .block _ a => codeOK N a
  | .loop a => codeOK N a
  | .rangeFunc _ _ a b => codeOK N a && codeOK N b
  | .skip | .exit _ | .ret => true
  | _ => false

/-! The look at a drawn region's memory -/
def meets (l m : List Nat) : Bool := match l with
  | [] => false
  | x :: l' => match memN x m with
    | true => true
    | false => meets l' m

/-- 'x': the later operation (number j); 'l': the earlier ones, the latest first (number i - 1 at the head) -/
def chkOne (all : List Oper) (j : Nat) (x : Log) : List Log → Nat → Bool
  | [], _ => true
  | _ :: _, 0 => true
  | y :: l, i + 1 => match meets x.wrs y.rds, meets y.wrs x.rds, meets y.wrs x.wrs with
    | false, false, false => chkOne all j x l i
    | _, _, _ => match before all 40 i j with
      | true => chkOne all j x l i
      | false => false

def chk (all : List Oper) : List Log → Nat → Bool
  | [], _ => true
  | _ :: _, 0 => true
  | x :: l, j + 1 => match chkOne all j x l j with
    | true => chk all l j
    | false => false

def firstId : Code → Nat
  | .region id _ _ => id
  | .seq a _ => firstId a
  | .block _ a => firstId a
  | .loop a => firstId a
  | _ => 1000000

/-- The walk of a body. 'L': what a loop means, or a sequence that is cut ('ct': the first regions of the parts behind the cuts). -/
def xcode (ct : List Nat) (L : Code → St → (Exit → St → Prop) → Prop) : Code → St → (Exit → St → Prop) → Prop
  | .skip, s, K => K .normal s
  | .region _ ops draw, ⟨T, H, nx⟩, K => xops cfg Sp ops.toList nx ops.toList 0 T T H [] [] fun s' log =>
    match draw with
    | true => match chk ops.toList log ops.toList.length with
      | true => K .normal s'
      | false => False
    | false => K .normal s'
  | .seq a b, s, K => match memN (firstId b) ct with
    | true => L (.seq a b) s K
    | false => xcode ct L a s fun e s' => match e with
      | .normal => xcode ct L b s' K
      | e => K e s'
  | .cond c x y, s, K => match rho cfg (tget s.tmps) c with
    | .bool b => bcase b (xcode ct L x s K) (xcode ct L y s K)
    | _ => False
  | .block id c, s, K => xcode ct L c s fun e s' => match e with
    | .exit i => match Nat.beq i id with
      | true => K .normal s'
      | false => K (.exit i) s'
    | e => K e s'
  | .loop c, s, K => L (.loop c) s K
  | .rangeFunc g ps a b, s, K => L (.rangeFunc g ps a b) s K
  | .exit id, s, K => K (.exit id) s
  | .ret, s, K => K .ret s
  | _, _, _ => False

end run

/-! From one state to a weaker one -/

/-- The value 'v' says no more than 'u' (pure parts). -/
inductive Le : AV → AV → Prop
  | refl (v : AV) : Le v v
  | sl {es es' n n' : Nat} {f f' : Bool} {g g' : Nat → AV} (hn : n = n') (he : n ≠ 0 → es = es') (hf : f' = true → f = true) (h : ∀ i, i < n → Le (g i) (g' i)) : Le (.sl es n f g) (.sl es' n' f' g')
  | ro {cs cs' : List AV} (hl : cs.length = cs'.length) (h : ∀ j, j < cs.length → Le (nth cs j) (nth cs' j)) : Le (.ro cs) (.ro cs')
  | agg {cs cs' : List AV} (hl : cs.length = cs'.length) (h : ∀ j, j < cs.length → Le (nth cs j) (nth cs' j)) : Le (.agg cs) (.agg cs')
  | tup {cs cs' : List AV} (hl : cs.length = cs'.length) (h : ∀ j, j < cs.length → Le (nth cs j) (nth cs' j)) : Le (.tup cs) (.tup cs')
  | fn {f : FuncId} {cs cs' : List AV} (hl : cs.length = cs'.length) (h : ∀ j, j < cs.length → Le (nth cs j) (nth cs' j)) : Le (.fn f cs) (.fn f cs')

def LeL : List AV → List AV → Prop
  | [], [] => True
  | u :: l, v :: m => Le u v ∧ LeL l m
  | _, _ => False

def LeO : AObj → AObj → Prop
  | .box cs, .box cs' => LeL cs cs'
  | .row es n g, .row es' n' g' => es = es' ∧ n = n' ∧ ∀ i, i < n → Le (g i) (g' i)
  | .held a c es n g, .held a' c' es' n' g' => a = a' ∧ c = c' ∧ es = es' ∧ n = n' ∧ g = g'
  | _, _ => False

def LeOs : List AObj → List AObj → Prop
  | [], [] => True
  | x :: l, y :: m => LeO x y ∧ LeOs l m
  | _, _ => False
def renOf (ρ : List (Nat × Option Nat)) (o : Nat) : Option Nat := match look ρ o with
  | some x => x
  | none => some o

def liveB (H : Ups) (o : Nat) : Bool := match hget H o with
  | some _ => true
  | none => false

/-- value 'u' of the state serves as 'v' of the weaker one -/
def embV (ρ : List (Nat × Option Nat)) (H' : Ups) : Nat → AV → AV → Prop
  | 0, _, _ => False
  | f + 1, u, v => match v with
    | .undef => True
    | .bool b' => match u with | .bool b => b = b' | _ => False
    | .int k' n' => match u with | .int k n => k = k' ∧ n = n' | _ => False
    | .str s' => match u with | .str s => s = s' | _ => False
    | .nilp => match u with | .nilp => True | _ => False
    | .raw o' a' n' c' => match u with | .raw o a n c => o = o' ∧ a = a' ∧ n = n' ∧ c = c' | _ => False
    | .sl es' n' f' g' => match u with
      | .sl es n fu g => n = n' ∧ (n ≠ 0 → es = es') ∧ (f' = true → fu = true) ∧ ∀ i, i < n → Le (g i) (g' i)
      | _ => False
    | .ro cs' => match u with | .ro cs => LeL cs cs' | _ => False
    | .ptr o' i' off' => match u with
      | .ptr o i off => liveB H' o' = true ∧ renOf ρ o' = some o ∧ i = i' ∧ off = off'
      | _ => False
    | .osl o' i' n' f' => match u with
      | .osl o i n fu => liveB H' o' = true ∧ renOf ρ o' = some o ∧ i = i' ∧ n = n' ∧ (f' = true → fu = true)
      | .sl _ n fu _ => liveB H' o' = true ∧ fu = true ∧ n = 0 ∧ i' = 0 ∧ n' = 0
      | _ => False
    | .agg cs' => match u with | .agg cs => embL f cs cs' | _ => False
    | .fn f' cs' => match u with | .fn fu cs => fu = f' ∧ embL f cs cs' | _ => False
    | .tup cs' => match u with | .tup cs => embL f cs cs' | _ => False
  where
  embL : Nat → List AV → List AV → Prop
    | 0, _, _ => False
    | _ + 1, [], [] => True
    | f + 1, u :: l, v :: m => embV ρ H' f u v ∧ embL f l m
    | _ + 1, _, _ => False

def embT (ρ : List (Nat × Option Nat)) (H' : Ups) (T : List (Nat × AV)) : List (Nat × AV) → Prop
  | [] => True
  | (t, v) :: l => embV ρ H' fuel (tget T t) v ∧ embT ρ H' T l

def embO (ρ : List (Nat × Option Nat)) (H' : Ups) (x y : AObj) : Prop :=
  match x, y with
  | .box cs, .box cs' => embV.embL ρ H' fuel cs cs'
  | .row es n g, .row es' n' g' => es = es' ∧ n = n' ∧ ∀ i, i < n → Le (g i) (g' i)
  | .held a c es n g, .held a' c' es' n' g' => a = a' ∧ c = c' ∧ es = es' ∧ n = n' ∧ g = g'
  | _, _ => False

def embH (ρ : List (Nat × Option Nat)) (H' H : Ups) : Ups → Prop
  | [] => True
  | (_, none) :: l => embH ρ H' H l
  | (o', some y) :: l => (match renOf ρ o' with
    | some o => match hget H o with
      | some x => embO ρ H' x y
      | none => False
    | none => match y with
      | .row _ n _ => n = 0
      | _ => False) ∧ embH ρ H' H l

/-- the places of the weaker state's objects -/
def imgs (ρ : List (Nat × Option Nat)) : Ups → List Nat
  | [] => []
  | (_, none) :: l => imgs ρ l
  | (o', some _) :: l => match renOf ρ o' with
    | some o => o :: imgs ρ l
    | none => imgs ρ l

def keysOK (m nx : Nat) (ρ : List (Nat × Option Nat)) : Ups → Bool
  | [] => true
  | (o', _) :: l => match Nat.blt o' nx with
    | true => match renOf ρ o' with
      | some o => match Nat.beq o o' with
        | true => keysOK m nx ρ l
        | false => match Nat.ble m o' with
          | true => keysOK m nx ρ l
          | false => false
      | none => match Nat.ble m o' with
        | true => keysOK m nx ρ l
        | false => false
    | false => false

def uniqK : Ups → Bool
  | [] => true
  | (o, _) :: l => match look l o with
    | some _ => false
    | none => uniqK l

def embChk (m : Nat) (ρ : List (Nat × Option Nat)) (s' : St) : Bool :=
  match keysOK m s'.nx ρ s'.heap, nodupN (imgs ρ s'.heap), uniqK s'.heap with
  | true, true, true => Nat.ble m s'.nx
  | _, _, _ => false

/-- The state 's' serves as 's''. -/
structure Emb (m : Nat) (ρ : List (Nat × Option Nat)) (s s' : St) : Prop where
  chk : embChk m ρ s' = true
  tmps : embT ρ s'.heap s.tmps s'.tmps
  heap : embH ρ s'.heap s.heap s'.heap

/-! A function's end -/
def upTo : Nat → Nat → List Nat
  | 0, _ => []
  | n + 1, i => i :: upTo n (i + 1)

/-- the values of a function's results -/
def resAV (cfg : Cfg) (s : St) : List ResultVar → Option (List AV)
  | [] => some []
  | .tmp t :: l => match resAV cfg s l with
    | some vs => some (tget s.tmps t :: vs)
    | none => none
  | .cell ad ty :: l => match resAV cfg s l, tget s.tmps ad, look cfg.ty ty with
    | some vs, .ptr o 0 0, some ti => match hget s.heap o with
      | some (.box cs) => match ti.agg with
        | true => match Nat.ble ti.size cs.length with
          | true => some (.agg (cs.take ti.size) :: vs)
          | false => none
        | false => match cs with
          | c :: _ => some (c :: vs)
          | [] => none
      | _ => none
    | _, _, _ => none

def oneOf : List AV → AV
  | [v] => v
  | vs => .tup vs

/-- a new object that is handed out -/
def expo (m : Nat) (r : AV) : AV → List Nat
  | .ptr o _ _ => match Nat.ble m o with
    | true => [o]
    | false => []
  | .osl o _ _ _ => match r with
    | .osl .. => match Nat.ble m o with
      | true => [o]
      | false => []
    | _ => []
  | _ => []

def embObs (H : Ups) : List Nat → List AObj → Prop
  | [], [] => True
  | o :: l, y :: ys => (match hget H o with
    | some x => match pureObj x with
      | true => embO [] [] x y
      | false => False
    | none => False) ∧ embObs H l ys
  | _, _ => False

/-- what is asked at a function's end -/
def RetK (cfg : Cfg) (Sp : SpecT) (rs : List ResultVar) (m : Nat) (r : AV) (obs' : List AObj) (e : Exit) (s : St) : Prop :=
  match (match e with | .normal => true | .ret => true | _ => false) with
  | true => match resAV cfg s rs with
    | some vs => match oneOf vs with
      | v => match upTo m 0 ++ expo m r v with
        | sg => ev Sp [] (hget s.heap) (viewArg sg v fun v' ids => chkK (nodupN sg) (chkK (disjN ids sg) (ret1 v'))) [] fun v' _ _ => embV [] (obsUps obs' 0) fuel v' r ∧ embObs s.heap sg obs'
    | none => False
  | false => False
  where obsUps : List AObj → Nat → Ups
  | [], _ => []
  | x :: l, i => (i, some x) :: obsUps l (i + 1)

def argsT : List AV → Nat → List (Nat × AV)
  | [], _ => []
  | v :: l, i => (i, v) :: argsT l (i + 1)

end Go.Ab

/-
  How abstract values and own objects lie in the model's memory.
-/

namespace Go.Ab

/-- Pure values in the world w; their memory lies in blocks of I. -/
inductive PRep (w : World) (I : Nat → Prop) : AV → Value → Prop
  | undef (x : Value) : PRep w I .undef x
  | bool (b : Bool) : PRep w I (.bool b) (.bool b)
  | int (k : IntKind) (n : Int) : PRep w I (.int k n) (.int k n)
  | str (s : ByteArray) : PRep w I (.str s) (.string s)
  | nilp : PRep w I .nilp (.pointer none)
  | raw (o : Nat) (a : Option Addr) (n cap : Nat) : PRep w I (.raw o a n cap) (.slice a n cap)
  | sl {es n : Nat} {full : Bool} {g : Nat → AV} {a : Option Addr} {cap : Nat} (b off : Nat) (vs : Nat → Nat → Value)
      (hcap : n ≤ cap) (hfull : full = true → cap = n) (ha : n ≠ 0 → a = some ⟨b, off, none⟩ ∧ I b)
      (hes : ∀ i, i < n → (g i).cells.length = es)
      (hm : ∀ i j, i < n → j < es → w.cell? ⟨b, off + (i * es + j), none⟩ = some (vs i j))
      (h1 : ∀ i j, i < n → j < es → (vs i j).oneCell' = true)
      (hr : ∀ i j, i < n → j < es → PRep w I (nth (g i).cells j) (vs i j)) : PRep w I (.sl es n full g) (.slice a n cap)
  | ro {cs : List AV} (b off : Nat) (vs : Nat → Value) (hI : I b)
      (hm : ∀ j, j < cs.length → w.cell? ⟨b, off + j, none⟩ = some (vs j))
      (hr : ∀ j, j < cs.length → PRep w I (nth cs j) (vs j)) : PRep w I (.ro cs) (.pointer (some ⟨b, off, none⟩))
  | agg {cs : List AV} {vs : Array Value} (hl : vs.size = cs.length) (hr : ∀ j, j < cs.length → PRep w I (nth cs j) (vs.getD j Go.undef)) : PRep w I (.agg cs) (.agg vs)
  | fn {f : FuncId} {cs : List AV} {vs : Array Value} (hl : vs.size = cs.length) (hr : ∀ j, j < cs.length → PRep w I (nth cs j) (vs.getD j Go.undef)) : PRep w I (.fn f cs) (.func (.func f) #[] vs)
  | tup {cs : List AV} {vs : Array Value} (hl : vs.size = cs.length) (hr : ∀ j, j < cs.length → PRep w I (nth cs j) (vs.getD j Go.undef)) : PRep w I (.tup cs) (.tuple vs)

/-- Where an own object lies: 'n' elements of 'es' cells; block, offset, and the block's cells. -/
structure Own where
  es : Nat
  n : Nat
  pl : Option (Nat × Nat × Nat)

abbrev OM := Nat → Option Own

/-- Values with own references. 'D': the numbers of objects that have been given out. -/
inductive Rep (w : World) (I : Nat → Prop) (O : OM) (D : Nat → Prop) : AV → Value → Prop
  | pure {v : AV} {x : Value} (h : PRep w I v x) : Rep w I O D v x
  | ptr {o i off b bo sz : Nat} {p : Own} (ho : O o = some p) (hp : p.pl = some (b, bo, sz)) (hi : i < p.n) : Rep w I O D (.ptr o i off) (.pointer (some ⟨b, bo + (i * p.es + off), none⟩))
  | osl {o i n : Nat} {full : Bool} {p : Own} {a : Option Addr} {cap : Nat} (ho : O o = some p) (hi : i + n ≤ p.n) (hcap : n ≤ cap) (hfull : full = true → cap = n)
      (hpl : cap ≠ 0 → ∃ b bo sz, p.pl = some (b, bo, sz) ∧ a = some ⟨b, bo + i * p.es, none⟩ ∧ bo + (i + cap) * p.es ≤ sz) : Rep w I O D (.osl o i n full) (.slice a n cap)
  | deadP {o i off : Nat} {x : Value} (ho : O o = none) (hd : D o) (h1 : x.oneCell' = true) : Rep w I O D (.ptr o i off) x
  | deadS {o i n : Nat} {full : Bool} {x : Value} (ho : O o = none) (hd : D o) (h1 : x.oneCell' = true) : Rep w I O D (.osl o i n full) x
  | agg {cs : List AV} {vs : Array Value} (hl : vs.size = cs.length) (hr : ∀ j, j < cs.length → Rep w I O D (nth cs j) (vs.getD j Go.undef)) : Rep w I O D (.agg cs) (.agg vs)
  | fn {f : FuncId} {cs : List AV} {vs : Array Value} (hl : vs.size = cs.length) (hr : ∀ j, j < cs.length → Rep w I O D (nth cs j) (vs.getD j Go.undef)) : Rep w I O D (.fn f cs) (.func (.func f) #[] vs)
  | tup {cs : List AV} {vs : Array Value} (hl : vs.size = cs.length) (hr : ∀ j, j < cs.length → Rep w I O D (nth cs j) (vs.getD j Go.undef)) : Rep w I O D (.tup cs) (.tuple vs)

/-- The block's cells are there and may be written. -/
def Alive (w : World) (b sz : Nat) : Prop := ∀ j, j < sz → (w.cell? ⟨b, j, none⟩).isSome = true ∧ w.frozen? ⟨b, j, none⟩ = false

def cellAt (w : World) (b j : Nat) : Value := (w.cell? ⟨b, j, none⟩).getD Go.undef

def ObjRep (w : World) (I : Nat → Prop) (O : OM) (D : Nat → Prop) (p : Own) : AObj → Prop
  | .box cs => p.n = 1 ∧ ∃ b bo sz, p.pl = some (b, bo, sz) ∧ Alive w b sz ∧ bo + cs.length ≤ sz ∧ ∀ j, j < cs.length → Rep w I O D (nth cs j) (cellAt w b (bo + j))
  | .row es n g => p.n = n ∧ p.es = es ∧ (∀ i, i < n → (g i).cells.length = es) ∧ ((n = 0 ∧ p.pl = none) ∨
      ∃ b bo sz, p.pl = some (b, bo, sz) ∧ Alive w b sz ∧ bo + n * es ≤ sz ∧ ∀ i j, i < n → j < es → PRep w I (nth (g i).cells j) (cellAt w b (bo + (i * es + j))) ∧ (cellAt w b (bo + (i * es + j))).oneCell' = true)
  | .held a cap es n g => (p.n = n ∧ p.es = es ∧ (∀ i, i < n → (g i).cells.length = es) ∧ ((n = 0 ∧ p.pl = none) ∨
      ∃ b bo sz, p.pl = some (b, bo, sz) ∧ Alive w b sz ∧ bo + n * es ≤ sz ∧ ∀ i j, i < n → j < es → PRep w I (nth (g i).cells j) (cellAt w b (bo + (i * es + j))) ∧ (cellAt w b (bo + (i * es + j))).oneCell' = true)) ∧
      n ≤ cap ∧ (cap ≠ 0 → ∃ b bo sz, p.pl = some (b, bo, sz) ∧ a = some ⟨b, bo, none⟩ ∧ bo + cap * es ≤ sz)

/-- What is known of where one is: the world at the function's entry, the blocks that may be written besides new ones, the immutable blocks and the objects at the entry. -/
structure Ctx where
  w0 : World
  M : Nat → Prop
  I0 : Nat → Prop
  O0 : OM
  m : Nat
  /-- Blocks that hold no cells, and lie as they lay. -/
  K : Nat → Obj → Prop
  /-- In a round of a range over a function. -/
  rd : Bool

def noCells : Obj → Bool
  | .cells .. => false
  | _ => true

/-- All but the memory is as it was. -/
structure SameEnv (w' w : World) : Prop where
  os : w'.os = w.os
  tape : w'.tape = w.tape
  output : w'.output = w.output
  keep : ∀ (k : Nat) (o : Obj), w.heap[k]? = some o → noCells o = true → w'.heap[k]? = some o

theorem SameEnv.refl (w : World) : SameEnv w w := ⟨rfl, rfl, rfl, fun _ _ h _ => h⟩
theorem SameEnv.trans {a b c : World} (h : SameEnv a b) (k : SameEnv b c) : SameEnv a c := ⟨h.os.trans k.os, h.tape.trans k.tape, h.output.trans k.output, fun i o hi ho => h.keep i o (k.keep i o hi ho) ho⟩
theorem SameEnv.heap {w w' : World} (h1 : w'.os = w.os) (h2 : w'.tape = w.tape) (h3 : w'.output = w.output) (h : w'.heap = w.heap) : SameEnv w' w := ⟨h1, h2, h3, fun i o hi _ => by rw [h]; exact hi⟩
theorem SameEnv.alloc (w : World) (o : Obj) : SameEnv (w.alloc o) w := ⟨rfl, rfl, rfl, fun i x hi _ => by
  have hlt : i < w.heap.size := by
    rcases Nat.lt_or_ge i w.heap.size with h | h
    · exact h
    · rw [Array.getElem?_eq_none h] at hi; cases hi
  show (w.heap.push o)[i]? = some x
  rw [Array.getElem?_push_lt hlt, ← hi, Array.getElem?_eq_getElem hlt]⟩

/-- The environment as it was, and the blocks that are to be kept. -/
structure EnvOK (cx : Ctx) (w : World) : Prop where
  same : SameEnv w cx.w0
  kept : ∀ k o, cx.K k o → w.heap[k]? = some o ∧ noCells o = true

theorem EnvOK.step {cx : Ctx} {w w' : World} (h : EnvOK cx w) (he : SameEnv w' w) : EnvOK cx w' := ⟨he.trans h.same, fun k o hk => ⟨he.keep k o (h.kept k o hk).1 (h.kept k o hk).2, (h.kept k o hk).2⟩⟩

structure Rel (cfg : Cfg) (cx : Ctx) (H : Nat → Option AObj) (D : Nat → Prop) (w : World) (I : Nat → Prop) (O : OM) : Prop where
  dom : ∀ o, O o = none ↔ H o = none
  used : ∀ o p, O o = some p → D o
  objs : ∀ o ob p, H o = some ob → O o = some p → ObjRep w I O D p ob
  inj : ∀ o o' p p' b bo sz b' bo' sz', O o = some p → O o' = some p' → p.pl = some (b, bo, sz) → p'.pl = some (b', bo', sz') → o ≠ o' → b ≠ b'
  notI : ∀ o p b bo sz, O o = some p → p.pl = some (b, bo, sz) → ¬ I b
  lt : ∀ o p b bo sz, O o = some p → p.pl = some (b, bo, sz) → b < w.heap.size
  Ilt : ∀ b, I b → b < w.heap.size
  size : cx.w0.heap.size ≤ w.heap.size
  frame : ∀ b, b < cx.w0.heap.size → ¬ cx.M b → w.heap[b]? = cx.w0.heap[b]?
  new : ∀ o p b bo sz, O o = some p → p.pl = some (b, bo, sz) → cx.w0.heap.size ≤ b ∨ cx.M b
  glob : ∀ g cs, look cfg.glob g = some cs → PRep w I (.ro cs) (.pointer (some ⟨g, 0, none⟩))
  I0I : ∀ b, cx.I0 b → I b
  II0 : ∀ b, I b → cx.I0 b ∨ cx.w0.heap.size ≤ b ∨ cx.M b
  O0O : ∀ o, o < cx.m → O o = cx.O0 o ∨ O o = none
  Dm : ∀ o, o < cx.m → D o
  env : EnvOK cx w

theorem nth_eq (l : List AV) (i : Nat) : nth l i = l.getD i .undef := by
  induction l generalizing i with
  | nil => simp [nth]
  | cons v l ih => cases i <;> simp [nth, ih]

theorem cell?_of_heap {w w' : World} {b off : Nat} (h : w'.heap[b]? = w.heap[b]?) : w'.cell? ⟨b, off, none⟩ = w.cell? ⟨b, off, none⟩ := by
  simp [World.cell?, h]

theorem frozen?_of_heap {w w' : World} {b off : Nat} (h : w'.heap[b]? = w.heap[b]?) : w'.frozen? ⟨b, off, none⟩ = w.frozen? ⟨b, off, none⟩ := by
  simp [World.frozen?, h]

theorem PRep.mono {w w' : World} {I I' : Nat → Prop} (hI : ∀ b, I b → I' b) (hw : ∀ b, I b → w'.heap[b]? = w.heap[b]?) {v : AV} {x : Value} (h : PRep w I v x) : PRep w' I' v x := by
  induction h with
  | undef x => exact .undef x
  | bool b => exact .bool b
  | int k n => exact .int k n
  | str s => exact .str s
  | nilp => exact .nilp
  | raw o a n cap => exact .raw o a n cap
  | @sl es n full g a cap b off vs hcap hfull ha hes hm h1 hr ih =>
    refine .sl b off vs hcap hfull (fun h => ⟨(ha h).1, hI _ (ha h).2⟩) hes (fun i j hi hj => ?_) h1 ih
    rw [cell?_of_heap (hw _ (ha (by omega)).2)]
    exact hm i j hi hj
  | ro b off vs h1 hm hr ih =>
    refine .ro b off vs (hI _ h1) (fun j hj => ?_) ih
    rw [cell?_of_heap (hw _ h1)]
    exact hm j hj
  | agg hl hr ih => exact .agg hl ih
  | fn hl hr ih => exact .fn hl ih
  | tup hl hr ih => exact .tup hl ih

theorem Rep.mono {w w' : World} {I I' : Nat → Prop} {O O' : OM} {D D' : Nat → Prop} (hI : ∀ b, I b → I' b) (hw : ∀ b, I b → w'.heap[b]? = w.heap[b]?)
    (hO : ∀ o, D o → O' o = O o ∨ O' o = none) (hD : ∀ o, D o → D' o) (hu : ∀ o p, O o = some p → D o) {v : AV} {x : Value} (h : Rep w I O D v x) : Rep w' I' O' D' v x := by
  induction h with
  | pure h => exact .pure (h.mono hI hw)
  | @ptr o i off b bo sz p ho hp hi =>
    rcases hO o (hu o p ho) with h | h
    · exact .ptr (h.trans ho) hp hi
    · exact .deadP h (hD _ (hu o p ho)) rfl
  | @osl o i n full p a cap ho hi hcap hfull hpl =>
    rcases hO o (hu o p ho) with h | h
    · exact .osl (h.trans ho) hi hcap hfull hpl
    · exact .deadS h (hD _ (hu o p ho)) rfl
  | @deadP o i off x ho hd h1 =>
    rcases hO o hd with h | h
    · exact .deadP (h.trans ho) (hD _ hd) h1
    · exact .deadP h (hD _ hd) h1
  | @deadS o i n full x ho hd h1 =>
    rcases hO o hd with h | h
    · exact .deadS (h.trans ho) (hD _ hd) h1
    · exact .deadS h (hD _ hd) h1
  | agg hl hr ih => exact .agg hl ih
  | fn hl hr ih => exact .fn hl ih
  | tup hl hr ih => exact .tup hl ih

end Go.Ab

/-
  Each operation of the abstract machine is sound: the pure ones.
-/

namespace Go.Ab

def zmatch : ZK → Value → Prop
  | .bool, x => x = .bool false
  | .int k, x => x = .int k 0
  | .str, x => x = .string ByteArray.empty
  | .slice, x => x = .slice none 0 0
  | .ptr, x => x = .pointer none
  | .other, x => x.oneCell' = true

def dmatch : TD → TypeDesc → Prop
  | .bool, d => d = .bool
  | .int k, d => d = .int k
  | .str, d => d = .string
  | .slice e, d => d = .slice e
  | .pointer e, d => d = .pointer e
  | .struct fs, d => ∃ fields : Array Field, d = .struct fields ∧ fields.toList.map (fun f => (f.offset, f.type)) = fs
  | .other, _ => True

structure TyOK (P : Program) (t : TypeId) (ti : TyI) : Prop where
  ex : ∃ i d z, P.info? t = some i ∧ P.underlying t = some d ∧ i.zero = some z ∧ i.size = ti.size ∧ i.bytes = ti.bytes ∧ d.isRow = ti.agg ∧ z.cells.size = ti.size ∧
    ti.zero.length = ti.size ∧ (∀ j, j < ti.size → zmatch (ti.zero.getD j .other) (z.cells.getD j Go.undef)) ∧ dmatch ti.desc d

/-- the types of a struct's fields are there -/
def fieldsThere (P : Program) : TypeDesc → Prop
  | .struct fields => ∀ f ∈ fields.toList, (P.info? f.type).isSome = true
  | _ => True

def plainK : ZK → TypeDesc → Prop
  | .bool, d => d = .bool
  | .int k, d => d = .int k
  | .str, d => d = .string
  | _, _ => False

/-- structs that may be compared, field by field -/
structure EqOK (P : Program) (t : TypeId) (zs : List ZK) : Prop where
  ex : ∃ fields, P.underlying t = some (.struct fields) ∧ fields.size = zs.length ∧ ∀ (i : Nat) (z : ZK), zs[i]? = some z → ∃ (f : Field) (d : TypeDesc), fields[i]? = some f ∧ f.name ≠ "_" ∧ f.offset = i ∧ P.underlying f.type = some d ∧ plainK z d
  held : P.stoodInHeld t = false
  guard : P.eqGuardType P.depth t = false

structure CfgOK (P : Program) (cfg : Cfg) : Prop where
  ty : ∀ t ti, look cfg.ty t = some ti → TyOK P t ti
  fields : ∀ t ti d, look cfg.ty t = some ti → P.underlying t = some d → fieldsThere P d
  mixed : P.follows .mixedOrders = true
  eqs : ∀ t zs, look cfg.eqs t = some zs → EqOK P t zs

/-- 'ups' laid over 'H', as a function. -/
def updF (H : Nat → Option AObj) (ups : Ups) : Nat → Option AObj := fun o => match look ups o with | some x => x | none => H o

inductive EvR (Sp : SpecT) (H : Nat → Option AObj) : Pg → AV → Ups → List Nat → Prop
  | ret (v : AV) (ups : Ups) : EvR Sp H (.ret v ups) v ups []
  | need {p : Prop} {k : Pg} {v : AV} {ups : Ups} {r : List Nat} (hp : p) (h : EvR Sp H k v ups r) : EvR Sp H (.need p k) v ups r
  | rd {o : Nat} {x : AObj} {k : AObj → Pg} {v : AV} {ups : Ups} {r : List Nat} (ho : H o = some x) (h : EvR Sp H (k x) v ups r) : EvR Sp H (.rd o k) v ups (o :: r)
  | call {f : FuncId} {args : List AV} {obs : List AObj} {k : AV → List AObj → Pg} {x : AV} {obs' : List AObj} {v : AV} {ups : Ups} {r : List Nat} (hs : Sp f args obs x obs')
      (h : EvR Sp H (k x obs') v ups r) : EvR Sp H (.call f args obs k) v ups r

def hof : List AObj → Nat → Option AObj
  | [], _ => none
  | x :: _, 0 => some x
  | _ :: l, n + 1 => hof l n

/-- The context of a call. -/
def cxOf (w : World) (I : Nat → Prop) (O : OM) (m : Nat) : Ctx := ⟨w, fun b => ∃ o p bo sz, O o = some p ∧ p.pl = some (b, bo, sz), I, O, m, fun _ _ => False, false⟩

def Spec (P : Program) (cfg : Cfg) : SpecT := fun f args obs r obs' =>
  (∃ fn, P.funcs[f]? = some fn ∧ fn.body.isNone = false ∧ (fn.name == "runtime.NumGoroutine") = false) ∧ obs.length ≤ obs'.length ∧
  ∀ (w : World) (I : Nat → Prop) (O : OM) (vals : Array Value), Rel cfg (cxOf w I O obs.length) (hof obs) (fun o => o < obs.length) w I O →
    vals.size = args.length → (∀ j, j < args.length → Rep w I O (fun o => o < obs.length) (nth args j) (vals.getD j Go.undef)) →
    Calls P f vals w fun e w' => ∃ x I' O', e = .returned x ∧ Rel cfg (cxOf w I O obs.length) (hof obs') (fun o => o < obs'.length) w' I' O' ∧
      Rep w' I' O' (fun o => o < obs'.length) r x ∧ ∀ o, o < obs.length → O' o = O o

section
variable {P : Program} {cfg : Cfg} {cx : Ctx} {H : Nat → Option AObj} {D : Nat → Prop} {w : World} {I : Nat → Prop} {O : OM}

def insD (D : Nat → Prop) (n : Nat) : Nat → Prop := fun o => D o ∨ o = n

/-- The operation 'o' is carried out: it yields a value that 'v' stands for, and the objects are as 'ups' says. -/
def OpOK (P : Program) (cfg : Cfg) (cx : Ctx) (H : Nat → Option AObj) (D : Nat → Prop) (w : World) (I : Nat → Prop) (O : OM) (nid : Nat) (o : Oper) (a : Act) (v : AV) (ups : Ups) : Prop :=
  ∀ (next : Act → World → Prop) (Q : Exit → Act → World → Prop),
    (∀ x w' I' O', Rel cfg cx (updF H ups) (insD D nid) w' I' O' → (∀ u y, Rep w I O D u y → Rep w' I' O' (insD D nid) u y) → Rep w' I' O' (insD D nid) v x → next (a.put o.dst x) w') →
    o.wp P a w next Q

theorem updF_nil (H : Nat → Option AObj) : updF H [] = H := rfl

theorem ObjRep.mono {w' : World} {I' : Nat → Prop} {O' : OM} {D' : Nat → Prop} {p : Own} {ob : AObj} (hI : ∀ b, I b → I' b) (hw : ∀ b, I b → w'.heap[b]? = w.heap[b]?)
    (hO : ∀ o, D o → O' o = O o ∨ O' o = none) (hD : ∀ o, D o → D' o) (hu : ∀ o p, O o = some p → D o) (hb : ∀ b bo sz, p.pl = some (b, bo, sz) → w'.heap[b]? = w.heap[b]?)
    (h : ObjRep w I O D p ob) : ObjRep w' I' O' D' p ob := by
  cases ob with
  | box cs =>
    obtain ⟨h1, b, bo, sz, hp, ha, hl, hc⟩ := h
    have hh := hb b bo sz hp
    refine ⟨h1, b, bo, sz, hp, fun j hj => ?_, hl, fun j hj => ?_⟩
    · rw [cell?_of_heap hh, frozen?_of_heap hh]; exact ha j hj
    · rw [cellAt, cell?_of_heap hh]; exact (hc j hj).mono hI hw hO hD hu
  | row es n g =>
    obtain ⟨h1, h2, h3, h4⟩ := h
    refine ⟨h1, h2, h3, ?_⟩
    rcases h4 with h4 | ⟨b, bo, sz, hp, ha, hl, hc⟩
    · exact .inl h4
    · have hh := hb b bo sz hp
      refine .inr ⟨b, bo, sz, hp, fun j hj => ?_, hl, fun i j hi hj => ?_⟩
      · rw [cell?_of_heap hh, frozen?_of_heap hh]; exact ha j hj
      · rw [cellAt, cell?_of_heap hh]; exact ⟨(hc i j hi hj).1.mono hI hw, (hc i j hi hj).2⟩
  | held a cap es n g =>
    obtain ⟨⟨h1, h2, h3, h4⟩, h5, h6⟩ := h
    refine ⟨⟨h1, h2, h3, ?_⟩, h5, h6⟩
    rcases h4 with h4 | ⟨b, bo, sz, hp, ha, hl, hc⟩
    · exact .inl h4
    · have hh := hb b bo sz hp
      refine .inr ⟨b, bo, sz, hp, fun j hj => ?_, hl, fun i j hi hj => ?_⟩
      · rw [cell?_of_heap hh, frozen?_of_heap hh]; exact ha j hj
      · rw [cellAt, cell?_of_heap hh]; exact ⟨(hc i j hi hj).1.mono hI hw, (hc i j hi hj).2⟩

theorem Rel.addD (hR : Rel cfg cx H D w I O) (n : Nat) : Rel cfg cx H (insD D n) w I O :=
  { hR with
    used := fun o p h => .inl (hR.used o p h)
    objs := fun o ob p h h' => (hR.objs o ob p h h').mono (fun _ h => h) (fun _ _ => rfl) (fun _ _ => .inl rfl) (fun _ h => .inl h) hR.used (fun _ _ _ _ => rfl)
    Dm := fun o h => .inl (hR.Dm o h) }

theorem Rep.addD (hR : Rel cfg cx H D w I O) (n : Nat) {v : AV} {x : Value} (h : Rep w I O D v x) : Rep w I O (insD D n) v x :=
  h.mono (fun _ h => h) (fun _ _ => rfl) (fun _ _ => .inl rfl) (fun _ h => .inl h) hR.used

theorem wp_val {o : Oper} {a : Act} {x : Value} {w' : World} {next : Act → World → Prop} {Q : Exit → Act → World → Prop} (h : (execOp a.eval o).run P w = .ok (.value x) w') (hn : next (a.put o.dst x) w') : o.wp P a w next Q := by
  unfold Oper.wp; rw [h]; exact hn

/-- An operation that leaves the world alone. -/
theorem OpOK.of_pure {nid : Nat} {o : Oper} {a : Act} {v : AV} {x : Value} (hR : Rel cfg cx H D w I O) (h : (execOp a.eval o).run P w = .ok (.value x) w) (hv : Rep w I O D v x) : OpOK P cfg cx H D w I O nid o a v [] := by
  intro next Q hn
  exact wp_val h (hn x w I O (by rw [updF_nil]; exact hR.addD nid) (fun u y hu => hu.addD hR nid) (hv.addD hR nid))

/-! Inversions -/
theorem Rep.bool_inv {b : Bool} {x : Value} (h : Rep w I O D (.bool b) x) : x = .bool b := by
  cases h with | pure h => cases h; rfl
theorem Rep.int_inv {k : IntKind} {n : Int} {x : Value} (h : Rep w I O D (.int k n) x) : x = .int k n := by
  cases h with | pure h => cases h; rfl
theorem Rep.str_inv {s : ByteArray} {x : Value} (h : Rep w I O D (.str s) x) : x = .string s := by
  cases h with | pure h => cases h; rfl
theorem Rep.sl_inv {es n : Nat} {f : Bool} {g : Nat → AV} {x : Value} (h : Rep w I O D (.sl es n f g) x) : PRep w I (.sl es n f g) x := by
  cases h with | pure h => exact h
theorem Rep.ro_inv {cs : List AV} {x : Value} (h : Rep w I O D (.ro cs) x) : PRep w I (.ro cs) x := by
  cases h with | pure h => exact h
theorem Rep.agg_inv {cs : List AV} {x : Value} (h : Rep w I O D (.agg cs) x) : ∃ vs : Array Value, x = .agg vs ∧ vs.size = cs.length ∧ ∀ j, j < cs.length → Rep w I O D (nth cs j) (vs.getD j Go.undef) := by
  cases h with
  | pure h => cases h with | agg hl hr => exact ⟨_, rfl, hl, fun j hj => .pure (hr j hj)⟩
  | agg hl hr => exact ⟨_, rfl, hl, hr⟩
theorem Rep.tup_inv {cs : List AV} {x : Value} (h : Rep w I O D (.tup cs) x) : ∃ vs : Array Value, x = .tuple vs ∧ vs.size = cs.length ∧ ∀ j, j < cs.length → Rep w I O D (nth cs j) (vs.getD j Go.undef) := by
  cases h with
  | pure h => cases h with | tup hl hr => exact ⟨_, rfl, hl, fun j hj => .pure (hr j hj)⟩
  | tup hl hr => exact ⟨_, rfl, hl, hr⟩
theorem Rep.fn_inv {f : FuncId} {cs : List AV} {x : Value} (h : Rep w I O D (.fn f cs) x) : ∃ vs : Array Value, x = .func (.func f) #[] vs ∧ vs.size = cs.length ∧ ∀ j, j < cs.length → Rep w I O D (nth cs j) (vs.getD j Go.undef) := by
  cases h with
  | pure h => cases h with | fn hl hr => exact ⟨_, rfl, hl, fun j hj => .pure (hr j hj)⟩
  | fn hl hr => exact ⟨_, rfl, hl, hr⟩
/-- A pointer to an object that lives. -/
theorem Rep.ptr_inv {o i off : Nat} {x : Value} {p : Own} (ho : O o = some p) (h : Rep w I O D (.ptr o i off) x) : ∃ b bo sz, p.pl = some (b, bo, sz) ∧ i < p.n ∧ x = .pointer (some ⟨b, bo + (i * p.es + off), none⟩) := by
  cases h with
  | pure h => cases h
  | @ptr _ _ _ b bo sz p' ho' hp hi =>
    have : p' = p := Option.some.inj (ho'.symm.trans ho)
    subst this
    exact ⟨b, bo, sz, hp, hi, rfl⟩
  | deadP ho' => rw [ho] at ho'; cases ho'
theorem Rep.osl_inv {o i n : Nat} {full : Bool} {x : Value} {p : Own} (ho : O o = some p) (h : Rep w I O D (.osl o i n full) x) : ∃ a cap, x = .slice a n cap ∧ i + n ≤ p.n ∧ n ≤ cap ∧ (full = true → cap = n) ∧
    (cap ≠ 0 → ∃ b bo sz, p.pl = some (b, bo, sz) ∧ a = some ⟨b, bo + i * p.es, none⟩ ∧ bo + (i + cap) * p.es ≤ sz) := by
  cases h with
  | pure h => cases h
  | @osl _ _ _ _ p' a cap ho' hi hcap hfull hpl =>
    have : p' = p := Option.some.inj (ho'.symm.trans ho)
    subst this
    exact ⟨a, cap, rfl, hi, hcap, hfull, hpl⟩
  | deadS ho' => rw [ho] at ho'; cases ho'

theorem okCell_one {v : AV} {x : Value} (h : Rep w I O D v x) (hk : okCell v = true) : x.oneCell' = true := by
  cases h with
  | pure h => cases h <;> first | rfl | cases hk
  | ptr => rfl
  | osl => rfl
  | deadP _ _ h1 => exact h1
  | deadS _ _ h1 => exact h1
  | agg => cases hk
  | fn => rfl
  | tup => cases hk

theorem okCells_nth {l : List AV} (h : okCells l = true) : ∀ j, j < l.length → okCell (nth l j) = true := by
  induction l with
  | nil => intro j hj; cases hj
  | cons v l ih =>
    intro j hj
    unfold okCells at h
    cases hv : okCell v with
    | false => simp [hv] at h
    | true =>
      simp only [hv] at h
      cases j with
      | zero => exact hv
      | succ j => exact ih h j (by simpa using hj)

/-- A value's cells: as the model has them. -/
theorem Rep.cells {v : AV} {x : Value} (h : Rep w I O D v x) (hk : okCells v.cells = true) : x.cells.size = v.cells.length ∧ ∀ j, j < v.cells.length → Rep w I O D (nth v.cells j) (x.cells.getD j Go.undef) ∧ (x.cells.getD j Go.undef).oneCell' = true := by
  have one : ∀ {v : AV} {x : Value}, Rep w I O D v x → v.cells = [v] → okCell v = true → x.cells.size = v.cells.length ∧ ∀ j, j < v.cells.length → Rep w I O D (nth v.cells j) (x.cells.getD j Go.undef) ∧ (x.cells.getD j Go.undef).oneCell' = true := by
    intro v x h hc ho
    have h1 := okCell_one h ho
    have hx : x.cells = #[x] := by cases x <;> first | rfl | cases h1
    rw [hc, hx]
    refine ⟨rfl, fun j hj => ?_⟩
    have : j = 0 := by simpa using hj
    subst this
    exact ⟨h, h1⟩
  cases v with
  | agg cs =>
    obtain ⟨vs, rfl, hl, hr⟩ := h.agg_inv
    exact ⟨hl, fun j hj => ⟨hr j hj, okCell_one (hr j hj) (okCells_nth hk j hj)⟩⟩
  | undef => cases hk
  | tup vs => cases hk
  | _ => exact one h rfl rfl

end
end Go.Ab

namespace Go.Ab
section
variable {P : Program} {cfg : Cfg} {cx : Ctx} {H : Nat → Option AObj} {D : Nat → Prop} {w : World} {I : Nat → Prop} {O : OM} {Sp : SpecT}

theorem EvR.ret_inv {v v' : AV} {ups ups' : Ups} {r : List Nat} (h : EvR Sp H (.ret v ups) v' ups' r) : v' = v ∧ ups' = ups := by cases h; exact ⟨rfl, rfl⟩
theorem EvR.need_inv {p : Prop} {k : Pg} {v' : AV} {ups' : Ups} {r : List Nat} (h : EvR Sp H (.need p k) v' ups' r) : p ∧ EvR Sp H k v' ups' r := by cases h with | need hp h => exact ⟨hp, h⟩
theorem EvR.rd_inv {o : Nat} {k : AObj → Pg} {v' : AV} {ups' : Ups} {r : List Nat} (h : EvR Sp H (.rd o k) v' ups' r) : ∃ x r', H o = some x ∧ EvR Sp H (k x) v' ups' r' := by cases h with | rd ho h => exact ⟨_, _, ho, h⟩
theorem EvR.fail_inv {v' : AV} {ups' : Ups} {r : List Nat} (h : EvR Sp H .fail v' ups' r) : False := by cases h
theorem EvR.need1_inv {p : Prop} {v v' : AV} {ups' : Ups} {r : List Nat} (h : EvR Sp H (need1 p v) v' ups' r) : p ∧ v' = v ∧ ups' = [] := by
  obtain ⟨hp, h⟩ := EvR.need_inv h; exact ⟨hp, h.ret_inv⟩
theorem EvR.ret1_inv {v v' : AV} {ups' : Ups} {r : List Nat} (h : EvR Sp H (ret1 v) v' ups' r) : v' = v ∧ ups' = [] := h.ret_inv
theorem EvR.chk_inv {b : Bool} {k : Pg} {v' : AV} {ups' : Ups} {r : List Nat} (h : EvR Sp H (chkK b k) v' ups' r) : b = true ∧ EvR Sp H k v' ups' r := by
  cases b with
  | true => exact ⟨rfl, h⟩
  | false => exact (EvR.fail_inv h).elim
theorem EvR.cells_inv {v : AV} {k : List AV → Pg} {v' : AV} {ups' : Ups} {r : List Nat} (h : EvR Sp H (cellsK v k) v' ups' r) : okCells v.cells = true ∧ EvR Sp H (k v.cells) v' ups' r := by
  unfold cellsK at h
  cases hb : okCells v.cells with
  | true => simp only [hb] at h; exact ⟨rfl, h⟩
  | false => simp only [hb] at h; exact (EvR.fail_inv h).elim
theorem EvR.ty_inv {t : TypeId} {k : TyI → Pg} {v' : AV} {ups' : Ups} {r : List Nat} (h : EvR Sp H (tyK cfg t k) v' ups' r) : ∃ ti, look cfg.ty t = some ti ∧ EvR Sp H (k ti) v' ups' r := by
  unfold tyK at h
  cases hb : look cfg.ty t with
  | some ti => simp only [hb] at h; exact ⟨ti, rfl, h⟩
  | none => simp only [hb] at h; exact (EvR.fail_inv h).elim
theorem EvR.elem_inv {t : TypeId} {k : TyI → Pg} {v' : AV} {ups' : Ups} {r : List Nat} (h : EvR Sp H (elemK cfg t k) v' ups' r) : ∃ tt e ti, look cfg.ty t = some tt ∧ tt.desc = .slice e ∧ look cfg.ty e = some ti ∧ EvR Sp H (k ti) v' ups' r := by
  unfold elemK at h
  cases hb : look cfg.ty t with
  | some tt =>
    simp only [hb] at h
    cases hd : tt.desc with
    | slice e =>
      simp only [hd] at h
      obtain ⟨ti, h1, h2⟩ := h.ty_inv
      exact ⟨tt, e, ti, rfl, hd, h1, h2⟩
    | _ => simp only [hd] at h; exact (EvR.fail_inv h).elim
  | none => simp only [hb] at h; exact (EvR.fail_inv h).elim

/-- The slice type and its element type, in the program. -/
theorem CfgOK.slice (hc : CfgOK P cfg) {t e : TypeId} {tt ti : TyI} (h : look cfg.ty t = some tt) (hd : tt.desc = .slice e) (h' : look cfg.ty e = some ti) :
    P.underlying t = some (.slice e) ∧ ∃ i z, P.info? e = some i ∧ i.zero = some z ∧ i.size = ti.size ∧ i.bytes = ti.bytes ∧ z.cells.size = ti.size := by
  obtain ⟨i, d, z, _, hu, _, _, _, _, _, _, _, hm⟩ := (hc.ty t tt h).ex
  rw [hd] at hm
  obtain ⟨i', d', z', h1, _, h2, h3, h4, _, h5, _⟩ := (hc.ty e ti h').ex
  exact ⟨by rw [hu, hm], i', z', h1, h2, h3, h4, h5⟩

theorem run_sizeOf' {t : TypeId} {i : TypeInfo} (h : P.info? t = some i) (w : World) : (sizeOf t).run P w = .ok i.size w := by
  simp [sizeOf, typeInfo, h]

theorem run_underlying' {t : TypeId} {d : TypeDesc} (h : P.underlying t = some d) (w : World) : (underlying t).run P w = .ok d w := by
  simp [underlying, h]

variable {nid : Nat} {o : Oper} {a : Act} {ρ : Operand → AV} {v : AV} {ups : Ups} {r : List Nat}

theorem op_move (hR : Rel cfg cx H D w I O) {x : Operand} (ho : o.op = .move x) (hx : Rep w I O D (ρ x) (a.eval x)) : OpOK P cfg cx H D w I O nid o a (ρ x) [] :=
  OpOK.of_pure hR (by simp [execOp, ho]) hx

theorem op_assign (hR : Rel cfg cx H D w I O) {x : Operand} (ho : o.op = .assign x) (hx : Rep w I O D (ρ x) (a.eval x)) : OpOK P cfg cx H D w I O nid o a (ρ x) [] :=
  OpOK.of_pure hR (by simp [execOp, ho]) hx

/-- Operands that are constants. -/
theorem rep_const (c : Value) (ho : ofConst c ≠ .undef) : ∀ {x : Value}, x = c → Rep w I O D (ofConst c) x := by
  intro x hx
  subst hx
  refine .pure ?_
  unfold ofConst
  split
  · exact .bool _
  · exact .int _ _
  · exact .str _
  · exact .sl 0 0 (fun _ _ => Go.undef) (Nat.le_refl _) (fun _ => rfl) (fun h => absurd rfl h) (fun i h => by cases h) (fun i j h => by cases h) (fun i j h => by cases h) (fun i j h => by cases h)
  · exact .nilp
  · rename_i h1 h2 h3 h4 h5
    exact .undef _

theorem rep_const' (c : Value) : Rep w I O D (ofConst c) c := by
  by_cases h : ofConst c = .undef
  · rw [h]; exact .pure (.undef _)
  · exact rep_const c h rfl

theorem op_pick (hR : Rel cfg cx H D w I O) {c x y : Operand} (ho : o.op = .pick c x y) (hc : Rep w I O D (ρ c) (a.eval c))
    (hx : ∀ b, ρ c = .bool b → b = true → Rep w I O D (ρ x) (a.eval x)) (hy : ∀ b, ρ c = .bool b → b = false → Rep w I O D (ρ y) (a.eval y))
    (hcx : ∀ v, x = .const v → ρ x = ofConst v ∧ a.eval x = v) (hcy : ∀ v, y = .const v → ρ y = ofConst v ∧ a.eval y = v)
    (h : EvR Sp H (pickPg (ρ c) x y (ρ x) (ρ y)) v ups r) : OpOK P cfg cx H D w I O nid o a v ups := by
  cases hcv : ρ c with
  | bool b =>
    rw [hcv] at hc h
    have hb := hc.bool_inv
    have hx' := hx b hcv
    have hy' := hy b hcv
    have run : (execOp a.eval o).run P w = .ok (.value (if b then a.eval x else a.eval y)) w := by
      simp [execOp, ho, hb, asBool]
    unfold pickPg at h
    simp only at h
    split at h
    · rename_i hz
      obtain ⟨rfl, rfl⟩ := h.ret1_inv
      obtain ⟨_, e2⟩ := hcy _ rfl
      refine OpOK.of_pure hR run ?_
      cases b with
      | true => have := (hx' rfl); rw [hz] at this; rw [this.bool_inv]; exact .pure (.bool _)
      | false => rw [e2]; exact .pure (.bool _)
    · rename_i hz _
      obtain ⟨rfl, rfl⟩ := h.ret1_inv
      obtain ⟨_, e2⟩ := hcx _ rfl
      refine OpOK.of_pure hR run ?_
      cases b with
      | true => simp only [if_true]; rw [e2]; exact .pure (.bool _)
      | false => have := (hy' rfl); rw [hz] at this; simp only [Bool.false_eq_true, if_false]; rw [this.bool_inv]; exact .pure (.bool _)
    · rename_i h1 h2
      obtain ⟨rfl, rfl⟩ := h.ret1_inv
      refine OpOK.of_pure hR run ?_
      cases b with
      | true => have := (hx' rfl); rw [h1] at this; rw [this.bool_inv]; exact .pure (.bool _)
      | false => have := (hy' rfl); rw [h2] at this; simp only [Bool.false_eq_true, if_false]; rw [this.bool_inv]; exact .pure (.bool _)
    · obtain ⟨rfl, rfl, rfl⟩ := h.need1_inv
      refine OpOK.of_pure hR run ?_
      simpa using hy' rfl
    · obtain ⟨rfl, rfl, rfl⟩ := h.need1_inv
      refine OpOK.of_pure hR run ?_
      simpa using hx' rfl
    · exact (EvR.fail_inv h).elim
  | _ => rw [hcv] at h; exact (EvR.fail_inv h).elim

theorem wrap_i64 {n : Int} (h : InI64 n) : IntKind.i64.wrap n = n := IntWalk.i64_in _ ⟨h.1, h.2⟩

theorem run_equal_bool {t : TypeId} (hu : P.underlying t = some .bool) (a b : Bool) (w : World) : (Op.equal t (.bool a) (.bool b)).run P w = .ok (a == b) w := by
  have : ∀ d, (Op.equalIn (d + 1) t (.bool a) (.bool b)).run P w = .ok (a == b) w := fun d => by
    simp [Op.equalIn, run_underlying' hu]
  exact this 9999

theorem run_part_one {t : TypeId} {d : TypeDesc} (hu : P.underlying t = some d) (hd : d.isRow = false) (vs : Array Value) (i : Nat) (hi : i < vs.size) (w : World) : (part t vs i).run P w = .ok (vs.getD i Go.undef) w := by
  have hag : (isAgg t).run P w = .ok false w := by
    unfold isAgg
    rw [Sem.run_bind, run_underlying' hu w]
    cases d <;> simp at hd ⊢
  simp [part, Sem.run_bind, hag, Array.getElem?_eq_getElem hi]

theorem eqFields_run (xs ys : Array Value) (w : World) (d : Nat) : ∀ (fs : List Field) (zs : List ZK) (cs cs' : List AV) (k : Nat) (r : Bool), eqZ zs cs cs' = some r → fs.length = zs.length →
    (∀ (i : Nat) (z : ZK), zs[i]? = some z → ∃ (f : Field) (d : TypeDesc), fs[i]? = some f ∧ f.name ≠ "_" ∧ f.offset = k + i ∧ P.underlying f.type = some d ∧ plainK z d) →
    k + cs.length ≤ xs.size → k + cs'.length ≤ ys.size → (∀ j, j < cs.length → Rep w I O D (nth cs j) (xs.getD (k + j) Go.undef)) → (∀ j, j < cs'.length → Rep w I O D (nth cs' j) (ys.getD (k + j) Go.undef)) →
    (Op.eqFields (d + 1) xs ys fs).run P w = .ok r w := by
  intro fs
  induction fs with
  | nil =>
    intro zs cs cs' k r h hl
    have : zs = [] := List.eq_nil_of_length_eq_zero (by simpa using hl.symm)
    subst this
    intro _ _ _ _ _
    cases cs with
    | nil => cases cs' with
      | nil => cases h; simp [Op.eqFields]
      | cons => simp [eqZ] at h
    | cons => simp [eqZ] at h
  | cons f fs ih =>
    intro zs cs cs' k r h hl hz hx hy hrx hry
    cases zs with
    | nil => simp at hl
    | cons z zs =>
      obtain ⟨f', dd, hf, hnm, hof, hu, hk⟩ := hz 0 z rfl
      simp at hf
      subst hf
      cases cs with
      | nil => cases z <;> simp [eqZ] at h
      | cons c cs => cases cs' with
        | nil => cases z <;> cases c <;> simp [eqZ] at h
        | cons c' cs' =>
          have hx0 := hrx 0 (by simp)
          have hy0 := hry 0 (by simp)
          simp only [nth, Nat.add_zero] at hx0 hy0
          have hxs : k < xs.size := by simp at hx; omega
          have hys : k < ys.size := by simp at hy; omega
          have hd : dd.isRow = false := by cases z <;> simp only [plainK] at hk <;> first | (subst hk; rfl) | exact hk.elim
          have px := run_part_one hu hd xs k hxs w
          have py := run_part_one hu hd ys k hys w
          have step : ∀ (b r' : Bool), (Op.equalIn (d + 1) f.type (xs.getD k Go.undef) (ys.getD k Go.undef)).run P w = .ok b w → eqZ zs cs cs' = some r' → (Op.eqFields (d + 1) xs ys (f :: fs)).run P w = .ok (b && r') w := by
            intro b r' hb hr'
            have ih' := ih zs cs cs' (k + 1) r' hr' (by simpa using hl) (fun i z' hi => by
              obtain ⟨f', d', q1, q2, q3, q4, q5⟩ := hz (i + 1) z' (by simpa using hi)
              exact ⟨f', d', by simpa using q1, q2, by omega, q4, q5⟩) (by simp at hx; omega) (by simp at hy; omega) (fun j hj => by
              have := hrx (j + 1) (by simpa using hj)
              rw [show k + (j + 1) = k + 1 + j by omega] at this
              exact this) (fun j hj => by
              have := hry (j + 1) (by simpa using hj)
              rw [show k + (j + 1) = k + 1 + j by omega] at this
              exact this)
            rw [Op.eqFields, if_pos hnm]
            simp only [hof, Nat.add_zero, Sem.run_bind, px, py, Result.andThen_ok, hb]
            cases b
            · simp
            · simpa using ih'
          cases z with
          | int kk =>
            cases c <;> cases c' <;> simp only [eqZ] at h <;> first | (cases h; done) | skip
            rename_i k1 a k2 b
            split at h
            · rename_i r' e1 e2 e3
              cases h
              have e1 : kk = k1 := by simpa [kindEq] using e1
              have e2 : kk = k2 := by simpa [kindEq] using e2
              subst e1; subst e2
              refine step _ _ ?_ e3
              rw [hx0.int_inv, hy0.int_inv]
              rw [hk] at hu
              exact run_equalIn_int w d _ _ _ _ _ hu
            · cases h
          | bool =>
            cases c <;> cases c' <;> simp only [eqZ] at h <;> first | (cases h; done) | skip
            rename_i a b
            split at h
            · rename_i r' e3
              cases h
              refine step _ _ ?_ e3
              rw [hx0.bool_inv, hy0.bool_inv]
              rw [hk] at hu
              exact run_equalIn_bool' w d _ _ _ hu
            · cases h
          | str =>
            cases c <;> cases c' <;> simp only [eqZ] at h <;> first | (cases h; done) | skip
            rename_i a b
            split at h
            · rename_i r' e3
              cases h
              refine step _ _ ?_ e3
              rw [hx0.str_inv, hy0.str_inv]
              rw [hk] at hu
              exact run_equalIn_string w d _ _ _ hu
            · cases h
          | slice => exact hk.elim
          | ptr => exact hk.elim
          | other => exact hk.elim

theorem run_equal_agg (hc : CfgOK P cfg) {t : TypeId} {zs : List ZK} (ht : look cfg.eqs t = some zs) {cs cs' : List AV} {xs ys : Array Value} {r : Bool} (h : eqZ zs cs cs' = some r) (hl : xs.size = cs.length) (hl' : ys.size = cs'.length)
    (hx : ∀ j, j < cs.length → Rep w I O D (nth cs j) (xs.getD j Go.undef)) (hy : ∀ j, j < cs'.length → Rep w I O D (nth cs' j) (ys.getD j Go.undef)) : (Op.equalIn 10000 t (.agg xs) (.agg ys)).run P w = .ok r w := by
  obtain ⟨⟨fields, hu, hs, hf⟩, hh, _⟩ := hc.eqs t zs ht
  have hfo : P.fieldsOf t = fields := by unfold Program.fieldsOf; rw [hu]
  have e := run_equalIn_struct (P := P) w 9999 t xs ys (by rw [hfo]; exact hu) hh
  rw [e, hfo]
  refine eqFields_run (I := I) (O := O) (D := D) xs ys w 9998 fields.toList zs cs cs' 0 r h (by simpa using hs) (fun i z hi => ?_) (by omega) (by omega) (fun j hj => by simpa using hx j hj) (fun j hj => by simpa using hy j hj)
  obtain ⟨f, d, q1, q2, q3, q4, q5⟩ := hf i z hi
  exact ⟨f, d, by simpa using q1, q2, by omega, q4, q5⟩

theorem op_binOp (hc : CfgOK P cfg) (hR : Rel cfg cx H D w I O) {op : BinOp} {t t' : TypeId} {x y : Operand} (ho : o.op = .binOp op t x y t') (hx : Rep w I O D (ρ x) (a.eval x)) (hy : Rep w I O D (ρ y) (a.eval y))
    (h : EvR Sp H (binPg cfg op t (ρ x) (ρ y)) v ups r) : OpOK P cfg cx H D w I O nid o a v ups := by
  unfold binPg at h
  split at h
  · rename_i k n k' n' e1 e2
    rw [e1] at hx; rw [e2] at hy
    have hx' := hx.int_inv
    have hy' := hy.int_inv
    obtain ⟨hk1, h1⟩ := h.chk_inv
    clear h
    have hk : k = k' := by simpa [kindEq] using hk1
    subst hk
    have hg : ∀ (u : World), (eqGuard op t x y (.int k n) (.int k n')).run P u = .ok () u := by
      intro u; unfold eqGuard; cases op <;> simp
    cases ha : isArith op with
    | true =>
      simp only [ha] at h1
      cases hk2 : kindEq k .i64 with
      | true =>
        simp only [hk2] at h1
        have h2 := h1
        clear h1
        have hk : k = .i64 := by simpa [kindEq] using hk2
        subst hk
        cases op <;> simp [isArith] at ha <;> simp only [arith] at h2 <;> obtain ⟨hp, rfl, rfl⟩ := h2.need1_inv <;>
          refine OpOK.of_pure (x := .int .i64 _) hR ?_ (.pure (.int _ _)) <;> simp [execOp, ho, hx', hy', hg, binOp, Op.intArith, Op.intDiv, wrap_i64, hp]
      | false =>
        simp only [hk2] at h1
        cases op <;> simp [isArith] at ha <;> simp only [arithW] at h1 <;> first
          | exact (EvR.fail_inv h1).elim
          | (obtain ⟨rfl, rfl⟩ := h1.ret1_inv
             refine OpOK.of_pure (x := .int k _) hR ?_ (.pure (.int _ _))
             simp [execOp, ho, hx', hy', hg, binOp, Op.intArith])
    | false =>
      simp only [ha] at h1
      cases op <;> simp [isArith] at ha <;> simp only [cmpI] at h1 <;> first
        | exact (EvR.fail_inv h1).elim
        | (obtain ⟨rfl, rfl⟩ := h1.ret1_inv
           refine OpOK.of_pure (x := .bool _) hR ?_ (.pure (.bool _))
           simp [execOp, ho, hx', hy', hg, binOp, Op.intCmp]
           done)
        | (obtain ⟨hp, rfl, rfl⟩ := h1.need1_inv
           refine OpOK.of_pure (x := .int k _) hR ?_ (.pure (.int _ _))
           have hp' := Int.not_lt.2 hp
           simp only [execOp, ho, hx', hy', hg, binOp, Op.shift, if_neg hp', shrI, Sem.run_bind, Result.andThen_ok, Sem.run_pure]
           done)
        | (obtain ⟨rfl, rfl⟩ := h1.ret1_inv
           refine OpOK.of_pure (x := .int k _) hR ?_ (.pure (.int _ _))
           simp [execOp, ho, hx', hy', hg, binOp, Op.intBits, andI])
  · rename_i b b' e1 e2
    rw [e1] at hx; rw [e2] at hy
    have hx' := hx.bool_inv
    have hy' := hy.bool_inv
    obtain ⟨ti, ht, h1⟩ := h.ty_inv
    clear h
    have hg : ∀ (u : World), (eqGuard op t x y (.bool b) (.bool b')).run P u = .ok () u := by
      intro u; unfold eqGuard; cases op <;> simp
    have hd : ti.desc = .bool → P.underlying t = some .bool := by
      intro hd
      obtain ⟨i, d, z, _, hu, _, _, _, _, _, _, _, hm⟩ := (hc.ty t ti ht).ex
      rw [hd] at hm
      rw [hu, hm]
    split at h1
    · rename_i hdd
      obtain ⟨rfl, rfl⟩ := h1.ret1_inv
      refine OpOK.of_pure (x := .bool _) hR ?_ (.pure (.bool _))
      have e := run_equal_bool (P := P) (hd hdd) b b' w
      simp [execOp, ho, hx', hy', hg, binOp, e]
    · rename_i hdd
      obtain ⟨rfl, rfl⟩ := h1.ret1_inv
      refine OpOK.of_pure (x := .bool _) hR ?_ (.pure (.bool _))
      have e := run_equal_bool (P := P) (hd hdd) b b' w
      simp [execOp, ho, hx', hy', hg, binOp, e]
    · exact (EvR.fail_inv h1).elim
  · rename_i s s' e1 e2
    rw [e1] at hx; rw [e2] at hy
    have hx' := hx.str_inv
    have hy' := hy.str_inv
    have hg : ∀ (u : World), (eqGuard op t x y (.string s) (.string s')).run P u = .ok () u := by
      intro u; unfold eqGuard; cases op <;> simp
    unfold strPg at h
    cases op <;> simp only at h <;> first
      | exact (EvR.fail_inv h).elim
      | (obtain ⟨rfl, rfl⟩ := h.ret1_inv
         refine OpOK.of_pure (x := .bool _) hR ?_ (.pure (.bool _))
         simp [execOp, ho, hx', hy', hg, binOp, Op.stringOp]
         done)
      | (obtain ⟨hp, rfl, rfl⟩ := h.need1_inv
         refine OpOK.of_pure (x := .string _) hR ?_ (.pure (.str _))
         have hle : ¬ (((s.size + s'.size : Nat) : Int) > IntKind.i64.max) := by
           have : IntKind.i64.max = 9223372036854775807 := by decide
           rw [this]
           omega
         simp only [execOp, ho, hx', hy', binOp, Op.stringOp, Sem.run_bind, hg, Result.andThen_ok]
         rw [if_neg hle]
         rfl)
  · rename_i cs cs' e1 e2
    rw [e1] at hx; rw [e2] at hy
    obtain ⟨xs, hx', hl, hrx⟩ := hx.agg_inv
    obtain ⟨ys, hy', hl', hry⟩ := hy.agg_inv
    split at h
    · rename_i zs hz
      have hg : ∀ (u : World), (eqGuard op t x y (.agg xs) (.agg ys)).run P u = .ok () u := fun u => run_eqGuard_agg u op t x y xs ys (hc.eqs t zs hz).guard
      split at h
      · rename_i r' he
        obtain ⟨rfl, rfl⟩ := h.ret1_inv
        have e := run_equal_agg hc hz he hl hl' hrx hry
        refine OpOK.of_pure (x := .bool _) hR ?_ (.pure (.bool _))
        simp only [execOp, ho, hx', hy', Sem.run_bind, hg, Result.andThen_ok, run_eql_struct, e]
        rfl
      · rename_i r' he
        obtain ⟨rfl, rfl⟩ := h.ret1_inv
        have e := run_equal_agg hc hz he hl hl' hrx hry
        refine OpOK.of_pure (x := .bool _) hR ?_ (.pure (.bool _))
        simp only [execOp, ho, hx', hy', Sem.run_bind, hg, Result.andThen_ok, run_neq_struct, e]
        rfl
      · exact (EvR.fail_inv h).elim
    · exact (EvR.fail_inv h).elim
  · exact (EvR.fail_inv h).elim

theorem op_unOp (hR : Rel cfg cx H D w I O) {op : UnOp} {t : TypeId} {x : Operand} (ho : o.op = .unOp op t x) (hx : Rep w I O D (ρ x) (a.eval x))
    (h : EvR Sp H (opPg cfg nid (.unOp op t x) ρ) v ups r) : OpOK P cfg cx H D w I O nid o a v ups := by
  simp only [opPg] at h
  split at h
  · rename_i b e
    rw [e] at hx
    obtain ⟨rfl, rfl⟩ := h.ret1_inv
    refine OpOK.of_pure (x := .bool _) hR ?_ (.pure (.bool _))
    simp [execOp, ho, hx.bool_inv, Op.unary]
  · rename_i k n e
    rw [e] at hx
    obtain ⟨hk1, h1⟩ := h.chk_inv
    have hk : k = .i64 := by simpa [kindEq] using hk1
    subst hk
    obtain ⟨hp, rfl, rfl⟩ := h1.need1_inv
    refine OpOK.of_pure (x := .int .i64 _) hR ?_ (.pure (.int _ _))
    simp [execOp, ho, hx.int_inv, Op.unary, Op.intArith, wrap_i64 hp]
  · exact (EvR.fail_inv h).elim

theorem op_convert (hc : CfgOK P cfg) (hR : Rel cfg cx H D w I O) {s d : TypeId} {x : Operand} (ho : o.op = .convert s d x) (hx : Rep w I O D (ρ x) (a.eval x))
    (h : EvR Sp H (opPg cfg nid (.convert s d x) ρ) v ups r) : OpOK P cfg cx H D w I O nid o a v ups := by
  simp only [opPg] at h
  obtain ⟨ts, hs, h1⟩ := h.ty_inv
  obtain ⟨td, hd, h2⟩ := h1.ty_inv
  obtain ⟨_, ds, _, _, hus, _⟩ := (hc.ty s ts hs).ex
  obtain ⟨_, dd, _, _, hud, _, _, _, _, _, _, _, hm⟩ := (hc.ty d td hd).ex
  split at h2
  · rename_i k k' n e1 e2
    rw [e2] at hx
    rw [e1] at hm
    have hm : dd = .int k := hm
    subst hm
    obtain ⟨rfl, rfl⟩ := h2.ret1_inv
    refine OpOK.of_pure (x := .int k _) hR ?_ (.pure (.int _ _))
    simp [execOp, ho, hx.int_inv, convert, run_underlying' hus, run_underlying' hud, Conv.intToInt]
  · exact (EvR.fail_inv h2).elim

theorem op_nilCheck (hR : Rel cfg cx H D w I O) {x : Operand} (ho : o.op = .nilCheck x) (hx : Rep w I O D (ρ x) (a.eval x))
    (h : EvR Sp H (opPg cfg nid (.nilCheck x) ρ) v ups r) : OpOK P cfg cx H D w I O nid o a v ups := by
  simp only [opPg] at h
  split at h
  · rename_i ob i off e
    rw [e] at hx
    obtain ⟨obj, _, hob, h1⟩ := h.rd_inv
    obtain ⟨rfl, rfl⟩ := h1.ret1_inv
    cases hp : O ob with
    | none => rw [(hR.dom ob).1 hp] at hob; cases hob
    | some p =>
      obtain ⟨b, bo, sz, h1, h2, h3⟩ := hx.ptr_inv hp
      exact OpOK.of_pure hR (by simp [execOp, ho, h3]) (h3 ▸ hx)
  · rename_i cs e
    rw [e] at hx
    obtain ⟨rfl, rfl⟩ := h.ret1_inv
    generalize hxe : a.eval x = xv at hx
    have hx0 := hx
    cases hx.ro_inv
    exact OpOK.of_pure hR (by simp [execOp, ho, hxe]) hx0
  · rename_i f cs e
    rw [e] at hx
    obtain ⟨rfl, rfl⟩ := h.ret1_inv
    obtain ⟨vs, h1, h2, h3⟩ := hx.fn_inv
    exact OpOK.of_pure hR (by simp [execOp, ho, h1]) (h1 ▸ hx)
  · exact (EvR.fail_inv h).elim

theorem op_extract (hR : Rel cfg cx H D w I O) {t : Operand} {i : Nat} (ho : o.op = .extract t i) (hx : Rep w I O D (ρ t) (a.eval t))
    (h : EvR Sp H (opPg cfg nid (.extract t i) ρ) v ups r) : OpOK P cfg cx H D w I O nid o a v ups := by
  simp only [opPg] at h
  split at h
  · rename_i vs e
    rw [e] at hx
    obtain ⟨hl, h1⟩ := h.chk_inv
    obtain ⟨rfl, rfl⟩ := h1.ret1_inv
    obtain ⟨xs, h1, h2, h3⟩ := hx.tup_inv
    have hl : i < vs.length := by simpa using hl
    have hi : i < xs.size := by omega
    refine OpOK.of_pure (x := xs.getD i Go.undef) hR ?_ (h3 i hl)
    simp [execOp, ho, h1, Instr.extract, Array.getElem?_eq_getElem hi]
  · exact (EvR.fail_inv h).elim

theorem rep_map {l : List Operand} (h : ∀ x ∈ l, Rep w I O D (ρ x) (a.eval x)) : ∀ j, j < (l.map ρ).length → Rep w I O D (nth (l.map ρ) j) ((l.map a.eval).toArray.getD j Go.undef) := by
  intro j hj
  have hj' : j < l.length := by simpa using hj
  rw [nth_eq]
  simp [hj']
  exact h _ (List.getElem_mem hj')

theorem op_makeFunc (hR : Rel cfg cx H D w I O) {fn : Fn} {first cap : Array Operand} (ho : o.op = .makeFunc fn first cap) (hx : ∀ x ∈ cap.toList, Rep w I O D (ρ x) (a.eval x))
    (h : EvR Sp H (opPg cfg nid (.makeFunc fn first cap) ρ) v ups r) : OpOK P cfg cx H D w I O nid o a v ups := by
  simp only [opPg] at h
  split at h
  · rename_i f e
    obtain ⟨rfl, rfl⟩ := h.ret1_inv
    have hf : first = #[] := by simpa using e
    subst hf
    refine OpOK.of_pure (x := .func (.func f) #[] (cap.map a.eval)) hR (by simp [execOp, ho, Instr.makeFunc]) (.fn (by simp) fun j hj => ?_)
    have := rep_map hx j hj
    simpa using this
  · exact (EvR.fail_inv h).elim

theorem op_len (hc : CfgOK P cfg) (hR : Rel cfg cx H D w I O) {c : Call} (ho : o.op = .call c) (hcl : c.callee = .builtin .len) (hx : ∀ x ∈ c.args.toList, Rep w I O D (ρ x) (a.eval x))
    (h : EvR Sp H (opPg cfg nid (.call c) ρ) v ups r) : OpOK P cfg cx H D w I O nid o a v ups := by
  simp only [opPg, hcl] at h
  split at h
  · rename_i u t e1 e2
    obtain ⟨ti, ht, h1⟩ := h.ty_inv
    obtain ⟨x, hxe⟩ : ∃ x, c.args = #[x] := by
      match hl : c.args.toList with
      | [] => simp [hl] at e1
      | [x] => exact ⟨x, by rw [← Array.toList_inj]; simpa using hl⟩
      | x :: y :: l => simp [hl] at e1
    have e1' : ρ x = u := by simpa [hxe] using e1
    have hx' : Rep w I O D u (a.eval x) := e1' ▸ hx x (by simp [hxe])
    have hte : c.argTypes = #[t] := by rw [← Array.toList_inj]; simpa using e2
    obtain ⟨_, dd, _, _, hud, _, _, _, _, _, _, _, hm⟩ := (hc.ty t ti ht).ex
    split at h1
    · rename_i e
      rw [e] at hm
      have hm : dd = .slice _ := hm
      subst hm
      obtain ⟨rfl, rfl⟩ := h1.ret1_inv
      generalize hxv : a.eval x = xv at hx'
      cases hx'.sl_inv
      refine OpOK.of_pure (x := .int .i64 _) hR ?_ (.pure (.int _ _))
      simp [execOp, ho, hcl, resolve, invoke, builtin, Builtin.len_, hxe, hte, hxv, run_underlying' hud, goInt]
    · rename_i ob i n f _ e
      rw [e] at hm
      have hm : dd = .slice _ := hm
      subst hm
      obtain ⟨obj, _, hob, h2⟩ := h1.rd_inv
      obtain ⟨rfl, rfl⟩ := h2.ret1_inv
      cases hp : O ob with
      | none => rw [(hR.dom ob).1 hp] at hob; cases hob
      | some p =>
        obtain ⟨aa, cap, hxv, _⟩ := hx'.osl_inv hp
        refine OpOK.of_pure (x := .int .i64 _) hR ?_ (.pure (.int _ _))
        simp [execOp, ho, hcl, resolve, invoke, builtin, Builtin.len_, hxe, hte, hxv, run_underlying' hud, goInt]
    · rename_i s e
      rw [e] at hm
      have hm : dd = .string := hm
      subst hm
      obtain ⟨rfl, rfl⟩ := h1.ret1_inv
      refine OpOK.of_pure (x := .int .i64 _) hR ?_ (.pure (.int _ _))
      simp [execOp, ho, hcl, resolve, invoke, builtin, Builtin.len_, hxe, hte, hx'.str_inv, run_underlying' hud, goInt]
    · exact (EvR.fail_inv h1).elim
  · exact (EvR.fail_inv h).elim

theorem args2 {c : Call} {u u' : AV} (e : c.args.toList.map ρ = [u, u']) : ∃ x y, c.args = #[x, y] ∧ ρ x = u ∧ ρ y = u' := by
  match hl : c.args.toList with
  | [] => simp [hl] at e
  | [x] => simp [hl] at e
  | [x, y] =>
    rw [hl] at e
    simp at e
    exact ⟨x, y, by rw [← Array.toList_inj]; simpa using hl, e.1, e.2⟩
  | x :: y :: z :: l => simp [hl] at e

theorem op_min (hR : Rel cfg cx H D w I O) {c : Call} (ho : o.op = .call c) (hcl : c.callee = .builtin .min) (hx : ∀ x ∈ c.args.toList, Rep w I O D (ρ x) (a.eval x))
    (h : EvR Sp H (opPg cfg nid (.call c) ρ) v ups r) : OpOK P cfg cx H D w I O nid o a v ups := by
  simp only [opPg, hcl] at h
  split at h
  · rename_i k n k' n' e
    obtain ⟨rfl, rfl⟩ := h.ret1_inv
    obtain ⟨x, y, hxy, e1, e2⟩ := args2 e
    have h1 := e1 ▸ hx x (by simp [hxy])
    have h2 := e2 ▸ hx y (by simp [hxy])
    refine OpOK.of_pure (x := .int k _) hR ?_ (.pure (.int _ _))
    simp [execOp, ho, hcl, resolve, invoke, builtin, Builtin.min_, Builtin.min2, hxy, h1.int_inv, h2.int_inv]
  · exact (EvR.fail_inv h).elim

theorem op_max (hR : Rel cfg cx H D w I O) {c : Call} (ho : o.op = .call c) (hcl : c.callee = .builtin .max) (hx : ∀ x ∈ c.args.toList, Rep w I O D (ρ x) (a.eval x))
    (h : EvR Sp H (opPg cfg nid (.call c) ρ) v ups r) : OpOK P cfg cx H D w I O nid o a v ups := by
  simp only [opPg, hcl] at h
  split at h
  · rename_i k n k' n' e
    obtain ⟨rfl, rfl⟩ := h.ret1_inv
    obtain ⟨x, y, hxy, e1, e2⟩ := args2 e
    have h1 := e1 ▸ hx x (by simp [hxy])
    have h2 := e2 ▸ hx y (by simp [hxy])
    refine OpOK.of_pure (x := .int k _) hR ?_ (.pure (.int _ _))
    simp [execOp, ho, hcl, resolve, invoke, builtin, Builtin.max_, Builtin.max2, hxy, h1.int_inv, h2.int_inv]
  · exact (EvR.fail_inv h).elim

/-- A struct type's field, in the program. -/
theorem CfgOK.field (hc : CfgOK P cfg) {s : TypeId} {ts : TyI} {f oo t : Nat} (h : look cfg.ty s = some ts) (hf : fieldOf ts f = some (oo, t)) :
    ∃ fields fd, P.underlying s = some (.struct fields) ∧ fields[f]? = some fd ∧ fd.offset = oo ∧ fd.type = t := by
  obtain ⟨_, dd, _, _, hud, _, _, _, _, _, _, _, hm⟩ := (hc.ty s ts h).ex
  unfold fieldOf at hf
  split at hf
  · rename_i fs e
    rw [e] at hm
    obtain ⟨fields, rfl, hfs⟩ := hm
    subst hfs
    have key : ∀ (l : List Field) (f : Nat), nthF (l.map fun f => (f.offset, f.type)) f = some (oo, t) → ∃ fd, l[f]? = some fd ∧ fd.offset = oo ∧ fd.type = t := by
      intro l
      induction l with
      | nil => intro f h; simp [nthF] at h
      | cons x l ih =>
        intro f h
        cases f with
        | zero => simp [nthF] at h; exact ⟨x, rfl, h.1, h.2⟩
        | succ f => simp only [List.map_cons, nthF] at h; simpa using ih f h
    obtain ⟨fd, h1, h2, h3⟩ := key _ _ hf
    exact ⟨fields, fd, hud, by simpa using h1, h2, h3⟩
  · cases hf

theorem add_mid' (b bo j : Nat) : (⟨b, bo, none⟩ : Addr).add j = ⟨b, bo + j, none⟩ := Addr.add_mid b bo j

theorem nth_drop (l : List AV) (k j : Nat) : nth (l.drop k) j = nth l (k + j) := by
  simp [nth_eq]

theorem op_fieldAddr (hc : CfgOK P cfg) (hR : Rel cfg cx H D w I O) {s : TypeId} {x : Operand} {f : Nat} (ho : o.op = .fieldAddr s x f) (hx : Rep w I O D (ρ x) (a.eval x))
    (h : EvR Sp H (opPg cfg nid (.fieldAddr s x f) ρ) v ups r) : OpOK P cfg cx H D w I O nid o a v ups := by
  simp only [opPg] at h
  obtain ⟨ts, hs, h1⟩ := h.ty_inv
  split at h1
  · rename_i oo t hf
    obtain ⟨ti, ht, h2⟩ := h1.ty_inv
    obtain ⟨hpos, h3⟩ := h2.chk_inv
    have hpos : 0 < ti.size := by simpa using hpos
    obtain ⟨fields, fd, hu, hfd, ho1, ho2⟩ := hc.field hs hf
    obtain ⟨i, _, _, hi, _, _, hsz, _⟩ := (hc.ty t ti ht).ex
    have hne : ¬ i.size = 0 := by omega
    have place : ∀ b bo, (Instr.fieldAt s (.pointer (some ⟨b, bo, none⟩)) f).run P w = .ok (.pointer (some ⟨b, bo + oo, none⟩)) w := by
      intro b bo
      simp [Instr.fieldAt, Instr.sureAddr, run_underlying' hu, hfd, fieldPlace, ho1, ho2, run_sizeOf' hi, hne, Addr.add_mid]
    split at h3
    · rename_i ob i off e
      rw [e] at hx
      obtain ⟨obj, _, hob, h4⟩ := h3.rd_inv
      obtain ⟨rfl, rfl⟩ := h4.ret1_inv
      cases hp : O ob with
      | none => rw [(hR.dom ob).1 hp] at hob; cases hob
      | some p =>
        obtain ⟨b, bo, sz, h5, h6, h7⟩ := hx.ptr_inv hp
        refine OpOK.of_pure (x := .pointer (some ⟨b, bo + (i * p.es + (off + oo)), none⟩)) hR ?_ (.ptr hp h5 h6)
        have : bo + (i * p.es + off) + oo = bo + (i * p.es + (off + oo)) := by omega
        simp [execOp, ho, h7, place, this]
    · rename_i cs e
      rw [e] at hx
      obtain ⟨rfl, rfl⟩ := h3.ret1_inv
      generalize hxv : a.eval x = xv at hx
      cases hx.ro_inv with
      | ro b off vs hI hm hr =>
        refine OpOK.of_pure (x := .pointer (some ⟨b, off + oo, none⟩)) hR (by simp [execOp, ho, hxv, place]) (.pure (.ro b (off + oo) (fun j => vs (oo + j)) hI (fun j hj => ?_) fun j hj => ?_))
        · have := hm (oo + j) (by simp at hj; omega)
          rw [← this, Nat.add_assoc]
        · rw [nth_drop]; exact hr (oo + j) (by simp at hj; omega)
    · exact (EvR.fail_inv h3).elim
  · exact (EvR.fail_inv h1).elim

end
end Go.Ab

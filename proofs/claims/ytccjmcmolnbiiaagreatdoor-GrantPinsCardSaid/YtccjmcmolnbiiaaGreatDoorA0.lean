/- An abstract machine over the model's code, that it is sound; models of the functions and their proofs. -/
import Derived.Orders
import Derived.Laws.IdiomCopy
import Derived.Laws.Cells
import Derived.Laws.Sem
import Derived.Deep.MidRow
import Derived.Laws.StructEq
import Derived.ChangeKeysEq
import Derived.IntWalk
set_option linter.unusedVariables false
set_option linter.unusedSimpArgs false
namespace Go.Ab
theorem om {p : Prop} (h : p := by omega) : p := h
inductive AV where
 | undef
 | bool (b:Bool)
 | int (k:IntKind) (n:Int)
 | str (s:ByteArray)
 | sl (es n:Nat) (full:Bool) (g:Nat→AV)
 | ro (cs:List AV)
 | agg (cs:List AV)
 | ptr (o i off:Nat)
 | osl (o i n:Nat) (full:Bool)
 | fn (f:FuncId) (caps:List AV)
 | tup (vs:List AV)
 | nilp
 | mref (o:Nat)
inductive ZK where
 | bool | int (k:IntKind) | str | slice | ptr | other
 deriving DecidableEq
inductive TD where
 | bool | int (k:IntKind) | str | slice (e:TypeId) | struct (fs:List (Nat×Nat)) | pointer (e:TypeId) | map (k e:TypeId) | array (n:Nat) (e:TypeId) | other
 deriving DecidableEq
inductive lu where
 | s (b:ByteArray)
 | i (n:Int)
 deriving DecidableEq
inductive AObj where
 | box (cs:List AV)
 | row (es n:Nat) (g:Nat→AV)
 | map (kd:TD) (z:List ZK) (f:lu→Option Int)
structure TyI where
 size:Nat
 agg:Bool
 bytes:Nat
 zero:List ZK
 desc:TD
 deriving DecidableEq
structure FnI where
 muts:List Nat:=[]
 frz:Bool:=false
structure Cfg where
 ty:List (Nat×TyI)
 eqs:List (Nat×List ZK):=[]
 fns:List (Nat×FnI)
 glob:List (Nat×List AV)
def look {α:Type}:List (Nat×α)→Nat→Option α
 | [],_=>none
 | (k,v)::l,t=>match Nat.beq k t with | true=>some v | false=>look l t
def tget (T:List (Nat×AV)) (t:Nat):AV:=
 match look T t with | some v=>v | none=>.undef
def hget (H:List (Nat×Option AObj)) (o:Nat):Option AObj:=
 match look H o with | some (some x)=>some x | _=>none
abbrev Ups:=List (Nat×Option AObj)
inductive Pg where
 | ret (v:AV) (ups:Ups)
 | need (p:Prop) [d:Decidable p] (k:Pg)
 | rd (o:Nat) (k:AObj→Pg)
 | call (f:FuncId) (args:List AV) (obs:List AObj) (k:AV→List AObj→Pg)
 | fail
def stride:Nat:=8
def nilG:Nat→AV:=fun _=>.undef
def ofConst:Value→AV
 | .bool b=>.bool b
 | .int k n=>.int k n
 | .string s=>.str s
 | .slice none 0 0=>.sl 0 0 true nilG
 | .pointer none=>.nilp
 | _=>.undef
def ofZ:ZK→AV
 | .bool=>.bool false
 | .int k=>.int k 0
 | .str=>.str ByteArray.empty
 | .slice=>.sl 0 0 true nilG
 | .ptr=>.nilp
 | .other=>.undef
def ofZs:List ZK→List AV
 | []=>[]
 | z::l=>ofZ z::ofZs l
def AV.cells:AV→List AV
 | .agg cs=>cs
 | v=>[v]
def nth:List AV→Nat→AV
 | [],_=>.undef
 | v::_,0=>v
 | _::l,n+1=>nth l n
def putL:Nat→List AV→List AV→List AV
 | _,[],l=>l
 | 0,v::new,_::l=>v::putL 0 new l
 | n+1,new,x::l=>x::putL n new l
 | _,_,[]=>[]
def okCell:AV→Bool
 | .undef | .agg _ | .tup _=>false
 | _=>true
def okCells:List AV→Bool
 | []=>true
 | v::l=>match okCell v with | true=>okCells l | false=>false
def cellsK (v:AV) (k:List AV→Pg):Pg:=
 match v.cells with
 | cs=>match okCells cs with | true=>k cs | false=>.fail
def chkK (b:Bool) (k:Pg):Pg:=match b with | true=>k | false=>.fail
def forceL:List AV→(List AV→Prop)→Prop
 | [],K=>K []
 | v::l,K=>forceL l (fun l'=>
  match v with
  | .undef=>K (.undef::l') | .bool b=>K (.bool b::l') | .int k n=>K (.int k n::l') | .str s=>K (.str s::l')
  | .sl es n f g=>K (.sl es n f g::l') | .ro cs=>K (.ro cs::l') | .agg cs=>K (.agg cs::l') | .ptr o i off=>K (.ptr o i off::l')
  | .osl o i n f=>K (.osl o i n f::l') | .fn f caps=>K (.fn f caps::l') | .tup vs=>K (.tup vs::l') | .nilp=>K (.nilp::l') | .mref o=>K (.mref o::l'))
def force (v:AV) (K:AV→Prop):Prop:=
 match v with
 | .undef=>K .undef | .bool b=>K (.bool b) | .int k n=>K (.int k n) | .str s=>K (.str s)
 | .sl es n f g=>K (.sl es n f g)
 | .ro cs=>forceL cs fun cs'=>K (.ro cs')
 | .agg cs=>forceL cs fun cs'=>K (.agg cs')
 | .ptr o i off=>K (.ptr o i off) | .osl o i n f=>K (.osl o i n f)
 | .fn f caps=>forceL caps fun cs'=>K (.fn f cs')
 | .tup vs=>forceL vs fun cs'=>K (.tup cs')
 | .nilp=>K .nilp
 | .mref o=>K (.mref o)
def forceUps:Ups→(Ups→Prop)→Prop
 | [],K=>K []
 | (o,none)::l,K=>forceUps l fun l'=>K ((o,none)::l')
 | (o,some (.row es n g))::l,K=>forceUps l fun l'=>K ((o,some (.row es n g))::l')
 | (o,some (.map kd z f))::l,K=>forceUps l fun l'=>K ((o,some (.map kd z f))::l')
 | (o,some (.box cs))::l,K=>forceL cs fun cs'=>forceUps l fun l'=>K ((o,some (.box cs'))::l')
def InI64 (n:Int):Prop := -9223372036854775808≤n∧n≤9223372036854775807
instance (n:Int):Decidable (InI64 n):=inferInstanceAs (Decidable (_∧_))
def addN:Nat→Nat→Nat
 | 0,k=>k
 | n+1,k=>n+1+k
def shiftG (i:Nat) (g:Nat→AV):Nat→AV:=match i with | 0=>g | n+1=>fun j=>g (n+1+j)
def listG (l:List AV):Nat→AV:=fun i=>nth l i
def appG (n:Nat) (g h:Nat→AV):Nat→AV:=fun j=>bif Nat.blt j n then g j else h (j - n)
def setG (g:Nat→AV) (i:Nat) (v:AV):Nat→AV:=fun j=>bif Nat.beq j i then v else g j
def pur:Nat→AV→(AV→List Nat→Pg)→Pg
 | 0,_,_=>.fail
 | _+1,.osl o i n full,k=>.rd o fun
  | .row es _ g=>k (.sl es n full (shiftG i g)) [o]
  | _=>.fail
 | f+1,.ptr o i off,k=>match i with
  | 0=>.rd o fun
   | .box cs=>purL f (cs.drop off) fun cs' ids=>k (.ro cs') (o::ids)
   | _=>.fail
  | _+1=>.fail
 | f+1,.agg cs,k=>purL f cs fun cs' ids=>k (.agg cs') ids
 | f+1,.tup cs,k=>purL f cs fun cs' ids=>k (.tup cs') ids
 | f+1,.fn fn cs,k=>purL f cs fun cs' ids=>k (.fn fn cs') ids
 | _+1,.mref _,_=>.fail
 | _+1,v,k=>k v []
 where purL:Nat→List AV→(List AV→List Nat→Pg)→Pg
 | 0,_,_=>.fail
 | _+1,[],k=>k [] []
 | f+1,v::l,k=>pur f v fun v' i1=>purL f l fun l' i2=>k (v'::l') (i1++i2)
def fuel:Nat:=100
def dead:List Nat→Ups
 | []=>[]
 | o::l=>(o,none)::dead l
def need1 (p:Prop) [Decidable p] (v:AV):Pg:=.need p (.ret v [])
def ret1 (v:AV):Pg:=.ret v []
def loadPg (ti:TyI) (cs:List AV):Pg:=
 match ti.agg with
 | true=>chkK (Nat.ble ti.size cs.length) (ret1 (.agg (cs.take ti.size)))
 | false=>match cs with
  | v::_=>ret1 v
  | []=>.fail
def arith (op:BinOp) (a b:Int):Pg:=
 match op with
 | .add=>need1 (InI64 (a+b)) (.int .i64 (a+b))
 | .sub=>need1 (InI64 (a - b)) (.int .i64 (a - b))
 | .mul=>need1 (InI64 (a*b)) (.int .i64 (a*b))
 | .quo=>need1 (b≠0∧InI64 (a.tdiv b)) (.int .i64 (a.tdiv b))
 | .rem=>need1 (b≠0) (.int .i64 (a.tmod b))
 | _=>.fail
def cmpI (op:BinOp) (a b:Int):Pg:=
 match op with
 | .eql=>ret1 (.bool (a==b))
 | .neq=>ret1 (.bool (a != b))
 | .lss=>ret1 (.bool (decide (a<b)))
 | .leq=>ret1 (.bool (decide (a≤b)))
 | .gtr=>ret1 (.bool (decide (b<a)))
 | .geq=>ret1 (.bool (decide (b≤a)))
 | _=>.fail
def isArith:BinOp→Bool
 | .add | .sub | .mul | .quo | .rem=>true
 | _=>false
def arithW (k:IntKind) (op:BinOp) (a b:Int):Pg:=
 match op with
 | .add=>ret1 (.int k (k.wrap (a+b)))
 | .sub=>ret1 (.int k (k.wrap (a - b)))
 | .mul=>ret1 (.int k (k.wrap (a*b)))
 | _=>.fail
def andI (k:IntKind) (a b:Int):Int:=k.wrap (BitVec.ofInt k.bits a &&& BitVec.ofInt k.bits b).toNat
def shrI (k:IntKind) (a b:Int):Int:=a.fdiv (2 ^ min b.toNat k.bits)
def Wm (k:IntKind) (a b:Int):Int:=k.wrap (BitVec.ofInt k.bits a ||| BitVec.ofInt k.bits b).toNat
def Ul (k:IntKind) (a b:Int):Int:=k.wrap (a*2 ^ min b.toNat k.bits)
def Wn:BinOp→Bool
 | .shl=>true
 | _=>false
def kindEq (a b:IntKind):Bool:=decide (a=b)
def eqZ:List ZK→List AV→List AV→Option Bool
 | [],[],[]=>some true
 | .int k::zs,.int k1 a::l,.int k2 b::m=>match kindEq k k1,kindEq k k2,eqZ zs l m with
  | true,true,some r=>some ((a==b)&&r)
  | _,_,_=>none
 | .bool::zs,.bool a::l,.bool b::m=>match eqZ zs l m with
  | some r=>some ((a==b)&&r)
  | none=>none
 | .str::zs,.str a::l,.str b::m=>match eqZ zs l m with
  | some r=>some ((a.toList==b.toList)&&r)
  | none=>none
 | _,_,_=>none
def strPg (op:BinOp) (a b:ByteArray):Pg:=
 match op with
 | .add=>need1 (a.size+b.size≤9223372036854775807) (.str (a++b))
 | .eql=>ret1 (.bool (a.toList==b.toList))
 | .neq=>ret1 (.bool (!(a.toList==b.toList)))
 | .lss=>ret1 (.bool (Op.bytesLess a.toList b.toList))
 | .leq=>ret1 (.bool (Op.bytesLess a.toList b.toList||a.toList==b.toList))
 | .gtr=>ret1 (.bool (!(Op.bytesLess a.toList b.toList||a.toList==b.toList)))
 | .geq=>ret1 (.bool (!Op.bytesLess a.toList b.toList))
 | _=>.fail
def pickPg (c:AV) (ea eb:Operand) (a b:AV):Pg:=
 match c with
 | .bool c=>match ea,eb,a,b with
  | _,.const (.bool false),.bool x,_=>ret1 (.bool (c&&x))
  | .const (.bool true),_,_,.bool y=>ret1 (.bool (c||y))
  | _,_,.bool x,.bool y=>ret1 (.bool (bif c then x else y))
  | _,_,.undef,y=>need1 (c=false) y
  | _,_,x,.undef=>need1 (c=true) x
  | _,_,_,_=>.fail
 | _=>.fail
section ops
variable (cfg:Cfg)
def tyK (t:TypeId) (k:TyI→Pg):Pg:=match look cfg.ty t with | some i=>k i | none=>.fail
def elemK (t:TypeId) (k:TyI→Pg):Pg:=match look cfg.ty t with
 | some i=>match i.desc with
  | .slice e=>tyK cfg e k
  | _=>.fail
 | none=>.fail
def binPg (op:BinOp) (t:TypeId) (x y:AV):Pg:=
 match x,y with
 | .int k a,.int k' b=>match Wn op with
  | true=>need1 (0≤b) (.int k (Ul k a b))
  | false=>chkK (kindEq k k') (match isArith op with
  | true=>match kindEq k .i64 with
   | true=>arith op a b
   | false=>arithW k op a b
  | false=>match op with
   | .and=>ret1 (.int k (andI k a b))
   | .or=>ret1 (.int k (Wm k a b))
   | .shr=>need1 (0≤b) (.int k (shrI k a b))
   | _=>cmpI op a b)
 | .bool a,.bool b=>tyK cfg t fun ti=>match ti.desc,op with
  | .bool,.eql=>ret1 (.bool (a==b))
  | .bool,.neq=>ret1 (.bool (!(a==b)))
  | _,_=>.fail
 | .str a,.str b=>strPg op a b
 | .agg cs,.agg cs'=>match look cfg.eqs t with
  | some zs=>match eqZ zs cs cs',op with
   | some r,.eql=>ret1 (.bool r)
   | some r,.neq=>ret1 (.bool (!r))
   | _,_=>.fail
  | none=>.fail
 | _,_=>.fail
def nthF:List (Nat×Nat)→Nat→Option (Nat×Nat)
 | [],_=>none
 | x::_,0=>some x
 | _::l,n+1=>nthF l n
def fieldOf (ti:TyI) (f:Nat):Option (Nat×Nat):=match ti.desc with
 | .struct fs=>nthF fs f
 | _=>none
def fillS (fs:List (Nat×Nat)):List (Nat×AV)→List AV→(List AV→Pg)→Pg
 | [],cs,k=>k cs
 | (i,v)::rest,cs,k=>match nthF fs i with
  | some (off,t)=>tyK cfg t fun ti=>cellsK v fun vs=>chkK (Nat.beq vs.length ti.size) (chkK (Nat.ble (off+vs.length) cs.length) (fillS fs rest (putL off vs cs) k))
  | none=>.fail
def setNth:Nat→AV→List AV→List AV
 | _,_,[]=>[]
 | 0,v,_::l=>v::l
 | n+1,v,x::l=>x::setNth n v l
def fillE (size:Nat) (agg:Bool):List (Nat×AV)→List AV→(List AV→Pg)→Pg
 | [],es,k=>k es
 | (i,v)::rest,es,k=>chkK (match agg,v with | true,.agg _=>true | true,_=>false | false,.agg _=>false | false,_=>true)
  (cellsK v fun vs=>chkK (Nat.beq vs.length size) (chkK (Nat.blt i es.length) (fillE size agg rest (setNth i v es) k)))
def zeroOf (ti:TyI):AV:=match ti.agg with
 | true=>.agg (ofZs ti.zero)
 | false=>nth (ofZs ti.zero) 0
def zok (ti:TyI):Bool:=match Nat.blt 0 ti.size with
 | true=>match ti.agg with
  | true=>true
  | false=>Nat.beq ti.size 1
 | false=>false
def repE:Nat→AV→List AV
 | 0,_=>[]
 | n+1,z=>z::repE n z
def purParts:List (Nat×AV)→(List (Nat×AV)→List Nat→Pg)→Pg
 | [],k=>k [] []
 | (i,v)::l,k=>pur fuel v fun v' i1=>purParts l fun l' i2=>k ((i,v')::l') (i1++i2)
def aak (s:AV) (f:Int→Pg) (k:Pg):Pg:=match s with
 | .int _ n=>f n
 | _=>k
def zf (full:Bool) (n:Nat):Bool:=match full with
 | true=>match n with
  | 0=>true
  | _+1=>false
 | false=>false
def slicePg (x:AV) (lo hi:Option AV) (hasMax full3:Bool):Pg:=
 match lo,hi with
 | none,none=>chkK (!hasMax) (match x with
  | .sl es n full g=>ret1 (.sl es n full g)
  | .osl o i n full=>ret1 (.osl o i n full)
  | _=>.fail)
 | none,some (.int _ h)=>chkK (!hasMax||full3) (match x with
  | .sl es n full g=>match zf full n with
   | true=>need1 (0≤h∧h≤0) (.sl es 0 true g)
   | false=>need1 (0≤h∧h≤n) (.sl es h.toNat full3 g)
  | .osl o i n _=>need1 (0≤h∧h≤n) (.osl o i h.toNat full3)
  | _=>.fail)
 | some (.int _ l),none=>chkK (!hasMax) (match x with
  | .sl es n full g=>need1 (0≤l∧l≤n) (.sl es (n - l.toNat) full (fun j=>g (l.toNat+j)))
  | .osl o i n full=>need1 (0≤l∧l≤n) (.osl o (i+l.toNat) (n - l.toNat) full)
  | _=>.fail)
 | some (.int _ l),some (.int _ h)=>chkK (!hasMax||full3) (match x with
  | .sl es n _ g=>need1 (0≤l∧l≤h∧h≤n) (.sl es (h.toNat - l.toNat) full3 (fun j=>g (l.toNat+j)))
  | .osl o i n _=>need1 (0≤l∧l≤h∧h≤n) (.osl o (i+l.toNat) (h.toNat - l.toNat) full3)
  | _=>.fail)
 | _,_=>.fail
def sameOperand:Option Operand→Option Operand→Bool
 | some (.tmp a),some (.tmp b)=>Nat.beq a b
 | _,_=>false
def maxK (ρ:Operand→AV) (hi mx:Option Operand) (k:Pg):Pg:=
 match mx with
 | none=>k
 | some m=>match hi with
  | none=>.fail
  | some h=>match ρ h,ρ m with
   | .int kk a,.int kk' b=>chkK (kindEq kk kk') (.need (a=b) k)
   | _,_=>.fail
def srcOf (x:AV) (k:Nat→Nat→(Nat→AV)→Pg):Pg:=
 match x with
 | .sl es n _ g=>k es n g
 | .osl o i n _=>.rd o fun
  | .row es _ g=>k es n (shiftG i g)
  | _=>.fail
 | _=>.fail
def isZ:Nat→Bool
 | 0=>true
 | _+1=>false
def esOk (es n size:Nat):Bool:=match Nat.beq es size with | true=>true | false=>isZ n
def big:Nat:=140737488355328
def cpG (i k:Nat) (g h:Nat→AV):Nat→AV:=fun j=>bif Nat.ble i j&&Nat.blt j (i+k) then h (j - i) else g j
def RZ (ti:TyI) (d s:AV):Pg:=
 srcOf s fun es' m h=>chkK (esOk es' m ti.size) (
 match d with
 | .osl o i n _=>.rd o fun
  | .row es N g=>chkK (Nat.beq es ti.size) (.need (i+n+m≤N) (.ret (.osl o i (n+m) false) [(o,some (.row es N (cpG (i+n) m g h)))]))
  | _=>.fail
 | _=>.fail)
def isSelf:AV→AV→Bool
 | .osl o _ _ _,.osl o' _ _ _=>Nat.beq o o'
 | _,_=>false
def Wo (o i n N:Nat) (f:Bool) (lo hi mx:Option AV):Pg:=match mx with
 | some (.int _ m)=>match lo,hi with
  | some (.int _ l),some (.int _ h)=>need1 (0≤l∧l≤h∧h≤m∧m≤n) .undef
  | none,some (.int _ h)=>need1 (0≤h∧h≤m∧m≤0) (.sl 0 0 true nilG)
  | _,_=>.fail
 | some _=>.fail
 | none=>match lo,hi with
  | none,none=>ret1 (.osl o i n f)
  | none,some (.int _ h)=>need1 (0≤h∧(i:Int)+h≤N) (.osl o i h.toNat false)
  | some (.int _ l),none=>need1 (0≤l∧l≤n) (.osl o (i+l.toNat) (n - l.toNat) f)
  | some (.int _ l),some (.int _ h)=>need1 (0≤l∧l≤h∧(i:Int)+h≤N) (.osl o (i+l.toNat) (h.toNat - l.toNat) false)
  | _,_=>.fail
def appendPg (ti:TyI) (nid:Nat) (d s:AV):Pg:=
 srcOf s fun es' m h=>chkK (esOk es' m ti.size) (
 match d with
 | .sl es n full g=>chkK full (match es with
  | 0=>chkK (isZ n) (.need (m*ti.bytes≤big) (.ret (.osl nid 0 m false) [(nid,some (.row ti.size m h))]))
  | es1+1=>chkK (esOk (es1+1) n ti.size) (need1 ((n+m)*ti.bytes≤big) (.sl ti.size (n+m) false (appG n g h))))
 | .osl o i n _=>.rd o fun
  | .row es _ g=>chkK (Nat.beq es ti.size) (.need ((n+m)*ti.bytes≤big) (.ret (.osl nid 0 (n+m) false) [(nid,some (.row es (n+m) (appG n (shiftG i g) h))),(o,none)]))
  | _=>.fail
 | _=>.fail)
def copyPg (ti:TyI) (d s:AV):Pg:=
 srcOf s fun es' m h=>chkK (esOk es' m ti.size) (
 match d with
 | .osl o i n _=>.rd o fun
  | .row es N g=>chkK (Nat.beq es ti.size) (.ret (.int .i64 (Nat.min m n:Nat)) [(o,some (.row es N (cpG i (Nat.min m n) g h)))])
  | _=>.fail
 | _=>.fail)
def idxN:List Nat→Nat→Nat→Option Nat
 | [],_,_=>none
 | a::l,o,j=>match Nat.beq a o with | true=>some j | false=>idxN l o (j+1)
def pureCell:AV→Bool
 | .undef | .bool _ | .int .. | .str _ | .sl .. | .ro _ | .nilp=>true
 | _=>false
def abj:AV→List Nat
 | .ptr o _ _=>[o]
 | .osl o _ _ _=>[o]
 | _=>[]
def S9:List AV→List Nat
 | []=>[]
 | v::l=>abj v++S9 l
def YU (sg:List Nat):List Nat→Bool
 | []=>false
 | o::_=>match idxN sg o 0 with
  | some _=>true
  | none=>false
def Wp (sg:List Nat) (v:AV) (k:AV→Pg):Pg:=match v with
 | .ptr o i off=>match idxN sg o 0 with
  | some j=>k (.ptr j i off)
  | none=>.fail
 | .osl o i n f=>match idxN sg o 0 with
  | some j=>k (.osl j i n f)
  | none=>.fail
 | v=>chkK (pureCell v) (k v)
def Vz (sg:List Nat):List AV→(List AV→Pg)→Pg
 | [],k=>k []
 | v::l,k=>Wp sg v fun v'=>Vz sg l fun l'=>k (v'::l')
def viewArg (sg:List Nat) (v:AV) (k:AV→List Nat→Pg):Pg:=
 match v with
 | .ptr o i off=>match idxN sg o 0 with
  | some j=>k (.ptr j i off) []
  | none=>pur fuel (.ptr o i off) k
 | .osl o i n full=>match idxN sg o 0 with
  | some j=>k (.osl j i n full) []
  | none=>pur fuel (.osl o i n full) k
 | .fn f cs=>match YU sg (S9 cs) with
  | true=>Vz sg cs fun cs'=>k (.fn f cs') []
  | false=>pur fuel (.fn f cs) k
 | v=>pur fuel v k
def viewArgs (sg:List Nat):List AV→(List AV→List Nat→Pg)→Pg
 | [],k=>k [] []
 | v::l,k=>viewArg sg v fun v' i1=>viewArgs sg l fun l' i2=>k (v'::l') (i1++i2)
def rdAll:List Nat→(List AObj→Pg)→Pg
 | [],k=>k []
 | o::l,k=>.rd o fun ob=>rdAll l fun obs=>k (ob::obs)
def sigma (args:List AV):List Nat→List Nat
 | []=>[]
 | p::l=>match nth args p with
  | .ptr o _ _=>o::sigma args l
  | .osl o _ _ _=>o::sigma args l
  | .fn _ cs=>S9 cs++sigma args l
  | _=>sigma args l
def memN:Nat→List Nat→Bool
 | _,[]=>false
 | a,b::l=>match Nat.beq a b with | true=>true | false=>memN a l
def nodupN:List Nat→Bool
 | []=>true
 | a::l=>match memN a l with | true=>false | false=>nodupN l
def noMem1:AV→Bool
 | .bool _ | .int .. | .str _=>true
 | _=>false
def noMemL:List AV→Bool
 | []=>true
 | v::l=>match noMem1 v with | true=>noMemL l | false=>false
def noMemV:AV→Bool
 | .agg vs=>noMemL vs
 | v=>noMem1 v
def noMemT:List AV→Bool
 | []=>true
 | v::l=>match noMemV v with | true=>noMemT l | false=>false
def noMem:AV→Bool
 | .tup vs=>noMemT vs
 | v=>noMemV v
def nthN:List Nat→Nat→Nat
 | [],_=>0
 | a::_,0=>a
 | _::l,n+1=>nthN l n
def F7:AObj→Bool
 | .map .other [] _=>true
 | _=>false
def YV:AObj:=.map .other [] fun _=>none
def gz (x:AObj):Option AObj:=match F7 x with
 | true=>none
 | false=>some x
def zipUps:List Nat→List AObj→Ups
 | o::l,x::m=>(o,gz x)::zipUps l m
 | _,_=>[]
def fnOf (f:FuncId):FnI:=match look cfg.fns f with | some i=>i | none=>{}
def pureCells:List AV→Bool
 | []=>true
 | v::l=>match pureCell v with | true=>pureCells l | false=>false
def pureObj:AObj→Bool
 | .box cs=>pureCells cs
 | .row .. => true
 | .map .. => false
def pureV:AV→Bool
 | .agg vs=>pureCells vs
 | v=>pureCell v
def disjN:List Nat→List Nat→Bool
 | [],_=>true
 | x::l,m=>match memN x m with | true=>false | false=>disjN l m
def aal:AV→List Nat
 | .ptr o _ _=>[o]
 | .osl o _ _ _=>[o]
 | .fn _ cs=>S9 cs
 | _=>[]
def YW:List AV→List Nat
 | []=>[]
 | v::l=>aal v++YW l
def aam:AObj→List Nat
 | .box cs=>YW cs
 | _=>[]
def OP:Nat→List Nat→List Nat→(List Nat→Pg)→Pg
 | 0,_,_,_=>.fail
 | _+1,[],sg,k=>k sg
 | f+1,o::todo,sg,k=>match memN o sg with
  | true=>OP f todo sg k
  | false=>.rd o fun ob=>OP f (todo++aam ob) (sg++[o]) k
def inv1 (sg:List Nat) (v:AV) (k:AV→Pg):Pg:=match v with
 | .ptr o i off=>match idxN sg o 0 with
  | some j=>k (.ptr j i off)
  | none=>.fail
 | .osl o i n f=>match idxN sg o 0 with
  | some j=>k (.osl j i n f)
  | none=>.fail
 | .fn f cs=>Vz sg cs fun cs'=>k (.fn f cs')
 | v=>chkK (pureCell v) (k v)
def Yc (sg:List Nat):List AV→(List AV→Pg)→Pg
 | [],k=>k []
 | v::l,k=>inv1 sg v fun v'=>Yc sg l fun l'=>k (v'::l')
def aan (sg:List Nat) (x:AObj) (k:AObj→Pg):Pg:=match x with
 | .box cs=>Yc sg cs fun cs'=>k (.box cs')
 | .row es n g=>k (.row es n g)
 | .map .. => .fail
def U8 (sg:List Nat):List AObj→(List AObj→Pg)→Pg
 | [],k=>k []
 | x::l,k=>aan sg x fun x'=>U8 sg l fun l'=>k (x'::l')
def Ta (sg:List Nat):AV→AV
 | .ptr j i off=>.ptr (nthN sg j) i off
 | .osl j i n full=>.osl (nthN sg j) i n full
 | v=>v
def Wq (sg:List Nat):List AV→List AV
 | []=>[]
 | v::l=>Ta sg v::Wq sg l
def F8 (sg:List Nat):AV→AV
 | .ptr j i off=>.ptr (nthN sg j) i off
 | .osl j i n full=>.osl (nthN sg j) i n full
 | .fn f cs=>.fn f (Wq sg cs)
 | v=>v
def VA (sg:List Nat):List AV→List AV
 | []=>[]
 | v::l=>F8 sg v::VA sg l
def F9 (sg:List Nat):AV→AV
 | .agg cs=>.agg (VA sg cs)
 | v=>F8 sg v
def Tc (sg:List Nat):List AV→List AV
 | []=>[]
 | v::l=>F9 sg v::Tc sg l
def renR (sg:List Nat):AV→AV
 | .tup vs=>.tup (Tc sg vs)
 | v=>F9 sg v
def QG (sg:List Nat):AObj→AObj
 | .box cs=>.box (VA sg cs)
 | .row es n g=>.row es n g
 | .map kd z f=>.map kd z f
def OQ (sg:List Nat):List AObj→List AObj
 | []=>[]
 | x::l=>QG sg x::OQ sg l
def Yd:AV→Bool
 | .ptr .. | .osl .. => true
 | v=>pureCell v
def okA:List AV→Bool
 | []=>true
 | v::l=>match Yd v with | true=>okA l | false=>false
def Ws:AV→Bool
 | .fn _ cs=>okA cs
 | .agg _ | .tup _ | .mref _=>false
 | _=>true
def Wt:List AV→Bool
 | []=>true
 | v::l=>match Ws v with | true=>Wt l | false=>false
def Wu:AV→Bool
 | .agg cs=>Wt cs
 | v=>Ws v
def U9:List AV→Bool
 | []=>true
 | v::l=>match Wu v with | true=>U9 l | false=>false
def aao:AV→Bool
 | .tup vs=>U9 vs
 | v=>Wu v
def Wv:AObj→Bool
 | .box cs=>Wt cs
 | .row .. => true
 | .map kd z f=>F7 (.map kd z f)
def Va:List AObj→Bool
 | []=>true
 | x::l=>match Wv x with | true=>Va l | false=>false
def jd:Nat→Nat→List Nat
 | 0,_=>[]
 | n+1,i=>i::jd n (i+1)
def callRef (nid:Nat) (f:FuncId) (args:List AV) (sg0:List Nat):Pg:=
 OP 40 sg0 [] fun sg=>chkK (nodupN sg) (rdAll sg fun obs=>U8 sg obs fun VB=>viewArgs sg args fun args' ids=>chkK (disjN ids sg)
  (.call f args' VB fun r obs'=>chkK (Va obs') (chkK (Nat.ble obs'.length (sg.length+stride)) (chkK (aao r)
    (.ret (renR (sg++jd (obs'.length - sg.length) nid) r) (zipUps (sg++jd (obs'.length - sg.length) nid) (OQ (sg++jd (obs'.length - sg.length) nid) obs')++dead ids))))))
def callPg (nid:Nat) (f:FuncId) (args:List AV):Pg:=
 match sigma args (fnOf cfg f).muts with
 | []=>match (fnOf cfg f).frz with
  | false=>viewArgs [] args fun args' _=>.call f args' [] fun r obs'=>match obs' with
   | []=>chkK (noMem r) (ret1 r)
   | _::_=>.fail
  | true=>callRef nid f args []
 | x::sg=>callRef nid f args (x::sg)
def keyOf:AV→Option lu
 | .str b=>some (.s b)
 | .int .i64 n=>some (.i n)
 | _=>none
def aap (z:List ZK) (n:Int):AV:=match z with
 | [.bool]=>.bool (n != 0)
 | [.int k]=>.int k n
 | _=>.undef
def Ze (z:List ZK):AV→Option Int
 | .bool b=>match z with
  | [.bool]=>some (bif b then 1 else 0)
  | _=>none
 | .int k n=>match z with
  | [.int k']=>match decide (k=k') with
   | true=>some n
   | false=>none
  | _=>none
 | _=>none
def R3:List ZK→Bool
 | [.bool]=>true
 | [.int _]=>true
 | _=>false
def wZ (f:lu→Option Int) (k:lu):Int:=(f k).getD 0
def Me (f:lu→Option Int) (k:lu) (n:Int):lu→Option Int:=fun k'=>if k'=k then some n else f k'
def Ww (t:TypeId) (k:TyI→TyI→Pg):Pg:=match look cfg.ty t with
 | some i=>match i.desc with
  | .map kt et=>tyK cfg kt fun ki=>tyK cfg et fun ei=>chkK (!ei.agg) (k ki ei)
  | _=>.fail
 | none=>.fail
def Du (d:TD):lu→Bool
 | .s _=>match d with | .str=>true | _=>false
 | .i _=>match d with | .int .i64=>true | _=>false
def OT:TD→Option (Nat×TypeId)
 | .array n e=>some (n,e)
 | _=>none
def Wx (t:TypeId):Option (Nat×TypeId):=match look cfg.ty t with
 | some i=>OT i.desc
 | none=>none
def Vb (et sz:Nat):Nat→Nat→List (Nat×Nat)
 | 0,_=>[]
 | n+1,k=>(k*sz,et)::Vb et sz n (k+1)
def aaq:AV→Bool
 | .bool b=>b
 | _=>false
def abl:AV→Int
 | .int _ n=>n
 | _=>0
def abm:AV→ByteArray
 | .str s=>s
 | _=>ByteArray.empty
def slN:AV→Nat
 | .sl _ n _ _=>n
 | _=>0
def slG:AV→Nat→AV
 | .sl _ _ _ g=>g
 | _=>fun _=>.undef
def esA:AV→Nat
 | .sl es _ _ _=>es
 | _=>0
def Wy:List ZK→Nat→ZK
 | [],_=>.other
 | z::_,0=>z
 | _::l,n+1=>Wy l n
def Ye (z:ZK) (es:Nat) (c:AV):Bool:=match z,c with
 | .bool,.bool _=>true
 | .int k,.int k' _=>kindEq k k'
 | .str,.str _=>true
 | .slice,.sl es' n _ _=>match Nat.beq es' es with
  | true=>true
  | false=>Nat.beq n 0
 | _,_=>false
def Zf (z:ZK) (es:Nat) (c:AV):AV:=match z with
 | .bool=>.bool (aaq c)
 | .int k=>.int k (abl c)
 | .str=>.str (abm c)
 | .slice=>.sl es (slN c) false (slG c)
 | _=>.undef
def RA (sz j:Nat):Nat→List AV→Nat
 | _,[]=>0
 | k,c::cs=>match Nat.beq (Nat.mod k sz) j with
  | true=>(fun m=>match Nat.ble (esA c) m with | true=>m | false=>esA c) (RA sz j (k+1) cs)
  | false=>RA sz j (k+1) cs
def Yf (zs:List ZK) (sz:Nat) (all:List AV):Nat→List AV→Bool
 | _,[]=>true
 | k,c::cs=>match Ye (Wy zs (Nat.mod k sz)) (RA sz (Nat.mod k sz) 0 all) c with
  | true=>Yf zs sz all (k+1) cs
  | false=>false
def Td (all:List AV) (b sz:Nat):Nat→List ZK→List AV
 | _,[]=>[]
 | j,z::zs=>Zf z (RA sz j 0 all) (nth all (b+j))::Td all b sz (j+1) zs
def Wz (ei:TyI) (n:Nat) (cs:List AV) (i:Int):Pg:=
 chkK (zok ei) (chkK (Nat.beq cs.length (n*ei.size)) (chkK (Nat.beq ei.zero.length ei.size) (chkK (Yf ei.zero ei.size cs 0 cs) (need1 (0≤i∧i<n) (match ei.agg with
  | true=>.agg (Td cs (i.toNat*ei.size) ei.size 0 ei.zero)
  | false=>nth (Td cs (i.toNat*ei.size) ei.size 0 ei.zero) 0)))))
def Um:Nat→List ZK→List ZK
 | 0,_=>[]
 | n+1,z=>z++Um n z
def je:Nat→Nat→(Nat→AV)→List AV
 | 0,_,_=>[]
 | k+1,i,g=>(g i).cells++je k (i+1) g
def Zg:TD→Bool
 | .str=>true
 | _=>false
def Zh:AV→Bool
 | .int .u8 _=>true
 | _=>false
def u8D:TD→Bool
 | .int .u8=>true
 | _=>false
def Dv:Nat→Nat→(Nat→AV)→ByteArray→ByteArray
 | 0,_,_,s=>s
 | k+1,i,g,s=>Dv k (i+1) g (s.push (UInt8.ofNat (match g i with
  | .int _ n=>n.toNat
  | _=>0)))
def R4 (src:TypeId) (x:AV):Pg:=elemK cfg src fun ei=>chkK (u8D ei.desc) (srcOf x fun es n g=>chkK (esOk es n 1) (.need (∀i,i<n→Zh (g i)=true) (ret1 (.str (Dv n 0 g ByteArray.empty)))))
def WA (o n:Nat) (lo hi:Option AV):Pg:=
 match lo,hi with
 | none,none=>ret1 (.osl o 0 n true)
 | none,some (.int _ h)=>need1 (0≤h∧h≤n) (.osl o 0 h.toNat false)
 | _,_=>.fail
def fK (b:ByteArray) (i:Nat):Int:=match b[i]? with
 | some x=>x.toNat
 | none=>0
def Zi (nid:Nat) (t t':TypeId) (d:AV) (k:Int):Pg:=tyK cfg t' fun ti'=>elemK cfg t fun ti=>match ti'.desc,d with
 | .int _,.sl _ n full _=>chkK (zf full n) (chkK (Nat.blt 0 ti.size) (chkK (Nat.blt 0 ti.bytes) (chkK (zok ti) (.need (0<k∧k*ti.bytes≤big) (.ret (.osl nid 0 k.toNat false) [(nid,some (.row ti.size k.toNat (fun _=>zeroOf ti)))])))))
 | _,_=>.fail
def opPg (nid:Nat) (op:Op) (ρ:Operand→AV):Pg:=
 match op with
 | .move x=>ret1 (ρ x)
 | .assign x=>ret1 (ρ x)
 | .pick c a b=>pickPg (ρ c) a b (ρ a) (ρ b)
 | .alloc e=>tyK cfg e fun ti=>match OT ti.desc with
  | some (n,et)=>tyK cfg et fun ei=>chkK (zok ei) (chkK (Nat.blt 0 n) (chkK (decide (ti.zero=Um n ei.zero)) (.ret (.ptr nid 0 0) [(nid,some (.row ei.size n (fun _=>zeroOf ei)))])))
  | none=>.ret (.ptr nid 0 0) [(nid,some (.box (ofZs ti.zero)))]
 | .box _ x=>cellsK (ρ x) fun cs=>.ret (.ptr nid 0 0) [(nid,some (.box cs))]
 | .build t parts=>tyK cfg t fun ti=>match ti.desc with
  | .struct fs=>fillS cfg fs (parts.toList.map fun p=>(p.1,ρ p.2)) (ofZs ti.zero) fun cs=>ret1 (.agg cs)
  | .array n et=>tyK cfg et fun ei=>fillS cfg (Vb et ei.size n 0) (parts.toList.map fun p=>(p.1,ρ p.2)) (ofZs ti.zero) fun cs=>ret1 (.agg cs)
  | _=>.fail
 | .buildSlice t len parts=>elemK cfg t fun ti=>chkK (zok ti) (chkK (Nat.ble (len*ti.size) 4096) (purParts (parts.toList.map fun p=>(p.1,ρ p.2)) fun ps ids=>
   fillE ti.size ti.agg ps (repE len (zeroOf ti)) fun es=>
   .ret (.osl nid 0 len true) ((nid,some (.row ti.size len (listG es)))::dead ids)))
 | .load t a=>tyK cfg t fun ti=>match ρ a with
  | .ptr o i off=>.rd o fun
   | .box cs=>loadPg ti (cs.drop off)
   | .row es n g=>match OT ti.desc with
    | some _=>chkK (isZ i&&isZ off) (loadPg ti (je n 0 g))
    | none=>chkK (Nat.ble (off+ti.size) es) (loadPg ti ((g i).cells.drop off))
   | .map .. => .fail
  | .ro cs=>loadPg ti cs
  | _=>.fail
 | .store t a x=>tyK cfg t fun ti=>match ρ a with
  | .ptr o i off=>.rd o fun
   | .box cs=>cellsK (ρ x) fun vs=>chkK (Nat.beq vs.length ti.size) (chkK (Nat.ble (off+vs.length) cs.length) (.ret .undef [(o,some (.box (putL off vs cs)))]))
   | .row es n g=>match OT ti.desc with
    | some _=>pur fuel (ρ x) fun x' ids=>chkK (!memN o ids) (cellsK x' fun vs=>chkK (Nat.beq vs.length ti.size) (chkK (Nat.beq es 1) (chkK (Nat.beq n ti.size) (chkK (isZ i&&isZ off) (.ret .undef ((o,some (.row 1 n (listG vs)))::dead ids))))))
    | none=>pur fuel (ρ x) fun x' ids=>chkK (!memN o ids) (cellsK x' fun vs=>chkK (Nat.beq vs.length ti.size) (chkK (Nat.blt 0 ti.size) (chkK (Nat.ble (off+vs.length) es)
     (.ret .undef ((o,some (.row es n (setG g i (match isZ off&&Nat.beq vs.length es with
       | true=>x'
       | false=>match g i with
        | .agg cs=>.agg (putL off vs cs)
        | _=>x'))))::dead ids)))))
   | .map .. => .fail
  | _=>.fail
 | .nilCheck x=>match ρ x with
  | .ptr o i off=>.rd o fun _=>ret1 (.ptr o i off)
  | .ro cs=>ret1 (.ro cs)
  | .fn f cs=>ret1 (.fn f cs)
  | _=>.fail
 | .binOp op t x y _=>binPg cfg op t (ρ x) (ρ y)
 | .unOp op _ x=>match op,ρ x with
  | .not,.bool b=>ret1 (.bool (!b))
  | .neg,.int k n=>chkK (kindEq k .i64) (need1 (InI64 (-n)) (.int .i64 (-n)))
  | _,_=>.fail
 | .convert src dst x=>tyK cfg src fun _=>tyK cfg dst fun ti=>match Zg ti.desc with
  | true=>R4 cfg src (ρ x)
  | false=>match ti.desc,ρ x with
   | .int k,.int _ n=>ret1 (.int k (k.wrap n))
   | _,_=>.fail
 | .makeFunc fn first captured=>match fn,first.toList with
  | .func f,[]=>ret1 (.fn f (captured.toList.map ρ))
  | _,_=>.fail
 | .makeSlice t l c=>elemK cfg t fun ti=>match ρ l with
  | .int _ n=>match sameOperand (some l) (some c) with
   | true=>chkK (Nat.blt 0 ti.bytes) (chkK (zok ti) (.need (0≤n∧n*ti.bytes≤big) (.ret (.osl nid 0 n.toNat true) [(nid,some (.row ti.size n.toNat (fun _=>zeroOf ti)))])))
   | false=>match ρ c with
    | .int _ k=>chkK (Nat.blt 0 ti.bytes) (chkK (zok ti) (.need (n=0∧0≤k∧k*ti.bytes≤big) (.ret (.osl nid 0 0 false) [(nid,some (.row ti.size 0 nilG))])))
    | _=>.fail
  | _=>.fail
 | .slice t x lo hi mx=>match Wx cfg t with
  | some (n,et)=>tyK cfg et fun ei=>chkK mx.isNone (match ρ x with
   | .ptr o i off=>.rd o fun
    | .row es n' _=>chkK (isZ i&&isZ off) (chkK (Nat.beq es ei.size) (chkK (Nat.beq n' n) (WA o n (lo.map ρ) (hi.map ρ))))
    | _=>.fail
   | _=>.fail)
  | none=>match ρ x with
  | .osl o i n f=>elemK cfg t fun ti=>.rd o fun
   | .row es N _=>chkK (Nat.beq es ti.size) (Wo o i n N f (lo.map ρ) (hi.map ρ) (mx.map ρ))
   | _=>.fail
  | _=>maxK ρ hi mx<|elemK cfg t fun ti=>match ρ x with
   | .sl es n f g=>chkK (esOk es n ti.size) (slicePg (.sl es n f g) (lo.map ρ) (hi.map ρ) mx.isSome mx.isSome)
   | .osl o i n f=>.rd o fun
    | .row es _ _=>chkK (Nat.beq es ti.size) (slicePg (.osl o i n f) (lo.map ρ) (hi.map ρ) mx.isSome mx.isSome)
    | _=>.fail
   | _=>.fail
 | .fieldAddr s x f=>tyK cfg s fun ts=>match fieldOf ts f with
  | some (o,t)=>tyK cfg t fun ti=>chkK (Nat.blt 0 ti.size) (match ρ x with
   | .ptr ob i off=>.rd ob fun _=>ret1 (.ptr ob i (off+o))
   | .ro cs=>ret1 (.ro (cs.drop o))
   | _=>.fail)
  | none=>.fail
 | .field s x f=>tyK cfg s fun ts=>match fieldOf ts f with
  | some (o,t)=>tyK cfg t fun ti=>match ρ x with
   | .agg cs=>loadPg ti (cs.drop o)
   | _=>.fail
  | none=>.fail
 | .indexAddr t x ix=>match Wx cfg t with
  | some (n,et)=>tyK cfg et fun ei=>match ρ ix,ρ x with
   | .int _ i,.ptr o j off=>.rd o fun
    | .row es n' _=>chkK (isZ j&&isZ off) (chkK (Nat.beq es ei.size) (chkK (Nat.beq n' n) (need1 (0≤i∧i<n) (.ptr o i.toNat 0))))
    | _=>.fail
   | _,_=>.fail
  | none=>elemK cfg t fun ti=>match ρ ix with
  | .int _ i=>match ρ x with
   | .sl es n _ g=>chkK (esOk es n ti.size) (need1 (0≤i∧i<n) (.ro (g i.toNat).cells))
   | .osl o j n _=>.rd o fun
    | .row es _ _=>chkK (Nat.beq es ti.size) (need1 (0≤i∧i<n) (.ptr o (addN j i.toNat) 0))
    | _=>.fail
   | _=>.fail
  | _=>.fail
 | .index t x ix=>tyK cfg t fun ti=>match ti.desc,ρ x,ρ ix with
  | .str,.str b,.int _ i=>need1 (0≤i∧i<b.size) (.int .u8 (fK b i.toNat))
  | .array n et,.agg cs,.int _ i=>tyK cfg et fun ei=>Wz ei n cs i
  | _,_,_=>.fail
 | .makeMap t none=>Ww cfg t fun ki ei=>.ret (.mref nid) [(nid,some (.map ki.desc ei.zero fun _=>none))]
 | .lookup t x ix false=>Ww cfg t fun ki ei=>match ρ x,keyOf (ρ ix) with
  | .mref o,some k=>chkK (Du ki.desc k) (.rd o fun
   | .map kd z f=>chkK (decide (kd=ki.desc)) (chkK (decide (z=ei.zero)) (chkK (R3 z) (ret1 (aap z (wZ f k)))))
   | _=>.fail)
  | _,_=>.fail
 | .mapUpdate t x ix y=>Ww cfg t fun ki ei=>match ρ x,keyOf (ρ ix),Ze ei.zero (ρ y) with
  | .mref o,some k,some n=>chkK (Du ki.desc k) (.rd o fun
   | .map kd z f=>chkK (decide (kd=ki.desc)) (chkK (decide (z=ei.zero)) (chkK (R3 z) (.ret .undef [(o,some (.map kd z (Me f k n)))])))
   | _=>.fail)
  | _,_,_=>.fail
 | .extract t i=>match ρ t with
  | .tup vs=>chkK (Nat.blt i vs.length) (ret1 (nth vs i))
  | _=>.fail
 | .call c=>match c.callee with
  | .builtin .len=>match c.args.toList.map ρ,c.argTypes.toList with
   | [v],[t]=>tyK cfg t fun ti=>match v,ti.desc with
    | .sl _ n _ _,.slice _=>ret1 (.int .i64 n)
    | .osl o _ n _,.slice _=>.rd o fun _=>ret1 (.int .i64 n)
    | .str s,.str=>ret1 (.int .i64 s.size)
    | _,_=>.fail
   | _,_=>.fail
  | .builtin .cap=>match c.args.toList.map ρ,c.argTypes.toList with
   | [.sl _ n true _],[t]=>tyK cfg t fun ti=>match ti.desc with
    | .slice _=>ret1 (.int .i64 n)
    | _=>.fail
   | _,_=>.fail
  | .builtin .append=>match c.args.toList.map ρ,c.argTypes.toList with
   | [d,s],[t,t']=>aak s (Zi cfg nid t t' d)
    (elemK cfg t' fun _=>elemK cfg t fun ti=>chkK (Nat.blt 0 ti.size) (chkK (Nat.blt 0 ti.bytes) (match isSelf d s with | true=>RZ ti d s | false=>appendPg ti nid d s)))
   | _,_=>.fail
  | .builtin .copy=>match c.args.toList.map ρ,c.argTypes.toList with
   | [d,s],[t,t']=>elemK cfg t' fun _=>elemK cfg t fun ti=>chkK (Nat.blt 0 ti.size) (copyPg ti d s)
   | _,_=>.fail
  | .builtin .clear=>match c.args.toList.map ρ,c.argTypes.toList with
   | [.osl o i n _],[t]=>elemK cfg t fun ti=>chkK (zok ti) (.rd o fun
    | .row es N g=>chkK (Nat.beq es ti.size) (.ret .undef [(o,some (.row es N (cpG i n g (fun _=>zeroOf ti))))])
    | _=>.fail)
   | _,_=>.fail
  | .builtin .min=>match c.args.toList.map ρ with
   | [.int k a,.int _ b]=>ret1 (.int k (if b<a then b else a))
   | _=>.fail
  | .builtin .max=>match c.args.toList.map ρ with
   | [.int k a,.int _ b]=>ret1 (.int k (if b > a then b else a))
   | _=>.fail
  | .builtin _=>.fail
  | .value f=>match ρ f with
   | .fn g caps=>callPg cfg nid g (c.args.toList.map ρ++caps)
   | _=>.fail
  | .invoke _ _=>.fail
 | _=>.fail
def rho (T:Nat→AV):Operand→AV
 | .tmp t=>T t
 | .const v=>ofConst v
 | .global g=>match look cfg.glob g with | some cs=>.ro cs | none=>.undef
 | .func f=>.fn f []
end ops
abbrev SpecT:=FuncId→List AV→List AObj→AV→List AObj→Prop
structure Log where
 rds:List Nat
 wrs:List Nat
structure St where
 tmps:List (Nat×AV)
 heap:Ups
 nx:Nat
abbrev PC:=List (Bool×Bool)
def impK:PC→Prop→(Prop→Prop)→Prop
 | [],p,K=>K p
 | (c,b)::l,p,K=>impK l (c=b→p) K
section run
variable (cfg:Cfg) (Sp:SpecT)
def ids:Ups→List Nat
 | []=>[]
 | (o,_)::l=>o::ids l
def ev (pc:PC) (H:Nat→Option AObj):Pg→List Nat→(AV→Ups→List Nat→Prop)→Prop
 | .ret v ups,rds,K=>force v fun v'=>forceUps ups fun ups'=>K v' ups' rds
 | @Pg.need p _ k,rds,K=>impK pc p fun p'=>p'∧ev pc H k rds K
 | .rd o k,rds,K=>match H o with
  | some x=>ev pc H (k x) (o::rds) K
  | none=>impK pc False fun p'=>p'∧K .undef [] rds
 | .call f args obs k,rds,K=>∃r obs',impK pc (Sp f args obs r obs') fun p'=>p'∧ev pc H (k r obs') rds K
 | .fail,rds,K=>impK pc False fun p'=>p'∧K .undef [] rds
def quietOp:Op→Bool
 | .move _ | .assign _ | .pick .. | .build .. | .load .. | .nilCheck _ | .binOp .. | .unOp .. | .convert .. | .makeFunc .. | .slice .. | .fieldAddr .. | .field .. | .indexAddr .. | .index .. | .lookup .. | .extract .. => true
 | .call c=>match c.callee with
  | .builtin .len | .builtin .min | .builtin .max=>true
  | .value (.func f)=>match (fnOf cfg f).muts,(fnOf cfg f).frz with | [],false=>true | _,_=>false
  | _=>false
 | _=>false
def bcase (c:Bool) (A B:Prop):Prop:=match c with | true=>A | false=>B
def nthOp:List Oper→Nat→Option Oper
 | [],_=>none
 | o::_,0=>some o
 | _::l,n+1=>nthOp l n
def dstOf (all:List Oper) (j:Nat):Option Nat:=match nthOp all j with
 | some o=>o.dst
 | none=>none
def catH (ups H:Ups) (K:Ups→Prop):Prop:=
 match ups with
 | []=>K H
 | u::l=>catH l H fun H'=>K (u::H')
def put2 (dst:Option Nat) (v u:AV) (T U:List (Nat×AV)) (K:List (Nat×AV)→List (Nat×AV)→Prop):Prop:=
 match dst with
 | some d=>K ((d,v)::T) ((d,u)::U)
 | none=>K T U
def nthPC:List PC→Nat→PC
 | [],_=>[]
 | p::_,0=>p
 | _::l,n+1=>nthPC l n
def nthPCK:List PC→Nat→(PC→Prop)→Prop
 | [],_,K=>K []
 | p::_,0,K=>K p
 | _::l,n+1,K=>nthPCK l n K
def snocPC:List PC→PC→(List PC→Prop)→Prop
 | [],p,K=>K [p]
 | q::l,p,K=>snocPC l p fun l'=>K (q::l')
def isNone {α:Type}:Option α→Bool
 | none=>true
 | some _=>false
def xops (all:List Oper) (nx:Nat):List Oper→Nat→List (Nat×AV)→List (Nat×AV)→Ups→List PC→List Log→(St→List Log→Prop)→Prop
 | [],i,_,U,H,_,log,K=>K ⟨U,H,nx+stride*i⟩ log
 | o::rest,i,T,U,H,pcs,log,K=>
  match o.guard with
  | none=>ev Sp [] (hget H) (opPg cfg (nx+stride*i) o.op (rho cfg (tget T))) [] fun v ups rds=>
    put2 o.dst v v T U fun T' U'=>catH ups H fun H'=>snocPC pcs [] fun pcs'=>xops all nx rest (i+1) T' U' H' pcs' (⟨rds,ids ups⟩::log) K
  | some (j,b)=>match dstOf all j with
   | some d=>match tget T d with
    | .bool c=>match quietOp cfg o.op with
     | true=>nthPCK pcs j fun pcj=>ev Sp ((c,b)::pcj) (hget H) (opPg cfg (nx+stride*i) o.op (rho cfg (tget T))) [] fun v ups rds=>
      match ups with
      | []=>put2 o.dst v .undef T U fun T' U'=>snocPC pcs ((c,b)::pcj) fun pcs'=>xops all nx rest (i+1) T' U' H pcs' (⟨rds,[]⟩::log) K
      | _::_=>False
     | false=>match nthPC pcs j with
      | []=>bcase (c==b)
       (ev Sp [] (hget H) (opPg cfg (nx+stride*i) o.op (rho cfg (tget T))) [] fun v ups rds=>
         put2 o.dst v v T U fun T' U'=>catH ups H fun H'=>snocPC pcs [] fun pcs'=>xops all nx rest (i+1) T' U' H' pcs' (⟨rds,ids ups⟩::log) K)
       (put2 o.dst .undef .undef T U fun T' U'=>snocPC pcs [(c,b)] fun pcs'=>xops all nx rest (i+1) T' U' H pcs' (⟨[],[]⟩::log) K)
      | _::_=>False
    | _=>False
   | none=>False
def glOf (all:List Oper) (i:Nat):Option (Nat×Bool):=match nthOp all i with
 | some o=>o.guard
 | none=>none
def chain (all:List Oper):Nat→Option (Nat×Bool)→List (Nat×Bool)
 | 0,_=>[]
 | _+1,none=>[]
 | f+1,some (j,b)=>(j,b)::chain all f (glOf all j)
def dstIs (d:Option Nat) (t:Nat):Bool:=match d with
 | some x=>Nat.beq x t
 | none=>false
def writersFrom (t:Nat):List Oper→Nat→List Nat
 | [],_=>[]
 | o::l,i=>match dstIs o.dst t with
  | true=>i::writersFrom t l (i+1)
  | false=>writersFrom t l (i+1)
def writers (all:List Oper) (t:Nat):List Nat:=writersFrom t all 0
def allFree (all:List Oper):List Nat→Bool
 | []=>true
 | i::l=>match glOf all i with
  | none=>allFree all l
  | some _=>false
def eqB:Bool→Bool→Bool
 | true,true=>true
 | false,false=>true
 | _,_=>false
def memG (j:Nat) (b:Bool):List (Nat×Bool)→Bool
 | []=>false
 | (j',b')::l=>match Nat.beq j j',eqB b b' with
  | true,true=>true
  | _,_=>memG j b l
def okRead (all:List Oper) (k:Nat) (g:Option (Nat×Bool)) (t:Nat):Bool:=
 match writers all t with
 | [i]=>match glOf all i with
  | none=>true
  | some (j,b)=>match Nat.blt i k with
   | true=>memG j b (chain all 20 g)
   | false=>false
 | l=>allFree all l
def okArm (all:List Oper) (k:Nat) (g:Option (Nat×Bool)) (c:Operand) (pol:Bool) (x:Operand):Bool:=
 match x with
 | .tmp t=>match okRead all k g t with
  | true=>true
  | false=>match c,writers all t with
   | .tmp ct,[i]=>match glOf all i,writers all ct,Nat.blt i k with
    | some (j,b),[jc],true=>match Nat.beq j jc,Nat.blt jc k with
     | true,true=>eqB b pol
     | _,_=>false
    | _,_,_=>false
   | _,_=>false
 | _=>true
def okOperand (all:List Oper) (k:Nat) (g:Option (Nat×Bool)):Operand→Bool
 | .tmp t=>okRead all k g t
 | _=>true
def okOperands (all:List Oper) (k:Nat) (g:Option (Nat×Bool)):List Operand→Bool
 | []=>true
 | x::l=>match okOperand all k g x with
  | true=>okOperands all k g l
  | false=>false
def okOp (all:List Oper) (k:Nat) (o:Oper):Bool:=
 match (match o.guard with
  | none=>true
  | some (j,_)=>match Nat.blt j k with
   | true=>match dstOf all j with
    | some d=>match writers all d with
         | [j']=>Nat.beq j' j
         | _=>false
    | none=>false
   | false=>false) with
 | true=>match o.op with
  | .pick c x y=>match okOperand all k o.guard c,okArm all k o.guard c true x with
   | true,true=>okArm all k o.guard c false y
   | _,_=>false
  | op=>okOperands all k o.guard op.operands.toList
 | false=>false
def okOpsFrom (N:Nat) (all:List Oper):List Oper→Nat→Bool
 | [],_=>true
 | o::l,k=>match okOp all k o,(match o.dst with | some d=>Nat.blt d N | none=>true) with
  | true,true=>okOpsFrom N all l (k+1)
  | _,_=>false
def before (all:List Oper):Nat→Nat→Nat→Bool
 | 0,_,_=>false
 | f+1,i,j=>match nthOp all j with
  | some o=>o.after.toList.any fun e=>Region.binds .any e&&Nat.blt e.on j&&(Nat.beq e.on i||before all f i e.on)
  | none=>false
def looks (all:List Oper) (o:Oper):List Nat:=
 (o.op.operands.toList.filterMap fun | .tmp t=>some t | _=>none)++(match o.guard with | some (j,_)=>(dstOf all j).toList | none=>[])
def isIn (d:Option Nat) (l:List Nat):Bool:=match d with
 | some x=>memN x l
 | none=>false
def apartT (all:List Oper) (x y:Oper):Bool:=!isIn x.dst (looks all y)&&!isIn y.dst (looks all x)&&!isIn x.dst y.dst.toList
def drawFrom (all:List Oper) (j:Nat) (oj:Oper):List Oper→Nat→Bool
 | [],_=>true
 | o::l,i=>match Nat.blt i j with
  | true=>(apartT all o oj||before all 40 i j)&&drawFrom all j oj l (i+1)
  | false=>true
def edgesLt (o:Oper) (k:Nat):Bool:=o.after.toList.all fun e=>!Region.binds .any e||Nat.blt e.on k
def drawOK (all:List Oper):List Oper→Nat→Bool
 | [],_=>true
 | o::l,j=>edgesLt o j&&drawFrom all j o all 0&&drawOK all l (j+1)
def regOK (N:Nat) (all:List Oper) (draw:Bool):Bool:=okOpsFrom N all all 0&&(!draw||drawOK all all 0)
def codeOK (N:Nat):Code→Bool
 | .region _ ops draw=>regOK N ops.toList draw
 | .seq a b=>codeOK N a&&codeOK N b
 | .cond _ a b=>codeOK N a&&codeOK N b
 | .block _ a=>codeOK N a
 | .loop a=>codeOK N a
 | .rangeFunc _ _ a b=>codeOK N a&&codeOK N b
 | .skip | .exit _ | .ret=>true
 | _=>false
def meets (l m:List Nat):Bool:=match l with
 | []=>false
 | x::l'=>match memN x m with
  | true=>true
  | false=>meets l' m
def chkOne (all:List Oper) (j:Nat) (x:Log):List Log→Nat→Bool
 | [],_=>true
 | _::_,0=>true
 | y::l,i+1=>match meets x.wrs y.rds,meets y.wrs x.rds,meets y.wrs x.wrs with
  | false,false,false=>chkOne all j x l i
  | _,_,_=>match before all 40 i j with
   | true=>chkOne all j x l i
   | false=>false
def chk (all:List Oper):List Log→Nat→Bool
 | [],_=>true
 | _::_,0=>true
 | x::l,j+1=>match chkOne all j x l j with
  | true=>chk all l j
  | false=>false
def firstId:Code→Nat
 | .region id _ _=>id
 | .seq a _=>firstId a
 | .block _ a=>firstId a
 | .loop a=>firstId a
 | _=>1000000
def xcode (ct:List Nat) (L:Code→St→(Exit→St→Prop)→Prop):Code→St→(Exit→St→Prop)→Prop
 | .skip,s,K=>K .normal s
 | .region _ ops draw,⟨T,H,nx⟩,K=>xops cfg Sp ops.toList nx ops.toList 0 T T H [] [] fun s' log=>
  match draw with
  | true=>match chk ops.toList log ops.toList.length with
   | true=>K .normal s'
   | false=>False
  | false=>K .normal s'
 | .seq a b,s,K=>match memN (firstId b) ct with
  | true=>L (.seq a b) s K
  | false=>xcode ct L a s fun e s'=>match e with
   | .normal=>xcode ct L b s' K
   | e=>K e s'
 | .cond c x y,s,K=>match rho cfg (tget s.tmps) c with
  | .bool b=>bcase b (xcode ct L x s K) (xcode ct L y s K)
  | _=>False
 | .block id c,s,K=>xcode ct L c s fun e s'=>match e with
  | .exit i=>match Nat.beq i id with
   | true=>K .normal s'
   | false=>K (.exit i) s'
  | e=>K e s'
 | .loop c,s,K=>L (.loop c) s K
 | .rangeFunc g ps a b,s,K=>L (.rangeFunc g ps a b) s K
 | .exit id,s,K=>K (.exit id) s
 | .ret,s,K=>K .ret s
 | _,_,_=>False
end run
inductive Le:AV→AV→Prop
 | refl (v:AV):Le v v
 | sl {es es' n n':Nat} {f f':Bool} {g g':Nat→AV} (hn:n=n') (he:n≠0→es=es') (hf:f'=true→f=true) (h:∀i,i<n→Le (g i) (g' i)):Le (.sl es n f g) (.sl es' n' f' g')
 | ro {cs cs':List AV} (hl:cs.length=cs'.length) (h:∀j,j<cs.length→Le (nth cs j) (nth cs' j)):Le (.ro cs) (.ro cs')
 | agg {cs cs':List AV} (hl:cs.length=cs'.length) (h:∀j,j<cs.length→Le (nth cs j) (nth cs' j)):Le (.agg cs) (.agg cs')
 | tup {cs cs':List AV} (hl:cs.length=cs'.length) (h:∀j,j<cs.length→Le (nth cs j) (nth cs' j)):Le (.tup cs) (.tup cs')
 | fn {f:FuncId} {cs cs':List AV} (hl:cs.length=cs'.length) (h:∀j,j<cs.length→Le (nth cs j) (nth cs' j)):Le (.fn f cs) (.fn f cs')
def LeL:List AV→List AV→Prop
 | [],[]=>True
 | u::l,v::m=>Le u v∧LeL l m
 | _,_=>False
def LeO:AObj→AObj→Prop
 | .box cs,.box cs'=>LeL cs cs'
 | .row es n g,.row es' n' g'=>es=es'∧n=n'∧∀i,i<n→Le (g i) (g' i)
 | _,_=>False
def LeOs:List AObj→List AObj→Prop
 | [],[]=>True
 | x::l,y::m=>LeO x y∧LeOs l m
 | _,_=>False
def renOf (ρ:List (Nat×Option Nat)) (o:Nat):Option Nat:=match look ρ o with
 | some x=>x
 | none=>some o
def liveB (H:Ups) (o:Nat):Bool:=match hget H o with
 | some _=>true
 | none=>false
def embV (ρ:List (Nat×Option Nat)) (H':Ups):Nat→AV→AV→Prop
 | 0,_,_=>False
 | f+1,u,v=>match v with
  | .undef=>True
  | .bool b'=>match u with | .bool b=>b=b' | _=>False
  | .int k' n'=>match u with | .int k n=>k=k'∧n=n' | _=>False
  | .str s'=>match u with | .str s=>s=s' | _=>False
  | .nilp=>match u with | .nilp=>True | _=>False
  | .mref o'=>match u with | .mref o=>liveB H' o'=true∧renOf ρ o'=some o | _=>False
  | .sl es' n' f' g'=>match u with
   | .sl es n fu g=>n=n'∧(n≠0→es=es')∧(f'=true→fu=true)∧∀i,i<n→Le (g i) (g' i)
   | _=>False
  | .ro cs'=>match u with | .ro cs=>LeL cs cs' | _=>False
  | .ptr o' i' off'=>match u with
   | .ptr o i off=>liveB H' o'=true∧renOf ρ o'=some o∧i=i'∧off=off'
   | _=>False
  | .osl o' i' n' f'=>match u with
   | .osl o i n fu=>liveB H' o'=true∧renOf ρ o'=some o∧i=i'∧n=n'∧(f'=true→fu=true)
   | .sl _ n fu _=>liveB H' o'=true∧renOf ρ o'=none∧fu=true∧n=0∧i'=0∧n'=0
   | _=>False
  | .agg cs'=>match u with | .agg cs=>embL f cs cs' | _=>False
  | .fn f' cs'=>match u with | .fn fu cs=>fu=f'∧embL f cs cs' | _=>False
  | .tup cs'=>match u with | .tup cs=>embL f cs cs' | _=>False
 where
 embL:Nat→List AV→List AV→Prop
  | 0,_,_=>False
  | _+1,[],[]=>True
  | f+1,u::l,v::m=>embV ρ H' f u v∧embL f l m
  | _+1,_,_=>False
def embT (ρ:List (Nat×Option Nat)) (H':Ups) (T:List (Nat×AV)):List (Nat×AV)→Prop
 | []=>True
 | (t,v)::l=>embV ρ H' fuel (tget T t) v∧embT ρ H' T l
def embO (ρ:List (Nat×Option Nat)) (H':Ups) (x y:AObj):Prop:=
 match x,y with
 | .box cs,.box cs'=>embV.embL ρ H' fuel cs cs'
 | .row es n g,.row es' n' g'=>es=es'∧n=n'∧∀i,i<n→Le (g i) (g' i)
 | .map kd z f,.map kd' z' f'=>kd=kd'∧z=z'∧f=f'
 | _,_=>False
def embH (ρ:List (Nat×Option Nat)) (H' H:Ups):Ups→Prop
 | []=>True
 | (_,none)::l=>embH ρ H' H l
 | (o',some y)::l=>(match renOf ρ o' with
  | some o=>match hget H o with
   | some x=>embO ρ H' x y
   | none=>False
  | none=>match y with
   | .row _ n _=>n=0
   | _=>False)∧embH ρ H' H l
def imgs (ρ:List (Nat×Option Nat)):Ups→List Nat
 | []=>[]
 | (_,none)::l=>imgs ρ l
 | (o',some _)::l=>match renOf ρ o' with
  | some o=>o::imgs ρ l
  | none=>imgs ρ l
def keysOK (m nx:Nat) (ρ:List (Nat×Option Nat)):Ups→Bool
 | []=>true
 | (o',_)::l=>match Nat.blt o' nx with
  | true=>match renOf ρ o' with
   | some o=>match Nat.beq o o' with
    | true=>keysOK m nx ρ l
    | false=>match Nat.ble m o' with
     | true=>keysOK m nx ρ l
     | false=>false
   | none=>match Nat.ble m o' with
    | true=>keysOK m nx ρ l
    | false=>false
  | false=>false
def uniqK:Ups→Bool
 | []=>true
 | (o,_)::l=>match look l o with
  | some _=>false
  | none=>uniqK l
def embChk (m:Nat) (ρ:List (Nat×Option Nat)) (s':St):Bool:=
 match keysOK m s'.nx ρ s'.heap,nodupN (imgs ρ s'.heap),uniqK s'.heap with
 | true,true,true=>Nat.ble m s'.nx
 | _,_,_=>false
structure Emb (m:Nat) (ρ:List (Nat×Option Nat)) (s s':St):Prop where
 chk:embChk m ρ s'=true
 tmps:embT ρ s'.heap s.tmps s'.tmps
 heap:embH ρ s'.heap s.heap s'.heap
def upTo:Nat→Nat→List Nat
 | 0,_=>[]
 | n+1,i=>i::upTo n (i+1)
def resAV (cfg:Cfg) (s:St):List ResultVar→Option (List AV)
 | []=>some []
 | .tmp t::l=>match resAV cfg s l with
  | some vs=>some (tget s.tmps t::vs)
  | none=>none
 | .cell ad ty::l=>match resAV cfg s l,tget s.tmps ad,look cfg.ty ty with
  | some vs,.ptr o 0 0,some ti=>match hget s.heap o with
   | some (.box cs)=>match ti.agg with
    | true=>match Nat.ble ti.size cs.length with
     | true=>some (.agg (cs.take ti.size)::vs)
     | false=>none
    | false=>match cs with
     | c::_=>some (c::vs)
     | []=>none
   | some (.row _ n g)=>match OT ti.desc,ti.agg with
    | some _,true=>match je n 0 g with
     | cs=>match Nat.ble ti.size cs.length with
      | true=>some (.agg (cs.take ti.size)::vs)
      | false=>none
    | _,_=>none
   | _=>none
  | _,_,_=>none
def oneOf:List AV→AV
 | [v]=>v
 | vs=>.tup vs
def expo (m:Nat) (r:AV):AV→List Nat
 | .ptr o _ _=>match Nat.ble m o with
  | true=>[o]
  | false=>[]
 | .osl o _ _ _=>match r with
  | .osl .. => match Nat.ble m o with
   | true=>[o]
   | false=>[]
  | _=>[]
 | _=>[]
def embObs (H:Ups):List Nat→List AObj→Prop
 | [],[]=>True
 | o::l,y::ys=>(match hget H o with
  | some x=>match pureObj x with
   | true=>embO [] [] x y
   | false=>False
  | none=>False)∧embObs H l ys
 | _,_=>False
def RetK (cfg:Cfg) (Sp:SpecT) (rs:List ResultVar) (m:Nat) (r:AV) (obs':List AObj) (e:Exit) (s:St):Prop:=
 match (match e with | .normal=>true | .ret=>true | _=>false) with
 | true=>match resAV cfg s rs with
  | some vs=>match oneOf vs with
   | v=>match upTo m 0++expo m r v with
    | sg=>ev Sp [] (hget s.heap) (viewArg sg v fun v' ids=>chkK (nodupN sg) (chkK (disjN ids sg) (ret1 v'))) [] fun v' _ _=>embV [] (obsUps obs' 0) fuel v' r∧embObs s.heap sg obs'
  | none=>False
 | false=>False
 where obsUps:List AObj→Nat→Ups
 | [],_=>[]
 | x::l,i=>(i,some x)::obsUps l (i+1)
def OU:List AObj→Nat→Ups
 | [],_=>[]
 | x::l,i=>(i,gz x)::OU l (i+1)
def argsT:List AV→Nat→List (Nat×AV)
 | [],_=>[]
 | v::l,i=>(i,v)::argsT l (i+1)
end Go.Ab
namespace Go.Ab
inductive PRep (w:World) (I:Nat→Prop):AV→Value→Prop
 | undef (x:Value):PRep w I .undef x
 | bool (b:Bool):PRep w I (.bool b) (.bool b)
 | int (k:IntKind) (n:Int):PRep w I (.int k n) (.int k n)
 | str (s:ByteArray):PRep w I (.str s) (.string s)
 | nilp:PRep w I .nilp (.pointer none)
 | sl {es n:Nat} {full:Bool} {g:Nat→AV} {a:Option Addr} {cap:Nat} (b off:Nat) (vs:Nat→Nat→Value)
   (hcap:n≤cap) (hfull:full=true→cap=n) (ha:n≠0→a=some ⟨b,off,none⟩∧I b)
   (hes:∀i,i<n→(g i).cells.length=es)
   (hm:∀i j,i<n→j<es→w.cell? ⟨b,off+(i*es+j),none⟩=some (vs i j))
   (h1:∀i j,i<n→j<es→(vs i j).oneCell'=true)
   (hr:∀i j,i<n→j<es→PRep w I (nth (g i).cells j) (vs i j)):PRep w I (.sl es n full g) (.slice a n cap)
 | ro {cs:List AV} (b off:Nat) (vs:Nat→Value) (hI:I b)
   (hm:∀j,j<cs.length→w.cell? ⟨b,off+j,none⟩=some (vs j))
   (hr:∀j,j<cs.length→PRep w I (nth cs j) (vs j)):PRep w I (.ro cs) (.pointer (some ⟨b,off,none⟩))
 | agg {cs:List AV} {vs:Array Value} (hl:vs.size=cs.length) (hr:∀j,j<cs.length→PRep w I (nth cs j) (vs.getD j Go.undef)):PRep w I (.agg cs) (.agg vs)
 | fn {f:FuncId} {cs:List AV} {vs:Array Value} (hl:vs.size=cs.length) (hr:∀j,j<cs.length→PRep w I (nth cs j) (vs.getD j Go.undef)):PRep w I (.fn f cs) (.func (.func f) #[] vs)
 | tup {cs:List AV} {vs:Array Value} (hl:vs.size=cs.length) (hr:∀j,j<cs.length→PRep w I (nth cs j) (vs.getD j Go.undef)):PRep w I (.tup cs) (.tuple vs)
structure Own where
 es:Nat
 n:Nat
 pl:Option (Nat×Nat×Nat)
abbrev OM:=Nat→Option Own
inductive Rep (w:World) (I:Nat→Prop) (O:OM) (D:Nat→Prop):AV→Value→Prop
 | pure {v:AV} {x:Value} (h:PRep w I v x):Rep w I O D v x
 | ptr {o i off b bo sz:Nat} {p:Own} (ho:O o=some p) (hp:p.pl=some (b,bo,sz)) (hi:i<p.n):Rep w I O D (.ptr o i off) (.pointer (some ⟨b,bo+(i*p.es+off),none⟩))
 | osl {o i n:Nat} {full:Bool} {p:Own} {a:Option Addr} {cap:Nat} (ho:O o=some p) (hi:i+n≤p.n) (hcap:n≤cap) (hfull:full=true→cap=n)
   (hpl:cap≠0→∃b bo sz,p.pl=some (b,bo,sz)∧a=some ⟨b,bo+i*p.es,none⟩∧bo+(i+cap)*p.es≤sz) (hext:p.n≤i+cap):Rep w I O D (.osl o i n full) (.slice a n cap)
 | mref {o b bo sz:Nat} {p:Own} (ho:O o=some p) (hp:p.pl=some (b,bo,sz)):Rep w I O D (.mref o) (.map (some b))
 | KG {o:Nat} {x:Value} (ho:O o=none) (hd:D o) (h1:x.oneCell'=true):Rep w I O D (.mref o) x
 | deadP {o i off:Nat} {x:Value} (ho:O o=none) (hd:D o) (h1:x.oneCell'=true):Rep w I O D (.ptr o i off) x
 | deadS {o i n:Nat} {full:Bool} {x:Value} (ho:O o=none) (hd:D o) (h1:x.oneCell'=true):Rep w I O D (.osl o i n full) x
 | agg {cs:List AV} {vs:Array Value} (hl:vs.size=cs.length) (hr:∀j,j<cs.length→Rep w I O D (nth cs j) (vs.getD j Go.undef)):Rep w I O D (.agg cs) (.agg vs)
 | fn {f:FuncId} {cs:List AV} {vs:Array Value} (hl:vs.size=cs.length) (hr:∀j,j<cs.length→Rep w I O D (nth cs j) (vs.getD j Go.undef)):Rep w I O D (.fn f cs) (.func (.func f) #[] vs)
 | tup {cs:List AV} {vs:Array Value} (hl:vs.size=cs.length) (hr:∀j,j<cs.length→Rep w I O D (nth cs j) (vs.getD j Go.undef)):Rep w I O D (.tup cs) (.tuple vs)
def Alive (w:World) (b sz:Nat):Prop:=∀j,j<sz→(w.cell? ⟨b,j,none⟩).isSome=true∧w.frozen? ⟨b,j,none⟩=false
def cellAt (w:World) (b j:Nat):Value:=(w.cell? ⟨b,j,none⟩).getD Go.undef
def Ga:lu→Value
 | .s b=>.string b
 | .i n=>.int .i64 n
def NR (z:List ZK) (n:Int):Value:=match z with
 | [.bool]=>.bool (n != 0)
 | [.int k]=>.int k n
 | _=>Go.undef
structure Un (kd:TD) (z:List ZK) (f:lu→Option Int) (es:Array MapEntry):Prop where
 keys:∀e∈es.toList,∃k n,e.key=Ga k∧Du kd k=true∧f k=some n∧e.val=NR z n
 uniq:es.toList.Pairwise fun e e'=>e.key≠e'.key
 all:∀k n,f k=some n→∃e∈es.toList,e.key=Ga k
def ObjRep (w:World) (I:Nat→Prop) (O:OM) (D:Nat→Prop) (p:Own):AObj→Prop
 | .box cs=>p.n=1∧∃b bo sz,p.pl=some (b,bo,sz)∧Alive w b sz∧bo+cs.length≤sz∧∀j,j<cs.length→Rep w I O D (nth cs j) (cellAt w b (bo+j))
 | .row es n g=>p.n=n∧p.es=es∧(∀i,i<n→(g i).cells.length=es)∧((n=0∧p.pl=none)∨
   ∃b bo sz,p.pl=some (b,bo,sz)∧Alive w b sz∧bo+n*es≤sz∧∀i j,i<n→j<es→PRep w I (nth (g i).cells j) (cellAt w b (bo+(i*es+j)))∧(cellAt w b (bo+(i*es+j))).oneCell'=true)
 | .map kd z f=>p.n=1∧∃b bo sz es clock,p.pl=some (b,bo,sz)∧w.heap[b]? = some (.map es clock)∧Un kd z f es
structure Ctx where
 w0:World
 M:Nat→Prop
 I0:Nat→Prop
 O0:OM
 m:Nat
 K:Nat→Obj→Prop
 rd:Bool
def noCells:Obj→Bool
 | .cells .. => false
 | _=>true
structure SameEnv (w' w:World):Prop where
 os:w'.os=w.os
 tape:w'.tape=w.tape
 output:w'.output=w.output
 keep:∀(k:Nat) (o:Obj),w.heap[k]? = some o→noCells o=true→w'.heap[k]? = some o
theorem SameEnv.refl (w:World):SameEnv w w:=⟨rfl,rfl,rfl,fun _ _ h _=>h⟩
theorem SameEnv.trans {a b c:World} (h:SameEnv a b) (k:SameEnv b c):SameEnv a c:=⟨h.os.trans k.os,h.tape.trans k.tape,h.output.trans k.output,fun i o hi ho=>h.keep i o (k.keep i o hi ho) ho⟩
theorem SameEnv.heap {w w':World} (h1:w'.os=w.os) (h2:w'.tape=w.tape) (h3:w'.output=w.output) (h:w'.heap=w.heap):SameEnv w' w:=⟨h1,h2,h3,fun i o hi _=>by rw [h]; exact hi⟩
theorem SameEnv.alloc (w:World) (o:Obj):SameEnv (w.alloc o) w:=⟨rfl,rfl,rfl,fun i x hi _=>by
 have hlt:i<w.heap.size:=by
  rcases Nat.lt_or_ge i w.heap.size with h | h
  ·exact h
  ·rw [Array.getElem?_eq_none h] at hi; cases hi
 show (w.heap.push o)[i]? = some x;rw [Array.getElem?_push_lt hlt,← hi,Array.getElem?_eq_getElem hlt]⟩
structure EnvOK (cx:Ctx) (w:World):Prop where
 same:SameEnv w cx.w0
 kept:∀k o,cx.K k o→w.heap[k]? = some o∧noCells o=true
theorem EnvOK.step {cx:Ctx} {w w':World} (h:EnvOK cx w) (he:SameEnv w' w):EnvOK cx w':=⟨he.trans h.same,fun k o hk=>⟨he.keep k o (h.kept k o hk).1 (h.kept k o hk).2,(h.kept k o hk).2⟩⟩
structure Rel (cfg:Cfg) (cx:Ctx) (H:Nat→Option AObj) (D:Nat→Prop) (w:World) (I:Nat→Prop) (O:OM):Prop where
 dom:∀o,O o=none↔H o=none
 used:∀o p,O o=some p→D o
 objs:∀o ob p,H o=some ob→O o=some p→ObjRep w I O D p ob
 inj:∀o o' p p' b bo sz b' bo' sz',O o=some p→O o'=some p'→p.pl=some (b,bo,sz)→p'.pl=some (b',bo',sz')→o≠o'→b≠b'
 notI:∀o p b bo sz,O o=some p→p.pl=some (b,bo,sz)→¬ I b
 lt:∀o p b bo sz,O o=some p→p.pl=some (b,bo,sz)→b<w.heap.size
 Ilt:∀b,I b→b<w.heap.size
 size:cx.w0.heap.size≤w.heap.size
 frame:∀b,b<cx.w0.heap.size→¬ cx.M b→w.heap[b]? = cx.w0.heap[b]?
 new:∀o p b bo sz,O o=some p→p.pl=some (b,bo,sz)→cx.w0.heap.size≤b∨cx.M b
 glob:∀g cs,look cfg.glob g=some cs→PRep w I (.ro cs) (.pointer (some ⟨g,0,none⟩))
 I0I:∀b,cx.I0 b→I b
 II0:∀b,I b→cx.I0 b∨cx.w0.heap.size≤b∨cx.M b
 O0O:∀o,o<cx.m→O o=cx.O0 o∨O o=none
 Dm:∀o,o<cx.m→D o
 env:EnvOK cx w
 maps:∀o kd z f p b bo sz,H o=some (.map kd z f)→O o=some p→p.pl=some (b,bo,sz)→cx.w0.heap.size≤b∧∀ob,¬ cx.K b ob
theorem nth_eq (l:List AV) (i:Nat):nth l i=l.getD i .undef:=by
 induction l generalizing i with
 | nil=>simp [nth]
 | cons v l ih=>cases i<;>simp [nth,ih]
theorem cell?_of_heap {w w':World} {b off:Nat} (h:w'.heap[b]? = w.heap[b]?):w'.cell? ⟨b,off,none⟩=w.cell? ⟨b,off,none⟩:=by
 simp [World.cell?, h]
theorem frozen?_of_heap {w w':World} {b off:Nat} (h:w'.heap[b]? = w.heap[b]?):w'.frozen? ⟨b,off,none⟩=w.frozen? ⟨b,off,none⟩:=by
 simp [World.frozen?, h]
theorem PRep.mono {w w':World} {I I':Nat→Prop} (hI:∀b,I b→I' b) (hw:∀b,I b→w'.heap[b]? = w.heap[b]?) {v:AV} {x:Value} (h:PRep w I v x):PRep w' I' v x:=by
 induction h with
 | undef x=>exact .undef x
 | bool b=>exact .bool b
 | int k n=>exact .int k n
 | str s=>exact .str s
 | nilp=>exact .nilp
 | @sl es n full g a cap b off vs hcap hfull ha hes hm h1 hr ih=>
  refine .sl b off vs hcap hfull (fun h=>⟨(ha h).1,hI _ (ha h).2⟩) hes (fun i j hi hj=>?_) h1 ih;rw [cell?_of_heap (hw _ (ha om).2)];exact hm i j hi hj
 | ro b off vs h1 hm hr ih=>
  refine .ro b off vs (hI _ h1) (fun j hj=>?_) ih;rw [cell?_of_heap (hw _ h1)];exact hm j hj
 | agg hl hr ih=>exact .agg hl ih
 | fn hl hr ih=>exact .fn hl ih
 | tup hl hr ih=>exact .tup hl ih
theorem Rep.mono {w w':World} {I I':Nat→Prop} {O O':OM} {D D':Nat→Prop} (hI:∀b,I b→I' b) (hw:∀b,I b→w'.heap[b]? = w.heap[b]?)
  (hO:∀o,D o→O' o=O o∨O' o=none) (hD:∀o,D o→D' o) (hu:∀o p,O o=some p→D o) {v:AV} {x:Value} (h:Rep w I O D v x):Rep w' I' O' D' v x:=by
 induction h with
 | pure h=>exact .pure (h.mono hI hw)
 | @ptr o i off b bo sz p ho hp hi=>
  rcases hO o (hu o p ho) with h | h
  ·exact .ptr (h.trans ho) hp hi
  ·exact .deadP h (hD _ (hu o p ho)) rfl
 | @osl o i n full p a cap ho hi hcap hfull hpl hext=>
  rcases hO o (hu o p ho) with h | h
  ·exact .osl (h.trans ho) hi hcap hfull hpl hext
  ·exact .deadS h (hD _ (hu o p ho)) rfl
 | @mref o b bo sz p ho hp=>
  rcases hO o (hu o p ho) with h | h
  ·exact .mref (h.trans ho) hp
  ·exact .KG h (hD _ (hu o p ho)) rfl
 | @KG o x ho hd h1=>
  rcases hO o hd with h | h
  ·exact .KG (h.trans ho) (hD _ hd) h1
  ·exact .KG h (hD _ hd) h1
 | @deadP o i off x ho hd h1=>
  rcases hO o hd with h | h
  ·exact .deadP (h.trans ho) (hD _ hd) h1
  ·exact .deadP h (hD _ hd) h1
 | @deadS o i n full x ho hd h1=>
  rcases hO o hd with h | h
  ·exact .deadS (h.trans ho) (hD _ hd) h1
  ·exact .deadS h (hD _ hd) h1
 | agg hl hr ih=>exact .agg hl ih
 | fn hl hr ih=>exact .fn hl ih
 | tup hl hr ih=>exact .tup hl ih
def zmatch:ZK→Value→Prop
 | .bool,x=>x=.bool false
 | .int k,x=>x=.int k 0
 | .str,x=>x=.string ByteArray.empty
 | .slice,x=>x=.slice none 0 0
 | .ptr,x=>x=.pointer none
 | .other,x=>x.oneCell'=true
def dmatch:TD→TypeDesc→Prop
 | .bool,d=>d=.bool
 | .int k,d=>d=.int k
 | .str,d=>d=.string
 | .slice e,d=>d=.slice e
 | .pointer e,d=>d=.pointer e
 | .map k e,d=>d=.map k e
 | .array n e,d=>d=.array n e
 | .struct fs,d=>∃fields:Array Field,d=.struct fields∧fields.toList.map (fun f=>(f.offset,f.type))=fs
 | .other,_=>True
structure TyOK (P:Program) (t:TypeId) (ti:TyI):Prop where
 ex:∃i d z,P.info? t=some i∧P.underlying t=some d∧i.zero=some z∧i.size=ti.size∧i.bytes=ti.bytes∧d.isRow=ti.agg∧z.cells.size=ti.size∧
  ti.zero.length=ti.size∧(∀j,j<ti.size→zmatch (ti.zero.getD j .other) (z.cells.getD j Go.undef))∧dmatch ti.desc d
 one:ti.agg=false→∀i z,P.info? t=some i→i.zero=some z→z.cells=#[z]
def fieldsThere (P:Program):TypeDesc→Prop
 | .struct fields=>∀f∈fields.toList,(P.info? f.type).isSome=true
 | _=>True
def plainK:ZK→TypeDesc→Prop
 | .bool,d=>d=.bool
 | .int k,d=>d=.int k
 | .str,d=>d=.string
 | _,_=>False
def Yg (P:Program) (ok:TypeId→List ZK→Prop):List Field→List ZK→Nat→Prop
 | [],[],_=>True
 | f::fs,zs,k=>f.name ≠ "_" ∧ f.offset=k∧∃z1 z2,zs=z1++z2∧((∃z d,z1=[z]∧P.underlying f.type=some d∧plainK z d)∨(ok f.type z1∧P.cellsOf f.type=z1.length))∧Yg P ok fs z2 (k+z1.length)
 | _,_,_=>False
def EqT (P:Program):Nat→TypeId→List ZK→Prop
 | 0,_,_=>False
 | n+1,t,zs=>∃fields,P.underlying t=some (.struct fields)∧P.stoodInHeld t=false∧Yg P (EqT P n) fields.toList zs 0
structure EqOK (P:Program) (t:TypeId) (zs:List ZK):Prop where
 ex:EqT P 4 t zs
 guard:P.eqGuardType P.depth t=false
structure CfgOK (P:Program) (cfg:Cfg):Prop where
 ty:∀t ti,look cfg.ty t=some ti→TyOK P t ti
 fields:∀t ti d,look cfg.ty t=some ti→P.underlying t=some d→fieldsThere P d
 mixed:P.follows .mixedOrders=true
 eqs:∀t zs,look cfg.eqs t=some zs→EqOK P t zs
def updF (H:Nat→Option AObj) (ups:Ups):Nat→Option AObj:=fun o=>match look ups o with | some x=>x | none=>H o
inductive EvR (Sp:SpecT) (H:Nat→Option AObj):Pg→AV→Ups→List Nat→Prop
 | ret (v:AV) (ups:Ups):EvR Sp H (.ret v ups) v ups []
 | need {p:Prop} [d:Decidable p] {k:Pg} {v:AV} {ups:Ups} {r:List Nat} (hp:p) (h:EvR Sp H k v ups r):EvR Sp H (.need p k) v ups r
 | rd {o:Nat} {x:AObj} {k:AObj→Pg} {v:AV} {ups:Ups} {r:List Nat} (ho:H o=some x) (h:EvR Sp H (k x) v ups r):EvR Sp H (.rd o k) v ups (o::r)
 | call {f:FuncId} {args:List AV} {obs:List AObj} {k:AV→List AObj→Pg} {x:AV} {obs':List AObj} {v:AV} {ups:Ups} {r:List Nat} (hs:Sp f args obs x obs')
   (h:EvR Sp H (k x obs') v ups r):EvR Sp H (.call f args obs k) v ups r
def hof:List AObj→Nat→Option AObj
 | [],_=>none
 | x::_,0=>some x
 | _::l,n+1=>hof l n
def zG:List AObj→Nat→Option AObj
 | [],_=>none
 | x::_,0=>gz x
 | _::l,n+1=>zG l n
theorem RB:∀ {l:List AObj} {j:Nat} {x:AObj},zG l j=some x→hof l j=some x∧F7 x=false:=by
 intro l;induction l with
 | nil=>intro j x h; cases h
 | cons y l ih=>
  intro j x h;cases j with
  | zero=>
   simp only [zG,gz] at h;split at h
   ·cases h
   ·rename_i hg; cases h; exact ⟨rfl,hg⟩
  | succ j=>exact ih h
theorem Yh:∀ {l:List AObj},(∀j x,hof l j=some x→F7 x=false)→zG l=hof l:=by
 intro l;induction l with
 | nil=>intro _; rfl
 | cons y l ih=>
  intro h;funext j;cases j with
  | zero=>have:=h 0 y rfl; simp only [zG,hof,gz,this]
  | succ j=>exact congrFun (ih fun j x hx=>h (j+1) x hx) j
def cxOf (w:World) (I:Nat→Prop) (O:OM) (m:Nat):Ctx:=⟨w,fun b=>∃o p bo sz,O o=some p∧p.pl=some (b,bo,sz),I,O,m,fun _ _=>False,false⟩
def Spec (P:Program) (cfg:Cfg):SpecT:=fun f args obs r obs'=>
 (∃fn,P.funcs[f]? = some fn∧fn.body.isNone=false∧(fn.name == "runtime.NumGoroutine")=false)∧obs.length≤obs'.length∧
 ∀(w:World) (I:Nat→Prop) (O:OM) (vals:Array Value),Rel cfg (cxOf w I O obs.length) (hof obs) (fun o=>o<obs.length) w I O→
  vals.size=args.length→(∀j,j<args.length→Rep w I O (fun o=>o<obs.length) (nth args j) (vals.getD j Go.undef))→
  Calls P f vals w fun e w'=>∃x I' O',e=.returned x∧Rel cfg (cxOf w I O obs.length) (zG obs') (fun o=>o<obs'.length) w' I' O'∧
   Rep w' I' O' (fun o=>o<obs'.length) r x
section
variable {P:Program} {cfg:Cfg} {cx:Ctx} {H:Nat→Option AObj} {D:Nat→Prop} {w:World} {I:Nat→Prop} {O:OM}
def insD (D:Nat→Prop) (n:Nat):Nat→Prop:=fun o=>D o∨(n≤o∧o<n+stride)
def OV (D:Nat→Prop) (n:Nat):Prop:=∀o,n≤o→o<n+stride→¬ D o
theorem OV.one {D:Nat→Prop} {n:Nat} (h:OV D n):¬ D n:=h n (Nat.le_refl _) (by unfold stride; omega)
theorem Mf {D:Nat→Prop} {n o:Nat} (h:o=n):insD D n o:=.inr ⟨by omega,by unfold stride; omega⟩
def OpOK (P:Program) (cfg:Cfg) (cx:Ctx) (H:Nat→Option AObj) (D:Nat→Prop) (w:World) (I:Nat→Prop) (O:OM) (nid:Nat) (o:Oper) (a:Act) (v:AV) (ups:Ups):Prop:=
 ∀(next:Act→World→Prop) (Q:Exit→Act→World→Prop),
  (∀x w' I' O',Rel cfg cx (updF H ups) (insD D nid) w' I' O'→(∀u y,Rep w I O D u y→Rep w' I' O' (insD D nid) u y)→Rep w' I' O' (insD D nid) v x→next (a.put o.dst x) w')→
  o.wp P a w next Q
theorem updF_nil (H:Nat→Option AObj):updF H []=H:=rfl
theorem ObjRep.mono {w':World} {I':Nat→Prop} {O':OM} {D':Nat→Prop} {p:Own} {ob:AObj} (hI:∀b,I b→I' b) (hw:∀b,I b→w'.heap[b]? = w.heap[b]?)
  (hO:∀o,D o→O' o=O o∨O' o=none) (hD:∀o,D o→D' o) (hu:∀o p,O o=some p→D o) (hb:∀b bo sz,p.pl=some (b,bo,sz)→w'.heap[b]? = w.heap[b]?)
  (h:ObjRep w I O D p ob):ObjRep w' I' O' D' p ob:=by
 cases ob with
 | box cs=>
  obtain ⟨h1,b,bo,sz,hp,ha,hl,hc⟩:=h;have hh:=hb b bo sz hp;refine ⟨h1,b,bo,sz,hp,fun j hj=>?_,hl,fun j hj=>?_⟩
  ·rw [cell?_of_heap hh,frozen?_of_heap hh]; exact ha j hj
  ·rw [cellAt,cell?_of_heap hh]; exact (hc j hj).mono hI hw hO hD hu
 | row es n g=>
  obtain ⟨h1,h2,h3,h4⟩:=h;refine ⟨h1,h2,h3,?_⟩;rcases h4 with h4 | ⟨b,bo,sz,hp,ha,hl,hc⟩
  ·exact .inl h4
  ·have hh:=hb b bo sz hp;refine .inr ⟨b,bo,sz,hp,fun j hj=>?_,hl,fun i j hi hj=>?_⟩
   ·rw [cell?_of_heap hh,frozen?_of_heap hh]; exact ha j hj
   ·rw [cellAt,cell?_of_heap hh]; exact ⟨(hc i j hi hj).1.mono hI hw,(hc i j hi hj).2⟩
 | map kd z f=>
  obtain ⟨h1,b,bo,sz,es,clock,hp,hw2,hm⟩:=h;exact ⟨h1,b,bo,sz,es,clock,hp,by rw [hb b bo sz hp]; exact hw2,hm⟩
theorem Rel.addD (hR:Rel cfg cx H D w I O) (n:Nat):Rel cfg cx H (insD D n) w I O:=
 { hR with
  used:=fun o p h=>.inl (hR.used o p h)
  objs:=fun o ob p h h'=>(hR.objs o ob p h h').mono (fun _ h=>h) (fun _ _=>rfl) (fun _ _=>.inl rfl) (fun _ h=>.inl h) hR.used (fun _ _ _ _=>rfl)
  Dm:=fun o h=>.inl (hR.Dm o h) }
theorem Rep.addD (hR:Rel cfg cx H D w I O) (n:Nat) {v:AV} {x:Value} (h:Rep w I O D v x):Rep w I O (insD D n) v x:=
 h.mono (fun _ h=>h) (fun _ _=>rfl) (fun _ _=>.inl rfl) (fun _ h=>.inl h) hR.used
theorem wp_val {o:Oper} {a:Act} {x:Value} {w':World} {next:Act→World→Prop} {Q:Exit→Act→World→Prop} (h:(execOp a.eval o).run P w=.ok (.value x) w') (hn:next (a.put o.dst x) w'):o.wp P a w next Q:=by
 unfold Oper.wp; rw [h]; exact hn
theorem OpOK.of_pure {nid:Nat} {o:Oper} {a:Act} {v:AV} {x:Value} (hR:Rel cfg cx H D w I O) (h:(execOp a.eval o).run P w=.ok (.value x) w) (hv:Rep w I O D v x):OpOK P cfg cx H D w I O nid o a v []:=by
 intro next Q hn
 exact wp_val h (hn x w I O (by rw [updF_nil]; exact hR.addD nid) (fun u y hu=>hu.addD hR nid) (hv.addD hR nid))
theorem Rep.bool_inv {b:Bool} {x:Value} (h:Rep w I O D (.bool b) x):x=.bool b:=by
 cases h with | pure h=>cases h; rfl
theorem Rep.int_inv {k:IntKind} {n:Int} {x:Value} (h:Rep w I O D (.int k n) x):x=.int k n:=by
 cases h with | pure h=>cases h; rfl
theorem Rep.str_inv {s:ByteArray} {x:Value} (h:Rep w I O D (.str s) x):x=.string s:=by
 cases h with | pure h=>cases h; rfl
theorem Rep.sl_inv {es n:Nat} {f:Bool} {g:Nat→AV} {x:Value} (h:Rep w I O D (.sl es n f g) x):PRep w I (.sl es n f g) x:=by
 cases h with | pure h=>exact h
theorem Rep.ro_inv {cs:List AV} {x:Value} (h:Rep w I O D (.ro cs) x):PRep w I (.ro cs) x:=by
 cases h with | pure h=>exact h
theorem Rep.agg_inv {cs:List AV} {x:Value} (h:Rep w I O D (.agg cs) x):∃vs:Array Value,x=.agg vs∧vs.size=cs.length∧∀j,j<cs.length→Rep w I O D (nth cs j) (vs.getD j Go.undef):=by
 cases h with
 | pure h=>cases h with | agg hl hr=>exact ⟨_,rfl,hl,fun j hj=>.pure (hr j hj)⟩
 | agg hl hr=>exact ⟨_,rfl,hl,hr⟩
theorem Rep.tup_inv {cs:List AV} {x:Value} (h:Rep w I O D (.tup cs) x):∃vs:Array Value,x=.tuple vs∧vs.size=cs.length∧∀j,j<cs.length→Rep w I O D (nth cs j) (vs.getD j Go.undef):=by
 cases h with
 | pure h=>cases h with | tup hl hr=>exact ⟨_,rfl,hl,fun j hj=>.pure (hr j hj)⟩
 | tup hl hr=>exact ⟨_,rfl,hl,hr⟩
theorem Rep.fn_inv {f:FuncId} {cs:List AV} {x:Value} (h:Rep w I O D (.fn f cs) x):∃vs:Array Value,x=.func (.func f) #[] vs∧vs.size=cs.length∧∀j,j<cs.length→Rep w I O D (nth cs j) (vs.getD j Go.undef):=by
 cases h with
 | pure h=>cases h with | fn hl hr=>exact ⟨_,rfl,hl,fun j hj=>.pure (hr j hj)⟩
 | fn hl hr=>exact ⟨_,rfl,hl,hr⟩
theorem Rep.ptr_inv {o i off:Nat} {x:Value} {p:Own} (ho:O o=some p) (h:Rep w I O D (.ptr o i off) x):∃b bo sz,p.pl=some (b,bo,sz)∧i<p.n∧x=.pointer (some ⟨b,bo+(i*p.es+off),none⟩):=by
 cases h with
 | pure h=>cases h
 | @ptr _ _ _ b bo sz p' ho' hp hi=>
  have:p'=p:=Option.some.inj (ho'.symm.trans ho);subst this;exact ⟨b,bo,sz,hp,hi,rfl⟩
 | deadP ho'=>rw [ho] at ho'; cases ho'
theorem Rep.osl_inv {o i n:Nat} {full:Bool} {x:Value} {p:Own} (ho:O o=some p) (h:Rep w I O D (.osl o i n full) x):∃a cap,x=.slice a n cap∧i+n≤p.n∧n≤cap∧(full=true→cap=n)∧
  (cap≠0→∃b bo sz,p.pl=some (b,bo,sz)∧a=some ⟨b,bo+i*p.es,none⟩∧bo+(i+cap)*p.es≤sz):=by
 cases h with
 | pure h=>cases h
 | @osl _ _ _ _ p' a cap ho' hi hcap hfull hpl hext=>
  have:p'=p:=Option.some.inj (ho'.symm.trans ho);subst this;exact ⟨a,cap,rfl,hi,hcap,hfull,hpl⟩
 | deadS ho'=>rw [ho] at ho'; cases ho'
theorem Rep.zT {o i n n' cap:Nat} {full:Bool} {aa:Option Addr} {p:Own} (ho:O o=some p) (h:Rep w I O D (.osl o i n full) (.slice aa n' cap)):p.n≤i+cap:=by
 cases h with
 | pure h=>cases h
 | @osl _ _ _ _ p' a cap ho' hi hcap hfull hpl hext=>
  have:p'=p:=Option.some.inj (ho'.symm.trans ho);subst this;exact hext
 | deadS ho'=>rw [ho] at ho'; cases ho'
theorem Rep.OW {o:Nat} {x:Value} {p:Own} (ho:O o=some p) (h:Rep w I O D (.mref o) x):∃b bo sz,p.pl=some (b,bo,sz)∧x=.map (some b):=by
 cases h with
 | pure h=>cases h
 | @mref _ b bo sz p' ho' hp=>
  have:p'=p:=Option.some.inj (ho'.symm.trans ho);subst this;exact ⟨b,bo,sz,hp,rfl⟩
 | KG ho'=>rw [ho] at ho'; cases ho'
theorem okCell_one {v:AV} {x:Value} (h:Rep w I O D v x) (hk:okCell v=true):x.oneCell'=true:=by
 cases h with
 | pure h=>cases h<;>first | rfl | cases hk
 | ptr=>rfl
 | osl=>rfl
 | mref=>rfl
 | KG _ _ h1=>exact h1
 | deadP _ _ h1=>exact h1
 | deadS _ _ h1=>exact h1
 | agg=>cases hk
 | fn=>rfl
 | tup=>cases hk
theorem okCells_nth {l:List AV} (h:okCells l=true):∀j,j<l.length→okCell (nth l j)=true:=by
 induction l with
 | nil=>intro j hj; cases hj
 | cons v l ih=>
  intro j hj;unfold okCells at h;cases hv:okCell v with
  | false=>simp [hv] at h
  | true=>
   simp only [hv] at h;cases j with
   | zero=>exact hv
   | succ j=>exact ih h j (by simpa using hj)
theorem Rep.cells {v:AV} {x:Value} (h:Rep w I O D v x) (hk:okCells v.cells=true):x.cells.size=v.cells.length∧∀j,j<v.cells.length→Rep w I O D (nth v.cells j) (x.cells.getD j Go.undef)∧(x.cells.getD j Go.undef).oneCell'=true:=by
 have one:∀ {v:AV} {x:Value},Rep w I O D v x→v.cells=[v]→okCell v=true→x.cells.size=v.cells.length∧∀j,j<v.cells.length→Rep w I O D (nth v.cells j) (x.cells.getD j Go.undef)∧(x.cells.getD j Go.undef).oneCell'=true:=by
  intro v x h hc ho;have h1:=okCell_one h ho;have hx:x.cells=#[x]:=by cases x<;>first | rfl | cases h1
  rw [hc,hx];refine ⟨rfl,fun j hj=>?_⟩;have:j=0:=by simpa using hj
  subst this;exact ⟨h,h1⟩
 cases v with
 | agg cs=>
  obtain ⟨vs,rfl,hl,hr⟩:=h.agg_inv;exact ⟨hl,fun j hj=>⟨hr j hj,okCell_one (hr j hj) (okCells_nth hk j hj)⟩⟩
 | undef=>cases hk
 | tup vs=>cases hk
 | _=>exact one h rfl rfl
end
end Go.Ab
namespace Go.Ab
section
variable {P:Program} {cfg:Cfg} {cx:Ctx} {H:Nat→Option AObj} {D:Nat→Prop} {w:World} {I:Nat→Prop} {O:OM} {Sp:SpecT}
theorem EvR.ret_inv {v v':AV} {ups ups':Ups} {r:List Nat} (h:EvR Sp H (.ret v ups) v' ups' r):v'=v∧ups'=ups:=by cases h; exact ⟨rfl,rfl⟩
theorem EvR.need_inv {p:Prop} [Decidable p] {k:Pg} {v':AV} {ups':Ups} {r:List Nat} (h:EvR Sp H (.need p k) v' ups' r):p∧EvR Sp H k v' ups' r:=by cases h with | need hp h=>exact ⟨hp,h⟩
theorem EvR.rd_inv {o:Nat} {k:AObj→Pg} {v':AV} {ups':Ups} {r:List Nat} (h:EvR Sp H (.rd o k) v' ups' r):∃x r',H o=some x∧EvR Sp H (k x) v' ups' r':=by cases h with | rd ho h=>exact ⟨_,_,ho,h⟩
theorem EvR.fail_inv {v':AV} {ups':Ups} {r:List Nat} (h:EvR Sp H .fail v' ups' r):False:=by cases h
theorem EvR.need1_inv {p:Prop} [Decidable p] {v v':AV} {ups':Ups} {r:List Nat} (h:EvR Sp H (need1 p v) v' ups' r):p∧v'=v∧ups'=[]:=by
 obtain ⟨hp,h⟩:=EvR.need_inv h; exact ⟨hp,h.ret_inv⟩
theorem EvR.ret1_inv {v v':AV} {ups':Ups} {r:List Nat} (h:EvR Sp H (ret1 v) v' ups' r):v'=v∧ups'=[]:=h.ret_inv
theorem EvR.chk_inv {b:Bool} {k:Pg} {v':AV} {ups':Ups} {r:List Nat} (h:EvR Sp H (chkK b k) v' ups' r):b=true∧EvR Sp H k v' ups' r:=by
 cases b with
 | true=>exact ⟨rfl,h⟩
 | false=>exact (EvR.fail_inv h).elim
theorem EvR.cells_inv {v:AV} {k:List AV→Pg} {v':AV} {ups':Ups} {r:List Nat} (h:EvR Sp H (cellsK v k) v' ups' r):okCells v.cells=true∧EvR Sp H (k v.cells) v' ups' r:=by
 unfold cellsK at h;cases hb:okCells v.cells with
 | true=>simp only [hb] at h; exact ⟨rfl,h⟩
 | false=>simp only [hb] at h; exact (EvR.fail_inv h).elim
theorem EvR.ty_inv {t:TypeId} {k:TyI→Pg} {v':AV} {ups':Ups} {r:List Nat} (h:EvR Sp H (tyK cfg t k) v' ups' r):∃ti,look cfg.ty t=some ti∧EvR Sp H (k ti) v' ups' r:=by
 unfold tyK at h;cases hb:look cfg.ty t with
 | some ti=>simp only [hb] at h; exact ⟨ti,rfl,h⟩
 | none=>simp only [hb] at h; exact (EvR.fail_inv h).elim
theorem EvR.elem_inv {t:TypeId} {k:TyI→Pg} {v':AV} {ups':Ups} {r:List Nat} (h:EvR Sp H (elemK cfg t k) v' ups' r):∃tt e ti,look cfg.ty t=some tt∧tt.desc=.slice e∧look cfg.ty e=some ti∧EvR Sp H (k ti) v' ups' r:=by
 unfold elemK at h;cases hb:look cfg.ty t with
 | some tt=>
  simp only [hb] at h;cases hd:tt.desc with
  | slice e=>
   simp only [hd] at h;obtain ⟨ti,h1,h2⟩:=h.ty_inv;exact ⟨tt,e,ti,rfl,hd,h1,h2⟩
  | _=>simp only [hd] at h; exact (EvR.fail_inv h).elim
 | none=>simp only [hb] at h; exact (EvR.fail_inv h).elim
theorem CfgOK.slice (hc:CfgOK P cfg) {t e:TypeId} {tt ti:TyI} (h:look cfg.ty t=some tt) (hd:tt.desc=.slice e) (h':look cfg.ty e=some ti):
  P.underlying t=some (.slice e)∧∃i z,P.info? e=some i∧i.zero=some z∧i.size=ti.size∧i.bytes=ti.bytes∧z.cells.size=ti.size:=by
 obtain ⟨i,d,z,_,hu,_,_,_,_,_,_,_,hm⟩:=(hc.ty t tt h).ex;rw [hd] at hm;obtain ⟨i',d',z',h1,_,h2,h3,h4,_,h5,_⟩:=(hc.ty e ti h').ex;exact ⟨by rw [hu,hm],i',z',h1,h2,h3,h4,h5⟩
theorem run_sizeOf' {t:TypeId} {i:TypeInfo} (h:P.info? t=some i) (w:World):(sizeOf t).run P w=.ok i.size w:=by
 simp [sizeOf,typeInfo,h]
theorem run_underlying' {t:TypeId} {d:TypeDesc} (h:P.underlying t=some d) (w:World):(underlying t).run P w=.ok d w:=by
 simp [underlying,h]
variable {nid:Nat} {o:Oper} {a:Act} {ρ:Operand→AV} {v:AV} {ups:Ups} {r:List Nat}
theorem op_move (hR:Rel cfg cx H D w I O) {x:Operand} (ho:o.op=.move x) (hx:Rep w I O D (ρ x) (a.eval x)):OpOK P cfg cx H D w I O nid o a (ρ x) []:=
 OpOK.of_pure hR (by simp [execOp,ho]) hx
theorem op_assign (hR:Rel cfg cx H D w I O) {x:Operand} (ho:o.op=.assign x) (hx:Rep w I O D (ρ x) (a.eval x)):OpOK P cfg cx H D w I O nid o a (ρ x) []:=
 OpOK.of_pure hR (by simp [execOp,ho]) hx
theorem rep_const (c:Value) (ho:ofConst c≠.undef):∀ {x:Value},x=c→Rep w I O D (ofConst c) x:=by
 intro x hx;subst hx;refine .pure ?_;unfold ofConst;split
 ·exact .bool _
 ·exact .int _ _
 ·exact .str _
 ·exact .sl 0 0 (fun _ _=>Go.undef) (Nat.le_refl _) (fun _=>rfl) (fun h=>absurd rfl h) (fun i h=>by cases h) (fun i j h=>by cases h) (fun i j h=>by cases h) (fun i j h=>by cases h)
 ·exact .nilp
 ·rename_i h1 h2 h3 h4 h5;exact .undef _
theorem rep_const' (c:Value):Rep w I O D (ofConst c) c:=by
 by_cases h:ofConst c=.undef
 ·rw [h]; exact .pure (.undef _)
 ·exact rep_const c h rfl
theorem op_pick (hR:Rel cfg cx H D w I O) {c x y:Operand} (ho:o.op=.pick c x y) (hc:Rep w I O D (ρ c) (a.eval c))
  (hx:∀b,ρ c=.bool b→b=true→Rep w I O D (ρ x) (a.eval x)) (hy:∀b,ρ c=.bool b→b=false→Rep w I O D (ρ y) (a.eval y))
  (hcx:∀v,x=.const v→ρ x=ofConst v∧a.eval x=v) (hcy:∀v,y=.const v→ρ y=ofConst v∧a.eval y=v)
  (h:EvR Sp H (pickPg (ρ c) x y (ρ x) (ρ y)) v ups r):OpOK P cfg cx H D w I O nid o a v ups:=by
 cases hcv:ρ c with
 | bool b=>
  rw [hcv] at hc h;have hb:=hc.bool_inv;have hx':=hx b hcv;have hy':=hy b hcv;have run:(execOp a.eval o).run P w=.ok (.value (if b then a.eval x else a.eval y)) w:=by
   simp [execOp,ho,hb,asBool]
  unfold pickPg at h;simp only at h;split at h
  ·rename_i hz;obtain ⟨rfl,rfl⟩:=h.ret1_inv;obtain ⟨_,e2⟩:=hcy _ rfl;refine OpOK.of_pure hR run ?_;cases b with
   | true=>have:=(hx' rfl); rw [hz] at this; rw [this.bool_inv]; exact .pure (.bool _)
   | false=>rw [e2]; exact .pure (.bool _)
  ·rename_i hz _;obtain ⟨rfl,rfl⟩:=h.ret1_inv;obtain ⟨_,e2⟩:=hcx _ rfl;refine OpOK.of_pure hR run ?_;cases b with
   | true=>simp only [if_true]; rw [e2]; exact .pure (.bool _)
   | false=>have:=(hy' rfl); rw [hz] at this; simp only [Bool.false_eq_true,if_false]; rw [this.bool_inv]; exact .pure (.bool _)
  ·rename_i h1 h2;obtain ⟨rfl,rfl⟩:=h.ret1_inv;refine OpOK.of_pure hR run ?_;cases b with
   | true=>have:=(hx' rfl); rw [h1] at this; rw [this.bool_inv]; exact .pure (.bool _)
   | false=>have:=(hy' rfl); rw [h2] at this; simp only [Bool.false_eq_true,if_false]; rw [this.bool_inv]; exact .pure (.bool _)
  ·obtain ⟨rfl,rfl,rfl⟩:=h.need1_inv;refine OpOK.of_pure hR run ?_;simpa using hy' rfl
  ·obtain ⟨rfl,rfl,rfl⟩:=h.need1_inv;refine OpOK.of_pure hR run ?_;simpa using hx' rfl
  ·exact (EvR.fail_inv h).elim
 | _=>rw [hcv] at h; exact (EvR.fail_inv h).elim
theorem wrap_i64 {n:Int} (h:InI64 n):IntKind.i64.wrap n=n:=IntWalk.i64_in _ ⟨h.1,h.2⟩
theorem run_equal_bool {t:TypeId} (hu:P.underlying t=some .bool) (a b:Bool) (w:World):(Op.equal t (.bool a) (.bool b)).run P w=.ok (a==b) w:=by
 have:∀d,(Op.equalIn (d+1) t (.bool a) (.bool b)).run P w=.ok (a==b) w:=fun d=>by
  simp [Op.equalIn,run_underlying' hu]
 exact this 9999
theorem run_part_one {t:TypeId} {d:TypeDesc} (hu:P.underlying t=some d) (hd:d.isRow=false) (vs:Array Value) (i:Nat) (hi:i<vs.size) (w:World):(part t vs i).run P w=.ok (vs.getD i Go.undef) w:=by
 have hag:(isAgg t).run P w=.ok false w:=by
  unfold isAgg;rw [Sem.run_bind,run_underlying' hu w];cases d<;>simp at hd ⊢
 simp [part,Sem.run_bind,hag,Array.getElem?_eq_getElem hi]
theorem RD:∀(a b:List AV) {j:Nat},j<a.length→nth (a++b) j=nth a j:=by
 intro a;induction a with
 | nil=>intro b j h; exact absurd h (Nat.not_lt_zero _)
 | cons x a ih=>intro b j h; cases j with
  | zero=>rfl
  | succ j=>exact ih b (by simpa using h)
theorem RF:∀(a b:List AV) (j:Nat),nth (a++b) (a.length+j)=nth b j:=by
 intro a;induction a with
 | nil=>intro b j; simp
 | cons x a ih=>intro b j; rw [List.length_cons,show a.length+1+j=(a.length+j)+1 by omega]; exact ih b j
theorem KH (xs:Array Value) (k m j:Nat) (hj:j<m) (h:k+m≤xs.size):(xs.extract k (k+m)).getD j Go.undef=xs.getD (k+j) Go.undef:=by
 rw [Array.getD_eq_getD_getElem?, Array.getD_eq_getD_getElem?, Array.getElem?_extract_of_lt (by rw [Nat.min_eq_left h]; omega),Array.getElem?_eq_getElem om]
theorem Yi:∀(zs:List ZK) (cs cs':List AV) (r:Bool),eqZ zs cs cs'=some r→cs.length=zs.length∧cs'.length=zs.length:=by
 intro zs;induction zs with
 | nil=>intro cs cs' r h; cases cs<;>cases cs'<;>simp [eqZ] at h ⊢
 | cons z zs ih=>
  intro cs cs' r h;cases cs with
  | nil=>cases z<;>simp [eqZ] at h
  | cons c cs=>cases cs' with
   | nil=>cases z<;>cases c<;>simp [eqZ] at h
   | cons c' cs'=>
    have:∃r',eqZ zs cs cs'=some r':=by
     cases z<;>cases c<;>cases c'<;>simp only [eqZ] at h<;>first | (cases h; done) | skip
     all_goals
      split at h
      ·first | exact ⟨_,by assumption⟩
      ·cases h
    obtain ⟨r',h'⟩:=this
    have:=ih _ _ _ h'
    simp [this]
theorem Yj:∀(z1 z2:List ZK) (cs cs':List AV) (r:Bool),eqZ (z1++z2) cs cs'=some r→∃c1 c2 c1' c2' r1 r2,cs=c1++c2∧cs'=c1'++c2'∧eqZ z1 c1 c1'=some r1∧eqZ z2 c2 c2'=some r2∧r=(r1&&r2):=by
 intro z1;induction z1 with
 | nil=>intro z2 cs cs' r h; exact ⟨[],cs,[],cs',true,r,rfl,rfl,rfl,h,by simp⟩
 | cons z z1 ih=>
  intro z2 cs cs' r h;cases cs with
  | nil=>cases z<;>simp [eqZ] at h
  | cons c cs=>cases cs' with
   | nil=>cases z<;>cases c<;>simp [eqZ] at h
   | cons c' cs'=>
    cases z<;>cases c<;>cases c'<;>simp only [List.cons_append,eqZ] at h<;>first | (cases h; done) | skip
    ·split at h
     ·rename_i r' h'
      cases h
      obtain ⟨c1,c2,c1',c2',r1,r2,e1,e2,e3,e4,e5⟩:=ih _ _ _ _ h'
      subst e1 e2 e5
      exact ⟨_::c1,c2,_::c1',c2',_,r2,rfl,rfl,by simp only [eqZ,e3]; rfl,e4,by rw [Bool.and_assoc]⟩
     ·cases h
    ·split at h
     ·rename_i r' k1 k2 h'
      cases h
      obtain ⟨c1,c2,c1',c2',r1,r2,e1,e2,e3,e4,e5⟩:=ih _ _ _ _ h'
      subst e1 e2 e5
      exact ⟨_::c1,c2,_::c1',c2',_,r2,rfl,rfl,by simp only [eqZ,e3,k1,k2]; rfl,e4,by rw [Bool.and_assoc]⟩
     ·cases h
    ·split at h
     ·rename_i r' h'
      cases h
      obtain ⟨c1,c2,c1',c2',r1,r2,e1,e2,e3,e4,e5⟩:=ih _ _ _ _ h'
      subst e1 e2 e5
      exact ⟨_::c1,c2,_::c1',c2',_,r2,rfl,rfl,by simp only [eqZ,e3]; rfl,e4,by rw [Bool.and_assoc]⟩
     ·cases h
theorem Uo {t:TypeId} {dd:TypeDesc} {z:ZK} {c c':AV} {b:Bool} {u v:Value} (w:World) (d:Nat) (hu:P.underlying t=some dd) (hk:plainK z dd) (h:eqZ [z] [c] [c']=some b) (hx:Rep w I O D c u) (hy:Rep w I O D c' v):(Op.equalIn (d+1) t u v).run P w=.ok b w:=by
 cases z with
 | int kk=>
  cases c<;>cases c'<;>simp only [eqZ] at h<;>first | (cases h; done) | skip
  rename_i k1 a k2 b;split at h
  ·rename_i r' e1 e2 e3;cases e3;cases h;have e1:kk=k1:=by simpa [kindEq] using e1
   have e2:kk=k2:=by simpa [kindEq] using e2
   subst e1; subst e2;rw [hx.int_inv,hy.int_inv,Bool.and_true];rw [hk] at hu;exact run_equalIn_int w d _ _ _ _ _ hu
  ·cases h
 | bool=>
  cases c<;>cases c'<;>simp only [eqZ] at h<;>first | (cases h; done) | skip
  cases h;rw [hx.bool_inv,hy.bool_inv,Bool.and_true];rw [hk] at hu;exact run_equalIn_bool' w d _ _ _ hu
 | str=>
  cases c<;>cases c'<;>simp only [eqZ] at h<;>first | (cases h; done) | skip
  cases h;rw [hx.str_inv,hy.str_inv,Bool.and_true];rw [hk] at hu;exact run_equalIn_string w d _ _ _ hu
 | slice=>exact hk.elim
 | ptr=>exact hk.elim
 | other=>exact hk.elim
theorem Ei {t:TypeId} {fs:Array Field} (hu:P.underlying t=some (.struct fs)) (vs:Array Value) (i:Nat) (w:World):(part t vs i).run P w=.ok (.agg (vs.extract i (i+P.cellsOf t))) w:=by
 obtain ⟨ti,hi⟩:=info_of_underlying hu;simp [part,isAgg,run_underlying hu,run_sizeOf w hi]
theorem WB (n:Nat) (xs ys:Array Value) (w:World) (d:Nat)
  (IH:∀(t:TypeId) (zs:List ZK) (cs cs':List AV) (us vs:Array Value) (r:Bool),EqT P n t zs→eqZ zs cs cs'=some r→us.size=cs.length→vs.size=cs'.length→(∀j,j<cs.length→Rep w I O D (nth cs j) (us.getD j Go.undef))→(∀j,j<cs'.length→Rep w I O D (nth cs' j) (vs.getD j Go.undef))→(Op.equalIn (d+1) t (.agg us) (.agg vs)).run P w=.ok r w):
  ∀(fs:List Field) (zs:List ZK) (cs cs':List AV) (k:Nat) (r:Bool),eqZ zs cs cs'=some r→Yg P (EqT P n) fs zs k→
  k+cs.length≤xs.size→k+cs'.length≤ys.size→(∀j,j<cs.length→Rep w I O D (nth cs j) (xs.getD (k+j) Go.undef))→(∀j,j<cs'.length→Rep w I O D (nth cs' j) (ys.getD (k+j) Go.undef))→
  (Op.eqFields (d+1) xs ys fs).run P w=.ok r w:=by
 intro fs;induction fs with
 | nil=>
  intro zs cs cs' k r h hz _ _ _ _;cases zs with
  | cons=>exact hz.elim
  | nil=>cases cs<;>cases cs'<;>simp [eqZ] at h ⊢ <;> (subst h; simp [Op.eqFields])
 | cons f fs ih=>
  intro zs cs cs' k r h hz hx hy hrx hry;obtain ⟨hnm,hof,z1,z2,rfl,hz1,hz2⟩:=hz;obtain ⟨c1,c2,c1',c2',r1,r2,rfl,rfl,e3,e4,rfl⟩:=Yj _ _ _ _ _ h;obtain ⟨l1,l2⟩:=Yi _ _ _ _ e3;simp only [List.length_append] at hx hy hrx hry;have nx1:∀j,j<c1.length→nth (c1++c2) j=nth c1 j:=fun j hj=>RD _ _ hj;have nx2:∀j,nth (c1++c2) (c1.length+j)=nth c2 j:=fun j=>RF _ _ j;have ny1:∀j,j<c1'.length→nth (c1'++c2') j=nth c1' j:=fun j hj=>RD _ _ hj;have ny2:∀j,nth (c1'++c2') (c1'.length+j)=nth c2' j:=fun j=>RF _ _ j;have ih':=ih z2 c2 c2' (k+z1.length) r2 e4 hz2 om om (fun j hj=>by
   have:=hrx (c1.length+j) om;rw [nx2,show k+(c1.length+j)=k+z1.length+j by omega] at this;exact this) (fun j hj=>by
   have:=hry (c1'.length+j) om;rw [ny2,show k+(c1'.length+j)=k+z1.length+j by omega] at this;exact this)
  have step:∀(u v:Value),(part f.type xs k).run P w=.ok u w→(part f.type ys k).run P w=.ok v w→(Op.equalIn (d+1) f.type u v).run P w=.ok r1 w→(Op.eqFields (d+1) xs ys (f::fs)).run P w=.ok (r1&&r2) w:=by
   intro u v px py hb;rw [Op.eqFields,if_pos hnm];simp only [hof,Sem.run_bind,px,py,Result.andThen_ok,hb];cases r1
   ·simp
   ·simpa using ih'
  rcases hz1 with ⟨z,dd,rfl,hu,hk⟩ | ⟨ho,hs⟩
  ·have hd:dd.isRow=false:=by cases z<;>simp only [plainK] at hk<;>first | (subst hk; rfl) | exact hk.elim
   cases c1 with
   | nil=>simp at l1
   | cons c c1=>cases c1 with
    | cons=>simp at l1
    | nil=>cases c1' with
     | nil=>simp at l2
     | cons c' c1'=>cases c1' with
      | cons=>simp at l2
      | nil=>
       simp only [List.length_singleton] at hx hy hrx hry
       have hx0:=hrx 0 om
       have hy0:=hry 0 om
       exact step _ _ (run_part_one hu hd xs k om w) (run_part_one hu hd ys k om w) (Uo w d hu hk e3 hx0 hy0)
  ·cases n with
   | zero=>exact ho.elim
   | succ n=>
    obtain ⟨fields,hu,_,_⟩:=id ho;refine step _ _ (Ei hu xs k w) (Ei hu ys k w) ?_;rw [hs];refine IH _ z1 c1 c1' _ _ r1 ho e3 (by rw [Array.size_extract]; omega) (by rw [Array.size_extract]; omega) (fun j hj=>?_) (fun j hj=>?_)
    ·have:=hrx j om;rw [nx1 j hj] at this;rw [KH _ _ _ _ om om];exact this
    ·have:=hry j om;rw [ny1 j hj] at this;rw [KH _ _ _ _ om om];exact this
theorem Yk (w:World):∀(n d:Nat) (t:TypeId) (zs:List ZK) (cs cs':List AV) (us vs:Array Value) (r:Bool),EqT P n t zs→eqZ zs cs cs'=some r→us.size=cs.length→vs.size=cs'.length→(∀j,j<cs.length→Rep w I O D (nth cs j) (us.getD j Go.undef))→(∀j,j<cs'.length→Rep w I O D (nth cs' j) (vs.getD j Go.undef))→(Op.equalIn (d+n+1) t (.agg us) (.agg vs)).run P w=.ok r w:=by
 intro n;induction n with
 | zero=>intro d t zs cs cs' us vs r h; exact h.elim
 | succ n IH=>
  intro d t zs cs cs' us vs r ⟨fields,hu,hh,hf⟩ h hl hl' hx hy;have hfo:P.fieldsOf t=fields:=by unfold Program.fieldsOf; rw [hu]
  rw [show d+(n+1)+1=(d+n+1)+1 by omega,run_equalIn_struct (P:=P) w (d+n+1) t us vs (by rw [hfo]; exact hu) hh,hfo];exact WB (I:=I) (O:=O) (D:=D) n us vs w (d+n) (fun t zs cs cs' us vs r a b c e f g=>IH d t zs cs cs' us vs r a b c e f g) fields.toList zs cs cs' 0 r h hf om om (fun j hj=>by simpa using hx j hj) (fun j hj=>by simpa using hy j hj)
theorem run_equal_agg (hc:CfgOK P cfg) {t:TypeId} {zs:List ZK} (ht:look cfg.eqs t=some zs) {cs cs':List AV} {xs ys:Array Value} {r:Bool} (h:eqZ zs cs cs'=some r) (hl:xs.size=cs.length) (hl':ys.size=cs'.length)
  (hx:∀j,j<cs.length→Rep w I O D (nth cs j) (xs.getD j Go.undef)) (hy:∀j,j<cs'.length→Rep w I O D (nth cs' j) (ys.getD j Go.undef)):(Op.equalIn 10000 t (.agg xs) (.agg ys)).run P w=.ok r w:=
 Yk w 4 9995 t zs cs cs' xs ys r (hc.eqs t zs ht).ex h hl hl' hx hy
theorem op_binOp (hc:CfgOK P cfg) (hR:Rel cfg cx H D w I O) {op:BinOp} {t t':TypeId} {x y:Operand} (ho:o.op=.binOp op t x y t') (hx:Rep w I O D (ρ x) (a.eval x)) (hy:Rep w I O D (ρ y) (a.eval y))
  (h:EvR Sp H (binPg cfg op t (ρ x) (ρ y)) v ups r):OpOK P cfg cx H D w I O nid o a v ups:=by
 unfold binPg at h;split at h
 ·rename_i k n k' n' e1 e2;rw [e1] at hx; rw [e2] at hy;have hx':=hx.int_inv;have hy':=hy.int_inv;cases hsl:Wn op with
  | true=>
   simp only [hsl] at h;cases op<;>simp [Wn] at hsl;obtain ⟨hp,rfl,rfl⟩:=h.need1_inv;have hg:∀(u:World),(eqGuard .shl t x y (.int k n) (.int k' n')).run P u=.ok () u:=by
    intro u; unfold eqGuard; simp
   refine OpOK.of_pure (x:=.int k _) hR ?_ (.pure (.int _ _));have hp':=Int.not_lt.2 hp;simp only [execOp,ho,hx',hy',hg,binOp,Op.shift,if_neg hp',Ul,Sem.run_bind,Result.andThen_ok,Sem.run_pure]
  | false=>
  simp only [hsl] at h;obtain ⟨hk1,h1⟩:=h.chk_inv;clear h;have hk:k=k':=by simpa [kindEq] using hk1
  subst hk;have hg:∀(u:World),(eqGuard op t x y (.int k n) (.int k n')).run P u=.ok () u:=by
   intro u; unfold eqGuard; cases op<;>simp
  cases ha:isArith op with
  | true=>
   simp only [ha] at h1;cases hk2:kindEq k .i64 with
   | true=>
    simp only [hk2] at h1;have h2:=h1;clear h1;have hk:k=.i64:=by simpa [kindEq] using hk2
    subst hk;cases op<;>simp [isArith] at ha<;>simp only [arith] at h2<;>obtain ⟨hp,rfl,rfl⟩:=h2.need1_inv<;>
     refine OpOK.of_pure (x:=.int .i64 _) hR ?_ (.pure (.int _ _))<;>simp [execOp,ho,hx',hy',hg,binOp,Op.intArith,Op.intDiv,wrap_i64,hp]
   | false=>
    simp only [hk2] at h1;cases op<;>simp [isArith] at ha<;>simp only [arithW] at h1<;>first
     | exact (EvR.fail_inv h1).elim
     | (obtain ⟨rfl,rfl⟩:=h1.ret1_inv
        refine OpOK.of_pure (x:=.int k _) hR ?_ (.pure (.int _ _))
        simp [execOp,ho,hx',hy',hg,binOp,Op.intArith])
  | false=>
   simp only [ha] at h1;cases op<;>simp [isArith] at ha<;>simp only [cmpI] at h1<;>first
    | exact (EvR.fail_inv h1).elim
    | (obtain ⟨rfl,rfl⟩:=h1.ret1_inv
       refine OpOK.of_pure (x:=.bool _) hR ?_ (.pure (.bool _))
       simp [execOp,ho,hx',hy',hg,binOp,Op.intCmp]
       done)
    | (obtain ⟨hp,rfl,rfl⟩:=h1.need1_inv
       refine OpOK.of_pure (x:=.int k _) hR ?_ (.pure (.int _ _))
       have hp':=Int.not_lt.2 hp
       simp only [execOp,ho,hx',hy',hg,binOp,Op.shift,if_neg hp',shrI,Sem.run_bind,Result.andThen_ok,Sem.run_pure]
       done)
    | (obtain ⟨rfl,rfl⟩:=h1.ret1_inv
       refine OpOK.of_pure (x:=.int k _) hR ?_ (.pure (.int _ _))
       simp [execOp,ho,hx',hy',hg,binOp,Op.intBits,andI]
       done)
    | (obtain ⟨rfl,rfl⟩:=h1.ret1_inv
       refine OpOK.of_pure (x:=.int k _) hR ?_ (.pure (.int _ _))
       simp [execOp,ho,hx',hy',hg,binOp,Op.intBits,Wm])
 ·rename_i b b' e1 e2;rw [e1] at hx; rw [e2] at hy;have hx':=hx.bool_inv;have hy':=hy.bool_inv;obtain ⟨ti,ht,h1⟩:=h.ty_inv;clear h;have hg:∀(u:World),(eqGuard op t x y (.bool b) (.bool b')).run P u=.ok () u:=by
   intro u; unfold eqGuard; cases op<;>simp
  have hd:ti.desc=.bool→P.underlying t=some .bool:=by
   intro hd;obtain ⟨i,d,z,_,hu,_,_,_,_,_,_,_,hm⟩:=(hc.ty t ti ht).ex;rw [hd] at hm;rw [hu,hm]
  split at h1
  ·rename_i hdd;obtain ⟨rfl,rfl⟩:=h1.ret1_inv;refine OpOK.of_pure (x:=.bool _) hR ?_ (.pure (.bool _));have e:=run_equal_bool (P:=P) (hd hdd) b b' w;simp [execOp,ho,hx',hy',hg,binOp,e]
  ·rename_i hdd;obtain ⟨rfl,rfl⟩:=h1.ret1_inv;refine OpOK.of_pure (x:=.bool _) hR ?_ (.pure (.bool _));have e:=run_equal_bool (P:=P) (hd hdd) b b' w;simp [execOp,ho,hx',hy',hg,binOp,e]
  ·exact (EvR.fail_inv h1).elim
 ·rename_i s s' e1 e2;rw [e1] at hx; rw [e2] at hy;have hx':=hx.str_inv;have hy':=hy.str_inv;have hg:∀(u:World),(eqGuard op t x y (.string s) (.string s')).run P u=.ok () u:=by
   intro u; unfold eqGuard; cases op<;>simp
  unfold strPg at h;cases op<;>simp only at h<;>first
   | exact (EvR.fail_inv h).elim
   | (obtain ⟨rfl,rfl⟩:=h.ret1_inv
      refine OpOK.of_pure (x:=.bool _) hR ?_ (.pure (.bool _))
      simp [execOp,ho,hx',hy',hg,binOp,Op.stringOp]
      done)
   | (obtain ⟨hp,rfl,rfl⟩:=h.need1_inv
      refine OpOK.of_pure (x:=.string _) hR ?_ (.pure (.str _))
      have hle:¬ (((s.size+s'.size:Nat):Int) > IntKind.i64.max):=by
       have:IntKind.i64.max=9223372036854775807:=by decide
       rw [this]
       omega
      simp only [execOp,ho,hx',hy',binOp,Op.stringOp,Sem.run_bind,hg,Result.andThen_ok]
      rw [if_neg hle]
      rfl)
 ·rename_i cs cs' e1 e2;rw [e1] at hx; rw [e2] at hy;obtain ⟨xs,hx',hl,hrx⟩:=hx.agg_inv;obtain ⟨ys,hy',hl',hry⟩:=hy.agg_inv;split at h
  ·rename_i zs hz;have hg:∀(u:World),(eqGuard op t x y (.agg xs) (.agg ys)).run P u=.ok () u:=fun u=>run_eqGuard_agg u op t x y xs ys (hc.eqs t zs hz).guard;split at h
   ·rename_i r' he;obtain ⟨rfl,rfl⟩:=h.ret1_inv;have e:=run_equal_agg hc hz he hl hl' hrx hry;refine OpOK.of_pure (x:=.bool _) hR ?_ (.pure (.bool _));simp only [execOp,ho,hx',hy',Sem.run_bind,hg,Result.andThen_ok,run_eql_struct,e];rfl
   ·rename_i r' he;obtain ⟨rfl,rfl⟩:=h.ret1_inv;have e:=run_equal_agg hc hz he hl hl' hrx hry;refine OpOK.of_pure (x:=.bool _) hR ?_ (.pure (.bool _));simp only [execOp,ho,hx',hy',Sem.run_bind,hg,Result.andThen_ok,run_neq_struct,e];rfl
   ·exact (EvR.fail_inv h).elim
  ·exact (EvR.fail_inv h).elim
 ·exact (EvR.fail_inv h).elim
theorem op_unOp (hR:Rel cfg cx H D w I O) {op:UnOp} {t:TypeId} {x:Operand} (ho:o.op=.unOp op t x) (hx:Rep w I O D (ρ x) (a.eval x))
  (h:EvR Sp H (opPg cfg nid (.unOp op t x) ρ) v ups r):OpOK P cfg cx H D w I O nid o a v ups:=by
 simp only [opPg] at h;split at h
 ·rename_i b e;rw [e] at hx;obtain ⟨rfl,rfl⟩:=h.ret1_inv;refine OpOK.of_pure (x:=.bool _) hR ?_ (.pure (.bool _));simp [execOp,ho,hx.bool_inv,Op.unary]
 ·rename_i k n e;rw [e] at hx;obtain ⟨hk1,h1⟩:=h.chk_inv;have hk:k=.i64:=by simpa [kindEq] using hk1
  subst hk;obtain ⟨hp,rfl,rfl⟩:=h1.need1_inv;refine OpOK.of_pure (x:=.int .i64 _) hR ?_ (.pure (.int _ _));simp [execOp,ho,hx.int_inv,Op.unary,Op.intArith,wrap_i64 hp]
 ·exact (EvR.fail_inv h).elim
theorem op_nilCheck (hR:Rel cfg cx H D w I O) {x:Operand} (ho:o.op=.nilCheck x) (hx:Rep w I O D (ρ x) (a.eval x))
  (h:EvR Sp H (opPg cfg nid (.nilCheck x) ρ) v ups r):OpOK P cfg cx H D w I O nid o a v ups:=by
 simp only [opPg] at h;split at h
 ·rename_i ob i off e;rw [e] at hx;obtain ⟨obj,_,hob,h1⟩:=h.rd_inv;obtain ⟨rfl,rfl⟩:=h1.ret1_inv;cases hp:O ob with
  | none=>rw [(hR.dom ob).1 hp] at hob; cases hob
  | some p=>
   obtain ⟨b,bo,sz,h1,h2,h3⟩:=hx.ptr_inv hp;exact OpOK.of_pure hR (by simp [execOp,ho,h3]) (h3 ▸ hx)
 ·rename_i cs e;rw [e] at hx;obtain ⟨rfl,rfl⟩:=h.ret1_inv;generalize hxe:a.eval x=xv at hx;have hx0:=hx;cases hx.ro_inv;exact OpOK.of_pure hR (by simp [execOp,ho,hxe]) hx0
 ·rename_i f cs e;rw [e] at hx;obtain ⟨rfl,rfl⟩:=h.ret1_inv;obtain ⟨vs,h1,h2,h3⟩:=hx.fn_inv;exact OpOK.of_pure hR (by simp [execOp,ho,h1]) (h1 ▸ hx)
 ·exact (EvR.fail_inv h).elim
theorem op_extract (hR:Rel cfg cx H D w I O) {t:Operand} {i:Nat} (ho:o.op=.extract t i) (hx:Rep w I O D (ρ t) (a.eval t))
  (h:EvR Sp H (opPg cfg nid (.extract t i) ρ) v ups r):OpOK P cfg cx H D w I O nid o a v ups:=by
 simp only [opPg] at h;split at h
 ·rename_i vs e;rw [e] at hx;obtain ⟨hl,h1⟩:=h.chk_inv;obtain ⟨rfl,rfl⟩:=h1.ret1_inv;obtain ⟨xs,h1,h2,h3⟩:=hx.tup_inv;have hl:i<vs.length:=by simpa using hl
  have hi:i<xs.size:=by omega
  refine OpOK.of_pure (x:=xs.getD i Go.undef) hR ?_ (h3 i hl);simp [execOp,ho,h1,Instr.extract,Array.getElem?_eq_getElem hi]
 ·exact (EvR.fail_inv h).elim
theorem rep_map {l:List Operand} (h:∀x∈l,Rep w I O D (ρ x) (a.eval x)):∀j,j<(l.map ρ).length→Rep w I O D (nth (l.map ρ) j) ((l.map a.eval).toArray.getD j Go.undef):=by
 intro j hj;have hj':j<l.length:=by simpa using hj
 rw [nth_eq];simp [hj'];exact h _ (List.getElem_mem hj')
theorem op_makeFunc (hR:Rel cfg cx H D w I O) {fn:Fn} {first cap:Array Operand} (ho:o.op=.makeFunc fn first cap) (hx:∀x∈cap.toList,Rep w I O D (ρ x) (a.eval x))
  (h:EvR Sp H (opPg cfg nid (.makeFunc fn first cap) ρ) v ups r):OpOK P cfg cx H D w I O nid o a v ups:=by
 simp only [opPg] at h;split at h
 ·rename_i f e;obtain ⟨rfl,rfl⟩:=h.ret1_inv;have hf:first=#[]:=by simpa using e
  subst hf;refine OpOK.of_pure (x:=.func (.func f) #[] (cap.map a.eval)) hR (by simp [execOp,ho,Instr.makeFunc]) (.fn (by simp) fun j hj=>?_);have:=rep_map hx j hj;simpa using this
 ·exact (EvR.fail_inv h).elim
theorem Zj (hc:CfgOK P cfg) (hR:Rel cfg cx H D w I O) {c:Call} (ho:o.op=.call c) (hcl:c.callee=.builtin .cap) (hx:∀x∈c.args.toList,Rep w I O D (ρ x) (a.eval x))
  (h:EvR Sp H (opPg cfg nid (.call c) ρ) v ups r):OpOK P cfg cx H D w I O nid o a v ups:=by
 simp only [opPg,hcl] at h;split at h
 ·rename_i es n g t e1 e2;obtain ⟨ti,ht,h1⟩:=h.ty_inv;obtain ⟨x,hxe⟩:∃x,c.args=#[x]:=by
   match hl:c.args.toList with
   | []=>simp [hl] at e1
   | [x]=>exact ⟨x,by rw [← Array.toList_inj]; simpa using hl⟩
   | x::y::l=>simp [hl] at e1
  have e1':ρ x=.sl es n true g:=by simpa [hxe] using e1
  have hx':Rep w I O D (.sl es n true g) (a.eval x):=e1' ▸ hx x (by simp [hxe]);have hte:c.argTypes=#[t]:=by rw [← Array.toList_inj]; simpa using e2
  obtain ⟨_,dd,_,_,hud,_,_,_,_,_,_,_,hm⟩:=(hc.ty t ti ht).ex;split at h1
  ·rename_i e;rw [e] at hm;have hm:dd=.slice _:=hm;subst hm;obtain ⟨rfl,rfl⟩:=h1.ret1_inv;generalize hxv:a.eval x=xv at hx';have hq:=hx'.sl_inv;cases hq with
   | @sl _ _ _ _ aa cap b off vs hcap hfull ha hes hm h1 hr=>
   have hcn:cap=n:=hfull rfl;subst hcn;refine OpOK.of_pure (x:=.int .i64 _) hR ?_ (.pure (.int _ _));simp [execOp,ho,hcl,resolve,invoke,builtin,Builtin.cap_,hxe,hte,hxv,run_underlying' hud,goInt]
  ·exact (EvR.fail_inv h1).elim
 ·exact (EvR.fail_inv h).elim
theorem op_len (hc:CfgOK P cfg) (hR:Rel cfg cx H D w I O) {c:Call} (ho:o.op=.call c) (hcl:c.callee=.builtin .len) (hx:∀x∈c.args.toList,Rep w I O D (ρ x) (a.eval x))
  (h:EvR Sp H (opPg cfg nid (.call c) ρ) v ups r):OpOK P cfg cx H D w I O nid o a v ups:=by
 simp only [opPg,hcl] at h;split at h
 ·rename_i u t e1 e2;obtain ⟨ti,ht,h1⟩:=h.ty_inv;obtain ⟨x,hxe⟩:∃x,c.args=#[x]:=by
   match hl:c.args.toList with
   | []=>simp [hl] at e1
   | [x]=>exact ⟨x,by rw [← Array.toList_inj]; simpa using hl⟩
   | x::y::l=>simp [hl] at e1
  have e1':ρ x=u:=by simpa [hxe] using e1
  have hx':Rep w I O D u (a.eval x):=e1' ▸ hx x (by simp [hxe]);have hte:c.argTypes=#[t]:=by rw [← Array.toList_inj]; simpa using e2
  obtain ⟨_,dd,_,_,hud,_,_,_,_,_,_,_,hm⟩:=(hc.ty t ti ht).ex;split at h1
  ·rename_i e;rw [e] at hm;have hm:dd=.slice _:=hm;subst hm;obtain ⟨rfl,rfl⟩:=h1.ret1_inv;generalize hxv:a.eval x=xv at hx';cases hx'.sl_inv;refine OpOK.of_pure (x:=.int .i64 _) hR ?_ (.pure (.int _ _));simp [execOp,ho,hcl,resolve,invoke,builtin,Builtin.len_,hxe,hte,hxv,run_underlying' hud,goInt]
  ·rename_i ob i n f _ e;rw [e] at hm;have hm:dd=.slice _:=hm;subst hm;obtain ⟨obj,_,hob,h2⟩:=h1.rd_inv;obtain ⟨rfl,rfl⟩:=h2.ret1_inv;cases hp:O ob with
   | none=>rw [(hR.dom ob).1 hp] at hob; cases hob
   | some p=>
    obtain ⟨aa,cap,hxv,_⟩:=hx'.osl_inv hp;refine OpOK.of_pure (x:=.int .i64 _) hR ?_ (.pure (.int _ _));simp [execOp,ho,hcl,resolve,invoke,builtin,Builtin.len_,hxe,hte,hxv,run_underlying' hud,goInt]
  ·rename_i s e;rw [e] at hm;have hm:dd=.string:=hm;subst hm;obtain ⟨rfl,rfl⟩:=h1.ret1_inv;refine OpOK.of_pure (x:=.int .i64 _) hR ?_ (.pure (.int _ _));simp [execOp,ho,hcl,resolve,invoke,builtin,Builtin.len_,hxe,hte,hx'.str_inv,run_underlying' hud,goInt]
  ·exact (EvR.fail_inv h1).elim
 ·exact (EvR.fail_inv h).elim
theorem args2 {c:Call} {u u':AV} (e:c.args.toList.map ρ=[u,u']):∃x y,c.args=#[x,y]∧ρ x=u∧ρ y=u':=by
 match hl:c.args.toList with
 | []=>simp [hl] at e
 | [x]=>simp [hl] at e
 | [x,y]=>
  rw [hl] at e
  simp at e
  exact ⟨x,y,by rw [← Array.toList_inj]; simpa using hl,e.1,e.2⟩
 | x::y::z::l=>simp [hl] at e
theorem op_min (hR:Rel cfg cx H D w I O) {c:Call} (ho:o.op=.call c) (hcl:c.callee=.builtin .min) (hx:∀x∈c.args.toList,Rep w I O D (ρ x) (a.eval x))
  (h:EvR Sp H (opPg cfg nid (.call c) ρ) v ups r):OpOK P cfg cx H D w I O nid o a v ups:=by
 simp only [opPg,hcl] at h;split at h
 ·rename_i k n k' n' e;obtain ⟨rfl,rfl⟩:=h.ret1_inv;obtain ⟨x,y,hxy,e1,e2⟩:=args2 e;have h1:=e1 ▸ hx x (by simp [hxy]);have h2:=e2 ▸ hx y (by simp [hxy]);refine OpOK.of_pure (x:=.int k _) hR ?_ (.pure (.int _ _));simp [execOp,ho,hcl,resolve,invoke,builtin,Builtin.min_,Builtin.min2,hxy,h1.int_inv,h2.int_inv]
 ·exact (EvR.fail_inv h).elim
theorem op_max (hR:Rel cfg cx H D w I O) {c:Call} (ho:o.op=.call c) (hcl:c.callee=.builtin .max) (hx:∀x∈c.args.toList,Rep w I O D (ρ x) (a.eval x))
  (h:EvR Sp H (opPg cfg nid (.call c) ρ) v ups r):OpOK P cfg cx H D w I O nid o a v ups:=by
 simp only [opPg,hcl] at h;split at h
 ·rename_i k n k' n' e;obtain ⟨rfl,rfl⟩:=h.ret1_inv;obtain ⟨x,y,hxy,e1,e2⟩:=args2 e;have h1:=e1 ▸ hx x (by simp [hxy]);have h2:=e2 ▸ hx y (by simp [hxy]);refine OpOK.of_pure (x:=.int k _) hR ?_ (.pure (.int _ _));simp [execOp,ho,hcl,resolve,invoke,builtin,Builtin.max_,Builtin.max2,hxy,h1.int_inv,h2.int_inv]
 ·exact (EvR.fail_inv h).elim
theorem CfgOK.field (hc:CfgOK P cfg) {s:TypeId} {ts:TyI} {f oo t:Nat} (h:look cfg.ty s=some ts) (hf:fieldOf ts f=some (oo,t)):
  ∃fields fd,P.underlying s=some (.struct fields)∧fields[f]? = some fd∧fd.offset=oo∧fd.type=t:=by
 obtain ⟨_,dd,_,_,hud,_,_,_,_,_,_,_,hm⟩:=(hc.ty s ts h).ex;unfold fieldOf at hf;split at hf
 ·rename_i fs e;rw [e] at hm;obtain ⟨fields,rfl,hfs⟩:=hm;subst hfs;have key:∀(l:List Field) (f:Nat),nthF (l.map fun f=>(f.offset,f.type)) f=some (oo,t)→∃fd,l[f]? = some fd∧fd.offset=oo∧fd.type=t:=by
   intro l;induction l with
   | nil=>intro f h; simp [nthF] at h
   | cons x l ih=>
    intro f h;cases f with
    | zero=>simp [nthF] at h; exact ⟨x,rfl,h.1,h.2⟩
    | succ f=>simp only [List.map_cons,nthF] at h; simpa using ih f h
  obtain ⟨fd,h1,h2,h3⟩:=key _ _ hf;exact ⟨fields,fd,hud,by simpa using h1,h2,h3⟩
 ·cases hf
theorem nth_drop (l:List AV) (k j:Nat):nth (l.drop k) j=nth l (k+j):=by
 simp [nth_eq]
theorem op_fieldAddr (hc:CfgOK P cfg) (hR:Rel cfg cx H D w I O) {s:TypeId} {x:Operand} {f:Nat} (ho:o.op=.fieldAddr s x f) (hx:Rep w I O D (ρ x) (a.eval x))
  (h:EvR Sp H (opPg cfg nid (.fieldAddr s x f) ρ) v ups r):OpOK P cfg cx H D w I O nid o a v ups:=by
 simp only [opPg] at h;obtain ⟨ts,hs,h1⟩:=h.ty_inv;split at h1
 ·rename_i oo t hf;obtain ⟨ti,ht,h2⟩:=h1.ty_inv;obtain ⟨hpos,h3⟩:=h2.chk_inv;have hpos:0<ti.size:=by simpa using hpos
  obtain ⟨fields,fd,hu,hfd,ho1,ho2⟩:=hc.field hs hf;obtain ⟨i,_,_,hi,_,_,hsz,_⟩:=(hc.ty t ti ht).ex;have hne:¬ i.size=0:=by omega
  have place:∀b bo,(Instr.fieldAt s (.pointer (some ⟨b,bo,none⟩)) f).run P w=.ok (.pointer (some ⟨b,bo+oo,none⟩)) w:=by
   intro b bo;simp [Instr.fieldAt,Instr.sureAddr,run_underlying' hu,hfd,fieldPlace,ho1,ho2,run_sizeOf' hi,hne,Addr.add_mid]
  split at h3
  ·rename_i ob i off e;rw [e] at hx;obtain ⟨obj,_,hob,h4⟩:=h3.rd_inv;obtain ⟨rfl,rfl⟩:=h4.ret1_inv;cases hp:O ob with
   | none=>rw [(hR.dom ob).1 hp] at hob; cases hob
   | some p=>
    obtain ⟨b,bo,sz,h5,h6,h7⟩:=hx.ptr_inv hp;refine OpOK.of_pure (x:=.pointer (some ⟨b,bo+(i*p.es+(off+oo)),none⟩)) hR ?_ (.ptr hp h5 h6);have:bo+(i*p.es+off)+oo=bo+(i*p.es+(off+oo)):=by omega
    simp [execOp,ho,h7,place,this]
  ·rename_i cs e;rw [e] at hx;obtain ⟨rfl,rfl⟩:=h3.ret1_inv;generalize hxv:a.eval x=xv at hx;cases hx.ro_inv with
   | ro b off vs hI hm hr=>
    refine OpOK.of_pure (x:=.pointer (some ⟨b,off+oo,none⟩)) hR (by simp [execOp,ho,hxv,place]) (.pure (.ro b (off+oo) (fun j=>vs (oo+j)) hI (fun j hj=>?_) fun j hj=>?_))
    ·have:=hm (oo+j) (by simp at hj; omega);rw [← this,Nat.add_assoc]
    ·rw [nth_drop]; exact hr (oo+j) (by simp at hj; omega)
  ·exact (EvR.fail_inv h3).elim
 ·exact (EvR.fail_inv h1).elim
end
end Go.Ab
namespace Go.Ab
section
variable {P:Program} {cfg:Cfg} {cx:Ctx} {H:Nat→Option AObj} {D:Nat→Prop} {w:World} {I:Nat→Prop} {O:OM} {Sp:SpecT}
variable {nid:Nat} {o:Oper} {a:Act} {ρ:Operand→AV} {v:AV} {ups:Ups} {r:List Nat}
theorem CfgOK.agg (hc:CfgOK P cfg) {t:TypeId} {ti:TyI} (h:look cfg.ty t=some ti):∃i d,P.info? t=some i∧P.underlying t=some d∧d.isRow=ti.agg∧i.size=ti.size:=by
 obtain ⟨i,d,z,h1,h2,h3,h4,h5,h6,_⟩:=(hc.ty t ti h).ex;exact ⟨i,d,h1,h2,h6,h4⟩
theorem run_isAgg {t:TypeId} {d:TypeDesc} (h:P.underlying t=some d) (w:World):(isAgg t).run P w=.ok d.isRow w:=by
 unfold isAgg;rw [Sem.run_bind,run_underlying' h w];cases d<;>simp
theorem run_load_cells (hc:CfgOK P cfg) {t:TypeId} {ti:TyI} (ht:look cfg.ty t=some ti) {cs:List AV} (h:EvR Sp H (loadPg ti cs) v ups r) (b bo:Nat) (f:Nat→Value)
  (hm:∀j,j<cs.length→w.cell? ⟨b,bo+j,none⟩=some (f j)) (hr:∀j,j<cs.length→Rep w I O D (nth cs j) (f j)):
  ups=[]∧∃x,(Instr.loadAt t (.pointer (some ⟨b,bo,none⟩))).run P w=.ok x w∧Rep w I O D v x:=by
 obtain ⟨i,d,hi,hu,hd,hs⟩:=hc.agg ht;unfold loadPg at h;cases ha:ti.agg with
 | true=>
  simp only [ha] at h;obtain ⟨hl,h1⟩:=h.chk_inv;obtain ⟨rfl,rfl⟩:=h1.ret1_inv;have hl:ti.size≤cs.length:=by simpa using hl
  refine ⟨rfl,.agg ((List.range ti.size).map f).toArray,?_,.agg (by simp [Nat.min_eq_left hl]) fun j hj=>?_⟩
  ·refine run_loadAt_mid w b bo t _ d (fun j u hj=>?_) hu (by rw [hd,ha]) (by simp [hi,hs]);have hlt:j<ti.size:=by
    rcases Nat.lt_or_ge j ti.size with h | h
    ·exact h
    ·simp [h] at hj
   simp [hlt] at hj;rw [← hj];exact hm j om
  ·have hj':j<ti.size:=by simp at hj; omega
   have e:nth (List.take ti.size cs) j=nth cs j:=by simp [nth_eq,hj']
   rw [e];simpa [hj'] using hr j om
 | false=>
  simp only [ha] at h;cases cs with
  | nil=>exact (EvR.fail_inv h).elim
  | cons c cs=>
   obtain ⟨rfl,rfl⟩:=h.ret1_inv;refine ⟨rfl,f 0,?_,hr 0 (by simp)⟩;have h0:=hm 0 (by simp);have hag:(isAgg t).run P w=.ok false w:=by rw [run_isAgg hu,hd,ha]
   simp only [Nat.add_zero] at h0;simp [Instr.loadAt,Instr.sureAddr,loadVar,Sem.run_bind,hag,load,Sem.run,h0]
theorem Rel.live (hR:Rel cfg cx H D w I O) {ob:Nat} {x:AObj} (h:H ob=some x):∃p,O ob=some p∧ObjRep w I O D p x:=by
 cases hp:O ob with
 | none=>rw [(hR.dom ob).1 hp] at h; cases h
 | some p=>exact ⟨p,rfl,hR.objs ob x p h hp⟩
theorem cellAt_eq {b sz j:Nat} (h:Alive w b sz) (hj:j<sz):w.cell? ⟨b,j,none⟩=some (cellAt w b j):=by
 obtain ⟨u,hu⟩:=Option.isSome_iff_exists.1 (h j hj).1;simp [cellAt,hu]
theorem OE {i j:Nat} (h:(isZ i&&isZ j)=true):i=0∧j=0:=by
 cases i<;>cases j<;>simp_all [isZ]
theorem Vd (l m:List AV) (j:Nat):nth (l++m) j=if j<l.length then nth l j else nth m (j - l.length):=by
 rw [nth_eq,nth_eq,nth_eq];by_cases h:j<l.length
 ·rw [if_pos h]; simp [List.getElem?_append_left h]
 ·rw [if_neg h]; simp [List.getElem?_append_right (by omega:l.length≤j)]
theorem QH {es:Nat} {g:Nat→AV}:∀(k i:Nat),(∀j,i≤j→j<i+k→(g j).cells.length=es)→(je k i g).length=k*es∧∀a b,a<k→b<es→nth (je k i g) (a*es+b)=nth (g (i+a)).cells b:=by
 intro k;induction k with
 | zero=>intro i _; exact ⟨by simp [je],fun a b h=>absurd h (Nat.not_lt_zero _)⟩
 | succ k ih=>
  intro i h;obtain ⟨h1,h2⟩:=ih (i+1) (fun j hj hj'=>h j om om);have h0:=h i (Nat.le_refl _) om;refine ⟨by simp only [je,List.length_append,h0,h1]; rw [Nat.succ_mul]; omega,fun a b ha hb=>?_⟩;simp only [je];rw [Vd,h0];cases a with
  | zero=>simp only [Nat.zero_mul,Nat.zero_add,Nat.add_zero]; rw [if_pos hb]
  | succ a=>
   rw [if_neg (by rw [Nat.succ_mul]; omega)];have e1:(a+1)*es+b - es=a*es+b:=by rw [Nat.succ_mul]; omega
   rw [e1,h2 a b om hb];congr 2;congr 1;omega
theorem Zk {q n es:Nat} (h:q<n*es):q / es<n∧q % es<es∧q / es*es+q % es=q:=by
 have hes:0<es:=by
  rcases Nat.eq_zero_or_pos es with h0 | h0
  ·subst h0; simp at h
  ·exact h0
 refine ⟨Nat.div_lt_of_lt_mul (by rw [Nat.mul_comm]; exact h),Nat.mod_lt _ hes,?_⟩;rw [Nat.mul_comm];exact Nat.div_add_mod q es
theorem KI {w:World} {I:Nat→Prop} {es n b bo:Nat} {g:Nat→AV} (hlen:∀i,i<n→(g i).cells.length=es) (hcs:∀i j,i<n→j<es→PRep w I (nth (g i).cells j) (cellAt w b (bo+(i*es+j)))∧(cellAt w b (bo+(i*es+j))).oneCell'=true):
  (je n 0 g).length=n*es∧∀q,q<(je n 0 g).length→PRep w I (nth (je n 0 g) q) (cellAt w b (bo+q)):=by
 obtain ⟨h1,h2⟩:=QH n 0 (fun j _ hj=>hlen j om);refine ⟨h1,fun q hq=>?_⟩;rw [h1] at hq;obtain ⟨h3,h4,h5⟩:=Zk hq;have h6:=h2 (q / es) (q % es) h3 h4;have h7:=(hcs (q / es) (q % es) h3 h4).1;rw [h5] at h6 h7;rw [h6,Nat.zero_add];exact h7
theorem op_load (hc:CfgOK P cfg) (hR:Rel cfg cx H D w I O) {t:TypeId} {x:Operand} (ho:o.op=.load t x) (hx:Rep w I O D (ρ x) (a.eval x))
  (h:EvR Sp H (opPg cfg nid (.load t x) ρ) v ups r):OpOK P cfg cx H D w I O nid o a v ups:=by
 simp only [opPg] at h;obtain ⟨ti,ht,h1⟩:=h.ty_inv;split at h1
 ·rename_i ob i off e;rw [e] at hx;obtain ⟨obj,_,hob,h2⟩:=h1.rd_inv;obtain ⟨p,hp,hO⟩:=hR.live hob;obtain ⟨b,bo,sz,hpl,hi,hxv⟩:=hx.ptr_inv hp;cases obj with
  | map=>exact (EvR.fail_inv h2).elim
  | box cs=>
   obtain ⟨hn,b',bo',sz',hpl',hal,hle,hcs⟩:=hO;rw [hpl] at hpl';cases hpl';have hi0:i=0:=by omega
   subst hi0;obtain ⟨rfl,x',hrun,hrep⟩:=run_load_cells (w:=w) (I:=I) (O:=O) (D:=D) hc ht h2 b (bo+off) (fun j=>cellAt w b (bo+(off+j)))
    (fun j hj=>by rw [Nat.add_assoc]; exact cellAt_eq hal (by simp at hj; omega)) (fun j hj=>by rw [nth_drop]; exact hcs (off+j) (by simp at hj; omega))
   refine OpOK.of_pure hR ?_ hrep;simp only [Nat.zero_mul,Nat.zero_add] at hxv;simp [execOp,ho,hxv,hrun]
  | row es n g=>
   obtain ⟨hn,hes,hlen,hpl' | ⟨b',bo',sz',hpl',hal,hle,hcs⟩⟩:=hO
   ·rw [hpl] at hpl'; cases hpl'.2
   rw [hpl] at hpl';cases hpl';simp only at h2;split at h2
   ·obtain ⟨hz,h3⟩:=h2.chk_inv;obtain ⟨rfl,rfl⟩:=OE hz;obtain ⟨hrl,hrr⟩:=KI hlen hcs;obtain ⟨rfl,x',hrun,hrep⟩:=run_load_cells (w:=w) (I:=I) (O:=O) (D:=D) hc ht h3 b bo (fun j=>cellAt w b (bo+j)) (fun j hj=>cellAt_eq hal om) (fun j hj=>.pure (hrr j hj));refine OpOK.of_pure hR ?_ hrep;simp only [Nat.zero_mul,Nat.zero_add,Nat.add_zero] at hxv;simp [execOp,ho,hxv,hrun]
   obtain ⟨hk,h3⟩:=h2.chk_inv;have hin:i<n:=by omega
   have hmul:(i+1)*es≤n*es:=Nat.mul_le_mul_right _ hin;have hmul':(i+1)*es=i*es+es:=Nat.succ_mul _ _;have hli:=hlen i hin;obtain ⟨rfl,x',hrun,hrep⟩:=run_load_cells (w:=w) (I:=I) (O:=O) (D:=D) hc ht h3 b (bo+(i*es+off)) (fun j=>cellAt w b (bo+(i*es+(off+j))))
    (fun j hj=>by
      have:bo+(i*es+off)+j=bo+(i*es+(off+j)):=by omega
      rw [this]
      exact cellAt_eq hal (by simp at hj; omega)) (fun j hj=>by rw [nth_drop]; exact .pure (hcs i (off+j) hin (by simp at hj; omega)).1)
   refine OpOK.of_pure hR ?_ hrep;rw [hes] at hxv;simp [execOp,ho,hxv,hrun]
 ·rename_i cs e;rw [e] at hx;generalize hxv:a.eval x=xv at hx;cases hx.ro_inv with
  | ro b off vs hI hm hr=>
   obtain ⟨rfl,x',hrun,hrep⟩:=run_load_cells (w:=w) (I:=I) (O:=O) (D:=D) hc ht h1 b off vs hm (fun j hj=>.pure (hr j hj));exact OpOK.of_pure hR (by simp [execOp,ho,hxv,hrun]) hrep
 ·exact (EvR.fail_inv h1).elim
theorem op_field (hc:CfgOK P cfg) (hR:Rel cfg cx H D w I O) {s:TypeId} {x:Operand} {f:Nat} (ho:o.op=.field s x f) (hx:Rep w I O D (ρ x) (a.eval x))
  (h:EvR Sp H (opPg cfg nid (.field s x f) ρ) v ups r):OpOK P cfg cx H D w I O nid o a v ups:=by
 simp only [opPg] at h;obtain ⟨ts,hs,h1⟩:=h.ty_inv;split at h1
 ·rename_i oo t hf;obtain ⟨ti,ht,h2⟩:=h1.ty_inv;obtain ⟨fields,fd,hu,hfd,ho1,ho2⟩:=hc.field hs hf;obtain ⟨i,d,hi,hu',hd,hsz⟩:=hc.agg ht;split at h2
  ·rename_i cs e;rw [e] at hx;obtain ⟨vs,hxv,hl,hr⟩:=hx.agg_inv;have hag:=run_isAgg hu' w;unfold loadPg at h2;cases ha:ti.agg with
   | true=>
    simp only [ha] at h2;obtain ⟨hle,h3⟩:=h2.chk_inv;obtain ⟨rfl,rfl⟩:=h3.ret1_inv;have hle:ti.size≤cs.length - oo:=by simpa using hle
    rw [hd,ha] at hag;have e1:(part t vs oo).run P w=.ok (.agg (vs.extract oo (oo+ti.size))) w:=by simp [part,Sem.run_bind,hag,run_sizeOf' hi,hsz]
    refine OpOK.of_pure (x:=.agg (vs.extract oo (oo+ti.size))) hR ?_ (.agg ?_ fun j hj=>?_)
    ·rw [← ho2] at e1;simp only [execOp,ho,Instr.field,hxv,Sem.run_bind,run_underlying' hu,hfd,asAgg,Sem.run_pure,Result.andThen_ok,e1,ho1]
    ·simp; omega
    ·have hj':j<ti.size:=by simp at hj; omega
     have:=hr (oo+j) om;have e:nth (List.take ti.size (List.drop oo cs)) j=nth cs (oo+j):=by simp [nth_eq,hj']
     rw [e];have h4:oo+j<vs.size:=by omega
     simp [h4] at this;have h5:(vs.extract oo (oo+ti.size))[j]? = vs[oo+j]? := by
      rw [Array.getElem?_extract,if_pos om]
     simp only [Array.getD_eq_getD_getElem?, h5];simpa [h4] using this
   | false=>
    simp only [ha] at h2;rw [hd,ha] at hag;cases hcs:List.drop oo cs with
    | nil=>simp only [hcs] at h2; exact (EvR.fail_inv h2).elim
    | cons c l=>
     simp only [hcs] at h2;obtain ⟨rfl,rfl⟩:=h2.ret1_inv;have hlt:oo<cs.length:=by
      rcases Nat.lt_or_ge oo cs.length with h | h
      ·exact h
      ·rw [List.drop_eq_nil_of_le h] at hcs; cases hcs
     have hc0:nth cs oo=v:=by
      have:=nth_drop cs oo 0;rw [hcs] at this;simpa [nth] using this.symm
     have h4:oo<vs.size:=by omega
     have e1:(part t vs oo).run P w=.ok (vs.getD oo Go.undef) w:=by simp [part,Sem.run_bind,hag,Array.getElem?_eq_getElem h4]
     refine OpOK.of_pure (x:=vs.getD oo Go.undef) hR ?_ (hc0 ▸ hr oo hlt);rw [← ho2] at e1;simp only [execOp,ho,Instr.field,hxv,Sem.run_bind,run_underlying' hu,hfd,asAgg,Sem.run_pure,Result.andThen_ok,e1,ho1]
  ·exact (EvR.fail_inv h2).elim
 ·exact (EvR.fail_inv h1).elim
theorem esOk_spec {es n size:Nat} (h:esOk es n size=true) (hn:n≠0):es=size:=by
 unfold esOk at h;cases hb:Nat.beq es size with
 | true=>exact Nat.eq_of_beq_eq_true hb
 | false=>
  simp only [hb] at h;cases n with
  | zero=>exact absurd rfl hn
  | succ n=>simp [isZ] at h
theorem addN_eq (i j:Nat):addN i j=i+j:=by cases i<;>simp [addN]
theorem RG (hc:CfgOK P cfg) {t:TypeId} {n et:Nat} (h:Wx cfg t=some (n,et)):P.underlying t=some (.array n et)∧∃ti,look cfg.ty t=some ti∧OT ti.desc=some (n,et):=by
 unfold Wx at h;split at h
 ·rename_i ti ht;refine ⟨?_,ti,ht,h⟩;obtain ⟨_,d,_,_,hu,_,_,_,_,_,_,_,hm⟩:=(hc.ty t ti ht).ex;unfold OT at h;split at h
  ·rename_i n' e' hd;cases h;rw [hd] at hm;have hm:d=.array n et:=hm;rw [hu,hm]
  ·cases h
 ·cases h
theorem op_indexAddr (hc:CfgOK P cfg) (hR:Rel cfg cx H D w I O) {t:TypeId} {x ix:Operand} (ho:o.op=.indexAddr t x ix) (hx:Rep w I O D (ρ x) (a.eval x)) (hix:Rep w I O D (ρ ix) (a.eval ix))
  (h:EvR Sp H (opPg cfg nid (.indexAddr t x ix) ρ) v ups r):OpOK P cfg cx H D w I O nid o a v ups:=by
 simp only [opPg] at h;split at h
 ·rename_i n et harr;obtain ⟨hu,_⟩:=RG hc harr;obtain ⟨ei,hei,h1⟩:=h.ty_inv;split at h1
  ·rename_i k ii ob j off e1 e2;rw [e1] at hix;rw [e2] at hx;have hixv:=hix.int_inv;obtain ⟨obj,_,hob,h2⟩:=h1.rd_inv;obtain ⟨p,hp,hO⟩:=hR.live hob;obtain ⟨b,bo,sz,hpl,hjn,hxv⟩:=hx.ptr_inv hp;cases obj with
   | map=>exact (EvR.fail_inv h2).elim
   | box cs=>exact (EvR.fail_inv h2).elim
   | row es n' g=>
    obtain ⟨c1,h3⟩:=h2.chk_inv;obtain ⟨c2,h4⟩:=h3.chk_inv;obtain ⟨c3,h5⟩:=h4.chk_inv;obtain ⟨⟨hn0,hn1⟩,rfl,rfl⟩:=h5.need1_inv;obtain ⟨rfl,rfl⟩:=OE c1;have c2:es=ei.size:=Nat.eq_of_beq_eq_true c2;have c3:n'=n:=Nat.eq_of_beq_eq_true c3;have hpes:p.es=es:=hO.2.1;have hpn:p.n=n':=hO.1;obtain ⟨i,_,z,hi,_,hz,hs,_⟩:=(hc.ty et ei hei).ex;simp only [Nat.zero_mul,Nat.add_zero] at hxv;refine OpOK.of_pure (x:=.pointer (some ⟨b,bo+(ii.toNat*p.es+0),none⟩)) hR ?_ (.ptr hp hpl om);simp [execOp,ho,hxv,hixv,Instr.indexAt,asIntOf,Instr.sureAddr,run_underlying' hu,run_sizeOf' hi,hn0,hn1,hs,← c2,hpes,Addr.add_mid]
  ·exact (EvR.fail_inv h1).elim
 obtain ⟨tt,e,ti,h1,h2,h3,h4⟩:=h.elem_inv;obtain ⟨hu,i,z,hi,hz,hs,hby,hzs⟩:=hc.slice h1 h2 h3;split at h4
 ·rename_i k n eix;rw [eix] at hix;have hixv:=hix.int_inv;split at h4
  ·rename_i es m full g ex;rw [ex] at hx;obtain ⟨hes,h5⟩:=h4.chk_inv;obtain ⟨⟨hn0,hn1⟩,rfl,rfl⟩:=h5.need1_inv;generalize hxv:a.eval x=xv at hx;cases hx.sl_inv with
   | @sl _ _ _ _ aa cap b off vs hcap hfull ha hes' hm h1 hr=>
    have hm0:m≠0:=by omega
    obtain ⟨rfl,hI⟩:=ha hm0;have hesz:=esOk_spec hes hm0;have hnm:n.toNat<m:=by omega
    refine OpOK.of_pure (x:=.pointer (some ⟨b,off+n.toNat*es,none⟩)) hR ?_ (.pure (.ro b (off+n.toNat*es) (fun j=>vs n.toNat j) hI (fun j hj=>?_) fun j hj=>hr _ _ hnm (by rw [hes' _ hnm] at hj; exact hj)))
    ·simp [execOp,ho,hxv,hixv,Instr.indexAt,asIntOf,run_underlying' hu,run_sizeOf' hi,hn0,hn1,hs,hesz,Addr.add_mid]
    ·rw [Nat.add_assoc];exact hm _ _ hnm (by rw [hes' _ hnm] at hj; exact hj)
  ·rename_i ob j m full ex;rw [ex] at hx;obtain ⟨obj,_,hob,h5⟩:=h4.rd_inv;obtain ⟨p,hp,hO⟩:=hR.live hob;cases obj with
   | map=>exact (EvR.fail_inv h5).elim
   | box cs=>exact (EvR.fail_inv h5).elim
   | row es n' g=>
    obtain ⟨hes,h6⟩:=h5.chk_inv;have hes:es=ti.size:=Nat.eq_of_beq_eq_true hes;obtain ⟨⟨hn0,hn1⟩,rfl,rfl⟩:=h6.need1_inv;obtain ⟨aa,cap,hxv,hjm,hcap,hfull,hpl⟩:=hx.osl_inv hp;obtain ⟨b,bo,sz,hpl1,rfl,hle⟩:=hpl om;have hpes:p.es=es:=hO.2.1;have hnm:n.toNat<m:=by omega
    rw [addN_eq];have:bo+j*p.es+n.toNat*p.es=bo+((j+n.toNat)*p.es+0):=by rw [Nat.add_mul]; omega
    refine OpOK.of_pure (x:=.pointer (some ⟨b,bo+((j+n.toNat)*p.es+0),none⟩)) hR ?_ (.ptr hp hpl1 om);rw [← this];simp [execOp,ho,hxv,hixv,Instr.indexAt,asIntOf,run_underlying' hu,run_sizeOf' hi,hn0,hn1,hs,← hes,hpes,Addr.add_mid]
  ·exact (EvR.fail_inv h4).elim
 ·exact (EvR.fail_inv h4).elim
end
end Go.Ab
namespace Go.Ab
section
variable {P:Program} {cfg:Cfg} {cx:Ctx} {H:Nat→Option AObj} {D:Nat→Prop} {w:World} {I:Nat→Prop} {O:OM} {Sp:SpecT}
variable {nid:Nat} {o:Oper} {a:Act} {ρ:Operand→AV} {v:AV} {ups:Ups} {r:List Nat}
theorem run_slice_val {t e:TypeId} {i:TypeInfo} (hu:P.underlying t=some (.slice e)) (hi:P.info? e=some i) (aa:Option Addr) (len cap:Nat) (lo hi' mx:Option Value) (l h m:Nat)
  (hb:(Instr.sliceBounds true len cap lo hi' mx).run P w=.ok (l,h,m) w):
  (Instr.sliceAt t (.slice aa len cap) lo hi' mx).run P w=.ok (.slice (if m=l then aa else aa.map (·.add (l*i.size))) (h - l) (m - l)) w:=by
 simp [Instr.sliceAt,Instr.slice,run_underlying' hu,hb,run_sizeOf' hi]
theorem bnd0 (len cap:Nat):(Instr.sliceBounds true len cap none none none).run P w=.ok (0,len,cap) w:=by
 simp [Instr.sliceBounds]
theorem bnd1 (len cap:Nat) (k:IntKind) (h:Int) (h0:0≤h) (h1:h≤cap):(Instr.sliceBounds true len cap none (some (.int k h)) none).run P w=.ok (0,h.toNat,cap) w:=by
 simp [Instr.sliceBounds,Instr.sliceBound,asIntOf,h0,h1]
theorem bnd1' (len cap:Nat) (k:IntKind) (h:Int) (h0:0≤h) (h1:h≤cap):(Instr.sliceBounds true len cap none (some (.int k h)) (some (.int k h))).run P w=.ok (0,h.toNat,h.toNat) w:=by
 obtain ⟨n,rfl⟩:=Int.eq_ofNat_of_zero_le h0;simp at h1;simp [Instr.sliceBounds,Instr.sliceBound,asIntOf,h1]
theorem bnd2 (len cap:Nat) (k:IntKind) (l:Int) (h0:0≤l) (h1:l≤len):(Instr.sliceBounds true len cap (some (.int k l)) none none).run P w=.ok (l.toNat,len,cap) w:=by
 simp [Instr.sliceBounds,Instr.sliceBound,asIntOf,h0,h1]
theorem bnd3 (len cap:Nat) (k k':IntKind) (l h:Int) (h0:0≤l) (h1:l≤h) (h2:h≤cap):(Instr.sliceBounds true len cap (some (.int k l)) (some (.int k' h)) none).run P w=.ok (l.toNat,h.toNat,cap) w:=by
 obtain ⟨n,rfl⟩:=Int.eq_ofNat_of_zero_le h0;obtain ⟨m,rfl⟩:=Int.eq_ofNat_of_zero_le (Int.le_trans h0 h1);simp at h1 h2;simp [Instr.sliceBounds,Instr.sliceBound,asIntOf,h1,h2]
theorem bnd3' (len cap:Nat) (k k':IntKind) (l h:Int) (h0:0≤l) (h1:l≤h) (h2:h≤cap):(Instr.sliceBounds true len cap (some (.int k l)) (some (.int k' h)) (some (.int k' h))).run P w=.ok (l.toNat,h.toNat,h.toNat) w:=by
 obtain ⟨n,rfl⟩:=Int.eq_ofNat_of_zero_le h0;obtain ⟨m,rfl⟩:=Int.eq_ofNat_of_zero_le (Int.le_trans h0 h1);simp at h1 h2;simp [Instr.sliceBounds,Instr.sliceBound,asIntOf,h1,h2]
theorem prep_slice {es n cap size l h m:Nat} {full full':Bool} {g:Nat→AV} {aa:Option Addr} (hp:PRep w I (.sl es n full g) (.slice aa n cap)) (hlh:l≤h) (hhn:h≤n) (hhm:h≤m) (_hmc:m≤cap)
  (hf:full'=true→m=h) (hs:n≠0→es=size):PRep w I (.sl es (h - l) full' (fun j=>g (l+j))) (.slice (if m=l then aa else aa.map (·.add (l*size))) (h - l) (m - l)):=by
 cases hp with
 | sl b off vs hcap hfull ha hes hm h1 hr=>
  refine .sl b (off+l*es) (fun i j=>vs (l+i) j) om (fun e=>by have:=hf e; omega) (fun hne=>?_) (fun i hi=>hes _ om) (fun i j hi hj=>?_) (fun i j hi hj=>h1 _ _ om hj) (fun i j hi hj=>hr _ _ om hj)
  ·obtain ⟨h1,h2⟩:=ha om;rw [if_neg om,h1,hs om];simp [Addr.add_mid,h2]
  ·have:=hm (l+i) j om hj;rw [← this,Nat.add_mul];congr 2;omega
theorem sameOperand_spec {x y:Option Operand} (h:sameOperand x y=true):x=y:=by
 unfold sameOperand at h;split at h
 ·rw [Nat.eq_of_beq_eq_true h]
 ·cases h
theorem noMax {mx:Option Operand} (h:(!mx.isSome)=true):mx=none:=by
 cases mx with
 | none=>rfl
 | some _=>cases h
theorem maxK_inv {hi mx:Option Operand} {k:Pg} (hhi:∀y,hi=some y→Rep w I O D (ρ y) (a.eval y)) (hmx:∀y,mx=some y→Rep w I O D (ρ y) (a.eval y)) (h:EvR Sp H (maxK ρ hi mx k) v ups r):(∃r',EvR Sp H k v ups r')∧(mx.isSome=true→mx.map a.eval=hi.map a.eval):=by
 unfold maxK at h;cases mx with
 | none=>exact ⟨⟨_,h⟩,nofun⟩
 | some m=>
  cases hi with
  | none=>exact (EvR.fail_inv h).elim
  | some y=>
   simp only at h;have h1:=hhi y rfl;have h2:=hmx m rfl;split at h
   ·rename_i kk a1 kk' b1 e1 e2;obtain ⟨hk,h⟩:=h.chk_inv;obtain ⟨he,h⟩:=h.need_inv;refine ⟨⟨_,h⟩,fun _=>?_⟩;rw [e1] at h1;rw [e2] at h2;have hk:kk=kk':=of_decide_eq_true hk;simp only [Option.map_some];rw [h1.int_inv,h2.int_inv,hk,he]
   ·exact (EvR.fail_inv h).elim
theorem WC (n:Nat):(Instr.sliceBounds false n n none none none).run P w=.ok (0,n,n) w:=by simp [Instr.sliceBounds]
theorem WE (n:Nat) (k:IntKind) (h:Int) (h0:0≤h) (h1:h≤n):(Instr.sliceBounds false n n none (some (.int k h)) none).run P w=.ok (0,h.toNat,n) w:=by
 simp [Instr.sliceBounds,Instr.sliceBound,asIntOf,h0,h1]
theorem VD (hc:CfgOK P cfg) (hR:Rel cfg cx H D w I O) {t:TypeId} {x:Operand} {lo hi mx:Option Operand} (ho:o.op=.slice t x lo hi mx) (hx:Rep w I O D (ρ x) (a.eval x)) (hhi:∀y,hi=some y→Rep w I O D (ρ y) (a.eval y)) {n et:Nat} (harr:Wx cfg t=some (n,et))
  (h:EvR Sp H (tyK cfg et fun ei=>chkK mx.isNone (match ρ x with
    | .ptr o i off=>.rd o fun
     | .row es n' _=>chkK (isZ i&&isZ off) (chkK (Nat.beq es ei.size) (chkK (Nat.beq n' n) (WA o n (lo.map ρ) (hi.map ρ))))
     | _=>.fail
    | _=>.fail)) v ups r):OpOK P cfg cx H D w I O nid o a v ups:=by
 obtain ⟨hu,_⟩:=RG hc harr;obtain ⟨ei,hei,h1⟩:=h.ty_inv;obtain ⟨hmx,h2⟩:=h1.chk_inv;have hmx:mx=none:=by cases mx with | none=>rfl | some _=>cases hmx
 subst hmx;split at h2
 ·rename_i ob j off e1;rw [e1] at hx;obtain ⟨obj,_,hob,h3⟩:=h2.rd_inv;obtain ⟨p,hp,hO⟩:=hR.live hob;obtain ⟨b,bo,sz,hpl,hjn,hxv⟩:=hx.ptr_inv hp;cases obj with
  | map=>exact (EvR.fail_inv h3).elim
  | box cs=>exact (EvR.fail_inv h3).elim
  | row es n' g=>
   obtain ⟨c1,h4⟩:=h3.chk_inv;obtain ⟨c2,h5⟩:=h4.chk_inv;obtain ⟨c3,h6⟩:=h5.chk_inv;obtain ⟨rfl,rfl⟩:=OE c1;have c2:es=ei.size:=Nat.eq_of_beq_eq_true c2;have c3:n'=n:=Nat.eq_of_beq_eq_true c3;subst c3;have hpes:p.es=es:=hO.2.1;have hpn:p.n=n':=hO.1;have hsz:bo+n'*es≤sz:=by
    obtain ⟨_,_,_,hq | ⟨b',bo',sz',hpl',_,hle,_⟩⟩:=hO
    ·rw [hpl] at hq; cases hq.2
    ·rw [hpl] at hpl'; cases hpl'; exact hle
   obtain ⟨i,_,z,Yl,_,hz,hs,_⟩:=(hc.ty et ei hei).ex;simp only [Nat.zero_mul,Nat.add_zero] at hxv;have fin:∀(k:Nat) (full:Bool),k≤n'→(full=true→n'=k)→Rep w I O D (.osl ob 0 k full) (.slice (some ⟨b,bo,none⟩) k n'):=fun k full hk hf=>
    .osl hp om hk hf (fun _=>⟨b,bo,sz,hpl,by simp,by rw [hpes,Nat.zero_add]; exact hsz⟩) om
   unfold WA at h6;split at h6
   ·rename_i e2 e3;obtain ⟨rfl,rfl⟩:=h6.ret1_inv;have hlo:lo=none:=by cases lo with | none=>rfl | some _=>cases e2
    have abn:hi=none:=by cases hi with | none=>rfl | some _=>cases e3
    subst hlo;subst abn;refine OpOK.of_pure (x:=.slice (some ⟨b,bo,none⟩) n' n') hR ?_ (fin n' true (Nat.le_refl _) (fun _=>rfl));have e0:(⟨b,bo,none⟩:Addr).add 0=⟨b,bo,none⟩:=by rw [Addr.add_mid]; rfl
    by_cases hz0:n'=0
    ·simp [execOp,ho,hxv,Instr.sliceAt,Instr.sureAddr,run_underlying' hu,WC,run_sizeOf' Yl,hz0]
    ·simp [execOp,ho,hxv,Instr.sliceAt,Instr.sureAddr,run_underlying' hu,WC,run_sizeOf' Yl,hz0,e0]
   ·rename_i k hh e2 e3;obtain ⟨⟨q0,q1⟩,rfl,rfl⟩:=h6.need1_inv;have hlo:lo=none:=by cases lo with | none=>rfl | some _=>cases e2
    subst hlo;obtain ⟨y,hy,ey⟩:∃y,hi=some y∧ρ y=.int k hh:=by
     cases hi with
     | none=>cases e3
     | some y=>exact ⟨y,rfl,by simpa using e3⟩
    subst hy;have hyv:=hhi y rfl;rw [ey] at hyv;have hyv:=hyv.int_inv;refine OpOK.of_pure (x:=.slice (some ⟨b,bo,none⟩) hh.toNat n') hR ?_ (fin hh.toNat false om (fun h=>by cases h));by_cases hz0:n'=0
    ·have hb0:=WE (P:=P) (w:=w) n' k hh q0 q1;have ht0:hh.toNat=0:=by omega
     rw [ht0] at hb0 ⊢;rw [hz0] at hb0 hu ⊢;simp [execOp,ho,hxv,hyv,Instr.sliceAt,Instr.sureAddr,run_underlying' hu,hb0,run_sizeOf' Yl]
    ·simp [execOp,ho,hxv,hyv,Instr.sliceAt,Instr.sureAddr,run_underlying' hu,WE n' k hh q0 q1,run_sizeOf' Yl,hz0,(show (⟨b,bo,none⟩:Addr).add 0=⟨b,bo,none⟩ by rw [Addr.add_mid]; rfl)]
   ·exact (EvR.fail_inv h6).elim
 ·exact (EvR.fail_inv h2).elim
theorem VE (hc:CfgOK P cfg) (hR:Rel cfg cx H D w I O) {t:TypeId} {x:Operand} {lo hi mx:Option Operand} (ho:o.op=.slice t x lo hi mx) {ob i n:Nat} {f:Bool} (hx:Rep w I O D (.osl ob i n f) (a.eval x))
  (hlo:∀y,lo=some y→Rep w I O D (ρ y) (a.eval y)) (hhi:∀y,hi=some y→Rep w I O D (ρ y) (a.eval y)) (hmx:∀y,mx=some y→Rep w I O D (ρ y) (a.eval y))
  (h:EvR Sp H (elemK cfg t fun ti=>.rd ob fun
    | .row es N _=>chkK (Nat.beq es ti.size) (Wo ob i n N f (lo.map ρ) (hi.map ρ) (mx.map ρ))
    | _=>.fail) v ups r):OpOK P cfg cx H D w I O nid o a v ups:=by
 obtain ⟨tt,e,ti,h1,h2,h3,h4⟩:=h.elem_inv;obtain ⟨hu,ii,z,hi',hz,hs,hby,hzs⟩:=hc.slice h1 h2 h3;obtain ⟨obj,_,hob,h5⟩:=h4.rd_inv;obtain ⟨p,hp,hO⟩:=hR.live hob;cases obj with
 | map=>exact (EvR.fail_inv h5).elim
 | box cs=>exact (EvR.fail_inv h5).elim
 | row es N g=>
  obtain ⟨c1,h6⟩:=h5.chk_inv;have c1:es=ti.size:=Nat.eq_of_beq_eq_true c1;have hpes:p.es=es:=hO.2.1;have hpn:p.n=N:=hO.1;obtain ⟨aa,cap,hxv,a1,a2,a3,a4⟩:=hx.osl_inv hp;have hext:p.n≤i+cap:=(hxv ▸ hx).zT hp;have arg:∀(q:Option Operand) (k:IntKind) (m:Int),(∀y,q=some y→Rep w I O D (ρ y) (a.eval y))→q.map ρ=some (.int k m)→q.map a.eval=some (.int k m):=by
   intro q k m hq hm;cases q with
   | none=>cases hm
   | some y=>
    have:=hq y rfl;simp only [Option.map_some,Option.some.injEq] at hm ⊢;rw [hm] at this;exact this.int_inv
  have non:∀(q:Option Operand),q.map ρ=none→q=none:=fun q hq=>by cases q with | none=>rfl | some _=>cases hq
  have part:∀l hh full',l≤hh→i+hh≤N→(full'=true→f=true∧hh=n)→Rep w I O D (.osl ob (i+l) (hh - l) full') (.slice (if cap=l then aa else aa.map (·.add (l*ii.size))) (hh - l) (cap - l)):=by
   intro l hh full' q1 q2 q3;have hhc:hh≤cap:=by omega
   refine .osl hp om om (fun hf=>?_) (fun hne=>?_) om
   ·obtain ⟨e1,e2⟩:=q3 hf;have:=a3 e1;omega
   ·obtain ⟨b,bo,sz,e1,e2,e3⟩:=a4 om;refine ⟨b,bo,sz,e1,?_,?_⟩
    ·rw [if_neg om,e2];simp only [Option.map_some,Addr.add_mid,Option.some.injEq];rw [hpes,hs,← c1,Nat.add_mul];congr 1;omega
    ·have:i+l+(cap - l)=i+cap:=by omega
     rw [this];exact e3
  have run:∀(l hh m:Nat),(Instr.sliceBounds true n cap (lo.map a.eval) (hi.map a.eval) (mx.map a.eval)).run P w=.ok (l,hh,m) w→(execOp a.eval o).run P w=.ok (.value (.slice (if m=l then aa else aa.map (·.add (l*ii.size))) (hh - l) (m - l))) w:=by
   intro l hh m hb;have:=run_slice_val (P:=P) hu hi' aa n cap _ _ _ l hh m hb;simp only [execOp,ho,hxv,this,Sem.run_bind,Sem.run_pure,Result.andThen_ok]
  unfold Wo at h6;split at h6
  ·rename_i k m em;have hm:=arg mx k m hmx em;split at h6
   ·rename_i k1 l k2 hh el eh;obtain ⟨⟨q1,q2,q3,q4⟩,rfl,rfl⟩:=h6.need1_inv;have hl:=arg lo k1 l hlo el;have hh':=arg hi k2 hh hhi eh;refine OpOK.of_pure hR (run l.toNat hh.toNat m.toNat ?_) (.pure (.undef _));rw [hl,hh',hm];obtain ⟨l',rfl⟩:=Int.eq_ofNat_of_zero_le q1;obtain ⟨h',rfl⟩:=Int.eq_ofNat_of_zero_le (show 0≤hh by omega);obtain ⟨m',rfl⟩:=Int.eq_ofNat_of_zero_le (show 0≤m by omega);have z1:(m':Int)≤(cap:Int):=by omega
    have z2:(h':Int)≤(m':Int):=q3;have z3:(l':Int)≤(h':Int):=q2;have z4:(0:Int)≤(m':Int):=by omega
    have z5:(0:Int)≤(h':Int):=by omega
    have z6:(0:Int)≤(l':Int):=by omega
    have b1:∀(k:IntKind) (x y:Nat) (cd:BoundsCode),(x:Int)≤(y:Int)→(Instr.sliceBound (.int k x) y cd).run P w=.ok x w:=fun k x y cd hxy=>by
     have hx0:(0:Int)≤(x:Int):=by omega
     simp only [Instr.sliceBound,asIntOf,Sem.run_bind,Sem.run_pure,Result.andThen_ok];rw [if_pos ⟨hx0,hxy⟩];simp
    simp only [Instr.sliceBounds,Sem.run_bind,b1 _ _ _ _ z1,b1 _ _ _ _ z2,b1 _ _ _ _ z3,Result.andThen_ok,Sem.run_pure,Int.toNat_natCast]
   ·rename_i k2 hh el eh;obtain ⟨⟨q1,q2,q3⟩,rfl,rfl⟩:=h6.need1_inv;have hl:=non lo el;subst hl;have hh':=arg hi k2 hh hhi eh;have em0:m=0:=by omega
    have eh0:hh=0:=by omega
    subst em0;subst eh0;refine OpOK.of_pure (x:=.slice aa 0 0) hR ?_ (.pure (.sl 0 0 (fun _ _=>Go.undef) (Nat.zero_le _) (fun _=>rfl) (fun h=>absurd rfl h) (fun _ h=>absurd h (Nat.not_lt_zero _)) (fun _ _ h=>absurd h (Nat.not_lt_zero _)) (fun _ _ h=>absurd h (Nat.not_lt_zero _)) (fun _ _ h=>absurd h (Nat.not_lt_zero _))));have b1:∀(k:IntKind) (y:Nat) (cd:BoundsCode),(Instr.sliceBound (.int k 0) y cd).run P w=.ok 0 w:=fun k y cd=>by
     have hx0:(0:Int)≤(0:Int):=by omega
     have hxy:(0:Int)≤(y:Int):=by omega
     simp only [Instr.sliceBound,asIntOf,Sem.run_bind,Sem.run_pure,Result.andThen_ok];rw [if_pos ⟨hx0,hxy⟩];simp
    have:=run 0 0 0 (by
     rw [hh',hm]
     simp [Instr.sliceBounds,b1])
    simpa using this
   ·exact (EvR.fail_inv h6).elim
  ·exact (EvR.fail_inv h6).elim
  ·rename_i em;have hm:=non mx em;subst hm;split at h6
   ·rename_i el eh;obtain ⟨rfl,rfl⟩:=h6.ret1_inv;have:=non lo el;subst this;have:=non hi eh;subst this;refine OpOK.of_pure hR (run 0 n cap (bnd0 n cap)) ?_;have hh:(.slice (if cap=0 then aa else aa.map (·.add (0*ii.size))) (n - 0) (cap - 0):Value)=.slice aa n cap:=by
     by_cases hz:cap=0
     ·simp [hz]
     ·obtain ⟨b,bo,sz,_,e2,_⟩:=a4 hz;rw [if_neg hz,e2];simp [Addr.add_mid]
    rw [hh,← hxv];exact hx
   ·rename_i k hh el eh;obtain ⟨⟨q1,q2⟩,rfl,rfl⟩:=h6.need1_inv;have:=non lo el;subst this;have hh':=arg hi k hh hhi eh;refine OpOK.of_pure hR (run 0 hh.toNat cap (by rw [hh']; exact bnd1 n cap k hh q1 om)) ?_;have:=part 0 hh.toNat false (Nat.zero_le _) om (fun h=>by cases h);simpa using this
   ·rename_i k l el eh;obtain ⟨⟨q1,q2⟩,rfl,rfl⟩:=h6.need1_inv;have:=non hi eh;subst this;have hl:=arg lo k l hlo el;exact OpOK.of_pure hR (run l.toNat n cap (by rw [hl]; exact bnd2 n cap k l q1 q2)) (part l.toNat n f om om (fun h=>⟨h,rfl⟩))
   ·rename_i k l k2 hh el eh;obtain ⟨⟨q1,q2,q3⟩,rfl,rfl⟩:=h6.need1_inv;have hl:=arg lo k l hlo el;have hh':=arg hi k2 hh hhi eh;exact OpOK.of_pure hR (run l.toNat hh.toNat cap (by rw [hl,hh']; exact bnd3 n cap k k2 l hh q1 q2 om)) (part l.toNat hh.toNat false om om (fun h=>by cases h))
   ·exact (EvR.fail_inv h6).elim
theorem op_slice (hc:CfgOK P cfg) (hR:Rel cfg cx H D w I O) {t:TypeId} {x:Operand} {lo hi mx:Option Operand} (ho:o.op=.slice t x lo hi mx) (hx:Rep w I O D (ρ x) (a.eval x))
  (hlo:∀y,lo=some y→Rep w I O D (ρ y) (a.eval y)) (hhi:∀y,hi=some y→Rep w I O D (ρ y) (a.eval y)) (hmx:∀y,mx=some y→Rep w I O D (ρ y) (a.eval y))
  (h:EvR Sp H (opPg cfg nid (.slice t x lo hi mx) ρ) v ups r):OpOK P cfg cx H D w I O nid o a v ups:=by
 simp only [opPg] at h;split at h
 ·rename_i n et harr;exact VD hc hR ho hx hhi harr h
 split at h
 ·rename_i e1;exact VE hc hR ho (e1 ▸ hx) hlo hhi hmx h
 rename_i hno;obtain ⟨⟨r0,h0⟩,hmax⟩:=maxK_inv hhi hmx h;clear h;obtain ⟨tt,e,ti,h1,h2,h3,h4⟩:=h0.elem_inv;obtain ⟨hu,i,z,hi',hz,hs,hby,hzs⟩:=hc.slice h1 h2 h3;clear h0;obtain ⟨aa,n,cap,xa,hxv,hncap,part,h5⟩:∃aa n cap xa,a.eval x=.slice aa n cap∧n≤cap∧(∀(v:AV),xa=v→
   (∀es full g,xa=.sl es n full g→(full=true→cap=n)∧∀l h m full',l≤h→h≤n→h≤m→m≤cap→(full'=true→m=h)→Rep w I O D (.sl es (h - l) full' (fun j=>g (l+j))) (.slice (if m=l then aa else aa.map (·.add (l*i.size))) (h - l) (m - l)))∧
   (∀ob j n' full,xa≠.osl ob j n' full)∧
   (∀es n' full g,xa=.sl es n' full g→n'=n))∧∃r',EvR Sp H (slicePg xa (lo.map ρ) (hi.map ρ) mx.isSome mx.isSome) v ups r':=by
  split at h4
  ·rename_i es n f g ex
   rw [ex] at hx
   obtain ⟨hes,h5⟩:=h4.chk_inv
   generalize hxv:a.eval x=xv at hx
   have hp:=hx.sl_inv
   cases hp with
   | @sl _ _ _ _ aa cap b off vs hcap hfull ha hes' hm h11 hr=>
    refine ⟨aa,n,cap,.sl es n f g,rfl,hcap,fun v _=>⟨fun es' full' g' e=>?_,fun _ _ _ _ e=>(by cases e),fun _ _ _ _ e=>(by cases e; rfl)⟩,_,h5⟩
    cases e
    exact ⟨hfull,fun l h m full' q1 q2 q3 q4 q5=>.pure (prep_slice (PRep.sl b off vs hcap hfull ha hes' hm h11 hr) q1 q2 q3 q4 q5 (fun hn=>by rw [hs]; exact esOk_spec hes hn))⟩
  ·rename_i ob j n f ex
   exact (hno _ _ _ _ ex).elim
  ·exact (EvR.fail_inv h4).elim
 obtain ⟨r',h5⟩:=h5;clear h4 hx;obtain ⟨psl,posl,psl'⟩:=part xa rfl;have done:∀ {l h m:Nat} {x':Value},(Instr.sliceBounds true n cap (lo.map a.eval) (hi.map a.eval) (mx.map a.eval)).run P w=.ok (l,h,m) w→x'=.slice (if m=l then aa else aa.map (·.add (l*i.size))) (h - l) (m - l)→ups=[]→Rep w I O D v x'→OpOK P cfg cx H D w I O nid o a v ups:=by
  intro l h m x' hb hx' hu0 hv;subst hu0;refine OpOK.of_pure (x:=x') hR ?_ hv;rw [hx'];simp [execOp,ho,hxv,run_slice_val hu hi' aa n cap _ _ _ l h m hb]
 unfold slicePg at h5;split at h5
 ·rename_i e1 e2;obtain ⟨hm,h6⟩:=h5.chk_inv;have hmx:mx=none:=noMax hm;have e1':lo=none:=by simpa using e1
  have e2':hi=none:=by simpa using e2
  subst hmx; subst e1'; subst e2';split at h6
  ·obtain ⟨rfl,rfl⟩:=h6.ret1_inv;have e:=psl' _ _ _ _ rfl;subst e;obtain ⟨q1,q2⟩:=psl _ _ _ rfl;exact done (bnd0 _ _) rfl rfl (by simpa using q2 0 _ cap _ (Nat.zero_le _) (Nat.le_refl _) hncap (Nat.le_refl _) q1)
  ·exact absurd rfl (posl _ _ _ _)
  ·exact (EvR.fail_inv h6).elim
 ·rename_i k hh e1 e2;obtain ⟨hm,h6⟩:=h5.chk_inv;have e1':lo=none:=by simpa using e1
  obtain ⟨y,e2',e3⟩:∃y,hi=some y∧ρ y=.int k hh:=Option.map_eq_some_iff.1 e2;have hy:a.eval y=.int k hh:=(e3 ▸ hhi y e2').int_inv;subst e1';have go:∀full',full'=mx.isSome→0≤hh→hh≤n→(∀m,hh.toNat≤m→m≤cap→(full'=true→m=hh.toNat)→Rep w I O D v (.slice (if m=0 then aa else aa.map (·.add (0*i.size))) (hh.toNat - 0) (m - 0)))→ups=[]→OpOK P cfg cx H D w I O nid o a v ups:=by
   intro full' hfe q1 q2 q3 q4;cases hf:mx.isSome with
   | true=>
    exact done (l:=0) (h:=hh.toNat) (m:=hh.toNat) (by rw [hmax hf]; simp only [e2',Option.map_some,Option.map_none,hy]; exact bnd1' _ _ _ _ q1 om) rfl q4 (q3 _ (Nat.le_refl _) om (fun _=>rfl))
   | false=>
    have hmx:mx=none:=noMax (by rw [hf]; rfl);subst hmx;exact done (l:=0) (h:=hh.toNat) (m:=cap) (by simp only [e2',Option.map_some,Option.map_none,hy]; exact bnd1 _ _ _ _ q1 om) rfl q4 (q3 _ om (Nat.le_refl _) (fun e=>by rw [hfe,hf] at e; cases e))
  split at h6
  ·split at h6
   ·rename_i hzf;obtain ⟨⟨q1,q2⟩,rfl,rfl⟩:=h6.need1_inv;have e:=psl' _ _ _ _ rfl;subst e;have hh0:hh=0:=by omega
    subst hh0;unfold zf at hzf;split at hzf
    ·split at hzf
     ·obtain ⟨q3,q4⟩:=psl _ _ _ rfl;have hc0:=q3 rfl;exact go _ rfl om om (fun m hm1 hm2 hm3=>by simpa using q4 0 0 m true (Nat.le_refl _) om (Nat.zero_le _) hm2 (fun _=>by omega)) rfl
     ·cases hzf
    ·cases hzf
   obtain ⟨⟨q1,q2⟩,rfl,rfl⟩:=h6.need1_inv;have e:=psl' _ _ _ _ rfl;subst e;obtain ⟨q3,q4⟩:=psl _ _ _ rfl;exact go _ rfl q1 q2 (fun m hm1 hm2 hm3=>by simpa using q4 0 hh.toNat m _ (Nat.zero_le _) om hm1 hm2 hm3) rfl
  ·exact absurd rfl (posl _ _ _ _)
  ·exact (EvR.fail_inv h6).elim
 ·rename_i k l e1 e2;obtain ⟨hm,h6⟩:=h5.chk_inv;have hmx:mx=none:=noMax hm;have e2':hi=none:=by simpa using e2
  obtain ⟨y,e1',e3⟩:∃y,lo=some y∧ρ y=.int k l:=Option.map_eq_some_iff.1 e1;have hy:a.eval y=.int k l:=(e3 ▸ hlo y e1').int_inv;subst hmx; subst e2';split at h6
  ·obtain ⟨⟨q1,q2⟩,rfl,rfl⟩:=h6.need1_inv;have e:=psl' _ _ _ _ rfl;subst e;obtain ⟨q3,q4⟩:=psl _ _ _ rfl;exact done (by simp only [e1',Option.map_some,Option.map_none,hy]; exact bnd2 _ _ _ _ q1 q2) rfl rfl (q4 l.toNat _ cap _ om (Nat.le_refl _) hncap (Nat.le_refl _) q3)
  ·exact absurd rfl (posl _ _ _ _)
  ·exact (EvR.fail_inv h6).elim
 ·rename_i k l k' hh e1 e2;obtain ⟨hm,h6⟩:=h5.chk_inv;obtain ⟨y,e1',e3⟩:∃y,lo=some y∧ρ y=.int k l:=Option.map_eq_some_iff.1 e1;obtain ⟨y',e2',e3'⟩:∃y,hi=some y∧ρ y=.int k' hh:=Option.map_eq_some_iff.1 e2;have hy:a.eval y=.int k l:=(e3 ▸ hlo y e1').int_inv;have hy':a.eval y'=.int k' hh:=(e3' ▸ hhi y' e2').int_inv;have go:∀full',full'=mx.isSome→0≤l→l≤hh→hh≤n→(∀m,hh.toNat≤m→m≤cap→(full'=true→m=hh.toNat)→Rep w I O D v (.slice (if m=l.toNat then aa else aa.map (·.add (l.toNat*i.size))) (hh.toNat - l.toNat) (m - l.toNat)))→ups=[]→OpOK P cfg cx H D w I O nid o a v ups:=by
   intro full' hfe q0 q1 q2 q3 q4;cases hf:mx.isSome with
   | true=>
    exact done (l:=l.toNat) (h:=hh.toNat) (m:=hh.toNat) (by rw [hmax hf]; simp only [e1',e2',Option.map_some,hy,hy']; exact bnd3' _ _ _ _ _ _ q0 q1 om) rfl q4 (q3 _ (Nat.le_refl _) om (fun _=>rfl))
   | false=>
    have hmx:mx=none:=noMax (by rw [hf]; rfl);subst hmx;exact done (l:=l.toNat) (h:=hh.toNat) (m:=cap) (by simp only [e1',e2',Option.map_some,Option.map_none,hy,hy']; exact bnd3 _ _ _ _ _ _ q0 q1 om) rfl q4 (q3 _ om (Nat.le_refl _) (fun e=>by rw [hfe,hf] at e; cases e))
  split at h6
  ·obtain ⟨⟨q0,q1,q2⟩,rfl,rfl⟩:=h6.need1_inv;have e:=psl' _ _ _ _ rfl;subst e;obtain ⟨q3,q4⟩:=psl _ _ _ rfl;exact go _ rfl q0 q1 q2 (fun m hm1 hm2 hm3=>q4 l.toNat hh.toNat m _ om om hm1 hm2 hm3) rfl
  ·exact absurd rfl (posl _ _ _ _)
  ·exact (EvR.fail_inv h6).elim
 ·exact (EvR.fail_inv h5).elim
end
end Go.Ab
namespace Go.Ab
section
variable {P:Program} {cfg:Cfg} {cx:Ctx} {H:Nat→Option AObj} {D:Nat→Prop} {w:World} {I:Nat→Prop} {O:OM} {Sp:SpecT}
variable {nid:Nat} {o:Oper} {a:Act} {ρ:Operand→AV} {v:AV} {ups:Ups} {r:List Nat}
def Blk (O:OM) (ids:List Nat) (b:Nat):Prop:=∃o p bo sz,o∈ids∧O o=some p∧p.pl=some (b,bo,sz)
def kill (O:OM) (ids:List Nat):OM:=fun o=>if o∈ids then none else O o
theorem look_dead (ids:List Nat) (o:Nat):look (dead ids) o=if o∈ids then some none else none:=by
 induction ids with
 | nil=>simp [dead,look]
 | cons a l ih=>
  simp only [dead,look,ih];cases h:Nat.beq a o with
  | true=>have:=Nat.eq_of_beq_eq_true h; subst this; simp
  | false=>
   have:o≠a:=fun e=>by subst e; simp at h
   simp [this]
theorem updF_dead (ids:List Nat) (o:Nat):updF H (dead ids) o=if o∈ids then none else H o:=by
 unfold updF;rw [look_dead];by_cases h:o∈ids<;>simp [h]
theorem Rel.freeze (hR:Rel cfg cx H D w I O) (ids:List Nat):Rel cfg cx (updF H (dead ids)) D w (fun b=>I b∨Blk O ids b) (kill O ids) where
 dom:=fun o=>by
  rw [updF_dead]; unfold kill;by_cases h:o∈ids<;>simp [h,hR.dom o]
 used:=fun o p h=>by
  unfold kill at h;by_cases h':o∈ids<;>simp [h'] at h;exact hR.used o p h
 objs:=fun o ob p h h'=>by
  rw [updF_dead] at h; unfold kill at h';by_cases h0:o∈ids<;>simp [h0] at h h';exact (hR.objs o ob p h h').mono (fun _ h=>.inl h) (fun _ _=>rfl) (fun o _=>by unfold kill; by_cases h0:o∈ids<;>simp [h0]) (fun _ h=>h) hR.used (fun _ _ _ _=>rfl)
 inj:=fun o o' p p' b bo sz b' bo' sz' h1 h2 h3 h4 h5=>by
  unfold kill at h1 h2;by_cases h0:o∈ids<;>simp [h0] at h1;by_cases h0':o'∈ids<;>simp [h0'] at h2;exact hR.inj o o' p p' b bo sz b' bo' sz' h1 h2 h3 h4 h5
 notI:=fun o p b bo sz h1 h2 h3=>by
  unfold kill at h1;by_cases h0:o∈ids<;>simp [h0] at h1;rcases h3 with h3 | ⟨o',p',bo',sz',h4,h5,h6⟩
  ·exact hR.notI o p b bo sz h1 h2 h3
  ·exact hR.inj o o' p p' b bo sz b bo' sz' h1 h5 h2 h6 (fun e=>h0 (e ▸ h4)) rfl
 lt:=fun o p b bo sz h1 h2=>by
  unfold kill at h1;by_cases h0:o∈ids<;>simp [h0] at h1;exact hR.lt o p b bo sz h1 h2
 Ilt:=fun b h=>by
  rcases h with h | ⟨o',p',bo',sz',h4,h5,h6⟩
  ·exact hR.Ilt b h
  ·exact hR.lt o' p' b bo' sz' h5 h6
 size:=hR.size
 frame:=hR.frame
 env:=hR.env
 maps:=fun o kd z f p b bo sz h h' hp=>by
  rw [updF_dead] at h; unfold kill at h';by_cases h0:o∈ids<;>simp [h0] at h h';exact hR.maps o kd z f p b bo sz h h' hp
 new:=fun o p b bo sz h1 h2=>by
  unfold kill at h1;by_cases h0:o∈ids<;>simp [h0] at h1;exact hR.new o p b bo sz h1 h2
 glob:=fun g cs h=>(hR.glob g cs h).mono (fun _ h=>.inl h) (fun _ _=>rfl)
 I0I:=fun b h=>.inl (hR.I0I b h)
 II0:=fun b h=>by
  rcases h with h | ⟨o',p',bo',sz',h4,h5,h6⟩
  ·exact hR.II0 b h
  ·exact .inr (hR.new o' p' b bo' sz' h5 h6)
 O0O:=fun o h=>by
  unfold kill;by_cases h0:o∈ids
  ·simp [h0]
  ·simpa [h0] using hR.O0O o h
 Dm:=hR.Dm
theorem Rep.kill (hR:Rel cfg cx H D w I O) (ids:List Nat) {v:AV} {x:Value} (h:Rep w I O D v x):Rep w (fun b=>I b∨Blk O ids b) (kill O ids) D v x:=
 h.mono (fun _ h=>.inl h) (fun _ _=>rfl) (fun o _=>by unfold Ab.kill; by_cases h0:o∈ids<;>simp [h0]) (fun _ h=>h) hR.used
theorem Blk.mono_l {ids ids':List Nat} {b:Nat} (h:Blk O ids b):Blk O (ids++ids') b:=by
 obtain ⟨o,p,bo,sz,h1,h2,h3⟩:=h;exact ⟨o,p,bo,sz,List.mem_append_left _ h1,h2,h3⟩
theorem Blk.mono_r {ids ids':List Nat} {b:Nat} (h:Blk O ids' b):Blk O (ids++ids') b:=by
 obtain ⟨o,p,bo,sz,h1,h2,h3⟩:=h;exact ⟨o,p,bo,sz,List.mem_append_right _ h1,h2,h3⟩
theorem shiftG_eq (i j:Nat) (g:Nat→AV):shiftG i g j=g (i+j):=by cases i<;>simp [shiftG]
theorem pur_sound (hR:Rel cfg cx H D w I O):∀f:Nat,
  (∀(v:AV) (k:AV→List Nat→Pg) (v':AV) (ups:Ups) (r:List Nat),EvR Sp H (pur f v k) v' ups r→∃u ids r',EvR Sp H (k u ids) v' ups r'∧
    ∀x,Rep w I O D v x→PRep w (fun b=>I b∨Blk O ids b) u x)∧
  (∀(l:List AV) (k:List AV→List Nat→Pg) (v':AV) (ups:Ups) (r:List Nat),EvR Sp H (pur.purL f l k) v' ups r→∃l' ids r',EvR Sp H (k l' ids) v' ups r'∧l'.length=l.length∧
    ∀j,j<l.length→∀x,Rep w I O D (nth l j) x→PRep w (fun b=>I b∨Blk O ids b) (nth l' j) x):=by
 intro f;induction f with
 | zero=>exact ⟨fun v k v' ups r h=>(EvR.fail_inv h).elim,fun l k v' ups r h=>(EvR.fail_inv h).elim⟩
 | succ f ih=>
  obtain ⟨ih1,ih2⟩:=ih;refine ⟨fun v k v' ups r h=>?_,fun l k v' ups r h=>?_⟩
  ·cases v with
   | osl ob i n full=>
    simp only [pur] at h;obtain ⟨obj,r',hob,h1⟩:=h.rd_inv;obtain ⟨p,hp,hO⟩:=hR.live hob;cases obj with
    | map=>exact (EvR.fail_inv h1).elim
    | box cs=>exact (EvR.fail_inv h1).elim
    | row es m g=>
     refine ⟨_,[ob],r',h1,fun x hx=>?_⟩;obtain ⟨aa,cap,rfl,h2,h3,h4,h5⟩:=hx.osl_inv hp;obtain ⟨hn,hes,hlen,h6⟩:=hO;by_cases hn0:n=0
     ·subst hn0;exact .sl 0 0 (fun _ _=>Go.undef) h3 h4 (fun e=>absurd rfl e) (fun i hi=>absurd hi om) (fun i j hi=>absurd hi om) (fun i j hi=>absurd hi om) (fun i j hi=>absurd hi om)
     ·obtain ⟨b,bo,sz,h7,rfl,h8⟩:=h5 om;rcases h6 with ⟨_,h6⟩ | ⟨b',bo',sz',h6,hal,hle,hcs⟩
      ·rw [h7] at h6; cases h6
      ·rw [h7] at h6;cases h6;subst hn;have hmul:∀k,k<n→(i+k+1)*es≤p.n*es:=fun k hk=>Nat.mul_le_mul_right _ om;refine .sl b (bo+i*p.es) (fun k j=>cellAt w b (bo+((i+k)*es+j))) h3 h4 (fun _=>⟨rfl,.inr ⟨ob,p,bo,sz,by simp,hp,h7⟩⟩) (fun k hk=>by rw [shiftG_eq]; exact hlen _ om) (fun k j hk hj=>?_) (fun k j hk hj=>(hcs (i+k) j om hj).2) (fun k j hk hj=>?_)
       ·have e:bo+i*p.es+(k*es+j)=bo+((i+k)*es+j):=by rw [hes,Nat.add_mul]; omega
        rw [e];refine cellAt_eq hal ?_;have:=hmul k hk;rw [Nat.succ_mul] at this;omega
       ·rw [shiftG_eq];exact (hcs (i+k) j om hj).1.mono (fun _ h=>.inl h) (fun _ _=>rfl)
   | ptr ob i off=>
    cases i with
    | succ i=>simp only [pur] at h; exact (EvR.fail_inv h).elim
    | zero=>
     simp only [pur] at h;obtain ⟨obj,r',hob,h1⟩:=h.rd_inv;obtain ⟨p,hp,hO⟩:=hR.live hob;cases obj with
     | map=>exact (EvR.fail_inv h1).elim
     | row es m g=>exact (EvR.fail_inv h1).elim
     | box cs=>
      obtain ⟨l',ids,r'',h2,h3,h4⟩:=ih2 _ _ _ _ _ h1;refine ⟨_,_,r'',h2,fun x hx=>?_⟩;obtain ⟨b,bo,sz,h5,h6,rfl⟩:=hx.ptr_inv hp;obtain ⟨hn,b',bo',sz',h7,hal,hle,hcs⟩:=hO;rw [h5] at h7;cases h7;simp only [Nat.zero_mul,Nat.zero_add];refine .ro b (bo+off) (fun j=>cellAt w b (bo+(off+j))) (.inr ⟨ob,p,bo,sz,by simp,hp,h5⟩) (fun j hj=>?_) (fun j hj=>?_)
      ·rw [Nat.add_assoc];refine cellAt_eq hal ?_;rw [h3] at hj;simp at hj;omega
      ·rw [h3] at hj;refine (h4 j hj _ (by rw [nth_drop]; exact hcs (off+j) (by simp at hj; omega))).mono (fun b h=>?_) (fun _ _=>rfl);rcases h with h | ⟨o',p',bo',sz',q1,q2,q3⟩
       ·exact .inl h
       ·exact .inr ⟨o',p',bo',sz',List.mem_cons_of_mem _ q1,q2,q3⟩
   | agg cs=>
    simp only [pur] at h;obtain ⟨l',ids,r'',h2,h3,h4⟩:=ih2 _ _ _ _ _ h;refine ⟨_,_,r'',h2,fun x hx=>?_⟩;obtain ⟨vs,rfl,hl,hr⟩:=hx.agg_inv;exact .agg om fun j hj=>h4 j om _ (hr j om)
   | tup cs=>
    simp only [pur] at h;obtain ⟨l',ids,r'',h2,h3,h4⟩:=ih2 _ _ _ _ _ h;refine ⟨_,_,r'',h2,fun x hx=>?_⟩;obtain ⟨vs,rfl,hl,hr⟩:=hx.tup_inv;exact .tup om fun j hj=>h4 j om _ (hr j om)
   | fn g cs=>
    simp only [pur] at h;obtain ⟨l',ids,r'',h2,h3,h4⟩:=ih2 _ _ _ _ _ h;refine ⟨_,_,r'',h2,fun x hx=>?_⟩;obtain ⟨vs,rfl,hl,hr⟩:=hx.fn_inv;exact .fn om fun j hj=>h4 j om _ (hr j om)
   | mref ob=>simp only [pur] at h; exact (EvR.fail_inv h).elim
   | _=>
    refine ⟨_,[],r,h,fun x hx=>?_⟩;cases hx with | pure hx=>exact hx.mono (fun _ h=>.inl h) (fun _ _=>rfl)
  ·cases l with
   | nil=>exact ⟨[],[],r,h,rfl,fun j hj=>by cases hj⟩
   | cons v l=>
    simp only [pur.purL] at h;obtain ⟨u,i1,r1,h1,h2⟩:=ih1 _ _ _ _ _ h;obtain ⟨l',i2,r2,h3,h4,h5⟩:=ih2 _ _ _ _ _ h1;refine ⟨u::l',i1++i2,r2,h3,by simp [h4],fun j hj x hx=>?_⟩;cases j with
    | zero=>exact (h2 x hx).mono (fun b h=>h.elim .inl fun h=>.inr h.mono_l) (fun _ _=>rfl)
    | succ j=>exact (h5 j (by simpa using hj) x hx).mono (fun b h=>h.elim .inl fun h=>.inr h.mono_r) (fun _ _=>rfl)
end
end Go.Ab

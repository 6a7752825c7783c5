/- An abstract machine over the model's code, that it is sound; models of the functions and their proofs. -/
import Derived.Orders
import Derived.Laws.IdiomCopy
import Derived.Laws.Cells
import Derived.Laws.Sem
import Derived.Deep.MidRow
import Derived.Laws.StructEq
import Derived.ChangeKeysEq
import Derived.IntWalk
set_option linter.unusedVariables false
set_option linter.unusedSimpArgs false
namespace Go.Ab
theorem om {p : Prop} (h : p := by omega) : p := h
inductive ZK where
 | bool | int (k:IntKind) | str | slice | ptr | other
 deriving DecidableEq
inductive TD where
 | bool | int (k:IntKind) | str | slice (e:TypeId) | struct (fs:List (Nat×Nat)) | pointer (e:TypeId) | map (k e:TypeId) | array (n:Nat) (e:TypeId) | other
 deriving DecidableEq
inductive iJ where
 | s (b:ByteArray)
 | i (n:Int)
 | p (a b:Int)
 deriving DecidableEq
inductive AV where
 | undef
 | bool (b:Bool)
 | int (k:IntKind) (n:Int)
 | str (s:ByteArray)
 | sl (es n:Nat) (full:Bool) (g:Nat→AV)
 | ro (cs:List AV)
 | agg (cs:List AV)
 | ptr (o i off:Nat)
 | dF (o i n:Nat) (full:Bool)
 | fn (f:FuncId) (caps:List AV)
 | jM (vs:List AV)
 | Ct
 | mref (o:Nat)
 | pm (kd:TD) (z:List ZK) (f:iJ→Option Int)
inductive dP where
 | box (cs:List AV)
 | row (es n:Nat) (g:Nat→AV)
 | map (kd:TD) (z:List ZK) (f:iJ→Option Int)
structure Mh where
 size:Nat
 agg:Bool
 bytes:Nat
 zero:List ZK
 desc:TD
 deriving DecidableEq
structure FnI where
 muts:List Nat:=[]
 frz:Bool:=false
structure uT where
 ty:List (Nat×Mh)
 eqs:List (Nat×List ZK):=[]
 fns:List (Nat×FnI)
 glob:List (Nat×List AV)
def look {α:Type}:List (Nat×α)→Nat→Option α
 | [],_=>none
 | (k,v)::l,t=>match Nat.beq k t with | true=>some v | false=>look l t
def iw (T:List (Nat×AV)) (t:Nat):AV:=
 match look T t with | some v=>v | none=>.undef
def hget (H:List (Nat×Option dP)) (o:Nat):Option dP:=
 match look H o with | some (some x)=>some x | _=>none
abbrev jW:=List (Nat×Option dP)
inductive Pg where
 | ret (v:AV) (ups:jW)
 | need (p:Prop) [d:Decidable p] (k:Pg)
 | rd (o:Nat) (k:dP→Pg)
 | call (f:FuncId) (args:List AV) (obs:List dP) (k:AV→List dP→Pg)
 | fail
def stride:Nat:=8
def cK:Nat→AV:=λ _=>.undef
def ofConst:Value→AV
 | .bool b=>.bool b
 | .int k n=>.int k n
 | .string s=>.str s
 | .slice none 0 0=>.sl 0 0 true cK
 | .pointer none=>.Ct
 | _=>.undef
def ofZ:ZK→AV
 | .bool=>.bool false
 | .int k=>.int k 0
 | .str=>.str ByteArray.empty
 | .slice=>.sl 0 0 true cK
 | .ptr=>.Ct
 | .other=>.undef
def xW:List ZK→List AV
 | []=>[]
 | z::l=>ofZ z::xW l
def AV.cells:AV→List AV
 | .agg cs=>cs
 | v=>[v]
def nth:List AV→Nat→AV
 | [],_=>.undef
 | v::_,0=>v
 | _::l,n+1=>nth l n
def EG:Nat→List AV→List AV→List AV
 | _,[],l=>l
 | 0,v::new,_::l=>v::EG 0 new l
 | n+1,new,x::l=>x::EG n new l
 | _,_,[]=>[]
def VH:AV→Bool
 | .undef | .agg _ | .jM _=>false
 | _=>true
def Gm:List AV→Bool
 | []=>true
 | v::l=>match VH v with | true=>Gm l | false=>false
def JO (v:AV) (k:List AV→Pg):Pg:=
 match v.cells with
 | cs=>match Gm cs with | true=>k cs | false=>.fail
def fK (b:Bool) (k:Pg):Pg:=match b with | true=>k | false=>.fail
def JQ:List AV→(List AV→Prop)→Prop
 | [],K=>K []
 | v::l,K=>JQ l (λ l'=>
  match v with
  | .undef=>K (.undef::l') | .bool b=>K (.bool b::l') | .int k n=>K (.int k n::l') | .str s=>K (.str s::l')
  | .sl es n f g=>K (.sl es n f g::l') | .ro cs=>K (.ro cs::l') | .agg cs=>K (.agg cs::l') | .ptr o i off=>K (.ptr o i off::l')
  | .dF o i n f=>K (.dF o i n f::l') | .fn f caps=>K (.fn f caps::l') | .jM vs=>K (.jM vs::l') | .Ct=>K (.Ct::l') | .mref o=>K (.mref o::l') | .pm a b c=>K (.pm a b c::l'))
def force (v:AV) (K:AV→Prop):Prop:=
 match v with
 | .undef=>K .undef | .bool b=>K (.bool b) | .int k n=>K (.int k n) | .str s=>K (.str s)
 | .sl es n f g=>K (.sl es n f g)
 | .ro cs=>JQ cs λ cs'=>K (.ro cs')
 | .agg cs=>JQ cs λ cs'=>K (.agg cs')
 | .ptr o i off=>K (.ptr o i off) | .dF o i n f=>K (.dF o i n f)
 | .fn f caps=>JQ caps λ cs'=>K (.fn f cs')
 | .jM vs=>JQ vs λ cs'=>K (.jM cs')
 | .Ct=>K .Ct
 | .mref o=>K (.mref o)
 | .pm a b c=>K (.pm a b c)
def AQ:jW→(jW→Prop)→Prop
 | [],K=>K []
 | (o,none)::l,K=>AQ l λ l'=>K ((o,none)::l')
 | (o,some (.row es n g))::l,K=>AQ l λ l'=>K ((o,some (.row es n g))::l')
 | (o,some (.map kd z f))::l,K=>AQ l λ l'=>K ((o,some (.map kd z f))::l')
 | (o,some (.box cs))::l,K=>JQ cs λ cs'=>AQ l λ l'=>K ((o,some (.box cs'))::l')
def aJ (n:Int):Prop := -9223372036854775808≤n∧n≤9223372036854775807
instance (n:Int):Decidable (aJ n):=inferInstanceAs (Decidable (_∧_))
def addN:Nat→Nat→Nat
 | 0,k=>k
 | n+1,k=>n+1+k
def nI (i:Nat) (g:Nat→AV):Nat→AV:=match i with | 0=>g | n+1=>λ j=>g (n+1+j)
def Tg (l:List AV):Nat→AV:=λ i=>nth l i
def appG (n:Nat) (g h:Nat→AV):Nat→AV:=λ j=>bif Nat.blt j n then g j else h (j - n)
def abC (g:Nat→AV) (i:Nat) (v:AV):Nat→AV:=λ j=>bif Nat.beq j i then v else g j
def X4:Nat→AV→(AV→List Nat→Pg)→Pg
 | 0,_,_=>.fail
 | _+1,.dF o i n full,k=>.rd o λ
  | .row es _ g=>k (.sl es n full (nI i g)) [o]
  | _=>.fail
 | f+1,.ptr o i off,k=>match i with
  | 0=>.rd o λ
   | .box cs=>adJ f (cs.drop off) λ cs' ids=>k (.ro cs') (o::ids)
   | _=>.fail
  | _+1=>.fail
 | f+1,.agg cs,k=>adJ f cs λ cs' ids=>k (.agg cs') ids
 | f+1,.jM cs,k=>adJ f cs λ cs' ids=>k (.jM cs') ids
 | f+1,.fn fn cs,k=>adJ f cs λ cs' ids=>k (.fn fn cs') ids
 | _+1,.mref o,k=>.rd o λ
  | .map kd z f=>k (.pm kd z f) [o]
  | _=>.fail
 | _+1,v,k=>k v []
 where adJ:Nat→List AV→(List AV→List Nat→Pg)→Pg
 | 0,_,_=>.fail
 | _+1,[],k=>k [] []
 | f+1,v::l,k=>X4 f v λ v' i1=>adJ f l λ l' i2=>k (v'::l') (i1++i2)
def fuel:Nat:=100
def dead:List Nat→jW
 | []=>[]
 | o::l=>(o,none)::dead l
def kW (p:Prop) [Decidable p] (v:AV):Pg:=.need p (.ret v [])
def jL (v:AV):Pg:=.ret v []
def yU (ti:Mh) (cs:List AV):Pg:=
 match ti.agg with
 | true=>fK (Nat.ble ti.size cs.length) (jL (.agg (cs.take ti.size)))
 | false=>match cs with
  | v::_=>jL v
  | []=>.fail
def arith (op:BinOp) (a b:Int):Pg:=
 match op with
 | .add=>kW (aJ (a+b)) (.int .i64 (a+b))
 | .sub=>kW (aJ (a - b)) (.int .i64 (a - b))
 | .mul=>kW (aJ (a*b)) (.int .i64 (a*b))
 | .quo=>kW (b≠0∧aJ (a.tdiv b)) (.int .i64 (a.tdiv b))
 | .rem=>kW (b≠0) (.int .i64 (a.tmod b))
 | _=>.fail
def ape (op:BinOp) (a b:Int):Pg:=
 match op with
 | .eql=>jL (.bool (a==b))
 | .neq=>jL (.bool (a != b))
 | .lss=>jL (.bool (decide (a<b)))
 | .leq=>jL (.bool (decide (a≤b)))
 | .gtr=>jL (.bool (decide (b<a)))
 | .geq=>jL (.bool (decide (b≤a)))
 | _=>.fail
def Pf:BinOp→Bool
 | .add | .sub | .mul | .quo | .rem=>true
 | _=>false
def ahF (k:IntKind) (op:BinOp) (a b:Int):Pg:=
 match op with
 | .add=>jL (.int k (k.wrap (a+b)))
 | .sub=>jL (.int k (k.wrap (a - b)))
 | .mul=>jL (.int k (k.wrap (a*b)))
 | _=>.fail
def apf (k:IntKind) (a b:Int):Int:=k.wrap (BitVec.ofInt k.bits a &&& BitVec.ofInt k.bits b).toNat
def apg (k:IntKind) (a b:Int):Int:=a.fdiv (2 ^ min b.toNat k.bits)
def orI (k:IntKind) (a b:Int):Int:=k.wrap (BitVec.ofInt k.bits a ||| BitVec.ofInt k.bits b).toNat
def aph (k:IntKind) (a b:Int):Int:=k.wrap (a*2 ^ min b.toNat k.bits)
def ahG:BinOp→Bool
 | .shl=>true
 | _=>false
def wN (a b:IntKind):Bool:=decide (a=b)
def Rn:List ZK→List AV→List AV→Option Bool
 | [],[],[]=>some true
 | .int k::zs,.int k1 a::l,.int k2 b::m=>match wN k k1,wN k k2,Rn zs l m with
  | true,true,some r=>some ((a==b)&&r)
  | _,_,_=>none
 | .bool::zs,.bool a::l,.bool b::m=>match Rn zs l m with
  | some r=>some ((a==b)&&r)
  | none=>none
 | .str::zs,.str a::l,.str b::m=>match Rn zs l m with
  | some r=>some ((a.toList==b.toList)&&r)
  | none=>none
 | _,_,_=>none
def amq (op:BinOp) (a b:ByteArray):Pg:=
 match op with
 | .add=>kW (a.size+b.size≤9223372036854775807) (.str (a++b))
 | .eql=>jL (.bool (a.toList==b.toList))
 | .neq=>jL (.bool (!(a.toList==b.toList)))
 | .lss=>jL (.bool (Op.bytesLess a.toList b.toList))
 | .leq=>jL (.bool (Op.bytesLess a.toList b.toList||a.toList==b.toList))
 | .gtr=>jL (.bool (!(Op.bytesLess a.toList b.toList||a.toList==b.toList)))
 | .geq=>jL (.bool (!Op.bytesLess a.toList b.toList))
 | _=>.fail
def adK (c:AV) (ea eb:Operand) (a b:AV):Pg:=
 match c with
 | .bool c=>match ea,eb,a,b with
  | _,.const (.bool false),.bool x,_=>jL (.bool (c&&x))
  | .const (.bool true),_,_,.bool y=>jL (.bool (c||y))
  | _,_,.bool x,.bool y=>jL (.bool (bif c then x else y))
  | _,_,.undef,y=>kW (c=false) y
  | _,_,x,.undef=>kW (c=true) x
  | _,_,_,_=>.fail
 | _=>.fail
section ops
variable (cfg:uT)
def Ph (t:TypeId) (k:Mh→Pg):Pg:=match look cfg.ty t with | some i=>k i | none=>.fail
def AU (t:TypeId) (k:Mh→Pg):Pg:=match look cfg.ty t with
 | some i=>match i.desc with
  | .slice e=>Ph cfg e k
  | _=>.fail
 | none=>.fail
def ahH (op:BinOp) (t:TypeId) (x y:AV):Pg:=
 match x,y with
 | .int k a,.int k' b=>match ahG op with
  | true=>kW (0≤b) (.int k (aph k a b))
  | false=>fK (wN k k') (match Pf op with
  | true=>match wN k .i64 with
   | true=>arith op a b
   | false=>ahF k op a b
  | false=>match op with
   | .and=>jL (.int k (apf k a b))
   | .or=>jL (.int k (orI k a b))
   | .shr=>kW (0≤b) (.int k (apg k a b))
   | _=>ape op a b)
 | .bool a,.bool b=>Ph cfg t λ ti=>match ti.desc,op with
  | .bool,.eql=>jL (.bool (a==b))
  | .bool,.neq=>jL (.bool (!(a==b)))
  | _,_=>.fail
 | .str a,.str b=>amq op a b
 | .agg cs,.agg cs'=>match look cfg.eqs t with
  | some zs=>match Rn zs cs cs',op with
   | some r,.eql=>jL (.bool r)
   | some r,.neq=>jL (.bool (!r))
   | _,_=>.fail
  | none=>.fail
 | _,_=>.fail
def Ul:List (Nat×Nat)→Nat→Option (Nat×Nat)
 | [],_=>none
 | x::_,0=>some x
 | _::l,n+1=>Ul l n
def Mi (ti:Mh) (f:Nat):Option (Nat×Nat):=match ti.desc with
 | .struct fs=>Ul fs f
 | _=>none
def abD (fs:List (Nat×Nat)):List (Nat×AV)→List AV→(List AV→Pg)→Pg
 | [],cs,k=>k cs
 | (i,v)::rest,cs,k=>match Ul fs i with
  | some (off,t)=>Ph cfg t λ ti=>JO v λ vs=>fK (Nat.beq vs.length ti.size) (fK (Nat.ble (off+vs.length) cs.length) (abD fs rest (EG off vs cs) k))
  | none=>.fail
def DZ:Nat→AV→List AV→List AV
 | _,_,[]=>[]
 | 0,v,_::l=>v::l
 | n+1,v,x::l=>x::DZ n v l
def ae8 (size:Nat) (agg:Bool):List (Nat×AV)→List AV→(List AV→Pg)→Pg
 | [],es,k=>k es
 | (i,v)::rest,es,k=>fK (match agg,v with | true,.agg _=>true | true,_=>false | false,.agg _=>false | false,_=>true)
  (JO v λ vs=>fK (Nat.beq vs.length size) (fK (Nat.blt i es.length) (ae8 size agg rest (DZ i v es) k)))
def zeroOf (ti:Mh):AV:=match ti.agg with
 | true=>.agg (xW ti.zero)
 | false=>nth (xW ti.zero) 0
def zok (ti:Mh):Bool:=match Nat.blt 0 ti.size with
 | true=>match ti.agg with
  | true=>true
  | false=>Nat.beq ti.size 1
 | false=>false
def agi:Nat→AV→List AV
 | 0,_=>[]
 | n+1,z=>z::agi n z
def Pj:List (Nat×AV)→(List (Nat×AV)→List Nat→Pg)→Pg
 | [],k=>k [] []
 | (i,v)::l,k=>X4 fuel v λ v' i1=>Pj l λ l' i2=>k ((i,v')::l') (i1++i2)
def apj (s:AV) (f:Int→Pg) (k:Pg):Pg:=match s with
 | .int _ n=>f n
 | _=>k
def zf (full:Bool) (n:Nat):Bool:=match full with
 | true=>match n with
  | 0=>true
  | _+1=>false
 | false=>false
def Vn (x:AV) (lo hi:Option AV) (ZR YZ:Bool):Pg:=
 match lo,hi with
 | none,none=>fK (!ZR) (match x with
  | .sl es n full g=>jL (.sl es n full g)
  | .dF o i n full=>jL (.dF o i n full)
  | _=>.fail)
 | none,some (.int _ h)=>fK (!ZR||YZ) (match x with
  | .sl es n full g=>match zf full n with
   | true=>kW (0≤h∧h≤0) (.sl es 0 true g)
   | false=>kW (0≤h∧h≤n) (.sl es h.toNat YZ g)
  | .dF o i n _=>kW (0≤h∧h≤n) (.dF o i h.toNat YZ)
  | _=>.fail)
 | some (.int _ l),none=>fK (!ZR) (match x with
  | .sl es n full g=>kW (0≤l∧l≤n) (.sl es (n - l.toNat) full (λ j=>g (l.toNat+j)))
  | .dF o i n full=>kW (0≤l∧l≤n) (.dF o (i+l.toNat) (n - l.toNat) full)
  | _=>.fail)
 | some (.int _ l),some (.int _ h)=>fK (!ZR||YZ) (match x with
  | .sl es n _ g=>kW (0≤l∧l≤h∧h≤n) (.sl es (h.toNat - l.toNat) YZ (λ j=>g (l.toNat+j)))
  | .dF o i n _=>kW (0≤l∧l≤h∧h≤n) (.dF o (i+l.toNat) (h.toNat - l.toNat) YZ)
  | _=>.fail)
 | _,_=>.fail
def CU:Option Operand→Option Operand→Bool
 | some (.tmp a),some (.tmp b)=>Nat.beq a b
 | _,_=>false
def agj (ρ:Operand→AV) (hi mx:Option Operand) (k:Pg):Pg:=
 match mx with
 | none=>k
 | some m=>match hi with
  | none=>.fail
  | some h=>match ρ h,ρ m with
   | .int kk a,.int kk' b=>fK (wN kk kk') (.need (a=b) k)
   | _,_=>.fail
def Ti (x:AV) (k:Nat→Nat→(Nat→AV)→Pg):Pg:=
 match x with
 | .sl es n _ g=>k es n g
 | .dF o i n _=>.rd o λ
  | .row es _ g=>k es n (nI i g)
  | _=>.fail
 | _=>.fail
def ZT:Nat→Bool
 | 0=>true
 | _+1=>false
def Om (es n size:Nat):Bool:=match Nat.beq es size with | true=>true | false=>ZT n
def big:Nat:=140737488355328
def cpG (i k:Nat) (g h:Nat→AV):Nat→AV:=λ j=>bif Nat.ble i j&&Nat.blt j (i+k) then h (j - i) else g j
def ZU (ti:Mh) (d s:AV):Pg:=
 Ti s λ es' m h=>fK (Om es' m ti.size) (
 match d with
 | .dF o i n _=>.rd o λ
  | .row es N g=>fK (Nat.beq es ti.size) (.need (i+n+m≤N) (.ret (.dF o i (n+m) false) [(o,some (.row es N (cpG (i+n) m g h)))]))
  | _=>.fail
 | _=>.fail)
def isSelf:AV→AV→Bool
 | .dF o _ _ _,.dF o' _ _ _=>Nat.beq o o'
 | _,_=>false
def ahI (o i n N:Nat) (f:Bool) (lo hi mx:Option AV):Pg:=match mx with
 | some (.int _ m)=>match lo,hi with
  | some (.int _ l),some (.int _ h)=>kW (0≤l∧l≤h∧h≤m∧m≤n) .undef
  | none,some (.int _ h)=>kW (0≤h∧h≤m∧m≤0) (.sl 0 0 true cK)
  | _,_=>.fail
 | some _=>.fail
 | none=>match lo,hi with
  | none,none=>jL (.dF o i n f)
  | none,some (.int _ h)=>kW (0≤h∧(i:Int)+h≤N) (.dF o i h.toNat false)
  | some (.int _ l),none=>kW (0≤l∧l≤n) (.dF o (i+l.toNat) (n - l.toNat) f)
  | some (.int _ l),some (.int _ h)=>kW (0≤l∧l≤h∧(i:Int)+h≤N) (.dF o (i+l.toNat) (h.toNat - l.toNat) false)
  | _,_=>.fail
def abE (ti:Mh) (dN:Nat) (d s:AV):Pg:=
 Ti s λ es' m h=>fK (Om es' m ti.size) (
 match d with
 | .sl es n full g=>fK full (match es with
  | 0=>fK (ZT n) (.need (m*ti.bytes≤big) (.ret (.dF dN 0 m false) [(dN,some (.row ti.size m h))]))
  | es1+1=>fK (Om (es1+1) n ti.size) (kW ((n+m)*ti.bytes≤big) (.sl ti.size (n+m) false (appG n g h))))
 | .dF o i n _=>.rd o λ
  | .row es _ g=>fK (Nat.beq es ti.size) (.need ((n+m)*ti.bytes≤big) (.ret (.dF dN 0 (n+m) false) [(dN,some (.row es (n+m) (appG n (nI i g) h))),(o,none)]))
  | _=>.fail
 | _=>.fail)
def ahJ (ti:Mh) (d s:AV):Pg:=
 Ti s λ es' m h=>fK (Om es' m ti.size) (
 match d with
 | .dF o i n _=>.rd o λ
  | .row es N g=>fK (Nat.beq es ti.size) (.ret (.int .i64 (Nat.min m n:Nat)) [(o,some (.row es N (cpG i (Nat.min m n) g h)))])
  | _=>.fail
 | _=>.fail)
def tq:List Nat→Nat→Nat→Option Nat
 | [],_,_=>none
 | a::l,o,j=>match Nat.beq a o with | true=>some j | false=>tq l o (j+1)
def nX:AV→Bool
 | .undef | .bool _ | .int .. | .str _ | .sl .. | .ro _ | .Ct | .pm .. => true
 | _=>false
def arn:AV→List Nat
 | .ptr o _ _=>[o]
 | .dF o _ _ _=>[o]
 | .mref o=>[o]
 | _=>[]
def Tj:List AV→List Nat
 | []=>[]
 | v::l=>arn v++Tj l
def afa (sg:List Nat):List Nat→Bool
 | []=>false
 | o::_=>match tq sg o 0 with
  | some _=>true
  | none=>false
def ahK (sg:List Nat) (v:AV) (k:AV→Pg):Pg:=match v with
 | .ptr o i off=>match tq sg o 0 with
  | some j=>k (.ptr j i off)
  | none=>.fail
 | .dF o i n f=>match tq sg o 0 with
  | some j=>k (.dF j i n f)
  | none=>.fail
 | .mref o=>match tq sg o 0 with
  | some j=>k (.mref j)
  | none=>.fail
 | v=>fK (nX v) (k v)
def adL (sg:List Nat):List AV→(List AV→Pg)→Pg
 | [],k=>k []
 | v::l,k=>ahK sg v λ v'=>adL sg l λ l'=>k (v'::l')
def Mj (sg:List Nat) (v:AV) (k:AV→List Nat→Pg):Pg:=
 match v with
 | .ptr o i off=>match tq sg o 0 with
  | some j=>k (.ptr j i off) []
  | none=>X4 fuel (.ptr o i off) k
 | .dF o i n full=>match tq sg o 0 with
  | some j=>k (.dF j i n full) []
  | none=>X4 fuel (.dF o i n full) k
 | .mref o=>match tq sg o 0 with
  | some j=>k (.mref j) []
  | none=>X4 fuel (.mref o) k
 | .fn f cs=>match afa sg (Tj cs) with
  | true=>adL sg cs λ cs'=>k (.fn f cs') []
  | false=>X4 fuel (.fn f cs) k
 | .agg cs=>match afa sg (Tj cs) with
  | true=>adL sg cs λ cs'=>k (.agg cs') []
  | false=>X4 fuel (.agg cs) k
 | v=>X4 fuel v k
def EH (sg:List Nat):List AV→(List AV→List Nat→Pg)→Pg
 | [],k=>k [] []
 | v::l,k=>Mj sg v λ v' i1=>EH sg l λ l' i2=>k (v'::l') (i1++i2)
def afb:List Nat→(List dP→Pg)→Pg
 | [],k=>k []
 | o::l,k=>.rd o λ ob=>afb l λ obs=>k (ob::obs)
def sigma (args:List AV):List Nat→List Nat
 | []=>[]
 | p::l=>match nth args p with
  | .ptr o _ _=>o::sigma args l
  | .dF o _ _ _=>o::sigma args l
  | .mref o=>o::sigma args l
  | .fn _ cs=>Tj cs++sigma args l
  | .agg cs=>Tj cs++sigma args l
  | _=>sigma args l
def zS:Nat→List Nat→Bool
 | _,[]=>false
 | a,b::l=>match Nat.beq a b with | true=>true | false=>zS a l
def nJ:List Nat→Bool
 | []=>true
 | a::l=>match zS a l with | true=>false | false=>nJ l
def VI:AV→Bool
 | .bool _ | .int .. | .str _=>true
 | _=>false
def ZV:List AV→Bool
 | []=>true
 | v::l=>match VI v with | true=>ZV l | false=>false
def VJ:AV→Bool
 | .agg vs=>ZV vs
 | v=>VI v
def ZW:List AV→Bool
 | []=>true
 | v::l=>match VJ v with | true=>ZW l | false=>false
def ahL:AV→Bool
 | .jM vs=>ZW vs
 | v=>VJ v
def gT:List Nat→Nat→Nat
 | [],_=>0
 | a::_,0=>a
 | _::l,n+1=>gT l n
def VK:dP→Bool
 | .map .other [] _=>true
 | _=>false
def apk:dP:=.map .other [] λ _=>none
def gz (x:dP):Option dP:=match VK x with
 | true=>none
 | false=>some x
def AX:List Nat→List dP→jW
 | o::l,x::m=>(o,gz x)::AX l m
 | _,_=>[]
def akM (f:FuncId):FnI:=match look cfg.fns f with | some i=>i | none=>{}
def wO:List AV→Bool
 | []=>true
 | v::l=>match nX v with | true=>wO l | false=>false
def Vo:dP→Bool
 | .box cs=>wO cs
 | .row .. => true
 | .map .. => false
def apl:AV→Bool
 | .agg vs=>wO vs
 | v=>nX v
def JR:List Nat→List Nat→Bool
 | [],_=>true
 | x::l,m=>match zS x m with | true=>false | false=>JR l m
def apm:AV→List Nat
 | .ptr o _ _=>[o]
 | .dF o _ _ _=>[o]
 | .mref o=>[o]
 | .fn _ cs=>Tj cs
 | _=>[]
def amr:List AV→List Nat
 | []=>[]
 | v::l=>apm v++amr l
def apn:dP→List Nat
 | .box cs=>amr cs
 | _=>[]
def VL:Nat→List Nat→List Nat→(List Nat→Pg)→Pg
 | 0,_,_,_=>.fail
 | _+1,[],sg,k=>k sg
 | f+1,o::todo,sg,k=>match zS o sg with
  | true=>VL f todo sg k
  | false=>.rd o λ ob=>VL f (todo++apn ob) (sg++[o]) k
def inv1 (sg:List Nat) (v:AV) (k:AV→Pg):Pg:=match v with
 | .ptr o i off=>match tq sg o 0 with
  | some j=>k (.ptr j i off)
  | none=>.fail
 | .dF o i n f=>match tq sg o 0 with
  | some j=>k (.dF j i n f)
  | none=>.fail
 | .mref o=>match tq sg o 0 with
  | some j=>k (.mref j)
  | none=>.fail
 | .fn f cs=>adL sg cs λ cs'=>k (.fn f cs')
 | v=>fK (nX v) (k v)
def akN (sg:List Nat):List AV→(List AV→Pg)→Pg
 | [],k=>k []
 | v::l,k=>inv1 sg v λ v'=>akN sg l λ l'=>k (v'::l')
def apo (sg:List Nat) (x:dP) (k:dP→Pg):Pg:=match x with
 | .box cs=>akN sg cs λ cs'=>k (.box cs')
 | .row es n g=>k (.row es n g)
 | .map kd z f=>k (.map kd z f)
def afc (sg:List Nat):List dP→(List dP→Pg)→Pg
 | [],k=>k []
 | x::l,k=>apo sg x λ x'=>afc sg l λ l'=>k (x'::l')
def abF (sg:List Nat):AV→AV
 | .ptr j i off=>.ptr (gT sg j) i off
 | .dF j i n full=>.dF (gT sg j) i n full
 | .mref j=>.mref (gT sg j)
 | v=>v
def ahM (sg:List Nat):List AV→List AV
 | []=>[]
 | v::l=>abF sg v::ahM sg l
def Gn (sg:List Nat):AV→AV
 | .ptr j i off=>.ptr (gT sg j) i off
 | .dF j i n full=>.dF (gT sg j) i n full
 | .mref j=>.mref (gT sg j)
 | .fn f cs=>.fn f (ahM sg cs)
 | v=>v
def agk (sg:List Nat):List AV→List AV
 | []=>[]
 | v::l=>Gn sg v::agk sg l
def Gp (sg:List Nat):AV→AV
 | .agg cs=>.agg (agk sg cs)
 | v=>Gn sg v
def abG (sg:List Nat):List AV→List AV
 | []=>[]
 | v::l=>Gp sg v::abG sg l
def akO (sg:List Nat):AV→AV
 | .jM vs=>.jM (abG sg vs)
 | v=>Gp sg v
def Ye (sg:List Nat):dP→dP
 | .box cs=>.box (agk sg cs)
 | .row es n g=>.row es n g
 | .map kd z f=>.map kd z f
def VN (sg:List Nat):List dP→List dP
 | []=>[]
 | x::l=>Ye sg x::VN sg l
def akP:AV→Bool
 | .ptr .. | .dF .. | .mref _=>true
 | v=>nX v
def okA:List AV→Bool
 | []=>true
 | v::l=>match akP v with | true=>okA l | false=>false
def ahN:AV→Bool
 | .fn _ cs=>okA cs
 | .agg _ | .jM _=>false
 | _=>true
def ahO:List AV→Bool
 | []=>true
 | v::l=>match ahN v with | true=>ahO l | false=>false
def ahP:AV→Bool
 | .agg cs=>ahO cs
 | v=>ahN v
def afd:List AV→Bool
 | []=>true
 | v::l=>match ahP v with | true=>afd l | false=>false
def apq:AV→Bool
 | .jM vs=>afd vs
 | v=>ahP v
def akQ:dP→Bool
 | .box cs=>ahO cs
 | .row .. => true
 | .map .. => true
def afe:List dP→Bool
 | []=>true
 | x::l=>match akQ x with | true=>afe l | false=>false
def j5:Nat→Nat→List Nat
 | 0,_=>[]
 | n+1,i=>i::j5 n (i+1)
def Vp (dN:Nat) (f:FuncId) (args:List AV) (sg0:List Nat):Pg:=
 VL 40 sg0 [] λ sg=>fK (nJ sg) (afb sg λ obs=>afc sg obs λ agl=>EH sg args λ args' ids=>fK (JR ids sg)
  (.call f args' agl λ r fE=>fK (afe fE) (fK (Nat.ble fE.length (sg.length+stride)) (fK (apq r)
    (.ret (akO (sg++j5 (fE.length - sg.length) dN) r) (AX (sg++j5 (fE.length - sg.length) dN) (VN (sg++j5 (fE.length - sg.length) dN) fE)++dead ids))))))
def ahQ (dN:Nat) (f:FuncId) (args:List AV):Pg:=
 match sigma args (akM cfg f).muts with
 | []=>match (akM cfg f).frz with
  | false=>EH [] args λ args' _=>.call f args' [] λ r fE=>match fE with
   | []=>fK (ahL r) (jL r)
   | _::_=>.fail
  | true=>Vp dN f args []
 | x::sg=>Vp dN f args (x::sg)
def keyOf:AV→Option iJ
 | .str b=>some (.s b)
 | .int .i64 n=>some (.i n)
 | .agg [.int .i64 a,.int .i64 b]=>some (.p a b)
 | _=>none
def am5 (z:List ZK) (n:Int):AV:=match z with
 | [.bool]=>.bool (n != 0)
 | [.int k]=>.int k n
 | _=>.undef
def am6 (z:List ZK):AV→Option Int
 | .bool b=>match z with
  | [.bool]=>some (bif b then 1 else 0)
  | _=>none
 | .int k n=>match z with
  | [.int k']=>match decide (k=k') with
   | true=>some n
   | false=>none
  | _=>none
 | _=>none
def Rp:List ZK→Bool
 | [.bool]=>true
 | [.int _]=>true
 | _=>false
def Oo (f:iJ→Option Int) (k:iJ):Int:=(f k).getD 0
def Rq (f:iJ→Option Int) (k:iJ) (n:Int):iJ→Option Int:=λ k'=>if k'=k then some n else f k'
def ams (kt:TypeId) (d:TD) (k:Pg):Pg:=match d with
 | .struct [(0,a),(1,b)]=>Ph cfg a λ ia=>Ph cfg b λ ib=>fK (decide (ia.desc=.int .i64)) (fK (decide (ib.desc=.int .i64)) (fK (decide (look cfg.eqs kt=some [.int .i64,.int .i64])) k))
 | _=>k
def ahR (t:TypeId) (k:Mh→Mh→Pg):Pg:=match look cfg.ty t with
 | some i=>match i.desc with
  | .map kt et=>Ph cfg kt λ ki=>Ph cfg et λ ei=>fK (!ei.agg) (ams cfg kt ki.desc (k ki ei))
  | _=>.fail
 | none=>.fail
def qy (d:TD):iJ→Bool
 | .s _=>match d with | .str=>true | _=>false
 | .i _=>match d with | .int .i64=>true | _=>false
 | .p _ _=>match d with | .struct [(0,_),(1,_)]=>true | _=>false
def aff (z:List ZK) (f:iJ→Option Int) (k:iJ) (ok:Bool):AV:=match ok with
 | true=>.jM [am5 z (Oo f k),.bool (f k).isSome]
 | false=>am5 z (Oo f k)
def VO:TD→Option (Nat×TypeId)
 | .array n e=>some (n,e)
 | _=>none
def ahS (t:TypeId):Option (Nat×TypeId):=match look cfg.ty t with
 | some i=>VO i.desc
 | none=>none
def afg (et sz:Nat):Nat→Nat→List (Nat×Nat)
 | 0,_=>[]
 | n+1,k=>(k*sz,et)::afg et sz n (k+1)
def apr:AV→Bool
 | .bool b=>b
 | _=>false
def arp:AV→Int
 | .int _ n=>n
 | _=>0
def arq:AV→ByteArray
 | .str s=>s
 | _=>ByteArray.empty
def slN:AV→Nat
 | .sl _ n _ _=>n
 | _=>0
def slG:AV→Nat→AV
 | .sl _ _ _ g=>g
 | _=>λ _=>.undef
def esA:AV→Nat
 | .sl es _ _ _=>es
 | _=>0
def ahT:List ZK→Nat→ZK
 | [],_=>.other
 | z::_,0=>z
 | _::l,n+1=>ahT l n
def akR (z:ZK) (es:Nat) (c:AV):Bool:=match z,c with
 | .bool,.bool _=>true
 | .int k,.int k' _=>wN k k'
 | .str,.str _=>true
 | .slice,.sl es' n _ _=>match Nat.beq es' es with
  | true=>true
  | false=>Nat.beq n 0
 | _,_=>false
def am7 (z:ZK) (es:Nat) (c:AV):AV:=match z with
 | .bool=>.bool (apr c)
 | .int k=>.int k (arp c)
 | .str=>.str (arq c)
 | .slice=>.sl es (slN c) false (slG c)
 | _=>.undef
def Y0 (sz j:Nat):Nat→List AV→Nat
 | _,[]=>0
 | k,c::cs=>match Nat.beq (Nat.mod k sz) j with
  | true=>(λ m=>match Nat.ble (esA c) m with | true=>m | false=>esA c) (Y0 sz j (k+1) cs)
  | false=>Y0 sz j (k+1) cs
def akS (zs:List ZK) (sz:Nat) (all:List AV):Nat→List AV→Bool
 | _,[]=>true
 | k,c::cs=>match akR (ahT zs (Nat.mod k sz)) (Y0 sz (Nat.mod k sz) 0 all) c with
  | true=>akS zs sz all (k+1) cs
  | false=>false
def abH (all:List AV) (b sz:Nat):Nat→List ZK→List AV
 | _,[]=>[]
 | j,z::zs=>am7 z (Y0 sz j 0 all) (nth all (b+j))::abH all b sz (j+1) zs
def ahU (ei:Mh) (n:Nat) (cs:List AV) (i:Int):Pg:=
 fK (zok ei) (fK (Nat.beq cs.length (n*ei.size)) (fK (Nat.beq ei.zero.length ei.size) (fK (akS ei.zero ei.size cs 0 cs) (kW (0≤i∧i<n) (match ei.agg with
  | true=>.agg (abH cs (i.toNat*ei.size) ei.size 0 ei.zero)
  | false=>nth (abH cs (i.toNat*ei.size) ei.size 0 ei.zero) 0)))))
def adM:Nat→List ZK→List ZK
 | 0,_=>[]
 | n+1,z=>z++adM n z
def j6:Nat→Nat→(Nat→AV)→List AV
 | 0,_,_=>[]
 | k+1,i,g=>(g i).cells++j6 k (i+1) g
def am8:TD→Bool
 | .str=>true
 | _=>false
def am9:AV→Bool
 | .int .u8 _=>true
 | _=>false
def u8D:TD→Bool
 | .int .u8=>true
 | _=>false
def Gq:Nat→Nat→(Nat→AV)→ByteArray→ByteArray
 | 0,_,_,s=>s
 | k+1,i,g,s=>Gq k (i+1) g (s.push (UInt8.ofNat (match g i with
  | .int _ n=>n.toNat
  | _=>0)))
def ZX (src:TypeId) (x:AV):Pg:=AU cfg src λ ei=>fK (u8D ei.desc) (Ti x λ es n g=>fK (Om es n 1) (.need (∀i,i<n→am9 (g i)=true) (jL (.str (Gq n 0 g ByteArray.empty)))))
def ahV (o n:Nat) (lo hi:Option AV):Pg:=
 match lo,hi with
 | none,none=>jL (.dF o 0 n true)
 | none,some (.int _ h)=>kW (0≤h∧h≤n) (.dF o 0 h.toNat false)
 | _,_=>.fail
def iE (b:ByteArray) (i:Nat):Int:=match b[i]? with
 | some x=>x.toNat
 | none=>0
def ana (dN:Nat) (t t':TypeId) (d:AV) (k:Int):Pg:=Ph cfg t' λ ti'=>AU cfg t λ ti=>match ti'.desc,d with
 | .int _,.sl _ n full _=>fK (zf full n) (fK (Nat.blt 0 ti.size) (fK (Nat.blt 0 ti.bytes) (fK (zok ti) (.need (0<k∧k*ti.bytes≤big) (.ret (.dF dN 0 k.toNat false) [(dN,some (.row ti.size k.toNat (λ _=>zeroOf ti)))])))))
 | _,_=>.fail
def afh (t:TypeId) (x ix y:AV):Pg:=ahR cfg t λ ki ei=>match x,keyOf ix,am6 ei.zero y with
 | .mref o,some k,some n=>fK (qy ki.desc k) (.rd o λ
  | .map kd z f=>fK (decide (kd=ki.desc)) (fK (decide (z=ei.zero)) (fK (Rp z) (.ret .undef [(o,some (.map kd z (Rq f k n)))])))
  | _=>.fail)
 | _,_,_=>.fail
def gD (dN:Nat) (op:Op) (ρ:Operand→AV):Pg:=
 match op with
 | .move x=>jL (ρ x)
 | .assign x=>jL (ρ x)
 | .pick c a b=>adK (ρ c) a b (ρ a) (ρ b)
 | .alloc e=>Ph cfg e λ ti=>match VO ti.desc with
  | some (n,et)=>Ph cfg et λ ei=>fK (zok ei) (fK (Nat.blt 0 n) (fK (decide (ti.zero=adM n ei.zero)) (.ret (.ptr dN 0 0) [(dN,some (.row ei.size n (λ _=>zeroOf ei)))])))
  | none=>.ret (.ptr dN 0 0) [(dN,some (.box (xW ti.zero)))]
 | .box _ x=>JO (ρ x) λ cs=>.ret (.ptr dN 0 0) [(dN,some (.box cs))]
 | .build t parts=>Ph cfg t λ ti=>match ti.desc with
  | .struct fs=>abD cfg fs (parts.toList.map λ p=>(p.1,ρ p.2)) (xW ti.zero) λ cs=>jL (.agg cs)
  | .array n et=>Ph cfg et λ ei=>abD cfg (afg et ei.size n 0) (parts.toList.map λ p=>(p.1,ρ p.2)) (xW ti.zero) λ cs=>jL (.agg cs)
  | _=>.fail
 | .buildSlice t len parts=>AU cfg t λ ti=>fK (zok ti) (fK (Nat.ble (len*ti.size) 4096) (Pj (parts.toList.map λ p=>(p.1,ρ p.2)) λ ps ids=>
   ae8 ti.size ti.agg ps (agi len (zeroOf ti)) λ es=>
   .ret (.dF dN 0 len true) ((dN,some (.row ti.size len (Tg es)))::dead ids)))
 | .load t a=>Ph cfg t λ ti=>match ρ a with
  | .ptr o i off=>.rd o λ
   | .box cs=>yU ti (cs.drop off)
   | .row es n g=>match VO ti.desc with
    | some _=>fK (ZT i&&ZT off) (yU ti (j6 n 0 g))
    | none=>fK (Nat.ble (off+ti.size) es) (yU ti ((g i).cells.drop off))
   | .map .. => .fail
  | .ro cs=>yU ti cs
  | _=>.fail
 | .store t a x=>Ph cfg t λ ti=>match ρ a with
  | .ptr o i off=>.rd o λ
   | .box cs=>JO (ρ x) λ vs=>fK (Nat.beq vs.length ti.size) (fK (Nat.ble (off+vs.length) cs.length) (.ret .undef [(o,some (.box (EG off vs cs)))]))
   | .row es n g=>match VO ti.desc with
    | some _=>X4 fuel (ρ x) λ x' ids=>fK (!zS o ids) (JO x' λ vs=>fK (Nat.beq vs.length ti.size) (fK (Nat.beq es 1) (fK (Nat.beq n ti.size) (fK (ZT i&&ZT off) (.ret .undef ((o,some (.row 1 n (Tg vs)))::dead ids))))))
    | none=>X4 fuel (ρ x) λ x' ids=>fK (!zS o ids) (JO x' λ vs=>fK (Nat.beq vs.length ti.size) (fK (Nat.blt 0 ti.size) (fK (Nat.ble (off+vs.length) es)
     (.ret .undef ((o,some (.row es n (abC g i (match ZT off&&Nat.beq vs.length es with
       | true=>x'
       | false=>match g i with
        | .agg cs=>.agg (EG off vs cs)
        | _=>x'))))::dead ids)))))
   | .map .. => .fail
  | _=>.fail
 | .nilCheck x=>match ρ x with
  | .ptr o i off=>.rd o λ _=>jL (.ptr o i off)
  | .ro cs=>jL (.ro cs)
  | .fn f cs=>jL (.fn f cs)
  | _=>.fail
 | .binOp op t x y _=>ahH cfg op t (ρ x) (ρ y)
 | .unOp op _ x=>match op,ρ x with
  | .not,.bool b=>jL (.bool (!b))
  | .neg,.int k n=>fK (wN k .i64) (kW (aJ (-n)) (.int .i64 (-n)))
  | _,_=>.fail
 | .convert src dst x=>Ph cfg src λ _=>Ph cfg dst λ ti=>match am8 ti.desc with
  | true=>ZX cfg src (ρ x)
  | false=>match ti.desc,ρ x with
   | .int k,.int _ n=>jL (.int k (k.wrap n))
   | _,_=>.fail
 | .makeFunc fn first captured=>match fn,first.toList with
  | .func f,[]=>jL (.fn f (captured.toList.map ρ))
  | _,_=>.fail
 | .makeSlice t l c=>AU cfg t λ ti=>match ρ l with
  | .int _ n=>match CU (some l) (some c) with
   | true=>fK (Nat.blt 0 ti.bytes) (fK (zok ti) (.need (0≤n∧n*ti.bytes≤big) (.ret (.dF dN 0 n.toNat true) [(dN,some (.row ti.size n.toNat (λ _=>zeroOf ti)))])))
   | false=>match ρ c with
    | .int _ k=>fK (Nat.blt 0 ti.bytes) (fK (zok ti) (.need (n=0∧0≤k∧k*ti.bytes≤big) (.ret (.dF dN 0 0 false) [(dN,some (.row ti.size 0 cK))])))
    | _=>.fail
  | _=>.fail
 | .slice t x lo hi mx=>match ahS cfg t with
  | some (n,et)=>Ph cfg et λ ei=>fK mx.isNone (match ρ x with
   | .ptr o i off=>.rd o λ
    | .row es n' _=>fK (ZT i&&ZT off) (fK (Nat.beq es ei.size) (fK (Nat.beq n' n) (ahV o n (lo.map ρ) (hi.map ρ))))
    | _=>.fail
   | _=>.fail)
  | none=>match ρ x with
  | .dF o i n f=>AU cfg t λ ti=>.rd o λ
   | .row es N _=>fK (Nat.beq es ti.size) (ahI o i n N f (lo.map ρ) (hi.map ρ) (mx.map ρ))
   | _=>.fail
  | _=>agj ρ hi mx<|AU cfg t λ ti=>match ρ x with
   | .sl es n f g=>fK (Om es n ti.size) (Vn (.sl es n f g) (lo.map ρ) (hi.map ρ) mx.isSome mx.isSome)
   | .dF o i n f=>.rd o λ
    | .row es _ _=>fK (Nat.beq es ti.size) (Vn (.dF o i n f) (lo.map ρ) (hi.map ρ) mx.isSome mx.isSome)
    | _=>.fail
   | _=>.fail
 | .fieldAddr s x f=>Ph cfg s λ ts=>match Mi ts f with
  | some (o,t)=>Ph cfg t λ ti=>fK (Nat.blt 0 ti.size) (match ρ x with
   | .ptr ob i off=>.rd ob λ _=>jL (.ptr ob i (off+o))
   | .ro cs=>jL (.ro (cs.drop o))
   | _=>.fail)
  | none=>.fail
 | .field s x f=>Ph cfg s λ ts=>match Mi ts f with
  | some (o,t)=>Ph cfg t λ ti=>match ρ x with
   | .agg cs=>yU ti (cs.drop o)
   | _=>.fail
  | none=>.fail
 | .indexAddr t x ix=>match ahS cfg t with
  | some (n,et)=>Ph cfg et λ ei=>match ρ ix,ρ x with
   | .int _ i,.ptr o j off=>.rd o λ
    | .row es n' _=>fK (ZT j&&ZT off) (fK (Nat.beq es ei.size) (fK (Nat.beq n' n) (kW (0≤i∧i<n) (.ptr o i.toNat 0))))
    | _=>.fail
   | _,_=>.fail
  | none=>AU cfg t λ ti=>match ρ ix with
  | .int _ i=>match ρ x with
   | .sl es n _ g=>fK (Om es n ti.size) (kW (0≤i∧i<n) (.ro (g i.toNat).cells))
   | .dF o j n _=>.rd o λ
    | .row es _ _=>fK (Nat.beq es ti.size) (kW (0≤i∧i<n) (.ptr o (addN j i.toNat) 0))
    | _=>.fail
   | _=>.fail
  | _=>.fail
 | .index t x ix=>Ph cfg t λ ti=>match ti.desc,ρ x,ρ ix with
  | .str,.str b,.int _ i=>kW (0≤i∧i<b.size) (.int .u8 (iE b i.toNat))
  | .array n et,.agg cs,.int _ i=>Ph cfg et λ ei=>ahU ei n cs i
  | _,_,_=>.fail
 | .makeMap t none=>ahR cfg t λ ki ei=>.ret (.mref dN) [(dN,some (.map ki.desc ei.zero λ _=>none))]
 | .lookup t x ix ok=>ahR cfg t λ ki ei=>(match ρ x,keyOf (ρ ix) with
  | .mref o,some k=>fK (qy ki.desc k) (.rd o λ
   | .map kd z f=>fK (decide (kd=ki.desc)) (fK (decide (z=ei.zero)) (fK (Rp z) (jL (aff z f k ok))))
   | _=>.fail)
  | .pm kd z f,some k=>fK (qy ki.desc k) (fK (decide (kd=ki.desc)) (fK (decide (z=ei.zero)) (fK (Rp z) (jL (aff z f k ok)))))
  | _,_=>.fail)
 | .mapUpdate t x ix y=>afh cfg t (ρ x) (ρ ix) (ρ y)
 | .insert t x ix y=>afh cfg t (ρ x) (ρ ix) (ρ y)
 | .extract t i=>match ρ t with
  | .jM vs=>fK (Nat.blt i vs.length) (jL (nth vs i))
  | _=>.fail
 | .call c=>match c.callee with
  | .builtin .len=>match c.args.toList.map ρ,c.argTypes.toList with
   | [v],[t]=>Ph cfg t λ ti=>match v,ti.desc with
    | .sl _ n _ _,.slice _=>jL (.int .i64 n)
    | .dF o _ n _,.slice _=>.rd o λ _=>jL (.int .i64 n)
    | .str s,.str=>jL (.int .i64 s.size)
    | _,_=>.fail
   | _,_=>.fail
  | .builtin .cap=>match c.args.toList.map ρ,c.argTypes.toList with
   | [.sl _ n true _],[t]=>Ph cfg t λ ti=>match ti.desc with
    | .slice _=>jL (.int .i64 n)
    | _=>.fail
   | _,_=>.fail
  | .builtin .append=>match c.args.toList.map ρ,c.argTypes.toList with
   | [d,s],[t,t']=>apj s (ana cfg dN t t' d)
    (AU cfg t' λ _=>AU cfg t λ ti=>fK (Nat.blt 0 ti.size) (fK (Nat.blt 0 ti.bytes) (match isSelf d s with | true=>ZU ti d s | false=>abE ti dN d s)))
   | _,_=>.fail
  | .builtin .copy=>match c.args.toList.map ρ,c.argTypes.toList with
   | [d,s],[t,t']=>AU cfg t' λ _=>AU cfg t λ ti=>fK (Nat.blt 0 ti.size) (ahJ ti d s)
   | _,_=>.fail
  | .builtin .clear=>match c.args.toList.map ρ,c.argTypes.toList with
   | [.dF o i n _],[t]=>AU cfg t λ ti=>fK (zok ti) (.rd o λ
    | .row es N g=>fK (Nat.beq es ti.size) (.ret .undef [(o,some (.row es N (cpG i n g (λ _=>zeroOf ti))))])
    | _=>.fail)
   | _,_=>.fail
  | .builtin .min=>match c.args.toList.map ρ with
   | [.int k a,.int _ b]=>jL (.int k (if b<a then b else a))
   | _=>.fail
  | .builtin .max=>match c.args.toList.map ρ with
   | [.int k a,.int _ b]=>jL (.int k (if b > a then b else a))
   | _=>.fail
  | .builtin _=>.fail
  | .value f=>match ρ f with
   | .fn g caps=>ahQ cfg dN g (c.args.toList.map ρ++caps)
   | _=>.fail
  | .invoke _ _=>.fail
 | _=>.fail
def Vq (T:Nat→AV):Operand→AV
 | .tmp t=>T t
 | .const v=>ofConst v
 | .global g=>match look cfg.glob g with | some cs=>.ro cs | none=>.undef
 | .func f=>.fn f []
end ops
abbrev ny:=FuncId→List AV→List dP→AV→List dP→Prop
structure Log where
 xX:List Nat
 wrs:List Nat
structure St where
 tmps:List (Nat×AV)
 heap:jW
 nx:Nat
abbrev PC:=List (Bool×Bool)
def agm:PC→Prop→(Prop→Prop)→Prop
 | [],p,K=>K p
 | (c,b)::l,p,K=>agm l (c=b→p) K
section run
variable (cfg:uT) (Sp:ny)
def ids:jW→List Nat
 | []=>[]
 | (o,_)::l=>o::ids l
def ev (pc:PC) (H:Nat→Option dP):Pg→List Nat→(AV→jW→List Nat→Prop)→Prop
 | .ret v ups,xX,K=>force v λ v'=>AQ ups λ uJ=>K v' uJ xX
 | @Pg.need p _ k,xX,K=>agm pc p λ p'=>p'∧ev pc H k xX K
 | .rd o k,xX,K=>match H o with
  | some x=>ev pc H (k x) (o::xX) K
  | none=>agm pc False λ p'=>p'∧K .undef [] xX
 | .call f args obs k,xX,K=>∃r fE,agm pc (Sp f args obs r fE) λ p'=>p'∧ev pc H (k r fE) xX K
 | .fail,xX,K=>agm pc False λ p'=>p'∧K .undef [] xX
def afi:Op→Bool
 | .move _ | .assign _ | .pick .. | .build .. | .load .. | .nilCheck _ | .binOp .. | .unOp .. | .convert .. | .makeFunc .. | .slice .. | .fieldAddr .. | .field .. | .indexAddr .. | .index .. | .lookup .. | .extract .. => true
 | .call c=>match c.callee with
  | .builtin .len | .builtin .min | .builtin .max=>true
  | .value (.func f)=>match (akM cfg f).muts,(akM cfg f).frz with | [],false=>true | _,_=>false
  | _=>false
 | _=>false
def VP (c:Bool) (A B:Prop):Prop:=match c with | true=>A | false=>B
def Y1:List Oper→Nat→Option Oper
 | [],_=>none
 | o::_,0=>some o
 | _::l,n+1=>Y1 l n
def Tk (all:List Oper) (j:Nat):Option Nat:=match Y1 all j with
 | some o=>o.dst
 | none=>none
def ahW (ups H:jW) (K:jW→Prop):Prop:=
 match ups with
 | []=>K H
 | u::l=>ahW l H λ H'=>K (u::H')
def ahX (dst:Option Nat) (v u:AV) (T U:List (Nat×AV)) (K:List (Nat×AV)→List (Nat×AV)→Prop):Prop:=
 match dst with
 | some d=>K ((d,v)::T) ((d,u)::U)
 | none=>K T U
def JU:List PC→Nat→PC
 | [],_=>[]
 | p::_,0=>p
 | _::l,n+1=>JU l n
def adO:List PC→Nat→(PC→Prop)→Prop
 | [],_,K=>K []
 | p::_,0,K=>K p
 | _::l,n+1,K=>adO l n K
def Oq:List PC→PC→(List PC→Prop)→Prop
 | [],p,K=>K [p]
 | q::l,p,K=>Oq l p λ l'=>K (q::l')
def isNone {α:Type}:Option α→Bool
 | none=>true
 | some _=>false
def abI (all:List Oper) (nx:Nat):List Oper→Nat→List (Nat×AV)→List (Nat×AV)→jW→List PC→List Log→(St→List Log→Prop)→Prop
 | [],i,_,U,H,_,log,K=>K ⟨U,H,nx+stride*i⟩ log
 | o::rest,i,T,U,H,pcs,log,K=>
  match o.guard with
  | none=>ev Sp [] (hget H) (gD cfg (nx+stride*i) o.op (Vq cfg (iw T))) [] λ v ups xX=>
    ahX o.dst v v T U λ T' U'=>ahW ups H λ H'=>Oq pcs [] λ adP=>abI all nx rest (i+1) T' U' H' adP (⟨xX,ids ups⟩::log) K
  | some (j,b)=>match Tk all j with
   | some d=>match iw T d with
    | .bool c=>match afi cfg o.op with
     | true=>adO pcs j λ pcj=>ev Sp ((c,b)::pcj) (hget H) (gD cfg (nx+stride*i) o.op (Vq cfg (iw T))) [] λ v ups xX=>
      match ups with
      | []=>ahX o.dst v .undef T U λ T' U'=>Oq pcs ((c,b)::pcj) λ adP=>abI all nx rest (i+1) T' U' H adP (⟨xX,[]⟩::log) K
      | _::_=>False
     | false=>match JU pcs j with
      | []=>VP (c==b)
       (ev Sp [] (hget H) (gD cfg (nx+stride*i) o.op (Vq cfg (iw T))) [] λ v ups xX=>
         ahX o.dst v v T U λ T' U'=>ahW ups H λ H'=>Oq pcs [] λ adP=>abI all nx rest (i+1) T' U' H' adP (⟨xX,ids ups⟩::log) K)
       (ahX o.dst .undef .undef T U λ T' U'=>Oq pcs [(c,b)] λ adP=>abI all nx rest (i+1) T' U' H adP (⟨[],[]⟩::log) K)
      | _::_=>False
    | _=>False
   | none=>False
def VQ (all:List Oper) (i:Nat):Option (Nat×Bool):=match Y1 all i with
 | some o=>o.guard
 | none=>none
def chain (all:List Oper):Nat→Option (Nat×Bool)→List (Nat×Bool)
 | 0,_=>[]
 | _+1,none=>[]
 | f+1,some (j,b)=>(j,b)::chain all f (VQ all j)
def afj (d:Option Nat) (t:Nat):Bool:=match d with
 | some x=>Nat.beq x t
 | none=>false
def tZ (t:Nat):List Oper→Nat→List Nat
 | [],_=>[]
 | o::l,i=>match afj o.dst t with
  | true=>i::tZ t l (i+1)
  | false=>tZ t l (i+1)
def writers (all:List Oper) (t:Nat):List Nat:=tZ t all 0
def Vr (all:List Oper):List Nat→Bool
 | []=>true
 | i::l=>match VQ all i with
  | none=>Vr all l
  | some _=>false
def eqB:Bool→Bool→Bool
 | true,true=>true
 | false,false=>true
 | _,_=>false
def akT (j:Nat) (b:Bool):List (Nat×Bool)→Bool
 | []=>false
 | (j',b')::l=>match Nat.beq j j',eqB b b' with
  | true,true=>true
  | _,_=>akT j b l
def ZY (all:List Oper) (k:Nat) (g:Option (Nat×Bool)) (t:Nat):Bool:=
 match writers all t with
 | [i]=>match VQ all i with
  | none=>true
  | some (j,b)=>match Nat.blt i k with
   | true=>akT j b (chain all 20 g)
   | false=>false
 | l=>Vr all l
def afk (all:List Oper) (k:Nat) (g:Option (Nat×Bool)) (c:Operand) (pol:Bool) (x:Operand):Bool:=
 match x with
 | .tmp t=>match ZY all k g t with
  | true=>true
  | false=>match c,writers all t with
   | .tmp ct,[i]=>match VQ all i,writers all ct,Nat.blt i k with
    | some (j,b),[jc],true=>match Nat.beq j jc,Nat.blt jc k with
     | true,true=>eqB b pol
     | _,_=>false
    | _,_,_=>false
   | _,_=>false
 | _=>true
def Mk (all:List Oper) (k:Nat) (g:Option (Nat×Bool)):Operand→Bool
 | .tmp t=>ZY all k g t
 | _=>true
def Gr (all:List Oper) (k:Nat) (g:Option (Nat×Bool)):List Operand→Bool
 | []=>true
 | x::l=>match Mk all k g x with
  | true=>Gr all k g l
  | false=>false
def abJ (all:List Oper) (k:Nat) (o:Oper):Bool:=
 match (match o.guard with
  | none=>true
  | some (j,_)=>match Nat.blt j k with
   | true=>match Tk all j with
    | some d=>match writers all d with
         | [j']=>Nat.beq j' j
         | _=>false
    | none=>false
   | false=>false) with
 | true=>match o.op with
  | .pick c x y=>match Mk all k o.guard c,afk all k o.guard c true x with
   | true,true=>afk all k o.guard c false y
   | _,_=>false
  | op=>Gr all k o.guard op.operands.toList
 | false=>false
def qA (N:Nat) (all:List Oper):List Oper→Nat→Bool
 | [],_=>true
 | o::l,k=>match abJ all k o,(match o.dst with | some d=>Nat.blt d N | none=>true) with
  | true,true=>qA N all l (k+1)
  | _,_=>false
def before (all:List Oper):Nat→Nat→Nat→Bool
 | 0,_,_=>false
 | f+1,i,j=>match Y1 all j with
  | some o=>o.after.toList.any λ e=>Region.binds .any e&&Nat.blt e.on j&&(Nat.beq e.on i||before all f i e.on)
  | none=>false
def looks (all:List Oper) (o:Oper):List Nat:=
 (o.op.operands.toList.filterMap λ | .tmp t=>some t | _=>none)++(match o.guard with | some (j,_)=>(Tk all j).toList | none=>[])
def isIn (d:Option Nat) (l:List Nat):Bool:=match d with
 | some x=>zS x l
 | none=>false
def VR (all:List Oper) (x y:Oper):Bool:=!isIn x.dst (looks all y)&&!isIn y.dst (looks all x)&&!isIn x.dst y.dst.toList
def JV (all:List Oper) (j:Nat) (oj:Oper):List Oper→Nat→Bool
 | [],_=>true
 | o::l,i=>match Nat.blt i j with
  | true=>(VR all o oj||before all 40 i j)&&JV all j oj l (i+1)
  | false=>true
def Z0 (o:Oper) (k:Nat):Bool:=o.after.toList.all λ e=>!Region.binds .any e||Nat.blt e.on k
def Rs (all:List Oper):List Oper→Nat→Bool
 | [],_=>true
 | o::l,j=>Z0 o j&&JV all j o all 0&&Rs all l (j+1)
def ahY (N:Nat) (all:List Oper) (draw:Bool):Bool:=qA N all all 0&&(!draw||Rs all all 0)
def iQ (N:Nat):Code→Bool
 | .region _ ops draw=>ahY N ops.toList draw
 | .seq a b=>iQ N a&&iQ N b
 | .cond _ a b=>iQ N a&&iQ N b
 | .block _ a=>iQ N a
 | .loop a=>iQ N a
 | .rangeFunc _ _ a b=>iQ N a&&iQ N b
 | .skip | .exit _ | .ret=>true
 | _=>false
def meets (l m:List Nat):Bool:=match l with
 | []=>false
 | x::l'=>match zS x m with
  | true=>true
  | false=>meets l' m
def Rt (all:List Oper) (j:Nat) (x:Log):List Log→Nat→Bool
 | [],_=>true
 | _::_,0=>true
 | y::l,i+1=>match meets x.wrs y.xX,meets y.wrs x.xX,meets y.wrs x.wrs with
  | false,false,false=>Rt all j x l i
  | _,_,_=>match before all 40 i j with
   | true=>Rt all j x l i
   | false=>false
def Gh (all:List Oper):List Log→Nat→Bool
 | [],_=>true
 | _::_,0=>true
 | x::l,j+1=>match Rt all j x l j with
  | true=>Gh all l j
  | false=>false
def Vs:Code→Nat
 | .region id _ _=>id
 | .seq a _=>Vs a
 | .block _ a=>Vs a
 | .loop a=>Vs a
 | _=>1000000
def jX (ct:List Nat) (L:Code→St→(Exit→St→Prop)→Prop):Code→St→(Exit→St→Prop)→Prop
 | .skip,s,K=>K .normal s
 | .region _ ops draw,⟨T,H,nx⟩,K=>abI cfg Sp ops.toList nx ops.toList 0 T T H [] [] λ s' log=>
  match draw with
  | true=>match Gh ops.toList log ops.toList.length with
   | true=>K .normal s'
   | false=>False
  | false=>K .normal s'
 | .seq a b,s,K=>match zS (Vs b) ct with
  | true=>L (.seq a b) s K
  | false=>jX ct L a s λ e s'=>match e with
   | .normal=>jX ct L b s' K
   | e=>K e s'
 | .cond c x y,s,K=>match Vq cfg (iw s.tmps) c with
  | .bool b=>VP b (jX ct L x s K) (jX ct L y s K)
  | _=>False
 | .block id c,s,K=>jX ct L c s λ e s'=>match e with
  | .exit i=>match Nat.beq i id with
   | true=>K .normal s'
   | false=>K (.exit i) s'
  | e=>K e s'
 | .loop c,s,K=>L (.loop c) s K
 | .rangeFunc g ps a b,s,K=>L (.rangeFunc g ps a b) s K
 | .exit id,s,K=>K (.exit id) s
 | .ret,s,K=>K .ret s
 | _,_,_=>False
end run
inductive Le:AV→AV→Prop
 | refl (v:AV):Le v v
 | sl {es es' n n':Nat} {f f':Bool} {g g':Nat→AV} (hn:n=n') (he:n≠0→es=es') (hf:f'=true→f=true) (h:∀i,i<n→Le (g i) (g' i)):Le (.sl es n f g) (.sl es' n' f' g')
 | ro {cs cs':List AV} (hl:cs.length=cs'.length) (h:∀j,j<cs.length→Le (nth cs j) (nth cs' j)):Le (.ro cs) (.ro cs')
 | agg {cs cs':List AV} (hl:cs.length=cs'.length) (h:∀j,j<cs.length→Le (nth cs j) (nth cs' j)):Le (.agg cs) (.agg cs')
 | jM {cs cs':List AV} (hl:cs.length=cs'.length) (h:∀j,j<cs.length→Le (nth cs j) (nth cs' j)):Le (.jM cs) (.jM cs')
 | fn {f:FuncId} {cs cs':List AV} (hl:cs.length=cs'.length) (h:∀j,j<cs.length→Le (nth cs j) (nth cs' j)):Le (.fn f cs) (.fn f cs')
def Pk:List AV→List AV→Prop
 | [],[]=>True
 | u::l,v::m=>Le u v∧Pk l m
 | _,_=>False
def LeO:dP→dP→Prop
 | .box cs,.box cs'=>Pk cs cs'
 | .row es n g,.row es' n' g'=>es=es'∧n=n'∧∀i,i<n→Le (g i) (g' i)
 | .map kd z f,.map kd' z' f'=>kd=kd'∧z=z'∧f=f'
 | _,_=>False
def anc:List dP→List dP→Prop
 | [],[]=>True
 | x::l,y::m=>LeO x y∧anc l m
 | _,_=>False
def rO (ρ:List (Nat×Option Nat)) (o:Nat):Option Nat:=match look ρ o with
 | some x=>x
 | none=>some o
def VT (H:jW) (o:Nat):Bool:=match hget H o with
 | some _=>true
 | none=>false
def lH (ρ:List (Nat×Option Nat)) (H':jW):Nat→AV→AV→Prop
 | 0,_,_=>False
 | f+1,u,v=>match v with
  | .undef=>True
  | .bool b'=>match u with | .bool b=>b=b' | _=>False
  | .int k' n'=>match u with | .int k n=>k=k'∧n=n' | _=>False
  | .str s'=>match u with | .str s=>s=s' | _=>False
  | .Ct=>match u with | .Ct=>True | _=>False
  | .mref o'=>match u with | .mref o=>VT H' o'=true∧rO ρ o'=some o | _=>False
  | .pm a' b' c'=>match u with | .pm a b c=>a=a'∧b=b'∧c=c' | _=>False
  | .sl es' n' f' g'=>match u with
   | .sl es n fu g=>n=n'∧(n≠0→es=es')∧(f'=true→fu=true)∧∀i,i<n→Le (g i) (g' i)
   | _=>False
  | .ro cs'=>match u with | .ro cs=>Pk cs cs' | _=>False
  | .ptr o' i' off'=>match u with
   | .ptr o i off=>VT H' o'=true∧rO ρ o'=some o∧i=i'∧off=off'
   | _=>False
  | .dF o' i' n' f'=>match u with
   | .dF o i n fu=>VT H' o'=true∧rO ρ o'=some o∧i=i'∧n=n'∧(f'=true→fu=true)
   | .sl _ n fu _=>VT H' o'=true∧rO ρ o'=none∧fu=true∧n=0∧i'=0∧n'=0
   | _=>False
  | .agg cs'=>match u with | .agg cs=>Pm f cs cs' | _=>False
  | .fn f' cs'=>match u with | .fn fu cs=>fu=f'∧Pm f cs cs' | _=>False
  | .jM cs'=>match u with | .jM cs=>Pm f cs cs' | _=>False
 where
 Pm:Nat→List AV→List AV→Prop
  | 0,_,_=>False
  | _+1,[],[]=>True
  | f+1,u::l,v::m=>lH ρ H' f u v∧Pm f l m
  | _+1,_,_=>False
def ane (ρ:List (Nat×Option Nat)) (H':jW) (T:List (Nat×AV)):List (Nat×AV)→Prop
 | []=>True
 | (t,v)::l=>lH ρ H' fuel (iw T t) v∧ane ρ H' T l
def abK (ρ:List (Nat×Option Nat)) (H':jW) (x y:dP):Prop:=
 match x,y with
 | .box cs,.box cs'=>lH.Pm ρ H' fuel cs cs'
 | .row es n g,.row es' n' g'=>es=es'∧n=n'∧∀i,i<n→Le (g i) (g' i)
 | .map kd z f,.map kd' z' f'=>kd=kd'∧z=z'∧f=f'
 | _,_=>False
def ahZ (ρ:List (Nat×Option Nat)) (H' H:jW):jW→Prop
 | []=>True
 | (_,none)::l=>ahZ ρ H' H l
 | (o',some y)::l=>(match rO ρ o' with
  | some o=>match hget H o with
   | some x=>abK ρ H' x y
   | none=>False
  | none=>match y with
   | .row _ n _=>n=0
   | _=>False)∧ahZ ρ H' H l
def VU (ρ:List (Nat×Option Nat)):jW→List Nat
 | []=>[]
 | (_,none)::l=>VU ρ l
 | (o',some _)::l=>match rO ρ o' with
  | some o=>o::VU ρ l
  | none=>VU ρ l
def Ot (m nx:Nat) (ρ:List (Nat×Option Nat)):jW→Bool
 | []=>true
 | (o',_)::l=>match Nat.blt o' nx with
  | true=>match rO ρ o' with
   | some o=>match Nat.beq o o' with
    | true=>Ot m nx ρ l
    | false=>match Nat.ble m o' with
     | true=>Ot m nx ρ l
     | false=>false
   | none=>match Nat.ble m o' with
    | true=>Ot m nx ρ l
    | false=>false
  | false=>false
def amu:jW→Bool
 | []=>true
 | (o,_)::l=>match look l o with
  | some _=>false
  | none=>amu l
def adQ (m:Nat) (ρ:List (Nat×Option Nat)) (s':St):Bool:=
 match Ot m s'.nx ρ s'.heap,nJ (VU ρ s'.heap),amu s'.heap with
 | true,true,true=>Nat.ble m s'.nx
 | _,_,_=>false
structure Emb (m:Nat) (ρ:List (Nat×Option Nat)) (s s':St):Prop where
 Gh:adQ m ρ s'=true
 tmps:ane ρ s'.heap s.tmps s'.tmps
 heap:ahZ ρ s'.heap s.heap s'.heap
def upTo:Nat→Nat→List Nat
 | 0,_=>[]
 | n+1,i=>i::upTo n (i+1)
def Ia (cfg:uT) (s:St):List ResultVar→Option (List AV)
 | []=>some []
 | .tmp t::l=>match Ia cfg s l with
  | some vs=>some (iw s.tmps t::vs)
  | none=>none
 | .cell ad ty::l=>match Ia cfg s l,iw s.tmps ad,look cfg.ty ty with
  | some vs,.ptr o 0 0,some ti=>match hget s.heap o with
   | some (.box cs)=>match ti.agg with
    | true=>match Nat.ble ti.size cs.length with
     | true=>some (.agg (cs.take ti.size)::vs)
     | false=>none
    | false=>match cs with
     | c::_=>some (c::vs)
     | []=>none
   | some (.row _ n g)=>match VO ti.desc,ti.agg with
    | some _,true=>match j6 n 0 g with
     | cs=>match Nat.ble ti.size cs.length with
      | true=>some (.agg (cs.take ti.size)::vs)
      | false=>none
    | _,_=>none
   | _=>none
  | _,_,_=>none
def oneOf:List AV→AV
 | [v]=>v
 | vs=>.jM vs
def Z4 (m:Nat) (r:AV):AV→List Nat
 | .ptr o _ _=>match Nat.ble m o with
  | true=>[o]
  | false=>[]
 | .dF o _ _ _=>match r with
  | .dF .. => match Nat.ble m o with
   | true=>[o]
   | false=>[]
  | _=>[]
 | _=>[]
def VW (H:jW):List Nat→List dP→Prop
 | [],[]=>True
 | o::l,y::ys=>(match hget H o with
  | some x=>match Vo x with
   | true=>abK [] [] x y
   | false=>False
  | none=>False)∧VW H l ys
 | _,_=>False
def Gs (cfg:uT) (Sp:ny) (rs:List ResultVar) (m:Nat) (r:AV) (fE:List dP) (e:Exit) (s:St):Prop:=
 match (match e with | .normal=>true | .ret=>true | _=>false) with
 | true=>match Ia cfg s rs with
  | some vs=>match oneOf vs with
   | v=>match upTo m 0++Z4 m r v with
    | sg=>ev Sp [] (hget s.heap) (Mj sg v λ v' ids=>fK (nJ sg) (fK (JR ids sg) (jL v'))) [] λ v' _ _=>lH [] (nK fE 0) fuel v' r∧VW s.heap sg fE
  | none=>False
 | false=>False
 where nK:List dP→Nat→jW
 | [],_=>[]
 | x::l,i=>(i,some x)::nK l (i+1)
def VX:List dP→Nat→jW
 | [],_=>[]
 | x::l,i=>(i,gz x)::VX l (i+1)
def Ib:List AV→Nat→List (Nat×AV)
 | [],_=>[]
 | v::l,i=>(i,v)::Ib l (i+1)
end Go.Ab
namespace Go.Ab
def lM:iJ→Value
 | .s b=>.string b
 | .i n=>.int .i64 n
 | .p a b=>.agg #[.int .i64 a,.int .i64 b]
def Ru (z:List ZK) (n:Int):Value:=match z with
 | [.bool]=>.bool (n != 0)
 | [.int k]=>.int k n
 | _=>Go.undef
structure Rv (kd:TD) (z:List ZK) (f:iJ→Option Int) (es:Array MapEntry):Prop where
 keys:∀e∈es.toList,∃k n,e.key=lM k∧qy kd k=true∧f k=some n∧e.val=Ru z n
 uniq:es.toList.Pairwise λ e e'=>e.key≠e'.key
 all:∀k n,f k=some n→∃e∈es.toList,e.key=lM k
inductive ig (w:World) (I:Nat→Prop):AV→Value→Prop
 | undef (x:Value):ig w I .undef x
 | bool (b:Bool):ig w I (.bool b) (.bool b)
 | int (k:IntKind) (n:Int):ig w I (.int k n) (.int k n)
 | str (s:ByteArray):ig w I (.str s) (.string s)
 | Ct:ig w I .Ct (.pointer none)
 | pm {kd:TD} {z:List ZK} {f:iJ→Option Int} (b:Nat) (es:Array MapEntry) (clock:Nat) (hI:I b) (hw:w.heap[b]? = some (.map es clock)) (hm:Rv kd z f es):ig w I (.pm kd z f) (.map (some b))
 | sl {es n:Nat} {full:Bool} {g:Nat→AV} {a:Option Addr} {cap:Nat} (b off:Nat) (vs:Nat→Nat→Value)
   (hcap:n≤cap) (hfull:full=true→cap=n) (ha:n≠0→a=some ⟨b,off,none⟩∧I b)
   (hes:∀i,i<n→(g i).cells.length=es)
   (hm:∀i j,i<n→j<es→w.cell? ⟨b,off+(i*es+j),none⟩=some (vs i j))
   (h1:∀i j,i<n→j<es→(vs i j).oneCell'=true)
   (hr:∀i j,i<n→j<es→ig w I (nth (g i).cells j) (vs i j)):ig w I (.sl es n full g) (.slice a n cap)
 | ro {cs:List AV} (b off:Nat) (vs:Nat→Value) (hI:I b)
   (hm:∀j,j<cs.length→w.cell? ⟨b,off+j,none⟩=some (vs j))
   (hr:∀j,j<cs.length→ig w I (nth cs j) (vs j)):ig w I (.ro cs) (.pointer (some ⟨b,off,none⟩))
 | agg {cs:List AV} {vs:Array Value} (hl:vs.size=cs.length) (hr:∀j,j<cs.length→ig w I (nth cs j) (vs.getD j Go.undef)):ig w I (.agg cs) (.agg vs)
 | fn {f:FuncId} {cs:List AV} {vs:Array Value} (hl:vs.size=cs.length) (hr:∀j,j<cs.length→ig w I (nth cs j) (vs.getD j Go.undef)):ig w I (.fn f cs) (.func (.func f) #[] vs)
 | jM {cs:List AV} {vs:Array Value} (hl:vs.size=cs.length) (hr:∀j,j<cs.length→ig w I (nth cs j) (vs.getD j Go.undef)):ig w I (.jM cs) (.tuple vs)
structure Own where
 es:Nat
 n:Nat
 pl:Option (Nat×Nat×Nat)
abbrev OM:=Nat→Option Own
inductive dZ (w:World) (I:Nat→Prop) (O:OM) (D:Nat→Prop):AV→Value→Prop
 | pure {v:AV} {x:Value} (h:ig w I v x):dZ w I O D v x
 | ptr {o i off b bo sz:Nat} {p:Own} (ho:O o=some p) (hp:p.pl=some (b,bo,sz)) (hi:i<p.n):dZ w I O D (.ptr o i off) (.pointer (some ⟨b,bo+(i*p.es+off),none⟩))
 | dF {o i n:Nat} {full:Bool} {p:Own} {a:Option Addr} {cap:Nat} (ho:O o=some p) (hi:i+n≤p.n) (hcap:n≤cap) (hfull:full=true→cap=n)
   (hpl:cap≠0→∃b bo sz,p.pl=some (b,bo,sz)∧a=some ⟨b,bo+i*p.es,none⟩∧bo+(i+cap)*p.es≤sz) (hext:p.n≤i+cap):dZ w I O D (.dF o i n full) (.slice a n cap)
 | mref {o b bo sz:Nat} {p:Own} (ho:O o=some p) (hp:p.pl=some (b,bo,sz)):dZ w I O D (.mref o) (.map (some b))
 | xY {o:Nat} {x:Value} (ho:O o=none) (hd:D o) (h1:x.oneCell'=true):dZ w I O D (.mref o) x
 | xZ {o i off:Nat} {x:Value} (ho:O o=none) (hd:D o) (h1:x.oneCell'=true):dZ w I O D (.ptr o i off) x
 | uU {o i n:Nat} {full:Bool} {x:Value} (ho:O o=none) (hd:D o) (h1:x.oneCell'=true):dZ w I O D (.dF o i n full) x
 | agg {cs:List AV} {vs:Array Value} (hl:vs.size=cs.length) (hr:∀j,j<cs.length→dZ w I O D (nth cs j) (vs.getD j Go.undef)):dZ w I O D (.agg cs) (.agg vs)
 | fn {f:FuncId} {cs:List AV} {vs:Array Value} (hl:vs.size=cs.length) (hr:∀j,j<cs.length→dZ w I O D (nth cs j) (vs.getD j Go.undef)):dZ w I O D (.fn f cs) (.func (.func f) #[] vs)
 | jM {cs:List AV} {vs:Array Value} (hl:vs.size=cs.length) (hr:∀j,j<cs.length→dZ w I O D (nth cs j) (vs.getD j Go.undef)):dZ w I O D (.jM cs) (.tuple vs)
def Ic (w:World) (b sz:Nat):Prop:=∀j,j<sz→(w.cell? ⟨b,j,none⟩).isSome=true∧w.frozen? ⟨b,j,none⟩=false
def cellAt (w:World) (b j:Nat):Value:=(w.cell? ⟨b,j,none⟩).getD Go.undef
structure uV (w:World) (b bo sz:Nat):Prop where
 al:Ic w b sz
 one:∀j,bo≤j→j<sz→(cellAt w b j).oneCell'=true
instance {w:World} {b bo sz:Nat}:CoeOut (uV w b bo sz) (Ic w b sz):=⟨uV.al⟩
instance {w:World} {b bo sz:Nat}:CoeFun (uV w b bo sz) (λ _=>∀j,j<sz→(w.cell? ⟨b,j,none⟩).isSome=true∧w.frozen? ⟨b,j,none⟩=false):=⟨λ h=>h.al⟩
def iK (w:World) (I:Nat→Prop) (O:OM) (D:Nat→Prop) (p:Own):dP→Prop
 | .box cs=>p.n=1∧∃b bo sz,p.pl=some (b,bo,sz)∧Ic w b sz∧bo+cs.length≤sz∧∀j,j<cs.length→dZ w I O D (nth cs j) (cellAt w b (bo+j))
 | .row es n g=>p.n=n∧p.es=es∧(∀i,i<n→(g i).cells.length=es)∧((n=0∧p.pl=none)∨
   ∃b bo sz,p.pl=some (b,bo,sz)∧uV w b bo sz∧bo+n*es≤sz∧∀i j,i<n→j<es→ig w I (nth (g i).cells j) (cellAt w b (bo+(i*es+j)))∧(cellAt w b (bo+(i*es+j))).oneCell'=true)
 | .map kd z f=>p.n=1∧∃b bo sz es clock,p.pl=some (b,bo,sz)∧w.heap[b]? = some (.map es clock)∧Rv kd z f es
structure Ctx where
 w0:World
 M:Nat→Prop
 I0:Nat→Prop
 O0:OM
 m:Nat
 K:Nat→Obj→Prop
 rd:Bool
def Ml:Obj→Bool
 | .cells .. | .map .. => false
 | _=>true
structure iC (w' w:World):Prop where
 os:w'.os=w.os
 tape:w'.tape=w.tape
 output:w'.output=w.output
 keep:∀(k:Nat) (o:Obj),w.heap[k]? = some o→Ml o=true→w'.heap[k]? = some o
theorem iC.refl (w:World):iC w w:=⟨rfl,rfl,rfl,λ _ _ h _=>h⟩
theorem iC.trans {a b c:World} (h:iC a b) (k:iC b c):iC a c:=⟨h.os.trans k.os,h.tape.trans k.tape,h.output.trans k.output,λ i o hi ho=>h.keep i o (k.keep i o hi ho) ho⟩
variable {w':World}
theorem iC.heap {w:World} (h1:w'.os=w.os) (h2:w'.tape=w.tape) (h3:w'.output=w.output) (h:w'.heap=w.heap):iC w' w:=⟨h1,h2,h3,λ i o hi _=>by rw [h]; exact hi⟩
theorem iC.alloc (w:World) (o:Obj):iC (w.alloc o) w:=⟨rfl,rfl,rfl,λ i x hi _=>by
 have hlt:i<w.heap.size:=by
  rcases Nat.lt_or_ge i w.heap.size with h | h
  ·exact h
  ·rw [Array.getElem?_eq_none h] at hi; cases hi
 show (w.heap.push o)[i]? = some x;rw [Array.getElem?_push_lt hlt,← hi,Array.getElem?_eq_getElem hlt]⟩
structure EI (cx:Ctx) (w:World):Prop where
 same:iC w cx.w0
 kept:∀k o,cx.K k o→w.heap[k]? = some o∧Ml o=true
theorem EI.step {cx:Ctx} {w:World} (h:EI cx w) (he:iC w' w):EI cx w':=⟨he.trans h.same,λ k o hk=>⟨he.keep k o (h.kept k o hk).1 (h.kept k o hk).2,(h.kept k o hk).2⟩⟩
structure Rel (cfg:uT) (cx:Ctx) (H:Nat→Option dP) (D:Nat→Prop) (w:World) (I:Nat→Prop) (O:OM):Prop where
 dom:∀o,O o=none↔H o=none
 used:∀o p,O o=some p→D o
 objs:∀o ob p,H o=some ob→O o=some p→iK w I O D p ob
 inj:∀o o' p p' b bo sz b' ni sz',O o=some p→O o'=some p'→p.pl=some (b,bo,sz)→p'.pl=some (b',ni,sz')→o≠o'→b≠b'
 nL:∀o p b bo sz,O o=some p→p.pl=some (b,bo,sz)→¬ I b
 lt:∀o p b bo sz,O o=some p→p.pl=some (b,bo,sz)→b<w.heap.size
 yT:∀b,I b→b<w.heap.size
 size:cx.w0.heap.size≤w.heap.size
 frame:∀b,b<cx.w0.heap.size→¬ cx.M b→w.heap[b]? = cx.w0.heap[b]?
 new:∀o p b bo sz,O o=some p→p.pl=some (b,bo,sz)→cx.w0.heap.size≤b∨cx.M b
 glob:∀g cs,look cfg.glob g=some cs→ig w I (.ro cs) (.pointer (some ⟨g,0,none⟩))
 O9:∀b,cx.I0 b→I b
 Rw:∀b,I b→cx.I0 b∨cx.w0.heap.size≤b∨cx.M b
 Vt:∀o,o<cx.m→O o=cx.O0 o∨O o=none
 Dm:∀o,o<cx.m→D o
 env:EI cx w
theorem tu (l:List AV) (i:Nat):nth l i=l.getD i .undef:=by
 induction l generalizing i with
 | nil=>simp [nth]
 | cons v l ih=>cases i<;>simp [nth,ih]
variable {b:Nat}
theorem cell?_of_heap {w:World} {off:Nat} (h:w'.heap[b]? = w.heap[b]?):w'.cell? ⟨b,off,none⟩=w.cell? ⟨b,off,none⟩:=by
 simp [World.cell?, h]
theorem frozen?_of_heap {w:World} {off:Nat} (h:w'.heap[b]? = w.heap[b]?):w'.frozen? ⟨b,off,none⟩=w.frozen? ⟨b,off,none⟩:=by
 simp [World.frozen?, h]
theorem uV.up {w:World} {bo ni sz:Nat} (h:uV w b bo sz) (hb:bo≤ni):uV w b ni sz:=⟨h.al,λ j h1 h2=>h.one j (Nat.le_trans hb h1) h2⟩
theorem uV.of_heap {w:World} {bo sz:Nat} (h:uV w b bo sz) (hh:w'.heap[b]? = w.heap[b]?):uV w' b bo sz:=
 ⟨λ j hj=>by rw [cell?_of_heap hh,frozen?_of_heap hh]; exact h.al j hj,λ j hb hj=>by rw [cellAt,cell?_of_heap hh]; exact h.one j hb hj⟩
variable {I':Nat→Prop} {v:AV} {x:Value}
theorem ig.mono {w:World} {I:Nat→Prop} (hI:∀b,I b→I' b) (hw:∀b,I b→w'.heap[b]? = w.heap[b]?) (h:ig w I v x):ig w' I' v x:=by
 induction h with
 | undef x=>exact .undef x
 | bool b=>exact .bool b
 | int k n=>exact .int k n
 | str s=>exact .str s
 | Ct=>exact .Ct
 | pm b es clock h1 h2 h3=>exact .pm b es clock (hI _ h1) (by rw [hw _ h1]; exact h2) h3
 | @sl es n full g a cap b off vs hcap hfull ha hes hm h1 hr ih=>
  refine .sl b off vs hcap hfull (λ h=>⟨(ha h).1,hI _ (ha h).2⟩) hes (λ i j hi hj=>?_) h1 ih;rw [cell?_of_heap (hw _ (ha om).2)];exact hm i j hi hj
 | ro b off vs h1 hm hr ih=>
  refine .ro b off vs (hI _ h1) (λ j hj=>?_) ih;rw [cell?_of_heap (hw _ h1)];exact hm j hj
 | agg hl hr ih=>exact .agg hl ih
 | fn hl hr ih=>exact .fn hl ih
 | jM hl hr ih=>exact .jM hl ih
theorem dZ.mono {w:World} {I:Nat→Prop} {O O':OM} {D D':Nat→Prop} (hI:∀b,I b→I' b) (hw:∀b,I b→w'.heap[b]? = w.heap[b]?)
  (hO:∀o,D o→O' o=O o∨O' o=none) (hD:∀o,D o→D' o) (hu:∀o p,O o=some p→D o) {v:AV} {x:Value} (h:dZ w I O D v x):dZ w' I' O' D' v x:=by
 induction h with
 | pure h=>exact .pure (h.mono hI hw)
 | @ptr o i off b bo sz p ho hp hi=>
  rcases hO o (hu o p ho) with h | h
  ·exact .ptr (h.trans ho) hp hi
  ·exact .xZ h (hD _ (hu o p ho)) rfl
 | @dF o i n full p a cap ho hi hcap hfull hpl hext=>
  rcases hO o (hu o p ho) with h | h
  ·exact .dF (h.trans ho) hi hcap hfull hpl hext
  ·exact .uU h (hD _ (hu o p ho)) rfl
 | @mref o b bo sz p ho hp=>
  rcases hO o (hu o p ho) with h | h
  ·exact .mref (h.trans ho) hp
  ·exact .xY h (hD _ (hu o p ho)) rfl
 | @xY o x ho hd h1=>
  rcases hO o hd with h | h
  ·exact .xY (h.trans ho) (hD _ hd) h1
  ·exact .xY h (hD _ hd) h1
 | @xZ o i off x ho hd h1=>
  rcases hO o hd with h | h
  ·exact .xZ (h.trans ho) (hD _ hd) h1
  ·exact .xZ h (hD _ hd) h1
 | @uU o i n full x ho hd h1=>
  rcases hO o hd with h | h
  ·exact .uU (h.trans ho) (hD _ hd) h1
  ·exact .uU h (hD _ hd) h1
 | agg hl hr ih=>exact .agg hl ih
 | fn hl hr ih=>exact .fn hl ih
 | jM hl hr ih=>exact .jM hl ih
def JW:ZK→Value→Prop
 | .bool,x=>x=.bool false
 | .int k,x=>x=.int k 0
 | .str,x=>x=.string ByteArray.empty
 | .slice,x=>x=.slice none 0 0
 | .ptr,x=>x=.pointer none
 | .other,x=>x.oneCell'=true
def ah1:TD→TypeDesc→Prop
 | .bool,d=>d=.bool
 | .int k,d=>d=.int k
 | .str,d=>d=.string
 | .slice e,d=>d=.slice e
 | .pointer e,d=>d=.pointer e
 | .map k e,d=>d=.map k e
 | .array n e,d=>d=.array n e
 | .struct fs,d=>∃fields:Array Field,d=.struct fields∧fields.toList.map (λ f=>(f.offset,f.type))=fs
 | .other,_=>True
structure aps (P:Program) (t:TypeId) (ti:Mh):Prop where
 ex:∃i d z,P.info? t=some i∧P.underlying t=some d∧i.zero=some z∧i.size=ti.size∧i.bytes=ti.bytes∧d.isRow=ti.agg∧z.cells.size=ti.size∧
  ti.zero.length=ti.size∧(∀j,j<ti.size→JW (ti.zero.getD j .other) (z.cells.getD j Go.undef))∧ah1 ti.desc d
 one:ti.agg=false→∀i z,P.info? t=some i→i.zero=some z→z.cells=#[z]
def Tm (P:Program):TypeDesc→Prop
 | .struct fields=>∀f∈fields.toList,(P.info? f.type).isSome=true
 | _=>True
def Z5:ZK→TypeDesc→Prop
 | .bool,d=>d=.bool
 | .int k,d=>d=.int k
 | .str,d=>d=.string
 | _,_=>False
def akU (P:Program) (ok:TypeId→List ZK→Prop):List Field→List ZK→Nat→Prop
 | [],[],_=>True
 | f::fs,zs,k=>f.name ≠ "_" ∧ f.offset=k∧∃z1 z2,zs=z1++z2∧((∃z d,z1=[z]∧P.underlying f.type=some d∧Z5 z d)∨(ok f.type z1∧P.cellsOf f.type=z1.length))∧akU P ok fs z2 (k+z1.length)
 | _,_,_=>False
def EqT (P:Program):Nat→TypeId→List ZK→Prop
 | 0,_,_=>False
 | n+1,t,zs=>∃fields,P.underlying t=some (.struct fields)∧P.stoodInHeld t=false∧akU P (EqT P n) fields.toList zs 0
structure apt (P:Program) (t:TypeId) (zs:List ZK):Prop where
 ex:EqT P 4 t zs
 guard:P.eqGuardType P.depth t=false
structure gL (P:Program) (cfg:uT):Prop where
 ty:∀t ti,look cfg.ty t=some ti→aps P t ti
 fields:∀t ti d,look cfg.ty t=some ti→P.underlying t=some d→Tm P d
 mixed:P.follows .mixedOrders=true
 eqs:∀t zs,look cfg.eqs t=some zs→apt P t zs
def lI (H:Nat→Option dP) (ups:jW):Nat→Option dP:=λ o=>match look ups o with | some x=>x | none=>H o
inductive fD (Sp:ny) (H:Nat→Option dP):Pg→AV→jW→List Nat→Prop
 | ret (v:AV) (ups:jW):fD Sp H (.ret v ups) v ups []
 | need {p:Prop} [d:Decidable p] {k:Pg} {v:AV} {ups:jW} {r:List Nat} (hp:p) (h:fD Sp H k v ups r):fD Sp H (.need p k) v ups r
 | rd {o:Nat} {x:dP} {k:dP→Pg} {v:AV} {ups:jW} {r:List Nat} (ho:H o=some x) (h:fD Sp H (k x) v ups r):fD Sp H (.rd o k) v ups (o::r)
 | call {f:FuncId} {args:List AV} {obs:List dP} {k:AV→List dP→Pg} {x:AV} {fE:List dP} {v:AV} {ups:jW} {r:List Nat} (hs:Sp f args obs x fE)
   (h:fD Sp H (k x fE) v ups r):fD Sp H (.call f args obs k) v ups r
def hof:List dP→Nat→Option dP
 | [],_=>none
 | x::_,0=>some x
 | _::l,n+1=>hof l n
def D5:List dP→Nat→Option dP
 | [],_=>none
 | x::_,0=>gz x
 | _::l,n+1=>D5 l n
theorem agn:∀ {l:List dP} {j:Nat} {x:dP},D5 l j=some x→hof l j=some x∧VK x=false:=by
 intro l;induction l with
 | nil=>intro j x h; cases h
 | cons y l ih=>
  intro j x h;cases j with
  | zero=>
   simp only [D5,gz] at h;split at h
   ·cases h
   ·rename_i hg; cases h; exact ⟨rfl,hg⟩
  | succ j=>exact ih h
theorem akV:∀ {l:List dP},(∀j x,hof l j=some x→VK x=false)→D5 l=hof l:=by
 intro l;induction l with
 | nil=>intro _; rfl
 | cons y l ih=>
  intro h;funext j;cases j with
  | zero=>have:=h 0 y rfl; simp only [D5,hof,gz,this]
  | succ j=>exact congrFun (ih λ j x hx=>h (j+1) x hx) j
def Jz (w:World) (I:Nat→Prop) (O:OM) (m:Nat):Ctx:=⟨w,λ b=>∃o p bo sz,O o=some p∧p.pl=some (b,bo,sz),I,O,m,λ _ _=>False,false⟩
def Spec (P:Program) (cfg:uT):ny:=λ f args obs r fE=>
 (∃fn,P.funcs[f]? = some fn∧fn.body.isNone=false∧(fn.name == "runtime.NumGoroutine")=false)∧obs.length≤fE.length∧
 ∀(w:World) (I:Nat→Prop) (O:OM) (vals:Array Value),Rel cfg (Jz w I O obs.length) (hof obs) (λ o=>o<obs.length) w I O→
  vals.size=args.length→(∀j,j<args.length→dZ w I O (λ o=>o<obs.length) (nth args j) (vals.getD j Go.undef))→
  Calls P f vals w λ e w'=>∃x I' O',e=.returned x∧Rel cfg (Jz w I O obs.length) (D5 fE) (λ o=>o<fE.length) w' I' O'∧
   dZ w' I' O' (λ o=>o<fE.length) r x
section
variable {P:Program} {cfg:uT} {cx:Ctx} {H:Nat→Option dP} {D:Nat→Prop} {w:World} {I:Nat→Prop} {O:OM}
def AY (D:Nat→Prop) (n:Nat):Nat→Prop:=λ o=>D o∨(n≤o∧o<n+stride)
def VY (D:Nat→Prop) (n:Nat):Prop:=∀o,n≤o→o<n+stride→¬ D o
variable {n:Nat}
theorem VY.one {D:Nat→Prop} (h:VY D n):¬ D n:=h n (Nat.le_refl _) (by unfold stride; omega)
variable {o:Nat}
theorem Rx {D:Nat→Prop} (h:o=n):AY D n o:=.inr ⟨by omega,by unfold stride; omega⟩
def fC (P:Program) (cfg:uT) (cx:Ctx) (H:Nat→Option dP) (D:Nat→Prop) (w:World) (I:Nat→Prop) (O:OM) (dN:Nat) (o:Oper) (a:Act) (v:AV) (ups:jW):Prop:=
 ∀(next:Act→World→Prop) (Q:Exit→Act→World→Prop),
  (∀x w' I' O',Rel cfg cx (lI H ups) (AY D dN) w' I' O'→(∀u y,dZ w I O D u y→dZ w' I' O' (AY D dN) u y)→dZ w' I' O' (AY D dN) v x→next (a.put o.dst x) w')→
  o.wp P a w next Q
theorem AZ (H:Nat→Option dP):lI H []=H:=rfl
theorem iK.mono {O':OM} {D':Nat→Prop} {p:Own} {ob:dP} (hI:∀b,I b→I' b) (hw:∀b,I b→w'.heap[b]? = w.heap[b]?)
  (hO:∀o,D o→O' o=O o∨O' o=none) (hD:∀o,D o→D' o) (hu:∀o p,O o=some p→D o) (hb:∀b bo sz,p.pl=some (b,bo,sz)→w'.heap[b]? = w.heap[b]?)
  (h:iK w I O D p ob):iK w' I' O' D' p ob:=by
 cases ob with
 | box cs=>
  obtain ⟨h1,b,bo,sz,hp,ha,hl,hc⟩:=h;have hh:=hb b bo sz hp;refine ⟨h1,b,bo,sz,hp,λ j hj=>?_,hl,λ j hj=>?_⟩
  ·rw [cell?_of_heap hh,frozen?_of_heap hh]; exact ha j hj
  ·rw [cellAt,cell?_of_heap hh]; exact (hc j hj).mono hI hw hO hD hu
 | row es n g=>
  obtain ⟨h1,h2,h3,h4⟩:=h;refine ⟨h1,h2,h3,?_⟩;rcases h4 with h4 | ⟨b,bo,sz,hp,ha,hl,hc⟩
  ·exact .inl h4
  ·have hh:=hb b bo sz hp;refine .inr ⟨b,bo,sz,hp,ha.of_heap hh,hl,λ i j hi hj=>?_⟩
   ·rw [cellAt,cell?_of_heap hh]; exact ⟨(hc i j hi hj).1.mono hI hw,(hc i j hi hj).2⟩
 | map kd z f=>
  obtain ⟨h1,b,bo,sz,es,clock,hp,hw2,hm⟩:=h;exact ⟨h1,b,bo,sz,es,clock,hp,by rw [hb b bo sz hp]; exact hw2,hm⟩
theorem Rel.wh (hR:Rel cfg cx H D w I O) (n:Nat):Rel cfg cx H (AY D n) w I O:=
 { hR with
  used:=λ o p h=>.inl (hR.used o p h)
  objs:=λ o ob p h h'=>(hR.objs o ob p h h').mono (λ _ h=>h) (λ _ _=>rfl) (λ _ _=>.inl rfl) (λ _ h=>.inl h) hR.used (λ _ _ _ _=>rfl)
  Dm:=λ o h=>.inl (hR.Dm o h) }
theorem dZ.wh (hR:Rel cfg cx H D w I O) (n:Nat) (h:dZ w I O D v x):dZ w I O (AY D n) v x:=
 h.mono (λ _ h=>h) (λ _ _=>rfl) (λ _ _=>.inl rfl) (λ _ h=>.inl h) hR.used
theorem qW {o:Oper} {a:Act} {next:Act→World→Prop} {Q:Exit→Act→World→Prop} (h:(execOp a.eval o).run P w=.ok (.value x) w') (hn:next (a.put o.dst x) w'):o.wp P a w next Q:=by
 unfold Oper.wp; rw [h]; exact hn
theorem fC.dY {dN:Nat} {o:Oper} {a:Act} (hR:Rel cfg cx H D w I O) (h:(execOp a.eval o).run P w=.ok (.value x) w) (hv:dZ w I O D v x):fC P cfg cx H D w I O dN o a v []:=by
 intro next Q hn
 exact qW h (hn x w I O (by rw [AZ]; exact hR.wh dN) (λ u y hu=>hu.wh hR dN) (hv.wh hR dN))
theorem dZ.kL {b:Bool} (h:dZ w I O D (.bool b) x):x=.bool b:=by
 cases h with | pure h=>cases h; rfl
theorem dZ.iD {k:IntKind} {n:Int} (h:dZ w I O D (.int k n) x):x=.int k n:=by
 cases h with | pure h=>cases h; rfl
theorem dZ.zT {s:ByteArray} (h:dZ w I O D (.str s) x):x=.string s:=by
 cases h with | pure h=>cases h; rfl
theorem dZ.yV {es:Nat} {f:Bool} {g:Nat→AV} (h:dZ w I O D (.sl es n f g) x):ig w I (.sl es n f g) x:=by
 cases h with | pure h=>exact h
variable {cs:List AV}
theorem dZ.VZ (h:dZ w I O D (.ro cs) x):ig w I (.ro cs) x:=by
 cases h with | pure h=>exact h
theorem dZ.qB (h:dZ w I O D (.agg cs) x):∃vs:Array Value,x=.agg vs∧vs.size=cs.length∧∀j,j<cs.length→dZ w I O D (nth cs j) (vs.getD j Go.undef):=by
 cases h with
 | pure h=>cases h with | agg hl hr=>exact ⟨_,rfl,hl,λ j hj=>.pure (hr j hj)⟩
 | agg hl hr=>exact ⟨_,rfl,hl,hr⟩
theorem dZ.Gt (h:dZ w I O D (.jM cs) x):∃vs:Array Value,x=.tuple vs∧vs.size=cs.length∧∀j,j<cs.length→dZ w I O D (nth cs j) (vs.getD j Go.undef):=by
 cases h with
 | pure h=>cases h with | jM hl hr=>exact ⟨_,rfl,hl,λ j hj=>.pure (hr j hj)⟩
 | jM hl hr=>exact ⟨_,rfl,hl,hr⟩
theorem dZ.JX {f:FuncId} (h:dZ w I O D (.fn f cs) x):∃vs:Array Value,x=.func (.func f) #[] vs∧vs.size=cs.length∧∀j,j<cs.length→dZ w I O D (nth cs j) (vs.getD j Go.undef):=by
 cases h with
 | pure h=>cases h with | fn hl hr=>exact ⟨_,rfl,hl,λ j hj=>.pure (hr j hj)⟩
 | fn hl hr=>exact ⟨_,rfl,hl,hr⟩
variable {p:Own}
theorem dZ.nM {i off:Nat} (ho:O o=some p) (h:dZ w I O D (.ptr o i off) x):∃b bo sz,p.pl=some (b,bo,sz)∧i<p.n∧x=.pointer (some ⟨b,bo+(i*p.es+off),none⟩):=by
 cases h with
 | pure h=>cases h
 | @ptr _ _ _ b bo sz p' ho' hp hi=>
  have:p'=p:=Option.some.inj (ho'.symm.trans ho);subst this;exact ⟨b,bo,sz,hp,hi,rfl⟩
 | xZ ho'=>rw [ho] at ho'; cases ho'
theorem dZ.lD {i:Nat} {full:Bool} (ho:O o=some p) (h:dZ w I O D (.dF o i n full) x):∃a cap,x=.slice a n cap∧i+n≤p.n∧n≤cap∧(full=true→cap=n)∧
  (cap≠0→∃b bo sz,p.pl=some (b,bo,sz)∧a=some ⟨b,bo+i*p.es,none⟩∧bo+(i+cap)*p.es≤sz):=by
 cases h with
 | pure h=>cases h
 | @dF _ _ _ _ p' a cap ho' hi hcap hfull hpl hext=>
  have:p'=p:=Option.some.inj (ho'.symm.trans ho);subst this;exact ⟨a,cap,rfl,hi,hcap,hfull,hpl⟩
 | uU ho'=>rw [ho] at ho'; cases ho'
theorem dZ.CV {i n' cap:Nat} {full:Bool} {aa:Option Addr} (ho:O o=some p) (h:dZ w I O D (.dF o i n full) (.slice aa n' cap)):p.n≤i+cap:=by
 cases h with
 | pure h=>cases h
 | @dF _ _ _ _ p' a cap ho' hi hcap hfull hpl hext=>
  have:p'=p:=Option.some.inj (ho'.symm.trans ho);subst this;exact hext
 | uU ho'=>rw [ho] at ho'; cases ho'
theorem dZ.uW (ho:O o=some p) (h:dZ w I O D (.mref o) x):∃b bo sz,p.pl=some (b,bo,sz)∧x=.map (some b):=by
 cases h with
 | pure h=>cases h
 | @mref _ b bo sz p' ho' hp=>
  have:p'=p:=Option.some.inj (ho'.symm.trans ho);subst this;exact ⟨b,bo,sz,hp,rfl⟩
 | xY ho'=>rw [ho] at ho'; cases ho'
theorem dZ.anf {kd:TD} {z:List ZK} {f:iJ→Option Int} (h:dZ w I O D (.pm kd z f) x):∃b es clock,I b∧w.heap[b]? = some (.map es clock)∧Rv kd z f es∧x=.map (some b):=by
 cases h with
 | pure h=>cases h with
  | pm b es clock h1 h2 h3=>exact ⟨b,es,clock,h1,h2,h3,rfl⟩
theorem V3 (h:dZ w I O D v x) (hk:VH v=true):x.oneCell'=true:=by
 cases h with
 | pure h=>cases h<;>first | rfl | cases hk
 | ptr=>rfl
 | dF=>rfl
 | mref=>rfl
 | xY _ _ h1=>exact h1
 | xZ _ _ h1=>exact h1
 | uU _ _ h1=>exact h1
 | agg=>cases hk
 | fn=>rfl
 | jM=>cases hk
theorem Tn {l:List AV} (h:Gm l=true):∀j,j<l.length→VH (nth l j)=true:=by
 induction l with
 | nil=>intro j hj; cases hj
 | cons v l ih=>
  intro j hj;unfold Gm at h;cases hv:VH v with
  | false=>simp [hv] at h
  | true=>
   simp only [hv] at h;cases j with
   | zero=>exact hv
   | succ j=>exact ih h j (by simpa using hj)
theorem dZ.cells (h:dZ w I O D v x) (hk:Gm v.cells=true):x.cells.size=v.cells.length∧∀j,j<v.cells.length→dZ w I O D (nth v.cells j) (x.cells.getD j Go.undef)∧(x.cells.getD j Go.undef).oneCell'=true:=by
 have one:∀ {v:AV} {x:Value},dZ w I O D v x→v.cells=[v]→VH v=true→x.cells.size=v.cells.length∧∀j,j<v.cells.length→dZ w I O D (nth v.cells j) (x.cells.getD j Go.undef)∧(x.cells.getD j Go.undef).oneCell'=true:=by
  intro v x h hc ho;have h1:=V3 h ho;have hx:x.cells=#[x]:=by cases x<;>first | rfl | cases h1
  rw [hc,hx];refine ⟨rfl,λ j hj=>?_⟩;have:j=0:=by simpa using hj
  subst this;exact ⟨h,h1⟩
 cases v with
 | agg cs=>
  obtain ⟨vs,rfl,hl,hr⟩:=h.qB;exact ⟨hl,λ j hj=>⟨hr j hj,V3 (hr j hj) (Tn hk j hj)⟩⟩
 | undef=>cases hk
 | jM vs=>cases hk
 | _=>exact one h rfl rfl
end
end Go.Ab
namespace Go.Ab
section
variable {P:Program} {cfg:uT} {cx:Ctx} {H:Nat→Option dP} {D:Nat→Prop} {w:World} {I:Nat→Prop} {O:OM} {Sp:ny}
variable {v':AV} {uJ:jW}
theorem fD.jY {v:AV} {ups:jW} {r:List Nat} (h:fD Sp H (.ret v ups) v' uJ r):v'=v∧uJ=ups:=by cases h; exact ⟨rfl,rfl⟩
theorem fD.uX {p:Prop} [Decidable p] {k:Pg} {v':AV} {uJ:jW} {r:List Nat} (h:fD Sp H (.need p k) v' uJ r):p∧fD Sp H k v' uJ r:=by cases h with | need hp h=>exact ⟨hp,h⟩
theorem fD.lY {o:Nat} {k:dP→Pg} {r:List Nat} (h:fD Sp H (.rd o k) v' uJ r):∃x r',H o=some x∧fD Sp H (k x) v' uJ r':=by cases h with | rd ho h=>exact ⟨_,_,ho,h⟩
theorem fD.aZ {r:List Nat} (h:fD Sp H .fail v' uJ r):False:=by cases h
theorem fD.iy {p:Prop} [Decidable p] {v v':AV} {uJ:jW} {r:List Nat} (h:fD Sp H (kW p v) v' uJ r):p∧v'=v∧uJ=[]:=by
 obtain ⟨hp,h⟩:=fD.uX h; exact ⟨hp,h.jY⟩
theorem fD.eZ {v:AV} {r:List Nat} (h:fD Sp H (jL v) v' uJ r):v'=v∧uJ=[]:=h.jY
theorem fD.bP {b:Bool} {k:Pg} {r:List Nat} (h:fD Sp H (fK b k) v' uJ r):b=true∧fD Sp H k v' uJ r:=by
 cases b with
 | true=>exact ⟨rfl,h⟩
 | false=>exact (fD.aZ h).elim
theorem fD.Az {v:AV} {k:List AV→Pg} {r:List Nat} (h:fD Sp H (JO v k) v' uJ r):Gm v.cells=true∧fD Sp H (k v.cells) v' uJ r:=by
 unfold JO at h;cases hb:Gm v.cells with
 | true=>simp only [hb] at h; exact ⟨rfl,h⟩
 | false=>simp only [hb] at h; exact (fD.aZ h).elim
variable {t:TypeId}
theorem fD.kg {k:Mh→Pg} {r:List Nat} (h:fD Sp H (Ph cfg t k) v' uJ r):∃ti,look cfg.ty t=some ti∧fD Sp H (k ti) v' uJ r:=by
 unfold Ph at h;cases hb:look cfg.ty t with
 | some ti=>simp only [hb] at h; exact ⟨ti,rfl,h⟩
 | none=>simp only [hb] at h; exact (fD.aZ h).elim
theorem fD.nY {k:Mh→Pg} {r:List Nat} (h:fD Sp H (AU cfg t k) v' uJ r):∃tt e ti,look cfg.ty t=some tt∧tt.desc=.slice e∧look cfg.ty e=some ti∧fD Sp H (k ti) v' uJ r:=by
 unfold AU at h;cases hb:look cfg.ty t with
 | some tt=>
  simp only [hb] at h;cases hd:tt.desc with
  | slice e=>
   simp only [hd] at h;obtain ⟨ti,h1,h2⟩:=h.kg;exact ⟨tt,e,ti,rfl,hd,h1,h2⟩
  | _=>simp only [hd] at h; exact (fD.aZ h).elim
 | none=>simp only [hb] at h; exact (fD.aZ h).elim
theorem gL.slice (hc:gL P cfg) {e:TypeId} {tt ti:Mh} (h:look cfg.ty t=some tt) (hd:tt.desc=.slice e) (h':look cfg.ty e=some ti):
  P.underlying t=some (.slice e)∧∃i z,P.info? e=some i∧i.zero=some z∧i.size=ti.size∧i.bytes=ti.bytes∧z.cells.size=ti.size:=by
 obtain ⟨i,d,z,_,hu,_,_,_,_,_,_,_,hm⟩:=(hc.ty t tt h).ex;rw [hd] at hm;obtain ⟨i',d',z',h1,_,h2,h3,h4,_,h5,_⟩:=(hc.ty e ti h').ex;exact ⟨by rw [hu,hm],i',z',h1,h2,h3,h4,h5⟩
theorem fP {i:TypeInfo} (h:P.info? t=some i) (w:World):(sizeOf t).run P w=.ok i.size w:=by
 simp [sizeOf,typeInfo,h]
theorem bN {d:TypeDesc} (h:P.underlying t=some d) (w:World):(underlying t).run P w=.ok d w:=by
 simp [underlying,h]
variable {dN:Nat} {o:Oper} {a:Act} {ρ:Operand→AV} {v:AV} {ups:jW} {r:List Nat}
variable {x:Operand}
theorem akW (hR:Rel cfg cx H D w I O) (ho:o.op=.move x) (hx:dZ w I O D (ρ x) (a.eval x)):fC P cfg cx H D w I O dN o a (ρ x) []:=
 fC.dY hR (by simp [execOp,ho]) hx
theorem agp (hR:Rel cfg cx H D w I O) (ho:o.op=.assign x) (hx:dZ w I O D (ρ x) (a.eval x)):fC P cfg cx H D w I O dN o a (ρ x) []:=
 fC.dY hR (by simp [execOp,ho]) hx
theorem agq (c:Value) (ho:ofConst c≠.undef):∀ {x:Value},x=c→dZ w I O D (ofConst c) x:=by
 intro x hx;subst hx;refine .pure ?_;unfold ofConst;split
 ·exact .bool _
 ·exact .int _ _
 ·exact .str _
 ·exact .sl 0 0 (λ _ _=>Go.undef) (Nat.le_refl _) (λ _=>rfl) (λ h=>absurd rfl h) (λ i h=>by cases h) (λ i j h=>by cases h) (λ i j h=>by cases h) (λ i j h=>by cases h)
 ·exact .Ct
 ·rename_i h1 h2 h3 h4 h5;exact .undef _
theorem adR (c:Value):dZ w I O D (ofConst c) c:=by
 by_cases h:ofConst c=.undef
 ·rw [h]; exact .pure (.undef _)
 ·exact agq c h rfl
theorem akX (hR:Rel cfg cx H D w I O) {c y:Operand} (ho:o.op=.pick c x y) (hc:dZ w I O D (ρ c) (a.eval c))
  (hx:∀b,ρ c=.bool b→b=true→dZ w I O D (ρ x) (a.eval x)) (hy:∀b,ρ c=.bool b→b=false→dZ w I O D (ρ y) (a.eval y))
  (hcx:∀v,x=.const v→ρ x=ofConst v∧a.eval x=v) (hcy:∀v,y=.const v→ρ y=ofConst v∧a.eval y=v)
  (h:fD Sp H (adK (ρ c) x y (ρ x) (ρ y)) v ups r):fC P cfg cx H D w I O dN o a v ups:=by
 cases hcv:ρ c with
 | bool b=>
  rw [hcv] at hc h;have hb:=hc.kL;have hx':=hx b hcv;have hy':=hy b hcv;have run:(execOp a.eval o).run P w=.ok (.value (if b then a.eval x else a.eval y)) w:=by
   simp [execOp,ho,hb,asBool]
  unfold adK at h;simp only at h;split at h
  ·rename_i hz;obtain ⟨rfl,rfl⟩:=h.eZ;obtain ⟨_,e2⟩:=hcy _ rfl;refine fC.dY hR run ?_;cases b with
   | true=>have:=(hx' rfl); rw [hz] at this; rw [this.kL]; exact .pure (.bool _)
   | false=>rw [e2]; exact .pure (.bool _)
  ·rename_i hz _;obtain ⟨rfl,rfl⟩:=h.eZ;obtain ⟨_,e2⟩:=hcx _ rfl;refine fC.dY hR run ?_;cases b with
   | true=>simp only [if_true]; rw [e2]; exact .pure (.bool _)
   | false=>have:=(hy' rfl); rw [hz] at this; simp only [Bool.false_eq_true,if_false]; rw [this.kL]; exact .pure (.bool _)
  ·rename_i h1 h2;obtain ⟨rfl,rfl⟩:=h.eZ;refine fC.dY hR run ?_;cases b with
   | true=>have:=(hx' rfl); rw [h1] at this; rw [this.kL]; exact .pure (.bool _)
   | false=>have:=(hy' rfl); rw [h2] at this; simp only [Bool.false_eq_true,if_false]; rw [this.kL]; exact .pure (.bool _)
  ·obtain ⟨rfl,rfl,rfl⟩:=h.iy;refine fC.dY hR run ?_;simpa using hy' rfl
  ·obtain ⟨rfl,rfl,rfl⟩:=h.iy;refine fC.dY hR run ?_;simpa using hx' rfl
  ·exact (fD.aZ h).elim
 | _=>rw [hcv] at h; exact (fD.aZ h).elim
theorem wrap_i64 {n:Int} (h:aJ n):IntKind.i64.wrap n=n:=IntWalk.i64_in _ ⟨h.1,h.2⟩
theorem run_equal_bool (hu:P.underlying t=some .bool) (a b:Bool) (w:World):(Op.equal t (.bool a) (.bool b)).run P w=.ok (a==b) w:=by
 have:∀d,(Op.equalIn (d+1) t (.bool a) (.bool b)).run P w=.ok (a==b) w:=λ d=>by
  simp [Op.equalIn,bN hu]
 exact this 9999
theorem zU {d:TypeDesc} (hu:P.underlying t=some d) (hd:d.isRow=false) (vs:Array Value) (i:Nat) (hi:i<vs.size) (w:World):(part t vs i).run P w=.ok (vs.getD i Go.undef) w:=by
 have hag:(isAgg t).run P w=.ok false w:=by
  unfold isAgg;rw [Sem.run_bind,bN hu w];cases d<;>simp at hd ⊢
 simp [part,Sem.run_bind,hag,Array.getElem?_eq_getElem hi]
theorem Y2:∀(a b:List AV) {j:Nat},j<a.length→nth (a++b) j=nth a j:=by
 intro a;induction a with
 | nil=>intro b j h; exact absurd h (Nat.not_lt_zero _)
 | cons x a ih=>intro b j h; cases j with
  | zero=>rfl
  | succ j=>exact ih b (by simpa using h)
theorem Y3:∀(a b:List AV) (j:Nat),nth (a++b) (a.length+j)=nth b j:=by
 intro a;induction a with
 | nil=>intro b j; simp
 | cons x a ih=>intro b j; rw [List.length_cons,show a.length+1+j=(a.length+j)+1 by omega]; exact ih b j
theorem Pn (xs:Array Value) (k m j:Nat) (hj:j<m) (h:k+m≤xs.size):(xs.extract k (k+m)).getD j Go.undef=xs.getD (k+j) Go.undef:=by
 rw [Array.getD_eq_getD_getElem?, Array.getD_eq_getD_getElem?, Array.getElem?_extract_of_lt (by rw [Nat.min_eq_left h]; omega),Array.getElem?_eq_getElem om]
theorem akY:∀(zs:List ZK) (cs cs':List AV) (r:Bool),Rn zs cs cs'=some r→cs.length=zs.length∧cs'.length=zs.length:=by
 intro zs;induction zs with
 | nil=>intro cs cs' r h; cases cs<;>cases cs'<;>simp [Rn] at h ⊢
 | cons z zs ih=>
  intro cs cs' r h;cases cs with
  | nil=>cases z<;>simp [Rn] at h
  | cons c cs=>cases cs' with
   | nil=>cases z<;>cases c<;>simp [Rn] at h
   | cons c' cs'=>
    have:∃r',Rn zs cs cs'=some r':=by
     cases z<;>cases c<;>cases c'<;>simp only [Rn] at h<;>first | (cases h; done) | skip
     all_goals
      split at h
      ·first | exact ⟨_,by assumption⟩
      ·cases h
    obtain ⟨r',h'⟩:=this
    have:=ih _ _ _ h'
    simp [this]
theorem akZ:∀(z1 z2:List ZK) (cs cs':List AV) (r:Bool),Rn (z1++z2) cs cs'=some r→∃c1 c2 c1' c2' r1 r2,cs=c1++c2∧cs'=c1'++c2'∧Rn z1 c1 c1'=some r1∧Rn z2 c2 c2'=some r2∧r=(r1&&r2):=by
 intro z1;induction z1 with
 | nil=>intro z2 cs cs' r h; exact ⟨[],cs,[],cs',true,r,rfl,rfl,rfl,h,by simp⟩
 | cons z z1 ih=>
  intro z2 cs cs' r h;cases cs with
  | nil=>cases z<;>simp [Rn] at h
  | cons c cs=>cases cs' with
   | nil=>cases z<;>cases c<;>simp [Rn] at h
   | cons c' cs'=>
    cases z<;>cases c<;>cases c'<;>simp only [List.cons_append,Rn] at h<;>first | (cases h; done) | skip
    ·split at h
     ·rename_i r' h'
      cases h
      obtain ⟨c1,c2,c1',c2',r1,r2,e1,e2,e3,e4,e5⟩:=ih _ _ _ _ h'
      subst e1 e2 e5
      exact ⟨_::c1,c2,_::c1',c2',_,r2,rfl,rfl,by simp only [Rn,e3]; rfl,e4,by rw [Bool.and_assoc]⟩
     ·cases h
    ·split at h
     ·rename_i r' k1 k2 h'
      cases h
      obtain ⟨c1,c2,c1',c2',r1,r2,e1,e2,e3,e4,e5⟩:=ih _ _ _ _ h'
      subst e1 e2 e5
      exact ⟨_::c1,c2,_::c1',c2',_,r2,rfl,rfl,by simp only [Rn,e3,k1,k2]; rfl,e4,by rw [Bool.and_assoc]⟩
     ·cases h
    ·split at h
     ·rename_i r' h'
      cases h
      obtain ⟨c1,c2,c1',c2',r1,r2,e1,e2,e3,e4,e5⟩:=ih _ _ _ _ h'
      subst e1 e2 e5
      exact ⟨_::c1,c2,_::c1',c2',_,r2,rfl,rfl,by simp only [Rn,e3]; rfl,e4,by rw [Bool.and_assoc]⟩
     ·cases h
theorem adS {dd:TypeDesc} {z:ZK} {c c':AV} {b:Bool} {u v:Value} (w:World) (d:Nat) (hu:P.underlying t=some dd) (hk:Z5 z dd) (h:Rn [z] [c] [c']=some b) (hx:dZ w I O D c u) (hy:dZ w I O D c' v):(Op.equalIn (d+1) t u v).run P w=.ok b w:=by
 cases z with
 | int kk=>
  cases c<;>cases c'<;>simp only [Rn] at h<;>first | (cases h; done) | skip
  rename_i k1 a k2 b;split at h
  ·rename_i r' e1 e2 e3;cases e3;cases h;have e1:kk=k1:=by simpa [wN] using e1
   have e2:kk=k2:=by simpa [wN] using e2
   subst e1; subst e2;rw [hx.iD,hy.iD,Bool.and_true];rw [hk] at hu;exact run_equalIn_int w d _ _ _ _ _ hu
  ·cases h
 | bool=>
  cases c<;>cases c'<;>simp only [Rn] at h<;>first | (cases h; done) | skip
  cases h;rw [hx.kL,hy.kL,Bool.and_true];rw [hk] at hu;exact run_equalIn_bool' w d _ _ _ hu
 | str=>
  cases c<;>cases c'<;>simp only [Rn] at h<;>first | (cases h; done) | skip
  cases h;rw [hx.zT,hy.zT,Bool.and_true];rw [hk] at hu;exact run_equalIn_string w d _ _ _ hu
 | slice=>exact hk.elim
 | ptr=>exact hk.elim
 | other=>exact hk.elim
theorem Ie {fs:Array Field} (hu:P.underlying t=some (.struct fs)) (vs:Array Value) (i:Nat) (w:World):(part t vs i).run P w=.ok (.agg (vs.extract i (i+P.cellsOf t))) w:=by
 obtain ⟨ti,hi⟩:=info_of_underlying hu;simp [part,isAgg,run_underlying hu,run_sizeOf w hi]
theorem ah2 (n:Nat) (xs ys:Array Value) (w:World) (d:Nat)
  (IH:∀(t:TypeId) (zs:List ZK) (cs cs':List AV) (us vs:Array Value) (r:Bool),EqT P n t zs→Rn zs cs cs'=some r→us.size=cs.length→vs.size=cs'.length→(∀j,j<cs.length→dZ w I O D (nth cs j) (us.getD j Go.undef))→(∀j,j<cs'.length→dZ w I O D (nth cs' j) (vs.getD j Go.undef))→(Op.equalIn (d+1) t (.agg us) (.agg vs)).run P w=.ok r w):
  ∀(fs:List Field) (zs:List ZK) (cs cs':List AV) (k:Nat) (r:Bool),Rn zs cs cs'=some r→akU P (EqT P n) fs zs k→
  k+cs.length≤xs.size→k+cs'.length≤ys.size→(∀j,j<cs.length→dZ w I O D (nth cs j) (xs.getD (k+j) Go.undef))→(∀j,j<cs'.length→dZ w I O D (nth cs' j) (ys.getD (k+j) Go.undef))→
  (Op.eqFields (d+1) xs ys fs).run P w=.ok r w:=by
 intro fs;induction fs with
 | nil=>
  intro zs cs cs' k r h hz _ _ _ _;cases zs with
  | cons=>exact hz.elim
  | nil=>cases cs<;>cases cs'<;>simp [Rn] at h ⊢ <;> (subst h; simp [Op.eqFields])
 | cons f fs ih=>
  intro zs cs cs' k r h hz hx hy hrx hry;obtain ⟨hnm,hof,z1,z2,rfl,hz1,hz2⟩:=hz;obtain ⟨c1,c2,c1',c2',r1,r2,rfl,rfl,e3,e4,rfl⟩:=akZ _ _ _ _ _ h;obtain ⟨l1,l2⟩:=akY _ _ _ _ e3;simp only [List.length_append] at hx hy hrx hry;have nx1:∀j,j<c1.length→nth (c1++c2) j=nth c1 j:=λ j hj=>Y2 _ _ hj;have nx2:∀j,nth (c1++c2) (c1.length+j)=nth c2 j:=λ j=>Y3 _ _ j;have ny1:∀j,j<c1'.length→nth (c1'++c2') j=nth c1' j:=λ j hj=>Y2 _ _ hj;have ny2:∀j,nth (c1'++c2') (c1'.length+j)=nth c2' j:=λ j=>Y3 _ _ j;have ih':=ih z2 c2 c2' (k+z1.length) r2 e4 hz2 om om (λ j hj=>by
   have:=hrx (c1.length+j) om;rw [nx2,show k+(c1.length+j)=k+z1.length+j by omega] at this;exact this) (λ j hj=>by
   have:=hry (c1'.length+j) om;rw [ny2,show k+(c1'.length+j)=k+z1.length+j by omega] at this;exact this)
  have step:∀(u v:Value),(part f.type xs k).run P w=.ok u w→(part f.type ys k).run P w=.ok v w→(Op.equalIn (d+1) f.type u v).run P w=.ok r1 w→(Op.eqFields (d+1) xs ys (f::fs)).run P w=.ok (r1&&r2) w:=by
   intro u v px py hb;rw [Op.eqFields,if_pos hnm];simp only [hof,Sem.run_bind,px,py,Result.andThen_ok,hb];cases r1
   ·simp
   ·simpa using ih'
  rcases hz1 with ⟨z,dd,rfl,hu,hk⟩ | ⟨ho,hs⟩
  ·have hd:dd.isRow=false:=by cases z<;>simp only [Z5] at hk<;>first | (subst hk; rfl) | exact hk.elim
   cases c1 with
   | nil=>simp at l1
   | cons c c1=>cases c1 with
    | cons=>simp at l1
    | nil=>cases c1' with
     | nil=>simp at l2
     | cons c' c1'=>cases c1' with
      | cons=>simp at l2
      | nil=>
       simp only [List.length_singleton] at hx hy hrx hry
       have hx0:=hrx 0 om
       have hy0:=hry 0 om
       exact step _ _ (zU hu hd xs k om w) (zU hu hd ys k om w) (adS w d hu hk e3 hx0 hy0)
  ·cases n with
   | zero=>exact ho.elim
   | succ n=>
    obtain ⟨fields,hu,_,_⟩:=id ho;refine step _ _ (Ie hu xs k w) (Ie hu ys k w) ?_;rw [hs];refine IH _ z1 c1 c1' _ _ r1 ho e3 (by rw [Array.size_extract]; omega) (by rw [Array.size_extract]; omega) (λ j hj=>?_) (λ j hj=>?_)
    ·have:=hrx j om;rw [nx1 j hj] at this;rw [Pn _ _ _ _ om om];exact this
    ·have:=hry j om;rw [ny1 j hj] at this;rw [Pn _ _ _ _ om om];exact this
theorem ak0 (w:World):∀(n d:Nat) (t:TypeId) (zs:List ZK) (cs cs':List AV) (us vs:Array Value) (r:Bool),EqT P n t zs→Rn zs cs cs'=some r→us.size=cs.length→vs.size=cs'.length→(∀j,j<cs.length→dZ w I O D (nth cs j) (us.getD j Go.undef))→(∀j,j<cs'.length→dZ w I O D (nth cs' j) (vs.getD j Go.undef))→(Op.equalIn (d+n+1) t (.agg us) (.agg vs)).run P w=.ok r w:=by
 intro n;induction n with
 | zero=>intro d t zs cs cs' us vs r h; exact h.elim
 | succ n IH=>
  intro d t zs cs cs' us vs r ⟨fields,hu,hh,hf⟩ h hl hl' hx hy;have hfo:P.fieldsOf t=fields:=by unfold Program.fieldsOf; rw [hu]
  rw [show d+(n+1)+1=(d+n+1)+1 by omega,run_equalIn_struct (P:=P) w (d+n+1) t us vs (by rw [hfo]; exact hu) hh,hfo];exact ah2 (I:=I) (O:=O) (D:=D) n us vs w (d+n) (λ t zs cs cs' us vs r a b c e f g=>IH d t zs cs cs' us vs r a b c e f g) fields.toList zs cs cs' 0 r h hf om om (λ j hj=>by simpa using hx j hj) (λ j hj=>by simpa using hy j hj)
theorem D6 (hc:gL P cfg) {zs:List ZK} (ht:look cfg.eqs t=some zs) {cs cs':List AV} {xs ys:Array Value} {r:Bool} (h:Rn zs cs cs'=some r) (hl:xs.size=cs.length) (hl':ys.size=cs'.length)
  (hx:∀j,j<cs.length→dZ w I O D (nth cs j) (xs.getD j Go.undef)) (hy:∀j,j<cs'.length→dZ w I O D (nth cs' j) (ys.getD j Go.undef)):(Op.equalIn 10000 t (.agg xs) (.agg ys)).run P w=.ok r w:=
 ak0 w 4 9995 t zs cs cs' xs ys r (hc.eqs t zs ht).ex h hl hl' hx hy
theorem ah3 (hc:gL P cfg) (hR:Rel cfg cx H D w I O) {op:BinOp} {t':TypeId} {y:Operand} (ho:o.op=.binOp op t x y t') (hx:dZ w I O D (ρ x) (a.eval x)) (hy:dZ w I O D (ρ y) (a.eval y))
  (h:fD Sp H (ahH cfg op t (ρ x) (ρ y)) v ups r):fC P cfg cx H D w I O dN o a v ups:=by
 unfold ahH at h;split at h
 ·rename_i k n k' n' e1 e2;rw [e1] at hx; rw [e2] at hy;have hx':=hx.iD;have hy':=hy.iD;cases hsl:ahG op with
  | true=>
   simp only [hsl] at h;cases op<;>simp [ahG] at hsl;obtain ⟨hp,rfl,rfl⟩:=h.iy;have hg:∀(u:World),(eqGuard .shl t x y (.int k n) (.int k' n')).run P u=.ok () u:=by
    intro u; unfold eqGuard; simp
   refine fC.dY (x:=.int k _) hR ?_ (.pure (.int _ _));have hp':=Int.not_lt.2 hp;simp only [execOp,ho,hx',hy',hg,binOp,Op.shift,if_neg hp',aph,Sem.run_bind,Result.andThen_ok,Sem.run_pure]
  | false=>
  simp only [hsl] at h;obtain ⟨hk1,h1⟩:=h.bP;clear h;have hk:k=k':=by simpa [wN] using hk1
  subst hk;have hg:∀(u:World),(eqGuard op t x y (.int k n) (.int k n')).run P u=.ok () u:=by
   intro u; unfold eqGuard; cases op<;>simp
  cases ha:Pf op with
  | true=>
   simp only [ha] at h1;cases hk2:wN k .i64 with
   | true=>
    simp only [hk2] at h1;have h2:=h1;clear h1;have hk:k=.i64:=by simpa [wN] using hk2
    subst hk;cases op<;>simp [Pf] at ha<;>simp only [arith] at h2<;>obtain ⟨hp,rfl,rfl⟩:=h2.iy<;>
     refine fC.dY (x:=.int .i64 _) hR ?_ (.pure (.int _ _))<;>simp [execOp,ho,hx',hy',hg,binOp,Op.intArith,Op.intDiv,wrap_i64,hp]
   | false=>
    simp only [hk2] at h1;cases op<;>simp [Pf] at ha<;>simp only [ahF] at h1<;>first
     | exact (fD.aZ h1).elim
     | (obtain ⟨rfl,rfl⟩:=h1.eZ
        refine fC.dY (x:=.int k _) hR ?_ (.pure (.int _ _))
        simp [execOp,ho,hx',hy',hg,binOp,Op.intArith])
  | false=>
   simp only [ha] at h1;cases op<;>simp [Pf] at ha<;>simp only [ape] at h1<;>first
    | exact (fD.aZ h1).elim
    | (obtain ⟨rfl,rfl⟩:=h1.eZ
       refine fC.dY (x:=.bool _) hR ?_ (.pure (.bool _))
       simp [execOp,ho,hx',hy',hg,binOp,Op.intCmp]
       done)
    | (obtain ⟨hp,rfl,rfl⟩:=h1.iy
       refine fC.dY (x:=.int k _) hR ?_ (.pure (.int _ _))
       have hp':=Int.not_lt.2 hp
       simp only [execOp,ho,hx',hy',hg,binOp,Op.shift,if_neg hp',apg,Sem.run_bind,Result.andThen_ok,Sem.run_pure]
       done)
    | (obtain ⟨rfl,rfl⟩:=h1.eZ
       refine fC.dY (x:=.int k _) hR ?_ (.pure (.int _ _))
       simp [execOp,ho,hx',hy',hg,binOp,Op.intBits,apf]
       done)
    | (obtain ⟨rfl,rfl⟩:=h1.eZ
       refine fC.dY (x:=.int k _) hR ?_ (.pure (.int _ _))
       simp [execOp,ho,hx',hy',hg,binOp,Op.intBits,orI])
 ·rename_i b b' e1 e2;rw [e1] at hx; rw [e2] at hy;have hx':=hx.kL;have hy':=hy.kL;obtain ⟨ti,ht,h1⟩:=h.kg;clear h;have hg:∀(u:World),(eqGuard op t x y (.bool b) (.bool b')).run P u=.ok () u:=by
   intro u; unfold eqGuard; cases op<;>simp
  have hd:ti.desc=.bool→P.underlying t=some .bool:=by
   intro hd;obtain ⟨i,d,z,_,hu,_,_,_,_,_,_,_,hm⟩:=(hc.ty t ti ht).ex;rw [hd] at hm;rw [hu,hm]
  split at h1
  ·rename_i hdd;obtain ⟨rfl,rfl⟩:=h1.eZ;refine fC.dY (x:=.bool _) hR ?_ (.pure (.bool _));have e:=run_equal_bool (P:=P) (hd hdd) b b' w;simp [execOp,ho,hx',hy',hg,binOp,e]
  ·rename_i hdd;obtain ⟨rfl,rfl⟩:=h1.eZ;refine fC.dY (x:=.bool _) hR ?_ (.pure (.bool _));have e:=run_equal_bool (P:=P) (hd hdd) b b' w;simp [execOp,ho,hx',hy',hg,binOp,e]
  ·exact (fD.aZ h1).elim
 ·rename_i s s' e1 e2;rw [e1] at hx; rw [e2] at hy;have hx':=hx.zT;have hy':=hy.zT;have hg:∀(u:World),(eqGuard op t x y (.string s) (.string s')).run P u=.ok () u:=by
   intro u; unfold eqGuard; cases op<;>simp
  unfold amq at h;cases op<;>simp only at h<;>first
   | exact (fD.aZ h).elim
   | (obtain ⟨rfl,rfl⟩:=h.eZ
      refine fC.dY (x:=.bool _) hR ?_ (.pure (.bool _))
      simp [execOp,ho,hx',hy',hg,binOp,Op.stringOp]
      done)
   | (obtain ⟨hp,rfl,rfl⟩:=h.iy
      refine fC.dY (x:=.string _) hR ?_ (.pure (.str _))
      have hle:¬ (((s.size+s'.size:Nat):Int) > IntKind.i64.max):=by
       have:IntKind.i64.max=9223372036854775807:=by decide
       rw [this]
       omega
      simp only [execOp,ho,hx',hy',binOp,Op.stringOp,Sem.run_bind,hg,Result.andThen_ok]
      rw [if_neg hle]
      rfl)
 ·rename_i cs cs' e1 e2;rw [e1] at hx; rw [e2] at hy;obtain ⟨xs,hx',hl,hrx⟩:=hx.qB;obtain ⟨ys,hy',hl',hry⟩:=hy.qB;split at h
  ·rename_i zs hz;have hg:∀(u:World),(eqGuard op t x y (.agg xs) (.agg ys)).run P u=.ok () u:=λ u=>run_eqGuard_agg u op t x y xs ys (hc.eqs t zs hz).guard;split at h
   ·rename_i r' he;obtain ⟨rfl,rfl⟩:=h.eZ;have e:=D6 hc hz he hl hl' hrx hry;refine fC.dY (x:=.bool _) hR ?_ (.pure (.bool _));simp only [execOp,ho,hx',hy',Sem.run_bind,hg,Result.andThen_ok,run_eql_struct,e];rfl
   ·rename_i r' he;obtain ⟨rfl,rfl⟩:=h.eZ;have e:=D6 hc hz he hl hl' hrx hry;refine fC.dY (x:=.bool _) hR ?_ (.pure (.bool _));simp only [execOp,ho,hx',hy',Sem.run_bind,hg,Result.andThen_ok,run_neq_struct,e];rfl
   ·exact (fD.aZ h).elim
  ·exact (fD.aZ h).elim
 ·exact (fD.aZ h).elim
theorem ak1 (hR:Rel cfg cx H D w I O) {op:UnOp} (ho:o.op=.unOp op t x) (hx:dZ w I O D (ρ x) (a.eval x))
  (h:fD Sp H (gD cfg dN (.unOp op t x) ρ) v ups r):fC P cfg cx H D w I O dN o a v ups:=by
 simp only [gD] at h;split at h
 ·rename_i b e;rw [e] at hx;obtain ⟨rfl,rfl⟩:=h.eZ;refine fC.dY (x:=.bool _) hR ?_ (.pure (.bool _));simp [execOp,ho,hx.kL,Op.unary]
 ·rename_i k n e;rw [e] at hx;obtain ⟨hk1,h1⟩:=h.bP;have hk:k=.i64:=by simpa [wN] using hk1
  subst hk;obtain ⟨hp,rfl,rfl⟩:=h1.iy;refine fC.dY (x:=.int .i64 _) hR ?_ (.pure (.int _ _));simp [execOp,ho,hx.iD,Op.unary,Op.intArith,wrap_i64 hp]
 ·exact (fD.aZ h).elim
theorem abL (hR:Rel cfg cx H D w I O) (ho:o.op=.nilCheck x) (hx:dZ w I O D (ρ x) (a.eval x))
  (h:fD Sp H (gD cfg dN (.nilCheck x) ρ) v ups r):fC P cfg cx H D w I O dN o a v ups:=by
 simp only [gD] at h;split at h
 ·rename_i ob i off e;rw [e] at hx;obtain ⟨obj,_,nk,h1⟩:=h.lY;obtain ⟨rfl,rfl⟩:=h1.eZ;cases hp:O ob with
  | none=>rw [(hR.dom ob).1 hp] at nk; cases nk
  | some p=>
   obtain ⟨b,bo,sz,h1,h2,h3⟩:=hx.nM hp;exact fC.dY hR (by simp [execOp,ho,h3]) (h3 ▸ hx)
 ·rename_i cs e;rw [e] at hx;obtain ⟨rfl,rfl⟩:=h.eZ;generalize hxe:a.eval x=xv at hx;have hx0:=hx;cases hx.VZ;exact fC.dY hR (by simp [execOp,ho,hxe]) hx0
 ·rename_i f cs e;rw [e] at hx;obtain ⟨rfl,rfl⟩:=h.eZ;obtain ⟨vs,h1,h2,h3⟩:=hx.JX;exact fC.dY hR (by simp [execOp,ho,h1]) (h1 ▸ hx)
 ·exact (fD.aZ h).elim
theorem adT (hR:Rel cfg cx H D w I O) {t:Operand} {i:Nat} (ho:o.op=.extract t i) (hx:dZ w I O D (ρ t) (a.eval t))
  (h:fD Sp H (gD cfg dN (.extract t i) ρ) v ups r):fC P cfg cx H D w I O dN o a v ups:=by
 simp only [gD] at h;split at h
 ·rename_i vs e;rw [e] at hx;obtain ⟨hl,h1⟩:=h.bP;obtain ⟨rfl,rfl⟩:=h1.eZ;obtain ⟨xs,h1,h2,h3⟩:=hx.Gt;have hl:i<vs.length:=by simpa using hl
  have hi:i<xs.size:=by omega
  refine fC.dY (x:=xs.getD i Go.undef) hR ?_ (h3 i hl);simp [execOp,ho,h1,Instr.extract,Array.getElem?_eq_getElem hi]
 ·exact (fD.aZ h).elim
theorem afl {l:List Operand} (h:∀x∈l,dZ w I O D (ρ x) (a.eval x)):∀j,j<(l.map ρ).length→dZ w I O D (nth (l.map ρ) j) ((l.map a.eval).toArray.getD j Go.undef):=by
 intro j hj;have hj':j<l.length:=by simpa using hj
 rw [tu];simp [hj'];exact h _ (List.getElem_mem hj')
theorem abM (hR:Rel cfg cx H D w I O) {fn:Fn} {first cap:Array Operand} (ho:o.op=.makeFunc fn first cap) (hx:∀x∈cap.toList,dZ w I O D (ρ x) (a.eval x))
  (h:fD Sp H (gD cfg dN (.makeFunc fn first cap) ρ) v ups r):fC P cfg cx H D w I O dN o a v ups:=by
 simp only [gD] at h;split at h
 ·rename_i f e;obtain ⟨rfl,rfl⟩:=h.eZ;have hf:first=#[]:=by simpa using e
  subst hf;refine fC.dY (x:=.func (.func f) #[] (cap.map a.eval)) hR (by simp [execOp,ho,Instr.makeFunc]) (.fn (by simp) λ j hj=>?_);have:=afl hx j hj;simpa using this
 ·exact (fD.aZ h).elim
variable {c:Call}
theorem ang (hc:gL P cfg) (hR:Rel cfg cx H D w I O) (ho:o.op=.call c) (hcl:c.callee=.builtin .cap) (hx:∀x∈c.args.toList,dZ w I O D (ρ x) (a.eval x))
  (h:fD Sp H (gD cfg dN (.call c) ρ) v ups r):fC P cfg cx H D w I O dN o a v ups:=by
 simp only [gD,hcl] at h;split at h
 ·rename_i es n g t e1 e2;obtain ⟨ti,ht,h1⟩:=h.kg;obtain ⟨x,hxe⟩:∃x,c.args=#[x]:=by
   match hl:c.args.toList with
   | []=>simp [hl] at e1
   | [x]=>exact ⟨x,by rw [← Array.toList_inj]; simpa using hl⟩
   | x::y::l=>simp [hl] at e1
  have e1':ρ x=.sl es n true g:=by simpa [hxe] using e1
  have hx':dZ w I O D (.sl es n true g) (a.eval x):=e1' ▸ hx x (by simp [hxe]);have hte:c.argTypes=#[t]:=by rw [← Array.toList_inj]; simpa using e2
  obtain ⟨_,dd,_,_,hud,_,_,_,_,_,_,_,hm⟩:=(hc.ty t ti ht).ex;split at h1
  ·rename_i e;rw [e] at hm;have hm:dd=.slice _:=hm;subst hm;obtain ⟨rfl,rfl⟩:=h1.eZ;generalize hxv:a.eval x=xv at hx';have hq:=hx'.yV;cases hq with
   | @sl _ _ _ _ aa cap b off vs hcap hfull ha hes hm h1 hr=>
   have hcn:cap=n:=hfull rfl;subst hcn;refine fC.dY (x:=.int .i64 _) hR ?_ (.pure (.int _ _));simp [execOp,ho,hcl,resolve,invoke,builtin,Builtin.cap_,hxe,hte,hxv,bN hud,goInt]
  ·exact (fD.aZ h1).elim
 ·exact (fD.aZ h).elim
theorem anh (hc:gL P cfg) (hR:Rel cfg cx H D w I O) (ho:o.op=.call c) (hcl:c.callee=.builtin .len) (hx:∀x∈c.args.toList,dZ w I O D (ρ x) (a.eval x))
  (h:fD Sp H (gD cfg dN (.call c) ρ) v ups r):fC P cfg cx H D w I O dN o a v ups:=by
 simp only [gD,hcl] at h;split at h
 ·rename_i u t e1 e2;obtain ⟨ti,ht,h1⟩:=h.kg;obtain ⟨x,hxe⟩:∃x,c.args=#[x]:=by
   match hl:c.args.toList with
   | []=>simp [hl] at e1
   | [x]=>exact ⟨x,by rw [← Array.toList_inj]; simpa using hl⟩
   | x::y::l=>simp [hl] at e1
  have e1':ρ x=u:=by simpa [hxe] using e1
  have hx':dZ w I O D u (a.eval x):=e1' ▸ hx x (by simp [hxe]);have hte:c.argTypes=#[t]:=by rw [← Array.toList_inj]; simpa using e2
  obtain ⟨_,dd,_,_,hud,_,_,_,_,_,_,_,hm⟩:=(hc.ty t ti ht).ex;split at h1
  ·rename_i e;rw [e] at hm;have hm:dd=.slice _:=hm;subst hm;obtain ⟨rfl,rfl⟩:=h1.eZ;generalize hxv:a.eval x=xv at hx';cases hx'.yV;refine fC.dY (x:=.int .i64 _) hR ?_ (.pure (.int _ _));simp [execOp,ho,hcl,resolve,invoke,builtin,Builtin.len_,hxe,hte,hxv,bN hud,goInt]
  ·rename_i ob i n f _ e;rw [e] at hm;have hm:dd=.slice _:=hm;subst hm;obtain ⟨obj,_,nk,h2⟩:=h1.lY;obtain ⟨rfl,rfl⟩:=h2.eZ;cases hp:O ob with
   | none=>rw [(hR.dom ob).1 hp] at nk; cases nk
   | some p=>
    obtain ⟨aa,cap,hxv,_⟩:=hx'.lD hp;refine fC.dY (x:=.int .i64 _) hR ?_ (.pure (.int _ _));simp [execOp,ho,hcl,resolve,invoke,builtin,Builtin.len_,hxe,hte,hxv,bN hud,goInt]
  ·rename_i s e;rw [e] at hm;have hm:dd=.string:=hm;subst hm;obtain ⟨rfl,rfl⟩:=h1.eZ;refine fC.dY (x:=.int .i64 _) hR ?_ (.pure (.int _ _));simp [execOp,ho,hcl,resolve,invoke,builtin,Builtin.len_,hxe,hte,hx'.zT,bN hud,goInt]
  ·exact (fD.aZ h1).elim
 ·exact (fD.aZ h).elim
theorem args2 {u u':AV} (e:c.args.toList.map ρ=[u,u']):∃x y,c.args=#[x,y]∧ρ x=u∧ρ y=u':=by
 match hl:c.args.toList with
 | []=>simp [hl] at e
 | [x]=>simp [hl] at e
 | [x,y]=>
  rw [hl] at e
  simp at e
  exact ⟨x,y,by rw [← Array.toList_inj]; simpa using hl,e.1,e.2⟩
 | x::y::z::l=>simp [hl] at e
theorem ani (hR:Rel cfg cx H D w I O) (ho:o.op=.call c) (hcl:c.callee=.builtin .min) (hx:∀x∈c.args.toList,dZ w I O D (ρ x) (a.eval x))
  (h:fD Sp H (gD cfg dN (.call c) ρ) v ups r):fC P cfg cx H D w I O dN o a v ups:=by
 simp only [gD,hcl] at h;split at h
 ·rename_i k n k' n' e;obtain ⟨rfl,rfl⟩:=h.eZ;obtain ⟨x,y,hxy,e1,e2⟩:=args2 e;have h1:=e1 ▸ hx x (by simp [hxy]);have h2:=e2 ▸ hx y (by simp [hxy]);refine fC.dY (x:=.int k _) hR ?_ (.pure (.int _ _));simp [execOp,ho,hcl,resolve,invoke,builtin,Builtin.min_,Builtin.min2,hxy,h1.iD,h2.iD]
 ·exact (fD.aZ h).elim
theorem anj (hR:Rel cfg cx H D w I O) (ho:o.op=.call c) (hcl:c.callee=.builtin .max) (hx:∀x∈c.args.toList,dZ w I O D (ρ x) (a.eval x))
  (h:fD Sp H (gD cfg dN (.call c) ρ) v ups r):fC P cfg cx H D w I O dN o a v ups:=by
 simp only [gD,hcl] at h;split at h
 ·rename_i k n k' n' e;obtain ⟨rfl,rfl⟩:=h.eZ;obtain ⟨x,y,hxy,e1,e2⟩:=args2 e;have h1:=e1 ▸ hx x (by simp [hxy]);have h2:=e2 ▸ hx y (by simp [hxy]);refine fC.dY (x:=.int k _) hR ?_ (.pure (.int _ _));simp [execOp,ho,hcl,resolve,invoke,builtin,Builtin.max_,Builtin.max2,hxy,h1.iD,h2.iD]
 ·exact (fD.aZ h).elim
theorem gL.field (hc:gL P cfg) {s:TypeId} {ts:Mh} {f oo t:Nat} (h:look cfg.ty s=some ts) (hf:Mi ts f=some (oo,t)):
  ∃fields fd,P.underlying s=some (.struct fields)∧fields[f]? = some fd∧fd.offset=oo∧fd.type=t:=by
 obtain ⟨_,dd,_,_,hud,_,_,_,_,_,_,_,hm⟩:=(hc.ty s ts h).ex;unfold Mi at hf;split at hf
 ·rename_i fs e;rw [e] at hm;obtain ⟨fields,rfl,hfs⟩:=hm;subst hfs;have key:∀(l:List Field) (f:Nat),Ul (l.map λ f=>(f.offset,f.type)) f=some (oo,t)→∃fd,l[f]? = some fd∧fd.offset=oo∧fd.type=t:=by
   intro l;induction l with
   | nil=>intro f h; simp [Ul] at h
   | cons x l ih=>
    intro f h;cases f with
    | zero=>simp [Ul] at h; exact ⟨x,rfl,h.1,h.2⟩
    | succ f=>simp only [List.map_cons,Ul] at h; simpa using ih f h
  obtain ⟨fd,h1,h2,h3⟩:=key _ _ hf;exact ⟨fields,fd,hud,by simpa using h1,h2,h3⟩
 ·cases hf
theorem JY (l:List AV) (k j:Nat):nth (l.drop k) j=nth l (k+j):=by
 simp [tu]
theorem Z6 (hc:gL P cfg) (hR:Rel cfg cx H D w I O) {s:TypeId} {f:Nat} (ho:o.op=.fieldAddr s x f) (hx:dZ w I O D (ρ x) (a.eval x))
  (h:fD Sp H (gD cfg dN (.fieldAddr s x f) ρ) v ups r):fC P cfg cx H D w I O dN o a v ups:=by
 simp only [gD] at h;obtain ⟨ts,hs,h1⟩:=h.kg;split at h1
 ·rename_i oo t hf;obtain ⟨ti,ht,h2⟩:=h1.kg;obtain ⟨hpos,h3⟩:=h2.bP;have hpos:0<ti.size:=by simpa using hpos
  obtain ⟨fields,fd,hu,hfd,ho1,ho2⟩:=hc.field hs hf;obtain ⟨i,_,_,hi,_,_,hsz,_⟩:=(hc.ty t ti ht).ex;have hne:¬ i.size=0:=by omega
  have place:∀b bo,(Instr.fieldAt s (.pointer (some ⟨b,bo,none⟩)) f).run P w=.ok (.pointer (some ⟨b,bo+oo,none⟩)) w:=by
   intro b bo;simp [Instr.fieldAt,Instr.sureAddr,bN hu,hfd,fieldPlace,ho1,ho2,fP hi,hne,Addr.add_mid]
  split at h3
  ·rename_i ob i off e;rw [e] at hx;obtain ⟨obj,_,nk,h4⟩:=h3.lY;obtain ⟨rfl,rfl⟩:=h4.eZ;cases hp:O ob with
   | none=>rw [(hR.dom ob).1 hp] at nk; cases nk
   | some p=>
    obtain ⟨b,bo,sz,h5,h6,h7⟩:=hx.nM hp;refine fC.dY (x:=.pointer (some ⟨b,bo+(i*p.es+(off+oo)),none⟩)) hR ?_ (.ptr hp h5 h6);have:bo+(i*p.es+off)+oo=bo+(i*p.es+(off+oo)):=by omega
    simp [execOp,ho,h7,place,this]
  ·rename_i cs e;rw [e] at hx;obtain ⟨rfl,rfl⟩:=h3.eZ;generalize hxv:a.eval x=xv at hx;cases hx.VZ with
   | ro b off vs hI hm hr=>
    refine fC.dY (x:=.pointer (some ⟨b,off+oo,none⟩)) hR (by simp [execOp,ho,hxv,place]) (.pure (.ro b (off+oo) (λ j=>vs (oo+j)) hI (λ j hj=>?_) λ j hj=>?_))
    ·have:=hm (oo+j) (by simp at hj; omega);rw [← this,Nat.add_assoc]
    ·rw [JY]; exact hr (oo+j) (by simp at hj; omega)
  ·exact (fD.aZ h3).elim
 ·exact (fD.aZ h1).elim
end
end Go.Ab
namespace Go.Ab
section
variable {P:Program} {cfg:uT} {cx:Ctx} {H:Nat→Option dP} {D:Nat→Prop} {w:World} {I:Nat→Prop} {O:OM} {Sp:ny}
variable {dN:Nat} {o:Oper} {a:Act} {ρ:Operand→AV} {v:AV} {ups:jW} {r:List Nat}
variable {t:TypeId}
theorem gL.agg (hc:gL P cfg) {ti:Mh} (h:look cfg.ty t=some ti):∃i d,P.info? t=some i∧P.underlying t=some d∧d.isRow=ti.agg∧i.size=ti.size:=by
 obtain ⟨i,d,z,h1,h2,h3,h4,h5,h6,_⟩:=(hc.ty t ti h).ex;exact ⟨i,d,h1,h2,h6,h4⟩
theorem Ry {d:TypeDesc} (h:P.underlying t=some d) (w:World):(isAgg t).run P w=.ok d.isRow w:=by
 unfold isAgg;rw [Sem.run_bind,bN h w];cases d<;>simp
theorem pR (hc:gL P cfg) {ti:Mh} (ht:look cfg.ty t=some ti) {cs:List AV} (h:fD Sp H (yU ti cs) v ups r) (b bo:Nat) (f:Nat→Value)
  (hm:∀j,j<cs.length→w.cell? ⟨b,bo+j,none⟩=some (f j)) (hr:∀j,j<cs.length→dZ w I O D (nth cs j) (f j)):
  ups=[]∧∃x,(Instr.loadAt t (.pointer (some ⟨b,bo,none⟩))).run P w=.ok x w∧dZ w I O D v x:=by
 obtain ⟨i,d,hi,hu,hd,hs⟩:=hc.agg ht;unfold yU at h;cases ha:ti.agg with
 | true=>
  simp only [ha] at h;obtain ⟨hl,h1⟩:=h.bP;obtain ⟨rfl,rfl⟩:=h1.eZ;have hl:ti.size≤cs.length:=by simpa using hl
  refine ⟨rfl,.agg ((List.range ti.size).map f).toArray,?_,.agg (by simp [Nat.min_eq_left hl]) λ j hj=>?_⟩
  ·refine run_loadAt_mid w b bo t _ d (λ j u hj=>?_) hu (by rw [hd,ha]) (by simp [hi,hs]);have hlt:j<ti.size:=by
    rcases Nat.lt_or_ge j ti.size with h | h
    ·exact h
    ·simp [h] at hj
   simp [hlt] at hj;rw [← hj];exact hm j om
  ·have hj':j<ti.size:=by simp at hj; omega
   have e:nth (List.take ti.size cs) j=nth cs j:=by simp [tu,hj']
   rw [e];simpa [hj'] using hr j om
 | false=>
  simp only [ha] at h;cases cs with
  | nil=>exact (fD.aZ h).elim
  | cons c cs=>
   obtain ⟨rfl,rfl⟩:=h.eZ;refine ⟨rfl,f 0,?_,hr 0 (by simp)⟩;have h0:=hm 0 (by simp);have hag:(isAgg t).run P w=.ok false w:=by rw [Ry hu,hd,ha]
   simp only [Nat.add_zero] at h0;simp [Instr.loadAt,Instr.sureAddr,loadVar,Sem.run_bind,hag,load,Sem.run,h0]
theorem Rel.live (hR:Rel cfg cx H D w I O) {ob:Nat} {x:dP} (h:H ob=some x):∃p,O ob=some p∧iK w I O D p x:=by
 cases hp:O ob with
 | none=>rw [(hR.dom ob).1 hp] at h; cases h
 | some p=>exact ⟨p,rfl,hR.objs ob x p h hp⟩
theorem uh {b sz j:Nat} (h:Ic w b sz) (hj:j<sz):w.cell? ⟨b,j,none⟩=some (cellAt w b j):=by
 obtain ⟨u,hu⟩:=Option.isSome_iff_exists.1 (h j hj).1;simp [cellAt,hu]
theorem Vu {i j:Nat} (h:(ZT i&&ZT j)=true):i=0∧j=0:=by
 cases i<;>cases j<;>simp_all [ZT]
theorem afn (l m:List AV) (j:Nat):nth (l++m) j=if j<l.length then nth l j else nth m (j - l.length):=by
 rw [tu,tu,tu];by_cases h:j<l.length
 ·rw [if_pos h]; simp [List.getElem?_append_left h]
 ·rw [if_neg h]; simp [List.getElem?_append_right (by omega:l.length≤j)]
variable {es:Nat}
theorem Yf {g:Nat→AV}:∀(k i:Nat),(∀j,i≤j→j<i+k→(g j).cells.length=es)→(j6 k i g).length=k*es∧∀a b,a<k→b<es→nth (j6 k i g) (a*es+b)=nth (g (i+a)).cells b:=by
 intro k;induction k with
 | zero=>intro i _; exact ⟨by simp [j6],λ a b h=>absurd h (Nat.not_lt_zero _)⟩
 | succ k ih=>
  intro i h;obtain ⟨h1,h2⟩:=ih (i+1) (λ j hj hj'=>h j om om);have h0:=h i (Nat.le_refl _) om;refine ⟨by simp only [j6,List.length_append,h0,h1]; rw [Nat.succ_mul]; omega,λ a b ha hb=>?_⟩;simp only [j6];rw [afn,h0];cases a with
  | zero=>simp only [Nat.zero_mul,Nat.zero_add,Nat.add_zero]; rw [if_pos hb]
  | succ a=>
   rw [if_neg (by rw [Nat.succ_mul]; omega)];have e1:(a+1)*es+b - es=a*es+b:=by rw [Nat.succ_mul]; omega
   rw [e1,h2 a b om hb];congr 2;congr 1;omega
variable {n:Nat}
theorem ank {q:Nat} (h:q<n*es):q / es<n∧q % es<es∧q / es*es+q % es=q:=by
 have hes:0<es:=by
  rcases Nat.eq_zero_or_pos es with h0 | h0
  ·subst h0; simp at h
  ·exact h0
 refine ⟨Nat.div_lt_of_lt_mul (by rw [Nat.mul_comm]; exact h),Nat.mod_lt _ hes,?_⟩;rw [Nat.mul_comm];exact Nat.div_add_mod q es
theorem Po {w:World} {I:Nat→Prop} {b bo:Nat} {g:Nat→AV} (hlen:∀i,i<n→(g i).cells.length=es) (hcs:∀i j,i<n→j<es→ig w I (nth (g i).cells j) (cellAt w b (bo+(i*es+j)))∧(cellAt w b (bo+(i*es+j))).oneCell'=true):
  (j6 n 0 g).length=n*es∧∀q,q<(j6 n 0 g).length→ig w I (nth (j6 n 0 g) q) (cellAt w b (bo+q)):=by
 obtain ⟨h1,h2⟩:=Yf n 0 (λ j _ hj=>hlen j om);refine ⟨h1,λ q hq=>?_⟩;rw [h1] at hq;obtain ⟨h3,h4,h5⟩:=ank hq;have h6:=h2 (q / es) (q % es) h3 h4;have h7:=(hcs (q / es) (q % es) h3 h4).1;rw [h5] at h6 h7;rw [h6,Nat.zero_add];exact h7
variable {x:Operand}
theorem ak2 (hc:gL P cfg) (hR:Rel cfg cx H D w I O) (ho:o.op=.load t x) (hx:dZ w I O D (ρ x) (a.eval x))
  (h:fD Sp H (gD cfg dN (.load t x) ρ) v ups r):fC P cfg cx H D w I O dN o a v ups:=by
 simp only [gD] at h;obtain ⟨ti,ht,h1⟩:=h.kg;split at h1
 ·rename_i ob i off e;rw [e] at hx;obtain ⟨obj,_,nk,h2⟩:=h1.lY;obtain ⟨p,hp,hO⟩:=hR.live nk;obtain ⟨b,bo,sz,hpl,hi,hxv⟩:=hx.nM hp;cases obj with
  | map=>exact (fD.aZ h2).elim
  | box cs=>
   obtain ⟨hn,b',ni,sz',hpl',hal,hle,hcs⟩:=hO;rw [hpl] at hpl';cases hpl';have hi0:i=0:=by omega
   subst hi0;obtain ⟨rfl,x',hrun,hrep⟩:=pR (w:=w) (I:=I) (O:=O) (D:=D) hc ht h2 b (bo+off) (λ j=>cellAt w b (bo+(off+j)))
    (λ j hj=>by rw [Nat.add_assoc]; exact uh hal (by simp at hj; omega)) (λ j hj=>by rw [JY]; exact hcs (off+j) (by simp at hj; omega))
   refine fC.dY hR ?_ hrep;simp only [Nat.zero_mul,Nat.zero_add] at hxv;simp [execOp,ho,hxv,hrun]
  | row es n g=>
   obtain ⟨hn,hes,hlen,hpl' | ⟨b',ni,sz',hpl',hal,hle,hcs⟩⟩:=hO
   ·rw [hpl] at hpl'; cases hpl'.2
   rw [hpl] at hpl';cases hpl';simp only at h2;split at h2
   ·obtain ⟨hz,h3⟩:=h2.bP;obtain ⟨rfl,rfl⟩:=Vu hz;obtain ⟨hrl,hrr⟩:=Po hlen hcs;obtain ⟨rfl,x',hrun,hrep⟩:=pR (w:=w) (I:=I) (O:=O) (D:=D) hc ht h3 b bo (λ j=>cellAt w b (bo+j)) (λ j hj=>uh hal.al om) (λ j hj=>.pure (hrr j hj));refine fC.dY hR ?_ hrep;simp only [Nat.zero_mul,Nat.zero_add,Nat.add_zero] at hxv;simp [execOp,ho,hxv,hrun]
   obtain ⟨hk,h3⟩:=h2.bP;have hin:i<n:=by omega
   have hmul:(i+1)*es≤n*es:=Nat.mul_le_mul_right _ hin;have au4:(i+1)*es=i*es+es:=Nat.succ_mul _ _;have hli:=hlen i hin;obtain ⟨rfl,x',hrun,hrep⟩:=pR (w:=w) (I:=I) (O:=O) (D:=D) hc ht h3 b (bo+(i*es+off)) (λ j=>cellAt w b (bo+(i*es+(off+j))))
    (λ j hj=>by
      have:bo+(i*es+off)+j=bo+(i*es+(off+j)):=by omega
      rw [this]
      exact uh hal.al (by simp at hj; omega)) (λ j hj=>by rw [JY]; exact .pure (hcs i (off+j) hin (by simp at hj; omega)).1)
   refine fC.dY hR ?_ hrep;rw [hes] at hxv;simp [execOp,ho,hxv,hrun]
 ·rename_i cs e;rw [e] at hx;generalize hxv:a.eval x=xv at hx;cases hx.VZ with
  | ro b off vs hI hm hr=>
   obtain ⟨rfl,x',hrun,hrep⟩:=pR (w:=w) (I:=I) (O:=O) (D:=D) hc ht h1 b off vs hm (λ j hj=>.pure (hr j hj));exact fC.dY hR (by simp [execOp,ho,hxv,hrun]) hrep
 ·exact (fD.aZ h1).elim
theorem ah4 (hc:gL P cfg) (hR:Rel cfg cx H D w I O) {s:TypeId} {f:Nat} (ho:o.op=.field s x f) (hx:dZ w I O D (ρ x) (a.eval x))
  (h:fD Sp H (gD cfg dN (.field s x f) ρ) v ups r):fC P cfg cx H D w I O dN o a v ups:=by
 simp only [gD] at h;obtain ⟨ts,hs,h1⟩:=h.kg;split at h1
 ·rename_i oo t hf;obtain ⟨ti,ht,h2⟩:=h1.kg;obtain ⟨fields,fd,hu,hfd,ho1,ho2⟩:=hc.field hs hf;obtain ⟨i,d,hi,hu',hd,hsz⟩:=hc.agg ht;split at h2
  ·rename_i cs e;rw [e] at hx;obtain ⟨vs,hxv,hl,hr⟩:=hx.qB;have hag:=Ry hu' w;unfold yU at h2;cases ha:ti.agg with
   | true=>
    simp only [ha] at h2;obtain ⟨hle,h3⟩:=h2.bP;obtain ⟨rfl,rfl⟩:=h3.eZ;have hle:ti.size≤cs.length - oo:=by simpa using hle
    rw [hd,ha] at hag;have e1:(part t vs oo).run P w=.ok (.agg (vs.extract oo (oo+ti.size))) w:=by simp [part,Sem.run_bind,hag,fP hi,hsz]
    refine fC.dY (x:=.agg (vs.extract oo (oo+ti.size))) hR ?_ (.agg ?_ λ j hj=>?_)
    ·rw [← ho2] at e1;simp only [execOp,ho,Instr.field,hxv,Sem.run_bind,bN hu,hfd,asAgg,Sem.run_pure,Result.andThen_ok,e1,ho1]
    ·simp; omega
    ·have hj':j<ti.size:=by simp at hj; omega
     have:=hr (oo+j) om;have e:nth (List.take ti.size (List.drop oo cs)) j=nth cs (oo+j):=by simp [tu,hj']
     rw [e];have h4:oo+j<vs.size:=by omega
     simp [h4] at this;have h5:(vs.extract oo (oo+ti.size))[j]? = vs[oo+j]? := by
      rw [Array.getElem?_extract,if_pos om]
     simp only [Array.getD_eq_getD_getElem?, h5];simpa [h4] using this
   | false=>
    simp only [ha] at h2;rw [hd,ha] at hag;cases hcs:List.drop oo cs with
    | nil=>simp only [hcs] at h2; exact (fD.aZ h2).elim
    | cons c l=>
     simp only [hcs] at h2;obtain ⟨rfl,rfl⟩:=h2.eZ;have hlt:oo<cs.length:=by
      rcases Nat.lt_or_ge oo cs.length with h | h
      ·exact h
      ·rw [List.drop_eq_nil_of_le h] at hcs; cases hcs
     have hc0:nth cs oo=v:=by
      have:=JY cs oo 0;rw [hcs] at this;simpa [nth] using this.symm
     have h4:oo<vs.size:=by omega
     have e1:(part t vs oo).run P w=.ok (vs.getD oo Go.undef) w:=by simp [part,Sem.run_bind,hag,Array.getElem?_eq_getElem h4]
     refine fC.dY (x:=vs.getD oo Go.undef) hR ?_ (hc0 ▸ hr oo hlt);rw [← ho2] at e1;simp only [execOp,ho,Instr.field,hxv,Sem.run_bind,bN hu,hfd,asAgg,Sem.run_pure,Result.andThen_ok,e1,ho1]
  ·exact (fD.aZ h2).elim
 ·exact (fD.aZ h1).elim
theorem wP {size:Nat} (h:Om es n size=true) (hn:n≠0):es=size:=by
 unfold Om at h;cases hb:Nat.beq es size with
 | true=>exact Nat.eq_of_beq_eq_true hb
 | false=>
  simp only [hb] at h;cases n with
  | zero=>exact absurd rfl hn
  | succ n=>simp [ZT] at h
theorem Pp (i j:Nat):addN i j=i+j:=by cases i<;>simp [addN]
theorem Y4 (hc:gL P cfg) {et:Nat} (h:ahS cfg t=some (n,et)):P.underlying t=some (.array n et)∧∃ti,look cfg.ty t=some ti∧VO ti.desc=some (n,et):=by
 unfold ahS at h;split at h
 ·rename_i ti ht;refine ⟨?_,ti,ht,h⟩;obtain ⟨_,d,_,_,hu,_,_,_,_,_,_,_,hm⟩:=(hc.ty t ti ht).ex;unfold VO at h;split at h
  ·rename_i n' e' hd;cases h;rw [hd] at hm;have hm:d=.array n et:=hm;rw [hu,hm]
  ·cases h
 ·cases h
theorem Z7 (hc:gL P cfg) (hR:Rel cfg cx H D w I O) {ix:Operand} (ho:o.op=.indexAddr t x ix) (hx:dZ w I O D (ρ x) (a.eval x)) (hix:dZ w I O D (ρ ix) (a.eval ix))
  (h:fD Sp H (gD cfg dN (.indexAddr t x ix) ρ) v ups r):fC P cfg cx H D w I O dN o a v ups:=by
 simp only [gD] at h;split at h
 ·rename_i n et harr;obtain ⟨hu,_⟩:=Y4 hc harr;obtain ⟨ei,hei,h1⟩:=h.kg;split at h1
  ·rename_i k ii ob j off e1 e2;rw [e1] at hix;rw [e2] at hx;have abN:=hix.iD;obtain ⟨obj,_,nk,h2⟩:=h1.lY;obtain ⟨p,hp,hO⟩:=hR.live nk;obtain ⟨b,bo,sz,hpl,hjn,hxv⟩:=hx.nM hp;cases obj with
   | map=>exact (fD.aZ h2).elim
   | box cs=>exact (fD.aZ h2).elim
   | row es n' g=>
    obtain ⟨c1,h3⟩:=h2.bP;obtain ⟨c2,h4⟩:=h3.bP;obtain ⟨c3,h5⟩:=h4.bP;obtain ⟨⟨hn0,hn1⟩,rfl,rfl⟩:=h5.iy;obtain ⟨rfl,rfl⟩:=Vu c1;have c2:es=ei.size:=Nat.eq_of_beq_eq_true c2;have c3:n'=n:=Nat.eq_of_beq_eq_true c3;have Rz:p.es=es:=hO.2.1;have hpn:p.n=n':=hO.1;obtain ⟨i,_,z,hi,_,hz,hs,_⟩:=(hc.ty et ei hei).ex;simp only [Nat.zero_mul,Nat.add_zero] at hxv;refine fC.dY (x:=.pointer (some ⟨b,bo+(ii.toNat*p.es+0),none⟩)) hR ?_ (.ptr hp hpl om);simp [execOp,ho,hxv,abN,Instr.indexAt,asIntOf,Instr.sureAddr,bN hu,fP hi,hn0,hn1,hs,← c2,Rz,Addr.add_mid]
  ·exact (fD.aZ h1).elim
 obtain ⟨tt,e,ti,h1,h2,h3,h4⟩:=h.nY;obtain ⟨hu,i,z,hi,hz,hs,hby,hzs⟩:=hc.slice h1 h2 h3;split at h4
 ·rename_i k n eix;rw [eix] at hix;have abN:=hix.iD;split at h4
  ·rename_i es m full g ex;rw [ex] at hx;obtain ⟨hes,h5⟩:=h4.bP;obtain ⟨⟨hn0,hn1⟩,rfl,rfl⟩:=h5.iy;generalize hxv:a.eval x=xv at hx;cases hx.yV with
   | @sl _ _ _ _ aa cap b off vs hcap hfull ha hes' hm h1 hr=>
    have hm0:m≠0:=by omega
    obtain ⟨rfl,hI⟩:=ha hm0;have ars:=wP hes hm0;have hnm:n.toNat<m:=by omega
    refine fC.dY (x:=.pointer (some ⟨b,off+n.toNat*es,none⟩)) hR ?_ (.pure (.ro b (off+n.toNat*es) (λ j=>vs n.toNat j) hI (λ j hj=>?_) λ j hj=>hr _ _ hnm (by rw [hes' _ hnm] at hj; exact hj)))
    ·simp [execOp,ho,hxv,abN,Instr.indexAt,asIntOf,bN hu,fP hi,hn0,hn1,hs,ars,Addr.add_mid]
    ·rw [Nat.add_assoc];exact hm _ _ hnm (by rw [hes' _ hnm] at hj; exact hj)
  ·rename_i ob j m full ex;rw [ex] at hx;obtain ⟨obj,_,nk,h5⟩:=h4.lY;obtain ⟨p,hp,hO⟩:=hR.live nk;cases obj with
   | map=>exact (fD.aZ h5).elim
   | box cs=>exact (fD.aZ h5).elim
   | row es n' g=>
    obtain ⟨hes,h6⟩:=h5.bP;have hes:es=ti.size:=Nat.eq_of_beq_eq_true hes;obtain ⟨⟨hn0,hn1⟩,rfl,rfl⟩:=h6.iy;obtain ⟨aa,cap,hxv,hjm,hcap,hfull,hpl⟩:=hx.lD hp;obtain ⟨b,bo,sz,abO,rfl,hle⟩:=hpl om;have Rz:p.es=es:=hO.2.1;have hnm:n.toNat<m:=by omega
    rw [Pp];have:bo+j*p.es+n.toNat*p.es=bo+((j+n.toNat)*p.es+0):=by rw [Nat.add_mul]; omega
    refine fC.dY (x:=.pointer (some ⟨b,bo+((j+n.toNat)*p.es+0),none⟩)) hR ?_ (.ptr hp abO om);rw [← this];simp [execOp,ho,hxv,abN,Instr.indexAt,asIntOf,bN hu,fP hi,hn0,hn1,hs,← hes,Rz,Addr.add_mid]
  ·exact (fD.aZ h4).elim
 ·exact (fD.aZ h4).elim
end
end Go.Ab
namespace Go.Ab
section
variable {P:Program} {cfg:uT} {cx:Ctx} {H:Nat→Option dP} {D:Nat→Prop} {w:World} {I:Nat→Prop} {O:OM} {Sp:ny}
variable {dN:Nat} {o:Oper} {a:Act} {ρ:Operand→AV} {v:AV} {ups:jW} {r:List Nat}
variable {t:TypeId}
theorem Nq {e:TypeId} {i:TypeInfo} (hu:P.underlying t=some (.slice e)) (hi:P.info? e=some i) (aa:Option Addr) (len cap:Nat) (lo hi' mx:Option Value) (l h m:Nat)
  (hb:(Instr.sliceBounds true len cap lo hi' mx).run P w=.ok (l,h,m) w):
  (Instr.sliceAt t (.slice aa len cap) lo hi' mx).run P w=.ok (.slice (if m=l then aa else aa.map (·.add (l*i.size))) (h - l) (m - l)) w:=by
 simp [Instr.sliceAt,Instr.slice,bN hu,hb,fP hi]
theorem apv (len cap:Nat):(Instr.sliceBounds true len cap none none none).run P w=.ok (0,len,cap) w:=by
 simp [Instr.sliceBounds]
theorem apw (len cap:Nat) (k:IntKind) (h:Int) (h0:0≤h) (h1:h≤cap):(Instr.sliceBounds true len cap none (some (.int k h)) none).run P w=.ok (0,h.toNat,cap) w:=by
 simp [Instr.sliceBounds,Instr.sliceBound,asIntOf,h0,h1]
theorem apx (len cap:Nat) (k:IntKind) (h:Int) (h0:0≤h) (h1:h≤cap):(Instr.sliceBounds true len cap none (some (.int k h)) (some (.int k h))).run P w=.ok (0,h.toNat,h.toNat) w:=by
 obtain ⟨n,rfl⟩:=Int.eq_ofNat_of_zero_le h0;simp at h1;simp [Instr.sliceBounds,Instr.sliceBound,asIntOf,h1]
theorem apy (len cap:Nat) (k:IntKind) (l:Int) (h0:0≤l) (h1:l≤len):(Instr.sliceBounds true len cap (some (.int k l)) none none).run P w=.ok (l.toNat,len,cap) w:=by
 simp [Instr.sliceBounds,Instr.sliceBound,asIntOf,h0,h1]
theorem apz (len cap:Nat) (k k':IntKind) (l h:Int) (h0:0≤l) (h1:l≤h) (h2:h≤cap):(Instr.sliceBounds true len cap (some (.int k l)) (some (.int k' h)) none).run P w=.ok (l.toNat,h.toNat,cap) w:=by
 obtain ⟨n,rfl⟩:=Int.eq_ofNat_of_zero_le h0;obtain ⟨m,rfl⟩:=Int.eq_ofNat_of_zero_le (Int.le_trans h0 h1);simp at h1 h2;simp [Instr.sliceBounds,Instr.sliceBound,asIntOf,h1,h2]
theorem apA (len cap:Nat) (k k':IntKind) (l h:Int) (h0:0≤l) (h1:l≤h) (h2:h≤cap):(Instr.sliceBounds true len cap (some (.int k l)) (some (.int k' h)) (some (.int k' h))).run P w=.ok (l.toNat,h.toNat,h.toNat) w:=by
 obtain ⟨n,rfl⟩:=Int.eq_ofNat_of_zero_le h0;obtain ⟨m,rfl⟩:=Int.eq_ofNat_of_zero_le (Int.le_trans h0 h1);simp at h1 h2;simp [Instr.sliceBounds,Instr.sliceBound,asIntOf,h1,h2]
theorem adV {es n cap size l h m:Nat} {full uY:Bool} {g:Nat→AV} {aa:Option Addr} (hp:ig w I (.sl es n full g) (.slice aa n cap)) (hlh:l≤h) (hhn:h≤n) (hhm:h≤m) (_hmc:m≤cap)
  (hf:uY=true→m=h) (hs:n≠0→es=size):ig w I (.sl es (h - l) uY (λ j=>g (l+j))) (.slice (if m=l then aa else aa.map (·.add (l*size))) (h - l) (m - l)):=by
 cases hp with
 | sl b off vs hcap hfull ha hes hm h1 hr=>
  refine .sl b (off+l*es) (λ i j=>vs (l+i) j) om (λ e=>by have:=hf e; omega) (λ hne=>?_) (λ i hi=>hes _ om) (λ i j hi hj=>?_) (λ i j hi hj=>h1 _ _ om hj) (λ i j hi hj=>hr _ _ om hj)
  ·obtain ⟨h1,h2⟩:=ha om;rw [if_neg om,h1,hs om];simp [Addr.add_mid,h2]
  ·have:=hm (l+i) j om hj;rw [← this,Nat.add_mul];congr 2;omega
theorem RA {x y:Option Operand} (h:CU x y=true):x=y:=by
 unfold CU at h;split at h
 ·rw [Nat.eq_of_beq_eq_true h]
 ·cases h
variable {mx:Option Operand}
theorem afo (h:(!mx.isSome)=true):mx=none:=by
 cases mx with
 | none=>rfl
 | some _=>cases h
variable {hi:Option Operand}
theorem ah5 {k:Pg} (hhi:∀y,hi=some y→dZ w I O D (ρ y) (a.eval y)) (hmx:∀y,mx=some y→dZ w I O D (ρ y) (a.eval y)) (h:fD Sp H (agj ρ hi mx k) v ups r):(∃r',fD Sp H k v ups r')∧(mx.isSome=true→mx.map a.eval=hi.map a.eval):=by
 unfold agj at h;cases mx with
 | none=>exact ⟨⟨_,h⟩,nofun⟩
 | some m=>
  cases hi with
  | none=>exact (fD.aZ h).elim
  | some y=>
   simp only at h;have h1:=hhi y rfl;have h2:=hmx m rfl;split at h
   ·rename_i kk a1 kk' b1 e1 e2;obtain ⟨hk,h⟩:=h.bP;obtain ⟨he,h⟩:=h.uX;refine ⟨⟨_,h⟩,λ _=>?_⟩;rw [e1] at h1;rw [e2] at h2;have hk:kk=kk':=of_decide_eq_true hk;simp only [Option.map_some];rw [h1.iD,h2.iD,hk,he]
   ·exact (fD.aZ h).elim
theorem ah6 (n:Nat):(Instr.sliceBounds false n n none none none).run P w=.ok (0,n,n) w:=by simp [Instr.sliceBounds]
theorem ah7 (n:Nat) (k:IntKind) (h:Int) (h0:0≤h) (h1:h≤n):(Instr.sliceBounds false n n none (some (.int k h)) none).run P w=.ok (0,h.toNat,n) w:=by
 simp [Instr.sliceBounds,Instr.sliceBound,asIntOf,h0,h1]
variable {x:Operand} {lo:Option Operand}
theorem agr (hc:gL P cfg) (hR:Rel cfg cx H D w I O) (ho:o.op=.slice t x lo hi mx) (hx:dZ w I O D (ρ x) (a.eval x)) (hhi:∀y,hi=some y→dZ w I O D (ρ y) (a.eval y)) {n et:Nat} (harr:ahS cfg t=some (n,et))
  (h:fD Sp H (Ph cfg et λ ei=>fK mx.isNone (match ρ x with
    | .ptr o i off=>.rd o λ
     | .row es n' _=>fK (ZT i&&ZT off) (fK (Nat.beq es ei.size) (fK (Nat.beq n' n) (ahV o n (lo.map ρ) (hi.map ρ))))
     | _=>.fail
    | _=>.fail)) v ups r):fC P cfg cx H D w I O dN o a v ups:=by
 obtain ⟨hu,_⟩:=Y4 hc harr;obtain ⟨ei,hei,h1⟩:=h.kg;obtain ⟨hmx,h2⟩:=h1.bP;have hmx:mx=none:=by cases mx with | none=>rfl | some _=>cases hmx
 subst hmx;split at h2
 ·rename_i ob j off e1;rw [e1] at hx;obtain ⟨obj,_,nk,h3⟩:=h2.lY;obtain ⟨p,hp,hO⟩:=hR.live nk;obtain ⟨b,bo,sz,hpl,hjn,hxv⟩:=hx.nM hp;cases obj with
  | map=>exact (fD.aZ h3).elim
  | box cs=>exact (fD.aZ h3).elim
  | row es n' g=>
   obtain ⟨c1,h4⟩:=h3.bP;obtain ⟨c2,h5⟩:=h4.bP;obtain ⟨c3,h6⟩:=h5.bP;obtain ⟨rfl,rfl⟩:=Vu c1;have c2:es=ei.size:=Nat.eq_of_beq_eq_true c2;have c3:n'=n:=Nat.eq_of_beq_eq_true c3;subst c3;have Rz:p.es=es:=hO.2.1;have hpn:p.n=n':=hO.1;have hsz:bo+n'*es≤sz:=by
    obtain ⟨_,_,_,hq | ⟨b',ni,sz',hpl',_,hle,_⟩⟩:=hO
    ·rw [hpl] at hq; cases hq.2
    ·rw [hpl] at hpl'; cases hpl'; exact hle
   obtain ⟨i,_,z,ak3,_,hz,hs,_⟩:=(hc.ty et ei hei).ex;simp only [Nat.zero_mul,Nat.add_zero] at hxv;have fin:∀(k:Nat) (full:Bool),k≤n'→(full=true→n'=k)→dZ w I O D (.dF ob 0 k full) (.slice (some ⟨b,bo,none⟩) k n'):=λ k full hk hf=>
    .dF hp om hk hf (λ _=>⟨b,bo,sz,hpl,by simp,by rw [Rz,Nat.zero_add]; exact hsz⟩) om
   unfold ahV at h6;split at h6
   ·rename_i e2 e3;obtain ⟨rfl,rfl⟩:=h6.eZ;have hlo:lo=none:=by cases lo with | none=>rfl | some _=>cases e2
    have aru:hi=none:=by cases hi with | none=>rfl | some _=>cases e3
    subst hlo;subst aru;refine fC.dY (x:=.slice (some ⟨b,bo,none⟩) n' n') hR ?_ (fin n' true (Nat.le_refl _) (λ _=>rfl));have e0:(⟨b,bo,none⟩:Addr).add 0=⟨b,bo,none⟩:=by rw [Addr.add_mid]; rfl
    by_cases hz0:n'=0
    ·simp [execOp,ho,hxv,Instr.sliceAt,Instr.sureAddr,bN hu,ah6,fP ak3,hz0]
    ·simp [execOp,ho,hxv,Instr.sliceAt,Instr.sureAddr,bN hu,ah6,fP ak3,hz0,e0]
   ·rename_i k hh e2 e3;obtain ⟨⟨q0,q1⟩,rfl,rfl⟩:=h6.iy;have hlo:lo=none:=by cases lo with | none=>rfl | some _=>cases e2
    subst hlo;obtain ⟨y,hy,ey⟩:∃y,hi=some y∧ρ y=.int k hh:=by
     cases hi with
     | none=>cases e3
     | some y=>exact ⟨y,rfl,by simpa using e3⟩
    subst hy;have hyv:=hhi y rfl;rw [ey] at hyv;have hyv:=hyv.iD;refine fC.dY (x:=.slice (some ⟨b,bo,none⟩) hh.toNat n') hR ?_ (fin hh.toNat false om (λ h=>by cases h));by_cases hz0:n'=0
    ·have hb0:=ah7 (P:=P) (w:=w) n' k hh q0 q1;have ht0:hh.toNat=0:=by omega
     rw [ht0] at hb0 ⊢;rw [hz0] at hb0 hu ⊢;simp [execOp,ho,hxv,hyv,Instr.sliceAt,Instr.sureAddr,bN hu,hb0,fP ak3]
    ·simp [execOp,ho,hxv,hyv,Instr.sliceAt,Instr.sureAddr,bN hu,ah7 n' k hh q0 q1,fP ak3,hz0,(show (⟨b,bo,none⟩:Addr).add 0=⟨b,bo,none⟩ by rw [Addr.add_mid]; rfl)]
   ·exact (fD.aZ h6).elim
 ·exact (fD.aZ h2).elim
theorem ags (hc:gL P cfg) (hR:Rel cfg cx H D w I O) (ho:o.op=.slice t x lo hi mx) {ob i n:Nat} {f:Bool} (hx:dZ w I O D (.dF ob i n f) (a.eval x))
  (hlo:∀y,lo=some y→dZ w I O D (ρ y) (a.eval y)) (hhi:∀y,hi=some y→dZ w I O D (ρ y) (a.eval y)) (hmx:∀y,mx=some y→dZ w I O D (ρ y) (a.eval y))
  (h:fD Sp H (AU cfg t λ ti=>.rd ob λ
    | .row es N _=>fK (Nat.beq es ti.size) (ahI ob i n N f (lo.map ρ) (hi.map ρ) (mx.map ρ))
    | _=>.fail) v ups r):fC P cfg cx H D w I O dN o a v ups:=by
 obtain ⟨tt,e,ti,h1,h2,h3,h4⟩:=h.nY;obtain ⟨hu,ii,z,hi',hz,hs,hby,hzs⟩:=hc.slice h1 h2 h3;obtain ⟨obj,_,nk,h5⟩:=h4.lY;obtain ⟨p,hp,hO⟩:=hR.live nk;cases obj with
 | map=>exact (fD.aZ h5).elim
 | box cs=>exact (fD.aZ h5).elim
 | row es N g=>
  obtain ⟨c1,h6⟩:=h5.bP;have c1:es=ti.size:=Nat.eq_of_beq_eq_true c1;have Rz:p.es=es:=hO.2.1;have hpn:p.n=N:=hO.1;obtain ⟨aa,cap,hxv,a1,a2,a3,a4⟩:=hx.lD hp;have hext:p.n≤i+cap:=(hxv ▸ hx).CV hp;have arg:∀(q:Option Operand) (k:IntKind) (m:Int),(∀y,q=some y→dZ w I O D (ρ y) (a.eval y))→q.map ρ=some (.int k m)→q.map a.eval=some (.int k m):=by
   intro q k m hq hm;cases q with
   | none=>cases hm
   | some y=>
    have:=hq y rfl;simp only [Option.map_some,Option.some.injEq] at hm ⊢;rw [hm] at this;exact this.iD
  have non:∀(q:Option Operand),q.map ρ=none→q=none:=λ q hq=>by cases q with | none=>rfl | some _=>cases hq
  have part:∀l hh uY,l≤hh→i+hh≤N→(uY=true→f=true∧hh=n)→dZ w I O D (.dF ob (i+l) (hh - l) uY) (.slice (if cap=l then aa else aa.map (·.add (l*ii.size))) (hh - l) (cap - l)):=by
   intro l hh uY q1 q2 q3;have hhc:hh≤cap:=by omega
   refine .dF hp om om (λ hf=>?_) (λ hne=>?_) om
   ·obtain ⟨e1,e2⟩:=q3 hf;have:=a3 e1;omega
   ·obtain ⟨b,bo,sz,e1,e2,e3⟩:=a4 om;refine ⟨b,bo,sz,e1,?_,?_⟩
    ·rw [if_neg om,e2];simp only [Option.map_some,Addr.add_mid,Option.some.injEq];rw [Rz,hs,← c1,Nat.add_mul];congr 1;omega
    ·have:i+l+(cap - l)=i+cap:=by omega
     rw [this];exact e3
  have run:∀(l hh m:Nat),(Instr.sliceBounds true n cap (lo.map a.eval) (hi.map a.eval) (mx.map a.eval)).run P w=.ok (l,hh,m) w→(execOp a.eval o).run P w=.ok (.value (.slice (if m=l then aa else aa.map (·.add (l*ii.size))) (hh - l) (m - l))) w:=by
   intro l hh m hb;have:=Nq (P:=P) hu hi' aa n cap _ _ _ l hh m hb;simp only [execOp,ho,hxv,this,Sem.run_bind,Sem.run_pure,Result.andThen_ok]
  unfold ahI at h6;split at h6
  ·rename_i k m em;have hm:=arg mx k m hmx em;split at h6
   ·rename_i k1 l k2 hh el eh;obtain ⟨⟨q1,q2,q3,q4⟩,rfl,rfl⟩:=h6.iy;have hl:=arg lo k1 l hlo el;have hh':=arg hi k2 hh hhi eh;refine fC.dY hR (run l.toNat hh.toNat m.toNat ?_) (.pure (.undef _));rw [hl,hh',hm];obtain ⟨l',rfl⟩:=Int.eq_ofNat_of_zero_le q1;obtain ⟨h',rfl⟩:=Int.eq_ofNat_of_zero_le (show 0≤hh by omega);obtain ⟨m',rfl⟩:=Int.eq_ofNat_of_zero_le (show 0≤m by omega);have z1:(m':Int)≤(cap:Int):=by omega
    have z2:(h':Int)≤(m':Int):=q3;have z3:(l':Int)≤(h':Int):=q2;have z4:(0:Int)≤(m':Int):=by omega
    have z5:(0:Int)≤(h':Int):=by omega
    have z6:(0:Int)≤(l':Int):=by omega
    have b1:∀(k:IntKind) (x y:Nat) (cd:BoundsCode),(x:Int)≤(y:Int)→(Instr.sliceBound (.int k x) y cd).run P w=.ok x w:=λ k x y cd hxy=>by
     have hx0:(0:Int)≤(x:Int):=by omega
     simp only [Instr.sliceBound,asIntOf,Sem.run_bind,Sem.run_pure,Result.andThen_ok];rw [if_pos ⟨hx0,hxy⟩];simp
    simp only [Instr.sliceBounds,Sem.run_bind,b1 _ _ _ _ z1,b1 _ _ _ _ z2,b1 _ _ _ _ z3,Result.andThen_ok,Sem.run_pure,Int.toNat_natCast]
   ·rename_i k2 hh el eh;obtain ⟨⟨q1,q2,q3⟩,rfl,rfl⟩:=h6.iy;have hl:=non lo el;subst hl;have hh':=arg hi k2 hh hhi eh;have em0:m=0:=by omega
    have eh0:hh=0:=by omega
    subst em0;subst eh0;refine fC.dY (x:=.slice aa 0 0) hR ?_ (.pure (.sl 0 0 (λ _ _=>Go.undef) (Nat.zero_le _) (λ _=>rfl) (λ h=>absurd rfl h) (λ _ h=>absurd h (Nat.not_lt_zero _)) (λ _ _ h=>absurd h (Nat.not_lt_zero _)) (λ _ _ h=>absurd h (Nat.not_lt_zero _)) (λ _ _ h=>absurd h (Nat.not_lt_zero _))));have b1:∀(k:IntKind) (y:Nat) (cd:BoundsCode),(Instr.sliceBound (.int k 0) y cd).run P w=.ok 0 w:=λ k y cd=>by
     have hx0:(0:Int)≤(0:Int):=by omega
     have hxy:(0:Int)≤(y:Int):=by omega
     simp only [Instr.sliceBound,asIntOf,Sem.run_bind,Sem.run_pure,Result.andThen_ok];rw [if_pos ⟨hx0,hxy⟩];simp
    have:=run 0 0 0 (by
     rw [hh',hm]
     simp [Instr.sliceBounds,b1])
    simpa using this
   ·exact (fD.aZ h6).elim
  ·exact (fD.aZ h6).elim
  ·rename_i em;have hm:=non mx em;subst hm;split at h6
   ·rename_i el eh;obtain ⟨rfl,rfl⟩:=h6.eZ;have:=non lo el;subst this;have:=non hi eh;subst this;refine fC.dY hR (run 0 n cap (apv n cap)) ?_;have hh:(.slice (if cap=0 then aa else aa.map (·.add (0*ii.size))) (n - 0) (cap - 0):Value)=.slice aa n cap:=by
     by_cases hz:cap=0
     ·simp [hz]
     ·obtain ⟨b,bo,sz,_,e2,_⟩:=a4 hz;rw [if_neg hz,e2];simp [Addr.add_mid]
    rw [hh,← hxv];exact hx
   ·rename_i k hh el eh;obtain ⟨⟨q1,q2⟩,rfl,rfl⟩:=h6.iy;have:=non lo el;subst this;have hh':=arg hi k hh hhi eh;refine fC.dY hR (run 0 hh.toNat cap (by rw [hh']; exact apw n cap k hh q1 om)) ?_;have:=part 0 hh.toNat false (Nat.zero_le _) om (λ h=>by cases h);simpa using this
   ·rename_i k l el eh;obtain ⟨⟨q1,q2⟩,rfl,rfl⟩:=h6.iy;have:=non hi eh;subst this;have hl:=arg lo k l hlo el;exact fC.dY hR (run l.toNat n cap (by rw [hl]; exact apy n cap k l q1 q2)) (part l.toNat n f om om (λ h=>⟨h,rfl⟩))
   ·rename_i k l k2 hh el eh;obtain ⟨⟨q1,q2,q3⟩,rfl,rfl⟩:=h6.iy;have hl:=arg lo k l hlo el;have hh':=arg hi k2 hh hhi eh;exact fC.dY hR (run l.toNat hh.toNat cap (by rw [hl,hh']; exact apz n cap k k2 l hh q1 q2 om)) (part l.toNat hh.toNat false om om (λ h=>by cases h))
   ·exact (fD.aZ h6).elim
theorem ah8 (hc:gL P cfg) (hR:Rel cfg cx H D w I O) (ho:o.op=.slice t x lo hi mx) (hx:dZ w I O D (ρ x) (a.eval x))
  (hlo:∀y,lo=some y→dZ w I O D (ρ y) (a.eval y)) (hhi:∀y,hi=some y→dZ w I O D (ρ y) (a.eval y)) (hmx:∀y,mx=some y→dZ w I O D (ρ y) (a.eval y))
  (h:fD Sp H (gD cfg dN (.slice t x lo hi mx) ρ) v ups r):fC P cfg cx H D w I O dN o a v ups:=by
 simp only [gD] at h;split at h
 ·rename_i n et harr;exact agr hc hR ho hx hhi harr h
 split at h
 ·rename_i e1;exact ags hc hR ho (e1 ▸ hx) hlo hhi hmx h
 rename_i hno;obtain ⟨⟨r0,h0⟩,hmax⟩:=ah5 hhi hmx h;clear h;obtain ⟨tt,e,ti,h1,h2,h3,h4⟩:=h0.nY;obtain ⟨hu,i,z,hi',hz,hs,hby,hzs⟩:=hc.slice h1 h2 h3;clear h0;obtain ⟨aa,n,cap,xa,hxv,amw,part,h5⟩:∃aa n cap xa,a.eval x=.slice aa n cap∧n≤cap∧(∀(v:AV),xa=v→
   (∀es full g,xa=.sl es n full g→(full=true→cap=n)∧∀l h m uY,l≤h→h≤n→h≤m→m≤cap→(uY=true→m=h)→dZ w I O D (.sl es (h - l) uY (λ j=>g (l+j))) (.slice (if m=l then aa else aa.map (·.add (l*i.size))) (h - l) (m - l)))∧
   (∀ob j n' full,xa≠.dF ob j n' full)∧
   (∀es n' full g,xa=.sl es n' full g→n'=n))∧∃r',fD Sp H (Vn xa (lo.map ρ) (hi.map ρ) mx.isSome mx.isSome) v ups r':=by
  split at h4
  ·rename_i es n f g ex
   rw [ex] at hx
   obtain ⟨hes,h5⟩:=h4.bP
   generalize hxv:a.eval x=xv at hx
   have hp:=hx.yV
   cases hp with
   | @sl _ _ _ _ aa cap b off vs hcap hfull ha hes' hm h11 hr=>
    refine ⟨aa,n,cap,.sl es n f g,rfl,hcap,λ v _=>⟨λ es' uY g' e=>?_,λ _ _ _ _ e=>(by cases e),λ _ _ _ _ e=>(by cases e; rfl)⟩,_,h5⟩
    cases e
    exact ⟨hfull,λ l h m uY q1 q2 q3 q4 q5=>.pure (adV (ig.sl b off vs hcap hfull ha hes' hm h11 hr) q1 q2 q3 q4 q5 (λ hn=>by rw [hs]; exact wP hes hn))⟩
  ·rename_i ob j n f ex
   exact (hno _ _ _ _ ex).elim
  ·exact (fD.aZ h4).elim
 obtain ⟨r',h5⟩:=h5;clear h4 hx;obtain ⟨psl,ak4,ah9⟩:=part xa rfl;have done:∀ {l h m:Nat} {x':Value},(Instr.sliceBounds true n cap (lo.map a.eval) (hi.map a.eval) (mx.map a.eval)).run P w=.ok (l,h,m) w→x'=.slice (if m=l then aa else aa.map (·.add (l*i.size))) (h - l) (m - l)→ups=[]→dZ w I O D v x'→fC P cfg cx H D w I O dN o a v ups:=by
  intro l h m x' hb hx' hu0 hv;subst hu0;refine fC.dY (x:=x') hR ?_ hv;rw [hx'];simp [execOp,ho,hxv,Nq hu hi' aa n cap _ _ _ l h m hb]
 unfold Vn at h5;split at h5
 ·rename_i e1 e2;obtain ⟨hm,h6⟩:=h5.bP;have hmx:mx=none:=afo hm;have e1':lo=none:=by simpa using e1
  have e2':hi=none:=by simpa using e2
  subst hmx; subst e1'; subst e2';split at h6
  ·obtain ⟨rfl,rfl⟩:=h6.eZ;have e:=ah9 _ _ _ _ rfl;subst e;obtain ⟨q1,q2⟩:=psl _ _ _ rfl;exact done (apv _ _) rfl rfl (by simpa using q2 0 _ cap _ (Nat.zero_le _) (Nat.le_refl _) amw (Nat.le_refl _) q1)
  ·exact absurd rfl (ak4 _ _ _ _)
  ·exact (fD.aZ h6).elim
 ·rename_i k hh e1 e2;obtain ⟨hm,h6⟩:=h5.bP;have e1':lo=none:=by simpa using e1
  obtain ⟨y,e2',e3⟩:∃y,hi=some y∧ρ y=.int k hh:=Option.map_eq_some_iff.1 e2;have hy:a.eval y=.int k hh:=(e3 ▸ hhi y e2').iD;subst e1';have go:∀uY,uY=mx.isSome→0≤hh→hh≤n→(∀m,hh.toNat≤m→m≤cap→(uY=true→m=hh.toNat)→dZ w I O D v (.slice (if m=0 then aa else aa.map (·.add (0*i.size))) (hh.toNat - 0) (m - 0)))→ups=[]→fC P cfg cx H D w I O dN o a v ups:=by
   intro uY hfe q1 q2 q3 q4;cases hf:mx.isSome with
   | true=>
    exact done (l:=0) (h:=hh.toNat) (m:=hh.toNat) (by rw [hmax hf]; simp only [e2',Option.map_some,Option.map_none,hy]; exact apx _ _ _ _ q1 om) rfl q4 (q3 _ (Nat.le_refl _) om (λ _=>rfl))
   | false=>
    have hmx:mx=none:=afo (by rw [hf]; rfl);subst hmx;exact done (l:=0) (h:=hh.toNat) (m:=cap) (by simp only [e2',Option.map_some,Option.map_none,hy]; exact apw _ _ _ _ q1 om) rfl q4 (q3 _ om (Nat.le_refl _) (λ e=>by rw [hfe,hf] at e; cases e))
  split at h6
  ·split at h6
   ·rename_i hzf;obtain ⟨⟨q1,q2⟩,rfl,rfl⟩:=h6.iy;have e:=ah9 _ _ _ _ rfl;subst e;have hh0:hh=0:=by omega
    subst hh0;unfold zf at hzf;split at hzf
    ·split at hzf
     ·obtain ⟨q3,q4⟩:=psl _ _ _ rfl;have hc0:=q3 rfl;exact go _ rfl om om (λ m hm1 hm2 hm3=>by simpa using q4 0 0 m true (Nat.le_refl _) om (Nat.zero_le _) hm2 (λ _=>by omega)) rfl
     ·cases hzf
    ·cases hzf
   obtain ⟨⟨q1,q2⟩,rfl,rfl⟩:=h6.iy;have e:=ah9 _ _ _ _ rfl;subst e;obtain ⟨q3,q4⟩:=psl _ _ _ rfl;exact go _ rfl q1 q2 (λ m hm1 hm2 hm3=>by simpa using q4 0 hh.toNat m _ (Nat.zero_le _) om hm1 hm2 hm3) rfl
  ·exact absurd rfl (ak4 _ _ _ _)
  ·exact (fD.aZ h6).elim
 ·rename_i k l e1 e2;obtain ⟨hm,h6⟩:=h5.bP;have hmx:mx=none:=afo hm;have e2':hi=none:=by simpa using e2
  obtain ⟨y,e1',e3⟩:∃y,lo=some y∧ρ y=.int k l:=Option.map_eq_some_iff.1 e1;have hy:a.eval y=.int k l:=(e3 ▸ hlo y e1').iD;subst hmx; subst e2';split at h6
  ·obtain ⟨⟨q1,q2⟩,rfl,rfl⟩:=h6.iy;have e:=ah9 _ _ _ _ rfl;subst e;obtain ⟨q3,q4⟩:=psl _ _ _ rfl;exact done (by simp only [e1',Option.map_some,Option.map_none,hy]; exact apy _ _ _ _ q1 q2) rfl rfl (q4 l.toNat _ cap _ om (Nat.le_refl _) amw (Nat.le_refl _) q3)
  ·exact absurd rfl (ak4 _ _ _ _)
  ·exact (fD.aZ h6).elim
 ·rename_i k l k' hh e1 e2;obtain ⟨hm,h6⟩:=h5.bP;obtain ⟨y,e1',e3⟩:∃y,lo=some y∧ρ y=.int k l:=Option.map_eq_some_iff.1 e1;obtain ⟨y',e2',e3'⟩:∃y,hi=some y∧ρ y=.int k' hh:=Option.map_eq_some_iff.1 e2;have hy:a.eval y=.int k l:=(e3 ▸ hlo y e1').iD;have hy':a.eval y'=.int k' hh:=(e3' ▸ hhi y' e2').iD;have go:∀uY,uY=mx.isSome→0≤l→l≤hh→hh≤n→(∀m,hh.toNat≤m→m≤cap→(uY=true→m=hh.toNat)→dZ w I O D v (.slice (if m=l.toNat then aa else aa.map (·.add (l.toNat*i.size))) (hh.toNat - l.toNat) (m - l.toNat)))→ups=[]→fC P cfg cx H D w I O dN o a v ups:=by
   intro uY hfe q0 q1 q2 q3 q4;cases hf:mx.isSome with
   | true=>
    exact done (l:=l.toNat) (h:=hh.toNat) (m:=hh.toNat) (by rw [hmax hf]; simp only [e1',e2',Option.map_some,hy,hy']; exact apA _ _ _ _ _ _ q0 q1 om) rfl q4 (q3 _ (Nat.le_refl _) om (λ _=>rfl))
   | false=>
    have hmx:mx=none:=afo (by rw [hf]; rfl);subst hmx;exact done (l:=l.toNat) (h:=hh.toNat) (m:=cap) (by simp only [e1',e2',Option.map_some,Option.map_none,hy,hy']; exact apz _ _ _ _ _ _ q0 q1 om) rfl q4 (q3 _ om (Nat.le_refl _) (λ e=>by rw [hfe,hf] at e; cases e))
  split at h6
  ·obtain ⟨⟨q0,q1,q2⟩,rfl,rfl⟩:=h6.iy;have e:=ah9 _ _ _ _ rfl;subst e;obtain ⟨q3,q4⟩:=psl _ _ _ rfl;exact go _ rfl q0 q1 q2 (λ m hm1 hm2 hm3=>q4 l.toNat hh.toNat m _ om om hm1 hm2 hm3) rfl
  ·exact absurd rfl (ak4 _ _ _ _)
  ·exact (fD.aZ h6).elim
 ·exact (fD.aZ h5).elim
end
end Go.Ab
namespace Go.Ab
section
variable {P:Program} {cfg:uT} {cx:Ctx} {H:Nat→Option dP} {D:Nat→Prop} {w:World} {I:Nat→Prop} {O:OM} {Sp:ny}
variable {dN:Nat} {o:Oper} {a:Act} {ρ:Operand→AV} {v:AV} {ups:jW} {r:List Nat}
def Cr (O:OM) (ids:List Nat) (b:Nat):Prop:=∃o p bo sz,o∈ids∧O o=some p∧p.pl=some (b,bo,sz)
def kill (O:OM) (ids:List Nat):OM:=λ o=>if o∈ids then none else O o
theorem Y5 (ids:List Nat) (o:Nat):look (dead ids) o=if o∈ids then some none else none:=by
 induction ids with
 | nil=>simp [dead,look]
 | cons a l ih=>
  simp only [dead,look,ih];cases h:Nat.beq a o with
  | true=>have:=Nat.eq_of_beq_eq_true h; subst this; simp
  | false=>
   have:o≠a:=λ e=>by subst e; simp at h
   simp [this]
theorem Mq (ids:List Nat) (o:Nat):lI H (dead ids) o=if o∈ids then none else H o:=by
 unfold lI;rw [Y5];by_cases h:o∈ids<;>simp [h]
theorem Rel.freeze (hR:Rel cfg cx H D w I O) (ids:List Nat):Rel cfg cx (lI H (dead ids)) D w (λ b=>I b∨Cr O ids b) (kill O ids) where
 dom:=λ o=>by
  rw [Mq]; unfold kill;by_cases h:o∈ids<;>simp [h,hR.dom o]
 used:=λ o p h=>by
  unfold kill at h;by_cases h':o∈ids<;>simp [h'] at h;exact hR.used o p h
 objs:=λ o ob p h h'=>by
  rw [Mq] at h; unfold kill at h';by_cases h0:o∈ids<;>simp [h0] at h h';exact (hR.objs o ob p h h').mono (λ _ h=>.inl h) (λ _ _=>rfl) (λ o _=>by unfold kill; by_cases h0:o∈ids<;>simp [h0]) (λ _ h=>h) hR.used (λ _ _ _ _=>rfl)
 inj:=λ o o' p p' b bo sz b' ni sz' h1 h2 h3 h4 h5=>by
  unfold kill at h1 h2;by_cases h0:o∈ids<;>simp [h0] at h1;by_cases h0':o'∈ids<;>simp [h0'] at h2;exact hR.inj o o' p p' b bo sz b' ni sz' h1 h2 h3 h4 h5
 nL:=λ o p b bo sz h1 h2 h3=>by
  unfold kill at h1;by_cases h0:o∈ids<;>simp [h0] at h1;rcases h3 with h3 | ⟨o',p',ni,sz',h4,h5,h6⟩
  ·exact hR.nL o p b bo sz h1 h2 h3
  ·exact hR.inj o o' p p' b bo sz b ni sz' h1 h5 h2 h6 (λ e=>h0 (e ▸ h4)) rfl
 lt:=λ o p b bo sz h1 h2=>by
  unfold kill at h1;by_cases h0:o∈ids<;>simp [h0] at h1;exact hR.lt o p b bo sz h1 h2
 yT:=λ b h=>by
  rcases h with h | ⟨o',p',ni,sz',h4,h5,h6⟩
  ·exact hR.yT b h
  ·exact hR.lt o' p' b ni sz' h5 h6
 size:=hR.size
 frame:=hR.frame
 env:=hR.env
 new:=λ o p b bo sz h1 h2=>by
  unfold kill at h1;by_cases h0:o∈ids<;>simp [h0] at h1;exact hR.new o p b bo sz h1 h2
 glob:=λ g cs h=>(hR.glob g cs h).mono (λ _ h=>.inl h) (λ _ _=>rfl)
 O9:=λ b h=>.inl (hR.O9 b h)
 Rw:=λ b h=>by
  rcases h with h | ⟨o',p',ni,sz',h4,h5,h6⟩
  ·exact hR.Rw b h
  ·exact .inr (hR.new o' p' b ni sz' h5 h6)
 Vt:=λ o h=>by
  unfold kill;by_cases h0:o∈ids
  ·simp [h0]
  ·simpa [h0] using hR.Vt o h
 Dm:=hR.Dm
theorem dZ.kill (hR:Rel cfg cx H D w I O) (ids:List Nat) {v:AV} {x:Value} (h:dZ w I O D v x):dZ w (λ b=>I b∨Cr O ids b) (kill O ids) D v x:=
 h.mono (λ _ h=>.inl h) (λ _ _=>rfl) (λ o _=>by unfold Ab.kill; by_cases h0:o∈ids<;>simp [h0]) (λ _ h=>h) hR.used
theorem Cr.adW {ids ak5:List Nat} {b:Nat} (h:Cr O ids b):Cr O (ids++ak5) b:=by
 obtain ⟨o,p,bo,sz,h1,h2,h3⟩:=h;exact ⟨o,p,bo,sz,List.mem_append_left _ h1,h2,h3⟩
theorem Cr.adX {ids ak5:List Nat} {b:Nat} (h:Cr O ak5 b):Cr O (ids++ak5) b:=by
 obtain ⟨o,p,bo,sz,h1,h2,h3⟩:=h;exact ⟨o,p,bo,sz,List.mem_append_right _ h1,h2,h3⟩
theorem AA (i j:Nat) (g:Nat→AV):nI i g j=g (i+j):=by cases i<;>simp [nI]
theorem EJ (hR:Rel cfg cx H D w I O):∀f:Nat,
  (∀(v:AV) (k:AV→List Nat→Pg) (v':AV) (ups:jW) (r:List Nat),fD Sp H (X4 f v k) v' ups r→∃u ids r',fD Sp H (k u ids) v' ups r'∧
    ∀x,dZ w I O D v x→ig w (λ b=>I b∨Cr O ids b) u x)∧
  (∀(l:List AV) (k:List AV→List Nat→Pg) (v':AV) (ups:jW) (r:List Nat),fD Sp H (X4.adJ f l k) v' ups r→∃l' ids r',fD Sp H (k l' ids) v' ups r'∧l'.length=l.length∧
    ∀j,j<l.length→∀x,dZ w I O D (nth l j) x→ig w (λ b=>I b∨Cr O ids b) (nth l' j) x):=by
 intro f;induction f with
 | zero=>exact ⟨λ v k v' ups r h=>(fD.aZ h).elim,λ l k v' ups r h=>(fD.aZ h).elim⟩
 | succ f ih=>
  obtain ⟨ih1,ih2⟩:=ih;refine ⟨λ v k v' ups r h=>?_,λ l k v' ups r h=>?_⟩
  ·cases v with
   | dF ob i n full=>
    simp only [X4] at h;obtain ⟨obj,r',nk,h1⟩:=h.lY;obtain ⟨p,hp,hO⟩:=hR.live nk;cases obj with
    | map=>exact (fD.aZ h1).elim
    | box cs=>exact (fD.aZ h1).elim
    | row es m g=>
     refine ⟨_,[ob],r',h1,λ x hx=>?_⟩;obtain ⟨aa,cap,rfl,h2,h3,h4,h5⟩:=hx.lD hp;obtain ⟨hn,hes,hlen,h6⟩:=hO;by_cases hn0:n=0
     ·subst hn0;exact .sl 0 0 (λ _ _=>Go.undef) h3 h4 (λ e=>absurd rfl e) (λ i hi=>absurd hi om) (λ i j hi=>absurd hi om) (λ i j hi=>absurd hi om) (λ i j hi=>absurd hi om)
     ·obtain ⟨b,bo,sz,h7,rfl,h8⟩:=h5 om;rcases h6 with ⟨_,h6⟩ | ⟨b',ni,sz',h6,hal,hle,hcs⟩
      ·rw [h7] at h6; cases h6
      ·rw [h7] at h6;cases h6;subst hn;have hmul:∀k,k<n→(i+k+1)*es≤p.n*es:=λ k hk=>Nat.mul_le_mul_right _ om;refine .sl b (bo+i*p.es) (λ k j=>cellAt w b (bo+((i+k)*es+j))) h3 h4 (λ _=>⟨rfl,.inr ⟨ob,p,bo,sz,by simp,hp,h7⟩⟩) (λ k hk=>by rw [AA]; exact hlen _ om) (λ k j hk hj=>?_) (λ k j hk hj=>(hcs (i+k) j om hj).2) (λ k j hk hj=>?_)
       ·have e:bo+i*p.es+(k*es+j)=bo+((i+k)*es+j):=by rw [hes,Nat.add_mul]; omega
        rw [e];refine uh hal.al ?_;have:=hmul k hk;rw [Nat.succ_mul] at this;omega
       ·rw [AA];exact (hcs (i+k) j om hj).1.mono (λ _ h=>.inl h) (λ _ _=>rfl)
   | ptr ob i off=>
    cases i with
    | succ i=>simp only [X4] at h; exact (fD.aZ h).elim
    | zero=>
     simp only [X4] at h;obtain ⟨obj,r',nk,h1⟩:=h.lY;obtain ⟨p,hp,hO⟩:=hR.live nk;cases obj with
     | map=>exact (fD.aZ h1).elim
     | row es m g=>exact (fD.aZ h1).elim
     | box cs=>
      obtain ⟨l',ids,r'',h2,h3,h4⟩:=ih2 _ _ _ _ _ h1;refine ⟨_,_,r'',h2,λ x hx=>?_⟩;obtain ⟨b,bo,sz,h5,h6,rfl⟩:=hx.nM hp;obtain ⟨hn,b',ni,sz',h7,hal,hle,hcs⟩:=hO;rw [h5] at h7;cases h7;simp only [Nat.zero_mul,Nat.zero_add];refine .ro b (bo+off) (λ j=>cellAt w b (bo+(off+j))) (.inr ⟨ob,p,bo,sz,by simp,hp,h5⟩) (λ j hj=>?_) (λ j hj=>?_)
      ·rw [Nat.add_assoc];refine uh hal ?_;rw [h3] at hj;simp at hj;omega
      ·rw [h3] at hj;refine (h4 j hj _ (by rw [JY]; exact hcs (off+j) (by simp at hj; omega))).mono (λ b h=>?_) (λ _ _=>rfl);rcases h with h | ⟨o',p',ni,sz',q1,q2,q3⟩
       ·exact .inl h
       ·exact .inr ⟨o',p',ni,sz',List.mem_cons_of_mem _ q1,q2,q3⟩
   | agg cs=>
    simp only [X4] at h;obtain ⟨l',ids,r'',h2,h3,h4⟩:=ih2 _ _ _ _ _ h;refine ⟨_,_,r'',h2,λ x hx=>?_⟩;obtain ⟨vs,rfl,hl,hr⟩:=hx.qB;exact .agg om λ j hj=>h4 j om _ (hr j om)
   | jM cs=>
    simp only [X4] at h;obtain ⟨l',ids,r'',h2,h3,h4⟩:=ih2 _ _ _ _ _ h;refine ⟨_,_,r'',h2,λ x hx=>?_⟩;obtain ⟨vs,rfl,hl,hr⟩:=hx.Gt;exact .jM om λ j hj=>h4 j om _ (hr j om)
   | fn g cs=>
    simp only [X4] at h;obtain ⟨l',ids,r'',h2,h3,h4⟩:=ih2 _ _ _ _ _ h;refine ⟨_,_,r'',h2,λ x hx=>?_⟩;obtain ⟨vs,rfl,hl,hr⟩:=hx.JX;exact .fn om λ j hj=>h4 j om _ (hr j om)
   | mref ob=>
    simp only [X4] at h;obtain ⟨obj,r1,nk,h1⟩:=h.lY;obtain ⟨p,hp,hO⟩:=hR.live nk;cases obj with
    | box=>exact (fD.aZ h1).elim
    | row=>exact (fD.aZ h1).elim
    | map kd z f=>
     obtain ⟨_,b,bo,sz,es,clock,hpl,hw,hm⟩:=hO;refine ⟨_,_,_,h1,λ x hx=>?_⟩;obtain ⟨b',ni,sz',hpl',rfl⟩:=hx.uW hp;rw [hpl] at hpl';cases hpl';exact .pm b es clock (.inr ⟨ob,p,bo,sz,by simp,hp,hpl⟩) hw hm
   | _=>
    refine ⟨_,[],r,h,λ x hx=>?_⟩;cases hx with | pure hx=>exact hx.mono (λ _ h=>.inl h) (λ _ _=>rfl)
  ·cases l with
   | nil=>exact ⟨[],[],r,h,rfl,λ j hj=>by cases hj⟩
   | cons v l=>
    simp only [X4.adJ] at h;obtain ⟨u,i1,r1,h1,h2⟩:=ih1 _ _ _ _ _ h;obtain ⟨l',i2,r2,h3,h4,h5⟩:=ih2 _ _ _ _ _ h1;refine ⟨u::l',i1++i2,r2,h3,by simp [h4],λ j hj x hx=>?_⟩;cases j with
    | zero=>exact (h2 x hx).mono (λ b h=>h.elim .inl λ h=>.inr h.adW) (λ _ _=>rfl)
    | succ j=>exact (h5 j (by simpa using hj) x hx).mono (λ b h=>h.elim .inl λ h=>.inr h.adX) (λ _ _=>rfl)
end
end Go.Ab

/- An abstract machine over the model's code, that it is sound; models of the functions and their proofs. -/
import Derived.Orders
import Derived.Laws.IdiomCopy
import Derived.Laws.Cells
import Derived.Laws.Sem
import Derived.Deep.MidRow
import Derived.Laws.StructEq
import Derived.ChangeKeysEq
import Derived.IntWalk
set_option linter.unusedVariables false
set_option linter.unusedSimpArgs false
namespace Go.Ab
theorem om {p : Prop} (h : p := by omega) : p := h
inductive AV where
 | undef
 | bool (b:Bool)
 | int (k:IntKind) (n:Int)
 | str (s:ByteArray)
 | sl (es n:Nat) (full:Bool) (g:Nat→AV)
 | ro (cs:List AV)
 | agg (cs:List AV)
 | ptr (o i off:Nat)
 | eH (o i n:Nat) (full:Bool)
 | fn (f:FuncId) (caps:List AV)
 | kH (vs:List AV)
 | Ey
 | mref (o:Nat)
inductive ZK where
 | bool | int (k:IntKind) | str | slice | ptr | other
 deriving DecidableEq
inductive TD where
 | bool | int (k:IntKind) | str | slice (e:TypeId) | struct (fs:List (Nat×Nat)) | pointer (e:TypeId) | map (k e:TypeId) | array (n:Nat) (e:TypeId) | other
 deriving DecidableEq
inductive qo where
 | s (b:ByteArray)
 | i (n:Int)
 deriving DecidableEq
inductive dY where
 | box (cs:List AV)
 | row (es n:Nat) (g:Nat→AV)
 | map (kd:TD) (z:List ZK) (f:qo→Option Int)
structure P7 where
 size:Nat
 agg:Bool
 bytes:Nat
 zero:List ZK
 desc:TD
 deriving DecidableEq
structure FnI where
 muts:List Nat:=[]
 frz:Bool:=false
structure xV where
 ty:List (Nat×P7)
 eqs:List (Nat×List ZK):=[]
 fns:List (Nat×FnI)
 glob:List (Nat×List AV)
def look {α:Type}:List (Nat×α)→Nat→Option α
 | [],_=>none
 | (k,v)::l,t=>match Nat.beq k t with | true=>some v | false=>look l t
def iN (T:List (Nat×AV)) (t:Nat):AV:=
 match look T t with | some v=>v | none=>.undef
def hget (H:List (Nat×Option dY)) (o:Nat):Option dY:=
 match look H o with | some (some x)=>some x | _=>none
abbrev lC:=List (Nat×Option dY)
inductive Pg where
 | ret (v:AV) (ups:lC)
 | need (p:Prop) [d:Decidable p] (k:Pg)
 | rd (o:Nat) (k:dY→Pg)
 | call (f:FuncId) (args:List AV) (obs:List dY) (k:AV→List dY→Pg)
 | fail
def stride:Nat:=8
def fG:Nat→AV:=fun _=>.undef
def ofConst:Value→AV
 | .bool b=>.bool b
 | .int k n=>.int k n
 | .string s=>.str s
 | .slice none 0 0=>.sl 0 0 true fG
 | .pointer none=>.Ey
 | _=>.undef
def ofZ:ZK→AV
 | .bool=>.bool false
 | .int k=>.int k 0
 | .str=>.str ByteArray.empty
 | .slice=>.sl 0 0 true fG
 | .ptr=>.Ey
 | .other=>.undef
def zK:List ZK→List AV
 | []=>[]
 | z::l=>ofZ z::zK l
def AV.cells:AV→List AV
 | .agg cs=>cs
 | v=>[v]
def nth:List AV→Nat→AV
 | [],_=>.undef
 | v::_,0=>v
 | _::l,n+1=>nth l n
def Gz:Nat→List AV→List AV→List AV
 | _,[],l=>l
 | 0,v::new,_::l=>v::Gz 0 new l
 | n+1,new,x::l=>x::Gz n new l
 | _,_,[]=>[]
def Yq:AV→Bool
 | .undef | .agg _ | .kH _=>false
 | _=>true
def I5:List AV→Bool
 | []=>true
 | v::l=>match Yq v with | true=>I5 l | false=>false
def LW (v:AV) (k:List AV→Pg):Pg:=
 match v.cells with
 | cs=>match I5 cs with | true=>k cs | false=>.fail
def gL (b:Bool) (k:Pg):Pg:=match b with | true=>k | false=>.fail
def LX:List AV→(List AV→Prop)→Prop
 | [],K=>K []
 | v::l,K=>LX l (fun l'=>
  match v with
  | .undef=>K (.undef::l') | .bool b=>K (.bool b::l') | .int k n=>K (.int k n::l') | .str s=>K (.str s::l')
  | .sl es n f g=>K (.sl es n f g::l') | .ro cs=>K (.ro cs::l') | .agg cs=>K (.agg cs::l') | .ptr o i off=>K (.ptr o i off::l')
  | .eH o i n f=>K (.eH o i n f::l') | .fn f caps=>K (.fn f caps::l') | .kH vs=>K (.kH vs::l') | .Ey=>K (.Ey::l') | .mref o=>K (.mref o::l'))
def force (v:AV) (K:AV→Prop):Prop:=
 match v with
 | .undef=>K .undef | .bool b=>K (.bool b) | .int k n=>K (.int k n) | .str s=>K (.str s)
 | .sl es n f g=>K (.sl es n f g)
 | .ro cs=>LX cs fun cs'=>K (.ro cs')
 | .agg cs=>LX cs fun cs'=>K (.agg cs')
 | .ptr o i off=>K (.ptr o i off) | .eH o i n f=>K (.eH o i n f)
 | .fn f caps=>LX caps fun cs'=>K (.fn f cs')
 | .kH vs=>LX vs fun cs'=>K (.kH cs')
 | .Ey=>K .Ey
 | .mref o=>K (.mref o)
def Df:lC→(lC→Prop)→Prop
 | [],K=>K []
 | (o,none)::l,K=>Df l fun l'=>K ((o,none)::l')
 | (o,some (.row es n g))::l,K=>Df l fun l'=>K ((o,some (.row es n g))::l')
 | (o,some (.map kd z f))::l,K=>Df l fun l'=>K ((o,some (.map kd z f))::l')
 | (o,some (.box cs))::l,K=>LX cs fun cs'=>Df l fun l'=>K ((o,some (.box cs'))::l')
def aF (n:Int):Prop := -9223372036854775808≤n∧n≤9223372036854775807
instance (n:Int):Decidable (aF n):=inferInstanceAs (Decidable (_∧_))
def addN:Nat→Nat→Nat
 | 0,k=>k
 | n+1,k=>n+1+k
def qJ (i:Nat) (g:Nat→AV):Nat→AV:=match i with | 0=>g | n+1=>fun j=>g (n+1+j)
def Wo (l:List AV):Nat→AV:=fun i=>nth l i
def appG (n:Nat) (g h:Nat→AV):Nat→AV:=fun j=>bif Nat.blt j n then g j else h (j - n)
def adh (g:Nat→AV) (i:Nat) (v:AV):Nat→AV:=fun j=>bif Nat.beq j i then v else g j
def pur:Nat→AV→(AV→List Nat→Pg)→Pg
 | 0,_,_=>.fail
 | _+1,.eH o i n full,k=>.rd o fun
  | .row es _ g=>k (.sl es n full (qJ i g)) [o]
  | _=>.fail
 | f+1,.ptr o i off,k=>match i with
  | 0=>.rd o fun
   | .box cs=>afe f (cs.drop off) fun cs' ids=>k (.ro cs') (o::ids)
   | _=>.fail
  | _+1=>.fail
 | f+1,.agg cs,k=>afe f cs fun cs' ids=>k (.agg cs') ids
 | f+1,.kH cs,k=>afe f cs fun cs' ids=>k (.kH cs') ids
 | f+1,.fn fn cs,k=>afe f cs fun cs' ids=>k (.fn fn cs') ids
 | _+1,.mref _,_=>.fail
 | _+1,v,k=>k v []
 where afe:Nat→List AV→(List AV→List Nat→Pg)→Pg
 | 0,_,_=>.fail
 | _+1,[],k=>k [] []
 | f+1,v::l,k=>pur f v fun v' i1=>afe f l fun l' i2=>k (v'::l') (i1++i2)
def fuel:Nat:=100
def dead:List Nat→lC
 | []=>[]
 | o::l=>(o,none)::dead l
def l5 (p:Prop) [Decidable p] (v:AV):Pg:=.need p (.ret v [])
def jX (v:AV):Pg:=.ret v []
def Aq (ti:P7) (cs:List AV):Pg:=
 match ti.agg with
 | true=>gL (Nat.ble ti.size cs.length) (jX (.agg (cs.take ti.size)))
 | false=>match cs with
  | v::_=>jX v
  | []=>.fail
def arith (op:BinOp) (a b:Int):Pg:=
 match op with
 | .add=>l5 (aF (a+b)) (.int .i64 (a+b))
 | .sub=>l5 (aF (a - b)) (.int .i64 (a - b))
 | .mul=>l5 (aF (a*b)) (.int .i64 (a*b))
 | .quo=>l5 (b≠0∧aF (a.tdiv b)) (.int .i64 (a.tdiv b))
 | .rem=>l5 (b≠0) (.int .i64 (a.tmod b))
 | _=>.fail
def apo (op:BinOp) (a b:Int):Pg:=
 match op with
 | .eql=>jX (.bool (a==b))
 | .neq=>jX (.bool (a != b))
 | .lss=>jX (.bool (decide (a<b)))
 | .leq=>jX (.bool (decide (a≤b)))
 | .gtr=>jX (.bool (decide (b<a)))
 | .geq=>jX (.bool (decide (b≤a)))
 | _=>.fail
def R4:BinOp→Bool
 | .add | .sub | .mul | .quo | .rem=>true
 | _=>false
def aiZ (k:IntKind) (op:BinOp) (a b:Int):Pg:=
 match op with
 | .add=>jX (.int k (k.wrap (a+b)))
 | .sub=>jX (.int k (k.wrap (a - b)))
 | .mul=>jX (.int k (k.wrap (a*b)))
 | _=>.fail
def R5 (k:IntKind) (a b:Int):Int:=k.wrap (BitVec.ofInt k.bits a &&& BitVec.ofInt k.bits b).toNat
def GD (k:IntKind) (a b:Int):Int:=a.fdiv (2 ^ min b.toNat k.bits)
def orI (k:IntKind) (a b:Int):Int:=k.wrap (BitVec.ofInt k.bits a ||| BitVec.ofInt k.bits b).toNat
def Yr (k:IntKind) (a b:Int):Int:=k.wrap (a*2 ^ min b.toNat k.bits)
def ai1:BinOp→Bool
 | .shl=>true
 | _=>false
def yC (a b:IntKind):Bool:=decide (a=b)
def UJ:List ZK→List AV→List AV→Option Bool
 | [],[],[]=>some true
 | .int k::zs,.int k1 a::l,.int k2 b::m=>match yC k k1,yC k k2,UJ zs l m with
  | true,true,some r=>some ((a==b)&&r)
  | _,_,_=>none
 | .bool::zs,.bool a::l,.bool b::m=>match UJ zs l m with
  | some r=>some ((a==b)&&r)
  | none=>none
 | .str::zs,.str a::l,.str b::m=>match UJ zs l m with
  | some r=>some ((a.toList==b.toList)&&r)
  | none=>none
 | _,_,_=>none
def ane (op:BinOp) (a b:ByteArray):Pg:=
 match op with
 | .add=>l5 (a.size+b.size≤9223372036854775807) (.str (a++b))
 | .eql=>jX (.bool (a.toList==b.toList))
 | .neq=>jX (.bool (!(a.toList==b.toList)))
 | .lss=>jX (.bool (Op.bytesLess a.toList b.toList))
 | .leq=>jX (.bool (Op.bytesLess a.toList b.toList||a.toList==b.toList))
 | .gtr=>jX (.bool (!(Op.bytesLess a.toList b.toList||a.toList==b.toList)))
 | .geq=>jX (.bool (!Op.bytesLess a.toList b.toList))
 | _=>.fail
def aff (c:AV) (ea eb:Operand) (a b:AV):Pg:=
 match c with
 | .bool c=>match ea,eb,a,b with
  | _,.const (.bool false),.bool x,_=>jX (.bool (c&&x))
  | .const (.bool true),_,_,.bool y=>jX (.bool (c||y))
  | _,_,.bool x,.bool y=>jX (.bool (bif c then x else y))
  | _,_,.undef,y=>l5 (c=false) y
  | _,_,x,.undef=>l5 (c=true) x
  | _,_,_,_=>.fail
 | _=>.fail
section ops
variable (cfg:xV)
def UM (t:TypeId) (k:P7→Pg):Pg:=match look cfg.ty t with | some i=>k i | none=>.fail
def Dg (t:TypeId) (k:P7→Pg):Pg:=match look cfg.ty t with
 | some i=>match i.desc with
  | .slice e=>UM cfg e k
  | _=>.fail
 | none=>.fail
def ai2 (op:BinOp) (t:TypeId) (x y:AV):Pg:=
 match x,y with
 | .int k a,.int k' b=>match ai1 op with
  | true=>l5 (0≤b) (.int k (Yr k a b))
  | false=>gL (yC k k') (match R4 op with
  | true=>match yC k .i64 with
   | true=>arith op a b
   | false=>aiZ k op a b
  | false=>match op with
   | .and=>jX (.int k (R5 k a b))
   | .or=>jX (.int k (orI k a b))
   | .shr=>l5 (0≤b) (.int k (GD k a b))
   | _=>apo op a b)
 | .bool a,.bool b=>UM cfg t fun ti=>match ti.desc,op with
  | .bool,.eql=>jX (.bool (a==b))
  | .bool,.neq=>jX (.bool (!(a==b)))
  | _,_=>.fail
 | .str a,.str b=>ane op a b
 | .agg cs,.agg cs'=>match look cfg.eqs t with
  | some zs=>match UJ zs cs cs',op with
   | some r,.eql=>jX (.bool r)
   | some r,.neq=>jX (.bool (!r))
   | _,_=>.fail
  | none=>.fail
 | _,_=>.fail
def Xf:List (Nat×Nat)→Nat→Option (Nat×Nat)
 | [],_=>none
 | x::_,0=>some x
 | _::l,n+1=>Xf l n
def OC (ti:P7) (f:Nat):Option (Nat×Nat):=match ti.desc with
 | .struct fs=>Xf fs f
 | _=>none
def adi (fs:List (Nat×Nat)):List (Nat×AV)→List AV→(List AV→Pg)→Pg
 | [],cs,k=>k cs
 | (i,v)::rest,cs,k=>match Xf fs i with
  | some (off,t)=>UM cfg t fun ti=>LW v fun vs=>gL (Nat.beq vs.length ti.size) (gL (Nat.ble (off+vs.length) cs.length) (adi fs rest (Gz off vs cs) k))
  | none=>.fail
def FY:Nat→AV→List AV→List AV
 | _,_,[]=>[]
 | 0,v,_::l=>v::l
 | n+1,v,x::l=>x::FY n v l
def agN (size:Nat) (agg:Bool):List (Nat×AV)→List AV→(List AV→Pg)→Pg
 | [],es,k=>k es
 | (i,v)::rest,es,k=>gL (match agg,v with | true,.agg _=>true | true,_=>false | false,.agg _=>false | false,_=>true)
  (LW v fun vs=>gL (Nat.beq vs.length size) (gL (Nat.blt i es.length) (agN size agg rest (FY i v es) k)))
def zeroOf (ti:P7):AV:=match ti.agg with
 | true=>.agg (zK ti.zero)
 | false=>nth (zK ti.zero) 0
def zok (ti:P7):Bool:=match Nat.blt 0 ti.size with
 | true=>match ti.agg with
  | true=>true
  | false=>Nat.beq ti.size 1
 | false=>false
def ahB:Nat→AV→List AV
 | 0,_=>[]
 | n+1,z=>z::ahB n z
def R6:List (Nat×AV)→(List (Nat×AV)→List Nat→Pg)→Pg
 | [],k=>k [] []
 | (i,v)::l,k=>pur fuel v fun v' i1=>R6 l fun l' i2=>k ((i,v')::l') (i1++i2)
def apq (s:AV) (f:Int→Pg) (k:Pg):Pg:=match s with
 | .int _ n=>f n
 | _=>k
def zf (full:Bool) (n:Nat):Bool:=match full with
 | true=>match n with
  | 0=>true
  | _+1=>false
 | false=>false
def X9 (x:AV) (lo hi:Option AV) (abM aa3:Bool):Pg:=
 match lo,hi with
 | none,none=>gL (!abM) (match x with
  | .sl es n full g=>jX (.sl es n full g)
  | .eH o i n full=>jX (.eH o i n full)
  | _=>.fail)
 | none,some (.int _ h)=>gL (!abM||aa3) (match x with
  | .sl es n full g=>match zf full n with
   | true=>l5 (0≤h∧h≤0) (.sl es 0 true g)
   | false=>l5 (0≤h∧h≤n) (.sl es h.toNat aa3 g)
  | .eH o i n _=>l5 (0≤h∧h≤n) (.eH o i h.toNat aa3)
  | _=>.fail)
 | some (.int _ l),none=>gL (!abM) (match x with
  | .sl es n full g=>l5 (0≤l∧l≤n) (.sl es (n - l.toNat) full (fun j=>g (l.toNat+j)))
  | .eH o i n full=>l5 (0≤l∧l≤n) (.eH o (i+l.toNat) (n - l.toNat) full)
  | _=>.fail)
 | some (.int _ l),some (.int _ h)=>gL (!abM||aa3) (match x with
  | .sl es n _ g=>l5 (0≤l∧l≤h∧h≤n) (.sl es (h.toNat - l.toNat) aa3 (fun j=>g (l.toNat+j)))
  | .eH o i n _=>l5 (0≤l∧l≤h∧h≤n) (.eH o (i+l.toNat) (h.toNat - l.toNat) aa3)
  | _=>.fail)
 | _,_=>.fail
def EN:Option Operand→Option Operand→Bool
 | some (.tmp a),some (.tmp b)=>Nat.beq a b
 | _,_=>false
def ahC (ρ:Operand→AV) (hi mx:Option Operand) (k:Pg):Pg:=
 match mx with
 | none=>k
 | some m=>match hi with
  | none=>.fail
  | some h=>match ρ h,ρ m with
   | .int kk a,.int kk' b=>gL (yC kk kk') (.need (a=b) k)
   | _,_=>.fail
def Wp (x:AV) (k:Nat→Nat→(Nat→AV)→Pg):Pg:=
 match x with
 | .sl es n _ g=>k es n g
 | .eH o i n _=>.rd o fun
  | .row es _ g=>k es n (qJ i g)
  | _=>.fail
 | _=>.fail
def isZ:Nat→Bool
 | 0=>true
 | _+1=>false
def QI (es n size:Nat):Bool:=match Nat.beq es size with | true=>true | false=>isZ n
def big:Nat:=140737488355328
def cpG (i k:Nat) (g h:Nat→AV):Nat→AV:=fun j=>bif Nat.ble i j&&Nat.blt j (i+k) then h (j - i) else g j
def abO (ti:P7) (d s:AV):Pg:=
 Wp s fun es' m h=>gL (QI es' m ti.size) (
 match d with
 | .eH o i n _=>.rd o fun
  | .row es N g=>gL (Nat.beq es ti.size) (.need (i+n+m≤N) (.ret (.eH o i (n+m) false) [(o,some (.row es N (cpG (i+n) m g h)))]))
  | _=>.fail
 | _=>.fail)
def isSelf:AV→AV→Bool
 | .eH o _ _ _,.eH o' _ _ _=>Nat.beq o o'
 | _,_=>false
def ai3 (o i n N:Nat) (f:Bool) (lo hi mx:Option AV):Pg:=match mx with
 | some (.int _ m)=>match lo,hi with
  | some (.int _ l),some (.int _ h)=>l5 (0≤l∧l≤h∧h≤m∧m≤n) .undef
  | none,some (.int _ h)=>l5 (0≤h∧h≤m∧m≤0) (.sl 0 0 true fG)
  | _,_=>.fail
 | some _=>.fail
 | none=>match lo,hi with
  | none,none=>jX (.eH o i n f)
  | none,some (.int _ h)=>l5 (0≤h∧(i:Int)+h≤N) (.eH o i h.toNat false)
  | some (.int _ l),none=>l5 (0≤l∧l≤n) (.eH o (i+l.toNat) (n - l.toNat) f)
  | some (.int _ l),some (.int _ h)=>l5 (0≤l∧l≤h∧(i:Int)+h≤N) (.eH o (i+l.toNat) (h.toNat - l.toNat) false)
  | _,_=>.fail
def adj (ti:P7) (dU:Nat) (d s:AV):Pg:=
 Wp s fun es' m h=>gL (QI es' m ti.size) (
 match d with
 | .sl es n full g=>gL full (match es with
  | 0=>gL (isZ n) (.need (m*ti.bytes≤big) (.ret (.eH dU 0 m false) [(dU,some (.row ti.size m h))]))
  | es1+1=>gL (QI (es1+1) n ti.size) (l5 ((n+m)*ti.bytes≤big) (.sl ti.size (n+m) false (appG n g h))))
 | .eH o i n _=>.rd o fun
  | .row es _ g=>gL (Nat.beq es ti.size) (.need ((n+m)*ti.bytes≤big) (.ret (.eH dU 0 (n+m) false) [(dU,some (.row es (n+m) (appG n (qJ i g) h))),(o,none)]))
  | _=>.fail
 | _=>.fail)
def ai4 (ti:P7) (d s:AV):Pg:=
 Wp s fun es' m h=>gL (QI es' m ti.size) (
 match d with
 | .eH o i n _=>.rd o fun
  | .row es N g=>gL (Nat.beq es ti.size) (.ret (.int .i64 (Nat.min m n:Nat)) [(o,some (.row es N (cpG i (Nat.min m n) g h)))])
  | _=>.fail
 | _=>.fail)
def Ar:List Nat→Nat→Nat→Option Nat
 | [],_,_=>none
 | a::l,o,j=>match Nat.beq a o with | true=>some j | false=>Ar l o (j+1)
def pO:AV→Bool
 | .undef | .bool _ | .int .. | .str _ | .sl .. | .ro _ | .Ey=>true
 | _=>false
def aq7:AV→List Nat
 | .ptr o _ _=>[o]
 | .eH o _ _ _=>[o]
 | _=>[]
def adk:List AV→List Nat
 | []=>[]
 | v::l=>aq7 v++adk l
def anf (sg:List Nat):List Nat→Bool
 | []=>false
 | o::_=>match Ar sg o 0 with
  | some _=>true
  | none=>false
def ai5 (sg:List Nat) (v:AV) (k:AV→Pg):Pg:=match v with
 | .ptr o i off=>match Ar sg o 0 with
  | some j=>k (.ptr j i off)
  | none=>.fail
 | .eH o i n f=>match Ar sg o 0 with
  | some j=>k (.eH j i n f)
  | none=>.fail
 | v=>gL (pO v) (k v)
def ahE (sg:List Nat):List AV→(List AV→Pg)→Pg
 | [],k=>k []
 | v::l,k=>ai5 sg v fun v'=>ahE sg l fun l'=>k (v'::l')
def OD (sg:List Nat) (v:AV) (k:AV→List Nat→Pg):Pg:=
 match v with
 | .ptr o i off=>match Ar sg o 0 with
  | some j=>k (.ptr j i off) []
  | none=>pur fuel (.ptr o i off) k
 | .eH o i n full=>match Ar sg o 0 with
  | some j=>k (.eH j i n full) []
  | none=>pur fuel (.eH o i n full) k
 | .fn f cs=>match anf sg (adk cs) with
  | true=>ahE sg cs fun cs'=>k (.fn f cs') []
  | false=>pur fuel (.fn f cs) k
 | v=>pur fuel v k
def GH (sg:List Nat):List AV→(List AV→List Nat→Pg)→Pg
 | [],k=>k [] []
 | v::l,k=>OD sg v fun v' i1=>GH sg l fun l' i2=>k (v'::l') (i1++i2)
def agO:List Nat→(List dY→Pg)→Pg
 | [],k=>k []
 | o::l,k=>.rd o fun ob=>agO l fun obs=>k (ob::obs)
def sigma (args:List AV):List Nat→List Nat
 | []=>[]
 | p::l=>match nth args p with
  | .ptr o _ _=>o::sigma args l
  | .eH o _ _ _=>o::sigma args l
  | .fn _ cs=>adk cs++sigma args l
  | _=>sigma args l
def BR:Nat→List Nat→Bool
 | _,[]=>false
 | a,b::l=>match Nat.beq a b with | true=>true | false=>BR a l
def oJ:List Nat→Bool
 | []=>true
 | a::l=>match BR a l with | true=>false | false=>oJ l
def Yt:AV→Bool
 | .bool _ | .int .. | .str _=>true
 | _=>false
def abP:List AV→Bool
 | []=>true
 | v::l=>match Yt v with | true=>abP l | false=>false
def Yu:AV→Bool
 | .agg vs=>abP vs
 | v=>Yt v
def abQ:List AV→Bool
 | []=>true
 | v::l=>match Yu v with | true=>abQ l | false=>false
def ai6:AV→Bool
 | .kH vs=>abQ vs
 | v=>Yu v
def iw:List Nat→Nat→Nat
 | [],_=>0
 | a::_,0=>a
 | _::l,n+1=>iw l n
def LY:dY→Bool
 | .map .other [] _=>true
 | _=>false
def ang:dY:=.map .other [] fun _=>none
def gz (x:dY):Option dY:=match LY x with
 | true=>none
 | false=>some x
def Dh:List Nat→List dY→lC
 | o::l,x::m=>(o,gz x)::Dh l m
 | _,_=>[]
def alN (f:FuncId):FnI:=match look cfg.fns f with | some i=>i | none=>{}
def yD:List AV→Bool
 | []=>true
 | v::l=>match pO v with | true=>yD l | false=>false
def Ya:dY→Bool
 | .box cs=>yD cs
 | .row .. => true
 | .map .. => false
def apr:AV→Bool
 | .agg vs=>yD vs
 | v=>pO v
def LZ:List Nat→List Nat→Bool
 | [],_=>true
 | x::l,m=>match BR x m with | true=>false | false=>LZ l m
def aps:AV→List Nat
 | .ptr o _ _=>[o]
 | .eH o _ _ _=>[o]
 | .fn _ cs=>adk cs
 | _=>[]
def anh:List AV→List Nat
 | []=>[]
 | v::l=>aps v++anh l
def apt:dY→List Nat
 | .box cs=>anh cs
 | _=>[]
def Yv:Nat→List Nat→List Nat→(List Nat→Pg)→Pg
 | 0,_,_,_=>.fail
 | _+1,[],sg,k=>k sg
 | f+1,o::todo,sg,k=>match BR o sg with
  | true=>Yv f todo sg k
  | false=>.rd o fun ob=>Yv f (todo++apt ob) (sg++[o]) k
def inv1 (sg:List Nat) (v:AV) (k:AV→Pg):Pg:=match v with
 | .ptr o i off=>match Ar sg o 0 with
  | some j=>k (.ptr j i off)
  | none=>.fail
 | .eH o i n f=>match Ar sg o 0 with
  | some j=>k (.eH j i n f)
  | none=>.fail
 | .fn f cs=>ahE sg cs fun cs'=>k (.fn f cs')
 | v=>gL (pO v) (k v)
def alO (sg:List Nat):List AV→(List AV→Pg)→Pg
 | [],k=>k []
 | v::l,k=>inv1 sg v fun v'=>alO sg l fun l'=>k (v'::l')
def apu (sg:List Nat) (x:dY) (k:dY→Pg):Pg:=match x with
 | .box cs=>alO sg cs fun cs'=>k (.box cs')
 | .row es n g=>k (.row es n g)
 | .map .. => .fail
def agP (sg:List Nat):List dY→(List dY→Pg)→Pg
 | [],k=>k []
 | x::l,k=>apu sg x fun x'=>agP sg l fun l'=>k (x'::l')
def adl (sg:List Nat):AV→AV
 | .ptr j i off=>.ptr (iw sg j) i off
 | .eH j i n full=>.eH (iw sg j) i n full
 | v=>v
def ai7 (sg:List Nat):List AV→List AV
 | []=>[]
 | v::l=>adl sg v::ai7 sg l
def L6 (sg:List Nat):AV→AV
 | .ptr j i off=>.ptr (iw sg j) i off
 | .eH j i n full=>.eH (iw sg j) i n full
 | .fn f cs=>.fn f (ai7 sg cs)
 | v=>v
def ahF (sg:List Nat):List AV→List AV
 | []=>[]
 | v::l=>L6 sg v::ahF sg l
def L8 (sg:List Nat):AV→AV
 | .agg cs=>.agg (ahF sg cs)
 | v=>L6 sg v
def adn (sg:List Nat):List AV→List AV
 | []=>[]
 | v::l=>L8 sg v::adn sg l
def alP (sg:List Nat):AV→AV
 | .kH vs=>.kH (adn sg vs)
 | v=>L8 sg v
def aal (sg:List Nat):dY→dY
 | .box cs=>.box (ahF sg cs)
 | .row es n g=>.row es n g
 | .map kd z f=>.map kd z f
def Yw (sg:List Nat):List dY→List dY
 | []=>[]
 | x::l=>aal sg x::Yw sg l
def alQ:AV→Bool
 | .ptr .. | .eH .. => true
 | v=>pO v
def okA:List AV→Bool
 | []=>true
 | v::l=>match alQ v with | true=>okA l | false=>false
def ai8:AV→Bool
 | .fn _ cs=>okA cs
 | .agg _ | .kH _ | .mref _=>false
 | _=>true
def ai9:List AV→Bool
 | []=>true
 | v::l=>match ai8 v with | true=>ai9 l | false=>false
def aja:AV→Bool
 | .agg cs=>ai9 cs
 | v=>ai8 v
def agQ:List AV→Bool
 | []=>true
 | v::l=>match aja v with | true=>agQ l | false=>false
def apv:AV→Bool
 | .kH vs=>agQ vs
 | v=>aja v
def ajb:dY→Bool
 | .box cs=>ai9 cs
 | .row .. => true
 | .map kd z f=>LY (.map kd z f)
def agR:List dY→Bool
 | []=>true
 | x::l=>match ajb x with | true=>agR l | false=>false
def kP:Nat→Nat→List Nat
 | 0,_=>[]
 | n+1,i=>i::kP n (i+1)
def Yb (dU:Nat) (f:FuncId) (args:List AV) (sg0:List Nat):Pg:=
 Yv 40 sg0 [] fun sg=>gL (oJ sg) (agO sg fun obs=>agP sg obs fun ahG=>GH sg args fun args' ids=>gL (LZ ids sg)
  (.call f args' ahG fun r fO=>gL (agR fO) (gL (Nat.ble fO.length (sg.length+stride)) (gL (apv r)
    (.ret (alP (sg++kP (fO.length - sg.length) dU) r) (Dh (sg++kP (fO.length - sg.length) dU) (Yw (sg++kP (fO.length - sg.length) dU) fO)++dead ids))))))
def ajc (dU:Nat) (f:FuncId) (args:List AV):Pg:=
 match sigma args (alN cfg f).muts with
 | []=>match (alN cfg f).frz with
  | false=>GH [] args fun args' _=>.call f args' [] fun r fO=>match fO with
   | []=>gL (ai6 r) (jX r)
   | _::_=>.fail
  | true=>Yb dU f args []
 | x::sg=>Yb dU f args (x::sg)
def keyOf:AV→Option qo
 | .str b=>some (.s b)
 | .int .i64 n=>some (.i n)
 | _=>none
def apw (z:List ZK) (n:Int):AV:=match z with
 | [.bool]=>.bool (n != 0)
 | [.int k]=>.int k n
 | _=>.undef
def anN (z:List ZK):AV→Option Int
 | .bool b=>match z with
  | [.bool]=>some (bif b then 1 else 0)
  | _=>none
 | .int k n=>match z with
  | [.int k']=>match decide (k=k') with
   | true=>some n
   | false=>none
  | _=>none
 | _=>none
def abR:List ZK→Bool
 | [.bool]=>true
 | [.int _]=>true
 | _=>false
def BS (f:qo→Option Int) (k:qo):Int:=(f k).getD 0
def UN (f:qo→Option Int) (k:qo) (n:Int):qo→Option Int:=fun k'=>if k'=k then some n else f k'
def ajd (t:TypeId) (k:P7→P7→Pg):Pg:=match look cfg.ty t with
 | some i=>match i.desc with
  | .map kt et=>UM cfg kt fun ki=>UM cfg et fun ei=>gL (!ei.agg) (k ki ei)
  | _=>.fail
 | none=>.fail
def I6 (d:TD):qo→Bool
 | .s _=>match d with | .str=>true | _=>false
 | .i _=>match d with | .int .i64=>true | _=>false
def Yx:TD→Option (Nat×TypeId)
 | .array n e=>some (n,e)
 | _=>none
def aje (t:TypeId):Option (Nat×TypeId):=match look cfg.ty t with
 | some i=>Yx i.desc
 | none=>none
def agS (et sz:Nat):Nat→Nat→List (Nat×Nat)
 | 0,_=>[]
 | n+1,k=>(k*sz,et)::agS et sz n (k+1)
def apx:AV→Bool
 | .bool b=>b
 | _=>false
def aq9:AV→Int
 | .int _ n=>n
 | _=>0
def ara:AV→ByteArray
 | .str s=>s
 | _=>ByteArray.empty
def slN:AV→Nat
 | .sl _ n _ _=>n
 | _=>0
def slG:AV→Nat→AV
 | .sl _ _ _ g=>g
 | _=>fun _=>.undef
def esA:AV→Nat
 | .sl es _ _ _=>es
 | _=>0
def ajf:List ZK→Nat→ZK
 | [],_=>.other
 | z::_,0=>z
 | _::l,n+1=>ajf l n
def alR (z:ZK) (es:Nat) (c:AV):Bool:=match z,c with
 | .bool,.bool _=>true
 | .int k,.int k' _=>yC k k'
 | .str,.str _=>true
 | .slice,.sl es' n _ _=>match Nat.beq es' es with
  | true=>true
  | false=>Nat.beq n 0
 | _,_=>false
def anO (z:ZK) (es:Nat) (c:AV):AV:=match z with
 | .bool=>.bool (apx c)
 | .int k=>.int k (aq9 c)
 | .str=>.str (ara c)
 | .slice=>.sl es (slN c) false (slG c)
 | _=>.undef
def aa4 (sz j:Nat):Nat→List AV→Nat
 | _,[]=>0
 | k,c::cs=>match Nat.beq (Nat.mod k sz) j with
  | true=>(fun m=>match Nat.ble (esA c) m with | true=>m | false=>esA c) (aa4 sz j (k+1) cs)
  | false=>aa4 sz j (k+1) cs
def alS (zs:List ZK) (sz:Nat) (all:List AV):Nat→List AV→Bool
 | _,[]=>true
 | k,c::cs=>match alR (ajf zs (Nat.mod k sz)) (aa4 sz (Nat.mod k sz) 0 all) c with
  | true=>alS zs sz all (k+1) cs
  | false=>false
def ado (all:List AV) (b sz:Nat):Nat→List ZK→List AV
 | _,[]=>[]
 | j,z::zs=>anO z (aa4 sz j 0 all) (nth all (b+j))::ado all b sz (j+1) zs
def ajg (ei:P7) (n:Nat) (cs:List AV) (i:Int):Pg:=
 gL (zok ei) (gL (Nat.beq cs.length (n*ei.size)) (gL (Nat.beq ei.zero.length ei.size) (gL (alS ei.zero ei.size cs 0 cs) (l5 (0≤i∧i<n) (match ei.agg with
  | true=>.agg (ado cs (i.toNat*ei.size) ei.size 0 ei.zero)
  | false=>nth (ado cs (i.toNat*ei.size) ei.size 0 ei.zero) 0)))))
def afg:Nat→List ZK→List ZK
 | 0,_=>[]
 | n+1,z=>z++afg n z
def kQ:Nat→Nat→(Nat→AV)→List AV
 | 0,_,_=>[]
 | k+1,i,g=>(g i).cells++kQ k (i+1) g
def anP:TD→Bool
 | .str=>true
 | _=>false
def anQ:AV→Bool
 | .int .u8 _=>true
 | _=>false
def u8D:TD→Bool
 | .int .u8=>true
 | _=>false
def I7:Nat→Nat→(Nat→AV)→ByteArray→ByteArray
 | 0,_,_,s=>s
 | k+1,i,g,s=>I7 k (i+1) g (s.push (UInt8.ofNat (match g i with
  | .int _ n=>n.toNat
  | _=>0)))
def abS (src:TypeId) (x:AV):Pg:=Dg cfg src fun ei=>gL (u8D ei.desc) (Wp x fun es n g=>gL (QI es n 1) (.need (∀i,i<n→anQ (g i)=true) (jX (.str (I7 n 0 g ByteArray.empty)))))
def ajh (o n:Nat) (lo hi:Option AV):Pg:=
 match lo,hi with
 | none,none=>jX (.eH o 0 n true)
 | none,some (.int _ h)=>l5 (0≤h∧h≤n) (.eH o 0 h.toNat false)
 | _,_=>.fail
def gI (b:ByteArray) (i:Nat):Int:=match b[i]? with
 | some x=>x.toNat
 | none=>0
def anR (dU:Nat) (t t':TypeId) (d:AV) (k:Int):Pg:=UM cfg t' fun ti'=>Dg cfg t fun ti=>match ti'.desc,d with
 | .int _,.sl _ n full _=>gL (zf full n) (gL (Nat.blt 0 ti.size) (gL (Nat.blt 0 ti.bytes) (gL (zok ti) (.need (0<k∧k*ti.bytes≤big) (.ret (.eH dU 0 k.toNat false) [(dU,some (.row ti.size k.toNat (fun _=>zeroOf ti)))])))))
 | _,_=>.fail
def gT (dU:Nat) (op:Op) (ρ:Operand→AV):Pg:=
 match op with
 | .move x=>jX (ρ x)
 | .assign x=>jX (ρ x)
 | .pick c a b=>aff (ρ c) a b (ρ a) (ρ b)
 | .alloc e=>UM cfg e fun ti=>match Yx ti.desc with
  | some (n,et)=>UM cfg et fun ei=>gL (zok ei) (gL (Nat.blt 0 n) (gL (decide (ti.zero=afg n ei.zero)) (.ret (.ptr dU 0 0) [(dU,some (.row ei.size n (fun _=>zeroOf ei)))])))
  | none=>.ret (.ptr dU 0 0) [(dU,some (.box (zK ti.zero)))]
 | .box _ x=>LW (ρ x) fun cs=>.ret (.ptr dU 0 0) [(dU,some (.box cs))]
 | .build t parts=>UM cfg t fun ti=>match ti.desc with
  | .struct fs=>adi cfg fs (parts.toList.map fun p=>(p.1,ρ p.2)) (zK ti.zero) fun cs=>jX (.agg cs)
  | .array n et=>UM cfg et fun ei=>adi cfg (agS et ei.size n 0) (parts.toList.map fun p=>(p.1,ρ p.2)) (zK ti.zero) fun cs=>jX (.agg cs)
  | _=>.fail
 | .buildSlice t len parts=>Dg cfg t fun ti=>gL (zok ti) (gL (Nat.ble (len*ti.size) 4096) (R6 (parts.toList.map fun p=>(p.1,ρ p.2)) fun ps ids=>
   agN ti.size ti.agg ps (ahB len (zeroOf ti)) fun es=>
   .ret (.eH dU 0 len true) ((dU,some (.row ti.size len (Wo es)))::dead ids)))
 | .load t a=>UM cfg t fun ti=>match ρ a with
  | .ptr o i off=>.rd o fun
   | .box cs=>Aq ti (cs.drop off)
   | .row es n g=>match Yx ti.desc with
    | some _=>gL (isZ i&&isZ off) (Aq ti (kQ n 0 g))
    | none=>gL (Nat.ble (off+ti.size) es) (Aq ti ((g i).cells.drop off))
   | .map .. => .fail
  | .ro cs=>Aq ti cs
  | _=>.fail
 | .store t a x=>UM cfg t fun ti=>match ρ a with
  | .ptr o i off=>.rd o fun
   | .box cs=>LW (ρ x) fun vs=>gL (Nat.beq vs.length ti.size) (gL (Nat.ble (off+vs.length) cs.length) (.ret .undef [(o,some (.box (Gz off vs cs)))]))
   | .row es n g=>match Yx ti.desc with
    | some _=>pur fuel (ρ x) fun x' ids=>gL (!BR o ids) (LW x' fun vs=>gL (Nat.beq vs.length ti.size) (gL (Nat.beq es 1) (gL (Nat.beq n ti.size) (gL (isZ i&&isZ off) (.ret .undef ((o,some (.row 1 n (Wo vs)))::dead ids))))))
    | none=>pur fuel (ρ x) fun x' ids=>gL (!BR o ids) (LW x' fun vs=>gL (Nat.beq vs.length ti.size) (gL (Nat.blt 0 ti.size) (gL (Nat.ble (off+vs.length) es)
     (.ret .undef ((o,some (.row es n (adh g i (match isZ off&&Nat.beq vs.length es with
       | true=>x'
       | false=>match g i with
        | .agg cs=>.agg (Gz off vs cs)
        | _=>x'))))::dead ids)))))
   | .map .. => .fail
  | _=>.fail
 | .nilCheck x=>match ρ x with
  | .ptr o i off=>.rd o fun _=>jX (.ptr o i off)
  | .ro cs=>jX (.ro cs)
  | .fn f cs=>jX (.fn f cs)
  | _=>.fail
 | .binOp op t x y _=>ai2 cfg op t (ρ x) (ρ y)
 | .unOp op _ x=>match op,ρ x with
  | .not,.bool b=>jX (.bool (!b))
  | .neg,.int k n=>gL (yC k .i64) (l5 (aF (-n)) (.int .i64 (-n)))
  | _,_=>.fail
 | .convert src dst x=>UM cfg src fun _=>UM cfg dst fun ti=>match anP ti.desc with
  | true=>abS cfg src (ρ x)
  | false=>match ti.desc,ρ x with
   | .int k,.int _ n=>jX (.int k (k.wrap n))
   | _,_=>.fail
 | .makeFunc fn first captured=>match fn,first.toList with
  | .func f,[]=>jX (.fn f (captured.toList.map ρ))
  | _,_=>.fail
 | .makeSlice t l c=>Dg cfg t fun ti=>match ρ l with
  | .int _ n=>match EN (some l) (some c) with
   | true=>gL (Nat.blt 0 ti.bytes) (gL (zok ti) (.need (0≤n∧n*ti.bytes≤big) (.ret (.eH dU 0 n.toNat true) [(dU,some (.row ti.size n.toNat (fun _=>zeroOf ti)))])))
   | false=>match ρ c with
    | .int _ k=>gL (Nat.blt 0 ti.bytes) (gL (zok ti) (.need (n=0∧0≤k∧k*ti.bytes≤big) (.ret (.eH dU 0 0 false) [(dU,some (.row ti.size 0 fG))])))
    | _=>.fail
  | _=>.fail
 | .slice t x lo hi mx=>match aje cfg t with
  | some (n,et)=>UM cfg et fun ei=>gL mx.isNone (match ρ x with
   | .ptr o i off=>.rd o fun
    | .row es n' _=>gL (isZ i&&isZ off) (gL (Nat.beq es ei.size) (gL (Nat.beq n' n) (ajh o n (lo.map ρ) (hi.map ρ))))
    | _=>.fail
   | _=>.fail)
  | none=>match ρ x with
  | .eH o i n f=>Dg cfg t fun ti=>.rd o fun
   | .row es N _=>gL (Nat.beq es ti.size) (ai3 o i n N f (lo.map ρ) (hi.map ρ) (mx.map ρ))
   | _=>.fail
  | _=>ahC ρ hi mx<|Dg cfg t fun ti=>match ρ x with
   | .sl es n f g=>gL (QI es n ti.size) (X9 (.sl es n f g) (lo.map ρ) (hi.map ρ) mx.isSome mx.isSome)
   | .eH o i n f=>.rd o fun
    | .row es _ _=>gL (Nat.beq es ti.size) (X9 (.eH o i n f) (lo.map ρ) (hi.map ρ) mx.isSome mx.isSome)
    | _=>.fail
   | _=>.fail
 | .fieldAddr s x f=>UM cfg s fun ts=>match OC ts f with
  | some (o,t)=>UM cfg t fun ti=>gL (Nat.blt 0 ti.size) (match ρ x with
   | .ptr ob i off=>.rd ob fun _=>jX (.ptr ob i (off+o))
   | .ro cs=>jX (.ro (cs.drop o))
   | _=>.fail)
  | none=>.fail
 | .field s x f=>UM cfg s fun ts=>match OC ts f with
  | some (o,t)=>UM cfg t fun ti=>match ρ x with
   | .agg cs=>Aq ti (cs.drop o)
   | _=>.fail
  | none=>.fail
 | .indexAddr t x ix=>match aje cfg t with
  | some (n,et)=>UM cfg et fun ei=>match ρ ix,ρ x with
   | .int _ i,.ptr o j off=>.rd o fun
    | .row es n' _=>gL (isZ j&&isZ off) (gL (Nat.beq es ei.size) (gL (Nat.beq n' n) (l5 (0≤i∧i<n) (.ptr o i.toNat 0))))
    | _=>.fail
   | _,_=>.fail
  | none=>Dg cfg t fun ti=>match ρ ix with
  | .int _ i=>match ρ x with
   | .sl es n _ g=>gL (QI es n ti.size) (l5 (0≤i∧i<n) (.ro (g i.toNat).cells))
   | .eH o j n _=>.rd o fun
    | .row es _ _=>gL (Nat.beq es ti.size) (l5 (0≤i∧i<n) (.ptr o (addN j i.toNat) 0))
    | _=>.fail
   | _=>.fail
  | _=>.fail
 | .index t x ix=>UM cfg t fun ti=>match ti.desc,ρ x,ρ ix with
  | .str,.str b,.int _ i=>l5 (0≤i∧i<b.size) (.int .u8 (gI b i.toNat))
  | .array n et,.agg cs,.int _ i=>UM cfg et fun ei=>ajg ei n cs i
  | _,_,_=>.fail
 | .makeMap t none=>ajd cfg t fun ki ei=>.ret (.mref dU) [(dU,some (.map ki.desc ei.zero fun _=>none))]
 | .lookup t x ix false=>ajd cfg t fun ki ei=>match ρ x,keyOf (ρ ix) with
  | .mref o,some k=>gL (I6 ki.desc k) (.rd o fun
   | .map kd z f=>gL (decide (kd=ki.desc)) (gL (decide (z=ei.zero)) (gL (abR z) (jX (apw z (BS f k)))))
   | _=>.fail)
  | _,_=>.fail
 | .mapUpdate t x ix y=>ajd cfg t fun ki ei=>match ρ x,keyOf (ρ ix),anN ei.zero (ρ y) with
  | .mref o,some k,some n=>gL (I6 ki.desc k) (.rd o fun
   | .map kd z f=>gL (decide (kd=ki.desc)) (gL (decide (z=ei.zero)) (gL (abR z) (.ret .undef [(o,some (.map kd z (UN f k n)))])))
   | _=>.fail)
  | _,_,_=>.fail
 | .extract t i=>match ρ t with
  | .kH vs=>gL (Nat.blt i vs.length) (jX (nth vs i))
  | _=>.fail
 | .call c=>match c.callee with
  | .builtin .len=>match c.args.toList.map ρ,c.argTypes.toList with
   | [v],[t]=>UM cfg t fun ti=>match v,ti.desc with
    | .sl _ n _ _,.slice _=>jX (.int .i64 n)
    | .eH o _ n _,.slice _=>.rd o fun _=>jX (.int .i64 n)
    | .str s,.str=>jX (.int .i64 s.size)
    | _,_=>.fail
   | _,_=>.fail
  | .builtin .cap=>match c.args.toList.map ρ,c.argTypes.toList with
   | [.sl _ n true _],[t]=>UM cfg t fun ti=>match ti.desc with
    | .slice _=>jX (.int .i64 n)
    | _=>.fail
   | _,_=>.fail
  | .builtin .append=>match c.args.toList.map ρ,c.argTypes.toList with
   | [d,s],[t,t']=>apq s (anR cfg dU t t' d)
    (Dg cfg t' fun _=>Dg cfg t fun ti=>gL (Nat.blt 0 ti.size) (gL (Nat.blt 0 ti.bytes) (match isSelf d s with | true=>abO ti d s | false=>adj ti dU d s)))
   | _,_=>.fail
  | .builtin .copy=>match c.args.toList.map ρ,c.argTypes.toList with
   | [d,s],[t,t']=>Dg cfg t' fun _=>Dg cfg t fun ti=>gL (Nat.blt 0 ti.size) (ai4 ti d s)
   | _,_=>.fail
  | .builtin .clear=>match c.args.toList.map ρ,c.argTypes.toList with
   | [.eH o i n _],[t]=>Dg cfg t fun ti=>gL (zok ti) (.rd o fun
    | .row es N g=>gL (Nat.beq es ti.size) (.ret .undef [(o,some (.row es N (cpG i n g (fun _=>zeroOf ti))))])
    | _=>.fail)
   | _,_=>.fail
  | .builtin .min=>match c.args.toList.map ρ with
   | [.int k a,.int _ b]=>jX (.int k (if b<a then b else a))
   | _=>.fail
  | .builtin .max=>match c.args.toList.map ρ with
   | [.int k a,.int _ b]=>jX (.int k (if b > a then b else a))
   | _=>.fail
  | .builtin _=>.fail
  | .value f=>match ρ f with
   | .fn g caps=>ajc cfg dU g (c.args.toList.map ρ++caps)
   | _=>.fail
  | .invoke _ _=>.fail
 | _=>.fail
def Yc (T:Nat→AV):Operand→AV
 | .tmp t=>T t
 | .const v=>ofConst v
 | .global g=>match look cfg.glob g with | some cs=>.ro cs | none=>.undef
 | .func f=>.fn f []
end ops
abbrev ou:=FuncId→List AV→List dY→AV→List dY→Prop
structure Log where
 zL:List Nat
 wrs:List Nat
structure St where
 tmps:List (Nat×AV)
 heap:lC
 nx:Nat
abbrev PC:=List (Bool×Bool)
def ahH:PC→Prop→(Prop→Prop)→Prop
 | [],p,K=>K p
 | (c,b)::l,p,K=>ahH l (c=b→p) K
section run
variable (cfg:xV) (Sp:ou)
def ids:lC→List Nat
 | []=>[]
 | (o,_)::l=>o::ids l
def ev (pc:PC) (H:Nat→Option dY):Pg→List Nat→(AV→lC→List Nat→Prop)→Prop
 | .ret v ups,zL,K=>force v fun v'=>Df ups fun vM=>K v' vM zL
 | @Pg.need p _ k,zL,K=>ahH pc p fun p'=>p'∧ev pc H k zL K
 | .rd o k,zL,K=>match H o with
  | some x=>ev pc H (k x) (o::zL) K
  | none=>ahH pc False fun p'=>p'∧K .undef [] zL
 | .call f args obs k,zL,K=>∃r fO,ahH pc (Sp f args obs r fO) fun p'=>p'∧ev pc H (k r fO) zL K
 | .fail,zL,K=>ahH pc False fun p'=>p'∧K .undef [] zL
def agT:Op→Bool
 | .move _ | .assign _ | .pick .. | .build .. | .load .. | .nilCheck _ | .binOp .. | .unOp .. | .convert .. | .makeFunc .. | .slice .. | .fieldAddr .. | .field .. | .indexAddr .. | .index .. | .lookup .. | .extract .. => true
 | .call c=>match c.callee with
  | .builtin .len | .builtin .min | .builtin .max=>true
  | .value (.func f)=>match (alN cfg f).muts,(alN cfg f).frz with | [],false=>true | _,_=>false
  | _=>false
 | _=>false
def Yy (c:Bool) (A B:Prop):Prop:=match c with | true=>A | false=>B
def aa5:List Oper→Nat→Option Oper
 | [],_=>none
 | o::_,0=>some o
 | _::l,n+1=>aa5 l n
def Wq (all:List Oper) (j:Nat):Option Nat:=match aa5 all j with
 | some o=>o.dst
 | none=>none
def aji (ups H:lC) (K:lC→Prop):Prop:=
 match ups with
 | []=>K H
 | u::l=>aji l H fun H'=>K (u::H')
def ajj (dst:Option Nat) (v u:AV) (T U:List (Nat×AV)) (K:List (Nat×AV)→List (Nat×AV)→Prop):Prop:=
 match dst with
 | some d=>K ((d,v)::T) ((d,u)::U)
 | none=>K T U
def L9:List PC→Nat→PC
 | [],_=>[]
 | p::_,0=>p
 | _::l,n+1=>L9 l n
def afi:List PC→Nat→(PC→Prop)→Prop
 | [],_,K=>K []
 | p::_,0,K=>K p
 | _::l,n+1,K=>afi l n K
def QJ:List PC→PC→(List PC→Prop)→Prop
 | [],p,K=>K [p]
 | q::l,p,K=>QJ l p fun l'=>K (q::l')
def isNone {α:Type}:Option α→Bool
 | none=>true
 | some _=>false
def adp (all:List Oper) (nx:Nat):List Oper→Nat→List (Nat×AV)→List (Nat×AV)→lC→List PC→List Log→(St→List Log→Prop)→Prop
 | [],i,_,U,H,_,log,K=>K ⟨U,H,nx+stride*i⟩ log
 | o::rest,i,T,U,H,pcs,log,K=>
  match o.guard with
  | none=>ev Sp [] (hget H) (gT cfg (nx+stride*i) o.op (Yc cfg (iN T))) [] fun v ups zL=>
    ajj o.dst v v T U fun T' U'=>aji ups H fun H'=>QJ pcs [] fun afj=>adp all nx rest (i+1) T' U' H' afj (⟨zL,ids ups⟩::log) K
  | some (j,b)=>match Wq all j with
   | some d=>match iN T d with
    | .bool c=>match agT cfg o.op with
     | true=>afi pcs j fun pcj=>ev Sp ((c,b)::pcj) (hget H) (gT cfg (nx+stride*i) o.op (Yc cfg (iN T))) [] fun v ups zL=>
      match ups with
      | []=>ajj o.dst v .undef T U fun T' U'=>QJ pcs ((c,b)::pcj) fun afj=>adp all nx rest (i+1) T' U' H afj (⟨zL,[]⟩::log) K
      | _::_=>False
     | false=>match L9 pcs j with
      | []=>Yy (c==b)
       (ev Sp [] (hget H) (gT cfg (nx+stride*i) o.op (Yc cfg (iN T))) [] fun v ups zL=>
         ajj o.dst v v T U fun T' U'=>aji ups H fun H'=>QJ pcs [] fun afj=>adp all nx rest (i+1) T' U' H' afj (⟨zL,ids ups⟩::log) K)
       (ajj o.dst .undef .undef T U fun T' U'=>QJ pcs [(c,b)] fun afj=>adp all nx rest (i+1) T' U' H afj (⟨[],[]⟩::log) K)
      | _::_=>False
    | _=>False
   | none=>False
def Yz (all:List Oper) (i:Nat):Option (Nat×Bool):=match aa5 all i with
 | some o=>o.guard
 | none=>none
def chain (all:List Oper):Nat→Option (Nat×Bool)→List (Nat×Bool)
 | 0,_=>[]
 | _+1,none=>[]
 | f+1,some (j,b)=>(j,b)::chain all f (Yz all j)
def agU (d:Option Nat) (t:Nat):Bool:=match d with
 | some x=>Nat.beq x t
 | none=>false
def uY (t:Nat):List Oper→Nat→List Nat
 | [],_=>[]
 | o::l,i=>match agU o.dst t with
  | true=>i::uY t l (i+1)
  | false=>uY t l (i+1)
def writers (all:List Oper) (t:Nat):List Nat:=uY t all 0
def Yd (all:List Oper):List Nat→Bool
 | []=>true
 | i::l=>match Yz all i with
  | none=>Yd all l
  | some _=>false
def eqB:Bool→Bool→Bool
 | true,true=>true
 | false,false=>true
 | _,_=>false
def alT (j:Nat) (b:Bool):List (Nat×Bool)→Bool
 | []=>false
 | (j',b')::l=>match Nat.beq j j',eqB b b' with
  | true,true=>true
  | _,_=>alT j b l
def abT (all:List Oper) (k:Nat) (g:Option (Nat×Bool)) (t:Nat):Bool:=
 match writers all t with
 | [i]=>match Yz all i with
  | none=>true
  | some (j,b)=>match Nat.blt i k with
   | true=>alT j b (chain all 20 g)
   | false=>false
 | l=>Yd all l
def agV (all:List Oper) (k:Nat) (g:Option (Nat×Bool)) (c:Operand) (pol:Bool) (x:Operand):Bool:=
 match x with
 | .tmp t=>match abT all k g t with
  | true=>true
  | false=>match c,writers all t with
   | .tmp ct,[i]=>match Yz all i,writers all ct,Nat.blt i k with
    | some (j,b),[jc],true=>match Nat.beq j jc,Nat.blt jc k with
     | true,true=>eqB b pol
     | _,_=>false
    | _,_,_=>false
   | _,_=>false
 | _=>true
def OE (all:List Oper) (k:Nat) (g:Option (Nat×Bool)):Operand→Bool
 | .tmp t=>abT all k g t
 | _=>true
def I8 (all:List Oper) (k:Nat) (g:Option (Nat×Bool)):List Operand→Bool
 | []=>true
 | x::l=>match OE all k g x with
  | true=>I8 all k g l
  | false=>false
def adq (all:List Oper) (k:Nat) (o:Oper):Bool:=
 match (match o.guard with
  | none=>true
  | some (j,_)=>match Nat.blt j k with
   | true=>match Wq all j with
    | some d=>match writers all d with
         | [j']=>Nat.beq j' j
         | _=>false
    | none=>false
   | false=>false) with
 | true=>match o.op with
  | .pick c x y=>match OE all k o.guard c,agV all k o.guard c true x with
   | true,true=>agV all k o.guard c false y
   | _,_=>false
  | op=>I8 all k o.guard op.operands.toList
 | false=>false
def rM (N:Nat) (all:List Oper):List Oper→Nat→Bool
 | [],_=>true
 | o::l,k=>match adq all k o,(match o.dst with | some d=>Nat.blt d N | none=>true) with
  | true,true=>rM N all l (k+1)
  | _,_=>false
def before (all:List Oper):Nat→Nat→Nat→Bool
 | 0,_,_=>false
 | f+1,i,j=>match aa5 all j with
  | some o=>o.after.toList.any fun e=>Region.binds .any e&&Nat.blt e.on j&&(Nat.beq e.on i||before all f i e.on)
  | none=>false
def looks (all:List Oper) (o:Oper):List Nat:=
 (o.op.operands.toList.filterMap fun | .tmp t=>some t | _=>none)++(match o.guard with | some (j,_)=>(Wq all j).toList | none=>[])
def isIn (d:Option Nat) (l:List Nat):Bool:=match d with
 | some x=>BR x l
 | none=>false
def YA (all:List Oper) (x y:Oper):Bool:=!isIn x.dst (looks all y)&&!isIn y.dst (looks all x)&&!isIn x.dst y.dst.toList
def Ma (all:List Oper) (j:Nat) (oj:Oper):List Oper→Nat→Bool
 | [],_=>true
 | o::l,i=>match Nat.blt i j with
  | true=>(YA all o oj||before all 40 i j)&&Ma all j oj l (i+1)
  | false=>true
def abU (o:Oper) (k:Nat):Bool:=o.after.toList.all fun e=>!Region.binds .any e||Nat.blt e.on k
def UO (all:List Oper):List Oper→Nat→Bool
 | [],_=>true
 | o::l,j=>abU o j&&Ma all j o all 0&&UO all l (j+1)
def ajk (N:Nat) (all:List Oper) (draw:Bool):Bool:=rM N all all 0&&(!draw||UO all all 0)
def iZ (N:Nat):Code→Bool
 | .region _ ops draw=>ajk N ops.toList draw
 | .seq a b=>iZ N a&&iZ N b
 | .cond _ a b=>iZ N a&&iZ N b
 | .block _ a=>iZ N a
 | .loop a=>iZ N a
 | .rangeFunc _ _ a b=>iZ N a&&iZ N b
 | .skip | .exit _ | .ret=>true
 | _=>false
def meets (l m:List Nat):Bool:=match l with
 | []=>false
 | x::l'=>match BR x m with
  | true=>true
  | false=>meets l' m
def UQ (all:List Oper) (j:Nat) (x:Log):List Log→Nat→Bool
 | [],_=>true
 | _::_,0=>true
 | y::l,i+1=>match meets x.wrs y.zL,meets y.wrs x.zL,meets y.wrs x.wrs with
  | false,false,false=>UQ all j x l i
  | _,_,_=>match before all 40 i j with
   | true=>UQ all j x l i
   | false=>false
def IX (all:List Oper):List Log→Nat→Bool
 | [],_=>true
 | _::_,0=>true
 | x::l,j+1=>match UQ all j x l j with
  | true=>IX all l j
  | false=>false
def Ye:Code→Nat
 | .region id _ _=>id
 | .seq a _=>Ye a
 | .block _ a=>Ye a
 | .loop a=>Ye a
 | _=>1000000
def lD (ct:List Nat) (L:Code→St→(Exit→St→Prop)→Prop):Code→St→(Exit→St→Prop)→Prop
 | .skip,s,K=>K .normal s
 | .region _ ops draw,⟨T,H,nx⟩,K=>adp cfg Sp ops.toList nx ops.toList 0 T T H [] [] fun s' log=>
  match draw with
  | true=>match IX ops.toList log ops.toList.length with
   | true=>K .normal s'
   | false=>False
  | false=>K .normal s'
 | .seq a b,s,K=>match BR (Ye b) ct with
  | true=>L (.seq a b) s K
  | false=>lD ct L a s fun e s'=>match e with
   | .normal=>lD ct L b s' K
   | e=>K e s'
 | .cond c x y,s,K=>match Yc cfg (iN s.tmps) c with
  | .bool b=>Yy b (lD ct L x s K) (lD ct L y s K)
  | _=>False
 | .block id c,s,K=>lD ct L c s fun e s'=>match e with
  | .exit i=>match Nat.beq i id with
   | true=>K .normal s'
   | false=>K (.exit i) s'
  | e=>K e s'
 | .loop c,s,K=>L (.loop c) s K
 | .rangeFunc g ps a b,s,K=>L (.rangeFunc g ps a b) s K
 | .exit id,s,K=>K (.exit id) s
 | .ret,s,K=>K .ret s
 | _,_,_=>False
end run
inductive Le:AV→AV→Prop
 | refl (v:AV):Le v v
 | sl {es es' n n':Nat} {f f':Bool} {g g':Nat→AV} (hn:n=n') (he:n≠0→es=es') (hf:f'=true→f=true) (h:∀i,i<n→Le (g i) (g' i)):Le (.sl es n f g) (.sl es' n' f' g')
 | ro {cs cs':List AV} (hl:cs.length=cs'.length) (h:∀j,j<cs.length→Le (nth cs j) (nth cs' j)):Le (.ro cs) (.ro cs')
 | agg {cs cs':List AV} (hl:cs.length=cs'.length) (h:∀j,j<cs.length→Le (nth cs j) (nth cs' j)):Le (.agg cs) (.agg cs')
 | kH {cs cs':List AV} (hl:cs.length=cs'.length) (h:∀j,j<cs.length→Le (nth cs j) (nth cs' j)):Le (.kH cs) (.kH cs')
 | fn {f:FuncId} {cs cs':List AV} (hl:cs.length=cs'.length) (h:∀j,j<cs.length→Le (nth cs j) (nth cs' j)):Le (.fn f cs) (.fn f cs')
def QK:List AV→List AV→Prop
 | [],[]=>True
 | u::l,v::m=>Le u v∧QK l m
 | _,_=>False
def LeO:dY→dY→Prop
 | .box cs,.box cs'=>QK cs cs'
 | .row es n g,.row es' n' g'=>es=es'∧n=n'∧∀i,i<n→Le (g i) (g' i)
 | _,_=>False
def anT:List dY→List dY→Prop
 | [],[]=>True
 | x::l,y::m=>LeO x y∧anT l m
 | _,_=>False
def tC (ρ:List (Nat×Option Nat)) (o:Nat):Option Nat:=match look ρ o with
 | some x=>x
 | none=>some o
def YB (H:lC) (o:Nat):Bool:=match hget H o with
 | some _=>true
 | none=>false
def mR (ρ:List (Nat×Option Nat)) (H':lC):Nat→AV→AV→Prop
 | 0,_,_=>False
 | f+1,u,v=>match v with
  | .undef=>True
  | .bool b'=>match u with | .bool b=>b=b' | _=>False
  | .int k' n'=>match u with | .int k n=>k=k'∧n=n' | _=>False
  | .str s'=>match u with | .str s=>s=s' | _=>False
  | .Ey=>match u with | .Ey=>True | _=>False
  | .mref o'=>match u with | .mref o=>YB H' o'=true∧tC ρ o'=some o | _=>False
  | .sl es' n' f' g'=>match u with
   | .sl es n fu g=>n=n'∧(n≠0→es=es')∧(f'=true→fu=true)∧∀i,i<n→Le (g i) (g' i)
   | _=>False
  | .ro cs'=>match u with | .ro cs=>QK cs cs' | _=>False
  | .ptr o' i' off'=>match u with
   | .ptr o i off=>YB H' o'=true∧tC ρ o'=some o∧i=i'∧off=off'
   | _=>False
  | .eH o' i' n' f'=>match u with
   | .eH o i n fu=>YB H' o'=true∧tC ρ o'=some o∧i=i'∧n=n'∧(f'=true→fu=true)
   | .sl _ n fu _=>YB H' o'=true∧tC ρ o'=none∧fu=true∧n=0∧i'=0∧n'=0
   | _=>False
  | .agg cs'=>match u with | .agg cs=>R7 f cs cs' | _=>False
  | .fn f' cs'=>match u with | .fn fu cs=>fu=f'∧R7 f cs cs' | _=>False
  | .kH cs'=>match u with | .kH cs=>R7 f cs cs' | _=>False
 where
 R7:Nat→List AV→List AV→Prop
  | 0,_,_=>False
  | _+1,[],[]=>True
  | f+1,u::l,v::m=>mR ρ H' f u v∧R7 f l m
  | _+1,_,_=>False
def anU (ρ:List (Nat×Option Nat)) (H':lC) (T:List (Nat×AV)):List (Nat×AV)→Prop
 | []=>True
 | (t,v)::l=>mR ρ H' fuel (iN T t) v∧anU ρ H' T l
def adr (ρ:List (Nat×Option Nat)) (H':lC) (x y:dY):Prop:=
 match x,y with
 | .box cs,.box cs'=>mR.R7 ρ H' fuel cs cs'
 | .row es n g,.row es' n' g'=>es=es'∧n=n'∧∀i,i<n→Le (g i) (g' i)
 | .map kd z f,.map kd' z' f'=>kd=kd'∧z=z'∧f=f'
 | _,_=>False
def ajl (ρ:List (Nat×Option Nat)) (H' H:lC):lC→Prop
 | []=>True
 | (_,none)::l=>ajl ρ H' H l
 | (o',some y)::l=>(match tC ρ o' with
  | some o=>match hget H o with
   | some x=>adr ρ H' x y
   | none=>False
  | none=>match y with
   | .row _ n _=>n=0
   | _=>False)∧ajl ρ H' H l
def YC (ρ:List (Nat×Option Nat)):lC→List Nat
 | []=>[]
 | (_,none)::l=>YC ρ l
 | (o',some _)::l=>match tC ρ o' with
  | some o=>o::YC ρ l
  | none=>YC ρ l
def QL (m nx:Nat) (ρ:List (Nat×Option Nat)):lC→Bool
 | []=>true
 | (o',_)::l=>match Nat.blt o' nx with
  | true=>match tC ρ o' with
   | some o=>match Nat.beq o o' with
    | true=>QL m nx ρ l
    | false=>match Nat.ble m o' with
     | true=>QL m nx ρ l
     | false=>false
   | none=>match Nat.ble m o' with
    | true=>QL m nx ρ l
    | false=>false
  | false=>false
def anj:lC→Bool
 | []=>true
 | (o,_)::l=>match look l o with
  | some _=>false
  | none=>anj l
def afk (m:Nat) (ρ:List (Nat×Option Nat)) (s':St):Bool:=
 match QL m s'.nx ρ s'.heap,oJ (YC ρ s'.heap),anj s'.heap with
 | true,true,true=>Nat.ble m s'.nx
 | _,_,_=>false
structure Emb (m:Nat) (ρ:List (Nat×Option Nat)) (s s':St):Prop where
 IX:afk m ρ s'=true
 tmps:anU ρ s'.heap s.tmps s'.tmps
 heap:ajl ρ s'.heap s.heap s'.heap
def upTo:Nat→Nat→List Nat
 | 0,_=>[]
 | n+1,i=>i::upTo n (i+1)
def J7 (cfg:xV) (s:St):List ResultVar→Option (List AV)
 | []=>some []
 | .tmp t::l=>match J7 cfg s l with
  | some vs=>some (iN s.tmps t::vs)
  | none=>none
 | .cell ad ty::l=>match J7 cfg s l,iN s.tmps ad,look cfg.ty ty with
  | some vs,.ptr o 0 0,some ti=>match hget s.heap o with
   | some (.box cs)=>match ti.agg with
    | true=>match Nat.ble ti.size cs.length with
     | true=>some (.agg (cs.take ti.size)::vs)
     | false=>none
    | false=>match cs with
     | c::_=>some (c::vs)
     | []=>none
   | some (.row _ n g)=>match Yx ti.desc,ti.agg with
    | some _,true=>match kQ n 0 g with
     | cs=>match Nat.ble ti.size cs.length with
      | true=>some (.agg (cs.take ti.size)::vs)
      | false=>none
    | _,_=>none
   | _=>none
  | _,_,_=>none
def oneOf:List AV→AV
 | [v]=>v
 | vs=>.kH vs
def abV (m:Nat) (r:AV):AV→List Nat
 | .ptr o _ _=>match Nat.ble m o with
  | true=>[o]
  | false=>[]
 | .eH o _ _ _=>match r with
  | .eH .. => match Nat.ble m o with
   | true=>[o]
   | false=>[]
  | _=>[]
 | _=>[]
def YD (H:lC):List Nat→List dY→Prop
 | [],[]=>True
 | o::l,y::ys=>(match hget H o with
  | some x=>match Ya x with
   | true=>adr [] [] x y
   | false=>False
  | none=>False)∧YD H l ys
 | _,_=>False
def I9 (cfg:xV) (Sp:ou) (rs:List ResultVar) (m:Nat) (r:AV) (fO:List dY) (e:Exit) (s:St):Prop:=
 match (match e with | .normal=>true | .ret=>true | _=>false) with
 | true=>match J7 cfg s rs with
  | some vs=>match oneOf vs with
   | v=>match upTo m 0++abV m r v with
    | sg=>ev Sp [] (hget s.heap) (OD sg v fun v' ids=>gL (oJ sg) (gL (LZ ids sg) (jX v'))) [] fun v' _ _=>mR [] (oK fO 0) fuel v' r∧YD s.heap sg fO
  | none=>False
 | false=>False
 where oK:List dY→Nat→lC
 | [],_=>[]
 | x::l,i=>(i,some x)::oK l (i+1)
def YE:List dY→Nat→lC
 | [],_=>[]
 | x::l,i=>(i,gz x)::YE l (i+1)
def J8:List AV→Nat→List (Nat×AV)
 | [],_=>[]
 | v::l,i=>(i,v)::J8 l (i+1)
end Go.Ab
namespace Go.Ab
inductive iG (w:World) (I:Nat→Prop):AV→Value→Prop
 | undef (x:Value):iG w I .undef x
 | bool (b:Bool):iG w I (.bool b) (.bool b)
 | int (k:IntKind) (n:Int):iG w I (.int k n) (.int k n)
 | str (s:ByteArray):iG w I (.str s) (.string s)
 | Ey:iG w I .Ey (.pointer none)
 | sl {es n:Nat} {full:Bool} {g:Nat→AV} {a:Option Addr} {cap:Nat} (b off:Nat) (vs:Nat→Nat→Value)
   (hcap:n≤cap) (hfull:full=true→cap=n) (ha:n≠0→a=some ⟨b,off,none⟩∧I b)
   (hes:∀i,i<n→(g i).cells.length=es)
   (hm:∀i j,i<n→j<es→w.cell? ⟨b,off+(i*es+j),none⟩=some (vs i j))
   (h1:∀i j,i<n→j<es→(vs i j).oneCell'=true)
   (hr:∀i j,i<n→j<es→iG w I (nth (g i).cells j) (vs i j)):iG w I (.sl es n full g) (.slice a n cap)
 | ro {cs:List AV} (b off:Nat) (vs:Nat→Value) (hI:I b)
   (hm:∀j,j<cs.length→w.cell? ⟨b,off+j,none⟩=some (vs j))
   (hr:∀j,j<cs.length→iG w I (nth cs j) (vs j)):iG w I (.ro cs) (.pointer (some ⟨b,off,none⟩))
 | agg {cs:List AV} {vs:Array Value} (hl:vs.size=cs.length) (hr:∀j,j<cs.length→iG w I (nth cs j) (vs.getD j Go.undef)):iG w I (.agg cs) (.agg vs)
 | fn {f:FuncId} {cs:List AV} {vs:Array Value} (hl:vs.size=cs.length) (hr:∀j,j<cs.length→iG w I (nth cs j) (vs.getD j Go.undef)):iG w I (.fn f cs) (.func (.func f) #[] vs)
 | kH {cs:List AV} {vs:Array Value} (hl:vs.size=cs.length) (hr:∀j,j<cs.length→iG w I (nth cs j) (vs.getD j Go.undef)):iG w I (.kH cs) (.tuple vs)
structure Own where
 es:Nat
 n:Nat
 pl:Option (Nat×Nat×Nat)
abbrev OM:=Nat→Option Own
inductive eT (w:World) (I:Nat→Prop) (O:OM) (D:Nat→Prop):AV→Value→Prop
 | pure {v:AV} {x:Value} (h:iG w I v x):eT w I O D v x
 | ptr {o i off b bo sz:Nat} {p:Own} (ho:O o=some p) (hp:p.pl=some (b,bo,sz)) (hi:i<p.n):eT w I O D (.ptr o i off) (.pointer (some ⟨b,bo+(i*p.es+off),none⟩))
 | eH {o i n:Nat} {full:Bool} {p:Own} {a:Option Addr} {cap:Nat} (ho:O o=some p) (hi:i+n≤p.n) (hcap:n≤cap) (hfull:full=true→cap=n)
   (hpl:cap≠0→∃b bo sz,p.pl=some (b,bo,sz)∧a=some ⟨b,bo+i*p.es,none⟩∧bo+(i+cap)*p.es≤sz) (hext:p.n≤i+cap):eT w I O D (.eH o i n full) (.slice a n cap)
 | mref {o b bo sz:Nat} {p:Own} (ho:O o=some p) (hp:p.pl=some (b,bo,sz)):eT w I O D (.mref o) (.map (some b))
 | R8 {o:Nat} {x:Value} (ho:O o=none) (hd:D o) (h1:x.oneCell'=true):eT w I O D (.mref o) x
 | Di {o i off:Nat} {x:Value} (ho:O o=none) (hd:D o) (h1:x.oneCell'=true):eT w I O D (.ptr o i off) x
 | Bv {o i n:Nat} {full:Bool} {x:Value} (ho:O o=none) (hd:D o) (h1:x.oneCell'=true):eT w I O D (.eH o i n full) x
 | agg {cs:List AV} {vs:Array Value} (hl:vs.size=cs.length) (hr:∀j,j<cs.length→eT w I O D (nth cs j) (vs.getD j Go.undef)):eT w I O D (.agg cs) (.agg vs)
 | fn {f:FuncId} {cs:List AV} {vs:Array Value} (hl:vs.size=cs.length) (hr:∀j,j<cs.length→eT w I O D (nth cs j) (vs.getD j Go.undef)):eT w I O D (.fn f cs) (.func (.func f) #[] vs)
 | kH {cs:List AV} {vs:Array Value} (hl:vs.size=cs.length) (hr:∀j,j<cs.length→eT w I O D (nth cs j) (vs.getD j Go.undef)):eT w I O D (.kH cs) (.tuple vs)
def Mc (w:World) (b sz:Nat):Prop:=∀j,j<sz→(w.cell? ⟨b,j,none⟩).isSome=true∧w.frozen? ⟨b,j,none⟩=false
def cellAt (w:World) (b j:Nat):Value:=(w.cell? ⟨b,j,none⟩).getD Go.undef
def Md:qo→Value
 | .s b=>.string b
 | .i n=>.int .i64 n
def Xg (z:List ZK) (n:Int):Value:=match z with
 | [.bool]=>.bool (n != 0)
 | [.int k]=>.int k n
 | _=>Go.undef
structure afl (kd:TD) (z:List ZK) (f:qo→Option Int) (es:Array MapEntry):Prop where
 keys:∀e∈es.toList,∃k n,e.key=Md k∧I6 kd k=true∧f k=some n∧e.val=Xg z n
 uniq:es.toList.Pairwise fun e e'=>e.key≠e'.key
 all:∀k n,f k=some n→∃e∈es.toList,e.key=Md k
def iY (w:World) (I:Nat→Prop) (O:OM) (D:Nat→Prop) (p:Own):dY→Prop
 | .box cs=>p.n=1∧∃b bo sz,p.pl=some (b,bo,sz)∧Mc w b sz∧bo+cs.length≤sz∧∀j,j<cs.length→eT w I O D (nth cs j) (cellAt w b (bo+j))
 | .row es n g=>p.n=n∧p.es=es∧(∀i,i<n→(g i).cells.length=es)∧((n=0∧p.pl=none)∨
   ∃b bo sz,p.pl=some (b,bo,sz)∧Mc w b sz∧bo+n*es≤sz∧∀i j,i<n→j<es→iG w I (nth (g i).cells j) (cellAt w b (bo+(i*es+j)))∧(cellAt w b (bo+(i*es+j))).oneCell'=true)
 | .map kd z f=>p.n=1∧∃b bo sz es clock,p.pl=some (b,bo,sz)∧w.heap[b]? = some (.map es clock)∧afl kd z f es
structure Ctx where
 w0:World
 M:Nat→Prop
 I0:Nat→Prop
 O0:OM
 m:Nat
 K:Nat→Obj→Prop
 rd:Bool
def OG:Obj→Bool
 | .cells .. => false
 | _=>true
structure iF (w' w:World):Prop where
 os:w'.os=w.os
 tape:w'.tape=w.tape
 output:w'.output=w.output
 keep:∀(k:Nat) (o:Obj),w.heap[k]? = some o→OG o=true→w'.heap[k]? = some o
theorem iF.refl (w:World):iF w w:=⟨rfl,rfl,rfl,fun _ _ h _=>h⟩
theorem iF.trans {a b c:World} (h:iF a b) (k:iF b c):iF a c:=⟨h.os.trans k.os,h.tape.trans k.tape,h.output.trans k.output,fun i o hi ho=>h.keep i o (k.keep i o hi ho) ho⟩
theorem iF.heap {w w':World} (h1:w'.os=w.os) (h2:w'.tape=w.tape) (h3:w'.output=w.output) (h:w'.heap=w.heap):iF w' w:=⟨h1,h2,h3,fun i o hi _=>by rw [h]; exact hi⟩
theorem iF.alloc (w:World) (o:Obj):iF (w.alloc o) w:=⟨rfl,rfl,rfl,fun i x hi _=>by
 have hlt:i<w.heap.size:=by
  rcases Nat.lt_or_ge i w.heap.size with h | h
  ·exact h
  ·rw [Array.getElem?_eq_none h] at hi; cases hi
 show (w.heap.push o)[i]? = some x;rw [Array.getElem?_push_lt hlt,← hi,Array.getElem?_eq_getElem hlt]⟩
structure GI (cx:Ctx) (w:World):Prop where
 same:iF w cx.w0
 kept:∀k o,cx.K k o→w.heap[k]? = some o∧OG o=true
theorem GI.step {cx:Ctx} {w w':World} (h:GI cx w) (he:iF w' w):GI cx w':=⟨he.trans h.same,fun k o hk=>⟨he.keep k o (h.kept k o hk).1 (h.kept k o hk).2,(h.kept k o hk).2⟩⟩
structure Rel (cfg:xV) (cx:Ctx) (H:Nat→Option dY) (D:Nat→Prop) (w:World) (I:Nat→Prop) (O:OM):Prop where
 dom:∀o,O o=none↔H o=none
 used:∀o p,O o=some p→D o
 objs:∀o ob p,H o=some ob→O o=some p→iY w I O D p ob
 inj:∀o o' p p' b bo sz b' pQ sz',O o=some p→O o'=some p'→p.pl=some (b,bo,sz)→p'.pl=some (b',pQ,sz')→o≠o'→b≠b'
 pR:∀o p b bo sz,O o=some p→p.pl=some (b,bo,sz)→¬ I b
 lt:∀o p b bo sz,O o=some p→p.pl=some (b,bo,sz)→b<w.heap.size
 Au:∀b,I b→b<w.heap.size
 size:cx.w0.heap.size≤w.heap.size
 frame:∀b,b<cx.w0.heap.size→¬ cx.M b→w.heap[b]? = cx.w0.heap[b]?
 new:∀o p b bo sz,O o=some p→p.pl=some (b,bo,sz)→cx.w0.heap.size≤b∨cx.M b
 glob:∀g cs,look cfg.glob g=some cs→iG w I (.ro cs) (.pointer (some ⟨g,0,none⟩))
 R9:∀b,cx.I0 b→I b
 Ws:∀b,I b→cx.I0 b∨cx.w0.heap.size≤b∨cx.M b
 YF:∀o,o<cx.m→O o=cx.O0 o∨O o=none
 Dm:∀o,o<cx.m→D o
 env:GI cx w
 maps:∀o kd z f p b bo sz,H o=some (.map kd z f)→O o=some p→p.pl=some (b,bo,sz)→cx.w0.heap.size≤b∧∀ob,¬ cx.K b ob
theorem uJ (l:List AV) (i:Nat):nth l i=l.getD i .undef:=by
 induction l generalizing i with
 | nil=>simp [nth]
 | cons v l ih=>cases i<;>simp [nth,ih]
theorem cell?_of_heap {w w':World} {b off:Nat} (h:w'.heap[b]? = w.heap[b]?):w'.cell? ⟨b,off,none⟩=w.cell? ⟨b,off,none⟩:=by
 simp [World.cell?, h]
theorem frozen?_of_heap {w w':World} {b off:Nat} (h:w'.heap[b]? = w.heap[b]?):w'.frozen? ⟨b,off,none⟩=w.frozen? ⟨b,off,none⟩:=by
 simp [World.frozen?, h]
theorem iG.mono {w w':World} {I I':Nat→Prop} (hI:∀b,I b→I' b) (hw:∀b,I b→w'.heap[b]? = w.heap[b]?) {v:AV} {x:Value} (h:iG w I v x):iG w' I' v x:=by
 induction h with
 | undef x=>exact .undef x
 | bool b=>exact .bool b
 | int k n=>exact .int k n
 | str s=>exact .str s
 | Ey=>exact .Ey
 | @sl es n full g a cap b off vs hcap hfull ha hes hm h1 hr ih=>
  refine .sl b off vs hcap hfull (fun h=>⟨(ha h).1,hI _ (ha h).2⟩) hes (fun i j hi hj=>?_) h1 ih;rw [cell?_of_heap (hw _ (ha om).2)];exact hm i j hi hj
 | ro b off vs h1 hm hr ih=>
  refine .ro b off vs (hI _ h1) (fun j hj=>?_) ih;rw [cell?_of_heap (hw _ h1)];exact hm j hj
 | agg hl hr ih=>exact .agg hl ih
 | fn hl hr ih=>exact .fn hl ih
 | kH hl hr ih=>exact .kH hl ih
theorem eT.mono {w w':World} {I I':Nat→Prop} {O O':OM} {D D':Nat→Prop} (hI:∀b,I b→I' b) (hw:∀b,I b→w'.heap[b]? = w.heap[b]?)
  (hO:∀o,D o→O' o=O o∨O' o=none) (hD:∀o,D o→D' o) (hu:∀o p,O o=some p→D o) {v:AV} {x:Value} (h:eT w I O D v x):eT w' I' O' D' v x:=by
 induction h with
 | pure h=>exact .pure (h.mono hI hw)
 | @ptr o i off b bo sz p ho hp hi=>
  rcases hO o (hu o p ho) with h | h
  ·exact .ptr (h.trans ho) hp hi
  ·exact .Di h (hD _ (hu o p ho)) rfl
 | @eH o i n full p a cap ho hi hcap hfull hpl hext=>
  rcases hO o (hu o p ho) with h | h
  ·exact .eH (h.trans ho) hi hcap hfull hpl hext
  ·exact .Bv h (hD _ (hu o p ho)) rfl
 | @mref o b bo sz p ho hp=>
  rcases hO o (hu o p ho) with h | h
  ·exact .mref (h.trans ho) hp
  ·exact .R8 h (hD _ (hu o p ho)) rfl
 | @R8 o x ho hd h1=>
  rcases hO o hd with h | h
  ·exact .R8 (h.trans ho) (hD _ hd) h1
  ·exact .R8 h (hD _ hd) h1
 | @Di o i off x ho hd h1=>
  rcases hO o hd with h | h
  ·exact .Di (h.trans ho) (hD _ hd) h1
  ·exact .Di h (hD _ hd) h1
 | @Bv o i n full x ho hd h1=>
  rcases hO o hd with h | h
  ·exact .Bv (h.trans ho) (hD _ hd) h1
  ·exact .Bv h (hD _ hd) h1
 | agg hl hr ih=>exact .agg hl ih
 | fn hl hr ih=>exact .fn hl ih
 | kH hl hr ih=>exact .kH hl ih
def Me:ZK→Value→Prop
 | .bool,x=>x=.bool false
 | .int k,x=>x=.int k 0
 | .str,x=>x=.string ByteArray.empty
 | .slice,x=>x=.slice none 0 0
 | .ptr,x=>x=.pointer none
 | .other,x=>x.oneCell'=true
def ajn:TD→TypeDesc→Prop
 | .bool,d=>d=.bool
 | .int k,d=>d=.int k
 | .str,d=>d=.string
 | .slice e,d=>d=.slice e
 | .pointer e,d=>d=.pointer e
 | .map k e,d=>d=.map k e
 | .array n e,d=>d=.array n e
 | .struct fs,d=>∃fields:Array Field,d=.struct fields∧fields.toList.map (fun f=>(f.offset,f.type))=fs
 | .other,_=>True
structure apy (P:Program) (t:TypeId) (ti:P7):Prop where
 ex:∃i d z,P.info? t=some i∧P.underlying t=some d∧i.zero=some z∧i.size=ti.size∧i.bytes=ti.bytes∧d.isRow=ti.agg∧z.cells.size=ti.size∧
  ti.zero.length=ti.size∧(∀j,j<ti.size→Me (ti.zero.getD j .other) (z.cells.getD j Go.undef))∧ajn ti.desc d
 one:ti.agg=false→∀i z,P.info? t=some i→i.zero=some z→z.cells=#[z]
def Wt (P:Program):TypeDesc→Prop
 | .struct fields=>∀f∈fields.toList,(P.info? f.type).isSome=true
 | _=>True
def abW:ZK→TypeDesc→Prop
 | .bool,d=>d=.bool
 | .int k,d=>d=.int k
 | .str,d=>d=.string
 | _,_=>False
def alU (P:Program) (ok:TypeId→List ZK→Prop):List Field→List ZK→Nat→Prop
 | [],[],_=>True
 | f::fs,zs,k=>f.name ≠ "_" ∧ f.offset=k∧∃z1 z2,zs=z1++z2∧((∃z d,z1=[z]∧P.underlying f.type=some d∧abW z d)∨(ok f.type z1∧P.cellsOf f.type=z1.length))∧alU P ok fs z2 (k+z1.length)
 | _,_,_=>False
def EqT (P:Program):Nat→TypeId→List ZK→Prop
 | 0,_,_=>False
 | n+1,t,zs=>∃fields,P.underlying t=some (.struct fields)∧P.stoodInHeld t=false∧alU P (EqT P n) fields.toList zs 0
structure apz (P:Program) (t:TypeId) (zs:List ZK):Prop where
 ex:EqT P 4 t zs
 guard:P.eqGuardType P.depth t=false
structure iy (P:Program) (cfg:xV):Prop where
 ty:∀t ti,look cfg.ty t=some ti→apy P t ti
 fields:∀t ti d,look cfg.ty t=some ti→P.underlying t=some d→Wt P d
 mixed:P.follows .mixedOrders=true
 eqs:∀t zs,look cfg.eqs t=some zs→apz P t zs
def mF (H:Nat→Option dY) (ups:lC):Nat→Option dY:=fun o=>match look ups o with | some x=>x | none=>H o
inductive fM (Sp:ou) (H:Nat→Option dY):Pg→AV→lC→List Nat→Prop
 | ret (v:AV) (ups:lC):fM Sp H (.ret v ups) v ups []
 | need {p:Prop} [d:Decidable p] {k:Pg} {v:AV} {ups:lC} {r:List Nat} (hp:p) (h:fM Sp H k v ups r):fM Sp H (.need p k) v ups r
 | rd {o:Nat} {x:dY} {k:dY→Pg} {v:AV} {ups:lC} {r:List Nat} (ho:H o=some x) (h:fM Sp H (k x) v ups r):fM Sp H (.rd o k) v ups (o::r)
 | call {f:FuncId} {args:List AV} {obs:List dY} {k:AV→List dY→Pg} {x:AV} {fO:List dY} {v:AV} {ups:lC} {r:List Nat} (hs:Sp f args obs x fO)
   (h:fM Sp H (k x fO) v ups r):fM Sp H (.call f args obs k) v ups r
def hof:List dY→Nat→Option dY
 | [],_=>none
 | x::_,0=>some x
 | _::l,n+1=>hof l n
def Ez:List dY→Nat→Option dY
 | [],_=>none
 | x::_,0=>gz x
 | _::l,n+1=>Ez l n
theorem aa6:∀ {l:List dY} {j:Nat} {x:dY},Ez l j=some x→hof l j=some x∧LY x=false:=by
 intro l;induction l with
 | nil=>intro j x h; cases h
 | cons y l ih=>
  intro j x h;cases j with
  | zero=>
   simp only [Ez,gz] at h;split at h
   ·cases h
   ·rename_i hg; cases h; exact ⟨rfl,hg⟩
  | succ j=>exact ih h
theorem alV:∀ {l:List dY},(∀j x,hof l j=some x→LY x=false)→Ez l=hof l:=by
 intro l;induction l with
 | nil=>intro _; rfl
 | cons y l ih=>
  intro h;funext j;cases j with
  | zero=>have:=h 0 y rfl; simp only [Ez,hof,gz,this]
  | succ j=>exact congrFun (ih fun j x hx=>h (j+1) x hx) j
def Lp (w:World) (I:Nat→Prop) (O:OM) (m:Nat):Ctx:=⟨w,fun b=>∃o p bo sz,O o=some p∧p.pl=some (b,bo,sz),I,O,m,fun _ _=>False,false⟩
def Spec (P:Program) (cfg:xV):ou:=fun f args obs r fO=>
 (∃fn,P.funcs[f]? = some fn∧fn.body.isNone=false∧(fn.name == "runtime.NumGoroutine")=false)∧obs.length≤fO.length∧
 ∀(w:World) (I:Nat→Prop) (O:OM) (vals:Array Value),Rel cfg (Lp w I O obs.length) (hof obs) (fun o=>o<obs.length) w I O→
  vals.size=args.length→(∀j,j<args.length→eT w I O (fun o=>o<obs.length) (nth args j) (vals.getD j Go.undef))→
  Calls P f vals w fun e w'=>∃x I' O',e=.returned x∧Rel cfg (Lp w I O obs.length) (Ez fO) (fun o=>o<fO.length) w' I' O'∧
   eT w' I' O' (fun o=>o<fO.length) r x
section
variable {P:Program} {cfg:xV} {cx:Ctx} {H:Nat→Option dY} {D:Nat→Prop} {w:World} {I:Nat→Prop} {O:OM}
def Dj (D:Nat→Prop) (n:Nat):Nat→Prop:=fun o=>D o∨(n≤o∧o<n+stride)
def YG (D:Nat→Prop) (n:Nat):Prop:=∀o,n≤o→o<n+stride→¬ D o
theorem YG.one {D:Nat→Prop} {n:Nat} (h:YG D n):¬ D n:=h n (Nat.le_refl _) (by unfold stride; omega)
theorem UR {D:Nat→Prop} {n o:Nat} (h:o=n):Dj D n o:=.inr ⟨by omega,by unfold stride; omega⟩
def fI (P:Program) (cfg:xV) (cx:Ctx) (H:Nat→Option dY) (D:Nat→Prop) (w:World) (I:Nat→Prop) (O:OM) (dU:Nat) (o:Oper) (a:Act) (v:AV) (ups:lC):Prop:=
 ∀(next:Act→World→Prop) (Q:Exit→Act→World→Prop),
  (∀x w' I' O',Rel cfg cx (mF H ups) (Dj D dU) w' I' O'→(∀u y,eT w I O D u y→eT w' I' O' (Dj D dU) u y)→eT w' I' O' (Dj D dU) v x→next (a.put o.dst x) w')→
  o.wp P a w next Q
theorem Dk (H:Nat→Option dY):mF H []=H:=rfl
theorem iY.mono {w':World} {I':Nat→Prop} {O':OM} {D':Nat→Prop} {p:Own} {ob:dY} (hI:∀b,I b→I' b) (hw:∀b,I b→w'.heap[b]? = w.heap[b]?)
  (hO:∀o,D o→O' o=O o∨O' o=none) (hD:∀o,D o→D' o) (hu:∀o p,O o=some p→D o) (hb:∀b bo sz,p.pl=some (b,bo,sz)→w'.heap[b]? = w.heap[b]?)
  (h:iY w I O D p ob):iY w' I' O' D' p ob:=by
 cases ob with
 | box cs=>
  obtain ⟨h1,b,bo,sz,hp,ha,hl,hc⟩:=h;have hh:=hb b bo sz hp;refine ⟨h1,b,bo,sz,hp,fun j hj=>?_,hl,fun j hj=>?_⟩
  ·rw [cell?_of_heap hh,frozen?_of_heap hh]; exact ha j hj
  ·rw [cellAt,cell?_of_heap hh]; exact (hc j hj).mono hI hw hO hD hu
 | row es n g=>
  obtain ⟨h1,h2,h3,h4⟩:=h;refine ⟨h1,h2,h3,?_⟩;rcases h4 with h4 | ⟨b,bo,sz,hp,ha,hl,hc⟩
  ·exact .inl h4
  ·have hh:=hb b bo sz hp;refine .inr ⟨b,bo,sz,hp,fun j hj=>?_,hl,fun i j hi hj=>?_⟩
   ·rw [cell?_of_heap hh,frozen?_of_heap hh]; exact ha j hj
   ·rw [cellAt,cell?_of_heap hh]; exact ⟨(hc i j hi hj).1.mono hI hw,(hc i j hi hj).2⟩
 | map kd z f=>
  obtain ⟨h1,b,bo,sz,es,clock,hp,hw2,hm⟩:=h;exact ⟨h1,b,bo,sz,es,clock,hp,by rw [hb b bo sz hp]; exact hw2,hm⟩
theorem Rel.xP (hR:Rel cfg cx H D w I O) (n:Nat):Rel cfg cx H (Dj D n) w I O:=
 { hR with
  used:=fun o p h=>.inl (hR.used o p h)
  objs:=fun o ob p h h'=>(hR.objs o ob p h h').mono (fun _ h=>h) (fun _ _=>rfl) (fun _ _=>.inl rfl) (fun _ h=>.inl h) hR.used (fun _ _ _ _=>rfl)
  Dm:=fun o h=>.inl (hR.Dm o h) }
theorem eT.xP (hR:Rel cfg cx H D w I O) (n:Nat) {v:AV} {x:Value} (h:eT w I O D v x):eT w I O (Dj D n) v x:=
 h.mono (fun _ h=>h) (fun _ _=>rfl) (fun _ _=>.inl rfl) (fun _ h=>.inl h) hR.used
theorem sU {o:Oper} {a:Act} {x:Value} {w':World} {next:Act→World→Prop} {Q:Exit→Act→World→Prop} (h:(execOp a.eval o).run P w=.ok (.value x) w') (hn:next (a.put o.dst x) w'):o.wp P a w next Q:=by
 unfold Oper.wp; rw [h]; exact hn
theorem fI.eO {dU:Nat} {o:Oper} {a:Act} {v:AV} {x:Value} (hR:Rel cfg cx H D w I O) (h:(execOp a.eval o).run P w=.ok (.value x) w) (hv:eT w I O D v x):fI P cfg cx H D w I O dU o a v []:=by
 intro next Q hn
 exact sU h (hn x w I O (by rw [Dk]; exact hR.xP dU) (fun u y hu=>hu.xP hR dU) (hv.xP hR dU))
theorem eT.lK {b:Bool} {x:Value} (h:eT w I O D (.bool b) x):x=.bool b:=by
 cases h with | pure h=>cases h; rfl
theorem eT.iO {k:IntKind} {n:Int} {x:Value} (h:eT w I O D (.int k n) x):x=.int k n:=by
 cases h with | pure h=>cases h; rfl
theorem eT.BU {s:ByteArray} {x:Value} (h:eT w I O D (.str s) x):x=.string s:=by
 cases h with | pure h=>cases h; rfl
theorem eT.Av {es n:Nat} {f:Bool} {g:Nat→AV} {x:Value} (h:eT w I O D (.sl es n f g) x):iG w I (.sl es n f g) x:=by
 cases h with | pure h=>exact h
theorem eT.YH {cs:List AV} {x:Value} (h:eT w I O D (.ro cs) x):iG w I (.ro cs) x:=by
 cases h with | pure h=>exact h
theorem eT.vV {cs:List AV} {x:Value} (h:eT w I O D (.agg cs) x):∃vs:Array Value,x=.agg vs∧vs.size=cs.length∧∀j,j<cs.length→eT w I O D (nth cs j) (vs.getD j Go.undef):=by
 cases h with
 | pure h=>cases h with | agg hl hr=>exact ⟨_,rfl,hl,fun j hj=>.pure (hr j hj)⟩
 | agg hl hr=>exact ⟨_,rfl,hl,hr⟩
theorem eT.Ja {cs:List AV} {x:Value} (h:eT w I O D (.kH cs) x):∃vs:Array Value,x=.tuple vs∧vs.size=cs.length∧∀j,j<cs.length→eT w I O D (nth cs j) (vs.getD j Go.undef):=by
 cases h with
 | pure h=>cases h with | kH hl hr=>exact ⟨_,rfl,hl,fun j hj=>.pure (hr j hj)⟩
 | kH hl hr=>exact ⟨_,rfl,hl,hr⟩
theorem eT.Mf {f:FuncId} {cs:List AV} {x:Value} (h:eT w I O D (.fn f cs) x):∃vs:Array Value,x=.func (.func f) #[] vs∧vs.size=cs.length∧∀j,j<cs.length→eT w I O D (nth cs j) (vs.getD j Go.undef):=by
 cases h with
 | pure h=>cases h with | fn hl hr=>exact ⟨_,rfl,hl,fun j hj=>.pure (hr j hj)⟩
 | fn hl hr=>exact ⟨_,rfl,hl,hr⟩
theorem eT.oL {o i off:Nat} {x:Value} {p:Own} (ho:O o=some p) (h:eT w I O D (.ptr o i off) x):∃b bo sz,p.pl=some (b,bo,sz)∧i<p.n∧x=.pointer (some ⟨b,bo+(i*p.es+off),none⟩):=by
 cases h with
 | pure h=>cases h
 | @ptr _ _ _ b bo sz p' ho' hp hi=>
  have:p'=p:=Option.some.inj (ho'.symm.trans ho);subst this;exact ⟨b,bo,sz,hp,hi,rfl⟩
 | Di ho'=>rw [ho] at ho'; cases ho'
theorem eT.mU {o i n:Nat} {full:Bool} {x:Value} {p:Own} (ho:O o=some p) (h:eT w I O D (.eH o i n full) x):∃a cap,x=.slice a n cap∧i+n≤p.n∧n≤cap∧(full=true→cap=n)∧
  (cap≠0→∃b bo sz,p.pl=some (b,bo,sz)∧a=some ⟨b,bo+i*p.es,none⟩∧bo+(i+cap)*p.es≤sz):=by
 cases h with
 | pure h=>cases h
 | @eH _ _ _ _ p' a cap ho' hi hcap hfull hpl hext=>
  have:p'=p:=Option.some.inj (ho'.symm.trans ho);subst this;exact ⟨a,cap,rfl,hi,hcap,hfull,hpl⟩
 | Bv ho'=>rw [ho] at ho'; cases ho'
theorem eT.EO {o i n n' cap:Nat} {full:Bool} {aa:Option Addr} {p:Own} (ho:O o=some p) (h:eT w I O D (.eH o i n full) (.slice aa n' cap)):p.n≤i+cap:=by
 cases h with
 | pure h=>cases h
 | @eH _ _ _ _ p' a cap ho' hi hcap hfull hpl hext=>
  have:p'=p:=Option.some.inj (ho'.symm.trans ho);subst this;exact hext
 | Bv ho'=>rw [ho] at ho'; cases ho'
theorem eT.YI {o:Nat} {x:Value} {p:Own} (ho:O o=some p) (h:eT w I O D (.mref o) x):∃b bo sz,p.pl=some (b,bo,sz)∧x=.map (some b):=by
 cases h with
 | pure h=>cases h
 | @mref _ b bo sz p' ho' hp=>
  have:p'=p:=Option.some.inj (ho'.symm.trans ho);subst this;exact ⟨b,bo,sz,hp,rfl⟩
 | R8 ho'=>rw [ho] at ho'; cases ho'
theorem YJ {v:AV} {x:Value} (h:eT w I O D v x) (hk:Yq v=true):x.oneCell'=true:=by
 cases h with
 | pure h=>cases h<;>first | rfl | cases hk
 | ptr=>rfl
 | eH=>rfl
 | mref=>rfl
 | R8 _ _ h1=>exact h1
 | Di _ _ h1=>exact h1
 | Bv _ _ h1=>exact h1
 | agg=>cases hk
 | fn=>rfl
 | kH=>cases hk
theorem Wu {l:List AV} (h:I5 l=true):∀j,j<l.length→Yq (nth l j)=true:=by
 induction l with
 | nil=>intro j hj; cases hj
 | cons v l ih=>
  intro j hj;unfold I5 at h;cases hv:Yq v with
  | false=>simp [hv] at h
  | true=>
   simp only [hv] at h;cases j with
   | zero=>exact hv
   | succ j=>exact ih h j (by simpa using hj)
theorem eT.cells {v:AV} {x:Value} (h:eT w I O D v x) (hk:I5 v.cells=true):x.cells.size=v.cells.length∧∀j,j<v.cells.length→eT w I O D (nth v.cells j) (x.cells.getD j Go.undef)∧(x.cells.getD j Go.undef).oneCell'=true:=by
 have one:∀ {v:AV} {x:Value},eT w I O D v x→v.cells=[v]→Yq v=true→x.cells.size=v.cells.length∧∀j,j<v.cells.length→eT w I O D (nth v.cells j) (x.cells.getD j Go.undef)∧(x.cells.getD j Go.undef).oneCell'=true:=by
  intro v x h hc ho;have h1:=YJ h ho;have hx:x.cells=#[x]:=by cases x<;>first | rfl | cases h1
  rw [hc,hx];refine ⟨rfl,fun j hj=>?_⟩;have:j=0:=by simpa using hj
  subst this;exact ⟨h,h1⟩
 cases v with
 | agg cs=>
  obtain ⟨vs,rfl,hl,hr⟩:=h.vV;exact ⟨hl,fun j hj=>⟨hr j hj,YJ (hr j hj) (Wu hk j hj)⟩⟩
 | undef=>cases hk
 | kH vs=>cases hk
 | _=>exact one h rfl rfl
end
end Go.Ab
namespace Go.Ab
section
variable {P:Program} {cfg:xV} {cx:Ctx} {H:Nat→Option dY} {D:Nat→Prop} {w:World} {I:Nat→Prop} {O:OM} {Sp:ou}
theorem fM.kI {v v':AV} {ups vM:lC} {r:List Nat} (h:fM Sp H (.ret v ups) v' vM r):v'=v∧vM=ups:=by cases h; exact ⟨rfl,rfl⟩
theorem fM.vW {p:Prop} [Decidable p] {k:Pg} {v':AV} {vM:lC} {r:List Nat} (h:fM Sp H (.need p k) v' vM r):p∧fM Sp H k v' vM r:=by cases h with | need hp h=>exact ⟨hp,h⟩
theorem fM.nP {o:Nat} {k:dY→Pg} {v':AV} {vM:lC} {r:List Nat} (h:fM Sp H (.rd o k) v' vM r):∃x r',H o=some x∧fM Sp H (k x) v' vM r':=by cases h with | rd ho h=>exact ⟨_,_,ho,h⟩
theorem fM.aX {v':AV} {vM:lC} {r:List Nat} (h:fM Sp H .fail v' vM r):False:=by cases h
theorem fM.iB {p:Prop} [Decidable p] {v v':AV} {vM:lC} {r:List Nat} (h:fM Sp H (l5 p v) v' vM r):p∧v'=v∧vM=[]:=by
 obtain ⟨hp,h⟩:=fM.vW h; exact ⟨hp,h.kI⟩
theorem fM.fE {v v':AV} {vM:lC} {r:List Nat} (h:fM Sp H (jX v) v' vM r):v'=v∧vM=[]:=h.kI
theorem fM.cu {b:Bool} {k:Pg} {v':AV} {vM:lC} {r:List Nat} (h:fM Sp H (gL b k) v' vM r):b=true∧fM Sp H k v' vM r:=by
 cases b with
 | true=>exact ⟨rfl,h⟩
 | false=>exact (fM.aX h).elim
theorem fM.CY {v:AV} {k:List AV→Pg} {v':AV} {vM:lC} {r:List Nat} (h:fM Sp H (LW v k) v' vM r):I5 v.cells=true∧fM Sp H (k v.cells) v' vM r:=by
 unfold LW at h;cases hb:I5 v.cells with
 | true=>simp only [hb] at h; exact ⟨rfl,h⟩
 | false=>simp only [hb] at h; exact (fM.aX h).elim
theorem fM.lQ {t:TypeId} {k:P7→Pg} {v':AV} {vM:lC} {r:List Nat} (h:fM Sp H (UM cfg t k) v' vM r):∃ti,look cfg.ty t=some ti∧fM Sp H (k ti) v' vM r:=by
 unfold UM at h;cases hb:look cfg.ty t with
 | some ti=>simp only [hb] at h; exact ⟨ti,rfl,h⟩
 | none=>simp only [hb] at h; exact (fM.aX h).elim
theorem fM.pU {t:TypeId} {k:P7→Pg} {v':AV} {vM:lC} {r:List Nat} (h:fM Sp H (Dg cfg t k) v' vM r):∃tt e ti,look cfg.ty t=some tt∧tt.desc=.slice e∧look cfg.ty e=some ti∧fM Sp H (k ti) v' vM r:=by
 unfold Dg at h;cases hb:look cfg.ty t with
 | some tt=>
  simp only [hb] at h;cases hd:tt.desc with
  | slice e=>
   simp only [hd] at h;obtain ⟨ti,h1,h2⟩:=h.lQ;exact ⟨tt,e,ti,rfl,hd,h1,h2⟩
  | _=>simp only [hd] at h; exact (fM.aX h).elim
 | none=>simp only [hb] at h; exact (fM.aX h).elim
theorem iy.slice (hc:iy P cfg) {t e:TypeId} {tt ti:P7} (h:look cfg.ty t=some tt) (hd:tt.desc=.slice e) (h':look cfg.ty e=some ti):
  P.underlying t=some (.slice e)∧∃i z,P.info? e=some i∧i.zero=some z∧i.size=ti.size∧i.bytes=ti.bytes∧z.cells.size=ti.size:=by
 obtain ⟨i,d,z,_,hu,_,_,_,_,_,_,_,hm⟩:=(hc.ty t tt h).ex;rw [hd] at hm;obtain ⟨i',d',z',h1,_,h2,h3,h4,_,h5,_⟩:=(hc.ty e ti h').ex;exact ⟨by rw [hu,hm],i',z',h1,h2,h3,h4,h5⟩
theorem gJ {t:TypeId} {i:TypeInfo} (h:P.info? t=some i) (w:World):(sizeOf t).run P w=.ok i.size w:=by
 simp [sizeOf,typeInfo,h]
theorem bX {t:TypeId} {d:TypeDesc} (h:P.underlying t=some d) (w:World):(underlying t).run P w=.ok d w:=by
 simp [underlying,h]
variable {dU:Nat} {o:Oper} {a:Act} {ρ:Operand→AV} {v:AV} {ups:lC} {r:List Nat}
theorem alW (hR:Rel cfg cx H D w I O) {x:Operand} (ho:o.op=.move x) (hx:eT w I O D (ρ x) (a.eval x)):fI P cfg cx H D w I O dU o a (ρ x) []:=
 fI.eO hR (by simp [execOp,ho]) hx
theorem ahI (hR:Rel cfg cx H D w I O) {x:Operand} (ho:o.op=.assign x) (hx:eT w I O D (ρ x) (a.eval x)):fI P cfg cx H D w I O dU o a (ρ x) []:=
 fI.eO hR (by simp [execOp,ho]) hx
theorem ahJ (c:Value) (ho:ofConst c≠.undef):∀ {x:Value},x=c→eT w I O D (ofConst c) x:=by
 intro x hx;subst hx;refine .pure ?_;unfold ofConst;split
 ·exact .bool _
 ·exact .int _ _
 ·exact .str _
 ·exact .sl 0 0 (fun _ _=>Go.undef) (Nat.le_refl _) (fun _=>rfl) (fun h=>absurd rfl h) (fun i h=>by cases h) (fun i j h=>by cases h) (fun i j h=>by cases h) (fun i j h=>by cases h)
 ·exact .Ey
 ·rename_i h1 h2 h3 h4 h5;exact .undef _
theorem afm (c:Value):eT w I O D (ofConst c) c:=by
 by_cases h:ofConst c=.undef
 ·rw [h]; exact .pure (.undef _)
 ·exact ahJ c h rfl
theorem alX (hR:Rel cfg cx H D w I O) {c x y:Operand} (ho:o.op=.pick c x y) (hc:eT w I O D (ρ c) (a.eval c))
  (hx:∀b,ρ c=.bool b→b=true→eT w I O D (ρ x) (a.eval x)) (hy:∀b,ρ c=.bool b→b=false→eT w I O D (ρ y) (a.eval y))
  (hcx:∀v,x=.const v→ρ x=ofConst v∧a.eval x=v) (hcy:∀v,y=.const v→ρ y=ofConst v∧a.eval y=v)
  (h:fM Sp H (aff (ρ c) x y (ρ x) (ρ y)) v ups r):fI P cfg cx H D w I O dU o a v ups:=by
 cases hcv:ρ c with
 | bool b=>
  rw [hcv] at hc h;have hb:=hc.lK;have hx':=hx b hcv;have hy':=hy b hcv;have run:(execOp a.eval o).run P w=.ok (.value (if b then a.eval x else a.eval y)) w:=by
   simp [execOp,ho,hb,asBool]
  unfold aff at h;simp only at h;split at h
  ·rename_i hz;obtain ⟨rfl,rfl⟩:=h.fE;obtain ⟨_,e2⟩:=hcy _ rfl;refine fI.eO hR run ?_;cases b with
   | true=>have:=(hx' rfl); rw [hz] at this; rw [this.lK]; exact .pure (.bool _)
   | false=>rw [e2]; exact .pure (.bool _)
  ·rename_i hz _;obtain ⟨rfl,rfl⟩:=h.fE;obtain ⟨_,e2⟩:=hcx _ rfl;refine fI.eO hR run ?_;cases b with
   | true=>simp only [if_true]; rw [e2]; exact .pure (.bool _)
   | false=>have:=(hy' rfl); rw [hz] at this; simp only [Bool.false_eq_true,if_false]; rw [this.lK]; exact .pure (.bool _)
  ·rename_i h1 h2;obtain ⟨rfl,rfl⟩:=h.fE;refine fI.eO hR run ?_;cases b with
   | true=>have:=(hx' rfl); rw [h1] at this; rw [this.lK]; exact .pure (.bool _)
   | false=>have:=(hy' rfl); rw [h2] at this; simp only [Bool.false_eq_true,if_false]; rw [this.lK]; exact .pure (.bool _)
  ·obtain ⟨rfl,rfl,rfl⟩:=h.iB;refine fI.eO hR run ?_;simpa using hy' rfl
  ·obtain ⟨rfl,rfl,rfl⟩:=h.iB;refine fI.eO hR run ?_;simpa using hx' rfl
  ·exact (fM.aX h).elim
 | _=>rw [hcv] at h; exact (fM.aX h).elim
theorem wrap_i64 {n:Int} (h:aF n):IntKind.i64.wrap n=n:=IntWalk.i64_in _ ⟨h.1,h.2⟩
theorem run_equal_bool {t:TypeId} (hu:P.underlying t=some .bool) (a b:Bool) (w:World):(Op.equal t (.bool a) (.bool b)).run P w=.ok (a==b) w:=by
 have:∀d,(Op.equalIn (d+1) t (.bool a) (.bool b)).run P w=.ok (a==b) w:=fun d=>by
  simp [Op.equalIn,bX hu]
 exact this 9999
theorem Sb {t:TypeId} {d:TypeDesc} (hu:P.underlying t=some d) (hd:d.isRow=false) (vs:Array Value) (i:Nat) (hi:i<vs.size) (w:World):(part t vs i).run P w=.ok (vs.getD i Go.undef) w:=by
 have hag:(isAgg t).run P w=.ok false w:=by
  unfold isAgg;rw [Sem.run_bind,bX hu w];cases d<;>simp at hd ⊢
 simp [part,Sem.run_bind,hag,Array.getElem?_eq_getElem hi]
theorem aa7:∀(a b:List AV) {j:Nat},j<a.length→nth (a++b) j=nth a j:=by
 intro a;induction a with
 | nil=>intro b j h; exact absurd h (Nat.not_lt_zero _)
 | cons x a ih=>intro b j h; cases j with
  | zero=>rfl
  | succ j=>exact ih b (by simpa using h)
theorem aa8:∀(a b:List AV) (j:Nat),nth (a++b) (a.length+j)=nth b j:=by
 intro a;induction a with
 | nil=>intro b j; simp
 | cons x a ih=>intro b j; rw [List.length_cons,show a.length+1+j=(a.length+j)+1 by omega]; exact ih b j
theorem Sc (xs:Array Value) (k m j:Nat) (hj:j<m) (h:k+m≤xs.size):(xs.extract k (k+m)).getD j Go.undef=xs.getD (k+j) Go.undef:=by
 rw [Array.getD_eq_getD_getElem?, Array.getD_eq_getD_getElem?, Array.getElem?_extract_of_lt (by rw [Nat.min_eq_left h]; omega),Array.getElem?_eq_getElem om]
theorem alY:∀(zs:List ZK) (cs cs':List AV) (r:Bool),UJ zs cs cs'=some r→cs.length=zs.length∧cs'.length=zs.length:=by
 intro zs;induction zs with
 | nil=>intro cs cs' r h; cases cs<;>cases cs'<;>simp [UJ] at h ⊢
 | cons z zs ih=>
  intro cs cs' r h;cases cs with
  | nil=>cases z<;>simp [UJ] at h
  | cons c cs=>cases cs' with
   | nil=>cases z<;>cases c<;>simp [UJ] at h
   | cons c' cs'=>
    have:∃r',UJ zs cs cs'=some r':=by
     cases z<;>cases c<;>cases c'<;>simp only [UJ] at h<;>first | (cases h; done) | skip
     all_goals
      split at h
      ·first | exact ⟨_,by assumption⟩
      ·cases h
    obtain ⟨r',h'⟩:=this
    have:=ih _ _ _ h'
    simp [this]
theorem alZ:∀(z1 z2:List ZK) (cs cs':List AV) (r:Bool),UJ (z1++z2) cs cs'=some r→∃c1 c2 c1' c2' r1 r2,cs=c1++c2∧cs'=c1'++c2'∧UJ z1 c1 c1'=some r1∧UJ z2 c2 c2'=some r2∧r=(r1&&r2):=by
 intro z1;induction z1 with
 | nil=>intro z2 cs cs' r h; exact ⟨[],cs,[],cs',true,r,rfl,rfl,rfl,h,by simp⟩
 | cons z z1 ih=>
  intro z2 cs cs' r h;cases cs with
  | nil=>cases z<;>simp [UJ] at h
  | cons c cs=>cases cs' with
   | nil=>cases z<;>cases c<;>simp [UJ] at h
   | cons c' cs'=>
    cases z<;>cases c<;>cases c'<;>simp only [List.cons_append,UJ] at h<;>first | (cases h; done) | skip
    ·split at h
     ·rename_i r' h'
      cases h
      obtain ⟨c1,c2,c1',c2',r1,r2,e1,e2,e3,e4,e5⟩:=ih _ _ _ _ h'
      subst e1 e2 e5
      exact ⟨_::c1,c2,_::c1',c2',_,r2,rfl,rfl,by simp only [UJ,e3]; rfl,e4,by rw [Bool.and_assoc]⟩
     ·cases h
    ·split at h
     ·rename_i r' k1 k2 h'
      cases h
      obtain ⟨c1,c2,c1',c2',r1,r2,e1,e2,e3,e4,e5⟩:=ih _ _ _ _ h'
      subst e1 e2 e5
      exact ⟨_::c1,c2,_::c1',c2',_,r2,rfl,rfl,by simp only [UJ,e3,k1,k2]; rfl,e4,by rw [Bool.and_assoc]⟩
     ·cases h
    ·split at h
     ·rename_i r' h'
      cases h
      obtain ⟨c1,c2,c1',c2',r1,r2,e1,e2,e3,e4,e5⟩:=ih _ _ _ _ h'
      subst e1 e2 e5
      exact ⟨_::c1,c2,_::c1',c2',_,r2,rfl,rfl,by simp only [UJ,e3]; rfl,e4,by rw [Bool.and_assoc]⟩
     ·cases h
theorem afn {t:TypeId} {dd:TypeDesc} {z:ZK} {c c':AV} {b:Bool} {u v:Value} (w:World) (d:Nat) (hu:P.underlying t=some dd) (hk:abW z dd) (h:UJ [z] [c] [c']=some b) (hx:eT w I O D c u) (hy:eT w I O D c' v):(Op.equalIn (d+1) t u v).run P w=.ok b w:=by
 cases z with
 | int kk=>
  cases c<;>cases c'<;>simp only [UJ] at h<;>first | (cases h; done) | skip
  rename_i k1 a k2 b;split at h
  ·rename_i r' e1 e2 e3;cases e3;cases h;have e1:kk=k1:=by simpa [yC] using e1
   have e2:kk=k2:=by simpa [yC] using e2
   subst e1; subst e2;rw [hx.iO,hy.iO,Bool.and_true];rw [hk] at hu;exact run_equalIn_int w d _ _ _ _ _ hu
  ·cases h
 | bool=>
  cases c<;>cases c'<;>simp only [UJ] at h<;>first | (cases h; done) | skip
  cases h;rw [hx.lK,hy.lK,Bool.and_true];rw [hk] at hu;exact run_equalIn_bool' w d _ _ _ hu
 | str=>
  cases c<;>cases c'<;>simp only [UJ] at h<;>first | (cases h; done) | skip
  cases h;rw [hx.BU,hy.BU,Bool.and_true];rw [hk] at hu;exact run_equalIn_string w d _ _ _ hu
 | slice=>exact hk.elim
 | ptr=>exact hk.elim
 | other=>exact hk.elim
theorem J9 {t:TypeId} {fs:Array Field} (hu:P.underlying t=some (.struct fs)) (vs:Array Value) (i:Nat) (w:World):(part t vs i).run P w=.ok (.agg (vs.extract i (i+P.cellsOf t))) w:=by
 obtain ⟨ti,hi⟩:=info_of_underlying hu;simp [part,isAgg,run_underlying hu,run_sizeOf w hi]
theorem ajo (n:Nat) (xs ys:Array Value) (w:World) (d:Nat)
  (IH:∀(t:TypeId) (zs:List ZK) (cs cs':List AV) (us vs:Array Value) (r:Bool),EqT P n t zs→UJ zs cs cs'=some r→us.size=cs.length→vs.size=cs'.length→(∀j,j<cs.length→eT w I O D (nth cs j) (us.getD j Go.undef))→(∀j,j<cs'.length→eT w I O D (nth cs' j) (vs.getD j Go.undef))→(Op.equalIn (d+1) t (.agg us) (.agg vs)).run P w=.ok r w):
  ∀(fs:List Field) (zs:List ZK) (cs cs':List AV) (k:Nat) (r:Bool),UJ zs cs cs'=some r→alU P (EqT P n) fs zs k→
  k+cs.length≤xs.size→k+cs'.length≤ys.size→(∀j,j<cs.length→eT w I O D (nth cs j) (xs.getD (k+j) Go.undef))→(∀j,j<cs'.length→eT w I O D (nth cs' j) (ys.getD (k+j) Go.undef))→
  (Op.eqFields (d+1) xs ys fs).run P w=.ok r w:=by
 intro fs;induction fs with
 | nil=>
  intro zs cs cs' k r h hz _ _ _ _;cases zs with
  | cons=>exact hz.elim
  | nil=>cases cs<;>cases cs'<;>simp [UJ] at h ⊢ <;> (subst h; simp [Op.eqFields])
 | cons f fs ih=>
  intro zs cs cs' k r h hz hx hy hrx hry;obtain ⟨hnm,hof,z1,z2,rfl,hz1,hz2⟩:=hz;obtain ⟨c1,c2,c1',c2',r1,r2,rfl,rfl,e3,e4,rfl⟩:=alZ _ _ _ _ _ h;obtain ⟨l1,l2⟩:=alY _ _ _ _ e3;simp only [List.length_append] at hx hy hrx hry;have nx1:∀j,j<c1.length→nth (c1++c2) j=nth c1 j:=fun j hj=>aa7 _ _ hj;have nx2:∀j,nth (c1++c2) (c1.length+j)=nth c2 j:=fun j=>aa8 _ _ j;have ny1:∀j,j<c1'.length→nth (c1'++c2') j=nth c1' j:=fun j hj=>aa7 _ _ hj;have ny2:∀j,nth (c1'++c2') (c1'.length+j)=nth c2' j:=fun j=>aa8 _ _ j;have ih':=ih z2 c2 c2' (k+z1.length) r2 e4 hz2 om om (fun j hj=>by
   have:=hrx (c1.length+j) om;rw [nx2,show k+(c1.length+j)=k+z1.length+j by omega] at this;exact this) (fun j hj=>by
   have:=hry (c1'.length+j) om;rw [ny2,show k+(c1'.length+j)=k+z1.length+j by omega] at this;exact this)
  have step:∀(u v:Value),(part f.type xs k).run P w=.ok u w→(part f.type ys k).run P w=.ok v w→(Op.equalIn (d+1) f.type u v).run P w=.ok r1 w→(Op.eqFields (d+1) xs ys (f::fs)).run P w=.ok (r1&&r2) w:=by
   intro u v px py hb;rw [Op.eqFields,if_pos hnm];simp only [hof,Sem.run_bind,px,py,Result.andThen_ok,hb];cases r1
   ·simp
   ·simpa using ih'
  rcases hz1 with ⟨z,dd,rfl,hu,hk⟩ | ⟨ho,hs⟩
  ·have hd:dd.isRow=false:=by cases z<;>simp only [abW] at hk<;>first | (subst hk; rfl) | exact hk.elim
   cases c1 with
   | nil=>simp at l1
   | cons c c1=>cases c1 with
    | cons=>simp at l1
    | nil=>cases c1' with
     | nil=>simp at l2
     | cons c' c1'=>cases c1' with
      | cons=>simp at l2
      | nil=>
       simp only [List.length_singleton] at hx hy hrx hry
       have hx0:=hrx 0 om
       have hy0:=hry 0 om
       exact step _ _ (Sb hu hd xs k om w) (Sb hu hd ys k om w) (afn w d hu hk e3 hx0 hy0)
  ·cases n with
   | zero=>exact ho.elim
   | succ n=>
    obtain ⟨fields,hu,_,_⟩:=id ho;refine step _ _ (J9 hu xs k w) (J9 hu ys k w) ?_;rw [hs];refine IH _ z1 c1 c1' _ _ r1 ho e3 (by rw [Array.size_extract]; omega) (by rw [Array.size_extract]; omega) (fun j hj=>?_) (fun j hj=>?_)
    ·have:=hrx j om;rw [nx1 j hj] at this;rw [Sc _ _ _ _ om om];exact this
    ·have:=hry j om;rw [ny1 j hj] at this;rw [Sc _ _ _ _ om om];exact this
theorem al0 (w:World):∀(n d:Nat) (t:TypeId) (zs:List ZK) (cs cs':List AV) (us vs:Array Value) (r:Bool),EqT P n t zs→UJ zs cs cs'=some r→us.size=cs.length→vs.size=cs'.length→(∀j,j<cs.length→eT w I O D (nth cs j) (us.getD j Go.undef))→(∀j,j<cs'.length→eT w I O D (nth cs' j) (vs.getD j Go.undef))→(Op.equalIn (d+n+1) t (.agg us) (.agg vs)).run P w=.ok r w:=by
 intro n;induction n with
 | zero=>intro d t zs cs cs' us vs r h; exact h.elim
 | succ n IH=>
  intro d t zs cs cs' us vs r ⟨fields,hu,hh,hf⟩ h hl hl' hx hy;have hfo:P.fieldsOf t=fields:=by unfold Program.fieldsOf; rw [hu]
  rw [show d+(n+1)+1=(d+n+1)+1 by omega,run_equalIn_struct (P:=P) w (d+n+1) t us vs (by rw [hfo]; exact hu) hh,hfo];exact ajo (I:=I) (O:=O) (D:=D) n us vs w (d+n) (fun t zs cs cs' us vs r a b c e f g=>IH d t zs cs cs' us vs r a b c e f g) fields.toList zs cs cs' 0 r h hf om om (fun j hj=>by simpa using hx j hj) (fun j hj=>by simpa using hy j hj)
theorem P8 (hc:iy P cfg) {t:TypeId} {zs:List ZK} (ht:look cfg.eqs t=some zs) {cs cs':List AV} {xs ys:Array Value} {r:Bool} (h:UJ zs cs cs'=some r) (hl:xs.size=cs.length) (hl':ys.size=cs'.length)
  (hx:∀j,j<cs.length→eT w I O D (nth cs j) (xs.getD j Go.undef)) (hy:∀j,j<cs'.length→eT w I O D (nth cs' j) (ys.getD j Go.undef)):(Op.equalIn 10000 t (.agg xs) (.agg ys)).run P w=.ok r w:=
 al0 w 4 9995 t zs cs cs' xs ys r (hc.eqs t zs ht).ex h hl hl' hx hy
theorem ajp (hc:iy P cfg) (hR:Rel cfg cx H D w I O) {op:BinOp} {t t':TypeId} {x y:Operand} (ho:o.op=.binOp op t x y t') (hx:eT w I O D (ρ x) (a.eval x)) (hy:eT w I O D (ρ y) (a.eval y))
  (h:fM Sp H (ai2 cfg op t (ρ x) (ρ y)) v ups r):fI P cfg cx H D w I O dU o a v ups:=by
 unfold ai2 at h;split at h
 ·rename_i k n k' n' e1 e2;rw [e1] at hx; rw [e2] at hy;have hx':=hx.iO;have hy':=hy.iO;cases hsl:ai1 op with
  | true=>
   simp only [hsl] at h;cases op<;>simp [ai1] at hsl;obtain ⟨hp,rfl,rfl⟩:=h.iB;have hg:∀(u:World),(eqGuard .shl t x y (.int k n) (.int k' n')).run P u=.ok () u:=by
    intro u; unfold eqGuard; simp
   refine fI.eO (x:=.int k _) hR ?_ (.pure (.int _ _));have hp':=Int.not_lt.2 hp;simp only [execOp,ho,hx',hy',hg,binOp,Op.shift,if_neg hp',Yr,Sem.run_bind,Result.andThen_ok,Sem.run_pure]
  | false=>
  simp only [hsl] at h;obtain ⟨hk1,h1⟩:=h.cu;clear h;have hk:k=k':=by simpa [yC] using hk1
  subst hk;have hg:∀(u:World),(eqGuard op t x y (.int k n) (.int k n')).run P u=.ok () u:=by
   intro u; unfold eqGuard; cases op<;>simp
  cases ha:R4 op with
  | true=>
   simp only [ha] at h1;cases hk2:yC k .i64 with
   | true=>
    simp only [hk2] at h1;have h2:=h1;clear h1;have hk:k=.i64:=by simpa [yC] using hk2
    subst hk;cases op<;>simp [R4] at ha<;>simp only [arith] at h2<;>obtain ⟨hp,rfl,rfl⟩:=h2.iB<;>
     refine fI.eO (x:=.int .i64 _) hR ?_ (.pure (.int _ _))<;>simp [execOp,ho,hx',hy',hg,binOp,Op.intArith,Op.intDiv,wrap_i64,hp]
   | false=>
    simp only [hk2] at h1;cases op<;>simp [R4] at ha<;>simp only [aiZ] at h1<;>first
     | exact (fM.aX h1).elim
     | (obtain ⟨rfl,rfl⟩:=h1.fE
        refine fI.eO (x:=.int k _) hR ?_ (.pure (.int _ _))
        simp [execOp,ho,hx',hy',hg,binOp,Op.intArith])
  | false=>
   simp only [ha] at h1;cases op<;>simp [R4] at ha<;>simp only [apo] at h1<;>first
    | exact (fM.aX h1).elim
    | (obtain ⟨rfl,rfl⟩:=h1.fE
       refine fI.eO (x:=.bool _) hR ?_ (.pure (.bool _))
       simp [execOp,ho,hx',hy',hg,binOp,Op.intCmp]
       done)
    | (obtain ⟨hp,rfl,rfl⟩:=h1.iB
       refine fI.eO (x:=.int k _) hR ?_ (.pure (.int _ _))
       have hp':=Int.not_lt.2 hp
       simp only [execOp,ho,hx',hy',hg,binOp,Op.shift,if_neg hp',GD,Sem.run_bind,Result.andThen_ok,Sem.run_pure]
       done)
    | (obtain ⟨rfl,rfl⟩:=h1.fE
       refine fI.eO (x:=.int k _) hR ?_ (.pure (.int _ _))
       simp [execOp,ho,hx',hy',hg,binOp,Op.intBits,R5]
       done)
    | (obtain ⟨rfl,rfl⟩:=h1.fE
       refine fI.eO (x:=.int k _) hR ?_ (.pure (.int _ _))
       simp [execOp,ho,hx',hy',hg,binOp,Op.intBits,orI])
 ·rename_i b b' e1 e2;rw [e1] at hx; rw [e2] at hy;have hx':=hx.lK;have hy':=hy.lK;obtain ⟨ti,ht,h1⟩:=h.lQ;clear h;have hg:∀(u:World),(eqGuard op t x y (.bool b) (.bool b')).run P u=.ok () u:=by
   intro u; unfold eqGuard; cases op<;>simp
  have hd:ti.desc=.bool→P.underlying t=some .bool:=by
   intro hd;obtain ⟨i,d,z,_,hu,_,_,_,_,_,_,_,hm⟩:=(hc.ty t ti ht).ex;rw [hd] at hm;rw [hu,hm]
  split at h1
  ·rename_i hdd;obtain ⟨rfl,rfl⟩:=h1.fE;refine fI.eO (x:=.bool _) hR ?_ (.pure (.bool _));have e:=run_equal_bool (P:=P) (hd hdd) b b' w;simp [execOp,ho,hx',hy',hg,binOp,e]
  ·rename_i hdd;obtain ⟨rfl,rfl⟩:=h1.fE;refine fI.eO (x:=.bool _) hR ?_ (.pure (.bool _));have e:=run_equal_bool (P:=P) (hd hdd) b b' w;simp [execOp,ho,hx',hy',hg,binOp,e]
  ·exact (fM.aX h1).elim
 ·rename_i s s' e1 e2;rw [e1] at hx; rw [e2] at hy;have hx':=hx.BU;have hy':=hy.BU;have hg:∀(u:World),(eqGuard op t x y (.string s) (.string s')).run P u=.ok () u:=by
   intro u; unfold eqGuard; cases op<;>simp
  unfold ane at h;cases op<;>simp only at h<;>first
   | exact (fM.aX h).elim
   | (obtain ⟨rfl,rfl⟩:=h.fE
      refine fI.eO (x:=.bool _) hR ?_ (.pure (.bool _))
      simp [execOp,ho,hx',hy',hg,binOp,Op.stringOp]
      done)
   | (obtain ⟨hp,rfl,rfl⟩:=h.iB
      refine fI.eO (x:=.string _) hR ?_ (.pure (.str _))
      have hle:¬ (((s.size+s'.size:Nat):Int) > IntKind.i64.max):=by
       have:IntKind.i64.max=9223372036854775807:=by decide
       rw [this]
       omega
      simp only [execOp,ho,hx',hy',binOp,Op.stringOp,Sem.run_bind,hg,Result.andThen_ok]
      rw [if_neg hle]
      rfl)
 ·rename_i cs cs' e1 e2;rw [e1] at hx; rw [e2] at hy;obtain ⟨xs,hx',hl,hrx⟩:=hx.vV;obtain ⟨ys,hy',hl',hry⟩:=hy.vV;split at h
  ·rename_i zs hz;have hg:∀(u:World),(eqGuard op t x y (.agg xs) (.agg ys)).run P u=.ok () u:=fun u=>run_eqGuard_agg u op t x y xs ys (hc.eqs t zs hz).guard;split at h
   ·rename_i r' he;obtain ⟨rfl,rfl⟩:=h.fE;have e:=P8 hc hz he hl hl' hrx hry;refine fI.eO (x:=.bool _) hR ?_ (.pure (.bool _));simp only [execOp,ho,hx',hy',Sem.run_bind,hg,Result.andThen_ok,run_eql_struct,e];rfl
   ·rename_i r' he;obtain ⟨rfl,rfl⟩:=h.fE;have e:=P8 hc hz he hl hl' hrx hry;refine fI.eO (x:=.bool _) hR ?_ (.pure (.bool _));simp only [execOp,ho,hx',hy',Sem.run_bind,hg,Result.andThen_ok,run_neq_struct,e];rfl
   ·exact (fM.aX h).elim
  ·exact (fM.aX h).elim
 ·exact (fM.aX h).elim
theorem al1 (hR:Rel cfg cx H D w I O) {op:UnOp} {t:TypeId} {x:Operand} (ho:o.op=.unOp op t x) (hx:eT w I O D (ρ x) (a.eval x))
  (h:fM Sp H (gT cfg dU (.unOp op t x) ρ) v ups r):fI P cfg cx H D w I O dU o a v ups:=by
 simp only [gT] at h;split at h
 ·rename_i b e;rw [e] at hx;obtain ⟨rfl,rfl⟩:=h.fE;refine fI.eO (x:=.bool _) hR ?_ (.pure (.bool _));simp [execOp,ho,hx.lK,Op.unary]
 ·rename_i k n e;rw [e] at hx;obtain ⟨hk1,h1⟩:=h.cu;have hk:k=.i64:=by simpa [yC] using hk1
  subst hk;obtain ⟨hp,rfl,rfl⟩:=h1.iB;refine fI.eO (x:=.int .i64 _) hR ?_ (.pure (.int _ _));simp [execOp,ho,hx.iO,Op.unary,Op.intArith,wrap_i64 hp]
 ·exact (fM.aX h).elim
theorem ads (hR:Rel cfg cx H D w I O) {x:Operand} (ho:o.op=.nilCheck x) (hx:eT w I O D (ρ x) (a.eval x))
  (h:fM Sp H (gT cfg dU (.nilCheck x) ρ) v ups r):fI P cfg cx H D w I O dU o a v ups:=by
 simp only [gT] at h;split at h
 ·rename_i ob i off e;rw [e] at hx;obtain ⟨obj,_,nK,h1⟩:=h.nP;obtain ⟨rfl,rfl⟩:=h1.fE;cases hp:O ob with
  | none=>rw [(hR.dom ob).1 hp] at nK; cases nK
  | some p=>
   obtain ⟨b,bo,sz,h1,h2,h3⟩:=hx.oL hp;exact fI.eO hR (by simp [execOp,ho,h3]) (h3 ▸ hx)
 ·rename_i cs e;rw [e] at hx;obtain ⟨rfl,rfl⟩:=h.fE;generalize hxe:a.eval x=xv at hx;have hx0:=hx;cases hx.YH;exact fI.eO hR (by simp [execOp,ho,hxe]) hx0
 ·rename_i f cs e;rw [e] at hx;obtain ⟨rfl,rfl⟩:=h.fE;obtain ⟨vs,h1,h2,h3⟩:=hx.Mf;exact fI.eO hR (by simp [execOp,ho,h1]) (h1 ▸ hx)
 ·exact (fM.aX h).elim
theorem afo (hR:Rel cfg cx H D w I O) {t:Operand} {i:Nat} (ho:o.op=.extract t i) (hx:eT w I O D (ρ t) (a.eval t))
  (h:fM Sp H (gT cfg dU (.extract t i) ρ) v ups r):fI P cfg cx H D w I O dU o a v ups:=by
 simp only [gT] at h;split at h
 ·rename_i vs e;rw [e] at hx;obtain ⟨hl,h1⟩:=h.cu;obtain ⟨rfl,rfl⟩:=h1.fE;obtain ⟨xs,h1,h2,h3⟩:=hx.Ja;have hl:i<vs.length:=by simpa using hl
  have hi:i<xs.size:=by omega
  refine fI.eO (x:=xs.getD i Go.undef) hR ?_ (h3 i hl);simp [execOp,ho,h1,Instr.extract,Array.getElem?_eq_getElem hi]
 ·exact (fM.aX h).elim
theorem agW {l:List Operand} (h:∀x∈l,eT w I O D (ρ x) (a.eval x)):∀j,j<(l.map ρ).length→eT w I O D (nth (l.map ρ) j) ((l.map a.eval).toArray.getD j Go.undef):=by
 intro j hj;have hj':j<l.length:=by simpa using hj
 rw [uJ];simp [hj'];exact h _ (List.getElem_mem hj')
theorem adt (hR:Rel cfg cx H D w I O) {fn:Fn} {first cap:Array Operand} (ho:o.op=.makeFunc fn first cap) (hx:∀x∈cap.toList,eT w I O D (ρ x) (a.eval x))
  (h:fM Sp H (gT cfg dU (.makeFunc fn first cap) ρ) v ups r):fI P cfg cx H D w I O dU o a v ups:=by
 simp only [gT] at h;split at h
 ·rename_i f e;obtain ⟨rfl,rfl⟩:=h.fE;have hf:first=#[]:=by simpa using e
  subst hf;refine fI.eO (x:=.func (.func f) #[] (cap.map a.eval)) hR (by simp [execOp,ho,Instr.makeFunc]) (.fn (by simp) fun j hj=>?_);have:=agW hx j hj;simpa using this
 ·exact (fM.aX h).elim
theorem anV (hc:iy P cfg) (hR:Rel cfg cx H D w I O) {c:Call} (ho:o.op=.call c) (hcl:c.callee=.builtin .cap) (hx:∀x∈c.args.toList,eT w I O D (ρ x) (a.eval x))
  (h:fM Sp H (gT cfg dU (.call c) ρ) v ups r):fI P cfg cx H D w I O dU o a v ups:=by
 simp only [gT,hcl] at h;split at h
 ·rename_i es n g t e1 e2;obtain ⟨ti,ht,h1⟩:=h.lQ;obtain ⟨x,hxe⟩:∃x,c.args=#[x]:=by
   match hl:c.args.toList with
   | []=>simp [hl] at e1
   | [x]=>exact ⟨x,by rw [← Array.toList_inj]; simpa using hl⟩
   | x::y::l=>simp [hl] at e1
  have e1':ρ x=.sl es n true g:=by simpa [hxe] using e1
  have hx':eT w I O D (.sl es n true g) (a.eval x):=e1' ▸ hx x (by simp [hxe]);have hte:c.argTypes=#[t]:=by rw [← Array.toList_inj]; simpa using e2
  obtain ⟨_,dd,_,_,hud,_,_,_,_,_,_,_,hm⟩:=(hc.ty t ti ht).ex;split at h1
  ·rename_i e;rw [e] at hm;have hm:dd=.slice _:=hm;subst hm;obtain ⟨rfl,rfl⟩:=h1.fE;generalize hxv:a.eval x=xv at hx';have hq:=hx'.Av;cases hq with
   | @sl _ _ _ _ aa cap b off vs hcap hfull ha hes hm h1 hr=>
   have hcn:cap=n:=hfull rfl;subst hcn;refine fI.eO (x:=.int .i64 _) hR ?_ (.pure (.int _ _));simp [execOp,ho,hcl,resolve,invoke,builtin,Builtin.cap_,hxe,hte,hxv,bX hud,goInt]
  ·exact (fM.aX h1).elim
 ·exact (fM.aX h).elim
theorem anW (hc:iy P cfg) (hR:Rel cfg cx H D w I O) {c:Call} (ho:o.op=.call c) (hcl:c.callee=.builtin .len) (hx:∀x∈c.args.toList,eT w I O D (ρ x) (a.eval x))
  (h:fM Sp H (gT cfg dU (.call c) ρ) v ups r):fI P cfg cx H D w I O dU o a v ups:=by
 simp only [gT,hcl] at h;split at h
 ·rename_i u t e1 e2;obtain ⟨ti,ht,h1⟩:=h.lQ;obtain ⟨x,hxe⟩:∃x,c.args=#[x]:=by
   match hl:c.args.toList with
   | []=>simp [hl] at e1
   | [x]=>exact ⟨x,by rw [← Array.toList_inj]; simpa using hl⟩
   | x::y::l=>simp [hl] at e1
  have e1':ρ x=u:=by simpa [hxe] using e1
  have hx':eT w I O D u (a.eval x):=e1' ▸ hx x (by simp [hxe]);have hte:c.argTypes=#[t]:=by rw [← Array.toList_inj]; simpa using e2
  obtain ⟨_,dd,_,_,hud,_,_,_,_,_,_,_,hm⟩:=(hc.ty t ti ht).ex;split at h1
  ·rename_i e;rw [e] at hm;have hm:dd=.slice _:=hm;subst hm;obtain ⟨rfl,rfl⟩:=h1.fE;generalize hxv:a.eval x=xv at hx';cases hx'.Av;refine fI.eO (x:=.int .i64 _) hR ?_ (.pure (.int _ _));simp [execOp,ho,hcl,resolve,invoke,builtin,Builtin.len_,hxe,hte,hxv,bX hud,goInt]
  ·rename_i ob i n f _ e;rw [e] at hm;have hm:dd=.slice _:=hm;subst hm;obtain ⟨obj,_,nK,h2⟩:=h1.nP;obtain ⟨rfl,rfl⟩:=h2.fE;cases hp:O ob with
   | none=>rw [(hR.dom ob).1 hp] at nK; cases nK
   | some p=>
    obtain ⟨aa,cap,hxv,_⟩:=hx'.mU hp;refine fI.eO (x:=.int .i64 _) hR ?_ (.pure (.int _ _));simp [execOp,ho,hcl,resolve,invoke,builtin,Builtin.len_,hxe,hte,hxv,bX hud,goInt]
  ·rename_i s e;rw [e] at hm;have hm:dd=.string:=hm;subst hm;obtain ⟨rfl,rfl⟩:=h1.fE;refine fI.eO (x:=.int .i64 _) hR ?_ (.pure (.int _ _));simp [execOp,ho,hcl,resolve,invoke,builtin,Builtin.len_,hxe,hte,hx'.BU,bX hud,goInt]
  ·exact (fM.aX h1).elim
 ·exact (fM.aX h).elim
theorem args2 {c:Call} {u u':AV} (e:c.args.toList.map ρ=[u,u']):∃x y,c.args=#[x,y]∧ρ x=u∧ρ y=u':=by
 match hl:c.args.toList with
 | []=>simp [hl] at e
 | [x]=>simp [hl] at e
 | [x,y]=>
  rw [hl] at e
  simp at e
  exact ⟨x,y,by rw [← Array.toList_inj]; simpa using hl,e.1,e.2⟩
 | x::y::z::l=>simp [hl] at e
theorem anX (hR:Rel cfg cx H D w I O) {c:Call} (ho:o.op=.call c) (hcl:c.callee=.builtin .min) (hx:∀x∈c.args.toList,eT w I O D (ρ x) (a.eval x))
  (h:fM Sp H (gT cfg dU (.call c) ρ) v ups r):fI P cfg cx H D w I O dU o a v ups:=by
 simp only [gT,hcl] at h;split at h
 ·rename_i k n k' n' e;obtain ⟨rfl,rfl⟩:=h.fE;obtain ⟨x,y,hxy,e1,e2⟩:=args2 e;have h1:=e1 ▸ hx x (by simp [hxy]);have h2:=e2 ▸ hx y (by simp [hxy]);refine fI.eO (x:=.int k _) hR ?_ (.pure (.int _ _));simp [execOp,ho,hcl,resolve,invoke,builtin,Builtin.min_,Builtin.min2,hxy,h1.iO,h2.iO]
 ·exact (fM.aX h).elim
theorem anY (hR:Rel cfg cx H D w I O) {c:Call} (ho:o.op=.call c) (hcl:c.callee=.builtin .max) (hx:∀x∈c.args.toList,eT w I O D (ρ x) (a.eval x))
  (h:fM Sp H (gT cfg dU (.call c) ρ) v ups r):fI P cfg cx H D w I O dU o a v ups:=by
 simp only [gT,hcl] at h;split at h
 ·rename_i k n k' n' e;obtain ⟨rfl,rfl⟩:=h.fE;obtain ⟨x,y,hxy,e1,e2⟩:=args2 e;have h1:=e1 ▸ hx x (by simp [hxy]);have h2:=e2 ▸ hx y (by simp [hxy]);refine fI.eO (x:=.int k _) hR ?_ (.pure (.int _ _));simp [execOp,ho,hcl,resolve,invoke,builtin,Builtin.max_,Builtin.max2,hxy,h1.iO,h2.iO]
 ·exact (fM.aX h).elim
theorem iy.field (hc:iy P cfg) {s:TypeId} {ts:P7} {f oo t:Nat} (h:look cfg.ty s=some ts) (hf:OC ts f=some (oo,t)):
  ∃fields fd,P.underlying s=some (.struct fields)∧fields[f]? = some fd∧fd.offset=oo∧fd.type=t:=by
 obtain ⟨_,dd,_,_,hud,_,_,_,_,_,_,_,hm⟩:=(hc.ty s ts h).ex;unfold OC at hf;split at hf
 ·rename_i fs e;rw [e] at hm;obtain ⟨fields,rfl,hfs⟩:=hm;subst hfs;have key:∀(l:List Field) (f:Nat),Xf (l.map fun f=>(f.offset,f.type)) f=some (oo,t)→∃fd,l[f]? = some fd∧fd.offset=oo∧fd.type=t:=by
   intro l;induction l with
   | nil=>intro f h; simp [Xf] at h
   | cons x l ih=>
    intro f h;cases f with
    | zero=>simp [Xf] at h; exact ⟨x,rfl,h.1,h.2⟩
    | succ f=>simp only [List.map_cons,Xf] at h; simpa using ih f h
  obtain ⟨fd,h1,h2,h3⟩:=key _ _ hf;exact ⟨fields,fd,hud,by simpa using h1,h2,h3⟩
 ·cases hf
theorem Mg (l:List AV) (k j:Nat):nth (l.drop k) j=nth l (k+j):=by
 simp [uJ]
theorem abX (hc:iy P cfg) (hR:Rel cfg cx H D w I O) {s:TypeId} {x:Operand} {f:Nat} (ho:o.op=.fieldAddr s x f) (hx:eT w I O D (ρ x) (a.eval x))
  (h:fM Sp H (gT cfg dU (.fieldAddr s x f) ρ) v ups r):fI P cfg cx H D w I O dU o a v ups:=by
 simp only [gT] at h;obtain ⟨ts,hs,h1⟩:=h.lQ;split at h1
 ·rename_i oo t hf;obtain ⟨ti,ht,h2⟩:=h1.lQ;obtain ⟨hpos,h3⟩:=h2.cu;have hpos:0<ti.size:=by simpa using hpos
  obtain ⟨fields,fd,hu,hfd,ho1,ho2⟩:=hc.field hs hf;obtain ⟨i,_,_,hi,_,_,hsz,_⟩:=(hc.ty t ti ht).ex;have hne:¬ i.size=0:=by omega
  have place:∀b bo,(Instr.fieldAt s (.pointer (some ⟨b,bo,none⟩)) f).run P w=.ok (.pointer (some ⟨b,bo+oo,none⟩)) w:=by
   intro b bo;simp [Instr.fieldAt,Instr.sureAddr,bX hu,hfd,fieldPlace,ho1,ho2,gJ hi,hne,Addr.add_mid]
  split at h3
  ·rename_i ob i off e;rw [e] at hx;obtain ⟨obj,_,nK,h4⟩:=h3.nP;obtain ⟨rfl,rfl⟩:=h4.fE;cases hp:O ob with
   | none=>rw [(hR.dom ob).1 hp] at nK; cases nK
   | some p=>
    obtain ⟨b,bo,sz,h5,h6,h7⟩:=hx.oL hp;refine fI.eO (x:=.pointer (some ⟨b,bo+(i*p.es+(off+oo)),none⟩)) hR ?_ (.ptr hp h5 h6);have:bo+(i*p.es+off)+oo=bo+(i*p.es+(off+oo)):=by omega
    simp [execOp,ho,h7,place,this]
  ·rename_i cs e;rw [e] at hx;obtain ⟨rfl,rfl⟩:=h3.fE;generalize hxv:a.eval x=xv at hx;cases hx.YH with
   | ro b off vs hI hm hr=>
    refine fI.eO (x:=.pointer (some ⟨b,off+oo,none⟩)) hR (by simp [execOp,ho,hxv,place]) (.pure (.ro b (off+oo) (fun j=>vs (oo+j)) hI (fun j hj=>?_) fun j hj=>?_))
    ·have:=hm (oo+j) (by simp at hj; omega);rw [← this,Nat.add_assoc]
    ·rw [Mg]; exact hr (oo+j) (by simp at hj; omega)
  ·exact (fM.aX h3).elim
 ·exact (fM.aX h1).elim
end
end Go.Ab
namespace Go.Ab
section
variable {P:Program} {cfg:xV} {cx:Ctx} {H:Nat→Option dY} {D:Nat→Prop} {w:World} {I:Nat→Prop} {O:OM} {Sp:ou}
variable {dU:Nat} {o:Oper} {a:Act} {ρ:Operand→AV} {v:AV} {ups:lC} {r:List Nat}
theorem iy.agg (hc:iy P cfg) {t:TypeId} {ti:P7} (h:look cfg.ty t=some ti):∃i d,P.info? t=some i∧P.underlying t=some d∧d.isRow=ti.agg∧i.size=ti.size:=by
 obtain ⟨i,d,z,h1,h2,h3,h4,h5,h6,_⟩:=(hc.ty t ti h).ex;exact ⟨i,d,h1,h2,h6,h4⟩
theorem UU {t:TypeId} {d:TypeDesc} (h:P.underlying t=some d) (w:World):(isAgg t).run P w=.ok d.isRow w:=by
 unfold isAgg;rw [Sem.run_bind,bX h w];cases d<;>simp
theorem qK (hc:iy P cfg) {t:TypeId} {ti:P7} (ht:look cfg.ty t=some ti) {cs:List AV} (h:fM Sp H (Aq ti cs) v ups r) (b bo:Nat) (f:Nat→Value)
  (hm:∀j,j<cs.length→w.cell? ⟨b,bo+j,none⟩=some (f j)) (hr:∀j,j<cs.length→eT w I O D (nth cs j) (f j)):
  ups=[]∧∃x,(Instr.loadAt t (.pointer (some ⟨b,bo,none⟩))).run P w=.ok x w∧eT w I O D v x:=by
 obtain ⟨i,d,hi,hu,hd,hs⟩:=hc.agg ht;unfold Aq at h;cases ha:ti.agg with
 | true=>
  simp only [ha] at h;obtain ⟨hl,h1⟩:=h.cu;obtain ⟨rfl,rfl⟩:=h1.fE;have hl:ti.size≤cs.length:=by simpa using hl
  refine ⟨rfl,.agg ((List.range ti.size).map f).toArray,?_,.agg (by simp [Nat.min_eq_left hl]) fun j hj=>?_⟩
  ·refine run_loadAt_mid w b bo t _ d (fun j u hj=>?_) hu (by rw [hd,ha]) (by simp [hi,hs]);have hlt:j<ti.size:=by
    rcases Nat.lt_or_ge j ti.size with h | h
    ·exact h
    ·simp [h] at hj
   simp [hlt] at hj;rw [← hj];exact hm j om
  ·have hj':j<ti.size:=by simp at hj; omega
   have e:nth (List.take ti.size cs) j=nth cs j:=by simp [uJ,hj']
   rw [e];simpa [hj'] using hr j om
 | false=>
  simp only [ha] at h;cases cs with
  | nil=>exact (fM.aX h).elim
  | cons c cs=>
   obtain ⟨rfl,rfl⟩:=h.fE;refine ⟨rfl,f 0,?_,hr 0 (by simp)⟩;have h0:=hm 0 (by simp);have hag:(isAgg t).run P w=.ok false w:=by rw [UU hu,hd,ha]
   simp only [Nat.add_zero] at h0;simp [Instr.loadAt,Instr.sureAddr,loadVar,Sem.run_bind,hag,load,Sem.run,h0]
theorem Rel.live (hR:Rel cfg cx H D w I O) {ob:Nat} {x:dY} (h:H ob=some x):∃p,O ob=some p∧iY w I O D p x:=by
 cases hp:O ob with
 | none=>rw [(hR.dom ob).1 hp] at h; cases h
 | some p=>exact ⟨p,rfl,hR.objs ob x p h hp⟩
theorem uZ {b sz j:Nat} (h:Mc w b sz) (hj:j<sz):w.cell? ⟨b,j,none⟩=some (cellAt w b j):=by
 obtain ⟨u,hu⟩:=Option.isSome_iff_exists.1 (h j hj).1;simp [cellAt,hu]
theorem Yf {i j:Nat} (h:(isZ i&&isZ j)=true):i=0∧j=0:=by
 cases i<;>cases j<;>simp_all [isZ]
theorem agY (l m:List AV) (j:Nat):nth (l++m) j=if j<l.length then nth l j else nth m (j - l.length):=by
 rw [uJ,uJ,uJ];by_cases h:j<l.length
 ·rw [if_pos h]; simp [List.getElem?_append_left h]
 ·rw [if_neg h]; simp [List.getElem?_append_right (by omega:l.length≤j)]
theorem aam {es:Nat} {g:Nat→AV}:∀(k i:Nat),(∀j,i≤j→j<i+k→(g j).cells.length=es)→(kQ k i g).length=k*es∧∀a b,a<k→b<es→nth (kQ k i g) (a*es+b)=nth (g (i+a)).cells b:=by
 intro k;induction k with
 | zero=>intro i _; exact ⟨by simp [kQ],fun a b h=>absurd h (Nat.not_lt_zero _)⟩
 | succ k ih=>
  intro i h;obtain ⟨h1,h2⟩:=ih (i+1) (fun j hj hj'=>h j om om);have h0:=h i (Nat.le_refl _) om;refine ⟨by simp only [kQ,List.length_append,h0,h1]; rw [Nat.succ_mul]; omega,fun a b ha hb=>?_⟩;simp only [kQ];rw [agY,h0];cases a with
  | zero=>simp only [Nat.zero_mul,Nat.zero_add,Nat.add_zero]; rw [if_pos hb]
  | succ a=>
   rw [if_neg (by rw [Nat.succ_mul]; omega)];have e1:(a+1)*es+b - es=a*es+b:=by rw [Nat.succ_mul]; omega
   rw [e1,h2 a b om hb];congr 2;congr 1;omega
theorem anZ {q n es:Nat} (h:q<n*es):q / es<n∧q % es<es∧q / es*es+q % es=q:=by
 have hes:0<es:=by
  rcases Nat.eq_zero_or_pos es with h0 | h0
  ·subst h0; simp at h
  ·exact h0
 refine ⟨Nat.div_lt_of_lt_mul (by rw [Nat.mul_comm]; exact h),Nat.mod_lt _ hes,?_⟩;rw [Nat.mul_comm];exact Nat.div_add_mod q es
theorem Sd {w:World} {I:Nat→Prop} {es n b bo:Nat} {g:Nat→AV} (hlen:∀i,i<n→(g i).cells.length=es) (hcs:∀i j,i<n→j<es→iG w I (nth (g i).cells j) (cellAt w b (bo+(i*es+j)))∧(cellAt w b (bo+(i*es+j))).oneCell'=true):
  (kQ n 0 g).length=n*es∧∀q,q<(kQ n 0 g).length→iG w I (nth (kQ n 0 g) q) (cellAt w b (bo+q)):=by
 obtain ⟨h1,h2⟩:=aam n 0 (fun j _ hj=>hlen j om);refine ⟨h1,fun q hq=>?_⟩;rw [h1] at hq;obtain ⟨h3,h4,h5⟩:=anZ hq;have h6:=h2 (q / es) (q % es) h3 h4;have h7:=(hcs (q / es) (q % es) h3 h4).1;rw [h5] at h6 h7;rw [h6,Nat.zero_add];exact h7
theorem al2 (hc:iy P cfg) (hR:Rel cfg cx H D w I O) {t:TypeId} {x:Operand} (ho:o.op=.load t x) (hx:eT w I O D (ρ x) (a.eval x))
  (h:fM Sp H (gT cfg dU (.load t x) ρ) v ups r):fI P cfg cx H D w I O dU o a v ups:=by
 simp only [gT] at h;obtain ⟨ti,ht,h1⟩:=h.lQ;split at h1
 ·rename_i ob i off e;rw [e] at hx;obtain ⟨obj,_,nK,h2⟩:=h1.nP;obtain ⟨p,hp,hO⟩:=hR.live nK;obtain ⟨b,bo,sz,hpl,hi,hxv⟩:=hx.oL hp;cases obj with
  | map=>exact (fM.aX h2).elim
  | box cs=>
   obtain ⟨hn,b',pQ,sz',hpl',hal,hle,hcs⟩:=hO;rw [hpl] at hpl';cases hpl';have hi0:i=0:=by omega
   subst hi0;obtain ⟨rfl,x',hrun,hrep⟩:=qK (w:=w) (I:=I) (O:=O) (D:=D) hc ht h2 b (bo+off) (fun j=>cellAt w b (bo+(off+j)))
    (fun j hj=>by rw [Nat.add_assoc]; exact uZ hal (by simp at hj; omega)) (fun j hj=>by rw [Mg]; exact hcs (off+j) (by simp at hj; omega))
   refine fI.eO hR ?_ hrep;simp only [Nat.zero_mul,Nat.zero_add] at hxv;simp [execOp,ho,hxv,hrun]
  | row es n g=>
   obtain ⟨hn,hes,hlen,hpl' | ⟨b',pQ,sz',hpl',hal,hle,hcs⟩⟩:=hO
   ·rw [hpl] at hpl'; cases hpl'.2
   rw [hpl] at hpl';cases hpl';simp only at h2;split at h2
   ·obtain ⟨hz,h3⟩:=h2.cu;obtain ⟨rfl,rfl⟩:=Yf hz;obtain ⟨hrl,hrr⟩:=Sd hlen hcs;obtain ⟨rfl,x',hrun,hrep⟩:=qK (w:=w) (I:=I) (O:=O) (D:=D) hc ht h3 b bo (fun j=>cellAt w b (bo+j)) (fun j hj=>uZ hal om) (fun j hj=>.pure (hrr j hj));refine fI.eO hR ?_ hrep;simp only [Nat.zero_mul,Nat.zero_add,Nat.add_zero] at hxv;simp [execOp,ho,hxv,hrun]
   obtain ⟨hk,h3⟩:=h2.cu;have hin:i<n:=by omega
   have hmul:(i+1)*es≤n*es:=Nat.mul_le_mul_right _ hin;have auE:(i+1)*es=i*es+es:=Nat.succ_mul _ _;have hli:=hlen i hin;obtain ⟨rfl,x',hrun,hrep⟩:=qK (w:=w) (I:=I) (O:=O) (D:=D) hc ht h3 b (bo+(i*es+off)) (fun j=>cellAt w b (bo+(i*es+(off+j))))
    (fun j hj=>by
      have:bo+(i*es+off)+j=bo+(i*es+(off+j)):=by omega
      rw [this]
      exact uZ hal (by simp at hj; omega)) (fun j hj=>by rw [Mg]; exact .pure (hcs i (off+j) hin (by simp at hj; omega)).1)
   refine fI.eO hR ?_ hrep;rw [hes] at hxv;simp [execOp,ho,hxv,hrun]
 ·rename_i cs e;rw [e] at hx;generalize hxv:a.eval x=xv at hx;cases hx.YH with
  | ro b off vs hI hm hr=>
   obtain ⟨rfl,x',hrun,hrep⟩:=qK (w:=w) (I:=I) (O:=O) (D:=D) hc ht h1 b off vs hm (fun j hj=>.pure (hr j hj));exact fI.eO hR (by simp [execOp,ho,hxv,hrun]) hrep
 ·exact (fM.aX h1).elim
theorem ajq (hc:iy P cfg) (hR:Rel cfg cx H D w I O) {s:TypeId} {x:Operand} {f:Nat} (ho:o.op=.field s x f) (hx:eT w I O D (ρ x) (a.eval x))
  (h:fM Sp H (gT cfg dU (.field s x f) ρ) v ups r):fI P cfg cx H D w I O dU o a v ups:=by
 simp only [gT] at h;obtain ⟨ts,hs,h1⟩:=h.lQ;split at h1
 ·rename_i oo t hf;obtain ⟨ti,ht,h2⟩:=h1.lQ;obtain ⟨fields,fd,hu,hfd,ho1,ho2⟩:=hc.field hs hf;obtain ⟨i,d,hi,hu',hd,hsz⟩:=hc.agg ht;split at h2
  ·rename_i cs e;rw [e] at hx;obtain ⟨vs,hxv,hl,hr⟩:=hx.vV;have hag:=UU hu' w;unfold Aq at h2;cases ha:ti.agg with
   | true=>
    simp only [ha] at h2;obtain ⟨hle,h3⟩:=h2.cu;obtain ⟨rfl,rfl⟩:=h3.fE;have hle:ti.size≤cs.length - oo:=by simpa using hle
    rw [hd,ha] at hag;have e1:(part t vs oo).run P w=.ok (.agg (vs.extract oo (oo+ti.size))) w:=by simp [part,Sem.run_bind,hag,gJ hi,hsz]
    refine fI.eO (x:=.agg (vs.extract oo (oo+ti.size))) hR ?_ (.agg ?_ fun j hj=>?_)
    ·rw [← ho2] at e1;simp only [execOp,ho,Instr.field,hxv,Sem.run_bind,bX hu,hfd,asAgg,Sem.run_pure,Result.andThen_ok,e1,ho1]
    ·simp; omega
    ·have hj':j<ti.size:=by simp at hj; omega
     have:=hr (oo+j) om;have e:nth (List.take ti.size (List.drop oo cs)) j=nth cs (oo+j):=by simp [uJ,hj']
     rw [e];have h4:oo+j<vs.size:=by omega
     simp [h4] at this;have h5:(vs.extract oo (oo+ti.size))[j]? = vs[oo+j]? := by
      rw [Array.getElem?_extract,if_pos om]
     simp only [Array.getD_eq_getD_getElem?, h5];simpa [h4] using this
   | false=>
    simp only [ha] at h2;rw [hd,ha] at hag;cases hcs:List.drop oo cs with
    | nil=>simp only [hcs] at h2; exact (fM.aX h2).elim
    | cons c l=>
     simp only [hcs] at h2;obtain ⟨rfl,rfl⟩:=h2.fE;have hlt:oo<cs.length:=by
      rcases Nat.lt_or_ge oo cs.length with h | h
      ·exact h
      ·rw [List.drop_eq_nil_of_le h] at hcs; cases hcs
     have hc0:nth cs oo=v:=by
      have:=Mg cs oo 0;rw [hcs] at this;simpa [nth] using this.symm
     have h4:oo<vs.size:=by omega
     have e1:(part t vs oo).run P w=.ok (vs.getD oo Go.undef) w:=by simp [part,Sem.run_bind,hag,Array.getElem?_eq_getElem h4]
     refine fI.eO (x:=vs.getD oo Go.undef) hR ?_ (hc0 ▸ hr oo hlt);rw [← ho2] at e1;simp only [execOp,ho,Instr.field,hxv,Sem.run_bind,bX hu,hfd,asAgg,Sem.run_pure,Result.andThen_ok,e1,ho1]
  ·exact (fM.aX h2).elim
 ·exact (fM.aX h1).elim
theorem yE {es n size:Nat} (h:QI es n size=true) (hn:n≠0):es=size:=by
 unfold QI at h;cases hb:Nat.beq es size with
 | true=>exact Nat.eq_of_beq_eq_true hb
 | false=>
  simp only [hb] at h;cases n with
  | zero=>exact absurd rfl hn
  | succ n=>simp [isZ] at h
theorem Sg (i j:Nat):addN i j=i+j:=by cases i<;>simp [addN]
theorem aa9 (hc:iy P cfg) {t:TypeId} {n et:Nat} (h:aje cfg t=some (n,et)):P.underlying t=some (.array n et)∧∃ti,look cfg.ty t=some ti∧Yx ti.desc=some (n,et):=by
 unfold aje at h;split at h
 ·rename_i ti ht;refine ⟨?_,ti,ht,h⟩;obtain ⟨_,d,_,_,hu,_,_,_,_,_,_,_,hm⟩:=(hc.ty t ti ht).ex;unfold Yx at h;split at h
  ·rename_i n' e' hd;cases h;rw [hd] at hm;have hm:d=.array n et:=hm;rw [hu,hm]
  ·cases h
 ·cases h
theorem abY (hc:iy P cfg) (hR:Rel cfg cx H D w I O) {t:TypeId} {x ix:Operand} (ho:o.op=.indexAddr t x ix) (hx:eT w I O D (ρ x) (a.eval x)) (hix:eT w I O D (ρ ix) (a.eval ix))
  (h:fM Sp H (gT cfg dU (.indexAddr t x ix) ρ) v ups r):fI P cfg cx H D w I O dU o a v ups:=by
 simp only [gT] at h;split at h
 ·rename_i n et harr;obtain ⟨hu,_⟩:=aa9 hc harr;obtain ⟨ei,hei,h1⟩:=h.lQ;split at h1
  ·rename_i k ii ob j off e1 e2;rw [e1] at hix;rw [e2] at hx;have adu:=hix.iO;obtain ⟨obj,_,nK,h2⟩:=h1.nP;obtain ⟨p,hp,hO⟩:=hR.live nK;obtain ⟨b,bo,sz,hpl,hjn,hxv⟩:=hx.oL hp;cases obj with
   | map=>exact (fM.aX h2).elim
   | box cs=>exact (fM.aX h2).elim
   | row es n' g=>
    obtain ⟨c1,h3⟩:=h2.cu;obtain ⟨c2,h4⟩:=h3.cu;obtain ⟨c3,h5⟩:=h4.cu;obtain ⟨⟨hn0,hn1⟩,rfl,rfl⟩:=h5.iB;obtain ⟨rfl,rfl⟩:=Yf c1;have c2:es=ei.size:=Nat.eq_of_beq_eq_true c2;have c3:n'=n:=Nat.eq_of_beq_eq_true c3;have UW:p.es=es:=hO.2.1;have hpn:p.n=n':=hO.1;obtain ⟨i,_,z,hi,_,hz,hs,_⟩:=(hc.ty et ei hei).ex;simp only [Nat.zero_mul,Nat.add_zero] at hxv;refine fI.eO (x:=.pointer (some ⟨b,bo+(ii.toNat*p.es+0),none⟩)) hR ?_ (.ptr hp hpl om);simp [execOp,ho,hxv,adu,Instr.indexAt,asIntOf,Instr.sureAddr,bX hu,gJ hi,hn0,hn1,hs,← c2,UW,Addr.add_mid]
  ·exact (fM.aX h1).elim
 obtain ⟨tt,e,ti,h1,h2,h3,h4⟩:=h.pU;obtain ⟨hu,i,z,hi,hz,hs,hby,hzs⟩:=hc.slice h1 h2 h3;split at h4
 ·rename_i k n eix;rw [eix] at hix;have adu:=hix.iO;split at h4
  ·rename_i es m full g ex;rw [ex] at hx;obtain ⟨hes,h5⟩:=h4.cu;obtain ⟨⟨hn0,hn1⟩,rfl,rfl⟩:=h5.iB;generalize hxv:a.eval x=xv at hx;cases hx.Av with
   | @sl _ _ _ _ aa cap b off vs hcap hfull ha hes' hm h1 hr=>
    have hm0:m≠0:=by omega
    obtain ⟨rfl,hI⟩:=ha hm0;have arb:=yE hes hm0;have hnm:n.toNat<m:=by omega
    refine fI.eO (x:=.pointer (some ⟨b,off+n.toNat*es,none⟩)) hR ?_ (.pure (.ro b (off+n.toNat*es) (fun j=>vs n.toNat j) hI (fun j hj=>?_) fun j hj=>hr _ _ hnm (by rw [hes' _ hnm] at hj; exact hj)))
    ·simp [execOp,ho,hxv,adu,Instr.indexAt,asIntOf,bX hu,gJ hi,hn0,hn1,hs,arb,Addr.add_mid]
    ·rw [Nat.add_assoc];exact hm _ _ hnm (by rw [hes' _ hnm] at hj; exact hj)
  ·rename_i ob j m full ex;rw [ex] at hx;obtain ⟨obj,_,nK,h5⟩:=h4.nP;obtain ⟨p,hp,hO⟩:=hR.live nK;cases obj with
   | map=>exact (fM.aX h5).elim
   | box cs=>exact (fM.aX h5).elim
   | row es n' g=>
    obtain ⟨hes,h6⟩:=h5.cu;have hes:es=ti.size:=Nat.eq_of_beq_eq_true hes;obtain ⟨⟨hn0,hn1⟩,rfl,rfl⟩:=h6.iB;obtain ⟨aa,cap,hxv,hjm,hcap,hfull,hpl⟩:=hx.mU hp;obtain ⟨b,bo,sz,adv,rfl,hle⟩:=hpl om;have UW:p.es=es:=hO.2.1;have hnm:n.toNat<m:=by omega
    rw [Sg];have:bo+j*p.es+n.toNat*p.es=bo+((j+n.toNat)*p.es+0):=by rw [Nat.add_mul]; omega
    refine fI.eO (x:=.pointer (some ⟨b,bo+((j+n.toNat)*p.es+0),none⟩)) hR ?_ (.ptr hp adv om);rw [← this];simp [execOp,ho,hxv,adu,Instr.indexAt,asIntOf,bX hu,gJ hi,hn0,hn1,hs,← hes,UW,Addr.add_mid]
  ·exact (fM.aX h4).elim
 ·exact (fM.aX h4).elim
end
end Go.Ab
namespace Go.Ab
section
variable {P:Program} {cfg:xV} {cx:Ctx} {H:Nat→Option dY} {D:Nat→Prop} {w:World} {I:Nat→Prop} {O:OM} {Sp:ou}
variable {dU:Nat} {o:Oper} {a:Act} {ρ:Operand→AV} {v:AV} {ups:lC} {r:List Nat}
theorem P9 {t e:TypeId} {i:TypeInfo} (hu:P.underlying t=some (.slice e)) (hi:P.info? e=some i) (aa:Option Addr) (len cap:Nat) (lo hi' mx:Option Value) (l h m:Nat)
  (hb:(Instr.sliceBounds true len cap lo hi' mx).run P w=.ok (l,h,m) w):
  (Instr.sliceAt t (.slice aa len cap) lo hi' mx).run P w=.ok (.slice (if m=l then aa else aa.map (·.add (l*i.size))) (h - l) (m - l)) w:=by
 simp [Instr.sliceAt,Instr.slice,bX hu,hb,gJ hi]
theorem apB (len cap:Nat):(Instr.sliceBounds true len cap none none none).run P w=.ok (0,len,cap) w:=by
 simp [Instr.sliceBounds]
theorem apC (len cap:Nat) (k:IntKind) (h:Int) (h0:0≤h) (h1:h≤cap):(Instr.sliceBounds true len cap none (some (.int k h)) none).run P w=.ok (0,h.toNat,cap) w:=by
 simp [Instr.sliceBounds,Instr.sliceBound,asIntOf,h0,h1]
theorem apD (len cap:Nat) (k:IntKind) (h:Int) (h0:0≤h) (h1:h≤cap):(Instr.sliceBounds true len cap none (some (.int k h)) (some (.int k h))).run P w=.ok (0,h.toNat,h.toNat) w:=by
 obtain ⟨n,rfl⟩:=Int.eq_ofNat_of_zero_le h0;simp at h1;simp [Instr.sliceBounds,Instr.sliceBound,asIntOf,h1]
theorem apE (len cap:Nat) (k:IntKind) (l:Int) (h0:0≤l) (h1:l≤len):(Instr.sliceBounds true len cap (some (.int k l)) none none).run P w=.ok (l.toNat,len,cap) w:=by
 simp [Instr.sliceBounds,Instr.sliceBound,asIntOf,h0,h1]
theorem apF (len cap:Nat) (k k':IntKind) (l h:Int) (h0:0≤l) (h1:l≤h) (h2:h≤cap):(Instr.sliceBounds true len cap (some (.int k l)) (some (.int k' h)) none).run P w=.ok (l.toNat,h.toNat,cap) w:=by
 obtain ⟨n,rfl⟩:=Int.eq_ofNat_of_zero_le h0;obtain ⟨m,rfl⟩:=Int.eq_ofNat_of_zero_le (Int.le_trans h0 h1);simp at h1 h2;simp [Instr.sliceBounds,Instr.sliceBound,asIntOf,h1,h2]
theorem apG (len cap:Nat) (k k':IntKind) (l h:Int) (h0:0≤l) (h1:l≤h) (h2:h≤cap):(Instr.sliceBounds true len cap (some (.int k l)) (some (.int k' h)) (some (.int k' h))).run P w=.ok (l.toNat,h.toNat,h.toNat) w:=by
 obtain ⟨n,rfl⟩:=Int.eq_ofNat_of_zero_le h0;obtain ⟨m,rfl⟩:=Int.eq_ofNat_of_zero_le (Int.le_trans h0 h1);simp at h1 h2;simp [Instr.sliceBounds,Instr.sliceBound,asIntOf,h1,h2]
theorem afp {es n cap size l h m:Nat} {full vX:Bool} {g:Nat→AV} {aa:Option Addr} (hp:iG w I (.sl es n full g) (.slice aa n cap)) (hlh:l≤h) (hhn:h≤n) (hhm:h≤m) (_hmc:m≤cap)
  (hf:vX=true→m=h) (hs:n≠0→es=size):iG w I (.sl es (h - l) vX (fun j=>g (l+j))) (.slice (if m=l then aa else aa.map (·.add (l*size))) (h - l) (m - l)):=by
 cases hp with
 | sl b off vs hcap hfull ha hes hm h1 hr=>
  refine .sl b (off+l*es) (fun i j=>vs (l+i) j) om (fun e=>by have:=hf e; omega) (fun hne=>?_) (fun i hi=>hes _ om) (fun i j hi hj=>?_) (fun i j hi hj=>h1 _ _ om hj) (fun i j hi hj=>hr _ _ om hj)
  ·obtain ⟨h1,h2⟩:=ha om;rw [if_neg om,h1,hs om];simp [Addr.add_mid,h2]
  ·have:=hm (l+i) j om hj;rw [← this,Nat.add_mul];congr 2;omega
theorem UY {x y:Option Operand} (h:EN x y=true):x=y:=by
 unfold EN at h;split at h
 ·rw [Nat.eq_of_beq_eq_true h]
 ·cases h
theorem agZ {mx:Option Operand} (h:(!mx.isSome)=true):mx=none:=by
 cases mx with
 | none=>rfl
 | some _=>cases h
theorem ajr {hi mx:Option Operand} {k:Pg} (hhi:∀y,hi=some y→eT w I O D (ρ y) (a.eval y)) (hmx:∀y,mx=some y→eT w I O D (ρ y) (a.eval y)) (h:fM Sp H (ahC ρ hi mx k) v ups r):(∃r',fM Sp H k v ups r')∧(mx.isSome=true→mx.map a.eval=hi.map a.eval):=by
 unfold ahC at h;cases mx with
 | none=>exact ⟨⟨_,h⟩,nofun⟩
 | some m=>
  cases hi with
  | none=>exact (fM.aX h).elim
  | some y=>
   simp only at h;have h1:=hhi y rfl;have h2:=hmx m rfl;split at h
   ·rename_i kk a1 kk' b1 e1 e2;obtain ⟨hk,h⟩:=h.cu;obtain ⟨he,h⟩:=h.vW;refine ⟨⟨_,h⟩,fun _=>?_⟩;rw [e1] at h1;rw [e2] at h2;have hk:kk=kk':=of_decide_eq_true hk;simp only [Option.map_some];rw [h1.iO,h2.iO,hk,he]
   ·exact (fM.aX h).elim
theorem ajs (n:Nat):(Instr.sliceBounds false n n none none none).run P w=.ok (0,n,n) w:=by simp [Instr.sliceBounds]
theorem ajt (n:Nat) (k:IntKind) (h:Int) (h0:0≤h) (h1:h≤n):(Instr.sliceBounds false n n none (some (.int k h)) none).run P w=.ok (0,h.toNat,n) w:=by
 simp [Instr.sliceBounds,Instr.sliceBound,asIntOf,h0,h1]
theorem ahK (hc:iy P cfg) (hR:Rel cfg cx H D w I O) {t:TypeId} {x:Operand} {lo hi mx:Option Operand} (ho:o.op=.slice t x lo hi mx) (hx:eT w I O D (ρ x) (a.eval x)) (hhi:∀y,hi=some y→eT w I O D (ρ y) (a.eval y)) {n et:Nat} (harr:aje cfg t=some (n,et))
  (h:fM Sp H (UM cfg et fun ei=>gL mx.isNone (match ρ x with
    | .ptr o i off=>.rd o fun
     | .row es n' _=>gL (isZ i&&isZ off) (gL (Nat.beq es ei.size) (gL (Nat.beq n' n) (ajh o n (lo.map ρ) (hi.map ρ))))
     | _=>.fail
    | _=>.fail)) v ups r):fI P cfg cx H D w I O dU o a v ups:=by
 obtain ⟨hu,_⟩:=aa9 hc harr;obtain ⟨ei,hei,h1⟩:=h.lQ;obtain ⟨hmx,h2⟩:=h1.cu;have hmx:mx=none:=by cases mx with | none=>rfl | some _=>cases hmx
 subst hmx;split at h2
 ·rename_i ob j off e1;rw [e1] at hx;obtain ⟨obj,_,nK,h3⟩:=h2.nP;obtain ⟨p,hp,hO⟩:=hR.live nK;obtain ⟨b,bo,sz,hpl,hjn,hxv⟩:=hx.oL hp;cases obj with
  | map=>exact (fM.aX h3).elim
  | box cs=>exact (fM.aX h3).elim
  | row es n' g=>
   obtain ⟨c1,h4⟩:=h3.cu;obtain ⟨c2,h5⟩:=h4.cu;obtain ⟨c3,h6⟩:=h5.cu;obtain ⟨rfl,rfl⟩:=Yf c1;have c2:es=ei.size:=Nat.eq_of_beq_eq_true c2;have c3:n'=n:=Nat.eq_of_beq_eq_true c3;subst c3;have UW:p.es=es:=hO.2.1;have hpn:p.n=n':=hO.1;have hsz:bo+n'*es≤sz:=by
    obtain ⟨_,_,_,hq | ⟨b',pQ,sz',hpl',_,hle,_⟩⟩:=hO
    ·rw [hpl] at hq; cases hq.2
    ·rw [hpl] at hpl'; cases hpl'; exact hle
   obtain ⟨i,_,z,al3,_,hz,hs,_⟩:=(hc.ty et ei hei).ex;simp only [Nat.zero_mul,Nat.add_zero] at hxv;have fin:∀(k:Nat) (full:Bool),k≤n'→(full=true→n'=k)→eT w I O D (.eH ob 0 k full) (.slice (some ⟨b,bo,none⟩) k n'):=fun k full hk hf=>
    .eH hp om hk hf (fun _=>⟨b,bo,sz,hpl,by simp,by rw [UW,Nat.zero_add]; exact hsz⟩) om
   unfold ajh at h6;split at h6
   ·rename_i e2 e3;obtain ⟨rfl,rfl⟩:=h6.fE;have hlo:lo=none:=by cases lo with | none=>rfl | some _=>cases e2
    have ard:hi=none:=by cases hi with | none=>rfl | some _=>cases e3
    subst hlo;subst ard;refine fI.eO (x:=.slice (some ⟨b,bo,none⟩) n' n') hR ?_ (fin n' true (Nat.le_refl _) (fun _=>rfl));have e0:(⟨b,bo,none⟩:Addr).add 0=⟨b,bo,none⟩:=by rw [Addr.add_mid]; rfl
    by_cases hz0:n'=0
    ·simp [execOp,ho,hxv,Instr.sliceAt,Instr.sureAddr,bX hu,ajs,gJ al3,hz0]
    ·simp [execOp,ho,hxv,Instr.sliceAt,Instr.sureAddr,bX hu,ajs,gJ al3,hz0,e0]
   ·rename_i k hh e2 e3;obtain ⟨⟨q0,q1⟩,rfl,rfl⟩:=h6.iB;have hlo:lo=none:=by cases lo with | none=>rfl | some _=>cases e2
    subst hlo;obtain ⟨y,hy,ey⟩:∃y,hi=some y∧ρ y=.int k hh:=by
     cases hi with
     | none=>cases e3
     | some y=>exact ⟨y,rfl,by simpa using e3⟩
    subst hy;have hyv:=hhi y rfl;rw [ey] at hyv;have hyv:=hyv.iO;refine fI.eO (x:=.slice (some ⟨b,bo,none⟩) hh.toNat n') hR ?_ (fin hh.toNat false om (fun h=>by cases h));by_cases hz0:n'=0
    ·have hb0:=ajt (P:=P) (w:=w) n' k hh q0 q1;have ht0:hh.toNat=0:=by omega
     rw [ht0] at hb0 ⊢;rw [hz0] at hb0 hu ⊢;simp [execOp,ho,hxv,hyv,Instr.sliceAt,Instr.sureAddr,bX hu,hb0,gJ al3]
    ·simp [execOp,ho,hxv,hyv,Instr.sliceAt,Instr.sureAddr,bX hu,ajt n' k hh q0 q1,gJ al3,hz0,(show (⟨b,bo,none⟩:Addr).add 0=⟨b,bo,none⟩ by rw [Addr.add_mid]; rfl)]
   ·exact (fM.aX h6).elim
 ·exact (fM.aX h2).elim
theorem ahL (hc:iy P cfg) (hR:Rel cfg cx H D w I O) {t:TypeId} {x:Operand} {lo hi mx:Option Operand} (ho:o.op=.slice t x lo hi mx) {ob i n:Nat} {f:Bool} (hx:eT w I O D (.eH ob i n f) (a.eval x))
  (hlo:∀y,lo=some y→eT w I O D (ρ y) (a.eval y)) (hhi:∀y,hi=some y→eT w I O D (ρ y) (a.eval y)) (hmx:∀y,mx=some y→eT w I O D (ρ y) (a.eval y))
  (h:fM Sp H (Dg cfg t fun ti=>.rd ob fun
    | .row es N _=>gL (Nat.beq es ti.size) (ai3 ob i n N f (lo.map ρ) (hi.map ρ) (mx.map ρ))
    | _=>.fail) v ups r):fI P cfg cx H D w I O dU o a v ups:=by
 obtain ⟨tt,e,ti,h1,h2,h3,h4⟩:=h.pU;obtain ⟨hu,ii,z,hi',hz,hs,hby,hzs⟩:=hc.slice h1 h2 h3;obtain ⟨obj,_,nK,h5⟩:=h4.nP;obtain ⟨p,hp,hO⟩:=hR.live nK;cases obj with
 | map=>exact (fM.aX h5).elim
 | box cs=>exact (fM.aX h5).elim
 | row es N g=>
  obtain ⟨c1,h6⟩:=h5.cu;have c1:es=ti.size:=Nat.eq_of_beq_eq_true c1;have UW:p.es=es:=hO.2.1;have hpn:p.n=N:=hO.1;obtain ⟨aa,cap,hxv,a1,a2,a3,a4⟩:=hx.mU hp;have hext:p.n≤i+cap:=(hxv ▸ hx).EO hp;have arg:∀(q:Option Operand) (k:IntKind) (m:Int),(∀y,q=some y→eT w I O D (ρ y) (a.eval y))→q.map ρ=some (.int k m)→q.map a.eval=some (.int k m):=by
   intro q k m hq hm;cases q with
   | none=>cases hm
   | some y=>
    have:=hq y rfl;simp only [Option.map_some,Option.some.injEq] at hm ⊢;rw [hm] at this;exact this.iO
  have non:∀(q:Option Operand),q.map ρ=none→q=none:=fun q hq=>by cases q with | none=>rfl | some _=>cases hq
  have part:∀l hh vX,l≤hh→i+hh≤N→(vX=true→f=true∧hh=n)→eT w I O D (.eH ob (i+l) (hh - l) vX) (.slice (if cap=l then aa else aa.map (·.add (l*ii.size))) (hh - l) (cap - l)):=by
   intro l hh vX q1 q2 q3;have hhc:hh≤cap:=by omega
   refine .eH hp om om (fun hf=>?_) (fun hne=>?_) om
   ·obtain ⟨e1,e2⟩:=q3 hf;have:=a3 e1;omega
   ·obtain ⟨b,bo,sz,e1,e2,e3⟩:=a4 om;refine ⟨b,bo,sz,e1,?_,?_⟩
    ·rw [if_neg om,e2];simp only [Option.map_some,Addr.add_mid,Option.some.injEq];rw [UW,hs,← c1,Nat.add_mul];congr 1;omega
    ·have:i+l+(cap - l)=i+cap:=by omega
     rw [this];exact e3
  have run:∀(l hh m:Nat),(Instr.sliceBounds true n cap (lo.map a.eval) (hi.map a.eval) (mx.map a.eval)).run P w=.ok (l,hh,m) w→(execOp a.eval o).run P w=.ok (.value (.slice (if m=l then aa else aa.map (·.add (l*ii.size))) (hh - l) (m - l))) w:=by
   intro l hh m hb;have:=P9 (P:=P) hu hi' aa n cap _ _ _ l hh m hb;simp only [execOp,ho,hxv,this,Sem.run_bind,Sem.run_pure,Result.andThen_ok]
  unfold ai3 at h6;split at h6
  ·rename_i k m em;have hm:=arg mx k m hmx em;split at h6
   ·rename_i k1 l k2 hh el eh;obtain ⟨⟨q1,q2,q3,q4⟩,rfl,rfl⟩:=h6.iB;have hl:=arg lo k1 l hlo el;have hh':=arg hi k2 hh hhi eh;refine fI.eO hR (run l.toNat hh.toNat m.toNat ?_) (.pure (.undef _));rw [hl,hh',hm];obtain ⟨l',rfl⟩:=Int.eq_ofNat_of_zero_le q1;obtain ⟨h',rfl⟩:=Int.eq_ofNat_of_zero_le (show 0≤hh by omega);obtain ⟨m',rfl⟩:=Int.eq_ofNat_of_zero_le (show 0≤m by omega);have z1:(m':Int)≤(cap:Int):=by omega
    have z2:(h':Int)≤(m':Int):=q3;have z3:(l':Int)≤(h':Int):=q2;have z4:(0:Int)≤(m':Int):=by omega
    have z5:(0:Int)≤(h':Int):=by omega
    have z6:(0:Int)≤(l':Int):=by omega
    have b1:∀(k:IntKind) (x y:Nat) (cd:BoundsCode),(x:Int)≤(y:Int)→(Instr.sliceBound (.int k x) y cd).run P w=.ok x w:=fun k x y cd hxy=>by
     have hx0:(0:Int)≤(x:Int):=by omega
     simp only [Instr.sliceBound,asIntOf,Sem.run_bind,Sem.run_pure,Result.andThen_ok];rw [if_pos ⟨hx0,hxy⟩];simp
    simp only [Instr.sliceBounds,Sem.run_bind,b1 _ _ _ _ z1,b1 _ _ _ _ z2,b1 _ _ _ _ z3,Result.andThen_ok,Sem.run_pure,Int.toNat_natCast]
   ·rename_i k2 hh el eh;obtain ⟨⟨q1,q2,q3⟩,rfl,rfl⟩:=h6.iB;have hl:=non lo el;subst hl;have hh':=arg hi k2 hh hhi eh;have em0:m=0:=by omega
    have eh0:hh=0:=by omega
    subst em0;subst eh0;refine fI.eO (x:=.slice aa 0 0) hR ?_ (.pure (.sl 0 0 (fun _ _=>Go.undef) (Nat.zero_le _) (fun _=>rfl) (fun h=>absurd rfl h) (fun _ h=>absurd h (Nat.not_lt_zero _)) (fun _ _ h=>absurd h (Nat.not_lt_zero _)) (fun _ _ h=>absurd h (Nat.not_lt_zero _)) (fun _ _ h=>absurd h (Nat.not_lt_zero _))));have b1:∀(k:IntKind) (y:Nat) (cd:BoundsCode),(Instr.sliceBound (.int k 0) y cd).run P w=.ok 0 w:=fun k y cd=>by
     have hx0:(0:Int)≤(0:Int):=by omega
     have hxy:(0:Int)≤(y:Int):=by omega
     simp only [Instr.sliceBound,asIntOf,Sem.run_bind,Sem.run_pure,Result.andThen_ok];rw [if_pos ⟨hx0,hxy⟩];simp
    have:=run 0 0 0 (by
     rw [hh',hm]
     simp [Instr.sliceBounds,b1])
    simpa using this
   ·exact (fM.aX h6).elim
  ·exact (fM.aX h6).elim
  ·rename_i em;have hm:=non mx em;subst hm;split at h6
   ·rename_i el eh;obtain ⟨rfl,rfl⟩:=h6.fE;have:=non lo el;subst this;have:=non hi eh;subst this;refine fI.eO hR (run 0 n cap (apB n cap)) ?_;have hh:(.slice (if cap=0 then aa else aa.map (·.add (0*ii.size))) (n - 0) (cap - 0):Value)=.slice aa n cap:=by
     by_cases hz:cap=0
     ·simp [hz]
     ·obtain ⟨b,bo,sz,_,e2,_⟩:=a4 hz;rw [if_neg hz,e2];simp [Addr.add_mid]
    rw [hh,← hxv];exact hx
   ·rename_i k hh el eh;obtain ⟨⟨q1,q2⟩,rfl,rfl⟩:=h6.iB;have:=non lo el;subst this;have hh':=arg hi k hh hhi eh;refine fI.eO hR (run 0 hh.toNat cap (by rw [hh']; exact apC n cap k hh q1 om)) ?_;have:=part 0 hh.toNat false (Nat.zero_le _) om (fun h=>by cases h);simpa using this
   ·rename_i k l el eh;obtain ⟨⟨q1,q2⟩,rfl,rfl⟩:=h6.iB;have:=non hi eh;subst this;have hl:=arg lo k l hlo el;exact fI.eO hR (run l.toNat n cap (by rw [hl]; exact apE n cap k l q1 q2)) (part l.toNat n f om om (fun h=>⟨h,rfl⟩))
   ·rename_i k l k2 hh el eh;obtain ⟨⟨q1,q2,q3⟩,rfl,rfl⟩:=h6.iB;have hl:=arg lo k l hlo el;have hh':=arg hi k2 hh hhi eh;exact fI.eO hR (run l.toNat hh.toNat cap (by rw [hl,hh']; exact apF n cap k k2 l hh q1 q2 om)) (part l.toNat hh.toNat false om om (fun h=>by cases h))
   ·exact (fM.aX h6).elim
theorem aju (hc:iy P cfg) (hR:Rel cfg cx H D w I O) {t:TypeId} {x:Operand} {lo hi mx:Option Operand} (ho:o.op=.slice t x lo hi mx) (hx:eT w I O D (ρ x) (a.eval x))
  (hlo:∀y,lo=some y→eT w I O D (ρ y) (a.eval y)) (hhi:∀y,hi=some y→eT w I O D (ρ y) (a.eval y)) (hmx:∀y,mx=some y→eT w I O D (ρ y) (a.eval y))
  (h:fM Sp H (gT cfg dU (.slice t x lo hi mx) ρ) v ups r):fI P cfg cx H D w I O dU o a v ups:=by
 simp only [gT] at h;split at h
 ·rename_i n et harr;exact ahK hc hR ho hx hhi harr h
 split at h
 ·rename_i e1;exact ahL hc hR ho (e1 ▸ hx) hlo hhi hmx h
 rename_i hno;obtain ⟨⟨r0,h0⟩,hmax⟩:=ajr hhi hmx h;clear h;obtain ⟨tt,e,ti,h1,h2,h3,h4⟩:=h0.pU;obtain ⟨hu,i,z,hi',hz,hs,hby,hzs⟩:=hc.slice h1 h2 h3;clear h0;obtain ⟨aa,n,cap,xa,hxv,anl,part,h5⟩:∃aa n cap xa,a.eval x=.slice aa n cap∧n≤cap∧(∀(v:AV),xa=v→
   (∀es full g,xa=.sl es n full g→(full=true→cap=n)∧∀l h m vX,l≤h→h≤n→h≤m→m≤cap→(vX=true→m=h)→eT w I O D (.sl es (h - l) vX (fun j=>g (l+j))) (.slice (if m=l then aa else aa.map (·.add (l*i.size))) (h - l) (m - l)))∧
   (∀ob j n' full,xa≠.eH ob j n' full)∧
   (∀es n' full g,xa=.sl es n' full g→n'=n))∧∃r',fM Sp H (X9 xa (lo.map ρ) (hi.map ρ) mx.isSome mx.isSome) v ups r':=by
  split at h4
  ·rename_i es n f g ex
   rw [ex] at hx
   obtain ⟨hes,h5⟩:=h4.cu
   generalize hxv:a.eval x=xv at hx
   have hp:=hx.Av
   cases hp with
   | @sl _ _ _ _ aa cap b off vs hcap hfull ha hes' hm h11 hr=>
    refine ⟨aa,n,cap,.sl es n f g,rfl,hcap,fun v _=>⟨fun es' vX g' e=>?_,fun _ _ _ _ e=>(by cases e),fun _ _ _ _ e=>(by cases e; rfl)⟩,_,h5⟩
    cases e
    exact ⟨hfull,fun l h m vX q1 q2 q3 q4 q5=>.pure (afp (iG.sl b off vs hcap hfull ha hes' hm h11 hr) q1 q2 q3 q4 q5 (fun hn=>by rw [hs]; exact yE hes hn))⟩
  ·rename_i ob j n f ex
   exact (hno _ _ _ _ ex).elim
  ·exact (fM.aX h4).elim
 obtain ⟨r',h5⟩:=h5;clear h4 hx;obtain ⟨psl,al4,ajv⟩:=part xa rfl;have done:∀ {l h m:Nat} {x':Value},(Instr.sliceBounds true n cap (lo.map a.eval) (hi.map a.eval) (mx.map a.eval)).run P w=.ok (l,h,m) w→x'=.slice (if m=l then aa else aa.map (·.add (l*i.size))) (h - l) (m - l)→ups=[]→eT w I O D v x'→fI P cfg cx H D w I O dU o a v ups:=by
  intro l h m x' hb hx' hu0 hv;subst hu0;refine fI.eO (x:=x') hR ?_ hv;rw [hx'];simp [execOp,ho,hxv,P9 hu hi' aa n cap _ _ _ l h m hb]
 unfold X9 at h5;split at h5
 ·rename_i e1 e2;obtain ⟨hm,h6⟩:=h5.cu;have hmx:mx=none:=agZ hm;have e1':lo=none:=by simpa using e1
  have e2':hi=none:=by simpa using e2
  subst hmx; subst e1'; subst e2';split at h6
  ·obtain ⟨rfl,rfl⟩:=h6.fE;have e:=ajv _ _ _ _ rfl;subst e;obtain ⟨q1,q2⟩:=psl _ _ _ rfl;exact done (apB _ _) rfl rfl (by simpa using q2 0 _ cap _ (Nat.zero_le _) (Nat.le_refl _) anl (Nat.le_refl _) q1)
  ·exact absurd rfl (al4 _ _ _ _)
  ·exact (fM.aX h6).elim
 ·rename_i k hh e1 e2;obtain ⟨hm,h6⟩:=h5.cu;have e1':lo=none:=by simpa using e1
  obtain ⟨y,e2',e3⟩:∃y,hi=some y∧ρ y=.int k hh:=Option.map_eq_some_iff.1 e2;have hy:a.eval y=.int k hh:=(e3 ▸ hhi y e2').iO;subst e1';have go:∀vX,vX=mx.isSome→0≤hh→hh≤n→(∀m,hh.toNat≤m→m≤cap→(vX=true→m=hh.toNat)→eT w I O D v (.slice (if m=0 then aa else aa.map (·.add (0*i.size))) (hh.toNat - 0) (m - 0)))→ups=[]→fI P cfg cx H D w I O dU o a v ups:=by
   intro vX hfe q1 q2 q3 q4;cases hf:mx.isSome with
   | true=>
    exact done (l:=0) (h:=hh.toNat) (m:=hh.toNat) (by rw [hmax hf]; simp only [e2',Option.map_some,Option.map_none,hy]; exact apD _ _ _ _ q1 om) rfl q4 (q3 _ (Nat.le_refl _) om (fun _=>rfl))
   | false=>
    have hmx:mx=none:=agZ (by rw [hf]; rfl);subst hmx;exact done (l:=0) (h:=hh.toNat) (m:=cap) (by simp only [e2',Option.map_some,Option.map_none,hy]; exact apC _ _ _ _ q1 om) rfl q4 (q3 _ om (Nat.le_refl _) (fun e=>by rw [hfe,hf] at e; cases e))
  split at h6
  ·split at h6
   ·rename_i hzf;obtain ⟨⟨q1,q2⟩,rfl,rfl⟩:=h6.iB;have e:=ajv _ _ _ _ rfl;subst e;have hh0:hh=0:=by omega
    subst hh0;unfold zf at hzf;split at hzf
    ·split at hzf
     ·obtain ⟨q3,q4⟩:=psl _ _ _ rfl;have hc0:=q3 rfl;exact go _ rfl om om (fun m hm1 hm2 hm3=>by simpa using q4 0 0 m true (Nat.le_refl _) om (Nat.zero_le _) hm2 (fun _=>by omega)) rfl
     ·cases hzf
    ·cases hzf
   obtain ⟨⟨q1,q2⟩,rfl,rfl⟩:=h6.iB;have e:=ajv _ _ _ _ rfl;subst e;obtain ⟨q3,q4⟩:=psl _ _ _ rfl;exact go _ rfl q1 q2 (fun m hm1 hm2 hm3=>by simpa using q4 0 hh.toNat m _ (Nat.zero_le _) om hm1 hm2 hm3) rfl
  ·exact absurd rfl (al4 _ _ _ _)
  ·exact (fM.aX h6).elim
 ·rename_i k l e1 e2;obtain ⟨hm,h6⟩:=h5.cu;have hmx:mx=none:=agZ hm;have e2':hi=none:=by simpa using e2
  obtain ⟨y,e1',e3⟩:∃y,lo=some y∧ρ y=.int k l:=Option.map_eq_some_iff.1 e1;have hy:a.eval y=.int k l:=(e3 ▸ hlo y e1').iO;subst hmx; subst e2';split at h6
  ·obtain ⟨⟨q1,q2⟩,rfl,rfl⟩:=h6.iB;have e:=ajv _ _ _ _ rfl;subst e;obtain ⟨q3,q4⟩:=psl _ _ _ rfl;exact done (by simp only [e1',Option.map_some,Option.map_none,hy]; exact apE _ _ _ _ q1 q2) rfl rfl (q4 l.toNat _ cap _ om (Nat.le_refl _) anl (Nat.le_refl _) q3)
  ·exact absurd rfl (al4 _ _ _ _)
  ·exact (fM.aX h6).elim
 ·rename_i k l k' hh e1 e2;obtain ⟨hm,h6⟩:=h5.cu;obtain ⟨y,e1',e3⟩:∃y,lo=some y∧ρ y=.int k l:=Option.map_eq_some_iff.1 e1;obtain ⟨y',e2',e3'⟩:∃y,hi=some y∧ρ y=.int k' hh:=Option.map_eq_some_iff.1 e2;have hy:a.eval y=.int k l:=(e3 ▸ hlo y e1').iO;have hy':a.eval y'=.int k' hh:=(e3' ▸ hhi y' e2').iO;have go:∀vX,vX=mx.isSome→0≤l→l≤hh→hh≤n→(∀m,hh.toNat≤m→m≤cap→(vX=true→m=hh.toNat)→eT w I O D v (.slice (if m=l.toNat then aa else aa.map (·.add (l.toNat*i.size))) (hh.toNat - l.toNat) (m - l.toNat)))→ups=[]→fI P cfg cx H D w I O dU o a v ups:=by
   intro vX hfe q0 q1 q2 q3 q4;cases hf:mx.isSome with
   | true=>
    exact done (l:=l.toNat) (h:=hh.toNat) (m:=hh.toNat) (by rw [hmax hf]; simp only [e1',e2',Option.map_some,hy,hy']; exact apG _ _ _ _ _ _ q0 q1 om) rfl q4 (q3 _ (Nat.le_refl _) om (fun _=>rfl))
   | false=>
    have hmx:mx=none:=agZ (by rw [hf]; rfl);subst hmx;exact done (l:=l.toNat) (h:=hh.toNat) (m:=cap) (by simp only [e1',e2',Option.map_some,Option.map_none,hy,hy']; exact apF _ _ _ _ _ _ q0 q1 om) rfl q4 (q3 _ om (Nat.le_refl _) (fun e=>by rw [hfe,hf] at e; cases e))
  split at h6
  ·obtain ⟨⟨q0,q1,q2⟩,rfl,rfl⟩:=h6.iB;have e:=ajv _ _ _ _ rfl;subst e;obtain ⟨q3,q4⟩:=psl _ _ _ rfl;exact go _ rfl q0 q1 q2 (fun m hm1 hm2 hm3=>q4 l.toNat hh.toNat m _ om om hm1 hm2 hm3) rfl
  ·exact absurd rfl (al4 _ _ _ _)
  ·exact (fM.aX h6).elim
 ·exact (fM.aX h5).elim
end
end Go.Ab
namespace Go.Ab
section
variable {P:Program} {cfg:xV} {cx:Ctx} {H:Nat→Option dY} {D:Nat→Prop} {w:World} {I:Nat→Prop} {O:OM} {Sp:ou}
variable {dU:Nat} {o:Oper} {a:Act} {ρ:Operand→AV} {v:AV} {ups:lC} {r:List Nat}
def Ew (O:OM) (ids:List Nat) (b:Nat):Prop:=∃o p bo sz,o∈ids∧O o=some p∧p.pl=some (b,bo,sz)
def kill (O:OM) (ids:List Nat):OM:=fun o=>if o∈ids then none else O o
theorem abb (ids:List Nat) (o:Nat):look (dead ids) o=if o∈ids then some none else none:=by
 induction ids with
 | nil=>simp [dead,look]
 | cons a l ih=>
  simp only [dead,look,ih];cases h:Nat.beq a o with
  | true=>have:=Nat.eq_of_beq_eq_true h; subst this; simp
  | false=>
   have:o≠a:=fun e=>by subst e; simp at h
   simp [this]
theorem GJ (ids:List Nat) (o:Nat):mF H (dead ids) o=if o∈ids then none else H o:=by
 unfold mF;rw [abb];by_cases h:o∈ids<;>simp [h]
theorem Rel.freeze (hR:Rel cfg cx H D w I O) (ids:List Nat):Rel cfg cx (mF H (dead ids)) D w (fun b=>I b∨Ew O ids b) (kill O ids) where
 dom:=fun o=>by
  rw [GJ]; unfold kill;by_cases h:o∈ids<;>simp [h,hR.dom o]
 used:=fun o p h=>by
  unfold kill at h;by_cases h':o∈ids<;>simp [h'] at h;exact hR.used o p h
 objs:=fun o ob p h h'=>by
  rw [GJ] at h; unfold kill at h';by_cases h0:o∈ids<;>simp [h0] at h h';exact (hR.objs o ob p h h').mono (fun _ h=>.inl h) (fun _ _=>rfl) (fun o _=>by unfold kill; by_cases h0:o∈ids<;>simp [h0]) (fun _ h=>h) hR.used (fun _ _ _ _=>rfl)
 inj:=fun o o' p p' b bo sz b' pQ sz' h1 h2 h3 h4 h5=>by
  unfold kill at h1 h2;by_cases h0:o∈ids<;>simp [h0] at h1;by_cases h0':o'∈ids<;>simp [h0'] at h2;exact hR.inj o o' p p' b bo sz b' pQ sz' h1 h2 h3 h4 h5
 pR:=fun o p b bo sz h1 h2 h3=>by
  unfold kill at h1;by_cases h0:o∈ids<;>simp [h0] at h1;rcases h3 with h3 | ⟨o',p',pQ,sz',h4,h5,h6⟩
  ·exact hR.pR o p b bo sz h1 h2 h3
  ·exact hR.inj o o' p p' b bo sz b pQ sz' h1 h5 h2 h6 (fun e=>h0 (e ▸ h4)) rfl
 lt:=fun o p b bo sz h1 h2=>by
  unfold kill at h1;by_cases h0:o∈ids<;>simp [h0] at h1;exact hR.lt o p b bo sz h1 h2
 Au:=fun b h=>by
  rcases h with h | ⟨o',p',pQ,sz',h4,h5,h6⟩
  ·exact hR.Au b h
  ·exact hR.lt o' p' b pQ sz' h5 h6
 size:=hR.size
 frame:=hR.frame
 env:=hR.env
 maps:=fun o kd z f p b bo sz h h' hp=>by
  rw [GJ] at h; unfold kill at h';by_cases h0:o∈ids<;>simp [h0] at h h';exact hR.maps o kd z f p b bo sz h h' hp
 new:=fun o p b bo sz h1 h2=>by
  unfold kill at h1;by_cases h0:o∈ids<;>simp [h0] at h1;exact hR.new o p b bo sz h1 h2
 glob:=fun g cs h=>(hR.glob g cs h).mono (fun _ h=>.inl h) (fun _ _=>rfl)
 R9:=fun b h=>.inl (hR.R9 b h)
 Ws:=fun b h=>by
  rcases h with h | ⟨o',p',pQ,sz',h4,h5,h6⟩
  ·exact hR.Ws b h
  ·exact .inr (hR.new o' p' b pQ sz' h5 h6)
 YF:=fun o h=>by
  unfold kill;by_cases h0:o∈ids
  ·simp [h0]
  ·simpa [h0] using hR.YF o h
 Dm:=hR.Dm
theorem eT.kill (hR:Rel cfg cx H D w I O) (ids:List Nat) {v:AV} {x:Value} (h:eT w I O D v x):eT w (fun b=>I b∨Ew O ids b) (kill O ids) D v x:=
 h.mono (fun _ h=>.inl h) (fun _ _=>rfl) (fun o _=>by unfold Ab.kill; by_cases h0:o∈ids<;>simp [h0]) (fun _ h=>h) hR.used
theorem Ew.afq {ids al5:List Nat} {b:Nat} (h:Ew O ids b):Ew O (ids++al5) b:=by
 obtain ⟨o,p,bo,sz,h1,h2,h3⟩:=h;exact ⟨o,p,bo,sz,List.mem_append_left _ h1,h2,h3⟩
theorem Ew.afr {ids al5:List Nat} {b:Nat} (h:Ew O al5 b):Ew O (ids++al5) b:=by
 obtain ⟨o,p,bo,sz,h1,h2,h3⟩:=h;exact ⟨o,p,bo,sz,List.mem_append_right _ h1,h2,h3⟩
theorem GK (i j:Nat) (g:Nat→AV):qJ i g j=g (i+j):=by cases i<;>simp [qJ]
theorem GL (hR:Rel cfg cx H D w I O):∀f:Nat,
  (∀(v:AV) (k:AV→List Nat→Pg) (v':AV) (ups:lC) (r:List Nat),fM Sp H (pur f v k) v' ups r→∃u ids r',fM Sp H (k u ids) v' ups r'∧
    ∀x,eT w I O D v x→iG w (fun b=>I b∨Ew O ids b) u x)∧
  (∀(l:List AV) (k:List AV→List Nat→Pg) (v':AV) (ups:lC) (r:List Nat),fM Sp H (pur.afe f l k) v' ups r→∃l' ids r',fM Sp H (k l' ids) v' ups r'∧l'.length=l.length∧
    ∀j,j<l.length→∀x,eT w I O D (nth l j) x→iG w (fun b=>I b∨Ew O ids b) (nth l' j) x):=by
 intro f;induction f with
 | zero=>exact ⟨fun v k v' ups r h=>(fM.aX h).elim,fun l k v' ups r h=>(fM.aX h).elim⟩
 | succ f ih=>
  obtain ⟨ih1,ih2⟩:=ih;refine ⟨fun v k v' ups r h=>?_,fun l k v' ups r h=>?_⟩
  ·cases v with
   | eH ob i n full=>
    simp only [pur] at h;obtain ⟨obj,r',nK,h1⟩:=h.nP;obtain ⟨p,hp,hO⟩:=hR.live nK;cases obj with
    | map=>exact (fM.aX h1).elim
    | box cs=>exact (fM.aX h1).elim
    | row es m g=>
     refine ⟨_,[ob],r',h1,fun x hx=>?_⟩;obtain ⟨aa,cap,rfl,h2,h3,h4,h5⟩:=hx.mU hp;obtain ⟨hn,hes,hlen,h6⟩:=hO;by_cases hn0:n=0
     ·subst hn0;exact .sl 0 0 (fun _ _=>Go.undef) h3 h4 (fun e=>absurd rfl e) (fun i hi=>absurd hi om) (fun i j hi=>absurd hi om) (fun i j hi=>absurd hi om) (fun i j hi=>absurd hi om)
     ·obtain ⟨b,bo,sz,h7,rfl,h8⟩:=h5 om;rcases h6 with ⟨_,h6⟩ | ⟨b',pQ,sz',h6,hal,hle,hcs⟩
      ·rw [h7] at h6; cases h6
      ·rw [h7] at h6;cases h6;subst hn;have hmul:∀k,k<n→(i+k+1)*es≤p.n*es:=fun k hk=>Nat.mul_le_mul_right _ om;refine .sl b (bo+i*p.es) (fun k j=>cellAt w b (bo+((i+k)*es+j))) h3 h4 (fun _=>⟨rfl,.inr ⟨ob,p,bo,sz,by simp,hp,h7⟩⟩) (fun k hk=>by rw [GK]; exact hlen _ om) (fun k j hk hj=>?_) (fun k j hk hj=>(hcs (i+k) j om hj).2) (fun k j hk hj=>?_)
       ·have e:bo+i*p.es+(k*es+j)=bo+((i+k)*es+j):=by rw [hes,Nat.add_mul]; omega
        rw [e];refine uZ hal ?_;have:=hmul k hk;rw [Nat.succ_mul] at this;omega
       ·rw [GK];exact (hcs (i+k) j om hj).1.mono (fun _ h=>.inl h) (fun _ _=>rfl)
   | ptr ob i off=>
    cases i with
    | succ i=>simp only [pur] at h; exact (fM.aX h).elim
    | zero=>
     simp only [pur] at h;obtain ⟨obj,r',nK,h1⟩:=h.nP;obtain ⟨p,hp,hO⟩:=hR.live nK;cases obj with
     | map=>exact (fM.aX h1).elim
     | row es m g=>exact (fM.aX h1).elim
     | box cs=>
      obtain ⟨l',ids,r'',h2,h3,h4⟩:=ih2 _ _ _ _ _ h1;refine ⟨_,_,r'',h2,fun x hx=>?_⟩;obtain ⟨b,bo,sz,h5,h6,rfl⟩:=hx.oL hp;obtain ⟨hn,b',pQ,sz',h7,hal,hle,hcs⟩:=hO;rw [h5] at h7;cases h7;simp only [Nat.zero_mul,Nat.zero_add];refine .ro b (bo+off) (fun j=>cellAt w b (bo+(off+j))) (.inr ⟨ob,p,bo,sz,by simp,hp,h5⟩) (fun j hj=>?_) (fun j hj=>?_)
      ·rw [Nat.add_assoc];refine uZ hal ?_;rw [h3] at hj;simp at hj;omega
      ·rw [h3] at hj;refine (h4 j hj _ (by rw [Mg]; exact hcs (off+j) (by simp at hj; omega))).mono (fun b h=>?_) (fun _ _=>rfl);rcases h with h | ⟨o',p',pQ,sz',q1,q2,q3⟩
       ·exact .inl h
       ·exact .inr ⟨o',p',pQ,sz',List.mem_cons_of_mem _ q1,q2,q3⟩
   | agg cs=>
    simp only [pur] at h;obtain ⟨l',ids,r'',h2,h3,h4⟩:=ih2 _ _ _ _ _ h;refine ⟨_,_,r'',h2,fun x hx=>?_⟩;obtain ⟨vs,rfl,hl,hr⟩:=hx.vV;exact .agg om fun j hj=>h4 j om _ (hr j om)
   | kH cs=>
    simp only [pur] at h;obtain ⟨l',ids,r'',h2,h3,h4⟩:=ih2 _ _ _ _ _ h;refine ⟨_,_,r'',h2,fun x hx=>?_⟩;obtain ⟨vs,rfl,hl,hr⟩:=hx.Ja;exact .kH om fun j hj=>h4 j om _ (hr j om)
   | fn g cs=>
    simp only [pur] at h;obtain ⟨l',ids,r'',h2,h3,h4⟩:=ih2 _ _ _ _ _ h;refine ⟨_,_,r'',h2,fun x hx=>?_⟩;obtain ⟨vs,rfl,hl,hr⟩:=hx.Mf;exact .fn om fun j hj=>h4 j om _ (hr j om)
   | mref ob=>simp only [pur] at h; exact (fM.aX h).elim
   | _=>
    refine ⟨_,[],r,h,fun x hx=>?_⟩;cases hx with | pure hx=>exact hx.mono (fun _ h=>.inl h) (fun _ _=>rfl)
  ·cases l with
   | nil=>exact ⟨[],[],r,h,rfl,fun j hj=>by cases hj⟩
   | cons v l=>
    simp only [pur.afe] at h;obtain ⟨u,i1,r1,h1,h2⟩:=ih1 _ _ _ _ _ h;obtain ⟨l',i2,r2,h3,h4,h5⟩:=ih2 _ _ _ _ _ h1;refine ⟨u::l',i1++i2,r2,h3,by simp [h4],fun j hj x hx=>?_⟩;cases j with
    | zero=>exact (h2 x hx).mono (fun b h=>h.elim .inl fun h=>.inr h.afq) (fun _ _=>rfl)
    | succ j=>exact (h5 j (by simpa using hj) x hx).mono (fun b h=>h.elim .inl fun h=>.inr h.afr) (fun _ _=>rfl)
end
end Go.Ab

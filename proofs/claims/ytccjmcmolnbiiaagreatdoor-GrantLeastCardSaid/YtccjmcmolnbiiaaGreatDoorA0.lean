/- An abstract machine over the model's code, that it is sound; models of the functions and their proofs. -/
import Derived.Orders
import Derived.Laws.IdiomCopy
import Derived.Laws.Cells
import Derived.Laws.Sem
import Derived.Deep.MidRow
import Derived.Laws.StructEq
import Derived.ChangeKeysEq
import Derived.IntWalk
set_option linter.unusedVariables false
set_option linter.unusedSimpArgs false
namespace Go.Ab
theorem om {p : Prop} (h : p := by omega) : p := h
inductive AV where
 | undef
 | bool (b:Bool)
 | int (k:IntKind) (n:Int)
 | str (s:ByteArray)
 | sl (es n:Nat) (full:Bool) (g:Nat→AV)
 | ro (cs:List AV)
 | agg (cs:List AV)
 | ptr (o i off:Nat)
 | eF (o i n:Nat) (full:Bool)
 | fn (f:FuncId) (caps:List AV)
 | kI (vs:List AV)
 | EB
 | mref (o:Nat)
inductive ZK where
 | bool | int (k:IntKind) | str | slice | ptr | other
 deriving DecidableEq
inductive TD where
 | bool | int (k:IntKind) | str | slice (e:TypeId) | struct (fs:List (Nat×Nat)) | pointer (e:TypeId) | map (k e:TypeId) | array (n:Nat) (e:TypeId) | other
 deriving DecidableEq
inductive qD where
 | s (b:ByteArray)
 | i (n:Int)
 deriving DecidableEq
inductive dW where
 | box (cs:List AV)
 | row (es n:Nat) (g:Nat→AV)
 | map (kd:TD) (z:List ZK) (f:qD→Option Int)
structure QK where
 size:Nat
 agg:Bool
 bytes:Nat
 zero:List ZK
 desc:TD
 deriving DecidableEq
structure FnI where
 muts:List Nat:=[]
 frz:Bool:=false
structure yE where
 ty:List (Nat×QK)
 eqs:List (Nat×List ZK):=[]
 fns:List (Nat×FnI)
 glob:List (Nat×List AV)
def look {α:Type}:List (Nat×α)→Nat→Option α
 | [],_=>none
 | (k,v)::l,t=>match Nat.beq k t with | true=>some v | false=>look l t
def iL (T:List (Nat×AV)) (t:Nat):AV:=
 match look T t with | some v=>v | none=>.undef
def hget (H:List (Nat×Option dW)) (o:Nat):Option dW:=
 match look H o with | some (some x)=>some x | _=>none
abbrev lF:=List (Nat×Option dW)
inductive Pg where
 | ret (v:AV) (ups:lF)
 | need (p:Prop) [d:Decidable p] (k:Pg)
 | rd (o:Nat) (k:dW→Pg)
 | call (f:FuncId) (args:List AV) (obs:List dW) (k:AV→List dW→Pg)
 | fail
def stride:Nat:=8
def fF:Nat→AV:=λ _=>.undef
def ofConst:Value→AV
 | .bool b=>.bool b
 | .int k n=>.int k n
 | .string s=>.str s
 | .slice none 0 0=>.sl 0 0 true fF
 | .pointer none=>.EB
 | _=>.undef
def ofZ:ZK→AV
 | .bool=>.bool false
 | .int k=>.int k 0
 | .str=>.str ByteArray.empty
 | .slice=>.sl 0 0 true fF
 | .ptr=>.EB
 | .other=>.undef
def zY:List ZK→List AV
 | []=>[]
 | z::l=>ofZ z::zY l
def AV.cells:AV→List AV
 | .agg cs=>cs
 | v=>[v]
def nth:List AV→Nat→AV
 | [],_=>.undef
 | v::_,0=>v
 | _::l,n+1=>nth l n
def GK:Nat→List AV→List AV→List AV
 | _,[],l=>l
 | 0,v::new,_::l=>v::GK 0 new l
 | n+1,new,x::l=>x::GK n new l
 | _,_,[]=>[]
def Y7:AV→Bool
 | .undef | .agg _ | .kI _=>false
 | _=>true
def Je:List AV→Bool
 | []=>true
 | v::l=>match Y7 v with | true=>Je l | false=>false
def Mx (v:AV) (k:List AV→Pg):Pg:=
 match v.cells with
 | cs=>match Je cs with | true=>k cs | false=>.fail
def gL (b:Bool) (k:Pg):Pg:=match b with | true=>k | false=>.fail
def MB:List AV→(List AV→Prop)→Prop
 | [],K=>K []
 | v::l,K=>MB l (λ l'=>
  match v with
  | .undef=>K (.undef::l') | .bool b=>K (.bool b::l') | .int k n=>K (.int k n::l') | .str s=>K (.str s::l')
  | .sl es n f g=>K (.sl es n f g::l') | .ro cs=>K (.ro cs::l') | .agg cs=>K (.agg cs::l') | .ptr o i off=>K (.ptr o i off::l')
  | .eF o i n f=>K (.eF o i n f::l') | .fn f caps=>K (.fn f caps::l') | .kI vs=>K (.kI vs::l') | .EB=>K (.EB::l') | .mref o=>K (.mref o::l'))
def force (v:AV) (K:AV→Prop):Prop:=
 match v with
 | .undef=>K .undef | .bool b=>K (.bool b) | .int k n=>K (.int k n) | .str s=>K (.str s)
 | .sl es n f g=>K (.sl es n f g)
 | .ro cs=>MB cs λ cs'=>K (.ro cs')
 | .agg cs=>MB cs λ cs'=>K (.agg cs')
 | .ptr o i off=>K (.ptr o i off) | .eF o i n f=>K (.eF o i n f)
 | .fn f caps=>MB caps λ cs'=>K (.fn f cs')
 | .kI vs=>MB vs λ cs'=>K (.kI cs')
 | .EB=>K .EB
 | .mref o=>K (.mref o)
def Dq:lF→(lF→Prop)→Prop
 | [],K=>K []
 | (o,none)::l,K=>Dq l λ l'=>K ((o,none)::l')
 | (o,some (.row es n g))::l,K=>Dq l λ l'=>K ((o,some (.row es n g))::l')
 | (o,some (.map kd z f))::l,K=>Dq l λ l'=>K ((o,some (.map kd z f))::l')
 | (o,some (.box cs))::l,K=>MB cs λ cs'=>Dq l λ l'=>K ((o,some (.box cs'))::l')
def aF (n:Int):Prop := -9223372036854775808≤n∧n≤9223372036854775807
instance (n:Int):Decidable (aF n):=inferInstanceAs (Decidable (_∧_))
def addN:Nat→Nat→Nat
 | 0,k=>k
 | n+1,k=>n+1+k
def qZ (i:Nat) (g:Nat→AV):Nat→AV:=match i with | 0=>g | n+1=>λ j=>g (n+1+j)
def W9 (l:List AV):Nat→AV:=λ i=>nth l i
def appG (n:Nat) (g h:Nat→AV):Nat→AV:=λ j=>bif Nat.blt j n then g j else h (j - n)
def adO (g:Nat→AV) (i:Nat) (v:AV):Nat→AV:=λ j=>bif Nat.beq j i then v else g j
def pur:Nat→AV→(AV→List Nat→Pg)→Pg
 | 0,_,_=>.fail
 | _+1,.eF o i n full,k=>.rd o λ
  | .row es _ g=>k (.sl es n full (qZ i g)) [o]
  | _=>.fail
 | f+1,.ptr o i off,k=>match i with
  | 0=>.rd o λ
   | .box cs=>afC f (cs.drop off) λ cs' ids=>k (.ro cs') (o::ids)
   | _=>.fail
  | _+1=>.fail
 | f+1,.agg cs,k=>afC f cs λ cs' ids=>k (.agg cs') ids
 | f+1,.kI cs,k=>afC f cs λ cs' ids=>k (.kI cs') ids
 | f+1,.fn fn cs,k=>afC f cs λ cs' ids=>k (.fn fn cs') ids
 | _+1,.mref _,_=>.fail
 | _+1,v,k=>k v []
 where afC:Nat→List AV→(List AV→List Nat→Pg)→Pg
 | 0,_,_=>.fail
 | _+1,[],k=>k [] []
 | f+1,v::l,k=>pur f v λ v' i1=>afC f l λ l' i2=>k (v'::l') (i1++i2)
def fuel:Nat:=100
def dead:List Nat→lF
 | []=>[]
 | o::l=>(o,none)::dead l
def l7 (p:Prop) [Decidable p] (v:AV):Pg:=.need p (.ret v [])
def jY (v:AV):Pg:=.ret v []
def AP (ti:QK) (cs:List AV):Pg:=
 match ti.agg with
 | true=>gL (Nat.ble ti.size cs.length) (jY (.agg (cs.take ti.size)))
 | false=>match cs with
  | v::_=>jY v
  | []=>.fail
def arith (op:BinOp) (a b:Int):Pg:=
 match op with
 | .add=>l7 (aF (a+b)) (.int .i64 (a+b))
 | .sub=>l7 (aF (a - b)) (.int .i64 (a - b))
 | .mul=>l7 (aF (a*b)) (.int .i64 (a*b))
 | .quo=>l7 (b≠0∧aF (a.tdiv b)) (.int .i64 (a.tdiv b))
 | .rem=>l7 (b≠0) (.int .i64 (a.tmod b))
 | _=>.fail
def ao0 (op:BinOp) (a b:Int):Pg:=
 match op with
 | .eql=>jY (.bool (a==b))
 | .neq=>jY (.bool (a != b))
 | .lss=>jY (.bool (decide (a<b)))
 | .leq=>jY (.bool (decide (a≤b)))
 | .gtr=>jY (.bool (decide (b<a)))
 | .geq=>jY (.bool (decide (b≤a)))
 | _=>.fail
def Tc:BinOp→Bool
 | .add | .sub | .mul | .quo | .rem=>true
 | _=>false
def ai1 (k:IntKind) (op:BinOp) (a b:Int):Pg:=
 match op with
 | .add=>jY (.int k (k.wrap (a+b)))
 | .sub=>jY (.int k (k.wrap (a - b)))
 | .mul=>jY (.int k (k.wrap (a*b)))
 | _=>.fail
def LZ (k:IntKind) (a b:Int):Int:=k.wrap (BitVec.ofInt k.bits a &&& BitVec.ofInt k.bits b).toNat
def GL (k:IntKind) (a b:Int):Int:=a.fdiv (2 ^ min b.toNat k.bits)
def orI (k:IntKind) (a b:Int):Int:=k.wrap (BitVec.ofInt k.bits a ||| BitVec.ofInt k.bits b).toNat
def Vp (k:IntKind) (a b:Int):Int:=k.wrap (a*2 ^ min b.toNat k.bits)
def ai2:BinOp→Bool
 | .shl=>true
 | _=>false
def yT (a b:IntKind):Bool:=decide (a=b)
def Vl:List ZK→List AV→List AV→Option Bool
 | [],[],[]=>some true
 | .int k::zs,.int k1 a::l,.int k2 b::m=>match yT k k1,yT k k2,Vl zs l m with
  | true,true,some r=>some ((a==b)&&r)
  | _,_,_=>none
 | .bool::zs,.bool a::l,.bool b::m=>match Vl zs l m with
  | some r=>some ((a==b)&&r)
  | none=>none
 | .str::zs,.str a::l,.str b::m=>match Vl zs l m with
  | some r=>some ((a.toList==b.toList)&&r)
  | none=>none
 | _,_,_=>none
def am8 (op:BinOp) (a b:ByteArray):Pg:=
 match op with
 | .add=>l7 (a.size+b.size≤9223372036854775807) (.str (a++b))
 | .eql=>jY (.bool (a.toList==b.toList))
 | .neq=>jY (.bool (!(a.toList==b.toList)))
 | .lss=>jY (.bool (Op.bytesLess a.toList b.toList))
 | .leq=>jY (.bool (Op.bytesLess a.toList b.toList||a.toList==b.toList))
 | .gtr=>jY (.bool (!(Op.bytesLess a.toList b.toList||a.toList==b.toList)))
 | .geq=>jY (.bool (!Op.bytesLess a.toList b.toList))
 | _=>.fail
def afD (c:AV) (ea eb:Operand) (a b:AV):Pg:=
 match c with
 | .bool c=>match ea,eb,a,b with
  | _,.const (.bool false),.bool x,_=>jY (.bool (c&&x))
  | .const (.bool true),_,_,.bool y=>jY (.bool (c||y))
  | _,_,.bool x,.bool y=>jY (.bool (bif c then x else y))
  | _,_,.undef,y=>l7 (c=false) y
  | _,_,x,.undef=>l7 (c=true) x
  | _,_,_,_=>.fail
 | _=>.fail
section ops
variable (cfg:yE)
def Vq (t:TypeId) (k:QK→Pg):Pg:=match look cfg.ty t with | some i=>k i | none=>.fail
def Dr (t:TypeId) (k:QK→Pg):Pg:=match look cfg.ty t with
 | some i=>match i.desc with
  | .slice e=>Vq cfg e k
  | _=>.fail
 | none=>.fail
def ai3 (op:BinOp) (t:TypeId) (x y:AV):Pg:=
 match x,y with
 | .int k a,.int k' b=>match ai2 op with
  | true=>l7 (0≤b) (.int k (Vp k a b))
  | false=>gL (yT k k') (match Tc op with
  | true=>match yT k .i64 with
   | true=>arith op a b
   | false=>ai1 k op a b
  | false=>match op with
   | .and=>jY (.int k (LZ k a b))
   | .or=>jY (.int k (orI k a b))
   | .shr=>l7 (0≤b) (.int k (GL k a b))
   | _=>ao0 op a b)
 | .bool a,.bool b=>Vq cfg t λ ti=>match ti.desc,op with
  | .bool,.eql=>jY (.bool (a==b))
  | .bool,.neq=>jY (.bool (!(a==b)))
  | _,_=>.fail
 | .str a,.str b=>am8 op a b
 | .agg cs,.agg cs'=>match look cfg.eqs t with
  | some zs=>match Vl zs cs cs',op with
   | some r,.eql=>jY (.bool r)
   | some r,.neq=>jY (.bool (!r))
   | _,_=>.fail
  | none=>.fail
 | _,_=>.fail
def XK:List (Nat×Nat)→Nat→Option (Nat×Nat)
 | [],_=>none
 | x::_,0=>some x
 | _::l,n+1=>XK l n
def Pp (ti:QK) (f:Nat):Option (Nat×Nat):=match ti.desc with
 | .struct fs=>XK fs f
 | _=>none
def adP (fs:List (Nat×Nat)):List (Nat×AV)→List AV→(List AV→Pg)→Pg
 | [],cs,k=>k cs
 | (i,v)::rest,cs,k=>match XK fs i with
  | some (off,t)=>Vq cfg t λ ti=>Mx v λ vs=>gL (Nat.beq vs.length ti.size) (gL (Nat.ble (off+vs.length) cs.length) (adP fs rest (GK off vs cs) k))
  | none=>.fail
def Ga:Nat→AV→List AV→List AV
 | _,_,[]=>[]
 | 0,v,_::l=>v::l
 | n+1,v,x::l=>x::Ga n v l
def ag5 (size:Nat) (agg:Bool):List (Nat×AV)→List AV→(List AV→Pg)→Pg
 | [],es,k=>k es
 | (i,v)::rest,es,k=>gL (match agg,v with | true,.agg _=>true | true,_=>false | false,.agg _=>false | false,_=>true)
  (Mx v λ vs=>gL (Nat.beq vs.length size) (gL (Nat.blt i es.length) (ag5 size agg rest (Ga i v es) k)))
def zeroOf (ti:QK):AV:=match ti.agg with
 | true=>.agg (zY ti.zero)
 | false=>nth (zY ti.zero) 0
def zok (ti:QK):Bool:=match Nat.blt 0 ti.size with
 | true=>match ti.agg with
  | true=>true
  | false=>Nat.beq ti.size 1
 | false=>false
def ahN:Nat→AV→List AV
 | 0,_=>[]
 | n+1,z=>z::ahN n z
def Td:List (Nat×AV)→(List (Nat×AV)→List Nat→Pg)→Pg
 | [],k=>k [] []
 | (i,v)::l,k=>pur fuel v λ v' i1=>Td l λ l' i2=>k ((i,v')::l') (i1++i2)
def ao1 (s:AV) (f:Int→Pg) (k:Pg):Pg:=match s with
 | .int _ n=>f n
 | _=>k
def zf (full:Bool) (n:Nat):Bool:=match full with
 | true=>match n with
  | 0=>true
  | _+1=>false
 | false=>false
def YJ (x:AV) (lo hi:Option AV) (acs abH:Bool):Pg:=
 match lo,hi with
 | none,none=>gL (!acs) (match x with
  | .sl es n full g=>jY (.sl es n full g)
  | .eF o i n full=>jY (.eF o i n full)
  | _=>.fail)
 | none,some (.int _ h)=>gL (!acs||abH) (match x with
  | .sl es n full g=>match zf full n with
   | true=>l7 (0≤h∧h≤0) (.sl es 0 true g)
   | false=>l7 (0≤h∧h≤n) (.sl es h.toNat abH g)
  | .eF o i n _=>l7 (0≤h∧h≤n) (.eF o i h.toNat abH)
  | _=>.fail)
 | some (.int _ l),none=>gL (!acs) (match x with
  | .sl es n full g=>l7 (0≤l∧l≤n) (.sl es (n - l.toNat) full (λ j=>g (l.toNat+j)))
  | .eF o i n full=>l7 (0≤l∧l≤n) (.eF o (i+l.toNat) (n - l.toNat) full)
  | _=>.fail)
 | some (.int _ l),some (.int _ h)=>gL (!acs||abH) (match x with
  | .sl es n _ g=>l7 (0≤l∧l≤h∧h≤n) (.sl es (h.toNat - l.toNat) abH (λ j=>g (l.toNat+j)))
  | .eF o i n _=>l7 (0≤l∧l≤h∧h≤n) (.eF o (i+l.toNat) (h.toNat - l.toNat) abH)
  | _=>.fail)
 | _,_=>.fail
def EP:Option Operand→Option Operand→Bool
 | some (.tmp a),some (.tmp b)=>Nat.beq a b
 | _,_=>false
def ahO (ρ:Operand→AV) (hi mx:Option Operand) (k:Pg):Pg:=
 match mx with
 | none=>k
 | some m=>match hi with
  | none=>.fail
  | some h=>match ρ h,ρ m with
   | .int kk a,.int kk' b=>gL (yT kk kk') (.need (a=b) k)
   | _,_=>.fail
def Xa (x:AV) (k:Nat→Nat→(Nat→AV)→Pg):Pg:=
 match x with
 | .sl es n _ g=>k es n g
 | .eF o i n _=>.rd o λ
  | .row es _ g=>k es n (qZ i g)
  | _=>.fail
 | _=>.fail
def isZ:Nat→Bool
 | 0=>true
 | _+1=>false
def Rx (es n size:Nat):Bool:=match Nat.beq es size with | true=>true | false=>isZ n
def big:Nat:=140737488355328
def cpG (i k:Nat) (g h:Nat→AV):Nat→AV:=λ j=>bif Nat.ble i j&&Nat.blt j (i+k) then h (j - i) else g j
def acu (ti:QK) (d s:AV):Pg:=
 Xa s λ es' m h=>gL (Rx es' m ti.size) (
 match d with
 | .eF o i n _=>.rd o λ
  | .row es N g=>gL (Nat.beq es ti.size) (.need (i+n+m≤N) (.ret (.eF o i (n+m) false) [(o,some (.row es N (cpG (i+n) m g h)))]))
  | _=>.fail
 | _=>.fail)
def isSelf:AV→AV→Bool
 | .eF o _ _ _,.eF o' _ _ _=>Nat.beq o o'
 | _,_=>false
def ai4 (o i n N:Nat) (f:Bool) (lo hi mx:Option AV):Pg:=match mx with
 | some (.int _ m)=>match lo,hi with
  | some (.int _ l),some (.int _ h)=>l7 (0≤l∧l≤h∧h≤m∧m≤n) .undef
  | none,some (.int _ h)=>l7 (0≤h∧h≤m∧m≤0) (.sl 0 0 true fF)
  | _,_=>.fail
 | some _=>.fail
 | none=>match lo,hi with
  | none,none=>jY (.eF o i n f)
  | none,some (.int _ h)=>l7 (0≤h∧(i:Int)+h≤N) (.eF o i h.toNat false)
  | some (.int _ l),none=>l7 (0≤l∧l≤n) (.eF o (i+l.toNat) (n - l.toNat) f)
  | some (.int _ l),some (.int _ h)=>l7 (0≤l∧l≤h∧(i:Int)+h≤N) (.eF o (i+l.toNat) (h.toNat - l.toNat) false)
  | _,_=>.fail
def adQ (ti:QK) (dR:Nat) (d s:AV):Pg:=
 Xa s λ es' m h=>gL (Rx es' m ti.size) (
 match d with
 | .sl es n full g=>gL full (match es with
  | 0=>gL (isZ n) (.need (m*ti.bytes≤big) (.ret (.eF dR 0 m false) [(dR,some (.row ti.size m h))]))
  | es1+1=>gL (Rx (es1+1) n ti.size) (l7 ((n+m)*ti.bytes≤big) (.sl ti.size (n+m) false (appG n g h))))
 | .eF o i n _=>.rd o λ
  | .row es _ g=>gL (Nat.beq es ti.size) (.need ((n+m)*ti.bytes≤big) (.ret (.eF dR 0 (n+m) false) [(dR,some (.row es (n+m) (appG n (qZ i g) h))),(o,none)]))
  | _=>.fail
 | _=>.fail)
def ai5 (ti:QK) (d s:AV):Pg:=
 Xa s λ es' m h=>gL (Rx es' m ti.size) (
 match d with
 | .eF o i n _=>.rd o λ
  | .row es N g=>gL (Nat.beq es ti.size) (.ret (.int .i64 (Nat.min m n:Nat)) [(o,some (.row es N (cpG i (Nat.min m n) g h)))])
  | _=>.fail
 | _=>.fail)
def AQ:List Nat→Nat→Nat→Option Nat
 | [],_,_=>none
 | a::l,o,j=>match Nat.beq a o with | true=>some j | false=>AQ l o (j+1)
def pY:AV→Bool
 | .undef | .bool _ | .int .. | .str _ | .sl .. | .ro _ | .EB=>true
 | _=>false
def aqg:AV→List Nat
 | .ptr o _ _=>[o]
 | .eF o _ _ _=>[o]
 | _=>[]
def adR:List AV→List Nat
 | []=>[]
 | v::l=>aqg v++adR l
def am9 (sg:List Nat):List Nat→Bool
 | []=>false
 | o::_=>match AQ sg o 0 with
  | some _=>true
  | none=>false
def ai6 (sg:List Nat) (v:AV) (k:AV→Pg):Pg:=match v with
 | .ptr o i off=>match AQ sg o 0 with
  | some j=>k (.ptr j i off)
  | none=>.fail
 | .eF o i n f=>match AQ sg o 0 with
  | some j=>k (.eF j i n f)
  | none=>.fail
 | v=>gL (pY v) (k v)
def ahP (sg:List Nat):List AV→(List AV→Pg)→Pg
 | [],k=>k []
 | v::l,k=>ai6 sg v λ v'=>ahP sg l λ l'=>k (v'::l')
def Pq (sg:List Nat) (v:AV) (k:AV→List Nat→Pg):Pg:=
 match v with
 | .ptr o i off=>match AQ sg o 0 with
  | some j=>k (.ptr j i off) []
  | none=>pur fuel (.ptr o i off) k
 | .eF o i n full=>match AQ sg o 0 with
  | some j=>k (.eF j i n full) []
  | none=>pur fuel (.eF o i n full) k
 | .fn f cs=>match am9 sg (adR cs) with
  | true=>ahP sg cs λ cs'=>k (.fn f cs') []
  | false=>pur fuel (.fn f cs) k
 | v=>pur fuel v k
def GN (sg:List Nat):List AV→(List AV→List Nat→Pg)→Pg
 | [],k=>k [] []
 | v::l,k=>Pq sg v λ v' i1=>GN sg l λ l' i2=>k (v'::l') (i1++i2)
def ag6:List Nat→(List dW→Pg)→Pg
 | [],k=>k []
 | o::l,k=>.rd o λ ob=>ag6 l λ obs=>k (ob::obs)
def sigma (args:List AV):List Nat→List Nat
 | []=>[]
 | p::l=>match nth args p with
  | .ptr o _ _=>o::sigma args l
  | .eF o _ _ _=>o::sigma args l
  | .fn _ cs=>adR cs++sigma args l
  | _=>sigma args l
def Cg:Nat→List Nat→Bool
 | _,[]=>false
 | a,b::l=>match Nat.beq a b with | true=>true | false=>Cg a l
def oN:List Nat→Bool
 | []=>true
 | a::l=>match Cg a l with | true=>false | false=>oN l
def Y8:AV→Bool
 | .bool _ | .int .. | .str _=>true
 | _=>false
def acv:List AV→Bool
 | []=>true
 | v::l=>match Y8 v with | true=>acv l | false=>false
def Y9:AV→Bool
 | .agg vs=>acv vs
 | v=>Y8 v
def acw:List AV→Bool
 | []=>true
 | v::l=>match Y9 v with | true=>acw l | false=>false
def ai7:AV→Bool
 | .kI vs=>acw vs
 | v=>Y9 v
def iw:List Nat→Nat→Nat
 | [],_=>0
 | a::_,0=>a
 | _::l,n+1=>iw l n
def MC:dW→Bool
 | .map .other [] _=>true
 | _=>false
def ana:dW:=.map .other [] λ _=>none
def gz (x:dW):Option dW:=match MC x with
 | true=>none
 | false=>some x
def Dt:List Nat→List dW→lF
 | o::l,x::m=>(o,gz x)::Dt l m
 | _,_=>[]
def alM (f:FuncId):FnI:=match look cfg.fns f with | some i=>i | none=>{}
def yU:List AV→Bool
 | []=>true
 | v::l=>match pY v with | true=>yU l | false=>false
def YK:dW→Bool
 | .box cs=>yU cs
 | .row .. => true
 | .map .. => false
def ao2:AV→Bool
 | .agg vs=>yU vs
 | v=>pY v
def ME:List Nat→List Nat→Bool
 | [],_=>true
 | x::l,m=>match Cg x m with | true=>false | false=>ME l m
def ao3:AV→List Nat
 | .ptr o _ _=>[o]
 | .eF o _ _ _=>[o]
 | .fn _ cs=>adR cs
 | _=>[]
def anb:List AV→List Nat
 | []=>[]
 | v::l=>ao3 v++anb l
def ao4:dW→List Nat
 | .box cs=>anb cs
 | _=>[]
def Za:Nat→List Nat→List Nat→(List Nat→Pg)→Pg
 | 0,_,_,_=>.fail
 | _+1,[],sg,k=>k sg
 | f+1,o::todo,sg,k=>match Cg o sg with
  | true=>Za f todo sg k
  | false=>.rd o λ ob=>Za f (todo++ao4 ob) (sg++[o]) k
def inv1 (sg:List Nat) (v:AV) (k:AV→Pg):Pg:=match v with
 | .ptr o i off=>match AQ sg o 0 with
  | some j=>k (.ptr j i off)
  | none=>.fail
 | .eF o i n f=>match AQ sg o 0 with
  | some j=>k (.eF j i n f)
  | none=>.fail
 | .fn f cs=>ahP sg cs λ cs'=>k (.fn f cs')
 | v=>gL (pY v) (k v)
def alN (sg:List Nat):List AV→(List AV→Pg)→Pg
 | [],k=>k []
 | v::l,k=>inv1 sg v λ v'=>alN sg l λ l'=>k (v'::l')
def ao5 (sg:List Nat) (x:dW) (k:dW→Pg):Pg:=match x with
 | .box cs=>alN sg cs λ cs'=>k (.box cs')
 | .row es n g=>k (.row es n g)
 | .map .. => .fail
def ag7 (sg:List Nat):List dW→(List dW→Pg)→Pg
 | [],k=>k []
 | x::l,k=>ao5 sg x λ x'=>ag7 sg l λ l'=>k (x'::l')
def adS (sg:List Nat):AV→AV
 | .ptr j i off=>.ptr (iw sg j) i off
 | .eF j i n full=>.eF (iw sg j) i n full
 | v=>v
def ai8 (sg:List Nat):List AV→List AV
 | []=>[]
 | v::l=>adS sg v::ai8 sg l
def MF (sg:List Nat):AV→AV
 | .ptr j i off=>.ptr (iw sg j) i off
 | .eF j i n full=>.eF (iw sg j) i n full
 | .fn f cs=>.fn f (ai8 sg cs)
 | v=>v
def ahQ (sg:List Nat):List AV→List AV
 | []=>[]
 | v::l=>MF sg v::ahQ sg l
def MG (sg:List Nat):AV→AV
 | .agg cs=>.agg (ahQ sg cs)
 | v=>MF sg v
def adT (sg:List Nat):List AV→List AV
 | []=>[]
 | v::l=>MG sg v::adT sg l
def alO (sg:List Nat):AV→AV
 | .kI vs=>.kI (adT sg vs)
 | v=>MG sg v
def aa3 (sg:List Nat):dW→dW
 | .box cs=>.box (ahQ sg cs)
 | .row es n g=>.row es n g
 | .map kd z f=>.map kd z f
def Zb (sg:List Nat):List dW→List dW
 | []=>[]
 | x::l=>aa3 sg x::Zb sg l
def alP:AV→Bool
 | .ptr .. | .eF .. => true
 | v=>pY v
def okA:List AV→Bool
 | []=>true
 | v::l=>match alP v with | true=>okA l | false=>false
def ai9:AV→Bool
 | .fn _ cs=>okA cs
 | .agg _ | .kI _ | .mref _=>false
 | _=>true
def aja:List AV→Bool
 | []=>true
 | v::l=>match ai9 v with | true=>aja l | false=>false
def ajb:AV→Bool
 | .agg cs=>aja cs
 | v=>ai9 v
def ag8:List AV→Bool
 | []=>true
 | v::l=>match ajb v with | true=>ag8 l | false=>false
def ao6:AV→Bool
 | .kI vs=>ag8 vs
 | v=>ajb v
def ajc:dW→Bool
 | .box cs=>aja cs
 | .row .. => true
 | .map kd z f=>MC (.map kd z f)
def ag9:List dW→Bool
 | []=>true
 | x::l=>match ajc x with | true=>ag9 l | false=>false
def kR:Nat→Nat→List Nat
 | 0,_=>[]
 | n+1,i=>i::kR n (i+1)
def YL (dR:Nat) (f:FuncId) (args:List AV) (sg0:List Nat):Pg:=
 Za 40 sg0 [] λ sg=>gL (oN sg) (ag6 sg λ obs=>ag7 sg obs λ ahR=>GN sg args λ args' ids=>gL (ME ids sg)
  (.call f args' ahR λ r fQ=>gL (ag9 fQ) (gL (Nat.ble fQ.length (sg.length+stride)) (gL (ao6 r)
    (.ret (alO (sg++kR (fQ.length - sg.length) dR) r) (Dt (sg++kR (fQ.length - sg.length) dR) (Zb (sg++kR (fQ.length - sg.length) dR) fQ)++dead ids))))))
def ajd (dR:Nat) (f:FuncId) (args:List AV):Pg:=
 match sigma args (alM cfg f).muts with
 | []=>match (alM cfg f).frz with
  | false=>GN [] args λ args' _=>.call f args' [] λ r fQ=>match fQ with
   | []=>gL (ai7 r) (jY r)
   | _::_=>.fail
  | true=>YL dR f args []
 | x::sg=>YL dR f args (x::sg)
def keyOf:AV→Option qD
 | .str b=>some (.s b)
 | .int .i64 n=>some (.i n)
 | _=>none
def ao7 (z:List ZK) (n:Int):AV:=match z with
 | [.bool]=>.bool (n != 0)
 | [.int k]=>.int k n
 | _=>.undef
def anv (z:List ZK):AV→Option Int
 | .bool b=>match z with
  | [.bool]=>some (bif b then 1 else 0)
  | _=>none
 | .int k n=>match z with
  | [.int k']=>match decide (k=k') with
   | true=>some n
   | false=>none
  | _=>none
 | _=>none
def acy:List ZK→Bool
 | [.bool]=>true
 | [.int _]=>true
 | _=>false
def Ch (f:qD→Option Int) (k:qD):Int:=(f k).getD 0
def Vr (f:qD→Option Int) (k:qD) (n:Int):qD→Option Int:=λ k'=>if k'=k then some n else f k'
def aje (t:TypeId) (k:QK→QK→Pg):Pg:=match look cfg.ty t with
 | some i=>match i.desc with
  | .map kt et=>Vq cfg kt λ ki=>Vq cfg et λ ei=>gL (!ei.agg) (k ki ei)
  | _=>.fail
 | none=>.fail
def Jf (d:TD):qD→Bool
 | .s _=>match d with | .str=>true | _=>false
 | .i _=>match d with | .int .i64=>true | _=>false
def Zc:TD→Option (Nat×TypeId)
 | .array n e=>some (n,e)
 | _=>none
def ajf (t:TypeId):Option (Nat×TypeId):=match look cfg.ty t with
 | some i=>Zc i.desc
 | none=>none
def aha (et sz:Nat):Nat→Nat→List (Nat×Nat)
 | 0,_=>[]
 | n+1,k=>(k*sz,et)::aha et sz n (k+1)
def ao8:AV→Bool
 | .bool b=>b
 | _=>false
def aqh:AV→Int
 | .int _ n=>n
 | _=>0
def aqi:AV→ByteArray
 | .str s=>s
 | _=>ByteArray.empty
def slN:AV→Nat
 | .sl _ n _ _=>n
 | _=>0
def slG:AV→Nat→AV
 | .sl _ _ _ g=>g
 | _=>λ _=>.undef
def esA:AV→Nat
 | .sl es _ _ _=>es
 | _=>0
def ajg:List ZK→Nat→ZK
 | [],_=>.other
 | z::_,0=>z
 | _::l,n+1=>ajg l n
def alQ (z:ZK) (es:Nat) (c:AV):Bool:=match z,c with
 | .bool,.bool _=>true
 | .int k,.int k' _=>yT k k'
 | .str,.str _=>true
 | .slice,.sl es' n _ _=>match Nat.beq es' es with
  | true=>true
  | false=>Nat.beq n 0
 | _,_=>false
def anw (z:ZK) (es:Nat) (c:AV):AV:=match z with
 | .bool=>.bool (ao8 c)
 | .int k=>.int k (aqh c)
 | .str=>.str (aqi c)
 | .slice=>.sl es (slN c) false (slG c)
 | _=>.undef
def abI (sz j:Nat):Nat→List AV→Nat
 | _,[]=>0
 | k,c::cs=>match Nat.beq (Nat.mod k sz) j with
  | true=>(λ m=>match Nat.ble (esA c) m with | true=>m | false=>esA c) (abI sz j (k+1) cs)
  | false=>abI sz j (k+1) cs
def alR (zs:List ZK) (sz:Nat) (all:List AV):Nat→List AV→Bool
 | _,[]=>true
 | k,c::cs=>match alQ (ajg zs (Nat.mod k sz)) (abI sz (Nat.mod k sz) 0 all) c with
  | true=>alR zs sz all (k+1) cs
  | false=>false
def adU (all:List AV) (b sz:Nat):Nat→List ZK→List AV
 | _,[]=>[]
 | j,z::zs=>anw z (abI sz j 0 all) (nth all (b+j))::adU all b sz (j+1) zs
def ajh (ei:QK) (n:Nat) (cs:List AV) (i:Int):Pg:=
 gL (zok ei) (gL (Nat.beq cs.length (n*ei.size)) (gL (Nat.beq ei.zero.length ei.size) (gL (alR ei.zero ei.size cs 0 cs) (l7 (0≤i∧i<n) (match ei.agg with
  | true=>.agg (adU cs (i.toNat*ei.size) ei.size 0 ei.zero)
  | false=>nth (adU cs (i.toNat*ei.size) ei.size 0 ei.zero) 0)))))
def afE:Nat→List ZK→List ZK
 | 0,_=>[]
 | n+1,z=>z++afE n z
def kS:Nat→Nat→(Nat→AV)→List AV
 | 0,_,_=>[]
 | k+1,i,g=>(g i).cells++kS k (i+1) g
def anx:TD→Bool
 | .str=>true
 | _=>false
def anz:AV→Bool
 | .int .u8 _=>true
 | _=>false
def u8D:TD→Bool
 | .int .u8=>true
 | _=>false
def Jg:Nat→Nat→(Nat→AV)→ByteArray→ByteArray
 | 0,_,_,s=>s
 | k+1,i,g,s=>Jg k (i+1) g (s.push (UInt8.ofNat (match g i with
  | .int _ n=>n.toNat
  | _=>0)))
def acz (src:TypeId) (x:AV):Pg:=Dr cfg src λ ei=>gL (u8D ei.desc) (Xa x λ es n g=>gL (Rx es n 1) (.need (∀i,i<n→anz (g i)=true) (jY (.str (Jg n 0 g ByteArray.empty)))))
def aji (o n:Nat) (lo hi:Option AV):Pg:=
 match lo,hi with
 | none,none=>jY (.eF o 0 n true)
 | none,some (.int _ h)=>l7 (0≤h∧h≤n) (.eF o 0 h.toNat false)
 | _,_=>.fail
def gI (b:ByteArray) (i:Nat):Int:=match b[i]? with
 | some x=>x.toNat
 | none=>0
def anA (dR:Nat) (t t':TypeId) (d:AV) (k:Int):Pg:=Vq cfg t' λ ti'=>Dr cfg t λ ti=>match ti'.desc,d with
 | .int _,.sl _ n full _=>gL (zf full n) (gL (Nat.blt 0 ti.size) (gL (Nat.blt 0 ti.bytes) (gL (zok ti) (.need (0<k∧k*ti.bytes≤big) (.ret (.eF dR 0 k.toNat false) [(dR,some (.row ti.size k.toNat (λ _=>zeroOf ti)))])))))
 | _,_=>.fail
def gX (dR:Nat) (op:Op) (ρ:Operand→AV):Pg:=
 match op with
 | .move x=>jY (ρ x)
 | .assign x=>jY (ρ x)
 | .pick c a b=>afD (ρ c) a b (ρ a) (ρ b)
 | .alloc e=>Vq cfg e λ ti=>match Zc ti.desc with
  | some (n,et)=>Vq cfg et λ ei=>gL (zok ei) (gL (Nat.blt 0 n) (gL (decide (ti.zero=afE n ei.zero)) (.ret (.ptr dR 0 0) [(dR,some (.row ei.size n (λ _=>zeroOf ei)))])))
  | none=>.ret (.ptr dR 0 0) [(dR,some (.box (zY ti.zero)))]
 | .box _ x=>Mx (ρ x) λ cs=>.ret (.ptr dR 0 0) [(dR,some (.box cs))]
 | .build t parts=>Vq cfg t λ ti=>match ti.desc with
  | .struct fs=>adP cfg fs (parts.toList.map λ p=>(p.1,ρ p.2)) (zY ti.zero) λ cs=>jY (.agg cs)
  | .array n et=>Vq cfg et λ ei=>adP cfg (aha et ei.size n 0) (parts.toList.map λ p=>(p.1,ρ p.2)) (zY ti.zero) λ cs=>jY (.agg cs)
  | _=>.fail
 | .buildSlice t len parts=>Dr cfg t λ ti=>gL (zok ti) (gL (Nat.ble (len*ti.size) 4096) (Td (parts.toList.map λ p=>(p.1,ρ p.2)) λ ps ids=>
   ag5 ti.size ti.agg ps (ahN len (zeroOf ti)) λ es=>
   .ret (.eF dR 0 len true) ((dR,some (.row ti.size len (W9 es)))::dead ids)))
 | .load t a=>Vq cfg t λ ti=>match ρ a with
  | .ptr o i off=>.rd o λ
   | .box cs=>AP ti (cs.drop off)
   | .row es n g=>match Zc ti.desc with
    | some _=>gL (isZ i&&isZ off) (AP ti (kS n 0 g))
    | none=>gL (Nat.ble (off+ti.size) es) (AP ti ((g i).cells.drop off))
   | .map .. => .fail
  | .ro cs=>AP ti cs
  | _=>.fail
 | .store t a x=>Vq cfg t λ ti=>match ρ a with
  | .ptr o i off=>.rd o λ
   | .box cs=>Mx (ρ x) λ vs=>gL (Nat.beq vs.length ti.size) (gL (Nat.ble (off+vs.length) cs.length) (.ret .undef [(o,some (.box (GK off vs cs)))]))
   | .row es n g=>match Zc ti.desc with
    | some _=>pur fuel (ρ x) λ x' ids=>gL (!Cg o ids) (Mx x' λ vs=>gL (Nat.beq vs.length ti.size) (gL (Nat.beq es 1) (gL (Nat.beq n ti.size) (gL (isZ i&&isZ off) (.ret .undef ((o,some (.row 1 n (W9 vs)))::dead ids))))))
    | none=>pur fuel (ρ x) λ x' ids=>gL (!Cg o ids) (Mx x' λ vs=>gL (Nat.beq vs.length ti.size) (gL (Nat.blt 0 ti.size) (gL (Nat.ble (off+vs.length) es)
     (.ret .undef ((o,some (.row es n (adO g i (match isZ off&&Nat.beq vs.length es with
       | true=>x'
       | false=>match g i with
        | .agg cs=>.agg (GK off vs cs)
        | _=>x'))))::dead ids)))))
   | .map .. => .fail
  | _=>.fail
 | .nilCheck x=>match ρ x with
  | .ptr o i off=>.rd o λ _=>jY (.ptr o i off)
  | .ro cs=>jY (.ro cs)
  | .fn f cs=>jY (.fn f cs)
  | _=>.fail
 | .binOp op t x y _=>ai3 cfg op t (ρ x) (ρ y)
 | .unOp op _ x=>match op,ρ x with
  | .not,.bool b=>jY (.bool (!b))
  | .neg,.int k n=>gL (yT k .i64) (l7 (aF (-n)) (.int .i64 (-n)))
  | _,_=>.fail
 | .convert src dst x=>Vq cfg src λ _=>Vq cfg dst λ ti=>match anx ti.desc with
  | true=>acz cfg src (ρ x)
  | false=>match ti.desc,ρ x with
   | .int k,.int _ n=>jY (.int k (k.wrap n))
   | _,_=>.fail
 | .makeFunc fn first captured=>match fn,first.toList with
  | .func f,[]=>jY (.fn f (captured.toList.map ρ))
  | _,_=>.fail
 | .makeSlice t l c=>Dr cfg t λ ti=>match ρ l with
  | .int _ n=>match EP (some l) (some c) with
   | true=>gL (Nat.blt 0 ti.bytes) (gL (zok ti) (.need (0≤n∧n*ti.bytes≤big) (.ret (.eF dR 0 n.toNat true) [(dR,some (.row ti.size n.toNat (λ _=>zeroOf ti)))])))
   | false=>match ρ c with
    | .int _ k=>gL (Nat.blt 0 ti.bytes) (gL (zok ti) (.need (n=0∧0≤k∧k*ti.bytes≤big) (.ret (.eF dR 0 0 false) [(dR,some (.row ti.size 0 fF))])))
    | _=>.fail
  | _=>.fail
 | .slice t x lo hi mx=>match ajf cfg t with
  | some (n,et)=>Vq cfg et λ ei=>gL mx.isNone (match ρ x with
   | .ptr o i off=>.rd o λ
    | .row es n' _=>gL (isZ i&&isZ off) (gL (Nat.beq es ei.size) (gL (Nat.beq n' n) (aji o n (lo.map ρ) (hi.map ρ))))
    | _=>.fail
   | _=>.fail)
  | none=>match ρ x with
  | .eF o i n f=>Dr cfg t λ ti=>.rd o λ
   | .row es N _=>gL (Nat.beq es ti.size) (ai4 o i n N f (lo.map ρ) (hi.map ρ) (mx.map ρ))
   | _=>.fail
  | _=>ahO ρ hi mx<|Dr cfg t λ ti=>match ρ x with
   | .sl es n f g=>gL (Rx es n ti.size) (YJ (.sl es n f g) (lo.map ρ) (hi.map ρ) mx.isSome mx.isSome)
   | .eF o i n f=>.rd o λ
    | .row es _ _=>gL (Nat.beq es ti.size) (YJ (.eF o i n f) (lo.map ρ) (hi.map ρ) mx.isSome mx.isSome)
    | _=>.fail
   | _=>.fail
 | .fieldAddr s x f=>Vq cfg s λ ts=>match Pp ts f with
  | some (o,t)=>Vq cfg t λ ti=>gL (Nat.blt 0 ti.size) (match ρ x with
   | .ptr ob i off=>.rd ob λ _=>jY (.ptr ob i (off+o))
   | .ro cs=>jY (.ro (cs.drop o))
   | _=>.fail)
  | none=>.fail
 | .field s x f=>Vq cfg s λ ts=>match Pp ts f with
  | some (o,t)=>Vq cfg t λ ti=>match ρ x with
   | .agg cs=>AP ti (cs.drop o)
   | _=>.fail
  | none=>.fail
 | .indexAddr t x ix=>match ajf cfg t with
  | some (n,et)=>Vq cfg et λ ei=>match ρ ix,ρ x with
   | .int _ i,.ptr o j off=>.rd o λ
    | .row es n' _=>gL (isZ j&&isZ off) (gL (Nat.beq es ei.size) (gL (Nat.beq n' n) (l7 (0≤i∧i<n) (.ptr o i.toNat 0))))
    | _=>.fail
   | _,_=>.fail
  | none=>Dr cfg t λ ti=>match ρ ix with
  | .int _ i=>match ρ x with
   | .sl es n _ g=>gL (Rx es n ti.size) (l7 (0≤i∧i<n) (.ro (g i.toNat).cells))
   | .eF o j n _=>.rd o λ
    | .row es _ _=>gL (Nat.beq es ti.size) (l7 (0≤i∧i<n) (.ptr o (addN j i.toNat) 0))
    | _=>.fail
   | _=>.fail
  | _=>.fail
 | .index t x ix=>Vq cfg t λ ti=>match ti.desc,ρ x,ρ ix with
  | .str,.str b,.int _ i=>l7 (0≤i∧i<b.size) (.int .u8 (gI b i.toNat))
  | .array n et,.agg cs,.int _ i=>Vq cfg et λ ei=>ajh ei n cs i
  | _,_,_=>.fail
 | .makeMap t none=>aje cfg t λ ki ei=>.ret (.mref dR) [(dR,some (.map ki.desc ei.zero λ _=>none))]
 | .lookup t x ix false=>aje cfg t λ ki ei=>match ρ x,keyOf (ρ ix) with
  | .mref o,some k=>gL (Jf ki.desc k) (.rd o λ
   | .map kd z f=>gL (decide (kd=ki.desc)) (gL (decide (z=ei.zero)) (gL (acy z) (jY (ao7 z (Ch f k)))))
   | _=>.fail)
  | _,_=>.fail
 | .mapUpdate t x ix y=>aje cfg t λ ki ei=>match ρ x,keyOf (ρ ix),anv ei.zero (ρ y) with
  | .mref o,some k,some n=>gL (Jf ki.desc k) (.rd o λ
   | .map kd z f=>gL (decide (kd=ki.desc)) (gL (decide (z=ei.zero)) (gL (acy z) (.ret .undef [(o,some (.map kd z (Vr f k n)))])))
   | _=>.fail)
  | _,_,_=>.fail
 | .extract t i=>match ρ t with
  | .kI vs=>gL (Nat.blt i vs.length) (jY (nth vs i))
  | _=>.fail
 | .call c=>match c.callee with
  | .builtin .len=>match c.args.toList.map ρ,c.argTypes.toList with
   | [v],[t]=>Vq cfg t λ ti=>match v,ti.desc with
    | .sl _ n _ _,.slice _=>jY (.int .i64 n)
    | .eF o _ n _,.slice _=>.rd o λ _=>jY (.int .i64 n)
    | .str s,.str=>jY (.int .i64 s.size)
    | _,_=>.fail
   | _,_=>.fail
  | .builtin .cap=>match c.args.toList.map ρ,c.argTypes.toList with
   | [.sl _ n true _],[t]=>Vq cfg t λ ti=>match ti.desc with
    | .slice _=>jY (.int .i64 n)
    | _=>.fail
   | _,_=>.fail
  | .builtin .append=>match c.args.toList.map ρ,c.argTypes.toList with
   | [d,s],[t,t']=>ao1 s (anA cfg dR t t' d)
    (Dr cfg t' λ _=>Dr cfg t λ ti=>gL (Nat.blt 0 ti.size) (gL (Nat.blt 0 ti.bytes) (match isSelf d s with | true=>acu ti d s | false=>adQ ti dR d s)))
   | _,_=>.fail
  | .builtin .copy=>match c.args.toList.map ρ,c.argTypes.toList with
   | [d,s],[t,t']=>Dr cfg t' λ _=>Dr cfg t λ ti=>gL (Nat.blt 0 ti.size) (ai5 ti d s)
   | _,_=>.fail
  | .builtin .clear=>match c.args.toList.map ρ,c.argTypes.toList with
   | [.eF o i n _],[t]=>Dr cfg t λ ti=>gL (zok ti) (.rd o λ
    | .row es N g=>gL (Nat.beq es ti.size) (.ret .undef [(o,some (.row es N (cpG i n g (λ _=>zeroOf ti))))])
    | _=>.fail)
   | _,_=>.fail
  | .builtin .min=>match c.args.toList.map ρ with
   | [.int k a,.int _ b]=>jY (.int k (if b<a then b else a))
   | _=>.fail
  | .builtin .max=>match c.args.toList.map ρ with
   | [.int k a,.int _ b]=>jY (.int k (if b > a then b else a))
   | _=>.fail
  | .builtin _=>.fail
  | .value f=>match ρ f with
   | .fn g caps=>ajd cfg dR g (c.args.toList.map ρ++caps)
   | _=>.fail
  | .invoke _ _=>.fail
 | _=>.fail
def YM (T:Nat→AV):Operand→AV
 | .tmp t=>T t
 | .const v=>ofConst v
 | .global g=>match look cfg.glob g with | some cs=>.ro cs | none=>.undef
 | .func f=>.fn f []
end ops
abbrev oK:=FuncId→List AV→List dW→AV→List dW→Prop
structure Log where
 zZ:List Nat
 wrs:List Nat
structure St where
 tmps:List (Nat×AV)
 heap:lF
 nx:Nat
abbrev PC:=List (Bool×Bool)
def ahS:PC→Prop→(Prop→Prop)→Prop
 | [],p,K=>K p
 | (c,b)::l,p,K=>ahS l (c=b→p) K
section run
variable (cfg:yE) (Sp:oK)
def ids:lF→List Nat
 | []=>[]
 | (o,_)::l=>o::ids l
def ev (pc:PC) (H:Nat→Option dW):Pg→List Nat→(AV→lF→List Nat→Prop)→Prop
 | .ret v ups,zZ,K=>force v λ v'=>Dq ups λ wz=>K v' wz zZ
 | @Pg.need p _ k,zZ,K=>ahS pc p λ p'=>p'∧ev pc H k zZ K
 | .rd o k,zZ,K=>match H o with
  | some x=>ev pc H (k x) (o::zZ) K
  | none=>ahS pc False λ p'=>p'∧K .undef [] zZ
 | .call f args obs k,zZ,K=>∃r fQ,ahS pc (Sp f args obs r fQ) λ p'=>p'∧ev pc H (k r fQ) zZ K
 | .fail,zZ,K=>ahS pc False λ p'=>p'∧K .undef [] zZ
def ahb:Op→Bool
 | .move _ | .assign _ | .pick .. | .build .. | .load .. | .nilCheck _ | .binOp .. | .unOp .. | .convert .. | .makeFunc .. | .slice .. | .fieldAddr .. | .field .. | .indexAddr .. | .index .. | .lookup .. | .extract .. => true
 | .call c=>match c.callee with
  | .builtin .len | .builtin .min | .builtin .max=>true
  | .value (.func f)=>match (alM cfg f).muts,(alM cfg f).frz with | [],false=>true | _,_=>false
  | _=>false
 | _=>false
def Zd (c:Bool) (A B:Prop):Prop:=match c with | true=>A | false=>B
def abJ:List Oper→Nat→Option Oper
 | [],_=>none
 | o::_,0=>some o
 | _::l,n+1=>abJ l n
def Xb (all:List Oper) (j:Nat):Option Nat:=match abJ all j with
 | some o=>o.dst
 | none=>none
def ajj (ups H:lF) (K:lF→Prop):Prop:=
 match ups with
 | []=>K H
 | u::l=>ajj l H λ H'=>K (u::H')
def ajk (dst:Option Nat) (v u:AV) (T U:List (Nat×AV)) (K:List (Nat×AV)→List (Nat×AV)→Prop):Prop:=
 match dst with
 | some d=>K ((d,v)::T) ((d,u)::U)
 | none=>K T U
def MH:List PC→Nat→PC
 | [],_=>[]
 | p::_,0=>p
 | _::l,n+1=>MH l n
def afF:List PC→Nat→(PC→Prop)→Prop
 | [],_,K=>K []
 | p::_,0,K=>K p
 | _::l,n+1,K=>afF l n K
def Ry:List PC→PC→(List PC→Prop)→Prop
 | [],p,K=>K [p]
 | q::l,p,K=>Ry l p λ l'=>K (q::l')
def isNone {α:Type}:Option α→Bool
 | none=>true
 | some _=>false
def adV (all:List Oper) (nx:Nat):List Oper→Nat→List (Nat×AV)→List (Nat×AV)→lF→List PC→List Log→(St→List Log→Prop)→Prop
 | [],i,_,U,H,_,log,K=>K ⟨U,H,nx+stride*i⟩ log
 | o::rest,i,T,U,H,pcs,log,K=>
  match o.guard with
  | none=>ev Sp [] (hget H) (gX cfg (nx+stride*i) o.op (YM cfg (iL T))) [] λ v ups zZ=>
    ajk o.dst v v T U λ T' U'=>ajj ups H λ H'=>Ry pcs [] λ afG=>adV all nx rest (i+1) T' U' H' afG (⟨zZ,ids ups⟩::log) K
  | some (j,b)=>match Xb all j with
   | some d=>match iL T d with
    | .bool c=>match ahb cfg o.op with
     | true=>afF pcs j λ pcj=>ev Sp ((c,b)::pcj) (hget H) (gX cfg (nx+stride*i) o.op (YM cfg (iL T))) [] λ v ups zZ=>
      match ups with
      | []=>ajk o.dst v .undef T U λ T' U'=>Ry pcs ((c,b)::pcj) λ afG=>adV all nx rest (i+1) T' U' H afG (⟨zZ,[]⟩::log) K
      | _::_=>False
     | false=>match MH pcs j with
      | []=>Zd (c==b)
       (ev Sp [] (hget H) (gX cfg (nx+stride*i) o.op (YM cfg (iL T))) [] λ v ups zZ=>
         ajk o.dst v v T U λ T' U'=>ajj ups H λ H'=>Ry pcs [] λ afG=>adV all nx rest (i+1) T' U' H' afG (⟨zZ,ids ups⟩::log) K)
       (ajk o.dst .undef .undef T U λ T' U'=>Ry pcs [(c,b)] λ afG=>adV all nx rest (i+1) T' U' H afG (⟨[],[]⟩::log) K)
      | _::_=>False
    | _=>False
   | none=>False
def Ze (all:List Oper) (i:Nat):Option (Nat×Bool):=match abJ all i with
 | some o=>o.guard
 | none=>none
def chain (all:List Oper):Nat→Option (Nat×Bool)→List (Nat×Bool)
 | 0,_=>[]
 | _+1,none=>[]
 | f+1,some (j,b)=>(j,b)::chain all f (Ze all j)
def ahc (d:Option Nat) (t:Nat):Bool:=match d with
 | some x=>Nat.beq x t
 | none=>false
def vM (t:Nat):List Oper→Nat→List Nat
 | [],_=>[]
 | o::l,i=>match ahc o.dst t with
  | true=>i::vM t l (i+1)
  | false=>vM t l (i+1)
def writers (all:List Oper) (t:Nat):List Nat:=vM t all 0
def YN (all:List Oper):List Nat→Bool
 | []=>true
 | i::l=>match Ze all i with
  | none=>YN all l
  | some _=>false
def eqB:Bool→Bool→Bool
 | true,true=>true
 | false,false=>true
 | _,_=>false
def alS (j:Nat) (b:Bool):List (Nat×Bool)→Bool
 | []=>false
 | (j',b')::l=>match Nat.beq j j',eqB b b' with
  | true,true=>true
  | _,_=>alS j b l
def acA (all:List Oper) (k:Nat) (g:Option (Nat×Bool)) (t:Nat):Bool:=
 match writers all t with
 | [i]=>match Ze all i with
  | none=>true
  | some (j,b)=>match Nat.blt i k with
   | true=>alS j b (chain all 20 g)
   | false=>false
 | l=>YN all l
def ahd (all:List Oper) (k:Nat) (g:Option (Nat×Bool)) (c:Operand) (pol:Bool) (x:Operand):Bool:=
 match x with
 | .tmp t=>match acA all k g t with
  | true=>true
  | false=>match c,writers all t with
   | .tmp ct,[i]=>match Ze all i,writers all ct,Nat.blt i k with
    | some (j,b),[jc],true=>match Nat.beq j jc,Nat.blt jc k with
     | true,true=>eqB b pol
     | _,_=>false
    | _,_,_=>false
   | _,_=>false
 | _=>true
def Pt (all:List Oper) (k:Nat) (g:Option (Nat×Bool)):Operand→Bool
 | .tmp t=>acA all k g t
 | _=>true
def Jh (all:List Oper) (k:Nat) (g:Option (Nat×Bool)):List Operand→Bool
 | []=>true
 | x::l=>match Pt all k g x with
  | true=>Jh all k g l
  | false=>false
def adW (all:List Oper) (k:Nat) (o:Oper):Bool:=
 match (match o.guard with
  | none=>true
  | some (j,_)=>match Nat.blt j k with
   | true=>match Xb all j with
    | some d=>match writers all d with
         | [j']=>Nat.beq j' j
         | _=>false
    | none=>false
   | false=>false) with
 | true=>match o.op with
  | .pick c x y=>match Pt all k o.guard c,ahd all k o.guard c true x with
   | true,true=>ahd all k o.guard c false y
   | _,_=>false
  | op=>Jh all k o.guard op.operands.toList
 | false=>false
def sD (N:Nat) (all:List Oper):List Oper→Nat→Bool
 | [],_=>true
 | o::l,k=>match adW all k o,(match o.dst with | some d=>Nat.blt d N | none=>true) with
  | true,true=>sD N all l (k+1)
  | _,_=>false
def before (all:List Oper):Nat→Nat→Nat→Bool
 | 0,_,_=>false
 | f+1,i,j=>match abJ all j with
  | some o=>o.after.toList.any λ e=>Region.binds .any e&&Nat.blt e.on j&&(Nat.beq e.on i||before all f i e.on)
  | none=>false
def looks (all:List Oper) (o:Oper):List Nat:=
 (o.op.operands.toList.filterMap λ | .tmp t=>some t | _=>none)++(match o.guard with | some (j,_)=>(Xb all j).toList | none=>[])
def isIn (d:Option Nat) (l:List Nat):Bool:=match d with
 | some x=>Cg x l
 | none=>false
def Zf (all:List Oper) (x y:Oper):Bool:=!isIn x.dst (looks all y)&&!isIn y.dst (looks all x)&&!isIn x.dst y.dst.toList
def MI (all:List Oper) (j:Nat) (oj:Oper):List Oper→Nat→Bool
 | [],_=>true
 | o::l,i=>match Nat.blt i j with
  | true=>(Zf all o oj||before all 40 i j)&&MI all j oj l (i+1)
  | false=>true
def acB (o:Oper) (k:Nat):Bool:=o.after.toList.all λ e=>!Region.binds .any e||Nat.blt e.on k
def Vs (all:List Oper):List Oper→Nat→Bool
 | [],_=>true
 | o::l,j=>acB o j&&MI all j o all 0&&Vs all l (j+1)
def ajl (N:Nat) (all:List Oper) (draw:Bool):Bool:=sD N all all 0&&(!draw||Vs all all 0)
def iZ (N:Nat):Code→Bool
 | .region _ ops draw=>ajl N ops.toList draw
 | .seq a b=>iZ N a&&iZ N b
 | .cond _ a b=>iZ N a&&iZ N b
 | .block _ a=>iZ N a
 | .loop a=>iZ N a
 | .rangeFunc _ _ a b=>iZ N a&&iZ N b
 | .skip | .exit _ | .ret=>true
 | _=>false
def meets (l m:List Nat):Bool:=match l with
 | []=>false
 | x::l'=>match Cg x m with
  | true=>true
  | false=>meets l' m
def Vt (all:List Oper) (j:Nat) (x:Log):List Log→Nat→Bool
 | [],_=>true
 | _::_,0=>true
 | y::l,i+1=>match meets x.wrs y.zZ,meets y.wrs x.zZ,meets y.wrs x.wrs with
  | false,false,false=>Vt all j x l i
  | _,_,_=>match before all 40 i j with
   | true=>Vt all j x l i
   | false=>false
def Jc (all:List Oper):List Log→Nat→Bool
 | [],_=>true
 | _::_,0=>true
 | x::l,j+1=>match Vt all j x l j with
  | true=>Jc all l j
  | false=>false
def YO:Code→Nat
 | .region id _ _=>id
 | .seq a _=>YO a
 | .block _ a=>YO a
 | .loop a=>YO a
 | _=>1000000
def lG (ct:List Nat) (L:Code→St→(Exit→St→Prop)→Prop):Code→St→(Exit→St→Prop)→Prop
 | .skip,s,K=>K .normal s
 | .region _ ops draw,⟨T,H,nx⟩,K=>adV cfg Sp ops.toList nx ops.toList 0 T T H [] [] λ s' log=>
  match draw with
  | true=>match Jc ops.toList log ops.toList.length with
   | true=>K .normal s'
   | false=>False
  | false=>K .normal s'
 | .seq a b,s,K=>match Cg (YO b) ct with
  | true=>L (.seq a b) s K
  | false=>lG ct L a s λ e s'=>match e with
   | .normal=>lG ct L b s' K
   | e=>K e s'
 | .cond c x y,s,K=>match YM cfg (iL s.tmps) c with
  | .bool b=>Zd b (lG ct L x s K) (lG ct L y s K)
  | _=>False
 | .block id c,s,K=>lG ct L c s λ e s'=>match e with
  | .exit i=>match Nat.beq i id with
   | true=>K .normal s'
   | false=>K (.exit i) s'
  | e=>K e s'
 | .loop c,s,K=>L (.loop c) s K
 | .rangeFunc g ps a b,s,K=>L (.rangeFunc g ps a b) s K
 | .exit id,s,K=>K (.exit id) s
 | .ret,s,K=>K .ret s
 | _,_,_=>False
end run
inductive Le:AV→AV→Prop
 | refl (v:AV):Le v v
 | sl {es es' n n':Nat} {f f':Bool} {g g':Nat→AV} (hn:n=n') (he:n≠0→es=es') (hf:f'=true→f=true) (h:∀i,i<n→Le (g i) (g' i)):Le (.sl es n f g) (.sl es' n' f' g')
 | ro {cs cs':List AV} (hl:cs.length=cs'.length) (h:∀j,j<cs.length→Le (nth cs j) (nth cs' j)):Le (.ro cs) (.ro cs')
 | agg {cs cs':List AV} (hl:cs.length=cs'.length) (h:∀j,j<cs.length→Le (nth cs j) (nth cs' j)):Le (.agg cs) (.agg cs')
 | kI {cs cs':List AV} (hl:cs.length=cs'.length) (h:∀j,j<cs.length→Le (nth cs j) (nth cs' j)):Le (.kI cs) (.kI cs')
 | fn {f:FuncId} {cs cs':List AV} (hl:cs.length=cs'.length) (h:∀j,j<cs.length→Le (nth cs j) (nth cs' j)):Le (.fn f cs) (.fn f cs')
def Rz:List AV→List AV→Prop
 | [],[]=>True
 | u::l,v::m=>Le u v∧Rz l m
 | _,_=>False
def LeO:dW→dW→Prop
 | .box cs,.box cs'=>Rz cs cs'
 | .row es n g,.row es' n' g'=>es=es'∧n=n'∧∀i,i<n→Le (g i) (g' i)
 | _,_=>False
def anB:List dW→List dW→Prop
 | [],[]=>True
 | x::l,y::m=>LeO x y∧anB l m
 | _,_=>False
def uj (ρ:List (Nat×Option Nat)) (o:Nat):Option Nat:=match look ρ o with
 | some x=>x
 | none=>some o
def Zg (H:lF) (o:Nat):Bool:=match hget H o with
 | some _=>true
 | none=>false
def mZ (ρ:List (Nat×Option Nat)) (H':lF):Nat→AV→AV→Prop
 | 0,_,_=>False
 | f+1,u,v=>match v with
  | .undef=>True
  | .bool b'=>match u with | .bool b=>b=b' | _=>False
  | .int k' n'=>match u with | .int k n=>k=k'∧n=n' | _=>False
  | .str s'=>match u with | .str s=>s=s' | _=>False
  | .EB=>match u with | .EB=>True | _=>False
  | .mref o'=>match u with | .mref o=>Zg H' o'=true∧uj ρ o'=some o | _=>False
  | .sl es' n' f' g'=>match u with
   | .sl es n fu g=>n=n'∧(n≠0→es=es')∧(f'=true→fu=true)∧∀i,i<n→Le (g i) (g' i)
   | _=>False
  | .ro cs'=>match u with | .ro cs=>Rz cs cs' | _=>False
  | .ptr o' i' off'=>match u with
   | .ptr o i off=>Zg H' o'=true∧uj ρ o'=some o∧i=i'∧off=off'
   | _=>False
  | .eF o' i' n' f'=>match u with
   | .eF o i n fu=>Zg H' o'=true∧uj ρ o'=some o∧i=i'∧n=n'∧(f'=true→fu=true)
   | .sl _ n fu _=>Zg H' o'=true∧uj ρ o'=none∧fu=true∧n=0∧i'=0∧n'=0
   | _=>False
  | .agg cs'=>match u with | .agg cs=>Te f cs cs' | _=>False
  | .fn f' cs'=>match u with | .fn fu cs=>fu=f'∧Te f cs cs' | _=>False
  | .kI cs'=>match u with | .kI cs=>Te f cs cs' | _=>False
 where
 Te:Nat→List AV→List AV→Prop
  | 0,_,_=>False
  | _+1,[],[]=>True
  | f+1,u::l,v::m=>mZ ρ H' f u v∧Te f l m
  | _+1,_,_=>False
def anC (ρ:List (Nat×Option Nat)) (H':lF) (T:List (Nat×AV)):List (Nat×AV)→Prop
 | []=>True
 | (t,v)::l=>mZ ρ H' fuel (iL T t) v∧anC ρ H' T l
def adX (ρ:List (Nat×Option Nat)) (H':lF) (x y:dW):Prop:=
 match x,y with
 | .box cs,.box cs'=>mZ.Te ρ H' fuel cs cs'
 | .row es n g,.row es' n' g'=>es=es'∧n=n'∧∀i,i<n→Le (g i) (g' i)
 | .map kd z f,.map kd' z' f'=>kd=kd'∧z=z'∧f=f'
 | _,_=>False
def ajm (ρ:List (Nat×Option Nat)) (H' H:lF):lF→Prop
 | []=>True
 | (_,none)::l=>ajm ρ H' H l
 | (o',some y)::l=>(match uj ρ o' with
  | some o=>match hget H o with
   | some x=>adX ρ H' x y
   | none=>False
  | none=>match y with
   | .row _ n _=>n=0
   | _=>False)∧ajm ρ H' H l
def Zh (ρ:List (Nat×Option Nat)):lF→List Nat
 | []=>[]
 | (_,none)::l=>Zh ρ l
 | (o',some _)::l=>match uj ρ o' with
  | some o=>o::Zh ρ l
  | none=>Zh ρ l
def RA (m nx:Nat) (ρ:List (Nat×Option Nat)):lF→Bool
 | []=>true
 | (o',_)::l=>match Nat.blt o' nx with
  | true=>match uj ρ o' with
   | some o=>match Nat.beq o o' with
    | true=>RA m nx ρ l
    | false=>match Nat.ble m o' with
     | true=>RA m nx ρ l
     | false=>false
   | none=>match Nat.ble m o' with
    | true=>RA m nx ρ l
    | false=>false
  | false=>false
def anc:lF→Bool
 | []=>true
 | (o,_)::l=>match look l o with
  | some _=>false
  | none=>anc l
def afH (m:Nat) (ρ:List (Nat×Option Nat)) (s':St):Bool:=
 match RA m s'.nx ρ s'.heap,oN (Zh ρ s'.heap),anc s'.heap with
 | true,true,true=>Nat.ble m s'.nx
 | _,_,_=>false
structure Emb (m:Nat) (ρ:List (Nat×Option Nat)) (s s':St):Prop where
 Jc:afH m ρ s'=true
 tmps:anC ρ s'.heap s.tmps s'.tmps
 heap:ajm ρ s'.heap s.heap s'.heap
def upTo:Nat→Nat→List Nat
 | 0,_=>[]
 | n+1,i=>i::upTo n (i+1)
def Kk (cfg:yE) (s:St):List ResultVar→Option (List AV)
 | []=>some []
 | .tmp t::l=>match Kk cfg s l with
  | some vs=>some (iL s.tmps t::vs)
  | none=>none
 | .cell ad ty::l=>match Kk cfg s l,iL s.tmps ad,look cfg.ty ty with
  | some vs,.ptr o 0 0,some ti=>match hget s.heap o with
   | some (.box cs)=>match ti.agg with
    | true=>match Nat.ble ti.size cs.length with
     | true=>some (.agg (cs.take ti.size)::vs)
     | false=>none
    | false=>match cs with
     | c::_=>some (c::vs)
     | []=>none
   | some (.row _ n g)=>match Zc ti.desc,ti.agg with
    | some _,true=>match kS n 0 g with
     | cs=>match Nat.ble ti.size cs.length with
      | true=>some (.agg (cs.take ti.size)::vs)
      | false=>none
    | _,_=>none
   | _=>none
  | _,_,_=>none
def oneOf:List AV→AV
 | [v]=>v
 | vs=>.kI vs
def acC (m:Nat) (r:AV):AV→List Nat
 | .ptr o _ _=>match Nat.ble m o with
  | true=>[o]
  | false=>[]
 | .eF o _ _ _=>match r with
  | .eF .. => match Nat.ble m o with
   | true=>[o]
   | false=>[]
  | _=>[]
 | _=>[]
def Zi (H:lF):List Nat→List dW→Prop
 | [],[]=>True
 | o::l,y::ys=>(match hget H o with
  | some x=>match YK x with
   | true=>adX [] [] x y
   | false=>False
  | none=>False)∧Zi H l ys
 | _,_=>False
def Ji (cfg:yE) (Sp:oK) (rs:List ResultVar) (m:Nat) (r:AV) (fQ:List dW) (e:Exit) (s:St):Prop:=
 match (match e with | .normal=>true | .ret=>true | _=>false) with
 | true=>match Kk cfg s rs with
  | some vs=>match oneOf vs with
   | v=>match upTo m 0++acC m r v with
    | sg=>ev Sp [] (hget s.heap) (Pq sg v λ v' ids=>gL (oN sg) (gL (ME ids sg) (jY v'))) [] λ v' _ _=>mZ [] (oO fQ 0) fuel v' r∧Zi s.heap sg fQ
  | none=>False
 | false=>False
 where oO:List dW→Nat→lF
 | [],_=>[]
 | x::l,i=>(i,some x)::oO l (i+1)
def Zj:List dW→Nat→lF
 | [],_=>[]
 | x::l,i=>(i,gz x)::Zj l (i+1)
def Kl:List AV→Nat→List (Nat×AV)
 | [],_=>[]
 | v::l,i=>(i,v)::Kl l (i+1)
end Go.Ab
namespace Go.Ab
inductive iE (w:World) (I:Nat→Prop):AV→Value→Prop
 | undef (x:Value):iE w I .undef x
 | bool (b:Bool):iE w I (.bool b) (.bool b)
 | int (k:IntKind) (n:Int):iE w I (.int k n) (.int k n)
 | str (s:ByteArray):iE w I (.str s) (.string s)
 | EB:iE w I .EB (.pointer none)
 | sl {es n:Nat} {full:Bool} {g:Nat→AV} {a:Option Addr} {cap:Nat} (b off:Nat) (vs:Nat→Nat→Value)
   (hcap:n≤cap) (hfull:full=true→cap=n) (ha:n≠0→a=some ⟨b,off,none⟩∧I b)
   (hes:∀i,i<n→(g i).cells.length=es)
   (hm:∀i j,i<n→j<es→w.cell? ⟨b,off+(i*es+j),none⟩=some (vs i j))
   (h1:∀i j,i<n→j<es→(vs i j).oneCell'=true)
   (hr:∀i j,i<n→j<es→iE w I (nth (g i).cells j) (vs i j)):iE w I (.sl es n full g) (.slice a n cap)
 | ro {cs:List AV} (b off:Nat) (vs:Nat→Value) (hI:I b)
   (hm:∀j,j<cs.length→w.cell? ⟨b,off+j,none⟩=some (vs j))
   (hr:∀j,j<cs.length→iE w I (nth cs j) (vs j)):iE w I (.ro cs) (.pointer (some ⟨b,off,none⟩))
 | agg {cs:List AV} {vs:Array Value} (hl:vs.size=cs.length) (hr:∀j,j<cs.length→iE w I (nth cs j) (vs.getD j Go.undef)):iE w I (.agg cs) (.agg vs)
 | fn {f:FuncId} {cs:List AV} {vs:Array Value} (hl:vs.size=cs.length) (hr:∀j,j<cs.length→iE w I (nth cs j) (vs.getD j Go.undef)):iE w I (.fn f cs) (.func (.func f) #[] vs)
 | kI {cs:List AV} {vs:Array Value} (hl:vs.size=cs.length) (hr:∀j,j<cs.length→iE w I (nth cs j) (vs.getD j Go.undef)):iE w I (.kI cs) (.tuple vs)
structure Own where
 es:Nat
 n:Nat
 pl:Option (Nat×Nat×Nat)
abbrev OM:=Nat→Option Own
inductive eX (w:World) (I:Nat→Prop) (O:OM) (D:Nat→Prop):AV→Value→Prop
 | pure {v:AV} {x:Value} (h:iE w I v x):eX w I O D v x
 | ptr {o i off b bo sz:Nat} {p:Own} (ho:O o=some p) (hp:p.pl=some (b,bo,sz)) (hi:i<p.n):eX w I O D (.ptr o i off) (.pointer (some ⟨b,bo+(i*p.es+off),none⟩))
 | eF {o i n:Nat} {full:Bool} {p:Own} {a:Option Addr} {cap:Nat} (ho:O o=some p) (hi:i+n≤p.n) (hcap:n≤cap) (hfull:full=true→cap=n)
   (hpl:cap≠0→∃b bo sz,p.pl=some (b,bo,sz)∧a=some ⟨b,bo+i*p.es,none⟩∧bo+(i+cap)*p.es≤sz) (hext:p.n≤i+cap):eX w I O D (.eF o i n full) (.slice a n cap)
 | mref {o b bo sz:Nat} {p:Own} (ho:O o=some p) (hp:p.pl=some (b,bo,sz)):eX w I O D (.mref o) (.map (some b))
 | Tf {o:Nat} {x:Value} (ho:O o=none) (hd:D o) (h1:x.oneCell'=true):eX w I O D (.mref o) x
 | Du {o i off:Nat} {x:Value} (ho:O o=none) (hd:D o) (h1:x.oneCell'=true):eX w I O D (.ptr o i off) x
 | BH {o i n:Nat} {full:Bool} {x:Value} (ho:O o=none) (hd:D o) (h1:x.oneCell'=true):eX w I O D (.eF o i n full) x
 | agg {cs:List AV} {vs:Array Value} (hl:vs.size=cs.length) (hr:∀j,j<cs.length→eX w I O D (nth cs j) (vs.getD j Go.undef)):eX w I O D (.agg cs) (.agg vs)
 | fn {f:FuncId} {cs:List AV} {vs:Array Value} (hl:vs.size=cs.length) (hr:∀j,j<cs.length→eX w I O D (nth cs j) (vs.getD j Go.undef)):eX w I O D (.fn f cs) (.func (.func f) #[] vs)
 | kI {cs:List AV} {vs:Array Value} (hl:vs.size=cs.length) (hr:∀j,j<cs.length→eX w I O D (nth cs j) (vs.getD j Go.undef)):eX w I O D (.kI cs) (.tuple vs)
def MJ (w:World) (b sz:Nat):Prop:=∀j,j<sz→(w.cell? ⟨b,j,none⟩).isSome=true∧w.frozen? ⟨b,j,none⟩=false
def cellAt (w:World) (b j:Nat):Value:=(w.cell? ⟨b,j,none⟩).getD Go.undef
def MK:qD→Value
 | .s b=>.string b
 | .i n=>.int .i64 n
def XL (z:List ZK) (n:Int):Value:=match z with
 | [.bool]=>.bool (n != 0)
 | [.int k]=>.int k n
 | _=>Go.undef
structure afI (kd:TD) (z:List ZK) (f:qD→Option Int) (es:Array MapEntry):Prop where
 keys:∀e∈es.toList,∃k n,e.key=MK k∧Jf kd k=true∧f k=some n∧e.val=XL z n
 uniq:es.toList.Pairwise λ e e'=>e.key≠e'.key
 all:∀k n,f k=some n→∃e∈es.toList,e.key=MK k
def iY (w:World) (I:Nat→Prop) (O:OM) (D:Nat→Prop) (p:Own):dW→Prop
 | .box cs=>p.n=1∧∃b bo sz,p.pl=some (b,bo,sz)∧MJ w b sz∧bo+cs.length≤sz∧∀j,j<cs.length→eX w I O D (nth cs j) (cellAt w b (bo+j))
 | .row es n g=>p.n=n∧p.es=es∧(∀i,i<n→(g i).cells.length=es)∧((n=0∧p.pl=none)∨
   ∃b bo sz,p.pl=some (b,bo,sz)∧MJ w b sz∧bo+n*es≤sz∧∀i j,i<n→j<es→iE w I (nth (g i).cells j) (cellAt w b (bo+(i*es+j)))∧(cellAt w b (bo+(i*es+j))).oneCell'=true)
 | .map kd z f=>p.n=1∧∃b bo sz es clock,p.pl=some (b,bo,sz)∧w.heap[b]? = some (.map es clock)∧afI kd z f es
structure Ctx where
 w0:World
 M:Nat→Prop
 I0:Nat→Prop
 O0:OM
 m:Nat
 K:Nat→Obj→Prop
 rd:Bool
def Pv:Obj→Bool
 | .cells .. => false
 | _=>true
structure iD (w' w:World):Prop where
 os:w'.os=w.os
 tape:w'.tape=w.tape
 output:w'.output=w.output
 keep:∀(k:Nat) (o:Obj),w.heap[k]? = some o→Pv o=true→w'.heap[k]? = some o
theorem iD.refl (w:World):iD w w:=⟨rfl,rfl,rfl,λ _ _ h _=>h⟩
theorem iD.trans {a b c:World} (h:iD a b) (k:iD b c):iD a c:=⟨h.os.trans k.os,h.tape.trans k.tape,h.output.trans k.output,λ i o hi ho=>h.keep i o (k.keep i o hi ho) ho⟩
variable {w':World}
theorem iD.heap {w:World} (h1:w'.os=w.os) (h2:w'.tape=w.tape) (h3:w'.output=w.output) (h:w'.heap=w.heap):iD w' w:=⟨h1,h2,h3,λ i o hi _=>by rw [h]; exact hi⟩
theorem iD.alloc (w:World) (o:Obj):iD (w.alloc o) w:=⟨rfl,rfl,rfl,λ i x hi _=>by
 have hlt:i<w.heap.size:=by
  rcases Nat.lt_or_ge i w.heap.size with h | h
  ·exact h
  ·rw [Array.getElem?_eq_none h] at hi; cases hi
 show (w.heap.push o)[i]? = some x;rw [Array.getElem?_push_lt hlt,← hi,Array.getElem?_eq_getElem hlt]⟩
structure GQ (cx:Ctx) (w:World):Prop where
 same:iD w cx.w0
 kept:∀k o,cx.K k o→w.heap[k]? = some o∧Pv o=true
theorem GQ.step {cx:Ctx} {w:World} (h:GQ cx w) (he:iD w' w):GQ cx w':=⟨he.trans h.same,λ k o hk=>⟨he.keep k o (h.kept k o hk).1 (h.kept k o hk).2,(h.kept k o hk).2⟩⟩
structure Rel (cfg:yE) (cx:Ctx) (H:Nat→Option dW) (D:Nat→Prop) (w:World) (I:Nat→Prop) (O:OM):Prop where
 dom:∀o,O o=none↔H o=none
 used:∀o p,O o=some p→D o
 objs:∀o ob p,H o=some ob→O o=some p→iY w I O D p ob
 inj:∀o o' p p' b bo sz b' p8 sz',O o=some p→O o'=some p'→p.pl=some (b,bo,sz)→p'.pl=some (b',p8,sz')→o≠o'→b≠b'
 p9:∀o p b bo sz,O o=some p→p.pl=some (b,bo,sz)→¬ I b
 lt:∀o p b bo sz,O o=some p→p.pl=some (b,bo,sz)→b<w.heap.size
 AU:∀b,I b→b<w.heap.size
 size:cx.w0.heap.size≤w.heap.size
 frame:∀b,b<cx.w0.heap.size→¬ cx.M b→w.heap[b]? = cx.w0.heap[b]?
 new:∀o p b bo sz,O o=some p→p.pl=some (b,bo,sz)→cx.w0.heap.size≤b∨cx.M b
 glob:∀g cs,look cfg.glob g=some cs→iE w I (.ro cs) (.pointer (some ⟨g,0,none⟩))
 Tg:∀b,cx.I0 b→I b
 Xc:∀b,I b→cx.I0 b∨cx.w0.heap.size≤b∨cx.M b
 Zk:∀o,o<cx.m→O o=cx.O0 o∨O o=none
 Dm:∀o,o<cx.m→D o
 env:GQ cx w
 maps:∀o kd z f p b bo sz,H o=some (.map kd z f)→O o=some p→p.pl=some (b,bo,sz)→cx.w0.heap.size≤b∧∀ob,¬ cx.K b ob
theorem vk (l:List AV) (i:Nat):nth l i=l.getD i .undef:=by
 induction l generalizing i with
 | nil=>simp [nth]
 | cons v l ih=>cases i<;>simp [nth,ih]
theorem cell?_of_heap {w:World} {b off:Nat} (h:w'.heap[b]? = w.heap[b]?):w'.cell? ⟨b,off,none⟩=w.cell? ⟨b,off,none⟩:=by
 simp [World.cell?, h]
theorem frozen?_of_heap {w:World} {b off:Nat} (h:w'.heap[b]? = w.heap[b]?):w'.frozen? ⟨b,off,none⟩=w.frozen? ⟨b,off,none⟩:=by
 simp [World.frozen?, h]
variable {I':Nat→Prop} {v:AV} {x:Value}
theorem iE.mono {w:World} {I:Nat→Prop} (hI:∀b,I b→I' b) (hw:∀b,I b→w'.heap[b]? = w.heap[b]?) (h:iE w I v x):iE w' I' v x:=by
 induction h with
 | undef x=>exact .undef x
 | bool b=>exact .bool b
 | int k n=>exact .int k n
 | str s=>exact .str s
 | EB=>exact .EB
 | @sl es n full g a cap b off vs hcap hfull ha hes hm h1 hr ih=>
  refine .sl b off vs hcap hfull (λ h=>⟨(ha h).1,hI _ (ha h).2⟩) hes (λ i j hi hj=>?_) h1 ih;rw [cell?_of_heap (hw _ (ha om).2)];exact hm i j hi hj
 | ro b off vs h1 hm hr ih=>
  refine .ro b off vs (hI _ h1) (λ j hj=>?_) ih;rw [cell?_of_heap (hw _ h1)];exact hm j hj
 | agg hl hr ih=>exact .agg hl ih
 | fn hl hr ih=>exact .fn hl ih
 | kI hl hr ih=>exact .kI hl ih
theorem eX.mono {w:World} {I:Nat→Prop} {O O':OM} {D D':Nat→Prop} (hI:∀b,I b→I' b) (hw:∀b,I b→w'.heap[b]? = w.heap[b]?)
  (hO:∀o,D o→O' o=O o∨O' o=none) (hD:∀o,D o→D' o) (hu:∀o p,O o=some p→D o) {v:AV} {x:Value} (h:eX w I O D v x):eX w' I' O' D' v x:=by
 induction h with
 | pure h=>exact .pure (h.mono hI hw)
 | @ptr o i off b bo sz p ho hp hi=>
  rcases hO o (hu o p ho) with h | h
  ·exact .ptr (h.trans ho) hp hi
  ·exact .Du h (hD _ (hu o p ho)) rfl
 | @eF o i n full p a cap ho hi hcap hfull hpl hext=>
  rcases hO o (hu o p ho) with h | h
  ·exact .eF (h.trans ho) hi hcap hfull hpl hext
  ·exact .BH h (hD _ (hu o p ho)) rfl
 | @mref o b bo sz p ho hp=>
  rcases hO o (hu o p ho) with h | h
  ·exact .mref (h.trans ho) hp
  ·exact .Tf h (hD _ (hu o p ho)) rfl
 | @Tf o x ho hd h1=>
  rcases hO o hd with h | h
  ·exact .Tf (h.trans ho) (hD _ hd) h1
  ·exact .Tf h (hD _ hd) h1
 | @Du o i off x ho hd h1=>
  rcases hO o hd with h | h
  ·exact .Du (h.trans ho) (hD _ hd) h1
  ·exact .Du h (hD _ hd) h1
 | @BH o i n full x ho hd h1=>
  rcases hO o hd with h | h
  ·exact .BH (h.trans ho) (hD _ hd) h1
  ·exact .BH h (hD _ hd) h1
 | agg hl hr ih=>exact .agg hl ih
 | fn hl hr ih=>exact .fn hl ih
 | kI hl hr ih=>exact .kI hl ih
def ML:ZK→Value→Prop
 | .bool,x=>x=.bool false
 | .int k,x=>x=.int k 0
 | .str,x=>x=.string ByteArray.empty
 | .slice,x=>x=.slice none 0 0
 | .ptr,x=>x=.pointer none
 | .other,x=>x.oneCell'=true
def ajn:TD→TypeDesc→Prop
 | .bool,d=>d=.bool
 | .int k,d=>d=.int k
 | .str,d=>d=.string
 | .slice e,d=>d=.slice e
 | .pointer e,d=>d=.pointer e
 | .map k e,d=>d=.map k e
 | .array n e,d=>d=.array n e
 | .struct fs,d=>∃fields:Array Field,d=.struct fields∧fields.toList.map (λ f=>(f.offset,f.type))=fs
 | .other,_=>True
structure ao9 (P:Program) (t:TypeId) (ti:QK):Prop where
 ex:∃i d z,P.info? t=some i∧P.underlying t=some d∧i.zero=some z∧i.size=ti.size∧i.bytes=ti.bytes∧d.isRow=ti.agg∧z.cells.size=ti.size∧
  ti.zero.length=ti.size∧(∀j,j<ti.size→ML (ti.zero.getD j .other) (z.cells.getD j Go.undef))∧ajn ti.desc d
 one:ti.agg=false→∀i z,P.info? t=some i→i.zero=some z→z.cells=#[z]
def Xd (P:Program):TypeDesc→Prop
 | .struct fields=>∀f∈fields.toList,(P.info? f.type).isSome=true
 | _=>True
def acD:ZK→TypeDesc→Prop
 | .bool,d=>d=.bool
 | .int k,d=>d=.int k
 | .str,d=>d=.string
 | _,_=>False
def alT (P:Program) (ok:TypeId→List ZK→Prop):List Field→List ZK→Nat→Prop
 | [],[],_=>True
 | f::fs,zs,k=>f.name ≠ "_" ∧ f.offset=k∧∃z1 z2,zs=z1++z2∧((∃z d,z1=[z]∧P.underlying f.type=some d∧acD z d)∨(ok f.type z1∧P.cellsOf f.type=z1.length))∧alT P ok fs z2 (k+z1.length)
 | _,_,_=>False
def EqT (P:Program):Nat→TypeId→List ZK→Prop
 | 0,_,_=>False
 | n+1,t,zs=>∃fields,P.underlying t=some (.struct fields)∧P.stoodInHeld t=false∧alT P (EqT P n) fields.toList zs 0
structure apa (P:Program) (t:TypeId) (zs:List ZK):Prop where
 ex:EqT P 4 t zs
 guard:P.eqGuardType P.depth t=false
structure iy (P:Program) (cfg:yE):Prop where
 ty:∀t ti,look cfg.ty t=some ti→ao9 P t ti
 fields:∀t ti d,look cfg.ty t=some ti→P.underlying t=some d→Xd P d
 mixed:P.follows .mixedOrders=true
 eqs:∀t zs,look cfg.eqs t=some zs→apa P t zs
def mM (H:Nat→Option dW) (ups:lF):Nat→Option dW:=λ o=>match look ups o with | some x=>x | none=>H o
inductive fP (Sp:oK) (H:Nat→Option dW):Pg→AV→lF→List Nat→Prop
 | ret (v:AV) (ups:lF):fP Sp H (.ret v ups) v ups []
 | need {p:Prop} [d:Decidable p] {k:Pg} {v:AV} {ups:lF} {r:List Nat} (hp:p) (h:fP Sp H k v ups r):fP Sp H (.need p k) v ups r
 | rd {o:Nat} {x:dW} {k:dW→Pg} {v:AV} {ups:lF} {r:List Nat} (ho:H o=some x) (h:fP Sp H (k x) v ups r):fP Sp H (.rd o k) v ups (o::r)
 | call {f:FuncId} {args:List AV} {obs:List dW} {k:AV→List dW→Pg} {x:AV} {fQ:List dW} {v:AV} {ups:lF} {r:List Nat} (hs:Sp f args obs x fQ)
   (h:fP Sp H (k x fQ) v ups r):fP Sp H (.call f args obs k) v ups r
def hof:List dW→Nat→Option dW
 | [],_=>none
 | x::_,0=>some x
 | _::l,n+1=>hof l n
def EC:List dW→Nat→Option dW
 | [],_=>none
 | x::_,0=>gz x
 | _::l,n+1=>EC l n
theorem abK:∀ {l:List dW} {j:Nat} {x:dW},EC l j=some x→hof l j=some x∧MC x=false:=by
 intro l;induction l with
 | nil=>intro j x h; cases h
 | cons y l ih=>
  intro j x h;cases j with
  | zero=>
   simp only [EC,gz] at h;split at h
   ·cases h
   ·rename_i hg; cases h; exact ⟨rfl,hg⟩
  | succ j=>exact ih h
theorem alU:∀ {l:List dW},(∀j x,hof l j=some x→MC x=false)→EC l=hof l:=by
 intro l;induction l with
 | nil=>intro _; rfl
 | cons y l ih=>
  intro h;funext j;cases j with
  | zero=>have:=h 0 y rfl; simp only [EC,hof,gz,this]
  | succ j=>exact congrFun (ih λ j x hx=>h (j+1) x hx) j
def L6 (w:World) (I:Nat→Prop) (O:OM) (m:Nat):Ctx:=⟨w,λ b=>∃o p bo sz,O o=some p∧p.pl=some (b,bo,sz),I,O,m,λ _ _=>False,false⟩
def Spec (P:Program) (cfg:yE):oK:=λ f args obs r fQ=>
 (∃fn,P.funcs[f]? = some fn∧fn.body.isNone=false∧(fn.name == "runtime.NumGoroutine")=false)∧obs.length≤fQ.length∧
 ∀(w:World) (I:Nat→Prop) (O:OM) (vals:Array Value),Rel cfg (L6 w I O obs.length) (hof obs) (λ o=>o<obs.length) w I O→
  vals.size=args.length→(∀j,j<args.length→eX w I O (λ o=>o<obs.length) (nth args j) (vals.getD j Go.undef))→
  Calls P f vals w λ e w'=>∃x I' O',e=.returned x∧Rel cfg (L6 w I O obs.length) (EC fQ) (λ o=>o<fQ.length) w' I' O'∧
   eX w' I' O' (λ o=>o<fQ.length) r x
section
variable {P:Program} {cfg:yE} {cx:Ctx} {H:Nat→Option dW} {D:Nat→Prop} {w:World} {I:Nat→Prop} {O:OM}
def Dv (D:Nat→Prop) (n:Nat):Nat→Prop:=λ o=>D o∨(n≤o∧o<n+stride)
def Zl (D:Nat→Prop) (n:Nat):Prop:=∀o,n≤o→o<n+stride→¬ D o
variable {n:Nat}
theorem Zl.one {D:Nat→Prop} (h:Zl D n):¬ D n:=h n (Nat.le_refl _) (by unfold stride; omega)
variable {o:Nat}
theorem Vu {D:Nat→Prop} (h:o=n):Dv D n o:=.inr ⟨by omega,by unfold stride; omega⟩
def fH (P:Program) (cfg:yE) (cx:Ctx) (H:Nat→Option dW) (D:Nat→Prop) (w:World) (I:Nat→Prop) (O:OM) (dR:Nat) (o:Oper) (a:Act) (v:AV) (ups:lF):Prop:=
 ∀(next:Act→World→Prop) (Q:Exit→Act→World→Prop),
  (∀x w' I' O',Rel cfg cx (mM H ups) (Dv D dR) w' I' O'→(∀u y,eX w I O D u y→eX w' I' O' (Dv D dR) u y)→eX w' I' O' (Dv D dR) v x→next (a.put o.dst x) w')→
  o.wp P a w next Q
theorem Dw (H:Nat→Option dW):mM H []=H:=rfl
theorem iY.mono {O':OM} {D':Nat→Prop} {p:Own} {ob:dW} (hI:∀b,I b→I' b) (hw:∀b,I b→w'.heap[b]? = w.heap[b]?)
  (hO:∀o,D o→O' o=O o∨O' o=none) (hD:∀o,D o→D' o) (hu:∀o p,O o=some p→D o) (hb:∀b bo sz,p.pl=some (b,bo,sz)→w'.heap[b]? = w.heap[b]?)
  (h:iY w I O D p ob):iY w' I' O' D' p ob:=by
 cases ob with
 | box cs=>
  obtain ⟨h1,b,bo,sz,hp,ha,hl,hc⟩:=h;have hh:=hb b bo sz hp;refine ⟨h1,b,bo,sz,hp,λ j hj=>?_,hl,λ j hj=>?_⟩
  ·rw [cell?_of_heap hh,frozen?_of_heap hh]; exact ha j hj
  ·rw [cellAt,cell?_of_heap hh]; exact (hc j hj).mono hI hw hO hD hu
 | row es n g=>
  obtain ⟨h1,h2,h3,h4⟩:=h;refine ⟨h1,h2,h3,?_⟩;rcases h4 with h4 | ⟨b,bo,sz,hp,ha,hl,hc⟩
  ·exact .inl h4
  ·have hh:=hb b bo sz hp;refine .inr ⟨b,bo,sz,hp,λ j hj=>?_,hl,λ i j hi hj=>?_⟩
   ·rw [cell?_of_heap hh,frozen?_of_heap hh]; exact ha j hj
   ·rw [cellAt,cell?_of_heap hh]; exact ⟨(hc i j hi hj).1.mono hI hw,(hc i j hi hj).2⟩
 | map kd z f=>
  obtain ⟨h1,b,bo,sz,es,clock,hp,hw2,hm⟩:=h;exact ⟨h1,b,bo,sz,es,clock,hp,by rw [hb b bo sz hp]; exact hw2,hm⟩
theorem Rel.yu (hR:Rel cfg cx H D w I O) (n:Nat):Rel cfg cx H (Dv D n) w I O:=
 { hR with
  used:=λ o p h=>.inl (hR.used o p h)
  objs:=λ o ob p h h'=>(hR.objs o ob p h h').mono (λ _ h=>h) (λ _ _=>rfl) (λ _ _=>.inl rfl) (λ _ h=>.inl h) hR.used (λ _ _ _ _=>rfl)
  Dm:=λ o h=>.inl (hR.Dm o h) }
theorem eX.yu (hR:Rel cfg cx H D w I O) (n:Nat) (h:eX w I O D v x):eX w I O (Dv D n) v x:=
 h.mono (λ _ h=>h) (λ _ _=>rfl) (λ _ _=>.inl rfl) (λ _ h=>.inl h) hR.used
theorem tX {o:Oper} {a:Act} {next:Act→World→Prop} {Q:Exit→Act→World→Prop} (h:(execOp a.eval o).run P w=.ok (.value x) w') (hn:next (a.put o.dst x) w'):o.wp P a w next Q:=by
 unfold Oper.wp; rw [h]; exact hn
theorem fH.eT {dR:Nat} {o:Oper} {a:Act} (hR:Rel cfg cx H D w I O) (h:(execOp a.eval o).run P w=.ok (.value x) w) (hv:eX w I O D v x):fH P cfg cx H D w I O dR o a v []:=by
 intro next Q hn
 exact tX h (hn x w I O (by rw [Dw]; exact hR.yu dR) (λ u y hu=>hu.yu hR dR) (hv.yu hR dR))
theorem eX.lQ {b:Bool} (h:eX w I O D (.bool b) x):x=.bool b:=by
 cases h with | pure h=>cases h; rfl
theorem eX.iM {k:IntKind} {n:Int} (h:eX w I O D (.int k n) x):x=.int k n:=by
 cases h with | pure h=>cases h; rfl
theorem eX.Ci {s:ByteArray} (h:eX w I O D (.str s) x):x=.string s:=by
 cases h with | pure h=>cases h; rfl
theorem eX.AX {es:Nat} {f:Bool} {g:Nat→AV} (h:eX w I O D (.sl es n f g) x):iE w I (.sl es n f g) x:=by
 cases h with | pure h=>exact h
variable {cs:List AV}
theorem eX.Zm (h:eX w I O D (.ro cs) x):iE w I (.ro cs) x:=by
 cases h with | pure h=>exact h
theorem eX.wJ (h:eX w I O D (.agg cs) x):∃vs:Array Value,x=.agg vs∧vs.size=cs.length∧∀j,j<cs.length→eX w I O D (nth cs j) (vs.getD j Go.undef):=by
 cases h with
 | pure h=>cases h with | agg hl hr=>exact ⟨_,rfl,hl,λ j hj=>.pure (hr j hj)⟩
 | agg hl hr=>exact ⟨_,rfl,hl,hr⟩
theorem eX.Jj (h:eX w I O D (.kI cs) x):∃vs:Array Value,x=.tuple vs∧vs.size=cs.length∧∀j,j<cs.length→eX w I O D (nth cs j) (vs.getD j Go.undef):=by
 cases h with
 | pure h=>cases h with | kI hl hr=>exact ⟨_,rfl,hl,λ j hj=>.pure (hr j hj)⟩
 | kI hl hr=>exact ⟨_,rfl,hl,hr⟩
theorem eX.MN {f:FuncId} (h:eX w I O D (.fn f cs) x):∃vs:Array Value,x=.func (.func f) #[] vs∧vs.size=cs.length∧∀j,j<cs.length→eX w I O D (nth cs j) (vs.getD j Go.undef):=by
 cases h with
 | pure h=>cases h with | fn hl hr=>exact ⟨_,rfl,hl,λ j hj=>.pure (hr j hj)⟩
 | fn hl hr=>exact ⟨_,rfl,hl,hr⟩
variable {p:Own}
theorem eX.oP {i off:Nat} (ho:O o=some p) (h:eX w I O D (.ptr o i off) x):∃b bo sz,p.pl=some (b,bo,sz)∧i<p.n∧x=.pointer (some ⟨b,bo+(i*p.es+off),none⟩):=by
 cases h with
 | pure h=>cases h
 | @ptr _ _ _ b bo sz p' ho' hp hi=>
  have:p'=p:=Option.some.inj (ho'.symm.trans ho);subst this;exact ⟨b,bo,sz,hp,hi,rfl⟩
 | Du ho'=>rw [ho] at ho'; cases ho'
theorem eX.ng {i:Nat} {full:Bool} (ho:O o=some p) (h:eX w I O D (.eF o i n full) x):∃a cap,x=.slice a n cap∧i+n≤p.n∧n≤cap∧(full=true→cap=n)∧
  (cap≠0→∃b bo sz,p.pl=some (b,bo,sz)∧a=some ⟨b,bo+i*p.es,none⟩∧bo+(i+cap)*p.es≤sz):=by
 cases h with
 | pure h=>cases h
 | @eF _ _ _ _ p' a cap ho' hi hcap hfull hpl hext=>
  have:p'=p:=Option.some.inj (ho'.symm.trans ho);subst this;exact ⟨a,cap,rfl,hi,hcap,hfull,hpl⟩
 | BH ho'=>rw [ho] at ho'; cases ho'
theorem eX.ER {i n' cap:Nat} {full:Bool} {aa:Option Addr} (ho:O o=some p) (h:eX w I O D (.eF o i n full) (.slice aa n' cap)):p.n≤i+cap:=by
 cases h with
 | pure h=>cases h
 | @eF _ _ _ _ p' a cap ho' hi hcap hfull hpl hext=>
  have:p'=p:=Option.some.inj (ho'.symm.trans ho);subst this;exact hext
 | BH ho'=>rw [ho] at ho'; cases ho'
theorem eX.Zn (ho:O o=some p) (h:eX w I O D (.mref o) x):∃b bo sz,p.pl=some (b,bo,sz)∧x=.map (some b):=by
 cases h with
 | pure h=>cases h
 | @mref _ b bo sz p' ho' hp=>
  have:p'=p:=Option.some.inj (ho'.symm.trans ho);subst this;exact ⟨b,bo,sz,hp,rfl⟩
 | Tf ho'=>rw [ho] at ho'; cases ho'
theorem Zo (h:eX w I O D v x) (hk:Y7 v=true):x.oneCell'=true:=by
 cases h with
 | pure h=>cases h<;>first | rfl | cases hk
 | ptr=>rfl
 | eF=>rfl
 | mref=>rfl
 | Tf _ _ h1=>exact h1
 | Du _ _ h1=>exact h1
 | BH _ _ h1=>exact h1
 | agg=>cases hk
 | fn=>rfl
 | kI=>cases hk
theorem Xe {l:List AV} (h:Je l=true):∀j,j<l.length→Y7 (nth l j)=true:=by
 induction l with
 | nil=>intro j hj; cases hj
 | cons v l ih=>
  intro j hj;unfold Je at h;cases hv:Y7 v with
  | false=>simp [hv] at h
  | true=>
   simp only [hv] at h;cases j with
   | zero=>exact hv
   | succ j=>exact ih h j (by simpa using hj)
theorem eX.cells (h:eX w I O D v x) (hk:Je v.cells=true):x.cells.size=v.cells.length∧∀j,j<v.cells.length→eX w I O D (nth v.cells j) (x.cells.getD j Go.undef)∧(x.cells.getD j Go.undef).oneCell'=true:=by
 have one:∀ {v:AV} {x:Value},eX w I O D v x→v.cells=[v]→Y7 v=true→x.cells.size=v.cells.length∧∀j,j<v.cells.length→eX w I O D (nth v.cells j) (x.cells.getD j Go.undef)∧(x.cells.getD j Go.undef).oneCell'=true:=by
  intro v x h hc ho;have h1:=Zo h ho;have hx:x.cells=#[x]:=by cases x<;>first | rfl | cases h1
  rw [hc,hx];refine ⟨rfl,λ j hj=>?_⟩;have:j=0:=by simpa using hj
  subst this;exact ⟨h,h1⟩
 cases v with
 | agg cs=>
  obtain ⟨vs,rfl,hl,hr⟩:=h.wJ;exact ⟨hl,λ j hj=>⟨hr j hj,Zo (hr j hj) (Xe hk j hj)⟩⟩
 | undef=>cases hk
 | kI vs=>cases hk
 | _=>exact one h rfl rfl
end
end Go.Ab
namespace Go.Ab
section
variable {P:Program} {cfg:yE} {cx:Ctx} {H:Nat→Option dW} {D:Nat→Prop} {w:World} {I:Nat→Prop} {O:OM} {Sp:oK}
variable {v':AV} {wz:lF}
theorem fP.kJ {v:AV} {ups:lF} {r:List Nat} (h:fP Sp H (.ret v ups) v' wz r):v'=v∧wz=ups:=by cases h; exact ⟨rfl,rfl⟩
theorem fP.wK {p:Prop} [Decidable p] {k:Pg} {v':AV} {wz:lF} {r:List Nat} (h:fP Sp H (.need p k) v' wz r):p∧fP Sp H k v' wz r:=by cases h with | need hp h=>exact ⟨hp,h⟩
theorem fP.nW {o:Nat} {k:dW→Pg} {r:List Nat} (h:fP Sp H (.rd o k) v' wz r):∃x r',H o=some x∧fP Sp H (k x) v' wz r':=by cases h with | rd ho h=>exact ⟨_,_,ho,h⟩
theorem fP.aX {r:List Nat} (h:fP Sp H .fail v' wz r):False:=by cases h
theorem fP.iB {p:Prop} [Decidable p] {v v':AV} {wz:lF} {r:List Nat} (h:fP Sp H (l7 p v) v' wz r):p∧v'=v∧wz=[]:=by
 obtain ⟨hp,h⟩:=fP.wK h; exact ⟨hp,h.kJ⟩
theorem fP.fE {v:AV} {r:List Nat} (h:fP Sp H (jY v) v' wz r):v'=v∧wz=[]:=h.kJ
theorem fP.cu {b:Bool} {k:Pg} {r:List Nat} (h:fP Sp H (gL b k) v' wz r):b=true∧fP Sp H k v' wz r:=by
 cases b with
 | true=>exact ⟨rfl,h⟩
 | false=>exact (fP.aX h).elim
theorem fP.Dh {v:AV} {k:List AV→Pg} {r:List Nat} (h:fP Sp H (Mx v k) v' wz r):Je v.cells=true∧fP Sp H (k v.cells) v' wz r:=by
 unfold Mx at h;cases hb:Je v.cells with
 | true=>simp only [hb] at h; exact ⟨rfl,h⟩
 | false=>simp only [hb] at h; exact (fP.aX h).elim
variable {t:TypeId}
theorem fP.lV {k:QK→Pg} {r:List Nat} (h:fP Sp H (Vq cfg t k) v' wz r):∃ti,look cfg.ty t=some ti∧fP Sp H (k ti) v' wz r:=by
 unfold Vq at h;cases hb:look cfg.ty t with
 | some ti=>simp only [hb] at h; exact ⟨ti,rfl,h⟩
 | none=>simp only [hb] at h; exact (fP.aX h).elim
theorem fP.qb {k:QK→Pg} {r:List Nat} (h:fP Sp H (Dr cfg t k) v' wz r):∃tt e ti,look cfg.ty t=some tt∧tt.desc=.slice e∧look cfg.ty e=some ti∧fP Sp H (k ti) v' wz r:=by
 unfold Dr at h;cases hb:look cfg.ty t with
 | some tt=>
  simp only [hb] at h;cases hd:tt.desc with
  | slice e=>
   simp only [hd] at h;obtain ⟨ti,h1,h2⟩:=h.lV;exact ⟨tt,e,ti,rfl,hd,h1,h2⟩
  | _=>simp only [hd] at h; exact (fP.aX h).elim
 | none=>simp only [hb] at h; exact (fP.aX h).elim
theorem iy.slice (hc:iy P cfg) {e:TypeId} {tt ti:QK} (h:look cfg.ty t=some tt) (hd:tt.desc=.slice e) (h':look cfg.ty e=some ti):
  P.underlying t=some (.slice e)∧∃i z,P.info? e=some i∧i.zero=some z∧i.size=ti.size∧i.bytes=ti.bytes∧z.cells.size=ti.size:=by
 obtain ⟨i,d,z,_,hu,_,_,_,_,_,_,_,hm⟩:=(hc.ty t tt h).ex;rw [hd] at hm;obtain ⟨i',d',z',h1,_,h2,h3,h4,_,h5,_⟩:=(hc.ty e ti h').ex;exact ⟨by rw [hu,hm],i',z',h1,h2,h3,h4,h5⟩
theorem gJ {i:TypeInfo} (h:P.info? t=some i) (w:World):(sizeOf t).run P w=.ok i.size w:=by
 simp [sizeOf,typeInfo,h]
theorem bX {d:TypeDesc} (h:P.underlying t=some d) (w:World):(underlying t).run P w=.ok d w:=by
 simp [underlying,h]
variable {dR:Nat} {o:Oper} {a:Act} {ρ:Operand→AV} {v:AV} {ups:lF} {r:List Nat}
variable {x:Operand}
theorem alV (hR:Rel cfg cx H D w I O) (ho:o.op=.move x) (hx:eX w I O D (ρ x) (a.eval x)):fH P cfg cx H D w I O dR o a (ρ x) []:=
 fH.eT hR (by simp [execOp,ho]) hx
theorem ahT (hR:Rel cfg cx H D w I O) (ho:o.op=.assign x) (hx:eX w I O D (ρ x) (a.eval x)):fH P cfg cx H D w I O dR o a (ρ x) []:=
 fH.eT hR (by simp [execOp,ho]) hx
theorem ahU (c:Value) (ho:ofConst c≠.undef):∀ {x:Value},x=c→eX w I O D (ofConst c) x:=by
 intro x hx;subst hx;refine .pure ?_;unfold ofConst;split
 ·exact .bool _
 ·exact .int _ _
 ·exact .str _
 ·exact .sl 0 0 (λ _ _=>Go.undef) (Nat.le_refl _) (λ _=>rfl) (λ h=>absurd rfl h) (λ i h=>by cases h) (λ i j h=>by cases h) (λ i j h=>by cases h) (λ i j h=>by cases h)
 ·exact .EB
 ·rename_i h1 h2 h3 h4 h5;exact .undef _
theorem afJ (c:Value):eX w I O D (ofConst c) c:=by
 by_cases h:ofConst c=.undef
 ·rw [h]; exact .pure (.undef _)
 ·exact ahU c h rfl
theorem alW (hR:Rel cfg cx H D w I O) {c y:Operand} (ho:o.op=.pick c x y) (hc:eX w I O D (ρ c) (a.eval c))
  (hx:∀b,ρ c=.bool b→b=true→eX w I O D (ρ x) (a.eval x)) (hy:∀b,ρ c=.bool b→b=false→eX w I O D (ρ y) (a.eval y))
  (hcx:∀v,x=.const v→ρ x=ofConst v∧a.eval x=v) (hcy:∀v,y=.const v→ρ y=ofConst v∧a.eval y=v)
  (h:fP Sp H (afD (ρ c) x y (ρ x) (ρ y)) v ups r):fH P cfg cx H D w I O dR o a v ups:=by
 cases hcv:ρ c with
 | bool b=>
  rw [hcv] at hc h;have hb:=hc.lQ;have hx':=hx b hcv;have hy':=hy b hcv;have run:(execOp a.eval o).run P w=.ok (.value (if b then a.eval x else a.eval y)) w:=by
   simp [execOp,ho,hb,asBool]
  unfold afD at h;simp only at h;split at h
  ·rename_i hz;obtain ⟨rfl,rfl⟩:=h.fE;obtain ⟨_,e2⟩:=hcy _ rfl;refine fH.eT hR run ?_;cases b with
   | true=>have:=(hx' rfl); rw [hz] at this; rw [this.lQ]; exact .pure (.bool _)
   | false=>rw [e2]; exact .pure (.bool _)
  ·rename_i hz _;obtain ⟨rfl,rfl⟩:=h.fE;obtain ⟨_,e2⟩:=hcx _ rfl;refine fH.eT hR run ?_;cases b with
   | true=>simp only [if_true]; rw [e2]; exact .pure (.bool _)
   | false=>have:=(hy' rfl); rw [hz] at this; simp only [Bool.false_eq_true,if_false]; rw [this.lQ]; exact .pure (.bool _)
  ·rename_i h1 h2;obtain ⟨rfl,rfl⟩:=h.fE;refine fH.eT hR run ?_;cases b with
   | true=>have:=(hx' rfl); rw [h1] at this; rw [this.lQ]; exact .pure (.bool _)
   | false=>have:=(hy' rfl); rw [h2] at this; simp only [Bool.false_eq_true,if_false]; rw [this.lQ]; exact .pure (.bool _)
  ·obtain ⟨rfl,rfl,rfl⟩:=h.iB;refine fH.eT hR run ?_;simpa using hy' rfl
  ·obtain ⟨rfl,rfl,rfl⟩:=h.iB;refine fH.eT hR run ?_;simpa using hx' rfl
  ·exact (fP.aX h).elim
 | _=>rw [hcv] at h; exact (fP.aX h).elim
theorem wrap_i64 {n:Int} (h:aF n):IntKind.i64.wrap n=n:=IntWalk.i64_in _ ⟨h.1,h.2⟩
theorem run_equal_bool (hu:P.underlying t=some .bool) (a b:Bool) (w:World):(Op.equal t (.bool a) (.bool b)).run P w=.ok (a==b) w:=by
 have:∀d,(Op.equalIn (d+1) t (.bool a) (.bool b)).run P w=.ok (a==b) w:=λ d=>by
  simp [Op.equalIn,bX hu]
 exact this 9999
theorem Ti {d:TypeDesc} (hu:P.underlying t=some d) (hd:d.isRow=false) (vs:Array Value) (i:Nat) (hi:i<vs.size) (w:World):(part t vs i).run P w=.ok (vs.getD i Go.undef) w:=by
 have hag:(isAgg t).run P w=.ok false w:=by
  unfold isAgg;rw [Sem.run_bind,bX hu w];cases d<;>simp at hd ⊢
 simp [part,Sem.run_bind,hag,Array.getElem?_eq_getElem hi]
theorem abL:∀(a b:List AV) {j:Nat},j<a.length→nth (a++b) j=nth a j:=by
 intro a;induction a with
 | nil=>intro b j h; exact absurd h (Nat.not_lt_zero _)
 | cons x a ih=>intro b j h; cases j with
  | zero=>rfl
  | succ j=>exact ih b (by simpa using h)
theorem abM:∀(a b:List AV) (j:Nat),nth (a++b) (a.length+j)=nth b j:=by
 intro a;induction a with
 | nil=>intro b j; simp
 | cons x a ih=>intro b j; rw [List.length_cons,show a.length+1+j=(a.length+j)+1 by omega]; exact ih b j
theorem Tj (xs:Array Value) (k m j:Nat) (hj:j<m) (h:k+m≤xs.size):(xs.extract k (k+m)).getD j Go.undef=xs.getD (k+j) Go.undef:=by
 rw [Array.getD_eq_getD_getElem?, Array.getD_eq_getD_getElem?, Array.getElem?_extract_of_lt (by rw [Nat.min_eq_left h]; omega),Array.getElem?_eq_getElem om]
theorem alX:∀(zs:List ZK) (cs cs':List AV) (r:Bool),Vl zs cs cs'=some r→cs.length=zs.length∧cs'.length=zs.length:=by
 intro zs;induction zs with
 | nil=>intro cs cs' r h; cases cs<;>cases cs'<;>simp [Vl] at h ⊢
 | cons z zs ih=>
  intro cs cs' r h;cases cs with
  | nil=>cases z<;>simp [Vl] at h
  | cons c cs=>cases cs' with
   | nil=>cases z<;>cases c<;>simp [Vl] at h
   | cons c' cs'=>
    have:∃r',Vl zs cs cs'=some r':=by
     cases z<;>cases c<;>cases c'<;>simp only [Vl] at h<;>first | (cases h; done) | skip
     all_goals
      split at h
      ·first | exact ⟨_,by assumption⟩
      ·cases h
    obtain ⟨r',h'⟩:=this
    have:=ih _ _ _ h'
    simp [this]
theorem alY:∀(z1 z2:List ZK) (cs cs':List AV) (r:Bool),Vl (z1++z2) cs cs'=some r→∃c1 c2 c1' c2' r1 r2,cs=c1++c2∧cs'=c1'++c2'∧Vl z1 c1 c1'=some r1∧Vl z2 c2 c2'=some r2∧r=(r1&&r2):=by
 intro z1;induction z1 with
 | nil=>intro z2 cs cs' r h; exact ⟨[],cs,[],cs',true,r,rfl,rfl,rfl,h,by simp⟩
 | cons z z1 ih=>
  intro z2 cs cs' r h;cases cs with
  | nil=>cases z<;>simp [Vl] at h
  | cons c cs=>cases cs' with
   | nil=>cases z<;>cases c<;>simp [Vl] at h
   | cons c' cs'=>
    cases z<;>cases c<;>cases c'<;>simp only [List.cons_append,Vl] at h<;>first | (cases h; done) | skip
    ·split at h
     ·rename_i r' h'
      cases h
      obtain ⟨c1,c2,c1',c2',r1,r2,e1,e2,e3,e4,e5⟩:=ih _ _ _ _ h'
      subst e1 e2 e5
      exact ⟨_::c1,c2,_::c1',c2',_,r2,rfl,rfl,by simp only [Vl,e3]; rfl,e4,by rw [Bool.and_assoc]⟩
     ·cases h
    ·split at h
     ·rename_i r' k1 k2 h'
      cases h
      obtain ⟨c1,c2,c1',c2',r1,r2,e1,e2,e3,e4,e5⟩:=ih _ _ _ _ h'
      subst e1 e2 e5
      exact ⟨_::c1,c2,_::c1',c2',_,r2,rfl,rfl,by simp only [Vl,e3,k1,k2]; rfl,e4,by rw [Bool.and_assoc]⟩
     ·cases h
    ·split at h
     ·rename_i r' h'
      cases h
      obtain ⟨c1,c2,c1',c2',r1,r2,e1,e2,e3,e4,e5⟩:=ih _ _ _ _ h'
      subst e1 e2 e5
      exact ⟨_::c1,c2,_::c1',c2',_,r2,rfl,rfl,by simp only [Vl,e3]; rfl,e4,by rw [Bool.and_assoc]⟩
     ·cases h
theorem afK {dd:TypeDesc} {z:ZK} {c c':AV} {b:Bool} {u v:Value} (w:World) (d:Nat) (hu:P.underlying t=some dd) (hk:acD z dd) (h:Vl [z] [c] [c']=some b) (hx:eX w I O D c u) (hy:eX w I O D c' v):(Op.equalIn (d+1) t u v).run P w=.ok b w:=by
 cases z with
 | int kk=>
  cases c<;>cases c'<;>simp only [Vl] at h<;>first | (cases h; done) | skip
  rename_i k1 a k2 b;split at h
  ·rename_i r' e1 e2 e3;cases e3;cases h;have e1:kk=k1:=by simpa [yT] using e1
   have e2:kk=k2:=by simpa [yT] using e2
   subst e1; subst e2;rw [hx.iM,hy.iM,Bool.and_true];rw [hk] at hu;exact run_equalIn_int w d _ _ _ _ _ hu
  ·cases h
 | bool=>
  cases c<;>cases c'<;>simp only [Vl] at h<;>first | (cases h; done) | skip
  cases h;rw [hx.lQ,hy.lQ,Bool.and_true];rw [hk] at hu;exact run_equalIn_bool' w d _ _ _ hu
 | str=>
  cases c<;>cases c'<;>simp only [Vl] at h<;>first | (cases h; done) | skip
  cases h;rw [hx.Ci,hy.Ci,Bool.and_true];rw [hk] at hu;exact run_equalIn_string w d _ _ _ hu
 | slice=>exact hk.elim
 | ptr=>exact hk.elim
 | other=>exact hk.elim
theorem Km {fs:Array Field} (hu:P.underlying t=some (.struct fs)) (vs:Array Value) (i:Nat) (w:World):(part t vs i).run P w=.ok (.agg (vs.extract i (i+P.cellsOf t))) w:=by
 obtain ⟨ti,hi⟩:=info_of_underlying hu;simp [part,isAgg,run_underlying hu,run_sizeOf w hi]
theorem ajo (n:Nat) (xs ys:Array Value) (w:World) (d:Nat)
  (IH:∀(t:TypeId) (zs:List ZK) (cs cs':List AV) (us vs:Array Value) (r:Bool),EqT P n t zs→Vl zs cs cs'=some r→us.size=cs.length→vs.size=cs'.length→(∀j,j<cs.length→eX w I O D (nth cs j) (us.getD j Go.undef))→(∀j,j<cs'.length→eX w I O D (nth cs' j) (vs.getD j Go.undef))→(Op.equalIn (d+1) t (.agg us) (.agg vs)).run P w=.ok r w):
  ∀(fs:List Field) (zs:List ZK) (cs cs':List AV) (k:Nat) (r:Bool),Vl zs cs cs'=some r→alT P (EqT P n) fs zs k→
  k+cs.length≤xs.size→k+cs'.length≤ys.size→(∀j,j<cs.length→eX w I O D (nth cs j) (xs.getD (k+j) Go.undef))→(∀j,j<cs'.length→eX w I O D (nth cs' j) (ys.getD (k+j) Go.undef))→
  (Op.eqFields (d+1) xs ys fs).run P w=.ok r w:=by
 intro fs;induction fs with
 | nil=>
  intro zs cs cs' k r h hz _ _ _ _;cases zs with
  | cons=>exact hz.elim
  | nil=>cases cs<;>cases cs'<;>simp [Vl] at h ⊢ <;> (subst h; simp [Op.eqFields])
 | cons f fs ih=>
  intro zs cs cs' k r h hz hx hy hrx hry;obtain ⟨hnm,hof,z1,z2,rfl,hz1,hz2⟩:=hz;obtain ⟨c1,c2,c1',c2',r1,r2,rfl,rfl,e3,e4,rfl⟩:=alY _ _ _ _ _ h;obtain ⟨l1,l2⟩:=alX _ _ _ _ e3;simp only [List.length_append] at hx hy hrx hry;have nx1:∀j,j<c1.length→nth (c1++c2) j=nth c1 j:=λ j hj=>abL _ _ hj;have nx2:∀j,nth (c1++c2) (c1.length+j)=nth c2 j:=λ j=>abM _ _ j;have ny1:∀j,j<c1'.length→nth (c1'++c2') j=nth c1' j:=λ j hj=>abL _ _ hj;have ny2:∀j,nth (c1'++c2') (c1'.length+j)=nth c2' j:=λ j=>abM _ _ j;have ih':=ih z2 c2 c2' (k+z1.length) r2 e4 hz2 om om (λ j hj=>by
   have:=hrx (c1.length+j) om;rw [nx2,show k+(c1.length+j)=k+z1.length+j by omega] at this;exact this) (λ j hj=>by
   have:=hry (c1'.length+j) om;rw [ny2,show k+(c1'.length+j)=k+z1.length+j by omega] at this;exact this)
  have step:∀(u v:Value),(part f.type xs k).run P w=.ok u w→(part f.type ys k).run P w=.ok v w→(Op.equalIn (d+1) f.type u v).run P w=.ok r1 w→(Op.eqFields (d+1) xs ys (f::fs)).run P w=.ok (r1&&r2) w:=by
   intro u v px py hb;rw [Op.eqFields,if_pos hnm];simp only [hof,Sem.run_bind,px,py,Result.andThen_ok,hb];cases r1
   ·simp
   ·simpa using ih'
  rcases hz1 with ⟨z,dd,rfl,hu,hk⟩ | ⟨ho,hs⟩
  ·have hd:dd.isRow=false:=by cases z<;>simp only [acD] at hk<;>first | (subst hk; rfl) | exact hk.elim
   cases c1 with
   | nil=>simp at l1
   | cons c c1=>cases c1 with
    | cons=>simp at l1
    | nil=>cases c1' with
     | nil=>simp at l2
     | cons c' c1'=>cases c1' with
      | cons=>simp at l2
      | nil=>
       simp only [List.length_singleton] at hx hy hrx hry
       have hx0:=hrx 0 om
       have hy0:=hry 0 om
       exact step _ _ (Ti hu hd xs k om w) (Ti hu hd ys k om w) (afK w d hu hk e3 hx0 hy0)
  ·cases n with
   | zero=>exact ho.elim
   | succ n=>
    obtain ⟨fields,hu,_,_⟩:=id ho;refine step _ _ (Km hu xs k w) (Km hu ys k w) ?_;rw [hs];refine IH _ z1 c1 c1' _ _ r1 ho e3 (by rw [Array.size_extract]; omega) (by rw [Array.size_extract]; omega) (λ j hj=>?_) (λ j hj=>?_)
    ·have:=hrx j om;rw [nx1 j hj] at this;rw [Tj _ _ _ _ om om];exact this
    ·have:=hry j om;rw [ny1 j hj] at this;rw [Tj _ _ _ _ om om];exact this
theorem alZ (w:World):∀(n d:Nat) (t:TypeId) (zs:List ZK) (cs cs':List AV) (us vs:Array Value) (r:Bool),EqT P n t zs→Vl zs cs cs'=some r→us.size=cs.length→vs.size=cs'.length→(∀j,j<cs.length→eX w I O D (nth cs j) (us.getD j Go.undef))→(∀j,j<cs'.length→eX w I O D (nth cs' j) (vs.getD j Go.undef))→(Op.equalIn (d+n+1) t (.agg us) (.agg vs)).run P w=.ok r w:=by
 intro n;induction n with
 | zero=>intro d t zs cs cs' us vs r h; exact h.elim
 | succ n IH=>
  intro d t zs cs cs' us vs r ⟨fields,hu,hh,hf⟩ h hl hl' hx hy;have hfo:P.fieldsOf t=fields:=by unfold Program.fieldsOf; rw [hu]
  rw [show d+(n+1)+1=(d+n+1)+1 by omega,run_equalIn_struct (P:=P) w (d+n+1) t us vs (by rw [hfo]; exact hu) hh,hfo];exact ajo (I:=I) (O:=O) (D:=D) n us vs w (d+n) (λ t zs cs cs' us vs r a b c e f g=>IH d t zs cs cs' us vs r a b c e f g) fields.toList zs cs cs' 0 r h hf om om (λ j hj=>by simpa using hx j hj) (λ j hj=>by simpa using hy j hj)
theorem QL (hc:iy P cfg) {zs:List ZK} (ht:look cfg.eqs t=some zs) {cs cs':List AV} {xs ys:Array Value} {r:Bool} (h:Vl zs cs cs'=some r) (hl:xs.size=cs.length) (hl':ys.size=cs'.length)
  (hx:∀j,j<cs.length→eX w I O D (nth cs j) (xs.getD j Go.undef)) (hy:∀j,j<cs'.length→eX w I O D (nth cs' j) (ys.getD j Go.undef)):(Op.equalIn 10000 t (.agg xs) (.agg ys)).run P w=.ok r w:=
 alZ w 4 9995 t zs cs cs' xs ys r (hc.eqs t zs ht).ex h hl hl' hx hy
theorem ajp (hc:iy P cfg) (hR:Rel cfg cx H D w I O) {op:BinOp} {t':TypeId} {y:Operand} (ho:o.op=.binOp op t x y t') (hx:eX w I O D (ρ x) (a.eval x)) (hy:eX w I O D (ρ y) (a.eval y))
  (h:fP Sp H (ai3 cfg op t (ρ x) (ρ y)) v ups r):fH P cfg cx H D w I O dR o a v ups:=by
 unfold ai3 at h;split at h
 ·rename_i k n k' n' e1 e2;rw [e1] at hx; rw [e2] at hy;have hx':=hx.iM;have hy':=hy.iM;cases hsl:ai2 op with
  | true=>
   simp only [hsl] at h;cases op<;>simp [ai2] at hsl;obtain ⟨hp,rfl,rfl⟩:=h.iB;have hg:∀(u:World),(eqGuard .shl t x y (.int k n) (.int k' n')).run P u=.ok () u:=by
    intro u; unfold eqGuard; simp
   refine fH.eT (x:=.int k _) hR ?_ (.pure (.int _ _));have hp':=Int.not_lt.2 hp;simp only [execOp,ho,hx',hy',hg,binOp,Op.shift,if_neg hp',Vp,Sem.run_bind,Result.andThen_ok,Sem.run_pure]
  | false=>
  simp only [hsl] at h;obtain ⟨hk1,h1⟩:=h.cu;clear h;have hk:k=k':=by simpa [yT] using hk1
  subst hk;have hg:∀(u:World),(eqGuard op t x y (.int k n) (.int k n')).run P u=.ok () u:=by
   intro u; unfold eqGuard; cases op<;>simp
  cases ha:Tc op with
  | true=>
   simp only [ha] at h1;cases hk2:yT k .i64 with
   | true=>
    simp only [hk2] at h1;have h2:=h1;clear h1;have hk:k=.i64:=by simpa [yT] using hk2
    subst hk;cases op<;>simp [Tc] at ha<;>simp only [arith] at h2<;>obtain ⟨hp,rfl,rfl⟩:=h2.iB<;>
     refine fH.eT (x:=.int .i64 _) hR ?_ (.pure (.int _ _))<;>simp [execOp,ho,hx',hy',hg,binOp,Op.intArith,Op.intDiv,wrap_i64,hp]
   | false=>
    simp only [hk2] at h1;cases op<;>simp [Tc] at ha<;>simp only [ai1] at h1<;>first
     | exact (fP.aX h1).elim
     | (obtain ⟨rfl,rfl⟩:=h1.fE
        refine fH.eT (x:=.int k _) hR ?_ (.pure (.int _ _))
        simp [execOp,ho,hx',hy',hg,binOp,Op.intArith])
  | false=>
   simp only [ha] at h1;cases op<;>simp [Tc] at ha<;>simp only [ao0] at h1<;>first
    | exact (fP.aX h1).elim
    | (obtain ⟨rfl,rfl⟩:=h1.fE
       refine fH.eT (x:=.bool _) hR ?_ (.pure (.bool _))
       simp [execOp,ho,hx',hy',hg,binOp,Op.intCmp]
       done)
    | (obtain ⟨hp,rfl,rfl⟩:=h1.iB
       refine fH.eT (x:=.int k _) hR ?_ (.pure (.int _ _))
       have hp':=Int.not_lt.2 hp
       simp only [execOp,ho,hx',hy',hg,binOp,Op.shift,if_neg hp',GL,Sem.run_bind,Result.andThen_ok,Sem.run_pure]
       done)
    | (obtain ⟨rfl,rfl⟩:=h1.fE
       refine fH.eT (x:=.int k _) hR ?_ (.pure (.int _ _))
       simp [execOp,ho,hx',hy',hg,binOp,Op.intBits,LZ]
       done)
    | (obtain ⟨rfl,rfl⟩:=h1.fE
       refine fH.eT (x:=.int k _) hR ?_ (.pure (.int _ _))
       simp [execOp,ho,hx',hy',hg,binOp,Op.intBits,orI])
 ·rename_i b b' e1 e2;rw [e1] at hx; rw [e2] at hy;have hx':=hx.lQ;have hy':=hy.lQ;obtain ⟨ti,ht,h1⟩:=h.lV;clear h;have hg:∀(u:World),(eqGuard op t x y (.bool b) (.bool b')).run P u=.ok () u:=by
   intro u; unfold eqGuard; cases op<;>simp
  have hd:ti.desc=.bool→P.underlying t=some .bool:=by
   intro hd;obtain ⟨i,d,z,_,hu,_,_,_,_,_,_,_,hm⟩:=(hc.ty t ti ht).ex;rw [hd] at hm;rw [hu,hm]
  split at h1
  ·rename_i hdd;obtain ⟨rfl,rfl⟩:=h1.fE;refine fH.eT (x:=.bool _) hR ?_ (.pure (.bool _));have e:=run_equal_bool (P:=P) (hd hdd) b b' w;simp [execOp,ho,hx',hy',hg,binOp,e]
  ·rename_i hdd;obtain ⟨rfl,rfl⟩:=h1.fE;refine fH.eT (x:=.bool _) hR ?_ (.pure (.bool _));have e:=run_equal_bool (P:=P) (hd hdd) b b' w;simp [execOp,ho,hx',hy',hg,binOp,e]
  ·exact (fP.aX h1).elim
 ·rename_i s s' e1 e2;rw [e1] at hx; rw [e2] at hy;have hx':=hx.Ci;have hy':=hy.Ci;have hg:∀(u:World),(eqGuard op t x y (.string s) (.string s')).run P u=.ok () u:=by
   intro u; unfold eqGuard; cases op<;>simp
  unfold am8 at h;cases op<;>simp only at h<;>first
   | exact (fP.aX h).elim
   | (obtain ⟨rfl,rfl⟩:=h.fE
      refine fH.eT (x:=.bool _) hR ?_ (.pure (.bool _))
      simp [execOp,ho,hx',hy',hg,binOp,Op.stringOp]
      done)
   | (obtain ⟨hp,rfl,rfl⟩:=h.iB
      refine fH.eT (x:=.string _) hR ?_ (.pure (.str _))
      have hle:¬ (((s.size+s'.size:Nat):Int) > IntKind.i64.max):=by
       have:IntKind.i64.max=9223372036854775807:=by decide
       rw [this]
       omega
      simp only [execOp,ho,hx',hy',binOp,Op.stringOp,Sem.run_bind,hg,Result.andThen_ok]
      rw [if_neg hle]
      rfl)
 ·rename_i cs cs' e1 e2;rw [e1] at hx; rw [e2] at hy;obtain ⟨xs,hx',hl,hrx⟩:=hx.wJ;obtain ⟨ys,hy',hl',hry⟩:=hy.wJ;split at h
  ·rename_i zs hz;have hg:∀(u:World),(eqGuard op t x y (.agg xs) (.agg ys)).run P u=.ok () u:=λ u=>run_eqGuard_agg u op t x y xs ys (hc.eqs t zs hz).guard;split at h
   ·rename_i r' he;obtain ⟨rfl,rfl⟩:=h.fE;have e:=QL hc hz he hl hl' hrx hry;refine fH.eT (x:=.bool _) hR ?_ (.pure (.bool _));simp only [execOp,ho,hx',hy',Sem.run_bind,hg,Result.andThen_ok,run_eql_struct,e];rfl
   ·rename_i r' he;obtain ⟨rfl,rfl⟩:=h.fE;have e:=QL hc hz he hl hl' hrx hry;refine fH.eT (x:=.bool _) hR ?_ (.pure (.bool _));simp only [execOp,ho,hx',hy',Sem.run_bind,hg,Result.andThen_ok,run_neq_struct,e];rfl
   ·exact (fP.aX h).elim
  ·exact (fP.aX h).elim
 ·exact (fP.aX h).elim
theorem al0 (hR:Rel cfg cx H D w I O) {op:UnOp} (ho:o.op=.unOp op t x) (hx:eX w I O D (ρ x) (a.eval x))
  (h:fP Sp H (gX cfg dR (.unOp op t x) ρ) v ups r):fH P cfg cx H D w I O dR o a v ups:=by
 simp only [gX] at h;split at h
 ·rename_i b e;rw [e] at hx;obtain ⟨rfl,rfl⟩:=h.fE;refine fH.eT (x:=.bool _) hR ?_ (.pure (.bool _));simp [execOp,ho,hx.lQ,Op.unary]
 ·rename_i k n e;rw [e] at hx;obtain ⟨hk1,h1⟩:=h.cu;have hk:k=.i64:=by simpa [yT] using hk1
  subst hk;obtain ⟨hp,rfl,rfl⟩:=h1.iB;refine fH.eT (x:=.int .i64 _) hR ?_ (.pure (.int _ _));simp [execOp,ho,hx.iM,Op.unary,Op.intArith,wrap_i64 hp]
 ·exact (fP.aX h).elim
theorem adY (hR:Rel cfg cx H D w I O) (ho:o.op=.nilCheck x) (hx:eX w I O D (ρ x) (a.eval x))
  (h:fP Sp H (gX cfg dR (.nilCheck x) ρ) v ups r):fH P cfg cx H D w I O dR o a v ups:=by
 simp only [gX] at h;split at h
 ·rename_i ob i off e;rw [e] at hx;obtain ⟨obj,_,nP,h1⟩:=h.nW;obtain ⟨rfl,rfl⟩:=h1.fE;cases hp:O ob with
  | none=>rw [(hR.dom ob).1 hp] at nP; cases nP
  | some p=>
   obtain ⟨b,bo,sz,h1,h2,h3⟩:=hx.oP hp;exact fH.eT hR (by simp [execOp,ho,h3]) (h3 ▸ hx)
 ·rename_i cs e;rw [e] at hx;obtain ⟨rfl,rfl⟩:=h.fE;generalize hxe:a.eval x=xv at hx;have hx0:=hx;cases hx.Zm;exact fH.eT hR (by simp [execOp,ho,hxe]) hx0
 ·rename_i f cs e;rw [e] at hx;obtain ⟨rfl,rfl⟩:=h.fE;obtain ⟨vs,h1,h2,h3⟩:=hx.MN;exact fH.eT hR (by simp [execOp,ho,h1]) (h1 ▸ hx)
 ·exact (fP.aX h).elim
theorem afL (hR:Rel cfg cx H D w I O) {t:Operand} {i:Nat} (ho:o.op=.extract t i) (hx:eX w I O D (ρ t) (a.eval t))
  (h:fP Sp H (gX cfg dR (.extract t i) ρ) v ups r):fH P cfg cx H D w I O dR o a v ups:=by
 simp only [gX] at h;split at h
 ·rename_i vs e;rw [e] at hx;obtain ⟨hl,h1⟩:=h.cu;obtain ⟨rfl,rfl⟩:=h1.fE;obtain ⟨xs,h1,h2,h3⟩:=hx.Jj;have hl:i<vs.length:=by simpa using hl
  have hi:i<xs.size:=by omega
  refine fH.eT (x:=xs.getD i Go.undef) hR ?_ (h3 i hl);simp [execOp,ho,h1,Instr.extract,Array.getElem?_eq_getElem hi]
 ·exact (fP.aX h).elim
theorem ahe {l:List Operand} (h:∀x∈l,eX w I O D (ρ x) (a.eval x)):∀j,j<(l.map ρ).length→eX w I O D (nth (l.map ρ) j) ((l.map a.eval).toArray.getD j Go.undef):=by
 intro j hj;have hj':j<l.length:=by simpa using hj
 rw [vk];simp [hj'];exact h _ (List.getElem_mem hj')
theorem adZ (hR:Rel cfg cx H D w I O) {fn:Fn} {first cap:Array Operand} (ho:o.op=.makeFunc fn first cap) (hx:∀x∈cap.toList,eX w I O D (ρ x) (a.eval x))
  (h:fP Sp H (gX cfg dR (.makeFunc fn first cap) ρ) v ups r):fH P cfg cx H D w I O dR o a v ups:=by
 simp only [gX] at h;split at h
 ·rename_i f e;obtain ⟨rfl,rfl⟩:=h.fE;have hf:first=#[]:=by simpa using e
  subst hf;refine fH.eT (x:=.func (.func f) #[] (cap.map a.eval)) hR (by simp [execOp,ho,Instr.makeFunc]) (.fn (by simp) λ j hj=>?_);have:=ahe hx j hj;simpa using this
 ·exact (fP.aX h).elim
variable {c:Call}
theorem anD (hc:iy P cfg) (hR:Rel cfg cx H D w I O) (ho:o.op=.call c) (hcl:c.callee=.builtin .cap) (hx:∀x∈c.args.toList,eX w I O D (ρ x) (a.eval x))
  (h:fP Sp H (gX cfg dR (.call c) ρ) v ups r):fH P cfg cx H D w I O dR o a v ups:=by
 simp only [gX,hcl] at h;split at h
 ·rename_i es n g t e1 e2;obtain ⟨ti,ht,h1⟩:=h.lV;obtain ⟨x,hxe⟩:∃x,c.args=#[x]:=by
   match hl:c.args.toList with
   | []=>simp [hl] at e1
   | [x]=>exact ⟨x,by rw [← Array.toList_inj]; simpa using hl⟩
   | x::y::l=>simp [hl] at e1
  have e1':ρ x=.sl es n true g:=by simpa [hxe] using e1
  have hx':eX w I O D (.sl es n true g) (a.eval x):=e1' ▸ hx x (by simp [hxe]);have hte:c.argTypes=#[t]:=by rw [← Array.toList_inj]; simpa using e2
  obtain ⟨_,dd,_,_,hud,_,_,_,_,_,_,_,hm⟩:=(hc.ty t ti ht).ex;split at h1
  ·rename_i e;rw [e] at hm;have hm:dd=.slice _:=hm;subst hm;obtain ⟨rfl,rfl⟩:=h1.fE;generalize hxv:a.eval x=xv at hx';have hq:=hx'.AX;cases hq with
   | @sl _ _ _ _ aa cap b off vs hcap hfull ha hes hm h1 hr=>
   have hcn:cap=n:=hfull rfl;subst hcn;refine fH.eT (x:=.int .i64 _) hR ?_ (.pure (.int _ _));simp [execOp,ho,hcl,resolve,invoke,builtin,Builtin.cap_,hxe,hte,hxv,bX hud,goInt]
  ·exact (fP.aX h1).elim
 ·exact (fP.aX h).elim
theorem anE (hc:iy P cfg) (hR:Rel cfg cx H D w I O) (ho:o.op=.call c) (hcl:c.callee=.builtin .len) (hx:∀x∈c.args.toList,eX w I O D (ρ x) (a.eval x))
  (h:fP Sp H (gX cfg dR (.call c) ρ) v ups r):fH P cfg cx H D w I O dR o a v ups:=by
 simp only [gX,hcl] at h;split at h
 ·rename_i u t e1 e2;obtain ⟨ti,ht,h1⟩:=h.lV;obtain ⟨x,hxe⟩:∃x,c.args=#[x]:=by
   match hl:c.args.toList with
   | []=>simp [hl] at e1
   | [x]=>exact ⟨x,by rw [← Array.toList_inj]; simpa using hl⟩
   | x::y::l=>simp [hl] at e1
  have e1':ρ x=u:=by simpa [hxe] using e1
  have hx':eX w I O D u (a.eval x):=e1' ▸ hx x (by simp [hxe]);have hte:c.argTypes=#[t]:=by rw [← Array.toList_inj]; simpa using e2
  obtain ⟨_,dd,_,_,hud,_,_,_,_,_,_,_,hm⟩:=(hc.ty t ti ht).ex;split at h1
  ·rename_i e;rw [e] at hm;have hm:dd=.slice _:=hm;subst hm;obtain ⟨rfl,rfl⟩:=h1.fE;generalize hxv:a.eval x=xv at hx';cases hx'.AX;refine fH.eT (x:=.int .i64 _) hR ?_ (.pure (.int _ _));simp [execOp,ho,hcl,resolve,invoke,builtin,Builtin.len_,hxe,hte,hxv,bX hud,goInt]
  ·rename_i ob i n f _ e;rw [e] at hm;have hm:dd=.slice _:=hm;subst hm;obtain ⟨obj,_,nP,h2⟩:=h1.nW;obtain ⟨rfl,rfl⟩:=h2.fE;cases hp:O ob with
   | none=>rw [(hR.dom ob).1 hp] at nP; cases nP
   | some p=>
    obtain ⟨aa,cap,hxv,_⟩:=hx'.ng hp;refine fH.eT (x:=.int .i64 _) hR ?_ (.pure (.int _ _));simp [execOp,ho,hcl,resolve,invoke,builtin,Builtin.len_,hxe,hte,hxv,bX hud,goInt]
  ·rename_i s e;rw [e] at hm;have hm:dd=.string:=hm;subst hm;obtain ⟨rfl,rfl⟩:=h1.fE;refine fH.eT (x:=.int .i64 _) hR ?_ (.pure (.int _ _));simp [execOp,ho,hcl,resolve,invoke,builtin,Builtin.len_,hxe,hte,hx'.Ci,bX hud,goInt]
  ·exact (fP.aX h1).elim
 ·exact (fP.aX h).elim
theorem args2 {u u':AV} (e:c.args.toList.map ρ=[u,u']):∃x y,c.args=#[x,y]∧ρ x=u∧ρ y=u':=by
 match hl:c.args.toList with
 | []=>simp [hl] at e
 | [x]=>simp [hl] at e
 | [x,y]=>
  rw [hl] at e
  simp at e
  exact ⟨x,y,by rw [← Array.toList_inj]; simpa using hl,e.1,e.2⟩
 | x::y::z::l=>simp [hl] at e
theorem anF (hR:Rel cfg cx H D w I O) (ho:o.op=.call c) (hcl:c.callee=.builtin .min) (hx:∀x∈c.args.toList,eX w I O D (ρ x) (a.eval x))
  (h:fP Sp H (gX cfg dR (.call c) ρ) v ups r):fH P cfg cx H D w I O dR o a v ups:=by
 simp only [gX,hcl] at h;split at h
 ·rename_i k n k' n' e;obtain ⟨rfl,rfl⟩:=h.fE;obtain ⟨x,y,hxy,e1,e2⟩:=args2 e;have h1:=e1 ▸ hx x (by simp [hxy]);have h2:=e2 ▸ hx y (by simp [hxy]);refine fH.eT (x:=.int k _) hR ?_ (.pure (.int _ _));simp [execOp,ho,hcl,resolve,invoke,builtin,Builtin.min_,Builtin.min2,hxy,h1.iM,h2.iM]
 ·exact (fP.aX h).elim
theorem anG (hR:Rel cfg cx H D w I O) (ho:o.op=.call c) (hcl:c.callee=.builtin .max) (hx:∀x∈c.args.toList,eX w I O D (ρ x) (a.eval x))
  (h:fP Sp H (gX cfg dR (.call c) ρ) v ups r):fH P cfg cx H D w I O dR o a v ups:=by
 simp only [gX,hcl] at h;split at h
 ·rename_i k n k' n' e;obtain ⟨rfl,rfl⟩:=h.fE;obtain ⟨x,y,hxy,e1,e2⟩:=args2 e;have h1:=e1 ▸ hx x (by simp [hxy]);have h2:=e2 ▸ hx y (by simp [hxy]);refine fH.eT (x:=.int k _) hR ?_ (.pure (.int _ _));simp [execOp,ho,hcl,resolve,invoke,builtin,Builtin.max_,Builtin.max2,hxy,h1.iM,h2.iM]
 ·exact (fP.aX h).elim
theorem iy.field (hc:iy P cfg) {s:TypeId} {ts:QK} {f oo t:Nat} (h:look cfg.ty s=some ts) (hf:Pp ts f=some (oo,t)):
  ∃fields fd,P.underlying s=some (.struct fields)∧fields[f]? = some fd∧fd.offset=oo∧fd.type=t:=by
 obtain ⟨_,dd,_,_,hud,_,_,_,_,_,_,_,hm⟩:=(hc.ty s ts h).ex;unfold Pp at hf;split at hf
 ·rename_i fs e;rw [e] at hm;obtain ⟨fields,rfl,hfs⟩:=hm;subst hfs;have key:∀(l:List Field) (f:Nat),XK (l.map λ f=>(f.offset,f.type)) f=some (oo,t)→∃fd,l[f]? = some fd∧fd.offset=oo∧fd.type=t:=by
   intro l;induction l with
   | nil=>intro f h; simp [XK] at h
   | cons x l ih=>
    intro f h;cases f with
    | zero=>simp [XK] at h; exact ⟨x,rfl,h.1,h.2⟩
    | succ f=>simp only [List.map_cons,XK] at h; simpa using ih f h
  obtain ⟨fd,h1,h2,h3⟩:=key _ _ hf;exact ⟨fields,fd,hud,by simpa using h1,h2,h3⟩
 ·cases hf
theorem MO (l:List AV) (k j:Nat):nth (l.drop k) j=nth l (k+j):=by
 simp [vk]
theorem acE (hc:iy P cfg) (hR:Rel cfg cx H D w I O) {s:TypeId} {f:Nat} (ho:o.op=.fieldAddr s x f) (hx:eX w I O D (ρ x) (a.eval x))
  (h:fP Sp H (gX cfg dR (.fieldAddr s x f) ρ) v ups r):fH P cfg cx H D w I O dR o a v ups:=by
 simp only [gX] at h;obtain ⟨ts,hs,h1⟩:=h.lV;split at h1
 ·rename_i oo t hf;obtain ⟨ti,ht,h2⟩:=h1.lV;obtain ⟨hpos,h3⟩:=h2.cu;have hpos:0<ti.size:=by simpa using hpos
  obtain ⟨fields,fd,hu,hfd,ho1,ho2⟩:=hc.field hs hf;obtain ⟨i,_,_,hi,_,_,hsz,_⟩:=(hc.ty t ti ht).ex;have hne:¬ i.size=0:=by omega
  have place:∀b bo,(Instr.fieldAt s (.pointer (some ⟨b,bo,none⟩)) f).run P w=.ok (.pointer (some ⟨b,bo+oo,none⟩)) w:=by
   intro b bo;simp [Instr.fieldAt,Instr.sureAddr,bX hu,hfd,fieldPlace,ho1,ho2,gJ hi,hne,Addr.add_mid]
  split at h3
  ·rename_i ob i off e;rw [e] at hx;obtain ⟨obj,_,nP,h4⟩:=h3.nW;obtain ⟨rfl,rfl⟩:=h4.fE;cases hp:O ob with
   | none=>rw [(hR.dom ob).1 hp] at nP; cases nP
   | some p=>
    obtain ⟨b,bo,sz,h5,h6,h7⟩:=hx.oP hp;refine fH.eT (x:=.pointer (some ⟨b,bo+(i*p.es+(off+oo)),none⟩)) hR ?_ (.ptr hp h5 h6);have:bo+(i*p.es+off)+oo=bo+(i*p.es+(off+oo)):=by omega
    simp [execOp,ho,h7,place,this]
  ·rename_i cs e;rw [e] at hx;obtain ⟨rfl,rfl⟩:=h3.fE;generalize hxv:a.eval x=xv at hx;cases hx.Zm with
   | ro b off vs hI hm hr=>
    refine fH.eT (x:=.pointer (some ⟨b,off+oo,none⟩)) hR (by simp [execOp,ho,hxv,place]) (.pure (.ro b (off+oo) (λ j=>vs (oo+j)) hI (λ j hj=>?_) λ j hj=>?_))
    ·have:=hm (oo+j) (by simp at hj; omega);rw [← this,Nat.add_assoc]
    ·rw [MO]; exact hr (oo+j) (by simp at hj; omega)
  ·exact (fP.aX h3).elim
 ·exact (fP.aX h1).elim
end
end Go.Ab
namespace Go.Ab
section
variable {P:Program} {cfg:yE} {cx:Ctx} {H:Nat→Option dW} {D:Nat→Prop} {w:World} {I:Nat→Prop} {O:OM} {Sp:oK}
variable {dR:Nat} {o:Oper} {a:Act} {ρ:Operand→AV} {v:AV} {ups:lF} {r:List Nat}
variable {t:TypeId}
theorem iy.agg (hc:iy P cfg) {ti:QK} (h:look cfg.ty t=some ti):∃i d,P.info? t=some i∧P.underlying t=some d∧d.isRow=ti.agg∧i.size=ti.size:=by
 obtain ⟨i,d,z,h1,h2,h3,h4,h5,h6,_⟩:=(hc.ty t ti h).ex;exact ⟨i,d,h1,h2,h6,h4⟩
theorem Vv {d:TypeDesc} (h:P.underlying t=some d) (w:World):(isAgg t).run P w=.ok d.isRow w:=by
 unfold isAgg;rw [Sem.run_bind,bX h w];cases d<;>simp
theorem ru (hc:iy P cfg) {ti:QK} (ht:look cfg.ty t=some ti) {cs:List AV} (h:fP Sp H (AP ti cs) v ups r) (b bo:Nat) (f:Nat→Value)
  (hm:∀j,j<cs.length→w.cell? ⟨b,bo+j,none⟩=some (f j)) (hr:∀j,j<cs.length→eX w I O D (nth cs j) (f j)):
  ups=[]∧∃x,(Instr.loadAt t (.pointer (some ⟨b,bo,none⟩))).run P w=.ok x w∧eX w I O D v x:=by
 obtain ⟨i,d,hi,hu,hd,hs⟩:=hc.agg ht;unfold AP at h;cases ha:ti.agg with
 | true=>
  simp only [ha] at h;obtain ⟨hl,h1⟩:=h.cu;obtain ⟨rfl,rfl⟩:=h1.fE;have hl:ti.size≤cs.length:=by simpa using hl
  refine ⟨rfl,.agg ((List.range ti.size).map f).toArray,?_,.agg (by simp [Nat.min_eq_left hl]) λ j hj=>?_⟩
  ·refine run_loadAt_mid w b bo t _ d (λ j u hj=>?_) hu (by rw [hd,ha]) (by simp [hi,hs]);have hlt:j<ti.size:=by
    rcases Nat.lt_or_ge j ti.size with h | h
    ·exact h
    ·simp [h] at hj
   simp [hlt] at hj;rw [← hj];exact hm j om
  ·have hj':j<ti.size:=by simp at hj; omega
   have e:nth (List.take ti.size cs) j=nth cs j:=by simp [vk,hj']
   rw [e];simpa [hj'] using hr j om
 | false=>
  simp only [ha] at h;cases cs with
  | nil=>exact (fP.aX h).elim
  | cons c cs=>
   obtain ⟨rfl,rfl⟩:=h.fE;refine ⟨rfl,f 0,?_,hr 0 (by simp)⟩;have h0:=hm 0 (by simp);have hag:(isAgg t).run P w=.ok false w:=by rw [Vv hu,hd,ha]
   simp only [Nat.add_zero] at h0;simp [Instr.loadAt,Instr.sureAddr,loadVar,Sem.run_bind,hag,load,Sem.run,h0]
theorem Rel.live (hR:Rel cfg cx H D w I O) {ob:Nat} {x:dW} (h:H ob=some x):∃p,O ob=some p∧iY w I O D p x:=by
 cases hp:O ob with
 | none=>rw [(hR.dom ob).1 hp] at h; cases h
 | some p=>exact ⟨p,rfl,hR.objs ob x p h hp⟩
theorem vN {b sz j:Nat} (h:MJ w b sz) (hj:j<sz):w.cell? ⟨b,j,none⟩=some (cellAt w b j):=by
 obtain ⟨u,hu⟩:=Option.isSome_iff_exists.1 (h j hj).1;simp [cellAt,hu]
theorem YP {i j:Nat} (h:(isZ i&&isZ j)=true):i=0∧j=0:=by
 cases i<;>cases j<;>simp_all [isZ]
theorem ahf (l m:List AV) (j:Nat):nth (l++m) j=if j<l.length then nth l j else nth m (j - l.length):=by
 rw [vk,vk,vk];by_cases h:j<l.length
 ·rw [if_pos h]; simp [List.getElem?_append_left h]
 ·rw [if_neg h]; simp [List.getElem?_append_right (by omega:l.length≤j)]
variable {es:Nat}
theorem aa4 {g:Nat→AV}:∀(k i:Nat),(∀j,i≤j→j<i+k→(g j).cells.length=es)→(kS k i g).length=k*es∧∀a b,a<k→b<es→nth (kS k i g) (a*es+b)=nth (g (i+a)).cells b:=by
 intro k;induction k with
 | zero=>intro i _; exact ⟨by simp [kS],λ a b h=>absurd h (Nat.not_lt_zero _)⟩
 | succ k ih=>
  intro i h;obtain ⟨h1,h2⟩:=ih (i+1) (λ j hj hj'=>h j om om);have h0:=h i (Nat.le_refl _) om;refine ⟨by simp only [kS,List.length_append,h0,h1]; rw [Nat.succ_mul]; omega,λ a b ha hb=>?_⟩;simp only [kS];rw [ahf,h0];cases a with
  | zero=>simp only [Nat.zero_mul,Nat.zero_add,Nat.add_zero]; rw [if_pos hb]
  | succ a=>
   rw [if_neg (by rw [Nat.succ_mul]; omega)];have e1:(a+1)*es+b - es=a*es+b:=by rw [Nat.succ_mul]; omega
   rw [e1,h2 a b om hb];congr 2;congr 1;omega
variable {n:Nat}
theorem anH {q:Nat} (h:q<n*es):q / es<n∧q % es<es∧q / es*es+q % es=q:=by
 have hes:0<es:=by
  rcases Nat.eq_zero_or_pos es with h0 | h0
  ·subst h0; simp at h
  ·exact h0
 refine ⟨Nat.div_lt_of_lt_mul (by rw [Nat.mul_comm]; exact h),Nat.mod_lt _ hes,?_⟩;rw [Nat.mul_comm];exact Nat.div_add_mod q es
theorem Tk {w:World} {I:Nat→Prop} {b bo:Nat} {g:Nat→AV} (hlen:∀i,i<n→(g i).cells.length=es) (hcs:∀i j,i<n→j<es→iE w I (nth (g i).cells j) (cellAt w b (bo+(i*es+j)))∧(cellAt w b (bo+(i*es+j))).oneCell'=true):
  (kS n 0 g).length=n*es∧∀q,q<(kS n 0 g).length→iE w I (nth (kS n 0 g) q) (cellAt w b (bo+q)):=by
 obtain ⟨h1,h2⟩:=aa4 n 0 (λ j _ hj=>hlen j om);refine ⟨h1,λ q hq=>?_⟩;rw [h1] at hq;obtain ⟨h3,h4,h5⟩:=anH hq;have h6:=h2 (q / es) (q % es) h3 h4;have h7:=(hcs (q / es) (q % es) h3 h4).1;rw [h5] at h6 h7;rw [h6,Nat.zero_add];exact h7
variable {x:Operand}
theorem al1 (hc:iy P cfg) (hR:Rel cfg cx H D w I O) (ho:o.op=.load t x) (hx:eX w I O D (ρ x) (a.eval x))
  (h:fP Sp H (gX cfg dR (.load t x) ρ) v ups r):fH P cfg cx H D w I O dR o a v ups:=by
 simp only [gX] at h;obtain ⟨ti,ht,h1⟩:=h.lV;split at h1
 ·rename_i ob i off e;rw [e] at hx;obtain ⟨obj,_,nP,h2⟩:=h1.nW;obtain ⟨p,hp,hO⟩:=hR.live nP;obtain ⟨b,bo,sz,hpl,hi,hxv⟩:=hx.oP hp;cases obj with
  | map=>exact (fP.aX h2).elim
  | box cs=>
   obtain ⟨hn,b',p8,sz',hpl',hal,hle,hcs⟩:=hO;rw [hpl] at hpl';cases hpl';have hi0:i=0:=by omega
   subst hi0;obtain ⟨rfl,x',hrun,hrep⟩:=ru (w:=w) (I:=I) (O:=O) (D:=D) hc ht h2 b (bo+off) (λ j=>cellAt w b (bo+(off+j)))
    (λ j hj=>by rw [Nat.add_assoc]; exact vN hal (by simp at hj; omega)) (λ j hj=>by rw [MO]; exact hcs (off+j) (by simp at hj; omega))
   refine fH.eT hR ?_ hrep;simp only [Nat.zero_mul,Nat.zero_add] at hxv;simp [execOp,ho,hxv,hrun]
  | row es n g=>
   obtain ⟨hn,hes,hlen,hpl' | ⟨b',p8,sz',hpl',hal,hle,hcs⟩⟩:=hO
   ·rw [hpl] at hpl'; cases hpl'.2
   rw [hpl] at hpl';cases hpl';simp only at h2;split at h2
   ·obtain ⟨hz,h3⟩:=h2.cu;obtain ⟨rfl,rfl⟩:=YP hz;obtain ⟨hrl,hrr⟩:=Tk hlen hcs;obtain ⟨rfl,x',hrun,hrep⟩:=ru (w:=w) (I:=I) (O:=O) (D:=D) hc ht h3 b bo (λ j=>cellAt w b (bo+j)) (λ j hj=>vN hal om) (λ j hj=>.pure (hrr j hj));refine fH.eT hR ?_ hrep;simp only [Nat.zero_mul,Nat.zero_add,Nat.add_zero] at hxv;simp [execOp,ho,hxv,hrun]
   obtain ⟨hk,h3⟩:=h2.cu;have hin:i<n:=by omega
   have hmul:(i+1)*es≤n*es:=Nat.mul_le_mul_right _ hin;have atn:(i+1)*es=i*es+es:=Nat.succ_mul _ _;have hli:=hlen i hin;obtain ⟨rfl,x',hrun,hrep⟩:=ru (w:=w) (I:=I) (O:=O) (D:=D) hc ht h3 b (bo+(i*es+off)) (λ j=>cellAt w b (bo+(i*es+(off+j))))
    (λ j hj=>by
      have:bo+(i*es+off)+j=bo+(i*es+(off+j)):=by omega
      rw [this]
      exact vN hal (by simp at hj; omega)) (λ j hj=>by rw [MO]; exact .pure (hcs i (off+j) hin (by simp at hj; omega)).1)
   refine fH.eT hR ?_ hrep;rw [hes] at hxv;simp [execOp,ho,hxv,hrun]
 ·rename_i cs e;rw [e] at hx;generalize hxv:a.eval x=xv at hx;cases hx.Zm with
  | ro b off vs hI hm hr=>
   obtain ⟨rfl,x',hrun,hrep⟩:=ru (w:=w) (I:=I) (O:=O) (D:=D) hc ht h1 b off vs hm (λ j hj=>.pure (hr j hj));exact fH.eT hR (by simp [execOp,ho,hxv,hrun]) hrep
 ·exact (fP.aX h1).elim
theorem ajq (hc:iy P cfg) (hR:Rel cfg cx H D w I O) {s:TypeId} {f:Nat} (ho:o.op=.field s x f) (hx:eX w I O D (ρ x) (a.eval x))
  (h:fP Sp H (gX cfg dR (.field s x f) ρ) v ups r):fH P cfg cx H D w I O dR o a v ups:=by
 simp only [gX] at h;obtain ⟨ts,hs,h1⟩:=h.lV;split at h1
 ·rename_i oo t hf;obtain ⟨ti,ht,h2⟩:=h1.lV;obtain ⟨fields,fd,hu,hfd,ho1,ho2⟩:=hc.field hs hf;obtain ⟨i,d,hi,hu',hd,hsz⟩:=hc.agg ht;split at h2
  ·rename_i cs e;rw [e] at hx;obtain ⟨vs,hxv,hl,hr⟩:=hx.wJ;have hag:=Vv hu' w;unfold AP at h2;cases ha:ti.agg with
   | true=>
    simp only [ha] at h2;obtain ⟨hle,h3⟩:=h2.cu;obtain ⟨rfl,rfl⟩:=h3.fE;have hle:ti.size≤cs.length - oo:=by simpa using hle
    rw [hd,ha] at hag;have e1:(part t vs oo).run P w=.ok (.agg (vs.extract oo (oo+ti.size))) w:=by simp [part,Sem.run_bind,hag,gJ hi,hsz]
    refine fH.eT (x:=.agg (vs.extract oo (oo+ti.size))) hR ?_ (.agg ?_ λ j hj=>?_)
    ·rw [← ho2] at e1;simp only [execOp,ho,Instr.field,hxv,Sem.run_bind,bX hu,hfd,asAgg,Sem.run_pure,Result.andThen_ok,e1,ho1]
    ·simp; omega
    ·have hj':j<ti.size:=by simp at hj; omega
     have:=hr (oo+j) om;have e:nth (List.take ti.size (List.drop oo cs)) j=nth cs (oo+j):=by simp [vk,hj']
     rw [e];have h4:oo+j<vs.size:=by omega
     simp [h4] at this;have h5:(vs.extract oo (oo+ti.size))[j]? = vs[oo+j]? := by
      rw [Array.getElem?_extract,if_pos om]
     simp only [Array.getD_eq_getD_getElem?, h5];simpa [h4] using this
   | false=>
    simp only [ha] at h2;rw [hd,ha] at hag;cases hcs:List.drop oo cs with
    | nil=>simp only [hcs] at h2; exact (fP.aX h2).elim
    | cons c l=>
     simp only [hcs] at h2;obtain ⟨rfl,rfl⟩:=h2.fE;have hlt:oo<cs.length:=by
      rcases Nat.lt_or_ge oo cs.length with h | h
      ·exact h
      ·rw [List.drop_eq_nil_of_le h] at hcs; cases hcs
     have hc0:nth cs oo=v:=by
      have:=MO cs oo 0;rw [hcs] at this;simpa [nth] using this.symm
     have h4:oo<vs.size:=by omega
     have e1:(part t vs oo).run P w=.ok (vs.getD oo Go.undef) w:=by simp [part,Sem.run_bind,hag,Array.getElem?_eq_getElem h4]
     refine fH.eT (x:=vs.getD oo Go.undef) hR ?_ (hc0 ▸ hr oo hlt);rw [← ho2] at e1;simp only [execOp,ho,Instr.field,hxv,Sem.run_bind,bX hu,hfd,asAgg,Sem.run_pure,Result.andThen_ok,e1,ho1]
  ·exact (fP.aX h2).elim
 ·exact (fP.aX h1).elim
theorem yV {size:Nat} (h:Rx es n size=true) (hn:n≠0):es=size:=by
 unfold Rx at h;cases hb:Nat.beq es size with
 | true=>exact Nat.eq_of_beq_eq_true hb
 | false=>
  simp only [hb] at h;cases n with
  | zero=>exact absurd rfl hn
  | succ n=>simp [isZ] at h
theorem Tm (i j:Nat):addN i j=i+j:=by cases i<;>simp [addN]
theorem abN (hc:iy P cfg) {et:Nat} (h:ajf cfg t=some (n,et)):P.underlying t=some (.array n et)∧∃ti,look cfg.ty t=some ti∧Zc ti.desc=some (n,et):=by
 unfold ajf at h;split at h
 ·rename_i ti ht;refine ⟨?_,ti,ht,h⟩;obtain ⟨_,d,_,_,hu,_,_,_,_,_,_,_,hm⟩:=(hc.ty t ti ht).ex;unfold Zc at h;split at h
  ·rename_i n' e' hd;cases h;rw [hd] at hm;have hm:d=.array n et:=hm;rw [hu,hm]
  ·cases h
 ·cases h
theorem acF (hc:iy P cfg) (hR:Rel cfg cx H D w I O) {ix:Operand} (ho:o.op=.indexAddr t x ix) (hx:eX w I O D (ρ x) (a.eval x)) (hix:eX w I O D (ρ ix) (a.eval ix))
  (h:fP Sp H (gX cfg dR (.indexAddr t x ix) ρ) v ups r):fH P cfg cx H D w I O dR o a v ups:=by
 simp only [gX] at h;split at h
 ·rename_i n et harr;obtain ⟨hu,_⟩:=abN hc harr;obtain ⟨ei,hei,h1⟩:=h.lV;split at h1
  ·rename_i k ii ob j off e1 e2;rw [e1] at hix;rw [e2] at hx;have ad1:=hix.iM;obtain ⟨obj,_,nP,h2⟩:=h1.nW;obtain ⟨p,hp,hO⟩:=hR.live nP;obtain ⟨b,bo,sz,hpl,hjn,hxv⟩:=hx.oP hp;cases obj with
   | map=>exact (fP.aX h2).elim
   | box cs=>exact (fP.aX h2).elim
   | row es n' g=>
    obtain ⟨c1,h3⟩:=h2.cu;obtain ⟨c2,h4⟩:=h3.cu;obtain ⟨c3,h5⟩:=h4.cu;obtain ⟨⟨hn0,hn1⟩,rfl,rfl⟩:=h5.iB;obtain ⟨rfl,rfl⟩:=YP c1;have c2:es=ei.size:=Nat.eq_of_beq_eq_true c2;have c3:n'=n:=Nat.eq_of_beq_eq_true c3;have Vw:p.es=es:=hO.2.1;have hpn:p.n=n':=hO.1;obtain ⟨i,_,z,hi,_,hz,hs,_⟩:=(hc.ty et ei hei).ex;simp only [Nat.zero_mul,Nat.add_zero] at hxv;refine fH.eT (x:=.pointer (some ⟨b,bo+(ii.toNat*p.es+0),none⟩)) hR ?_ (.ptr hp hpl om);simp [execOp,ho,hxv,ad1,Instr.indexAt,asIntOf,Instr.sureAddr,bX hu,gJ hi,hn0,hn1,hs,← c2,Vw,Addr.add_mid]
  ·exact (fP.aX h1).elim
 obtain ⟨tt,e,ti,h1,h2,h3,h4⟩:=h.qb;obtain ⟨hu,i,z,hi,hz,hs,hby,hzs⟩:=hc.slice h1 h2 h3;split at h4
 ·rename_i k n eix;rw [eix] at hix;have ad1:=hix.iM;split at h4
  ·rename_i es m full g ex;rw [ex] at hx;obtain ⟨hes,h5⟩:=h4.cu;obtain ⟨⟨hn0,hn1⟩,rfl,rfl⟩:=h5.iB;generalize hxv:a.eval x=xv at hx;cases hx.AX with
   | @sl _ _ _ _ aa cap b off vs hcap hfull ha hes' hm h1 hr=>
    have hm0:m≠0:=by omega
    obtain ⟨rfl,hI⟩:=ha hm0;have aqj:=yV hes hm0;have hnm:n.toNat<m:=by omega
    refine fH.eT (x:=.pointer (some ⟨b,off+n.toNat*es,none⟩)) hR ?_ (.pure (.ro b (off+n.toNat*es) (λ j=>vs n.toNat j) hI (λ j hj=>?_) λ j hj=>hr _ _ hnm (by rw [hes' _ hnm] at hj; exact hj)))
    ·simp [execOp,ho,hxv,ad1,Instr.indexAt,asIntOf,bX hu,gJ hi,hn0,hn1,hs,aqj,Addr.add_mid]
    ·rw [Nat.add_assoc];exact hm _ _ hnm (by rw [hes' _ hnm] at hj; exact hj)
  ·rename_i ob j m full ex;rw [ex] at hx;obtain ⟨obj,_,nP,h5⟩:=h4.nW;obtain ⟨p,hp,hO⟩:=hR.live nP;cases obj with
   | map=>exact (fP.aX h5).elim
   | box cs=>exact (fP.aX h5).elim
   | row es n' g=>
    obtain ⟨hes,h6⟩:=h5.cu;have hes:es=ti.size:=Nat.eq_of_beq_eq_true hes;obtain ⟨⟨hn0,hn1⟩,rfl,rfl⟩:=h6.iB;obtain ⟨aa,cap,hxv,hjm,hcap,hfull,hpl⟩:=hx.ng hp;obtain ⟨b,bo,sz,ad2,rfl,hle⟩:=hpl om;have Vw:p.es=es:=hO.2.1;have hnm:n.toNat<m:=by omega
    rw [Tm];have:bo+j*p.es+n.toNat*p.es=bo+((j+n.toNat)*p.es+0):=by rw [Nat.add_mul]; omega
    refine fH.eT (x:=.pointer (some ⟨b,bo+((j+n.toNat)*p.es+0),none⟩)) hR ?_ (.ptr hp ad2 om);rw [← this];simp [execOp,ho,hxv,ad1,Instr.indexAt,asIntOf,bX hu,gJ hi,hn0,hn1,hs,← hes,Vw,Addr.add_mid]
  ·exact (fP.aX h4).elim
 ·exact (fP.aX h4).elim
end
end Go.Ab
namespace Go.Ab
section
variable {P:Program} {cfg:yE} {cx:Ctx} {H:Nat→Option dW} {D:Nat→Prop} {w:World} {I:Nat→Prop} {O:OM} {Sp:oK}
variable {dR:Nat} {o:Oper} {a:Act} {ρ:Operand→AV} {v:AV} {ups:lF} {r:List Nat}
variable {t:TypeId}
theorem QM {e:TypeId} {i:TypeInfo} (hu:P.underlying t=some (.slice e)) (hi:P.info? e=some i) (aa:Option Addr) (len cap:Nat) (lo hi' mx:Option Value) (l h m:Nat)
  (hb:(Instr.sliceBounds true len cap lo hi' mx).run P w=.ok (l,h,m) w):
  (Instr.sliceAt t (.slice aa len cap) lo hi' mx).run P w=.ok (.slice (if m=l then aa else aa.map (·.add (l*i.size))) (h - l) (m - l)) w:=by
 simp [Instr.sliceAt,Instr.slice,bX hu,hb,gJ hi]
theorem apb (len cap:Nat):(Instr.sliceBounds true len cap none none none).run P w=.ok (0,len,cap) w:=by
 simp [Instr.sliceBounds]
theorem apc (len cap:Nat) (k:IntKind) (h:Int) (h0:0≤h) (h1:h≤cap):(Instr.sliceBounds true len cap none (some (.int k h)) none).run P w=.ok (0,h.toNat,cap) w:=by
 simp [Instr.sliceBounds,Instr.sliceBound,asIntOf,h0,h1]
theorem apd (len cap:Nat) (k:IntKind) (h:Int) (h0:0≤h) (h1:h≤cap):(Instr.sliceBounds true len cap none (some (.int k h)) (some (.int k h))).run P w=.ok (0,h.toNat,h.toNat) w:=by
 obtain ⟨n,rfl⟩:=Int.eq_ofNat_of_zero_le h0;simp at h1;simp [Instr.sliceBounds,Instr.sliceBound,asIntOf,h1]
theorem ape (len cap:Nat) (k:IntKind) (l:Int) (h0:0≤l) (h1:l≤len):(Instr.sliceBounds true len cap (some (.int k l)) none none).run P w=.ok (l.toNat,len,cap) w:=by
 simp [Instr.sliceBounds,Instr.sliceBound,asIntOf,h0,h1]
theorem apf (len cap:Nat) (k k':IntKind) (l h:Int) (h0:0≤l) (h1:l≤h) (h2:h≤cap):(Instr.sliceBounds true len cap (some (.int k l)) (some (.int k' h)) none).run P w=.ok (l.toNat,h.toNat,cap) w:=by
 obtain ⟨n,rfl⟩:=Int.eq_ofNat_of_zero_le h0;obtain ⟨m,rfl⟩:=Int.eq_ofNat_of_zero_le (Int.le_trans h0 h1);simp at h1 h2;simp [Instr.sliceBounds,Instr.sliceBound,asIntOf,h1,h2]
theorem apg (len cap:Nat) (k k':IntKind) (l h:Int) (h0:0≤l) (h1:l≤h) (h2:h≤cap):(Instr.sliceBounds true len cap (some (.int k l)) (some (.int k' h)) (some (.int k' h))).run P w=.ok (l.toNat,h.toNat,h.toNat) w:=by
 obtain ⟨n,rfl⟩:=Int.eq_ofNat_of_zero_le h0;obtain ⟨m,rfl⟩:=Int.eq_ofNat_of_zero_le (Int.le_trans h0 h1);simp at h1 h2;simp [Instr.sliceBounds,Instr.sliceBound,asIntOf,h1,h2]
theorem afM {es n cap size l h m:Nat} {full wL:Bool} {g:Nat→AV} {aa:Option Addr} (hp:iE w I (.sl es n full g) (.slice aa n cap)) (hlh:l≤h) (hhn:h≤n) (hhm:h≤m) (_hmc:m≤cap)
  (hf:wL=true→m=h) (hs:n≠0→es=size):iE w I (.sl es (h - l) wL (λ j=>g (l+j))) (.slice (if m=l then aa else aa.map (·.add (l*size))) (h - l) (m - l)):=by
 cases hp with
 | sl b off vs hcap hfull ha hes hm h1 hr=>
  refine .sl b (off+l*es) (λ i j=>vs (l+i) j) om (λ e=>by have:=hf e; omega) (λ hne=>?_) (λ i hi=>hes _ om) (λ i j hi hj=>?_) (λ i j hi hj=>h1 _ _ om hj) (λ i j hi hj=>hr _ _ om hj)
  ·obtain ⟨h1,h2⟩:=ha om;rw [if_neg om,h1,hs om];simp [Addr.add_mid,h2]
  ·have:=hm (l+i) j om hj;rw [← this,Nat.add_mul];congr 2;omega
theorem Vx {x y:Option Operand} (h:EP x y=true):x=y:=by
 unfold EP at h;split at h
 ·rw [Nat.eq_of_beq_eq_true h]
 ·cases h
variable {mx:Option Operand}
theorem ahg (h:(!mx.isSome)=true):mx=none:=by
 cases mx with
 | none=>rfl
 | some _=>cases h
variable {hi:Option Operand}
theorem ajr {k:Pg} (hhi:∀y,hi=some y→eX w I O D (ρ y) (a.eval y)) (hmx:∀y,mx=some y→eX w I O D (ρ y) (a.eval y)) (h:fP Sp H (ahO ρ hi mx k) v ups r):(∃r',fP Sp H k v ups r')∧(mx.isSome=true→mx.map a.eval=hi.map a.eval):=by
 unfold ahO at h;cases mx with
 | none=>exact ⟨⟨_,h⟩,nofun⟩
 | some m=>
  cases hi with
  | none=>exact (fP.aX h).elim
  | some y=>
   simp only at h;have h1:=hhi y rfl;have h2:=hmx m rfl;split at h
   ·rename_i kk a1 kk' b1 e1 e2;obtain ⟨hk,h⟩:=h.cu;obtain ⟨he,h⟩:=h.wK;refine ⟨⟨_,h⟩,λ _=>?_⟩;rw [e1] at h1;rw [e2] at h2;have hk:kk=kk':=of_decide_eq_true hk;simp only [Option.map_some];rw [h1.iM,h2.iM,hk,he]
   ·exact (fP.aX h).elim
theorem ajs (n:Nat):(Instr.sliceBounds false n n none none none).run P w=.ok (0,n,n) w:=by simp [Instr.sliceBounds]
theorem ajt (n:Nat) (k:IntKind) (h:Int) (h0:0≤h) (h1:h≤n):(Instr.sliceBounds false n n none (some (.int k h)) none).run P w=.ok (0,h.toNat,n) w:=by
 simp [Instr.sliceBounds,Instr.sliceBound,asIntOf,h0,h1]
variable {x:Operand} {lo:Option Operand}
theorem ahV (hc:iy P cfg) (hR:Rel cfg cx H D w I O) (ho:o.op=.slice t x lo hi mx) (hx:eX w I O D (ρ x) (a.eval x)) (hhi:∀y,hi=some y→eX w I O D (ρ y) (a.eval y)) {n et:Nat} (harr:ajf cfg t=some (n,et))
  (h:fP Sp H (Vq cfg et λ ei=>gL mx.isNone (match ρ x with
    | .ptr o i off=>.rd o λ
     | .row es n' _=>gL (isZ i&&isZ off) (gL (Nat.beq es ei.size) (gL (Nat.beq n' n) (aji o n (lo.map ρ) (hi.map ρ))))
     | _=>.fail
    | _=>.fail)) v ups r):fH P cfg cx H D w I O dR o a v ups:=by
 obtain ⟨hu,_⟩:=abN hc harr;obtain ⟨ei,hei,h1⟩:=h.lV;obtain ⟨hmx,h2⟩:=h1.cu;have hmx:mx=none:=by cases mx with | none=>rfl | some _=>cases hmx
 subst hmx;split at h2
 ·rename_i ob j off e1;rw [e1] at hx;obtain ⟨obj,_,nP,h3⟩:=h2.nW;obtain ⟨p,hp,hO⟩:=hR.live nP;obtain ⟨b,bo,sz,hpl,hjn,hxv⟩:=hx.oP hp;cases obj with
  | map=>exact (fP.aX h3).elim
  | box cs=>exact (fP.aX h3).elim
  | row es n' g=>
   obtain ⟨c1,h4⟩:=h3.cu;obtain ⟨c2,h5⟩:=h4.cu;obtain ⟨c3,h6⟩:=h5.cu;obtain ⟨rfl,rfl⟩:=YP c1;have c2:es=ei.size:=Nat.eq_of_beq_eq_true c2;have c3:n'=n:=Nat.eq_of_beq_eq_true c3;subst c3;have Vw:p.es=es:=hO.2.1;have hpn:p.n=n':=hO.1;have hsz:bo+n'*es≤sz:=by
    obtain ⟨_,_,_,hq | ⟨b',p8,sz',hpl',_,hle,_⟩⟩:=hO
    ·rw [hpl] at hq; cases hq.2
    ·rw [hpl] at hpl'; cases hpl'; exact hle
   obtain ⟨i,_,z,al2,_,hz,hs,_⟩:=(hc.ty et ei hei).ex;simp only [Nat.zero_mul,Nat.add_zero] at hxv;have fin:∀(k:Nat) (full:Bool),k≤n'→(full=true→n'=k)→eX w I O D (.eF ob 0 k full) (.slice (some ⟨b,bo,none⟩) k n'):=λ k full hk hf=>
    .eF hp om hk hf (λ _=>⟨b,bo,sz,hpl,by simp,by rw [Vw,Nat.zero_add]; exact hsz⟩) om
   unfold aji at h6;split at h6
   ·rename_i e2 e3;obtain ⟨rfl,rfl⟩:=h6.fE;have hlo:lo=none:=by cases lo with | none=>rfl | some _=>cases e2
    have aqk:hi=none:=by cases hi with | none=>rfl | some _=>cases e3
    subst hlo;subst aqk;refine fH.eT (x:=.slice (some ⟨b,bo,none⟩) n' n') hR ?_ (fin n' true (Nat.le_refl _) (λ _=>rfl));have e0:(⟨b,bo,none⟩:Addr).add 0=⟨b,bo,none⟩:=by rw [Addr.add_mid]; rfl
    by_cases hz0:n'=0
    ·simp [execOp,ho,hxv,Instr.sliceAt,Instr.sureAddr,bX hu,ajs,gJ al2,hz0]
    ·simp [execOp,ho,hxv,Instr.sliceAt,Instr.sureAddr,bX hu,ajs,gJ al2,hz0,e0]
   ·rename_i k hh e2 e3;obtain ⟨⟨q0,q1⟩,rfl,rfl⟩:=h6.iB;have hlo:lo=none:=by cases lo with | none=>rfl | some _=>cases e2
    subst hlo;obtain ⟨y,hy,ey⟩:∃y,hi=some y∧ρ y=.int k hh:=by
     cases hi with
     | none=>cases e3
     | some y=>exact ⟨y,rfl,by simpa using e3⟩
    subst hy;have hyv:=hhi y rfl;rw [ey] at hyv;have hyv:=hyv.iM;refine fH.eT (x:=.slice (some ⟨b,bo,none⟩) hh.toNat n') hR ?_ (fin hh.toNat false om (λ h=>by cases h));by_cases hz0:n'=0
    ·have hb0:=ajt (P:=P) (w:=w) n' k hh q0 q1;have ht0:hh.toNat=0:=by omega
     rw [ht0] at hb0 ⊢;rw [hz0] at hb0 hu ⊢;simp [execOp,ho,hxv,hyv,Instr.sliceAt,Instr.sureAddr,bX hu,hb0,gJ al2]
    ·simp [execOp,ho,hxv,hyv,Instr.sliceAt,Instr.sureAddr,bX hu,ajt n' k hh q0 q1,gJ al2,hz0,(show (⟨b,bo,none⟩:Addr).add 0=⟨b,bo,none⟩ by rw [Addr.add_mid]; rfl)]
   ·exact (fP.aX h6).elim
 ·exact (fP.aX h2).elim
theorem ahW (hc:iy P cfg) (hR:Rel cfg cx H D w I O) (ho:o.op=.slice t x lo hi mx) {ob i n:Nat} {f:Bool} (hx:eX w I O D (.eF ob i n f) (a.eval x))
  (hlo:∀y,lo=some y→eX w I O D (ρ y) (a.eval y)) (hhi:∀y,hi=some y→eX w I O D (ρ y) (a.eval y)) (hmx:∀y,mx=some y→eX w I O D (ρ y) (a.eval y))
  (h:fP Sp H (Dr cfg t λ ti=>.rd ob λ
    | .row es N _=>gL (Nat.beq es ti.size) (ai4 ob i n N f (lo.map ρ) (hi.map ρ) (mx.map ρ))
    | _=>.fail) v ups r):fH P cfg cx H D w I O dR o a v ups:=by
 obtain ⟨tt,e,ti,h1,h2,h3,h4⟩:=h.qb;obtain ⟨hu,ii,z,hi',hz,hs,hby,hzs⟩:=hc.slice h1 h2 h3;obtain ⟨obj,_,nP,h5⟩:=h4.nW;obtain ⟨p,hp,hO⟩:=hR.live nP;cases obj with
 | map=>exact (fP.aX h5).elim
 | box cs=>exact (fP.aX h5).elim
 | row es N g=>
  obtain ⟨c1,h6⟩:=h5.cu;have c1:es=ti.size:=Nat.eq_of_beq_eq_true c1;have Vw:p.es=es:=hO.2.1;have hpn:p.n=N:=hO.1;obtain ⟨aa,cap,hxv,a1,a2,a3,a4⟩:=hx.ng hp;have hext:p.n≤i+cap:=(hxv ▸ hx).ER hp;have arg:∀(q:Option Operand) (k:IntKind) (m:Int),(∀y,q=some y→eX w I O D (ρ y) (a.eval y))→q.map ρ=some (.int k m)→q.map a.eval=some (.int k m):=by
   intro q k m hq hm;cases q with
   | none=>cases hm
   | some y=>
    have:=hq y rfl;simp only [Option.map_some,Option.some.injEq] at hm ⊢;rw [hm] at this;exact this.iM
  have non:∀(q:Option Operand),q.map ρ=none→q=none:=λ q hq=>by cases q with | none=>rfl | some _=>cases hq
  have part:∀l hh wL,l≤hh→i+hh≤N→(wL=true→f=true∧hh=n)→eX w I O D (.eF ob (i+l) (hh - l) wL) (.slice (if cap=l then aa else aa.map (·.add (l*ii.size))) (hh - l) (cap - l)):=by
   intro l hh wL q1 q2 q3;have hhc:hh≤cap:=by omega
   refine .eF hp om om (λ hf=>?_) (λ hne=>?_) om
   ·obtain ⟨e1,e2⟩:=q3 hf;have:=a3 e1;omega
   ·obtain ⟨b,bo,sz,e1,e2,e3⟩:=a4 om;refine ⟨b,bo,sz,e1,?_,?_⟩
    ·rw [if_neg om,e2];simp only [Option.map_some,Addr.add_mid,Option.some.injEq];rw [Vw,hs,← c1,Nat.add_mul];congr 1;omega
    ·have:i+l+(cap - l)=i+cap:=by omega
     rw [this];exact e3
  have run:∀(l hh m:Nat),(Instr.sliceBounds true n cap (lo.map a.eval) (hi.map a.eval) (mx.map a.eval)).run P w=.ok (l,hh,m) w→(execOp a.eval o).run P w=.ok (.value (.slice (if m=l then aa else aa.map (·.add (l*ii.size))) (hh - l) (m - l))) w:=by
   intro l hh m hb;have:=QM (P:=P) hu hi' aa n cap _ _ _ l hh m hb;simp only [execOp,ho,hxv,this,Sem.run_bind,Sem.run_pure,Result.andThen_ok]
  unfold ai4 at h6;split at h6
  ·rename_i k m em;have hm:=arg mx k m hmx em;split at h6
   ·rename_i k1 l k2 hh el eh;obtain ⟨⟨q1,q2,q3,q4⟩,rfl,rfl⟩:=h6.iB;have hl:=arg lo k1 l hlo el;have hh':=arg hi k2 hh hhi eh;refine fH.eT hR (run l.toNat hh.toNat m.toNat ?_) (.pure (.undef _));rw [hl,hh',hm];obtain ⟨l',rfl⟩:=Int.eq_ofNat_of_zero_le q1;obtain ⟨h',rfl⟩:=Int.eq_ofNat_of_zero_le (show 0≤hh by omega);obtain ⟨m',rfl⟩:=Int.eq_ofNat_of_zero_le (show 0≤m by omega);have z1:(m':Int)≤(cap:Int):=by omega
    have z2:(h':Int)≤(m':Int):=q3;have z3:(l':Int)≤(h':Int):=q2;have z4:(0:Int)≤(m':Int):=by omega
    have z5:(0:Int)≤(h':Int):=by omega
    have z6:(0:Int)≤(l':Int):=by omega
    have b1:∀(k:IntKind) (x y:Nat) (cd:BoundsCode),(x:Int)≤(y:Int)→(Instr.sliceBound (.int k x) y cd).run P w=.ok x w:=λ k x y cd hxy=>by
     have hx0:(0:Int)≤(x:Int):=by omega
     simp only [Instr.sliceBound,asIntOf,Sem.run_bind,Sem.run_pure,Result.andThen_ok];rw [if_pos ⟨hx0,hxy⟩];simp
    simp only [Instr.sliceBounds,Sem.run_bind,b1 _ _ _ _ z1,b1 _ _ _ _ z2,b1 _ _ _ _ z3,Result.andThen_ok,Sem.run_pure,Int.toNat_natCast]
   ·rename_i k2 hh el eh;obtain ⟨⟨q1,q2,q3⟩,rfl,rfl⟩:=h6.iB;have hl:=non lo el;subst hl;have hh':=arg hi k2 hh hhi eh;have em0:m=0:=by omega
    have eh0:hh=0:=by omega
    subst em0;subst eh0;refine fH.eT (x:=.slice aa 0 0) hR ?_ (.pure (.sl 0 0 (λ _ _=>Go.undef) (Nat.zero_le _) (λ _=>rfl) (λ h=>absurd rfl h) (λ _ h=>absurd h (Nat.not_lt_zero _)) (λ _ _ h=>absurd h (Nat.not_lt_zero _)) (λ _ _ h=>absurd h (Nat.not_lt_zero _)) (λ _ _ h=>absurd h (Nat.not_lt_zero _))));have b1:∀(k:IntKind) (y:Nat) (cd:BoundsCode),(Instr.sliceBound (.int k 0) y cd).run P w=.ok 0 w:=λ k y cd=>by
     have hx0:(0:Int)≤(0:Int):=by omega
     have hxy:(0:Int)≤(y:Int):=by omega
     simp only [Instr.sliceBound,asIntOf,Sem.run_bind,Sem.run_pure,Result.andThen_ok];rw [if_pos ⟨hx0,hxy⟩];simp
    have:=run 0 0 0 (by
     rw [hh',hm]
     simp [Instr.sliceBounds,b1])
    simpa using this
   ·exact (fP.aX h6).elim
  ·exact (fP.aX h6).elim
  ·rename_i em;have hm:=non mx em;subst hm;split at h6
   ·rename_i el eh;obtain ⟨rfl,rfl⟩:=h6.fE;have:=non lo el;subst this;have:=non hi eh;subst this;refine fH.eT hR (run 0 n cap (apb n cap)) ?_;have hh:(.slice (if cap=0 then aa else aa.map (·.add (0*ii.size))) (n - 0) (cap - 0):Value)=.slice aa n cap:=by
     by_cases hz:cap=0
     ·simp [hz]
     ·obtain ⟨b,bo,sz,_,e2,_⟩:=a4 hz;rw [if_neg hz,e2];simp [Addr.add_mid]
    rw [hh,← hxv];exact hx
   ·rename_i k hh el eh;obtain ⟨⟨q1,q2⟩,rfl,rfl⟩:=h6.iB;have:=non lo el;subst this;have hh':=arg hi k hh hhi eh;refine fH.eT hR (run 0 hh.toNat cap (by rw [hh']; exact apc n cap k hh q1 om)) ?_;have:=part 0 hh.toNat false (Nat.zero_le _) om (λ h=>by cases h);simpa using this
   ·rename_i k l el eh;obtain ⟨⟨q1,q2⟩,rfl,rfl⟩:=h6.iB;have:=non hi eh;subst this;have hl:=arg lo k l hlo el;exact fH.eT hR (run l.toNat n cap (by rw [hl]; exact ape n cap k l q1 q2)) (part l.toNat n f om om (λ h=>⟨h,rfl⟩))
   ·rename_i k l k2 hh el eh;obtain ⟨⟨q1,q2,q3⟩,rfl,rfl⟩:=h6.iB;have hl:=arg lo k l hlo el;have hh':=arg hi k2 hh hhi eh;exact fH.eT hR (run l.toNat hh.toNat cap (by rw [hl,hh']; exact apf n cap k k2 l hh q1 q2 om)) (part l.toNat hh.toNat false om om (λ h=>by cases h))
   ·exact (fP.aX h6).elim
theorem aju (hc:iy P cfg) (hR:Rel cfg cx H D w I O) (ho:o.op=.slice t x lo hi mx) (hx:eX w I O D (ρ x) (a.eval x))
  (hlo:∀y,lo=some y→eX w I O D (ρ y) (a.eval y)) (hhi:∀y,hi=some y→eX w I O D (ρ y) (a.eval y)) (hmx:∀y,mx=some y→eX w I O D (ρ y) (a.eval y))
  (h:fP Sp H (gX cfg dR (.slice t x lo hi mx) ρ) v ups r):fH P cfg cx H D w I O dR o a v ups:=by
 simp only [gX] at h;split at h
 ·rename_i n et harr;exact ahV hc hR ho hx hhi harr h
 split at h
 ·rename_i e1;exact ahW hc hR ho (e1 ▸ hx) hlo hhi hmx h
 rename_i hno;obtain ⟨⟨r0,h0⟩,hmax⟩:=ajr hhi hmx h;clear h;obtain ⟨tt,e,ti,h1,h2,h3,h4⟩:=h0.qb;obtain ⟨hu,i,z,hi',hz,hs,hby,hzs⟩:=hc.slice h1 h2 h3;clear h0;obtain ⟨aa,n,cap,xa,hxv,ane,part,h5⟩:∃aa n cap xa,a.eval x=.slice aa n cap∧n≤cap∧(∀(v:AV),xa=v→
   (∀es full g,xa=.sl es n full g→(full=true→cap=n)∧∀l h m wL,l≤h→h≤n→h≤m→m≤cap→(wL=true→m=h)→eX w I O D (.sl es (h - l) wL (λ j=>g (l+j))) (.slice (if m=l then aa else aa.map (·.add (l*i.size))) (h - l) (m - l)))∧
   (∀ob j n' full,xa≠.eF ob j n' full)∧
   (∀es n' full g,xa=.sl es n' full g→n'=n))∧∃r',fP Sp H (YJ xa (lo.map ρ) (hi.map ρ) mx.isSome mx.isSome) v ups r':=by
  split at h4
  ·rename_i es n f g ex
   rw [ex] at hx
   obtain ⟨hes,h5⟩:=h4.cu
   generalize hxv:a.eval x=xv at hx
   have hp:=hx.AX
   cases hp with
   | @sl _ _ _ _ aa cap b off vs hcap hfull ha hes' hm h11 hr=>
    refine ⟨aa,n,cap,.sl es n f g,rfl,hcap,λ v _=>⟨λ es' wL g' e=>?_,λ _ _ _ _ e=>(by cases e),λ _ _ _ _ e=>(by cases e; rfl)⟩,_,h5⟩
    cases e
    exact ⟨hfull,λ l h m wL q1 q2 q3 q4 q5=>.pure (afM (iE.sl b off vs hcap hfull ha hes' hm h11 hr) q1 q2 q3 q4 q5 (λ hn=>by rw [hs]; exact yV hes hn))⟩
  ·rename_i ob j n f ex
   exact (hno _ _ _ _ ex).elim
  ·exact (fP.aX h4).elim
 obtain ⟨r',h5⟩:=h5;clear h4 hx;obtain ⟨psl,al3,ajv⟩:=part xa rfl;have done:∀ {l h m:Nat} {x':Value},(Instr.sliceBounds true n cap (lo.map a.eval) (hi.map a.eval) (mx.map a.eval)).run P w=.ok (l,h,m) w→x'=.slice (if m=l then aa else aa.map (·.add (l*i.size))) (h - l) (m - l)→ups=[]→eX w I O D v x'→fH P cfg cx H D w I O dR o a v ups:=by
  intro l h m x' hb hx' hu0 hv;subst hu0;refine fH.eT (x:=x') hR ?_ hv;rw [hx'];simp [execOp,ho,hxv,QM hu hi' aa n cap _ _ _ l h m hb]
 unfold YJ at h5;split at h5
 ·rename_i e1 e2;obtain ⟨hm,h6⟩:=h5.cu;have hmx:mx=none:=ahg hm;have e1':lo=none:=by simpa using e1
  have e2':hi=none:=by simpa using e2
  subst hmx; subst e1'; subst e2';split at h6
  ·obtain ⟨rfl,rfl⟩:=h6.fE;have e:=ajv _ _ _ _ rfl;subst e;obtain ⟨q1,q2⟩:=psl _ _ _ rfl;exact done (apb _ _) rfl rfl (by simpa using q2 0 _ cap _ (Nat.zero_le _) (Nat.le_refl _) ane (Nat.le_refl _) q1)
  ·exact absurd rfl (al3 _ _ _ _)
  ·exact (fP.aX h6).elim
 ·rename_i k hh e1 e2;obtain ⟨hm,h6⟩:=h5.cu;have e1':lo=none:=by simpa using e1
  obtain ⟨y,e2',e3⟩:∃y,hi=some y∧ρ y=.int k hh:=Option.map_eq_some_iff.1 e2;have hy:a.eval y=.int k hh:=(e3 ▸ hhi y e2').iM;subst e1';have go:∀wL,wL=mx.isSome→0≤hh→hh≤n→(∀m,hh.toNat≤m→m≤cap→(wL=true→m=hh.toNat)→eX w I O D v (.slice (if m=0 then aa else aa.map (·.add (0*i.size))) (hh.toNat - 0) (m - 0)))→ups=[]→fH P cfg cx H D w I O dR o a v ups:=by
   intro wL hfe q1 q2 q3 q4;cases hf:mx.isSome with
   | true=>
    exact done (l:=0) (h:=hh.toNat) (m:=hh.toNat) (by rw [hmax hf]; simp only [e2',Option.map_some,Option.map_none,hy]; exact apd _ _ _ _ q1 om) rfl q4 (q3 _ (Nat.le_refl _) om (λ _=>rfl))
   | false=>
    have hmx:mx=none:=ahg (by rw [hf]; rfl);subst hmx;exact done (l:=0) (h:=hh.toNat) (m:=cap) (by simp only [e2',Option.map_some,Option.map_none,hy]; exact apc _ _ _ _ q1 om) rfl q4 (q3 _ om (Nat.le_refl _) (λ e=>by rw [hfe,hf] at e; cases e))
  split at h6
  ·split at h6
   ·rename_i hzf;obtain ⟨⟨q1,q2⟩,rfl,rfl⟩:=h6.iB;have e:=ajv _ _ _ _ rfl;subst e;have hh0:hh=0:=by omega
    subst hh0;unfold zf at hzf;split at hzf
    ·split at hzf
     ·obtain ⟨q3,q4⟩:=psl _ _ _ rfl;have hc0:=q3 rfl;exact go _ rfl om om (λ m hm1 hm2 hm3=>by simpa using q4 0 0 m true (Nat.le_refl _) om (Nat.zero_le _) hm2 (λ _=>by omega)) rfl
     ·cases hzf
    ·cases hzf
   obtain ⟨⟨q1,q2⟩,rfl,rfl⟩:=h6.iB;have e:=ajv _ _ _ _ rfl;subst e;obtain ⟨q3,q4⟩:=psl _ _ _ rfl;exact go _ rfl q1 q2 (λ m hm1 hm2 hm3=>by simpa using q4 0 hh.toNat m _ (Nat.zero_le _) om hm1 hm2 hm3) rfl
  ·exact absurd rfl (al3 _ _ _ _)
  ·exact (fP.aX h6).elim
 ·rename_i k l e1 e2;obtain ⟨hm,h6⟩:=h5.cu;have hmx:mx=none:=ahg hm;have e2':hi=none:=by simpa using e2
  obtain ⟨y,e1',e3⟩:∃y,lo=some y∧ρ y=.int k l:=Option.map_eq_some_iff.1 e1;have hy:a.eval y=.int k l:=(e3 ▸ hlo y e1').iM;subst hmx; subst e2';split at h6
  ·obtain ⟨⟨q1,q2⟩,rfl,rfl⟩:=h6.iB;have e:=ajv _ _ _ _ rfl;subst e;obtain ⟨q3,q4⟩:=psl _ _ _ rfl;exact done (by simp only [e1',Option.map_some,Option.map_none,hy]; exact ape _ _ _ _ q1 q2) rfl rfl (q4 l.toNat _ cap _ om (Nat.le_refl _) ane (Nat.le_refl _) q3)
  ·exact absurd rfl (al3 _ _ _ _)
  ·exact (fP.aX h6).elim
 ·rename_i k l k' hh e1 e2;obtain ⟨hm,h6⟩:=h5.cu;obtain ⟨y,e1',e3⟩:∃y,lo=some y∧ρ y=.int k l:=Option.map_eq_some_iff.1 e1;obtain ⟨y',e2',e3'⟩:∃y,hi=some y∧ρ y=.int k' hh:=Option.map_eq_some_iff.1 e2;have hy:a.eval y=.int k l:=(e3 ▸ hlo y e1').iM;have hy':a.eval y'=.int k' hh:=(e3' ▸ hhi y' e2').iM;have go:∀wL,wL=mx.isSome→0≤l→l≤hh→hh≤n→(∀m,hh.toNat≤m→m≤cap→(wL=true→m=hh.toNat)→eX w I O D v (.slice (if m=l.toNat then aa else aa.map (·.add (l.toNat*i.size))) (hh.toNat - l.toNat) (m - l.toNat)))→ups=[]→fH P cfg cx H D w I O dR o a v ups:=by
   intro wL hfe q0 q1 q2 q3 q4;cases hf:mx.isSome with
   | true=>
    exact done (l:=l.toNat) (h:=hh.toNat) (m:=hh.toNat) (by rw [hmax hf]; simp only [e1',e2',Option.map_some,hy,hy']; exact apg _ _ _ _ _ _ q0 q1 om) rfl q4 (q3 _ (Nat.le_refl _) om (λ _=>rfl))
   | false=>
    have hmx:mx=none:=ahg (by rw [hf]; rfl);subst hmx;exact done (l:=l.toNat) (h:=hh.toNat) (m:=cap) (by simp only [e1',e2',Option.map_some,Option.map_none,hy,hy']; exact apf _ _ _ _ _ _ q0 q1 om) rfl q4 (q3 _ om (Nat.le_refl _) (λ e=>by rw [hfe,hf] at e; cases e))
  split at h6
  ·obtain ⟨⟨q0,q1,q2⟩,rfl,rfl⟩:=h6.iB;have e:=ajv _ _ _ _ rfl;subst e;obtain ⟨q3,q4⟩:=psl _ _ _ rfl;exact go _ rfl q0 q1 q2 (λ m hm1 hm2 hm3=>q4 l.toNat hh.toNat m _ om om hm1 hm2 hm3) rfl
  ·exact absurd rfl (al3 _ _ _ _)
  ·exact (fP.aX h6).elim
 ·exact (fP.aX h5).elim
end
end Go.Ab
namespace Go.Ab
section
variable {P:Program} {cfg:yE} {cx:Ctx} {H:Nat→Option dW} {D:Nat→Prop} {w:World} {I:Nat→Prop} {O:OM} {Sp:oK}
variable {dR:Nat} {o:Oper} {a:Act} {ρ:Operand→AV} {v:AV} {ups:lF} {r:List Nat}
def EA (O:OM) (ids:List Nat) (b:Nat):Prop:=∃o p bo sz,o∈ids∧O o=some p∧p.pl=some (b,bo,sz)
def kill (O:OM) (ids:List Nat):OM:=λ o=>if o∈ids then none else O o
theorem abO (ids:List Nat) (o:Nat):look (dead ids) o=if o∈ids then some none else none:=by
 induction ids with
 | nil=>simp [dead,look]
 | cons a l ih=>
  simp only [dead,look,ih];cases h:Nat.beq a o with
  | true=>have:=Nat.eq_of_beq_eq_true h; subst this; simp
  | false=>
   have:o≠a:=λ e=>by subst e; simp at h
   simp [this]
theorem GR (ids:List Nat) (o:Nat):mM H (dead ids) o=if o∈ids then none else H o:=by
 unfold mM;rw [abO];by_cases h:o∈ids<;>simp [h]
theorem Rel.freeze (hR:Rel cfg cx H D w I O) (ids:List Nat):Rel cfg cx (mM H (dead ids)) D w (λ b=>I b∨EA O ids b) (kill O ids) where
 dom:=λ o=>by
  rw [GR]; unfold kill;by_cases h:o∈ids<;>simp [h,hR.dom o]
 used:=λ o p h=>by
  unfold kill at h;by_cases h':o∈ids<;>simp [h'] at h;exact hR.used o p h
 objs:=λ o ob p h h'=>by
  rw [GR] at h; unfold kill at h';by_cases h0:o∈ids<;>simp [h0] at h h';exact (hR.objs o ob p h h').mono (λ _ h=>.inl h) (λ _ _=>rfl) (λ o _=>by unfold kill; by_cases h0:o∈ids<;>simp [h0]) (λ _ h=>h) hR.used (λ _ _ _ _=>rfl)
 inj:=λ o o' p p' b bo sz b' p8 sz' h1 h2 h3 h4 h5=>by
  unfold kill at h1 h2;by_cases h0:o∈ids<;>simp [h0] at h1;by_cases h0':o'∈ids<;>simp [h0'] at h2;exact hR.inj o o' p p' b bo sz b' p8 sz' h1 h2 h3 h4 h5
 p9:=λ o p b bo sz h1 h2 h3=>by
  unfold kill at h1;by_cases h0:o∈ids<;>simp [h0] at h1;rcases h3 with h3 | ⟨o',p',p8,sz',h4,h5,h6⟩
  ·exact hR.p9 o p b bo sz h1 h2 h3
  ·exact hR.inj o o' p p' b bo sz b p8 sz' h1 h5 h2 h6 (λ e=>h0 (e ▸ h4)) rfl
 lt:=λ o p b bo sz h1 h2=>by
  unfold kill at h1;by_cases h0:o∈ids<;>simp [h0] at h1;exact hR.lt o p b bo sz h1 h2
 AU:=λ b h=>by
  rcases h with h | ⟨o',p',p8,sz',h4,h5,h6⟩
  ·exact hR.AU b h
  ·exact hR.lt o' p' b p8 sz' h5 h6
 size:=hR.size
 frame:=hR.frame
 env:=hR.env
 maps:=λ o kd z f p b bo sz h h' hp=>by
  rw [GR] at h; unfold kill at h';by_cases h0:o∈ids<;>simp [h0] at h h';exact hR.maps o kd z f p b bo sz h h' hp
 new:=λ o p b bo sz h1 h2=>by
  unfold kill at h1;by_cases h0:o∈ids<;>simp [h0] at h1;exact hR.new o p b bo sz h1 h2
 glob:=λ g cs h=>(hR.glob g cs h).mono (λ _ h=>.inl h) (λ _ _=>rfl)
 Tg:=λ b h=>.inl (hR.Tg b h)
 Xc:=λ b h=>by
  rcases h with h | ⟨o',p',p8,sz',h4,h5,h6⟩
  ·exact hR.Xc b h
  ·exact .inr (hR.new o' p' b p8 sz' h5 h6)
 Zk:=λ o h=>by
  unfold kill;by_cases h0:o∈ids
  ·simp [h0]
  ·simpa [h0] using hR.Zk o h
 Dm:=hR.Dm
theorem eX.kill (hR:Rel cfg cx H D w I O) (ids:List Nat) {v:AV} {x:Value} (h:eX w I O D v x):eX w (λ b=>I b∨EA O ids b) (kill O ids) D v x:=
 h.mono (λ _ h=>.inl h) (λ _ _=>rfl) (λ o _=>by unfold Ab.kill; by_cases h0:o∈ids<;>simp [h0]) (λ _ h=>h) hR.used
theorem EA.afN {ids al4:List Nat} {b:Nat} (h:EA O ids b):EA O (ids++al4) b:=by
 obtain ⟨o,p,bo,sz,h1,h2,h3⟩:=h;exact ⟨o,p,bo,sz,List.mem_append_left _ h1,h2,h3⟩
theorem EA.afO {ids al4:List Nat} {b:Nat} (h:EA O al4 b):EA O (ids++al4) b:=by
 obtain ⟨o,p,bo,sz,h1,h2,h3⟩:=h;exact ⟨o,p,bo,sz,List.mem_append_right _ h1,h2,h3⟩
theorem GU (i j:Nat) (g:Nat→AV):qZ i g j=g (i+j):=by cases i<;>simp [qZ]
theorem GV (hR:Rel cfg cx H D w I O):∀f:Nat,
  (∀(v:AV) (k:AV→List Nat→Pg) (v':AV) (ups:lF) (r:List Nat),fP Sp H (pur f v k) v' ups r→∃u ids r',fP Sp H (k u ids) v' ups r'∧
    ∀x,eX w I O D v x→iE w (λ b=>I b∨EA O ids b) u x)∧
  (∀(l:List AV) (k:List AV→List Nat→Pg) (v':AV) (ups:lF) (r:List Nat),fP Sp H (pur.afC f l k) v' ups r→∃l' ids r',fP Sp H (k l' ids) v' ups r'∧l'.length=l.length∧
    ∀j,j<l.length→∀x,eX w I O D (nth l j) x→iE w (λ b=>I b∨EA O ids b) (nth l' j) x):=by
 intro f;induction f with
 | zero=>exact ⟨λ v k v' ups r h=>(fP.aX h).elim,λ l k v' ups r h=>(fP.aX h).elim⟩
 | succ f ih=>
  obtain ⟨ih1,ih2⟩:=ih;refine ⟨λ v k v' ups r h=>?_,λ l k v' ups r h=>?_⟩
  ·cases v with
   | eF ob i n full=>
    simp only [pur] at h;obtain ⟨obj,r',nP,h1⟩:=h.nW;obtain ⟨p,hp,hO⟩:=hR.live nP;cases obj with
    | map=>exact (fP.aX h1).elim
    | box cs=>exact (fP.aX h1).elim
    | row es m g=>
     refine ⟨_,[ob],r',h1,λ x hx=>?_⟩;obtain ⟨aa,cap,rfl,h2,h3,h4,h5⟩:=hx.ng hp;obtain ⟨hn,hes,hlen,h6⟩:=hO;by_cases hn0:n=0
     ·subst hn0;exact .sl 0 0 (λ _ _=>Go.undef) h3 h4 (λ e=>absurd rfl e) (λ i hi=>absurd hi om) (λ i j hi=>absurd hi om) (λ i j hi=>absurd hi om) (λ i j hi=>absurd hi om)
     ·obtain ⟨b,bo,sz,h7,rfl,h8⟩:=h5 om;rcases h6 with ⟨_,h6⟩ | ⟨b',p8,sz',h6,hal,hle,hcs⟩
      ·rw [h7] at h6; cases h6
      ·rw [h7] at h6;cases h6;subst hn;have hmul:∀k,k<n→(i+k+1)*es≤p.n*es:=λ k hk=>Nat.mul_le_mul_right _ om;refine .sl b (bo+i*p.es) (λ k j=>cellAt w b (bo+((i+k)*es+j))) h3 h4 (λ _=>⟨rfl,.inr ⟨ob,p,bo,sz,by simp,hp,h7⟩⟩) (λ k hk=>by rw [GU]; exact hlen _ om) (λ k j hk hj=>?_) (λ k j hk hj=>(hcs (i+k) j om hj).2) (λ k j hk hj=>?_)
       ·have e:bo+i*p.es+(k*es+j)=bo+((i+k)*es+j):=by rw [hes,Nat.add_mul]; omega
        rw [e];refine vN hal ?_;have:=hmul k hk;rw [Nat.succ_mul] at this;omega
       ·rw [GU];exact (hcs (i+k) j om hj).1.mono (λ _ h=>.inl h) (λ _ _=>rfl)
   | ptr ob i off=>
    cases i with
    | succ i=>simp only [pur] at h; exact (fP.aX h).elim
    | zero=>
     simp only [pur] at h;obtain ⟨obj,r',nP,h1⟩:=h.nW;obtain ⟨p,hp,hO⟩:=hR.live nP;cases obj with
     | map=>exact (fP.aX h1).elim
     | row es m g=>exact (fP.aX h1).elim
     | box cs=>
      obtain ⟨l',ids,r'',h2,h3,h4⟩:=ih2 _ _ _ _ _ h1;refine ⟨_,_,r'',h2,λ x hx=>?_⟩;obtain ⟨b,bo,sz,h5,h6,rfl⟩:=hx.oP hp;obtain ⟨hn,b',p8,sz',h7,hal,hle,hcs⟩:=hO;rw [h5] at h7;cases h7;simp only [Nat.zero_mul,Nat.zero_add];refine .ro b (bo+off) (λ j=>cellAt w b (bo+(off+j))) (.inr ⟨ob,p,bo,sz,by simp,hp,h5⟩) (λ j hj=>?_) (λ j hj=>?_)
      ·rw [Nat.add_assoc];refine vN hal ?_;rw [h3] at hj;simp at hj;omega
      ·rw [h3] at hj;refine (h4 j hj _ (by rw [MO]; exact hcs (off+j) (by simp at hj; omega))).mono (λ b h=>?_) (λ _ _=>rfl);rcases h with h | ⟨o',p',p8,sz',q1,q2,q3⟩
       ·exact .inl h
       ·exact .inr ⟨o',p',p8,sz',List.mem_cons_of_mem _ q1,q2,q3⟩
   | agg cs=>
    simp only [pur] at h;obtain ⟨l',ids,r'',h2,h3,h4⟩:=ih2 _ _ _ _ _ h;refine ⟨_,_,r'',h2,λ x hx=>?_⟩;obtain ⟨vs,rfl,hl,hr⟩:=hx.wJ;exact .agg om λ j hj=>h4 j om _ (hr j om)
   | kI cs=>
    simp only [pur] at h;obtain ⟨l',ids,r'',h2,h3,h4⟩:=ih2 _ _ _ _ _ h;refine ⟨_,_,r'',h2,λ x hx=>?_⟩;obtain ⟨vs,rfl,hl,hr⟩:=hx.Jj;exact .kI om λ j hj=>h4 j om _ (hr j om)
   | fn g cs=>
    simp only [pur] at h;obtain ⟨l',ids,r'',h2,h3,h4⟩:=ih2 _ _ _ _ _ h;refine ⟨_,_,r'',h2,λ x hx=>?_⟩;obtain ⟨vs,rfl,hl,hr⟩:=hx.MN;exact .fn om λ j hj=>h4 j om _ (hr j om)
   | mref ob=>simp only [pur] at h; exact (fP.aX h).elim
   | _=>
    refine ⟨_,[],r,h,λ x hx=>?_⟩;cases hx with | pure hx=>exact hx.mono (λ _ h=>.inl h) (λ _ _=>rfl)
  ·cases l with
   | nil=>exact ⟨[],[],r,h,rfl,λ j hj=>by cases hj⟩
   | cons v l=>
    simp only [pur.afC] at h;obtain ⟨u,i1,r1,h1,h2⟩:=ih1 _ _ _ _ _ h;obtain ⟨l',i2,r2,h3,h4,h5⟩:=ih2 _ _ _ _ _ h1;refine ⟨u::l',i1++i2,r2,h3,by simp [h4],λ j hj x hx=>?_⟩;cases j with
    | zero=>exact (h2 x hx).mono (λ b h=>h.elim .inl λ h=>.inr h.afN) (λ _ _=>rfl)
    | succ j=>exact (h5 j (by simpa using hj) x hx).mono (λ b h=>h.elim .inl λ h=>.inr h.afO) (λ _ _=>rfl)
end
end Go.Ab

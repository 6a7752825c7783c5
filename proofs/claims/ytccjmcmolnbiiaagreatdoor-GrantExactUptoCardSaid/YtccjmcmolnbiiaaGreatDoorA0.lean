/- A part of the proof. -/
import Derived.Orders
import Derived.Laws.IdiomCopy
import Derived.Laws.Cells
import Derived.Laws.Sem
import Derived.Deep.MidRow
import Derived.Laws.StructEq
import Derived.ChangeKeysEq
import Derived.IntWalk
set_option linter.defProp false
set_option linter.unusedVariables false
set_option linter.unusedSimpArgs false
namespace Go.Ab
abbrev ag8:=List Int
abbrev ag9:=List Bool
abbrev ahb:=List Nat
abbrev aiS:=List ByteArray
abbrev akS:=List Value
def ag7:=@trivial
def om {p : Prop} (h : p := by omega) : p := h
inductive AV where
 | undef
 | bool (b:Bool)
 | int (k:IntKind) (n:Int)
 | str (s:ByteArray)
 | sl (es n:Nat) (full:Bool) (g:Nat->AV)
 | ro (cs:List AV)
 | agg (cs:List AV)
 | ptr (o i off:Nat)
 | eO (o i n:Nat) (full:Bool)
 | fn (f:FuncId) (caps:List AV)
 | kP (vs:List AV)
 | FT
 | mref (o:Nat)
abbrev aiA:=List AV
inductive ZK where
 | bool | int (k:IntKind) | str | slice | ptr | other
 deriving DecidableEq
abbrev ajY:=List ZK
inductive TD where
 | bool | int (k:IntKind) | str | slice (e:TypeId) | struct (fs:List (Nat×Nat)) | pointer (e:TypeId) | map (k e:TypeId) | array (n:Nat) (e:TypeId) | other
 deriving DecidableEq
inductive qR where
 | s (b:ByteArray)
 | i (n:Int)
 deriving DecidableEq
inductive eD where
 | box (cs:aiA)
 | row (es n:Nat) (g:Nat->AV)
 | map (kd:TD) (z:ajY) (f:qR->Option Int)
abbrev ajN:=List eD
structure RL where
 size:Nat
 agg:Bool
 bytes:Nat
 zero:ajY
 desc:TD
 deriving DecidableEq
structure FnI where
 muts:ahb:=[]
 frz:Bool:=false
structure y9 where
 ty:List (Nat×RL)
 eqs:List (Nat×ajY):=[]
 fns:List (Nat×FnI)
 glob:List (Nat×aiA)
def look {α:Type}:List (Nat×α)->Nat->Option α
 | [],_=>none
 | (k,v)::l,t=>match Nat.beq k t with | true=>some v | false=>look l t
def iY (T:List (Nat×AV)) (t:Nat):AV:=
 match look T t with | some v=>v | none=>.undef
def hget (H:List (Nat×Option eD)) (o:Nat):Option eD:=
 match look H o with | some (some x)=>some x | _=>none
abbrev lK:=List (Nat×Option eD)
inductive Pg where
 | ret (v:AV) (ups:lK)
 | need (p:Prop) [d:Decidable p] (k:Pg)
 | rd (o:Nat) (k:eD->Pg)
 | call (f:FuncId) (args:aiA) (obs:ajN) (k:AV->ajN->Pg)
 | fail
def stride:Nat:=8
def fq:Nat->AV:=λ _=>.undef
def ofConst:Value->AV
 | .bool b=>.bool b
 | .int k n=>.int k n
 | .string s=>.str s
 | .slice none 0 0=>.sl 0 0 true fq
 | .pointer none=>.FT
 | _=>.undef
def ofZ:ZK->AV
 | .bool=>.bool false
 | .int k=>.int k 0
 | .str=>.str ByteArray.empty
 | .slice=>.sl 0 0 true fq
 | .ptr=>.FT
 | .other=>.undef
def AQ:ajY->aiA
 | []=>[]
 | z::l=>ofZ z::AQ l
def AV.cells:AV->aiA
 | .agg cs=>cs
 | v=>[v]
def nth:aiA->Nat->AV
 | [],_=>.undef
 | v::_,0=>v
 | _::l,n+1=>nth l n
def IC:Nat->aiA->aiA->aiA
 | _,[],l=>l
 | 0,v::new,_::l=>v::IC 0 new l
 | n+1,new,x::l=>x::IC n new l
 | _,_,[]=>[]
def ZX:AV->Bool
 | .undef | .agg _ | .kP _=>false
 | _=>true
def Kl:aiA->Bool
 | []=>true
 | v::l=>match ZX v with | true=>Kl l | false=>false
def NJ (v:AV) (k:aiA->Pg):Pg:=
 match v.cells with
 | cs=>match Kl cs with | true=>k cs | false=>.fail
def gT (b:Bool) (k:Pg):Pg:=match b with | true=>k | false=>.fail
def NK:aiA->(aiA->Prop)->Prop
 | [],K=>K []
 | v::l,K=>NK l (λ l'=>
  match v with
  | .undef=>K (.undef::l') | .bool b=>K (.bool b::l') | .int k n=>K (.int k n::l') | .str s=>K (.str s::l')
  | .sl es n f g=>K (.sl es n f g::l') | .ro cs=>K (.ro cs::l') | .agg cs=>K (.agg cs::l') | .ptr o i off=>K (.ptr o i off::l')
  | .eO o i n f=>K (.eO o i n f::l') | .fn f caps=>K (.fn f caps::l') | .kP vs=>K (.kP vs::l') | .FT=>K (.FT::l') | .mref o=>K (.mref o::l'))
def force (v:AV) (K:AV->Prop):Prop:=
 match v with
 | .undef=>K .undef | .bool b=>K (.bool b) | .int k n=>K (.int k n) | .str s=>K (.str s)
 | .sl es n f g=>K (.sl es n f g)
 | .ro cs=>NK cs λ cs'=>K (.ro cs')
 | .agg cs=>NK cs λ cs'=>K (.agg cs')
 | .ptr o i off=>K (.ptr o i off) | .eO o i n f=>K (.eO o i n f)
 | .fn f caps=>NK caps λ cs'=>K (.fn f cs')
 | .kP vs=>NK vs λ cs'=>K (.kP cs')
 | .FT=>K .FT
 | .mref o=>K (.mref o)
def Ep:lK->(lK->Prop)->Prop
 | [],K=>K []
 | (o,none)::l,K=>Ep l λ l'=>K ((o,none)::l')
 | (o,some (.row es n g))::l,K=>Ep l λ l'=>K ((o,some (.row es n g))::l')
 | (o,some (.map kd z f))::l,K=>Ep l λ l'=>K ((o,some (.map kd z f))::l')
 | (o,some (.box cs))::l,K=>NK cs λ cs'=>Ep l λ l'=>K ((o,some (.box cs'))::l')
def aC (n:Int):Prop := -9223372036854775808<=n/\n<=9223372036854775807
instance (n:Int):Decidable (aC n):=inferInstanceAs (Decidable (_/\_))
def addN:Nat->Nat->Nat
 | 0,k=>k
 | n+1,k=>n+1+k
def rP (i:Nat) (g:Nat->AV):Nat->AV:=match i with | 0=>g | n+1=>λ j=>g (n+1+j)
def XQ (l:aiA):Nat->AV:=λ i=>nth l i
def appG (n:Nat) (g h:Nat->AV):Nat->AV:=λ j=>bif Nat.blt j n then g j else h (j - n)
def ae1 (g:Nat->AV) (i:Nat) (v:AV):Nat->AV:=λ j=>bif Nat.beq j i then v else g j
def pur:Nat->AV->(AV->ahb->Pg)->Pg
 | 0,_,_=>.fail
 | _+1,.eO o i n full,k=>.rd o λ
  | .row es _ g=>k (.sl es n full (rP i g)) [o]
  | _=>.fail
 | f+1,.ptr o i off,k=>match i with
  | 0=>.rd o λ
   | .box cs=>ahc f (cs.drop off) λ cs' ids=>k (.ro cs') (o::ids)
   | _=>.fail
  | _+1=>.fail
 | f+1,.agg cs,k=>ahc f cs λ cs' ids=>k (.agg cs') ids
 | f+1,.kP cs,k=>ahc f cs λ cs' ids=>k (.kP cs') ids
 | f+1,.fn fn cs,k=>ahc f cs λ cs' ids=>k (.fn fn cs') ids
 | _+1,.mref _,_=>.fail
 | _+1,v,k=>k v []
 where ahc:Nat->aiA->(aiA->ahb->Pg)->Pg
 | 0,_,_=>.fail
 | _+1,[],k=>k [] []
 | f+1,v::l,k=>pur f v λ v' i1=>ahc f l λ l' i2=>k (v'::l') (i1++i2)
def fuel:Nat:=100
def dead:ahb->lK
 | []=>[]
 | o::l=>(o,none)::dead l
def mH (p:Prop) [Decidable p] (v:AV):Pg:=.need p (.ret v [])
def kD (v:AV):Pg:=.ret v []
def BN (ti:RL) (cs:aiA):Pg:=
 match ti.agg with
 | true=>gT (Nat.ble ti.size cs.length) (kD (.agg (cs.take ti.size)))
 | false=>match cs with
  | v::_=>kD v
  | []=>.fail
def arith (op:BinOp) (a b:Int):Pg:=
 match op with
 | .add=>mH (aC (a+b)) (.int .i64 (a+b))
 | .sub=>mH (aC (a - b)) (.int .i64 (a - b))
 | .mul=>mH (aC (a*b)) (.int .i64 (a*b))
 | .quo=>mH (b≠0/\aC (a.tdiv b)) (.int .i64 (a.tdiv b))
 | .rem=>mH (b≠0) (.int .i64 (a.tmod b))
 | _=>.fail
def asY (op:BinOp) (a b:Int):Pg:=
 match op with
 | .eql=>kD (.bool (a==b))
 | .neq=>kD (.bool (a != b))
 | .lss=>kD (.bool (decide (a<b)))
 | .leq=>kD (.bool (decide (a<=b)))
 | .gtr=>kD (.bool (decide (b<a)))
 | .geq=>kD (.bool (decide (b<=a)))
 | _=>.fail
def Un:BinOp->Bool
 | .add | .sub | .mul | .quo | .rem=>true
 | _=>false
def ak9 (k:IntKind) (op:BinOp) (a b:Int):Pg:=
 match op with
 | .add=>kD (.int k (k.wrap (a+b)))
 | .sub=>kD (.int k (k.wrap (a - b)))
 | .mul=>kD (.int k (k.wrap (a*b)))
 | _=>.fail
def FU (k:IntKind) (a b:Int):Int:=k.wrap (BitVec.ofInt k.bits a &&& BitVec.ofInt k.bits b).toNat
def IE (k:IntKind) (a b:Int):Int:=a.fdiv (2 ^ min b.toNat k.bits)
def orI (k:IntKind) (a b:Int):Int:=k.wrap (BitVec.ofInt k.bits a ||| BitVec.ofInt k.bits b).toNat
def Ra (k:IntKind) (a b:Int):Int:=k.wrap (a*2 ^ min b.toNat k.bits)
def ala:BinOp->Bool
 | .shl=>true
 | _=>false
def zB (a b:IntKind):Bool:=decide (a=b)
def Wi:ajY->aiA->aiA->Option Bool
 | [],[],[]=>some true
 | .int k::zs,.int k1 a::l,.int k2 b::m=>match zB k k1,zB k k2,Wi zs l m with
  | true,true,some r=>some ((a==b)&&r)
  | _,_,_=>none
 | .bool::zs,.bool a::l,.bool b::m=>match Wi zs l m with
  | some r=>some ((a==b)&&r)
  | none=>none
 | .str::zs,.str a::l,.str b::m=>match Wi zs l m with
  | some r=>some ((a.toList==b.toList)&&r)
  | none=>none
 | _,_,_=>none
def apx (op:BinOp) (a b:ByteArray):Pg:=
 match op with
 | .add=>mH (a.size+b.size<=9223372036854775807) (.str (a++b))
 | .eql=>kD (.bool (a.toList==b.toList))
 | .neq=>kD (.bool (!(a.toList==b.toList)))
 | .lss=>kD (.bool (Op.bytesLess a.toList b.toList))
 | .leq=>kD (.bool (Op.bytesLess a.toList b.toList||a.toList==b.toList))
 | .gtr=>kD (.bool (!(Op.bytesLess a.toList b.toList||a.toList==b.toList)))
 | .geq=>kD (.bool (!Op.bytesLess a.toList b.toList))
 | _=>.fail
def ahd (c:AV) (ea eb:Operand) (a b:AV):Pg:=
 match c with
 | .bool c=>match ea,eb,a,b with
  | _,.const (.bool false),.bool x,_=>kD (.bool (c&&x))
  | .const (.bool true),_,_,.bool y=>kD (.bool (c||y))
  | _,_,.bool x,.bool y=>kD (.bool (bif c then x else y))
  | _,_,.undef,y=>mH (c=false) y
  | _,_,x,.undef=>mH (c=true) x
  | _,_,_,_=>.fail
 | _=>.fail
section ops
variable (cfg:y9)
def Wp (t:TypeId) (k:RL->Pg):Pg:=match look cfg.ty t with | some i=>k i | none=>.fail
def Er (t:TypeId) (k:RL->Pg):Pg:=match look cfg.ty t with
 | some i=>match i.desc with
  | .slice e=>Wp cfg e k
  | _=>.fail
 | none=>.fail
def alb (op:BinOp) (t:TypeId) (x y:AV):Pg:=
 match x,y with
 | .int k a,.int k' b=>match ala op with
  | true=>mH (0<=b) (.int k (Ra k a b))
  | false=>gT (zB k k') (match Un op with
  | true=>match zB k .i64 with
   | true=>arith op a b
   | false=>ak9 k op a b
  | false=>match op with
   | .and=>kD (.int k (FU k a b))
   | .or=>kD (.int k (orI k a b))
   | .shr=>mH (0<=b) (.int k (IE k a b))
   | _=>asY op a b)
 | .bool a,.bool b=>Wp cfg t λ ti=>match ti.desc,op with
  | .bool,.eql=>kD (.bool (a==b))
  | .bool,.neq=>kD (.bool (!(a==b)))
  | _,_=>.fail
 | .str a,.str b=>apx op a b
 | .agg cs,.agg cs'=>match look cfg.eqs t with
  | some zs=>match Wi zs cs cs',op with
   | some r,.eql=>kD (.bool r)
   | some r,.neq=>kD (.bool (!r))
   | _,_=>.fail
  | none=>.fail
 | _,_=>.fail
def Yt:List (Nat×Nat)->Nat->Option (Nat×Nat)
 | [],_=>none
 | x::_,0=>some x
 | _::l,n+1=>Yt l n
def Qx (ti:RL) (f:Nat):Option (Nat×Nat):=match ti.desc with
 | .struct fs=>Yt fs f
 | _=>none
def ae3 (fs:List (Nat×Nat)):List (Nat×AV)->aiA->(aiA->Pg)->Pg
 | [],cs,k=>k cs
 | (i,v)::rest,cs,k=>match Yt fs i with
  | some (off,t)=>Wp cfg t λ ti=>NJ v λ vs=>gT (Nat.beq vs.length ti.size) (gT (Nat.ble (off+vs.length) cs.length) (ae3 fs rest (IC off vs cs) k))
  | none=>.fail
def HZ:Nat->AV->aiA->aiA
 | _,_,[]=>[]
 | 0,v,_::l=>v::l
 | n+1,v,x::l=>x::HZ n v l
def aiI (size:Nat) (agg:Bool):List (Nat×AV)->aiA->(aiA->Pg)->Pg
 | [],es,k=>k es
 | (i,v)::rest,es,k=>gT (match agg,v with | true,.agg _=>true | true,_=>false | false,.agg _=>false | false,_=>true)
  (NJ v λ vs=>gT (Nat.beq vs.length size) (gT (Nat.blt i es.length) (aiI size agg rest (HZ i v es) k)))
def zeroOf (ti:RL):AV:=match ti.agg with
 | true=>.agg (AQ ti.zero)
 | false=>nth (AQ ti.zero) 0
def zok (ti:RL):Bool:=match Nat.blt 0 ti.size with
 | true=>match ti.agg with
  | true=>true
  | false=>Nat.beq ti.size 1
 | false=>false
def ajL:Nat->AV->aiA
 | 0,_=>[]
 | n+1,z=>z::ajL n z
def Uo:List (Nat×AV)->(List (Nat×AV)->ahb->Pg)->Pg
 | [],k=>k [] []
 | (i,v)::l,k=>pur fuel v λ v' i1=>Uo l λ l' i2=>k ((i,v')::l') (i1++i2)
def asZ (s:AV) (f:Int->Pg) (k:Pg):Pg:=match s with
 | .int _ n=>f n
 | _=>k
def zf (full:Bool) (n:Nat):Bool:=match full with
 | true=>match n with
  | 0=>true
  | _+1=>false
 | false=>false
def Zn (x:AV) (lo hi:Option AV) (adC acO:Bool):Pg:=
 match lo,hi with
 | none,none=>gT (!adC) (match x with
  | .sl es n full g=>kD (.sl es n full g)
  | .eO o i n full=>kD (.eO o i n full)
  | _=>.fail)
 | none,some (.int _ h)=>gT (!adC||acO) (match x with
  | .sl es n full g=>match zf full n with
   | true=>mH (0<=h/\h<=0) (.sl es 0 true g)
   | false=>mH (0<=h/\h<=n) (.sl es h.toNat acO g)
  | .eO o i n _=>mH (0<=h/\h<=n) (.eO o i h.toNat acO)
  | _=>.fail)
 | some (.int _ l),none=>gT (!adC) (match x with
  | .sl es n full g=>mH (0<=l/\l<=n) (.sl es (n - l.toNat) full (λ j=>g (l.toNat+j)))
  | .eO o i n full=>mH (0<=l/\l<=n) (.eO o (i+l.toNat) (n - l.toNat) full)
  | _=>.fail)
 | some (.int _ l),some (.int _ h)=>gT (!adC||acO) (match x with
  | .sl es n _ g=>mH (0<=l/\l<=h/\h<=n) (.sl es (h.toNat - l.toNat) acO (λ j=>g (l.toNat+j)))
  | .eO o i n _=>mH (0<=l/\l<=h/\h<=n) (.eO o (i+l.toNat) (h.toNat - l.toNat) acO)
  | _=>.fail)
 | _,_=>.fail
def Ga:Option Operand->Option Operand->Bool
 | some (.tmp a),some (.tmp b)=>Nat.beq a b
 | _,_=>false
def ajM (ρ:Operand->AV) (hi mx:Option Operand) (k:Pg):Pg:=
 match mx with
 | none=>k
 | some m=>match hi with
  | none=>.fail
  | some h=>match ρ h,ρ m with
   | .int kk a,.int kk' b=>gT (zB kk kk') (.need (a=b) k)
   | _,_=>.fail
def XR (x:AV) (k:Nat->Nat->(Nat->AV)->Pg):Pg:=
 match x with
 | .sl es n _ g=>k es n g
 | .eO o i n _=>.rd o λ
  | .row es _ g=>k es n (rP i g)
  | _=>.fail
 | _=>.fail
def isZ:Nat->Bool
 | 0=>true
 | _+1=>false
def SK (es n size:Nat):Bool:=match Nat.beq es size with | true=>true | false=>isZ n
def big:Nat:=140737488355328
def cpG (i k:Nat) (g h:Nat->AV):Nat->AV:=λ j=>bif Nat.ble i j&&Nat.blt j (i+k)then h (j - i)else g j
def adE (ti:RL) (d s:AV):Pg:=
 XR s λ es' m h=>gT (SK es' m ti.size) (
 match d with
 | .eO o i n _=>.rd o λ
  | .row es N g=>gT (Nat.beq es ti.size) (.need (i+n+m<=N) (.ret (.eO o i (n+m) false) [(o,some (.row es N (cpG (i+n) m g h)))]))
  | _=>.fail
 | _=>.fail)
def isSelf:AV->AV->Bool
 | .eO o _ _ _,.eO o' _ _ _=>Nat.beq o o'
 | _,_=>false
def alc (o i n N:Nat) (f:Bool) (lo hi mx:Option AV):Pg:=match mx with
 | some (.int _ m)=>match lo,hi with
  | some (.int _ l),some (.int _ h)=>mH (0<=l/\l<=h/\h<=m/\m<=n) .undef
  | none,some (.int _ h)=>mH (0<=h/\h<=m/\m<=0) (.sl 0 0 true fq)
  | _,_=>.fail
 | some _=>.fail
 | none=>match lo,hi with
  | none,none=>kD (.eO o i n f)
  | none,some (.int _ h)=>mH (0<=h/\(i:Int)+h<=N) (.eO o i h.toNat false)
  | some (.int _ l),none=>mH (0<=l/\l<=n) (.eO o (i+l.toNat) (n - l.toNat) f)
  | some (.int _ l),some (.int _ h)=>mH (0<=l/\l<=h/\(i:Int)+h<=N) (.eO o (i+l.toNat) (h.toNat - l.toNat) false)
  | _,_=>.fail
def ae4 (ti:RL) (dY:Nat) (d s:AV):Pg:=
 XR s λ es' m h=>gT (SK es' m ti.size) (
 match d with
 | .sl es n full g=>gT full (match es with
  | 0=>gT (isZ n) (.need (m*ti.bytes<=big) (.ret (.eO dY 0 m false) [(dY,some (.row ti.size m h))]))
  | es1+1=>gT (SK (es1+1) n ti.size) (mH ((n+m)*ti.bytes<=big) (.sl ti.size (n+m) false (appG n g h))))
 | .eO o i n _=>.rd o λ
  | .row es _ g=>gT (Nat.beq es ti.size) (.need ((n+m)*ti.bytes<=big) (.ret (.eO dY 0 (n+m) false) [(dY,some (.row es (n+m) (appG n (rP i g) h))),(o,none)]))
  | _=>.fail
 | _=>.fail)
def ald (ti:RL) (d s:AV):Pg:=
 XR s λ es' m h=>gT (SK es' m ti.size) (
 match d with
 | .eO o i n _=>.rd o λ
  | .row es N g=>gT (Nat.beq es ti.size) (.ret (.int .i64 (Nat.min m n:Nat)) [(o,some (.row es N (cpG i (Nat.min m n) g h)))])
  | _=>.fail
 | _=>.fail)
def BO:ahb->Nat->Nat->Option Nat
 | [],_,_=>none
 | a::l,o,j=>match Nat.beq a o with | true=>some j | false=>BO l o (j+1)
def qx:AV->Bool
 | .undef | .bool _ | .int .. | .str _ | .sl .. | .ro _ | .FT=>true
 | _=>false
def au0:AV->ahb
 | .ptr o _ _=>[o]
 | .eO o _ _ _=>[o]
 | _=>[]
def ae5:aiA->ahb
 | []=>[]
 | v::l=>au0 v++ae5 l
def apy (sg:ahb):ahb->Bool
 | []=>false
 | o::_=>match BO sg o 0 with
  | some _=>true
  | none=>false
def ale (sg:ahb) (v:AV) (k:AV->Pg):Pg:=match v with
 | .ptr o i off=>match BO sg o 0 with
  | some j=>k (.ptr j i off)
  | none=>.fail
 | .eO o i n f=>match BO sg o 0 with
  | some j=>k (.eO j i n f)
  | none=>.fail
 | v=>gT (qx v) (k v)
def ajO (sg:ahb):aiA->(aiA->Pg)->Pg
 | [],k=>k []
 | v::l,k=>ale sg v λ v'=>ajO sg l λ l'=>k (v'::l')
def Qy (sg:ahb) (v:AV) (k:AV->ahb->Pg):Pg:=
 match v with
 | .ptr o i off=>match BO sg o 0 with
  | some j=>k (.ptr j i off) []
  | none=>pur fuel (.ptr o i off) k
 | .eO o i n full=>match BO sg o 0 with
  | some j=>k (.eO j i n full) []
  | none=>pur fuel (.eO o i n full) k
 | .fn f cs=>match apy sg (ae5 cs)with
  | true=>ajO sg cs λ cs'=>k (.fn f cs') []
  | false=>pur fuel (.fn f cs) k
 | v=>pur fuel v k
def IG (sg:ahb):aiA->(aiA->ahb->Pg)->Pg
 | [],k=>k [] []
 | v::l,k=>Qy sg v λ v' i1=>IG sg l λ l' i2=>k (v'::l') (i1++i2)
def aiJ:ahb->(ajN->Pg)->Pg
 | [],k=>k []
 | o::l,k=>.rd o λ ob=>aiJ l λ obs=>k (ob::obs)
def sigma (args:aiA):ahb->ahb
 | []=>[]
 | p::l=>match nth args p with
  | .ptr o _ _=>o::sigma args l
  | .eO o _ _ _=>o::sigma args l
  | .fn _ cs=>ae5 cs++sigma args l
  | _=>sigma args l
def Dn:Nat->ahb->Bool
 | _,[]=>false
 | a,b::l=>match Nat.beq a b with | true=>true | false=>Dn a l
def pz:ahb->Bool
 | []=>true
 | a::l=>match Dn a l with | true=>false | false=>pz l
def ZY:AV->Bool
 | .bool _ | .int .. | .str _=>true
 | _=>false
def adF:aiA->Bool
 | []=>true
 | v::l=>match ZY v with | true=>adF l | false=>false
def Z0:AV->Bool
 | .agg vs=>adF vs
 | v=>ZY v
def adG:aiA->Bool
 | []=>true
 | v::l=>match Z0 v with | true=>adG l | false=>false
def alf:AV->Bool
 | .kP vs=>adG vs
 | v=>Z0 v
def iG:ahb->Nat->Nat
 | [],_=>0
 | a::_,0=>a
 | _::l,n+1=>iG l n
def NM:eD->Bool
 | .map .other [] _=>true
 | _=>false
def apz:eD:=.map .other [] λ _=>none
def gz (x:eD):Option eD:=match NM x with
 | true=>none
 | false=>some x
def Es:ahb->ajN->lK
 | o::l,x::m=>(o,gz x)::Es l m
 | _,_=>[]
def an5 (f:FuncId):FnI:=match look cfg.fns f with | some i=>i | none=>{}
def zC:aiA->Bool
 | []=>true
 | v::l=>match qx v with | true=>zC l | false=>false
def Zo:eD->Bool
 | .box cs=>zC cs
 | .row .. => true
 | .map .. => false
def as0:AV->Bool
 | .agg vs=>zC vs
 | v=>qx v
def NP:ahb->ahb->Bool
 | [],_=>true
 | x::l,m=>match Dn x m with | true=>false | false=>NP l m
def as1:AV->ahb
 | .ptr o _ _=>[o]
 | .eO o _ _ _=>[o]
 | .fn _ cs=>ae5 cs
 | _=>[]
def apA:aiA->ahb
 | []=>[]
 | v::l=>as1 v++apA l
def as2:eD->ahb
 | .box cs=>apA cs
 | _=>[]
def Z4:Nat->ahb->ahb->(ahb->Pg)->Pg
 | 0,_,_,_=>.fail
 | _+1,[],sg,k=>k sg
 | f+1,o::todo,sg,k=>match Dn o sg with
  | true=>Z4 f todo sg k
  | false=>.rd o λ ob=>Z4 f (todo++as2 ob) (sg++[o]) k
def inv1 (sg:ahb) (v:AV) (k:AV->Pg):Pg:=match v with
 | .ptr o i off=>match BO sg o 0 with
  | some j=>k (.ptr j i off)
  | none=>.fail
 | .eO o i n f=>match BO sg o 0 with
  | some j=>k (.eO j i n f)
  | none=>.fail
 | .fn f cs=>ajO sg cs λ cs'=>k (.fn f cs')
 | v=>gT (qx v) (k v)
def an6 (sg:ahb):aiA->(aiA->Pg)->Pg
 | [],k=>k []
 | v::l,k=>inv1 sg v λ v'=>an6 sg l λ l'=>k (v'::l')
def as3 (sg:ahb) (x:eD) (k:eD->Pg):Pg:=match x with
 | .box cs=>an6 sg cs λ cs'=>k (.box cs')
 | .row es n g=>k (.row es n g)
 | .map .. => .fail
def aiK (sg:ahb):ajN->(ajN->Pg)->Pg
 | [],k=>k []
 | x::l,k=>as3 sg x λ x'=>aiK sg l λ l'=>k (x'::l')
def ae6 (sg:ahb):AV->AV
 | .ptr j i off=>.ptr (iG sg j) i off
 | .eO j i n full=>.eO (iG sg j) i n full
 | v=>v
def alg (sg:ahb):aiA->aiA
 | []=>[]
 | v::l=>ae6 sg v::alg sg l
def NQ (sg:ahb):AV->AV
 | .ptr j i off=>.ptr (iG sg j) i off
 | .eO j i n full=>.eO (iG sg j) i n full
 | .fn f cs=>.fn f (alg sg cs)
 | v=>v
def ajP (sg:ahb):aiA->aiA
 | []=>[]
 | v::l=>NQ sg v::ajP sg l
def NR (sg:ahb):AV->AV
 | .agg cs=>.agg (ajP sg cs)
 | v=>NQ sg v
def ae7 (sg:ahb):aiA->aiA
 | []=>[]
 | v::l=>NR sg v::ae7 sg l
def an7 (sg:ahb):AV->AV
 | .kP vs=>.kP (ae7 sg vs)
 | v=>NR sg v
def ab0 (sg:ahb):eD->eD
 | .box cs=>.box (ajP sg cs)
 | .row es n g=>.row es n g
 | .map kd z f=>.map kd z f
def Z5 (sg:ahb):ajN->ajN
 | []=>[]
 | x::l=>ab0 sg x::Z5 sg l
def an8:AV->Bool
 | .ptr .. | .eO .. => true
 | v=>qx v
def okA:aiA->Bool
 | []=>true
 | v::l=>match an8 v with | true=>okA l | false=>false
def alh:AV->Bool
 | .fn _ cs=>okA cs
 | .agg _ | .kP _ | .mref _=>false
 | _=>true
def ali:aiA->Bool
 | []=>true
 | v::l=>match alh v with | true=>ali l | false=>false
def alj:AV->Bool
 | .agg cs=>ali cs
 | v=>alh v
def aiL:aiA->Bool
 | []=>true
 | v::l=>match alj v with | true=>aiL l | false=>false
def as4:AV->Bool
 | .kP vs=>aiL vs
 | v=>alj v
def alk:eD->Bool
 | .box cs=>ali cs
 | .row .. => true
 | .map kd z f=>NM (.map kd z f)
def aiM:ajN->Bool
 | []=>true
 | x::l=>match alk x with | true=>aiM l | false=>false
def lq:Nat->Nat->ahb
 | 0,_=>[]
 | n+1,i=>i::lq n (i+1)
def Zp (dY:Nat) (f:FuncId) (args:aiA) (sg0:ahb):Pg:=
 Z4 40 sg0 [] λ sg=>gT (pz sg) (aiJ sg λ obs=>aiK sg obs λ ajQ=>IG sg args λ args' ids=>gT (NP ids sg)
  (.call f args' ajQ λ r gy=>gT (aiM gy) (gT (Nat.ble gy.length (sg.length+stride)) (gT (as4 r)
    (.ret (an7 (sg++lq (gy.length - sg.length) dY) r) (Es (sg++lq (gy.length - sg.length) dY) (Z5 (sg++lq (gy.length - sg.length) dY) gy)++dead ids))))))
def alm (dY:Nat) (f:FuncId) (args:aiA):Pg:=
 match sigma args (an5 cfg f).muts with
 | []=>match (an5 cfg f).frz with
  | false=>IG [] args λ args' _=>.call f args' [] λ r gy=>match gy with
   | []=>gT (alf r) (kD r)
   | _::_=>.fail
  | true=>Zp dY f args []
 | x::sg=>Zp dY f args (x::sg)
def keyOf:AV->Option qR
 | .str b=>some (.s b)
 | .int .i64 n=>some (.i n)
 | _=>none
def as5 (z:ajY) (n:Int):AV:=match z with
 | [.bool]=>.bool (n != 0)
 | [.int k]=>.int k n
 | _=>.undef
def aqm (z:ajY):AV->Option Int
 | .bool b=>match z with
  | [.bool]=>some (bif b then 1 else 0)
  | _=>none
 | .int k n=>match z with
  | [.int k']=>match decide (k=k')with
   | true=>some n
   | false=>none
  | _=>none
 | _=>none
def adH:ajY->Bool
 | [.bool]=>true
 | [.int _]=>true
 | _=>false
def Dp (f:qR->Option Int) (k:qR):Int:=(f k).getD 0
def Wq (f:qR->Option Int) (k:qR) (n:Int):qR->Option Int:=λ k'=>if k'=k then some n else f k'
def aln (t:TypeId) (k:RL->RL->Pg):Pg:=match look cfg.ty t with
 | some i=>match i.desc with
  | .map kt et=>Wp cfg kt λ ki=>Wp cfg et λ ei=>gT (!ei.agg) (k ki ei)
  | _=>.fail
 | none=>.fail
def Km (d:TD):qR->Bool
 | .s _=>match d with | .str=>true | _=>false
 | .i _=>match d with | .int .i64=>true | _=>false
def Z6:TD->Option (Nat×TypeId)
 | .array n e=>some (n,e)
 | _=>none
def alo (t:TypeId):Option (Nat×TypeId):=match look cfg.ty t with
 | some i=>Z6 i.desc
 | none=>none
def aiN (et sz:Nat):Nat->Nat->List (Nat×Nat)
 | 0,_=>[]
 | n+1,k=>(k*sz,et)::aiN et sz n (k+1)
def as6:AV->Bool
 | .bool b=>b
 | _=>false
def aqn:AV->Int
 | .int _ n=>n
 | _=>0
def au2:AV->ByteArray
 | .str s=>s
 | _=>ByteArray.empty
def slN:AV->Nat
 | .sl _ n _ _=>n
 | _=>0
def slG:AV->Nat->AV
 | .sl _ _ _ g=>g
 | _=>λ _=>.undef
def esA:AV->Nat
 | .sl es _ _ _=>es
 | _=>0
def alp:ajY->Nat->ZK
 | [],_=>.other
 | z::_,0=>z
 | _::l,n+1=>alp l n
def an9 (z:ZK) (es:Nat) (c:AV):Bool:=match z,c with
 | .bool,.bool _=>true
 | .int k,.int k' _=>zB k k'
 | .str,.str _=>true
 | .slice,.sl es' n _ _=>match Nat.beq es' es with
  | true=>true
  | false=>Nat.beq n 0
 | _,_=>false
def aqo (z:ZK) (es:Nat) (c:AV):AV:=match z with
 | .bool=>.bool (as6 c)
 | .int k=>.int k (aqn c)
 | .str=>.str (au2 c)
 | .slice=>.sl es (slN c) false (slG c)
 | _=>.undef
def acP (sz j:Nat):Nat->aiA->Nat
 | _,[]=>0
 | k,c::cs=>match Nat.beq (Nat.mod k sz) j with
  | true=>(λ m=>match Nat.ble (esA c) m with | true=>m | false=>esA c) (acP sz j (k+1) cs)
  | false=>acP sz j (k+1) cs
def aoa (zs:ajY) (sz:Nat) (all:aiA):Nat->aiA->Bool
 | _,[]=>true
 | k,c::cs=>match an9 (alp zs (Nat.mod k sz)) (acP sz (Nat.mod k sz) 0 all) c with
  | true=>aoa zs sz all (k+1) cs
  | false=>false
def ae8 (all:aiA) (b sz:Nat):Nat->ajY->aiA
 | _,[]=>[]
 | j,z::zs=>aqo z (acP sz j 0 all) (nth all (b+j))::ae8 all b sz (j+1) zs
def alq (ei:RL) (n:Nat) (cs:aiA) (i:Int):Pg:=
 gT (zok ei) (gT (Nat.beq cs.length (n*ei.size)) (gT (Nat.beq ei.zero.length ei.size) (gT (aoa ei.zero ei.size cs 0 cs) (mH (0<=i/\i<n) (match ei.agg with
  | true=>.agg (ae8 cs (i.toNat*ei.size) ei.size 0 ei.zero)
  | false=>nth (ae8 cs (i.toNat*ei.size) ei.size 0 ei.zero) 0)))))
def ahe:Nat->ajY->ajY
 | 0,_=>[]
 | n+1,z=>z++ahe n z
def ji:Nat->Nat->(Nat->AV)->aiA
 | 0,_,_=>[]
 | k+1,i,g=>(g i).cells++ji k (i+1) g
def aqp:TD->Bool
 | .str=>true
 | _=>false
def aqr:AV->Bool
 | .int .u8 _=>true
 | _=>false
def u8D:TD->Bool
 | .int .u8=>true
 | _=>false
def Kn:Nat->Nat->(Nat->AV)->ByteArray->ByteArray
 | 0,_,_,s=>s
 | k+1,i,g,s=>Kn k (i+1) g (s.push (UInt8.ofNat (match g i with
  | .int _ n=>n.toNat
  | _=>0)))
def adI (src:TypeId) (x:AV):Pg:=Er cfg src λ ei=>gT (u8D ei.desc) (XR x λ es n g=>gT (SK es n 1) (.need (∀i,i<n->aqr (g i)=true) (kD (.str (Kn n 0 g ByteArray.empty)))))
def alr (o n:Nat) (lo hi:Option AV):Pg:=
 match lo,hi with
 | none,none=>kD (.eO o 0 n true)
 | none,some (.int _ h)=>mH (0<=h/\h<=n) (.eO o 0 h.toNat false)
 | _,_=>.fail
def iA (b:ByteArray) (i:Nat):Int:=match b[i]? with
 | some x=>x.toNat
 | none=>0
def aqs (dY:Nat) (t t':TypeId) (d:AV) (k:Int):Pg:=Wp cfg t' λ ti'=>Er cfg t λ ti=>match ti'.desc,d with
 | .int _,.sl _ n full _=>gT (zf full n) (gT (Nat.blt 0 ti.size) (gT (Nat.blt 0 ti.bytes) (gT (zok ti) (.need (0<k/\k*ti.bytes<=big) (.ret (.eO dY 0 k.toNat false) [(dY,some (.row ti.size k.toNat (λ _=>zeroOf ti)))])))))
 | _,_=>.fail
def iw (dY:Nat) (op:Op) (ρ:Operand->AV):Pg:=
 match op with
 | .move x=>kD (ρ x)
 | .assign x=>kD (ρ x)
 | .pick c a b=>ahd (ρ c) a b (ρ a) (ρ b)
 | .alloc e=>Wp cfg e λ ti=>match Z6 ti.desc with
  | some (n,et)=>Wp cfg et λ ei=>gT (zok ei) (gT (Nat.blt 0 n) (gT (decide (ti.zero=ahe n ei.zero)) (.ret (.ptr dY 0 0) [(dY,some (.row ei.size n (λ _=>zeroOf ei)))])))
  | none=>.ret (.ptr dY 0 0) [(dY,some (.box (AQ ti.zero)))]
 | .box _ x=>NJ (ρ x) λ cs=>.ret (.ptr dY 0 0) [(dY,some (.box cs))]
 | .build t parts=>Wp cfg t λ ti=>match ti.desc with
  | .struct fs=>ae3 cfg fs (parts.toList.map λ p=>(p.1,ρ p.2)) (AQ ti.zero) λ cs=>kD (.agg cs)
  | .array n et=>Wp cfg et λ ei=>ae3 cfg (aiN et ei.size n 0) (parts.toList.map λ p=>(p.1,ρ p.2)) (AQ ti.zero) λ cs=>kD (.agg cs)
  | _=>.fail
 | .buildSlice t len parts=>Er cfg t λ ti=>gT (zok ti) (gT (Nat.ble (len*ti.size) 4096) (Uo (parts.toList.map λ p=>(p.1,ρ p.2)) λ ps ids=>
   aiI ti.size ti.agg ps (ajL len (zeroOf ti)) λ es=>
   .ret (.eO dY 0 len true) ((dY,some (.row ti.size len (XQ es)))::dead ids)))
 | .load t a=>Wp cfg t λ ti=>match ρ a with
  | .ptr o i off=>.rd o λ
   | .box cs=>BN ti (cs.drop off)
   | .row es n g=>match Z6 ti.desc with
    | some _=>gT (isZ i&&isZ off) (BN ti (ji n 0 g))
    | none=>gT (Nat.ble (off+ti.size) es) (BN ti ((g i).cells.drop off))
   | .map .. => .fail
  | .ro cs=>BN ti cs
  | _=>.fail
 | .store t a x=>Wp cfg t λ ti=>match ρ a with
  | .ptr o i off=>.rd o λ
   | .box cs=>NJ (ρ x) λ vs=>gT (Nat.beq vs.length ti.size) (gT (Nat.ble (off+vs.length) cs.length) (.ret .undef [(o,some (.box (IC off vs cs)))]))
   | .row es n g=>match Z6 ti.desc with
    | some _=>pur fuel (ρ x) λ x' ids=>gT (!Dn o ids) (NJ x' λ vs=>gT (Nat.beq vs.length ti.size) (gT (Nat.beq es 1) (gT (Nat.beq n ti.size) (gT (isZ i&&isZ off) (.ret .undef ((o,some (.row 1 n (XQ vs)))::dead ids))))))
    | none=>pur fuel (ρ x) λ x' ids=>gT (!Dn o ids) (NJ x' λ vs=>gT (Nat.beq vs.length ti.size) (gT (Nat.blt 0 ti.size) (gT (Nat.ble (off+vs.length) es)
     (.ret .undef ((o,some (.row es n (ae1 g i (match isZ off&&Nat.beq vs.length es with
       | true=>x'
       | false=>match g i with
        | .agg cs=>.agg (IC off vs cs)
        | _=>x'))))::dead ids)))))
   | .map .. => .fail
  | _=>.fail
 | .nilCheck x=>match ρ x with
  | .ptr o i off=>.rd o λ _=>kD (.ptr o i off)
  | .ro cs=>kD (.ro cs)
  | .fn f cs=>kD (.fn f cs)
  | _=>.fail
 | .binOp op t x y _=>alb cfg op t (ρ x) (ρ y)
 | .unOp op _ x=>match op,ρ x with
  | .not,.bool b=>kD (.bool (!b))
  | .neg,.int k n=>gT (zB k .i64) (mH (aC (-n)) (.int .i64 (-n)))
  | _,_=>.fail
 | .convert src dst x=>Wp cfg src λ _=>Wp cfg dst λ ti=>match aqp ti.desc with
  | true=>adI cfg src (ρ x)
  | false=>match ti.desc,ρ x with
   | .int k,.int _ n=>kD (.int k (k.wrap n))
   | _,_=>.fail
 | .makeFunc fn first captured=>match fn,first.toList with
  | .func f,[]=>kD (.fn f (captured.toList.map ρ))
  | _,_=>.fail
 | .makeSlice t l c=>Er cfg t λ ti=>match ρ l with
  | .int _ n=>match Ga (some l) (some c)with
   | true=>gT (Nat.blt 0 ti.bytes) (gT (zok ti) (.need (0<=n/\n*ti.bytes<=big) (.ret (.eO dY 0 n.toNat true) [(dY,some (.row ti.size n.toNat (λ _=>zeroOf ti)))])))
   | false=>match ρ c with
    | .int _ k=>gT (Nat.blt 0 ti.bytes) (gT (zok ti) (.need (n=0/\0<=k/\k*ti.bytes<=big) (.ret (.eO dY 0 0 false) [(dY,some (.row ti.size 0 fq))])))
    | _=>.fail
  | _=>.fail
 | .slice t x lo hi mx=>match alo cfg t with
  | some (n,et)=>Wp cfg et λ ei=>gT mx.isNone (match ρ x with
   | .ptr o i off=>.rd o λ
    | .row es n' _=>gT (isZ i&&isZ off) (gT (Nat.beq es ei.size) (gT (Nat.beq n' n) (alr o n (lo.map ρ) (hi.map ρ))))
    | _=>.fail
   | _=>.fail)
  | none=>match ρ x with
  | .eO o i n f=>Er cfg t λ ti=>.rd o λ
   | .row es N _=>gT (Nat.beq es ti.size) (alc o i n N f (lo.map ρ) (hi.map ρ) (mx.map ρ))
   | _=>.fail
  | _=>ajM ρ hi mx<|Er cfg t λ ti=>match ρ x with
   | .sl es n f g=>gT (SK es n ti.size) (Zn (.sl es n f g) (lo.map ρ) (hi.map ρ) mx.isSome mx.isSome)
   | .eO o i n f=>.rd o λ
    | .row es _ _=>gT (Nat.beq es ti.size) (Zn (.eO o i n f) (lo.map ρ) (hi.map ρ) mx.isSome mx.isSome)
    | _=>.fail
   | _=>.fail
 | .fieldAddr s x f=>Wp cfg s λ ts=>match Qx ts f with
  | some (o,t)=>Wp cfg t λ ti=>gT (Nat.blt 0 ti.size) (match ρ x with
   | .ptr ob i off=>.rd ob λ _=>kD (.ptr ob i (off+o))
   | .ro cs=>kD (.ro (cs.drop o))
   | _=>.fail)
  | none=>.fail
 | .field s x f=>Wp cfg s λ ts=>match Qx ts f with
  | some (o,t)=>Wp cfg t λ ti=>match ρ x with
   | .agg cs=>BN ti (cs.drop o)
   | _=>.fail
  | none=>.fail
 | .indexAddr t x ix=>match alo cfg t with
  | some (n,et)=>Wp cfg et λ ei=>match ρ ix,ρ x with
   | .int _ i,.ptr o j off=>.rd o λ
    | .row es n' _=>gT (isZ j&&isZ off) (gT (Nat.beq es ei.size) (gT (Nat.beq n' n) (mH (0<=i/\i<n) (.ptr o i.toNat 0))))
    | _=>.fail
   | _,_=>.fail
  | none=>Er cfg t λ ti=>match ρ ix with
  | .int _ i=>match ρ x with
   | .sl es n _ g=>gT (SK es n ti.size) (mH (0<=i/\i<n) (.ro (g i.toNat).cells))
   | .eO o j n _=>.rd o λ
    | .row es _ _=>gT (Nat.beq es ti.size) (mH (0<=i/\i<n) (.ptr o (addN j i.toNat) 0))
    | _=>.fail
   | _=>.fail
  | _=>.fail
 | .index t x ix=>Wp cfg t λ ti=>match ti.desc,ρ x,ρ ix with
  | .str,.str b,.int _ i=>mH (0<=i/\i<b.size) (.int .u8 (iA b i.toNat))
  | .array n et,.agg cs,.int _ i=>Wp cfg et λ ei=>alq ei n cs i
  | _,_,_=>.fail
 | .makeMap t none=>aln cfg t λ ki ei=>.ret (.mref dY) [(dY,some (.map ki.desc ei.zero λ _=>none))]
 | .lookup t x ix false=>aln cfg t λ ki ei=>match ρ x,keyOf (ρ ix)with
  | .mref o,some k=>gT (Km ki.desc k) (.rd o λ
   | .map kd z f=>gT (decide (kd=ki.desc)) (gT (decide (z=ei.zero)) (gT (adH z) (kD (as5 z (Dp f k)))))
   | _=>.fail)
  | _,_=>.fail
 | .mapUpdate t x ix y=>aln cfg t λ ki ei=>match ρ x,keyOf (ρ ix),aqm ei.zero (ρ y)with
  | .mref o,some k,some n=>gT (Km ki.desc k) (.rd o λ
   | .map kd z f=>gT (decide (kd=ki.desc)) (gT (decide (z=ei.zero)) (gT (adH z) (.ret .undef [(o,some (.map kd z (Wq f k n)))])))
   | _=>.fail)
  | _,_,_=>.fail
 | .extract t i=>match ρ t with
  | .kP vs=>gT (Nat.blt i vs.length) (kD (nth vs i))
  | _=>.fail
 | .call c=>match c.callee with
  | .builtin .len=>match c.args.toList.map ρ,c.argTypes.toList with
   | [v],[t]=>Wp cfg t λ ti=>match v,ti.desc with
    | .sl _ n _ _,.slice _=>kD (.int .i64 n)
    | .eO o _ n _,.slice _=>.rd o λ _=>kD (.int .i64 n)
    | .str s,.str=>kD (.int .i64 s.size)
    | _,_=>.fail
   | _,_=>.fail
  | .builtin .cap=>match c.args.toList.map ρ,c.argTypes.toList with
   | [.sl _ n true _],[t]=>Wp cfg t λ ti=>match ti.desc with
    | .slice _=>kD (.int .i64 n)
    | _=>.fail
   | _,_=>.fail
  | .builtin .append=>match c.args.toList.map ρ,c.argTypes.toList with
   | [d,s],[t,t']=>asZ s (aqs cfg dY t t' d)
    (Er cfg t' λ _=>Er cfg t λ ti=>gT (Nat.blt 0 ti.size) (gT (Nat.blt 0 ti.bytes) (match isSelf d s with | true=>adE ti d s | false=>ae4 ti dY d s)))
   | _,_=>.fail
  | .builtin .copy=>match c.args.toList.map ρ,c.argTypes.toList with
   | [d,s],[t,t']=>Er cfg t' λ _=>Er cfg t λ ti=>gT (Nat.blt 0 ti.size) (ald ti d s)
   | _,_=>.fail
  | .builtin .clear=>match c.args.toList.map ρ,c.argTypes.toList with
   | [.eO o i n _],[t]=>Er cfg t λ ti=>gT (zok ti) (.rd o λ
    | .row es N g=>gT (Nat.beq es ti.size) (.ret .undef [(o,some (.row es N (cpG i n g (λ _=>zeroOf ti))))])
    | _=>.fail)
   | _,_=>.fail
  | .builtin .min=>match c.args.toList.map ρ with
   | [.int k a,.int _ b]=>kD (.int k (if b<a then b else a))
   | _=>.fail
  | .builtin .max=>match c.args.toList.map ρ with
   | [.int k a,.int _ b]=>kD (.int k (if b > a then b else a))
   | _=>.fail
  | .builtin _=>.fail
  | .value f=>match ρ f with
   | .fn g caps=>alm cfg dY g (c.args.toList.map ρ++caps)
   | _=>.fail
  | .invoke _ _=>.fail
 | _=>.fail
def Zq (T:Nat->AV):Operand->AV
 | .tmp t=>T t
 | .const v=>ofConst v
 | .global g=>match look cfg.glob g with | some cs=>.ro cs | none=>.undef
 | .func f=>.fn f []
end ops
abbrev oZ:=FuncId->aiA->ajN->AV->ajN->Prop
structure Log where
 AU:ahb
 wrs:ahb
structure St where
 tmps:List (Nat×AV)
 heap:lK
 nx:Nat
abbrev PC:=List (Bool×Bool)
def ajR:PC->Prop->(Prop->Prop)->Prop
 | [],p,K=>K p
 | (c,b)::l,p,K=>ajR l (c=b->p) K
section run
variable (cfg:y9) (Sp:oZ)
def ids:lK->ahb
 | []=>[]
 | (o,_)::l=>o::ids l
def ev (pc:PC) (H:Nat->Option eD):Pg->ahb->(AV->lK->ahb->Prop)->Prop
 | .ret v ups,AU,K=>force v λ v'=>Ep ups λ wT=>K v' wT AU
 | @Pg.need p _ k,AU,K=>ajR pc p λ p'=>p'/\ev pc H k AU K
 | .rd o k,AU,K=>match H o with
  | some x=>ev pc H (k x) (o::AU) K
  | none=>ajR pc False λ p'=>p'/\K .undef [] AU
 | .call f args obs k,AU,K=>∃r gy,ajR pc (Sp f args obs r gy) λ p'=>p'/\ev pc H (k r gy) AU K
 | .fail,AU,K=>ajR pc False λ p'=>p'/\K .undef [] AU
def aiO:Op->Bool
 | .move _ | .assign _ | .pick .. | .build .. | .load .. | .nilCheck _ | .binOp .. | .unOp .. | .convert .. | .makeFunc .. | .slice .. | .fieldAddr .. | .field .. | .indexAddr .. | .index .. | .lookup .. | .extract .. => true
 | .call c=>match c.callee with
  | .builtin .len | .builtin .min | .builtin .max=>true
  | .value (.func f)=>match (an5 cfg f).muts,(an5 cfg f).frz with | [],false=>true | _,_=>false
  | _=>false
 | _=>false
def Z7 (c:Bool) (A B:Prop):Prop:=match c with | true=>A | false=>B
def acQ:List Oper->Nat->Option Oper
 | [],_=>none
 | o::_,0=>some o
 | _::l,n+1=>acQ l n
def XT (all:List Oper) (j:Nat):Option Nat:=match acQ all j with
 | some o=>o.dst
 | none=>none
def als (ups H:lK) (K:lK->Prop):Prop:=
 match ups with
 | []=>K H
 | u::l=>als l H λ H'=>K (u::H')
def alu (dst:Option Nat) (v u:AV) (T U:List (Nat×AV)) (K:List (Nat×AV)->List (Nat×AV)->Prop):Prop:=
 match dst with
 | some d=>K ((d,v)::T) ((d,u)::U)
 | none=>K T U
def NS:List PC->Nat->PC
 | [],_=>[]
 | p::_,0=>p
 | _::l,n+1=>NS l n
def ahg:List PC->Nat->(PC->Prop)->Prop
 | [],_,K=>K []
 | p::_,0,K=>K p
 | _::l,n+1,K=>ahg l n K
def SL:List PC->PC->(List PC->Prop)->Prop
 | [],p,K=>K [p]
 | q::l,p,K=>SL l p λ l'=>K (q::l')
def isNone {α:Type}:Option α->Bool
 | none=>true
 | some _=>false
def ae9 (all:List Oper) (nx:Nat):List Oper->Nat->List (Nat×AV)->List (Nat×AV)->lK->List PC->List Log->(St->List Log->Prop)->Prop
 | [],i,_,U,H,_,log,K=>K ⟨U,H,nx+stride*i⟩ log
 | o::rest,i,T,U,H,pcs,log,K=>
  match o.guard with
  | none=>ev Sp [] (hget H) (iw cfg (nx+stride*i) o.op (Zq cfg (iY T))) [] λ v ups AU=>
    alu o.dst v v T U λ T' U'=>als ups H λ H'=>SL pcs [] λ ahh=>ae9 all nx rest (i+1) T' U' H' ahh (⟨AU,ids ups⟩::log) K
  | some (j,b)=>match XT all j with
   | some d=>match iY T d with
    | .bool c=>match aiO cfg o.op with
     | true=>ahg pcs j λ pcj=>ev Sp ((c,b)::pcj) (hget H) (iw cfg (nx+stride*i) o.op (Zq cfg (iY T))) [] λ v ups AU=>
      match ups with
      | []=>alu o.dst v .undef T U λ T' U'=>SL pcs ((c,b)::pcj) λ ahh=>ae9 all nx rest (i+1) T' U' H ahh (⟨AU,[]⟩::log) K
      | _::_=>False
     | false=>match NS pcs j with
      | []=>Z7 (c==b)
       (ev Sp [] (hget H) (iw cfg (nx+stride*i) o.op (Zq cfg (iY T))) [] λ v ups AU=>
         alu o.dst v v T U λ T' U'=>als ups H λ H'=>SL pcs [] λ ahh=>ae9 all nx rest (i+1) T' U' H' ahh (⟨AU,ids ups⟩::log) K)
       (alu o.dst .undef .undef T U λ T' U'=>SL pcs [(c,b)] λ ahh=>ae9 all nx rest (i+1) T' U' H ahh (⟨[],[]⟩::log) K)
      | _::_=>False
    | _=>False
   | none=>False
def Z8 (all:List Oper) (i:Nat):Option (Nat×Bool):=match acQ all i with
 | some o=>o.guard
 | none=>none
def chain (all:List Oper):Nat->Option (Nat×Bool)->List (Nat×Bool)
 | 0,_=>[]
 | _+1,none=>[]
 | f+1,some (j,b)=>(j,b)::chain all f (Z8 all j)
def aiP (d:Option Nat) (t:Nat):Bool:=match d with
 | some x=>Nat.beq x t
 | none=>false
def wo (t:Nat):List Oper->Nat->ahb
 | [],_=>[]
 | o::l,i=>match aiP o.dst t with
  | true=>i::wo t l (i+1)
  | false=>wo t l (i+1)
def writers (all:List Oper) (t:Nat):ahb:=wo t all 0
def Zr (all:List Oper):ahb->Bool
 | []=>true
 | i::l=>match Z8 all i with
  | none=>Zr all l
  | some _=>false
def eqB:Bool->Bool->Bool
 | true,true=>true
 | false,false=>true
 | _,_=>false
def aob (j:Nat) (b:Bool):List (Nat×Bool)->Bool
 | []=>false
 | (j',b')::l=>match Nat.beq j j',eqB b b' with
  | true,true=>true
  | _,_=>aob j b l
def adJ (all:List Oper) (k:Nat) (g:Option (Nat×Bool)) (t:Nat):Bool:=
 match writers all t with
 | [i]=>match Z8 all i with
  | none=>true
  | some (j,b)=>match Nat.blt i k with
   | true=>aob j b (chain all 20 g)
   | false=>false
 | l=>Zr all l
def aiQ (all:List Oper) (k:Nat) (g:Option (Nat×Bool)) (c:Operand) (pol:Bool) (x:Operand):Bool:=
 match x with
 | .tmp t=>match adJ all k g t with
  | true=>true
  | false=>match c,writers all t with
   | .tmp ct,[i]=>match Z8 all i,writers all ct,Nat.blt i k with
    | some (j,b),[jc],true=>match Nat.beq j jc,Nat.blt jc k with
     | true,true=>eqB b pol
     | _,_=>false
    | _,_,_=>false
   | _,_=>false
 | _=>true
def Qz (all:List Oper) (k:Nat) (g:Option (Nat×Bool)):Operand->Bool
 | .tmp t=>adJ all k g t
 | _=>true
def Ko (all:List Oper) (k:Nat) (g:Option (Nat×Bool)):List Operand->Bool
 | []=>true
 | x::l=>match Qz all k g x with
  | true=>Ko all k g l
  | false=>false
def afa (all:List Oper) (k:Nat) (o:Oper):Bool:=
 match (match o.guard with
  | none=>true
  | some (j,_)=>match Nat.blt j k with
   | true=>match XT all j with
    | some d=>match writers all d with
         | [j']=>Nat.beq j' j
         | _=>false
    | none=>false
   | false=>false)with
 | true=>match o.op with
  | .pick c x y=>match Qz all k o.guard c,aiQ all k o.guard c true x with
   | true,true=>aiQ all k o.guard c false y
   | _,_=>false
  | op=>Ko all k o.guard op.operands.toList
 | false=>false
def tC (N:Nat) (all:List Oper):List Oper->Nat->Bool
 | [],_=>true
 | o::l,k=>match afa all k o,(match o.dst with | some d=>Nat.blt d N | none=>true)with
  | true,true=>tC N all l (k+1)
  | _,_=>false
def before (all:List Oper):Nat->Nat->Nat->Bool
 | 0,_,_=>false
 | f+1,i,j=>match acQ all j with
  | some o=>o.after.toList.any λ e=>Region.binds .any e&&Nat.blt e.on j&&(Nat.beq e.on i||before all f i e.on)
  | none=>false
def looks (all:List Oper) (o:Oper):ahb:=
 (o.op.operands.toList.filterMap λ | .tmp t=>some t | _=>none)++(match o.guard with | some (j,_)=>(XT all j).toList | none=>[])
def isIn (d:Option Nat) (l:ahb):Bool:=match d with
 | some x=>Dn x l
 | none=>false
def Z9 (all:List Oper) (x y:Oper):Bool:=!isIn x.dst (looks all y)&&!isIn y.dst (looks all x)&&!isIn x.dst y.dst.toList
def NT (all:List Oper) (j:Nat) (oj:Oper):List Oper->Nat->Bool
 | [],_=>true
 | o::l,i=>match Nat.blt i j with
  | true=>(Z9 all o oj||before all 40 i j)&&NT all j oj l (i+1)
  | false=>true
def adK (o:Oper) (k:Nat):Bool:=o.after.toList.all λ e=>!Region.binds .any e||Nat.blt e.on k
def Ws (all:List Oper):List Oper->Nat->Bool
 | [],_=>true
 | o::l,j=>adK o j&&NT all j o all 0&&Ws all l (j+1)
def alv (N:Nat) (all:List Oper) (draw:Bool):Bool:=tC N all all 0&&(!draw||Ws all all 0)
def jq (N:Nat):Code->Bool
 | .region _ ops draw=>alv N ops.toList draw
 | .seq a b=>jq N a&&jq N b
 | .cond _ a b=>jq N a&&jq N b
 | .block _ a=>jq N a
 | .loop a=>jq N a
 | .rangeFunc _ _ a b=>jq N a&&jq N b
 | .skip | .exit _ | .ret=>true
 | _=>false
def meets (l m:ahb):Bool:=match l with
 | []=>false
 | x::l'=>match Dn x m with
  | true=>true
  | false=>meets l' m
def Wt (all:List Oper) (j:Nat) (x:Log):List Log->Nat->Bool
 | [],_=>true
 | _::_,0=>true
 | y::l,i+1=>match meets x.wrs y.AU,meets y.wrs x.AU,meets y.wrs x.wrs with
  | false,false,false=>Wt all j x l i
  | _,_,_=>match before all 40 i j with
   | true=>Wt all j x l i
   | false=>false
def Ki (all:List Oper):List Log->Nat->Bool
 | [],_=>true
 | _::_,0=>true
 | x::l,j+1=>match Wt all j x l j with
  | true=>Ki all l j
  | false=>false
def Zt:Code->Nat
 | .region id _ _=>id
 | .seq a _=>Zt a
 | .block _ a=>Zt a
 | .loop a=>Zt a
 | _=>1000000
def lN (ct:ahb) (L:Code->St->(Exit->St->Prop)->Prop):Code->St->(Exit->St->Prop)->Prop
 | .skip,s,K=>K .normal s
 | .region _ ops draw,⟨T,H,nx⟩,K=>ae9 cfg Sp ops.toList nx ops.toList 0 T T H [] [] λ s' log=>
  match draw with
  | true=>match Ki ops.toList log ops.toList.length with
   | true=>K .normal s'
   | false=>False
  | false=>K .normal s'
 | .seq a b,s,K=>match Dn (Zt b) ct with
  | true=>L (.seq a b) s K
  | false=>lN ct L a s λ e s'=>match e with
   | .normal=>lN ct L b s' K
   | e=>K e s'
 | .cond c x y,s,K=>match Zq cfg (iY s.tmps) c with
  | .bool b=>Z7 b (lN ct L x s K) (lN ct L y s K)
  | _=>False
 | .block id c,s,K=>lN ct L c s λ e s'=>match e with
  | .exit i=>match Nat.beq i id with
   | true=>K .normal s'
   | false=>K (.exit i) s'
  | e=>K e s'
 | .loop c,s,K=>L (.loop c) s K
 | .rangeFunc g ps a b,s,K=>L (.rangeFunc g ps a b) s K
 | .exit id,s,K=>K (.exit id) s
 | .ret,s,K=>K .ret s
 | _,_,_=>False
end run
inductive Le:AV->AV->Prop
 | refl (v:AV):Le v v
 | sl {es es' n n':Nat} {f f':Bool} {g g':Nat->AV} (hn:n=n') (he:n≠0->es=es') (hf:f'=true->f=true) (h:∀i,i<n->Le (g i) (g' i)):Le (.sl es n f g) (.sl es' n' f' g')
 | ro {cs cs':aiA} (hl:cs.length=cs'.length) (h:∀j,j<cs.length->Le (nth cs j) (nth cs' j)):Le (.ro cs) (.ro cs')
 | agg {cs cs':aiA} (hl:cs.length=cs'.length) (h:∀j,j<cs.length->Le (nth cs j) (nth cs' j)):Le (.agg cs) (.agg cs')
 | kP {cs cs':aiA} (hl:cs.length=cs'.length) (h:∀j,j<cs.length->Le (nth cs j) (nth cs' j)):Le (.kP cs) (.kP cs')
 | fn {f:FuncId} {cs cs':aiA} (hl:cs.length=cs'.length) (h:∀j,j<cs.length->Le (nth cs j) (nth cs' j)):Le (.fn f cs) (.fn f cs')
def SN:aiA->aiA->Prop
 | [],[]=>True
 | u::l,v::m=>Le u v/\SN l m
 | _,_=>False
def LeO:eD->eD->Prop
 | .box cs,.box cs'=>SN cs cs'
 | .row es n g,.row es' n' g'=>es=es'/\n=n'/\∀i,i<n->Le (g i) (g' i)
 | _,_=>False
def aqu:ajN->ajN->Prop
 | [],[]=>True
 | x::l,y::m=>LeO x y/\aqu l m
 | _,_=>False
def uL (ρ:List (Nat×Option Nat)) (o:Nat):Option Nat:=match look ρ o with
 | some x=>x
 | none=>some o
def aac (H:lK) (o:Nat):Bool:=match hget H o with
 | some _=>true
 | none=>false
def nG (ρ:List (Nat×Option Nat)) (H':lK):Nat->AV->AV->Prop
 | 0,_,_=>False
 | f+1,u,v=>match v with
  | .undef=>True
  | .bool b'=>match u with | .bool b=>b=b' | _=>False
  | .int k' n'=>match u with | .int k n=>k=k'/\n=n' | _=>False
  | .str s'=>match u with | .str s=>s=s' | _=>False
  | .FT=>match u with | .FT=>True | _=>False
  | .mref o'=>match u with | .mref o=>aac H' o'=true/\uL ρ o'=some o | _=>False
  | .sl es' n' f' g'=>match u with
   | .sl es n fu g=>n=n'/\(n≠0->es=es')/\(f'=true->fu=true)/\∀i,i<n->Le (g i) (g' i)
   | _=>False
  | .ro cs'=>match u with | .ro cs=>SN cs cs' | _=>False
  | .ptr o' i' off'=>match u with
   | .ptr o i off=>aac H' o'=true/\uL ρ o'=some o/\i=i'/\off=off'
   | _=>False
  | .eO o' i' n' f'=>match u with
   | .eO o i n fu=>aac H' o'=true/\uL ρ o'=some o/\i=i'/\n=n'/\(f'=true->fu=true)
   | .sl _ n fu _=>aac H' o'=true/\uL ρ o'=none/\fu=true/\n=0/\i'=0/\n'=0
   | _=>False
  | .agg cs'=>match u with | .agg cs=>Uq f cs cs' | _=>False
  | .fn f' cs'=>match u with | .fn fu cs=>fu=f'/\Uq f cs cs' | _=>False
  | .kP cs'=>match u with | .kP cs=>Uq f cs cs' | _=>False
 where
 Uq:Nat->aiA->aiA->Prop
  | 0,_,_=>False
  | _+1,[],[]=>True
  | f+1,u::l,v::m=>nG ρ H' f u v/\Uq f l m
  | _+1,_,_=>False
def aqv (ρ:List (Nat×Option Nat)) (H':lK) (T:List (Nat×AV)):List (Nat×AV)->Prop
 | []=>True
 | (t,v)::l=>nG ρ H' fuel (iY T t) v/\aqv ρ H' T l
def afb (ρ:List (Nat×Option Nat)) (H':lK) (x y:eD):Prop:=
 match x,y with
 | .box cs,.box cs'=>nG.Uq ρ H' fuel cs cs'
 | .row es n g,.row es' n' g'=>es=es'/\n=n'/\∀i,i<n->Le (g i) (g' i)
 | .map kd z f,.map kd' z' f'=>kd=kd'/\z=z'/\f=f'
 | _,_=>False
def alx (ρ:List (Nat×Option Nat)) (H' H:lK):lK->Prop
 | []=>True
 | (_,none)::l=>alx ρ H' H l
 | (o',some y)::l=>(match uL ρ o' with
  | some o=>match hget H o with
   | some x=>afb ρ H' x y
   | none=>False
  | none=>match y with
   | .row _ n _=>n=0
   | _=>False)/\alx ρ H' H l
def aad (ρ:List (Nat×Option Nat)):lK->ahb
 | []=>[]
 | (_,none)::l=>aad ρ l
 | (o',some _)::l=>match uL ρ o' with
  | some o=>o::aad ρ l
  | none=>aad ρ l
def SQ (m nx:Nat) (ρ:List (Nat×Option Nat)):lK->Bool
 | []=>true
 | (o',_)::l=>match Nat.blt o' nx with
  | true=>match uL ρ o' with
   | some o=>match Nat.beq o o' with
    | true=>SQ m nx ρ l
    | false=>match Nat.ble m o' with
     | true=>SQ m nx ρ l
     | false=>false
   | none=>match Nat.ble m o' with
    | true=>SQ m nx ρ l
    | false=>false
  | false=>false
def apC:lK->Bool
 | []=>true
 | (o,_)::l=>match look l o with
  | some _=>false
  | none=>apC l
def ahi (m:Nat) (ρ:List (Nat×Option Nat)) (s':St):Bool:=
 match SQ m s'.nx ρ s'.heap,pz (aad ρ s'.heap),apC s'.heap with
 | true,true,true=>Nat.ble m s'.nx
 | _,_,_=>false
structure Emb (m:Nat) (ρ:List (Nat×Option Nat)) (s s':St):Prop where
 Ki:ahi m ρ s'=true
 tmps:aqv ρ s'.heap s.tmps s'.tmps
 heap:alx ρ s'.heap s.heap s'.heap
def upTo:Nat->Nat->ahb
 | 0,_=>[]
 | n+1,i=>i::upTo n (i+1)
def Lp (cfg:y9) (s:St):List ResultVar->Option aiA
 | []=>some []
 | .tmp t::l=>match Lp cfg s l with
  | some vs=>some (iY s.tmps t::vs)
  | none=>none
 | .cell ad ty::l=>match Lp cfg s l,iY s.tmps ad,look cfg.ty ty with
  | some vs,.ptr o 0 0,some ti=>match hget s.heap o with
   | some (.box cs)=>match ti.agg with
    | true=>match Nat.ble ti.size cs.length with
     | true=>some (.agg (cs.take ti.size)::vs)
     | false=>none
    | false=>match cs with
     | c::_=>some (c::vs)
     | []=>none
   | some (.row _ n g)=>match Z6 ti.desc,ti.agg with
    | some _,true=>match ji n 0 g with
     | cs=>match Nat.ble ti.size cs.length with
      | true=>some (.agg (cs.take ti.size)::vs)
      | false=>none
    | _,_=>none
   | _=>none
  | _,_,_=>none
def oneOf:aiA->AV
 | [v]=>v
 | vs=>.kP vs
def adL (m:Nat) (r:AV):AV->ahb
 | .ptr o _ _=>match Nat.ble m o with
  | true=>[o]
  | false=>[]
 | .eO o _ _ _=>match r with
  | .eO .. => match Nat.ble m o with
   | true=>[o]
   | false=>[]
  | _=>[]
 | _=>[]
def aae (H:lK):ahb->ajN->Prop
 | [],[]=>True
 | o::l,y::ys=>(match hget H o with
  | some x=>match Zo x with
   | true=>afb [] [] x y
   | false=>False
  | none=>False)/\aae H l ys
 | _,_=>False
def Kq (cfg:y9) (Sp:oZ) (rs:List ResultVar) (m:Nat) (r:AV) (gy:ajN) (e:Exit) (s:St):Prop:=
 match (match e with | .normal=>true | .ret=>true | _=>false)with
 | true=>match Lp cfg s rs with
  | some vs=>match oneOf vs with
   | v=>match upTo m 0++adL m r v with
    | sg=>ev Sp [] (hget s.heap) (Qy sg v λ v' ids=>gT (pz sg) (gT (NP ids sg) (kD v'))) [] λ v' _ _=>nG [] (pE gy 0) fuel v' r/\aae s.heap sg gy
  | none=>False
 | false=>False
 where pE:ajN->Nat->lK
 | [],_=>[]
 | x::l,i=>(i,some x)::pE l (i+1)
def aaf:ajN->Nat->lK
 | [],_=>[]
 | x::l,i=>(i,gz x)::aaf l (i+1)
def Lr:aiA->Nat->List (Nat×AV)
 | [],_=>[]
 | v::l,i=>(i,v)::Lr l (i+1)
end Go.Ab
namespace Go.Ab
inductive iH (w:World) (I:Nat->Prop):AV->Value->Prop
 | undef (x:Value):iH w I .undef x
 | bool (b:Bool):iH w I (.bool b) (.bool b)
 | int (k:IntKind) (n:Int):iH w I (.int k n) (.int k n)
 | str (s:ByteArray):iH w I (.str s) (.string s)
 | FT:iH w I .FT (.pointer none)
 | sl {es n:Nat} {full:Bool} {g:Nat->AV} {a:Option Addr} {cap:Nat} (b off:Nat) (vs:Nat->Nat->Value)
   (hcap:n<=cap) (hfull:full=true->cap=n) (ha:n≠0->a=some ⟨b,off,none⟩/\I b)
   (hes:∀i,i<n->(g i).cells.length=es)
   (hm:∀i j,i<n->j<es->w.cell? ⟨b,off+(i*es+j),none⟩=some (vs i j))
   (h1:∀i j,i<n->j<es->(vs i j).oneCell'=true)
   (hr:∀i j,i<n->j<es->iH w I (nth (g i).cells j) (vs i j)):iH w I (.sl es n full g) (.slice a n cap)
 | ro {cs:aiA} (b off:Nat) (vs:Nat->Value) (hI:I b)
   (hm:∀j,j<cs.length->w.cell? ⟨b,off+j,none⟩=some (vs j))
   (hr:∀j,j<cs.length->iH w I (nth cs j) (vs j)):iH w I (.ro cs) (.pointer (some ⟨b,off,none⟩))
 | agg {cs:aiA} {vs:Array Value} (hl:vs.size=cs.length) (hr:∀j,j<cs.length->iH w I (nth cs j) (vs.getD j Go.undef)):iH w I (.agg cs) (.agg vs)
 | fn {f:FuncId} {cs:aiA} {vs:Array Value} (hl:vs.size=cs.length) (hr:∀j,j<cs.length->iH w I (nth cs j) (vs.getD j Go.undef)):iH w I (.fn f cs) (.func (.func f) #[] vs)
 | kP {cs:aiA} {vs:Array Value} (hl:vs.size=cs.length) (hr:∀j,j<cs.length->iH w I (nth cs j) (vs.getD j Go.undef)):iH w I (.kP cs) (.tuple vs)
structure Own where
 es:Nat
 n:Nat
 pl:Option (Nat×Nat×Nat)
abbrev OM:=Nat->Option Own
inductive fC (w:World) (I:Nat->Prop) (O:OM) (D:Nat->Prop):AV->Value->Prop
 | pure {v:AV} {x:Value} (h:iH w I v x):fC w I O D v x
 | ptr {o i off b bo sz:Nat} {p:Own} (ho:O o=some p) (hp:p.pl=some (b,bo,sz)) (hi:i<p.n):fC w I O D (.ptr o i off) (.pointer (some ⟨b,bo+(i*p.es+off),none⟩))
 | eO {o i n:Nat} {full:Bool} {p:Own} {a:Option Addr} {cap:Nat} (ho:O o=some p) (hi:i+n<=p.n) (hcap:n<=cap) (hfull:full=true->cap=n)
   (hpl:cap≠0->∃b bo sz,p.pl=some (b,bo,sz)/\a=some ⟨b,bo+i*p.es,none⟩/\bo+(i+cap)*p.es<=sz) (hext:p.n<=i+cap):fC w I O D (.eO o i n full) (.slice a n cap)
 | mref {o b bo sz:Nat} {p:Own} (ho:O o=some p) (hp:p.pl=some (b,bo,sz)):fC w I O D (.mref o) (.map (some b))
 | Ur {o:Nat} {x:Value} (ho:O o=none) (hd:D o) (h1:x.oneCell'=true):fC w I O D (.mref o) x
 | Et {o i off:Nat} {x:Value} (ho:O o=none) (hd:D o) (h1:x.oneCell'=true):fC w I O D (.ptr o i off) x
 | CK {o i n:Nat} {full:Bool} {x:Value} (ho:O o=none) (hd:D o) (h1:x.oneCell'=true):fC w I O D (.eO o i n full) x
 | agg {cs:aiA} {vs:Array Value} (hl:vs.size=cs.length) (hr:∀j,j<cs.length->fC w I O D (nth cs j) (vs.getD j Go.undef)):fC w I O D (.agg cs) (.agg vs)
 | fn {f:FuncId} {cs:aiA} {vs:Array Value} (hl:vs.size=cs.length) (hr:∀j,j<cs.length->fC w I O D (nth cs j) (vs.getD j Go.undef)):fC w I O D (.fn f cs) (.func (.func f) #[] vs)
 | kP {cs:aiA} {vs:Array Value} (hl:vs.size=cs.length) (hr:∀j,j<cs.length->fC w I O D (nth cs j) (vs.getD j Go.undef)):fC w I O D (.kP cs) (.tuple vs)
def NU (w:World) (b sz:Nat):Prop:=∀j,j<sz->(w.cell? ⟨b,j,none⟩).isSome=true/\w.frozen? ⟨b,j,none⟩=false
def cellAt (w:World) (b j:Nat):Value:=(w.cell? ⟨b,j,none⟩).getD Go.undef
def NV:qR->Value
 | .s b=>.string b
 | .i n=>.int .i64 n
def Yu (z:ajY) (n:Int):Value:=match z with
 | [.bool]=>.bool (n != 0)
 | [.int k]=>.int k n
 | _=>Go.undef
structure ahj (kd:TD) (z:ajY) (f:qR->Option Int) (es:Array MapEntry):Prop where
 keys:∀e∈es.toList,∃k n,e.key=NV k/\Km kd k=true/\f k=some n/\e.val=Yu z n
 uniq:es.toList.Pairwise λ e e'=>e.key≠e'.key
 all:∀k n,f k=some n->∃e∈es.toList,e.key=NV k
def jm (w:World) (I:Nat->Prop) (O:OM) (D:Nat->Prop) (p:Own):eD->Prop
 | .box cs=>p.n=1/\∃b bo sz,p.pl=some (b,bo,sz)/\NU w b sz/\bo+cs.length<=sz/\∀j,j<cs.length->fC w I O D (nth cs j) (cellAt w b (bo+j))
 | .row es n g=>p.n=n/\p.es=es/\(∀i,i<n->(g i).cells.length=es)/\((n=0/\p.pl=none)\/
   ∃b bo sz,p.pl=some (b,bo,sz)/\NU w b sz/\bo+n*es<=sz/\∀i j,i<n->j<es->iH w I (nth (g i).cells j) (cellAt w b (bo+(i*es+j)))/\(cellAt w b (bo+(i*es+j))).oneCell'=true)
 | .map kd z f=>p.n=1/\∃b bo sz es clock,p.pl=some (b,bo,sz)/\w.heap[b]? = some (.map es clock)/\ahj kd z f es
structure Ctx where
 w0:World
 M:Nat->Prop
 I0:Nat->Prop
 O0:OM
 m:Nat
 K:Nat->Obj->Prop
 rd:Bool
def QA:Obj->Bool
 | .cells .. => false
 | _=>true
structure iM (w' w:World):Prop where
 os:w'.os=w.os
 tape:w'.tape=w.tape
 output:w'.output=w.output
 keep:∀(k:Nat) (o:Obj),w.heap[k]? = some o->QA o=true->w'.heap[k]? = some o
def iM.refl (w:World):iM w w:=⟨rfl,rfl,rfl,λ _ _ h _=>h⟩
def iM.trans {a b c:World} (h:iM a b) (k:iM b c):iM a c:=⟨h.os.trans k.os,h.tape.trans k.tape,h.output.trans k.output,λ i o hi ho=>h.keep i o (k.keep i o hi ho) ho⟩
variable {w':World}
def iM.heap {w:World} (h1:w'.os=w.os) (h2:w'.tape=w.tape) (h3:w'.output=w.output) (h:w'.heap=w.heap):iM w' w:=⟨h1,h2,h3,λ i o hi _=>by rw[h];exact hi⟩
def iM.alloc (w:World) (o:Obj):iM (w.alloc o) w:=⟨rfl,rfl,rfl,λ i x hi _=>by
 have hlt:i<w.heap.size:=by
  rcases Nat.lt_or_ge i w.heap.size with h | h
  ·exact h
  rw[Array.getElem?_eq_none h]at hi;cases hi
 show(w.heap.push o)[i]? = some x;rw[Array.getElem?_push_lt hlt,<- hi,Array.getElem?_eq_getElem hlt]⟩
structure II (cx:Ctx) (w:World):Prop where
 same:iM w cx.w0
 kept:∀k o,cx.K k o->w.heap[k]? = some o/\QA o=true
def II.step {cx:Ctx} {w:World} (h:II cx w) (he:iM w' w):II cx w':=⟨he.trans h.same,λ k o hk=>⟨he.keep k o (h.kept k o hk).1 (h.kept k o hk).2,(h.kept k o hk).2⟩⟩
structure Rel (cfg:y9) (cx:Ctx) (H:Nat->Option eD) (D:Nat->Prop) (w:World) (I:Nat->Prop) (O:OM):Prop where
 dom:∀o,O o=none↔H o=none
 used:∀o p,O o=some p->D o
 objs:∀o ob p,H o=some ob->O o=some p->jm w I O D p ob
 inj:∀o o' p p' b bo sz b' qy sz',O o=some p->O o'=some p'->p.pl=some (b,bo,sz)->p'.pl=some (b',qy,sz')->o≠o'->b≠b'
 qz:∀o p b bo sz,O o=some p->p.pl=some (b,bo,sz)->¬ I b
 lt:∀o p b bo sz,O o=some p->p.pl=some (b,bo,sz)->b<w.heap.size
 BP:∀b,I b->b<w.heap.size
 size:cx.w0.heap.size<=w.heap.size
 frame:∀b,b<cx.w0.heap.size->¬ cx.M b->w.heap[b]? = cx.w0.heap[b]?
 new:∀o p b bo sz,O o=some p->p.pl=some (b,bo,sz)->cx.w0.heap.size<=b\/cx.M b
 glob:∀g cs,look cfg.glob g=some cs->iH w I (.ro cs) (.pointer (some ⟨g,0,none⟩))
 Us:∀b,cx.I0 b->I b
 XU:∀b,I b->cx.I0 b\/cx.w0.heap.size<=b\/cx.M b
 O0O:∀o,o<cx.m->O o=cx.O0 o\/O o=none
 Dm:∀o,o<cx.m->D o
 env:II cx w
 maps:∀o kd z f p b bo sz,H o=some (.map kd z f)->O o=some p->p.pl=some (b,bo,sz)->cx.w0.heap.size<=b/\∀ob,¬ cx.K b ob
def vM (l:aiA) (i:Nat):nth l i=l.getD i .undef:=by
 induction l generalizing i with
 | nil=>simp[nth]
 | cons v l ih=>cases i<;>simp[nth,ih]
def cell?_of_heap {w:World} {b off:Nat} (h:w'.heap[b]? = w.heap[b]?):w'.cell? ⟨b,off,none⟩=w.cell? ⟨b,off,none⟩:=by
 simp[World.cell?, h]
def frozen?_of_heap {w:World} {b off:Nat} (h:w'.heap[b]? = w.heap[b]?):w'.frozen? ⟨b,off,none⟩=w.frozen? ⟨b,off,none⟩:=by
 simp[World.frozen?, h]
variable {I':Nat->Prop} {v:AV} {x:Value}
def iH.mono {w:World} {I:Nat->Prop} (hI:∀b,I b->I' b) (hw:∀b,I b->w'.heap[b]? = w.heap[b]?) (h:iH w I v x):iH w' I' v x:=by
 induction h with
 | undef x=>exact .undef x
 | bool b=>exact .bool b
 | int k n=>exact .int k n
 | str s=>exact .str s
 | FT=>exact .FT
 | @sl es n full g a cap b off vs hcap hfull ha hes hm h1 hr ih=>
  refine .sl b off vs hcap hfull (λ h=>⟨(ha h).1,hI _ (ha h).2⟩) hes (λ i j hi hj=>?_) h1 ih;rw[cell?_of_heap (hw _ (ha om).2)];exact hm i j hi hj
 | ro b off vs h1 hm hr ih=>
  refine .ro b off vs (hI _ h1) (λ j hj=>?_) ih;rw[cell?_of_heap (hw _ h1)];exact hm j hj
 | agg hl hr ih=>exact .agg hl ih
 | fn hl hr ih=>exact .fn hl ih
 | kP hl hr ih=>exact .kP hl ih
theorem fC.mono {w:World} {I:Nat->Prop} {O O':OM} {D D':Nat->Prop} (hI:∀b,I b->I' b) (hw:∀b,I b->w'.heap[b]? = w.heap[b]?)
  (hO:∀o,D o->O' o=O o\/O' o=none) (hD:∀o,D o->D' o) (hu:∀o p,O o=some p->D o) {v:AV} {x:Value} (h:fC w I O D v x):fC w' I' O' D' v x:=by
 induction h with
 | pure h=>exact .pure (h.mono hI hw)
 | @ptr o i off b bo sz p ho hp hi=>
  rcases hO o (hu o p ho)with h | h
  ·exact .ptr (h.trans ho) hp hi
  exact .Et h (hD _ (hu o p ho)) rfl
 | @eO o i n full p a cap ho hi hcap hfull hpl hext=>
  rcases hO o (hu o p ho)with h | h
  ·exact .eO (h.trans ho) hi hcap hfull hpl hext
  exact .CK h (hD _ (hu o p ho)) rfl
 | @mref o b bo sz p ho hp=>
  rcases hO o (hu o p ho)with h | h
  ·exact .mref (h.trans ho) hp
  exact .Ur h (hD _ (hu o p ho)) rfl
 | @Ur o x ho hd h1=>
  rcases hO o hd with h | h
  ·exact .Ur (h.trans ho) (hD _ hd) h1
  exact .Ur h (hD _ hd) h1
 | @Et o i off x ho hd h1=>
  rcases hO o hd with h | h
  ·exact .Et (h.trans ho) (hD _ hd) h1
  exact .Et h (hD _ hd) h1
 | @CK o i n full x ho hd h1=>
  rcases hO o hd with h | h
  ·exact .CK (h.trans ho) (hD _ hd) h1
  exact .CK h (hD _ hd) h1
 | agg hl hr ih=>exact .agg hl ih
 | fn hl hr ih=>exact .fn hl ih
 | kP hl hr ih=>exact .kP hl ih
def NW:ZK->Value->Prop
 | .bool,x=>x=.bool false
 | .int k,x=>x=.int k 0
 | .str,x=>x=.string ByteArray.empty
 | .slice,x=>x=.slice none 0 0
 | .ptr,x=>x=.pointer none
 | .other,x=>x.oneCell'=true
def alz:TD->TypeDesc->Prop
 | .bool,d=>d=.bool
 | .int k,d=>d=.int k
 | .str,d=>d=.string
 | .slice e,d=>d=.slice e
 | .pointer e,d=>d=.pointer e
 | .map k e,d=>d=.map k e
 | .array n e,d=>d=.array n e
 | .struct fs,d=>∃fields:Array Field,d=.struct fields/\fields.toList.map (λ f=>(f.offset,f.type))=fs
 | .other,_=>True
structure as7 (P:Program) (t:TypeId) (ti:RL):Prop where
 ex:∃i d z,P.info? t=some i/\P.underlying t=some d/\i.zero=some z/\i.size=ti.size/\i.bytes=ti.bytes/\d.isRow=ti.agg/\z.cells.size=ti.size/\
  ti.zero.length=ti.size/\(∀j,j<ti.size->NW (ti.zero.getD j .other) (z.cells.getD j Go.undef))/\alz ti.desc d
 one:ti.agg=false->∀i z,P.info? t=some i->i.zero=some z->z.cells=#[z]
def XV (P:Program):TypeDesc->Prop
 | .struct fields=>∀f∈fields.toList,(P.info? f.type).isSome=true
 | _=>True
def adM:ZK->TypeDesc->Prop
 | .bool,d=>d=.bool
 | .int k,d=>d=.int k
 | .str,d=>d=.string
 | _,_=>False
def aoc (P:Program) (ok:TypeId->ajY->Prop):List Field->ajY->Nat->Prop
 | [],[],_=>True
 | f::fs,zs,k=>f.name ≠ "_" /\ f.offset=k/\∃z1 z2,zs=z1++z2/\((∃z d,z1=[z]/\P.underlying f.type=some d/\adM z d)\/(ok f.type z1/\P.cellsOf f.type=z1.length))/\aoc P ok fs z2 (k+z1.length)
 | _,_,_=>False
def EqT (P:Program):Nat->TypeId->ajY->Prop
 | 0,_,_=>False
 | n+1,t,zs=>∃fields,P.underlying t=some (.struct fields)/\P.stoodInHeld t=false/\aoc P (EqT P n) fields.toList zs 0
structure as8 (P:Program) (t:TypeId) (zs:ajY):Prop where
 ex:EqT P 4 t zs
 guard:P.eqGuardType P.depth t=false
structure iI (P:Program) (cfg:y9):Prop where
 ty:∀t ti,look cfg.ty t=some ti->as7 P t ti
 fields:∀t ti d,look cfg.ty t=some ti->P.underlying t=some d->XV P d
 mixed:P.follows .mixedOrders=true
 eqs:∀t zs,look cfg.eqs t=some zs->as8 P t zs
def ni (H:Nat->Option eD) (ups:lK):Nat->Option eD:=λ o=>match look ups o with | some x=>x | none=>H o
inductive fZ (Sp:oZ) (H:Nat->Option eD):Pg->AV->lK->ahb->Prop
 | ret (v:AV) (ups:lK):fZ Sp H (.ret v ups) v ups []
 | need {p:Prop} [d:Decidable p] {k:Pg} {v:AV} {ups:lK} {r:ahb} (hp:p) (h:fZ Sp H k v ups r):fZ Sp H (.need p k) v ups r
 | rd {o:Nat} {x:eD} {k:eD->Pg} {v:AV} {ups:lK} {r:ahb} (ho:H o=some x) (h:fZ Sp H (k x) v ups r):fZ Sp H (.rd o k) v ups (o::r)
 | call {f:FuncId} {args:aiA} {obs:ajN} {k:AV->ajN->Pg} {x:AV} {gy:ajN} {v:AV} {ups:lK} {r:ahb} (hs:Sp f args obs x gy)
   (h:fZ Sp H (k x gy) v ups r):fZ Sp H (.call f args obs k) v ups r
def hof:ajN->Nat->Option eD
 | [],_=>none
 | x::_,0=>some x
 | _::l,n+1=>hof l n
def FV:ajN->Nat->Option eD
 | [],_=>none
 | x::_,0=>gz x
 | _::l,n+1=>FV l n
def acR:∀ {l:ajN} {j:Nat} {x:eD},FV l j=some x->hof l j=some x/\NM x=false:=by
 intro l;induction l with
 | nil=>intro j x h;cases h
 | cons y l ih=>
  intro j x h;cases j with
  | zero=>
   simp only[FV,gz]at h;split at h
   ·cases h
   rename_i hg;cases h;exact⟨rfl,hg⟩
  | succ j=>exact ih h
def aod:∀ {l:ajN},(∀j x,hof l j=some x->NM x=false)->FV l=hof l:=by
 intro l;induction l with
 | nil=>intro _;rfl
 | cons y l ih=>
  intro h;funext j;cases j with
  | zero=>have:=h 0 y rfl;simp only[FV,hof,gz,this]
  | succ j=>exact congrFun (ih λ j x hx=>h (j+1) x hx) j
def Nk (w:World) (I:Nat->Prop) (O:OM) (m:Nat):Ctx:=⟨w,λ b=>∃o p bo sz,O o=some p/\p.pl=some (b,bo,sz),I,O,m,λ _ _=>False,false⟩
def Spec (P:Program) (cfg:y9):oZ:=λ f args obs r gy=>
 (∃fn,P.funcs[f]? = some fn/\fn.body.isNone=false/\(fn.name == "runtime.NumGoroutine")=false)/\obs.length<=gy.length/\
 ∀(w:World) (I:Nat->Prop) (O:OM) (vals:Array Value),Rel cfg (Nk w I O obs.length) (hof obs) (λ o=>o<obs.length) w I O->
  vals.size=args.length->(∀j,j<args.length->fC w I O (λ o=>o<obs.length) (nth args j) (vals.getD j Go.undef))->
  Calls P f vals w λ e w'=>∃x I' O',e=.returned x/\Rel cfg (Nk w I O obs.length) (FV gy) (λ o=>o<gy.length) w' I' O'/\
   fC w' I' O' (λ o=>o<gy.length) r x
section
variable {P:Program} {cfg:y9} {cx:Ctx} {H:Nat->Option eD} {D:Nat->Prop} {w:World} {I:Nat->Prop} {O:OM}
def Eu (D:Nat->Prop) (n:Nat):Nat->Prop:=λ o=>D o\/(n<=o/\o<n+stride)
def aah (D:Nat->Prop) (n:Nat):Prop:=∀o,n<=o->o<n+stride->¬ D o
variable {n:Nat}
def aah.one {D:Nat->Prop} (h:aah D n):¬ D n:=h n (Nat.le_refl _) (by unfold stride;omega)
variable {o:Nat}
def Wu {D:Nat->Prop} (h:o=n):Eu D n o:=.inr ⟨by omega,by unfold stride;omega⟩
def fU (P:Program) (cfg:y9) (cx:Ctx) (H:Nat->Option eD) (D:Nat->Prop) (w:World) (I:Nat->Prop) (O:OM) (dY:Nat) (o:Oper) (a:Act) (v:AV) (ups:lK):Prop:=
 ∀(next:Act->World->Prop) (Q:Exit->Act->World->Prop),
  (∀x w' I' O',Rel cfg cx (ni H ups) (Eu D dY) w' I' O'->(∀u y,fC w I O D u y->fC w' I' O' (Eu D dY) u y)->fC w' I' O' (Eu D dY) v x->next (a.put o.dst x) w')->
  o.wp P a w next Q
def Ev (H:Nat->Option eD):ni H []=H:=rfl
theorem jm.mono {O':OM} {D':Nat->Prop} {p:Own} {ob:eD} (hI:∀b,I b->I' b) (hw:∀b,I b->w'.heap[b]? = w.heap[b]?)
  (hO:∀o,D o->O' o=O o\/O' o=none) (hD:∀o,D o->D' o) (hu:∀o p,O o=some p->D o) (hb:∀b bo sz,p.pl=some (b,bo,sz)->w'.heap[b]? = w.heap[b]?)
  (h:jm w I O D p ob):jm w' I' O' D' p ob:=by
 cases ob with
 | box cs=>
  obtain⟨h1,b,bo,sz,hp,ha,hl,hc⟩:=h;have hh:=hb b bo sz hp;refine⟨h1,b,bo,sz,hp,λ j hj=>?_,hl,λ j hj=>?_⟩
  ·rw[cell?_of_heap hh,frozen?_of_heap hh];exact ha j hj
  rw[cellAt,cell?_of_heap hh];exact(hc j hj).mono hI hw hO hD hu
 | row es n g=>
  obtain⟨h1,h2,h3,h4⟩:=h;refine⟨h1,h2,h3,?_⟩;rcases h4 with h4 | ⟨b,bo,sz,hp,ha,hl,hc⟩
  ·exact .inl h4
  have hh:=hb b bo sz hp;refine .inr ⟨b,bo,sz,hp,λ j hj=>?_,hl,λ i j hi hj=>?_⟩
  ·rw[cell?_of_heap hh,frozen?_of_heap hh];exact ha j hj
  rw[cellAt,cell?_of_heap hh];exact⟨(hc i j hi hj).1.mono hI hw,(hc i j hi hj).2⟩
 | map kd z f=>
  obtain⟨h1,b,bo,sz,es,clock,hp,hw2,hm⟩:=h;exact⟨h1,b,bo,sz,es,clock,hp,by rw[hb b bo sz hp];exact hw2,hm⟩
def Rel.yU (hR:Rel cfg cx H D w I O) (n:Nat):Rel cfg cx H (Eu D n) w I O:=
 { hR with
  used:=λ o p h=>.inl (hR.used o p h)
  objs:=λ o ob p h h'=>(hR.objs o ob p h h').mono (λ _ h=>h) (λ _ _=>rfl) (λ _ _=>.inl rfl) (λ _ h=>.inl h) hR.used (λ _ _ _ _=>rfl)
  Dm:=λ o h=>.inl (hR.Dm o h) }
def fC.yU (hR:Rel cfg cx H D w I O) (n:Nat) (h:fC w I O D v x):fC w I O (Eu D n) v x:=
 h.mono (λ _ h=>h) (λ _ _=>rfl) (λ _ _=>.inl rfl) (λ _ h=>.inl h) hR.used
def uF {o:Oper} {a:Act} {next:Act->World->Prop} {Q:Exit->Act->World->Prop} (h:(execOp a.eval o).run P w=.ok (.value x) w') (hn:next (a.put o.dst x) w'):o.wp P a w next Q:=by
 unfold Oper.wp;rw[h];exact hn
def fU.eZ {dY:Nat} {o:Oper} {a:Act} (hR:Rel cfg cx H D w I O) (h:(execOp a.eval o).run P w=.ok (.value x) w) (hv:fC w I O D v x):fU P cfg cx H D w I O dY o a v []:=by
 intro next Q hn
 exact uF h (hn x w I O (by rw[Ev];exact hR.yU dY) (λ u y hu=>hu.yU hR dY) (hv.yU hR dY))
def fC.l8 {b:Bool} (h:fC w I O D (.bool b) x):x=.bool b:=by
 cases h with | pure h=>cases h;rfl
def fC.iZ {k:IntKind} {n:Int} (h:fC w I O D (.int k n) x):x=.int k n:=by
 cases h with | pure h=>cases h;rfl
def fC.Dq {s:ByteArray} (h:fC w I O D (.str s) x):x=.string s:=by
 cases h with | pure h=>cases h;rfl
def fC.BQ {es:Nat} {f:Bool} {g:Nat->AV} (h:fC w I O D (.sl es n f g) x):iH w I (.sl es n f g) x:=by
 cases h with | pure h=>exact h
variable {cs:aiA}
def fC.aai (h:fC w I O D (.ro cs) x):iH w I (.ro cs) x:=by
 cases h with | pure h=>exact h
def fC.xq (h:fC w I O D (.agg cs) x):∃vs:Array Value,x=.agg vs/\vs.size=cs.length/\∀j,j<cs.length->fC w I O D (nth cs j) (vs.getD j Go.undef):=by
 cases h with
 | pure h=>cases h with | agg hl hr=>exact⟨_,rfl,hl,λ j hj=>.pure (hr j hj)⟩
 | agg hl hr=>exact⟨_,rfl,hl,hr⟩
def fC.Kr (h:fC w I O D (.kP cs) x):∃vs:Array Value,x=.tuple vs/\vs.size=cs.length/\∀j,j<cs.length->fC w I O D (nth cs j) (vs.getD j Go.undef):=by
 cases h with
 | pure h=>cases h with | kP hl hr=>exact⟨_,rfl,hl,λ j hj=>.pure (hr j hj)⟩
 | kP hl hr=>exact⟨_,rfl,hl,hr⟩
def fC.NY {f:FuncId} (h:fC w I O D (.fn f cs) x):∃vs:Array Value,x=.func (.func f) #[] vs/\vs.size=cs.length/\∀j,j<cs.length->fC w I O D (nth cs j) (vs.getD j Go.undef):=by
 cases h with
 | pure h=>cases h with | fn hl hr=>exact⟨_,rfl,hl,λ j hj=>.pure (hr j hj)⟩
 | fn hl hr=>exact⟨_,rfl,hl,hr⟩
variable {p:Own}
def fC.pF {i off:Nat} (ho:O o=some p) (h:fC w I O D (.ptr o i off) x):∃b bo sz,p.pl=some (b,bo,sz)/\i<p.n/\x=.pointer (some ⟨b,bo+(i*p.es+off),none⟩):=by
 cases h with
 | pure h=>cases h
 | @ptr _ _ _ b bo sz p' ho' hp hi=>
  have:p'=p:=Option.some.inj (ho'.symm.trans ho);subst this;exact⟨b,bo,sz,hp,hi,rfl⟩
 | Et ho'=>rw[ho]at ho';cases ho'
theorem fC.nH {i:Nat} {full:Bool} (ho:O o=some p) (h:fC w I O D (.eO o i n full) x):∃a cap,x=.slice a n cap/\i+n<=p.n/\n<=cap/\(full=true->cap=n)/\
  (cap≠0->∃b bo sz,p.pl=some (b,bo,sz)/\a=some ⟨b,bo+i*p.es,none⟩/\bo+(i+cap)*p.es<=sz):=by
 cases h with
 | pure h=>cases h
 | @eO _ _ _ _ p' a cap ho' hi hcap hfull hpl hext=>
  have:p'=p:=Option.some.inj (ho'.symm.trans ho);subst this;exact⟨a,cap,rfl,hi,hcap,hfull,hpl⟩
 | CK ho'=>rw[ho]at ho';cases ho'
def fC.Gb {i n' cap:Nat} {full:Bool} {aa:Option Addr} (ho:O o=some p) (h:fC w I O D (.eO o i n full) (.slice aa n' cap)):p.n<=i+cap:=by
 cases h with
 | pure h=>cases h
 | @eO _ _ _ _ p' a cap ho' hi hcap hfull hpl hext=>
  have:p'=p:=Option.some.inj (ho'.symm.trans ho);subst this;exact hext
 | CK ho'=>rw[ho]at ho';cases ho'
def fC.aaj (ho:O o=some p) (h:fC w I O D (.mref o) x):∃b bo sz,p.pl=some (b,bo,sz)/\x=.map (some b):=by
 cases h with
 | pure h=>cases h
 | @mref _ b bo sz p' ho' hp=>
  have:p'=p:=Option.some.inj (ho'.symm.trans ho);subst this;exact⟨b,bo,sz,hp,rfl⟩
 | Ur ho'=>rw[ho]at ho';cases ho'
def aak (h:fC w I O D v x) (hk:ZX v=true):x.oneCell'=true:=by
 cases h with
 | pure h=>cases h<;>first | rfl | cases hk
 | ptr=>rfl
 | eO=>rfl
 | mref=>rfl
 | Ur _ _ h1=>exact h1
 | Et _ _ h1=>exact h1
 | CK _ _ h1=>exact h1
 | agg=>cases hk
 | fn=>rfl
 | kP=>cases hk
def XW {l:aiA} (h:Kl l=true):∀j,j<l.length->ZX (nth l j)=true:=by
 induction l with
 | nil=>intro j hj;cases hj
 | cons v l ih=>
  intro j hj;unfold Kl at h;cases hv:ZX v with
  | false=>simp[hv]at h
  | true=>
   simp only[hv]at h;cases j with
   | zero=>exact hv
   | succ j=>exact ih h j (by simpa using hj)
def fC.cells (h:fC w I O D v x) (hk:Kl v.cells=true):x.cells.size=v.cells.length/\∀j,j<v.cells.length->fC w I O D (nth v.cells j) (x.cells.getD j Go.undef)/\(x.cells.getD j Go.undef).oneCell'=true:=by
 have one:∀ {v:AV} {x:Value},fC w I O D v x->v.cells=[v]->ZX v=true->x.cells.size=v.cells.length/\∀j,j<v.cells.length->fC w I O D (nth v.cells j) (x.cells.getD j Go.undef)/\(x.cells.getD j Go.undef).oneCell'=true:=by
  intro v x h hc ho;have h1:=aak h ho;have hx:x.cells=#[x]:=by cases x<;>first | rfl | cases h1
  rw[hc,hx];refine⟨rfl,λ j hj=>?_⟩;have:j=0:=by simpa using hj
  subst this;exact⟨h,h1⟩
 cases v with
 | agg cs=>
  obtain⟨vs,rfl,hl,hr⟩:=h.xq;exact⟨hl,λ j hj=>⟨hr j hj,aak (hr j hj) (XW hk j hj)⟩⟩
 | undef=>cases hk
 | kP vs=>cases hk
 | _=>exact one h rfl rfl
end
end Go.Ab
namespace Go.Ab
section
variable {P:Program} {cfg:y9} {cx:Ctx} {H:Nat->Option eD} {D:Nat->Prop} {w:World} {I:Nat->Prop} {O:OM} {Sp:oZ}
variable {v':AV} {wT:lK}
def fZ.kS {v:AV} {ups:lK} {r:ahb} (h:fZ Sp H (.ret v ups) v' wT r):v'=v/\wT=ups:=by cases h;exact⟨rfl,rfl⟩
def fZ.xu {p:Prop} [Decidable p] {k:Pg} {v':AV} {wT:lK} {r:ahb} (h:fZ Sp H (.need p k) v' wT r):p/\fZ Sp H k v' wT r:=by cases h with | need hp h=>exact⟨hp,h⟩
def fZ.oD {o:Nat} {k:eD->Pg} {r:ahb} (h:fZ Sp H (.rd o k) v' wT r):∃x r',H o=some x/\fZ Sp H (k x) v' wT r':=by cases h with | rd ho h=>exact⟨_,_,ho,h⟩
def fZ.bC {r:ahb} (h:fZ Sp H .fail v' wT r):False:=by cases h
def fZ.iL {p:Prop} [Decidable p] {v v':AV} {wT:lK} {r:ahb} (h:fZ Sp H (mH p v) v' wT r):p/\v'=v/\wT=[]:=by
 obtain⟨hp,h⟩:=fZ.xu h;exact⟨hp,h.kS⟩
def fZ.fQ {v:AV} {r:ahb} (h:fZ Sp H (kD v) v' wT r):v'=v/\wT=[]:=h.kS
def fZ.dh {b:Bool} {k:Pg} {r:ahb} (h:fZ Sp H (gT b k) v' wT r):b=true/\fZ Sp H k v' wT r:=by
 cases b with
 | true=>exact⟨rfl,h⟩
 | false=>exact(fZ.bC h).elim
def fZ.Ei {v:AV} {k:aiA->Pg} {r:ahb} (h:fZ Sp H (NJ v k) v' wT r):Kl v.cells=true/\fZ Sp H (k v.cells) v' wT r:=by
 unfold NJ at h;cases hb:Kl v.cells with
 | true=>simp only[hb]at h;exact⟨rfl,h⟩
 | false=>simp only[hb]at h;exact(fZ.bC h).elim
variable {t:TypeId}
def fZ.mh {k:RL->Pg} {r:ahb} (h:fZ Sp H (Wp cfg t k) v' wT r):∃ti,look cfg.ty t=some ti/\fZ Sp H (k ti) v' wT r:=by
 unfold Wp at h;cases hb:look cfg.ty t with
 | some ti=>simp only[hb]at h;exact⟨ti,rfl,h⟩
 | none=>simp only[hb]at h;exact(fZ.bC h).elim
def fZ.qA {k:RL->Pg} {r:ahb} (h:fZ Sp H (Er cfg t k) v' wT r):∃tt e ti,look cfg.ty t=some tt/\tt.desc=.slice e/\look cfg.ty e=some ti/\fZ Sp H (k ti) v' wT r:=by
 unfold Er at h;cases hb:look cfg.ty t with
 | some tt=>
  simp only[hb]at h;cases hd:tt.desc with
  | slice e=>
   simp only[hd]at h;obtain⟨ti,h1,h2⟩:=h.mh;exact⟨tt,e,ti,rfl,hd,h1,h2⟩
  | _=>simp only[hd]at h;exact(fZ.bC h).elim
 | none=>simp only[hb]at h;exact(fZ.bC h).elim
def iI.slice (hc:iI P cfg) {e:TypeId} {tt ti:RL} (h:look cfg.ty t=some tt) (hd:tt.desc=.slice e) (h':look cfg.ty e=some ti):
  P.underlying t=some (.slice e)/\∃i z,P.info? e=some i/\i.zero=some z/\i.size=ti.size/\i.bytes=ti.bytes/\z.cells.size=ti.size:=by
 obtain⟨i,d,z,_,hu,_,_,_,_,_,_,_,hm⟩:=(hc.ty t tt h).ex;rw[hd]at hm;obtain⟨i',d',z',h1,_,h2,h3,h4,_,h5,_⟩:=(hc.ty e ti h').ex;exact⟨by rw[hu,hm],i',z',h1,h2,h3,h4,h5⟩
def gP {i:TypeInfo} (h:P.info? t=some i) (w:World):(sizeOf t).run P w=.ok i.size w:=by
 simp[sizeOf,typeInfo,h]
def cZ {d:TypeDesc} (h:P.underlying t=some d) (w:World):(underlying t).run P w=.ok d w:=by
 simp[underlying,h]
variable {dY:Nat} {o:Oper} {a:Act} {ρ:Operand->AV} {v:AV} {ups:lK} {r:ahb}
variable {x:Operand}
def aoe (hR:Rel cfg cx H D w I O) (ho:o.op=.move x) (hx:fC w I O D (ρ x) (a.eval x)):fU P cfg cx H D w I O dY o a (ρ x) []:=
 fU.eZ hR (by simp[execOp,ho]) hx
def ajS (hR:Rel cfg cx H D w I O) (ho:o.op=.assign x) (hx:fC w I O D (ρ x) (a.eval x)):fU P cfg cx H D w I O dY o a (ρ x) []:=
 fU.eZ hR (by simp[execOp,ho]) hx
def ajT (c:Value) (ho:ofConst c≠.undef):∀ {x:Value},x=c->fC w I O D (ofConst c) x:=by
 intro x hx;subst hx;refine .pure ?_;unfold ofConst;split
 ·exact .bool _
 ·exact .int _ _
 ·exact .str _
 ·exact .sl 0 0 (λ _ _=>Go.undef) (Nat.le_refl _) (λ _=>rfl) (λ h=>absurd rfl h) (λ i h=>by cases h) (λ i j h=>by cases h) (λ i j h=>by cases h) (λ i j h=>by cases h)
 ·exact .FT
 rename_i h1 h2 h3 h4 h5;exact .undef _
def ahk (c:Value):fC w I O D (ofConst c) c:=by
 by_cases h:ofConst c=.undef
 ·rw[h];exact .pure (.undef _)
 exact ajT c h rfl
theorem aof (hR:Rel cfg cx H D w I O) {c y:Operand} (ho:o.op=.pick c x y) (hc:fC w I O D (ρ c) (a.eval c))
  (hx:∀b,ρ c=.bool b->b=true->fC w I O D (ρ x) (a.eval x)) (hy:∀b,ρ c=.bool b->b=false->fC w I O D (ρ y) (a.eval y))
  (hcx:∀v,x=.const v->ρ x=ofConst v/\a.eval x=v) (hcy:∀v,y=.const v->ρ y=ofConst v/\a.eval y=v)
  (h:fZ Sp H (ahd (ρ c) x y (ρ x) (ρ y)) v ups r):fU P cfg cx H D w I O dY o a v ups:=by
 cases hcv:ρ c with
 | bool b=>
  rw[hcv]at hc h;have hb:=hc.l8;have hx':=hx b hcv;have hy':=hy b hcv;have run:(execOp a.eval o).run P w=.ok (.value (if b then a.eval x else a.eval y)) w:=by
   simp[execOp,ho,hb,asBool]
  unfold ahd at h;simp only at h;split at h
  ·rename_i hz;obtain⟨rfl,rfl⟩:=h.fQ;obtain⟨_,e2⟩:=hcy _ rfl;refine fU.eZ hR run ?_;cases b with
   | true=>have:=(hx' rfl);rw[hz]at this;rw[this.l8];exact .pure (.bool _)
   | false=>rw[e2];exact .pure (.bool _)
  ·rename_i hz _;obtain⟨rfl,rfl⟩:=h.fQ;obtain⟨_,e2⟩:=hcx _ rfl;refine fU.eZ hR run ?_;cases b with
   | true=>simp only[if_true];rw[e2];exact .pure (.bool _)
   | false=>have:=(hy' rfl);rw[hz]at this;simp only[Bool.false_eq_true,if_false];rw[this.l8];exact .pure (.bool _)
  ·rename_i h1 h2;obtain⟨rfl,rfl⟩:=h.fQ;refine fU.eZ hR run ?_;cases b with
   | true=>have:=(hx' rfl);rw[h1]at this;rw[this.l8];exact .pure (.bool _)
   | false=>have:=(hy' rfl);rw[h2]at this;simp only[Bool.false_eq_true,if_false];rw[this.l8];exact .pure (.bool _)
  ·obtain⟨rfl,rfl,rfl⟩:=h.iL;refine fU.eZ hR run ?_;simpa using hy' rfl
  ·obtain⟨rfl,rfl,rfl⟩:=h.iL;refine fU.eZ hR run ?_;simpa using hx' rfl
  exact(fZ.bC h).elim
 | _=>rw[hcv]at h;exact(fZ.bC h).elim
def wrap_i64 {n:Int} (h:aC n):IntKind.i64.wrap n=n:=IntWalk.i64_in _ ⟨h.1,h.2⟩
def run_equal_bool (hu:P.underlying t=some .bool) (a b:Bool) (w:World):(Op.equal t (.bool a) (.bool b)).run P w=.ok (a==b) w:=by
 have:∀d,(Op.equalIn (d+1) t (.bool a) (.bool b)).run P w=.ok (a==b) w:=λ d=>by
  simp[Op.equalIn,cZ hu]
 exact this 9999
def Ut {d:TypeDesc} (hu:P.underlying t=some d) (hd:d.isRow=false) (vs:Array Value) (i:Nat) (hi:i<vs.size) (w:World):(part t vs i).run P w=.ok (vs.getD i Go.undef) w:=by
 have hag:(isAgg t).run P w=.ok false w:=by
  unfold isAgg;rw[Sem.run_bind,cZ hu w];cases d<;>simp at hd ⊢
 simp[part,Sem.run_bind,hag,Array.getElem?_eq_getElem hi]
def acS:∀(a b:aiA) {j:Nat},j<a.length->nth (a++b) j=nth a j:=by
 intro a;induction a with
 | nil=>intro b j h;exact absurd h (Nat.not_lt_zero _)
 | cons x a ih=>intro b j h;cases j with
  | zero=>rfl
  | succ j=>exact ih b (by simpa using h)
def acT:∀(a b:aiA) (j:Nat),nth (a++b) (a.length+j)=nth b j:=by
 intro a;induction a with
 | nil=>intro b j;simp
 | cons x a ih=>intro b j;rw[List.length_cons,show a.length+1+j=(a.length+j)+1 by omega];exact ih b j
def Uu (xs:Array Value) (k m j:Nat) (hj:j<m) (h:k+m<=xs.size):(xs.extract k (k+m)).getD j Go.undef=xs.getD (k+j) Go.undef:=by
 rw[Array.getD_eq_getD_getElem?, Array.getD_eq_getD_getElem?, Array.getElem?_extract_of_lt (by rw[Nat.min_eq_left h];omega),Array.getElem?_eq_getElem om]
def aog:∀(zs:ajY) (cs cs':aiA) (r:Bool),Wi zs cs cs'=some r->cs.length=zs.length/\cs'.length=zs.length:=by
 intro zs;induction zs with
 | nil=>intro cs cs' r h;cases cs<;>cases cs'<;>simp[Wi]at h ⊢
 | cons z zs ih=>
  intro cs cs' r h;cases cs with
  | nil=>cases z<;>simp[Wi]at h
  | cons c cs=>cases cs' with
   | nil=>cases z<;>cases c<;>simp[Wi]at h
   | cons c' cs'=>
    have:∃r',Wi zs cs cs'=some r':=by
     cases z<;>cases c<;>cases c'<;>simp only[Wi]at h<;>first | (cases h;done) | skip
     all_goals
      split at h
      ·first | exact⟨_,by assumption⟩
      cases h
    obtain⟨r',h'⟩:=this
    have:=ih _ _ _ h'
    simp[this]
def aoh:∀(z1 z2:ajY) (cs cs':aiA) (r:Bool),Wi (z1++z2) cs cs'=some r->∃c1 c2 c1' c2' r1 r2,cs=c1++c2/\cs'=c1'++c2'/\Wi z1 c1 c1'=some r1/\Wi z2 c2 c2'=some r2/\r=(r1&&r2):=by
 intro z1;induction z1 with
 | nil=>intro z2 cs cs' r h;exact⟨[],cs,[],cs',true,r,rfl,rfl,rfl,h,by simp⟩
 | cons z z1 ih=>
  intro z2 cs cs' r h;cases cs with
  | nil=>cases z<;>simp[Wi]at h
  | cons c cs=>cases cs' with
   | nil=>cases z<;>cases c<;>simp[Wi]at h
   | cons c' cs'=>
    cases z<;>cases c<;>cases c'<;>simp only[List.cons_append,Wi]at h<;>first | (cases h;done) | skip
    ·split at h
     ·rename_i r' h'
      cases h
      obtain⟨c1,c2,c1',c2',r1,r2,e1,e2,e3,e4,e5⟩:=ih _ _ _ _ h'
      subst e1 e2 e5
      exact⟨_::c1,c2,_::c1',c2',_,r2,rfl,rfl,by simp only[Wi,e3];rfl,e4,by rw[Bool.and_assoc]⟩
     cases h
    ·split at h
     ·rename_i r' k1 k2 h'
      cases h
      obtain⟨c1,c2,c1',c2',r1,r2,e1,e2,e3,e4,e5⟩:=ih _ _ _ _ h'
      subst e1 e2 e5
      exact⟨_::c1,c2,_::c1',c2',_,r2,rfl,rfl,by simp only[Wi,e3,k1,k2];rfl,e4,by rw[Bool.and_assoc]⟩
     cases h
    split at h
    ·rename_i r' h'
     cases h
     obtain⟨c1,c2,c1',c2',r1,r2,e1,e2,e3,e4,e5⟩:=ih _ _ _ _ h'
     subst e1 e2 e5
     exact⟨_::c1,c2,_::c1',c2',_,r2,rfl,rfl,by simp only[Wi,e3];rfl,e4,by rw[Bool.and_assoc]⟩
    cases h
def ahl {dd:TypeDesc} {z:ZK} {c c':AV} {b:Bool} {u v:Value} (w:World) (d:Nat) (hu:P.underlying t=some dd) (hk:adM z dd) (h:Wi [z] [c] [c']=some b) (hx:fC w I O D c u) (hy:fC w I O D c' v):(Op.equalIn (d+1) t u v).run P w=.ok b w:=by
 cases z with
 | int kk=>
  cases c<;>cases c'<;>simp only[Wi]at h<;>first | (cases h;done) | skip
  rename_i k1 a k2 b;split at h
  ·rename_i r' e1 e2 e3;cases e3;cases h;have e1:kk=k1:=by simpa[zB]using e1
   have e2:kk=k2:=by simpa[zB]using e2
   subst e1;subst e2;rw[hx.iZ,hy.iZ,Bool.and_true];rw[hk]at hu;exact run_equalIn_int w d _ _ _ _ _ hu
  cases h
 | bool=>
  cases c<;>cases c'<;>simp only[Wi]at h<;>first | (cases h;done) | skip
  cases h;rw[hx.l8,hy.l8,Bool.and_true];rw[hk]at hu;exact run_equalIn_bool' w d _ _ _ hu
 | str=>
  cases c<;>cases c'<;>simp only[Wi]at h<;>first | (cases h;done) | skip
  cases h;rw[hx.Dq,hy.Dq,Bool.and_true];rw[hk]at hu;exact run_equalIn_string w d _ _ _ hu
 | slice=>exact hk.elim
 | ptr=>exact hk.elim
 | other=>exact hk.elim
def Ls {fs:Array Field} (hu:P.underlying t=some (.struct fs)) (vs:Array Value) (i:Nat) (w:World):(part t vs i).run P w=.ok (.agg (vs.extract i (i+P.cellsOf t))) w:=by
 obtain⟨ti,hi⟩:=info_of_underlying hu;simp[part,isAgg,run_underlying hu,run_sizeOf w hi]
theorem alA (n:Nat) (xs ys:Array Value) (w:World) (d:Nat)
  (IH:∀(t:TypeId) (zs:ajY) (cs cs':aiA) (us vs:Array Value) (r:Bool),EqT P n t zs->Wi zs cs cs'=some r->us.size=cs.length->vs.size=cs'.length->(∀j,j<cs.length->fC w I O D (nth cs j) (us.getD j Go.undef))->(∀j,j<cs'.length->fC w I O D (nth cs' j) (vs.getD j Go.undef))->(Op.equalIn (d+1) t (.agg us) (.agg vs)).run P w=.ok r w):
  ∀(fs:List Field) (zs:ajY) (cs cs':aiA) (k:Nat) (r:Bool),Wi zs cs cs'=some r->aoc P (EqT P n) fs zs k->
  k+cs.length<=xs.size->k+cs'.length<=ys.size->(∀j,j<cs.length->fC w I O D (nth cs j) (xs.getD (k+j) Go.undef))->(∀j,j<cs'.length->fC w I O D (nth cs' j) (ys.getD (k+j) Go.undef))->
  (Op.eqFields (d+1) xs ys fs).run P w=.ok r w:=by
 intro fs;induction fs with
 | nil=>
  intro zs cs cs' k r h hz _ _ _ _;cases zs with
  | cons=>exact hz.elim
  | nil=>cases cs<;>cases cs'<;>simp[Wi]at h ⊢ <;> (subst h;simp[Op.eqFields])
 | cons f fs ih=>
  intro zs cs cs' k r h hz hx hy hrx hry;obtain⟨hnm,hof,z1,z2,rfl,hz1,hz2⟩:=hz;obtain⟨c1,c2,c1',c2',r1,r2,rfl,rfl,e3,e4,rfl⟩:=aoh _ _ _ _ _ h;obtain⟨l1,l2⟩:=aog _ _ _ _ e3;simp only[List.length_append]at hx hy hrx hry;have nx1:∀j,j<c1.length->nth (c1++c2) j=nth c1 j:=λ j hj=>acS _ _ hj;have nx2:∀j,nth (c1++c2) (c1.length+j)=nth c2 j:=λ j=>acT _ _ j;have ny1:∀j,j<c1'.length->nth (c1'++c2') j=nth c1' j:=λ j hj=>acS _ _ hj;have ny2:∀j,nth (c1'++c2') (c1'.length+j)=nth c2' j:=λ j=>acT _ _ j;have ih':=ih z2 c2 c2' (k+z1.length) r2 e4 hz2 om om (λ j hj=>by
   have:=hrx (c1.length+j) om;rw[nx2,show k+(c1.length+j)=k+z1.length+j by omega]at this;exact this) (λ j hj=>by
   have:=hry (c1'.length+j) om;rw[ny2,show k+(c1'.length+j)=k+z1.length+j by omega]at this;exact this)
  have step:∀(u v:Value),(part f.type xs k).run P w=.ok u w->(part f.type ys k).run P w=.ok v w->(Op.equalIn (d+1) f.type u v).run P w=.ok r1 w->(Op.eqFields (d+1) xs ys (f::fs)).run P w=.ok (r1&&r2) w:=by
   intro u v px py hb;rw[Op.eqFields,if_pos hnm];simp only[hof,Sem.run_bind,px,py,Result.andThen_ok,hb];cases r1
   ·simp
   simpa using ih'
  rcases hz1 with⟨z,dd,rfl,hu,hk⟩ | ⟨ho,hs⟩
  ·have hd:dd.isRow=false:=by cases z<;>simp only[adM]at hk<;>first | (subst hk;rfl) | exact hk.elim
   cases c1 with
   | nil=>simp at l1
   | cons c c1=>cases c1 with
    | cons=>simp at l1
    | nil=>cases c1' with
     | nil=>simp at l2
     | cons c' c1'=>cases c1' with
      | cons=>simp at l2
      | nil=>
       simp only[List.length_singleton]at hx hy hrx hry
       have hx0:=hrx 0 om
       have hy0:=hry 0 om
       exact step _ _ (Ut hu hd xs k om w) (Ut hu hd ys k om w) (ahl w d hu hk e3 hx0 hy0)
  cases n with
  | zero=>exact ho.elim
  | succ n=>
   obtain⟨fields,hu,_,_⟩:=id ho;refine step _ _ (Ls hu xs k w) (Ls hu ys k w) ?_;rw[hs];refine IH _ z1 c1 c1' _ _ r1 ho e3 (by rw[Array.size_extract];omega) (by rw[Array.size_extract];omega) (λ j hj=>?_) (λ j hj=>?_)
   ·have:=hrx j om;rw[nx1 j hj]at this;rw[Uu _ _ _ _ om om];exact this
   have:=hry j om;rw[ny1 j hj]at this;rw[Uu _ _ _ _ om om];exact this
def aoi (w:World):∀(n d:Nat) (t:TypeId) (zs:ajY) (cs cs':aiA) (us vs:Array Value) (r:Bool),EqT P n t zs->Wi zs cs cs'=some r->us.size=cs.length->vs.size=cs'.length->(∀j,j<cs.length->fC w I O D (nth cs j) (us.getD j Go.undef))->(∀j,j<cs'.length->fC w I O D (nth cs' j) (vs.getD j Go.undef))->(Op.equalIn (d+n+1) t (.agg us) (.agg vs)).run P w=.ok r w:=by
 intro n;induction n with
 | zero=>intro d t zs cs cs' us vs r h;exact h.elim
 | succ n IH=>
  intro d t zs cs cs' us vs r ⟨fields,hu,hh,hf⟩ h hl hl' hx hy;have hfo:P.fieldsOf t=fields:=by unfold Program.fieldsOf;rw[hu]
  rw[show d+(n+1)+1=(d+n+1)+1 by omega,run_equalIn_struct (P:=P) w (d+n+1) t us vs (by rw[hfo];exact hu) hh,hfo];exact alA (I:=I) (O:=O) (D:=D) n us vs w (d+n) (λ t zs cs cs' us vs r a b c e f g=>IH d t zs cs cs' us vs r a b c e f g) fields.toList zs cs cs' 0 r h hf om om (λ j hj=>by simpa using hx j hj) (λ j hj=>by simpa using hy j hj)
def RN (hc:iI P cfg) {zs:ajY} (ht:look cfg.eqs t=some zs) {cs cs':aiA} {xs ys:Array Value} {r:Bool} (h:Wi zs cs cs'=some r) (hl:xs.size=cs.length) (hl':ys.size=cs'.length)
  (hx:∀j,j<cs.length->fC w I O D (nth cs j) (xs.getD j Go.undef)) (hy:∀j,j<cs'.length->fC w I O D (nth cs' j) (ys.getD j Go.undef)):(Op.equalIn 10000 t (.agg xs) (.agg ys)).run P w=.ok r w:=
 aoi w 4 9995 t zs cs cs' xs ys r (hc.eqs t zs ht).ex h hl hl' hx hy
theorem alB (hc:iI P cfg) (hR:Rel cfg cx H D w I O) {op:BinOp} {t':TypeId} {y:Operand} (ho:o.op=.binOp op t x y t') (hx:fC w I O D (ρ x) (a.eval x)) (hy:fC w I O D (ρ y) (a.eval y))
  (h:fZ Sp H (alb cfg op t (ρ x) (ρ y)) v ups r):fU P cfg cx H D w I O dY o a v ups:=by
 unfold alb at h;split at h
 ·rename_i k n k' n' e1 e2;rw[e1]at hx;rw[e2]at hy;have hx':=hx.iZ;have hy':=hy.iZ;cases hsl:ala op with
  | true=>
   simp only[hsl]at h;cases op<;>simp[ala]at hsl;obtain⟨hp,rfl,rfl⟩:=h.iL;have hg:∀(u:World),(eqGuard .shl t x y (.int k n) (.int k' n')).run P u=.ok () u:=by
    intro u;unfold eqGuard;simp
   refine fU.eZ (x:=.int k _) hR ?_ (.pure (.int _ _));have hp':=Int.not_lt.2 hp;simp only[execOp,ho,hx',hy',hg,binOp,Op.shift,if_neg hp',Ra,Sem.run_bind,Result.andThen_ok,Sem.run_pure]
  | false=>
  simp only[hsl]at h;obtain⟨hk1,h1⟩:=h.dh;clear h;have hk:k=k':=by simpa[zB]using hk1
  subst hk;have hg:∀(u:World),(eqGuard op t x y (.int k n) (.int k n')).run P u=.ok () u:=by
   intro u;unfold eqGuard;cases op<;>simp
  cases ha:Un op with
  | true=>
   simp only[ha]at h1;cases hk2:zB k .i64 with
   | true=>
    simp only[hk2]at h1;have h2:=h1;clear h1;have hk:k=.i64:=by simpa[zB]using hk2
    subst hk;cases op<;>simp[Un]at ha<;>simp only[arith]at h2<;>obtain⟨hp,rfl,rfl⟩:=h2.iL<;>
     refine fU.eZ (x:=.int .i64 _) hR ?_ (.pure (.int _ _))<;>simp[execOp,ho,hx',hy',hg,binOp,Op.intArith,Op.intDiv,wrap_i64,hp]
   | false=>
    simp only[hk2]at h1;cases op<;>simp[Un]at ha<;>simp only[ak9]at h1<;>first
     | exact(fZ.bC h1).elim
     | (obtain⟨rfl,rfl⟩:=h1.fQ
        refine fU.eZ (x:=.int k _) hR ?_ (.pure (.int _ _))
        simp[execOp,ho,hx',hy',hg,binOp,Op.intArith])
  | false=>
   simp only[ha]at h1;cases op<;>simp[Un]at ha<;>simp only[asY]at h1<;>first
    | exact(fZ.bC h1).elim
    | (obtain⟨rfl,rfl⟩:=h1.fQ
       refine fU.eZ (x:=.bool _) hR ?_ (.pure (.bool _))
       simp[execOp,ho,hx',hy',hg,binOp,Op.intCmp]
       done)
    | (obtain⟨hp,rfl,rfl⟩:=h1.iL
       refine fU.eZ (x:=.int k _) hR ?_ (.pure (.int _ _))
       have hp':=Int.not_lt.2 hp
       simp only[execOp,ho,hx',hy',hg,binOp,Op.shift,if_neg hp',IE,Sem.run_bind,Result.andThen_ok,Sem.run_pure]
       done)
    | (obtain⟨rfl,rfl⟩:=h1.fQ
       refine fU.eZ (x:=.int k _) hR ?_ (.pure (.int _ _))
       simp[execOp,ho,hx',hy',hg,binOp,Op.intBits,FU]
       done)
    | (obtain⟨rfl,rfl⟩:=h1.fQ
       refine fU.eZ (x:=.int k _) hR ?_ (.pure (.int _ _))
       simp[execOp,ho,hx',hy',hg,binOp,Op.intBits,orI])
 ·rename_i b b' e1 e2;rw[e1]at hx;rw[e2]at hy;have hx':=hx.l8;have hy':=hy.l8;obtain⟨ti,ht,h1⟩:=h.mh;clear h;have hg:∀(u:World),(eqGuard op t x y (.bool b) (.bool b')).run P u=.ok () u:=by
   intro u;unfold eqGuard;cases op<;>simp
  have hd:ti.desc=.bool->P.underlying t=some .bool:=by
   intro hd;obtain⟨i,d,z,_,hu,_,_,_,_,_,_,_,hm⟩:=(hc.ty t ti ht).ex;rw[hd]at hm;rw[hu,hm]
  split at h1
  ·rename_i hdd;obtain⟨rfl,rfl⟩:=h1.fQ;refine fU.eZ (x:=.bool _) hR ?_ (.pure (.bool _));have e:=run_equal_bool (P:=P) (hd hdd) b b' w;simp[execOp,ho,hx',hy',hg,binOp,e]
  ·rename_i hdd;obtain⟨rfl,rfl⟩:=h1.fQ;refine fU.eZ (x:=.bool _) hR ?_ (.pure (.bool _));have e:=run_equal_bool (P:=P) (hd hdd) b b' w;simp[execOp,ho,hx',hy',hg,binOp,e]
  exact(fZ.bC h1).elim
 ·rename_i s s' e1 e2;rw[e1]at hx;rw[e2]at hy;have hx':=hx.Dq;have hy':=hy.Dq;have hg:∀(u:World),(eqGuard op t x y (.string s) (.string s')).run P u=.ok () u:=by
   intro u;unfold eqGuard;cases op<;>simp
  unfold apx at h;cases op<;>simp only at h<;>first
   | exact(fZ.bC h).elim
   | (obtain⟨rfl,rfl⟩:=h.fQ
      refine fU.eZ (x:=.bool _) hR ?_ (.pure (.bool _))
      simp[execOp,ho,hx',hy',hg,binOp,Op.stringOp]
      done)
   | (obtain⟨hp,rfl,rfl⟩:=h.iL
      refine fU.eZ (x:=.string _) hR ?_ (.pure (.str _))
      have hle:¬ (((s.size+s'.size:Nat):Int) > IntKind.i64.max):=by
       have:IntKind.i64.max=9223372036854775807:=by decide
       rw[this]
       omega
      simp only[execOp,ho,hx',hy',binOp,Op.stringOp,Sem.run_bind,hg,Result.andThen_ok]
      rw[if_neg hle]
      rfl)
 ·rename_i cs cs' e1 e2;rw[e1]at hx;rw[e2]at hy;obtain⟨xs,hx',hl,hrx⟩:=hx.xq;obtain⟨ys,hy',hl',hry⟩:=hy.xq;split at h
  ·rename_i zs hz;have hg:∀(u:World),(eqGuard op t x y (.agg xs) (.agg ys)).run P u=.ok () u:=λ u=>run_eqGuard_agg u op t x y xs ys (hc.eqs t zs hz).guard;split at h
   ·rename_i r' he;obtain⟨rfl,rfl⟩:=h.fQ;have e:=RN hc hz he hl hl' hrx hry;refine fU.eZ (x:=.bool _) hR ?_ (.pure (.bool _));simp only[execOp,ho,hx',hy',Sem.run_bind,hg,Result.andThen_ok,run_eql_struct,e];rfl
   ·rename_i r' he;obtain⟨rfl,rfl⟩:=h.fQ;have e:=RN hc hz he hl hl' hrx hry;refine fU.eZ (x:=.bool _) hR ?_ (.pure (.bool _));simp only[execOp,ho,hx',hy',Sem.run_bind,hg,Result.andThen_ok,run_neq_struct,e];rfl
   exact(fZ.bC h).elim
  exact(fZ.bC h).elim
 exact(fZ.bC h).elim
def aoj (hR:Rel cfg cx H D w I O) {op:UnOp} (ho:o.op=.unOp op t x) (hx:fC w I O D (ρ x) (a.eval x))
  (h:fZ Sp H (iw cfg dY (.unOp op t x) ρ) v ups r):fU P cfg cx H D w I O dY o a v ups:=by
 simp only[iw]at h;split at h
 ·rename_i b e;rw[e]at hx;obtain⟨rfl,rfl⟩:=h.fQ;refine fU.eZ (x:=.bool _) hR ?_ (.pure (.bool _));simp[execOp,ho,hx.l8,Op.unary]
 ·rename_i k n e;rw[e]at hx;obtain⟨hk1,h1⟩:=h.dh;have hk:k=.i64:=by simpa[zB]using hk1
  subst hk;obtain⟨hp,rfl,rfl⟩:=h1.iL;refine fU.eZ (x:=.int .i64 _) hR ?_ (.pure (.int _ _));simp[execOp,ho,hx.iZ,Op.unary,Op.intArith,wrap_i64 hp]
 exact(fZ.bC h).elim
theorem afc (hR:Rel cfg cx H D w I O) (ho:o.op=.nilCheck x) (hx:fC w I O D (ρ x) (a.eval x))
  (h:fZ Sp H (iw cfg dY (.nilCheck x) ρ) v ups r):fU P cfg cx H D w I O dY o a v ups:=by
 simp only[iw]at h;split at h
 ·rename_i ob i off e;rw[e]at hx;obtain⟨obj,_,nW,h1⟩:=h.oD;obtain⟨rfl,rfl⟩:=h1.fQ;cases hp:O ob with
  | none=>rw[(hR.dom ob).1 hp]at nW;cases nW
  | some p=>
   obtain⟨b,bo,sz,h1,h2,h3⟩:=hx.pF hp;exact fU.eZ hR (by simp[execOp,ho,h3]) (h3 ▸ hx)
 ·rename_i cs e;rw[e]at hx;obtain⟨rfl,rfl⟩:=h.fQ;generalize hxe:a.eval x=xv at hx;have hx0:=hx;cases hx.aai;exact fU.eZ hR (by simp[execOp,ho,hxe]) hx0
 ·rename_i f cs e;rw[e]at hx;obtain⟨rfl,rfl⟩:=h.fQ;obtain⟨vs,h1,h2,h3⟩:=hx.NY;exact fU.eZ hR (by simp[execOp,ho,h1]) (h1 ▸ hx)
 exact(fZ.bC h).elim
def ahm (hR:Rel cfg cx H D w I O) {t:Operand} {i:Nat} (ho:o.op=.extract t i) (hx:fC w I O D (ρ t) (a.eval t))
  (h:fZ Sp H (iw cfg dY (.extract t i) ρ) v ups r):fU P cfg cx H D w I O dY o a v ups:=by
 simp only[iw]at h;split at h
 ·rename_i vs e;rw[e]at hx;obtain⟨hl,h1⟩:=h.dh;obtain⟨rfl,rfl⟩:=h1.fQ;obtain⟨xs,h1,h2,h3⟩:=hx.Kr;have hl:i<vs.length:=by simpa using hl
  have hi:i<xs.size:=by omega
  refine fU.eZ (x:=xs.getD i Go.undef) hR ?_ (h3 i hl);simp[execOp,ho,h1,Instr.extract,Array.getElem?_eq_getElem hi]
 exact(fZ.bC h).elim
def aiR {l:List Operand} (h:∀x∈l,fC w I O D (ρ x) (a.eval x)):∀j,j<(l.map ρ).length->fC w I O D (nth (l.map ρ) j) ((l.map a.eval).toArray.getD j Go.undef):=by
 intro j hj;have hj':j<l.length:=by simpa using hj
 rw[vM];simp[hj'];exact h _ (List.getElem_mem hj')
def afd (hR:Rel cfg cx H D w I O) {fn:Fn} {first cap:Array Operand} (ho:o.op=.makeFunc fn first cap) (hx:∀x∈cap.toList,fC w I O D (ρ x) (a.eval x))
  (h:fZ Sp H (iw cfg dY (.makeFunc fn first cap) ρ) v ups r):fU P cfg cx H D w I O dY o a v ups:=by
 simp only[iw]at h;split at h
 ·rename_i f e;obtain⟨rfl,rfl⟩:=h.fQ;have hf:first=#[]:=by simpa using e
  subst hf;refine fU.eZ (x:=.func (.func f) #[] (cap.map a.eval)) hR (by simp[execOp,ho,Instr.makeFunc]) (.fn (by simp) λ j hj=>?_);have:=aiR hx j hj;simpa using this
 exact(fZ.bC h).elim
variable {c:Call}
theorem aqw (hc:iI P cfg) (hR:Rel cfg cx H D w I O) (ho:o.op=.call c) (hcl:c.callee=.builtin .cap) (hx:∀x∈c.args.toList,fC w I O D (ρ x) (a.eval x))
  (h:fZ Sp H (iw cfg dY (.call c) ρ) v ups r):fU P cfg cx H D w I O dY o a v ups:=by
 simp only[iw,hcl]at h;split at h
 ·rename_i es n g t e1 e2;obtain⟨ti,ht,h1⟩:=h.mh;obtain⟨x,hxe⟩:∃x,c.args=#[x]:=by
   match hl:c.args.toList with
   | []=>simp[hl]at e1
   | [x]=>exact⟨x,by rw[<- Array.toList_inj];simpa using hl⟩
   | x::y::l=>simp[hl]at e1
  have e1':ρ x=.sl es n true g:=by simpa[hxe]using e1
  have hx':fC w I O D (.sl es n true g) (a.eval x):=e1' ▸ hx x (by simp[hxe]);have hte:c.argTypes=#[t]:=by rw[<- Array.toList_inj];simpa using e2
  obtain⟨_,dd,_,_,hud,_,_,_,_,_,_,_,hm⟩:=(hc.ty t ti ht).ex;split at h1
  ·rename_i e;rw[e]at hm;have hm:dd=.slice _:=hm;subst hm;obtain⟨rfl,rfl⟩:=h1.fQ;generalize hxv:a.eval x=xv at hx';have hq:=hx'.BQ;cases hq with
   | @sl _ _ _ _ aa cap b off vs hcap hfull ha hes hm h1 hr=>
   have hcn:cap=n:=hfull rfl;subst hcn;refine fU.eZ (x:=.int .i64 _) hR ?_ (.pure (.int _ _));simp[execOp,ho,hcl,resolve,invoke,builtin,Builtin.cap_,hxe,hte,hxv,cZ hud,goInt]
  exact(fZ.bC h1).elim
 exact(fZ.bC h).elim
theorem aqx (hc:iI P cfg) (hR:Rel cfg cx H D w I O) (ho:o.op=.call c) (hcl:c.callee=.builtin .len) (hx:∀x∈c.args.toList,fC w I O D (ρ x) (a.eval x))
  (h:fZ Sp H (iw cfg dY (.call c) ρ) v ups r):fU P cfg cx H D w I O dY o a v ups:=by
 simp only[iw,hcl]at h;split at h
 ·rename_i u t e1 e2;obtain⟨ti,ht,h1⟩:=h.mh;obtain⟨x,hxe⟩:∃x,c.args=#[x]:=by
   match hl:c.args.toList with
   | []=>simp[hl]at e1
   | [x]=>exact⟨x,by rw[<- Array.toList_inj];simpa using hl⟩
   | x::y::l=>simp[hl]at e1
  have e1':ρ x=u:=by simpa[hxe]using e1
  have hx':fC w I O D u (a.eval x):=e1' ▸ hx x (by simp[hxe]);have hte:c.argTypes=#[t]:=by rw[<- Array.toList_inj];simpa using e2
  obtain⟨_,dd,_,_,hud,_,_,_,_,_,_,_,hm⟩:=(hc.ty t ti ht).ex;split at h1
  ·rename_i e;rw[e]at hm;have hm:dd=.slice _:=hm;subst hm;obtain⟨rfl,rfl⟩:=h1.fQ;generalize hxv:a.eval x=xv at hx';cases hx'.BQ;refine fU.eZ (x:=.int .i64 _) hR ?_ (.pure (.int _ _));simp[execOp,ho,hcl,resolve,invoke,builtin,Builtin.len_,hxe,hte,hxv,cZ hud,goInt]
  ·rename_i ob i n f _ e;rw[e]at hm;have hm:dd=.slice _:=hm;subst hm;obtain⟨obj,_,nW,h2⟩:=h1.oD;obtain⟨rfl,rfl⟩:=h2.fQ;cases hp:O ob with
   | none=>rw[(hR.dom ob).1 hp]at nW;cases nW
   | some p=>
    obtain⟨aa,cap,hxv,_⟩:=hx'.nH hp;refine fU.eZ (x:=.int .i64 _) hR ?_ (.pure (.int _ _));simp[execOp,ho,hcl,resolve,invoke,builtin,Builtin.len_,hxe,hte,hxv,cZ hud,goInt]
  ·rename_i s e;rw[e]at hm;have hm:dd=.string:=hm;subst hm;obtain⟨rfl,rfl⟩:=h1.fQ;refine fU.eZ (x:=.int .i64 _) hR ?_ (.pure (.int _ _));simp[execOp,ho,hcl,resolve,invoke,builtin,Builtin.len_,hxe,hte,hx'.Dq,cZ hud,goInt]
  exact(fZ.bC h1).elim
 exact(fZ.bC h).elim
def args2 {u u':AV} (e:c.args.toList.map ρ=[u,u']):∃x y,c.args=#[x,y]/\ρ x=u/\ρ y=u':=by
 match hl:c.args.toList with
 | []=>simp[hl]at e
 | [x]=>simp[hl]at e
 | [x,y]=>
  rw[hl]at e
  simp at e
  exact⟨x,y,by rw[<- Array.toList_inj];simpa using hl,e.1,e.2⟩
 | x::y::z::l=>simp[hl]at e
def aqy (hR:Rel cfg cx H D w I O) (ho:o.op=.call c) (hcl:c.callee=.builtin .min) (hx:∀x∈c.args.toList,fC w I O D (ρ x) (a.eval x))
  (h:fZ Sp H (iw cfg dY (.call c) ρ) v ups r):fU P cfg cx H D w I O dY o a v ups:=by
 simp only[iw,hcl]at h;split at h
 ·rename_i k n k' n' e;obtain⟨rfl,rfl⟩:=h.fQ;obtain⟨x,y,hxy,e1,e2⟩:=args2 e;have h1:=e1 ▸ hx x (by simp[hxy]);have h2:=e2 ▸ hx y (by simp[hxy]);refine fU.eZ (x:=.int k _) hR ?_ (.pure (.int _ _));simp[execOp,ho,hcl,resolve,invoke,builtin,Builtin.min_,Builtin.min2,hxy,h1.iZ,h2.iZ]
 exact(fZ.bC h).elim
def aqz (hR:Rel cfg cx H D w I O) (ho:o.op=.call c) (hcl:c.callee=.builtin .max) (hx:∀x∈c.args.toList,fC w I O D (ρ x) (a.eval x))
  (h:fZ Sp H (iw cfg dY (.call c) ρ) v ups r):fU P cfg cx H D w I O dY o a v ups:=by
 simp only[iw,hcl]at h;split at h
 ·rename_i k n k' n' e;obtain⟨rfl,rfl⟩:=h.fQ;obtain⟨x,y,hxy,e1,e2⟩:=args2 e;have h1:=e1 ▸ hx x (by simp[hxy]);have h2:=e2 ▸ hx y (by simp[hxy]);refine fU.eZ (x:=.int k _) hR ?_ (.pure (.int _ _));simp[execOp,ho,hcl,resolve,invoke,builtin,Builtin.max_,Builtin.max2,hxy,h1.iZ,h2.iZ]
 exact(fZ.bC h).elim
theorem iI.field (hc:iI P cfg) {s:TypeId} {ts:RL} {f oo t:Nat} (h:look cfg.ty s=some ts) (hf:Qx ts f=some (oo,t)):
  ∃fields fd,P.underlying s=some (.struct fields)/\fields[f]? = some fd/\fd.offset=oo/\fd.type=t:=by
 obtain⟨_,dd,_,_,hud,_,_,_,_,_,_,_,hm⟩:=(hc.ty s ts h).ex;unfold Qx at hf;split at hf
 ·rename_i fs e;rw[e]at hm;obtain⟨fields,rfl,hfs⟩:=hm;subst hfs;have key:∀(l:List Field) (f:Nat),Yt (l.map λ f=>(f.offset,f.type)) f=some (oo,t)->∃fd,l[f]? = some fd/\fd.offset=oo/\fd.type=t:=by
   intro l;induction l with
   | nil=>intro f h;simp[Yt]at h
   | cons x l ih=>
    intro f h;cases f with
    | zero=>simp[Yt]at h;exact⟨x,rfl,h.1,h.2⟩
    | succ f=>simp only[List.map_cons,Yt]at h;simpa using ih f h
  obtain⟨fd,h1,h2,h3⟩:=key _ _ hf;exact⟨fields,fd,hud,by simpa using h1,h2,h3⟩
 cases hf
def NZ (l:aiA) (k j:Nat):nth (l.drop k) j=nth l (k+j):=by
 simp[vM]
theorem adN (hc:iI P cfg) (hR:Rel cfg cx H D w I O) {s:TypeId} {f:Nat} (ho:o.op=.fieldAddr s x f) (hx:fC w I O D (ρ x) (a.eval x))
  (h:fZ Sp H (iw cfg dY (.fieldAddr s x f) ρ) v ups r):fU P cfg cx H D w I O dY o a v ups:=by
 simp only[iw]at h;obtain⟨ts,hs,h1⟩:=h.mh;split at h1
 ·rename_i oo t hf;obtain⟨ti,ht,h2⟩:=h1.mh;obtain⟨hpos,h3⟩:=h2.dh;have hpos:0<ti.size:=by simpa using hpos
  obtain⟨fields,fd,hu,hfd,ho1,ho2⟩:=hc.field hs hf;obtain⟨i,_,_,hi,_,_,hsz,_⟩:=(hc.ty t ti ht).ex;have hne:¬ i.size=0:=by omega
  have place:∀b bo,(Instr.fieldAt s (.pointer (some ⟨b,bo,none⟩)) f).run P w=.ok (.pointer (some ⟨b,bo+oo,none⟩)) w:=by
   intro b bo;simp[Instr.fieldAt,Instr.sureAddr,cZ hu,hfd,fieldPlace,ho1,ho2,gP hi,hne,Addr.add_mid]
  split at h3
  ·rename_i ob i off e;rw[e]at hx;obtain⟨obj,_,nW,h4⟩:=h3.oD;obtain⟨rfl,rfl⟩:=h4.fQ;cases hp:O ob with
   | none=>rw[(hR.dom ob).1 hp]at nW;cases nW
   | some p=>
    obtain⟨b,bo,sz,h5,h6,h7⟩:=hx.pF hp;refine fU.eZ (x:=.pointer (some ⟨b,bo+(i*p.es+(off+oo)),none⟩)) hR ?_ (.ptr hp h5 h6);have:bo+(i*p.es+off)+oo=bo+(i*p.es+(off+oo)):=by omega
    simp[execOp,ho,h7,place,this]
  ·rename_i cs e;rw[e]at hx;obtain⟨rfl,rfl⟩:=h3.fQ;generalize hxv:a.eval x=xv at hx;cases hx.aai with
   | ro b off vs hI hm hr=>
    refine fU.eZ (x:=.pointer (some ⟨b,off+oo,none⟩)) hR (by simp[execOp,ho,hxv,place]) (.pure (.ro b (off+oo) (λ j=>vs (oo+j)) hI (λ j hj=>?_) λ j hj=>?_))
    ·have:=hm (oo+j) (by simp at hj;omega);rw[<- this,Nat.add_assoc]
    rw[NZ];exact hr (oo+j) (by simp at hj;omega)
  exact(fZ.bC h3).elim
 exact(fZ.bC h1).elim
end
end Go.Ab
namespace Go.Ab
section
variable {P:Program} {cfg:y9} {cx:Ctx} {H:Nat->Option eD} {D:Nat->Prop} {w:World} {I:Nat->Prop} {O:OM} {Sp:oZ}
variable {dY:Nat} {o:Oper} {a:Act} {ρ:Operand->AV} {v:AV} {ups:lK} {r:ahb}
variable {t:TypeId}
def iI.agg (hc:iI P cfg) {ti:RL} (h:look cfg.ty t=some ti):∃i d,P.info? t=some i/\P.underlying t=some d/\d.isRow=ti.agg/\i.size=ti.size:=by
 obtain⟨i,d,z,h1,h2,h3,h4,h5,h6,_⟩:=(hc.ty t ti h).ex;exact⟨i,d,h1,h2,h6,h4⟩
def Wv {d:TypeDesc} (h:P.underlying t=some d) (w:World):(isAgg t).run P w=.ok d.isRow w:=by
 unfold isAgg;rw[Sem.run_bind,cZ h w];cases d<;>simp
theorem rQ (hc:iI P cfg) {ti:RL} (ht:look cfg.ty t=some ti) {cs:aiA} (h:fZ Sp H (BN ti cs) v ups r) (b bo:Nat) (f:Nat->Value)
  (hm:∀j,j<cs.length->w.cell? ⟨b,bo+j,none⟩=some (f j)) (hr:∀j,j<cs.length->fC w I O D (nth cs j) (f j)):
  ups=[]/\∃x,(Instr.loadAt t (.pointer (some ⟨b,bo,none⟩))).run P w=.ok x w/\fC w I O D v x:=by
 obtain⟨i,d,hi,hu,hd,hs⟩:=hc.agg ht;unfold BN at h;cases ha:ti.agg with
 | true=>
  simp only[ha]at h;obtain⟨hl,h1⟩:=h.dh;obtain⟨rfl,rfl⟩:=h1.fQ;have hl:ti.size<=cs.length:=by simpa using hl
  refine⟨rfl,.agg ((List.range ti.size).map f).toArray,?_,.agg (by simp[Nat.min_eq_left hl]) λ j hj=>?_⟩
  ·refine run_loadAt_mid w b bo t _ d (λ j u hj=>?_) hu (by rw[hd,ha]) (by simp[hi,hs]);have hlt:j<ti.size:=by
    rcases Nat.lt_or_ge j ti.size with h | h
    ·exact h
    simp[h]at hj
   simp[hlt]at hj;rw[<- hj];exact hm j om
  have hj':j<ti.size:=by simp at hj;omega
  have e:nth (List.take ti.size cs) j=nth cs j:=by simp[vM,hj']
  rw[e];simpa[hj']using hr j om
 | false=>
  simp only[ha]at h;cases cs with
  | nil=>exact(fZ.bC h).elim
  | cons c cs=>
   obtain⟨rfl,rfl⟩:=h.fQ;refine⟨rfl,f 0,?_,hr 0 (by simp)⟩;have h0:=hm 0 (by simp);have hag:(isAgg t).run P w=.ok false w:=by rw[Wv hu,hd,ha]
   simp only[Nat.add_zero]at h0;simp[Instr.loadAt,Instr.sureAddr,loadVar,Sem.run_bind,hag,load,Sem.run,h0]
def Rel.live (hR:Rel cfg cx H D w I O) {ob:Nat} {x:eD} (h:H ob=some x):∃p,O ob=some p/\jm w I O D p x:=by
 cases hp:O ob with
 | none=>rw[(hR.dom ob).1 hp]at h;cases h
 | some p=>exact⟨p,rfl,hR.objs ob x p h hp⟩
def wu {b sz j:Nat} (h:NU w b sz) (hj:j<sz):w.cell? ⟨b,j,none⟩=some (cellAt w b j):=by
 obtain⟨u,hu⟩:=Option.isSome_iff_exists.1 (h j hj).1;simp[cellAt,hu]
def Zu {i j:Nat} (h:(isZ i&&isZ j)=true):i=0/\j=0:=by
 cases i<;>cases j<;>simp_all [isZ]
def aiT (l m:aiA) (j:Nat):nth (l++m) j=if j<l.length then nth l j else nth m (j - l.length):=by
 rw[vM,vM,vM];by_cases h:j<l.length
 ·rw[if_pos h];simp[List.getElem?_append_left h]
 rw[if_neg h];simp[List.getElem?_append_right (by omega:l.length<=j)]
variable {es:Nat}
def ab1 {g:Nat->AV}:∀(k i:Nat),(∀j,i<=j->j<i+k->(g j).cells.length=es)->(ji k i g).length=k*es/\∀a b,a<k->b<es->nth (ji k i g) (a*es+b)=nth (g (i+a)).cells b:=by
 intro k;induction k with
 | zero=>intro i _;exact⟨by simp[ji],λ a b h=>absurd h (Nat.not_lt_zero _)⟩
 | succ k ih=>
  intro i h;obtain⟨h1,h2⟩:=ih (i+1) (λ j hj hj'=>h j om om);have h0:=h i (Nat.le_refl _) om;refine⟨by simp only[ji,List.length_append,h0,h1];rw[Nat.succ_mul];omega,λ a b ha hb=>?_⟩;simp only[ji];rw[aiT,h0];cases a with
  | zero=>simp only[Nat.zero_mul,Nat.zero_add,Nat.add_zero];rw[if_pos hb]
  | succ a=>
   rw[if_neg (by rw[Nat.succ_mul];omega)];have e1:(a+1)*es+b - es=a*es+b:=by rw[Nat.succ_mul];omega
   rw[e1,h2 a b om hb];congr 2;congr 1;omega
variable {n:Nat}
def aqA {q:Nat} (h:q<n*es):q / es<n/\q % es<es/\q / es*es+q % es=q:=by
 have hes:0<es:=by
  rcases Nat.eq_zero_or_pos es with h0 | h0
  ·subst h0;simp at h
  exact h0
 refine⟨Nat.div_lt_of_lt_mul (by rw[Nat.mul_comm];exact h),Nat.mod_lt _ hes,?_⟩;rw[Nat.mul_comm];exact Nat.div_add_mod q es
def Uv {w:World} {I:Nat->Prop} {b bo:Nat} {g:Nat->AV} (hlen:∀i,i<n->(g i).cells.length=es) (hcs:∀i j,i<n->j<es->iH w I (nth (g i).cells j) (cellAt w b (bo+(i*es+j)))/\(cellAt w b (bo+(i*es+j))).oneCell'=true):
  (ji n 0 g).length=n*es/\∀q,q<(ji n 0 g).length->iH w I (nth (ji n 0 g) q) (cellAt w b (bo+q)):=by
 obtain⟨h1,h2⟩:=ab1 n 0 (λ j _ hj=>hlen j om);refine⟨h1,λ q hq=>?_⟩;rw[h1]at hq;obtain⟨h3,h4,h5⟩:=aqA hq;have h6:=h2 (q / es) (q % es) h3 h4;have h7:=(hcs (q / es) (q % es) h3 h4).1;rw[h5]at h6 h7;rw[h6,Nat.zero_add];exact h7
variable {x:Operand}
theorem aok (hc:iI P cfg) (hR:Rel cfg cx H D w I O) (ho:o.op=.load t x) (hx:fC w I O D (ρ x) (a.eval x))
  (h:fZ Sp H (iw cfg dY (.load t x) ρ) v ups r):fU P cfg cx H D w I O dY o a v ups:=by
 simp only[iw]at h;obtain⟨ti,ht,h1⟩:=h.mh;split at h1
 ·rename_i ob i off e;rw[e]at hx;obtain⟨obj,_,nW,h2⟩:=h1.oD;obtain⟨p,hp,hO⟩:=hR.live nW;obtain⟨b,bo,sz,hpl,hi,hxv⟩:=hx.pF hp;cases obj with
  | map=>exact(fZ.bC h2).elim
  | box cs=>
   obtain⟨hn,b',qy,sz',hpl',hal,hle,hcs⟩:=hO;rw[hpl]at hpl';cases hpl';have hi0:i=0:=by omega
   subst hi0;obtain⟨rfl,x',hrun,hrep⟩:=rQ (w:=w) (I:=I) (O:=O) (D:=D) hc ht h2 b (bo+off) (λ j=>cellAt w b (bo+(off+j)))
    (λ j hj=>by rw[Nat.add_assoc];exact wu hal (by simp at hj;omega)) (λ j hj=>by rw[NZ];exact hcs (off+j) (by simp at hj;omega))
   refine fU.eZ hR ?_ hrep;simp only[Nat.zero_mul,Nat.zero_add]at hxv;simp[execOp,ho,hxv,hrun]
  | row es n g=>
   obtain⟨hn,hes,hlen,hpl' | ⟨b',qy,sz',hpl',hal,hle,hcs⟩⟩:=hO
   ·rw[hpl]at hpl';cases hpl'.2
   rw[hpl]at hpl';cases hpl';simp only at h2;split at h2
   ·obtain⟨hz,h3⟩:=h2.dh;obtain⟨rfl,rfl⟩:=Zu hz;obtain⟨hrl,hrr⟩:=Uv hlen hcs;obtain⟨rfl,x',hrun,hrep⟩:=rQ (w:=w) (I:=I) (O:=O) (D:=D) hc ht h3 b bo (λ j=>cellAt w b (bo+j)) (λ j hj=>wu hal om) (λ j hj=>.pure (hrr j hj));refine fU.eZ hR ?_ hrep;simp only[Nat.zero_mul,Nat.zero_add,Nat.add_zero]at hxv;simp[execOp,ho,hxv,hrun]
   obtain⟨hk,h3⟩:=h2.dh;have hin:i<n:=by omega
   have hmul:(i+1)*es<=n*es:=Nat.mul_le_mul_right _ hin;have ayn:(i+1)*es=i*es+es:=Nat.succ_mul _ _;have hli:=hlen i hin;obtain⟨rfl,x',hrun,hrep⟩:=rQ (w:=w) (I:=I) (O:=O) (D:=D) hc ht h3 b (bo+(i*es+off)) (λ j=>cellAt w b (bo+(i*es+(off+j))))
    (λ j hj=>by
      have:bo+(i*es+off)+j=bo+(i*es+(off+j)):=by omega
      rw[this]
      exact wu hal (by simp at hj;omega)) (λ j hj=>by rw[NZ];exact .pure (hcs i (off+j) hin (by simp at hj;omega)).1)
   refine fU.eZ hR ?_ hrep;rw[hes]at hxv;simp[execOp,ho,hxv,hrun]
 ·rename_i cs e;rw[e]at hx;generalize hxv:a.eval x=xv at hx;cases hx.aai with
  | ro b off vs hI hm hr=>
   obtain⟨rfl,x',hrun,hrep⟩:=rQ (w:=w) (I:=I) (O:=O) (D:=D) hc ht h1 b off vs hm (λ j hj=>.pure (hr j hj));exact fU.eZ hR (by simp[execOp,ho,hxv,hrun]) hrep
 exact(fZ.bC h1).elim
theorem alC (hc:iI P cfg) (hR:Rel cfg cx H D w I O) {s:TypeId} {f:Nat} (ho:o.op=.field s x f) (hx:fC w I O D (ρ x) (a.eval x))
  (h:fZ Sp H (iw cfg dY (.field s x f) ρ) v ups r):fU P cfg cx H D w I O dY o a v ups:=by
 simp only[iw]at h;obtain⟨ts,hs,h1⟩:=h.mh;split at h1
 ·rename_i oo t hf;obtain⟨ti,ht,h2⟩:=h1.mh;obtain⟨fields,fd,hu,hfd,ho1,ho2⟩:=hc.field hs hf;obtain⟨i,d,hi,hu',hd,hsz⟩:=hc.agg ht;split at h2
  ·rename_i cs e;rw[e]at hx;obtain⟨vs,hxv,hl,hr⟩:=hx.xq;have hag:=Wv hu' w;unfold BN at h2;cases ha:ti.agg with
   | true=>
    simp only[ha]at h2;obtain⟨hle,h3⟩:=h2.dh;obtain⟨rfl,rfl⟩:=h3.fQ;have hle:ti.size<=cs.length - oo:=by simpa using hle
    rw[hd,ha]at hag;have e1:(part t vs oo).run P w=.ok (.agg (vs.extract oo (oo+ti.size))) w:=by simp[part,Sem.run_bind,hag,gP hi,hsz]
    refine fU.eZ (x:=.agg (vs.extract oo (oo+ti.size))) hR ?_ (.agg ?_ λ j hj=>?_)
    ·rw[<- ho2]at e1;simp only[execOp,ho,Instr.field,hxv,Sem.run_bind,cZ hu,hfd,asAgg,Sem.run_pure,Result.andThen_ok,e1,ho1]
    ·simp;omega
    have hj':j<ti.size:=by simp at hj;omega
    have:=hr (oo+j) om;have e:nth (List.take ti.size (List.drop oo cs)) j=nth cs (oo+j):=by simp[vM,hj']
    rw[e];have h4:oo+j<vs.size:=by omega
    simp[h4]at this;have h5:(vs.extract oo (oo+ti.size))[j]? = vs[oo+j]? := by
     rw[Array.getElem?_extract,if_pos om]
    simp only[Array.getD_eq_getD_getElem?, h5];simpa[h4]using this
   | false=>
    simp only[ha]at h2;rw[hd,ha]at hag;cases hcs:List.drop oo cs with
    | nil=>simp only[hcs]at h2;exact(fZ.bC h2).elim
    | cons c l=>
     simp only[hcs]at h2;obtain⟨rfl,rfl⟩:=h2.fQ;have hlt:oo<cs.length:=by
      rcases Nat.lt_or_ge oo cs.length with h | h
      ·exact h
      rw[List.drop_eq_nil_of_le h]at hcs;cases hcs
     have hc0:nth cs oo=v:=by
      have:=NZ cs oo 0;rw[hcs]at this;simpa[nth]using this.symm
     have h4:oo<vs.size:=by omega
     have e1:(part t vs oo).run P w=.ok (vs.getD oo Go.undef) w:=by simp[part,Sem.run_bind,hag,Array.getElem?_eq_getElem h4]
     refine fU.eZ (x:=vs.getD oo Go.undef) hR ?_ (hc0 ▸ hr oo hlt);rw[<- ho2]at e1;simp only[execOp,ho,Instr.field,hxv,Sem.run_bind,cZ hu,hfd,asAgg,Sem.run_pure,Result.andThen_ok,e1,ho1]
  exact(fZ.bC h2).elim
 exact(fZ.bC h1).elim
def zD {size:Nat} (h:SK es n size=true) (hn:n≠0):es=size:=by
 unfold SK at h;cases hb:Nat.beq es size with
 | true=>exact Nat.eq_of_beq_eq_true hb
 | false=>
  simp only[hb]at h;cases n with
  | zero=>exact absurd rfl hn
  | succ n=>simp[isZ]at h
def Uw (i j:Nat):addN i j=i+j:=by cases i<;>simp[addN]
def acU (hc:iI P cfg) {et:Nat} (h:alo cfg t=some (n,et)):P.underlying t=some (.array n et)/\∃ti,look cfg.ty t=some ti/\Z6 ti.desc=some (n,et):=by
 unfold alo at h;split at h
 ·rename_i ti ht;refine⟨?_,ti,ht,h⟩;obtain⟨_,d,_,_,hu,_,_,_,_,_,_,_,hm⟩:=(hc.ty t ti ht).ex;unfold Z6 at h;split at h
  ·rename_i n' e' hd;cases h;rw[hd]at hm;have hm:d=.array n et:=hm;rw[hu,hm]
  cases h
 cases h
theorem adO (hc:iI P cfg) (hR:Rel cfg cx H D w I O) {ix:Operand} (ho:o.op=.indexAddr t x ix) (hx:fC w I O D (ρ x) (a.eval x)) (hix:fC w I O D (ρ ix) (a.eval ix))
  (h:fZ Sp H (iw cfg dY (.indexAddr t x ix) ρ) v ups r):fU P cfg cx H D w I O dY o a v ups:=by
 simp only[iw]at h;split at h
 ·rename_i n et harr;obtain⟨hu,_⟩:=acU hc harr;obtain⟨ei,hei,h1⟩:=h.mh;split at h1
  ·rename_i k ii ob j off e1 e2;rw[e1]at hix;rw[e2]at hx;have afe:=hix.iZ;obtain⟨obj,_,nW,h2⟩:=h1.oD;obtain⟨p,hp,hO⟩:=hR.live nW;obtain⟨b,bo,sz,hpl,hjn,hxv⟩:=hx.pF hp;cases obj with
   | map=>exact(fZ.bC h2).elim
   | box cs=>exact(fZ.bC h2).elim
   | row es n' g=>
    obtain⟨c1,h3⟩:=h2.dh;obtain⟨c2,h4⟩:=h3.dh;obtain⟨c3,h5⟩:=h4.dh;obtain⟨⟨hn0,hn1⟩,rfl,rfl⟩:=h5.iL;obtain⟨rfl,rfl⟩:=Zu c1;have c2:es=ei.size:=Nat.eq_of_beq_eq_true c2;have c3:n'=n:=Nat.eq_of_beq_eq_true c3;have Ww:p.es=es:=hO.2.1;have hpn:p.n=n':=hO.1;obtain⟨i,_,z,hi,_,hz,hs,_⟩:=(hc.ty et ei hei).ex;simp only[Nat.zero_mul,Nat.add_zero]at hxv;refine fU.eZ (x:=.pointer (some ⟨b,bo+(ii.toNat*p.es+0),none⟩)) hR ?_ (.ptr hp hpl om);simp[execOp,ho,hxv,afe,Instr.indexAt,asIntOf,Instr.sureAddr,cZ hu,gP hi,hn0,hn1,hs,<- c2,Ww,Addr.add_mid]
  exact(fZ.bC h1).elim
 obtain⟨tt,e,ti,h1,h2,h3,h4⟩:=h.qA;obtain⟨hu,i,z,hi,hz,hs,hby,hzs⟩:=hc.slice h1 h2 h3;split at h4
 ·rename_i k n eix;rw[eix]at hix;have afe:=hix.iZ;split at h4
  ·rename_i es m full g ex;rw[ex]at hx;obtain⟨hes,h5⟩:=h4.dh;obtain⟨⟨hn0,hn1⟩,rfl,rfl⟩:=h5.iL;generalize hxv:a.eval x=xv at hx;cases hx.BQ with
   | @sl _ _ _ _ aa cap b off vs hcap hfull ha hes' hm h1 hr=>
    have hm0:m≠0:=by omega
    obtain⟨rfl,hI⟩:=ha hm0;have au3:=zD hes hm0;have hnm:n.toNat<m:=by omega
    refine fU.eZ (x:=.pointer (some ⟨b,off+n.toNat*es,none⟩)) hR ?_ (.pure (.ro b (off+n.toNat*es) (λ j=>vs n.toNat j) hI (λ j hj=>?_) λ j hj=>hr _ _ hnm (by rw[hes' _ hnm]at hj;exact hj)))
    ·simp[execOp,ho,hxv,afe,Instr.indexAt,asIntOf,cZ hu,gP hi,hn0,hn1,hs,au3,Addr.add_mid]
    rw[Nat.add_assoc];exact hm _ _ hnm (by rw[hes' _ hnm]at hj;exact hj)
  ·rename_i ob j m full ex;rw[ex]at hx;obtain⟨obj,_,nW,h5⟩:=h4.oD;obtain⟨p,hp,hO⟩:=hR.live nW;cases obj with
   | map=>exact(fZ.bC h5).elim
   | box cs=>exact(fZ.bC h5).elim
   | row es n' g=>
    obtain⟨hes,h6⟩:=h5.dh;have hes:es=ti.size:=Nat.eq_of_beq_eq_true hes;obtain⟨⟨hn0,hn1⟩,rfl,rfl⟩:=h6.iL;obtain⟨aa,cap,hxv,hjm,hcap,hfull,hpl⟩:=hx.nH hp;obtain⟨b,bo,sz,aff,rfl,hle⟩:=hpl om;have Ww:p.es=es:=hO.2.1;have hnm:n.toNat<m:=by omega
    rw[Uw];have:bo+j*p.es+n.toNat*p.es=bo+((j+n.toNat)*p.es+0):=by rw[Nat.add_mul];omega
    refine fU.eZ (x:=.pointer (some ⟨b,bo+((j+n.toNat)*p.es+0),none⟩)) hR ?_ (.ptr hp aff om);rw[<- this];simp[execOp,ho,hxv,afe,Instr.indexAt,asIntOf,cZ hu,gP hi,hn0,hn1,hs,<- hes,Ww,Addr.add_mid]
  exact(fZ.bC h4).elim
 exact(fZ.bC h4).elim
end
end Go.Ab
namespace Go.Ab
section
variable {P:Program} {cfg:y9} {cx:Ctx} {H:Nat->Option eD} {D:Nat->Prop} {w:World} {I:Nat->Prop} {O:OM} {Sp:oZ}
variable {dY:Nat} {o:Oper} {a:Act} {ρ:Operand->AV} {v:AV} {ups:lK} {r:ahb}
variable {t:TypeId}
def RO {e:TypeId} {i:TypeInfo} (hu:P.underlying t=some (.slice e)) (hi:P.info? e=some i) (aa:Option Addr) (len cap:Nat) (lo hi' mx:Option Value) (l h m:Nat)
  (hb:(Instr.sliceBounds true len cap lo hi' mx).run P w=.ok (l,h,m) w):
  (Instr.sliceAt t (.slice aa len cap) lo hi' mx).run P w=.ok (.slice (if m=l then aa else aa.map (·.add (l*i.size))) (h - l) (m - l)) w:=by
 simp[Instr.sliceAt,Instr.slice,cZ hu,hb,gP hi]
def ata (len cap:Nat):(Instr.sliceBounds true len cap none none none).run P w=.ok (0,len,cap) w:=by
 simp[Instr.sliceBounds]
def atb (len cap:Nat) (k:IntKind) (h:Int) (h0:0<=h) (h1:h<=cap):(Instr.sliceBounds true len cap none (some (.int k h)) none).run P w=.ok (0,h.toNat,cap) w:=by
 simp[Instr.sliceBounds,Instr.sliceBound,asIntOf,h0,h1]
def atc (len cap:Nat) (k:IntKind) (h:Int) (h0:0<=h) (h1:h<=cap):(Instr.sliceBounds true len cap none (some (.int k h)) (some (.int k h))).run P w=.ok (0,h.toNat,h.toNat) w:=by
 obtain⟨n,rfl⟩:=Int.eq_ofNat_of_zero_le h0;simp at h1;simp[Instr.sliceBounds,Instr.sliceBound,asIntOf,h1]
def atd (len cap:Nat) (k:IntKind) (l:Int) (h0:0<=l) (h1:l<=len):(Instr.sliceBounds true len cap (some (.int k l)) none none).run P w=.ok (l.toNat,len,cap) w:=by
 simp[Instr.sliceBounds,Instr.sliceBound,asIntOf,h0,h1]
def ate (len cap:Nat) (k k':IntKind) (l h:Int) (h0:0<=l) (h1:l<=h) (h2:h<=cap):(Instr.sliceBounds true len cap (some (.int k l)) (some (.int k' h)) none).run P w=.ok (l.toNat,h.toNat,cap) w:=by
 obtain⟨n,rfl⟩:=Int.eq_ofNat_of_zero_le h0;obtain⟨m,rfl⟩:=Int.eq_ofNat_of_zero_le (Int.le_trans h0 h1);simp at h1 h2;simp[Instr.sliceBounds,Instr.sliceBound,asIntOf,h1,h2]
def atf (len cap:Nat) (k k':IntKind) (l h:Int) (h0:0<=l) (h1:l<=h) (h2:h<=cap):(Instr.sliceBounds true len cap (some (.int k l)) (some (.int k' h)) (some (.int k' h))).run P w=.ok (l.toNat,h.toNat,h.toNat) w:=by
 obtain⟨n,rfl⟩:=Int.eq_ofNat_of_zero_le h0;obtain⟨m,rfl⟩:=Int.eq_ofNat_of_zero_le (Int.le_trans h0 h1);simp at h1 h2;simp[Instr.sliceBounds,Instr.sliceBound,asIntOf,h1,h2]
theorem ahn {es n cap size l h m:Nat} {full xw:Bool} {g:Nat->AV} {aa:Option Addr} (hp:iH w I (.sl es n full g) (.slice aa n cap)) (hlh:l<=h) (hhn:h<=n) (hhm:h<=m) (_hmc:m<=cap)
  (hf:xw=true->m=h) (hs:n≠0->es=size):iH w I (.sl es (h - l) xw (λ j=>g (l+j))) (.slice (if m=l then aa else aa.map (·.add (l*size))) (h - l) (m - l)):=by
 cases hp with
 | sl b off vs hcap hfull ha hes hm h1 hr=>
  refine .sl b (off+l*es) (λ i j=>vs (l+i) j) om (λ e=>by have:=hf e;omega) (λ hne=>?_) (λ i hi=>hes _ om) (λ i j hi hj=>?_) (λ i j hi hj=>h1 _ _ om hj) (λ i j hi hj=>hr _ _ om hj)
  ·obtain⟨h1,h2⟩:=ha om;rw[if_neg om,h1,hs om];simp[Addr.add_mid,h2]
  have:=hm (l+i) j om hj;rw[<- this,Nat.add_mul];congr 2;omega
def Wx {x y:Option Operand} (h:Ga x y=true):x=y:=by
 unfold Ga at h;split at h
 ·rw[Nat.eq_of_beq_eq_true h]
 cases h
variable {mx:Option Operand}
def aiU (h:(!mx.isSome)=true):mx=none:=by
 cases mx with
 | none=>rfl
 | some _=>cases h
variable {hi:Option Operand}
def alD {k:Pg} (hhi:∀y,hi=some y->fC w I O D (ρ y) (a.eval y)) (hmx:∀y,mx=some y->fC w I O D (ρ y) (a.eval y)) (h:fZ Sp H (ajM ρ hi mx k) v ups r):(∃r',fZ Sp H k v ups r')/\(mx.isSome=true->mx.map a.eval=hi.map a.eval):=by
 unfold ajM at h;cases mx with
 | none=>exact⟨⟨_,h⟩,nofun⟩
 | some m=>
  cases hi with
  | none=>exact(fZ.bC h).elim
  | some y=>
   simp only at h;have h1:=hhi y rfl;have h2:=hmx m rfl;split at h
   ·rename_i kk a1 kk' b1 e1 e2;obtain⟨hk,h⟩:=h.dh;obtain⟨he,h⟩:=h.xu;refine⟨⟨_,h⟩,λ _=>?_⟩;rw[e1]at h1;rw[e2]at h2;have hk:kk=kk':=of_decide_eq_true hk;simp only[Option.map_some];rw[h1.iZ,h2.iZ,hk,he]
   exact(fZ.bC h).elim
def alE (n:Nat):(Instr.sliceBounds false n n none none none).run P w=.ok (0,n,n) w:=by simp[Instr.sliceBounds]
def alF (n:Nat) (k:IntKind) (h:Int) (h0:0<=h) (h1:h<=n):(Instr.sliceBounds false n n none (some (.int k h)) none).run P w=.ok (0,h.toNat,n) w:=by
 simp[Instr.sliceBounds,Instr.sliceBound,asIntOf,h0,h1]
variable {x:Operand} {lo:Option Operand}
theorem ajU (hc:iI P cfg) (hR:Rel cfg cx H D w I O) (ho:o.op=.slice t x lo hi mx) (hx:fC w I O D (ρ x) (a.eval x)) (hhi:∀y,hi=some y->fC w I O D (ρ y) (a.eval y)) {n et:Nat} (harr:alo cfg t=some (n,et))
  (h:fZ Sp H (Wp cfg et λ ei=>gT mx.isNone (match ρ x with
    | .ptr o i off=>.rd o λ
     | .row es n' _=>gT (isZ i&&isZ off) (gT (Nat.beq es ei.size) (gT (Nat.beq n' n) (alr o n (lo.map ρ) (hi.map ρ))))
     | _=>.fail
    | _=>.fail)) v ups r):fU P cfg cx H D w I O dY o a v ups:=by
 obtain⟨hu,_⟩:=acU hc harr;obtain⟨ei,hei,h1⟩:=h.mh;obtain⟨hmx,h2⟩:=h1.dh;have hmx:mx=none:=by cases mx with | none=>rfl | some _=>cases hmx
 subst hmx;split at h2
 ·rename_i ob j off e1;rw[e1]at hx;obtain⟨obj,_,nW,h3⟩:=h2.oD;obtain⟨p,hp,hO⟩:=hR.live nW;obtain⟨b,bo,sz,hpl,hjn,hxv⟩:=hx.pF hp;cases obj with
  | map=>exact(fZ.bC h3).elim
  | box cs=>exact(fZ.bC h3).elim
  | row es n' g=>
   obtain⟨c1,h4⟩:=h3.dh;obtain⟨c2,h5⟩:=h4.dh;obtain⟨c3,h6⟩:=h5.dh;obtain⟨rfl,rfl⟩:=Zu c1;have c2:es=ei.size:=Nat.eq_of_beq_eq_true c2;have c3:n'=n:=Nat.eq_of_beq_eq_true c3;subst c3;have Ww:p.es=es:=hO.2.1;have hpn:p.n=n':=hO.1;have hsz:bo+n'*es<=sz:=by
    obtain⟨_,_,_,hq | ⟨b',qy,sz',hpl',_,hle,_⟩⟩:=hO
    ·rw[hpl]at hq;cases hq.2
    rw[hpl]at hpl';cases hpl';exact hle
   obtain⟨i,_,z,aol,_,hz,hs,_⟩:=(hc.ty et ei hei).ex;simp only[Nat.zero_mul,Nat.add_zero]at hxv;have fin:∀(k:Nat) (full:Bool),k<=n'->(full=true->n'=k)->fC w I O D (.eO ob 0 k full) (.slice (some ⟨b,bo,none⟩) k n'):=λ k full hk hf=>
    .eO hp om hk hf (λ _=>⟨b,bo,sz,hpl,by simp,by rw[Ww,Nat.zero_add];exact hsz⟩) om
   unfold alr at h6;split at h6
   ·rename_i e2 e3;obtain⟨rfl,rfl⟩:=h6.fQ;have hlo:lo=none:=by cases lo with | none=>rfl | some _=>cases e2
    have au4:hi=none:=by cases hi with | none=>rfl | some _=>cases e3
    subst hlo;subst au4;refine fU.eZ (x:=.slice (some ⟨b,bo,none⟩) n' n') hR ?_ (fin n' true (Nat.le_refl _) (λ _=>rfl));have e0:(⟨b,bo,none⟩:Addr).add 0=⟨b,bo,none⟩:=by rw[Addr.add_mid];rfl
    by_cases hz0:n'=0
    ·simp[execOp,ho,hxv,Instr.sliceAt,Instr.sureAddr,cZ hu,alE,gP aol,hz0]
    simp[execOp,ho,hxv,Instr.sliceAt,Instr.sureAddr,cZ hu,alE,gP aol,hz0,e0]
   ·rename_i k hh e2 e3;obtain⟨⟨q0,q1⟩,rfl,rfl⟩:=h6.iL;have hlo:lo=none:=by cases lo with | none=>rfl | some _=>cases e2
    subst hlo;obtain⟨y,hy,ey⟩:∃y,hi=some y/\ρ y=.int k hh:=by
     cases hi with
     | none=>cases e3
     | some y=>exact⟨y,rfl,by simpa using e3⟩
    subst hy;have hyv:=hhi y rfl;rw[ey]at hyv;have hyv:=hyv.iZ;refine fU.eZ (x:=.slice (some ⟨b,bo,none⟩) hh.toNat n') hR ?_ (fin hh.toNat false om (λ h=>by cases h));by_cases hz0:n'=0
    ·have hb0:=alF (P:=P) (w:=w) n' k hh q0 q1;have ht0:hh.toNat=0:=by omega
     rw[ht0]at hb0 ⊢;rw[hz0]at hb0 hu ⊢;simp[execOp,ho,hxv,hyv,Instr.sliceAt,Instr.sureAddr,cZ hu,hb0,gP aol]
    simp[execOp,ho,hxv,hyv,Instr.sliceAt,Instr.sureAddr,cZ hu,alF n' k hh q0 q1,gP aol,hz0,(show(⟨b,bo,none⟩:Addr).add 0=⟨b,bo,none⟩ by rw[Addr.add_mid];rfl)]
   exact(fZ.bC h6).elim
 exact(fZ.bC h2).elim
theorem ajV (hc:iI P cfg) (hR:Rel cfg cx H D w I O) (ho:o.op=.slice t x lo hi mx) {ob i n:Nat} {f:Bool} (hx:fC w I O D (.eO ob i n f) (a.eval x))
  (hlo:∀y,lo=some y->fC w I O D (ρ y) (a.eval y)) (hhi:∀y,hi=some y->fC w I O D (ρ y) (a.eval y)) (hmx:∀y,mx=some y->fC w I O D (ρ y) (a.eval y))
  (h:fZ Sp H (Er cfg t λ ti=>.rd ob λ
    | .row es N _=>gT (Nat.beq es ti.size) (alc ob i n N f (lo.map ρ) (hi.map ρ) (mx.map ρ))
    | _=>.fail) v ups r):fU P cfg cx H D w I O dY o a v ups:=by
 obtain⟨tt,e,ti,h1,h2,h3,h4⟩:=h.qA;obtain⟨hu,ii,z,hi',hz,hs,hby,hzs⟩:=hc.slice h1 h2 h3;obtain⟨obj,_,nW,h5⟩:=h4.oD;obtain⟨p,hp,hO⟩:=hR.live nW;cases obj with
 | map=>exact(fZ.bC h5).elim
 | box cs=>exact(fZ.bC h5).elim
 | row es N g=>
  obtain⟨c1,h6⟩:=h5.dh;have c1:es=ti.size:=Nat.eq_of_beq_eq_true c1;have Ww:p.es=es:=hO.2.1;have hpn:p.n=N:=hO.1;obtain⟨aa,cap,hxv,a1,a2,a3,a4⟩:=hx.nH hp;have hext:p.n<=i+cap:=(hxv ▸ hx).Gb hp;have arg:∀(q:Option Operand) (k:IntKind) (m:Int),(∀y,q=some y->fC w I O D (ρ y) (a.eval y))->q.map ρ=some (.int k m)->q.map a.eval=some (.int k m):=by
   intro q k m hq hm;cases q with
   | none=>cases hm
   | some y=>
    have:=hq y rfl;simp only[Option.map_some,Option.some.injEq]at hm ⊢;rw[hm]at this;exact this.iZ
  have non:∀(q:Option Operand),q.map ρ=none->q=none:=λ q hq=>by cases q with | none=>rfl | some _=>cases hq
  have part:∀l hh xw,l<=hh->i+hh<=N->(xw=true->f=true/\hh=n)->fC w I O D (.eO ob (i+l) (hh - l) xw) (.slice (if cap=l then aa else aa.map (·.add (l*ii.size))) (hh - l) (cap - l)):=by
   intro l hh xw q1 q2 q3;have hhc:hh<=cap:=by omega
   refine .eO hp om om (λ hf=>?_) (λ hne=>?_) om
   ·obtain⟨e1,e2⟩:=q3 hf;have:=a3 e1;omega
   obtain⟨b,bo,sz,e1,e2,e3⟩:=a4 om;refine⟨b,bo,sz,e1,?_,?_⟩
   ·rw[if_neg om,e2];simp only[Option.map_some,Addr.add_mid,Option.some.injEq];rw[Ww,hs,<- c1,Nat.add_mul];congr 1;omega
   have:i+l+(cap - l)=i+cap:=by omega
   rw[this];exact e3
  have run:∀(l hh m:Nat),(Instr.sliceBounds true n cap (lo.map a.eval) (hi.map a.eval) (mx.map a.eval)).run P w=.ok (l,hh,m) w->(execOp a.eval o).run P w=.ok (.value (.slice (if m=l then aa else aa.map (·.add (l*ii.size))) (hh - l) (m - l))) w:=by
   intro l hh m hb;have:=RO (P:=P) hu hi' aa n cap _ _ _ l hh m hb;simp only[execOp,ho,hxv,this,Sem.run_bind,Sem.run_pure,Result.andThen_ok]
  unfold alc at h6;split at h6
  ·rename_i k m em;have hm:=arg mx k m hmx em;split at h6
   ·rename_i k1 l k2 hh el eh;obtain⟨⟨q1,q2,q3,q4⟩,rfl,rfl⟩:=h6.iL;have hl:=arg lo k1 l hlo el;have hh':=arg hi k2 hh hhi eh;refine fU.eZ hR (run l.toNat hh.toNat m.toNat ?_) (.pure (.undef _));rw[hl,hh',hm];obtain⟨l',rfl⟩:=Int.eq_ofNat_of_zero_le q1;obtain⟨h',rfl⟩:=Int.eq_ofNat_of_zero_le (show 0<=hh by omega);obtain⟨m',rfl⟩:=Int.eq_ofNat_of_zero_le (show 0<=m by omega);have z1:(m':Int)<=(cap:Int):=by omega
    have z2:(h':Int)<=(m':Int):=q3;have z3:(l':Int)<=(h':Int):=q2;have z4:(0:Int)<=(m':Int):=by omega
    have z5:(0:Int)<=(h':Int):=by omega
    have z6:(0:Int)<=(l':Int):=by omega
    have b1:∀(k:IntKind) (x y:Nat) (cd:BoundsCode),(x:Int)<=(y:Int)->(Instr.sliceBound (.int k x) y cd).run P w=.ok x w:=λ k x y cd hxy=>by
     have hx0:(0:Int)<=(x:Int):=by omega
     simp only[Instr.sliceBound,asIntOf,Sem.run_bind,Sem.run_pure,Result.andThen_ok];rw[if_pos ⟨hx0,hxy⟩];simp
    simp only[Instr.sliceBounds,Sem.run_bind,b1 _ _ _ _ z1,b1 _ _ _ _ z2,b1 _ _ _ _ z3,Result.andThen_ok,Sem.run_pure,Int.toNat_natCast]
   ·rename_i k2 hh el eh;obtain⟨⟨q1,q2,q3⟩,rfl,rfl⟩:=h6.iL;have hl:=non lo el;subst hl;have hh':=arg hi k2 hh hhi eh;have em0:m=0:=by omega
    have eh0:hh=0:=by omega
    subst em0;subst eh0;refine fU.eZ (x:=.slice aa 0 0) hR ?_ (.pure (.sl 0 0 (λ _ _=>Go.undef) (Nat.zero_le _) (λ _=>rfl) (λ h=>absurd rfl h) (λ _ h=>absurd h (Nat.not_lt_zero _)) (λ _ _ h=>absurd h (Nat.not_lt_zero _)) (λ _ _ h=>absurd h (Nat.not_lt_zero _)) (λ _ _ h=>absurd h (Nat.not_lt_zero _))));have b1:∀(k:IntKind) (y:Nat) (cd:BoundsCode),(Instr.sliceBound (.int k 0) y cd).run P w=.ok 0 w:=λ k y cd=>by
     have hx0:(0:Int)<=(0:Int):=by omega
     have hxy:(0:Int)<=(y:Int):=by omega
     simp only[Instr.sliceBound,asIntOf,Sem.run_bind,Sem.run_pure,Result.andThen_ok];rw[if_pos ⟨hx0,hxy⟩];simp
    have:=run 0 0 0 (by
     rw[hh',hm]
     simp[Instr.sliceBounds,b1])
    simpa using this
   exact(fZ.bC h6).elim
  ·exact(fZ.bC h6).elim
  rename_i em;have hm:=non mx em;subst hm;split at h6
  ·rename_i el eh;obtain⟨rfl,rfl⟩:=h6.fQ;have:=non lo el;subst this;have:=non hi eh;subst this;refine fU.eZ hR (run 0 n cap (ata n cap)) ?_;have hh:(.slice (if cap=0 then aa else aa.map (·.add (0*ii.size))) (n - 0) (cap - 0):Value)=.slice aa n cap:=by
    by_cases hz:cap=0
    ·simp[hz]
    obtain⟨b,bo,sz,_,e2,_⟩:=a4 hz;rw[if_neg hz,e2];simp[Addr.add_mid]
   rw[hh,<- hxv];exact hx
  ·rename_i k hh el eh;obtain⟨⟨q1,q2⟩,rfl,rfl⟩:=h6.iL;have:=non lo el;subst this;have hh':=arg hi k hh hhi eh;refine fU.eZ hR (run 0 hh.toNat cap (by rw[hh'];exact atb n cap k hh q1 om)) ?_;have:=part 0 hh.toNat false (Nat.zero_le _) om (λ h=>by cases h);simpa using this
  ·rename_i k l el eh;obtain⟨⟨q1,q2⟩,rfl,rfl⟩:=h6.iL;have:=non hi eh;subst this;have hl:=arg lo k l hlo el;exact fU.eZ hR (run l.toNat n cap (by rw[hl];exact atd n cap k l q1 q2)) (part l.toNat n f om om (λ h=>⟨h,rfl⟩))
  ·rename_i k l k2 hh el eh;obtain⟨⟨q1,q2,q3⟩,rfl,rfl⟩:=h6.iL;have hl:=arg lo k l hlo el;have hh':=arg hi k2 hh hhi eh;exact fU.eZ hR (run l.toNat hh.toNat cap (by rw[hl,hh'];exact ate n cap k k2 l hh q1 q2 om)) (part l.toNat hh.toNat false om om (λ h=>by cases h))
  exact(fZ.bC h6).elim
theorem alG (hc:iI P cfg) (hR:Rel cfg cx H D w I O) (ho:o.op=.slice t x lo hi mx) (hx:fC w I O D (ρ x) (a.eval x))
  (hlo:∀y,lo=some y->fC w I O D (ρ y) (a.eval y)) (hhi:∀y,hi=some y->fC w I O D (ρ y) (a.eval y)) (hmx:∀y,mx=some y->fC w I O D (ρ y) (a.eval y))
  (h:fZ Sp H (iw cfg dY (.slice t x lo hi mx) ρ) v ups r):fU P cfg cx H D w I O dY o a v ups:=by
 simp only[iw]at h;split at h
 ·rename_i n et harr;exact ajU hc hR ho hx hhi harr h
 split at h
 ·rename_i e1;exact ajV hc hR ho (e1 ▸ hx) hlo hhi hmx h
 rename_i hno;obtain⟨⟨r0,h0⟩,hmax⟩:=alD hhi hmx h;clear h;obtain⟨tt,e,ti,h1,h2,h3,h4⟩:=h0.qA;obtain⟨hu,i,z,hi',hz,hs,hby,hzs⟩:=hc.slice h1 h2 h3;clear h0;obtain⟨aa,n,cap,xa,hxv,apE,part,h5⟩:∃aa n cap xa,a.eval x=.slice aa n cap/\n<=cap/\(∀(v:AV),xa=v->
   (∀es full g,xa=.sl es n full g->(full=true->cap=n)/\∀l h m xw,l<=h->h<=n->h<=m->m<=cap->(xw=true->m=h)->fC w I O D (.sl es (h - l) xw (λ j=>g (l+j))) (.slice (if m=l then aa else aa.map (·.add (l*i.size))) (h - l) (m - l)))/\
   (∀ob j n' full,xa≠.eO ob j n' full)/\
   (∀es n' full g,xa=.sl es n' full g->n'=n))/\∃r',fZ Sp H (Zn xa (lo.map ρ) (hi.map ρ) mx.isSome mx.isSome) v ups r':=by
  split at h4
  ·rename_i es n f g ex
   rw[ex]at hx
   obtain⟨hes,h5⟩:=h4.dh
   generalize hxv:a.eval x=xv at hx
   have hp:=hx.BQ
   cases hp with
   | @sl _ _ _ _ aa cap b off vs hcap hfull ha hes' hm h11 hr=>
    refine⟨aa,n,cap,.sl es n f g,rfl,hcap,λ v _=>⟨λ es' xw g' e=>?_,λ _ _ _ _ e=>(by cases e),λ _ _ _ _ e=>(by cases e;rfl)⟩,_,h5⟩
    cases e
    exact⟨hfull,λ l h m xw q1 q2 q3 q4 q5=>.pure (ahn (iH.sl b off vs hcap hfull ha hes' hm h11 hr) q1 q2 q3 q4 q5 (λ hn=>by rw[hs];exact zD hes hn))⟩
  ·rename_i ob j n f ex
   exact(hno _ _ _ _ ex).elim
  exact(fZ.bC h4).elim
 obtain⟨r',h5⟩:=h5;clear h4 hx;obtain⟨psl,aom,alH⟩:=part xa rfl;have done:∀ {l h m:Nat} {x':Value},(Instr.sliceBounds true n cap (lo.map a.eval) (hi.map a.eval) (mx.map a.eval)).run P w=.ok (l,h,m) w->x'=.slice (if m=l then aa else aa.map (·.add (l*i.size))) (h - l) (m - l)->ups=[]->fC w I O D v x'->fU P cfg cx H D w I O dY o a v ups:=by
  intro l h m x' hb hx' hu0 hv;subst hu0;refine fU.eZ (x:=x') hR ?_ hv;rw[hx'];simp[execOp,ho,hxv,RO hu hi' aa n cap _ _ _ l h m hb]
 unfold Zn at h5;split at h5
 ·rename_i e1 e2;obtain⟨hm,h6⟩:=h5.dh;have hmx:mx=none:=aiU hm;have e1':lo=none:=by simpa using e1
  have e2':hi=none:=by simpa using e2
  subst hmx;subst e1';subst e2';split at h6
  ·obtain⟨rfl,rfl⟩:=h6.fQ;have e:=alH _ _ _ _ rfl;subst e;obtain⟨q1,q2⟩:=psl _ _ _ rfl;exact done (ata _ _) rfl rfl (by simpa using q2 0 _ cap _ (Nat.zero_le _) (Nat.le_refl _) apE (Nat.le_refl _) q1)
  ·exact absurd rfl (aom _ _ _ _)
  exact(fZ.bC h6).elim
 ·rename_i k hh e1 e2;obtain⟨hm,h6⟩:=h5.dh;have e1':lo=none:=by simpa using e1
  obtain⟨y,e2',e3⟩:∃y,hi=some y/\ρ y=.int k hh:=Option.map_eq_some_iff.1 e2;have hy:a.eval y=.int k hh:=(e3 ▸ hhi y e2').iZ;subst e1';have go:∀xw,xw=mx.isSome->0<=hh->hh<=n->(∀m,hh.toNat<=m->m<=cap->(xw=true->m=hh.toNat)->fC w I O D v (.slice (if m=0 then aa else aa.map (·.add (0*i.size))) (hh.toNat - 0) (m - 0)))->ups=[]->fU P cfg cx H D w I O dY o a v ups:=by
   intro xw hfe q1 q2 q3 q4;cases hf:mx.isSome with
   | true=>
    exact done (l:=0) (h:=hh.toNat) (m:=hh.toNat) (by rw[hmax hf];simp only[e2',Option.map_some,Option.map_none,hy];exact atc _ _ _ _ q1 om) rfl q4 (q3 _ (Nat.le_refl _) om (λ _=>rfl))
   | false=>
    have hmx:mx=none:=aiU (by rw[hf];rfl);subst hmx;exact done (l:=0) (h:=hh.toNat) (m:=cap) (by simp only[e2',Option.map_some,Option.map_none,hy];exact atb _ _ _ _ q1 om) rfl q4 (q3 _ om (Nat.le_refl _) (λ e=>by rw[hfe,hf]at e;cases e))
  split at h6
  ·split at h6
   ·rename_i hzf;obtain⟨⟨q1,q2⟩,rfl,rfl⟩:=h6.iL;have e:=alH _ _ _ _ rfl;subst e;have hh0:hh=0:=by omega
    subst hh0;unfold zf at hzf;split at hzf
    ·split at hzf
     ·obtain⟨q3,q4⟩:=psl _ _ _ rfl;have hc0:=q3 rfl;exact go _ rfl om om (λ m hm1 hm2 hm3=>by simpa using q4 0 0 m true (Nat.le_refl _) om (Nat.zero_le _) hm2 (λ _=>by omega)) rfl
     cases hzf
    cases hzf
   obtain⟨⟨q1,q2⟩,rfl,rfl⟩:=h6.iL;have e:=alH _ _ _ _ rfl;subst e;obtain⟨q3,q4⟩:=psl _ _ _ rfl;exact go _ rfl q1 q2 (λ m hm1 hm2 hm3=>by simpa using q4 0 hh.toNat m _ (Nat.zero_le _) om hm1 hm2 hm3) rfl
  ·exact absurd rfl (aom _ _ _ _)
  exact(fZ.bC h6).elim
 ·rename_i k l e1 e2;obtain⟨hm,h6⟩:=h5.dh;have hmx:mx=none:=aiU hm;have e2':hi=none:=by simpa using e2
  obtain⟨y,e1',e3⟩:∃y,lo=some y/\ρ y=.int k l:=Option.map_eq_some_iff.1 e1;have hy:a.eval y=.int k l:=(e3 ▸ hlo y e1').iZ;subst hmx;subst e2';split at h6
  ·obtain⟨⟨q1,q2⟩,rfl,rfl⟩:=h6.iL;have e:=alH _ _ _ _ rfl;subst e;obtain⟨q3,q4⟩:=psl _ _ _ rfl;exact done (by simp only[e1',Option.map_some,Option.map_none,hy];exact atd _ _ _ _ q1 q2) rfl rfl (q4 l.toNat _ cap _ om (Nat.le_refl _) apE (Nat.le_refl _) q3)
  ·exact absurd rfl (aom _ _ _ _)
  exact(fZ.bC h6).elim
 ·rename_i k l k' hh e1 e2;obtain⟨hm,h6⟩:=h5.dh;obtain⟨y,e1',e3⟩:∃y,lo=some y/\ρ y=.int k l:=Option.map_eq_some_iff.1 e1;obtain⟨y',e2',e3'⟩:∃y,hi=some y/\ρ y=.int k' hh:=Option.map_eq_some_iff.1 e2;have hy:a.eval y=.int k l:=(e3 ▸ hlo y e1').iZ;have hy':a.eval y'=.int k' hh:=(e3' ▸ hhi y' e2').iZ;have go:∀xw,xw=mx.isSome->0<=l->l<=hh->hh<=n->(∀m,hh.toNat<=m->m<=cap->(xw=true->m=hh.toNat)->fC w I O D v (.slice (if m=l.toNat then aa else aa.map (·.add (l.toNat*i.size))) (hh.toNat - l.toNat) (m - l.toNat)))->ups=[]->fU P cfg cx H D w I O dY o a v ups:=by
   intro xw hfe q0 q1 q2 q3 q4;cases hf:mx.isSome with
   | true=>
    exact done (l:=l.toNat) (h:=hh.toNat) (m:=hh.toNat) (by rw[hmax hf];simp only[e1',e2',Option.map_some,hy,hy'];exact atf _ _ _ _ _ _ q0 q1 om) rfl q4 (q3 _ (Nat.le_refl _) om (λ _=>rfl))
   | false=>
    have hmx:mx=none:=aiU (by rw[hf];rfl);subst hmx;exact done (l:=l.toNat) (h:=hh.toNat) (m:=cap) (by simp only[e1',e2',Option.map_some,Option.map_none,hy,hy'];exact ate _ _ _ _ _ _ q0 q1 om) rfl q4 (q3 _ om (Nat.le_refl _) (λ e=>by rw[hfe,hf]at e;cases e))
  split at h6
  ·obtain⟨⟨q0,q1,q2⟩,rfl,rfl⟩:=h6.iL;have e:=alH _ _ _ _ rfl;subst e;obtain⟨q3,q4⟩:=psl _ _ _ rfl;exact go _ rfl q0 q1 q2 (λ m hm1 hm2 hm3=>q4 l.toNat hh.toNat m _ om om hm1 hm2 hm3) rfl
  ·exact absurd rfl (aom _ _ _ _)
  exact(fZ.bC h6).elim
 exact(fZ.bC h5).elim
end
end Go.Ab
namespace Go.Ab
section
variable {P:Program} {cfg:y9} {cx:Ctx} {H:Nat->Option eD} {D:Nat->Prop} {w:World} {I:Nat->Prop} {O:OM} {Sp:oZ}
variable {dY:Nat} {o:Oper} {a:Act} {ρ:Operand->AV} {v:AV} {ups:lK} {r:ahb}
def FQ (O:OM) (ids:ahb) (b:Nat):Prop:=∃o p bo sz,o∈ids/\O o=some p/\p.pl=some (b,bo,sz)
def kill (O:OM) (ids:ahb):OM:=λ o=>if o∈ids then none else O o
def acV (ids:ahb) (o:Nat):look (dead ids) o=if o∈ids then some none else none:=by
 induction ids with
 | nil=>simp[dead,look]
 | cons a l ih=>
  simp only[dead,look,ih];cases h:Nat.beq a o with
  | true=>have:=Nat.eq_of_beq_eq_true h;subst this;simp
  | false=>
   have:o≠a:=λ e=>by subst e;simp at h
   simp[this]
def IJ (ids:ahb) (o:Nat):ni H (dead ids) o=if o∈ids then none else H o:=by
 unfold ni;rw[acV];by_cases h:o∈ids<;>simp[h]
def Rel.freeze (hR:Rel cfg cx H D w I O) (ids:ahb):Rel cfg cx (ni H (dead ids)) D w (λ b=>I b\/FQ O ids b) (kill O ids) where
 dom:=λ o=>by
  rw[IJ];unfold kill;by_cases h:o∈ids<;>simp[h,hR.dom o]
 used:=λ o p h=>by
  unfold kill at h;by_cases h':o∈ids<;>simp[h']at h;exact hR.used o p h
 objs:=λ o ob p h h'=>by
  rw[IJ]at h;unfold kill at h';by_cases h0:o∈ids<;>simp[h0]at h h';exact(hR.objs o ob p h h').mono (λ _ h=>.inl h) (λ _ _=>rfl) (λ o _=>by unfold kill;by_cases h0:o∈ids<;>simp[h0]) (λ _ h=>h) hR.used (λ _ _ _ _=>rfl)
 inj:=λ o o' p p' b bo sz b' qy sz' h1 h2 h3 h4 h5=>by
  unfold kill at h1 h2;by_cases h0:o∈ids<;>simp[h0]at h1;by_cases h0':o'∈ids<;>simp[h0']at h2;exact hR.inj o o' p p' b bo sz b' qy sz' h1 h2 h3 h4 h5
 qz:=λ o p b bo sz h1 h2 h3=>by
  unfold kill at h1;by_cases h0:o∈ids<;>simp[h0]at h1;rcases h3 with h3 | ⟨o',p',qy,sz',h4,h5,h6⟩
  ·exact hR.qz o p b bo sz h1 h2 h3
  exact hR.inj o o' p p' b bo sz b qy sz' h1 h5 h2 h6 (λ e=>h0 (e ▸ h4)) rfl
 lt:=λ o p b bo sz h1 h2=>by
  unfold kill at h1;by_cases h0:o∈ids<;>simp[h0]at h1;exact hR.lt o p b bo sz h1 h2
 BP:=λ b h=>by
  rcases h with h | ⟨o',p',qy,sz',h4,h5,h6⟩
  ·exact hR.BP b h
  exact hR.lt o' p' b qy sz' h5 h6
 size:=hR.size
 frame:=hR.frame
 env:=hR.env
 maps:=λ o kd z f p b bo sz h h' hp=>by
  rw[IJ]at h;unfold kill at h';by_cases h0:o∈ids<;>simp[h0]at h h';exact hR.maps o kd z f p b bo sz h h' hp
 new:=λ o p b bo sz h1 h2=>by
  unfold kill at h1;by_cases h0:o∈ids<;>simp[h0]at h1;exact hR.new o p b bo sz h1 h2
 glob:=λ g cs h=>(hR.glob g cs h).mono (λ _ h=>.inl h) (λ _ _=>rfl)
 Us:=λ b h=>.inl (hR.Us b h)
 XU:=λ b h=>by
  rcases h with h | ⟨o',p',qy,sz',h4,h5,h6⟩
  ·exact hR.XU b h
  exact .inr (hR.new o' p' b qy sz' h5 h6)
 O0O:=λ o h=>by
  unfold kill;by_cases h0:o∈ids
  ·simp[h0]
  simpa[h0]using hR.O0O o h
 Dm:=hR.Dm
def fC.kill (hR:Rel cfg cx H D w I O) (ids:ahb) {v:AV} {x:Value} (h:fC w I O D v x):fC w (λ b=>I b\/FQ O ids b) (kill O ids) D v x:=
 h.mono (λ _ h=>.inl h) (λ _ _=>rfl) (λ o _=>by unfold Ab.kill;by_cases h0:o∈ids<;>simp[h0]) (λ _ h=>h) hR.used
def FQ.aho {ids aon:ahb} {b:Nat} (h:FQ O ids b):FQ O (ids++aon) b:=by
 obtain⟨o,p,bo,sz,h1,h2,h3⟩:=h;exact⟨o,p,bo,sz,List.mem_append_left _ h1,h2,h3⟩
def FQ.ahp {ids aon:ahb} {b:Nat} (h:FQ O aon b):FQ O (ids++aon) b:=by
 obtain⟨o,p,bo,sz,h1,h2,h3⟩:=h;exact⟨o,p,bo,sz,List.mem_append_right _ h1,h2,h3⟩
def IK (i j:Nat) (g:Nat->AV):rP i g j=g (i+j):=by cases i<;>simp[rP]
theorem IL (hR:Rel cfg cx H D w I O):∀f:Nat,
  (∀(v:AV) (k:AV->ahb->Pg) (v':AV) (ups:lK) (r:ahb),fZ Sp H (pur f v k) v' ups r->∃u ids r',fZ Sp H (k u ids) v' ups r'/\
    ∀x,fC w I O D v x->iH w (λ b=>I b\/FQ O ids b) u x)/\
  (∀(l:aiA) (k:aiA->ahb->Pg) (v':AV) (ups:lK) (r:ahb),fZ Sp H (pur.ahc f l k) v' ups r->∃l' ids r',fZ Sp H (k l' ids) v' ups r'/\l'.length=l.length/\
    ∀j,j<l.length->∀x,fC w I O D (nth l j) x->iH w (λ b=>I b\/FQ O ids b) (nth l' j) x):=by
 intro f;induction f with
 | zero=>exact⟨λ v k v' ups r h=>(fZ.bC h).elim,λ l k v' ups r h=>(fZ.bC h).elim⟩
 | succ f ih=>
  obtain⟨ih1,ih2⟩:=ih;refine⟨λ v k v' ups r h=>?_,λ l k v' ups r h=>?_⟩
  ·cases v with
   | eO ob i n full=>
    simp only[pur]at h;obtain⟨obj,r',nW,h1⟩:=h.oD;obtain⟨p,hp,hO⟩:=hR.live nW;cases obj with
    | map=>exact(fZ.bC h1).elim
    | box cs=>exact(fZ.bC h1).elim
    | row es m g=>
     refine⟨_,[ob],r',h1,λ x hx=>?_⟩;obtain⟨aa,cap,rfl,h2,h3,h4,h5⟩:=hx.nH hp;obtain⟨hn,hes,hlen,h6⟩:=hO;by_cases hn0:n=0
     ·subst hn0;exact .sl 0 0 (λ _ _=>Go.undef) h3 h4 (λ e=>absurd rfl e) (λ i hi=>absurd hi om) (λ i j hi=>absurd hi om) (λ i j hi=>absurd hi om) (λ i j hi=>absurd hi om)
     obtain⟨b,bo,sz,h7,rfl,h8⟩:=h5 om;rcases h6 with⟨_,h6⟩ | ⟨b',qy,sz',h6,hal,hle,hcs⟩
     ·rw[h7]at h6;cases h6
     rw[h7]at h6;cases h6;subst hn;have hmul:∀k,k<n->(i+k+1)*es<=p.n*es:=λ k hk=>Nat.mul_le_mul_right _ om;refine .sl b (bo+i*p.es) (λ k j=>cellAt w b (bo+((i+k)*es+j))) h3 h4 (λ _=>⟨rfl,.inr ⟨ob,p,bo,sz,by simp,hp,h7⟩⟩) (λ k hk=>by rw[IK];exact hlen _ om) (λ k j hk hj=>?_) (λ k j hk hj=>(hcs (i+k) j om hj).2) (λ k j hk hj=>?_)
     ·have e:bo+i*p.es+(k*es+j)=bo+((i+k)*es+j):=by rw[hes,Nat.add_mul];omega
      rw[e];refine wu hal ?_;have:=hmul k hk;rw[Nat.succ_mul]at this;omega
     rw[IK];exact(hcs (i+k) j om hj).1.mono (λ _ h=>.inl h) (λ _ _=>rfl)
   | ptr ob i off=>
    cases i with
    | succ i=>simp only[pur]at h;exact(fZ.bC h).elim
    | zero=>
     simp only[pur]at h;obtain⟨obj,r',nW,h1⟩:=h.oD;obtain⟨p,hp,hO⟩:=hR.live nW;cases obj with
     | map=>exact(fZ.bC h1).elim
     | row es m g=>exact(fZ.bC h1).elim
     | box cs=>
      obtain⟨l',ids,r'',h2,h3,h4⟩:=ih2 _ _ _ _ _ h1;refine⟨_,_,r'',h2,λ x hx=>?_⟩;obtain⟨b,bo,sz,h5,h6,rfl⟩:=hx.pF hp;obtain⟨hn,b',qy,sz',h7,hal,hle,hcs⟩:=hO;rw[h5]at h7;cases h7;simp only[Nat.zero_mul,Nat.zero_add];refine .ro b (bo+off) (λ j=>cellAt w b (bo+(off+j))) (.inr ⟨ob,p,bo,sz,by simp,hp,h5⟩) (λ j hj=>?_) (λ j hj=>?_)
      ·rw[Nat.add_assoc];refine wu hal ?_;rw[h3]at hj;simp at hj;omega
      rw[h3]at hj;refine(h4 j hj _ (by rw[NZ];exact hcs (off+j) (by simp at hj;omega))).mono (λ b h=>?_) (λ _ _=>rfl);rcases h with h | ⟨o',p',qy,sz',q1,q2,q3⟩
      ·exact .inl h
      exact .inr ⟨o',p',qy,sz',List.mem_cons_of_mem _ q1,q2,q3⟩
   | agg cs=>
    simp only[pur]at h;obtain⟨l',ids,r'',h2,h3,h4⟩:=ih2 _ _ _ _ _ h;refine⟨_,_,r'',h2,λ x hx=>?_⟩;obtain⟨vs,rfl,hl,hr⟩:=hx.xq;exact .agg om λ j hj=>h4 j om _ (hr j om)
   | kP cs=>
    simp only[pur]at h;obtain⟨l',ids,r'',h2,h3,h4⟩:=ih2 _ _ _ _ _ h;refine⟨_,_,r'',h2,λ x hx=>?_⟩;obtain⟨vs,rfl,hl,hr⟩:=hx.Kr;exact .kP om λ j hj=>h4 j om _ (hr j om)
   | fn g cs=>
    simp only[pur]at h;obtain⟨l',ids,r'',h2,h3,h4⟩:=ih2 _ _ _ _ _ h;refine⟨_,_,r'',h2,λ x hx=>?_⟩;obtain⟨vs,rfl,hl,hr⟩:=hx.NY;exact .fn om λ j hj=>h4 j om _ (hr j om)
   | mref ob=>simp only[pur]at h;exact(fZ.bC h).elim
   | _=>
    refine⟨_,[],r,h,λ x hx=>?_⟩;cases hx with | pure hx=>exact hx.mono (λ _ h=>.inl h) (λ _ _=>rfl)
  cases l with
  | nil=>exact⟨[],[],r,h,rfl,λ j hj=>by cases hj⟩
  | cons v l=>
   simp only[pur.ahc]at h;obtain⟨u,i1,r1,h1,h2⟩:=ih1 _ _ _ _ _ h;obtain⟨l',i2,r2,h3,h4,h5⟩:=ih2 _ _ _ _ _ h1;refine⟨u::l',i1++i2,r2,h3,by simp[h4],λ j hj x hx=>?_⟩;cases j with
   | zero=>exact(h2 x hx).mono (λ b h=>h.elim .inl λ h=>.inr h.aho) (λ _ _=>rfl)
   | succ j=>exact(h5 j (by simpa using hj) x hx).mono (λ b h=>h.elim .inl λ h=>.inr h.ahp) (λ _ _=>rfl)
end
end Go.Ab

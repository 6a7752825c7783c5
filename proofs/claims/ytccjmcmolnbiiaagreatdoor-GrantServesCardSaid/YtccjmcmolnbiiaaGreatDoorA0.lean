/- An abstract machine over the model's code, that it is sound; models of the functions and their proofs. -/
import Derived.Orders
import Derived.Laws.IdiomCopy
import Derived.Laws.Cells
import Derived.Laws.Sem
import Derived.Deep.MidRow
import Derived.Laws.StructEq
import Derived.ChangeKeysEq
import Derived.IntWalk
set_option linter.unusedVariables false
set_option linter.unusedSimpArgs false
namespace Go.Ab
theorem om {p : Prop} (h : p := by omega) : p := h
inductive AV where
 | undef
 | bool (b:Bool)
 | int (k:IntKind) (n:Int)
 | str (s:ByteArray)
 | sl (es n:Nat) (full:Bool) (g:Nat→AV)
 | ro (cs:List AV)
 | agg (cs:List AV)
 | ptr (o i off:Nat)
 | eF (o i n:Nat) (full:Bool)
 | fn (f:FuncId) (caps:List AV)
 | kH (vs:List AV)
 | E5
 | mref (o:Nat)
inductive ZK where
 | bool | int (k:IntKind) | str | slice | ptr | other
 deriving DecidableEq
inductive TD where
 | bool | int (k:IntKind) | str | slice (e:TypeId) | struct (fs:List (Nat×Nat)) | pointer (e:TypeId) | map (k e:TypeId) | array (n:Nat) (e:TypeId) | other
 deriving DecidableEq
inductive qR where
 | s (b:ByteArray)
 | i (n:Int)
 deriving DecidableEq
inductive dW where
 | box (cs:List AV)
 | row (es n:Nat) (g:Nat→AV)
 | map (kd:TD) (z:List ZK) (f:qR→Option Int)
structure Rl where
 size:Nat
 agg:Bool
 bytes:Nat
 zero:List ZK
 desc:TD
 deriving DecidableEq
structure FnI where
 muts:List Nat:=[]
 frz:Bool:=false
structure y7 where
 ty:List (Nat×Rl)
 eqs:List (Nat×List ZK):=[]
 fns:List (Nat×FnI)
 glob:List (Nat×List AV)
def look {α:Type}:List (Nat×α)→Nat→Option α
 | [],_=>none
 | (k,v)::l,t=>match Nat.beq k t with | true=>some v | false=>look l t
def iR (T:List (Nat×AV)) (t:Nat):AV:=
 match look T t with | some v=>v | none=>.undef
def hget (H:List (Nat×Option dW)) (o:Nat):Option dW:=
 match look H o with | some (some x)=>some x | _=>none
abbrev lK:=List (Nat×Option dW)
inductive Pg where
 | ret (v:AV) (ups:lK)
 | need (p:Prop) [d:Decidable p] (k:Pg)
 | rd (o:Nat) (k:dW→Pg)
 | call (f:FuncId) (args:List AV) (obs:List dW) (k:AV→List dW→Pg)
 | fail
def stride:Nat:=8
def fJ:Nat→AV:=λ _=>.undef
def ofConst:Value→AV
 | .bool b=>.bool b
 | .int k n=>.int k n
 | .string s=>.str s
 | .slice none 0 0=>.sl 0 0 true fJ
 | .pointer none=>.E5
 | _=>.undef
def ofZ:ZK→AV
 | .bool=>.bool false
 | .int k=>.int k 0
 | .str=>.str ByteArray.empty
 | .slice=>.sl 0 0 true fJ
 | .ptr=>.E5
 | .other=>.undef
def AA:List ZK→List AV
 | []=>[]
 | z::l=>ofZ z::AA l
def AV.cells:AV→List AV
 | .agg cs=>cs
 | v=>[v]
def nth:List AV→Nat→AV
 | [],_=>.undef
 | v::_,0=>v
 | _::l,n+1=>nth l n
def Hr:Nat→List AV→List AV→List AV
 | _,[],l=>l
 | 0,v::new,_::l=>v::Hr 0 new l
 | n+1,new,x::l=>x::Hr n new l
 | _,_,[]=>[]
def Zw:AV→Bool
 | .undef | .agg _ | .kH _=>false
 | _=>true
def JI:List AV→Bool
 | []=>true
 | v::l=>match Zw v with | true=>JI l | false=>false
def Nb (v:AV) (k:List AV→Pg):Pg:=
 match v.cells with
 | cs=>match JI cs with | true=>k cs | false=>.fail
def gN (b:Bool) (k:Pg):Pg:=match b with | true=>k | false=>.fail
def Nc:List AV→(List AV→Prop)→Prop
 | [],K=>K []
 | v::l,K=>Nc l (λ l'=>
  match v with
  | .undef=>K (.undef::l') | .bool b=>K (.bool b::l') | .int k n=>K (.int k n::l') | .str s=>K (.str s::l')
  | .sl es n f g=>K (.sl es n f g::l') | .ro cs=>K (.ro cs::l') | .agg cs=>K (.agg cs::l') | .ptr o i off=>K (.ptr o i off::l')
  | .eF o i n f=>K (.eF o i n f::l') | .fn f caps=>K (.fn f caps::l') | .kH vs=>K (.kH vs::l') | .E5=>K (.E5::l') | .mref o=>K (.mref o::l'))
def force (v:AV) (K:AV→Prop):Prop:=
 match v with
 | .undef=>K .undef | .bool b=>K (.bool b) | .int k n=>K (.int k n) | .str s=>K (.str s)
 | .sl es n f g=>K (.sl es n f g)
 | .ro cs=>Nc cs λ cs'=>K (.ro cs')
 | .agg cs=>Nc cs λ cs'=>K (.agg cs')
 | .ptr o i off=>K (.ptr o i off) | .eF o i n f=>K (.eF o i n f)
 | .fn f caps=>Nc caps λ cs'=>K (.fn f cs')
 | .kH vs=>Nc vs λ cs'=>K (.kH cs')
 | .E5=>K .E5
 | .mref o=>K (.mref o)
def DZ:lK→(lK→Prop)→Prop
 | [],K=>K []
 | (o,none)::l,K=>DZ l λ l'=>K ((o,none)::l')
 | (o,some (.row es n g))::l,K=>DZ l λ l'=>K ((o,some (.row es n g))::l')
 | (o,some (.map kd z f))::l,K=>DZ l λ l'=>K ((o,some (.map kd z f))::l')
 | (o,some (.box cs))::l,K=>Nc cs λ cs'=>DZ l λ l'=>K ((o,some (.box cs'))::l')
def aG (n:Int):Prop := -9223372036854775808≤n∧n≤9223372036854775807
instance (n:Int):Decidable (aG n):=inferInstanceAs (Decidable (_∧_))
def addN:Nat→Nat→Nat
 | 0,k=>k
 | n+1,k=>n+1+k
def rP (i:Nat) (g:Nat→AV):Nat→AV:=match i with | 0=>g | n+1=>λ j=>g (n+1+j)
def XB (l:List AV):Nat→AV:=λ i=>nth l i
def appG (n:Nat) (g h:Nat→AV):Nat→AV:=λ j=>bif Nat.blt j n then g j else h (j - n)
def aep (g:Nat→AV) (i:Nat) (v:AV):Nat→AV:=λ j=>bif Nat.beq j i then v else g j
def pur:Nat→AV→(AV→List Nat→Pg)→Pg
 | 0,_,_=>.fail
 | _+1,.eF o i n full,k=>.rd o λ
  | .row es _ g=>k (.sl es n full (rP i g)) [o]
  | _=>.fail
 | f+1,.ptr o i off,k=>match i with
  | 0=>.rd o λ
   | .box cs=>agr f (cs.drop off) λ cs' ids=>k (.ro cs') (o::ids)
   | _=>.fail
  | _+1=>.fail
 | f+1,.agg cs,k=>agr f cs λ cs' ids=>k (.agg cs') ids
 | f+1,.kH cs,k=>agr f cs λ cs' ids=>k (.kH cs') ids
 | f+1,.fn fn cs,k=>agr f cs λ cs' ids=>k (.fn fn cs') ids
 | _+1,.mref _,_=>.fail
 | _+1,v,k=>k v []
 where agr:Nat→List AV→(List AV→List Nat→Pg)→Pg
 | 0,_,_=>.fail
 | _+1,[],k=>k [] []
 | f+1,v::l,k=>pur f v λ v' i1=>agr f l λ l' i2=>k (v'::l') (i1++i2)
def fuel:Nat:=100
def dead:List Nat→lK
 | []=>[]
 | o::l=>(o,none)::dead l
def mF (p:Prop) [Decidable p] (v:AV):Pg:=.need p (.ret v [])
def j6 (v:AV):Pg:=.ret v []
def Bw (ti:Rl) (cs:List AV):Pg:=
 match ti.agg with
 | true=>gN (Nat.ble ti.size cs.length) (j6 (.agg (cs.take ti.size)))
 | false=>match cs with
  | v::_=>j6 v
  | []=>.fail
def arith (op:BinOp) (a b:Int):Pg:=
 match op with
 | .add=>mF (aG (a+b)) (.int .i64 (a+b))
 | .sub=>mF (aG (a - b)) (.int .i64 (a - b))
 | .mul=>mF (aG (a*b)) (.int .i64 (a*b))
 | .quo=>mF (b≠0∧aG (a.tdiv b)) (.int .i64 (a.tdiv b))
 | .rem=>mF (b≠0) (.int .i64 (a.tmod b))
 | _=>.fail
def aqI (op:BinOp) (a b:Int):Pg:=
 match op with
 | .eql=>j6 (.bool (a==b))
 | .neq=>j6 (.bool (a != b))
 | .lss=>j6 (.bool (decide (a<b)))
 | .leq=>j6 (.bool (decide (a≤b)))
 | .gtr=>j6 (.bool (decide (b<a)))
 | .geq=>j6 (.bool (decide (b≤a)))
 | _=>.fail
def TN:BinOp→Bool
 | .add | .sub | .mul | .quo | .rem=>true
 | _=>false
def aj9 (k:IntKind) (op:BinOp) (a b:Int):Pg:=
 match op with
 | .add=>j6 (.int k (k.wrap (a+b)))
 | .sub=>j6 (.int k (k.wrap (a - b)))
 | .mul=>j6 (.int k (k.wrap (a*b)))
 | _=>.fail
def MN (k:IntKind) (a b:Int):Int:=k.wrap (BitVec.ofInt k.bits a &&& BitVec.ofInt k.bits b).toNat
def Ht (k:IntKind) (a b:Int):Int:=a.fdiv (2 ^ min b.toNat k.bits)
def orI (k:IntKind) (a b:Int):Int:=k.wrap (BitVec.ofInt k.bits a ||| BitVec.ofInt k.bits b).toNat
def TP (k:IntKind) (a b:Int):Int:=k.wrap (a*2 ^ min b.toNat k.bits)
def akb:BinOp→Bool
 | .shl=>true
 | _=>false
def zx (a b:IntKind):Bool:=decide (a=b)
def VN:List ZK→List AV→List AV→Option Bool
 | [],[],[]=>some true
 | .int k::zs,.int k1 a::l,.int k2 b::m=>match zx k k1,zx k k2,VN zs l m with
  | true,true,some r=>some ((a==b)&&r)
  | _,_,_=>none
 | .bool::zs,.bool a::l,.bool b::m=>match VN zs l m with
  | some r=>some ((a==b)&&r)
  | none=>none
 | .str::zs,.str a::l,.str b::m=>match VN zs l m with
  | some r=>some ((a.toList==b.toList)&&r)
  | none=>none
 | _,_,_=>none
def aow (op:BinOp) (a b:ByteArray):Pg:=
 match op with
 | .add=>mF (a.size+b.size≤9223372036854775807) (.str (a++b))
 | .eql=>j6 (.bool (a.toList==b.toList))
 | .neq=>j6 (.bool (!(a.toList==b.toList)))
 | .lss=>j6 (.bool (Op.bytesLess a.toList b.toList))
 | .leq=>j6 (.bool (Op.bytesLess a.toList b.toList||a.toList==b.toList))
 | .gtr=>j6 (.bool (!(Op.bytesLess a.toList b.toList||a.toList==b.toList)))
 | .geq=>j6 (.bool (!Op.bytesLess a.toList b.toList))
 | _=>.fail
def ags (c:AV) (ea eb:Operand) (a b:AV):Pg:=
 match c with
 | .bool c=>match ea,eb,a,b with
  | _,.const (.bool false),.bool x,_=>j6 (.bool (c&&x))
  | .const (.bool true),_,_,.bool y=>j6 (.bool (c||y))
  | _,_,.bool x,.bool y=>j6 (.bool (bif c then x else y))
  | _,_,.undef,y=>mF (c=false) y
  | _,_,x,.undef=>mF (c=true) x
  | _,_,_,_=>.fail
 | _=>.fail
section ops
variable (cfg:y7)
def VR (t:TypeId) (k:Rl→Pg):Pg:=match look cfg.ty t with | some i=>k i | none=>.fail
def D5 (t:TypeId) (k:Rl→Pg):Pg:=match look cfg.ty t with
 | some i=>match i.desc with
  | .slice e=>VR cfg e k
  | _=>.fail
 | none=>.fail
def akc (op:BinOp) (t:TypeId) (x y:AV):Pg:=
 match x,y with
 | .int k a,.int k' b=>match akb op with
  | true=>mF (0≤b) (.int k (TP k a b))
  | false=>gN (zx k k') (match TN op with
  | true=>match zx k .i64 with
   | true=>arith op a b
   | false=>aj9 k op a b
  | false=>match op with
   | .and=>j6 (.int k (MN k a b))
   | .or=>j6 (.int k (orI k a b))
   | .shr=>mF (0≤b) (.int k (Ht k a b))
   | _=>aqI op a b)
 | .bool a,.bool b=>VR cfg t λ ti=>match ti.desc,op with
  | .bool,.eql=>j6 (.bool (a==b))
  | .bool,.neq=>j6 (.bool (!(a==b)))
  | _,_=>.fail
 | .str a,.str b=>aow op a b
 | .agg cs,.agg cs'=>match look cfg.eqs t with
  | some zs=>match VN zs cs cs',op with
   | some r,.eql=>j6 (.bool r)
   | some r,.neq=>j6 (.bool (!r))
   | _,_=>.fail
  | none=>.fail
 | _,_=>.fail
def Yg:List (Nat×Nat)→Nat→Option (Nat×Nat)
 | [],_=>none
 | x::_,0=>some x
 | _::l,n+1=>Yg l n
def Qa (ti:Rl) (f:Nat):Option (Nat×Nat):=match ti.desc with
 | .struct fs=>Yg fs f
 | _=>none
def aer (fs:List (Nat×Nat)):List (Nat×AV)→List AV→(List AV→Pg)→Pg
 | [],cs,k=>k cs
 | (i,v)::rest,cs,k=>match Yg fs i with
  | some (off,t)=>VR cfg t λ ti=>Nb v λ vs=>gN (Nat.beq vs.length ti.size) (gN (Nat.ble (off+vs.length) cs.length) (aer fs rest (Hr off vs cs) k))
  | none=>.fail
def GD:Nat→AV→List AV→List AV
 | _,_,[]=>[]
 | 0,v,_::l=>v::l
 | n+1,v,x::l=>x::GD n v l
def ahX (size:Nat) (agg:Bool):List (Nat×AV)→List AV→(List AV→Pg)→Pg
 | [],es,k=>k es
 | (i,v)::rest,es,k=>gN (match agg,v with | true,.agg _=>true | true,_=>false | false,.agg _=>false | false,_=>true)
  (Nb v λ vs=>gN (Nat.beq vs.length size) (gN (Nat.blt i es.length) (ahX size agg rest (GD i v es) k)))
def zeroOf (ti:Rl):AV:=match ti.agg with
 | true=>.agg (AA ti.zero)
 | false=>nth (AA ti.zero) 0
def zok (ti:Rl):Bool:=match Nat.blt 0 ti.size with
 | true=>match ti.agg with
  | true=>true
  | false=>Nat.beq ti.size 1
 | false=>false
def aiS:Nat→AV→List AV
 | 0,_=>[]
 | n+1,z=>z::aiS n z
def TQ:List (Nat×AV)→(List (Nat×AV)→List Nat→Pg)→Pg
 | [],k=>k [] []
 | (i,v)::l,k=>pur fuel v λ v' i1=>TQ l λ l' i2=>k ((i,v')::l') (i1++i2)
def aqJ (s:AV) (f:Int→Pg) (k:Pg):Pg:=match s with
 | .int _ n=>f n
 | _=>k
def zf (full:Bool) (n:Nat):Bool:=match full with
 | true=>match n with
  | 0=>true
  | _+1=>false
 | false=>false
def Y9 (x:AV) (lo hi:Option AV) (ac1 ab7:Bool):Pg:=
 match lo,hi with
 | none,none=>gN (!ac1) (match x with
  | .sl es n full g=>j6 (.sl es n full g)
  | .eF o i n full=>j6 (.eF o i n full)
  | _=>.fail)
 | none,some (.int _ h)=>gN (!ac1||ab7) (match x with
  | .sl es n full g=>match zf full n with
   | true=>mF (0≤h∧h≤0) (.sl es 0 true g)
   | false=>mF (0≤h∧h≤n) (.sl es h.toNat ab7 g)
  | .eF o i n _=>mF (0≤h∧h≤n) (.eF o i h.toNat ab7)
  | _=>.fail)
 | some (.int _ l),none=>gN (!ac1) (match x with
  | .sl es n full g=>mF (0≤l∧l≤n) (.sl es (n - l.toNat) full (λ j=>g (l.toNat+j)))
  | .eF o i n full=>mF (0≤l∧l≤n) (.eF o (i+l.toNat) (n - l.toNat) full)
  | _=>.fail)
 | some (.int _ l),some (.int _ h)=>gN (!ac1||ab7) (match x with
  | .sl es n _ g=>mF (0≤l∧l≤h∧h≤n) (.sl es (h.toNat - l.toNat) ab7 (λ j=>g (l.toNat+j)))
  | .eF o i n _=>mF (0≤l∧l≤h∧h≤n) (.eF o (i+l.toNat) (h.toNat - l.toNat) ab7)
  | _=>.fail)
 | _,_=>.fail
def Fw:Option Operand→Option Operand→Bool
 | some (.tmp a),some (.tmp b)=>Nat.beq a b
 | _,_=>false
def aiT (ρ:Operand→AV) (hi mx:Option Operand) (k:Pg):Pg:=
 match mx with
 | none=>k
 | some m=>match hi with
  | none=>.fail
  | some h=>match ρ h,ρ m with
   | .int kk a,.int kk' b=>gN (zx kk kk') (.need (a=b) k)
   | _,_=>.fail
def XC (x:AV) (k:Nat→Nat→(Nat→AV)→Pg):Pg:=
 match x with
 | .sl es n _ g=>k es n g
 | .eF o i n _=>.rd o λ
  | .row es _ g=>k es n (rP i g)
  | _=>.fail
 | _=>.fail
def isZ:Nat→Bool
 | 0=>true
 | _+1=>false
def Sb (es n size:Nat):Bool:=match Nat.beq es size with | true=>true | false=>isZ n
def big:Nat:=140737488355328
def cpG (i k:Nat) (g h:Nat→AV):Nat→AV:=λ j=>bif Nat.ble i j&&Nat.blt j (i+k) then h (j - i) else g j
def ac3 (ti:Rl) (d s:AV):Pg:=
 XC s λ es' m h=>gN (Sb es' m ti.size) (
 match d with
 | .eF o i n _=>.rd o λ
  | .row es N g=>gN (Nat.beq es ti.size) (.need (i+n+m≤N) (.ret (.eF o i (n+m) false) [(o,some (.row es N (cpG (i+n) m g h)))]))
  | _=>.fail
 | _=>.fail)
def isSelf:AV→AV→Bool
 | .eF o _ _ _,.eF o' _ _ _=>Nat.beq o o'
 | _,_=>false
def akd (o i n N:Nat) (f:Bool) (lo hi mx:Option AV):Pg:=match mx with
 | some (.int _ m)=>match lo,hi with
  | some (.int _ l),some (.int _ h)=>mF (0≤l∧l≤h∧h≤m∧m≤n) .undef
  | none,some (.int _ h)=>mF (0≤h∧h≤m∧m≤0) (.sl 0 0 true fJ)
  | _,_=>.fail
 | some _=>.fail
 | none=>match lo,hi with
  | none,none=>j6 (.eF o i n f)
  | none,some (.int _ h)=>mF (0≤h∧(i:Int)+h≤N) (.eF o i h.toNat false)
  | some (.int _ l),none=>mF (0≤l∧l≤n) (.eF o (i+l.toNat) (n - l.toNat) f)
  | some (.int _ l),some (.int _ h)=>mF (0≤l∧l≤h∧(i:Int)+h≤N) (.eF o (i+l.toNat) (h.toNat - l.toNat) false)
  | _,_=>.fail
def aes (ti:Rl) (dR:Nat) (d s:AV):Pg:=
 XC s λ es' m h=>gN (Sb es' m ti.size) (
 match d with
 | .sl es n full g=>gN full (match es with
  | 0=>gN (isZ n) (.need (m*ti.bytes≤big) (.ret (.eF dR 0 m false) [(dR,some (.row ti.size m h))]))
  | es1+1=>gN (Sb (es1+1) n ti.size) (mF ((n+m)*ti.bytes≤big) (.sl ti.size (n+m) false (appG n g h))))
 | .eF o i n _=>.rd o λ
  | .row es _ g=>gN (Nat.beq es ti.size) (.need ((n+m)*ti.bytes≤big) (.ret (.eF dR 0 (n+m) false) [(dR,some (.row es (n+m) (appG n (rP i g) h))),(o,none)]))
  | _=>.fail
 | _=>.fail)
def ake (ti:Rl) (d s:AV):Pg:=
 XC s λ es' m h=>gN (Sb es' m ti.size) (
 match d with
 | .eF o i n _=>.rd o λ
  | .row es N g=>gN (Nat.beq es ti.size) (.ret (.int .i64 (Nat.min m n:Nat)) [(o,some (.row es N (cpG i (Nat.min m n) g h)))])
  | _=>.fail
 | _=>.fail)
def Bz:List Nat→Nat→Nat→Option Nat
 | [],_,_=>none
 | a::l,o,j=>match Nat.beq a o with | true=>some j | false=>Bz l o (j+1)
def qz:AV→Bool
 | .undef | .bool _ | .int .. | .str _ | .sl .. | .ro _ | .E5=>true
 | _=>false
def asA:AV→List Nat
 | .ptr o _ _=>[o]
 | .eF o _ _ _=>[o]
 | _=>[]
def aeu:List AV→List Nat
 | []=>[]
 | v::l=>asA v++aeu l
def aox (sg:List Nat):List Nat→Bool
 | []=>false
 | o::_=>match Bz sg o 0 with
  | some _=>true
  | none=>false
def akf (sg:List Nat) (v:AV) (k:AV→Pg):Pg:=match v with
 | .ptr o i off=>match Bz sg o 0 with
  | some j=>k (.ptr j i off)
  | none=>.fail
 | .eF o i n f=>match Bz sg o 0 with
  | some j=>k (.eF j i n f)
  | none=>.fail
 | v=>gN (qz v) (k v)
def aiV (sg:List Nat):List AV→(List AV→Pg)→Pg
 | [],k=>k []
 | v::l,k=>akf sg v λ v'=>aiV sg l λ l'=>k (v'::l')
def Qb (sg:List Nat) (v:AV) (k:AV→List Nat→Pg):Pg:=
 match v with
 | .ptr o i off=>match Bz sg o 0 with
  | some j=>k (.ptr j i off) []
  | none=>pur fuel (.ptr o i off) k
 | .eF o i n full=>match Bz sg o 0 with
  | some j=>k (.eF j i n full) []
  | none=>pur fuel (.eF o i n full) k
 | .fn f cs=>match aox sg (aeu cs) with
  | true=>aiV sg cs λ cs'=>k (.fn f cs') []
  | false=>pur fuel (.fn f cs) k
 | v=>pur fuel v k
def Hu (sg:List Nat):List AV→(List AV→List Nat→Pg)→Pg
 | [],k=>k [] []
 | v::l,k=>Qb sg v λ v' i1=>Hu sg l λ l' i2=>k (v'::l') (i1++i2)
def ahY:List Nat→(List dW→Pg)→Pg
 | [],k=>k []
 | o::l,k=>.rd o λ ob=>ahY l λ obs=>k (ob::obs)
def sigma (args:List AV):List Nat→List Nat
 | []=>[]
 | p::l=>match nth args p with
  | .ptr o _ _=>o::sigma args l
  | .eF o _ _ _=>o::sigma args l
  | .fn _ cs=>aeu cs++sigma args l
  | _=>sigma args l
def CQ:Nat→List Nat→Bool
 | _,[]=>false
 | a,b::l=>match Nat.beq a b with | true=>true | false=>CQ a l
def pG:List Nat→Bool
 | []=>true
 | a::l=>match CQ a l with | true=>false | false=>pG l
def Zx:AV→Bool
 | .bool _ | .int .. | .str _=>true
 | _=>false
def ac4:List AV→Bool
 | []=>true
 | v::l=>match Zx v with | true=>ac4 l | false=>false
def Zy:AV→Bool
 | .agg vs=>ac4 vs
 | v=>Zx v
def ac5:List AV→Bool
 | []=>true
 | v::l=>match Zy v with | true=>ac5 l | false=>false
def akg:AV→Bool
 | .kH vs=>ac5 vs
 | v=>Zy v
def iD:List Nat→Nat→Nat
 | [],_=>0
 | a::_,0=>a
 | _::l,n+1=>iD l n
def Nf:dW→Bool
 | .map .other [] _=>true
 | _=>false
def aoy:dW:=.map .other [] λ _=>none
def gz (x:dW):Option dW:=match Nf x with
 | true=>none
 | false=>some x
def D6:List Nat→List dW→lK
 | o::l,x::m=>(o,gz x)::D6 l m
 | _,_=>[]
def am3 (f:FuncId):FnI:=match look cfg.fns f with | some i=>i | none=>{}
def zy:List AV→Bool
 | []=>true
 | v::l=>match qz v with | true=>zy l | false=>false
def Za:dW→Bool
 | .box cs=>zy cs
 | .row .. => true
 | .map .. => false
def aqK:AV→Bool
 | .agg vs=>zy vs
 | v=>qz v
def Ng:List Nat→List Nat→Bool
 | [],_=>true
 | x::l,m=>match CQ x m with | true=>false | false=>Ng l m
def aqL:AV→List Nat
 | .ptr o _ _=>[o]
 | .eF o _ _ _=>[o]
 | .fn _ cs=>aeu cs
 | _=>[]
def aoz:List AV→List Nat
 | []=>[]
 | v::l=>aqL v++aoz l
def aqM:dW→List Nat
 | .box cs=>aoz cs
 | _=>[]
def Zz:Nat→List Nat→List Nat→(List Nat→Pg)→Pg
 | 0,_,_,_=>.fail
 | _+1,[],sg,k=>k sg
 | f+1,o::todo,sg,k=>match CQ o sg with
  | true=>Zz f todo sg k
  | false=>.rd o λ ob=>Zz f (todo++aqM ob) (sg++[o]) k
def inv1 (sg:List Nat) (v:AV) (k:AV→Pg):Pg:=match v with
 | .ptr o i off=>match Bz sg o 0 with
  | some j=>k (.ptr j i off)
  | none=>.fail
 | .eF o i n f=>match Bz sg o 0 with
  | some j=>k (.eF j i n f)
  | none=>.fail
 | .fn f cs=>aiV sg cs λ cs'=>k (.fn f cs')
 | v=>gN (qz v) (k v)
def am4 (sg:List Nat):List AV→(List AV→Pg)→Pg
 | [],k=>k []
 | v::l,k=>inv1 sg v λ v'=>am4 sg l λ l'=>k (v'::l')
def aqN (sg:List Nat) (x:dW) (k:dW→Pg):Pg:=match x with
 | .box cs=>am4 sg cs λ cs'=>k (.box cs')
 | .row es n g=>k (.row es n g)
 | .map .. => .fail
def ahZ (sg:List Nat):List dW→(List dW→Pg)→Pg
 | [],k=>k []
 | x::l,k=>aqN sg x λ x'=>ahZ sg l λ l'=>k (x'::l')
def aev (sg:List Nat):AV→AV
 | .ptr j i off=>.ptr (iD sg j) i off
 | .eF j i n full=>.eF (iD sg j) i n full
 | v=>v
def akh (sg:List Nat):List AV→List AV
 | []=>[]
 | v::l=>aev sg v::akh sg l
def Nh (sg:List Nat):AV→AV
 | .ptr j i off=>.ptr (iD sg j) i off
 | .eF j i n full=>.eF (iD sg j) i n full
 | .fn f cs=>.fn f (akh sg cs)
 | v=>v
def aiW (sg:List Nat):List AV→List AV
 | []=>[]
 | v::l=>Nh sg v::aiW sg l
def Ni (sg:List Nat):AV→AV
 | .agg cs=>.agg (aiW sg cs)
 | v=>Nh sg v
def aew (sg:List Nat):List AV→List AV
 | []=>[]
 | v::l=>Ni sg v::aew sg l
def am5 (sg:List Nat):AV→AV
 | .kH vs=>.kH (aew sg vs)
 | v=>Ni sg v
def abw (sg:List Nat):dW→dW
 | .box cs=>.box (aiW sg cs)
 | .row es n g=>.row es n g
 | .map kd z f=>.map kd z f
def ZA (sg:List Nat):List dW→List dW
 | []=>[]
 | x::l=>abw sg x::ZA sg l
def am6:AV→Bool
 | .ptr .. | .eF .. => true
 | v=>qz v
def okA:List AV→Bool
 | []=>true
 | v::l=>match am6 v with | true=>okA l | false=>false
def aki:AV→Bool
 | .fn _ cs=>okA cs
 | .agg _ | .kH _ | .mref _=>false
 | _=>true
def akj:List AV→Bool
 | []=>true
 | v::l=>match aki v with | true=>akj l | false=>false
def akk:AV→Bool
 | .agg cs=>akj cs
 | v=>aki v
def ah0:List AV→Bool
 | []=>true
 | v::l=>match akk v with | true=>ah0 l | false=>false
def aqO:AV→Bool
 | .kH vs=>ah0 vs
 | v=>akk v
def akl:dW→Bool
 | .box cs=>akj cs
 | .row .. => true
 | .map kd z f=>Nf (.map kd z f)
def ah1:List dW→Bool
 | []=>true
 | x::l=>match akl x with | true=>ah1 l | false=>false
def kW:Nat→Nat→List Nat
 | 0,_=>[]
 | n+1,i=>i::kW n (i+1)
def Zb (dR:Nat) (f:FuncId) (args:List AV) (sg0:List Nat):Pg:=
 Zz 40 sg0 [] λ sg=>gN (pG sg) (ahY sg λ obs=>ahZ sg obs λ aiX=>Hu sg args λ args' ids=>gN (Ng ids sg)
  (.call f args' aiX λ r fV=>gN (ah1 fV) (gN (Nat.ble fV.length (sg.length+stride)) (gN (aqO r)
    (.ret (am5 (sg++kW (fV.length - sg.length) dR) r) (D6 (sg++kW (fV.length - sg.length) dR) (ZA (sg++kW (fV.length - sg.length) dR) fV)++dead ids))))))
def akm (dR:Nat) (f:FuncId) (args:List AV):Pg:=
 match sigma args (am3 cfg f).muts with
 | []=>match (am3 cfg f).frz with
  | false=>Hu [] args λ args' _=>.call f args' [] λ r fV=>match fV with
   | []=>gN (akg r) (j6 r)
   | _::_=>.fail
  | true=>Zb dR f args []
 | x::sg=>Zb dR f args (x::sg)
def keyOf:AV→Option qR
 | .str b=>some (.s b)
 | .int .i64 n=>some (.i n)
 | _=>none
def aqP (z:List ZK) (n:Int):AV:=match z with
 | [.bool]=>.bool (n != 0)
 | [.int k]=>.int k n
 | _=>.undef
def ao1 (z:List ZK):AV→Option Int
 | .bool b=>match z with
  | [.bool]=>some (bif b then 1 else 0)
  | _=>none
 | .int k n=>match z with
  | [.int k']=>match decide (k=k') with
   | true=>some n
   | false=>none
  | _=>none
 | _=>none
def ac6:List ZK→Bool
 | [.bool]=>true
 | [.int _]=>true
 | _=>false
def CS (f:qR→Option Int) (k:qR):Int:=(f k).getD 0
def VT (f:qR→Option Int) (k:qR) (n:Int):qR→Option Int:=λ k'=>if k'=k then some n else f k'
def akn (t:TypeId) (k:Rl→Rl→Pg):Pg:=match look cfg.ty t with
 | some i=>match i.desc with
  | .map kt et=>VR cfg kt λ ki=>VR cfg et λ ei=>gN (!ei.agg) (k ki ei)
  | _=>.fail
 | none=>.fail
def JJ (d:TD):qR→Bool
 | .s _=>match d with | .str=>true | _=>false
 | .i _=>match d with | .int .i64=>true | _=>false
def ZB:TD→Option (Nat×TypeId)
 | .array n e=>some (n,e)
 | _=>none
def ako (t:TypeId):Option (Nat×TypeId):=match look cfg.ty t with
 | some i=>ZB i.desc
 | none=>none
def ah2 (et sz:Nat):Nat→Nat→List (Nat×Nat)
 | 0,_=>[]
 | n+1,k=>(k*sz,et)::ah2 et sz n (k+1)
def aqQ:AV→Bool
 | .bool b=>b
 | _=>false
def asC:AV→Int
 | .int _ n=>n
 | _=>0
def asD:AV→ByteArray
 | .str s=>s
 | _=>ByteArray.empty
def slN:AV→Nat
 | .sl _ n _ _=>n
 | _=>0
def slG:AV→Nat→AV
 | .sl _ _ _ g=>g
 | _=>λ _=>.undef
def esA:AV→Nat
 | .sl es _ _ _=>es
 | _=>0
def akp:List ZK→Nat→ZK
 | [],_=>.other
 | z::_,0=>z
 | _::l,n+1=>akp l n
def am7 (z:ZK) (es:Nat) (c:AV):Bool:=match z,c with
 | .bool,.bool _=>true
 | .int k,.int k' _=>zx k k'
 | .str,.str _=>true
 | .slice,.sl es' n _ _=>match Nat.beq es' es with
  | true=>true
  | false=>Nat.beq n 0
 | _,_=>false
def ao2 (z:ZK) (es:Nat) (c:AV):AV:=match z with
 | .bool=>.bool (aqQ c)
 | .int k=>.int k (asC c)
 | .str=>.str (asD c)
 | .slice=>.sl es (slN c) false (slG c)
 | _=>.undef
def ab8 (sz j:Nat):Nat→List AV→Nat
 | _,[]=>0
 | k,c::cs=>match Nat.beq (Nat.mod k sz) j with
  | true=>(λ m=>match Nat.ble (esA c) m with | true=>m | false=>esA c) (ab8 sz j (k+1) cs)
  | false=>ab8 sz j (k+1) cs
def am8 (zs:List ZK) (sz:Nat) (all:List AV):Nat→List AV→Bool
 | _,[]=>true
 | k,c::cs=>match am7 (akp zs (Nat.mod k sz)) (ab8 sz (Nat.mod k sz) 0 all) c with
  | true=>am8 zs sz all (k+1) cs
  | false=>false
def aex (all:List AV) (b sz:Nat):Nat→List ZK→List AV
 | _,[]=>[]
 | j,z::zs=>ao2 z (ab8 sz j 0 all) (nth all (b+j))::aex all b sz (j+1) zs
def akq (ei:Rl) (n:Nat) (cs:List AV) (i:Int):Pg:=
 gN (zok ei) (gN (Nat.beq cs.length (n*ei.size)) (gN (Nat.beq ei.zero.length ei.size) (gN (am8 ei.zero ei.size cs 0 cs) (mF (0≤i∧i<n) (match ei.agg with
  | true=>.agg (aex cs (i.toNat*ei.size) ei.size 0 ei.zero)
  | false=>nth (aex cs (i.toNat*ei.size) ei.size 0 ei.zero) 0)))))
def agt:Nat→List ZK→List ZK
 | 0,_=>[]
 | n+1,z=>z++agt n z
def kX:Nat→Nat→(Nat→AV)→List AV
 | 0,_,_=>[]
 | k+1,i,g=>(g i).cells++kX k (i+1) g
def ao3:TD→Bool
 | .str=>true
 | _=>false
def ao4:AV→Bool
 | .int .u8 _=>true
 | _=>false
def u8D:TD→Bool
 | .int .u8=>true
 | _=>false
def JK:Nat→Nat→(Nat→AV)→ByteArray→ByteArray
 | 0,_,_,s=>s
 | k+1,i,g,s=>JK k (i+1) g (s.push (UInt8.ofNat (match g i with
  | .int _ n=>n.toNat
  | _=>0)))
def ac7 (src:TypeId) (x:AV):Pg:=D5 cfg src λ ei=>gN (u8D ei.desc) (XC x λ es n g=>gN (Sb es n 1) (.need (∀i,i<n→ao4 (g i)=true) (j6 (.str (JK n 0 g ByteArray.empty)))))
def akr (o n:Nat) (lo hi:Option AV):Pg:=
 match lo,hi with
 | none,none=>j6 (.eF o 0 n true)
 | none,some (.int _ h)=>mF (0≤h∧h≤n) (.eF o 0 h.toNat false)
 | _,_=>.fail
def gI (b:ByteArray) (i:Nat):Int:=match b[i]? with
 | some x=>x.toNat
 | none=>0
def ao5 (dR:Nat) (t t':TypeId) (d:AV) (k:Int):Pg:=VR cfg t' λ ti'=>D5 cfg t λ ti=>match ti'.desc,d with
 | .int _,.sl _ n full _=>gN (zf full n) (gN (Nat.blt 0 ti.size) (gN (Nat.blt 0 ti.bytes) (gN (zok ti) (.need (0<k∧k*ti.bytes≤big) (.ret (.eF dR 0 k.toNat false) [(dR,some (.row ti.size k.toNat (λ _=>zeroOf ti)))])))))
 | _,_=>.fail
def gY (dR:Nat) (op:Op) (ρ:Operand→AV):Pg:=
 match op with
 | .move x=>j6 (ρ x)
 | .assign x=>j6 (ρ x)
 | .pick c a b=>ags (ρ c) a b (ρ a) (ρ b)
 | .alloc e=>VR cfg e λ ti=>match ZB ti.desc with
  | some (n,et)=>VR cfg et λ ei=>gN (zok ei) (gN (Nat.blt 0 n) (gN (decide (ti.zero=agt n ei.zero)) (.ret (.ptr dR 0 0) [(dR,some (.row ei.size n (λ _=>zeroOf ei)))])))
  | none=>.ret (.ptr dR 0 0) [(dR,some (.box (AA ti.zero)))]
 | .box _ x=>Nb (ρ x) λ cs=>.ret (.ptr dR 0 0) [(dR,some (.box cs))]
 | .build t parts=>VR cfg t λ ti=>match ti.desc with
  | .struct fs=>aer cfg fs (parts.toList.map λ p=>(p.1,ρ p.2)) (AA ti.zero) λ cs=>j6 (.agg cs)
  | .array n et=>VR cfg et λ ei=>aer cfg (ah2 et ei.size n 0) (parts.toList.map λ p=>(p.1,ρ p.2)) (AA ti.zero) λ cs=>j6 (.agg cs)
  | _=>.fail
 | .buildSlice t len parts=>D5 cfg t λ ti=>gN (zok ti) (gN (Nat.ble (len*ti.size) 4096) (TQ (parts.toList.map λ p=>(p.1,ρ p.2)) λ ps ids=>
   ahX ti.size ti.agg ps (aiS len (zeroOf ti)) λ es=>
   .ret (.eF dR 0 len true) ((dR,some (.row ti.size len (XB es)))::dead ids)))
 | .load t a=>VR cfg t λ ti=>match ρ a with
  | .ptr o i off=>.rd o λ
   | .box cs=>Bw ti (cs.drop off)
   | .row es n g=>match ZB ti.desc with
    | some _=>gN (isZ i&&isZ off) (Bw ti (kX n 0 g))
    | none=>gN (Nat.ble (off+ti.size) es) (Bw ti ((g i).cells.drop off))
   | .map .. => .fail
  | .ro cs=>Bw ti cs
  | _=>.fail
 | .store t a x=>VR cfg t λ ti=>match ρ a with
  | .ptr o i off=>.rd o λ
   | .box cs=>Nb (ρ x) λ vs=>gN (Nat.beq vs.length ti.size) (gN (Nat.ble (off+vs.length) cs.length) (.ret .undef [(o,some (.box (Hr off vs cs)))]))
   | .row es n g=>match ZB ti.desc with
    | some _=>pur fuel (ρ x) λ x' ids=>gN (!CQ o ids) (Nb x' λ vs=>gN (Nat.beq vs.length ti.size) (gN (Nat.beq es 1) (gN (Nat.beq n ti.size) (gN (isZ i&&isZ off) (.ret .undef ((o,some (.row 1 n (XB vs)))::dead ids))))))
    | none=>pur fuel (ρ x) λ x' ids=>gN (!CQ o ids) (Nb x' λ vs=>gN (Nat.beq vs.length ti.size) (gN (Nat.blt 0 ti.size) (gN (Nat.ble (off+vs.length) es)
     (.ret .undef ((o,some (.row es n (aep g i (match isZ off&&Nat.beq vs.length es with
       | true=>x'
       | false=>match g i with
        | .agg cs=>.agg (Hr off vs cs)
        | _=>x'))))::dead ids)))))
   | .map .. => .fail
  | _=>.fail
 | .nilCheck x=>match ρ x with
  | .ptr o i off=>.rd o λ _=>j6 (.ptr o i off)
  | .ro cs=>j6 (.ro cs)
  | .fn f cs=>j6 (.fn f cs)
  | _=>.fail
 | .binOp op t x y _=>akc cfg op t (ρ x) (ρ y)
 | .unOp op _ x=>match op,ρ x with
  | .not,.bool b=>j6 (.bool (!b))
  | .neg,.int k n=>gN (zx k .i64) (mF (aG (-n)) (.int .i64 (-n)))
  | _,_=>.fail
 | .convert src dst x=>VR cfg src λ _=>VR cfg dst λ ti=>match ao3 ti.desc with
  | true=>ac7 cfg src (ρ x)
  | false=>match ti.desc,ρ x with
   | .int k,.int _ n=>j6 (.int k (k.wrap n))
   | _,_=>.fail
 | .makeFunc fn first captured=>match fn,first.toList with
  | .func f,[]=>j6 (.fn f (captured.toList.map ρ))
  | _,_=>.fail
 | .makeSlice t l c=>D5 cfg t λ ti=>match ρ l with
  | .int _ n=>match Fw (some l) (some c) with
   | true=>gN (Nat.blt 0 ti.bytes) (gN (zok ti) (.need (0≤n∧n*ti.bytes≤big) (.ret (.eF dR 0 n.toNat true) [(dR,some (.row ti.size n.toNat (λ _=>zeroOf ti)))])))
   | false=>match ρ c with
    | .int _ k=>gN (Nat.blt 0 ti.bytes) (gN (zok ti) (.need (n=0∧0≤k∧k*ti.bytes≤big) (.ret (.eF dR 0 0 false) [(dR,some (.row ti.size 0 fJ))])))
    | _=>.fail
  | _=>.fail
 | .slice t x lo hi mx=>match ako cfg t with
  | some (n,et)=>VR cfg et λ ei=>gN mx.isNone (match ρ x with
   | .ptr o i off=>.rd o λ
    | .row es n' _=>gN (isZ i&&isZ off) (gN (Nat.beq es ei.size) (gN (Nat.beq n' n) (akr o n (lo.map ρ) (hi.map ρ))))
    | _=>.fail
   | _=>.fail)
  | none=>match ρ x with
  | .eF o i n f=>D5 cfg t λ ti=>.rd o λ
   | .row es N _=>gN (Nat.beq es ti.size) (akd o i n N f (lo.map ρ) (hi.map ρ) (mx.map ρ))
   | _=>.fail
  | _=>aiT ρ hi mx<|D5 cfg t λ ti=>match ρ x with
   | .sl es n f g=>gN (Sb es n ti.size) (Y9 (.sl es n f g) (lo.map ρ) (hi.map ρ) mx.isSome mx.isSome)
   | .eF o i n f=>.rd o λ
    | .row es _ _=>gN (Nat.beq es ti.size) (Y9 (.eF o i n f) (lo.map ρ) (hi.map ρ) mx.isSome mx.isSome)
    | _=>.fail
   | _=>.fail
 | .fieldAddr s x f=>VR cfg s λ ts=>match Qa ts f with
  | some (o,t)=>VR cfg t λ ti=>gN (Nat.blt 0 ti.size) (match ρ x with
   | .ptr ob i off=>.rd ob λ _=>j6 (.ptr ob i (off+o))
   | .ro cs=>j6 (.ro (cs.drop o))
   | _=>.fail)
  | none=>.fail
 | .field s x f=>VR cfg s λ ts=>match Qa ts f with
  | some (o,t)=>VR cfg t λ ti=>match ρ x with
   | .agg cs=>Bw ti (cs.drop o)
   | _=>.fail
  | none=>.fail
 | .indexAddr t x ix=>match ako cfg t with
  | some (n,et)=>VR cfg et λ ei=>match ρ ix,ρ x with
   | .int _ i,.ptr o j off=>.rd o λ
    | .row es n' _=>gN (isZ j&&isZ off) (gN (Nat.beq es ei.size) (gN (Nat.beq n' n) (mF (0≤i∧i<n) (.ptr o i.toNat 0))))
    | _=>.fail
   | _,_=>.fail
  | none=>D5 cfg t λ ti=>match ρ ix with
  | .int _ i=>match ρ x with
   | .sl es n _ g=>gN (Sb es n ti.size) (mF (0≤i∧i<n) (.ro (g i.toNat).cells))
   | .eF o j n _=>.rd o λ
    | .row es _ _=>gN (Nat.beq es ti.size) (mF (0≤i∧i<n) (.ptr o (addN j i.toNat) 0))
    | _=>.fail
   | _=>.fail
  | _=>.fail
 | .index t x ix=>VR cfg t λ ti=>match ti.desc,ρ x,ρ ix with
  | .str,.str b,.int _ i=>mF (0≤i∧i<b.size) (.int .u8 (gI b i.toNat))
  | .array n et,.agg cs,.int _ i=>VR cfg et λ ei=>akq ei n cs i
  | _,_,_=>.fail
 | .makeMap t none=>akn cfg t λ ki ei=>.ret (.mref dR) [(dR,some (.map ki.desc ei.zero λ _=>none))]
 | .lookup t x ix false=>akn cfg t λ ki ei=>match ρ x,keyOf (ρ ix) with
  | .mref o,some k=>gN (JJ ki.desc k) (.rd o λ
   | .map kd z f=>gN (decide (kd=ki.desc)) (gN (decide (z=ei.zero)) (gN (ac6 z) (j6 (aqP z (CS f k)))))
   | _=>.fail)
  | _,_=>.fail
 | .mapUpdate t x ix y=>akn cfg t λ ki ei=>match ρ x,keyOf (ρ ix),ao1 ei.zero (ρ y) with
  | .mref o,some k,some n=>gN (JJ ki.desc k) (.rd o λ
   | .map kd z f=>gN (decide (kd=ki.desc)) (gN (decide (z=ei.zero)) (gN (ac6 z) (.ret .undef [(o,some (.map kd z (VT f k n)))])))
   | _=>.fail)
  | _,_,_=>.fail
 | .extract t i=>match ρ t with
  | .kH vs=>gN (Nat.blt i vs.length) (j6 (nth vs i))
  | _=>.fail
 | .call c=>match c.callee with
  | .builtin .len=>match c.args.toList.map ρ,c.argTypes.toList with
   | [v],[t]=>VR cfg t λ ti=>match v,ti.desc with
    | .sl _ n _ _,.slice _=>j6 (.int .i64 n)
    | .eF o _ n _,.slice _=>.rd o λ _=>j6 (.int .i64 n)
    | .str s,.str=>j6 (.int .i64 s.size)
    | _,_=>.fail
   | _,_=>.fail
  | .builtin .cap=>match c.args.toList.map ρ,c.argTypes.toList with
   | [.sl _ n true _],[t]=>VR cfg t λ ti=>match ti.desc with
    | .slice _=>j6 (.int .i64 n)
    | _=>.fail
   | _,_=>.fail
  | .builtin .append=>match c.args.toList.map ρ,c.argTypes.toList with
   | [d,s],[t,t']=>aqJ s (ao5 cfg dR t t' d)
    (D5 cfg t' λ _=>D5 cfg t λ ti=>gN (Nat.blt 0 ti.size) (gN (Nat.blt 0 ti.bytes) (match isSelf d s with | true=>ac3 ti d s | false=>aes ti dR d s)))
   | _,_=>.fail
  | .builtin .copy=>match c.args.toList.map ρ,c.argTypes.toList with
   | [d,s],[t,t']=>D5 cfg t' λ _=>D5 cfg t λ ti=>gN (Nat.blt 0 ti.size) (ake ti d s)
   | _,_=>.fail
  | .builtin .clear=>match c.args.toList.map ρ,c.argTypes.toList with
   | [.eF o i n _],[t]=>D5 cfg t λ ti=>gN (zok ti) (.rd o λ
    | .row es N g=>gN (Nat.beq es ti.size) (.ret .undef [(o,some (.row es N (cpG i n g (λ _=>zeroOf ti))))])
    | _=>.fail)
   | _,_=>.fail
  | .builtin .min=>match c.args.toList.map ρ with
   | [.int k a,.int _ b]=>j6 (.int k (if b<a then b else a))
   | _=>.fail
  | .builtin .max=>match c.args.toList.map ρ with
   | [.int k a,.int _ b]=>j6 (.int k (if b > a then b else a))
   | _=>.fail
  | .builtin _=>.fail
  | .value f=>match ρ f with
   | .fn g caps=>akm cfg dR g (c.args.toList.map ρ++caps)
   | _=>.fail
  | .invoke _ _=>.fail
 | _=>.fail
def Zc (T:Nat→AV):Operand→AV
 | .tmp t=>T t
 | .const v=>ofConst v
 | .global g=>match look cfg.glob g with | some cs=>.ro cs | none=>.undef
 | .func f=>.fn f []
end ops
abbrev pz:=FuncId→List AV→List dW→AV→List dW→Prop
structure Log where
 AB:List Nat
 wrs:List Nat
structure St where
 tmps:List (Nat×AV)
 heap:lK
 nx:Nat
abbrev PC:=List (Bool×Bool)
def aiY:PC→Prop→(Prop→Prop)→Prop
 | [],p,K=>K p
 | (c,b)::l,p,K=>aiY l (c=b→p) K
section run
variable (cfg:y7) (Sp:pz)
def ids:lK→List Nat
 | []=>[]
 | (o,_)::l=>o::ids l
def ev (pc:PC) (H:Nat→Option dW):Pg→List Nat→(AV→lK→List Nat→Prop)→Prop
 | .ret v ups,AB,K=>force v λ v'=>DZ ups λ wP=>K v' wP AB
 | @Pg.need p _ k,AB,K=>aiY pc p λ p'=>p'∧ev pc H k AB K
 | .rd o k,AB,K=>match H o with
  | some x=>ev pc H (k x) (o::AB) K
  | none=>aiY pc False λ p'=>p'∧K .undef [] AB
 | .call f args obs k,AB,K=>∃r fV,aiY pc (Sp f args obs r fV) λ p'=>p'∧ev pc H (k r fV) AB K
 | .fail,AB,K=>aiY pc False λ p'=>p'∧K .undef [] AB
def ah3:Op→Bool
 | .move _ | .assign _ | .pick .. | .build .. | .load .. | .nilCheck _ | .binOp .. | .unOp .. | .convert .. | .makeFunc .. | .slice .. | .fieldAddr .. | .field .. | .indexAddr .. | .index .. | .lookup .. | .extract .. => true
 | .call c=>match c.callee with
  | .builtin .len | .builtin .min | .builtin .max=>true
  | .value (.func f)=>match (am3 cfg f).muts,(am3 cfg f).frz with | [],false=>true | _,_=>false
  | _=>false
 | _=>false
def ZC (c:Bool) (A B:Prop):Prop:=match c with | true=>A | false=>B
def ab9:List Oper→Nat→Option Oper
 | [],_=>none
 | o::_,0=>some o
 | _::l,n+1=>ab9 l n
def XD (all:List Oper) (j:Nat):Option Nat:=match ab9 all j with
 | some o=>o.dst
 | none=>none
def aks (ups H:lK) (K:lK→Prop):Prop:=
 match ups with
 | []=>K H
 | u::l=>aks l H λ H'=>K (u::H')
def akt (dst:Option Nat) (v u:AV) (T U:List (Nat×AV)) (K:List (Nat×AV)→List (Nat×AV)→Prop):Prop:=
 match dst with
 | some d=>K ((d,v)::T) ((d,u)::U)
 | none=>K T U
def Nj:List PC→Nat→PC
 | [],_=>[]
 | p::_,0=>p
 | _::l,n+1=>Nj l n
def agv:List PC→Nat→(PC→Prop)→Prop
 | [],_,K=>K []
 | p::_,0,K=>K p
 | _::l,n+1,K=>agv l n K
def Sc:List PC→PC→(List PC→Prop)→Prop
 | [],p,K=>K [p]
 | q::l,p,K=>Sc l p λ l'=>K (q::l')
def isNone {α:Type}:Option α→Bool
 | none=>true
 | some _=>false
def aey (all:List Oper) (nx:Nat):List Oper→Nat→List (Nat×AV)→List (Nat×AV)→lK→List PC→List Log→(St→List Log→Prop)→Prop
 | [],i,_,U,H,_,log,K=>K ⟨U,H,nx+stride*i⟩ log
 | o::rest,i,T,U,H,pcs,log,K=>
  match o.guard with
  | none=>ev Sp [] (hget H) (gY cfg (nx+stride*i) o.op (Zc cfg (iR T))) [] λ v ups AB=>
    akt o.dst v v T U λ T' U'=>aks ups H λ H'=>Sc pcs [] λ agw=>aey all nx rest (i+1) T' U' H' agw (⟨AB,ids ups⟩::log) K
  | some (j,b)=>match XD all j with
   | some d=>match iR T d with
    | .bool c=>match ah3 cfg o.op with
     | true=>agv pcs j λ pcj=>ev Sp ((c,b)::pcj) (hget H) (gY cfg (nx+stride*i) o.op (Zc cfg (iR T))) [] λ v ups AB=>
      match ups with
      | []=>akt o.dst v .undef T U λ T' U'=>Sc pcs ((c,b)::pcj) λ agw=>aey all nx rest (i+1) T' U' H agw (⟨AB,[]⟩::log) K
      | _::_=>False
     | false=>match Nj pcs j with
      | []=>ZC (c==b)
       (ev Sp [] (hget H) (gY cfg (nx+stride*i) o.op (Zc cfg (iR T))) [] λ v ups AB=>
         akt o.dst v v T U λ T' U'=>aks ups H λ H'=>Sc pcs [] λ agw=>aey all nx rest (i+1) T' U' H' agw (⟨AB,ids ups⟩::log) K)
       (akt o.dst .undef .undef T U λ T' U'=>Sc pcs [(c,b)] λ agw=>aey all nx rest (i+1) T' U' H agw (⟨[],[]⟩::log) K)
      | _::_=>False
    | _=>False
   | none=>False
def ZE (all:List Oper) (i:Nat):Option (Nat×Bool):=match ab9 all i with
 | some o=>o.guard
 | none=>none
def chain (all:List Oper):Nat→Option (Nat×Bool)→List (Nat×Bool)
 | 0,_=>[]
 | _+1,none=>[]
 | f+1,some (j,b)=>(j,b)::chain all f (ZE all j)
def ah4 (d:Option Nat) (t:Nat):Bool:=match d with
 | some x=>Nat.beq x t
 | none=>false
def wh (t:Nat):List Oper→Nat→List Nat
 | [],_=>[]
 | o::l,i=>match ah4 o.dst t with
  | true=>i::wh t l (i+1)
  | false=>wh t l (i+1)
def writers (all:List Oper) (t:Nat):List Nat:=wh t all 0
def Zd (all:List Oper):List Nat→Bool
 | []=>true
 | i::l=>match ZE all i with
  | none=>Zd all l
  | some _=>false
def eqB:Bool→Bool→Bool
 | true,true=>true
 | false,false=>true
 | _,_=>false
def am9 (j:Nat) (b:Bool):List (Nat×Bool)→Bool
 | []=>false
 | (j',b')::l=>match Nat.beq j j',eqB b b' with
  | true,true=>true
  | _,_=>am9 j b l
def ac8 (all:List Oper) (k:Nat) (g:Option (Nat×Bool)) (t:Nat):Bool:=
 match writers all t with
 | [i]=>match ZE all i with
  | none=>true
  | some (j,b)=>match Nat.blt i k with
   | true=>am9 j b (chain all 20 g)
   | false=>false
 | l=>Zd all l
def ah5 (all:List Oper) (k:Nat) (g:Option (Nat×Bool)) (c:Operand) (pol:Bool) (x:Operand):Bool:=
 match x with
 | .tmp t=>match ac8 all k g t with
  | true=>true
  | false=>match c,writers all t with
   | .tmp ct,[i]=>match ZE all i,writers all ct,Nat.blt i k with
    | some (j,b),[jc],true=>match Nat.beq j jc,Nat.blt jc k with
     | true,true=>eqB b pol
     | _,_=>false
    | _,_,_=>false
   | _,_=>false
 | _=>true
def Qc (all:List Oper) (k:Nat) (g:Option (Nat×Bool)):Operand→Bool
 | .tmp t=>ac8 all k g t
 | _=>true
def JL (all:List Oper) (k:Nat) (g:Option (Nat×Bool)):List Operand→Bool
 | []=>true
 | x::l=>match Qc all k g x with
  | true=>JL all k g l
  | false=>false
def aez (all:List Oper) (k:Nat) (o:Oper):Bool:=
 match (match o.guard with
  | none=>true
  | some (j,_)=>match Nat.blt j k with
   | true=>match XD all j with
    | some d=>match writers all d with
         | [j']=>Nat.beq j' j
         | _=>false
    | none=>false
   | false=>false) with
 | true=>match o.op with
  | .pick c x y=>match Qc all k o.guard c,ah5 all k o.guard c true x with
   | true,true=>ah5 all k o.guard c false y
   | _,_=>false
  | op=>JL all k o.guard op.operands.toList
 | false=>false
def sQ (N:Nat) (all:List Oper):List Oper→Nat→Bool
 | [],_=>true
 | o::l,k=>match aez all k o,(match o.dst with | some d=>Nat.blt d N | none=>true) with
  | true,true=>sQ N all l (k+1)
  | _,_=>false
def before (all:List Oper):Nat→Nat→Nat→Bool
 | 0,_,_=>false
 | f+1,i,j=>match ab9 all j with
  | some o=>o.after.toList.any λ e=>Region.binds .any e&&Nat.blt e.on j&&(Nat.beq e.on i||before all f i e.on)
  | none=>false
def looks (all:List Oper) (o:Oper):List Nat:=
 (o.op.operands.toList.filterMap λ | .tmp t=>some t | _=>none)++(match o.guard with | some (j,_)=>(XD all j).toList | none=>[])
def isIn (d:Option Nat) (l:List Nat):Bool:=match d with
 | some x=>CQ x l
 | none=>false
def ZF (all:List Oper) (x y:Oper):Bool:=!isIn x.dst (looks all y)&&!isIn y.dst (looks all x)&&!isIn x.dst y.dst.toList
def Nk (all:List Oper) (j:Nat) (oj:Oper):List Oper→Nat→Bool
 | [],_=>true
 | o::l,i=>match Nat.blt i j with
  | true=>(ZF all o oj||before all 40 i j)&&Nk all j oj l (i+1)
  | false=>true
def ac9 (o:Oper) (k:Nat):Bool:=o.after.toList.all λ e=>!Region.binds .any e||Nat.blt e.on k
def VU (all:List Oper):List Oper→Nat→Bool
 | [],_=>true
 | o::l,j=>ac9 o j&&Nk all j o all 0&&VU all l (j+1)
def aku (N:Nat) (all:List Oper) (draw:Bool):Bool:=sQ N all all 0&&(!draw||VU all all 0)
def jf (N:Nat):Code→Bool
 | .region _ ops draw=>aku N ops.toList draw
 | .seq a b=>jf N a&&jf N b
 | .cond _ a b=>jf N a&&jf N b
 | .block _ a=>jf N a
 | .loop a=>jf N a
 | .rangeFunc _ _ a b=>jf N a&&jf N b
 | .skip | .exit _ | .ret=>true
 | _=>false
def meets (l m:List Nat):Bool:=match l with
 | []=>false
 | x::l'=>match CQ x m with
  | true=>true
  | false=>meets l' m
def VW (all:List Oper) (j:Nat) (x:Log):List Log→Nat→Bool
 | [],_=>true
 | _::_,0=>true
 | y::l,i+1=>match meets x.wrs y.AB,meets y.wrs x.AB,meets y.wrs x.wrs with
  | false,false,false=>VW all j x l i
  | _,_,_=>match before all 40 i j with
   | true=>VW all j x l i
   | false=>false
def JF (all:List Oper):List Log→Nat→Bool
 | [],_=>true
 | _::_,0=>true
 | x::l,j+1=>match VW all j x l j with
  | true=>JF all l j
  | false=>false
def Ze:Code→Nat
 | .region id _ _=>id
 | .seq a _=>Ze a
 | .block _ a=>Ze a
 | .loop a=>Ze a
 | _=>1000000
def lM (ct:List Nat) (L:Code→St→(Exit→St→Prop)→Prop):Code→St→(Exit→St→Prop)→Prop
 | .skip,s,K=>K .normal s
 | .region _ ops draw,⟨T,H,nx⟩,K=>aey cfg Sp ops.toList nx ops.toList 0 T T H [] [] λ s' log=>
  match draw with
  | true=>match JF ops.toList log ops.toList.length with
   | true=>K .normal s'
   | false=>False
  | false=>K .normal s'
 | .seq a b,s,K=>match CQ (Ze b) ct with
  | true=>L (.seq a b) s K
  | false=>lM ct L a s λ e s'=>match e with
   | .normal=>lM ct L b s' K
   | e=>K e s'
 | .cond c x y,s,K=>match Zc cfg (iR s.tmps) c with
  | .bool b=>ZC b (lM ct L x s K) (lM ct L y s K)
  | _=>False
 | .block id c,s,K=>lM ct L c s λ e s'=>match e with
  | .exit i=>match Nat.beq i id with
   | true=>K .normal s'
   | false=>K (.exit i) s'
  | e=>K e s'
 | .loop c,s,K=>L (.loop c) s K
 | .rangeFunc g ps a b,s,K=>L (.rangeFunc g ps a b) s K
 | .exit id,s,K=>K (.exit id) s
 | .ret,s,K=>K .ret s
 | _,_,_=>False
end run
inductive Le:AV→AV→Prop
 | refl (v:AV):Le v v
 | sl {es es' n n':Nat} {f f':Bool} {g g':Nat→AV} (hn:n=n') (he:n≠0→es=es') (hf:f'=true→f=true) (h:∀i,i<n→Le (g i) (g' i)):Le (.sl es n f g) (.sl es' n' f' g')
 | ro {cs cs':List AV} (hl:cs.length=cs'.length) (h:∀j,j<cs.length→Le (nth cs j) (nth cs' j)):Le (.ro cs) (.ro cs')
 | agg {cs cs':List AV} (hl:cs.length=cs'.length) (h:∀j,j<cs.length→Le (nth cs j) (nth cs' j)):Le (.agg cs) (.agg cs')
 | kH {cs cs':List AV} (hl:cs.length=cs'.length) (h:∀j,j<cs.length→Le (nth cs j) (nth cs' j)):Le (.kH cs) (.kH cs')
 | fn {f:FuncId} {cs cs':List AV} (hl:cs.length=cs'.length) (h:∀j,j<cs.length→Le (nth cs j) (nth cs' j)):Le (.fn f cs) (.fn f cs')
def Sd:List AV→List AV→Prop
 | [],[]=>True
 | u::l,v::m=>Le u v∧Sd l m
 | _,_=>False
def LeO:dW→dW→Prop
 | .box cs,.box cs'=>Sd cs cs'
 | .row es n g,.row es' n' g'=>es=es'∧n=n'∧∀i,i<n→Le (g i) (g' i)
 | _,_=>False
def ao7:List dW→List dW→Prop
 | [],[]=>True
 | x::l,y::m=>LeO x y∧ao7 l m
 | _,_=>False
def uF (ρ:List (Nat×Option Nat)) (o:Nat):Option Nat:=match look ρ o with
 | some x=>x
 | none=>some o
def ZG (H:lK) (o:Nat):Bool:=match hget H o with
 | some _=>true
 | none=>false
def nJ (ρ:List (Nat×Option Nat)) (H':lK):Nat→AV→AV→Prop
 | 0,_,_=>False
 | f+1,u,v=>match v with
  | .undef=>True
  | .bool b'=>match u with | .bool b=>b=b' | _=>False
  | .int k' n'=>match u with | .int k n=>k=k'∧n=n' | _=>False
  | .str s'=>match u with | .str s=>s=s' | _=>False
  | .E5=>match u with | .E5=>True | _=>False
  | .mref o'=>match u with | .mref o=>ZG H' o'=true∧uF ρ o'=some o | _=>False
  | .sl es' n' f' g'=>match u with
   | .sl es n fu g=>n=n'∧(n≠0→es=es')∧(f'=true→fu=true)∧∀i,i<n→Le (g i) (g' i)
   | _=>False
  | .ro cs'=>match u with | .ro cs=>Sd cs cs' | _=>False
  | .ptr o' i' off'=>match u with
   | .ptr o i off=>ZG H' o'=true∧uF ρ o'=some o∧i=i'∧off=off'
   | _=>False
  | .eF o' i' n' f'=>match u with
   | .eF o i n fu=>ZG H' o'=true∧uF ρ o'=some o∧i=i'∧n=n'∧(f'=true→fu=true)
   | .sl _ n fu _=>ZG H' o'=true∧uF ρ o'=none∧fu=true∧n=0∧i'=0∧n'=0
   | _=>False
  | .agg cs'=>match u with | .agg cs=>TR f cs cs' | _=>False
  | .fn f' cs'=>match u with | .fn fu cs=>fu=f'∧TR f cs cs' | _=>False
  | .kH cs'=>match u with | .kH cs=>TR f cs cs' | _=>False
 where
 TR:Nat→List AV→List AV→Prop
  | 0,_,_=>False
  | _+1,[],[]=>True
  | f+1,u::l,v::m=>nJ ρ H' f u v∧TR f l m
  | _+1,_,_=>False
def ao8 (ρ:List (Nat×Option Nat)) (H':lK) (T:List (Nat×AV)):List (Nat×AV)→Prop
 | []=>True
 | (t,v)::l=>nJ ρ H' fuel (iR T t) v∧ao8 ρ H' T l
def aeA (ρ:List (Nat×Option Nat)) (H':lK) (x y:dW):Prop:=
 match x,y with
 | .box cs,.box cs'=>nJ.TR ρ H' fuel cs cs'
 | .row es n g,.row es' n' g'=>es=es'∧n=n'∧∀i,i<n→Le (g i) (g' i)
 | .map kd z f,.map kd' z' f'=>kd=kd'∧z=z'∧f=f'
 | _,_=>False
def akv (ρ:List (Nat×Option Nat)) (H' H:lK):lK→Prop
 | []=>True
 | (_,none)::l=>akv ρ H' H l
 | (o',some y)::l=>(match uF ρ o' with
  | some o=>match hget H o with
   | some x=>aeA ρ H' x y
   | none=>False
  | none=>match y with
   | .row _ n _=>n=0
   | _=>False)∧akv ρ H' H l
def ZH (ρ:List (Nat×Option Nat)):lK→List Nat
 | []=>[]
 | (_,none)::l=>ZH ρ l
 | (o',some _)::l=>match uF ρ o' with
  | some o=>o::ZH ρ l
  | none=>ZH ρ l
def Sg (m nx:Nat) (ρ:List (Nat×Option Nat)):lK→Bool
 | []=>true
 | (o',_)::l=>match Nat.blt o' nx with
  | true=>match uF ρ o' with
   | some o=>match Nat.beq o o' with
    | true=>Sg m nx ρ l
    | false=>match Nat.ble m o' with
     | true=>Sg m nx ρ l
     | false=>false
   | none=>match Nat.ble m o' with
    | true=>Sg m nx ρ l
    | false=>false
  | false=>false
def aoB:lK→Bool
 | []=>true
 | (o,_)::l=>match look l o with
  | some _=>false
  | none=>aoB l
def agx (m:Nat) (ρ:List (Nat×Option Nat)) (s':St):Bool:=
 match Sg m s'.nx ρ s'.heap,pG (ZH ρ s'.heap),aoB s'.heap with
 | true,true,true=>Nat.ble m s'.nx
 | _,_,_=>false
structure Emb (m:Nat) (ρ:List (Nat×Option Nat)) (s s':St):Prop where
 JF:agx m ρ s'=true
 tmps:ao8 ρ s'.heap s.tmps s'.tmps
 heap:akv ρ s'.heap s.heap s'.heap
def upTo:Nat→Nat→List Nat
 | 0,_=>[]
 | n+1,i=>i::upTo n (i+1)
def KP (cfg:y7) (s:St):List ResultVar→Option (List AV)
 | []=>some []
 | .tmp t::l=>match KP cfg s l with
  | some vs=>some (iR s.tmps t::vs)
  | none=>none
 | .cell ad ty::l=>match KP cfg s l,iR s.tmps ad,look cfg.ty ty with
  | some vs,.ptr o 0 0,some ti=>match hget s.heap o with
   | some (.box cs)=>match ti.agg with
    | true=>match Nat.ble ti.size cs.length with
     | true=>some (.agg (cs.take ti.size)::vs)
     | false=>none
    | false=>match cs with
     | c::_=>some (c::vs)
     | []=>none
   | some (.row _ n g)=>match ZB ti.desc,ti.agg with
    | some _,true=>match kX n 0 g with
     | cs=>match Nat.ble ti.size cs.length with
      | true=>some (.agg (cs.take ti.size)::vs)
      | false=>none
    | _,_=>none
   | _=>none
  | _,_,_=>none
def oneOf:List AV→AV
 | [v]=>v
 | vs=>.kH vs
def ada (m:Nat) (r:AV):AV→List Nat
 | .ptr o _ _=>match Nat.ble m o with
  | true=>[o]
  | false=>[]
 | .eF o _ _ _=>match r with
  | .eF .. => match Nat.ble m o with
   | true=>[o]
   | false=>[]
  | _=>[]
 | _=>[]
def ZI (H:lK):List Nat→List dW→Prop
 | [],[]=>True
 | o::l,y::ys=>(match hget H o with
  | some x=>match Za x with
   | true=>aeA [] [] x y
   | false=>False
  | none=>False)∧ZI H l ys
 | _,_=>False
def JM (cfg:y7) (Sp:pz) (rs:List ResultVar) (m:Nat) (r:AV) (fV:List dW) (e:Exit) (s:St):Prop:=
 match (match e with | .normal=>true | .ret=>true | _=>false) with
 | true=>match KP cfg s rs with
  | some vs=>match oneOf vs with
   | v=>match upTo m 0++ada m r v with
    | sg=>ev Sp [] (hget s.heap) (Qb sg v λ v' ids=>gN (pG sg) (gN (Ng ids sg) (j6 v'))) [] λ v' _ _=>nJ [] (pI fV 0) fuel v' r∧ZI s.heap sg fV
  | none=>False
 | false=>False
 where pI:List dW→Nat→lK
 | [],_=>[]
 | x::l,i=>(i,some x)::pI l (i+1)
def ZJ:List dW→Nat→lK
 | [],_=>[]
 | x::l,i=>(i,gz x)::ZJ l (i+1)
def KQ:List AV→Nat→List (Nat×AV)
 | [],_=>[]
 | v::l,i=>(i,v)::KQ l (i+1)
end Go.Ab
namespace Go.Ab
inductive iK (w:World) (I:Nat→Prop):AV→Value→Prop
 | undef (x:Value):iK w I .undef x
 | bool (b:Bool):iK w I (.bool b) (.bool b)
 | int (k:IntKind) (n:Int):iK w I (.int k n) (.int k n)
 | str (s:ByteArray):iK w I (.str s) (.string s)
 | E5:iK w I .E5 (.pointer none)
 | sl {es n:Nat} {full:Bool} {g:Nat→AV} {a:Option Addr} {cap:Nat} (b off:Nat) (vs:Nat→Nat→Value)
   (hcap:n≤cap) (hfull:full=true→cap=n) (ha:n≠0→a=some ⟨b,off,none⟩∧I b)
   (hes:∀i,i<n→(g i).cells.length=es)
   (hm:∀i j,i<n→j<es→w.cell? ⟨b,off+(i*es+j),none⟩=some (vs i j))
   (h1:∀i j,i<n→j<es→(vs i j).oneCell'=true)
   (hr:∀i j,i<n→j<es→iK w I (nth (g i).cells j) (vs i j)):iK w I (.sl es n full g) (.slice a n cap)
 | ro {cs:List AV} (b off:Nat) (vs:Nat→Value) (hI:I b)
   (hm:∀j,j<cs.length→w.cell? ⟨b,off+j,none⟩=some (vs j))
   (hr:∀j,j<cs.length→iK w I (nth cs j) (vs j)):iK w I (.ro cs) (.pointer (some ⟨b,off,none⟩))
 | agg {cs:List AV} {vs:Array Value} (hl:vs.size=cs.length) (hr:∀j,j<cs.length→iK w I (nth cs j) (vs.getD j Go.undef)):iK w I (.agg cs) (.agg vs)
 | fn {f:FuncId} {cs:List AV} {vs:Array Value} (hl:vs.size=cs.length) (hr:∀j,j<cs.length→iK w I (nth cs j) (vs.getD j Go.undef)):iK w I (.fn f cs) (.func (.func f) #[] vs)
 | kH {cs:List AV} {vs:Array Value} (hl:vs.size=cs.length) (hr:∀j,j<cs.length→iK w I (nth cs j) (vs.getD j Go.undef)):iK w I (.kH cs) (.tuple vs)
structure Own where
 es:Nat
 n:Nat
 pl:Option (Nat×Nat×Nat)
abbrev OM:=Nat→Option Own
inductive eX (w:World) (I:Nat→Prop) (O:OM) (D:Nat→Prop):AV→Value→Prop
 | pure {v:AV} {x:Value} (h:iK w I v x):eX w I O D v x
 | ptr {o i off b bo sz:Nat} {p:Own} (ho:O o=some p) (hp:p.pl=some (b,bo,sz)) (hi:i<p.n):eX w I O D (.ptr o i off) (.pointer (some ⟨b,bo+(i*p.es+off),none⟩))
 | eF {o i n:Nat} {full:Bool} {p:Own} {a:Option Addr} {cap:Nat} (ho:O o=some p) (hi:i+n≤p.n) (hcap:n≤cap) (hfull:full=true→cap=n)
   (hpl:cap≠0→∃b bo sz,p.pl=some (b,bo,sz)∧a=some ⟨b,bo+i*p.es,none⟩∧bo+(i+cap)*p.es≤sz) (hext:p.n≤i+cap):eX w I O D (.eF o i n full) (.slice a n cap)
 | mref {o b bo sz:Nat} {p:Own} (ho:O o=some p) (hp:p.pl=some (b,bo,sz)):eX w I O D (.mref o) (.map (some b))
 | TS {o:Nat} {x:Value} (ho:O o=none) (hd:D o) (h1:x.oneCell'=true):eX w I O D (.mref o) x
 | D7 {o i off:Nat} {x:Value} (ho:O o=none) (hd:D o) (h1:x.oneCell'=true):eX w I O D (.ptr o i off) x
 | Cm {o i n:Nat} {full:Bool} {x:Value} (ho:O o=none) (hd:D o) (h1:x.oneCell'=true):eX w I O D (.eF o i n full) x
 | agg {cs:List AV} {vs:Array Value} (hl:vs.size=cs.length) (hr:∀j,j<cs.length→eX w I O D (nth cs j) (vs.getD j Go.undef)):eX w I O D (.agg cs) (.agg vs)
 | fn {f:FuncId} {cs:List AV} {vs:Array Value} (hl:vs.size=cs.length) (hr:∀j,j<cs.length→eX w I O D (nth cs j) (vs.getD j Go.undef)):eX w I O D (.fn f cs) (.func (.func f) #[] vs)
 | kH {cs:List AV} {vs:Array Value} (hl:vs.size=cs.length) (hr:∀j,j<cs.length→eX w I O D (nth cs j) (vs.getD j Go.undef)):eX w I O D (.kH cs) (.tuple vs)
def Nl (w:World) (b sz:Nat):Prop:=∀j,j<sz→(w.cell? ⟨b,j,none⟩).isSome=true∧w.frozen? ⟨b,j,none⟩=false
def cellAt (w:World) (b j:Nat):Value:=(w.cell? ⟨b,j,none⟩).getD Go.undef
def Nn:qR→Value
 | .s b=>.string b
 | .i n=>.int .i64 n
def Yh (z:List ZK) (n:Int):Value:=match z with
 | [.bool]=>.bool (n != 0)
 | [.int k]=>.int k n
 | _=>Go.undef
structure agy (kd:TD) (z:List ZK) (f:qR→Option Int) (es:Array MapEntry):Prop where
 keys:∀e∈es.toList,∃k n,e.key=Nn k∧JJ kd k=true∧f k=some n∧e.val=Yh z n
 uniq:es.toList.Pairwise λ e e'=>e.key≠e'.key
 all:∀k n,f k=some n→∃e∈es.toList,e.key=Nn k
def je (w:World) (I:Nat→Prop) (O:OM) (D:Nat→Prop) (p:Own):dW→Prop
 | .box cs=>p.n=1∧∃b bo sz,p.pl=some (b,bo,sz)∧Nl w b sz∧bo+cs.length≤sz∧∀j,j<cs.length→eX w I O D (nth cs j) (cellAt w b (bo+j))
 | .row es n g=>p.n=n∧p.es=es∧(∀i,i<n→(g i).cells.length=es)∧((n=0∧p.pl=none)∨
   ∃b bo sz,p.pl=some (b,bo,sz)∧Nl w b sz∧bo+n*es≤sz∧∀i j,i<n→j<es→iK w I (nth (g i).cells j) (cellAt w b (bo+(i*es+j)))∧(cellAt w b (bo+(i*es+j))).oneCell'=true)
 | .map kd z f=>p.n=1∧∃b bo sz es clock,p.pl=some (b,bo,sz)∧w.heap[b]? = some (.map es clock)∧agy kd z f es
structure Ctx where
 w0:World
 M:Nat→Prop
 I0:Nat→Prop
 O0:OM
 m:Nat
 K:Nat→Obj→Prop
 rd:Bool
def Qd:Obj→Bool
 | .cells .. => false
 | _=>true
structure iI (w' w:World):Prop where
 os:w'.os=w.os
 tape:w'.tape=w.tape
 output:w'.output=w.output
 keep:∀(k:Nat) (o:Obj),w.heap[k]? = some o→Qd o=true→w'.heap[k]? = some o
theorem iI.refl (w:World):iI w w:=⟨rfl,rfl,rfl,λ _ _ h _=>h⟩
theorem iI.trans {a b c:World} (h:iI a b) (k:iI b c):iI a c:=⟨h.os.trans k.os,h.tape.trans k.tape,h.output.trans k.output,λ i o hi ho=>h.keep i o (k.keep i o hi ho) ho⟩
variable {w':World}
theorem iI.heap {w:World} (h1:w'.os=w.os) (h2:w'.tape=w.tape) (h3:w'.output=w.output) (h:w'.heap=w.heap):iI w' w:=⟨h1,h2,h3,λ i o hi _=>by rw [h]; exact hi⟩
theorem iI.alloc (w:World) (o:Obj):iI (w.alloc o) w:=⟨rfl,rfl,rfl,λ i x hi _=>by
 have hlt:i<w.heap.size:=by
  rcases Nat.lt_or_ge i w.heap.size with h | h
  ·exact h
  ·rw [Array.getElem?_eq_none h] at hi; cases hi
 show (w.heap.push o)[i]? = some x;rw [Array.getElem?_push_lt hlt,← hi,Array.getElem?_eq_getElem hlt]⟩
structure Hw (cx:Ctx) (w:World):Prop where
 same:iI w cx.w0
 kept:∀k o,cx.K k o→w.heap[k]? = some o∧Qd o=true
theorem Hw.step {cx:Ctx} {w:World} (h:Hw cx w) (he:iI w' w):Hw cx w':=⟨he.trans h.same,λ k o hk=>⟨he.keep k o (h.kept k o hk).1 (h.kept k o hk).2,(h.kept k o hk).2⟩⟩
structure Rel (cfg:y7) (cx:Ctx) (H:Nat→Option dW) (D:Nat→Prop) (w:World) (I:Nat→Prop) (O:OM):Prop where
 dom:∀o,O o=none↔H o=none
 used:∀o p,O o=some p→D o
 objs:∀o ob p,H o=some ob→O o=some p→je w I O D p ob
 inj:∀o o' p p' b bo sz b' qA sz',O o=some p→O o'=some p'→p.pl=some (b,bo,sz)→p'.pl=some (b',qA,sz')→o≠o'→b≠b'
 qB:∀o p b bo sz,O o=some p→p.pl=some (b,bo,sz)→¬ I b
 lt:∀o p b bo sz,O o=some p→p.pl=some (b,bo,sz)→b<w.heap.size
 BA:∀b,I b→b<w.heap.size
 size:cx.w0.heap.size≤w.heap.size
 frame:∀b,b<cx.w0.heap.size→¬ cx.M b→w.heap[b]? = cx.w0.heap[b]?
 new:∀o p b bo sz,O o=some p→p.pl=some (b,bo,sz)→cx.w0.heap.size≤b∨cx.M b
 glob:∀g cs,look cfg.glob g=some cs→iK w I (.ro cs) (.pointer (some ⟨g,0,none⟩))
 TT:∀b,cx.I0 b→I b
 XE:∀b,I b→cx.I0 b∨cx.w0.heap.size≤b∨cx.M b
 ZL:∀o,o<cx.m→O o=cx.O0 o∨O o=none
 Dm:∀o,o<cx.m→D o
 env:Hw cx w
 maps:∀o kd z f p b bo sz,H o=some (.map kd z f)→O o=some p→p.pl=some (b,bo,sz)→cx.w0.heap.size≤b∧∀ob,¬ cx.K b ob
theorem vI (l:List AV) (i:Nat):nth l i=l.getD i .undef:=by
 induction l generalizing i with
 | nil=>simp [nth]
 | cons v l ih=>cases i<;>simp [nth,ih]
theorem cell?_of_heap {w:World} {b off:Nat} (h:w'.heap[b]? = w.heap[b]?):w'.cell? ⟨b,off,none⟩=w.cell? ⟨b,off,none⟩:=by
 simp [World.cell?, h]
theorem frozen?_of_heap {w:World} {b off:Nat} (h:w'.heap[b]? = w.heap[b]?):w'.frozen? ⟨b,off,none⟩=w.frozen? ⟨b,off,none⟩:=by
 simp [World.frozen?, h]
variable {I':Nat→Prop} {v:AV} {x:Value}
theorem iK.mono {w:World} {I:Nat→Prop} (hI:∀b,I b→I' b) (hw:∀b,I b→w'.heap[b]? = w.heap[b]?) (h:iK w I v x):iK w' I' v x:=by
 induction h with
 | undef x=>exact .undef x
 | bool b=>exact .bool b
 | int k n=>exact .int k n
 | str s=>exact .str s
 | E5=>exact .E5
 | @sl es n full g a cap b off vs hcap hfull ha hes hm h1 hr ih=>
  refine .sl b off vs hcap hfull (λ h=>⟨(ha h).1,hI _ (ha h).2⟩) hes (λ i j hi hj=>?_) h1 ih;rw [cell?_of_heap (hw _ (ha om).2)];exact hm i j hi hj
 | ro b off vs h1 hm hr ih=>
  refine .ro b off vs (hI _ h1) (λ j hj=>?_) ih;rw [cell?_of_heap (hw _ h1)];exact hm j hj
 | agg hl hr ih=>exact .agg hl ih
 | fn hl hr ih=>exact .fn hl ih
 | kH hl hr ih=>exact .kH hl ih
theorem eX.mono {w:World} {I:Nat→Prop} {O O':OM} {D D':Nat→Prop} (hI:∀b,I b→I' b) (hw:∀b,I b→w'.heap[b]? = w.heap[b]?)
  (hO:∀o,D o→O' o=O o∨O' o=none) (hD:∀o,D o→D' o) (hu:∀o p,O o=some p→D o) {v:AV} {x:Value} (h:eX w I O D v x):eX w' I' O' D' v x:=by
 induction h with
 | pure h=>exact .pure (h.mono hI hw)
 | @ptr o i off b bo sz p ho hp hi=>
  rcases hO o (hu o p ho) with h | h
  ·exact .ptr (h.trans ho) hp hi
  ·exact .D7 h (hD _ (hu o p ho)) rfl
 | @eF o i n full p a cap ho hi hcap hfull hpl hext=>
  rcases hO o (hu o p ho) with h | h
  ·exact .eF (h.trans ho) hi hcap hfull hpl hext
  ·exact .Cm h (hD _ (hu o p ho)) rfl
 | @mref o b bo sz p ho hp=>
  rcases hO o (hu o p ho) with h | h
  ·exact .mref (h.trans ho) hp
  ·exact .TS h (hD _ (hu o p ho)) rfl
 | @TS o x ho hd h1=>
  rcases hO o hd with h | h
  ·exact .TS (h.trans ho) (hD _ hd) h1
  ·exact .TS h (hD _ hd) h1
 | @D7 o i off x ho hd h1=>
  rcases hO o hd with h | h
  ·exact .D7 (h.trans ho) (hD _ hd) h1
  ·exact .D7 h (hD _ hd) h1
 | @Cm o i n full x ho hd h1=>
  rcases hO o hd with h | h
  ·exact .Cm (h.trans ho) (hD _ hd) h1
  ·exact .Cm h (hD _ hd) h1
 | agg hl hr ih=>exact .agg hl ih
 | fn hl hr ih=>exact .fn hl ih
 | kH hl hr ih=>exact .kH hl ih
def Np:ZK→Value→Prop
 | .bool,x=>x=.bool false
 | .int k,x=>x=.int k 0
 | .str,x=>x=.string ByteArray.empty
 | .slice,x=>x=.slice none 0 0
 | .ptr,x=>x=.pointer none
 | .other,x=>x.oneCell'=true
def akx:TD→TypeDesc→Prop
 | .bool,d=>d=.bool
 | .int k,d=>d=.int k
 | .str,d=>d=.string
 | .slice e,d=>d=.slice e
 | .pointer e,d=>d=.pointer e
 | .map k e,d=>d=.map k e
 | .array n e,d=>d=.array n e
 | .struct fs,d=>∃fields:Array Field,d=.struct fields∧fields.toList.map (λ f=>(f.offset,f.type))=fs
 | .other,_=>True
structure aqR (P:Program) (t:TypeId) (ti:Rl):Prop where
 ex:∃i d z,P.info? t=some i∧P.underlying t=some d∧i.zero=some z∧i.size=ti.size∧i.bytes=ti.bytes∧d.isRow=ti.agg∧z.cells.size=ti.size∧
  ti.zero.length=ti.size∧(∀j,j<ti.size→Np (ti.zero.getD j .other) (z.cells.getD j Go.undef))∧akx ti.desc d
 one:ti.agg=false→∀i z,P.info? t=some i→i.zero=some z→z.cells=#[z]
def XF (P:Program):TypeDesc→Prop
 | .struct fields=>∀f∈fields.toList,(P.info? f.type).isSome=true
 | _=>True
def adb:ZK→TypeDesc→Prop
 | .bool,d=>d=.bool
 | .int k,d=>d=.int k
 | .str,d=>d=.string
 | _,_=>False
def ana (P:Program) (ok:TypeId→List ZK→Prop):List Field→List ZK→Nat→Prop
 | [],[],_=>True
 | f::fs,zs,k=>f.name ≠ "_" ∧ f.offset=k∧∃z1 z2,zs=z1++z2∧((∃z d,z1=[z]∧P.underlying f.type=some d∧adb z d)∨(ok f.type z1∧P.cellsOf f.type=z1.length))∧ana P ok fs z2 (k+z1.length)
 | _,_,_=>False
def EqT (P:Program):Nat→TypeId→List ZK→Prop
 | 0,_,_=>False
 | n+1,t,zs=>∃fields,P.underlying t=some (.struct fields)∧P.stoodInHeld t=false∧ana P (EqT P n) fields.toList zs 0
structure aqS (P:Program) (t:TypeId) (zs:List ZK):Prop where
 ex:EqT P 4 t zs
 guard:P.eqGuardType P.depth t=false
structure iE (P:Program) (cfg:y7):Prop where
 ty:∀t ti,look cfg.ty t=some ti→aqR P t ti
 fields:∀t ti d,look cfg.ty t=some ti→P.underlying t=some d→XF P d
 mixed:P.follows .mixedOrders=true
 eqs:∀t zs,look cfg.eqs t=some zs→aqS P t zs
def ni (H:Nat→Option dW) (ups:lK):Nat→Option dW:=λ o=>match look ups o with | some x=>x | none=>H o
inductive fQ (Sp:pz) (H:Nat→Option dW):Pg→AV→lK→List Nat→Prop
 | ret (v:AV) (ups:lK):fQ Sp H (.ret v ups) v ups []
 | need {p:Prop} [d:Decidable p] {k:Pg} {v:AV} {ups:lK} {r:List Nat} (hp:p) (h:fQ Sp H k v ups r):fQ Sp H (.need p k) v ups r
 | rd {o:Nat} {x:dW} {k:dW→Pg} {v:AV} {ups:lK} {r:List Nat} (ho:H o=some x) (h:fQ Sp H (k x) v ups r):fQ Sp H (.rd o k) v ups (o::r)
 | call {f:FuncId} {args:List AV} {obs:List dW} {k:AV→List dW→Pg} {x:AV} {fV:List dW} {v:AV} {ups:lK} {r:List Nat} (hs:Sp f args obs x fV)
   (h:fQ Sp H (k x fV) v ups r):fQ Sp H (.call f args obs k) v ups r
def hof:List dW→Nat→Option dW
 | [],_=>none
 | x::_,0=>some x
 | _::l,n+1=>hof l n
def E8:List dW→Nat→Option dW
 | [],_=>none
 | x::_,0=>gz x
 | _::l,n+1=>E8 l n
theorem acd:∀ {l:List dW} {j:Nat} {x:dW},E8 l j=some x→hof l j=some x∧Nf x=false:=by
 intro l;induction l with
 | nil=>intro j x h; cases h
 | cons y l ih=>
  intro j x h;cases j with
  | zero=>
   simp only [E8,gz] at h;split at h
   ·cases h
   ·rename_i hg; cases h; exact ⟨rfl,hg⟩
  | succ j=>exact ih h
theorem anb:∀ {l:List dW},(∀j x,hof l j=some x→Nf x=false)→E8 l=hof l:=by
 intro l;induction l with
 | nil=>intro _; rfl
 | cons y l ih=>
  intro h;funext j;cases j with
  | zero=>have:=h 0 y rfl; simp only [E8,hof,gz,this]
  | succ j=>exact congrFun (ih λ j x hx=>h (j+1) x hx) j
def MO (w:World) (I:Nat→Prop) (O:OM) (m:Nat):Ctx:=⟨w,λ b=>∃o p bo sz,O o=some p∧p.pl=some (b,bo,sz),I,O,m,λ _ _=>False,false⟩
def Spec (P:Program) (cfg:y7):pz:=λ f args obs r fV=>
 (∃fn,P.funcs[f]? = some fn∧fn.body.isNone=false∧(fn.name == "runtime.NumGoroutine")=false)∧obs.length≤fV.length∧
 ∀(w:World) (I:Nat→Prop) (O:OM) (vals:Array Value),Rel cfg (MO w I O obs.length) (hof obs) (λ o=>o<obs.length) w I O→
  vals.size=args.length→(∀j,j<args.length→eX w I O (λ o=>o<obs.length) (nth args j) (vals.getD j Go.undef))→
  Calls P f vals w λ e w'=>∃x I' O',e=.returned x∧Rel cfg (MO w I O obs.length) (E8 fV) (λ o=>o<fV.length) w' I' O'∧
   eX w' I' O' (λ o=>o<fV.length) r x
section
variable {P:Program} {cfg:y7} {cx:Ctx} {H:Nat→Option dW} {D:Nat→Prop} {w:World} {I:Nat→Prop} {O:OM}
def D8 (D:Nat→Prop) (n:Nat):Nat→Prop:=λ o=>D o∨(n≤o∧o<n+stride)
def ZM (D:Nat→Prop) (n:Nat):Prop:=∀o,n≤o→o<n+stride→¬ D o
variable {n:Nat}
theorem ZM.one {D:Nat→Prop} (h:ZM D n):¬ D n:=h n (Nat.le_refl _) (by unfold stride; omega)
variable {o:Nat}
theorem VX {D:Nat→Prop} (h:o=n):D8 D n o:=.inr ⟨by omega,by unfold stride; omega⟩
def fK (P:Program) (cfg:y7) (cx:Ctx) (H:Nat→Option dW) (D:Nat→Prop) (w:World) (I:Nat→Prop) (O:OM) (dR:Nat) (o:Oper) (a:Act) (v:AV) (ups:lK):Prop:=
 ∀(next:Act→World→Prop) (Q:Exit→Act→World→Prop),
  (∀x w' I' O',Rel cfg cx (ni H ups) (D8 D dR) w' I' O'→(∀u y,eX w I O D u y→eX w' I' O' (D8 D dR) u y)→eX w' I' O' (D8 D dR) v x→next (a.put o.dst x) w')→
  o.wp P a w next Q
theorem D9 (H:Nat→Option dW):ni H []=H:=rfl
theorem je.mono {O':OM} {D':Nat→Prop} {p:Own} {ob:dW} (hI:∀b,I b→I' b) (hw:∀b,I b→w'.heap[b]? = w.heap[b]?)
  (hO:∀o,D o→O' o=O o∨O' o=none) (hD:∀o,D o→D' o) (hu:∀o p,O o=some p→D o) (hb:∀b bo sz,p.pl=some (b,bo,sz)→w'.heap[b]? = w.heap[b]?)
  (h:je w I O D p ob):je w' I' O' D' p ob:=by
 cases ob with
 | box cs=>
  obtain ⟨h1,b,bo,sz,hp,ha,hl,hc⟩:=h;have hh:=hb b bo sz hp;refine ⟨h1,b,bo,sz,hp,λ j hj=>?_,hl,λ j hj=>?_⟩
  ·rw [cell?_of_heap hh,frozen?_of_heap hh]; exact ha j hj
  ·rw [cellAt,cell?_of_heap hh]; exact (hc j hj).mono hI hw hO hD hu
 | row es n g=>
  obtain ⟨h1,h2,h3,h4⟩:=h;refine ⟨h1,h2,h3,?_⟩;rcases h4 with h4 | ⟨b,bo,sz,hp,ha,hl,hc⟩
  ·exact .inl h4
  ·have hh:=hb b bo sz hp;refine .inr ⟨b,bo,sz,hp,λ j hj=>?_,hl,λ i j hi hj=>?_⟩
   ·rw [cell?_of_heap hh,frozen?_of_heap hh]; exact ha j hj
   ·rw [cellAt,cell?_of_heap hh]; exact ⟨(hc i j hi hj).1.mono hI hw,(hc i j hi hj).2⟩
 | map kd z f=>
  obtain ⟨h1,b,bo,sz,es,clock,hp,hw2,hm⟩:=h;exact ⟨h1,b,bo,sz,es,clock,hp,by rw [hb b bo sz hp]; exact hw2,hm⟩
theorem Rel.yT (hR:Rel cfg cx H D w I O) (n:Nat):Rel cfg cx H (D8 D n) w I O:=
 { hR with
  used:=λ o p h=>.inl (hR.used o p h)
  objs:=λ o ob p h h'=>(hR.objs o ob p h h').mono (λ _ h=>h) (λ _ _=>rfl) (λ _ _=>.inl rfl) (λ _ h=>.inl h) hR.used (λ _ _ _ _=>rfl)
  Dm:=λ o h=>.inl (hR.Dm o h) }
theorem eX.yT (hR:Rel cfg cx H D w I O) (n:Nat) (h:eX w I O D v x):eX w I O (D8 D n) v x:=
 h.mono (λ _ h=>h) (λ _ _=>rfl) (λ _ _=>.inl rfl) (λ _ h=>.inl h) hR.used
theorem uq {o:Oper} {a:Act} {next:Act→World→Prop} {Q:Exit→Act→World→Prop} (h:(execOp a.eval o).run P w=.ok (.value x) w') (hn:next (a.put o.dst x) w'):o.wp P a w next Q:=by
 unfold Oper.wp; rw [h]; exact hn
theorem fK.eU {dR:Nat} {o:Oper} {a:Act} (hR:Rel cfg cx H D w I O) (h:(execOp a.eval o).run P w=.ok (.value x) w) (hv:eX w I O D v x):fK P cfg cx H D w I O dR o a v []:=by
 intro next Q hn
 exact uq h (hn x w I O (by rw [D9]; exact hR.yT dR) (λ u y hu=>hu.yT hR dR) (hv.yT hR dR))
theorem eX.lY {b:Bool} (h:eX w I O D (.bool b) x):x=.bool b:=by
 cases h with | pure h=>cases h; rfl
theorem eX.iT {k:IntKind} {n:Int} (h:eX w I O D (.int k n) x):x=.int k n:=by
 cases h with | pure h=>cases h; rfl
theorem eX.CU {s:ByteArray} (h:eX w I O D (.str s) x):x=.string s:=by
 cases h with | pure h=>cases h; rfl
theorem eX.BD {es:Nat} {f:Bool} {g:Nat→AV} (h:eX w I O D (.sl es n f g) x):iK w I (.sl es n f g) x:=by
 cases h with | pure h=>exact h
variable {cs:List AV}
theorem eX.ZN (h:eX w I O D (.ro cs) x):iK w I (.ro cs) x:=by
 cases h with | pure h=>exact h
theorem eX.wZ (h:eX w I O D (.agg cs) x):∃vs:Array Value,x=.agg vs∧vs.size=cs.length∧∀j,j<cs.length→eX w I O D (nth cs j) (vs.getD j Go.undef):=by
 cases h with
 | pure h=>cases h with | agg hl hr=>exact ⟨_,rfl,hl,λ j hj=>.pure (hr j hj)⟩
 | agg hl hr=>exact ⟨_,rfl,hl,hr⟩
theorem eX.JN (h:eX w I O D (.kH cs) x):∃vs:Array Value,x=.tuple vs∧vs.size=cs.length∧∀j,j<cs.length→eX w I O D (nth cs j) (vs.getD j Go.undef):=by
 cases h with
 | pure h=>cases h with | kH hl hr=>exact ⟨_,rfl,hl,λ j hj=>.pure (hr j hj)⟩
 | kH hl hr=>exact ⟨_,rfl,hl,hr⟩
theorem eX.Nq {f:FuncId} (h:eX w I O D (.fn f cs) x):∃vs:Array Value,x=.func (.func f) #[] vs∧vs.size=cs.length∧∀j,j<cs.length→eX w I O D (nth cs j) (vs.getD j Go.undef):=by
 cases h with
 | pure h=>cases h with | fn hl hr=>exact ⟨_,rfl,hl,λ j hj=>.pure (hr j hj)⟩
 | fn hl hr=>exact ⟨_,rfl,hl,hr⟩
variable {p:Own}
theorem eX.pJ {i off:Nat} (ho:O o=some p) (h:eX w I O D (.ptr o i off) x):∃b bo sz,p.pl=some (b,bo,sz)∧i<p.n∧x=.pointer (some ⟨b,bo+(i*p.es+off),none⟩):=by
 cases h with
 | pure h=>cases h
 | @ptr _ _ _ b bo sz p' ho' hp hi=>
  have:p'=p:=Option.some.inj (ho'.symm.trans ho);subst this;exact ⟨b,bo,sz,hp,hi,rfl⟩
 | D7 ho'=>rw [ho] at ho'; cases ho'
theorem eX.nK {i:Nat} {full:Bool} (ho:O o=some p) (h:eX w I O D (.eF o i n full) x):∃a cap,x=.slice a n cap∧i+n≤p.n∧n≤cap∧(full=true→cap=n)∧
  (cap≠0→∃b bo sz,p.pl=some (b,bo,sz)∧a=some ⟨b,bo+i*p.es,none⟩∧bo+(i+cap)*p.es≤sz):=by
 cases h with
 | pure h=>cases h
 | @eF _ _ _ _ p' a cap ho' hi hcap hfull hpl hext=>
  have:p'=p:=Option.some.inj (ho'.symm.trans ho);subst this;exact ⟨a,cap,rfl,hi,hcap,hfull,hpl⟩
 | Cm ho'=>rw [ho] at ho'; cases ho'
theorem eX.Fx {i n' cap:Nat} {full:Bool} {aa:Option Addr} (ho:O o=some p) (h:eX w I O D (.eF o i n full) (.slice aa n' cap)):p.n≤i+cap:=by
 cases h with
 | pure h=>cases h
 | @eF _ _ _ _ p' a cap ho' hi hcap hfull hpl hext=>
  have:p'=p:=Option.some.inj (ho'.symm.trans ho);subst this;exact hext
 | Cm ho'=>rw [ho] at ho'; cases ho'
theorem eX.ZO (ho:O o=some p) (h:eX w I O D (.mref o) x):∃b bo sz,p.pl=some (b,bo,sz)∧x=.map (some b):=by
 cases h with
 | pure h=>cases h
 | @mref _ b bo sz p' ho' hp=>
  have:p'=p:=Option.some.inj (ho'.symm.trans ho);subst this;exact ⟨b,bo,sz,hp,rfl⟩
 | TS ho'=>rw [ho] at ho'; cases ho'
theorem ZP (h:eX w I O D v x) (hk:Zw v=true):x.oneCell'=true:=by
 cases h with
 | pure h=>cases h<;>first | rfl | cases hk
 | ptr=>rfl
 | eF=>rfl
 | mref=>rfl
 | TS _ _ h1=>exact h1
 | D7 _ _ h1=>exact h1
 | Cm _ _ h1=>exact h1
 | agg=>cases hk
 | fn=>rfl
 | kH=>cases hk
theorem XG {l:List AV} (h:JI l=true):∀j,j<l.length→Zw (nth l j)=true:=by
 induction l with
 | nil=>intro j hj; cases hj
 | cons v l ih=>
  intro j hj;unfold JI at h;cases hv:Zw v with
  | false=>simp [hv] at h
  | true=>
   simp only [hv] at h;cases j with
   | zero=>exact hv
   | succ j=>exact ih h j (by simpa using hj)
theorem eX.cells (h:eX w I O D v x) (hk:JI v.cells=true):x.cells.size=v.cells.length∧∀j,j<v.cells.length→eX w I O D (nth v.cells j) (x.cells.getD j Go.undef)∧(x.cells.getD j Go.undef).oneCell'=true:=by
 have one:∀ {v:AV} {x:Value},eX w I O D v x→v.cells=[v]→Zw v=true→x.cells.size=v.cells.length∧∀j,j<v.cells.length→eX w I O D (nth v.cells j) (x.cells.getD j Go.undef)∧(x.cells.getD j Go.undef).oneCell'=true:=by
  intro v x h hc ho;have h1:=ZP h ho;have hx:x.cells=#[x]:=by cases x<;>first | rfl | cases h1
  rw [hc,hx];refine ⟨rfl,λ j hj=>?_⟩;have:j=0:=by simpa using hj
  subst this;exact ⟨h,h1⟩
 cases v with
 | agg cs=>
  obtain ⟨vs,rfl,hl,hr⟩:=h.wZ;exact ⟨hl,λ j hj=>⟨hr j hj,ZP (hr j hj) (XG hk j hj)⟩⟩
 | undef=>cases hk
 | kH vs=>cases hk
 | _=>exact one h rfl rfl
end
end Go.Ab
namespace Go.Ab
section
variable {P:Program} {cfg:y7} {cx:Ctx} {H:Nat→Option dW} {D:Nat→Prop} {w:World} {I:Nat→Prop} {O:OM} {Sp:pz}
variable {v':AV} {wP:lK}
theorem fQ.kN {v:AV} {ups:lK} {r:List Nat} (h:fQ Sp H (.ret v ups) v' wP r):v'=v∧wP=ups:=by cases h; exact ⟨rfl,rfl⟩
theorem fQ.w9 {p:Prop} [Decidable p] {k:Pg} {v':AV} {wP:lK} {r:List Nat} (h:fQ Sp H (.need p k) v' wP r):p∧fQ Sp H k v' wP r:=by cases h with | need hp h=>exact ⟨hp,h⟩
theorem fQ.oI {o:Nat} {k:dW→Pg} {r:List Nat} (h:fQ Sp H (.rd o k) v' wP r):∃x r',H o=some x∧fQ Sp H (k x) v' wP r':=by cases h with | rd ho h=>exact ⟨_,_,ho,h⟩
theorem fQ.aY {r:List Nat} (h:fQ Sp H .fail v' wP r):False:=by cases h
theorem fQ.iG {p:Prop} [Decidable p] {v v':AV} {wP:lK} {r:List Nat} (h:fQ Sp H (mF p v) v' wP r):p∧v'=v∧wP=[]:=by
 obtain ⟨hp,h⟩:=fQ.w9 h; exact ⟨hp,h.kN⟩
theorem fQ.fG {v:AV} {r:List Nat} (h:fQ Sp H (j6 v) v' wP r):v'=v∧wP=[]:=h.kN
theorem fQ.cK {b:Bool} {k:Pg} {r:List Nat} (h:fQ Sp H (gN b k) v' wP r):b=true∧fQ Sp H k v' wP r:=by
 cases b with
 | true=>exact ⟨rfl,h⟩
 | false=>exact (fQ.aY h).elim
theorem fQ.DT {v:AV} {k:List AV→Pg} {r:List Nat} (h:fQ Sp H (Nb v k) v' wP r):JI v.cells=true∧fQ Sp H (k v.cells) v' wP r:=by
 unfold Nb at h;cases hb:JI v.cells with
 | true=>simp only [hb] at h; exact ⟨rfl,h⟩
 | false=>simp only [hb] at h; exact (fQ.aY h).elim
variable {t:TypeId}
theorem fQ.l7 {k:Rl→Pg} {r:List Nat} (h:fQ Sp H (VR cfg t k) v' wP r):∃ti,look cfg.ty t=some ti∧fQ Sp H (k ti) v' wP r:=by
 unfold VR at h;cases hb:look cfg.ty t with
 | some ti=>simp only [hb] at h; exact ⟨ti,rfl,h⟩
 | none=>simp only [hb] at h; exact (fQ.aY h).elim
theorem fQ.qC {k:Rl→Pg} {r:List Nat} (h:fQ Sp H (D5 cfg t k) v' wP r):∃tt e ti,look cfg.ty t=some tt∧tt.desc=.slice e∧look cfg.ty e=some ti∧fQ Sp H (k ti) v' wP r:=by
 unfold D5 at h;cases hb:look cfg.ty t with
 | some tt=>
  simp only [hb] at h;cases hd:tt.desc with
  | slice e=>
   simp only [hd] at h;obtain ⟨ti,h1,h2⟩:=h.l7;exact ⟨tt,e,ti,rfl,hd,h1,h2⟩
  | _=>simp only [hd] at h; exact (fQ.aY h).elim
 | none=>simp only [hb] at h; exact (fQ.aY h).elim
theorem iE.slice (hc:iE P cfg) {e:TypeId} {tt ti:Rl} (h:look cfg.ty t=some tt) (hd:tt.desc=.slice e) (h':look cfg.ty e=some ti):
  P.underlying t=some (.slice e)∧∃i z,P.info? e=some i∧i.zero=some z∧i.size=ti.size∧i.bytes=ti.bytes∧z.cells.size=ti.size:=by
 obtain ⟨i,d,z,_,hu,_,_,_,_,_,_,_,hm⟩:=(hc.ty t tt h).ex;rw [hd] at hm;obtain ⟨i',d',z',h1,_,h2,h3,h4,_,h5,_⟩:=(hc.ty e ti h').ex;exact ⟨by rw [hu,hm],i',z',h1,h2,h3,h4,h5⟩
theorem gJ {i:TypeInfo} (h:P.info? t=some i) (w:World):(sizeOf t).run P w=.ok i.size w:=by
 simp [sizeOf,typeInfo,h]
theorem bX {d:TypeDesc} (h:P.underlying t=some d) (w:World):(underlying t).run P w=.ok d w:=by
 simp [underlying,h]
variable {dR:Nat} {o:Oper} {a:Act} {ρ:Operand→AV} {v:AV} {ups:lK} {r:List Nat}
variable {x:Operand}
theorem anc (hR:Rel cfg cx H D w I O) (ho:o.op=.move x) (hx:eX w I O D (ρ x) (a.eval x)):fK P cfg cx H D w I O dR o a (ρ x) []:=
 fK.eU hR (by simp [execOp,ho]) hx
theorem aiZ (hR:Rel cfg cx H D w I O) (ho:o.op=.assign x) (hx:eX w I O D (ρ x) (a.eval x)):fK P cfg cx H D w I O dR o a (ρ x) []:=
 fK.eU hR (by simp [execOp,ho]) hx
theorem ai0 (c:Value) (ho:ofConst c≠.undef):∀ {x:Value},x=c→eX w I O D (ofConst c) x:=by
 intro x hx;subst hx;refine .pure ?_;unfold ofConst;split
 ·exact .bool _
 ·exact .int _ _
 ·exact .str _
 ·exact .sl 0 0 (λ _ _=>Go.undef) (Nat.le_refl _) (λ _=>rfl) (λ h=>absurd rfl h) (λ i h=>by cases h) (λ i j h=>by cases h) (λ i j h=>by cases h) (λ i j h=>by cases h)
 ·exact .E5
 ·rename_i h1 h2 h3 h4 h5;exact .undef _
theorem agz (c:Value):eX w I O D (ofConst c) c:=by
 by_cases h:ofConst c=.undef
 ·rw [h]; exact .pure (.undef _)
 ·exact ai0 c h rfl
theorem ane (hR:Rel cfg cx H D w I O) {c y:Operand} (ho:o.op=.pick c x y) (hc:eX w I O D (ρ c) (a.eval c))
  (hx:∀b,ρ c=.bool b→b=true→eX w I O D (ρ x) (a.eval x)) (hy:∀b,ρ c=.bool b→b=false→eX w I O D (ρ y) (a.eval y))
  (hcx:∀v,x=.const v→ρ x=ofConst v∧a.eval x=v) (hcy:∀v,y=.const v→ρ y=ofConst v∧a.eval y=v)
  (h:fQ Sp H (ags (ρ c) x y (ρ x) (ρ y)) v ups r):fK P cfg cx H D w I O dR o a v ups:=by
 cases hcv:ρ c with
 | bool b=>
  rw [hcv] at hc h;have hb:=hc.lY;have hx':=hx b hcv;have hy':=hy b hcv;have run:(execOp a.eval o).run P w=.ok (.value (if b then a.eval x else a.eval y)) w:=by
   simp [execOp,ho,hb,asBool]
  unfold ags at h;simp only at h;split at h
  ·rename_i hz;obtain ⟨rfl,rfl⟩:=h.fG;obtain ⟨_,e2⟩:=hcy _ rfl;refine fK.eU hR run ?_;cases b with
   | true=>have:=(hx' rfl); rw [hz] at this; rw [this.lY]; exact .pure (.bool _)
   | false=>rw [e2]; exact .pure (.bool _)
  ·rename_i hz _;obtain ⟨rfl,rfl⟩:=h.fG;obtain ⟨_,e2⟩:=hcx _ rfl;refine fK.eU hR run ?_;cases b with
   | true=>simp only [if_true]; rw [e2]; exact .pure (.bool _)
   | false=>have:=(hy' rfl); rw [hz] at this; simp only [Bool.false_eq_true,if_false]; rw [this.lY]; exact .pure (.bool _)
  ·rename_i h1 h2;obtain ⟨rfl,rfl⟩:=h.fG;refine fK.eU hR run ?_;cases b with
   | true=>have:=(hx' rfl); rw [h1] at this; rw [this.lY]; exact .pure (.bool _)
   | false=>have:=(hy' rfl); rw [h2] at this; simp only [Bool.false_eq_true,if_false]; rw [this.lY]; exact .pure (.bool _)
  ·obtain ⟨rfl,rfl,rfl⟩:=h.iG;refine fK.eU hR run ?_;simpa using hy' rfl
  ·obtain ⟨rfl,rfl,rfl⟩:=h.iG;refine fK.eU hR run ?_;simpa using hx' rfl
  ·exact (fQ.aY h).elim
 | _=>rw [hcv] at h; exact (fQ.aY h).elim
theorem wrap_i64 {n:Int} (h:aG n):IntKind.i64.wrap n=n:=IntWalk.i64_in _ ⟨h.1,h.2⟩
theorem run_equal_bool (hu:P.underlying t=some .bool) (a b:Bool) (w:World):(Op.equal t (.bool a) (.bool b)).run P w=.ok (a==b) w:=by
 have:∀d,(Op.equalIn (d+1) t (.bool a) (.bool b)).run P w=.ok (a==b) w:=λ d=>by
  simp [Op.equalIn,bX hu]
 exact this 9999
theorem TU {d:TypeDesc} (hu:P.underlying t=some d) (hd:d.isRow=false) (vs:Array Value) (i:Nat) (hi:i<vs.size) (w:World):(part t vs i).run P w=.ok (vs.getD i Go.undef) w:=by
 have hag:(isAgg t).run P w=.ok false w:=by
  unfold isAgg;rw [Sem.run_bind,bX hu w];cases d<;>simp at hd ⊢
 simp [part,Sem.run_bind,hag,Array.getElem?_eq_getElem hi]
theorem ace:∀(a b:List AV) {j:Nat},j<a.length→nth (a++b) j=nth a j:=by
 intro a;induction a with
 | nil=>intro b j h; exact absurd h (Nat.not_lt_zero _)
 | cons x a ih=>intro b j h; cases j with
  | zero=>rfl
  | succ j=>exact ih b (by simpa using h)
theorem acf:∀(a b:List AV) (j:Nat),nth (a++b) (a.length+j)=nth b j:=by
 intro a;induction a with
 | nil=>intro b j; simp
 | cons x a ih=>intro b j; rw [List.length_cons,show a.length+1+j=(a.length+j)+1 by omega]; exact ih b j
theorem TV (xs:Array Value) (k m j:Nat) (hj:j<m) (h:k+m≤xs.size):(xs.extract k (k+m)).getD j Go.undef=xs.getD (k+j) Go.undef:=by
 rw [Array.getD_eq_getD_getElem?, Array.getD_eq_getD_getElem?, Array.getElem?_extract_of_lt (by rw [Nat.min_eq_left h]; omega),Array.getElem?_eq_getElem om]
theorem anf:∀(zs:List ZK) (cs cs':List AV) (r:Bool),VN zs cs cs'=some r→cs.length=zs.length∧cs'.length=zs.length:=by
 intro zs;induction zs with
 | nil=>intro cs cs' r h; cases cs<;>cases cs'<;>simp [VN] at h ⊢
 | cons z zs ih=>
  intro cs cs' r h;cases cs with
  | nil=>cases z<;>simp [VN] at h
  | cons c cs=>cases cs' with
   | nil=>cases z<;>cases c<;>simp [VN] at h
   | cons c' cs'=>
    have:∃r',VN zs cs cs'=some r':=by
     cases z<;>cases c<;>cases c'<;>simp only [VN] at h<;>first | (cases h; done) | skip
     all_goals
      split at h
      ·first | exact ⟨_,by assumption⟩
      ·cases h
    obtain ⟨r',h'⟩:=this
    have:=ih _ _ _ h'
    simp [this]
theorem ang:∀(z1 z2:List ZK) (cs cs':List AV) (r:Bool),VN (z1++z2) cs cs'=some r→∃c1 c2 c1' c2' r1 r2,cs=c1++c2∧cs'=c1'++c2'∧VN z1 c1 c1'=some r1∧VN z2 c2 c2'=some r2∧r=(r1&&r2):=by
 intro z1;induction z1 with
 | nil=>intro z2 cs cs' r h; exact ⟨[],cs,[],cs',true,r,rfl,rfl,rfl,h,by simp⟩
 | cons z z1 ih=>
  intro z2 cs cs' r h;cases cs with
  | nil=>cases z<;>simp [VN] at h
  | cons c cs=>cases cs' with
   | nil=>cases z<;>cases c<;>simp [VN] at h
   | cons c' cs'=>
    cases z<;>cases c<;>cases c'<;>simp only [List.cons_append,VN] at h<;>first | (cases h; done) | skip
    ·split at h
     ·rename_i r' h'
      cases h
      obtain ⟨c1,c2,c1',c2',r1,r2,e1,e2,e3,e4,e5⟩:=ih _ _ _ _ h'
      subst e1 e2 e5
      exact ⟨_::c1,c2,_::c1',c2',_,r2,rfl,rfl,by simp only [VN,e3]; rfl,e4,by rw [Bool.and_assoc]⟩
     ·cases h
    ·split at h
     ·rename_i r' k1 k2 h'
      cases h
      obtain ⟨c1,c2,c1',c2',r1,r2,e1,e2,e3,e4,e5⟩:=ih _ _ _ _ h'
      subst e1 e2 e5
      exact ⟨_::c1,c2,_::c1',c2',_,r2,rfl,rfl,by simp only [VN,e3,k1,k2]; rfl,e4,by rw [Bool.and_assoc]⟩
     ·cases h
    ·split at h
     ·rename_i r' h'
      cases h
      obtain ⟨c1,c2,c1',c2',r1,r2,e1,e2,e3,e4,e5⟩:=ih _ _ _ _ h'
      subst e1 e2 e5
      exact ⟨_::c1,c2,_::c1',c2',_,r2,rfl,rfl,by simp only [VN,e3]; rfl,e4,by rw [Bool.and_assoc]⟩
     ·cases h
theorem agA {dd:TypeDesc} {z:ZK} {c c':AV} {b:Bool} {u v:Value} (w:World) (d:Nat) (hu:P.underlying t=some dd) (hk:adb z dd) (h:VN [z] [c] [c']=some b) (hx:eX w I O D c u) (hy:eX w I O D c' v):(Op.equalIn (d+1) t u v).run P w=.ok b w:=by
 cases z with
 | int kk=>
  cases c<;>cases c'<;>simp only [VN] at h<;>first | (cases h; done) | skip
  rename_i k1 a k2 b;split at h
  ·rename_i r' e1 e2 e3;cases e3;cases h;have e1:kk=k1:=by simpa [zx] using e1
   have e2:kk=k2:=by simpa [zx] using e2
   subst e1; subst e2;rw [hx.iT,hy.iT,Bool.and_true];rw [hk] at hu;exact run_equalIn_int w d _ _ _ _ _ hu
  ·cases h
 | bool=>
  cases c<;>cases c'<;>simp only [VN] at h<;>first | (cases h; done) | skip
  cases h;rw [hx.lY,hy.lY,Bool.and_true];rw [hk] at hu;exact run_equalIn_bool' w d _ _ _ hu
 | str=>
  cases c<;>cases c'<;>simp only [VN] at h<;>first | (cases h; done) | skip
  cases h;rw [hx.CU,hy.CU,Bool.and_true];rw [hk] at hu;exact run_equalIn_string w d _ _ _ hu
 | slice=>exact hk.elim
 | ptr=>exact hk.elim
 | other=>exact hk.elim
theorem KR {fs:Array Field} (hu:P.underlying t=some (.struct fs)) (vs:Array Value) (i:Nat) (w:World):(part t vs i).run P w=.ok (.agg (vs.extract i (i+P.cellsOf t))) w:=by
 obtain ⟨ti,hi⟩:=info_of_underlying hu;simp [part,isAgg,run_underlying hu,run_sizeOf w hi]
theorem aky (n:Nat) (xs ys:Array Value) (w:World) (d:Nat)
  (IH:∀(t:TypeId) (zs:List ZK) (cs cs':List AV) (us vs:Array Value) (r:Bool),EqT P n t zs→VN zs cs cs'=some r→us.size=cs.length→vs.size=cs'.length→(∀j,j<cs.length→eX w I O D (nth cs j) (us.getD j Go.undef))→(∀j,j<cs'.length→eX w I O D (nth cs' j) (vs.getD j Go.undef))→(Op.equalIn (d+1) t (.agg us) (.agg vs)).run P w=.ok r w):
  ∀(fs:List Field) (zs:List ZK) (cs cs':List AV) (k:Nat) (r:Bool),VN zs cs cs'=some r→ana P (EqT P n) fs zs k→
  k+cs.length≤xs.size→k+cs'.length≤ys.size→(∀j,j<cs.length→eX w I O D (nth cs j) (xs.getD (k+j) Go.undef))→(∀j,j<cs'.length→eX w I O D (nth cs' j) (ys.getD (k+j) Go.undef))→
  (Op.eqFields (d+1) xs ys fs).run P w=.ok r w:=by
 intro fs;induction fs with
 | nil=>
  intro zs cs cs' k r h hz _ _ _ _;cases zs with
  | cons=>exact hz.elim
  | nil=>cases cs<;>cases cs'<;>simp [VN] at h ⊢ <;> (subst h; simp [Op.eqFields])
 | cons f fs ih=>
  intro zs cs cs' k r h hz hx hy hrx hry;obtain ⟨hnm,hof,z1,z2,rfl,hz1,hz2⟩:=hz;obtain ⟨c1,c2,c1',c2',r1,r2,rfl,rfl,e3,e4,rfl⟩:=ang _ _ _ _ _ h;obtain ⟨l1,l2⟩:=anf _ _ _ _ e3;simp only [List.length_append] at hx hy hrx hry;have nx1:∀j,j<c1.length→nth (c1++c2) j=nth c1 j:=λ j hj=>ace _ _ hj;have nx2:∀j,nth (c1++c2) (c1.length+j)=nth c2 j:=λ j=>acf _ _ j;have ny1:∀j,j<c1'.length→nth (c1'++c2') j=nth c1' j:=λ j hj=>ace _ _ hj;have ny2:∀j,nth (c1'++c2') (c1'.length+j)=nth c2' j:=λ j=>acf _ _ j;have ih':=ih z2 c2 c2' (k+z1.length) r2 e4 hz2 om om (λ j hj=>by
   have:=hrx (c1.length+j) om;rw [nx2,show k+(c1.length+j)=k+z1.length+j by omega] at this;exact this) (λ j hj=>by
   have:=hry (c1'.length+j) om;rw [ny2,show k+(c1'.length+j)=k+z1.length+j by omega] at this;exact this)
  have step:∀(u v:Value),(part f.type xs k).run P w=.ok u w→(part f.type ys k).run P w=.ok v w→(Op.equalIn (d+1) f.type u v).run P w=.ok r1 w→(Op.eqFields (d+1) xs ys (f::fs)).run P w=.ok (r1&&r2) w:=by
   intro u v px py hb;rw [Op.eqFields,if_pos hnm];simp only [hof,Sem.run_bind,px,py,Result.andThen_ok,hb];cases r1
   ·simp
   ·simpa using ih'
  rcases hz1 with ⟨z,dd,rfl,hu,hk⟩ | ⟨ho,hs⟩
  ·have hd:dd.isRow=false:=by cases z<;>simp only [adb] at hk<;>first | (subst hk; rfl) | exact hk.elim
   cases c1 with
   | nil=>simp at l1
   | cons c c1=>cases c1 with
    | cons=>simp at l1
    | nil=>cases c1' with
     | nil=>simp at l2
     | cons c' c1'=>cases c1' with
      | cons=>simp at l2
      | nil=>
       simp only [List.length_singleton] at hx hy hrx hry
       have hx0:=hrx 0 om
       have hy0:=hry 0 om
       exact step _ _ (TU hu hd xs k om w) (TU hu hd ys k om w) (agA w d hu hk e3 hx0 hy0)
  ·cases n with
   | zero=>exact ho.elim
   | succ n=>
    obtain ⟨fields,hu,_,_⟩:=id ho;refine step _ _ (KR hu xs k w) (KR hu ys k w) ?_;rw [hs];refine IH _ z1 c1 c1' _ _ r1 ho e3 (by rw [Array.size_extract]; omega) (by rw [Array.size_extract]; omega) (λ j hj=>?_) (λ j hj=>?_)
    ·have:=hrx j om;rw [nx1 j hj] at this;rw [TV _ _ _ _ om om];exact this
    ·have:=hry j om;rw [ny1 j hj] at this;rw [TV _ _ _ _ om om];exact this
theorem anh (w:World):∀(n d:Nat) (t:TypeId) (zs:List ZK) (cs cs':List AV) (us vs:Array Value) (r:Bool),EqT P n t zs→VN zs cs cs'=some r→us.size=cs.length→vs.size=cs'.length→(∀j,j<cs.length→eX w I O D (nth cs j) (us.getD j Go.undef))→(∀j,j<cs'.length→eX w I O D (nth cs' j) (vs.getD j Go.undef))→(Op.equalIn (d+n+1) t (.agg us) (.agg vs)).run P w=.ok r w:=by
 intro n;induction n with
 | zero=>intro d t zs cs cs' us vs r h; exact h.elim
 | succ n IH=>
  intro d t zs cs cs' us vs r ⟨fields,hu,hh,hf⟩ h hl hl' hx hy;have hfo:P.fieldsOf t=fields:=by unfold Program.fieldsOf; rw [hu]
  rw [show d+(n+1)+1=(d+n+1)+1 by omega,run_equalIn_struct (P:=P) w (d+n+1) t us vs (by rw [hfo]; exact hu) hh,hfo];exact aky (I:=I) (O:=O) (D:=D) n us vs w (d+n) (λ t zs cs cs' us vs r a b c e f g=>IH d t zs cs cs' us vs r a b c e f g) fields.toList zs cs cs' 0 r h hf om om (λ j hj=>by simpa using hx j hj) (λ j hj=>by simpa using hy j hj)
theorem Rm (hc:iE P cfg) {zs:List ZK} (ht:look cfg.eqs t=some zs) {cs cs':List AV} {xs ys:Array Value} {r:Bool} (h:VN zs cs cs'=some r) (hl:xs.size=cs.length) (hl':ys.size=cs'.length)
  (hx:∀j,j<cs.length→eX w I O D (nth cs j) (xs.getD j Go.undef)) (hy:∀j,j<cs'.length→eX w I O D (nth cs' j) (ys.getD j Go.undef)):(Op.equalIn 10000 t (.agg xs) (.agg ys)).run P w=.ok r w:=
 anh w 4 9995 t zs cs cs' xs ys r (hc.eqs t zs ht).ex h hl hl' hx hy
theorem akz (hc:iE P cfg) (hR:Rel cfg cx H D w I O) {op:BinOp} {t':TypeId} {y:Operand} (ho:o.op=.binOp op t x y t') (hx:eX w I O D (ρ x) (a.eval x)) (hy:eX w I O D (ρ y) (a.eval y))
  (h:fQ Sp H (akc cfg op t (ρ x) (ρ y)) v ups r):fK P cfg cx H D w I O dR o a v ups:=by
 unfold akc at h;split at h
 ·rename_i k n k' n' e1 e2;rw [e1] at hx; rw [e2] at hy;have hx':=hx.iT;have hy':=hy.iT;cases hsl:akb op with
  | true=>
   simp only [hsl] at h;cases op<;>simp [akb] at hsl;obtain ⟨hp,rfl,rfl⟩:=h.iG;have hg:∀(u:World),(eqGuard .shl t x y (.int k n) (.int k' n')).run P u=.ok () u:=by
    intro u; unfold eqGuard; simp
   refine fK.eU (x:=.int k _) hR ?_ (.pure (.int _ _));have hp':=Int.not_lt.2 hp;simp only [execOp,ho,hx',hy',hg,binOp,Op.shift,if_neg hp',TP,Sem.run_bind,Result.andThen_ok,Sem.run_pure]
  | false=>
  simp only [hsl] at h;obtain ⟨hk1,h1⟩:=h.cK;clear h;have hk:k=k':=by simpa [zx] using hk1
  subst hk;have hg:∀(u:World),(eqGuard op t x y (.int k n) (.int k n')).run P u=.ok () u:=by
   intro u; unfold eqGuard; cases op<;>simp
  cases ha:TN op with
  | true=>
   simp only [ha] at h1;cases hk2:zx k .i64 with
   | true=>
    simp only [hk2] at h1;have h2:=h1;clear h1;have hk:k=.i64:=by simpa [zx] using hk2
    subst hk;cases op<;>simp [TN] at ha<;>simp only [arith] at h2<;>obtain ⟨hp,rfl,rfl⟩:=h2.iG<;>
     refine fK.eU (x:=.int .i64 _) hR ?_ (.pure (.int _ _))<;>simp [execOp,ho,hx',hy',hg,binOp,Op.intArith,Op.intDiv,wrap_i64,hp]
   | false=>
    simp only [hk2] at h1;cases op<;>simp [TN] at ha<;>simp only [aj9] at h1<;>first
     | exact (fQ.aY h1).elim
     | (obtain ⟨rfl,rfl⟩:=h1.fG
        refine fK.eU (x:=.int k _) hR ?_ (.pure (.int _ _))
        simp [execOp,ho,hx',hy',hg,binOp,Op.intArith])
  | false=>
   simp only [ha] at h1;cases op<;>simp [TN] at ha<;>simp only [aqI] at h1<;>first
    | exact (fQ.aY h1).elim
    | (obtain ⟨rfl,rfl⟩:=h1.fG
       refine fK.eU (x:=.bool _) hR ?_ (.pure (.bool _))
       simp [execOp,ho,hx',hy',hg,binOp,Op.intCmp]
       done)
    | (obtain ⟨hp,rfl,rfl⟩:=h1.iG
       refine fK.eU (x:=.int k _) hR ?_ (.pure (.int _ _))
       have hp':=Int.not_lt.2 hp
       simp only [execOp,ho,hx',hy',hg,binOp,Op.shift,if_neg hp',Ht,Sem.run_bind,Result.andThen_ok,Sem.run_pure]
       done)
    | (obtain ⟨rfl,rfl⟩:=h1.fG
       refine fK.eU (x:=.int k _) hR ?_ (.pure (.int _ _))
       simp [execOp,ho,hx',hy',hg,binOp,Op.intBits,MN]
       done)
    | (obtain ⟨rfl,rfl⟩:=h1.fG
       refine fK.eU (x:=.int k _) hR ?_ (.pure (.int _ _))
       simp [execOp,ho,hx',hy',hg,binOp,Op.intBits,orI])
 ·rename_i b b' e1 e2;rw [e1] at hx; rw [e2] at hy;have hx':=hx.lY;have hy':=hy.lY;obtain ⟨ti,ht,h1⟩:=h.l7;clear h;have hg:∀(u:World),(eqGuard op t x y (.bool b) (.bool b')).run P u=.ok () u:=by
   intro u; unfold eqGuard; cases op<;>simp
  have hd:ti.desc=.bool→P.underlying t=some .bool:=by
   intro hd;obtain ⟨i,d,z,_,hu,_,_,_,_,_,_,_,hm⟩:=(hc.ty t ti ht).ex;rw [hd] at hm;rw [hu,hm]
  split at h1
  ·rename_i hdd;obtain ⟨rfl,rfl⟩:=h1.fG;refine fK.eU (x:=.bool _) hR ?_ (.pure (.bool _));have e:=run_equal_bool (P:=P) (hd hdd) b b' w;simp [execOp,ho,hx',hy',hg,binOp,e]
  ·rename_i hdd;obtain ⟨rfl,rfl⟩:=h1.fG;refine fK.eU (x:=.bool _) hR ?_ (.pure (.bool _));have e:=run_equal_bool (P:=P) (hd hdd) b b' w;simp [execOp,ho,hx',hy',hg,binOp,e]
  ·exact (fQ.aY h1).elim
 ·rename_i s s' e1 e2;rw [e1] at hx; rw [e2] at hy;have hx':=hx.CU;have hy':=hy.CU;have hg:∀(u:World),(eqGuard op t x y (.string s) (.string s')).run P u=.ok () u:=by
   intro u; unfold eqGuard; cases op<;>simp
  unfold aow at h;cases op<;>simp only at h<;>first
   | exact (fQ.aY h).elim
   | (obtain ⟨rfl,rfl⟩:=h.fG
      refine fK.eU (x:=.bool _) hR ?_ (.pure (.bool _))
      simp [execOp,ho,hx',hy',hg,binOp,Op.stringOp]
      done)
   | (obtain ⟨hp,rfl,rfl⟩:=h.iG
      refine fK.eU (x:=.string _) hR ?_ (.pure (.str _))
      have hle:¬ (((s.size+s'.size:Nat):Int) > IntKind.i64.max):=by
       have:IntKind.i64.max=9223372036854775807:=by decide
       rw [this]
       omega
      simp only [execOp,ho,hx',hy',binOp,Op.stringOp,Sem.run_bind,hg,Result.andThen_ok]
      rw [if_neg hle]
      rfl)
 ·rename_i cs cs' e1 e2;rw [e1] at hx; rw [e2] at hy;obtain ⟨xs,hx',hl,hrx⟩:=hx.wZ;obtain ⟨ys,hy',hl',hry⟩:=hy.wZ;split at h
  ·rename_i zs hz;have hg:∀(u:World),(eqGuard op t x y (.agg xs) (.agg ys)).run P u=.ok () u:=λ u=>run_eqGuard_agg u op t x y xs ys (hc.eqs t zs hz).guard;split at h
   ·rename_i r' he;obtain ⟨rfl,rfl⟩:=h.fG;have e:=Rm hc hz he hl hl' hrx hry;refine fK.eU (x:=.bool _) hR ?_ (.pure (.bool _));simp only [execOp,ho,hx',hy',Sem.run_bind,hg,Result.andThen_ok,run_eql_struct,e];rfl
   ·rename_i r' he;obtain ⟨rfl,rfl⟩:=h.fG;have e:=Rm hc hz he hl hl' hrx hry;refine fK.eU (x:=.bool _) hR ?_ (.pure (.bool _));simp only [execOp,ho,hx',hy',Sem.run_bind,hg,Result.andThen_ok,run_neq_struct,e];rfl
   ·exact (fQ.aY h).elim
  ·exact (fQ.aY h).elim
 ·exact (fQ.aY h).elim
theorem ani (hR:Rel cfg cx H D w I O) {op:UnOp} (ho:o.op=.unOp op t x) (hx:eX w I O D (ρ x) (a.eval x))
  (h:fQ Sp H (gY cfg dR (.unOp op t x) ρ) v ups r):fK P cfg cx H D w I O dR o a v ups:=by
 simp only [gY] at h;split at h
 ·rename_i b e;rw [e] at hx;obtain ⟨rfl,rfl⟩:=h.fG;refine fK.eU (x:=.bool _) hR ?_ (.pure (.bool _));simp [execOp,ho,hx.lY,Op.unary]
 ·rename_i k n e;rw [e] at hx;obtain ⟨hk1,h1⟩:=h.cK;have hk:k=.i64:=by simpa [zx] using hk1
  subst hk;obtain ⟨hp,rfl,rfl⟩:=h1.iG;refine fK.eU (x:=.int .i64 _) hR ?_ (.pure (.int _ _));simp [execOp,ho,hx.iT,Op.unary,Op.intArith,wrap_i64 hp]
 ·exact (fQ.aY h).elim
theorem aeB (hR:Rel cfg cx H D w I O) (ho:o.op=.nilCheck x) (hx:eX w I O D (ρ x) (a.eval x))
  (h:fQ Sp H (gY cfg dR (.nilCheck x) ρ) v ups r):fK P cfg cx H D w I O dR o a v ups:=by
 simp only [gY] at h;split at h
 ·rename_i ob i off e;rw [e] at hx;obtain ⟨obj,_,oh,h1⟩:=h.oI;obtain ⟨rfl,rfl⟩:=h1.fG;cases hp:O ob with
  | none=>rw [(hR.dom ob).1 hp] at oh; cases oh
  | some p=>
   obtain ⟨b,bo,sz,h1,h2,h3⟩:=hx.pJ hp;exact fK.eU hR (by simp [execOp,ho,h3]) (h3 ▸ hx)
 ·rename_i cs e;rw [e] at hx;obtain ⟨rfl,rfl⟩:=h.fG;generalize hxe:a.eval x=xv at hx;have hx0:=hx;cases hx.ZN;exact fK.eU hR (by simp [execOp,ho,hxe]) hx0
 ·rename_i f cs e;rw [e] at hx;obtain ⟨rfl,rfl⟩:=h.fG;obtain ⟨vs,h1,h2,h3⟩:=hx.Nq;exact fK.eU hR (by simp [execOp,ho,h1]) (h1 ▸ hx)
 ·exact (fQ.aY h).elim
theorem agB (hR:Rel cfg cx H D w I O) {t:Operand} {i:Nat} (ho:o.op=.extract t i) (hx:eX w I O D (ρ t) (a.eval t))
  (h:fQ Sp H (gY cfg dR (.extract t i) ρ) v ups r):fK P cfg cx H D w I O dR o a v ups:=by
 simp only [gY] at h;split at h
 ·rename_i vs e;rw [e] at hx;obtain ⟨hl,h1⟩:=h.cK;obtain ⟨rfl,rfl⟩:=h1.fG;obtain ⟨xs,h1,h2,h3⟩:=hx.JN;have hl:i<vs.length:=by simpa using hl
  have hi:i<xs.size:=by omega
  refine fK.eU (x:=xs.getD i Go.undef) hR ?_ (h3 i hl);simp [execOp,ho,h1,Instr.extract,Array.getElem?_eq_getElem hi]
 ·exact (fQ.aY h).elim
theorem ah6 {l:List Operand} (h:∀x∈l,eX w I O D (ρ x) (a.eval x)):∀j,j<(l.map ρ).length→eX w I O D (nth (l.map ρ) j) ((l.map a.eval).toArray.getD j Go.undef):=by
 intro j hj;have hj':j<l.length:=by simpa using hj
 rw [vI];simp [hj'];exact h _ (List.getElem_mem hj')
theorem aeC (hR:Rel cfg cx H D w I O) {fn:Fn} {first cap:Array Operand} (ho:o.op=.makeFunc fn first cap) (hx:∀x∈cap.toList,eX w I O D (ρ x) (a.eval x))
  (h:fQ Sp H (gY cfg dR (.makeFunc fn first cap) ρ) v ups r):fK P cfg cx H D w I O dR o a v ups:=by
 simp only [gY] at h;split at h
 ·rename_i f e;obtain ⟨rfl,rfl⟩:=h.fG;have hf:first=#[]:=by simpa using e
  subst hf;refine fK.eU (x:=.func (.func f) #[] (cap.map a.eval)) hR (by simp [execOp,ho,Instr.makeFunc]) (.fn (by simp) λ j hj=>?_);have:=ah6 hx j hj;simpa using this
 ·exact (fQ.aY h).elim
variable {c:Call}
theorem ao9 (hc:iE P cfg) (hR:Rel cfg cx H D w I O) (ho:o.op=.call c) (hcl:c.callee=.builtin .cap) (hx:∀x∈c.args.toList,eX w I O D (ρ x) (a.eval x))
  (h:fQ Sp H (gY cfg dR (.call c) ρ) v ups r):fK P cfg cx H D w I O dR o a v ups:=by
 simp only [gY,hcl] at h;split at h
 ·rename_i es n g t e1 e2;obtain ⟨ti,ht,h1⟩:=h.l7;obtain ⟨x,hxe⟩:∃x,c.args=#[x]:=by
   match hl:c.args.toList with
   | []=>simp [hl] at e1
   | [x]=>exact ⟨x,by rw [← Array.toList_inj]; simpa using hl⟩
   | x::y::l=>simp [hl] at e1
  have e1':ρ x=.sl es n true g:=by simpa [hxe] using e1
  have hx':eX w I O D (.sl es n true g) (a.eval x):=e1' ▸ hx x (by simp [hxe]);have hte:c.argTypes=#[t]:=by rw [← Array.toList_inj]; simpa using e2
  obtain ⟨_,dd,_,_,hud,_,_,_,_,_,_,_,hm⟩:=(hc.ty t ti ht).ex;split at h1
  ·rename_i e;rw [e] at hm;have hm:dd=.slice _:=hm;subst hm;obtain ⟨rfl,rfl⟩:=h1.fG;generalize hxv:a.eval x=xv at hx';have hq:=hx'.BD;cases hq with
   | @sl _ _ _ _ aa cap b off vs hcap hfull ha hes hm h1 hr=>
   have hcn:cap=n:=hfull rfl;subst hcn;refine fK.eU (x:=.int .i64 _) hR ?_ (.pure (.int _ _));simp [execOp,ho,hcl,resolve,invoke,builtin,Builtin.cap_,hxe,hte,hxv,bX hud,goInt]
  ·exact (fQ.aY h1).elim
 ·exact (fQ.aY h).elim
theorem apa (hc:iE P cfg) (hR:Rel cfg cx H D w I O) (ho:o.op=.call c) (hcl:c.callee=.builtin .len) (hx:∀x∈c.args.toList,eX w I O D (ρ x) (a.eval x))
  (h:fQ Sp H (gY cfg dR (.call c) ρ) v ups r):fK P cfg cx H D w I O dR o a v ups:=by
 simp only [gY,hcl] at h;split at h
 ·rename_i u t e1 e2;obtain ⟨ti,ht,h1⟩:=h.l7;obtain ⟨x,hxe⟩:∃x,c.args=#[x]:=by
   match hl:c.args.toList with
   | []=>simp [hl] at e1
   | [x]=>exact ⟨x,by rw [← Array.toList_inj]; simpa using hl⟩
   | x::y::l=>simp [hl] at e1
  have e1':ρ x=u:=by simpa [hxe] using e1
  have hx':eX w I O D u (a.eval x):=e1' ▸ hx x (by simp [hxe]);have hte:c.argTypes=#[t]:=by rw [← Array.toList_inj]; simpa using e2
  obtain ⟨_,dd,_,_,hud,_,_,_,_,_,_,_,hm⟩:=(hc.ty t ti ht).ex;split at h1
  ·rename_i e;rw [e] at hm;have hm:dd=.slice _:=hm;subst hm;obtain ⟨rfl,rfl⟩:=h1.fG;generalize hxv:a.eval x=xv at hx';cases hx'.BD;refine fK.eU (x:=.int .i64 _) hR ?_ (.pure (.int _ _));simp [execOp,ho,hcl,resolve,invoke,builtin,Builtin.len_,hxe,hte,hxv,bX hud,goInt]
  ·rename_i ob i n f _ e;rw [e] at hm;have hm:dd=.slice _:=hm;subst hm;obtain ⟨obj,_,oh,h2⟩:=h1.oI;obtain ⟨rfl,rfl⟩:=h2.fG;cases hp:O ob with
   | none=>rw [(hR.dom ob).1 hp] at oh; cases oh
   | some p=>
    obtain ⟨aa,cap,hxv,_⟩:=hx'.nK hp;refine fK.eU (x:=.int .i64 _) hR ?_ (.pure (.int _ _));simp [execOp,ho,hcl,resolve,invoke,builtin,Builtin.len_,hxe,hte,hxv,bX hud,goInt]
  ·rename_i s e;rw [e] at hm;have hm:dd=.string:=hm;subst hm;obtain ⟨rfl,rfl⟩:=h1.fG;refine fK.eU (x:=.int .i64 _) hR ?_ (.pure (.int _ _));simp [execOp,ho,hcl,resolve,invoke,builtin,Builtin.len_,hxe,hte,hx'.CU,bX hud,goInt]
  ·exact (fQ.aY h1).elim
 ·exact (fQ.aY h).elim
theorem args2 {u u':AV} (e:c.args.toList.map ρ=[u,u']):∃x y,c.args=#[x,y]∧ρ x=u∧ρ y=u':=by
 match hl:c.args.toList with
 | []=>simp [hl] at e
 | [x]=>simp [hl] at e
 | [x,y]=>
  rw [hl] at e
  simp at e
  exact ⟨x,y,by rw [← Array.toList_inj]; simpa using hl,e.1,e.2⟩
 | x::y::z::l=>simp [hl] at e
theorem apb (hR:Rel cfg cx H D w I O) (ho:o.op=.call c) (hcl:c.callee=.builtin .min) (hx:∀x∈c.args.toList,eX w I O D (ρ x) (a.eval x))
  (h:fQ Sp H (gY cfg dR (.call c) ρ) v ups r):fK P cfg cx H D w I O dR o a v ups:=by
 simp only [gY,hcl] at h;split at h
 ·rename_i k n k' n' e;obtain ⟨rfl,rfl⟩:=h.fG;obtain ⟨x,y,hxy,e1,e2⟩:=args2 e;have h1:=e1 ▸ hx x (by simp [hxy]);have h2:=e2 ▸ hx y (by simp [hxy]);refine fK.eU (x:=.int k _) hR ?_ (.pure (.int _ _));simp [execOp,ho,hcl,resolve,invoke,builtin,Builtin.min_,Builtin.min2,hxy,h1.iT,h2.iT]
 ·exact (fQ.aY h).elim
theorem apc (hR:Rel cfg cx H D w I O) (ho:o.op=.call c) (hcl:c.callee=.builtin .max) (hx:∀x∈c.args.toList,eX w I O D (ρ x) (a.eval x))
  (h:fQ Sp H (gY cfg dR (.call c) ρ) v ups r):fK P cfg cx H D w I O dR o a v ups:=by
 simp only [gY,hcl] at h;split at h
 ·rename_i k n k' n' e;obtain ⟨rfl,rfl⟩:=h.fG;obtain ⟨x,y,hxy,e1,e2⟩:=args2 e;have h1:=e1 ▸ hx x (by simp [hxy]);have h2:=e2 ▸ hx y (by simp [hxy]);refine fK.eU (x:=.int k _) hR ?_ (.pure (.int _ _));simp [execOp,ho,hcl,resolve,invoke,builtin,Builtin.max_,Builtin.max2,hxy,h1.iT,h2.iT]
 ·exact (fQ.aY h).elim
theorem iE.field (hc:iE P cfg) {s:TypeId} {ts:Rl} {f oo t:Nat} (h:look cfg.ty s=some ts) (hf:Qa ts f=some (oo,t)):
  ∃fields fd,P.underlying s=some (.struct fields)∧fields[f]? = some fd∧fd.offset=oo∧fd.type=t:=by
 obtain ⟨_,dd,_,_,hud,_,_,_,_,_,_,_,hm⟩:=(hc.ty s ts h).ex;unfold Qa at hf;split at hf
 ·rename_i fs e;rw [e] at hm;obtain ⟨fields,rfl,hfs⟩:=hm;subst hfs;have key:∀(l:List Field) (f:Nat),Yg (l.map λ f=>(f.offset,f.type)) f=some (oo,t)→∃fd,l[f]? = some fd∧fd.offset=oo∧fd.type=t:=by
   intro l;induction l with
   | nil=>intro f h; simp [Yg] at h
   | cons x l ih=>
    intro f h;cases f with
    | zero=>simp [Yg] at h; exact ⟨x,rfl,h.1,h.2⟩
    | succ f=>simp only [List.map_cons,Yg] at h; simpa using ih f h
  obtain ⟨fd,h1,h2,h3⟩:=key _ _ hf;exact ⟨fields,fd,hud,by simpa using h1,h2,h3⟩
 ·cases hf
theorem Nr (l:List AV) (k j:Nat):nth (l.drop k) j=nth l (k+j):=by
 simp [vI]
theorem ade (hc:iE P cfg) (hR:Rel cfg cx H D w I O) {s:TypeId} {f:Nat} (ho:o.op=.fieldAddr s x f) (hx:eX w I O D (ρ x) (a.eval x))
  (h:fQ Sp H (gY cfg dR (.fieldAddr s x f) ρ) v ups r):fK P cfg cx H D w I O dR o a v ups:=by
 simp only [gY] at h;obtain ⟨ts,hs,h1⟩:=h.l7;split at h1
 ·rename_i oo t hf;obtain ⟨ti,ht,h2⟩:=h1.l7;obtain ⟨hpos,h3⟩:=h2.cK;have hpos:0<ti.size:=by simpa using hpos
  obtain ⟨fields,fd,hu,hfd,ho1,ho2⟩:=hc.field hs hf;obtain ⟨i,_,_,hi,_,_,hsz,_⟩:=(hc.ty t ti ht).ex;have hne:¬ i.size=0:=by omega
  have place:∀b bo,(Instr.fieldAt s (.pointer (some ⟨b,bo,none⟩)) f).run P w=.ok (.pointer (some ⟨b,bo+oo,none⟩)) w:=by
   intro b bo;simp [Instr.fieldAt,Instr.sureAddr,bX hu,hfd,fieldPlace,ho1,ho2,gJ hi,hne,Addr.add_mid]
  split at h3
  ·rename_i ob i off e;rw [e] at hx;obtain ⟨obj,_,oh,h4⟩:=h3.oI;obtain ⟨rfl,rfl⟩:=h4.fG;cases hp:O ob with
   | none=>rw [(hR.dom ob).1 hp] at oh; cases oh
   | some p=>
    obtain ⟨b,bo,sz,h5,h6,h7⟩:=hx.pJ hp;refine fK.eU (x:=.pointer (some ⟨b,bo+(i*p.es+(off+oo)),none⟩)) hR ?_ (.ptr hp h5 h6);have:bo+(i*p.es+off)+oo=bo+(i*p.es+(off+oo)):=by omega
    simp [execOp,ho,h7,place,this]
  ·rename_i cs e;rw [e] at hx;obtain ⟨rfl,rfl⟩:=h3.fG;generalize hxv:a.eval x=xv at hx;cases hx.ZN with
   | ro b off vs hI hm hr=>
    refine fK.eU (x:=.pointer (some ⟨b,off+oo,none⟩)) hR (by simp [execOp,ho,hxv,place]) (.pure (.ro b (off+oo) (λ j=>vs (oo+j)) hI (λ j hj=>?_) λ j hj=>?_))
    ·have:=hm (oo+j) (by simp at hj; omega);rw [← this,Nat.add_assoc]
    ·rw [Nr]; exact hr (oo+j) (by simp at hj; omega)
  ·exact (fQ.aY h3).elim
 ·exact (fQ.aY h1).elim
end
end Go.Ab
namespace Go.Ab
section
variable {P:Program} {cfg:y7} {cx:Ctx} {H:Nat→Option dW} {D:Nat→Prop} {w:World} {I:Nat→Prop} {O:OM} {Sp:pz}
variable {dR:Nat} {o:Oper} {a:Act} {ρ:Operand→AV} {v:AV} {ups:lK} {r:List Nat}
variable {t:TypeId}
theorem iE.agg (hc:iE P cfg) {ti:Rl} (h:look cfg.ty t=some ti):∃i d,P.info? t=some i∧P.underlying t=some d∧d.isRow=ti.agg∧i.size=ti.size:=by
 obtain ⟨i,d,z,h1,h2,h3,h4,h5,h6,_⟩:=(hc.ty t ti h).ex;exact ⟨i,d,h1,h2,h6,h4⟩
theorem VY {d:TypeDesc} (h:P.underlying t=some d) (w:World):(isAgg t).run P w=.ok d.isRow w:=by
 unfold isAgg;rw [Sem.run_bind,bX h w];cases d<;>simp
theorem rQ (hc:iE P cfg) {ti:Rl} (ht:look cfg.ty t=some ti) {cs:List AV} (h:fQ Sp H (Bw ti cs) v ups r) (b bo:Nat) (f:Nat→Value)
  (hm:∀j,j<cs.length→w.cell? ⟨b,bo+j,none⟩=some (f j)) (hr:∀j,j<cs.length→eX w I O D (nth cs j) (f j)):
  ups=[]∧∃x,(Instr.loadAt t (.pointer (some ⟨b,bo,none⟩))).run P w=.ok x w∧eX w I O D v x:=by
 obtain ⟨i,d,hi,hu,hd,hs⟩:=hc.agg ht;unfold Bw at h;cases ha:ti.agg with
 | true=>
  simp only [ha] at h;obtain ⟨hl,h1⟩:=h.cK;obtain ⟨rfl,rfl⟩:=h1.fG;have hl:ti.size≤cs.length:=by simpa using hl
  refine ⟨rfl,.agg ((List.range ti.size).map f).toArray,?_,.agg (by simp [Nat.min_eq_left hl]) λ j hj=>?_⟩
  ·refine run_loadAt_mid w b bo t _ d (λ j u hj=>?_) hu (by rw [hd,ha]) (by simp [hi,hs]);have hlt:j<ti.size:=by
    rcases Nat.lt_or_ge j ti.size with h | h
    ·exact h
    ·simp [h] at hj
   simp [hlt] at hj;rw [← hj];exact hm j om
  ·have hj':j<ti.size:=by simp at hj; omega
   have e:nth (List.take ti.size cs) j=nth cs j:=by simp [vI,hj']
   rw [e];simpa [hj'] using hr j om
 | false=>
  simp only [ha] at h;cases cs with
  | nil=>exact (fQ.aY h).elim
  | cons c cs=>
   obtain ⟨rfl,rfl⟩:=h.fG;refine ⟨rfl,f 0,?_,hr 0 (by simp)⟩;have h0:=hm 0 (by simp);have hag:(isAgg t).run P w=.ok false w:=by rw [VY hu,hd,ha]
   simp only [Nat.add_zero] at h0;simp [Instr.loadAt,Instr.sureAddr,loadVar,Sem.run_bind,hag,load,Sem.run,h0]
theorem Rel.live (hR:Rel cfg cx H D w I O) {ob:Nat} {x:dW} (h:H ob=some x):∃p,O ob=some p∧je w I O D p x:=by
 cases hp:O ob with
 | none=>rw [(hR.dom ob).1 hp] at h; cases h
 | some p=>exact ⟨p,rfl,hR.objs ob x p h hp⟩
theorem wo {b sz j:Nat} (h:Nl w b sz) (hj:j<sz):w.cell? ⟨b,j,none⟩=some (cellAt w b j):=by
 obtain ⟨u,hu⟩:=Option.isSome_iff_exists.1 (h j hj).1;simp [cellAt,hu]
theorem Zf {i j:Nat} (h:(isZ i&&isZ j)=true):i=0∧j=0:=by
 cases i<;>cases j<;>simp_all [isZ]
theorem ah8 (l m:List AV) (j:Nat):nth (l++m) j=if j<l.length then nth l j else nth m (j - l.length):=by
 rw [vI,vI,vI];by_cases h:j<l.length
 ·rw [if_pos h]; simp [List.getElem?_append_left h]
 ·rw [if_neg h]; simp [List.getElem?_append_right (by omega:l.length≤j)]
variable {es:Nat}
theorem abx {g:Nat→AV}:∀(k i:Nat),(∀j,i≤j→j<i+k→(g j).cells.length=es)→(kX k i g).length=k*es∧∀a b,a<k→b<es→nth (kX k i g) (a*es+b)=nth (g (i+a)).cells b:=by
 intro k;induction k with
 | zero=>intro i _; exact ⟨by simp [kX],λ a b h=>absurd h (Nat.not_lt_zero _)⟩
 | succ k ih=>
  intro i h;obtain ⟨h1,h2⟩:=ih (i+1) (λ j hj hj'=>h j om om);have h0:=h i (Nat.le_refl _) om;refine ⟨by simp only [kX,List.length_append,h0,h1]; rw [Nat.succ_mul]; omega,λ a b ha hb=>?_⟩;simp only [kX];rw [ah8,h0];cases a with
  | zero=>simp only [Nat.zero_mul,Nat.zero_add,Nat.add_zero]; rw [if_pos hb]
  | succ a=>
   rw [if_neg (by rw [Nat.succ_mul]; omega)];have e1:(a+1)*es+b - es=a*es+b:=by rw [Nat.succ_mul]; omega
   rw [e1,h2 a b om hb];congr 2;congr 1;omega
variable {n:Nat}
theorem apd {q:Nat} (h:q<n*es):q / es<n∧q % es<es∧q / es*es+q % es=q:=by
 have hes:0<es:=by
  rcases Nat.eq_zero_or_pos es with h0 | h0
  ·subst h0; simp at h
  ·exact h0
 refine ⟨Nat.div_lt_of_lt_mul (by rw [Nat.mul_comm]; exact h),Nat.mod_lt _ hes,?_⟩;rw [Nat.mul_comm];exact Nat.div_add_mod q es
theorem TW {w:World} {I:Nat→Prop} {b bo:Nat} {g:Nat→AV} (hlen:∀i,i<n→(g i).cells.length=es) (hcs:∀i j,i<n→j<es→iK w I (nth (g i).cells j) (cellAt w b (bo+(i*es+j)))∧(cellAt w b (bo+(i*es+j))).oneCell'=true):
  (kX n 0 g).length=n*es∧∀q,q<(kX n 0 g).length→iK w I (nth (kX n 0 g) q) (cellAt w b (bo+q)):=by
 obtain ⟨h1,h2⟩:=abx n 0 (λ j _ hj=>hlen j om);refine ⟨h1,λ q hq=>?_⟩;rw [h1] at hq;obtain ⟨h3,h4,h5⟩:=apd hq;have h6:=h2 (q / es) (q % es) h3 h4;have h7:=(hcs (q / es) (q % es) h3 h4).1;rw [h5] at h6 h7;rw [h6,Nat.zero_add];exact h7
variable {x:Operand}
theorem anj (hc:iE P cfg) (hR:Rel cfg cx H D w I O) (ho:o.op=.load t x) (hx:eX w I O D (ρ x) (a.eval x))
  (h:fQ Sp H (gY cfg dR (.load t x) ρ) v ups r):fK P cfg cx H D w I O dR o a v ups:=by
 simp only [gY] at h;obtain ⟨ti,ht,h1⟩:=h.l7;split at h1
 ·rename_i ob i off e;rw [e] at hx;obtain ⟨obj,_,oh,h2⟩:=h1.oI;obtain ⟨p,hp,hO⟩:=hR.live oh;obtain ⟨b,bo,sz,hpl,hi,hxv⟩:=hx.pJ hp;cases obj with
  | map=>exact (fQ.aY h2).elim
  | box cs=>
   obtain ⟨hn,b',qA,sz',hpl',hal,hle,hcs⟩:=hO;rw [hpl] at hpl';cases hpl';have hi0:i=0:=by omega
   subst hi0;obtain ⟨rfl,x',hrun,hrep⟩:=rQ (w:=w) (I:=I) (O:=O) (D:=D) hc ht h2 b (bo+off) (λ j=>cellAt w b (bo+(off+j)))
    (λ j hj=>by rw [Nat.add_assoc]; exact wo hal (by simp at hj; omega)) (λ j hj=>by rw [Nr]; exact hcs (off+j) (by simp at hj; omega))
   refine fK.eU hR ?_ hrep;simp only [Nat.zero_mul,Nat.zero_add] at hxv;simp [execOp,ho,hxv,hrun]
  | row es n g=>
   obtain ⟨hn,hes,hlen,hpl' | ⟨b',qA,sz',hpl',hal,hle,hcs⟩⟩:=hO
   ·rw [hpl] at hpl'; cases hpl'.2
   rw [hpl] at hpl';cases hpl';simp only at h2;split at h2
   ·obtain ⟨hz,h3⟩:=h2.cK;obtain ⟨rfl,rfl⟩:=Zf hz;obtain ⟨hrl,hrr⟩:=TW hlen hcs;obtain ⟨rfl,x',hrun,hrep⟩:=rQ (w:=w) (I:=I) (O:=O) (D:=D) hc ht h3 b bo (λ j=>cellAt w b (bo+j)) (λ j hj=>wo hal om) (λ j hj=>.pure (hrr j hj));refine fK.eU hR ?_ hrep;simp only [Nat.zero_mul,Nat.zero_add,Nat.add_zero] at hxv;simp [execOp,ho,hxv,hrun]
   obtain ⟨hk,h3⟩:=h2.cK;have hin:i<n:=by omega
   have hmul:(i+1)*es≤n*es:=Nat.mul_le_mul_right _ hin;have avX:(i+1)*es=i*es+es:=Nat.succ_mul _ _;have hli:=hlen i hin;obtain ⟨rfl,x',hrun,hrep⟩:=rQ (w:=w) (I:=I) (O:=O) (D:=D) hc ht h3 b (bo+(i*es+off)) (λ j=>cellAt w b (bo+(i*es+(off+j))))
    (λ j hj=>by
      have:bo+(i*es+off)+j=bo+(i*es+(off+j)):=by omega
      rw [this]
      exact wo hal (by simp at hj; omega)) (λ j hj=>by rw [Nr]; exact .pure (hcs i (off+j) hin (by simp at hj; omega)).1)
   refine fK.eU hR ?_ hrep;rw [hes] at hxv;simp [execOp,ho,hxv,hrun]
 ·rename_i cs e;rw [e] at hx;generalize hxv:a.eval x=xv at hx;cases hx.ZN with
  | ro b off vs hI hm hr=>
   obtain ⟨rfl,x',hrun,hrep⟩:=rQ (w:=w) (I:=I) (O:=O) (D:=D) hc ht h1 b off vs hm (λ j hj=>.pure (hr j hj));exact fK.eU hR (by simp [execOp,ho,hxv,hrun]) hrep
 ·exact (fQ.aY h1).elim
theorem akA (hc:iE P cfg) (hR:Rel cfg cx H D w I O) {s:TypeId} {f:Nat} (ho:o.op=.field s x f) (hx:eX w I O D (ρ x) (a.eval x))
  (h:fQ Sp H (gY cfg dR (.field s x f) ρ) v ups r):fK P cfg cx H D w I O dR o a v ups:=by
 simp only [gY] at h;obtain ⟨ts,hs,h1⟩:=h.l7;split at h1
 ·rename_i oo t hf;obtain ⟨ti,ht,h2⟩:=h1.l7;obtain ⟨fields,fd,hu,hfd,ho1,ho2⟩:=hc.field hs hf;obtain ⟨i,d,hi,hu',hd,hsz⟩:=hc.agg ht;split at h2
  ·rename_i cs e;rw [e] at hx;obtain ⟨vs,hxv,hl,hr⟩:=hx.wZ;have hag:=VY hu' w;unfold Bw at h2;cases ha:ti.agg with
   | true=>
    simp only [ha] at h2;obtain ⟨hle,h3⟩:=h2.cK;obtain ⟨rfl,rfl⟩:=h3.fG;have hle:ti.size≤cs.length - oo:=by simpa using hle
    rw [hd,ha] at hag;have e1:(part t vs oo).run P w=.ok (.agg (vs.extract oo (oo+ti.size))) w:=by simp [part,Sem.run_bind,hag,gJ hi,hsz]
    refine fK.eU (x:=.agg (vs.extract oo (oo+ti.size))) hR ?_ (.agg ?_ λ j hj=>?_)
    ·rw [← ho2] at e1;simp only [execOp,ho,Instr.field,hxv,Sem.run_bind,bX hu,hfd,asAgg,Sem.run_pure,Result.andThen_ok,e1,ho1]
    ·simp; omega
    ·have hj':j<ti.size:=by simp at hj; omega
     have:=hr (oo+j) om;have e:nth (List.take ti.size (List.drop oo cs)) j=nth cs (oo+j):=by simp [vI,hj']
     rw [e];have h4:oo+j<vs.size:=by omega
     simp [h4] at this;have h5:(vs.extract oo (oo+ti.size))[j]? = vs[oo+j]? := by
      rw [Array.getElem?_extract,if_pos om]
     simp only [Array.getD_eq_getD_getElem?, h5];simpa [h4] using this
   | false=>
    simp only [ha] at h2;rw [hd,ha] at hag;cases hcs:List.drop oo cs with
    | nil=>simp only [hcs] at h2; exact (fQ.aY h2).elim
    | cons c l=>
     simp only [hcs] at h2;obtain ⟨rfl,rfl⟩:=h2.fG;have hlt:oo<cs.length:=by
      rcases Nat.lt_or_ge oo cs.length with h | h
      ·exact h
      ·rw [List.drop_eq_nil_of_le h] at hcs; cases hcs
     have hc0:nth cs oo=v:=by
      have:=Nr cs oo 0;rw [hcs] at this;simpa [nth] using this.symm
     have h4:oo<vs.size:=by omega
     have e1:(part t vs oo).run P w=.ok (vs.getD oo Go.undef) w:=by simp [part,Sem.run_bind,hag,Array.getElem?_eq_getElem h4]
     refine fK.eU (x:=vs.getD oo Go.undef) hR ?_ (hc0 ▸ hr oo hlt);rw [← ho2] at e1;simp only [execOp,ho,Instr.field,hxv,Sem.run_bind,bX hu,hfd,asAgg,Sem.run_pure,Result.andThen_ok,e1,ho1]
  ·exact (fQ.aY h2).elim
 ·exact (fQ.aY h1).elim
theorem zA {size:Nat} (h:Sb es n size=true) (hn:n≠0):es=size:=by
 unfold Sb at h;cases hb:Nat.beq es size with
 | true=>exact Nat.eq_of_beq_eq_true hb
 | false=>
  simp only [hb] at h;cases n with
  | zero=>exact absurd rfl hn
  | succ n=>simp [isZ] at h
theorem TY (i j:Nat):addN i j=i+j:=by cases i<;>simp [addN]
theorem acg (hc:iE P cfg) {et:Nat} (h:ako cfg t=some (n,et)):P.underlying t=some (.array n et)∧∃ti,look cfg.ty t=some ti∧ZB ti.desc=some (n,et):=by
 unfold ako at h;split at h
 ·rename_i ti ht;refine ⟨?_,ti,ht,h⟩;obtain ⟨_,d,_,_,hu,_,_,_,_,_,_,_,hm⟩:=(hc.ty t ti ht).ex;unfold ZB at h;split at h
  ·rename_i n' e' hd;cases h;rw [hd] at hm;have hm:d=.array n et:=hm;rw [hu,hm]
  ·cases h
 ·cases h
theorem adf (hc:iE P cfg) (hR:Rel cfg cx H D w I O) {ix:Operand} (ho:o.op=.indexAddr t x ix) (hx:eX w I O D (ρ x) (a.eval x)) (hix:eX w I O D (ρ ix) (a.eval ix))
  (h:fQ Sp H (gY cfg dR (.indexAddr t x ix) ρ) v ups r):fK P cfg cx H D w I O dR o a v ups:=by
 simp only [gY] at h;split at h
 ·rename_i n et harr;obtain ⟨hu,_⟩:=acg hc harr;obtain ⟨ei,hei,h1⟩:=h.l7;split at h1
  ·rename_i k ii ob j off e1 e2;rw [e1] at hix;rw [e2] at hx;have aeD:=hix.iT;obtain ⟨obj,_,oh,h2⟩:=h1.oI;obtain ⟨p,hp,hO⟩:=hR.live oh;obtain ⟨b,bo,sz,hpl,hjn,hxv⟩:=hx.pJ hp;cases obj with
   | map=>exact (fQ.aY h2).elim
   | box cs=>exact (fQ.aY h2).elim
   | row es n' g=>
    obtain ⟨c1,h3⟩:=h2.cK;obtain ⟨c2,h4⟩:=h3.cK;obtain ⟨c3,h5⟩:=h4.cK;obtain ⟨⟨hn0,hn1⟩,rfl,rfl⟩:=h5.iG;obtain ⟨rfl,rfl⟩:=Zf c1;have c2:es=ei.size:=Nat.eq_of_beq_eq_true c2;have c3:n'=n:=Nat.eq_of_beq_eq_true c3;have VZ:p.es=es:=hO.2.1;have hpn:p.n=n':=hO.1;obtain ⟨i,_,z,hi,_,hz,hs,_⟩:=(hc.ty et ei hei).ex;simp only [Nat.zero_mul,Nat.add_zero] at hxv;refine fK.eU (x:=.pointer (some ⟨b,bo+(ii.toNat*p.es+0),none⟩)) hR ?_ (.ptr hp hpl om);simp [execOp,ho,hxv,aeD,Instr.indexAt,asIntOf,Instr.sureAddr,bX hu,gJ hi,hn0,hn1,hs,← c2,VZ,Addr.add_mid]
  ·exact (fQ.aY h1).elim
 obtain ⟨tt,e,ti,h1,h2,h3,h4⟩:=h.qC;obtain ⟨hu,i,z,hi,hz,hs,hby,hzs⟩:=hc.slice h1 h2 h3;split at h4
 ·rename_i k n eix;rw [eix] at hix;have aeD:=hix.iT;split at h4
  ·rename_i es m full g ex;rw [ex] at hx;obtain ⟨hes,h5⟩:=h4.cK;obtain ⟨⟨hn0,hn1⟩,rfl,rfl⟩:=h5.iG;generalize hxv:a.eval x=xv at hx;cases hx.BD with
   | @sl _ _ _ _ aa cap b off vs hcap hfull ha hes' hm h1 hr=>
    have hm0:m≠0:=by omega
    obtain ⟨rfl,hI⟩:=ha hm0;have asE:=zA hes hm0;have hnm:n.toNat<m:=by omega
    refine fK.eU (x:=.pointer (some ⟨b,off+n.toNat*es,none⟩)) hR ?_ (.pure (.ro b (off+n.toNat*es) (λ j=>vs n.toNat j) hI (λ j hj=>?_) λ j hj=>hr _ _ hnm (by rw [hes' _ hnm] at hj; exact hj)))
    ·simp [execOp,ho,hxv,aeD,Instr.indexAt,asIntOf,bX hu,gJ hi,hn0,hn1,hs,asE,Addr.add_mid]
    ·rw [Nat.add_assoc];exact hm _ _ hnm (by rw [hes' _ hnm] at hj; exact hj)
  ·rename_i ob j m full ex;rw [ex] at hx;obtain ⟨obj,_,oh,h5⟩:=h4.oI;obtain ⟨p,hp,hO⟩:=hR.live oh;cases obj with
   | map=>exact (fQ.aY h5).elim
   | box cs=>exact (fQ.aY h5).elim
   | row es n' g=>
    obtain ⟨hes,h6⟩:=h5.cK;have hes:es=ti.size:=Nat.eq_of_beq_eq_true hes;obtain ⟨⟨hn0,hn1⟩,rfl,rfl⟩:=h6.iG;obtain ⟨aa,cap,hxv,hjm,hcap,hfull,hpl⟩:=hx.nK hp;obtain ⟨b,bo,sz,aeE,rfl,hle⟩:=hpl om;have VZ:p.es=es:=hO.2.1;have hnm:n.toNat<m:=by omega
    rw [TY];have:bo+j*p.es+n.toNat*p.es=bo+((j+n.toNat)*p.es+0):=by rw [Nat.add_mul]; omega
    refine fK.eU (x:=.pointer (some ⟨b,bo+((j+n.toNat)*p.es+0),none⟩)) hR ?_ (.ptr hp aeE om);rw [← this];simp [execOp,ho,hxv,aeD,Instr.indexAt,asIntOf,bX hu,gJ hi,hn0,hn1,hs,← hes,VZ,Addr.add_mid]
  ·exact (fQ.aY h4).elim
 ·exact (fQ.aY h4).elim
end
end Go.Ab
namespace Go.Ab
section
variable {P:Program} {cfg:y7} {cx:Ctx} {H:Nat→Option dW} {D:Nat→Prop} {w:World} {I:Nat→Prop} {O:OM} {Sp:pz}
variable {dR:Nat} {o:Oper} {a:Act} {ρ:Operand→AV} {v:AV} {ups:lK} {r:List Nat}
variable {t:TypeId}
theorem Rn {e:TypeId} {i:TypeInfo} (hu:P.underlying t=some (.slice e)) (hi:P.info? e=some i) (aa:Option Addr) (len cap:Nat) (lo hi' mx:Option Value) (l h m:Nat)
  (hb:(Instr.sliceBounds true len cap lo hi' mx).run P w=.ok (l,h,m) w):
  (Instr.sliceAt t (.slice aa len cap) lo hi' mx).run P w=.ok (.slice (if m=l then aa else aa.map (·.add (l*i.size))) (h - l) (m - l)) w:=by
 simp [Instr.sliceAt,Instr.slice,bX hu,hb,gJ hi]
theorem aqU (len cap:Nat):(Instr.sliceBounds true len cap none none none).run P w=.ok (0,len,cap) w:=by
 simp [Instr.sliceBounds]
theorem aqV (len cap:Nat) (k:IntKind) (h:Int) (h0:0≤h) (h1:h≤cap):(Instr.sliceBounds true len cap none (some (.int k h)) none).run P w=.ok (0,h.toNat,cap) w:=by
 simp [Instr.sliceBounds,Instr.sliceBound,asIntOf,h0,h1]
theorem aqW (len cap:Nat) (k:IntKind) (h:Int) (h0:0≤h) (h1:h≤cap):(Instr.sliceBounds true len cap none (some (.int k h)) (some (.int k h))).run P w=.ok (0,h.toNat,h.toNat) w:=by
 obtain ⟨n,rfl⟩:=Int.eq_ofNat_of_zero_le h0;simp at h1;simp [Instr.sliceBounds,Instr.sliceBound,asIntOf,h1]
theorem aqX (len cap:Nat) (k:IntKind) (l:Int) (h0:0≤l) (h1:l≤len):(Instr.sliceBounds true len cap (some (.int k l)) none none).run P w=.ok (l.toNat,len,cap) w:=by
 simp [Instr.sliceBounds,Instr.sliceBound,asIntOf,h0,h1]
theorem aqY (len cap:Nat) (k k':IntKind) (l h:Int) (h0:0≤l) (h1:l≤h) (h2:h≤cap):(Instr.sliceBounds true len cap (some (.int k l)) (some (.int k' h)) none).run P w=.ok (l.toNat,h.toNat,cap) w:=by
 obtain ⟨n,rfl⟩:=Int.eq_ofNat_of_zero_le h0;obtain ⟨m,rfl⟩:=Int.eq_ofNat_of_zero_le (Int.le_trans h0 h1);simp at h1 h2;simp [Instr.sliceBounds,Instr.sliceBound,asIntOf,h1,h2]
theorem aqZ (len cap:Nat) (k k':IntKind) (l h:Int) (h0:0≤l) (h1:l≤h) (h2:h≤cap):(Instr.sliceBounds true len cap (some (.int k l)) (some (.int k' h)) (some (.int k' h))).run P w=.ok (l.toNat,h.toNat,h.toNat) w:=by
 obtain ⟨n,rfl⟩:=Int.eq_ofNat_of_zero_le h0;obtain ⟨m,rfl⟩:=Int.eq_ofNat_of_zero_le (Int.le_trans h0 h1);simp at h1 h2;simp [Instr.sliceBounds,Instr.sliceBound,asIntOf,h1,h2]
theorem agC {es n cap size l h m:Nat} {full xg:Bool} {g:Nat→AV} {aa:Option Addr} (hp:iK w I (.sl es n full g) (.slice aa n cap)) (hlh:l≤h) (hhn:h≤n) (hhm:h≤m) (_hmc:m≤cap)
  (hf:xg=true→m=h) (hs:n≠0→es=size):iK w I (.sl es (h - l) xg (λ j=>g (l+j))) (.slice (if m=l then aa else aa.map (·.add (l*size))) (h - l) (m - l)):=by
 cases hp with
 | sl b off vs hcap hfull ha hes hm h1 hr=>
  refine .sl b (off+l*es) (λ i j=>vs (l+i) j) om (λ e=>by have:=hf e; omega) (λ hne=>?_) (λ i hi=>hes _ om) (λ i j hi hj=>?_) (λ i j hi hj=>h1 _ _ om hj) (λ i j hi hj=>hr _ _ om hj)
  ·obtain ⟨h1,h2⟩:=ha om;rw [if_neg om,h1,hs om];simp [Addr.add_mid,h2]
  ·have:=hm (l+i) j om hj;rw [← this,Nat.add_mul];congr 2;omega
theorem V3 {x y:Option Operand} (h:Fw x y=true):x=y:=by
 unfold Fw at h;split at h
 ·rw [Nat.eq_of_beq_eq_true h]
 ·cases h
variable {mx:Option Operand}
theorem ah9 (h:(!mx.isSome)=true):mx=none:=by
 cases mx with
 | none=>rfl
 | some _=>cases h
variable {hi:Option Operand}
theorem akB {k:Pg} (hhi:∀y,hi=some y→eX w I O D (ρ y) (a.eval y)) (hmx:∀y,mx=some y→eX w I O D (ρ y) (a.eval y)) (h:fQ Sp H (aiT ρ hi mx k) v ups r):(∃r',fQ Sp H k v ups r')∧(mx.isSome=true→mx.map a.eval=hi.map a.eval):=by
 unfold aiT at h;cases mx with
 | none=>exact ⟨⟨_,h⟩,nofun⟩
 | some m=>
  cases hi with
  | none=>exact (fQ.aY h).elim
  | some y=>
   simp only at h;have h1:=hhi y rfl;have h2:=hmx m rfl;split at h
   ·rename_i kk a1 kk' b1 e1 e2;obtain ⟨hk,h⟩:=h.cK;obtain ⟨he,h⟩:=h.w9;refine ⟨⟨_,h⟩,λ _=>?_⟩;rw [e1] at h1;rw [e2] at h2;have hk:kk=kk':=of_decide_eq_true hk;simp only [Option.map_some];rw [h1.iT,h2.iT,hk,he]
   ·exact (fQ.aY h).elim
theorem akC (n:Nat):(Instr.sliceBounds false n n none none none).run P w=.ok (0,n,n) w:=by simp [Instr.sliceBounds]
theorem akD (n:Nat) (k:IntKind) (h:Int) (h0:0≤h) (h1:h≤n):(Instr.sliceBounds false n n none (some (.int k h)) none).run P w=.ok (0,h.toNat,n) w:=by
 simp [Instr.sliceBounds,Instr.sliceBound,asIntOf,h0,h1]
variable {x:Operand} {lo:Option Operand}
theorem ai1 (hc:iE P cfg) (hR:Rel cfg cx H D w I O) (ho:o.op=.slice t x lo hi mx) (hx:eX w I O D (ρ x) (a.eval x)) (hhi:∀y,hi=some y→eX w I O D (ρ y) (a.eval y)) {n et:Nat} (harr:ako cfg t=some (n,et))
  (h:fQ Sp H (VR cfg et λ ei=>gN mx.isNone (match ρ x with
    | .ptr o i off=>.rd o λ
     | .row es n' _=>gN (isZ i&&isZ off) (gN (Nat.beq es ei.size) (gN (Nat.beq n' n) (akr o n (lo.map ρ) (hi.map ρ))))
     | _=>.fail
    | _=>.fail)) v ups r):fK P cfg cx H D w I O dR o a v ups:=by
 obtain ⟨hu,_⟩:=acg hc harr;obtain ⟨ei,hei,h1⟩:=h.l7;obtain ⟨hmx,h2⟩:=h1.cK;have hmx:mx=none:=by cases mx with | none=>rfl | some _=>cases hmx
 subst hmx;split at h2
 ·rename_i ob j off e1;rw [e1] at hx;obtain ⟨obj,_,oh,h3⟩:=h2.oI;obtain ⟨p,hp,hO⟩:=hR.live oh;obtain ⟨b,bo,sz,hpl,hjn,hxv⟩:=hx.pJ hp;cases obj with
  | map=>exact (fQ.aY h3).elim
  | box cs=>exact (fQ.aY h3).elim
  | row es n' g=>
   obtain ⟨c1,h4⟩:=h3.cK;obtain ⟨c2,h5⟩:=h4.cK;obtain ⟨c3,h6⟩:=h5.cK;obtain ⟨rfl,rfl⟩:=Zf c1;have c2:es=ei.size:=Nat.eq_of_beq_eq_true c2;have c3:n'=n:=Nat.eq_of_beq_eq_true c3;subst c3;have VZ:p.es=es:=hO.2.1;have hpn:p.n=n':=hO.1;have hsz:bo+n'*es≤sz:=by
    obtain ⟨_,_,_,hq | ⟨b',qA,sz',hpl',_,hle,_⟩⟩:=hO
    ·rw [hpl] at hq; cases hq.2
    ·rw [hpl] at hpl'; cases hpl'; exact hle
   obtain ⟨i,_,z,ank,_,hz,hs,_⟩:=(hc.ty et ei hei).ex;simp only [Nat.zero_mul,Nat.add_zero] at hxv;have fin:∀(k:Nat) (full:Bool),k≤n'→(full=true→n'=k)→eX w I O D (.eF ob 0 k full) (.slice (some ⟨b,bo,none⟩) k n'):=λ k full hk hf=>
    .eF hp om hk hf (λ _=>⟨b,bo,sz,hpl,by simp,by rw [VZ,Nat.zero_add]; exact hsz⟩) om
   unfold akr at h6;split at h6
   ·rename_i e2 e3;obtain ⟨rfl,rfl⟩:=h6.fG;have hlo:lo=none:=by cases lo with | none=>rfl | some _=>cases e2
    have asF:hi=none:=by cases hi with | none=>rfl | some _=>cases e3
    subst hlo;subst asF;refine fK.eU (x:=.slice (some ⟨b,bo,none⟩) n' n') hR ?_ (fin n' true (Nat.le_refl _) (λ _=>rfl));have e0:(⟨b,bo,none⟩:Addr).add 0=⟨b,bo,none⟩:=by rw [Addr.add_mid]; rfl
    by_cases hz0:n'=0
    ·simp [execOp,ho,hxv,Instr.sliceAt,Instr.sureAddr,bX hu,akC,gJ ank,hz0]
    ·simp [execOp,ho,hxv,Instr.sliceAt,Instr.sureAddr,bX hu,akC,gJ ank,hz0,e0]
   ·rename_i k hh e2 e3;obtain ⟨⟨q0,q1⟩,rfl,rfl⟩:=h6.iG;have hlo:lo=none:=by cases lo with | none=>rfl | some _=>cases e2
    subst hlo;obtain ⟨y,hy,ey⟩:∃y,hi=some y∧ρ y=.int k hh:=by
     cases hi with
     | none=>cases e3
     | some y=>exact ⟨y,rfl,by simpa using e3⟩
    subst hy;have hyv:=hhi y rfl;rw [ey] at hyv;have hyv:=hyv.iT;refine fK.eU (x:=.slice (some ⟨b,bo,none⟩) hh.toNat n') hR ?_ (fin hh.toNat false om (λ h=>by cases h));by_cases hz0:n'=0
    ·have hb0:=akD (P:=P) (w:=w) n' k hh q0 q1;have ht0:hh.toNat=0:=by omega
     rw [ht0] at hb0 ⊢;rw [hz0] at hb0 hu ⊢;simp [execOp,ho,hxv,hyv,Instr.sliceAt,Instr.sureAddr,bX hu,hb0,gJ ank]
    ·simp [execOp,ho,hxv,hyv,Instr.sliceAt,Instr.sureAddr,bX hu,akD n' k hh q0 q1,gJ ank,hz0,(show (⟨b,bo,none⟩:Addr).add 0=⟨b,bo,none⟩ by rw [Addr.add_mid]; rfl)]
   ·exact (fQ.aY h6).elim
 ·exact (fQ.aY h2).elim
theorem ai2 (hc:iE P cfg) (hR:Rel cfg cx H D w I O) (ho:o.op=.slice t x lo hi mx) {ob i n:Nat} {f:Bool} (hx:eX w I O D (.eF ob i n f) (a.eval x))
  (hlo:∀y,lo=some y→eX w I O D (ρ y) (a.eval y)) (hhi:∀y,hi=some y→eX w I O D (ρ y) (a.eval y)) (hmx:∀y,mx=some y→eX w I O D (ρ y) (a.eval y))
  (h:fQ Sp H (D5 cfg t λ ti=>.rd ob λ
    | .row es N _=>gN (Nat.beq es ti.size) (akd ob i n N f (lo.map ρ) (hi.map ρ) (mx.map ρ))
    | _=>.fail) v ups r):fK P cfg cx H D w I O dR o a v ups:=by
 obtain ⟨tt,e,ti,h1,h2,h3,h4⟩:=h.qC;obtain ⟨hu,ii,z,hi',hz,hs,hby,hzs⟩:=hc.slice h1 h2 h3;obtain ⟨obj,_,oh,h5⟩:=h4.oI;obtain ⟨p,hp,hO⟩:=hR.live oh;cases obj with
 | map=>exact (fQ.aY h5).elim
 | box cs=>exact (fQ.aY h5).elim
 | row es N g=>
  obtain ⟨c1,h6⟩:=h5.cK;have c1:es=ti.size:=Nat.eq_of_beq_eq_true c1;have VZ:p.es=es:=hO.2.1;have hpn:p.n=N:=hO.1;obtain ⟨aa,cap,hxv,a1,a2,a3,a4⟩:=hx.nK hp;have hext:p.n≤i+cap:=(hxv ▸ hx).Fx hp;have arg:∀(q:Option Operand) (k:IntKind) (m:Int),(∀y,q=some y→eX w I O D (ρ y) (a.eval y))→q.map ρ=some (.int k m)→q.map a.eval=some (.int k m):=by
   intro q k m hq hm;cases q with
   | none=>cases hm
   | some y=>
    have:=hq y rfl;simp only [Option.map_some,Option.some.injEq] at hm ⊢;rw [hm] at this;exact this.iT
  have non:∀(q:Option Operand),q.map ρ=none→q=none:=λ q hq=>by cases q with | none=>rfl | some _=>cases hq
  have part:∀l hh xg,l≤hh→i+hh≤N→(xg=true→f=true∧hh=n)→eX w I O D (.eF ob (i+l) (hh - l) xg) (.slice (if cap=l then aa else aa.map (·.add (l*ii.size))) (hh - l) (cap - l)):=by
   intro l hh xg q1 q2 q3;have hhc:hh≤cap:=by omega
   refine .eF hp om om (λ hf=>?_) (λ hne=>?_) om
   ·obtain ⟨e1,e2⟩:=q3 hf;have:=a3 e1;omega
   ·obtain ⟨b,bo,sz,e1,e2,e3⟩:=a4 om;refine ⟨b,bo,sz,e1,?_,?_⟩
    ·rw [if_neg om,e2];simp only [Option.map_some,Addr.add_mid,Option.some.injEq];rw [VZ,hs,← c1,Nat.add_mul];congr 1;omega
    ·have:i+l+(cap - l)=i+cap:=by omega
     rw [this];exact e3
  have run:∀(l hh m:Nat),(Instr.sliceBounds true n cap (lo.map a.eval) (hi.map a.eval) (mx.map a.eval)).run P w=.ok (l,hh,m) w→(execOp a.eval o).run P w=.ok (.value (.slice (if m=l then aa else aa.map (·.add (l*ii.size))) (hh - l) (m - l))) w:=by
   intro l hh m hb;have:=Rn (P:=P) hu hi' aa n cap _ _ _ l hh m hb;simp only [execOp,ho,hxv,this,Sem.run_bind,Sem.run_pure,Result.andThen_ok]
  unfold akd at h6;split at h6
  ·rename_i k m em;have hm:=arg mx k m hmx em;split at h6
   ·rename_i k1 l k2 hh el eh;obtain ⟨⟨q1,q2,q3,q4⟩,rfl,rfl⟩:=h6.iG;have hl:=arg lo k1 l hlo el;have hh':=arg hi k2 hh hhi eh;refine fK.eU hR (run l.toNat hh.toNat m.toNat ?_) (.pure (.undef _));rw [hl,hh',hm];obtain ⟨l',rfl⟩:=Int.eq_ofNat_of_zero_le q1;obtain ⟨h',rfl⟩:=Int.eq_ofNat_of_zero_le (show 0≤hh by omega);obtain ⟨m',rfl⟩:=Int.eq_ofNat_of_zero_le (show 0≤m by omega);have z1:(m':Int)≤(cap:Int):=by omega
    have z2:(h':Int)≤(m':Int):=q3;have z3:(l':Int)≤(h':Int):=q2;have z4:(0:Int)≤(m':Int):=by omega
    have z5:(0:Int)≤(h':Int):=by omega
    have z6:(0:Int)≤(l':Int):=by omega
    have b1:∀(k:IntKind) (x y:Nat) (cd:BoundsCode),(x:Int)≤(y:Int)→(Instr.sliceBound (.int k x) y cd).run P w=.ok x w:=λ k x y cd hxy=>by
     have hx0:(0:Int)≤(x:Int):=by omega
     simp only [Instr.sliceBound,asIntOf,Sem.run_bind,Sem.run_pure,Result.andThen_ok];rw [if_pos ⟨hx0,hxy⟩];simp
    simp only [Instr.sliceBounds,Sem.run_bind,b1 _ _ _ _ z1,b1 _ _ _ _ z2,b1 _ _ _ _ z3,Result.andThen_ok,Sem.run_pure,Int.toNat_natCast]
   ·rename_i k2 hh el eh;obtain ⟨⟨q1,q2,q3⟩,rfl,rfl⟩:=h6.iG;have hl:=non lo el;subst hl;have hh':=arg hi k2 hh hhi eh;have em0:m=0:=by omega
    have eh0:hh=0:=by omega
    subst em0;subst eh0;refine fK.eU (x:=.slice aa 0 0) hR ?_ (.pure (.sl 0 0 (λ _ _=>Go.undef) (Nat.zero_le _) (λ _=>rfl) (λ h=>absurd rfl h) (λ _ h=>absurd h (Nat.not_lt_zero _)) (λ _ _ h=>absurd h (Nat.not_lt_zero _)) (λ _ _ h=>absurd h (Nat.not_lt_zero _)) (λ _ _ h=>absurd h (Nat.not_lt_zero _))));have b1:∀(k:IntKind) (y:Nat) (cd:BoundsCode),(Instr.sliceBound (.int k 0) y cd).run P w=.ok 0 w:=λ k y cd=>by
     have hx0:(0:Int)≤(0:Int):=by omega
     have hxy:(0:Int)≤(y:Int):=by omega
     simp only [Instr.sliceBound,asIntOf,Sem.run_bind,Sem.run_pure,Result.andThen_ok];rw [if_pos ⟨hx0,hxy⟩];simp
    have:=run 0 0 0 (by
     rw [hh',hm]
     simp [Instr.sliceBounds,b1])
    simpa using this
   ·exact (fQ.aY h6).elim
  ·exact (fQ.aY h6).elim
  ·rename_i em;have hm:=non mx em;subst hm;split at h6
   ·rename_i el eh;obtain ⟨rfl,rfl⟩:=h6.fG;have:=non lo el;subst this;have:=non hi eh;subst this;refine fK.eU hR (run 0 n cap (aqU n cap)) ?_;have hh:(.slice (if cap=0 then aa else aa.map (·.add (0*ii.size))) (n - 0) (cap - 0):Value)=.slice aa n cap:=by
     by_cases hz:cap=0
     ·simp [hz]
     ·obtain ⟨b,bo,sz,_,e2,_⟩:=a4 hz;rw [if_neg hz,e2];simp [Addr.add_mid]
    rw [hh,← hxv];exact hx
   ·rename_i k hh el eh;obtain ⟨⟨q1,q2⟩,rfl,rfl⟩:=h6.iG;have:=non lo el;subst this;have hh':=arg hi k hh hhi eh;refine fK.eU hR (run 0 hh.toNat cap (by rw [hh']; exact aqV n cap k hh q1 om)) ?_;have:=part 0 hh.toNat false (Nat.zero_le _) om (λ h=>by cases h);simpa using this
   ·rename_i k l el eh;obtain ⟨⟨q1,q2⟩,rfl,rfl⟩:=h6.iG;have:=non hi eh;subst this;have hl:=arg lo k l hlo el;exact fK.eU hR (run l.toNat n cap (by rw [hl]; exact aqX n cap k l q1 q2)) (part l.toNat n f om om (λ h=>⟨h,rfl⟩))
   ·rename_i k l k2 hh el eh;obtain ⟨⟨q1,q2,q3⟩,rfl,rfl⟩:=h6.iG;have hl:=arg lo k l hlo el;have hh':=arg hi k2 hh hhi eh;exact fK.eU hR (run l.toNat hh.toNat cap (by rw [hl,hh']; exact aqY n cap k k2 l hh q1 q2 om)) (part l.toNat hh.toNat false om om (λ h=>by cases h))
   ·exact (fQ.aY h6).elim
theorem akE (hc:iE P cfg) (hR:Rel cfg cx H D w I O) (ho:o.op=.slice t x lo hi mx) (hx:eX w I O D (ρ x) (a.eval x))
  (hlo:∀y,lo=some y→eX w I O D (ρ y) (a.eval y)) (hhi:∀y,hi=some y→eX w I O D (ρ y) (a.eval y)) (hmx:∀y,mx=some y→eX w I O D (ρ y) (a.eval y))
  (h:fQ Sp H (gY cfg dR (.slice t x lo hi mx) ρ) v ups r):fK P cfg cx H D w I O dR o a v ups:=by
 simp only [gY] at h;split at h
 ·rename_i n et harr;exact ai1 hc hR ho hx hhi harr h
 split at h
 ·rename_i e1;exact ai2 hc hR ho (e1 ▸ hx) hlo hhi hmx h
 rename_i hno;obtain ⟨⟨r0,h0⟩,hmax⟩:=akB hhi hmx h;clear h;obtain ⟨tt,e,ti,h1,h2,h3,h4⟩:=h0.qC;obtain ⟨hu,i,z,hi',hz,hs,hby,hzs⟩:=hc.slice h1 h2 h3;clear h0;obtain ⟨aa,n,cap,xa,hxv,aoD,part,h5⟩:∃aa n cap xa,a.eval x=.slice aa n cap∧n≤cap∧(∀(v:AV),xa=v→
   (∀es full g,xa=.sl es n full g→(full=true→cap=n)∧∀l h m xg,l≤h→h≤n→h≤m→m≤cap→(xg=true→m=h)→eX w I O D (.sl es (h - l) xg (λ j=>g (l+j))) (.slice (if m=l then aa else aa.map (·.add (l*i.size))) (h - l) (m - l)))∧
   (∀ob j n' full,xa≠.eF ob j n' full)∧
   (∀es n' full g,xa=.sl es n' full g→n'=n))∧∃r',fQ Sp H (Y9 xa (lo.map ρ) (hi.map ρ) mx.isSome mx.isSome) v ups r':=by
  split at h4
  ·rename_i es n f g ex
   rw [ex] at hx
   obtain ⟨hes,h5⟩:=h4.cK
   generalize hxv:a.eval x=xv at hx
   have hp:=hx.BD
   cases hp with
   | @sl _ _ _ _ aa cap b off vs hcap hfull ha hes' hm h11 hr=>
    refine ⟨aa,n,cap,.sl es n f g,rfl,hcap,λ v _=>⟨λ es' xg g' e=>?_,λ _ _ _ _ e=>(by cases e),λ _ _ _ _ e=>(by cases e; rfl)⟩,_,h5⟩
    cases e
    exact ⟨hfull,λ l h m xg q1 q2 q3 q4 q5=>.pure (agC (iK.sl b off vs hcap hfull ha hes' hm h11 hr) q1 q2 q3 q4 q5 (λ hn=>by rw [hs]; exact zA hes hn))⟩
  ·rename_i ob j n f ex
   exact (hno _ _ _ _ ex).elim
  ·exact (fQ.aY h4).elim
 obtain ⟨r',h5⟩:=h5;clear h4 hx;obtain ⟨psl,anl,akF⟩:=part xa rfl;have done:∀ {l h m:Nat} {x':Value},(Instr.sliceBounds true n cap (lo.map a.eval) (hi.map a.eval) (mx.map a.eval)).run P w=.ok (l,h,m) w→x'=.slice (if m=l then aa else aa.map (·.add (l*i.size))) (h - l) (m - l)→ups=[]→eX w I O D v x'→fK P cfg cx H D w I O dR o a v ups:=by
  intro l h m x' hb hx' hu0 hv;subst hu0;refine fK.eU (x:=x') hR ?_ hv;rw [hx'];simp [execOp,ho,hxv,Rn hu hi' aa n cap _ _ _ l h m hb]
 unfold Y9 at h5;split at h5
 ·rename_i e1 e2;obtain ⟨hm,h6⟩:=h5.cK;have hmx:mx=none:=ah9 hm;have e1':lo=none:=by simpa using e1
  have e2':hi=none:=by simpa using e2
  subst hmx; subst e1'; subst e2';split at h6
  ·obtain ⟨rfl,rfl⟩:=h6.fG;have e:=akF _ _ _ _ rfl;subst e;obtain ⟨q1,q2⟩:=psl _ _ _ rfl;exact done (aqU _ _) rfl rfl (by simpa using q2 0 _ cap _ (Nat.zero_le _) (Nat.le_refl _) aoD (Nat.le_refl _) q1)
  ·exact absurd rfl (anl _ _ _ _)
  ·exact (fQ.aY h6).elim
 ·rename_i k hh e1 e2;obtain ⟨hm,h6⟩:=h5.cK;have e1':lo=none:=by simpa using e1
  obtain ⟨y,e2',e3⟩:∃y,hi=some y∧ρ y=.int k hh:=Option.map_eq_some_iff.1 e2;have hy:a.eval y=.int k hh:=(e3 ▸ hhi y e2').iT;subst e1';have go:∀xg,xg=mx.isSome→0≤hh→hh≤n→(∀m,hh.toNat≤m→m≤cap→(xg=true→m=hh.toNat)→eX w I O D v (.slice (if m=0 then aa else aa.map (·.add (0*i.size))) (hh.toNat - 0) (m - 0)))→ups=[]→fK P cfg cx H D w I O dR o a v ups:=by
   intro xg hfe q1 q2 q3 q4;cases hf:mx.isSome with
   | true=>
    exact done (l:=0) (h:=hh.toNat) (m:=hh.toNat) (by rw [hmax hf]; simp only [e2',Option.map_some,Option.map_none,hy]; exact aqW _ _ _ _ q1 om) rfl q4 (q3 _ (Nat.le_refl _) om (λ _=>rfl))
   | false=>
    have hmx:mx=none:=ah9 (by rw [hf]; rfl);subst hmx;exact done (l:=0) (h:=hh.toNat) (m:=cap) (by simp only [e2',Option.map_some,Option.map_none,hy]; exact aqV _ _ _ _ q1 om) rfl q4 (q3 _ om (Nat.le_refl _) (λ e=>by rw [hfe,hf] at e; cases e))
  split at h6
  ·split at h6
   ·rename_i hzf;obtain ⟨⟨q1,q2⟩,rfl,rfl⟩:=h6.iG;have e:=akF _ _ _ _ rfl;subst e;have hh0:hh=0:=by omega
    subst hh0;unfold zf at hzf;split at hzf
    ·split at hzf
     ·obtain ⟨q3,q4⟩:=psl _ _ _ rfl;have hc0:=q3 rfl;exact go _ rfl om om (λ m hm1 hm2 hm3=>by simpa using q4 0 0 m true (Nat.le_refl _) om (Nat.zero_le _) hm2 (λ _=>by omega)) rfl
     ·cases hzf
    ·cases hzf
   obtain ⟨⟨q1,q2⟩,rfl,rfl⟩:=h6.iG;have e:=akF _ _ _ _ rfl;subst e;obtain ⟨q3,q4⟩:=psl _ _ _ rfl;exact go _ rfl q1 q2 (λ m hm1 hm2 hm3=>by simpa using q4 0 hh.toNat m _ (Nat.zero_le _) om hm1 hm2 hm3) rfl
  ·exact absurd rfl (anl _ _ _ _)
  ·exact (fQ.aY h6).elim
 ·rename_i k l e1 e2;obtain ⟨hm,h6⟩:=h5.cK;have hmx:mx=none:=ah9 hm;have e2':hi=none:=by simpa using e2
  obtain ⟨y,e1',e3⟩:∃y,lo=some y∧ρ y=.int k l:=Option.map_eq_some_iff.1 e1;have hy:a.eval y=.int k l:=(e3 ▸ hlo y e1').iT;subst hmx; subst e2';split at h6
  ·obtain ⟨⟨q1,q2⟩,rfl,rfl⟩:=h6.iG;have e:=akF _ _ _ _ rfl;subst e;obtain ⟨q3,q4⟩:=psl _ _ _ rfl;exact done (by simp only [e1',Option.map_some,Option.map_none,hy]; exact aqX _ _ _ _ q1 q2) rfl rfl (q4 l.toNat _ cap _ om (Nat.le_refl _) aoD (Nat.le_refl _) q3)
  ·exact absurd rfl (anl _ _ _ _)
  ·exact (fQ.aY h6).elim
 ·rename_i k l k' hh e1 e2;obtain ⟨hm,h6⟩:=h5.cK;obtain ⟨y,e1',e3⟩:∃y,lo=some y∧ρ y=.int k l:=Option.map_eq_some_iff.1 e1;obtain ⟨y',e2',e3'⟩:∃y,hi=some y∧ρ y=.int k' hh:=Option.map_eq_some_iff.1 e2;have hy:a.eval y=.int k l:=(e3 ▸ hlo y e1').iT;have hy':a.eval y'=.int k' hh:=(e3' ▸ hhi y' e2').iT;have go:∀xg,xg=mx.isSome→0≤l→l≤hh→hh≤n→(∀m,hh.toNat≤m→m≤cap→(xg=true→m=hh.toNat)→eX w I O D v (.slice (if m=l.toNat then aa else aa.map (·.add (l.toNat*i.size))) (hh.toNat - l.toNat) (m - l.toNat)))→ups=[]→fK P cfg cx H D w I O dR o a v ups:=by
   intro xg hfe q0 q1 q2 q3 q4;cases hf:mx.isSome with
   | true=>
    exact done (l:=l.toNat) (h:=hh.toNat) (m:=hh.toNat) (by rw [hmax hf]; simp only [e1',e2',Option.map_some,hy,hy']; exact aqZ _ _ _ _ _ _ q0 q1 om) rfl q4 (q3 _ (Nat.le_refl _) om (λ _=>rfl))
   | false=>
    have hmx:mx=none:=ah9 (by rw [hf]; rfl);subst hmx;exact done (l:=l.toNat) (h:=hh.toNat) (m:=cap) (by simp only [e1',e2',Option.map_some,Option.map_none,hy,hy']; exact aqY _ _ _ _ _ _ q0 q1 om) rfl q4 (q3 _ om (Nat.le_refl _) (λ e=>by rw [hfe,hf] at e; cases e))
  split at h6
  ·obtain ⟨⟨q0,q1,q2⟩,rfl,rfl⟩:=h6.iG;have e:=akF _ _ _ _ rfl;subst e;obtain ⟨q3,q4⟩:=psl _ _ _ rfl;exact go _ rfl q0 q1 q2 (λ m hm1 hm2 hm3=>q4 l.toNat hh.toNat m _ om om hm1 hm2 hm3) rfl
  ·exact absurd rfl (anl _ _ _ _)
  ·exact (fQ.aY h6).elim
 ·exact (fQ.aY h5).elim
end
end Go.Ab
namespace Go.Ab
section
variable {P:Program} {cfg:y7} {cx:Ctx} {H:Nat→Option dW} {D:Nat→Prop} {w:World} {I:Nat→Prop} {O:OM} {Sp:pz}
variable {dR:Nat} {o:Oper} {a:Act} {ρ:Operand→AV} {v:AV} {ups:lK} {r:List Nat}
def EZ (O:OM) (ids:List Nat) (b:Nat):Prop:=∃o p bo sz,o∈ids∧O o=some p∧p.pl=some (b,bo,sz)
def kill (O:OM) (ids:List Nat):OM:=λ o=>if o∈ids then none else O o
theorem ach (ids:List Nat) (o:Nat):look (dead ids) o=if o∈ids then some none else none:=by
 induction ids with
 | nil=>simp [dead,look]
 | cons a l ih=>
  simp only [dead,look,ih];cases h:Nat.beq a o with
  | true=>have:=Nat.eq_of_beq_eq_true h; subst this; simp
  | false=>
   have:o≠a:=λ e=>by subst e; simp at h
   simp [this]
theorem Hy (ids:List Nat) (o:Nat):ni H (dead ids) o=if o∈ids then none else H o:=by
 unfold ni;rw [ach];by_cases h:o∈ids<;>simp [h]
theorem Rel.freeze (hR:Rel cfg cx H D w I O) (ids:List Nat):Rel cfg cx (ni H (dead ids)) D w (λ b=>I b∨EZ O ids b) (kill O ids) where
 dom:=λ o=>by
  rw [Hy]; unfold kill;by_cases h:o∈ids<;>simp [h,hR.dom o]
 used:=λ o p h=>by
  unfold kill at h;by_cases h':o∈ids<;>simp [h'] at h;exact hR.used o p h
 objs:=λ o ob p h h'=>by
  rw [Hy] at h; unfold kill at h';by_cases h0:o∈ids<;>simp [h0] at h h';exact (hR.objs o ob p h h').mono (λ _ h=>.inl h) (λ _ _=>rfl) (λ o _=>by unfold kill; by_cases h0:o∈ids<;>simp [h0]) (λ _ h=>h) hR.used (λ _ _ _ _=>rfl)
 inj:=λ o o' p p' b bo sz b' qA sz' h1 h2 h3 h4 h5=>by
  unfold kill at h1 h2;by_cases h0:o∈ids<;>simp [h0] at h1;by_cases h0':o'∈ids<;>simp [h0'] at h2;exact hR.inj o o' p p' b bo sz b' qA sz' h1 h2 h3 h4 h5
 qB:=λ o p b bo sz h1 h2 h3=>by
  unfold kill at h1;by_cases h0:o∈ids<;>simp [h0] at h1;rcases h3 with h3 | ⟨o',p',qA,sz',h4,h5,h6⟩
  ·exact hR.qB o p b bo sz h1 h2 h3
  ·exact hR.inj o o' p p' b bo sz b qA sz' h1 h5 h2 h6 (λ e=>h0 (e ▸ h4)) rfl
 lt:=λ o p b bo sz h1 h2=>by
  unfold kill at h1;by_cases h0:o∈ids<;>simp [h0] at h1;exact hR.lt o p b bo sz h1 h2
 BA:=λ b h=>by
  rcases h with h | ⟨o',p',qA,sz',h4,h5,h6⟩
  ·exact hR.BA b h
  ·exact hR.lt o' p' b qA sz' h5 h6
 size:=hR.size
 frame:=hR.frame
 env:=hR.env
 maps:=λ o kd z f p b bo sz h h' hp=>by
  rw [Hy] at h; unfold kill at h';by_cases h0:o∈ids<;>simp [h0] at h h';exact hR.maps o kd z f p b bo sz h h' hp
 new:=λ o p b bo sz h1 h2=>by
  unfold kill at h1;by_cases h0:o∈ids<;>simp [h0] at h1;exact hR.new o p b bo sz h1 h2
 glob:=λ g cs h=>(hR.glob g cs h).mono (λ _ h=>.inl h) (λ _ _=>rfl)
 TT:=λ b h=>.inl (hR.TT b h)
 XE:=λ b h=>by
  rcases h with h | ⟨o',p',qA,sz',h4,h5,h6⟩
  ·exact hR.XE b h
  ·exact .inr (hR.new o' p' b qA sz' h5 h6)
 ZL:=λ o h=>by
  unfold kill;by_cases h0:o∈ids
  ·simp [h0]
  ·simpa [h0] using hR.ZL o h
 Dm:=hR.Dm
theorem eX.kill (hR:Rel cfg cx H D w I O) (ids:List Nat) {v:AV} {x:Value} (h:eX w I O D v x):eX w (λ b=>I b∨EZ O ids b) (kill O ids) D v x:=
 h.mono (λ _ h=>.inl h) (λ _ _=>rfl) (λ o _=>by unfold Ab.kill; by_cases h0:o∈ids<;>simp [h0]) (λ _ h=>h) hR.used
theorem EZ.agD {ids anm:List Nat} {b:Nat} (h:EZ O ids b):EZ O (ids++anm) b:=by
 obtain ⟨o,p,bo,sz,h1,h2,h3⟩:=h;exact ⟨o,p,bo,sz,List.mem_append_left _ h1,h2,h3⟩
theorem EZ.agE {ids anm:List Nat} {b:Nat} (h:EZ O anm b):EZ O (ids++anm) b:=by
 obtain ⟨o,p,bo,sz,h1,h2,h3⟩:=h;exact ⟨o,p,bo,sz,List.mem_append_right _ h1,h2,h3⟩
theorem Hz (i j:Nat) (g:Nat→AV):rP i g j=g (i+j):=by cases i<;>simp [rP]
theorem HV (hR:Rel cfg cx H D w I O):∀f:Nat,
  (∀(v:AV) (k:AV→List Nat→Pg) (v':AV) (ups:lK) (r:List Nat),fQ Sp H (pur f v k) v' ups r→∃u ids r',fQ Sp H (k u ids) v' ups r'∧
    ∀x,eX w I O D v x→iK w (λ b=>I b∨EZ O ids b) u x)∧
  (∀(l:List AV) (k:List AV→List Nat→Pg) (v':AV) (ups:lK) (r:List Nat),fQ Sp H (pur.agr f l k) v' ups r→∃l' ids r',fQ Sp H (k l' ids) v' ups r'∧l'.length=l.length∧
    ∀j,j<l.length→∀x,eX w I O D (nth l j) x→iK w (λ b=>I b∨EZ O ids b) (nth l' j) x):=by
 intro f;induction f with
 | zero=>exact ⟨λ v k v' ups r h=>(fQ.aY h).elim,λ l k v' ups r h=>(fQ.aY h).elim⟩
 | succ f ih=>
  obtain ⟨ih1,ih2⟩:=ih;refine ⟨λ v k v' ups r h=>?_,λ l k v' ups r h=>?_⟩
  ·cases v with
   | eF ob i n full=>
    simp only [pur] at h;obtain ⟨obj,r',oh,h1⟩:=h.oI;obtain ⟨p,hp,hO⟩:=hR.live oh;cases obj with
    | map=>exact (fQ.aY h1).elim
    | box cs=>exact (fQ.aY h1).elim
    | row es m g=>
     refine ⟨_,[ob],r',h1,λ x hx=>?_⟩;obtain ⟨aa,cap,rfl,h2,h3,h4,h5⟩:=hx.nK hp;obtain ⟨hn,hes,hlen,h6⟩:=hO;by_cases hn0:n=0
     ·subst hn0;exact .sl 0 0 (λ _ _=>Go.undef) h3 h4 (λ e=>absurd rfl e) (λ i hi=>absurd hi om) (λ i j hi=>absurd hi om) (λ i j hi=>absurd hi om) (λ i j hi=>absurd hi om)
     ·obtain ⟨b,bo,sz,h7,rfl,h8⟩:=h5 om;rcases h6 with ⟨_,h6⟩ | ⟨b',qA,sz',h6,hal,hle,hcs⟩
      ·rw [h7] at h6; cases h6
      ·rw [h7] at h6;cases h6;subst hn;have hmul:∀k,k<n→(i+k+1)*es≤p.n*es:=λ k hk=>Nat.mul_le_mul_right _ om;refine .sl b (bo+i*p.es) (λ k j=>cellAt w b (bo+((i+k)*es+j))) h3 h4 (λ _=>⟨rfl,.inr ⟨ob,p,bo,sz,by simp,hp,h7⟩⟩) (λ k hk=>by rw [Hz]; exact hlen _ om) (λ k j hk hj=>?_) (λ k j hk hj=>(hcs (i+k) j om hj).2) (λ k j hk hj=>?_)
       ·have e:bo+i*p.es+(k*es+j)=bo+((i+k)*es+j):=by rw [hes,Nat.add_mul]; omega
        rw [e];refine wo hal ?_;have:=hmul k hk;rw [Nat.succ_mul] at this;omega
       ·rw [Hz];exact (hcs (i+k) j om hj).1.mono (λ _ h=>.inl h) (λ _ _=>rfl)
   | ptr ob i off=>
    cases i with
    | succ i=>simp only [pur] at h; exact (fQ.aY h).elim
    | zero=>
     simp only [pur] at h;obtain ⟨obj,r',oh,h1⟩:=h.oI;obtain ⟨p,hp,hO⟩:=hR.live oh;cases obj with
     | map=>exact (fQ.aY h1).elim
     | row es m g=>exact (fQ.aY h1).elim
     | box cs=>
      obtain ⟨l',ids,r'',h2,h3,h4⟩:=ih2 _ _ _ _ _ h1;refine ⟨_,_,r'',h2,λ x hx=>?_⟩;obtain ⟨b,bo,sz,h5,h6,rfl⟩:=hx.pJ hp;obtain ⟨hn,b',qA,sz',h7,hal,hle,hcs⟩:=hO;rw [h5] at h7;cases h7;simp only [Nat.zero_mul,Nat.zero_add];refine .ro b (bo+off) (λ j=>cellAt w b (bo+(off+j))) (.inr ⟨ob,p,bo,sz,by simp,hp,h5⟩) (λ j hj=>?_) (λ j hj=>?_)
      ·rw [Nat.add_assoc];refine wo hal ?_;rw [h3] at hj;simp at hj;omega
      ·rw [h3] at hj;refine (h4 j hj _ (by rw [Nr]; exact hcs (off+j) (by simp at hj; omega))).mono (λ b h=>?_) (λ _ _=>rfl);rcases h with h | ⟨o',p',qA,sz',q1,q2,q3⟩
       ·exact .inl h
       ·exact .inr ⟨o',p',qA,sz',List.mem_cons_of_mem _ q1,q2,q3⟩
   | agg cs=>
    simp only [pur] at h;obtain ⟨l',ids,r'',h2,h3,h4⟩:=ih2 _ _ _ _ _ h;refine ⟨_,_,r'',h2,λ x hx=>?_⟩;obtain ⟨vs,rfl,hl,hr⟩:=hx.wZ;exact .agg om λ j hj=>h4 j om _ (hr j om)
   | kH cs=>
    simp only [pur] at h;obtain ⟨l',ids,r'',h2,h3,h4⟩:=ih2 _ _ _ _ _ h;refine ⟨_,_,r'',h2,λ x hx=>?_⟩;obtain ⟨vs,rfl,hl,hr⟩:=hx.JN;exact .kH om λ j hj=>h4 j om _ (hr j om)
   | fn g cs=>
    simp only [pur] at h;obtain ⟨l',ids,r'',h2,h3,h4⟩:=ih2 _ _ _ _ _ h;refine ⟨_,_,r'',h2,λ x hx=>?_⟩;obtain ⟨vs,rfl,hl,hr⟩:=hx.Nq;exact .fn om λ j hj=>h4 j om _ (hr j om)
   | mref ob=>simp only [pur] at h; exact (fQ.aY h).elim
   | _=>
    refine ⟨_,[],r,h,λ x hx=>?_⟩;cases hx with | pure hx=>exact hx.mono (λ _ h=>.inl h) (λ _ _=>rfl)
  ·cases l with
   | nil=>exact ⟨[],[],r,h,rfl,λ j hj=>by cases hj⟩
   | cons v l=>
    simp only [pur.agr] at h;obtain ⟨u,i1,r1,h1,h2⟩:=ih1 _ _ _ _ _ h;obtain ⟨l',i2,r2,h3,h4,h5⟩:=ih2 _ _ _ _ _ h1;refine ⟨u::l',i1++i2,r2,h3,by simp [h4],λ j hj x hx=>?_⟩;cases j with
    | zero=>exact (h2 x hx).mono (λ b h=>h.elim .inl λ h=>.inr h.agD) (λ _ _=>rfl)
    | succ j=>exact (h5 j (by simpa using hj) x hx).mono (λ b h=>h.elim .inl λ h=>.inr h.agE) (λ _ _=>rfl)
end
end Go.Ab

/- An abstract machine over the model's code, that it is sound; models of the functions and their proofs. -/
import Derived.Orders
import Derived.Laws.IdiomCopy
import Derived.Laws.Cells
import Derived.Laws.Sem
import Derived.Deep.MidRow
import Derived.Laws.StructEq
import Derived.ChangeKeysEq
import Derived.IntWalk
set_option linter.unusedVariables false
set_option linter.unusedSimpArgs false

namespace Go.Ab
theorem om {p : Prop} (h : p := by omega) : p := h
inductive AV where
 | undef
 | bool (b:Bool)
 | int (k:IntKind) (n:Int)
 | str (s:ByteArray)
 | sl (es n:Nat) (full:Bool) (g:Nat→AV)
 | ro (cs:List AV)
 | agg (cs:List AV)
 | ptr (o i off:Nat)
 | dh (o i n:Nat) (full:Bool)
 | fn (f:FuncId) (caps:List AV)
 | jX (vs:List AV)
 | zm
 | mref (o:Nat)
inductive ZK where
 | bool | int (k:IntKind) | str | slice | ptr | other
 deriving DecidableEq
inductive TD where
 | bool | int (k:IntKind) | str | slice (e:TypeId) | struct (fs:List (Nat×Nat)) | pointer (e:TypeId) | map (k e:TypeId) | array (n:Nat) (e:TypeId) | other
 deriving DecidableEq
inductive mo where
 | s (b:ByteArray)
 | i (n:Int)
 deriving DecidableEq
inductive cB where
 | box (cs:List AV)
 | row (es n:Nat) (g:Nat→AV)
 | map (kd:TD) (z:List ZK) (f:mo→Option Int)
structure Jf where
 size:Nat
 agg:Bool
 bytes:Nat
 zero:List ZK
 desc:TD
 deriving DecidableEq
structure FnI where
 muts:List Nat:=[]
 frz:Bool:=false
structure rU where
 ty:List (Nat×Jf)
 eqs:List (Nat×List ZK):=[]
 fns:List (Nat×FnI)
 glob:List (Nat×List AV)
def look {α:Type}:List (Nat×α)→Nat→Option α
 | [],_=>none
 | (k,v)::l,t=>match Nat.beq k t with | true=>some v | false=>look l t
def tget (T:List (Nat×AV)) (t:Nat):AV:=
 match look T t with | some v=>v | none=>.undef
def hget (H:List (Nat×Option cB)) (o:Nat):Option cB:=
 match look H o with | some (some x)=>some x | _=>none
abbrev jh:=List (Nat×Option cB)
inductive Pg where
 | ret (v:AV) (ups:jh)
 | need (p:Prop) [d:Decidable p] (k:Pg)
 | rd (o:Nat) (k:cB→Pg)
 | call (f:FuncId) (args:List AV) (obs:List cB) (k:AV→List cB→Pg)
 | fail
def stride:Nat:=8
def dL:Nat→AV:=fun _=>.undef
def ofConst:Value→AV
 | .bool b=>.bool b
 | .int k n=>.int k n
 | .string s=>.str s
 | .slice none 0 0=>.sl 0 0 true dL
 | .pointer none=>.zm
 | _=>.undef
def ofZ:ZK→AV
 | .bool=>.bool false
 | .int k=>.int k 0
 | .str=>.str ByteArray.empty
 | .slice=>.sl 0 0 true dL
 | .ptr=>.zm
 | .other=>.undef
def uE:List ZK→List AV
 | []=>[]
 | z::l=>ofZ z::uE l
def AV.cells:AV→List AV
 | .agg cs=>cs
 | v=>[v]
def nth:List AV→Nat→AV
 | [],_=>.undef
 | v::_,0=>v
 | _::l,n+1=>nth l n
def AY:Nat→List AV→List AV→List AV
 | _,[],l=>l
 | 0,v::new,_::l=>v::AY 0 new l
 | n+1,new,x::l=>x::AY n new l
 | _,_,[]=>[]
def Pq:AV→Bool
 | .undef | .agg _ | .jX _=>false
 | _=>true
def Cx:List AV→Bool
 | []=>true
 | v::l=>match Pq v with | true=>Cx l | false=>false
def Fg (v:AV) (k:List AV→Pg):Pg:=
 match v.cells with
 | cs=>match Cx cs with | true=>k cs | false=>.fail
def dZ (b:Bool) (k:Pg):Pg:=match b with | true=>k | false=>.fail
def Fh:List AV→(List AV→Prop)→Prop
 | [],K=>K []
 | v::l,K=>Fh l (fun l'=>
  match v with
  | .undef=>K (.undef::l') | .bool b=>K (.bool b::l') | .int k n=>K (.int k n::l') | .str s=>K (.str s::l')
  | .sl es n f g=>K (.sl es n f g::l') | .ro cs=>K (.ro cs::l') | .agg cs=>K (.agg cs::l') | .ptr o i off=>K (.ptr o i off::l')
  | .dh o i n f=>K (.dh o i n f::l') | .fn f caps=>K (.fn f caps::l') | .jX vs=>K (.jX vs::l') | .zm=>K (.zm::l') | .mref o=>K (.mref o::l'))
def force (v:AV) (K:AV→Prop):Prop:=
 match v with
 | .undef=>K .undef | .bool b=>K (.bool b) | .int k n=>K (.int k n) | .str s=>K (.str s)
 | .sl es n f g=>K (.sl es n f g)
 | .ro cs=>Fh cs fun cs'=>K (.ro cs')
 | .agg cs=>Fh cs fun cs'=>K (.agg cs')
 | .ptr o i off=>K (.ptr o i off) | .dh o i n f=>K (.dh o i n f)
 | .fn f caps=>Fh caps fun cs'=>K (.fn f cs')
 | .jX vs=>Fh vs fun cs'=>K (.jX cs')
 | .zm=>K .zm
 | .mref o=>K (.mref o)
def xV:jh→(jh→Prop)→Prop
 | [],K=>K []
 | (o,none)::l,K=>xV l fun l'=>K ((o,none)::l')
 | (o,some (.row es n g))::l,K=>xV l fun l'=>K ((o,some (.row es n g))::l')
 | (o,some (.map kd z f))::l,K=>xV l fun l'=>K ((o,some (.map kd z f))::l')
 | (o,some (.box cs))::l,K=>Fh cs fun cs'=>xV l fun l'=>K ((o,some (.box cs'))::l')
def InI64 (n:Int):Prop := -9223372036854775808≤n∧n≤9223372036854775807
instance (n:Int):Decidable (InI64 n):=inferInstanceAs (Decidable (_∧_))
def addN:Nat→Nat→Nat
 | 0,k=>k
 | n+1,k=>n+1+k
def mq (i:Nat) (g:Nat→AV):Nat→AV:=match i with | 0=>g | n+1=>fun j=>g (n+1+j)
def Ny (l:List AV):Nat→AV:=fun i=>nth l i
def appG (n:Nat) (g h:Nat→AV):Nat→AV:=fun j=>bif Nat.blt j n then g j else h (j - n)
def UC (g:Nat→AV) (i:Nat) (v:AV):Nat→AV:=fun j=>bif Nat.beq j i then v else g j
def Sl:Nat→AV→(AV→List Nat→Pg)→Pg
 | 0,_,_=>.fail
 | _+1,.dh o i n full,k=>.rd o fun
  | .row es _ g=>k (.sl es n full (mq i g)) [o]
  | _=>.fail
 | f+1,.ptr o i off,k=>match i with
  | 0=>.rd o fun
   | .box cs=>purL f (cs.drop off) fun cs' ids=>k (.ro cs') (o::ids)
   | _=>.fail
  | _+1=>.fail
 | f+1,.agg cs,k=>purL f cs fun cs' ids=>k (.agg cs') ids
 | f+1,.jX cs,k=>purL f cs fun cs' ids=>k (.jX cs') ids
 | f+1,.fn fn cs,k=>purL f cs fun cs' ids=>k (.fn fn cs') ids
 | _+1,.mref _,_=>.fail
 | _+1,v,k=>k v []
 where purL:Nat→List AV→(List AV→List Nat→Pg)→Pg
 | 0,_,_=>.fail
 | _+1,[],k=>k [] []
 | f+1,v::l,k=>Sl f v fun v' i1=>purL f l fun l' i2=>k (v'::l') (i1++i2)
def fuel:Nat:=100
def dead:List Nat→jh
 | []=>[]
 | o::l=>(o,none)::dead l
def kF (p:Prop) [Decidable p] (v:AV):Pg:=.need p (.ret v [])
def iJ (v:AV):Pg:=.ret v []
def vD (ti:Jf) (cs:List AV):Pg:=
 match ti.agg with
 | true=>dZ (Nat.ble ti.size cs.length) (iJ (.agg (cs.take ti.size)))
 | false=>match cs with
  | v::_=>iJ v
  | []=>.fail
def arith (op:BinOp) (a b:Int):Pg:=
 match op with
 | .add=>kF (InI64 (a+b)) (.int .i64 (a+b))
 | .sub=>kF (InI64 (a - b)) (.int .i64 (a - b))
 | .mul=>kF (InI64 (a*b)) (.int .i64 (a*b))
 | .quo=>kF (b≠0∧InI64 (a.tdiv b)) (.int .i64 (a.tdiv b))
 | .rem=>kF (b≠0) (.int .i64 (a.tmod b))
 | _=>.fail
def aev (op:BinOp) (a b:Int):Pg:=
 match op with
 | .eql=>iJ (.bool (a==b))
 | .neq=>iJ (.bool (a != b))
 | .lss=>iJ (.bool (decide (a<b)))
 | .leq=>iJ (.bool (decide (a≤b)))
 | .gtr=>iJ (.bool (decide (b<a)))
 | .geq=>iJ (.bool (decide (b≤a)))
 | _=>.fail
def KA:BinOp→Bool
 | .add | .sub | .mul | .quo | .rem=>true
 | _=>false
def ZV (k:IntKind) (op:BinOp) (a b:Int):Pg:=
 match op with
 | .add=>iJ (.int k (k.wrap (a+b)))
 | .sub=>iJ (.int k (k.wrap (a - b)))
 | .mul=>iJ (.int k (k.wrap (a*b)))
 | _=>.fail
def aew (k:IntKind) (a b:Int):Int:=k.wrap (BitVec.ofInt k.bits a &&& BitVec.ofInt k.bits b).toNat
def aex (k:IntKind) (a b:Int):Int:=a.fdiv (2 ^ min b.toNat k.bits)
def sK (a b:IntKind):Bool:=decide (a=b)
def Mc:List ZK→List AV→List AV→Option Bool
 | [],[],[]=>some true
 | .int k::zs,.int k1 a::l,.int k2 b::m=>match sK k k1,sK k k2,Mc zs l m with
  | true,true,some r=>some ((a==b)&&r)
  | _,_,_=>none
 | .bool::zs,.bool a::l,.bool b::m=>match Mc zs l m with
  | some r=>some ((a==b)&&r)
  | none=>none
 | .str::zs,.str a::l,.str b::m=>match Mc zs l m with
  | some r=>some ((a.toList==b.toList)&&r)
  | none=>none
 | _,_,_=>none
def adn (op:BinOp) (a b:ByteArray):Pg:=
 match op with
 | .add=>kF (a.size+b.size≤9223372036854775807) (.str (a++b))
 | .eql=>iJ (.bool (a.toList==b.toList))
 | .neq=>iJ (.bool (!(a.toList==b.toList)))
 | .lss=>iJ (.bool (Op.bytesLess a.toList b.toList))
 | .leq=>iJ (.bool (Op.bytesLess a.toList b.toList||a.toList==b.toList))
 | .gtr=>iJ (.bool (!(Op.bytesLess a.toList b.toList||a.toList==b.toList)))
 | .geq=>iJ (.bool (!Op.bytesLess a.toList b.toList))
 | _=>.fail
def Wx (c:AV) (ea eb:Operand) (a b:AV):Pg:=
 match c with
 | .bool c=>match ea,eb,a,b with
  | _,.const (.bool false),.bool x,_=>iJ (.bool (c&&x))
  | .const (.bool true),_,_,.bool y=>iJ (.bool (c||y))
  | _,_,.bool x,.bool y=>iJ (.bool (bif c then x else y))
  | _,_,.undef,y=>kF (c=false) y
  | _,_,x,.undef=>kF (c=true) x
  | _,_,_,_=>.fail
 | _=>.fail
section ops
variable (cfg:rU)
def Oc (t:TypeId) (k:Jf→Pg):Pg:=match look cfg.ty t with | some i=>k i | none=>.fail
def zy (t:TypeId) (k:Jf→Pg):Pg:=match look cfg.ty t with
 | some i=>match i.desc with
  | .slice e=>Oc cfg e k
  | _=>.fail
 | none=>.fail
def ZW (op:BinOp) (t:TypeId) (x y:AV):Pg:=
 match x,y with
 | .int k a,.int k' b=>dZ (sK k k') (match KA op with
  | true=>match sK k .i64 with
   | true=>arith op a b
   | false=>ZV k op a b
  | false=>match op with
   | .and=>iJ (.int k (aew k a b))
   | .shr=>kF (0≤b) (.int k (aex k a b))
   | _=>aev op a b)
 | .bool a,.bool b=>Oc cfg t fun ti=>match ti.desc,op with
  | .bool,.eql=>iJ (.bool (a==b))
  | .bool,.neq=>iJ (.bool (!(a==b)))
  | _,_=>.fail
 | .str a,.str b=>adn op a b
 | .agg cs,.agg cs'=>match look cfg.eqs t with
  | some zs=>match Mc zs cs cs',op with
   | some r,.eql=>iJ (.bool r)
   | some r,.neq=>iJ (.bool (!r))
   | _,_=>.fail
  | none=>.fail
 | _,_=>.fail
def Od:List (Nat×Nat)→Nat→Option (Nat×Nat)
 | [],_=>none
 | x::_,0=>some x
 | _::l,n+1=>Od l n
def H8 (ti:Jf) (f:Nat):Option (Nat×Nat):=match ti.desc with
 | .struct fs=>Od fs f
 | _=>none
def UD (fs:List (Nat×Nat)):List (Nat×AV)→List AV→(List AV→Pg)→Pg
 | [],cs,k=>k cs
 | (i,v)::rest,cs,k=>match Od fs i with
  | some (off,t)=>Oc cfg t fun ti=>Fg v fun vs=>dZ (Nat.beq vs.length ti.size) (dZ (Nat.ble (off+vs.length) cs.length) (UD fs rest (AY off vs cs) k))
  | none=>.fail
def Ai:Nat→AV→List AV→List AV
 | _,_,[]=>[]
 | 0,v,_::l=>v::l
 | n+1,v,x::l=>x::Ai n v l
def XU (size:Nat) (agg:Bool):List (Nat×AV)→List AV→(List AV→Pg)→Pg
 | [],es,k=>k es
 | (i,v)::rest,es,k=>dZ (match agg,v with | true,.agg _=>true | true,_=>false | false,.agg _=>false | false,_=>true)
  (Fg v fun vs=>dZ (Nat.beq vs.length size) (dZ (Nat.blt i es.length) (XU size agg rest (Ai i v es) k)))
def zeroOf (ti:Jf):AV:=match ti.agg with
 | true=>.agg (uE ti.zero)
 | false=>nth (uE ti.zero) 0
def zok (ti:Jf):Bool:=match Nat.blt 0 ti.size with
 | true=>match ti.agg with
  | true=>true
  | false=>Nat.beq ti.size 1
 | false=>false
def Yx:Nat→AV→List AV
 | 0,_=>[]
 | n+1,z=>z::Yx n z
def KC:List (Nat×AV)→(List (Nat×AV)→List Nat→Pg)→Pg
 | [],k=>k [] []
 | (i,v)::l,k=>Sl fuel v fun v' i1=>KC l fun l' i2=>k ((i,v')::l') (i1++i2)
def OV (x:AV) (lo hi:Option AV) (hasMax full3:Bool):Pg:=
 match lo,hi with
 | none,none=>dZ (!hasMax) (match x with
  | .sl es n full g=>iJ (.sl es n full g)
  | .dh o i n full=>iJ (.dh o i n full)
  | _=>.fail)
 | none,some (.int _ h)=>dZ (!hasMax||full3) (match x with
  | .sl es n _ g=>kF (0≤h∧h≤n) (.sl es h.toNat full3 g)
  | .dh o i n _=>kF (0≤h∧h≤n) (.dh o i h.toNat full3)
  | _=>.fail)
 | some (.int _ l),none=>dZ (!hasMax) (match x with
  | .sl es n full g=>kF (0≤l∧l≤n) (.sl es (n - l.toNat) full (fun j=>g (l.toNat+j)))
  | .dh o i n full=>kF (0≤l∧l≤n) (.dh o (i+l.toNat) (n - l.toNat) full)
  | _=>.fail)
 | some (.int _ l),some (.int _ h)=>dZ (!hasMax||full3) (match x with
  | .sl es n _ g=>kF (0≤l∧l≤h∧h≤n) (.sl es (h.toNat - l.toNat) full3 (fun j=>g (l.toNat+j)))
  | .dh o i n _=>kF (0≤l∧l≤h∧h≤n) (.dh o (i+l.toNat) (h.toNat - l.toNat) full3)
  | _=>.fail)
 | _,_=>.fail
def Fj:Option Operand→Option Operand→Bool
 | some (.tmp a),some (.tmp b)=>Nat.beq a b
 | _,_=>false
def Yy (ρ:Operand→AV) (hi mx:Option Operand) (k:Pg):Pg:=
 match mx with
 | none=>k
 | some m=>match hi with
  | none=>.fail
  | some h=>match ρ h,ρ m with
   | .int kk a,.int kk' b=>dZ (sK kk kk') (.need (a=b) k)
   | _,_=>.fail
def Nz (x:AV) (k:Nat→Nat→(Nat→AV)→Pg):Pg:=
 match x with
 | .sl es n _ g=>k es n g
 | .dh o i n _=>.rd o fun
  | .row es _ g=>k es n (mq i g)
  | _=>.fail
 | _=>.fail
def Tn:Nat→Bool
 | 0=>true
 | _+1=>false
def JQ (es n size:Nat):Bool:=match Nat.beq es size with | true=>true | false=>Tn n
def big:Nat:=140737488355328
def Yz (i k:Nat) (g h:Nat→AV):Nat→AV:=fun j=>bif Nat.ble i j&&Nat.blt j (i+k) then h (j - i) else g j
def Tq (ti:Jf) (d s:AV):Pg:=
 Nz s fun es' m h=>dZ (JQ es' m ti.size) (
 match d with
 | .dh o i n _=>.rd o fun
  | .row es N g=>dZ (Nat.beq es ti.size) (.need (i+n+m≤N) (.ret (.dh o i (n+m) false) [(o,some (.row es N (Yz (i+n) m g h)))]))
  | _=>.fail
 | _=>.fail)
def isSelf:AV→AV→Bool
 | .dh o _ _ _,.dh o' _ _ _=>Nat.beq o o'
 | _,_=>false
def ZX (o i n N:Nat) (f:Bool) (lo hi mx:Option AV):Pg:=match mx with
 | some (.int _ m)=>match lo,hi with
  | some (.int _ l),some (.int _ h)=>kF (0≤l∧l≤h∧h≤m∧m≤n) .undef
  | _,_=>.fail
 | some _=>.fail
 | none=>match lo,hi with
  | none,none=>iJ (.dh o i n f)
  | none,some (.int _ h)=>kF (0≤h∧(i:Int)+h≤N) (.dh o i h.toNat false)
  | some (.int _ l),none=>kF (0≤l∧l≤n) (.dh o (i+l.toNat) (n - l.toNat) f)
  | some (.int _ l),some (.int _ h)=>kF (0≤l∧l≤h∧(i:Int)+h≤N) (.dh o (i+l.toNat) (h.toNat - l.toNat) false)
  | _,_=>.fail
def UE (ti:Jf) (nid:Nat) (d s:AV):Pg:=
 Nz s fun es' m h=>dZ (JQ es' m ti.size) (
 match d with
 | .sl es n full g=>dZ full (match es with
  | 0=>dZ (Tn n) (.need (m*ti.bytes≤big) (.ret (.dh nid 0 m false) [(nid,some (.row ti.size m h))]))
  | es1+1=>dZ (JQ (es1+1) n ti.size) (kF ((n+m)*ti.bytes≤big) (.sl ti.size (n+m) false (appG n g h))))
 | .dh o i n _=>.rd o fun
  | .row es _ g=>dZ (Nat.beq es ti.size) (.need ((n+m)*ti.bytes≤big) (.ret (.dh nid 0 (n+m) false) [(nid,some (.row es (n+m) (appG n (mq i g) h))),(o,none)]))
  | _=>.fail
 | _=>.fail)
def ZY (ti:Jf) (d s:AV):Pg:=
 Nz s fun es' m h=>dZ (JQ es' m ti.size) (
 match d with
 | .dh o i n _=>.rd o fun
  | .row es N g=>dZ (Nat.beq es ti.size) (.ret (.int .i64 (Nat.min m n:Nat)) [(o,some (.row es N (Yz i (Nat.min m n) g h)))])
  | _=>.fail
 | _=>.fail)
def vE:List Nat→Nat→Nat→Option Nat
 | [],_,_=>none
 | a::l,o,j=>match Nat.beq a o with | true=>some j | false=>vE l o (j+1)
def lY:AV→Bool
 | .undef | .bool _ | .int .. | .str _ | .sl .. | .ro _ | .zm=>true
 | _=>false
def afi:AV→List Nat
 | .ptr o _ _=>[o]
 | .dh o _ _ _=>[o]
 | _=>[]
def UF:List AV→List Nat
 | []=>[]
 | v::l=>afi v++UF l
def ado (sg:List Nat):List Nat→Bool
 | []=>false
 | o::_=>match vE sg o 0 with
  | some _=>true
  | none=>false
def Z0 (sg:List Nat) (v:AV) (k:AV→Pg):Pg:=match v with
 | .ptr o i off=>match vE sg o 0 with
  | some j=>k (.ptr j i off)
  | none=>.fail
 | .dh o i n f=>match vE sg o 0 with
  | some j=>k (.dh j i n f)
  | none=>.fail
 | v=>dZ (lY v) (k v)
def YA (sg:List Nat):List AV→(List AV→Pg)→Pg
 | [],k=>k []
 | v::l,k=>Z0 sg v fun v'=>YA sg l fun l'=>k (v'::l')
def H9 (sg:List Nat) (v:AV) (k:AV→List Nat→Pg):Pg:=
 match v with
 | .ptr o i off=>match vE sg o 0 with
  | some j=>k (.ptr j i off) []
  | none=>Sl fuel (.ptr o i off) k
 | .dh o i n full=>match vE sg o 0 with
  | some j=>k (.dh j i n full) []
  | none=>Sl fuel (.dh o i n full) k
 | .fn f cs=>match ado sg (UF cs) with
  | true=>YA sg cs fun cs'=>k (.fn f cs') []
  | false=>Sl fuel (.fn f cs) k
 | v=>Sl fuel v k
def AZ (sg:List Nat):List AV→(List AV→List Nat→Pg)→Pg
 | [],k=>k [] []
 | v::l,k=>H9 sg v fun v' i1=>AZ sg l fun l' i2=>k (v'::l') (i1++i2)
def XV:List Nat→(List cB→Pg)→Pg
 | [],k=>k []
 | o::l,k=>.rd o fun ob=>XV l fun obs=>k (ob::obs)
def sigma (args:List AV):List Nat→List Nat
 | []=>[]
 | p::l=>match nth args p with
  | .ptr o _ _=>o::sigma args l
  | .dh o _ _ _=>o::sigma args l
  | .fn _ cs=>UF cs++sigma args l
  | _=>sigma args l
def wK:Nat→List Nat→Bool
 | _,[]=>false
 | a,b::l=>match Nat.beq a b with | true=>true | false=>wK a l
def lD:List Nat→Bool
 | []=>true
 | a::l=>match wK a l with | true=>false | false=>lD l
def Pt:AV→Bool
 | .bool _ | .int .. | .str _=>true
 | _=>false
def Tt:List AV→Bool
 | []=>true
 | v::l=>match Pt v with | true=>Tt l | false=>false
def Pv:AV→Bool
 | .agg vs=>Tt vs
 | v=>Pt v
def Tv:List AV→Bool
 | []=>true
 | v::l=>match Pv v with | true=>Tv l | false=>false
def Z4:AV→Bool
 | .jX vs=>Tv vs
 | v=>Pv v
def nthN:List Nat→Nat→Nat
 | [],_=>0
 | a::_,0=>a
 | _::l,n+1=>nthN l n
def Fp:cB→Bool
 | .map .other [] _=>true
 | _=>false
def adp:cB:=.map .other [] fun _=>none
def gz (x:cB):Option cB:=match Fp x with
 | true=>none
 | false=>some x
def xW:List Nat→List cB→jh
 | o::l,x::m=>(o,gz x)::xW l m
 | _,_=>[]
def ab1 (f:FuncId):FnI:=match look cfg.fns f with | some i=>i | none=>{}
def sM:List AV→Bool
 | []=>true
 | v::l=>match lY v with | true=>sM l | false=>false
def OW:cB→Bool
 | .box cs=>sM cs
 | .row .. => true
 | .map .. => false
def aey:AV→Bool
 | .agg vs=>sM vs
 | v=>lY v
def Fq:List Nat→List Nat→Bool
 | [],_=>true
 | x::l,m=>match wK x m with | true=>false | false=>Fq l m
def aez:AV→List Nat
 | .ptr o _ _=>[o]
 | .dh o _ _ _=>[o]
 | .fn _ cs=>UF cs
 | _=>[]
def adq:List AV→List Nat
 | []=>[]
 | v::l=>aez v++adq l
def aeA:cB→List Nat
 | .box cs=>adq cs
 | _=>[]
def Pw:Nat→List Nat→List Nat→(List Nat→Pg)→Pg
 | 0,_,_,_=>.fail
 | _+1,[],sg,k=>k sg
 | f+1,o::todo,sg,k=>match wK o sg with
  | true=>Pw f todo sg k
  | false=>.rd o fun ob=>Pw f (todo++aeA ob) (sg++[o]) k
def inv1 (sg:List Nat) (v:AV) (k:AV→Pg):Pg:=match v with
 | .ptr o i off=>match vE sg o 0 with
  | some j=>k (.ptr j i off)
  | none=>.fail
 | .dh o i n f=>match vE sg o 0 with
  | some j=>k (.dh j i n f)
  | none=>.fail
 | .fn f cs=>YA sg cs fun cs'=>k (.fn f cs')
 | v=>dZ (lY v) (k v)
def ab2 (sg:List Nat):List AV→(List AV→Pg)→Pg
 | [],k=>k []
 | v::l,k=>inv1 sg v fun v'=>ab2 sg l fun l'=>k (v'::l')
def aeB (sg:List Nat) (x:cB) (k:cB→Pg):Pg:=match x with
 | .box cs=>ab2 sg cs fun cs'=>k (.box cs')
 | .row es n g=>k (.row es n g)
 | .map .. => .fail
def XW (sg:List Nat):List cB→(List cB→Pg)→Pg
 | [],k=>k []
 | x::l,k=>aeB sg x fun x'=>XW sg l fun l'=>k (x'::l')
def UG (sg:List Nat):AV→AV
 | .ptr j i off=>.ptr (nthN sg j) i off
 | .dh j i n full=>.dh (nthN sg j) i n full
 | v=>v
def Z5 (sg:List Nat):List AV→List AV
 | []=>[]
 | v::l=>UG sg v::Z5 sg l
def Fu (sg:List Nat):AV→AV
 | .ptr j i off=>.ptr (nthN sg j) i off
 | .dh j i n full=>.dh (nthN sg j) i n full
 | .fn f cs=>.fn f (Z5 sg cs)
 | v=>v
def YB (sg:List Nat):List AV→List AV
 | []=>[]
 | v::l=>Fu sg v::YB sg l
def Fv (sg:List Nat):AV→AV
 | .agg cs=>.agg (YB sg cs)
 | v=>Fu sg v
def UH (sg:List Nat):List AV→List AV
 | []=>[]
 | v::l=>Fv sg v::UH sg l
def ab3 (sg:List Nat):AV→AV
 | .jX vs=>.jX (UH sg vs)
 | v=>Fv sg v
def Rm (sg:List Nat):cB→cB
 | .box cs=>.box (YB sg cs)
 | .row es n g=>.row es n g
 | .map kd z f=>.map kd z f
def Px (sg:List Nat):List cB→List cB
 | []=>[]
 | x::l=>Rm sg x::Px sg l
def ab4:AV→Bool
 | .ptr .. | .dh .. => true
 | v=>lY v
def okA:List AV→Bool
 | []=>true
 | v::l=>match ab4 v with | true=>okA l | false=>false
def Z6:AV→Bool
 | .fn _ cs=>okA cs
 | .agg _ | .jX _ | .mref _=>false
 | _=>true
def Z7:List AV→Bool
 | []=>true
 | v::l=>match Z6 v with | true=>Z7 l | false=>false
def Z8:AV→Bool
 | .agg cs=>Z7 cs
 | v=>Z6 v
def XY:List AV→Bool
 | []=>true
 | v::l=>match Z8 v with | true=>XY l | false=>false
def aeC:AV→Bool
 | .jX vs=>XY vs
 | v=>Z8 v
def okCO:cB→Bool
 | .box cs=>Z7 cs
 | .row .. => true
 | .map kd z f=>Fp (.map kd z f)
def XZ:List cB→Bool
 | []=>true
 | x::l=>match okCO x with | true=>XZ l | false=>false
def iT:Nat→Nat→List Nat
 | 0,_=>[]
 | n+1,i=>i::iT n (i+1)
def OX (nid:Nat) (f:FuncId) (args:List AV) (sg0:List Nat):Pg:=
 Pw 40 sg0 [] fun sg=>dZ (lD sg) (XV sg fun obs=>XW sg obs fun obsV=>AZ sg args fun args' ids=>dZ (Fq ids sg)
  (.call f args' obsV fun r obs'=>dZ (XZ obs') (dZ (Nat.ble obs'.length (sg.length+stride)) (dZ (aeC r)
    (.ret (ab3 (sg++iT (obs'.length - sg.length) nid) r) (xW (sg++iT (obs'.length - sg.length) nid) (Px (sg++iT (obs'.length - sg.length) nid) obs')++dead ids))))))
def Z9 (nid:Nat) (f:FuncId) (args:List AV):Pg:=
 match sigma args (ab1 cfg f).muts with
 | []=>match (ab1 cfg f).frz with
  | false=>AZ [] args fun args' _=>.call f args' [] fun r obs'=>match obs' with
   | []=>dZ (Z4 r) (iJ r)
   | _::_=>.fail
  | true=>OX nid f args []
 | x::sg=>OX nid f args (x::sg)
def keyOf:AV→Option mo
 | .str b=>some (.s b)
 | .int .i64 n=>some (.i n)
 | _=>none
def aeD (z:List ZK) (n:Int):AV:=match z with
 | [.bool]=>.bool (n != 0)
 | [.int k]=>.int k n
 | _=>.undef
def adG (z:List ZK):AV→Option Int
 | .bool b=>match z with
  | [.bool]=>some (bif b then 1 else 0)
  | _=>none
 | .int k n=>match z with
  | [.int k']=>match decide (k=k') with
   | true=>some n
   | false=>none
  | _=>none
 | _=>none
def Tw:List ZK→Bool
 | [.bool]=>true
 | [.int _]=>true
 | _=>false
def wL (f:mo→Option Int) (k:mo):Int:=(f k).getD 0
def Me (f:mo→Option Int) (k:mo) (n:Int):mo→Option Int:=fun k'=>if k'=k then some n else f k'
def aac (t:TypeId) (k:Jf→Jf→Pg):Pg:=match look cfg.ty t with
 | some i=>match i.desc with
  | .map kt et=>Oc cfg kt fun ki=>Oc cfg et fun ei=>dZ (!ei.agg) (k ki ei)
  | _=>.fail
 | none=>.fail
def Cy (d:TD):mo→Bool
 | .s _=>match d with | .str=>true | _=>false
 | .i _=>match d with | .int .i64=>true | _=>false
def Py:TD→Option (Nat×TypeId)
 | .array n e=>some (n,e)
 | _=>none
def aad (t:TypeId):Option (Nat×TypeId):=match look cfg.ty t with
 | some i=>Py i.desc
 | none=>none
def X0 (et sz:Nat):Nat→Nat→List (Nat×Nat)
 | 0,_=>[]
 | n+1,k=>(k*sz,et)::X0 et sz n (k+1)
def aeE:AV→Bool
 | .bool b=>b
 | _=>false
def afj:AV→Int
 | .int _ n=>n
 | _=>0
def afk:AV→ByteArray
 | .str s=>s
 | _=>ByteArray.empty
def slN:AV→Nat
 | .sl _ n _ _=>n
 | _=>0
def slG:AV→Nat→AV
 | .sl _ _ _ g=>g
 | _=>fun _=>.undef
def esA:AV→Nat
 | .sl es _ _ _=>es
 | _=>0
def aae:List ZK→Nat→ZK
 | [],_=>.other
 | z::_,0=>z
 | _::l,n+1=>aae l n
def ab5 (z:ZK) (es:Nat) (c:AV):Bool:=match z,c with
 | .bool,.bool _=>true
 | .int k,.int k' _=>sK k k'
 | .str,.str _=>true
 | .slice,.sl es' n _ _=>match Nat.beq es' es with
  | true=>true
  | false=>Nat.beq n 0
 | _,_=>false
def adH (z:ZK) (es:Nat) (c:AV):AV:=match z with
 | .bool=>.bool (aeE c)
 | .int k=>.int k (afj c)
 | .str=>.str (afk c)
 | .slice=>.sl es (slN c) false (slG c)
 | _=>.undef
def Sm (sz j:Nat):Nat→List AV→Nat
 | _,[]=>0
 | k,c::cs=>match Nat.beq (Nat.mod k sz) j with
  | true=>(fun m=>match Nat.ble (esA c) m with | true=>m | false=>esA c) (Sm sz j (k+1) cs)
  | false=>Sm sz j (k+1) cs
def ab6 (zs:List ZK) (sz:Nat) (all:List AV):Nat→List AV→Bool
 | _,[]=>true
 | k,c::cs=>match ab5 (aae zs (Nat.mod k sz)) (Sm sz (Nat.mod k sz) 0 all) c with
  | true=>ab6 zs sz all (k+1) cs
  | false=>false
def UJ (all:List AV) (b sz:Nat):Nat→List ZK→List AV
 | _,[]=>[]
 | j,z::zs=>adH z (Sm sz j 0 all) (nth all (b+j))::UJ all b sz (j+1) zs
def aaf (ei:Jf) (n:Nat) (cs:List AV) (i:Int):Pg:=
 dZ (zok ei) (dZ (Nat.beq cs.length (n*ei.size)) (dZ (Nat.beq ei.zero.length ei.size) (dZ (ab6 ei.zero ei.size cs 0 cs) (kF (0≤i∧i<n) (match ei.agg with
  | true=>.agg (UJ cs (i.toNat*ei.size) ei.size 0 ei.zero)
  | false=>nth (UJ cs (i.toNat*ei.size) ei.size 0 ei.zero) 0)))))
def Wy:Nat→List ZK→List ZK
 | 0,_=>[]
 | n+1,z=>z++Wy n z
def gD:Nat→Nat→(Nat→AV)→List AV
 | 0,_,_=>[]
 | k+1,i,g=>(g i).cells++gD k (i+1) g
def adI:TD→Bool
 | .str=>true
 | _=>false
def adJ:AV→Bool
 | .int .u8 _=>true
 | _=>false
def u8D:TD→Bool
 | .int .u8=>true
 | _=>false
def Cz:Nat→Nat→(Nat→AV)→ByteArray→ByteArray
 | 0,_,_,s=>s
 | k+1,i,g,s=>Cz k (i+1) g (s.push (UInt8.ofNat (match g i with
  | .int _ n=>n.toNat
  | _=>0)))
def Tx (src:TypeId) (x:AV):Pg:=zy cfg src fun ei=>dZ (u8D ei.desc) (Nz x fun es n g=>dZ (JQ es n 1) (.need (∀i,i<n→adJ (g i)=true) (iJ (.str (Cz n 0 g ByteArray.empty)))))
def aag (o n:Nat) (lo hi:Option AV):Pg:=
 match lo,hi with
 | none,none=>iJ (.dh o 0 n true)
 | none,some (.int _ h)=>kF (0≤h∧h≤n) (.dh o 0 h.toNat false)
 | _,_=>.fail
def eO (b:ByteArray) (i:Nat):Int:=match b[i]? with
 | some x=>x.toNat
 | none=>0
def eP (nid:Nat) (op:Op) (ρ:Operand→AV):Pg:=
 match op with
 | .move x=>iJ (ρ x)
 | .assign x=>iJ (ρ x)
 | .pick c a b=>Wx (ρ c) a b (ρ a) (ρ b)
 | .alloc e=>Oc cfg e fun ti=>match Py ti.desc with
  | some (n,et)=>Oc cfg et fun ei=>dZ (zok ei) (dZ (Nat.blt 0 n) (dZ (decide (ti.zero=Wy n ei.zero)) (.ret (.ptr nid 0 0) [(nid,some (.row ei.size n (fun _=>zeroOf ei)))])))
  | none=>.ret (.ptr nid 0 0) [(nid,some (.box (uE ti.zero)))]
 | .box _ x=>Fg (ρ x) fun cs=>.ret (.ptr nid 0 0) [(nid,some (.box cs))]
 | .build t parts=>Oc cfg t fun ti=>match ti.desc with
  | .struct fs=>UD cfg fs (parts.toList.map fun p=>(p.1,ρ p.2)) (uE ti.zero) fun cs=>iJ (.agg cs)
  | .array n et=>Oc cfg et fun ei=>UD cfg (X0 et ei.size n 0) (parts.toList.map fun p=>(p.1,ρ p.2)) (uE ti.zero) fun cs=>iJ (.agg cs)
  | _=>.fail
 | .buildSlice t len parts=>zy cfg t fun ti=>dZ (zok ti) (dZ (Nat.ble (len*ti.size) 4096) (KC (parts.toList.map fun p=>(p.1,ρ p.2)) fun ps ids=>
   XU ti.size ti.agg ps (Yx len (zeroOf ti)) fun es=>
   .ret (.dh nid 0 len true) ((nid,some (.row ti.size len (Ny es)))::dead ids)))
 | .load t a=>Oc cfg t fun ti=>match ρ a with
  | .ptr o i off=>.rd o fun
   | .box cs=>vD ti (cs.drop off)
   | .row es n g=>match Py ti.desc with
    | some _=>dZ (Tn i&&Tn off) (vD ti (gD n 0 g))
    | none=>dZ (Nat.ble (off+ti.size) es) (vD ti ((g i).cells.drop off))
   | .map .. => .fail
  | .ro cs=>vD ti cs
  | _=>.fail
 | .store t a x=>Oc cfg t fun ti=>match ρ a with
  | .ptr o i off=>.rd o fun
   | .box cs=>Fg (ρ x) fun vs=>dZ (Nat.beq vs.length ti.size) (dZ (Nat.ble (off+vs.length) cs.length) (.ret .undef [(o,some (.box (AY off vs cs)))]))
   | .row es n g=>match Py ti.desc with
    | some _=>Sl fuel (ρ x) fun x' ids=>dZ (!wK o ids) (Fg x' fun vs=>dZ (Nat.beq vs.length ti.size) (dZ (Nat.beq es 1) (dZ (Nat.beq n ti.size) (dZ (Tn i&&Tn off) (.ret .undef ((o,some (.row 1 n (Ny vs)))::dead ids))))))
    | none=>Sl fuel (ρ x) fun x' ids=>dZ (!wK o ids) (Fg x' fun vs=>dZ (Nat.beq vs.length ti.size) (dZ (Nat.blt 0 ti.size) (dZ (Nat.ble (off+vs.length) es)
     (.ret .undef ((o,some (.row es n (UC g i (match Tn off&&Nat.beq vs.length es with
       | true=>x'
       | false=>match g i with
        | .agg cs=>.agg (AY off vs cs)
        | _=>x'))))::dead ids)))))
   | .map .. => .fail
  | _=>.fail
 | .nilCheck x=>match ρ x with
  | .ptr o i off=>.rd o fun _=>iJ (.ptr o i off)
  | .ro cs=>iJ (.ro cs)
  | .fn f cs=>iJ (.fn f cs)
  | _=>.fail
 | .binOp op t x y _=>ZW cfg op t (ρ x) (ρ y)
 | .unOp op _ x=>match op,ρ x with
  | .not,.bool b=>iJ (.bool (!b))
  | .neg,.int k n=>dZ (sK k .i64) (kF (InI64 (-n)) (.int .i64 (-n)))
  | _,_=>.fail
 | .convert src dst x=>Oc cfg src fun _=>Oc cfg dst fun ti=>match adI ti.desc with
  | true=>Tx cfg src (ρ x)
  | false=>match ti.desc,ρ x with
   | .int k,.int _ n=>iJ (.int k (k.wrap n))
   | _,_=>.fail
 | .makeFunc fn first captured=>match fn,first.toList with
  | .func f,[]=>iJ (.fn f (captured.toList.map ρ))
  | _,_=>.fail
 | .makeSlice t l c=>zy cfg t fun ti=>match ρ l with
  | .int _ n=>dZ (Fj (some l) (some c)) (dZ (Nat.blt 0 ti.bytes) (dZ (zok ti) (.need (0≤n∧n*ti.bytes≤big) (.ret (.dh nid 0 n.toNat true) [(nid,some (.row ti.size n.toNat (fun _=>zeroOf ti)))]))))
  | _=>.fail
 | .slice t x lo hi mx=>match aad cfg t with
  | some (n,et)=>Oc cfg et fun ei=>dZ mx.isNone (match ρ x with
   | .ptr o i off=>.rd o fun
    | .row es n' _=>dZ (Tn i&&Tn off) (dZ (Nat.beq es ei.size) (dZ (Nat.beq n' n) (aag o n (lo.map ρ) (hi.map ρ))))
    | _=>.fail
   | _=>.fail)
  | none=>match ρ x with
  | .dh o i n f=>zy cfg t fun ti=>.rd o fun
   | .row es N _=>dZ (Nat.beq es ti.size) (ZX o i n N f (lo.map ρ) (hi.map ρ) (mx.map ρ))
   | _=>.fail
  | _=>Yy ρ hi mx<|zy cfg t fun ti=>match ρ x with
   | .sl es n f g=>dZ (JQ es n ti.size) (OV (.sl es n f g) (lo.map ρ) (hi.map ρ) mx.isSome mx.isSome)
   | .dh o i n f=>.rd o fun
    | .row es _ _=>dZ (Nat.beq es ti.size) (OV (.dh o i n f) (lo.map ρ) (hi.map ρ) mx.isSome mx.isSome)
    | _=>.fail
   | _=>.fail
 | .fieldAddr s x f=>Oc cfg s fun ts=>match H8 ts f with
  | some (o,t)=>Oc cfg t fun ti=>dZ (Nat.blt 0 ti.size) (match ρ x with
   | .ptr ob i off=>.rd ob fun _=>iJ (.ptr ob i (off+o))
   | .ro cs=>iJ (.ro (cs.drop o))
   | _=>.fail)
  | none=>.fail
 | .field s x f=>Oc cfg s fun ts=>match H8 ts f with
  | some (o,t)=>Oc cfg t fun ti=>match ρ x with
   | .agg cs=>vD ti (cs.drop o)
   | _=>.fail
  | none=>.fail
 | .indexAddr t x ix=>match aad cfg t with
  | some (n,et)=>Oc cfg et fun ei=>match ρ ix,ρ x with
   | .int _ i,.ptr o j off=>.rd o fun
    | .row es n' _=>dZ (Tn j&&Tn off) (dZ (Nat.beq es ei.size) (dZ (Nat.beq n' n) (kF (0≤i∧i<n) (.ptr o i.toNat 0))))
    | _=>.fail
   | _,_=>.fail
  | none=>zy cfg t fun ti=>match ρ ix with
  | .int _ i=>match ρ x with
   | .sl es n _ g=>dZ (JQ es n ti.size) (kF (0≤i∧i<n) (.ro (g i.toNat).cells))
   | .dh o j n _=>.rd o fun
    | .row es _ _=>dZ (Nat.beq es ti.size) (kF (0≤i∧i<n) (.ptr o (addN j i.toNat) 0))
    | _=>.fail
   | _=>.fail
  | _=>.fail
 | .index t x ix=>Oc cfg t fun ti=>match ti.desc,ρ x,ρ ix with
  | .str,.str b,.int _ i=>kF (0≤i∧i<b.size) (.int .u8 (eO b i.toNat))
  | .array n et,.agg cs,.int _ i=>Oc cfg et fun ei=>aaf ei n cs i
  | _,_,_=>.fail
 | .makeMap t none=>aac cfg t fun ki ei=>.ret (.mref nid) [(nid,some (.map ki.desc ei.zero fun _=>none))]
 | .lookup t x ix false=>aac cfg t fun ki ei=>match ρ x,keyOf (ρ ix) with
  | .mref o,some k=>dZ (Cy ki.desc k) (.rd o fun
   | .map kd z f=>dZ (decide (kd=ki.desc)) (dZ (decide (z=ei.zero)) (dZ (Tw z) (iJ (aeD z (wL f k)))))
   | _=>.fail)
  | _,_=>.fail
 | .mapUpdate t x ix y=>aac cfg t fun ki ei=>match ρ x,keyOf (ρ ix),adG ei.zero (ρ y) with
  | .mref o,some k,some n=>dZ (Cy ki.desc k) (.rd o fun
   | .map kd z f=>dZ (decide (kd=ki.desc)) (dZ (decide (z=ei.zero)) (dZ (Tw z) (.ret .undef [(o,some (.map kd z (Me f k n)))])))
   | _=>.fail)
  | _,_,_=>.fail
 | .extract t i=>match ρ t with
  | .jX vs=>dZ (Nat.blt i vs.length) (iJ (nth vs i))
  | _=>.fail
 | .call c=>match c.callee with
  | .builtin .len=>match c.args.toList.map ρ,c.argTypes.toList with
   | [v],[t]=>Oc cfg t fun ti=>match v,ti.desc with
    | .sl _ n _ _,.slice _=>iJ (.int .i64 n)
    | .dh o _ n _,.slice _=>.rd o fun _=>iJ (.int .i64 n)
    | .str s,.str=>iJ (.int .i64 s.size)
    | _,_=>.fail
   | _,_=>.fail
  | .builtin .append=>match c.args.toList.map ρ,c.argTypes.toList with
   | [d,s],[t,t']=>zy cfg t' fun _=>zy cfg t fun ti=>dZ (Nat.blt 0 ti.size) (dZ (Nat.blt 0 ti.bytes) (match isSelf d s with | true=>Tq ti d s | false=>UE ti nid d s))
   | _,_=>.fail
  | .builtin .copy=>match c.args.toList.map ρ,c.argTypes.toList with
   | [d,s],[t,t']=>zy cfg t' fun _=>zy cfg t fun ti=>dZ (Nat.blt 0 ti.size) (ZY ti d s)
   | _,_=>.fail
  | .builtin .clear=>match c.args.toList.map ρ,c.argTypes.toList with
   | [.dh o i n _],[t]=>zy cfg t fun ti=>dZ (zok ti) (.rd o fun
    | .row es N g=>dZ (Nat.beq es ti.size) (.ret .undef [(o,some (.row es N (Yz i n g (fun _=>zeroOf ti))))])
    | _=>.fail)
   | _,_=>.fail
  | .builtin .min=>match c.args.toList.map ρ with
   | [.int k a,.int _ b]=>iJ (.int k (if b<a then b else a))
   | _=>.fail
  | .builtin .max=>match c.args.toList.map ρ with
   | [.int k a,.int _ b]=>iJ (.int k (if b > a then b else a))
   | _=>.fail
  | .builtin _=>.fail
  | .value f=>match ρ f with
   | .fn g caps=>Z9 cfg nid g (c.args.toList.map ρ++caps)
   | _=>.fail
  | .invoke _ _=>.fail
 | _=>.fail
def Pz (T:Nat→AV):Operand→AV
 | .tmp t=>T t
 | .const v=>ofConst v
 | .global g=>match look cfg.glob g with | some cs=>.ro cs | none=>.undef
 | .func f=>.fn f []
end ops
abbrev kY:=FuncId→List AV→List cB→AV→List cB→Prop
structure Log where
 rds:List Nat
 Wz:List Nat
structure St where
 tmps:List (Nat×AV)
 heap:jh
 nx:Nat
abbrev PC:=List (Bool×Bool)
def YC:PC→Prop→(Prop→Prop)→Prop
 | [],p,K=>K p
 | (c,b)::l,p,K=>YC l (c=b→p) K
section run
variable (cfg:rU) (Sp:kY)
def ids:jh→List Nat
 | []=>[]
 | (o,_)::l=>o::ids l
def ev (pc:PC) (H:Nat→Option cB):Pg→List Nat→(AV→jh→List Nat→Prop)→Prop
 | .ret v ups,rds,K=>force v fun v'=>xV ups fun ups'=>K v' ups' rds
 | @Pg.need p _ k,rds,K=>YC pc p fun p'=>p'∧ev pc H k rds K
 | .rd o k,rds,K=>match H o with
  | some x=>ev pc H (k x) (o::rds) K
  | none=>YC pc False fun p'=>p'∧K .undef [] rds
 | .call f args obs k,rds,K=>∃r obs',YC pc (Sp f args obs r obs') fun p'=>p'∧ev pc H (k r obs') rds K
 | .fail,rds,K=>YC pc False fun p'=>p'∧K .undef [] rds
def X3:Op→Bool
 | .move _ | .assign _ | .pick .. | .build .. | .load .. | .nilCheck _ | .binOp .. | .unOp .. | .convert .. | .makeFunc .. | .slice .. | .fieldAddr .. | .field .. | .indexAddr .. | .index .. | .lookup .. | .extract .. => true
 | .call c=>match c.callee with
  | .builtin .len | .builtin .min | .builtin .max=>true
  | .value (.func f)=>match (ab1 cfg f).muts,(ab1 cfg f).frz with | [],false=>true | _,_=>false
  | _=>false
 | _=>false
def Sn (c:Bool) (A B:Prop):Prop:=match c with | true=>A | false=>B
def Sq:List Oper→Nat→Option Oper
 | [],_=>none
 | o::_,0=>some o
 | _::l,n+1=>Sq l n
def NA (all:List Oper) (j:Nat):Option Nat:=match Sq all j with
 | some o=>o.dst
 | none=>none
def aah (ups H:jh) (K:jh→Prop):Prop:=
 match ups with
 | []=>K H
 | u::l=>aah l H fun H'=>K (u::H')
def aai (dst:Option Nat) (v u:AV) (T U:List (Nat×AV)) (K:List (Nat×AV)→List (Nat×AV)→Prop):Prop:=
 match dst with
 | some d=>K ((d,v)::T) ((d,u)::U)
 | none=>K T U
def Fw:List PC→Nat→PC
 | [],_=>[]
 | p::_,0=>p
 | _::l,n+1=>Fw l n
def WA:List PC→Nat→(PC→Prop)→Prop
 | [],_,K=>K []
 | p::_,0,K=>K p
 | _::l,n+1,K=>WA l n K
def JR:List PC→PC→(List PC→Prop)→Prop
 | [],p,K=>K [p]
 | q::l,p,K=>JR l p fun l'=>K (q::l')
def isNone {α:Type}:Option α→Bool
 | none=>true
 | some _=>false
def UK (all:List Oper) (nx:Nat):List Oper→Nat→List (Nat×AV)→List (Nat×AV)→jh→List PC→List Log→(St→List Log→Prop)→Prop
 | [],i,_,U,H,_,log,K=>K ⟨U,H,nx+stride*i⟩ log
 | o::rest,i,T,U,H,pcs,log,K=>
  match o.guard with
  | none=>ev Sp [] (hget H) (eP cfg (nx+stride*i) o.op (Pz cfg (tget T))) [] fun v ups rds=>
    aai o.dst v v T U fun T' U'=>aah ups H fun H'=>JR pcs [] fun pcs'=>UK all nx rest (i+1) T' U' H' pcs' (⟨rds,ids ups⟩::log) K
  | some (j,b)=>match NA all j with
   | some d=>match tget T d with
    | .bool c=>match X3 cfg o.op with
     | true=>WA pcs j fun pcj=>ev Sp ((c,b)::pcj) (hget H) (eP cfg (nx+stride*i) o.op (Pz cfg (tget T))) [] fun v ups rds=>
      match ups with
      | []=>aai o.dst v .undef T U fun T' U'=>JR pcs ((c,b)::pcj) fun pcs'=>UK all nx rest (i+1) T' U' H pcs' (⟨rds,[]⟩::log) K
      | _::_=>False
     | false=>match Fw pcs j with
      | []=>Sn (c==b)
       (ev Sp [] (hget H) (eP cfg (nx+stride*i) o.op (Pz cfg (tget T))) [] fun v ups rds=>
         aai o.dst v v T U fun T' U'=>aah ups H fun H'=>JR pcs [] fun pcs'=>UK all nx rest (i+1) T' U' H' pcs' (⟨rds,ids ups⟩::log) K)
       (aai o.dst .undef .undef T U fun T' U'=>JR pcs [(c,b)] fun pcs'=>UK all nx rest (i+1) T' U' H pcs' (⟨[],[]⟩::log) K)
      | _::_=>False
    | _=>False
   | none=>False
def PD (all:List Oper) (i:Nat):Option (Nat×Bool):=match Sq all i with
 | some o=>o.guard
 | none=>none
def chain (all:List Oper):Nat→Option (Nat×Bool)→List (Nat×Bool)
 | 0,_=>[]
 | _+1,none=>[]
 | f+1,some (j,b)=>(j,b)::chain all f (PD all j)
def X4 (d:Option Nat) (t:Nat):Bool:=match d with
 | some x=>Nat.beq x t
 | none=>false
def p9 (t:Nat):List Oper→Nat→List Nat
 | [],_=>[]
 | o::l,i=>match X4 o.dst t with
  | true=>i::p9 t l (i+1)
  | false=>p9 t l (i+1)
def writers (all:List Oper) (t:Nat):List Nat:=p9 t all 0
def OY (all:List Oper):List Nat→Bool
 | []=>true
 | i::l=>match PD all i with
  | none=>OY all l
  | some _=>false
def eqB:Bool→Bool→Bool
 | true,true=>true
 | false,false=>true
 | _,_=>false
def ab7 (j:Nat) (b:Bool):List (Nat×Bool)→Bool
 | []=>false
 | (j',b')::l=>match Nat.beq j j',eqB b b' with
  | true,true=>true
  | _,_=>ab7 j b l
def Tz (all:List Oper) (k:Nat) (g:Option (Nat×Bool)) (t:Nat):Bool:=
 match writers all t with
 | [i]=>match PD all i with
  | none=>true
  | some (j,b)=>match Nat.blt i k with
   | true=>ab7 j b (chain all 20 g)
   | false=>false
 | l=>OY all l
def X5 (all:List Oper) (k:Nat) (g:Option (Nat×Bool)) (c:Operand) (pol:Bool) (x:Operand):Bool:=
 match x with
 | .tmp t=>match Tz all k g t with
  | true=>true
  | false=>match c,writers all t with
   | .tmp ct,[i]=>match PD all i,writers all ct,Nat.blt i k with
    | some (j,b),[jc],true=>match Nat.beq j jc,Nat.blt jc k with
     | true,true=>eqB b pol
     | _,_=>false
    | _,_,_=>false
   | _,_=>false
 | _=>true
def Ia (all:List Oper) (k:Nat) (g:Option (Nat×Bool)):Operand→Bool
 | .tmp t=>Tz all k g t
 | _=>true
def CB (all:List Oper) (k:Nat) (g:Option (Nat×Bool)):List Operand→Bool
 | []=>true
 | x::l=>match Ia all k g x with
  | true=>CB all k g l
  | false=>false
def UL (all:List Oper) (k:Nat) (o:Oper):Bool:=
 match (match o.guard with
  | none=>true
  | some (j,_)=>match Nat.blt j k with
   | true=>match NA all j with
    | some d=>match writers all d with
         | [j']=>Nat.beq j' j
         | _=>false
    | none=>false
   | false=>false) with
 | true=>match o.op with
  | .pick c x y=>match Ia all k o.guard c,X5 all k o.guard c true x with
   | true,true=>X5 all k o.guard c false y
   | _,_=>false
  | op=>CB all k o.guard op.operands.toList
 | false=>false
def nK (N:Nat) (all:List Oper):List Oper→Nat→Bool
 | [],_=>true
 | o::l,k=>match UL all k o,(match o.dst with | some d=>Nat.blt d N | none=>true) with
  | true,true=>nK N all l (k+1)
  | _,_=>false
def before (all:List Oper):Nat→Nat→Nat→Bool
 | 0,_,_=>false
 | f+1,i,j=>match Sq all j with
  | some o=>o.after.toList.any fun e=>Region.binds .any e&&Nat.blt e.on j&&(Nat.beq e.on i||before all f i e.on)
  | none=>false
def looks (all:List Oper) (o:Oper):List Nat:=
 (o.op.operands.toList.filterMap fun | .tmp t=>some t | _=>none)++(match o.guard with | some (j,_)=>(NA all j).toList | none=>[])
def isIn (d:Option Nat) (l:List Nat):Bool:=match d with
 | some x=>wK x l
 | none=>false
def PE (all:List Oper) (x y:Oper):Bool:=!isIn x.dst (looks all y)&&!isIn y.dst (looks all x)&&!isIn x.dst y.dst.toList
def Fx (all:List Oper) (j:Nat) (oj:Oper):List Oper→Nat→Bool
 | [],_=>true
 | o::l,i=>match Nat.blt i j with
  | true=>(PE all o oj||before all 40 i j)&&Fx all j oj l (i+1)
  | false=>true
def TA (o:Oper) (k:Nat):Bool:=o.after.toList.all fun e=>!Region.binds .any e||Nat.blt e.on k
def Mf (all:List Oper):List Oper→Nat→Bool
 | [],_=>true
 | o::l,j=>TA o j&&Fx all j o all 0&&Mf all l (j+1)
def aaj (N:Nat) (all:List Oper) (draw:Bool):Bool:=nK N all all 0&&(!draw||Mf all all 0)
def fZ (N:Nat):Code→Bool
 | .region _ ops draw=>aaj N ops.toList draw
 | .seq a b=>fZ N a&&fZ N b
 | .cond _ a b=>fZ N a&&fZ N b
 | .block _ a=>fZ N a
 | .loop a=>fZ N a
 | .rangeFunc _ _ a b=>fZ N a&&fZ N b
 | .skip | .exit _ | .ret=>true
 | _=>false
def meets (l m:List Nat):Bool:=match l with
 | []=>false
 | x::l'=>match wK x m with
  | true=>true
  | false=>meets l' m
def Mg (all:List Oper) (j:Nat) (x:Log):List Log→Nat→Bool
 | [],_=>true
 | _::_,0=>true
 | y::l,i+1=>match meets x.Wz y.rds,meets y.Wz x.rds,meets y.Wz x.Wz with
  | false,false,false=>Mg all j x l i
  | _,_,_=>match before all 40 i j with
   | true=>Mg all j x l i
   | false=>false
def Cv (all:List Oper):List Log→Nat→Bool
 | [],_=>true
 | _::_,0=>true
 | x::l,j+1=>match Mg all j x l j with
  | true=>Cv all l j
  | false=>false
def OZ:Code→Nat
 | .region id _ _=>id
 | .seq a _=>OZ a
 | .block _ a=>OZ a
 | .loop a=>OZ a
 | _=>1000000
def jD (ct:List Nat) (L:Code→St→(Exit→St→Prop)→Prop):Code→St→(Exit→St→Prop)→Prop
 | .skip,s,K=>K .normal s
 | .region _ ops draw,⟨T,H,nx⟩,K=>UK cfg Sp ops.toList nx ops.toList 0 T T H [] [] fun s' log=>
  match draw with
  | true=>match Cv ops.toList log ops.toList.length with
   | true=>K .normal s'
   | false=>False
  | false=>K .normal s'
 | .seq a b,s,K=>match wK (OZ b) ct with
  | true=>L (.seq a b) s K
  | false=>jD ct L a s fun e s'=>match e with
   | .normal=>jD ct L b s' K
   | e=>K e s'
 | .cond c x y,s,K=>match Pz cfg (tget s.tmps) c with
  | .bool b=>Sn b (jD ct L x s K) (jD ct L y s K)
  | _=>False
 | .block id c,s,K=>jD ct L c s fun e s'=>match e with
  | .exit i=>match Nat.beq i id with
   | true=>K .normal s'
   | false=>K (.exit i) s'
  | e=>K e s'
 | .loop c,s,K=>L (.loop c) s K
 | .rangeFunc g ps a b,s,K=>L (.rangeFunc g ps a b) s K
 | .exit id,s,K=>K (.exit id) s
 | .ret,s,K=>K .ret s
 | _,_,_=>False
end run
inductive Le:AV→AV→Prop
 | refl (v:AV):Le v v
 | sl {es es' n n':Nat} {f f':Bool} {g g':Nat→AV} (hn:n=n') (he:n≠0→es=es') (hf:f'=true→f=true) (h:∀i,i<n→Le (g i) (g' i)):Le (.sl es n f g) (.sl es' n' f' g')
 | ro {cs cs':List AV} (hl:cs.length=cs'.length) (h:∀j,j<cs.length→Le (nth cs j) (nth cs' j)):Le (.ro cs) (.ro cs')
 | agg {cs cs':List AV} (hl:cs.length=cs'.length) (h:∀j,j<cs.length→Le (nth cs j) (nth cs' j)):Le (.agg cs) (.agg cs')
 | jX {cs cs':List AV} (hl:cs.length=cs'.length) (h:∀j,j<cs.length→Le (nth cs j) (nth cs' j)):Le (.jX cs) (.jX cs')
 | fn {f:FuncId} {cs cs':List AV} (hl:cs.length=cs'.length) (h:∀j,j<cs.length→Le (nth cs j) (nth cs' j)):Le (.fn f cs) (.fn f cs')
def Mh:List AV→List AV→Prop
 | [],[]=>True
 | u::l,v::m=>Le u v∧Mh l m
 | _,_=>False
def LeO:cB→cB→Prop
 | .box cs,.box cs'=>Mh cs cs'
 | .row es n g,.row es' n' g'=>es=es'∧n=n'∧∀i,i<n→Le (g i) (g' i)
 | _,_=>False
def adL:List cB→List cB→Prop
 | [],[]=>True
 | x::l,y::m=>LeO x y∧adL l m
 | _,_=>False
def oJ (ρ:List (Nat×Option Nat)) (o:Nat):Option Nat:=match look ρ o with
 | some x=>x
 | none=>some o
def PG (H:jh) (o:Nat):Bool:=match hget H o with
 | some _=>true
 | none=>false
def jY (ρ:List (Nat×Option Nat)) (H':jh):Nat→AV→AV→Prop
 | 0,_,_=>False
 | f+1,u,v=>match v with
  | .undef=>True
  | .bool b'=>match u with | .bool b=>b=b' | _=>False
  | .int k' n'=>match u with | .int k n=>k=k'∧n=n' | _=>False
  | .str s'=>match u with | .str s=>s=s' | _=>False
  | .zm=>match u with | .zm=>True | _=>False
  | .mref o'=>match u with | .mref o=>PG H' o'=true∧oJ ρ o'=some o | _=>False
  | .sl es' n' f' g'=>match u with
   | .sl es n fu g=>n=n'∧(n≠0→es=es')∧(f'=true→fu=true)∧∀i,i<n→Le (g i) (g' i)
   | _=>False
  | .ro cs'=>match u with | .ro cs=>Mh cs cs' | _=>False
  | .ptr o' i' off'=>match u with
   | .ptr o i off=>PG H' o'=true∧oJ ρ o'=some o∧i=i'∧off=off'
   | _=>False
  | .dh o' i' n' f'=>match u with
   | .dh o i n fu=>PG H' o'=true∧oJ ρ o'=some o∧i=i'∧n=n'∧(f'=true→fu=true)
   | .sl _ n fu _=>PG H' o'=true∧oJ ρ o'=none∧fu=true∧n=0∧i'=0∧n'=0
   | _=>False
  | .agg cs'=>match u with | .agg cs=>embL f cs cs' | _=>False
  | .fn f' cs'=>match u with | .fn fu cs=>fu=f'∧embL f cs cs' | _=>False
  | .jX cs'=>match u with | .jX cs=>embL f cs cs' | _=>False
 where
 embL:Nat→List AV→List AV→Prop
  | 0,_,_=>False
  | _+1,[],[]=>True
  | f+1,u::l,v::m=>jY ρ H' f u v∧embL f l m
  | _+1,_,_=>False
def adM (ρ:List (Nat×Option Nat)) (H':jh) (T:List (Nat×AV)):List (Nat×AV)→Prop
 | []=>True
 | (t,v)::l=>jY ρ H' fuel (tget T t) v∧adM ρ H' T l
def UM (ρ:List (Nat×Option Nat)) (H':jh) (x y:cB):Prop:=
 match x,y with
 | .box cs,.box cs'=>jY.embL ρ H' fuel cs cs'
 | .row es n g,.row es' n' g'=>es=es'∧n=n'∧∀i,i<n→Le (g i) (g' i)
 | .map kd z f,.map kd' z' f'=>kd=kd'∧z=z'∧f=f'
 | _,_=>False
def aak (ρ:List (Nat×Option Nat)) (H' H:jh):jh→Prop
 | []=>True
 | (_,none)::l=>aak ρ H' H l
 | (o',some y)::l=>(match oJ ρ o' with
  | some o=>match hget H o with
   | some x=>UM ρ H' x y
   | none=>False
  | none=>match y with
   | .row _ n _=>n=0
   | _=>False)∧aak ρ H' H l
def PI (ρ:List (Nat×Option Nat)):jh→List Nat
 | []=>[]
 | (_,none)::l=>PI ρ l
 | (o',some _)::l=>match oJ ρ o' with
  | some o=>o::PI ρ l
  | none=>PI ρ l
def JU (m nx:Nat) (ρ:List (Nat×Option Nat)):jh→Bool
 | []=>true
 | (o',_)::l=>match Nat.blt o' nx with
  | true=>match oJ ρ o' with
   | some o=>match Nat.beq o o' with
    | true=>JU m nx ρ l
    | false=>match Nat.ble m o' with
     | true=>JU m nx ρ l
     | false=>false
   | none=>match Nat.ble m o' with
    | true=>JU m nx ρ l
    | false=>false
  | false=>false
def adr:jh→Bool
 | []=>true
 | (o,_)::l=>match look l o with
  | some _=>false
  | none=>adr l
def WB (m:Nat) (ρ:List (Nat×Option Nat)) (s':St):Bool:=
 match JU m s'.nx ρ s'.heap,lD (PI ρ s'.heap),adr s'.heap with
 | true,true,true=>Nat.ble m s'.nx
 | _,_,_=>false
structure Emb (m:Nat) (ρ:List (Nat×Option Nat)) (s s':St):Prop where
 Cv:WB m ρ s'=true
 tmps:adM ρ s'.heap s.tmps s'.tmps
 heap:aak ρ s'.heap s.heap s'.heap
def upTo:Nat→Nat→List Nat
 | 0,_=>[]
 | n+1,i=>i::upTo n (i+1)
def Dz (cfg:rU) (s:St):List ResultVar→Option (List AV)
 | []=>some []
 | .tmp t::l=>match Dz cfg s l with
  | some vs=>some (tget s.tmps t::vs)
  | none=>none
 | .cell ad ty::l=>match Dz cfg s l,tget s.tmps ad,look cfg.ty ty with
  | some vs,.ptr o 0 0,some ti=>match hget s.heap o with
   | some (.box cs)=>match ti.agg with
    | true=>match Nat.ble ti.size cs.length with
     | true=>some (.agg (cs.take ti.size)::vs)
     | false=>none
    | false=>match cs with
     | c::_=>some (c::vs)
     | []=>none
   | some (.row _ n g)=>match Py ti.desc,ti.agg with
    | some _,true=>match gD n 0 g with
     | cs=>match Nat.ble ti.size cs.length with
      | true=>some (.agg (cs.take ti.size)::vs)
      | false=>none
    | _,_=>none
   | _=>none
  | _,_,_=>none
def oneOf:List AV→AV
 | [v]=>v
 | vs=>.jX vs
def TB (m:Nat) (r:AV):AV→List Nat
 | .ptr o _ _=>match Nat.ble m o with
  | true=>[o]
  | false=>[]
 | .dh o _ _ _=>match r with
  | .dh .. => match Nat.ble m o with
   | true=>[o]
   | false=>[]
  | _=>[]
 | _=>[]
def PK (H:jh):List Nat→List cB→Prop
 | [],[]=>True
 | o::l,y::ys=>(match hget H o with
  | some x=>match OW x with
   | true=>UM [] [] x y
   | false=>False
  | none=>False)∧PK H l ys
 | _,_=>False
def CF (cfg:rU) (Sp:kY) (rs:List ResultVar) (m:Nat) (r:AV) (obs':List cB) (e:Exit) (s:St):Prop:=
 match (match e with | .normal=>true | .ret=>true | _=>false) with
 | true=>match Dz cfg s rs with
  | some vs=>match oneOf vs with
   | v=>match upTo m 0++TB m r v with
    | sg=>ev Sp [] (hget s.heap) (H9 sg v fun v' ids=>dZ (lD sg) (dZ (Fq ids sg) (iJ v'))) [] fun v' _ _=>jY [] (obsUps obs' 0) fuel v' r∧PK s.heap sg obs'
  | none=>False
 | false=>False
 where obsUps:List cB→Nat→jh
 | [],_=>[]
 | x::l,i=>(i,some x)::obsUps l (i+1)
def PL:List cB→Nat→jh
 | [],_=>[]
 | x::l,i=>(i,gz x)::PL l (i+1)
def DC:List AV→Nat→List (Nat×AV)
 | [],_=>[]
 | v::l,i=>(i,v)::DC l (i+1)
end Go.Ab



namespace Go.Ab
inductive PRep (w:World) (I:Nat→Prop):AV→Value→Prop
 | undef (x:Value):PRep w I .undef x
 | bool (b:Bool):PRep w I (.bool b) (.bool b)
 | int (k:IntKind) (n:Int):PRep w I (.int k n) (.int k n)
 | str (s:ByteArray):PRep w I (.str s) (.string s)
 | zm:PRep w I .zm (.pointer none)
 | sl {es n:Nat} {full:Bool} {g:Nat→AV} {a:Option Addr} {cap:Nat} (b off:Nat) (vs:Nat→Nat→Value)
   (hcap:n≤cap) (hfull:full=true→cap=n) (ha:n≠0→a=some ⟨b,off,none⟩∧I b)
   (hes:∀i,i<n→(g i).cells.length=es)
   (hm:∀i j,i<n→j<es→w.cell? ⟨b,off+(i*es+j),none⟩=some (vs i j))
   (h1:∀i j,i<n→j<es→(vs i j).oneCell'=true)
   (hr:∀i j,i<n→j<es→PRep w I (nth (g i).cells j) (vs i j)):PRep w I (.sl es n full g) (.slice a n cap)
 | ro {cs:List AV} (b off:Nat) (vs:Nat→Value) (hI:I b)
   (hm:∀j,j<cs.length→w.cell? ⟨b,off+j,none⟩=some (vs j))
   (hr:∀j,j<cs.length→PRep w I (nth cs j) (vs j)):PRep w I (.ro cs) (.pointer (some ⟨b,off,none⟩))
 | agg {cs:List AV} {vs:Array Value} (hl:vs.size=cs.length) (hr:∀j,j<cs.length→PRep w I (nth cs j) (vs.getD j Go.undef)):PRep w I (.agg cs) (.agg vs)
 | fn {f:FuncId} {cs:List AV} {vs:Array Value} (hl:vs.size=cs.length) (hr:∀j,j<cs.length→PRep w I (nth cs j) (vs.getD j Go.undef)):PRep w I (.fn f cs) (.func (.func f) #[] vs)
 | jX {cs:List AV} {vs:Array Value} (hl:vs.size=cs.length) (hr:∀j,j<cs.length→PRep w I (nth cs j) (vs.getD j Go.undef)):PRep w I (.jX cs) (.tuple vs)
structure Own where
 es:Nat
 n:Nat
 pl:Option (Nat×Nat×Nat)
abbrev OM:=Nat→Option Own
inductive Rep (w:World) (I:Nat→Prop) (O:OM) (D:Nat→Prop):AV→Value→Prop
 | pure {v:AV} {x:Value} (h:PRep w I v x):Rep w I O D v x
 | ptr {o i off b bo sz:Nat} {p:Own} (ho:O o=some p) (hp:p.pl=some (b,bo,sz)) (hi:i<p.n):Rep w I O D (.ptr o i off) (.pointer (some ⟨b,bo+(i*p.es+off),none⟩))
 | dh {o i n:Nat} {full:Bool} {p:Own} {a:Option Addr} {cap:Nat} (ho:O o=some p) (hi:i+n≤p.n) (hcap:n≤cap) (hfull:full=true→cap=n)
   (hpl:cap≠0→∃b bo sz,p.pl=some (b,bo,sz)∧a=some ⟨b,bo+i*p.es,none⟩∧bo+(i+cap)*p.es≤sz) (hext:p.n≤i+cap):Rep w I O D (.dh o i n full) (.slice a n cap)
 | mref {o b bo sz:Nat} {p:Own} (ho:O o=some p) (hp:p.pl=some (b,bo,sz)):Rep w I O D (.mref o) (.map (some b))
 | KD {o:Nat} {x:Value} (ho:O o=none) (hd:D o) (h1:x.oneCell'=true):Rep w I O D (.mref o) x
 | xX {o i off:Nat} {x:Value} (ho:O o=none) (hd:D o) (h1:x.oneCell'=true):Rep w I O D (.ptr o i off) x
 | wB {o i n:Nat} {full:Bool} {x:Value} (ho:O o=none) (hd:D o) (h1:x.oneCell'=true):Rep w I O D (.dh o i n full) x
 | agg {cs:List AV} {vs:Array Value} (hl:vs.size=cs.length) (hr:∀j,j<cs.length→Rep w I O D (nth cs j) (vs.getD j Go.undef)):Rep w I O D (.agg cs) (.agg vs)
 | fn {f:FuncId} {cs:List AV} {vs:Array Value} (hl:vs.size=cs.length) (hr:∀j,j<cs.length→Rep w I O D (nth cs j) (vs.getD j Go.undef)):Rep w I O D (.fn f cs) (.func (.func f) #[] vs)
 | jX {cs:List AV} {vs:Array Value} (hl:vs.size=cs.length) (hr:∀j,j<cs.length→Rep w I O D (nth cs j) (vs.getD j Go.undef)):Rep w I O D (.jX cs) (.tuple vs)
def Fy (w:World) (b sz:Nat):Prop:=∀j,j<sz→(w.cell? ⟨b,j,none⟩).isSome=true∧w.frozen? ⟨b,j,none⟩=false
def cellAt (w:World) (b j:Nat):Value:=(w.cell? ⟨b,j,none⟩).getD Go.undef
def Fz:mo→Value
 | .s b=>.string b
 | .i n=>.int .i64 n
def Oe (z:List ZK) (n:Int):Value:=match z with
 | [.bool]=>.bool (n != 0)
 | [.int k]=>.int k n
 | _=>Go.undef
structure WC (kd:TD) (z:List ZK) (f:mo→Option Int) (es:Array MapEntry):Prop where
 keys:∀e∈es.toList,∃k n,e.key=Fz k∧Cy kd k=true∧f k=some n∧e.val=Oe z n
 uniq:es.toList.Pairwise fun e e'=>e.key≠e'.key
 all:∀k n,f k=some n→∃e∈es.toList,e.key=Fz k
def fM (w:World) (I:Nat→Prop) (O:OM) (D:Nat→Prop) (p:Own):cB→Prop
 | .box cs=>p.n=1∧∃b bo sz,p.pl=some (b,bo,sz)∧Fy w b sz∧bo+cs.length≤sz∧∀j,j<cs.length→Rep w I O D (nth cs j) (cellAt w b (bo+j))
 | .row es n g=>p.n=n∧p.es=es∧(∀i,i<n→(g i).cells.length=es)∧((n=0∧p.pl=none)∨
   ∃b bo sz,p.pl=some (b,bo,sz)∧Fy w b sz∧bo+n*es≤sz∧∀i j,i<n→j<es→PRep w I (nth (g i).cells j) (cellAt w b (bo+(i*es+j)))∧(cellAt w b (bo+(i*es+j))).oneCell'=true)
 | .map kd z f=>p.n=1∧∃b bo sz es clock,p.pl=some (b,bo,sz)∧w.heap[b]? = some (.map es clock)∧WC kd z f es
structure Ctx where
 w0:World
 M:Nat→Prop
 I0:Nat→Prop
 O0:OM
 m:Nat
 K:Nat→Obj→Prop
 rd:Bool
def Ib:Obj→Bool
 | .cells .. => false
 | _=>true
structure eZ (w' w:World):Prop where
 os:w'.os=w.os
 tape:w'.tape=w.tape
 output:w'.output=w.output
 keep:∀(k:Nat) (o:Obj),w.heap[k]? = some o→Ib o=true→w'.heap[k]? = some o
theorem eZ.refl (w:World):eZ w w:=⟨rfl,rfl,rfl,fun _ _ h _=>h⟩
theorem eZ.trans {a b c:World} (h:eZ a b) (k:eZ b c):eZ a c:=⟨h.os.trans k.os,h.tape.trans k.tape,h.output.trans k.output,fun i o hi ho=>h.keep i o (k.keep i o hi ho) ho⟩
theorem eZ.heap {w w':World} (h1:w'.os=w.os) (h2:w'.tape=w.tape) (h3:w'.output=w.output) (h:w'.heap=w.heap):eZ w' w:=⟨h1,h2,h3,fun i o hi _=>by rw [h]; exact hi⟩
theorem eZ.alloc (w:World) (o:Obj):eZ (w.alloc o) w:=⟨rfl,rfl,rfl,fun i x hi _=>by
 have hlt:i<w.heap.size:=by
  rcases Nat.lt_or_ge i w.heap.size with h | h
  ·exact h
  ·rw [Array.getElem?_eq_none h] at hi; cases hi
 show (w.heap.push o)[i]? = some x;rw [Array.getElem?_push_lt hlt,← hi,Array.getElem?_eq_getElem hlt]⟩
structure A8 (cx:Ctx) (w:World):Prop where
 same:eZ w cx.w0
 kept:∀k o,cx.K k o→w.heap[k]? = some o∧Ib o=true
theorem A8.step {cx:Ctx} {w w':World} (h:A8 cx w) (he:eZ w' w):A8 cx w':=⟨he.trans h.same,fun k o hk=>⟨he.keep k o (h.kept k o hk).1 (h.kept k o hk).2,(h.kept k o hk).2⟩⟩
structure Rel (cfg:rU) (cx:Ctx) (H:Nat→Option cB) (D:Nat→Prop) (w:World) (I:Nat→Prop) (O:OM):Prop where
 dom:∀o,O o=none↔H o=none
 used:∀o p,O o=some p→D o
 objs:∀o ob p,H o=some ob→O o=some p→fM w I O D p ob
 inj:∀o o' p p' b bo sz b' bo' sz',O o=some p→O o'=some p'→p.pl=some (b,bo,sz)→p'.pl=some (b',bo',sz')→o≠o'→b≠b'
 lZ:∀o p b bo sz,O o=some p→p.pl=some (b,bo,sz)→¬ I b
 lt:∀o p b bo sz,O o=some p→p.pl=some (b,bo,sz)→b<w.heap.size
 vF:∀b,I b→b<w.heap.size
 size:cx.w0.heap.size≤w.heap.size
 frame:∀b,b<cx.w0.heap.size→¬ cx.M b→w.heap[b]? = cx.w0.heap[b]?
 new:∀o p b bo sz,O o=some p→p.pl=some (b,bo,sz)→cx.w0.heap.size≤b∨cx.M b
 glob:∀g cs,look cfg.glob g=some cs→PRep w I (.ro cs) (.pointer (some ⟨g,0,none⟩))
 KE:∀b,cx.I0 b→I b
 NC:∀b,I b→cx.I0 b∨cx.w0.heap.size≤b∨cx.M b
 PN:∀o,o<cx.m→O o=cx.O0 o∨O o=none
 Dm:∀o,o<cx.m→D o
 env:A8 cx w
 maps:∀o kd z f p b bo sz,H o=some (.map kd z f)→O o=some p→p.pl=some (b,bo,sz)→cx.w0.heap.size≤b∧∀ob,¬ cx.K b ob
theorem pQ (l:List AV) (i:Nat):nth l i=l.getD i .undef:=by
 induction l generalizing i with
 | nil=>simp [nth]
 | cons v l ih=>cases i<;>simp [nth,ih]
theorem gT {w w':World} {b off:Nat} (h:w'.heap[b]? = w.heap[b]?):w'.cell? ⟨b,off,none⟩=w.cell? ⟨b,off,none⟩:=by
 simp [World.cell?, h]
theorem DF {w w':World} {b off:Nat} (h:w'.heap[b]? = w.heap[b]?):w'.frozen? ⟨b,off,none⟩=w.frozen? ⟨b,off,none⟩:=by
 simp [World.frozen?, h]
theorem PRep.mono {w w':World} {I I':Nat→Prop} (hI:∀b,I b→I' b) (hw:∀b,I b→w'.heap[b]? = w.heap[b]?) {v:AV} {x:Value} (h:PRep w I v x):PRep w' I' v x:=by
 induction h with
 | undef x=>exact .undef x
 | bool b=>exact .bool b
 | int k n=>exact .int k n
 | str s=>exact .str s
 | zm=>exact .zm
 | @sl es n full g a cap b off vs hcap hfull ha hes hm h1 hr ih=>
  refine .sl b off vs hcap hfull (fun h=>⟨(ha h).1,hI _ (ha h).2⟩) hes (fun i j hi hj=>?_) h1 ih;rw [gT (hw _ (ha om).2)];exact hm i j hi hj
 | ro b off vs h1 hm hr ih=>
  refine .ro b off vs (hI _ h1) (fun j hj=>?_) ih;rw [gT (hw _ h1)];exact hm j hj
 | agg hl hr ih=>exact .agg hl ih
 | fn hl hr ih=>exact .fn hl ih
 | jX hl hr ih=>exact .jX hl ih
theorem Rep.mono {w w':World} {I I':Nat→Prop} {O O':OM} {D D':Nat→Prop} (hI:∀b,I b→I' b) (hw:∀b,I b→w'.heap[b]? = w.heap[b]?)
  (hO:∀o,D o→O' o=O o∨O' o=none) (hD:∀o,D o→D' o) (hu:∀o p,O o=some p→D o) {v:AV} {x:Value} (h:Rep w I O D v x):Rep w' I' O' D' v x:=by
 induction h with
 | pure h=>exact .pure (h.mono hI hw)
 | @ptr o i off b bo sz p ho hp hi=>
  rcases hO o (hu o p ho) with h | h
  ·exact .ptr (h.trans ho) hp hi
  ·exact .xX h (hD _ (hu o p ho)) rfl
 | @dh o i n full p a cap ho hi hcap hfull hpl hext=>
  rcases hO o (hu o p ho) with h | h
  ·exact .dh (h.trans ho) hi hcap hfull hpl hext
  ·exact .wB h (hD _ (hu o p ho)) rfl
 | @mref o b bo sz p ho hp=>
  rcases hO o (hu o p ho) with h | h
  ·exact .mref (h.trans ho) hp
  ·exact .KD h (hD _ (hu o p ho)) rfl
 | @KD o x ho hd h1=>
  rcases hO o hd with h | h
  ·exact .KD (h.trans ho) (hD _ hd) h1
  ·exact .KD h (hD _ hd) h1
 | @xX o i off x ho hd h1=>
  rcases hO o hd with h | h
  ·exact .xX (h.trans ho) (hD _ hd) h1
  ·exact .xX h (hD _ hd) h1
 | @wB o i n full x ho hd h1=>
  rcases hO o hd with h | h
  ·exact .wB (h.trans ho) (hD _ hd) h1
  ·exact .wB h (hD _ hd) h1
 | agg hl hr ih=>exact .agg hl ih
 | fn hl hr ih=>exact .fn hl ih
 | jX hl hr ih=>exact .jX hl ih
end Go.Ab



namespace Go.Ab
def FB:ZK→Value→Prop
 | .bool,x=>x=.bool false
 | .int k,x=>x=.int k 0
 | .str,x=>x=.string ByteArray.empty
 | .slice,x=>x=.slice none 0 0
 | .ptr,x=>x=.pointer none
 | .other,x=>x.oneCell'=true
def aam:TD→TypeDesc→Prop
 | .bool,d=>d=.bool
 | .int k,d=>d=.int k
 | .str,d=>d=.string
 | .slice e,d=>d=.slice e
 | .pointer e,d=>d=.pointer e
 | .map k e,d=>d=.map k e
 | .array n e,d=>d=.array n e
 | .struct fs,d=>∃fields:Array Field,d=.struct fields∧fields.toList.map (fun f=>(f.offset,f.type))=fs
 | .other,_=>True
structure aeF (P:Program) (t:TypeId) (ti:Jf):Prop where
 ex:∃i d z,P.info? t=some i∧P.underlying t=some d∧i.zero=some z∧i.size=ti.size∧i.bytes=ti.bytes∧d.isRow=ti.agg∧z.cells.size=ti.size∧
  ti.zero.length=ti.size∧(∀j,j<ti.size→FB (ti.zero.getD j .other) (z.cells.getD j Go.undef))∧aam ti.desc d
 one:ti.agg=false→∀i z,P.info? t=some i→i.zero=some z→z.cells=#[z]
def ND (P:Program):TypeDesc→Prop
 | .struct fields=>∀f∈fields.toList,(P.info? f.type).isSome=true
 | _=>True
def TF:ZK→TypeDesc→Prop
 | .bool,d=>d=.bool
 | .int k,d=>d=.int k
 | .str,d=>d=.string
 | _,_=>False
def ab8 (P:Program) (ok:TypeId→List ZK→Prop):List Field→List ZK→Nat→Prop
 | [],[],_=>True
 | f::fs,zs,k=>f.name ≠ "_" ∧ f.offset=k∧∃z1 z2,zs=z1++z2∧((∃z d,z1=[z]∧P.underlying f.type=some d∧TF z d)∨(ok f.type z1∧P.cellsOf f.type=z1.length))∧ab8 P ok fs z2 (k+z1.length)
 | _,_,_=>False
def EqT (P:Program):Nat→TypeId→List ZK→Prop
 | 0,_,_=>False
 | n+1,t,zs=>∃fields,P.underlying t=some (.struct fields)∧P.stoodInHeld t=false∧ab8 P (EqT P n) fields.toList zs 0
structure aeG (P:Program) (t:TypeId) (zs:List ZK):Prop where
 ex:EqT P 4 t zs
 guard:P.eqGuardType P.depth t=false
structure fq (P:Program) (cfg:rU):Prop where
 ty:∀t ti,look cfg.ty t=some ti→aeF P t ti
 fields:∀t ti d,look cfg.ty t=some ti→P.underlying t=some d→ND P d
 mixed:P.follows .mixedOrders=true
 eqs:∀t zs,look cfg.eqs t=some zs→aeG P t zs
def jQ (H:Nat→Option cB) (ups:jh):Nat→Option cB:=fun o=>match look ups o with | some x=>x | none=>H o
inductive dQ (Sp:kY) (H:Nat→Option cB):Pg→AV→jh→List Nat→Prop
 | ret (v:AV) (ups:jh):dQ Sp H (.ret v ups) v ups []
 | need {p:Prop} [d:Decidable p] {k:Pg} {v:AV} {ups:jh} {r:List Nat} (hp:p) (h:dQ Sp H k v ups r):dQ Sp H (.need p k) v ups r
 | rd {o:Nat} {x:cB} {k:cB→Pg} {v:AV} {ups:jh} {r:List Nat} (ho:H o=some x) (h:dQ Sp H (k x) v ups r):dQ Sp H (.rd o k) v ups (o::r)
 | call {f:FuncId} {args:List AV} {obs:List cB} {k:AV→List cB→Pg} {x:AV} {obs':List cB} {v:AV} {ups:jh} {r:List Nat} (hs:Sp f args obs x obs')
   (h:dQ Sp H (k x obs') v ups r):dQ Sp H (.call f args obs k) v ups r
def hof:List cB→Nat→Option cB
 | [],_=>none
 | x::_,0=>some x
 | _::l,n+1=>hof l n
def zn:List cB→Nat→Option cB
 | [],_=>none
 | x::_,0=>gz x
 | _::l,n+1=>zn l n
theorem Sr:∀ {l:List cB} {j:Nat} {x:cB},zn l j=some x→hof l j=some x∧Fp x=false:=by
 intro l;induction l with
 | nil=>intro j x h; cases h
 | cons y l ih=>
  intro j x h;cases j with
  | zero=>
   simp only [zn,gz] at h;split at h
   ·cases h
   ·rename_i hg; cases h; exact ⟨rfl,hg⟩
  | succ j=>exact ih h
theorem ab9:∀ {l:List cB},(∀j x,hof l j=some x→Fp x=false)→zn l=hof l:=by
 intro l;induction l with
 | nil=>intro _; rfl
 | cons y l ih=>
  intro h;funext j;cases j with
  | zero=>have:=h 0 y rfl; simp only [zn,hof,gz,this]
  | succ j=>exact congrFun (ih fun j x hx=>h (j+1) x hx) j
def EO (w:World) (I:Nat→Prop) (O:OM) (m:Nat):Ctx:=⟨w,fun b=>∃o p bo sz,O o=some p∧p.pl=some (b,bo,sz),I,O,m,fun _ _=>False,false⟩
def Spec (P:Program) (cfg:rU):kY:=fun f args obs r obs'=>
 (∃fn,P.funcs[f]? = some fn∧fn.body.isNone=false∧(fn.name == "runtime.NumGoroutine")=false)∧obs.length≤obs'.length∧
 ∀(w:World) (I:Nat→Prop) (O:OM) (vals:Array Value),Rel cfg (EO w I O obs.length) (hof obs) (fun o=>o<obs.length) w I O→
  vals.size=args.length→(∀j,j<args.length→Rep w I O (fun o=>o<obs.length) (nth args j) (vals.getD j Go.undef))→
  Calls P f vals w fun e w'=>∃x I' O',e=.returned x∧Rel cfg (EO w I O obs.length) (zn obs') (fun o=>o<obs'.length) w' I' O'∧
   Rep w' I' O' (fun o=>o<obs'.length) r x
section
variable {P:Program} {cfg:rU} {cx:Ctx} {H:Nat→Option cB} {D:Nat→Prop} {w:World} {I:Nat→Prop} {O:OM}
def xY (D:Nat→Prop) (n:Nat):Nat→Prop:=fun o=>D o∨(n≤o∧o<n+stride)
def PO (D:Nat→Prop) (n:Nat):Prop:=∀o,n≤o→o<n+stride→¬ D o
theorem PO.one {D:Nat→Prop} {n:Nat} (h:PO D n):¬ D n:=h n (Nat.le_refl _) (by unfold stride; omega)
theorem Mi {D:Nat→Prop} {n o:Nat} (h:o=n):xY D n o:=.inr ⟨by omega,by unfold stride; omega⟩
def dR (P:Program) (cfg:rU) (cx:Ctx) (H:Nat→Option cB) (D:Nat→Prop) (w:World) (I:Nat→Prop) (O:OM) (nid:Nat) (o:Oper) (a:Act) (v:AV) (ups:jh):Prop:=
 ∀(next:Act→World→Prop) (Q:Exit→Act→World→Prop),
  (∀x w' I' O',Rel cfg cx (jQ H ups) (xY D nid) w' I' O'→(∀u y,Rep w I O D u y→Rep w' I' O' (xY D nid) u y)→Rep w' I' O' (xY D nid) v x→next (a.put o.dst x) w')→
  o.wp P a w next Q
theorem xZ (H:Nat→Option cB):jQ H []=H:=rfl
theorem fM.mono {w':World} {I':Nat→Prop} {O':OM} {D':Nat→Prop} {p:Own} {ob:cB} (hI:∀b,I b→I' b) (hw:∀b,I b→w'.heap[b]? = w.heap[b]?)
  (hO:∀o,D o→O' o=O o∨O' o=none) (hD:∀o,D o→D' o) (hu:∀o p,O o=some p→D o) (hb:∀b bo sz,p.pl=some (b,bo,sz)→w'.heap[b]? = w.heap[b]?)
  (h:fM w I O D p ob):fM w' I' O' D' p ob:=by
 cases ob with
 | box cs=>
  obtain ⟨h1,b,bo,sz,hp,ha,hl,hc⟩:=h;have hh:=hb b bo sz hp;refine ⟨h1,b,bo,sz,hp,fun j hj=>?_,hl,fun j hj=>?_⟩
  ·rw [gT hh,DF hh]; exact ha j hj
  ·rw [cellAt,gT hh]; exact (hc j hj).mono hI hw hO hD hu
 | row es n g=>
  obtain ⟨h1,h2,h3,h4⟩:=h;refine ⟨h1,h2,h3,?_⟩;rcases h4 with h4 | ⟨b,bo,sz,hp,ha,hl,hc⟩
  ·exact .inl h4
  ·have hh:=hb b bo sz hp;refine .inr ⟨b,bo,sz,hp,fun j hj=>?_,hl,fun i j hi hj=>?_⟩
   ·rw [gT hh,DF hh]; exact ha j hj
   ·rw [cellAt,gT hh]; exact ⟨(hc i j hi hj).1.mono hI hw,(hc i j hi hj).2⟩
 | map kd z f=>
  obtain ⟨h1,b,bo,sz,es,clock,hp,hw2,hm⟩:=h;exact ⟨h1,b,bo,sz,es,clock,hp,by rw [hb b bo sz hp]; exact hw2,hm⟩
theorem Rel.rP (hR:Rel cfg cx H D w I O) (n:Nat):Rel cfg cx H (xY D n) w I O:=
 { hR with
  used:=fun o p h=>.inl (hR.used o p h)
  objs:=fun o ob p h h'=>(hR.objs o ob p h h').mono (fun _ h=>h) (fun _ _=>rfl) (fun _ _=>.inl rfl) (fun _ h=>.inl h) hR.used (fun _ _ _ _=>rfl)
  Dm:=fun o h=>.inl (hR.Dm o h) }
theorem Rep.rP (hR:Rel cfg cx H D w I O) (n:Nat) {v:AV} {x:Value} (h:Rep w I O D v x):Rep w I O (xY D n) v x:=
 h.mono (fun _ h=>h) (fun _ _=>rfl) (fun _ _=>.inl rfl) (fun _ h=>.inl h) hR.used
theorem oC {o:Oper} {a:Act} {x:Value} {w':World} {next:Act→World→Prop} {Q:Exit→Act→World→Prop} (h:(execOp a.eval o).run P w=.ok (.value x) w') (hn:next (a.put o.dst x) w'):o.wp P a w next Q:=by
 unfold Oper.wp; rw [h]; exact hn
theorem dR.dD {nid:Nat} {o:Oper} {a:Act} {v:AV} {x:Value} (hR:Rel cfg cx H D w I O) (h:(execOp a.eval o).run P w=.ok (.value x) w) (hv:Rep w I O D v x):dR P cfg cx H D w I O nid o a v []:=by
 intro next Q hn
 exact oC h (hn x w I O (by rw [xZ]; exact hR.rP nid) (fun u y hu=>hu.rP hR nid) (hv.rP hR nid))
theorem Rep.jw {b:Bool} {x:Value} (h:Rep w I O D (.bool b) x):x=.bool b:=by
 cases h with | pure h=>cases h; rfl
theorem Rep.fP {k:IntKind} {n:Int} {x:Value} (h:Rep w I O D (.int k n) x):x=.int k n:=by
 cases h with | pure h=>cases h; rfl
theorem Rep.wM {s:ByteArray} {x:Value} (h:Rep w I O D (.str s) x):x=.string s:=by
 cases h with | pure h=>cases h; rfl
theorem Rep.Aj {es n:Nat} {f:Bool} {g:Nat→AV} {x:Value} (h:Rep w I O D (.sl es n f g) x):PRep w I (.sl es n f g) x:=by
 cases h with | pure h=>exact h
theorem Rep.PS {cs:List AV} {x:Value} (h:Rep w I O D (.ro cs) x):PRep w I (.ro cs) x:=by
 cases h with | pure h=>exact h
theorem Rep.qH {cs:List AV} {x:Value} (h:Rep w I O D (.agg cs) x):∃vs:Array Value,x=.agg vs∧vs.size=cs.length∧∀j,j<cs.length→Rep w I O D (nth cs j) (vs.getD j Go.undef):=by
 cases h with
 | pure h=>cases h with | agg hl hr=>exact ⟨_,rfl,hl,fun j hj=>.pure (hr j hj)⟩
 | agg hl hr=>exact ⟨_,rfl,hl,hr⟩
theorem Rep.CG {cs:List AV} {x:Value} (h:Rep w I O D (.jX cs) x):∃vs:Array Value,x=.tuple vs∧vs.size=cs.length∧∀j,j<cs.length→Rep w I O D (nth cs j) (vs.getD j Go.undef):=by
 cases h with
 | pure h=>cases h with | jX hl hr=>exact ⟨_,rfl,hl,fun j hj=>.pure (hr j hj)⟩
 | jX hl hr=>exact ⟨_,rfl,hl,hr⟩
theorem Rep.FC {f:FuncId} {cs:List AV} {x:Value} (h:Rep w I O D (.fn f cs) x):∃vs:Array Value,x=.func (.func f) #[] vs∧vs.size=cs.length∧∀j,j<cs.length→Rep w I O D (nth cs j) (vs.getD j Go.undef):=by
 cases h with
 | pure h=>cases h with | fn hl hr=>exact ⟨_,rfl,hl,fun j hj=>.pure (hr j hj)⟩
 | fn hl hr=>exact ⟨_,rfl,hl,hr⟩
theorem Rep.lF {o i off:Nat} {x:Value} {p:Own} (ho:O o=some p) (h:Rep w I O D (.ptr o i off) x):∃b bo sz,p.pl=some (b,bo,sz)∧i<p.n∧x=.pointer (some ⟨b,bo+(i*p.es+off),none⟩):=by
 cases h with
 | pure h=>cases h
 | @ptr _ _ _ b bo sz p' ho' hp hi=>
  have:p'=p:=Option.some.inj (ho'.symm.trans ho);subst this;exact ⟨b,bo,sz,hp,hi,rfl⟩
 | xX ho'=>rw [ho] at ho'; cases ho'
theorem Rep.kG {o i n:Nat} {full:Bool} {x:Value} {p:Own} (ho:O o=some p) (h:Rep w I O D (.dh o i n full) x):∃a cap,x=.slice a n cap∧i+n≤p.n∧n≤cap∧(full=true→cap=n)∧
  (cap≠0→∃b bo sz,p.pl=some (b,bo,sz)∧a=some ⟨b,bo+i*p.es,none⟩∧bo+(i+cap)*p.es≤sz):=by
 cases h with
 | pure h=>cases h
 | @dh _ _ _ _ p' a cap ho' hi hcap hfull hpl hext=>
  have:p'=p:=Option.some.inj (ho'.symm.trans ho);subst this;exact ⟨a,cap,rfl,hi,hcap,hfull,hpl⟩
 | wB ho'=>rw [ho] at ho'; cases ho'
theorem Rep.zA {o i n n' cap:Nat} {full:Bool} {aa:Option Addr} {p:Own} (ho:O o=some p) (h:Rep w I O D (.dh o i n full) (.slice aa n' cap)):p.n≤i+cap:=by
 cases h with
 | pure h=>cases h
 | @dh _ _ _ _ p' a cap ho' hi hcap hfull hpl hext=>
  have:p'=p:=Option.some.inj (ho'.symm.trans ho);subst this;exact hext
 | wB ho'=>rw [ho] at ho'; cases ho'
theorem Rep.PU {o:Nat} {x:Value} {p:Own} (ho:O o=some p) (h:Rep w I O D (.mref o) x):∃b bo sz,p.pl=some (b,bo,sz)∧x=.map (some b):=by
 cases h with
 | pure h=>cases h
 | @mref _ b bo sz p' ho' hp=>
  have:p'=p:=Option.some.inj (ho'.symm.trans ho);subst this;exact ⟨b,bo,sz,hp,rfl⟩
 | KD ho'=>rw [ho] at ho'; cases ho'
theorem PV {v:AV} {x:Value} (h:Rep w I O D v x) (hk:Pq v=true):x.oneCell'=true:=by
 cases h with
 | pure h=>cases h<;>first | rfl | cases hk
 | ptr=>rfl
 | dh=>rfl
 | mref=>rfl
 | KD _ _ h1=>exact h1
 | xX _ _ h1=>exact h1
 | wB _ _ h1=>exact h1
 | agg=>cases hk
 | fn=>rfl
 | jX=>cases hk
theorem NG {l:List AV} (h:Cx l=true):∀j,j<l.length→Pq (nth l j)=true:=by
 induction l with
 | nil=>intro j hj; cases hj
 | cons v l ih=>
  intro j hj;unfold Cx at h;cases hv:Pq v with
  | false=>simp [hv] at h
  | true=>
   simp only [hv] at h;cases j with
   | zero=>exact hv
   | succ j=>exact ih h j (by simpa using hj)
theorem Rep.cells {v:AV} {x:Value} (h:Rep w I O D v x) (hk:Cx v.cells=true):x.cells.size=v.cells.length∧∀j,j<v.cells.length→Rep w I O D (nth v.cells j) (x.cells.getD j Go.undef)∧(x.cells.getD j Go.undef).oneCell'=true:=by
 have one:∀ {v:AV} {x:Value},Rep w I O D v x→v.cells=[v]→Pq v=true→x.cells.size=v.cells.length∧∀j,j<v.cells.length→Rep w I O D (nth v.cells j) (x.cells.getD j Go.undef)∧(x.cells.getD j Go.undef).oneCell'=true:=by
  intro v x h hc ho;have h1:=PV h ho;have hx:x.cells=#[x]:=by cases x<;>first | rfl | cases h1
  rw [hc,hx];refine ⟨rfl,fun j hj=>?_⟩;have:j=0:=by simpa using hj
  subst this;exact ⟨h,h1⟩
 cases v with
 | agg cs=>
  obtain ⟨vs,rfl,hl,hr⟩:=h.qH;exact ⟨hl,fun j hj=>⟨hr j hj,PV (hr j hj) (NG hk j hj)⟩⟩
 | undef=>cases hk
 | jX vs=>cases hk
 | _=>exact one h rfl rfl
end
end Go.Ab




namespace Go.Ab
section
variable {P:Program} {cfg:rU} {cx:Ctx} {H:Nat→Option cB} {D:Nat→Prop} {w:World} {I:Nat→Prop} {O:OM} {Sp:kY}
theorem dQ.jy {v v':AV} {ups ups':jh} {r:List Nat} (h:dQ Sp H (.ret v ups) v' ups' r):v'=v∧ups'=ups:=by cases h; exact ⟨rfl,rfl⟩
theorem dQ.x9 {p:Prop} [Decidable p] {k:Pg} {v':AV} {ups':jh} {r:List Nat} (h:dQ Sp H (.need p k) v' ups' r):p∧dQ Sp H k v' ups' r:=by cases h with | need hp h=>exact ⟨hp,h⟩
theorem dQ.kK {o:Nat} {k:cB→Pg} {v':AV} {ups':jh} {r:List Nat} (h:dQ Sp H (.rd o k) v' ups' r):∃x r',H o=some x∧dQ Sp H (k x) v' ups' r':=by cases h with | rd ho h=>exact ⟨_,_,ho,h⟩
theorem dQ.aR {v':AV} {ups':jh} {r:List Nat} (h:dQ Sp H .fail v' ups' r):False:=by cases h
theorem dQ.fO {p:Prop} [Decidable p] {v v':AV} {ups':jh} {r:List Nat} (h:dQ Sp H (kF p v) v' ups' r):p∧v'=v∧ups'=[]:=by
 obtain ⟨hp,h⟩:=dQ.x9 h; exact ⟨hp,h.jy⟩
theorem dQ.dN {v v':AV} {ups':jh} {r:List Nat} (h:dQ Sp H (iJ v) v' ups' r):v'=v∧ups'=[]:=h.jy
theorem dQ.bM {b:Bool} {k:Pg} {v':AV} {ups':jh} {r:List Nat} (h:dQ Sp H (dZ b k) v' ups' r):b=true∧dQ Sp H k v' ups' r:=by
 cases b with
 | true=>exact ⟨rfl,h⟩
 | false=>exact (dQ.aR h).elim
theorem dQ.xL {v:AV} {k:List AV→Pg} {v':AV} {ups':jh} {r:List Nat} (h:dQ Sp H (Fg v k) v' ups' r):Cx v.cells=true∧dQ Sp H (k v.cells) v' ups' r:=by
 unfold Fg at h;cases hb:Cx v.cells with
 | true=>simp only [hb] at h; exact ⟨rfl,h⟩
 | false=>simp only [hb] at h; exact (dQ.aR h).elim
theorem dQ.jR {t:TypeId} {k:Jf→Pg} {v':AV} {ups':jh} {r:List Nat} (h:dQ Sp H (Oc cfg t k) v' ups' r):∃ti,look cfg.ty t=some ti∧dQ Sp H (k ti) v' ups' r:=by
 unfold Oc at h;cases hb:look cfg.ty t with
 | some ti=>simp only [hb] at h; exact ⟨ti,rfl,h⟩
 | none=>simp only [hb] at h; exact (dQ.aR h).elim
theorem dQ.mQ {t:TypeId} {k:Jf→Pg} {v':AV} {ups':jh} {r:List Nat} (h:dQ Sp H (zy cfg t k) v' ups' r):∃tt e ti,look cfg.ty t=some tt∧tt.desc=.slice e∧look cfg.ty e=some ti∧dQ Sp H (k ti) v' ups' r:=by
 unfold zy at h;cases hb:look cfg.ty t with
 | some tt=>
  simp only [hb] at h;cases hd:tt.desc with
  | slice e=>
   simp only [hd] at h;obtain ⟨ti,h1,h2⟩:=h.jR;exact ⟨tt,e,ti,rfl,hd,h1,h2⟩
  | _=>simp only [hd] at h; exact (dQ.aR h).elim
 | none=>simp only [hb] at h; exact (dQ.aR h).elim
theorem fq.slice (hc:fq P cfg) {t e:TypeId} {tt ti:Jf} (h:look cfg.ty t=some tt) (hd:tt.desc=.slice e) (h':look cfg.ty e=some ti):
  P.underlying t=some (.slice e)∧∃i z,P.info? e=some i∧i.zero=some z∧i.size=ti.size∧i.bytes=ti.bytes∧z.cells.size=ti.size:=by
 obtain ⟨i,d,z,_,hu,_,_,_,_,_,_,_,hm⟩:=(hc.ty t tt h).ex;rw [hd] at hm;obtain ⟨i',d',z',h1,_,h2,h3,h4,_,h5,_⟩:=(hc.ty e ti h').ex;exact ⟨by rw [hu,hm],i',z',h1,h2,h3,h4,h5⟩
theorem eF {t:TypeId} {i:TypeInfo} (h:P.info? t=some i) (w:World):(sizeOf t).run P w=.ok i.size w:=by
 simp [sizeOf,typeInfo,h]
theorem bO {t:TypeId} {d:TypeDesc} (h:P.underlying t=some d) (w:World):(underlying t).run P w=.ok d w:=by
 simp [underlying,h]
variable {nid:Nat} {o:Oper} {a:Act} {ρ:Operand→AV} {v:AV} {ups:jh} {r:List Nat}
theorem acd (hR:Rel cfg cx H D w I O) {x:Operand} (ho:o.op=.move x) (hx:Rep w I O D (ρ x) (a.eval x)):dR P cfg cx H D w I O nid o a (ρ x) []:=
 dR.dD hR (by simp [execOp,ho]) hx
theorem YD (hR:Rel cfg cx H D w I O) {x:Operand} (ho:o.op=.assign x) (hx:Rep w I O D (ρ x) (a.eval x)):dR P cfg cx H D w I O nid o a (ρ x) []:=
 dR.dD hR (by simp [execOp,ho]) hx
theorem YE (c:Value) (ho:ofConst c≠.undef):∀ {x:Value},x=c→Rep w I O D (ofConst c) x:=by
 intro x hx;subst hx;refine .pure ?_;unfold ofConst;split
 ·exact .bool _
 ·exact .int _ _
 ·exact .str _
 ·exact .sl 0 0 (fun _ _=>Go.undef) (Nat.le_refl _) (fun _=>rfl) (fun h=>absurd rfl h) (fun i h=>by cases h) (fun i j h=>by cases h) (fun i j h=>by cases h) (fun i j h=>by cases h)
 ·exact .zm
 ·rename_i h1 h2 h3 h4 h5;exact .undef _
theorem WE (c:Value):Rep w I O D (ofConst c) c:=by
 by_cases h:ofConst c=.undef
 ·rw [h]; exact .pure (.undef _)
 ·exact YE c h rfl
theorem ace (hR:Rel cfg cx H D w I O) {c x y:Operand} (ho:o.op=.pick c x y) (hc:Rep w I O D (ρ c) (a.eval c))
  (hx:∀b,ρ c=.bool b→b=true→Rep w I O D (ρ x) (a.eval x)) (hy:∀b,ρ c=.bool b→b=false→Rep w I O D (ρ y) (a.eval y))
  (hcx:∀v,x=.const v→ρ x=ofConst v∧a.eval x=v) (hcy:∀v,y=.const v→ρ y=ofConst v∧a.eval y=v)
  (h:dQ Sp H (Wx (ρ c) x y (ρ x) (ρ y)) v ups r):dR P cfg cx H D w I O nid o a v ups:=by
 cases hcv:ρ c with
 | bool b=>
  rw [hcv] at hc h;have hb:=hc.jw;have hx':=hx b hcv;have hy':=hy b hcv;have run:(execOp a.eval o).run P w=.ok (.value (if b then a.eval x else a.eval y)) w:=by
   simp [execOp,ho,hb,asBool]
  unfold Wx at h;simp only at h;split at h
  ·rename_i hz;obtain ⟨rfl,rfl⟩:=h.dN;obtain ⟨_,e2⟩:=hcy _ rfl;refine dR.dD hR run ?_;cases b with
   | true=>have:=(hx' rfl); rw [hz] at this; rw [this.jw]; exact .pure (.bool _)
   | false=>rw [e2]; exact .pure (.bool _)
  ·rename_i hz _;obtain ⟨rfl,rfl⟩:=h.dN;obtain ⟨_,e2⟩:=hcx _ rfl;refine dR.dD hR run ?_;cases b with
   | true=>simp only [if_true]; rw [e2]; exact .pure (.bool _)
   | false=>have:=(hy' rfl); rw [hz] at this; simp only [Bool.false_eq_true,if_false]; rw [this.jw]; exact .pure (.bool _)
  ·rename_i h1 h2;obtain ⟨rfl,rfl⟩:=h.dN;refine dR.dD hR run ?_;cases b with
   | true=>have:=(hx' rfl); rw [h1] at this; rw [this.jw]; exact .pure (.bool _)
   | false=>have:=(hy' rfl); rw [h2] at this; simp only [Bool.false_eq_true,if_false]; rw [this.jw]; exact .pure (.bool _)
  ·obtain ⟨rfl,rfl,rfl⟩:=h.fO;refine dR.dD hR run ?_;simpa using hy' rfl
  ·obtain ⟨rfl,rfl,rfl⟩:=h.fO;refine dR.dD hR run ?_;simpa using hx' rfl
  ·exact (dQ.aR h).elim
 | _=>rw [hcv] at h; exact (dQ.aR h).elim
theorem wrap_i64 {n:Int} (h:InI64 n):IntKind.i64.wrap n=n:=IntWalk.i64_in _ ⟨h.1,h.2⟩
theorem run_equal_bool {t:TypeId} (hu:P.underlying t=some .bool) (a b:Bool) (w:World):(Op.equal t (.bool a) (.bool b)).run P w=.ok (a==b) w:=by
 have:∀d,(Op.equalIn (d+1) t (.bool a) (.bool b)).run P w=.ok (a==b) w:=fun d=>by
  simp [Op.equalIn,bO hu]
 exact this 9999
theorem KF {t:TypeId} {d:TypeDesc} (hu:P.underlying t=some d) (hd:d.isRow=false) (vs:Array Value) (i:Nat) (hi:i<vs.size) (w:World):(part t vs i).run P w=.ok (vs.getD i Go.undef) w:=by
 have hag:(isAgg t).run P w=.ok false w:=by
  unfold isAgg;rw [Sem.run_bind,bO hu w];cases d<;>simp at hd ⊢
 simp [part,Sem.run_bind,hag,Array.getElem?_eq_getElem hi]
theorem Sv:∀(a b:List AV) {j:Nat},j<a.length→nth (a++b) j=nth a j:=by
 intro a;induction a with
 | nil=>intro b j h; exact absurd h (Nat.not_lt_zero _)
 | cons x a ih=>intro b j h; cases j with
  | zero=>rfl
  | succ j=>exact ih b (by simpa using h)
theorem Sw:∀(a b:List AV) (j:Nat),nth (a++b) (a.length+j)=nth b j:=by
 intro a;induction a with
 | nil=>intro b j; simp
 | cons x a ih=>intro b j; rw [List.length_cons,show a.length+1+j=(a.length+j)+1 by omega]; exact ih b j
theorem KG (xs:Array Value) (k m j:Nat) (hj:j<m) (h:k+m≤xs.size):(xs.extract k (k+m)).getD j Go.undef=xs.getD (k+j) Go.undef:=by
 rw [Array.getD_eq_getD_getElem?, Array.getD_eq_getD_getElem?, Array.getElem?_extract_of_lt (by rw [Nat.min_eq_left h]; omega),Array.getElem?_eq_getElem om]
theorem acf:∀(zs:List ZK) (cs cs':List AV) (r:Bool),Mc zs cs cs'=some r→cs.length=zs.length∧cs'.length=zs.length:=by
 intro zs;induction zs with
 | nil=>intro cs cs' r h; cases cs<;>cases cs'<;>simp [Mc] at h ⊢
 | cons z zs ih=>
  intro cs cs' r h;cases cs with
  | nil=>cases z<;>simp [Mc] at h
  | cons c cs=>cases cs' with
   | nil=>cases z<;>cases c<;>simp [Mc] at h
   | cons c' cs'=>
    have:∃r',Mc zs cs cs'=some r':=by
     cases z<;>cases c<;>cases c'<;>simp only [Mc] at h<;>first | (cases h; done) | skip
     all_goals
      split at h
      ·first | exact ⟨_,by assumption⟩
      ·cases h
    obtain ⟨r',h'⟩:=this
    have:=ih _ _ _ h'
    simp [this]
theorem acg:∀(z1 z2:List ZK) (cs cs':List AV) (r:Bool),Mc (z1++z2) cs cs'=some r→∃c1 c2 c1' c2' r1 r2,cs=c1++c2∧cs'=c1'++c2'∧Mc z1 c1 c1'=some r1∧Mc z2 c2 c2'=some r2∧r=(r1&&r2):=by
 intro z1;induction z1 with
 | nil=>intro z2 cs cs' r h; exact ⟨[],cs,[],cs',true,r,rfl,rfl,rfl,h,by simp⟩
 | cons z z1 ih=>
  intro z2 cs cs' r h;cases cs with
  | nil=>cases z<;>simp [Mc] at h
  | cons c cs=>cases cs' with
   | nil=>cases z<;>cases c<;>simp [Mc] at h
   | cons c' cs'=>
    cases z<;>cases c<;>cases c'<;>simp only [List.cons_append,Mc] at h<;>first | (cases h; done) | skip
    ·split at h
     ·rename_i r' h'
      cases h
      obtain ⟨c1,c2,c1',c2',r1,r2,e1,e2,e3,e4,e5⟩:=ih _ _ _ _ h'
      subst e1 e2 e5
      exact ⟨_::c1,c2,_::c1',c2',_,r2,rfl,rfl,by simp only [Mc,e3]; rfl,e4,by rw [Bool.and_assoc]⟩
     ·cases h
    ·split at h
     ·rename_i r' k1 k2 h'
      cases h
      obtain ⟨c1,c2,c1',c2',r1,r2,e1,e2,e3,e4,e5⟩:=ih _ _ _ _ h'
      subst e1 e2 e5
      exact ⟨_::c1,c2,_::c1',c2',_,r2,rfl,rfl,by simp only [Mc,e3,k1,k2]; rfl,e4,by rw [Bool.and_assoc]⟩
     ·cases h
    ·split at h
     ·rename_i r' h'
      cases h
      obtain ⟨c1,c2,c1',c2',r1,r2,e1,e2,e3,e4,e5⟩:=ih _ _ _ _ h'
      subst e1 e2 e5
      exact ⟨_::c1,c2,_::c1',c2',_,r2,rfl,rfl,by simp only [Mc,e3]; rfl,e4,by rw [Bool.and_assoc]⟩
     ·cases h
theorem WG {t:TypeId} {dd:TypeDesc} {z:ZK} {c c':AV} {b:Bool} {u v:Value} (w:World) (d:Nat) (hu:P.underlying t=some dd) (hk:TF z dd) (h:Mc [z] [c] [c']=some b) (hx:Rep w I O D c u) (hy:Rep w I O D c' v):(Op.equalIn (d+1) t u v).run P w=.ok b w:=by
 cases z with
 | int kk=>
  cases c<;>cases c'<;>simp only [Mc] at h<;>first | (cases h; done) | skip
  rename_i k1 a k2 b;split at h
  ·rename_i r' e1 e2 e3;cases e3;cases h;have e1:kk=k1:=by simpa [sK] using e1
   have e2:kk=k2:=by simpa [sK] using e2
   subst e1; subst e2;rw [hx.fP,hy.fP,Bool.and_true];rw [hk] at hu;exact run_equalIn_int w d _ _ _ _ _ hu
  ·cases h
 | bool=>
  cases c<;>cases c'<;>simp only [Mc] at h<;>first | (cases h; done) | skip
  cases h;rw [hx.jw,hy.jw,Bool.and_true];rw [hk] at hu;exact run_equalIn_bool' w d _ _ _ hu
 | str=>
  cases c<;>cases c'<;>simp only [Mc] at h<;>first | (cases h; done) | skip
  cases h;rw [hx.wM,hy.wM,Bool.and_true];rw [hk] at hu;exact run_equalIn_string w d _ _ _ hu
 | slice=>exact hk.elim
 | ptr=>exact hk.elim
 | other=>exact hk.elim
theorem DJ {t:TypeId} {fs:Array Field} (hu:P.underlying t=some (.struct fs)) (vs:Array Value) (i:Nat) (w:World):(part t vs i).run P w=.ok (.agg (vs.extract i (i+P.cellsOf t))) w:=by
 obtain ⟨ti,hi⟩:=info_of_underlying hu;simp [part,isAgg,run_underlying hu,run_sizeOf w hi]
theorem aan (n:Nat) (xs ys:Array Value) (w:World) (d:Nat)
  (IH:∀(t:TypeId) (zs:List ZK) (cs cs':List AV) (us vs:Array Value) (r:Bool),EqT P n t zs→Mc zs cs cs'=some r→us.size=cs.length→vs.size=cs'.length→(∀j,j<cs.length→Rep w I O D (nth cs j) (us.getD j Go.undef))→(∀j,j<cs'.length→Rep w I O D (nth cs' j) (vs.getD j Go.undef))→(Op.equalIn (d+1) t (.agg us) (.agg vs)).run P w=.ok r w):
  ∀(fs:List Field) (zs:List ZK) (cs cs':List AV) (k:Nat) (r:Bool),Mc zs cs cs'=some r→ab8 P (EqT P n) fs zs k→
  k+cs.length≤xs.size→k+cs'.length≤ys.size→(∀j,j<cs.length→Rep w I O D (nth cs j) (xs.getD (k+j) Go.undef))→(∀j,j<cs'.length→Rep w I O D (nth cs' j) (ys.getD (k+j) Go.undef))→
  (Op.eqFields (d+1) xs ys fs).run P w=.ok r w:=by
 intro fs;induction fs with
 | nil=>
  intro zs cs cs' k r h hz _ _ _ _;cases zs with
  | cons=>exact hz.elim
  | nil=>cases cs<;>cases cs'<;>simp [Mc] at h ⊢ <;> (subst h; simp [Op.eqFields])
 | cons f fs ih=>
  intro zs cs cs' k r h hz hx hy hrx hry;obtain ⟨hnm,hof,z1,z2,rfl,hz1,hz2⟩:=hz;obtain ⟨c1,c2,c1',c2',r1,r2,rfl,rfl,e3,e4,rfl⟩:=acg _ _ _ _ _ h;obtain ⟨l1,l2⟩:=acf _ _ _ _ e3;simp only [List.length_append] at hx hy hrx hry;have nx1:∀j,j<c1.length→nth (c1++c2) j=nth c1 j:=fun j hj=>Sv _ _ hj;have nx2:∀j,nth (c1++c2) (c1.length+j)=nth c2 j:=fun j=>Sw _ _ j;have ny1:∀j,j<c1'.length→nth (c1'++c2') j=nth c1' j:=fun j hj=>Sv _ _ hj;have ny2:∀j,nth (c1'++c2') (c1'.length+j)=nth c2' j:=fun j=>Sw _ _ j;have ih':=ih z2 c2 c2' (k+z1.length) r2 e4 hz2 om om (fun j hj=>by
   have:=hrx (c1.length+j) om;rw [nx2,show k+(c1.length+j)=k+z1.length+j by omega] at this;exact this) (fun j hj=>by
   have:=hry (c1'.length+j) om;rw [ny2,show k+(c1'.length+j)=k+z1.length+j by omega] at this;exact this)
  have step:∀(u v:Value),(part f.type xs k).run P w=.ok u w→(part f.type ys k).run P w=.ok v w→(Op.equalIn (d+1) f.type u v).run P w=.ok r1 w→(Op.eqFields (d+1) xs ys (f::fs)).run P w=.ok (r1&&r2) w:=by
   intro u v px py hb;rw [Op.eqFields,if_pos hnm];simp only [hof,Sem.run_bind,px,py,Result.andThen_ok,hb];cases r1
   ·simp
   ·simpa using ih'
  rcases hz1 with ⟨z,dd,rfl,hu,hk⟩ | ⟨ho,hs⟩
  ·have hd:dd.isRow=false:=by cases z<;>simp only [TF] at hk<;>first | (subst hk; rfl) | exact hk.elim
   cases c1 with
   | nil=>simp at l1
   | cons c c1=>cases c1 with
    | cons=>simp at l1
    | nil=>cases c1' with
     | nil=>simp at l2
     | cons c' c1'=>cases c1' with
      | cons=>simp at l2
      | nil=>
       simp only [List.length_singleton] at hx hy hrx hry
       have hx0:=hrx 0 om
       have hy0:=hry 0 om
       exact step _ _ (KF hu hd xs k om w) (KF hu hd ys k om w) (WG w d hu hk e3 hx0 hy0)
  ·cases n with
   | zero=>exact ho.elim
   | succ n=>
    obtain ⟨fields,hu,_,_⟩:=id ho;refine step _ _ (DJ hu xs k w) (DJ hu ys k w) ?_;rw [hs];refine IH _ z1 c1 c1' _ _ r1 ho e3 (by rw [Array.size_extract]; omega) (by rw [Array.size_extract]; omega) (fun j hj=>?_) (fun j hj=>?_)
    ·have:=hrx j om;rw [nx1 j hj] at this;rw [KG _ _ _ _ om om];exact this
    ·have:=hry j om;rw [ny1 j hj] at this;rw [KG _ _ _ _ om om];exact this
theorem ach (w:World):∀(n d:Nat) (t:TypeId) (zs:List ZK) (cs cs':List AV) (us vs:Array Value) (r:Bool),EqT P n t zs→Mc zs cs cs'=some r→us.size=cs.length→vs.size=cs'.length→(∀j,j<cs.length→Rep w I O D (nth cs j) (us.getD j Go.undef))→(∀j,j<cs'.length→Rep w I O D (nth cs' j) (vs.getD j Go.undef))→(Op.equalIn (d+n+1) t (.agg us) (.agg vs)).run P w=.ok r w:=by
 intro n;induction n with
 | zero=>intro d t zs cs cs' us vs r h; exact h.elim
 | succ n IH=>
  intro d t zs cs cs' us vs r ⟨fields,hu,hh,hf⟩ h hl hl' hx hy;have hfo:P.fieldsOf t=fields:=by unfold Program.fieldsOf; rw [hu]
  rw [show d+(n+1)+1=(d+n+1)+1 by omega,run_equalIn_struct (P:=P) w (d+n+1) t us vs (by rw [hfo]; exact hu) hh,hfo];exact aan (I:=I) (O:=O) (D:=D) n us vs w (d+n) (fun t zs cs cs' us vs r a b c e f g=>IH d t zs cs cs' us vs r a b c e f g) fields.toList zs cs cs' 0 r h hf om om (fun j hj=>by simpa using hx j hj) (fun j hj=>by simpa using hy j hj)
theorem Jg (hc:fq P cfg) {t:TypeId} {zs:List ZK} (ht:look cfg.eqs t=some zs) {cs cs':List AV} {xs ys:Array Value} {r:Bool} (h:Mc zs cs cs'=some r) (hl:xs.size=cs.length) (hl':ys.size=cs'.length)
  (hx:∀j,j<cs.length→Rep w I O D (nth cs j) (xs.getD j Go.undef)) (hy:∀j,j<cs'.length→Rep w I O D (nth cs' j) (ys.getD j Go.undef)):(Op.equalIn 10000 t (.agg xs) (.agg ys)).run P w=.ok r w:=
 ach w 4 9995 t zs cs cs' xs ys r (hc.eqs t zs ht).ex h hl hl' hx hy
theorem aao (hc:fq P cfg) (hR:Rel cfg cx H D w I O) {op:BinOp} {t t':TypeId} {x y:Operand} (ho:o.op=.binOp op t x y t') (hx:Rep w I O D (ρ x) (a.eval x)) (hy:Rep w I O D (ρ y) (a.eval y))
  (h:dQ Sp H (ZW cfg op t (ρ x) (ρ y)) v ups r):dR P cfg cx H D w I O nid o a v ups:=by
 unfold ZW at h;split at h
 ·rename_i k n k' n' e1 e2;rw [e1] at hx; rw [e2] at hy;have hx':=hx.fP;have hy':=hy.fP;obtain ⟨hk1,h1⟩:=h.bM;clear h;have hk:k=k':=by simpa [sK] using hk1
  subst hk;have hg:∀(u:World),(eqGuard op t x y (.int k n) (.int k n')).run P u=.ok () u:=by
   intro u; unfold eqGuard; cases op<;>simp
  cases ha:KA op with
  | true=>
   simp only [ha] at h1;cases hk2:sK k .i64 with
   | true=>
    simp only [hk2] at h1;have h2:=h1;clear h1;have hk:k=.i64:=by simpa [sK] using hk2
    subst hk;cases op<;>simp [KA] at ha<;>simp only [arith] at h2<;>obtain ⟨hp,rfl,rfl⟩:=h2.fO<;>
     refine dR.dD (x:=.int .i64 _) hR ?_ (.pure (.int _ _))<;>simp [execOp,ho,hx',hy',hg,binOp,Op.intArith,Op.intDiv,wrap_i64,hp]
   | false=>
    simp only [hk2] at h1;cases op<;>simp [KA] at ha<;>simp only [ZV] at h1<;>first
     | exact (dQ.aR h1).elim
     | (obtain ⟨rfl,rfl⟩:=h1.dN
        refine dR.dD (x:=.int k _) hR ?_ (.pure (.int _ _))
        simp [execOp,ho,hx',hy',hg,binOp,Op.intArith])
  | false=>
   simp only [ha] at h1;cases op<;>simp [KA] at ha<;>simp only [aev] at h1<;>first
    | exact (dQ.aR h1).elim
    | (obtain ⟨rfl,rfl⟩:=h1.dN
       refine dR.dD (x:=.bool _) hR ?_ (.pure (.bool _))
       simp [execOp,ho,hx',hy',hg,binOp,Op.intCmp]
       done)
    | (obtain ⟨hp,rfl,rfl⟩:=h1.fO
       refine dR.dD (x:=.int k _) hR ?_ (.pure (.int _ _))
       have hp':=Int.not_lt.2 hp
       simp only [execOp,ho,hx',hy',hg,binOp,Op.shift,if_neg hp',aex,Sem.run_bind,Result.andThen_ok,Sem.run_pure]
       done)
    | (obtain ⟨rfl,rfl⟩:=h1.dN
       refine dR.dD (x:=.int k _) hR ?_ (.pure (.int _ _))
       simp [execOp,ho,hx',hy',hg,binOp,Op.intBits,aew])
 ·rename_i b b' e1 e2;rw [e1] at hx; rw [e2] at hy;have hx':=hx.jw;have hy':=hy.jw;obtain ⟨ti,ht,h1⟩:=h.jR;clear h;have hg:∀(u:World),(eqGuard op t x y (.bool b) (.bool b')).run P u=.ok () u:=by
   intro u; unfold eqGuard; cases op<;>simp
  have hd:ti.desc=.bool→P.underlying t=some .bool:=by
   intro hd;obtain ⟨i,d,z,_,hu,_,_,_,_,_,_,_,hm⟩:=(hc.ty t ti ht).ex;rw [hd] at hm;rw [hu,hm]
  split at h1
  ·rename_i hdd;obtain ⟨rfl,rfl⟩:=h1.dN;refine dR.dD (x:=.bool _) hR ?_ (.pure (.bool _));have e:=run_equal_bool (P:=P) (hd hdd) b b' w;simp [execOp,ho,hx',hy',hg,binOp,e]
  ·rename_i hdd;obtain ⟨rfl,rfl⟩:=h1.dN;refine dR.dD (x:=.bool _) hR ?_ (.pure (.bool _));have e:=run_equal_bool (P:=P) (hd hdd) b b' w;simp [execOp,ho,hx',hy',hg,binOp,e]
  ·exact (dQ.aR h1).elim
 ·rename_i s s' e1 e2;rw [e1] at hx; rw [e2] at hy;have hx':=hx.wM;have hy':=hy.wM;have hg:∀(u:World),(eqGuard op t x y (.string s) (.string s')).run P u=.ok () u:=by
   intro u; unfold eqGuard; cases op<;>simp
  unfold adn at h;cases op<;>simp only at h<;>first
   | exact (dQ.aR h).elim
   | (obtain ⟨rfl,rfl⟩:=h.dN
      refine dR.dD (x:=.bool _) hR ?_ (.pure (.bool _))
      simp [execOp,ho,hx',hy',hg,binOp,Op.stringOp]
      done)
   | (obtain ⟨hp,rfl,rfl⟩:=h.fO
      refine dR.dD (x:=.string _) hR ?_ (.pure (.str _))
      have hle:¬ (((s.size+s'.size:Nat):Int) > IntKind.i64.max):=by
       have:IntKind.i64.max=9223372036854775807:=by decide
       rw [this]
       omega
      simp only [execOp,ho,hx',hy',binOp,Op.stringOp,Sem.run_bind,hg,Result.andThen_ok]
      rw [if_neg hle]
      rfl)
 ·rename_i cs cs' e1 e2;rw [e1] at hx; rw [e2] at hy;obtain ⟨xs,hx',hl,hrx⟩:=hx.qH;obtain ⟨ys,hy',hl',hry⟩:=hy.qH;split at h
  ·rename_i zs hz;have hg:∀(u:World),(eqGuard op t x y (.agg xs) (.agg ys)).run P u=.ok () u:=fun u=>run_eqGuard_agg u op t x y xs ys (hc.eqs t zs hz).guard;split at h
   ·rename_i r' he;obtain ⟨rfl,rfl⟩:=h.dN;have e:=Jg hc hz he hl hl' hrx hry;refine dR.dD (x:=.bool _) hR ?_ (.pure (.bool _));simp only [execOp,ho,hx',hy',Sem.run_bind,hg,Result.andThen_ok,run_eql_struct,e];rfl
   ·rename_i r' he;obtain ⟨rfl,rfl⟩:=h.dN;have e:=Jg hc hz he hl hl' hrx hry;refine dR.dD (x:=.bool _) hR ?_ (.pure (.bool _));simp only [execOp,ho,hx',hy',Sem.run_bind,hg,Result.andThen_ok,run_neq_struct,e];rfl
   ·exact (dQ.aR h).elim
  ·exact (dQ.aR h).elim
 ·exact (dQ.aR h).elim
theorem aci (hR:Rel cfg cx H D w I O) {op:UnOp} {t:TypeId} {x:Operand} (ho:o.op=.unOp op t x) (hx:Rep w I O D (ρ x) (a.eval x))
  (h:dQ Sp H (eP cfg nid (.unOp op t x) ρ) v ups r):dR P cfg cx H D w I O nid o a v ups:=by
 simp only [eP] at h;split at h
 ·rename_i b e;rw [e] at hx;obtain ⟨rfl,rfl⟩:=h.dN;refine dR.dD (x:=.bool _) hR ?_ (.pure (.bool _));simp [execOp,ho,hx.jw,Op.unary]
 ·rename_i k n e;rw [e] at hx;obtain ⟨hk1,h1⟩:=h.bM;have hk:k=.i64:=by simpa [sK] using hk1
  subst hk;obtain ⟨hp,rfl,rfl⟩:=h1.fO;refine dR.dD (x:=.int .i64 _) hR ?_ (.pure (.int _ _));simp [execOp,ho,hx.fP,Op.unary,Op.intArith,wrap_i64 hp]
 ·exact (dQ.aR h).elim
theorem UN (hR:Rel cfg cx H D w I O) {x:Operand} (ho:o.op=.nilCheck x) (hx:Rep w I O D (ρ x) (a.eval x))
  (h:dQ Sp H (eP cfg nid (.nilCheck x) ρ) v ups r):dR P cfg cx H D w I O nid o a v ups:=by
 simp only [eP] at h;split at h
 ·rename_i ob i off e;rw [e] at hx;obtain ⟨obj,_,hob,h1⟩:=h.kK;obtain ⟨rfl,rfl⟩:=h1.dN;cases hp:O ob with
  | none=>rw [(hR.dom ob).1 hp] at hob; cases hob
  | some p=>
   obtain ⟨b,bo,sz,h1,h2,h3⟩:=hx.lF hp;exact dR.dD hR (by simp [execOp,ho,h3]) (h3 ▸ hx)
 ·rename_i cs e;rw [e] at hx;obtain ⟨rfl,rfl⟩:=h.dN;generalize hxe:a.eval x=xv at hx;have hx0:=hx;cases hx.PS;exact dR.dD hR (by simp [execOp,ho,hxe]) hx0
 ·rename_i f cs e;rw [e] at hx;obtain ⟨rfl,rfl⟩:=h.dN;obtain ⟨vs,h1,h2,h3⟩:=hx.FC;exact dR.dD hR (by simp [execOp,ho,h1]) (h1 ▸ hx)
 ·exact (dQ.aR h).elim
theorem WH (hR:Rel cfg cx H D w I O) {t:Operand} {i:Nat} (ho:o.op=.extract t i) (hx:Rep w I O D (ρ t) (a.eval t))
  (h:dQ Sp H (eP cfg nid (.extract t i) ρ) v ups r):dR P cfg cx H D w I O nid o a v ups:=by
 simp only [eP] at h;split at h
 ·rename_i vs e;rw [e] at hx;obtain ⟨hl,h1⟩:=h.bM;obtain ⟨rfl,rfl⟩:=h1.dN;obtain ⟨xs,h1,h2,h3⟩:=hx.CG;have hl:i<vs.length:=by simpa using hl
  have hi:i<xs.size:=by omega
  refine dR.dD (x:=xs.getD i Go.undef) hR ?_ (h3 i hl);simp [execOp,ho,h1,Instr.extract,Array.getElem?_eq_getElem hi]
 ·exact (dQ.aR h).elim
theorem X6 {l:List Operand} (h:∀x∈l,Rep w I O D (ρ x) (a.eval x)):∀j,j<(l.map ρ).length→Rep w I O D (nth (l.map ρ) j) ((l.map a.eval).toArray.getD j Go.undef):=by
 intro j hj;have hj':j<l.length:=by simpa using hj
 rw [pQ];simp [hj'];exact h _ (List.getElem_mem hj')
theorem UO (hR:Rel cfg cx H D w I O) {fn:Fn} {first cap:Array Operand} (ho:o.op=.makeFunc fn first cap) (hx:∀x∈cap.toList,Rep w I O D (ρ x) (a.eval x))
  (h:dQ Sp H (eP cfg nid (.makeFunc fn first cap) ρ) v ups r):dR P cfg cx H D w I O nid o a v ups:=by
 simp only [eP] at h;split at h
 ·rename_i f e;obtain ⟨rfl,rfl⟩:=h.dN;have hf:first=#[]:=by simpa using e
  subst hf;refine dR.dD (x:=.func (.func f) #[] (cap.map a.eval)) hR (by simp [execOp,ho,Instr.makeFunc]) (.fn (by simp) fun j hj=>?_);have:=X6 hx j hj;simpa using this
 ·exact (dQ.aR h).elim
theorem adN (hc:fq P cfg) (hR:Rel cfg cx H D w I O) {c:Call} (ho:o.op=.call c) (hcl:c.callee=.builtin .len) (hx:∀x∈c.args.toList,Rep w I O D (ρ x) (a.eval x))
  (h:dQ Sp H (eP cfg nid (.call c) ρ) v ups r):dR P cfg cx H D w I O nid o a v ups:=by
 simp only [eP,hcl] at h;split at h
 ·rename_i u t e1 e2;obtain ⟨ti,ht,h1⟩:=h.jR;obtain ⟨x,hxe⟩:∃x,c.args=#[x]:=by
   match hl:c.args.toList with
   | []=>simp [hl] at e1
   | [x]=>exact ⟨x,by rw [← Array.toList_inj]; simpa using hl⟩
   | x::y::l=>simp [hl] at e1
  have e1':ρ x=u:=by simpa [hxe] using e1
  have hx':Rep w I O D u (a.eval x):=e1' ▸ hx x (by simp [hxe]);have hte:c.argTypes=#[t]:=by rw [← Array.toList_inj]; simpa using e2
  obtain ⟨_,dd,_,_,hud,_,_,_,_,_,_,_,hm⟩:=(hc.ty t ti ht).ex;split at h1
  ·rename_i e;rw [e] at hm;have hm:dd=.slice _:=hm;subst hm;obtain ⟨rfl,rfl⟩:=h1.dN;generalize hxv:a.eval x=xv at hx';cases hx'.Aj;refine dR.dD (x:=.int .i64 _) hR ?_ (.pure (.int _ _));simp [execOp,ho,hcl,resolve,invoke,builtin,Builtin.len_,hxe,hte,hxv,bO hud,goInt]
  ·rename_i ob i n f _ e;rw [e] at hm;have hm:dd=.slice _:=hm;subst hm;obtain ⟨obj,_,hob,h2⟩:=h1.kK;obtain ⟨rfl,rfl⟩:=h2.dN;cases hp:O ob with
   | none=>rw [(hR.dom ob).1 hp] at hob; cases hob
   | some p=>
    obtain ⟨aa,cap,hxv,_⟩:=hx'.kG hp;refine dR.dD (x:=.int .i64 _) hR ?_ (.pure (.int _ _));simp [execOp,ho,hcl,resolve,invoke,builtin,Builtin.len_,hxe,hte,hxv,bO hud,goInt]
  ·rename_i s e;rw [e] at hm;have hm:dd=.string:=hm;subst hm;obtain ⟨rfl,rfl⟩:=h1.dN;refine dR.dD (x:=.int .i64 _) hR ?_ (.pure (.int _ _));simp [execOp,ho,hcl,resolve,invoke,builtin,Builtin.len_,hxe,hte,hx'.wM,bO hud,goInt]
  ·exact (dQ.aR h1).elim
 ·exact (dQ.aR h).elim
theorem args2 {c:Call} {u u':AV} (e:c.args.toList.map ρ=[u,u']):∃x y,c.args=#[x,y]∧ρ x=u∧ρ y=u':=by
 match hl:c.args.toList with
 | []=>simp [hl] at e
 | [x]=>simp [hl] at e
 | [x,y]=>
  rw [hl] at e
  simp at e
  exact ⟨x,y,by rw [← Array.toList_inj]; simpa using hl,e.1,e.2⟩
 | x::y::z::l=>simp [hl] at e
theorem adO (hR:Rel cfg cx H D w I O) {c:Call} (ho:o.op=.call c) (hcl:c.callee=.builtin .min) (hx:∀x∈c.args.toList,Rep w I O D (ρ x) (a.eval x))
  (h:dQ Sp H (eP cfg nid (.call c) ρ) v ups r):dR P cfg cx H D w I O nid o a v ups:=by
 simp only [eP,hcl] at h;split at h
 ·rename_i k n k' n' e;obtain ⟨rfl,rfl⟩:=h.dN;obtain ⟨x,y,hxy,e1,e2⟩:=args2 e;have h1:=e1 ▸ hx x (by simp [hxy]);have h2:=e2 ▸ hx y (by simp [hxy]);refine dR.dD (x:=.int k _) hR ?_ (.pure (.int _ _));simp [execOp,ho,hcl,resolve,invoke,builtin,Builtin.min_,Builtin.min2,hxy,h1.fP,h2.fP]
 ·exact (dQ.aR h).elim
theorem adP (hR:Rel cfg cx H D w I O) {c:Call} (ho:o.op=.call c) (hcl:c.callee=.builtin .max) (hx:∀x∈c.args.toList,Rep w I O D (ρ x) (a.eval x))
  (h:dQ Sp H (eP cfg nid (.call c) ρ) v ups r):dR P cfg cx H D w I O nid o a v ups:=by
 simp only [eP,hcl] at h;split at h
 ·rename_i k n k' n' e;obtain ⟨rfl,rfl⟩:=h.dN;obtain ⟨x,y,hxy,e1,e2⟩:=args2 e;have h1:=e1 ▸ hx x (by simp [hxy]);have h2:=e2 ▸ hx y (by simp [hxy]);refine dR.dD (x:=.int k _) hR ?_ (.pure (.int _ _));simp [execOp,ho,hcl,resolve,invoke,builtin,Builtin.max_,Builtin.max2,hxy,h1.fP,h2.fP]
 ·exact (dQ.aR h).elim
theorem fq.field (hc:fq P cfg) {s:TypeId} {ts:Jf} {f oo t:Nat} (h:look cfg.ty s=some ts) (hf:H8 ts f=some (oo,t)):
  ∃fields fd,P.underlying s=some (.struct fields)∧fields[f]? = some fd∧fd.offset=oo∧fd.type=t:=by
 obtain ⟨_,dd,_,_,hud,_,_,_,_,_,_,_,hm⟩:=(hc.ty s ts h).ex;unfold H8 at hf;split at hf
 ·rename_i fs e;rw [e] at hm;obtain ⟨fields,rfl,hfs⟩:=hm;subst hfs;have key:∀(l:List Field) (f:Nat),Od (l.map fun f=>(f.offset,f.type)) f=some (oo,t)→∃fd,l[f]? = some fd∧fd.offset=oo∧fd.type=t:=by
   intro l;induction l with
   | nil=>intro f h; simp [Od] at h
   | cons x l ih=>
    intro f h;cases f with
    | zero=>simp [Od] at h; exact ⟨x,rfl,h.1,h.2⟩
    | succ f=>simp only [List.map_cons,Od] at h; simpa using ih f h
  obtain ⟨fd,h1,h2,h3⟩:=key _ _ hf;exact ⟨fields,fd,hud,by simpa using h1,h2,h3⟩
 ·cases hf
theorem FD (l:List AV) (k j:Nat):nth (l.drop k) j=nth l (k+j):=by
 simp [pQ]
theorem TG (hc:fq P cfg) (hR:Rel cfg cx H D w I O) {s:TypeId} {x:Operand} {f:Nat} (ho:o.op=.fieldAddr s x f) (hx:Rep w I O D (ρ x) (a.eval x))
  (h:dQ Sp H (eP cfg nid (.fieldAddr s x f) ρ) v ups r):dR P cfg cx H D w I O nid o a v ups:=by
 simp only [eP] at h;obtain ⟨ts,hs,h1⟩:=h.jR;split at h1
 ·rename_i oo t hf;obtain ⟨ti,ht,h2⟩:=h1.jR;obtain ⟨hpos,h3⟩:=h2.bM;have hpos:0<ti.size:=by simpa using hpos
  obtain ⟨fields,fd,hu,hfd,ho1,ho2⟩:=hc.field hs hf;obtain ⟨i,_,_,hi,_,_,hsz,_⟩:=(hc.ty t ti ht).ex;have hne:¬ i.size=0:=by omega
  have place:∀b bo,(Instr.fieldAt s (.pointer (some ⟨b,bo,none⟩)) f).run P w=.ok (.pointer (some ⟨b,bo+oo,none⟩)) w:=by
   intro b bo;simp [Instr.fieldAt,Instr.sureAddr,bO hu,hfd,fieldPlace,ho1,ho2,eF hi,hne,Addr.add_mid]
  split at h3
  ·rename_i ob i off e;rw [e] at hx;obtain ⟨obj,_,hob,h4⟩:=h3.kK;obtain ⟨rfl,rfl⟩:=h4.dN;cases hp:O ob with
   | none=>rw [(hR.dom ob).1 hp] at hob; cases hob
   | some p=>
    obtain ⟨b,bo,sz,h5,h6,h7⟩:=hx.lF hp;refine dR.dD (x:=.pointer (some ⟨b,bo+(i*p.es+(off+oo)),none⟩)) hR ?_ (.ptr hp h5 h6);have:bo+(i*p.es+off)+oo=bo+(i*p.es+(off+oo)):=by omega
    simp [execOp,ho,h7,place,this]
  ·rename_i cs e;rw [e] at hx;obtain ⟨rfl,rfl⟩:=h3.dN;generalize hxv:a.eval x=xv at hx;cases hx.PS with
   | ro b off vs hI hm hr=>
    refine dR.dD (x:=.pointer (some ⟨b,off+oo,none⟩)) hR (by simp [execOp,ho,hxv,place]) (.pure (.ro b (off+oo) (fun j=>vs (oo+j)) hI (fun j hj=>?_) fun j hj=>?_))
    ·have:=hm (oo+j) (by simp at hj; omega);rw [← this,Nat.add_assoc]
    ·rw [FD]; exact hr (oo+j) (by simp at hj; omega)
  ·exact (dQ.aR h3).elim
 ·exact (dQ.aR h1).elim
end
end Go.Ab

namespace Go.Ab
section
variable {P:Program} {cfg:rU} {cx:Ctx} {H:Nat→Option cB} {D:Nat→Prop} {w:World} {I:Nat→Prop} {O:OM} {Sp:kY}
variable {nid:Nat} {o:Oper} {a:Act} {ρ:Operand→AV} {v:AV} {ups:jh} {r:List Nat}
theorem fq.agg (hc:fq P cfg) {t:TypeId} {ti:Jf} (h:look cfg.ty t=some ti):∃i d,P.info? t=some i∧P.underlying t=some d∧d.isRow=ti.agg∧i.size=ti.size:=by
 obtain ⟨i,d,z,h1,h2,h3,h4,h5,h6,_⟩:=(hc.ty t ti h).ex;exact ⟨i,d,h1,h2,h6,h4⟩
theorem Mj {t:TypeId} {d:TypeDesc} (h:P.underlying t=some d) (w:World):(isAgg t).run P w=.ok d.isRow w:=by
 unfold isAgg;rw [Sem.run_bind,bO h w];cases d<;>simp
theorem mR (hc:fq P cfg) {t:TypeId} {ti:Jf} (ht:look cfg.ty t=some ti) {cs:List AV} (h:dQ Sp H (vD ti cs) v ups r) (b bo:Nat) (f:Nat→Value)
  (hm:∀j,j<cs.length→w.cell? ⟨b,bo+j,none⟩=some (f j)) (hr:∀j,j<cs.length→Rep w I O D (nth cs j) (f j)):
  ups=[]∧∃x,(Instr.loadAt t (.pointer (some ⟨b,bo,none⟩))).run P w=.ok x w∧Rep w I O D v x:=by
 obtain ⟨i,d,hi,hu,hd,hs⟩:=hc.agg ht;unfold vD at h;cases ha:ti.agg with
 | true=>
  simp only [ha] at h;obtain ⟨hl,h1⟩:=h.bM;obtain ⟨rfl,rfl⟩:=h1.dN;have hl:ti.size≤cs.length:=by simpa using hl
  refine ⟨rfl,.agg ((List.range ti.size).map f).toArray,?_,.agg (by simp [Nat.min_eq_left hl]) fun j hj=>?_⟩
  ·refine run_loadAt_mid w b bo t _ d (fun j u hj=>?_) hu (by rw [hd,ha]) (by simp [hi,hs]);have hlt:j<ti.size:=by
    rcases Nat.lt_or_ge j ti.size with h | h
    ·exact h
    ·simp [h] at hj
   simp [hlt] at hj;rw [← hj];exact hm j om
  ·have hj':j<ti.size:=by simp at hj; omega
   have e:nth (List.take ti.size cs) j=nth cs j:=by simp [pQ,hj']
   rw [e];simpa [hj'] using hr j om
 | false=>
  simp only [ha] at h;cases cs with
  | nil=>exact (dQ.aR h).elim
  | cons c cs=>
   obtain ⟨rfl,rfl⟩:=h.dN;refine ⟨rfl,f 0,?_,hr 0 (by simp)⟩;have h0:=hm 0 (by simp);have hag:(isAgg t).run P w=.ok false w:=by rw [Mj hu,hd,ha]
   simp only [Nat.add_zero] at h0;simp [Instr.loadAt,Instr.sureAddr,loadVar,Sem.run_bind,hag,load,Sem.run,h0]
theorem Rel.live (hR:Rel cfg cx H D w I O) {ob:Nat} {x:cB} (h:H ob=some x):∃p,O ob=some p∧fM w I O D p x:=by
 cases hp:O ob with
 | none=>rw [(hR.dom ob).1 hp] at h; cases h
 | some p=>exact ⟨p,rfl,hR.objs ob x p h hp⟩
theorem qb {b sz j:Nat} (h:Fy w b sz) (hj:j<sz):w.cell? ⟨b,j,none⟩=some (cellAt w b j):=by
 obtain ⟨u,hu⟩:=Option.isSome_iff_exists.1 (h j hj).1;simp [cellAt,hu]
theorem O5 {i j:Nat} (h:(Tn i&&Tn j)=true):i=0∧j=0:=by
 cases i<;>cases j<;>simp_all [Tn]
theorem X7 (l m:List AV) (j:Nat):nth (l++m) j=if j<l.length then nth l j else nth m (j - l.length):=by
 rw [pQ,pQ,pQ];by_cases h:j<l.length
 ·rw [if_pos h]; simp [List.getElem?_append_left h]
 ·rw [if_neg h]; simp [List.getElem?_append_right (by omega:l.length≤j)]
theorem Rn {es:Nat} {g:Nat→AV}:∀(k i:Nat),(∀j,i≤j→j<i+k→(g j).cells.length=es)→(gD k i g).length=k*es∧∀a b,a<k→b<es→nth (gD k i g) (a*es+b)=nth (g (i+a)).cells b:=by
 intro k;induction k with
 | zero=>intro i _; exact ⟨by simp [gD],fun a b h=>absurd h (Nat.not_lt_zero _)⟩
 | succ k ih=>
  intro i h;obtain ⟨h1,h2⟩:=ih (i+1) (fun j hj hj'=>h j om om);have h0:=h i (Nat.le_refl _) om;refine ⟨by simp only [gD,List.length_append,h0,h1]; rw [Nat.succ_mul]; omega,fun a b ha hb=>?_⟩;simp only [gD];rw [X7,h0];cases a with
  | zero=>simp only [Nat.zero_mul,Nat.zero_add,Nat.add_zero]; rw [if_pos hb]
  | succ a=>
   rw [if_neg (by rw [Nat.succ_mul]; omega)];have e1:(a+1)*es+b - es=a*es+b:=by rw [Nat.succ_mul]; omega
   rw [e1,h2 a b om hb];congr 2;congr 1;omega
theorem adQ {q n es:Nat} (h:q<n*es):q / es<n∧q % es<es∧q / es*es+q % es=q:=by
 have hes:0<es:=by
  rcases Nat.eq_zero_or_pos es with h0 | h0
  ·subst h0; simp at h
  ·exact h0
 refine ⟨Nat.div_lt_of_lt_mul (by rw [Nat.mul_comm]; exact h),Nat.mod_lt _ hes,?_⟩;rw [Nat.mul_comm];exact Nat.div_add_mod q es
theorem KH {w:World} {I:Nat→Prop} {es n b bo:Nat} {g:Nat→AV} (hlen:∀i,i<n→(g i).cells.length=es) (hcs:∀i j,i<n→j<es→PRep w I (nth (g i).cells j) (cellAt w b (bo+(i*es+j)))∧(cellAt w b (bo+(i*es+j))).oneCell'=true):
  (gD n 0 g).length=n*es∧∀q,q<(gD n 0 g).length→PRep w I (nth (gD n 0 g) q) (cellAt w b (bo+q)):=by
 obtain ⟨h1,h2⟩:=Rn n 0 (fun j _ hj=>hlen j om);refine ⟨h1,fun q hq=>?_⟩;rw [h1] at hq;obtain ⟨h3,h4,h5⟩:=adQ hq;have h6:=h2 (q / es) (q % es) h3 h4;have h7:=(hcs (q / es) (q % es) h3 h4).1;rw [h5] at h6 h7;rw [h6,Nat.zero_add];exact h7
theorem acj (hc:fq P cfg) (hR:Rel cfg cx H D w I O) {t:TypeId} {x:Operand} (ho:o.op=.load t x) (hx:Rep w I O D (ρ x) (a.eval x))
  (h:dQ Sp H (eP cfg nid (.load t x) ρ) v ups r):dR P cfg cx H D w I O nid o a v ups:=by
 simp only [eP] at h;obtain ⟨ti,ht,h1⟩:=h.jR;split at h1
 ·rename_i ob i off e;rw [e] at hx;obtain ⟨obj,_,hob,h2⟩:=h1.kK;obtain ⟨p,hp,hO⟩:=hR.live hob;obtain ⟨b,bo,sz,hpl,hi,hxv⟩:=hx.lF hp;cases obj with
  | map=>exact (dQ.aR h2).elim
  | box cs=>
   obtain ⟨hn,b',bo',sz',hpl',hal,hle,hcs⟩:=hO;rw [hpl] at hpl';cases hpl';have hi0:i=0:=by omega
   subst hi0;obtain ⟨rfl,x',hrun,hrep⟩:=mR (w:=w) (I:=I) (O:=O) (D:=D) hc ht h2 b (bo+off) (fun j=>cellAt w b (bo+(off+j)))
    (fun j hj=>by rw [Nat.add_assoc]; exact qb hal (by simp at hj; omega)) (fun j hj=>by rw [FD]; exact hcs (off+j) (by simp at hj; omega))
   refine dR.dD hR ?_ hrep;simp only [Nat.zero_mul,Nat.zero_add] at hxv;simp [execOp,ho,hxv,hrun]
  | row es n g=>
   obtain ⟨hn,hes,hlen,hpl' | ⟨b',bo',sz',hpl',hal,hle,hcs⟩⟩:=hO
   ·rw [hpl] at hpl'; cases hpl'.2
   rw [hpl] at hpl';cases hpl';simp only at h2;split at h2
   ·obtain ⟨hz,h3⟩:=h2.bM;obtain ⟨rfl,rfl⟩:=O5 hz;obtain ⟨hrl,hrr⟩:=KH hlen hcs;obtain ⟨rfl,x',hrun,hrep⟩:=mR (w:=w) (I:=I) (O:=O) (D:=D) hc ht h3 b bo (fun j=>cellAt w b (bo+j)) (fun j hj=>qb hal om) (fun j hj=>.pure (hrr j hj));refine dR.dD hR ?_ hrep;simp only [Nat.zero_mul,Nat.zero_add,Nat.add_zero] at hxv;simp [execOp,ho,hxv,hrun]
   obtain ⟨hk,h3⟩:=h2.bM;have hin:i<n:=by omega
   have hmul:(i+1)*es≤n*es:=Nat.mul_le_mul_right _ hin;have hmul':(i+1)*es=i*es+es:=Nat.succ_mul _ _;have hli:=hlen i hin;obtain ⟨rfl,x',hrun,hrep⟩:=mR (w:=w) (I:=I) (O:=O) (D:=D) hc ht h3 b (bo+(i*es+off)) (fun j=>cellAt w b (bo+(i*es+(off+j))))
    (fun j hj=>by
      have:bo+(i*es+off)+j=bo+(i*es+(off+j)):=by omega
      rw [this]
      exact qb hal (by simp at hj; omega)) (fun j hj=>by rw [FD]; exact .pure (hcs i (off+j) hin (by simp at hj; omega)).1)
   refine dR.dD hR ?_ hrep;rw [hes] at hxv;simp [execOp,ho,hxv,hrun]
 ·rename_i cs e;rw [e] at hx;generalize hxv:a.eval x=xv at hx;cases hx.PS with
  | ro b off vs hI hm hr=>
   obtain ⟨rfl,x',hrun,hrep⟩:=mR (w:=w) (I:=I) (O:=O) (D:=D) hc ht h1 b off vs hm (fun j hj=>.pure (hr j hj));exact dR.dD hR (by simp [execOp,ho,hxv,hrun]) hrep
 ·exact (dQ.aR h1).elim
theorem aap (hc:fq P cfg) (hR:Rel cfg cx H D w I O) {s:TypeId} {x:Operand} {f:Nat} (ho:o.op=.field s x f) (hx:Rep w I O D (ρ x) (a.eval x))
  (h:dQ Sp H (eP cfg nid (.field s x f) ρ) v ups r):dR P cfg cx H D w I O nid o a v ups:=by
 simp only [eP] at h;obtain ⟨ts,hs,h1⟩:=h.jR;split at h1
 ·rename_i oo t hf;obtain ⟨ti,ht,h2⟩:=h1.jR;obtain ⟨fields,fd,hu,hfd,ho1,ho2⟩:=hc.field hs hf;obtain ⟨i,d,hi,hu',hd,hsz⟩:=hc.agg ht;split at h2
  ·rename_i cs e;rw [e] at hx;obtain ⟨vs,hxv,hl,hr⟩:=hx.qH;have hag:=Mj hu' w;unfold vD at h2;cases ha:ti.agg with
   | true=>
    simp only [ha] at h2;obtain ⟨hle,h3⟩:=h2.bM;obtain ⟨rfl,rfl⟩:=h3.dN;have hle:ti.size≤cs.length - oo:=by simpa using hle
    rw [hd,ha] at hag;have e1:(part t vs oo).run P w=.ok (.agg (vs.extract oo (oo+ti.size))) w:=by simp [part,Sem.run_bind,hag,eF hi,hsz]
    refine dR.dD (x:=.agg (vs.extract oo (oo+ti.size))) hR ?_ (.agg ?_ fun j hj=>?_)
    ·rw [← ho2] at e1;simp only [execOp,ho,Instr.field,hxv,Sem.run_bind,bO hu,hfd,asAgg,Sem.run_pure,Result.andThen_ok,e1,ho1]
    ·simp; omega
    ·have hj':j<ti.size:=by simp at hj; omega
     have:=hr (oo+j) om;have e:nth (List.take ti.size (List.drop oo cs)) j=nth cs (oo+j):=by simp [pQ,hj']
     rw [e];have h4:oo+j<vs.size:=by omega
     simp [h4] at this;have h5:(vs.extract oo (oo+ti.size))[j]? = vs[oo+j]? := by
      rw [Array.getElem?_extract,if_pos om]
     simp only [Array.getD_eq_getD_getElem?, h5];simpa [h4] using this
   | false=>
    simp only [ha] at h2;rw [hd,ha] at hag;cases hcs:List.drop oo cs with
    | nil=>simp only [hcs] at h2; exact (dQ.aR h2).elim
    | cons c l=>
     simp only [hcs] at h2;obtain ⟨rfl,rfl⟩:=h2.dN;have hlt:oo<cs.length:=by
      rcases Nat.lt_or_ge oo cs.length with h | h
      ·exact h
      ·rw [List.drop_eq_nil_of_le h] at hcs; cases hcs
     have hc0:nth cs oo=v:=by
      have:=FD cs oo 0;rw [hcs] at this;simpa [nth] using this.symm
     have h4:oo<vs.size:=by omega
     have e1:(part t vs oo).run P w=.ok (vs.getD oo Go.undef) w:=by simp [part,Sem.run_bind,hag,Array.getElem?_eq_getElem h4]
     refine dR.dD (x:=vs.getD oo Go.undef) hR ?_ (hc0 ▸ hr oo hlt);rw [← ho2] at e1;simp only [execOp,ho,Instr.field,hxv,Sem.run_bind,bO hu,hfd,asAgg,Sem.run_pure,Result.andThen_ok,e1,ho1]
  ·exact (dQ.aR h2).elim
 ·exact (dQ.aR h1).elim
theorem sN {es n size:Nat} (h:JQ es n size=true) (hn:n≠0):es=size:=by
 unfold JQ at h;cases hb:Nat.beq es size with
 | true=>exact Nat.eq_of_beq_eq_true hb
 | false=>
  simp only [hb] at h;cases n with
  | zero=>exact absurd rfl hn
  | succ n=>simp [Tn] at h
theorem TH (i j:Nat):addN i j=i+j:=by cases i<;>simp [addN]
theorem Sy (hc:fq P cfg) {t:TypeId} {n et:Nat} (h:aad cfg t=some (n,et)):P.underlying t=some (.array n et)∧∃ti,look cfg.ty t=some ti∧Py ti.desc=some (n,et):=by
 unfold aad at h;split at h
 ·rename_i ti ht;refine ⟨?_,ti,ht,h⟩;obtain ⟨_,d,_,_,hu,_,_,_,_,_,_,_,hm⟩:=(hc.ty t ti ht).ex;unfold Py at h;split at h
  ·rename_i n' e' hd;cases h;rw [hd] at hm;have hm:d=.array n et:=hm;rw [hu,hm]
  ·cases h
 ·cases h
theorem TI (hc:fq P cfg) (hR:Rel cfg cx H D w I O) {t:TypeId} {x ix:Operand} (ho:o.op=.indexAddr t x ix) (hx:Rep w I O D (ρ x) (a.eval x)) (hix:Rep w I O D (ρ ix) (a.eval ix))
  (h:dQ Sp H (eP cfg nid (.indexAddr t x ix) ρ) v ups r):dR P cfg cx H D w I O nid o a v ups:=by
 simp only [eP] at h;split at h
 ·rename_i n et harr;obtain ⟨hu,_⟩:=Sy hc harr;obtain ⟨ei,hei,h1⟩:=h.jR;split at h1
  ·rename_i k ii ob j off e1 e2;rw [e1] at hix;rw [e2] at hx;have hixv:=hix.fP;obtain ⟨obj,_,hob,h2⟩:=h1.kK;obtain ⟨p,hp,hO⟩:=hR.live hob;obtain ⟨b,bo,sz,hpl,hjn,hxv⟩:=hx.lF hp;cases obj with
   | map=>exact (dQ.aR h2).elim
   | box cs=>exact (dQ.aR h2).elim
   | row es n' g=>
    obtain ⟨c1,h3⟩:=h2.bM;obtain ⟨c2,h4⟩:=h3.bM;obtain ⟨c3,h5⟩:=h4.bM;obtain ⟨⟨hn0,hn1⟩,rfl,rfl⟩:=h5.fO;obtain ⟨rfl,rfl⟩:=O5 c1;have c2:es=ei.size:=Nat.eq_of_beq_eq_true c2;have c3:n'=n:=Nat.eq_of_beq_eq_true c3;have hpes:p.es=es:=hO.2.1;have hpn:p.n=n':=hO.1;obtain ⟨i,_,z,hi,_,hz,hs,_⟩:=(hc.ty et ei hei).ex;simp only [Nat.zero_mul,Nat.add_zero] at hxv;refine dR.dD (x:=.pointer (some ⟨b,bo+(ii.toNat*p.es+0),none⟩)) hR ?_ (.ptr hp hpl om);simp [execOp,ho,hxv,hixv,Instr.indexAt,asIntOf,Instr.sureAddr,bO hu,eF hi,hn0,hn1,hs,← c2,hpes,Addr.add_mid]
  ·exact (dQ.aR h1).elim
 obtain ⟨tt,e,ti,h1,h2,h3,h4⟩:=h.mQ;obtain ⟨hu,i,z,hi,hz,hs,hby,hzs⟩:=hc.slice h1 h2 h3;split at h4
 ·rename_i k n eix;rw [eix] at hix;have hixv:=hix.fP;split at h4
  ·rename_i es m full g ex;rw [ex] at hx;obtain ⟨hes,h5⟩:=h4.bM;obtain ⟨⟨hn0,hn1⟩,rfl,rfl⟩:=h5.fO;generalize hxv:a.eval x=xv at hx;cases hx.Aj with
   | @sl _ _ _ _ aa cap b off vs hcap hfull ha hes' hm h1 hr=>
    have hm0:m≠0:=by omega
    obtain ⟨rfl,hI⟩:=ha hm0;have hesz:=sN hes hm0;have hnm:n.toNat<m:=by omega
    refine dR.dD (x:=.pointer (some ⟨b,off+n.toNat*es,none⟩)) hR ?_ (.pure (.ro b (off+n.toNat*es) (fun j=>vs n.toNat j) hI (fun j hj=>?_) fun j hj=>hr _ _ hnm (by rw [hes' _ hnm] at hj; exact hj)))
    ·simp [execOp,ho,hxv,hixv,Instr.indexAt,asIntOf,bO hu,eF hi,hn0,hn1,hs,hesz,Addr.add_mid]
    ·rw [Nat.add_assoc];exact hm _ _ hnm (by rw [hes' _ hnm] at hj; exact hj)
  ·rename_i ob j m full ex;rw [ex] at hx;obtain ⟨obj,_,hob,h5⟩:=h4.kK;obtain ⟨p,hp,hO⟩:=hR.live hob;cases obj with
   | map=>exact (dQ.aR h5).elim
   | box cs=>exact (dQ.aR h5).elim
   | row es n' g=>
    obtain ⟨hes,h6⟩:=h5.bM;have hes:es=ti.size:=Nat.eq_of_beq_eq_true hes;obtain ⟨⟨hn0,hn1⟩,rfl,rfl⟩:=h6.fO;obtain ⟨aa,cap,hxv,hjm,hcap,hfull,hpl⟩:=hx.kG hp;obtain ⟨b,bo,sz,hpl1,rfl,hle⟩:=hpl om;have hpes:p.es=es:=hO.2.1;have hnm:n.toNat<m:=by omega
    rw [TH];have:bo+j*p.es+n.toNat*p.es=bo+((j+n.toNat)*p.es+0):=by rw [Nat.add_mul]; omega
    refine dR.dD (x:=.pointer (some ⟨b,bo+((j+n.toNat)*p.es+0),none⟩)) hR ?_ (.ptr hp hpl1 om);rw [← this];simp [execOp,ho,hxv,hixv,Instr.indexAt,asIntOf,bO hu,eF hi,hn0,hn1,hs,← hes,hpes,Addr.add_mid]
  ·exact (dQ.aR h4).elim
 ·exact (dQ.aR h4).elim
end
end Go.Ab

namespace Go.Ab
section
variable {P:Program} {cfg:rU} {cx:Ctx} {H:Nat→Option cB} {D:Nat→Prop} {w:World} {I:Nat→Prop} {O:OM} {Sp:kY}
variable {nid:Nat} {o:Oper} {a:Act} {ρ:Operand→AV} {v:AV} {ups:jh} {r:List Nat}
theorem Jh {t e:TypeId} {i:TypeInfo} (hu:P.underlying t=some (.slice e)) (hi:P.info? e=some i) (aa:Option Addr) (len cap:Nat) (lo hi' mx:Option Value) (l h m:Nat)
  (hb:(Instr.sliceBounds true len cap lo hi' mx).run P w=.ok (l,h,m) w):
  (Instr.sliceAt t (.slice aa len cap) lo hi' mx).run P w=.ok (.slice (if m=l then aa else aa.map (·.add (l*i.size))) (h - l) (m - l)) w:=by
 simp [Instr.sliceAt,Instr.slice,bO hu,hb,eF hi]
theorem aeH (len cap:Nat):(Instr.sliceBounds true len cap none none none).run P w=.ok (0,len,cap) w:=by
 simp [Instr.sliceBounds]
theorem aeI (len cap:Nat) (k:IntKind) (h:Int) (h0:0≤h) (h1:h≤cap):(Instr.sliceBounds true len cap none (some (.int k h)) none).run P w=.ok (0,h.toNat,cap) w:=by
 simp [Instr.sliceBounds,Instr.sliceBound,asIntOf,h0,h1]
theorem aeJ (len cap:Nat) (k:IntKind) (h:Int) (h0:0≤h) (h1:h≤cap):(Instr.sliceBounds true len cap none (some (.int k h)) (some (.int k h))).run P w=.ok (0,h.toNat,h.toNat) w:=by
 obtain ⟨n,rfl⟩:=Int.eq_ofNat_of_zero_le h0;simp at h1;simp [Instr.sliceBounds,Instr.sliceBound,asIntOf,h1]
theorem aeK (len cap:Nat) (k:IntKind) (l:Int) (h0:0≤l) (h1:l≤len):(Instr.sliceBounds true len cap (some (.int k l)) none none).run P w=.ok (l.toNat,len,cap) w:=by
 simp [Instr.sliceBounds,Instr.sliceBound,asIntOf,h0,h1]
theorem aeL (len cap:Nat) (k k':IntKind) (l h:Int) (h0:0≤l) (h1:l≤h) (h2:h≤cap):(Instr.sliceBounds true len cap (some (.int k l)) (some (.int k' h)) none).run P w=.ok (l.toNat,h.toNat,cap) w:=by
 obtain ⟨n,rfl⟩:=Int.eq_ofNat_of_zero_le h0;obtain ⟨m,rfl⟩:=Int.eq_ofNat_of_zero_le (Int.le_trans h0 h1);simp at h1 h2;simp [Instr.sliceBounds,Instr.sliceBound,asIntOf,h1,h2]
theorem aeM (len cap:Nat) (k k':IntKind) (l h:Int) (h0:0≤l) (h1:l≤h) (h2:h≤cap):(Instr.sliceBounds true len cap (some (.int k l)) (some (.int k' h)) (some (.int k' h))).run P w=.ok (l.toNat,h.toNat,h.toNat) w:=by
 obtain ⟨n,rfl⟩:=Int.eq_ofNat_of_zero_le h0;obtain ⟨m,rfl⟩:=Int.eq_ofNat_of_zero_le (Int.le_trans h0 h1);simp at h1 h2;simp [Instr.sliceBounds,Instr.sliceBound,asIntOf,h1,h2]
theorem WI {es n cap size l h m:Nat} {full full':Bool} {g:Nat→AV} {aa:Option Addr} (hp:PRep w I (.sl es n full g) (.slice aa n cap)) (hlh:l≤h) (hhn:h≤n) (hhm:h≤m) (_hmc:m≤cap)
  (hf:full'=true→m=h) (hs:n≠0→es=size):PRep w I (.sl es (h - l) full' (fun j=>g (l+j))) (.slice (if m=l then aa else aa.map (·.add (l*size))) (h - l) (m - l)):=by
 cases hp with
 | sl b off vs hcap hfull ha hes hm h1 hr=>
  refine .sl b (off+l*es) (fun i j=>vs (l+i) j) om (fun e=>by have:=hf e; omega) (fun hne=>?_) (fun i hi=>hes _ om) (fun i j hi hj=>?_) (fun i j hi hj=>h1 _ _ om hj) (fun i j hi hj=>hr _ _ om hj)
  ·obtain ⟨h1,h2⟩:=ha om;rw [if_neg om,h1,hs om];simp [Addr.add_mid,h2]
  ·have:=hm (l+i) j om hj;rw [← this,Nat.add_mul];congr 2;omega
theorem Mk {x y:Option Operand} (h:Fj x y=true):x=y:=by
 unfold Fj at h;split at h
 ·rw [Nat.eq_of_beq_eq_true h]
 ·cases h
theorem X8 {mx:Option Operand} (h:(!mx.isSome)=true):mx=none:=by
 cases mx with
 | none=>rfl
 | some _=>cases h
theorem aaq {hi mx:Option Operand} {k:Pg} (hhi:∀y,hi=some y→Rep w I O D (ρ y) (a.eval y)) (hmx:∀y,mx=some y→Rep w I O D (ρ y) (a.eval y)) (h:dQ Sp H (Yy ρ hi mx k) v ups r):(∃r',dQ Sp H k v ups r')∧(mx.isSome=true→mx.map a.eval=hi.map a.eval):=by
 unfold Yy at h;cases mx with
 | none=>exact ⟨⟨_,h⟩,nofun⟩
 | some m=>
  cases hi with
  | none=>exact (dQ.aR h).elim
  | some y=>
   simp only at h;have h1:=hhi y rfl;have h2:=hmx m rfl;split at h
   ·rename_i kk a1 kk' b1 e1 e2;obtain ⟨hk,h⟩:=h.bM;obtain ⟨he,h⟩:=h.x9;refine ⟨⟨_,h⟩,fun _=>?_⟩;rw [e1] at h1;rw [e2] at h2;have hk:kk=kk':=of_decide_eq_true hk;simp only [Option.map_some];rw [h1.fP,h2.fP,hk,he]
   ·exact (dQ.aR h).elim
theorem aar (n:Nat):(Instr.sliceBounds false n n none none none).run P w=.ok (0,n,n) w:=by simp [Instr.sliceBounds]
theorem aas (n:Nat) (k:IntKind) (h:Int) (h0:0≤h) (h1:h≤n):(Instr.sliceBounds false n n none (some (.int k h)) none).run P w=.ok (0,h.toNat,n) w:=by
 simp [Instr.sliceBounds,Instr.sliceBound,asIntOf,h0,h1]
theorem YF (hc:fq P cfg) (hR:Rel cfg cx H D w I O) {t:TypeId} {x:Operand} {lo hi mx:Option Operand} (ho:o.op=.slice t x lo hi mx) (hx:Rep w I O D (ρ x) (a.eval x)) (hhi:∀y,hi=some y→Rep w I O D (ρ y) (a.eval y)) {n et:Nat} (harr:aad cfg t=some (n,et))
  (h:dQ Sp H (Oc cfg et fun ei=>dZ mx.isNone (match ρ x with
    | .ptr o i off=>.rd o fun
     | .row es n' _=>dZ (Tn i&&Tn off) (dZ (Nat.beq es ei.size) (dZ (Nat.beq n' n) (aag o n (lo.map ρ) (hi.map ρ))))
     | _=>.fail
    | _=>.fail)) v ups r):dR P cfg cx H D w I O nid o a v ups:=by
 obtain ⟨hu,_⟩:=Sy hc harr;obtain ⟨ei,hei,h1⟩:=h.jR;obtain ⟨hmx,h2⟩:=h1.bM;have hmx:mx=none:=by cases mx with | none=>rfl | some _=>cases hmx
 subst hmx;split at h2
 ·rename_i ob j off e1;rw [e1] at hx;obtain ⟨obj,_,hob,h3⟩:=h2.kK;obtain ⟨p,hp,hO⟩:=hR.live hob;obtain ⟨b,bo,sz,hpl,hjn,hxv⟩:=hx.lF hp;cases obj with
  | map=>exact (dQ.aR h3).elim
  | box cs=>exact (dQ.aR h3).elim
  | row es n' g=>
   obtain ⟨c1,h4⟩:=h3.bM;obtain ⟨c2,h5⟩:=h4.bM;obtain ⟨c3,h6⟩:=h5.bM;obtain ⟨rfl,rfl⟩:=O5 c1;have c2:es=ei.size:=Nat.eq_of_beq_eq_true c2;have c3:n'=n:=Nat.eq_of_beq_eq_true c3;subst c3;have hpes:p.es=es:=hO.2.1;have hpn:p.n=n':=hO.1;have hsz:bo+n'*es≤sz:=by
    obtain ⟨_,_,_,hq | ⟨b',bo',sz',hpl',_,hle,_⟩⟩:=hO
    ·rw [hpl] at hq; cases hq.2
    ·rw [hpl] at hpl'; cases hpl'; exact hle
   obtain ⟨i,_,z,hei2,_,hz,hs,_⟩:=(hc.ty et ei hei).ex;simp only [Nat.zero_mul,Nat.add_zero] at hxv;have fin:∀(k:Nat) (full:Bool),k≤n'→(full=true→n'=k)→Rep w I O D (.dh ob 0 k full) (.slice (some ⟨b,bo,none⟩) k n'):=fun k full hk hf=>
    .dh hp om hk hf (fun _=>⟨b,bo,sz,hpl,by simp,by rw [hpes,Nat.zero_add]; exact hsz⟩) om
   unfold aag at h6;split at h6
   ·rename_i e2 e3;obtain ⟨rfl,rfl⟩:=h6.dN;have hlo:lo=none:=by cases lo with | none=>rfl | some _=>cases e2
    have hhi':hi=none:=by cases hi with | none=>rfl | some _=>cases e3
    subst hlo;subst hhi';refine dR.dD (x:=.slice (some ⟨b,bo,none⟩) n' n') hR ?_ (fin n' true (Nat.le_refl _) (fun _=>rfl));have e0:(⟨b,bo,none⟩:Addr).add 0=⟨b,bo,none⟩:=by rw [Addr.add_mid]; rfl
    by_cases hz0:n'=0
    ·simp [execOp,ho,hxv,Instr.sliceAt,Instr.sureAddr,bO hu,aar,eF hei2,hz0]
    ·simp [execOp,ho,hxv,Instr.sliceAt,Instr.sureAddr,bO hu,aar,eF hei2,hz0,e0]
   ·rename_i k hh e2 e3;obtain ⟨⟨q0,q1⟩,rfl,rfl⟩:=h6.fO;have hlo:lo=none:=by cases lo with | none=>rfl | some _=>cases e2
    subst hlo;obtain ⟨y,hy,ey⟩:∃y,hi=some y∧ρ y=.int k hh:=by
     cases hi with
     | none=>cases e3
     | some y=>exact ⟨y,rfl,by simpa using e3⟩
    subst hy;have hyv:=hhi y rfl;rw [ey] at hyv;have hyv:=hyv.fP;refine dR.dD (x:=.slice (some ⟨b,bo,none⟩) hh.toNat n') hR ?_ (fin hh.toNat false om (fun h=>by cases h));by_cases hz0:n'=0
    ·have hb0:=aas (P:=P) (w:=w) n' k hh q0 q1;have ht0:hh.toNat=0:=by omega
     rw [ht0] at hb0 ⊢;rw [hz0] at hb0 hu ⊢;simp [execOp,ho,hxv,hyv,Instr.sliceAt,Instr.sureAddr,bO hu,hb0,eF hei2]
    ·simp [execOp,ho,hxv,hyv,Instr.sliceAt,Instr.sureAddr,bO hu,aas n' k hh q0 q1,eF hei2,hz0,(show (⟨b,bo,none⟩:Addr).add 0=⟨b,bo,none⟩ by rw [Addr.add_mid]; rfl)]
   ·exact (dQ.aR h6).elim
 ·exact (dQ.aR h2).elim
theorem YG (hc:fq P cfg) (hR:Rel cfg cx H D w I O) {t:TypeId} {x:Operand} {lo hi mx:Option Operand} (ho:o.op=.slice t x lo hi mx) {ob i n:Nat} {f:Bool} (hx:Rep w I O D (.dh ob i n f) (a.eval x))
  (hlo:∀y,lo=some y→Rep w I O D (ρ y) (a.eval y)) (hhi:∀y,hi=some y→Rep w I O D (ρ y) (a.eval y)) (hmx:∀y,mx=some y→Rep w I O D (ρ y) (a.eval y))
  (h:dQ Sp H (zy cfg t fun ti=>.rd ob fun
    | .row es N _=>dZ (Nat.beq es ti.size) (ZX ob i n N f (lo.map ρ) (hi.map ρ) (mx.map ρ))
    | _=>.fail) v ups r):dR P cfg cx H D w I O nid o a v ups:=by
 obtain ⟨tt,e,ti,h1,h2,h3,h4⟩:=h.mQ;obtain ⟨hu,ii,z,hi',hz,hs,hby,hzs⟩:=hc.slice h1 h2 h3;obtain ⟨obj,_,hob,h5⟩:=h4.kK;obtain ⟨p,hp,hO⟩:=hR.live hob;cases obj with
 | map=>exact (dQ.aR h5).elim
 | box cs=>exact (dQ.aR h5).elim
 | row es N g=>
  obtain ⟨c1,h6⟩:=h5.bM;have c1:es=ti.size:=Nat.eq_of_beq_eq_true c1;have hpes:p.es=es:=hO.2.1;have hpn:p.n=N:=hO.1;obtain ⟨aa,cap,hxv,a1,a2,a3,a4⟩:=hx.kG hp;have hext:p.n≤i+cap:=(hxv ▸ hx).zA hp;have arg:∀(q:Option Operand) (k:IntKind) (m:Int),(∀y,q=some y→Rep w I O D (ρ y) (a.eval y))→q.map ρ=some (.int k m)→q.map a.eval=some (.int k m):=by
   intro q k m hq hm;cases q with
   | none=>cases hm
   | some y=>
    have:=hq y rfl;simp only [Option.map_some,Option.some.injEq] at hm ⊢;rw [hm] at this;exact this.fP
  have non:∀(q:Option Operand),q.map ρ=none→q=none:=fun q hq=>by cases q with | none=>rfl | some _=>cases hq
  have part:∀l hh full',l≤hh→i+hh≤N→(full'=true→f=true∧hh=n)→Rep w I O D (.dh ob (i+l) (hh - l) full') (.slice (if cap=l then aa else aa.map (·.add (l*ii.size))) (hh - l) (cap - l)):=by
   intro l hh full' q1 q2 q3;have hhc:hh≤cap:=by omega
   refine .dh hp om om (fun hf=>?_) (fun hne=>?_) om
   ·obtain ⟨e1,e2⟩:=q3 hf;have:=a3 e1;omega
   ·obtain ⟨b,bo,sz,e1,e2,e3⟩:=a4 om;refine ⟨b,bo,sz,e1,?_,?_⟩
    ·rw [if_neg om,e2];simp only [Option.map_some,Addr.add_mid,Option.some.injEq];rw [hpes,hs,← c1,Nat.add_mul];congr 1;omega
    ·have:i+l+(cap - l)=i+cap:=by omega
     rw [this];exact e3
  have run:∀(l hh m:Nat),(Instr.sliceBounds true n cap (lo.map a.eval) (hi.map a.eval) (mx.map a.eval)).run P w=.ok (l,hh,m) w→(execOp a.eval o).run P w=.ok (.value (.slice (if m=l then aa else aa.map (·.add (l*ii.size))) (hh - l) (m - l))) w:=by
   intro l hh m hb;have:=Jh (P:=P) hu hi' aa n cap _ _ _ l hh m hb;simp only [execOp,ho,hxv,this,Sem.run_bind,Sem.run_pure,Result.andThen_ok]
  unfold ZX at h6;split at h6
  ·rename_i k m em;have hm:=arg mx k m hmx em;split at h6
   ·rename_i k1 l k2 hh el eh;obtain ⟨⟨q1,q2,q3,q4⟩,rfl,rfl⟩:=h6.fO;have hl:=arg lo k1 l hlo el;have hh':=arg hi k2 hh hhi eh;refine dR.dD hR (run l.toNat hh.toNat m.toNat ?_) (.pure (.undef _));rw [hl,hh',hm];obtain ⟨l',rfl⟩:=Int.eq_ofNat_of_zero_le q1;obtain ⟨h',rfl⟩:=Int.eq_ofNat_of_zero_le (show 0≤hh by omega);obtain ⟨m',rfl⟩:=Int.eq_ofNat_of_zero_le (show 0≤m by omega);have z1:(m':Int)≤(cap:Int):=by omega
    have z2:(h':Int)≤(m':Int):=q3;have z3:(l':Int)≤(h':Int):=q2;have z4:(0:Int)≤(m':Int):=by omega
    have z5:(0:Int)≤(h':Int):=by omega
    have z6:(0:Int)≤(l':Int):=by omega
    have b1:∀(k:IntKind) (x y:Nat) (cd:BoundsCode),(x:Int)≤(y:Int)→(Instr.sliceBound (.int k x) y cd).run P w=.ok x w:=fun k x y cd hxy=>by
     have hx0:(0:Int)≤(x:Int):=by omega
     simp only [Instr.sliceBound,asIntOf,Sem.run_bind,Sem.run_pure,Result.andThen_ok];rw [if_pos ⟨hx0,hxy⟩];simp
    simp only [Instr.sliceBounds,Sem.run_bind,b1 _ _ _ _ z1,b1 _ _ _ _ z2,b1 _ _ _ _ z3,Result.andThen_ok,Sem.run_pure,Int.toNat_natCast]
   ·exact (dQ.aR h6).elim
  ·exact (dQ.aR h6).elim
  ·rename_i em;have hm:=non mx em;subst hm;split at h6
   ·rename_i el eh;obtain ⟨rfl,rfl⟩:=h6.dN;have:=non lo el;subst this;have:=non hi eh;subst this;refine dR.dD hR (run 0 n cap (aeH n cap)) ?_;have hh:(.slice (if cap=0 then aa else aa.map (·.add (0*ii.size))) (n - 0) (cap - 0):Value)=.slice aa n cap:=by
     by_cases hz:cap=0
     ·simp [hz]
     ·obtain ⟨b,bo,sz,_,e2,_⟩:=a4 hz;rw [if_neg hz,e2];simp [Addr.add_mid]
    rw [hh,← hxv];exact hx
   ·rename_i k hh el eh;obtain ⟨⟨q1,q2⟩,rfl,rfl⟩:=h6.fO;have:=non lo el;subst this;have hh':=arg hi k hh hhi eh;refine dR.dD hR (run 0 hh.toNat cap (by rw [hh']; exact aeI n cap k hh q1 om)) ?_;have:=part 0 hh.toNat false (Nat.zero_le _) om (fun h=>by cases h);simpa using this
   ·rename_i k l el eh;obtain ⟨⟨q1,q2⟩,rfl,rfl⟩:=h6.fO;have:=non hi eh;subst this;have hl:=arg lo k l hlo el;exact dR.dD hR (run l.toNat n cap (by rw [hl]; exact aeK n cap k l q1 q2)) (part l.toNat n f om om (fun h=>⟨h,rfl⟩))
   ·rename_i k l k2 hh el eh;obtain ⟨⟨q1,q2,q3⟩,rfl,rfl⟩:=h6.fO;have hl:=arg lo k l hlo el;have hh':=arg hi k2 hh hhi eh;exact dR.dD hR (run l.toNat hh.toNat cap (by rw [hl,hh']; exact aeL n cap k k2 l hh q1 q2 om)) (part l.toNat hh.toNat false om om (fun h=>by cases h))
   ·exact (dQ.aR h6).elim
theorem aat (hc:fq P cfg) (hR:Rel cfg cx H D w I O) {t:TypeId} {x:Operand} {lo hi mx:Option Operand} (ho:o.op=.slice t x lo hi mx) (hx:Rep w I O D (ρ x) (a.eval x))
  (hlo:∀y,lo=some y→Rep w I O D (ρ y) (a.eval y)) (hhi:∀y,hi=some y→Rep w I O D (ρ y) (a.eval y)) (hmx:∀y,mx=some y→Rep w I O D (ρ y) (a.eval y))
  (h:dQ Sp H (eP cfg nid (.slice t x lo hi mx) ρ) v ups r):dR P cfg cx H D w I O nid o a v ups:=by
 simp only [eP] at h;split at h
 ·rename_i n et harr;exact YF hc hR ho hx hhi harr h
 split at h
 ·rename_i e1;exact YG hc hR ho (e1 ▸ hx) hlo hhi hmx h
 rename_i hno;obtain ⟨⟨r0,h0⟩,hmax⟩:=aaq hhi hmx h;clear h;obtain ⟨tt,e,ti,h1,h2,h3,h4⟩:=h0.mQ;obtain ⟨hu,i,z,hi',hz,hs,hby,hzs⟩:=hc.slice h1 h2 h3;clear h0;obtain ⟨aa,n,cap,xa,hxv,hncap,part,h5⟩:∃aa n cap xa,a.eval x=.slice aa n cap∧n≤cap∧(∀(v:AV),xa=v→
   (∀es full g,xa=.sl es n full g→(full=true→cap=n)∧∀l h m full',l≤h→h≤n→h≤m→m≤cap→(full'=true→m=h)→Rep w I O D (.sl es (h - l) full' (fun j=>g (l+j))) (.slice (if m=l then aa else aa.map (·.add (l*i.size))) (h - l) (m - l)))∧
   (∀ob j n' full,xa≠.dh ob j n' full)∧
   (∀es n' full g,xa=.sl es n' full g→n'=n))∧∃r',dQ Sp H (OV xa (lo.map ρ) (hi.map ρ) mx.isSome mx.isSome) v ups r':=by
  split at h4
  ·rename_i es n f g ex
   rw [ex] at hx
   obtain ⟨hes,h5⟩:=h4.bM
   generalize hxv:a.eval x=xv at hx
   have hp:=hx.Aj
   cases hp with
   | @sl _ _ _ _ aa cap b off vs hcap hfull ha hes' hm h11 hr=>
    refine ⟨aa,n,cap,.sl es n f g,rfl,hcap,fun v _=>⟨fun es' full' g' e=>?_,fun _ _ _ _ e=>(by cases e),fun _ _ _ _ e=>(by cases e; rfl)⟩,_,h5⟩
    cases e
    exact ⟨hfull,fun l h m full' q1 q2 q3 q4 q5=>.pure (WI (PRep.sl b off vs hcap hfull ha hes' hm h11 hr) q1 q2 q3 q4 q5 (fun hn=>by rw [hs]; exact sN hes hn))⟩
  ·rename_i ob j n f ex
   exact (hno _ _ _ _ ex).elim
  ·exact (dQ.aR h4).elim
 obtain ⟨r',h5⟩:=h5;clear h4 hx;obtain ⟨psl,posl,psl'⟩:=part xa rfl;have done:∀ {l h m:Nat} {x':Value},(Instr.sliceBounds true n cap (lo.map a.eval) (hi.map a.eval) (mx.map a.eval)).run P w=.ok (l,h,m) w→x'=.slice (if m=l then aa else aa.map (·.add (l*i.size))) (h - l) (m - l)→ups=[]→Rep w I O D v x'→dR P cfg cx H D w I O nid o a v ups:=by
  intro l h m x' hb hx' hu0 hv;subst hu0;refine dR.dD (x:=x') hR ?_ hv;rw [hx'];simp [execOp,ho,hxv,Jh hu hi' aa n cap _ _ _ l h m hb]
 unfold OV at h5;split at h5
 ·rename_i e1 e2;obtain ⟨hm,h6⟩:=h5.bM;have hmx:mx=none:=X8 hm;have e1':lo=none:=by simpa using e1
  have e2':hi=none:=by simpa using e2
  subst hmx; subst e1'; subst e2';split at h6
  ·obtain ⟨rfl,rfl⟩:=h6.dN;have e:=psl' _ _ _ _ rfl;subst e;obtain ⟨q1,q2⟩:=psl _ _ _ rfl;exact done (aeH _ _) rfl rfl (by simpa using q2 0 _ cap _ (Nat.zero_le _) (Nat.le_refl _) hncap (Nat.le_refl _) q1)
  ·exact absurd rfl (posl _ _ _ _)
  ·exact (dQ.aR h6).elim
 ·rename_i k hh e1 e2;obtain ⟨hm,h6⟩:=h5.bM;have e1':lo=none:=by simpa using e1
  obtain ⟨y,e2',e3⟩:∃y,hi=some y∧ρ y=.int k hh:=Option.map_eq_some_iff.1 e2;have hy:a.eval y=.int k hh:=(e3 ▸ hhi y e2').fP;subst e1';have go:∀full',full'=mx.isSome→0≤hh→hh≤n→(∀m,hh.toNat≤m→m≤cap→(full'=true→m=hh.toNat)→Rep w I O D v (.slice (if m=0 then aa else aa.map (·.add (0*i.size))) (hh.toNat - 0) (m - 0)))→ups=[]→dR P cfg cx H D w I O nid o a v ups:=by
   intro full' hfe q1 q2 q3 q4;cases hf:mx.isSome with
   | true=>
    exact done (l:=0) (h:=hh.toNat) (m:=hh.toNat) (by rw [hmax hf]; simp only [e2',Option.map_some,Option.map_none,hy]; exact aeJ _ _ _ _ q1 om) rfl q4 (q3 _ (Nat.le_refl _) om (fun _=>rfl))
   | false=>
    have hmx:mx=none:=X8 (by rw [hf]; rfl);subst hmx;exact done (l:=0) (h:=hh.toNat) (m:=cap) (by simp only [e2',Option.map_some,Option.map_none,hy]; exact aeI _ _ _ _ q1 om) rfl q4 (q3 _ om (Nat.le_refl _) (fun e=>by rw [hfe,hf] at e; cases e))
  split at h6
  ·obtain ⟨⟨q1,q2⟩,rfl,rfl⟩:=h6.fO;have e:=psl' _ _ _ _ rfl;subst e;obtain ⟨q3,q4⟩:=psl _ _ _ rfl;exact go _ rfl q1 q2 (fun m hm1 hm2 hm3=>by simpa using q4 0 hh.toNat m _ (Nat.zero_le _) om hm1 hm2 hm3) rfl
  ·exact absurd rfl (posl _ _ _ _)
  ·exact (dQ.aR h6).elim
 ·rename_i k l e1 e2;obtain ⟨hm,h6⟩:=h5.bM;have hmx:mx=none:=X8 hm;have e2':hi=none:=by simpa using e2
  obtain ⟨y,e1',e3⟩:∃y,lo=some y∧ρ y=.int k l:=Option.map_eq_some_iff.1 e1;have hy:a.eval y=.int k l:=(e3 ▸ hlo y e1').fP;subst hmx; subst e2';split at h6
  ·obtain ⟨⟨q1,q2⟩,rfl,rfl⟩:=h6.fO;have e:=psl' _ _ _ _ rfl;subst e;obtain ⟨q3,q4⟩:=psl _ _ _ rfl;exact done (by simp only [e1',Option.map_some,Option.map_none,hy]; exact aeK _ _ _ _ q1 q2) rfl rfl (q4 l.toNat _ cap _ om (Nat.le_refl _) hncap (Nat.le_refl _) q3)
  ·exact absurd rfl (posl _ _ _ _)
  ·exact (dQ.aR h6).elim
 ·rename_i k l k' hh e1 e2;obtain ⟨hm,h6⟩:=h5.bM;obtain ⟨y,e1',e3⟩:∃y,lo=some y∧ρ y=.int k l:=Option.map_eq_some_iff.1 e1;obtain ⟨y',e2',e3'⟩:∃y,hi=some y∧ρ y=.int k' hh:=Option.map_eq_some_iff.1 e2;have hy:a.eval y=.int k l:=(e3 ▸ hlo y e1').fP;have hy':a.eval y'=.int k' hh:=(e3' ▸ hhi y' e2').fP;have go:∀full',full'=mx.isSome→0≤l→l≤hh→hh≤n→(∀m,hh.toNat≤m→m≤cap→(full'=true→m=hh.toNat)→Rep w I O D v (.slice (if m=l.toNat then aa else aa.map (·.add (l.toNat*i.size))) (hh.toNat - l.toNat) (m - l.toNat)))→ups=[]→dR P cfg cx H D w I O nid o a v ups:=by
   intro full' hfe q0 q1 q2 q3 q4;cases hf:mx.isSome with
   | true=>
    exact done (l:=l.toNat) (h:=hh.toNat) (m:=hh.toNat) (by rw [hmax hf]; simp only [e1',e2',Option.map_some,hy,hy']; exact aeM _ _ _ _ _ _ q0 q1 om) rfl q4 (q3 _ (Nat.le_refl _) om (fun _=>rfl))
   | false=>
    have hmx:mx=none:=X8 (by rw [hf]; rfl);subst hmx;exact done (l:=l.toNat) (h:=hh.toNat) (m:=cap) (by simp only [e1',e2',Option.map_some,Option.map_none,hy,hy']; exact aeL _ _ _ _ _ _ q0 q1 om) rfl q4 (q3 _ om (Nat.le_refl _) (fun e=>by rw [hfe,hf] at e; cases e))
  split at h6
  ·obtain ⟨⟨q0,q1,q2⟩,rfl,rfl⟩:=h6.fO;have e:=psl' _ _ _ _ rfl;subst e;obtain ⟨q3,q4⟩:=psl _ _ _ rfl;exact go _ rfl q0 q1 q2 (fun m hm1 hm2 hm3=>q4 l.toNat hh.toNat m _ om om hm1 hm2 hm3) rfl
  ·exact absurd rfl (posl _ _ _ _)
  ·exact (dQ.aR h6).elim
 ·exact (dQ.aR h5).elim
end
end Go.Ab

namespace Go.Ab
section
variable {P:Program} {cfg:rU} {cx:Ctx} {H:Nat→Option cB} {D:Nat→Prop} {w:World} {I:Nat→Prop} {O:OM} {Sp:kY}
variable {nid:Nat} {o:Oper} {a:Act} {ρ:Operand→AV} {v:AV} {ups:jh} {r:List Nat}
def zl (O:OM) (ids:List Nat) (b:Nat):Prop:=∃o p bo sz,o∈ids∧O o=some p∧p.pl=some (b,bo,sz)
def kill (O:OM) (ids:List Nat):OM:=fun o=>if o∈ids then none else O o
theorem Sz (ids:List Nat) (o:Nat):look (dead ids) o=if o∈ids then some none else none:=by
 induction ids with
 | nil=>simp [dead,look]
 | cons a l ih=>
  simp only [dead,look,ih];cases h:Nat.beq a o with
  | true=>have:=Nat.eq_of_beq_eq_true h; subst this; simp
  | false=>
   have:o≠a:=fun e=>by subst e; simp at h
   simp [this]
theorem A9 (ids:List Nat) (o:Nat):jQ H (dead ids) o=if o∈ids then none else H o:=by
 unfold jQ;rw [Sz];by_cases h:o∈ids<;>simp [h]
theorem Rel.freeze (hR:Rel cfg cx H D w I O) (ids:List Nat):Rel cfg cx (jQ H (dead ids)) D w (fun b=>I b∨zl O ids b) (kill O ids) where
 dom:=fun o=>by
  rw [A9]; unfold kill;by_cases h:o∈ids<;>simp [h,hR.dom o]
 used:=fun o p h=>by
  unfold kill at h;by_cases h':o∈ids<;>simp [h'] at h;exact hR.used o p h
 objs:=fun o ob p h h'=>by
  rw [A9] at h; unfold kill at h';by_cases h0:o∈ids<;>simp [h0] at h h';exact (hR.objs o ob p h h').mono (fun _ h=>.inl h) (fun _ _=>rfl) (fun o _=>by unfold kill; by_cases h0:o∈ids<;>simp [h0]) (fun _ h=>h) hR.used (fun _ _ _ _=>rfl)
 inj:=fun o o' p p' b bo sz b' bo' sz' h1 h2 h3 h4 h5=>by
  unfold kill at h1 h2;by_cases h0:o∈ids<;>simp [h0] at h1;by_cases h0':o'∈ids<;>simp [h0'] at h2;exact hR.inj o o' p p' b bo sz b' bo' sz' h1 h2 h3 h4 h5
 lZ:=fun o p b bo sz h1 h2 h3=>by
  unfold kill at h1;by_cases h0:o∈ids<;>simp [h0] at h1;rcases h3 with h3 | ⟨o',p',bo',sz',h4,h5,h6⟩
  ·exact hR.lZ o p b bo sz h1 h2 h3
  ·exact hR.inj o o' p p' b bo sz b bo' sz' h1 h5 h2 h6 (fun e=>h0 (e ▸ h4)) rfl
 lt:=fun o p b bo sz h1 h2=>by
  unfold kill at h1;by_cases h0:o∈ids<;>simp [h0] at h1;exact hR.lt o p b bo sz h1 h2
 vF:=fun b h=>by
  rcases h with h | ⟨o',p',bo',sz',h4,h5,h6⟩
  ·exact hR.vF b h
  ·exact hR.lt o' p' b bo' sz' h5 h6
 size:=hR.size
 frame:=hR.frame
 env:=hR.env
 maps:=fun o kd z f p b bo sz h h' hp=>by
  rw [A9] at h; unfold kill at h';by_cases h0:o∈ids<;>simp [h0] at h h';exact hR.maps o kd z f p b bo sz h h' hp
 new:=fun o p b bo sz h1 h2=>by
  unfold kill at h1;by_cases h0:o∈ids<;>simp [h0] at h1;exact hR.new o p b bo sz h1 h2
 glob:=fun g cs h=>(hR.glob g cs h).mono (fun _ h=>.inl h) (fun _ _=>rfl)
 KE:=fun b h=>.inl (hR.KE b h)
 NC:=fun b h=>by
  rcases h with h | ⟨o',p',bo',sz',h4,h5,h6⟩
  ·exact hR.NC b h
  ·exact .inr (hR.new o' p' b bo' sz' h5 h6)
 PN:=fun o h=>by
  unfold kill;by_cases h0:o∈ids
  ·simp [h0]
  ·simpa [h0] using hR.PN o h
 Dm:=hR.Dm
theorem Rep.kill (hR:Rel cfg cx H D w I O) (ids:List Nat) {v:AV} {x:Value} (h:Rep w I O D v x):Rep w (fun b=>I b∨zl O ids b) (kill O ids) D v x:=
 h.mono (fun _ h=>.inl h) (fun _ _=>rfl) (fun o _=>by unfold Ab.kill; by_cases h0:o∈ids<;>simp [h0]) (fun _ h=>h) hR.used
theorem zl.WJ {ids ids':List Nat} {b:Nat} (h:zl O ids b):zl O (ids++ids') b:=by
 obtain ⟨o,p,bo,sz,h1,h2,h3⟩:=h;exact ⟨o,p,bo,sz,List.mem_append_left _ h1,h2,h3⟩
theorem zl.WK {ids ids':List Nat} {b:Nat} (h:zl O ids' b):zl O (ids++ids') b:=by
 obtain ⟨o,p,bo,sz,h1,h2,h3⟩:=h;exact ⟨o,p,bo,sz,List.mem_append_right _ h1,h2,h3⟩
theorem xM (i j:Nat) (g:Nat→AV):mq i g j=g (i+j):=by cases i<;>simp [mq]
theorem Ba (hR:Rel cfg cx H D w I O):∀f:Nat,
  (∀(v:AV) (k:AV→List Nat→Pg) (v':AV) (ups:jh) (r:List Nat),dQ Sp H (Sl f v k) v' ups r→∃u ids r',dQ Sp H (k u ids) v' ups r'∧
    ∀x,Rep w I O D v x→PRep w (fun b=>I b∨zl O ids b) u x)∧
  (∀(l:List AV) (k:List AV→List Nat→Pg) (v':AV) (ups:jh) (r:List Nat),dQ Sp H (Sl.purL f l k) v' ups r→∃l' ids r',dQ Sp H (k l' ids) v' ups r'∧l'.length=l.length∧
    ∀j,j<l.length→∀x,Rep w I O D (nth l j) x→PRep w (fun b=>I b∨zl O ids b) (nth l' j) x):=by
 intro f;induction f with
 | zero=>exact ⟨fun v k v' ups r h=>(dQ.aR h).elim,fun l k v' ups r h=>(dQ.aR h).elim⟩
 | succ f ih=>
  obtain ⟨ih1,ih2⟩:=ih;refine ⟨fun v k v' ups r h=>?_,fun l k v' ups r h=>?_⟩
  ·cases v with
   | dh ob i n full=>
    simp only [Sl] at h;obtain ⟨obj,r',hob,h1⟩:=h.kK;obtain ⟨p,hp,hO⟩:=hR.live hob;cases obj with
    | map=>exact (dQ.aR h1).elim
    | box cs=>exact (dQ.aR h1).elim
    | row es m g=>
     refine ⟨_,[ob],r',h1,fun x hx=>?_⟩;obtain ⟨aa,cap,rfl,h2,h3,h4,h5⟩:=hx.kG hp;obtain ⟨hn,hes,hlen,h6⟩:=hO;by_cases hn0:n=0
     ·subst hn0;exact .sl 0 0 (fun _ _=>Go.undef) h3 h4 (fun e=>absurd rfl e) (fun i hi=>absurd hi om) (fun i j hi=>absurd hi om) (fun i j hi=>absurd hi om) (fun i j hi=>absurd hi om)
     ·obtain ⟨b,bo,sz,h7,rfl,h8⟩:=h5 om;rcases h6 with ⟨_,h6⟩ | ⟨b',bo',sz',h6,hal,hle,hcs⟩
      ·rw [h7] at h6; cases h6
      ·rw [h7] at h6;cases h6;subst hn;have hmul:∀k,k<n→(i+k+1)*es≤p.n*es:=fun k hk=>Nat.mul_le_mul_right _ om;refine .sl b (bo+i*p.es) (fun k j=>cellAt w b (bo+((i+k)*es+j))) h3 h4 (fun _=>⟨rfl,.inr ⟨ob,p,bo,sz,by simp,hp,h7⟩⟩) (fun k hk=>by rw [xM]; exact hlen _ om) (fun k j hk hj=>?_) (fun k j hk hj=>(hcs (i+k) j om hj).2) (fun k j hk hj=>?_)
       ·have e:bo+i*p.es+(k*es+j)=bo+((i+k)*es+j):=by rw [hes,Nat.add_mul]; omega
        rw [e];refine qb hal ?_;have:=hmul k hk;rw [Nat.succ_mul] at this;omega
       ·rw [xM];exact (hcs (i+k) j om hj).1.mono (fun _ h=>.inl h) (fun _ _=>rfl)
   | ptr ob i off=>
    cases i with
    | succ i=>simp only [Sl] at h; exact (dQ.aR h).elim
    | zero=>
     simp only [Sl] at h;obtain ⟨obj,r',hob,h1⟩:=h.kK;obtain ⟨p,hp,hO⟩:=hR.live hob;cases obj with
     | map=>exact (dQ.aR h1).elim
     | row es m g=>exact (dQ.aR h1).elim
     | box cs=>
      obtain ⟨l',ids,r'',h2,h3,h4⟩:=ih2 _ _ _ _ _ h1;refine ⟨_,_,r'',h2,fun x hx=>?_⟩;obtain ⟨b,bo,sz,h5,h6,rfl⟩:=hx.lF hp;obtain ⟨hn,b',bo',sz',h7,hal,hle,hcs⟩:=hO;rw [h5] at h7;cases h7;simp only [Nat.zero_mul,Nat.zero_add];refine .ro b (bo+off) (fun j=>cellAt w b (bo+(off+j))) (.inr ⟨ob,p,bo,sz,by simp,hp,h5⟩) (fun j hj=>?_) (fun j hj=>?_)
      ·rw [Nat.add_assoc];refine qb hal ?_;rw [h3] at hj;simp at hj;omega
      ·rw [h3] at hj;refine (h4 j hj _ (by rw [FD]; exact hcs (off+j) (by simp at hj; omega))).mono (fun b h=>?_) (fun _ _=>rfl);rcases h with h | ⟨o',p',bo',sz',q1,q2,q3⟩
       ·exact .inl h
       ·exact .inr ⟨o',p',bo',sz',List.mem_cons_of_mem _ q1,q2,q3⟩
   | agg cs=>
    simp only [Sl] at h;obtain ⟨l',ids,r'',h2,h3,h4⟩:=ih2 _ _ _ _ _ h;refine ⟨_,_,r'',h2,fun x hx=>?_⟩;obtain ⟨vs,rfl,hl,hr⟩:=hx.qH;exact .agg om fun j hj=>h4 j om _ (hr j om)
   | jX cs=>
    simp only [Sl] at h;obtain ⟨l',ids,r'',h2,h3,h4⟩:=ih2 _ _ _ _ _ h;refine ⟨_,_,r'',h2,fun x hx=>?_⟩;obtain ⟨vs,rfl,hl,hr⟩:=hx.CG;exact .jX om fun j hj=>h4 j om _ (hr j om)
   | fn g cs=>
    simp only [Sl] at h;obtain ⟨l',ids,r'',h2,h3,h4⟩:=ih2 _ _ _ _ _ h;refine ⟨_,_,r'',h2,fun x hx=>?_⟩;obtain ⟨vs,rfl,hl,hr⟩:=hx.FC;exact .fn om fun j hj=>h4 j om _ (hr j om)
   | mref ob=>simp only [Sl] at h; exact (dQ.aR h).elim
   | _=>
    refine ⟨_,[],r,h,fun x hx=>?_⟩;cases hx with | pure hx=>exact hx.mono (fun _ h=>.inl h) (fun _ _=>rfl)
  ·cases l with
   | nil=>exact ⟨[],[],r,h,rfl,fun j hj=>by cases hj⟩
   | cons v l=>
    simp only [Sl.purL] at h;obtain ⟨u,i1,r1,h1,h2⟩:=ih1 _ _ _ _ _ h;obtain ⟨l',i2,r2,h3,h4,h5⟩:=ih2 _ _ _ _ _ h1;refine ⟨u::l',i1++i2,r2,h3,by simp [h4],fun j hj x hx=>?_⟩;cases j with
    | zero=>exact (h2 x hx).mono (fun b h=>h.elim .inl fun h=>.inr h.WJ) (fun _ _=>rfl)
    | succ j=>exact (h5 j (by simpa using hj) x hx).mono (fun b h=>h.elim .inl fun h=>.inr h.WK) (fun _ _=>rfl)
end
end Go.Ab

namespace Go.Ab
section
variable {P:Program} {cfg:rU} {cx:Ctx} {H:Nat→Option cB} {D:Nat→Prop} {w:World} {I:Nat→Prop} {O:OM} {Sp:kY}
variable {nid:Nat} {o:Oper} {a:Act} {ρ:Operand→AV} {v:AV} {ups:jh} {r:List Nat}
def setO (O:OM) (n:Nat) (p:Own):OM:=fun o=>if o=n then some p else O o
theorem FE {p:Own} (hn:¬ D nid) {ob:Nat} (h:D ob):setO O nid p ob=O ob:=by
 unfold setO;rw [if_neg (by intro e; subst e; exact hn h)]
theorem gU (ob:Obj) {b:Nat} (h:b<w.heap.size):(w.alloc ob).heap[b]? = w.heap[b]? := by
 show (w.heap.push ob)[b]? = _;rw [Array.getElem?_push,if_neg (Nat.ne_of_lt h)]
theorem heap_alloc_new (ob:Obj):(w.alloc ob).heap[w.heap.size]? = some ob:=by
 show (w.heap.push ob)[w.heap.size]? = _;simp
theorem jS (ob:Obj):(w.alloc ob).heap.size=w.heap.size+1:=by
 show (w.heap.push ob).size=_;simp
theorem yc (c:Array Value) (e:TypeId) (j:Nat):(w.alloc (.cells c e)).cell? ⟨w.heap.size,j,none⟩=c[j]? := by
 unfold World.cell?;rw [heap_alloc_new];rfl
theorem Ml (c:Array Value) (e:TypeId) (j:Nat):(w.alloc (.cells c e)).frozen? ⟨w.heap.size,j,none⟩=false:=by
 unfold World.frozen?;rw [heap_alloc_new];simp
theorem l5 (c:Array Value) (e:TypeId):Fy (w.alloc (.cells c e)) w.heap.size c.size:=by
 intro j hj;rw [yc,Ml];simp [Array.getElem?_eq_getElem hj]
theorem kL (c:Array Value) (e:TypeId) (j:Nat):cellAt (w.alloc (.cells c e)) w.heap.size j=c.getD j Go.undef:=by
 rw [cellAt,yc];simp
theorem Rep.push (hR:Rel cfg cx H D w I O) (ob:Obj) (p:Own) (hn:¬ D nid) {v:AV} {x:Value} (h:Rep w I O D v x):Rep (w.alloc ob) I (setO O nid p) (xY D nid) v x:=
 h.mono (fun _ h=>h) (fun b hb=>gU ob (hR.vF b hb)) (fun _ ho=>.inl (FE hn ho)) (fun _ h=>.inl h) hR.used
theorem Rel.ads (hR:Rel cfg cx H D w I O) (hn:¬ D nid) (nb:Obj) (ob:cB) (p:Own) (zz:Nat) (hp:p.pl=some (w.heap.size,0,zz))
  (hob:fM (w.alloc nb) I (setO O nid p) (xY D nid) p ob):Rel cfg cx (jQ H [(nid,some ob)]) (xY D nid) (w.alloc nb) I (setO O nid p):=by
 have hH:∀o,jQ H [(nid,some ob)] o=if o=nid then some ob else H o:=by
  intro o;simp only [jQ,look];cases hb:Nat.beq nid o with
  | true=>have:=Nat.eq_of_beq_eq_true hb; subst this; simp
  | false=>
   have:o≠nid:=fun e=>by subst e; simp at hb
   simp [this]
 have hOn:O nid=none:=by
  cases h:O nid with
  | none=>rfl
  | some p'=>exact absurd (hR.used nid p' h) hn
 have old:∀ {o p'},o≠nid→setO O nid p o=some p'→O o=some p':=fun hne h=>by unfold setO at h; rwa [if_neg hne] at h
 exact {
  dom:=fun o=>by
   rw [hH]; unfold setO
   by_cases h:o=nid
   ·simp [h]
   ·simp [h,hR.dom o]
  used:=fun o p' h=>by
   by_cases hne:o=nid
   ·exact Mi hne
   ·exact .inl (hR.used o p' (old hne h))
  maps:=fun o kd z f p1 b bo sz h h1 h2=>by
   by_cases e1:o=nid
   ·unfold setO at h1
    rw [if_pos e1] at h1
    cases h1
    rw [hp] at h2
    cases h2
    refine ⟨hR.size,fun ob' hk=>?_⟩
    have:=(hR.env.kept _ _ hk).1
    rw [Array.getElem?_eq_none (Nat.le_refl _)] at this
    cases this
   ·rw [hH,if_neg e1] at h
    exact hR.maps o kd z f p1 b bo sz h (old e1 h1) h2
  objs:=fun o ob' p' h h'=>by
   by_cases hne:o=nid
   ·subst hne
    rw [hH,if_pos rfl] at h
    unfold setO at h'
    rw [if_pos rfl] at h'
    cases h; cases h'
    exact hob
   ·rw [hH,if_neg hne] at h
    have h'':=old hne h'
    exact (hR.objs o ob' p' h h'').mono (fun _ h=>h) (fun b hb=>gU _ (hR.vF b hb)) (fun _ ho=>.inl (FE hn ho)) (fun _ h=>.inl h) hR.used
     (fun b bo sz hpl=>gU _ (hR.lt o p' b bo sz h'' hpl))
  inj:=fun o o' p1 p2 b bo sz b' bo' sz' h1 h2 h3 h4 h5=>by
   by_cases e1:o=nid
   ·by_cases e2:o'=nid
    ·exact absurd (e1.trans e2.symm) h5
    ·unfold setO at h1
     rw [if_pos e1] at h1
     cases h1
     rw [hp] at h3
     cases h3
     have:=hR.lt o' p2 b' bo' sz' (old e2 h2) h4
     omega
   ·by_cases e2:o'=nid
    ·unfold setO at h2
     rw [if_pos e2] at h2
     cases h2
     rw [hp] at h4
     cases h4
     have:=hR.lt o p1 b bo sz (old e1 h1) h3
     omega
    ·exact hR.inj o o' p1 p2 b bo sz b' bo' sz' (old e1 h1) (old e2 h2) h3 h4 h5
  lZ:=fun o p1 b bo sz h1 h2 h3=>by
   by_cases e1:o=nid
   ·unfold setO at h1
    rw [if_pos e1] at h1
    cases h1
    rw [hp] at h2
    cases h2
    have:=hR.vF _ h3
    omega
   ·exact hR.lZ o p1 b bo sz (old e1 h1) h2 h3
  lt:=fun o p1 b bo sz h1 h2=>by
   have hs:(w.alloc nb).heap.size=w.heap.size+1:=jS _
   by_cases e1:o=nid
   ·unfold setO at h1
    rw [if_pos e1] at h1
    cases h1
    rw [hp] at h2
    cases h2
    omega
   ·have:=hR.lt o p1 b bo sz (old e1 h1) h2
    omega
  vF:=fun b h=>by
   have:=hR.vF b h
   rw [jS]
   omega
  size:=by
   have:=hR.size
   rw [jS]
   omega
  env:=hR.env.step (eZ.alloc _ _)
  frame:=fun b h1 h2=>by
   rw [gU _ (by have:=hR.size; omega)]
   exact hR.frame b h1 h2
  new:=fun o p1 b bo sz h1 h2=>by
   by_cases e1:o=nid
   ·unfold setO at h1
    rw [if_pos e1] at h1
    cases h1
    rw [hp] at h2
    cases h2
    exact .inl hR.size
   ·exact hR.new o p1 b bo sz (old e1 h1) h2
  glob:=fun g cs h=>(hR.glob g cs h).mono (fun _ h=>h) (fun b hb=>gU _ (hR.vF b hb))
  KE:=hR.KE
  NC:=hR.NC
  PN:=fun o h=>by
   have hne:o≠nid:=fun e=>hn (e ▸ hR.Dm o h)
   unfold setO
   rw [if_neg hne]
   exact hR.PN o h
  Dm:=fun o h=>.inl (hR.Dm o h) }
theorem Rel.push (hR:Rel cfg cx H D w I O) (hn:¬ D nid) (c:Array Value) (e:TypeId) (ob:cB) (p:Own) (hp:p.pl=some (w.heap.size,0,c.size))
  (hob:fM (w.alloc (.cells c e)) I (setO O nid p) (xY D nid) p ob):Rel cfg cx (jQ H [(nid,some ob)]) (xY D nid) (w.alloc (.cells c e)) I (setO O nid p):=
 hR.ads hn _ ob p _ hp hob
theorem xO (u:Nat×Option cB) (l:jh):jQ H (u::l)=jQ (jQ H l) [u]:=by
 funext o;simp only [jQ,look];cases Nat.beq u.1 o<;>rfl
theorem dR.PW (hR:Rel cfg cx H D w I O) (hn:¬ D nid) {x:Value} {c:Array Value} {e:TypeId} {ob:cB} {p:Own} (ids:List Nat) (hrun:(execOp a.eval o).run P w=.ok (.value x) (w.alloc (.cells c e)))
  (hp:p.pl=some (w.heap.size,0,c.size)) (hob:fM (w.alloc (.cells c e)) (fun b=>I b∨zl O ids b) (setO (kill O ids) nid p) (xY D nid) p ob)
  (hv:∀I' O' D',O' nid=some p→Rep (w.alloc (.cells c e)) I' O' D' v x):dR P cfg cx H D w I O nid o a v ((nid,some ob)::dead ids):=by
 intro next Q hnx
 have hR1:=hR.freeze ids;refine oC hrun (hnx x _ _ _ ?_ ?_ (hv (fun b=>I b∨zl O ids b) (setO (kill O ids) nid p) _ (by simp [setO])))
 ·rw [xO];exact hR1.push hn c e ob p hp hob
 ·intro u y hu;exact (hu.kill hR ids).push hR1 _ p hn
theorem JV (t:TypeId) (v:Value):(newVar t v).run P w=.ok ⟨w.heap.size,0,none⟩ (w.alloc (.cells v.cells t)):=by
 simp only [newVar,newRow,newObj,Sem.run_bind,Sem.run,Result.andThen];rfl
theorem yg (zs:List ZK) (c:Array Value) (n:Nat) (hl:zs.length=n) (hz:∀j,j<n→FB (zs.getD j .other) (c.getD j Go.undef)):∀j,j<n→PRep w I (nth (uE zs) j) (c.getD j Go.undef):=by
 intro j hj;have key:∀(zs:List ZK) (j:Nat),j<zs.length→nth (uE zs) j=ofZ (zs.getD j .other):=by
  intro zs;induction zs with
  | nil=>intro j hj; cases hj
  | cons z l ih=>intro j hj; cases j with
   | zero=>rfl
   | succ j=>simpa [uE,nth] using ih j (by simpa using hj)
 rw [key zs j om];have:=hz j hj;cases hzz:zs.getD j .other<;>rw [hzz] at this<;>simp only [FB] at this<;>simp only [ofZ]<;>first | exact .undef _ | rw [this]
 ·exact .bool _
 ·exact .int _ _
 ·exact .str _
 ·exact .sl 0 0 (fun _ _=>Go.undef) (Nat.le_refl _) (fun _=>rfl) (fun h=>absurd rfl h) (fun i h=>by cases h) (fun i j h=>by cases h) (fun i j h=>by cases h) (fun i j h=>by cases h)
 ·exact .zm
theorem KI (zs:List ZK) (c:Array Value) (n:Nat) (hz:∀j,j<n→FB (zs.getD j .other) (c.getD j Go.undef)):∀j,j<n→(c.getD j Go.undef).oneCell'=true:=by
 intro j hj;have:=hz j hj;cases hzz:zs.getD j .other<;>rw [hzz] at this<;>simp only [FB] at this<;>first | exact this | (rw [this]; rfl)
theorem gq (zs:List ZK):(uE zs).length=zs.length:=by
 induction zs with
 | nil=>rfl
 | cons z l ih=>simp [uE,ih]
theorem UQ (n:Nat) (z:List ZK):(Wy n z).length=n*z.length:=by
 induction n with
 | zero=>simp [Wy]
 | succ n ih=>simp only [Wy,List.length_append,ih]; rw [Nat.succ_mul]; omega
theorem UR (l m:List ZK):uE (l++m)=uE l++uE m:=by
 induction l with
 | nil=>rfl
 | cons z l ih=>simp only [List.cons_append,uE,ih]
theorem YH:∀(n:Nat) (z:List ZK) (size:Nat),z.length=size→∀q j,q<n→j<size→nth (uE (Wy n z)) (q*size+j)=nth (uE z) j:=by
 intro n;induction n with
 | zero=>intro z size _ q j h; exact absurd h (Nat.not_lt_zero _)
 | succ n ih=>
  intro z size hz q j hq hj;simp only [Wy];rw [UR,X7,gq,hz];cases q with
  | zero=>simp only [Nat.zero_mul,Nat.zero_add]; rw [if_pos hj]
  | succ q=>
   rw [if_neg (by rw [Nat.succ_mul]; omega)];have e1:(q+1)*size+j - size=q*size+j:=by rw [Nat.succ_mul]; omega
   rw [e1];exact ih z size hz q j om hj
theorem Ro {ti:Jf} (hz:zok ti=true) (hl:ti.zero.length=ti.size):(zeroOf ti).cells=uE ti.zero:=by
 unfold zok at hz;split at hz
 ·unfold zeroOf;cases ha:ti.agg with
  | true=>rfl
  | false=>
   rw [ha] at hz;have:ti.size=1:=Nat.eq_of_beq_eq_true hz;rw [this] at hl;match ti.zero,hl with
   | [q],_=>
    show (ofZ q).cells=[ofZ q]
    cases q<;>rfl
 ·cases hz
theorem aau (hc:fq P cfg) (hR:Rel cfg cx H D w I O) (hn:¬ D nid) {t:TypeId} (ho:o.op=.alloc t) (h:dQ Sp H (eP cfg nid (.alloc t) ρ) v ups r):dR P cfg cx H D w I O nid o a v ups:=by
 simp only [eP] at h;obtain ⟨ti,ht,h1⟩:=h.jR;obtain ⟨i,d,z,hi,hu,hz,hs,_,_,hzs,hzl,hzm,_⟩:=(hc.ty t ti ht).ex;split at h1
 ·rename_i n et harr;obtain ⟨ei,hei,h2⟩:=h1.jR;obtain ⟨c1,h3⟩:=h2.bM;obtain ⟨c2,h4⟩:=h3.bM;obtain ⟨c3,h5⟩:=h4.bM;obtain ⟨rfl,rfl⟩:=h5.jy;have c2:0<n:=by
   rcases Nat.eq_zero_or_pos n with h0 | h0
   ·subst h0; cases c2
   ·exact h0
  have c3:=of_decide_eq_true c3;have hl:(uE ei.zero).length=ei.size:=by
   rw [gq];exact (hc.ty et ei hei).ex.elim fun _ h=>h.elim fun _ h=>h.elim fun _ h=>h.2.2.2.2.2.2.2.1
  have hcl:(zeroOf ei).cells=uE ei.zero:=Ro c1 (by rw [gq] at hl; exact hl);have hsz:ti.size=n*ei.size:=by
   rw [← hzl,c3,UQ,← gq,hl]
  refine dR.PW (p:=⟨ei.size,n,some (w.heap.size,0,z.cells.size)⟩) (c:=z.cells) (e:=t) (x:=.pointer (some ⟨w.heap.size,0,none⟩)) hR hn [] ?_ rfl ?_ ?_
  ·simp [execOp,ho,Instr.alloc,zeroValue,typeInfo,hi,hz,JV]
  ·refine ⟨rfl,rfl,fun _ _=>by rw [hcl]; exact hl,.inr ⟨_,_,_,rfl,l5 _ _,by omega,fun q j hq hj=>?_⟩⟩;rw [Nat.zero_add,kL];have hqj:q*ei.size+j<ti.size:=by
    have:(q+1)*ei.size≤n*ei.size:=Nat.mul_le_mul_right _ hq;rw [Nat.succ_mul] at this;omega
   refine ⟨?_,KI _ _ _ hzm _ hqj⟩;have:=yg (w:=w.alloc (.cells z.cells t)) (I:=fun b=>I b∨zl O [] b) _ _ ti.size hzl hzm _ hqj;rw [hcl];have e1:nth (uE ti.zero) (q*ei.size+j)=nth (uE ei.zero) j:=by
    rw [c3];exact YH n _ _ (by rw [← gq]; exact hl) q j hq hj
   rw [← e1];exact this
  ·intro I' O' D' hO;have h6:Rep (w.alloc (.cells z.cells t)) I' O' D' (.ptr nid 0 0) _:=.ptr (i:=0) (off:=0) hO rfl c2;have e0:0+(0*ei.size+0)=0:=by simp
   simp only [e0] at h6;exact h6
 obtain ⟨rfl,rfl⟩:=h1.jy;refine dR.PW (p:=⟨0,1,some (w.heap.size,0,z.cells.size)⟩) (c:=z.cells) (e:=t) (x:=.pointer (some ⟨w.heap.size,0,none⟩)) hR hn [] ?_ rfl ?_ ?_
 ·simp [execOp,ho,Instr.alloc,zeroValue,typeInfo,hi,hz,JV]
 ·refine ⟨rfl,_,_,_,rfl,l5 _ _,by rw [gq]; omega,fun j hj=>?_⟩;rw [Nat.zero_add,kL];exact .pure (yg _ _ ti.size hzl hzm j (by rw [gq] at hj; omega))
 ·intro I' O' D' hO;exact .ptr (i:=0) (off:=0) hO rfl (by simp)
theorem adR (hR:Rel cfg cx H D w I O) (hn:¬ D nid) {t:TypeId} {x:Operand} (ho:o.op=.box t x) (hx:Rep w I O D (ρ x) (a.eval x)) (h:dQ Sp H (eP cfg nid (.box t x) ρ) v ups r):dR P cfg cx H D w I O nid o a v ups:=by
 simp only [eP] at h;obtain ⟨hk,h1⟩:=h.xL;obtain ⟨rfl,rfl⟩:=h1.jy;obtain ⟨hl,hcs⟩:=hx.cells hk;refine dR.PW (p:=⟨0,1,some (w.heap.size,0,(a.eval x).cells.size)⟩) (c:=(a.eval x).cells) (e:=t) (x:=.pointer (some ⟨w.heap.size,0,none⟩)) hR hn [] ?_ rfl ?_ ?_
 ·simp [execOp,ho,Instr.box,JV]
 ·refine ⟨rfl,_,_,_,rfl,l5 _ _,by omega,fun j hj=>?_⟩;rw [Nat.zero_add,kL];exact ((hcs j hj).1.kill hR []).push (hR.freeze []) _ _ hn
 ·intro I' O' D' hO;exact .ptr (i:=0) (off:=0) hO rfl (by simp)
end
end Go.Ab

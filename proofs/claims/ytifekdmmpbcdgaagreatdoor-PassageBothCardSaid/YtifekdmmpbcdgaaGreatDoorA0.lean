/- A part of the proof. -/
import Derived.Orders
import Derived.Laws.IdiomCopy
import Derived.Laws.Cells
import Derived.Laws.Sem
import Derived.Deep.MidRow
import Derived.Laws.StructEq
import Derived.ChangeKeysEq
import Derived.IntWalk
set_option linter.unusedVariables false
set_option linter.unusedSimpArgs false
namespace Go.Ab
theorem om {p : Prop} (h : p := by omega) : p := h
inductive ZK where
 | bool | int (k:IntKind) | str | slice | ptr | other
 deriving DecidableEq
inductive TD where
 | bool | int (k:IntKind) | str | slice (e:TypeId) | struct (fs:List (Nat×Nat)) | pointer (e:TypeId) | map (k e:TypeId) | array (n:Nat) (e:TypeId) | other
 deriving DecidableEq
inductive dR where
 | s (b:ByteArray)
 | i (n:Int)
 | p (a b:Int)
 deriving DecidableEq
inductive AV where
 | undef
 | bool (b:Bool)
 | int (k:IntKind) (n:Int)
 | str (s:ByteArray)
 | sl (es n:Nat) (full:Bool) (g:Nat→AV)
 | ro (cs:List AV)
 | agg (cs:List AV)
 | ptr (o i off:Nat)
 | dQ (o i n:Nat) (full:Bool)
 | fn (f:FuncId) (caps:List AV)
 | jQ (vs:List AV)
 | EX
 | mref (o:Nat)
 | pm (kd:TD) (z:List ZK) (f:dR→Option Int)
inductive eP where
 | box (cs:List AV)
 | row (es n:Nat) (g:Nat→AV)
 | map (kd:TD) (z:List ZK) (f:dR→Option Int)
structure RG where
 size:Nat
 agg:Bool
 bytes:Nat
 zero:List ZK
 desc:TD
 deriving DecidableEq
structure FnI where
 muts:List Nat:=[]
 frz:Bool:=false
structure xE where
 ty:List (Nat×RG)
 eqs:List (Nat×List ZK):=[]
 fns:List (Nat×FnI)
 glob:List (Nat×List AV)
def look {α:Type}:List (Nat×α)→Nat→Option α
 | [],_=>none
 | (k,v)::l,t=>match Nat.beq k t with | true=>some v | false=>look l t
def iD (T:List (Nat×AV)) (t:Nat):AV:=
 match look T t with | some v=>v | none=>.undef
def hget (H:List (Nat×Option eP)) (o:Nat):Option eP:=
 match look H o with | some (some x)=>some x | _=>none
abbrev kN:=List (Nat×Option eP)
inductive Pg where
 | ret (v:AV) (ups:kN)
 | need (p:Prop) [d:Decidable p] (k:Pg)
 | rd (o:Nat) (k:eP→Pg)
 | call (f:FuncId) (args:List AV) (obs:List eP) (k:AV→List eP→Pg)
 | fail
def stride:Nat:=8
def dN:Nat→AV:=λ _=>.undef
def ofConst:Value→AV
 | .bool b=>.bool b
 | .int k n=>.int k n
 | .string s=>.str s
 | .slice none 0 0=>.sl 0 0 true dN
 | .pointer none=>.EX
 | _=>.undef
def ofZ:ZK→AV
 | .bool=>.bool false
 | .int k=>.int k 0
 | .str=>.str ByteArray.empty
 | .slice=>.sl 0 0 true dN
 | .ptr=>.EX
 | .other=>.undef
def Au:List ZK→List AV
 | []=>[]
 | z::l=>ofZ z::Au l
def AV.cells:AV→List AV
 | .agg cs=>cs
 | v=>[v]
def nth:List AV→Nat→AV
 | [],_=>.undef
 | v::_,0=>v
 | _::l,n+1=>nth l n
def HY:Nat→List AV→List AV→List AV
 | _,[],l=>l
 | 0,v::new,_::l=>v::HY 0 new l
 | n+1,new,x::l=>x::HY n new l
 | _,_,[]=>[]
def Yv:AV→Bool
 | .undef | .agg _ | .jQ _=>false
 | _=>true
def JE:List AV→Bool
 | []=>true
 | v::l=>match Yv v with | true=>JE l | false=>false
def MB (v:AV) (k:List AV→Pg):Pg:=
 match v.cells with
 | cs=>match JE cs with | true=>k cs | false=>.fail
def gF (b:Bool) (k:Pg):Pg:=match b with | true=>k | false=>.fail
def MC:List AV→(List AV→Prop)→Prop
 | [],K=>K []
 | v::l,K=>MC l (λ l'=>
  match v with
  | .undef=>K (.undef::l') | .bool b=>K (.bool b::l') | .int k n=>K (.int k n::l') | .str s=>K (.str s::l')
  | .sl es n f g=>K (.sl es n f g::l') | .ro cs=>K (.ro cs::l') | .agg cs=>K (.agg cs::l') | .ptr o i off=>K (.ptr o i off::l')
  | .dQ o i n f=>K (.dQ o i n f::l') | .fn f caps=>K (.fn f caps::l') | .jQ vs=>K (.jQ vs::l') | .EX=>K (.EX::l') | .mref o=>K (.mref o::l') | .pm a b c=>K (.pm a b c::l'))
def force (v:AV) (K:AV→Prop):Prop:=
 match v with
 | .undef=>K .undef | .bool b=>K (.bool b) | .int k n=>K (.int k n) | .str s=>K (.str s)
 | .sl es n f g=>K (.sl es n f g)
 | .ro cs=>MC cs λ cs'=>K (.ro cs')
 | .agg cs=>MC cs λ cs'=>K (.agg cs')
 | .ptr o i off=>K (.ptr o i off) | .dQ o i n f=>K (.dQ o i n f)
 | .fn f caps=>MC caps λ cs'=>K (.fn f cs')
 | .jQ vs=>MC vs λ cs'=>K (.jQ cs')
 | .EX=>K .EX
 | .mref o=>K (.mref o)
 | .pm a b c=>K (.pm a b c)
def DN:kN→(kN→Prop)→Prop
 | [],K=>K []
 | (o,none)::l,K=>DN l λ l'=>K ((o,none)::l')
 | (o,some (.row es n g))::l,K=>DN l λ l'=>K ((o,some (.row es n g))::l')
 | (o,some (.map kd z f))::l,K=>DN l λ l'=>K ((o,some (.map kd z f))::l')
 | (o,some (.box cs))::l,K=>MC cs λ cs'=>DN l λ l'=>K ((o,some (.box cs'))::l')
def aD (n:Int):Prop := -9223372036854775808≤n∧n≤9223372036854775807
instance (n:Int):Decidable (aD n):=inferInstanceAs (Decidable (_∧_))
def addN:Nat→Nat→Nat
 | 0,k=>k
 | n+1,k=>n+1+k
def rE (i:Nat) (g:Nat→AV):Nat→AV:=match i with | 0=>g | n+1=>λ j=>g (n+1+j)
def Wv (l:List AV):Nat→AV:=λ i=>nth l i
def appG (n:Nat) (g h:Nat→AV):Nat→AV:=λ j=>bif Nat.blt j n then g j else h (j - n)
def adh (g:Nat→AV) (i:Nat) (v:AV):Nat→AV:=λ j=>bif Nat.beq j i then v else g j
def pur:Nat→AV→(AV→List Nat→Pg)→Pg
 | 0,_,_=>.fail
 | _+1,.dQ o i n full,k=>.rd o λ
  | .row es _ g=>k (.sl es n full (rE i g)) [o]
  | _=>.fail
 | f+1,.ptr o i off,k=>match i with
  | 0=>.rd o λ
   | .box cs=>ae9 f (cs.drop off) λ cs' ids=>k (.ro cs') (o::ids)
   | _=>.fail
  | _+1=>.fail
 | f+1,.agg cs,k=>ae9 f cs λ cs' ids=>k (.agg cs') ids
 | f+1,.jQ cs,k=>ae9 f cs λ cs' ids=>k (.jQ cs') ids
 | f+1,.fn fn cs,k=>ae9 f cs λ cs' ids=>k (.fn fn cs') ids
 | _+1,.mref o,k=>.rd o λ
  | .map kd z f=>k (.pm kd z f) [o]
  | _=>.fail
 | _+1,v,k=>k v []
 where ae9:Nat→List AV→(List AV→List Nat→Pg)→Pg
 | 0,_,_=>.fail
 | _+1,[],k=>k [] []
 | f+1,v::l,k=>pur f v λ v' i1=>ae9 f l λ l' i2=>k (v'::l') (i1++i2)
def fuel:Nat:=100
def dead:List Nat→kN
 | []=>[]
 | o::l=>(o,none)::dead l
def nT (p:Prop) [Decidable p] (v:AV):Pg:=.need p (.ret v [])
def lI (v:AV):Pg:=.ret v []
def BA (ti:RG) (cs:List AV):Pg:=
 match ti.agg with
 | true=>gF (Nat.ble ti.size cs.length) (lI (.agg (cs.take ti.size)))
 | false=>match cs with
  | v::_=>lI v
  | []=>.fail
def arith (op:BinOp) (a b:Int):Pg:=
 match op with
 | .add=>nT (aD (a+b)) (.int .i64 (a+b))
 | .sub=>nT (aD (a - b)) (.int .i64 (a - b))
 | .mul=>nT (aD (a*b)) (.int .i64 (a*b))
 | .quo=>nT (b≠0∧aD (a.tdiv b)) (.int .i64 (a.tdiv b))
 | .rem=>nT (b≠0) (.int .i64 (a.tmod b))
 | _=>.fail
def apS (op:BinOp) (a b:Int):Pg:=
 match op with
 | .eql=>lI (.bool (a==b))
 | .neq=>lI (.bool (a != b))
 | .lss=>lI (.bool (decide (a<b)))
 | .leq=>lI (.bool (decide (a≤b)))
 | .gtr=>lI (.bool (decide (b<a)))
 | .geq=>lI (.bool (decide (b≤a)))
 | _=>.fail
def X8:BinOp→Bool
 | .add | .sub | .mul | .quo | .rem=>true
 | _=>false
def DR (a b:IntKind):Bool:=decide (a=b)
def UR:List ZK→List AV→List AV→Option Bool
 | [],[],[]=>some true
 | .int k::zs,.int k1 a::l,.int k2 b::m=>match DR k k1,DR k k2,UR zs l m with
  | true,true,some r=>some ((a==b)&&r)
  | _,_,_=>none
 | .bool::zs,.bool a::l,.bool b::m=>match UR zs l m with
  | some r=>some ((a==b)&&r)
  | none=>none
 | .str::zs,.str a::l,.str b::m=>match UR zs l m with
  | some r=>some ((a.toList==b.toList)&&r)
  | none=>none
 | _,_,_=>none
def anp (op:BinOp) (a b:ByteArray):Pg:=
 match op with
 | .add=>nT (a.size+b.size≤9223372036854775807) (.str (a++b))
 | .eql=>lI (.bool (a.toList==b.toList))
 | .neq=>lI (.bool (!(a.toList==b.toList)))
 | .lss=>lI (.bool (Op.bytesLess a.toList b.toList))
 | .leq=>lI (.bool (Op.bytesLess a.toList b.toList||a.toList==b.toList))
 | .gtr=>lI (.bool (!(Op.bytesLess a.toList b.toList||a.toList==b.toList)))
 | .geq=>lI (.bool (!Op.bytesLess a.toList b.toList))
 | _=>.fail
def afa (c:AV) (ea eb:Operand) (a b:AV):Pg:=
 match c with
 | .bool c=>match ea,eb,a,b with
  | _,.const (.bool false),.bool x,_=>lI (.bool (c&&x))
  | .const (.bool true),_,_,.bool y=>lI (.bool (c||y))
  | _,_,.bool x,.bool y=>lI (.bool (bif c then x else y))
  | _,_,.undef,y=>nT (c=false) y
  | _,_,x,.undef=>nT (c=true) x
  | _,_,_,_=>.fail
 | _=>.fail
section ops
variable (cfg:xE)
def UU (t:TypeId) (k:RG→Pg):Pg:=match look cfg.ty t with | some i=>k i | none=>.fail
def Kz (t:TypeId) (k:RG→Pg):Pg:=match look cfg.ty t with
 | some i=>match i.desc with
  | .slice e=>UU cfg e k
  | _=>.fail
 | none=>.fail
def aiR (op:BinOp) (t:TypeId) (x y:AV):Pg:=
 match x,y with
 | .int k a,.int k' b=>gF (DR k k') (match X8 op with
  | true=>match DR k .i64 with
   | true=>arith op a b
   | false=>.fail
  | false=>apS op a b)
 | .bool a,.bool b=>UU cfg t λ ti=>match ti.desc,op with
  | .bool,.eql=>lI (.bool (a==b))
  | .bool,.neq=>lI (.bool (!(a==b)))
  | _,_=>.fail
 | .str a,.str b=>anp op a b
 | .agg cs,.agg cs'=>match look cfg.eqs t with
  | some zs=>match UR zs cs cs',op with
   | some r,.eql=>lI (.bool r)
   | some r,.neq=>lI (.bool (!r))
   | _,_=>.fail
  | none=>.fail
 | _,_=>.fail
def Xl:List (Nat×Nat)→Nat→Option (Nat×Nat)
 | [],_=>none
 | x::_,0=>some x
 | _::l,n+1=>Xl l n
def Pe (ti:RG) (f:Nat):Option (Nat×Nat):=match ti.desc with
 | .struct fs=>Xl fs f
 | _=>none
def adi (fs:List (Nat×Nat)):List (Nat×AV)→List AV→(List AV→Pg)→Pg
 | [],cs,k=>k cs
 | (i,v)::rest,cs,k=>match Xl fs i with
  | some (off,t)=>UU cfg t λ ti=>MB v λ vs=>gF (Nat.beq vs.length ti.size) (gF (Nat.ble (off+vs.length) cs.length) (adi fs rest (HY off vs cs) k))
  | none=>.fail
def Gz:Nat→AV→List AV→List AV
 | _,_,[]=>[]
 | 0,v,_::l=>v::l
 | n+1,v,x::l=>x::Gz n v l
def agu (size:Nat) (agg:Bool):List (Nat×AV)→List AV→(List AV→Pg)→Pg
 | [],es,k=>k es
 | (i,v)::rest,es,k=>gF (match agg,v with | true,.agg _=>true | true,_=>false | false,.agg _=>false | false,_=>true)
  (MB v λ vs=>gF (Nat.beq vs.length size) (gF (Nat.blt i es.length) (agu size agg rest (Gz i v es) k)))
def zeroOf (ti:RG):AV:=match ti.agg with
 | true=>.agg (Au ti.zero)
 | false=>nth (Au ti.zero) 0
def zok (ti:RG):Bool:=match Nat.blt 0 ti.size with
 | true=>match ti.agg with
  | true=>true
  | false=>Nat.beq ti.size 1
 | false=>false
def ahv:Nat→AV→List AV
 | 0,_=>[]
 | n+1,z=>z::ahv n z
def SL:List (Nat×AV)→(List (Nat×AV)→List Nat→Pg)→Pg
 | [],k=>k [] []
 | (i,v)::l,k=>pur fuel v λ v' i1=>SL l λ l' i2=>k ((i,v')::l') (i1++i2)
def apT (s:AV) (f:Int→Pg) (k:Pg):Pg:=match s with
 | .int _ n=>f n
 | _=>k
def zf (full:Bool) (n:Nat):Bool:=match full with
 | true=>match n with
  | 0=>true
  | _+1=>false
 | false=>false
def X9 (x:AV) (lo hi:Option AV) (abF aaU:Bool):Pg:=
 match lo,hi with
 | none,none=>gF (!abF) (match x with
  | .sl es n full g=>lI (.sl es n full g)
  | .dQ o i n full=>lI (.dQ o i n full)
  | _=>.fail)
 | none,some (.int _ h)=>gF (!abF||aaU) (match x with
  | .sl es n full g=>match zf full n with
   | true=>nT (0≤h∧h≤0) (.sl es 0 true g)
   | false=>nT (0≤h∧h≤n) (.sl es h.toNat aaU g)
  | .dQ o i n _=>nT (0≤h∧h≤n) (.dQ o i h.toNat aaU)
  | _=>.fail)
 | some (.int _ l),none=>gF (!abF) (match x with
  | .sl es n full g=>nT (0≤l∧l≤n) (.sl es (n - l.toNat) full (λ j=>g (l.toNat+j)))
  | .dQ o i n full=>nT (0≤l∧l≤n) (.dQ o (i+l.toNat) (n - l.toNat) full)
  | _=>.fail)
 | some (.int _ l),some (.int _ h)=>gF (!abF||aaU) (match x with
  | .sl es n _ g=>nT (0≤l∧l≤h∧h≤n) (.sl es (h.toNat - l.toNat) aaU (λ j=>g (l.toNat+j)))
  | .dQ o i n _=>nT (0≤l∧l≤h∧h≤n) (.dQ o (i+l.toNat) (h.toNat - l.toNat) aaU)
  | _=>.fail)
 | _,_=>.fail
def Fj:Option Operand→Option Operand→Bool
 | some (.tmp a),some (.tmp b)=>Nat.beq a b
 | _,_=>false
def ahw (ρ:Operand→AV) (hi mx:Option Operand) (k:Pg):Pg:=
 match mx with
 | none=>k
 | some m=>match hi with
  | none=>.fail
  | some h=>match ρ h,ρ m with
   | .int kk a,.int kk' b=>gF (DR kk kk') (.need (a=b) k)
   | _,_=>.fail
def adj (x:AV) (k:Nat→Nat→(Nat→AV)→Pg):Pg:=
 match x with
 | .sl es n _ g=>k es n g
 | .dQ o i n _=>.rd o λ
  | .row es _ g=>k es n (rE i g)
  | _=>.fail
 | _=>.fail
def isZ:Nat→Bool
 | 0=>true
 | _+1=>false
def UW (es n size:Nat):Bool:=match Nat.beq es size with | true=>true | false=>isZ n
def big:Nat:=140737488355328
def cpG (i k:Nat) (g h:Nat→AV):Nat→AV:=λ j=>bif Nat.ble i j&&Nat.blt j (i+k) then h (j - i) else g j
def abH (ti:RG) (d s:AV):Pg:=
 adj s λ es' m h=>gF (UW es' m ti.size) (
 match d with
 | .dQ o i n _=>.rd o λ
  | .row es N g=>gF (Nat.beq es ti.size) (.need (i+n+m≤N) (.ret (.dQ o i (n+m) false) [(o,some (.row es N (cpG (i+n) m g h)))]))
  | _=>.fail
 | _=>.fail)
def isSelf:AV→AV→Bool
 | .dQ o _ _ _,.dQ o' _ _ _=>Nat.beq o o'
 | _,_=>false
def aiT (o i n N:Nat) (f:Bool) (lo hi mx:Option AV):Pg:=match mx with
 | some (.int _ m)=>match lo,hi with
  | some (.int _ l),some (.int _ h)=>nT (0≤l∧l≤h∧h≤m∧m≤n) .undef
  | none,some (.int _ h)=>nT (0≤h∧h≤m∧m≤0) (.sl 0 0 true dN)
  | _,_=>.fail
 | some _=>.fail
 | none=>match lo,hi with
  | none,none=>lI (.dQ o i n f)
  | none,some (.int _ h)=>nT (0≤h∧(i:Int)+h≤N) (.dQ o i h.toNat false)
  | some (.int _ l),none=>nT (0≤l∧l≤n) (.dQ o (i+l.toNat) (n - l.toNat) f)
  | some (.int _ l),some (.int _ h)=>nT (0≤l∧l≤h∧(i:Int)+h≤N) (.dQ o (i+l.toNat) (h.toNat - l.toNat) false)
  | _,_=>.fail
def adk (ti:RG) (eY:Nat) (d s:AV):Pg:=
 adj s λ es' m h=>gF (UW es' m ti.size) (
 match d with
 | .sl es n full g=>gF full (match es with
  | 0=>gF (isZ n) (.need (m*ti.bytes≤big) (.ret (.dQ eY 0 m false) [(eY,some (.row ti.size m h))]))
  | es1+1=>gF (UW (es1+1) n ti.size) (nT ((n+m)*ti.bytes≤big) (.sl ti.size (n+m) false (appG n g h))))
 | .dQ o i n _=>.rd o λ
  | .row es _ g=>gF (Nat.beq es ti.size) (.need ((n+m)*ti.bytes≤big) (.ret (.dQ eY 0 (n+m) false) [(eY,some (.row es (n+m) (appG n (rE i g) h))),(o,none)]))
  | _=>.fail
 | _=>.fail)
def vP:List Nat→Nat→Nat→Option Nat
 | [],_,_=>none
 | a::l,o,j=>match Nat.beq a o with | true=>some j | false=>vP l o (j+1)
def qG:AV→Bool
 | .undef | .bool _ | .int .. | .str _ | .sl .. | .ro _ | .EX | .pm .. => true
 | _=>false
def arL:AV→List Nat
 | .ptr o _ _=>[o]
 | .dQ o _ _ _=>[o]
 | .mref o=>[o]
 | _=>[]
def Ww:List AV→List Nat
 | []=>[]
 | v::l=>arL v++Ww l
def agv (sg:List Nat):List Nat→Bool
 | []=>false
 | o::_=>match vP sg o 0 with
  | some _=>true
  | none=>false
def aiU (sg:List Nat) (v:AV) (k:AV→Pg):Pg:=match v with
 | .ptr o i off=>match vP sg o 0 with
  | some j=>k (.ptr j i off)
  | none=>.fail
 | .dQ o i n f=>match vP sg o 0 with
  | some j=>k (.dQ j i n f)
  | none=>.fail
 | .mref o=>match vP sg o 0 with
  | some j=>k (.mref j)
  | none=>.fail
 | v=>gF (qG v) (k v)
def afb (sg:List Nat):List AV→(List AV→Pg)→Pg
 | [],k=>k []
 | v::l,k=>aiU sg v λ v'=>afb sg l λ l'=>k (v'::l')
def Pf (sg:List Nat) (v:AV) (k:AV→List Nat→Pg):Pg:=
 match v with
 | .ptr o i off=>match vP sg o 0 with
  | some j=>k (.ptr j i off) []
  | none=>pur fuel (.ptr o i off) k
 | .dQ o i n full=>match vP sg o 0 with
  | some j=>k (.dQ j i n full) []
  | none=>pur fuel (.dQ o i n full) k
 | .mref o=>match vP sg o 0 with
  | some j=>k (.mref j) []
  | none=>pur fuel (.mref o) k
 | .fn f cs=>match agv sg (Ww cs) with
  | true=>afb sg cs λ cs'=>k (.fn f cs') []
  | false=>pur fuel (.fn f cs) k
 | .agg cs=>match agv sg (Ww cs) with
  | true=>afb sg cs λ cs'=>k (.agg cs') []
  | false=>pur fuel (.agg cs) k
 | v=>pur fuel v k
def HZ (sg:List Nat):List AV→(List AV→List Nat→Pg)→Pg
 | [],k=>k [] []
 | v::l,k=>Pf sg v λ v' i1=>HZ sg l λ l' i2=>k (v'::l') (i1++i2)
def agw:List Nat→(List eP→Pg)→Pg
 | [],k=>k []
 | o::l,k=>.rd o λ ob=>agw l λ obs=>k (ob::obs)
def sigma (args:List AV):List Nat→List Nat
 | []=>[]
 | p::l=>match nth args p with
  | .ptr o _ _=>o::sigma args l
  | .dQ o _ _ _=>o::sigma args l
  | .mref o=>o::sigma args l
  | .fn _ cs=>Ww cs++sigma args l
  | .agg cs=>Ww cs++sigma args l
  | _=>sigma args l
def CK:Nat→List Nat→Bool
 | _,[]=>false
 | a,b::l=>match Nat.beq a b with | true=>true | false=>CK a l
def pQ:List Nat→Bool
 | []=>true
 | a::l=>match CK a l with | true=>false | false=>pQ l
def Yw:AV→Bool
 | .bool _ | .int .. | .str _=>true
 | _=>false
def abI:List AV→Bool
 | []=>true
 | v::l=>match Yw v with | true=>abI l | false=>false
def Yx:AV→Bool
 | .agg vs=>abI vs
 | v=>Yw v
def abJ:List AV→Bool
 | []=>true
 | v::l=>match Yx v with | true=>abJ l | false=>false
def aiV:AV→Bool
 | .jQ vs=>abJ vs
 | v=>Yx v
def gX:List Nat→Nat→Nat
 | [],_=>0
 | a::_,0=>a
 | _::l,n+1=>gX l n
def Yy:eP→Bool
 | .map .other [] _=>true
 | _=>false
def aaV:eP:=.map .other [] λ _=>none
def gz (x:eP):Option eP:=match Yy x with
 | true=>none
 | false=>some x
def DT:List Nat→List eP→kN
 | o::l,x::m=>(o,gz x)::DT l m
 | _,_=>[]
def alI (f:FuncId):FnI:=match look cfg.fns f with | some i=>i | none=>{}
def zF:List AV→Bool
 | []=>true
 | v::l=>match qG v with | true=>zF l | false=>false
def Ya:eP→Bool
 | .box cs=>zF cs
 | .row .. => true
 | .map .. => false
def apU:AV→Bool
 | .agg vs=>zF vs
 | v=>qG v
def ME:List Nat→List Nat→Bool
 | [],_=>true
 | x::l,m=>match CK x m with | true=>false | false=>ME l m
def apV:AV→List Nat
 | .ptr o _ _=>[o]
 | .dQ o _ _ _=>[o]
 | .mref o=>[o]
 | .fn _ cs=>Ww cs
 | _=>[]
def anq:List AV→List Nat
 | []=>[]
 | v::l=>apV v++anq l
def apW:eP→List Nat
 | .box cs=>anq cs
 | _=>[]
def Yz:Nat→List Nat→List Nat→(List Nat→Pg)→Pg
 | 0,_,_,_=>.fail
 | _+1,[],sg,k=>k sg
 | f+1,o::todo,sg,k=>match CK o sg with
  | true=>Yz f todo sg k
  | false=>.rd o λ ob=>Yz f (todo++apW ob) (sg++[o]) k
def inv1 (sg:List Nat) (v:AV) (k:AV→Pg):Pg:=match v with
 | .ptr o i off=>match vP sg o 0 with
  | some j=>k (.ptr j i off)
  | none=>.fail
 | .dQ o i n f=>match vP sg o 0 with
  | some j=>k (.dQ j i n f)
  | none=>.fail
 | .mref o=>match vP sg o 0 with
  | some j=>k (.mref j)
  | none=>.fail
 | .fn f cs=>afb sg cs λ cs'=>k (.fn f cs')
 | v=>gF (qG v) (k v)
def alJ (sg:List Nat):List AV→(List AV→Pg)→Pg
 | [],k=>k []
 | v::l,k=>inv1 sg v λ v'=>alJ sg l λ l'=>k (v'::l')
def apX (sg:List Nat) (x:eP) (k:eP→Pg):Pg:=match x with
 | .box cs=>alJ sg cs λ cs'=>k (.box cs')
 | .row es n g=>k (.row es n g)
 | .map kd z f=>k (.map kd z f)
def agx (sg:List Nat):List eP→(List eP→Pg)→Pg
 | [],k=>k []
 | x::l,k=>apX sg x λ x'=>agx sg l λ l'=>k (x'::l')
def adl (sg:List Nat):AV→AV
 | .ptr j i off=>.ptr (gX sg j) i off
 | .dQ j i n full=>.dQ (gX sg j) i n full
 | .mref j=>.mref (gX sg j)
 | v=>v
def aiW (sg:List Nat):List AV→List AV
 | []=>[]
 | v::l=>adl sg v::aiW sg l
def JF (sg:List Nat):AV→AV
 | .ptr j i off=>.ptr (gX sg j) i off
 | .dQ j i n full=>.dQ (gX sg j) i n full
 | .mref j=>.mref (gX sg j)
 | .fn f cs=>.fn f (aiW sg cs)
 | v=>v
def ahx (sg:List Nat):List AV→List AV
 | []=>[]
 | v::l=>JF sg v::ahx sg l
def JG (sg:List Nat):AV→AV
 | .agg cs=>.agg (ahx sg cs)
 | v=>JF sg v
def adn (sg:List Nat):List AV→List AV
 | []=>[]
 | v::l=>JG sg v::adn sg l
def alK (sg:List Nat):AV→AV
 | .jQ vs=>.jQ (adn sg vs)
 | v=>JG sg v
def aaf (sg:List Nat):eP→eP
 | .box cs=>.box (ahx sg cs)
 | .row es n g=>.row es n g
 | .map kd z f=>.map kd z f
def YA (sg:List Nat):List eP→List eP
 | []=>[]
 | x::l=>aaf sg x::YA sg l
def alL:AV→Bool
 | .ptr .. | .dQ .. | .mref _=>true
 | v=>qG v
def okA:List AV→Bool
 | []=>true
 | v::l=>match alL v with | true=>okA l | false=>false
def aiX:AV→Bool
 | .fn _ cs=>okA cs
 | .agg _ | .jQ _=>false
 | _=>true
def aiY:List AV→Bool
 | []=>true
 | v::l=>match aiX v with | true=>aiY l | false=>false
def aiZ:AV→Bool
 | .agg cs=>aiY cs
 | v=>aiX v
def agy:List AV→Bool
 | []=>true
 | v::l=>match aiZ v with | true=>agy l | false=>false
def apY:AV→Bool
 | .jQ vs=>agy vs
 | v=>aiZ v
def alM:eP→Bool
 | .box cs=>aiY cs
 | .row .. => true
 | .map .. => true
def agz:List eP→Bool
 | []=>true
 | x::l=>match alM x with | true=>agz l | false=>false
def kY:Nat→Nat→List Nat
 | 0,_=>[]
 | n+1,i=>i::kY n (i+1)
def Yb (eY:Nat) (f:FuncId) (args:List AV) (sg0:List Nat):Pg:=
 Yz 40 sg0 [] λ sg=>gF (pQ sg) (agw sg λ obs=>agx sg obs λ ahy=>HZ sg args λ args' ids=>gF (ME ids sg)
  (.call f args' ahy λ r fO=>gF (agz fO) (gF (Nat.ble fO.length (sg.length+stride)) (gF (apY r)
    (.ret (alK (sg++kY (fO.length - sg.length) eY) r) (DT (sg++kY (fO.length - sg.length) eY) (YA (sg++kY (fO.length - sg.length) eY) fO)++dead ids))))))
def ai0 (eY:Nat) (f:FuncId) (args:List AV):Pg:=
 match sigma args (alI cfg f).muts with
 | []=>match (alI cfg f).frz with
  | false=>HZ [] args λ args' _=>.call f args' [] λ r fO=>match fO with
   | []=>gF (aiV r) (lI r)
   | _::_=>.fail
  | true=>Yb eY f args []
 | x::sg=>Yb eY f args (x::sg)
def keyOf:AV→Option dR
 | .str b=>some (.s b)
 | .int .i64 n=>some (.i n)
 | _=>none
def an1 (z:List ZK) (n:Int):AV:=match z with
 | [.bool]=>.bool (n != 0)
 | [.int k]=>.int k n
 | _=>.undef
def an2 (z:List ZK):AV→Option Int
 | .bool b=>match z with
  | [.bool]=>some (bif b then 1 else 0)
  | _=>none
 | .int k n=>match z with
  | [.int k']=>match decide (k=k') with
   | true=>some n
   | false=>none
  | _=>none
 | _=>none
def UY:List ZK→Bool
 | [.bool]=>true
 | [.int _]=>true
 | _=>false
def jU (f:dR→Option Int) (k:dR):Int:=(f k).getD 0
def BD (f:dR→Option Int) (k:dR) (n:Int):dR→Option Int:=λ k'=>if k'=k then some n else f k'
def anr (kt:TypeId) (d:TD) (k:Pg):Pg:=match d with
 | .struct [(0,a),(1,b)]=>UU cfg a λ ia=>UU cfg b λ ib=>gF (decide (ia.desc=.int .i64)) (gF (decide (ib.desc=.int .i64)) (gF (decide (look cfg.eqs kt=some [.int .i64,.int .i64])) k))
 | _=>k
def ai1 (t:TypeId) (k:RG→RG→Pg):Pg:=match look cfg.ty t with
 | some i=>match i.desc with
  | .map kt et=>UU cfg kt λ ki=>UU cfg et λ ei=>gF (!ei.agg) (anr cfg kt ki.desc (k ki ei))
  | _=>.fail
 | none=>.fail
def xG (d:TD):dR→Bool
 | .s _=>match d with | .str=>true | _=>false
 | .i _=>match d with | .int .i64=>true | _=>false
 | .p _ _=>false
def agA (z:List ZK) (f:dR→Option Int) (k:dR) (ok:Bool):AV:=match ok with
 | true=>.jQ [an1 z (jU f k),.bool (f k).isSome]
 | false=>an1 z (jU f k)
def YB:TD→Option (Nat×TypeId)
 | .array n e=>some (n,e)
 | _=>none
def ai2 (t:TypeId):Option (Nat×TypeId):=match look cfg.ty t with
 | some i=>YB i.desc
 | none=>none
def agB (et sz:Nat):Nat→Nat→List (Nat×Nat)
 | 0,_=>[]
 | n+1,k=>(k*sz,et)::agB et sz n (k+1)
def apZ:AV→Bool
 | .bool b=>b
 | _=>false
def arN:AV→Int
 | .int _ n=>n
 | _=>0
def arO:AV→ByteArray
 | .str s=>s
 | _=>ByteArray.empty
def slN:AV→Nat
 | .sl _ n _ _=>n
 | _=>0
def slG:AV→Nat→AV
 | .sl _ _ _ g=>g
 | _=>λ _=>.undef
def esA:AV→Nat
 | .sl es _ _ _=>es
 | _=>0
def ai3:List ZK→Nat→ZK
 | [],_=>.other
 | z::_,0=>z
 | _::l,n+1=>ai3 l n
def alN (z:ZK) (es:Nat) (c:AV):Bool:=match z,c with
 | .bool,.bool _=>true
 | .int k,.int k' _=>DR k k'
 | .str,.str _=>true
 | .slice,.sl es' n _ _=>match Nat.beq es' es with
  | true=>true
  | false=>Nat.beq n 0
 | _,_=>false
def an3 (z:ZK) (es:Nat) (c:AV):AV:=match z with
 | .bool=>.bool (apZ c)
 | .int k=>.int k (arN c)
 | .str=>.str (arO c)
 | .slice=>.sl es (slN c) false (slG c)
 | _=>.undef
def aaW (sz j:Nat):Nat→List AV→Nat
 | _,[]=>0
 | k,c::cs=>match Nat.beq (Nat.mod k sz) j with
  | true=>(λ m=>match Nat.ble (esA c) m with | true=>m | false=>esA c) (aaW sz j (k+1) cs)
  | false=>aaW sz j (k+1) cs
def alO (zs:List ZK) (sz:Nat) (all:List AV):Nat→List AV→Bool
 | _,[]=>true
 | k,c::cs=>match alN (ai3 zs (Nat.mod k sz)) (aaW sz (Nat.mod k sz) 0 all) c with
  | true=>alO zs sz all (k+1) cs
  | false=>false
def ado (all:List AV) (b sz:Nat):Nat→List ZK→List AV
 | _,[]=>[]
 | j,z::zs=>an3 z (aaW sz j 0 all) (nth all (b+j))::ado all b sz (j+1) zs
def ai4 (ei:RG) (n:Nat) (cs:List AV) (i:Int):Pg:=
 gF (zok ei) (gF (Nat.beq cs.length (n*ei.size)) (gF (Nat.beq ei.zero.length ei.size) (gF (alO ei.zero ei.size cs 0 cs) (nT (0≤i∧i<n) (match ei.agg with
  | true=>.agg (ado cs (i.toNat*ei.size) ei.size 0 ei.zero)
  | false=>nth (ado cs (i.toNat*ei.size) ei.size 0 ei.zero) 0)))))
def afc:Nat→List ZK→List ZK
 | 0,_=>[]
 | n+1,z=>z++afc n z
def kZ:Nat→Nat→(Nat→AV)→List AV
 | 0,_,_=>[]
 | k+1,i,g=>(g i).cells++kZ k (i+1) g
def an4:TD→Bool
 | .str=>true
 | _=>false
def an5:AV→Bool
 | .int .u8 _=>true
 | _=>false
def u8D:TD→Bool
 | .int .u8=>true
 | _=>false
def JH:Nat→Nat→(Nat→AV)→ByteArray→ByteArray
 | 0,_,_,s=>s
 | k+1,i,g,s=>JH k (i+1) g (s.push (UInt8.ofNat (match g i with
  | .int _ n=>n.toNat
  | _=>0)))
def abK (src:TypeId) (x:AV):Pg:=Kz cfg src λ ei=>gF (u8D ei.desc) (adj x λ es n g=>gF (UW es n 1) (.need (∀i,i<n→an5 (g i)=true) (lI (.str (JH n 0 g ByteArray.empty)))))
def ai5 (o n:Nat) (lo hi:Option AV):Pg:=
 match lo,hi with
 | none,none=>lI (.dQ o 0 n true)
 | none,some (.int _ h)=>nT (0≤h∧h≤n) (.dQ o 0 h.toNat false)
 | _,_=>.fail
def gQ (b:ByteArray) (i:Nat):Int:=match b[i]? with
 | some x=>x.toNat
 | none=>0
def an6 (eY:Nat) (t t':TypeId) (d:AV) (k:Int):Pg:=UU cfg t' λ ti'=>Kz cfg t λ ti=>match ti'.desc,d with
 | .int _,.sl _ n full _=>gF (zf full n) (gF (Nat.blt 0 ti.size) (gF (Nat.blt 0 ti.bytes) (gF (zok ti) (.need (0<k∧k*ti.bytes≤big) (.ret (.dQ eY 0 k.toNat false) [(eY,some (.row ti.size k.toNat (λ _=>zeroOf ti)))])))))
 | _,_=>.fail
def agC (t:TypeId) (x ix y:AV):Pg:=ai1 cfg t λ ki ei=>match x,keyOf ix,an2 ei.zero y with
 | .mref o,some k,some n=>gF (xG ki.desc k) (.rd o λ
  | .map kd z f=>gF (decide (kd=ki.desc)) (gF (decide (z=ei.zero)) (gF (UY z) (.ret .undef [(o,some (.map kd z (BD f k n)))])))
  | _=>.fail)
 | _,_,_=>.fail
def gY (eY:Nat) (op:Op) (ρ:Operand→AV):Pg:=
 match op with
 | .move x=>lI (ρ x)
 | .assign x=>lI (ρ x)
 | .pick c a b=>afa (ρ c) a b (ρ a) (ρ b)
 | .alloc e=>UU cfg e λ ti=>match YB ti.desc with
  | some (n,et)=>UU cfg et λ ei=>gF (zok ei) (gF (Nat.blt 0 n) (gF (decide (ti.zero=afc n ei.zero)) (.ret (.ptr eY 0 0) [(eY,some (.row ei.size n (λ _=>zeroOf ei)))])))
  | none=>.ret (.ptr eY 0 0) [(eY,some (.box (Au ti.zero)))]
 | .box _ x=>MB (ρ x) λ cs=>.ret (.ptr eY 0 0) [(eY,some (.box cs))]
 | .build t parts=>UU cfg t λ ti=>match ti.desc with
  | .struct fs=>adi cfg fs (parts.toList.map λ p=>(p.1,ρ p.2)) (Au ti.zero) λ cs=>lI (.agg cs)
  | .array n et=>UU cfg et λ ei=>adi cfg (agB et ei.size n 0) (parts.toList.map λ p=>(p.1,ρ p.2)) (Au ti.zero) λ cs=>lI (.agg cs)
  | _=>.fail
 | .buildSlice t len parts=>Kz cfg t λ ti=>gF (zok ti) (gF (Nat.ble (len*ti.size) 4096) (SL (parts.toList.map λ p=>(p.1,ρ p.2)) λ ps ids=>
   agu ti.size ti.agg ps (ahv len (zeroOf ti)) λ es=>
   .ret (.dQ eY 0 len true) ((eY,some (.row ti.size len (Wv es)))::dead ids)))
 | .load t a=>UU cfg t λ ti=>match ρ a with
  | .ptr o i off=>.rd o λ
   | .box cs=>BA ti (cs.drop off)
   | .row es n g=>match YB ti.desc with
    | some _=>gF (isZ i&&isZ off) (BA ti (kZ n 0 g))
    | none=>gF (Nat.ble (off+ti.size) es) (BA ti ((g i).cells.drop off))
   | .map .. => .fail
  | .ro cs=>BA ti cs
  | _=>.fail
 | .store t a x=>UU cfg t λ ti=>match ρ a with
  | .ptr o i off=>.rd o λ
   | .box cs=>MB (ρ x) λ vs=>gF (Nat.beq vs.length ti.size) (gF (Nat.ble (off+vs.length) cs.length) (.ret .undef [(o,some (.box (HY off vs cs)))]))
   | .row es n g=>match YB ti.desc with
    | some _=>pur fuel (ρ x) λ x' ids=>gF (!CK o ids) (MB x' λ vs=>gF (Nat.beq vs.length ti.size) (gF (Nat.beq es 1) (gF (Nat.beq n ti.size) (gF (isZ i&&isZ off) (.ret .undef ((o,some (.row 1 n (Wv vs)))::dead ids))))))
    | none=>pur fuel (ρ x) λ x' ids=>gF (!CK o ids) (MB x' λ vs=>gF (Nat.beq vs.length ti.size) (gF (Nat.blt 0 ti.size) (gF (Nat.ble (off+vs.length) es)
     (.ret .undef ((o,some (.row es n (adh g i (match isZ off&&Nat.beq vs.length es with
       | true=>x'
       | false=>match g i with
        | .agg cs=>.agg (HY off vs cs)
        | _=>x'))))::dead ids)))))
   | .map .. => .fail
  | _=>.fail
 | .nilCheck x=>match ρ x with
  | .ptr o i off=>.rd o λ _=>lI (.ptr o i off)
  | .ro cs=>lI (.ro cs)
  | .fn f cs=>lI (.fn f cs)
  | _=>.fail
 | .binOp op t x y _=>aiR cfg op t (ρ x) (ρ y)
 | .unOp op _ x=>match op,ρ x with
  | .not,.bool b=>lI (.bool (!b))
  | _,_=>.fail
 | .convert src dst x=>UU cfg src λ _=>UU cfg dst λ ti=>match an4 ti.desc with
  | true=>abK cfg src (ρ x)
  | false=>match ti.desc,ρ x with
   | .int k,.int _ n=>lI (.int k (k.wrap n))
   | _,_=>.fail
 | .makeFunc fn first captured=>match fn,first.toList with
  | .func f,[]=>lI (.fn f (captured.toList.map ρ))
  | _,_=>.fail
 | .makeSlice t l c=>Kz cfg t λ ti=>match ρ l with
  | .int _ n=>match Fj (some l) (some c) with
   | true=>gF (Nat.blt 0 ti.bytes) (gF (zok ti) (.need (0≤n∧n*ti.bytes≤big) (.ret (.dQ eY 0 n.toNat true) [(eY,some (.row ti.size n.toNat (λ _=>zeroOf ti)))])))
   | false=>match ρ c with
    | .int _ k=>gF (Nat.blt 0 ti.bytes) (gF (zok ti) (.need (n=0∧0≤k∧k*ti.bytes≤big) (.ret (.dQ eY 0 0 false) [(eY,some (.row ti.size 0 dN))])))
    | _=>.fail
  | _=>.fail
 | .slice t x lo hi mx=>match ai2 cfg t with
  | some (n,et)=>UU cfg et λ ei=>gF mx.isNone (match ρ x with
   | .ptr o i off=>.rd o λ
    | .row es n' _=>gF (isZ i&&isZ off) (gF (Nat.beq es ei.size) (gF (Nat.beq n' n) (ai5 o n (lo.map ρ) (hi.map ρ))))
    | _=>.fail
   | _=>.fail)
  | none=>match ρ x with
  | .dQ o i n f=>Kz cfg t λ ti=>.rd o λ
   | .row es N _=>gF (Nat.beq es ti.size) (aiT o i n N f (lo.map ρ) (hi.map ρ) (mx.map ρ))
   | _=>.fail
  | _=>ahw ρ hi mx<|Kz cfg t λ ti=>match ρ x with
   | .sl es n f g=>gF (UW es n ti.size) (X9 (.sl es n f g) (lo.map ρ) (hi.map ρ) mx.isSome mx.isSome)
   | .dQ o i n f=>.rd o λ
    | .row es _ _=>gF (Nat.beq es ti.size) (X9 (.dQ o i n f) (lo.map ρ) (hi.map ρ) mx.isSome mx.isSome)
    | _=>.fail
   | _=>.fail
 | .fieldAddr s x f=>UU cfg s λ ts=>match Pe ts f with
  | some (o,t)=>UU cfg t λ ti=>gF (Nat.blt 0 ti.size) (match ρ x with
   | .ptr ob i off=>.rd ob λ _=>lI (.ptr ob i (off+o))
   | .ro cs=>lI (.ro (cs.drop o))
   | _=>.fail)
  | none=>.fail
 | .field s x f=>UU cfg s λ ts=>match Pe ts f with
  | some (o,t)=>UU cfg t λ ti=>match ρ x with
   | .agg cs=>BA ti (cs.drop o)
   | _=>.fail
  | none=>.fail
 | .indexAddr t x ix=>match ai2 cfg t with
  | some (n,et)=>UU cfg et λ ei=>match ρ ix,ρ x with
   | .int _ i,.ptr o j off=>.rd o λ
    | .row es n' _=>gF (isZ j&&isZ off) (gF (Nat.beq es ei.size) (gF (Nat.beq n' n) (nT (0≤i∧i<n) (.ptr o i.toNat 0))))
    | _=>.fail
   | _,_=>.fail
  | none=>Kz cfg t λ ti=>match ρ ix with
  | .int _ i=>match ρ x with
   | .sl es n _ g=>gF (UW es n ti.size) (nT (0≤i∧i<n) (.ro (g i.toNat).cells))
   | .dQ o j n _=>.rd o λ
    | .row es _ _=>gF (Nat.beq es ti.size) (nT (0≤i∧i<n) (.ptr o (addN j i.toNat) 0))
    | _=>.fail
   | _=>.fail
  | _=>.fail
 | .index t x ix=>UU cfg t λ ti=>match ti.desc,ρ x,ρ ix with
  | .str,.str b,.int _ i=>nT (0≤i∧i<b.size) (.int .u8 (gQ b i.toNat))
  | .array n et,.agg cs,.int _ i=>UU cfg et λ ei=>ai4 ei n cs i
  | _,_,_=>.fail
 | .makeMap t none=>ai1 cfg t λ ki ei=>.ret (.mref eY) [(eY,some (.map ki.desc ei.zero λ _=>none))]
 | .lookup t x ix ok=>ai1 cfg t λ ki ei=>(match ρ x,keyOf (ρ ix) with
  | .mref o,some k=>gF (xG ki.desc k) (.rd o λ
   | .map kd z f=>gF (decide (kd=ki.desc)) (gF (decide (z=ei.zero)) (gF (UY z) (lI (agA z f k ok))))
   | _=>.fail)
  | .pm kd z f,some k=>gF (xG ki.desc k) (gF (decide (kd=ki.desc)) (gF (decide (z=ei.zero)) (gF (UY z) (lI (agA z f k ok)))))
  | _,_=>.fail)
 | .mapUpdate t x ix y=>agC cfg t (ρ x) (ρ ix) (ρ y)
 | .insert t x ix y=>agC cfg t (ρ x) (ρ ix) (ρ y)
 | .extract t i=>match ρ t with
  | .jQ vs=>gF (Nat.blt i vs.length) (lI (nth vs i))
  | _=>.fail
 | .call c=>match c.callee with
  | .builtin .len=>match c.args.toList.map ρ,c.argTypes.toList with
   | [v],[t]=>UU cfg t λ ti=>match v,ti.desc with
    | .sl _ n _ _,.slice _=>lI (.int .i64 n)
    | .dQ o _ n _,.slice _=>.rd o λ _=>lI (.int .i64 n)
    | .str s,.str=>lI (.int .i64 s.size)
    | _,_=>.fail
   | _,_=>.fail
  | .builtin .append=>match c.args.toList.map ρ,c.argTypes.toList with
   | [d,s],[t,t']=>apT s (an6 cfg eY t t' d)
    (Kz cfg t' λ _=>Kz cfg t λ ti=>gF (Nat.blt 0 ti.size) (gF (Nat.blt 0 ti.bytes) (match isSelf d s with | true=>abH ti d s | false=>adk ti eY d s)))
   | _,_=>.fail
  | .builtin .min=>match c.args.toList.map ρ with
   | [.int k a,.int _ b]=>lI (.int k (if b<a then b else a))
   | _=>.fail
  | .builtin .max=>match c.args.toList.map ρ with
   | [.int k a,.int _ b]=>lI (.int k (if b > a then b else a))
   | _=>.fail
  | .builtin _=>.fail
  | .value f=>match ρ f with
   | .fn g caps=>ai0 cfg eY g (c.args.toList.map ρ++caps)
   | _=>.fail
  | .invoke _ _=>.fail
 | _=>.fail
def Yc (T:Nat→AV):Operand→AV
 | .tmp t=>T t
 | .const v=>ofConst v
 | .global g=>match look cfg.glob g with | some cs=>.ro cs | none=>.undef
 | .func f=>.fn f []
end ops
abbrev o9:=FuncId→List AV→List eP→AV→List eP→Prop
structure Log where
 Av:List Nat
 wrs:List Nat
structure St where
 tmps:List (Nat×AV)
 heap:kN
 nx:Nat
abbrev PC:=List (Bool×Bool)
def ahz:PC→Prop→(Prop→Prop)→Prop
 | [],p,K=>K p
 | (c,b)::l,p,K=>ahz l (c=b→p) K
section run
variable (cfg:xE) (Sp:o9)
def ids:kN→List Nat
 | []=>[]
 | (o,_)::l=>o::ids l
def ev (pc:PC) (H:Nat→Option eP):Pg→List Nat→(AV→kN→List Nat→Prop)→Prop
 | .ret v ups,Av,K=>force v λ v'=>DN ups λ wX=>K v' wX Av
 | @Pg.need p _ k,Av,K=>ahz pc p λ p'=>p'∧ev pc H k Av K
 | .rd o k,Av,K=>match H o with
  | some x=>ev pc H (k x) (o::Av) K
  | none=>ahz pc False λ p'=>p'∧K .undef [] Av
 | .call f args obs k,Av,K=>∃r fO,ahz pc (Sp f args obs r fO) λ p'=>p'∧ev pc H (k r fO) Av K
 | .fail,Av,K=>ahz pc False λ p'=>p'∧K .undef [] Av
def agD:Op→Bool
 | .move _ | .assign _ | .pick .. | .build .. | .load .. | .nilCheck _ | .binOp .. | .unOp .. | .convert .. | .makeFunc .. | .slice .. | .fieldAddr .. | .field .. | .indexAddr .. | .index .. | .lookup .. | .extract .. => true
 | .call c=>match c.callee with
  | .builtin .len | .builtin .min | .builtin .max=>true
  | .value (.func f)=>match (alI cfg f).muts,(alI cfg f).frz with | [],false=>true | _,_=>false
  | _=>false
 | _=>false
def YC (c:Bool) (A B:Prop):Prop:=match c with | true=>A | false=>B
def aaX:List Oper→Nat→Option Oper
 | [],_=>none
 | o::_,0=>some o
 | _::l,n+1=>aaX l n
def Wx (all:List Oper) (j:Nat):Option Nat:=match aaX all j with
 | some o=>o.dst
 | none=>none
def ai6 (ups H:kN) (K:kN→Prop):Prop:=
 match ups with
 | []=>K H
 | u::l=>ai6 l H λ H'=>K (u::H')
def ai7 (dst:Option Nat) (v u:AV) (T U:List (Nat×AV)) (K:List (Nat×AV)→List (Nat×AV)→Prop):Prop:=
 match dst with
 | some d=>K ((d,v)::T) ((d,u)::U)
 | none=>K T U
def MF:List PC→Nat→PC
 | [],_=>[]
 | p::_,0=>p
 | _::l,n+1=>MF l n
def afe:List PC→Nat→(PC→Prop)→Prop
 | [],_,K=>K []
 | p::_,0,K=>K p
 | _::l,n+1,K=>afe l n K
def RH:List PC→PC→(List PC→Prop)→Prop
 | [],p,K=>K [p]
 | q::l,p,K=>RH l p λ l'=>K (q::l')
def isNone {α:Type}:Option α→Bool
 | none=>true
 | some _=>false
def adp (all:List Oper) (nx:Nat):List Oper→Nat→List (Nat×AV)→List (Nat×AV)→kN→List PC→List Log→(St→List Log→Prop)→Prop
 | [],i,_,U,H,_,log,K=>K ⟨U,H,nx+stride*i⟩ log
 | o::rest,i,T,U,H,pcs,log,K=>
  match o.guard with
  | none=>ev Sp [] (hget H) (gY cfg (nx+stride*i) o.op (Yc cfg (iD T))) [] λ v ups Av=>
    ai7 o.dst v v T U λ T' U'=>ai6 ups H λ H'=>RH pcs [] λ aff=>adp all nx rest (i+1) T' U' H' aff (⟨Av,ids ups⟩::log) K
  | some (j,b)=>match Wx all j with
   | some d=>match iD T d with
    | .bool c=>match agD cfg o.op with
     | true=>afe pcs j λ pcj=>ev Sp ((c,b)::pcj) (hget H) (gY cfg (nx+stride*i) o.op (Yc cfg (iD T))) [] λ v ups Av=>
      match ups with
      | []=>ai7 o.dst v .undef T U λ T' U'=>RH pcs ((c,b)::pcj) λ aff=>adp all nx rest (i+1) T' U' H aff (⟨Av,[]⟩::log) K
      | _::_=>False
     | false=>match MF pcs j with
      | []=>YC (c==b)
       (ev Sp [] (hget H) (gY cfg (nx+stride*i) o.op (Yc cfg (iD T))) [] λ v ups Av=>
         ai7 o.dst v v T U λ T' U'=>ai6 ups H λ H'=>RH pcs [] λ aff=>adp all nx rest (i+1) T' U' H' aff (⟨Av,ids ups⟩::log) K)
       (ai7 o.dst .undef .undef T U λ T' U'=>RH pcs [(c,b)] λ aff=>adp all nx rest (i+1) T' U' H aff (⟨[],[]⟩::log) K)
      | _::_=>False
    | _=>False
   | none=>False
def YD (all:List Oper) (i:Nat):Option (Nat×Bool):=match aaX all i with
 | some o=>o.guard
 | none=>none
def chain (all:List Oper):Nat→Option (Nat×Bool)→List (Nat×Bool)
 | 0,_=>[]
 | _+1,none=>[]
 | f+1,some (j,b)=>(j,b)::chain all f (YD all j)
def agE (d:Option Nat) (t:Nat):Bool:=match d with
 | some x=>Nat.beq x t
 | none=>false
def wF (t:Nat):List Oper→Nat→List Nat
 | [],_=>[]
 | o::l,i=>match agE o.dst t with
  | true=>i::wF t l (i+1)
  | false=>wF t l (i+1)
def writers (all:List Oper) (t:Nat):List Nat:=wF t all 0
def Yd (all:List Oper):List Nat→Bool
 | []=>true
 | i::l=>match YD all i with
  | none=>Yd all l
  | some _=>false
def eqB:Bool→Bool→Bool
 | true,true=>true
 | false,false=>true
 | _,_=>false
def alP (j:Nat) (b:Bool):List (Nat×Bool)→Bool
 | []=>false
 | (j',b')::l=>match Nat.beq j j',eqB b b' with
  | true,true=>true
  | _,_=>alP j b l
def abL (all:List Oper) (k:Nat) (g:Option (Nat×Bool)) (t:Nat):Bool:=
 match writers all t with
 | [i]=>match YD all i with
  | none=>true
  | some (j,b)=>match Nat.blt i k with
   | true=>alP j b (chain all 20 g)
   | false=>false
 | l=>Yd all l
def agF (all:List Oper) (k:Nat) (g:Option (Nat×Bool)) (c:Operand) (pol:Bool) (x:Operand):Bool:=
 match x with
 | .tmp t=>match abL all k g t with
  | true=>true
  | false=>match c,writers all t with
   | .tmp ct,[i]=>match YD all i,writers all ct,Nat.blt i k with
    | some (j,b),[jc],true=>match Nat.beq j jc,Nat.blt jc k with
     | true,true=>eqB b pol
     | _,_=>false
    | _,_,_=>false
   | _,_=>false
 | _=>true
def Ph (all:List Oper) (k:Nat) (g:Option (Nat×Bool)):Operand→Bool
 | .tmp t=>abL all k g t
 | _=>true
def JI (all:List Oper) (k:Nat) (g:Option (Nat×Bool)):List Operand→Bool
 | []=>true
 | x::l=>match Ph all k g x with
  | true=>JI all k g l
  | false=>false
def adq (all:List Oper) (k:Nat) (o:Oper):Bool:=
 match (match o.guard with
  | none=>true
  | some (j,_)=>match Nat.blt j k with
   | true=>match Wx all j with
    | some d=>match writers all d with
         | [j']=>Nat.beq j' j
         | _=>false
    | none=>false
   | false=>false) with
 | true=>match o.op with
  | .pick c x y=>match Ph all k o.guard c,agF all k o.guard c true x with
   | true,true=>agF all k o.guard c false y
   | _,_=>false
  | op=>JI all k o.guard op.operands.toList
 | false=>false
def tQ (N:Nat) (all:List Oper):List Oper→Nat→Bool
 | [],_=>true
 | o::l,k=>match adq all k o,(match o.dst with | some d=>Nat.blt d N | none=>true) with
  | true,true=>tQ N all l (k+1)
  | _,_=>false
def before (all:List Oper):Nat→Nat→Nat→Bool
 | 0,_,_=>false
 | f+1,i,j=>match aaX all j with
  | some o=>o.after.toList.any λ e=>Region.binds .any e&&Nat.blt e.on j&&(Nat.beq e.on i||before all f i e.on)
  | none=>false
def looks (all:List Oper) (o:Oper):List Nat:=
 (o.op.operands.toList.filterMap λ | .tmp t=>some t | _=>none)++(match o.guard with | some (j,_)=>(Wx all j).toList | none=>[])
def isIn (d:Option Nat) (l:List Nat):Bool:=match d with
 | some x=>CK x l
 | none=>false
def YE (all:List Oper) (x y:Oper):Bool:=!isIn x.dst (looks all y)&&!isIn y.dst (looks all x)&&!isIn x.dst y.dst.toList
def MG (all:List Oper) (j:Nat) (oj:Oper):List Oper→Nat→Bool
 | [],_=>true
 | o::l,i=>match Nat.blt i j with
  | true=>(YE all o oj||before all 40 i j)&&MG all j oj l (i+1)
  | false=>true
def abM (o:Oper) (k:Nat):Bool:=o.after.toList.all λ e=>!Region.binds .any e||Nat.blt e.on k
def UZ (all:List Oper):List Oper→Nat→Bool
 | [],_=>true
 | o::l,j=>abM o j&&MG all j o all 0&&UZ all l (j+1)
def ai8 (N:Nat) (all:List Oper) (draw:Bool):Bool:=tQ N all all 0&&(!draw||UZ all all 0)
def iW (N:Nat):Code→Bool
 | .region _ ops draw=>ai8 N ops.toList draw
 | .seq a b=>iW N a&&iW N b
 | .cond _ a b=>iW N a&&iW N b
 | .block _ a=>iW N a
 | .loop a=>iW N a
 | .rangeFunc _ _ a b=>iW N a&&iW N b
 | .skip | .exit _ | .ret=>true
 | _=>false
def meets (l m:List Nat):Bool:=match l with
 | []=>false
 | x::l'=>match CK x m with
  | true=>true
  | false=>meets l' m
def U0 (all:List Oper) (j:Nat) (x:Log):List Log→Nat→Bool
 | [],_=>true
 | _::_,0=>true
 | y::l,i+1=>match meets x.wrs y.Av,meets y.wrs x.Av,meets y.wrs x.wrs with
  | false,false,false=>U0 all j x l i
  | _,_,_=>match before all 40 i j with
   | true=>U0 all j x l i
   | false=>false
def JC (all:List Oper):List Log→Nat→Bool
 | [],_=>true
 | _::_,0=>true
 | x::l,j+1=>match U0 all j x l j with
  | true=>JC all l j
  | false=>false
def Ye:Code→Nat
 | .region id _ _=>id
 | .seq a _=>Ye a
 | .block _ a=>Ye a
 | .loop a=>Ye a
 | _=>1000000
def kP (ct:List Nat) (L:Code→St→(Exit→St→Prop)→Prop):Code→St→(Exit→St→Prop)→Prop
 | .skip,s,K=>K .normal s
 | .region _ ops draw,⟨T,H,nx⟩,K=>adp cfg Sp ops.toList nx ops.toList 0 T T H [] [] λ s' log=>
  match draw with
  | true=>match JC ops.toList log ops.toList.length with
   | true=>K .normal s'
   | false=>False
  | false=>K .normal s'
 | .seq a b,s,K=>match CK (Ye b) ct with
  | true=>L (.seq a b) s K
  | false=>kP ct L a s λ e s'=>match e with
   | .normal=>kP ct L b s' K
   | e=>K e s'
 | .cond c x y,s,K=>match Yc cfg (iD s.tmps) c with
  | .bool b=>YC b (kP ct L x s K) (kP ct L y s K)
  | _=>False
 | .block id c,s,K=>kP ct L c s λ e s'=>match e with
  | .exit i=>match Nat.beq i id with
   | true=>K .normal s'
   | false=>K (.exit i) s'
  | e=>K e s'
 | .loop c,s,K=>L (.loop c) s K
 | .rangeFunc g ps a b,s,K=>L (.rangeFunc g ps a b) s K
 | .exit id,s,K=>K (.exit id) s
 | .ret,s,K=>K .ret s
 | _,_,_=>False
end run
inductive Le:AV→AV→Prop
 | refl (v:AV):Le v v
 | sl {es es' n n':Nat} {f f':Bool} {g g':Nat→AV} (hn:n=n') (he:n≠0→es=es') (hf:f'=true→f=true) (h:∀i,i<n→Le (g i) (g' i)):Le (.sl es n f g) (.sl es' n' f' g')
 | ro {cs cs':List AV} (hl:cs.length=cs'.length) (h:∀j,j<cs.length→Le (nth cs j) (nth cs' j)):Le (.ro cs) (.ro cs')
 | agg {cs cs':List AV} (hl:cs.length=cs'.length) (h:∀j,j<cs.length→Le (nth cs j) (nth cs' j)):Le (.agg cs) (.agg cs')
 | jQ {cs cs':List AV} (hl:cs.length=cs'.length) (h:∀j,j<cs.length→Le (nth cs j) (nth cs' j)):Le (.jQ cs) (.jQ cs')
 | fn {f:FuncId} {cs cs':List AV} (hl:cs.length=cs'.length) (h:∀j,j<cs.length→Le (nth cs j) (nth cs' j)):Le (.fn f cs) (.fn f cs')
def U1:List AV→List AV→Prop
 | [],[]=>True
 | u::l,v::m=>Le u v∧U1 l m
 | _,_=>False
def LeO:eP→eP→Prop
 | .box cs,.box cs'=>U1 cs cs'
 | .row es n g,.row es' n' g'=>es=es'∧n=n'∧∀i,i<n→Le (g i) (g' i)
 | .map kd z f,.map kd' z' f'=>kd=kd'∧z=z'∧f=f'
 | _,_=>False
def an9:List eP→List eP→Prop
 | [],[]=>True
 | x::l,y::m=>LeO x y∧an9 l m
 | _,_=>False
def uU (ρ:List (Nat×Option Nat)) (o:Nat):Option Nat:=match look ρ o with
 | some x=>x
 | none=>some o
def YF (H:kN) (o:Nat):Bool:=match hget H o with
 | some _=>true
 | none=>false
def mR (ρ:List (Nat×Option Nat)) (H':kN):Nat→AV→AV→Prop
 | 0,_,_=>False
 | f+1,u,v=>match v with
  | .undef=>True
  | .bool b'=>match u with | .bool b=>b=b' | _=>False
  | .int k' n'=>match u with | .int k n=>k=k'∧n=n' | _=>False
  | .str s'=>match u with | .str s=>s=s' | _=>False
  | .EX=>match u with | .EX=>True | _=>False
  | .mref o'=>match u with | .mref o=>YF H' o'=true∧uU ρ o'=some o | _=>False
  | .pm a' b' c'=>match u with | .pm a b c=>a=a'∧b=b'∧c=c' | _=>False
  | .sl es' n' f' g'=>match u with
   | .sl es n fu g=>n=n'∧(n≠0→es=es')∧(f'=true→fu=true)∧∀i,i<n→Le (g i) (g' i)
   | _=>False
  | .ro cs'=>match u with | .ro cs=>U1 cs cs' | _=>False
  | .ptr o' i' off'=>match u with
   | .ptr o i off=>YF H' o'=true∧uU ρ o'=some o∧i=i'∧off=off'
   | _=>False
  | .dQ o' i' n' f'=>match u with
   | .dQ o i n fu=>YF H' o'=true∧uU ρ o'=some o∧i=i'∧n=n'∧(f'=true→fu=true)
   | .sl _ n fu _=>YF H' o'=true∧uU ρ o'=none∧fu=true∧n=0∧i'=0∧n'=0
   | _=>False
  | .agg cs'=>match u with | .agg cs=>SN f cs cs' | _=>False
  | .fn f' cs'=>match u with | .fn fu cs=>fu=f'∧SN f cs cs' | _=>False
  | .jQ cs'=>match u with | .jQ cs=>SN f cs cs' | _=>False
 where
 SN:Nat→List AV→List AV→Prop
  | 0,_,_=>False
  | _+1,[],[]=>True
  | f+1,u::l,v::m=>mR ρ H' f u v∧SN f l m
  | _+1,_,_=>False
def aoa (ρ:List (Nat×Option Nat)) (H':kN) (T:List (Nat×AV)):List (Nat×AV)→Prop
 | []=>True
 | (t,v)::l=>mR ρ H' fuel (iD T t) v∧aoa ρ H' T l
def adr (ρ:List (Nat×Option Nat)) (H':kN) (x y:eP):Prop:=
 match x,y with
 | .box cs,.box cs'=>mR.SN ρ H' fuel cs cs'
 | .row es n g,.row es' n' g'=>es=es'∧n=n'∧∀i,i<n→Le (g i) (g' i)
 | .map kd z f,.map kd' z' f'=>kd=kd'∧z=z'∧f=f'
 | _,_=>False
def ai9 (ρ:List (Nat×Option Nat)) (H' H:kN):kN→Prop
 | []=>True
 | (_,none)::l=>ai9 ρ H' H l
 | (o',some y)::l=>(match uU ρ o' with
  | some o=>match hget H o with
   | some x=>adr ρ H' x y
   | none=>False
  | none=>match y with
   | .row _ n _=>n=0
   | _=>False)∧ai9 ρ H' H l
def YG (ρ:List (Nat×Option Nat)):kN→List Nat
 | []=>[]
 | (_,none)::l=>YG ρ l
 | (o',some _)::l=>match uU ρ o' with
  | some o=>o::YG ρ l
  | none=>YG ρ l
def RI (m nx:Nat) (ρ:List (Nat×Option Nat)):kN→Bool
 | []=>true
 | (o',_)::l=>match Nat.blt o' nx with
  | true=>match uU ρ o' with
   | some o=>match Nat.beq o o' with
    | true=>RI m nx ρ l
    | false=>match Nat.ble m o' with
     | true=>RI m nx ρ l
     | false=>false
   | none=>match Nat.ble m o' with
    | true=>RI m nx ρ l
    | false=>false
  | false=>false
def ant:kN→Bool
 | []=>true
 | (o,_)::l=>match look l o with
  | some _=>false
  | none=>ant l
def afg (m:Nat) (ρ:List (Nat×Option Nat)) (s':St):Bool:=
 match RI m s'.nx ρ s'.heap,pQ (YG ρ s'.heap),ant s'.heap with
 | true,true,true=>Nat.ble m s'.nx
 | _,_,_=>false
structure Emb (m:Nat) (ρ:List (Nat×Option Nat)) (s s':St):Prop where
 JC:afg m ρ s'=true
 tmps:aoa ρ s'.heap s.tmps s'.tmps
 heap:ai9 ρ s'.heap s.heap s'.heap
def upTo:Nat→Nat→List Nat
 | 0,_=>[]
 | n+1,i=>i::upTo n (i+1)
def KA (cfg:xE) (s:St):List ResultVar→Option (List AV)
 | []=>some []
 | .tmp t::l=>match KA cfg s l with
  | some vs=>some (iD s.tmps t::vs)
  | none=>none
 | .cell ad ty::l=>match KA cfg s l,iD s.tmps ad,look cfg.ty ty with
  | some vs,.ptr o 0 0,some ti=>match hget s.heap o with
   | some (.box cs)=>match ti.agg with
    | true=>match Nat.ble ti.size cs.length with
     | true=>some (.agg (cs.take ti.size)::vs)
     | false=>none
    | false=>match cs with
     | c::_=>some (c::vs)
     | []=>none
   | some (.row _ n g)=>match YB ti.desc,ti.agg with
    | some _,true=>match kZ n 0 g with
     | cs=>match Nat.ble ti.size cs.length with
      | true=>some (.agg (cs.take ti.size)::vs)
      | false=>none
    | _,_=>none
   | _=>none
  | _,_,_=>none
def oneOf:List AV→AV
 | [v]=>v
 | vs=>.jQ vs
def abN (m:Nat) (r:AV):AV→List Nat
 | .ptr o _ _=>match Nat.ble m o with
  | true=>[o]
  | false=>[]
 | .dQ o _ _ _=>match r with
  | .dQ .. => match Nat.ble m o with
   | true=>[o]
   | false=>[]
  | _=>[]
 | _=>[]
def YH (H:kN):List Nat→List eP→Prop
 | [],[]=>True
 | o::l,y::ys=>(match hget H o with
  | some x=>match Ya x with
   | true=>adr [] [] x y
   | false=>False
  | none=>False)∧YH H l ys
 | _,_=>False
def JJ (cfg:xE) (Sp:o9) (rs:List ResultVar) (m:Nat) (r:AV) (fO:List eP) (e:Exit) (s:St):Prop:=
 match (match e with | .normal=>true | .ret=>true | _=>false) with
 | true=>match KA cfg s rs with
  | some vs=>match oneOf vs with
   | v=>match upTo m 0++abN m r v with
    | sg=>ev Sp [] (hget s.heap) (Pf sg v λ v' ids=>gF (pQ sg) (gF (ME ids sg) (lI v'))) [] λ v' _ _=>mR [] (pR fO 0) fuel v' r∧YH s.heap sg fO
  | none=>False
 | false=>False
 where pR:List eP→Nat→kN
 | [],_=>[]
 | x::l,i=>(i,some x)::pR l (i+1)
def YI:List eP→Nat→kN
 | [],_=>[]
 | x::l,i=>(i,gz x)::YI l (i+1)
def KC:List AV→Nat→List (Nat×AV)
 | [],_=>[]
 | v::l,i=>(i,v)::KC l (i+1)
end Go.Ab
namespace Go.Ab
def vQ:dR→Value
 | .s b=>.string b
 | .i n=>.int .i64 n
 | .p a b=>.agg #[.int .i64 a,.int .i64 b]
def U2 (z:List ZK) (n:Int):Value:=match z with
 | [.bool]=>.bool (n != 0)
 | [.int k]=>.int k n
 | _=>Go.undef
structure U3 (kd:TD) (z:List ZK) (f:dR→Option Int) (es:Array MapEntry):Prop where
 keys:∀e∈es.toList,∃k n,e.key=vQ k∧xG kd k=true∧f k=some n∧e.val=U2 z n
 uniq:es.toList.Pairwise λ e e'=>e.key≠e'.key
 all:∀k n,f k=some n→∃e∈es.toList,e.key=vQ k
inductive iF (w:World) (I:Nat→Prop):AV→Value→Prop
 | undef (x:Value):iF w I .undef x
 | bool (b:Bool):iF w I (.bool b) (.bool b)
 | int (k:IntKind) (n:Int):iF w I (.int k n) (.int k n)
 | str (s:ByteArray):iF w I (.str s) (.string s)
 | EX:iF w I .EX (.pointer none)
 | pm {kd:TD} {z:List ZK} {f:dR→Option Int} (b:Nat) (es:Array MapEntry) (clock:Nat) (hI:I b) (hw:w.heap[b]? = some (.map es clock)) (hm:U3 kd z f es):iF w I (.pm kd z f) (.map (some b))
 | sl {es n:Nat} {full:Bool} {g:Nat→AV} {a:Option Addr} {cap:Nat} (b off:Nat) (vs:Nat→Nat→Value)
   (hcap:n≤cap) (hfull:full=true→cap=n) (ha:n≠0→a=some ⟨b,off,none⟩∧I b)
   (hes:∀i,i<n→(g i).cells.length=es)
   (hm:∀i j,i<n→j<es→w.cell? ⟨b,off+(i*es+j),none⟩=some (vs i j))
   (h1:∀i j,i<n→j<es→(vs i j).oneCell'=true)
   (hr:∀i j,i<n→j<es→iF w I (nth (g i).cells j) (vs i j)):iF w I (.sl es n full g) (.slice a n cap)
 | ro {cs:List AV} (b off:Nat) (vs:Nat→Value) (hI:I b)
   (hm:∀j,j<cs.length→w.cell? ⟨b,off+j,none⟩=some (vs j))
   (hr:∀j,j<cs.length→iF w I (nth cs j) (vs j)):iF w I (.ro cs) (.pointer (some ⟨b,off,none⟩))
 | agg {cs:List AV} {vs:Array Value} (hl:vs.size=cs.length) (hr:∀j,j<cs.length→iF w I (nth cs j) (vs.getD j Go.undef)):iF w I (.agg cs) (.agg vs)
 | fn {f:FuncId} {cs:List AV} {vs:Array Value} (hl:vs.size=cs.length) (hr:∀j,j<cs.length→iF w I (nth cs j) (vs.getD j Go.undef)):iF w I (.fn f cs) (.func (.func f) #[] vs)
 | jQ {cs:List AV} {vs:Array Value} (hl:vs.size=cs.length) (hr:∀j,j<cs.length→iF w I (nth cs j) (vs.getD j Go.undef)):iF w I (.jQ cs) (.tuple vs)
structure Own where
 es:Nat
 n:Nat
 pl:Option (Nat×Nat×Nat)
abbrev OM:=Nat→Option Own
inductive fA (w:World) (I:Nat→Prop) (O:OM) (D:Nat→Prop):AV→Value→Prop
 | pure {v:AV} {x:Value} (h:iF w I v x):fA w I O D v x
 | ptr {o i off b bo sz:Nat} {p:Own} (ho:O o=some p) (hp:p.pl=some (b,bo,sz)) (hi:i<p.n):fA w I O D (.ptr o i off) (.pointer (some ⟨b,bo+(i*p.es+off),none⟩))
 | dQ {o i n:Nat} {full:Bool} {p:Own} {a:Option Addr} {cap:Nat} (ho:O o=some p) (hi:i+n≤p.n) (hcap:n≤cap) (hfull:full=true→cap=n)
   (hpl:cap≠0→∃b bo sz,p.pl=some (b,bo,sz)∧a=some ⟨b,bo+i*p.es,none⟩∧bo+(i+cap)*p.es≤sz) (hext:p.n≤i+cap):fA w I O D (.dQ o i n full) (.slice a n cap)
 | mref {o b bo sz:Nat} {p:Own} (ho:O o=some p) (hp:p.pl=some (b,bo,sz)):fA w I O D (.mref o) (.map (some b))
 | Aw {o:Nat} {x:Value} (ho:O o=none) (hd:D o) (h1:x.oneCell'=true):fA w I O D (.mref o) x
 | Ay {o i off:Nat} {x:Value} (ho:O o=none) (hd:D o) (h1:x.oneCell'=true):fA w I O D (.ptr o i off) x
 | xH {o i n:Nat} {full:Bool} {x:Value} (ho:O o=none) (hd:D o) (h1:x.oneCell'=true):fA w I O D (.dQ o i n full) x
 | agg {cs:List AV} {vs:Array Value} (hl:vs.size=cs.length) (hr:∀j,j<cs.length→fA w I O D (nth cs j) (vs.getD j Go.undef)):fA w I O D (.agg cs) (.agg vs)
 | fn {f:FuncId} {cs:List AV} {vs:Array Value} (hl:vs.size=cs.length) (hr:∀j,j<cs.length→fA w I O D (nth cs j) (vs.getD j Go.undef)):fA w I O D (.fn f cs) (.func (.func f) #[] vs)
 | jQ {cs:List AV} {vs:Array Value} (hl:vs.size=cs.length) (hr:∀j,j<cs.length→fA w I O D (nth cs j) (vs.getD j Go.undef)):fA w I O D (.jQ cs) (.tuple vs)
def KD (w:World) (b sz:Nat):Prop:=∀j,j<sz→(w.cell? ⟨b,j,none⟩).isSome=true∧w.frozen? ⟨b,j,none⟩=false
def cellAt (w:World) (b j:Nat):Value:=(w.cell? ⟨b,j,none⟩).getD Go.undef
structure xI (w:World) (b bo sz:Nat):Prop where
 al:KD w b sz
 one:∀j,bo≤j→j<sz→(cellAt w b j).oneCell'=true
instance {w:World} {b bo sz:Nat}:CoeOut (xI w b bo sz) (KD w b sz):=⟨xI.al⟩
instance {w:World} {b bo sz:Nat}:CoeFun (xI w b bo sz) (λ _=>∀j,j<sz→(w.cell? ⟨b,j,none⟩).isSome=true∧w.frozen? ⟨b,j,none⟩=false):=⟨λ h=>h.al⟩
def iQ (w:World) (I:Nat→Prop) (O:OM) (D:Nat→Prop) (p:Own):eP→Prop
 | .box cs=>p.n=1∧∃b bo sz,p.pl=some (b,bo,sz)∧KD w b sz∧bo+cs.length≤sz∧∀j,j<cs.length→fA w I O D (nth cs j) (cellAt w b (bo+j))
 | .row es n g=>p.n=n∧p.es=es∧(∀i,i<n→(g i).cells.length=es)∧((n=0∧p.pl=none)∨
   ∃b bo sz,p.pl=some (b,bo,sz)∧xI w b bo sz∧bo+n*es≤sz∧∀i j,i<n→j<es→iF w I (nth (g i).cells j) (cellAt w b (bo+(i*es+j)))∧(cellAt w b (bo+(i*es+j))).oneCell'=true)
 | .map kd z f=>p.n=1∧∃b bo sz es clock,p.pl=some (b,bo,sz)∧w.heap[b]? = some (.map es clock)∧U3 kd z f es
structure Ctx where
 w0:World
 M:Nat→Prop
 I0:Nat→Prop
 O0:OM
 m:Nat
 K:Nat→Obj→Prop
 rd:Bool
def Pj:Obj→Bool
 | .cells .. | .map .. => false
 | _=>true
structure iG (w' w:World):Prop where
 os:w'.os=w.os
 tape:w'.tape=w.tape
 output:w'.output=w.output
 keep:∀(k:Nat) (o:Obj),w.heap[k]? = some o→Pj o=true→w'.heap[k]? = some o
theorem iG.refl (w:World):iG w w:=⟨rfl,rfl,rfl,λ _ _ h _=>h⟩
theorem iG.trans {a b c:World} (h:iG a b) (k:iG b c):iG a c:=⟨h.os.trans k.os,h.tape.trans k.tape,h.output.trans k.output,λ i o hi ho=>h.keep i o (k.keep i o hi ho) ho⟩
variable {w':World}
theorem iG.heap {w:World} (h1:w'.os=w.os) (h2:w'.tape=w.tape) (h3:w'.output=w.output) (h:w'.heap=w.heap):iG w' w:=⟨h1,h2,h3,λ i o hi _=>by rw [h]; exact hi⟩
theorem iG.alloc (w:World) (o:Obj):iG (w.alloc o) w:=⟨rfl,rfl,rfl,λ i x hi _=>by
 have hlt:i<w.heap.size:=by
  rcases Nat.lt_or_ge i w.heap.size with h | h
  ·exact h
  ·rw [Array.getElem?_eq_none h] at hi; cases hi
 show (w.heap.push o)[i]? = some x;rw [Array.getElem?_push_lt hlt,← hi,Array.getElem?_eq_getElem hlt]⟩
structure H6 (cx:Ctx) (w:World):Prop where
 same:iG w cx.w0
 kept:∀k o,cx.K k o→w.heap[k]? = some o∧Pj o=true
theorem H6.step {cx:Ctx} {w:World} (h:H6 cx w) (he:iG w' w):H6 cx w':=⟨he.trans h.same,λ k o hk=>⟨he.keep k o (h.kept k o hk).1 (h.kept k o hk).2,(h.kept k o hk).2⟩⟩
structure Rel (cfg:xE) (cx:Ctx) (H:Nat→Option eP) (D:Nat→Prop) (w:World) (I:Nat→Prop) (O:OM):Prop where
 dom:∀o,O o=none↔H o=none
 used:∀o p,O o=some p→D o
 objs:∀o ob p,H o=some ob→O o=some p→iQ w I O D p ob
 inj:∀o o' p p' b bo sz b' o8 sz',O o=some p→O o'=some p'→p.pl=some (b,bo,sz)→p'.pl=some (b',o8,sz')→o≠o'→b≠b'
 qH:∀o p b bo sz,O o=some p→p.pl=some (b,bo,sz)→¬ I b
 lt:∀o p b bo sz,O o=some p→p.pl=some (b,bo,sz)→b<w.heap.size
 Bz:∀b,I b→b<w.heap.size
 size:cx.w0.heap.size≤w.heap.size
 frame:∀b,b<cx.w0.heap.size→¬ cx.M b→w.heap[b]? = cx.w0.heap[b]?
 new:∀o p b bo sz,O o=some p→p.pl=some (b,bo,sz)→cx.w0.heap.size≤b∨cx.M b
 glob:∀g cs,look cfg.glob g=some cs→iF w I (.ro cs) (.pointer (some ⟨g,0,none⟩))
 SG:∀b,cx.I0 b→I b
 U4:∀b,I b→cx.I0 b∨cx.w0.heap.size≤b∨cx.M b
 Yf:∀o,o<cx.m→O o=cx.O0 o∨O o=none
 Dm:∀o,o<cx.m→D o
 env:H6 cx w
theorem vR (l:List AV) (i:Nat):nth l i=l.getD i .undef:=by
 induction l generalizing i with
 | nil=>simp [nth]
 | cons v l ih=>cases i<;>simp [nth,ih]
variable {b:Nat}
theorem cell?_of_heap {w:World} {off:Nat} (h:w'.heap[b]? = w.heap[b]?):w'.cell? ⟨b,off,none⟩=w.cell? ⟨b,off,none⟩:=by
 simp [World.cell?, h]
theorem frozen?_of_heap {w:World} {off:Nat} (h:w'.heap[b]? = w.heap[b]?):w'.frozen? ⟨b,off,none⟩=w.frozen? ⟨b,off,none⟩:=by
 simp [World.frozen?, h]
theorem xI.up {w:World} {bo o8 sz:Nat} (h:xI w b bo sz) (hb:bo≤o8):xI w b o8 sz:=⟨h.al,λ j h1 h2=>h.one j (Nat.le_trans hb h1) h2⟩
theorem xI.of_heap {w:World} {bo sz:Nat} (h:xI w b bo sz) (hh:w'.heap[b]? = w.heap[b]?):xI w' b bo sz:=
 ⟨λ j hj=>by rw [cell?_of_heap hh,frozen?_of_heap hh]; exact h.al j hj,λ j hb hj=>by rw [cellAt,cell?_of_heap hh]; exact h.one j hb hj⟩
variable {I':Nat→Prop} {v:AV} {x:Value}
theorem iF.mono {w:World} {I:Nat→Prop} (hI:∀b,I b→I' b) (hw:∀b,I b→w'.heap[b]? = w.heap[b]?) (h:iF w I v x):iF w' I' v x:=by
 induction h with
 | undef x=>exact .undef x
 | bool b=>exact .bool b
 | int k n=>exact .int k n
 | str s=>exact .str s
 | EX=>exact .EX
 | pm b es clock h1 h2 h3=>exact .pm b es clock (hI _ h1) (by rw [hw _ h1]; exact h2) h3
 | @sl es n full g a cap b off vs hcap hfull ha hes hm h1 hr ih=>
  refine .sl b off vs hcap hfull (λ h=>⟨(ha h).1,hI _ (ha h).2⟩) hes (λ i j hi hj=>?_) h1 ih;rw [cell?_of_heap (hw _ (ha om).2)];exact hm i j hi hj
 | ro b off vs h1 hm hr ih=>
  refine .ro b off vs (hI _ h1) (λ j hj=>?_) ih;rw [cell?_of_heap (hw _ h1)];exact hm j hj
 | agg hl hr ih=>exact .agg hl ih
 | fn hl hr ih=>exact .fn hl ih
 | jQ hl hr ih=>exact .jQ hl ih
theorem fA.mono {w:World} {I:Nat→Prop} {O O':OM} {D D':Nat→Prop} (hI:∀b,I b→I' b) (hw:∀b,I b→w'.heap[b]? = w.heap[b]?)
  (hO:∀o,D o→O' o=O o∨O' o=none) (hD:∀o,D o→D' o) (hu:∀o p,O o=some p→D o) {v:AV} {x:Value} (h:fA w I O D v x):fA w' I' O' D' v x:=by
 induction h with
 | pure h=>exact .pure (h.mono hI hw)
 | @ptr o i off b bo sz p ho hp hi=>
  rcases hO o (hu o p ho) with h | h
  ·exact .ptr (h.trans ho) hp hi
  ·exact .Ay h (hD _ (hu o p ho)) rfl
 | @dQ o i n full p a cap ho hi hcap hfull hpl hext=>
  rcases hO o (hu o p ho) with h | h
  ·exact .dQ (h.trans ho) hi hcap hfull hpl hext
  ·exact .xH h (hD _ (hu o p ho)) rfl
 | @mref o b bo sz p ho hp=>
  rcases hO o (hu o p ho) with h | h
  ·exact .mref (h.trans ho) hp
  ·exact .Aw h (hD _ (hu o p ho)) rfl
 | @Aw o x ho hd h1=>
  rcases hO o hd with h | h
  ·exact .Aw (h.trans ho) (hD _ hd) h1
  ·exact .Aw h (hD _ hd) h1
 | @Ay o i off x ho hd h1=>
  rcases hO o hd with h | h
  ·exact .Ay (h.trans ho) (hD _ hd) h1
  ·exact .Ay h (hD _ hd) h1
 | @xH o i n full x ho hd h1=>
  rcases hO o hd with h | h
  ·exact .xH (h.trans ho) (hD _ hd) h1
  ·exact .xH h (hD _ hd) h1
 | agg hl hr ih=>exact .agg hl ih
 | fn hl hr ih=>exact .fn hl ih
 | jQ hl hr ih=>exact .jQ hl ih
def MH:ZK→Value→Prop
 | .bool,x=>x=.bool false
 | .int k,x=>x=.int k 0
 | .str,x=>x=.string ByteArray.empty
 | .slice,x=>x=.slice none 0 0
 | .ptr,x=>x=.pointer none
 | .other,x=>x.oneCell'=true
def ajb:TD→TypeDesc→Prop
 | .bool,d=>d=.bool
 | .int k,d=>d=.int k
 | .str,d=>d=.string
 | .slice e,d=>d=.slice e
 | .pointer e,d=>d=.pointer e
 | .map k e,d=>d=.map k e
 | .array n e,d=>d=.array n e
 | .struct fs,d=>∃fields:Array Field,d=.struct fields∧fields.toList.map (λ f=>(f.offset,f.type))=fs
 | .other,_=>True
structure ap0 (P:Program) (t:TypeId) (ti:RG):Prop where
 ex:∃i d z,P.info? t=some i∧P.underlying t=some d∧i.zero=some z∧i.size=ti.size∧i.bytes=ti.bytes∧d.isRow=ti.agg∧z.cells.size=ti.size∧
  ti.zero.length=ti.size∧(∀j,j<ti.size→MH (ti.zero.getD j .other) (z.cells.getD j Go.undef))∧ajb ti.desc d
 one:ti.agg=false→∀i z,P.info? t=some i→i.zero=some z→z.cells=#[z]
def Wy (P:Program):TypeDesc→Prop
 | .struct fields=>∀f∈fields.toList,(P.info? f.type).isSome=true
 | _=>True
def abO:ZK→TypeDesc→Prop
 | .bool,d=>d=.bool
 | .int k,d=>d=.int k
 | .str,d=>d=.string
 | _,_=>False
def alQ (P:Program) (ok:TypeId→List ZK→Prop):List Field→List ZK→Nat→Prop
 | [],[],_=>True
 | f::fs,zs,k=>f.name ≠ "_" ∧ f.offset=k∧∃z1 z2,zs=z1++z2∧((∃z d,z1=[z]∧P.underlying f.type=some d∧abO z d)∨(ok f.type z1∧P.cellsOf f.type=z1.length))∧alQ P ok fs z2 (k+z1.length)
 | _,_,_=>False
def EqT (P:Program):Nat→TypeId→List ZK→Prop
 | 0,_,_=>False
 | n+1,t,zs=>∃fields,P.underlying t=some (.struct fields)∧P.stoodInHeld t=false∧alQ P (EqT P n) fields.toList zs 0
structure ap1 (P:Program) (t:TypeId) (zs:List ZK):Prop where
 ex:EqT P 4 t zs
 guard:P.eqGuardType P.depth t=false
structure iE (P:Program) (cfg:xE):Prop where
 ty:∀t ti,look cfg.ty t=some ti→ap0 P t ti
 fields:∀t ti d,look cfg.ty t=some ti→P.underlying t=some d→Wy P d
 mixed:P.follows .mixedOrders=true
 eqs:∀t zs,look cfg.eqs t=some zs→ap1 P t zs
def mW (H:Nat→Option eP) (ups:kN):Nat→Option eP:=λ o=>match look ups o with | some x=>x | none=>H o
inductive fU (Sp:o9) (H:Nat→Option eP):Pg→AV→kN→List Nat→Prop
 | ret (v:AV) (ups:kN):fU Sp H (.ret v ups) v ups []
 | need {p:Prop} [d:Decidable p] {k:Pg} {v:AV} {ups:kN} {r:List Nat} (hp:p) (h:fU Sp H k v ups r):fU Sp H (.need p k) v ups r
 | rd {o:Nat} {x:eP} {k:eP→Pg} {v:AV} {ups:kN} {r:List Nat} (ho:H o=some x) (h:fU Sp H (k x) v ups r):fU Sp H (.rd o k) v ups (o::r)
 | call {f:FuncId} {args:List AV} {obs:List eP} {k:AV→List eP→Pg} {x:AV} {fO:List eP} {v:AV} {ups:kN} {r:List Nat} (hs:Sp f args obs x fO)
   (h:fU Sp H (k x fO) v ups r):fU Sp H (.call f args obs k) v ups r
def hof:List eP→Nat→Option eP
 | [],_=>none
 | x::_,0=>some x
 | _::l,n+1=>hof l n
def GD:List eP→Nat→Option eP
 | [],_=>none
 | x::_,0=>gz x
 | _::l,n+1=>GD l n
theorem ahA:∀ {l:List eP} {j:Nat} {x:eP},GD l j=some x→hof l j=some x∧Yy x=false:=by
 intro l;induction l with
 | nil=>intro j x h; cases h
 | cons y l ih=>
  intro j x h;cases j with
  | zero=>
   simp only [GD,gz] at h;split at h
   ·cases h
   ·rename_i hg; cases h; exact ⟨rfl,hg⟩
  | succ j=>exact ih h
theorem alR:∀ {l:List eP},(∀j x,hof l j=some x→Yy x=false)→GD l=hof l:=by
 intro l;induction l with
 | nil=>intro _; rfl
 | cons y l ih=>
  intro h;funext j;cases j with
  | zero=>have:=h 0 y rfl; simp only [GD,hof,gz,this]
  | succ j=>exact congrFun (ih λ j x hx=>h (j+1) x hx) j
def L9 (w:World) (I:Nat→Prop) (O:OM) (m:Nat):Ctx:=⟨w,λ b=>∃o p bo sz,O o=some p∧p.pl=some (b,bo,sz),I,O,m,λ _ _=>False,false⟩
def Spec (P:Program) (cfg:xE):o9:=λ f args obs r fO=>
 (∃fn,P.funcs[f]? = some fn∧fn.body.isNone=false∧(fn.name == "runtime.NumGoroutine")=false)∧obs.length≤fO.length∧
 ∀(w:World) (I:Nat→Prop) (O:OM) (vals:Array Value),Rel cfg (L9 w I O obs.length) (hof obs) (λ o=>o<obs.length) w I O→
  vals.size=args.length→(∀j,j<args.length→fA w I O (λ o=>o<obs.length) (nth args j) (vals.getD j Go.undef))→
  Calls P f vals w λ e w'=>∃x I' O',e=.returned x∧Rel cfg (L9 w I O obs.length) (GD fO) (λ o=>o<fO.length) w' I' O'∧
   fA w' I' O' (λ o=>o<fO.length) r x
section
variable {P:Program} {cfg:xE} {cx:Ctx} {H:Nat→Option eP} {D:Nat→Prop} {w:World} {I:Nat→Prop} {O:OM}
def EY (D:Nat→Prop) (n:Nat):Nat→Prop:=λ o=>D o∨(n≤o∧o<n+stride)
def YJ (D:Nat→Prop) (n:Nat):Prop:=∀o,n≤o→o<n+stride→¬ D o
variable {n:Nat}
theorem YJ.one {D:Nat→Prop} (h:YJ D n):¬ D n:=h n (Nat.le_refl _) (by unfold stride; omega)
variable {o:Nat}
theorem U5 {D:Nat→Prop} (h:o=n):EY D n o:=.inr ⟨by omega,by unfold stride; omega⟩
def fP (P:Program) (cfg:xE) (cx:Ctx) (H:Nat→Option eP) (D:Nat→Prop) (w:World) (I:Nat→Prop) (O:OM) (eY:Nat) (o:Oper) (a:Act) (v:AV) (ups:kN):Prop:=
 ∀(next:Act→World→Prop) (Q:Exit→Act→World→Prop),
  (∀x w' I' O',Rel cfg cx (mW H ups) (EY D eY) w' I' O'→(∀u y,fA w I O D u y→fA w' I' O' (EY D eY) u y)→fA w' I' O' (EY D eY) v x→next (a.put o.dst x) w')→
  o.wp P a w next Q
theorem DU (H:Nat→Option eP):mW H []=H:=rfl
theorem iQ.mono {O':OM} {D':Nat→Prop} {p:Own} {ob:eP} (hI:∀b,I b→I' b) (hw:∀b,I b→w'.heap[b]? = w.heap[b]?)
  (hO:∀o,D o→O' o=O o∨O' o=none) (hD:∀o,D o→D' o) (hu:∀o p,O o=some p→D o) (hb:∀b bo sz,p.pl=some (b,bo,sz)→w'.heap[b]? = w.heap[b]?)
  (h:iQ w I O D p ob):iQ w' I' O' D' p ob:=by
 cases ob with
 | box cs=>
  obtain ⟨h1,b,bo,sz,hp,ha,hl,hc⟩:=h;have hh:=hb b bo sz hp;refine ⟨h1,b,bo,sz,hp,λ j hj=>?_,hl,λ j hj=>?_⟩
  ·rw [cell?_of_heap hh,frozen?_of_heap hh]; exact ha j hj
  ·rw [cellAt,cell?_of_heap hh]; exact (hc j hj).mono hI hw hO hD hu
 | row es n g=>
  obtain ⟨h1,h2,h3,h4⟩:=h;refine ⟨h1,h2,h3,?_⟩;rcases h4 with h4 | ⟨b,bo,sz,hp,ha,hl,hc⟩
  ·exact .inl h4
  ·have hh:=hb b bo sz hp;refine .inr ⟨b,bo,sz,hp,ha.of_heap hh,hl,λ i j hi hj=>?_⟩
   ·rw [cellAt,cell?_of_heap hh]; exact ⟨(hc i j hi hj).1.mono hI hw,(hc i j hi hj).2⟩
 | map kd z f=>
  obtain ⟨h1,b,bo,sz,es,clock,hp,hw2,hm⟩:=h;exact ⟨h1,b,bo,sz,es,clock,hp,by rw [hb b bo sz hp]; exact hw2,hm⟩
theorem Rel.H7 (hR:Rel cfg cx H D w I O) (n:Nat):Rel cfg cx H (EY D n) w I O:=
 { hR with
  used:=λ o p h=>.inl (hR.used o p h)
  objs:=λ o ob p h h'=>(hR.objs o ob p h h').mono (λ _ h=>h) (λ _ _=>rfl) (λ _ _=>.inl rfl) (λ _ h=>.inl h) hR.used (λ _ _ _ _=>rfl)
  Dm:=λ o h=>.inl (hR.Dm o h) }
theorem fA.H7 (hR:Rel cfg cx H D w I O) (n:Nat) (h:fA w I O D v x):fA w I O (EY D n) v x:=
 h.mono (λ _ h=>h) (λ _ _=>rfl) (λ _ _=>.inl rfl) (λ _ h=>.inl h) hR.used
theorem BF {o:Oper} {a:Act} {next:Act→World→Prop} {Q:Exit→Act→World→Prop} (h:(execOp a.eval o).run P w=.ok (.value x) w') (hn:next (a.put o.dst x) w'):o.wp P a w next Q:=by
 unfold Oper.wp; rw [h]; exact hn
theorem fP.fD {eY:Nat} {o:Oper} {a:Act} (hR:Rel cfg cx H D w I O) (h:(execOp a.eval o).run P w=.ok (.value x) w) (hv:fA w I O D v x):fP P cfg cx H D w I O eY o a v []:=by
 intro next Q hn
 exact BF h (hn x w I O (by rw [DU]; exact hR.H7 eY) (λ u y hu=>hu.H7 hR eY) (hv.H7 hR eY))
theorem fA.lW {b:Bool} (h:fA w I O D (.bool b) x):x=.bool b:=by
 cases h with | pure h=>cases h; rfl
theorem fA.iR {k:IntKind} {n:Int} (h:fA w I O D (.int k n) x):x=.int k n:=by
 cases h with | pure h=>cases h; rfl
theorem fA.CO {s:ByteArray} (h:fA w I O D (.str s) x):x=.string s:=by
 cases h with | pure h=>cases h; rfl
theorem fA.GH {es:Nat} {f:Bool} {g:Nat→AV} (h:fA w I O D (.sl es n f g) x):iF w I (.sl es n f g) x:=by
 cases h with | pure h=>exact h
variable {cs:List AV}
theorem fA.YK (h:fA w I O D (.ro cs) x):iF w I (.ro cs) x:=by
 cases h with | pure h=>exact h
theorem fA.vD (h:fA w I O D (.agg cs) x):∃vs:Array Value,x=.agg vs∧vs.size=cs.length∧∀j,j<cs.length→fA w I O D (nth cs j) (vs.getD j Go.undef):=by
 cases h with
 | pure h=>cases h with | agg hl hr=>exact ⟨_,rfl,hl,λ j hj=>.pure (hr j hj)⟩
 | agg hl hr=>exact ⟨_,rfl,hl,hr⟩
theorem fA.JK (h:fA w I O D (.jQ cs) x):∃vs:Array Value,x=.tuple vs∧vs.size=cs.length∧∀j,j<cs.length→fA w I O D (nth cs j) (vs.getD j Go.undef):=by
 cases h with
 | pure h=>cases h with | jQ hl hr=>exact ⟨_,rfl,hl,λ j hj=>.pure (hr j hj)⟩
 | jQ hl hr=>exact ⟨_,rfl,hl,hr⟩
theorem fA.MI {f:FuncId} (h:fA w I O D (.fn f cs) x):∃vs:Array Value,x=.func (.func f) #[] vs∧vs.size=cs.length∧∀j,j<cs.length→fA w I O D (nth cs j) (vs.getD j Go.undef):=by
 cases h with
 | pure h=>cases h with | fn hl hr=>exact ⟨_,rfl,hl,λ j hj=>.pure (hr j hj)⟩
 | fn hl hr=>exact ⟨_,rfl,hl,hr⟩
variable {p:Own}
theorem fA.pU {i off:Nat} (ho:O o=some p) (h:fA w I O D (.ptr o i off) x):∃b bo sz,p.pl=some (b,bo,sz)∧i<p.n∧x=.pointer (some ⟨b,bo+(i*p.es+off),none⟩):=by
 cases h with
 | pure h=>cases h
 | @ptr _ _ _ b bo sz p' ho' hp hi=>
  have:p'=p:=Option.some.inj (ho'.symm.trans ho);subst this;exact ⟨b,bo,sz,hp,hi,rfl⟩
 | Ay ho'=>rw [ho] at ho'; cases ho'
theorem fA.pV {i:Nat} {full:Bool} (ho:O o=some p) (h:fA w I O D (.dQ o i n full) x):∃a cap,x=.slice a n cap∧i+n≤p.n∧n≤cap∧(full=true→cap=n)∧
  (cap≠0→∃b bo sz,p.pl=some (b,bo,sz)∧a=some ⟨b,bo+i*p.es,none⟩∧bo+(i+cap)*p.es≤sz):=by
 cases h with
 | pure h=>cases h
 | @dQ _ _ _ _ p' a cap ho' hi hcap hfull hpl hext=>
  have:p'=p:=Option.some.inj (ho'.symm.trans ho);subst this;exact ⟨a,cap,rfl,hi,hcap,hfull,hpl⟩
 | xH ho'=>rw [ho] at ho'; cases ho'
theorem fA.Fp {i n' cap:Nat} {full:Bool} {aa:Option Addr} (ho:O o=some p) (h:fA w I O D (.dQ o i n full) (.slice aa n' cap)):p.n≤i+cap:=by
 cases h with
 | pure h=>cases h
 | @dQ _ _ _ _ p' a cap ho' hi hcap hfull hpl hext=>
  have:p'=p:=Option.some.inj (ho'.symm.trans ho);subst this;exact hext
 | xH ho'=>rw [ho] at ho'; cases ho'
theorem fA.xJ (ho:O o=some p) (h:fA w I O D (.mref o) x):∃b bo sz,p.pl=some (b,bo,sz)∧x=.map (some b):=by
 cases h with
 | pure h=>cases h
 | @mref _ b bo sz p' ho' hp=>
  have:p'=p:=Option.some.inj (ho'.symm.trans ho);subst this;exact ⟨b,bo,sz,hp,rfl⟩
 | Aw ho'=>rw [ho] at ho'; cases ho'
theorem fA.aob {kd:TD} {z:List ZK} {f:dR→Option Int} (h:fA w I O D (.pm kd z f) x):∃b es clock,I b∧w.heap[b]? = some (.map es clock)∧U3 kd z f es∧x=.map (some b):=by
 cases h with
 | pure h=>cases h with
  | pm b es clock h1 h2 h3=>exact ⟨b,es,clock,h1,h2,h3,rfl⟩
theorem YL (h:fA w I O D v x) (hk:Yv v=true):x.oneCell'=true:=by
 cases h with
 | pure h=>cases h<;>first | rfl | cases hk
 | ptr=>rfl
 | dQ=>rfl
 | mref=>rfl
 | Aw _ _ h1=>exact h1
 | Ay _ _ h1=>exact h1
 | xH _ _ h1=>exact h1
 | agg=>cases hk
 | fn=>rfl
 | jQ=>cases hk
theorem Wz {l:List AV} (h:JE l=true):∀j,j<l.length→Yv (nth l j)=true:=by
 induction l with
 | nil=>intro j hj; cases hj
 | cons v l ih=>
  intro j hj;unfold JE at h;cases hv:Yv v with
  | false=>simp [hv] at h
  | true=>
   simp only [hv] at h;cases j with
   | zero=>exact hv
   | succ j=>exact ih h j (by simpa using hj)
theorem fA.cells (h:fA w I O D v x) (hk:JE v.cells=true):x.cells.size=v.cells.length∧∀j,j<v.cells.length→fA w I O D (nth v.cells j) (x.cells.getD j Go.undef)∧(x.cells.getD j Go.undef).oneCell'=true:=by
 have one:∀ {v:AV} {x:Value},fA w I O D v x→v.cells=[v]→Yv v=true→x.cells.size=v.cells.length∧∀j,j<v.cells.length→fA w I O D (nth v.cells j) (x.cells.getD j Go.undef)∧(x.cells.getD j Go.undef).oneCell'=true:=by
  intro v x h hc ho;have h1:=YL h ho;have hx:x.cells=#[x]:=by cases x<;>first | rfl | cases h1
  rw [hc,hx];refine ⟨rfl,λ j hj=>?_⟩;have:j=0:=by simpa using hj
  subst this;exact ⟨h,h1⟩
 cases v with
 | agg cs=>
  obtain ⟨vs,rfl,hl,hr⟩:=h.vD;exact ⟨hl,λ j hj=>⟨hr j hj,YL (hr j hj) (Wz hk j hj)⟩⟩
 | undef=>cases hk
 | jQ vs=>cases hk
 | _=>exact one h rfl rfl
end
end Go.Ab
namespace Go.Ab
section
variable {P:Program} {cfg:xE} {cx:Ctx} {H:Nat→Option eP} {D:Nat→Prop} {w:World} {I:Nat→Prop} {O:OM} {Sp:o9}
variable {v':AV} {wX:kN}
theorem fU.l7 {v:AV} {ups:kN} {r:List Nat} (h:fU Sp H (.ret v ups) v' wX r):v'=v∧wX=ups:=by cases h; exact ⟨rfl,rfl⟩
theorem fU.xK {p:Prop} [Decidable p] {k:Pg} {v':AV} {wX:kN} {r:List Nat} (h:fU Sp H (.need p k) v' wX r):p∧fU Sp H k v' wX r:=by cases h with | need hp h=>exact ⟨hp,h⟩
theorem fU.rF {o:Nat} {k:eP→Pg} {r:List Nat} (h:fU Sp H (.rd o k) v' wX r):∃x r',H o=some x∧fU Sp H (k x) v' wX r':=by cases h with | rd ho h=>exact ⟨_,_,ho,h⟩
theorem fU.bE {r:List Nat} (h:fU Sp H .fail v' wX r):False:=by cases h
theorem fU.iZ {p:Prop} [Decidable p] {v v':AV} {wX:kN} {r:List Nat} (h:fU Sp H (nT p v) v' wX r):p∧v'=v∧wX=[]:=by
 obtain ⟨hp,h⟩:=fU.xK h; exact ⟨hp,h.l7⟩
theorem fU.fK {v:AV} {r:List Nat} (h:fU Sp H (lI v) v' wX r):v'=v∧wX=[]:=h.l7
theorem fU.cK {b:Bool} {k:Pg} {r:List Nat} (h:fU Sp H (gF b k) v' wX r):b=true∧fU Sp H k v' wX r:=by
 cases b with
 | true=>exact ⟨rfl,h⟩
 | false=>exact (fU.bE h).elim
theorem fU.Dv {v:AV} {k:List AV→Pg} {r:List Nat} (h:fU Sp H (MB v k) v' wX r):JE v.cells=true∧fU Sp H (k v.cells) v' wX r:=by
 unfold MB at h;cases hb:JE v.cells with
 | true=>simp only [hb] at h; exact ⟨rfl,h⟩
 | false=>simp only [hb] at h; exact (fU.bE h).elim
variable {t:TypeId}
theorem fU.lK {k:RG→Pg} {r:List Nat} (h:fU Sp H (UU cfg t k) v' wX r):∃ti,look cfg.ty t=some ti∧fU Sp H (k ti) v' wX r:=by
 unfold UU at h;cases hb:look cfg.ty t with
 | some ti=>simp only [hb] at h; exact ⟨ti,rfl,h⟩
 | none=>simp only [hb] at h; exact (fU.bE h).elim
theorem fU.xL {k:RG→Pg} {r:List Nat} (h:fU Sp H (Kz cfg t k) v' wX r):∃tt e ti,look cfg.ty t=some tt∧tt.desc=.slice e∧look cfg.ty e=some ti∧fU Sp H (k ti) v' wX r:=by
 unfold Kz at h;cases hb:look cfg.ty t with
 | some tt=>
  simp only [hb] at h;cases hd:tt.desc with
  | slice e=>
   simp only [hd] at h;obtain ⟨ti,h1,h2⟩:=h.lK;exact ⟨tt,e,ti,rfl,hd,h1,h2⟩
  | _=>simp only [hd] at h; exact (fU.bE h).elim
 | none=>simp only [hb] at h; exact (fU.bE h).elim
theorem iE.slice (hc:iE P cfg) {e:TypeId} {tt ti:RG} (h:look cfg.ty t=some tt) (hd:tt.desc=.slice e) (h':look cfg.ty e=some ti):
  P.underlying t=some (.slice e)∧∃i z,P.info? e=some i∧i.zero=some z∧i.size=ti.size∧i.bytes=ti.bytes∧z.cells.size=ti.size:=by
 obtain ⟨i,d,z,_,hu,_,_,_,_,_,_,_,hm⟩:=(hc.ty t tt h).ex;rw [hd] at hm;obtain ⟨i',d',z',h1,_,h2,h3,h4,_,h5,_⟩:=(hc.ty e ti h').ex;exact ⟨by rw [hu,hm],i',z',h1,h2,h3,h4,h5⟩
theorem gB {i:TypeInfo} (h:P.info? t=some i) (w:World):(sizeOf t).run P w=.ok i.size w:=by
 simp [sizeOf,typeInfo,h]
theorem dG {d:TypeDesc} (h:P.underlying t=some d) (w:World):(underlying t).run P w=.ok d w:=by
 simp [underlying,h]
variable {eY:Nat} {o:Oper} {a:Act} {ρ:Operand→AV} {v:AV} {ups:kN} {r:List Nat}
variable {x:Operand}
theorem alS (hR:Rel cfg cx H D w I O) (ho:o.op=.move x) (hx:fA w I O D (ρ x) (a.eval x)):fP P cfg cx H D w I O eY o a (ρ x) []:=
 fP.fD hR (by simp [execOp,ho]) hx
theorem ahB (hR:Rel cfg cx H D w I O) (ho:o.op=.assign x) (hx:fA w I O D (ρ x) (a.eval x)):fP P cfg cx H D w I O eY o a (ρ x) []:=
 fP.fD hR (by simp [execOp,ho]) hx
theorem ahC (c:Value) (ho:ofConst c≠.undef):∀ {x:Value},x=c→fA w I O D (ofConst c) x:=by
 intro x hx;subst hx;refine .pure ?_;unfold ofConst;split
 ·exact .bool _
 ·exact .int _ _
 ·exact .str _
 ·exact .sl 0 0 (λ _ _=>Go.undef) (Nat.le_refl _) (λ _=>rfl) (λ h=>absurd rfl h) (λ i h=>by cases h) (λ i j h=>by cases h) (λ i j h=>by cases h) (λ i j h=>by cases h)
 ·exact .EX
 ·rename_i h1 h2 h3 h4 h5;exact .undef _
theorem afh (c:Value):fA w I O D (ofConst c) c:=by
 by_cases h:ofConst c=.undef
 ·rw [h]; exact .pure (.undef _)
 ·exact ahC c h rfl
theorem alT (hR:Rel cfg cx H D w I O) {c y:Operand} (ho:o.op=.pick c x y) (hc:fA w I O D (ρ c) (a.eval c))
  (hx:∀b,ρ c=.bool b→b=true→fA w I O D (ρ x) (a.eval x)) (hy:∀b,ρ c=.bool b→b=false→fA w I O D (ρ y) (a.eval y))
  (hcx:∀v,x=.const v→ρ x=ofConst v∧a.eval x=v) (hcy:∀v,y=.const v→ρ y=ofConst v∧a.eval y=v)
  (h:fU Sp H (afa (ρ c) x y (ρ x) (ρ y)) v ups r):fP P cfg cx H D w I O eY o a v ups:=by
 cases hcv:ρ c with
 | bool b=>
  rw [hcv] at hc h;have hb:=hc.lW;have hx':=hx b hcv;have hy':=hy b hcv;have run:(execOp a.eval o).run P w=.ok (.value (if b then a.eval x else a.eval y)) w:=by
   simp [execOp,ho,hb,asBool]
  unfold afa at h;simp only at h;split at h
  ·rename_i hz;obtain ⟨rfl,rfl⟩:=h.fK;obtain ⟨_,e2⟩:=hcy _ rfl;refine fP.fD hR run ?_;cases b with
   | true=>have:=(hx' rfl); rw [hz] at this; rw [this.lW]; exact .pure (.bool _)
   | false=>rw [e2]; exact .pure (.bool _)
  ·rename_i hz _;obtain ⟨rfl,rfl⟩:=h.fK;obtain ⟨_,e2⟩:=hcx _ rfl;refine fP.fD hR run ?_;cases b with
   | true=>simp only [if_true]; rw [e2]; exact .pure (.bool _)
   | false=>have:=(hy' rfl); rw [hz] at this; simp only [Bool.false_eq_true,if_false]; rw [this.lW]; exact .pure (.bool _)
  ·rename_i h1 h2;obtain ⟨rfl,rfl⟩:=h.fK;refine fP.fD hR run ?_;cases b with
   | true=>have:=(hx' rfl); rw [h1] at this; rw [this.lW]; exact .pure (.bool _)
   | false=>have:=(hy' rfl); rw [h2] at this; simp only [Bool.false_eq_true,if_false]; rw [this.lW]; exact .pure (.bool _)
  ·obtain ⟨rfl,rfl,rfl⟩:=h.iZ;refine fP.fD hR run ?_;simpa using hy' rfl
  ·obtain ⟨rfl,rfl,rfl⟩:=h.iZ;refine fP.fD hR run ?_;simpa using hx' rfl
  ·exact (fU.bE h).elim
 | _=>rw [hcv] at h; exact (fU.bE h).elim
theorem wrap_i64 {n:Int} (h:aD n):IntKind.i64.wrap n=n:=IntWalk.i64_in _ ⟨h.1,h.2⟩
theorem run_equal_bool (hu:P.underlying t=some .bool) (a b:Bool) (w:World):(Op.equal t (.bool a) (.bool b)).run P w=.ok (a==b) w:=by
 have:∀d,(Op.equalIn (d+1) t (.bool a) (.bool b)).run P w=.ok (a==b) w:=λ d=>by
  simp [Op.equalIn,dG hu]
 exact this 9999
theorem SQ {d:TypeDesc} (hu:P.underlying t=some d) (hd:d.isRow=false) (vs:Array Value) (i:Nat) (hi:i<vs.size) (w:World):(part t vs i).run P w=.ok (vs.getD i Go.undef) w:=by
 have hag:(isAgg t).run P w=.ok false w:=by
  unfold isAgg;rw [Sem.run_bind,dG hu w];cases d<;>simp at hd ⊢
 simp [part,Sem.run_bind,hag,Array.getElem?_eq_getElem hi]
theorem aaY:∀(a b:List AV) {j:Nat},j<a.length→nth (a++b) j=nth a j:=by
 intro a;induction a with
 | nil=>intro b j h; exact absurd h (Nat.not_lt_zero _)
 | cons x a ih=>intro b j h; cases j with
  | zero=>rfl
  | succ j=>exact ih b (by simpa using h)
theorem aaZ:∀(a b:List AV) (j:Nat),nth (a++b) (a.length+j)=nth b j:=by
 intro a;induction a with
 | nil=>intro b j; simp
 | cons x a ih=>intro b j; rw [List.length_cons,show a.length+1+j=(a.length+j)+1 by omega]; exact ih b j
theorem SS (xs:Array Value) (k m j:Nat) (hj:j<m) (h:k+m≤xs.size):(xs.extract k (k+m)).getD j Go.undef=xs.getD (k+j) Go.undef:=by
 rw [Array.getD_eq_getD_getElem?, Array.getD_eq_getD_getElem?, Array.getElem?_extract_of_lt (by rw [Nat.min_eq_left h]; omega),Array.getElem?_eq_getElem om]
theorem alU:∀(zs:List ZK) (cs cs':List AV) (r:Bool),UR zs cs cs'=some r→cs.length=zs.length∧cs'.length=zs.length:=by
 intro zs;induction zs with
 | nil=>intro cs cs' r h; cases cs<;>cases cs'<;>simp [UR] at h ⊢
 | cons z zs ih=>
  intro cs cs' r h;cases cs with
  | nil=>cases z<;>simp [UR] at h
  | cons c cs=>cases cs' with
   | nil=>cases z<;>cases c<;>simp [UR] at h
   | cons c' cs'=>
    have:∃r',UR zs cs cs'=some r':=by
     cases z<;>cases c<;>cases c'<;>simp only [UR] at h<;>first | (cases h; done) | skip
     all_goals
      split at h
      ·first | exact ⟨_,by assumption⟩
      ·cases h
    obtain ⟨r',h'⟩:=this
    have:=ih _ _ _ h'
    simp [this]
theorem alV:∀(z1 z2:List ZK) (cs cs':List AV) (r:Bool),UR (z1++z2) cs cs'=some r→∃c1 c2 c1' c2' r1 r2,cs=c1++c2∧cs'=c1'++c2'∧UR z1 c1 c1'=some r1∧UR z2 c2 c2'=some r2∧r=(r1&&r2):=by
 intro z1;induction z1 with
 | nil=>intro z2 cs cs' r h; exact ⟨[],cs,[],cs',true,r,rfl,rfl,rfl,h,by simp⟩
 | cons z z1 ih=>
  intro z2 cs cs' r h;cases cs with
  | nil=>cases z<;>simp [UR] at h
  | cons c cs=>cases cs' with
   | nil=>cases z<;>cases c<;>simp [UR] at h
   | cons c' cs'=>
    cases z<;>cases c<;>cases c'<;>simp only [List.cons_append,UR] at h<;>first | (cases h; done) | skip
    ·split at h
     ·rename_i r' h'
      cases h
      obtain ⟨c1,c2,c1',c2',r1,r2,e1,e2,e3,e4,e5⟩:=ih _ _ _ _ h'
      subst e1 e2 e5
      exact ⟨_::c1,c2,_::c1',c2',_,r2,rfl,rfl,by simp only [UR,e3]; rfl,e4,by rw [Bool.and_assoc]⟩
     ·cases h
    ·split at h
     ·rename_i r' k1 k2 h'
      cases h
      obtain ⟨c1,c2,c1',c2',r1,r2,e1,e2,e3,e4,e5⟩:=ih _ _ _ _ h'
      subst e1 e2 e5
      exact ⟨_::c1,c2,_::c1',c2',_,r2,rfl,rfl,by simp only [UR,e3,k1,k2]; rfl,e4,by rw [Bool.and_assoc]⟩
     ·cases h
    ·split at h
     ·rename_i r' h'
      cases h
      obtain ⟨c1,c2,c1',c2',r1,r2,e1,e2,e3,e4,e5⟩:=ih _ _ _ _ h'
      subst e1 e2 e5
      exact ⟨_::c1,c2,_::c1',c2',_,r2,rfl,rfl,by simp only [UR,e3]; rfl,e4,by rw [Bool.and_assoc]⟩
     ·cases h
theorem afi {dd:TypeDesc} {z:ZK} {c c':AV} {b:Bool} {u v:Value} (w:World) (d:Nat) (hu:P.underlying t=some dd) (hk:abO z dd) (h:UR [z] [c] [c']=some b) (hx:fA w I O D c u) (hy:fA w I O D c' v):(Op.equalIn (d+1) t u v).run P w=.ok b w:=by
 cases z with
 | int kk=>
  cases c<;>cases c'<;>simp only [UR] at h<;>first | (cases h; done) | skip
  rename_i k1 a k2 b;split at h
  ·rename_i r' e1 e2 e3;cases e3;cases h;have e1:kk=k1:=by simpa [DR] using e1
   have e2:kk=k2:=by simpa [DR] using e2
   subst e1; subst e2;rw [hx.iR,hy.iR,Bool.and_true];rw [hk] at hu;exact run_equalIn_int w d _ _ _ _ _ hu
  ·cases h
 | bool=>
  cases c<;>cases c'<;>simp only [UR] at h<;>first | (cases h; done) | skip
  cases h;rw [hx.lW,hy.lW,Bool.and_true];rw [hk] at hu;exact run_equalIn_bool' w d _ _ _ hu
 | str=>
  cases c<;>cases c'<;>simp only [UR] at h<;>first | (cases h; done) | skip
  cases h;rw [hx.CO,hy.CO,Bool.and_true];rw [hk] at hu;exact run_equalIn_string w d _ _ _ hu
 | slice=>exact hk.elim
 | ptr=>exact hk.elim
 | other=>exact hk.elim
theorem KE {fs:Array Field} (hu:P.underlying t=some (.struct fs)) (vs:Array Value) (i:Nat) (w:World):(part t vs i).run P w=.ok (.agg (vs.extract i (i+P.cellsOf t))) w:=by
 obtain ⟨ti,hi⟩:=info_of_underlying hu;simp [part,isAgg,run_underlying hu,run_sizeOf w hi]
theorem ajc (n:Nat) (xs ys:Array Value) (w:World) (d:Nat)
  (IH:∀(t:TypeId) (zs:List ZK) (cs cs':List AV) (us vs:Array Value) (r:Bool),EqT P n t zs→UR zs cs cs'=some r→us.size=cs.length→vs.size=cs'.length→(∀j,j<cs.length→fA w I O D (nth cs j) (us.getD j Go.undef))→(∀j,j<cs'.length→fA w I O D (nth cs' j) (vs.getD j Go.undef))→(Op.equalIn (d+1) t (.agg us) (.agg vs)).run P w=.ok r w):
  ∀(fs:List Field) (zs:List ZK) (cs cs':List AV) (k:Nat) (r:Bool),UR zs cs cs'=some r→alQ P (EqT P n) fs zs k→
  k+cs.length≤xs.size→k+cs'.length≤ys.size→(∀j,j<cs.length→fA w I O D (nth cs j) (xs.getD (k+j) Go.undef))→(∀j,j<cs'.length→fA w I O D (nth cs' j) (ys.getD (k+j) Go.undef))→
  (Op.eqFields (d+1) xs ys fs).run P w=.ok r w:=by
 intro fs;induction fs with
 | nil=>
  intro zs cs cs' k r h hz _ _ _ _;cases zs with
  | cons=>exact hz.elim
  | nil=>cases cs<;>cases cs'<;>simp [UR] at h ⊢ <;> (subst h; simp [Op.eqFields])
 | cons f fs ih=>
  intro zs cs cs' k r h hz hx hy hrx hry;obtain ⟨hnm,hof,z1,z2,rfl,hz1,hz2⟩:=hz;obtain ⟨c1,c2,c1',c2',r1,r2,rfl,rfl,e3,e4,rfl⟩:=alV _ _ _ _ _ h;obtain ⟨l1,l2⟩:=alU _ _ _ _ e3;simp only [List.length_append] at hx hy hrx hry;have nx1:∀j,j<c1.length→nth (c1++c2) j=nth c1 j:=λ j hj=>aaY _ _ hj;have nx2:∀j,nth (c1++c2) (c1.length+j)=nth c2 j:=λ j=>aaZ _ _ j;have ny1:∀j,j<c1'.length→nth (c1'++c2') j=nth c1' j:=λ j hj=>aaY _ _ hj;have ny2:∀j,nth (c1'++c2') (c1'.length+j)=nth c2' j:=λ j=>aaZ _ _ j;have ih':=ih z2 c2 c2' (k+z1.length) r2 e4 hz2 om om (λ j hj=>by
   have:=hrx (c1.length+j) om;rw [nx2,show k+(c1.length+j)=k+z1.length+j by omega] at this;exact this) (λ j hj=>by
   have:=hry (c1'.length+j) om;rw [ny2,show k+(c1'.length+j)=k+z1.length+j by omega] at this;exact this)
  have step:∀(u v:Value),(part f.type xs k).run P w=.ok u w→(part f.type ys k).run P w=.ok v w→(Op.equalIn (d+1) f.type u v).run P w=.ok r1 w→(Op.eqFields (d+1) xs ys (f::fs)).run P w=.ok (r1&&r2) w:=by
   intro u v px py hb;rw [Op.eqFields,if_pos hnm];simp only [hof,Sem.run_bind,px,py,Result.andThen_ok,hb];cases r1
   ·simp
   ·simpa using ih'
  rcases hz1 with ⟨z,dd,rfl,hu,hk⟩ | ⟨ho,hs⟩
  ·have hd:dd.isRow=false:=by cases z<;>simp only [abO] at hk<;>first | (subst hk; rfl) | exact hk.elim
   cases c1 with
   | nil=>simp at l1
   | cons c c1=>cases c1 with
    | cons=>simp at l1
    | nil=>cases c1' with
     | nil=>simp at l2
     | cons c' c1'=>cases c1' with
      | cons=>simp at l2
      | nil=>
       simp only [List.length_singleton] at hx hy hrx hry
       have hx0:=hrx 0 om
       have hy0:=hry 0 om
       exact step _ _ (SQ hu hd xs k om w) (SQ hu hd ys k om w) (afi w d hu hk e3 hx0 hy0)
  ·cases n with
   | zero=>exact ho.elim
   | succ n=>
    obtain ⟨fields,hu,_,_⟩:=id ho;refine step _ _ (KE hu xs k w) (KE hu ys k w) ?_;rw [hs];refine IH _ z1 c1 c1' _ _ r1 ho e3 (by rw [Array.size_extract]; omega) (by rw [Array.size_extract]; omega) (λ j hj=>?_) (λ j hj=>?_)
    ·have:=hrx j om;rw [nx1 j hj] at this;rw [SS _ _ _ _ om om];exact this
    ·have:=hry j om;rw [ny1 j hj] at this;rw [SS _ _ _ _ om om];exact this
theorem alW (w:World):∀(n d:Nat) (t:TypeId) (zs:List ZK) (cs cs':List AV) (us vs:Array Value) (r:Bool),EqT P n t zs→UR zs cs cs'=some r→us.size=cs.length→vs.size=cs'.length→(∀j,j<cs.length→fA w I O D (nth cs j) (us.getD j Go.undef))→(∀j,j<cs'.length→fA w I O D (nth cs' j) (vs.getD j Go.undef))→(Op.equalIn (d+n+1) t (.agg us) (.agg vs)).run P w=.ok r w:=by
 intro n;induction n with
 | zero=>intro d t zs cs cs' us vs r h; exact h.elim
 | succ n IH=>
  intro d t zs cs cs' us vs r ⟨fields,hu,hh,hf⟩ h hl hl' hx hy;have hfo:P.fieldsOf t=fields:=by unfold Program.fieldsOf; rw [hu]
  rw [show d+(n+1)+1=(d+n+1)+1 by omega,run_equalIn_struct (P:=P) w (d+n+1) t us vs (by rw [hfo]; exact hu) hh,hfo];exact ajc (I:=I) (O:=O) (D:=D) n us vs w (d+n) (λ t zs cs cs' us vs r a b c e f g=>IH d t zs cs cs' us vs r a b c e f g) fields.toList zs cs cs' 0 r h hf om om (λ j hj=>by simpa using hx j hj) (λ j hj=>by simpa using hy j hj)
theorem QK (hc:iE P cfg) {zs:List ZK} (ht:look cfg.eqs t=some zs) {cs cs':List AV} {xs ys:Array Value} {r:Bool} (h:UR zs cs cs'=some r) (hl:xs.size=cs.length) (hl':ys.size=cs'.length)
  (hx:∀j,j<cs.length→fA w I O D (nth cs j) (xs.getD j Go.undef)) (hy:∀j,j<cs'.length→fA w I O D (nth cs' j) (ys.getD j Go.undef)):(Op.equalIn 10000 t (.agg xs) (.agg ys)).run P w=.ok r w:=
 alW w 4 9995 t zs cs cs' xs ys r (hc.eqs t zs ht).ex h hl hl' hx hy
theorem ajd (hc:iE P cfg) (hR:Rel cfg cx H D w I O) {op:BinOp} {t':TypeId} {y:Operand} (ho:o.op=.binOp op t x y t') (hx:fA w I O D (ρ x) (a.eval x)) (hy:fA w I O D (ρ y) (a.eval y))
  (h:fU Sp H (aiR cfg op t (ρ x) (ρ y)) v ups r):fP P cfg cx H D w I O eY o a v ups:=by
 unfold aiR at h;split at h
 ·rename_i k n k' n' e1 e2;rw [e1] at hx; rw [e2] at hy;have hx':=hx.iR;have hy':=hy.iR;obtain ⟨hk1,h1⟩:=h.cK;clear h;have hk:k=k':=by simpa [DR] using hk1
  subst hk;have hg:∀(u:World),(eqGuard op t x y (.int k n) (.int k n')).run P u=.ok () u:=by
   intro u; unfold eqGuard; cases op<;>simp
  cases ha:X8 op with
  | true=>
   simp only [ha] at h1;cases hk2:DR k .i64 with
   | true=>
    simp only [hk2] at h1;have h2:=h1;clear h1;have hk:k=.i64:=by simpa [DR] using hk2
    subst hk;cases op<;>simp [X8] at ha<;>simp only [arith] at h2<;>obtain ⟨hp,rfl,rfl⟩:=h2.iZ<;>
     refine fP.fD (x:=.int .i64 _) hR ?_ (.pure (.int _ _))<;>simp [execOp,ho,hx',hy',hg,binOp,Op.intArith,Op.intDiv,wrap_i64,hp]
   | false=>
    simp only [hk2] at h1;exact (fU.bE h1).elim
  | false=>
   simp only [ha] at h1;cases op<;>simp [X8] at ha<;>simp only [apS] at h1<;>first
    | exact (fU.bE h1).elim
    | (obtain ⟨rfl,rfl⟩:=h1.fK
       refine fP.fD (x:=.bool _) hR ?_ (.pure (.bool _))
       simp [execOp,ho,hx',hy',hg,binOp,Op.intCmp])
 ·rename_i b b' e1 e2;rw [e1] at hx; rw [e2] at hy;have hx':=hx.lW;have hy':=hy.lW;obtain ⟨ti,ht,h1⟩:=h.lK;clear h;have hg:∀(u:World),(eqGuard op t x y (.bool b) (.bool b')).run P u=.ok () u:=by
   intro u; unfold eqGuard; cases op<;>simp
  have hd:ti.desc=.bool→P.underlying t=some .bool:=by
   intro hd;obtain ⟨i,d,z,_,hu,_,_,_,_,_,_,_,hm⟩:=(hc.ty t ti ht).ex;rw [hd] at hm;rw [hu,hm]
  split at h1
  ·rename_i hdd;obtain ⟨rfl,rfl⟩:=h1.fK;refine fP.fD (x:=.bool _) hR ?_ (.pure (.bool _));have e:=run_equal_bool (P:=P) (hd hdd) b b' w;simp [execOp,ho,hx',hy',hg,binOp,e]
  ·rename_i hdd;obtain ⟨rfl,rfl⟩:=h1.fK;refine fP.fD (x:=.bool _) hR ?_ (.pure (.bool _));have e:=run_equal_bool (P:=P) (hd hdd) b b' w;simp [execOp,ho,hx',hy',hg,binOp,e]
  ·exact (fU.bE h1).elim
 ·rename_i s s' e1 e2;rw [e1] at hx; rw [e2] at hy;have hx':=hx.CO;have hy':=hy.CO;have hg:∀(u:World),(eqGuard op t x y (.string s) (.string s')).run P u=.ok () u:=by
   intro u; unfold eqGuard; cases op<;>simp
  unfold anp at h;cases op<;>simp only at h<;>first
   | exact (fU.bE h).elim
   | (obtain ⟨rfl,rfl⟩:=h.fK
      refine fP.fD (x:=.bool _) hR ?_ (.pure (.bool _))
      simp [execOp,ho,hx',hy',hg,binOp,Op.stringOp]
      done)
   | (obtain ⟨hp,rfl,rfl⟩:=h.iZ
      refine fP.fD (x:=.string _) hR ?_ (.pure (.str _))
      have hle:¬ (((s.size+s'.size:Nat):Int) > IntKind.i64.max):=by
       have:IntKind.i64.max=9223372036854775807:=by decide
       rw [this]
       omega
      simp only [execOp,ho,hx',hy',binOp,Op.stringOp,Sem.run_bind,hg,Result.andThen_ok]
      rw [if_neg hle]
      rfl)
 ·rename_i cs cs' e1 e2;rw [e1] at hx; rw [e2] at hy;obtain ⟨xs,hx',hl,hrx⟩:=hx.vD;obtain ⟨ys,hy',hl',hry⟩:=hy.vD;split at h
  ·rename_i zs hz;have hg:∀(u:World),(eqGuard op t x y (.agg xs) (.agg ys)).run P u=.ok () u:=λ u=>run_eqGuard_agg u op t x y xs ys (hc.eqs t zs hz).guard;split at h
   ·rename_i r' he;obtain ⟨rfl,rfl⟩:=h.fK;have e:=QK hc hz he hl hl' hrx hry;refine fP.fD (x:=.bool _) hR ?_ (.pure (.bool _));simp only [execOp,ho,hx',hy',Sem.run_bind,hg,Result.andThen_ok,run_eql_struct,e];rfl
   ·rename_i r' he;obtain ⟨rfl,rfl⟩:=h.fK;have e:=QK hc hz he hl hl' hrx hry;refine fP.fD (x:=.bool _) hR ?_ (.pure (.bool _));simp only [execOp,ho,hx',hy',Sem.run_bind,hg,Result.andThen_ok,run_neq_struct,e];rfl
   ·exact (fU.bE h).elim
  ·exact (fU.bE h).elim
 ·exact (fU.bE h).elim
theorem alX (hR:Rel cfg cx H D w I O) {op:UnOp} (ho:o.op=.unOp op t x) (hx:fA w I O D (ρ x) (a.eval x))
  (h:fU Sp H (gY cfg eY (.unOp op t x) ρ) v ups r):fP P cfg cx H D w I O eY o a v ups:=by
 simp only [gY] at h;split at h
 ·rename_i b e;rw [e] at hx;obtain ⟨rfl,rfl⟩:=h.fK;refine fP.fD (x:=.bool _) hR ?_ (.pure (.bool _));simp [execOp,ho,hx.lW,Op.unary]
 ·exact (fU.bE h).elim
theorem ads (hR:Rel cfg cx H D w I O) (ho:o.op=.nilCheck x) (hx:fA w I O D (ρ x) (a.eval x))
  (h:fU Sp H (gY cfg eY (.nilCheck x) ρ) v ups r):fP P cfg cx H D w I O eY o a v ups:=by
 simp only [gY] at h;split at h
 ·rename_i ob i off e;rw [e] at hx;obtain ⟨obj,_,rQ,h1⟩:=h.rF;obtain ⟨rfl,rfl⟩:=h1.fK;cases hp:O ob with
  | none=>rw [(hR.dom ob).1 hp] at rQ; cases rQ
  | some p=>
   obtain ⟨b,bo,sz,h1,h2,h3⟩:=hx.pU hp;exact fP.fD hR (by simp [execOp,ho,h3]) (h3 ▸ hx)
 ·rename_i cs e;rw [e] at hx;obtain ⟨rfl,rfl⟩:=h.fK;generalize hxe:a.eval x=xv at hx;have hx0:=hx;cases hx.YK;exact fP.fD hR (by simp [execOp,ho,hxe]) hx0
 ·rename_i f cs e;rw [e] at hx;obtain ⟨rfl,rfl⟩:=h.fK;obtain ⟨vs,h1,h2,h3⟩:=hx.MI;exact fP.fD hR (by simp [execOp,ho,h1]) (h1 ▸ hx)
 ·exact (fU.bE h).elim
theorem afj (hR:Rel cfg cx H D w I O) {t:Operand} {i:Nat} (ho:o.op=.extract t i) (hx:fA w I O D (ρ t) (a.eval t))
  (h:fU Sp H (gY cfg eY (.extract t i) ρ) v ups r):fP P cfg cx H D w I O eY o a v ups:=by
 simp only [gY] at h;split at h
 ·rename_i vs e;rw [e] at hx;obtain ⟨hl,h1⟩:=h.cK;obtain ⟨rfl,rfl⟩:=h1.fK;obtain ⟨xs,h1,h2,h3⟩:=hx.JK;have hl:i<vs.length:=by simpa using hl
  have hi:i<xs.size:=by omega
  refine fP.fD (x:=xs.getD i Go.undef) hR ?_ (h3 i hl);simp [execOp,ho,h1,Instr.extract,Array.getElem?_eq_getElem hi]
 ·exact (fU.bE h).elim
theorem agG {l:List Operand} (h:∀x∈l,fA w I O D (ρ x) (a.eval x)):∀j,j<(l.map ρ).length→fA w I O D (nth (l.map ρ) j) ((l.map a.eval).toArray.getD j Go.undef):=by
 intro j hj;have hj':j<l.length:=by simpa using hj
 rw [vR];simp [hj'];exact h _ (List.getElem_mem hj')
theorem adt (hR:Rel cfg cx H D w I O) {fn:Fn} {first cap:Array Operand} (ho:o.op=.makeFunc fn first cap) (hx:∀x∈cap.toList,fA w I O D (ρ x) (a.eval x))
  (h:fU Sp H (gY cfg eY (.makeFunc fn first cap) ρ) v ups r):fP P cfg cx H D w I O eY o a v ups:=by
 simp only [gY] at h;split at h
 ·rename_i f e;obtain ⟨rfl,rfl⟩:=h.fK;have hf:first=#[]:=by simpa using e
  subst hf;refine fP.fD (x:=.func (.func f) #[] (cap.map a.eval)) hR (by simp [execOp,ho,Instr.makeFunc]) (.fn (by simp) λ j hj=>?_);have:=agG hx j hj;simpa using this
 ·exact (fU.bE h).elim
variable {c:Call}
theorem aoc (hc:iE P cfg) (hR:Rel cfg cx H D w I O) (ho:o.op=.call c) (hcl:c.callee=.builtin .len) (hx:∀x∈c.args.toList,fA w I O D (ρ x) (a.eval x))
  (h:fU Sp H (gY cfg eY (.call c) ρ) v ups r):fP P cfg cx H D w I O eY o a v ups:=by
 simp only [gY,hcl] at h;split at h
 ·rename_i u t e1 e2;obtain ⟨ti,ht,h1⟩:=h.lK;obtain ⟨x,hxe⟩:∃x,c.args=#[x]:=by
   match hl:c.args.toList with
   | []=>simp [hl] at e1
   | [x]=>exact ⟨x,by rw [← Array.toList_inj]; simpa using hl⟩
   | x::y::l=>simp [hl] at e1
  have e1':ρ x=u:=by simpa [hxe] using e1
  have hx':fA w I O D u (a.eval x):=e1' ▸ hx x (by simp [hxe]);have hte:c.argTypes=#[t]:=by rw [← Array.toList_inj]; simpa using e2
  obtain ⟨_,dd,_,_,hud,_,_,_,_,_,_,_,hm⟩:=(hc.ty t ti ht).ex;split at h1
  ·rename_i e;rw [e] at hm;have hm:dd=.slice _:=hm;subst hm;obtain ⟨rfl,rfl⟩:=h1.fK;generalize hxv:a.eval x=xv at hx';cases hx'.GH;refine fP.fD (x:=.int .i64 _) hR ?_ (.pure (.int _ _));simp [execOp,ho,hcl,resolve,invoke,builtin,Builtin.len_,hxe,hte,hxv,dG hud,goInt]
  ·rename_i ob i n f _ e;rw [e] at hm;have hm:dd=.slice _:=hm;subst hm;obtain ⟨obj,_,rQ,h2⟩:=h1.rF;obtain ⟨rfl,rfl⟩:=h2.fK;cases hp:O ob with
   | none=>rw [(hR.dom ob).1 hp] at rQ; cases rQ
   | some p=>
    obtain ⟨aa,cap,hxv,_⟩:=hx'.pV hp;refine fP.fD (x:=.int .i64 _) hR ?_ (.pure (.int _ _));simp [execOp,ho,hcl,resolve,invoke,builtin,Builtin.len_,hxe,hte,hxv,dG hud,goInt]
  ·rename_i s e;rw [e] at hm;have hm:dd=.string:=hm;subst hm;obtain ⟨rfl,rfl⟩:=h1.fK;refine fP.fD (x:=.int .i64 _) hR ?_ (.pure (.int _ _));simp [execOp,ho,hcl,resolve,invoke,builtin,Builtin.len_,hxe,hte,hx'.CO,dG hud,goInt]
  ·exact (fU.bE h1).elim
 ·exact (fU.bE h).elim
theorem args2 {u u':AV} (e:c.args.toList.map ρ=[u,u']):∃x y,c.args=#[x,y]∧ρ x=u∧ρ y=u':=by
 match hl:c.args.toList with
 | []=>simp [hl] at e
 | [x]=>simp [hl] at e
 | [x,y]=>
  rw [hl] at e
  simp at e
  exact ⟨x,y,by rw [← Array.toList_inj]; simpa using hl,e.1,e.2⟩
 | x::y::z::l=>simp [hl] at e
theorem aod (hR:Rel cfg cx H D w I O) (ho:o.op=.call c) (hcl:c.callee=.builtin .min) (hx:∀x∈c.args.toList,fA w I O D (ρ x) (a.eval x))
  (h:fU Sp H (gY cfg eY (.call c) ρ) v ups r):fP P cfg cx H D w I O eY o a v ups:=by
 simp only [gY,hcl] at h;split at h
 ·rename_i k n k' n' e;obtain ⟨rfl,rfl⟩:=h.fK;obtain ⟨x,y,hxy,e1,e2⟩:=args2 e;have h1:=e1 ▸ hx x (by simp [hxy]);have h2:=e2 ▸ hx y (by simp [hxy]);refine fP.fD (x:=.int k _) hR ?_ (.pure (.int _ _));simp [execOp,ho,hcl,resolve,invoke,builtin,Builtin.min_,Builtin.min2,hxy,h1.iR,h2.iR]
 ·exact (fU.bE h).elim
theorem aoe (hR:Rel cfg cx H D w I O) (ho:o.op=.call c) (hcl:c.callee=.builtin .max) (hx:∀x∈c.args.toList,fA w I O D (ρ x) (a.eval x))
  (h:fU Sp H (gY cfg eY (.call c) ρ) v ups r):fP P cfg cx H D w I O eY o a v ups:=by
 simp only [gY,hcl] at h;split at h
 ·rename_i k n k' n' e;obtain ⟨rfl,rfl⟩:=h.fK;obtain ⟨x,y,hxy,e1,e2⟩:=args2 e;have h1:=e1 ▸ hx x (by simp [hxy]);have h2:=e2 ▸ hx y (by simp [hxy]);refine fP.fD (x:=.int k _) hR ?_ (.pure (.int _ _));simp [execOp,ho,hcl,resolve,invoke,builtin,Builtin.max_,Builtin.max2,hxy,h1.iR,h2.iR]
 ·exact (fU.bE h).elim
theorem iE.field (hc:iE P cfg) {s:TypeId} {ts:RG} {f oo t:Nat} (h:look cfg.ty s=some ts) (hf:Pe ts f=some (oo,t)):
  ∃fields fd,P.underlying s=some (.struct fields)∧fields[f]? = some fd∧fd.offset=oo∧fd.type=t:=by
 obtain ⟨_,dd,_,_,hud,_,_,_,_,_,_,_,hm⟩:=(hc.ty s ts h).ex;unfold Pe at hf;split at hf
 ·rename_i fs e;rw [e] at hm;obtain ⟨fields,rfl,hfs⟩:=hm;subst hfs;have key:∀(l:List Field) (f:Nat),Xl (l.map λ f=>(f.offset,f.type)) f=some (oo,t)→∃fd,l[f]? = some fd∧fd.offset=oo∧fd.type=t:=by
   intro l;induction l with
   | nil=>intro f h; simp [Xl] at h
   | cons x l ih=>
    intro f h;cases f with
    | zero=>simp [Xl] at h; exact ⟨x,rfl,h.1,h.2⟩
    | succ f=>simp only [List.map_cons,Xl] at h; simpa using ih f h
  obtain ⟨fd,h1,h2,h3⟩:=key _ _ hf;exact ⟨fields,fd,hud,by simpa using h1,h2,h3⟩
 ·cases hf
theorem MJ (l:List AV) (k j:Nat):nth (l.drop k) j=nth l (k+j):=by
 simp [vR]
theorem abP (hc:iE P cfg) (hR:Rel cfg cx H D w I O) {s:TypeId} {f:Nat} (ho:o.op=.fieldAddr s x f) (hx:fA w I O D (ρ x) (a.eval x))
  (h:fU Sp H (gY cfg eY (.fieldAddr s x f) ρ) v ups r):fP P cfg cx H D w I O eY o a v ups:=by
 simp only [gY] at h;obtain ⟨ts,hs,h1⟩:=h.lK;split at h1
 ·rename_i oo t hf;obtain ⟨ti,ht,h2⟩:=h1.lK;obtain ⟨hpos,h3⟩:=h2.cK;have hpos:0<ti.size:=by simpa using hpos
  obtain ⟨fields,fd,hu,hfd,ho1,ho2⟩:=hc.field hs hf;obtain ⟨i,_,_,hi,_,_,hsz,_⟩:=(hc.ty t ti ht).ex;have hne:¬ i.size=0:=by omega
  have place:∀b bo,(Instr.fieldAt s (.pointer (some ⟨b,bo,none⟩)) f).run P w=.ok (.pointer (some ⟨b,bo+oo,none⟩)) w:=by
   intro b bo;simp [Instr.fieldAt,Instr.sureAddr,dG hu,hfd,fieldPlace,ho1,ho2,gB hi,hne,Addr.add_mid]
  split at h3
  ·rename_i ob i off e;rw [e] at hx;obtain ⟨obj,_,rQ,h4⟩:=h3.rF;obtain ⟨rfl,rfl⟩:=h4.fK;cases hp:O ob with
   | none=>rw [(hR.dom ob).1 hp] at rQ; cases rQ
   | some p=>
    obtain ⟨b,bo,sz,h5,h6,h7⟩:=hx.pU hp;refine fP.fD (x:=.pointer (some ⟨b,bo+(i*p.es+(off+oo)),none⟩)) hR ?_ (.ptr hp h5 h6);have:bo+(i*p.es+off)+oo=bo+(i*p.es+(off+oo)):=by omega
    simp [execOp,ho,h7,place,this]
  ·rename_i cs e;rw [e] at hx;obtain ⟨rfl,rfl⟩:=h3.fK;generalize hxv:a.eval x=xv at hx;cases hx.YK with
   | ro b off vs hI hm hr=>
    refine fP.fD (x:=.pointer (some ⟨b,off+oo,none⟩)) hR (by simp [execOp,ho,hxv,place]) (.pure (.ro b (off+oo) (λ j=>vs (oo+j)) hI (λ j hj=>?_) λ j hj=>?_))
    ·have:=hm (oo+j) (by simp at hj; omega);rw [← this,Nat.add_assoc]
    ·rw [MJ]; exact hr (oo+j) (by simp at hj; omega)
  ·exact (fU.bE h3).elim
 ·exact (fU.bE h1).elim
end
end Go.Ab
namespace Go.Ab
section
variable {P:Program} {cfg:xE} {cx:Ctx} {H:Nat→Option eP} {D:Nat→Prop} {w:World} {I:Nat→Prop} {O:OM} {Sp:o9}
variable {eY:Nat} {o:Oper} {a:Act} {ρ:Operand→AV} {v:AV} {ups:kN} {r:List Nat}
variable {t:TypeId}
theorem iE.agg (hc:iE P cfg) {ti:RG} (h:look cfg.ty t=some ti):∃i d,P.info? t=some i∧P.underlying t=some d∧d.isRow=ti.agg∧i.size=ti.size:=by
 obtain ⟨i,d,z,h1,h2,h3,h4,h5,h6,_⟩:=(hc.ty t ti h).ex;exact ⟨i,d,h1,h2,h6,h4⟩
theorem U6 {d:TypeDesc} (h:P.underlying t=some d) (w:World):(isAgg t).run P w=.ok d.isRow w:=by
 unfold isAgg;rw [Sem.run_bind,dG h w];cases d<;>simp
theorem sG (hc:iE P cfg) {ti:RG} (ht:look cfg.ty t=some ti) {cs:List AV} (h:fU Sp H (BA ti cs) v ups r) (b bo:Nat) (f:Nat→Value)
  (hm:∀j,j<cs.length→w.cell? ⟨b,bo+j,none⟩=some (f j)) (hr:∀j,j<cs.length→fA w I O D (nth cs j) (f j)):
  ups=[]∧∃x,(Instr.loadAt t (.pointer (some ⟨b,bo,none⟩))).run P w=.ok x w∧fA w I O D v x:=by
 obtain ⟨i,d,hi,hu,hd,hs⟩:=hc.agg ht;unfold BA at h;cases ha:ti.agg with
 | true=>
  simp only [ha] at h;obtain ⟨hl,h1⟩:=h.cK;obtain ⟨rfl,rfl⟩:=h1.fK;have hl:ti.size≤cs.length:=by simpa using hl
  refine ⟨rfl,.agg ((List.range ti.size).map f).toArray,?_,.agg (by simp [Nat.min_eq_left hl]) λ j hj=>?_⟩
  ·refine run_loadAt_mid w b bo t _ d (λ j u hj=>?_) hu (by rw [hd,ha]) (by simp [hi,hs]);have hlt:j<ti.size:=by
    rcases Nat.lt_or_ge j ti.size with h | h
    ·exact h
    ·simp [h] at hj
   simp [hlt] at hj;rw [← hj];exact hm j om
  ·have hj':j<ti.size:=by simp at hj; omega
   have e:nth (List.take ti.size cs) j=nth cs j:=by simp [vR,hj']
   rw [e];simpa [hj'] using hr j om
 | false=>
  simp only [ha] at h;cases cs with
  | nil=>exact (fU.bE h).elim
  | cons c cs=>
   obtain ⟨rfl,rfl⟩:=h.fK;refine ⟨rfl,f 0,?_,hr 0 (by simp)⟩;have h0:=hm 0 (by simp);have hag:(isAgg t).run P w=.ok false w:=by rw [U6 hu,hd,ha]
   simp only [Nat.add_zero] at h0;simp [Instr.loadAt,Instr.sureAddr,loadVar,Sem.run_bind,hag,load,Sem.run,h0]
theorem Rel.live (hR:Rel cfg cx H D w I O) {ob:Nat} {x:eP} (h:H ob=some x):∃p,O ob=some p∧iQ w I O D p x:=by
 cases hp:O ob with
 | none=>rw [(hR.dom ob).1 hp] at h; cases h
 | some p=>exact ⟨p,rfl,hR.objs ob x p h hp⟩
theorem wG {b sz j:Nat} (h:KD w b sz) (hj:j<sz):w.cell? ⟨b,j,none⟩=some (cellAt w b j):=by
 obtain ⟨u,hu⟩:=Option.isSome_iff_exists.1 (h j hj).1;simp [cellAt,hu]
theorem Yg {i j:Nat} (h:(isZ i&&isZ j)=true):i=0∧j=0:=by
 cases i<;>cases j<;>simp_all [isZ]
theorem agH (l m:List AV) (j:Nat):nth (l++m) j=if j<l.length then nth l j else nth m (j - l.length):=by
 rw [vR,vR,vR];by_cases h:j<l.length
 ·rw [if_pos h]; simp [List.getElem?_append_left h]
 ·rw [if_neg h]; simp [List.getElem?_append_right (by omega:l.length≤j)]
variable {es:Nat}
theorem aag {g:Nat→AV}:∀(k i:Nat),(∀j,i≤j→j<i+k→(g j).cells.length=es)→(kZ k i g).length=k*es∧∀a b,a<k→b<es→nth (kZ k i g) (a*es+b)=nth (g (i+a)).cells b:=by
 intro k;induction k with
 | zero=>intro i _; exact ⟨by simp [kZ],λ a b h=>absurd h (Nat.not_lt_zero _)⟩
 | succ k ih=>
  intro i h;obtain ⟨h1,h2⟩:=ih (i+1) (λ j hj hj'=>h j om om);have h0:=h i (Nat.le_refl _) om;refine ⟨by simp only [kZ,List.length_append,h0,h1]; rw [Nat.succ_mul]; omega,λ a b ha hb=>?_⟩;simp only [kZ];rw [agH,h0];cases a with
  | zero=>simp only [Nat.zero_mul,Nat.zero_add,Nat.add_zero]; rw [if_pos hb]
  | succ a=>
   rw [if_neg (by rw [Nat.succ_mul]; omega)];have e1:(a+1)*es+b - es=a*es+b:=by rw [Nat.succ_mul]; omega
   rw [e1,h2 a b om hb];congr 2;congr 1;omega
variable {n:Nat}
theorem aof {q:Nat} (h:q<n*es):q / es<n∧q % es<es∧q / es*es+q % es=q:=by
 have hes:0<es:=by
  rcases Nat.eq_zero_or_pos es with h0 | h0
  ·subst h0; simp at h
  ·exact h0
 refine ⟨Nat.div_lt_of_lt_mul (by rw [Nat.mul_comm]; exact h),Nat.mod_lt _ hes,?_⟩;rw [Nat.mul_comm];exact Nat.div_add_mod q es
theorem SV {w:World} {I:Nat→Prop} {b bo:Nat} {g:Nat→AV} (hlen:∀i,i<n→(g i).cells.length=es) (hcs:∀i j,i<n→j<es→iF w I (nth (g i).cells j) (cellAt w b (bo+(i*es+j)))∧(cellAt w b (bo+(i*es+j))).oneCell'=true):
  (kZ n 0 g).length=n*es∧∀q,q<(kZ n 0 g).length→iF w I (nth (kZ n 0 g) q) (cellAt w b (bo+q)):=by
 obtain ⟨h1,h2⟩:=aag n 0 (λ j _ hj=>hlen j om);refine ⟨h1,λ q hq=>?_⟩;rw [h1] at hq;obtain ⟨h3,h4,h5⟩:=aof hq;have h6:=h2 (q / es) (q % es) h3 h4;have h7:=(hcs (q / es) (q % es) h3 h4).1;rw [h5] at h6 h7;rw [h6,Nat.zero_add];exact h7
variable {x:Operand}
theorem alY (hc:iE P cfg) (hR:Rel cfg cx H D w I O) (ho:o.op=.load t x) (hx:fA w I O D (ρ x) (a.eval x))
  (h:fU Sp H (gY cfg eY (.load t x) ρ) v ups r):fP P cfg cx H D w I O eY o a v ups:=by
 simp only [gY] at h;obtain ⟨ti,ht,h1⟩:=h.lK;split at h1
 ·rename_i ob i off e;rw [e] at hx;obtain ⟨obj,_,rQ,h2⟩:=h1.rF;obtain ⟨p,hp,hO⟩:=hR.live rQ;obtain ⟨b,bo,sz,hpl,hi,hxv⟩:=hx.pU hp;cases obj with
  | map=>exact (fU.bE h2).elim
  | box cs=>
   obtain ⟨hn,b',o8,sz',hpl',hal,hle,hcs⟩:=hO;rw [hpl] at hpl';cases hpl';have hi0:i=0:=by omega
   subst hi0;obtain ⟨rfl,x',hrun,hrep⟩:=sG (w:=w) (I:=I) (O:=O) (D:=D) hc ht h2 b (bo+off) (λ j=>cellAt w b (bo+(off+j)))
    (λ j hj=>by rw [Nat.add_assoc]; exact wG hal (by simp at hj; omega)) (λ j hj=>by rw [MJ]; exact hcs (off+j) (by simp at hj; omega))
   refine fP.fD hR ?_ hrep;simp only [Nat.zero_mul,Nat.zero_add] at hxv;simp [execOp,ho,hxv,hrun]
  | row es n g=>
   obtain ⟨hn,hes,hlen,hpl' | ⟨b',o8,sz',hpl',hal,hle,hcs⟩⟩:=hO
   ·rw [hpl] at hpl'; cases hpl'.2
   rw [hpl] at hpl';cases hpl';simp only at h2;split at h2
   ·obtain ⟨hz,h3⟩:=h2.cK;obtain ⟨rfl,rfl⟩:=Yg hz;obtain ⟨hrl,hrr⟩:=SV hlen hcs;obtain ⟨rfl,x',hrun,hrep⟩:=sG (w:=w) (I:=I) (O:=O) (D:=D) hc ht h3 b bo (λ j=>cellAt w b (bo+j)) (λ j hj=>wG hal.al om) (λ j hj=>.pure (hrr j hj));refine fP.fD hR ?_ hrep;simp only [Nat.zero_mul,Nat.zero_add,Nat.add_zero] at hxv;simp [execOp,ho,hxv,hrun]
   obtain ⟨hk,h3⟩:=h2.cK;have hin:i<n:=by omega
   have hmul:(i+1)*es≤n*es:=Nat.mul_le_mul_right _ hin;have avn:(i+1)*es=i*es+es:=Nat.succ_mul _ _;have hli:=hlen i hin;obtain ⟨rfl,x',hrun,hrep⟩:=sG (w:=w) (I:=I) (O:=O) (D:=D) hc ht h3 b (bo+(i*es+off)) (λ j=>cellAt w b (bo+(i*es+(off+j))))
    (λ j hj=>by
      have:bo+(i*es+off)+j=bo+(i*es+(off+j)):=by omega
      rw [this]
      exact wG hal.al (by simp at hj; omega)) (λ j hj=>by rw [MJ]; exact .pure (hcs i (off+j) hin (by simp at hj; omega)).1)
   refine fP.fD hR ?_ hrep;rw [hes] at hxv;simp [execOp,ho,hxv,hrun]
 ·rename_i cs e;rw [e] at hx;generalize hxv:a.eval x=xv at hx;cases hx.YK with
  | ro b off vs hI hm hr=>
   obtain ⟨rfl,x',hrun,hrep⟩:=sG (w:=w) (I:=I) (O:=O) (D:=D) hc ht h1 b off vs hm (λ j hj=>.pure (hr j hj));exact fP.fD hR (by simp [execOp,ho,hxv,hrun]) hrep
 ·exact (fU.bE h1).elim
theorem aje (hc:iE P cfg) (hR:Rel cfg cx H D w I O) {s:TypeId} {f:Nat} (ho:o.op=.field s x f) (hx:fA w I O D (ρ x) (a.eval x))
  (h:fU Sp H (gY cfg eY (.field s x f) ρ) v ups r):fP P cfg cx H D w I O eY o a v ups:=by
 simp only [gY] at h;obtain ⟨ts,hs,h1⟩:=h.lK;split at h1
 ·rename_i oo t hf;obtain ⟨ti,ht,h2⟩:=h1.lK;obtain ⟨fields,fd,hu,hfd,ho1,ho2⟩:=hc.field hs hf;obtain ⟨i,d,hi,hu',hd,hsz⟩:=hc.agg ht;split at h2
  ·rename_i cs e;rw [e] at hx;obtain ⟨vs,hxv,hl,hr⟩:=hx.vD;have hag:=U6 hu' w;unfold BA at h2;cases ha:ti.agg with
   | true=>
    simp only [ha] at h2;obtain ⟨hle,h3⟩:=h2.cK;obtain ⟨rfl,rfl⟩:=h3.fK;have hle:ti.size≤cs.length - oo:=by simpa using hle
    rw [hd,ha] at hag;have e1:(part t vs oo).run P w=.ok (.agg (vs.extract oo (oo+ti.size))) w:=by simp [part,Sem.run_bind,hag,gB hi,hsz]
    refine fP.fD (x:=.agg (vs.extract oo (oo+ti.size))) hR ?_ (.agg ?_ λ j hj=>?_)
    ·rw [← ho2] at e1;simp only [execOp,ho,Instr.field,hxv,Sem.run_bind,dG hu,hfd,asAgg,Sem.run_pure,Result.andThen_ok,e1,ho1]
    ·simp; omega
    ·have hj':j<ti.size:=by simp at hj; omega
     have:=hr (oo+j) om;have e:nth (List.take ti.size (List.drop oo cs)) j=nth cs (oo+j):=by simp [vR,hj']
     rw [e];have h4:oo+j<vs.size:=by omega
     simp [h4] at this;have h5:(vs.extract oo (oo+ti.size))[j]? = vs[oo+j]? := by
      rw [Array.getElem?_extract,if_pos om]
     simp only [Array.getD_eq_getD_getElem?, h5];simpa [h4] using this
   | false=>
    simp only [ha] at h2;rw [hd,ha] at hag;cases hcs:List.drop oo cs with
    | nil=>simp only [hcs] at h2; exact (fU.bE h2).elim
    | cons c l=>
     simp only [hcs] at h2;obtain ⟨rfl,rfl⟩:=h2.fK;have hlt:oo<cs.length:=by
      rcases Nat.lt_or_ge oo cs.length with h | h
      ·exact h
      ·rw [List.drop_eq_nil_of_le h] at hcs; cases hcs
     have hc0:nth cs oo=v:=by
      have:=MJ cs oo 0;rw [hcs] at this;simpa [nth] using this.symm
     have h4:oo<vs.size:=by omega
     have e1:(part t vs oo).run P w=.ok (vs.getD oo Go.undef) w:=by simp [part,Sem.run_bind,hag,Array.getElem?_eq_getElem h4]
     refine fP.fD (x:=vs.getD oo Go.undef) hR ?_ (hc0 ▸ hr oo hlt);rw [← ho2] at e1;simp only [execOp,ho,Instr.field,hxv,Sem.run_bind,dG hu,hfd,asAgg,Sem.run_pure,Result.andThen_ok,e1,ho1]
  ·exact (fU.bE h2).elim
 ·exact (fU.bE h1).elim
theorem H8 {size:Nat} (h:UW es n size=true) (hn:n≠0):es=size:=by
 unfold UW at h;cases hb:Nat.beq es size with
 | true=>exact Nat.eq_of_beq_eq_true hb
 | false=>
  simp only [hb] at h;cases n with
  | zero=>exact absurd rfl hn
  | succ n=>simp [isZ] at h
theorem SX (i j:Nat):addN i j=i+j:=by cases i<;>simp [addN]
theorem aa0 (hc:iE P cfg) {et:Nat} (h:ai2 cfg t=some (n,et)):P.underlying t=some (.array n et)∧∃ti,look cfg.ty t=some ti∧YB ti.desc=some (n,et):=by
 unfold ai2 at h;split at h
 ·rename_i ti ht;refine ⟨?_,ti,ht,h⟩;obtain ⟨_,d,_,_,hu,_,_,_,_,_,_,_,hm⟩:=(hc.ty t ti ht).ex;unfold YB at h;split at h
  ·rename_i n' e' hd;cases h;rw [hd] at hm;have hm:d=.array n et:=hm;rw [hu,hm]
  ·cases h
 ·cases h
theorem abQ (hc:iE P cfg) (hR:Rel cfg cx H D w I O) {ix:Operand} (ho:o.op=.indexAddr t x ix) (hx:fA w I O D (ρ x) (a.eval x)) (hix:fA w I O D (ρ ix) (a.eval ix))
  (h:fU Sp H (gY cfg eY (.indexAddr t x ix) ρ) v ups r):fP P cfg cx H D w I O eY o a v ups:=by
 simp only [gY] at h;split at h
 ·rename_i n et harr;obtain ⟨hu,_⟩:=aa0 hc harr;obtain ⟨ei,hei,h1⟩:=h.lK;split at h1
  ·rename_i k ii ob j off e1 e2;rw [e1] at hix;rw [e2] at hx;have adu:=hix.iR;obtain ⟨obj,_,rQ,h2⟩:=h1.rF;obtain ⟨p,hp,hO⟩:=hR.live rQ;obtain ⟨b,bo,sz,hpl,hjn,hxv⟩:=hx.pU hp;cases obj with
   | map=>exact (fU.bE h2).elim
   | box cs=>exact (fU.bE h2).elim
   | row es n' g=>
    obtain ⟨c1,h3⟩:=h2.cK;obtain ⟨c2,h4⟩:=h3.cK;obtain ⟨c3,h5⟩:=h4.cK;obtain ⟨⟨hn0,hn1⟩,rfl,rfl⟩:=h5.iZ;obtain ⟨rfl,rfl⟩:=Yg c1;have c2:es=ei.size:=Nat.eq_of_beq_eq_true c2;have c3:n'=n:=Nat.eq_of_beq_eq_true c3;have YM:p.es=es:=hO.2.1;have hpn:p.n=n':=hO.1;obtain ⟨i,_,z,hi,_,hz,hs,_⟩:=(hc.ty et ei hei).ex;simp only [Nat.zero_mul,Nat.add_zero] at hxv;refine fP.fD (x:=.pointer (some ⟨b,bo+(ii.toNat*p.es+0),none⟩)) hR ?_ (.ptr hp hpl om);simp [execOp,ho,hxv,adu,Instr.indexAt,asIntOf,Instr.sureAddr,dG hu,gB hi,hn0,hn1,hs,← c2,YM,Addr.add_mid]
  ·exact (fU.bE h1).elim
 obtain ⟨tt,e,ti,h1,h2,h3,h4⟩:=h.xL;obtain ⟨hu,i,z,hi,hz,hs,hby,hzs⟩:=hc.slice h1 h2 h3;split at h4
 ·rename_i k n eix;rw [eix] at hix;have adu:=hix.iR;split at h4
  ·rename_i es m full g ex;rw [ex] at hx;obtain ⟨hes,h5⟩:=h4.cK;obtain ⟨⟨hn0,hn1⟩,rfl,rfl⟩:=h5.iZ;generalize hxv:a.eval x=xv at hx;cases hx.GH with
   | @sl _ _ _ _ aa cap b off vs hcap hfull ha hes' hm h1 hr=>
    have hm0:m≠0:=by omega
    obtain ⟨rfl,hI⟩:=ha hm0;have arP:=H8 hes hm0;have hnm:n.toNat<m:=by omega
    refine fP.fD (x:=.pointer (some ⟨b,off+n.toNat*es,none⟩)) hR ?_ (.pure (.ro b (off+n.toNat*es) (λ j=>vs n.toNat j) hI (λ j hj=>?_) λ j hj=>hr _ _ hnm (by rw [hes' _ hnm] at hj; exact hj)))
    ·simp [execOp,ho,hxv,adu,Instr.indexAt,asIntOf,dG hu,gB hi,hn0,hn1,hs,arP,Addr.add_mid]
    ·rw [Nat.add_assoc];exact hm _ _ hnm (by rw [hes' _ hnm] at hj; exact hj)
  ·rename_i ob j m full ex;rw [ex] at hx;obtain ⟨obj,_,rQ,h5⟩:=h4.rF;obtain ⟨p,hp,hO⟩:=hR.live rQ;cases obj with
   | map=>exact (fU.bE h5).elim
   | box cs=>exact (fU.bE h5).elim
   | row es n' g=>
    obtain ⟨hes,h6⟩:=h5.cK;have hes:es=ti.size:=Nat.eq_of_beq_eq_true hes;obtain ⟨⟨hn0,hn1⟩,rfl,rfl⟩:=h6.iZ;obtain ⟨aa,cap,hxv,hjm,hcap,hfull,hpl⟩:=hx.pV hp;obtain ⟨b,bo,sz,adv,rfl,hle⟩:=hpl om;have YM:p.es=es:=hO.2.1;have hnm:n.toNat<m:=by omega
    rw [SX];have:bo+j*p.es+n.toNat*p.es=bo+((j+n.toNat)*p.es+0):=by rw [Nat.add_mul]; omega
    refine fP.fD (x:=.pointer (some ⟨b,bo+((j+n.toNat)*p.es+0),none⟩)) hR ?_ (.ptr hp adv om);rw [← this];simp [execOp,ho,hxv,adu,Instr.indexAt,asIntOf,dG hu,gB hi,hn0,hn1,hs,← hes,YM,Addr.add_mid]
  ·exact (fU.bE h4).elim
 ·exact (fU.bE h4).elim
end
end Go.Ab
namespace Go.Ab
section
variable {P:Program} {cfg:xE} {cx:Ctx} {H:Nat→Option eP} {D:Nat→Prop} {w:World} {I:Nat→Prop} {O:OM} {Sp:o9}
variable {eY:Nat} {o:Oper} {a:Act} {ρ:Operand→AV} {v:AV} {ups:kN} {r:List Nat}
variable {t:TypeId}
theorem QL {e:TypeId} {i:TypeInfo} (hu:P.underlying t=some (.slice e)) (hi:P.info? e=some i) (aa:Option Addr) (len cap:Nat) (lo hi' mx:Option Value) (l h m:Nat)
  (hb:(Instr.sliceBounds true len cap lo hi' mx).run P w=.ok (l,h,m) w):
  (Instr.sliceAt t (.slice aa len cap) lo hi' mx).run P w=.ok (.slice (if m=l then aa else aa.map (·.add (l*i.size))) (h - l) (m - l)) w:=by
 simp [Instr.sliceAt,Instr.slice,dG hu,hb,gB hi]
theorem ap3 (len cap:Nat):(Instr.sliceBounds true len cap none none none).run P w=.ok (0,len,cap) w:=by
 simp [Instr.sliceBounds]
theorem ap4 (len cap:Nat) (k:IntKind) (h:Int) (h0:0≤h) (h1:h≤cap):(Instr.sliceBounds true len cap none (some (.int k h)) none).run P w=.ok (0,h.toNat,cap) w:=by
 simp [Instr.sliceBounds,Instr.sliceBound,asIntOf,h0,h1]
theorem ap5 (len cap:Nat) (k:IntKind) (h:Int) (h0:0≤h) (h1:h≤cap):(Instr.sliceBounds true len cap none (some (.int k h)) (some (.int k h))).run P w=.ok (0,h.toNat,h.toNat) w:=by
 obtain ⟨n,rfl⟩:=Int.eq_ofNat_of_zero_le h0;simp at h1;simp [Instr.sliceBounds,Instr.sliceBound,asIntOf,h1]
theorem ap6 (len cap:Nat) (k:IntKind) (l:Int) (h0:0≤l) (h1:l≤len):(Instr.sliceBounds true len cap (some (.int k l)) none none).run P w=.ok (l.toNat,len,cap) w:=by
 simp [Instr.sliceBounds,Instr.sliceBound,asIntOf,h0,h1]
theorem ap7 (len cap:Nat) (k k':IntKind) (l h:Int) (h0:0≤l) (h1:l≤h) (h2:h≤cap):(Instr.sliceBounds true len cap (some (.int k l)) (some (.int k' h)) none).run P w=.ok (l.toNat,h.toNat,cap) w:=by
 obtain ⟨n,rfl⟩:=Int.eq_ofNat_of_zero_le h0;obtain ⟨m,rfl⟩:=Int.eq_ofNat_of_zero_le (Int.le_trans h0 h1);simp at h1 h2;simp [Instr.sliceBounds,Instr.sliceBound,asIntOf,h1,h2]
theorem ap8 (len cap:Nat) (k k':IntKind) (l h:Int) (h0:0≤l) (h1:l≤h) (h2:h≤cap):(Instr.sliceBounds true len cap (some (.int k l)) (some (.int k' h)) (some (.int k' h))).run P w=.ok (l.toNat,h.toNat,h.toNat) w:=by
 obtain ⟨n,rfl⟩:=Int.eq_ofNat_of_zero_le h0;obtain ⟨m,rfl⟩:=Int.eq_ofNat_of_zero_le (Int.le_trans h0 h1);simp at h1 h2;simp [Instr.sliceBounds,Instr.sliceBound,asIntOf,h1,h2]
theorem afk {es n cap size l h m:Nat} {full xM:Bool} {g:Nat→AV} {aa:Option Addr} (hp:iF w I (.sl es n full g) (.slice aa n cap)) (hlh:l≤h) (hhn:h≤n) (hhm:h≤m) (_hmc:m≤cap)
  (hf:xM=true→m=h) (hs:n≠0→es=size):iF w I (.sl es (h - l) xM (λ j=>g (l+j))) (.slice (if m=l then aa else aa.map (·.add (l*size))) (h - l) (m - l)):=by
 cases hp with
 | sl b off vs hcap hfull ha hes hm h1 hr=>
  refine .sl b (off+l*es) (λ i j=>vs (l+i) j) om (λ e=>by have:=hf e; omega) (λ hne=>?_) (λ i hi=>hes _ om) (λ i j hi hj=>?_) (λ i j hi hj=>h1 _ _ om hj) (λ i j hi hj=>hr _ _ om hj)
  ·obtain ⟨h1,h2⟩:=ha om;rw [if_neg om,h1,hs om];simp [Addr.add_mid,h2]
  ·have:=hm (l+i) j om hj;rw [← this,Nat.add_mul];congr 2;omega
theorem U7 {x y:Option Operand} (h:Fj x y=true):x=y:=by
 unfold Fj at h;split at h
 ·rw [Nat.eq_of_beq_eq_true h]
 ·cases h
variable {mx:Option Operand}
theorem agI (h:(!mx.isSome)=true):mx=none:=by
 cases mx with
 | none=>rfl
 | some _=>cases h
variable {hi:Option Operand}
theorem ajf {k:Pg} (hhi:∀y,hi=some y→fA w I O D (ρ y) (a.eval y)) (hmx:∀y,mx=some y→fA w I O D (ρ y) (a.eval y)) (h:fU Sp H (ahw ρ hi mx k) v ups r):(∃r',fU Sp H k v ups r')∧(mx.isSome=true→mx.map a.eval=hi.map a.eval):=by
 unfold ahw at h;cases mx with
 | none=>exact ⟨⟨_,h⟩,nofun⟩
 | some m=>
  cases hi with
  | none=>exact (fU.bE h).elim
  | some y=>
   simp only at h;have h1:=hhi y rfl;have h2:=hmx m rfl;split at h
   ·rename_i kk a1 kk' b1 e1 e2;obtain ⟨hk,h⟩:=h.cK;obtain ⟨he,h⟩:=h.xK;refine ⟨⟨_,h⟩,λ _=>?_⟩;rw [e1] at h1;rw [e2] at h2;have hk:kk=kk':=of_decide_eq_true hk;simp only [Option.map_some];rw [h1.iR,h2.iR,hk,he]
   ·exact (fU.bE h).elim
theorem ajg (n:Nat):(Instr.sliceBounds false n n none none none).run P w=.ok (0,n,n) w:=by simp [Instr.sliceBounds]
theorem ajh (n:Nat) (k:IntKind) (h:Int) (h0:0≤h) (h1:h≤n):(Instr.sliceBounds false n n none (some (.int k h)) none).run P w=.ok (0,h.toNat,n) w:=by
 simp [Instr.sliceBounds,Instr.sliceBound,asIntOf,h0,h1]
variable {x:Operand} {lo:Option Operand}
theorem ahD (hc:iE P cfg) (hR:Rel cfg cx H D w I O) (ho:o.op=.slice t x lo hi mx) (hx:fA w I O D (ρ x) (a.eval x)) (hhi:∀y,hi=some y→fA w I O D (ρ y) (a.eval y)) {n et:Nat} (harr:ai2 cfg t=some (n,et))
  (h:fU Sp H (UU cfg et λ ei=>gF mx.isNone (match ρ x with
    | .ptr o i off=>.rd o λ
     | .row es n' _=>gF (isZ i&&isZ off) (gF (Nat.beq es ei.size) (gF (Nat.beq n' n) (ai5 o n (lo.map ρ) (hi.map ρ))))
     | _=>.fail
    | _=>.fail)) v ups r):fP P cfg cx H D w I O eY o a v ups:=by
 obtain ⟨hu,_⟩:=aa0 hc harr;obtain ⟨ei,hei,h1⟩:=h.lK;obtain ⟨hmx,h2⟩:=h1.cK;have hmx:mx=none:=by cases mx with | none=>rfl | some _=>cases hmx
 subst hmx;split at h2
 ·rename_i ob j off e1;rw [e1] at hx;obtain ⟨obj,_,rQ,h3⟩:=h2.rF;obtain ⟨p,hp,hO⟩:=hR.live rQ;obtain ⟨b,bo,sz,hpl,hjn,hxv⟩:=hx.pU hp;cases obj with
  | map=>exact (fU.bE h3).elim
  | box cs=>exact (fU.bE h3).elim
  | row es n' g=>
   obtain ⟨c1,h4⟩:=h3.cK;obtain ⟨c2,h5⟩:=h4.cK;obtain ⟨c3,h6⟩:=h5.cK;obtain ⟨rfl,rfl⟩:=Yg c1;have c2:es=ei.size:=Nat.eq_of_beq_eq_true c2;have c3:n'=n:=Nat.eq_of_beq_eq_true c3;subst c3;have YM:p.es=es:=hO.2.1;have hpn:p.n=n':=hO.1;have hsz:bo+n'*es≤sz:=by
    obtain ⟨_,_,_,hq | ⟨b',o8,sz',hpl',_,hle,_⟩⟩:=hO
    ·rw [hpl] at hq; cases hq.2
    ·rw [hpl] at hpl'; cases hpl'; exact hle
   obtain ⟨i,_,z,alZ,_,hz,hs,_⟩:=(hc.ty et ei hei).ex;simp only [Nat.zero_mul,Nat.add_zero] at hxv;have fin:∀(k:Nat) (full:Bool),k≤n'→(full=true→n'=k)→fA w I O D (.dQ ob 0 k full) (.slice (some ⟨b,bo,none⟩) k n'):=λ k full hk hf=>
    .dQ hp om hk hf (λ _=>⟨b,bo,sz,hpl,by simp,by rw [YM,Nat.zero_add]; exact hsz⟩) om
   unfold ai5 at h6;split at h6
   ·rename_i e2 e3;obtain ⟨rfl,rfl⟩:=h6.fK;have hlo:lo=none:=by cases lo with | none=>rfl | some _=>cases e2
    have arQ:hi=none:=by cases hi with | none=>rfl | some _=>cases e3
    subst hlo;subst arQ;refine fP.fD (x:=.slice (some ⟨b,bo,none⟩) n' n') hR ?_ (fin n' true (Nat.le_refl _) (λ _=>rfl));have e0:(⟨b,bo,none⟩:Addr).add 0=⟨b,bo,none⟩:=by rw [Addr.add_mid]; rfl
    by_cases hz0:n'=0
    ·simp [execOp,ho,hxv,Instr.sliceAt,Instr.sureAddr,dG hu,ajg,gB alZ,hz0]
    ·simp [execOp,ho,hxv,Instr.sliceAt,Instr.sureAddr,dG hu,ajg,gB alZ,hz0,e0]
   ·rename_i k hh e2 e3;obtain ⟨⟨q0,q1⟩,rfl,rfl⟩:=h6.iZ;have hlo:lo=none:=by cases lo with | none=>rfl | some _=>cases e2
    subst hlo;obtain ⟨y,hy,ey⟩:∃y,hi=some y∧ρ y=.int k hh:=by
     cases hi with
     | none=>cases e3
     | some y=>exact ⟨y,rfl,by simpa using e3⟩
    subst hy;have hyv:=hhi y rfl;rw [ey] at hyv;have hyv:=hyv.iR;refine fP.fD (x:=.slice (some ⟨b,bo,none⟩) hh.toNat n') hR ?_ (fin hh.toNat false om (λ h=>by cases h));by_cases hz0:n'=0
    ·have hb0:=ajh (P:=P) (w:=w) n' k hh q0 q1;have ht0:hh.toNat=0:=by omega
     rw [ht0] at hb0 ⊢;rw [hz0] at hb0 hu ⊢;simp [execOp,ho,hxv,hyv,Instr.sliceAt,Instr.sureAddr,dG hu,hb0,gB alZ]
    ·simp [execOp,ho,hxv,hyv,Instr.sliceAt,Instr.sureAddr,dG hu,ajh n' k hh q0 q1,gB alZ,hz0,(show (⟨b,bo,none⟩:Addr).add 0=⟨b,bo,none⟩ by rw [Addr.add_mid]; rfl)]
   ·exact (fU.bE h6).elim
 ·exact (fU.bE h2).elim
theorem ahE (hc:iE P cfg) (hR:Rel cfg cx H D w I O) (ho:o.op=.slice t x lo hi mx) {ob i n:Nat} {f:Bool} (hx:fA w I O D (.dQ ob i n f) (a.eval x))
  (hlo:∀y,lo=some y→fA w I O D (ρ y) (a.eval y)) (hhi:∀y,hi=some y→fA w I O D (ρ y) (a.eval y)) (hmx:∀y,mx=some y→fA w I O D (ρ y) (a.eval y))
  (h:fU Sp H (Kz cfg t λ ti=>.rd ob λ
    | .row es N _=>gF (Nat.beq es ti.size) (aiT ob i n N f (lo.map ρ) (hi.map ρ) (mx.map ρ))
    | _=>.fail) v ups r):fP P cfg cx H D w I O eY o a v ups:=by
 obtain ⟨tt,e,ti,h1,h2,h3,h4⟩:=h.xL;obtain ⟨hu,ii,z,hi',hz,hs,hby,hzs⟩:=hc.slice h1 h2 h3;obtain ⟨obj,_,rQ,h5⟩:=h4.rF;obtain ⟨p,hp,hO⟩:=hR.live rQ;cases obj with
 | map=>exact (fU.bE h5).elim
 | box cs=>exact (fU.bE h5).elim
 | row es N g=>
  obtain ⟨c1,h6⟩:=h5.cK;have c1:es=ti.size:=Nat.eq_of_beq_eq_true c1;have YM:p.es=es:=hO.2.1;have hpn:p.n=N:=hO.1;obtain ⟨aa,cap,hxv,a1,a2,a3,a4⟩:=hx.pV hp;have hext:p.n≤i+cap:=(hxv ▸ hx).Fp hp;have arg:∀(q:Option Operand) (k:IntKind) (m:Int),(∀y,q=some y→fA w I O D (ρ y) (a.eval y))→q.map ρ=some (.int k m)→q.map a.eval=some (.int k m):=by
   intro q k m hq hm;cases q with
   | none=>cases hm
   | some y=>
    have:=hq y rfl;simp only [Option.map_some,Option.some.injEq] at hm ⊢;rw [hm] at this;exact this.iR
  have non:∀(q:Option Operand),q.map ρ=none→q=none:=λ q hq=>by cases q with | none=>rfl | some _=>cases hq
  have part:∀l hh xM,l≤hh→i+hh≤N→(xM=true→f=true∧hh=n)→fA w I O D (.dQ ob (i+l) (hh - l) xM) (.slice (if cap=l then aa else aa.map (·.add (l*ii.size))) (hh - l) (cap - l)):=by
   intro l hh xM q1 q2 q3;have hhc:hh≤cap:=by omega
   refine .dQ hp om om (λ hf=>?_) (λ hne=>?_) om
   ·obtain ⟨e1,e2⟩:=q3 hf;have:=a3 e1;omega
   ·obtain ⟨b,bo,sz,e1,e2,e3⟩:=a4 om;refine ⟨b,bo,sz,e1,?_,?_⟩
    ·rw [if_neg om,e2];simp only [Option.map_some,Addr.add_mid,Option.some.injEq];rw [YM,hs,← c1,Nat.add_mul];congr 1;omega
    ·have:i+l+(cap - l)=i+cap:=by omega
     rw [this];exact e3
  have run:∀(l hh m:Nat),(Instr.sliceBounds true n cap (lo.map a.eval) (hi.map a.eval) (mx.map a.eval)).run P w=.ok (l,hh,m) w→(execOp a.eval o).run P w=.ok (.value (.slice (if m=l then aa else aa.map (·.add (l*ii.size))) (hh - l) (m - l))) w:=by
   intro l hh m hb;have:=QL (P:=P) hu hi' aa n cap _ _ _ l hh m hb;simp only [execOp,ho,hxv,this,Sem.run_bind,Sem.run_pure,Result.andThen_ok]
  unfold aiT at h6;split at h6
  ·rename_i k m em;have hm:=arg mx k m hmx em;split at h6
   ·rename_i k1 l k2 hh el eh;obtain ⟨⟨q1,q2,q3,q4⟩,rfl,rfl⟩:=h6.iZ;have hl:=arg lo k1 l hlo el;have hh':=arg hi k2 hh hhi eh;refine fP.fD hR (run l.toNat hh.toNat m.toNat ?_) (.pure (.undef _));rw [hl,hh',hm];obtain ⟨l',rfl⟩:=Int.eq_ofNat_of_zero_le q1;obtain ⟨h',rfl⟩:=Int.eq_ofNat_of_zero_le (show 0≤hh by omega);obtain ⟨m',rfl⟩:=Int.eq_ofNat_of_zero_le (show 0≤m by omega);have z1:(m':Int)≤(cap:Int):=by omega
    have z2:(h':Int)≤(m':Int):=q3;have z3:(l':Int)≤(h':Int):=q2;have z4:(0:Int)≤(m':Int):=by omega
    have z5:(0:Int)≤(h':Int):=by omega
    have z6:(0:Int)≤(l':Int):=by omega
    have b1:∀(k:IntKind) (x y:Nat) (cd:BoundsCode),(x:Int)≤(y:Int)→(Instr.sliceBound (.int k x) y cd).run P w=.ok x w:=λ k x y cd hxy=>by
     have hx0:(0:Int)≤(x:Int):=by omega
     simp only [Instr.sliceBound,asIntOf,Sem.run_bind,Sem.run_pure,Result.andThen_ok];rw [if_pos ⟨hx0,hxy⟩];simp
    simp only [Instr.sliceBounds,Sem.run_bind,b1 _ _ _ _ z1,b1 _ _ _ _ z2,b1 _ _ _ _ z3,Result.andThen_ok,Sem.run_pure,Int.toNat_natCast]
   ·rename_i k2 hh el eh;obtain ⟨⟨q1,q2,q3⟩,rfl,rfl⟩:=h6.iZ;have hl:=non lo el;subst hl;have hh':=arg hi k2 hh hhi eh;have em0:m=0:=by omega
    have eh0:hh=0:=by omega
    subst em0;subst eh0;refine fP.fD (x:=.slice aa 0 0) hR ?_ (.pure (.sl 0 0 (λ _ _=>Go.undef) (Nat.zero_le _) (λ _=>rfl) (λ h=>absurd rfl h) (λ _ h=>absurd h (Nat.not_lt_zero _)) (λ _ _ h=>absurd h (Nat.not_lt_zero _)) (λ _ _ h=>absurd h (Nat.not_lt_zero _)) (λ _ _ h=>absurd h (Nat.not_lt_zero _))));have b1:∀(k:IntKind) (y:Nat) (cd:BoundsCode),(Instr.sliceBound (.int k 0) y cd).run P w=.ok 0 w:=λ k y cd=>by
     have hx0:(0:Int)≤(0:Int):=by omega
     have hxy:(0:Int)≤(y:Int):=by omega
     simp only [Instr.sliceBound,asIntOf,Sem.run_bind,Sem.run_pure,Result.andThen_ok];rw [if_pos ⟨hx0,hxy⟩];simp
    have:=run 0 0 0 (by
     rw [hh',hm]
     simp [Instr.sliceBounds,b1])
    simpa using this
   ·exact (fU.bE h6).elim
  ·exact (fU.bE h6).elim
  ·rename_i em;have hm:=non mx em;subst hm;split at h6
   ·rename_i el eh;obtain ⟨rfl,rfl⟩:=h6.fK;have:=non lo el;subst this;have:=non hi eh;subst this;refine fP.fD hR (run 0 n cap (ap3 n cap)) ?_;have hh:(.slice (if cap=0 then aa else aa.map (·.add (0*ii.size))) (n - 0) (cap - 0):Value)=.slice aa n cap:=by
     by_cases hz:cap=0
     ·simp [hz]
     ·obtain ⟨b,bo,sz,_,e2,_⟩:=a4 hz;rw [if_neg hz,e2];simp [Addr.add_mid]
    rw [hh,← hxv];exact hx
   ·rename_i k hh el eh;obtain ⟨⟨q1,q2⟩,rfl,rfl⟩:=h6.iZ;have:=non lo el;subst this;have hh':=arg hi k hh hhi eh;refine fP.fD hR (run 0 hh.toNat cap (by rw [hh']; exact ap4 n cap k hh q1 om)) ?_;have:=part 0 hh.toNat false (Nat.zero_le _) om (λ h=>by cases h);simpa using this
   ·rename_i k l el eh;obtain ⟨⟨q1,q2⟩,rfl,rfl⟩:=h6.iZ;have:=non hi eh;subst this;have hl:=arg lo k l hlo el;exact fP.fD hR (run l.toNat n cap (by rw [hl]; exact ap6 n cap k l q1 q2)) (part l.toNat n f om om (λ h=>⟨h,rfl⟩))
   ·rename_i k l k2 hh el eh;obtain ⟨⟨q1,q2,q3⟩,rfl,rfl⟩:=h6.iZ;have hl:=arg lo k l hlo el;have hh':=arg hi k2 hh hhi eh;exact fP.fD hR (run l.toNat hh.toNat cap (by rw [hl,hh']; exact ap7 n cap k k2 l hh q1 q2 om)) (part l.toNat hh.toNat false om om (λ h=>by cases h))
   ·exact (fU.bE h6).elim
theorem aji (hc:iE P cfg) (hR:Rel cfg cx H D w I O) (ho:o.op=.slice t x lo hi mx) (hx:fA w I O D (ρ x) (a.eval x))
  (hlo:∀y,lo=some y→fA w I O D (ρ y) (a.eval y)) (hhi:∀y,hi=some y→fA w I O D (ρ y) (a.eval y)) (hmx:∀y,mx=some y→fA w I O D (ρ y) (a.eval y))
  (h:fU Sp H (gY cfg eY (.slice t x lo hi mx) ρ) v ups r):fP P cfg cx H D w I O eY o a v ups:=by
 simp only [gY] at h;split at h
 ·rename_i n et harr;exact ahD hc hR ho hx hhi harr h
 split at h
 ·rename_i e1;exact ahE hc hR ho (e1 ▸ hx) hlo hhi hmx h
 rename_i hno;obtain ⟨⟨r0,h0⟩,hmax⟩:=ajf hhi hmx h;clear h;obtain ⟨tt,e,ti,h1,h2,h3,h4⟩:=h0.xL;obtain ⟨hu,i,z,hi',hz,hs,hby,hzs⟩:=hc.slice h1 h2 h3;clear h0;obtain ⟨aa,n,cap,xa,hxv,anv,part,h5⟩:∃aa n cap xa,a.eval x=.slice aa n cap∧n≤cap∧(∀(v:AV),xa=v→
   (∀es full g,xa=.sl es n full g→(full=true→cap=n)∧∀l h m xM,l≤h→h≤n→h≤m→m≤cap→(xM=true→m=h)→fA w I O D (.sl es (h - l) xM (λ j=>g (l+j))) (.slice (if m=l then aa else aa.map (·.add (l*i.size))) (h - l) (m - l)))∧
   (∀ob j n' full,xa≠.dQ ob j n' full)∧
   (∀es n' full g,xa=.sl es n' full g→n'=n))∧∃r',fU Sp H (X9 xa (lo.map ρ) (hi.map ρ) mx.isSome mx.isSome) v ups r':=by
  split at h4
  ·rename_i es n f g ex
   rw [ex] at hx
   obtain ⟨hes,h5⟩:=h4.cK
   generalize hxv:a.eval x=xv at hx
   have hp:=hx.GH
   cases hp with
   | @sl _ _ _ _ aa cap b off vs hcap hfull ha hes' hm h11 hr=>
    refine ⟨aa,n,cap,.sl es n f g,rfl,hcap,λ v _=>⟨λ es' xM g' e=>?_,λ _ _ _ _ e=>(by cases e),λ _ _ _ _ e=>(by cases e; rfl)⟩,_,h5⟩
    cases e
    exact ⟨hfull,λ l h m xM q1 q2 q3 q4 q5=>.pure (afk (iF.sl b off vs hcap hfull ha hes' hm h11 hr) q1 q2 q3 q4 q5 (λ hn=>by rw [hs]; exact H8 hes hn))⟩
  ·rename_i ob j n f ex
   exact (hno _ _ _ _ ex).elim
  ·exact (fU.bE h4).elim
 obtain ⟨r',h5⟩:=h5;clear h4 hx;obtain ⟨psl,al0,ajj⟩:=part xa rfl;have done:∀ {l h m:Nat} {x':Value},(Instr.sliceBounds true n cap (lo.map a.eval) (hi.map a.eval) (mx.map a.eval)).run P w=.ok (l,h,m) w→x'=.slice (if m=l then aa else aa.map (·.add (l*i.size))) (h - l) (m - l)→ups=[]→fA w I O D v x'→fP P cfg cx H D w I O eY o a v ups:=by
  intro l h m x' hb hx' hu0 hv;subst hu0;refine fP.fD (x:=x') hR ?_ hv;rw [hx'];simp [execOp,ho,hxv,QL hu hi' aa n cap _ _ _ l h m hb]
 unfold X9 at h5;split at h5
 ·rename_i e1 e2;obtain ⟨hm,h6⟩:=h5.cK;have hmx:mx=none:=agI hm;have e1':lo=none:=by simpa using e1
  have e2':hi=none:=by simpa using e2
  subst hmx; subst e1'; subst e2';split at h6
  ·obtain ⟨rfl,rfl⟩:=h6.fK;have e:=ajj _ _ _ _ rfl;subst e;obtain ⟨q1,q2⟩:=psl _ _ _ rfl;exact done (ap3 _ _) rfl rfl (by simpa using q2 0 _ cap _ (Nat.zero_le _) (Nat.le_refl _) anv (Nat.le_refl _) q1)
  ·exact absurd rfl (al0 _ _ _ _)
  ·exact (fU.bE h6).elim
 ·rename_i k hh e1 e2;obtain ⟨hm,h6⟩:=h5.cK;have e1':lo=none:=by simpa using e1
  obtain ⟨y,e2',e3⟩:∃y,hi=some y∧ρ y=.int k hh:=Option.map_eq_some_iff.1 e2;have hy:a.eval y=.int k hh:=(e3 ▸ hhi y e2').iR;subst e1';have go:∀xM,xM=mx.isSome→0≤hh→hh≤n→(∀m,hh.toNat≤m→m≤cap→(xM=true→m=hh.toNat)→fA w I O D v (.slice (if m=0 then aa else aa.map (·.add (0*i.size))) (hh.toNat - 0) (m - 0)))→ups=[]→fP P cfg cx H D w I O eY o a v ups:=by
   intro xM hfe q1 q2 q3 q4;cases hf:mx.isSome with
   | true=>
    exact done (l:=0) (h:=hh.toNat) (m:=hh.toNat) (by rw [hmax hf]; simp only [e2',Option.map_some,Option.map_none,hy]; exact ap5 _ _ _ _ q1 om) rfl q4 (q3 _ (Nat.le_refl _) om (λ _=>rfl))
   | false=>
    have hmx:mx=none:=agI (by rw [hf]; rfl);subst hmx;exact done (l:=0) (h:=hh.toNat) (m:=cap) (by simp only [e2',Option.map_some,Option.map_none,hy]; exact ap4 _ _ _ _ q1 om) rfl q4 (q3 _ om (Nat.le_refl _) (λ e=>by rw [hfe,hf] at e; cases e))
  split at h6
  ·split at h6
   ·rename_i hzf;obtain ⟨⟨q1,q2⟩,rfl,rfl⟩:=h6.iZ;have e:=ajj _ _ _ _ rfl;subst e;have hh0:hh=0:=by omega
    subst hh0;unfold zf at hzf;split at hzf
    ·split at hzf
     ·obtain ⟨q3,q4⟩:=psl _ _ _ rfl;have hc0:=q3 rfl;exact go _ rfl om om (λ m hm1 hm2 hm3=>by simpa using q4 0 0 m true (Nat.le_refl _) om (Nat.zero_le _) hm2 (λ _=>by omega)) rfl
     ·cases hzf
    ·cases hzf
   obtain ⟨⟨q1,q2⟩,rfl,rfl⟩:=h6.iZ;have e:=ajj _ _ _ _ rfl;subst e;obtain ⟨q3,q4⟩:=psl _ _ _ rfl;exact go _ rfl q1 q2 (λ m hm1 hm2 hm3=>by simpa using q4 0 hh.toNat m _ (Nat.zero_le _) om hm1 hm2 hm3) rfl
  ·exact absurd rfl (al0 _ _ _ _)
  ·exact (fU.bE h6).elim
 ·rename_i k l e1 e2;obtain ⟨hm,h6⟩:=h5.cK;have hmx:mx=none:=agI hm;have e2':hi=none:=by simpa using e2
  obtain ⟨y,e1',e3⟩:∃y,lo=some y∧ρ y=.int k l:=Option.map_eq_some_iff.1 e1;have hy:a.eval y=.int k l:=(e3 ▸ hlo y e1').iR;subst hmx; subst e2';split at h6
  ·obtain ⟨⟨q1,q2⟩,rfl,rfl⟩:=h6.iZ;have e:=ajj _ _ _ _ rfl;subst e;obtain ⟨q3,q4⟩:=psl _ _ _ rfl;exact done (by simp only [e1',Option.map_some,Option.map_none,hy]; exact ap6 _ _ _ _ q1 q2) rfl rfl (q4 l.toNat _ cap _ om (Nat.le_refl _) anv (Nat.le_refl _) q3)
  ·exact absurd rfl (al0 _ _ _ _)
  ·exact (fU.bE h6).elim
 ·rename_i k l k' hh e1 e2;obtain ⟨hm,h6⟩:=h5.cK;obtain ⟨y,e1',e3⟩:∃y,lo=some y∧ρ y=.int k l:=Option.map_eq_some_iff.1 e1;obtain ⟨y',e2',e3'⟩:∃y,hi=some y∧ρ y=.int k' hh:=Option.map_eq_some_iff.1 e2;have hy:a.eval y=.int k l:=(e3 ▸ hlo y e1').iR;have hy':a.eval y'=.int k' hh:=(e3' ▸ hhi y' e2').iR;have go:∀xM,xM=mx.isSome→0≤l→l≤hh→hh≤n→(∀m,hh.toNat≤m→m≤cap→(xM=true→m=hh.toNat)→fA w I O D v (.slice (if m=l.toNat then aa else aa.map (·.add (l.toNat*i.size))) (hh.toNat - l.toNat) (m - l.toNat)))→ups=[]→fP P cfg cx H D w I O eY o a v ups:=by
   intro xM hfe q0 q1 q2 q3 q4;cases hf:mx.isSome with
   | true=>
    exact done (l:=l.toNat) (h:=hh.toNat) (m:=hh.toNat) (by rw [hmax hf]; simp only [e1',e2',Option.map_some,hy,hy']; exact ap8 _ _ _ _ _ _ q0 q1 om) rfl q4 (q3 _ (Nat.le_refl _) om (λ _=>rfl))
   | false=>
    have hmx:mx=none:=agI (by rw [hf]; rfl);subst hmx;exact done (l:=l.toNat) (h:=hh.toNat) (m:=cap) (by simp only [e1',e2',Option.map_some,Option.map_none,hy,hy']; exact ap7 _ _ _ _ _ _ q0 q1 om) rfl q4 (q3 _ om (Nat.le_refl _) (λ e=>by rw [hfe,hf] at e; cases e))
  split at h6
  ·obtain ⟨⟨q0,q1,q2⟩,rfl,rfl⟩:=h6.iZ;have e:=ajj _ _ _ _ rfl;subst e;obtain ⟨q3,q4⟩:=psl _ _ _ rfl;exact go _ rfl q0 q1 q2 (λ m hm1 hm2 hm3=>q4 l.toNat hh.toNat m _ om om hm1 hm2 hm3) rfl
  ·exact absurd rfl (al0 _ _ _ _)
  ·exact (fU.bE h6).elim
 ·exact (fU.bE h5).elim
end
end Go.Ab
namespace Go.Ab
section
variable {P:Program} {cfg:xE} {cx:Ctx} {H:Nat→Option eP} {D:Nat→Prop} {w:World} {I:Nat→Prop} {O:OM} {Sp:o9}
variable {eY:Nat} {o:Oper} {a:Act} {ρ:Operand→AV} {v:AV} {ups:kN} {r:List Nat}
def EW (O:OM) (ids:List Nat) (b:Nat):Prop:=∃o p bo sz,o∈ids∧O o=some p∧p.pl=some (b,bo,sz)
def kill (O:OM) (ids:List Nat):OM:=λ o=>if o∈ids then none else O o
theorem aa1 (ids:List Nat) (o:Nat):look (dead ids) o=if o∈ids then some none else none:=by
 induction ids with
 | nil=>simp [dead,look]
 | cons a l ih=>
  simp only [dead,look,ih];cases h:Nat.beq a o with
  | true=>have:=Nat.eq_of_beq_eq_true h; subst this; simp
  | false=>
   have:o≠a:=λ e=>by subst e; simp at h
   simp [this]
theorem Pk (ids:List Nat) (o:Nat):mW H (dead ids) o=if o∈ids then none else H o:=by
 unfold mW;rw [aa1];by_cases h:o∈ids<;>simp [h]
theorem Rel.freeze (hR:Rel cfg cx H D w I O) (ids:List Nat):Rel cfg cx (mW H (dead ids)) D w (λ b=>I b∨EW O ids b) (kill O ids) where
 dom:=λ o=>by
  rw [Pk]; unfold kill;by_cases h:o∈ids<;>simp [h,hR.dom o]
 used:=λ o p h=>by
  unfold kill at h;by_cases h':o∈ids<;>simp [h'] at h;exact hR.used o p h
 objs:=λ o ob p h h'=>by
  rw [Pk] at h; unfold kill at h';by_cases h0:o∈ids<;>simp [h0] at h h';exact (hR.objs o ob p h h').mono (λ _ h=>.inl h) (λ _ _=>rfl) (λ o _=>by unfold kill; by_cases h0:o∈ids<;>simp [h0]) (λ _ h=>h) hR.used (λ _ _ _ _=>rfl)
 inj:=λ o o' p p' b bo sz b' o8 sz' h1 h2 h3 h4 h5=>by
  unfold kill at h1 h2;by_cases h0:o∈ids<;>simp [h0] at h1;by_cases h0':o'∈ids<;>simp [h0'] at h2;exact hR.inj o o' p p' b bo sz b' o8 sz' h1 h2 h3 h4 h5
 qH:=λ o p b bo sz h1 h2 h3=>by
  unfold kill at h1;by_cases h0:o∈ids<;>simp [h0] at h1;rcases h3 with h3 | ⟨o',p',o8,sz',h4,h5,h6⟩
  ·exact hR.qH o p b bo sz h1 h2 h3
  ·exact hR.inj o o' p p' b bo sz b o8 sz' h1 h5 h2 h6 (λ e=>h0 (e ▸ h4)) rfl
 lt:=λ o p b bo sz h1 h2=>by
  unfold kill at h1;by_cases h0:o∈ids<;>simp [h0] at h1;exact hR.lt o p b bo sz h1 h2
 Bz:=λ b h=>by
  rcases h with h | ⟨o',p',o8,sz',h4,h5,h6⟩
  ·exact hR.Bz b h
  ·exact hR.lt o' p' b o8 sz' h5 h6
 size:=hR.size
 frame:=hR.frame
 env:=hR.env
 new:=λ o p b bo sz h1 h2=>by
  unfold kill at h1;by_cases h0:o∈ids<;>simp [h0] at h1;exact hR.new o p b bo sz h1 h2
 glob:=λ g cs h=>(hR.glob g cs h).mono (λ _ h=>.inl h) (λ _ _=>rfl)
 SG:=λ b h=>.inl (hR.SG b h)
 U4:=λ b h=>by
  rcases h with h | ⟨o',p',o8,sz',h4,h5,h6⟩
  ·exact hR.U4 b h
  ·exact .inr (hR.new o' p' b o8 sz' h5 h6)
 Yf:=λ o h=>by
  unfold kill;by_cases h0:o∈ids
  ·simp [h0]
  ·simpa [h0] using hR.Yf o h
 Dm:=hR.Dm
theorem fA.kill (hR:Rel cfg cx H D w I O) (ids:List Nat) {v:AV} {x:Value} (h:fA w I O D v x):fA w (λ b=>I b∨EW O ids b) (kill O ids) D v x:=
 h.mono (λ _ h=>.inl h) (λ _ _=>rfl) (λ o _=>by unfold Ab.kill; by_cases h0:o∈ids<;>simp [h0]) (λ _ h=>h) hR.used
theorem EW.afl {ids al1:List Nat} {b:Nat} (h:EW O ids b):EW O (ids++al1) b:=by
 obtain ⟨o,p,bo,sz,h1,h2,h3⟩:=h;exact ⟨o,p,bo,sz,List.mem_append_left _ h1,h2,h3⟩
theorem EW.afm {ids al1:List Nat} {b:Nat} (h:EW O al1 b):EW O (ids++al1) b:=by
 obtain ⟨o,p,bo,sz,h1,h2,h3⟩:=h;exact ⟨o,p,bo,sz,List.mem_append_right _ h1,h2,h3⟩
theorem Dw (i j:Nat) (g:Nat→AV):rE i g j=g (i+j):=by cases i<;>simp [rE]
theorem H9 (hR:Rel cfg cx H D w I O):∀f:Nat,
  (∀(v:AV) (k:AV→List Nat→Pg) (v':AV) (ups:kN) (r:List Nat),fU Sp H (pur f v k) v' ups r→∃u ids r',fU Sp H (k u ids) v' ups r'∧
    ∀x,fA w I O D v x→iF w (λ b=>I b∨EW O ids b) u x)∧
  (∀(l:List AV) (k:List AV→List Nat→Pg) (v':AV) (ups:kN) (r:List Nat),fU Sp H (pur.ae9 f l k) v' ups r→∃l' ids r',fU Sp H (k l' ids) v' ups r'∧l'.length=l.length∧
    ∀j,j<l.length→∀x,fA w I O D (nth l j) x→iF w (λ b=>I b∨EW O ids b) (nth l' j) x):=by
 intro f;induction f with
 | zero=>exact ⟨λ v k v' ups r h=>(fU.bE h).elim,λ l k v' ups r h=>(fU.bE h).elim⟩
 | succ f ih=>
  obtain ⟨ih1,ih2⟩:=ih;refine ⟨λ v k v' ups r h=>?_,λ l k v' ups r h=>?_⟩
  ·cases v with
   | dQ ob i n full=>
    simp only [pur] at h;obtain ⟨obj,r',rQ,h1⟩:=h.rF;obtain ⟨p,hp,hO⟩:=hR.live rQ;cases obj with
    | map=>exact (fU.bE h1).elim
    | box cs=>exact (fU.bE h1).elim
    | row es m g=>
     refine ⟨_,[ob],r',h1,λ x hx=>?_⟩;obtain ⟨aa,cap,rfl,h2,h3,h4,h5⟩:=hx.pV hp;obtain ⟨hn,hes,hlen,h6⟩:=hO;by_cases hn0:n=0
     ·subst hn0;exact .sl 0 0 (λ _ _=>Go.undef) h3 h4 (λ e=>absurd rfl e) (λ i hi=>absurd hi om) (λ i j hi=>absurd hi om) (λ i j hi=>absurd hi om) (λ i j hi=>absurd hi om)
     ·obtain ⟨b,bo,sz,h7,rfl,h8⟩:=h5 om;rcases h6 with ⟨_,h6⟩ | ⟨b',o8,sz',h6,hal,hle,hcs⟩
      ·rw [h7] at h6; cases h6
      ·rw [h7] at h6;cases h6;subst hn;have hmul:∀k,k<n→(i+k+1)*es≤p.n*es:=λ k hk=>Nat.mul_le_mul_right _ om;refine .sl b (bo+i*p.es) (λ k j=>cellAt w b (bo+((i+k)*es+j))) h3 h4 (λ _=>⟨rfl,.inr ⟨ob,p,bo,sz,by simp,hp,h7⟩⟩) (λ k hk=>by rw [Dw]; exact hlen _ om) (λ k j hk hj=>?_) (λ k j hk hj=>(hcs (i+k) j om hj).2) (λ k j hk hj=>?_)
       ·have e:bo+i*p.es+(k*es+j)=bo+((i+k)*es+j):=by rw [hes,Nat.add_mul]; omega
        rw [e];refine wG hal.al ?_;have:=hmul k hk;rw [Nat.succ_mul] at this;omega
       ·rw [Dw];exact (hcs (i+k) j om hj).1.mono (λ _ h=>.inl h) (λ _ _=>rfl)
   | ptr ob i off=>
    cases i with
    | succ i=>simp only [pur] at h; exact (fU.bE h).elim
    | zero=>
     simp only [pur] at h;obtain ⟨obj,r',rQ,h1⟩:=h.rF;obtain ⟨p,hp,hO⟩:=hR.live rQ;cases obj with
     | map=>exact (fU.bE h1).elim
     | row es m g=>exact (fU.bE h1).elim
     | box cs=>
      obtain ⟨l',ids,r'',h2,h3,h4⟩:=ih2 _ _ _ _ _ h1;refine ⟨_,_,r'',h2,λ x hx=>?_⟩;obtain ⟨b,bo,sz,h5,h6,rfl⟩:=hx.pU hp;obtain ⟨hn,b',o8,sz',h7,hal,hle,hcs⟩:=hO;rw [h5] at h7;cases h7;simp only [Nat.zero_mul,Nat.zero_add];refine .ro b (bo+off) (λ j=>cellAt w b (bo+(off+j))) (.inr ⟨ob,p,bo,sz,by simp,hp,h5⟩) (λ j hj=>?_) (λ j hj=>?_)
      ·rw [Nat.add_assoc];refine wG hal ?_;rw [h3] at hj;simp at hj;omega
      ·rw [h3] at hj;refine (h4 j hj _ (by rw [MJ]; exact hcs (off+j) (by simp at hj; omega))).mono (λ b h=>?_) (λ _ _=>rfl);rcases h with h | ⟨o',p',o8,sz',q1,q2,q3⟩
       ·exact .inl h
       ·exact .inr ⟨o',p',o8,sz',List.mem_cons_of_mem _ q1,q2,q3⟩
   | agg cs=>
    simp only [pur] at h;obtain ⟨l',ids,r'',h2,h3,h4⟩:=ih2 _ _ _ _ _ h;refine ⟨_,_,r'',h2,λ x hx=>?_⟩;obtain ⟨vs,rfl,hl,hr⟩:=hx.vD;exact .agg om λ j hj=>h4 j om _ (hr j om)
   | jQ cs=>
    simp only [pur] at h;obtain ⟨l',ids,r'',h2,h3,h4⟩:=ih2 _ _ _ _ _ h;refine ⟨_,_,r'',h2,λ x hx=>?_⟩;obtain ⟨vs,rfl,hl,hr⟩:=hx.JK;exact .jQ om λ j hj=>h4 j om _ (hr j om)
   | fn g cs=>
    simp only [pur] at h;obtain ⟨l',ids,r'',h2,h3,h4⟩:=ih2 _ _ _ _ _ h;refine ⟨_,_,r'',h2,λ x hx=>?_⟩;obtain ⟨vs,rfl,hl,hr⟩:=hx.MI;exact .fn om λ j hj=>h4 j om _ (hr j om)
   | mref ob=>
    simp only [pur] at h;obtain ⟨obj,r1,rQ,h1⟩:=h.rF;obtain ⟨p,hp,hO⟩:=hR.live rQ;cases obj with
    | box=>exact (fU.bE h1).elim
    | row=>exact (fU.bE h1).elim
    | map kd z f=>
     obtain ⟨_,b,bo,sz,es,clock,hpl,hw,hm⟩:=hO;refine ⟨_,_,_,h1,λ x hx=>?_⟩;obtain ⟨b',o8,sz',hpl',rfl⟩:=hx.xJ hp;rw [hpl] at hpl';cases hpl';exact .pm b es clock (.inr ⟨ob,p,bo,sz,by simp,hp,hpl⟩) hw hm
   | _=>
    refine ⟨_,[],r,h,λ x hx=>?_⟩;cases hx with | pure hx=>exact hx.mono (λ _ h=>.inl h) (λ _ _=>rfl)
  ·cases l with
   | nil=>exact ⟨[],[],r,h,rfl,λ j hj=>by cases hj⟩
   | cons v l=>
    simp only [pur.ae9] at h;obtain ⟨u,i1,r1,h1,h2⟩:=ih1 _ _ _ _ _ h;obtain ⟨l',i2,r2,h3,h4,h5⟩:=ih2 _ _ _ _ _ h1;refine ⟨u::l',i1++i2,r2,h3,by simp [h4],λ j hj x hx=>?_⟩;cases j with
    | zero=>exact (h2 x hx).mono (λ b h=>h.elim .inl λ h=>.inr h.afl) (λ _ _=>rfl)
    | succ j=>exact (h5 j (by simpa using hj) x hx).mono (λ b h=>h.elim .inl λ h=>.inr h.afm) (λ _ _=>rfl)
end
end Go.Ab

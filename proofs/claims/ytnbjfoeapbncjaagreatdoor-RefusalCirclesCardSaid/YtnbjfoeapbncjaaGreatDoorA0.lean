/- A part of the proof. -/
import Derived.Orders
import Derived.Laws.IdiomCopy
import Derived.Laws.Cells
import Derived.Laws.Sem
import Derived.Deep.MidRow
import Derived.Laws.StructEq
import Derived.ChangeKeysEq
import Derived.IntWalk
set_option linter.unusedVariables false
set_option linter.unusedSimpArgs false
namespace Go.Ab
theorem om {p : Prop} (h : p := by omega) : p := h
inductive ZK where
 | bool | int (k:IntKind) | str | slice | ptr | other
 deriving DecidableEq
inductive TD where
 | bool | int (k:IntKind) | str | slice (e:TypeId) | struct (fs:List (Nat×Nat)) | pointer (e:TypeId) | map (k e:TypeId) | array (n:Nat) (e:TypeId) | other
 deriving DecidableEq
inductive kM where
 | s (b:ByteArray)
 | i (n:Int)
 | p (a b:Int)
 deriving DecidableEq
inductive AV where
 | undef
 | bool (b:Bool)
 | int (k:IntKind) (n:Int)
 | str (s:ByteArray)
 | sl (es n:Nat) (full:Bool) (g:Nat→AV)
 | ro (cs:List AV)
 | agg (cs:List AV)
 | ptr (o i off:Nat)
 | dA (o i n:Nat) (full:Bool)
 | fn (f:FuncId) (caps:List AV)
 | jg (vs:List AV)
 | wW
 | iK
 | mref (o:Nat)
 | pm (kd:TD) (z:List ZK) (f:kM→Option Int)
inductive cu where
 | box (cs:List AV)
 | row (es n:Nat) (g:Nat→AV)
 | map (kd:TD) (z:List ZK) (f:kM→Option Int)
structure Ei where
 size:Nat
 agg:Bool
 bytes:Nat
 zero:List ZK
 desc:TD
 deriving DecidableEq
structure FnI where
 muts:List Nat:=[]
 frz:Bool:=false
structure qz where
 ty:List (Nat×Ei)
 eqs:List (Nat×List ZK):=[]
 fns:List (Nat×FnI)
 glob:List (Nat×List AV)
 Zb:List (Nat×List (String×FuncId)):=[]
def look {α:Type}:List (Nat×α)→Nat→Option α
 | [],_=>none
 | (k,v)::l,t=>match Nat.beq k t with | true=>some v | false=>look l t
def fV (T:List (Nat×AV)) (t:Nat):AV:=
 match look T t with | some v=>v | none=>.undef
def hget (H:List (Nat×Option cu)) (o:Nat):Option cu:=
 match look H o with | some (some x)=>some x | _=>none
abbrev jh:=List (Nat×Option cu)
def FN:Nat:=1000000
inductive Pg where
 | ret (v:AV) (ups:jh)
 | need (p:Prop) [d:Decidable p] (k:Pg)
 | rd (o:Nat) (k:cu→Pg)
 | call (f:FuncId) (args:List AV) (obs:List cu) (k:AV→List cu→Pg)
 | fail
def stride:Nat:=16
def eu:Nat→AV:=λ _=>.undef
def ofConst:Value→AV
 | .bool b=>.bool b
 | .int k n=>.int k n
 | .string s=>.str s
 | .slice none 0 0=>.sl 0 0 true eu
 | .pointer none=>.wW
 | _=>.undef
def ofZ:ZK→AV
 | .bool=>.bool false
 | .int k=>.int k 0
 | .str=>.str ByteArray.empty
 | .slice=>.sl 0 0 true eu
 | .ptr=>.wW
 | .other=>.undef
def tC:List ZK→List AV
 | []=>[]
 | z::l=>ofZ z::tC l
def AV.cells:AV→List AV
 | .agg cs=>cs
 | v=>[v]
def nth:List AV→Nat→AV
 | [],_=>.undef
 | v::_,0=>v
 | _::l,n+1=>nth l n
def yX:Nat→List AV→List AV→List AV
 | _,[],l=>l
 | 0,v::new,_::l=>v::yX 0 new l
 | n+1,new,x::l=>x::yX n new l
 | _,_,[]=>[]
def OE:AV→Bool
 | .undef | .agg _ | .jg _=>false
 | _=>true
def zT:List AV→Bool
 | []=>true
 | v::l=>match OE v with | true=>zT l | false=>false
def Cb (v:AV) (k:List AV→Pg):Pg:=
 match v.cells with
 | cs=>match zT cs with | true=>k cs | false=>.fail
def dV (b:Bool) (k:Pg):Pg:=match b with | true=>k | false=>.fail
def Cc:List AV→(List AV→Prop)→Prop
 | [],K=>K []
 | v::l,K=>Cc l (λ l'=>
  match v with
  | .undef=>K (.undef::l') | .bool b=>K (.bool b::l') | .int k n=>K (.int k n::l') | .str s=>K (.str s::l')
  | .sl es n f g=>K (.sl es n f g::l') | .ro cs=>K (.ro cs::l') | .agg cs=>K (.agg cs::l') | .ptr o i off=>K (.ptr o i off::l')
  | .dA o i n f=>K (.dA o i n f::l') | .fn f caps=>K (.fn f caps::l') | .jg vs=>K (.jg vs::l') | .wW=>K (.wW::l') | .iK=>K (.iK::l') | .mref o=>K (.mref o::l') | .pm a b c=>K (.pm a b c::l'))
def force (v:AV) (K:AV→Prop):Prop:=
 match v with
 | .undef=>K .undef | .bool b=>K (.bool b) | .int k n=>K (.int k n) | .str s=>K (.str s)
 | .sl es n f g=>K (.sl es n f g)
 | .ro cs=>Cc cs λ cs'=>K (.ro cs')
 | .agg cs=>Cc cs λ cs'=>K (.agg cs')
 | .ptr o i off=>K (.ptr o i off) | .dA o i n f=>K (.dA o i n f)
 | .fn f caps=>Cc caps λ cs'=>K (.fn f cs')
 | .jg vs=>Cc vs λ cs'=>K (.jg cs')
 | .wW=>K .wW
 | .iK=>K .iK
 | .mref o=>K (.mref o)
 | .pm a b c=>K (.pm a b c)
def vQ:jh→(jh→Prop)→Prop
 | [],K=>K []
 | (o,none)::l,K=>vQ l λ l'=>K ((o,none)::l')
 | (o,some (.row es n g))::l,K=>vQ l λ l'=>K ((o,some (.row es n g))::l')
 | (o,some (.map kd z f))::l,K=>vQ l λ l'=>K ((o,some (.map kd z f))::l')
 | (o,some (.box cs))::l,K=>Cc cs λ cs'=>vQ l λ l'=>K ((o,some (.box cs'))::l')
def aG (n:Int):Prop := -9223372036854775808≤n∧n≤9223372036854775807
instance (n:Int):Decidable (aG n):=inferInstanceAs (Decidable (_∧_))
def addN:Nat→Nat→Nat
 | 0,k=>k
 | n+1,k=>n+1+k
def lT (i:Nat) (g:Nat→AV):Nat→AV:=match i with | 0=>g | n+1=>λ j=>g (n+1+j)
def OG (l:List AV):Nat→AV:=λ i=>nth l i
def appG (n:Nat) (g h:Nat→AV):Nat→AV:=λ j=>bif Nat.blt j n then g j else h (j - n)
def U1 (g:Nat→AV) (i:Nat) (v:AV):Nat→AV:=λ j=>bif Nat.beq j i then v else g j
def Rk:Nat→AV→(AV→List Nat→Pg)→Pg
 | 0,_,_=>.fail
 | _+1,.dA o i n full,k=>.rd o λ
  | .row es _ g=>k (.sl es n full (lT i g)) [o]
  | _=>.fail
 | f+1,.ptr o i off,k=>match i with
  | 0=>.rd o λ
   | .box cs=>WR f (cs.drop off) λ cs' ids=>k (.ro cs') (o::ids)
   | _=>.fail
  | _+1=>.fail
 | f+1,.agg cs,k=>WR f cs λ cs' ids=>k (.agg cs') ids
 | f+1,.jg cs,k=>WR f cs λ cs' ids=>k (.jg cs') ids
 | f+1,.fn fn cs,k=>WR f cs λ cs' ids=>k (.fn fn cs') ids
 | _+1,.mref o,k=>.rd o λ
  | .map kd z f=>k (.pm kd z f) [o]
  | _=>.fail
 | _+1,v,k=>k v []
 where WR:Nat→List AV→(List AV→List Nat→Pg)→Pg
 | 0,_,_=>.fail
 | _+1,[],k=>k [] []
 | f+1,v::l,k=>Rk f v λ v' i1=>WR f l λ l' i2=>k (v'::l') (i1++i2)
def fuel:Nat:=100
def dead:List Nat→jh
 | []=>[]
 | o::l=>(o,none)::dead l
def iT (p:Prop) [Decidable p] (v:AV):Pg:=.need p (.ret v [])
def gT (v:AV):Pg:=.ret v []
def uq (ti:Ei) (cs:List AV):Pg:=
 match ti.agg with
 | true=>dV (Nat.ble ti.size cs.length) (gT (.agg (cs.take ti.size)))
 | false=>match cs with
  | v::_=>gT v
  | []=>.fail
def arith (op:BinOp) (a b:Int):Pg:=
 match op with
 | .add=>iT (aG (a+b)) (.int .i64 (a+b))
 | .sub=>iT (aG (a - b)) (.int .i64 (a - b))
 | .mul=>iT (aG (a*b)) (.int .i64 (a*b))
 | .quo=>iT (b≠0∧aG (a.tdiv b)) (.int .i64 (a.tdiv b))
 | .rem=>iT (b≠0) (.int .i64 (a.tmod b))
 | _=>.fail
def agr (op:BinOp) (a b:Int):Pg:=
 match op with
 | .eql=>gT (.bool (a==b))
 | .neq=>gT (.bool (a != b))
 | .lss=>gT (.bool (decide (a<b)))
 | .leq=>gT (.bool (decide (a≤b)))
 | .gtr=>gT (.bool (decide (b<a)))
 | .geq=>gT (.bool (decide (b≤a)))
 | _=>.fail
def GZ:BinOp→Bool
 | .add | .sub | .mul | .quo | .rem=>true
 | _=>false
def aaw (k:IntKind) (op:BinOp) (a b:Int):Pg:=
 match op with
 | .add=>gT (.int k (k.wrap (a+b)))
 | .sub=>gT (.int k (k.wrap (a - b)))
 | .mul=>gT (.int k (k.wrap (a*b)))
 | _=>.fail
def zU (k:IntKind) (a b:Int):Int:=k.wrap (BitVec.ofInt k.bits a &&& BitVec.ofInt k.bits b).toNat
def Ce (k:IntKind) (a b:Int):Int:=a.fdiv (2 ^ min b.toNat k.bits)
def orI (k:IntKind) (a b:Int):Int:=k.wrap (BitVec.ofInt k.bits a ||| BitVec.ofInt k.bits b).toNat
def acS (k:IntKind) (a b:Int):Int:=k.wrap (a*2 ^ min b.toNat k.bits)
def aax:BinOp→Bool
 | .shl=>true
 | _=>false
def rQ (a b:IntKind):Bool:=decide (a=b)
def J5:List ZK→List AV→List AV→Option Bool
 | [],[],[]=>some true
 | .int k::zs,.int k1 a::l,.int k2 b::m=>match rQ k k1,rQ k k2,J5 zs l m with
  | true,true,some r=>some ((a==b)&&r)
  | _,_,_=>none
 | .bool::zs,.bool a::l,.bool b::m=>match J5 zs l m with
  | some r=>some ((a==b)&&r)
  | none=>none
 | .str::zs,.str a::l,.str b::m=>match J5 zs l m with
  | some r=>some ((a.toList==b.toList)&&r)
  | none=>none
 | _,_,_=>none
def ad5 (op:BinOp) (a b:ByteArray):Pg:=
 match op with
 | .add=>iT (a.size+b.size≤9223372036854775807) (.str (a++b))
 | .eql=>gT (.bool (a.toList==b.toList))
 | .neq=>gT (.bool (!(a.toList==b.toList)))
 | .lss=>gT (.bool (Op.bytesLess a.toList b.toList))
 | .leq=>gT (.bool (Op.bytesLess a.toList b.toList||a.toList==b.toList))
 | .gtr=>gT (.bool (!(Op.bytesLess a.toList b.toList||a.toList==b.toList)))
 | .geq=>gT (.bool (!Op.bytesLess a.toList b.toList))
 | _=>.fail
def WS (c:AV) (ea eb:Operand) (a b:AV):Pg:=
 match c with
 | .bool c=>match ea,eb,a,b with
  | _,.const (.bool false),.bool x,_=>gT (.bool (c&&x))
  | .const (.bool true),_,_,.bool y=>gT (.bool (c||y))
  | _,_,.bool x,.bool y=>gT (.bool (bif c then x else y))
  | _,_,.undef,y=>iT (c=false) y
  | _,_,x,.undef=>iT (c=true) x
  | _,_,_,_=>.fail
 | _=>.fail
section ops
variable (cfg:qz)
def U2 {α:Type}:List (String×α)→String→Option α
 | [],_=>none
 | (k,v)::l,s=>match k==s with | true=>some v | false=>U2 l s
def WT (t:Nat) (m:String):Option FuncId:=match look cfg.Zb t with
 | some l=>U2 l m
 | none=>none
def FP (t:TypeId) (k:Ei→Pg):Pg:=match look cfg.ty t with | some i=>k i | none=>.fail
def tF (t:TypeId) (k:Ei→Pg):Pg:=match look cfg.ty t with
 | some i=>match i.desc with
  | .slice e=>FP cfg e k
  | _=>.fail
 | none=>.fail
def aay (op:BinOp) (t:TypeId) (x y:AV):Pg:=
 match x,y with
 | .int k a,.int k' b=>match aax op with
  | true=>iT (0≤b) (.int k (acS k a b))
  | false=>dV (rQ k k') (match GZ op with
  | true=>match rQ k .i64 with
   | true=>arith op a b
   | false=>aaw k op a b
  | false=>match op with
   | .and=>gT (.int k (zU k a b))
   | .or=>gT (.int k (orI k a b))
   | .shr=>iT (0≤b) (.int k (Ce k a b))
   | _=>agr op a b)
 | .bool a,.bool b=>FP cfg t λ ti=>match ti.desc,op with
  | .bool,.eql=>gT (.bool (a==b))
  | .bool,.neq=>gT (.bool (!(a==b)))
  | _,_=>.fail
 | .str a,.str b=>ad5 op a b
 | .agg cs,.agg cs'=>match look cfg.eqs t with
  | some zs=>match J5 zs cs cs',op with
   | some r,.eql=>gT (.bool r)
   | some r,.neq=>gT (.bool (!r))
   | _,_=>.fail
  | none=>.fail
 | _,_=>.fail
def M6:List (Nat×Nat)→Nat→Option (Nat×Nat)
 | [],_=>none
 | x::_,0=>some x
 | _::l,n+1=>M6 l n
def Ej (ti:Ei) (f:Nat):Option (Nat×Nat):=match ti.desc with
 | .struct fs=>M6 fs f
 | _=>none
def U3 (fs:List (Nat×Nat)):List (Nat×AV)→List AV→(List AV→Pg)→Pg
 | [],cs,k=>k cs
 | (i,v)::rest,cs,k=>match M6 fs i with
  | some (off,t)=>FP cfg t λ ti=>Cb v λ vs=>dV (Nat.beq vs.length ti.size) (dV (Nat.ble (off+vs.length) cs.length) (U3 fs rest (yX off vs cs) k))
  | none=>.fail
def yC:Nat→AV→List AV→List AV
 | _,_,[]=>[]
 | 0,v,_::l=>v::l
 | n+1,v,x::l=>x::yC n v l
def Ym (size:Nat) (agg:Bool):List (Nat×AV)→List AV→(List AV→Pg)→Pg
 | [],es,k=>k es
 | (i,v)::rest,es,k=>dV (match agg,v with | true,.agg _=>true | true,_=>false | false,.agg _=>false | false,_=>true)
  (Cb v λ vs=>dV (Nat.beq vs.length size) (dV (Nat.blt i es.length) (Ym size agg rest (yC i v es) k)))
def zeroOf (ti:Ei):AV:=match ti.agg with
 | true=>.agg (tC ti.zero)
 | false=>nth (tC ti.zero) 0
def zok (ti:Ei):Bool:=match Nat.blt 0 ti.size with
 | true=>match ti.agg with
  | true=>true
  | false=>Nat.beq ti.size 1
 | false=>false
def Zc:Nat→AV→List AV
 | 0,_=>[]
 | n+1,z=>z::Zc n z
def G5:List (Nat×AV)→(List (Nat×AV)→List Nat→Pg)→Pg
 | [],k=>k [] []
 | (i,v)::l,k=>Rk fuel v λ v' i1=>G5 l λ l' i2=>k ((i,v')::l') (i1++i2)
def ags (s:AV) (f:Int→Pg) (k:Pg):Pg:=match s with
 | .int _ n=>f n
 | _=>k
def zf (full:Bool) (n:Nat):Bool:=match full with
 | true=>match n with
  | 0=>true
  | _+1=>false
 | false=>false
def Om (x:AV) (lo hi:Option AV) (Tt Sk:Bool):Pg:=
 match lo,hi with
 | none,none=>dV (!Tt) (match x with
  | .sl es n full g=>gT (.sl es n full g)
  | .dA o i n full=>gT (.dA o i n full)
  | _=>.fail)
 | none,some (.int _ h)=>dV (!Tt||Sk) (match x with
  | .sl es n full g=>match zf full n with
   | true=>iT (0≤h∧h≤0) (.sl es 0 true g)
   | false=>iT (0≤h∧h≤n) (.sl es h.toNat Sk g)
  | .dA o i n _=>iT (0≤h∧h≤n) (.dA o i h.toNat Sk)
  | _=>.fail)
 | some (.int _ l),none=>dV (!Tt) (match x with
  | .sl es n full g=>iT (0≤l∧l≤n) (.sl es (n - l.toNat) full (λ j=>g (l.toNat+j)))
  | .dA o i n full=>iT (0≤l∧l≤n) (.dA o (i+l.toNat) (n - l.toNat) full)
  | _=>.fail)
 | some (.int _ l),some (.int _ h)=>dV (!Tt||Sk) (match x with
  | .sl es n _ g=>iT (0≤l∧l≤h∧h≤n) (.sl es (h.toNat - l.toNat) Sk (λ j=>g (l.toNat+j)))
  | .dA o i n _=>iT (0≤l∧l≤h∧h≤n) (.dA o (i+l.toNat) (h.toNat - l.toNat) Sk)
  | _=>.fail)
 | _,_=>.fail
def xw:Option Operand→Option Operand→Bool
 | some (.tmp a),some (.tmp b)=>Nat.beq a b
 | _,_=>false
def Zd (ρ:Operand→AV) (hi mx:Option Operand) (k:Pg):Pg:=
 match mx with
 | none=>k
 | some m=>match hi with
  | none=>.fail
  | some h=>match ρ h,ρ m with
   | .int kk a,.int kk' b=>dV (rQ kk kk') (.need (a=b) k)
   | _,_=>.fail
def LY (x:AV) (k:Nat→Nat→(Nat→AV)→Pg):Pg:=
 match x with
 | .sl es n _ g=>k es n g
 | .dA o i n _=>.rd o λ
  | .row es _ g=>k es n (lT i g)
  | _=>.fail
 | _=>.fail
def Tv:Nat→Bool
 | 0=>true
 | _+1=>false
def FQ (es n size:Nat):Bool:=match Nat.beq es size with | true=>true | false=>Tv n
def big:Nat:=140737488355328
def Ze (i k:Nat) (g h:Nat→AV):Nat→AV:=λ j=>bif Nat.ble i j&&Nat.blt j (i+k) then h (j - i) else g j
def Tw (ti:Ei) (d s:AV):Pg:=
 LY s λ es' m h=>dV (FQ es' m ti.size) (
 match d with
 | .dA o i n _=>.rd o λ
  | .row es N g=>dV (Nat.beq es ti.size) (.need (i+n+m≤N) (.ret (.dA o i (n+m) false) [(o,some (.row es N (Ze (i+n) m g h)))]))
  | _=>.fail
 | _=>.fail)
def isSelf:AV→AV→Bool
 | .dA o _ _ _,.dA o' _ _ _=>Nat.beq o o'
 | _,_=>false
def aaz (o i n N:Nat) (f:Bool) (lo hi mx:Option AV):Pg:=match mx with
 | some (.int _ m)=>match lo,hi with
  | some (.int _ l),some (.int _ h)=>iT (0≤l∧l≤h∧h≤m∧m≤n) .undef
  | none,some (.int _ h)=>iT (0≤h∧h≤m∧m≤0) (.sl 0 0 true eu)
  | _,_=>.fail
 | some _=>.fail
 | none=>match lo,hi with
  | none,none=>gT (.dA o i n f)
  | none,some (.int _ h)=>iT (0≤h∧(i:Int)+h≤N) (.dA o i h.toNat false)
  | some (.int _ l),none=>iT (0≤l∧l≤n) (.dA o (i+l.toNat) (n - l.toNat) f)
  | some (.int _ l),some (.int _ h)=>iT (0≤l∧l≤h∧(i:Int)+h≤N) (.dA o (i+l.toNat) (h.toNat - l.toNat) false)
  | _,_=>.fail
def U4 (ti:Ei) (bW:Nat) (d s:AV):Pg:=
 LY s λ es' m h=>dV (FQ es' m ti.size) (
 match d with
 | .sl es n full g=>dV full (match es with
  | 0=>dV (Tv n) (.need (m*ti.bytes≤big) (.ret (.dA bW 0 m false) [(bW,some (.row ti.size m h))]))
  | es1+1=>dV (FQ (es1+1) n ti.size) (iT ((n+m)*ti.bytes≤big) (.sl ti.size (n+m) false (appG n g h))))
 | .dA o i n _=>.rd o λ
  | .row es _ g=>dV (Nat.beq es ti.size) (.need ((n+m)*ti.bytes≤big) (.ret (.dA bW 0 (n+m) false) [(bW,some (.row es (n+m) (appG n (lT i g) h))),(o,none)]))
  | _=>.fail
 | _=>.fail)
def aaA (ti:Ei) (d s:AV):Pg:=
 LY s λ es' m h=>dV (FQ es' m ti.size) (
 match d with
 | .dA o i n _=>.rd o λ
  | .row es N g=>dV (Nat.beq es ti.size) (.ret (.int .i64 (Nat.min m n:Nat)) [(o,some (.row es N (Ze i (Nat.min m n) g h)))])
  | _=>.fail
 | _=>.fail)
def o9:List Nat→Nat→Nat→Option Nat
 | [],_,_=>none
 | a::l,o,j=>match Nat.beq a o with | true=>some j | false=>o9 l o (j+1)
def lq:AV→Bool
 | .undef | .bool _ | .int .. | .str _ | .sl .. | .ro _ | .wW | .iK | .pm .. => true
 | _=>false
def ah6:AV→List Nat
 | .ptr o _ _=>[o]
 | .dA o _ _ _=>[o]
 | .mref o=>[o]
 | _=>[]
def LZ:List AV→List Nat
 | []=>[]
 | v::l=>ah6 v++LZ l
def Yn (sg:List Nat):List Nat→Bool
 | []=>false
 | o::_=>match o9 sg o 0 with
  | some _=>true
  | none=>false
def aaB (sg:List Nat) (v:AV) (k:AV→Pg):Pg:=match v with
 | .ptr o i off=>match o9 sg o 0 with
  | some j=>k (.ptr j i off)
  | none=>.fail
 | .dA o i n f=>match o9 sg o 0 with
  | some j=>k (.dA j i n f)
  | none=>.fail
 | .mref o=>match o9 sg o 0 with
  | some j=>k (.mref j)
  | none=>.fail
 | v=>dV (lq v) (k v)
def WU (sg:List Nat):List AV→(List AV→Pg)→Pg
 | [],k=>k []
 | v::l,k=>aaB sg v λ v'=>WU sg l λ l'=>k (v'::l')
def El (sg:List Nat) (v:AV) (k:AV→List Nat→Pg):Pg:=
 match v with
 | .ptr o i off=>match o9 sg o 0 with
  | some j=>k (.ptr j i off) []
  | none=>Rk fuel (.ptr o i off) k
 | .dA o i n full=>match o9 sg o 0 with
  | some j=>k (.dA j i n full) []
  | none=>Rk fuel (.dA o i n full) k
 | .mref o=>match o9 sg o 0 with
  | some j=>k (.mref j) []
  | none=>Rk fuel (.mref o) k
 | .fn f cs=>match Yn sg (LZ cs) with
  | true=>WU sg cs λ cs'=>k (.fn f cs') []
  | false=>Rk fuel (.fn f cs) k
 | .agg cs=>match Yn sg (LZ cs) with
  | true=>WU sg cs λ cs'=>k (.agg cs') []
  | false=>Rk fuel (.agg cs) k
 | v=>Rk fuel v k
def yY (sg:List Nat):List AV→(List AV→List Nat→Pg)→Pg
 | [],k=>k [] []
 | v::l,k=>El sg v λ v' i1=>yY sg l λ l' i2=>k (v'::l') (i1++i2)
def Yo:List Nat→(List cu→Pg)→Pg
 | [],k=>k []
 | o::l,k=>.rd o λ ob=>Yo l λ obs=>k (ob::obs)
def sigma (args:List AV):List Nat→List Nat
 | []=>[]
 | p::l=>match nth args p with
  | .ptr o _ _=>o::sigma args l
  | .dA o _ _ _=>o::sigma args l
  | .mref o=>o::sigma args l
  | .fn _ cs=>LZ cs++sigma args l
  | .agg cs=>LZ cs++sigma args l
  | _=>sigma args l
def vv:Nat→List Nat→Bool
 | _,[]=>false
 | a,b::l=>match Nat.beq a b with | true=>true | false=>vv a l
def kN:List Nat→Bool
 | []=>true
 | a::l=>match vv a l with | true=>false | false=>kN l
def OH:AV→Bool
 | .bool _ | .int .. | .str _=>true
 | _=>false
def Tx:List AV→Bool
 | []=>true
 | v::l=>match OH v with | true=>Tx l | false=>false
def OI:AV→Bool
 | .agg vs=>Tx vs
 | v=>OH v
def Tz:List AV→Bool
 | []=>true
 | v::l=>match OI v with | true=>Tz l | false=>false
def aaC:AV→Bool
 | .jg vs=>Tz vs
 | v=>OI v
def fJ:List Nat→Nat→Nat
 | [],_=>0
 | a::_,0=>a
 | _::l,n+1=>fJ l n
def OJ:cu→Bool
 | .map .other [] _=>true
 | _=>false
def agt:cu:=.map .other [] λ _=>none
def gz (x:cu):Option cu:=match OJ x with
 | true=>none
 | false=>some x
def vR:List Nat→List cu→jh
 | o::l,x::m=>(o,gz x)::vR l m
 | _,_=>[]
def acT (f:FuncId):FnI:=match look cfg.fns f with | some i=>i | none=>{}
def rR:List AV→Bool
 | []=>true
 | v::l=>match lq v with | true=>rR l | false=>false
def Oo:cu→Bool
 | .box cs=>rR cs
 | .row .. => true
 | .map .. => false
def agu:AV→Bool
 | .agg vs=>rR vs
 | v=>lq v
def Cg:List Nat→List Nat→Bool
 | [],_=>true
 | x::l,m=>match vv x m with | true=>false | false=>Cg l m
def agv:AV→List Nat
 | .ptr o _ _=>[o]
 | .dA o _ _ _=>[o]
 | .mref o=>[o]
 | .fn _ cs=>LZ cs
 | _=>[]
def ad6:List AV→List Nat
 | []=>[]
 | v::l=>agv v++ad6 l
def agw:cu→List Nat
 | .box cs=>ad6 cs
 | _=>[]
def OL:Nat→List Nat→List Nat→(List Nat→Pg)→Pg
 | 0,_,_,_=>.fail
 | _+1,[],sg,k=>k sg
 | f+1,o::todo,sg,k=>match vv o sg with
  | true=>OL f todo sg k
  | false=>.rd o λ ob=>OL f (todo++agw ob) (sg++[o]) k
def inv1 (sg:List Nat) (v:AV) (k:AV→Pg):Pg:=match v with
 | .ptr o i off=>match o9 sg o 0 with
  | some j=>k (.ptr j i off)
  | none=>.fail
 | .dA o i n f=>match o9 sg o 0 with
  | some j=>k (.dA j i n f)
  | none=>.fail
 | .mref o=>match o9 sg o 0 with
  | some j=>k (.mref j)
  | none=>.fail
 | .fn f cs=>WU sg cs λ cs'=>k (.fn f cs')
 | v=>dV (lq v) (k v)
def acU (sg:List Nat):List AV→(List AV→Pg)→Pg
 | [],k=>k []
 | v::l,k=>inv1 sg v λ v'=>acU sg l λ l'=>k (v'::l')
def agx (sg:List Nat) (x:cu) (k:cu→Pg):Pg:=match x with
 | .box cs=>acU sg cs λ cs'=>k (.box cs')
 | .row es n g=>k (.row es n g)
 | .map kd z f=>k (.map kd z f)
def Yp (sg:List Nat):List cu→(List cu→Pg)→Pg
 | [],k=>k []
 | x::l,k=>agx sg x λ x'=>Yp sg l λ l'=>k (x'::l')
def U5 (sg:List Nat):AV→AV
 | .ptr j i off=>.ptr (fJ sg j) i off
 | .dA j i n full=>.dA (fJ sg j) i n full
 | .mref j=>.mref (fJ sg j)
 | v=>v
def aaD (sg:List Nat):List AV→List AV
 | []=>[]
 | v::l=>U5 sg v::aaD sg l
def yZ (sg:List Nat):AV→AV
 | .ptr j i off=>.ptr (fJ sg j) i off
 | .dA j i n full=>.dA (fJ sg j) i n full
 | .mref j=>.mref (fJ sg j)
 | .fn f cs=>.fn f (aaD sg cs)
 | v=>v
def Zf (sg:List Nat):List AV→List AV
 | []=>[]
 | v::l=>yZ sg v::Zf sg l
def y5 (sg:List Nat):AV→AV
 | .agg cs=>.agg (Zf sg cs)
 | v=>yZ sg v
def U6 (sg:List Nat):List AV→List AV
 | []=>[]
 | v::l=>y5 sg v::U6 sg l
def acV (sg:List Nat):AV→AV
 | .jg vs=>.jg (U6 sg vs)
 | v=>y5 sg v
def Ro (sg:List Nat):cu→cu
 | .box cs=>.box (Zf sg cs)
 | .row es n g=>.row es n g
 | .map kd z f=>.map kd z f
def OO (sg:List Nat):List cu→List cu
 | []=>[]
 | x::l=>Ro sg x::OO sg l
def acW:AV→Bool
 | .ptr .. | .dA .. | .mref _=>true
 | v=>lq v
def okA:List AV→Bool
 | []=>true
 | v::l=>match acW v with | true=>okA l | false=>false
def aaE:AV→Bool
 | .fn _ cs=>okA cs
 | .agg _ | .jg _=>false
 | _=>true
def aaF:List AV→Bool
 | []=>true
 | v::l=>match aaE v with | true=>aaF l | false=>false
def aaG:AV→Bool
 | .agg cs=>aaF cs
 | v=>aaE v
def Yq:List AV→Bool
 | []=>true
 | v::l=>match aaG v with | true=>Yq l | false=>false
def agy:AV→Bool
 | .jg vs=>Yq vs
 | v=>aaG v
def acX:cu→Bool
 | .box cs=>aaF cs
 | .row .. => true
 | .map .. => true
def Yr:List cu→Bool
 | []=>true
 | x::l=>match acX x with | true=>Yr l | false=>false
def iU:Nat→Nat→List Nat
 | 0,_=>[]
 | n+1,i=>i::iU n (i+1)
def Oq (bW:Nat) (f:FuncId) (args:List AV) (sg0:List Nat):Pg:=
 OL 40 sg0 [] λ sg=>dV (kN sg) (Yo sg λ obs=>Yp sg obs λ Zg=>yY sg args λ args' ids=>dV (Cg ids sg)
  (.call f args' Zg λ r dQ=>dV (Yr dQ) (dV (Nat.ble dQ.length (sg.length+stride)) (dV (agy r)
    (.ret (acV (sg++iU (dQ.length - sg.length) bW) r) (vR (sg++iU (dQ.length - sg.length) bW) (OO (sg++iU (dQ.length - sg.length) bW) dQ)++dead ids))))))
def TA (bW:Nat) (f:FuncId) (args:List AV):Pg:=
 match sigma args (acT cfg f).muts with
 | []=>match (acT cfg f).frz with
  | false=>yY [] args λ args' _=>.call f args' [] λ r dQ=>match dQ with
   | []=>dV (aaC r) (gT r)
   | _::_=>.fail
  | true=>Oq bW f args []
 | x::sg=>Oq bW f args (x::sg)
def keyOf:AV→Option kM
 | .str b=>some (.s b)
 | .int .i64 n=>some (.i n)
 | .agg [.int .i64 a,.int .i64 b]=>some (.p a b)
 | _=>none
def WV (z:List ZK) (n:Int):AV:=match z with
 | [.bool]=>.bool (n != 0)
 | [.int k]=>.int k n
 | [.other]=>match n with
  | .ofNat (m+1)=>.fn m []
  | _=>.undef
 | _=>.undef
def aeK (z:List ZK):AV→Option Int
 | .bool b=>match z with
  | [.bool]=>some (bif b then 1 else 0)
  | _=>none
 | .int k n=>match z with
  | [.int k']=>match decide (k=k') with
   | true=>some n
   | false=>none
  | _=>none
 | .fn f []=>match z with
  | [.other]=>some (.ofNat (f+1))
  | _=>none
 | _=>none
def J6:List ZK→Bool
 | [.bool]=>true
 | [.int _]=>true
 | [.other]=>true
 | _=>false
def vS (f:kM→Option Int) (k:kM):Int:=(f k).getD 0
def FR (f:kM→Option Int) (k:kM) (n:Int):kM→Option Int:=λ k'=>if k'=k then some n else f k'
def ad7 (kt:TypeId) (d:TD) (k:Pg):Pg:=match d with
 | .struct [(0,a),(1,b)]=>FP cfg a λ ia=>FP cfg b λ ib=>dV (decide (ia.desc=.int .i64)) (dV (decide (ib.desc=.int .i64)) (dV (decide (look cfg.eqs kt=some [.int .i64,.int .i64])) k))
 | _=>k
def aaH (t:TypeId) (k:Ei→Ei→Pg):Pg:=match look cfg.ty t with
 | some i=>match i.desc with
  | .map kt et=>FP cfg kt λ ki=>FP cfg et λ ei=>dV (!ei.agg) (ad7 cfg kt ki.desc (k ki ei))
  | _=>.fail
 | none=>.fail
def nu (d:TD):kM→Bool
 | .s _=>match d with | .str=>true | _=>false
 | .i _=>match d with | .int .i64=>true | _=>false
 | .p _ _=>match d with | .struct [(0,_),(1,_)]=>true | _=>false
def U7 (z:List ZK) (f:kM→Option Int) (k:kM) (ok:Bool):AV:=match ok with
 | true=>.jg [WV z (vS f k),.bool (f k).isSome]
 | false=>WV z (vS f k)
def OP:TD→Option (Nat×TypeId)
 | .array n e=>some (n,e)
 | _=>none
def aaI (t:TypeId):Option (Nat×TypeId):=match look cfg.ty t with
 | some i=>OP i.desc
 | none=>none
def Yt (et sz:Nat):Nat→Nat→List (Nat×Nat)
 | 0,_=>[]
 | n+1,k=>(k*sz,et)::Yt et sz n (k+1)
def agz:AV→Bool
 | .bool b=>b
 | _=>false
def ah8:AV→Int
 | .int _ n=>n
 | _=>0
def ah9:AV→ByteArray
 | .str s=>s
 | _=>ByteArray.empty
def slN:AV→Nat
 | .sl _ n _ _=>n
 | _=>0
def slG:AV→Nat→AV
 | .sl _ _ _ g=>g
 | _=>λ _=>.undef
def esA:AV→Nat
 | .sl es _ _ _=>es
 | _=>0
def aaJ:List ZK→Nat→ZK
 | [],_=>.other
 | z::_,0=>z
 | _::l,n+1=>aaJ l n
def acY (z:ZK) (es:Nat) (c:AV):Bool:=match z,c with
 | .bool,.bool _=>true
 | .int k,.int k' _=>rQ k k'
 | .str,.str _=>true
 | .slice,.sl es' n _ _=>match Nat.beq es' es with
  | true=>true
  | false=>Nat.beq n 0
 | _,_=>false
def aeL (z:ZK) (es:Nat) (c:AV):AV:=match z with
 | .bool=>.bool (agz c)
 | .int k=>.int k (ah8 c)
 | .str=>.str (ah9 c)
 | .slice=>.sl es (slN c) false (slG c)
 | _=>.undef
def Sl (sz j:Nat):Nat→List AV→Nat
 | _,[]=>0
 | k,c::cs=>match Nat.beq (Nat.mod k sz) j with
  | true=>(λ m=>match Nat.ble (esA c) m with | true=>m | false=>esA c) (Sl sz j (k+1) cs)
  | false=>Sl sz j (k+1) cs
def acZ (zs:List ZK) (sz:Nat) (all:List AV):Nat→List AV→Bool
 | _,[]=>true
 | k,c::cs=>match acY (aaJ zs (Nat.mod k sz)) (Sl sz (Nat.mod k sz) 0 all) c with
  | true=>acZ zs sz all (k+1) cs
  | false=>false
def U8 (all:List AV) (b sz:Nat):Nat→List ZK→List AV
 | _,[]=>[]
 | j,z::zs=>aeL z (Sl sz j 0 all) (nth all (b+j))::U8 all b sz (j+1) zs
def aaK (ei:Ei) (n:Nat) (cs:List AV) (i:Int):Pg:=
 dV (zok ei) (dV (Nat.beq cs.length (n*ei.size)) (dV (Nat.beq ei.zero.length ei.size) (dV (acZ ei.zero ei.size cs 0 cs) (iT (0≤i∧i<n) (match ei.agg with
  | true=>.agg (U8 cs (i.toNat*ei.size) ei.size 0 ei.zero)
  | false=>nth (U8 cs (i.toNat*ei.size) ei.size 0 ei.zero) 0)))))
def WW:Nat→List ZK→List ZK
 | 0,_=>[]
 | n+1,z=>z++WW n z
def iW:Nat→Nat→(Nat→AV)→List AV
 | 0,_,_=>[]
 | k+1,i,g=>(g i).cells++iW k (i+1) g
def aeM:TD→Bool
 | .str=>true
 | _=>false
def aia:AV→Bool
 | .int .u8 _=>true
 | _=>false
def u8D:TD→Bool
 | .int .u8=>true
 | _=>false
def J7:Nat→Nat→(Nat→AV)→ByteArray→ByteArray
 | 0,_,_,s=>s
 | k+1,i,g,s=>J7 k (i+1) g (s.push (UInt8.ofNat (match g i with
  | .int _ n=>n.toNat
  | _=>0)))
def TB (src:TypeId) (x:AV):Pg:=tF cfg src λ ei=>dV (u8D ei.desc) (LY x λ es n g=>dV (FQ es n 1) (.need (∀i,i<n→aia (g i)=true) (gT (.str (J7 n 0 g ByteArray.empty)))))
def aaL (o n:Nat) (lo hi:Option AV):Pg:=
 match lo,hi with
 | none,none=>gT (.dA o 0 n true)
 | none,some (.int _ h)=>iT (0≤h∧h≤n) (.dA o 0 h.toNat false)
 | _,_=>.fail
def eX (b:ByteArray) (i:Nat):Int:=match b[i]? with
 | some x=>x.toNat
 | none=>0
def aeN (bW:Nat) (t t':TypeId) (d:AV) (k:Int):Pg:=FP cfg t' λ ti'=>tF cfg t λ ti=>match ti'.desc,d with
 | .int _,.sl _ n full _=>dV (zf full n) (dV (Nat.blt 0 ti.size) (dV (Nat.blt 0 ti.bytes) (dV (zok ti) (.need (0<k∧k*ti.bytes≤big) (.ret (.dA bW 0 k.toNat false) [(bW,some (.row ti.size k.toNat (λ _=>zeroOf ti)))])))))
 | _,_=>.fail
def Yu (t:TypeId) (x ix y:AV):Pg:=aaH cfg t λ ki ei=>match x,keyOf ix,aeK ei.zero y with
 | .mref o,some k,some n=>dV (nu ki.desc k) (.rd o λ
  | .map kd z f=>dV (decide (kd=ki.desc)) (dV (decide (z=ei.zero)) (dV (J6 z) (.ret .undef [(o,some (.map kd z (FR f k n)))])))
  | _=>.fail)
 | _,_,_=>.fail
def eZ (bW:Nat) (op:Op) (ρ:Operand→AV):Pg:=
 match op with
 | .move x=>gT (ρ x)
 | .assign x=>gT (ρ x)
 | .pick c a b=>WS (ρ c) a b (ρ a) (ρ b)
 | .alloc e=>FP cfg e λ ti=>match OP ti.desc with
  | some (n,et)=>FP cfg et λ ei=>dV (zok ei) (dV (Nat.blt 0 n) (dV (decide (ti.zero=WW n ei.zero)) (.ret (.ptr bW 0 0) [(bW,some (.row ei.size n (λ _=>zeroOf ei)))])))
  | none=>.ret (.ptr bW 0 0) [(bW,some (.box (tC ti.zero)))]
 | .box _ x=>Cb (ρ x) λ cs=>.ret (.ptr bW 0 0) [(bW,some (.box cs))]
 | .build t parts=>FP cfg t λ ti=>match ti.desc with
  | .struct fs=>U3 cfg fs (parts.toList.map λ p=>(p.1,ρ p.2)) (tC ti.zero) λ cs=>gT (.agg cs)
  | .array n et=>FP cfg et λ ei=>U3 cfg (Yt et ei.size n 0) (parts.toList.map λ p=>(p.1,ρ p.2)) (tC ti.zero) λ cs=>gT (.agg cs)
  | _=>.fail
 | .buildSlice t len parts=>tF cfg t λ ti=>dV (zok ti) (dV (Nat.ble (len*ti.size) 4096) (G5 (parts.toList.map λ p=>(p.1,ρ p.2)) λ ps ids=>
   Ym ti.size ti.agg ps (Zc len (zeroOf ti)) λ es=>
   .ret (.dA bW 0 len true) ((bW,some (.row ti.size len (OG es)))::dead ids)))
 | .load t a=>FP cfg t λ ti=>match ρ a with
  | .ptr o i off=>.rd o λ
   | .box cs=>uq ti (cs.drop off)
   | .row es n g=>match OP ti.desc with
    | some _=>dV (Tv i&&Tv off) (uq ti (iW n 0 g))
    | none=>dV (Nat.ble (off+ti.size) es) (uq ti ((g i).cells.drop off))
   | .map .. => .fail
  | .ro cs=>uq ti cs
  | _=>.fail
 | .store t a x=>FP cfg t λ ti=>match ρ a with
  | .ptr o i off=>.rd o λ
   | .box cs=>Cb (ρ x) λ vs=>dV (Nat.beq vs.length ti.size) (dV (Nat.ble (off+vs.length) cs.length) (.ret .undef [(o,some (.box (yX off vs cs)))]))
   | .row es n g=>match OP ti.desc with
    | some _=>Rk fuel (ρ x) λ x' ids=>dV (!vv o ids) (Cb x' λ vs=>dV (Nat.beq vs.length ti.size) (dV (Nat.beq es 1) (dV (Nat.beq n ti.size) (dV (Tv i&&Tv off) (.ret .undef ((o,some (.row 1 n (OG vs)))::dead ids))))))
    | none=>Rk fuel (ρ x) λ x' ids=>dV (!vv o ids) (Cb x' λ vs=>dV (Nat.beq vs.length ti.size) (dV (Nat.blt 0 ti.size) (dV (Nat.ble (off+vs.length) es)
     (.ret .undef ((o,some (.row es n (U1 g i (match Tv off&&Nat.beq vs.length es with
       | true=>x'
       | false=>match g i with
        | .agg cs=>.agg (yX off vs cs)
        | _=>x'))))::dead ids)))))
   | .map .. => .fail
  | _=>.fail
 | .nilCheck x=>match ρ x with
  | .ptr o i off=>.rd o λ _=>gT (.ptr o i off)
  | .ro cs=>gT (.ro cs)
  | .fn f cs=>gT (.fn f cs)
  | _=>.fail
 | .binOp op t x y _=>aay cfg op t (ρ x) (ρ y)
 | .unOp op _ x=>match op,ρ x with
  | .not,.bool b=>gT (.bool (!b))
  | .neg,.int k n=>dV (rQ k .i64) (iT (aG (-n)) (.int .i64 (-n)))
  | _,_=>.fail
 | .convert src dst x=>FP cfg src λ _=>FP cfg dst λ ti=>match aeM ti.desc with
  | true=>TB cfg src (ρ x)
  | false=>match ti.desc,ρ x with
   | .int k,.int _ n=>gT (.int k (k.wrap n))
   | _,_=>.fail
 | .makeFunc fn first captured=>match fn,first.toList with
  | .func f,[]=>dV (Nat.blt f FN) (gT (.fn f (captured.toList.map ρ)))
  | _,_=>.fail
 | .makeSlice t l c=>tF cfg t λ ti=>match ρ l with
  | .int _ n=>match xw (some l) (some c) with
   | true=>dV (Nat.blt 0 ti.bytes) (dV (zok ti) (.need (0≤n∧n*ti.bytes≤big) (.ret (.dA bW 0 n.toNat true) [(bW,some (.row ti.size n.toNat (λ _=>zeroOf ti)))])))
   | false=>match ρ c with
    | .int _ k=>dV (Nat.blt 0 ti.bytes) (dV (zok ti) (.need (n=0∧0≤k∧k*ti.bytes≤big) (.ret (.dA bW 0 0 false) [(bW,some (.row ti.size 0 eu))])))
    | _=>.fail
  | _=>.fail
 | .slice t x lo hi mx=>match aaI cfg t with
  | some (n,et)=>FP cfg et λ ei=>dV mx.isNone (match ρ x with
   | .ptr o i off=>.rd o λ
    | .row es n' _=>dV (Tv i&&Tv off) (dV (Nat.beq es ei.size) (dV (Nat.beq n' n) (aaL o n (lo.map ρ) (hi.map ρ))))
    | _=>.fail
   | _=>.fail)
  | none=>match ρ x with
  | .dA o i n f=>tF cfg t λ ti=>.rd o λ
   | .row es N _=>dV (Nat.beq es ti.size) (aaz o i n N f (lo.map ρ) (hi.map ρ) (mx.map ρ))
   | _=>.fail
  | _=>Zd ρ hi mx<|tF cfg t λ ti=>match ρ x with
   | .sl es n f g=>dV (FQ es n ti.size) (Om (.sl es n f g) (lo.map ρ) (hi.map ρ) mx.isSome mx.isSome)
   | .dA o i n f=>.rd o λ
    | .row es _ _=>dV (Nat.beq es ti.size) (Om (.dA o i n f) (lo.map ρ) (hi.map ρ) mx.isSome mx.isSome)
    | _=>.fail
   | _=>.fail
 | .fieldAddr s x f=>FP cfg s λ ts=>match Ej ts f with
  | some (o,t)=>FP cfg t λ ti=>dV (Nat.blt 0 ti.size) (match ρ x with
   | .ptr ob i off=>.rd ob λ _=>gT (.ptr ob i (off+o))
   | .ro cs=>gT (.ro (cs.drop o))
   | _=>.fail)
  | none=>.fail
 | .field s x f=>FP cfg s λ ts=>match Ej ts f with
  | some (o,t)=>FP cfg t λ ti=>match ρ x with
   | .agg cs=>uq ti (cs.drop o)
   | _=>.fail
  | none=>.fail
 | .indexAddr t x ix=>match aaI cfg t with
  | some (n,et)=>FP cfg et λ ei=>match ρ ix,ρ x with
   | .int _ i,.ptr o j off=>.rd o λ
    | .row es n' _=>dV (Tv j&&Tv off) (dV (Nat.beq es ei.size) (dV (Nat.beq n' n) (iT (0≤i∧i<n) (.ptr o i.toNat 0))))
    | _=>.fail
   | _,_=>.fail
  | none=>tF cfg t λ ti=>match ρ ix with
  | .int _ i=>match ρ x with
   | .sl es n _ g=>dV (FQ es n ti.size) (iT (0≤i∧i<n) (.ro (g i.toNat).cells))
   | .dA o j n _=>.rd o λ
    | .row es _ _=>dV (Nat.beq es ti.size) (iT (0≤i∧i<n) (.ptr o (addN j i.toNat) 0))
    | _=>.fail
   | _=>.fail
  | _=>.fail
 | .index t x ix=>FP cfg t λ ti=>match ti.desc,ρ x,ρ ix with
  | .str,.str b,.int _ i=>iT (0≤i∧i<b.size) (.int .u8 (eX b i.toNat))
  | .array n et,.agg cs,.int _ i=>FP cfg et λ ei=>aaK ei n cs i
  | _,_,_=>.fail
 | .makeMap t none=>aaH cfg t λ ki ei=>.ret (.mref bW) [(bW,some (.map ki.desc ei.zero λ _=>none))]
 | .lookup t x ix ok=>aaH cfg t λ ki ei=>(match ρ x,keyOf (ρ ix) with
  | .mref o,some k=>dV (nu ki.desc k) (.rd o λ
   | .map kd z f=>dV (decide (kd=ki.desc)) (dV (decide (z=ei.zero)) (dV (J6 z) (gT (U7 z f k ok))))
   | _=>.fail)
  | .pm kd z f,some k=>dV (nu ki.desc k) (dV (decide (kd=ki.desc)) (dV (decide (z=ei.zero)) (dV (J6 z) (gT (U7 z f k ok)))))
  | _,_=>.fail)
 | .mapUpdate t x ix y=>Yu cfg t (ρ x) (ρ ix) (ρ y)
 | .insert t x ix y=>Yu cfg t (ρ x) (ρ ix) (ρ y)
 | .extract t i=>match ρ t with
  | .jg vs=>dV (Nat.blt i vs.length) (gT (nth vs i))
  | _=>.fail
 | .call c=>match c.callee with
  | .builtin .len=>match c.args.toList.map ρ,c.argTypes.toList with
   | [v],[t]=>FP cfg t λ ti=>match v,ti.desc with
    | .sl _ n _ _,.slice _=>gT (.int .i64 n)
    | .dA o _ n _,.slice _=>.rd o λ _=>gT (.int .i64 n)
    | .str s,.str=>gT (.int .i64 s.size)
    | _,_=>.fail
   | _,_=>.fail
  | .builtin .cap=>match c.args.toList.map ρ,c.argTypes.toList with
   | [.sl _ n true _],[t]=>FP cfg t λ ti=>match ti.desc with
    | .slice _=>gT (.int .i64 n)
    | _=>.fail
   | _,_=>.fail
  | .builtin .append=>match c.args.toList.map ρ,c.argTypes.toList with
   | [d,s],[t,t']=>ags s (aeN cfg bW t t' d)
    (tF cfg t' λ _=>tF cfg t λ ti=>dV (Nat.blt 0 ti.size) (dV (Nat.blt 0 ti.bytes) (match isSelf d s with | true=>Tw ti d s | false=>U4 ti bW d s)))
   | _,_=>.fail
  | .builtin .copy=>match c.args.toList.map ρ,c.argTypes.toList with
   | [d,s],[t,t']=>tF cfg t' λ _=>tF cfg t λ ti=>dV (Nat.blt 0 ti.size) (aaA ti d s)
   | _,_=>.fail
  | .builtin .clear=>match c.args.toList.map ρ,c.argTypes.toList with
   | [.dA o i n _],[t]=>tF cfg t λ ti=>dV (zok ti) (.rd o λ
    | .row es N g=>dV (Nat.beq es ti.size) (.ret .undef [(o,some (.row es N (Ze i n g (λ _=>zeroOf ti))))])
    | _=>.fail)
   | _,_=>.fail
  | .builtin .min=>match c.args.toList.map ρ with
   | [.int k a,.int _ b]=>gT (.int k (if b<a then b else a))
   | _=>.fail
  | .builtin .max=>match c.args.toList.map ρ with
   | [.int k a,.int _ b]=>gT (.int k (if b > a then b else a))
   | _=>.fail
  | .builtin _=>.fail
  | .value f=>match ρ f with
   | .fn g caps=>dV (Nat.blt g FN) (TA cfg bW g (c.args.toList.map ρ++caps))
   | _=>.fail
  | .invoke x m=>match ρ x with
   | .fn f cs=>dV (Nat.ble FN f) (match WT cfg (f - FN) m with
    | some g=>TA cfg bW g (.agg cs::c.args.toList.map ρ)
    | none=>.fail)
   | _=>.fail
 | .makeInterface t x=>FP cfg t λ ti=>match ti.agg,ρ x with
  | true,.agg cs=>gT (.fn (FN+t) cs)
  | _,_=>.fail
 | .typeAssert x _ t true=>FP cfg t λ ti=>match ti.agg,ρ x with
  | true,.fn f cs=>match Nat.beq f (FN+t) with
   | true=>gT (.jg [.agg cs,.bool true])
   | false=>dV (Nat.ble FN f) (gT (.jg [.undef,.bool false]))
  | _,_=>.fail
 | _=>.fail
def J8 (T:Nat→AV):Operand→AV
 | .tmp t=>T t
 | .const v=>ofConst v
 | .global g=>match look cfg.glob g with | some cs=>.ro cs | none=>.undef
 | .func f=>match Nat.blt f FN with | true=>.fn f [] | false=>.undef
end ops
abbrev kL:=FuncId→List AV→List cu→AV→List cu→Prop
structure Log where
 rT:List Nat
 WX:List Nat
structure St where
 tmps:List (Nat×AV)
 heap:jh
 nx:Nat
abbrev PC:=List (Bool×Bool)
def Zh:PC→Prop→(Prop→Prop)→Prop
 | [],p,K=>K p
 | (c,b)::l,p,K=>Zh l (c=b→p) K
section run
variable (cfg:qz) (Sp:kL)
def ids:jh→List Nat
 | []=>[]
 | (o,_)::l=>o::ids l
def ev (pc:PC) (H:Nat→Option cu):Pg→List Nat→(AV→jh→List Nat→Prop)→Prop
 | .ret v ups,rT,K=>force v λ v'=>vQ ups λ ql=>K v' ql rT
 | @Pg.need p _ k,rT,K=>Zh pc p λ p'=>p'∧ev pc H k rT K
 | .rd o k,rT,K=>match H o with
  | some x=>ev pc H (k x) (o::rT) K
  | none=>Zh pc False λ p'=>p'∧K .undef [] rT
 | .call f args obs k,rT,K=>∃r dQ,Zh pc (Sp f args obs r dQ) λ p'=>p'∧ev pc H (k r dQ) rT K
 | .fail,rT,K=>Zh pc False λ p'=>p'∧K .undef [] rT
def Fb:AV→AV
 | .iK=>.sl 0 0 true eu
 | v=>v
def J9:Operand→Bool
 | .const (.slice none 0 0)=>true
 | _=>false
def aaM (op:BinOp) (v:AV):Pg:=match v with
 | .iK=>match op with
  | .eql=>gT (.bool true)
  | .neq=>gT (.bool false)
  | _=>.fail
 | .sl _ n _ _=>match op with
  | .eql=>iT (0<n) (.bool false)
  | .neq=>iT (0<n) (.bool true)
  | _=>.fail
 | .dA o _ n _=>.rd o λ _=>match op with
  | .eql=>iT (0<n) (.bool false)
  | .neq=>iT (0<n) (.bool true)
  | _=>.fail
 | _=>.fail
def pR (bW:Nat) (op:Op) (ρ:Operand→AV):Pg:=match op with
 | .move x=>gT (ρ x)
 | .assign x=>match J9 x with
  | true=>gT .iK
  | false=>gT (ρ x)
 | .binOp b t x y t'=>match J9 y with
  | true=>match t with
   | t=>tF cfg t λ _=>aaM b (ρ x)
  | false=>eZ cfg bW (.binOp b t x y t') (λ x=>Fb (ρ x))
 | op=>eZ cfg bW op (λ x=>Fb (ρ x))
def WY:PC→Bool
 | []=>true
 | (c,b)::l=>(c==b)&&WY l
def Yv:Op→Bool
 | .move _ | .assign _ | .pick .. | .build .. | .load .. | .nilCheck _ | .binOp .. | .unOp .. | .convert .. | .makeFunc .. | .slice .. | .fieldAddr .. | .field .. | .indexAddr .. | .index .. | .lookup .. | .extract .. => true
 | .call c=>match c.callee with
  | .builtin .len | .builtin .min | .builtin .max=>true
  | .value (.func f)=>match (acT cfg f).muts,(acT cfg f).frz with | [],false=>true | _,_=>false
  | _=>false
 | _=>false
def Fe (c:Bool) (A B:Prop):Prop:=match c with | true=>A | false=>B
def Sm:List Oper→Nat→Option Oper
 | [],_=>none
 | o::_,0=>some o
 | _::l,n+1=>Sm l n
def L6 (all:List Oper) (j:Nat):Option Nat:=match Sm all j with
 | some o=>o.dst
 | none=>none
def Zi (ups H:jh) (K:jh→Prop):Prop:=
 match ups with
 | []=>K H
 | u::l=>Zi l H λ H'=>K (u::H')
def WZ (dst:Option Nat) (v u:AV) (T U:List (Nat×AV)) (K:List (Nat×AV)→List (Nat×AV)→Prop):Prop:=
 match dst with
 | some d=>K ((d,v)::T) ((d,u)::U)
 | none=>K T U
def Ch:List PC→Nat→PC
 | [],_=>[]
 | p::_,0=>p
 | _::l,n+1=>Ch l n
def W9:List PC→Nat→(PC→Prop)→Prop
 | [],_,K=>K []
 | p::_,0,K=>K p
 | _::l,n+1,K=>W9 l n K
def zV:List PC→PC→(List PC→Prop)→Prop
 | [],p,K=>K [p]
 | q::l,p,K=>zV l p λ l'=>K (q::l')
def isNone {α:Type}:Option α→Bool
 | none=>true
 | some _=>false
def Rp (all:List Oper) (nx:Nat):List Oper→Nat→List (Nat×AV)→List (Nat×AV)→jh→List PC→List Log→(St→List Log→Prop)→Prop
 | [],i,_,U,H,_,log,K=>K ⟨U,H,nx+stride*i⟩ log
 | o::rest,i,T,U,H,UU,log,K=>
  match o.guard with
  | none=>ev Sp [] (hget H) (pR cfg (nx+stride*i) o.op (J8 cfg (fV T))) [] λ v ups rT=>
    WZ o.dst v v T U λ T' U'=>Zi ups H λ H'=>zV UU [] λ OQ=>Rp all nx rest (i+1) T' U' H' OQ (⟨rT,ids ups⟩::log) K
  | some (j,b)=>match L6 all j with
   | some d=>match fV T d with
    | .bool c=>match Yv cfg o.op with
     | true=>W9 UU j λ pcj=>ev Sp ((c,b)::pcj) (hget H) (pR cfg (nx+stride*i) o.op (J8 cfg (fV T))) [] λ v ups rT=>
      match ups with
      | []=>WZ o.dst v .undef T U λ T' U'=>zV UU ((c,b)::pcj) λ OQ=>Rp all nx rest (i+1) T' U' H OQ (⟨rT,[]⟩::log) K
      | _::_=>False
     | false=>match Ch UU j with
      | []=>Fe (c==b)
       (ev Sp [] (hget H) (pR cfg (nx+stride*i) o.op (J8 cfg (fV T))) [] λ v ups rT=>
         WZ o.dst v v T U λ T' U'=>Zi ups H λ H'=>zV UU [] λ OQ=>Rp all nx rest (i+1) T' U' H' OQ (⟨rT,ids ups⟩::log) K)
       (WZ o.dst .undef .undef T U λ T' U'=>zV UU [(c,b)] λ OQ=>Rp all nx rest (i+1) T' U' H OQ (⟨[],[]⟩::log) K)
      | q::pcj=>Fe ((c==b)&&WY (q::pcj))
       (ev Sp [] (hget H) (pR cfg (nx+stride*i) o.op (J8 cfg (fV T))) [] λ v ups rT=>
         WZ o.dst v v T U λ T' U'=>Zi ups H λ H'=>zV UU [] λ OQ=>Rp all nx rest (i+1) T' U' H' OQ (⟨rT,ids ups⟩::log) K)
       (WZ o.dst .undef .undef T U λ T' U'=>zV UU ((c,b)::q::pcj) λ OQ=>Rp all nx rest (i+1) T' U' H OQ (⟨[],[]⟩::log) K)
    | _=>False
   | none=>False
def OT (all:List Oper) (i:Nat):Option (Nat×Bool):=match Sm all i with
 | some o=>o.guard
 | none=>none
def chain (all:List Oper):Nat→Option (Nat×Bool)→List (Nat×Bool)
 | 0,_=>[]
 | _+1,none=>[]
 | f+1,some (j,b)=>(j,b)::chain all f (OT all j)
def Yw (d:Option Nat) (t:Nat):Bool:=match d with
 | some x=>Nat.beq x t
 | none=>false
def pU (t:Nat):List Oper→Nat→List Nat
 | [],_=>[]
 | o::l,i=>match Yw o.dst t with
  | true=>i::pU t l (i+1)
  | false=>pU t l (i+1)
def writers (all:List Oper) (t:Nat):List Nat:=pU t all 0
def Ot (all:List Oper):List Nat→Bool
 | []=>true
 | i::l=>match OT all i with
  | none=>Ot all l
  | some _=>false
def eqB:Bool→Bool→Bool
 | true,true=>true
 | false,false=>true
 | _,_=>false
def ac1 (j:Nat) (b:Bool):List (Nat×Bool)→Bool
 | []=>false
 | (j',b')::l=>match Nat.beq j j',eqB b b' with
  | true,true=>true
  | _,_=>ac1 j b l
def TF (all:List Oper) (k:Nat) (g:Option (Nat×Bool)) (t:Nat):Bool:=
 match writers all t with
 | [i]=>match OT all i with
  | none=>true
  | some (j,b)=>match Nat.blt i k with
   | true=>ac1 j b (chain all 20 g)
   | false=>false
 | l=>Ot all l
def Yx (all:List Oper) (k:Nat) (g:Option (Nat×Bool)) (c:Operand) (pol:Bool) (x:Operand):Bool:=
 match x with
 | .tmp t=>match TF all k g t with
  | true=>true
  | false=>match c,writers all t with
   | .tmp ct,[i]=>match OT all i,writers all ct,Nat.blt i k with
    | some (j,b),[jc],true=>match Nat.beq j jc,Nat.blt jc k with
     | true,true=>eqB b pol
     | _,_=>false
    | _,_,_=>false
   | _,_=>false
 | _=>true
def Em (all:List Oper) (k:Nat) (g:Option (Nat×Bool)):Operand→Bool
 | .tmp t=>TF all k g t
 | _=>true
def zW (all:List Oper) (k:Nat) (g:Option (Nat×Bool)):List Operand→Bool
 | []=>true
 | x::l=>match Em all k g x with
  | true=>zW all k g l
  | false=>false
def U9 (all:List Oper) (k:Nat) (o:Oper):Bool:=
 match (match o.guard with
  | none=>true
  | some (j,_)=>match Nat.blt j k with
   | true=>match L6 all j with
    | some d=>match writers all d with
         | [j']=>Nat.beq j' j
         | _=>false
    | none=>false
   | false=>false) with
 | true=>match o.op with
  | .pick c x y=>match Em all k o.guard c,Yx all k o.guard c true x with
   | true,true=>Yx all k o.guard c false y
   | _,_=>false
  | op=>zW all k o.guard op.operands.toList
 | false=>false
def ny (N:Nat) (all:List Oper):List Oper→Nat→Bool
 | [],_=>true
 | o::l,k=>match U9 all k o,(match o.dst with | some d=>Nat.blt d N | none=>true) with
  | true,true=>ny N all l (k+1)
  | _,_=>false
def before (all:List Oper):Nat→Nat→Nat→Bool
 | 0,_,_=>false
 | f+1,i,j=>match Sm all j with
  | some o=>o.after.toList.any λ e=>Region.binds .any e&&Nat.blt e.on j&&(Nat.beq e.on i||before all f i e.on)
  | none=>false
def looks (all:List Oper) (o:Oper):List Nat:=
 (o.op.operands.toList.filterMap λ | .tmp t=>some t | _=>none)++(match o.guard with | some (j,_)=>(L6 all j).toList | none=>[])
def isIn (d:Option Nat) (l:List Nat):Bool:=match d with
 | some x=>vv x l
 | none=>false
def OU (all:List Oper) (x y:Oper):Bool:=!isIn x.dst (looks all y)&&!isIn y.dst (looks all x)&&!isIn x.dst y.dst.toList
def Ci (all:List Oper) (j:Nat) (oj:Oper):List Oper→Nat→Bool
 | [],_=>true
 | o::l,i=>match Nat.blt i j with
  | true=>(OU all o oj||before all 40 i j)&&Ci all j oj l (i+1)
  | false=>true
def TG (o:Oper) (k:Nat):Bool:=o.after.toList.all λ e=>!Region.binds .any e||Nat.blt e.on k
def Ka (all:List Oper):List Oper→Nat→Bool
 | [],_=>true
 | o::l,j=>TG o j&&Ci all j o all 0&&Ka all l (j+1)
def aaN (N:Nat) (all:List Oper) (draw:Bool):Bool:=ny N all all 0&&(!draw||Ka all all 0)
def gK (N:Nat):Code→Bool
 | .region _ ops draw=>aaN N ops.toList draw
 | .seq a b=>gK N a&&gK N b
 | .cond _ a b=>gK N a&&gK N b
 | .block _ a=>gK N a
 | .loop a=>gK N a
 | .rangeFunc _ _ a b=>gK N a&&gK N b
 | .skip | .exit _ | .ret=>true
 | _=>false
def meets (l m:List Nat):Bool:=match l with
 | []=>false
 | x::l'=>match vv x m with
  | true=>true
  | false=>meets l' m
def Kc (all:List Oper) (j:Nat) (x:Log):List Log→Nat→Bool
 | [],_=>true
 | _::_,0=>true
 | y::l,i+1=>match meets x.WX y.rT,meets y.WX x.rT,meets y.WX x.WX with
  | false,false,false=>Kc all j x l i
  | _,_,_=>match before all 40 i j with
   | true=>Kc all j x l i
   | false=>false
def zS (all:List Oper):List Log→Nat→Bool
 | [],_=>true
 | _::_,0=>true
 | x::l,j+1=>match Kc all j x l j with
  | true=>zS all l j
  | false=>false
def Ou:Code→Nat
 | .region id _ _=>id
 | .seq a _=>Ou a
 | .block _ a=>Ou a
 | .loop a=>Ou a
 | _=>1000000
def ji (ct:List Nat) (L:Code→St→(Exit→St→Prop)→Prop):Code→St→(Exit→St→Prop)→Prop
 | .skip,s,K=>K .normal s
 | .region _ ops draw,⟨T,H,nx⟩,K=>Rp cfg Sp ops.toList nx ops.toList 0 T T H [] [] λ s' log=>
  match draw with
  | true=>match zS ops.toList log ops.toList.length with
   | true=>K .normal s'
   | false=>False
  | false=>K .normal s'
 | .seq a b,s,K=>match vv (Ou b) ct with
  | true=>L (.seq a b) s K
  | false=>ji ct L a s λ e s'=>match e with
   | .normal=>ji ct L b s' K
   | e=>K e s'
 | .cond c x y,s,K=>match J8 cfg (fV s.tmps) c with
  | .bool b=>Fe b (ji ct L x s K) (ji ct L y s K)
  | _=>False
 | .block id c,s,K=>ji ct L c s λ e s'=>match e with
  | .exit i=>match Nat.beq i id with
   | true=>K .normal s'
   | false=>K (.exit i) s'
  | e=>K e s'
 | .loop c,s,K=>L (.loop c) s K
 | .rangeFunc g ps a b,s,K=>L (.rangeFunc g ps a b) s K
 | .exit id,s,K=>K (.exit id) s
 | .ret,s,K=>K .ret s
 | _,_,_=>False
end run
inductive Le:AV→AV→Prop
 | refl (v:AV):Le v v
 | sl {es es' n n':Nat} {f f':Bool} {g g':Nat→AV} (hn:n=n') (he:n≠0→es=es') (hf:f'=true→f=true) (h:∀i,i<n→Le (g i) (g' i)):Le (.sl es n f g) (.sl es' n' f' g')
 | ro {cs cs':List AV} (hl:cs.length=cs'.length) (h:∀j,j<cs.length→Le (nth cs j) (nth cs' j)):Le (.ro cs) (.ro cs')
 | agg {cs cs':List AV} (hl:cs.length=cs'.length) (h:∀j,j<cs.length→Le (nth cs j) (nth cs' j)):Le (.agg cs) (.agg cs')
 | jg {cs cs':List AV} (hl:cs.length=cs'.length) (h:∀j,j<cs.length→Le (nth cs j) (nth cs' j)):Le (.jg cs) (.jg cs')
 | fn {f:FuncId} {cs cs':List AV} (hl:cs.length=cs'.length) (h:∀j,j<cs.length→Le (nth cs j) (nth cs' j)):Le (.fn f cs) (.fn f cs')
def Fg:List AV→List AV→Prop
 | [],[]=>True
 | u::l,v::m=>Le u v∧Fg l m
 | _,_=>False
def LeO:cu→cu→Prop
 | .box cs,.box cs'=>Fg cs cs'
 | .row es n g,.row es' n' g'=>es=es'∧n=n'∧∀i,i<n→Le (g i) (g' i)
 | .map kd z f,.map kd' z' f'=>kd=kd'∧z=z'∧f=f'
 | _,_=>False
def aeP:List cu→List cu→Prop
 | [],[]=>True
 | x::l,y::m=>LeO x y∧aeP l m
 | _,_=>False
def nM (ρ:List (Nat×Option Nat)) (o:Nat):Option Nat:=match look ρ o with
 | some x=>x
 | none=>some o
def L8 (H:jh) (o:Nat):Bool:=match hget H o with
 | some _=>true
 | none=>false
def jE (ρ:List (Nat×Option Nat)) (H':jh):Nat→AV→AV→Prop
 | 0,_,_=>False
 | f+1,u,v=>match v with
  | .undef=>True
  | .bool b'=>match u with | .bool b=>b=b' | _=>False
  | .int k' n'=>match u with | .int k n=>k=k'∧n=n' | _=>False
  | .str s'=>match u with | .str s=>s=s' | _=>False
  | .wW=>match u with | .wW=>True | _=>False
  | .iK=>match u with | .iK=>True | _=>False
  | .mref o'=>match u with | .mref o=>L8 H' o'=true∧nM ρ o'=some o | _=>False
  | .pm a' b' c'=>match u with | .pm a b c=>a=a'∧b=b'∧c=c' | _=>False
  | .sl es' n' f' g'=>match u with
   | .sl es n fu g=>n=n'∧(n≠0→es=es')∧(f'=true→fu=true)∧∀i,i<n→Le (g i) (g' i)
   | .iK=>0=n'∧(0≠0→0=es')∧(f'=true→true=true)∧∀i,i<0→Le (eu i) (g' i)
   | _=>False
  | .ro cs'=>match u with | .ro cs=>Fg cs cs' | _=>False
  | .ptr o' i' off'=>match u with
   | .ptr o i off=>L8 H' o'=true∧nM ρ o'=some o∧i=i'∧off=off'
   | _=>False
  | .dA o' i' n' f'=>match u with
   | .dA o i n fu=>L8 H' o'=true∧nM ρ o'=some o∧i=i'∧n=n'∧(f'=true→fu=true)
   | .sl _ n fu _=>L8 H' o'=true∧nM ρ o'=none∧fu=true∧n=0∧i'=0∧n'=0
   | .iK=>L8 H' o'=true∧nM ρ o'=none∧true=true∧0=0∧i'=0∧n'=0
   | _=>False
  | .agg cs'=>match u with | .agg cs=>G6 f cs cs' | _=>False
  | .fn f' cs'=>match u with | .fn fu cs=>fu=f'∧G6 f cs cs' | _=>False
  | .jg cs'=>match u with | .jg cs=>G6 f cs cs' | _=>False
 where
 G6:Nat→List AV→List AV→Prop
  | 0,_,_=>False
  | _+1,[],[]=>True
  | f+1,u::l,v::m=>jE ρ H' f u v∧G6 f l m
  | _+1,_,_=>False
def aeQ (ρ:List (Nat×Option Nat)) (H':jh) (T:List (Nat×AV)):List (Nat×AV)→Prop
 | []=>True
 | (t,v)::l=>jE ρ H' fuel (fV T t) v∧aeQ ρ H' T l
def Va (ρ:List (Nat×Option Nat)) (H':jh) (x y:cu):Prop:=
 match x,y with
 | .box cs,.box cs'=>jE.G6 ρ H' fuel cs cs'
 | .row es n g,.row es' n' g'=>es=es'∧n=n'∧∀i,i<n→Le (g i) (g' i)
 | .map kd z f,.map kd' z' f'=>kd=kd'∧z=z'∧f=f'
 | _,_=>False
def aaO (ρ:List (Nat×Option Nat)) (H' H:jh):jh→Prop
 | []=>True
 | (_,none)::l=>aaO ρ H' H l
 | (o',some y)::l=>(match nM ρ o' with
  | some o=>match hget H o with
   | some x=>Va ρ H' x y
   | none=>False
  | none=>match y with
   | .row _ n _=>n=0
   | _=>False)∧aaO ρ H' H l
def OV (ρ:List (Nat×Option Nat)):jh→List Nat
 | []=>[]
 | (_,none)::l=>OV ρ l
 | (o',some _)::l=>match nM ρ o' with
  | some o=>o::OV ρ l
  | none=>OV ρ l
def FT (m nx:Nat) (ρ:List (Nat×Option Nat)):jh→Bool
 | []=>true
 | (o',_)::l=>match Nat.blt o' nx with
  | true=>match nM ρ o' with
   | some o=>match Nat.beq o o' with
    | true=>FT m nx ρ l
    | false=>match Nat.ble m o' with
     | true=>FT m nx ρ l
     | false=>false
   | none=>match Nat.ble m o' with
    | true=>FT m nx ρ l
    | false=>false
  | false=>false
def ad9:jh→Bool
 | []=>true
 | (o,_)::l=>match look l o with
  | some _=>false
  | none=>ad9 l
def Xa (m:Nat) (ρ:List (Nat×Option Nat)) (s':St):Bool:=
 match FT m s'.nx ρ s'.heap,kN (OV ρ s'.heap),ad9 s'.heap with
 | true,true,true=>Nat.ble m s'.nx
 | _,_,_=>false
structure Emb (m:Nat) (ρ:List (Nat×Option Nat)) (s s':St):Prop where
 zS:Xa m ρ s'=true
 tmps:aeQ ρ s'.heap s.tmps s'.tmps
 heap:aaO ρ s'.heap s.heap s'.heap
def upTo:Nat→Nat→List Nat
 | 0,_=>[]
 | n+1,i=>i::upTo n (i+1)
def AO (cfg:qz) (s:St):List ResultVar→Option (List AV)
 | []=>some []
 | .tmp t::l=>match AO cfg s l with
  | some vs=>some (fV s.tmps t::vs)
  | none=>none
 | .cell ad ty::l=>match AO cfg s l,fV s.tmps ad,look cfg.ty ty with
  | some vs,.ptr o 0 0,some ti=>match hget s.heap o with
   | some (.box cs)=>match ti.agg with
    | true=>match Nat.ble ti.size cs.length with
     | true=>some (.agg (cs.take ti.size)::vs)
     | false=>none
    | false=>match cs with
     | c::_=>some (c::vs)
     | []=>none
   | some (.row _ n g)=>match OP ti.desc,ti.agg with
    | some _,true=>match iW n 0 g with
     | cs=>match Nat.ble ti.size cs.length with
      | true=>some (.agg (cs.take ti.size)::vs)
      | false=>none
    | _,_=>none
   | _=>none
  | _,_,_=>none
def oneOf:List AV→AV
 | [v]=>v
 | vs=>.jg vs
def TH (m:Nat) (r:AV):AV→List Nat
 | .ptr o _ _=>match Nat.ble m o with
  | true=>[o]
  | false=>[]
 | .dA o _ _ _=>match r with
  | .dA .. => match Nat.ble m o with
   | true=>[o]
   | false=>[]
  | _=>[]
 | _=>[]
def OW (H:jh):List Nat→List cu→Prop
 | [],[]=>True
 | o::l,y::ys=>(match hget H o with
  | some x=>match Oo x with
   | true=>Va [] [] x y
   | false=>False
  | none=>False)∧OW H l ys
 | _,_=>False
def zX (cfg:qz) (Sp:kL) (rs:List ResultVar) (m:Nat) (r:AV) (dQ:List cu) (e:Exit) (s:St):Prop:=
 match (match e with | .normal=>true | .ret=>true | _=>false) with
 | true=>match AO cfg s rs with
  | some vs=>match oneOf vs with
   | v=>match upTo m 0++TH m r v with
    | sg=>ev Sp [] (hget s.heap) (El sg v λ v' ids=>dV (kN sg) (dV (Cg ids sg) (gT v'))) [] λ v' _ _=>jE [] (kP dQ 0) fuel v' r∧OW s.heap sg dQ
  | none=>False
 | false=>False
 where kP:List cu→Nat→jh
 | [],_=>[]
 | x::l,i=>(i,some x)::kP l (i+1)
def OX:List cu→Nat→jh
 | [],_=>[]
 | x::l,i=>(i,gz x)::OX l (i+1)
def AP:List AV→Nat→List (Nat×AV)
 | [],_=>[]
 | v::l,i=>(i,v)::AP l (i+1)
end Go.Ab
namespace Go.Ab
def jM:kM→Value
 | .s b=>.string b
 | .i n=>.int .i64 n
 | .p a b=>.agg #[.int .i64 a,.int .i64 b]
def fnVal (f:Nat) (vs:Array Value):Value:=match Nat.blt f FN with
 | true=>.func (.func f) #[] vs
 | false=>.iface (f - FN) (.agg vs)
def OY (z:List ZK) (n:Int):Value:=match z with
 | [.bool]=>.bool (n != 0)
 | [.int k]=>.int k n
 | [.other]=>match n with
  | .ofNat (m+1)=>fnVal m #[]
  | _=>Go.undef
 | _=>Go.undef
structure Ke (kd:TD) (z:List ZK) (f:kM→Option Int) (es:Array MapEntry):Prop where
 keys:∀e∈es.toList,∃k n,e.key=jM k∧nu kd k=true∧f k=some n∧e.val=OY z n
 uniq:es.toList.Pairwise λ e e'=>e.key≠e'.key
 all:∀k n,f k=some n→∃e∈es.toList,e.key=jM k
variable {vs:Array Value}
theorem G7 {f:Nat} (h:Nat.blt f FN=true):fnVal f vs=.func (.func f) #[] vs:=by unfold fnVal; rw [h]
theorem OZ (t:Nat) (vs:Array Value):fnVal (FN+t) vs=.iface t (.agg vs):=by
 unfold fnVal;have:Nat.blt (FN+t) FN=false:=by
  cases h:Nat.blt (FN+t) FN with
  | false=>rfl
  | true=>have:=Nat.le_of_ble_eq_true h; omega
 rw [this,Nat.add_sub_cancel_left]
theorem Vb {f:Nat} (h:FN≤f):fnVal f vs=.iface (f - FN) (.agg vs):=by
 have e:=OZ (f - FN) vs;rw [Nat.add_sub_cancel' h] at e;exact e
theorem Sn {f:Nat} :(fnVal f vs).oneCell'=true:=by
 unfold fnVal;cases Nat.blt f FN<;>rfl
inductive fC (w:World) (I:Nat→Prop):AV→Value→Prop
 | undef (x:Value):fC w I .undef x
 | bool (b:Bool):fC w I (.bool b) (.bool b)
 | int (k:IntKind) (n:Int):fC w I (.int k n) (.int k n)
 | str (s:ByteArray):fC w I (.str s) (.string s)
 | wW:fC w I .wW (.pointer none)
 | iK:fC w I .iK (.slice none 0 0)
 | pm {kd:TD} {z:List ZK} {f:kM→Option Int} (b:Nat) (es:Array MapEntry) (clock:Nat) (hI:I b) (hw:w.heap[b]? = some (.map es clock)) (hm:Ke kd z f es):fC w I (.pm kd z f) (.map (some b))
 | sl {es n:Nat} {full:Bool} {g:Nat→AV} {a:Option Addr} {cap:Nat} (b off:Nat) (vs:Nat→Nat→Value)
   (hcap:n≤cap) (hfull:full=true→cap=n) (ha:n≠0→a=some ⟨b,off,none⟩∧I b)
   (hes:∀i,i<n→(g i).cells.length=es)
   (hm:∀i j,i<n→j<es→w.cell? ⟨b,off+(i*es+j),none⟩=some (vs i j))
   (h1:∀i j,i<n→j<es→(vs i j).oneCell'=true)
   (hr:∀i j,i<n→j<es→fC w I (nth (g i).cells j) (vs i j)):fC w I (.sl es n full g) (.slice a n cap)
 | ro {cs:List AV} (b off:Nat) (vs:Nat→Value) (hI:I b)
   (hm:∀j,j<cs.length→w.cell? ⟨b,off+j,none⟩=some (vs j))
   (hr:∀j,j<cs.length→fC w I (nth cs j) (vs j)):fC w I (.ro cs) (.pointer (some ⟨b,off,none⟩))
 | agg {cs:List AV} {vs:Array Value} (hl:vs.size=cs.length) (hr:∀j,j<cs.length→fC w I (nth cs j) (vs.getD j Go.undef)):fC w I (.agg cs) (.agg vs)
 | fn {f:FuncId} {cs:List AV} {vs:Array Value} (hl:vs.size=cs.length) (hr:∀j,j<cs.length→fC w I (nth cs j) (vs.getD j Go.undef)):fC w I (.fn f cs) (fnVal f vs)
 | jg {cs:List AV} {vs:Array Value} (hl:vs.size=cs.length) (hr:∀j,j<cs.length→fC w I (nth cs j) (vs.getD j Go.undef)):fC w I (.jg cs) (.tuple vs)
structure Own where
 es:Nat
 n:Nat
 pl:Option (Nat×Nat×Nat)
abbrev OM:=Nat→Option Own
inductive cO (w:World) (I:Nat→Prop) (O:OM) (D:Nat→Prop):AV→Value→Prop
 | pure {v:AV} {x:Value} (h:fC w I v x):cO w I O D v x
 | ptr {o i off b bo sz:Nat} {p:Own} (ho:O o=some p) (hp:p.pl=some (b,bo,sz)) (hi:i<p.n):cO w I O D (.ptr o i off) (.pointer (some ⟨b,bo+(i*p.es+off),none⟩))
 | dA {o i n:Nat} {full:Bool} {p:Own} {a:Option Addr} {cap:Nat} (ho:O o=some p) (hi:i+n≤p.n) (hcap:n≤cap) (hfull:full=true→cap=n)
   (hpl:cap≠0→∃b bo sz,p.pl=some (b,bo,sz)∧a=some ⟨b,bo+i*p.es,none⟩∧bo+(i+cap)*p.es≤sz) (hext:p.n≤i+cap):cO w I O D (.dA o i n full) (.slice a n cap)
 | mref {o b bo sz:Nat} {p:Own} (ho:O o=some p) (hp:p.pl=some (b,bo,sz)):cO w I O D (.mref o) (.map (some b))
 | vT {o:Nat} {x:Value} (ho:O o=none) (hd:D o) (h1:x.oneCell'=true):cO w I O D (.mref o) x
 | vU {o i off:Nat} {x:Value} (ho:O o=none) (hd:D o) (h1:x.oneCell'=true):cO w I O D (.ptr o i off) x
 | uS {o i n:Nat} {full:Bool} {x:Value} (ho:O o=none) (hd:D o) (h1:x.oneCell'=true):cO w I O D (.dA o i n full) x
 | agg {cs:List AV} {vs:Array Value} (hl:vs.size=cs.length) (hr:∀j,j<cs.length→cO w I O D (nth cs j) (vs.getD j Go.undef)):cO w I O D (.agg cs) (.agg vs)
 | fn {f:FuncId} {cs:List AV} {vs:Array Value} (hl:vs.size=cs.length) (hr:∀j,j<cs.length→cO w I O D (nth cs j) (vs.getD j Go.undef)):cO w I O D (.fn f cs) (fnVal f vs)
 | jg {cs:List AV} {vs:Array Value} (hl:vs.size=cs.length) (hr:∀j,j<cs.length→cO w I O D (nth cs j) (vs.getD j Go.undef)):cO w I O D (.jg cs) (.tuple vs)
def AQ (w:World) (b sz:Nat):Prop:=∀j,j<sz→(w.cell? ⟨b,j,none⟩).isSome=true∧w.frozen? ⟨b,j,none⟩=false
def cellAt (w:World) (b j:Nat):Value:=(w.cell? ⟨b,j,none⟩).getD Go.undef
structure rU (w:World) (b bo sz:Nat):Prop where
 al:AQ w b sz
 one:∀j,bo≤j→j<sz→(cellAt w b j).oneCell'=true
instance {w:World} {b bo sz:Nat}:CoeOut (rU w b bo sz) (AQ w b sz):=⟨rU.al⟩
instance {w:World} {b bo sz:Nat}:CoeFun (rU w b bo sz) (λ _=>∀j,j<sz→(w.cell? ⟨b,j,none⟩).isSome=true∧w.frozen? ⟨b,j,none⟩=false):=⟨λ h=>h.al⟩
def gJ (w:World) (I:Nat→Prop) (O:OM) (D:Nat→Prop) (p:Own):cu→Prop
 | .box cs=>p.n=1∧∃b bo sz,p.pl=some (b,bo,sz)∧AQ w b sz∧bo+cs.length≤sz∧∀j,j<cs.length→cO w I O D (nth cs j) (cellAt w b (bo+j))
 | .row es n g=>p.n=n∧p.es=es∧(∀i,i<n→(g i).cells.length=es)∧((n=0∧p.pl=none)∨
   ∃b bo sz,p.pl=some (b,bo,sz)∧rU w b bo sz∧bo+n*es≤sz∧∀i j,i<n→j<es→fC w I (nth (g i).cells j) (cellAt w b (bo+(i*es+j)))∧(cellAt w b (bo+(i*es+j))).oneCell'=true)
 | .map kd z f=>p.n=1∧∃b bo sz es clock,p.pl=some (b,bo,sz)∧w.heap[b]? = some (.map es clock)∧Ke kd z f es
structure Ctx where
 w0:World
 M:Nat→Prop
 I0:Nat→Prop
 O0:OM
 m:Nat
 K:Nat→Obj→Prop
 rd:Bool
def Eo:Obj→Bool
 | .cells .. | .map .. => false
 | _=>true
structure fP (w' w:World):Prop where
 os:w'.os=w.os
 tape:w'.tape=w.tape
 output:w'.output=w.output
 keep:∀(k:Nat) (o:Obj),w.heap[k]? = some o→Eo o=true→w'.heap[k]? = some o
theorem fP.refl (w:World):fP w w:=⟨rfl,rfl,rfl,λ _ _ h _=>h⟩
theorem fP.trans {a b c:World} (h:fP a b) (k:fP b c):fP a c:=⟨h.os.trans k.os,h.tape.trans k.tape,h.output.trans k.output,λ i o hi ho=>h.keep i o (k.keep i o hi ho) ho⟩
variable {w':World}
theorem fP.heap {w:World} (h1:w'.os=w.os) (h2:w'.tape=w.tape) (h3:w'.output=w.output) (h:w'.heap=w.heap):fP w' w:=⟨h1,h2,h3,λ i o hi _=>by rw [h]; exact hi⟩
theorem fP.alloc (w:World) (o:Obj):fP (w.alloc o) w:=⟨rfl,rfl,rfl,λ i x hi _=>by
 have hlt:i<w.heap.size:=by
  rcases Nat.lt_or_ge i w.heap.size with h | h
  ·exact h
  ·rw [Array.getElem?_eq_none h] at hi; cases hi
 show (w.heap.push o)[i]? = some x;rw [Array.getElem?_push_lt hlt,← hi,Array.getElem?_eq_getElem hlt]⟩
structure y7 (cx:Ctx) (w:World):Prop where
 same:fP w cx.w0
 kept:∀k o,cx.K k o→w.heap[k]? = some o∧Eo o=true
theorem y7.step {cx:Ctx} {w:World} (h:y7 cx w) (he:fP w' w):y7 cx w':=⟨he.trans h.same,λ k o hk=>⟨he.keep k o (h.kept k o hk).1 (h.kept k o hk).2,(h.kept k o hk).2⟩⟩
structure Rel (cfg:qz) (cx:Ctx) (H:Nat→Option cu) (D:Nat→Prop) (w:World) (I:Nat→Prop) (O:OM):Prop where
 dom:∀o,O o=none↔H o=none
 used:∀o p,O o=some p→D o
 objs:∀o ob p,H o=some ob→O o=some p→gJ w I O D p ob
 inj:∀o o' p p' b bo sz b' kK sz',O o=some p→O o'=some p'→p.pl=some (b,bo,sz)→p'.pl=some (b',kK,sz')→o≠o'→b≠b'
 lu:∀o p b bo sz,O o=some p→p.pl=some (b,bo,sz)→¬ I b
 lt:∀o p b bo sz,O o=some p→p.pl=some (b,bo,sz)→b<w.heap.size
 uw:∀b,I b→b<w.heap.size
 size:cx.w0.heap.size≤w.heap.size
 frame:∀b,b<cx.w0.heap.size→¬ cx.M b→w.heap[b]? = cx.w0.heap[b]?
 new:∀o p b bo sz,O o=some p→p.pl=some (b,bo,sz)→cx.w0.heap.size≤b∨cx.M b
 glob:∀g cs,look cfg.glob g=some cs→fC w I (.ro cs) (.pointer (some ⟨g,0,none⟩))
 G8:∀b,cx.I0 b→I b
 L9:∀b,I b→cx.I0 b∨cx.w0.heap.size≤b∨cx.M b
 O5:∀o,o<cx.m→O o=cx.O0 o∨O o=none
 Dm:∀o,o<cx.m→D o
 env:y7 cx w
theorem pq (l:List AV) (i:Nat):nth l i=l.getD i .undef:=by
 induction l generalizing i with
 | nil=>simp [nth]
 | cons v l ih=>cases i<;>simp [nth,ih]
variable {b:Nat}
theorem cell?_of_heap {w:World} {off:Nat} (h:w'.heap[b]? = w.heap[b]?):w'.cell? ⟨b,off,none⟩=w.cell? ⟨b,off,none⟩:=by
 simp [World.cell?, h]
theorem frozen?_of_heap {w:World} {off:Nat} (h:w'.heap[b]? = w.heap[b]?):w'.frozen? ⟨b,off,none⟩=w.frozen? ⟨b,off,none⟩:=by
 simp [World.frozen?, h]
theorem rU.up {w:World} {bo kK sz:Nat} (h:rU w b bo sz) (hb:bo≤kK):rU w b kK sz:=⟨h.al,λ j h1 h2=>h.one j (Nat.le_trans hb h1) h2⟩
theorem rU.of_heap {w:World} {bo sz:Nat} (h:rU w b bo sz) (hh:w'.heap[b]? = w.heap[b]?):rU w' b bo sz:=
 ⟨λ j hj=>by rw [cell?_of_heap hh,frozen?_of_heap hh]; exact h.al j hj,λ j hb hj=>by rw [cellAt,cell?_of_heap hh]; exact h.one j hb hj⟩
theorem Vd {w:World} {I:Nat→Prop}:fC w I (.sl 0 0 true eu) (.slice none 0 0):=
 .sl 0 0 (λ _ _=>Go.undef) (Nat.le_refl _) (λ _=>rfl) (λ h=>absurd rfl h) (λ _ h=>absurd h (Nat.not_lt_zero _)) (λ _ _ h=>absurd h (Nat.not_lt_zero _)) (λ _ _ h=>absurd h (Nat.not_lt_zero _)) (λ _ _ h=>absurd h (Nat.not_lt_zero _))
variable {I':Nat→Prop} {v:AV} {x:Value}
theorem fC.mono {w:World} {I:Nat→Prop} (hI:∀b,I b→I' b) (hw:∀b,I b→w'.heap[b]? = w.heap[b]?) (h:fC w I v x):fC w' I' v x:=by
 induction h with
 | undef x=>exact .undef x
 | bool b=>exact .bool b
 | int k n=>exact .int k n
 | str s=>exact .str s
 | wW=>exact .wW
 | iK=>exact .iK
 | pm b es clock h1 h2 h3=>exact .pm b es clock (hI _ h1) (by rw [hw _ h1]; exact h2) h3
 | @sl es n full g a cap b off vs hcap hfull ha hes hm h1 hr ih=>
  refine .sl b off vs hcap hfull (λ h=>⟨(ha h).1,hI _ (ha h).2⟩) hes (λ i j hi hj=>?_) h1 ih;rw [cell?_of_heap (hw _ (ha om).2)];exact hm i j hi hj
 | ro b off vs h1 hm hr ih=>
  refine .ro b off vs (hI _ h1) (λ j hj=>?_) ih;rw [cell?_of_heap (hw _ h1)];exact hm j hj
 | agg hl hr ih=>exact .agg hl ih
 | fn hl hr ih=>exact .fn hl ih
 | jg hl hr ih=>exact .jg hl ih
theorem cO.mono {w:World} {I:Nat→Prop} {O O':OM} {D D':Nat→Prop} (hI:∀b,I b→I' b) (hw:∀b,I b→w'.heap[b]? = w.heap[b]?)
  (hO:∀o,D o→O' o=O o∨O' o=none) (hD:∀o,D o→D' o) (hu:∀o p,O o=some p→D o) {v:AV} {x:Value} (h:cO w I O D v x):cO w' I' O' D' v x:=by
 induction h with
 | pure h=>exact .pure (h.mono hI hw)
 | @ptr o i off b bo sz p ho hp hi=>
  rcases hO o (hu o p ho) with h | h
  ·exact .ptr (h.trans ho) hp hi
  ·exact .vU h (hD _ (hu o p ho)) rfl
 | @dA o i n full p a cap ho hi hcap hfull hpl hext=>
  rcases hO o (hu o p ho) with h | h
  ·exact .dA (h.trans ho) hi hcap hfull hpl hext
  ·exact .uS h (hD _ (hu o p ho)) rfl
 | @mref o b bo sz p ho hp=>
  rcases hO o (hu o p ho) with h | h
  ·exact .mref (h.trans ho) hp
  ·exact .vT h (hD _ (hu o p ho)) rfl
 | @vT o x ho hd h1=>
  rcases hO o hd with h | h
  ·exact .vT (h.trans ho) (hD _ hd) h1
  ·exact .vT h (hD _ hd) h1
 | @vU o i off x ho hd h1=>
  rcases hO o hd with h | h
  ·exact .vU (h.trans ho) (hD _ hd) h1
  ·exact .vU h (hD _ hd) h1
 | @uS o i n full x ho hd h1=>
  rcases hO o hd with h | h
  ·exact .uS (h.trans ho) (hD _ hd) h1
  ·exact .uS h (hD _ hd) h1
 | agg hl hr ih=>exact .agg hl ih
 | fn hl hr ih=>exact .fn hl ih
 | jg hl hr ih=>exact .jg hl ih
def Cj:ZK→Value→Prop
 | .bool,x=>x=.bool false
 | .int k,x=>x=.int k 0
 | .str,x=>x=.string ByteArray.empty
 | .slice,x=>x=.slice none 0 0
 | .ptr,x=>x=.pointer none
 | .other,x=>x.oneCell'=true
def aaQ:TD→TypeDesc→Prop
 | .bool,d=>d=.bool
 | .int k,d=>d=.int k
 | .str,d=>d=.string
 | .slice e,d=>d=.slice e
 | .pointer e,d=>d=.pointer e
 | .map k e,d=>d=.map k e
 | .array n e,d=>d=.array n e
 | .struct fs,d=>∃fields:Array Field,d=.struct fields∧fields.toList.map (λ f=>(f.offset,f.type))=fs
 | .other,_=>True
structure agA (P:Program) (t:TypeId) (ti:Ei):Prop where
 ex:∃i d z,P.info? t=some i∧P.underlying t=some d∧i.zero=some z∧i.size=ti.size∧i.bytes=ti.bytes∧d.isRow=ti.agg∧z.cells.size=ti.size∧
  ti.zero.length=ti.size∧(∀j,j<ti.size→Cj (ti.zero.getD j .other) (z.cells.getD j Go.undef))∧aaQ ti.desc d
 one:ti.agg=false→∀i z,P.info? t=some i→i.zero=some z→z.cells=#[z]
def Ma (P:Program):TypeDesc→Prop
 | .struct fields=>∀f∈fields.toList,(P.info? f.type).isSome=true
 | _=>True
def TI:ZK→TypeDesc→Prop
 | .bool,d=>d=.bool
 | .int k,d=>d=.int k
 | .str,d=>d=.string
 | _,_=>False
def ac2 (P:Program) (ok:TypeId→List ZK→Prop):List Field→List ZK→Nat→Prop
 | [],[],_=>True
 | f::fs,zs,k=>f.name ≠ "_" ∧ f.offset=k∧∃z1 z2,zs=z1++z2∧((∃z d,z1=[z]∧P.underlying f.type=some d∧TI z d)∨(ok f.type z1∧P.cellsOf f.type=z1.length))∧ac2 P ok fs z2 (k+z1.length)
 | _,_,_=>False
def EqT (P:Program):Nat→TypeId→List ZK→Prop
 | 0,_,_=>False
 | n+1,t,zs=>∃fields,P.underlying t=some (.struct fields)∧P.stoodInHeld t=false∧ac2 P (EqT P n) fields.toList zs 0
structure agB (P:Program) (t:TypeId) (zs:List ZK):Prop where
 ex:EqT P 4 t zs
 guard:P.eqGuardType P.depth t=false
structure fq (P:Program) (cfg:qz):Prop where
 ty:∀t ti,look cfg.ty t=some ti→agA P t ti
 fields:∀t ti d,look cfg.ty t=some ti→P.underlying t=some d→Ma P d
 mixed:P.follows .mixedOrders=true
 eqs:∀t zs,look cfg.eqs t=some zs→agB P t zs
 Zb:∀t m g,WT cfg t m=some g→∀(vs args:Array Value) w,(callMethod (.iface t (.agg vs)) m args).run P w=(callFunc g (#[.agg vs]++args)).run P w
def jK (H:Nat→Option cu) (ups:jh):Nat→Option cu:=λ o=>match look ups o with | some x=>x | none=>H o
inductive dK (Sp:kL) (H:Nat→Option cu):Pg→AV→jh→List Nat→Prop
 | ret (v:AV) (ups:jh):dK Sp H (.ret v ups) v ups []
 | need {p:Prop} [d:Decidable p] {k:Pg} {v:AV} {ups:jh} {r:List Nat} (hp:p) (h:dK Sp H k v ups r):dK Sp H (.need p k) v ups r
 | rd {o:Nat} {x:cu} {k:cu→Pg} {v:AV} {ups:jh} {r:List Nat} (ho:H o=some x) (h:dK Sp H (k x) v ups r):dK Sp H (.rd o k) v ups (o::r)
 | call {f:FuncId} {args:List AV} {obs:List cu} {k:AV→List cu→Pg} {x:AV} {dQ:List cu} {v:AV} {ups:jh} {r:List Nat} (hs:Sp f args obs x dQ)
   (h:dK Sp H (k x dQ) v ups r):dK Sp H (.call f args obs k) v ups r
def hof:List cu→Nat→Option cu
 | [],_=>none
 | x::_,0=>some x
 | _::l,n+1=>hof l n
def yD:List cu→Nat→Option cu
 | [],_=>none
 | x::_,0=>gz x
 | _::l,n+1=>yD l n
theorem Zj:∀ {l:List cu} {j:Nat} {x:cu},yD l j=some x→hof l j=some x∧OJ x=false:=by
 intro l;induction l with
 | nil=>intro j x h; cases h
 | cons y l ih=>
  intro j x h;cases j with
  | zero=>
   simp only [yD,gz] at h;split at h
   ·cases h
   ·rename_i hg; cases h; exact ⟨rfl,hg⟩
  | succ j=>exact ih h
theorem ac3:∀ {l:List cu},(∀j x,hof l j=some x→OJ x=false)→yD l=hof l:=by
 intro l;induction l with
 | nil=>intro _; rfl
 | cons y l ih=>
  intro h;funext j;cases j with
  | zero=>have:=h 0 y rfl; simp only [yD,hof,gz,this]
  | succ j=>exact congrFun (ih λ j x hx=>h (j+1) x hx) j
def BK (w:World) (I:Nat→Prop) (O:OM) (m:Nat):Ctx:=⟨w,λ b=>∃o p bo sz,O o=some p∧p.pl=some (b,bo,sz),I,O,m,λ _ _=>False,false⟩
def Spec (P:Program) (cfg:qz):kL:=λ f args obs r dQ=>
 (∃fn,P.funcs[f]? = some fn∧fn.body.isNone=false∧(fn.name == "runtime.NumGoroutine")=false)∧obs.length≤dQ.length∧
 ∀(w:World) (I:Nat→Prop) (O:OM) (vals:Array Value),Rel cfg (BK w I O obs.length) (hof obs) (λ o=>o<obs.length) w I O→
  vals.size=args.length→(∀j,j<args.length→cO w I O (λ o=>o<obs.length) (nth args j) (vals.getD j Go.undef))→
  Calls P f vals w λ e w'=>∃x I' O',e=.returned x∧Rel cfg (BK w I O obs.length) (yD dQ) (λ o=>o<dQ.length) w' I' O'∧
   cO w' I' O' (λ o=>o<dQ.length) r x
section
variable {P:Program} {cfg:qz} {cx:Ctx} {H:Nat→Option cu} {D:Nat→Prop} {w:World} {I:Nat→Prop} {O:OM}
def vV (D:Nat→Prop) (n:Nat):Nat→Prop:=λ o=>D o∨(n≤o∧o<n+stride)
def G9 (D:Nat→Prop) (n:Nat):Prop:=∀o,n≤o→o<n+stride→¬ D o
variable {n:Nat}
theorem G9.one {D:Nat→Prop} (h:G9 D n):¬ D n:=h n (Nat.le_refl _) (by unfold stride; omega)
variable {o:Nat}
theorem Kg {D:Nat→Prop} (h:o=n):vV D n o:=.inr ⟨by omega,by unfold stride; omega⟩
def dG (P:Program) (cfg:qz) (cx:Ctx) (H:Nat→Option cu) (D:Nat→Prop) (w:World) (I:Nat→Prop) (O:OM) (bW:Nat) (o:Oper) (a:Act) (v:AV) (ups:jh):Prop:=
 ∀(next:Act→World→Prop) (Q:Exit→Act→World→Prop),
  (∀x w' I' O',Rel cfg cx (jK H ups) (vV D bW) w' I' O'→(∀u y,cO w I O D u y→cO w' I' O' (vV D bW) u y)→cO w' I' O' (vV D bW) v x→next (a.put o.dst x) w')→
  o.wp P a w next Q
theorem tH (H:Nat→Option cu):jK H []=H:=rfl
theorem gJ.mono {O':OM} {D':Nat→Prop} {p:Own} {ob:cu} (hI:∀b,I b→I' b) (hw:∀b,I b→w'.heap[b]? = w.heap[b]?)
  (hO:∀o,D o→O' o=O o∨O' o=none) (hD:∀o,D o→D' o) (hu:∀o p,O o=some p→D o) (hb:∀b bo sz,p.pl=some (b,bo,sz)→w'.heap[b]? = w.heap[b]?)
  (h:gJ w I O D p ob):gJ w' I' O' D' p ob:=by
 cases ob with
 | box cs=>
  obtain ⟨h1,b,bo,sz,hp,ha,hl,hc⟩:=h;have hh:=hb b bo sz hp;refine ⟨h1,b,bo,sz,hp,λ j hj=>?_,hl,λ j hj=>?_⟩
  ·rw [cell?_of_heap hh,frozen?_of_heap hh]; exact ha j hj
  ·rw [cellAt,cell?_of_heap hh]; exact (hc j hj).mono hI hw hO hD hu
 | row es n g=>
  obtain ⟨h1,h2,h3,h4⟩:=h;refine ⟨h1,h2,h3,?_⟩;rcases h4 with h4 | ⟨b,bo,sz,hp,ha,hl,hc⟩
  ·exact .inl h4
  ·have hh:=hb b bo sz hp;refine .inr ⟨b,bo,sz,hp,ha.of_heap hh,hl,λ i j hi hj=>?_⟩
   ·rw [cellAt,cell?_of_heap hh]; exact ⟨(hc i j hi hj).1.mono hI hw,(hc i j hi hj).2⟩
 | map kd z f=>
  obtain ⟨h1,b,bo,sz,es,clock,hp,hw2,hm⟩:=h;exact ⟨h1,b,bo,sz,es,clock,hp,by rw [hb b bo sz hp]; exact hw2,hm⟩
theorem Rel.qV (hR:Rel cfg cx H D w I O) (n:Nat):Rel cfg cx H (vV D n) w I O:=
 { hR with
  used:=λ o p h=>.inl (hR.used o p h)
  objs:=λ o ob p h h'=>(hR.objs o ob p h h').mono (λ _ h=>h) (λ _ _=>rfl) (λ _ _=>.inl rfl) (λ _ h=>.inl h) hR.used (λ _ _ _ _=>rfl)
  Dm:=λ o h=>.inl (hR.Dm o h) }
theorem cO.qV (hR:Rel cfg cx H D w I O) (n:Nat) (h:cO w I O D v x):cO w I O (vV D n) v x:=
 h.mono (λ _ h=>h) (λ _ _=>rfl) (λ _ _=>.inl rfl) (λ _ h=>.inl h) hR.used
theorem nU {o:Oper} {a:Act} {next:Act→World→Prop} {Q:Exit→Act→World→Prop} (h:(execOp a.eval o).run P w=.ok (.value x) w') (hn:next (a.put o.dst x) w'):o.wp P a w next Q:=by
 unfold Oper.wp; rw [h]; exact hn
theorem dG.bZ {bW:Nat} {o:Oper} {a:Act} (hR:Rel cfg cx H D w I O) (h:(execOp a.eval o).run P w=.ok (.value x) w) (hv:cO w I O D v x):dG P cfg cx H D w I O bW o a v []:=by
 intro next Q hn
 exact nU h (hn x w I O (by rw [tH]; exact hR.qV bW) (λ u y hu=>hu.qV hR bW) (hv.qV hR bW))
theorem cO.jr {b:Bool} (h:cO w I O D (.bool b) x):x=.bool b:=by
 cases h with | pure h=>cases h; rfl
theorem cO.fQ {k:IntKind} {n:Int} (h:cO w I O D (.int k n) x):x=.int k n:=by
 cases h with | pure h=>cases h; rfl
theorem cO.vw {s:ByteArray} (h:cO w I O D (.str s) x):x=.string s:=by
 cases h with | pure h=>cases h; rfl
theorem cO.rV {es:Nat} {f:Bool} {g:Nat→AV} (h:cO w I O D (.sl es n f g) x):fC w I (.sl es n f g) x:=by
 cases h with | pure h=>exact h
variable {cs:List AV}
theorem cO.O6 (h:cO w I O D (.ro cs) x):fC w I (.ro cs) x:=by
 cases h with | pure h=>exact h
theorem cO.lX (h:cO w I O D (.agg cs) x):∃vs:Array Value,x=.agg vs∧vs.size=cs.length∧∀j,j<cs.length→cO w I O D (nth cs j) (vs.getD j Go.undef):=by
 cases h with
 | pure h=>cases h with | agg hl hr=>exact ⟨_,rfl,hl,λ j hj=>.pure (hr j hj)⟩
 | agg hl hr=>exact ⟨_,rfl,hl,hr⟩
theorem cO.zY (h:cO w I O D (.jg cs) x):∃vs:Array Value,x=.tuple vs∧vs.size=cs.length∧∀j,j<cs.length→cO w I O D (nth cs j) (vs.getD j Go.undef):=by
 cases h with
 | pure h=>cases h with | jg hl hr=>exact ⟨_,rfl,hl,λ j hj=>.pure (hr j hj)⟩
 | jg hl hr=>exact ⟨_,rfl,hl,hr⟩
theorem cO.vW {f:FuncId} (h:cO w I O D (.fn f cs) x):∃vs:Array Value,x=fnVal f vs∧vs.size=cs.length∧∀j,j<cs.length→cO w I O D (nth cs j) (vs.getD j Go.undef):=by
 cases h with
 | pure h=>cases h with | fn hl hr=>exact ⟨_,rfl,hl,λ j hj=>.pure (hr j hj)⟩
 | fn hl hr=>exact ⟨_,rfl,hl,hr⟩
variable {p:Own}
theorem cO.kQ {i off:Nat} (ho:O o=some p) (h:cO w I O D (.ptr o i off) x):∃b bo sz,p.pl=some (b,bo,sz)∧i<p.n∧x=.pointer (some ⟨b,bo+(i*p.es+off),none⟩):=by
 cases h with
 | pure h=>cases h
 | @ptr _ _ _ b bo sz p' ho' hp hi=>
  have:p'=p:=Option.some.inj (ho'.symm.trans ho);subst this;exact ⟨b,bo,sz,hp,hi,rfl⟩
 | vU ho'=>rw [ho] at ho'; cases ho'
theorem cO.jH {i:Nat} {full:Bool} (ho:O o=some p) (h:cO w I O D (.dA o i n full) x):∃a cap,x=.slice a n cap∧i+n≤p.n∧n≤cap∧(full=true→cap=n)∧
  (cap≠0→∃b bo sz,p.pl=some (b,bo,sz)∧a=some ⟨b,bo+i*p.es,none⟩∧bo+(i+cap)*p.es≤sz):=by
 cases h with
 | pure h=>cases h
 | @dA _ _ _ _ p' a cap ho' hi hcap hfull hpl hext=>
  have:p'=p:=Option.some.inj (ho'.symm.trans ho);subst this;exact ⟨a,cap,rfl,hi,hcap,hfull,hpl⟩
 | uS ho'=>rw [ho] at ho'; cases ho'
theorem cO.xA {i n' cap:Nat} {full:Bool} {aa:Option Addr} (ho:O o=some p) (h:cO w I O D (.dA o i n full) (.slice aa n' cap)):p.n≤i+cap:=by
 cases h with
 | pure h=>cases h
 | @dA _ _ _ _ p' a cap ho' hi hcap hfull hpl hext=>
  have:p'=p:=Option.some.inj (ho'.symm.trans ho);subst this;exact hext
 | uS ho'=>rw [ho] at ho'; cases ho'
theorem cO.qA (ho:O o=some p) (h:cO w I O D (.mref o) x):∃b bo sz,p.pl=some (b,bo,sz)∧x=.map (some b):=by
 cases h with
 | pure h=>cases h
 | @mref _ b bo sz p' ho' hp=>
  have:p'=p:=Option.some.inj (ho'.symm.trans ho);subst this;exact ⟨b,bo,sz,hp,rfl⟩
 | vT ho'=>rw [ho] at ho'; cases ho'
theorem cO.aeR {kd:TD} {z:List ZK} {f:kM→Option Int} (h:cO w I O D (.pm kd z f) x):∃b es clock,I b∧w.heap[b]? = some (.map es clock)∧Ke kd z f es∧x=.map (some b):=by
 cases h with
 | pure h=>cases h with
  | pm b es clock h1 h2 h3=>exact ⟨b,es,clock,h1,h2,h3,rfl⟩
theorem O7 (h:cO w I O D v x) (hk:OE v=true):x.oneCell'=true:=by
 cases h with
 | pure h=>cases h<;>first | rfl | exact Sn | cases hk
 | ptr=>rfl
 | dA=>rfl
 | mref=>rfl
 | vT _ _ h1=>exact h1
 | vU _ _ h1=>exact h1
 | uS _ _ h1=>exact h1
 | agg=>cases hk
 | fn=>exact Sn
 | jg=>cases hk
theorem Mc {l:List AV} (h:zT l=true):∀j,j<l.length→OE (nth l j)=true:=by
 induction l with
 | nil=>intro j hj; cases hj
 | cons v l ih=>
  intro j hj;unfold zT at h;cases hv:OE v with
  | false=>simp [hv] at h
  | true=>
   simp only [hv] at h;cases j with
   | zero=>exact hv
   | succ j=>exact ih h j (by simpa using hj)
theorem cO.cells (h:cO w I O D v x) (hk:zT v.cells=true):x.cells.size=v.cells.length∧∀j,j<v.cells.length→cO w I O D (nth v.cells j) (x.cells.getD j Go.undef)∧(x.cells.getD j Go.undef).oneCell'=true:=by
 have one:∀ {v:AV} {x:Value},cO w I O D v x→v.cells=[v]→OE v=true→x.cells.size=v.cells.length∧∀j,j<v.cells.length→cO w I O D (nth v.cells j) (x.cells.getD j Go.undef)∧(x.cells.getD j Go.undef).oneCell'=true:=by
  intro v x h hc ho;have h1:=O7 h ho;have hx:x.cells=#[x]:=by cases x<;>first | rfl | cases h1
  rw [hc,hx];refine ⟨rfl,λ j hj=>?_⟩;have:j=0:=by simpa using hj
  subst this;exact ⟨h,h1⟩
 cases v with
 | agg cs=>
  obtain ⟨vs,rfl,hl,hr⟩:=h.lX;exact ⟨hl,λ j hj=>⟨hr j hj,O7 (hr j hj) (Mc hk j hj)⟩⟩
 | undef=>cases hk
 | jg vs=>cases hk
 | _=>exact one h rfl rfl
end
end Go.Ab
namespace Go.Ab
section
variable {P:Program} {cfg:qz} {cx:Ctx} {H:Nat→Option cu} {D:Nat→Prop} {w:World} {I:Nat→Prop} {O:OM} {Sp:kL}
variable {v':AV} {ql:jh}
theorem dK.iP {v:AV} {ups:jh} {r:List Nat} (h:dK Sp H (.ret v ups) v' ql r):v'=v∧ql=ups:=by cases h; exact ⟨rfl,rfl⟩
theorem dK.qB {p:Prop} [Decidable p] {k:Pg} {v':AV} {ql:jh} {r:List Nat} (h:dK Sp H (.need p k) v' ql r):p∧dK Sp H k v' ql r:=by cases h with | need hp h=>exact ⟨hp,h⟩
theorem dK.jN {o:Nat} {k:cu→Pg} {r:List Nat} (h:dK Sp H (.rd o k) v' ql r):∃x r',H o=some x∧dK Sp H (k x) v' ql r':=by cases h with | rd ho h=>exact ⟨_,_,ho,h⟩
theorem dK.aJ {r:List Nat} (h:dK Sp H .fail v' ql r):False:=by cases h
theorem dK.eY {p:Prop} [Decidable p] {v v':AV} {ql:jh} {r:List Nat} (h:dK Sp H (iT p v) v' ql r):p∧v'=v∧ql=[]:=by
 obtain ⟨hp,h⟩:=dK.qB h; exact ⟨hp,h.iP⟩
theorem dK.dn {v:AV} {r:List Nat} (h:dK Sp H (gT v) v' ql r):v'=v∧ql=[]:=h.iP
theorem dK.bq {b:Bool} {k:Pg} {r:List Nat} (h:dK Sp H (dV b k) v' ql r):b=true∧dK Sp H k v' ql r:=by
 cases b with
 | true=>exact ⟨rfl,h⟩
 | false=>exact (dK.aJ h).elim
theorem dK.vJ {v:AV} {k:List AV→Pg} {r:List Nat} (h:dK Sp H (Cb v k) v' ql r):zT v.cells=true∧dK Sp H (k v.cells) v' ql r:=by
 unfold Cb at h;cases hb:zT v.cells with
 | true=>simp only [hb] at h; exact ⟨rfl,h⟩
 | false=>simp only [hb] at h; exact (dK.aJ h).elim
variable {t:TypeId}
theorem dK.iG {k:Ei→Pg} {r:List Nat} (h:dK Sp H (FP cfg t k) v' ql r):∃ti,look cfg.ty t=some ti∧dK Sp H (k ti) v' ql r:=by
 unfold FP at h;cases hb:look cfg.ty t with
 | some ti=>simp only [hb] at h; exact ⟨ti,rfl,h⟩
 | none=>simp only [hb] at h; exact (dK.aJ h).elim
theorem dK.kr {k:Ei→Pg} {r:List Nat} (h:dK Sp H (tF cfg t k) v' ql r):∃tt e ti,look cfg.ty t=some tt∧tt.desc=.slice e∧look cfg.ty e=some ti∧dK Sp H (k ti) v' ql r:=by
 unfold tF at h;cases hb:look cfg.ty t with
 | some tt=>
  simp only [hb] at h;cases hd:tt.desc with
  | slice e=>
   simp only [hd] at h;obtain ⟨ti,h1,h2⟩:=h.iG;exact ⟨tt,e,ti,rfl,hd,h1,h2⟩
  | _=>simp only [hd] at h; exact (dK.aJ h).elim
 | none=>simp only [hb] at h; exact (dK.aJ h).elim
theorem fq.slice (hc:fq P cfg) {e:TypeId} {tt ti:Ei} (h:look cfg.ty t=some tt) (hd:tt.desc=.slice e) (h':look cfg.ty e=some ti):
  P.underlying t=some (.slice e)∧∃i z,P.info? e=some i∧i.zero=some z∧i.size=ti.size∧i.bytes=ti.bytes∧z.cells.size=ti.size:=by
 obtain ⟨i,d,z,_,hu,_,_,_,_,_,_,_,hm⟩:=(hc.ty t tt h).ex;rw [hd] at hm;obtain ⟨i',d',z',h1,_,h2,h3,h4,_,h5,_⟩:=(hc.ty e ti h').ex;exact ⟨by rw [hu,hm],i',z',h1,h2,h3,h4,h5⟩
theorem eB {i:TypeInfo} (h:P.info? t=some i) (w:World):(sizeOf t).run P w=.ok i.size w:=by
 simp [sizeOf,typeInfo,h]
theorem bn {d:TypeDesc} (h:P.underlying t=some d) (w:World):(underlying t).run P w=.ok d w:=by
 simp [underlying,h]
variable {bW:Nat} {o:Oper} {a:Act} {ρ:Operand→AV} {v:AV} {ups:jh} {r:List Nat}
variable {x:Operand}
theorem Yy (hR:Rel cfg cx H D w I O) (ho:o.op=.move x) (hx:cO w I O D (ρ x) (a.eval x)):dG P cfg cx H D w I O bW o a (ρ x) []:=
 dG.bZ hR (by simp [execOp,ho]) hx
theorem Sq (hR:Rel cfg cx H D w I O) (ho:o.op=.assign x) (hx:cO w I O D (ρ x) (a.eval x)):dG P cfg cx H D w I O bW o a (ρ x) []:=
 dG.bZ hR (by simp [execOp,ho]) hx
theorem Zk (c:Value) (ho:ofConst c≠.undef):∀ {x:Value},x=c→cO w I O D (ofConst c) x:=by
 intro x hx;subst hx;refine .pure ?_;unfold ofConst;split
 ·exact .bool _
 ·exact .int _ _
 ·exact .str _
 ·exact .sl 0 0 (λ _ _=>Go.undef) (Nat.le_refl _) (λ _=>rfl) (λ h=>absurd rfl h) (λ i h=>by cases h) (λ i j h=>by cases h) (λ i j h=>by cases h) (λ i j h=>by cases h)
 ·exact .wW
 ·rename_i h1 h2 h3 h4 h5;exact .undef _
theorem Xb (c:Value):cO w I O D (ofConst c) c:=by
 by_cases h:ofConst c=.undef
 ·rw [h]; exact .pure (.undef _)
 ·exact Zk c h rfl
theorem ac4 (hR:Rel cfg cx H D w I O) {c y:Operand} (ho:o.op=.pick c x y) (hc:cO w I O D (ρ c) (a.eval c))
  (hx:∀b,ρ c=.bool b→b=true→cO w I O D (ρ x) (a.eval x)) (hy:∀b,ρ c=.bool b→b=false→cO w I O D (ρ y) (a.eval y))
  (hcx:∀v,x=.const v→ρ x=ofConst v∧a.eval x=v) (hcy:∀v,y=.const v→ρ y=ofConst v∧a.eval y=v)
  (h:dK Sp H (WS (ρ c) x y (ρ x) (ρ y)) v ups r):dG P cfg cx H D w I O bW o a v ups:=by
 cases hcv:ρ c with
 | bool b=>
  rw [hcv] at hc h;have hb:=hc.jr;have hx':=hx b hcv;have hy':=hy b hcv;have run:(execOp a.eval o).run P w=.ok (.value (if b then a.eval x else a.eval y)) w:=by
   simp [execOp,ho,hb,asBool]
  unfold WS at h;simp only at h;split at h
  ·rename_i hz;obtain ⟨rfl,rfl⟩:=h.dn;obtain ⟨_,e2⟩:=hcy _ rfl;refine dG.bZ hR run ?_;cases b with
   | true=>have:=(hx' rfl); rw [hz] at this; rw [this.jr]; exact .pure (.bool _)
   | false=>rw [e2]; exact .pure (.bool _)
  ·rename_i hz _;obtain ⟨rfl,rfl⟩:=h.dn;obtain ⟨_,e2⟩:=hcx _ rfl;refine dG.bZ hR run ?_;cases b with
   | true=>simp only [if_true]; rw [e2]; exact .pure (.bool _)
   | false=>have:=(hy' rfl); rw [hz] at this; simp only [Bool.false_eq_true,if_false]; rw [this.jr]; exact .pure (.bool _)
  ·rename_i h1 h2;obtain ⟨rfl,rfl⟩:=h.dn;refine dG.bZ hR run ?_;cases b with
   | true=>have:=(hx' rfl); rw [h1] at this; rw [this.jr]; exact .pure (.bool _)
   | false=>have:=(hy' rfl); rw [h2] at this; simp only [Bool.false_eq_true,if_false]; rw [this.jr]; exact .pure (.bool _)
  ·obtain ⟨rfl,rfl,rfl⟩:=h.eY;refine dG.bZ hR run ?_;simpa using hy' rfl
  ·obtain ⟨rfl,rfl,rfl⟩:=h.eY;refine dG.bZ hR run ?_;simpa using hx' rfl
  ·exact (dK.aJ h).elim
 | _=>rw [hcv] at h; exact (dK.aJ h).elim
theorem wrap_i64 {n:Int} (h:aG n):IntKind.i64.wrap n=n:=IntWalk.i64_in _ ⟨h.1,h.2⟩
theorem run_equal_bool (hu:P.underlying t=some .bool) (a b:Bool) (w:World):(Op.equal t (.bool a) (.bool b)).run P w=.ok (a==b) w:=by
 have:∀d,(Op.equalIn (d+1) t (.bool a) (.bool b)).run P w=.ok (a==b) w:=λ d=>by
  simp [Op.equalIn,bn hu]
 exact this 9999
theorem vB {d:TypeDesc} (hu:P.underlying t=some d) (hd:d.isRow=false) (vs:Array Value) (i:Nat) (hi:i<vs.size) (w:World):(part t vs i).run P w=.ok (vs.getD i Go.undef) w:=by
 have hag:(isAgg t).run P w=.ok false w:=by
  unfold isAgg;rw [Sem.run_bind,bn hu w];cases d<;>simp at hd ⊢
 simp [part,Sem.run_bind,hag,Array.getElem?_eq_getElem hi]
theorem Sr:∀(a b:List AV) {j:Nat},j<a.length→nth (a++b) j=nth a j:=by
 intro a;induction a with
 | nil=>intro b j h; exact absurd h (Nat.not_lt_zero _)
 | cons x a ih=>intro b j h; cases j with
  | zero=>rfl
  | succ j=>exact ih b (by simpa using h)
theorem Sv:∀(a b:List AV) (j:Nat),nth (a++b) (a.length+j)=nth b j:=by
 intro a;induction a with
 | nil=>intro b j; simp
 | cons x a ih=>intro b j; rw [List.length_cons,show a.length+1+j=(a.length+j)+1 by omega]; exact ih b j
theorem He (xs:Array Value) (k m j:Nat) (hj:j<m) (h:k+m≤xs.size):(xs.extract k (k+m)).getD j Go.undef=xs.getD (k+j) Go.undef:=by
 rw [Array.getD_eq_getD_getElem?, Array.getD_eq_getD_getElem?, Array.getElem?_extract_of_lt (by rw [Nat.min_eq_left h]; omega),Array.getElem?_eq_getElem om]
theorem ac5:∀(zs:List ZK) (cs cs':List AV) (r:Bool),J5 zs cs cs'=some r→cs.length=zs.length∧cs'.length=zs.length:=by
 intro zs;induction zs with
 | nil=>intro cs cs' r h; cases cs<;>cases cs'<;>simp [J5] at h ⊢
 | cons z zs ih=>
  intro cs cs' r h;cases cs with
  | nil=>cases z<;>simp [J5] at h
  | cons c cs=>cases cs' with
   | nil=>cases z<;>cases c<;>simp [J5] at h
   | cons c' cs'=>
    have:∃r',J5 zs cs cs'=some r':=by
     cases z<;>cases c<;>cases c'<;>simp only [J5] at h<;>first | (cases h; done) | skip
     all_goals
      split at h
      ·first | exact ⟨_,by assumption⟩
      ·cases h
    obtain ⟨r',h'⟩:=this
    have:=ih _ _ _ h'
    simp [this]
theorem ac6:∀(z1 z2:List ZK) (cs cs':List AV) (r:Bool),J5 (z1++z2) cs cs'=some r→∃c1 c2 c1' c2' r1 r2,cs=c1++c2∧cs'=c1'++c2'∧J5 z1 c1 c1'=some r1∧J5 z2 c2 c2'=some r2∧r=(r1&&r2):=by
 intro z1;induction z1 with
 | nil=>intro z2 cs cs' r h; exact ⟨[],cs,[],cs',true,r,rfl,rfl,rfl,h,by simp⟩
 | cons z z1 ih=>
  intro z2 cs cs' r h;cases cs with
  | nil=>cases z<;>simp [J5] at h
  | cons c cs=>cases cs' with
   | nil=>cases z<;>cases c<;>simp [J5] at h
   | cons c' cs'=>
    cases z<;>cases c<;>cases c'<;>simp only [List.cons_append,J5] at h<;>first | (cases h; done) | skip
    ·split at h
     ·rename_i r' h'
      cases h
      obtain ⟨c1,c2,c1',c2',r1,r2,e1,e2,e3,e4,e5⟩:=ih _ _ _ _ h'
      subst e1 e2 e5
      exact ⟨_::c1,c2,_::c1',c2',_,r2,rfl,rfl,by simp only [J5,e3]; rfl,e4,by rw [Bool.and_assoc]⟩
     ·cases h
    ·split at h
     ·rename_i r' k1 k2 h'
      cases h
      obtain ⟨c1,c2,c1',c2',r1,r2,e1,e2,e3,e4,e5⟩:=ih _ _ _ _ h'
      subst e1 e2 e5
      exact ⟨_::c1,c2,_::c1',c2',_,r2,rfl,rfl,by simp only [J5,e3,k1,k2]; rfl,e4,by rw [Bool.and_assoc]⟩
     ·cases h
    ·split at h
     ·rename_i r' h'
      cases h
      obtain ⟨c1,c2,c1',c2',r1,r2,e1,e2,e3,e4,e5⟩:=ih _ _ _ _ h'
      subst e1 e2 e5
      exact ⟨_::c1,c2,_::c1',c2',_,r2,rfl,rfl,by simp only [J5,e3]; rfl,e4,by rw [Bool.and_assoc]⟩
     ·cases h
theorem Xc {dd:TypeDesc} {z:ZK} {c c':AV} {b:Bool} {u v:Value} (w:World) (d:Nat) (hu:P.underlying t=some dd) (hk:TI z dd) (h:J5 [z] [c] [c']=some b) (hx:cO w I O D c u) (hy:cO w I O D c' v):(Op.equalIn (d+1) t u v).run P w=.ok b w:=by
 cases z with
 | int kk=>
  cases c<;>cases c'<;>simp only [J5] at h<;>first | (cases h; done) | skip
  rename_i k1 a k2 b;split at h
  ·rename_i r' e1 e2 e3;cases e3;cases h;have e1:kk=k1:=by simpa [rQ] using e1
   have e2:kk=k2:=by simpa [rQ] using e2
   subst e1; subst e2;rw [hx.fQ,hy.fQ,Bool.and_true];rw [hk] at hu;exact run_equalIn_int w d _ _ _ _ _ hu
  ·cases h
 | bool=>
  cases c<;>cases c'<;>simp only [J5] at h<;>first | (cases h; done) | skip
  cases h;rw [hx.jr,hy.jr,Bool.and_true];rw [hk] at hu;exact run_equalIn_bool' w d _ _ _ hu
 | str=>
  cases c<;>cases c'<;>simp only [J5] at h<;>first | (cases h; done) | skip
  cases h;rw [hx.vw,hy.vw,Bool.and_true];rw [hk] at hu;exact run_equalIn_string w d _ _ _ hu
 | slice=>exact hk.elim
 | ptr=>exact hk.elim
 | other=>exact hk.elim
theorem AU {fs:Array Field} (hu:P.underlying t=some (.struct fs)) (vs:Array Value) (i:Nat) (w:World):(part t vs i).run P w=.ok (.agg (vs.extract i (i+P.cellsOf t))) w:=by
 obtain ⟨ti,hi⟩:=info_of_underlying hu;simp [part,isAgg,run_underlying hu,run_sizeOf w hi]
theorem aaR (n:Nat) (xs ys:Array Value) (w:World) (d:Nat)
  (IH:∀(t:TypeId) (zs:List ZK) (cs cs':List AV) (us vs:Array Value) (r:Bool),EqT P n t zs→J5 zs cs cs'=some r→us.size=cs.length→vs.size=cs'.length→(∀j,j<cs.length→cO w I O D (nth cs j) (us.getD j Go.undef))→(∀j,j<cs'.length→cO w I O D (nth cs' j) (vs.getD j Go.undef))→(Op.equalIn (d+1) t (.agg us) (.agg vs)).run P w=.ok r w):
  ∀(fs:List Field) (zs:List ZK) (cs cs':List AV) (k:Nat) (r:Bool),J5 zs cs cs'=some r→ac2 P (EqT P n) fs zs k→
  k+cs.length≤xs.size→k+cs'.length≤ys.size→(∀j,j<cs.length→cO w I O D (nth cs j) (xs.getD (k+j) Go.undef))→(∀j,j<cs'.length→cO w I O D (nth cs' j) (ys.getD (k+j) Go.undef))→
  (Op.eqFields (d+1) xs ys fs).run P w=.ok r w:=by
 intro fs;induction fs with
 | nil=>
  intro zs cs cs' k r h hz _ _ _ _;cases zs with
  | cons=>exact hz.elim
  | nil=>cases cs<;>cases cs'<;>simp [J5] at h ⊢ <;> (subst h; simp [Op.eqFields])
 | cons f fs ih=>
  intro zs cs cs' k r h hz hx hy hrx hry;obtain ⟨hnm,hof,z1,z2,rfl,hz1,hz2⟩:=hz;obtain ⟨c1,c2,c1',c2',r1,r2,rfl,rfl,e3,e4,rfl⟩:=ac6 _ _ _ _ _ h;obtain ⟨l1,l2⟩:=ac5 _ _ _ _ e3;simp only [List.length_append] at hx hy hrx hry;have nx1:∀j,j<c1.length→nth (c1++c2) j=nth c1 j:=λ j hj=>Sr _ _ hj;have nx2:∀j,nth (c1++c2) (c1.length+j)=nth c2 j:=λ j=>Sv _ _ j;have ny1:∀j,j<c1'.length→nth (c1'++c2') j=nth c1' j:=λ j hj=>Sr _ _ hj;have ny2:∀j,nth (c1'++c2') (c1'.length+j)=nth c2' j:=λ j=>Sv _ _ j;have ih':=ih z2 c2 c2' (k+z1.length) r2 e4 hz2 om om (λ j hj=>by
   have:=hrx (c1.length+j) om;rw [nx2,show k+(c1.length+j)=k+z1.length+j by omega] at this;exact this) (λ j hj=>by
   have:=hry (c1'.length+j) om;rw [ny2,show k+(c1'.length+j)=k+z1.length+j by omega] at this;exact this)
  have step:∀(u v:Value),(part f.type xs k).run P w=.ok u w→(part f.type ys k).run P w=.ok v w→(Op.equalIn (d+1) f.type u v).run P w=.ok r1 w→(Op.eqFields (d+1) xs ys (f::fs)).run P w=.ok (r1&&r2) w:=by
   intro u v px py hb;rw [Op.eqFields,if_pos hnm];simp only [hof,Sem.run_bind,px,py,Result.andThen_ok,hb];cases r1
   ·simp
   ·simpa using ih'
  rcases hz1 with ⟨z,dd,rfl,hu,hk⟩ | ⟨ho,hs⟩
  ·have hd:dd.isRow=false:=by cases z<;>simp only [TI] at hk<;>first | (subst hk; rfl) | exact hk.elim
   cases c1 with
   | nil=>simp at l1
   | cons c c1=>cases c1 with
    | cons=>simp at l1
    | nil=>cases c1' with
     | nil=>simp at l2
     | cons c' c1'=>cases c1' with
      | cons=>simp at l2
      | nil=>
       simp only [List.length_singleton] at hx hy hrx hry
       have hx0:=hrx 0 om
       have hy0:=hry 0 om
       exact step _ _ (vB hu hd xs k om w) (vB hu hd ys k om w) (Xc w d hu hk e3 hx0 hy0)
  ·cases n with
   | zero=>exact ho.elim
   | succ n=>
    obtain ⟨fields,hu,_,_⟩:=id ho;refine step _ _ (AU hu xs k w) (AU hu ys k w) ?_;rw [hs];refine IH _ z1 c1 c1' _ _ r1 ho e3 (by rw [Array.size_extract]; omega) (by rw [Array.size_extract]; omega) (λ j hj=>?_) (λ j hj=>?_)
    ·have:=hrx j om;rw [nx1 j hj] at this;rw [He _ _ _ _ om om];exact this
    ·have:=hry j om;rw [ny1 j hj] at this;rw [He _ _ _ _ om om];exact this
theorem ac7 (w:World):∀(n d:Nat) (t:TypeId) (zs:List ZK) (cs cs':List AV) (us vs:Array Value) (r:Bool),EqT P n t zs→J5 zs cs cs'=some r→us.size=cs.length→vs.size=cs'.length→(∀j,j<cs.length→cO w I O D (nth cs j) (us.getD j Go.undef))→(∀j,j<cs'.length→cO w I O D (nth cs' j) (vs.getD j Go.undef))→(Op.equalIn (d+n+1) t (.agg us) (.agg vs)).run P w=.ok r w:=by
 intro n;induction n with
 | zero=>intro d t zs cs cs' us vs r h; exact h.elim
 | succ n IH=>
  intro d t zs cs cs' us vs r ⟨fields,hu,hh,hf⟩ h hl hl' hx hy;have hfo:P.fieldsOf t=fields:=by unfold Program.fieldsOf; rw [hu]
  rw [show d+(n+1)+1=(d+n+1)+1 by omega,run_equalIn_struct (P:=P) w (d+n+1) t us vs (by rw [hfo]; exact hu) hh,hfo];exact aaR (I:=I) (O:=O) (D:=D) n us vs w (d+n) (λ t zs cs cs' us vs r a b c e f g=>IH d t zs cs cs' us vs r a b c e f g) fields.toList zs cs cs' 0 r h hf om om (λ j hj=>by simpa using hx j hj) (λ j hj=>by simpa using hy j hj)
theorem yE (hc:fq P cfg) {zs:List ZK} (ht:look cfg.eqs t=some zs) {cs cs':List AV} {xs ys:Array Value} {r:Bool} (h:J5 zs cs cs'=some r) (hl:xs.size=cs.length) (hl':ys.size=cs'.length)
  (hx:∀j,j<cs.length→cO w I O D (nth cs j) (xs.getD j Go.undef)) (hy:∀j,j<cs'.length→cO w I O D (nth cs' j) (ys.getD j Go.undef)):(Op.equalIn 10000 t (.agg xs) (.agg ys)).run P w=.ok r w:=
 ac7 w 4 9995 t zs cs cs' xs ys r (hc.eqs t zs ht).ex h hl hl' hx hy
theorem aaS (hc:fq P cfg) (hR:Rel cfg cx H D w I O) {op:BinOp} {t':TypeId} {y:Operand} (ho:o.op=.binOp op t x y t') (hx:cO w I O D (ρ x) (a.eval x)) (hy:cO w I O D (ρ y) (a.eval y))
  (h:dK Sp H (aay cfg op t (ρ x) (ρ y)) v ups r):dG P cfg cx H D w I O bW o a v ups:=by
 unfold aay at h;split at h
 ·rename_i k n k' n' e1 e2;rw [e1] at hx; rw [e2] at hy;have hx':=hx.fQ;have hy':=hy.fQ;cases hsl:aax op with
  | true=>
   simp only [hsl] at h;cases op<;>simp [aax] at hsl;obtain ⟨hp,rfl,rfl⟩:=h.eY;have hg:∀(u:World),(eqGuard .shl t x y (.int k n) (.int k' n')).run P u=.ok () u:=by
    intro u; unfold eqGuard; simp
   refine dG.bZ (x:=.int k _) hR ?_ (.pure (.int _ _));have hp':=Int.not_lt.2 hp;simp only [execOp,ho,hx',hy',hg,binOp,Op.shift,if_neg hp',acS,Sem.run_bind,Result.andThen_ok,Sem.run_pure]
  | false=>
  simp only [hsl] at h;obtain ⟨hk1,h1⟩:=h.bq;clear h;have hk:k=k':=by simpa [rQ] using hk1
  subst hk;have hg:∀(u:World),(eqGuard op t x y (.int k n) (.int k n')).run P u=.ok () u:=by
   intro u; unfold eqGuard; cases op<;>simp
  cases ha:GZ op with
  | true=>
   simp only [ha] at h1;cases hk2:rQ k .i64 with
   | true=>
    simp only [hk2] at h1;have h2:=h1;clear h1;have hk:k=.i64:=by simpa [rQ] using hk2
    subst hk;cases op<;>simp [GZ] at ha<;>simp only [arith] at h2<;>obtain ⟨hp,rfl,rfl⟩:=h2.eY<;>
     refine dG.bZ (x:=.int .i64 _) hR ?_ (.pure (.int _ _))<;>simp [execOp,ho,hx',hy',hg,binOp,Op.intArith,Op.intDiv,wrap_i64,hp]
   | false=>
    simp only [hk2] at h1;cases op<;>simp [GZ] at ha<;>simp only [aaw] at h1<;>first
     | exact (dK.aJ h1).elim
     | (obtain ⟨rfl,rfl⟩:=h1.dn
        refine dG.bZ (x:=.int k _) hR ?_ (.pure (.int _ _))
        simp [execOp,ho,hx',hy',hg,binOp,Op.intArith])
  | false=>
   simp only [ha] at h1;cases op<;>simp [GZ] at ha<;>simp only [agr] at h1<;>first
    | exact (dK.aJ h1).elim
    | (obtain ⟨rfl,rfl⟩:=h1.dn
       refine dG.bZ (x:=.bool _) hR ?_ (.pure (.bool _))
       simp [execOp,ho,hx',hy',hg,binOp,Op.intCmp]
       done)
    | (obtain ⟨hp,rfl,rfl⟩:=h1.eY
       refine dG.bZ (x:=.int k _) hR ?_ (.pure (.int _ _))
       have hp':=Int.not_lt.2 hp
       simp only [execOp,ho,hx',hy',hg,binOp,Op.shift,if_neg hp',Ce,Sem.run_bind,Result.andThen_ok,Sem.run_pure]
       done)
    | (obtain ⟨rfl,rfl⟩:=h1.dn
       refine dG.bZ (x:=.int k _) hR ?_ (.pure (.int _ _))
       simp [execOp,ho,hx',hy',hg,binOp,Op.intBits,zU]
       done)
    | (obtain ⟨rfl,rfl⟩:=h1.dn
       refine dG.bZ (x:=.int k _) hR ?_ (.pure (.int _ _))
       simp [execOp,ho,hx',hy',hg,binOp,Op.intBits,orI])
 ·rename_i b b' e1 e2;rw [e1] at hx; rw [e2] at hy;have hx':=hx.jr;have hy':=hy.jr;obtain ⟨ti,ht,h1⟩:=h.iG;clear h;have hg:∀(u:World),(eqGuard op t x y (.bool b) (.bool b')).run P u=.ok () u:=by
   intro u; unfold eqGuard; cases op<;>simp
  have hd:ti.desc=.bool→P.underlying t=some .bool:=by
   intro hd;obtain ⟨i,d,z,_,hu,_,_,_,_,_,_,_,hm⟩:=(hc.ty t ti ht).ex;rw [hd] at hm;rw [hu,hm]
  split at h1
  ·rename_i hdd;obtain ⟨rfl,rfl⟩:=h1.dn;refine dG.bZ (x:=.bool _) hR ?_ (.pure (.bool _));have e:=run_equal_bool (P:=P) (hd hdd) b b' w;simp [execOp,ho,hx',hy',hg,binOp,e]
  ·rename_i hdd;obtain ⟨rfl,rfl⟩:=h1.dn;refine dG.bZ (x:=.bool _) hR ?_ (.pure (.bool _));have e:=run_equal_bool (P:=P) (hd hdd) b b' w;simp [execOp,ho,hx',hy',hg,binOp,e]
  ·exact (dK.aJ h1).elim
 ·rename_i s s' e1 e2;rw [e1] at hx; rw [e2] at hy;have hx':=hx.vw;have hy':=hy.vw;have hg:∀(u:World),(eqGuard op t x y (.string s) (.string s')).run P u=.ok () u:=by
   intro u; unfold eqGuard; cases op<;>simp
  unfold ad5 at h;cases op<;>simp only at h<;>first
   | exact (dK.aJ h).elim
   | (obtain ⟨rfl,rfl⟩:=h.dn
      refine dG.bZ (x:=.bool _) hR ?_ (.pure (.bool _))
      simp [execOp,ho,hx',hy',hg,binOp,Op.stringOp]
      done)
   | (obtain ⟨hp,rfl,rfl⟩:=h.eY
      refine dG.bZ (x:=.string _) hR ?_ (.pure (.str _))
      have hle:¬ (((s.size+s'.size:Nat):Int) > IntKind.i64.max):=by
       have:IntKind.i64.max=9223372036854775807:=by decide
       rw [this]
       omega
      simp only [execOp,ho,hx',hy',binOp,Op.stringOp,Sem.run_bind,hg,Result.andThen_ok]
      rw [if_neg hle]
      rfl)
 ·rename_i cs cs' e1 e2;rw [e1] at hx; rw [e2] at hy;obtain ⟨xs,hx',hl,hrx⟩:=hx.lX;obtain ⟨ys,hy',hl',hry⟩:=hy.lX;split at h
  ·rename_i zs hz;have hg:∀(u:World),(eqGuard op t x y (.agg xs) (.agg ys)).run P u=.ok () u:=λ u=>run_eqGuard_agg u op t x y xs ys (hc.eqs t zs hz).guard;split at h
   ·rename_i r' he;obtain ⟨rfl,rfl⟩:=h.dn;have e:=yE hc hz he hl hl' hrx hry;refine dG.bZ (x:=.bool _) hR ?_ (.pure (.bool _));simp only [execOp,ho,hx',hy',Sem.run_bind,hg,Result.andThen_ok,run_eql_struct,e];rfl
   ·rename_i r' he;obtain ⟨rfl,rfl⟩:=h.dn;have e:=yE hc hz he hl hl' hrx hry;refine dG.bZ (x:=.bool _) hR ?_ (.pure (.bool _));simp only [execOp,ho,hx',hy',Sem.run_bind,hg,Result.andThen_ok,run_neq_struct,e];rfl
   ·exact (dK.aJ h).elim
  ·exact (dK.aJ h).elim
 ·exact (dK.aJ h).elim
theorem ac8 (hR:Rel cfg cx H D w I O) {op:UnOp} (ho:o.op=.unOp op t x) (hx:cO w I O D (ρ x) (a.eval x))
  (h:dK Sp H (eZ cfg bW (.unOp op t x) ρ) v ups r):dG P cfg cx H D w I O bW o a v ups:=by
 simp only [eZ] at h;split at h
 ·rename_i b e;rw [e] at hx;obtain ⟨rfl,rfl⟩:=h.dn;refine dG.bZ (x:=.bool _) hR ?_ (.pure (.bool _));simp [execOp,ho,hx.jr,Op.unary]
 ·rename_i k n e;rw [e] at hx;obtain ⟨hk1,h1⟩:=h.bq;have hk:k=.i64:=by simpa [rQ] using hk1
  subst hk;obtain ⟨hp,rfl,rfl⟩:=h1.eY;refine dG.bZ (x:=.int .i64 _) hR ?_ (.pure (.int _ _));simp [execOp,ho,hx.fQ,Op.unary,Op.intArith,wrap_i64 hp]
 ·exact (dK.aJ h).elim
theorem Ve (hR:Rel cfg cx H D w I O) (ho:o.op=.nilCheck x) (hx:cO w I O D (ρ x) (a.eval x))
  (h:dK Sp H (eZ cfg bW (.nilCheck x) ρ) v ups r):dG P cfg cx H D w I O bW o a v ups:=by
 simp only [eZ] at h;split at h
 ·rename_i ob i off e;rw [e] at hx;obtain ⟨obj,_,lg,h1⟩:=h.jN;obtain ⟨rfl,rfl⟩:=h1.dn;cases hp:O ob with
  | none=>rw [(hR.dom ob).1 hp] at lg; cases lg
  | some p=>
   obtain ⟨b,bo,sz,h1,h2,h3⟩:=hx.kQ hp;exact dG.bZ hR (by simp [execOp,ho,h3]) (h3 ▸ hx)
 ·rename_i cs e;rw [e] at hx;obtain ⟨rfl,rfl⟩:=h.dn;generalize hxe:a.eval x=xv at hx;have hx0:=hx;cases hx.O6;exact dG.bZ hR (by simp [execOp,ho,hxe]) hx0
 ·rename_i f cs e;rw [e] at hx;obtain ⟨rfl,rfl⟩:=h.dn;obtain ⟨vs,h1,h2,h3⟩:=hx.vW;exact dG.bZ hR (by cases hb:Nat.blt f FN<;>simp [execOp,ho,h1,fnVal,hb]) (h1 ▸ hx)
 ·exact (dK.aJ h).elim
theorem Xd (hR:Rel cfg cx H D w I O) {t:Operand} {i:Nat} (ho:o.op=.extract t i) (hx:cO w I O D (ρ t) (a.eval t))
  (h:dK Sp H (eZ cfg bW (.extract t i) ρ) v ups r):dG P cfg cx H D w I O bW o a v ups:=by
 simp only [eZ] at h;split at h
 ·rename_i vs e;rw [e] at hx;obtain ⟨hl,h1⟩:=h.bq;obtain ⟨rfl,rfl⟩:=h1.dn;obtain ⟨xs,h1,h2,h3⟩:=hx.zY;have hl:i<vs.length:=by simpa using hl
  have hi:i<xs.size:=by omega
  refine dG.bZ (x:=xs.getD i Go.undef) hR ?_ (h3 i hl);simp [execOp,ho,h1,Instr.extract,Array.getElem?_eq_getElem hi]
 ·exact (dK.aJ h).elim
theorem TJ {l:List Operand} (h:∀x∈l,cO w I O D (ρ x) (a.eval x)):∀j,j<(l.map ρ).length→cO w I O D (nth (l.map ρ) j) ((l.map a.eval).toArray.getD j Go.undef):=by
 intro j hj;have hj':j<l.length:=by simpa using hj
 rw [pq];simp [hj'];exact h _ (List.getElem_mem hj')
theorem Vf (hR:Rel cfg cx H D w I O) {fn:Fn} {first cap:Array Operand} (ho:o.op=.makeFunc fn first cap) (hx:∀x∈cap.toList,cO w I O D (ρ x) (a.eval x))
  (h:dK Sp H (eZ cfg bW (.makeFunc fn first cap) ρ) v ups r):dG P cfg cx H D w I O bW o a v ups:=by
 simp only [eZ] at h;split at h
 ·rename_i f e;obtain ⟨hlt,h⟩:=h.bq;obtain ⟨rfl,rfl⟩:=h.dn;have hf:first=#[]:=by simpa using e
  subst hf;refine dG.bZ (x:=fnVal f (cap.map a.eval)) hR (by simp [execOp,ho,Instr.makeFunc,G7 hlt]) (.fn (by simp) λ j hj=>?_);have:=TJ hx j hj;simpa using this
 ·exact (dK.aJ h).elim
variable {c:Call}
theorem aeS (hc:fq P cfg) (hR:Rel cfg cx H D w I O) (ho:o.op=.call c) (hcl:c.callee=.builtin .cap) (hx:∀x∈c.args.toList,cO w I O D (ρ x) (a.eval x))
  (h:dK Sp H (eZ cfg bW (.call c) ρ) v ups r):dG P cfg cx H D w I O bW o a v ups:=by
 simp only [eZ,hcl] at h;split at h
 ·rename_i es n g t e1 e2;obtain ⟨ti,ht,h1⟩:=h.iG;obtain ⟨x,hxe⟩:∃x,c.args=#[x]:=by
   match hl:c.args.toList with
   | []=>simp [hl] at e1
   | [x]=>exact ⟨x,by rw [← Array.toList_inj]; simpa using hl⟩
   | x::y::l=>simp [hl] at e1
  have Yz:ρ x=.sl es n true g:=by simpa [hxe] using e1
  have hx':cO w I O D (.sl es n true g) (a.eval x):=Yz ▸ hx x (by simp [hxe]);have hte:c.argTypes=#[t]:=by rw [← Array.toList_inj]; simpa using e2
  obtain ⟨_,dd,_,_,hud,_,_,_,_,_,_,_,hm⟩:=(hc.ty t ti ht).ex;split at h1
  ·rename_i e;rw [e] at hm;have hm:dd=.slice _:=hm;subst hm;obtain ⟨rfl,rfl⟩:=h1.dn;generalize hxv:a.eval x=xv at hx';have hq:=hx'.rV;cases hq with
   | @sl _ _ _ _ aa cap b off vs hcap hfull ha hes hm h1 hr=>
   have hcn:cap=n:=hfull rfl;subst hcn;refine dG.bZ (x:=.int .i64 _) hR ?_ (.pure (.int _ _));simp [execOp,ho,hcl,resolve,invoke,builtin,Builtin.cap_,hxe,hte,hxv,bn hud,goInt]
  ·exact (dK.aJ h1).elim
 ·exact (dK.aJ h).elim
theorem aeT (hc:fq P cfg) (hR:Rel cfg cx H D w I O) (ho:o.op=.call c) (hcl:c.callee=.builtin .len) (hx:∀x∈c.args.toList,cO w I O D (ρ x) (a.eval x))
  (h:dK Sp H (eZ cfg bW (.call c) ρ) v ups r):dG P cfg cx H D w I O bW o a v ups:=by
 simp only [eZ,hcl] at h;split at h
 ·rename_i u t e1 e2;obtain ⟨ti,ht,h1⟩:=h.iG;obtain ⟨x,hxe⟩:∃x,c.args=#[x]:=by
   match hl:c.args.toList with
   | []=>simp [hl] at e1
   | [x]=>exact ⟨x,by rw [← Array.toList_inj]; simpa using hl⟩
   | x::y::l=>simp [hl] at e1
  have Yz:ρ x=u:=by simpa [hxe] using e1
  have hx':cO w I O D u (a.eval x):=Yz ▸ hx x (by simp [hxe]);have hte:c.argTypes=#[t]:=by rw [← Array.toList_inj]; simpa using e2
  obtain ⟨_,dd,_,_,hud,_,_,_,_,_,_,_,hm⟩:=(hc.ty t ti ht).ex;split at h1
  ·rename_i e;rw [e] at hm;have hm:dd=.slice _:=hm;subst hm;obtain ⟨rfl,rfl⟩:=h1.dn;generalize hxv:a.eval x=xv at hx';cases hx'.rV;refine dG.bZ (x:=.int .i64 _) hR ?_ (.pure (.int _ _));simp [execOp,ho,hcl,resolve,invoke,builtin,Builtin.len_,hxe,hte,hxv,bn hud,goInt]
  ·rename_i ob i n f _ e;rw [e] at hm;have hm:dd=.slice _:=hm;subst hm;obtain ⟨obj,_,lg,h2⟩:=h1.jN;obtain ⟨rfl,rfl⟩:=h2.dn;cases hp:O ob with
   | none=>rw [(hR.dom ob).1 hp] at lg; cases lg
   | some p=>
    obtain ⟨aa,cap,hxv,_⟩:=hx'.jH hp;refine dG.bZ (x:=.int .i64 _) hR ?_ (.pure (.int _ _));simp [execOp,ho,hcl,resolve,invoke,builtin,Builtin.len_,hxe,hte,hxv,bn hud,goInt]
  ·rename_i s e;rw [e] at hm;have hm:dd=.string:=hm;subst hm;obtain ⟨rfl,rfl⟩:=h1.dn;refine dG.bZ (x:=.int .i64 _) hR ?_ (.pure (.int _ _));simp [execOp,ho,hcl,resolve,invoke,builtin,Builtin.len_,hxe,hte,hx'.vw,bn hud,goInt]
  ·exact (dK.aJ h1).elim
 ·exact (dK.aJ h).elim
theorem args2 {u u':AV} (e:c.args.toList.map ρ=[u,u']):∃x y,c.args=#[x,y]∧ρ x=u∧ρ y=u':=by
 match hl:c.args.toList with
 | []=>simp [hl] at e
 | [x]=>simp [hl] at e
 | [x,y]=>
  rw [hl] at e
  simp at e
  exact ⟨x,y,by rw [← Array.toList_inj]; simpa using hl,e.1,e.2⟩
 | x::y::z::l=>simp [hl] at e
theorem aeU (hR:Rel cfg cx H D w I O) (ho:o.op=.call c) (hcl:c.callee=.builtin .min) (hx:∀x∈c.args.toList,cO w I O D (ρ x) (a.eval x))
  (h:dK Sp H (eZ cfg bW (.call c) ρ) v ups r):dG P cfg cx H D w I O bW o a v ups:=by
 simp only [eZ,hcl] at h;split at h
 ·rename_i k n k' n' e;obtain ⟨rfl,rfl⟩:=h.dn;obtain ⟨x,y,hxy,e1,e2⟩:=args2 e;have h1:=e1 ▸ hx x (by simp [hxy]);have h2:=e2 ▸ hx y (by simp [hxy]);refine dG.bZ (x:=.int k _) hR ?_ (.pure (.int _ _));simp [execOp,ho,hcl,resolve,invoke,builtin,Builtin.min_,Builtin.min2,hxy,h1.fQ,h2.fQ]
 ·exact (dK.aJ h).elim
theorem aeV (hR:Rel cfg cx H D w I O) (ho:o.op=.call c) (hcl:c.callee=.builtin .max) (hx:∀x∈c.args.toList,cO w I O D (ρ x) (a.eval x))
  (h:dK Sp H (eZ cfg bW (.call c) ρ) v ups r):dG P cfg cx H D w I O bW o a v ups:=by
 simp only [eZ,hcl] at h;split at h
 ·rename_i k n k' n' e;obtain ⟨rfl,rfl⟩:=h.dn;obtain ⟨x,y,hxy,e1,e2⟩:=args2 e;have h1:=e1 ▸ hx x (by simp [hxy]);have h2:=e2 ▸ hx y (by simp [hxy]);refine dG.bZ (x:=.int k _) hR ?_ (.pure (.int _ _));simp [execOp,ho,hcl,resolve,invoke,builtin,Builtin.max_,Builtin.max2,hxy,h1.fQ,h2.fQ]
 ·exact (dK.aJ h).elim
theorem fq.field (hc:fq P cfg) {s:TypeId} {ts:Ei} {f oo t:Nat} (h:look cfg.ty s=some ts) (hf:Ej ts f=some (oo,t)):
  ∃fields fd,P.underlying s=some (.struct fields)∧fields[f]? = some fd∧fd.offset=oo∧fd.type=t:=by
 obtain ⟨_,dd,_,_,hud,_,_,_,_,_,_,_,hm⟩:=(hc.ty s ts h).ex;unfold Ej at hf;split at hf
 ·rename_i fs e;rw [e] at hm;obtain ⟨fields,rfl,hfs⟩:=hm;subst hfs;have key:∀(l:List Field) (f:Nat),M6 (l.map λ f=>(f.offset,f.type)) f=some (oo,t)→∃fd,l[f]? = some fd∧fd.offset=oo∧fd.type=t:=by
   intro l;induction l with
   | nil=>intro f h; simp [M6] at h
   | cons x l ih=>
    intro f h;cases f with
    | zero=>simp [M6] at h; exact ⟨x,rfl,h.1,h.2⟩
    | succ f=>simp only [List.map_cons,M6] at h; simpa using ih f h
  obtain ⟨fd,h1,h2,h3⟩:=key _ _ hf;exact ⟨fields,fd,hud,by simpa using h1,h2,h3⟩
 ·cases hf
theorem Ck (l:List AV) (k j:Nat):nth (l.drop k) j=nth l (k+j):=by
 simp [pq]
theorem TK (hc:fq P cfg) (hR:Rel cfg cx H D w I O) {s:TypeId} {f:Nat} (ho:o.op=.fieldAddr s x f) (hx:cO w I O D (ρ x) (a.eval x))
  (h:dK Sp H (eZ cfg bW (.fieldAddr s x f) ρ) v ups r):dG P cfg cx H D w I O bW o a v ups:=by
 simp only [eZ] at h;obtain ⟨ts,hs,h1⟩:=h.iG;split at h1
 ·rename_i oo t hf;obtain ⟨ti,ht,h2⟩:=h1.iG;obtain ⟨hpos,h3⟩:=h2.bq;have hpos:0<ti.size:=by simpa using hpos
  obtain ⟨fields,fd,hu,hfd,ho1,ho2⟩:=hc.field hs hf;obtain ⟨i,_,_,hi,_,_,hsz,_⟩:=(hc.ty t ti ht).ex;have hne:¬ i.size=0:=by omega
  have place:∀b bo,(Instr.fieldAt s (.pointer (some ⟨b,bo,none⟩)) f).run P w=.ok (.pointer (some ⟨b,bo+oo,none⟩)) w:=by
   intro b bo;simp [Instr.fieldAt,Instr.sureAddr,bn hu,hfd,fieldPlace,ho1,ho2,eB hi,hne,Addr.add_mid]
  split at h3
  ·rename_i ob i off e;rw [e] at hx;obtain ⟨obj,_,lg,h4⟩:=h3.jN;obtain ⟨rfl,rfl⟩:=h4.dn;cases hp:O ob with
   | none=>rw [(hR.dom ob).1 hp] at lg; cases lg
   | some p=>
    obtain ⟨b,bo,sz,h5,h6,h7⟩:=hx.kQ hp;refine dG.bZ (x:=.pointer (some ⟨b,bo+(i*p.es+(off+oo)),none⟩)) hR ?_ (.ptr hp h5 h6);have:bo+(i*p.es+off)+oo=bo+(i*p.es+(off+oo)):=by omega
    simp [execOp,ho,h7,place,this]
  ·rename_i cs e;rw [e] at hx;obtain ⟨rfl,rfl⟩:=h3.dn;generalize hxv:a.eval x=xv at hx;cases hx.O6 with
   | ro b off vs hI hm hr=>
    refine dG.bZ (x:=.pointer (some ⟨b,off+oo,none⟩)) hR (by simp [execOp,ho,hxv,place]) (.pure (.ro b (off+oo) (λ j=>vs (oo+j)) hI (λ j hj=>?_) λ j hj=>?_))
    ·have:=hm (oo+j) (by simp at hj; omega);rw [← this,Nat.add_assoc]
    ·rw [Ck]; exact hr (oo+j) (by simp at hj; omega)
  ·exact (dK.aJ h3).elim
 ·exact (dK.aJ h1).elim
end
end Go.Ab
namespace Go.Ab
section
variable {P:Program} {cfg:qz} {cx:Ctx} {H:Nat→Option cu} {D:Nat→Prop} {w:World} {I:Nat→Prop} {O:OM} {Sp:kL}
variable {bW:Nat} {o:Oper} {a:Act} {ρ:Operand→AV} {v:AV} {ups:jh} {r:List Nat}
variable {t:TypeId}
theorem fq.agg (hc:fq P cfg) {ti:Ei} (h:look cfg.ty t=some ti):∃i d,P.info? t=some i∧P.underlying t=some d∧d.isRow=ti.agg∧i.size=ti.size:=by
 obtain ⟨i,d,z,h1,h2,h3,h4,h5,h6,_⟩:=(hc.ty t ti h).ex;exact ⟨i,d,h1,h2,h6,h4⟩
theorem Kh {d:TypeDesc} (h:P.underlying t=some d) (w:World):(isAgg t).run P w=.ok d.isRow w:=by
 unfold isAgg;rw [Sem.run_bind,bn h w];cases d<;>simp
theorem mD (hc:fq P cfg) {ti:Ei} (ht:look cfg.ty t=some ti) {cs:List AV} (h:dK Sp H (uq ti cs) v ups r) (b bo:Nat) (f:Nat→Value)
  (hm:∀j,j<cs.length→w.cell? ⟨b,bo+j,none⟩=some (f j)) (hr:∀j,j<cs.length→cO w I O D (nth cs j) (f j)):
  ups=[]∧∃x,(Instr.loadAt t (.pointer (some ⟨b,bo,none⟩))).run P w=.ok x w∧cO w I O D v x:=by
 obtain ⟨i,d,hi,hu,hd,hs⟩:=hc.agg ht;unfold uq at h;cases ha:ti.agg with
 | true=>
  simp only [ha] at h;obtain ⟨hl,h1⟩:=h.bq;obtain ⟨rfl,rfl⟩:=h1.dn;have hl:ti.size≤cs.length:=by simpa using hl
  refine ⟨rfl,.agg ((List.range ti.size).map f).toArray,?_,.agg (by simp [Nat.min_eq_left hl]) λ j hj=>?_⟩
  ·refine run_loadAt_mid w b bo t _ d (λ j u hj=>?_) hu (by rw [hd,ha]) (by simp [hi,hs]);have hlt:j<ti.size:=by
    rcases Nat.lt_or_ge j ti.size with h | h
    ·exact h
    ·simp [h] at hj
   simp [hlt] at hj;rw [← hj];exact hm j om
  ·have hj':j<ti.size:=by simp at hj; omega
   have e:nth (List.take ti.size cs) j=nth cs j:=by simp [pq,hj']
   rw [e];simpa [hj'] using hr j om
 | false=>
  simp only [ha] at h;cases cs with
  | nil=>exact (dK.aJ h).elim
  | cons c cs=>
   obtain ⟨rfl,rfl⟩:=h.dn;refine ⟨rfl,f 0,?_,hr 0 (by simp)⟩;have h0:=hm 0 (by simp);have hag:(isAgg t).run P w=.ok false w:=by rw [Kh hu,hd,ha]
   simp only [Nat.add_zero] at h0;simp [Instr.loadAt,Instr.sureAddr,loadVar,Sem.run_bind,hag,load,Sem.run,h0]
theorem Rel.live (hR:Rel cfg cx H D w I O) {ob:Nat} {x:cu} (h:H ob=some x):∃p,O ob=some p∧gJ w I O D p x:=by
 cases hp:O ob with
 | none=>rw [(hR.dom ob).1 hp] at h; cases h
 | some p=>exact ⟨p,rfl,hR.objs ob x p h hp⟩
theorem pV {b sz j:Nat} (h:AQ w b sz) (hj:j<sz):w.cell? ⟨b,j,none⟩=some (cellAt w b j):=by
 obtain ⟨u,hu⟩:=Option.isSome_iff_exists.1 (h j hj).1;simp [cellAt,hu]
theorem Ov {i j:Nat} (h:(Tv i&&Tv j)=true):i=0∧j=0:=by
 cases i<;>cases j<;>simp_all [Tv]
theorem YA (l m:List AV) (j:Nat):nth (l++m) j=if j<l.length then nth l j else nth m (j - l.length):=by
 rw [pq,pq,pq];by_cases h:j<l.length
 ·rw [if_pos h]; simp [List.getElem?_append_left h]
 ·rw [if_neg h]; simp [List.getElem?_append_right (by omega:l.length≤j)]
variable {es:Nat}
theorem Rq {g:Nat→AV}:∀(k i:Nat),(∀j,i≤j→j<i+k→(g j).cells.length=es)→(iW k i g).length=k*es∧∀a b,a<k→b<es→nth (iW k i g) (a*es+b)=nth (g (i+a)).cells b:=by
 intro k;induction k with
 | zero=>intro i _; exact ⟨by simp [iW],λ a b h=>absurd h (Nat.not_lt_zero _)⟩
 | succ k ih=>
  intro i h;obtain ⟨h1,h2⟩:=ih (i+1) (λ j hj hj'=>h j om om);have h0:=h i (Nat.le_refl _) om;refine ⟨by simp only [iW,List.length_append,h0,h1]; rw [Nat.succ_mul]; omega,λ a b ha hb=>?_⟩;simp only [iW];rw [YA,h0];cases a with
  | zero=>simp only [Nat.zero_mul,Nat.zero_add,Nat.add_zero]; rw [if_pos hb]
  | succ a=>
   rw [if_neg (by rw [Nat.succ_mul]; omega)];have e1:(a+1)*es+b - es=a*es+b:=by rw [Nat.succ_mul]; omega
   rw [e1,h2 a b om hb];congr 2;congr 1;omega
variable {n:Nat}
theorem aeW {q:Nat} (h:q<n*es):q / es<n∧q % es<es∧q / es*es+q % es=q:=by
 have hes:0<es:=by
  rcases Nat.eq_zero_or_pos es with h0 | h0
  ·subst h0; simp at h
  ·exact h0
 refine ⟨Nat.div_lt_of_lt_mul (by rw [Nat.mul_comm]; exact h),Nat.mod_lt _ hes,?_⟩;rw [Nat.mul_comm];exact Nat.div_add_mod q es
theorem Hf {w:World} {I:Nat→Prop} {b bo:Nat} {g:Nat→AV} (hlen:∀i,i<n→(g i).cells.length=es) (hcs:∀i j,i<n→j<es→fC w I (nth (g i).cells j) (cellAt w b (bo+(i*es+j)))∧(cellAt w b (bo+(i*es+j))).oneCell'=true):
  (iW n 0 g).length=n*es∧∀q,q<(iW n 0 g).length→fC w I (nth (iW n 0 g) q) (cellAt w b (bo+q)):=by
 obtain ⟨h1,h2⟩:=Rq n 0 (λ j _ hj=>hlen j om);refine ⟨h1,λ q hq=>?_⟩;rw [h1] at hq;obtain ⟨h3,h4,h5⟩:=aeW hq;have h6:=h2 (q / es) (q % es) h3 h4;have h7:=(hcs (q / es) (q % es) h3 h4).1;rw [h5] at h6 h7;rw [h6,Nat.zero_add];exact h7
variable {x:Operand}
theorem ac9 (hc:fq P cfg) (hR:Rel cfg cx H D w I O) (ho:o.op=.load t x) (hx:cO w I O D (ρ x) (a.eval x))
  (h:dK Sp H (eZ cfg bW (.load t x) ρ) v ups r):dG P cfg cx H D w I O bW o a v ups:=by
 simp only [eZ] at h;obtain ⟨ti,ht,h1⟩:=h.iG;split at h1
 ·rename_i ob i off e;rw [e] at hx;obtain ⟨obj,_,lg,h2⟩:=h1.jN;obtain ⟨p,hp,hO⟩:=hR.live lg;obtain ⟨b,bo,sz,hpl,hi,hxv⟩:=hx.kQ hp;cases obj with
  | map=>exact (dK.aJ h2).elim
  | box cs=>
   obtain ⟨hn,b',kK,sz',hpl',hal,hle,hcs⟩:=hO;rw [hpl] at hpl';cases hpl';have hi0:i=0:=by omega
   subst hi0;obtain ⟨rfl,x',hrun,hrep⟩:=mD (w:=w) (I:=I) (O:=O) (D:=D) hc ht h2 b (bo+off) (λ j=>cellAt w b (bo+(off+j)))
    (λ j hj=>by rw [Nat.add_assoc]; exact pV hal (by simp at hj; omega)) (λ j hj=>by rw [Ck]; exact hcs (off+j) (by simp at hj; omega))
   refine dG.bZ hR ?_ hrep;simp only [Nat.zero_mul,Nat.zero_add] at hxv;simp [execOp,ho,hxv,hrun]
  | row es n g=>
   obtain ⟨hn,hes,hlen,hpl' | ⟨b',kK,sz',hpl',hal,hle,hcs⟩⟩:=hO
   ·rw [hpl] at hpl'; cases hpl'.2
   rw [hpl] at hpl';cases hpl';simp only at h2;split at h2
   ·obtain ⟨hz,h3⟩:=h2.bq;obtain ⟨rfl,rfl⟩:=Ov hz;obtain ⟨hrl,hrr⟩:=Hf hlen hcs;obtain ⟨rfl,x',hrun,hrep⟩:=mD (w:=w) (I:=I) (O:=O) (D:=D) hc ht h3 b bo (λ j=>cellAt w b (bo+j)) (λ j hj=>pV hal.al om) (λ j hj=>.pure (hrr j hj));refine dG.bZ hR ?_ hrep;simp only [Nat.zero_mul,Nat.zero_add,Nat.add_zero] at hxv;simp [execOp,ho,hxv,hrun]
   obtain ⟨hk,h3⟩:=h2.bq;have hin:i<n:=by omega
   have hmul:(i+1)*es≤n*es:=Nat.mul_le_mul_right _ hin;have ak2:(i+1)*es=i*es+es:=Nat.succ_mul _ _;have hli:=hlen i hin;obtain ⟨rfl,x',hrun,hrep⟩:=mD (w:=w) (I:=I) (O:=O) (D:=D) hc ht h3 b (bo+(i*es+off)) (λ j=>cellAt w b (bo+(i*es+(off+j))))
    (λ j hj=>by
      have:bo+(i*es+off)+j=bo+(i*es+(off+j)):=by omega
      rw [this]
      exact pV hal.al (by simp at hj; omega)) (λ j hj=>by rw [Ck]; exact .pure (hcs i (off+j) hin (by simp at hj; omega)).1)
   refine dG.bZ hR ?_ hrep;rw [hes] at hxv;simp [execOp,ho,hxv,hrun]
 ·rename_i cs e;rw [e] at hx;generalize hxv:a.eval x=xv at hx;cases hx.O6 with
  | ro b off vs hI hm hr=>
   obtain ⟨rfl,x',hrun,hrep⟩:=mD (w:=w) (I:=I) (O:=O) (D:=D) hc ht h1 b off vs hm (λ j hj=>.pure (hr j hj));exact dG.bZ hR (by simp [execOp,ho,hxv,hrun]) hrep
 ·exact (dK.aJ h1).elim
theorem aaT (hc:fq P cfg) (hR:Rel cfg cx H D w I O) {s:TypeId} {f:Nat} (ho:o.op=.field s x f) (hx:cO w I O D (ρ x) (a.eval x))
  (h:dK Sp H (eZ cfg bW (.field s x f) ρ) v ups r):dG P cfg cx H D w I O bW o a v ups:=by
 simp only [eZ] at h;obtain ⟨ts,hs,h1⟩:=h.iG;split at h1
 ·rename_i oo t hf;obtain ⟨ti,ht,h2⟩:=h1.iG;obtain ⟨fields,fd,hu,hfd,ho1,ho2⟩:=hc.field hs hf;obtain ⟨i,d,hi,hu',hd,hsz⟩:=hc.agg ht;split at h2
  ·rename_i cs e;rw [e] at hx;obtain ⟨vs,hxv,hl,hr⟩:=hx.lX;have hag:=Kh hu' w;unfold uq at h2;cases ha:ti.agg with
   | true=>
    simp only [ha] at h2;obtain ⟨hle,h3⟩:=h2.bq;obtain ⟨rfl,rfl⟩:=h3.dn;have hle:ti.size≤cs.length - oo:=by simpa using hle
    rw [hd,ha] at hag;have e1:(part t vs oo).run P w=.ok (.agg (vs.extract oo (oo+ti.size))) w:=by simp [part,Sem.run_bind,hag,eB hi,hsz]
    refine dG.bZ (x:=.agg (vs.extract oo (oo+ti.size))) hR ?_ (.agg ?_ λ j hj=>?_)
    ·rw [← ho2] at e1;simp only [execOp,ho,Instr.field,hxv,Sem.run_bind,bn hu,hfd,asAgg,Sem.run_pure,Result.andThen_ok,e1,ho1]
    ·simp; omega
    ·have hj':j<ti.size:=by simp at hj; omega
     have:=hr (oo+j) om;have e:nth (List.take ti.size (List.drop oo cs)) j=nth cs (oo+j):=by simp [pq,hj']
     rw [e];have h4:oo+j<vs.size:=by omega
     simp [h4] at this;have h5:(vs.extract oo (oo+ti.size))[j]? = vs[oo+j]? := by
      rw [Array.getElem?_extract,if_pos om]
     simp only [Array.getD_eq_getD_getElem?, h5];simpa [h4] using this
   | false=>
    simp only [ha] at h2;rw [hd,ha] at hag;cases hcs:List.drop oo cs with
    | nil=>simp only [hcs] at h2; exact (dK.aJ h2).elim
    | cons c l=>
     simp only [hcs] at h2;obtain ⟨rfl,rfl⟩:=h2.dn;have hlt:oo<cs.length:=by
      rcases Nat.lt_or_ge oo cs.length with h | h
      ·exact h
      ·rw [List.drop_eq_nil_of_le h] at hcs; cases hcs
     have hc0:nth cs oo=v:=by
      have:=Ck cs oo 0;rw [hcs] at this;simpa [nth] using this.symm
     have h4:oo<vs.size:=by omega
     have e1:(part t vs oo).run P w=.ok (vs.getD oo Go.undef) w:=by simp [part,Sem.run_bind,hag,Array.getElem?_eq_getElem h4]
     refine dG.bZ (x:=vs.getD oo Go.undef) hR ?_ (hc0 ▸ hr oo hlt);rw [← ho2] at e1;simp only [execOp,ho,Instr.field,hxv,Sem.run_bind,bn hu,hfd,asAgg,Sem.run_pure,Result.andThen_ok,e1,ho1]
  ·exact (dK.aJ h2).elim
 ·exact (dK.aJ h1).elim
theorem rW {size:Nat} (h:FQ es n size=true) (hn:n≠0):es=size:=by
 unfold FQ at h;cases hb:Nat.beq es size with
 | true=>exact Nat.eq_of_beq_eq_true hb
 | false=>
  simp only [hb] at h;cases n with
  | zero=>exact absurd rfl hn
  | succ n=>simp [Tv] at h
theorem TL (i j:Nat):addN i j=i+j:=by cases i<;>simp [addN]
theorem Sw (hc:fq P cfg) {et:Nat} (h:aaI cfg t=some (n,et)):P.underlying t=some (.array n et)∧∃ti,look cfg.ty t=some ti∧OP ti.desc=some (n,et):=by
 unfold aaI at h;split at h
 ·rename_i ti ht;refine ⟨?_,ti,ht,h⟩;obtain ⟨_,d,_,_,hu,_,_,_,_,_,_,_,hm⟩:=(hc.ty t ti ht).ex;unfold OP at h;split at h
  ·rename_i n' e' hd;cases h;rw [hd] at hm;have hm:d=.array n et:=hm;rw [hu,hm]
  ·cases h
 ·cases h
theorem TM (hc:fq P cfg) (hR:Rel cfg cx H D w I O) {ix:Operand} (ho:o.op=.indexAddr t x ix) (hx:cO w I O D (ρ x) (a.eval x)) (hix:cO w I O D (ρ ix) (a.eval ix))
  (h:dK Sp H (eZ cfg bW (.indexAddr t x ix) ρ) v ups r):dG P cfg cx H D w I O bW o a v ups:=by
 simp only [eZ] at h;split at h
 ·rename_i n et harr;obtain ⟨hu,_⟩:=Sw hc harr;obtain ⟨ei,hei,h1⟩:=h.iG;split at h1
  ·rename_i k ii ob j off e1 e2;rw [e1] at hix;rw [e2] at hx;have Vg:=hix.fQ;obtain ⟨obj,_,lg,h2⟩:=h1.jN;obtain ⟨p,hp,hO⟩:=hR.live lg;obtain ⟨b,bo,sz,hpl,hjn,hxv⟩:=hx.kQ hp;cases obj with
   | map=>exact (dK.aJ h2).elim
   | box cs=>exact (dK.aJ h2).elim
   | row es n' g=>
    obtain ⟨c1,h3⟩:=h2.bq;obtain ⟨c2,h4⟩:=h3.bq;obtain ⟨c3,h5⟩:=h4.bq;obtain ⟨⟨hn0,hn1⟩,rfl,rfl⟩:=h5.eY;obtain ⟨rfl,rfl⟩:=Ov c1;have c2:es=ei.size:=Nat.eq_of_beq_eq_true c2;have c3:n'=n:=Nat.eq_of_beq_eq_true c3;have Ki:p.es=es:=hO.2.1;have hpn:p.n=n':=hO.1;obtain ⟨i,_,z,hi,_,hz,hs,_⟩:=(hc.ty et ei hei).ex;simp only [Nat.zero_mul,Nat.add_zero] at hxv;refine dG.bZ (x:=.pointer (some ⟨b,bo+(ii.toNat*p.es+0),none⟩)) hR ?_ (.ptr hp hpl om);simp [execOp,ho,hxv,Vg,Instr.indexAt,asIntOf,Instr.sureAddr,bn hu,eB hi,hn0,hn1,hs,← c2,Ki,Addr.add_mid]
  ·exact (dK.aJ h1).elim
 obtain ⟨tt,e,ti,h1,h2,h3,h4⟩:=h.kr;obtain ⟨hu,i,z,hi,hz,hs,hby,hzs⟩:=hc.slice h1 h2 h3;split at h4
 ·rename_i k n eix;rw [eix] at hix;have Vg:=hix.fQ;split at h4
  ·rename_i es m full g ex;rw [ex] at hx;obtain ⟨hes,h5⟩:=h4.bq;obtain ⟨⟨hn0,hn1⟩,rfl,rfl⟩:=h5.eY;generalize hxv:a.eval x=xv at hx;cases hx.rV with
   | @sl _ _ _ _ aa cap b off vs hcap hfull ha hes' hm h1 hr=>
    have hm0:m≠0:=by omega
    obtain ⟨rfl,hI⟩:=ha hm0;have aib:=rW hes hm0;have hnm:n.toNat<m:=by omega
    refine dG.bZ (x:=.pointer (some ⟨b,off+n.toNat*es,none⟩)) hR ?_ (.pure (.ro b (off+n.toNat*es) (λ j=>vs n.toNat j) hI (λ j hj=>?_) λ j hj=>hr _ _ hnm (by rw [hes' _ hnm] at hj; exact hj)))
    ·simp [execOp,ho,hxv,Vg,Instr.indexAt,asIntOf,bn hu,eB hi,hn0,hn1,hs,aib,Addr.add_mid]
    ·rw [Nat.add_assoc];exact hm _ _ hnm (by rw [hes' _ hnm] at hj; exact hj)
  ·rename_i ob j m full ex;rw [ex] at hx;obtain ⟨obj,_,lg,h5⟩:=h4.jN;obtain ⟨p,hp,hO⟩:=hR.live lg;cases obj with
   | map=>exact (dK.aJ h5).elim
   | box cs=>exact (dK.aJ h5).elim
   | row es n' g=>
    obtain ⟨hes,h6⟩:=h5.bq;have hes:es=ti.size:=Nat.eq_of_beq_eq_true hes;obtain ⟨⟨hn0,hn1⟩,rfl,rfl⟩:=h6.eY;obtain ⟨aa,cap,hxv,hjm,hcap,hfull,hpl⟩:=hx.jH hp;obtain ⟨b,bo,sz,TN,rfl,hle⟩:=hpl om;have Ki:p.es=es:=hO.2.1;have hnm:n.toNat<m:=by omega
    rw [TL];have:bo+j*p.es+n.toNat*p.es=bo+((j+n.toNat)*p.es+0):=by rw [Nat.add_mul]; omega
    refine dG.bZ (x:=.pointer (some ⟨b,bo+((j+n.toNat)*p.es+0),none⟩)) hR ?_ (.ptr hp TN om);rw [← this];simp [execOp,ho,hxv,Vg,Instr.indexAt,asIntOf,bn hu,eB hi,hn0,hn1,hs,← hes,Ki,Addr.add_mid]
  ·exact (dK.aJ h4).elim
 ·exact (dK.aJ h4).elim
end
end Go.Ab
namespace Go.Ab
section
variable {P:Program} {cfg:qz} {cx:Ctx} {H:Nat→Option cu} {D:Nat→Prop} {w:World} {I:Nat→Prop} {O:OM} {Sp:kL}
variable {bW:Nat} {o:Oper} {a:Act} {ρ:Operand→AV} {v:AV} {ups:jh} {r:List Nat}
variable {t:TypeId}
theorem Fh {e:TypeId} {i:TypeInfo} (hu:P.underlying t=some (.slice e)) (hi:P.info? e=some i) (aa:Option Addr) (len cap:Nat) (lo hi' mx:Option Value) (l h m:Nat)
  (hb:(Instr.sliceBounds true len cap lo hi' mx).run P w=.ok (l,h,m) w):
  (Instr.sliceAt t (.slice aa len cap) lo hi' mx).run P w=.ok (.slice (if m=l then aa else aa.map (·.add (l*i.size))) (h - l) (m - l)) w:=by
 simp [Instr.sliceAt,Instr.slice,bn hu,hb,eB hi]
theorem agD (len cap:Nat):(Instr.sliceBounds true len cap none none none).run P w=.ok (0,len,cap) w:=by
 simp [Instr.sliceBounds]
theorem agE (len cap:Nat) (k:IntKind) (h:Int) (h0:0≤h) (h1:h≤cap):(Instr.sliceBounds true len cap none (some (.int k h)) none).run P w=.ok (0,h.toNat,cap) w:=by
 simp [Instr.sliceBounds,Instr.sliceBound,asIntOf,h0,h1]
theorem agF (len cap:Nat) (k:IntKind) (h:Int) (h0:0≤h) (h1:h≤cap):(Instr.sliceBounds true len cap none (some (.int k h)) (some (.int k h))).run P w=.ok (0,h.toNat,h.toNat) w:=by
 obtain ⟨n,rfl⟩:=Int.eq_ofNat_of_zero_le h0;simp at h1;simp [Instr.sliceBounds,Instr.sliceBound,asIntOf,h1]
theorem agG (len cap:Nat) (k:IntKind) (l:Int) (h0:0≤l) (h1:l≤len):(Instr.sliceBounds true len cap (some (.int k l)) none none).run P w=.ok (l.toNat,len,cap) w:=by
 simp [Instr.sliceBounds,Instr.sliceBound,asIntOf,h0,h1]
theorem agH (len cap:Nat) (k k':IntKind) (l h:Int) (h0:0≤l) (h1:l≤h) (h2:h≤cap):(Instr.sliceBounds true len cap (some (.int k l)) (some (.int k' h)) none).run P w=.ok (l.toNat,h.toNat,cap) w:=by
 obtain ⟨n,rfl⟩:=Int.eq_ofNat_of_zero_le h0;obtain ⟨m,rfl⟩:=Int.eq_ofNat_of_zero_le (Int.le_trans h0 h1);simp at h1 h2;simp [Instr.sliceBounds,Instr.sliceBound,asIntOf,h1,h2]
theorem agI (len cap:Nat) (k k':IntKind) (l h:Int) (h0:0≤l) (h1:l≤h) (h2:h≤cap):(Instr.sliceBounds true len cap (some (.int k l)) (some (.int k' h)) (some (.int k' h))).run P w=.ok (l.toNat,h.toNat,h.toNat) w:=by
 obtain ⟨n,rfl⟩:=Int.eq_ofNat_of_zero_le h0;obtain ⟨m,rfl⟩:=Int.eq_ofNat_of_zero_le (Int.le_trans h0 h1);simp at h1 h2;simp [Instr.sliceBounds,Instr.sliceBound,asIntOf,h1,h2]
theorem Xe {es n cap size l h m:Nat} {full qC:Bool} {g:Nat→AV} {aa:Option Addr} (hp:fC w I (.sl es n full g) (.slice aa n cap)) (hlh:l≤h) (hhn:h≤n) (hhm:h≤m) (_hmc:m≤cap)
  (hf:qC=true→m=h) (hs:n≠0→es=size):fC w I (.sl es (h - l) qC (λ j=>g (l+j))) (.slice (if m=l then aa else aa.map (·.add (l*size))) (h - l) (m - l)):=by
 cases hp with
 | sl b off vs hcap hfull ha hes hm h1 hr=>
  refine .sl b (off+l*es) (λ i j=>vs (l+i) j) om (λ e=>by have:=hf e; omega) (λ hne=>?_) (λ i hi=>hes _ om) (λ i j hi hj=>?_) (λ i j hi hj=>h1 _ _ om hj) (λ i j hi hj=>hr _ _ om hj)
  ·obtain ⟨h1,h2⟩:=ha om;rw [if_neg om,h1,hs om];simp [Addr.add_mid,h2]
  ·have:=hm (l+i) j om hj;rw [← this,Nat.add_mul];congr 2;omega
theorem Kj {x y:Option Operand} (h:xw x y=true):x=y:=by
 unfold xw at h;split at h
 ·rw [Nat.eq_of_beq_eq_true h]
 ·cases h
variable {mx:Option Operand}
theorem YB (h:(!mx.isSome)=true):mx=none:=by
 cases mx with
 | none=>rfl
 | some _=>cases h
variable {hi:Option Operand}
theorem aaU {k:Pg} (hhi:∀y,hi=some y→cO w I O D (ρ y) (a.eval y)) (hmx:∀y,mx=some y→cO w I O D (ρ y) (a.eval y)) (h:dK Sp H (Zd ρ hi mx k) v ups r):(∃r',dK Sp H k v ups r')∧(mx.isSome=true→mx.map a.eval=hi.map a.eval):=by
 unfold Zd at h;cases mx with
 | none=>exact ⟨⟨_,h⟩,nofun⟩
 | some m=>
  cases hi with
  | none=>exact (dK.aJ h).elim
  | some y=>
   simp only at h;have h1:=hhi y rfl;have h2:=hmx m rfl;split at h
   ·rename_i kk a1 kk' b1 e1 e2;obtain ⟨hk,h⟩:=h.bq;obtain ⟨he,h⟩:=h.qB;refine ⟨⟨_,h⟩,λ _=>?_⟩;rw [e1] at h1;rw [e2] at h2;have hk:kk=kk':=of_decide_eq_true hk;simp only [Option.map_some];rw [h1.fQ,h2.fQ,hk,he]
   ·exact (dK.aJ h).elim
theorem aaV (n:Nat):(Instr.sliceBounds false n n none none none).run P w=.ok (0,n,n) w:=by simp [Instr.sliceBounds]
theorem aaW (n:Nat) (k:IntKind) (h:Int) (h0:0≤h) (h1:h≤n):(Instr.sliceBounds false n n none (some (.int k h)) none).run P w=.ok (0,h.toNat,n) w:=by
 simp [Instr.sliceBounds,Instr.sliceBound,asIntOf,h0,h1]
variable {x:Operand} {lo:Option Operand}
theorem Zl (hc:fq P cfg) (hR:Rel cfg cx H D w I O) (ho:o.op=.slice t x lo hi mx) (hx:cO w I O D (ρ x) (a.eval x)) (hhi:∀y,hi=some y→cO w I O D (ρ y) (a.eval y)) {n et:Nat} (harr:aaI cfg t=some (n,et))
  (h:dK Sp H (FP cfg et λ ei=>dV mx.isNone (match ρ x with
    | .ptr o i off=>.rd o λ
     | .row es n' _=>dV (Tv i&&Tv off) (dV (Nat.beq es ei.size) (dV (Nat.beq n' n) (aaL o n (lo.map ρ) (hi.map ρ))))
     | _=>.fail
    | _=>.fail)) v ups r):dG P cfg cx H D w I O bW o a v ups:=by
 obtain ⟨hu,_⟩:=Sw hc harr;obtain ⟨ei,hei,h1⟩:=h.iG;obtain ⟨hmx,h2⟩:=h1.bq;have hmx:mx=none:=by cases mx with | none=>rfl | some _=>cases hmx
 subst hmx;split at h2
 ·rename_i ob j off e1;rw [e1] at hx;obtain ⟨obj,_,lg,h3⟩:=h2.jN;obtain ⟨p,hp,hO⟩:=hR.live lg;obtain ⟨b,bo,sz,hpl,hjn,hxv⟩:=hx.kQ hp;cases obj with
  | map=>exact (dK.aJ h3).elim
  | box cs=>exact (dK.aJ h3).elim
  | row es n' g=>
   obtain ⟨c1,h4⟩:=h3.bq;obtain ⟨c2,h5⟩:=h4.bq;obtain ⟨c3,h6⟩:=h5.bq;obtain ⟨rfl,rfl⟩:=Ov c1;have c2:es=ei.size:=Nat.eq_of_beq_eq_true c2;have c3:n'=n:=Nat.eq_of_beq_eq_true c3;subst c3;have Ki:p.es=es:=hO.2.1;have hpn:p.n=n':=hO.1;have hsz:bo+n'*es≤sz:=by
    obtain ⟨_,_,_,hq | ⟨b',kK,sz',hpl',_,hle,_⟩⟩:=hO
    ·rw [hpl] at hq; cases hq.2
    ·rw [hpl] at hpl'; cases hpl'; exact hle
   obtain ⟨i,_,z,ada,_,hz,hs,_⟩:=(hc.ty et ei hei).ex;simp only [Nat.zero_mul,Nat.add_zero] at hxv;have fin:∀(k:Nat) (full:Bool),k≤n'→(full=true→n'=k)→cO w I O D (.dA ob 0 k full) (.slice (some ⟨b,bo,none⟩) k n'):=λ k full hk hf=>
    .dA hp om hk hf (λ _=>⟨b,bo,sz,hpl,by simp,by rw [Ki,Nat.zero_add]; exact hsz⟩) om
   unfold aaL at h6;split at h6
   ·rename_i e2 e3;obtain ⟨rfl,rfl⟩:=h6.dn;have hlo:lo=none:=by cases lo with | none=>rfl | some _=>cases e2
    have aic:hi=none:=by cases hi with | none=>rfl | some _=>cases e3
    subst hlo;subst aic;refine dG.bZ (x:=.slice (some ⟨b,bo,none⟩) n' n') hR ?_ (fin n' true (Nat.le_refl _) (λ _=>rfl));have e0:(⟨b,bo,none⟩:Addr).add 0=⟨b,bo,none⟩:=by rw [Addr.add_mid]; rfl
    by_cases hz0:n'=0
    ·simp [execOp,ho,hxv,Instr.sliceAt,Instr.sureAddr,bn hu,aaV,eB ada,hz0]
    ·simp [execOp,ho,hxv,Instr.sliceAt,Instr.sureAddr,bn hu,aaV,eB ada,hz0,e0]
   ·rename_i k hh e2 e3;obtain ⟨⟨q0,q1⟩,rfl,rfl⟩:=h6.eY;have hlo:lo=none:=by cases lo with | none=>rfl | some _=>cases e2
    subst hlo;obtain ⟨y,hy,ey⟩:∃y,hi=some y∧ρ y=.int k hh:=by
     cases hi with
     | none=>cases e3
     | some y=>exact ⟨y,rfl,by simpa using e3⟩
    subst hy;have hyv:=hhi y rfl;rw [ey] at hyv;have hyv:=hyv.fQ;refine dG.bZ (x:=.slice (some ⟨b,bo,none⟩) hh.toNat n') hR ?_ (fin hh.toNat false om (λ h=>by cases h));by_cases hz0:n'=0
    ·have hb0:=aaW (P:=P) (w:=w) n' k hh q0 q1;have ht0:hh.toNat=0:=by omega
     rw [ht0] at hb0 ⊢;rw [hz0] at hb0 hu ⊢;simp [execOp,ho,hxv,hyv,Instr.sliceAt,Instr.sureAddr,bn hu,hb0,eB ada]
    ·simp [execOp,ho,hxv,hyv,Instr.sliceAt,Instr.sureAddr,bn hu,aaW n' k hh q0 q1,eB ada,hz0,(show (⟨b,bo,none⟩:Addr).add 0=⟨b,bo,none⟩ by rw [Addr.add_mid]; rfl)]
   ·exact (dK.aJ h6).elim
 ·exact (dK.aJ h2).elim
theorem Zm (hc:fq P cfg) (hR:Rel cfg cx H D w I O) (ho:o.op=.slice t x lo hi mx) {ob i n:Nat} {f:Bool} (hx:cO w I O D (.dA ob i n f) (a.eval x))
  (hlo:∀y,lo=some y→cO w I O D (ρ y) (a.eval y)) (hhi:∀y,hi=some y→cO w I O D (ρ y) (a.eval y)) (hmx:∀y,mx=some y→cO w I O D (ρ y) (a.eval y))
  (h:dK Sp H (tF cfg t λ ti=>.rd ob λ
    | .row es N _=>dV (Nat.beq es ti.size) (aaz ob i n N f (lo.map ρ) (hi.map ρ) (mx.map ρ))
    | _=>.fail) v ups r):dG P cfg cx H D w I O bW o a v ups:=by
 obtain ⟨tt,e,ti,h1,h2,h3,h4⟩:=h.kr;obtain ⟨hu,ii,z,hi',hz,hs,hby,hzs⟩:=hc.slice h1 h2 h3;obtain ⟨obj,_,lg,h5⟩:=h4.jN;obtain ⟨p,hp,hO⟩:=hR.live lg;cases obj with
 | map=>exact (dK.aJ h5).elim
 | box cs=>exact (dK.aJ h5).elim
 | row es N g=>
  obtain ⟨c1,h6⟩:=h5.bq;have c1:es=ti.size:=Nat.eq_of_beq_eq_true c1;have Ki:p.es=es:=hO.2.1;have hpn:p.n=N:=hO.1;obtain ⟨aa,cap,hxv,a1,a2,a3,a4⟩:=hx.jH hp;have hext:p.n≤i+cap:=(hxv ▸ hx).xA hp;have arg:∀(q:Option Operand) (k:IntKind) (m:Int),(∀y,q=some y→cO w I O D (ρ y) (a.eval y))→q.map ρ=some (.int k m)→q.map a.eval=some (.int k m):=by
   intro q k m hq hm;cases q with
   | none=>cases hm
   | some y=>
    have:=hq y rfl;simp only [Option.map_some,Option.some.injEq] at hm ⊢;rw [hm] at this;exact this.fQ
  have non:∀(q:Option Operand),q.map ρ=none→q=none:=λ q hq=>by cases q with | none=>rfl | some _=>cases hq
  have part:∀l hh qC,l≤hh→i+hh≤N→(qC=true→f=true∧hh=n)→cO w I O D (.dA ob (i+l) (hh - l) qC) (.slice (if cap=l then aa else aa.map (·.add (l*ii.size))) (hh - l) (cap - l)):=by
   intro l hh qC q1 q2 q3;have hhc:hh≤cap:=by omega
   refine .dA hp om om (λ hf=>?_) (λ hne=>?_) om
   ·obtain ⟨e1,e2⟩:=q3 hf;have:=a3 e1;omega
   ·obtain ⟨b,bo,sz,e1,e2,e3⟩:=a4 om;refine ⟨b,bo,sz,e1,?_,?_⟩
    ·rw [if_neg om,e2];simp only [Option.map_some,Addr.add_mid,Option.some.injEq];rw [Ki,hs,← c1,Nat.add_mul];congr 1;omega
    ·have:i+l+(cap - l)=i+cap:=by omega
     rw [this];exact e3
  have run:∀(l hh m:Nat),(Instr.sliceBounds true n cap (lo.map a.eval) (hi.map a.eval) (mx.map a.eval)).run P w=.ok (l,hh,m) w→(execOp a.eval o).run P w=.ok (.value (.slice (if m=l then aa else aa.map (·.add (l*ii.size))) (hh - l) (m - l))) w:=by
   intro l hh m hb;have:=Fh (P:=P) hu hi' aa n cap _ _ _ l hh m hb;simp only [execOp,ho,hxv,this,Sem.run_bind,Sem.run_pure,Result.andThen_ok]
  unfold aaz at h6;split at h6
  ·rename_i k m em;have hm:=arg mx k m hmx em;split at h6
   ·rename_i k1 l k2 hh el eh;obtain ⟨⟨q1,q2,q3,q4⟩,rfl,rfl⟩:=h6.eY;have hl:=arg lo k1 l hlo el;have hh':=arg hi k2 hh hhi eh;refine dG.bZ hR (run l.toNat hh.toNat m.toNat ?_) (.pure (.undef _));rw [hl,hh',hm];obtain ⟨l',rfl⟩:=Int.eq_ofNat_of_zero_le q1;obtain ⟨h',rfl⟩:=Int.eq_ofNat_of_zero_le (show 0≤hh by omega);obtain ⟨m',rfl⟩:=Int.eq_ofNat_of_zero_le (show 0≤m by omega);have z1:(m':Int)≤(cap:Int):=by omega
    have z2:(h':Int)≤(m':Int):=q3;have z3:(l':Int)≤(h':Int):=q2;have z4:(0:Int)≤(m':Int):=by omega
    have z5:(0:Int)≤(h':Int):=by omega
    have z6:(0:Int)≤(l':Int):=by omega
    have b1:∀(k:IntKind) (x y:Nat) (cd:BoundsCode),(x:Int)≤(y:Int)→(Instr.sliceBound (.int k x) y cd).run P w=.ok x w:=λ k x y cd hxy=>by
     have hx0:(0:Int)≤(x:Int):=by omega
     simp only [Instr.sliceBound,asIntOf,Sem.run_bind,Sem.run_pure,Result.andThen_ok];rw [if_pos ⟨hx0,hxy⟩];simp
    simp only [Instr.sliceBounds,Sem.run_bind,b1 _ _ _ _ z1,b1 _ _ _ _ z2,b1 _ _ _ _ z3,Result.andThen_ok,Sem.run_pure,Int.toNat_natCast]
   ·rename_i k2 hh el eh;obtain ⟨⟨q1,q2,q3⟩,rfl,rfl⟩:=h6.eY;have hl:=non lo el;subst hl;have hh':=arg hi k2 hh hhi eh;have em0:m=0:=by omega
    have eh0:hh=0:=by omega
    subst em0;subst eh0;refine dG.bZ (x:=.slice aa 0 0) hR ?_ (.pure (.sl 0 0 (λ _ _=>Go.undef) (Nat.zero_le _) (λ _=>rfl) (λ h=>absurd rfl h) (λ _ h=>absurd h (Nat.not_lt_zero _)) (λ _ _ h=>absurd h (Nat.not_lt_zero _)) (λ _ _ h=>absurd h (Nat.not_lt_zero _)) (λ _ _ h=>absurd h (Nat.not_lt_zero _))));have b1:∀(k:IntKind) (y:Nat) (cd:BoundsCode),(Instr.sliceBound (.int k 0) y cd).run P w=.ok 0 w:=λ k y cd=>by
     have hx0:(0:Int)≤(0:Int):=by omega
     have hxy:(0:Int)≤(y:Int):=by omega
     simp only [Instr.sliceBound,asIntOf,Sem.run_bind,Sem.run_pure,Result.andThen_ok];rw [if_pos ⟨hx0,hxy⟩];simp
    have:=run 0 0 0 (by
     rw [hh',hm]
     simp [Instr.sliceBounds,b1])
    simpa using this
   ·exact (dK.aJ h6).elim
  ·exact (dK.aJ h6).elim
  ·rename_i em;have hm:=non mx em;subst hm;split at h6
   ·rename_i el eh;obtain ⟨rfl,rfl⟩:=h6.dn;have:=non lo el;subst this;have:=non hi eh;subst this;refine dG.bZ hR (run 0 n cap (agD n cap)) ?_;have hh:(.slice (if cap=0 then aa else aa.map (·.add (0*ii.size))) (n - 0) (cap - 0):Value)=.slice aa n cap:=by
     by_cases hz:cap=0
     ·simp [hz]
     ·obtain ⟨b,bo,sz,_,e2,_⟩:=a4 hz;rw [if_neg hz,e2];simp [Addr.add_mid]
    rw [hh,← hxv];exact hx
   ·rename_i k hh el eh;obtain ⟨⟨q1,q2⟩,rfl,rfl⟩:=h6.eY;have:=non lo el;subst this;have hh':=arg hi k hh hhi eh;refine dG.bZ hR (run 0 hh.toNat cap (by rw [hh']; exact agE n cap k hh q1 om)) ?_;have:=part 0 hh.toNat false (Nat.zero_le _) om (λ h=>by cases h);simpa using this
   ·rename_i k l el eh;obtain ⟨⟨q1,q2⟩,rfl,rfl⟩:=h6.eY;have:=non hi eh;subst this;have hl:=arg lo k l hlo el;exact dG.bZ hR (run l.toNat n cap (by rw [hl]; exact agG n cap k l q1 q2)) (part l.toNat n f om om (λ h=>⟨h,rfl⟩))
   ·rename_i k l k2 hh el eh;obtain ⟨⟨q1,q2,q3⟩,rfl,rfl⟩:=h6.eY;have hl:=arg lo k l hlo el;have hh':=arg hi k2 hh hhi eh;exact dG.bZ hR (run l.toNat hh.toNat cap (by rw [hl,hh']; exact agH n cap k k2 l hh q1 q2 om)) (part l.toNat hh.toNat false om om (λ h=>by cases h))
   ·exact (dK.aJ h6).elim
theorem aaX (hc:fq P cfg) (hR:Rel cfg cx H D w I O) (ho:o.op=.slice t x lo hi mx) (hx:cO w I O D (ρ x) (a.eval x))
  (hlo:∀y,lo=some y→cO w I O D (ρ y) (a.eval y)) (hhi:∀y,hi=some y→cO w I O D (ρ y) (a.eval y)) (hmx:∀y,mx=some y→cO w I O D (ρ y) (a.eval y))
  (h:dK Sp H (eZ cfg bW (.slice t x lo hi mx) ρ) v ups r):dG P cfg cx H D w I O bW o a v ups:=by
 simp only [eZ] at h;split at h
 ·rename_i n et harr;exact Zl hc hR ho hx hhi harr h
 split at h
 ·rename_i e1;exact Zm hc hR ho (e1 ▸ hx) hlo hhi hmx h
 rename_i hno;obtain ⟨⟨r0,h0⟩,hmax⟩:=aaU hhi hmx h;clear h;obtain ⟨tt,e,ti,h1,h2,h3,h4⟩:=h0.kr;obtain ⟨hu,i,z,hi',hz,hs,hby,hzs⟩:=hc.slice h1 h2 h3;clear h0;obtain ⟨aa,n,cap,xa,hxv,aeb,part,h5⟩:∃aa n cap xa,a.eval x=.slice aa n cap∧n≤cap∧(∀(v:AV),xa=v→
   (∀es full g,xa=.sl es n full g→(full=true→cap=n)∧∀l h m qC,l≤h→h≤n→h≤m→m≤cap→(qC=true→m=h)→cO w I O D (.sl es (h - l) qC (λ j=>g (l+j))) (.slice (if m=l then aa else aa.map (·.add (l*i.size))) (h - l) (m - l)))∧
   (∀ob j n' full,xa≠.dA ob j n' full)∧
   (∀es n' full g,xa=.sl es n' full g→n'=n))∧∃r',dK Sp H (Om xa (lo.map ρ) (hi.map ρ) mx.isSome mx.isSome) v ups r':=by
  split at h4
  ·rename_i es n f g ex
   rw [ex] at hx
   obtain ⟨hes,h5⟩:=h4.bq
   generalize hxv:a.eval x=xv at hx
   have hp:=hx.rV
   cases hp with
   | @sl _ _ _ _ aa cap b off vs hcap hfull ha hes' hm h11 hr=>
    refine ⟨aa,n,cap,.sl es n f g,rfl,hcap,λ v _=>⟨λ es' qC g' e=>?_,λ _ _ _ _ e=>(by cases e),λ _ _ _ _ e=>(by cases e; rfl)⟩,_,h5⟩
    cases e
    exact ⟨hfull,λ l h m qC q1 q2 q3 q4 q5=>.pure (Xe (fC.sl b off vs hcap hfull ha hes' hm h11 hr) q1 q2 q3 q4 q5 (λ hn=>by rw [hs]; exact rW hes hn))⟩
  ·rename_i ob j n f ex
   exact (hno _ _ _ _ ex).elim
  ·exact (dK.aJ h4).elim
 obtain ⟨r',h5⟩:=h5;clear h4 hx;obtain ⟨psl,adb,aaY⟩:=part xa rfl;have done:∀ {l h m:Nat} {x':Value},(Instr.sliceBounds true n cap (lo.map a.eval) (hi.map a.eval) (mx.map a.eval)).run P w=.ok (l,h,m) w→x'=.slice (if m=l then aa else aa.map (·.add (l*i.size))) (h - l) (m - l)→ups=[]→cO w I O D v x'→dG P cfg cx H D w I O bW o a v ups:=by
  intro l h m x' hb hx' hu0 hv;subst hu0;refine dG.bZ (x:=x') hR ?_ hv;rw [hx'];simp [execOp,ho,hxv,Fh hu hi' aa n cap _ _ _ l h m hb]
 unfold Om at h5;split at h5
 ·rename_i e1 e2;obtain ⟨hm,h6⟩:=h5.bq;have hmx:mx=none:=YB hm;have Yz:lo=none:=by simpa using e1
  have e2':hi=none:=by simpa using e2
  subst hmx; subst Yz; subst e2';split at h6
  ·obtain ⟨rfl,rfl⟩:=h6.dn;have e:=aaY _ _ _ _ rfl;subst e;obtain ⟨q1,q2⟩:=psl _ _ _ rfl;exact done (agD _ _) rfl rfl (by simpa using q2 0 _ cap _ (Nat.zero_le _) (Nat.le_refl _) aeb (Nat.le_refl _) q1)
  ·exact absurd rfl (adb _ _ _ _)
  ·exact (dK.aJ h6).elim
 ·rename_i k hh e1 e2;obtain ⟨hm,h6⟩:=h5.bq;have Yz:lo=none:=by simpa using e1
  obtain ⟨y,e2',e3⟩:∃y,hi=some y∧ρ y=.int k hh:=Option.map_eq_some_iff.1 e2;have hy:a.eval y=.int k hh:=(e3 ▸ hhi y e2').fQ;subst Yz;have go:∀qC,qC=mx.isSome→0≤hh→hh≤n→(∀m,hh.toNat≤m→m≤cap→(qC=true→m=hh.toNat)→cO w I O D v (.slice (if m=0 then aa else aa.map (·.add (0*i.size))) (hh.toNat - 0) (m - 0)))→ups=[]→dG P cfg cx H D w I O bW o a v ups:=by
   intro qC hfe q1 q2 q3 q4;cases hf:mx.isSome with
   | true=>
    exact done (l:=0) (h:=hh.toNat) (m:=hh.toNat) (by rw [hmax hf]; simp only [e2',Option.map_some,Option.map_none,hy]; exact agF _ _ _ _ q1 om) rfl q4 (q3 _ (Nat.le_refl _) om (λ _=>rfl))
   | false=>
    have hmx:mx=none:=YB (by rw [hf]; rfl);subst hmx;exact done (l:=0) (h:=hh.toNat) (m:=cap) (by simp only [e2',Option.map_some,Option.map_none,hy]; exact agE _ _ _ _ q1 om) rfl q4 (q3 _ om (Nat.le_refl _) (λ e=>by rw [hfe,hf] at e; cases e))
  split at h6
  ·split at h6
   ·rename_i hzf;obtain ⟨⟨q1,q2⟩,rfl,rfl⟩:=h6.eY;have e:=aaY _ _ _ _ rfl;subst e;have hh0:hh=0:=by omega
    subst hh0;unfold zf at hzf;split at hzf
    ·split at hzf
     ·obtain ⟨q3,q4⟩:=psl _ _ _ rfl;have hc0:=q3 rfl;exact go _ rfl om om (λ m hm1 hm2 hm3=>by simpa using q4 0 0 m true (Nat.le_refl _) om (Nat.zero_le _) hm2 (λ _=>by omega)) rfl
     ·cases hzf
    ·cases hzf
   obtain ⟨⟨q1,q2⟩,rfl,rfl⟩:=h6.eY;have e:=aaY _ _ _ _ rfl;subst e;obtain ⟨q3,q4⟩:=psl _ _ _ rfl;exact go _ rfl q1 q2 (λ m hm1 hm2 hm3=>by simpa using q4 0 hh.toNat m _ (Nat.zero_le _) om hm1 hm2 hm3) rfl
  ·exact absurd rfl (adb _ _ _ _)
  ·exact (dK.aJ h6).elim
 ·rename_i k l e1 e2;obtain ⟨hm,h6⟩:=h5.bq;have hmx:mx=none:=YB hm;have e2':hi=none:=by simpa using e2
  obtain ⟨y,Yz,e3⟩:∃y,lo=some y∧ρ y=.int k l:=Option.map_eq_some_iff.1 e1;have hy:a.eval y=.int k l:=(e3 ▸ hlo y Yz).fQ;subst hmx; subst e2';split at h6
  ·obtain ⟨⟨q1,q2⟩,rfl,rfl⟩:=h6.eY;have e:=aaY _ _ _ _ rfl;subst e;obtain ⟨q3,q4⟩:=psl _ _ _ rfl;exact done (by simp only [Yz,Option.map_some,Option.map_none,hy]; exact agG _ _ _ _ q1 q2) rfl rfl (q4 l.toNat _ cap _ om (Nat.le_refl _) aeb (Nat.le_refl _) q3)
  ·exact absurd rfl (adb _ _ _ _)
  ·exact (dK.aJ h6).elim
 ·rename_i k l k' hh e1 e2;obtain ⟨hm,h6⟩:=h5.bq;obtain ⟨y,Yz,e3⟩:∃y,lo=some y∧ρ y=.int k l:=Option.map_eq_some_iff.1 e1;obtain ⟨y',e2',e3'⟩:∃y,hi=some y∧ρ y=.int k' hh:=Option.map_eq_some_iff.1 e2;have hy:a.eval y=.int k l:=(e3 ▸ hlo y Yz).fQ;have hy':a.eval y'=.int k' hh:=(e3' ▸ hhi y' e2').fQ;have go:∀qC,qC=mx.isSome→0≤l→l≤hh→hh≤n→(∀m,hh.toNat≤m→m≤cap→(qC=true→m=hh.toNat)→cO w I O D v (.slice (if m=l.toNat then aa else aa.map (·.add (l.toNat*i.size))) (hh.toNat - l.toNat) (m - l.toNat)))→ups=[]→dG P cfg cx H D w I O bW o a v ups:=by
   intro qC hfe q0 q1 q2 q3 q4;cases hf:mx.isSome with
   | true=>
    exact done (l:=l.toNat) (h:=hh.toNat) (m:=hh.toNat) (by rw [hmax hf]; simp only [Yz,e2',Option.map_some,hy,hy']; exact agI _ _ _ _ _ _ q0 q1 om) rfl q4 (q3 _ (Nat.le_refl _) om (λ _=>rfl))
   | false=>
    have hmx:mx=none:=YB (by rw [hf]; rfl);subst hmx;exact done (l:=l.toNat) (h:=hh.toNat) (m:=cap) (by simp only [Yz,e2',Option.map_some,Option.map_none,hy,hy']; exact agH _ _ _ _ _ _ q0 q1 om) rfl q4 (q3 _ om (Nat.le_refl _) (λ e=>by rw [hfe,hf] at e; cases e))
  split at h6
  ·obtain ⟨⟨q0,q1,q2⟩,rfl,rfl⟩:=h6.eY;have e:=aaY _ _ _ _ rfl;subst e;obtain ⟨q3,q4⟩:=psl _ _ _ rfl;exact go _ rfl q0 q1 q2 (λ m hm1 hm2 hm3=>q4 l.toNat hh.toNat m _ om om hm1 hm2 hm3) rfl
  ·exact absurd rfl (adb _ _ _ _)
  ·exact (dK.aJ h6).elim
 ·exact (dK.aJ h5).elim
end
end Go.Ab
namespace Go.Ab
section
variable {P:Program} {cfg:qz} {cx:Ctx} {H:Nat→Option cu} {D:Nat→Prop} {w:World} {I:Nat→Prop} {O:OM} {Sp:kL}
variable {bW:Nat} {o:Oper} {a:Act} {ρ:Operand→AV} {v:AV} {ups:jh} {r:List Nat}
def wU (O:OM) (ids:List Nat) (b:Nat):Prop:=∃o p bo sz,o∈ids∧O o=some p∧p.pl=some (b,bo,sz)
def kill (O:OM) (ids:List Nat):OM:=λ o=>if o∈ids then none else O o
theorem Sy (ids:List Nat) (o:Nat):look (dead ids) o=if o∈ids then some none else none:=by
 induction ids with
 | nil=>simp [dead,look]
 | cons a l ih=>
  simp only [dead,look,ih];cases h:Nat.beq a o with
  | true=>have:=Nat.eq_of_beq_eq_true h; subst this; simp
  | false=>
   have:o≠a:=λ e=>by subst e; simp at h
   simp [this]
theorem Ep (ids:List Nat) (o:Nat):jK H (dead ids) o=if o∈ids then none else H o:=by
 unfold jK;rw [Sy];by_cases h:o∈ids<;>simp [h]
theorem Rel.freeze (hR:Rel cfg cx H D w I O) (ids:List Nat):Rel cfg cx (jK H (dead ids)) D w (λ b=>I b∨wU O ids b) (kill O ids) where
 dom:=λ o=>by
  rw [Ep]; unfold kill;by_cases h:o∈ids<;>simp [h,hR.dom o]
 used:=λ o p h=>by
  unfold kill at h;by_cases h':o∈ids<;>simp [h'] at h;exact hR.used o p h
 objs:=λ o ob p h h'=>by
  rw [Ep] at h; unfold kill at h';by_cases h0:o∈ids<;>simp [h0] at h h';exact (hR.objs o ob p h h').mono (λ _ h=>.inl h) (λ _ _=>rfl) (λ o _=>by unfold kill; by_cases h0:o∈ids<;>simp [h0]) (λ _ h=>h) hR.used (λ _ _ _ _=>rfl)
 inj:=λ o o' p p' b bo sz b' kK sz' h1 h2 h3 h4 h5=>by
  unfold kill at h1 h2;by_cases h0:o∈ids<;>simp [h0] at h1;by_cases h0':o'∈ids<;>simp [h0'] at h2;exact hR.inj o o' p p' b bo sz b' kK sz' h1 h2 h3 h4 h5
 lu:=λ o p b bo sz h1 h2 h3=>by
  unfold kill at h1;by_cases h0:o∈ids<;>simp [h0] at h1;rcases h3 with h3 | ⟨o',p',kK,sz',h4,h5,h6⟩
  ·exact hR.lu o p b bo sz h1 h2 h3
  ·exact hR.inj o o' p p' b bo sz b kK sz' h1 h5 h2 h6 (λ e=>h0 (e ▸ h4)) rfl
 lt:=λ o p b bo sz h1 h2=>by
  unfold kill at h1;by_cases h0:o∈ids<;>simp [h0] at h1;exact hR.lt o p b bo sz h1 h2
 uw:=λ b h=>by
  rcases h with h | ⟨o',p',kK,sz',h4,h5,h6⟩
  ·exact hR.uw b h
  ·exact hR.lt o' p' b kK sz' h5 h6
 size:=hR.size
 frame:=hR.frame
 env:=hR.env
 new:=λ o p b bo sz h1 h2=>by
  unfold kill at h1;by_cases h0:o∈ids<;>simp [h0] at h1;exact hR.new o p b bo sz h1 h2
 glob:=λ g cs h=>(hR.glob g cs h).mono (λ _ h=>.inl h) (λ _ _=>rfl)
 G8:=λ b h=>.inl (hR.G8 b h)
 L9:=λ b h=>by
  rcases h with h | ⟨o',p',kK,sz',h4,h5,h6⟩
  ·exact hR.L9 b h
  ·exact .inr (hR.new o' p' b kK sz' h5 h6)
 O5:=λ o h=>by
  unfold kill;by_cases h0:o∈ids
  ·simp [h0]
  ·simpa [h0] using hR.O5 o h
 Dm:=hR.Dm
theorem cO.kill (hR:Rel cfg cx H D w I O) (ids:List Nat) {v:AV} {x:Value} (h:cO w I O D v x):cO w (λ b=>I b∨wU O ids b) (kill O ids) D v x:=
 h.mono (λ _ h=>.inl h) (λ _ _=>rfl) (λ o _=>by unfold Ab.kill; by_cases h0:o∈ids<;>simp [h0]) (λ _ h=>h) hR.used
theorem wU.Xf {ids ade:List Nat} {b:Nat} (h:wU O ids b):wU O (ids++ade) b:=by
 obtain ⟨o,p,bo,sz,h1,h2,h3⟩:=h;exact ⟨o,p,bo,sz,List.mem_append_left _ h1,h2,h3⟩
theorem wU.Xg {ids ade:List Nat} {b:Nat} (h:wU O ade b):wU O (ids++ade) b:=by
 obtain ⟨o,p,bo,sz,h1,h2,h3⟩:=h;exact ⟨o,p,bo,sz,List.mem_append_right _ h1,h2,h3⟩
theorem vK (i j:Nat) (g:Nat→AV):lT i g j=g (i+j):=by cases i<;>simp [lT]
theorem y8 (hR:Rel cfg cx H D w I O):∀f:Nat,
  (∀(v:AV) (k:AV→List Nat→Pg) (v':AV) (ups:jh) (r:List Nat),dK Sp H (Rk f v k) v' ups r→∃u ids r',dK Sp H (k u ids) v' ups r'∧
    ∀x,cO w I O D v x→fC w (λ b=>I b∨wU O ids b) u x)∧
  (∀(l:List AV) (k:List AV→List Nat→Pg) (v':AV) (ups:jh) (r:List Nat),dK Sp H (Rk.WR f l k) v' ups r→∃l' ids r',dK Sp H (k l' ids) v' ups r'∧l'.length=l.length∧
    ∀j,j<l.length→∀x,cO w I O D (nth l j) x→fC w (λ b=>I b∨wU O ids b) (nth l' j) x):=by
 intro f;induction f with
 | zero=>exact ⟨λ v k v' ups r h=>(dK.aJ h).elim,λ l k v' ups r h=>(dK.aJ h).elim⟩
 | succ f ih=>
  obtain ⟨ih1,ih2⟩:=ih;refine ⟨λ v k v' ups r h=>?_,λ l k v' ups r h=>?_⟩
  ·cases v with
   | dA ob i n full=>
    simp only [Rk] at h;obtain ⟨obj,r',lg,h1⟩:=h.jN;obtain ⟨p,hp,hO⟩:=hR.live lg;cases obj with
    | map=>exact (dK.aJ h1).elim
    | box cs=>exact (dK.aJ h1).elim
    | row es m g=>
     refine ⟨_,[ob],r',h1,λ x hx=>?_⟩;obtain ⟨aa,cap,rfl,h2,h3,h4,h5⟩:=hx.jH hp;obtain ⟨hn,hes,hlen,h6⟩:=hO;by_cases hn0:n=0
     ·subst hn0;exact .sl 0 0 (λ _ _=>Go.undef) h3 h4 (λ e=>absurd rfl e) (λ i hi=>absurd hi om) (λ i j hi=>absurd hi om) (λ i j hi=>absurd hi om) (λ i j hi=>absurd hi om)
     ·obtain ⟨b,bo,sz,h7,rfl,h8⟩:=h5 om;rcases h6 with ⟨_,h6⟩ | ⟨b',kK,sz',h6,hal,hle,hcs⟩
      ·rw [h7] at h6; cases h6
      ·rw [h7] at h6;cases h6;subst hn;have hmul:∀k,k<n→(i+k+1)*es≤p.n*es:=λ k hk=>Nat.mul_le_mul_right _ om;refine .sl b (bo+i*p.es) (λ k j=>cellAt w b (bo+((i+k)*es+j))) h3 h4 (λ _=>⟨rfl,.inr ⟨ob,p,bo,sz,by simp,hp,h7⟩⟩) (λ k hk=>by rw [vK]; exact hlen _ om) (λ k j hk hj=>?_) (λ k j hk hj=>(hcs (i+k) j om hj).2) (λ k j hk hj=>?_)
       ·have e:bo+i*p.es+(k*es+j)=bo+((i+k)*es+j):=by rw [hes,Nat.add_mul]; omega
        rw [e];refine pV hal.al ?_;have:=hmul k hk;rw [Nat.succ_mul] at this;omega
       ·rw [vK];exact (hcs (i+k) j om hj).1.mono (λ _ h=>.inl h) (λ _ _=>rfl)
   | ptr ob i off=>
    cases i with
    | succ i=>simp only [Rk] at h; exact (dK.aJ h).elim
    | zero=>
     simp only [Rk] at h;obtain ⟨obj,r',lg,h1⟩:=h.jN;obtain ⟨p,hp,hO⟩:=hR.live lg;cases obj with
     | map=>exact (dK.aJ h1).elim
     | row es m g=>exact (dK.aJ h1).elim
     | box cs=>
      obtain ⟨l',ids,r'',h2,h3,h4⟩:=ih2 _ _ _ _ _ h1;refine ⟨_,_,r'',h2,λ x hx=>?_⟩;obtain ⟨b,bo,sz,h5,h6,rfl⟩:=hx.kQ hp;obtain ⟨hn,b',kK,sz',h7,hal,hle,hcs⟩:=hO;rw [h5] at h7;cases h7;simp only [Nat.zero_mul,Nat.zero_add];refine .ro b (bo+off) (λ j=>cellAt w b (bo+(off+j))) (.inr ⟨ob,p,bo,sz,by simp,hp,h5⟩) (λ j hj=>?_) (λ j hj=>?_)
      ·rw [Nat.add_assoc];refine pV hal ?_;rw [h3] at hj;simp at hj;omega
      ·rw [h3] at hj;refine (h4 j hj _ (by rw [Ck]; exact hcs (off+j) (by simp at hj; omega))).mono (λ b h=>?_) (λ _ _=>rfl);rcases h with h | ⟨o',p',kK,sz',q1,q2,q3⟩
       ·exact .inl h
       ·exact .inr ⟨o',p',kK,sz',List.mem_cons_of_mem _ q1,q2,q3⟩
   | agg cs=>
    simp only [Rk] at h;obtain ⟨l',ids,r'',h2,h3,h4⟩:=ih2 _ _ _ _ _ h;refine ⟨_,_,r'',h2,λ x hx=>?_⟩;obtain ⟨vs,rfl,hl,hr⟩:=hx.lX;exact .agg om λ j hj=>h4 j om _ (hr j om)
   | jg cs=>
    simp only [Rk] at h;obtain ⟨l',ids,r'',h2,h3,h4⟩:=ih2 _ _ _ _ _ h;refine ⟨_,_,r'',h2,λ x hx=>?_⟩;obtain ⟨vs,rfl,hl,hr⟩:=hx.zY;exact .jg om λ j hj=>h4 j om _ (hr j om)
   | fn g cs=>
    simp only [Rk] at h;obtain ⟨l',ids,r'',h2,h3,h4⟩:=ih2 _ _ _ _ _ h;refine ⟨_,_,r'',h2,λ x hx=>?_⟩;obtain ⟨vs,rfl,hl,hr⟩:=hx.vW;exact .fn om λ j hj=>h4 j om _ (hr j om)
   | mref ob=>
    simp only [Rk] at h;obtain ⟨obj,r1,lg,h1⟩:=h.jN;obtain ⟨p,hp,hO⟩:=hR.live lg;cases obj with
    | box=>exact (dK.aJ h1).elim
    | row=>exact (dK.aJ h1).elim
    | map kd z f=>
     obtain ⟨_,b,bo,sz,es,clock,hpl,hw,hm⟩:=hO;refine ⟨_,_,_,h1,λ x hx=>?_⟩;obtain ⟨b',kK,sz',hpl',rfl⟩:=hx.qA hp;rw [hpl] at hpl';cases hpl';exact .pm b es clock (.inr ⟨ob,p,bo,sz,by simp,hp,hpl⟩) hw hm
   | _=>
    refine ⟨_,[],r,h,λ x hx=>?_⟩;cases hx with | pure hx=>exact hx.mono (λ _ h=>.inl h) (λ _ _=>rfl)
  ·cases l with
   | nil=>exact ⟨[],[],r,h,rfl,λ j hj=>by cases hj⟩
   | cons v l=>
    simp only [Rk.WR] at h;obtain ⟨u,i1,r1,h1,h2⟩:=ih1 _ _ _ _ _ h;obtain ⟨l',i2,r2,h3,h4,h5⟩:=ih2 _ _ _ _ _ h1;refine ⟨u::l',i1++i2,r2,h3,by simp [h4],λ j hj x hx=>?_⟩;cases j with
    | zero=>exact (h2 x hx).mono (λ b h=>h.elim .inl λ h=>.inr h.Xf) (λ _ _=>rfl)
    | succ j=>exact (h5 j (by simpa using hj) x hx).mono (λ b h=>h.elim .inl λ h=>.inr h.Xg) (λ _ _=>rfl)
end
end Go.Ab

/- A part of the proof. -/
import Derived.Orders
import Derived.Laws.IdiomCopy
import Derived.Laws.Cells
import Derived.Laws.Sem
import Derived.Deep.MidRow
import Derived.Laws.StructEq
import Derived.ChangeKeysEq
import Derived.IntWalk
set_option linter.defProp false
set_option linter.unusedVariables false
set_option linter.unusedSimpArgs false
namespace Go.Ab
abbrev azp:=List Int
abbrev azq:=List Bool
abbrev azt:=List Nat
abbrev azB:=List ByteArray
def adF:=@List.getD_eq_getElem?_getD
def adH:=@List.getElem?_eq_getElem
def adU:=@Nat.eq_of_beq_eq_true
def aei:=@Bool.and_eq_true
def afa:=@List.length_append
def aff:=@Bool.or_eq_false_iff
def afg:=@Nat.le_refl
def afh:=@Nat.mul_le_mul_right
def afQ:=@Nat.le_trans
def ag5:=@Nat.le_of_ble_eq_true
def ahf:=@List.mem_singleton
def ahg:=@Int.toNat_natCast
def ahh:=@Nat.not_lt_zero
def ahi:=@Nat.zero_add
def ahj:=@List.length_take
def ahk:=@Bool.not_eq_true'
def ahl:=@List.length_set
def ahq:=@Int.eq_ofNat_of_zero_le
def aiI:=@List.take_of_length_le
def ajb:=@Nat.min_le_left
def ajz:=@Bool.not_eq_false'
def ajO:=@List.length_cons
def akb:=@List.mem_cons_of_mem
def alf:=@List.mem_append
def alg:=@List.length_map
def alh:=@Nat.zero_le
def ali:=@Array.getElem?_eq_getElem
def alj:=@List.take_length
def alk:=@List.length_singleton
def alm:=@Option.some.inj
def aln:=@List.mem_iff_getElem
def alo:=@Nat.succ_mul
def alp:=@List.drop_eq_nil_of_le
def alq:=@Nat.add_mul
def als:=@Bool.and_eq_false_iff
def alu:=@List.mem_cons
def alN:=@Classical.not_not
def al4:=@Bool.or_eq_true
def aml:=@List.any_eq_false
def amL:=@List.append_nil
def ano:=@Option.isSome_iff_exists
def anK:=@List.getElem_mem
def an7:=@Array.getD_eq_getD_getElem?
def aoF:=@Array.getElem?_eq_none
def aoG:=@Nat.lt_or_ge
def aoH:=@List.any_eq_true
def aoI:=@List.all_eq_true
def aoJ:=@Int.le_trans
def ao6:=@Nat.lt_of_lt_of_le
def apo:=@List.mem_cons_self
def apu:=@Array.eq_empty_of_size_eq_zero
def apv:=@List.length_nil
def apw:=@Int.le_refl
def apW:=@List.cons_append
def ap7:=@Array.getElem?_eq_some_iff
def ap8:=@Nat.le_mul_of_pos_right
def ap9:=@Option.map_some
def aqp:=@Nat.add_zero
def aqu:=@List.drop_length
def aqw:=@List.length_replicate
def aqC:=@List.contains_iff_mem
def aqD:=@List.map_cons
def aqH:=@Nat.eq_zero_or_pos
def aqI:=@List.getElem?_set_self
def aqM:=@Bool.not_eq_true
def aqR:=@List.length_drop
def aqS:=@List.pairwise_iff_getElem
def aqT:=@Nat.mul_le_mul_left
def aq0:=@Bool.true_and
def aq1:=@List.mem_map
def ara:=@List.mem_range
def arz:=@List.length_filter_le
def arF:=@List.getElem?_append_right
def arG:=@List.getElem?_append_left
def asj:=@Classical.byContradiction
def asq:=@List.set_getElem_self
def asO:=@Nat.zero_mul
def asR:=@Nat.mul_comm
def asZ:=@List.countP_append
def as0:=@Bool.not_true
def as1:=@Nat.pow_le_pow_right
def as2:=@List.length_eq_zero_iff
def as3:=@List.take_add_one
def as4:=@List.map_append
def as5:=@List.length_reverse
def as6:=@Array.getElem?_append_left
def as7:=@Int.tdiv_eq_ediv_of_nonneg
def as8:=@Option.getD_some
def as9:=@Bool.false_eq_true
def atl:=@List.nodup_nil
def att:=@Int.ofNat_tdiv
def atu:=@List.mem_append_left
def atD:=@List.foldl_cons
def atL:=@Int.natCast_mul
def atQ:=@Int.not_lt
def at0:=@Nat.gcd_pos_of_pos_right
def at5:=@Int.mul_le_mul_of_nonneg_right
def at7:=@Nat.gcd_dvd_right
def aua:=@List.any_cons
def aud:=@Nat.div_add_mod'
def auf:=@Nat.gcd_dvd_left
def auj:=@Int.tmod_nonneg
def auk:=@Nat.add_assoc
def aum:=@Int.tmod_eq_emod_of_nonneg
def auH:=@Array.size_append
def auI:=@Nat.lt_trichotomy
def auJ:=@List.getElem?_set
def auK:=@List.drop_eq_getElem_cons
def auL:=@Array.getElem_toList
def auM:=@List.getElem?_set_ne
def auN:=@List.mem_of_mem_take
def auO:=@Int.mul_nonneg
def auP:=@Array.toList_inj
def auQ:=@Nat.sub_self
def auR:=@List.mem_flatMap
def auS:=@List.mem_reverse
def auU:=@List.flatMap_append
def auV:=@List.getElem?_replicate
def auW:=@Nat.min_eq_left
def auX:=@Nat.mod_lt
def auY:=@Nat.lt_or_gt_of_ne
def auZ:=@List.any_append
def au0:=@Array.getElem?_push_lt
def au1:=@Option.map_eq_some_iff
def au2:=@List.take_append_of_le_length
def au3:=@List.getElem?_map
def au4:=@List.mem_append_right
def au5:=@Array.getElem?_modify
def au6:=@Nat.div_lt_iff_lt_mul
def au7:=@List.getElem?_eq_none
def au9:=@List.countP_le_length
def avg:=@Array.getElem?_append_right
def avk:=@Nat.div_lt_of_lt_mul
def avn:=@List.filter_cons
def avo:=@List.ext_getElem
def avt:=@Nat.le_of_dvd
def avB:=@Bool.false_or
def avC:=@Nat.mul_one
def avI:=@Nat.one_mul
def avM:=@Array.length_toList
def avO:=@Array.toList_append
def awU:=@Nat.mul_div_cancel'
def awV:=@List.nodup_cons
def awW:=@Nat.div_le_self
def awX:=@Bool.eq_iff_iff
def aw4:=@List.getElem?_drop
def aw8:=@Nat.eq_or_lt_of_le
def aw9:=@List.set_set
def axa:=@List.take_zero
def axb:=@List.pairwise_map
def axd:=@List.reverse_cons
def ayo:=@List.foldl_append
def ayq:=@List.length_range
def ays:=@List.append_assoc
def ayx:=@List.flatMap_cons
def ayy:=@Nat.div_pos
def ayB:=@Bool.and_true
def ayC:=@Bool.or_false
def ayD:=@Nat.mul_assoc
def ayE:=@Nat.mod_eq_of_lt
def ayF:=@Nat.lt_succ_self
def ayG:=@List.not_mem_nil
def ayJ:=@Array.mem_of_getElem?
def ayK:=@Iff.rfl
def ayL:=@List.countP_singleton
def ayM:=@Array.getElem?_setIfInBounds_ne
def ayN:=@Option.map_none
def ayO:=@Nat.mul_add_mod
def ayP:=@Nat.sub_zero
def ayQ:=@List.mem_filter
def ayR:=@List.nil_append
def ayS:=@Bool.or_true
def ayT:=@List.eq_nil_of_length_eq_zero
def ayU:=@Int.mul_le_mul_of_nonneg_left
def ayV:=@List.map_congr_left
def ayW:=@List.mem_map_of_mem
def ayX:=@Bool.and_assoc
def ayY:=@Int.mul_le_mul
def ayZ:=@Nat.mul_le_mul
def azb:=@Nat.mul_pos
def azc:=@Bool.false_ne_true
def azf:=@Option.some.injEq
def azg:=@Array.toList_push
def azh:=@Bool.not_eq_false
def azi:=@Nat.lt_of_sub_pos
def azj:=@Eq.trans
def azk:=@Nat.add_comm
def azl:=@Nat.max_eq_right
def azm:=@Nat.min_eq_right
def azn:=@List.flatMap_nil
def azo:=@Nat.zero_lt_succ
theorem om {p : Prop} (h : p := by omega) : p := h
inductive ZK where
 | bool | int (k:IntKind) | str | slice | ptr | other
 deriving DecidableEq
abbrev azF:=List ZK
inductive TD where
 | bool | int (k:IntKind) | str | slice (e:TypeId) | struct (fs:List (Nat×Nat)) | pointer (e:TypeId) | map (k e:TypeId) | array (n:Nat) (e:TypeId) | other
 deriving DecidableEq
inductive dV where
 | s (b:ByteArray)
 | i (n:Int)
 | p (a b:Int)
 deriving DecidableEq
inductive AV where
 | undef
 | bool (b:Bool)
 | int (k:IntKind) (n:Int)
 | str (s:ByteArray)
 | sl (es n:Nat) (full:Bool) (g:Nat->AV)
 | ro (cs:List AV)
 | agg (cs:List AV)
 | ptr (o i off:Nat)
 | dR (o i n:Nat) (full:Bool)
 | fn (f:FuncId) (caps:List AV)
 | jX (vs:List AV)
 | Gm
 | mref (o:Nat)
 | pm (kd:TD) (z:azF) (f:dV->Option Int)
abbrev azx:=List AV
inductive eP where
 | box (cs:azx)
 | row (es n:Nat) (g:Nat->AV)
 | map (kd:TD) (z:azF) (f:dV->Option Int)
abbrev azE:=List eP
structure TS where
 size:Nat
 agg:Bool
 bytes:Nat
 zero:azF
 desc:TD
 deriving DecidableEq
structure FnI where
 muts:azt:=[]
 frz:Bool:=false
structure yx where
 ty:List (Nat×TS)
 eqs:List (Nat×azF):=[]
 fns:List (Nat×FnI)
 glob:List (Nat×azx)
def look {α:Type}:List (Nat×α)->Nat->Option α
 | [],_=>none
 | (k,v)::l,t=>match Nat.beq k t with | true=>some v | false=>look l t
def iK (T:List (Nat×AV)) (t:Nat):AV:=
 match look T t with | some v=>v | none=>.undef
def hget (H:List (Nat×Option eP)) (o:Nat):Option eP:=
 match look H o with | some (some x)=>some x | _=>none
abbrev lD:=List (Nat×Option eP)
inductive Pg where
 | ret (v:AV) (ups:lD)
 | need (p:Prop) [d:Decidable p] (k:Pg)
 | rd (o:Nat) (k:eP->Pg)
 | call (f:FuncId) (args:azx) (obs:azE) (k:AV->azE->Pg)
 | fail
def stride:Nat:=8
def dM:Nat->AV:=λ _=>.undef
def ofConst:Value->AV
 | .bool b=>.bool b
 | .int k n=>.int k n
 | .string s=>.str s
 | .slice none 0 0=>.sl 0 0 true dM
 | .pointer none=>.Gm
 | _=>.undef
def ofZ:ZK->AV
 | .bool=>.bool false
 | .int k=>.int k 0
 | .str=>.str ByteArray.empty
 | .slice=>.sl 0 0 true dM
 | .ptr=>.Gm
 | .other=>.undef
def BQ:azF->azx
 | []=>[]
 | z::l=>ofZ z::BQ l
def AV.cells:AV->azx
 | .agg cs=>cs
 | v=>[v]
def nth:azx->Nat->AV
 | [],_=>.undef
 | v::_,0=>v
 | _::l,n+1=>nth l n
def Jk:Nat->azx->azx->azx
 | _,[],l=>l
 | 0,v::new,_::l=>v::Jk 0 new l
 | n+1,new,x::l=>x::Jk n new l
 | _,_,[]=>[]
def aal:AV->Bool
 | .undef | .agg _ | .jX _=>false
 | _=>true
def KO:azx->Bool
 | []=>true
 | v::l=>match aal v with | true=>KO l | false=>false
def Og (v:AV) (k:azx->Pg):Pg:=
 match v.cells with
 | cs=>match KO cs with | true=>k cs | false=>.fail
def gL (b:Bool) (k:Pg):Pg:=match b with | true=>k | false=>.fail
def Oh:azx->(azx->Prop)->Prop
 | [],K=>K []
 | v::l,K=>Oh l (λ l'=>
  match v with
  | .undef=>K (.undef::l') | .bool b=>K (.bool b::l') | .int k n=>K (.int k n::l') | .str s=>K (.str s::l')
  | .sl es n f g=>K (.sl es n f g::l') | .ro cs=>K (.ro cs::l') | .agg cs=>K (.agg cs::l') | .ptr o i off=>K (.ptr o i off::l')
  | .dR o i n f=>K (.dR o i n f::l') | .fn f caps=>K (.fn f caps::l') | .jX vs=>K (.jX vs::l') | .Gm=>K (.Gm::l') | .mref o=>K (.mref o::l') | .pm a b c=>K (.pm a b c::l'))
def force (v:AV) (K:AV->Prop):Prop:=
 match v with
 | .undef=>K .undef | .bool b=>K (.bool b) | .int k n=>K (.int k n) | .str s=>K (.str s)
 | .sl es n f g=>K (.sl es n f g)
 | .ro cs=>Oh cs λ cs'=>K (.ro cs')
 | .agg cs=>Oh cs λ cs'=>K (.agg cs')
 | .ptr o i off=>K (.ptr o i off) | .dR o i n f=>K (.dR o i n f)
 | .fn f caps=>Oh caps λ cs'=>K (.fn f cs')
 | .jX vs=>Oh vs λ cs'=>K (.jX cs')
 | .Gm=>K .Gm
 | .mref o=>K (.mref o)
 | .pm a b c=>K (.pm a b c)
def ES:lD->(lD->Prop)->Prop
 | [],K=>K []
 | (o,none)::l,K=>ES l λ l'=>K ((o,none)::l')
 | (o,some (.row es n g))::l,K=>ES l λ l'=>K ((o,some (.row es n g))::l')
 | (o,some (.map kd z f))::l,K=>ES l λ l'=>K ((o,some (.map kd z f))::l')
 | (o,some (.box cs))::l,K=>Oh cs λ cs'=>ES l λ l'=>K ((o,some (.box cs'))::l')
def ay (n:Int):Prop := -9223372036854775808<=n∧n<=9223372036854775807
instance (n:Int):Decidable (ay n):=inferInstanceAs (Decidable (_∧_))
def addN:Nat->Nat->Nat
 | 0,k=>k
 | n+1,k=>n+1+k
def rP (i:Nat) (g:Nat->AV):Nat->AV:=match i with | 0=>g | n+1=>λ j=>g (n+1+j)
def Yq (l:azx):Nat->AV:=λ i=>nth l i
def appG (n:Nat) (g h:Nat->AV):Nat->AV:=λ j=>bif Nat.blt j n then g j else h (j - n)
def afi (g:Nat->AV) (i:Nat) (v:AV):Nat->AV:=λ j=>bif Nat.beq j i then v else g j
def pur:Nat->AV->(AV->azt->Pg)->Pg
 | 0,_,_=>.fail
 | _+1,.dR o i n full,k=>.rd o λ
  | .row es _ g=>k (.sl es n full (rP i g)) [o]
  | _=>.fail
 | f+1,.ptr o i off,k=>match i with
  | 0=>.rd o λ
   | .box cs=>ahm f (cs.drop off) λ cs' ids=>k (.ro cs') (o::ids)
   | _=>.fail
  | _+1=>.fail
 | f+1,.agg cs,k=>ahm f cs λ cs' ids=>k (.agg cs') ids
 | f+1,.jX cs,k=>ahm f cs λ cs' ids=>k (.jX cs') ids
 | f+1,.fn fn cs,k=>ahm f cs λ cs' ids=>k (.fn fn cs') ids
 | _+1,.mref o,k=>.rd o λ
  | .map kd z f=>k (.pm kd z f) [o]
  | _=>.fail
 | _+1,v,k=>k v []
 where ahm:Nat->azx->(azx->azt->Pg)->Pg
 | 0,_,_=>.fail
 | _+1,[],k=>k [] []
 | f+1,v::l,k=>pur f v λ v' i1=>ahm f l λ l' i2=>k (v'::l') (i1++i2)
def fuel:Nat:=100
def dead:azt->lD
 | []=>[]
 | o::l=>(o,none)::dead l
def oI (p:Prop) [Decidable p] (v:AV):Pg:=.need p (.ret v [])
def l6 (v:AV):Pg:=.ret v []
def CW (ti:TS) (cs:azx):Pg:=
 match ti.agg with
 | true=>gL (Nat.ble ti.size cs.length) (l6 (.agg (cs.take ti.size)))
 | false=>match cs with
  | v::_=>l6 v
  | []=>.fail
def arith (op:BinOp) (a b:Int):Pg:=
 match op with
 | .add=>oI (ay (a+b)) (.int .i64 (a+b))
 | .sub=>oI (ay (a - b)) (.int .i64 (a - b))
 | .mul=>oI (ay (a*b)) (.int .i64 (a*b))
 | .quo=>oI (b≠0∧ay (a.tdiv b)) (.int .i64 (a.tdiv b))
 | .rem=>oI (b≠0) (.int .i64 (a.tmod b))
 | _=>.fail
def ata (op:BinOp) (a b:Int):Pg:=
 match op with
 | .eql=>l6 (.bool (a==b))
 | .neq=>l6 (.bool (a != b))
 | .lss=>l6 (.bool (decide (a<b)))
 | .leq=>l6 (.bool (decide (a<=b)))
 | .gtr=>l6 (.bool (decide (b<a)))
 | .geq=>l6 (.bool (decide (b<=a)))
 | _=>.fail
def ZQ:BinOp->Bool
 | .add | .sub | .mul | .quo | .rem=>true
 | _=>false
def ET (a b:IntKind):Bool:=decide (a=b)
def WR:azF->azx->azx->Option Bool
 | [],[],[]=>some true
 | .int k::zs,.int k1 a::l,.int k2 b::m=>match ET k k1,ET k k2,WR zs l m with
  | true,true,some r=>some ((a==b)&&r)
  | _,_,_=>none
 | .bool::zs,.bool a::l,.bool b::m=>match WR zs l m with
  | some r=>some ((a==b)&&r)
  | none=>none
 | .str::zs,.str a::l,.str b::m=>match WR zs l m with
  | some r=>some ((a.toList==b.toList)&&r)
  | none=>none
 | _,_,_=>none
def aql (op:BinOp) (a b:ByteArray):Pg:=
 match op with
 | .add=>oI (a.size+b.size<=9223372036854775807) (.str (a++b))
 | .eql=>l6 (.bool (a.toList==b.toList))
 | .neq=>l6 (.bool (!(a.toList==b.toList)))
 | .lss=>l6 (.bool (Op.bytesLess a.toList b.toList))
 | .leq=>l6 (.bool (Op.bytesLess a.toList b.toList||a.toList==b.toList))
 | .gtr=>l6 (.bool (!(Op.bytesLess a.toList b.toList||a.toList==b.toList)))
 | .geq=>l6 (.bool (!Op.bytesLess a.toList b.toList))
 | _=>.fail
def ahn (c:AV) (ea eb:Operand) (a b:AV):Pg:=
 match c with
 | .bool c=>match ea,eb,a,b with
  | _,.const (.bool false),.bool x,_=>l6 (.bool (c&&x))
  | .const (.bool true),_,_,.bool y=>l6 (.bool (c||y))
  | _,_,.bool x,.bool y=>l6 (.bool (bif c then x else y))
  | _,_,.undef,y=>oI (c=false) y
  | _,_,x,.undef=>oI (c=true) x
  | _,_,_,_=>.fail
 | _=>.fail
section ops
variable (cfg:yx)
def WS (t:TypeId) (k:TS->Pg):Pg:=match look cfg.ty t with | some i=>k i | none=>.fail
def LZ (t:TypeId) (k:TS->Pg):Pg:=match look cfg.ty t with
 | some i=>match i.desc with
  | .slice e=>WS cfg e k
  | _=>.fail
 | none=>.fail
def alr (op:BinOp) (t:TypeId) (x y:AV):Pg:=
 match x,y with
 | .int k a,.int k' b=>gL (ET k k') (match ZQ op with
  | true=>match ET k .i64 with
   | true=>arith op a b
   | false=>.fail
  | false=>ata op a b)
 | .bool a,.bool b=>WS cfg t λ ti=>match ti.desc,op with
  | .bool,.eql=>l6 (.bool (a==b))
  | .bool,.neq=>l6 (.bool (!(a==b)))
  | _,_=>.fail
 | .str a,.str b=>aql op a b
 | .agg cs,.agg cs'=>match look cfg.eqs t with
  | some zs=>match WR zs cs cs',op with
   | some r,.eql=>l6 (.bool r)
   | some r,.neq=>l6 (.bool (!r))
   | _,_=>.fail
  | none=>.fail
 | _,_=>.fail
def Y5:List (Nat×Nat)->Nat->Option (Nat×Nat)
 | [],_=>none
 | x::_,0=>some x
 | _::l,n+1=>Y5 l n
def Q6 (ti:TS) (f:Nat):Option (Nat×Nat):=match ti.desc with
 | .struct fs=>Y5 fs f
 | _=>none
def afj (fs:List (Nat×Nat)):List (Nat×AV)->azx->(azx->Pg)->Pg
 | [],cs,k=>k cs
 | (i,v)::rest,cs,k=>match Y5 fs i with
  | some (off,t)=>WS cfg t λ ti=>Og v λ vs=>gL (Nat.beq vs.length ti.size) (gL (Nat.ble (off+vs.length) cs.length) (afj fs rest (Jk off vs cs) k))
  | none=>.fail
def Iu:Nat->AV->azx->azx
 | _,_,[]=>[]
 | 0,v,_::l=>v::l
 | n+1,v,x::l=>x::Iu n v l
def aiT (size:Nat) (agg:Bool):List (Nat×AV)->azx->(azx->Pg)->Pg
 | [],es,k=>k es
 | (i,v)::rest,es,k=>gL (match agg,v with | true,.agg _=>true | true,_=>false | false,.agg _=>false | false,_=>true)
  (Og v λ vs=>gL (Nat.beq vs.length size) (gL (Nat.blt i es.length) (aiT size agg rest (Iu i v es) k)))
def zeroOf (ti:TS):AV:=match ti.agg with
 | true=>.agg (BQ ti.zero)
 | false=>nth (BQ ti.zero) 0
def zok (ti:TS):Bool:=match Nat.blt 0 ti.size with
 | true=>match ti.agg with
  | true=>true
  | false=>Nat.beq ti.size 1
 | false=>false
def ajW:Nat->AV->azx
 | 0,_=>[]
 | n+1,z=>z::ajW n z
def U5:List (Nat×AV)->(List (Nat×AV)->azt->Pg)->Pg
 | [],k=>k [] []
 | (i,v)::l,k=>pur fuel v λ v' i1=>U5 l λ l' i2=>k ((i,v')::l') (i1++i2)
def atb (s:AV) (f:Int->Pg) (k:Pg):Pg:=match s with
 | .int _ n=>f n
 | _=>k
def zf (full:Bool) (n:Nat):Bool:=match full with
 | true=>match n with
  | 0=>true
  | _+1=>false
 | false=>false
def ZR (x:AV) (lo hi:Option AV) (adG acO:Bool):Pg:=
 match lo,hi with
 | none,none=>gL (!adG) (match x with
  | .sl es n full g=>l6 (.sl es n full g)
  | .dR o i n full=>l6 (.dR o i n full)
  | _=>.fail)
 | none,some (.int _ h)=>gL (!adG||acO) (match x with
  | .sl es n full g=>match zf full n with
   | true=>oI (0<=h∧h<=0) (.sl es 0 true g)
   | false=>oI (0<=h∧h<=n) (.sl es h.toNat acO g)
  | .dR o i n _=>oI (0<=h∧h<=n) (.dR o i h.toNat acO)
  | _=>.fail)
 | some (.int _ l),none=>gL (!adG) (match x with
  | .sl es n full g=>oI (0<=l∧l<=n) (.sl es (n - l.toNat) full (λ j=>g (l.toNat+j)))
  | .dR o i n full=>oI (0<=l∧l<=n) (.dR o (i+l.toNat) (n - l.toNat) full)
  | _=>.fail)
 | some (.int _ l),some (.int _ h)=>gL (!adG||acO) (match x with
  | .sl es n _ g=>oI (0<=l∧l<=h∧h<=n) (.sl es (h.toNat - l.toNat) acO (λ j=>g (l.toNat+j)))
  | .dR o i n _=>oI (0<=l∧l<=h∧h<=n) (.dR o (i+l.toNat) (h.toNat - l.toNat) acO)
  | _=>.fail)
 | _,_=>.fail
def GH:Option Operand->Option Operand->Bool
 | some (.tmp a),some (.tmp b)=>Nat.beq a b
 | _,_=>false
def ajX (ρ:Operand->AV) (hi mx:Option Operand) (k:Pg):Pg:=
 match mx with
 | none=>k
 | some m=>match hi with
  | none=>.fail
  | some h=>match ρ h,ρ m with
   | .int kk a,.int kk' b=>gL (ET kk kk') (.need (a=b) k)
   | _,_=>.fail
def afk (x:AV) (k:Nat->Nat->(Nat->AV)->Pg):Pg:=
 match x with
 | .sl es n _ g=>k es n g
 | .dR o i n _=>.rd o λ
  | .row es _ g=>k es n (rP i g)
  | _=>.fail
 | _=>.fail
def isZ:Nat->Bool
 | 0=>true
 | _+1=>false
def WT (es n size:Nat):Bool:=match Nat.beq es size with | true=>true | false=>isZ n
def big:Nat:=140737488355328
def cpG (i k:Nat) (g h:Nat->AV):Nat->AV:=λ j=>bif Nat.ble i j&&Nat.blt j (i+k) then h (j - i) else g j
def adI (ti:TS) (d s:AV):Pg:=
 afk s λ es' m h=>gL (WT es' m ti.size) (
 match d with
 | .dR o i n _=>.rd o λ
  | .row es N g=>gL (Nat.beq es ti.size) (.need (i+n+m<=N) (.ret (.dR o i (n+m) false) [(o,some (.row es N (cpG (i+n) m g h)))]))
  | _=>.fail
 | _=>.fail)
def isSelf:AV->AV->Bool
 | .dR o _ _ _,.dR o' _ _ _=>Nat.beq o o'
 | _,_=>false
def alv (o i n N:Nat) (f:Bool) (lo hi mx:Option AV):Pg:=match mx with
 | some (.int _ m)=>match lo,hi with
  | some (.int _ l),some (.int _ h)=>oI (0<=l∧l<=h∧h<=m∧m<=n) .undef
  | none,some (.int _ h)=>oI (0<=h∧h<=m∧m<=0) (.sl 0 0 true dM)
  | _,_=>.fail
 | some _=>.fail
 | none=>match lo,hi with
  | none,none=>l6 (.dR o i n f)
  | none,some (.int _ h)=>oI (0<=h∧(i:Int)+h<=N) (.dR o i h.toNat false)
  | some (.int _ l),none=>oI (0<=l∧l<=n) (.dR o (i+l.toNat) (n - l.toNat) f)
  | some (.int _ l),some (.int _ h)=>oI (0<=l∧l<=h∧(i:Int)+h<=N) (.dR o (i+l.toNat) (h.toNat - l.toNat) false)
  | _,_=>.fail
def afl (ti:TS) (eY:Nat) (d s:AV):Pg:=
 afk s λ es' m h=>gL (WT es' m ti.size) (
 match d with
 | .sl es n full g=>gL full (match es with
  | 0=>gL (isZ n) (.need (m*ti.bytes<=big) (.ret (.dR eY 0 m false) [(eY,some (.row ti.size m h))]))
  | es1+1=>gL (WT (es1+1) n ti.size) (oI ((n+m)*ti.bytes<=big) (.sl ti.size (n+m) false (appG n g h))))
 | .dR o i n _=>.rd o λ
  | .row es _ g=>gL (Nat.beq es ti.size) (.need ((n+m)*ti.bytes<=big) (.ret (.dR eY 0 (n+m) false) [(eY,some (.row es (n+m) (appG n (rP i g) h))),(o,none)]))
  | _=>.fail
 | _=>.fail)
def wL:azt->Nat->Nat->Option Nat
 | [],_,_=>none
 | a::l,o,j=>match Nat.beq a o with | true=>some j | false=>wL l o (j+1)
def qN:AV->Bool
 | .undef | .bool _ | .int .. | .str _ | .sl .. | .ro _ | .Gm | .pm .. => true
 | _=>false
def au8:AV->azt
 | .ptr o _ _=>[o]
 | .dR o _ _ _=>[o]
 | .mref o=>[o]
 | _=>[]
def Yr:azx->azt
 | []=>[]
 | v::l=>au8 v++Yr l
def aiU (sg:azt):azt->Bool
 | []=>false
 | o::_=>match wL sg o 0 with
  | some _=>true
  | none=>false
def alx (sg:azt) (v:AV) (k:AV->Pg):Pg:=match v with
 | .ptr o i off=>match wL sg o 0 with
  | some j=>k (.ptr j i off)
  | none=>.fail
 | .dR o i n f=>match wL sg o 0 with
  | some j=>k (.dR j i n f)
  | none=>.fail
 | .mref o=>match wL sg o 0 with
  | some j=>k (.mref j)
  | none=>.fail
 | v=>gL (qN v) (k v)
def aho (sg:azt):azx->(azx->Pg)->Pg
 | [],k=>k []
 | v::l,k=>alx sg v λ v'=>aho sg l λ l'=>k (v'::l')
def Q7 (sg:azt) (v:AV) (k:AV->azt->Pg):Pg:=
 match v with
 | .ptr o i off=>match wL sg o 0 with
  | some j=>k (.ptr j i off) []
  | none=>pur fuel (.ptr o i off) k
 | .dR o i n full=>match wL sg o 0 with
  | some j=>k (.dR j i n full) []
  | none=>pur fuel (.dR o i n full) k
 | .mref o=>match wL sg o 0 with
  | some j=>k (.mref j) []
  | none=>pur fuel (.mref o) k
 | .fn f cs=>match aiU sg (Yr cs) with
  | true=>aho sg cs λ cs'=>k (.fn f cs') []
  | false=>pur fuel (.fn f cs) k
 | .agg cs=>match aiU sg (Yr cs) with
  | true=>aho sg cs λ cs'=>k (.agg cs') []
  | false=>pur fuel (.agg cs) k
 | v=>pur fuel v k
def Jl (sg:azt):azx->(azx->azt->Pg)->Pg
 | [],k=>k [] []
 | v::l,k=>Q7 sg v λ v' i1=>Jl sg l λ l' i2=>k (v'::l') (i1++i2)
def aiV:azt->(azE->Pg)->Pg
 | [],k=>k []
 | o::l,k=>.rd o λ ob=>aiV l λ obs=>k (ob::obs)
def sigma (args:azx):azt->azt
 | []=>[]
 | p::l=>match nth args p with
  | .ptr o _ _=>o::sigma args l
  | .dR o _ _ _=>o::sigma args l
  | .mref o=>o::sigma args l
  | .fn _ cs=>Yr cs++sigma args l
  | .agg cs=>Yr cs++sigma args l
  | _=>sigma args l
def D5:Nat->azt->Bool
 | _,[]=>false
 | a,b::l=>match Nat.beq a b with | true=>true | false=>D5 a l
def qb:azt->Bool
 | []=>true
 | a::l=>match D5 a l with | true=>false | false=>qb l
def aam:AV->Bool
 | .bool _ | .int .. | .str _=>true
 | _=>false
def adJ:azx->Bool
 | []=>true
 | v::l=>match aam v with | true=>adJ l | false=>false
def aan:AV->Bool
 | .agg vs=>adJ vs
 | v=>aam v
def adK:azx->Bool
 | []=>true
 | v::l=>match aan v with | true=>adK l | false=>false
def aly:AV->Bool
 | .jX vs=>adK vs
 | v=>aan v
def iB:azt->Nat->Nat
 | [],_=>0
 | a::_,0=>a
 | _::l,n+1=>iB l n
def aao:eP->Bool
 | .map .other [] _=>true
 | _=>false
def acP:eP:=.map .other [] λ _=>none
def gz (x:eP):Option eP:=match aao x with
 | true=>none
 | false=>some x
def EU:azt->azE->lD
 | o::l,x::m=>(o,gz x)::EU l m
 | _,_=>[]
def aoK (f:FuncId):FnI:=match look cfg.fns f with | some i=>i | none=>{}
def AA:azx->Bool
 | []=>true
 | v::l=>match qN v with | true=>AA l | false=>false
def ZT:eP->Bool
 | .box cs=>AA cs
 | .row .. => true
 | .map .. => false
def atc:AV->Bool
 | .agg vs=>AA vs
 | v=>qN v
def Oi:azt->azt->Bool
 | [],_=>true
 | x::l,m=>match D5 x m with | true=>false | false=>Oi l m
def atd:AV->azt
 | .ptr o _ _=>[o]
 | .dR o _ _ _=>[o]
 | .mref o=>[o]
 | .fn _ cs=>Yr cs
 | _=>[]
def aqm:azx->azt
 | []=>[]
 | v::l=>atd v++aqm l
def ate:eP->azt
 | .box cs=>aqm cs
 | _=>[]
def aap:Nat->azt->azt->(azt->Pg)->Pg
 | 0,_,_,_=>.fail
 | _+1,[],sg,k=>k sg
 | f+1,o::todo,sg,k=>match D5 o sg with
  | true=>aap f todo sg k
  | false=>.rd o λ ob=>aap f (todo++ate ob) (sg++[o]) k
def inv1 (sg:azt) (v:AV) (k:AV->Pg):Pg:=match v with
 | .ptr o i off=>match wL sg o 0 with
  | some j=>k (.ptr j i off)
  | none=>.fail
 | .dR o i n f=>match wL sg o 0 with
  | some j=>k (.dR j i n f)
  | none=>.fail
 | .mref o=>match wL sg o 0 with
  | some j=>k (.mref j)
  | none=>.fail
 | .fn f cs=>aho sg cs λ cs'=>k (.fn f cs')
 | v=>gL (qN v) (k v)
def aoL (sg:azt):azx->(azx->Pg)->Pg
 | [],k=>k []
 | v::l,k=>inv1 sg v λ v'=>aoL sg l λ l'=>k (v'::l')
def atf (sg:azt) (x:eP) (k:eP->Pg):Pg:=match x with
 | .box cs=>aoL sg cs λ cs'=>k (.box cs')
 | .row es n g=>k (.row es n g)
 | .map kd z f=>k (.map kd z f)
def aiW (sg:azt):azE->(azE->Pg)->Pg
 | [],k=>k []
 | x::l,k=>atf sg x λ x'=>aiW sg l λ l'=>k (x'::l')
def afm (sg:azt):AV->AV
 | .ptr j i off=>.ptr (iB sg j) i off
 | .dR j i n full=>.dR (iB sg j) i n full
 | .mref j=>.mref (iB sg j)
 | v=>v
def alz (sg:azt):azx->azx
 | []=>[]
 | v::l=>afm sg v::alz sg l
def KP (sg:azt):AV->AV
 | .ptr j i off=>.ptr (iB sg j) i off
 | .dR j i n full=>.dR (iB sg j) i n full
 | .mref j=>.mref (iB sg j)
 | .fn f cs=>.fn f (alz sg cs)
 | v=>v
def ajY (sg:azt):azx->azx
 | []=>[]
 | v::l=>KP sg v::ajY sg l
def KQ (sg:azt):AV->AV
 | .agg cs=>.agg (ajY sg cs)
 | v=>KP sg v
def afn (sg:azt):azx->azx
 | []=>[]
 | v::l=>KQ sg v::afn sg l
def aoM (sg:azt):AV->AV
 | .jX vs=>.jX (afn sg vs)
 | v=>KQ sg v
def ab4 (sg:azt):eP->eP
 | .box cs=>.box (ajY sg cs)
 | .row es n g=>.row es n g
 | .map kd z f=>.map kd z f
def aaq (sg:azt):azE->azE
 | []=>[]
 | x::l=>ab4 sg x::aaq sg l
def aoN:AV->Bool
 | .ptr .. | .dR .. | .mref _=>true
 | v=>qN v
def okA:azx->Bool
 | []=>true
 | v::l=>match aoN v with | true=>okA l | false=>false
def alA:AV->Bool
 | .fn _ cs=>okA cs
 | .agg _ | .jX _=>false
 | _=>true
def alB:azx->Bool
 | []=>true
 | v::l=>match alA v with | true=>alB l | false=>false
def alC:AV->Bool
 | .agg cs=>alB cs
 | v=>alA v
def aiX:azx->Bool
 | []=>true
 | v::l=>match alC v with | true=>aiX l | false=>false
def atg:AV->Bool
 | .jX vs=>aiX vs
 | v=>alC v
def aoO:eP->Bool
 | .box cs=>alB cs
 | .row .. => true
 | .map .. => true
def aiY:azE->Bool
 | []=>true
 | x::l=>match aoO x with | true=>aiY l | false=>false
def lQ:Nat->Nat->azt
 | 0,_=>[]
 | n+1,i=>i::lQ n (i+1)
def ZU (eY:Nat) (f:FuncId) (args:azx) (sg0:azt):Pg:=
 aap 40 sg0 [] λ sg=>gL (qb sg) (aiV sg λ obs=>aiW sg obs λ ajZ=>Jl sg args λ args' ids=>gL (Oi ids sg)
  (.call f args' ajZ λ r fQ=>gL (aiY fQ) (gL (Nat.ble fQ.length (sg.length+stride)) (gL (atg r)
    (.ret (aoM (sg++lQ (fQ.length - sg.length) eY) r) (EU (sg++lQ (fQ.length - sg.length) eY) (aaq (sg++lQ (fQ.length - sg.length) eY) fQ)++dead ids))))))
def alD (eY:Nat) (f:FuncId) (args:azx):Pg:=
 match sigma args (aoK cfg f).muts with
 | []=>match (aoK cfg f).frz with
  | false=>Jl [] args λ args' _=>.call f args' [] λ r fQ=>match fQ with
   | []=>gL (aly r) (l6 r)
   | _::_=>.fail
  | true=>ZU eY f args []
 | x::sg=>ZU eY f args (x::sg)
def keyOf:AV->Option dV
 | .str b=>some (.s b)
 | .int .i64 n=>some (.i n)
 | _=>none
def aqU (z:azF) (n:Int):AV:=match z with
 | [.bool]=>.bool (n != 0)
 | [.int k]=>.int k n
 | _=>.undef
def aqV (z:azF):AV->Option Int
 | .bool b=>match z with
  | [.bool]=>some (bif b then 1 else 0)
  | _=>none
 | .int k n=>match z with
  | [.int k']=>match decide (k=k') with
   | true=>some n
   | false=>none
  | _=>none
 | _=>none
def WU:azF->Bool
 | [.bool]=>true
 | [.int _]=>true
 | _=>false
def jJ (f:dV->Option Int) (k:dV):Int:=(f k).getD 0
def CX (f:dV->Option Int) (k:dV) (n:Int):dV->Option Int:=λ k'=>if k'=k then some n else f k'
def aqn (kt:TypeId) (d:TD) (k:Pg):Pg:=match d with
 | .struct [(0,a),(1,b)]=>WS cfg a λ ia=>WS cfg b λ ib=>gL (decide (ia.desc=.int .i64)) (gL (decide (ib.desc=.int .i64)) (gL (decide (look cfg.eqs kt=some [.int .i64,.int .i64])) k))
 | _=>k
def alE (t:TypeId) (k:TS->TS->Pg):Pg:=match look cfg.ty t with
 | some i=>match i.desc with
  | .map kt et=>WS cfg kt λ ki=>WS cfg et λ ei=>gL (!ei.agg) (aqn cfg kt ki.desc (k ki ei))
  | _=>.fail
 | none=>.fail
def yA (d:TD):dV->Bool
 | .s _=>match d with | .str=>true | _=>false
 | .i _=>match d with | .int .i64=>true | _=>false
 | .p _ _=>false
def aiZ (z:azF) (f:dV->Option Int) (k:dV) (ok:Bool):AV:=match ok with
 | true=>.jX [aqU z (jJ f k),.bool (f k).isSome]
 | false=>aqU z (jJ f k)
def aar:TD->Option (Nat×TypeId)
 | .array n e=>some (n,e)
 | _=>none
def alF (t:TypeId):Option (Nat×TypeId):=match look cfg.ty t with
 | some i=>aar i.desc
 | none=>none
def ai0 (et sz:Nat):Nat->Nat->List (Nat×Nat)
 | 0,_=>[]
 | n+1,k=>(k*sz,et)::ai0 et sz n (k+1)
def ath:AV->Bool
 | .bool b=>b
 | _=>false
def ava:AV->Int
 | .int _ n=>n
 | _=>0
def avb:AV->ByteArray
 | .str s=>s
 | _=>ByteArray.empty
def slN:AV->Nat
 | .sl _ n _ _=>n
 | _=>0
def slG:AV->Nat->AV
 | .sl _ _ _ g=>g
 | _=>λ _=>.undef
def esA:AV->Nat
 | .sl es _ _ _=>es
 | _=>0
def alG:azF->Nat->ZK
 | [],_=>.other
 | z::_,0=>z
 | _::l,n+1=>alG l n
def aoP (z:ZK) (es:Nat) (c:AV):Bool:=match z,c with
 | .bool,.bool _=>true
 | .int k,.int k' _=>ET k k'
 | .str,.str _=>true
 | .slice,.sl es' n _ _=>match Nat.beq es' es with
  | true=>true
  | false=>Nat.beq n 0
 | _,_=>false
def aqW (z:ZK) (es:Nat) (c:AV):AV:=match z with
 | .bool=>.bool (ath c)
 | .int k=>.int k (ava c)
 | .str=>.str (avb c)
 | .slice=>.sl es (slN c) false (slG c)
 | _=>.undef
def acQ (sz j:Nat):Nat->azx->Nat
 | _,[]=>0
 | k,c::cs=>match Nat.beq (Nat.mod k sz) j with
  | true=>(λ m=>match Nat.ble (esA c) m with | true=>m | false=>esA c) (acQ sz j (k+1) cs)
  | false=>acQ sz j (k+1) cs
def aoQ (zs:azF) (sz:Nat) (all:azx):Nat->azx->Bool
 | _,[]=>true
 | k,c::cs=>match aoP (alG zs (Nat.mod k sz)) (acQ sz (Nat.mod k sz) 0 all) c with
  | true=>aoQ zs sz all (k+1) cs
  | false=>false
def afo (all:azx) (b sz:Nat):Nat->azF->azx
 | _,[]=>[]
 | j,z::zs=>aqW z (acQ sz j 0 all) (nth all (b+j))::afo all b sz (j+1) zs
def alH (ei:TS) (n:Nat) (cs:azx) (i:Int):Pg:=
 gL (zok ei) (gL (Nat.beq cs.length (n*ei.size)) (gL (Nat.beq ei.zero.length ei.size) (gL (aoQ ei.zero ei.size cs 0 cs) (oI (0<=i∧i<n) (match ei.agg with
  | true=>.agg (afo cs (i.toNat*ei.size) ei.size 0 ei.zero)
  | false=>nth (afo cs (i.toNat*ei.size) ei.size 0 ei.zero) 0)))))
def ahp:Nat->azF->azF
 | 0,_=>[]
 | n+1,z=>z++ahp n z
def lS:Nat->Nat->(Nat->AV)->azx
 | 0,_,_=>[]
 | k+1,i,g=>(g i).cells++lS k (i+1) g
def aqX:TD->Bool
 | .str=>true
 | _=>false
def aqY:AV->Bool
 | .int .u8 _=>true
 | _=>false
def u8D:TD->Bool
 | .int .u8=>true
 | _=>false
def KR:Nat->Nat->(Nat->AV)->ByteArray->ByteArray
 | 0,_,_,s=>s
 | k+1,i,g,s=>KR k (i+1) g (s.push (UInt8.ofNat (match g i with
  | .int _ n=>n.toNat
  | _=>0)))
def adL (src:TypeId) (x:AV):Pg:=LZ cfg src λ ei=>gL (u8D ei.desc) (afk x λ es n g=>gL (WT es n 1) (.need (∀i,i<n->aqY (g i)=true) (l6 (.str (KR n 0 g ByteArray.empty)))))
def alI (o n:Nat) (lo hi:Option AV):Pg:=
 match lo,hi with
 | none,none=>l6 (.dR o 0 n true)
 | none,some (.int _ h)=>oI (0<=h∧h<=n) (.dR o 0 h.toNat false)
 | _,_=>.fail
def gI (b:ByteArray) (i:Nat):Int:=match b[i]? with
 | some x=>x.toNat
 | none=>0
def aqZ (eY:Nat) (t t':TypeId) (d:AV) (k:Int):Pg:=WS cfg t' λ ti'=>LZ cfg t λ ti=>match ti'.desc,d with
 | .int _,.sl _ n full _=>gL (zf full n) (gL (Nat.blt 0 ti.size) (gL (Nat.blt 0 ti.bytes) (gL (zok ti) (.need (0<k∧k*ti.bytes<=big) (.ret (.dR eY 0 k.toNat false) [(eY,some (.row ti.size k.toNat (λ _=>zeroOf ti)))])))))
 | _,_=>.fail
def ai1 (t:TypeId) (x ix y:AV):Pg:=alE cfg t λ ki ei=>match x,keyOf ix,aqV ei.zero y with
 | .mref o,some k,some n=>gL (yA ki.desc k) (.rd o λ
  | .map kd z f=>gL (decide (kd=ki.desc)) (gL (decide (z=ei.zero)) (gL (WU z) (.ret .undef [(o,some (.map kd z (CX f k n)))])))
  | _=>.fail)
 | _,_,_=>.fail
def iC (eY:Nat) (op:Op) (ρ:Operand->AV):Pg:=
 match op with
 | .move x=>l6 (ρ x)
 | .assign x=>l6 (ρ x)
 | .pick c a b=>ahn (ρ c) a b (ρ a) (ρ b)
 | .alloc e=>WS cfg e λ ti=>match aar ti.desc with
  | some (n,et)=>WS cfg et λ ei=>gL (zok ei) (gL (Nat.blt 0 n) (gL (decide (ti.zero=ahp n ei.zero)) (.ret (.ptr eY 0 0) [(eY,some (.row ei.size n (λ _=>zeroOf ei)))])))
  | none=>.ret (.ptr eY 0 0) [(eY,some (.box (BQ ti.zero)))]
 | .box _ x=>Og (ρ x) λ cs=>.ret (.ptr eY 0 0) [(eY,some (.box cs))]
 | .build t parts=>WS cfg t λ ti=>match ti.desc with
  | .struct fs=>afj cfg fs (parts.toList.map λ p=>(p.1,ρ p.2)) (BQ ti.zero) λ cs=>l6 (.agg cs)
  | .array n et=>WS cfg et λ ei=>afj cfg (ai0 et ei.size n 0) (parts.toList.map λ p=>(p.1,ρ p.2)) (BQ ti.zero) λ cs=>l6 (.agg cs)
  | _=>.fail
 | .buildSlice t len parts=>LZ cfg t λ ti=>gL (zok ti) (gL (Nat.ble (len*ti.size) 4096) (U5 (parts.toList.map λ p=>(p.1,ρ p.2)) λ ps ids=>
   aiT ti.size ti.agg ps (ajW len (zeroOf ti)) λ es=>
   .ret (.dR eY 0 len true) ((eY,some (.row ti.size len (Yq es)))::dead ids)))
 | .load t a=>WS cfg t λ ti=>match ρ a with
  | .ptr o i off=>.rd o λ
   | .box cs=>CW ti (cs.drop off)
   | .row es n g=>match aar ti.desc with
    | some _=>gL (isZ i&&isZ off) (CW ti (lS n 0 g))
    | none=>gL (Nat.ble (off+ti.size) es) (CW ti ((g i).cells.drop off))
   | .map .. => .fail
  | .ro cs=>CW ti cs
  | _=>.fail
 | .store t a x=>WS cfg t λ ti=>match ρ a with
  | .ptr o i off=>.rd o λ
   | .box cs=>Og (ρ x) λ vs=>gL (Nat.beq vs.length ti.size) (gL (Nat.ble (off+vs.length) cs.length) (.ret .undef [(o,some (.box (Jk off vs cs)))]))
   | .row es n g=>match aar ti.desc with
    | some _=>pur fuel (ρ x) λ x' ids=>gL (!D5 o ids) (Og x' λ vs=>gL (Nat.beq vs.length ti.size) (gL (Nat.beq es 1) (gL (Nat.beq n ti.size) (gL (isZ i&&isZ off) (.ret .undef ((o,some (.row 1 n (Yq vs)))::dead ids))))))
    | none=>pur fuel (ρ x) λ x' ids=>gL (!D5 o ids) (Og x' λ vs=>gL (Nat.beq vs.length ti.size) (gL (Nat.blt 0 ti.size) (gL (Nat.ble (off+vs.length) es)
     (.ret .undef ((o,some (.row es n (afi g i (match isZ off&&Nat.beq vs.length es with
       | true=>x'
       | false=>match g i with
        | .agg cs=>.agg (Jk off vs cs)
        | _=>x'))))::dead ids)))))
   | .map .. => .fail
  | _=>.fail
 | .nilCheck x=>match ρ x with
  | .ptr o i off=>.rd o λ _=>l6 (.ptr o i off)
  | .ro cs=>l6 (.ro cs)
  | .fn f cs=>l6 (.fn f cs)
  | _=>.fail
 | .binOp op t x y _=>alr cfg op t (ρ x) (ρ y)
 | .unOp op _ x=>match op,ρ x with
  | .not,.bool b=>l6 (.bool (!b))
  | _,_=>.fail
 | .convert src dst x=>WS cfg src λ _=>WS cfg dst λ ti=>match aqX ti.desc with
  | true=>adL cfg src (ρ x)
  | false=>match ti.desc,ρ x with
   | .int k,.int _ n=>l6 (.int k (k.wrap n))
   | _,_=>.fail
 | .makeFunc fn first captured=>match fn,first.toList with
  | .func f,[]=>l6 (.fn f (captured.toList.map ρ))
  | _,_=>.fail
 | .makeSlice t l c=>LZ cfg t λ ti=>match ρ l with
  | .int _ n=>match GH (some l) (some c) with
   | true=>gL (Nat.blt 0 ti.bytes) (gL (zok ti) (.need (0<=n∧n*ti.bytes<=big) (.ret (.dR eY 0 n.toNat true) [(eY,some (.row ti.size n.toNat (λ _=>zeroOf ti)))])))
   | false=>match ρ c with
    | .int _ k=>gL (Nat.blt 0 ti.bytes) (gL (zok ti) (.need (n=0∧0<=k∧k*ti.bytes<=big) (.ret (.dR eY 0 0 false) [(eY,some (.row ti.size 0 dM))])))
    | _=>.fail
  | _=>.fail
 | .slice t x lo hi mx=>match alF cfg t with
  | some (n,et)=>WS cfg et λ ei=>gL mx.isNone (match ρ x with
   | .ptr o i off=>.rd o λ
    | .row es n' _=>gL (isZ i&&isZ off) (gL (Nat.beq es ei.size) (gL (Nat.beq n' n) (alI o n (lo.map ρ) (hi.map ρ))))
    | _=>.fail
   | _=>.fail)
  | none=>match ρ x with
  | .dR o i n f=>LZ cfg t λ ti=>.rd o λ
   | .row es N _=>gL (Nat.beq es ti.size) (alv o i n N f (lo.map ρ) (hi.map ρ) (mx.map ρ))
   | _=>.fail
  | _=>ajX ρ hi mx<|LZ cfg t λ ti=>match ρ x with
   | .sl es n f g=>gL (WT es n ti.size) (ZR (.sl es n f g) (lo.map ρ) (hi.map ρ) mx.isSome mx.isSome)
   | .dR o i n f=>.rd o λ
    | .row es _ _=>gL (Nat.beq es ti.size) (ZR (.dR o i n f) (lo.map ρ) (hi.map ρ) mx.isSome mx.isSome)
    | _=>.fail
   | _=>.fail
 | .fieldAddr s x f=>WS cfg s λ ts=>match Q6 ts f with
  | some (o,t)=>WS cfg t λ ti=>gL (Nat.blt 0 ti.size) (match ρ x with
   | .ptr ob i off=>.rd ob λ _=>l6 (.ptr ob i (off+o))
   | .ro cs=>l6 (.ro (cs.drop o))
   | _=>.fail)
  | none=>.fail
 | .field s x f=>WS cfg s λ ts=>match Q6 ts f with
  | some (o,t)=>WS cfg t λ ti=>match ρ x with
   | .agg cs=>CW ti (cs.drop o)
   | _=>.fail
  | none=>.fail
 | .indexAddr t x ix=>match alF cfg t with
  | some (n,et)=>WS cfg et λ ei=>match ρ ix,ρ x with
   | .int _ i,.ptr o j off=>.rd o λ
    | .row es n' _=>gL (isZ j&&isZ off) (gL (Nat.beq es ei.size) (gL (Nat.beq n' n) (oI (0<=i∧i<n) (.ptr o i.toNat 0))))
    | _=>.fail
   | _,_=>.fail
  | none=>LZ cfg t λ ti=>match ρ ix with
  | .int _ i=>match ρ x with
   | .sl es n _ g=>gL (WT es n ti.size) (oI (0<=i∧i<n) (.ro (g i.toNat).cells))
   | .dR o j n _=>.rd o λ
    | .row es _ _=>gL (Nat.beq es ti.size) (oI (0<=i∧i<n) (.ptr o (addN j i.toNat) 0))
    | _=>.fail
   | _=>.fail
  | _=>.fail
 | .index t x ix=>WS cfg t λ ti=>match ti.desc,ρ x,ρ ix with
  | .str,.str b,.int _ i=>oI (0<=i∧i<b.size) (.int .u8 (gI b i.toNat))
  | .array n et,.agg cs,.int _ i=>WS cfg et λ ei=>alH ei n cs i
  | _,_,_=>.fail
 | .makeMap t none=>alE cfg t λ ki ei=>.ret (.mref eY) [(eY,some (.map ki.desc ei.zero λ _=>none))]
 | .lookup t x ix ok=>alE cfg t λ ki ei=>(match ρ x,keyOf (ρ ix) with
  | .mref o,some k=>gL (yA ki.desc k) (.rd o λ
   | .map kd z f=>gL (decide (kd=ki.desc)) (gL (decide (z=ei.zero)) (gL (WU z) (l6 (aiZ z f k ok))))
   | _=>.fail)
  | .pm kd z f,some k=>gL (yA ki.desc k) (gL (decide (kd=ki.desc)) (gL (decide (z=ei.zero)) (gL (WU z) (l6 (aiZ z f k ok)))))
  | _,_=>.fail)
 | .mapUpdate t x ix y=>ai1 cfg t (ρ x) (ρ ix) (ρ y)
 | .insert t x ix y=>ai1 cfg t (ρ x) (ρ ix) (ρ y)
 | .extract t i=>match ρ t with
  | .jX vs=>gL (Nat.blt i vs.length) (l6 (nth vs i))
  | _=>.fail
 | .call c=>match c.callee with
  | .builtin .len=>match c.args.toList.map ρ,c.argTypes.toList with
   | [v],[t]=>WS cfg t λ ti=>match v,ti.desc with
    | .sl _ n _ _,.slice _=>l6 (.int .i64 n)
    | .dR o _ n _,.slice _=>.rd o λ _=>l6 (.int .i64 n)
    | .str s,.str=>l6 (.int .i64 s.size)
    | _,_=>.fail
   | _,_=>.fail
  | .builtin .append=>match c.args.toList.map ρ,c.argTypes.toList with
   | [d,s],[t,t']=>atb s (aqZ cfg eY t t' d)
    (LZ cfg t' λ _=>LZ cfg t λ ti=>gL (Nat.blt 0 ti.size) (gL (Nat.blt 0 ti.bytes) (match isSelf d s with | true=>adI ti d s | false=>afl ti eY d s)))
   | _,_=>.fail
  | .builtin .min=>match c.args.toList.map ρ with
   | [.int k a,.int _ b]=>l6 (.int k (if b<a then b else a))
   | _=>.fail
  | .builtin .max=>match c.args.toList.map ρ with
   | [.int k a,.int _ b]=>l6 (.int k (if b > a then b else a))
   | _=>.fail
  | .builtin _=>.fail
  | .value f=>match ρ f with
   | .fn g caps=>alD cfg eY g (c.args.toList.map ρ++caps)
   | _=>.fail
  | .invoke _ _=>.fail
 | _=>.fail
def ZV (T:Nat->AV):Operand->AV
 | .tmp t=>T t
 | .const v=>ofConst v
 | .global g=>match look cfg.glob g with | some cs=>.ro cs | none=>.undef
 | .func f=>.fn f []
end ops
abbrev pQ:=FuncId->azx->azE->AV->azE->Prop
structure Log where
 BR:azt
 wrs:azt
structure St where
 tmps:List (Nat×AV)
 heap:lD
 nx:Nat
abbrev PC:=List (Bool×Bool)
def aj0:PC->Prop->(Prop->Prop)->Prop
 | [],p,K=>K p
 | (c,b)::l,p,K=>aj0 l (c=b->p) K
section run
variable (cfg:yx) (Sp:pQ)
def ids:lD->azt
 | []=>[]
 | (o,_)::l=>o::ids l
def ev (pc:PC) (H:Nat->Option eP):Pg->azt->(AV->lD->azt->Prop)->Prop
 | .ret v ups,BR,K=>force v λ v'=>ES ups λ xV=>K v' xV BR
 | @Pg.need p _ k,BR,K=>aj0 pc p λ p'=>p'∧ev pc H k BR K
 | .rd o k,BR,K=>match H o with
  | some x=>ev pc H (k x) (o::BR) K
  | none=>aj0 pc False λ p'=>p'∧K .undef [] BR
 | .call f args obs k,BR,K=>∃r fQ,aj0 pc (Sp f args obs r fQ) λ p'=>p'∧ev pc H (k r fQ) BR K
 | .fail,BR,K=>aj0 pc False λ p'=>p'∧K .undef [] BR
def ai2:Op->Bool
 | .move _ | .assign _ | .pick .. | .build .. | .load .. | .nilCheck _ | .binOp .. | .unOp .. | .convert .. | .makeFunc .. | .slice .. | .fieldAddr .. | .field .. | .indexAddr .. | .index .. | .lookup .. | .extract .. => true
 | .call c=>match c.callee with
  | .builtin .len | .builtin .min | .builtin .max=>true
  | .value (.func f)=>match (aoK cfg f).muts,(aoK cfg f).frz with | [],false=>true | _,_=>false
  | _=>false
 | _=>false
def aas (c:Bool) (A B:Prop):Prop:=match c with | true=>A | false=>B
def acR:List Oper->Nat->Option Oper
 | [],_=>none
 | o::_,0=>some o
 | _::l,n+1=>acR l n
def Yt (all:List Oper) (j:Nat):Option Nat:=match acR all j with
 | some o=>o.dst
 | none=>none
def alJ (ups H:lD) (K:lD->Prop):Prop:=
 match ups with
 | []=>K H
 | u::l=>alJ l H λ H'=>K (u::H')
def alK (dst:Option Nat) (v u:AV) (T U:List (Nat×AV)) (K:List (Nat×AV)->List (Nat×AV)->Prop):Prop:=
 match dst with
 | some d=>K ((d,v)::T) ((d,u)::U)
 | none=>K T U
def Oj:List PC->Nat->PC
 | [],_=>[]
 | p::_,0=>p
 | _::l,n+1=>Oj l n
def ahr:List PC->Nat->(PC->Prop)->Prop
 | [],_,K=>K []
 | p::_,0,K=>K p
 | _::l,n+1,K=>ahr l n K
def TT:List PC->PC->(List PC->Prop)->Prop
 | [],p,K=>K [p]
 | q::l,p,K=>TT l p λ l'=>K (q::l')
def isNone {α:Type}:Option α->Bool
 | none=>true
 | some _=>false
def afp (all:List Oper) (nx:Nat):List Oper->Nat->List (Nat×AV)->List (Nat×AV)->lD->List PC->List Log->(St->List Log->Prop)->Prop
 | [],i,_,U,H,_,log,K=>K ⟨U,H,nx+stride*i⟩ log
 | o::rest,i,T,U,H,pcs,log,K=>
  match o.guard with
  | none=>ev Sp [] (hget H) (iC cfg (nx+stride*i) o.op (ZV cfg (iK T))) [] λ v ups BR=>
    alK o.dst v v T U λ T' U'=>alJ ups H λ H'=>TT pcs [] λ ahs=>afp all nx rest (i+1) T' U' H' ahs (⟨BR,ids ups⟩::log) K
  | some (j,b)=>match Yt all j with
   | some d=>match iK T d with
    | .bool c=>match ai2 cfg o.op with
     | true=>ahr pcs j λ pcj=>ev Sp ((c,b)::pcj) (hget H) (iC cfg (nx+stride*i) o.op (ZV cfg (iK T))) [] λ v ups BR=>
      match ups with
      | []=>alK o.dst v .undef T U λ T' U'=>TT pcs ((c,b)::pcj) λ ahs=>afp all nx rest (i+1) T' U' H ahs (⟨BR,[]⟩::log) K
      | _::_=>False
     | false=>match Oj pcs j with
      | []=>aas (c==b)
       (ev Sp [] (hget H) (iC cfg (nx+stride*i) o.op (ZV cfg (iK T))) [] λ v ups BR=>
         alK o.dst v v T U λ T' U'=>alJ ups H λ H'=>TT pcs [] λ ahs=>afp all nx rest (i+1) T' U' H' ahs (⟨BR,ids ups⟩::log) K)
       (alK o.dst .undef .undef T U λ T' U'=>TT pcs [(c,b)] λ ahs=>afp all nx rest (i+1) T' U' H ahs (⟨[],[]⟩::log) K)
      | _::_=>False
    | _=>False
   | none=>False
def aat (all:List Oper) (i:Nat):Option (Nat×Bool):=match acR all i with
 | some o=>o.guard
 | none=>none
def chain (all:List Oper):Nat->Option (Nat×Bool)->List (Nat×Bool)
 | 0,_=>[]
 | _+1,none=>[]
 | f+1,some (j,b)=>(j,b)::chain all f (aat all j)
def ai3 (d:Option Nat) (t:Nat):Bool:=match d with
 | some x=>Nat.beq x t
 | none=>false
def xu (t:Nat):List Oper->Nat->azt
 | [],_=>[]
 | o::l,i=>match ai3 o.dst t with
  | true=>i::xu t l (i+1)
  | false=>xu t l (i+1)
def writers (all:List Oper) (t:Nat):azt:=xu t all 0
def ZW (all:List Oper):azt->Bool
 | []=>true
 | i::l=>match aat all i with
  | none=>ZW all l
  | some _=>false
def eqB:Bool->Bool->Bool
 | true,true=>true
 | false,false=>true
 | _,_=>false
def aoR (j:Nat) (b:Bool):List (Nat×Bool)->Bool
 | []=>false
 | (j',b')::l=>match Nat.beq j j',eqB b b' with
  | true,true=>true
  | _,_=>aoR j b l
def adM (all:List Oper) (k:Nat) (g:Option (Nat×Bool)) (t:Nat):Bool:=
 match writers all t with
 | [i]=>match aat all i with
  | none=>true
  | some (j,b)=>match Nat.blt i k with
   | true=>aoR j b (chain all 20 g)
   | false=>false
 | l=>ZW all l
def ai4 (all:List Oper) (k:Nat) (g:Option (Nat×Bool)) (c:Operand) (pol:Bool) (x:Operand):Bool:=
 match x with
 | .tmp t=>match adM all k g t with
  | true=>true
  | false=>match c,writers all t with
   | .tmp ct,[i]=>match aat all i,writers all ct,Nat.blt i k with
    | some (j,b),[jc],true=>match Nat.beq j jc,Nat.blt jc k with
     | true,true=>eqB b pol
     | _,_=>false
    | _,_,_=>false
   | _,_=>false
 | _=>true
def Q8 (all:List Oper) (k:Nat) (g:Option (Nat×Bool)):Operand->Bool
 | .tmp t=>adM all k g t
 | _=>true
def KS (all:List Oper) (k:Nat) (g:Option (Nat×Bool)):List Operand->Bool
 | []=>true
 | x::l=>match Q8 all k g x with
  | true=>KS all k g l
  | false=>false
def afq (all:List Oper) (k:Nat) (o:Oper):Bool:=
 match (match o.guard with
  | none=>true
  | some (j,_)=>match Nat.blt j k with
   | true=>match Yt all j with
    | some d=>match writers all d with
         | [j']=>Nat.beq j' j
         | _=>false
    | none=>false
   | false=>false) with
 | true=>match o.op with
  | .pick c x y=>match Q8 all k o.guard c,ai4 all k o.guard c true x with
   | true,true=>ai4 all k o.guard c false y
   | _,_=>false
  | op=>KS all k o.guard op.operands.toList
 | false=>false
def uw (N:Nat) (all:List Oper):List Oper->Nat->Bool
 | [],_=>true
 | o::l,k=>match afq all k o,(match o.dst with | some d=>Nat.blt d N | none=>true) with
  | true,true=>uw N all l (k+1)
  | _,_=>false
def before (all:List Oper):Nat->Nat->Nat->Bool
 | 0,_,_=>false
 | f+1,i,j=>match acR all j with
  | some o=>o.after.toList.any λ e=>Region.binds .any e&&Nat.blt e.on j&&(Nat.beq e.on i||before all f i e.on)
  | none=>false
def looks (all:List Oper) (o:Oper):azt:=
 (o.op.operands.toList.filterMap λ | .tmp t=>some t | _=>none)++(match o.guard with | some (j,_)=>(Yt all j).toList | none=>[])
def isIn (d:Option Nat) (l:azt):Bool:=match d with
 | some x=>D5 x l
 | none=>false
def aau (all:List Oper) (x y:Oper):Bool:=!isIn x.dst (looks all y)&&!isIn y.dst (looks all x)&&!isIn x.dst y.dst.toList
def Ol (all:List Oper) (j:Nat) (oj:Oper):List Oper->Nat->Bool
 | [],_=>true
 | o::l,i=>match Nat.blt i j with
  | true=>(aau all o oj||before all 40 i j)&&Ol all j oj l (i+1)
  | false=>true
def adN (o:Oper) (k:Nat):Bool:=o.after.toList.all λ e=>!Region.binds .any e||Nat.blt e.on k
def WV (all:List Oper):List Oper->Nat->Bool
 | [],_=>true
 | o::l,j=>adN o j&&Ol all j o all 0&&WV all l (j+1)
def alL (N:Nat) (all:List Oper) (draw:Bool):Bool:=uw N all all 0&&(!draw||WV all all 0)
def jk (N:Nat):Code->Bool
 | .region _ ops draw=>alL N ops.toList draw
 | .seq a b=>jk N a&&jk N b
 | .cond _ a b=>jk N a&&jk N b
 | .block _ a=>jk N a
 | .loop a=>jk N a
 | .rangeFunc _ _ a b=>jk N a&&jk N b
 | .skip | .exit _ | .ret=>true
 | _=>false
def meets (l m:azt):Bool:=match l with
 | []=>false
 | x::l'=>match D5 x m with
  | true=>true
  | false=>meets l' m
def WW (all:List Oper) (j:Nat) (x:Log):List Log->Nat->Bool
 | [],_=>true
 | _::_,0=>true
 | y::l,i+1=>match meets x.wrs y.BR,meets y.wrs x.BR,meets y.wrs x.wrs with
  | false,false,false=>WW all j x l i
  | _,_,_=>match before all 40 i j with
   | true=>WW all j x l i
   | false=>false
def KJ (all:List Oper):List Log->Nat->Bool
 | [],_=>true
 | _::_,0=>true
 | x::l,j+1=>match WW all j x l j with
  | true=>KJ all l j
  | false=>false
def ZX:Code->Nat
 | .region id _ _=>id
 | .seq a _=>ZX a
 | .block _ a=>ZX a
 | .loop a=>ZX a
 | _=>1000000
def lF (ct:azt) (L:Code->St->(Exit->St->Prop)->Prop):Code->St->(Exit->St->Prop)->Prop
 | .skip,s,K=>K .normal s
 | .region _ ops draw,⟨T,H,nx⟩,K=>afp cfg Sp ops.toList nx ops.toList 0 T T H [] [] λ s' log=>
  match draw with
  | true=>match KJ ops.toList log ops.toList.length with
   | true=>K .normal s'
   | false=>False
  | false=>K .normal s'
 | .seq a b,s,K=>match D5 (ZX b) ct with
  | true=>L (.seq a b) s K
  | false=>lF ct L a s λ e s'=>match e with
   | .normal=>lF ct L b s' K
   | e=>K e s'
 | .cond c x y,s,K=>match ZV cfg (iK s.tmps) c with
  | .bool b=>aas b (lF ct L x s K) (lF ct L y s K)
  | _=>False
 | .block id c,s,K=>lF ct L c s λ e s'=>match e with
  | .exit i=>match Nat.beq i id with
   | true=>K .normal s'
   | false=>K (.exit i) s'
  | e=>K e s'
 | .loop c,s,K=>L (.loop c) s K
 | .rangeFunc g ps a b,s,K=>L (.rangeFunc g ps a b) s K
 | .exit id,s,K=>K (.exit id) s
 | .ret,s,K=>K .ret s
 | _,_,_=>False
end run
inductive Le:AV->AV->Prop
 | refl (v:AV):Le v v
 | sl {es es' n n':Nat} {f f':Bool} {g g':Nat->AV} (hn:n=n') (he:n≠0->es=es') (hf:f'=true->f=true) (h:∀i,i<n->Le (g i) (g' i)):Le (.sl es n f g) (.sl es' n' f' g')
 | ro {cs cs':azx} (hl:cs.length=cs'.length) (h:∀j,j<cs.length->Le (nth cs j) (nth cs' j)):Le (.ro cs) (.ro cs')
 | agg {cs cs':azx} (hl:cs.length=cs'.length) (h:∀j,j<cs.length->Le (nth cs j) (nth cs' j)):Le (.agg cs) (.agg cs')
 | jX {cs cs':azx} (hl:cs.length=cs'.length) (h:∀j,j<cs.length->Le (nth cs j) (nth cs' j)):Le (.jX cs) (.jX cs')
 | fn {f:FuncId} {cs cs':azx} (hl:cs.length=cs'.length) (h:∀j,j<cs.length->Le (nth cs j) (nth cs' j)):Le (.fn f cs) (.fn f cs')
def WX:azx->azx->Prop
 | [],[]=>True
 | u::l,v::m=>Le u v∧WX l m
 | _,_=>False
def LeO:eP->eP->Prop
 | .box cs,.box cs'=>WX cs cs'
 | .row es n g,.row es' n' g'=>es=es'∧n=n'∧∀i,i<n->Le (g i) (g' i)
 | .map kd z f,.map kd' z' f'=>kd=kd'∧z=z'∧f=f'
 | _,_=>False
def aq2:azE->azE->Prop
 | [],[]=>True
 | x::l,y::m=>LeO x y∧aq2 l m
 | _,_=>False
def vF (ρ:List (Nat×Option Nat)) (o:Nat):Option Nat:=match look ρ o with
 | some x=>x
 | none=>some o
def aav (H:lD) (o:Nat):Bool:=match hget H o with
 | some _=>true
 | none=>false
def nC (ρ:List (Nat×Option Nat)) (H':lD):Nat->AV->AV->Prop
 | 0,_,_=>False
 | f+1,u,v=>match v with
  | .undef=>True
  | .bool b'=>match u with | .bool b=>b=b' | _=>False
  | .int k' n'=>match u with | .int k n=>k=k'∧n=n' | _=>False
  | .str s'=>match u with | .str s=>s=s' | _=>False
  | .Gm=>match u with | .Gm=>True | _=>False
  | .mref o'=>match u with | .mref o=>aav H' o'=true∧vF ρ o'=some o | _=>False
  | .pm a' b' c'=>match u with | .pm a b c=>a=a'∧b=b'∧c=c' | _=>False
  | .sl es' n' f' g'=>match u with
   | .sl es n fu g=>n=n'∧(n≠0->es=es')∧(f'=true->fu=true)∧∀i,i<n->Le (g i) (g' i)
   | _=>False
  | .ro cs'=>match u with | .ro cs=>WX cs cs' | _=>False
  | .ptr o' i' off'=>match u with
   | .ptr o i off=>aav H' o'=true∧vF ρ o'=some o∧i=i'∧off=off'
   | _=>False
  | .dR o' i' n' f'=>match u with
   | .dR o i n fu=>aav H' o'=true∧vF ρ o'=some o∧i=i'∧n=n'∧(f'=true->fu=true)
   | .sl _ n fu _=>aav H' o'=true∧vF ρ o'=none∧fu=true∧n=0∧i'=0∧n'=0
   | _=>False
  | .agg cs'=>match u with | .agg cs=>U6 f cs cs' | _=>False
  | .fn f' cs'=>match u with | .fn fu cs=>fu=f'∧U6 f cs cs' | _=>False
  | .jX cs'=>match u with | .jX cs=>U6 f cs cs' | _=>False
 where
 U6:Nat->azx->azx->Prop
  | 0,_,_=>False
  | _+1,[],[]=>True
  | f+1,u::l,v::m=>nC ρ H' f u v∧U6 f l m
  | _+1,_,_=>False
def aq3 (ρ:List (Nat×Option Nat)) (H':lD) (T:List (Nat×AV)):List (Nat×AV)->Prop
 | []=>True
 | (t,v)::l=>nC ρ H' fuel (iK T t) v∧aq3 ρ H' T l
def afr (ρ:List (Nat×Option Nat)) (H':lD) (x y:eP):Prop:=
 match x,y with
 | .box cs,.box cs'=>nC.U6 ρ H' fuel cs cs'
 | .row es n g,.row es' n' g'=>es=es'∧n=n'∧∀i,i<n->Le (g i) (g' i)
 | .map kd z f,.map kd' z' f'=>kd=kd'∧z=z'∧f=f'
 | _,_=>False
def alM (ρ:List (Nat×Option Nat)) (H' H:lD):lD->Prop
 | []=>True
 | (_,none)::l=>alM ρ H' H l
 | (o',some y)::l=>(match vF ρ o' with
  | some o=>match hget H o with
   | some x=>afr ρ H' x y
   | none=>False
  | none=>match y with
   | .row _ n _=>n=0
   | _=>False)∧alM ρ H' H l
def aaw (ρ:List (Nat×Option Nat)):lD->azt
 | []=>[]
 | (_,none)::l=>aaw ρ l
 | (o',some _)::l=>match vF ρ o' with
  | some o=>o::aaw ρ l
  | none=>aaw ρ l
def TU (m nx:Nat) (ρ:List (Nat×Option Nat)):lD->Bool
 | []=>true
 | (o',_)::l=>match Nat.blt o' nx with
  | true=>match vF ρ o' with
   | some o=>match Nat.beq o o' with
    | true=>TU m nx ρ l
    | false=>match Nat.ble m o' with
     | true=>TU m nx ρ l
     | false=>false
   | none=>match Nat.ble m o' with
    | true=>TU m nx ρ l
    | false=>false
  | false=>false
def aqo:lD->Bool
 | []=>true
 | (o,_)::l=>match look l o with
  | some _=>false
  | none=>aqo l
def aht (m:Nat) (ρ:List (Nat×Option Nat)) (s':St):Bool:=
 match TU m s'.nx ρ s'.heap,qb (aaw ρ s'.heap),aqo s'.heap with
 | true,true,true=>Nat.ble m s'.nx
 | _,_,_=>false
structure Emb (m:Nat) (ρ:List (Nat×Option Nat)) (s s':St):Prop where
 KJ:aht m ρ s'=true
 tmps:aq3 ρ s'.heap s.tmps s'.tmps
 heap:alM ρ s'.heap s.heap s'.heap
def upTo:Nat->Nat->azt
 | 0,_=>[]
 | n+1,i=>i::upTo n (i+1)
def L6 (cfg:yx) (s:St):List ResultVar->Option azx
 | []=>some []
 | .tmp t::l=>match L6 cfg s l with
  | some vs=>some (iK s.tmps t::vs)
  | none=>none
 | .cell ad ty::l=>match L6 cfg s l,iK s.tmps ad,look cfg.ty ty with
  | some vs,.ptr o 0 0,some ti=>match hget s.heap o with
   | some (.box cs)=>match ti.agg with
    | true=>match Nat.ble ti.size cs.length with
     | true=>some (.agg (cs.take ti.size)::vs)
     | false=>none
    | false=>match cs with
     | c::_=>some (c::vs)
     | []=>none
   | some (.row _ n g)=>match aar ti.desc,ti.agg with
    | some _,true=>match lS n 0 g with
     | cs=>match Nat.ble ti.size cs.length with
      | true=>some (.agg (cs.take ti.size)::vs)
      | false=>none
    | _,_=>none
   | _=>none
  | _,_,_=>none
def oneOf:azx->AV
 | [v]=>v
 | vs=>.jX vs
def adO (m:Nat) (r:AV):AV->azt
 | .ptr o _ _=>match Nat.ble m o with
  | true=>[o]
  | false=>[]
 | .dR o _ _ _=>match r with
  | .dR .. => match Nat.ble m o with
   | true=>[o]
   | false=>[]
  | _=>[]
 | _=>[]
def aax (H:lD):azt->azE->Prop
 | [],[]=>True
 | o::l,y::ys=>(match hget H o with
  | some x=>match ZT x with
   | true=>afr [] [] x y
   | false=>False
  | none=>False)∧aax H l ys
 | _,_=>False
def KT (cfg:yx) (Sp:pQ) (rs:List ResultVar) (m:Nat) (r:AV) (fQ:azE) (e:Exit) (s:St):Prop:=
 match (match e with | .normal=>true | .ret=>true | _=>false) with
 | true=>match L6 cfg s rs with
  | some vs=>match oneOf vs with
   | v=>match upTo m 0++adO m r v with
    | sg=>ev Sp [] (hget s.heap) (Q7 sg v λ v' ids=>gL (qb sg) (gL (Oi ids sg) (l6 v'))) [] λ v' _ _=>nC [] (qc fQ 0) fuel v' r∧aax s.heap sg fQ
  | none=>False
 | false=>False
 where qc:azE->Nat->lD
 | [],_=>[]
 | x::l,i=>(i,some x)::qc l (i+1)
def aay:azE->Nat->lD
 | [],_=>[]
 | x::l,i=>(i,gz x)::aay l (i+1)
def L8:azx->Nat->List (Nat×AV)
 | [],_=>[]
 | v::l,i=>(i,v)::L8 l (i+1)
end Go.Ab
namespace Go.Ab
def wM:dV->Value
 | .s b=>.string b
 | .i n=>.int .i64 n
 | .p a b=>.agg #[.int .i64 a,.int .i64 b]
def WY (z:azF) (n:Int):Value:=match z with
 | [.bool]=>.bool (n != 0)
 | [.int k]=>.int k n
 | _=>Go.undef
structure WZ (kd:TD) (z:azF) (f:dV->Option Int) (es:Array MapEntry):Prop where
 keys:∀e∈es.toList,∃k n,e.key=wM k∧yA kd k=true∧f k=some n∧e.val=WY z n
 uniq:es.toList.Pairwise λ e e'=>e.key≠e'.key
 all:∀k n,f k=some n->∃e∈es.toList,e.key=wM k
inductive iP (w:World) (I:Nat->Prop):AV->Value->Prop
 | undef (x:Value):iP w I .undef x
 | bool (b:Bool):iP w I (.bool b) (.bool b)
 | int (k:IntKind) (n:Int):iP w I (.int k n) (.int k n)
 | str (s:ByteArray):iP w I (.str s) (.string s)
 | Gm:iP w I .Gm (.pointer none)
 | pm {kd:TD} {z:azF} {f:dV->Option Int} (b:Nat) (es:Array MapEntry) (clock:Nat) (hI:I b) (hw:w.heap[b]? = some (.map es clock)) (hm:WZ kd z f es):iP w I (.pm kd z f) (.map (some b))
 | sl {es n:Nat} {full:Bool} {g:Nat->AV} {a:Option Addr} {cap:Nat} (b off:Nat) (vs:Nat->Nat->Value)
   (hcap:n<=cap) (hfull:full=true->cap=n) (ha:n≠0->a=some ⟨b,off,none⟩∧I b)
   (hes:∀i,i<n->(g i).cells.length=es)
   (hm:∀i j,i<n->j<es->w.cell? ⟨b,off+(i*es+j),none⟩=some (vs i j))
   (h1:∀i j,i<n->j<es->(vs i j).oneCell'=true)
   (hr:∀i j,i<n->j<es->iP w I (nth (g i).cells j) (vs i j)):iP w I (.sl es n full g) (.slice a n cap)
 | ro {cs:azx} (b off:Nat) (vs:Nat->Value) (hI:I b)
   (hm:∀j,j<cs.length->w.cell? ⟨b,off+j,none⟩=some (vs j))
   (hr:∀j,j<cs.length->iP w I (nth cs j) (vs j)):iP w I (.ro cs) (.pointer (some ⟨b,off,none⟩))
 | agg {cs:azx} {vs:Array Value} (hl:vs.size=cs.length) (hr:∀j,j<cs.length->iP w I (nth cs j) (vs.getD j Go.undef)):iP w I (.agg cs) (.agg vs)
 | fn {f:FuncId} {cs:azx} {vs:Array Value} (hl:vs.size=cs.length) (hr:∀j,j<cs.length->iP w I (nth cs j) (vs.getD j Go.undef)):iP w I (.fn f cs) (.func (.func f) #[] vs)
 | jX {cs:azx} {vs:Array Value} (hl:vs.size=cs.length) (hr:∀j,j<cs.length->iP w I (nth cs j) (vs.getD j Go.undef)):iP w I (.jX cs) (.tuple vs)
structure Own where
 es:Nat
 n:Nat
 pl:Option (Nat×Nat×Nat)
abbrev OM:=Nat->Option Own
inductive fB (w:World) (I:Nat->Prop) (O:OM) (D:Nat->Prop):AV->Value->Prop
 | pure {v:AV} {x:Value} (h:iP w I v x):fB w I O D v x
 | ptr {o i off b bo sz:Nat} {p:Own} (ho:O o=some p) (hp:p.pl=some (b,bo,sz)) (hi:i<p.n):fB w I O D (.ptr o i off) (.pointer (some ⟨b,bo+(i*p.es+off),none⟩))
 | dR {o i n:Nat} {full:Bool} {p:Own} {a:Option Addr} {cap:Nat} (ho:O o=some p) (hi:i+n<=p.n) (hcap:n<=cap) (hfull:full=true->cap=n)
   (hpl:cap≠0->∃b bo sz,p.pl=some (b,bo,sz)∧a=some ⟨b,bo+i*p.es,none⟩∧bo+(i+cap)*p.es<=sz) (hext:p.n<=i+cap):fB w I O D (.dR o i n full) (.slice a n cap)
 | mref {o b bo sz:Nat} {p:Own} (ho:O o=some p) (hp:p.pl=some (b,bo,sz)):fB w I O D (.mref o) (.map (some b))
 | BS {o:Nat} {x:Value} (ho:O o=none) (hd:D o) (h1:x.oneCell'=true):fB w I O D (.mref o) x
 | BU {o i off:Nat} {x:Value} (ho:O o=none) (hd:D o) (h1:x.oneCell'=true):fB w I O D (.ptr o i off) x
 | yB {o i n:Nat} {full:Bool} {x:Value} (ho:O o=none) (hd:D o) (h1:x.oneCell'=true):fB w I O D (.dR o i n full) x
 | agg {cs:azx} {vs:Array Value} (hl:vs.size=cs.length) (hr:∀j,j<cs.length->fB w I O D (nth cs j) (vs.getD j Go.undef)):fB w I O D (.agg cs) (.agg vs)
 | fn {f:FuncId} {cs:azx} {vs:Array Value} (hl:vs.size=cs.length) (hr:∀j,j<cs.length->fB w I O D (nth cs j) (vs.getD j Go.undef)):fB w I O D (.fn f cs) (.func (.func f) #[] vs)
 | jX {cs:azx} {vs:Array Value} (hl:vs.size=cs.length) (hr:∀j,j<cs.length->fB w I O D (nth cs j) (vs.getD j Go.undef)):fB w I O D (.jX cs) (.tuple vs)
def L9 (w:World) (b sz:Nat):Prop:=∀j,j<sz->(w.cell? ⟨b,j,none⟩).isSome=true∧w.frozen? ⟨b,j,none⟩=false
def cellAt (w:World) (b j:Nat):Value:=(w.cell? ⟨b,j,none⟩).getD Go.undef
structure yC (w:World) (b bo sz:Nat):Prop where
 al:L9 w b sz
 one:∀j,bo<=j->j<sz->(cellAt w b j).oneCell'=true
instance {w:World} {b bo sz:Nat}:CoeOut (yC w b bo sz) (L9 w b sz):=⟨yC.al⟩
instance {w:World} {b bo sz:Nat}:CoeFun (yC w b bo sz) (λ _=>∀j,j<sz->(w.cell? ⟨b,j,none⟩).isSome=true∧w.frozen? ⟨b,j,none⟩=false):=⟨λ h=>h.al⟩
def je (w:World) (I:Nat->Prop) (O:OM) (D:Nat->Prop) (p:Own):eP->Prop
 | .box cs=>p.n=1∧∃b bo sz,p.pl=some (b,bo,sz)∧L9 w b sz∧bo+cs.length<=sz∧∀j,j<cs.length->fB w I O D (nth cs j) (cellAt w b (bo+j))
 | .row es n g=>p.n=n∧p.es=es∧(∀i,i<n->(g i).cells.length=es)∧((n=0∧p.pl=none)∨
   ∃b bo sz,p.pl=some (b,bo,sz)∧yC w b bo sz∧bo+n*es<=sz∧∀i j,i<n->j<es->iP w I (nth (g i).cells j) (cellAt w b (bo+(i*es+j)))∧(cellAt w b (bo+(i*es+j))).oneCell'=true)
 | .map kd z f=>p.n=1∧∃b bo sz es clock,p.pl=some (b,bo,sz)∧w.heap[b]? = some (.map es clock)∧WZ kd z f es
structure Ctx where
 w0:World
 M:Nat->Prop
 I0:Nat->Prop
 O0:OM
 m:Nat
 K:Nat->Obj->Prop
 rd:Bool
def Q9:Obj->Bool
 | .cells .. | .map .. => false
 | _=>true
structure iQ (w' w:World):Prop where
 os:w'.os=w.os
 tape:w'.tape=w.tape
 output:w'.output=w.output
 keep:∀(k:Nat) (o:Obj),w.heap[k]? = some o->Q9 o=true->w'.heap[k]? = some o
theorem iQ.refl (w:World):iQ w w:=⟨rfl,rfl,rfl,λ _ _ h _=>h⟩
theorem iQ.trans {a b c:World} (h:iQ a b) (k:iQ b c):iQ a c:=⟨h.os.trans k.os,h.tape.trans k.tape,h.output.trans k.output,λ i o hi ho=>h.keep i o (k.keep i o hi ho) ho⟩
variable {w':World}
theorem iQ.heap {w:World} (h1:w'.os=w.os) (h2:w'.tape=w.tape) (h3:w'.output=w.output) (h:w'.heap=w.heap):iQ w' w:=⟨h1,h2,h3,λ i o hi _=>by rw [h]; exact hi⟩
theorem iQ.alloc (w:World) (o:Obj):iQ (w.alloc o) w:=⟨rfl,rfl,rfl,λ i x hi _=>by
 have hlt:i<w.heap.size:=by
  rcases aoG i w.heap.size with h | h
  ·exact h
  rw [aoF h] at hi; cases hi
 show (w.heap.push o)[i]? = some x;rw [au0 hlt,<- hi,ali hlt]⟩
structure Jm (cx:Ctx) (w:World):Prop where
 same:iQ w cx.w0
 kept:∀k o,cx.K k o->w.heap[k]? = some o∧Q9 o=true
theorem Jm.step {cx:Ctx} {w:World} (h:Jm cx w) (he:iQ w' w):Jm cx w':=⟨he.trans h.same,λ k o hk=>⟨he.keep k o (h.kept k o hk).1 (h.kept k o hk).2,(h.kept k o hk).2⟩⟩
structure Rel (cfg:yx) (cx:Ctx) (H:Nat->Option eP) (D:Nat->Prop) (w:World) (I:Nat->Prop) (O:OM):Prop where
 dom:∀o,O o=none↔H o=none
 used:∀o p,O o=some p->D o
 objs:∀o ob p,H o=some ob->O o=some p->je w I O D p ob
 inj:∀o o' p p' b bo sz b' pO sz',O o=some p->O o'=some p'->p.pl=some (b,bo,sz)->p'.pl=some (b',pO,sz')->o≠o'->b≠b'
 qO:∀o p b bo sz,O o=some p->p.pl=some (b,bo,sz)->¬ I b
 lt:∀o p b bo sz,O o=some p->p.pl=some (b,bo,sz)->b<w.heap.size
 CV:∀b,I b->b<w.heap.size
 size:cx.w0.heap.size<=w.heap.size
 frame:∀b,b<cx.w0.heap.size->¬ cx.M b->w.heap[b]? = cx.w0.heap[b]?
 new:∀o p b bo sz,O o=some p->p.pl=some (b,bo,sz)->cx.w0.heap.size<=b∨cx.M b
 glob:∀g cs,look cfg.glob g=some cs->iP w I (.ro cs) (.pointer (some ⟨g,0,none⟩))
 UY:∀b,cx.I0 b->I b
 W9:∀b,I b->cx.I0 b∨cx.w0.heap.size<=b∨cx.M b
 ZY:∀o,o<cx.m->O o=cx.O0 o∨O o=none
 Dm:∀o,o<cx.m->D o
 env:Jm cx w
theorem wN (l:azx) (i:Nat):nth l i=l.getD i .undef:=by
 induction l generalizing i with
 | nil=>simp [nth]
 | cons v l ih=>cases i<;>simp [nth,ih]
variable {b:Nat}
theorem cell?_of_heap {w:World} {off:Nat} (h:w'.heap[b]? = w.heap[b]?):w'.cell? ⟨b,off,none⟩=w.cell? ⟨b,off,none⟩:=by
 simp [World.cell?, h]
theorem frozen?_of_heap {w:World} {off:Nat} (h:w'.heap[b]? = w.heap[b]?):w'.frozen? ⟨b,off,none⟩=w.frozen? ⟨b,off,none⟩:=by
 simp [World.frozen?, h]
theorem yC.up {w:World} {bo pO sz:Nat} (h:yC w b bo sz) (hb:bo<=pO):yC w b pO sz:=⟨h.al,λ j h1 h2=>h.one j (afQ hb h1) h2⟩
theorem yC.of_heap {w:World} {bo sz:Nat} (h:yC w b bo sz) (hh:w'.heap[b]? = w.heap[b]?):yC w' b bo sz:=
 ⟨λ j hj=>by rw [cell?_of_heap hh,frozen?_of_heap hh]; exact h.al j hj,λ j hb hj=>by rw [cellAt,cell?_of_heap hh]; exact h.one j hb hj⟩
variable {I':Nat->Prop} {v:AV} {x:Value}
theorem iP.mono {w:World} {I:Nat->Prop} (hI:∀b,I b->I' b) (hw:∀b,I b->w'.heap[b]? = w.heap[b]?) (h:iP w I v x):iP w' I' v x:=by
 induction h with
 | undef x=>exact .undef x
 | bool b=>exact .bool b
 | int k n=>exact .int k n
 | str s=>exact .str s
 | Gm=>exact .Gm
 | pm b es clock h1 h2 h3=>exact .pm b es clock (hI _ h1) (by rw [hw _ h1]; exact h2) h3
 | @sl es n full g a cap b off vs hcap hfull ha hes hm h1 hr ih=>
  refine .sl b off vs hcap hfull (λ h=>⟨(ha h).1,hI _ (ha h).2⟩) hes (λ i j hi hj=>?_) h1 ih;rw [cell?_of_heap (hw _ (ha om).2)];exact hm i j hi hj
 | ro b off vs h1 hm hr ih=>
  refine .ro b off vs (hI _ h1) (λ j hj=>?_) ih;rw [cell?_of_heap (hw _ h1)];exact hm j hj
 | agg hl hr ih=>exact .agg hl ih
 | fn hl hr ih=>exact .fn hl ih
 | jX hl hr ih=>exact .jX hl ih
theorem fB.mono {w:World} {I:Nat->Prop} {O O':OM} {D D':Nat->Prop} (hI:∀b,I b->I' b) (hw:∀b,I b->w'.heap[b]? = w.heap[b]?)
  (hO:∀o,D o->O' o=O o∨O' o=none) (hD:∀o,D o->D' o) (hu:∀o p,O o=some p->D o) {v:AV} {x:Value} (h:fB w I O D v x):fB w' I' O' D' v x:=by
 induction h with
 | pure h=>exact .pure (h.mono hI hw)
 | @ptr o i off b bo sz p ho hp hi=>
  rcases hO o (hu o p ho) with h | h
  ·exact .ptr (h.trans ho) hp hi
  exact .BU h (hD _ (hu o p ho)) rfl
 | @dR o i n full p a cap ho hi hcap hfull hpl hext=>
  rcases hO o (hu o p ho) with h | h
  ·exact .dR (h.trans ho) hi hcap hfull hpl hext
  exact .yB h (hD _ (hu o p ho)) rfl
 | @mref o b bo sz p ho hp=>
  rcases hO o (hu o p ho) with h | h
  ·exact .mref (h.trans ho) hp
  exact .BS h (hD _ (hu o p ho)) rfl
 | @BS o x ho hd h1=>
  rcases hO o hd with h | h
  ·exact .BS (h.trans ho) (hD _ hd) h1
  exact .BS h (hD _ hd) h1
 | @BU o i off x ho hd h1=>
  rcases hO o hd with h | h
  ·exact .BU (h.trans ho) (hD _ hd) h1
  exact .BU h (hD _ hd) h1
 | @yB o i n full x ho hd h1=>
  rcases hO o hd with h | h
  ·exact .yB (h.trans ho) (hD _ hd) h1
  exact .yB h (hD _ hd) h1
 | agg hl hr ih=>exact .agg hl ih
 | fn hl hr ih=>exact .fn hl ih
 | jX hl hr ih=>exact .jX hl ih
def Om:ZK->Value->Prop
 | .bool,x=>x=.bool false
 | .int k,x=>x=.int k 0
 | .str,x=>x=.string ByteArray.empty
 | .slice,x=>x=.slice none 0 0
 | .ptr,x=>x=.pointer none
 | .other,x=>x.oneCell'=true
def alO:TD->TypeDesc->Prop
 | .bool,d=>d=.bool
 | .int k,d=>d=.int k
 | .str,d=>d=.string
 | .slice e,d=>d=.slice e
 | .pointer e,d=>d=.pointer e
 | .map k e,d=>d=.map k e
 | .array n e,d=>d=.array n e
 | .struct fs,d=>∃fields:Array Field,d=.struct fields∧fields.toList.map (λ f=>(f.offset,f.type))=fs
 | .other,_=>True
structure ati (P:Program) (t:TypeId) (ti:TS):Prop where
 ex:∃i d z,P.info? t=some i∧P.underlying t=some d∧i.zero=some z∧i.size=ti.size∧i.bytes=ti.bytes∧d.isRow=ti.agg∧z.cells.size=ti.size∧
  ti.zero.length=ti.size∧(∀j,j<ti.size->Om (ti.zero.getD j .other) (z.cells.getD j Go.undef))∧alO ti.desc d
 one:ti.agg=false->∀i z,P.info? t=some i->i.zero=some z->z.cells=#[z]
def Yu (P:Program):TypeDesc->Prop
 | .struct fields=>∀f∈fields.toList,(P.info? f.type).isSome=true
 | _=>True
def adP:ZK->TypeDesc->Prop
 | .bool,d=>d=.bool
 | .int k,d=>d=.int k
 | .str,d=>d=.string
 | _,_=>False
def aoS (P:Program) (ok:TypeId->azF->Prop):List Field->azF->Nat->Prop
 | [],[],_=>True
 | f::fs,zs,k=>f.name ≠ "_" ∧ f.offset=k∧∃z1 z2,zs=z1++z2∧((∃z d,z1=[z]∧P.underlying f.type=some d∧adP z d)∨(ok f.type z1∧P.cellsOf f.type=z1.length))∧aoS P ok fs z2 (k+z1.length)
 | _,_,_=>False
def EqT (P:Program):Nat->TypeId->azF->Prop
 | 0,_,_=>False
 | n+1,t,zs=>∃fields,P.underlying t=some (.struct fields)∧P.stoodInHeld t=false∧aoS P (EqT P n) fields.toList zs 0
structure atj (P:Program) (t:TypeId) (zs:azF):Prop where
 ex:EqT P 4 t zs
 guard:P.eqGuardType P.depth t=false
structure iL (P:Program) (cfg:yx):Prop where
 ty:∀t ti,look cfg.ty t=some ti->ati P t ti
 fields:∀t ti d,look cfg.ty t=some ti->P.underlying t=some d->Yu P d
 mixed:P.follows .mixedOrders=true
 eqs:∀t zs,look cfg.eqs t=some zs->atj P t zs
def nH (H:Nat->Option eP) (ups:lD):Nat->Option eP:=λ o=>match look ups o with | some x=>x | none=>H o
inductive gq (Sp:pQ) (H:Nat->Option eP):Pg->AV->lD->azt->Prop
 | ret (v:AV) (ups:lD):gq Sp H (.ret v ups) v ups []
 | need {p:Prop} [d:Decidable p] {k:Pg} {v:AV} {ups:lD} {r:azt} (hp:p) (h:gq Sp H k v ups r):gq Sp H (.need p k) v ups r
 | rd {o:Nat} {x:eP} {k:eP->Pg} {v:AV} {ups:lD} {r:azt} (ho:H o=some x) (h:gq Sp H (k x) v ups r):gq Sp H (.rd o k) v ups (o::r)
 | call {f:FuncId} {args:azx} {obs:azE} {k:AV->azE->Pg} {x:AV} {fQ:azE} {v:AV} {ups:lD} {r:azt} (hs:Sp f args obs x fQ)
   (h:gq Sp H (k x fQ) v ups r):gq Sp H (.call f args obs k) v ups r
def hof:azE->Nat->Option eP
 | [],_=>none
 | x::_,0=>some x
 | _::l,n+1=>hof l n
def Iw:azE->Nat->Option eP
 | [],_=>none
 | x::_,0=>gz x
 | _::l,n+1=>Iw l n
theorem aj1:∀ {l:azE} {j:Nat} {x:eP},Iw l j=some x->hof l j=some x∧aao x=false:=by
 intro l;induction l with
 | nil=>intro j x h; cases h
 | cons y l ih=>
  intro j x h;cases j with
  | zero=>
   simp only [Iw,gz] at h;split at h
   ·cases h
   rename_i hg; cases h; exact ⟨rfl,hg⟩
  | succ j=>exact ih h
theorem aoT:∀ {l:azE},(∀j x,hof l j=some x->aao x=false)->Iw l=hof l:=by
 intro l;induction l with
 | nil=>intro _; rfl
 | cons y l ih=>
  intro h;funext j;cases j with
  | zero=>have:=h 0 y rfl; simp only [Iw,hof,gz,this]
  | succ j=>exact congrFun (ih λ j x hx=>h (j+1) x hx) j
def NI (w:World) (I:Nat->Prop) (O:OM) (m:Nat):Ctx:=⟨w,λ b=>∃o p bo sz,O o=some p∧p.pl=some (b,bo,sz),I,O,m,λ _ _=>False,false⟩
def Spec (P:Program) (cfg:yx):pQ:=λ f args obs r fQ=>
 (∃fn,P.funcs[f]? = some fn∧fn.body.isNone=false∧(fn.name == "runtime.NumGoroutine")=false)∧obs.length<=fQ.length∧
 ∀(w:World) (I:Nat->Prop) (O:OM) (vals:Array Value),Rel cfg (NI w I O obs.length) (hof obs) (λ o=>o<obs.length) w I O->
  vals.size=args.length->(∀j,j<args.length->fB w I O (λ o=>o<obs.length) (nth args j) (vals.getD j Go.undef))->
  Calls P f vals w λ e w'=>∃x I' O',e=.returned x∧Rel cfg (NI w I O obs.length) (Iw fQ) (λ o=>o<fQ.length) w' I' O'∧
   fB w' I' O' (λ o=>o<fQ.length) r x
section
variable {P:Program} {cfg:yx} {cx:Ctx} {H:Nat->Option eP} {D:Nat->Prop} {w:World} {I:Nat->Prop} {O:OM}
def Gn (D:Nat->Prop) (n:Nat):Nat->Prop:=λ o=>D o∨(n<=o∧o<n+stride)
def aaz (D:Nat->Prop) (n:Nat):Prop:=∀o,n<=o->o<n+stride->¬ D o
variable {n:Nat}
theorem aaz.one {D:Nat->Prop} (h:aaz D n):¬ D n:=h n (afg _) (by unfold stride; omega)
variable {o:Nat}
theorem Xa {D:Nat->Prop} (h:o=n):Gn D n o:=.inr ⟨by omega,by unfold stride; omega⟩
def fT (P:Program) (cfg:yx) (cx:Ctx) (H:Nat->Option eP) (D:Nat->Prop) (w:World) (I:Nat->Prop) (O:OM) (eY:Nat) (o:Oper) (a:Act) (v:AV) (ups:lD):Prop:=
 ∀(next:Act->World->Prop) (Q:Exit->Act->World->Prop),
  (∀x w' I' O',Rel cfg cx (nH H ups) (Gn D eY) w' I' O'->(∀u y,fB w I O D u y->fB w' I' O' (Gn D eY) u y)->fB w' I' O' (Gn D eY) v x->next (a.put o.dst x) w')->
  o.wp P a w next Q
theorem EW (H:Nat->Option eP):nH H []=H:=rfl
theorem je.mono {O':OM} {D':Nat->Prop} {p:Own} {ob:eP} (hI:∀b,I b->I' b) (hw:∀b,I b->w'.heap[b]? = w.heap[b]?)
  (hO:∀o,D o->O' o=O o∨O' o=none) (hD:∀o,D o->D' o) (hu:∀o p,O o=some p->D o) (hb:∀b bo sz,p.pl=some (b,bo,sz)->w'.heap[b]? = w.heap[b]?)
  (h:je w I O D p ob):je w' I' O' D' p ob:=by
 cases ob with
 | box cs=>
  obtain ⟨h1,b,bo,sz,hp,ha,hl,hc⟩:=h;have hh:=hb b bo sz hp;refine ⟨h1,b,bo,sz,hp,λ j hj=>?_,hl,λ j hj=>?_⟩
  ·rw [cell?_of_heap hh,frozen?_of_heap hh]; exact ha j hj
  rw [cellAt,cell?_of_heap hh]; exact (hc j hj).mono hI hw hO hD hu
 | row es n g=>
  obtain ⟨h1,h2,h3,h4⟩:=h;refine ⟨h1,h2,h3,?_⟩;rcases h4 with h4 | ⟨b,bo,sz,hp,ha,hl,hc⟩
  ·exact .inl h4
  have hh:=hb b bo sz hp;refine .inr ⟨b,bo,sz,hp,ha.of_heap hh,hl,λ i j hi hj=>?_⟩
  ·rw [cellAt,cell?_of_heap hh]; exact ⟨(hc i j hi hj).1.mono hI hw,(hc i j hi hj).2⟩
 | map kd z f=>
  obtain ⟨h1,b,bo,sz,es,clock,hp,hw2,hm⟩:=h;exact ⟨h1,b,bo,sz,es,clock,hp,by rw [hb b bo sz hp]; exact hw2,hm⟩
theorem Rel.Jo (hR:Rel cfg cx H D w I O) (n:Nat):Rel cfg cx H (Gn D n) w I O:=
 { hR with
  used:=λ o p h=>.inl (hR.used o p h)
  objs:=λ o ob p h h'=>(hR.objs o ob p h h').mono (λ _ h=>h) (λ _ _=>rfl) (λ _ _=>.inl rfl) (λ _ h=>.inl h) hR.used (λ _ _ _ _=>rfl)
  Dm:=λ o h=>.inl (hR.Dm o h) }
theorem fB.Jo (hR:Rel cfg cx H D w I O) (n:Nat) (h:fB w I O D v x):fB w I O (Gn D n) v x:=
 h.mono (λ _ h=>h) (λ _ _=>rfl) (λ _ _=>.inl rfl) (λ _ h=>.inl h) hR.used
theorem CY {o:Oper} {a:Act} {next:Act->World->Prop} {Q:Exit->Act->World->Prop} (h:(execOp a.eval o).run P w=.ok (.value x) w') (hn:next (a.put o.dst x) w'):o.wp P a w next Q:=by
 unfold Oper.wp; rw [h]; exact hn
theorem fT.fE {eY:Nat} {o:Oper} {a:Act} (hR:Rel cfg cx H D w I O) (h:(execOp a.eval o).run P w=.ok (.value x) w) (hv:fB w I O D v x):fT P cfg cx H D w I O eY o a v []:=by
 intro next Q hn
 exact CY h (hn x w I O (by rw [EW]; exact hR.Jo eY) (λ u y hu=>hu.Jo hR eY) (hv.Jo hR eY))
theorem fB.mE {b:Bool} (h:fB w I O D (.bool b) x):x=.bool b:=by
 cases h with | pure h=>cases h; rfl
theorem fB.jg {k:IntKind} {n:Int} (h:fB w I O D (.int k n) x):x=.int k n:=by
 cases h with | pure h=>cases h; rfl
theorem fB.D6 {s:ByteArray} (h:fB w I O D (.str s) x):x=.string s:=by
 cases h with | pure h=>cases h; rfl
theorem fB.Iy {es:Nat} {f:Bool} {g:Nat->AV} (h:fB w I O D (.sl es n f g) x):iP w I (.sl es n f g) x:=by
 cases h with | pure h=>exact h
variable {cs:azx}
theorem fB.aaA (h:fB w I O D (.ro cs) x):iP w I (.ro cs) x:=by
 cases h with | pure h=>exact h
theorem fB.vY (h:fB w I O D (.agg cs) x):∃vs:Array Value,x=.agg vs∧vs.size=cs.length∧∀j,j<cs.length->fB w I O D (nth cs j) (vs.getD j Go.undef):=by
 cases h with
 | pure h=>cases h with | agg hl hr=>exact ⟨_,rfl,hl,λ j hj=>.pure (hr j hj)⟩
 | agg hl hr=>exact ⟨_,rfl,hl,hr⟩
theorem fB.KU (h:fB w I O D (.jX cs) x):∃vs:Array Value,x=.tuple vs∧vs.size=cs.length∧∀j,j<cs.length->fB w I O D (nth cs j) (vs.getD j Go.undef):=by
 cases h with
 | pure h=>cases h with | jX hl hr=>exact ⟨_,rfl,hl,λ j hj=>.pure (hr j hj)⟩
 | jX hl hr=>exact ⟨_,rfl,hl,hr⟩
theorem fB.Oo {f:FuncId} (h:fB w I O D (.fn f cs) x):∃vs:Array Value,x=.func (.func f) #[] vs∧vs.size=cs.length∧∀j,j<cs.length->fB w I O D (nth cs j) (vs.getD j Go.undef):=by
 cases h with
 | pure h=>cases h with | fn hl hr=>exact ⟨_,rfl,hl,λ j hj=>.pure (hr j hj)⟩
 | fn hl hr=>exact ⟨_,rfl,hl,hr⟩
variable {p:Own}
theorem fB.qg {i off:Nat} (ho:O o=some p) (h:fB w I O D (.ptr o i off) x):∃b bo sz,p.pl=some (b,bo,sz)∧i<p.n∧x=.pointer (some ⟨b,bo+(i*p.es+off),none⟩):=by
 cases h with
 | pure h=>cases h
 | @ptr _ _ _ b bo sz p' ho' hp hi=>
  have:p'=p:=alm (ho'.symm.trans ho);subst this;exact ⟨b,bo,sz,hp,hi,rfl⟩
 | BU ho'=>rw [ho] at ho'; cases ho'
theorem fB.qh {i:Nat} {full:Bool} (ho:O o=some p) (h:fB w I O D (.dR o i n full) x):∃a cap,x=.slice a n cap∧i+n<=p.n∧n<=cap∧(full=true->cap=n)∧
  (cap≠0->∃b bo sz,p.pl=some (b,bo,sz)∧a=some ⟨b,bo+i*p.es,none⟩∧bo+(i+cap)*p.es<=sz):=by
 cases h with
 | pure h=>cases h
 | @dR _ _ _ _ p' a cap ho' hi hcap hfull hpl hext=>
  have:p'=p:=alm (ho'.symm.trans ho);subst this;exact ⟨a,cap,rfl,hi,hcap,hfull,hpl⟩
 | yB ho'=>rw [ho] at ho'; cases ho'
theorem fB.GI {i n' cap:Nat} {full:Bool} {aa:Option Addr} (ho:O o=some p) (h:fB w I O D (.dR o i n full) (.slice aa n' cap)):p.n<=i+cap:=by
 cases h with
 | pure h=>cases h
 | @dR _ _ _ _ p' a cap ho' hi hcap hfull hpl hext=>
  have:p'=p:=alm (ho'.symm.trans ho);subst this;exact hext
 | yB ho'=>rw [ho] at ho'; cases ho'
theorem fB.yD (ho:O o=some p) (h:fB w I O D (.mref o) x):∃b bo sz,p.pl=some (b,bo,sz)∧x=.map (some b):=by
 cases h with
 | pure h=>cases h
 | @mref _ b bo sz p' ho' hp=>
  have:p'=p:=alm (ho'.symm.trans ho);subst this;exact ⟨b,bo,sz,hp,rfl⟩
 | BS ho'=>rw [ho] at ho'; cases ho'
theorem fB.aq4 {kd:TD} {z:azF} {f:dV->Option Int} (h:fB w I O D (.pm kd z f) x):∃b es clock,I b∧w.heap[b]? = some (.map es clock)∧WZ kd z f es∧x=.map (some b):=by
 cases h with
 | pure h=>cases h with
  | pm b es clock h1 h2 h3=>exact ⟨b,es,clock,h1,h2,h3,rfl⟩
theorem aaB (h:fB w I O D v x) (hk:aal v=true):x.oneCell'=true:=by
 cases h with
 | pure h=>cases h<;>first | rfl | cases hk
 | ptr=>rfl
 | dR=>rfl
 | mref=>rfl
 | BS _ _ h1=>exact h1
 | BU _ _ h1=>exact h1
 | yB _ _ h1=>exact h1
 | agg=>cases hk
 | fn=>rfl
 | jX=>cases hk
theorem Yv {l:azx} (h:KO l=true):∀j,j<l.length->aal (nth l j)=true:=by
 induction l with
 | nil=>intro j hj; cases hj
 | cons v l ih=>
  intro j hj;unfold KO at h;cases hv:aal v with
  | false=>simp [hv] at h
  | true=>
   simp only [hv] at h;cases j with
   | zero=>exact hv
   | succ j=>exact ih h j (by simpa using hj)
theorem fB.cells (h:fB w I O D v x) (hk:KO v.cells=true):x.cells.size=v.cells.length∧∀j,j<v.cells.length->fB w I O D (nth v.cells j) (x.cells.getD j Go.undef)∧(x.cells.getD j Go.undef).oneCell'=true:=by
 have one:∀ {v:AV} {x:Value},fB w I O D v x->v.cells=[v]->aal v=true->x.cells.size=v.cells.length∧∀j,j<v.cells.length->fB w I O D (nth v.cells j) (x.cells.getD j Go.undef)∧(x.cells.getD j Go.undef).oneCell'=true:=by
  intro v x h hc ho;have h1:=aaB h ho;have hx:x.cells=#[x]:=by cases x<;>first | rfl | cases h1
  rw [hc,hx];refine ⟨rfl,λ j hj=>?_⟩;have:j=0:=by simpa using hj
  subst this;exact ⟨h,h1⟩
 cases v with
 | agg cs=>
  obtain ⟨vs,rfl,hl,hr⟩:=h.vY;exact ⟨hl,λ j hj=>⟨hr j hj,aaB (hr j hj) (Yv hk j hj)⟩⟩
 | undef=>cases hk
 | jX vs=>cases hk
 | _=>exact one h rfl rfl
end
end Go.Ab
namespace Go.Ab
section
variable {P:Program} {cfg:yx} {cx:Ctx} {H:Nat->Option eP} {D:Nat->Prop} {w:World} {I:Nat->Prop} {O:OM} {Sp:pQ}
variable {v':AV} {xV:lD}
theorem gq.mJ {v:AV} {ups:lD} {r:azt} (h:gq Sp H (.ret v ups) v' xV r):v'=v∧xV=ups:=by cases h; exact ⟨rfl,rfl⟩
theorem gq.yE {p:Prop} [Decidable p] {k:Pg} {v':AV} {xV:lD} {r:azt} (h:gq Sp H (.need p k) v' xV r):p∧gq Sp H k v' xV r:=by cases h with | need hp h=>exact ⟨hp,h⟩
theorem gq.rQ {o:Nat} {k:eP->Pg} {r:azt} (h:gq Sp H (.rd o k) v' xV r):∃x r',H o=some x∧gq Sp H (k x) v' xV r':=by cases h with | rd ho h=>exact ⟨_,_,ho,h⟩
theorem gq.bM {r:azt} (h:gq Sp H .fail v' xV r):False:=by cases h
theorem gq.jl {p:Prop} [Decidable p] {v v':AV} {xV:lD} {r:azt} (h:gq Sp H (oI p v) v' xV r):p∧v'=v∧xV=[]:=by
 obtain ⟨hp,h⟩:=gq.yE h; exact ⟨hp,h.mJ⟩
theorem gq.fO {v:AV} {r:azt} (h:gq Sp H (l6 v) v' xV r):v'=v∧xV=[]:=h.mJ
theorem gq.dF {b:Bool} {k:Pg} {r:azt} (h:gq Sp H (gL b k) v' xV r):b=true∧gq Sp H k v' xV r:=by
 cases b with
 | true=>exact ⟨rfl,h⟩
 | false=>exact (gq.bM h).elim
theorem gq.EG {v:AV} {k:azx->Pg} {r:azt} (h:gq Sp H (Og v k) v' xV r):KO v.cells=true∧gq Sp H (k v.cells) v' xV r:=by
 unfold Og at h;cases hb:KO v.cells with
 | true=>simp only [hb] at h; exact ⟨rfl,h⟩
 | false=>simp only [hb] at h; exact (gq.bM h).elim
variable {t:TypeId}
theorem gq.l8 {k:TS->Pg} {r:azt} (h:gq Sp H (WS cfg t k) v' xV r):∃ti,look cfg.ty t=some ti∧gq Sp H (k ti) v' xV r:=by
 unfold WS at h;cases hb:look cfg.ty t with
 | some ti=>simp only [hb] at h; exact ⟨ti,rfl,h⟩
 | none=>simp only [hb] at h; exact (gq.bM h).elim
theorem gq.yF {k:TS->Pg} {r:azt} (h:gq Sp H (LZ cfg t k) v' xV r):∃tt e ti,look cfg.ty t=some tt∧tt.desc=.slice e∧look cfg.ty e=some ti∧gq Sp H (k ti) v' xV r:=by
 unfold LZ at h;cases hb:look cfg.ty t with
 | some tt=>
  simp only [hb] at h;cases hd:tt.desc with
  | slice e=>
   simp only [hd] at h;obtain ⟨ti,h1,h2⟩:=h.l8;exact ⟨tt,e,ti,rfl,hd,h1,h2⟩
  | _=>simp only [hd] at h; exact (gq.bM h).elim
 | none=>simp only [hb] at h; exact (gq.bM h).elim
theorem iL.slice (hc:iL P cfg) {e:TypeId} {tt ti:TS} (h:look cfg.ty t=some tt) (hd:tt.desc=.slice e) (h':look cfg.ty e=some ti):
  P.underlying t=some (.slice e)∧∃i z,P.info? e=some i∧i.zero=some z∧i.size=ti.size∧i.bytes=ti.bytes∧z.cells.size=ti.size:=by
 obtain ⟨i,d,z,_,hu,_,_,_,_,_,_,_,hm⟩:=(hc.ty t tt h).ex;rw [hd] at hm;obtain ⟨i',d',z',h1,_,h2,h3,h4,_,h5,_⟩:=(hc.ty e ti h').ex;exact ⟨by rw [hu,hm],i',z',h1,h2,h3,h4,h5⟩
theorem gJ {i:TypeInfo} (h:P.info? t=some i) (w:World):(sizeOf t).run P w=.ok i.size w:=by
 simp [sizeOf,typeInfo,h]
theorem dK {d:TypeDesc} (h:P.underlying t=some d) (w:World):(underlying t).run P w=.ok d w:=by
 simp [underlying,h]
variable {eY:Nat} {o:Oper} {a:Act} {ρ:Operand->AV} {v:AV} {ups:lD} {r:azt}
variable {x:Operand}
theorem aoU (hR:Rel cfg cx H D w I O) (ho:o.op=.move x) (hx:fB w I O D (ρ x) (a.eval x)):fT P cfg cx H D w I O eY o a (ρ x) []:=
 fT.fE hR (by simp [execOp,ho]) hx
theorem aj2 (hR:Rel cfg cx H D w I O) (ho:o.op=.assign x) (hx:fB w I O D (ρ x) (a.eval x)):fT P cfg cx H D w I O eY o a (ρ x) []:=
 fT.fE hR (by simp [execOp,ho]) hx
theorem aj3 (c:Value) (ho:ofConst c≠.undef):∀ {x:Value},x=c->fB w I O D (ofConst c) x:=by
 intro x hx;subst hx;refine .pure ?_;unfold ofConst;split
 ·exact .bool _
 ·exact .int _ _
 ·exact .str _
 ·exact .sl 0 0 (λ _ _=>Go.undef) (afg _) (λ _=>rfl) (λ h=>absurd rfl h) (λ i h=>by cases h) (λ i j h=>by cases h) (λ i j h=>by cases h) (λ i j h=>by cases h)
 ·exact .Gm
 rename_i h1 h2 h3 h4 h5;exact .undef _
theorem ahu (c:Value):fB w I O D (ofConst c) c:=by
 by_cases h:ofConst c=.undef
 ·rw [h]; exact .pure (.undef _)
 exact aj3 c h rfl
theorem aoV (hR:Rel cfg cx H D w I O) {c y:Operand} (ho:o.op=.pick c x y) (hc:fB w I O D (ρ c) (a.eval c))
  (hx:∀b,ρ c=.bool b->b=true->fB w I O D (ρ x) (a.eval x)) (hy:∀b,ρ c=.bool b->b=false->fB w I O D (ρ y) (a.eval y))
  (hcx:∀v,x=.const v->ρ x=ofConst v∧a.eval x=v) (hcy:∀v,y=.const v->ρ y=ofConst v∧a.eval y=v)
  (h:gq Sp H (ahn (ρ c) x y (ρ x) (ρ y)) v ups r):fT P cfg cx H D w I O eY o a v ups:=by
 cases hcv:ρ c with
 | bool b=>
  rw [hcv] at hc h;have hb:=hc.mE;have hx':=hx b hcv;have hy':=hy b hcv;have run:(execOp a.eval o).run P w=.ok (.value (if b then a.eval x else a.eval y)) w:=by
   simp [execOp,ho,hb,asBool]
  unfold ahn at h;simp only at h;split at h
  ·rename_i hz;obtain ⟨rfl,rfl⟩:=h.fO;obtain ⟨_,e2⟩:=hcy _ rfl;refine fT.fE hR run ?_;cases b with
   | true=>have:=(hx' rfl); rw [hz] at this; rw [this.mE]; exact .pure (.bool _)
   | false=>rw [e2]; exact .pure (.bool _)
  ·rename_i hz _;obtain ⟨rfl,rfl⟩:=h.fO;obtain ⟨_,e2⟩:=hcx _ rfl;refine fT.fE hR run ?_;cases b with
   | true=>simp only [if_true]; rw [e2]; exact .pure (.bool _)
   | false=>have:=(hy' rfl); rw [hz] at this; simp only [as9,if_false]; rw [this.mE]; exact .pure (.bool _)
  ·rename_i h1 h2;obtain ⟨rfl,rfl⟩:=h.fO;refine fT.fE hR run ?_;cases b with
   | true=>have:=(hx' rfl); rw [h1] at this; rw [this.mE]; exact .pure (.bool _)
   | false=>have:=(hy' rfl); rw [h2] at this; simp only [as9,if_false]; rw [this.mE]; exact .pure (.bool _)
  ·obtain ⟨rfl,rfl,rfl⟩:=h.jl;refine fT.fE hR run ?_;simpa using hy' rfl
  ·obtain ⟨rfl,rfl,rfl⟩:=h.jl;refine fT.fE hR run ?_;simpa using hx' rfl
  exact (gq.bM h).elim
 | _=>rw [hcv] at h; exact (gq.bM h).elim
theorem wrap_i64 {n:Int} (h:ay n):IntKind.i64.wrap n=n:=IntWalk.i64_in _ ⟨h.1,h.2⟩
theorem run_equal_bool (hu:P.underlying t=some .bool) (a b:Bool) (w:World):(Op.equal t (.bool a) (.bool b)).run P w=.ok (a==b) w:=by
 have:∀d,(Op.equalIn (d+1) t (.bool a) (.bool b)).run P w=.ok (a==b) w:=λ d=>by
  simp [Op.equalIn,dK hu]
 exact this 9999
theorem U7 {d:TypeDesc} (hu:P.underlying t=some d) (hd:d.isRow=false) (vs:Array Value) (i:Nat) (hi:i<vs.size) (w:World):(part t vs i).run P w=.ok (vs.getD i Go.undef) w:=by
 have hag:(isAgg t).run P w=.ok false w:=by
  unfold isAgg;rw [Sem.run_bind,dK hu w];cases d<;>simp at hd ⊢
 simp [part,Sem.run_bind,hag,ali hi]
theorem acS:∀(a b:azx) {j:Nat},j<a.length->nth (a++b) j=nth a j:=by
 intro a;induction a with
 | nil=>intro b j h; exact absurd h (ahh _)
 | cons x a ih=>intro b j h; cases j with
  | zero=>rfl
  | succ j=>exact ih b (by simpa using h)
theorem acT:∀(a b:azx) (j:Nat),nth (a++b) (a.length+j)=nth b j:=by
 intro a;induction a with
 | nil=>intro b j; simp
 | cons x a ih=>intro b j; rw [ajO,show a.length+1+j=(a.length+j)+1 by omega]; exact ih b j
theorem U8 (xs:Array Value) (k m j:Nat) (hj:j<m) (h:k+m<=xs.size):(xs.extract k (k+m)).getD j Go.undef=xs.getD (k+j) Go.undef:=by
 rw [an7, an7, Array.getElem?_extract_of_lt (by rw [auW h]; omega),ali om]
theorem aoW:∀(zs:azF) (cs cs':azx) (r:Bool),WR zs cs cs'=some r->cs.length=zs.length∧cs'.length=zs.length:=by
 intro zs;induction zs with
 | nil=>intro cs cs' r h; cases cs<;>cases cs'<;>simp [WR] at h ⊢
 | cons z zs ih=>
  intro cs cs' r h;cases cs with
  | nil=>cases z<;>simp [WR] at h
  | cons c cs=>cases cs' with
   | nil=>cases z<;>cases c<;>simp [WR] at h
   | cons c' cs'=>
    have:∃r',WR zs cs cs'=some r':=by
     cases z<;>cases c<;>cases c'<;>simp only [WR] at h<;>first | (cases h; done) | skip
     all_goals
      split at h
      ·first | exact ⟨_,by assumption⟩
      cases h
    obtain ⟨r',h'⟩:=this
    have:=ih _ _ _ h'
    simp [this]
theorem aoX:∀(z1 z2:azF) (cs cs':azx) (r:Bool),WR (z1++z2) cs cs'=some r->∃c1 c2 c1' c2' r1 r2,cs=c1++c2∧cs'=c1'++c2'∧WR z1 c1 c1'=some r1∧WR z2 c2 c2'=some r2∧r=(r1&&r2):=by
 intro z1;induction z1 with
 | nil=>intro z2 cs cs' r h; exact ⟨[],cs,[],cs',true,r,rfl,rfl,rfl,h,by simp⟩
 | cons z z1 ih=>
  intro z2 cs cs' r h;cases cs with
  | nil=>cases z<;>simp [WR] at h
  | cons c cs=>cases cs' with
   | nil=>cases z<;>cases c<;>simp [WR] at h
   | cons c' cs'=>
    cases z<;>cases c<;>cases c'<;>simp only [apW,WR] at h<;>first | (cases h; done) | skip
    ·split at h
     ·rename_i r' h'
      cases h
      obtain ⟨c1,c2,c1',c2',r1,r2,e1,e2,e3,e4,e5⟩:=ih _ _ _ _ h'
      subst e1 e2 e5
      exact ⟨_::c1,c2,_::c1',c2',_,r2,rfl,rfl,by simp only [WR,e3]; rfl,e4,by rw [ayX]⟩
     cases h
    ·split at h
     ·rename_i r' k1 k2 h'
      cases h
      obtain ⟨c1,c2,c1',c2',r1,r2,e1,e2,e3,e4,e5⟩:=ih _ _ _ _ h'
      subst e1 e2 e5
      exact ⟨_::c1,c2,_::c1',c2',_,r2,rfl,rfl,by simp only [WR,e3,k1,k2]; rfl,e4,by rw [ayX]⟩
     cases h
    split at h
    ·rename_i r' h'
     cases h
     obtain ⟨c1,c2,c1',c2',r1,r2,e1,e2,e3,e4,e5⟩:=ih _ _ _ _ h'
     subst e1 e2 e5
     exact ⟨_::c1,c2,_::c1',c2',_,r2,rfl,rfl,by simp only [WR,e3]; rfl,e4,by rw [ayX]⟩
    cases h
theorem ahv {dd:TypeDesc} {z:ZK} {c c':AV} {b:Bool} {u v:Value} (w:World) (d:Nat) (hu:P.underlying t=some dd) (hk:adP z dd) (h:WR [z] [c] [c']=some b) (hx:fB w I O D c u) (hy:fB w I O D c' v):(Op.equalIn (d+1) t u v).run P w=.ok b w:=by
 cases z with
 | int kk=>
  cases c<;>cases c'<;>simp only [WR] at h<;>first | (cases h; done) | skip
  rename_i k1 a k2 b;split at h
  ·rename_i r' e1 e2 e3;cases e3;cases h;have e1:kk=k1:=by simpa [ET] using e1
   have e2:kk=k2:=by simpa [ET] using e2
   subst e1; subst e2;rw [hx.jg,hy.jg,ayB];rw [hk] at hu;exact run_equalIn_int w d _ _ _ _ _ hu
  cases h
 | bool=>
  cases c<;>cases c'<;>simp only [WR] at h<;>first | (cases h; done) | skip
  cases h;rw [hx.mE,hy.mE,ayB];rw [hk] at hu;exact run_equalIn_bool' w d _ _ _ hu
 | str=>
  cases c<;>cases c'<;>simp only [WR] at h<;>first | (cases h; done) | skip
  cases h;rw [hx.D6,hy.D6,ayB];rw [hk] at hu;exact run_equalIn_string w d _ _ _ hu
 | slice=>exact hk.elim
 | ptr=>exact hk.elim
 | other=>exact hk.elim
theorem Ma {fs:Array Field} (hu:P.underlying t=some (.struct fs)) (vs:Array Value) (i:Nat) (w:World):(part t vs i).run P w=.ok (.agg (vs.extract i (i+P.cellsOf t))) w:=by
 obtain ⟨ti,hi⟩:=info_of_underlying hu;simp [part,isAgg,run_underlying hu,run_sizeOf w hi]
theorem alP (n:Nat) (xs ys:Array Value) (w:World) (d:Nat)
  (IH:∀(t:TypeId) (zs:azF) (cs cs':azx) (us vs:Array Value) (r:Bool),EqT P n t zs->WR zs cs cs'=some r->us.size=cs.length->vs.size=cs'.length->(∀j,j<cs.length->fB w I O D (nth cs j) (us.getD j Go.undef))->(∀j,j<cs'.length->fB w I O D (nth cs' j) (vs.getD j Go.undef))->(Op.equalIn (d+1) t (.agg us) (.agg vs)).run P w=.ok r w):
  ∀(fs:List Field) (zs:azF) (cs cs':azx) (k:Nat) (r:Bool),WR zs cs cs'=some r->aoS P (EqT P n) fs zs k->
  k+cs.length<=xs.size->k+cs'.length<=ys.size->(∀j,j<cs.length->fB w I O D (nth cs j) (xs.getD (k+j) Go.undef))->(∀j,j<cs'.length->fB w I O D (nth cs' j) (ys.getD (k+j) Go.undef))->
  (Op.eqFields (d+1) xs ys fs).run P w=.ok r w:=by
 intro fs;induction fs with
 | nil=>
  intro zs cs cs' k r h hz _ _ _ _;cases zs with
  | cons=>exact hz.elim
  | nil=>cases cs<;>cases cs'<;>simp [WR] at h ⊢ <;> (subst h; simp [Op.eqFields])
 | cons f fs ih=>
  intro zs cs cs' k r h hz hx hy hrx hry;obtain ⟨hnm,hof,z1,z2,rfl,hz1,hz2⟩:=hz;obtain ⟨c1,c2,c1',c2',r1,r2,rfl,rfl,e3,e4,rfl⟩:=aoX _ _ _ _ _ h;obtain ⟨l1,l2⟩:=aoW _ _ _ _ e3;simp only [afa] at hx hy hrx hry;have nx1:∀j,j<c1.length->nth (c1++c2) j=nth c1 j:=λ j hj=>acS _ _ hj;have nx2:∀j,nth (c1++c2) (c1.length+j)=nth c2 j:=λ j=>acT _ _ j;have ny1:∀j,j<c1'.length->nth (c1'++c2') j=nth c1' j:=λ j hj=>acS _ _ hj;have ny2:∀j,nth (c1'++c2') (c1'.length+j)=nth c2' j:=λ j=>acT _ _ j;have ih':=ih z2 c2 c2' (k+z1.length) r2 e4 hz2 om om (λ j hj=>by
   have:=hrx (c1.length+j) om;rw [nx2,show k+(c1.length+j)=k+z1.length+j by omega] at this;exact this) (λ j hj=>by
   have:=hry (c1'.length+j) om;rw [ny2,show k+(c1'.length+j)=k+z1.length+j by omega] at this;exact this)
  have step:∀(u v:Value),(part f.type xs k).run P w=.ok u w->(part f.type ys k).run P w=.ok v w->(Op.equalIn (d+1) f.type u v).run P w=.ok r1 w->(Op.eqFields (d+1) xs ys (f::fs)).run P w=.ok (r1&&r2) w:=by
   intro u v px py hb;rw [Op.eqFields,if_pos hnm];simp only [hof,Sem.run_bind,px,py,Result.andThen_ok,hb];cases r1
   ·simp
   simpa using ih'
  rcases hz1 with ⟨z,dd,rfl,hu,hk⟩ | ⟨ho,hs⟩
  ·have hd:dd.isRow=false:=by cases z<;>simp only [adP] at hk<;>first | (subst hk; rfl) | exact hk.elim
   cases c1 with
   | nil=>simp at l1
   | cons c c1=>cases c1 with
    | cons=>simp at l1
    | nil=>cases c1' with
     | nil=>simp at l2
     | cons c' c1'=>cases c1' with
      | cons=>simp at l2
      | nil=>
       simp only [alk] at hx hy hrx hry
       have hx0:=hrx 0 om
       have hy0:=hry 0 om
       exact step _ _ (U7 hu hd xs k om w) (U7 hu hd ys k om w) (ahv w d hu hk e3 hx0 hy0)
  cases n with
  | zero=>exact ho.elim
  | succ n=>
   obtain ⟨fields,hu,_,_⟩:=id ho;refine step _ _ (Ma hu xs k w) (Ma hu ys k w) ?_;rw [hs];refine IH _ z1 c1 c1' _ _ r1 ho e3 (by rw [Array.size_extract]; omega) (by rw [Array.size_extract]; omega) (λ j hj=>?_) (λ j hj=>?_)
   ·have:=hrx j om;rw [nx1 j hj] at this;rw [U8 _ _ _ _ om om];exact this
   have:=hry j om;rw [ny1 j hj] at this;rw [U8 _ _ _ _ om om];exact this
theorem aoY (w:World):∀(n d:Nat) (t:TypeId) (zs:azF) (cs cs':azx) (us vs:Array Value) (r:Bool),EqT P n t zs->WR zs cs cs'=some r->us.size=cs.length->vs.size=cs'.length->(∀j,j<cs.length->fB w I O D (nth cs j) (us.getD j Go.undef))->(∀j,j<cs'.length->fB w I O D (nth cs' j) (vs.getD j Go.undef))->(Op.equalIn (d+n+1) t (.agg us) (.agg vs)).run P w=.ok r w:=by
 intro n;induction n with
 | zero=>intro d t zs cs cs' us vs r h; exact h.elim
 | succ n IH=>
  intro d t zs cs cs' us vs r ⟨fields,hu,hh,hf⟩ h hl hl' hx hy;have hfo:P.fieldsOf t=fields:=by unfold Program.fieldsOf; rw [hu]
  rw [show d+(n+1)+1=(d+n+1)+1 by omega,run_equalIn_struct (P:=P) w (d+n+1) t us vs (by rw [hfo]; exact hu) hh,hfo];exact alP (I:=I) (O:=O) (D:=D) n us vs w (d+n) (λ t zs cs cs' us vs r a b c e f g=>IH d t zs cs cs' us vs r a b c e f g) fields.toList zs cs cs' 0 r h hf om om (λ j hj=>by simpa using hx j hj) (λ j hj=>by simpa using hy j hj)
theorem SC (hc:iL P cfg) {zs:azF} (ht:look cfg.eqs t=some zs) {cs cs':azx} {xs ys:Array Value} {r:Bool} (h:WR zs cs cs'=some r) (hl:xs.size=cs.length) (hl':ys.size=cs'.length)
  (hx:∀j,j<cs.length->fB w I O D (nth cs j) (xs.getD j Go.undef)) (hy:∀j,j<cs'.length->fB w I O D (nth cs' j) (ys.getD j Go.undef)):(Op.equalIn 10000 t (.agg xs) (.agg ys)).run P w=.ok r w:=
 aoY w 4 9995 t zs cs cs' xs ys r (hc.eqs t zs ht).ex h hl hl' hx hy
theorem alQ (hc:iL P cfg) (hR:Rel cfg cx H D w I O) {op:BinOp} {t':TypeId} {y:Operand} (ho:o.op=.binOp op t x y t') (hx:fB w I O D (ρ x) (a.eval x)) (hy:fB w I O D (ρ y) (a.eval y))
  (h:gq Sp H (alr cfg op t (ρ x) (ρ y)) v ups r):fT P cfg cx H D w I O eY o a v ups:=by
 unfold alr at h;split at h
 ·rename_i k n k' n' e1 e2;rw [e1] at hx; rw [e2] at hy;have hx':=hx.jg;have hy':=hy.jg;obtain ⟨hk1,h1⟩:=h.dF;clear h;have hk:k=k':=by simpa [ET] using hk1
  subst hk;have hg:∀(u:World),(eqGuard op t x y (.int k n) (.int k n')).run P u=.ok () u:=by
   intro u; unfold eqGuard; cases op<;>simp
  cases ha:ZQ op with
  | true=>
   simp only [ha] at h1;cases hk2:ET k .i64 with
   | true=>
    simp only [hk2] at h1;have h2:=h1;clear h1;have hk:k=.i64:=by simpa [ET] using hk2
    subst hk;cases op<;>simp [ZQ] at ha<;>simp only [arith] at h2<;>obtain ⟨hp,rfl,rfl⟩:=h2.jl<;>
     refine fT.fE (x:=.int .i64 _) hR ?_ (.pure (.int _ _))<;>simp [execOp,ho,hx',hy',hg,binOp,Op.intArith,Op.intDiv,wrap_i64,hp]
   | false=>
    simp only [hk2] at h1;exact (gq.bM h1).elim
  | false=>
   simp only [ha] at h1;cases op<;>simp [ZQ] at ha<;>simp only [ata] at h1<;>first
    | exact (gq.bM h1).elim
    | (obtain ⟨rfl,rfl⟩:=h1.fO
       refine fT.fE (x:=.bool _) hR ?_ (.pure (.bool _))
       simp [execOp,ho,hx',hy',hg,binOp,Op.intCmp])
 ·rename_i b b' e1 e2;rw [e1] at hx; rw [e2] at hy;have hx':=hx.mE;have hy':=hy.mE;obtain ⟨ti,ht,h1⟩:=h.l8;clear h;have hg:∀(u:World),(eqGuard op t x y (.bool b) (.bool b')).run P u=.ok () u:=by
   intro u; unfold eqGuard; cases op<;>simp
  have hd:ti.desc=.bool->P.underlying t=some .bool:=by
   intro hd;obtain ⟨i,d,z,_,hu,_,_,_,_,_,_,_,hm⟩:=(hc.ty t ti ht).ex;rw [hd] at hm;rw [hu,hm]
  split at h1
  ·rename_i hdd;obtain ⟨rfl,rfl⟩:=h1.fO;refine fT.fE (x:=.bool _) hR ?_ (.pure (.bool _));have e:=run_equal_bool (P:=P) (hd hdd) b b' w;simp [execOp,ho,hx',hy',hg,binOp,e]
  ·rename_i hdd;obtain ⟨rfl,rfl⟩:=h1.fO;refine fT.fE (x:=.bool _) hR ?_ (.pure (.bool _));have e:=run_equal_bool (P:=P) (hd hdd) b b' w;simp [execOp,ho,hx',hy',hg,binOp,e]
  exact (gq.bM h1).elim
 ·rename_i s s' e1 e2;rw [e1] at hx; rw [e2] at hy;have hx':=hx.D6;have hy':=hy.D6;have hg:∀(u:World),(eqGuard op t x y (.string s) (.string s')).run P u=.ok () u:=by
   intro u; unfold eqGuard; cases op<;>simp
  unfold aql at h;cases op<;>simp only at h<;>first
   | exact (gq.bM h).elim
   | (obtain ⟨rfl,rfl⟩:=h.fO
      refine fT.fE (x:=.bool _) hR ?_ (.pure (.bool _))
      simp [execOp,ho,hx',hy',hg,binOp,Op.stringOp]
      done)
   | (obtain ⟨hp,rfl,rfl⟩:=h.jl
      refine fT.fE (x:=.string _) hR ?_ (.pure (.str _))
      have hle:¬ (((s.size+s'.size:Nat):Int) > IntKind.i64.max):=by
       have:IntKind.i64.max=9223372036854775807:=by decide
       rw [this]
       omega
      simp only [execOp,ho,hx',hy',binOp,Op.stringOp,Sem.run_bind,hg,Result.andThen_ok]
      rw [if_neg hle]
      rfl)
 ·rename_i cs cs' e1 e2;rw [e1] at hx; rw [e2] at hy;obtain ⟨xs,hx',hl,hrx⟩:=hx.vY;obtain ⟨ys,hy',hl',hry⟩:=hy.vY;split at h
  ·rename_i zs hz;have hg:∀(u:World),(eqGuard op t x y (.agg xs) (.agg ys)).run P u=.ok () u:=λ u=>run_eqGuard_agg u op t x y xs ys (hc.eqs t zs hz).guard;split at h
   ·rename_i r' he;obtain ⟨rfl,rfl⟩:=h.fO;have e:=SC hc hz he hl hl' hrx hry;refine fT.fE (x:=.bool _) hR ?_ (.pure (.bool _));simp only [execOp,ho,hx',hy',Sem.run_bind,hg,Result.andThen_ok,run_eql_struct,e];rfl
   ·rename_i r' he;obtain ⟨rfl,rfl⟩:=h.fO;have e:=SC hc hz he hl hl' hrx hry;refine fT.fE (x:=.bool _) hR ?_ (.pure (.bool _));simp only [execOp,ho,hx',hy',Sem.run_bind,hg,Result.andThen_ok,run_neq_struct,e];rfl
   exact (gq.bM h).elim
  exact (gq.bM h).elim
 exact (gq.bM h).elim
theorem aoZ (hR:Rel cfg cx H D w I O) {op:UnOp} (ho:o.op=.unOp op t x) (hx:fB w I O D (ρ x) (a.eval x))
  (h:gq Sp H (iC cfg eY (.unOp op t x) ρ) v ups r):fT P cfg cx H D w I O eY o a v ups:=by
 simp only [iC] at h;split at h
 ·rename_i b e;rw [e] at hx;obtain ⟨rfl,rfl⟩:=h.fO;refine fT.fE (x:=.bool _) hR ?_ (.pure (.bool _));simp [execOp,ho,hx.mE,Op.unary]
 exact (gq.bM h).elim
theorem afs (hR:Rel cfg cx H D w I O) (ho:o.op=.nilCheck x) (hx:fB w I O D (ρ x) (a.eval x))
  (h:gq Sp H (iC cfg eY (.nilCheck x) ρ) v ups r):fT P cfg cx H D w I O eY o a v ups:=by
 simp only [iC] at h;split at h
 ·rename_i ob i off e;rw [e] at hx;obtain ⟨obj,_,rY,h1⟩:=h.rQ;obtain ⟨rfl,rfl⟩:=h1.fO;cases hp:O ob with
  | none=>rw [(hR.dom ob).1 hp] at rY; cases rY
  | some p=>
   obtain ⟨b,bo,sz,h1,h2,h3⟩:=hx.qg hp;exact fT.fE hR (by simp [execOp,ho,h3]) (h3 ▸ hx)
 ·rename_i cs e;rw [e] at hx;obtain ⟨rfl,rfl⟩:=h.fO;generalize hxe:a.eval x=xv at hx;have hx0:=hx;cases hx.aaA;exact fT.fE hR (by simp [execOp,ho,hxe]) hx0
 ·rename_i f cs e;rw [e] at hx;obtain ⟨rfl,rfl⟩:=h.fO;obtain ⟨vs,h1,h2,h3⟩:=hx.Oo;exact fT.fE hR (by simp [execOp,ho,h1]) (h1 ▸ hx)
 exact (gq.bM h).elim
theorem ahw (hR:Rel cfg cx H D w I O) {t:Operand} {i:Nat} (ho:o.op=.extract t i) (hx:fB w I O D (ρ t) (a.eval t))
  (h:gq Sp H (iC cfg eY (.extract t i) ρ) v ups r):fT P cfg cx H D w I O eY o a v ups:=by
 simp only [iC] at h;split at h
 ·rename_i vs e;rw [e] at hx;obtain ⟨hl,h1⟩:=h.dF;obtain ⟨rfl,rfl⟩:=h1.fO;obtain ⟨xs,h1,h2,h3⟩:=hx.KU;have hl:i<vs.length:=by simpa using hl
  have hi:i<xs.size:=by omega
  refine fT.fE (x:=xs.getD i Go.undef) hR ?_ (h3 i hl);simp [execOp,ho,h1,Instr.extract,ali hi]
 exact (gq.bM h).elim
theorem ai5 {l:List Operand} (h:∀x∈l,fB w I O D (ρ x) (a.eval x)):∀j,j<(l.map ρ).length->fB w I O D (nth (l.map ρ) j) ((l.map a.eval).toArray.getD j Go.undef):=by
 intro j hj;have hj':j<l.length:=by simpa using hj
 rw [wN];simp [hj'];exact h _ (anK hj')
theorem aft (hR:Rel cfg cx H D w I O) {fn:Fn} {first cap:Array Operand} (ho:o.op=.makeFunc fn first cap) (hx:∀x∈cap.toList,fB w I O D (ρ x) (a.eval x))
  (h:gq Sp H (iC cfg eY (.makeFunc fn first cap) ρ) v ups r):fT P cfg cx H D w I O eY o a v ups:=by
 simp only [iC] at h;split at h
 ·rename_i f e;obtain ⟨rfl,rfl⟩:=h.fO;have hf:first=#[]:=by simpa using e
  subst hf;refine fT.fE (x:=.func (.func f) #[] (cap.map a.eval)) hR (by simp [execOp,ho,Instr.makeFunc]) (.fn (by simp) λ j hj=>?_);have:=ai5 hx j hj;simpa using this
 exact (gq.bM h).elim
variable {c:Call}
theorem aq5 (hc:iL P cfg) (hR:Rel cfg cx H D w I O) (ho:o.op=.call c) (hcl:c.callee=.builtin .len) (hx:∀x∈c.args.toList,fB w I O D (ρ x) (a.eval x))
  (h:gq Sp H (iC cfg eY (.call c) ρ) v ups r):fT P cfg cx H D w I O eY o a v ups:=by
 simp only [iC,hcl] at h;split at h
 ·rename_i u t e1 e2;obtain ⟨ti,ht,h1⟩:=h.l8;obtain ⟨x,hxe⟩:∃x,c.args=#[x]:=by
   match hl:c.args.toList with
   | []=>simp [hl] at e1
   | [x]=>exact ⟨x,by rw [<- auP]; simpa using hl⟩
   | x::y::l=>simp [hl] at e1
  have e1':ρ x=u:=by simpa [hxe] using e1
  have hx':fB w I O D u (a.eval x):=e1' ▸ hx x (by simp [hxe]);have hte:c.argTypes=#[t]:=by rw [<- auP]; simpa using e2
  obtain ⟨_,dd,_,_,hud,_,_,_,_,_,_,_,hm⟩:=(hc.ty t ti ht).ex;split at h1
  ·rename_i e;rw [e] at hm;have hm:dd=.slice _:=hm;subst hm;obtain ⟨rfl,rfl⟩:=h1.fO;generalize hxv:a.eval x=xv at hx';cases hx'.Iy;refine fT.fE (x:=.int .i64 _) hR ?_ (.pure (.int _ _));simp [execOp,ho,hcl,resolve,invoke,builtin,Builtin.len_,hxe,hte,hxv,dK hud,goInt]
  ·rename_i ob i n f _ e;rw [e] at hm;have hm:dd=.slice _:=hm;subst hm;obtain ⟨obj,_,rY,h2⟩:=h1.rQ;obtain ⟨rfl,rfl⟩:=h2.fO;cases hp:O ob with
   | none=>rw [(hR.dom ob).1 hp] at rY; cases rY
   | some p=>
    obtain ⟨aa,cap,hxv,_⟩:=hx'.qh hp;refine fT.fE (x:=.int .i64 _) hR ?_ (.pure (.int _ _));simp [execOp,ho,hcl,resolve,invoke,builtin,Builtin.len_,hxe,hte,hxv,dK hud,goInt]
  ·rename_i s e;rw [e] at hm;have hm:dd=.string:=hm;subst hm;obtain ⟨rfl,rfl⟩:=h1.fO;refine fT.fE (x:=.int .i64 _) hR ?_ (.pure (.int _ _));simp [execOp,ho,hcl,resolve,invoke,builtin,Builtin.len_,hxe,hte,hx'.D6,dK hud,goInt]
  exact (gq.bM h1).elim
 exact (gq.bM h).elim
theorem args2 {u u':AV} (e:c.args.toList.map ρ=[u,u']):∃x y,c.args=#[x,y]∧ρ x=u∧ρ y=u':=by
 match hl:c.args.toList with
 | []=>simp [hl] at e
 | [x]=>simp [hl] at e
 | [x,y]=>
  rw [hl] at e
  simp at e
  exact ⟨x,y,by rw [<- auP]; simpa using hl,e.1,e.2⟩
 | x::y::z::l=>simp [hl] at e
theorem aq6 (hR:Rel cfg cx H D w I O) (ho:o.op=.call c) (hcl:c.callee=.builtin .min) (hx:∀x∈c.args.toList,fB w I O D (ρ x) (a.eval x))
  (h:gq Sp H (iC cfg eY (.call c) ρ) v ups r):fT P cfg cx H D w I O eY o a v ups:=by
 simp only [iC,hcl] at h;split at h
 ·rename_i k n k' n' e;obtain ⟨rfl,rfl⟩:=h.fO;obtain ⟨x,y,hxy,e1,e2⟩:=args2 e;have h1:=e1 ▸ hx x (by simp [hxy]);have h2:=e2 ▸ hx y (by simp [hxy]);refine fT.fE (x:=.int k _) hR ?_ (.pure (.int _ _));simp [execOp,ho,hcl,resolve,invoke,builtin,Builtin.min_,Builtin.min2,hxy,h1.jg,h2.jg]
 exact (gq.bM h).elim
theorem aq7 (hR:Rel cfg cx H D w I O) (ho:o.op=.call c) (hcl:c.callee=.builtin .max) (hx:∀x∈c.args.toList,fB w I O D (ρ x) (a.eval x))
  (h:gq Sp H (iC cfg eY (.call c) ρ) v ups r):fT P cfg cx H D w I O eY o a v ups:=by
 simp only [iC,hcl] at h;split at h
 ·rename_i k n k' n' e;obtain ⟨rfl,rfl⟩:=h.fO;obtain ⟨x,y,hxy,e1,e2⟩:=args2 e;have h1:=e1 ▸ hx x (by simp [hxy]);have h2:=e2 ▸ hx y (by simp [hxy]);refine fT.fE (x:=.int k _) hR ?_ (.pure (.int _ _));simp [execOp,ho,hcl,resolve,invoke,builtin,Builtin.max_,Builtin.max2,hxy,h1.jg,h2.jg]
 exact (gq.bM h).elim
theorem iL.field (hc:iL P cfg) {s:TypeId} {ts:TS} {f oo t:Nat} (h:look cfg.ty s=some ts) (hf:Q6 ts f=some (oo,t)):
  ∃fields fd,P.underlying s=some (.struct fields)∧fields[f]? = some fd∧fd.offset=oo∧fd.type=t:=by
 obtain ⟨_,dd,_,_,hud,_,_,_,_,_,_,_,hm⟩:=(hc.ty s ts h).ex;unfold Q6 at hf;split at hf
 ·rename_i fs e;rw [e] at hm;obtain ⟨fields,rfl,hfs⟩:=hm;subst hfs;have key:∀(l:List Field) (f:Nat),Y5 (l.map λ f=>(f.offset,f.type)) f=some (oo,t)->∃fd,l[f]? = some fd∧fd.offset=oo∧fd.type=t:=by
   intro l;induction l with
   | nil=>intro f h; simp [Y5] at h
   | cons x l ih=>
    intro f h;cases f with
    | zero=>simp [Y5] at h; exact ⟨x,rfl,h.1,h.2⟩
    | succ f=>simp only [aqD,Y5] at h; simpa using ih f h
  obtain ⟨fd,h1,h2,h3⟩:=key _ _ hf;exact ⟨fields,fd,hud,by simpa using h1,h2,h3⟩
 cases hf
theorem Oq (l:azx) (k j:Nat):nth (l.drop k) j=nth l (k+j):=by
 simp [wN]
theorem adQ (hc:iL P cfg) (hR:Rel cfg cx H D w I O) {s:TypeId} {f:Nat} (ho:o.op=.fieldAddr s x f) (hx:fB w I O D (ρ x) (a.eval x))
  (h:gq Sp H (iC cfg eY (.fieldAddr s x f) ρ) v ups r):fT P cfg cx H D w I O eY o a v ups:=by
 simp only [iC] at h;obtain ⟨ts,hs,h1⟩:=h.l8;split at h1
 ·rename_i oo t hf;obtain ⟨ti,ht,h2⟩:=h1.l8;obtain ⟨hpos,h3⟩:=h2.dF;have hpos:0<ti.size:=by simpa using hpos
  obtain ⟨fields,fd,hu,hfd,ho1,ho2⟩:=hc.field hs hf;obtain ⟨i,_,_,hi,_,_,hsz,_⟩:=(hc.ty t ti ht).ex;have hne:¬ i.size=0:=by omega
  have place:∀b bo,(Instr.fieldAt s (.pointer (some ⟨b,bo,none⟩)) f).run P w=.ok (.pointer (some ⟨b,bo+oo,none⟩)) w:=by
   intro b bo;simp [Instr.fieldAt,Instr.sureAddr,dK hu,hfd,fieldPlace,ho1,ho2,gJ hi,hne,Addr.add_mid]
  split at h3
  ·rename_i ob i off e;rw [e] at hx;obtain ⟨obj,_,rY,h4⟩:=h3.rQ;obtain ⟨rfl,rfl⟩:=h4.fO;cases hp:O ob with
   | none=>rw [(hR.dom ob).1 hp] at rY; cases rY
   | some p=>
    obtain ⟨b,bo,sz,h5,h6,h7⟩:=hx.qg hp;refine fT.fE (x:=.pointer (some ⟨b,bo+(i*p.es+(off+oo)),none⟩)) hR ?_ (.ptr hp h5 h6);have:bo+(i*p.es+off)+oo=bo+(i*p.es+(off+oo)):=by omega
    simp [execOp,ho,h7,place,this]
  ·rename_i cs e;rw [e] at hx;obtain ⟨rfl,rfl⟩:=h3.fO;generalize hxv:a.eval x=xv at hx;cases hx.aaA with
   | ro b off vs hI hm hr=>
    refine fT.fE (x:=.pointer (some ⟨b,off+oo,none⟩)) hR (by simp [execOp,ho,hxv,place]) (.pure (.ro b (off+oo) (λ j=>vs (oo+j)) hI (λ j hj=>?_) λ j hj=>?_))
    ·have:=hm (oo+j) (by simp at hj; omega);rw [<- this,auk]
    rw [Oq]; exact hr (oo+j) (by simp at hj; omega)
  exact (gq.bM h3).elim
 exact (gq.bM h1).elim
end
end Go.Ab
namespace Go.Ab
section
variable {P:Program} {cfg:yx} {cx:Ctx} {H:Nat->Option eP} {D:Nat->Prop} {w:World} {I:Nat->Prop} {O:OM} {Sp:pQ}
variable {eY:Nat} {o:Oper} {a:Act} {ρ:Operand->AV} {v:AV} {ups:lD} {r:azt}
variable {t:TypeId}
theorem iL.agg (hc:iL P cfg) {ti:TS} (h:look cfg.ty t=some ti):∃i d,P.info? t=some i∧P.underlying t=some d∧d.isRow=ti.agg∧i.size=ti.size:=by
 obtain ⟨i,d,z,h1,h2,h3,h4,h5,h6,_⟩:=(hc.ty t ti h).ex;exact ⟨i,d,h1,h2,h6,h4⟩
theorem Xb {d:TypeDesc} (h:P.underlying t=some d) (w:World):(isAgg t).run P w=.ok d.isRow w:=by
 unfold isAgg;rw [Sem.run_bind,dK h w];cases d<;>simp
theorem sP (hc:iL P cfg) {ti:TS} (ht:look cfg.ty t=some ti) {cs:azx} (h:gq Sp H (CW ti cs) v ups r) (b bo:Nat) (f:Nat->Value)
  (hm:∀j,j<cs.length->w.cell? ⟨b,bo+j,none⟩=some (f j)) (hr:∀j,j<cs.length->fB w I O D (nth cs j) (f j)):
  ups=[]∧∃x,(Instr.loadAt t (.pointer (some ⟨b,bo,none⟩))).run P w=.ok x w∧fB w I O D v x:=by
 obtain ⟨i,d,hi,hu,hd,hs⟩:=hc.agg ht;unfold CW at h;cases ha:ti.agg with
 | true=>
  simp only [ha] at h;obtain ⟨hl,h1⟩:=h.dF;obtain ⟨rfl,rfl⟩:=h1.fO;have hl:ti.size<=cs.length:=by simpa using hl
  refine ⟨rfl,.agg ((List.range ti.size).map f).toArray,?_,.agg (by simp [auW hl]) λ j hj=>?_⟩
  ·refine run_loadAt_mid w b bo t _ d (λ j u hj=>?_) hu (by rw [hd,ha]) (by simp [hi,hs]);have hlt:j<ti.size:=by
    rcases aoG j ti.size with h | h
    ·exact h
    simp [h] at hj
   simp [hlt] at hj;rw [<- hj];exact hm j om
  have hj':j<ti.size:=by simp at hj; omega
  have e:nth (List.take ti.size cs) j=nth cs j:=by simp [wN,hj']
  rw [e];simpa [hj'] using hr j om
 | false=>
  simp only [ha] at h;cases cs with
  | nil=>exact (gq.bM h).elim
  | cons c cs=>
   obtain ⟨rfl,rfl⟩:=h.fO;refine ⟨rfl,f 0,?_,hr 0 (by simp)⟩;have h0:=hm 0 (by simp);have hag:(isAgg t).run P w=.ok false w:=by rw [Xb hu,hd,ha]
   simp only [aqp] at h0;simp [Instr.loadAt,Instr.sureAddr,loadVar,Sem.run_bind,hag,load,Sem.run,h0]
theorem Rel.live (hR:Rel cfg cx H D w I O) {ob:Nat} {x:eP} (h:H ob=some x):∃p,O ob=some p∧je w I O D p x:=by
 cases hp:O ob with
 | none=>rw [(hR.dom ob).1 hp] at h; cases h
 | some p=>exact ⟨p,rfl,hR.objs ob x p h hp⟩
theorem xw {b sz j:Nat} (h:L9 w b sz) (hj:j<sz):w.cell? ⟨b,j,none⟩=some (cellAt w b j):=by
 obtain ⟨u,hu⟩:=ano.1 (h j hj).1;simp [cellAt,hu]
theorem Z0 {i j:Nat} (h:(isZ i&&isZ j)=true):i=0∧j=0:=by
 cases i<;>cases j<;>simp_all [isZ]
theorem ai6 (l m:azx) (j:Nat):nth (l++m) j=if j<l.length then nth l j else nth m (j - l.length):=by
 rw [wN,wN,wN];by_cases h:j<l.length
 ·rw [if_pos h]; simp [arG h]
 rw [if_neg h]; simp [arF (by omega:l.length<=j)]
variable {es:Nat}
theorem ab5 {g:Nat->AV}:∀(k i:Nat),(∀j,i<=j->j<i+k->(g j).cells.length=es)->(lS k i g).length=k*es∧∀a b,a<k->b<es->nth (lS k i g) (a*es+b)=nth (g (i+a)).cells b:=by
 intro k;induction k with
 | zero=>intro i _; exact ⟨by simp [lS],λ a b h=>absurd h (ahh _)⟩
 | succ k ih=>
  intro i h;obtain ⟨h1,h2⟩:=ih (i+1) (λ j hj hj'=>h j om om);have h0:=h i (afg _) om;refine ⟨by simp only [lS,afa,h0,h1]; rw [alo]; omega,λ a b ha hb=>?_⟩;simp only [lS];rw [ai6,h0];cases a with
  | zero=>simp only [asO,ahi,aqp]; rw [if_pos hb]
  | succ a=>
   rw [if_neg (by rw [alo]; omega)];have e1:(a+1)*es+b - es=a*es+b:=by rw [alo]; omega
   rw [e1,h2 a b om hb];congr 2;congr 1;omega
variable {n:Nat}
theorem aq8 {q:Nat} (h:q<n*es):q / es<n∧q % es<es∧q / es*es+q % es=q:=by
 have hes:0<es:=by
  rcases aqH es with h0 | h0
  ·subst h0; simp at h
  exact h0
 refine ⟨avk (by rw [asR]; exact h),auX _ hes,?_⟩;rw [asR];exact Nat.div_add_mod q es
theorem U9 {w:World} {I:Nat->Prop} {b bo:Nat} {g:Nat->AV} (hlen:∀i,i<n->(g i).cells.length=es) (hcs:∀i j,i<n->j<es->iP w I (nth (g i).cells j) (cellAt w b (bo+(i*es+j)))∧(cellAt w b (bo+(i*es+j))).oneCell'=true):
  (lS n 0 g).length=n*es∧∀q,q<(lS n 0 g).length->iP w I (nth (lS n 0 g) q) (cellAt w b (bo+q)):=by
 obtain ⟨h1,h2⟩:=ab5 n 0 (λ j _ hj=>hlen j om);refine ⟨h1,λ q hq=>?_⟩;rw [h1] at hq;obtain ⟨h3,h4,h5⟩:=aq8 hq;have h6:=h2 (q / es) (q % es) h3 h4;have h7:=(hcs (q / es) (q % es) h3 h4).1;rw [h5] at h6 h7;rw [h6,ahi];exact h7
variable {x:Operand}
theorem ao0 (hc:iL P cfg) (hR:Rel cfg cx H D w I O) (ho:o.op=.load t x) (hx:fB w I O D (ρ x) (a.eval x))
  (h:gq Sp H (iC cfg eY (.load t x) ρ) v ups r):fT P cfg cx H D w I O eY o a v ups:=by
 simp only [iC] at h;obtain ⟨ti,ht,h1⟩:=h.l8;split at h1
 ·rename_i ob i off e;rw [e] at hx;obtain ⟨obj,_,rY,h2⟩:=h1.rQ;obtain ⟨p,hp,hO⟩:=hR.live rY;obtain ⟨b,bo,sz,hpl,hi,hxv⟩:=hx.qg hp;cases obj with
  | map=>exact (gq.bM h2).elim
  | box cs=>
   obtain ⟨hn,b',pO,sz',hpl',hal,hle,hcs⟩:=hO;rw [hpl] at hpl';cases hpl';have hi0:i=0:=by omega
   subst hi0;obtain ⟨rfl,x',hrun,hrep⟩:=sP (w:=w) (I:=I) (O:=O) (D:=D) hc ht h2 b (bo+off) (λ j=>cellAt w b (bo+(off+j)))
    (λ j hj=>by rw [auk]; exact xw hal (by simp at hj; omega)) (λ j hj=>by rw [Oq]; exact hcs (off+j) (by simp at hj; omega))
   refine fT.fE hR ?_ hrep;simp only [asO,ahi] at hxv;simp [execOp,ho,hxv,hrun]
  | row es n g=>
   obtain ⟨hn,hes,hlen,hpl' | ⟨b',pO,sz',hpl',hal,hle,hcs⟩⟩:=hO
   ·rw [hpl] at hpl'; cases hpl'.2
   rw [hpl] at hpl';cases hpl';simp only at h2;split at h2
   ·obtain ⟨hz,h3⟩:=h2.dF;obtain ⟨rfl,rfl⟩:=Z0 hz;obtain ⟨hrl,hrr⟩:=U9 hlen hcs;obtain ⟨rfl,x',hrun,hrep⟩:=sP (w:=w) (I:=I) (O:=O) (D:=D) hc ht h3 b bo (λ j=>cellAt w b (bo+j)) (λ j hj=>xw hal.al om) (λ j hj=>.pure (hrr j hj));refine fT.fE hR ?_ hrep;simp only [asO,ahi,aqp] at hxv;simp [execOp,ho,hxv,hrun]
   obtain ⟨hk,h3⟩:=h2.dF;have hin:i<n:=by omega
   have hmul:(i+1)*es<=n*es:=afh _ hin;have ayH:(i+1)*es=i*es+es:=alo _ _;have hli:=hlen i hin;obtain ⟨rfl,x',hrun,hrep⟩:=sP (w:=w) (I:=I) (O:=O) (D:=D) hc ht h3 b (bo+(i*es+off)) (λ j=>cellAt w b (bo+(i*es+(off+j))))
    (λ j hj=>by
      have:bo+(i*es+off)+j=bo+(i*es+(off+j)):=by omega
      rw [this]
      exact xw hal.al (by simp at hj; omega)) (λ j hj=>by rw [Oq]; exact .pure (hcs i (off+j) hin (by simp at hj; omega)).1)
   refine fT.fE hR ?_ hrep;rw [hes] at hxv;simp [execOp,ho,hxv,hrun]
 ·rename_i cs e;rw [e] at hx;generalize hxv:a.eval x=xv at hx;cases hx.aaA with
  | ro b off vs hI hm hr=>
   obtain ⟨rfl,x',hrun,hrep⟩:=sP (w:=w) (I:=I) (O:=O) (D:=D) hc ht h1 b off vs hm (λ j hj=>.pure (hr j hj));exact fT.fE hR (by simp [execOp,ho,hxv,hrun]) hrep
 exact (gq.bM h1).elim
theorem alR (hc:iL P cfg) (hR:Rel cfg cx H D w I O) {s:TypeId} {f:Nat} (ho:o.op=.field s x f) (hx:fB w I O D (ρ x) (a.eval x))
  (h:gq Sp H (iC cfg eY (.field s x f) ρ) v ups r):fT P cfg cx H D w I O eY o a v ups:=by
 simp only [iC] at h;obtain ⟨ts,hs,h1⟩:=h.l8;split at h1
 ·rename_i oo t hf;obtain ⟨ti,ht,h2⟩:=h1.l8;obtain ⟨fields,fd,hu,hfd,ho1,ho2⟩:=hc.field hs hf;obtain ⟨i,d,hi,hu',hd,hsz⟩:=hc.agg ht;split at h2
  ·rename_i cs e;rw [e] at hx;obtain ⟨vs,hxv,hl,hr⟩:=hx.vY;have hag:=Xb hu' w;unfold CW at h2;cases ha:ti.agg with
   | true=>
    simp only [ha] at h2;obtain ⟨hle,h3⟩:=h2.dF;obtain ⟨rfl,rfl⟩:=h3.fO;have hle:ti.size<=cs.length - oo:=by simpa using hle
    rw [hd,ha] at hag;have e1:(part t vs oo).run P w=.ok (.agg (vs.extract oo (oo+ti.size))) w:=by simp [part,Sem.run_bind,hag,gJ hi,hsz]
    refine fT.fE (x:=.agg (vs.extract oo (oo+ti.size))) hR ?_ (.agg ?_ λ j hj=>?_)
    ·rw [<- ho2] at e1;simp only [execOp,ho,Instr.field,hxv,Sem.run_bind,dK hu,hfd,asAgg,Sem.run_pure,Result.andThen_ok,e1,ho1]
    ·simp; omega
    have hj':j<ti.size:=by simp at hj; omega
    have:=hr (oo+j) om;have e:nth (List.take ti.size (List.drop oo cs)) j=nth cs (oo+j):=by simp [wN,hj']
    rw [e];have h4:oo+j<vs.size:=by omega
    simp [h4] at this;have h5:(vs.extract oo (oo+ti.size))[j]? = vs[oo+j]? := by
     rw [Array.getElem?_extract,if_pos om]
    simp only [an7, h5];simpa [h4] using this
   | false=>
    simp only [ha] at h2;rw [hd,ha] at hag;cases hcs:List.drop oo cs with
    | nil=>simp only [hcs] at h2; exact (gq.bM h2).elim
    | cons c l=>
     simp only [hcs] at h2;obtain ⟨rfl,rfl⟩:=h2.fO;have hlt:oo<cs.length:=by
      rcases aoG oo cs.length with h | h
      ·exact h
      rw [alp h] at hcs; cases hcs
     have hc0:nth cs oo=v:=by
      have:=Oq cs oo 0;rw [hcs] at this;simpa [nth] using this.symm
     have h4:oo<vs.size:=by omega
     have e1:(part t vs oo).run P w=.ok (vs.getD oo Go.undef) w:=by simp [part,Sem.run_bind,hag,ali h4]
     refine fT.fE (x:=vs.getD oo Go.undef) hR ?_ (hc0 ▸ hr oo hlt);rw [<- ho2] at e1;simp only [execOp,ho,Instr.field,hxv,Sem.run_bind,dK hu,hfd,asAgg,Sem.run_pure,Result.andThen_ok,e1,ho1]
  exact (gq.bM h2).elim
 exact (gq.bM h1).elim
theorem Jp {size:Nat} (h:WT es n size=true) (hn:n≠0):es=size:=by
 unfold WT at h;cases hb:Nat.beq es size with
 | true=>exact adU hb
 | false=>
  simp only [hb] at h;cases n with
  | zero=>exact absurd rfl hn
  | succ n=>simp [isZ] at h
theorem Va (i j:Nat):addN i j=i+j:=by cases i<;>simp [addN]
theorem acU (hc:iL P cfg) {et:Nat} (h:alF cfg t=some (n,et)):P.underlying t=some (.array n et)∧∃ti,look cfg.ty t=some ti∧aar ti.desc=some (n,et):=by
 unfold alF at h;split at h
 ·rename_i ti ht;refine ⟨?_,ti,ht,h⟩;obtain ⟨_,d,_,_,hu,_,_,_,_,_,_,_,hm⟩:=(hc.ty t ti ht).ex;unfold aar at h;split at h
  ·rename_i n' e' hd;cases h;rw [hd] at hm;have hm:d=.array n et:=hm;rw [hu,hm]
  cases h
 cases h
theorem adR (hc:iL P cfg) (hR:Rel cfg cx H D w I O) {ix:Operand} (ho:o.op=.indexAddr t x ix) (hx:fB w I O D (ρ x) (a.eval x)) (hix:fB w I O D (ρ ix) (a.eval ix))
  (h:gq Sp H (iC cfg eY (.indexAddr t x ix) ρ) v ups r):fT P cfg cx H D w I O eY o a v ups:=by
 simp only [iC] at h;split at h
 ·rename_i n et harr;obtain ⟨hu,_⟩:=acU hc harr;obtain ⟨ei,hei,h1⟩:=h.l8;split at h1
  ·rename_i k ii ob j off e1 e2;rw [e1] at hix;rw [e2] at hx;have afu:=hix.jg;obtain ⟨obj,_,rY,h2⟩:=h1.rQ;obtain ⟨p,hp,hO⟩:=hR.live rY;obtain ⟨b,bo,sz,hpl,hjn,hxv⟩:=hx.qg hp;cases obj with
   | map=>exact (gq.bM h2).elim
   | box cs=>exact (gq.bM h2).elim
   | row es n' g=>
    obtain ⟨c1,h3⟩:=h2.dF;obtain ⟨c2,h4⟩:=h3.dF;obtain ⟨c3,h5⟩:=h4.dF;obtain ⟨⟨hn0,hn1⟩,rfl,rfl⟩:=h5.jl;obtain ⟨rfl,rfl⟩:=Z0 c1;have c2:es=ei.size:=adU c2;have c3:n'=n:=adU c3;have aaC:p.es=es:=hO.2.1;have hpn:p.n=n':=hO.1;obtain ⟨i,_,z,hi,_,hz,hs,_⟩:=(hc.ty et ei hei).ex;simp only [asO,aqp] at hxv;refine fT.fE (x:=.pointer (some ⟨b,bo+(ii.toNat*p.es+0),none⟩)) hR ?_ (.ptr hp hpl om);simp [execOp,ho,hxv,afu,Instr.indexAt,asIntOf,Instr.sureAddr,dK hu,gJ hi,hn0,hn1,hs,<- c2,aaC,Addr.add_mid]
  exact (gq.bM h1).elim
 obtain ⟨tt,e,ti,h1,h2,h3,h4⟩:=h.yF;obtain ⟨hu,i,z,hi,hz,hs,hby,hzs⟩:=hc.slice h1 h2 h3;split at h4
 ·rename_i k n eix;rw [eix] at hix;have afu:=hix.jg;split at h4
  ·rename_i es m full g ex;rw [ex] at hx;obtain ⟨hes,h5⟩:=h4.dF;obtain ⟨⟨hn0,hn1⟩,rfl,rfl⟩:=h5.jl;generalize hxv:a.eval x=xv at hx;cases hx.Iy with
   | @sl _ _ _ _ aa cap b off vs hcap hfull ha hes' hm h1 hr=>
    have hm0:m≠0:=by omega
    obtain ⟨rfl,hI⟩:=ha hm0;have avc:=Jp hes hm0;have hnm:n.toNat<m:=by omega
    refine fT.fE (x:=.pointer (some ⟨b,off+n.toNat*es,none⟩)) hR ?_ (.pure (.ro b (off+n.toNat*es) (λ j=>vs n.toNat j) hI (λ j hj=>?_) λ j hj=>hr _ _ hnm (by rw [hes' _ hnm] at hj; exact hj)))
    ·simp [execOp,ho,hxv,afu,Instr.indexAt,asIntOf,dK hu,gJ hi,hn0,hn1,hs,avc,Addr.add_mid]
    rw [auk];exact hm _ _ hnm (by rw [hes' _ hnm] at hj; exact hj)
  ·rename_i ob j m full ex;rw [ex] at hx;obtain ⟨obj,_,rY,h5⟩:=h4.rQ;obtain ⟨p,hp,hO⟩:=hR.live rY;cases obj with
   | map=>exact (gq.bM h5).elim
   | box cs=>exact (gq.bM h5).elim
   | row es n' g=>
    obtain ⟨hes,h6⟩:=h5.dF;have hes:es=ti.size:=adU hes;obtain ⟨⟨hn0,hn1⟩,rfl,rfl⟩:=h6.jl;obtain ⟨aa,cap,hxv,hjm,hcap,hfull,hpl⟩:=hx.qh hp;obtain ⟨b,bo,sz,afv,rfl,hle⟩:=hpl om;have aaC:p.es=es:=hO.2.1;have hnm:n.toNat<m:=by omega
    rw [Va];have:bo+j*p.es+n.toNat*p.es=bo+((j+n.toNat)*p.es+0):=by rw [alq]; omega
    refine fT.fE (x:=.pointer (some ⟨b,bo+((j+n.toNat)*p.es+0),none⟩)) hR ?_ (.ptr hp afv om);rw [<- this];simp [execOp,ho,hxv,afu,Instr.indexAt,asIntOf,dK hu,gJ hi,hn0,hn1,hs,<- hes,aaC,Addr.add_mid]
  exact (gq.bM h4).elim
 exact (gq.bM h4).elim
end
end Go.Ab
namespace Go.Ab
section
variable {P:Program} {cfg:yx} {cx:Ctx} {H:Nat->Option eP} {D:Nat->Prop} {w:World} {I:Nat->Prop} {O:OM} {Sp:pQ}
variable {eY:Nat} {o:Oper} {a:Act} {ρ:Operand->AV} {v:AV} {ups:lD} {r:azt}
variable {t:TypeId}
theorem SE {e:TypeId} {i:TypeInfo} (hu:P.underlying t=some (.slice e)) (hi:P.info? e=some i) (aa:Option Addr) (len cap:Nat) (lo hi' mx:Option Value) (l h m:Nat)
  (hb:(Instr.sliceBounds true len cap lo hi' mx).run P w=.ok (l,h,m) w):
  (Instr.sliceAt t (.slice aa len cap) lo hi' mx).run P w=.ok (.slice (if m=l then aa else aa.map (·.add (l*i.size))) (h - l) (m - l)) w:=by
 simp [Instr.sliceAt,Instr.slice,dK hu,hb,gJ hi]
theorem atm (len cap:Nat):(Instr.sliceBounds true len cap none none none).run P w=.ok (0,len,cap) w:=by
 simp [Instr.sliceBounds]
theorem atn (len cap:Nat) (k:IntKind) (h:Int) (h0:0<=h) (h1:h<=cap):(Instr.sliceBounds true len cap none (some (.int k h)) none).run P w=.ok (0,h.toNat,cap) w:=by
 simp [Instr.sliceBounds,Instr.sliceBound,asIntOf,h0,h1]
theorem ato (len cap:Nat) (k:IntKind) (h:Int) (h0:0<=h) (h1:h<=cap):(Instr.sliceBounds true len cap none (some (.int k h)) (some (.int k h))).run P w=.ok (0,h.toNat,h.toNat) w:=by
 obtain ⟨n,rfl⟩:=ahq h0;simp at h1;simp [Instr.sliceBounds,Instr.sliceBound,asIntOf,h1]
theorem atp (len cap:Nat) (k:IntKind) (l:Int) (h0:0<=l) (h1:l<=len):(Instr.sliceBounds true len cap (some (.int k l)) none none).run P w=.ok (l.toNat,len,cap) w:=by
 simp [Instr.sliceBounds,Instr.sliceBound,asIntOf,h0,h1]
theorem atq (len cap:Nat) (k k':IntKind) (l h:Int) (h0:0<=l) (h1:l<=h) (h2:h<=cap):(Instr.sliceBounds true len cap (some (.int k l)) (some (.int k' h)) none).run P w=.ok (l.toNat,h.toNat,cap) w:=by
 obtain ⟨n,rfl⟩:=ahq h0;obtain ⟨m,rfl⟩:=ahq (aoJ h0 h1);simp at h1 h2;simp [Instr.sliceBounds,Instr.sliceBound,asIntOf,h1,h2]
theorem atr (len cap:Nat) (k k':IntKind) (l h:Int) (h0:0<=l) (h1:l<=h) (h2:h<=cap):(Instr.sliceBounds true len cap (some (.int k l)) (some (.int k' h)) (some (.int k' h))).run P w=.ok (l.toNat,h.toNat,h.toNat) w:=by
 obtain ⟨n,rfl⟩:=ahq h0;obtain ⟨m,rfl⟩:=ahq (aoJ h0 h1);simp at h1 h2;simp [Instr.sliceBounds,Instr.sliceBound,asIntOf,h1,h2]
theorem ahx {es n cap size l h m:Nat} {full yG:Bool} {g:Nat->AV} {aa:Option Addr} (hp:iP w I (.sl es n full g) (.slice aa n cap)) (hlh:l<=h) (hhn:h<=n) (hhm:h<=m) (_hmc:m<=cap)
  (hf:yG=true->m=h) (hs:n≠0->es=size):iP w I (.sl es (h - l) yG (λ j=>g (l+j))) (.slice (if m=l then aa else aa.map (·.add (l*size))) (h - l) (m - l)):=by
 cases hp with
 | sl b off vs hcap hfull ha hes hm h1 hr=>
  refine .sl b (off+l*es) (λ i j=>vs (l+i) j) om (λ e=>by have:=hf e; omega) (λ hne=>?_) (λ i hi=>hes _ om) (λ i j hi hj=>?_) (λ i j hi hj=>h1 _ _ om hj) (λ i j hi hj=>hr _ _ om hj)
  ·obtain ⟨h1,h2⟩:=ha om;rw [if_neg om,h1,hs om];simp [Addr.add_mid,h2]
  have:=hm (l+i) j om hj;rw [<- this,alq];congr 2;omega
theorem Xc {x y:Option Operand} (h:GH x y=true):x=y:=by
 unfold GH at h;split at h
 ·rw [adU h]
 cases h
variable {mx:Option Operand}
theorem ai7 (h:(!mx.isSome)=true):mx=none:=by
 cases mx with
 | none=>rfl
 | some _=>cases h
variable {hi:Option Operand}
theorem alS {k:Pg} (hhi:∀y,hi=some y->fB w I O D (ρ y) (a.eval y)) (hmx:∀y,mx=some y->fB w I O D (ρ y) (a.eval y)) (h:gq Sp H (ajX ρ hi mx k) v ups r):(∃r',gq Sp H k v ups r')∧(mx.isSome=true->mx.map a.eval=hi.map a.eval):=by
 unfold ajX at h;cases mx with
 | none=>exact ⟨⟨_,h⟩,nofun⟩
 | some m=>
  cases hi with
  | none=>exact (gq.bM h).elim
  | some y=>
   simp only at h;have h1:=hhi y rfl;have h2:=hmx m rfl;split at h
   ·rename_i kk a1 kk' b1 e1 e2;obtain ⟨hk,h⟩:=h.dF;obtain ⟨he,h⟩:=h.yE;refine ⟨⟨_,h⟩,λ _=>?_⟩;rw [e1] at h1;rw [e2] at h2;have hk:kk=kk':=of_decide_eq_true hk;simp only [ap9];rw [h1.jg,h2.jg,hk,he]
   exact (gq.bM h).elim
theorem alT (n:Nat):(Instr.sliceBounds false n n none none none).run P w=.ok (0,n,n) w:=by simp [Instr.sliceBounds]
theorem alU (n:Nat) (k:IntKind) (h:Int) (h0:0<=h) (h1:h<=n):(Instr.sliceBounds false n n none (some (.int k h)) none).run P w=.ok (0,h.toNat,n) w:=by
 simp [Instr.sliceBounds,Instr.sliceBound,asIntOf,h0,h1]
variable {x:Operand} {lo:Option Operand}
theorem aj4 (hc:iL P cfg) (hR:Rel cfg cx H D w I O) (ho:o.op=.slice t x lo hi mx) (hx:fB w I O D (ρ x) (a.eval x)) (hhi:∀y,hi=some y->fB w I O D (ρ y) (a.eval y)) {n et:Nat} (harr:alF cfg t=some (n,et))
  (h:gq Sp H (WS cfg et λ ei=>gL mx.isNone (match ρ x with
    | .ptr o i off=>.rd o λ
     | .row es n' _=>gL (isZ i&&isZ off) (gL (Nat.beq es ei.size) (gL (Nat.beq n' n) (alI o n (lo.map ρ) (hi.map ρ))))
     | _=>.fail
    | _=>.fail)) v ups r):fT P cfg cx H D w I O eY o a v ups:=by
 obtain ⟨hu,_⟩:=acU hc harr;obtain ⟨ei,hei,h1⟩:=h.l8;obtain ⟨hmx,h2⟩:=h1.dF;have hmx:mx=none:=by cases mx with | none=>rfl | some _=>cases hmx
 subst hmx;split at h2
 ·rename_i ob j off e1;rw [e1] at hx;obtain ⟨obj,_,rY,h3⟩:=h2.rQ;obtain ⟨p,hp,hO⟩:=hR.live rY;obtain ⟨b,bo,sz,hpl,hjn,hxv⟩:=hx.qg hp;cases obj with
  | map=>exact (gq.bM h3).elim
  | box cs=>exact (gq.bM h3).elim
  | row es n' g=>
   obtain ⟨c1,h4⟩:=h3.dF;obtain ⟨c2,h5⟩:=h4.dF;obtain ⟨c3,h6⟩:=h5.dF;obtain ⟨rfl,rfl⟩:=Z0 c1;have c2:es=ei.size:=adU c2;have c3:n'=n:=adU c3;subst c3;have aaC:p.es=es:=hO.2.1;have hpn:p.n=n':=hO.1;have hsz:bo+n'*es<=sz:=by
    obtain ⟨_,_,_,hq | ⟨b',pO,sz',hpl',_,hle,_⟩⟩:=hO
    ·rw [hpl] at hq; cases hq.2
    rw [hpl] at hpl'; cases hpl'; exact hle
   obtain ⟨i,_,z,ao1,_,hz,hs,_⟩:=(hc.ty et ei hei).ex;simp only [asO,aqp] at hxv;have fin:∀(k:Nat) (full:Bool),k<=n'->(full=true->n'=k)->fB w I O D (.dR ob 0 k full) (.slice (some ⟨b,bo,none⟩) k n'):=λ k full hk hf=>
    .dR hp om hk hf (λ _=>⟨b,bo,sz,hpl,by simp,by rw [aaC,ahi]; exact hsz⟩) om
   unfold alI at h6;split at h6
   ·rename_i e2 e3;obtain ⟨rfl,rfl⟩:=h6.fO;have hlo:lo=none:=by cases lo with | none=>rfl | some _=>cases e2
    have avd:hi=none:=by cases hi with | none=>rfl | some _=>cases e3
    subst hlo;subst avd;refine fT.fE (x:=.slice (some ⟨b,bo,none⟩) n' n') hR ?_ (fin n' true (afg _) (λ _=>rfl));have e0:(⟨b,bo,none⟩:Addr).add 0=⟨b,bo,none⟩:=by rw [Addr.add_mid]; rfl
    by_cases hz0:n'=0
    ·simp [execOp,ho,hxv,Instr.sliceAt,Instr.sureAddr,dK hu,alT,gJ ao1,hz0]
    simp [execOp,ho,hxv,Instr.sliceAt,Instr.sureAddr,dK hu,alT,gJ ao1,hz0,e0]
   ·rename_i k hh e2 e3;obtain ⟨⟨q0,q1⟩,rfl,rfl⟩:=h6.jl;have hlo:lo=none:=by cases lo with | none=>rfl | some _=>cases e2
    subst hlo;obtain ⟨y,hy,ey⟩:∃y,hi=some y∧ρ y=.int k hh:=by
     cases hi with
     | none=>cases e3
     | some y=>exact ⟨y,rfl,by simpa using e3⟩
    subst hy;have hyv:=hhi y rfl;rw [ey] at hyv;have hyv:=hyv.jg;refine fT.fE (x:=.slice (some ⟨b,bo,none⟩) hh.toNat n') hR ?_ (fin hh.toNat false om (λ h=>by cases h));by_cases hz0:n'=0
    ·have hb0:=alU (P:=P) (w:=w) n' k hh q0 q1;have ht0:hh.toNat=0:=by omega
     rw [ht0] at hb0 ⊢;rw [hz0] at hb0 hu ⊢;simp [execOp,ho,hxv,hyv,Instr.sliceAt,Instr.sureAddr,dK hu,hb0,gJ ao1]
    simp [execOp,ho,hxv,hyv,Instr.sliceAt,Instr.sureAddr,dK hu,alU n' k hh q0 q1,gJ ao1,hz0,(show (⟨b,bo,none⟩:Addr).add 0=⟨b,bo,none⟩ by rw [Addr.add_mid]; rfl)]
   exact (gq.bM h6).elim
 exact (gq.bM h2).elim
theorem aj5 (hc:iL P cfg) (hR:Rel cfg cx H D w I O) (ho:o.op=.slice t x lo hi mx) {ob i n:Nat} {f:Bool} (hx:fB w I O D (.dR ob i n f) (a.eval x))
  (hlo:∀y,lo=some y->fB w I O D (ρ y) (a.eval y)) (hhi:∀y,hi=some y->fB w I O D (ρ y) (a.eval y)) (hmx:∀y,mx=some y->fB w I O D (ρ y) (a.eval y))
  (h:gq Sp H (LZ cfg t λ ti=>.rd ob λ
    | .row es N _=>gL (Nat.beq es ti.size) (alv ob i n N f (lo.map ρ) (hi.map ρ) (mx.map ρ))
    | _=>.fail) v ups r):fT P cfg cx H D w I O eY o a v ups:=by
 obtain ⟨tt,e,ti,h1,h2,h3,h4⟩:=h.yF;obtain ⟨hu,ii,z,hi',hz,hs,hby,hzs⟩:=hc.slice h1 h2 h3;obtain ⟨obj,_,rY,h5⟩:=h4.rQ;obtain ⟨p,hp,hO⟩:=hR.live rY;cases obj with
 | map=>exact (gq.bM h5).elim
 | box cs=>exact (gq.bM h5).elim
 | row es N g=>
  obtain ⟨c1,h6⟩:=h5.dF;have c1:es=ti.size:=adU c1;have aaC:p.es=es:=hO.2.1;have hpn:p.n=N:=hO.1;obtain ⟨aa,cap,hxv,a1,a2,a3,a4⟩:=hx.qh hp;have hext:p.n<=i+cap:=(hxv ▸ hx).GI hp;have arg:∀(q:Option Operand) (k:IntKind) (m:Int),(∀y,q=some y->fB w I O D (ρ y) (a.eval y))->q.map ρ=some (.int k m)->q.map a.eval=some (.int k m):=by
   intro q k m hq hm;cases q with
   | none=>cases hm
   | some y=>
    have:=hq y rfl;simp only [ap9,azf] at hm ⊢;rw [hm] at this;exact this.jg
  have non:∀(q:Option Operand),q.map ρ=none->q=none:=λ q hq=>by cases q with | none=>rfl | some _=>cases hq
  have part:∀l hh yG,l<=hh->i+hh<=N->(yG=true->f=true∧hh=n)->fB w I O D (.dR ob (i+l) (hh - l) yG) (.slice (if cap=l then aa else aa.map (·.add (l*ii.size))) (hh - l) (cap - l)):=by
   intro l hh yG q1 q2 q3;have hhc:hh<=cap:=by omega
   refine .dR hp om om (λ hf=>?_) (λ hne=>?_) om
   ·obtain ⟨e1,e2⟩:=q3 hf;have:=a3 e1;omega
   obtain ⟨b,bo,sz,e1,e2,e3⟩:=a4 om;refine ⟨b,bo,sz,e1,?_,?_⟩
   ·rw [if_neg om,e2];simp only [ap9,Addr.add_mid,azf];rw [aaC,hs,<- c1,alq];congr 1;omega
   have:i+l+(cap - l)=i+cap:=by omega
   rw [this];exact e3
  have run:∀(l hh m:Nat),(Instr.sliceBounds true n cap (lo.map a.eval) (hi.map a.eval) (mx.map a.eval)).run P w=.ok (l,hh,m) w->(execOp a.eval o).run P w=.ok (.value (.slice (if m=l then aa else aa.map (·.add (l*ii.size))) (hh - l) (m - l))) w:=by
   intro l hh m hb;have:=SE (P:=P) hu hi' aa n cap _ _ _ l hh m hb;simp only [execOp,ho,hxv,this,Sem.run_bind,Sem.run_pure,Result.andThen_ok]
  unfold alv at h6;split at h6
  ·rename_i k m em;have hm:=arg mx k m hmx em;split at h6
   ·rename_i k1 l k2 hh el eh;obtain ⟨⟨q1,q2,q3,q4⟩,rfl,rfl⟩:=h6.jl;have hl:=arg lo k1 l hlo el;have hh':=arg hi k2 hh hhi eh;refine fT.fE hR (run l.toNat hh.toNat m.toNat ?_) (.pure (.undef _));rw [hl,hh',hm];obtain ⟨l',rfl⟩:=ahq q1;obtain ⟨h',rfl⟩:=ahq (show 0<=hh by omega);obtain ⟨m',rfl⟩:=ahq (show 0<=m by omega);have z1:(m':Int)<=(cap:Int):=by omega
    have z2:(h':Int)<=(m':Int):=q3;have z3:(l':Int)<=(h':Int):=q2;have z4:(0:Int)<=(m':Int):=by omega
    have z5:(0:Int)<=(h':Int):=by omega
    have z6:(0:Int)<=(l':Int):=by omega
    have b1:∀(k:IntKind) (x y:Nat) (cd:BoundsCode),(x:Int)<=(y:Int)->(Instr.sliceBound (.int k x) y cd).run P w=.ok x w:=λ k x y cd hxy=>by
     have hx0:(0:Int)<=(x:Int):=by omega
     simp only [Instr.sliceBound,asIntOf,Sem.run_bind,Sem.run_pure,Result.andThen_ok];rw [if_pos ⟨hx0,hxy⟩];simp
    simp only [Instr.sliceBounds,Sem.run_bind,b1 _ _ _ _ z1,b1 _ _ _ _ z2,b1 _ _ _ _ z3,Result.andThen_ok,Sem.run_pure,ahg]
   ·rename_i k2 hh el eh;obtain ⟨⟨q1,q2,q3⟩,rfl,rfl⟩:=h6.jl;have hl:=non lo el;subst hl;have hh':=arg hi k2 hh hhi eh;have em0:m=0:=by omega
    have eh0:hh=0:=by omega
    subst em0;subst eh0;refine fT.fE (x:=.slice aa 0 0) hR ?_ (.pure (.sl 0 0 (λ _ _=>Go.undef) (alh _) (λ _=>rfl) (λ h=>absurd rfl h) (λ _ h=>absurd h (ahh _)) (λ _ _ h=>absurd h (ahh _)) (λ _ _ h=>absurd h (ahh _)) (λ _ _ h=>absurd h (ahh _))));have b1:∀(k:IntKind) (y:Nat) (cd:BoundsCode),(Instr.sliceBound (.int k 0) y cd).run P w=.ok 0 w:=λ k y cd=>by
     have hx0:(0:Int)<=(0:Int):=by omega
     have hxy:(0:Int)<=(y:Int):=by omega
     simp only [Instr.sliceBound,asIntOf,Sem.run_bind,Sem.run_pure,Result.andThen_ok];rw [if_pos ⟨hx0,hxy⟩];simp
    have:=run 0 0 0 (by
     rw [hh',hm]
     simp [Instr.sliceBounds,b1])
    simpa using this
   exact (gq.bM h6).elim
  ·exact (gq.bM h6).elim
  rename_i em;have hm:=non mx em;subst hm;split at h6
  ·rename_i el eh;obtain ⟨rfl,rfl⟩:=h6.fO;have:=non lo el;subst this;have:=non hi eh;subst this;refine fT.fE hR (run 0 n cap (atm n cap)) ?_;have hh:(.slice (if cap=0 then aa else aa.map (·.add (0*ii.size))) (n - 0) (cap - 0):Value)=.slice aa n cap:=by
    by_cases hz:cap=0
    ·simp [hz]
    obtain ⟨b,bo,sz,_,e2,_⟩:=a4 hz;rw [if_neg hz,e2];simp [Addr.add_mid]
   rw [hh,<- hxv];exact hx
  ·rename_i k hh el eh;obtain ⟨⟨q1,q2⟩,rfl,rfl⟩:=h6.jl;have:=non lo el;subst this;have hh':=arg hi k hh hhi eh;refine fT.fE hR (run 0 hh.toNat cap (by rw [hh']; exact atn n cap k hh q1 om)) ?_;have:=part 0 hh.toNat false (alh _) om (λ h=>by cases h);simpa using this
  ·rename_i k l el eh;obtain ⟨⟨q1,q2⟩,rfl,rfl⟩:=h6.jl;have:=non hi eh;subst this;have hl:=arg lo k l hlo el;exact fT.fE hR (run l.toNat n cap (by rw [hl]; exact atp n cap k l q1 q2)) (part l.toNat n f om om (λ h=>⟨h,rfl⟩))
  ·rename_i k l k2 hh el eh;obtain ⟨⟨q1,q2,q3⟩,rfl,rfl⟩:=h6.jl;have hl:=arg lo k l hlo el;have hh':=arg hi k2 hh hhi eh;exact fT.fE hR (run l.toNat hh.toNat cap (by rw [hl,hh']; exact atq n cap k k2 l hh q1 q2 om)) (part l.toNat hh.toNat false om om (λ h=>by cases h))
  exact (gq.bM h6).elim
theorem alV (hc:iL P cfg) (hR:Rel cfg cx H D w I O) (ho:o.op=.slice t x lo hi mx) (hx:fB w I O D (ρ x) (a.eval x))
  (hlo:∀y,lo=some y->fB w I O D (ρ y) (a.eval y)) (hhi:∀y,hi=some y->fB w I O D (ρ y) (a.eval y)) (hmx:∀y,mx=some y->fB w I O D (ρ y) (a.eval y))
  (h:gq Sp H (iC cfg eY (.slice t x lo hi mx) ρ) v ups r):fT P cfg cx H D w I O eY o a v ups:=by
 simp only [iC] at h;split at h
 ·rename_i n et harr;exact aj4 hc hR ho hx hhi harr h
 split at h
 ·rename_i e1;exact aj5 hc hR ho (e1 ▸ hx) hlo hhi hmx h
 rename_i hno;obtain ⟨⟨r0,h0⟩,hmax⟩:=alS hhi hmx h;clear h;obtain ⟨tt,e,ti,h1,h2,h3,h4⟩:=h0.yF;obtain ⟨hu,i,z,hi',hz,hs,hby,hzs⟩:=hc.slice h1 h2 h3;clear h0;obtain ⟨aa,n,cap,xa,hxv,aqr,part,h5⟩:∃aa n cap xa,a.eval x=.slice aa n cap∧n<=cap∧(∀(v:AV),xa=v->
   (∀es full g,xa=.sl es n full g->(full=true->cap=n)∧∀l h m yG,l<=h->h<=n->h<=m->m<=cap->(yG=true->m=h)->fB w I O D (.sl es (h - l) yG (λ j=>g (l+j))) (.slice (if m=l then aa else aa.map (·.add (l*i.size))) (h - l) (m - l)))∧
   (∀ob j n' full,xa≠.dR ob j n' full)∧
   (∀es n' full g,xa=.sl es n' full g->n'=n))∧∃r',gq Sp H (ZR xa (lo.map ρ) (hi.map ρ) mx.isSome mx.isSome) v ups r':=by
  split at h4
  ·rename_i es n f g ex
   rw [ex] at hx
   obtain ⟨hes,h5⟩:=h4.dF
   generalize hxv:a.eval x=xv at hx
   have hp:=hx.Iy
   cases hp with
   | @sl _ _ _ _ aa cap b off vs hcap hfull ha hes' hm h11 hr=>
    refine ⟨aa,n,cap,.sl es n f g,rfl,hcap,λ v _=>⟨λ es' yG g' e=>?_,λ _ _ _ _ e=>(by cases e),λ _ _ _ _ e=>(by cases e; rfl)⟩,_,h5⟩
    cases e
    exact ⟨hfull,λ l h m yG q1 q2 q3 q4 q5=>.pure (ahx (iP.sl b off vs hcap hfull ha hes' hm h11 hr) q1 q2 q3 q4 q5 (λ hn=>by rw [hs]; exact Jp hes hn))⟩
  ·rename_i ob j n f ex
   exact (hno _ _ _ _ ex).elim
  exact (gq.bM h4).elim
 obtain ⟨r',h5⟩:=h5;clear h4 hx;obtain ⟨psl,ao2,alW⟩:=part xa rfl;have done:∀ {l h m:Nat} {x':Value},(Instr.sliceBounds true n cap (lo.map a.eval) (hi.map a.eval) (mx.map a.eval)).run P w=.ok (l,h,m) w->x'=.slice (if m=l then aa else aa.map (·.add (l*i.size))) (h - l) (m - l)->ups=[]->fB w I O D v x'->fT P cfg cx H D w I O eY o a v ups:=by
  intro l h m x' hb hx' hu0 hv;subst hu0;refine fT.fE (x:=x') hR ?_ hv;rw [hx'];simp [execOp,ho,hxv,SE hu hi' aa n cap _ _ _ l h m hb]
 unfold ZR at h5;split at h5
 ·rename_i e1 e2;obtain ⟨hm,h6⟩:=h5.dF;have hmx:mx=none:=ai7 hm;have e1':lo=none:=by simpa using e1
  have e2':hi=none:=by simpa using e2
  subst hmx; subst e1'; subst e2';split at h6
  ·obtain ⟨rfl,rfl⟩:=h6.fO;have e:=alW _ _ _ _ rfl;subst e;obtain ⟨q1,q2⟩:=psl _ _ _ rfl;exact done (atm _ _) rfl rfl (by simpa using q2 0 _ cap _ (alh _) (afg _) aqr (afg _) q1)
  ·exact absurd rfl (ao2 _ _ _ _)
  exact (gq.bM h6).elim
 ·rename_i k hh e1 e2;obtain ⟨hm,h6⟩:=h5.dF;have e1':lo=none:=by simpa using e1
  obtain ⟨y,e2',e3⟩:∃y,hi=some y∧ρ y=.int k hh:=au1.1 e2;have hy:a.eval y=.int k hh:=(e3 ▸ hhi y e2').jg;subst e1';have go:∀yG,yG=mx.isSome->0<=hh->hh<=n->(∀m,hh.toNat<=m->m<=cap->(yG=true->m=hh.toNat)->fB w I O D v (.slice (if m=0 then aa else aa.map (·.add (0*i.size))) (hh.toNat - 0) (m - 0)))->ups=[]->fT P cfg cx H D w I O eY o a v ups:=by
   intro yG hfe q1 q2 q3 q4;cases hf:mx.isSome with
   | true=>
    exact done (l:=0) (h:=hh.toNat) (m:=hh.toNat) (by rw [hmax hf]; simp only [e2',ap9,ayN,hy]; exact ato _ _ _ _ q1 om) rfl q4 (q3 _ (afg _) om (λ _=>rfl))
   | false=>
    have hmx:mx=none:=ai7 (by rw [hf]; rfl);subst hmx;exact done (l:=0) (h:=hh.toNat) (m:=cap) (by simp only [e2',ap9,ayN,hy]; exact atn _ _ _ _ q1 om) rfl q4 (q3 _ om (afg _) (λ e=>by rw [hfe,hf] at e; cases e))
  split at h6
  ·split at h6
   ·rename_i hzf;obtain ⟨⟨q1,q2⟩,rfl,rfl⟩:=h6.jl;have e:=alW _ _ _ _ rfl;subst e;have hh0:hh=0:=by omega
    subst hh0;unfold zf at hzf;split at hzf
    ·split at hzf
     ·obtain ⟨q3,q4⟩:=psl _ _ _ rfl;have hc0:=q3 rfl;exact go _ rfl om om (λ m hm1 hm2 hm3=>by simpa using q4 0 0 m true (afg _) om (alh _) hm2 (λ _=>by omega)) rfl
     cases hzf
    cases hzf
   obtain ⟨⟨q1,q2⟩,rfl,rfl⟩:=h6.jl;have e:=alW _ _ _ _ rfl;subst e;obtain ⟨q3,q4⟩:=psl _ _ _ rfl;exact go _ rfl q1 q2 (λ m hm1 hm2 hm3=>by simpa using q4 0 hh.toNat m _ (alh _) om hm1 hm2 hm3) rfl
  ·exact absurd rfl (ao2 _ _ _ _)
  exact (gq.bM h6).elim
 ·rename_i k l e1 e2;obtain ⟨hm,h6⟩:=h5.dF;have hmx:mx=none:=ai7 hm;have e2':hi=none:=by simpa using e2
  obtain ⟨y,e1',e3⟩:∃y,lo=some y∧ρ y=.int k l:=au1.1 e1;have hy:a.eval y=.int k l:=(e3 ▸ hlo y e1').jg;subst hmx; subst e2';split at h6
  ·obtain ⟨⟨q1,q2⟩,rfl,rfl⟩:=h6.jl;have e:=alW _ _ _ _ rfl;subst e;obtain ⟨q3,q4⟩:=psl _ _ _ rfl;exact done (by simp only [e1',ap9,ayN,hy]; exact atp _ _ _ _ q1 q2) rfl rfl (q4 l.toNat _ cap _ om (afg _) aqr (afg _) q3)
  ·exact absurd rfl (ao2 _ _ _ _)
  exact (gq.bM h6).elim
 ·rename_i k l k' hh e1 e2;obtain ⟨hm,h6⟩:=h5.dF;obtain ⟨y,e1',e3⟩:∃y,lo=some y∧ρ y=.int k l:=au1.1 e1;obtain ⟨y',e2',e3'⟩:∃y,hi=some y∧ρ y=.int k' hh:=au1.1 e2;have hy:a.eval y=.int k l:=(e3 ▸ hlo y e1').jg;have hy':a.eval y'=.int k' hh:=(e3' ▸ hhi y' e2').jg;have go:∀yG,yG=mx.isSome->0<=l->l<=hh->hh<=n->(∀m,hh.toNat<=m->m<=cap->(yG=true->m=hh.toNat)->fB w I O D v (.slice (if m=l.toNat then aa else aa.map (·.add (l.toNat*i.size))) (hh.toNat - l.toNat) (m - l.toNat)))->ups=[]->fT P cfg cx H D w I O eY o a v ups:=by
   intro yG hfe q0 q1 q2 q3 q4;cases hf:mx.isSome with
   | true=>
    exact done (l:=l.toNat) (h:=hh.toNat) (m:=hh.toNat) (by rw [hmax hf]; simp only [e1',e2',ap9,hy,hy']; exact atr _ _ _ _ _ _ q0 q1 om) rfl q4 (q3 _ (afg _) om (λ _=>rfl))
   | false=>
    have hmx:mx=none:=ai7 (by rw [hf]; rfl);subst hmx;exact done (l:=l.toNat) (h:=hh.toNat) (m:=cap) (by simp only [e1',e2',ap9,ayN,hy,hy']; exact atq _ _ _ _ _ _ q0 q1 om) rfl q4 (q3 _ om (afg _) (λ e=>by rw [hfe,hf] at e; cases e))
  split at h6
  ·obtain ⟨⟨q0,q1,q2⟩,rfl,rfl⟩:=h6.jl;have e:=alW _ _ _ _ rfl;subst e;obtain ⟨q3,q4⟩:=psl _ _ _ rfl;exact go _ rfl q0 q1 q2 (λ m hm1 hm2 hm3=>q4 l.toNat hh.toNat m _ om om hm1 hm2 hm3) rfl
  ·exact absurd rfl (ao2 _ _ _ _)
  exact (gq.bM h6).elim
 exact (gq.bM h5).elim
end
end Go.Ab
namespace Go.Ab
section
variable {P:Program} {cfg:yx} {cx:Ctx} {H:Nat->Option eP} {D:Nat->Prop} {w:World} {I:Nat->Prop} {O:OM} {Sp:pQ}
variable {eY:Nat} {o:Oper} {a:Act} {ρ:Operand->AV} {v:AV} {ups:lD} {r:azt}
def Gl (O:OM) (ids:azt) (b:Nat):Prop:=∃o p bo sz,o∈ids∧O o=some p∧p.pl=some (b,bo,sz)
def kill (O:OM) (ids:azt):OM:=λ o=>if o∈ids then none else O o
theorem acV (ids:azt) (o:Nat):look (dead ids) o=if o∈ids then some none else none:=by
 induction ids with
 | nil=>simp [dead,look]
 | cons a l ih=>
  simp only [dead,look,ih];cases h:Nat.beq a o with
  | true=>have:=adU h; subst this; simp
  | false=>
   have:o≠a:=λ e=>by subst e; simp at h
   simp [this]
theorem Ra (ids:azt) (o:Nat):nH H (dead ids) o=if o∈ids then none else H o:=by
 unfold nH;rw [acV];by_cases h:o∈ids<;>simp [h]
theorem Rel.freeze (hR:Rel cfg cx H D w I O) (ids:azt):Rel cfg cx (nH H (dead ids)) D w (λ b=>I b∨Gl O ids b) (kill O ids) where
 dom:=λ o=>by
  rw [Ra]; unfold kill;by_cases h:o∈ids<;>simp [h,hR.dom o]
 used:=λ o p h=>by
  unfold kill at h;by_cases h':o∈ids<;>simp [h'] at h;exact hR.used o p h
 objs:=λ o ob p h h'=>by
  rw [Ra] at h; unfold kill at h';by_cases h0:o∈ids<;>simp [h0] at h h';exact (hR.objs o ob p h h').mono (λ _ h=>.inl h) (λ _ _=>rfl) (λ o _=>by unfold kill; by_cases h0:o∈ids<;>simp [h0]) (λ _ h=>h) hR.used (λ _ _ _ _=>rfl)
 inj:=λ o o' p p' b bo sz b' pO sz' h1 h2 h3 h4 h5=>by
  unfold kill at h1 h2;by_cases h0:o∈ids<;>simp [h0] at h1;by_cases h0':o'∈ids<;>simp [h0'] at h2;exact hR.inj o o' p p' b bo sz b' pO sz' h1 h2 h3 h4 h5
 qO:=λ o p b bo sz h1 h2 h3=>by
  unfold kill at h1;by_cases h0:o∈ids<;>simp [h0] at h1;rcases h3 with h3 | ⟨o',p',pO,sz',h4,h5,h6⟩
  ·exact hR.qO o p b bo sz h1 h2 h3
  exact hR.inj o o' p p' b bo sz b pO sz' h1 h5 h2 h6 (λ e=>h0 (e ▸ h4)) rfl
 lt:=λ o p b bo sz h1 h2=>by
  unfold kill at h1;by_cases h0:o∈ids<;>simp [h0] at h1;exact hR.lt o p b bo sz h1 h2
 CV:=λ b h=>by
  rcases h with h | ⟨o',p',pO,sz',h4,h5,h6⟩
  ·exact hR.CV b h
  exact hR.lt o' p' b pO sz' h5 h6
 size:=hR.size
 frame:=hR.frame
 env:=hR.env
 new:=λ o p b bo sz h1 h2=>by
  unfold kill at h1;by_cases h0:o∈ids<;>simp [h0] at h1;exact hR.new o p b bo sz h1 h2
 glob:=λ g cs h=>(hR.glob g cs h).mono (λ _ h=>.inl h) (λ _ _=>rfl)
 UY:=λ b h=>.inl (hR.UY b h)
 W9:=λ b h=>by
  rcases h with h | ⟨o',p',pO,sz',h4,h5,h6⟩
  ·exact hR.W9 b h
  exact .inr (hR.new o' p' b pO sz' h5 h6)
 ZY:=λ o h=>by
  unfold kill;by_cases h0:o∈ids
  ·simp [h0]
  simpa [h0] using hR.ZY o h
 Dm:=hR.Dm
theorem fB.kill (hR:Rel cfg cx H D w I O) (ids:azt) {v:AV} {x:Value} (h:fB w I O D v x):fB w (λ b=>I b∨Gl O ids b) (kill O ids) D v x:=
 h.mono (λ _ h=>.inl h) (λ _ _=>rfl) (λ o _=>by unfold Ab.kill; by_cases h0:o∈ids<;>simp [h0]) (λ _ h=>h) hR.used
theorem Gl.ahy {ids ao3:azt} {b:Nat} (h:Gl O ids b):Gl O (ids++ao3) b:=by
 obtain ⟨o,p,bo,sz,h1,h2,h3⟩:=h;exact ⟨o,p,bo,sz,atu _ h1,h2,h3⟩
theorem Gl.ahz {ids ao3:azt} {b:Nat} (h:Gl O ao3 b):Gl O (ids++ao3) b:=by
 obtain ⟨o,p,bo,sz,h1,h2,h3⟩:=h;exact ⟨o,p,bo,sz,au4 _ h1,h2,h3⟩
theorem EH (i j:Nat) (g:Nat->AV):rP i g j=g (i+j):=by cases i<;>simp [rP]
theorem Jq (hR:Rel cfg cx H D w I O):∀f:Nat,
  (∀(v:AV) (k:AV->azt->Pg) (v':AV) (ups:lD) (r:azt),gq Sp H (pur f v k) v' ups r->∃u ids r',gq Sp H (k u ids) v' ups r'∧
    ∀x,fB w I O D v x->iP w (λ b=>I b∨Gl O ids b) u x)∧
  (∀(l:azx) (k:azx->azt->Pg) (v':AV) (ups:lD) (r:azt),gq Sp H (pur.ahm f l k) v' ups r->∃l' ids r',gq Sp H (k l' ids) v' ups r'∧l'.length=l.length∧
    ∀j,j<l.length->∀x,fB w I O D (nth l j) x->iP w (λ b=>I b∨Gl O ids b) (nth l' j) x):=by
 intro f;induction f with
 | zero=>exact ⟨λ v k v' ups r h=>(gq.bM h).elim,λ l k v' ups r h=>(gq.bM h).elim⟩
 | succ f ih=>
  obtain ⟨ih1,ih2⟩:=ih;refine ⟨λ v k v' ups r h=>?_,λ l k v' ups r h=>?_⟩
  ·cases v with
   | dR ob i n full=>
    simp only [pur] at h;obtain ⟨obj,r',rY,h1⟩:=h.rQ;obtain ⟨p,hp,hO⟩:=hR.live rY;cases obj with
    | map=>exact (gq.bM h1).elim
    | box cs=>exact (gq.bM h1).elim
    | row es m g=>
     refine ⟨_,[ob],r',h1,λ x hx=>?_⟩;obtain ⟨aa,cap,rfl,h2,h3,h4,h5⟩:=hx.qh hp;obtain ⟨hn,hes,hlen,h6⟩:=hO;by_cases hn0:n=0
     ·subst hn0;exact .sl 0 0 (λ _ _=>Go.undef) h3 h4 (λ e=>absurd rfl e) (λ i hi=>absurd hi om) (λ i j hi=>absurd hi om) (λ i j hi=>absurd hi om) (λ i j hi=>absurd hi om)
     obtain ⟨b,bo,sz,h7,rfl,h8⟩:=h5 om;rcases h6 with ⟨_,h6⟩ | ⟨b',pO,sz',h6,hal,hle,hcs⟩
     ·rw [h7] at h6; cases h6
     rw [h7] at h6;cases h6;subst hn;have hmul:∀k,k<n->(i+k+1)*es<=p.n*es:=λ k hk=>afh _ om;refine .sl b (bo+i*p.es) (λ k j=>cellAt w b (bo+((i+k)*es+j))) h3 h4 (λ _=>⟨rfl,.inr ⟨ob,p,bo,sz,by simp,hp,h7⟩⟩) (λ k hk=>by rw [EH]; exact hlen _ om) (λ k j hk hj=>?_) (λ k j hk hj=>(hcs (i+k) j om hj).2) (λ k j hk hj=>?_)
     ·have e:bo+i*p.es+(k*es+j)=bo+((i+k)*es+j):=by rw [hes,alq]; omega
      rw [e];refine xw hal.al ?_;have:=hmul k hk;rw [alo] at this;omega
     rw [EH];exact (hcs (i+k) j om hj).1.mono (λ _ h=>.inl h) (λ _ _=>rfl)
   | ptr ob i off=>
    cases i with
    | succ i=>simp only [pur] at h; exact (gq.bM h).elim
    | zero=>
     simp only [pur] at h;obtain ⟨obj,r',rY,h1⟩:=h.rQ;obtain ⟨p,hp,hO⟩:=hR.live rY;cases obj with
     | map=>exact (gq.bM h1).elim
     | row es m g=>exact (gq.bM h1).elim
     | box cs=>
      obtain ⟨l',ids,r'',h2,h3,h4⟩:=ih2 _ _ _ _ _ h1;refine ⟨_,_,r'',h2,λ x hx=>?_⟩;obtain ⟨b,bo,sz,h5,h6,rfl⟩:=hx.qg hp;obtain ⟨hn,b',pO,sz',h7,hal,hle,hcs⟩:=hO;rw [h5] at h7;cases h7;simp only [asO,ahi];refine .ro b (bo+off) (λ j=>cellAt w b (bo+(off+j))) (.inr ⟨ob,p,bo,sz,by simp,hp,h5⟩) (λ j hj=>?_) (λ j hj=>?_)
      ·rw [auk];refine xw hal ?_;rw [h3] at hj;simp at hj;omega
      rw [h3] at hj;refine (h4 j hj _ (by rw [Oq]; exact hcs (off+j) (by simp at hj; omega))).mono (λ b h=>?_) (λ _ _=>rfl);rcases h with h | ⟨o',p',pO,sz',q1,q2,q3⟩
      ·exact .inl h
      exact .inr ⟨o',p',pO,sz',akb _ q1,q2,q3⟩
   | agg cs=>
    simp only [pur] at h;obtain ⟨l',ids,r'',h2,h3,h4⟩:=ih2 _ _ _ _ _ h;refine ⟨_,_,r'',h2,λ x hx=>?_⟩;obtain ⟨vs,rfl,hl,hr⟩:=hx.vY;exact .agg om λ j hj=>h4 j om _ (hr j om)
   | jX cs=>
    simp only [pur] at h;obtain ⟨l',ids,r'',h2,h3,h4⟩:=ih2 _ _ _ _ _ h;refine ⟨_,_,r'',h2,λ x hx=>?_⟩;obtain ⟨vs,rfl,hl,hr⟩:=hx.KU;exact .jX om λ j hj=>h4 j om _ (hr j om)
   | fn g cs=>
    simp only [pur] at h;obtain ⟨l',ids,r'',h2,h3,h4⟩:=ih2 _ _ _ _ _ h;refine ⟨_,_,r'',h2,λ x hx=>?_⟩;obtain ⟨vs,rfl,hl,hr⟩:=hx.Oo;exact .fn om λ j hj=>h4 j om _ (hr j om)
   | mref ob=>
    simp only [pur] at h;obtain ⟨obj,r1,rY,h1⟩:=h.rQ;obtain ⟨p,hp,hO⟩:=hR.live rY;cases obj with
    | box=>exact (gq.bM h1).elim
    | row=>exact (gq.bM h1).elim
    | map kd z f=>
     obtain ⟨_,b,bo,sz,es,clock,hpl,hw,hm⟩:=hO;refine ⟨_,_,_,h1,λ x hx=>?_⟩;obtain ⟨b',pO,sz',hpl',rfl⟩:=hx.yD hp;rw [hpl] at hpl';cases hpl';exact .pm b es clock (.inr ⟨ob,p,bo,sz,by simp,hp,hpl⟩) hw hm
   | _=>
    refine ⟨_,[],r,h,λ x hx=>?_⟩;cases hx with | pure hx=>exact hx.mono (λ _ h=>.inl h) (λ _ _=>rfl)
  cases l with
  | nil=>exact ⟨[],[],r,h,rfl,λ j hj=>by cases hj⟩
  | cons v l=>
   simp only [pur.ahm] at h;obtain ⟨u,i1,r1,h1,h2⟩:=ih1 _ _ _ _ _ h;obtain ⟨l',i2,r2,h3,h4,h5⟩:=ih2 _ _ _ _ _ h1;refine ⟨u::l',i1++i2,r2,h3,by simp [h4],λ j hj x hx=>?_⟩;cases j with
   | zero=>exact (h2 x hx).mono (λ b h=>h.elim .inl λ h=>.inr h.ahy) (λ _ _=>rfl)
   | succ j=>exact (h5 j (by simpa using hj) x hx).mono (λ b h=>h.elim .inl λ h=>.inr h.ahz) (λ _ _=>rfl)
end
end Go.Ab

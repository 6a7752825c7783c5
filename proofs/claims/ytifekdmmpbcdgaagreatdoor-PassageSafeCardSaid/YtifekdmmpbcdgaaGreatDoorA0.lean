/- A part of the proof. -/
import Derived.Orders
import Derived.Laws.IdiomCopy
import Derived.Laws.Cells
import Derived.Laws.Sem
import Derived.Deep.MidRow
import Derived.Laws.StructEq
import Derived.ChangeKeysEq
import Derived.IntWalk
set_option linter.defProp false
set_option linter.unusedVariables false
set_option linter.unusedSimpArgs false
namespace Go.Ab
abbrev apU:=List Int
abbrev apV:=List Bool
abbrev ap0:=List Nat
abbrev ap6:=List ByteArray
def ad6:=@trivial
def ad7:=@List.getD_eq_getElem?_getD
def aeA:=@List.getElem?_eq_getElem
def aeK:=@Nat.eq_of_beq_eq_true
def aeP:=@Bool.and_eq_true
def aeU:=@List.length_append
def aeV:=@if_neg
def afc:=@if_pos
def afe:=@decide_eq_false
def afj:=@of_decide_eq_true
def afl:=@decide_eq_true
def afr:=@Bool.or_eq_false_iff
def afs:=@List.length_take
def afx:=@List.length_set
def afK:=@Nat.mul_le_mul_right
def afM:=@Nat.le_refl
def afT:=@List.length_singleton
def af3:=@Nat.le_trans
def agm:=@Nat.min_le_left
def ags:=@cond_false
def agt:=@List.take_length
def ag9:=@Nat.not_lt_zero
def ahd:=@List.mem_singleton
def ahk:=@Nat.le_of_ble_eq_true
def ahq:=@Nat.zero_add
def ahA:=@Bool.not_eq_true'
def ahD:=@Int.eq_ofNat_of_zero_le
def ahH:=@List.take_of_length_le
def ahL:=@List.mem_append
def ahO:=@Int.toNat_natCast
def ahP:=@List.length_cons
def ahQ:=@decide_eq_true_eq
def ahR:=@Classical.not_not
def ahS:=@Bool.not_eq_false'
def ahT:=@of_decide_eq_false
def ahU:=@Nat.zero_le
def ahV:=@List.mem_cons_of_mem
def ahW:=@List.length_map
def ahX:=@cond_true
def ahY:=@Array.getElem?_eq_getElem
def ahZ:=@List.mem_iff_getElem
def ah0:=@List.mem_cons
def ah1:=@Option.some.inj
def ah2:=@Nat.succ_mul
def aie:=@decide_eq_false_iff_not
def aio:=@List.mem_map
def aip:=@Nat.add_mul
def air:=@Int.le_refl
def aiG:=@Bool.or_eq_true
def aiI:=@Bool.and_eq_false_iff
def aiN:=@List.append_nil
def aiV:=@Array.getD_eq_getD_getElem?
def aiX:=@List.map_cons
def aiZ:=@Nat.lt_or_ge
def ai1:=@List.getElem_mem
def ai3:=@Option.isSome_iff_exists
def ai7:=@List.any_eq_true
def ai8:=@List.drop_length
def aja:=@List.any_eq_false
def ajA:=@Array.getElem?_eq_none
def ajD:=@Array.eq_empty_of_size_eq_zero
def ajE:=@List.length_nil
def ajJ:=@Int.le_trans
def ajK:=@List.mem_filter
def ajL:=@List.all_eq_true
def ajM:=@Nat.lt_of_lt_of_le
def ajN:=@List.mem_cons_self
def ajO:=@List.contains_iff_mem
def ajP:=@beq_eq_false_iff_ne
def ajQ:=@List.cons_append
def ajR:=@Array.getElem?_eq_some_iff
def ajS:=@Nat.le_mul_of_pos_right
def ajT:=@Nat.add_zero
def ajU:=@List.drop_eq_nil_of_le
def ajW:=@Option.map_some
def ajX:=@List.filter_cons
def ajY:=@List.length_drop
def ajZ:=@beq_iff_eq
def aj0:=@Bool.true_and
def aj1:=@Bool.not_true
def aj2:=@Nat.eq_zero_or_pos
def aj3:=@List.getElem?_set_self
def aj4:=@Bool.not_eq_true
def aj5:=@List.pairwise_iff_getElem
def aj6:=@Nat.mul_le_mul_left
def aj7:=@List.mem_range
def aj8:=@List.length_filter_le
def aj9:=@List.length_replicate
def akc:=@List.set_getElem_self
def akj:=@List.map_append
def ako:=@List.getElem?_append_right
def akp:=@List.any_cons
def aku:=@List.getElem?_append_left
def akC:=@Classical.byContradiction
def akD:=@Array.toList_inj
def akJ:=@Nat.zero_mul
def akN:=@Nat.mul_comm
def akP:=@Option.getD_some
def alT:=@Nat.pow_le_pow_right
def alU:=@List.length_eq_zero_iff
def alV:=@List.take_add_one
def alW:=@bne_eq_false_iff_eq
def alZ:=@Array.getElem?_append_left
def al4:=@Int.tdiv_eq_ediv_of_nonneg
def amb:=@Nat.div_add_mod'
def ano:=@congrArg
def anp:=@Bool.false_eq_true
def anq:=@List.nodup_nil
def anr:=@List.getElem?_eq_none
def anw:=@Int.ofNat_tdiv
def anx:=@List.mem_append_left
def anC:=@List.foldl_cons
def anF:=@Int.natCast_mul
def anG:=@Int.not_lt
def anH:=@Nat.gcd_pos_of_pos_right
def anI:=@Int.mul_le_mul_of_nonneg_right
def anJ:=@Nat.gcd_dvd_right
def anK:=@List.length_reverse
def anN:=@Nat.gcd_dvd_left
def anO:=@List.mem_flatMap
def anP:=@List.countP_append
def anQ:=@Nat.div_lt_iff_lt_mul
def anR:=@Int.tmod_nonneg
def anS:=@Nat.add_assoc
def anT:=@Int.tmod_eq_emod_of_nonneg
def anU:=@Bool.false_or
def anV:=@Array.size_append
def anW:=@List.getElem?_map
def anX:=@Nat.lt_trichotomy
def anY:=@List.getElem?_set
def anZ:=@Nat.mod_lt
def an0:=@Array.getElem_toList
def an1:=@List.getElem?_set_ne
def aoc:=@Int.mul_nonneg
def aod:=@List.ext_getElem
def aog:=@List.set_set
def aoh:=@List.flatMap_append
def aoi:=@List.filter_eq_self
def aoj:=@List.getElem?_replicate
def aok:=@Nat.min_eq_left
def aol:=@Nat.lt_or_gt_of_ne
def aom:=@List.nodup_cons
def aoo:=@Array.getElem?_push_lt
def aop:=@Option.map_eq_some_iff
def aoq:=@List.take_append_of_le_length
def aor:=@List.pairwise_map
def aos:=@Bool.not_eq_false
def aot:=@List.append_assoc
def aou:=@List.mem_append_right
def aov:=@Array.getElem?_modify
def aow:=@Nat.sub_self
def aox:=@Bool.or_true
def aoy:=@Array.getElem?_append_right
def aoz:=@Nat.div_lt_of_lt_mul
def aoA:=@List.mem_of_mem_take
def aoB:=@Bool.and_true
def aoC:=@Bool.or_false
def aoD:=@Nat.le_of_dvd
def aoE:=@List.length_eraseIdx_of_lt
def aoF:=@Nat.mul_one
def aoG:=@Nat.one_mul
def aoH:=@Array.length_toList
def aoI:=@Array.toList_append
def aoJ:=@List.reverse_append
def aoK:=@Nat.mul_div_cancel'
def aoM:=@List.filter_sublist
def aoN:=@List.drop_eq_getElem_cons
def aoQ:=@List.any_append
def aoR:=@Nat.div_le_self
def aoS:=@Bool.eq_iff_iff
def aoT:=@List.map_nil
def aoU:=@List.getElem?_drop
def aoV:=@Nat.eq_or_lt_of_le
def aoW:=@List.take_zero
def aoX:=@List.getElem?_cons_zero
def aoY:=@List.reverse_cons
def aoZ:=@List.foldl_append
def ao0:=@List.length_range
def ao1:=@List.flatMap_cons
def ao2:=@List.findIdx_cons
def ao3:=@Nat.div_pos
def ao4:=@Nat.mul_assoc
def ao5:=@Nat.mod_eq_of_lt
def ao6:=@Nat.lt_succ_self
def ao7:=@List.not_mem_nil
def ao9:=@List.findIdx_lt_length_of_exists
def apa:=@if_true
def apb:=@List.getElem?_toArray
def apc:=@Array.mem_of_getElem?
def apd:=@Iff.rfl
def ape:=@List.countP_singleton
def apf:=@Array.getElem?_setIfInBounds_ne
def apg:=@Option.map_none
def aph:=@Nat.mul_add_mod
def apj:=@List.cons.injEq
def apm:=@Nat.sub_zero
def apn:=@List.nil_append
def apo:=@List.forall_mem_cons
def apq:=@List.eq_nil_of_length_eq_zero
def apr:=@Int.mul_le_mul_of_nonneg_left
def aps:=@List.getElem?_range
def apv:=@List.map_congr_left
def apw:=@List.mem_map_of_mem
def apx:=@if_false
def apy:=@Bool.and_assoc
def apz:=@Int.mul_le_mul
def apA:=@Nat.mul_le_mul
def apB:=@Nat.mul_pos
def apF:=@List.filter_append
def apG:=@Int.add_sub_cancel
def apH:=@List.pairwise_cons
def apI:=@Option.some.injEq
def apK:=@List.size_toArray
def apM:=@Array.toList_push
def apN:=@List.nodup_append
def apO:=@List.countP_congr
def apP:=@List.map_toArray
def apQ:=@Nat.add_comm
def apR:=@Nat.max_eq_right
def apS:=@Nat.min_eq_right
def apT:=@List.flatMap_nil
def om {p : Prop} (h : p := by omega) : p := h
inductive ZK where
 | bool | int (k:IntKind) | str | slice | ptr | other
 deriving DecidableEq
abbrev aqa:=List ZK
inductive TD where
 | bool | int (k:IntKind) | str | slice (e:TypeId) | struct (fs:List (Nat×Nat)) | pointer (e:TypeId) | map (k e:TypeId) | array (n:Nat) (e:TypeId) | other
 deriving DecidableEq
inductive cj where
 | s (b:ByteArray)
 | i (n:Int)
 | p (a b:Int)
 deriving DecidableEq
inductive AV where
 | undef
 | bool (b:Bool)
 | int (k:IntKind) (n:Int)
 | str (s:ByteArray)
 | sl (es n:Nat) (full:Bool) (g:Nat->AV)
 | ro (cs:List AV)
 | agg (cs:List AV)
 | ptr (o i off:Nat)
 | bV (o i n:Nat) (full:Bool)
 | fn (f:FuncId) (caps:List AV)
 | fP (vs:List AV)
 | yp
 | mref (o:Nat)
 | pm (kd:TD) (z:aqa) (f:cj->Option Int)
abbrev ap2:=List AV
inductive cI where
 | box (cs:ap2)
 | row (es n:Nat) (g:Nat->AV)
 | map (kd:TD) (z:aqa) (f:cj->Option Int)
abbrev ap9:=List cI
structure Gw where
 size:Nat
 agg:Bool
 bytes:Nat
 zero:aqa
 desc:TD
 deriving DecidableEq
structure FnI where
 muts:ap0:=[]
 frz:Bool:=false
structure qX where
 ty:List (Nat×Gw)
 eqs:List (Nat×aqa):=[]
 fns:List (Nat×FnI)
 glob:List (Nat×ap2)
def look {α:Type}:List (Nat×α)->Nat->Option α
 | [],_=>none
 | (k,v)::l,t=>match Nat.beq k t with | true=>some v | false=>look l t
def eH (T:List (Nat×AV)) (t:Nat):AV:=
 match look T t with | some v=>v | none=>.undef
def hget (H:List (Nat×Option cI)) (o:Nat):Option cI:=
 match look H o with | some (some x)=>some x | _=>none
abbrev ic:=List (Nat×Option cI)
inductive Pg where
 | ret (v:AV) (ups:ic)
 | need (p:Prop) [d:Decidable p] (k:Pg)
 | rd (o:Nat) (k:cI->Pg)
 | call (f:FuncId) (args:ap2) (obs:ap9) (k:AV->ap9->Pg)
 | fail
def stride:Nat:=8
def bT:Nat->AV:=λ _=>.undef
def ofConst:Value->AV
 | .bool b=>.bool b
 | .int k n=>.int k n
 | .string s=>.str s
 | .slice none 0 0=>.sl 0 0 true bT
 | .pointer none=>.yp
 | _=>.undef
def ofZ:ZK->AV
 | .bool=>.bool false
 | .int k=>.int k 0
 | .str=>.str ByteArray.empty
 | .slice=>.sl 0 0 true bT
 | .ptr=>.yp
 | .other=>.undef
def uc:aqa->ap2
 | []=>[]
 | z::l=>ofZ z::uc l
def AV.cells:AV->ap2
 | .agg cs=>cs
 | v=>[v]
def nth:ap2->Nat->AV
 | [],_=>.undef
 | v::_,0=>v
 | _::l,n+1=>nth l n
def Ak:Nat->ap2->ap2->ap2
 | _,[],l=>l
 | 0,v::new,_::l=>v::Ak 0 new l
 | n+1,new,x::l=>x::Ak n new l
 | _,_,[]=>[]
def NW:AV->Bool
 | .undef | .agg _ | .fP _=>false
 | _=>true
def BG:ap2->Bool
 | []=>true
 | v::l=>match NW v with | true=>BG l | false=>false
def Eh (v:AV) (k:ap2->Pg):Pg:=
 match v.cells with
 | cs=>match BG cs with | true=>k cs | false=>.fail
def dy (b:Bool) (k:Pg):Pg:=match b with | true=>k | false=>.fail
def Ei:ap2->(ap2->Prop)->Prop
 | [],K=>K []
 | v::l,K=>Ei l (λ l'=>
  match v with
  | .undef=>K (.undef::l') | .bool b=>K (.bool b::l') | .int k n=>K (.int k n::l') | .str s=>K (.str s::l')
  | .sl es n f g=>K (.sl es n f g::l') | .ro cs=>K (.ro cs::l') | .agg cs=>K (.agg cs::l') | .ptr o i off=>K (.ptr o i off::l')
  | .bV o i n f=>K (.bV o i n f::l') | .fn f caps=>K (.fn f caps::l') | .fP vs=>K (.fP vs::l') | .yp=>K (.yp::l') | .mref o=>K (.mref o::l') | .pm a b c=>K (.pm a b c::l'))
def force (v:AV) (K:AV->Prop):Prop:=
 match v with
 | .undef=>K .undef | .bool b=>K (.bool b) | .int k n=>K (.int k n) | .str s=>K (.str s)
 | .sl es n f g=>K (.sl es n f g)
 | .ro cs=>Ei cs λ cs'=>K (.ro cs')
 | .agg cs=>Ei cs λ cs'=>K (.agg cs')
 | .ptr o i off=>K (.ptr o i off) | .bV o i n f=>K (.bV o i n f)
 | .fn f caps=>Ei caps λ cs'=>K (.fn f cs')
 | .fP vs=>Ei vs λ cs'=>K (.fP cs')
 | .yp=>K .yp
 | .mref o=>K (.mref o)
 | .pm a b c=>K (.pm a b c)
def xb:ic->(ic->Prop)->Prop
 | [],K=>K []
 | (o,none)::l,K=>xb l λ l'=>K ((o,none)::l')
 | (o,some (.row es n g))::l,K=>xb l λ l'=>K ((o,some (.row es n g))::l')
 | (o,some (.map kd z f))::l,K=>xb l λ l'=>K ((o,some (.map kd z f))::l')
 | (o,some (.box cs))::l,K=>Ei cs λ cs'=>xb l λ l'=>K ((o,some (.box cs'))::l')
def av (n:Int):Prop := -9223372036854775808<=n/\n<=9223372036854775807
instance (n:Int):Decidable (av n):=inferInstanceAs (Decidable (_/\_))
def addN:Nat->Nat->Nat
 | 0,k=>k
 | n+1,k=>n+1+k
def lu (i:Nat) (g:Nat->AV):Nat->AV:=match i with | 0=>g | n+1=>λ j=>g (n+1+j)
def Me (l:ap2):Nat->AV:=λ i=>nth l i
def appG (n:Nat) (g h:Nat->AV):Nat->AV:=λ j=>bif Nat.blt j n then g j else h (j - n)
def Tc (g:Nat->AV) (i:Nat) (v:AV):Nat->AV:=λ j=>bif Nat.beq j i then v else g j
def PT:Nat->AV->(AV->ap0->Pg)->Pg
 | 0,_,_=>.fail
 | _+1,.bV o i n full,k=>.rd o λ
  | .row es _ g=>k (.sl es n full (lu i g)) [o]
  | _=>.fail
 | f+1,.ptr o i off,k=>match i with
  | 0=>.rd o λ
   | .box cs=>VD f (cs.drop off) λ cs' ids=>k (.ro cs') (o::ids)
   | _=>.fail
  | _+1=>.fail
 | f+1,.agg cs,k=>VD f cs λ cs' ids=>k (.agg cs') ids
 | f+1,.fP cs,k=>VD f cs λ cs' ids=>k (.fP cs') ids
 | f+1,.fn fn cs,k=>VD f cs λ cs' ids=>k (.fn fn cs') ids
 | _+1,.mref o,k=>.rd o λ
  | .map kd z f=>k (.pm kd z f) [o]
  | _=>.fail
 | _+1,v,k=>k v []
 where VD:Nat->ap2->(ap2->ap0->Pg)->Pg
 | 0,_,_=>.fail
 | _+1,[],k=>k [] []
 | f+1,v::l,k=>PT f v λ v' i1=>VD f l λ l' i2=>k (v'::l') (i1++i2)
def fuel:Nat:=100
def dead:ap0->ic
 | []=>[]
 | o::l=>(o,none)::dead l
def kv (p:Prop) [Decidable p] (v:AV):Pg:=.need p (.ret v [])
def iQ (v:AV):Pg:=.ret v []
def uY (ti:Gw) (cs:ap2):Pg:=
 match ti.agg with
 | true=>dy (Nat.ble ti.size cs.length) (iQ (.agg (cs.take ti.size)))
 | false=>match cs with
  | v::_=>iQ v
  | []=>.fail
def arith (op:BinOp) (a b:Int):Pg:=
 match op with
 | .add=>kv (av (a+b)) (.int .i64 (a+b))
 | .sub=>kv (av (a - b)) (.int .i64 (a - b))
 | .mul=>kv (av (a*b)) (.int .i64 (a*b))
 | .quo=>kv (b≠0/\av (a.tdiv b)) (.int .i64 (a.tdiv b))
 | .rem=>kv (b≠0) (.int .i64 (a.tmod b))
 | _=>.fail
def ah3 (op:BinOp) (a b:Int):Pg:=
 match op with
 | .eql=>iQ (.bool (a==b))
 | .neq=>iQ (.bool (a != b))
 | .lss=>iQ (.bool (decide (a<b)))
 | .leq=>iQ (.bool (decide (a<=b)))
 | .gtr=>iQ (.bool (decide (b<a)))
 | .geq=>iQ (.bool (decide (b<=a)))
 | _=>.fail
def Nz:BinOp->Bool
 | .add | .sub | .mul | .quo | .rem=>true
 | _=>false
def xc (a b:IntKind):Bool:=decide (a=b)
def KI:aqa->ap2->ap2->Option Bool
 | [],[],[]=>some true
 | .int k::zs,.int k1 a::l,.int k2 b::m=>match xc k k1,xc k k2,KI zs l m with
  | true,true,some r=>some ((a==b)&&r)
  | _,_,_=>none
 | .bool::zs,.bool a::l,.bool b::m=>match KI zs l m with
  | some r=>some ((a==b)&&r)
  | none=>none
 | .str::zs,.str a::l,.str b::m=>match KI zs l m with
  | some r=>some ((a.toList==b.toList)&&r)
  | none=>none
 | _,_,_=>none
def ae9 (op:BinOp) (a b:ByteArray):Pg:=
 match op with
 | .add=>kv (a.size+b.size<=9223372036854775807) (.str (a++b))
 | .eql=>iQ (.bool (a.toList==b.toList))
 | .neq=>iQ (.bool (!(a.toList==b.toList)))
 | .lss=>iQ (.bool (Op.bytesLess a.toList b.toList))
 | .leq=>iQ (.bool (Op.bytesLess a.toList b.toList||a.toList==b.toList))
 | .gtr=>iQ (.bool (!(Op.bytesLess a.toList b.toList||a.toList==b.toList)))
 | .geq=>iQ (.bool (!Op.bytesLess a.toList b.toList))
 | _=>.fail
def VE (c:AV) (ea eb:Operand) (a b:AV):Pg:=
 match c with
 | .bool c=>match ea,eb,a,b with
  | _,.const (.bool false),.bool x,_=>iQ (.bool (c&&x))
  | .const (.bool true),_,_,.bool y=>iQ (.bool (c||y))
  | _,_,.bool x,.bool y=>iQ (.bool (bif c then x else y))
  | _,_,.undef,y=>kv (c=false) y
  | _,_,x,.undef=>kv (c=true) x
  | _,_,_,_=>.fail
 | _=>.fail
section ops
variable (cfg:qX)
def KJ (t:TypeId) (k:Gw->Pg):Pg:=match look cfg.ty t with | some i=>k i | none=>.fail
def xe (t:TypeId) (k:Gw->Pg):Pg:=match look cfg.ty t with
 | some i=>match i.desc with
  | .slice e=>KJ cfg e k
  | _=>.fail
 | none=>.fail
def ZT (op:BinOp) (t:TypeId) (x y:AV):Pg:=
 match x,y with
 | .int k a,.int k' b=>dy (xc k k') (match Nz op with
  | true=>match xc k .i64 with
   | true=>arith op a b
   | false=>.fail
  | false=>ah3 op a b)
 | .bool a,.bool b=>KJ cfg t λ ti=>match ti.desc,op with
  | .bool,.eql=>iQ (.bool (a==b))
  | .bool,.neq=>iQ (.bool (!(a==b)))
  | _,_=>.fail
 | .str a,.str b=>ae9 op a b
 | .agg cs,.agg cs'=>match look cfg.eqs t with
  | some zs=>match KI zs cs cs',op with
   | some r,.eql=>iQ (.bool r)
   | some r,.neq=>iQ (.bool (!r))
   | _,_=>.fail
  | none=>.fail
 | _,_=>.fail
def MM:List (Nat×Nat)->Nat->Option (Nat×Nat)
 | [],_=>none
 | x::_,0=>some x
 | _::l,n+1=>MM l n
def Gx (ti:Gw) (f:Nat):Option (Nat×Nat):=match ti.desc with
 | .struct fs=>MM fs f
 | _=>none
def Td (fs:List (Nat×Nat)):List (Nat×AV)->ap2->(ap2->Pg)->Pg
 | [],cs,k=>k cs
 | (i,v)::rest,cs,k=>match MM fs i with
  | some (off,t)=>KJ cfg t λ ti=>Eh v λ vs=>dy (Nat.beq vs.length ti.size) (dy (Nat.ble (off+vs.length) cs.length) (Td fs rest (Ak off vs cs) k))
  | none=>.fail
def zD:Nat->AV->ap2->ap2
 | _,_,[]=>[]
 | 0,v,_::l=>v::l
 | n+1,v,x::l=>x::zD n v l
def Xd (size:Nat) (agg:Bool):List (Nat×AV)->ap2->(ap2->Pg)->Pg
 | [],es,k=>k es
 | (i,v)::rest,es,k=>dy (match agg,v with | true,.agg _=>true | true,_=>false | false,.agg _=>false | false,_=>true)
  (Eh v λ vs=>dy (Nat.beq vs.length size) (dy (Nat.blt i es.length) (Xd size agg rest (zD i v es) k)))
def zeroOf (ti:Gw):AV:=match ti.agg with
 | true=>.agg (uc ti.zero)
 | false=>nth (uc ti.zero) 0
def ZH (ti:Gw):Bool:=match Nat.blt 0 ti.size with
 | true=>match ti.agg with
  | true=>true
  | false=>Nat.beq ti.size 1
 | false=>false
def Yk:Nat->AV->ap2
 | 0,_=>[]
 | n+1,z=>z::Yk n z
def Jl:List (Nat×AV)->(List (Nat×AV)->ap0->Pg)->Pg
 | [],k=>k [] []
 | (i,v)::l,k=>PT fuel v λ v' i1=>Jl l λ l' i2=>k ((i,v')::l') (i1++i2)
def ah4 (s:AV) (f:Int->Pg) (k:Pg):Pg:=match s with
 | .int _ n=>f n
 | _=>k
def zf (full:Bool) (n:Nat):Bool:=match full with
 | true=>match n with
  | 0=>true
  | _+1=>false
 | false=>false
def NA (x:AV) (lo hi:Option AV) (Rp QE:Bool):Pg:=
 match lo,hi with
 | none,none=>dy (!Rp) (match x with
  | .sl es n full g=>iQ (.sl es n full g)
  | .bV o i n full=>iQ (.bV o i n full)
  | _=>.fail)
 | none,some (.int _ h)=>dy (!Rp||QE) (match x with
  | .sl es n full g=>match zf full n with
   | true=>kv (0<=h/\h<=0) (.sl es 0 true g)
   | false=>kv (0<=h/\h<=n) (.sl es h.toNat QE g)
  | .bV o i n _=>kv (0<=h/\h<=n) (.bV o i h.toNat QE)
  | _=>.fail)
 | some (.int _ l),none=>dy (!Rp) (match x with
  | .sl es n full g=>kv (0<=l/\l<=n) (.sl es (n - l.toNat) full (λ j=>g (l.toNat+j)))
  | .bV o i n full=>kv (0<=l/\l<=n) (.bV o (i+l.toNat) (n - l.toNat) full)
  | _=>.fail)
 | some (.int _ l),some (.int _ h)=>dy (!Rp||QE) (match x with
  | .sl es n _ g=>kv (0<=l/\l<=h/\h<=n) (.sl es (h.toNat - l.toNat) QE (λ j=>g (l.toNat+j)))
  | .bV o i n _=>kv (0<=l/\l<=h/\h<=n) (.bV o (i+l.toNat) (h.toNat - l.toNat) QE)
  | _=>.fail)
 | _,_=>.fail
def yC:Option Operand->Option Operand->Bool
 | some (.tmp a),some (.tmp b)=>Nat.beq a b
 | _,_=>false
def Yl (ρ:Operand->AV) (hi mx:Option Operand) (k:Pg):Pg:=
 match mx with
 | none=>k
 | some m=>match hi with
  | none=>.fail
  | some h=>match ρ h,ρ m with
   | .int kk a,.int kk' b=>dy (xc kk kk') (.need (a=b) k)
   | _,_=>.fail
def Mf (x:AV) (k:Nat->Nat->(Nat->AV)->Pg):Pg:=
 match x with
 | .sl es n _ g=>k es n g
 | .bV o i n _=>.rd o λ
  | .row es _ g=>k es n (lu i g)
  | _=>.fail
 | _=>.fail
def Rq:Nat->Bool
 | 0=>true
 | _+1=>false
def Il (es n size:Nat):Bool:=match Nat.beq es size with | true=>true | false=>Rq n
def big:Nat:=140737488355328
def Xe (i k:Nat) (g h:Nat->AV):Nat->AV:=λ j=>bif Nat.ble i j&&Nat.blt j (i+k)then h (j - i)else g j
def Rr (ti:Gw) (d s:AV):Pg:=
 Mf s λ es' m h=>dy (Il es' m ti.size) (
 match d with
 | .bV o i n _=>.rd o λ
  | .row es N g=>dy (Nat.beq es ti.size) (.need (i+n+m<=N) (.ret (.bV o i (n+m) false) [(o,some (.row es N (Xe (i+n) m g h)))]))
  | _=>.fail
 | _=>.fail)
def isSelf:AV->AV->Bool
 | .bV o _ _ _,.bV o' _ _ _=>Nat.beq o o'
 | _,_=>false
def ZU (o i n N:Nat) (f:Bool) (lo hi mx:Option AV):Pg:=match mx with
 | some (.int _ m)=>match lo,hi with
  | some (.int _ l),some (.int _ h)=>kv (0<=l/\l<=h/\h<=m/\m<=n) .undef
  | none,some (.int _ h)=>kv (0<=h/\h<=m/\m<=0) (.sl 0 0 true bT)
  | _,_=>.fail
 | some _=>.fail
 | none=>match lo,hi with
  | none,none=>iQ (.bV o i n f)
  | none,some (.int _ h)=>kv (0<=h/\(i:Int)+h<=N) (.bV o i h.toNat false)
  | some (.int _ l),none=>kv (0<=l/\l<=n) (.bV o (i+l.toNat) (n - l.toNat) f)
  | some (.int _ l),some (.int _ h)=>kv (0<=l/\l<=h/\(i:Int)+h<=N) (.bV o (i+l.toNat) (h.toNat - l.toNat) false)
  | _,_=>.fail
def Te (ti:Gw) (cH:Nat) (d s:AV):Pg:=
 Mf s λ es' m h=>dy (Il es' m ti.size) (
 match d with
 | .sl es n full g=>dy full (match es with
  | 0=>dy (Rq n) (.need (m*ti.bytes<=big) (.ret (.bV cH 0 m false) [(cH,some (.row ti.size m h))]))
  | es1+1=>dy (Il (es1+1) n ti.size) (kv ((n+m)*ti.bytes<=big) (.sl ti.size (n+m) false (appG n g h))))
 | .bV o i n _=>.rd o λ
  | .row es _ g=>dy (Nat.beq es ti.size) (.need ((n+m)*ti.bytes<=big) (.ret (.bV cH 0 (n+m) false) [(cH,some (.row es (n+m) (appG n (lu i g) h))),(o,none)]))
  | _=>.fail
 | _=>.fail)
def ZV (ti:Gw) (d s:AV):Pg:=
 Mf s λ es' m h=>dy (Il es' m ti.size) (
 match d with
 | .bV o i n _=>.rd o λ
  | .row es N g=>dy (Nat.beq es ti.size) (.ret (.int .i64 (Nat.min m n:Nat)) [(o,some (.row es N (Xe i (Nat.min m n) g h)))])
  | _=>.fail
 | _=>.fail)
def pI:ap0->Nat->Nat->Option Nat
 | [],_,_=>none
 | a::l,o,j=>match Nat.beq a o with | true=>some j | false=>pI l o (j+1)
def lY:AV->Bool
 | .undef | .bool _ | .int .. | .str _ | .sl .. | .ro _ | .yp | .pm .. => true
 | _=>false
def akb:AV->ap0
 | .ptr o _ _=>[o]
 | .bV o _ _ _=>[o]
 | .mref o=>[o]
 | _=>[]
def Mg:ap2->ap0
 | []=>[]
 | v::l=>akb v++Mg l
def Xf (sg:ap0):ap0->Bool
 | []=>false
 | o::_=>match pI sg o 0 with
  | some _=>true
  | none=>false
def ZW (sg:ap0) (v:AV) (k:AV->Pg):Pg:=match v with
 | .ptr o i off=>match pI sg o 0 with
  | some j=>k (.ptr j i off)
  | none=>.fail
 | .bV o i n f=>match pI sg o 0 with
  | some j=>k (.bV j i n f)
  | none=>.fail
 | .mref o=>match pI sg o 0 with
  | some j=>k (.mref j)
  | none=>.fail
 | v=>dy (lY v) (k v)
def VF (sg:ap0):ap2->(ap2->Pg)->Pg
 | [],k=>k []
 | v::l,k=>ZW sg v λ v'=>VF sg l λ l'=>k (v'::l')
def Gy (sg:ap0) (v:AV) (k:AV->ap0->Pg):Pg:=
 match v with
 | .ptr o i off=>match pI sg o 0 with
  | some j=>k (.ptr j i off) []
  | none=>PT fuel (.ptr o i off) k
 | .bV o i n full=>match pI sg o 0 with
  | some j=>k (.bV j i n full) []
  | none=>PT fuel (.bV o i n full) k
 | .mref o=>match pI sg o 0 with
  | some j=>k (.mref j) []
  | none=>PT fuel (.mref o) k
 | .fn f cs=>match Xf sg (Mg cs)with
  | true=>VF sg cs λ cs'=>k (.fn f cs') []
  | false=>PT fuel (.fn f cs) k
 | .agg cs=>match Xf sg (Mg cs)with
  | true=>VF sg cs λ cs'=>k (.agg cs') []
  | false=>PT fuel (.agg cs) k
 | v=>PT fuel v k
def Al (sg:ap0):ap2->(ap2->ap0->Pg)->Pg
 | [],k=>k [] []
 | v::l,k=>Gy sg v λ v' i1=>Al sg l λ l' i2=>k (v'::l') (i1++i2)
def Xg:ap0->(ap9->Pg)->Pg
 | [],k=>k []
 | o::l,k=>.rd o λ ob=>Xg l λ obs=>k (ob::obs)
def sigma (args:ap2):ap0->ap0
 | []=>[]
 | p::l=>match nth args p with
  | .ptr o _ _=>o::sigma args l
  | .bV o _ _ _=>o::sigma args l
  | .mref o=>o::sigma args l
  | .fn _ cs=>Mg cs++sigma args l
  | .agg cs=>Mg cs++sigma args l
  | _=>sigma args l
def vR:Nat->ap0->Bool
 | _,[]=>false
 | a,b::l=>match Nat.beq a b with | true=>true | false=>vR a l
def lx:ap0->Bool
 | []=>true
 | a::l=>match vR a l with | true=>false | false=>lx l
def NX:AV->Bool
 | .bool _ | .int .. | .str _=>true
 | _=>false
def Rs:ap2->Bool
 | []=>true
 | v::l=>match NX v with | true=>Rs l | false=>false
def NY:AV->Bool
 | .agg vs=>Rs vs
 | v=>NX v
def Rt:ap2->Bool
 | []=>true
 | v::l=>match NY v with | true=>Rt l | false=>false
def ZX:AV->Bool
 | .fP vs=>Rt vs
 | v=>NY v
def dZ:ap0->Nat->Nat
 | [],_=>0
 | a::_,0=>a
 | _::l,n+1=>dZ l n
def NZ:cI->Bool
 | .map .other [] _=>true
 | _=>false
def Mh:cI:=.map .other [] λ _=>none
def gz (x:cI):Option cI:=match NZ x with
 | true=>none
 | false=>some x
def xf:ap0->ap9->ic
 | o::l,x::m=>(o,gz x)::xf l m
 | _,_=>[]
def adj (f:FuncId):FnI:=match look cfg.fns f with | some i=>i | none=>{}
def tc:ap2->Bool
 | []=>true
 | v::l=>match lY v with | true=>tc l | false=>false
def NB:cI->Bool
 | .box cs=>tc cs
 | .row .. => true
 | .map .. => false
def ah5:AV->Bool
 | .agg vs=>tc vs
 | v=>lY v
def Ej:ap0->ap0->Bool
 | [],_=>true
 | x::l,m=>match vR x m with | true=>false | false=>Ej l m
def ah6:AV->ap0
 | .ptr o _ _=>[o]
 | .bV o _ _ _=>[o]
 | .mref o=>[o]
 | .fn _ cs=>Mg cs
 | _=>[]
def afa:ap2->ap0
 | []=>[]
 | v::l=>ah6 v++afa l
def ah7:cI->ap0
 | .box cs=>afa cs
 | _=>[]
def N0:Nat->ap0->ap0->(ap0->Pg)->Pg
 | 0,_,_,_=>.fail
 | _+1,[],sg,k=>k sg
 | f+1,o::todo,sg,k=>match vR o sg with
  | true=>N0 f todo sg k
  | false=>.rd o λ ob=>N0 f (todo++ah7 ob) (sg++[o]) k
def inv1 (sg:ap0) (v:AV) (k:AV->Pg):Pg:=match v with
 | .ptr o i off=>match pI sg o 0 with
  | some j=>k (.ptr j i off)
  | none=>.fail
 | .bV o i n f=>match pI sg o 0 with
  | some j=>k (.bV j i n f)
  | none=>.fail
 | .mref o=>match pI sg o 0 with
  | some j=>k (.mref j)
  | none=>.fail
 | .fn f cs=>VF sg cs λ cs'=>k (.fn f cs')
 | v=>dy (lY v) (k v)
def adk (sg:ap0):ap2->(ap2->Pg)->Pg
 | [],k=>k []
 | v::l,k=>inv1 sg v λ v'=>adk sg l λ l'=>k (v'::l')
def ah8 (sg:ap0) (x:cI) (k:cI->Pg):Pg:=match x with
 | .box cs=>adk sg cs λ cs'=>k (.box cs')
 | .row es n g=>k (.row es n g)
 | .map kd z f=>k (.map kd z f)
def Xh (sg:ap0):ap9->(ap9->Pg)->Pg
 | [],k=>k []
 | x::l,k=>ah8 sg x λ x'=>Xh sg l λ l'=>k (x'::l')
def Tf (sg:ap0):AV->AV
 | .ptr j i off=>.ptr (dZ sg j) i off
 | .bV j i n full=>.bV (dZ sg j) i n full
 | .mref j=>.mref (dZ sg j)
 | v=>v
def ZY (sg:ap0):ap2->ap2
 | []=>[]
 | v::l=>Tf sg v::ZY sg l
def BH (sg:ap0):AV->AV
 | .ptr j i off=>.ptr (dZ sg j) i off
 | .bV j i n full=>.bV (dZ sg j) i n full
 | .mref j=>.mref (dZ sg j)
 | .fn f cs=>.fn f (ZY sg cs)
 | v=>v
def Ym (sg:ap0):ap2->ap2
 | []=>[]
 | v::l=>BH sg v::Ym sg l
def BI (sg:ap0):AV->AV
 | .agg cs=>.agg (Ym sg cs)
 | v=>BH sg v
def Tg (sg:ap0):ap2->ap2
 | []=>[]
 | v::l=>BI sg v::Tg sg l
def adl (sg:ap0):AV->AV
 | .fP vs=>.fP (Tg sg vs)
 | v=>BI sg v
def PX (sg:ap0):cI->cI
 | .box cs=>.box (Ym sg cs)
 | .row es n g=>.row es n g
 | .map kd z f=>.map kd z f
def N1 (sg:ap0):ap9->ap9
 | []=>[]
 | x::l=>PX sg x::N1 sg l
def adn:AV->Bool
 | .ptr .. | .bV .. | .mref _=>true
 | v=>lY v
def okA:ap2->Bool
 | []=>true
 | v::l=>match adn v with | true=>okA l | false=>false
def ZZ:AV->Bool
 | .fn _ cs=>okA cs
 | .agg _ | .fP _=>false
 | _=>true
def Z0:ap2->Bool
 | []=>true
 | v::l=>match ZZ v with | true=>Z0 l | false=>false
def Z1:AV->Bool
 | .agg cs=>Z0 cs
 | v=>ZZ v
def Xi:ap2->Bool
 | []=>true
 | v::l=>match Z1 v with | true=>Xi l | false=>false
def ah9:AV->Bool
 | .fP vs=>Xi vs
 | v=>Z1 v
def ado:cI->Bool
 | .box cs=>Z0 cs
 | .row .. => true
 | .map .. => true
def Xj:ap9->Bool
 | []=>true
 | x::l=>match ado x with | true=>Xj l | false=>false
def iB:Nat->Nat->ap0
 | 0,_=>[]
 | n+1,i=>i::iB n (i+1)
def NC (cH:Nat) (f:FuncId) (args:ap2) (sg0:ap0):Pg:=
 N0 40 sg0 [] λ sg=>dy (lx sg) (Xg sg λ obs=>Xh sg obs λ Yn=>Al sg args λ args' ids=>dy (Ej ids sg)
  (.call f args' Yn λ r dt=>dy (Xj dt) (dy (Nat.ble dt.length (sg.length+stride)) (dy (ah9 r)
    (.ret (adl (sg++iB (dt.length - sg.length) cH) r) (xf (sg++iB (dt.length - sg.length) cH) (N1 (sg++iB (dt.length - sg.length) cH) dt)++dead ids))))))
def Z2 (cH:Nat) (f:FuncId) (args:ap2):Pg:=
 match sigma args (adj cfg f).muts with
 | []=>match (adj cfg f).frz with
  | false=>Al [] args λ args' _=>.call f args' [] λ r dt=>match dt with
   | []=>dy (ZX r) (iQ r)
   | _::_=>.fail
  | true=>NC cH f args []
 | x::sg=>NC cH f args (x::sg)
def keyOf:AV->Option cj
 | .str b=>some (.s b)
 | .int .i64 n=>some (.i n)
 | .agg [.int .i64 a,.int .i64 b]=>some (.p a b)
 | _=>none
def afN (z:aqa) (n:Int):AV:=match z with
 | [.bool]=>.bool (n != 0)
 | [.int k]=>.int k n
 | _=>.undef
def afO (z:aqa):AV->Option Int
 | .bool b=>match z with
  | [.bool]=>some (bif b then 1 else 0)
  | _=>none
 | .int k n=>match z with
  | [.int k']=>match decide (k=k')with
   | true=>some n
   | false=>none
  | _=>none
 | _=>none
def KK:aqa->Bool
 | [.bool]=>true
 | [.int _]=>true
 | _=>false
def fo (f:cj->Option Int) (k:cj):Int:=(f k).getD 0
def te (f:cj->Option Int) (k:cj) (n:Int):cj->Option Int:=λ k'=>if k'=k then some n else f k'
def afb (kt:TypeId) (d:TD) (k:Pg):Pg:=match d with
 | .struct [(0,a),(1,b)]=>KJ cfg a λ ia=>KJ cfg b λ ib=>dy (decide (ia.desc=.int .i64)) (dy (decide (ib.desc=.int .i64)) (dy (decide (look cfg.eqs kt=some [.int .i64,.int .i64])) k))
 | _=>k
def Z3 (t:TypeId) (k:Gw->Gw->Pg):Pg:=match look cfg.ty t with
 | some i=>match i.desc with
  | .map kt et=>KJ cfg kt λ ki=>KJ cfg et λ ei=>dy (!ei.agg) (afb cfg kt ki.desc (k ki ei))
  | _=>.fail
 | none=>.fail
def nE (d:TD):cj->Bool
 | .s _=>match d with | .str=>true | _=>false
 | .i _=>match d with | .int .i64=>true | _=>false
 | .p _ _=>match d with | .struct [(0,_),(1,_)]=>true | _=>false
def Xk (z:aqa) (f:cj->Option Int) (k:cj) (ok:Bool):AV:=match ok with
 | true=>.fP [afN z (fo f k),.bool (f k).isSome]
 | false=>afN z (fo f k)
def N2:TD->Option (Nat×TypeId)
 | .array n e=>some (n,e)
 | _=>none
def Z4 (t:TypeId):Option (Nat×TypeId):=match look cfg.ty t with
 | some i=>N2 i.desc
 | none=>none
def Xl (et sz:Nat):Nat->Nat->List (Nat×Nat)
 | 0,_=>[]
 | n+1,k=>(k*sz,et)::Xl et sz n (k+1)
def aia:AV->Bool
 | .bool b=>b
 | _=>false
def akd:AV->Int
 | .int _ n=>n
 | _=>0
def ake:AV->ByteArray
 | .str s=>s
 | _=>ByteArray.empty
def slN:AV->Nat
 | .sl _ n _ _=>n
 | _=>0
def slG:AV->Nat->AV
 | .sl _ _ _ g=>g
 | _=>λ _=>.undef
def esA:AV->Nat
 | .sl es _ _ _=>es
 | _=>0
def Z5:aqa->Nat->ZK
 | [],_=>.other
 | z::_,0=>z
 | _::l,n+1=>Z5 l n
def adp (z:ZK) (es:Nat) (c:AV):Bool:=match z,c with
 | .bool,.bool _=>true
 | .int k,.int k' _=>xc k k'
 | .str,.str _=>true
 | .slice,.sl es' n _ _=>match Nat.beq es' es with
  | true=>true
  | false=>Nat.beq n 0
 | _,_=>false
def afP (z:ZK) (es:Nat) (c:AV):AV:=match z with
 | .bool=>.bool (aia c)
 | .int k=>.int k (akd c)
 | .str=>.str (ake c)
 | .slice=>.sl es (slN c) false (slG c)
 | _=>.undef
def QF (sz j:Nat):Nat->ap2->Nat
 | _,[]=>0
 | k,c::cs=>match Nat.beq (Nat.mod k sz) j with
  | true=>(λ m=>match Nat.ble (esA c) m with | true=>m | false=>esA c) (QF sz j (k+1) cs)
  | false=>QF sz j (k+1) cs
def adq (zs:aqa) (sz:Nat) (all:ap2):Nat->ap2->Bool
 | _,[]=>true
 | k,c::cs=>match adp (Z5 zs (Nat.mod k sz)) (QF sz (Nat.mod k sz) 0 all) c with
  | true=>adq zs sz all (k+1) cs
  | false=>false
def Th (all:ap2) (b sz:Nat):Nat->aqa->ap2
 | _,[]=>[]
 | j,z::zs=>afP z (QF sz j 0 all) (nth all (b+j))::Th all b sz (j+1) zs
def Z6 (ei:Gw) (n:Nat) (cs:ap2) (i:Int):Pg:=
 dy (ZH ei) (dy (Nat.beq cs.length (n*ei.size)) (dy (Nat.beq ei.zero.length ei.size) (dy (adq ei.zero ei.size cs 0 cs) (kv (0<=i/\i<n) (match ei.agg with
  | true=>.agg (Th cs (i.toNat*ei.size) ei.size 0 ei.zero)
  | false=>nth (Th cs (i.toNat*ei.size) ei.size 0 ei.zero) 0)))))
def VG:Nat->aqa->aqa
 | 0,_=>[]
 | n+1,z=>z++VG n z
def iC:Nat->Nat->(Nat->AV)->ap2
 | 0,_,_=>[]
 | k+1,i,g=>(g i).cells++iC k (i+1) g
def afQ:TD->Bool
 | .str=>true
 | _=>false
def afR:AV->Bool
 | .int .u8 _=>true
 | _=>false
def u8D:TD->Bool
 | .int .u8=>true
 | _=>false
def BJ:Nat->Nat->(Nat->AV)->ByteArray->ByteArray
 | 0,_,_,s=>s
 | k+1,i,g,s=>BJ k (i+1) g (s.push (UInt8.ofNat (match g i with
  | .int _ n=>n.toNat
  | _=>0)))
def Ru (src:TypeId) (x:AV):Pg:=xe cfg src λ ei=>dy (u8D ei.desc) (Mf x λ es n g=>dy (Il es n 1) (.need (∀i,i<n->afR (g i)=true) (iQ (.str (BJ n 0 g ByteArray.empty)))))
def Z7 (o n:Nat) (lo hi:Option AV):Pg:=
 match lo,hi with
 | none,none=>iQ (.bV o 0 n true)
 | none,some (.int _ h)=>kv (0<=h/\h<=n) (.bV o 0 h.toNat false)
 | _,_=>.fail
def dF (b:ByteArray) (i:Nat):Int:=match b[i]? with
 | some x=>x.toNat
 | none=>0
def afS (cH:Nat) (t t':TypeId) (d:AV) (k:Int):Pg:=KJ cfg t' λ ti'=>xe cfg t λ ti=>match ti'.desc,d with
 | .int _,.sl _ n full _=>dy (zf full n) (dy (Nat.blt 0 ti.size) (dy (Nat.blt 0 ti.bytes) (dy (ZH ti) (.need (0<k/\k*ti.bytes<=big) (.ret (.bV cH 0 k.toNat false) [(cH,some (.row ti.size k.toNat (λ _=>zeroOf ti)))])))))
 | _,_=>.fail
def Xm (t:TypeId) (x ix y:AV):Pg:=Z3 cfg t λ ki ei=>match x,keyOf ix,afO ei.zero y with
 | .mref o,some k,some n=>dy (nE ki.desc k) (.rd o λ
  | .map kd z f=>dy (decide (kd=ki.desc)) (dy (decide (z=ei.zero)) (dy (KK z) (.ret .undef [(o,some (.map kd z (te f k n)))])))
  | _=>.fail)
 | _,_,_=>.fail
def dV (cH:Nat) (op:Op) (ρ:Operand->AV):Pg:=
 match op with
 | .move x=>iQ (ρ x)
 | .assign x=>iQ (ρ x)
 | .pick c a b=>VE (ρ c) a b (ρ a) (ρ b)
 | .alloc e=>KJ cfg e λ ti=>match N2 ti.desc with
  | some (n,et)=>KJ cfg et λ ei=>dy (ZH ei) (dy (Nat.blt 0 n) (dy (decide (ti.zero=VG n ei.zero)) (.ret (.ptr cH 0 0) [(cH,some (.row ei.size n (λ _=>zeroOf ei)))])))
  | none=>.ret (.ptr cH 0 0) [(cH,some (.box (uc ti.zero)))]
 | .box _ x=>Eh (ρ x) λ cs=>.ret (.ptr cH 0 0) [(cH,some (.box cs))]
 | .build t parts=>KJ cfg t λ ti=>match ti.desc with
  | .struct fs=>Td cfg fs (parts.toList.map λ p=>(p.1,ρ p.2)) (uc ti.zero) λ cs=>iQ (.agg cs)
  | .array n et=>KJ cfg et λ ei=>Td cfg (Xl et ei.size n 0) (parts.toList.map λ p=>(p.1,ρ p.2)) (uc ti.zero) λ cs=>iQ (.agg cs)
  | _=>.fail
 | .buildSlice t len parts=>xe cfg t λ ti=>dy (ZH ti) (dy (Nat.ble (len*ti.size) 4096) (Jl (parts.toList.map λ p=>(p.1,ρ p.2)) λ ps ids=>
   Xd ti.size ti.agg ps (Yk len (zeroOf ti)) λ es=>
   .ret (.bV cH 0 len true) ((cH,some (.row ti.size len (Me es)))::dead ids)))
 | .load t a=>KJ cfg t λ ti=>match ρ a with
  | .ptr o i off=>.rd o λ
   | .box cs=>uY ti (cs.drop off)
   | .row es n g=>match N2 ti.desc with
    | some _=>dy (Rq i&&Rq off) (uY ti (iC n 0 g))
    | none=>dy (Nat.ble (off+ti.size) es) (uY ti ((g i).cells.drop off))
   | .map .. => .fail
  | .ro cs=>uY ti cs
  | _=>.fail
 | .store t a x=>KJ cfg t λ ti=>match ρ a with
  | .ptr o i off=>.rd o λ
   | .box cs=>Eh (ρ x) λ vs=>dy (Nat.beq vs.length ti.size) (dy (Nat.ble (off+vs.length) cs.length) (.ret .undef [(o,some (.box (Ak off vs cs)))]))
   | .row es n g=>match N2 ti.desc with
    | some _=>PT fuel (ρ x) λ x' ids=>dy (!vR o ids) (Eh x' λ vs=>dy (Nat.beq vs.length ti.size) (dy (Nat.beq es 1) (dy (Nat.beq n ti.size) (dy (Rq i&&Rq off) (.ret .undef ((o,some (.row 1 n (Me vs)))::dead ids))))))
    | none=>PT fuel (ρ x) λ x' ids=>dy (!vR o ids) (Eh x' λ vs=>dy (Nat.beq vs.length ti.size) (dy (Nat.blt 0 ti.size) (dy (Nat.ble (off+vs.length) es)
     (.ret .undef ((o,some (.row es n (Tc g i (match Rq off&&Nat.beq vs.length es with
       | true=>x'
       | false=>match g i with
        | .agg cs=>.agg (Ak off vs cs)
        | _=>x'))))::dead ids)))))
   | .map .. => .fail
  | _=>.fail
 | .nilCheck x=>match ρ x with
  | .ptr o i off=>.rd o λ _=>iQ (.ptr o i off)
  | .ro cs=>iQ (.ro cs)
  | .fn f cs=>iQ (.fn f cs)
  | _=>.fail
 | .binOp op t x y _=>ZT cfg op t (ρ x) (ρ y)
 | .unOp op _ x=>match op,ρ x with
  | .not,.bool b=>iQ (.bool (!b))
  | _,_=>.fail
 | .convert src dst x=>KJ cfg src λ _=>KJ cfg dst λ ti=>match afQ ti.desc with
  | true=>Ru cfg src (ρ x)
  | false=>match ti.desc,ρ x with
   | .int k,.int _ n=>iQ (.int k (k.wrap n))
   | _,_=>.fail
 | .makeFunc fn first captured=>match fn,first.toList with
  | .func f,[]=>iQ (.fn f (captured.toList.map ρ))
  | _,_=>.fail
 | .makeSlice t l c=>xe cfg t λ ti=>match ρ l with
  | .int _ n=>match yC (some l) (some c)with
   | true=>dy (Nat.blt 0 ti.bytes) (dy (ZH ti) (.need (0<=n/\n*ti.bytes<=big) (.ret (.bV cH 0 n.toNat true) [(cH,some (.row ti.size n.toNat (λ _=>zeroOf ti)))])))
   | false=>match ρ c with
    | .int _ k=>dy (Nat.blt 0 ti.bytes) (dy (ZH ti) (.need (n=0/\0<=k/\k*ti.bytes<=big) (.ret (.bV cH 0 0 false) [(cH,some (.row ti.size 0 bT))])))
    | _=>.fail
  | _=>.fail
 | .slice t x lo hi mx=>match Z4 cfg t with
  | some (n,et)=>KJ cfg et λ ei=>dy mx.isNone (match ρ x with
   | .ptr o i off=>.rd o λ
    | .row es n' _=>dy (Rq i&&Rq off) (dy (Nat.beq es ei.size) (dy (Nat.beq n' n) (Z7 o n (lo.map ρ) (hi.map ρ))))
    | _=>.fail
   | _=>.fail)
  | none=>match ρ x with
  | .bV o i n f=>xe cfg t λ ti=>.rd o λ
   | .row es N _=>dy (Nat.beq es ti.size) (ZU o i n N f (lo.map ρ) (hi.map ρ) (mx.map ρ))
   | _=>.fail
  | _=>Yl ρ hi mx<|xe cfg t λ ti=>match ρ x with
   | .sl es n f g=>dy (Il es n ti.size) (NA (.sl es n f g) (lo.map ρ) (hi.map ρ) mx.isSome mx.isSome)
   | .bV o i n f=>.rd o λ
    | .row es _ _=>dy (Nat.beq es ti.size) (NA (.bV o i n f) (lo.map ρ) (hi.map ρ) mx.isSome mx.isSome)
    | _=>.fail
   | _=>.fail
 | .fieldAddr s x f=>KJ cfg s λ ts=>match Gx ts f with
  | some (o,t)=>KJ cfg t λ ti=>dy (Nat.blt 0 ti.size) (match ρ x with
   | .ptr ob i off=>.rd ob λ _=>iQ (.ptr ob i (off+o))
   | .ro cs=>iQ (.ro (cs.drop o))
   | _=>.fail)
  | none=>.fail
 | .field s x f=>KJ cfg s λ ts=>match Gx ts f with
  | some (o,t)=>KJ cfg t λ ti=>match ρ x with
   | .agg cs=>uY ti (cs.drop o)
   | _=>.fail
  | none=>.fail
 | .indexAddr t x ix=>match Z4 cfg t with
  | some (n,et)=>KJ cfg et λ ei=>match ρ ix,ρ x with
   | .int _ i,.ptr o j off=>.rd o λ
    | .row es n' _=>dy (Rq j&&Rq off) (dy (Nat.beq es ei.size) (dy (Nat.beq n' n) (kv (0<=i/\i<n) (.ptr o i.toNat 0))))
    | _=>.fail
   | _,_=>.fail
  | none=>xe cfg t λ ti=>match ρ ix with
  | .int _ i=>match ρ x with
   | .sl es n _ g=>dy (Il es n ti.size) (kv (0<=i/\i<n) (.ro (g i.toNat).cells))
   | .bV o j n _=>.rd o λ
    | .row es _ _=>dy (Nat.beq es ti.size) (kv (0<=i/\i<n) (.ptr o (addN j i.toNat) 0))
    | _=>.fail
   | _=>.fail
  | _=>.fail
 | .index t x ix=>KJ cfg t λ ti=>match ti.desc,ρ x,ρ ix with
  | .str,.str b,.int _ i=>kv (0<=i/\i<b.size) (.int .u8 (dF b i.toNat))
  | .array n et,.agg cs,.int _ i=>KJ cfg et λ ei=>Z6 ei n cs i
  | _,_,_=>.fail
 | .makeMap t none=>Z3 cfg t λ ki ei=>.ret (.mref cH) [(cH,some (.map ki.desc ei.zero λ _=>none))]
 | .lookup t x ix ok=>Z3 cfg t λ ki ei=>(match ρ x,keyOf (ρ ix)with
  | .mref o,some k=>dy (nE ki.desc k) (.rd o λ
   | .map kd z f=>dy (decide (kd=ki.desc)) (dy (decide (z=ei.zero)) (dy (KK z) (iQ (Xk z f k ok))))
   | _=>.fail)
  | .pm kd z f,some k=>dy (nE ki.desc k) (dy (decide (kd=ki.desc)) (dy (decide (z=ei.zero)) (dy (KK z) (iQ (Xk z f k ok)))))
  | _,_=>.fail)
 | .mapUpdate t x ix y=>Xm cfg t (ρ x) (ρ ix) (ρ y)
 | .insert t x ix y=>Xm cfg t (ρ x) (ρ ix) (ρ y)
 | .extract t i=>match ρ t with
  | .fP vs=>dy (Nat.blt i vs.length) (iQ (nth vs i))
  | _=>.fail
 | .call c=>match c.callee with
  | .builtin .len=>match c.args.toList.map ρ,c.argTypes.toList with
   | [v],[t]=>KJ cfg t λ ti=>match v,ti.desc with
    | .sl _ n _ _,.slice _=>iQ (.int .i64 n)
    | .bV o _ n _,.slice _=>.rd o λ _=>iQ (.int .i64 n)
    | .str s,.str=>iQ (.int .i64 s.size)
    | _,_=>.fail
   | _,_=>.fail
  | .builtin .append=>match c.args.toList.map ρ,c.argTypes.toList with
   | [d,s],[t,t']=>ah4 s (afS cfg cH t t' d)
    (xe cfg t' λ _=>xe cfg t λ ti=>dy (Nat.blt 0 ti.size) (dy (Nat.blt 0 ti.bytes) (match isSelf d s with | true=>Rr ti d s | false=>Te ti cH d s)))
   | _,_=>.fail
  | .builtin .copy=>match c.args.toList.map ρ,c.argTypes.toList with
   | [d,s],[t,t']=>xe cfg t' λ _=>xe cfg t λ ti=>dy (Nat.blt 0 ti.size) (ZV ti d s)
   | _,_=>.fail
  | .builtin .clear=>match c.args.toList.map ρ,c.argTypes.toList with
   | [.bV o i n _],[t]=>xe cfg t λ ti=>dy (ZH ti) (.rd o λ
    | .row es N g=>dy (Nat.beq es ti.size) (.ret .undef [(o,some (.row es N (Xe i n g (λ _=>zeroOf ti))))])
    | _=>.fail)
   | _,_=>.fail
  | .builtin .min=>match c.args.toList.map ρ with
   | [.int k a,.int _ b]=>iQ (.int k (if b<a then b else a))
   | _=>.fail
  | .builtin .max=>match c.args.toList.map ρ with
   | [.int k a,.int _ b]=>iQ (.int k (if b > a then b else a))
   | _=>.fail
  | .builtin _=>.fail
  | .value f=>match ρ f with
   | .fn g caps=>Z2 cfg cH g (c.args.toList.map ρ++caps)
   | _=>.fail
  | .invoke _ _=>.fail
 | _=>.fail
def ND (T:Nat->AV):Operand->AV
 | .tmp t=>T t
 | .const v=>ofConst v
 | .global g=>match look cfg.glob g with | some cs=>.ro cs | none=>.undef
 | .func f=>.fn f []
end ops
abbrev lk:=FuncId->ap2->ap9->AV->ap9->Prop
structure Log where
 ud:ap0
 VH:ap0
structure St where
 tmps:List (Nat×AV)
 heap:ic
 nx:Nat
abbrev PC:=List (Bool×Bool)
def Yo:PC->Prop->(Prop->Prop)->Prop
 | [],p,K=>K p
 | (c,b)::l,p,K=>Yo l (c=b->p) K
section run
variable (cfg:qX) (Sp:lk)
def ids:ic->ap0
 | []=>[]
 | (o,_)::l=>o::ids l
def ev (pc:PC) (H:Nat->Option cI):Pg->ap0->(AV->ic->ap0->Prop)->Prop
 | .ret v ups,ud,K=>force v λ v'=>xb ups λ qH=>K v' qH ud
 | @Pg.need p _ k,ud,K=>Yo pc p λ p'=>p'/\ev pc H k ud K
 | .rd o k,ud,K=>match H o with
  | some x=>ev pc H (k x) (o::ud) K
  | none=>Yo pc False λ p'=>p'/\K .undef [] ud
 | .call f args obs k,ud,K=>∃r dt,Yo pc (Sp f args obs r dt) λ p'=>p'/\ev pc H (k r dt) ud K
 | .fail,ud,K=>Yo pc False λ p'=>p'/\K .undef [] ud
def Xn:Op->Bool
 | .move _ | .assign _ | .pick .. | .build .. | .load .. | .nilCheck _ | .binOp .. | .unOp .. | .convert .. | .makeFunc .. | .slice .. | .fieldAddr .. | .field .. | .indexAddr .. | .index .. | .lookup .. | .extract .. => true
 | .call c=>match c.callee with
  | .builtin .len | .builtin .min | .builtin .max=>true
  | .value (.func f)=>match (adj cfg f).muts,(adj cfg f).frz with | [],false=>true | _,_=>false
  | _=>false
 | _=>false
def N3 (c:Bool) (A B:Prop):Prop:=match c with | true=>A | false=>B
def QG:List Oper->Nat->Option Oper
 | [],_=>none
 | o::_,0=>some o
 | _::l,n+1=>QG l n
def Mi (all:List Oper) (j:Nat):Option Nat:=match QG all j with
 | some o=>o.dst
 | none=>none
def Z8 (ups H:ic) (K:ic->Prop):Prop:=
 match ups with
 | []=>K H
 | u::l=>Z8 l H λ H'=>K (u::H')
def Z9 (dst:Option Nat) (v u:AV) (T U:List (Nat×AV)) (K:List (Nat×AV)->List (Nat×AV)->Prop):Prop:=
 match dst with
 | some d=>K ((d,v)::T) ((d,u)::U)
 | none=>K T U
def Ek:List PC->Nat->PC
 | [],_=>[]
 | p::_,0=>p
 | _::l,n+1=>Ek l n
def VI:List PC->Nat->(PC->Prop)->Prop
 | [],_,K=>K []
 | p::_,0,K=>K p
 | _::l,n+1,K=>VI l n K
def Im:List PC->PC->(List PC->Prop)->Prop
 | [],p,K=>K [p]
 | q::l,p,K=>Im l p λ l'=>K (q::l')
def isNone {α:Type}:Option α->Bool
 | none=>true
 | some _=>false
def Ti (all:List Oper) (nx:Nat):List Oper->Nat->List (Nat×AV)->List (Nat×AV)->ic->List PC->List Log->(St->List Log->Prop)->Prop
 | [],i,_,U,H,_,log,K=>K ⟨U,H,nx+stride*i⟩ log
 | o::rest,i,T,U,H,Vt,log,K=>
  match o.guard with
  | none=>ev Sp [] (hget H) (dV cfg (nx+stride*i) o.op (ND cfg (eH T))) [] λ v ups ud=>
    Z9 o.dst v v T U λ T' U'=>Z8 ups H λ H'=>Im Vt [] λ VJ=>Ti all nx rest (i+1) T' U' H' VJ (⟨ud,ids ups⟩::log) K
  | some (j,b)=>match Mi all j with
   | some d=>match eH T d with
    | .bool c=>match Xn cfg o.op with
     | true=>VI Vt j λ pcj=>ev Sp ((c,b)::pcj) (hget H) (dV cfg (nx+stride*i) o.op (ND cfg (eH T))) [] λ v ups ud=>
      match ups with
      | []=>Z9 o.dst v .undef T U λ T' U'=>Im Vt ((c,b)::pcj) λ VJ=>Ti all nx rest (i+1) T' U' H VJ (⟨ud,[]⟩::log) K
      | _::_=>False
     | false=>match Ek Vt j with
      | []=>N3 (c==b)
       (ev Sp [] (hget H) (dV cfg (nx+stride*i) o.op (ND cfg (eH T))) [] λ v ups ud=>
         Z9 o.dst v v T U λ T' U'=>Z8 ups H λ H'=>Im Vt [] λ VJ=>Ti all nx rest (i+1) T' U' H' VJ (⟨ud,ids ups⟩::log) K)
       (Z9 o.dst .undef .undef T U λ T' U'=>Im Vt [(c,b)] λ VJ=>Ti all nx rest (i+1) T' U' H VJ (⟨[],[]⟩::log) K)
      | _::_=>False
    | _=>False
   | none=>False
def N4 (all:List Oper) (i:Nat):Option (Nat×Bool):=match QG all i with
 | some o=>o.guard
 | none=>none
def chain (all:List Oper):Nat->Option (Nat×Bool)->List (Nat×Bool)
 | 0,_=>[]
 | _+1,none=>[]
 | f+1,some (j,b)=>(j,b)::chain all f (N4 all j)
def Xo (d:Option Nat) (t:Nat):Bool:=match d with
 | some x=>Nat.beq x t
 | none=>false
def p9 (t:Nat):List Oper->Nat->ap0
 | [],_=>[]
 | o::l,i=>match Xo o.dst t with
  | true=>i::p9 t l (i+1)
  | false=>p9 t l (i+1)
def writers (all:List Oper) (t:Nat):ap0:=p9 t all 0
def NF (all:List Oper):ap0->Bool
 | []=>true
 | i::l=>match N4 all i with
  | none=>NF all l
  | some _=>false
def eqB:Bool->Bool->Bool
 | true,true=>true
 | false,false=>true
 | _,_=>false
def adr (j:Nat) (b:Bool):List (Nat×Bool)->Bool
 | []=>false
 | (j',b')::l=>match Nat.beq j j',eqB b b' with
  | true,true=>true
  | _,_=>adr j b l
def Rv (all:List Oper) (k:Nat) (g:Option (Nat×Bool)) (t:Nat):Bool:=
 match writers all t with
 | [i]=>match N4 all i with
  | none=>true
  | some (j,b)=>match Nat.blt i k with
   | true=>adr j b (chain all 20 g)
   | false=>false
 | l=>NF all l
def Xp (all:List Oper) (k:Nat) (g:Option (Nat×Bool)) (c:Operand) (pol:Bool) (x:Operand):Bool:=
 match x with
 | .tmp t=>match Rv all k g t with
  | true=>true
  | false=>match c,writers all t with
   | .tmp ct,[i]=>match N4 all i,writers all ct,Nat.blt i k with
    | some (j,b),[jc],true=>match Nat.beq j jc,Nat.blt jc k with
     | true,true=>eqB b pol
     | _,_=>false
    | _,_,_=>false
   | _,_=>false
 | _=>true
def Gz (all:List Oper) (k:Nat) (g:Option (Nat×Bool)):Operand->Bool
 | .tmp t=>Rv all k g t
 | _=>true
def BK (all:List Oper) (k:Nat) (g:Option (Nat×Bool)):List Operand->Bool
 | []=>true
 | x::l=>match Gz all k g x with
  | true=>BK all k g l
  | false=>false
def Tj (all:List Oper) (k:Nat) (o:Oper):Bool:=
 match (match o.guard with
  | none=>true
  | some (j,_)=>match Nat.blt j k with
   | true=>match Mi all j with
    | some d=>match writers all d with
         | [j']=>Nat.beq j' j
         | _=>false
    | none=>false
   | false=>false)with
 | true=>match o.op with
  | .pick c x y=>match Gz all k o.guard c,Xp all k o.guard c true x with
   | true,true=>Xp all k o.guard c false y
   | _,_=>false
  | op=>BK all k o.guard op.operands.toList
 | false=>false
def nF (N:Nat) (all:List Oper):List Oper->Nat->Bool
 | [],_=>true
 | o::l,k=>match Tj all k o,(match o.dst with | some d=>Nat.blt d N | none=>true)with
  | true,true=>nF N all l (k+1)
  | _,_=>false
def before (all:List Oper):Nat->Nat->Nat->Bool
 | 0,_,_=>false
 | f+1,i,j=>match QG all j with
  | some o=>o.after.toList.any λ e=>Region.binds .any e&&Nat.blt e.on j&&(Nat.beq e.on i||before all f i e.on)
  | none=>false
def looks (all:List Oper) (o:Oper):ap0:=
 (o.op.operands.toList.filterMap λ | .tmp t=>some t | _=>none)++(match o.guard with | some (j,_)=>(Mi all j).toList | none=>[])
def isIn (d:Option Nat) (l:ap0):Bool:=match d with
 | some x=>vR x l
 | none=>false
def N5 (all:List Oper) (x y:Oper):Bool:=!isIn x.dst (looks all y)&&!isIn y.dst (looks all x)&&!isIn x.dst y.dst.toList
def El (all:List Oper) (j:Nat) (oj:Oper):List Oper->Nat->Bool
 | [],_=>true
 | o::l,i=>match Nat.blt i j with
  | true=>(N5 all o oj||before all 40 i j)&&El all j oj l (i+1)
  | false=>true
def Rw (o:Oper) (k:Nat):Bool:=o.after.toList.all λ e=>!Region.binds .any e||Nat.blt e.on k
def KL (all:List Oper):List Oper->Nat->Bool
 | [],_=>true
 | o::l,j=>Rw o j&&El all j o all 0&&KL all l (j+1)
def aac (N:Nat) (all:List Oper) (draw:Bool):Bool:=nF N all all 0&&(!draw||KL all all 0)
def eY (N:Nat):Code->Bool
 | .region _ ops draw=>aac N ops.toList draw
 | .seq a b=>eY N a&&eY N b
 | .cond _ a b=>eY N a&&eY N b
 | .block _ a=>eY N a
 | .loop a=>eY N a
 | .rangeFunc _ _ a b=>eY N a&&eY N b
 | .skip | .exit _ | .ret=>true
 | _=>false
def meets (l m:ap0):Bool:=match l with
 | []=>false
 | x::l'=>match vR x m with
  | true=>true
  | false=>meets l' m
def KM (all:List Oper) (j:Nat) (x:Log):List Log->Nat->Bool
 | [],_=>true
 | _::_,0=>true
 | y::l,i+1=>match meets x.VH y.ud,meets y.VH x.ud,meets y.VH x.VH with
  | false,false,false=>KM all j x l i
  | _,_,_=>match before all 40 i j with
   | true=>KM all j x l i
   | false=>false
def BB (all:List Oper):List Log->Nat->Bool
 | [],_=>true
 | _::_,0=>true
 | x::l,j+1=>match KM all j x l j with
  | true=>BB all l j
  | false=>false
def NG:Code->Nat
 | .region id _ _=>id
 | .seq a _=>NG a
 | .block _ a=>NG a
 | .loop a=>NG a
 | _=>1000000
def ig (ct:ap0) (L:Code->St->(Exit->St->Prop)->Prop):Code->St->(Exit->St->Prop)->Prop
 | .skip,s,K=>K .normal s
 | .region _ ops draw,⟨T,H,nx⟩,K=>Ti cfg Sp ops.toList nx ops.toList 0 T T H [] [] λ s' log=>
  match draw with
  | true=>match BB ops.toList log ops.toList.length with
   | true=>K .normal s'
   | false=>False
  | false=>K .normal s'
 | .seq a b,s,K=>match vR (NG b) ct with
  | true=>L (.seq a b) s K
  | false=>ig ct L a s λ e s'=>match e with
   | .normal=>ig ct L b s' K
   | e=>K e s'
 | .cond c x y,s,K=>match ND cfg (eH s.tmps) c with
  | .bool b=>N3 b (ig ct L x s K) (ig ct L y s K)
  | _=>False
 | .block id c,s,K=>ig ct L c s λ e s'=>match e with
  | .exit i=>match Nat.beq i id with
   | true=>K .normal s'
   | false=>K (.exit i) s'
  | e=>K e s'
 | .loop c,s,K=>L (.loop c) s K
 | .rangeFunc g ps a b,s,K=>L (.rangeFunc g ps a b) s K
 | .exit id,s,K=>K (.exit id) s
 | .ret,s,K=>K .ret s
 | _,_,_=>False
end run
inductive Le:AV->AV->Prop
 | refl (v:AV):Le v v
 | sl {es es' n n':Nat} {f f':Bool} {g g':Nat->AV} (hn:n=n') (he:n≠0->es=es') (hf:f'=true->f=true) (h:∀i,i<n->Le (g i) (g' i)):Le (.sl es n f g) (.sl es' n' f' g')
 | ro {cs cs':ap2} (hl:cs.length=cs'.length) (h:∀j,j<cs.length->Le (nth cs j) (nth cs' j)):Le (.ro cs) (.ro cs')
 | agg {cs cs':ap2} (hl:cs.length=cs'.length) (h:∀j,j<cs.length->Le (nth cs j) (nth cs' j)):Le (.agg cs) (.agg cs')
 | fP {cs cs':ap2} (hl:cs.length=cs'.length) (h:∀j,j<cs.length->Le (nth cs j) (nth cs' j)):Le (.fP cs) (.fP cs')
 | fn {f:FuncId} {cs cs':ap2} (hl:cs.length=cs'.length) (h:∀j,j<cs.length->Le (nth cs j) (nth cs' j)):Le (.fn f cs) (.fn f cs')
def KN:ap2->ap2->Prop
 | [],[]=>True
 | u::l,v::m=>Le u v/\KN l m
 | _,_=>False
def LeO:cI->cI->Prop
 | .box cs,.box cs'=>KN cs cs'
 | .row es n g,.row es' n' g'=>es=es'/\n=n'/\∀i,i<n->Le (g i) (g' i)
 | .map kd z f,.map kd' z' f'=>kd=kd'/\z=z'/\f=f'
 | _,_=>False
def afU:ap9->ap9->Prop
 | [],[]=>True
 | x::l,y::m=>LeO x y/\afU l m
 | _,_=>False
def oJ (ρ:List (Nat×Option Nat)) (o:Nat):Option Nat:=match look ρ o with
 | some x=>x
 | none=>some o
def N6 (H:ic) (o:Nat):Bool:=match hget H o with
 | some _=>true
 | none=>false
def jI (ρ:List (Nat×Option Nat)) (H':ic):Nat->AV->AV->Prop
 | 0,_,_=>False
 | f+1,u,v=>match v with
  | .undef=>True
  | .bool b'=>match u with | .bool b=>b=b' | _=>False
  | .int k' n'=>match u with | .int k n=>k=k'/\n=n' | _=>False
  | .str s'=>match u with | .str s=>s=s' | _=>False
  | .yp=>match u with | .yp=>True | _=>False
  | .mref o'=>match u with | .mref o=>N6 H' o'=true/\oJ ρ o'=some o | _=>False
  | .pm a' b' c'=>match u with | .pm a b c=>a=a'/\b=b'/\c=c' | _=>False
  | .sl es' n' f' g'=>match u with
   | .sl es n fu g=>n=n'/\(n≠0->es=es')/\(f'=true->fu=true)/\∀i,i<n->Le (g i) (g' i)
   | _=>False
  | .ro cs'=>match u with | .ro cs=>KN cs cs' | _=>False
  | .ptr o' i' off'=>match u with
   | .ptr o i off=>N6 H' o'=true/\oJ ρ o'=some o/\i=i'/\off=off'
   | _=>False
  | .bV o' i' n' f'=>match u with
   | .bV o i n fu=>N6 H' o'=true/\oJ ρ o'=some o/\i=i'/\n=n'/\(f'=true->fu=true)
   | .sl _ n fu _=>N6 H' o'=true/\oJ ρ o'=none/\fu=true/\n=0/\i'=0/\n'=0
   | _=>False
  | .agg cs'=>match u with | .agg cs=>Jm f cs cs' | _=>False
  | .fn f' cs'=>match u with | .fn fu cs=>fu=f'/\Jm f cs cs' | _=>False
  | .fP cs'=>match u with | .fP cs=>Jm f cs cs' | _=>False
 where
 Jm:Nat->ap2->ap2->Prop
  | 0,_,_=>False
  | _+1,[],[]=>True
  | f+1,u::l,v::m=>jI ρ H' f u v/\Jm f l m
  | _+1,_,_=>False
def afV (ρ:List (Nat×Option Nat)) (H':ic) (T:List (Nat×AV)):List (Nat×AV)->Prop
 | []=>True
 | (t,v)::l=>jI ρ H' fuel (eH T t) v/\afV ρ H' T l
def Tk (ρ:List (Nat×Option Nat)) (H':ic) (x y:cI):Prop:=
 match x,y with
 | .box cs,.box cs'=>jI.Jm ρ H' fuel cs cs'
 | .row es n g,.row es' n' g'=>es=es'/\n=n'/\∀i,i<n->Le (g i) (g' i)
 | .map kd z f,.map kd' z' f'=>kd=kd'/\z=z'/\f=f'
 | _,_=>False
def aad (ρ:List (Nat×Option Nat)) (H' H:ic):ic->Prop
 | []=>True
 | (_,none)::l=>aad ρ H' H l
 | (o',some y)::l=>(match oJ ρ o' with
  | some o=>match hget H o with
   | some x=>Tk ρ H' x y
   | none=>False
  | none=>match y with
   | .row _ n _=>n=0
   | _=>False)/\aad ρ H' H l
def N7 (ρ:List (Nat×Option Nat)):ic->ap0
 | []=>[]
 | (_,none)::l=>N7 ρ l
 | (o',some _)::l=>match oJ ρ o' with
  | some o=>o::N7 ρ l
  | none=>N7 ρ l
def Io (m nx:Nat) (ρ:List (Nat×Option Nat)):ic->Bool
 | []=>true
 | (o',_)::l=>match Nat.blt o' nx with
  | true=>match oJ ρ o' with
   | some o=>match Nat.beq o o' with
    | true=>Io m nx ρ l
    | false=>match Nat.ble m o' with
     | true=>Io m nx ρ l
     | false=>false
   | none=>match Nat.ble m o' with
    | true=>Io m nx ρ l
    | false=>false
  | false=>false
def afd:ic->Bool
 | []=>true
 | (o,_)::l=>match look l o with
  | some _=>false
  | none=>afd l
def VK (m:Nat) (ρ:List (Nat×Option Nat)) (s':St):Bool:=
 match Io m s'.nx ρ s'.heap,lx (N7 ρ s'.heap),afd s'.heap with
 | true,true,true=>Nat.ble m s'.nx
 | _,_,_=>false
structure Emb (m:Nat) (ρ:List (Nat×Option Nat)) (s s':St):Prop where
 BB:VK m ρ s'=true
 tmps:afV ρ s'.heap s.tmps s'.tmps
 heap:aad ρ s'.heap s.heap s'.heap
def upTo:Nat->Nat->ap0
 | 0,_=>[]
 | n+1,i=>i::upTo n (i+1)
def CA (cfg:qX) (s:St):List ResultVar->Option ap2
 | []=>some []
 | .tmp t::l=>match CA cfg s l with
  | some vs=>some (eH s.tmps t::vs)
  | none=>none
 | .cell ad ty::l=>match CA cfg s l,eH s.tmps ad,look cfg.ty ty with
  | some vs,.ptr o 0 0,some ti=>match hget s.heap o with
   | some (.box cs)=>match ti.agg with
    | true=>match Nat.ble ti.size cs.length with
     | true=>some (.agg (cs.take ti.size)::vs)
     | false=>none
    | false=>match cs with
     | c::_=>some (c::vs)
     | []=>none
   | some (.row _ n g)=>match N2 ti.desc,ti.agg with
    | some _,true=>match iC n 0 g with
     | cs=>match Nat.ble ti.size cs.length with
      | true=>some (.agg (cs.take ti.size)::vs)
      | false=>none
    | _,_=>none
   | _=>none
  | _,_,_=>none
def oneOf:ap2->AV
 | [v]=>v
 | vs=>.fP vs
def Rx (m:Nat) (r:AV):AV->ap0
 | .ptr o _ _=>match Nat.ble m o with
  | true=>[o]
  | false=>[]
 | .bV o _ _ _=>match r with
  | .bV .. => match Nat.ble m o with
   | true=>[o]
   | false=>[]
  | _=>[]
 | _=>[]
def N8 (H:ic):ap0->ap9->Prop
 | [],[]=>True
 | o::l,y::ys=>(match hget H o with
  | some x=>match NB x with
   | true=>Tk [] [] x y
   | false=>False
  | none=>False)/\N8 H l ys
 | _,_=>False
def BL (cfg:qX) (Sp:lk) (rs:List ResultVar) (m:Nat) (r:AV) (dt:ap9) (e:Exit) (s:St):Prop:=
 match (match e with | .normal=>true | .ret=>true | _=>false)with
 | true=>match CA cfg s rs with
  | some vs=>match oneOf vs with
   | v=>match upTo m 0++Rx m r v with
    | sg=>ev Sp [] (hget s.heap) (Gy sg v λ v' ids=>dy (lx sg) (dy (Ej ids sg) (iQ v'))) [] λ v' _ _=>jI [] (ly dt 0) fuel v' r/\N8 s.heap sg dt
  | none=>False
 | false=>False
 where ly:ap9->Nat->ic
 | [],_=>[]
 | x::l,i=>(i,some x)::ly l (i+1)
def N9:ap9->Nat->ic
 | [],_=>[]
 | x::l,i=>(i,gz x)::N9 l (i+1)
def CB:ap2->Nat->List (Nat×AV)
 | [],_=>[]
 | v::l,i=>(i,v)::CB l (i+1)
end Go.Ab
namespace Go.Ab
def jM:cj->Value
 | .s b=>.string b
 | .i n=>.int .i64 n
 | .p a b=>.agg #[.int .i64 a,.int .i64 b]
def KO (z:aqa) (n:Int):Value:=match z with
 | [.bool]=>.bool (n != 0)
 | [.int k]=>.int k n
 | _=>Go.undef
structure KP (kd:TD) (z:aqa) (f:cj->Option Int) (es:Array MapEntry):Prop where
 keys:∀e∈es.toList,∃k n,e.key=jM k/\nE kd k=true/\f k=some n/\e.val=KO z n
 uniq:es.toList.Pairwise λ e e'=>e.key≠e'.key
 all:∀k n,f k=some n->∃e∈es.toList,e.key=jM k
inductive eF (w:World) (I:Nat->Prop):AV->Value->Prop
 | undef (x:Value):eF w I .undef x
 | bool (b:Bool):eF w I (.bool b) (.bool b)
 | int (k:IntKind) (n:Int):eF w I (.int k n) (.int k n)
 | str (s:ByteArray):eF w I (.str s) (.string s)
 | yp:eF w I .yp (.pointer none)
 | pm {kd:TD} {z:aqa} {f:cj->Option Int} (b:Nat) (es:Array MapEntry) (clock:Nat) (hI:I b) (hw:w.heap[b]? = some (.map es clock)) (hm:KP kd z f es):eF w I (.pm kd z f) (.map (some b))
 | sl {es n:Nat} {full:Bool} {g:Nat->AV} {a:Option Addr} {cap:Nat} (b off:Nat) (vs:Nat->Nat->Value)
   (hcap:n<=cap) (hfull:full=true->cap=n) (ha:n≠0->a=some ⟨b,off,none⟩/\I b)
   (hes:∀i,i<n->(g i).cells.length=es)
   (hm:∀i j,i<n->j<es->w.cell? ⟨b,off+(i*es+j),none⟩=some (vs i j))
   (h1:∀i j,i<n->j<es->(vs i j).oneCell'=true)
   (hr:∀i j,i<n->j<es->eF w I (nth (g i).cells j) (vs i j)):eF w I (.sl es n full g) (.slice a n cap)
 | ro {cs:ap2} (b off:Nat) (vs:Nat->Value) (hI:I b)
   (hm:∀j,j<cs.length->w.cell? ⟨b,off+j,none⟩=some (vs j))
   (hr:∀j,j<cs.length->eF w I (nth cs j) (vs j)):eF w I (.ro cs) (.pointer (some ⟨b,off,none⟩))
 | agg {cs:ap2} {vs:Array Value} (hl:vs.size=cs.length) (hr:∀j,j<cs.length->eF w I (nth cs j) (vs.getD j Go.undef)):eF w I (.agg cs) (.agg vs)
 | fn {f:FuncId} {cs:ap2} {vs:Array Value} (hl:vs.size=cs.length) (hr:∀j,j<cs.length->eF w I (nth cs j) (vs.getD j Go.undef)):eF w I (.fn f cs) (.func (.func f) #[] vs)
 | fP {cs:ap2} {vs:Array Value} (hl:vs.size=cs.length) (hr:∀j,j<cs.length->eF w I (nth cs j) (vs.getD j Go.undef)):eF w I (.fP cs) (.tuple vs)
structure Own where
 es:Nat
 n:Nat
 pl:Option (Nat×Nat×Nat)
abbrev OM:=Nat->Option Own
inductive cQ (w:World) (I:Nat->Prop) (O:OM) (D:Nat->Prop):AV->Value->Prop
 | pure {v:AV} {x:Value} (h:eF w I v x):cQ w I O D v x
 | ptr {o i off b bo sz:Nat} {p:Own} (ho:O o=some p) (hp:p.pl=some (b,bo,sz)) (hi:i<p.n):cQ w I O D (.ptr o i off) (.pointer (some ⟨b,bo+(i*p.es+off),none⟩))
 | bV {o i n:Nat} {full:Bool} {p:Own} {a:Option Addr} {cap:Nat} (ho:O o=some p) (hi:i+n<=p.n) (hcap:n<=cap) (hfull:full=true->cap=n)
   (hpl:cap≠0->∃b bo sz,p.pl=some (b,bo,sz)/\a=some ⟨b,bo+i*p.es,none⟩/\bo+(i+cap)*p.es<=sz) (hext:p.n<=i+cap):cQ w I O D (.bV o i n full) (.slice a n cap)
 | mref {o b bo sz:Nat} {p:Own} (ho:O o=some p) (hp:p.pl=some (b,bo,sz)):cQ w I O D (.mref o) (.map (some b))
 | ue {o:Nat} {x:Value} (ho:O o=none) (hd:D o) (h1:x.oneCell'=true):cQ w I O D (.mref o) x
 | uh {o i off:Nat} {x:Value} (ho:O o=none) (hd:D o) (h1:x.oneCell'=true):cQ w I O D (.ptr o i off) x
 | qY {o i n:Nat} {full:Bool} {x:Value} (ho:O o=none) (hd:D o) (h1:x.oneCell'=true):cQ w I O D (.bV o i n full) x
 | agg {cs:ap2} {vs:Array Value} (hl:vs.size=cs.length) (hr:∀j,j<cs.length->cQ w I O D (nth cs j) (vs.getD j Go.undef)):cQ w I O D (.agg cs) (.agg vs)
 | fn {f:FuncId} {cs:ap2} {vs:Array Value} (hl:vs.size=cs.length) (hr:∀j,j<cs.length->cQ w I O D (nth cs j) (vs.getD j Go.undef)):cQ w I O D (.fn f cs) (.func (.func f) #[] vs)
 | fP {cs:ap2} {vs:Array Value} (hl:vs.size=cs.length) (hr:∀j,j<cs.length->cQ w I O D (nth cs j) (vs.getD j Go.undef)):cQ w I O D (.fP cs) (.tuple vs)
def CC (w:World) (b sz:Nat):Prop:=∀j,j<sz->(w.cell? ⟨b,j,none⟩).isSome=true/\w.frozen? ⟨b,j,none⟩=false
def cellAt (w:World) (b j:Nat):Value:=(w.cell? ⟨b,j,none⟩).getD Go.undef
structure qZ (w:World) (b bo sz:Nat):Prop where
 al:CC w b sz
 one:∀j,bo<=j->j<sz->(cellAt w b j).oneCell'=true
instance {w:World} {b bo sz:Nat}:CoeOut (qZ w b bo sz) (CC w b sz):=⟨qZ.al⟩
instance {w:World} {b bo sz:Nat}:CoeFun (qZ w b bo sz) (λ _=>∀j,j<sz->(w.cell? ⟨b,j,none⟩).isSome=true/\w.frozen? ⟨b,j,none⟩=false):=⟨λ h=>h.al⟩
def eV (w:World) (I:Nat->Prop) (O:OM) (D:Nat->Prop) (p:Own):cI->Prop
 | .box cs=>p.n=1/\∃b bo sz,p.pl=some (b,bo,sz)/\CC w b sz/\bo+cs.length<=sz/\∀j,j<cs.length->cQ w I O D (nth cs j) (cellAt w b (bo+j))
 | .row es n g=>p.n=n/\p.es=es/\(∀i,i<n->(g i).cells.length=es)/\((n=0/\p.pl=none)\/
   ∃b bo sz,p.pl=some (b,bo,sz)/\qZ w b bo sz/\bo+n*es<=sz/\∀i j,i<n->j<es->eF w I (nth (g i).cells j) (cellAt w b (bo+(i*es+j)))/\(cellAt w b (bo+(i*es+j))).oneCell'=true)
 | .map kd z f=>p.n=1/\∃b bo sz es clock,p.pl=some (b,bo,sz)/\w.heap[b]? = some (.map es clock)/\KP kd z f es
structure Ctx where
 w0:World
 M:Nat->Prop
 I0:Nat->Prop
 O0:OM
 m:Nat
 K:Nat->Obj->Prop
 rd:Bool
def GB:Obj->Bool
 | .cells .. | .map .. => false
 | _=>true
structure eK (w' w:World):Prop where
 os:w'.os=w.os
 tape:w'.tape=w.tape
 output:w'.output=w.output
 keep:∀(k:Nat) (o:Obj),w.heap[k]? = some o->GB o=true->w'.heap[k]? = some o
def eK.refl (w:World):eK w w:=⟨rfl,rfl,rfl,λ _ _ h _=>h⟩
def eK.trans {a b c:World} (h:eK a b) (k:eK b c):eK a c:=⟨h.os.trans k.os,h.tape.trans k.tape,h.output.trans k.output,λ i o hi ho=>h.keep i o (k.keep i o hi ho) ho⟩
variable {w':World}
def eK.heap {w:World} (h1:w'.os=w.os) (h2:w'.tape=w.tape) (h3:w'.output=w.output) (h:w'.heap=w.heap):eK w' w:=⟨h1,h2,h3,λ i o hi _=>by rw[h];exact hi⟩
def eK.alloc (w:World) (o:Obj):eK (w.alloc o) w:=⟨rfl,rfl,rfl,λ i x hi _=>by
 have hlt:i<w.heap.size:=by
  rcases aiZ i w.heap.size with h | h
  ·exact h
  rw[ajA h]at hi;cases hi
 show(w.heap.push o)[i]? = some x;rw[aoo hlt,<- hi,ahY hlt]⟩
structure Am (cx:Ctx) (w:World):Prop where
 same:eK w cx.w0
 kept:∀k o,cx.K k o->w.heap[k]? = some o/\GB o=true
def Am.step {cx:Ctx} {w:World} (h:Am cx w) (he:eK w' w):Am cx w':=⟨he.trans h.same,λ k o hk=>⟨he.keep k o (h.kept k o hk).1 (h.kept k o hk).2,(h.kept k o hk).2⟩⟩
structure Rel (cfg:qX) (cx:Ctx) (H:Nat->Option cI) (D:Nat->Prop) (w:World) (I:Nat->Prop) (O:OM):Prop where
 dom:∀o,O o=none↔H o=none
 used:∀o p,O o=some p->D o
 objs:∀o ob p,H o=some ob->O o=some p->eV w I O D p ob
 inj:∀o o' p p' b bo sz b' la sz',O o=some p->O o'=some p'->p.pl=some (b,bo,sz)->p'.pl=some (b',la,sz')->o≠o'->b≠b'
 lz:∀o p b bo sz,O o=some p->p.pl=some (b,bo,sz)->¬ I b
 lt:∀o p b bo sz,O o=some p->p.pl=some (b,bo,sz)->b<w.heap.size
 uX:∀b,I b->b<w.heap.size
 size:cx.w0.heap.size<=w.heap.size
 frame:∀b,b<cx.w0.heap.size->¬ cx.M b->w.heap[b]? = cx.w0.heap[b]?
 new:∀o p b bo sz,O o=some p->p.pl=some (b,bo,sz)->cx.w0.heap.size<=b\/cx.M b
 glob:∀g cs,look cfg.glob g=some cs->eF w I (.ro cs) (.pointer (some ⟨g,0,none⟩))
 Jf:∀b,cx.I0 b->I b
 KQ:∀b,I b->cx.I0 b\/cx.w0.heap.size<=b\/cx.M b
 NH:∀o,o<cx.m->O o=cx.O0 o\/O o=none
 Dm:∀o,o<cx.m->D o
 env:Am cx w
def pJ (l:ap2) (i:Nat):nth l i=l.getD i .undef:=by
 induction l generalizing i with
 | nil=>simp[nth]
 | cons v l ih=>cases i<;>simp[nth,ih]
variable {b:Nat}
def cell?_of_heap {w:World} {off:Nat} (h:w'.heap[b]? = w.heap[b]?):w'.cell? ⟨b,off,none⟩=w.cell? ⟨b,off,none⟩:=by
 simp[World.cell?, h]
def frozen?_of_heap {w:World} {off:Nat} (h:w'.heap[b]? = w.heap[b]?):w'.frozen? ⟨b,off,none⟩=w.frozen? ⟨b,off,none⟩:=by
 simp[World.frozen?, h]
def qZ.up {w:World} {bo la sz:Nat} (h:qZ w b bo sz) (hb:bo<=la):qZ w b la sz:=⟨h.al,λ j h1 h2=>h.one j (af3 hb h1) h2⟩
def qZ.of_heap {w:World} {bo sz:Nat} (h:qZ w b bo sz) (hh:w'.heap[b]? = w.heap[b]?):qZ w' b bo sz:=
 ⟨λ j hj=>by rw[cell?_of_heap hh,frozen?_of_heap hh];exact h.al j hj,λ j hb hj=>by rw[cellAt,cell?_of_heap hh];exact h.one j hb hj⟩
variable {I':Nat->Prop} {v:AV} {x:Value}
def eF.mono {w:World} {I:Nat->Prop} (hI:∀b,I b->I' b) (hw:∀b,I b->w'.heap[b]? = w.heap[b]?) (h:eF w I v x):eF w' I' v x:=by
 induction h with
 | undef x=>exact .undef x
 | bool b=>exact .bool b
 | int k n=>exact .int k n
 | str s=>exact .str s
 | yp=>exact .yp
 | pm b es clock h1 h2 h3=>exact .pm b es clock (hI _ h1) (by rw[hw _ h1];exact h2) h3
 | @sl es n full g a cap b off vs hcap hfull ha hes hm h1 hr ih=>
  refine .sl b off vs hcap hfull (λ h=>⟨(ha h).1,hI _ (ha h).2⟩) hes (λ i j hi hj=>?_) h1 ih;rw[cell?_of_heap (hw _ (ha om).2)];exact hm i j hi hj
 | ro b off vs h1 hm hr ih=>
  refine .ro b off vs (hI _ h1) (λ j hj=>?_) ih;rw[cell?_of_heap (hw _ h1)];exact hm j hj
 | agg hl hr ih=>exact .agg hl ih
 | fn hl hr ih=>exact .fn hl ih
 | fP hl hr ih=>exact .fP hl ih
theorem cQ.mono {w:World} {I:Nat->Prop} {O O':OM} {D D':Nat->Prop} (hI:∀b,I b->I' b) (hw:∀b,I b->w'.heap[b]? = w.heap[b]?)
  (hO:∀o,D o->O' o=O o\/O' o=none) (hD:∀o,D o->D' o) (hu:∀o p,O o=some p->D o) {v:AV} {x:Value} (h:cQ w I O D v x):cQ w' I' O' D' v x:=by
 induction h with
 | pure h=>exact .pure (h.mono hI hw)
 | @ptr o i off b bo sz p ho hp hi=>
  rcases hO o (hu o p ho)with h | h
  ·exact .ptr (h.trans ho) hp hi
  exact .uh h (hD _ (hu o p ho)) rfl
 | @bV o i n full p a cap ho hi hcap hfull hpl hext=>
  rcases hO o (hu o p ho)with h | h
  ·exact .bV (h.trans ho) hi hcap hfull hpl hext
  exact .qY h (hD _ (hu o p ho)) rfl
 | @mref o b bo sz p ho hp=>
  rcases hO o (hu o p ho)with h | h
  ·exact .mref (h.trans ho) hp
  exact .ue h (hD _ (hu o p ho)) rfl
 | @ue o x ho hd h1=>
  rcases hO o hd with h | h
  ·exact .ue (h.trans ho) (hD _ hd) h1
  exact .ue h (hD _ hd) h1
 | @uh o i off x ho hd h1=>
  rcases hO o hd with h | h
  ·exact .uh (h.trans ho) (hD _ hd) h1
  exact .uh h (hD _ hd) h1
 | @qY o i n full x ho hd h1=>
  rcases hO o hd with h | h
  ·exact .qY (h.trans ho) (hD _ hd) h1
  exact .qY h (hD _ hd) h1
 | agg hl hr ih=>exact .agg hl ih
 | fn hl hr ih=>exact .fn hl ih
 | fP hl hr ih=>exact .fP hl ih
def Em:ZK->Value->Prop
 | .bool,x=>x=.bool false
 | .int k,x=>x=.int k 0
 | .str,x=>x=.string ByteArray.empty
 | .slice,x=>x=.slice none 0 0
 | .ptr,x=>x=.pointer none
 | .other,x=>x.oneCell'=true
def aaf:TD->TypeDesc->Prop
 | .bool,d=>d=.bool
 | .int k,d=>d=.int k
 | .str,d=>d=.string
 | .slice e,d=>d=.slice e
 | .pointer e,d=>d=.pointer e
 | .map k e,d=>d=.map k e
 | .array n e,d=>d=.array n e
 | .struct fs,d=>∃fields:Array Field,d=.struct fields/\fields.toList.map (λ f=>(f.offset,f.type))=fs
 | .other,_=>True
structure aib (P:Program) (t:TypeId) (ti:Gw):Prop where
 ex:∃i d z,P.info? t=some i/\P.underlying t=some d/\i.zero=some z/\i.size=ti.size/\i.bytes=ti.bytes/\d.isRow=ti.agg/\z.cells.size=ti.size/\
  ti.zero.length=ti.size/\(∀j,j<ti.size->Em (ti.zero.getD j .other) (z.cells.getD j Go.undef))/\aaf ti.desc d
 one:ti.agg=false->∀i z,P.info? t=some i->i.zero=some z->z.cells=#[z]
def Mj (P:Program):TypeDesc->Prop
 | .struct fields=>∀f∈fields.toList,(P.info? f.type).isSome=true
 | _=>True
def Ry:ZK->TypeDesc->Prop
 | .bool,d=>d=.bool
 | .int k,d=>d=.int k
 | .str,d=>d=.string
 | _,_=>False
def ads (P:Program) (ok:TypeId->aqa->Prop):List Field->aqa->Nat->Prop
 | [],[],_=>True
 | f::fs,zs,k=>f.name ≠ "_" /\ f.offset=k/\∃z1 z2,zs=z1++z2/\((∃z d,z1=[z]/\P.underlying f.type=some d/\Ry z d)\/(ok f.type z1/\P.cellsOf f.type=z1.length))/\ads P ok fs z2 (k+z1.length)
 | _,_,_=>False
def EqT (P:Program):Nat->TypeId->aqa->Prop
 | 0,_,_=>False
 | n+1,t,zs=>∃fields,P.underlying t=some (.struct fields)/\P.stoodInHeld t=false/\ads P (EqT P n) fields.toList zs 0
structure aic (P:Program) (t:TypeId) (zs:aqa):Prop where
 ex:EqT P 4 t zs
 guard:P.eqGuardType P.depth t=false
structure ej (P:Program) (cfg:qX):Prop where
 ty:∀t ti,look cfg.ty t=some ti->aib P t ti
 fields:∀t ti d,look cfg.ty t=some ti->P.underlying t=some d->Mj P d
 mixed:P.follows .mixedOrders=true
 eqs:∀t zs,look cfg.eqs t=some zs->aic P t zs
def jJ (H:Nat->Option cI) (ups:ic):Nat->Option cI:=λ o=>match look ups o with | some x=>x | none=>H o
inductive dg (Sp:lk) (H:Nat->Option cI):Pg->AV->ic->ap0->Prop
 | ret (v:AV) (ups:ic):dg Sp H (.ret v ups) v ups []
 | need {p:Prop} [d:Decidable p] {k:Pg} {v:AV} {ups:ic} {r:ap0} (hp:p) (h:dg Sp H k v ups r):dg Sp H (.need p k) v ups r
 | rd {o:Nat} {x:cI} {k:cI->Pg} {v:AV} {ups:ic} {r:ap0} (ho:H o=some x) (h:dg Sp H (k x) v ups r):dg Sp H (.rd o k) v ups (o::r)
 | call {f:FuncId} {args:ap2} {obs:ap9} {k:AV->ap9->Pg} {x:AV} {dt:ap9} {v:AV} {ups:ic} {r:ap0} (hs:Sp f args obs x dt)
   (h:dg Sp H (k x dt) v ups r):dg Sp H (.call f args obs k) v ups r
def hof:ap9->Nat->Option cI
 | [],_=>none
 | x::_,0=>some x
 | _::l,n+1=>hof l n
def zE:ap9->Nat->Option cI
 | [],_=>none
 | x::_,0=>gz x
 | _::l,n+1=>zE l n
def Yp:∀ {l:ap9} {j:Nat} {x:cI},zE l j=some x->hof l j=some x/\NZ x=false:=by
 intro l;induction l with
 | nil=>intro j x h;cases h
 | cons y l ih=>
  intro j x h;cases j with
  | zero=>
   simp only[zE,gz]at h;split at h
   ·cases h
   rename_i hg;cases h;exact⟨rfl,hg⟩
  | succ j=>exact ih h
def adt:∀ {l:ap9},(∀j x,hof l j=some x->NZ x=false)->zE l=hof l:=by
 intro l;induction l with
 | nil=>intro _;rfl
 | cons y l ih=>
  intro h;funext j;cases j with
  | zero=>have:=h 0 y rfl;simp only[zE,hof,gz,this]
  | succ j=>exact congrFun (ih λ j x hx=>h (j+1) x hx) j
def DY (w:World) (I:Nat->Prop) (O:OM) (m:Nat):Ctx:=⟨w,λ b=>∃o p bo sz,O o=some p/\p.pl=some (b,bo,sz),I,O,m,λ _ _=>False,false⟩
def Spec (P:Program) (cfg:qX):lk:=λ f args obs r dt=>
 (∃fn,P.funcs[f]? = some fn/\fn.body.isNone=false/\(fn.name == "runtime.NumGoroutine")=false)/\obs.length<=dt.length/\
 ∀(w:World) (I:Nat->Prop) (O:OM) (vals:Array Value),Rel cfg (DY w I O obs.length) (hof obs) (λ o=>o<obs.length) w I O->
  vals.size=args.length->(∀j,j<args.length->cQ w I O (λ o=>o<obs.length) (nth args j) (vals.getD j Go.undef))->
  Calls P f vals w λ e w'=>∃x I' O',e=.returned x/\Rel cfg (DY w I O obs.length) (zE dt) (λ o=>o<dt.length) w' I' O'/\
   cQ w' I' O' (λ o=>o<dt.length) r x
section
variable {P:Program} {cfg:qX} {cx:Ctx} {H:Nat->Option cI} {D:Nat->Prop} {w:World} {I:Nat->Prop} {O:OM}
def xg (D:Nat->Prop) (n:Nat):Nat->Prop:=λ o=>D o\/(n<=o/\o<n+stride)
def Oa (D:Nat->Prop) (n:Nat):Prop:=∀o,n<=o->o<n+stride->¬ D o
variable {n:Nat}
def Oa.one {D:Nat->Prop} (h:Oa D n):¬ D n:=h n (afM _) (by unfold stride;omega)
variable {o:Nat}
def KR {D:Nat->Prop} (h:o=n):xg D n o:=.inr ⟨by omega,by unfold stride;omega⟩
def dh (P:Program) (cfg:qX) (cx:Ctx) (H:Nat->Option cI) (D:Nat->Prop) (w:World) (I:Nat->Prop) (O:OM) (cH:Nat) (o:Oper) (a:Act) (v:AV) (ups:ic):Prop:=
 ∀(next:Act->World->Prop) (Q:Exit->Act->World->Prop),
  (∀x w' I' O',Rel cfg cx (jJ H ups) (xg D cH) w' I' O'->(∀u y,cQ w I O D u y->cQ w' I' O' (xg D cH) u y)->cQ w' I' O' (xg D cH) v x->next (a.put o.dst x) w')->
  o.wp P a w next Q
def xh (H:Nat->Option cI):jJ H []=H:=rfl
theorem eV.mono {O':OM} {D':Nat->Prop} {p:Own} {ob:cI} (hI:∀b,I b->I' b) (hw:∀b,I b->w'.heap[b]? = w.heap[b]?)
  (hO:∀o,D o->O' o=O o\/O' o=none) (hD:∀o,D o->D' o) (hu:∀o p,O o=some p->D o) (hb:∀b bo sz,p.pl=some (b,bo,sz)->w'.heap[b]? = w.heap[b]?)
  (h:eV w I O D p ob):eV w' I' O' D' p ob:=by
 cases ob with
 | box cs=>
  obtain⟨h1,b,bo,sz,hp,ha,hl,hc⟩:=h;have hh:=hb b bo sz hp;refine⟨h1,b,bo,sz,hp,λ j hj=>?_,hl,λ j hj=>?_⟩
  ·rw[cell?_of_heap hh,frozen?_of_heap hh];exact ha j hj
  rw[cellAt,cell?_of_heap hh];exact(hc j hj).mono hI hw hO hD hu
 | row es n g=>
  obtain⟨h1,h2,h3,h4⟩:=h;refine⟨h1,h2,h3,?_⟩;rcases h4 with h4 | ⟨b,bo,sz,hp,ha,hl,hc⟩
  ·exact .inl h4
  have hh:=hb b bo sz hp;refine .inr ⟨b,bo,sz,hp,ha.of_heap hh,hl,λ i j hi hj=>?_⟩
  ·rw[cellAt,cell?_of_heap hh];exact⟨(hc i j hi hj).1.mono hI hw,(hc i j hi hj).2⟩
 | map kd z f=>
  obtain⟨h1,b,bo,sz,es,clock,hp,hw2,hm⟩:=h;exact⟨h1,b,bo,sz,es,clock,hp,by rw[hb b bo sz hp];exact hw2,hm⟩
def Rel.sI (hR:Rel cfg cx H D w I O) (n:Nat):Rel cfg cx H (xg D n) w I O:=
 { hR with
  used:=λ o p h=>.inl (hR.used o p h)
  objs:=λ o ob p h h'=>(hR.objs o ob p h h').mono (λ _ h=>h) (λ _ _=>rfl) (λ _ _=>.inl rfl) (λ _ h=>.inl h) hR.used (λ _ _ _ _=>rfl)
  Dm:=λ o h=>.inl (hR.Dm o h) }
def cQ.sI (hR:Rel cfg cx H D w I O) (n:Nat) (h:cQ w I O D v x):cQ w I O (xg D n) v x:=
 h.mono (λ _ h=>h) (λ _ _=>rfl) (λ _ _=>.inl rfl) (λ _ h=>.inl h) hR.used
def oy {o:Oper} {a:Act} {next:Act->World->Prop} {Q:Exit->Act->World->Prop} (h:(execOp a.eval o).run P w=.ok (.value x) w') (hn:next (a.put o.dst x) w'):o.wp P a w next Q:=by
 unfold Oper.wp;rw[h];exact hn
def dh.cT {cH:Nat} {o:Oper} {a:Act} (hR:Rel cfg cx H D w I O) (h:(execOp a.eval o).run P w=.ok (.value x) w) (hv:cQ w I O D v x):dh P cfg cx H D w I O cH o a v []:=by
 intro next Q hn
 exact oy h (hn x w I O (by rw[xh];exact hR.sI cH) (λ u y hu=>hu.sI hR cH) (hv.sI hR cH))
def cQ.je {b:Bool} (h:cQ w I O D (.bool b) x):x=.bool b:=by
 cases h with | pure h=>cases h;rfl
def cQ.eP {k:IntKind} {n:Int} (h:cQ w I O D (.int k n) x):x=.int k n:=by
 cases h with | pure h=>cases h;rfl
def cQ.vS {s:ByteArray} (h:cQ w I O D (.str s) x):x=.string s:=by
 cases h with | pure h=>cases h;rfl
def cQ.xi {es:Nat} {f:Bool} {g:Nat->AV} (h:cQ w I O D (.sl es n f g) x):eF w I (.sl es n f g) x:=by
 cases h with | pure h=>exact h
variable {cs:ap2}
def cQ.Ob (h:cQ w I O D (.ro cs) x):eF w I (.ro cs) x:=by
 cases h with | pure h=>exact h
def cQ.nG (h:cQ w I O D (.agg cs) x):∃vs:Array Value,x=.agg vs/\vs.size=cs.length/\∀j,j<cs.length->cQ w I O D (nth cs j) (vs.getD j Go.undef):=by
 cases h with
 | pure h=>cases h with | agg hl hr=>exact⟨_,rfl,hl,λ j hj=>.pure (hr j hj)⟩
 | agg hl hr=>exact⟨_,rfl,hl,hr⟩
def cQ.BM (h:cQ w I O D (.fP cs) x):∃vs:Array Value,x=.tuple vs/\vs.size=cs.length/\∀j,j<cs.length->cQ w I O D (nth cs j) (vs.getD j Go.undef):=by
 cases h with
 | pure h=>cases h with | fP hl hr=>exact⟨_,rfl,hl,λ j hj=>.pure (hr j hj)⟩
 | fP hl hr=>exact⟨_,rfl,hl,hr⟩
def cQ.En {f:FuncId} (h:cQ w I O D (.fn f cs) x):∃vs:Array Value,x=.func (.func f) #[] vs/\vs.size=cs.length/\∀j,j<cs.length->cQ w I O D (nth cs j) (vs.getD j Go.undef):=by
 cases h with
 | pure h=>cases h with | fn hl hr=>exact⟨_,rfl,hl,λ j hj=>.pure (hr j hj)⟩
 | fn hl hr=>exact⟨_,rfl,hl,hr⟩
variable {p:Own}
def cQ.lA {i off:Nat} (ho:O o=some p) (h:cQ w I O D (.ptr o i off) x):∃b bo sz,p.pl=some (b,bo,sz)/\i<p.n/\x=.pointer (some ⟨b,bo+(i*p.es+off),none⟩):=by
 cases h with
 | pure h=>cases h
 | @ptr _ _ _ b bo sz p' ho' hp hi=>
  have:p'=p:=ah1 (ho'.symm.trans ho);subst this;exact⟨b,bo,sz,hp,hi,rfl⟩
 | uh ho'=>rw[ho]at ho';cases ho'
theorem cQ.jD {i:Nat} {full:Bool} (ho:O o=some p) (h:cQ w I O D (.bV o i n full) x):∃a cap,x=.slice a n cap/\i+n<=p.n/\n<=cap/\(full=true->cap=n)/\
  (cap≠0->∃b bo sz,p.pl=some (b,bo,sz)/\a=some ⟨b,bo+i*p.es,none⟩/\bo+(i+cap)*p.es<=sz):=by
 cases h with
 | pure h=>cases h
 | @bV _ _ _ _ p' a cap ho' hi hcap hfull hpl hext=>
  have:p'=p:=ah1 (ho'.symm.trans ho);subst this;exact⟨a,cap,rfl,hi,hcap,hfull,hpl⟩
 | qY ho'=>rw[ho]at ho';cases ho'
def cQ.yD {i n' cap:Nat} {full:Bool} {aa:Option Addr} (ho:O o=some p) (h:cQ w I O D (.bV o i n full) (.slice aa n' cap)):p.n<=i+cap:=by
 cases h with
 | pure h=>cases h
 | @bV _ _ _ _ p' a cap ho' hi hcap hfull hpl hext=>
  have:p'=p:=ah1 (ho'.symm.trans ho);subst this;exact hext
 | qY ho'=>rw[ho]at ho';cases ho'
def cQ.rb (ho:O o=some p) (h:cQ w I O D (.mref o) x):∃b bo sz,p.pl=some (b,bo,sz)/\x=.map (some b):=by
 cases h with
 | pure h=>cases h
 | @mref _ b bo sz p' ho' hp=>
  have:p'=p:=ah1 (ho'.symm.trans ho);subst this;exact⟨b,bo,sz,hp,rfl⟩
 | ue ho'=>rw[ho]at ho';cases ho'
def cQ.afW {kd:TD} {z:aqa} {f:cj->Option Int} (h:cQ w I O D (.pm kd z f) x):∃b es clock,I b/\w.heap[b]? = some (.map es clock)/\KP kd z f es/\x=.map (some b):=by
 cases h with
 | pure h=>cases h with
  | pm b es clock h1 h2 h3=>exact⟨b,es,clock,h1,h2,h3,rfl⟩
def Oc (h:cQ w I O D v x) (hk:NW v=true):x.oneCell'=true:=by
 cases h with
 | pure h=>cases h<;>first | rfl | cases hk
 | ptr=>rfl
 | bV=>rfl
 | mref=>rfl
 | ue _ _ h1=>exact h1
 | uh _ _ h1=>exact h1
 | qY _ _ h1=>exact h1
 | agg=>cases hk
 | fn=>rfl
 | fP=>cases hk
def Mk {l:ap2} (h:BG l=true):∀j,j<l.length->NW (nth l j)=true:=by
 induction l with
 | nil=>intro j hj;cases hj
 | cons v l ih=>
  intro j hj;unfold BG at h;cases hv:NW v with
  | false=>simp[hv]at h
  | true=>
   simp only[hv]at h;cases j with
   | zero=>exact hv
   | succ j=>exact ih h j (by simpa using hj)
def cQ.cells (h:cQ w I O D v x) (hk:BG v.cells=true):x.cells.size=v.cells.length/\∀j,j<v.cells.length->cQ w I O D (nth v.cells j) (x.cells.getD j Go.undef)/\(x.cells.getD j Go.undef).oneCell'=true:=by
 have one:∀ {v:AV} {x:Value},cQ w I O D v x->v.cells=[v]->NW v=true->x.cells.size=v.cells.length/\∀j,j<v.cells.length->cQ w I O D (nth v.cells j) (x.cells.getD j Go.undef)/\(x.cells.getD j Go.undef).oneCell'=true:=by
  intro v x h hc ho;have h1:=Oc h ho;have hx:x.cells=#[x]:=by cases x<;>first | rfl | cases h1
  rw[hc,hx];refine⟨rfl,λ j hj=>?_⟩;have:j=0:=by simpa using hj
  subst this;exact⟨h,h1⟩
 cases v with
 | agg cs=>
  obtain⟨vs,rfl,hl,hr⟩:=h.nG;exact⟨hl,λ j hj=>⟨hr j hj,Oc (hr j hj) (Mk hk j hj)⟩⟩
 | undef=>cases hk
 | fP vs=>cases hk
 | _=>exact one h rfl rfl
end
end Go.Ab
namespace Go.Ab
section
variable {P:Program} {cfg:qX} {cx:Ctx} {H:Nat->Option cI} {D:Nat->Prop} {w:World} {I:Nat->Prop} {O:OM} {Sp:lk}
variable {v':AV} {qH:ic}
def dg.ik {v:AV} {ups:ic} {r:ap0} (h:dg Sp H (.ret v ups) v' qH r):v'=v/\qH=ups:=by cases h;exact⟨rfl,rfl⟩
def dg.rf {p:Prop} [Decidable p] {k:Pg} {v':AV} {qH:ic} {r:ap0} (h:dg Sp H (.need p k) v' qH r):p/\dg Sp H k v' qH r:=by cases h with | need hp h=>exact⟨hp,h⟩
def dg.kg {o:Nat} {k:cI->Pg} {r:ap0} (h:dg Sp H (.rd o k) v' qH r):∃x r',H o=some x/\dg Sp H (k x) v' qH r':=by cases h with | rd ho h=>exact⟨_,_,ho,h⟩
def dg.ba {r:ap0} (h:dg Sp H .fail v' qH r):False:=by cases h
def dg.eZ {p:Prop} [Decidable p] {v v':AV} {qH:ic} {r:ap0} (h:dg Sp H (kv p v) v' qH r):p/\v'=v/\qH=[]:=by
 obtain⟨hp,h⟩:=dg.rf h;exact⟨hp,h.ik⟩
def dg.dp {v:AV} {r:ap0} (h:dg Sp H (iQ v) v' qH r):v'=v/\qH=[]:=h.ik
def dg.bK {b:Bool} {k:Pg} {r:ap0} (h:dg Sp H (dy b k) v' qH r):b=true/\dg Sp H k v' qH r:=by
 cases b with
 | true=>exact⟨rfl,h⟩
 | false=>exact(dg.ba h).elim
def dg.wQ {v:AV} {k:ap2->Pg} {r:ap0} (h:dg Sp H (Eh v k) v' qH r):BG v.cells=true/\dg Sp H (k v.cells) v' qH r:=by
 unfold Eh at h;cases hb:BG v.cells with
 | true=>simp only[hb]at h;exact⟨rfl,h⟩
 | false=>simp only[hb]at h;exact(dg.ba h).elim
variable {t:TypeId}
def dg.iT {k:Gw->Pg} {r:ap0} (h:dg Sp H (KJ cfg t k) v' qH r):∃ti,look cfg.ty t=some ti/\dg Sp H (k ti) v' qH r:=by
 unfold KJ at h;cases hb:look cfg.ty t with
 | some ti=>simp only[hb]at h;exact⟨ti,rfl,h⟩
 | none=>simp only[hb]at h;exact(dg.ba h).elim
def dg.lZ {k:Gw->Pg} {r:ap0} (h:dg Sp H (xe cfg t k) v' qH r):∃tt e ti,look cfg.ty t=some tt/\tt.desc=.slice e/\look cfg.ty e=some ti/\dg Sp H (k ti) v' qH r:=by
 unfold xe at h;cases hb:look cfg.ty t with
 | some tt=>
  simp only[hb]at h;cases hd:tt.desc with
  | slice e=>
   simp only[hd]at h;obtain⟨ti,h1,h2⟩:=h.iT;exact⟨tt,e,ti,rfl,hd,h1,h2⟩
  | _=>simp only[hd]at h;exact(dg.ba h).elim
 | none=>simp only[hb]at h;exact(dg.ba h).elim
def ej.slice (hc:ej P cfg) {e:TypeId} {tt ti:Gw} (h:look cfg.ty t=some tt) (hd:tt.desc=.slice e) (h':look cfg.ty e=some ti):
  P.underlying t=some (.slice e)/\∃i z,P.info? e=some i/\i.zero=some z/\i.size=ti.size/\i.bytes=ti.bytes/\z.cells.size=ti.size:=by
 obtain⟨i,d,z,_,hu,_,_,_,_,_,_,_,hm⟩:=(hc.ty t tt h).ex;rw[hd]at hm;obtain⟨i',d',z',h1,_,h2,h3,h4,_,h5,_⟩:=(hc.ty e ti h').ex;exact⟨by rw[hu,hm],i',z',h1,h2,h3,h4,h5⟩
def dG {i:TypeInfo} (h:P.info? t=some i) (w:World):(sizeOf t).run P w=.ok i.size w:=by
 simp[sizeOf,typeInfo,h]
def bG {d:TypeDesc} (h:P.underlying t=some d) (w:World):(underlying t).run P w=.ok d w:=by
 simp[underlying,h]
variable {cH:Nat} {o:Oper} {a:Act} {ρ:Operand->AV} {v:AV} {ups:ic} {r:ap0}
variable {x:Operand}
def adu (hR:Rel cfg cx H D w I O) (ho:o.op=.move x) (hx:cQ w I O D (ρ x) (a.eval x)):dh P cfg cx H D w I O cH o a (ρ x) []:=
 dh.cT hR (by simp[execOp,ho]) hx
def Yq (hR:Rel cfg cx H D w I O) (ho:o.op=.assign x) (hx:cQ w I O D (ρ x) (a.eval x)):dh P cfg cx H D w I O cH o a (ρ x) []:=
 dh.cT hR (by simp[execOp,ho]) hx
def Yr (c:Value) (ho:ofConst c≠.undef):∀ {x:Value},x=c->cQ w I O D (ofConst c) x:=by
 intro x hx;subst hx;refine .pure ?_;unfold ofConst;split
 ·exact .bool _
 ·exact .int _ _
 ·exact .str _
 ·exact .sl 0 0 (λ _ _=>Go.undef) (afM _) (λ _=>rfl) (λ h=>absurd rfl h) (λ i h=>by cases h) (λ i j h=>by cases h) (λ i j h=>by cases h) (λ i j h=>by cases h)
 ·exact .yp
 rename_i h1 h2 h3 h4 h5;exact .undef _
def VL (c:Value):cQ w I O D (ofConst c) c:=by
 by_cases h:ofConst c=.undef
 ·rw[h];exact .pure (.undef _)
 exact Yr c h rfl
theorem adv (hR:Rel cfg cx H D w I O) {c y:Operand} (ho:o.op=.pick c x y) (hc:cQ w I O D (ρ c) (a.eval c))
  (hx:∀b,ρ c=.bool b->b=true->cQ w I O D (ρ x) (a.eval x)) (hy:∀b,ρ c=.bool b->b=false->cQ w I O D (ρ y) (a.eval y))
  (hcx:∀v,x=.const v->ρ x=ofConst v/\a.eval x=v) (hcy:∀v,y=.const v->ρ y=ofConst v/\a.eval y=v)
  (h:dg Sp H (VE (ρ c) x y (ρ x) (ρ y)) v ups r):dh P cfg cx H D w I O cH o a v ups:=by
 cases hcv:ρ c with
 | bool b=>
  rw[hcv]at hc h;have hb:=hc.je;have hx':=hx b hcv;have hy':=hy b hcv;have run:(execOp a.eval o).run P w=.ok (.value (if b then a.eval x else a.eval y)) w:=by
   simp[execOp,ho,hb,asBool]
  unfold VE at h;simp only at h;split at h
  ·rename_i hz;obtain⟨rfl,rfl⟩:=h.dp;obtain⟨_,e2⟩:=hcy _ rfl;refine dh.cT hR run ?_;cases b with
   | true=>have:=(hx' rfl);rw[hz]at this;rw[this.je];exact .pure (.bool _)
   | false=>rw[e2];exact .pure (.bool _)
  ·rename_i hz _;obtain⟨rfl,rfl⟩:=h.dp;obtain⟨_,e2⟩:=hcx _ rfl;refine dh.cT hR run ?_;cases b with
   | true=>simp only[apa];rw[e2];exact .pure (.bool _)
   | false=>have:=(hy' rfl);rw[hz]at this;simp only[anp,apx];rw[this.je];exact .pure (.bool _)
  ·rename_i h1 h2;obtain⟨rfl,rfl⟩:=h.dp;refine dh.cT hR run ?_;cases b with
   | true=>have:=(hx' rfl);rw[h1]at this;rw[this.je];exact .pure (.bool _)
   | false=>have:=(hy' rfl);rw[h2]at this;simp only[anp,apx];rw[this.je];exact .pure (.bool _)
  ·obtain⟨rfl,rfl,rfl⟩:=h.eZ;refine dh.cT hR run ?_;simpa using hy' rfl
  ·obtain⟨rfl,rfl,rfl⟩:=h.eZ;refine dh.cT hR run ?_;simpa using hx' rfl
  exact(dg.ba h).elim
 | _=>rw[hcv]at h;exact(dg.ba h).elim
def wrap_i64 {n:Int} (h:av n):IntKind.i64.wrap n=n:=IntWalk.i64_in _ ⟨h.1,h.2⟩
def run_equal_bool (hu:P.underlying t=some .bool) (a b:Bool) (w:World):(Op.equal t (.bool a) (.bool b)).run P w=.ok (a==b) w:=by
 have:∀d,(Op.equalIn (d+1) t (.bool a) (.bool b)).run P w=.ok (a==b) w:=λ d=>by
  simp[Op.equalIn,bG hu]
 exact this 9999
def vT {d:TypeDesc} (hu:P.underlying t=some d) (hd:d.isRow=false) (vs:Array Value) (i:Nat) (hi:i<vs.size) (w:World):(part t vs i).run P w=.ok (vs.getD i Go.undef) w:=by
 have hag:(isAgg t).run P w=.ok false w:=by
  unfold isAgg;rw[Sem.run_bind,bG hu w];cases d<;>simp at hd ⊢
 simp[part,Sem.run_bind,hag,ahY hi]
def QH:∀(a b:ap2) {j:Nat},j<a.length->nth (a++b) j=nth a j:=by
 intro a;induction a with
 | nil=>intro b j h;exact absurd h (ag9 _)
 | cons x a ih=>intro b j h;cases j with
  | zero=>rfl
  | succ j=>exact ih b (by simpa using h)
def QI:∀(a b:ap2) (j:Nat),nth (a++b) (a.length+j)=nth b j:=by
 intro a;induction a with
 | nil=>intro b j;simp
 | cons x a ih=>intro b j;rw[ahP,show a.length+1+j=(a.length+j)+1 by omega];exact ih b j
def Jn (xs:Array Value) (k m j:Nat) (hj:j<m) (h:k+m<=xs.size):(xs.extract k (k+m)).getD j Go.undef=xs.getD (k+j) Go.undef:=by
 rw[aiV, aiV, Array.getElem?_extract_of_lt (by rw[aok h];omega),ahY om]
def adw:∀(zs:aqa) (cs cs':ap2) (r:Bool),KI zs cs cs'=some r->cs.length=zs.length/\cs'.length=zs.length:=by
 intro zs;induction zs with
 | nil=>intro cs cs' r h;cases cs<;>cases cs'<;>simp[KI]at h ⊢
 | cons z zs ih=>
  intro cs cs' r h;cases cs with
  | nil=>cases z<;>simp[KI]at h
  | cons c cs=>cases cs' with
   | nil=>cases z<;>cases c<;>simp[KI]at h
   | cons c' cs'=>
    have:∃r',KI zs cs cs'=some r':=by
     cases z<;>cases c<;>cases c'<;>simp only[KI]at h<;>first | (cases h;done) | skip
     all_goals
      split at h
      ·first | exact⟨_,by assumption⟩
      cases h
    obtain⟨r',h'⟩:=this
    have:=ih _ _ _ h'
    simp[this]
def adx:∀(z1 z2:aqa) (cs cs':ap2) (r:Bool),KI (z1++z2) cs cs'=some r->∃c1 c2 c1' c2' r1 r2,cs=c1++c2/\cs'=c1'++c2'/\KI z1 c1 c1'=some r1/\KI z2 c2 c2'=some r2/\r=(r1&&r2):=by
 intro z1;induction z1 with
 | nil=>intro z2 cs cs' r h;exact⟨[],cs,[],cs',true,r,rfl,rfl,rfl,h,by simp⟩
 | cons z z1 ih=>
  intro z2 cs cs' r h;cases cs with
  | nil=>cases z<;>simp[KI]at h
  | cons c cs=>cases cs' with
   | nil=>cases z<;>cases c<;>simp[KI]at h
   | cons c' cs'=>
    cases z<;>cases c<;>cases c'<;>simp only[ajQ,KI]at h<;>first | (cases h;done) | skip
    ·split at h
     ·rename_i r' h'
      cases h
      obtain⟨c1,c2,c1',c2',r1,r2,e1,e2,e3,e4,e5⟩:=ih _ _ _ _ h'
      subst e1 e2 e5
      exact⟨_::c1,c2,_::c1',c2',_,r2,rfl,rfl,by simp only[KI,e3];rfl,e4,by rw[apy]⟩
     cases h
    ·split at h
     ·rename_i r' k1 k2 h'
      cases h
      obtain⟨c1,c2,c1',c2',r1,r2,e1,e2,e3,e4,e5⟩:=ih _ _ _ _ h'
      subst e1 e2 e5
      exact⟨_::c1,c2,_::c1',c2',_,r2,rfl,rfl,by simp only[KI,e3,k1,k2];rfl,e4,by rw[apy]⟩
     cases h
    split at h
    ·rename_i r' h'
     cases h
     obtain⟨c1,c2,c1',c2',r1,r2,e1,e2,e3,e4,e5⟩:=ih _ _ _ _ h'
     subst e1 e2 e5
     exact⟨_::c1,c2,_::c1',c2',_,r2,rfl,rfl,by simp only[KI,e3];rfl,e4,by rw[apy]⟩
    cases h
def VM {dd:TypeDesc} {z:ZK} {c c':AV} {b:Bool} {u v:Value} (w:World) (d:Nat) (hu:P.underlying t=some dd) (hk:Ry z dd) (h:KI [z] [c] [c']=some b) (hx:cQ w I O D c u) (hy:cQ w I O D c' v):(Op.equalIn (d+1) t u v).run P w=.ok b w:=by
 cases z with
 | int kk=>
  cases c<;>cases c'<;>simp only[KI]at h<;>first | (cases h;done) | skip
  rename_i k1 a k2 b;split at h
  ·rename_i r' e1 e2 e3;cases e3;cases h;have e1:kk=k1:=by simpa[xc]using e1
   have e2:kk=k2:=by simpa[xc]using e2
   subst e1;subst e2;rw[hx.eP,hy.eP,aoB];rw[hk]at hu;exact run_equalIn_int w d _ _ _ _ _ hu
  cases h
 | bool=>
  cases c<;>cases c'<;>simp only[KI]at h<;>first | (cases h;done) | skip
  cases h;rw[hx.je,hy.je,aoB];rw[hk]at hu;exact run_equalIn_bool' w d _ _ _ hu
 | str=>
  cases c<;>cases c'<;>simp only[KI]at h<;>first | (cases h;done) | skip
  cases h;rw[hx.vS,hy.vS,aoB];rw[hk]at hu;exact run_equalIn_string w d _ _ _ hu
 | slice=>exact hk.elim
 | ptr=>exact hk.elim
 | other=>exact hk.elim
def CD {fs:Array Field} (hu:P.underlying t=some (.struct fs)) (vs:Array Value) (i:Nat) (w:World):(part t vs i).run P w=.ok (.agg (vs.extract i (i+P.cellsOf t))) w:=by
 obtain⟨ti,hi⟩:=info_of_underlying hu;simp[part,isAgg,run_underlying hu,run_sizeOf w hi]
theorem aag (n:Nat) (xs ys:Array Value) (w:World) (d:Nat)
  (IH:∀(t:TypeId) (zs:aqa) (cs cs':ap2) (us vs:Array Value) (r:Bool),EqT P n t zs->KI zs cs cs'=some r->us.size=cs.length->vs.size=cs'.length->(∀j,j<cs.length->cQ w I O D (nth cs j) (us.getD j Go.undef))->(∀j,j<cs'.length->cQ w I O D (nth cs' j) (vs.getD j Go.undef))->(Op.equalIn (d+1) t (.agg us) (.agg vs)).run P w=.ok r w):
  ∀(fs:List Field) (zs:aqa) (cs cs':ap2) (k:Nat) (r:Bool),KI zs cs cs'=some r->ads P (EqT P n) fs zs k->
  k+cs.length<=xs.size->k+cs'.length<=ys.size->(∀j,j<cs.length->cQ w I O D (nth cs j) (xs.getD (k+j) Go.undef))->(∀j,j<cs'.length->cQ w I O D (nth cs' j) (ys.getD (k+j) Go.undef))->
  (Op.eqFields (d+1) xs ys fs).run P w=.ok r w:=by
 intro fs;induction fs with
 | nil=>
  intro zs cs cs' k r h hz _ _ _ _;cases zs with
  | cons=>exact hz.elim
  | nil=>cases cs<;>cases cs'<;>simp[KI]at h ⊢ <;> (subst h;simp[Op.eqFields])
 | cons f fs ih=>
  intro zs cs cs' k r h hz hx hy hrx hry;obtain⟨hnm,hof,z1,z2,rfl,hz1,hz2⟩:=hz;obtain⟨c1,c2,c1',c2',r1,r2,rfl,rfl,e3,e4,rfl⟩:=adx _ _ _ _ _ h;obtain⟨l1,l2⟩:=adw _ _ _ _ e3;simp only[aeU]at hx hy hrx hry;have nx1:∀j,j<c1.length->nth (c1++c2) j=nth c1 j:=λ j hj=>QH _ _ hj;have nx2:∀j,nth (c1++c2) (c1.length+j)=nth c2 j:=λ j=>QI _ _ j;have ny1:∀j,j<c1'.length->nth (c1'++c2') j=nth c1' j:=λ j hj=>QH _ _ hj;have ny2:∀j,nth (c1'++c2') (c1'.length+j)=nth c2' j:=λ j=>QI _ _ j;have ih':=ih z2 c2 c2' (k+z1.length) r2 e4 hz2 om om (λ j hj=>by
   have:=hrx (c1.length+j) om;rw[nx2,show k+(c1.length+j)=k+z1.length+j by omega]at this;exact this) (λ j hj=>by
   have:=hry (c1'.length+j) om;rw[ny2,show k+(c1'.length+j)=k+z1.length+j by omega]at this;exact this)
  have step:∀(u v:Value),(part f.type xs k).run P w=.ok u w->(part f.type ys k).run P w=.ok v w->(Op.equalIn (d+1) f.type u v).run P w=.ok r1 w->(Op.eqFields (d+1) xs ys (f::fs)).run P w=.ok (r1&&r2) w:=by
   intro u v px py hb;rw[Op.eqFields,afc hnm];simp only[hof,Sem.run_bind,px,py,Result.andThen_ok,hb];cases r1
   ·simp
   simpa using ih'
  rcases hz1 with⟨z,dd,rfl,hu,hk⟩ | ⟨ho,hs⟩
  ·have hd:dd.isRow=false:=by cases z<;>simp only[Ry]at hk<;>first | (subst hk;rfl) | exact hk.elim
   cases c1 with
   | nil=>simp at l1
   | cons c c1=>cases c1 with
    | cons=>simp at l1
    | nil=>cases c1' with
     | nil=>simp at l2
     | cons c' c1'=>cases c1' with
      | cons=>simp at l2
      | nil=>
       simp only[afT]at hx hy hrx hry
       have hx0:=hrx 0 om
       have hy0:=hry 0 om
       exact step _ _ (vT hu hd xs k om w) (vT hu hd ys k om w) (VM w d hu hk e3 hx0 hy0)
  cases n with
  | zero=>exact ho.elim
  | succ n=>
   obtain⟨fields,hu,_,_⟩:=id ho;refine step _ _ (CD hu xs k w) (CD hu ys k w) ?_;rw[hs];refine IH _ z1 c1 c1' _ _ r1 ho e3 (by rw[Array.size_extract];omega) (by rw[Array.size_extract];omega) (λ j hj=>?_) (λ j hj=>?_)
   ·have:=hrx j om;rw[nx1 j hj]at this;rw[Jn _ _ _ _ om om];exact this
   have:=hry j om;rw[ny1 j hj]at this;rw[Jn _ _ _ _ om om];exact this
def ady (w:World):∀(n d:Nat) (t:TypeId) (zs:aqa) (cs cs':ap2) (us vs:Array Value) (r:Bool),EqT P n t zs->KI zs cs cs'=some r->us.size=cs.length->vs.size=cs'.length->(∀j,j<cs.length->cQ w I O D (nth cs j) (us.getD j Go.undef))->(∀j,j<cs'.length->cQ w I O D (nth cs' j) (vs.getD j Go.undef))->(Op.equalIn (d+n+1) t (.agg us) (.agg vs)).run P w=.ok r w:=by
 intro n;induction n with
 | zero=>intro d t zs cs cs' us vs r h;exact h.elim
 | succ n IH=>
  intro d t zs cs cs' us vs r ⟨fields,hu,hh,hf⟩ h hl hl' hx hy;have hfo:P.fieldsOf t=fields:=by unfold Program.fieldsOf;rw[hu]
  rw[show d+(n+1)+1=(d+n+1)+1 by omega,run_equalIn_struct (P:=P) w (d+n+1) t us vs (by rw[hfo];exact hu) hh,hfo];exact aag (I:=I) (O:=O) (D:=D) n us vs w (d+n) (λ t zs cs cs' us vs r a b c e f g=>IH d t zs cs cs' us vs r a b c e f g) fields.toList zs cs cs' 0 r h hf om om (λ j hj=>by simpa using hx j hj) (λ j hj=>by simpa using hy j hj)
def zF (hc:ej P cfg) {zs:aqa} (ht:look cfg.eqs t=some zs) {cs cs':ap2} {xs ys:Array Value} {r:Bool} (h:KI zs cs cs'=some r) (hl:xs.size=cs.length) (hl':ys.size=cs'.length)
  (hx:∀j,j<cs.length->cQ w I O D (nth cs j) (xs.getD j Go.undef)) (hy:∀j,j<cs'.length->cQ w I O D (nth cs' j) (ys.getD j Go.undef)):(Op.equalIn 10000 t (.agg xs) (.agg ys)).run P w=.ok r w:=
 ady w 4 9995 t zs cs cs' xs ys r (hc.eqs t zs ht).ex h hl hl' hx hy
theorem aah (hc:ej P cfg) (hR:Rel cfg cx H D w I O) {op:BinOp} {t':TypeId} {y:Operand} (ho:o.op=.binOp op t x y t') (hx:cQ w I O D (ρ x) (a.eval x)) (hy:cQ w I O D (ρ y) (a.eval y))
  (h:dg Sp H (ZT cfg op t (ρ x) (ρ y)) v ups r):dh P cfg cx H D w I O cH o a v ups:=by
 unfold ZT at h;split at h
 ·rename_i k n k' n' e1 e2;rw[e1]at hx;rw[e2]at hy;have hx':=hx.eP;have hy':=hy.eP;obtain⟨hk1,h1⟩:=h.bK;clear h;have hk:k=k':=by simpa[xc]using hk1
  subst hk;have hg:∀(u:World),(eqGuard op t x y (.int k n) (.int k n')).run P u=.ok () u:=by
   intro u;unfold eqGuard;cases op<;>simp
  cases ha:Nz op with
  | true=>
   simp only[ha]at h1;cases hk2:xc k .i64 with
   | true=>
    simp only[hk2]at h1;have h2:=h1;clear h1;have hk:k=.i64:=by simpa[xc]using hk2
    subst hk;cases op<;>simp[Nz]at ha<;>simp only[arith]at h2<;>obtain⟨hp,rfl,rfl⟩:=h2.eZ<;>
     refine dh.cT (x:=.int .i64 _) hR ?_ (.pure (.int _ _))<;>simp[execOp,ho,hx',hy',hg,binOp,Op.intArith,Op.intDiv,wrap_i64,hp]
   | false=>
    simp only[hk2]at h1;exact(dg.ba h1).elim
  | false=>
   simp only[ha]at h1;cases op<;>simp[Nz]at ha<;>simp only[ah3]at h1<;>first
    | exact(dg.ba h1).elim
    | (obtain⟨rfl,rfl⟩:=h1.dp
       refine dh.cT (x:=.bool _) hR ?_ (.pure (.bool _))
       simp[execOp,ho,hx',hy',hg,binOp,Op.intCmp])
 ·rename_i b b' e1 e2;rw[e1]at hx;rw[e2]at hy;have hx':=hx.je;have hy':=hy.je;obtain⟨ti,ht,h1⟩:=h.iT;clear h;have hg:∀(u:World),(eqGuard op t x y (.bool b) (.bool b')).run P u=.ok () u:=by
   intro u;unfold eqGuard;cases op<;>simp
  have hd:ti.desc=.bool->P.underlying t=some .bool:=by
   intro hd;obtain⟨i,d,z,_,hu,_,_,_,_,_,_,_,hm⟩:=(hc.ty t ti ht).ex;rw[hd]at hm;rw[hu,hm]
  split at h1
  ·rename_i hdd;obtain⟨rfl,rfl⟩:=h1.dp;refine dh.cT (x:=.bool _) hR ?_ (.pure (.bool _));have e:=run_equal_bool (P:=P) (hd hdd) b b' w;simp[execOp,ho,hx',hy',hg,binOp,e]
  ·rename_i hdd;obtain⟨rfl,rfl⟩:=h1.dp;refine dh.cT (x:=.bool _) hR ?_ (.pure (.bool _));have e:=run_equal_bool (P:=P) (hd hdd) b b' w;simp[execOp,ho,hx',hy',hg,binOp,e]
  exact(dg.ba h1).elim
 ·rename_i s s' e1 e2;rw[e1]at hx;rw[e2]at hy;have hx':=hx.vS;have hy':=hy.vS;have hg:∀(u:World),(eqGuard op t x y (.string s) (.string s')).run P u=.ok () u:=by
   intro u;unfold eqGuard;cases op<;>simp
  unfold ae9 at h;cases op<;>simp only at h<;>first
   | exact(dg.ba h).elim
   | (obtain⟨rfl,rfl⟩:=h.dp
      refine dh.cT (x:=.bool _) hR ?_ (.pure (.bool _))
      simp[execOp,ho,hx',hy',hg,binOp,Op.stringOp]
      done)
   | (obtain⟨hp,rfl,rfl⟩:=h.eZ
      refine dh.cT (x:=.string _) hR ?_ (.pure (.str _))
      have hle:¬ (((s.size+s'.size:Nat):Int) > IntKind.i64.max):=by
       have:IntKind.i64.max=9223372036854775807:=by decide
       rw[this]
       omega
      simp only[execOp,ho,hx',hy',binOp,Op.stringOp,Sem.run_bind,hg,Result.andThen_ok]
      rw[aeV hle]
      rfl)
 ·rename_i cs cs' e1 e2;rw[e1]at hx;rw[e2]at hy;obtain⟨xs,hx',hl,hrx⟩:=hx.nG;obtain⟨ys,hy',hl',hry⟩:=hy.nG;split at h
  ·rename_i zs hz;have hg:∀(u:World),(eqGuard op t x y (.agg xs) (.agg ys)).run P u=.ok () u:=λ u=>run_eqGuard_agg u op t x y xs ys (hc.eqs t zs hz).guard;split at h
   ·rename_i r' he;obtain⟨rfl,rfl⟩:=h.dp;have e:=zF hc hz he hl hl' hrx hry;refine dh.cT (x:=.bool _) hR ?_ (.pure (.bool _));simp only[execOp,ho,hx',hy',Sem.run_bind,hg,Result.andThen_ok,run_eql_struct,e];rfl
   ·rename_i r' he;obtain⟨rfl,rfl⟩:=h.dp;have e:=zF hc hz he hl hl' hrx hry;refine dh.cT (x:=.bool _) hR ?_ (.pure (.bool _));simp only[execOp,ho,hx',hy',Sem.run_bind,hg,Result.andThen_ok,run_neq_struct,e];rfl
   exact(dg.ba h).elim
  exact(dg.ba h).elim
 exact(dg.ba h).elim
def adz (hR:Rel cfg cx H D w I O) {op:UnOp} (ho:o.op=.unOp op t x) (hx:cQ w I O D (ρ x) (a.eval x))
  (h:dg Sp H (dV cfg cH (.unOp op t x) ρ) v ups r):dh P cfg cx H D w I O cH o a v ups:=by
 simp only[dV]at h;split at h
 ·rename_i b e;rw[e]at hx;obtain⟨rfl,rfl⟩:=h.dp;refine dh.cT (x:=.bool _) hR ?_ (.pure (.bool _));simp[execOp,ho,hx.je,Op.unary]
 exact(dg.ba h).elim
theorem Tl (hR:Rel cfg cx H D w I O) (ho:o.op=.nilCheck x) (hx:cQ w I O D (ρ x) (a.eval x))
  (h:dg Sp H (dV cfg cH (.nilCheck x) ρ) v ups r):dh P cfg cx H D w I O cH o a v ups:=by
 simp only[dV]at h;split at h
 ·rename_i ob i off e;rw[e]at hx;obtain⟨obj,_,lg,h1⟩:=h.kg;obtain⟨rfl,rfl⟩:=h1.dp;cases hp:O ob with
  | none=>rw[(hR.dom ob).1 hp]at lg;cases lg
  | some p=>
   obtain⟨b,bo,sz,h1,h2,h3⟩:=hx.lA hp;exact dh.cT hR (by simp[execOp,ho,h3]) (h3 ▸ hx)
 ·rename_i cs e;rw[e]at hx;obtain⟨rfl,rfl⟩:=h.dp;generalize hxe:a.eval x=xv at hx;have hx0:=hx;cases hx.Ob;exact dh.cT hR (by simp[execOp,ho,hxe]) hx0
 ·rename_i f cs e;rw[e]at hx;obtain⟨rfl,rfl⟩:=h.dp;obtain⟨vs,h1,h2,h3⟩:=hx.En;exact dh.cT hR (by simp[execOp,ho,h1]) (h1 ▸ hx)
 exact(dg.ba h).elim
def VN (hR:Rel cfg cx H D w I O) {t:Operand} {i:Nat} (ho:o.op=.extract t i) (hx:cQ w I O D (ρ t) (a.eval t))
  (h:dg Sp H (dV cfg cH (.extract t i) ρ) v ups r):dh P cfg cx H D w I O cH o a v ups:=by
 simp only[dV]at h;split at h
 ·rename_i vs e;rw[e]at hx;obtain⟨hl,h1⟩:=h.bK;obtain⟨rfl,rfl⟩:=h1.dp;obtain⟨xs,h1,h2,h3⟩:=hx.BM;have hl:i<vs.length:=by simpa using hl
  have hi:i<xs.size:=by omega
  refine dh.cT (x:=xs.getD i Go.undef) hR ?_ (h3 i hl);simp[execOp,ho,h1,Instr.extract,ahY hi]
 exact(dg.ba h).elim
def Xq {l:List Operand} (h:∀x∈l,cQ w I O D (ρ x) (a.eval x)):∀j,j<(l.map ρ).length->cQ w I O D (nth (l.map ρ) j) ((l.map a.eval).toArray.getD j Go.undef):=by
 intro j hj;have hj':j<l.length:=by simpa using hj
 rw[pJ];simp[hj'];exact h _ (ai1 hj')
def Tm (hR:Rel cfg cx H D w I O) {fn:Fn} {first cap:Array Operand} (ho:o.op=.makeFunc fn first cap) (hx:∀x∈cap.toList,cQ w I O D (ρ x) (a.eval x))
  (h:dg Sp H (dV cfg cH (.makeFunc fn first cap) ρ) v ups r):dh P cfg cx H D w I O cH o a v ups:=by
 simp only[dV]at h;split at h
 ·rename_i f e;obtain⟨rfl,rfl⟩:=h.dp;have hf:first=#[]:=by simpa using e
  subst hf;refine dh.cT (x:=.func (.func f) #[] (cap.map a.eval)) hR (by simp[execOp,ho,Instr.makeFunc]) (.fn (by simp) λ j hj=>?_);have:=Xq hx j hj;simpa using this
 exact(dg.ba h).elim
variable {c:Call}
theorem afX (hc:ej P cfg) (hR:Rel cfg cx H D w I O) (ho:o.op=.call c) (hcl:c.callee=.builtin .len) (hx:∀x∈c.args.toList,cQ w I O D (ρ x) (a.eval x))
  (h:dg Sp H (dV cfg cH (.call c) ρ) v ups r):dh P cfg cx H D w I O cH o a v ups:=by
 simp only[dV,hcl]at h;split at h
 ·rename_i u t e1 e2;obtain⟨ti,ht,h1⟩:=h.iT;obtain⟨x,hxe⟩:∃x,c.args=#[x]:=by
   match hl:c.args.toList with
   | []=>simp[hl]at e1
   | [x]=>exact⟨x,by rw[<- akD];simpa using hl⟩
   | x::y::l=>simp[hl]at e1
  have ZI:ρ x=u:=by simpa[hxe]using e1
  have hx':cQ w I O D u (a.eval x):=ZI ▸ hx x (by simp[hxe]);have hte:c.argTypes=#[t]:=by rw[<- akD];simpa using e2
  obtain⟨_,dd,_,_,hud,_,_,_,_,_,_,_,hm⟩:=(hc.ty t ti ht).ex;split at h1
  ·rename_i e;rw[e]at hm;have hm:dd=.slice _:=hm;subst hm;obtain⟨rfl,rfl⟩:=h1.dp;generalize hxv:a.eval x=xv at hx';cases hx'.xi;refine dh.cT (x:=.int .i64 _) hR ?_ (.pure (.int _ _));simp[execOp,ho,hcl,resolve,invoke,builtin,Builtin.len_,hxe,hte,hxv,bG hud,goInt]
  ·rename_i ob i n f _ e;rw[e]at hm;have hm:dd=.slice _:=hm;subst hm;obtain⟨obj,_,lg,h2⟩:=h1.kg;obtain⟨rfl,rfl⟩:=h2.dp;cases hp:O ob with
   | none=>rw[(hR.dom ob).1 hp]at lg;cases lg
   | some p=>
    obtain⟨aa,cap,hxv,_⟩:=hx'.jD hp;refine dh.cT (x:=.int .i64 _) hR ?_ (.pure (.int _ _));simp[execOp,ho,hcl,resolve,invoke,builtin,Builtin.len_,hxe,hte,hxv,bG hud,goInt]
  ·rename_i s e;rw[e]at hm;have hm:dd=.string:=hm;subst hm;obtain⟨rfl,rfl⟩:=h1.dp;refine dh.cT (x:=.int .i64 _) hR ?_ (.pure (.int _ _));simp[execOp,ho,hcl,resolve,invoke,builtin,Builtin.len_,hxe,hte,hx'.vS,bG hud,goInt]
  exact(dg.ba h1).elim
 exact(dg.ba h).elim
def args2 {u u':AV} (e:c.args.toList.map ρ=[u,u']):∃x y,c.args=#[x,y]/\ρ x=u/\ρ y=u':=by
 match hl:c.args.toList with
 | []=>simp[hl]at e
 | [x]=>simp[hl]at e
 | [x,y]=>
  rw[hl]at e
  simp at e
  exact⟨x,y,by rw[<- akD];simpa using hl,e.1,e.2⟩
 | x::y::z::l=>simp[hl]at e
def afY (hR:Rel cfg cx H D w I O) (ho:o.op=.call c) (hcl:c.callee=.builtin .min) (hx:∀x∈c.args.toList,cQ w I O D (ρ x) (a.eval x))
  (h:dg Sp H (dV cfg cH (.call c) ρ) v ups r):dh P cfg cx H D w I O cH o a v ups:=by
 simp only[dV,hcl]at h;split at h
 ·rename_i k n k' n' e;obtain⟨rfl,rfl⟩:=h.dp;obtain⟨x,y,hxy,e1,e2⟩:=args2 e;have h1:=e1 ▸ hx x (by simp[hxy]);have h2:=e2 ▸ hx y (by simp[hxy]);refine dh.cT (x:=.int k _) hR ?_ (.pure (.int _ _));simp[execOp,ho,hcl,resolve,invoke,builtin,Builtin.min_,Builtin.min2,hxy,h1.eP,h2.eP]
 exact(dg.ba h).elim
def afZ (hR:Rel cfg cx H D w I O) (ho:o.op=.call c) (hcl:c.callee=.builtin .max) (hx:∀x∈c.args.toList,cQ w I O D (ρ x) (a.eval x))
  (h:dg Sp H (dV cfg cH (.call c) ρ) v ups r):dh P cfg cx H D w I O cH o a v ups:=by
 simp only[dV,hcl]at h;split at h
 ·rename_i k n k' n' e;obtain⟨rfl,rfl⟩:=h.dp;obtain⟨x,y,hxy,e1,e2⟩:=args2 e;have h1:=e1 ▸ hx x (by simp[hxy]);have h2:=e2 ▸ hx y (by simp[hxy]);refine dh.cT (x:=.int k _) hR ?_ (.pure (.int _ _));simp[execOp,ho,hcl,resolve,invoke,builtin,Builtin.max_,Builtin.max2,hxy,h1.eP,h2.eP]
 exact(dg.ba h).elim
theorem ej.field (hc:ej P cfg) {s:TypeId} {ts:Gw} {f oo t:Nat} (h:look cfg.ty s=some ts) (hf:Gx ts f=some (oo,t)):
  ∃fields fd,P.underlying s=some (.struct fields)/\fields[f]? = some fd/\fd.offset=oo/\fd.type=t:=by
 obtain⟨_,dd,_,_,hud,_,_,_,_,_,_,_,hm⟩:=(hc.ty s ts h).ex;unfold Gx at hf;split at hf
 ·rename_i fs e;rw[e]at hm;obtain⟨fields,rfl,hfs⟩:=hm;subst hfs;have key:∀(l:List Field) (f:Nat),MM (l.map λ f=>(f.offset,f.type)) f=some (oo,t)->∃fd,l[f]? = some fd/\fd.offset=oo/\fd.type=t:=by
   intro l;induction l with
   | nil=>intro f h;simp[MM]at h
   | cons x l ih=>
    intro f h;cases f with
    | zero=>simp[MM]at h;exact⟨x,rfl,h.1,h.2⟩
    | succ f=>simp only[aiX,MM]at h;simpa using ih f h
  obtain⟨fd,h1,h2,h3⟩:=key _ _ hf;exact⟨fields,fd,hud,by simpa using h1,h2,h3⟩
 cases hf
def Eo (l:ap2) (k j:Nat):nth (l.drop k) j=nth l (k+j):=by
 simp[pJ]
theorem Rz (hc:ej P cfg) (hR:Rel cfg cx H D w I O) {s:TypeId} {f:Nat} (ho:o.op=.fieldAddr s x f) (hx:cQ w I O D (ρ x) (a.eval x))
  (h:dg Sp H (dV cfg cH (.fieldAddr s x f) ρ) v ups r):dh P cfg cx H D w I O cH o a v ups:=by
 simp only[dV]at h;obtain⟨ts,hs,h1⟩:=h.iT;split at h1
 ·rename_i oo t hf;obtain⟨ti,ht,h2⟩:=h1.iT;obtain⟨hpos,h3⟩:=h2.bK;have hpos:0<ti.size:=by simpa using hpos
  obtain⟨fields,fd,hu,hfd,ho1,ho2⟩:=hc.field hs hf;obtain⟨i,_,_,hi,_,_,hsz,_⟩:=(hc.ty t ti ht).ex;have hne:¬ i.size=0:=by omega
  have place:∀b bo,(Instr.fieldAt s (.pointer (some ⟨b,bo,none⟩)) f).run P w=.ok (.pointer (some ⟨b,bo+oo,none⟩)) w:=by
   intro b bo;simp[Instr.fieldAt,Instr.sureAddr,bG hu,hfd,fieldPlace,ho1,ho2,dG hi,hne,Addr.add_mid]
  split at h3
  ·rename_i ob i off e;rw[e]at hx;obtain⟨obj,_,lg,h4⟩:=h3.kg;obtain⟨rfl,rfl⟩:=h4.dp;cases hp:O ob with
   | none=>rw[(hR.dom ob).1 hp]at lg;cases lg
   | some p=>
    obtain⟨b,bo,sz,h5,h6,h7⟩:=hx.lA hp;refine dh.cT (x:=.pointer (some ⟨b,bo+(i*p.es+(off+oo)),none⟩)) hR ?_ (.ptr hp h5 h6);have:bo+(i*p.es+off)+oo=bo+(i*p.es+(off+oo)):=by omega
    simp[execOp,ho,h7,place,this]
  ·rename_i cs e;rw[e]at hx;obtain⟨rfl,rfl⟩:=h3.dp;generalize hxv:a.eval x=xv at hx;cases hx.Ob with
   | ro b off vs hI hm hr=>
    refine dh.cT (x:=.pointer (some ⟨b,off+oo,none⟩)) hR (by simp[execOp,ho,hxv,place]) (.pure (.ro b (off+oo) (λ j=>vs (oo+j)) hI (λ j hj=>?_) λ j hj=>?_))
    ·have:=hm (oo+j) (by simp at hj;omega);rw[<- this,anS]
    rw[Eo];exact hr (oo+j) (by simp at hj;omega)
  exact(dg.ba h3).elim
 exact(dg.ba h1).elim
end
end Go.Ab
namespace Go.Ab
section
variable {P:Program} {cfg:qX} {cx:Ctx} {H:Nat->Option cI} {D:Nat->Prop} {w:World} {I:Nat->Prop} {O:OM} {Sp:lk}
variable {cH:Nat} {o:Oper} {a:Act} {ρ:Operand->AV} {v:AV} {ups:ic} {r:ap0}
variable {t:TypeId}
def ej.agg (hc:ej P cfg) {ti:Gw} (h:look cfg.ty t=some ti):∃i d,P.info? t=some i/\P.underlying t=some d/\d.isRow=ti.agg/\i.size=ti.size:=by
 obtain⟨i,d,z,h1,h2,h3,h4,h5,h6,_⟩:=(hc.ty t ti h).ex;exact⟨i,d,h1,h2,h6,h4⟩
def KS {d:TypeDesc} (h:P.underlying t=some d) (w:World):(isAgg t).run P w=.ok d.isRow w:=by
 unfold isAgg;rw[Sem.run_bind,bG h w];cases d<;>simp
theorem mR (hc:ej P cfg) {ti:Gw} (ht:look cfg.ty t=some ti) {cs:ap2} (h:dg Sp H (uY ti cs) v ups r) (b bo:Nat) (f:Nat->Value)
  (hm:∀j,j<cs.length->w.cell? ⟨b,bo+j,none⟩=some (f j)) (hr:∀j,j<cs.length->cQ w I O D (nth cs j) (f j)):
  ups=[]/\∃x,(Instr.loadAt t (.pointer (some ⟨b,bo,none⟩))).run P w=.ok x w/\cQ w I O D v x:=by
 obtain⟨i,d,hi,hu,hd,hs⟩:=hc.agg ht;unfold uY at h;cases ha:ti.agg with
 | true=>
  simp only[ha]at h;obtain⟨hl,h1⟩:=h.bK;obtain⟨rfl,rfl⟩:=h1.dp;have hl:ti.size<=cs.length:=by simpa using hl
  refine⟨rfl,.agg ((List.range ti.size).map f).toArray,?_,.agg (by simp[aok hl]) λ j hj=>?_⟩
  ·refine run_loadAt_mid w b bo t _ d (λ j u hj=>?_) hu (by rw[hd,ha]) (by simp[hi,hs]);have hlt:j<ti.size:=by
    rcases aiZ j ti.size with h | h
    ·exact h
    simp[h]at hj
   simp[hlt]at hj;rw[<- hj];exact hm j om
  have hj':j<ti.size:=by simp at hj;omega
  have e:nth (List.take ti.size cs) j=nth cs j:=by simp[pJ,hj']
  rw[e];simpa[hj']using hr j om
 | false=>
  simp only[ha]at h;cases cs with
  | nil=>exact(dg.ba h).elim
  | cons c cs=>
   obtain⟨rfl,rfl⟩:=h.dp;refine⟨rfl,f 0,?_,hr 0 (by simp)⟩;have h0:=hm 0 (by simp);have hag:(isAgg t).run P w=.ok false w:=by rw[KS hu,hd,ha]
   simp only[ajT]at h0;simp[Instr.loadAt,Instr.sureAddr,loadVar,Sem.run_bind,hag,load,Sem.run,h0]
def Rel.live (hR:Rel cfg cx H D w I O) {ob:Nat} {x:cI} (h:H ob=some x):∃p,O ob=some p/\eV w I O D p x:=by
 cases hp:O ob with
 | none=>rw[(hR.dom ob).1 hp]at h;cases h
 | some p=>exact⟨p,rfl,hR.objs ob x p h hp⟩
def qa {b sz j:Nat} (h:CC w b sz) (hj:j<sz):w.cell? ⟨b,j,none⟩=some (cellAt w b j):=by
 obtain⟨u,hu⟩:=ai3.1 (h j hj).1;simp[cellAt,hu]
def NI {i j:Nat} (h:(Rq i&&Rq j)=true):i=0/\j=0:=by
 cases i<;>cases j<;>simp_all [Rq]
def Xr (l m:ap2) (j:Nat):nth (l++m) j=if j<l.length then nth l j else nth m (j - l.length):=by
 rw[pJ,pJ,pJ];by_cases h:j<l.length
 ·rw[afc h];simp[aku h]
 rw[aeV h];simp[ako (by omega:l.length<=j)]
variable {es:Nat}
def PY {g:Nat->AV}:∀(k i:Nat),(∀j,i<=j->j<i+k->(g j).cells.length=es)->(iC k i g).length=k*es/\∀a b,a<k->b<es->nth (iC k i g) (a*es+b)=nth (g (i+a)).cells b:=by
 intro k;induction k with
 | zero=>intro i _;exact⟨by simp[iC],λ a b h=>absurd h (ag9 _)⟩
 | succ k ih=>
  intro i h;obtain⟨h1,h2⟩:=ih (i+1) (λ j hj hj'=>h j om om);have h0:=h i (afM _) om;refine⟨by simp only[iC,aeU,h0,h1];rw[ah2];omega,λ a b ha hb=>?_⟩;simp only[iC];rw[Xr,h0];cases a with
  | zero=>simp only[akJ,ahq,ajT];rw[afc hb]
  | succ a=>
   rw[aeV (by rw[ah2];omega)];have e1:(a+1)*es+b - es=a*es+b:=by rw[ah2];omega
   rw[e1,h2 a b om hb];congr 2;congr 1;omega
variable {n:Nat}
def af0 {q:Nat} (h:q<n*es):q / es<n/\q % es<es/\q / es*es+q % es=q:=by
 have hes:0<es:=by
  rcases aj2 es with h0 | h0
  ·subst h0;simp at h
  exact h0
 refine⟨aoz (by rw[akN];exact h),anZ _ hes,?_⟩;rw[akN];exact Nat.div_add_mod q es
def Jo {w:World} {I:Nat->Prop} {b bo:Nat} {g:Nat->AV} (hlen:∀i,i<n->(g i).cells.length=es) (hcs:∀i j,i<n->j<es->eF w I (nth (g i).cells j) (cellAt w b (bo+(i*es+j)))/\(cellAt w b (bo+(i*es+j))).oneCell'=true):
  (iC n 0 g).length=n*es/\∀q,q<(iC n 0 g).length->eF w I (nth (iC n 0 g) q) (cellAt w b (bo+q)):=by
 obtain⟨h1,h2⟩:=PY n 0 (λ j _ hj=>hlen j om);refine⟨h1,λ q hq=>?_⟩;rw[h1]at hq;obtain⟨h3,h4,h5⟩:=af0 hq;have h6:=h2 (q / es) (q % es) h3 h4;have h7:=(hcs (q / es) (q % es) h3 h4).1;rw[h5]at h6 h7;rw[h6,ahq];exact h7
variable {x:Operand}
theorem adA (hc:ej P cfg) (hR:Rel cfg cx H D w I O) (ho:o.op=.load t x) (hx:cQ w I O D (ρ x) (a.eval x))
  (h:dg Sp H (dV cfg cH (.load t x) ρ) v ups r):dh P cfg cx H D w I O cH o a v ups:=by
 simp only[dV]at h;obtain⟨ti,ht,h1⟩:=h.iT;split at h1
 ·rename_i ob i off e;rw[e]at hx;obtain⟨obj,_,lg,h2⟩:=h1.kg;obtain⟨p,hp,hO⟩:=hR.live lg;obtain⟨b,bo,sz,hpl,hi,hxv⟩:=hx.lA hp;cases obj with
  | map=>exact(dg.ba h2).elim
  | box cs=>
   obtain⟨hn,b',la,sz',hpl',hal,hle,hcs⟩:=hO;rw[hpl]at hpl';cases hpl';have hi0:i=0:=by omega
   subst hi0;obtain⟨rfl,x',hrun,hrep⟩:=mR (w:=w) (I:=I) (O:=O) (D:=D) hc ht h2 b (bo+off) (λ j=>cellAt w b (bo+(off+j)))
    (λ j hj=>by rw[anS];exact qa hal (by simp at hj;omega)) (λ j hj=>by rw[Eo];exact hcs (off+j) (by simp at hj;omega))
   refine dh.cT hR ?_ hrep;simp only[akJ,ahq]at hxv;simp[execOp,ho,hxv,hrun]
  | row es n g=>
   obtain⟨hn,hes,hlen,hpl' | ⟨b',la,sz',hpl',hal,hle,hcs⟩⟩:=hO
   ·rw[hpl]at hpl';cases hpl'.2
   rw[hpl]at hpl';cases hpl';simp only at h2;split at h2
   ·obtain⟨hz,h3⟩:=h2.bK;obtain⟨rfl,rfl⟩:=NI hz;obtain⟨hrl,hrr⟩:=Jo hlen hcs;obtain⟨rfl,x',hrun,hrep⟩:=mR (w:=w) (I:=I) (O:=O) (D:=D) hc ht h3 b bo (λ j=>cellAt w b (bo+j)) (λ j hj=>qa hal.al om) (λ j hj=>.pure (hrr j hj));refine dh.cT hR ?_ hrep;simp only[akJ,ahq,ajT]at hxv;simp[execOp,ho,hxv,hrun]
   obtain⟨hk,h3⟩:=h2.bK;have hin:i<n:=by omega
   have hmul:(i+1)*es<=n*es:=afK _ hin;have anL:(i+1)*es=i*es+es:=ah2 _ _;have hli:=hlen i hin;obtain⟨rfl,x',hrun,hrep⟩:=mR (w:=w) (I:=I) (O:=O) (D:=D) hc ht h3 b (bo+(i*es+off)) (λ j=>cellAt w b (bo+(i*es+(off+j))))
    (λ j hj=>by
      have:bo+(i*es+off)+j=bo+(i*es+(off+j)):=by omega
      rw[this]
      exact qa hal.al (by simp at hj;omega)) (λ j hj=>by rw[Eo];exact .pure (hcs i (off+j) hin (by simp at hj;omega)).1)
   refine dh.cT hR ?_ hrep;rw[hes]at hxv;simp[execOp,ho,hxv,hrun]
 ·rename_i cs e;rw[e]at hx;generalize hxv:a.eval x=xv at hx;cases hx.Ob with
  | ro b off vs hI hm hr=>
   obtain⟨rfl,x',hrun,hrep⟩:=mR (w:=w) (I:=I) (O:=O) (D:=D) hc ht h1 b off vs hm (λ j hj=>.pure (hr j hj));exact dh.cT hR (by simp[execOp,ho,hxv,hrun]) hrep
 exact(dg.ba h1).elim
theorem aai (hc:ej P cfg) (hR:Rel cfg cx H D w I O) {s:TypeId} {f:Nat} (ho:o.op=.field s x f) (hx:cQ w I O D (ρ x) (a.eval x))
  (h:dg Sp H (dV cfg cH (.field s x f) ρ) v ups r):dh P cfg cx H D w I O cH o a v ups:=by
 simp only[dV]at h;obtain⟨ts,hs,h1⟩:=h.iT;split at h1
 ·rename_i oo t hf;obtain⟨ti,ht,h2⟩:=h1.iT;obtain⟨fields,fd,hu,hfd,ho1,ho2⟩:=hc.field hs hf;obtain⟨i,d,hi,hu',hd,hsz⟩:=hc.agg ht;split at h2
  ·rename_i cs e;rw[e]at hx;obtain⟨vs,hxv,hl,hr⟩:=hx.nG;have hag:=KS hu' w;unfold uY at h2;cases ha:ti.agg with
   | true=>
    simp only[ha]at h2;obtain⟨hle,h3⟩:=h2.bK;obtain⟨rfl,rfl⟩:=h3.dp;have hle:ti.size<=cs.length - oo:=by simpa using hle
    rw[hd,ha]at hag;have e1:(part t vs oo).run P w=.ok (.agg (vs.extract oo (oo+ti.size))) w:=by simp[part,Sem.run_bind,hag,dG hi,hsz]
    refine dh.cT (x:=.agg (vs.extract oo (oo+ti.size))) hR ?_ (.agg ?_ λ j hj=>?_)
    ·rw[<- ho2]at e1;simp only[execOp,ho,Instr.field,hxv,Sem.run_bind,bG hu,hfd,asAgg,Sem.run_pure,Result.andThen_ok,e1,ho1]
    ·simp;omega
    have hj':j<ti.size:=by simp at hj;omega
    have:=hr (oo+j) om;have e:nth (List.take ti.size (List.drop oo cs)) j=nth cs (oo+j):=by simp[pJ,hj']
    rw[e];have h4:oo+j<vs.size:=by omega
    simp[h4]at this;have h5:(vs.extract oo (oo+ti.size))[j]? = vs[oo+j]? := by
     rw[Array.getElem?_extract,afc om]
    simp only[aiV, h5];simpa[h4]using this
   | false=>
    simp only[ha]at h2;rw[hd,ha]at hag;cases hcs:List.drop oo cs with
    | nil=>simp only[hcs]at h2;exact(dg.ba h2).elim
    | cons c l=>
     simp only[hcs]at h2;obtain⟨rfl,rfl⟩:=h2.dp;have hlt:oo<cs.length:=by
      rcases aiZ oo cs.length with h | h
      ·exact h
      rw[ajU h]at hcs;cases hcs
     have hc0:nth cs oo=v:=by
      have:=Eo cs oo 0;rw[hcs]at this;simpa[nth]using this.symm
     have h4:oo<vs.size:=by omega
     have e1:(part t vs oo).run P w=.ok (vs.getD oo Go.undef) w:=by simp[part,Sem.run_bind,hag,ahY h4]
     refine dh.cT (x:=vs.getD oo Go.undef) hR ?_ (hc0 ▸ hr oo hlt);rw[<- ho2]at e1;simp only[execOp,ho,Instr.field,hxv,Sem.run_bind,bG hu,hfd,asAgg,Sem.run_pure,Result.andThen_ok,e1,ho1]
  exact(dg.ba h2).elim
 exact(dg.ba h1).elim
def tg {size:Nat} (h:Il es n size=true) (hn:n≠0):es=size:=by
 unfold Il at h;cases hb:Nat.beq es size with
 | true=>exact aeK hb
 | false=>
  simp only[hb]at h;cases n with
  | zero=>exact absurd rfl hn
  | succ n=>simp[Rq]at h
def Jp (i j:Nat):addN i j=i+j:=by cases i<;>simp[addN]
def QJ (hc:ej P cfg) {et:Nat} (h:Z4 cfg t=some (n,et)):P.underlying t=some (.array n et)/\∃ti,look cfg.ty t=some ti/\N2 ti.desc=some (n,et):=by
 unfold Z4 at h;split at h
 ·rename_i ti ht;refine⟨?_,ti,ht,h⟩;obtain⟨_,d,_,_,hu,_,_,_,_,_,_,_,hm⟩:=(hc.ty t ti ht).ex;unfold N2 at h;split at h
  ·rename_i n' e' hd;cases h;rw[hd]at hm;have hm:d=.array n et:=hm;rw[hu,hm]
  cases h
 cases h
theorem RA (hc:ej P cfg) (hR:Rel cfg cx H D w I O) {ix:Operand} (ho:o.op=.indexAddr t x ix) (hx:cQ w I O D (ρ x) (a.eval x)) (hix:cQ w I O D (ρ ix) (a.eval ix))
  (h:dg Sp H (dV cfg cH (.indexAddr t x ix) ρ) v ups r):dh P cfg cx H D w I O cH o a v ups:=by
 simp only[dV]at h;split at h
 ·rename_i n et harr;obtain⟨hu,_⟩:=QJ hc harr;obtain⟨ei,hei,h1⟩:=h.iT;split at h1
  ·rename_i k ii ob j off e1 e2;rw[e1]at hix;rw[e2]at hx;have Tn:=hix.eP;obtain⟨obj,_,lg,h2⟩:=h1.kg;obtain⟨p,hp,hO⟩:=hR.live lg;obtain⟨b,bo,sz,hpl,hjn,hxv⟩:=hx.lA hp;cases obj with
   | map=>exact(dg.ba h2).elim
   | box cs=>exact(dg.ba h2).elim
   | row es n' g=>
    obtain⟨c1,h3⟩:=h2.bK;obtain⟨c2,h4⟩:=h3.bK;obtain⟨c3,h5⟩:=h4.bK;obtain⟨⟨hn0,hn1⟩,rfl,rfl⟩:=h5.eZ;obtain⟨rfl,rfl⟩:=NI c1;have c2:es=ei.size:=aeK c2;have c3:n'=n:=aeK c3;have KT:p.es=es:=hO.2.1;have hpn:p.n=n':=hO.1;obtain⟨i,_,z,hi,_,hz,hs,_⟩:=(hc.ty et ei hei).ex;simp only[akJ,ajT]at hxv;refine dh.cT (x:=.pointer (some ⟨b,bo+(ii.toNat*p.es+0),none⟩)) hR ?_ (.ptr hp hpl om);simp[execOp,ho,hxv,Tn,Instr.indexAt,asIntOf,Instr.sureAddr,bG hu,dG hi,hn0,hn1,hs,<- c2,KT,Addr.add_mid]
  exact(dg.ba h1).elim
 obtain⟨tt,e,ti,h1,h2,h3,h4⟩:=h.lZ;obtain⟨hu,i,z,hi,hz,hs,hby,hzs⟩:=hc.slice h1 h2 h3;split at h4
 ·rename_i k n eix;rw[eix]at hix;have Tn:=hix.eP;split at h4
  ·rename_i es m full g ex;rw[ex]at hx;obtain⟨hes,h5⟩:=h4.bK;obtain⟨⟨hn0,hn1⟩,rfl,rfl⟩:=h5.eZ;generalize hxv:a.eval x=xv at hx;cases hx.xi with
   | @sl _ _ _ _ aa cap b off vs hcap hfull ha hes' hm h1 hr=>
    have hm0:m≠0:=by omega
    obtain⟨rfl,hI⟩:=ha hm0;have akf:=tg hes hm0;have hnm:n.toNat<m:=by omega
    refine dh.cT (x:=.pointer (some ⟨b,off+n.toNat*es,none⟩)) hR ?_ (.pure (.ro b (off+n.toNat*es) (λ j=>vs n.toNat j) hI (λ j hj=>?_) λ j hj=>hr _ _ hnm (by rw[hes' _ hnm]at hj;exact hj)))
    ·simp[execOp,ho,hxv,Tn,Instr.indexAt,asIntOf,bG hu,dG hi,hn0,hn1,hs,akf,Addr.add_mid]
    rw[anS];exact hm _ _ hnm (by rw[hes' _ hnm]at hj;exact hj)
  ·rename_i ob j m full ex;rw[ex]at hx;obtain⟨obj,_,lg,h5⟩:=h4.kg;obtain⟨p,hp,hO⟩:=hR.live lg;cases obj with
   | map=>exact(dg.ba h5).elim
   | box cs=>exact(dg.ba h5).elim
   | row es n' g=>
    obtain⟨hes,h6⟩:=h5.bK;have hes:es=ti.size:=aeK hes;obtain⟨⟨hn0,hn1⟩,rfl,rfl⟩:=h6.eZ;obtain⟨aa,cap,hxv,hjm,hcap,hfull,hpl⟩:=hx.jD hp;obtain⟨b,bo,sz,To,rfl,hle⟩:=hpl om;have KT:p.es=es:=hO.2.1;have hnm:n.toNat<m:=by omega
    rw[Jp];have:bo+j*p.es+n.toNat*p.es=bo+((j+n.toNat)*p.es+0):=by rw[aip];omega
    refine dh.cT (x:=.pointer (some ⟨b,bo+((j+n.toNat)*p.es+0),none⟩)) hR ?_ (.ptr hp To om);rw[<- this];simp[execOp,ho,hxv,Tn,Instr.indexAt,asIntOf,bG hu,dG hi,hn0,hn1,hs,<- hes,KT,Addr.add_mid]
  exact(dg.ba h4).elim
 exact(dg.ba h4).elim
end
end Go.Ab
namespace Go.Ab
section
variable {P:Program} {cfg:qX} {cx:Ctx} {H:Nat->Option cI} {D:Nat->Prop} {w:World} {I:Nat->Prop} {O:OM} {Sp:lk}
variable {cH:Nat} {o:Oper} {a:Act} {ρ:Operand->AV} {v:AV} {ups:ic} {r:ap0}
variable {t:TypeId}
def HE {e:TypeId} {i:TypeInfo} (hu:P.underlying t=some (.slice e)) (hi:P.info? e=some i) (aa:Option Addr) (len cap:Nat) (lo hi' mx:Option Value) (l h m:Nat)
  (hb:(Instr.sliceBounds true len cap lo hi' mx).run P w=.ok (l,h,m) w):
  (Instr.sliceAt t (.slice aa len cap) lo hi' mx).run P w=.ok (.slice (if m=l then aa else aa.map (·.add (l*i.size))) (h - l) (m - l)) w:=by
 simp[Instr.sliceAt,Instr.slice,bG hu,hb,dG hi]
def aif (len cap:Nat):(Instr.sliceBounds true len cap none none none).run P w=.ok (0,len,cap) w:=by
 simp[Instr.sliceBounds]
def aii (len cap:Nat) (k:IntKind) (h:Int) (h0:0<=h) (h1:h<=cap):(Instr.sliceBounds true len cap none (some (.int k h)) none).run P w=.ok (0,h.toNat,cap) w:=by
 simp[Instr.sliceBounds,Instr.sliceBound,asIntOf,h0,h1]
def aij (len cap:Nat) (k:IntKind) (h:Int) (h0:0<=h) (h1:h<=cap):(Instr.sliceBounds true len cap none (some (.int k h)) (some (.int k h))).run P w=.ok (0,h.toNat,h.toNat) w:=by
 obtain⟨n,rfl⟩:=ahD h0;simp at h1;simp[Instr.sliceBounds,Instr.sliceBound,asIntOf,h1]
def aik (len cap:Nat) (k:IntKind) (l:Int) (h0:0<=l) (h1:l<=len):(Instr.sliceBounds true len cap (some (.int k l)) none none).run P w=.ok (l.toNat,len,cap) w:=by
 simp[Instr.sliceBounds,Instr.sliceBound,asIntOf,h0,h1]
def ail (len cap:Nat) (k k':IntKind) (l h:Int) (h0:0<=l) (h1:l<=h) (h2:h<=cap):(Instr.sliceBounds true len cap (some (.int k l)) (some (.int k' h)) none).run P w=.ok (l.toNat,h.toNat,cap) w:=by
 obtain⟨n,rfl⟩:=ahD h0;obtain⟨m,rfl⟩:=ahD (ajJ h0 h1);simp at h1 h2;simp[Instr.sliceBounds,Instr.sliceBound,asIntOf,h1,h2]
def ain (len cap:Nat) (k k':IntKind) (l h:Int) (h0:0<=l) (h1:l<=h) (h2:h<=cap):(Instr.sliceBounds true len cap (some (.int k l)) (some (.int k' h)) (some (.int k' h))).run P w=.ok (l.toNat,h.toNat,h.toNat) w:=by
 obtain⟨n,rfl⟩:=ahD h0;obtain⟨m,rfl⟩:=ahD (ajJ h0 h1);simp at h1 h2;simp[Instr.sliceBounds,Instr.sliceBound,asIntOf,h1,h2]
theorem VO {es n cap size l h m:Nat} {full rh:Bool} {g:Nat->AV} {aa:Option Addr} (hp:eF w I (.sl es n full g) (.slice aa n cap)) (hlh:l<=h) (hhn:h<=n) (hhm:h<=m) (_hmc:m<=cap)
  (hf:rh=true->m=h) (hs:n≠0->es=size):eF w I (.sl es (h - l) rh (λ j=>g (l+j))) (.slice (if m=l then aa else aa.map (·.add (l*size))) (h - l) (m - l)):=by
 cases hp with
 | sl b off vs hcap hfull ha hes hm h1 hr=>
  refine .sl b (off+l*es) (λ i j=>vs (l+i) j) om (λ e=>by have:=hf e;omega) (λ hne=>?_) (λ i hi=>hes _ om) (λ i j hi hj=>?_) (λ i j hi hj=>h1 _ _ om hj) (λ i j hi hj=>hr _ _ om hj)
  ·obtain⟨h1,h2⟩:=ha om;rw[aeV om,h1,hs om];simp[Addr.add_mid,h2]
  have:=hm (l+i) j om hj;rw[<- this,aip];congr 2;omega
def KU {x y:Option Operand} (h:yC x y=true):x=y:=by
 unfold yC at h;split at h
 ·rw[aeK h]
 cases h
variable {mx:Option Operand}
def Xs (h:(!mx.isSome)=true):mx=none:=by
 cases mx with
 | none=>rfl
 | some _=>cases h
variable {hi:Option Operand}
def aaj {k:Pg} (hhi:∀y,hi=some y->cQ w I O D (ρ y) (a.eval y)) (hmx:∀y,mx=some y->cQ w I O D (ρ y) (a.eval y)) (h:dg Sp H (Yl ρ hi mx k) v ups r):(∃r',dg Sp H k v ups r')/\(mx.isSome=true->mx.map a.eval=hi.map a.eval):=by
 unfold Yl at h;cases mx with
 | none=>exact⟨⟨_,h⟩,nofun⟩
 | some m=>
  cases hi with
  | none=>exact(dg.ba h).elim
  | some y=>
   simp only at h;have h1:=hhi y rfl;have h2:=hmx m rfl;split at h
   ·rename_i kk a1 kk' b1 e1 e2;obtain⟨hk,h⟩:=h.bK;obtain⟨he,h⟩:=h.rf;refine⟨⟨_,h⟩,λ _=>?_⟩;rw[e1]at h1;rw[e2]at h2;have hk:kk=kk':=afj hk;simp only[ajW];rw[h1.eP,h2.eP,hk,he]
   exact(dg.ba h).elim
def aak (n:Nat):(Instr.sliceBounds false n n none none none).run P w=.ok (0,n,n) w:=by simp[Instr.sliceBounds]
def aal (n:Nat) (k:IntKind) (h:Int) (h0:0<=h) (h1:h<=n):(Instr.sliceBounds false n n none (some (.int k h)) none).run P w=.ok (0,h.toNat,n) w:=by
 simp[Instr.sliceBounds,Instr.sliceBound,asIntOf,h0,h1]
variable {x:Operand} {lo:Option Operand}
theorem Ys (hc:ej P cfg) (hR:Rel cfg cx H D w I O) (ho:o.op=.slice t x lo hi mx) (hx:cQ w I O D (ρ x) (a.eval x)) (hhi:∀y,hi=some y->cQ w I O D (ρ y) (a.eval y)) {n et:Nat} (harr:Z4 cfg t=some (n,et))
  (h:dg Sp H (KJ cfg et λ ei=>dy mx.isNone (match ρ x with
    | .ptr o i off=>.rd o λ
     | .row es n' _=>dy (Rq i&&Rq off) (dy (Nat.beq es ei.size) (dy (Nat.beq n' n) (Z7 o n (lo.map ρ) (hi.map ρ))))
     | _=>.fail
    | _=>.fail)) v ups r):dh P cfg cx H D w I O cH o a v ups:=by
 obtain⟨hu,_⟩:=QJ hc harr;obtain⟨ei,hei,h1⟩:=h.iT;obtain⟨hmx,h2⟩:=h1.bK;have hmx:mx=none:=by cases mx with | none=>rfl | some _=>cases hmx
 subst hmx;split at h2
 ·rename_i ob j off e1;rw[e1]at hx;obtain⟨obj,_,lg,h3⟩:=h2.kg;obtain⟨p,hp,hO⟩:=hR.live lg;obtain⟨b,bo,sz,hpl,hjn,hxv⟩:=hx.lA hp;cases obj with
  | map=>exact(dg.ba h3).elim
  | box cs=>exact(dg.ba h3).elim
  | row es n' g=>
   obtain⟨c1,h4⟩:=h3.bK;obtain⟨c2,h5⟩:=h4.bK;obtain⟨c3,h6⟩:=h5.bK;obtain⟨rfl,rfl⟩:=NI c1;have c2:es=ei.size:=aeK c2;have c3:n'=n:=aeK c3;subst c3;have KT:p.es=es:=hO.2.1;have hpn:p.n=n':=hO.1;have hsz:bo+n'*es<=sz:=by
    obtain⟨_,_,_,hq | ⟨b',la,sz',hpl',_,hle,_⟩⟩:=hO
    ·rw[hpl]at hq;cases hq.2
    rw[hpl]at hpl';cases hpl';exact hle
   obtain⟨i,_,z,adB,_,hz,hs,_⟩:=(hc.ty et ei hei).ex;simp only[akJ,ajT]at hxv;have fin:∀(k:Nat) (full:Bool),k<=n'->(full=true->n'=k)->cQ w I O D (.bV ob 0 k full) (.slice (some ⟨b,bo,none⟩) k n'):=λ k full hk hf=>
    .bV hp om hk hf (λ _=>⟨b,bo,sz,hpl,by simp,by rw[KT,ahq];exact hsz⟩) om
   unfold Z7 at h6;split at h6
   ·rename_i e2 e3;obtain⟨rfl,rfl⟩:=h6.dp;have hlo:lo=none:=by cases lo with | none=>rfl | some _=>cases e2
    have akg:hi=none:=by cases hi with | none=>rfl | some _=>cases e3
    subst hlo;subst akg;refine dh.cT (x:=.slice (some ⟨b,bo,none⟩) n' n') hR ?_ (fin n' true (afM _) (λ _=>rfl));have e0:(⟨b,bo,none⟩:Addr).add 0=⟨b,bo,none⟩:=by rw[Addr.add_mid];rfl
    by_cases hz0:n'=0
    ·simp[execOp,ho,hxv,Instr.sliceAt,Instr.sureAddr,bG hu,aak,dG adB,hz0]
    simp[execOp,ho,hxv,Instr.sliceAt,Instr.sureAddr,bG hu,aak,dG adB,hz0,e0]
   ·rename_i k hh e2 e3;obtain⟨⟨q0,q1⟩,rfl,rfl⟩:=h6.eZ;have hlo:lo=none:=by cases lo with | none=>rfl | some _=>cases e2
    subst hlo;obtain⟨y,hy,ey⟩:∃y,hi=some y/\ρ y=.int k hh:=by
     cases hi with
     | none=>cases e3
     | some y=>exact⟨y,rfl,by simpa using e3⟩
    subst hy;have hyv:=hhi y rfl;rw[ey]at hyv;have hyv:=hyv.eP;refine dh.cT (x:=.slice (some ⟨b,bo,none⟩) hh.toNat n') hR ?_ (fin hh.toNat false om (λ h=>by cases h));by_cases hz0:n'=0
    ·have hb0:=aal (P:=P) (w:=w) n' k hh q0 q1;have ht0:hh.toNat=0:=by omega
     rw[ht0]at hb0 ⊢;rw[hz0]at hb0 hu ⊢;simp[execOp,ho,hxv,hyv,Instr.sliceAt,Instr.sureAddr,bG hu,hb0,dG adB]
    simp[execOp,ho,hxv,hyv,Instr.sliceAt,Instr.sureAddr,bG hu,aal n' k hh q0 q1,dG adB,hz0,(show(⟨b,bo,none⟩:Addr).add 0=⟨b,bo,none⟩ by rw[Addr.add_mid];rfl)]
   exact(dg.ba h6).elim
 exact(dg.ba h2).elim
theorem Yt (hc:ej P cfg) (hR:Rel cfg cx H D w I O) (ho:o.op=.slice t x lo hi mx) {ob i n:Nat} {f:Bool} (hx:cQ w I O D (.bV ob i n f) (a.eval x))
  (hlo:∀y,lo=some y->cQ w I O D (ρ y) (a.eval y)) (hhi:∀y,hi=some y->cQ w I O D (ρ y) (a.eval y)) (hmx:∀y,mx=some y->cQ w I O D (ρ y) (a.eval y))
  (h:dg Sp H (xe cfg t λ ti=>.rd ob λ
    | .row es N _=>dy (Nat.beq es ti.size) (ZU ob i n N f (lo.map ρ) (hi.map ρ) (mx.map ρ))
    | _=>.fail) v ups r):dh P cfg cx H D w I O cH o a v ups:=by
 obtain⟨tt,e,ti,h1,h2,h3,h4⟩:=h.lZ;obtain⟨hu,ii,z,hi',hz,hs,hby,hzs⟩:=hc.slice h1 h2 h3;obtain⟨obj,_,lg,h5⟩:=h4.kg;obtain⟨p,hp,hO⟩:=hR.live lg;cases obj with
 | map=>exact(dg.ba h5).elim
 | box cs=>exact(dg.ba h5).elim
 | row es N g=>
  obtain⟨c1,h6⟩:=h5.bK;have c1:es=ti.size:=aeK c1;have KT:p.es=es:=hO.2.1;have hpn:p.n=N:=hO.1;obtain⟨aa,cap,hxv,a1,a2,a3,a4⟩:=hx.jD hp;have hext:p.n<=i+cap:=(hxv ▸ hx).yD hp;have arg:∀(q:Option Operand) (k:IntKind) (m:Int),(∀y,q=some y->cQ w I O D (ρ y) (a.eval y))->q.map ρ=some (.int k m)->q.map a.eval=some (.int k m):=by
   intro q k m hq hm;cases q with
   | none=>cases hm
   | some y=>
    have:=hq y rfl;simp only[ajW,apI]at hm ⊢;rw[hm]at this;exact this.eP
  have non:∀(q:Option Operand),q.map ρ=none->q=none:=λ q hq=>by cases q with | none=>rfl | some _=>cases hq
  have part:∀l hh rh,l<=hh->i+hh<=N->(rh=true->f=true/\hh=n)->cQ w I O D (.bV ob (i+l) (hh - l) rh) (.slice (if cap=l then aa else aa.map (·.add (l*ii.size))) (hh - l) (cap - l)):=by
   intro l hh rh q1 q2 q3;have hhc:hh<=cap:=by omega
   refine .bV hp om om (λ hf=>?_) (λ hne=>?_) om
   ·obtain⟨e1,e2⟩:=q3 hf;have:=a3 e1;omega
   obtain⟨b,bo,sz,e1,e2,e3⟩:=a4 om;refine⟨b,bo,sz,e1,?_,?_⟩
   ·rw[aeV om,e2];simp only[ajW,Addr.add_mid,apI];rw[KT,hs,<- c1,aip];congr 1;omega
   have:i+l+(cap - l)=i+cap:=by omega
   rw[this];exact e3
  have run:∀(l hh m:Nat),(Instr.sliceBounds true n cap (lo.map a.eval) (hi.map a.eval) (mx.map a.eval)).run P w=.ok (l,hh,m) w->(execOp a.eval o).run P w=.ok (.value (.slice (if m=l then aa else aa.map (·.add (l*ii.size))) (hh - l) (m - l))) w:=by
   intro l hh m hb;have:=HE (P:=P) hu hi' aa n cap _ _ _ l hh m hb;simp only[execOp,ho,hxv,this,Sem.run_bind,Sem.run_pure,Result.andThen_ok]
  unfold ZU at h6;split at h6
  ·rename_i k m em;have hm:=arg mx k m hmx em;split at h6
   ·rename_i k1 l k2 hh el eh;obtain⟨⟨q1,q2,q3,q4⟩,rfl,rfl⟩:=h6.eZ;have hl:=arg lo k1 l hlo el;have hh':=arg hi k2 hh hhi eh;refine dh.cT hR (run l.toNat hh.toNat m.toNat ?_) (.pure (.undef _));rw[hl,hh',hm];obtain⟨l',rfl⟩:=ahD q1;obtain⟨h',rfl⟩:=ahD (show 0<=hh by omega);obtain⟨m',rfl⟩:=ahD (show 0<=m by omega);have z1:(m':Int)<=(cap:Int):=by omega
    have z2:(h':Int)<=(m':Int):=q3;have z3:(l':Int)<=(h':Int):=q2;have z4:(0:Int)<=(m':Int):=by omega
    have z5:(0:Int)<=(h':Int):=by omega
    have z6:(0:Int)<=(l':Int):=by omega
    have b1:∀(k:IntKind) (x y:Nat) (cd:BoundsCode),(x:Int)<=(y:Int)->(Instr.sliceBound (.int k x) y cd).run P w=.ok x w:=λ k x y cd hxy=>by
     have hx0:(0:Int)<=(x:Int):=by omega
     simp only[Instr.sliceBound,asIntOf,Sem.run_bind,Sem.run_pure,Result.andThen_ok];rw[afc ⟨hx0,hxy⟩];simp
    simp only[Instr.sliceBounds,Sem.run_bind,b1 _ _ _ _ z1,b1 _ _ _ _ z2,b1 _ _ _ _ z3,Result.andThen_ok,Sem.run_pure,ahO]
   ·rename_i k2 hh el eh;obtain⟨⟨q1,q2,q3⟩,rfl,rfl⟩:=h6.eZ;have hl:=non lo el;subst hl;have hh':=arg hi k2 hh hhi eh;have em0:m=0:=by omega
    have eh0:hh=0:=by omega
    subst em0;subst eh0;refine dh.cT (x:=.slice aa 0 0) hR ?_ (.pure (.sl 0 0 (λ _ _=>Go.undef) (ahU _) (λ _=>rfl) (λ h=>absurd rfl h) (λ _ h=>absurd h (ag9 _)) (λ _ _ h=>absurd h (ag9 _)) (λ _ _ h=>absurd h (ag9 _)) (λ _ _ h=>absurd h (ag9 _))));have b1:∀(k:IntKind) (y:Nat) (cd:BoundsCode),(Instr.sliceBound (.int k 0) y cd).run P w=.ok 0 w:=λ k y cd=>by
     have hx0:(0:Int)<=(0:Int):=by omega
     have hxy:(0:Int)<=(y:Int):=by omega
     simp only[Instr.sliceBound,asIntOf,Sem.run_bind,Sem.run_pure,Result.andThen_ok];rw[afc ⟨hx0,hxy⟩];simp
    have:=run 0 0 0 (by
     rw[hh',hm]
     simp[Instr.sliceBounds,b1])
    simpa using this
   exact(dg.ba h6).elim
  ·exact(dg.ba h6).elim
  rename_i em;have hm:=non mx em;subst hm;split at h6
  ·rename_i el eh;obtain⟨rfl,rfl⟩:=h6.dp;have:=non lo el;subst this;have:=non hi eh;subst this;refine dh.cT hR (run 0 n cap (aif n cap)) ?_;have hh:(.slice (if cap=0 then aa else aa.map (·.add (0*ii.size))) (n - 0) (cap - 0):Value)=.slice aa n cap:=by
    by_cases hz:cap=0
    ·simp[hz]
    obtain⟨b,bo,sz,_,e2,_⟩:=a4 hz;rw[aeV hz,e2];simp[Addr.add_mid]
   rw[hh,<- hxv];exact hx
  ·rename_i k hh el eh;obtain⟨⟨q1,q2⟩,rfl,rfl⟩:=h6.eZ;have:=non lo el;subst this;have hh':=arg hi k hh hhi eh;refine dh.cT hR (run 0 hh.toNat cap (by rw[hh'];exact aii n cap k hh q1 om)) ?_;have:=part 0 hh.toNat false (ahU _) om (λ h=>by cases h);simpa using this
  ·rename_i k l el eh;obtain⟨⟨q1,q2⟩,rfl,rfl⟩:=h6.eZ;have:=non hi eh;subst this;have hl:=arg lo k l hlo el;exact dh.cT hR (run l.toNat n cap (by rw[hl];exact aik n cap k l q1 q2)) (part l.toNat n f om om (λ h=>⟨h,rfl⟩))
  ·rename_i k l k2 hh el eh;obtain⟨⟨q1,q2,q3⟩,rfl,rfl⟩:=h6.eZ;have hl:=arg lo k l hlo el;have hh':=arg hi k2 hh hhi eh;exact dh.cT hR (run l.toNat hh.toNat cap (by rw[hl,hh'];exact ail n cap k k2 l hh q1 q2 om)) (part l.toNat hh.toNat false om om (λ h=>by cases h))
  exact(dg.ba h6).elim
theorem aam (hc:ej P cfg) (hR:Rel cfg cx H D w I O) (ho:o.op=.slice t x lo hi mx) (hx:cQ w I O D (ρ x) (a.eval x))
  (hlo:∀y,lo=some y->cQ w I O D (ρ y) (a.eval y)) (hhi:∀y,hi=some y->cQ w I O D (ρ y) (a.eval y)) (hmx:∀y,mx=some y->cQ w I O D (ρ y) (a.eval y))
  (h:dg Sp H (dV cfg cH (.slice t x lo hi mx) ρ) v ups r):dh P cfg cx H D w I O cH o a v ups:=by
 simp only[dV]at h;split at h
 ·rename_i n et harr;exact Ys hc hR ho hx hhi harr h
 split at h
 ·rename_i e1;exact Yt hc hR ho (e1 ▸ hx) hlo hhi hmx h
 rename_i hno;obtain⟨⟨r0,h0⟩,hmax⟩:=aaj hhi hmx h;clear h;obtain⟨tt,e,ti,h1,h2,h3,h4⟩:=h0.lZ;obtain⟨hu,i,z,hi',hz,hs,hby,hzs⟩:=hc.slice h1 h2 h3;clear h0;obtain⟨aa,n,cap,xa,hxv,aff,part,h5⟩:∃aa n cap xa,a.eval x=.slice aa n cap/\n<=cap/\(∀(v:AV),xa=v->
   (∀es full g,xa=.sl es n full g->(full=true->cap=n)/\∀l h m rh,l<=h->h<=n->h<=m->m<=cap->(rh=true->m=h)->cQ w I O D (.sl es (h - l) rh (λ j=>g (l+j))) (.slice (if m=l then aa else aa.map (·.add (l*i.size))) (h - l) (m - l)))/\
   (∀ob j n' full,xa≠.bV ob j n' full)/\
   (∀es n' full g,xa=.sl es n' full g->n'=n))/\∃r',dg Sp H (NA xa (lo.map ρ) (hi.map ρ) mx.isSome mx.isSome) v ups r':=by
  split at h4
  ·rename_i es n f g ex
   rw[ex]at hx
   obtain⟨hes,h5⟩:=h4.bK
   generalize hxv:a.eval x=xv at hx
   have hp:=hx.xi
   cases hp with
   | @sl _ _ _ _ aa cap b off vs hcap hfull ha hes' hm h11 hr=>
    refine⟨aa,n,cap,.sl es n f g,rfl,hcap,λ v _=>⟨λ es' rh g' e=>?_,λ _ _ _ _ e=>(by cases e),λ _ _ _ _ e=>(by cases e;rfl)⟩,_,h5⟩
    cases e
    exact⟨hfull,λ l h m rh q1 q2 q3 q4 q5=>.pure (VO (eF.sl b off vs hcap hfull ha hes' hm h11 hr) q1 q2 q3 q4 q5 (λ hn=>by rw[hs];exact tg hes hn))⟩
  ·rename_i ob j n f ex
   exact(hno _ _ _ _ ex).elim
  exact(dg.ba h4).elim
 obtain⟨r',h5⟩:=h5;clear h4 hx;obtain⟨psl,adC,aan⟩:=part xa rfl;have done:∀ {l h m:Nat} {x':Value},(Instr.sliceBounds true n cap (lo.map a.eval) (hi.map a.eval) (mx.map a.eval)).run P w=.ok (l,h,m) w->x'=.slice (if m=l then aa else aa.map (·.add (l*i.size))) (h - l) (m - l)->ups=[]->cQ w I O D v x'->dh P cfg cx H D w I O cH o a v ups:=by
  intro l h m x' hb hx' hu0 hv;subst hu0;refine dh.cT (x:=x') hR ?_ hv;rw[hx'];simp[execOp,ho,hxv,HE hu hi' aa n cap _ _ _ l h m hb]
 unfold NA at h5;split at h5
 ·rename_i e1 e2;obtain⟨hm,h6⟩:=h5.bK;have hmx:mx=none:=Xs hm;have ZI:lo=none:=by simpa using e1
  have e2':hi=none:=by simpa using e2
  subst hmx;subst ZI;subst e2';split at h6
  ·obtain⟨rfl,rfl⟩:=h6.dp;have e:=aan _ _ _ _ rfl;subst e;obtain⟨q1,q2⟩:=psl _ _ _ rfl;exact done (aif _ _) rfl rfl (by simpa using q2 0 _ cap _ (ahU _) (afM _) aff (afM _) q1)
  ·exact absurd rfl (adC _ _ _ _)
  exact(dg.ba h6).elim
 ·rename_i k hh e1 e2;obtain⟨hm,h6⟩:=h5.bK;have ZI:lo=none:=by simpa using e1
  obtain⟨y,e2',e3⟩:∃y,hi=some y/\ρ y=.int k hh:=aop.1 e2;have hy:a.eval y=.int k hh:=(e3 ▸ hhi y e2').eP;subst ZI;have go:∀rh,rh=mx.isSome->0<=hh->hh<=n->(∀m,hh.toNat<=m->m<=cap->(rh=true->m=hh.toNat)->cQ w I O D v (.slice (if m=0 then aa else aa.map (·.add (0*i.size))) (hh.toNat - 0) (m - 0)))->ups=[]->dh P cfg cx H D w I O cH o a v ups:=by
   intro rh hfe q1 q2 q3 q4;cases hf:mx.isSome with
   | true=>
    exact done (l:=0) (h:=hh.toNat) (m:=hh.toNat) (by rw[hmax hf];simp only[e2',ajW,apg,hy];exact aij _ _ _ _ q1 om) rfl q4 (q3 _ (afM _) om (λ _=>rfl))
   | false=>
    have hmx:mx=none:=Xs (by rw[hf];rfl);subst hmx;exact done (l:=0) (h:=hh.toNat) (m:=cap) (by simp only[e2',ajW,apg,hy];exact aii _ _ _ _ q1 om) rfl q4 (q3 _ om (afM _) (λ e=>by rw[hfe,hf]at e;cases e))
  split at h6
  ·split at h6
   ·rename_i hzf;obtain⟨⟨q1,q2⟩,rfl,rfl⟩:=h6.eZ;have e:=aan _ _ _ _ rfl;subst e;have hh0:hh=0:=by omega
    subst hh0;unfold zf at hzf;split at hzf
    ·split at hzf
     ·obtain⟨q3,q4⟩:=psl _ _ _ rfl;have hc0:=q3 rfl;exact go _ rfl om om (λ m hm1 hm2 hm3=>by simpa using q4 0 0 m true (afM _) om (ahU _) hm2 (λ _=>by omega)) rfl
     cases hzf
    cases hzf
   obtain⟨⟨q1,q2⟩,rfl,rfl⟩:=h6.eZ;have e:=aan _ _ _ _ rfl;subst e;obtain⟨q3,q4⟩:=psl _ _ _ rfl;exact go _ rfl q1 q2 (λ m hm1 hm2 hm3=>by simpa using q4 0 hh.toNat m _ (ahU _) om hm1 hm2 hm3) rfl
  ·exact absurd rfl (adC _ _ _ _)
  exact(dg.ba h6).elim
 ·rename_i k l e1 e2;obtain⟨hm,h6⟩:=h5.bK;have hmx:mx=none:=Xs hm;have e2':hi=none:=by simpa using e2
  obtain⟨y,ZI,e3⟩:∃y,lo=some y/\ρ y=.int k l:=aop.1 e1;have hy:a.eval y=.int k l:=(e3 ▸ hlo y ZI).eP;subst hmx;subst e2';split at h6
  ·obtain⟨⟨q1,q2⟩,rfl,rfl⟩:=h6.eZ;have e:=aan _ _ _ _ rfl;subst e;obtain⟨q3,q4⟩:=psl _ _ _ rfl;exact done (by simp only[ZI,ajW,apg,hy];exact aik _ _ _ _ q1 q2) rfl rfl (q4 l.toNat _ cap _ om (afM _) aff (afM _) q3)
  ·exact absurd rfl (adC _ _ _ _)
  exact(dg.ba h6).elim
 ·rename_i k l k' hh e1 e2;obtain⟨hm,h6⟩:=h5.bK;obtain⟨y,ZI,e3⟩:∃y,lo=some y/\ρ y=.int k l:=aop.1 e1;obtain⟨y',e2',e3'⟩:∃y,hi=some y/\ρ y=.int k' hh:=aop.1 e2;have hy:a.eval y=.int k l:=(e3 ▸ hlo y ZI).eP;have hy':a.eval y'=.int k' hh:=(e3' ▸ hhi y' e2').eP;have go:∀rh,rh=mx.isSome->0<=l->l<=hh->hh<=n->(∀m,hh.toNat<=m->m<=cap->(rh=true->m=hh.toNat)->cQ w I O D v (.slice (if m=l.toNat then aa else aa.map (·.add (l.toNat*i.size))) (hh.toNat - l.toNat) (m - l.toNat)))->ups=[]->dh P cfg cx H D w I O cH o a v ups:=by
   intro rh hfe q0 q1 q2 q3 q4;cases hf:mx.isSome with
   | true=>
    exact done (l:=l.toNat) (h:=hh.toNat) (m:=hh.toNat) (by rw[hmax hf];simp only[ZI,e2',ajW,hy,hy'];exact ain _ _ _ _ _ _ q0 q1 om) rfl q4 (q3 _ (afM _) om (λ _=>rfl))
   | false=>
    have hmx:mx=none:=Xs (by rw[hf];rfl);subst hmx;exact done (l:=l.toNat) (h:=hh.toNat) (m:=cap) (by simp only[ZI,e2',ajW,apg,hy,hy'];exact ail _ _ _ _ _ _ q0 q1 om) rfl q4 (q3 _ om (afM _) (λ e=>by rw[hfe,hf]at e;cases e))
  split at h6
  ·obtain⟨⟨q0,q1,q2⟩,rfl,rfl⟩:=h6.eZ;have e:=aan _ _ _ _ rfl;subst e;obtain⟨q3,q4⟩:=psl _ _ _ rfl;exact go _ rfl q0 q1 q2 (λ m hm1 hm2 hm3=>q4 l.toNat hh.toNat m _ om om hm1 hm2 hm3) rfl
  ·exact absurd rfl (adC _ _ _ _)
  exact(dg.ba h6).elim
 exact(dg.ba h5).elim
end
end Go.Ab
namespace Go.Ab
section
variable {P:Program} {cfg:qX} {cx:Ctx} {H:Nat->Option cI} {D:Nat->Prop} {w:World} {I:Nat->Prop} {O:OM} {Sp:lk}
variable {cH:Nat} {o:Oper} {a:Act} {ρ:Operand->AV} {v:AV} {ups:ic} {r:ap0}
def yo (O:OM) (ids:ap0) (b:Nat):Prop:=∃o p bo sz,o∈ids/\O o=some p/\p.pl=some (b,bo,sz)
def kill (O:OM) (ids:ap0):OM:=λ o=>if o∈ids then none else O o
def QK (ids:ap0) (o:Nat):look (dead ids) o=if o∈ids then some none else none:=by
 induction ids with
 | nil=>simp[dead,look]
 | cons a l ih=>
  simp only[dead,look,ih];cases h:Nat.beq a o with
  | true=>have:=aeK h;subst this;simp
  | false=>
   have:o≠a:=λ e=>by subst e;simp at h
   simp[this]
def GC (ids:ap0) (o:Nat):jJ H (dead ids) o=if o∈ids then none else H o:=by
 unfold jJ;rw[QK];by_cases h:o∈ids<;>simp[h]
def Rel.freeze (hR:Rel cfg cx H D w I O) (ids:ap0):Rel cfg cx (jJ H (dead ids)) D w (λ b=>I b\/yo O ids b) (kill O ids) where
 dom:=λ o=>by
  rw[GC];unfold kill;by_cases h:o∈ids<;>simp[h,hR.dom o]
 used:=λ o p h=>by
  unfold kill at h;by_cases h':o∈ids<;>simp[h']at h;exact hR.used o p h
 objs:=λ o ob p h h'=>by
  rw[GC]at h;unfold kill at h';by_cases h0:o∈ids<;>simp[h0]at h h';exact(hR.objs o ob p h h').mono (λ _ h=>.inl h) (λ _ _=>rfl) (λ o _=>by unfold kill;by_cases h0:o∈ids<;>simp[h0]) (λ _ h=>h) hR.used (λ _ _ _ _=>rfl)
 inj:=λ o o' p p' b bo sz b' la sz' h1 h2 h3 h4 h5=>by
  unfold kill at h1 h2;by_cases h0:o∈ids<;>simp[h0]at h1;by_cases h0':o'∈ids<;>simp[h0']at h2;exact hR.inj o o' p p' b bo sz b' la sz' h1 h2 h3 h4 h5
 lz:=λ o p b bo sz h1 h2 h3=>by
  unfold kill at h1;by_cases h0:o∈ids<;>simp[h0]at h1;rcases h3 with h3 | ⟨o',p',la,sz',h4,h5,h6⟩
  ·exact hR.lz o p b bo sz h1 h2 h3
  exact hR.inj o o' p p' b bo sz b la sz' h1 h5 h2 h6 (λ e=>h0 (e ▸ h4)) rfl
 lt:=λ o p b bo sz h1 h2=>by
  unfold kill at h1;by_cases h0:o∈ids<;>simp[h0]at h1;exact hR.lt o p b bo sz h1 h2
 uX:=λ b h=>by
  rcases h with h | ⟨o',p',la,sz',h4,h5,h6⟩
  ·exact hR.uX b h
  exact hR.lt o' p' b la sz' h5 h6
 size:=hR.size
 frame:=hR.frame
 env:=hR.env
 new:=λ o p b bo sz h1 h2=>by
  unfold kill at h1;by_cases h0:o∈ids<;>simp[h0]at h1;exact hR.new o p b bo sz h1 h2
 glob:=λ g cs h=>(hR.glob g cs h).mono (λ _ h=>.inl h) (λ _ _=>rfl)
 Jf:=λ b h=>.inl (hR.Jf b h)
 KQ:=λ b h=>by
  rcases h with h | ⟨o',p',la,sz',h4,h5,h6⟩
  ·exact hR.KQ b h
  exact .inr (hR.new o' p' b la sz' h5 h6)
 NH:=λ o h=>by
  unfold kill;by_cases h0:o∈ids
  ·simp[h0]
  simpa[h0]using hR.NH o h
 Dm:=hR.Dm
def cQ.kill (hR:Rel cfg cx H D w I O) (ids:ap0) {v:AV} {x:Value} (h:cQ w I O D v x):cQ w (λ b=>I b\/yo O ids b) (kill O ids) D v x:=
 h.mono (λ _ h=>.inl h) (λ _ _=>rfl) (λ o _=>by unfold Ab.kill;by_cases h0:o∈ids<;>simp[h0]) (λ _ h=>h) hR.used
def yo.VP {ids adD:ap0} {b:Nat} (h:yo O ids b):yo O (ids++adD) b:=by
 obtain⟨o,p,bo,sz,h1,h2,h3⟩:=h;exact⟨o,p,bo,sz,anx _ h1,h2,h3⟩
def yo.VQ {ids adD:ap0} {b:Nat} (h:yo O adD b):yo O (ids++adD) b:=by
 obtain⟨o,p,bo,sz,h1,h2,h3⟩:=h;exact⟨o,p,bo,sz,aou _ h1,h2,h3⟩
def wR (i j:Nat) (g:Nat->AV):lu i g j=g (i+j):=by cases i<;>simp[lu]
theorem An (hR:Rel cfg cx H D w I O):∀f:Nat,
  (∀(v:AV) (k:AV->ap0->Pg) (v':AV) (ups:ic) (r:ap0),dg Sp H (PT f v k) v' ups r->∃u ids r',dg Sp H (k u ids) v' ups r'/\
    ∀x,cQ w I O D v x->eF w (λ b=>I b\/yo O ids b) u x)/\
  (∀(l:ap2) (k:ap2->ap0->Pg) (v':AV) (ups:ic) (r:ap0),dg Sp H (PT.VD f l k) v' ups r->∃l' ids r',dg Sp H (k l' ids) v' ups r'/\l'.length=l.length/\
    ∀j,j<l.length->∀x,cQ w I O D (nth l j) x->eF w (λ b=>I b\/yo O ids b) (nth l' j) x):=by
 intro f;induction f with
 | zero=>exact⟨λ v k v' ups r h=>(dg.ba h).elim,λ l k v' ups r h=>(dg.ba h).elim⟩
 | succ f ih=>
  obtain⟨ih1,ih2⟩:=ih;refine⟨λ v k v' ups r h=>?_,λ l k v' ups r h=>?_⟩
  ·cases v with
   | bV ob i n full=>
    simp only[PT]at h;obtain⟨obj,r',lg,h1⟩:=h.kg;obtain⟨p,hp,hO⟩:=hR.live lg;cases obj with
    | map=>exact(dg.ba h1).elim
    | box cs=>exact(dg.ba h1).elim
    | row es m g=>
     refine⟨_,[ob],r',h1,λ x hx=>?_⟩;obtain⟨aa,cap,rfl,h2,h3,h4,h5⟩:=hx.jD hp;obtain⟨hn,hes,hlen,h6⟩:=hO;by_cases hn0:n=0
     ·subst hn0;exact .sl 0 0 (λ _ _=>Go.undef) h3 h4 (λ e=>absurd rfl e) (λ i hi=>absurd hi om) (λ i j hi=>absurd hi om) (λ i j hi=>absurd hi om) (λ i j hi=>absurd hi om)
     obtain⟨b,bo,sz,h7,rfl,h8⟩:=h5 om;rcases h6 with⟨_,h6⟩ | ⟨b',la,sz',h6,hal,hle,hcs⟩
     ·rw[h7]at h6;cases h6
     rw[h7]at h6;cases h6;subst hn;have hmul:∀k,k<n->(i+k+1)*es<=p.n*es:=λ k hk=>afK _ om;refine .sl b (bo+i*p.es) (λ k j=>cellAt w b (bo+((i+k)*es+j))) h3 h4 (λ _=>⟨rfl,.inr ⟨ob,p,bo,sz,by simp,hp,h7⟩⟩) (λ k hk=>by rw[wR];exact hlen _ om) (λ k j hk hj=>?_) (λ k j hk hj=>(hcs (i+k) j om hj).2) (λ k j hk hj=>?_)
     ·have e:bo+i*p.es+(k*es+j)=bo+((i+k)*es+j):=by rw[hes,aip];omega
      rw[e];refine qa hal.al ?_;have:=hmul k hk;rw[ah2]at this;omega
     rw[wR];exact(hcs (i+k) j om hj).1.mono (λ _ h=>.inl h) (λ _ _=>rfl)
   | ptr ob i off=>
    cases i with
    | succ i=>simp only[PT]at h;exact(dg.ba h).elim
    | zero=>
     simp only[PT]at h;obtain⟨obj,r',lg,h1⟩:=h.kg;obtain⟨p,hp,hO⟩:=hR.live lg;cases obj with
     | map=>exact(dg.ba h1).elim
     | row es m g=>exact(dg.ba h1).elim
     | box cs=>
      obtain⟨l',ids,r'',h2,h3,h4⟩:=ih2 _ _ _ _ _ h1;refine⟨_,_,r'',h2,λ x hx=>?_⟩;obtain⟨b,bo,sz,h5,h6,rfl⟩:=hx.lA hp;obtain⟨hn,b',la,sz',h7,hal,hle,hcs⟩:=hO;rw[h5]at h7;cases h7;simp only[akJ,ahq];refine .ro b (bo+off) (λ j=>cellAt w b (bo+(off+j))) (.inr ⟨ob,p,bo,sz,by simp,hp,h5⟩) (λ j hj=>?_) (λ j hj=>?_)
      ·rw[anS];refine qa hal ?_;rw[h3]at hj;simp at hj;omega
      rw[h3]at hj;refine(h4 j hj _ (by rw[Eo];exact hcs (off+j) (by simp at hj;omega))).mono (λ b h=>?_) (λ _ _=>rfl);rcases h with h | ⟨o',p',la,sz',q1,q2,q3⟩
      ·exact .inl h
      exact .inr ⟨o',p',la,sz',ahV _ q1,q2,q3⟩
   | agg cs=>
    simp only[PT]at h;obtain⟨l',ids,r'',h2,h3,h4⟩:=ih2 _ _ _ _ _ h;refine⟨_,_,r'',h2,λ x hx=>?_⟩;obtain⟨vs,rfl,hl,hr⟩:=hx.nG;exact .agg om λ j hj=>h4 j om _ (hr j om)
   | fP cs=>
    simp only[PT]at h;obtain⟨l',ids,r'',h2,h3,h4⟩:=ih2 _ _ _ _ _ h;refine⟨_,_,r'',h2,λ x hx=>?_⟩;obtain⟨vs,rfl,hl,hr⟩:=hx.BM;exact .fP om λ j hj=>h4 j om _ (hr j om)
   | fn g cs=>
    simp only[PT]at h;obtain⟨l',ids,r'',h2,h3,h4⟩:=ih2 _ _ _ _ _ h;refine⟨_,_,r'',h2,λ x hx=>?_⟩;obtain⟨vs,rfl,hl,hr⟩:=hx.En;exact .fn om λ j hj=>h4 j om _ (hr j om)
   | mref ob=>
    simp only[PT]at h;obtain⟨obj,r1,lg,h1⟩:=h.kg;obtain⟨p,hp,hO⟩:=hR.live lg;cases obj with
    | box=>exact(dg.ba h1).elim
    | row=>exact(dg.ba h1).elim
    | map kd z f=>
     obtain⟨_,b,bo,sz,es,clock,hpl,hw,hm⟩:=hO;refine⟨_,_,_,h1,λ x hx=>?_⟩;obtain⟨b',la,sz',hpl',rfl⟩:=hx.rb hp;rw[hpl]at hpl';cases hpl';exact .pm b es clock (.inr ⟨ob,p,bo,sz,by simp,hp,hpl⟩) hw hm
   | _=>
    refine⟨_,[],r,h,λ x hx=>?_⟩;cases hx with | pure hx=>exact hx.mono (λ _ h=>.inl h) (λ _ _=>rfl)
  cases l with
  | nil=>exact⟨[],[],r,h,rfl,λ j hj=>by cases hj⟩
  | cons v l=>
   simp only[PT.VD]at h;obtain⟨u,i1,r1,h1,h2⟩:=ih1 _ _ _ _ _ h;obtain⟨l',i2,r2,h3,h4,h5⟩:=ih2 _ _ _ _ _ h1;refine⟨u::l',i1++i2,r2,h3,by simp[h4],λ j hj x hx=>?_⟩;cases j with
   | zero=>exact(h2 x hx).mono (λ b h=>h.elim .inl λ h=>.inr h.VP) (λ _ _=>rfl)
   | succ j=>exact(h5 j (by simpa using hj) x hx).mono (λ b h=>h.elim .inl λ h=>.inr h.VQ) (λ _ _=>rfl)
end
end Go.Ab

/- An abstract machine over the model's code, that it is sound; models of the functions and their proofs. -/
import Derived.Test.YtfblhejmclcdmaaGreatDoorA2
import Derived.RangeFuncNested
import Derived.Laws.Cover3
set_option linter.unusedVariables false
set_option linter.unusedSimpArgs false


namespace Go.Ab
section
variable {P:Program} {cfg:rU} {N:Nat} {cx:Ctx}
def aaV (o es:Nat) (g:Nat→AV):Option cB→Option cB
 | some (.box cs)=>some (.box (Y1 o es g cs))
 | x=>x
def SN (o es:Nat) (g:Nat→AV):jh→jh
 | []=>[]
 | (k,x)::l=>(k,aaV o es g x)::SN o es g l
def adU (o:Nat) (s:St):St:=match hget s.heap o with
 | some (.row es _ g)=>⟨aaU o es g s.tmps,(o,none)::SN o es g s.heap,s.nx⟩
 | _=>s
def SQ:List Nat→St→St
 | [],s=>s
 | o::l,s=>SQ l (adU o s)
theorem Xk (o es:Nat) (g:Nat→AV):∀(l:jh) (k:Nat),look (SN o es g l) k=(look l k).map (aaV o es g):=by
 intro l;induction l with
 | nil=>intro k; rfl
 | cons p l ih=>
  intro k;obtain ⟨j,x⟩:=p;simp only [SN,look];cases Nat.beq j k with
  | true=>rfl
  | false=>exact ih k
theorem Xl (o es:Nat) (g:Nat→AV) (l:jh) (k:Nat):hget (SN o es g l) k=aaV o es g (hget l k):=by
 unfold hget;rw [Xk];cases look l k with
 | none=>rfl
 | some x=>cases x with
  | none=>rfl
  | some y=>cases y<;>rfl
theorem Xm {m:Nat} {s:St} {a:Act} {w:World} {I:Nat→Prop} {O:OM} (hS:gQ cfg N m cx s a w I O) (o:Nat):∃I' O',gQ cfg N m cx (adU o s) a w I' O':=by
 unfold adU;split
 ·rename_i es n0 g ho;obtain ⟨hm,hR,hT,hMk⟩:=hS;refine ⟨fun b=>I b∨zl O [o] b,kill O [o],hm,?_,⟨rfl,hT.size,fun t ht=>?_,hT.gone⟩,hMk⟩
  ·have hF:=hR.freeze [o];have e:∀o',hget ((o,none)::SN o es g s.heap) o'=if o'=o then none else aaV o es g (hget s.heap o'):=by
    intro o';rw [← Xl];unfold hget;simp only [look];cases hb:Nat.beq o o' with
    | true=>have:=Nat.eq_of_beq_eq_true hb; subst this; simp
    | false=>
     have:o'≠o:=fun e=>by subst e; simp at hb
     simp [this]
   have e2:∀o',jQ (hget s.heap) (dead [o]) o'=if o'=o then none else hget s.heap o':=by
    intro o';rw [A9];by_cases h:o'=o<;>simp [h]
   refine { hF with
    dom:=fun o'=>?_
    objs:=fun o' ob p hob hp=>?_
    maps:=fun o' kd z f p b bo sz hob hp hpl=>?_ }
   ·rw [hF.dom o',e,e2];by_cases h:o'=o
    ·simp [h]
    ·rw [if_neg h,if_neg h];cases hget s.heap o' with
     | none=>exact Iff.rfl
     | some y=>cases y<;>simp [aaV]
   ·rw [e] at hob;by_cases h:o'=o
    ·rw [if_pos h] at hob; cases hob
    ·rw [if_neg h] at hob;have hk:kill O [o] o'=O o':=by unfold kill; simp [h]
     rw [hk] at hp;cases hy:hget s.heap o' with
     | none=>rw [hy] at hob; cases hob
     | some y=>
      rw [hy] at hob;have h2:=hF.objs o' y p (by rw [e2,if_neg h]; exact hy) (by rw [hk]; exact hp);cases y with
      | row es' n' g'=>cases hob; exact h2
      | map kd z f=>cases hob; exact h2
      | box cs=>
       cases hob;obtain ⟨h3,b,bo,sz,h4,h5,h6,h7⟩:=hR.objs o' (.box cs) p hy hp;refine ⟨h3,b,bo,sz,h4,h5,by rw [KR]; exact h6,fun j hj=>?_⟩;rw [KR] at hj;rw [Vt];exact Qe hR ho (h7 j hj)
   ·rw [e] at hob;by_cases h:o'=o
    ·rw [if_pos h] at hob; cases hob
    ·rw [if_neg h] at hob;cases hy:hget s.heap o' with
     | none=>rw [hy] at hob; cases hob
     | some y=>
      rw [hy] at hob;cases y with
      | row=>cases hob
      | box=>cases hob
      | map kd' z' f'=>
       cases hob;exact hF.maps o' kd z f p b bo sz (by rw [e2,if_neg h]; exact hy) hp hpl
  ·show Rep w _ _ _ (tget (aaU o es g s.tmps) t) _;rw [Y3];exact acF hR ho (hT.rep t ht)
 ·exact ⟨I,O,hS⟩
theorem NS {m:Nat}:∀(l:List Nat) {s:St} {a:Act} {w:World} {I:Nat→Prop} {O:OM},gQ cfg N m cx s a w I O→∃I' O',gQ cfg N m cx (SQ l s) a w I' O':=by
 intro l;induction l with
 | nil=>intro s a w I O h; exact ⟨I,O,h⟩
 | cons o l ih=>
  intro s a w I O h;obtain ⟨I',O',h'⟩:=Xm h o;exact ih h'
def J2 (m:Nat) (ρ:List (Nat×Option Nat)) (os:List Nat) (s s':St):Prop:=Emb m ρ (SQ os s) s'
theorem J3 {m:Nat} {ρ:List (Nat×Option Nat)} {os:List Nat} {s s':St} {a:Act} {w:World} {I:Nat→Prop} {O:OM} (hS:gQ cfg N m cx s a w I O) (h:J2 m ρ os s s'):∃I' O',gQ cfg N m cx s' a w I' O':=by
 obtain ⟨I',O',h'⟩:=NS os hS;exact ⟨I',_,Bh h' h⟩
end
end Go.Ab

namespace Go.Ab
section
variable {P:Program} {cfg:rU} {N:Nat} {cx:Ctx}
theorem Rx (hc:fq P cfg) {f:FuncId} {fn:Func} {c:Code} {args:List AV} {obs:List cB} {r:AV} {obs':List cB} {K:Exit→St→Prop} (hf:P.funcs[f]? = some fn) (hb:fn.body=some c) (hnm:(fn.name == "runtime.NumGoroutine")=false)
  (hN:args.length≤fn.ntmps) (hle:obs.length≤obs'.length)
  (h:Good P cfg fn.ntmps none obs.length c ⟨DC args 0,CF.obsUps obs 0,obs.length⟩ K)
  (hend:∀e s,K e s→(e=.normal∨e=.ret)∧∀(cx:Ctx) (a':Act) (w':World) (I':Nat→Prop) (O':OM),cx.m=obs.length→gQ cfg fn.ntmps obs.length cx s a' w' I' O'→∃v,(results fn a'.tmps).run P w'=.ok v w'∧∃I'' O'',Rel cfg cx (zn obs') (fun o=>o<obs'.length) w' I'' O''∧
    Rep w' I'' O'' (fun o=>o<obs'.length) r v):Spec P cfg f args obs r obs':=by
 refine ⟨⟨fn,hf,by rw [hb]; rfl,hnm⟩,hle,fun w I O vals hR hvs hrep=>?_⟩;refine (callsIn_wide (n:=0)).1 (callsIn_of_wp_marks hf hb trivial ?_);have hS:gQ cfg fn.ntmps obs.length (EO w I O obs.length) ⟨DC args 0,CF.obsUps obs 0,obs.length⟩ { tmps:=vals++Array.replicate (fn.ntmps - vals.size) undef,defers:=[] } w I O:=by
  refine ⟨rfl,?_,⟨rfl,by simp; omega,fun t _=>?_,fun t h=>by cases h⟩,⟨[],List.nodup_nil,fun _=>rfl,rfl,fun _ h=>by cases h⟩⟩
  ·rw [CQ]; exact hR
  ·rw [Qd];simp only [Nat.zero_le,if_true,Nat.sub_zero];by_cases ht:t<args.length
   ·have e:(vals++Array.replicate (fn.ntmps - vals.size) undef).getD t Go.undef=vals.getD t Go.undef:=by
     have:t<vals.size:=by omega
     simp [Array.getElem?_append_left this]
    rw [e];exact hrep t ht
   ·have e:nth args t=.undef:=by
     rw [pQ];simp [List.getElem?_eq_none (Nat.le_of_not_lt ht)]
    rw [e];exact .pure (.undef _)
 refine wpIn_mono (h 0 _ _ w I O hS rfl) ?_;intro e a0 w0 ⟨s,I0,O0,hK,hS0⟩;obtain ⟨hex,hend⟩:=hend e s hK;have hret:∀(a':Act) (w':World) (I':Nat→Prop) (O':OM),gQ cfg fn.ntmps obs.length (EO w I O obs.length) s a' w' I' O'→∃v,(results fn a'.tmps).run P w'=.ok v w'∧∃x I'' O'',Ending.returned v=.returned x∧Rel cfg (EO w I O obs.length) (zn obs') (fun o=>o<obs'.length) w' I'' O''∧
   Rep w' I'' O'' (fun o=>o<obs'.length) r x:=fun a' w' I' O' hS'=>by
  obtain ⟨v,h1,I'',O'',h2,h3⟩:=hend _ a' w' I' O' rfl hS'
  exact ⟨v,h1,v,I'',O'',rfl,h2,h3⟩
 obtain ⟨ms,hnd,_,hds,hms⟩:=hS0.marks;have hS1:=gQ.turn (a:=a0) (w:=w0) (a':=⟨a0.tmps,[]⟩) ⟨fun _ _ h=>h,fun _ _=>rfl,Nat.le_refl _,fun _ _ _ h=>h⟩ (fun _ _=>rfl) hS0.rel.env rfl ⟨[],List.nodup_nil,fun _=>rfl,rfl,fun _ h=>by cases h⟩ hS0;cases e with
 | normal=>
  show LeavesInM _ _ _ _ _ _ a0.defers _ _;rw [hds];exact wN (cx:=EO w I O obs.length) (fun _ _ h=>h) (fun a w' I' O' hS'=>hret a w' I' O' hS') ms a0.tmps w0 I0 O0 hnd hms hS1
 | ret=>
  show LeavesInM _ _ _ _ _ _ a0.defers _ _;rw [hds];exact wN (cx:=EO w I O obs.length) (fun _ _ h=>h) (fun a w' I' O' hS'=>hret a w' I' O' hS') ms a0.tmps w0 I0 O0 hnd hms hS1
 | exit id=>rcases hex with h | h<;>cases h
 | goto l=>rcases hex with h | h<;>cases h
 | panic ch=>rcases hex with h | h<;>cases h
 | outgrown=>rcases hex with h | h<;>cases h
def aaW (cfg:rU) (rs:List ResultVar) (m:Nat) (r:AV) (obs':List cB) (e:Exit) (s:St):Prop:=
 match (match e with | .normal=>true | .ret=>true | _=>false) with
 | true=>∃fz ρ,match SQ fz s with
  | s'=>match Dz cfg s' rs with
   | some vs=>Emb m ρ s' ⟨[],PL obs' 0,obs'.length⟩∧jY ρ (PL obs' 0) fuel (oneOf vs) r
   | none=>False
 | false=>False
theorem Y4:∀(obs:List cB) (i o:Nat),hget (PL obs i) o=if i≤o then zn obs (o - i) else none:=by
 intro obs;induction obs with
 | nil=>intro i o; simp [PL,hget,look,zn]
 | cons x l ih=>
  intro i o;unfold PL hget;simp only [look];cases hb:Nat.beq i o with
  | true=>
   have:=Nat.eq_of_beq_eq_true hb;subst this;simp only [Nat.le_refl,if_true,Nat.sub_self,zn];cases gz x<;>rfl
  | false=>
   have hne:i≠o:=fun e=>by subst e; simp at hb
   have:=ih (i+1) o;unfold hget at this;simp only;rw [this];by_cases h:i≤o
   ·rw [if_pos h,if_pos om];obtain ⟨k,hk⟩:∃k,o - i=k+1:=⟨o - i - 1,by omega⟩;rw [hk,show o - (i+1)=k by omega];rfl
   ·rw [if_neg h,if_neg om]
theorem Xn (obs:List cB):hget (PL obs 0)=zn obs:=by
 funext o;rw [Y4];simp
theorem aaX (hc:fq P cfg) {fn:Func} {m:Nat} {r:AV} {obs':List cB} {e:Exit} {s:St} (hm:m≤obs'.length) (h:aaW cfg fn.results.toList m r obs' e s):(e=.normal∨e=.ret)∧∀(cx:Ctx) (a':Act) (w':World) (I':Nat→Prop) (O':OM),cx.m=m→gQ cfg fn.ntmps m cx s a' w' I' O'→
  ∃v,(results fn a'.tmps).run P w'=.ok v w'∧∃I'' O'',Rel cfg cx (zn obs') (fun o=>o<obs'.length) w' I'' O''∧Rep w' I'' O'' (fun o=>o<obs'.length) r v:=by
 unfold aaW at h;have he:(e=.normal∨e=.ret):=by
  cases e with
  | normal=>exact .inl rfl
  | ret=>exact .inr rfl
  | _=>exact h.elim
 refine ⟨he,fun cx a' w' I' O' hcm hS=>?_⟩;have h:∃fz ρ,match SQ fz s with
  | s'=>match Dz cfg s' fn.results.toList with
   | some vs=>Emb m ρ s' ⟨[],PL obs' 0,obs'.length⟩∧jY ρ (PL obs' 0) fuel (oneOf vs) r
   | none=>False:=by
  rcases he with rfl | rfl<;>exact h
 obtain ⟨fz,ρ,h⟩:=h;obtain ⟨I1,O1,hS1⟩:=NS fz hS;generalize SQ fz s=s' at h hS1;simp only at h;cases hv:Dz cfg s' fn.results.toList with
 | none=>rw [hv] at h; exact h.elim
 | some vs=>
  rw [hv] at h;obtain ⟨hE,hV⟩:=h;obtain ⟨x,hrun,hx⟩:=NR hc hS1 hv;have hS2:=Bh hS1 hE;refine ⟨x,hrun,I1,kN ρ (PL obs' 0) O1,?_,?_⟩
  ·have:=hS2.rel;rw [show hget (PL obs' 0)=zn obs' from Xn obs'] at this;exact this
  ·exact KQ hS1.rel.dom (Ye hE.heap).x fuel _ _ x hx hV
theorem sQ (hc:fq P cfg) {f:FuncId} {fn:Func} {c:Code} {ct:List Nat} {args:List AV} {obs:List cB} {r:AV} {obs':List cB} (hf:P.funcs[f]? = some fn) (hb:fn.body=some c) (hnm:(fn.name == "runtime.NumGoroutine")=false)
  (hN:args.length≤fn.ntmps) (hok:fZ fn.ntmps c=true) (hle:obs.length≤obs'.length)
  (h:jD cfg (Spec P cfg) ct (Loops P cfg fn.ntmps none obs.length) c ⟨DC args 0,CF.obsUps obs 0,obs.length⟩ (aaW cfg fn.results.toList obs.length r obs')):Spec P cfg f args obs r obs':=
 Rx hc hf hb hnm hN hle (jU hc c _ _ hok h) (fun _ _ hk=>aaX hc hle hk)
end
end Go.Ab

namespace Go.Ab
section
variable {P:Program} {cfg:rU}
def adV:ZK→Value→Bool
 | .bool,.bool false=>true
 | .int k,.int k' n=>decide (k=k')&&decide (n=0)
 | .str,.string s=>s.data.isEmpty
 | .slice,.slice none 0 0=>true
 | .ptr,.pointer none=>true
 | .other,x=>x.oneCell'
 | _,_=>false
def Yf:List ZK→List Value→Bool
 | [],[]=>true
 | z::l,v::m=>adV z v&&Yf l m
 | _,_=>false
def adW:TD→TypeDesc→Bool
 | .bool,.bool=>true
 | .int k,.int k'=>decide (k=k')
 | .str,.string=>true
 | .slice e,.slice e'=>Nat.beq e e'
 | .pointer e,.pointer e'=>Nat.beq e e'
 | .map k e,.map k' e'=>Nat.beq k k'&&Nat.beq e e'
 | .array n e,.array n' e'=>Nat.beq n n'&&Nat.beq e e'
 | .struct fs,.struct fields=>decide (fields.toList.map (fun f=>(f.offset,f.type))=fs)
 | .other,_=>true
 | _,_=>false
def fieldsB (P:Program):TypeDesc→Bool
 | .struct fields=>fields.toList.all fun f=>(P.info? f.type).isSome
 | _=>true
def Yg (P:Program) (t:TypeId) (ti:Jf):Bool:=
 match P.info? t,P.underlying t with
 | some i,some d=>match i.zero with
  | some z=>Nat.beq i.size ti.size&&Nat.beq i.bytes ti.bytes&&decide (d.isRow=ti.agg)&&Nat.beq z.cells.size ti.size&&Yf ti.zero z.cells.toList&&adW ti.desc d&&fieldsB P d&&(ti.agg||z.oneCell')
  | none=>false
 | _,_=>false
def TU (P:Program):List (Nat×Jf)→Bool
 | []=>true
 | (t,ti)::l=>Yg P t ti&&TU P l
theorem Y5 {z:ZK} {v:Value} (h:adV z v=true):FB z v:=by
 unfold adV at h;split at h
 ·rfl
 ·simp only [Bool.and_eq_true,decide_eq_true_eq] at h; obtain ⟨rfl,rfl⟩:=h; rfl
 ·rename_i s;show Value.string s=.string ByteArray.empty;have:s.data=#[]:=by simpa using h
  cases s;simp only at this;rw [this];rfl
 ·rfl
 ·rfl
 ·exact h
 ·cases h
theorem Xo:∀(zs:List ZK) (vs:List Value),Yf zs vs=true→zs.length=vs.length∧∀j,j<zs.length→FB (zs.getD j .other) (vs.getD j Go.undef):=by
 intro zs;induction zs with
 | nil=>intro vs h; cases vs with
  | nil=>exact ⟨rfl,fun j hj=>by cases hj⟩
  | cons=>cases h
 | cons z zs ih=>intro vs h; cases vs with
  | nil=>cases h
  | cons v vs=>
   simp only [Yf,Bool.and_eq_true] at h
   obtain ⟨h1,h2⟩:=ih vs h.2
   refine ⟨by simp [h1],fun j hj=>?_⟩
   cases j with
   | zero=>exact Y5 h.1
   | succ j=>simpa using h2 j (by simpa using hj)
theorem Y6 {t:TD} {d:TypeDesc} (h:adW t d=true):aam t d:=by
 unfold adW at h;split at h
 ·rfl
 ·have:=of_decide_eq_true h; subst this; rfl
 ·rfl
 ·have:=Nat.eq_of_beq_eq_true h; subst this; rfl
 ·have:=Nat.eq_of_beq_eq_true h; subst this; rfl
 ·simp only [Bool.and_eq_true] at h; have h1:=Nat.eq_of_beq_eq_true h.1; have h2:=Nat.eq_of_beq_eq_true h.2; subst h1; subst h2; rfl
 ·simp only [Bool.and_eq_true] at h; have h1:=Nat.eq_of_beq_eq_true h.1; have h2:=Nat.eq_of_beq_eq_true h.2; subst h1; subst h2; rfl
 ·exact ⟨_,rfl,of_decide_eq_true h⟩
 ·trivial
 ·cases h
theorem Y7 {z:Value} (h:z.oneCell'=true):z.cells=#[z]:=by cases z<;>first | rfl | cases h
theorem Qg {t:TypeId} {ti:Jf} (h:Yg P t ti=true):aeF P t ti∧∀d,P.underlying t=some d→ND P d:=by
 unfold Yg at h;split at h
 ·rename_i i d hi hd;split at h
  ·rename_i z hz;simp only [Bool.and_eq_true,decide_eq_true_eq] at h;obtain ⟨⟨⟨⟨⟨⟨⟨h1,h2⟩,h3⟩,h4⟩,h5⟩,h6⟩,h7⟩,h10⟩:=h;have e1:=Nat.eq_of_beq_eq_true h1;have e2:=Nat.eq_of_beq_eq_true h2;have e4:=Nat.eq_of_beq_eq_true h4;obtain ⟨h8,h9⟩:=Xo _ _ h5;have hlen:ti.zero.length=ti.size:=by rw [h8,← e4]; simp
   refine ⟨⟨⟨i,d,z,hi,hd,hz,e1,e2,h3,e4,hlen,fun j hj=>?_,Y6 h6⟩,fun ha i' z' hi' hz'=>?_⟩,fun d' hd'=>?_⟩
   ·have:=h9 j om;simpa using this
   ·rw [hi] at hi';cases hi';rw [hz] at hz';cases hz';rw [ha] at h10;exact Y7 h10
   ·rw [hd] at hd';cases hd';cases d with
    | struct fields=>
     simp only [fieldsB,List.all_eq_true] at h7;exact h7
    | _=>trivial
  ·cases h
 ·cases h
theorem NT:∀(l:List (Nat×Jf)),TU P l=true→∀t ti,look l t=some ti→Yg P t ti=true:=by
 intro l;induction l with
 | nil=>intro _ t ti h; cases h
 | cons q l ih=>
  intro h t ti hl;obtain ⟨k,tk⟩:=q;simp only [TU,Bool.and_eq_true] at h;simp only [look] at hl;cases hb:Nat.beq k t with
  | true=>
   simp only [hb] at hl;cases hl;rw [← Nat.eq_of_beq_eq_true hb];exact h.1
  | false=>simp only [hb] at hl; exact ih h.2 t ti hl
def aaY (P:Program) (t:TypeId):Option ZK:=match P.underlying t with
 | some .bool=>some .bool
 | some (.int k)=>some (.int k)
 | some .string=>some .str
 | _=>none
def Qh (P:Program) (fl:TypeId→Option (List ZK)):List Field→Nat→Option (List ZK)
 | [],_=>some []
 | f::fs,k=>match decide (f.name ≠ "_")&&Nat.beq f.offset k with
  | true=>match aaY P f.type with
   | some z=>match Qh P fl fs (k+1) with
    | some l=>some (z::l)
    | none=>none
   | none=>match fl f.type with
    | some z1=>match Nat.beq (P.cellsOf f.type) z1.length,Qh P fl fs (k+z1.length) with
     | true,some l=>some (z1++l)
     | _,_=>none
    | none=>none
  | false=>none
def Yh (P:Program):Nat→TypeId→Option (List ZK)
 | 0,_=>none
 | n+1,t=>match P.underlying t,P.stoodInHeld t with
  | some (.struct fields),false=>Qh P (Yh P n) fields.toList 0
  | _,_=>none
def Yi (P:Program) (t:TypeId) (zs:List ZK):Bool:=decide (Yh P 4 t=some zs)&&!P.eqGuardType P.depth t
def TV (P:Program):List (Nat×List ZK)→Bool
 | []=>true
 | (t,zs)::l=>Yi P t zs&&TV P l
theorem Xp {t:TypeId} {z:ZK} (h:aaY P t=some z):∃d,P.underlying t=some d∧TF z d:=by
 unfold aaY at h;split at h
 ·rename_i e; cases h; exact ⟨_,e,rfl⟩
 ·rename_i e; cases h; exact ⟨_,e,rfl⟩
 ·rename_i e; cases h; exact ⟨_,e,rfl⟩
 ·cases h
theorem Vv {fl:TypeId→Option (List ZK)} {ok:TypeId→List ZK→Prop} (hfl:∀t zs,fl t=some zs→ok t zs):∀(fs:List Field) (zs:List ZK) (k:Nat),Qh P fl fs k=some zs→ab8 P ok fs zs k:=by
 intro fs;induction fs with
 | nil=>intro zs k h; cases h; trivial
 | cons f fs ih=>
  intro zs k h;unfold Qh at h;split at h
  ·rename_i hb;simp only [Bool.and_eq_true,decide_eq_true_eq] at hb;refine ⟨hb.1,Nat.eq_of_beq_eq_true hb.2,?_⟩;split at h
   ·rename_i z hz;split at h
    ·rename_i l hl;cases h;obtain ⟨d,h1,h2⟩:=Xp hz;exact ⟨[z],l,rfl,.inl ⟨z,d,rfl,h1,h2⟩,ih _ _ hl⟩
    ·cases h
   ·split at h
    ·rename_i z1 hz1;split at h
     ·rename_i l hs hl;cases h;exact ⟨z1,l,rfl,.inr ⟨hfl _ _ hz1,Nat.eq_of_beq_eq_true hs⟩,ih _ _ hl⟩
     ·cases h
    ·cases h
  ·cases h
theorem Xq:∀(n:Nat) (t:TypeId) (zs:List ZK),Yh P n t=some zs→EqT P n t zs:=by
 intro n;induction n with
 | zero=>intro t zs h; cases h
 | succ n ih=>
  intro t zs h;unfold Yh at h;split at h
  ·rename_i fields hu hh;exact ⟨fields,hu,hh,Vv ih _ _ _ h⟩
  ·cases h
theorem Xr {t:TypeId} {zs:List ZK} (h:Yi P t zs=true):aeG P t zs:=by
 unfold Yi at h;simp only [Bool.and_eq_true,Bool.not_eq_true',decide_eq_true_eq] at h;exact ⟨Xq _ _ _ h.1,h.2⟩
theorem Vw:∀(l:List (Nat×List ZK)),TV P l=true→∀t zs,look l t=some zs→Yi P t zs=true:=by
 intro l;induction l with
 | nil=>intro _ t ti h; cases h
 | cons q l ih=>
  intro h t ti hl;obtain ⟨k,tk⟩:=q;simp only [TV,Bool.and_eq_true] at h;simp only [look] at hl;cases hb:Nat.beq k t with
  | true=>
   simp only [hb] at hl;cases hl;rw [← Nat.eq_of_beq_eq_true hb];exact h.1
  | false=>simp only [hb] at hl; exact ih h.2 t ti hl
theorem aaZ (h:TU P cfg.ty=true) (hm:P.follows .mixedOrders=true) (he:TV P cfg.eqs=true):fq P cfg where
 ty:=fun t ti hl=>(Qg (NT _ h t ti hl)).1
 fields:=fun t ti d hl=>(Qg (NT _ h t ti hl)).2 d
 mixed:=hm
 eqs:=fun t zs hl=>Xr (Vw _ he t zs hl)
end
end Go.Ab

namespace Go.Ab
theorem Mh.Yj {l m:List AV} (h1:l.length=m.length) (h2:∀j,j<l.length→Le (nth l j) (nth m j)):Mh l m:=by
 induction l generalizing m with
 | nil=>cases m with
  | nil=>trivial
  | cons=>simp at h1
 | cons u l ih=>cases m with
  | nil=>simp at h1
  | cons v m=>exact ⟨h2 0 (by simp),ih (by simpa using h1) fun j hj=>h2 (j+1) (by simpa using hj)⟩
theorem Yk {ρ:List (Nat×Option Nat)} {H':jh} {f:Nat} {u v:AV} (h:Le u v) (hp:lY v=true):jY ρ H' (f+1) u v:=by
 cases h with
 | refl=>
  cases u<;>simp only [lY] at hp<;>first
   | (cases hp; done)
   | (unfold jY; exact trivial)
   | (unfold jY; exact rfl)
   | (unfold jY; exact ⟨rfl,rfl⟩)
   | (unfold jY; exact ⟨rfl,fun _=>rfl,fun h=>h,fun i _=>.refl _⟩)
   | (unfold jY; exact Mh.refl _)
 | sl hn he hf h=>unfold jY; exact ⟨hn,he,hf,h⟩
 | ro hl h=>unfold jY; exact Mh.Yj hl h
 | agg=>cases hp
 | jX=>cases hp
 | fn=>cases hp
theorem acG {ρ:List (Nat×Option Nat)} {H':jh}:∀(l m:List AV) (f:Nat),l.length+1<f→Mh l m→sM m=true→jY.embL ρ H' f l m:=by
 intro l;induction l with
 | nil=>
  intro m f hf h _;cases m with
  | nil=>cases f with
   | zero=>omega
   | succ f=>unfold jY.embL; trivial
  | cons=>exact h.elim
 | cons u l ih=>
  intro m f hf h hp;cases m with
  | nil=>exact h.elim
  | cons v m=>
   cases f with
   | zero=>omega
   | succ f=>
    cases f with
    | zero=>simp at hf
    | succ f=>
     unfold sM at hp;split at hp
     ·rename_i hv;unfold jY.embL;exact ⟨Yk h.1 hv,ih m (f+1) (by simp at hf; omega) h.2 hp⟩
     ·cases hp
abbrev iV (n:Int):AV:=.int .i64 n
def bE {α:Type} (f:α→AV) (d:α) (l:List α):Nat→AV:=fun i=>f (l.getD i d)
def adw (l:List Int):AV:=.sl 1 l.length false (bE iV 0 l)
def I64 (l:List Int):Prop:=∀x∈l,InI64 x
structure Tp where
 l:List Int
 pos:Nat
def Tp.ok (t:Tp):Prop:=I64 t.l∧t.l.length≤500∧t.pos≤t.l.length
def Tp.raw (t:Tp):Int×Tp:=if t.l.length≤t.pos then (0,t) else (t.l.getD t.pos 0,⟨t.l,t.pos+1⟩)
def afm (x n:Int):Int:=if n<1 then 0 else x % n
def Tp.n (t:Tp) (n:Int):Int×Tp:=(afm t.raw.1 n,t.raw.2)
def Tp.range (t:Tp) (lo hi:Int):Int×Tp:=(lo+(t.n (hi - lo+1)).1,(t.n (hi - lo+1)).2)
def Tp.pick (t:Tp) (l:List Int):Int×Tp:=(l.getD (t.n l.length).1.toNat 0,(t.n l.length).2)
theorem drop_cons {α:Type} {l:List α} {i:Nat} (d:α) (h:i<l.length):l.drop i=l.getD i d::l.drop (i+1):=by
 rw [List.getD_eq_getElem?_getD,List.getElem?_eq_getElem h];exact List.drop_eq_getElem_cons h
theorem getD_take {α:Type} (l:List α) (d:α) {i k:Nat} (h:i<k):(l.take k).getD i d=l.getD i d:=by
 rw [List.getD_eq_getElem?_getD,List.getD_eq_getElem?_getD,List.getElem?_take_of_lt h]
theorem getD_drop {α:Type} (l:List α) (d:α) (k i:Nat):(l.drop k).getD i d=l.getD (k+i) d:=by
 rw [List.getD_eq_getElem?_getD,List.getD_eq_getElem?_getD,List.getElem?_drop]
theorem fH {α:Type} {l:List α} {i:Nat} (d:α) (h:i<l.length):l.take (i+1)=l.take i++[l.getD i d]:=by
 rw [List.getD_eq_getElem?_getD,List.getElem?_eq_getElem h];exact List.take_succ_eq_append_getElem h
theorem pR {α β:Type} (f:β→α→β) (a:β) {l:List α} {i:Nat} (d:α) (h:i<l.length):(l.take (i+1)).foldl f a=f ((l.take i).foldl f a) (l.getD i d):=by
 rw [fH d h,List.foldl_append];rfl
theorem gF {α:Type} {l:List α} {i:Nat} (d:α) (h:i<l.length):l.getD i d∈l:=by
 rw [List.getD_eq_getElem?_getD,List.getElem?_eq_getElem h];exact List.getElem_mem _
theorem take_len {α:Type} {l:List α} {i:Nat} (h:i≤l.length):(l.take i).length=i:=by
 rw [List.length_take,Nat.min_eq_left h]
theorem mV {α:Type} {l m:List α} {i:Nat} (d:α) (h:i<l.length):(l++m).getD i d=l.getD i d:=by
 rw [List.getD_eq_getElem?_getD,List.getD_eq_getElem?_getD,List.getElem?_append_left h]
theorem jG {α:Type} {l:List α} {x:α} {m:List α} {i:Nat} (d:α) (h:i=l.length):(l++x::m).getD i d=x:=by
 rw [List.getD_eq_getElem?_getD,List.getElem?_append_right om,h];simp
theorem Qi {α:Type} {l:List α} {i:Nat} (d:α) (h:l.length≤i):l.getD i d=d:=by
 rw [List.getD_eq_getElem?_getD,List.getElem?_eq_none h];rfl
end Go.Ab


namespace Go.Ab
section
variable {P:Program} {cfg:rU} {N:Nat} {cx:Ctx}
theorem Vx {r:Option Nat} {n n':Nat} {c:Code} {Q:Exit→Act→World→Prop} {a:Act} {w:World} (h:c.wpIn (FW r) n P Q a w):c.wpIn (FW r) n' P Q a w:=
 fun b k cs hro hb _=>h b k cs hro hb (fun _ hd=>by cases hd)
def Ij (W:World) (I:Nat→Prop) (O:OM) (m:Nat):Ctx:=⟨W,fun b=>∃o p bo sz,O o=some p∧p.pl=some (b,bo,sz),I,O,m,fun k o=>W.heap[k]? = some o∧Ib o=true,true⟩
theorem Rel.enter {H:Nat→Option cB} {D:Nat→Prop} {W:World} {I:Nat→Prop} {O:OM} (hR:Rel cfg cx H D W I O) (hno:∀o kd z f,H o≠some (.map kd z f)) {m:Nat} (hm:∀o,o<m→D o):Rel cfg (Ij W I O m) H D W I O where
 maps:=fun o kd z f _ _ _ _ h _ _=>absurd h (hno o kd z f)
 dom:=hR.dom
 used:=hR.used
 objs:=hR.objs
 inj:=hR.inj
 lZ:=hR.lZ
 lt:=hR.lt
 vF:=hR.vF
 size:=Nat.le_refl _
 frame:=fun _ _ _=>rfl
 new:=fun o p _ bo sz h1 h2=>.inr ⟨o,p,bo,sz,h1,h2⟩
 glob:=hR.glob
 KE:=fun _ h=>h
 NC:=fun _ h=>.inl h
 PN:=fun _ _=>.inl rfl
 Dm:=hm
 env:=⟨eZ.refl _,fun _ _ h=>h⟩
theorem Rel.back {H H':Nat→Option cB} {D D':Nat→Prop} {W W':World} {I I':Nat→Prop} {O O':OM} {m:Nat} (h0:Rel cfg cx H D W I O) (h1:Rel cfg (Ij W I O m) H' D' W' I' O') (hm:∀o,o<cx.m→o<m):Rel cfg cx H' D' W' I' O' where
 dom:=h1.dom
 maps:=fun o kd z f p b bo sz q1 q2 q3=>by
  have h2:=(h1.maps o kd z f p b bo sz q1 q2 q3).1;refine ⟨Nat.le_trans h0.size h2,fun ob hk=>?_⟩;have h3:=(h0.env.kept b ob hk).1;have h2:W.heap.size≤b:=h2;rw [Array.getElem?_eq_none h2] at h3;cases h3
 used:=h1.used
 objs:=h1.objs
 inj:=h1.inj
 lZ:=h1.lZ
 lt:=h1.lt
 vF:=h1.vF
 size:=Nat.le_trans h0.size h1.size
 frame:=fun b hb hM=>by
  rw [h1.frame b (Nat.lt_of_lt_of_le hb h0.size) (fun ⟨o,p,bo,sz,q1,q2⟩=>by
   rcases h0.new o p b bo sz q1 q2 with h | h
   ·omega
   ·exact hM h)]
  exact h0.frame b hb hM
 new:=fun o p b bo sz q1 q2=>by
  rcases h1.new o p b bo sz q1 q2 with h | ⟨o',p',bo',sz',q3,q4⟩
  ·exact .inl (Nat.le_trans h0.size h)
  ·exact h0.new o' p' b bo' sz' q3 q4
 glob:=h1.glob
 KE:=fun b h=>h1.KE b (h0.KE b h)
 NC:=fun b h=>by
  rcases h1.NC b h with h | h | ⟨o',p',bo',sz',q3,q4⟩
  ·exact h0.NC b h
  ·exact .inr (.inl (Nat.le_trans h0.size h))
  ·exact .inr (h0.new o' p' b bo' sz' q3 q4)
 PN:=fun o ho=>by
  rcases h1.PN o (hm o ho) with h | h
  ·rw [h]; exact h0.PN o ho
  ·exact .inr h
 Dm:=fun o ho=>h1.Dm o (hm o ho)
 env:=h0.env.step h1.env.same
theorem Rel.Xt {H H':Nat→Option cB} {D D':Nat→Prop} {W W':World} {I I':Nat→Prop} {O O':OM} {m:Nat} (h0:Rel cfg cx H D W I O) (h1:Rel cfg (Ij W I O m) H' D' W' I' O') (b:Nat) (hb:I b):W'.heap[b]? = W.heap[b]? :=
 h1.frame b (h0.vF b hb) (fun ⟨o,p,bo,sz,q1,q2⟩=>h0.lZ o p b bo sz q1 q2 hb)
theorem Rep.behind {H H':Nat→Option cB} {D':Nat→Prop} {W W':World} {I I':Nat→Prop} {O O':OM} {m:Nat} (h0:Rel cfg cx H (fun o=>o<m) W I O) (h1:Rel cfg (Ij W I O m) H' D' W' I' O') {v:AV} {x:Value} (h:Rep W I O (fun o=>o<m) v x):Rep W' I' O' D' v x:=
 h.mono h1.KE (h0.Xt h1) h1.PN h1.Dm h0.used
theorem DL (w:World) (o:Obj):nM (w.alloc o) w:=by
 have hlt:∀a:Addr,(w.cell? a).isSome=true→a.block<w.heap.size:=fun a h=>by
  obtain ⟨v,hv⟩:=Option.isSome_iff_exists.1 h;exact World.block_lt_of_cell? _ _ hv
 have hb:∀a:Addr,a.block<w.heap.size→(w.alloc o).heap[a.block]? = w.heap[a.block]? := fun a h=>by
  show (w.heap.push o)[a.block]? = _;rw [Array.getElem?_push_lt h,Array.getElem?_eq_getElem h]
 refine ⟨fun a v hv=>?_,fun a hv=>?_,by simp,fun b es c hbb=>by
  have hlt2:b<w.heap.size:=by
   rcases Nat.lt_or_ge b w.heap.size with h1 | h1
   ·exact h1
   ·rw [Array.getElem?_eq_none h1] at hbb; cases hbb
  show (w.heap.push o)[b]? = _;rw [Array.getElem?_push_lt hlt2,← hbb,Array.getElem?_eq_getElem hlt2]⟩
 ·rw [← hv,World.cell?_of_block (hb a (hlt a (by rw [hv]; rfl)))]
 ·exact World.frozen?_of_block (hb a (hlt a hv))
def J4:jh→Bool
 | []=>true
 | (_,x)::l=>match x with
  | some (.map ..)=>false
  | _=>J4 l
theorem NU:∀ {H:jh},J4 H=true→∀o kd z f,hget H o≠some (.map kd z f):=by
 intro H;induction H with
 | nil=>intro _ o kd z f h; cases h
 | cons u l ih=>
  intro h o kd z f;obtain ⟨q,x⟩:=u;unfold J4 at h;unfold hget look;split at h
  ·cases h
  ·rename_i hx;cases hb:Nat.beq q o with
   | true=>
    simp only;cases x with
    | none=>intro h; cases h
    | some x=>
     intro h;cases h;exact hx kd z f rfl
   | false=>simp only; exact ih h o kd z f
def Qj (P:Program) (gf:FuncId) (caps:List AV) (len:Nat) (e0 e1:Nat→AV):Prop:=
 (∀args w,(callFunc gf args).run P w=.ok (.enter gf args) w)∧
 ∀(w:World) (I:Nat→Prop) (lb:Array Value),(∀b,I b→b<w.heap.size)→lb.size=caps.length→(∀j,j<caps.length→PRep w I (nth caps j) (lb.getD j Go.undef))→
  ∃v0 v1:Nat→Value,(∀k,k<len→PRep w I (e0 k) (v0 k)∧PRep w I (e1 k) (v1 k))∧
   ∀(l n:Nat) (J:Nat→World→Prop) (Jx:World→Prop) (W:World),(∀b,I b→W.heap[b]? = w.heap[b]?)→
    (∀k W1,k<len→J k W1→YieldAt (FW none) n P l #[v0 k,v1 k] W1 fun e W'=>(e=.returned (.bool true)∧J (k+1) W'∧∀b,I b→W'.heap[b]? = W1.heap[b]?)∨(e=.returned (.bool false)∧Jx W'))→
    J 0 W→CallsIn (FW none) n P gf (#[.func (.yield l) #[] #[]]++lb) W fun e W'=>(∃v,e=.returned v)∧(J len W'∨Jx W')
theorem afn {α β:Type} (p0 p1:α) (v0 v1:β):(#[p0,p1]:Array α).zip #[v0,v1]=#[(p0,v0),(p1,v1)]:=by
 apply Array.toList_inj.1;simp
theorem Ik (t:Nat):jE (fun _=>true) (some t) true=fun _=>true:=by
 funext k;unfold jE;simp
theorem Y8 (hc:fq P cfg) {m:Nat} {ct ct':List Nat} {g:Operand} {p0 p1:Nat} {assign body:Code} {s:St} {K:Exit→St→Prop} (hoka:fZ N assign=true) (hokb:fZ N body=true) (hp0:p0<N) (hp1:p1<N)
  {gf:FuncId} {caps:List AV} {len:Nat} {e0 e1:Nat→AV} (hit:Qj P gf caps len e0 e1) (hg:Pz cfg (tget s.tmps) g=.fn gf caps) (hcaps:∀v∈caps,∃cs,v=.ro cs)
  {α:Type} (st:α→St) (st1:Nat→α→St) (hnm:∀k gx,J4 (st gx).heap=true∧J4 (st1 k gx).heap=true) (x0:α) (ρ0:List (Nat×Option Nat)) (h0:Emb m ρ0 s (st x0)) (inv:Nat→α→Prop) (hi0:inv 0 x0)
  (ha:∀k l gx,k<len→inv k gx→m≤(st gx).nx∧jD cfg (Spec P cfg) ct (Loops P cfg N (some l) (st gx).nx) assign ⟨(p1,e1 k)::(p0,e0 k)::(st gx).tmps,(st gx).heap,(st gx).nx⟩ (fun e s'=>match e with | .normal=>∃ρ,Emb (st gx).nx ρ s' (st1 k gx) | _=>False))
  (hb:∀k l gx,k<len→inv k gx→jD cfg (Spec P cfg) ct' (Loops P cfg N (some l) (st1 k gx).nx) body (st1 k gx) (fun e s'=>match e with | .normal=>∃x' ρ,inv (k+1) x'∧Emb m ρ ⟨(st gx).tmps,s'.heap,s'.nx⟩ (st x') | .ret=>K .ret ⟨(st gx).tmps,s'.heap,s'.nx⟩ | _=>False))
  (hK:∀gx,inv len gx→K .normal (st gx)):Loops P cfg N none m (.rangeFunc g #[p0,p1] assign body) s K:=by
 refine ⟨fun n cx0 a w I O hS0 hrd=>Vx (n:=3) ?_⟩;obtain ⟨ms,hnd,_,hds,hms⟩:=hS0.marks;obtain ⟨cx,hcx⟩:∃cx,cx=cx0.also ms:=⟨_,rfl⟩;have hcw:cx.w0=cx0.w0:=by rw [hcx]; rfl
 have hcm:cx.m=cx0.m:=by rw [hcx]; rfl
 have hR0:Rel cfg cx (hget s.heap) (fun o=>o<s.nx) w I O:=by rw [hcx]; exact hS0.rel.also (fun D hD=>(hms D hD).2)
 obtain ⟨lb,hgv,hlb,hlr⟩:=(hg ▸ qc hS0.rel hS0.tmps g (fun _ _=>rfl)).FC;have hcp:∀j,j<caps.length→PRep w I (nth caps j) (lb.getD j Go.undef):=fun j hj=>by
  have hmem:nth caps j∈caps:=by rw [pQ]; rw [List.getD_eq_getElem?_getD,List.getElem?_eq_getElem hj]; exact List.getElem_mem _
  obtain ⟨cs,hcs⟩:=hcaps _ hmem;have:=hlr j hj;rw [hcs] at this ⊢;cases this with
  | pure h=>exact h
 obtain ⟨v0,v1,hel,hrun⟩:=hit.2 w I lb hR0.vF hlb hcp;refine wpIn_rangeFunc ?_;intro fn hfn;obtain ⟨rc,hrc⟩:∃rc:LoopState→Option Code→Loop,rc=fun st pe=>{ state:=st,pending:=pe,fn,tmps:=a.tmps,params:=#[p0,p1],assign,body,defers:=w.heap.size }:=⟨_,rfl⟩;obtain ⟨W1,hW1⟩:∃W1,W1=(w.alloc (.deferred (some []))).alloc (.loop (rc .ready none)):=⟨_,rfl⟩;have hsz1:W1.heap.size=w.heap.size+2:=by rw [hW1]; simp
 have hD1:W1.heap[w.heap.size]? = some (.deferred (some [])):=by
  rw [hW1];show ((w.heap.push _).push _)[w.heap.size]? = _;have hp:(w.heap.push (Obj.deferred (some []))).size=w.heap.size+1:=Array.size_push _;rw [Array.getElem?_push,if_neg om,Array.getElem?_push_size]
 have hL1:W1.heap[w.heap.size+1]? = some (.loop (rc .ready none)):=by
  have:=World.alloc_heap_new (w.alloc (.deferred (some []))) (.loop (rc .ready none));rw [World.size_alloc] at this;rw [hW1];exact this
 have hold1:∀b,b<w.heap.size→W1.heap[b]? = w.heap[b]? := fun b hb=>by
  rw [hW1];show ((w.heap.push _).push _)[b]? = _;rw [Array.getElem?_push_lt (by simp; omega),Array.getElem_push_lt hb,Array.getElem?_eq_getElem hb]
 have hcells1:nM W1 w:=by
  rw [hW1];have q1:=DL w (.deferred (some []));have q2:=DL (w.alloc (.deferred (some []))) (.loop (rc .ready none));exact ⟨fun x v h=>q2.cell x v (q1.cell x v h),fun x h=>by
   rw [q2.frozen x (by obtain ⟨v,hv⟩:=Option.isSome_iff_exists.1 h; rw [q1.cell x v hv]; rfl),q1.frozen x h],Nat.le_trans q1.size q2.size,fun b es c h=>q2.maps b es c (q1.maps b es c h)⟩
 have henv1:A8 cx W1:=by
  rw [hW1];exact (hR0.env.step (eZ.alloc _ _)).step (eZ.alloc _ _)
 have hKlt:∀k o,cx.K k o→k<w.heap.size:=fun k o h=>by
  have:=(hR0.env.kept k o h).1;rcases Nat.lt_or_ge k w.heap.size with h1 | h1
  ·exact h1
  ·rw [Array.getElem?_eq_none h1] at this; cases this
 have hw0:cx.w0.heap.size≤w.heap.size:=hR0.size;have envput:∀(W:World) (k:Nat) (o:Obj),w.heap.size≤k→A8 cx W→A8 cx (W.putObj k o):=fun W k o hk he=>by
  refine ⟨⟨he.same.os,he.same.tape,he.same.output,fun i x hi hx=>?_⟩,fun i x hi=>?_⟩
  ·have hlt:i<cx.w0.heap.size:=by
    rcases Nat.lt_or_ge i cx.w0.heap.size with h1 | h1
    ·exact h1
    ·rw [Array.getElem?_eq_none h1] at hi; cases hi
   rw [World.putObj_heap_other om];exact he.same.keep i x hi hx
  ·rw [World.putObj_heap_other (by have:=hKlt i x hi; omega)];exact he.kept i x hi
 have nomarks:∀(W:World),Marks cx W ([]:List Deferred):=fun W=>⟨[],List.nodup_nil,fun _=>rfl,rfl,fun _ h=>by cases h⟩
 have hS1:gQ cfg N m cx s ⟨a.tmps,[]⟩ w I O:=⟨hcm.trans hS0.m,hR0,⟨rfl,hS0.tmps.size,hS0.tmps.rep,hS0.tmps.gone⟩,nomarks w⟩;have hS2:=Bh hS1 h0;have turnput:∀ {s':St} {W:World} {I':Nat→Prop} {O':OM} {o:Obj} (o':Obj),W.heap[w.heap.size+1]? = some o→Ib o=true∧(∀es c,o≠.map es c)→gQ cfg N m cx s' ⟨a.tmps,[]⟩ W I' O'→gQ cfg N m cx s' ⟨a.tmps,[]⟩ (W.putObj (w.heap.size+1) o') I' O':=fun o' ho hn hS=>
  hS.turn (Al ho hn.1 hn.2) (fun b hb=>World.putObj_heap_other om) (envput _ _ _ om hS.rel.env) rfl (nomarks _)
 refine ⟨w.heap.size+1,[markOf w.heap.size],W1,{ target:=.fn (.func gf) lb,args:=#[.func (.yield (w.heap.size+1)) #[] #[]] },W1,gf,#[.func (.yield (w.heap.size+1)) #[] #[]]++lb,W1,?_,?_,fun _ _=>trivial,?_,(fun h=>by cases h),?_⟩
 ·rw [hW1,hrc]; exact run_enterLoop_outer _ _ _ _ _
 ·simp only [resolve,hgv];simp [go_sem]
 ·simp [invoke,go_sem,hit.1]
 refine (hrun (w.heap.size+1) (3 - 1)
  (fun k W=>∃gx,inv k gx∧∃I1 O1,gQ cfg N m cx (st gx) ⟨a.tmps,[]⟩ W I1 O1∧(∀b,I b→I1 b)∧(∀b,I b→W.heap[b]? = w.heap[b]?)∧W.heap[w.heap.size+1]? = some (.loop (rc .ready none))∧W.heap[w.heap.size]? = some (.deferred (some [])))
  (fun W=>∃s' I1 O1,K .ret s'∧gQ cfg N m cx s' ⟨a.tmps,[]⟩ W I1 O1∧W.heap[w.heap.size+1]? = some (.loop (rc .done (some .ret)))∧W.heap[w.heap.size]? = some (.deferred (some [])))
  W1 (fun b hb=>hold1 b (hR0.vF b hb)) ?_ ?_).mono ?_
 ·rintro k W hk ⟨gx,hiv,I1,O1,hS,hII,hkeep,hl,hD⟩;have hlW:w.heap.size+1<W.heap.size:=(Array.getElem?_eq_some_iff.1 hl).1;have hy:=run_yield (P:=P) (args:=#[v0 k,v1 k]) hl (by rw [hrc]; rfl);rw [hrc] at hy;refine ⟨fn,_,assign,body,hy,roundIn_of_wpIn hfn ?_⟩;clear hy;obtain ⟨hnx,hxa⟩:=ha k (w.heap.size+1) gx hk hiv;have hmx:∀o,o<cx.m→o<(st gx).nx:=fun o ho=>Nat.lt_of_lt_of_le (by rw [hS.m] at ho; exact ho) hnx;have hRr:=hS.rel.enter (NU (hnm k gx).1) (m:=(st gx).nx) (fun _ h=>h);have hwI:∀b,I b→W.heap[b]? = w.heap[b]? := hkeep;obtain ⟨he0,he1⟩:=hel k hk;have hpe:∀ {v:AV} {x:Value},PRep w I v x→Rep W I1 O1 (fun o=>o<(st gx).nx) v x:=fun h=>.pure (h.mono hII hwI);have hT1:=uH.put hS.tmps (fun _ _ h=>h) (some p0) (fun _ h=>by cases h; exact hp0) (e0 k) (v0 k) true (fun _=>hpe he0) (fun h=>by cases h);have hT2:=uH.put hT1 (fun _ _ h=>h) (some p1) (fun _ h=>by cases h; exact hp1) (e1 k) (v1 k) true (fun _=>hpe he1) (fun h=>by cases h);rw [Ik,Ik,← sP,← sP] at hT2;have hSa:gQ cfg N (st gx).nx (Ij W I1 O1 (st gx).nx) ⟨(p1,e1 k)::(p0,e0 k)::(st gx).tmps,(st gx).heap,(st gx).nx⟩ { tmps:=(a.tmps.setIfInBounds p0 (v0 k)).setIfInBounds p1 (v1 k),defers:=[] } W I1 O1:=
   ⟨rfl,hRr,hT2,⟨[],List.nodup_nil,fun _=>rfl,rfl,fun _ h=>by cases h⟩⟩
  have hga:=jU hc assign _ _ hoka hxa (3 - 1) _ _ W I1 O1 hSa rfl;have htm:((#[p0,p1]:Array Tmp).zip #[v0 k,v1 k]).foldl (fun tmps (t,a)=>tmps.setIfInBounds t a) a.tmps=(a.tmps.setIfInBounds p0 (v0 k)).setIfInBounds p1 (v1 k):=by rw [afn]; rfl
  refine wpIn_mono (htm ▸ hga) ?_;rintro e a2 W2 ⟨s2,I2,O2,hk2,hSb⟩;cases e with
  | normal=>
   obtain ⟨ρ,hE⟩:=hk2;have hSc:=Bh hSb hE;have hRc:=hS.rel.back hSc.rel hmx;have hl2:=(hSc.rel.env.kept _ _ ⟨hl,rfl⟩).1;have hD2:=(hSc.rel.env.kept _ _ ⟨hD,rfl⟩).1;have hkI2:=fun b hb=>hS.rel.Xt hSc.rel b (hII b hb);refine ⟨_,run_beginRound hl2 (by rw [hrc]),?_⟩;have hlW2:w.heap.size+1<W2.heap.size:=(Array.getElem?_eq_some_iff.1 hl2).1;obtain ⟨W3,hW3⟩:∃W3,W3=W2.putObj (w.heap.size+1) (.loop { rc .ready none with state:=.busy }):=⟨_,rfl⟩;rw [← hW3];have hl3:W3.heap[w.heap.size+1]? = some (.loop { rc .ready none with state:=.busy }):=by rw [hW3]; exact World.putObj_heap_same hlW2
   have hD3:W3.heap[w.heap.size]? = some (.deferred (some [])):=by rw [hW3]; exact (World.putObj_heap_other om).trans hD2
   have hsc3:nM W3 W2:=by rw [hW3]; exact Al hl2 rfl
   have hR3:Rel cfg cx (hget (st1 k gx).heap) (fun o=>o<(st1 k gx).nx) W3 I2 (kN ρ (st1 k gx).heap O2):=hRc.turn hsc3 (fun b hb=>by rw [hW3]; exact World.putObj_heap_other om) (by rw [hW3]; exact envput _ _ _ om hRc.env);have hnx1:(st gx).nx≤(st1 k gx).nx:=by
    have:=hE.Cv;unfold WB at this;split at this
    ·exact Nat.le_of_ble_eq_true this
    ·cases this
   have hT0:∀t,Rep W3 I2 (kN ρ (st1 k gx).heap O2) (fun o=>o<(st1 k gx).nx) (tget (st gx).tmps t) (a.tmps.getD t Go.undef):=fun t=>(Rep.behind hS.rel hSc.rel (hS.tmps.rep t rfl)).turn hsc3;have hRd:=hR3.enter (NU (hnm k gx).2) (m:=(st1 k gx).nx) (fun _ ho=>ho);have hSd:gQ cfg N (st1 k gx).nx (Ij W3 I2 (kN ρ (st1 k gx).heap O2) (st1 k gx).nx) (st1 k gx) a2 W3 I2 (kN ρ (st1 k gx).heap O2):=by
    refine ⟨rfl,hRd,⟨rfl,hSc.tmps.size,fun t ht=>(hSc.tmps.rep t ht).turn hsc3,fun t ht=>by cases ht⟩,?_⟩;have:a2.defers=[]:=by
     obtain ⟨ms2,_,h1,h2,_⟩:=hSc.marks;rw [h1 rfl] at h2;exact h2
    rw [this];exact ⟨[],List.nodup_nil,fun _=>rfl,rfl,fun _ h=>by cases h⟩
   have hgb:=jU hc body _ _ hokb (hb k (w.heap.size+1) gx hk hiv) (3 - 1) _ _ W3 I2 _ hSd rfl;refine wpIn_mono hgb ?_;rintro e a4 W4 ⟨s4,I4,O4,hk4,hSe⟩;have hRe:=hR3.back hSe.rel (fun o ho=>Nat.lt_of_lt_of_le (hmx o ho) hnx1);have hl4:=(hSe.rel.env.kept _ _ ⟨hl3,rfl⟩).1;have hD4:=(hSe.rel.env.kept _ _ ⟨hD3,rfl⟩).1;have hlW4:w.heap.size+1<W4.heap.size:=(Array.getElem?_eq_some_iff.1 hl4).1;have hI34:∀b,I b→I2 b:=fun b hb=>hSc.rel.KE b (hII b hb);have hkI4:∀b,I b→W4.heap[b]? = W.heap[b]? := fun b hb=>by
    have hbl:=hR0.vF b hb;rw [hR3.Xt hSe.rel b (hI34 b hb),hW3,World.putObj_heap_other om];exact hkI2 b hb
   have hT4:gQ cfg N m cx ⟨(st gx).tmps,s4.heap,s4.nx⟩ ⟨a.tmps,[]⟩ W4 I4 O4:=
    ⟨hS.m,hRe,⟨rfl,hS.tmps.size,fun t _=>Rep.behind hR3 hSe.rel (hT0 t),fun t ht=>by cases ht⟩,nomarks _⟩
   cases e with
   | normal=>
    obtain ⟨x4,ρ4,hiv4,hE4⟩:=hk4;have hSf:=Bh hT4 hE4;refine ⟨_,_,run_endRound none hl4,.inl ⟨rfl,⟨x4,hiv4,I4,_,turnput _ hl4 ⟨rfl,nofun⟩ hSf,fun b hb=>hSe.rel.KE b (hI34 b hb),fun b hb=>?_,?_,?_⟩,fun b hb=>?_⟩⟩
    ·have hbl:=hR0.vF b hb;rw [World.putObj_heap_other om,hkI4 b hb];exact hkeep b hb
    ·rw [World.putObj_heap_same hlW4,hrc]; rfl
    ·rw [World.putObj_heap_other om]; exact hD4
    ·have hbl:=hR0.vF b hb;rw [World.putObj_heap_other om];exact hkI4 b hb
   | ret=>
    refine ⟨_,_,run_endRound (some .ret) hl4,.inr ⟨rfl,_,I4,O4,hk4,turnput _ hl4 ⟨rfl,nofun⟩ hT4,?_,?_⟩⟩
    ·rw [World.putObj_heap_same hlW4,hrc]; rfl
    ·rw [World.putObj_heap_other om]; exact hD4
   | exit id=>exact hk4.elim
   | goto t=>exact hk4.elim
   | panic ch=>exact hk4.elim
   | outgrown=>exact hk4.elim
  | ret=>exact hk2.elim
  | exit id=>exact hk2.elim
  | goto t=>exact hk2.elim
  | panic ch=>exact hk2.elim
  | outgrown=>exact hk2.elim
 ·exact ⟨x0,hi0,I,_,hS2.turn hcells1 (fun b hb=>hold1 b om) henv1 rfl (nomarks _),fun _ h=>h,fun b hb=>hold1 b (hR0.vF b hb),hL1,hD1⟩
 ·have fin:∀ {s':St} {W:World} {I':Nat→Prop} {O':OM} {o:Obj} (o':Obj),W.heap[w.heap.size+1]? = some o→Ib o=true∧(∀es c,o≠.map es c)→W.heap[w.heap.size]? = some (.deferred (some []))→gQ cfg N m cx s' ⟨a.tmps,[]⟩ W I' O'→
    gQ cfg N m cx0 s' { a with defers:=markOf w.heap.size::a.defers } (W.putObj (w.heap.size+1) o') I' O':=by
   intro s' W I' O' o o' ho hn hD hS
   have hS':=turnput o' ho hn hS
   have hRx:=hS'.rel
   rw [hcx] at hRx
   obtain ⟨hRy,hmy⟩:=hRx.aaO
   refine ⟨hS0.m,hRy,⟨rfl,hS'.tmps.size,hS'.tmps.rep,hS'.tmps.gone⟩,⟨w.heap.size::ms,?_,(fun h=>by rw [hrd] at h; cases h),?_,fun D hDm=>?_⟩⟩
   ·refine List.nodup_cons.2 ⟨fun hin=>?_,hnd⟩
    have:=(hms _ hin).2
    rw [Array.getElem?_eq_none (Nat.le_refl _)] at this
    cases this
   ·show markOf w.heap.size::a.defers=_
    rw [hds]
    rfl
   ·rcases List.mem_cons.1 hDm with rfl | hDm
    ·exact ⟨by rw [← hcw]; exact hw0,(World.putObj_heap_other om).trans hD⟩
    ·exact ⟨(hms D hDm).1,hmy D hDm⟩
  rintro e W2 ⟨⟨v,rfl⟩,⟨gx,hiv,I2,O2,hS2',_,_,hl2,hD2⟩ | ⟨s2,I2,O2,hk2,hS2',hl2,hD2⟩⟩
  ·exact ⟨none,_,by have:=run_endLoop (P:=P) hl2 (by rw [hrc]; simp); rw [hrc] at this; exact this,st gx,I2,O2,hK gx hiv,fin _ hl2 ⟨rfl,nofun⟩ hD2 hS2'⟩
  ·exact ⟨some .ret,_,by have:=run_endLoop (P:=P) hl2 (by rw [hrc]; simp); rw [hrc] at this; exact this,wpIn_ret ⟨s2,I2,O2,hk2,fin _ hl2 ⟨rfl,nofun⟩ hD2 hS2'⟩⟩
end
end Go.Ab



namespace Go.Ab
end Go.Ab


namespace Go.Ab
end Go.Ab



namespace Go.Ab
inductive M:Type→Type 1 where
 | ret {R:Type} (v:R):M R
 | need {R:Type} (p:Prop) (d:Decidable p) (m:M R):M R
 | grd {R:Type} (p:Prop) (d:Decidable p) (m:M R) (z:R):M R
 | bnd {A R:Type} (m:M A) (k:A→M R):M R
 | sup {R:Type} (f:Nat→M R):M R
 | bot {R:Type}:M R
def M.den:{R:Type}→M R→R→Prop
 | _,.ret v,r=>r=v
 | _,.need p _ m,r=>p∧den m r
 | _,.grd p _ m _,r=>p→den m r
 | _,.bnd m k,r=>∃v,den m v∧den (k v) r
 | _,.sup f,r=>∃n,den (f n) r
 | _,.bot,_=>False
instance {R:Type}:CoeFun (M R) fun _=>R→Prop:=⟨M.den⟩
instance {x:Int}:Decidable (InI64 x):=by unfold InI64; infer_instance
def need {R:Type} (p:Prop) [d:Decidable p] (m:M R):M R:=.need p d m
def grd {R:Type} [Inhabited R] (p:Prop) [d:Decidable p] (m:M R):M R:=.grd p d m default
def bnd {A R:Type} (m:M A) (k:A→M R):M R:=.bnd m k
def ret {R:Type} (v:R):M R:=.ret v
def itM {σ R:Type} (F:(σ→M R)→σ→M R):Nat→σ→M R
 | 0=>fun _=>.bot
 | n+1=>F (itM F n)
def bV {σ R:Type} (F:(σ→M R)→σ→M R) (s:σ):M R:=.sup fun n=>itM F n s
noncomputable def M.ex (n:Nat) {R:Type} (m:M R):Option R:=
 @M.rec (fun R _=>Option R) (fun v=>some v) (fun _ d _ ih=>match d with | .isTrue _=>ih | .isFalse _=>none) (fun _ d _ z ih=>match d with | .isTrue _=>ih | .isFalse _=>some z)
  (fun _ _ ih ihk=>match ih with | some v=>ihk v | none=>none) (fun _ ih=>ih n) none R m
theorem M.adX (n:Nat) {R:Type} (m:M R):∀r,m.ex n=some r→m r:=by
 induction m with
 | ret v=>intro r h; exact (Option.some.inj h).symm
 | need p d m ih=>
  intro r h;cases d with
  | isTrue hp=>exact ⟨hp,ih r h⟩
  | isFalse hp=>exact absurd h (by show ¬ (none=some r); nofun)
 | grd p d m z ih=>
  intro r h;cases d with
  | isTrue hp=>exact fun _=>ih r h
  | isFalse hp=>exact fun q=>absurd q hp
 | bnd m k ih ihk=>
  intro r h;have h:(match m.ex n with | some v=>(k v).ex n | none=>none)=some r:=h;cases hv:m.ex n with
  | none=>rw [hv] at h; cases h
  | some v=>rw [hv] at h; exact ⟨v,ih v hv,ihk v r h⟩
 | sup f ih=>intro r h; exact ⟨n,ih n r h⟩
 | bot=>intro r h; cases h
theorem aT {R:Type} {p:Prop} {d:Decidable p} {m:M R} {r:R} {K:Prop} (hm:need p m r) (h:p→m r→K):p∧K:=⟨hm.1,h hm.1 hm.2⟩
theorem dK {R:Type} {c:Bool} {x y:M R} {r:R} {A B:Prop} (hm:(cond c x y) r) (h1:c=true→x r→A) (h2:c=false→y r→B):Sn c A B:=by
 cases c
 ·exact h2 rfl hm
 ·exact h1 rfl hm
theorem dz {A R:Type} {m:M A} {k:A→M R} {r:R} {G:Prop} (hm:bnd m k r) (h:∀v,m v→k v r→G):G:=by
 obtain ⟨v,h1,h2⟩:=hm;exact h v h1 h2
section
variable {P:Program} {cfg:rU} {N:Nat}
theorem TW {r:Option Nat} {m:Nat} {c:Code} {s:St} {K:Exit→St→Prop} {α:Type} (st:α→St) (inv:α→Prop) (μ:α→Nat) (x0:α) (ρ0:List (Nat×Option Nat)) (os0:List Nat) (h0:inv x0) (hE:J2 m ρ0 os0 s (st x0))
  (round:∀x,inv x→Good P cfg N r m c (st x) (fun e s'=>match e with | .normal=>∃x' ρ os,inv x'∧μ x'<μ x∧J2 m ρ os s' (st x') | e=>K e s')):Loops P cfg N r m (.loop c) s K:=by
 refine ⟨fun n0 cx a w I O hS hrd=>?_⟩;obtain ⟨I1,O1,hS1⟩:=J3 hS hE;refine wpIn_loop_ghost (fun n a w=>∃x I O,inv x∧n=μ x∧gQ cfg N m cx (st x) a w I O) (μ x0) ⟨x0,I1,O1,h0,rfl,hS1⟩ ?_;intro n a w hI;obtain ⟨x,I,O,hx,rfl,hS⟩:=hI;refine wpIn_mono (round x hx n0 cx a w I O hS hrd) ?_;intro e a' w' ⟨s',I',O',h1,h2⟩;cases e with
 | normal=>
  obtain ⟨x',ρ,os,h3,h4,h5⟩:=h1;obtain ⟨I2,O2,hS2⟩:=J3 h2 h5;exact ⟨μ x',h4,x',I2,O2,h3,rfl,hS2⟩
 | exit id=>exact ⟨s',I',O',h1,h2⟩
 | goto l=>exact ⟨s',I',O',h1,h2⟩
 | ret=>exact ⟨s',I',O',h1,h2⟩
 | panic ch=>exact ⟨s',I',O',h1,h2⟩
 | outgrown=>exact ⟨s',I',O',h1,h2⟩
theorem xQ (hc:fq P cfg) {rr:Option Nat} {m:Nat} {ct:List Nat} {c:Code} {s:St} {K:Exit→St→Prop} (hok:fZ N c=true) {σ R:Type} {F:(σ→M R)→σ→M R} {x0:σ} {r:R} (hm:bV F x0 r) (st:σ→St) (ρ0:List (Nat×Option Nat)) (os0:List Nat) (hE:J2 m ρ0 os0 s (st x0))
  (round:∀(self:σ→M R) (x:σ),F self x r→jD cfg (Spec P cfg) ct (Loops P cfg N rr m) c (st x) (fun e s'=>match e with | .normal=>∃x' ρ os,self x' r∧J2 m ρ os s' (st x') | e=>K e s')):Loops P cfg N rr m (.loop c) s K:=by
 obtain ⟨n0,h0⟩:=hm;refine TW (fun x:σ×Nat=>st x.1) (fun x=>itM F x.2 x.1 r) (fun x=>x.2) (x0,n0) ρ0 os0 h0 hE ?_;rintro ⟨x,n⟩ hx;cases n with
 | zero=>exact hx.elim
 | succ n=>
  refine (jU hc c (st x) _ hok (round (itM F n) x hx)).mono ?_;intro e s' h;cases e with
  | normal=>
   obtain ⟨x',ρ,os,h1,h2⟩:=h;exact ⟨(x',n),ρ,os,h1,Nat.lt_succ_self n,h2⟩
  | _=>exact h
theorem Qk (hc:fq P cfg) {rr:Option Nat} {m:Nat} {ct:List Nat} {x y:Code} {s:St} {K:Exit→St→Prop} (hokx:fZ N x=true) (hoky:fZ N y=true) {σ R:Type} (k:σ→M R) (r:R) (st:σ→St)
  (h1:jD cfg (Spec P cfg) ct (Loops P cfg N rr m) x s (fun e s'=>match e with | .normal=>∃x' ρ os,k x' r∧J2 m ρ os s' (st x') | e=>K e s'))
  (h2:∀x',k x' r→jD cfg (Spec P cfg) ct (Loops P cfg N rr m) y (st x') K):Loops P cfg N rr m (.seq x y) s K:=by
 refine ⟨yj ((jU hc x s _ hokx h1).mono ?_)⟩;intro e s' h;cases e with
 | normal=>
  obtain ⟨x',ρ,os,h3,h4⟩:=h;exact fun n0 cx a w I O hS hrd=>by
   obtain ⟨I',O',h'⟩:=J3 hS h4;exact jU hc y (st x') K hoky (h2 x' h3) n0 cx a w I' O' h' hrd
 | _=>exact h
structure Vy (P:Program) (cfg:rU) (N:Nat) (r:Option Nat) (m:Nat) (c:Code) (K:Exit→St→Prop) (M:Nat) (s:St):Prop where
 ok:∀(n0:Nat) (cx:Ctx) (a:Act) (w:World) (I:Nat→Prop) (O:OM),gQ cfg N m cx s a w I O→cx.rd=r.isSome→Code.roundsIn (FW r) n0 P c (fun e a' w'=>∃s' I' O',K e s'∧gQ cfg N m cx s' a' w' I' O') M a w
theorem kC (hc:fq P cfg) {r:Option Nat} {m:Nat} {ct:List Nat} {c:Code} {s:St} {K:Exit→St→Prop} {M:Nat} (hok:fZ N c=true)
  (h:jD cfg (Spec P cfg) ct (Loops P cfg N r m) c s (fun e s'=>match e with | .normal=>Vy P cfg N r m c K M s' | e=>K e s')):Vy P cfg N r m c K (M+1) s:=by
 refine ⟨fun n0 cx a w I O hS hrd=>?_⟩;rw [roundsIn_succ];refine wpIn_mono (jU hc c s _ hok h n0 cx a w I O hS hrd) ?_;intro e a' w' ⟨s',I',O',h1,h2⟩;cases e with
 | normal=>exact h1.ok n0 cx a' w' I' O' h2 hrd
 | exit id=>exact ⟨s',I',O',h1,h2⟩
 | goto l=>exact ⟨s',I',O',h1,h2⟩
 | ret=>exact ⟨s',I',O',h1,h2⟩
 | panic ch=>exact ⟨s',I',O',h1,h2⟩
 | outgrown=>exact ⟨s',I',O',h1,h2⟩
theorem Vz {r:Option Nat} {m:Nat} {c:Code} {s:St} {K:Exit→St→Prop} (M:Nat) (h:Vy P cfg N r m c K M s):Loops P cfg N r m (.loop c) s K:=
 ⟨fun n0 cx a w I O hS hrd=>wpIn_loop_rounds M (h.ok n0 cx a w I O hS hrd)⟩
end
end Go.Ab

namespace Go.Ab
theorem le_rtake {α:Type} {f:α→AV} {d:α} {l:List α} {k:Nat} (_h:k≤l.length):∀i,i<k→Le (bE f d l i) (bE f d (l.take k) i):=fun i hi=>by
 unfold bE;rw [getD_take l d hi];exact .refl _
theorem le_litG {α:Type} (f:α→AV) (d:α) (l:List α) {n:Nat} {g:Nat→AV} (hg:g=Ny (l.map f):=by rfl) (hn:n≤l.length:=by exact Nat.le_of_ble_eq_true rfl):∀i,i<n→Le (g i) (bE f d l i):=fun i hi=>by
 subst hg;unfold bE Ny;rw [pQ,List.getD_eq_getElem?_getD,List.getElem?_map,List.getD_eq_getElem?_getD,List.getElem?_eq_getElem om];exact .refl _
theorem yt {α:Type} {f:α→AV} {d:α} {x:α} {l:List α} {n:Nat} {g:Nat→AV} (h0:Le (g 0) (f x)) (ht:∀i,i<n→Le ((fun j=>g (j+1)) i) (bE f d l i)):∀i,i<n+1→Le (g i) (bE f d (x::l) i):=fun i hi=>by
 cases i with
 | zero=>exact h0
 | succ i=>exact ht i om
theorem le_appG {α:Type} {f:α→AV} {d:α} {l m:List α} {n k:Nat} {g h:Nat→AV} (hn:n=l.length) (hg:∀i,i<n→Le (g i) (bE f d l i)) (hk:k=m.length) (hh:∀i,i<k→Le (h i) (bE f d m i)):∀i,i<n+k→Le (appG n g h i) (bE f d (l++m) i):=fun i hi=>by
 unfold appG;cases hb:Nat.blt i n with
 | true=>
  have hlt:i<n:=by simpa using hb
  have:=hg i hlt;unfold bE at this ⊢;rw [mV d om];exact this
 | false=>
  have hge:n≤i:=by
   rcases Nat.lt_or_ge i n with h | h
   ·rw [show Nat.blt i n=true by simpa using h] at hb; cases hb
   ·exact h
  have:=hh (i - n) om;unfold bE at this ⊢;rw [List.getD_eq_getElem?_getD,List.getElem?_append_right om,← List.getD_eq_getElem?_getD,← hn];exact this
theorem Y9 {α:Type} {f:α→AV} {d:α} {l:List α} {a n N:Nat} {g:Nat→AV} (hg:∀i,i<N→Le (g i) (bE f d l i)) (h:a+n≤N):∀i,i<n→Le (g (a+i)) (bE f d ((l.drop a).take n) i):=fun i hi=>by
 have:=hg (a+i) om;unfold bE at this ⊢;rw [getD_take _ d hi,getD_drop];exact this
theorem Mx {α:Type} {f:α→AV} {d:α} {l:List α} {a n N:Nat} {g:Nat→AV} (hg:∀i,i<N→Le (g i) (bE f d l i)) (h:a+n≤N):∀i,i<n→Le (mq a g i) (bE f d ((l.drop a).take n) i):=fun i hi=>by
 rw [xM];exact Y9 hg h i hi
theorem iO {α:Type} {f:α→AV} {d:α} {l:List α} {n j:Nat} {g:Nat→AV} {v:AV} {x:α} (hg:∀i,i<n→Le (g i) (bE f d l i)) (hn:n=l.length) (hv:Le v (f x)):∀i,i<n→Le (UC g j v i) (bE f d (l.set j x) i):=fun i hi=>by
 unfold UC;cases hb:Nat.beq i j with
 | true=>
  have:=Nat.eq_of_beq_eq_true hb;subst this;unfold bE;rw [List.getD_eq_getElem?_getD,List.getElem?_set_self om];exact hv
 | false=>
  have hne:i≠j:=fun e=>by subst e; simp at hb
  have:=hg i hi;unfold bE at this ⊢;rw [List.getD_eq_getElem?_getD,List.getElem?_set_ne om,← List.getD_eq_getElem?_getD];exact this
def J5 {α:Type} (l:List α) (i:Nat) (s:List α):List α:=l.mapIdx fun j x=>if i≤j then s.getD (j - i) x else x
theorem eT {α:Type} (l:List α) (i:Nat) (s:List α):(J5 l i s).length=l.length:=by
 unfold J5;rw [List.length_mapIdx]
theorem Il {α:Type} (d:α) {l s:List α} {i j:Nat} (hj:j<l.length):(J5 l i s).getD j d=if i≤j∧j<i+s.length then s.getD (j - i) d else l.getD j d:=by
 unfold J5;rw [List.getD_eq_getElem?_getD,List.getElem?_mapIdx,List.getElem?_eq_getElem hj,List.getD_eq_getElem?_getD (l:=l),List.getElem?_eq_getElem hj];simp only [Option.map_some,Option.getD_some];by_cases h1:i≤j
 ·rw [if_pos h1];by_cases h2:j<i+s.length
  ·rw [if_pos ⟨h1,h2⟩,List.getD_eq_getElem?_getD,List.getD_eq_getElem?_getD,List.getElem?_eq_getElem om];rfl
  ·rw [if_neg om,List.getD_eq_getElem?_getD,List.getElem?_eq_none om];rfl
 ·rw [if_neg h1,if_neg om]
theorem Ql {α:Type} {f:α→AV} {d:α} {l s:List α} {n i m:Nat} {g h:Nat→AV} (hn:n=l.length) (hg:∀j,j<n→Le (g j) (bE f d l j)) (hm:m=s.length) (hh:∀j,j<m→Le (h j) (bE f d s j)):∀j,j<n→Le (Yz i m g h j) (bE f d (J5 l i s) j):=fun j hj=>by
 unfold bE;rw [Il d om];by_cases hin:i≤j∧j<i+m
 ·rw [if_pos om,P6 hin.1 hin.2];exact hh (j - i) om
 ·rw [if_neg om,KL hin];exact hg j hj
theorem Qm {α:Type} (f:α→AV) (d:α) {n:Nat} {z:AV} (hz:Le z (f d):=by exact .refl _):∀i,i<n→Le ((fun _=>z) i) (bE f d (List.replicate n d) i):=fun i hi=>by
 unfold bE;rw [List.getD_eq_getElem?_getD,List.getElem?_replicate,if_pos hi];exact hz
def strOf (l:List Int):ByteArray:=Cz l.length 0 (bE (AV.int .u8) 0 l) ByteArray.empty
def u8L:List AV→Bool
 | []=>true
 | v::l=>adJ v&&u8L l
theorem aa0:∀ {es:List AV},u8L es=true→∀i,i<es.length→adJ (Ny es i)=true:=by
 intro es;induction es with
 | nil=>intro _ i h; exact absurd h (Nat.not_lt_zero _)
 | cons v l ih=>
  intro h i hi;simp only [u8L,Bool.and_eq_true] at h;cases i with
  | zero=>exact h.1
  | succ i=>exact ih h.2 i (by simpa using hi)
theorem uI {ρ:List (Nat×Option Nat)} {H':jh} {f:Nat} {u v:AV} (h:Le u v) (hp:aey v=true) (hl:v.cells.length+2<f):jY ρ H' f u v:=by
 obtain ⟨f,rfl⟩:∃f',f=f'+1:=⟨f - 1,by omega⟩;cases v with
 | agg cs'=>
  have key:∀cs,Mh cs cs'→jY ρ H' (f+1) (.agg cs) (.agg cs'):=by
   intro cs hcs;unfold jY;have:=(yh _ _ hcs).1;exact acG cs cs' f (by simp [AV.cells] at hl; omega) hcs hp
  cases h with
  | refl=>exact key _ (Mh.refl _)
  | agg hl h=>exact key _ (Mh.Yj hl h)
 | _=>exact Yk h hp
def zo {α:Type} (f:α→AV) (X:Nat→α):Nat→AV:=fun i=>f (X i)
def upd {α:Type} (X:Nat→α) (i:Nat) (x:α):Nat→α:=fun j=>bif Nat.beq j i then x else X j
theorem Za {α:Type} (X:Nat→α) (i:Nat) (x:α):upd X i x i=x:=by
 unfold upd;rw [show Nat.beq i i=true by simp];rfl
theorem acH {α:Type} {f:α→AV} {X:Nat→α} {n j:Nat} {g:Nat→AV} {v:AV} {x:α} (hg:∀i,i<n→Le (g i) (zo f X i)) (hv:Le v (f x)):∀i,i<n→Le (UC g j v i) (zo f (upd X j x) i):=fun i hi=>by
 unfold UC zo upd;cases hb:Nat.beq i j with
 | true=>exact hv
 | false=>exact hg i hi
theorem TY {α:Type} {f:α→AV} {X:Nat→α} (h1:∀x,(f x).cells=[f x]):∀(n k i:Nat),i<n→nth (gD n k (zo f X)) i=f (X (k+i)):=by
 intro n;induction n with
 | zero=>intro k i h; exact absurd h (Nat.not_lt_zero _)
 | succ n ih=>
  intro k i hi;simp only [gD];have:(zo f X k).cells=[f (X k)]:=h1 _;rw [this];cases i with
  | zero=>rfl
  | succ i=>
   show nth (gD n (k+1) (zo f X)) i=_;rw [ih (k+1) i om];congr 2;omega
theorem SS {α:Type} {f:α→AV} {X:Nat→α} {n:Nat} (h1:∀x,(f x).cells=[f x]):∀i,i<n→Le (Ny (gD n 0 (zo f X)) i) (zo f X i):=fun i hi=>by
 unfold Ny;rw [TY h1 n 0 i hi,Nat.zero_add];exact .refl _
theorem le_funG {α:Type} {f:α→AV} {d:α} {X:Nat→α} {n:Nat}:∀i,i<n→Le (zo f X i) (bE f d ((List.range n).map X) i):=fun i hi=>by
 unfold zo bE;rw [List.getD_eq_getElem?_getD,List.getElem?_map,List.getElem?_range hi];exact .refl _
theorem iW (x:cB) (h:(match x with | .map .. => false | _=>true)=true:=by rfl):LeO x x:=by
 cases x with
 | box cs=>exact Mh.refl cs
 | row es n g=>exact ⟨rfl,rfl,fun _ _=>.refl _⟩
 | map=>cases h
theorem NV {c b:Bool} (h:(c==b)=false):¬ c=b:=by
 rintro rfl;simp at h
def W {R:Type} (m:M R) (Q:R→Prop):Prop:=∃r,m r∧Q r
theorem ah {R:Type} {v:R} {Q:R→Prop} (h:Q v):W (ret v) Q:=⟨v,rfl,h⟩
theorem aZ {R:Type} {p:Prop} {d:Decidable p} {m:M R} {Q:R→Prop} (hp:p) (h:W m Q):W (need p m) Q:=by
 obtain ⟨r,h1,h2⟩:=h;exact ⟨r,⟨hp,h1⟩,h2⟩
theorem av {A R:Type} {m:M A} {k:A→M R} {P:A→Prop} {Q:R→Prop} (h:W m P) (hk:∀v,P v→W (k v) Q):W (bnd m k) Q:=by
 obtain ⟨v,h1,h2⟩:=h;obtain ⟨r,h3,h4⟩:=hk v h2;exact ⟨r,⟨v,h1,h3⟩,h4⟩
theorem bP {R:Type} {c:Bool} {x y:M R} {Q:R→Prop} (h1:c=true→W x Q) (h2:c=false→W y Q):W (cond c x y) Q:=by
 cases c
 ·exact h2 rfl
 ·exact h1 rfl
theorem MB {R:Type} {m:M R} {Q Q':R→Prop} (h:W m Q) (hq:∀r,Q r→Q' r):W m Q':=by
 obtain ⟨r,h1,h2⟩:=h;exact ⟨r,h1,hq r h2⟩
theorem FN {R:Type} {m:M R} {v:R} (h:m v):W m (fun r=>r=v):=⟨v,h,rfl⟩
theorem jm {R:Type} {m:M R} {v:R} (h:W m (fun r=>r=v)):m v:=by
 obtain ⟨r,h1,rfl⟩:=h;exact h1
theorem Bj {A:Type} [Inhabited A] {c:Prop} [Decidable c] {m:M A} {P:A→Prop} (h:c→W m P):W (grd c m) (fun v=>c→P v):=by
 by_cases hc:c
 ·obtain ⟨v,h1,h2⟩:=h hc;exact ⟨v,fun _=>h1,fun _=>h2⟩
 ·exact ⟨default,fun h=>absurd h hc,fun h=>absurd h hc⟩
theorem bA {σ R:Type} {F:(σ→M R)→σ→M R} {Q:R→Prop} (inv:σ→Prop) (μ:σ→Nat) (h:∀(self:σ→M R) (s:σ),inv s→(∀s',inv s'→μ s'<μ s→W (self s') Q)→W (F self s) Q) {s:σ} (hs:inv s):W (bV F s) Q:=by
 have key:∀n s,inv s→μ s<n→W (itM F n s) Q:=by
  intro n;induction n with
  | zero=>intro s _ h; exact absurd h (Nat.not_lt_zero _)
  | succ n ih=>intro s hs hn; exact h _ s hs fun s' h1 h2=>ih s' h1 om
 obtain ⟨r,h1,h2⟩:=key (μ s+1) s hs (Nat.lt_succ_self _);exact ⟨r,⟨_,h1⟩,h2⟩
theorem ar2 {p:Nat→Prop} (a:p 0) (b:p 1):∀k,k<2→p k
 | 0,_=>a
 | 1,_=>b
 | k+2,h=>absurd h om
theorem Jk {p:Nat→Prop} (a:p 0) (b:p 1) (c:p 2):∀k,k<3→p k
 | 0,_=>a
 | 1,_=>b
 | 2,_=>c
 | k+3,h=>absurd h om
end Go.Ab



namespace Go.Ab
section
variable {P:Program} {cfg:rU} {N:Nat}
theorem Zb {r:Option Nat} {n0:Nat} {oA oB:Oper} {Q:Exit→Act→World→Prop} {a:Act} {w:World} (hA:oA.guard=none) (hB:oB.guard=none) (hdA:∀c,oA.op≠.defer c) (hdB:∀c,oB.op≠.defer c)
  {x y:Value} (h1:(execOp a.eval oA).run P w=.ok (.value x) w) (h2:(execOp (a.put oA.dst x).eval oB).run P w=.ok (.value y) w) (h:Q .normal ((a.put oA.dst x).put oB.dst y) w):
  wpOpsIn (FW r) n0 P #[oA,oB] Q (List.range 2) a w:=by
 show wpOpsIn (FW r) n0 P #[oA,oB] Q [0,1] a w;unfold wpOpsIn;simp only [List.getElem?_toArray,List.getElem?_cons_zero];rw [if_pos (by unfold Region.wanted; rw [hA])];refine TS hdA (oC h1 ?_);unfold wpOpsIn;simp only [List.getElem?_toArray,List.getElem?_cons_succ,List.getElem?_cons_zero];rw [if_pos (by unfold Region.wanted; rw [hB])];refine TS hdB (oC h2 ?_);unfold wpOpsIn;exact h
theorem aa1 {r:Option Nat} {m id:Nat} {t e:TypeId} (hu:P.underlying t=some (.slice e)) {t0 d3 d4:Nat} (h3:d3<N) (h4:d4<N) {t' tyA tyB:TypeId} {pA pB:String} {aA aB:Array Edge}
  {T:List (Nat×AV)} {H:jh} {nx:Nat} {es n:Nat} {f:Bool} {g:Nat→AV} (hs:tget T t0=.sl es n f g) {K:Exit→St→Prop}
  (hK:∀b,(b=true→n=0)→K .normal ⟨(d4,.bool b)::(d3,.sl es n f g)::T,H,nx⟩):
  Good P cfg N r m (.region id #[⟨some d3,.move (.tmp t0),tyA,pA,aA,none⟩,⟨some d4,.binOp .eql t (.tmp d3) (.const (.slice none 0 0)) t',tyB,pB,aB,none⟩] false) ⟨T,H,nx⟩ K:=by
 intro n0 cx a w I O hS hrd;have hx:=hS.tmps.rep t0 rfl;have hsz:=hS.tmps.size;have hs':tget (⟨T,H,nx⟩:St).tmps t0=.sl es n f g:=hs;rw [hs'] at hx;generalize hxv:a.tmps.getD t0 Go.undef=x at hx;have hp:=hx.Aj;refine wpIn_region ?_;cases hp with
 | @sl _ _ _ _ aa cap b off vs hcap hfull ha hes hm h1 hr=>
  have hb:aa.isNone=true→n=0:=fun h=>by
   rcases Nat.eq_zero_or_pos n with h0 | h0
   ·exact h0
   ·rw [(ha om).1] at h; cases h
  refine Zb rfl rfl (fun c h=>by cases h) (fun c h=>by cases h) (x:=.slice aa n cap) (y:=.bool aa.isNone) ?_ ?_ ?_
  ·simp only [execOp,Act.eval];rw [hxv];rfl
  ·have e1:(a.put (some d3) (.slice aa n cap)).eval (.tmp d3)=.slice aa n cap:=by
    simp [Act.put,Act.eval,hsz,h3]
   have e2:=run_equal_slice_nil (P:=P) w t e aa n cap hu;have e3:(a.put (some d3) (.slice aa n cap)).eval (.const (.slice none 0 0))=.slice none 0 0:=rfl;have hg:(eqGuard .eql t (.tmp d3) (.const (.slice none 0 0)) (.slice aa n cap) (.slice none 0 0)).run P w=.ok () w:=by unfold eqGuard; simp
   simp only [execOp];rw [e1,e3];simp [hg,binOp,e2]
  ·refine ⟨_,I,O,hK aa.isNone hb,hS.m,hS.rel,?_,hS.marks⟩;have h5:=hS.tmps.put (fun _ _ h=>h) (some d3) (fun k hk=>by cases hk; exact h3) (.sl es n f g) (.slice aa n cap) true (fun _=>hx) (fun h=>by cases h);have h6:=h5.put (fun _ _ h=>h) (some d4) (fun k hk=>by cases hk; exact h4) (.bool aa.isNone) (.bool aa.isNone) true (fun _=>.pure (.bool _)) (fun h=>by cases h);refine ⟨h6.defers,h6.size,fun tt _=>?_,fun tt h=>by cases h⟩;have:=h6.rep tt (by rw [Ik,Ik]);show Rep w I O _ (tget ((d4,.bool aa.isNone)::(d3,.sl es n f g)::T) tt) _;rw [sP,sP];exact this
theorem Qn (hc:fq P cfg) {rr:Option Nat} {m:Nat} {ct:List Nat} {t e:TypeId} (hu:P.underlying t=some (.slice e)) {a X Y:Code} {s:St} {K:Exit→St→Prop} (hoka:fZ N a=true) (hokX:fZ N X=true) (hokY:fZ N Y=true)
  {id t0 d3 d4:Nat} (h3:d3<N) (h4:d4<N) {t' tyA tyB:TypeId} {pA pB:String} {aA aB:Array Edge} (T:List (Nat×AV)) (H:jh) (nx:Nat) {es n:Nat} {f:Bool} {g:Nat→AV} (hs:tget T t0=.sl es n f g)
  (h1:jD cfg (Spec P cfg) ct (Loops P cfg N rr m) a s (fun e s'=>match e with | .normal=>s'=⟨T,H,nx⟩ | _=>False))
  (hX:n=0→jD cfg (Spec P cfg) ct (Loops P cfg N rr m) X ⟨(d4,.bool true)::(d3,.sl es n f g)::T,H,nx⟩ (fun e s'=>match e with | .normal=>False | e=>K e s'))
  (hY:jD cfg (Spec P cfg) ct (Loops P cfg N rr m) Y ⟨(d4,.bool false)::(d3,.sl es n f g)::T,H,nx⟩ K):
  Loops P cfg N rr m (.seq a (.seq (.seq (.region id #[⟨some d3,.move (.tmp t0),tyA,pA,aA,none⟩,⟨some d4,.binOp .eql t (.tmp d3) (.const (.slice none 0 0)) t',tyB,pB,aB,none⟩] false) (.cond (.tmp d4) X .skip)) Y)) s K:=by
 refine ⟨yj ((jU hc a s _ hoka h1).mono ?_)⟩;intro e s' h;cases e with
 | normal=>
  have h:s'=⟨T,H,nx⟩:=h;subst h;refine yj (yj (aa1 hu h3 h4 hs fun b hb=>?_));have hrho:Pz cfg (tget (⟨(d4,.bool b)::(d3,.sl es n f g)::T,H,nx⟩:St).tmps) (.tmp d4)=.bool b:=by
   show tget ((d4,.bool b)::(d3,.sl es n f g)::T) d4=_;rw [sP];simp [jE]
  refine SI hrho (fun hb1=>?_) (fun hb1=>?_)
  ·subst hb1;refine (jU hc X _ _ hokX (hX (hb rfl))).mono ?_;intro e s' h;cases e with
   | normal=>exact h.elim
   | _=>exact h
  ·subst hb1;refine jU (ct:=ct) hc .skip _ _ rfl ?_;exact jU hc Y _ _ hokY hY
 | _=>exact h.elim
def T9 {σ R:Type} (len:Nat) (B:Nat→(σ→M R)→σ→M R) (fin:σ→M R):Nat→σ→M R
 | 0=>fin
 | j+1=>B (len - (j+1)) (T9 len B fin j)
theorem SV (hc:fq P cfg) {m:Nat} {ct ct':List Nat} {g:Operand} {p0 p1:Nat} {assign body:Code} {s:St} {K:Exit→St→Prop} (hoka:fZ N assign=true) (hokb:fZ N body=true) (hp0:p0<N) (hp1:p1<N)
  {gf:FuncId} {caps:List AV} {len:Nat} {e0 e1:Nat→AV} (hit:Qj P gf caps len e0 e1) (hg:Pz cfg (tget s.tmps) g=.fn gf caps) (hcaps:∀v∈caps,∃cs,v=.ro cs)
  {σ R:Type} {B:Nat→(σ→M R)→σ→M R} {fin:σ→M R} {x0:σ} {r:R} (hm:T9 len B fin len x0 r)
  (st:σ→St) (st1:Nat→σ→St) (hnm:∀k gx,J4 (st gx).heap=true∧J4 (st1 k gx).heap=true) (ρ0:List (Nat×Option Nat)) (h0:Emb m ρ0 s (st x0))
  (ha:∀k l gx,k<len→m≤(st gx).nx∧jD cfg (Spec P cfg) ct (Loops P cfg N (some l) (st gx).nx) assign ⟨(p1,e1 k)::(p0,e0 k)::(st gx).tmps,(st gx).heap,(st gx).nx⟩ (fun e s'=>match e with | .normal=>∃ρ,Emb (st gx).nx ρ s' (st1 k gx) | _=>False))
  (hb:∀k l self gx,k<len→B k self gx r→jD cfg (Spec P cfg) ct' (Loops P cfg N (some l) (st1 k gx).nx) body (st1 k gx) (fun e s'=>match e with | .normal=>∃x' ρ,self x' r∧Emb m ρ ⟨(st gx).tmps,s'.heap,s'.nx⟩ (st x') | .ret=>K .ret ⟨(st gx).tmps,s'.heap,s'.nx⟩ | _=>False))
  (hK:∀gx,fin gx r→K .normal (st gx)):Loops P cfg N none m (.rangeFunc g #[p0,p1] assign body) s K:=by
 refine Y8 (ct:=ct) (ct':=ct') hc hoka hokb hp0 hp1 hit hg hcaps st st1 hnm x0 ρ0 h0 (fun k x=>T9 len B fin (len - k) x r) hm (fun k l gx hk _=>ha k l gx hk) ?_ ?_
 ·intro k l gx hk hi;obtain ⟨j,hj⟩:∃j,len - k=j+1:=⟨len - k - 1,by omega⟩;have h1:=hi;rw [hj] at h1;have e1:len - (j+1)=k:=by omega
  have h2:B k (T9 len B fin j) gx r:=by
   have:B (len - (j+1)) (T9 len B fin j) gx r:=h1;rwa [e1] at this
  have e2:j=len - (k+1):=by omega
  subst e2;exact hb k l _ gx hk h2
 ·intro gx hi;have:=hi;rw [Nat.sub_self] at this;exact hK gx this
end
end Go.Ab

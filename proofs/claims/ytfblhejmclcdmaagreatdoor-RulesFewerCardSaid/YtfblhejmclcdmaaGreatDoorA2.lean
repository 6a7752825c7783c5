/- An abstract machine over the model's code, that it is sound; models of the functions and their proofs. -/
import Derived.Test.YtfblhejmclcdmaaGreatDoorA1
import Derived.OrdersIn
import Derived.Sort.LoopGhostIn
import Derived.Test.YtfblhejmclcdmaaGreatDoorA0
import Derived.RangeFuncLeaves
import Derived.RangeFuncNested
import Derived.LoopNIn
set_option linter.unusedVariables false
set_option linter.unusedSimpArgs false

namespace Go.Ab
section
variable {P:Program} {cfg:qm} {cx:Ctx} {H:Nat→Option bJ} {D:Nat→Prop} {w:World} {I:Nat→Prop} {O:OM}
variable {nid:Nat} {o:Oper} {a:Act} {ρ:Operand→AV} {v:AV} {ups:iI} {r:List Nat}
theorem SF (hR:Rel cfg cx H D w I O) {f:FuncId} {args:List AV} {vals:Array Value} (hrun:∀fn,P.funcs[f]? = some fn→fn.body.isNone=false→(fn.name == "runtime.NumGoroutine")=false→(execOp a.eval o).run P w=.ok (.enter f vals) w)
  (hvl:vals.size=args.length) (hva:∀j,j<args.length→Rep w I O D (nth args j) (vals.getD j Go.undef))
  (h:dx (Spec P cfg) H (yE [] args fun args' _=>.call f args' [] fun r obs'=>match obs' with | []=>dL (VW r) (ig r) | _::_=>.fail) v ups r):dn P cfg cx H D w I O nid o a v ups:=by
 obtain ⟨args',ids,r2,h4,hal,hview⟩:=Cy hR (sg:=[]) (fun j hj=>by cases hj) args _ _ h;cases h4 with
 | @call _ _ _ _ res obs' _ _ _ hspec h6=>
 cases obs' with
 | cons=>exact (dx.aH h6).elim
 | nil=>
  obtain ⟨hm,h7⟩:=h6.bg;obtain ⟨rfl,rfl⟩:=h7.cZ;clear h h6 h7;obtain ⟨⟨fn,hf1,hf2,hf3⟩,hle,hcall⟩:=hspec;have hRs:=hR.sub (sg:=[]) (ids:=ids) (obs:=[]) rfl (by
   have:∀l,Cj l []=true:=by
    intro l
    induction l with
    | nil=>rfl
    | cons x l ih=>unfold Cj; simp [uK,ih]
   exact this ids) rfl (fun j hj=>by cases hj)
  intro next Q hnx
  refine Qp (hrun fn hf1 hf2 hf3) ((hcall w _ _ vals hRs (by omega) (fun j hj=>hview j (by omega) _ (hva j (by omega)))).mono ?_);rintro e w' ⟨x,I',O',rfl,hR',hres⟩;refine ⟨x,rfl,?_⟩;have hfr:∀b,b<w.heap.size→w'.heap[b]? = w.heap[b]? := fun b hb=>hR'.frame b hb (by
   rintro ⟨j,p,bo,sz,h1,h2⟩
   simp [subO] at h1)
  have hR1:=hR.qc nid;refine hnx x w' I O ?_ (fun u y hu=>hu.mono (fun _ h=>h) (fun b hb=>hfr b (hR.tu b hb)) (fun _ _=>.inl rfl) (fun _ h=>.inl h) hR.used) (.pure (Sy hres hm));rw [vN];exact { hR1 with
   objs:=fun o ob p h1 h2=>(hR1.objs o ob p h1 h2).mono (fun _ h=>h) (fun b hb=>hfr b (hR.tu b hb)) (fun _ _=>.inl rfl) (fun _ h=>h) hR1.used (fun b bo sz hpl=>hfr b (hR.lt o p b bo sz h2 hpl))
   lt:=fun o p b bo sz h1 h2=>Nat.lt_of_lt_of_le (hR.lt o p b bo sz h1 h2) hR'.size
   tu:=fun b h=>Nat.lt_of_lt_of_le (hR.tu b h) hR'.size
   size:=Nat.le_trans hR.size hR'.size
   env:=hR.env.step hR'.env.same
   frame:=fun b h1 h2=>by rw [hfr b (Nat.lt_of_lt_of_le h1 hR.size)]; exact hR.frame b h1 h2
   glob:=fun g cs h=>(hR.glob g cs h).mono (fun _ h=>h) (fun b hb=>hfr b (hR.tu b hb)) }
theorem Pd (l m:List AV) (j:Nat) (h:j<l.length):nth (l++m) j=nth l j:=by
 rw [nS,nS]; simp [List.getElem?_append_left h]
theorem Pe (l m:List AV) (j:Nat) (h:l.length≤j):nth (l++m) j=nth m (j - l.length):=by
 rw [nS,nS]; simp [List.getElem?_append_right h]
theorem Yt (hR:Rel cfg cx H D w I O) (hn:Ll D nid) {c:Call} {f:Operand} (ho:o.op=.call c) (hcl:c.callee=.value f) (hf:Rep w I O D (ρ f) (a.eval f)) (hx:∀x∈c.args.toList,Rep w I O D (ρ x) (a.eval x))
  (h:dx (Spec P cfg) H (dO cfg nid (.call c) ρ) v ups r):dn P cfg cx H D w I O nid o a v ups:=by
 simp only [dO,hcl] at h;split at h
 ·rename_i g caps e;rw [e] at hf;obtain ⟨cvs,hfv,hcl1,hcr⟩:=hf.Cu;have hrun:∀fn,P.funcs[g]? = some fn→fn.body.isNone=false→(fn.name == "runtime.NumGoroutine")=false→(execOp a.eval o).run P w=.ok (.enter g (c.args.map a.eval++cvs)) w:=by
   intro fn h1 h2 h3;simp only [execOp,ho,hcl,resolve,hfv,Deferred.ofValue,Sem.run_bind,Sem.run_pure,Result.andThen_ok,invoke,callFunc,program,Sem.run,h1,h2,h3,Bool.false_eq_true,if_false];simp
  have hvl:(c.args.map a.eval++cvs).size=(c.args.toList.map ρ++caps).length:=by simp [hcl1]
  have hva:∀j,j<(c.args.toList.map ρ++caps).length→Rep w I O D (nth (c.args.toList.map ρ++caps) j) ((c.args.map a.eval++cvs).getD j Go.undef):=by
   intro j hj;by_cases hlt:j<(c.args.toList.map ρ).length
   ·rw [Pd _ _ _ hlt];have h1:=Uc (a:=a) hx j hlt;have hlt':j<(c.args.map a.eval).size:=by simpa using hlt
    have e1:(c.args.map a.eval++cvs).getD j Go.undef=(c.args.map a.eval).getD j Go.undef:=by
     simp only [Array.getD_eq_getD_getElem?, Array.getElem?_append_left hlt']
    rw [e1];simpa using h1
   ·have hge:(c.args.toList.map ρ).length≤j:=by omega
    rw [Pe _ _ _ hge];have hge':(c.args.map a.eval).size≤j:=by simpa using hge
    have e1:(c.args.map a.eval++cvs).getD j Go.undef=cvs.getD (j - (c.args.map a.eval).size) Go.undef:=by
     simp only [Array.getD_eq_getD_getElem?, Array.getElem?_append_right hge']
    rw [e1];have e2:(c.args.map a.eval).size=(c.args.toList.map ρ).length:=by simp
    rw [e2];exact hcr _ (by simp at hj hge ⊢; omega)
  unfold V3 at h;split at h
  ·split at h
   ·exact SF hR hrun hvl hva h
   ·exact Qs hR hn hrun hvl hva h
  ·exact Qs hR hn hrun hvl hva h
 ·exact (dx.aH h).elim
def Zn (w:World) (I:Nat→Prop) (O:OM) (D:Nat→Prop) (a:Act) (ρ:Operand→AV) (op:Op):Prop:=
 match op with
 | .pick c x y=>Rep w I O D (ρ c) (a.eval c)∧(∀b,ρ c=.bool b→b=true→Rep w I O D (ρ x) (a.eval x))∧(∀b,ρ c=.bool b→b=false→Rep w I O D (ρ y) (a.eval y))
 | op=>∀x∈op.operands.toList,Rep w I O D (ρ x) (a.eval x)
theorem WJ (hc:dY P cfg) (hR:Rel cfg cx H D w I O) (hF:Ll D nid) (hρ:∀c,ρ (.const c)=ofConst c) (hx:Zn w I O D a ρ o.op) (h:dx (Spec P cfg) H (dO cfg nid o.op ρ) v ups r):dn P cfg cx H D w I O nid o a v ups:=by
 have hn:=hF.one;generalize ho:o.op=op at hx h;cases op with
 | move x=>obtain ⟨rfl,rfl⟩:=h.cZ; exact Yf hR ho (hx x (by simp [Op.operands]))
 | assign x=>obtain ⟨rfl,rfl⟩:=h.cZ; exact UJ hR ho (hx x (by simp [Op.operands]))
 | pick c x y=>
  obtain ⟨h1,h2,h3⟩:=hx;exact Yg hR ho h1 h2 h3 (fun c e=>by subst e; exact ⟨hρ c,rfl⟩) (fun c e=>by subst e; exact ⟨hρ c,rfl⟩) h
 | alloc t=>exact Wt hc hR hn ho h
 | box t x=>exact ZI hR hn ho (hx x (by simp [Op.operands])) h
 | build t parts=>
  refine Wu hc hR ho (fun p hp=>hx p.2 ?_) h;simp only [Op.operands,List.mem_map];exact ⟨p,hp,rfl⟩
 | buildSlice t len parts=>
  refine M9 hc hR hn ho (fun p hp=>hx p.2 ?_) h;simp only [Op.operands,List.mem_map];exact ⟨p,hp,rfl⟩
 | load t x=>exact Yl hc hR ho (hx x (by simp [Op.operands])) h
 | store t x y=>exact Wx hc hR ho (hx x (by simp [Op.operands])) (hx y (by simp [Op.operands])) h
 | nilCheck x=>exact Qe hR ho (hx x (by simp [Op.operands])) h
 | binOp op t x y t'=>exact Wm hc hR ho (hx x (by simp [Op.operands])) (hx y (by simp [Op.operands])) h
 | unOp op t x=>exact Yk hR ho (hx x (by simp [Op.operands])) h
 | convert s d x=>exact Sm hc hR ho (hx x (by simp [Op.operands])) h
 | makeFunc fn first cap=>exact Qf hR ho (fun x hm=>hx x (by simp only [Op.operands,Array.toList_append,List.mem_append]; exact .inr hm)) h
 | makeSlice t l c=>exact O6 hc hR hn ho (hx l (by simp [Op.operands])) h
 | slice t x lo hi mx=>
  refine Ws hc hR ho (hx x (by simp [Op.operands])) (fun y e=>hx y ?_) (fun y e=>hx y ?_) (fun y e=>hx y ?_) h
  ·subst e; simp [Op.operands]
  ·subst e; simp [Op.operands]
  ·subst e; simp [Op.operands]
 | fieldAddr s x f=>exact OZ hc hR ho (hx x (by simp [Op.operands])) h
 | field s x f=>exact Wn hc hR ho (hx x (by simp [Op.operands])) h
 | indexAddr t x ix=>exact O5 hc hR ho (hx x (by simp [Op.operands])) (hx ix (by simp [Op.operands])) h
 | extract t i=>exact Sb hR ho (hx t (by simp [Op.operands])) h
 | index t x ix=>exact WE hc hR ho (hx x (by simp [Op.operands])) (hx ix (by simp [Op.operands])) h
 | makeMap t r=>
  cases r with
  | none=>exact SE hR hn ho h
  | some r=>exact (dx.aH h).elim
 | lookup t x ix ok=>
  cases ok with
  | false=>exact UZ hc hR ho (hx x (by simp [Op.operands])) (hx ix (by simp [Op.operands])) h
  | true=>exact (dx.aH h).elim
 | mapUpdate t x ix y=>exact Pb hc hR ho (hx x (by simp [Op.operands])) (hx ix (by simp [Op.operands])) (hx y (by simp [Op.operands])) h
 | call c=>
  have harg:∀x∈c.args.toList,Rep w I O D (ρ x) (a.eval x):=fun x hm=>hx x (by simp only [Op.operands,Call.operands,Array.toList_append,List.mem_append]; exact .inr hm);cases hcl:c.callee with
  | value f=>exact Yt hR hF ho hcl (hx f (by simp [Op.operands,Call.operands,hcl])) harg h
  | invoke x m=>simp only [dO,hcl] at h; exact (dx.aH h).elim
  | builtin b=>
   cases b with
   | len=>exact ZE hc hR ho hcl harg h
   | append=>exact UQ hc hR hn ho hcl harg h
   | copy=>exact Yp hc hR ho hcl harg h
   | clear=>exact WB hc hR ho hcl harg h
   | min=>exact ZF hR ho hcl harg h
   | max=>exact ZG hR ho hcl harg h
   | _=>simp only [dO,hcl] at h; exact (dx.aH h).elim
 | _=>exact (dx.aH h).elim
end
end Go.Ab

namespace Go.Ab
structure TE where
 ex:Bool
 v:AV
 ups:iI
 rds:List Nat
def iY {α:Type} (T:Nat→α) (d:Option Nat) (v:α):Nat→α:=match d with
 | some k=>fun t=>if t=k then v else T t
 | none=>T
def WK (b:Bool):AV→Bool
 | .bool c=>c==b
 | _=>false
def iq (all:List Oper) (T:Nat→AV) (V:Nat→Bool) (o:Oper):Bool:=match o.guard with
 | none=>true
 | some (j,b)=>match JK all j with
  | some d=>V d&&WK b (T d)
  | none=>false
def jo (all:List Oper) (T:Nat→AV) (o:Oper):Prop:=match o.guard with
 | none=>True
 | some (j,_)=>∃d c,JK all j=some d∧T d=.bool c
def Tr (cfg:qm) (Sp:j3) (all:List Oper) (nx:Nat):List Oper→Nat→(Nat→AV)→(Nat→Bool)→(Nat→Option bJ)→List TE→Prop
 | [],_,_,_,_,[]=>True
 | o::rest,i,T,V,H,e::tr=>jo all T o∧e.ex=iq all T V o∧(e.ex=true→dx Sp H (dO cfg (nx+stride*i) o.op (Lb cfg T)) e.v e.ups e.rds)∧(e.ex=false→e.ups=[])∧
   Tr cfg Sp all nx rest (i+1) (iY T o.dst e.v) (iY V o.dst e.ex) (jk H e.ups) tr
 | _,_,_,_,_,_=>False
section
variable {P:Program} {cfg:qm} {cx:Ctx} {N:Nat} {ds:List Deferred}
structure r9 (N:Nat) (ds:List Deferred) (T:Nat→AV) (V:Nat→Bool) (a:Act) (w:World) (I:Nat→Prop) (O:OM) (D:Nat→Prop):Prop where
 defers:a.defers=ds
 size:a.tmps.size=N
 rep:∀t,V t=true→Rep w I O D (T t) (a.tmps.getD t Go.undef)
 gone:∀t,V t=false→a.tmps.getD t Go.undef=Go.undef
theorem dA (tm:Array Value) (d t:Nat) (x:Value) (h:d<tm.size):(tm.setIfInBounds d x).getD t Go.undef=if t=d then x else tm.getD t Go.undef:=by
 by_cases e:t=d
 ·subst e; simp [h]
 ·rw [if_neg e];have:d≠t:=fun h=>e h.symm;simp [Array.getElem?_setIfInBounds_ne this]
theorem r9.put {T:Nat→AV} {V:Nat→Bool} {a:Act} {w w':World} {I I':Nat→Prop} {O O':OM} {D D':Nat→Prop} (h:r9 N ds T V a w I O D) (keep:∀u y,Rep w I O D u y→Rep w' I' O' D' u y) (d:Option Nat) (hd:∀k,d=some k→k<N)
  (v:AV) (x:Value) (ex:Bool) (hx:ex=true→Rep w' I' O' D' v x) (hx':ex=false→x=Go.undef):r9 N ds (iY T d v) (iY V d ex) (a.put d x) w' I' O' D':=by
 cases d with
 | none=>exact ⟨h.defers,h.size,fun t ht=>keep _ _ (h.rep t ht),h.gone⟩
 | some k=>
  have hk:=hd k rfl;have hs:=h.size;refine ⟨h.defers,by simp [Act.put,hs],fun t ht=>?_,fun t ht=>?_⟩
  ·show Rep _ _ _ _ (if t=k then v else T t) ((a.tmps.setIfInBounds k x).getD t Go.undef);rw [dA _ _ _ _ (by omega)];simp only [iY] at ht;by_cases e:t=k
   ·rw [if_pos e,if_pos e]; exact hx (by simpa [e] using ht)
   ·rw [if_neg e,if_neg e]; exact keep _ _ (h.rep t (by simpa [e] using ht))
  ·show (a.tmps.setIfInBounds k x).getD t Go.undef=_;rw [dA _ _ _ _ (by omega)];simp only [iY] at ht;by_cases e:t=k
   ·rw [if_pos e]; exact hx' (by simpa [e] using ht)
   ·rw [if_neg e]; exact h.gone t (by simpa [e] using ht)
theorem oq {H:Nat→Option bJ} {D:Nat→Prop} {w:World} {I:Nat→Prop} {O:OM} {T:Nat→AV} {V:Nat→Bool} {a:Act} (hR:Rel cfg cx H D w I O) (hT:r9 N ds T V a w I O D) (x:Operand) (hv:∀t,x=.tmp t→V t=true):Rep w I O D (Lb cfg T x) (a.eval x):=by
 cases x with
 | tmp t=>exact hT.rep t (hv t rfl)
 | const c=>exact R8 c
 | global g=>
  simp only [Lb,Act.eval];cases hg:look cfg.glob g with
  | some cs=>exact .pure (hR.glob g cs hg)
  | none=>exact .pure (.undef _)
 | func f=>exact .pure (.fn (by simp) (fun j hj=>by simp at hj))
def wV (T:Nat→AV) (V:Nat→Bool) (op:Op):Prop:=match op with
 | .pick c x y=>(∀t,c=.tmp t→V t=true)∧(rhoB T c=some true→∀t,x=.tmp t→V t=true)∧(rhoB T c=some false→∀t,y=.tmp t→V t=true)
 | op=>∀t,Operand.tmp t∈op.operands.toList→V t=true
 where rhoB (T:Nat→AV):Operand→Option Bool
 | .tmp t=>match T t with | .bool b=>some b | _=>none
 | .const (.bool b)=>some b
 | _=>none
theorem Pf {k:Value} {b:Bool} (h:ofConst k=.bool b):k=.bool b:=by
 unfold ofConst at h;split at h<;>first | (cases h; rfl) | cases h
theorem WL {H:Nat→Option bJ} {D:Nat→Prop} {w:World} {I:Nat→Prop} {O:OM} {T:Nat→AV} {V:Nat→Bool} {a:Act} (hR:Rel cfg cx H D w I O) (hT:r9 N ds T V a w I O D) {op:Op} (h:wV T V op):Zn w I O D a (Lb cfg T) op:=by
 have hb:∀(c:Operand) (b:Bool),Lb cfg T c=.bool b→wV.rhoB T c=some b:=by
  intro c b e;cases c with
  | tmp t=>simp only [Lb] at e; simp [wV.rhoB,e]
  | const k=>simp only [Lb] at e; rw [Pf e]; rfl
  | global g=>simp only [Lb] at e; split at e<;>cases e
  | func f=>cases e
 cases op with
 | pick c x y=>
  obtain ⟨h1,h2,h3⟩:=h;exact ⟨oq hR hT c h1,fun b e e'=>oq hR hT x (h2 (by rw [hb c b e,e'])),fun b e e'=>oq hR hT y (h3 (by rw [hb c b e,e']))⟩
 | _=>exact fun x hx=>oq hR hT x (fun t e=>h t (e ▸ hx))
theorem U0 (hc:dY P cfg) {H:Nat→Option bJ} {D:Nat→Prop} {w:World} {I:Nat→Prop} {O:OM} {T:Nat→AV} {V:Nat→Bool} {a:Act} {nid:Nat} {o:Oper} {v:AV} {ups:iI} {rds:List Nat}
  (hR:Rel cfg cx H D w I O) (hT:r9 N ds T V a w I O D) (hn:Ll D nid) (hval:wV T V o.op) (hd:∀k,o.dst=some k→k<N) (hev:dx (Spec P cfg) H (dO cfg nid o.op (Lb cfg T)) v ups rds)
  {next:Act→World→Prop} {Q:Exit→Act→World→Prop} (hnx:∀a' w' I' O',Rel cfg cx (jk H ups) (vM D nid) w' I' O'→r9 N ds (iY T o.dst v) (iY V o.dst true) a' w' I' O' (vM D nid)→next a' w'):o.wp P a w next Q:=by
 refine WJ hc hR hn (fun _=>rfl) (WL hR hT hval) hev next Q fun x w' I' O' hR' hk hv=>hnx _ w' I' O' hR' (hT.put hk o.dst hd v x true (fun _=>hv) (fun h=>by cases h))
theorem LH (l:List Oper) (j:Nat):NQ l j=l[j]? := by
 induction l generalizing j with
 | nil=>rfl
 | cons o l ih=>cases j with
  | zero=>rfl
  | succ j=>simpa [NQ] using ih j
theorem U1 {D:Nat→Prop} {w:World} {I:Nat→Prop} {O:OM} {T:Nat→AV} {V:Nat→Bool} {a:Act} {ops:Array Oper} (hT:r9 N ds T V a w I O D) (o:Oper) (hg:jo ops.toList T o):Region.wanted o (yielded ops a.tmps)=iq ops.toList T V o:=by
 unfold Region.wanted iq;unfold jo at hg;cases hgu:o.guard with
 | none=>rfl
 | some g=>
  obtain ⟨j,b⟩:=g;rw [hgu] at hg;simp only at hg;obtain ⟨d,c,h1,h2⟩:=hg;simp only [h1,h2,WK];have hd:((ops[j]?).bind (·.dst))=some d:=by
   unfold JK at h1;rw [LH] at h1;have e:ops.toList[j]? = ops[j]? := by simp
   rw [e] at h1;cases ho:ops[j]? with
   | none=>rw [ho] at h1; cases h1
   | some o'=>rw [ho] at h1; simpa using h1
  have hy:yielded ops a.tmps j=if V d then some c else none:=by
   unfold yielded;rw [hd];simp only [Option.bind_some];cases hv:V d with
   | true=>
    have:=hT.rep d hv;rw [h2] at this;have hx:=this.iP;rcases Nat.lt_or_ge d a.tmps.size with hlt | hge
    ·simp [hlt] at hx; simp [hlt,hx]
    ·simp [Array.getElem?_eq_none hge,Go.undef] at hx
   | false=>
    have:=hT.gone d hv;rcases Nat.lt_or_ge d a.tmps.size with hlt | hge
    ·simp [hlt] at this; simp [hlt,this,Go.undef]
    ·simp [Array.getElem?_eq_none hge]
  rw [hy];cases V d<;>simp
theorem II (t:Nat):∀(l:List Oper) (i k:Nat),k∈og t l i↔∃o,i≤k∧l[k - i]? = some o∧o.dst=some t:=by
 intro l;induction l with
 | nil=>intro i k; simp [og]
 | cons o l ih=>
  intro i k;have hd:Ua o.dst t=true↔o.dst=some t:=by
   unfold Ua;cases o.dst with
   | none=>simp
   | some x=>simp
  unfold og;cases hb:Ua o.dst t with
  | true=>
   simp only [List.mem_cons,ih];constructor
   ·rintro (h | ⟨o',h1,h2,h3⟩)
    ·subst h; exact ⟨o,Nat.le_refl _,by simp,hd.1 hb⟩
    ·refine ⟨o',by omega,?_,h3⟩;have:k - i=(k - (i+1))+1:=by omega
     rw [this]; simpa using h2
   ·rintro ⟨o',h1,h2,h3⟩;by_cases hk:k=i
    ·exact .inl hk
    ·refine .inr ⟨o',by omega,?_,h3⟩;have:k - i=(k - (i+1))+1:=by omega
     rw [this] at h2; simpa using h2
  | false=>
   simp only [ih];constructor
   ·rintro ⟨o',h1,h2,h3⟩;refine ⟨o',by omega,?_,h3⟩;have:k - i=(k - (i+1))+1:=by omega
    rw [this]; simpa using h2
   ·rintro ⟨o',h1,h2,h3⟩;by_cases hk:k=i
    ·subst hk;simp at h2;subst h2;rw [hd.2 h3] at hb;cases hb
    ·refine ⟨o',by omega,?_,h3⟩;have:k - i=(k - (i+1))+1:=by omega
     rw [this] at h2; simpa using h2
theorem oV (all:List Oper) (t k:Nat):k∈writers all t↔∃o,all[k]? = some o∧o.dst=some t:=by
 unfold writers;rw [II];simp
structure Known (all:List Oper) (k:Nat) (T:Nat→AV) (V:Nat→Bool) (ex:Nat→Bool) (val:Nat→AV):Prop where
 one:∀i t,i<k→writers all t=[i]→V t=ex i∧T t=val i
 free:∀t,(∀i,i<k→i∈writers all t→Lc all i=none)→V t=true
 guard:∀i j b,i<k→Lc all i=some (j,b)→j<i∧ex i=(ex j&&WK b (val j))
theorem Known.chain {all:List Oper} {k:Nat} {T:Nat→AV} {V:Nat→Bool} {ex:Nat→Bool} {val:Nat→AV} (hK:Known all k T V ex val):∀(f:Nat) (g:Option (Nat×Bool)),(∀j b,g=some (j,b)→j<k∧ex j=true∧WK b (val j)=true)→
  ∀j b,Yc j b (Ab.chain all f g)=true→j<k∧ex j=true∧WK b (val j)=true:=by
 intro f;induction f with
 | zero=>intro g _ j b h; cases h
 | succ f ih=>
  intro g hg j b h;cases g with
  | none=>cases h
  | some g=>
   obtain ⟨j',b'⟩:=g;obtain ⟨h1,h2,h3⟩:=hg j' b' rfl;simp only [Ab.chain,Yc] at h;split at h
   ·rename_i e1 e2;have e1:=Nat.eq_of_beq_eq_true e1;subst e1;have:b=b':=by cases b<;>cases b'<;>simp [eqB] at e2<;>rfl
    subst this;exact ⟨h1,h2,h3⟩
   ·refine ih _ (fun j2 b2 e=>?_) j b h;obtain ⟨q1,q2⟩:=hK.guard j' j2 b2 h1 e;rw [h2] at q2;simp at q2;exact ⟨by omega,q2.1,q2.2⟩
theorem Ph {all:List Oper} {l:List Nat} (h:KM all l=true):∀i∈l,Lc all i=none:=by
 induction l with
 | nil=>intro i hi; cases hi
 | cons x l ih=>
  intro i hi;unfold KM at h;cases hg:Lc all x with
  | some g=>simp [hg] at h
  | none=>
   simp only [hg] at h;rcases List.mem_cons.1 hi with e | e
   ·subst e; exact hg
   ·exact ih h i e
theorem GJ {all:List Oper} {k:Nat} {T:Nat→AV} {V:Nat→Bool} {ex:Nat→Bool} {val:Nat→AV} (hK:Known all k T V ex val) {g:Option (Nat×Bool)} (hg:∀j b,g=some (j,b)→j<k∧ex j=true∧WK b (val j)=true) {t:Nat} (h:OV all k g t=true):V t=true:=by
 unfold OV at h;split at h
 ·rename_i i hw;cases hgi:Lc all i with
  | none=>exact hK.free t fun i' _ hi'=>by rw [hw] at hi'; simp at hi'; subst hi'; exact hgi
  | some q=>
   obtain ⟨j,b⟩:=q;simp only [hgi] at h;cases hlt:Nat.blt i k with
   | false=>simp [hlt] at h
   | true=>
    simp only [hlt] at h;have hik:i<k:=by simpa using hlt
    obtain ⟨h1,h2,h3⟩:=hK.chain 20 g hg j b h;rw [(hK.one i t hik hw).1,(hK.guard i j b hik hgi).2,h2,h3];rfl
 ·exact hK.free t fun i _ hi=>Ph h i hi
end
end Go.Ab

namespace Go.Ab
section
variable {P:Program} {cfg:qm} {cx:Ctx} {N:Nat}
theorem FU {N:Nat} {all:List Oper}:∀(l:List Oper) (i:Nat),l5 N all l i=true→∀k o,l[k]? = some o→Qc all (i+k) o=true∧∀d,o.dst=some d→d<N:=by
 intro l;induction l with
 | nil=>intro i _ k o h; simp at h
 | cons x l ih=>
  intro i h k o hk;unfold l5 at h;split at h
  ·rename_i h1 h2;cases k with
   | zero=>
    simp at hk;subst hk;refine ⟨h1,fun d hd=>?_⟩;rw [hd] at h2;simpa using h2
   | succ k=>
    have:=ih (i+1) h k o (by simpa using hk);rwa [Nat.add_assoc,Nat.add_comm 1 k] at this
  ·cases h
theorem JR {all:List Oper} {k:Nat} {T:Nat→AV} {V:Nat→Bool} {ex:Nat→Bool} {val:Nat→AV} (hK:Known all k T V ex val) {o:Oper} (hok:Qc all k o=true):
  (iq all T V o=true→∀j b,o.guard=some (j,b)→j<k∧ex j=true∧WK b (val j)=true)∧(∀j b,o.guard=some (j,b)→j<k∧iq all T V o=(ex j&&WK b (val j))):=by
 have key:∀j b,o.guard=some (j,b)→j<k∧iq all T V o=(ex j&&WK b (val j)):=by
  intro j b hg;unfold Qc at hok;rw [hg] at hok;simp only at hok;split at hok
  ·rename_i h1;split at h1
   ·rename_i hlt;split at h1
    ·rename_i d hd;split at h1
     ·rename_i j' hw;have hjk:j<k:=by simpa using hlt
      have e:=Nat.eq_of_beq_eq_true h1;subst e;refine ⟨hjk,?_⟩;obtain ⟨q1,q2⟩:=hK.one j' d hjk hw;unfold iq;rw [hg];simp only [hd];rw [q1,q2]
     ·cases h1
    ·cases h1
   ·cases h1
  ·cases hok
 refine ⟨fun h j b hg=>?_,key⟩;obtain ⟨h1,h2⟩:=key j b hg;rw [h] at h2;have:=h2.symm;simp at this;exact ⟨h1,this.1,this.2⟩
theorem SG {all:List Oper} {k:Nat} {T:Nat→AV} {V:Nat→Bool} {ex:Nat→Bool} {val:Nat→AV} (hK:Known all k T V ex val) {o:Oper} (hok:Qc all k o=true) (hg:iq all T V o=true):wV T V o.op:=by
 have hgs:=(JR hK hok).1 hg;have hopd:∀x,Ee all k o.guard x=true→∀t,x=.tmp t→V t=true:=by
  intro x h t e;subst e;exact GJ hK hgs h
 unfold Qc at hok;split at hok
 ·split at hok
  ·rename_i c x y hop;rw [hop];split at hok
   ·rename_i hc hx;have hcv:=hopd c hc;have arm:∀(pol:Bool) (z:Operand),Ub all k o.guard c pol z=true→wV.rhoB T c=some pol→∀t,z=.tmp t→V t=true:=by
     intro pol z hz hb t e;subst e;unfold Ub at hz;simp only at hz;split at hz
     ·rename_i hr;exact GJ hK hgs hr
     ·split at hz
      ·rename_i ct i hwt;split at hz
       ·rename_i j b jc hgi hwc hlt;split at hz
        ·rename_i e1 e2;have e1:=Nat.eq_of_beq_eq_true e1;subst e1;have hik:i<k:=by simpa using hlt
         have hjk:j<k:=by simpa using e2
         obtain ⟨q1,q2⟩:=hK.one i t hik hwt;obtain ⟨q3,q4⟩:=hK.one j ct hjk hwc;have q5:=(hK.guard i j b hik hgi).2;have hbp:b=pol:=by cases b<;>cases pol<;>simp [eqB] at hz<;>rfl
         subst hbp;have hT:T ct=.bool b:=by
          simp only [wV.rhoB] at hb;split at hb
          ·rename_i b' hb'; cases hb; exact hb'
          ·cases hb
         rw [q1,q5,← q3,hcv ct rfl,← q4,hT];simp [WK]
        ·cases hz
       ·cases hz
      ·cases hz
    exact ⟨hcv,arm true x hx,arm false y hok⟩
   ·cases hok
  ·rename_i hnp;have hall:∀(l:List Operand),zP all k o.guard l=true→∀x∈l,Ee all k o.guard x=true:=by
    intro l;induction l with
    | nil=>intro _ x hx; cases hx
    | cons y l ih=>
     intro h x hx;unfold zP at h;split at h
     ·rename_i hy;rcases List.mem_cons.1 hx with e | e
      ·subst e; exact hy
      ·exact ih h x e
     ·cases h
   have main:∀t,Operand.tmp t∈o.op.operands.toList→V t=true:=fun t ht=>hopd _ (hall _ hok _ ht) t rfl;unfold wV;split
   ·rename_i c x y hop;exact absurd hop (hnp c x y)
   ·exact main
 ·cases hok
theorem Known.step {all:List Oper} {k:Nat} {T:Nat→AV} {V:Nat→Bool} {ex:Nat→Bool} {val:Nat→AV} (hK:Known all k T V ex val) {o:Oper} (hk:all[k]? = some o) (hok:Qc all k o=true) (e:TE) (he:e.ex=iq all T V o):
  Known all (k+1) (iY T o.dst e.v) (iY V o.dst e.ex) (fun i=>if i=k then e.ex else ex i) (fun i=>if i=k then e.v else val i):=by
 have hgl:Lc all k=o.guard:=by unfold Lc; rw [LH,hk]
 have upd:∀ {α:Type} (F:Nat→α) (x:α) (t:Nat),iY F o.dst x t=if o.dst=some t then x else F t:=by
  intro α F x t;unfold iY;cases hd:o.dst with
  | none=>simp
  | some d=>
   by_cases h:t=d
   ·subst h; simp
   ·have:¬ d=t:=fun e=>h e.symm;simp [h,this]
 refine ⟨fun i t hi hw=>?_,fun t ht=>?_,fun i j b hi hg=>?_⟩
 ·rw [upd,upd];by_cases hik:i=k
  ·subst hik;have:i∈writers all t:=by rw [hw]; simp
   obtain ⟨o',h1,h2⟩:=(oV all t i).1 this;rw [hk] at h1;cases h1;simp [h2]
  ·have hne:¬ o.dst=some t:=fun h=>by
    have:k∈writers all t:=(oV all t k).2 ⟨o,hk,h⟩;rw [hw] at this;simp at this;omega
   simp only [if_neg hne,if_neg hik];exact hK.one i t (by omega) hw
 ·rw [upd];by_cases hd:o.dst=some t
  ·rw [if_pos hd,he];have:=ht k (by omega) ((oV all t k).2 ⟨o,hk,hd⟩);rw [hgl] at this;unfold iq;rw [this]
  ·rw [if_neg hd];exact hK.free t fun i hi hw=>ht i (by omega) hw
 ·by_cases hik:i=k
  ·subst hik;rw [hgl] at hg;obtain ⟨h1,h2⟩:=(JR hK hok).2 j b hg;refine ⟨h1,?_⟩;rw [if_pos rfl,if_neg (by omega),if_neg (by omega),he,h2]
  ·obtain ⟨h1,h2⟩:=hK.guard i j b (by omega) hg;refine ⟨h1,?_⟩;rw [if_neg hik,if_neg (by omega),if_neg (by omega),h2]
section sel
variable {α:Type} (wr:Nat→Nat→Bool) (g:Nat→Nat→α)
def sel (p:Nat→Bool):Nat→(Nat→α)→Nat→α
 | 0,F,t=>F t
 | m+1,F,t=>if p m&&wr m t then g m t else sel p m F t
theorem LJ (p:Nat→Bool) (m:Nat) (F:Nat→α) (t:Nat):sel wr g p (m+1) F t=if p m&&wr m t then g m t else sel wr g p m F t:=rfl
theorem yL (p q:Nat→Bool) (F:Nat→α) (t:Nat):∀m,(∀k,k<m→wr k t=true→p k=q k)→sel wr g p m F t=sel wr g q m F t:=by
 intro m;induction m with
 | zero=>intro _; rfl
 | succ m ih=>
  intro h;unfold sel;rw [ih fun k hk=>h k (by omega)];cases hw:wr m t with
  | false=>simp
  | true=>rw [h m (by omega) hw]
theorem l7 (F:Nat→α) (t k:Nat):∀m,k≤m→sel wr g (fun j=>decide (j<k)) m F t=sel wr g (fun _=>true) k F t:=by
 intro m;induction m with
 | zero=>
  intro h; have:k=0:=by omega
  subst this; rfl
 | succ m ih=>
  intro h;by_cases hk:k=m+1
  ·subst hk;exact yL wr g _ _ F t _ fun j hj _=>by simp [hj]
  ·rw [LJ,ih (by omega)];simp [show ¬ m<k by omega]
theorem Pj (p:Nat→Bool) (F:Nat→α) (t i:Nat) (hi:wr i t=true→∀k,i<k→p k=true→wr k t=false):∀m,i<m→sel wr g (fun j=>p j||decide (j=i)) m F t=if wr i t then g i t else sel wr g p m F t:=by
 intro m;induction m with
 | zero=>intro h; omega
 | succ m ih=>
  intro h;by_cases him:i=m
  ·subst him;unfold sel;have e:sel wr g (fun j=>p j||decide (j=i)) i F t=sel wr g p i F t:=yL wr g _ _ F t _ fun j hj _=>by simp [show ¬ j=i by omega]
   rw [e];cases hw:wr i t with
   | true=>simp
   | false=>simp
  ·have:=ih (by omega);unfold sel;rw [this];cases hw:wr i t with
   | true=>
    have hne:¬ m=i:=fun e=>him e.symm;simp only [hne,decide_false,Bool.or_false,if_true];cases hp:p m with
    | false=>simp
    | true=>simp [hi hw m (by omega) hp]
   | false=>
    have hne:¬ m=i:=fun e=>him e.symm;simp [hne]
end sel
end
end Go.Ab

namespace Go.Ab
section
variable {P:Program} {cfg:qm} {cx:Ctx} {N:Nat} {ds:List Deferred}
def Uf (all:List Oper) (k t:Nat):Bool:=match all[k]? with
 | some o=>decide (o.dst=some t)
 | none=>false
def VN (ent:Nat→TE) (k o:Nat):Bool:=(look (ent k).ups o).isSome
def gH (ent:Nat→TE) (k o:Nat):Option bJ:=match look (ent k).ups o with
 | some x=>x
 | none=>none
def yM (all:List Oper) (ent:Nat→TE) (p:Nat→Bool) (m:Nat) (T0:Nat→AV):Nat→AV:=sel (Uf all) (fun k _=>(ent k).v) p m T0
def ED (all:List Oper) (ent:Nat→TE) (p:Nat→Bool) (m:Nat):Nat→Bool:=sel (Uf all) (fun k _=>(ent k).ex) p m (fun _=>true)
def Gr (ent:Nat→TE) (p:Nat→Bool) (m:Nat) (H0:Nat→Option bJ):Nat→Option bJ:=sel (VN ent) (gH ent) p m H0
def yes:Nat→Bool:=fun _=>true
def Zo (cfg:qm) (Sp:j3) (all:List Oper) (nx:Nat) (T0:Nat→AV) (H0:Nat→Option bJ) (ent:Nat→TE):Prop:=
 ∀k o,all[k]? = some o→jo all (yM all ent yes k T0) o∧(ent k).ex=iq all (yM all ent yes k T0) (ED all ent yes k) o∧
  ((ent k).ex=true→dx Sp (Gr ent yes k H0) (dO cfg (nx+stride*k) o.op (Lb cfg (yM all ent yes k T0))) (ent k).v (ent k).ups (ent k).rds)∧((ent k).ex=false→(ent k).ups=[])
theorem Ej {α:Type} {all:List Oper} {o:Oper} {k:Nat} (hk:all[k]? = some o) (g:Nat→Nat→α) (p:Nat→Bool) (hp:p k=true) (F:Nat→α) (v:α) (hg:∀t,g k t=v):iY (sel (Uf all) g p k F) o.dst v=sel (Uf all) g p (k+1) F:=by
 funext t;have hw:Uf all k t=decide (o.dst=some t):=by unfold Uf; rw [hk]
 rw [LJ,hp,hg,hw];cases hd:o.dst with
 | none=>simp [iY]
 | some d=>
  by_cases h:t=d
  ·subst h; simp [iY]
  ·have:¬ d=t:=fun e=>h e.symm;simp [iY,h,this]
theorem Qv {ent:Nat→TE} {k:Nat} (p:Nat→Bool) (hp:p k=true) (H:Nat→Option bJ):jk (sel (VN ent) (gH ent) p k H) (ent k).ups=sel (VN ent) (gH ent) p (k+1) H:=by
 funext o;have hw:VN ent k o=(look (ent k).ups o).isSome:=rfl;have hg:gH ent k o=match look (ent k).ups o with | some x=>x | none=>none:=rfl
 rw [LJ,hp,hw,hg];unfold jk;cases look (ent k).ups o<;>simp
theorem Zo.Yu {Sp:j3} {all:List Oper} {nx:Nat} {T0:Nat→AV} {H0:Nat→Option bJ} {ent:Nat→TE}:∀(rest:List Oper) (i:Nat) (tr:List TE),(∀j,rest[j]? = all[i+j]?)→(∀j e,tr[j]? = some e→ent (i+j)=e)→
  Tr cfg Sp all nx rest i (yM all ent yes i T0) (ED all ent yes i) (Gr ent yes i H0) tr→∀k o,i≤k→all[k]? = some o→jo all (yM all ent yes k T0) o∧(ent k).ex=iq all (yM all ent yes k T0) (ED all ent yes k) o∧
  ((ent k).ex=true→dx Sp (Gr ent yes k H0) (dO cfg (nx+stride*k) o.op (Lb cfg (yM all ent yes k T0))) (ent k).v (ent k).ups (ent k).rds)∧((ent k).ex=false→(ent k).ups=[]):=by
 intro rest;induction rest with
 | nil=>
  intro i tr hr _ _ k o hik hk;have:=hr (k - i);rw [show i+(k - i)=k by omega,hk] at this;simp at this
 | cons x rest ih=>
  intro i tr hr he h k o hik hk;cases tr with
  | nil=>exact h.elim
  | cons e tr=>
   obtain ⟨h1,h2,h3,h4,h5⟩:=h;have hx:all[i]? = some x:=by simpa using (hr 0).symm
   have he0:ent i=e:=by simpa using he 0 e rfl
   by_cases hki:k=i
   ·subst hki;rw [hx] at hk;cases hk;subst he0;exact ⟨h1,h2,h3,h4⟩
   ·subst he0;have e1:iY (yM all ent yes i T0) x.dst (ent i).v=yM all ent yes (i+1) T0:=Ej hx _ yes rfl T0 _ fun _=>rfl;have e2:iY (ED all ent yes i) x.dst (ent i).ex=ED all ent yes (i+1):=Ej hx _ yes rfl _ _ fun _=>rfl;have e3:jk (Gr ent yes i H0) (ent i).ups=Gr ent yes (i+1) H0:=Qv yes rfl H0;rw [e1,e2,e3] at h5;refine ih (i+1) tr (fun j=>?_) (fun j e' hj=>?_) h5 k o (by omega) hk
    ·have:=hr (j+1);rw [show i+(j+1)=i+1+j by omega] at this;simpa using this
    ·have:=he (j+1) e' (by simpa using hj);rwa [show i+(j+1)=i+1+j by omega] at this
theorem Zo.known {Sp:j3} {all:List Oper} {nx:Nat} {T0:Nat→AV} {H0:Nat→Option bJ} {ent:Nat→TE} (h:Zo cfg Sp all nx T0 H0 ent) {N:Nat} (hok:l5 N all all 0=true):∀k,k≤all.length→Known all k (yM all ent yes k T0) (ED all ent yes k) (fun i=>(ent i).ex) (fun i=>(ent i).v):=by
 intro k;induction k with
 | zero=>exact fun _=>⟨fun i t hi=>by omega,fun t _=>rfl,fun i j b hi=>by omega⟩
 | succ k ih=>
  intro hk;have hlt:k<all.length:=by omega
  have hx:all[k]? = some all[k]:=List.getElem?_eq_getElem hlt;obtain ⟨h1,h2,_,_⟩:=h k _ hx;have hop:=(FU all 0 hok k _ hx).1;rw [Nat.zero_add] at hop;have:=(ih (by omega)).step hx hop (ent k) h2;have e1:iY (yM all ent yes k T0) (all[k]).dst (ent k).v=yM all ent yes (k+1) T0:=Ej hx _ yes rfl T0 _ fun _=>rfl;have e2:iY (ED all ent yes k) (all[k]).dst (ent k).ex=ED all ent yes (k+1):=Ej hx _ yes rfl _ _ fun _=>rfl;rw [e1,e2] at this;have e4:(fun i=>if i=k then (ent k).ex else (ent i).ex)=fun i=>(ent i).ex:=by
   funext i;by_cases hi:i=k<;>simp [hi]
  have e5:(fun i=>if i=k then (ent k).v else (ent i).v)=fun i=>(ent i).v:=by
   funext i;by_cases hi:i=k<;>simp [hi]
  rw [e4,e5] at this;exact this
def Dat (nx m:Nat) (p:Nat→Bool):Nat→Prop:=fun o=>o<nx∨∃k,k<m∧p k=true∧nx+stride*k≤o∧o<nx+stride*k+stride
theorem Rel.yN {H:Nat→Option bJ} {D D':Nat→Prop} {w:World} {I:Nat→Prop} {O:OM} (h:∀o,D o→D' o) (hR:Rel cfg cx H D w I O):Rel cfg cx H D' w I O:=
 { hR with
  used:=fun o p hp=>h o (hR.used o p hp)
  objs:=fun o ob p h1 h2=>(hR.objs o ob p h1 h2).mono (fun _ h=>h) (fun _ _=>rfl) (fun _ _=>.inl rfl) h hR.used (fun _ _ _ _=>rfl)
  Dm:=fun o ho=>h o (hR.Dm o ho) }
theorem r9.yN {H:Nat→Option bJ} {D D':Nat→Prop} {w:World} {I:Nat→Prop} {O:OM} {T:Nat→AV} {V:Nat→Bool} {a:Act} (h:∀o,D o→D' o) (hR:Rel cfg cx H D w I O) (hT:r9 N ds T V a w I O D):r9 N ds T V a w I O D':=
 ⟨hT.defers,hT.size,fun t ht=>(hT.rep t ht).mono (fun _ h=>h) (fun _ _=>rfl) (fun _ _=>.inl rfl) h hR.used,hT.gone⟩
theorem Qw {T T':Nat→AV} {V V':Nat→Bool} {op:Op} (h:∀t,Operand.tmp t∈op.operands.toList→T' t=T t∧V' t=V t) (hv:wV T V op):wV T' V' op:=by
 cases op with
 | pick c x y=>
  obtain ⟨h1,h2,h3⟩:=hv;have hc:wV.rhoB T' c=wV.rhoB T c:=by
   cases c with
   | tmp t=>simp only [wV.rhoB]; rw [(h t (by simp [Op.operands])).1]
   | const k=>cases k<;>rfl
   | _=>rfl
  refine ⟨fun t e=>?_,fun hb t e=>?_,fun hb t e=>?_⟩
  ·rw [(h t (by subst e; simp [Op.operands])).2]; exact h1 t e
  ·rw [(h t (by subst e; simp [Op.operands])).2]; rw [hc] at hb; exact h2 hb t e
  ·rw [(h t (by subst e; simp [Op.operands])).2]; rw [hc] at hb; exact h3 hb t e
 | _=>exact fun t ht=>by rw [(h t ht).2]; exact hv t ht
theorem dx.ZJ {Sp:j3} {H H':Nat→Option bJ} {pg:Pg} {v:AV} {ups:iI} {r:List Nat} (h:dx Sp H pg v ups r):(∀o,o∈r→H' o=H o)→dx Sp H' pg v ups r:=by
 induction h with
 | ret v ups=>exact fun _=>.ret v ups
 | need hp _ ih=>exact fun hr=>.need hp (ih hr)
 | rd ho _ ih=>exact fun hr=>.rd ((hr _ (by simp)).trans ho) (ih fun o ho=>hr o (List.mem_cons_of_mem _ ho))
 | call hs _ ih=>exact fun hr=>.call hs (ih hr)
theorem SH {nid:Nat} {op:Op} {ρ ρ':Operand→AV} (h:∀x∈op.operands.toList,ρ' x=ρ x):dO cfg nid op ρ'=dO cfg nid op ρ:=by
 have pairs:∀ps:List (Nat×Operand),(∀p∈ps,ρ' p.2=ρ p.2)→(ps.map fun p=>(p.1,ρ' p.2))=ps.map fun p=>(p.1,ρ p.2):=fun ps hp=>List.map_congr_left fun p hm=>by rw [hp p hm]
 cases op with
 | move x=>simp only [dO]; rw [h x (by simp [Op.operands])]
 | assign x=>simp only [dO]; rw [h x (by simp [Op.operands])]
 | pick c x y=>simp only [dO]; rw [h x (by simp [Op.operands]),h y (by simp [Op.operands]),h c (by simp [Op.operands])]
 | box t x=>simp only [dO]; rw [h x (by simp [Op.operands])]
 | build t parts=>simp only [dO]; rw [pairs parts.toList fun p hp=>h p.2 (by simp only [Op.operands,List.mem_map]; exact ⟨p,hp,rfl⟩)]
 | buildSlice t len parts=>simp only [dO]; rw [pairs parts.toList fun p hp=>h p.2 (by simp only [Op.operands,List.mem_map]; exact ⟨p,hp,rfl⟩)]
 | load t x=>simp only [dO]; rw [h x (by simp [Op.operands])]
 | store t x y=>simp only [dO]; rw [h x (by simp [Op.operands]),h y (by simp [Op.operands])]
 | nilCheck x=>simp only [dO]; rw [h x (by simp [Op.operands])]
 | binOp op t x y t'=>simp only [dO]; rw [h x (by simp [Op.operands]),h y (by simp [Op.operands])]
 | unOp op t x=>simp only [dO]; rw [h x (by simp [Op.operands])]
 | convert s d x=>simp only [dO]; rw [h x (by simp [Op.operands])]
 | makeFunc fn first cap=>
  simp only [dO];have:cap.toList.map ρ'=cap.toList.map ρ:=List.map_congr_left fun x hx=>h x (by simp only [Op.operands,Array.toList_append,List.mem_append]; exact .inr hx);rw [this]
 | makeSlice t l c=>simp only [dO]; rw [h l (by simp [Op.operands])]
 | slice t x lo hi mx=>
  have h1:lo.map ρ'=lo.map ρ:=by
   cases lo with
   | none=>rfl
   | some y=>simp only [Option.map_some]; rw [h y (by simp [Op.operands])]
  have h2:hi.map ρ'=hi.map ρ:=by
   cases hi with
   | none=>rfl
   | some y=>simp only [Option.map_some]; rw [h y (by simp [Op.operands])]
  have h3:∀k,UE ρ' hi mx k=UE ρ hi mx k:=fun k=>by
   unfold UE;cases mx with
   | none=>rfl
   | some m=>cases hi with
    | none=>rfl
    | some y=>
     simp only
     rw [h y (by simp [Op.operands]),h m (by simp [Op.operands])]
  have h4:mx.map ρ'=mx.map ρ:=by
   cases mx with
   | none=>rfl
   | some y=>simp only [Option.map_some]; rw [h y (by simp [Op.operands])]
  simp only [dO];rw [h x (by simp [Op.operands]),h1,h2,h4];simp only [h3]
 | fieldAddr s x f=>simp only [dO]; rw [h x (by simp [Op.operands])]
 | field s x f=>simp only [dO]; rw [h x (by simp [Op.operands])]
 | indexAddr t x ix=>simp only [dO]; rw [h x (by simp [Op.operands]),h ix (by simp [Op.operands])]
 | extract t i=>simp only [dO]; rw [h t (by simp [Op.operands])]
 | index t x ix=>simp only [dO]; rw [h x (by simp [Op.operands]),h ix (by simp [Op.operands])]
 | makeMap t r=>cases r<;>rfl
 | lookup t x ix ok=>
  cases ok with
  | false=>simp only [dO]; rw [h x (by simp [Op.operands]),h ix (by simp [Op.operands])]
  | true=>rfl
 | mapUpdate t x ix y=>simp only [dO]; rw [h x (by simp [Op.operands]),h ix (by simp [Op.operands]),h y (by simp [Op.operands])]
 | call c=>
  have h1:c.args.toList.map ρ'=c.args.toList.map ρ:=List.map_congr_left fun x hx=>h x (by simp only [Op.operands,Call.operands,Array.toList_append,List.mem_append]; exact .inr hx);simp only [dO];rw [h1];cases hc:c.callee with
  | value f=>simp only; rw [h f (by simp [Op.operands,Call.operands,hc])]
  | builtin b=>cases b<;>rfl
  | invoke x m=>rfl
 | _=>rfl
end
end Go.Ab


namespace Go.Ab
section
variable {P:Program} {cfg:qm} {cx:Ctx} {N:Nat} {ds:List Deferred}
def FW (r:Option Nat):Fence:={ Fence.wide with round:=r }
theorem FV {r:Option Nat} {n:Nat} {f:FuncId} {args:Array Value} {w:World} {R:Ending→World→Prop} (h:Calls P f args w R):CallsIn (FW r) n P f args w R:=(callsIn_wide (n:=n)).2 h
theorem U2 {r:Option Nat} {n:Nat} {row:String} {args:Array Value} {w:World} {R:Value→World→Prop} (h:Rows P row args w R):RowsIn (FW r) n P row args w R:=by
 intro c cs _;obtain ⟨v,w',h1,h2⟩:=h c cs;exact ⟨v,w',h1,stepsIn_wide.2 h2⟩
theorem Pk {r:Option Nat} {n:Nat} {o:Oper} {a:Act} {w:World} {K:Act→World→Prop} {Q:Exit→Act→World→Prop} (ho:∀c,o.op≠.defer c) (h:o.wp P a w K Q):o.wpIn (FW r) n P a w K Q:=by
 refine ⟨fun _ _=>trivial,?_⟩;rw [Oper.semAt_eq _ _ _ ho];unfold Oper.wp at h;generalize (execOp a.eval o).run P w=res at h;cases res with
 | ok x w'=>
  cases x with
  | value v=>exact h
  | skip=>exact h
  | defer d=>exact h
  | enter f args=>exact ⟨(fun h=>by cases h),FV h⟩
  | row s args=>exact ⟨(fun h=>by cases h),U2 h⟩
  | _=>exact h.elim
 | halt x w'=>
  cases x with
  | panic v=>exact h
  | _=>exact h.elim
theorem Qx (hc:dY P cfg) {r:Option Nat} {n0:Nat} {ops:Array Oper} {nx:Nat} {T0:Nat→AV} {H0:Nat→Option bJ} {ent:Nat→TE} (htr:Zo cfg (Spec P cfg) ops.toList nx T0 H0 ent) (hok:l5 N ops.toList ops.toList 0=true)
  {p:Nat→Bool} {i:Nat} {o:Oper} (hi:ops[i]? = some o) (hpi:p i=false)
  (hT:∀t,t∈looks ops.toList o→yM ops.toList ent p ops.size T0 t=yM ops.toList ent yes i T0 t∧ED ops.toList ent p ops.size t=ED ops.toList ent yes i t)
  (hH:(ent i).ex=true→∀b,b∈(ent i).rds→Gr ent p ops.size H0 b=Gr ent yes i H0 b)
  (hTa:∀t,Uf ops.toList i t=true→∀k,i<k→p k=true→Uf ops.toList k t=false) (hHa:∀b,VN ent i b=true→∀k,i<k→p k=true→VN ent k b=false)
  {a:Act} {w:World} {I:Nat→Prop} {O:OM} (hR:Rel cfg cx (Gr ent p ops.size H0) (Dat nx ops.size p) w I O) (hTR:r9 N ds (yM ops.toList ent p ops.size T0) (ED ops.toList ent p ops.size) a w I O (Dat nx ops.size p))
  {K:Act→World→Prop} {Q:Exit→Act→World→Prop}
  (hK:∀a' w' I' O',Rel cfg cx (Gr ent (fun j=>p j||decide (j=i)) ops.size H0) (Dat nx ops.size (fun j=>p j||decide (j=i))) w' I' O'→
    r9 N ds (yM ops.toList ent (fun j=>p j||decide (j=i)) ops.size T0) (ED ops.toList ent (fun j=>p j||decide (j=i)) ops.size) a' w' I' O' (Dat nx ops.size (fun j=>p j||decide (j=i)))→K a' w'):
  wpOpIn (FW r) n0 P ops Q i K a w:=by
 have hlt:i<ops.size:=(Array.getElem?_eq_some_iff.1 hi).1;have hil:ops.toList[i]? = some o:=by simpa using hi
 obtain ⟨h1,h2,h3,h4⟩:=htr i o hil;obtain ⟨hop,hdN⟩:=FU ops.toList 0 hok i o hil;rw [Nat.zero_add] at hop;have hKn:=htr.known hok i (by simp; omega);have hTT:∀t,Uf ops.toList i t=decide (o.dst=some t):=fun t=>by unfold Uf; rw [hil]
 have e1:yM ops.toList ent (fun j=>p j||decide (j=i)) ops.size T0=iY (yM ops.toList ent p ops.size T0) o.dst (ent i).v:=by
  funext t;unfold yM;rw [Pj _ _ p T0 t i (hTa t) ops.size hlt,hTT];cases hd:o.dst with
  | none=>simp [iY]
  | some d=>
   by_cases h:t=d
   ·subst h; simp [iY]
   ·have:¬ d=t:=fun e=>h e.symm;simp [iY,h,this]
 have e2:ED ops.toList ent (fun j=>p j||decide (j=i)) ops.size=iY (ED ops.toList ent p ops.size) o.dst (ent i).ex:=by
  funext t;unfold ED;rw [Pj _ _ p _ t i (hTa t) ops.size hlt,hTT];cases hd:o.dst with
  | none=>simp [iY]
  | some d=>
   by_cases h:t=d
   ·subst h; simp [iY]
   ·have:¬ d=t:=fun e=>h e.symm;simp [iY,h,this]
 have e3:Gr ent (fun j=>p j||decide (j=i)) ops.size H0=jk (Gr ent p ops.size H0) (ent i).ups:=by
  funext b;unfold Gr;rw [Pj _ _ p H0 b i (hHa b) ops.size hlt];have hw:VN ent i b=(look (ent i).ups b).isSome:=rfl;have hg:gH ent i b=match look (ent i).ups b with | some x=>x | none=>none:=rfl
  rw [hw,hg];unfold jk;cases look (ent i).ups b<;>simp
 have hD:∀b,vM (Dat nx ops.size p) (nx+stride*i) b→Dat nx ops.size (fun j=>p j||decide (j=i)) b:=by
  rintro b ((h | ⟨k,q1,q2,q3⟩) | h)
  ·exact .inl h
  ·exact .inr ⟨k,q1,by simp [q2],q3⟩
  ·exact .inr ⟨i,hlt,by simp,h⟩
 have hnD:Ll (Dat nx ops.size p) (nx+stride*i):=by
  rintro b hb1 hb2 (h | ⟨k,q1,q2,q3,q4⟩)
  ·omega
  ·have:k=i:=by
    rcases Nat.lt_trichotomy k i with e | e | e
    ·have:=Nat.mul_le_mul_left stride (show k+1≤i from e);rw [Nat.mul_add,Nat.mul_one] at this;omega
    ·exact e
    ·have:=Nat.mul_le_mul_left stride (show i+1≤k from e);rw [Nat.mul_add,Nat.mul_one] at this;omega
   subst this;rw [hpi] at q2;cases q2
 have hseen:jo ops.toList (yM ops.toList ent p ops.size T0) o:=by
  unfold jo at h1 ⊢;cases hg:o.guard with
  | none=>trivial
  | some g=>
   obtain ⟨j,b⟩:=g;rw [hg] at h1;obtain ⟨d,c,q1,q2⟩:=h1;refine ⟨d,c,q1,?_⟩;rw [(hT d (by unfold looks; rw [hg]; simp [q1])).1];exact q2
 have hgon:iq ops.toList (yM ops.toList ent p ops.size T0) (ED ops.toList ent p ops.size) o=(ent i).ex:=by
  rw [h2];unfold iq;cases hg:o.guard with
  | none=>rfl
  | some g=>
   obtain ⟨j,b⟩:=g;simp only;cases hd:JK ops.toList j with
   | none=>rfl
   | some d=>
    simp only;obtain ⟨q1,q2⟩:=hT d (by unfold looks; rw [hg]; simp [hd]);rw [q1,q2]
 unfold wpOpIn;rw [hi];simp only;rw [U1 hTR o hseen,hgon];cases hex:(ent i).ex with
 | true=>
  rw [if_pos rfl];have hnd:∀c,o.op≠.defer c:=fun c hc=>by
   have:=h3 hex;rw [hc] at this;exact (dx.aH this).elim
  refine Pk hnd ?_;have hopr:∀t,Operand.tmp t∈o.op.operands.toList→t∈looks ops.toList o:=fun t ht=>by
   unfold looks;rw [List.mem_append];exact .inl (List.mem_filterMap.2 ⟨.tmp t,ht,rfl⟩)
  have hval:wV (yM ops.toList ent p ops.size T0) (ED ops.toList ent p ops.size) o.op:=
   Qw (fun t ht=>hT t (hopr t ht)) (SG hKn hop (by rw [← h2]; exact hex))
  have hev:dx (Spec P cfg) (Gr ent p ops.size H0) (dO cfg (nx+stride*i) o.op (Lb cfg (yM ops.toList ent p ops.size T0))) (ent i).v (ent i).ups (ent i).rds:=by
   have hcong:dO cfg (nx+stride*i) o.op (Lb cfg (yM ops.toList ent p ops.size T0))=dO cfg (nx+stride*i) o.op (Lb cfg (yM ops.toList ent yes i T0)):=SH fun x hx=>by
    cases x with
    | tmp t=>exact (hT t (hopr t hx)).1
    | _=>rfl
   rw [hcong];exact (h3 hex).ZJ (hH hex)
  refine U0 hc hR hTR hnD hval hdN hev fun a' w' I' O' hR' hT'=>hK a' w' I' O' ?_ ?_
  ·rw [e3]; exact hR'.yN hD
  ·rw [e1,e2,hex]; exact hT'.yN hD hR'
 | false=>
  rw [if_neg (by simp)];have hu:=h4 hex;have hR2:Rel cfg cx (Gr ent (fun j=>p j||decide (j=i)) ops.size H0) (Dat nx ops.size (fun j=>p j||decide (j=i))) w I O:=by
   rw [e3,hu,vN];exact hR.yN fun b h=>hD b (.inl h)
  refine ⟨fun _ _=>trivial,hK _ w I O hR2 ?_⟩;rw [e1,e2,hex];refine r9.put (hTR.yN (fun b h=>hD b (.inl h)) hR) (fun _ _ h=>h) o.dst hdN _ _ false (fun h=>by cases h) (fun _=>rfl)
theorem Qy (hc:dY P cfg) {r:Option Nat} {n0:Nat} {ops:Array Oper} {id nx:Nat} {T0:Nat→AV} {H0:Nat→Option bJ} {ent:Nat→TE} (htr:Zo cfg (Spec P cfg) ops.toList nx T0 H0 ent) (hok:l5 N ops.toList ops.toList 0=true)
  {a:Act} {w:World} {I:Nat→Prop} {O:OM} (hR:Rel cfg cx H0 (fun o=>o<nx) w I O) (hTR:r9 N ds T0 (fun _=>true) a w I O (fun o=>o<nx)) {Q:Exit→Act→World→Prop}
  (hQ:∀a' w' I' O',Rel cfg cx (Gr ent yes ops.size H0) (fun o=>o<nx+stride*ops.size) w' I' O'→r9 N ds (yM ops.toList ent yes ops.size T0) (ED ops.toList ent yes ops.size) a' w' I' O' (fun o=>o<nx+stride*ops.size)→Q .normal a' w'):
  (Code.region id ops false).wpIn (FW r) n0 P Q a w:=by
 refine wpIn_region ?_;have key:∀(n k:Nat),k+n=ops.size→∀(a:Act) (w:World) (I:Nat→Prop) (O:OM),Rel cfg cx (Gr ent (fun j=>decide (j<k)) ops.size H0) (Dat nx ops.size (fun j=>decide (j<k))) w I O→
   r9 N ds (yM ops.toList ent (fun j=>decide (j<k)) ops.size T0) (ED ops.toList ent (fun j=>decide (j<k)) ops.size) a w I O (Dat nx ops.size (fun j=>decide (j<k)))→wpOpsIn (FW r) n0 P ops Q (List.range' k n) a w:=by
  intro n
  induction n with
  | zero=>
   intro k hk a w I O hR hT
   have hkn:k=ops.size:=by omega
   subst hkn
   have e1:Gr ent (fun j=>decide (j<ops.size)) ops.size H0=Gr ent yes ops.size H0:=funext fun t=>l7 _ _ _ t _ _ (Nat.le_refl _)
   have e2:yM ops.toList ent (fun j=>decide (j<ops.size)) ops.size T0=yM ops.toList ent yes ops.size T0:=funext fun t=>l7 _ _ _ t _ _ (Nat.le_refl _)
   have e3:ED ops.toList ent (fun j=>decide (j<ops.size)) ops.size=ED ops.toList ent yes ops.size:=funext fun t=>l7 _ _ _ t _ _ (Nat.le_refl _)
   rw [e1] at hR
   rw [e2,e3] at hT
   have hD:∀o,Dat nx ops.size (fun j=>decide (j<ops.size)) o→o<nx+stride*ops.size:=by
    rintro o (h | ⟨k,q1,_,q3,q4⟩)
    ·omega
    ·have:=Nat.mul_le_mul_left stride (show k+1≤ops.size from q1)
     rw [Nat.mul_add,Nat.mul_one] at this
     omega
   exact hQ a w I O (hR.yN hD) (hT.yN hD hR)
  | succ n ih=>
   intro k hk a w I O hR hT
   have hlt:k<ops.size:=by omega
   rw [List.range'_succ,wpOpsIn_cons]
   have hp:(fun j=>decide (j<k)||decide (j=k))=fun j=>decide (j<k+1):=by
    funext j
    by_cases h1:j<k
    ·simp [h1,show j<k+1 by omega]
    ·by_cases h2:j=k
     ·simp [h2]
     ·simp [h1,h2,show ¬ j<k+1 by omega]
   refine Qx hc htr hok (Array.getElem?_eq_getElem hlt) (p:=fun j=>decide (j<k)) (by simp) (fun t _=>⟨l7 _ _ _ t _ _ (by omega),l7 _ _ _ t _ _ (by omega)⟩) (fun _ b _=>l7 _ _ _ b _ _ (by omega))
    (fun t _ j hj hpj=>by simp at hpj; omega) (fun b _ j hj hpj=>by simp at hpj; omega) hR hT fun a' w' I' O' hR' hT'=>?_
   rw [hp] at hR' hT'
   exact ih (k+1) (by omega) a' w' I' O' hR' hT'
 have e0:∀ {α:Type} (wr:Nat→Nat→Bool) (g:Nat→Nat→α) (F:Nat→α),sel wr g (fun j=>decide (j<0)) ops.size F=F:=fun wr g F=>funext fun t=>l7 wr g F t 0 ops.size (Nat.zero_le _);rw [List.range_eq_range'];refine key ops.size 0 (by omega) a w I O ?_ ?_
 ·unfold Gr;rw [e0];exact hR.yN fun o h=>.inl h
 ·unfold yM ED;rw [e0,e0];exact hTR.yN (fun o h=>.inl h) hR
end
end Go.Ab

namespace Go.Ab
section
variable {P:Program} {cfg:qm} {cx:Ctx} {N:Nat} {ds:List Deferred}
def Closed (ops:Array Oper) (listed:Array Bool):Prop:=∀(j:Nat) (o:Oper),ops[j]? = some o→listed.getD j false=true→∀e∈o.after,Region.binds .any e=true→listed.getD e.on false=true
theorem E8 {ops:Array Oper} {listed:Array Bool} (hcl:Closed ops listed):∀(f i j:Nat),before ops.toList f i j=true→(∀o,ops[j]? = some o→∀e∈o.after,Region.binds .any e=true→listed.getD e.on false=true)→listed.getD i false=true:=by
 intro f;induction f with
 | zero=>intro i j h; cases h
 | succ f ih=>
  intro i j h hj;unfold before at h;rw [LH] at h;cases ho:ops[j]? with
  | none=>rw [show ops.toList[j]? = none by simpa using ho] at h; cases h
  | some o=>
   rw [show ops.toList[j]? = some o by simpa using ho] at h;simp only [List.any_eq_true,Bool.and_eq_true,Bool.or_eq_true] at h;obtain ⟨e,he,⟨hb,_⟩,h2⟩:=h;have hl:=hj o ho e (by simpa using he) hb;rcases h2 with h2 | h2
   ·rw [← Nat.eq_of_beq_eq_true h2]; exact hl
   ·exact ih i e.on h2 fun o' ho'=>hcl e.on o' ho' hl
theorem JU {all:List Oper}:∀(l:List Oper) (i:Nat),Ir all l i=true→∀k o,l[k]? = some o→OW o (i+k)=true∧Co all (i+k) o all 0=true:=by
 intro l;induction l with
 | nil=>intro i _ k o h; simp at h
 | cons x l ih=>
  intro i h k o hk;simp only [Ir,Bool.and_eq_true] at h;cases k with
  | zero=>simp at hk; subst hk; exact h.1
  | succ k=>
   have:=ih (i+1) h.2 k o (by simpa using hk);rwa [Nat.add_assoc,Nat.add_comm 1 k] at this
theorem Nc {all:List Oper} {j:Nat} {oj:Oper}:∀(l:List Oper) (i:Nat),Co all j oj l i=true→∀k o,l[k]? = some o→i+k<j→Ld all o oj=true∨before all 40 (i+k) j=true:=by
 intro l;induction l with
 | nil=>intro i _ k o h; simp at h
 | cons x l ih=>
  intro i h k o hk hlt;unfold Co at h;have hij:Nat.blt i j=true:=by simp; omega
  simp only [hij,Bool.and_eq_true,Bool.or_eq_true] at h;cases k with
  | zero=>simp at hk; subst hk; exact h.1
  | succ k=>
   have:=ih (i+1) h.2 k o (by simpa using hk) (by omega);rwa [Nat.add_assoc,Nat.add_comm 1 k] at this
theorem Ob {x:Nat} {l:List Nat} (h:x∈l):uK x l=true:=by
 induction l with
 | nil=>cases h
 | cons b l ih=>
  unfold uK;cases hb:Nat.beq x b with
  | true=>rfl
  | false=>
   rcases List.mem_cons.1 h with e | e
   ·subst e; simp at hb
   ·exact ih e
theorem CB {all:List Oper} {x y:Oper} (h:Ld all x y=true):(∀d,x.dst=some d→d ∉ looks all y)∧(∀d,y.dst=some d→d ∉ looks all x)∧(∀d,x.dst=some d→y.dst≠some d):=by
 unfold Ld at h;simp only [Bool.and_eq_true,Bool.not_eq_true'] at h;obtain ⟨⟨h1,h2⟩,h3⟩:=h;refine ⟨fun d hd hm=>?_,fun d hd hm=>?_,fun d hd hm=>?_⟩
 ·rw [hd] at h1; simp only [isIn] at h1; rw [Ob hm] at h1; cases h1
 ·rw [hd] at h2; simp only [isIn] at h2; rw [Ob hm] at h2; cases h2
 ·rw [hd,hm] at h3; simp [isIn,uK] at h3
theorem Qz {l:List Nat} {p:Nat→Bool} {i:Nat} (hi:i∈l) (hp:p i=true):(l.filter fun k=>p k&&!decide (k=i)).length<(l.filter p).length:=by
 have le:∀l:List Nat,(l.filter fun k=>p k&&!decide (k=i)).length≤(l.filter p).length:=by
  intro l;induction l with
  | nil=>exact Nat.le_refl _
  | cons x l ih=>
   rw [List.filter_cons,List.filter_cons];cases hx:p x with
   | true=>
    rw [if_pos rfl];split
    ·simp only [List.length_cons]; omega
    ·simp only [List.length_cons]; omega
   | false=>simpa using ih
 induction l with
 | nil=>cases hi
 | cons x l ih=>
  rw [List.filter_cons,List.filter_cons];by_cases hxi:x=i
  ·subst hxi;rw [hp,if_pos rfl,if_neg (by simp)];have:=le l;simp only [List.length_cons];omega
  ·have hil:i∈l:=by rcases List.mem_cons.1 hi with e | e; exact absurd e.symm hxi; exact e
   have:=ih hil;cases hx:p x with
   | true=>
    rw [if_pos rfl,if_pos (by simp [hxi])];simp only [List.length_cons];omega
   | false=>simpa using this
def Zp (ops:Array Oper) (ent:Nat→TE):Prop:=∀i j,i<j→j<ops.size→before ops.toList 40 i j=true∨
 ((∀b,VN ent i b=true→(ent j).ex=true→b ∉ (ent j).rds)∧(∀b,VN ent j b=true→(ent i).ex=true→b ∉ (ent i).rds)∧(∀b,VN ent i b=true→VN ent j b=false))
theorem QA (hc:dY P cfg) {r:Option Nat} {n0:Nat} {ops:Array Oper} {id nx:Nat} {T0:Nat→AV} {H0:Nat→Option bJ} {ent:Nat→TE} (htr:Zo cfg (Spec P cfg) ops.toList nx T0 H0 ent) (hok:l5 N ops.toList ops.toList 0=true)
  (hdr:Ir ops.toList ops.toList 0=true) (hdyn:Zp ops ent)
  {a:Act} {w:World} {I:Nat→Prop} {O:OM} (hR:Rel cfg cx H0 (fun o=>o<nx) w I O) (hTR:r9 N ds T0 (fun _=>true) a w I O (fun o=>o<nx)) {Q:Exit→Act→World→Prop}
  (hQ:∀a' w' I' O',Rel cfg cx (Gr ent yes ops.size H0) (fun o=>o<nx+stride*ops.size) w' I' O'→r9 N ds (yM ops.toList ent yes ops.size T0) (ED ops.toList ent yes ops.size) a' w' I' O' (fun o=>o<nx+stride*ops.size)→Q .normal a' w'):
  (Code.region id ops true).wpIn (FW r) n0 P Q a w:=by
 refine wpIn_region_any hc.mixed ?_;have edges:∀k o,ops[k]? = some o→∀e∈o.after,Region.binds .any e=true→e.on<k:=by
  intro k o ho e he hb;obtain ⟨h1,_⟩:=JU ops.toList 0 hdr k o (by simpa using ho);unfold OW at h1;rw [Nat.zero_add,List.all_eq_true] at h1;have:=h1 e (by simpa using he);simpa [hb] using this
 have tmps:∀i j oi oj,i<j→ops[i]? = some oi→ops[j]? = some oj→Ld ops.toList oi oj=true∨before ops.toList 40 i j=true:=by
  intro i j oi oj hij hi hj;obtain ⟨_,h2⟩:=JU ops.toList 0 hdr j oj (by simpa using hj);rw [Nat.zero_add] at h2;have:=Nc ops.toList 0 h2 i oi (by simpa using hi) (by omega);rwa [Nat.zero_add] at this
 have wrTs:∀k t,Uf ops.toList k t=true→∃o,ops[k]? = some o∧o.dst=some t:=by
  intro k t h;unfold Uf at h;split at h
  ·rename_i o ho;exact ⟨o,by simpa using ho,by simpa using h⟩
  ·cases h
 have key:∀(fuel:Nat) (listed:Array Bool) (a:Act) (w:World) (I:Nat→Prop) (O:OM),listed.size=ops.size→Closed ops listed→((List.range ops.size).filter fun k=>!listed.getD k false).length≤fuel→
   Rel cfg cx (Gr ent (fun k=>listed.getD k false) ops.size H0) (Dat nx ops.size (fun k=>listed.getD k false)) w I O→
   r9 N ds (yM ops.toList ent (fun k=>listed.getD k false) ops.size T0) (ED ops.toList ent (fun k=>listed.getD k false) ops.size) a w I O (Dat nx ops.size (fun k=>listed.getD k false))→wpAnyIn (FW r) n0 P .any ops Q fuel listed a w:=by
  intro fuel
  have done:∀(listed:Array Bool) (a:Act) (w:World) (I:Nat→Prop) (O:OM),(∀k,k<ops.size→listed.getD k false=true)→
    Rel cfg cx (Gr ent (fun k=>listed.getD k false) ops.size H0) (Dat nx ops.size (fun k=>listed.getD k false)) w I O→
    r9 N ds (yM ops.toList ent (fun k=>listed.getD k false) ops.size T0) (ED ops.toList ent (fun k=>listed.getD k false) ops.size) a w I O (Dat nx ops.size (fun k=>listed.getD k false))→Q .normal a w:=by
   intro listed a w I O hall hR hT
   have e:∀ {α:Type} (wr:Nat→Nat→Bool) (g:Nat→Nat→α) (F:Nat→α),sel wr g (fun k=>listed.getD k false) ops.size F=sel wr g yes ops.size F:=fun wr g F=>funext fun t=>yL wr g _ _ F t _ fun k hk _=>hall k hk
   unfold Gr at hR
   unfold yM ED at hT
   rw [e] at hR
   rw [e,e] at hT
   have hD:∀o,Dat nx ops.size (fun k=>listed.getD k false) o→o<nx+stride*ops.size:=by
    rintro o (h | ⟨k,q1,_,q3,q4⟩)
    ·omega
    ·have:=Nat.mul_le_mul_left stride (show k+1≤ops.size from q1)
     rw [Nat.mul_add,Nat.mul_one] at this
     omega
   exact hQ a w I O (hR.yN hD) (hT.yN hD hR)
  have full:∀(listed:Array Bool),listed.size=ops.size→Region.ready .any ops listed=[]→∀k,k<ops.size→listed.getD k false=true:=by
   intro listed hls hr k
   induction k using Nat.strongRecOn with
   | _ k ih=>
    intro hk
    cases hl:listed.getD k false with
    | true=>rfl
    | false=>
     have:k∈Region.ready .any ops listed:=mem_ready.2 ⟨by
      have hlt:k<listed.size:=by omega
      simp [hlt] at hl ⊢; exact hl,ops[k],Array.getElem?_eq_getElem hk,fun e he hb=>ih e.on (edges k _ (Array.getElem?_eq_getElem hk) e he hb) (Nat.lt_trans (edges k _ (Array.getElem?_eq_getElem hk) e he hb) hk)⟩
     rw [hr] at this
     cases this
  induction fuel with
  | zero=>
   intro listed a w I O hls hcl hcnt hR hT
   have hall:∀k,k<ops.size→listed.getD k false=true:=by
    intro k hk
    cases hl:listed.getD k false with
    | true=>rfl
    | false=>
     have:k∈(List.range ops.size).filter fun k=>!listed.getD k false:=List.mem_filter.2 ⟨List.mem_range.2 hk,by rw [hl]; rfl⟩
     have:=List.length_pos_of_mem this
     omega
   refine ⟨?_,done listed a w I O hall hR hT⟩
   rw [List.eq_nil_iff_forall_not_mem]
   intro k hk
   obtain ⟨h1,o,h2,_⟩:=mem_ready.1 hk
   have hlt:k<ops.size:=(Array.getElem?_eq_some_iff.1 h2).1
   have:=hall k hlt
   have hlt':k<listed.size:=by omega
   simp [hlt'] at this h1
   rw [this] at h1
   cases h1
  | succ fuel ih=>
   intro listed a w I O hls hcl hcnt hR hT
   refine ⟨fun hr=>done listed a w I O (full listed hls hr) hR hT,fun i hi=>?_⟩
   obtain ⟨h1,o,ho,hed⟩:=mem_ready.1 hi
   have hlt:i<ops.size:=(Array.getElem?_eq_some_iff.1 ho).1
   have hpi:listed.getD i false=false:=by
    have hlt':i<listed.size:=by omega
    simp [hlt'] at h1 ⊢; exact h1
   have hedi:∀o',ops[i]? = some o'→∀e∈o'.after,Region.binds .any e=true→listed.getD e.on false=true:=fun o' ho'=>by rw [ho] at ho'; cases ho'; exact hed
   have before_i:∀k,before ops.toList 40 k i=true→listed.getD k false=true:=fun k h=>E8 hcl 40 k i h hedi
   have after_i:∀k,before ops.toList 40 i k=true→listed.getD k false=false:=fun k h=>by
    cases hk:listed.getD k false with
    | false=>rfl
    | true=>
     have:=E8 hcl 40 i k h fun o' ho'=>hcl k o' ho' hk
     rw [hpi] at this
     cases this
   have hp:(fun j=>listed.getD j false||decide (j=i))=fun j=>(listed.setIfInBounds i true).getD j false:=by
    funext j
    by_cases hj:j=i
    ·subst hj
     have:j<listed.size:=by omega
     simp [this]
    ·rw [getD_set_ne false (fun e=>hj e.symm)]
     simp [hj]
   have eqAt:∀ {α:Type} (wr:Nat→Nat→Bool) (g:Nat→Nat→α) (F:Nat→α) (t:Nat),(∀k,k<ops.size→wr k t=true→k≠i→before ops.toList 40 (min k i) (max k i)=true)→
     sel wr g (fun j=>listed.getD j false) ops.size F t=sel wr g yes i F t:=by
    intro α wr g F t h
    refine (yL wr g _ (fun j=>decide (j<i)) F t _ fun k hk hw=>?_).trans (l7 wr g F t i ops.size (by omega))
    by_cases hki:k=i
    ·subst hki; simpa using hpi
    ·have hb:=h k hk hw hki
     rcases Nat.lt_or_gt_of_ne hki with hlt' | hgt
     ·rw [Nat.min_eq_left (by omega),Nat.max_eq_right (by omega)] at hb
      rw [before_i k hb]; simp [hlt']
     ·rw [Nat.min_eq_right (by omega),Nat.max_eq_left (by omega)] at hb
      rw [after_i k hb]; simp; omega
   refine Qx hc htr hok ho (p:=fun j=>listed.getD j false) hpi (fun t ht=>?_) (fun hex b hb=>?_) (fun t ht k hik hpk=>?_) (fun b hb k hik hpk=>?_) hR hT fun a' w' I' O' hR' hT'=>?_
   ·have cond:∀k,k<ops.size→Uf ops.toList k t=true→k≠i→before ops.toList 40 (min k i) (max k i)=true:=by
     intro k hk hw hki
     obtain ⟨ok,hok',hdk⟩:=wrTs k t hw
     rcases Nat.lt_or_gt_of_ne hki with hlt' | hgt
     ·rw [Nat.min_eq_left (by omega),Nat.max_eq_right (by omega)]
      rcases tmps k i ok o hlt' hok' ho with h | h
      ·exact absurd ht ((CB h).1 t hdk)
      ·exact h
     ·rw [Nat.min_eq_right (by omega),Nat.max_eq_left (by omega)]
      rcases tmps i k o ok hgt ho hok' with h | h
      ·exact absurd ht ((CB h).2.1 t hdk)
      ·exact h
    exact ⟨eqAt _ _ _ t cond,eqAt _ _ _ t cond⟩
   ·refine eqAt _ _ _ b fun k hk hw hki=>?_
    rcases Nat.lt_or_gt_of_ne hki with hlt' | hgt
    ·rw [Nat.min_eq_left (by omega),Nat.max_eq_right (by omega)]
     rcases hdyn k i hlt' hlt with h | h
     ·exact h
     ·exact absurd hb (h.1 b hw hex)
    ·rw [Nat.min_eq_right (by omega),Nat.max_eq_left (by omega)]
     rcases hdyn i k hgt hk with h | h
     ·exact h
     ·exact absurd hb (h.2.1 b hw hex)
   ·cases hw:Uf ops.toList k t with
    | false=>rfl
    | true=>
     obtain ⟨oi,hoi,hdi⟩:=wrTs i t ht
     obtain ⟨ok,hok',hdk⟩:=wrTs k t hw
     rcases tmps i k oi ok hik hoi hok' with h | h
     ·exact absurd hdk ((CB h).2.2 t hdi)
     ·rw [after_i k h] at hpk; cases hpk
   ·by_cases hk:k<ops.size
    ·rcases hdyn i k hik hk with h | h
     ·rw [after_i k h] at hpk; cases hpk
     ·exact h.2.2 b hb
    ·have:listed.getD k false=false:=by simp [Array.getElem?_eq_none (show listed.size≤k by omega)]
     rw [this] at hpk; cases hpk
   ·rw [hp] at hR' hT'
    refine ih (listed.setIfInBounds i true) a' w' I' O' (by simp [hls]) ?_ ?_ hR' hT'
    ·intro j oj hj hl e he hb
     by_cases hji:j=i
     ·subst hji
      rw [ho] at hj
      cases hj
      exact getD_set_true (hed e he hb)
     ·rw [getD_set_ne false (fun e=>hji e.symm)] at hl
      exact getD_set_true (hcl j oj hj hl e he hb)
    ·have hlt':i<listed.size:=by omega
     have:=Qz (l:=List.range ops.size) (p:=fun k=>!listed.getD k false) (i:=i) (List.mem_range.2 hlt) (by rw [hpi]; rfl)
     have e2:((List.range ops.size).filter fun k=>!(listed.setIfInBounds i true).getD k false)=(List.range ops.size).filter fun k=>!listed.getD k false&&!decide (k=i):=by
      congr 1
      funext k
      rw [← congrFun hp k]
      simp
     rw [e2]
     omega
 have e0:(fun k=>(Array.replicate ops.size false).getD k false)=fun _=>false:=by
  funext k;rcases Nat.lt_or_ge k ops.size with h | h
  ·simp [h]
  ·simp [h]
 have e1:∀ {α:Type} (wr:Nat→Nat→Bool) (g:Nat→Nat→α) (F:Nat→α),sel wr g (fun _=>false) ops.size F=F:=fun wr g F=>funext fun t=>by
  have:=l7 wr g F t 0 ops.size (Nat.zero_le _);refine (yL wr g _ (fun j=>decide (j<0)) F t _ fun k _ _=>?_).trans this;simp
 refine key ops.size (Array.replicate ops.size false) a { w with drawn:=w.drawn+1 } I O (by simp) ?_ ?_ ?_ ?_
 ·intro j o _ h;rw [congrFun e0 j] at h;cases h
 ·exact Nat.le_trans (List.length_filter_le _ _) (by simp)
 ·rw [e0];unfold Gr;rw [e1];exact (Rel.zT (w:=w) (w':={ w with drawn:=w.drawn+1 }) rfl (dX.heap rfl rfl rfl rfl) hR).yN fun o h=>.inl h
 ·rw [e0];unfold yM ED;rw [e1,e1];have hR1:=Rel.zT (w:=w) (w':={ w with drawn:=w.drawn+1 }) rfl (dX.heap rfl rfl rfl rfl) hR;have:r9 N ds T0 (fun _=>true) a { w with drawn:=w.drawn+1 } I O (fun o=>o<nx):=⟨hTR.defers,hTR.size,fun t ht=>Rep.zT (w:=w) (w':={ w with drawn:=w.drawn+1 }) rfl hR (hTR.rep t ht),hTR.gone⟩;exact this.yN (fun o h=>.inl h) hR1
end
end Go.Ab

namespace Go.Ab
section
variable {P:Program} {cfg:qm} {cx:Ctx} {N:Nat} {Sp:j3}
theorem Oc:∀(l:List AV) (K:List AV→Prop),Cg l K↔K l:=by
 intro l;induction l with
 | nil=>intro K; exact Iff.rfl
 | cons v l ih=>
  intro K;unfold Cg;rw [ih];cases v<;>exact Iff.rfl
theorem force_eq (v:AV) (K:AV→Prop):force v K↔K v:=by
 cases v<;>first | exact Iff.rfl | exact Oc _ _
theorem QB:∀(l:iI) (K:iI→Prop),vK l K↔K l:=by
 intro l;induction l with
 | nil=>intro K; exact Iff.rfl
 | cons u l ih=>
  intro K;obtain ⟨o,x⟩:=u;cases x with
  | none=>exact ih _
  | some x=>cases x with
   | box cs=>simp only [vK]; rw [Oc]; exact ih _
   | row es n g=>exact ih _
   | map kd z f=>exact ih _
theorem Ug (H:iI):∀(ups:iI) (K:iI→Prop),V7 ups H K↔K (ups++H):=by
 intro ups;induction ups with
 | nil=>intro K; exact Iff.rfl
 | cons u l ih=>intro K; unfold V7; exact ih _
theorem El (p:PC):∀(l:List PC) (K:List PC→Prop),FP l p K↔K (l++[p]):=by
 intro l;induction l with
 | nil=>intro K; exact Iff.rfl
 | cons q l ih=>intro K; unfold FP; exact ih _
theorem U3:∀(l:List PC) (j:Nat) (K:PC→Prop),R5 l j K↔K (Cn l j):=by
 intro l;induction l with
 | nil=>intro j K; exact Iff.rfl
 | cons p l ih=>intro j K; cases j with
  | zero=>exact Iff.rfl
  | succ j=>exact ih j K
def holds (pc:PC):Prop:=∀q∈pc,q.1=q.2
theorem Em:∀(pc:PC) (p:Prop) (K:Prop→Prop),UH pc p K→∃q:Prop,K q∧(q→holds pc→p):=by
 intro pc;induction pc with
 | nil=>intro p K h; exact ⟨p,h,fun h _=>h⟩
 | cons x l ih=>
  intro p K h;obtain ⟨c,b⟩:=x;obtain ⟨q,h1,h2⟩:=ih _ _ h;exact ⟨q,h1,fun hq hh=>h2 hq (fun y hy=>hh y (List.mem_cons_of_mem _ hy)) (hh (c,b) (by simp))⟩
theorem KQ (pc:PC) (H:Nat→Option bJ):∀(pg:Pg) (rds:List Nat) (K:AV→iI→List Nat→Prop),ev Sp pc H pg rds K→∃v ups rds',K v ups rds'∧(∀x∈rds,x∈rds')∧(holds pc→∃r,dx Sp H pg v ups r∧∀x∈r,x∈rds'):=by
 intro pg;induction pg with
 | ret v ups=>
  intro rds K h;unfold ev at h;rw [force_eq,QB] at h;exact ⟨v,ups,rds,h,fun _ h=>h,fun _=>⟨[],.ret v ups,fun x hx=>by cases hx⟩⟩
 | need p k ih=>
  intro rds K h;unfold ev at h;obtain ⟨q,⟨h1,h2⟩,h3⟩:=Em pc p _ h;obtain ⟨v,ups,rds',h4,h5,h6⟩:=ih rds K h2;refine ⟨v,ups,rds',h4,h5,fun hh=>?_⟩;obtain ⟨r,h7,h8⟩:=h6 hh;exact ⟨r,.need (h3 h1 hh) h7,h8⟩
 | rd o k ih=>
  intro rds K h;unfold ev at h;split at h
  ·rename_i x hx;obtain ⟨v,ups,rds',h4,h5,h6⟩:=ih x (o::rds) K h;refine ⟨v,ups,rds',h4,fun y hy=>h5 y (List.mem_cons_of_mem _ hy),fun hh=>?_⟩;obtain ⟨r,h7,h8⟩:=h6 hh;refine ⟨o::r,.rd hx h7,fun y hy=>?_⟩;rcases List.mem_cons.1 hy with e | e
   ·subst e; exact h5 y (by simp)
   ·exact h8 y e
  ·obtain ⟨q,⟨h1,h2⟩,h3⟩:=Em pc False _ h;exact ⟨_,_,rds,h2,fun _ h=>h,fun hh=>(h3 h1 hh).elim⟩
 | call f args obs k ih=>
  intro rds K h;unfold ev at h;obtain ⟨r,obs',h⟩:=h;obtain ⟨q,⟨h1,h2⟩,h3⟩:=Em pc _ _ h;obtain ⟨v,ups,rds',h4,h5,h6⟩:=ih r obs' rds K h2;refine ⟨v,ups,rds',h4,h5,fun hh=>?_⟩;obtain ⟨r',h7,h8⟩:=h6 hh;exact ⟨r',.call (h3 h1 hh) h7,h8⟩
 | fail=>
  intro rds K h;unfold ev at h;obtain ⟨q,⟨h1,h2⟩,h3⟩:=Em pc False _ h;exact ⟨_,_,rds,h2,fun _ h=>h,fun hh=>(h3 h1 hh).elim⟩
def U4:List Oper→List TE→(Nat→AV)→Nat→AV
 | o::rest,e::tr,T=>U4 rest tr (iY T o.dst e.v)
 | _,_,T=>T
def U5:List Oper→List TE→(Nat→Bool)→Nat→Bool
 | o::rest,e::tr,V=>U5 rest tr (iY V o.dst e.ex)
 | _,_,V=>V
def U6:List TE→(Nat→Option bJ)→Nat→Option bJ
 | e::tr,H=>U6 tr (jk H e.ups)
 | [],H=>H
theorem qK (T:List (Nat×AV)) (d:Nat) (v:AV):tget ((d,v)::T)=iY (tget T) (some d) v:=by
 funext t;unfold tget iY;simp only [look];cases hb:Nat.beq d t with
 | true=>have:=Nat.eq_of_beq_eq_true hb; subst this; simp
 | false=>
  have:t≠d:=fun e=>by subst e; simp at hb
  simp [this]
theorem JV (ups H:iI):hget (ups++H)=jk (hget H) ups:=by
 funext o;unfold hget jk;rw [Cz];cases look ups o with
 | none=>rfl
 | some x=>cases x<;>rfl
theorem KR (dst:Option Nat) (v u:AV) (T U:List (Nat×AV)) (K:List (Nat×AV)→List (Nat×AV)→Prop) (h:V8 dst v u T U K):∃T' U',K T' U'∧tget T'=iY (tget T) dst v∧tget U'=iY (tget U) dst u:=by
 cases dst with
 | none=>exact ⟨T,U,h,rfl,rfl⟩
 | some d=>exact ⟨_,_,h,qK T d v,qK U d u⟩
def Uh:List TE→List Log→List Log→Prop
 | [],l,l0=>l=l0
 | e::tr,l,l0=>∃g:Log,(e.ex=true→(∀x∈e.rds,x∈g.rds))∧(∀x,(look e.ups x).isSome=true→x∈g.R4)∧Uh tr l (g::l0)
theorem QC (ups:iI) (x:Nat) (h:(look ups x).isSome=true):x∈ids ups:=by
 induction ups with
 | nil=>cases h
 | cons u l ih=>
  obtain ⟨o,y⟩:=u;simp only [look] at h;simp only [ids,List.mem_cons];cases hb:Nat.beq o x with
  | true=>exact .inl (Nat.eq_of_beq_eq_true hb).symm
  | false=>simp only [hb] at h; exact .inr (ih h)
theorem SI (l:List PC) (p:PC) (j:Nat):Cn (l++[p]) j=if j<l.length then Cn l j else if j=l.length then p else []:=by
 induction l generalizing j with
 | nil=>cases j<;>simp [Cn]
 | cons q l ih=>
  cases j with
  | zero=>simp [Cn]
  | succ j=>
   simp only [List.cons_append,Cn,ih,List.length_cons];by_cases h1:j<l.length
   ·simp [h1]
   ·by_cases h2:j=l.length
    ·simp [h2]
    ·simp [h1,h2]
theorem upd_ne {α:Type} (F:Nat→α) (d:Option Nat) (x:α) (t:Nat) (h:d≠some t):iY F d x t=F t:=by
 cases d with
 | none=>rfl
 | some k=>
  have:t≠k:=fun e=>h (by rw [e]);simp [iY,this]
theorem IJ {α:Type} (F:Nat→α) (t:Nat) (x:α):iY F (some t) x t=x:=by simp [iY]
theorem SK {all:List Oper} {nx:Nat} (hok:l5 N all all 0=true):∀(rest:List Oper) (i:Nat) (T U:List (Nat×AV)) (H:iI) (pcs:List PC) (log:List Log) (K:St→List Log→Prop) (V:Nat→Bool),
  (∀j,rest[j]? = all[i+j]?)→pcs.length=i→(∀j d,j<i→writers all d=[j]→(V d=true↔holds (Cn pcs j)))→(∀t,tget U t=.undef∨(V t=true∧tget U t=tget T t))→
  Qb cfg Sp all nx rest i T U H pcs log K→∃tr s log',Tr cfg Sp all nx rest i (tget T) V (hget H) tr∧tr.length=rest.length∧K s log'∧s.nx=nx+stride*(i+rest.length)∧hget s.heap=U6 tr (hget H)∧
   (∀t,tget s.tmps t=.undef∨(U5 rest tr V t=true∧tget s.tmps t=U4 rest tr (tget T) t))∧Uh tr log' log:=by
 intro rest;induction rest with
 | nil=>
  intro i T U H pcs log K V _ _ _ hU h;exact ⟨[],_,log,trivial,rfl,h,rfl,rfl,hU,rfl⟩
 | cons o rest ih=>
  intro i T U H pcs log K V hr hpl hpc hU h;have hi:all[i]? = some o:=by simpa using (hr 0).symm
  have hop:=(FU all 0 hok i o hi).1;rw [Nat.zero_add] at hop;have hr':∀j,rest[j]? = all[i+1+j]? := fun j=>by
   have:=hr (j+1);rw [show i+(j+1)=i+1+j by omega] at this;simpa using this
  have go:∀(v u:AV) (ups:iI) (ex:Bool) (r:List Nat) (g:Log) (pc:PC) (T' U':List (Nat×AV)) (H':iI),jo all (tget T) o→ex=iq all (tget T) V o→(ex=true→dx Sp (hget H) (dO cfg (nx+stride*i) o.op (Lb cfg (tget T))) v ups r)→(ex=false→ups=[])→
    tget T'=iY (tget T) o.dst v→tget U'=iY (tget U) o.dst u→hget H'=jk (hget H) ups→(u=.undef∨(ex=true∧u=v))→(ex=true↔holds pc)→(ex=true→(∀x∈r,x∈g.rds))→(∀x,(look ups x).isSome=true→x∈g.R4)→
    Qb cfg Sp all nx rest (i+1) T' U' H' (pcs++[pc]) (g::log) K→∃tr s log',Tr cfg Sp all nx (o::rest) i (tget T) V (hget H) tr∧tr.length=(o::rest).length∧K s log'∧s.nx=nx+stride*(i+(o::rest).length)∧hget s.heap=U6 tr (hget H)∧
     (∀t,tget s.tmps t=.undef∨(U5 (o::rest) tr V t=true∧tget s.tmps t=U4 (o::rest) tr (tget T) t))∧Uh tr log' log:=by
   intro v u ups ex r g pc T' U' H' g1 g2 g3 g4 g5 g6 g7 g8 g9 g10 g11 g12
   have hpc':∀j d,j<i+1→writers all d=[j]→(iY V o.dst ex d=true↔holds (Cn (pcs++[pc]) j)):=by
    intro j d hj hw
    rw [SI,hpl]
    by_cases hji:j=i
    ·subst hji
     have:j∈writers all d:=by rw [hw]; simp
     obtain ⟨o',h1,h2⟩:=(oV all d j).1 this
     rw [hi] at h1
     cases h1
     rw [h2,IJ]
     simpa using g9
    ·have hne:o.dst≠some d:=fun e=>by
      have:i∈writers all d:=(oV all d i).2 ⟨o,hi,e⟩
      rw [hw] at this
      simp at this
      omega
     rw [upd_ne _ _ _ _ hne,if_pos (by omega)]
     exact hpc j d (by omega) hw
   have hU':∀t,tget U' t=.undef∨(iY V o.dst ex t=true∧tget U' t=tget T' t):=by
    intro t
    rw [g5,g6]
    by_cases hd:o.dst=some t
    ·rw [hd,IJ,IJ,IJ]
     rcases g8 with e | ⟨e1,e2⟩
     ·exact .inl e
     ·exact .inr ⟨e1,e2⟩
    ·rw [upd_ne _ _ _ _ hd,upd_ne _ _ _ _ hd,upd_ne _ _ _ _ hd]
     exact hU t
   obtain ⟨tr,s,log',q1,q2,q3,q4,q5,q6,q7⟩:=ih (i+1) T' U' H' (pcs++[pc]) (g::log) K (iY V o.dst ex) hr' (by simp [hpl]) hpc' hU' g12
   rw [g5,g7] at q1
   rw [g7] at q5
   rw [g5] at q6
   exact ⟨⟨ex,v,ups,r⟩::tr,s,log',⟨g1,g2,g3,g4,q1⟩,by simp [q2],q3,by rw [q4,show i+1+rest.length=i+(o::rest).length by simp; omega],q5,q6,g,g10,g11,q7⟩
  unfold Qb at h;cases hg:o.guard with
  | none=>
   rw [hg] at h;simp only at h;obtain ⟨v,ups,rds',h1,_,h2⟩:=KQ _ _ _ _ _ h;obtain ⟨r,h3,h4⟩:=h2 (fun q hq=>by cases hq);obtain ⟨T',U',h5,h6,h7⟩:=KR _ _ _ _ _ _ h1;rw [Ug,El] at h5;have hs:jo all (tget T) o:=by unfold jo; rw [hg]; trivial
   have hon:iq all (tget T) V o=true:=by unfold iq; rw [hg]
   exact go v v ups true r _ [] T' U' _ hs hon.symm (fun _=>h3) (fun e=>by cases e) h6 h7 (JV ups H) (.inr ⟨rfl,rfl⟩) ⟨fun _ q hq=>by (cases hq),fun _=>rfl⟩ (fun _=>h4) (fun x hx=>QC ups x hx) h5
  | some gu=>
   obtain ⟨j,b⟩:=gu;rw [hg] at h;simp only at h;cases hd:JK all j with
   | none=>rw [hd] at h; exact h.elim
   | some d=>
    rw [hd] at h;simp only at h;cases hT:tget T d with
    | bool c=>
     rw [hT] at h;simp only at h;have hjd:j<i∧writers all d=[j]:=by
      unfold Qc at hop;rw [hg] at hop;simp only at hop;split at hop
      ·rename_i h1;split at h1
       ·rename_i hlt;rw [hd] at h1;simp only at h1;split at h1
        ·rename_i j' hw;have e:=Nat.eq_of_beq_eq_true h1;subst e;exact ⟨by simpa using hlt,hw⟩
        ·cases h1
       ·cases h1
      ·cases hop
     have hVd:=hpc j d hjd.1 hjd.2;have hs:jo all (tget T) o:=by unfold jo; rw [hg]; exact ⟨d,c,hd,hT⟩
     have hon:iq all (tget T) V o=(V d&&(c==b)):=by unfold iq; rw [hg]; simp only [hd,hT,WK]
     cases hq:T9 cfg o.op with
     | true=>
      rw [hq] at h;simp only at h;rw [U3] at h;obtain ⟨v,ups,rds',h1,_,h2⟩:=KQ _ _ _ _ _ h;cases ups with
      | cons u l=>exact h1.elim
      | nil=>
       simp only at h1;obtain ⟨T',U',h5,h6,h7⟩:=KR _ _ _ _ _ _ h1;rw [El] at h5;have hiff:iq all (tget T) V o=true↔holds ((c,b)::Cn pcs j):=by
        rw [hon];simp only [Bool.and_eq_true,beq_iff_eq,hVd];constructor
        ·rintro ⟨q1,q2⟩ q hq;rcases List.mem_cons.1 hq with e | e
         ·subst e; exact q2
         ·exact q1 q e
        ·intro q;exact ⟨fun y hy=>q y (List.mem_cons_of_mem _ hy),q (c,b) (by simp)⟩
       cases hex:iq all (tget T) V o with
       | true=>
        obtain ⟨r,h3,h4⟩:=h2 (hiff.1 hex);exact go v .undef [] true r _ _ T' U' H hs hex.symm (fun _=>h3) (fun e=>by cases e) h6 h7 (by rw [vN]) (.inl rfl) ⟨fun _=>hiff.1 hex,fun _=>rfl⟩ (fun _=>h4) (fun x hx=>by cases hx) h5
       | false=>
        exact go v .undef [] false [] _ _ T' U' H hs hex.symm (fun e=>by cases e) (fun _=>rfl) h6 h7 (by rw [vN]) (.inl rfl) (by rw [← hex]; exact hiff) (fun e=>by cases e) (fun x hx=>by cases hx) h5
     | false=>
      rw [hq] at h;simp only at h;split at h
      ·rename_i hnil;have hV:V d=true:=hVd.2 (by rw [hnil]; exact fun q hq=>by cases hq);rw [hV,Bool.true_and] at hon;cases hcb:(c==b) with
       | true=>
        rw [hcb] at h;simp only [NP] at h;obtain ⟨v,ups,rds',h1,_,h2⟩:=KQ _ _ _ _ _ h;obtain ⟨r,h3,h4⟩:=h2 (fun q hq=>by cases hq);obtain ⟨T',U',h5,h6,h7⟩:=KR _ _ _ _ _ _ h1;rw [Ug,El] at h5;exact go v v ups true r _ [] T' U' _ hs (by rw [hon,hcb]) (fun _=>h3) (fun e=>by cases e) h6 h7 (JV ups H) (.inr ⟨rfl,rfl⟩) ⟨fun _ q hq=>by (cases hq),fun _=>rfl⟩ (fun _=>h4) (fun x hx=>QC ups x hx) h5
       | false=>
        rw [hcb] at h;simp only [NP] at h;obtain ⟨T',U',h5,h6,h7⟩:=KR _ _ _ _ _ _ h;rw [El] at h5;refine go .undef .undef [] false [] _ _ T' U' H hs (by rw [hon,hcb]) (fun e=>by cases e) (fun _=>rfl) h6 h7 (by rw [vN]) (.inl rfl) ⟨fun e=>by (cases e),fun q=>?_⟩ (fun e=>by cases e) (fun x hx=>by cases hx) h5;have:=q (c,b) (by simp);simp at hcb;exact absurd this hcb
      ·exact h.elim
    | _=>rw [hT] at h; exact h.elim
end
end Go.Ab


namespace Go.Ab
section
variable {P:Program} {cfg:qm} {cx:Ctx} {N:Nat}
def markOf (D:Nat):Deferred:={ target:=.collected D,args:=#[] }
def Marks (cx:Ctx) (w:World) (ds:List Deferred):Prop:=∃ms:List Nat,ms.Nodup∧(cx.rd=true→ms=[])∧ds=ms.map markOf∧∀D∈ms,cx.w0.heap.size≤D∧w.heap[D]? = some (.deferred (some []))
def Ctx.also (cx:Ctx) (ms:List Nat):Ctx:={ cx with K:=fun k o=>cx.K k o∨(k∈ms∧o=.deferred (some [])) }
theorem Rel.also {H:Nat→Option bJ} {D:Nat→Prop} {w:World} {I:Nat→Prop} {O:OM} (hR:Rel cfg cx H D w I O) {ms:List Nat} (h:∀D∈ms,w.heap[D]? = some (.deferred (some []))):Rel cfg (cx.also ms) H D w I O:=
 { hR with
  env:=⟨hR.env.same,fun k o hk=>hk.elim (hR.env.kept k o) fun ⟨h1,h2⟩=>by subst h2; exact ⟨h k h1,rfl⟩⟩
  maps:=fun o kd z f p b bo sz h1 h2 h3=>⟨(hR.maps o kd z f p b bo sz h1 h2 h3).1,fun ob hk=>hk.elim ((hR.maps o kd z f p b bo sz h1 h2 h3).2 ob) fun ⟨h4,_⟩=>by
   obtain ⟨_,b',bo',sz',es,clock,h5,h6,_⟩:=hR.objs o _ p h1 h2;rw [h3] at h5;cases h5;rw [h b h4] at h6;cases h6⟩ }
theorem Rel.WM {H:Nat→Option bJ} {D:Nat→Prop} {w:World} {I:Nat→Prop} {O:OM} {ms:List Nat} (hR:Rel cfg (cx.also ms) H D w I O):Rel cfg cx H D w I O∧∀D∈ms,w.heap[D]? = some (.deferred (some [])):=
 ⟨{ hR with
  env:=⟨hR.env.same,fun k o hk=>hR.env.kept k o (.inl hk)⟩
  maps:=fun o kd z f p b bo sz h1 h2 h3=>⟨(hR.maps o kd z f p b bo sz h1 h2 h3).1,fun ob hk=>(hR.maps o kd z f p b bo sz h1 h2 h3).2 ob (.inl hk)⟩ },fun D hD=>(hR.env.kept D _ (.inr ⟨hD,rfl⟩)).1⟩
structure fU (cfg:qm) (N m:Nat) (cx:Ctx) (s:St) (a:Act) (w:World) (I:Nat→Prop) (O:OM):Prop where
 m:cx.m=m
 rel:Rel cfg cx (hget s.heap) (fun o=>o<s.nx) w I O
 tmps:r9 N a.defers (tget s.tmps) (fun _=>true) a w I O (fun o=>o<s.nx)
 marks:Marks cx w a.defers
def Good (P:Program) (cfg:qm) (N:Nat) (r:Option Nat) (m:Nat) (c:Code) (s:St) (K:Exit→St→Prop):Prop:=
 ∀(n:Nat) (cx:Ctx) (a:Act) (w:World) (I:Nat→Prop) (O:OM),fU cfg N m cx s a w I O→cx.rd=r.isSome→c.wpIn (FW r) n P (fun e a' w'=>∃s' I' O',K e s'∧fU cfg N m cx s' a' w' I' O') a w
structure Loops (P:Program) (cfg:qm) (N:Nat) (r:Option Nat) (m:Nat) (c:Code) (s:St) (K:Exit→St→Prop):Prop where
 ok:Good P cfg N r m c s K
theorem SL:∀(tr:List TE) (l l0:List Log),Uh tr l l0→∃gs:List Log,gs.length=tr.length∧l=gs.reverse++l0∧∀(k:Nat) (e:TE) (g:Log),tr[k]? = some e→gs[k]? = some g→(e.ex=true→∀x∈e.rds,x∈g.rds)∧∀x,(look e.ups x).isSome=true→x∈g.R4:=by
 intro tr;induction tr with
 | nil=>intro l l0 h; exact ⟨[],rfl,h,fun k e g h=>by simp at h⟩
 | cons e tr ih=>
  intro l l0 h;obtain ⟨g,h1,h2,h3⟩:=h;obtain ⟨gs,q1,q2,q3⟩:=ih l (g::l0) h3;refine ⟨g::gs,by simp [q1],by simp [q2],fun k e' g' hk hg=>?_⟩;cases k with
  | zero=>simp at hk hg; subst hk; subst hg; exact ⟨h1,h2⟩
  | succ k=>exact q3 k e' g' (by simpa using hk) (by simpa using hg)
theorem CF {l m:List Nat} (h:meets l m=false):∀x∈l,x ∉ m:=by
 induction l with
 | nil=>intro x hx; cases hx
 | cons y l ih=>
  intro x hx;unfold meets at h;cases hm:uK y m with
  | true=>simp [hm] at h
  | false=>
   simp only [hm] at h;rcases List.mem_cons.1 hx with e | e
   ·subst e; exact qJ hm
   ·exact ih h x e
theorem zV {α:Type} {motive:List α→Prop} (nil:motive []) (append_singleton:∀l x,motive l→motive (l++[x])):∀l,motive l:=by
 intro l;have:∀m:List α,motive m.reverse:=by
  intro m;induction m with
  | nil=>exact nil
  | cons x m ih=>rw [List.reverse_cons]; exact append_singleton _ x ih
 have:=this l.reverse;rwa [List.reverse_reverse] at this
theorem QD {all:List Oper} {j:Nat} {x:Log}:∀(gs:List Log),Iu all j x gs.reverse gs.length=true→∀i g,gs[i]? = some g→(meets x.R4 g.rds=false∧meets g.R4 x.rds=false∧meets g.R4 x.R4=false)∨before all 40 i j=true:=by
 intro gs;induction gs using zV with
 | nil=>intro _ i g h; simp at h
 | append_singleton gs y ih=>
  intro h i g hg;rw [List.reverse_append,List.length_append] at h;simp only [List.reverse_cons,List.reverse_nil,List.nil_append,List.cons_append,List.length_cons,List.length_nil,Nat.zero_add] at h;unfold Iu at h;have rest:Iu all j x gs.reverse gs.length=true:=by
   split at h
   ·exact h
   ·split at h
    ·exact h
    ·cases h
  by_cases hi:i<gs.length
  ·exact ih rest i g (by rwa [List.getElem?_append_left hi] at hg)
  ·have hil:i=gs.length:=by
    have:=(List.getElem?_eq_some_iff.1 hg).1;simp at this;omega
   subst hil;simp at hg;subst hg;split at h
   ·rename_i e1 e2 e3;exact .inl ⟨e1,e2,e3⟩
   ·split at h
    ·rename_i hb; exact .inr hb
    ·cases h
theorem WO {all:List Oper}:∀(gs:List Log),chk all gs.reverse gs.length=true→∀j x,gs[j]? = some x→∀i g,i<j→gs[i]? = some g→(meets x.R4 g.rds=false∧meets g.R4 x.rds=false∧meets g.R4 x.R4=false)∨before all 40 i j=true:=by
 intro gs;induction gs using zV with
 | nil=>intro _ j x h; simp at h
 | append_singleton gs y ih=>
  intro h j x hx i g hij hg;rw [List.reverse_append,List.length_append] at h;simp only [List.reverse_cons,List.reverse_nil,List.nil_append,List.cons_append,List.length_cons,List.length_nil,Nat.zero_add] at h;unfold chk at h;split at h
  ·rename_i hone;have hjl:j<(gs++[y]).length:=(List.getElem?_eq_some_iff.1 hx).1;simp at hjl;have hi:i<gs.length:=by omega
   have hg':gs[i]? = some g:=by rwa [List.getElem?_append_left hi] at hg
   by_cases hj:j<gs.length
   ·exact ih h j x (by rwa [List.getElem?_append_left hj] at hx) i g hij hg'
   ·have:j=gs.length:=by omega
    subst this;simp at hx;subst hx;exact QD gs hone i g hg'
  ·cases h
theorem Yv {all:List Oper} {T0:Nat→AV} {H0:Nat→Option bJ} {ent:Nat→TE}:∀(rest:List Oper) (i:Nat) (tr:List TE),(∀j,rest[j]? = all[i+j]?)→(∀j e,tr[j]? = some e→ent (i+j)=e)→tr.length=rest.length→
  U4 rest tr (yM all ent yes i T0)=yM all ent yes (i+rest.length) T0∧U5 rest tr (ED all ent yes i)=ED all ent yes (i+rest.length)∧U6 tr (Gr ent yes i H0)=Gr ent yes (i+rest.length) H0:=by
 intro rest;induction rest with
 | nil=>
  intro i tr _ _ hl;have:tr=[]:=List.eq_nil_of_length_eq_zero (by simpa using hl);subst this;exact ⟨rfl,rfl,rfl⟩
 | cons x rest ih=>
  intro i tr hr he hl;cases tr with
  | nil=>simp at hl
  | cons e tr=>
   have hx:all[i]? = some x:=by simpa using (hr 0).symm
   have he0:ent i=e:=by simpa using he 0 e rfl
   subst he0;have e1:iY (yM all ent yes i T0) x.dst (ent i).v=yM all ent yes (i+1) T0:=Ej hx _ yes rfl T0 _ fun _=>rfl;have e2:iY (ED all ent yes i) x.dst (ent i).ex=ED all ent yes (i+1):=Ej hx _ yes rfl _ _ fun _=>rfl;have e3:jk (Gr ent yes i H0) (ent i).ups=Gr ent yes (i+1) H0:=Qv yes rfl H0;simp only [U4,U5,U6];rw [e1,e2,e3];have:=ih (i+1) tr (fun j=>by
    have:=hr (j+1);rw [show i+(j+1)=i+1+j by omega] at this;simpa using this) (fun j e' hj=>by
    have:=he (j+1) e' (by simpa using hj);rwa [show i+(j+1)=i+1+j by omega] at this) (by simpa using hl)
   rw [show i+1+rest.length=i+(x::rest).length by simp; omega] at this;exact this
theorem QE (hc:dY P cfg) {N:Nat} {r:Option Nat} {m id:Nat} {ct:List Nat} {ops:Array Oper} {draw:Bool} {T:List (Nat×AV)} {H:iI} {nx:Nat} {K:Exit→St→Prop}
  (h:iZ cfg (Spec P cfg) ct (Loops P cfg N r m) (.region id ops draw) ⟨T,H,nx⟩ K) (hok:V9 N ops.toList draw=true):
  Good P cfg N r m (.region id ops draw) ⟨T,H,nx⟩ K:=by
 intro n0 cx a w I O hS hrd;obtain ⟨ms,hnd,hrm,hds,hms⟩:=hS.marks;have hS1:=hS.rel.also (fun D hD=>(hms D hD).2);simp only [iZ] at h;unfold V9 at hok;simp only [Bool.and_eq_true,Bool.or_eq_true,Bool.not_eq_true'] at hok;obtain ⟨hok1,hok2⟩:=hok;obtain ⟨tr,s,log',q1,q2,q3,q4,q5,q6,q7⟩:=SK hok1 ops.toList 0 T T H [] [] _ (fun _=>true) (fun j=>by simp) rfl (fun j d hj=>by omega) (fun t=>.inr ⟨rfl,rfl⟩) h;let ent:Nat→TE:=fun k=>tr.getD k ⟨true,.undef,[],[]⟩
 have hent:∀j e,tr[j]? = some e→ent (0+j)=e:=fun j e he=>by show tr.getD (0+j) _=e; simp [he]
 have htr:Zo cfg (Spec P cfg) ops.toList nx (tget T) (hget H) ent:=fun k o hk=>Zo.Yu ops.toList 0 tr (fun j=>by simp) hent q1 k o (Nat.zero_le _) hk;obtain ⟨e1,e2,e3⟩:=Yv (all:=ops.toList) (T0:=tget T) (H0:=hget H) ops.toList 0 tr (fun j=>by simp) hent q2;simp only [Nat.zero_add,Array.length_toList] at e1 e2 e3 q4;have hfin:∀a' w' I' O',K .normal s→Rel cfg (cx.also ms) (Gr ent yes ops.size (hget H)) (fun o=>o<nx+stride*ops.size) w' I' O'→r9 N a.defers (yM ops.toList ent yes ops.size (tget T)) (ED ops.toList ent yes ops.size) a' w' I' O' (fun o=>o<nx+stride*ops.size)→
   ∃s' I' O',K .normal s'∧fU cfg N m cx s' a' w' I' O':=by
  intro a' w' I' O' hK hR1' hT'
  obtain ⟨hR',hms'⟩:=hR1'.WM
  have hda:a'.defers=a.defers:=hT'.defers
  refine ⟨s,I',O',hK,hS.m,?_,?_,⟨ms,hnd,hrm,hda.trans hds,fun D hD=>⟨(hms D hD).1,hms' D hD⟩⟩⟩
  ·rw [q5,q4]
   show Rel cfg cx (U6 tr (Gr ent yes 0 (hget H))) _ w' I' O'
   rw [e3]
   exact hR'
  ·rw [q4]
   refine ⟨rfl,hT'.size,fun t _=>?_,fun t h=>by cases h⟩
   rcases q6 t with e | ⟨e4,e5⟩
   ·rw [e]; exact .pure (.undef _)
   ·have e4':U5 ops.toList tr (ED ops.toList ent yes 0) t=true:=e4
    have e5':tget s.tmps t=U4 ops.toList tr (yM ops.toList ent yes 0 (tget T)) t:=e5
    rw [e2] at e4'
    rw [e1] at e5'
    rw [e5']
    exact hT'.rep t e4'
 cases draw with
 | false=>
  simp only at q3;exact Qy hc htr hok1 hS1 hS.tmps fun a' w' I' O' hR' hT'=>hfin a' w' I' O' q3 hR' hT'
 | true=>
  simp only at q3;split at q3
  ·rename_i hchk;have hdr:Ir ops.toList ops.toList 0=true:=by simpa using hok2
   obtain ⟨gs,g1,g2,g3⟩:=SL tr log' [] q7;rw [List.append_nil] at g2;have hlen:gs.length=ops.toList.length:=by rw [g1,q2]
   rw [g2,← hlen] at hchk;have hspec:=WO gs hchk;have hdyn:Zp ops ent:=by
    intro i j hij hj;have hjg:j<gs.length:=by rw [hlen]; simpa using hj
    have hig:i<gs.length:=by omega
    have htj:tr[j]? = some (ent j):=by
     have hlt:j<tr.length:=by omega
     show tr[j]? = some (tr.getD j _);simp [hlt]
    have hti:tr[i]? = some (ent i):=by
     have hlt:i<tr.length:=by omega
     show tr[i]? = some (tr.getD i _);simp [hlt]
    obtain ⟨a1,a2⟩:=g3 j _ _ htj (List.getElem?_eq_getElem hjg);obtain ⟨b1,b2⟩:=g3 i _ _ hti (List.getElem?_eq_getElem hig);rcases hspec j _ (List.getElem?_eq_getElem hjg) i _ hij (List.getElem?_eq_getElem hig) with ⟨c1,c2,c3⟩ | hb
    ·refine .inr ⟨fun b hw hex hm=>CF c2 b (b2 b hw) (a1 hex b hm),fun b hw hex hm=>CF c1 b (a2 b hw) (b1 hex b hm),fun b hw=>?_⟩;cases hwj:VN ent j b with
     | false=>rfl
     | true=>exact absurd (a2 b hwj) (CF c3 b (b2 b hw))
    ·exact .inl hb
   exact QA hc htr hok1 hdr hdyn hS1 hS.tmps fun a' w' I' O' hR' hT'=>hfin a' w' I' O' q3 hR' hT'
  ·exact q3.elim
theorem Good.mono {N:Nat} {r:Option Nat} {m:Nat} {c:Code} {s:St} {K K':Exit→St→Prop} (h:Good P cfg N r m c s K) (hk:∀e s,K e s→K' e s):Good P cfg N r m c s K':=fun n0 cx a w I O hS hrd=>
 wpIn_mono (h n0 cx a w I O hS hrd) fun e _ _ ⟨s',I',O',h1,h2⟩=>⟨s',I',O',hk e s' h1,h2⟩
theorem vQ {N:Nat} {r:Option Nat} {m:Nat} {x y:Code} {s:St} {K:Exit→St→Prop} (h:Good P cfg N r m x s fun e s'=>match e with | .normal=>Good P cfg N r m y s' K | e=>K e s'):Good P cfg N r m (.seq x y) s K:=by
 intro n0 cx a w I O hS hrd;refine wpIn_seq (wpIn_mono (h n0 cx a w I O hS hrd) ?_);intro e a' w' ⟨s',I',O',h1,h2⟩;cases e with
 | normal=>exact h1 n0 cx a' w' I' O' h2 hrd
 | exit id=>exact ⟨s',I',O',h1,h2⟩
 | goto l=>exact ⟨s',I',O',h1,h2⟩
 | ret=>exact ⟨s',I',O',h1,h2⟩
 | panic ch=>exact ⟨s',I',O',h1,h2⟩
 | outgrown=>exact ⟨s',I',O',h1,h2⟩
theorem SN {N:Nat} {r:Option Nat} {m id:Nat} {x:Code} {s:St} {K:Exit→St→Prop} (h:Good P cfg N r m x s fun e s'=>match e with | .exit i=>(match Nat.beq i id with | true=>K .normal s' | false=>K (.exit i) s') | e=>K e s'):Good P cfg N r m (.block id x) s K:=by
 intro n0 cx a w I O hS hrd;refine wpIn_block (wpIn_mono (h n0 cx a w I O hS hrd) ?_);intro e a' w' ⟨s',I',O',h1,h2⟩;cases e with
 | exit i=>
  simp only [Exit.inBlock];simp only at h1;by_cases hi:i=id
  ·subst hi;have hb:Nat.beq i i=true:=by simp
   rw [hb] at h1;rw [if_pos rfl];exact ⟨s',I',O',h1,h2⟩
  ·have hb:Nat.beq i id=false:=by
    cases hb:Nat.beq i id with
    | false=>rfl
    | true=>exact absurd (Nat.eq_of_beq_eq_true hb) hi
   rw [hb] at h1;rw [if_neg hi];exact ⟨s',I',O',h1,h2⟩
 | normal=>exact ⟨s',I',O',h1,h2⟩
 | goto l=>exact ⟨s',I',O',h1,h2⟩
 | ret=>exact ⟨s',I',O',h1,h2⟩
 | panic ch=>exact ⟨s',I',O',h1,h2⟩
 | outgrown=>exact ⟨s',I',O',h1,h2⟩
theorem Od {N:Nat} {r:Option Nat} {m:Nat} {c:Operand} {x y:Code} {s:St} {K:Exit→St→Prop} {b:Bool} (hb:Lb cfg (tget s.tmps) c=.bool b) (h1:b=true→Good P cfg N r m x s K) (h2:b=false→Good P cfg N r m y s K):Good P cfg N r m (.cond c x y) s K:=by
 intro n0 cx a w I O hS hrd;have hr:=oq hS.rel hS.tmps c (fun t _=>rfl);rw [hb] at hr;refine wpIn_cond_split hr.iP (fun h=>h1 h n0 cx a w I O hS hrd) (fun h=>h2 h n0 cx a w I O hS hrd)
theorem jq (hc:dY P cfg) {N:Nat} {r:Option Nat} {m:Nat} {ct:List Nat}:∀(c:Code) (s:St) (K:Exit→St→Prop),fJ N c=true→iZ cfg (Spec P cfg) ct (Loops P cfg N r m) c s K→Good P cfg N r m c s K:=by
 intro c;induction c with
 | skip=>intro s K _ h n0 cx a w I O hS _; exact wpIn_skip ⟨s,I,O,h,hS⟩
 | region id ops draw=>
  intro s K hok h;obtain ⟨T,H,nx⟩:=s;exact QE hc h hok
 | seq x y ihx ihy=>
  intro s K hok h;simp only [fJ,Bool.and_eq_true] at hok;unfold iZ at h;split at h
  ·exact h.ok
  refine vQ ((ihx s _ hok.1 h).mono fun e s' h'=>?_);cases e with
  | normal=>exact ihy s' K hok.2 h'
  | _=>exact h'
 | cond c x y ihx ihy=>
  intro s K hok h;simp only [fJ,Bool.and_eq_true] at hok;simp only [iZ] at h;split at h
  ·rename_i b hb;refine Od hb (fun e=>?_) (fun e=>?_)
   ·subst e; exact ihx s K hok.1 h
   ·subst e; exact ihy s K hok.2 h
  ·exact h.elim
 | block id x ih=>
  intro s K hok h;exact SN (ih s _ hok h)
 | loop x ih=>intro s K hok h; exact h.ok
 | rangeFunc g ps x y ihx ihy=>intro s K hok h; exact h.ok
 | exit id=>intro s K _ h n0 cx a w I O hS _; exact wpIn_exit ⟨s,I,O,h,hS⟩
 | ret=>intro s K _ h n0 cx a w I O hS _; exact wpIn_ret ⟨s,I,O,h,hS⟩
 | _=>intro s K hok h; cases hok
end
end Go.Ab

namespace Go.Ab
section
variable {w:World} {I:Nat→Prop} {O:OM} {D:Nat→Prop}
theorem vR:∀(l m:List AV),Iw l m→l.length=m.length∧∀j,j<l.length→Le (nth l j) (nth m j):=by
 intro l;induction l with
 | nil=>intro m h; cases m with
  | nil=>exact ⟨rfl,fun j hj=>by cases hj⟩
  | cons=>exact h.elim
 | cons u l ih=>intro m h; cases m with
  | nil=>exact h.elim
  | cons v m=>
   obtain ⟨h1,h2⟩:=ih m h.2
   refine ⟨by simp [h1],fun j hj=>?_⟩
   cases j with
   | zero=>exact h.1
   | succ j=>exact h2 j (by simpa using hj)
theorem Iw.refl:∀(l:List AV),Iw l l
 | []=>trivial
 | v::l=>⟨.refl v,Iw.refl l⟩
theorem Le.BL {cs cs':List AV} (h:Iw cs cs'):Le (.agg cs) (.agg cs'):=.agg (vR _ _ h).1 (vR _ _ h).2
theorem Le.roL {cs cs':List AV} (h:Iw cs cs'):Le (.ro cs) (.ro cs'):=.ro (vR _ _ h).1 (vR _ _ h).2
theorem SQ {u v:AV} (h:Le u v):(∀x,PRep w I u x→PRep w I v x)∧u.cells.length=v.cells.length∧∀j,j<u.cells.length→∀x,PRep w I (nth u.cells j) x→PRep w I (nth v.cells j) x:=by
 have one:∀ {u v:AV},u.cells=[u]→v.cells=[v]→(∀x,PRep w I u x→PRep w I v x)→(∀x,PRep w I u x→PRep w I v x)∧u.cells.length=v.cells.length∧∀j,j<u.cells.length→∀x,PRep w I (nth u.cells j) x→PRep w I (nth v.cells j) x:=by
  intro u v h1 h2 h3;rw [h1,h2];refine ⟨h3,rfl,fun j hj x hx=>?_⟩;have:j=0:=by simpa using hj
  subst this;exact h3 x hx
 induction h with
 | refl v=>exact ⟨fun _ h=>h,rfl,fun _ _ _ h=>h⟩
 | @sl es es' n n' f f' g g' hn he hf h ih=>
  subst hn;refine one rfl rfl fun x hx=>?_;cases hx with
  | sl b off vs hcap hfull ha hes hm h1 hr=>
   refine .sl b off vs hcap (fun e=>hfull (hf e)) ha (fun i hi=>?_) (fun i j hi hj=>?_) (fun i j hi hj=>?_) (fun i j hi hj=>?_)
   ·rw [← (ih i hi).2.1,← he (by omega)]; exact hes i hi
   ·rw [← he (by omega)] at hj ⊢; exact hm i j hi hj
   ·rw [← he (by omega)] at hj; exact h1 i j hi hj
   ·rw [← he (by omega)] at hj; exact (ih i hi).2.2 j (by rw [hes i hi]; exact hj) _ (hr i j hi hj)
 | @ro cs cs' hl h ih=>
  refine one rfl rfl fun x hx=>?_;cases hx with
  | ro b off vs hI hm hr=>exact .ro b off vs hI (fun j hj=>hm j (by omega)) fun j hj=>(ih j (by omega)).1 _ (hr j (by omega))
 | @agg cs cs' hl h ih=>
  refine ⟨fun x hx=>?_,hl,fun j hj x hx=>(ih j hj).1 x hx⟩;cases hx with
  | agg h1 hr=>exact .agg (by omega) fun j hj=>(ih j (by omega)).1 _ (hr j (by omega))
 | @jJ cs cs' hl h ih=>
  refine one rfl rfl fun x hx=>?_;cases hx with
  | jJ h1 hr=>exact .jJ (by omega) fun j hj=>(ih j (by omega)).1 _ (hr j (by omega))
 | @fn f cs cs' hl h ih=>
  refine one rfl rfl fun x hx=>?_;cases hx with
  | fn h1 hr=>exact .fn (by omega) fun j hj=>(ih j (by omega)).1 _ (hr j (by omega))
theorem Le.aay {u v:AV} (h:Le u v) {x:Value} (hx:PRep w I u x):PRep w I v x:=(SQ h).1 x hx
theorem Le.rep {u v:AV} (h:Le u v):∀ {x:Value},Rep w I O D u x→Rep w I O D v x:=by
 induction h with
 | refl v=>exact fun h=>h
 | sl hn he hf h ih=>intro x hx; exact .pure ((Le.sl hn he hf h).aay hx.xR)
 | ro hl h ih=>intro x hx; exact .pure ((Le.ro hl h).aay hx.Lm)
 | agg hl h ih=>
  intro x hx;obtain ⟨vs,rfl,h1,h2⟩:=hx.rO;exact .agg (by omega) fun j hj=>ih j (by omega) (h2 j (by omega))
 | jJ hl h ih=>
  intro x hx;obtain ⟨vs,rfl,h1,h2⟩:=hx.zR;exact .jJ (by omega) fun j hj=>ih j (by omega) (h2 j (by omega))
 | fn hl h ih=>
  intro x hx;obtain ⟨vs,rfl,h1,h2⟩:=hx.Cu;exact .fn (by omega) fun j hj=>ih j (by omega) (h2 j (by omega))
theorem ZA.rep {p:Own} {x y:bJ} (h:ZA x y) (hx:eT w I O D p x):eT w I O D p y:=by
 cases x with
 | map=>cases y<;>exact h.elim
 | box cs=>cases y with
  | row=>exact h.elim
  | map=>exact h.elim
  | box cs'=>
   obtain ⟨h1,b,bo,sz,hp,ha,hl,hr⟩:=hx
   obtain ⟨h2,h3⟩:=vR _ _ h
   exact ⟨h1,b,bo,sz,hp,ha,by omega,fun j hj=>(h3 j (by omega)).rep (hr j (by omega))⟩
 | row es n g=>cases y with
  | box=>exact h.elim
  | map=>exact h.elim
  | row es' n' g'=>
   obtain ⟨rfl,rfl,h⟩:=h
   obtain ⟨h1,h2,h3,h4⟩:=hx
   refine ⟨h1,h2,fun i hi=>by rw [← (SQ (w:=w) (I:=I) (h i hi)).2.1]; exact h3 i hi,?_⟩
   rcases h4 with h4 | ⟨b,bo,sz,hp,ha,hl,hr⟩
   ·exact .inl h4
   ·exact .inr ⟨b,bo,sz,hp,ha,hl,fun i j hi hj=>⟨(SQ (h i hi)).2.2 j (by rw [h3 i hi]; exact hj) _ (hr i j hi hj).1,(hr i j hi hj).2⟩⟩
theorem U7:∀(l m:List bJ),ZB l m→l.length=m.length∧∀j x y,hof l j=some x→hof m j=some y→ZA x y:=by
 intro l;induction l with
 | nil=>intro m h; cases m with
  | nil=>exact ⟨rfl,fun j x y h=>by cases h⟩
  | cons=>exact h.elim
 | cons u l ih=>intro m h; cases m with
  | nil=>exact h.elim
  | cons v m=>
   obtain ⟨h1,h2⟩:=ih m h.2
   refine ⟨by simp [h1],fun j x y hx hy=>?_⟩
   cases j with
   | zero=>cases hx; cases hy; exact h.1
   | succ j=>exact h2 j x y hx hy
theorem Ui:∀(l:List bJ) (j:Nat),hof l j=none↔l.length≤j:=by
 intro l;induction l with
 | nil=>intro j; simp [hof]
 | cons x l ih=>intro j; cases j with
  | zero=>simp [hof]
  | succ j=>simp [hof,ih]
theorem Spec.le {P:Program} {cfg:qm} {f:FuncId} {args args':List AV} {obs obs':List bJ} {r:AV} {ob2:List bJ} (h:Ab.Spec P cfg f args' obs' r ob2) (ha:Iw args args') (ho:ZB obs obs'):Ab.Spec P cfg f args obs r ob2:=by
 obtain ⟨h1,h2,h3⟩:=h;obtain ⟨a1,a2⟩:=vR _ _ ha;obtain ⟨o1,o2⟩:=U7 _ _ ho;refine ⟨h1,by omega,fun w I O vals hR hv hrep=>?_⟩;have hR':Rel cfg (BK w I O obs'.length) (hof obs') (fun o=>o<obs'.length) w I O:=by
  rw [← o1];exact { hR with
   dom:=fun o=>by rw [hR.dom o,Ui,Ui,o1]
   objs:=fun o y p hy hp=>by
    cases hx:hof obs o with
    | none=>rw [(hR.dom o).2 hx] at hp; cases hp
    | some x=>exact (o2 o x y hx hy).rep (hR.objs o x p hx hp)
   maps:=fun o kd z f p b bo sz hy hp hpl=>by
    cases hx:hof obs o with
    | none=>rw [(hR.dom o).2 hx] at hp; cases hp
    | some x=>
     have:=o2 o x _ hx hy
     cases x<;>exact this.elim }
 have:=h3 w I O vals hR' (by omega) (fun j hj=>by rw [← o1]; exact (a2 j (by omega)).rep (hrep j (by omega)));rw [← o1] at this;exact this
end
end Go.Ab


namespace Go.Ab
section
variable {P:Program} {cfg:qm} {cx:Ctx} {N:Nat}
def jQ (ρ:List (Nat×Option Nat)) (H':iI) (O:OM):OM:=fun o'=>match hget H' o' with
 | none=>none
 | some y=>match ng ρ o' with
  | some o=>O o
  | none=>match y with
   | .row es _ _=>some ⟨es,0,none⟩
   | .box _=>none
   | .map .. => none
theorem Oe {H:iI} {o:Nat}:Lf H o=true↔∃x,hget H o=some x:=by
 unfold Lf;cases hget H o with
 | none=>simp
 | some x=>simp
theorem yO {α:Type}:∀(l:List (Nat×α)) (k:Nat) (x:α),look l k=some x→(k,x)∈l:=by
 intro l;induction l with
 | nil=>intro k x h; cases h
 | cons p l ih=>
  intro k x h;obtain ⟨k',y⟩:=p;simp only [look] at h;cases hb:Nat.beq k' k with
  | true=>simp only [hb] at h; cases h; rw [Nat.eq_of_beq_eq_true hb]; simp
  | false=>simp only [hb] at h; exact List.mem_cons_of_mem _ (ih k x h)
theorem vG {H:iI} {o:Nat} {x:bJ} (h:hget H o=some x):look H o=some (some x):=by
 unfold hget at h;split at h
 ·rename_i y hy; cases h; exact hy
 ·cases h
theorem Uj {ρ:List (Nat×Option Nat)} {H' H:iI}:∀(l:iI),Wd ρ H' H l→∀o' y,(o',some y)∈l→
  (match ng ρ o' with
  | some o=>∃x,hget H o=some x∧Qd ρ H' x y
  | none=>∃es g,y=.row es 0 g):=by
 intro l;induction l with
 | nil=>intro _ o' y h; cases h
 | cons p l ih=>
  intro h o' y hm;obtain ⟨k,z⟩:=p;cases z with
  | none=>
   rcases List.mem_cons.1 hm with e | e
   ·cases e
   ·exact ih h o' y e
  | some z=>
   obtain ⟨h1,h2⟩:=h;rcases List.mem_cons.1 hm with e | e
   ·cases e;split
    ·rename_i o ho;rw [ho] at h1;simp only at h1;split at h1
     ·rename_i x hx; exact ⟨x,hx,h1⟩
     ·exact h1.elim
    ·rename_i ho;rw [ho] at h1;simp only at h1;split at h1
     ·rename_i es n g; subst h1; exact ⟨es,g,rfl⟩
     ·exact h1.elim
   ·exact ih h2 o' y e
structure Yw (ρ:List (Nat×Option Nat)) (H' H:iI):Prop where
 ren:∀o' y o,hget H' o'=some y→ng ρ o'=some o→∃x,hget H o=some x
 ghost:∀o' y,hget H' o'=some y→ng ρ o'=none→∃es g,y=.row es 0 g
structure Yx (ρ:List (Nat×Option Nat)) (H' H:iI):Prop where
 ren:∀o' y o,hget H' o'=some y→ng ρ o'=some o→∃x,hget H o=some x∧Qd ρ H' x y
 ghost:∀o' y,hget H' o'=some y→ng ρ o'=none→∃es g,y=.row es 0 g
theorem Uk {ρ:List (Nat×Option Nat)} {H' H:iI} (h:Wd ρ H' H H'):Yx ρ H' H where
 ren:=fun o' y o hy ho=>by
  have:=Uj H' h o' y (yO _ _ _ (vG hy));rw [ho] at this;exact this
 ghost:=fun o' y hy ho=>by
  have:=Uj H' h o' y (yO _ _ _ (vG hy));rw [ho] at this;exact this
theorem Yx.x {ρ:List (Nat×Option Nat)} {H' H:iI} (h:Yx ρ H' H):Yw ρ H' H where
 ren:=fun o' y o h1 h2=>let ⟨x,h3,_⟩:=h.ren o' y o h1 h2; ⟨x,h3⟩
 ghost:=h.ghost
theorem IK {ρ:List (Nat×Option Nat)} {H':iI}:∀(f:Nat) (l m:List AV),jv.embL ρ H' f l m→l.length=m.length∧∀j,j<m.length→∃f',f'<f∧jv ρ H' f' (nth l j) (nth m j):=by
 intro f;induction f with
 | zero=>intro l m h; exact absurd h (by simp [jv.embL])
 | succ f ih=>
  intro l m h;cases l with
  | nil=>cases m with
   | nil=>exact ⟨rfl,fun j hj=>by cases hj⟩
   | cons v m=>exact absurd h (by simp [jv.embL])
  | cons u l=>cases m with
   | nil=>exact absurd h (by simp [jv.embL])
   | cons v m=>
    simp only [jv.embL] at h
    obtain ⟨h1,h2⟩:=ih l m h.2
    refine ⟨by simp [h1],fun j hj=>?_⟩
    cases j with
    | zero=>exact ⟨f,Nat.lt_succ_self _,h.1⟩
    | succ j=>
     obtain ⟨f',h3,h4⟩:=h2 j (by simpa using hj)
     exact ⟨f',by omega,h4⟩
theorem GK {ρ:List (Nat×Option Nat)} {H' H:iI} {w:World} {I:Nat→Prop} {O:OM} {D D':Nat→Prop} (hd:∀o,O o=none↔hget H o=none) (hW:Yw ρ H' H):
  ∀(f:Nat) (u v:AV) (x:Value),Rep w I O D u x→jv ρ H' f u v→Rep w I (jQ ρ H' O) D' v x:=by
 have live:∀o' o,Lf H' o'=true→ng ρ o'=some o→∃p,O o=some p∧jQ ρ H' O o'=some p:=by
  intro o' o h1 h2;obtain ⟨y,hy⟩:=Oe.1 h1;obtain ⟨z,hz⟩:=hW.ren o' y o hy h2;cases ho:O o with
  | none=>rw [(hd o).1 ho] at hz; cases hz
  | some p=>exact ⟨p,rfl,by unfold jQ; rw [hy,h2]; exact ho⟩
 intro f;induction f using Nat.strongRecOn with
 | ind f ih=>
  intro u v x hr he;cases f with
  | zero=>exact absurd he (by simp [jv])
  | succ f=>
   have many:∀(cs cs':List AV) (vs:Array Value),vs.size=cs.length→(∀j,j<cs.length→Rep w I O D (nth cs j) (vs.getD j Go.undef))→jv.embL ρ H' f cs cs'→
     vs.size=cs'.length∧∀j,j<cs'.length→Rep w I (jQ ρ H' O) D' (nth cs' j) (vs.getD j Go.undef):=by
    intro cs cs' vs h1 h2 h3
    obtain ⟨h4,h5⟩:=IK f cs cs' h3
    refine ⟨by omega,fun j hj=>?_⟩
    obtain ⟨f',h6,h7⟩:=h5 j hj
    exact ih f' (by omega) _ _ _ (h2 j (by omega)) h7
   cases v with
   | undef=>exact .pure (.undef x)
   | bool b'=>
    cases u<;>simp only [jv] at he;subst he;rw [hr.iP]; exact .pure (.bool _)
   | int k n=>
    cases u<;>simp only [jv] at he;obtain ⟨rfl,rfl⟩:=he;rw [hr.fD]; exact .pure (.int _ _)
   | str s=>
    cases u<;>simp only [jv] at he;subst he;rw [hr.uM]; exact .pure (.str _)
   | wN=>
    cases u<;>simp only [jv] at he;cases hr with | pure h=>exact .pure h
   | ro cs=>
    cases u<;>simp only [jv] at he;exact (Le.roL he).rep (.pure hr.Lm)
   | sl es' n' f' g'=>
    cases u<;>simp only [jv] at he;rename_i es n fu g;obtain ⟨h0,h1,h2,h3⟩:=he;exact (Le.sl h0 h1 h2 h3).rep (.pure hr.xR)
   | ptr o' i' off'=>
    cases u<;>simp only [jv] at he;rename_i o i off;obtain ⟨h1,h2,rfl,rfl⟩:=he;obtain ⟨p,hp,hp'⟩:=live o' o h1 h2;obtain ⟨b,bo,sz,h3,h4,rfl⟩:=hr.l6 hp;exact .ptr hp' h3 h4
   | cu o' i' n' f'=>
    cases u<;>simp only [jv] at he
    ·rename_i es n fu g;obtain ⟨h1,hren,rfl,rfl,rfl,rfl⟩:=he;obtain ⟨y,hy⟩:=Oe.1 h1;obtain ⟨es',g',rfl⟩:=hW.ghost o' y hy hren;have hp:jQ ρ H' O o'=some ⟨es',0,none⟩:=by unfold jQ; rw [hy,hren]
     cases hr.xR with
     | sl b off vs hcap hfull ha hes hm hone hrr=>
      have hc:=hfull rfl;exact .cu hp (Nat.le_refl _) hcap (fun _=>hc) (fun h=>absurd hc h) (Nat.zero_le _)
    ·rename_i o i n fu;obtain ⟨h1,h2,rfl,rfl,h3⟩:=he;obtain ⟨p,hp,hp'⟩:=live o' o h1 h2;obtain ⟨a,cap,rfl,h4,h5,h6,h7⟩:=hr.kT hp;exact .cu hp' h4 h5 (fun h=>h6 (h3 h)) h7 (hr.Eh hp)
   | mref o'=>
    cases u<;>simp only [jv] at he;rename_i o;obtain ⟨h1,h2⟩:=he;obtain ⟨p,hp,hp'⟩:=live o' o h1 h2;obtain ⟨b,bo,sz,h3,rfl⟩:=hr.Lp hp;exact .mref hp' h3
   | agg cs'=>
    cases u<;>simp only [jv] at he;obtain ⟨vs,rfl,h1,h2⟩:=hr.rO;obtain ⟨h3,h4⟩:=many _ cs' vs h1 h2 he;exact .agg h3 h4
   | jJ cs'=>
    cases u<;>simp only [jv] at he;obtain ⟨vs,rfl,h1,h2⟩:=hr.zR;obtain ⟨h3,h4⟩:=many _ cs' vs h1 h2 he;exact .jJ h3 h4
   | fn g cs'=>
    cases u<;>simp only [jv] at he;obtain ⟨rfl,he⟩:=he;obtain ⟨vs,rfl,h1,h2⟩:=hr.Cu;obtain ⟨h3,h4⟩:=many _ cs' vs h1 h2 he;exact .fn h3 h4
theorem Yy {ρ:List (Nat×Option Nat)} {H' H:iI} {w:World} {I:Nat→Prop} {O:OM} {D D':Nat→Prop} (hd:∀o,O o=none↔hget H o=none) (hW:Yx ρ H' H) {x y:bJ} {p:Own} (h:eT w I O D p x) (he:Qd ρ H' x y):
  eT w I (jQ ρ H' O) D' p y:=by
 cases x with
 | box cs=>
  cases y with
  | row es n g=>exact he.elim
  | map kd z f=>exact he.elim
  | box cs'=>
   obtain ⟨h1,b,bo,sz,hp,ha,hl,hr⟩:=h;obtain ⟨h2,h3⟩:=IK _ cs cs' he;refine ⟨h1,b,bo,sz,hp,ha,by omega,fun j hj=>?_⟩;obtain ⟨f',_,h4⟩:=h3 j hj;exact GK hd hW.x f' _ _ _ (hr j (by omega)) h4
 | row es n g=>
  cases y with
  | box cs'=>exact he.elim
  | map kd z f=>exact he.elim
  | row es' n' g'=>
   have hO:eT w I (jQ ρ H' O) D' p (.row es n g):=by
    obtain ⟨h1,h2,h3,h4⟩:=h;refine ⟨h1,h2,h3,?_⟩;rcases h4 with h4 | ⟨b,bo,sz,hp,ha,hl,hr⟩
    ·exact .inl h4
    ·exact .inr ⟨b,bo,sz,hp,ha,hl,hr⟩
   exact ZA.rep (x:=.row es n g) (y:=.row es' n' g') he hO
 | map kd z f=>
  cases y with
  | box cs'=>exact he.elim
  | row es n g=>exact he.elim
  | map kd' z' f'=>
   obtain ⟨rfl,rfl,rfl⟩:=he;exact h
theorem QF {m nx:Nat} {ρ:List (Nat×Option Nat)}:∀(H:iI),FQ m nx ρ H=true→∀p∈H,p.1<nx∧(p.1<m→ng ρ p.1=some p.1):=by
 intro H;induction H with
 | nil=>intro _ p h; cases h
 | cons q H ih=>
  intro h p hp;obtain ⟨o',z⟩:=q;unfold FQ at h;cases h1:Nat.blt o' nx with
  | false=>simp [h1] at h
  | true=>
   simp only [h1] at h;have hlt:o'<nx:=by simpa using h1
   have rest:FQ m nx ρ H=true∧(o'<m→ng ρ o'=some o'):=by
    split at h
    ·rename_i o ho;split at h
     ·rename_i hb;have:=Nat.eq_of_beq_eq_true hb;subst this;exact ⟨h,fun _=>ho⟩
     ·split at h
      ·rename_i hle;have hle':=Nat.le_of_ble_eq_true hle;exact ⟨h,fun hlt=>by omega⟩
      ·cases h
    ·split at h
     ·rename_i hle;have hle':=Nat.le_of_ble_eq_true hle;exact ⟨h,fun hlt=>by omega⟩
     ·cases h
   rcases List.mem_cons.1 hp with e | e
   ·subst e; exact ⟨hlt,rest.2⟩
   ·exact ih rest.1 p e
theorem QG {ρ:List (Nat×Option Nat)}:∀(H:iI) (o' o:Nat) (y:bJ),(o',some y)∈H→ng ρ o'=some o→o∈Lg ρ H:=by
 intro H;induction H with
 | nil=>intro o' o y h; cases h
 | cons q H ih=>
  intro o' o y h hr;obtain ⟨k,z⟩:=q;rcases List.mem_cons.1 h with e | e
  ·cases e;simp only [Lg,hr];simp
  ·have:=ih o' o y e hr;cases z with
   | none=>exact this
   | some z=>
    simp only [Lg];split
    ·exact List.mem_cons_of_mem _ this
    ·exact this
theorem WQ {ρ:List (Nat×Option Nat)}:∀(H:iI),j6 (Lg ρ H)=true→∀o1 o2 o y1 y2,(o1,some y1)∈H→(o2,some y2)∈H→ng ρ o1=some o→ng ρ o2=some o→o1=o2:=by
 intro H;induction H with
 | nil=>intro _ o1 o2 o y1 y2 h; cases h
 | cons q H ih=>
  intro hnd o1 o2 o y1 y2 h1 h2 hr1 hr2;obtain ⟨k,z⟩:=q;have tail:j6 (Lg ρ H)=true∧∀y,z=some y→∀o,ng ρ k=some o→o ∉ Lg ρ H:=by
   cases z with
   | none=>exact ⟨hnd,fun y h=>by cases h⟩
   | some z=>
    simp only [Lg] at hnd;split at hnd
    ·rename_i oo hoo;unfold j6 at hnd;split at hnd
     ·cases hnd
     ·rename_i hm;refine ⟨hnd,fun y _ o ho=>?_⟩;rw [hoo] at ho;cases ho;exact qJ hm
    ·rename_i hnone;exact ⟨hnd,fun y _ o ho=>by rw [hnone] at ho; cases ho⟩
  rcases List.mem_cons.1 h1 with e1 | e1<;>rcases List.mem_cons.1 h2 with e2 | e2
  ·cases e1; cases e2; rfl
  ·cases e1; exact absurd (QG H o2 o y2 e2 hr2) (tail.2 _ rfl o hr1)
  ·cases e2; exact absurd (QG H o1 o y1 e1 hr1) (tail.2 _ rfl o hr2)
  ·exact ih tail.1 o1 o2 o y1 y2 e1 e2 hr1 hr2
theorem embT_get {ρ:List (Nat×Option Nat)} {H':iI} {T:List (Nat×AV)}:∀(l:List (Nat×AV)),ZC ρ H' T l→∀t,tget l t=.undef∨jv ρ H' fuel (tget T t) (tget l t):=by
 intro l;induction l with
 | nil=>intro _ t; exact .inl rfl
 | cons p l ih=>
  intro h t;obtain ⟨k,v⟩:=p;obtain ⟨h1,h2⟩:=h;unfold tget;simp only [look];cases hb:Nat.beq k t with
  | true=>
   have:=Nat.eq_of_beq_eq_true hb;subst this;exact .inr h1
  | false=>exact ih h2 t
theorem yP {m:Nat} {ρ:List (Nat×Option Nat)} {s s':St} {a:Act} {w:World} {I:Nat→Prop} {O:OM} (hS:fU cfg N m cx s a w I O) (h:Wh m ρ s s'):fU cfg N m cx s' a w I (jQ ρ s'.heap O):=by
 obtain ⟨hchk,htm,hhp⟩:=h;obtain ⟨hm,hR,hT,hMk⟩:=hS;have hW:=Uk hhp;unfold R6 at hchk;split at hchk
 ·rename_i hk hnd hun;have hle:m≤s'.nx:=Nat.le_of_ble_eq_true hchk;have hkeys:=QF _ hk;have inv:∀o' p,jQ ρ s'.heap O o'=some p→∃y,hget s'.heap o'=some y∧((∃o,ng ρ o'=some o∧O o=some p)∨p.pl=none):=by
   intro o' p hp;unfold jQ at hp;split at hp
   ·cases hp
   ·rename_i y hy;refine ⟨y,hy,?_⟩;split at hp
    ·rename_i o ho; exact .inl ⟨o,ho,hp⟩
    ·split at hp
     ·cases hp; exact .inr rfl
     ·cases hp
     ·cases hp
  refine ⟨hm,⟨?_,?_,?_,?_,?_,?_,hR.tu,hR.size,hR.frame,?_,hR.glob,hR.Gv,hR.JL,?_,?_,hR.env,fun o' kd z f p b bo sz q1 q2 q3=>?_⟩,⟨rfl,hT.size,fun t _=>?_,fun t h=>by cases h⟩,hMk⟩
  ·intro o';constructor
   ·intro h;cases hy:hget s'.heap o' with
    | none=>rfl
    | some y=>
     exfalso;unfold jQ at h;rw [hy] at h;simp only at h;split at h
     ·rename_i o ho;obtain ⟨x,hx,_⟩:=hW.ren o' y o hy ho;rw [(hR.dom o).1 h] at hx;cases hx
     ·rename_i ho;obtain ⟨es,g,rfl⟩:=hW.ghost o' y hy ho;cases h
   ·intro h;unfold jQ;rw [h]
  ·intro o' p hp;obtain ⟨y,hy,_⟩:=inv o' p hp;exact (hkeys _ (yO _ _ _ (vG hy))).1
  ·intro o' y p hy hp;unfold jQ at hp;rw [hy] at hp;simp only at hp;split at hp
   ·rename_i o ho;obtain ⟨x,hx,he⟩:=hW.ren o' y o hy ho;exact Yy hR.dom hW (hR.objs o x p hx hp) he
   ·rename_i ho;obtain ⟨es,g,rfl⟩:=hW.ghost o' y hy ho;cases hp;exact ⟨rfl,rfl,fun i hi=>absurd hi (Nat.not_lt_zero i),.inl ⟨rfl,rfl⟩⟩
  ·intro o1 o2 p1 p2 b bo sz b' bo' sz' h1 h2 hp1 hp2 hne;obtain ⟨y1,hy1,e1⟩:=inv o1 p1 h1;obtain ⟨y2,hy2,e2⟩:=inv o2 p2 h2;rcases e1 with ⟨q1,hr1,ho1⟩ | e1
   ·rcases e2 with ⟨q2,hr2,ho2⟩ | e2
    ·refine hR.inj q1 q2 p1 p2 b bo sz b' bo' sz' ho1 ho2 hp1 hp2 fun e=>?_;subst e;exact hne (WQ _ hnd o1 o2 q1 y1 y2 (yO _ _ _ (vG hy1)) (yO _ _ _ (vG hy2)) hr1 hr2)
    ·rw [e2] at hp2; cases hp2
   ·rw [e1] at hp1; cases hp1
  ·intro o p b bo sz h hp;obtain ⟨y,hy,⟨q,hr,ho⟩ | e⟩:=inv o p h
   ·exact hR.kG q p b bo sz ho hp
   ·rw [e] at hp; cases hp
  ·intro o p b bo sz h hp;obtain ⟨y,hy,⟨q,hr,ho⟩ | e⟩:=inv o p h
   ·exact hR.lt q p b bo sz ho hp
   ·rw [e] at hp; cases hp
  ·intro o p b bo sz h hp;obtain ⟨y,hy,⟨q,hr,ho⟩ | e⟩:=inv o p h
   ·exact hR.new q p b bo sz ho hp
   ·rw [e] at hp; cases hp
  ·intro o hlt;rw [hm] at hlt;cases hy:hget s'.heap o with
   | none=>exact .inr (by unfold jQ; rw [hy])
   | some y=>
    have:=(hkeys _ (yO _ _ _ (vG hy))).2 hlt;have e:jQ ρ s'.heap O o=O o:=by unfold jQ; rw [hy,this]
    rw [e];exact hR.Lj o (by rw [hm]; exact hlt)
  ·intro o hlt;rw [hm] at hlt;exact Nat.lt_of_lt_of_le hlt hle
  ·obtain ⟨y,hy,⟨q,hr,ho⟩ | e⟩:=inv o' p q2
   ·obtain ⟨x,hx,hxe⟩:=hW.ren o' _ q q1 hr;cases x with
    | box=>exact hxe.elim
    | row=>exact hxe.elim
    | map kd' z' f'=>exact hR.maps q kd' z' f' p b bo sz hx ho q3
   ·rw [e] at q3; cases q3
  ·rcases embT_get _ htm t with e | e
   ·rw [e]; exact .pure (.undef _)
   ·exact GK hR.dom hW.x _ _ _ _ (hT.rep t rfl) e
 ·cases hchk
end
end Go.Ab



namespace Go.Ab
section
variable {P:Program} {cfg:qm} {N:Nat} {cx:Ctx}
structure l8 (w' w:World):Prop where
 cell:∀a v,w.cell? a=some v→w'.cell? a=some v
 frozen:∀a,(w.cell? a).isSome=true→w'.frozen? a=w.frozen? a
 size:w.heap.size≤w'.heap.size
 maps:∀(b:Nat) (es:Array MapEntry) (c:Nat),w.heap[b]? = some (Obj.map es c)→w'.heap[b]? = some (Obj.map es c)
theorem PRep.turn {w w':World} (h:l8 w' w) {I:Nat→Prop} {v:AV} {x:Value} (hp:PRep w I v x):PRep w' I v x:=by
 induction hp with
 | undef x=>exact .undef x
 | bool b=>exact .bool b
 | int k n=>exact .int k n
 | str s=>exact .str s
 | wN=>exact .wN
 | sl b off vs hcap hfull ha hes hm h1 hr ih=>exact .sl b off vs hcap hfull ha hes (fun i j hi hj=>h.cell _ _ (hm i j hi hj)) h1 ih
 | ro b off vs hI hm hr ih=>exact .ro b off vs hI (fun j hj=>h.cell _ _ (hm j hj)) ih
 | agg hl hr ih=>exact .agg hl ih
 | fn hl hr ih=>exact .fn hl ih
 | jJ hl hr ih=>exact .jJ hl ih
theorem Rep.turn {w w':World} (h:l8 w' w) {I:Nat→Prop} {O:OM} {D:Nat→Prop} {v:AV} {x:Value} (hp:Rep w I O D v x):Rep w' I O D v x:=by
 induction hp with
 | pure hp=>exact .pure (hp.turn h)
 | ptr ho hp hi=>exact .ptr ho hp hi
 | cu ho hi hcap hfull hpl hext=>exact .cu ho hi hcap hfull hpl hext
 | AO ho hd h1=>exact .AO ho hd h1
 | yF ho hd h1=>exact .yF ho hd h1
 | mref ho hp=>exact .mref ho hp
 | Gu ho hd h1=>exact .Gu ho hd h1
 | agg hl hr ih=>exact .agg hl ih
 | fn hl hr ih=>exact .fn hl ih
 | jJ hl hr ih=>exact .jJ hl ih
theorem eT.turn {w w':World} (h:l8 w' w) {I:Nat→Prop} {O:OM} {D:Nat→Prop} {p:Own} {x:bJ} (hp:eT w I O D p x):eT w' I O D p x:=by
 have hal:∀b sz,Cq w b sz→Cq w' b sz:=fun b sz ha j hj=>by
  obtain ⟨h1,h2⟩:=ha j hj;obtain ⟨v,hv⟩:=Option.isSome_iff_exists.1 h1;rw [h.cell _ _ hv,h.frozen _ h1];exact ⟨rfl,h2⟩
 have hca:∀b sz j,Cq w b sz→j<sz→cellAt w' b j=cellAt w b j:=fun b sz j ha hj=>by
  obtain ⟨v,hv⟩:=Option.isSome_iff_exists.1 (ha j hj).1;unfold cellAt;rw [h.cell _ _ hv,hv]
 cases x with
 | box cs=>
  obtain ⟨h1,b,bo,sz,h2,h3,h4,h5⟩:=hp;exact ⟨h1,b,bo,sz,h2,hal b sz h3,h4,fun j hj=>by rw [hca b sz _ h3 (by omega)]; exact (h5 j hj).turn h⟩
 | row es n g=>
  obtain ⟨h1,h2,h3,h4⟩:=hp;refine ⟨h1,h2,h3,h4.imp id ?_⟩;rintro ⟨b,bo,sz,q1,q2,q3,q4⟩;exact ⟨b,bo,sz,q1,hal b sz q2,q3,fun i j hi hj=>by
   have hlt:i*es+j<n*es:=by
    have:(i+1)*es≤n*es:=Nat.mul_le_mul_right _ hi;rw [Nat.add_mul] at this;omega
   rw [hca b sz _ q2 (by omega)];exact ⟨(q4 i j hi hj).1.turn h,(q4 i j hi hj).2⟩⟩
 | map kd z f=>
  obtain ⟨h1,b,bo,sz,es,clock,q1,q2,q3⟩:=hp;exact ⟨h1,b,bo,sz,es,clock,q1,h.maps b es clock q2,q3⟩
theorem Rel.turn {H:Nat→Option bJ} {D:Nat→Prop} {w w':World} {I:Nat→Prop} {O:OM} (h:l8 w' w) (hfr:∀b,b<cx.w0.heap.size→w'.heap[b]? = w.heap[b]?) (he:yG cx w') (hR:Rel cfg cx H D w I O):Rel cfg cx H D w' I O where
 dom:=hR.dom
 used:=hR.used
 objs:=fun o ob p h1 h2=>(hR.objs o ob p h1 h2).turn h
 inj:=hR.inj
 kG:=hR.kG
 lt:=fun o p b bo sz h1 h2=>Nat.lt_of_lt_of_le (hR.lt o p b bo sz h1 h2) h.size
 tu:=fun b hb=>Nat.lt_of_lt_of_le (hR.tu b hb) h.size
 size:=Nat.le_trans hR.size h.size
 frame:=fun b h1 h2=>by rw [hfr b h1]; exact hR.frame b h1 h2
 new:=hR.new
 glob:=fun g cs hg=>(hR.glob g cs hg).turn h
 Gv:=hR.Gv
 JL:=hR.JL
 Lj:=hR.Lj
 Dm:=hR.Dm
 maps:=hR.maps
 env:=he
theorem fU.turn {m:Nat} {s:St} {a a':Act} {w w':World} {I:Nat→Prop} {O:OM} (h:l8 w' w) (hfr:∀b,b<cx.w0.heap.size→w'.heap[b]? = w.heap[b]?) (he:yG cx w') (ha:a'.tmps=a.tmps) (hm:Marks cx w' a'.defers) (hS:fU cfg N m cx s a w I O):fU cfg N m cx s a' w' I O:=
 ⟨hS.m,hS.rel.turn h hfr he,⟨rfl,by rw [ha]; exact hS.tmps.size,fun t ht=>by rw [ha]; exact (hS.tmps.rep t ht).turn h,fun t ht=>by cases ht⟩,hm⟩
theorem xV {w:World} {D:Nat} {o o':Obj} (h:w.heap[D]? = some o) (ho:Ef o=true) (hnm:∀es c,o≠.map es c:=by intro _ _ h; cases h):l8 (w.putObj D o') w:=by
 have hlt:D<w.heap.size:=by
  rcases Nat.lt_or_ge D w.heap.size with h1 | h1
  ·exact h1
  ·rw [Array.getElem?_eq_none h1] at h; cases h
 have hno:∀a:Addr,a.block=D→w.cell? a=none:=fun a e=>by
  unfold World.cell?;rw [e,h];cases o<;>first | rfl | exact absurd ho Bool.false_ne_true
 refine ⟨fun a v hv=>?_,fun a hv=>?_,by simp [World.putObj],fun b es c hb=>?_⟩
 ·by_cases e:a.block=D
  ·rw [hno a e] at hv; cases hv
  ·unfold World.cell? at hv ⊢;rw [World.putObj_heap_other e];exact hv
 ·by_cases e:a.block=D
  ·rw [hno a e] at hv; cases hv
  ·unfold World.frozen?;rw [World.putObj_heap_other e]
 ·by_cases e:b=D
  ·subst e;rw [h] at hb;exact absurd (Option.some.inj hb) (hnm es c)
  ·rw [World.putObj_heap_other e];exact hb
theorem Yz {w:World} {D:Nat} {o':Obj} (hD:cx.w0.heap.size≤D) (hK:∀k o,¬ cx.K k o) (he:yG cx w):yG cx (w.putObj D o'):=by
 refine ⟨⟨he.same.os,he.same.tape,he.same.output,fun k o hk ho=>?_⟩,fun k o h=>absurd h (hK k o)⟩;have hlt:k<cx.w0.heap.size:=by
  rcases Nat.lt_or_ge k cx.w0.heap.size with h1 | h1
  ·exact h1
  ·rw [Array.getElem?_eq_none h1] at hk; cases hk
 rw [World.putObj_heap_other (by omega)];exact he.same.keep k o hk ho
theorem uN {F:Fence} {n m:Nat} {fn:Func} {s:St} {R:Ending→World→Prop} (hK:∀k o,¬ cx.K k o)
  (fin:∀(a:Act) (w:World) (I:Nat→Prop) (O:OM),fU cfg N m cx s a w I O→∃v,(results fn a.tmps).run P w=.ok v w∧R (.returned v) w):
  ∀(ms:List Nat) (tmps:Array Value) (w:World) (I:Nat→Prop) (O:OM),ms.Nodup→(∀D∈ms,cx.w0.heap.size≤D∧w.heap[D]? = some (.deferred (some [])))→fU cfg N m cx s ⟨tmps,[]⟩ w I O→LeavesInM F n P fn tmps R (ms.map markOf) .returning w:=by
 intro ms;induction ms with
 | nil=>
  intro tmps w I O _ _ hS;exact fin _ w I O hS
 | cons D ms ih=>
  intro tmps w I O hnd hms hS;obtain ⟨hD1,hD2⟩:=hms D (List.mem_cons_self ..);rw [List.nodup_cons] at hnd;refine ⟨nofun,.inl ⟨D,w.putObj D (.deferred none),rfl,run_takeDeferred hD2,?_⟩⟩;refine ih tmps _ I O hnd.2 (fun D' hD'=>?_) ?_
  ·have hne:D'≠D:=fun e=>hnd.1 (e ▸ hD');rw [World.putObj_heap_other hne];exact hms D' (List.mem_cons_of_mem _ hD')
  ·exact hS.turn (xV hD2 rfl) (fun b hb=>World.putObj_heap_other (by omega)) (Yz hD1 hK hS.rel.env) rfl ⟨[],List.nodup_nil,fun _=>rfl,rfl,fun _ h=>by cases h⟩
end
end Go.Ab

namespace Go.Ab
section
variable {P:Program} {cfg:qm} {cx:Ctx} {N:Nat}
def QH (tmps:Array Value):ResultVar→Sem Value
 | .tmp t=>pure (tmps.getD t undef)
 | .cell a t=>do loadVar t (← asAddr (tmps.getD a undef))
theorem QI (hc:dY P cfg) {m:Nat} {s:St} {a:Act} {w:World} {I:Nat→Prop} {O:OM} (hS:fU cfg N m cx s a w I O):∀(rs:List ResultVar) (vs:List AV),AJ cfg s rs=some vs→
  ∃xs:List Value,(rs.mapM (QH a.tmps)).run P w=.ok xs w∧xs.length=vs.length∧∀j,j<vs.length→Rep w I O (fun o=>o<s.nx) (nth vs j) (xs.getD j Go.undef):=by
 intro rs;induction rs with
 | nil=>intro vs h; cases h; exact ⟨[],by simp,rfl,fun j hj=>by cases hj⟩
 | cons q rs ih=>
  intro vs h;cases q with
  | tmp t=>
   simp only [AJ] at h;split at h
   ·rename_i vs' hvs;cases h;obtain ⟨xs,h1,h2,h3⟩:=ih vs' hvs;refine ⟨a.tmps.getD t Go.undef::xs,?_,by simp [h2],fun j hj=>?_⟩
    ·rw [List.mapM_cons];simp [QH,h1]
    ·cases j with
     | zero=>exact hS.tmps.rep t rfl
     | succ j=>exact h3 j (by simpa using hj)
   ·cases h
  | cell ad ty=>
   simp only [AJ] at h;split at h
   ·rename_i vs' o ti hvs had hty;have key:∀(cs:List AV) (b bo sz:Nat),a.tmps.getD ad Go.undef=.pointer (some ⟨b,bo,none⟩)→Cq w b sz→bo+cs.length≤sz→(∀j,j<cs.length→Rep w I O (fun o=>o<s.nx) (nth cs j) (cellAt w b (bo+j)))→
      ∀v,dx (fun _ _ _ _ _=>True) (hget s.heap) (sZ ti cs) v [] []→∃xs:List Value,((ResultVar.cell ad ty::rs).mapM (QH a.tmps)).run P w=.ok xs w∧xs.length=(v::vs').length∧∀j,j<(v::vs').length→Rep w I O (fun o=>o<s.nx) (nth (v::vs') j) (xs.getD j Go.undef):=by
     intro cs b bo sz hgd hal hle hcs v hv
     obtain ⟨xs,h1,h2,h3⟩:=ih vs' hvs
     obtain ⟨_,x,hrun,hx⟩:=lC (w:=w) (I:=I) (O:=O) (D:=fun o=>o<s.nx) hc hty hv b bo (fun j=>cellAt w b (bo+j)) (fun j hj=>oh hal (by omega)) (fun j hj=>hcs j hj)
     have hrun':(loadVar ty ⟨b,bo,none⟩).run P w=.ok x w:=by
      have:=hrun
      simp [Instr.loadAt,Instr.sureAddr] at this
      exact this
     refine ⟨x::xs,?_,by simp [h2],fun j hj=>?_⟩
     ·rw [List.mapM_cons,Sem.run_bind]
      have e:(QH a.tmps (.cell ad ty)).run P w=.ok x w:=by
       unfold QH
       simp only
       rw [hgd]
       simp [asAddr,hrun']
      rw [e]
      simp [h1]
     ·cases j with
      | zero=>exact hx
      | succ j=>exact h3 j (by simpa using hj)
    have hrep:=hS.tmps.rep ad rfl;rw [had] at hrep;split at h
    ·rename_i cs hob;obtain ⟨p,hp,hO⟩:=hS.rel.live hob;obtain ⟨b,bo,sz,hpl,hi,hxv⟩:=hrep.l6 hp;obtain ⟨hn,b',bo',sz',hpl',hal,hle,hcs⟩:=hO;rw [hpl] at hpl';cases hpl';simp only [Nat.zero_mul,Nat.add_zero] at hxv;have key:=key cs b bo sz hxv hal hle hcs;split at h
     ·rename_i hag;split at h
      ·rename_i hsz;cases h;refine key _ ?_;unfold sZ;rw [hag];simp only [dL,hsz];exact .ret _ _
      ·cases h
     ·rename_i hag;split at h
      ·cases h;refine key _ ?_;unfold sZ;rw [hag];exact .ret _ _
      ·cases h
    ·rename_i es n g hob;obtain ⟨p,hp,hO⟩:=hS.rel.live hob;obtain ⟨b,bo,sz,hpl,hi,hxv⟩:=hrep.l6 hp;obtain ⟨hn,hes,hlen,hpl' | ⟨b',bo',sz',hpl',hal,hle,hcs⟩⟩:=hO
     ·rw [hpl] at hpl'; cases hpl'.2
     rw [hpl] at hpl';cases hpl';simp only [Nat.zero_mul,Nat.add_zero] at hxv;obtain ⟨hrl,hrr⟩:=Gy hlen hcs;have key:=key (iA n 0 g) b bo sz hxv hal (by omega) (fun j hj=>.pure (hrr j hj));split at h
     ·rename_i hag;split at h
      ·rename_i hsz;cases h;refine key _ ?_;unfold sZ;rw [hag];simp only [dL,hsz];exact .ret _ _
      ·cases h
     ·cases h
    ·cases h
   ·cases h
theorem JW (hc:dY P cfg) {m:Nat} {s:St} {a:Act} {w:World} {I:Nat→Prop} {O:OM} (hS:fU cfg N m cx s a w I O) {fn:Func} {vs:List AV} (h:AJ cfg s fn.results.toList=some vs):
  ∃x,(results fn a.tmps).run P w=.ok x w∧Rep w I O (fun o=>o<s.nx) (oneOf vs) x:=by
 obtain ⟨xs,h1,h2,h3⟩:=QI hc hS _ _ h;have hrun:(results fn a.tmps).run P w=.ok (if h:xs.toArray.size=1 then xs.toArray[0] else .tuple xs.toArray) w:=by
  have e0:results fn a.tmps=(fn.results.mapM (QH a.tmps)) >>= fun vs=>pure (if h:vs.size=1 then vs[0] else .tuple vs):=by
   unfold results;congr 1
  have e2:fn.results.mapM (QH a.tmps)=Functor.map List.toArray (fn.results.toList.mapM (QH a.tmps)):=by
   rw [← List.mapM_toArray]
  rw [e0,Sem.run_bind,e2,Sem.run_map,h1];rfl
 refine ⟨_,hrun,?_⟩;match xs,vs,h2,h3 with
 | [],[],_,_=>exact .jJ rfl fun j hj=>by cases hj
 | [x],[v],_,h3=>exact h3 0 (by simp)
 | x::x'::xs,v::v'::vs,h2,h3=>
  have:¬ (x::x'::xs).toArray.size=1:=by simp
  rw [dif_neg this]
  exact .jJ (by simpa using h2) fun j hj=>by simpa using h3 j hj
theorem QJ:∀(obs:List bJ) (i o:Nat),hget (zQ.obsUps obs i) o=if i≤o then hof obs (o - i) else none:=by
 intro obs;induction obs with
 | nil=>intro i o; simp [zQ.obsUps,hget,look,hof]
 | cons x l ih=>
  intro i o;unfold zQ.obsUps hget;simp only [look];cases hb:Nat.beq i o with
  | true=>
   have:=Nat.eq_of_beq_eq_true hb;subst this;simp [hof]
  | false=>
   have hne:i≠o:=fun e=>by subst e; simp at hb
   have:=ih (i+1) o;unfold hget at this;simp only;rw [this];by_cases hi:i≤o
   ·rw [if_pos hi,if_pos (by omega),show o - i=(o - (i+1))+1 by omega];rfl
   ·rw [if_neg hi,if_neg (by omega)]
theorem zW (obs:List bJ):hget (zQ.obsUps obs 0)=hof obs:=by
 funext o;rw [QJ];simp
theorem LK:∀(l:List AV) (i t:Nat),tget (AL l i) t=if i≤t then nth l (t - i) else .undef:=by
 intro l;induction l with
 | nil=>intro i t; simp [AL,tget,look,nth]
 | cons v l ih=>
  intro i t;unfold AL tget;simp only [look];cases hb:Nat.beq i t with
  | true=>
   have:=Nat.eq_of_beq_eq_true hb;subst this;simp [nth]
  | false=>
   have hne:i≠t:=fun e=>by subst e; simp at hb
   have:=ih (i+1) t;unfold tget at this;simp only;rw [this];by_cases hi:i≤t
   ·rw [if_pos hi,if_pos (by omega),show t - i=(t - (i+1))+1 by omega];rfl
   ·rw [if_neg hi,if_neg (by omega)]
theorem U8:∀(n i:Nat),(upTo n i).length=n∧∀j,j<n→nthN (upTo n i) j=i+j:=by
 intro n;induction n with
 | zero=>intro i; exact ⟨rfl,fun j hj=>by cases hj⟩
 | succ n ih=>
  intro i;obtain ⟨h1,h2⟩:=ih (i+1);refine ⟨by simp [upTo,h1],fun j hj=>?_⟩;cases j with
  | zero=>rfl
  | succ j=>show nthN (upTo n (i+1)) j=_; rw [h2 j (by omega)]; omega
theorem Nf (l m:List Nat) (j:Nat) (h:j<l.length):nthN (l++m) j=nthN l j:=by
 induction l generalizing j with
 | nil=>cases h
 | cons x l ih=>cases j with
  | zero=>rfl
  | succ j=>exact ih j (by simpa using h)
theorem QK {H:iI}:∀(sg:List Nat) (obs:List bJ),Lh H sg obs→obs.length=sg.length∧∀j,j<sg.length→∃x y,hget H (nthN sg j)=some x∧hof obs j=some y∧KJ x=true∧Qd [] [] x y:=by
 intro sg;induction sg with
 | nil=>intro obs h; cases obs with
  | nil=>exact ⟨rfl,fun j hj=>by cases hj⟩
  | cons=>exact h.elim
 | cons o sg ih=>intro obs h; cases obs with
  | nil=>exact h.elim
  | cons y obs=>
   obtain ⟨h1,h2⟩:=h
   obtain ⟨h3,h4⟩:=ih obs h2
   refine ⟨by simp [h3],fun j hj=>?_⟩
   cases j with
   | zero=>
    split at h1
    ·rename_i x hx
     split at h1
     ·rename_i hp; exact ⟨x,y,hx,rfl,hp,h1⟩
     ·exact h1.elim
    ·exact h1.elim
   | succ j=>exact h4 j (by simpa using hj)
theorem WR:Yw [] [] [] where
 ren:=fun _ _ _ h=>by cases h
 ghost:=fun _ _ h=>by cases h
theorem eT.ZL {w:World} {I I':Nat→Prop} {O O':OM} {D D':Nat→Prop} {p:Own} {x y:bJ} (hI:∀b,I b→I' b) (h:eT w I O D p x) (hp:KJ x=true) (he:Qd [] [] x y):eT w I' O' D' p y:=by
 cases x with
 | box cs=>
  cases y with
  | row es n g=>exact he.elim
  | map kd z f=>exact he.elim
  | box cs'=>
   obtain ⟨h1,b,bo,sz,hpl,ha,hl,hr⟩:=h;obtain ⟨h2,h3⟩:=IK _ cs cs' he;refine ⟨h1,b,bo,sz,hpl,ha,by omega,fun j hj=>?_⟩;obtain ⟨f',_,h4⟩:=h3 j hj;have hx:=(hr j (by omega)).rZ (xU hp j (by omega));have hy:Rep w I (jQ [] [] fun _=>none) (fun _=>False) (nth cs' j) (cellAt w b (bo+j)):=GK (H:=[]) (O:=fun _=>none) (D:=fun _=>False) (fun o=>by simp [hget,look]) WR f' _ _ _ (.pure hx) h4;have e:(jQ [] [] fun _=>none)=(fun _=>none:OM):=by funext o; simp [jQ,hget,look]
   rw [e] at hy;exact .pure ((wU hy).mono hI fun _ _=>rfl)
 | row es n g=>
  cases y with
  | box cs'=>exact he.elim
  | map kd z f=>exact he.elim
  | row es' n' g'=>
   have hO:eT w I' O' D' p (.row es n g):=by
    obtain ⟨h1,h2,h3,h4⟩:=h;refine ⟨h1,h2,h3,?_⟩;rcases h4 with h4 | ⟨b,bo,sz,hp,ha,hl,hr⟩
    ·exact .inl h4
    ·exact .inr ⟨b,bo,sz,hp,ha,hl,fun i j hi hj=>⟨(hr i j hi hj).1.mono hI fun _ _=>rfl,(hr i j hi hj).2⟩⟩
   exact ZA.rep (x:=.row es n g) (y:=.row es' n' g') he hO
 | map kd z f=>cases hp
theorem Rel.home {H:Nat→Option bJ} {D:Nat→Prop} {w:World} {I:Nat→Prop} {O:OM} (hR:Rel cfg cx H D w I O) {ex ids:List Nat} {obs:List bJ} (hnd:j6 (upTo cx.m 0++ex)=true) (hdj:Cj ids (upTo cx.m 0++ex)=true) (hl:obs.length=(upTo cx.m 0++ex).length)
  (hobs:∀j,j<(upTo cx.m 0++ex).length→∃x y,H (nthN (upTo cx.m 0++ex) j)=some x∧hof obs j=some y∧KJ x=true∧Qd [] [] x y):
  Rel cfg cx (hof obs) (fun o=>o<obs.length) w (fun b=>I b∨wM O ids b) (subO O (upTo cx.m 0++ex))∧∀o,o<cx.m→subO O (upTo cx.m 0++ex) o=cx.O0 o:=by
 have hup:=U8 cx.m 0;have hfst:∀j,j<cx.m→j<(upTo cx.m 0++ex).length∧nthN (upTo cx.m 0++ex) j=j:=fun j hj=>by
  refine ⟨by simp [hup.1]; omega,?_⟩;rw [Nf _ _ _ (by rw [hup.1]; exact hj),hup.2 j hj];simp
 generalize hsg:upTo cx.m 0++ex=sg at hnd hdj hl hobs hfst;have hsub:∀ {j p},subO O sg j=some p→j<sg.length∧O (nthN sg j)=some p:=fun h=>by
  unfold subO at h;split at h
  ·exact ⟨by assumption,h⟩
  ·cases h
 have hO0:∀o,o<cx.m→subO O sg o=cx.O0 o:=fun o ho=>by
  obtain ⟨h1,h2⟩:=hfst o ho;obtain ⟨x,y,h3,_⟩:=hobs o h1;rw [h2] at h3;unfold subO;rw [if_pos h1,h2];rcases hR.Lj o ho with e | e
  ·exact e
  ·rw [(hR.dom o).1 e] at h3; cases h3
 refine ⟨?_,hO0⟩;exact {
  maps:=fun j kd z f p b bo sz h h' _=>by
   obtain ⟨h1,_⟩:=hsub h'
   obtain ⟨x,y,_,h4,h5,h6⟩:=hobs j h1
   rw [h] at h4
   cases h4
   cases x with
   | map=>cases h5
   | box=>exact h6.elim
   | row=>exact h6.elim
  dom:=fun j=>by
   unfold subO
   by_cases hj:j<sg.length
   ·obtain ⟨x,y,h1,h2,_⟩:=hobs j hj
    obtain ⟨p,hp,_⟩:=hR.live h1
    simp [hj,h2,hp]
   ·rw [if_neg hj,hof_none obs j (by omega)]
    simp
  used:=fun j p h=>by have:=(hsub h).1; omega
  objs:=fun j ob p h h'=>by
   obtain ⟨h1,h2⟩:=hsub h'
   obtain ⟨x,y,h3,h4,h5,h6⟩:=hobs j h1
   rw [h] at h4
   cases h4
   exact (hR.objs _ _ p h3 h2).ZL (fun _ h=>.inl h) h5 h6
  inj:=fun j j' p p' b bo sz b' bo' sz' h1 h2 h3 h4 h5=>by
   obtain ⟨q1,q2⟩:=hsub h1
   obtain ⟨q3,q4⟩:=hsub h2
   exact hR.inj _ _ p p' b bo sz b' bo' sz' q2 q4 h3 h4 (fun e=>h5 (zU sg hnd j j' q1 q3 e))
  kG:=fun j p b bo sz h1 h2 h3=>by
   obtain ⟨q1,q2⟩:=hsub h1
   rcases h3 with h3 | ⟨o',p',bo',sz',q3,q4,q5⟩
   ·exact hR.kG _ p b bo sz q2 h2 h3
   ·exact hR.inj _ o' p p' b bo sz b bo' sz' q2 q4 h2 q5 (fun e=>FT ids sg hdj o' q3 (e ▸ lD sg j q1)) rfl
  lt:=fun j p b bo sz h1 h2=>hR.lt _ p b bo sz (hsub h1).2 h2
  tu:=(hR.freeze ids).tu
  size:=hR.size
  frame:=hR.frame
  env:=hR.env
  new:=fun j p b bo sz h1 h2=>hR.new _ p b bo sz (hsub h1).2 h2
  glob:=(hR.freeze ids).glob
  Gv:=fun b h=>.inl (hR.Gv b h)
  JL:=(hR.freeze ids).JL
  Lj:=fun o ho=>.inl (hO0 o ho)
  Dm:=fun o ho=>by have:=(hfst o ho).1; omega }
theorem Pm (hc:dY P cfg) {f:FuncId} {fn:Func} {c:Code} {args:List AV} {obs:List bJ} {r:AV} {obs':List bJ} (hf:P.funcs[f]? = some fn) (hb:fn.body=some c) (hnm:(fn.name == "runtime.NumGoroutine")=false)
  (hN:args.length≤fn.ntmps) (hle:obs.length≤obs'.length)
  (h:Good P cfg fn.ntmps none obs.length c ⟨AL args 0,zQ.obsUps obs 0,obs.length⟩ (zQ cfg (Spec P cfg) fn.results.toList obs.length r obs')):Spec P cfg f args obs r obs':=by
 refine ⟨⟨fn,hf,by rw [hb]; rfl,hnm⟩,hle,fun w I O vals hR hvs hrep=>?_⟩;refine (callsIn_wide (n:=0)).1 (callsIn_of_wp_marks hf hb trivial ?_);have hS:fU cfg fn.ntmps obs.length (BK w I O obs.length) ⟨AL args 0,zQ.obsUps obs 0,obs.length⟩ { tmps:=vals++Array.replicate (fn.ntmps - vals.size) undef,defers:=[] } w I O:=by
  refine ⟨rfl,?_,⟨rfl,by simp; omega,fun t _=>?_,fun t h=>by cases h⟩,⟨[],List.nodup_nil,fun _=>rfl,rfl,fun _ h=>by cases h⟩⟩
  ·rw [zW]; exact hR
  ·rw [LK];simp only [Nat.zero_le,if_true,Nat.sub_zero];by_cases ht:t<args.length
   ·have e:(vals++Array.replicate (fn.ntmps - vals.size) undef).getD t Go.undef=vals.getD t Go.undef:=by
     have:t<vals.size:=by omega
     simp [Array.getElem?_append_left this]
    rw [e];exact hrep t ht
   ·have e:nth args t=.undef:=by
     rw [nS];simp [List.getElem?_eq_none (Nat.le_of_not_lt ht)]
    rw [e];exact .pure (.undef _)
 refine wpIn_mono (h 0 _ _ w I O hS rfl) ?_;intro e a0 w0 ⟨s,I0,O0,hK,hS0⟩;have main:∀(a':Act) (w':World) (I':Nat→Prop) (O':OM),fU cfg fn.ntmps obs.length (BK w I O obs.length) s a' w' I' O'→(∃vs,AJ cfg s fn.results.toList=some vs∧ev (Spec P cfg) [] (hget s.heap) (Ed (upTo obs.length 0++OX obs.length r (oneOf vs)) (oneOf vs) fun v' ids=>dL (j6 (upTo obs.length 0++OX obs.length r (oneOf vs))) (dL (Cj ids (upTo obs.length 0++OX obs.length r (oneOf vs))) (ig v'))) []
   fun v' _ _=>jv [] (zQ.obsUps obs' 0) fuel v' r∧Lh s.heap (upTo obs.length 0++OX obs.length r (oneOf vs)) obs')→∃v,(results fn a'.tmps).run P w'=.ok v w'∧∃x I'' O'',Ending.returned v=.returned x∧Rel cfg (BK w I O obs.length) (wO obs') (fun o=>o<obs'.length) w' I'' O''∧
   Rep w' I'' O'' (fun o=>o<obs'.length) r x:=by
  rintro a' w' I' O' hS' ⟨vs,hvs,hev⟩
  obtain ⟨x,hrun,hx⟩:=JW hc hS' hvs
  refine ⟨x,hrun,x,?_⟩
  obtain ⟨v',ups,rds,⟨h1,h2⟩,_,h3⟩:=KQ _ _ _ _ _ hev
  obtain ⟨rr,h4,_⟩:=h3 (fun q hq=>by cases hq)
  obtain ⟨h5,h6⟩:=QK _ _ h2
  obtain ⟨u',ids,r',h7,h8⟩:=E5 hS'.rel (fun j hj=>let ⟨x,y,h9,_⟩:=h6 j hj; ⟨x,h9⟩) h4
  obtain ⟨hnd,h7⟩:=h7.bg
  obtain ⟨hdj,h7⟩:=h7.bg
  obtain ⟨rfl,_⟩:=h7.cZ
  obtain ⟨h10,h11⟩:=Rel.home hS'.rel hnd hdj h5 h6
  have hgn:wO obs'=hof obs':=Ye fun j y hy=>by
   have hj:j<(upTo obs.length 0++OX obs.length r (oneOf vs)).length:=by
    rcases Nat.lt_or_ge j obs'.length with h | h
    ·omega
    ·rw [hof_none _ _ h] at hy; cases hy
   obtain ⟨q,y',_,q2,q3,q4⟩:=h6 j hj
   rw [hy] at q2
   cases q2
   cases y with
   | map=>cases q<;>first | exact q4.elim | cases q3
   | _=>rfl
  refine ⟨_,_,rfl,by rw [hgn]; exact h10,?_⟩
  have hdom:=h10.dom
  rw [← zW obs'] at hdom
  have hX:Yw [] (zQ.obsUps obs' 0) (zQ.obsUps obs' 0):=⟨fun o' y o hy ho=>by cases ho; exact ⟨y,hy⟩,fun o' y hy ho=>by cases ho⟩
  have:=GK (D':=fun o=>o<obs'.length) hdom hX fuel _ _ x (h8 x hx) h1
  have e:jQ [] (zQ.obsUps obs' 0) (subO O' (upTo obs.length 0++OX obs.length r (oneOf vs)))=subO O' (upTo obs.length 0++OX obs.length r (oneOf vs)):=by
   funext o
   unfold jQ
   split
   ·rename_i hn; exact ((hdom o).2 hn).symm
   ·rfl
  exact e ▸ this
 have hret:∀(a':Act) (w':World) (I':Nat→Prop) (O':OM),fU cfg fn.ntmps obs.length (BK w I O obs.length) s a' w' I' O'→∀vs,AJ cfg s fn.results.toList=vs→(match vs with
   | some vs=>match oneOf vs with
    | v=>match upTo obs.length 0++OX obs.length r v with
     | sg=>ev (Spec P cfg) [] (hget s.heap) (Ed sg v fun v' ids=>dL (j6 sg) (dL (Cj ids sg) (ig v'))) [] fun v' _ _=>jv [] (zQ.obsUps obs' 0) fuel v' r∧Lh s.heap sg obs'
   | none=>False)→∃v,(results fn a'.tmps).run P w'=.ok v w'∧∃x I'' O'',Ending.returned v=.returned x∧Rel cfg (BK w I O obs.length) (wO obs') (fun o=>o<obs'.length) w' I'' O''∧
   Rep w' I'' O'' (fun o=>o<obs'.length) r x:=by
  intro a' w' I' O' hS' vs hvs h
  cases vs with
  | none=>exact h.elim
  | some vs=>exact main a' w' I' O' hS' ⟨vs,hvs,h⟩
 obtain ⟨ms,hnd,_,hds,hms⟩:=hS0.marks;have hS1:=fU.turn (a:=a0) (w:=w0) (a':=⟨a0.tmps,[]⟩) ⟨fun _ _ h=>h,fun _ _=>rfl,Nat.le_refl _,fun _ _ _ h=>h⟩ (fun _ _=>rfl) hS0.rel.env rfl ⟨[],List.nodup_nil,fun _=>rfl,rfl,fun _ h=>by cases h⟩ hS0;cases e with
 | normal=>
  show LeavesInM _ _ _ _ _ _ a0.defers _ _;rw [hds];exact uN (cx:=BK w I O obs.length) (fun _ _ h=>h) (fun a w' I' O' hS'=>hret a w' I' O' hS' _ rfl hK) ms a0.tmps w0 I0 O0 hnd hms hS1
 | ret=>
  show LeavesInM _ _ _ _ _ _ a0.defers _ _;rw [hds];exact uN (cx:=BK w I O obs.length) (fun _ _ h=>h) (fun a w' I' O' hS'=>hret a w' I' O' hS' _ rfl hK) ms a0.tmps w0 I0 O0 hnd hms hS1
 | exit id=>exact hK.elim
 | goto l=>exact hK.elim
 | panic ch=>exact hK.elim
 | outgrown=>exact hK.elim
theorem U9 (hc:dY P cfg) {f:FuncId} {fn:Func} {c:Code} {ct:List Nat} {args:List AV} {obs:List bJ} {r:AV} {obs':List bJ} (hf:P.funcs[f]? = some fn) (hb:fn.body=some c) (hnm:(fn.name == "runtime.NumGoroutine")=false)
  (hN:args.length≤fn.ntmps) (hok:fJ fn.ntmps c=true) (hle:obs.length≤obs'.length)
  (h:iZ cfg (Spec P cfg) ct (Loops P cfg fn.ntmps none obs.length) c ⟨AL args 0,zQ.obsUps obs 0,obs.length⟩ (zQ cfg (Spec P cfg) fn.results.toList obs.length r obs')):Spec P cfg f args obs r obs':=
 Pm hc hf hb hnm hN hle (jq hc c _ _ hok h)
end
end Go.Ab

namespace Go.Ab
section
variable {P:Program} {cfg:qm} {N:Nat} {cx:Ctx}
def WS (o es:Nat) (g:Nat→AV) (v:AV):AV:=match v with
 | .cu o' i n f=>match Nat.beq o' o with
  | true=>.sl es n f (kP i g)
  | false=>.cu o' i n f
 | v=>v
def Va (o es:Nat) (g:Nat→AV):List AV→List AV
 | []=>[]
 | v::l=>WS o es g v::Va o es g l
def WT (o es:Nat) (g:Nat→AV) (v:AV):AV:=match v with
 | .agg cs=>.agg (Va o es g cs)
 | v=>WS o es g v
def QL (o es:Nat) (g:Nat→AV):List AV→List AV
 | []=>[]
 | v::l=>WT o es g v::QL o es g l
def YA (o es:Nat) (g:Nat→AV) (v:AV):AV:=match v with
 | .jJ cs=>.jJ (QL o es g cs)
 | v=>WT o es g v
theorem GL (o es:Nat) (g:Nat→AV) (l:List AV):(Va o es g l).length=l.length:=by
 induction l with
 | nil=>rfl
 | cons v l ih=>simp [Va,ih]
theorem QM (o es:Nat) (g:Nat→AV):∀(l:List AV) (j:Nat),nth (Va o es g l) j=WS o es g (nth l j):=by
 intro l;induction l with
 | nil=>intro j; rfl
 | cons v l ih=>intro j; cases j with
  | zero=>rfl
  | succ j=>exact ih j
theorem Og (o es:Nat) (g:Nat→AV) (l:List AV):(QL o es g l).length=l.length:=by
 induction l with
 | nil=>rfl
 | cons v l ih=>simp [QL,ih]
theorem Vb (o es:Nat) (g:Nat→AV):∀(l:List AV) (j:Nat),nth (QL o es g l) j=WT o es g (nth l j):=by
 intro l;induction l with
 | nil=>intro j; rfl
 | cons v l ih=>intro j; cases j with
  | zero=>rfl
  | succ j=>exact ih j
def WU (o es:Nat) (g:Nat→AV):List (Nat×AV)→List (Nat×AV)
 | []=>[]
 | (t,v)::l=>(t,YA o es g v)::WU o es g l
theorem Vd (o es:Nat) (g:Nat→AV):∀(l:List (Nat×AV)) (t:Nat),tget (WU o es g l) t=YA o es g (tget l t):=by
 intro l;induction l with
 | nil=>intro t; rfl
 | cons p l ih=>
  intro t;obtain ⟨k,v⟩:=p;unfold WU tget;simp only [look];cases hb:Nat.beq k t with
  | true=>rfl
  | false=>exact ih t
theorem LM {H:Nat→Option bJ} {D:Nat→Prop} {w:World} {I:Nat→Prop} {O:OM} (hR:Rel cfg cx H D w I O) {o es n0:Nat} {g:Nat→AV} (ho:H o=some (.row es n0 g)) {v:AV} {x:Value} (h:Rep w I O D v x):
  Rep w (fun b=>I b∨wM O [o] b) (kill O [o]) D (WS o es g v) x:=by
 have dflt:Rep w (fun b=>I b∨wM O [o] b) (kill O [o]) D v x:=
  h.mono (fun _ h=>.inl h) (fun _ _=>rfl) (fun o' _=>by unfold kill; by_cases h0:o'∈[o]<;>simp [h0]) (fun _ h=>h) hR.used
 unfold WS;split
 ·rename_i o' i n f;split
  ·rename_i hb;have:=Nat.eq_of_beq_eq_true hb;subst this;have he:dx (fun _ _ _ _ _=>True) H (OJ 1 (.cu o' i n f) (fun u ids=>.ret u (dead ids))) (.sl es n f (kP i g)) (dead [o']) [o']:=.rd ho (.ret _ _);obtain ⟨u,ids,r',h1,h2⟩:=(yI hR 1).1 _ _ _ _ _ he;have hid:u=.sl es n f (kP i g)∧dead ids=dead [o']:=by
    have:=h1.iQ;exact ⟨this.1.symm,this.2.symm⟩
   have hids:ids=[o']:=by
    have h3:=hid.2;match ids,h3 with
    | [],h3=>cases h3
    | [a],h3=>simp [dead] at h3; rw [h3]
    | a::b::l,h3=>simp [dead] at h3
   rw [hids] at h2;rw [← hid.1];exact .pure (h2 x h)
  ·exact dflt
 ·exact dflt
theorem QN {H:Nat→Option bJ} {D:Nat→Prop} {w:World} {I:Nat→Prop} {O:OM} (hR:Rel cfg cx H D w I O) {o es n0:Nat} {g:Nat→AV} (ho:H o=some (.row es n0 g)) {v:AV} {x:Value} (h:Rep w I O D v x):
  Rep w (fun b=>I b∨wM O [o] b) (kill O [o]) D (WT o es g v) x:=by
 unfold WT;split
 ·obtain ⟨xs,rfl,hl,hr⟩:=h.rO;refine .agg (by rw [GL]; exact hl) fun j hj=>?_;rw [GL] at hj;rw [QM];exact LM hR ho (hr j hj)
 ·exact LM hR ho h
theorem YB {H:Nat→Option bJ} {D:Nat→Prop} {w:World} {I:Nat→Prop} {O:OM} (hR:Rel cfg cx H D w I O) {o es n0:Nat} {g:Nat→AV} (ho:H o=some (.row es n0 g)) {v:AV} {x:Value} (h:Rep w I O D v x):
  Rep w (fun b=>I b∨wM O [o] b) (kill O [o]) D (YA o es g v) x:=by
 unfold YA;split
 ·obtain ⟨xs,rfl,hl,hr⟩:=h.zR;refine .jJ (by rw [Og]; exact hl) fun j hj=>?_;rw [Og] at hj;rw [Vb];exact QN hR ho (hr j hj)
 ·exact QN hR ho h
end
end Go.Ab


namespace Go.Ab
section
variable {P:Program} {cfg:qm}
def LP (P:Program) (cfg:qm) (N:Nat) (r:Option Nat) (m:Nat) (c:Code) (s:St) (K:Exit→St→Prop):Prop:=
 ∃e0 s0,K e0 s0∧Good P cfg N r m c s (fun e s=>e=e0∧s=s0)
structure aaT (P:Program) (cfg:qm) (N:Nat) (r:Option Nat) (m:Nat) (c:Code) (s:St) (K:Exit→St→Prop):Prop where
 ok:LP P cfg N r m c s K
theorem LP.seq {N:Nat} {r:Option Nat} {m:Nat} {x y:Code} {s:St} {K:Exit→St→Prop} (h:LP P cfg N r m x s fun e s'=>match e with | .normal=>LP P cfg N r m y s' K | e=>K e s'):LP P cfg N r m (.seq x y) s K:=by
 obtain ⟨e1,s1,h1,h2⟩:=h;cases e1 with
 | normal=>
  obtain ⟨e0,s0,h3,h4⟩:=h1;refine ⟨e0,s0,h3,vQ (h2.mono fun e s' h=>?_)⟩;obtain ⟨rfl,rfl⟩:=h;exact h4
 | _=>
  refine ⟨_,s1,h1,vQ (h2.mono fun e s' h=>?_)⟩;obtain ⟨rfl,rfl⟩:=h;exact ⟨rfl,rfl⟩
end
end Go.Ab


namespace Go.Ab
section
variable {P:Program} {cfg:qm} {N:Nat} {cx:Ctx}
def WV (o es:Nat) (g:Nat→AV):Option bJ→Option bJ
 | some (.box cs)=>some (.box (Va o es g cs))
 | x=>x
def Oh (o es:Nat) (g:Nat→AV):iI→iI
 | []=>[]
 | (k,x)::l=>(k,WV o es g x)::Oh o es g l
def ZM (o:Nat) (s:St):St:=match hget s.heap o with
 | some (.row es _ g)=>⟨WU o es g s.tmps,(o,none)::Oh o es g s.heap,s.nx⟩
 | _=>s
def Oi:List Nat→St→St
 | [],s=>s
 | o::l,s=>Oi l (ZM o s)
theorem SS (o es:Nat) (g:Nat→AV):∀(l:iI) (k:Nat),look (Oh o es g l) k=(look l k).map (WV o es g):=by
 intro l;induction l with
 | nil=>intro k; rfl
 | cons p l ih=>
  intro k;obtain ⟨j,x⟩:=p;simp only [Oh,look];cases Nat.beq j k with
  | true=>rfl
  | false=>exact ih k
theorem SV (o es:Nat) (g:Nat→AV) (l:iI) (k:Nat):hget (Oh o es g l) k=WV o es g (hget l k):=by
 unfold hget;rw [SS];cases look l k with
 | none=>rfl
 | some x=>cases x with
  | none=>rfl
  | some y=>cases y<;>rfl
theorem SX {m:Nat} {s:St} {a:Act} {w:World} {I:Nat→Prop} {O:OM} (hS:fU cfg N m cx s a w I O) (o:Nat):∃I' O',fU cfg N m cx (ZM o s) a w I' O':=by
 unfold ZM;split
 ·rename_i es n0 g ho;obtain ⟨hm,hR,hT,hMk⟩:=hS;refine ⟨fun b=>I b∨wM O [o] b,kill O [o],hm,?_,⟨rfl,hT.size,fun t ht=>?_,hT.gone⟩,hMk⟩
  ·have hF:=hR.freeze [o];have e:∀o',hget ((o,none)::Oh o es g s.heap) o'=if o'=o then none else WV o es g (hget s.heap o'):=by
    intro o';rw [← SV];unfold hget;simp only [look];cases hb:Nat.beq o o' with
    | true=>have:=Nat.eq_of_beq_eq_true hb; subst this; simp
    | false=>
     have:o'≠o:=fun e=>by subst e; simp at hb
     simp [this]
   have e2:∀o',jk (hget s.heap) (dead [o]) o'=if o'=o then none else hget s.heap o':=by
    intro o';rw [yH];by_cases h:o'=o<;>simp [h]
   refine { hF with
    dom:=fun o'=>?_
    objs:=fun o' ob p hob hp=>?_
    maps:=fun o' kd z f p b bo sz hob hp hpl=>?_ }
   ·rw [hF.dom o',e,e2];by_cases h:o'=o
    ·simp [h]
    ·rw [if_neg h,if_neg h];cases hget s.heap o' with
     | none=>exact Iff.rfl
     | some y=>cases y<;>simp [WV]
   ·rw [e] at hob;by_cases h:o'=o
    ·rw [if_pos h] at hob; cases hob
    ·rw [if_neg h] at hob;have hk:kill O [o] o'=O o':=by unfold kill; simp [h]
     rw [hk] at hp;cases hy:hget s.heap o' with
     | none=>rw [hy] at hob; cases hob
     | some y=>
      rw [hy] at hob;have h2:=hF.objs o' y p (by rw [e2,if_neg h]; exact hy) (by rw [hk]; exact hp);cases y with
      | row es' n' g'=>cases hob; exact h2
      | map kd z f=>cases hob; exact h2
      | box cs=>
       cases hob;obtain ⟨h3,b,bo,sz,h4,h5,h6,h7⟩:=hR.objs o' (.box cs) p hy hp;refine ⟨h3,b,bo,sz,h4,h5,by rw [GL]; exact h6,fun j hj=>?_⟩;rw [GL] at hj;rw [QM];exact LM hR ho (h7 j hj)
   ·rw [e] at hob;by_cases h:o'=o
    ·rw [if_pos h] at hob; cases hob
    ·rw [if_neg h] at hob;cases hy:hget s.heap o' with
     | none=>rw [hy] at hob; cases hob
     | some y=>
      rw [hy] at hob;cases y with
      | row=>cases hob
      | box=>cases hob
      | map kd' z' f'=>
       cases hob;exact hF.maps o' kd z f p b bo sz (by rw [e2,if_neg h]; exact hy) hp hpl
  ·show Rep w _ _ _ (tget (WU o es g s.tmps) t) _;rw [Vd];exact YB hR ho (hT.rep t ht)
 ·exact ⟨I,O,hS⟩
theorem JX {m:Nat}:∀(l:List Nat) {s:St} {a:Act} {w:World} {I:Nat→Prop} {O:OM},fU cfg N m cx s a w I O→∃I' O',fU cfg N m cx (Oi l s) a w I' O':=by
 intro l;induction l with
 | nil=>intro s a w I O h; exact ⟨I,O,h⟩
 | cons o l ih=>
  intro s a w I O h;obtain ⟨I',O',h'⟩:=SX h o;exact ih h'
def IL (m:Nat) (ρ:List (Nat×Option Nat)) (os:List Nat) (s s':St):Prop:=Wh m ρ (Oi os s) s'
theorem FX {m:Nat} {ρ:List (Nat×Option Nat)} {os:List Nat} {s s':St} {a:Act} {w:World} {I:Nat→Prop} {O:OM} (hS:fU cfg N m cx s a w I O) (h:IL m ρ os s s'):∃I' O',fU cfg N m cx s' a w I' O':=by
 obtain ⟨I',O',h'⟩:=JX os hS;exact ⟨I',_,yP h' h⟩
end
end Go.Ab

namespace Go.Ab
section
variable {P:Program} {cfg:qm} {N:Nat} {cx:Ctx}
theorem Ng (hc:dY P cfg) {f:FuncId} {fn:Func} {c:Code} {args:List AV} {obs:List bJ} {r:AV} {obs':List bJ} {K:Exit→St→Prop} (hf:P.funcs[f]? = some fn) (hb:fn.body=some c) (hnm:(fn.name == "runtime.NumGoroutine")=false)
  (hN:args.length≤fn.ntmps) (hle:obs.length≤obs'.length)
  (h:Good P cfg fn.ntmps none obs.length c ⟨AL args 0,zQ.obsUps obs 0,obs.length⟩ K)
  (hend:∀e s,K e s→(e=.normal∨e=.ret)∧∀(cx:Ctx) (a':Act) (w':World) (I':Nat→Prop) (O':OM),cx.m=obs.length→fU cfg fn.ntmps obs.length cx s a' w' I' O'→∃v,(results fn a'.tmps).run P w'=.ok v w'∧∃I'' O'',Rel cfg cx (wO obs') (fun o=>o<obs'.length) w' I'' O''∧
    Rep w' I'' O'' (fun o=>o<obs'.length) r v):Spec P cfg f args obs r obs':=by
 refine ⟨⟨fn,hf,by rw [hb]; rfl,hnm⟩,hle,fun w I O vals hR hvs hrep=>?_⟩;refine (callsIn_wide (n:=0)).1 (callsIn_of_wp_marks hf hb trivial ?_);have hS:fU cfg fn.ntmps obs.length (BK w I O obs.length) ⟨AL args 0,zQ.obsUps obs 0,obs.length⟩ { tmps:=vals++Array.replicate (fn.ntmps - vals.size) undef,defers:=[] } w I O:=by
  refine ⟨rfl,?_,⟨rfl,by simp; omega,fun t _=>?_,fun t h=>by cases h⟩,⟨[],List.nodup_nil,fun _=>rfl,rfl,fun _ h=>by cases h⟩⟩
  ·rw [zW]; exact hR
  ·rw [LK];simp only [Nat.zero_le,if_true,Nat.sub_zero];by_cases ht:t<args.length
   ·have e:(vals++Array.replicate (fn.ntmps - vals.size) undef).getD t Go.undef=vals.getD t Go.undef:=by
     have:t<vals.size:=by omega
     simp [Array.getElem?_append_left this]
    rw [e];exact hrep t ht
   ·have e:nth args t=.undef:=by
     rw [nS];simp [List.getElem?_eq_none (Nat.le_of_not_lt ht)]
    rw [e];exact .pure (.undef _)
 refine wpIn_mono (h 0 _ _ w I O hS rfl) ?_;intro e a0 w0 ⟨s,I0,O0,hK,hS0⟩;obtain ⟨hex,hend⟩:=hend e s hK;have hret:∀(a':Act) (w':World) (I':Nat→Prop) (O':OM),fU cfg fn.ntmps obs.length (BK w I O obs.length) s a' w' I' O'→∃v,(results fn a'.tmps).run P w'=.ok v w'∧∃x I'' O'',Ending.returned v=.returned x∧Rel cfg (BK w I O obs.length) (wO obs') (fun o=>o<obs'.length) w' I'' O''∧
   Rep w' I'' O'' (fun o=>o<obs'.length) r x:=fun a' w' I' O' hS'=>by
  obtain ⟨v,h1,I'',O'',h2,h3⟩:=hend _ a' w' I' O' rfl hS'
  exact ⟨v,h1,v,I'',O'',rfl,h2,h3⟩
 obtain ⟨ms,hnd,_,hds,hms⟩:=hS0.marks;have hS1:=fU.turn (a:=a0) (w:=w0) (a':=⟨a0.tmps,[]⟩) ⟨fun _ _ h=>h,fun _ _=>rfl,Nat.le_refl _,fun _ _ _ h=>h⟩ (fun _ _=>rfl) hS0.rel.env rfl ⟨[],List.nodup_nil,fun _=>rfl,rfl,fun _ h=>by cases h⟩ hS0;cases e with
 | normal=>
  show LeavesInM _ _ _ _ _ _ a0.defers _ _;rw [hds];exact uN (cx:=BK w I O obs.length) (fun _ _ h=>h) (fun a w' I' O' hS'=>hret a w' I' O' hS') ms a0.tmps w0 I0 O0 hnd hms hS1
 | ret=>
  show LeavesInM _ _ _ _ _ _ a0.defers _ _;rw [hds];exact uN (cx:=BK w I O obs.length) (fun _ _ h=>h) (fun a w' I' O' hS'=>hret a w' I' O' hS') ms a0.tmps w0 I0 O0 hnd hms hS1
 | exit id=>rcases hex with h | h<;>cases h
 | goto l=>rcases hex with h | h<;>cases h
 | panic ch=>rcases hex with h | h<;>cases h
 | outgrown=>rcases hex with h | h<;>cases h
def WW (cfg:qm) (rs:List ResultVar) (m:Nat) (r:AV) (obs':List bJ) (e:Exit) (s:St):Prop:=
 match (match e with | .normal=>true | .ret=>true | _=>false) with
 | true=>∃fz ρ,match Oi fz s with
  | s'=>match AJ cfg s' rs with
   | some vs=>Wh m ρ s' ⟨[],Li obs' 0,obs'.length⟩∧jv ρ (Li obs' 0) fuel (oneOf vs) r
   | none=>False
 | false=>False
theorem Ve:∀(obs:List bJ) (i o:Nat),hget (Li obs i) o=if i≤o then wO obs (o - i) else none:=by
 intro obs;induction obs with
 | nil=>intro i o; simp [Li,hget,look,wO]
 | cons x l ih=>
  intro i o;unfold Li hget;simp only [look];cases hb:Nat.beq i o with
  | true=>
   have:=Nat.eq_of_beq_eq_true hb;subst this;simp only [Nat.le_refl,if_true,Nat.sub_self,wO];cases gz x<;>rfl
  | false=>
   have hne:i≠o:=fun e=>by subst e; simp at hb
   have:=ih (i+1) o;unfold hget at this;simp only;rw [this];by_cases h:i≤o
   ·rw [if_pos h,if_pos (by omega)];obtain ⟨k,hk⟩:∃k,o - i=k+1:=⟨o - i - 1,by omega⟩;rw [hk,show o - (i+1)=k by omega];rfl
   ·rw [if_neg h,if_neg (by omega)]
theorem SY (obs:List bJ):hget (Li obs 0)=wO obs:=by
 funext o;rw [Ve];simp
theorem WX (hc:dY P cfg) {fn:Func} {m:Nat} {r:AV} {obs':List bJ} {e:Exit} {s:St} (hm:m≤obs'.length) (h:WW cfg fn.results.toList m r obs' e s):(e=.normal∨e=.ret)∧∀(cx:Ctx) (a':Act) (w':World) (I':Nat→Prop) (O':OM),cx.m=m→fU cfg fn.ntmps m cx s a' w' I' O'→
  ∃v,(results fn a'.tmps).run P w'=.ok v w'∧∃I'' O'',Rel cfg cx (wO obs') (fun o=>o<obs'.length) w' I'' O''∧Rep w' I'' O'' (fun o=>o<obs'.length) r v:=by
 unfold WW at h;have he:(e=.normal∨e=.ret):=by
  cases e with
  | normal=>exact .inl rfl
  | ret=>exact .inr rfl
  | _=>exact h.elim
 refine ⟨he,fun cx a' w' I' O' hcm hS=>?_⟩;have h:∃fz ρ,match Oi fz s with
  | s'=>match AJ cfg s' fn.results.toList with
   | some vs=>Wh m ρ s' ⟨[],Li obs' 0,obs'.length⟩∧jv ρ (Li obs' 0) fuel (oneOf vs) r
   | none=>False:=by
  rcases he with rfl | rfl<;>exact h
 obtain ⟨fz,ρ,h⟩:=h;obtain ⟨I1,O1,hS1⟩:=JX fz hS;generalize Oi fz s=s' at h hS1;simp only at h;cases hv:AJ cfg s' fn.results.toList with
 | none=>rw [hv] at h; exact h.elim
 | some vs=>
  rw [hv] at h;obtain ⟨hE,hV⟩:=h;obtain ⟨x,hrun,hx⟩:=JW hc hS1 hv;have hS2:=yP hS1 hE;refine ⟨x,hrun,I1,jQ ρ (Li obs' 0) O1,?_,?_⟩
  ·have:=hS2.rel;rw [show hget (Li obs' 0)=wO obs' from SY obs'] at this;exact this
  ·exact GK hS1.rel.dom (Uk hE.heap).x fuel _ _ x hx hV
theorem qL (hc:dY P cfg) {f:FuncId} {fn:Func} {c:Code} {ct:List Nat} {args:List AV} {obs:List bJ} {r:AV} {obs':List bJ} (hf:P.funcs[f]? = some fn) (hb:fn.body=some c) (hnm:(fn.name == "runtime.NumGoroutine")=false)
  (hN:args.length≤fn.ntmps) (hok:fJ fn.ntmps c=true) (hle:obs.length≤obs'.length)
  (h:iZ cfg (Spec P cfg) ct (Loops P cfg fn.ntmps none obs.length) c ⟨AL args 0,zQ.obsUps obs 0,obs.length⟩ (WW cfg fn.results.toList obs.length r obs')):Spec P cfg f args obs r obs':=
 Ng hc hf hb hnm hN hle (jq hc c _ _ hok h) (fun _ _ hk=>WX hc hle hk)
end
end Go.Ab

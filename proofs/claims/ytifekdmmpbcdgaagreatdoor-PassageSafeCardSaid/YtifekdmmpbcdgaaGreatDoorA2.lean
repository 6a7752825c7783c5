/- A part of the proof. -/
import Derived.Test.YtifekdmmpbcdgaaGreatDoorA1
import Derived.Test.YtifekdmmpbcdgaaGreatDoorA0
import Derived.MapKept
import Derived.OrdersIn
import Derived.Sort.LoopGhostIn
set_option linter.defProp false
set_option linter.unusedVariables false
set_option linter.unusedSimpArgs false
namespace Go.Ab
section
variable {P:Program} {cfg:qX} {cx:Ctx} {H:Nat->Option cI} {D:Nat->Prop} {w:World} {I:Nat->Prop} {O:OM}
variable {cH:Nat} {o:Oper} {a:Act} {ρ:Operand->AV} {v:AV} {ups:ic} {r:ap0}
def TB {f:FuncId} {vals:Array Value} {next:Act->World->Prop} {Q:Exit->Act->World->Prop} (h:(execOp a.eval o).run P w=.ok (.enter f vals) w)
  (hc:Calls P f vals w λ e w'=>∃x,e=.returned x/\next (a.put o.dst x) w'):o.wp P a w next Q:=by
 unfold Oper.wp;rw[h];exact hc.mono λ e w' ⟨x,he,hn⟩=>by subst he;exact hn
variable {u:AV} {x:Value}
def Mm {w':World} {I':Nat->Prop} (h:cQ w I O D u x) (hm:NX u=true):eF w' I' u x:=by
 cases u<;>first | cases hm | skip
 ·rw[h.je];exact .bool _
 ·rw[h.eP];exact .int _ _
 rw[h.vS];exact .str _
variable {l:ap2}
def V1 (h:Rs l=true):∀j,j<l.length->NX (nth l j)=true:=by
 induction l with
 | nil=>intro j hj;cases hj
 | cons u l ih=>
  intro j hj;unfold Rs at h;cases hv:NX u with
  | false=>simp[hv]at h
  | true=>
   simp only[hv]at h;cases j with
   | zero=>exact hv
   | succ j=>exact ih h j (by simpa using hj)
def Mn {w':World} {I':Nat->Prop} (h:cQ w I O D u x) (hm:NY u=true):eF w' I' u x:=by
 cases u with
 | agg cs=>
  obtain⟨vs,rfl,hl,hr⟩:=h.nG;exact .agg hl λ j hj=>Mm (hr j hj) (V1 hm j hj)
 | _=>exact Mm h hm
def V2 (h:Rt l=true):∀j,j<l.length->NY (nth l j)=true:=by
 induction l with
 | nil=>intro j hj;cases hj
 | cons u l ih=>
  intro j hj;unfold Rt at h;cases hv:NY u with
  | false=>simp[hv]at h
  | true=>
   simp only[hv]at h;cases j with
   | zero=>exact hv
   | succ j=>exact ih h j (by simpa using hj)
def V3 {w':World} {I':Nat->Prop} (h:cQ w I O D u x) (hm:ZX u=true):eF w' I' u x:=by
 cases u with
 | fP cs=>
  obtain⟨vs,rfl,hl,hr⟩:=h.BM;exact .fP hl λ j hj=>Mn (hr j hj) (V2 hm j hj)
 | _=>exact Mn h hm
def aaz:∀(l:ap9) (j:Nat),j<l.length->∃x,hof l j=some x:=by
 intro l;induction l with
 | nil=>intro j hj;cases hj
 | cons x l ih=>intro j hj;cases j with
  | zero=>exact⟨x,rfl⟩
  | succ j=>exact ih j (by simpa using hj)
def Ju:∀(l:ap9) (j:Nat),l.length<=j->hof l j=none:=by
 intro l;induction l with
 | nil=>intro j _;rfl
 | cons x l ih=>intro j hj;cases j with
  | zero=>simp at hj
  | succ j=>exact ih j (by simpa using hj)
def Ev {α:Type}:∀(l m:List (Nat×α)) (k:Nat),look (l++m) k=match look l k with | some x=>some x | none=>look m k:=by
 intro l;induction l with
 | nil=>intro m k;rfl
 | cons p l ih=>
  intro m k;obtain⟨q,x⟩:=p;simp only[ajQ,look];cases Nat.beq q k<;>simp[ih]
def RE:∀(l:ap0) (obs:ap9) (j:Nat) (x:cI),lx l=true->j<l.length->hof obs j=some x->look (xf l obs) (dZ l j)=some (gz x):=by
 intro l;induction l with
 | nil=>intro obs j x _ hj;cases hj
 | cons y l ih=>
  intro obs j x hnd hj hx;cases obs with
  | nil=>cases hx
  | cons ob obs=>
   have hnd':lx l=true/\y ∉ l:=by
    unfold lx at hnd;cases hm:vR y l with
    | true=>simp[hm]at hnd
    | false=>simp only[hm]at hnd;exact⟨hnd,th hm⟩
   cases j with
   | zero=>simp[hof]at hx;subst hx;simp[xf,look,dZ]
   | succ j=>
    simp only[xf,look,dZ];have hne:Nat.beq y (dZ l j)=false:=by
     cases hb:Nat.beq y (dZ l j)with
     | false=>rfl
     | true=>exact absurd (aeK hb ▸ mS l j (by simpa using hj)) hnd'.2
    rw[hne];exact ih obs j x hnd'.1 (by simpa using hj) hx
def P4:∀(l:ap0) (obs:ap9) (k:Nat),(∀j,j<l.length->j<obs.length->dZ l j≠k)->look (xf l obs) k=none:=by
 intro l;induction l with
 | nil=>intro obs k _;cases obs<;>rfl
 | cons y l ih=>
  intro obs k h;cases obs with
  | nil=>rfl
  | cons ob obs=>
   simp only[xf,look];have hne:Nat.beq y k=false:=by
    cases hb:Nat.beq y k with
    | false=>rfl
    | true=>exact absurd (aeK hb) (h 0 (by simp) (by simp))
   rw[hne];exact ih obs k (λ j h1 h2=>h (j+1) (by simp;omega) (by simp;omega))
def V4:∀(n i:Nat),(iB n i).length=n:=by
 intro n;induction n with
 | zero=>intro i;rfl
 | succ n ih=>intro i;simp[iB,ih]
def V5:∀(n i j:Nat),j<n->dZ (iB n i) j=i+j:=by
 intro n;induction n with
 | zero=>intro i j h;omega
 | succ n ih=>
  intro i j h;cases j with
  | zero=>rfl
  | succ j=>
   show dZ (iB n (i+1)) j=_;rw[ih (i+1) j om];omega
def V6 (l m:ap0) (j:Nat) (h:j<l.length):dZ (l++m) j=dZ l j:=by
 induction l generalizing j with
 | nil=>cases h
 | cons x l ih=>cases j with
  | zero=>rfl
  | succ j=>exact ih j (by simpa using h)
def V7 (l m:ap0) (j:Nat) (h:l.length<=j):dZ (l++m) j=dZ m (j - l.length):=by
 induction l generalizing j with
 | nil=>rfl
 | cons x l ih=>cases j with
  | zero=>simp at h
  | succ j=>
   show dZ (l++m) j=_
   rw[ih j (by simpa using h)]
   simp
def P5:∀(l:ap0),(∀i j,i<l.length->j<l.length->dZ l i=dZ l j->i=j)->lx l=true:=by
 intro l;induction l with
 | nil=>intro _;rfl
 | cons x l ih=>
  intro h;unfold lx;have hm:vR x l=false:=by
   cases hb:vR x l with
   | false=>rfl
   | true=>
    have key:∀m:ap0,vR x m=true->∃j,j<m.length/\dZ m j=x:=by
     intro m;induction m with
     | nil=>intro h;cases h
     | cons y m ihm=>
      intro h;unfold vR at h;cases hxy:Nat.beq x y with
      | true=>exact⟨0,by simp,(aeK hxy).symm⟩
      | false=>
       rw[hxy]at h;obtain⟨j,h1,h2⟩:=ihm h;exact⟨j+1,by simpa using h1,h2⟩
    obtain⟨j,h1,h2⟩:=key l hb;have:=h 0 (j+1) (by simp) (by simpa using h1) h2.symm;omega
  rw[hm];refine ih λ i j hi hj e=>?_;have:=h (i+1) (j+1) (by simpa using hi) (by simpa using hj) e;omega
def Jv (sg:ap0) (l:ap2):(Ym sg l).length=l.length:=by
 induction l with
 | nil=>rfl
 | cons v l ih=>simp[Ym,ih]
def TC (sg:ap0):∀(l:ap2) (j:Nat),nth (Ym sg l) j=BH sg (nth l j):=by
 intro l;induction l with
 | nil=>intro j;rfl
 | cons v l ih=>intro j;cases j with
  | zero=>rfl
  | succ j=>exact ih j
def QN (sg:ap0) (l:ap2):(Tg sg l).length=l.length:=by
 induction l with
 | nil=>rfl
 | cons v l ih=>simp[Tg,ih]
def Yz (sg:ap0):∀(l:ap2) (j:Nat),nth (Tg sg l) j=BI sg (nth l j):=by
 intro l;induction l with
 | nil=>intro j;rfl
 | cons v l ih=>intro j;cases j with
  | zero=>rfl
  | succ j=>exact ih j
def YA (sg:ap0):∀(l:ap9) (j:Nat),hof (N1 sg l) j=(hof l j).map (PX sg):=by
 intro l;induction l with
 | nil=>intro j;rfl
 | cons v l ih=>intro j;cases j with
  | zero=>rfl
  | succ j=>exact ih j
def TF (h:Z0 l=true):∀j,j<l.length->ZZ (nth l j)=true:=by
 induction l with
 | nil=>intro j hj;cases hj
 | cons v l ih=>
  intro j hj;unfold Z0 at h;cases hv:ZZ v with
  | false=>simp[hv]at h
  | true=>
   simp only[hv]at h;cases j with
   | zero=>exact hv
   | succ j=>exact ih h j (by simpa using hj)
def YB (h:Xi l=true):∀j,j<l.length->Z1 (nth l j)=true:=by
 induction l with
 | nil=>intro j hj;cases hj
 | cons v l ih=>
  intro j hj;unfold Xi at h;cases hv:Z1 v with
  | false=>simp[hv]at h
  | true=>
   simp only[hv]at h;cases j with
   | zero=>exact hv
   | succ j=>exact ih h j (by simpa using hj)
def YC:∀(l:ap0) (x k:Nat),pI l x k=none->x ∉ l:=by
 intro l;induction l with
 | nil=>intro x k _ h;cases h
 | cons y l ih=>
  intro x k h hm;unfold pI at h;cases hb:Nat.beq y x with
  | true=>simp[hb]at h
  | false=>
   simp only[hb]at h;rcases ah0.1 hm with e | e
   ·subst e;simp at hb
   exact ih x (k+1) h e
def adJ:∀(l:ap9) (j:Nat) (x:cI),hof l j=some x->zE l j=gz x:=by
 intro l;induction l with
 | nil=>intro j x h;cases h
 | cons y l ih=>
  intro j x h;cases j with
  | zero=>cases h;rfl
  | succ j=>exact ih j x h
def YD {l:ap9} (h:Xj l=true):∀j x,hof l j=some x->ado x=true:=by
 induction l with
 | nil=>intro j x hx;cases hx
 | cons v l ih=>
  intro j x hx;unfold Xj at h;cases hv:ado v with
  | false=>simp[hv]at h
  | true=>
   simp only[hv]at h;cases j with
   | zero=>cases hx;exact hv
   | succ j=>exact ih h j x hx
def TG (sg:ap0):∀(l:ap2),(Ab.ZY sg l).length=l.length:=by
 intro l;induction l with
 | nil=>rfl
 | cons v l ih=>simp[Ab.ZY,ih]
def aaA (sg:ap0):∀(l:ap2) (j:Nat),nth (Ab.ZY sg l) j=Ab.Tf sg (nth l j):=by
 intro l;induction l with
 | nil=>intro j;rfl
 | cons v l ih=>intro j;cases j with
  | zero=>rfl
  | succ j=>exact ih j
def adK (h:okA l=true):∀j,j<l.length->adn (nth l j)=true:=by
 induction l with
 | nil=>intro j hj;cases hj
 | cons v l ih=>
  unfold okA at h;cases hv:adn v with
  | false=>rw[hv]at h;cases h
  | true=>
   rw[hv]at h;intro j hj;cases j with
   | zero=>exact hv
   | succ j=>exact ih h j (by simpa using hj)
section back
variable {w':World} {I':Nat->Prop} {O' On:OM} {n:Nat} {D2:Nat->Prop} {full:ap0}
def cQ.Tf (hlive:∀j,j<n->D2 (dZ full j)) (fK:∀j p,O' j=some p->j<n) (hon:∀j,j<n->On (dZ full j)=O' j) (hu:adn u=true) (h:cQ w' I' O' (λ k=>k<n) u x):cQ w' I' On D2 (Ab.Tf full u) x:=by
 cases u with
 | ptr j i off=>
  cases hj:O' j with
  | none=>
   have hlt:j<n:=by
    cases h with
    | pure h=>cases h
    | ptr ho=>rw[hj]at ho;cases ho
    | uh _ hd=>exact hd
   have h1:x.oneCell'=true:=by
    cases h with
    | pure h=>cases h
    | ptr ho=>rw[hj]at ho;cases ho
    | uh _ _ h1=>exact h1
   exact .uh (by rw[hon j hlt];exact hj) (hlive j hlt) h1
  | some p=>
   obtain⟨b,bo,sz,q1,q2,rfl⟩:=h.lA hj;exact .ptr (by rw[hon j (fK j p hj)];exact hj) q1 q2
 | bV j i m f=>
  cases hj:O' j with
  | none=>
   have hlt:j<n:=by
    cases h with
    | pure h=>cases h
    | bV ho=>rw[hj]at ho;cases ho
    | qY _ hd=>exact hd
   have h1:x.oneCell'=true:=by
    cases h with
    | pure h=>cases h
    | bV ho=>rw[hj]at ho;cases ho
    | qY _ _ h1=>exact h1
   exact .qY (by rw[hon j hlt];exact hj) (hlive j hlt) h1
  | some p=>
   obtain⟨aa,cap,rfl,q1,q2,q3,q4⟩:=h.jD hj;exact .bV (by rw[hon j (fK j p hj)];exact hj) q1 q2 q3 q4 (h.yD hj)
 | fn f cs=>cases hu
 | agg cs=>cases hu
 | fP cs=>cases hu
 | mref j=>
  cases hj:O' j with
  | none=>
   have hlt:j<n:=by
    cases h with
    | pure h=>cases h
    | mref ho=>rw[hj]at ho;cases ho
    | ue _ hd=>exact hd
   have h1:x.oneCell'=true:=by
    cases h with
    | pure h=>cases h
    | mref ho=>rw[hj]at ho;cases ho
    | ue _ _ h1=>exact h1
   exact .ue (by rw[hon j hlt];exact hj) (hlive j hlt) h1
  | some p=>
   obtain⟨b,bo,sz,q1,rfl⟩:=h.rb hj;exact .mref (by rw[hon j (fK j p hj)];exact hj) q1
 | _=>exact .pure (h.uk rfl)
def cQ.BH (hlive:∀j,j<n->D2 (dZ full j)) (fK:∀j p,O' j=some p->j<n) (hon:∀j,j<n->On (dZ full j)=O' j) (hu:ZZ u=true) (h:cQ w' I' O' (λ k=>k<n) u x):cQ w' I' On D2 (Ab.BH full u) x:=by
 cases u with
 | ptr j i off=>
  cases hj:O' j with
  | none=>
   have hlt:j<n:=by
    cases h with
    | pure h=>cases h
    | ptr ho=>rw[hj]at ho;cases ho
    | uh _ hd=>exact hd
   have h1:x.oneCell'=true:=by
    cases h with
    | pure h=>cases h
    | ptr ho=>rw[hj]at ho;cases ho
    | uh _ _ h1=>exact h1
   exact .uh (by rw[hon j hlt];exact hj) (hlive j hlt) h1
  | some p=>
   obtain⟨b,bo,sz,q1,q2,rfl⟩:=h.lA hj;exact .ptr (by rw[hon j (fK j p hj)];exact hj) q1 q2
 | bV j i m f=>
  cases hj:O' j with
  | none=>
   have hlt:j<n:=by
    cases h with
    | pure h=>cases h
    | bV ho=>rw[hj]at ho;cases ho
    | qY _ hd=>exact hd
   have h1:x.oneCell'=true:=by
    cases h with
    | pure h=>cases h
    | bV ho=>rw[hj]at ho;cases ho
    | qY _ _ h1=>exact h1
   exact .qY (by rw[hon j hlt];exact hj) (hlive j hlt) h1
  | some p=>
   obtain⟨aa,cap,rfl,q1,q2,q3,q4⟩:=h.jD hj;exact .bV (by rw[hon j (fK j p hj)];exact hj) q1 q2 q3 q4 (h.yD hj)
 | fn f cs=>
  obtain⟨xs,rfl,hl,hr⟩:=h.En;refine .fn (by rw[TG];exact hl) λ j hj=>?_;rw[TG]at hj;rw[aaA];exact(hr j hj).Tf hlive fK hon (adK hu j hj)
 | agg cs=>cases hu
 | fP cs=>cases hu
 | mref j=>
  cases hj:O' j with
  | none=>
   have hlt:j<n:=by
    cases h with
    | pure h=>cases h
    | mref ho=>rw[hj]at ho;cases ho
    | ue _ hd=>exact hd
   have h1:x.oneCell'=true:=by
    cases h with
    | pure h=>cases h
    | mref ho=>rw[hj]at ho;cases ho
    | ue _ _ h1=>exact h1
   exact .ue (by rw[hon j hlt];exact hj) (hlive j hlt) h1
  | some p=>
   obtain⟨b,bo,sz,q1,rfl⟩:=h.rb hj;exact .mref (by rw[hon j (fK j p hj)];exact hj) q1
 | _=>exact .pure (h.uk rfl)
def cQ.BI (hlive:∀j,j<n->D2 (dZ full j)) (fK:∀j p,O' j=some p->j<n) (hon:∀j,j<n->On (dZ full j)=O' j) (hu:Z1 u=true) (h:cQ w' I' O' (λ k=>k<n) u x):cQ w' I' On D2 (Ab.BI full u) x:=by
 cases u with
 | agg cs=>
  obtain⟨xs,rfl,hl,hr⟩:=h.nG;refine .agg (by rw[Jv];exact hl) λ j hj=>?_;rw[Jv]at hj;rw[TC];exact(hr j hj).BH hlive fK hon (TF hu j hj)
 | fP cs=>cases hu
 | undef=>exact cQ.BH (u:=.undef) hlive fK hon hu h
 | bool b=>exact cQ.BH (u:=.bool b) hlive fK hon hu h
 | int k n'=>exact cQ.BH (u:=.int k n') hlive fK hon hu h
 | str s=>exact cQ.BH (u:=.str s) hlive fK hon hu h
 | sl es m f g=>exact cQ.BH (u:=.sl es m f g) hlive fK hon hu h
 | ro cs=>exact cQ.BH (u:=.ro cs) hlive fK hon hu h
 | ptr o' i off=>exact cQ.BH (u:=.ptr o' i off) hlive fK hon hu h
 | bV o' i m f=>exact cQ.BH (u:=.bV o' i m f) hlive fK hon hu h
 | fn f cs=>exact cQ.BH (u:=.fn f cs) hlive fK hon hu h
 | yp=>exact cQ.BH (u:=.yp) hlive fK hon hu h
 | mref o=>exact cQ.BH (u:=.mref o) hlive fK hon hu h
 | pm a b c=>exact cQ.BH (u:=.pm a b c) hlive fK hon hu h
def cQ.adl (hlive:∀j,j<n->D2 (dZ full j)) (fK:∀j p,O' j=some p->j<n) (hon:∀j,j<n->On (dZ full j)=O' j) (hu:ah9 u=true) (h:cQ w' I' O' (λ k=>k<n) u x):cQ w' I' On D2 (Ab.adl full u) x:=by
 cases u with
 | fP cs=>
  obtain⟨xs,rfl,hl,hr⟩:=h.BM;refine .fP (by rw[QN];exact hl) λ j hj=>?_;rw[QN]at hj;rw[Yz];exact(hr j hj).BI hlive fK hon (YB hu j hj)
 | agg cs=>exact cQ.BI (u:=.agg cs) hlive fK hon hu h
 | undef=>exact cQ.BI (u:=.undef) hlive fK hon hu h
 | bool b=>exact cQ.BI (u:=.bool b) hlive fK hon hu h
 | int k n'=>exact cQ.BI (u:=.int k n') hlive fK hon hu h
 | str s=>exact cQ.BI (u:=.str s) hlive fK hon hu h
 | sl es m f g=>exact cQ.BI (u:=.sl es m f g) hlive fK hon hu h
 | ro cs=>exact cQ.BI (u:=.ro cs) hlive fK hon hu h
 | ptr o' i off=>exact cQ.BI (u:=.ptr o' i off) hlive fK hon hu h
 | bV o' i m f=>exact cQ.BI (u:=.bV o' i m f) hlive fK hon hu h
 | fn f cs=>exact cQ.BI (u:=.fn f cs) hlive fK hon hu h
 | yp=>exact cQ.BI (u:=.yp) hlive fK hon hu h
 | mref o=>exact cQ.BI (u:=.mref o) hlive fK hon hu h
 | pm a b c=>exact cQ.BI (u:=.pm a b c) hlive fK hon hu h
def eV.PX (hlive:∀j,j<n->D2 (dZ full j)) (fK:∀j p,O' j=some p->j<n) (hon:∀j,j<n->On (dZ full j)=O' j) {ob:cI} {p:Own} (hu:ado ob=true) (hg:NZ ob=false) (h:eV w' I' O' (λ k=>k<n) p ob):eV w' I' On D2 p (Ab.PX full ob):=by
 cases ob with
 | box cs=>
  obtain⟨q1,b,bo,sz,q2,q3,q4,q5⟩:=h;refine⟨q1,b,bo,sz,q2,q3,by rw[Jv];exact q4,λ j hj=>?_⟩;rw[Jv]at hj;rw[TC];exact(q5 j hj).BH hlive fK hon (TF hu j hj)
 | row es m g=>exact h
 | map kd z f=>exact h
def adL (full:ap0) (x:cI):gz (PX full x)=(gz x).map (PX full):=by
 cases x with
 | box=>rfl
 | row=>rfl
 | map kd z f=>
  simp only[PX,gz];cases NZ (.map kd z f)<;>rfl
end back
set_option maxHeartbeats 1000000 in
theorem TH (hR:Rel cfg cx H D w I O) (hn:Oa D cH) {f:FuncId} {args:ap2} {vals:Array Value} {sg0:ap0} (hrun:∀fn,P.funcs[f]? = some fn->fn.body.isNone=false->(fn.name == "runtime.NumGoroutine")=false->(execOp a.eval o).run P w=.ok (.enter f vals) w)
  (hvl:vals.size=args.length) (hva:∀j,j<args.length->cQ w I O D (nth args j) (vals.getD j Go.undef)) (h:dg (Spec P cfg) H (NC cH f args sg0) v ups r):dh P cfg cx H D w I O cH o a v ups:=by
 unfold NC at h;obtain⟨sg,r0,h0⟩:=RD _ _ _ _ _ h;obtain⟨hnd,h1⟩:=h0.bK;obtain⟨obs,r1,h2,hol,P3⟩:=Ty _ _ _ h1;have hlive:∀j,j<sg.length->∃x,H (dZ sg j)=some x:=λ j hj=>let⟨x,_,hx⟩:=P3 j hj;⟨x,hx⟩
 obtain⟨Yn,h3,akq,hinv⟩:=TA hR hlive obs _ _ h2;obtain⟨args',ids,r2,h4,hal,aaB⟩:=Eu hR hlive args _ _ h3;obtain⟨hdj,h5⟩:=h4.bK;cases h5 with
 | @call _ _ _ _ res dt _ _ _ hspec h6=>
 obtain⟨akr,h7⟩:=h6.bK;obtain⟨hlen',h8⟩:=h7.bK;obtain⟨hpr,h9⟩:=h8.bK;obtain⟨rfl,rfl⟩:=h9.ik;have hlen':dt.length<=sg.length+stride:=ahk hlen';clear h h0 h1 h2 h3 h4 h6 h7 h8 h9;obtain⟨⟨fn,hf1,hf2,hf3⟩,hle,hcall⟩:=hspec;have aiu:Yn.length=sg.length:=akq.trans hol;have hRs:=hR.sub (ids:=ids) (obs:=Yn) hnd hdj aiu (λ j hj=>by
  obtain⟨x,q1,q2⟩:=P3 j hj;obtain⟨y,q3,q4⟩:=hinv j x q1;exact⟨x,y,q3,q2,q4 _ (λ _ h=>.inl h)⟩)
 have aiv:∀j,j<sg.length->D (dZ sg j):=λ j hj=>by
  obtain⟨x,hx⟩:=hlive j hj;obtain⟨p,hp,_⟩:=hR.live hx;exact hR.used _ p hp
 generalize hnw:dt.length - sg.length=nw;have aks:sg.length+nw=dt.length:=by omega
 have aoO:nw<=stride:=by omega
 have af7:∀k,cH<=k->k<cH+nw->k ∉ sg:=λ k hk1 hk2 hm=>by
  obtain⟨j,h1,h2⟩:=Oo sg k hm;exact hn k hk1 om (h2 ▸ aiv j h1)
 have aoP:∀k,cH<=k->k<cH+nw->O k=none:=λ k hk1 hk2=>by
  cases h:O k with
  | none=>rfl
  | some p=>exact absurd (hR.used k p h) (hn k hk1 om)
 have hfl:(sg++iB nw cH).length=dt.length:=by rw[aeU,V4];exact aks
 have TI:∀j,j<sg.length->dZ (sg++iB nw cH) j=dZ sg j:=λ j hj=>V6 _ _ _ hj;have TJ:∀j,sg.length<=j->j<dt.length->dZ (sg++iB nw cH) j=cH+(j - sg.length):=λ j h1 h2=>by
  rw[V7 _ _ _ h1,V5 _ _ _ om]
 have akt:lx (sg++iB nw cH)=true:=P5 _ λ i j hi hj e=>by
  rw[hfl]at hi hj;by_cases h1:i<sg.length
  ·by_cases h2:j<sg.length
   ·rw[TI i h1,TI j h2]at e;exact BP sg hnd i j h1 h2 e
   rw[TI i h1,TJ j om hj]at e;exact absurd (mS sg i h1) (by rw[e];exact af7 _ om om)
  by_cases h2:j<sg.length
  ·rw[TJ i om hi,TI j h2]at e;exact absurd (mS sg j h2) (by rw[<- e];exact af7 _ om om)
  rw[TJ i om hi,TJ j om hj]at e;omega
 intro next Q hnx
 refine TB (hrun fn hf1 hf2 hf3) ((hcall w _ _ vals hRs om (λ j hj=>by rw[aiu];exact aaB j om _ (hva j om))).mono ?_);rintro e w' ⟨x,I',O',rfl,hR',hres⟩;refine⟨x,rfl,?_⟩;let On:OM:=λ k=>if cH<=k/\k<cH+nw then O' (sg.length+(k - cH))else match pI sg k 0 with
  | some j=>O' j
  | none=>if k∈ids then none else O k
 have hMc:∀b,(DY w (λ b=>I b\/yo O ids b) (l7 O sg) Yn.length).M b->∃j p bo sz,j<sg.length/\O (dZ sg j)=some p/\p.pl=some (b,bo,sz):=by
  rintro b ⟨j,p,bo,sz,h1,h2⟩;unfold l7 at h1;split at h1
  ·exact⟨j,p,bo,sz,by assumption,h1,h2⟩
  cases h1
 have af8:∀j,j<sg.length->O' j=O (dZ sg j)\/O' j=none:=λ j hj=>by
  rcases hR'.NH j (show j<Yn.length by omega)with h | h
  ·left;rw[h];show l7 O sg j=_;unfold l7;rw[afc hj]
  exact .inr h
 have hidx:∀k,k∈sg->∃j,pI sg k 0=some j/\j<sg.length/\dZ sg j=k:=λ k hk=>by
  cases h:pI sg k 0 with
  | none=>exact absurd hk (YC sg k 0 h)
  | some j=>
   obtain⟨_,h1,h2⟩:=Ap sg k 0 j h;exact⟨j,rfl,by simpa using h1,by simpa using h2⟩
 have aaC:∀k,k ∉ sg->pI sg k 0=none:=λ k hk=>by
  cases h:pI sg k 0 with
  | none=>rfl
  | some j=>
   obtain⟨_,h1,h2⟩:=Ap sg k 0 j h;exact absurd (h2 ▸ mS sg _ h1) hk
 have TK:∀j,j<sg.length->On (dZ sg j)=O' j:=λ j hj=>by
  have h1:¬ (cH<=dZ sg j/\dZ sg j<cH+nw):=λ h=>af7 _ h.1 h.2 (mS sg j hj);obtain⟨j2,h2,h3,h4⟩:=hidx _ (mS sg j hj);have:j2=j:=BP sg hnd j2 j h3 hj h4;subst this;show(if _ then _ else _)=_;rw[aeV h1,h2]
 have af9:∀k,D k->On k=O k\/On k=none:=λ k hk=>by
  have h1:¬ (cH<=k/\k<cH+nw):=λ h=>hn k h.1 om hk;by_cases hs:k∈sg
  ·obtain⟨j,_,h3,h4⟩:=hidx k hs;have:=TK j h3;rw[h4]at this;rw[this];rcases af8 j h3 with h | h
   ·rw[h,h4];exact .inl rfl
   exact .inr h
  show(if _ then _ else _)=_\/(if _ then _ else _)=_;rw[aeV h1,aaC k hs];by_cases h2:k∈ids<;>simp[h2]
 have Ew:∀ {k p},¬ (cH<=k/\k<cH+nw)->On k=some p->O k=some p/\k ∉ ids:=λ {k p} h1 h=>by
  by_cases hs:k∈sg
  ·obtain⟨j,_,h3,h4⟩:=hidx k hs;have h5:=TK j h3;rw[h4,h]at h5;rcases af8 j h3 with h6 | h6
   ·rw[h6,h4]at h5;exact⟨h5.symm,λ hm=>Iq ids sg hdj _ hm hs⟩
   rw[h6]at h5;cases h5
  have h':(if cH<=k/\k<cH+nw then O' (sg.length+(k - cH))else match pI sg k 0 with
   | some j=>O' j
   | none=>if k∈ids then none else O k)=some p:=h
  rw[aeV h1,aaC k hs]at h';simp only at h';by_cases h2:k∈ids
  ·simp[h2]at h'
  rw[aeV h2]at h';exact⟨h',h2⟩
 have Ir:∀ {k},(cH<=k/\k<cH+nw)->On k=O' (sg.length+(k - cH)):=λ {k} h=>by
  show(if _ then _ else _)=_;rw[afc h]
 have hon:∀j,j<dt.length->On (dZ (sg++iB nw cH) j)=O' j:=λ j hj=>by
  by_cases h1:j<sg.length
  ·rw[TI j h1,TK j h1]
  rw[TJ j om hj,Ir ⟨by omega,by omega⟩];congr 1;omega
 have hD2:∀j,j<dt.length->xg D cH (dZ (sg++iB nw cH) j):=λ j hj=>by
  by_cases h1:j<sg.length
  ·rw[TI j h1];exact .inl (aiv j h1)
  rw[TJ j om hj];exact .inr ⟨by omega,by omega⟩
 have aiw:∀j p,O' j=some p->j<dt.length:=λ j p h=>hR'.used j p h;have aga:∀b,I b->I' b:=λ b h=>hR'.Jf b (.inl h);have hI':∀b,I' b->(I b\/yo O ids b)\/w.heap.size<=b\/∃j p bo sz,j<sg.length/\O (dZ sg j)=some p/\p.pl=some (b,bo,sz):=λ b h=>by
  rcases hR'.KQ b h with h | h | h
  ·exact .inl h
  ·exact .inr (.inl h)
  exact .inr (.inr (hMc b h))
 have hfr:∀b,b<w.heap.size->(∀j p bo sz,j<sg.length->O (dZ sg j)=some p->p.pl≠some (b,bo,sz))->w'.heap[b]? = w.heap[b]? := λ b hb hno=>
  hR'.frame b hb (λ hm=>by obtain⟨j,p,bo,sz,h1,h2,h3⟩:=hMc b hm;exact hno j p bo sz h1 h2 h3)
 have aix:∀b,I b->w'.heap[b]? = w.heap[b]? := λ b hb=>hfr b (hR.uX b hb) (λ j p bo sz h1 h2 h3=>hR.lz _ p b bo sz h2 h3 hb);have agb:∀k p b bo sz,O k=some p->p.pl=some (b,bo,sz)->k ∉ sg->w'.heap[b]? = w.heap[b]? := λ k p b bo sz h1 h2 h3=>
  hfr b (hR.lt k p b bo sz h1 h2) (λ j p' la sz' q1 q2 q3=>hR.inj k (dZ sg j) p p' b bo sz b la sz' h1 q2 h2 q3 (λ e=>h3 (e ▸ mS sg j q1)) rfl)
 have aiy:∀j p b bo sz,sg.length<=j->O' j=some p->p.pl=some (b,bo,sz)->w.heap.size<=b\/∃j' p' la sz',j'<sg.length/\O' j'=none/\O (dZ sg j')=some p'/\p'.pl=some (b,la,sz'):=λ j p b bo sz h1 h2 h3=>by
  rcases hR'.new _ p b bo sz h2 h3 with h | h
  ·exact .inl h
  obtain⟨j',p',la,sz',q1,q2,q3⟩:=hMc b h;rcases af8 j' q1 with e | e
  ·exact absurd rfl (hR'.inj _ j' p p' b bo sz b la sz' h2 (by rw[e];exact q2) h3 q3 om)
  exact .inr ⟨j',p',la,sz',q1,e,q2,q3⟩
 have hsep:∀j p b bo sz k p' b' la sz',sg.length<=j->O' j=some p->p.pl=some (b,bo,sz)->¬ (cH<=k/\k<cH+nw)->On k=some p'->p'.pl=some (b',la,sz')->b≠b':=λ j p b bo sz k p' b' la sz' h1 h2 h3 h4 h5 h6 e=>by
  subst e;obtain⟨q1,q2⟩:=Ew h4 h5;rcases aiy j p b bo sz h1 h2 h3 with h | ⟨j',p2,bo2,sz2,e1,e2,e3,e4⟩
  ·have:=hR.lt k p' b la sz' q1 h6;omega
  by_cases hk:k=dZ sg j'
  ·rw[hk,TK j' e1,e2]at h5;cases h5
  exact hR.inj k (dZ sg j') p' p2 b la sz' b bo2 sz2 q1 e3 h6 e4 hk rfl
 have aiz:∀j,j<dt.length->jJ H (xf (sg++iB nw cH) (N1 (sg++iB nw cH) dt)++dead ids) (dZ (sg++iB nw cH) j)=(zE dt j).map (PX (sg++iB nw cH)):=λ j hj=>by
  obtain⟨x,hx⟩:=aaz dt j hj;unfold jJ;rw[Ev,RE _ _ j (PX (sg++iB nw cH) x) akt (by rw[hfl];exact hj) (by rw[YA,hx];rfl)];simp only;rw[adL,adJ dt j x hx]
 have aaD:∀k,k ∉ sg->¬ (cH<=k/\k<cH+nw)->jJ H (xf (sg++iB nw cH) (N1 (sg++iB nw cH) dt)++dead ids) k=if k∈ids then none else H k:=λ k h1 h2=>by
  have hmiss:look (xf (sg++iB nw cH) (N1 (sg++iB nw cH) dt)) k=none:=P4 _ _ _ (λ j q1 q2 e=>by
   rw[hfl]at q1;by_cases hj:j<sg.length
   ·rw[TI j hj]at e;exact h1 (e ▸ mS sg j hj)
   rw[TJ j om q1]at e;exact h2 ⟨by omega,by omega⟩)
  unfold jJ;rw[Ev,hmiss,QK];by_cases h3:k∈ids<;>simp[h3]
 have aaE:∀k,k∈sg\/(cH<=k/\k<cH+nw)->∃j,j<dt.length/\dZ (sg++iB nw cH) j=k:=λ k h=>by
  rcases h with h | h
  ·obtain⟨j,h1,h2⟩:=Oo sg k h;exact⟨j,by omega,by rw[TI j h1];exact h2⟩
  exact⟨sg.length+(k - cH),by omega,by rw[TJ _ om om];omega⟩
 have hRn:Rel cfg cx (jJ H (xf (sg++iB nw cH) (N1 (sg++iB nw cH) dt)++dead ids)) (xg D cH) w' I' On:={
  dom:=λ k=>by
   by_cases hk:k∈sg\/(cH<=k/\k<cH+nw)
   ·obtain⟨j,h1,rfl⟩:=aaE k hk
    rw[aiz j h1,hon j h1,hR'.dom j]
    cases zE dt j<;>simp
   have h1:k ∉ sg:=λ h=>hk (.inl h)
   have h2:¬ (cH<=k/\k<cH+nw):=λ h=>hk (.inr h)
   rw[aaD k h1 h2]
   have:On k=if k∈ids then none else O k:=by show(if _ then _ else _)=_;rw[aeV h2,aaC k h1]
   rw[this]
   by_cases h3:k∈ids<;>simp[h3,hR.dom k]
  used:=λ k p h=>by
   by_cases hk:cH<=k/\k<cH+nw
   ·exact .inr ⟨hk.1,by omega⟩
   exact .inl (hR.used k p (Ew hk h).1)
  objs:=λ k ob p h h'=>by
   by_cases hk:k∈sg\/(cH<=k/\k<cH+nw)
   ·obtain⟨j,h1,rfl⟩:=aaE k hk
    rw[aiz j h1]at h
    cases hx:zE dt j with
    | none=>rw[hx]at h;cases h
    | some x=>
     rw[hx]at h
     cases h
     rw[hon j h1]at h'
     obtain⟨hx1,hx2⟩:=Yp hx
     exact(hR'.objs j x p hx h').PX hD2 aiw hon (YD akr j x hx1) hx2
   have h1:k ∉ sg:=λ h=>hk (.inl h)
   have h2:¬ (cH<=k/\k<cH+nw):=λ h=>hk (.inr h)
   obtain⟨q1,q2⟩:=Ew h2 h'
   rw[aaD k h1 h2,aeV q2]at h
   exact(hR.objs k ob p h q1).mono aga aix af9 (λ _ h=>.inl h) hR.used (λ b bo sz hpl=>agb k p b bo sz q1 hpl h1)
  inj:=λ k k' p p' b bo sz b' la sz' h1 h2 h3 h4 h5=>by
   by_cases hk:cH<=k/\k<cH+nw
   ·rw[Ir hk]at h1
    by_cases hk':cH<=k'/\k'<cH+nw
    ·rw[Ir hk']at h2
     exact hR'.inj _ _ p p' b bo sz b' la sz' h1 h2 h3 h4 om
    exact hsep _ p b bo sz k' p' b' la sz' om h1 h3 hk' h2 h4
   by_cases hk':cH<=k'/\k'<cH+nw
   ·rw[Ir hk']at h2
    exact(hsep _ p' b' la sz' k p b bo sz om h2 h4 hk h1 h3).symm
   exact hR.inj k k' p p' b bo sz b' la sz' (Ew hk h1).1 (Ew hk' h2).1 h3 h4 h5
  lz:=λ k p b bo sz h1 h2 h3=>by
   by_cases hk:cH<=k/\k<cH+nw
   ·rw[Ir hk]at h1
    exact hR'.lz _ p b bo sz h1 h2 h3
   obtain⟨q1,q2⟩:=Ew hk h1
   by_cases hs:k∈sg
   ·obtain⟨j,h4,rfl⟩:=Oo sg k hs
    exact hR'.lz j p b bo sz (by rw[<- TK j h4];exact h1) h2 h3
   rcases hI' b h3 with(h | ⟨k',p',la,sz',e1,e2,e3⟩) | h | ⟨j,p',la,sz',e1,e2,e3⟩
   ·exact hR.lz k p b bo sz q1 h2 h
   ·exact hR.inj k k' p p' b bo sz b la sz' q1 e2 h2 e3 (λ e=>q2 (e ▸ e1)) rfl
   ·have:=hR.lt k p b bo sz q1 h2;omega
   exact hR.inj k _ p p' b bo sz b la sz' q1 e2 h2 e3 (λ e=>hs (e ▸ mS sg j e1)) rfl
  lt:=λ k p b bo sz h1 h2=>by
   by_cases hk:cH<=k/\k<cH+nw
   ·rw[Ir hk]at h1
    exact hR'.lt _ p b bo sz h1 h2
   exact ajM (hR.lt k p b bo sz (Ew hk h1).1 h2) hR'.size
  uX:=hR'.uX
  size:=af3 hR.size hR'.size
  env:=hR.env.step hR'.env.same
  frame:=λ b h1 h2=>by
   rw[hfr b (ajM h1 hR.size) (λ j p bo sz q1 q2 q3=>by
    rcases hR.new _ p b bo sz q2 q3 with h | h
    ·omega
    exact h2 h)]
   exact hR.frame b h1 h2
  new:=λ k p b bo sz h1 h2=>by
   by_cases hk:cH<=k/\k<cH+nw
   ·rw[Ir hk]at h1
    rcases aiy _ p b bo sz om h1 h2 with h | ⟨j',p2,bo2,sz2,e1,e2,e3,e4⟩
    ·exact .inl (af3 hR.size h)
    exact hR.new _ p2 b bo2 sz2 e3 e4
   exact hR.new k p b bo sz (Ew hk h1).1 h2
  glob:=hR'.glob
  Jf:=λ b h=>aga b (hR.Jf b h)
  KQ:=λ b h=>by
   rcases hI' b h with(h | ⟨k',p',la,sz',e1,e2,e3⟩) | h | ⟨j,p',la,sz',e1,e2,e3⟩
   ·exact hR.KQ b h
   ·exact .inr (hR.new k' p' b la sz' e2 e3)
   ·exact .inr (.inl (af3 hR.size h))
   exact .inr (hR.new _ p' b la sz' e2 e3)
  NH:=λ k h=>by
   rcases af9 k (hR.Dm k h)with h1 | h1
   ·rw[h1];exact hR.NH k h
   exact .inr h1
  Dm:=λ k h=>.inl (hR.Dm k h) }
 exact hnx x w' I' On hRn (λ u y hu=>hu.mono aga aix af9 (λ _ h=>.inl h) hR.used) (hres.adl hD2 aiw hon hpr)
end
end Go.Ab
namespace Go.Ab
section
variable {w:World} {I:Nat->Prop} {O:OM} {D:Nat->Prop}
def xj:∀(l m:ap2),KN l m->l.length=m.length/\∀j,j<l.length->Le (nth l j) (nth m j):=by
 intro l;induction l with
 | nil=>intro m h;cases m with
  | nil=>exact⟨rfl,λ j hj=>by cases hj⟩
  | cons=>exact h.elim
 | cons u l ih=>intro m h;cases m with
  | nil=>exact h.elim
  | cons v m=>
   obtain⟨h1,h2⟩:=ih m h.2
   refine⟨by simp[h1],λ j hj=>?_⟩
   cases j with
   | zero=>exact h.1
   | succ j=>exact h2 j (by simpa using hj)
theorem KN.refl:∀(l:ap2),KN l l
 | []=>trivial
 | v::l=>⟨.refl v,KN.refl l⟩
def Le.rj {cs cs':ap2} (h:KN cs cs'):Le (.agg cs) (.agg cs'):=.agg (xj _ _ h).1 (xj _ _ h).2
def Le.roL {cs cs':ap2} (h:KN cs cs'):Le (.ro cs) (.ro cs'):=.ro (xj _ _ h).1 (xj _ _ h).2
def V8 {u v:AV} (h:Le u v):(∀x,eF w I u x->eF w I v x)/\u.cells.length=v.cells.length/\∀j,j<u.cells.length->∀x,eF w I (nth u.cells j) x->eF w I (nth v.cells j) x:=by
 have one:∀ {u v:AV},u.cells=[u]->v.cells=[v]->(∀x,eF w I u x->eF w I v x)->(∀x,eF w I u x->eF w I v x)/\u.cells.length=v.cells.length/\∀j,j<u.cells.length->∀x,eF w I (nth u.cells j) x->eF w I (nth v.cells j) x:=by
  intro u v h1 h2 h3;rw[h1,h2];refine⟨h3,rfl,λ j hj x hx=>?_⟩;have:j=0:=by simpa using hj
  subst this;exact h3 x hx
 induction h with
 | refl v=>exact⟨λ _ h=>h,rfl,λ _ _ _ h=>h⟩
 | @sl es es' n n' f f' g g' hn he hf h ih=>
  subst hn;refine one rfl rfl λ x hx=>?_;cases hx with
  | sl b off vs hcap hfull ha hes hm h1 hr=>
   refine .sl b off vs hcap (λ e=>hfull (hf e)) ha (λ i hi=>?_) (λ i j hi hj=>?_) (λ i j hi hj=>?_) (λ i j hi hj=>?_)
   ·rw[<- (ih i hi).2.1,<- he om];exact hes i hi
   ·rw[<- he om]at hj ⊢;exact hm i j hi hj
   ·rw[<- he om]at hj;exact h1 i j hi hj
   rw[<- he om]at hj;exact(ih i hi).2.2 j (by rw[hes i hi];exact hj) _ (hr i j hi hj)
 | @ro cs cs' hl h ih=>
  refine one rfl rfl λ x hx=>?_;cases hx with
  | ro b off vs hI hm hr=>exact .ro b off vs hI (λ j hj=>hm j om) λ j hj=>(ih j om).1 _ (hr j om)
 | @agg cs cs' hl h ih=>
  refine⟨λ x hx=>?_,hl,λ j hj x hx=>(ih j hj).1 x hx⟩;cases hx with
  | agg h1 hr=>exact .agg om λ j hj=>(ih j om).1 _ (hr j om)
 | @fP cs cs' hl h ih=>
  refine one rfl rfl λ x hx=>?_;cases hx with
  | fP h1 hr=>exact .fP om λ j hj=>(ih j om).1 _ (hr j om)
 | @fn f cs cs' hl h ih=>
  refine one rfl rfl λ x hx=>?_;cases hx with
  | fn h1 hr=>exact .fn om λ j hj=>(ih j om).1 _ (hr j om)
def Le.aiA {u v:AV} (h:Le u v) {x:Value} (hx:eF w I u x):eF w I v x:=(V8 h).1 x hx
def Le.rep {u v:AV} (h:Le u v):∀ {x:Value},cQ w I O D u x->cQ w I O D v x:=by
 induction h with
 | refl v=>exact λ h=>h
 | sl hn he hf h ih=>intro x hx;exact .pure ((Le.sl hn he hf h).aiA hx.xi)
 | ro hl h ih=>intro x hx;exact .pure ((Le.ro hl h).aiA hx.Ob)
 | agg hl h ih=>
  intro x hx;obtain⟨vs,rfl,h1,h2⟩:=hx.nG;exact .agg om λ j hj=>ih j om (h2 j om)
 | fP hl h ih=>
  intro x hx;obtain⟨vs,rfl,h1,h2⟩:=hx.BM;exact .fP om λ j hj=>ih j om (h2 j om)
 | fn hl h ih=>
  intro x hx;obtain⟨vs,rfl,h1,h2⟩:=hx.En;exact .fn om λ j hj=>ih j om (h2 j om)
def LeO.rep {p:Own} {x y:cI} (h:LeO x y) (hx:eV w I O D p x):eV w I O D p y:=by
 cases x with
 | map=>cases y with
  | box=>exact h.elim
  | row=>exact h.elim
  | map=>obtain⟨rfl,rfl,rfl⟩:=h;exact hx
 | box cs=>cases y with
  | row=>exact h.elim
  | map=>exact h.elim
  | box cs'=>
   obtain⟨h1,b,bo,sz,hp,ha,hl,hr⟩:=hx
   obtain⟨h2,h3⟩:=xj _ _ h
   exact⟨h1,b,bo,sz,hp,ha,by omega,λ j hj=>(h3 j om).rep (hr j om)⟩
 | row es n g=>cases y with
  | box=>exact h.elim
  | map=>exact h.elim
  | row es' n' g'=>
   obtain⟨rfl,rfl,h⟩:=h
   obtain⟨h1,h2,h3,h4⟩:=hx
   refine⟨h1,h2,λ i hi=>by rw[<- (V8 (w:=w) (I:=I) (h i hi)).2.1];exact h3 i hi,?_⟩
   rcases h4 with h4 | ⟨b,bo,sz,hp,ha,hl,hr⟩
   ·exact .inl h4
   exact .inr ⟨b,bo,sz,hp,ha,hl,λ i j hi hj=>⟨(V8 (h i hi)).2.2 j (by rw[h3 i hi];exact hj) _ (hr i j hi hj).1,(hr i j hi hj).2⟩⟩
def YE:∀(l m:ap9),afU l m->l.length=m.length/\∀j x y,hof l j=some x->hof m j=some y->LeO x y:=by
 intro l;induction l with
 | nil=>intro m h;cases m with
  | nil=>exact⟨rfl,λ j x y h=>by cases h⟩
  | cons=>exact h.elim
 | cons u l ih=>intro m h;cases m with
  | nil=>exact h.elim
  | cons v m=>
   obtain⟨h1,h2⟩:=ih m h.2
   refine⟨by simp[h1],λ j x y hx hy=>?_⟩
   cases j with
   | zero=>cases hx;cases hy;exact h.1
   | succ j=>exact h2 j x y hx hy
def Xu:∀(l:ap9) (j:Nat),hof l j=none↔l.length<=j:=by
 intro l;induction l with
 | nil=>intro j;simp[hof]
 | cons x l ih=>intro j;cases j with
  | zero=>simp[hof]
  | succ j=>simp[hof,ih]
def Spec.le {P:Program} {cfg:qX} {f:FuncId} {args args':ap2} {obs dt:ap9} {r:AV} {ob2:ap9} (h:Ab.Spec P cfg f args' dt r ob2) (ha:KN args args') (ho:afU obs dt):Ab.Spec P cfg f args obs r ob2:=by
 obtain⟨h1,h2,h3⟩:=h;obtain⟨a1,a2⟩:=xj _ _ ha;obtain⟨o1,o2⟩:=YE _ _ ho;refine⟨h1,by omega,λ w I O vals hR hv hrep=>?_⟩;have hR':Rel cfg (DY w I O dt.length) (hof dt) (λ o=>o<dt.length) w I O:=by
  rw[<- o1];exact { hR with
   dom:=λ o=>by rw[hR.dom o,Xu,Xu,o1]
   objs:=λ o y p hy hp=>by
    cases hx:hof obs o with
    | none=>rw[(hR.dom o).2 hx]at hp;cases hp
    | some x=>exact(o2 o x y hx hy).rep (hR.objs o x p hx hp) }
 have:=h3 w I O vals hR' om (λ j hj=>by rw[<- o1];exact(a2 j om).rep (hrep j om));rw[<- o1]at this;exact this
end
end Go.Ab
namespace Go.Ab
open Go.MapKept
section
variable {P:Program} {cfg:qX} {cx:Ctx} {H:Nat->Option cI} {D:Nat->Prop} {w:World} {I:Nat->Prop} {O:OM} {Sp:lk}
variable {cH:Nat} {o:Oper} {a:Act} {ρ:Operand->AV} {v:AV} {ups:ic} {r:ap0}
def adM {z:ZK} {es:Nat} {c:AV} (h:adp z es c=true):Le c (afP z es c):=by
 unfold adp at h;split at h
 ·exact .refl _
 ·rename_i k k' n;have:k=k':=afj h;subst this;exact .refl _
 ·exact .refl _
 ·rename_i es' n f g;split at h
  ·rename_i hb;have:=aeK hb;subst this;exact .sl rfl (λ _=>rfl) nofun λ _ _=>.refl _
  have:=aeK h;subst this;exact .sl rfl (λ hn=>absurd rfl hn) nofun λ _ hi=>absurd hi (ag9 _)
 cases h
def YF {zs:aqa} {sz:Nat} {all:ap2}:∀(cs:ap2) (k:Nat),adq zs sz all k cs=true->∀j,j<cs.length->adp (Z5 zs ((k+j).mod sz)) (QF sz ((k+j).mod sz) 0 all) (nth cs j)=true:=by
 intro cs;induction cs with
 | nil=>intro k _ j hj;exact absurd hj (ag9 _)
 | cons c cs ih=>
  intro k h j hj;unfold adq at h;split at h
  ·rename_i hf;cases j with
   | zero=>exact hf
   | succ j=>
    have:=ih (k+1) h j (by simpa using hj);rw[show k+(j+1)=k+1+j by omega];exact this
  cases h
def aaF (all:ap2) (b sz:Nat):∀(zs:aqa) (j0 j:Nat),j<zs.length->nth (Th all b sz j0 zs) j=afP (Z5 zs j) (QF sz (j0+j) 0 all) (nth all (b+(j0+j))):=by
 intro zs;induction zs with
 | nil=>intro j0 j h;exact absurd h (ag9 _)
 | cons z zs ih=>
  intro j0 j h;cases j with
  | zero=>rfl
  | succ j=>
   have:=ih (j0+1) j (by simpa using h);simp only[Th,nth,Z5];rw[this,show j0+1+j=j0+(j+1) by omega]
def Mo (all:ap2) (b sz:Nat):∀(zs:aqa) (j0:Nat),(Th all b sz j0 zs).length=zs.length:=by
 intro zs;induction zs with
 | nil=>intro _;rfl
 | cons z zs ih=>intro j0;simp only[Th,ahP,ih]
variable {t:TypeId}
theorem aaG (hc:ej P cfg) (hR:Rel cfg cx H D w I O) {x ix:Operand} (ho:o.op=.index t x ix) (hx:cQ w I O D (ρ x) (a.eval x)) (hix:cQ w I O D (ρ ix) (a.eval ix))
  (h:dg Sp H (dV cfg cH (.index t x ix) ρ) v ups r):dh P cfg cx H D w I O cH o a v ups:=by
 simp only[dV]at h;obtain⟨ti,ht,h1⟩:=h.iT;obtain⟨_,dd,_,_,hud,_,_,_,_,_,_,_,hm⟩:=(hc.ty t ti ht).ex;split at h1
 ·rename_i b k i e1 e2 e3;rw[e1]at hm;have hm:dd=.string:=hm;subst hm;rw[e2]at hx;rw[e3]at hix;have hxv:=hx.vS;have Tn:=hix.eP;obtain⟨⟨hn0,hn1⟩,rfl,rfl⟩:=h1.eZ;refine dh.cT (x:=.int .u8 (dF b i.toNat)) hR ?_ (.pure (.int _ _));have hlt:i.toNat<b.size:=by omega
  have hb:b[i.toNat]? = some b[i.toNat]:=by simp[hlt]
  simp[execOp,ho,hxv,Tn,Instr.index,asIntOf,bG hud,hn0,dF,hb]
 ·rename_i n et cs k i e1 e2 e3;rw[e1]at hm;have hm:dd=.array n et:=hm;subst hm;rw[e2]at hx;rw[e3]at hix;obtain⟨vs,hxv,hl,hr⟩:=hx.nG;have Tn:=hix.eP;obtain⟨ei,he,h2⟩:=h1.iT;obtain⟨ie,de,hie,aiq,hde,adE⟩:=hc.agg he;unfold Z6 at h2;obtain⟨c0,h2⟩:=h2.bK;obtain⟨z0,z1⟩:=Ao c0;obtain⟨c1,h3⟩:=h2.bK;obtain⟨c2,h4⟩:=h3.bK;obtain⟨c3,h5⟩:=h4.bK;have c1:=aeK c1;have c2:=aeK c2;obtain⟨⟨hn0,hn1⟩,rfl,rfl⟩:=h5.eZ;have hlt:i.toNat<n:=by omega
  have hle:i.toNat*ei.size+ei.size<=cs.length:=by
   rw[c1,<- ah2];exact afK _ hlt
  have hcell:∀j,j<ei.size->cQ w I O D (nth (Th cs (i.toNat*ei.size) ei.size 0 ei.zero) j) (vs.getD (i.toNat*ei.size+j) Go.undef):=by
   intro j hj;rw[aaF _ _ _ _ _ _ om,ahq];have hf:=YF cs 0 c3 (i.toNat*ei.size+j) om;have hmod:(0+(i.toNat*ei.size+j)).mod ei.size=j:=by
    show(0+(i.toNat*ei.size+j)) % ei.size=j;rw[ahq,akN,aph];exact ao5 hj
   rw[hmod]at hf;exact(adM hf).rep (hr _ om)
  have hag:=KS aiq w;rw[hde]at hag;have hrun:∀u,(part et vs (i.toNat*ei.size)).run P w=.ok u w->(execOp a.eval o).run P w=.ok (.value u) w:=by
   intro u hu;rw[<- adE]at hu;have hi':(0:Int)<=i/\i<n:=⟨hn0,hn1⟩;have hz:dG (w:=w) hie=dG (w:=w) hie:=rfl;simp only[execOp,ho,hxv,Tn,Instr.index,asIntOf,Sem.run_bind,Sem.run_pure,Result.andThen_ok,bG hud,hi',and_self,apa,dG hie,hu]
  cases ha:ei.agg with
  | true=>
   rw[ha]at hag;have e1:(part et vs (i.toNat*ei.size)).run P w=.ok (.agg (vs.extract (i.toNat*ei.size) (i.toNat*ei.size+ei.size))) w:=by simp[part,Sem.run_bind,hag,dG hie,adE]
   refine dh.cT hR (hrun _ e1) (.agg ?_ λ j hj=>?_)
   ·rw[Mo,c2];simp;omega
   rw[Mo,c2]at hj;have h6:=hcell j hj;have h4:i.toNat*ei.size+j<vs.size:=by omega
   have h5:(vs.extract (i.toNat*ei.size) (i.toNat*ei.size+ei.size))[j]? = vs[i.toNat*ei.size+j]? := by
    rw[Array.getElem?_extract,afc om]
   simp only[aiV, h5];simpa[h4]using h6
  | false=>
   rw[ha]at hag;have hs1:ei.size=1:=z1 ha;have h4:i.toNat*ei.size<vs.size:=by omega
   have e1:(part et vs (i.toNat*ei.size)).run P w=.ok (vs.getD (i.toNat*ei.size) Go.undef) w:=by simp[part,Sem.run_bind,hag,ahY h4]
   exact dh.cT hR (hrun _ e1) (hcell 0 om)
 exact(dg.ba h1).elim
def V9 (cfg:qX) (kt:TypeId):TD->Prop
 | .struct [(0,a),(1,b)]=>∃ia ib,look cfg.ty a=some ia/\look cfg.ty b=some ib/\ia.desc=.int .i64/\ib.desc=.int .i64/\look cfg.eqs kt=some [.int .i64,.int .i64]
 | _=>True
def Oq {k:Gw->Gw->Pg} (h:dg Sp H (Z3 cfg t k) v ups r):∃ti kt et ki ei,look cfg.ty t=some ti/\ti.desc=.map kt et/\look cfg.ty kt=some ki/\look cfg.ty et=some ei/\ei.agg=false/\V9 cfg kt ki.desc/\dg Sp H (k ki ei) v ups r:=by
 unfold Z3 at h;split at h
 ·rename_i ti ht;split at h
  ·rename_i kt et hd;obtain⟨ki,hk,h1⟩:=h.iT;obtain⟨ei,he,h2⟩:=h1.iT;obtain⟨ha,h3⟩:=h2.bK;refine⟨ti,kt,et,ki,ei,ht,hd,hk,he,by simpa using ha,?_⟩;unfold afb at h3;split at h3
   ·rename_i a b e;obtain⟨ia,hia,h4⟩:=h3.iT;obtain⟨ib,hib,h5⟩:=h4.iT;obtain⟨c1,h6⟩:=h5.bK;obtain⟨c2,h7⟩:=h6.bK;obtain⟨c3,h8⟩:=h7.bK;rw[e];exact⟨⟨ia,ib,hia,hib,afj c1,afj c2,afj c3⟩,h8⟩
   rename_i hne;refine⟨?_,h3⟩;unfold V9;split
   ·rename_i a b e;exact absurd e (hne a b)
   trivial
  exact(dg.ba h).elim
 exact(dg.ba h).elim
def Wa (hR:Rel cfg cx H D w I O) (hn:¬ D cH) (ho:o.op=.makeMap t none) (h:dg Sp H (dV cfg cH (.makeMap t none) ρ) v ups r):dh P cfg cx H D w I O cH o a v ups:=by
 simp only[dV]at h;obtain⟨ti,kt,et,ki,ei,ht,hd,hk,he,_,_,h1⟩:=Oq h;obtain⟨rfl,rfl⟩:=h1.ik;intro next Q hnx
 have hrun:(execOp a.eval o).run P w=.ok (.value (.map (some w.heap.size))) (w.alloc (.map #[] 0)):=by
  simp[execOp,ho,Instr.makeMap,newObj];rfl
 have hat:(w.alloc (.map #[] 0)).heap[w.heap.size]? = some (.map #[] 0):=by
  show(w.heap.push (.map #[] 0))[w.heap.size]? = _;simp
 refine oy hrun (hnx _ _ I (ji O cH ⟨0,1,some (w.heap.size,0,0)⟩) (hR.afg hn _ _ _ 0 rfl ?_) (λ u y hu=>hu.push hR _ _ hn) (.mref (p:=⟨0,1,some (w.heap.size,0,0)⟩) (by simp[ji]) rfl));exact⟨rfl,_,_,_,#[],0,rfl,hat,⟨λ e he=>by simp at he,by simp,λ k n hk=>by cases hk⟩⟩
def K2 {u:AV} {k:cj} {x:Value} (h:keyOf u=some k) (hx:cQ w I O D u x):x=jM k:=by
 unfold keyOf at h;split at h
 ·cases h;exact hx.vS
 ·cases h;exact hx.eP
 ·rename_i a b;cases h;obtain⟨vs,rfl,hl,hr⟩:=hx.nG;have h0:=(hr 0 (by simp)).eP;have h1:=(hr 1 (by simp)).eP;have hl:vs.size=2:=hl;have e:vs=#[.int .i64 a,.int .i64 b]:=by
   apply Array.ext
   ·simp[hl]
   intro i hi1 hi2;simp only[apK,ahP,ajE]at hi2;have h0':vs[0]'om=.int .i64 a:=by simpa[aiV, hl]using h0
   have h1':vs[1]'om=.int .i64 b:=by simpa[aiV, hl]using h1
   rcases(by omega:i=0\/i=1)with rfl | rfl
   ·exact h0'
   exact h1'
  rw[e];rfl
 cases h
def TL {k k':cj} (h:jM k=jM k'):k=k':=by
 cases k<;>cases k'<;>cases h<;>rfl
def RF (k:cj) (w:World):(Instr.keyThatStays (jM k) (jM k)).run P w=.ok (jM k) w:=by
 have h:Instr.sameBits 10000 (jM k) (jM k)=true:=by
  cases k with
  | s b=>simp[jM,Instr.sameBits,MapKept.bytes_beq]
  | i n=>simp[jM,Instr.sameBits]
  | p a b=>simp[jM,Instr.sameBits]
 simp[Instr.keyThatStays,h]
structure RG (P:Program) (kt:TypeId) (kd:TD):Prop where
 check:∀k,nE kd k=true->∀(e:Bool) (w:World),(Instr.checkKey e 10000 kt (jM k)).run P w=.ok () w
 find:∀k,nE kd k=true->∀(es:List MapEntry) (w:World),(∀e∈es,∃k',e.key=jM k'/\nE kd k'=true)->((Instr.findKey kt (jM k) es).run P w=.ok none w/\∀e∈es,e.key≠jM k)\/∃(j:Nat) (e:MapEntry),(Instr.findKey kt (jM k) es).run P w=.ok (some (j,e.val)) w/\es[j]? = some e/\e.key=jM k
variable {kt:TypeId}
def Jw {d:TypeDesc} {kd:TD} (hu:P.underlying kt=some d) (hk:∀k',nE kd k'=true->IsKey d (jM k')):RG P kt kd where
 check:=λ k h e w=>run_checkKey hu (hk k h) e 9999
 find:=λ k h es w hes=>by
  rcases findNow_spec (hk k h) es 0 (λ e he=>by obtain⟨k',q1,q2⟩:=hes e he;rw[q1];exact hk k' q2)with⟨g1,g2⟩ | ⟨j,e,g1,g2,g3⟩
  ·exact .inl ⟨run_findKey hu g1,g2⟩
  refine .inr ⟨j,e,?_,g2,g3⟩;rw[ahq]at g1;exact run_findKey hu g1
theorem TM (hc:ej P cfg) {ki:Gw} {a b:TypeId} (hk:look cfg.ty kt=some ki) (hd:ki.desc=.struct [(0,a),(1,b)]) {ia ib:Gw} (hia:look cfg.ty a=some ia) (hib:look cfg.ty b=some ib) (ha:ia.desc=.int .i64) (hb:ib.desc=.int .i64)
  (heq:look cfg.eqs kt=some [.int .i64,.int .i64]):RG P kt ki.desc:=by
 obtain⟨_,d,_,_,hu,_,_,_,_,_,_,_,hm⟩:=(hc.ty kt ki hk).ex;rw[hd]at hm;obtain⟨fields,rfl,hfs⟩:=hm;have hua:P.underlying a=some (.int .i64):=by
  obtain⟨_,da,_,_,hua,_,_,_,_,_,_,_,hma⟩:=(hc.ty a ia hia).ex;rw[ha]at hma;rw[hua,show da=.int .i64 from hma]
 have hub:P.underlying b=some (.int .i64):=by
  obtain⟨_,db,_,_,hub,_,_,_,_,_,_,_,hmb⟩:=(hc.ty b ib hib).ex;rw[hb]at hmb;rw[hub,show db=.int .i64 from hmb]
 obtain⟨f1,f2,hl,e1,e2,e3,e4⟩:∃f1 f2,fields.toList=[f1,f2]/\f1.offset=0/\f1.type=a/\f2.offset=1/\f2.type=b:=by
  cases hh:fields.toList with
  | nil=>rw[hh]at hfs;cases hfs
  | cons f1 l=>cases l with
   | nil=>rw[hh]at hfs;simp at hfs
   | cons f2 l=>cases l with
    | cons=>rw[hh]at hfs;simp at hfs
    | nil=>
     rw[hh]at hfs
     simp only[aiX,aoT,apj,Prod.mk.injEq,and_true]at hfs
     exact⟨f1,f2,rfl,hfs.1.1,hfs.1.2,hfs.2.1,hfs.2.2⟩
 have key:∀k,nE ki.desc k=true->∃x y,k=.p x y:=by
  intro k h;rw[hd]at h;cases k with
  | s=>cases h
  | i=>cases h
  | p x y=>exact⟨x,y,rfl⟩
 have afh:∀(n:Nat) (e:Bool) (t:TypeId) (x:Value) (w:World),P.underlying t=some (.int .i64)->(Instr.checkKey e (n+1) t x).run P w=.ok () w:=by
  intro n e t x w ht;unfold Instr.checkKey;simp only[Sem.run_bind,bG ht,Result.andThen];cases x<;>rfl
 have heqv:∀(x y x' y':Int) (w:World),(Op.equal kt (jM (.p x y)) (jM (.p x' y'))).run P w=.ok ((x==x')&&((y==y')&&true)) w:=by
  intro x y x' y' w;refine zF (I:=λ _=>False) (O:=λ _=>none) (D:=λ _=>False) hc heq (cs:=[.int .i64 x,.int .i64 y]) (cs':=[.int .i64 x',.int .i64 y']) rfl rfl rfl (λ j hj=>?_) (λ j hj=>?_)
  ·match j,hj with
   | 0,_=>exact .pure (.int _ _)
   | 1,_=>exact .pure (.int _ _)
  match j,hj with
  | 0,_=>exact .pure (.int _ _)
  | 1,_=>exact .pure (.int _ _)
 refine⟨λ k h e w=>?_,λ k h es w hes=>?_⟩
 ·obtain⟨x,y,rfl⟩:=key k h;have p1:=vT (P:=P) hua rfl #[Value.int .i64 x,Value.int .i64 y] 0 (by simp) w;have p2:=vT (P:=P) hub rfl #[Value.int .i64 x,Value.int .i64 y] 1 (by simp) w;have q1:∀x,(Instr.checkKey e 9999 a x).run P w=.ok () w:=λ x=>afh 9998 e a x w hua;have q2:∀x,(Instr.checkKey e 9999 b x).run P w=.ok () w:=λ x=>afh 9998 e b x w hub;show(Instr.checkKey e (9999+1) kt _).run P w=_;unfold Instr.checkKey;simp only[Sem.run_bind,bG hu,Result.andThen,jM];rw[<- Array.forIn_toList,hl];simp only[List.forIn_cons,List.forIn_nil];by_cases h1:f1.name ≠ "_" <;> by_cases h2:f2.name ≠ "_" <;> simp[h1,h2,e1,e2,e3,e4,p1,p2,q1,q2,Sem.run_bind,Result.andThen]
 obtain⟨x,y,rfl⟩:=key k h;have ask:∀(l:List MapEntry) (i:Nat),(∀e∈l,∃k',e.key=jM k'/\nE ki.desc k'=true)->((Instr.findAsking kt (jM (.p x y)) l i).run P w=.ok none w/\∀e∈l,e.key≠jM (.p x y))\/∃(j:Nat) (e:MapEntry),(Instr.findAsking kt (jM (.p x y)) l i).run P w=.ok (some (i+j,e.val)) w/\l[j]? = some e/\e.key=jM (.p x y):=by
  intro l;induction l with
  | nil=>intro i _;exact .inl ⟨rfl,λ e he=>by cases he⟩
  | cons e l ih=>
   intro i hes;obtain⟨k',hk',hf'⟩:=hes e (by simp);obtain⟨x',y',rfl⟩:=key k' hf';by_cases hxy:x=x'/\y=y'
   ·obtain⟨rfl,rfl⟩:=hxy;refine .inr ⟨0,e,?_,rfl,hk'⟩;have hb:((x==x)&&((y==y)&&true))=true:=by simp
    rw[Instr.findAsking,hk',Sem.run_bind,heqv,hb];rfl
   have hb:((x==x')&&((y==y')&&true))=false:=by
    cases hq:((x==x')&&((y==y')&&true))with
    | false=>rfl
    | true=>simp at hq;exact absurd hq hxy
   have hr:(Instr.findAsking kt (jM (.p x y)) (e::l) i).run P w=(Instr.findAsking kt (jM (.p x y)) l (i+1)).run P w:=by
    rw[Instr.findAsking,hk',Sem.run_bind,heqv,hb];rfl
   rw[hr];have hne:e.key≠jM (.p x y):=λ q=>hxy (by
    rw[hk']at q
    have:=TL q
    cases this
    exact⟨rfl,rfl⟩)
   rcases ih (i+1) (λ e he=>hes e (ahV _ he))with⟨g1,g2⟩ | ⟨j,e',g1,g2,g3⟩
   ·refine .inl ⟨g1,λ e' he'=>?_⟩;rcases ah0.1 he' with rfl | he'
    ·exact hne
    exact g2 e' he'
   exact .inr ⟨j+1,e',by rw[g1,show i+1+j=i+(j+1) by omega],by simpa using g2,g3⟩
 cases es with
 | nil=>
  left;refine⟨?_,λ e he=>by cases he⟩;simp[Instr.findKey,bG hu,Result.andThen,Instr.findNow]
 | cons e l=>
  have hn:Instr.findNow (.struct fields) (jM (.p x y)) (e::l) 0=none:=by
   simp[Instr.findNow,Instr.sameNow]
  have hr:(Instr.findKey kt (jM (.p x y)) (e::l)).run P w=(Instr.findAsking kt (jM (.p x y)) (e::l) 0).run P w:=by
   simp[Instr.findKey,bG hu,Result.andThen,hn]
  rw[hr];rcases ask (e::l) 0 hes with h | ⟨j,e',g1,g2,g3⟩
  ·exact .inl h
  exact .inr ⟨j,e',by rw[g1,ahq],g2,g3⟩
def Xv (hc:ej P cfg) {ki:Gw} (hk:look cfg.ty kt=some ki) (hp:V9 cfg kt ki.desc) {k:cj} (h:nE ki.desc k=true):RG P kt ki.desc:=by
 obtain⟨_,d,_,_,hu,_,_,_,_,_,_,_,hm⟩:=(hc.ty kt ki hk).ex;cases hdd:ki.desc with
 | str=>
  rw[hdd]at hm;have hm:d=.string:=hm;subst hm;exact Jw hu λ k' h'=>by cases k'<;>first | trivial | cases h'
 | int kk=>
  rw[hdd]at hm;have hm:d=.int kk:=hm;subst hm;exact Jw hu λ k' h'=>by
   cases k' with
   | i n=>cases kk<;>first | (cases h';done) | rfl
   | _=>cases h'
 | struct fs=>
  rw[hdd]at h hp;cases k with
  | s=>cases h
  | i=>cases h
  | p x y=>
   have h:(match TD.struct fs with | .struct [(0,_),(1,_)]=>true | _=>false)=true:=h;split at h
   ·rename_i a b e;cases e;obtain⟨ia,ib,h1,h2,h3,h4,h5⟩:=hp;rw[<- hdd];exact TM hc hk hdd h1 h2 h3 h4 h5
   cases h
 | _=>rw[hdd]at h;cases k<;>cases h
def TN {z:aqa} (hz:KK z=true) (n:Int):eF w I (afN z n) (KO z n):=by
 match z,hz with
 | [.bool],_=>exact .bool _
 | [.int k],_=>exact .int _ _
end
end Go.Ab
namespace Go.Ab
open Go.MapKept
section
variable {P:Program} {cfg:qX} {cx:Ctx} {H:Nat->Option cI} {D:Nat->Prop} {w:World} {I:Nat->Prop} {O:OM} {Sp:lk}
variable {cH:Nat} {o:Oper} {a:Act} {ρ:Operand->AV} {v:AV} {ups:ic} {r:ap0}
variable {z:aqa}
theorem TO {kt:TypeId} {kd:TD} {f:cj->Option Int} {es:Array MapEntry} (hm:KP kd z f es) {k:cj} (hk:RG P kt kd) (TP:nE kd k=true) (w:World):
  ((Instr.findKey kt (jM k) es.toList).run P w=.ok none w/\f k=none/\∀e∈es.toList,e.key≠jM k)\/∃j e n,(Instr.findKey kt (jM k) es.toList).run P w=.ok (some (j,KO z n)) w/\es[j]? = some e/\e.key=jM k/\f k=some n/\e.val=KO z n:=by
 rcases hk.find k TP es.toList w (λ e he=>by
  obtain⟨k',n',q1,q2,_⟩:=hm.keys e he;exact⟨k',q1,q2⟩)with⟨g1,g2⟩ | ⟨j,e,g1,g2,g3⟩
 ·refine .inl ⟨g1,?_,g2⟩;cases hf:f k with
  | none=>rfl
  | some n=>
   obtain⟨e,he1,he2⟩:=hm.all k n hf;exact absurd he2 (g2 e he1)
 obtain⟨k',n',q1,q2,q3,q4⟩:=hm.keys e (List.mem_of_getElem? g2);rw[g3]at q1;have:=TL q1;subst this;exact .inr ⟨j,e,n',by rw[g1,q4],by simpa using g2,g3,q3,q4⟩
def TQ (hz:KK z=true) {x:Value} (h1:x.cells=#[x]) (hm:Em (z.getD 0 .other) (x.cells.getD 0 Go.undef)):x=KO z 0:=by
 rw[h1]at hm;match z,hz with
 | [.bool],_=>exact hm
 | [.int k],_=>exact hm
theorem YG (hc:ej P cfg) (hR:Rel cfg cx H D w I O) {t:TypeId} {x ix:Operand} {okk:Bool} (ho:o.op=.lookup t x ix okk) (hx:cQ w I O D (ρ x) (a.eval x)) (hix:cQ w I O D (ρ ix) (a.eval ix))
  (h:dg Sp H (dV cfg cH (.lookup t x ix okk) ρ) v ups r):dh P cfg cx H D w I O cH o a v ups:=by
 simp only[dV]at h;obtain⟨ti,kt,et,ki,ei,ht,hd,hk,he,hag,aaH,h1⟩:=Oq h;have main:∀(b:Nat) (kd:TD) (z:aqa) (f:cj->Option Int) (es:Array MapEntry) (clock:Nat) (k:cj),a.eval x=.map (some b)->a.eval ix=jM k->w.heap[b]? = some (.map es clock)->KP kd z f es->kd=ki.desc->z=ei.zero->KK z=true->nE ki.desc k=true->dh P cfg cx H D w I O cH o a (Xk z f k okk) []:=by
  intro b kd z f es clock k hxv hkv hw hm c1 c2 c3 TP;obtain⟨_,dd,_,_,hud,_,_,_,_,_,_,_,hmt⟩:=(hc.ty t ti ht).ex;rw[hd]at hmt;have hmt:dd=.map kt et:=hmt;subst hmt;have hko:=Xv hc hk aaH TP;obtain⟨ie,_,ze,hie,_,hze,hse,_,_,hzc,hzl,Jr,_⟩:=(hc.ty et ei he).ex;have hz1:=(hc.ty et ei he).one hag ie ze hie hze;rw[<- c1]at hko TP;have K3:=λ e=>hko.check k TP e w;have hrep:∀q,eF w I (Xk z f k okk) (if okk=true then Value.tuple #[KO z (fo f k),.bool q]else KO z (fo f k))\/q≠(f k).isSome:=by
   intro q;by_cases hq:q=(f k).isSome
   ·left;subst hq;cases okk with
    | false=>exact TN c3 _
    | true=>
     refine .fP rfl λ j hj=>?_;match j,hj with
     | 0,_=>exact TN c3 _
     | 1,_=>exact .bool _
   exact .inr hq
  rcases TO hm hko TP w with⟨g1,g2,_⟩ | ⟨j,e,n,g1,g2,g3,g4,g5⟩
  ·have e0:fo f k=0:=by unfold fo;rw[g2];rfl
   have hz0:ze=KO z (fo f k):=by
    rw[e0];refine TQ c3 hz1 ?_;have hsz:0<ei.size:=by
     have:ze.cells.size=1:=by rw[hz1];rfl
     omega
    have:=Jr 0 hsz;rwa [<- c2]at this
   rcases hrep false with hr | hr
   ·refine dh.cT hR ?_ (.pure hr);simp[execOp,ho,hxv,hkv,Instr.lookup,bG hud,MapKept.run_getObj_map hw,K3,g1,zeroValue,typeInfo,hie,hze,hz0]
   rw[g2]at hr;exact absurd rfl hr
  have e0:fo f k=n:=by unfold fo;rw[g4];rfl
  rcases hrep true with hr | hr
  ·refine dh.cT hR ?_ (.pure hr);simp[execOp,ho,hxv,hkv,Instr.lookup,bG hud,MapKept.run_getObj_map hw,K3,g1,e0]
  rw[g4]at hr;exact absurd rfl hr
 split at h1
 ·rename_i ob k e1 e2;rw[e1]at hx;have hkv:=K2 e2 hix;obtain⟨TP,h2⟩:=h1.bK;obtain⟨obj,_,lg,h3⟩:=h2.kg;obtain⟨p,hp,hO⟩:=hR.live lg;cases obj with
  | box=>exact(dg.ba h3).elim
  | row=>exact(dg.ba h3).elim
  | map kd z f=>
   obtain⟨c1,h4⟩:=h3.bK;obtain⟨c2,h5⟩:=h4.bK;obtain⟨c3,h6⟩:=h5.bK;obtain⟨rfl,rfl⟩:=h6.dp;obtain⟨hn,b,bo,sz,es,clock,hpl,hw,hm⟩:=hO;obtain⟨b',la,sz',hpl',hxv⟩:=hx.rb hp;rw[hpl]at hpl';cases hpl';exact main b kd z f es clock k hxv hkv hw hm (afj c1) (afj c2) c3 TP
 ·rename_i kd z f k e1 e2;rw[e1]at hx;have hkv:=K2 e2 hix;obtain⟨TP,h2⟩:=h1.bK;obtain⟨c1,h4⟩:=h2.bK;obtain⟨c2,h5⟩:=h4.bK;obtain⟨c3,h6⟩:=h5.bK;obtain⟨rfl,rfl⟩:=h6.dp;obtain⟨b,es,clock,_,hw,hm,hxv⟩:=hx.afW;exact main b kd z f es clock k hxv hkv hw hm (afj c1) (afj c2) c3 TP
 exact(dg.ba h1).elim
def aaI {u:AV} {n:Int} {x:Value} (h:afO z u=some n) (hx:cQ w I O D u x):x=KO z n:=by
 unfold afO at h;split at h
 ·split at h
  ·rename_i b _;cases h;rw[hx.je];cases b<;>rfl
  cases h
 ·split at h
  ·split at h
   ·rename_i k m k' _ e;cases h;have:=afj e;subst this;rw[hx.eP];rfl
   cases h
  cases h
 cases h
def QO (f:cj->Option Int) (k:cj) (n:Int):te f k n k=some n:=by simp[te]
def NJ (f:cj->Option Int) {k k':cj} (n:Int) (h:k'≠k):te f k n k'=f k':=by simp[te,h]
theorem Jy (hc:ej P cfg) (hR:Rel cfg cx H D w I O) {t:TypeId} {x ix y:Operand} (ho:o.op=.mapUpdate t x ix y\/o.op=.insert t x ix y) (hx:cQ w I O D (ρ x) (a.eval x)) (hix:cQ w I O D (ρ ix) (a.eval ix)) (hy:cQ w I O D (ρ y) (a.eval y))
  (h:dg Sp H (Xm cfg t (ρ x) (ρ ix) (ρ y)) v ups r):dh P cfg cx H D w I O cH o a v ups:=by
 unfold Xm at h;obtain⟨ti,kt,et,ki,ei,ht,hd,hk,he,hag,aaH,h1⟩:=Oq h;split at h1
 ·rename_i ob k n e1 e2 e3;rw[e1]at hx;have hkv:=K2 e2 hix;have hyv:=aaI e3 hy;obtain⟨TP,h2⟩:=h1.bK;obtain⟨obj,_,lg,h3⟩:=h2.kg;obtain⟨p,hp,hO⟩:=hR.live lg;cases obj with
  | box=>exact(dg.ba h3).elim
  | row=>exact(dg.ba h3).elim
  | map kd z f=>
   obtain⟨c1,h4⟩:=h3.bK;obtain⟨c2,h5⟩:=h4.bK;obtain⟨c3,h6⟩:=h5.bK;obtain⟨rfl,rfl⟩:=h6.ik;have c1:=afj c1;have c2:=afj c2;rw[<- c2]at hyv;obtain⟨hn,b,bo,sz,es,clock,hpl,hw,hm⟩:=hO;obtain⟨b',la,sz',hpl',hxv⟩:=hx.rb hp;rw[hpl]at hpl';cases hpl';obtain⟨_,dd,_,_,hud,_,_,_,_,_,_,_,hmt⟩:=(hc.ty t ti ht).ex;rw[hd]at hmt;have hmt:dd=.map kt et:=hmt;subst hmt;have hko:=Xv hc hk aaH TP;rw[<- c1]at hko TP;have K3:=λ e=>hko.check k TP e w;obtain⟨es',clock',hrun,hm'⟩:∃es' clock',(execOp a.eval o).run P w=.ok .skip { w with heap:=w.heap.setIfInBounds b (.map es' clock') }/\KP kd z (te f k n) es':=by
    rcases TO hm hko TP w with⟨g1,g2,g3⟩ | ⟨j,e,m,g1,g2,g3,g4,g5⟩
    ·refine⟨es.push { key:=jM k,val:=KO z n,born:=clock },clock+1,?_,?_⟩
     ·rcases ho with ho | ho<;>simp[execOp,ho,hxv,hkv,hyv,Instr.mapUpdate,bG hud,MapKept.run_getObj_map hw,K3,g1,MapKept.run_setObj_map _ hw]
     refine⟨λ e he=>?_,?_,λ k' n' h'=>?_⟩
     ·simp only[apM,ahL,ahd]at he;rcases he with he | rfl
      ·obtain⟨k',n',q1,q2,q3,q4⟩:=hm.keys e he;have hne:k'≠k:=λ e'=>g3 e he (by rw[q1,e']);exact⟨k',n',q1,q2,by rw[NJ f n hne];exact q3,q4⟩
      exact⟨k,n,rfl,TP,QO f k n,rfl⟩
     ·simp only[apM];refine List.pairwise_append.2 ⟨hm.uniq,by simp,λ x hx y hy=>?_⟩;simp only[ahd]at hy;subst hy;exact g3 x hx
     simp only[apM,ahL,ahd];by_cases hkk:k'=k
     ·subst hkk;exact⟨_,.inr rfl,rfl⟩
     rw[NJ f n hkk]at h';obtain⟨e,h1,h2⟩:=hm.all k' n' h';exact⟨e,.inl h1,h2⟩
    have hj:j<es.size:=by
     rcases aiZ j es.size with h | h
     ·exact h
     rw[ajA h]at g2;cases g2
    refine⟨es.modify j λ e=>{ e with key:=jM k,val:=KO z n },clock,?_,?_⟩
    ·rcases ho with ho | ho<;>simp[execOp,ho,hxv,hkv,hyv,Instr.mapUpdate,bG hud,MapKept.run_getObj_map hw,K3,g1,g2,g3,RF,MapKept.run_setObj_map _ hw]
    have hkey:(es.modify j λ e=>{ e with key:=jM k,val:=KO z n }).toList.map (·.key)=es.toList.map (·.key):=modify_keys j _ λ e' he'=>by rw[g2]at he';cases he';exact g3.symm
    have aiB:∀i e',es[i]? = some e'->e'.key=jM k->i=j:=by
     intro i e' hi hk';have hpw:=aj5.1 hm.uniq;obtain⟨hi1,hi2⟩:=ajR.1 hi;obtain⟨hj1,hj2⟩:=ajR.1 g2;rcases anX i j with h | h | h
     ·exact absurd (show es.toList[i].key=es.toList[j].key by rw[an0,an0,hi2,hj2,hk',g3]) (hpw i j (by simpa using hi1) (by simpa using hj1) h)
     ·exact h
     exact absurd (show es.toList[j].key=es.toList[i].key by rw[an0,an0,hi2,hj2,hk',g3]) (hpw j i (by simpa using hj1) (by simpa using hi1) h)
    refine⟨λ e' he'=>?_,?_,λ k' n' h'=>?_⟩
    ·obtain⟨i,hi,hie⟩:=List.getElem_of_mem he';have hi2:(es.modify j λ e=>{ e with key:=jM k,val:=KO z n })[i]? = some e':=by
      rw[<- Array.getElem?_toList,aeA hi,hie]
     rw[aov]at hi2;by_cases hij:j=i
     ·subst hij;rw[afc rfl,g2]at hi2;simp only[ajW,apI]at hi2;subst hi2;exact⟨k,n,rfl,TP,QO f k n,rfl⟩
     rw[aeV hij]at hi2;obtain⟨k',n',q1,q2,q3,q4⟩:=hm.keys e' (Array.mem_toList_iff.2 (apc hi2));have hne:k'≠k:=λ e''=>hij (aiB i e' hi2 (by rw[q1,e''])).symm;exact⟨k',n',q1,q2,by rw[NJ f n hne];exact q3,q4⟩
    ·have h1:(es.toList.map (·.key)).Pairwise (· ≠ ·):=aor.2 hm.uniq;rw[<- hkey]at h1;exact aor.1 h1
    have hmem:jM k'∈es.toList.map (·.key):=by
     by_cases hkk:k'=k
     ·subst hkk;exact aio.2 ⟨e,Array.mem_toList_iff.2 (apc g2),g3⟩
     rw[NJ f n hkk]at h';obtain⟨e',h1,h2⟩:=hm.all k' n' h';exact aio.2 ⟨e',h1,h2⟩
    rw[<- hkey]at hmem;obtain⟨e',h1,h2⟩:=aio.1 hmem;exact⟨e',h1,h2⟩
   obtain⟨Yw,PU⟩:=MapKept.heap_set (o':=.map es' clock') hw;have hsz:({ w with heap:=w.heap.setIfInBounds b (.map es' clock') }:World).heap.size=w.heap.size:=by simp
   intro next Q hnx
   have akv:Am cx { w with heap:=w.heap.setIfInBounds b (.map es' clock') }:=by
    refine⟨⟨hR.env.same.os,hR.env.same.tape,hR.env.same.output,λ i ob hi ho=>?_⟩,λ i ob hi=>?_⟩
    ·have h1:=hR.env.same.keep i ob hi ho;have hne:i≠b:=λ e=>by
      subst e;rw[hw]at h1;cases h1;cases ho
     show(w.heap.setIfInBounds b _)[i]? = _;rw[PU i hne];exact h1
    obtain⟨h1,h2⟩:=hR.env.kept i ob hi;have hne:i≠b:=λ e=>by
     subst e;rw[hw]at h1;cases h1;cases h2
    refine⟨?_,h2⟩;show(w.heap.setIfInBounds b _)[i]? = _;rw[PU i hne];exact h1
   have hR':=hR.aat akv (.map kd z (te f k n)) hp hpl (λ b' hb'=>PU b' hb') hsz ⟨hn,b,bo,sz,es',clock',hpl,Yw,hm'⟩;have KX:∀b',I b'->({ w with heap:=w.heap.setIfInBounds b (.map es' clock') }:World).heap[b']? = w.heap[b']? := λ b' h=>PU b' (λ e=>hR.lz ob p b bo sz hp hpl (e ▸ h));have hkeep:∀u y,cQ w I O D u y->cQ { w with heap:=w.heap.setIfInBounds b (.map es' clock') } I O D u y:=λ u y hu=>hu.mono (λ _ h=>h) KX (λ _ _=>.inl rfl) (λ _ h=>h) hR.used;exact Js hrun (hnx Go.undef _ I O (hR'.sI cH) (λ u y hu=>(hkeep u y hu).sI hR' cH) (.pure (.undef _)))
 exact(dg.ba h1).elim
end
end Go.Ab
namespace Go.Ab
section
variable {P:Program} {cfg:qX} {cx:Ctx} {H:Nat->Option cI} {D:Nat->Prop} {w:World} {I:Nat->Prop} {O:OM}
variable {cH:Nat} {o:Oper} {a:Act} {ρ:Operand->AV} {v:AV} {ups:ic} {r:ap0}
theorem Wb (hR:Rel cfg cx H D w I O) {f:FuncId} {args:ap2} {vals:Array Value} (hrun:∀fn,P.funcs[f]? = some fn->fn.body.isNone=false->(fn.name == "runtime.NumGoroutine")=false->(execOp a.eval o).run P w=.ok (.enter f vals) w)
  (hvl:vals.size=args.length) (hva:∀j,j<args.length->cQ w I O D (nth args j) (vals.getD j Go.undef))
  (h:dg (Spec P cfg) H (Al [] args λ args' _=>.call f args' [] λ r dt=>match dt with | []=>dy (ZX r) (iQ r) | _::_=>.fail) v ups r):dh P cfg cx H D w I O cH o a v ups:=by
 obtain⟨args',ids,r2,h4,hal,aaB⟩:=Eu hR (sg:=[]) (λ j hj=>by cases hj) args _ _ h;cases h4 with
 | @call _ _ _ _ res dt _ _ _ hspec h6=>
 cases dt with
 | cons=>exact(dg.ba h6).elim
 | nil=>
  obtain⟨hm,h7⟩:=h6.bK;obtain⟨rfl,rfl⟩:=h7.dp;clear h h6 h7;obtain⟨⟨fn,hf1,hf2,hf3⟩,hle,hcall⟩:=hspec;have hRs:=hR.sub (sg:=[]) (ids:=ids) (obs:=[]) rfl (by
   have:∀l,Ej l []=true:=by
    intro l
    induction l with
    | nil=>rfl
    | cons x l ih=>unfold Ej;simp[vR,ih]
   exact this ids) rfl (λ j hj=>by cases hj)
  intro next Q hnx
  refine TB (hrun fn hf1 hf2 hf3) ((hcall w _ _ vals hRs om (λ j hj=>aaB j om _ (hva j om))).mono ?_);rintro e w' ⟨x,I',O',rfl,hR',hres⟩;refine⟨x,rfl,?_⟩;have hfr:∀b,b<w.heap.size->w'.heap[b]? = w.heap[b]? := λ b hb=>hR'.frame b hb (by
   rintro ⟨j,p,bo,sz,h1,h2⟩
   simp[l7]at h1)
  have Jq:=hR.sI cH;refine hnx x w' I O ?_ (λ u y hu=>hu.mono (λ _ h=>h) (λ b hb=>hfr b (hR.uX b hb)) (λ _ _=>.inl rfl) (λ _ h=>.inl h) hR.used) (.pure (V3 hres hm));rw[xh];exact { Jq with
   objs:=λ o ob p h1 h2=>(Jq.objs o ob p h1 h2).mono (λ _ h=>h) (λ b hb=>hfr b (hR.uX b hb)) (λ _ _=>.inl rfl) (λ _ h=>h) Jq.used (λ b bo sz hpl=>hfr b (hR.lt o p b bo sz h2 hpl))
   lt:=λ o p b bo sz h1 h2=>ajM (hR.lt o p b bo sz h1 h2) hR'.size
   uX:=λ b h=>ajM (hR.uX b h) hR'.size
   size:=af3 hR.size hR'.size
   env:=hR.env.step hR'.env.same
   frame:=λ b h1 h2=>by rw[hfr b (ajM h1 hR.size)];exact hR.frame b h1 h2
   glob:=λ g cs h=>(hR.glob g cs h).mono (λ _ h=>h) (λ b hb=>hfr b (hR.uX b hb)) }
def RH (l m:ap2) (j:Nat) (h:j<l.length):nth (l++m) j=nth l j:=by
 rw[pJ,pJ];simp[aku h]
def RI (l m:ap2) (j:Nat) (h:l.length<=j):nth (l++m) j=nth m (j - l.length):=by
 rw[pJ,pJ];simp[ako h]
def adN (hR:Rel cfg cx H D w I O) (hn:Oa D cH) {c:Call} {f:Operand} (ho:o.op=.call c) (hcl:c.callee=.value f) (hf:cQ w I O D (ρ f) (a.eval f)) (hx:∀x∈c.args.toList,cQ w I O D (ρ x) (a.eval x))
  (h:dg (Spec P cfg) H (dV cfg cH (.call c) ρ) v ups r):dh P cfg cx H D w I O cH o a v ups:=by
 simp only[dV,hcl]at h;split at h
 ·rename_i g caps e;rw[e]at hf;obtain⟨cvs,hfv,akw,hcr⟩:=hf.En;have hrun:∀fn,P.funcs[g]? = some fn->fn.body.isNone=false->(fn.name == "runtime.NumGoroutine")=false->(execOp a.eval o).run P w=.ok (.enter g (c.args.map a.eval++cvs)) w:=by
   intro fn h1 h2 h3;simp only[execOp,ho,hcl,resolve,hfv,Deferred.ofValue,Sem.run_bind,Sem.run_pure,Result.andThen_ok,invoke,callFunc,program,Sem.run,h1,h2,h3,anp,apx];simp
  have hvl:(c.args.map a.eval++cvs).size=(c.args.toList.map ρ++caps).length:=by simp[akw]
  have hva:∀j,j<(c.args.toList.map ρ++caps).length->cQ w I O D (nth (c.args.toList.map ρ++caps) j) ((c.args.map a.eval++cvs).getD j Go.undef):=by
   intro j hj;by_cases hlt:j<(c.args.toList.map ρ).length
   ·rw[RH _ _ _ hlt];have h1:=Xq (a:=a) hx j hlt;have hlt':j<(c.args.map a.eval).size:=by simpa using hlt
    have e1:(c.args.map a.eval++cvs).getD j Go.undef=(c.args.map a.eval).getD j Go.undef:=by
     simp only[aiV, alZ hlt']
    rw[e1];simpa using h1
   have hge:(c.args.toList.map ρ).length<=j:=by omega
   rw[RI _ _ _ hge];have hge':(c.args.map a.eval).size<=j:=by simpa using hge
   have e1:(c.args.map a.eval++cvs).getD j Go.undef=cvs.getD (j - (c.args.map a.eval).size) Go.undef:=by
    simp only[aiV, aoy hge']
   rw[e1];have e2:(c.args.map a.eval).size=(c.args.toList.map ρ).length:=by simp
   rw[e2];exact hcr _ (by simp at hj hge ⊢;omega)
  unfold Z2 at h;split at h
  ·split at h
   ·exact Wb hR hrun hvl hva h
   exact TH hR hn hrun hvl hva h
  exact TH hR hn hrun hvl hva h
 exact(dg.ba h).elim
def afi (w:World) (I:Nat->Prop) (O:OM) (D:Nat->Prop) (a:Act) (ρ:Operand->AV) (op:Op):Prop:=
 match op with
 | .pick c x y=>cQ w I O D (ρ c) (a.eval c)/\(∀b,ρ c=.bool b->b=true->cQ w I O D (ρ x) (a.eval x))/\(∀b,ρ c=.bool b->b=false->cQ w I O D (ρ y) (a.eval y))
 | op=>∀x∈op.operands.toList,cQ w I O D (ρ x) (a.eval x)
def aaJ (hc:ej P cfg) (hR:Rel cfg cx H D w I O) (hF:Oa D cH) (hρ:∀c,ρ (.const c)=ofConst c) (hx:afi w I O D a ρ o.op) (h:dg (Spec P cfg) H (dV cfg cH o.op ρ) v ups r):dh P cfg cx H D w I O cH o a v ups:=by
 have hn:=hF.one;generalize ho:o.op=op at hx h;cases op with
 | move x=>obtain⟨rfl,rfl⟩:=h.dp;exact adu hR ho (hx x (by simp[Op.operands]))
 | assign x=>obtain⟨rfl,rfl⟩:=h.dp;exact Yq hR ho (hx x (by simp[Op.operands]))
 | pick c x y=>
  obtain⟨h1,h2,h3⟩:=hx;exact adv hR ho h1 h2 h3 (λ c e=>by subst e;exact⟨hρ c,rfl⟩) (λ c e=>by subst e;exact⟨hρ c,rfl⟩) h
 | alloc t=>exact aao hc hR hn ho h
 | box t x=>exact af2 hR hn ho (hx x (by simp[Op.operands])) h
 | build t parts=>
  refine aar hc hR ho (λ p hp=>hx p.2 ?_) h;simp only[Op.operands,aio];exact⟨p,hp,rfl⟩
 | buildSlice t len parts=>
  refine P1 hc hR hn ho (λ p hp=>hx p.2 ?_) h;simp only[Op.operands,aio];exact⟨p,hp,rfl⟩
 | load t x=>exact adA hc hR ho (hx x (by simp[Op.operands])) h
 | store t x y=>exact aau hc hR ho (hx x (by simp[Op.operands])) (hx y (by simp[Op.operands])) h
 | nilCheck x=>exact Tl hR ho (hx x (by simp[Op.operands])) h
 | binOp op t x y t'=>exact aah hc hR ho (hx x (by simp[Op.operands])) (hx y (by simp[Op.operands])) h
 | unOp op t x=>exact adz hR ho (hx x (by simp[Op.operands])) h
 | convert s d x=>exact VX hc hR ho (hx x (by simp[Op.operands])) h
 | makeFunc fn first cap=>exact Tm hR ho (λ x hm=>hx x (by simp only[Op.operands,aoI,ahL];exact .inr hm)) h
 | makeSlice t l c=>exact RB hc hR hn ho (hx l (by simp[Op.operands])) (hx c (by simp[Op.operands])) h
 | slice t x lo hi mx=>
  refine aam hc hR ho (hx x (by simp[Op.operands])) (λ y e=>hx y ?_) (λ y e=>hx y ?_) (λ y e=>hx y ?_) h
  ·subst e;simp[Op.operands]
  ·subst e;simp[Op.operands]
  subst e;simp[Op.operands]
 | fieldAddr s x f=>exact Rz hc hR ho (hx x (by simp[Op.operands])) h
 | field s x f=>exact aai hc hR ho (hx x (by simp[Op.operands])) h
 | indexAddr t x ix=>exact RA hc hR ho (hx x (by simp[Op.operands])) (hx ix (by simp[Op.operands])) h
 | extract t i=>exact VN hR ho (hx t (by simp[Op.operands])) h
 | index t x ix=>exact aaG hc hR ho (hx x (by simp[Op.operands])) (hx ix (by simp[Op.operands])) h
 | makeMap t r=>
  cases r with
  | none=>exact Wa hR hn ho h
  | some r=>exact(dg.ba h).elim
 | lookup t x ix ok=>exact YG hc hR ho (hx x (by simp[Op.operands])) (hx ix (by simp[Op.operands])) h
 | insert t x ix y=>exact Jy hc hR (.inr ho) (hx x (by simp[Op.operands])) (hx ix (by simp[Op.operands])) (hx y (by simp[Op.operands])) h
 | mapUpdate t x ix y=>exact Jy hc hR (.inl ho) (hx x (by simp[Op.operands])) (hx ix (by simp[Op.operands])) (hx y (by simp[Op.operands])) h
 | call c=>
  have Wc:∀x∈c.args.toList,cQ w I O D (ρ x) (a.eval x):=λ x hm=>hx x (by simp only[Op.operands,Call.operands,aoI,ahL];exact .inr hm);cases hcl:c.callee with
  | value f=>exact adN hR hF ho hcl (hx f (by simp[Op.operands,Call.operands,hcl])) Wc h
  | invoke x m=>simp only[dV,hcl]at h;exact(dg.ba h).elim
  | builtin b=>
   cases b with
   | len=>exact afX hc hR ho hcl Wc h
   | append=>exact Yx hc hR hn ho hcl Wc h
   | copy=>exact adI hc hR ho hcl Wc h
   | clear=>exact aay hc hR ho hcl Wc h
   | min=>exact afY hR ho hcl Wc h
   | max=>exact afZ hR ho hcl Wc h
   | _=>simp only[dV,hcl]at h;exact(dg.ba h).elim
 | _=>exact(dg.ba h).elim
end
end Go.Ab
namespace Go.Ab
structure TE where
 ex:Bool
 v:AV
 ups:ic
 ud:ap0
def fc {α:Type} (T:Nat->α) (d:Option Nat) (v:α):Nat->α:=match d with
 | some k=>λ t=>if t=k then v else T t
 | none=>T
def isB (b:Bool):AV->Bool
 | .bool c=>c==b
 | _=>false
def im (all:List Oper) (T:Nat->AV) (V:Nat->Bool) (o:Oper):Bool:=match o.guard with
 | none=>true
 | some (j,b)=>match Mi all j with
  | some d=>V d&&isB b (T d)
  | none=>false
def jR (all:List Oper) (T:Nat->AV) (o:Oper):Prop:=match o.guard with
 | none=>True
 | some (j,_)=>∃d c,Mi all j=some d/\T d=.bool c
def Tr (cfg:qX) (Sp:lk) (all:List Oper) (nx:Nat):List Oper->Nat->(Nat->AV)->(Nat->Bool)->(Nat->Option cI)->List TE->Prop
 | [],_,_,_,_,[]=>True
 | o::rest,i,T,V,H,e::tr=>jR all T o/\e.ex=im all T V o/\(e.ex=true->dg Sp H (dV cfg (nx+stride*i) o.op (ND cfg T)) e.v e.ups e.ud)/\(e.ex=false->e.ups=[])/\
   Tr cfg Sp all nx rest (i+1) (fc T o.dst e.v) (fc V o.dst e.ex) (jJ H e.ups) tr
 | _,_,_,_,_,_=>False
section
variable {P:Program} {cfg:qX} {cx:Ctx} {N:Nat} {ds:List Deferred}
structure um (N:Nat) (ds:List Deferred) (T:Nat->AV) (V:Nat->Bool) (a:Act) (w:World) (I:Nat->Prop) (O:OM) (D:Nat->Prop):Prop where
 defers:a.defers=ds
 size:a.tmps.size=N
 rep:∀t,V t=true->cQ w I O D (T t) (a.tmps.getD t Go.undef)
 gone:∀t,V t=false->a.tmps.getD t Go.undef=Go.undef
def dB (tm:Array Value) (d t:Nat) (x:Value) (h:d<tm.size):(tm.setIfInBounds d x).getD t Go.undef=if t=d then x else tm.getD t Go.undef:=by
 by_cases e:t=d
 ·subst e;simp[h]
 rw[aeV e];have:d≠t:=λ h=>e h.symm;simp[apf this]
variable {T:Nat->AV} {V:Nat->Bool} {a:Act} {w:World} {I:Nat->Prop} {O:OM} {D:Nat->Prop}
theorem um.put {w':World} {I':Nat->Prop} {O':OM} {D':Nat->Prop} (h:um N ds T V a w I O D) (keep:∀u y,cQ w I O D u y->cQ w' I' O' D' u y) (d:Option Nat) (hd:∀k,d=some k->k<N)
  (v:AV) (x:Value) (ex:Bool) (hx:ex=true->cQ w' I' O' D' v x) (hx':ex=false->x=Go.undef):um N ds (fc T d v) (fc V d ex) (a.put d x) w' I' O' D':=by
 cases d with
 | none=>exact⟨h.defers,h.size,λ t ht=>keep _ _ (h.rep t ht),h.gone⟩
 | some k=>
  have hk:=hd k rfl;have hs:=h.size;refine⟨h.defers,by simp[Act.put,hs],λ t ht=>?_,λ t ht=>?_⟩
  ·show cQ _ _ _ _ (if t=k then v else T t) ((a.tmps.setIfInBounds k x).getD t Go.undef);rw[dB _ _ _ _ om];simp only[fc]at ht;by_cases e:t=k
   ·rw[afc e,afc e];exact hx (by simpa[e]using ht)
   rw[aeV e,aeV e];exact keep _ _ (h.rep t (by simpa[e]using ht))
  show(a.tmps.setIfInBounds k x).getD t Go.undef=_;rw[dB _ _ _ _ om];simp only[fc]at ht;by_cases e:t=k
  ·rw[afc e];exact hx' (by simpa[e]using ht)
  rw[aeV e];exact h.gone t (by simpa[e]using ht)
variable {H:Nat->Option cI}
def qb (hR:Rel cfg cx H D w I O) (hT:um N ds T V a w I O D) (x:Operand) (hv:∀t,x=.tmp t->V t=true):cQ w I O D (ND cfg T x) (a.eval x):=by
 cases x with
 | tmp t=>exact hT.rep t (hv t rfl)
 | const c=>exact VL c
 | global g=>
  simp only[ND,Act.eval];cases hg:look cfg.glob g with
  | some cs=>exact .pure (hR.glob g cs hg)
  | none=>exact .pure (.undef _)
 | func f=>exact .pure (.fn (by simp) (λ j hj=>by simp at hj))
def yG (T:Nat->AV) (V:Nat->Bool) (op:Op):Prop:=match op with
 | .pick c x y=>(∀t,c=.tmp t->V t=true)/\(RJ T c=some true->∀t,x=.tmp t->V t=true)/\(RJ T c=some false->∀t,y=.tmp t->V t=true)
 | op=>∀t,Operand.tmp t∈op.operands.toList->V t=true
 where RJ (T:Nat->AV):Operand->Option Bool
 | .tmp t=>match T t with | .bool b=>some b | _=>none
 | .const (.bool b)=>some b
 | _=>none
def RK {k:Value} {b:Bool} (h:ofConst k=.bool b):k=.bool b:=by
 unfold ofConst at h;split at h<;>first | (cases h;rfl) | cases h
def aaL (hR:Rel cfg cx H D w I O) (hT:um N ds T V a w I O D) {op:Op} (h:yG T V op):afi w I O D a (ND cfg T) op:=by
 have hb:∀(c:Operand) (b:Bool),ND cfg T c=.bool b->yG.RJ T c=some b:=by
  intro c b e;cases c with
  | tmp t=>simp only[ND]at e;simp[yG.RJ,e]
  | const k=>simp only[ND]at e;rw[RK e];rfl
  | global g=>simp only[ND]at e;split at e<;>cases e
  | func f=>cases e
 cases op with
 | pick c x y=>
  obtain⟨h1,h2,h3⟩:=h;exact⟨qb hR hT c h1,λ b e e'=>qb hR hT x (h2 (by rw[hb c b e,e'])),λ b e e'=>qb hR hT y (h3 (by rw[hb c b e,e']))⟩
 | _=>exact λ x hx=>qb hR hT x (λ t e=>h t (e ▸ hx))
def YH (hc:ej P cfg) {H:Nat->Option cI} {D:Nat->Prop} {w:World} {I:Nat->Prop} {O:OM} {T:Nat->AV} {V:Nat->Bool} {a:Act} {cH:Nat} {o:Oper} {v:AV} {ups:ic} {ud:ap0}
  (hR:Rel cfg cx H D w I O) (hT:um N ds T V a w I O D) (hn:Oa D cH) (hval:yG T V o.op) (hd:∀k,o.dst=some k->k<N) (hev:dg (Spec P cfg) H (dV cfg cH o.op (ND cfg T)) v ups ud)
  {next:Act->World->Prop} {Q:Exit->Act->World->Prop} (hnx:∀a' w' I' O',Rel cfg cx (jJ H ups) (xg D cH) w' I' O'->um N ds (fc T o.dst v) (fc V o.dst true) a' w' I' O' (xg D cH)->next a' w'):o.wp P a w next Q:=by
 refine aaJ hc hR hn (λ _=>rfl) (aaL hR hT hval) hev next Q λ x w' I' O' hR' hk hv=>hnx _ w' I' O' hR' (hT.put hk o.dst hd v x true (λ _=>hv) (λ h=>by cases h))
def Ot (l:List Oper) (j:Nat):QG l j=l[j]? := by
 induction l generalizing j with
 | nil=>rfl
 | cons o l ih=>cases j with
  | zero=>rfl
  | succ j=>simpa[QG]using ih j
def YI {ops:Array Oper} (hT:um N ds T V a w I O D) (o:Oper) (hg:jR ops.toList T o):Region.wanted o (yielded ops a.tmps)=im ops.toList T V o:=by
 unfold Region.wanted im;unfold jR at hg;cases hgu:o.guard with
 | none=>rfl
 | some g=>
  obtain⟨j,b⟩:=g;rw[hgu]at hg;simp only at hg;obtain⟨d,c,h1,h2⟩:=hg;simp only[h1,h2,isB];have hd:((ops[j]?).bind (·.dst))=some d:=by
   unfold Mi at h1;rw[Ot]at h1;have e:ops.toList[j]? = ops[j]? := by simp
   rw[e]at h1;cases ho:ops[j]? with
   | none=>rw[ho]at h1;cases h1
   | some o'=>rw[ho]at h1;simpa using h1
  have hy:yielded ops a.tmps j=if V d then some c else none:=by
   unfold yielded;rw[hd];simp only[Option.bind_some];cases hv:V d with
   | true=>
    have:=hT.rep d hv;rw[h2]at this;have hx:=this.je;rcases aiZ d a.tmps.size with hlt | hge
    ·simp[hlt]at hx;simp[hlt,hx]
    simp[ajA hge,Go.undef]at hx
   | false=>
    have:=hT.gone d hv;rcases aiZ d a.tmps.size with hlt | hge
    ·simp[hlt]at this;simp[hlt,this,Go.undef]
    simp[ajA hge]
  rw[hy];cases V d<;>simp
def K4 (t:Nat):∀(l:List Oper) (i k:Nat),k∈p9 t l i↔∃o,i<=k/\l[k - i]? = some o/\o.dst=some t:=by
 intro l;induction l with
 | nil=>intro i k;simp[p9]
 | cons o l ih=>
  intro i k;have hd:Xo o.dst t=true↔o.dst=some t:=by
   unfold Xo;cases o.dst with
   | none=>simp
   | some x=>simp
  unfold p9;cases hb:Xo o.dst t with
  | true=>
   simp only[ah0,ih];constructor
   ·rintro (h | ⟨o',h1,h2,h3⟩)
    ·subst h;exact⟨o,afM _,by simp,hd.1 hb⟩
    refine⟨o',by omega,?_,h3⟩;have:k - i=(k - (i+1))+1:=by omega
    rw[this];simpa using h2
   rintro ⟨o',h1,h2,h3⟩;by_cases hk:k=i
   ·exact .inl hk
   refine .inr ⟨o',by omega,?_,h3⟩;have:k - i=(k - (i+1))+1:=by omega
   rw[this]at h2;simpa using h2
  | false=>
   simp only[ih];constructor
   ·rintro ⟨o',h1,h2,h3⟩;refine⟨o',by omega,?_,h3⟩;have:k - i=(k - (i+1))+1:=by omega
    rw[this];simpa using h2
   rintro ⟨o',h1,h2,h3⟩;by_cases hk:k=i
   ·subst hk;simp at h2;subst h2;rw[hd.2 h3]at hb;cases hb
   refine⟨o',by omega,?_,h3⟩;have:k - i=(k - (i+1))+1:=by omega
   rw[this]at h2;simpa using h2
def rm (all:List Oper) (t k:Nat):k∈writers all t↔∃o,all[k]? = some o/\o.dst=some t:=by
 unfold writers;rw[K4];simp
structure Known (all:List Oper) (k:Nat) (T:Nat->AV) (V:Nat->Bool) (ex:Nat->Bool) (val:Nat->AV):Prop where
 one:∀i t,i<k->writers all t=[i]->V t=ex i/\T t=val i
 free:∀t,(∀i,i<k->i∈writers all t->N4 all i=none)->V t=true
 guard:∀i j b,i<k->N4 all i=some (j,b)->j<i/\ex i=(ex j&&isB b (val j))
variable {all:List Oper}
theorem Known.chain {k:Nat} {ex:Nat->Bool} {val:Nat->AV} (hK:Known all k T V ex val):∀(f:Nat) (g:Option (Nat×Bool)),(∀j b,g=some (j,b)->j<k/\ex j=true/\isB b (val j)=true)->
  ∀j b,adr j b (Ab.chain all f g)=true->j<k/\ex j=true/\isB b (val j)=true:=by
 intro f;induction f with
 | zero=>intro g _ j b h;cases h
 | succ f ih=>
  intro g hg j b h;cases g with
  | none=>cases h
  | some g=>
   obtain⟨j',b'⟩:=g;obtain⟨h1,h2,h3⟩:=hg j' b' rfl;simp only[Ab.chain,adr]at h;split at h
   ·rename_i e1 e2;have e1:=aeK e1;subst e1;have:b=b':=by cases b<;>cases b'<;>simp[eqB]at e2<;>rfl
    subst this;exact⟨h1,h2,h3⟩
   refine ih _ (λ j2 b2 e=>?_) j b h;obtain⟨q1,q2⟩:=hK.guard j' j2 b2 h1 e;rw[h2]at q2;simp at q2;exact⟨by omega,q2.1,q2.2⟩
def RL {l:ap0} (h:NF all l=true):∀i∈l,N4 all i=none:=by
 induction l with
 | nil=>intro i hi;cases hi
 | cons x l ih=>
  intro i hi;unfold NF at h;cases hg:N4 all x with
  | some g=>simp[hg]at h
  | none=>
   simp only[hg]at h;rcases ah0.1 hi with e | e
   ·subst e;exact hg
   exact ih h i e
def Jz {k:Nat} {ex:Nat->Bool} {val:Nat->AV} (hK:Known all k T V ex val) {g:Option (Nat×Bool)} (hg:∀j b,g=some (j,b)->j<k/\ex j=true/\isB b (val j)=true) {t:Nat} (h:Rv all k g t=true):V t=true:=by
 unfold Rv at h;split at h
 ·rename_i i hw;cases hgi:N4 all i with
  | none=>exact hK.free t λ i' _ hi'=>by rw[hw]at hi';simp at hi';subst hi';exact hgi
  | some q=>
   obtain⟨j,b⟩:=q;simp only[hgi]at h;cases hlt:Nat.blt i k with
   | false=>simp[hlt]at h
   | true=>
    simp only[hlt]at h;have hik:i<k:=by simpa using hlt
    obtain⟨h1,h2,h3⟩:=hK.chain 20 g hg j b h;rw[(hK.one i t hik hw).1,(hK.guard i j b hik hgi).2,h2,h3];rfl
 exact hK.free t λ i _ hi=>RL h i hi
end
end Go.Ab
namespace Go.Ab
section
variable {P:Program} {cfg:qX} {cx:Ctx} {N:Nat}
variable {all:List Oper}
def Is {N:Nat} :∀(l:List Oper) (i:Nat),nF N all l i=true->∀k o,l[k]? = some o->Tj all (i+k) o=true/\∀d,o.dst=some d->d<N:=by
 intro l;induction l with
 | nil=>intro i _ k o h;simp at h
 | cons x l ih=>
  intro i h k o hk;unfold nF at h;split at h
  ·rename_i h1 h2;cases k with
   | zero=>
    simp at hk;subst hk;refine⟨h1,λ d hd=>?_⟩;rw[hd]at h2;simpa using h2
   | succ k=>
    have:=ih (i+1) h k o (by simpa using hk);rwa [anS,apQ 1 k]at this
  cases h
variable {T:Nat->AV} {V:Nat->Bool} {ex:Nat->Bool} {val:Nat->AV}
def Mp {k:Nat} (hK:Known all k T V ex val) {o:Oper} (hok:Tj all k o=true):
  (im all T V o=true->∀j b,o.guard=some (j,b)->j<k/\ex j=true/\isB b (val j)=true)/\(∀j b,o.guard=some (j,b)->j<k/\im all T V o=(ex j&&isB b (val j))):=by
 have key:∀j b,o.guard=some (j,b)->j<k/\im all T V o=(ex j&&isB b (val j)):=by
  intro j b hg;unfold Tj at hok;rw[hg]at hok;simp only at hok;split at hok
  ·rename_i h1;split at h1
   ·rename_i hlt;split at h1
    ·rename_i d hd;split at h1
     ·rename_i j' hw;have hjk:j<k:=by simpa using hlt
      have e:=aeK h1;subst e;refine⟨hjk,?_⟩;obtain⟨q1,q2⟩:=hK.one j' d hjk hw;unfold im;rw[hg];simp only[hd];rw[q1,q2]
     cases h1
    cases h1
   cases h1
  cases hok
 refine⟨λ h j b hg=>?_,key⟩;obtain⟨h1,h2⟩:=key j b hg;rw[h]at h2;have:=h2.symm;simp at this;exact⟨h1,this.1,this.2⟩
def Wd {k:Nat} (hK:Known all k T V ex val) {o:Oper} (hok:Tj all k o=true) (hg:im all T V o=true):yG T V o.op:=by
 have hgs:=(Mp hK hok).1 hg;have aiC:∀x,Gz all k o.guard x=true->∀t,x=.tmp t->V t=true:=by
  intro x h t e;subst e;exact Jz hK hgs h
 unfold Tj at hok;split at hok
 ·split at hok
  ·rename_i c x y hop;rw[hop];split at hok
   ·rename_i hc hx;have hcv:=aiC c hc;have arm:∀(pol:Bool) (z:Operand),Xp all k o.guard c pol z=true->yG.RJ T c=some pol->∀t,z=.tmp t->V t=true:=by
     intro pol z hz hb t e;subst e;unfold Xp at hz;simp only at hz;split at hz
     ·rename_i hr;exact Jz hK hgs hr
     split at hz
     ·rename_i ct i hwt;split at hz
      ·rename_i j b jc hgi hwc hlt;split at hz
       ·rename_i e1 e2;have e1:=aeK e1;subst e1;have hik:i<k:=by simpa using hlt
        have hjk:j<k:=by simpa using e2
        obtain⟨q1,q2⟩:=hK.one i t hik hwt;obtain⟨q3,q4⟩:=hK.one j ct hjk hwc;have q5:=(hK.guard i j b hik hgi).2;have hbp:b=pol:=by cases b<;>cases pol<;>simp[eqB]at hz<;>rfl
        subst hbp;have hT:T ct=.bool b:=by
         simp only[yG.RJ]at hb;split at hb
         ·rename_i b' hb';cases hb;exact hb'
         cases hb
        rw[q1,q5,<- q3,hcv ct rfl,<- q4,hT];simp[isB]
       cases hz
      cases hz
     cases hz
    exact⟨hcv,arm true x hx,arm false y hok⟩
   cases hok
  rename_i hnp;have hall:∀(l:List Operand),BK all k o.guard l=true->∀x∈l,Gz all k o.guard x=true:=by
   intro l;induction l with
   | nil=>intro _ x hx;cases hx
   | cons y l ih=>
    intro h x hx;unfold BK at h;split at h
    ·rename_i hy;rcases ah0.1 hx with e | e
     ·subst e;exact hy
     exact ih h x e
    cases h
  have main:∀t,Operand.tmp t∈o.op.operands.toList->V t=true:=λ t ht=>aiC _ (hall _ hok _ ht) t rfl;unfold yG;split
  ·rename_i c x y hop;exact absurd hop (hnp c x y)
  exact main
 cases hok
theorem Known.step {k:Nat} (hK:Known all k T V ex val) {o:Oper} (hk:all[k]? = some o) (hok:Tj all k o=true) (e:TE) (he:e.ex=im all T V o):
  Known all (k+1) (fc T o.dst e.v) (fc V o.dst e.ex) (λ i=>if i=k then e.ex else ex i) (λ i=>if i=k then e.v else val i):=by
 have hgl:N4 all k=o.guard:=by unfold N4;rw[Ot,hk]
 have upd:∀ {α:Type} (F:Nat->α) (x:α) (t:Nat),fc F o.dst x t=if o.dst=some t then x else F t:=by
  intro α F x t;unfold fc;cases hd:o.dst with
  | none=>simp
  | some d=>
   by_cases h:t=d
   ·subst h;simp
   have:¬ d=t:=λ e=>h e.symm;simp[h,this]
 refine⟨λ i t hi hw=>?_,λ t ht=>?_,λ i j b hi hg=>?_⟩
 ·rw[upd,upd];by_cases hik:i=k
  ·subst hik;have:i∈writers all t:=by rw[hw];simp
   obtain⟨o',h1,h2⟩:=(rm all t i).1 this;rw[hk]at h1;cases h1;simp[h2]
  have hne:¬ o.dst=some t:=λ h=>by
   have:k∈writers all t:=(rm all t k).2 ⟨o,hk,h⟩;rw[hw]at this;simp at this;omega
  simp only[aeV hne,aeV hik];exact hK.one i t om hw
 ·rw[upd];by_cases hd:o.dst=some t
  ·rw[afc hd,he];have:=ht k om ((rm all t k).2 ⟨o,hk,hd⟩);rw[hgl]at this;unfold im;rw[this]
  rw[aeV hd];exact hK.free t λ i hi hw=>ht i om hw
 by_cases hik:i=k
 ·subst hik;rw[hgl]at hg;obtain⟨h1,h2⟩:=(Mp hK hok).2 j b hg;refine⟨h1,?_⟩;rw[afc rfl,aeV om,aeV om,he,h2]
 obtain⟨h1,h2⟩:=hK.guard i j b om hg;refine⟨h1,?_⟩;rw[aeV hik,aeV om,aeV om,h2]
section sel
variable {α:Type} (wr:Nat->Nat->Bool) (g:Nat->Nat->α)
def sel (p:Nat->Bool):Nat->(Nat->α)->Nat->α
 | 0,F,t=>F t
 | m+1,F,t=>if p m&&wr m t then g m t else sel p m F t
def Ou (p:Nat->Bool) (m:Nat) (F:Nat->α) (t:Nat):sel wr g p (m+1) F t=if p m&&wr m t then g m t else sel wr g p m F t:=rfl
def qc (p q:Nat->Bool) (F:Nat->α) (t:Nat):∀m,(∀k,k<m->wr k t=true->p k=q k)->sel wr g p m F t=sel wr g q m F t:=by
 intro m;induction m with
 | zero=>intro _;rfl
 | succ m ih=>
  intro h;unfold sel;rw[ih λ k hk=>h k om];cases hw:wr m t with
  | false=>simp
  | true=>rw[h m om hw]
def nI (F:Nat->α) (t k:Nat):∀m,k<=m->sel wr g (λ j=>decide (j<k)) m F t=sel wr g (λ _=>true) k F t:=by
 intro m;induction m with
 | zero=>
  intro h;have:k=0:=by omega
  subst this;rfl
 | succ m ih=>
  intro h;by_cases hk:k=m+1
  ·subst hk;exact qc wr g _ _ F t _ λ j hj _=>by simp[hj]
  rw[Ou,ih om];simp[show ¬ m<k by omega]
def RM (p:Nat->Bool) (F:Nat->α) (t i:Nat) (hi:wr i t=true->∀k,i<k->p k=true->wr k t=false):∀m,i<m->sel wr g (λ j=>p j||decide (j=i)) m F t=if wr i t then g i t else sel wr g p m F t:=by
 intro m;induction m with
 | zero=>intro h;omega
 | succ m ih=>
  intro h;by_cases him:i=m
  ·subst him;unfold sel;have e:sel wr g (λ j=>p j||decide (j=i)) i F t=sel wr g p i F t:=qc wr g _ _ F t _ λ j hj _=>by simp[show ¬ j=i by omega]
   rw[e];cases hw:wr i t with
   | true=>simp
   | false=>simp
  have:=ih om;unfold sel;rw[this];cases hw:wr i t with
  | true=>
   have hne:¬ m=i:=λ e=>him e.symm;simp only[hne,decide_false,aoC,apa];cases hp:p m with
   | false=>simp
   | true=>simp[hi hw m om hp]
  | false=>
   have hne:¬ m=i:=λ e=>him e.symm;simp[hne]
end sel
end
end Go.Ab
namespace Go.Ab
section
variable {P:Program} {cfg:qX} {cx:Ctx} {N:Nat} {ds:List Deferred}
def Xw (all:List Oper) (k t:Nat):Bool:=match all[k]? with
 | some o=>decide (o.dst=some t)
 | none=>false
def ZJ (ent:Nat->TE) (k o:Nat):Bool:=(look (ent k).ups o).isSome
def gH (ent:Nat->TE) (k o:Nat):Option cI:=match look (ent k).ups o with
 | some x=>x
 | none=>none
def Aq (all:List Oper) (ent:Nat->TE) (p:Nat->Bool) (m:Nat) (T0:Nat->AV):Nat->AV:=sel (Xw all) (λ k _=>(ent k).v) p m T0
def G4 (all:List Oper) (ent:Nat->TE) (p:Nat->Bool) (m:Nat):Nat->Bool:=sel (Xw all) (λ k _=>(ent k).ex) p m (λ _=>true)
def Ji (ent:Nat->TE) (p:Nat->Bool) (m:Nat) (H0:Nat->Option cI):Nat->Option cI:=sel (ZJ ent) (gH ent) p m H0
def yes:Nat->Bool:=λ _=>true
def TrI (cfg:qX) (Sp:lk) (all:List Oper) (nx:Nat) (T0:Nat->AV) (H0:Nat->Option cI) (ent:Nat->TE):Prop:=
 ∀k o,all[k]? = some o->jR all (Aq all ent yes k T0) o/\(ent k).ex=im all (Aq all ent yes k T0) (G4 all ent yes k) o/\
  ((ent k).ex=true->dg Sp (Ji ent yes k H0) (dV cfg (nx+stride*k) o.op (ND cfg (Aq all ent yes k T0))) (ent k).v (ent k).ups (ent k).ud)/\((ent k).ex=false->(ent k).ups=[])
variable {all:List Oper}
def GF {α:Type} {o:Oper} {k:Nat} (hk:all[k]? = some o) (g:Nat->Nat->α) (p:Nat->Bool) (hp:p k=true) (F:Nat->α) (v:α) (hg:∀t,g k t=v):fc (sel (Xw all) g p k F) o.dst v=sel (Xw all) g p (k+1) F:=by
 funext t;have hw:Xw all k t=decide (o.dst=some t):=by unfold Xw;rw[hk]
 rw[Ou,hp,hg,hw];cases hd:o.dst with
 | none=>simp[fc]
 | some d=>
  by_cases h:t=d
  ·subst h;simp[fc]
  have:¬ d=t:=λ e=>h e.symm;simp[fc,h,this]
variable {ent:Nat->TE}
def TR {k:Nat} (p:Nat->Bool) (hp:p k=true) (H:Nat->Option cI):jJ (sel (ZJ ent) (gH ent) p k H) (ent k).ups=sel (ZJ ent) (gH ent) p (k+1) H:=by
 funext o;have hw:ZJ ent k o=(look (ent k).ups o).isSome:=rfl;have hg:gH ent k o=match look (ent k).ups o with | some x=>x | none=>none:=rfl
 rw[Ou,hp,hw,hg];unfold jJ;cases look (ent k).ups o<;>simp
theorem TrI.adO {Sp:lk} {nx:Nat} {T0:Nat->AV} {H0:Nat->Option cI} :∀(rest:List Oper) (i:Nat) (tr:List TE),(∀j,rest[j]? = all[i+j]?)->(∀j e,tr[j]? = some e->ent (i+j)=e)->
  Tr cfg Sp all nx rest i (Aq all ent yes i T0) (G4 all ent yes i) (Ji ent yes i H0) tr->∀k o,i<=k->all[k]? = some o->jR all (Aq all ent yes k T0) o/\(ent k).ex=im all (Aq all ent yes k T0) (G4 all ent yes k) o/\
  ((ent k).ex=true->dg Sp (Ji ent yes k H0) (dV cfg (nx+stride*k) o.op (ND cfg (Aq all ent yes k T0))) (ent k).v (ent k).ups (ent k).ud)/\((ent k).ex=false->(ent k).ups=[]):=by
 intro rest;induction rest with
 | nil=>
  intro i tr hr _ _ k o hik hk;have:=hr (k - i);rw[show i+(k - i)=k by omega,hk]at this;simp at this
 | cons x rest ih=>
  intro i tr hr he h k o hik hk;cases tr with
  | nil=>exact h.elim
  | cons e tr=>
   obtain⟨h1,h2,h3,h4,h5⟩:=h;have hx:all[i]? = some x:=by simpa using(hr 0).symm
   have he0:ent i=e:=by simpa using he 0 e rfl
   by_cases hki:k=i
   ·subst hki;rw[hx]at hk;cases hk;subst he0;exact⟨h1,h2,h3,h4⟩
   subst he0;have e1:fc (Aq all ent yes i T0) x.dst (ent i).v=Aq all ent yes (i+1) T0:=GF hx _ yes rfl T0 _ λ _=>rfl;have e2:fc (G4 all ent yes i) x.dst (ent i).ex=G4 all ent yes (i+1):=GF hx _ yes rfl _ _ λ _=>rfl;have e3:jJ (Ji ent yes i H0) (ent i).ups=Ji ent yes (i+1) H0:=TR yes rfl H0;rw[e1,e2,e3]at h5;refine ih (i+1) tr (λ j=>?_) (λ j e' hj=>?_) h5 k o om hk
   ·have:=hr (j+1);rw[show i+(j+1)=i+1+j by omega]at this;simpa using this
   have:=he (j+1) e' (by simpa using hj);rwa [show i+(j+1)=i+1+j by omega]at this
def TrI.known {Sp:lk} {nx:Nat} {T0:Nat->AV} {H0:Nat->Option cI} (h:TrI cfg Sp all nx T0 H0 ent) {N:Nat} (hok:nF N all all 0=true):∀k,k<=all.length->Known all k (Aq all ent yes k T0) (G4 all ent yes k) (λ i=>(ent i).ex) (λ i=>(ent i).v):=by
 intro k;induction k with
 | zero=>exact λ _=>⟨λ i t hi=>by omega,λ t _=>rfl,λ i j b hi=>by omega⟩
 | succ k ih=>
  intro hk;have hlt:k<all.length:=by omega
  have hx:all[k]? = some all[k]:=aeA hlt;obtain⟨h1,h2,_,_⟩:=h k _ hx;have hop:=(Is all 0 hok k _ hx).1;rw[ahq]at hop;have:=(ih om).step hx hop (ent k) h2;have e1:fc (Aq all ent yes k T0) (all[k]).dst (ent k).v=Aq all ent yes (k+1) T0:=GF hx _ yes rfl T0 _ λ _=>rfl;have e2:fc (G4 all ent yes k) (all[k]).dst (ent k).ex=G4 all ent yes (k+1):=GF hx _ yes rfl _ _ λ _=>rfl;rw[e1,e2]at this;have e4:(λ i=>if i=k then(ent k).ex else(ent i).ex)=λ i=>(ent i).ex:=by
   funext i;by_cases hi:i=k<;>simp[hi]
  have e5:(λ i=>if i=k then(ent k).v else(ent i).v)=λ i=>(ent i).v:=by
   funext i;by_cases hi:i=k<;>simp[hi]
  rw[e4,e5]at this;exact this
def Dat (nx m:Nat) (p:Nat->Bool):Nat->Prop:=λ o=>o<nx\/∃k,k<m/\p k=true/\nx+stride*k<=o/\o<nx+stride*k+stride
variable {H:Nat->Option cI}
def Rel.Ar {D D':Nat->Prop} {w:World} {I:Nat->Prop} {O:OM} (h:∀o,D o->D' o) (hR:Rel cfg cx H D w I O):Rel cfg cx H D' w I O:=
 { hR with
  used:=λ o p hp=>h o (hR.used o p hp)
  objs:=λ o ob p h1 h2=>(hR.objs o ob p h1 h2).mono (λ _ h=>h) (λ _ _=>rfl) (λ _ _=>.inl rfl) h hR.used (λ _ _ _ _=>rfl)
  Dm:=λ o ho=>h o (hR.Dm o ho) }
def um.Ar {D D':Nat->Prop} {w:World} {I:Nat->Prop} {O:OM} {T:Nat->AV} {V:Nat->Bool} {a:Act} (h:∀o,D o->D' o) (hR:Rel cfg cx H D w I O) (hT:um N ds T V a w I O D):um N ds T V a w I O D':=
 ⟨hT.defers,hT.size,λ t ht=>(hT.rep t ht).mono (λ _ h=>h) (λ _ _=>rfl) (λ _ _=>.inl rfl) h hR.used,hT.gone⟩
def TS {T T':Nat->AV} {V V':Nat->Bool} {op:Op} (h:∀t,Operand.tmp t∈op.operands.toList->T' t=T t/\V' t=V t) (hv:yG T V op):yG T' V' op:=by
 cases op with
 | pick c x y=>
  obtain⟨h1,h2,h3⟩:=hv;have hc:yG.RJ T' c=yG.RJ T c:=by
   cases c with
   | tmp t=>simp only[yG.RJ];rw[(h t (by simp[Op.operands])).1]
   | const k=>cases k<;>rfl
   | _=>rfl
  refine⟨λ t e=>?_,λ hb t e=>?_,λ hb t e=>?_⟩
  ·rw[(h t (by subst e;simp[Op.operands])).2];exact h1 t e
  ·rw[(h t (by subst e;simp[Op.operands])).2];rw[hc]at hb;exact h2 hb t e
  rw[(h t (by subst e;simp[Op.operands])).2];rw[hc]at hb;exact h3 hb t e
 | _=>exact λ t ht=>by rw[(h t ht).2];exact hv t ht
def dg.agc {Sp:lk} {H':Nat->Option cI} {pg:Pg} {v:AV} {ups:ic} {r:ap0} (h:dg Sp H pg v ups r):(∀o,o∈r->H' o=H o)->dg Sp H' pg v ups r:=by
 induction h with
 | ret v ups=>exact λ _=>.ret v ups
 | need hp _ ih=>exact λ hr=>.need hp (ih hr)
 | rd ho _ ih=>exact λ hr=>.rd ((hr _ (by simp)).trans ho) (ih λ o ho=>hr o (ahV _ ho))
 | call hs _ ih=>exact λ hr=>.call hs (ih hr)
def We {cH:Nat} {op:Op} {ρ ρ':Operand->AV} (h:∀x∈op.operands.toList,ρ' x=ρ x):dV cfg cH op ρ'=dV cfg cH op ρ:=by
 have pairs:∀ps:List (Nat×Operand),(∀p∈ps,ρ' p.2=ρ p.2)->(ps.map λ p=>(p.1,ρ' p.2))=ps.map λ p=>(p.1,ρ p.2):=λ ps hp=>apv λ p hm=>by rw[hp p hm]
 cases op with
 | move x=>simp only[dV];rw[h x (by simp[Op.operands])]
 | assign x=>simp only[dV];rw[h x (by simp[Op.operands])]
 | pick c x y=>simp only[dV];rw[h x (by simp[Op.operands]),h y (by simp[Op.operands]),h c (by simp[Op.operands])]
 | box t x=>simp only[dV];rw[h x (by simp[Op.operands])]
 | build t parts=>simp only[dV];rw[pairs parts.toList λ p hp=>h p.2 (by simp only[Op.operands,aio];exact⟨p,hp,rfl⟩)]
 | buildSlice t len parts=>simp only[dV];rw[pairs parts.toList λ p hp=>h p.2 (by simp only[Op.operands,aio];exact⟨p,hp,rfl⟩)]
 | load t x=>simp only[dV];rw[h x (by simp[Op.operands])]
 | store t x y=>simp only[dV];rw[h x (by simp[Op.operands]),h y (by simp[Op.operands])]
 | nilCheck x=>simp only[dV];rw[h x (by simp[Op.operands])]
 | binOp op t x y t'=>simp only[dV];rw[h x (by simp[Op.operands]),h y (by simp[Op.operands])]
 | unOp op t x=>simp only[dV];rw[h x (by simp[Op.operands])]
 | convert s d x=>simp only[dV];rw[h x (by simp[Op.operands])]
 | makeFunc fn first cap=>
  simp only[dV];have:cap.toList.map ρ'=cap.toList.map ρ:=apv λ x hx=>h x (by simp only[Op.operands,aoI,ahL];exact .inr hx);rw[this]
 | makeSlice t l c=>simp only[dV];rw[h l (by simp[Op.operands]),h c (by simp[Op.operands])]
 | slice t x lo hi mx=>
  have h1:lo.map ρ'=lo.map ρ:=by
   cases lo with
   | none=>rfl
   | some y=>simp only[ajW];rw[h y (by simp[Op.operands])]
  have h2:hi.map ρ'=hi.map ρ:=by
   cases hi with
   | none=>rfl
   | some y=>simp only[ajW];rw[h y (by simp[Op.operands])]
  have h3:∀k,Yl ρ' hi mx k=Yl ρ hi mx k:=λ k=>by
   unfold Yl;cases mx with
   | none=>rfl
   | some m=>cases hi with
    | none=>rfl
    | some y=>
     simp only
     rw[h y (by simp[Op.operands]),h m (by simp[Op.operands])]
  have h4:mx.map ρ'=mx.map ρ:=by
   cases mx with
   | none=>rfl
   | some y=>simp only[ajW];rw[h y (by simp[Op.operands])]
  simp only[dV];rw[h x (by simp[Op.operands]),h1,h2,h4];simp only[h3]
 | fieldAddr s x f=>simp only[dV];rw[h x (by simp[Op.operands])]
 | field s x f=>simp only[dV];rw[h x (by simp[Op.operands])]
 | indexAddr t x ix=>simp only[dV];rw[h x (by simp[Op.operands]),h ix (by simp[Op.operands])]
 | extract t i=>simp only[dV];rw[h t (by simp[Op.operands])]
 | index t x ix=>simp only[dV];rw[h x (by simp[Op.operands]),h ix (by simp[Op.operands])]
 | makeMap t r=>cases r<;>rfl
 | lookup t x ix ok=>simp only[dV];rw[h x (by simp[Op.operands]),h ix (by simp[Op.operands])]
 | insert t x ix y=>simp only[dV];rw[h x (by simp[Op.operands]),h ix (by simp[Op.operands]),h y (by simp[Op.operands])]
 | mapUpdate t x ix y=>simp only[dV];rw[h x (by simp[Op.operands]),h ix (by simp[Op.operands]),h y (by simp[Op.operands])]
 | call c=>
  have h1:c.args.toList.map ρ'=c.args.toList.map ρ:=apv λ x hx=>h x (by simp only[Op.operands,Call.operands,aoI,ahL];exact .inr hx);simp only[dV];rw[h1];cases hc:c.callee with
  | value f=>simp only;rw[h f (by simp[Op.operands,Call.operands,hc])]
  | builtin b=>cases b<;>rfl
  | invoke x m=>rfl
 | _=>rfl
end
end Go.Ab
namespace Go.Ab
section
variable {P:Program} {cfg:qX} {cx:Ctx} {N:Nat} {ds:List Deferred}
def FW (r:Option Nat):Fence:={ Fence.wide with round:=r }
variable {r:Option Nat}
def It {n:Nat} {f:FuncId} {args:Array Value} {w:World} {R:Ending->World->Prop} (h:Calls P f args w R):CallsIn (FW r) n P f args w R:=(callsIn_wide (n:=n)).2 h
def YJ {n:Nat} {row:String} {args:Array Value} {w:World} {R:Value->World->Prop} (h:Rows P row args w R):RowsIn (FW r) n P row args w R:=by
 intro c cs _;obtain⟨v,w',h1,h2⟩:=h c cs;exact⟨v,w',h1,stepsIn_wide.2 h2⟩
def RN {n:Nat} {o:Oper} {a:Act} {w:World} {K:Act->World->Prop} {Q:Exit->Act->World->Prop} (ho:∀c,o.op≠.defer c) (h:o.wp P a w K Q):o.wpIn (FW r) n P a w K Q:=by
 refine⟨λ _ _=>trivial,?_⟩;rw[Oper.semAt_eq _ _ _ ho];unfold Oper.wp at h;generalize (execOp a.eval o).run P w=res at h;cases res with
 | ok x w'=>
  cases x with
  | value v=>exact h
  | skip=>exact h
  | defer d=>exact h
  | enter f args=>exact⟨(λ h=>by cases h),It h⟩
  | row s args=>exact⟨(λ h=>by cases h),YJ h⟩
  | _=>exact h.elim
 | halt x w'=>
  cases x with
  | panic v=>exact h
  | _=>exact h.elim
theorem TT (hc:ej P cfg) {r:Option Nat} {n0:Nat} {ops:Array Oper} {nx:Nat} {T0:Nat->AV} {H0:Nat->Option cI} {ent:Nat->TE} (htr:TrI cfg (Spec P cfg) ops.toList nx T0 H0 ent) (hok:nF N ops.toList ops.toList 0=true)
  {p:Nat->Bool} {i:Nat} {o:Oper} (hi:ops[i]? = some o) (hpi:p i=false)
  (hT:∀t,t∈looks ops.toList o->Aq ops.toList ent p ops.size T0 t=Aq ops.toList ent yes i T0 t/\G4 ops.toList ent p ops.size t=G4 ops.toList ent yes i t)
  (hH:(ent i).ex=true->∀b,b∈(ent i).ud->Ji ent p ops.size H0 b=Ji ent yes i H0 b)
  (hTa:∀t,Xw ops.toList i t=true->∀k,i<k->p k=true->Xw ops.toList k t=false) (hHa:∀b,ZJ ent i b=true->∀k,i<k->p k=true->ZJ ent k b=false)
  {a:Act} {w:World} {I:Nat->Prop} {O:OM} (hR:Rel cfg cx (Ji ent p ops.size H0) (Dat nx ops.size p) w I O) (hTR:um N ds (Aq ops.toList ent p ops.size T0) (G4 ops.toList ent p ops.size) a w I O (Dat nx ops.size p))
  {K:Act->World->Prop} {Q:Exit->Act->World->Prop}
  (hK:∀a' w' I' O',Rel cfg cx (Ji ent (λ j=>p j||decide (j=i)) ops.size H0) (Dat nx ops.size (λ j=>p j||decide (j=i))) w' I' O'->
    um N ds (Aq ops.toList ent (λ j=>p j||decide (j=i)) ops.size T0) (G4 ops.toList ent (λ j=>p j||decide (j=i)) ops.size) a' w' I' O' (Dat nx ops.size (λ j=>p j||decide (j=i)))->K a' w'):
  wpOpIn (FW r) n0 P ops Q i K a w:=by
 have hlt:i<ops.size:=(ajR.1 hi).1;have hil:ops.toList[i]? = some o:=by simpa using hi
 obtain⟨h1,h2,h3,h4⟩:=htr i o hil;obtain⟨hop,hdN⟩:=Is ops.toList 0 hok i o hil;rw[ahq]at hop;have hKn:=htr.known hok i (by simp;omega);have hTT:∀t,Xw ops.toList i t=decide (o.dst=some t):=λ t=>by unfold Xw;rw[hil]
 have e1:Aq ops.toList ent (λ j=>p j||decide (j=i)) ops.size T0=fc (Aq ops.toList ent p ops.size T0) o.dst (ent i).v:=by
  funext t;unfold Aq;rw[RM _ _ p T0 t i (hTa t) ops.size hlt,hTT];cases hd:o.dst with
  | none=>simp[fc]
  | some d=>
   by_cases h:t=d
   ·subst h;simp[fc]
   have:¬ d=t:=λ e=>h e.symm;simp[fc,h,this]
 have e2:G4 ops.toList ent (λ j=>p j||decide (j=i)) ops.size=fc (G4 ops.toList ent p ops.size) o.dst (ent i).ex:=by
  funext t;unfold G4;rw[RM _ _ p _ t i (hTa t) ops.size hlt,hTT];cases hd:o.dst with
  | none=>simp[fc]
  | some d=>
   by_cases h:t=d
   ·subst h;simp[fc]
   have:¬ d=t:=λ e=>h e.symm;simp[fc,h,this]
 have e3:Ji ent (λ j=>p j||decide (j=i)) ops.size H0=jJ (Ji ent p ops.size H0) (ent i).ups:=by
  funext b;unfold Ji;rw[RM _ _ p H0 b i (hHa b) ops.size hlt];have hw:ZJ ent i b=(look (ent i).ups b).isSome:=rfl;have hg:gH ent i b=match look (ent i).ups b with | some x=>x | none=>none:=rfl
  rw[hw,hg];unfold jJ;cases look (ent i).ups b<;>simp
 have hD:∀b,xg (Dat nx ops.size p) (nx+stride*i) b->Dat nx ops.size (λ j=>p j||decide (j=i)) b:=by
  rintro b ((h | ⟨k,q1,q2,q3⟩) | h)
  ·exact .inl h
  ·exact .inr ⟨k,q1,by simp[q2],q3⟩
  exact .inr ⟨i,hlt,by simp,h⟩
 have hnD:Oa (Dat nx ops.size p) (nx+stride*i):=by
  rintro b hb1 hb2 (h | ⟨k,q1,q2,q3,q4⟩)
  ·omega
  have:k=i:=by
   rcases anX k i with e | e | e
   ·have:=aj6 stride (show k+1<=i from e);rw[Nat.mul_add,aoF]at this;omega
   ·exact e
   have:=aj6 stride (show i+1<=k from e);rw[Nat.mul_add,aoF]at this;omega
  subst this;rw[hpi]at q2;cases q2
 have aiD:jR ops.toList (Aq ops.toList ent p ops.size T0) o:=by
  unfold jR at h1 ⊢;cases hg:o.guard with
  | none=>trivial
  | some g=>
   obtain⟨j,b⟩:=g;rw[hg]at h1;obtain⟨d,c,q1,q2⟩:=h1;refine⟨d,c,q1,?_⟩;rw[(hT d (by unfold looks;rw[hg];simp[q1])).1];exact q2
 have akx:im ops.toList (Aq ops.toList ent p ops.size T0) (G4 ops.toList ent p ops.size) o=(ent i).ex:=by
  rw[h2];unfold im;cases hg:o.guard with
  | none=>rfl
  | some g=>
   obtain⟨j,b⟩:=g;simp only;cases hd:Mi ops.toList j with
   | none=>rfl
   | some d=>
    simp only;obtain⟨q1,q2⟩:=hT d (by unfold looks;rw[hg];simp[hd]);rw[q1,q2]
 unfold wpOpIn;rw[hi];simp only;rw[YI hTR o aiD,akx];cases hex:(ent i).ex with
 | true=>
  rw[afc rfl];have hnd:∀c,o.op≠.defer c:=λ c hc=>by
   have:=h3 hex;rw[hc]at this;exact(dg.ba this).elim
  refine RN hnd ?_;have aiE:∀t,Operand.tmp t∈o.op.operands.toList->t∈looks ops.toList o:=λ t ht=>by
   unfold looks;rw[ahL];exact .inl (List.mem_filterMap.2 ⟨.tmp t,ht,rfl⟩)
  have hval:yG (Aq ops.toList ent p ops.size T0) (G4 ops.toList ent p ops.size) o.op:=
   TS (λ t ht=>hT t (aiE t ht)) (Wd hKn hop (by rw[<- h2];exact hex))
  have hev:dg (Spec P cfg) (Ji ent p ops.size H0) (dV cfg (nx+stride*i) o.op (ND cfg (Aq ops.toList ent p ops.size T0))) (ent i).v (ent i).ups (ent i).ud:=by
   have aiF:dV cfg (nx+stride*i) o.op (ND cfg (Aq ops.toList ent p ops.size T0))=dV cfg (nx+stride*i) o.op (ND cfg (Aq ops.toList ent yes i T0)):=We λ x hx=>by
    cases x with
    | tmp t=>exact(hT t (aiE t hx)).1
    | _=>rfl
   rw[aiF];exact(h3 hex).agc (hH hex)
  refine YH hc hR hTR hnD hval hdN hev λ a' w' I' O' hR' hT'=>hK a' w' I' O' ?_ ?_
  ·rw[e3];exact hR'.Ar hD
  rw[e1,e2,hex];exact hT'.Ar hD hR'
 | false=>
  rw[aeV (by simp)];have hu:=h4 hex;have hR2:Rel cfg cx (Ji ent (λ j=>p j||decide (j=i)) ops.size H0) (Dat nx ops.size (λ j=>p j||decide (j=i))) w I O:=by
   rw[e3,hu,xh];exact hR.Ar λ b h=>hD b (.inl h)
  refine⟨λ _ _=>trivial,hK _ w I O hR2 ?_⟩;rw[e1,e2,hex];refine um.put (hTR.Ar (λ b h=>hD b (.inl h)) hR) (λ _ _ h=>h) o.dst hdN _ _ false (λ h=>by cases h) (λ _=>rfl)
theorem TU (hc:ej P cfg) {r:Option Nat} {n0:Nat} {ops:Array Oper} {id nx:Nat} {T0:Nat->AV} {H0:Nat->Option cI} {ent:Nat->TE} (htr:TrI cfg (Spec P cfg) ops.toList nx T0 H0 ent) (hok:nF N ops.toList ops.toList 0=true)
  {a:Act} {w:World} {I:Nat->Prop} {O:OM} (hR:Rel cfg cx H0 (λ o=>o<nx) w I O) (hTR:um N ds T0 (λ _=>true) a w I O (λ o=>o<nx)) {Q:Exit->Act->World->Prop}
  (hQ:∀a' w' I' O',Rel cfg cx (Ji ent yes ops.size H0) (λ o=>o<nx+stride*ops.size) w' I' O'->um N ds (Aq ops.toList ent yes ops.size T0) (G4 ops.toList ent yes ops.size) a' w' I' O' (λ o=>o<nx+stride*ops.size)->Q .normal a' w'):
  (Code.region id ops false).wpIn (FW r) n0 P Q a w:=by
 refine wpIn_region ?_;have key:∀(n k:Nat),k+n=ops.size->∀(a:Act) (w:World) (I:Nat->Prop) (O:OM),Rel cfg cx (Ji ent (λ j=>decide (j<k)) ops.size H0) (Dat nx ops.size (λ j=>decide (j<k))) w I O->
   um N ds (Aq ops.toList ent (λ j=>decide (j<k)) ops.size T0) (G4 ops.toList ent (λ j=>decide (j<k)) ops.size) a w I O (Dat nx ops.size (λ j=>decide (j<k)))->wpOpsIn (FW r) n0 P ops Q (List.range' k n) a w:=by
  intro n
  induction n with
  | zero=>
   intro k hk a w I O hR hT
   have hkn:k=ops.size:=by omega
   subst hkn
   have e1:Ji ent (λ j=>decide (j<ops.size)) ops.size H0=Ji ent yes ops.size H0:=funext λ t=>nI _ _ _ t _ _ (afM _)
   have e2:Aq ops.toList ent (λ j=>decide (j<ops.size)) ops.size T0=Aq ops.toList ent yes ops.size T0:=funext λ t=>nI _ _ _ t _ _ (afM _)
   have e3:G4 ops.toList ent (λ j=>decide (j<ops.size)) ops.size=G4 ops.toList ent yes ops.size:=funext λ t=>nI _ _ _ t _ _ (afM _)
   rw[e1]at hR
   rw[e2,e3]at hT
   have hD:∀o,Dat nx ops.size (λ j=>decide (j<ops.size)) o->o<nx+stride*ops.size:=by
    rintro o (h | ⟨k,q1,_,q3,q4⟩)
    ·omega
    have:=aj6 stride (show k+1<=ops.size from q1)
    rw[Nat.mul_add,aoF]at this
    omega
   exact hQ a w I O (hR.Ar hD) (hT.Ar hD hR)
  | succ n ih=>
   intro k hk a w I O hR hT
   have hlt:k<ops.size:=by omega
   rw[List.range'_succ,wpOpsIn_cons]
   have hp:(λ j=>decide (j<k)||decide (j=k))=λ j=>decide (j<k+1):=by
    funext j
    by_cases h1:j<k
    ·simp[h1,show j<k+1 by omega]
    by_cases h2:j=k
    ·simp[h2]
    simp[h1,h2,show ¬ j<k+1 by omega]
   refine TT hc htr hok (ahY hlt) (p:=λ j=>decide (j<k)) (by simp) (λ t _=>⟨nI _ _ _ t _ _ om,nI _ _ _ t _ _ om⟩) (λ _ b _=>nI _ _ _ b _ _ om)
    (λ t _ j hj hpj=>by simp at hpj;omega) (λ b _ j hj hpj=>by simp at hpj;omega) hR hT λ a' w' I' O' hR' hT'=>?_
   rw[hp]at hR' hT'
   exact ih (k+1) om a' w' I' O' hR' hT'
 have e0:∀ {α:Type} (wr:Nat->Nat->Bool) (g:Nat->Nat->α) (F:Nat->α),sel wr g (λ j=>decide (j<0)) ops.size F=F:=λ wr g F=>funext λ t=>nI wr g F t 0 ops.size (ahU _);rw[List.range_eq_range'];refine key ops.size 0 om a w I O ?_ ?_
 ·unfold Ji;rw[e0];exact hR.Ar λ o h=>.inl h
 unfold Aq G4;rw[e0,e0];exact hTR.Ar (λ o h=>.inl h) hR
end
end Go.Ab
namespace Go.Ab
section
variable {P:Program} {cfg:qX} {cx:Ctx} {N:Nat} {ds:List Deferred}
def Closed (ops:Array Oper) (listed:Array Bool):Prop:=∀(j:Nat) (o:Oper),ops[j]? = some o->listed.getD j false=true->∀e∈o.after,Region.binds .any e=true->listed.getD e.on false=true
def HG {ops:Array Oper} {listed:Array Bool} (hcl:Closed ops listed):∀(f i j:Nat),before ops.toList f i j=true->(∀o,ops[j]? = some o->∀e∈o.after,Region.binds .any e=true->listed.getD e.on false=true)->listed.getD i false=true:=by
 intro f;induction f with
 | zero=>intro i j h;cases h
 | succ f ih=>
  intro i j h hj;unfold before at h;rw[Ot]at h;cases ho:ops[j]? with
  | none=>rw[show ops.toList[j]? = none by simpa using ho]at h;cases h
  | some o=>
   rw[show ops.toList[j]? = some o by simpa using ho]at h;simp only[ai7,aeP,aiG]at h;obtain⟨e,he,⟨hb,_⟩,h2⟩:=h;have hl:=hj o ho e (by simpa using he) hb;rcases h2 with h2 | h2
   ·rw[<- aeK h2];exact hl
   exact ih i e.on h2 λ o' ho'=>hcl e.on o' ho' hl
variable {all:List Oper}
def Mq:∀(l:List Oper) (i:Nat),KL all l i=true->∀k o,l[k]? = some o->Rw o (i+k)=true/\El all (i+k) o all 0=true:=by
 intro l;induction l with
 | nil=>intro i _ k o h;simp at h
 | cons x l ih=>
  intro i h k o hk;simp only[KL,aeP]at h;cases k with
  | zero=>simp at hk;subst hk;exact h.1
  | succ k=>
   have:=ih (i+1) h.2 k o (by simpa using hk);rwa [anS,apQ 1 k]at this
def P6 {j:Nat} {oj:Oper}:∀(l:List Oper) (i:Nat),El all j oj l i=true->∀k o,l[k]? = some o->i+k<j->N5 all o oj=true\/before all 40 (i+k) j=true:=by
 intro l;induction l with
 | nil=>intro i _ k o h;simp at h
 | cons x l ih=>
  intro i h k o hk hlt;unfold El at h;have hij:Nat.blt i j=true:=by simp;omega
  simp only[hij,aeP,aiG]at h;cases k with
  | zero=>simp at hk;subst hk;exact h.1
  | succ k=>
   have:=ih (i+1) h.2 k o (by simpa using hk) om;rwa [anS,apQ 1 k]at this
def QP {x:Nat} {l:ap0} (h:x∈l):vR x l=true:=by
 induction l with
 | nil=>cases h
 | cons b l ih=>
  unfold vR;cases hb:Nat.beq x b with
  | true=>rfl
  | false=>
   rcases ah0.1 h with e | e
   ·subst e;simp at hb
   exact ih e
def Ex {x y:Oper} (h:N5 all x y=true):(∀d,x.dst=some d->d ∉ looks all y)/\(∀d,y.dst=some d->d ∉ looks all x)/\(∀d,x.dst=some d->y.dst≠some d):=by
 unfold N5 at h;simp only[aeP,ahA]at h;obtain⟨⟨h1,h2⟩,h3⟩:=h;refine⟨λ d hd hm=>?_,λ d hd hm=>?_,λ d hd hm=>?_⟩
 ·rw[hd]at h1;simp only[isIn]at h1;rw[QP hm]at h1;cases h1
 ·rw[hd]at h2;simp only[isIn]at h2;rw[QP hm]at h2;cases h2
 rw[hd,hm]at h3;simp[isIn,vR]at h3
def TV {l:ap0} {p:Nat->Bool} {i:Nat} (hi:i∈l) (hp:p i=true):(l.filter λ k=>p k&&!decide (k=i)).length<(l.filter p).length:=by
 have le:∀l:ap0,(l.filter λ k=>p k&&!decide (k=i)).length<=(l.filter p).length:=by
  intro l;induction l with
  | nil=>exact afM _
  | cons x l ih=>
   rw[ajX,ajX];cases hx:p x with
   | true=>
    rw[afc rfl];split
    ·simp only[ahP];omega
    simp only[ahP];omega
   | false=>simpa using ih
 induction l with
 | nil=>cases hi
 | cons x l ih=>
  rw[ajX,ajX];by_cases hxi:x=i
  ·subst hxi;rw[hp,afc rfl,aeV (by simp)];have:=le l;simp only[ahP];omega
  have hil:i∈l:=by rcases ah0.1 hi with e | e;exact absurd e.symm hxi;exact e
  have:=ih hil;cases hx:p x with
  | true=>
   rw[afc rfl,afc (by simp[hxi])];simp only[ahP];omega
  | false=>simpa using this
def afk (ops:Array Oper) (ent:Nat->TE):Prop:=∀i j,i<j->j<ops.size->before ops.toList 40 i j=true\/
 ((∀b,ZJ ent i b=true->(ent j).ex=true->b ∉ (ent j).ud)/\(∀b,ZJ ent j b=true->(ent i).ex=true->b ∉ (ent i).ud)/\(∀b,ZJ ent i b=true->ZJ ent j b=false))
theorem TW (hc:ej P cfg) {r:Option Nat} {n0:Nat} {ops:Array Oper} {id nx:Nat} {T0:Nat->AV} {H0:Nat->Option cI} {ent:Nat->TE} (htr:TrI cfg (Spec P cfg) ops.toList nx T0 H0 ent) (hok:nF N ops.toList ops.toList 0=true)
  (hdr:KL ops.toList ops.toList 0=true) (hdyn:afk ops ent)
  {a:Act} {w:World} {I:Nat->Prop} {O:OM} (hR:Rel cfg cx H0 (λ o=>o<nx) w I O) (hTR:um N ds T0 (λ _=>true) a w I O (λ o=>o<nx)) {Q:Exit->Act->World->Prop}
  (hQ:∀a' w' I' O',Rel cfg cx (Ji ent yes ops.size H0) (λ o=>o<nx+stride*ops.size) w' I' O'->um N ds (Aq ops.toList ent yes ops.size T0) (G4 ops.toList ent yes ops.size) a' w' I' O' (λ o=>o<nx+stride*ops.size)->Q .normal a' w'):
  (Code.region id ops true).wpIn (FW r) n0 P Q a w:=by
 refine wpIn_region_any hc.mixed ?_;have edges:∀k o,ops[k]? = some o->∀e∈o.after,Region.binds .any e=true->e.on<k:=by
  intro k o ho e he hb;obtain⟨h1,_⟩:=Mq ops.toList 0 hdr k o (by simpa using ho);unfold Rw at h1;rw[ahq,ajL]at h1;have:=h1 e (by simpa using he);simpa[hb]using this
 have tmps:∀i j oi oj,i<j->ops[i]? = some oi->ops[j]? = some oj->N5 ops.toList oi oj=true\/before ops.toList 40 i j=true:=by
  intro i j oi oj hij hi hj;obtain⟨_,h2⟩:=Mq ops.toList 0 hdr j oj (by simpa using hj);rw[ahq]at h2;have:=P6 ops.toList 0 h2 i oi (by simpa using hi) om;rwa [ahq]at this
 have agd:∀k t,Xw ops.toList k t=true->∃o,ops[k]? = some o/\o.dst=some t:=by
  intro k t h;unfold Xw at h;split at h
  ·rename_i o ho;exact⟨o,by simpa using ho,by simpa using h⟩
  cases h
 have key:∀(fuel:Nat) (listed:Array Bool) (a:Act) (w:World) (I:Nat->Prop) (O:OM),listed.size=ops.size->Closed ops listed->((List.range ops.size).filter λ k=>!listed.getD k false).length<=fuel->
   Rel cfg cx (Ji ent (λ k=>listed.getD k false) ops.size H0) (Dat nx ops.size (λ k=>listed.getD k false)) w I O->
   um N ds (Aq ops.toList ent (λ k=>listed.getD k false) ops.size T0) (G4 ops.toList ent (λ k=>listed.getD k false) ops.size) a w I O (Dat nx ops.size (λ k=>listed.getD k false))->wpAnyIn (FW r) n0 P .any ops Q fuel listed a w:=by
  intro fuel
  have done:∀(listed:Array Bool) (a:Act) (w:World) (I:Nat->Prop) (O:OM),(∀k,k<ops.size->listed.getD k false=true)->
    Rel cfg cx (Ji ent (λ k=>listed.getD k false) ops.size H0) (Dat nx ops.size (λ k=>listed.getD k false)) w I O->
    um N ds (Aq ops.toList ent (λ k=>listed.getD k false) ops.size T0) (G4 ops.toList ent (λ k=>listed.getD k false) ops.size) a w I O (Dat nx ops.size (λ k=>listed.getD k false))->Q .normal a w:=by
   intro listed a w I O hall hR hT
   have e:∀ {α:Type} (wr:Nat->Nat->Bool) (g:Nat->Nat->α) (F:Nat->α),sel wr g (λ k=>listed.getD k false) ops.size F=sel wr g yes ops.size F:=λ wr g F=>funext λ t=>qc wr g _ _ F t _ λ k hk _=>hall k hk
   unfold Ji at hR
   unfold Aq G4 at hT
   rw[e]at hR
   rw[e,e]at hT
   have hD:∀o,Dat nx ops.size (λ k=>listed.getD k false) o->o<nx+stride*ops.size:=by
    rintro o (h | ⟨k,q1,_,q3,q4⟩)
    ·omega
    have:=aj6 stride (show k+1<=ops.size from q1)
    rw[Nat.mul_add,aoF]at this
    omega
   exact hQ a w I O (hR.Ar hD) (hT.Ar hD hR)
  have full:∀(listed:Array Bool),listed.size=ops.size->Region.ready .any ops listed=[]->∀k,k<ops.size->listed.getD k false=true:=by
   intro listed hls hr k
   induction k using Nat.strongRecOn with
   | _ k ih=>
    intro hk
    cases hl:listed.getD k false with
    | true=>rfl
    | false=>
     have:k∈Region.ready .any ops listed:=mem_ready.2 ⟨by
      have hlt:k<listed.size:=by omega
      simp[hlt]at hl ⊢;exact hl,ops[k],ahY hk,λ e he hb=>ih e.on (edges k _ (ahY hk) e he hb) (Nat.lt_trans (edges k _ (ahY hk) e he hb) hk)⟩
     rw[hr]at this
     cases this
  induction fuel with
  | zero=>
   intro listed a w I O hls hcl hcnt hR hT
   have hall:∀k,k<ops.size->listed.getD k false=true:=by
    intro k hk
    cases hl:listed.getD k false with
    | true=>rfl
    | false=>
     have:k∈(List.range ops.size).filter λ k=>!listed.getD k false:=ajK.2 ⟨aj7.2 hk,by rw[hl];rfl⟩
     have:=List.length_pos_of_mem this
     omega
   refine⟨?_,done listed a w I O hall hR hT⟩
   rw[List.eq_nil_iff_forall_not_mem]
   intro k hk
   obtain⟨h1,o,h2,_⟩:=mem_ready.1 hk
   have hlt:k<ops.size:=(ajR.1 h2).1
   have:=hall k hlt
   have hlt':k<listed.size:=by omega
   simp[hlt']at this h1
   rw[this]at h1
   cases h1
  | succ fuel ih=>
   intro listed a w I O hls hcl hcnt hR hT
   refine⟨λ hr=>done listed a w I O (full listed hls hr) hR hT,λ i hi=>?_⟩
   obtain⟨h1,o,ho,hed⟩:=mem_ready.1 hi
   have hlt:i<ops.size:=(ajR.1 ho).1
   have hpi:listed.getD i false=false:=by
    have hlt':i<listed.size:=by omega
    simp[hlt']at h1 ⊢;exact h1
   have aky:∀o',ops[i]? = some o'->∀e∈o'.after,Region.binds .any e=true->listed.getD e.on false=true:=λ o' ho'=>by rw[ho]at ho';cases ho';exact hed
   have aaM:∀k,before ops.toList 40 k i=true->listed.getD k false=true:=λ k h=>HG hcl 40 k i h aky
   have RO:∀k,before ops.toList 40 i k=true->listed.getD k false=false:=λ k h=>by
    cases hk:listed.getD k false with
    | false=>rfl
    | true=>
     have:=HG hcl 40 i k h λ o' ho'=>hcl k o' ho' hk
     rw[hpi]at this
     cases this
   have hp:(λ j=>listed.getD j false||decide (j=i))=λ j=>(listed.setIfInBounds i true).getD j false:=by
    funext j
    by_cases hj:j=i
    ·subst hj
     have:j<listed.size:=by omega
     simp[this]
    rw[getD_set_ne false (λ e=>hj e.symm)]
    simp[hj]
   have agf:∀ {α:Type} (wr:Nat->Nat->Bool) (g:Nat->Nat->α) (F:Nat->α) (t:Nat),(∀k,k<ops.size->wr k t=true->k≠i->before ops.toList 40 (min k i) (max k i)=true)->
     sel wr g (λ j=>listed.getD j false) ops.size F t=sel wr g yes i F t:=by
    intro α wr g F t h
    refine(qc wr g _ (λ j=>decide (j<i)) F t _ λ k hk hw=>?_).trans (nI wr g F t i ops.size om)
    by_cases hki:k=i
    ·subst hki;simpa using hpi
    have hb:=h k hk hw hki
    rcases aol hki with hlt' | hgt
    ·rw[aok om,apR om]at hb
     rw[aaM k hb];simp[hlt']
    rw[apS om,Nat.max_eq_left om]at hb
    rw[RO k hb];simp;omega
   refine TT hc htr hok ho (p:=λ j=>listed.getD j false) hpi (λ t ht=>?_) (λ hex b hb=>?_) (λ t ht k hik hpk=>?_) (λ b hb k hik hpk=>?_) hR hT λ a' w' I' O' hR' hT'=>?_
   ·have cond:∀k,k<ops.size->Xw ops.toList k t=true->k≠i->before ops.toList 40 (min k i) (max k i)=true:=by
     intro k hk hw hki
     obtain⟨ok,hok',hdk⟩:=agd k t hw
     rcases aol hki with hlt' | hgt
     ·rw[aok om,apR om]
      rcases tmps k i ok o hlt' hok' ho with h | h
      ·exact absurd ht ((Ex h).1 t hdk)
      exact h
     rw[apS om,Nat.max_eq_left om]
     rcases tmps i k o ok hgt ho hok' with h | h
     ·exact absurd ht ((Ex h).2.1 t hdk)
     exact h
    exact⟨agf _ _ _ t cond,agf _ _ _ t cond⟩
   ·refine agf _ _ _ b λ k hk hw hki=>?_
    rcases aol hki with hlt' | hgt
    ·rw[aok om,apR om]
     rcases hdyn k i hlt' hlt with h | h
     ·exact h
     exact absurd hb (h.1 b hw hex)
    rw[apS om,Nat.max_eq_left om]
    rcases hdyn i k hgt hk with h | h
    ·exact h
    exact absurd hb (h.2.1 b hw hex)
   ·cases hw:Xw ops.toList k t with
    | false=>rfl
    | true=>
     obtain⟨oi,hoi,hdi⟩:=agd i t ht
     obtain⟨ok,hok',hdk⟩:=agd k t hw
     rcases tmps i k oi ok hik hoi hok' with h | h
     ·exact absurd hdk ((Ex h).2.2 t hdi)
     rw[RO k h]at hpk;cases hpk
   ·by_cases hk:k<ops.size
    ·rcases hdyn i k hik hk with h | h
     ·rw[RO k h]at hpk;cases hpk
     exact h.2.2 b hb
    have:listed.getD k false=false:=by simp[ajA (show listed.size<=k by omega)]
    rw[this]at hpk;cases hpk
   rw[hp]at hR' hT'
   refine ih (listed.setIfInBounds i true) a' w' I' O' (by simp[hls]) ?_ ?_ hR' hT'
   ·intro j oj hj hl e he hb
    by_cases hji:j=i
    ·subst hji
     rw[ho]at hj
     cases hj
     exact getD_set_true (hed e he hb)
    rw[getD_set_ne false (λ e=>hji e.symm)]at hl
    exact getD_set_true (hcl j oj hj hl e he hb)
   have hlt':i<listed.size:=by omega
   have:=TV (l:=List.range ops.size) (p:=λ k=>!listed.getD k false) (i:=i) (aj7.2 hlt) (by rw[hpi];rfl)
   have e2:((List.range ops.size).filter λ k=>!(listed.setIfInBounds i true).getD k false)=(List.range ops.size).filter λ k=>!listed.getD k false&&!decide (k=i):=by
    congr 1
    funext k
    rw[<- congrFun hp k]
    simp
   rw[e2]
   omega
 have e0:(λ k=>(Array.replicate ops.size false).getD k false)=λ _=>false:=by
  funext k;rcases aiZ k ops.size with h | h
  ·simp[h]
  simp[h]
 have e1:∀ {α:Type} (wr:Nat->Nat->Bool) (g:Nat->Nat->α) (F:Nat->α),sel wr g (λ _=>false) ops.size F=F:=λ wr g F=>funext λ t=>by
  have:=nI wr g F t 0 ops.size (ahU _);refine(qc wr g _ (λ j=>decide (j<0)) F t _ λ k _ _=>?_).trans this;simp
 refine key ops.size (Array.replicate ops.size false) a { w with drawn:=w.drawn+1 } I O (by simp) ?_ ?_ ?_ ?_
 ·intro j o _ h;rw[congrFun e0 j]at h;cases h
 ·exact af3 (aj8 _ _) (by simp)
 ·rw[e0];unfold Ji;rw[e1];exact(Rel.BO (w:=w) (w':={ w with drawn:=w.drawn+1 }) rfl (eK.heap rfl rfl rfl rfl) hR).Ar λ o h=>.inl h
 rw[e0];unfold Aq G4;rw[e1,e1];have Jq:=Rel.BO (w:=w) (w':={ w with drawn:=w.drawn+1 }) rfl (eK.heap rfl rfl rfl rfl) hR;have:um N ds T0 (λ _=>true) a { w with drawn:=w.drawn+1 } I O (λ o=>o<nx):=⟨hTR.defers,hTR.size,λ t ht=>cQ.BO (w:=w) (w':={ w with drawn:=w.drawn+1 }) rfl hR (hTR.rep t ht),hTR.gone⟩;exact this.Ar (λ o h=>.inl h) Jq
end
end Go.Ab
namespace Go.Ab
section
variable {P:Program} {cfg:qX} {cx:Ctx} {N:Nat} {Sp:lk}
def QQ:∀(l:ap2) (K:ap2->Prop),Ei l K↔K l:=by
 intro l;induction l with
 | nil=>intro K;exact apd
 | cons v l ih=>
  intro K;unfold Ei;rw[ih];cases v<;>exact apd
def force_eq (v:AV) (K:AV->Prop):force v K↔K v:=by
 cases v<;>first | exact apd | exact QQ _ _
def TX:∀(l:ic) (K:ic->Prop),xb l K↔K l:=by
 intro l;induction l with
 | nil=>intro K;exact apd
 | cons u l ih=>
  intro K;obtain⟨o,x⟩:=u;cases x with
  | none=>exact ih _
  | some x=>cases x with
   | box cs=>simp only[xb];rw[QQ];exact ih _
   | row es n g=>exact ih _
   | map kd z f=>exact ih _
def Xx (H:ic):∀(ups:ic) (K:ic->Prop),Z8 ups H K↔K (ups++H):=by
 intro ups;induction ups with
 | nil=>intro K;exact apd
 | cons u l ih=>intro K;unfold Z8;exact ih _
def GG (p:PC):∀(l:List PC) (K:List PC->Prop),Im l p K↔K (l++[p]):=by
 intro l;induction l with
 | nil=>intro K;exact apd
 | cons q l ih=>intro K;unfold Im;exact ih _
def YK:∀(l:List PC) (j:Nat) (K:PC->Prop),VI l j K↔K (Ek l j):=by
 intro l;induction l with
 | nil=>intro j K;exact apd
 | cons p l ih=>intro j K;cases j with
  | zero=>exact apd
  | succ j=>exact ih j K
def holds (pc:PC):Prop:=∀q∈pc,q.1=q.2
def GH:∀(pc:PC) (p:Prop) (K:Prop->Prop),Yo pc p K->∃q:Prop,K q/\(q->holds pc->p):=by
 intro pc;induction pc with
 | nil=>intro p K h;exact⟨p,h,λ h _=>h⟩
 | cons x l ih=>
  intro p K h;obtain⟨c,b⟩:=x;obtain⟨q,h1,h2⟩:=ih _ _ h;exact⟨q,h1,λ hq hh=>h2 hq (λ y hy=>hh y (ahV _ hy)) (hh (c,b) (by simp))⟩
def NK (pc:PC) (H:Nat->Option cI):∀(pg:Pg) (ud:ap0) (K:AV->ic->ap0->Prop),ev Sp pc H pg ud K->∃v ups MO,K v ups MO/\(∀x∈ud,x∈MO)/\(holds pc->∃r,dg Sp H pg v ups r/\∀x∈r,x∈MO):=by
 intro pg;induction pg with
 | ret v ups=>
  intro ud K h;unfold ev at h;rw[force_eq,TX]at h;exact⟨v,ups,ud,h,λ _ h=>h,λ _=>⟨[],.ret v ups,λ x hx=>by cases hx⟩⟩
 | need p k ih=>
  intro ud K h;unfold ev at h;obtain⟨q,⟨h1,h2⟩,h3⟩:=GH pc p _ h;obtain⟨v,ups,MO,h4,h5,h6⟩:=ih ud K h2;refine⟨v,ups,MO,h4,h5,λ hh=>?_⟩;obtain⟨r,h7,h8⟩:=h6 hh;exact⟨r,.need (h3 h1 hh) h7,h8⟩
 | rd o k ih=>
  intro ud K h;unfold ev at h;split at h
  ·rename_i x hx;obtain⟨v,ups,MO,h4,h5,h6⟩:=ih x (o::ud) K h;refine⟨v,ups,MO,h4,λ y hy=>h5 y (ahV _ hy),λ hh=>?_⟩;obtain⟨r,h7,h8⟩:=h6 hh;refine⟨o::r,.rd hx h7,λ y hy=>?_⟩;rcases ah0.1 hy with e | e
   ·subst e;exact h5 y (by simp)
   exact h8 y e
  obtain⟨q,⟨h1,h2⟩,h3⟩:=GH pc False _ h;exact⟨_,_,ud,h2,λ _ h=>h,λ hh=>(h3 h1 hh).elim⟩
 | call f args obs k ih=>
  intro ud K h;unfold ev at h;obtain⟨r,dt,h⟩:=h;obtain⟨q,⟨h1,h2⟩,h3⟩:=GH pc _ _ h;obtain⟨v,ups,MO,h4,h5,h6⟩:=ih r dt ud K h2;refine⟨v,ups,MO,h4,h5,λ hh=>?_⟩;obtain⟨r',h7,h8⟩:=h6 hh;exact⟨r',.call (h3 h1 hh) h7,h8⟩
 | fail=>
  intro ud K h;unfold ev at h;obtain⟨q,⟨h1,h2⟩,h3⟩:=GH pc False _ h;exact⟨_,_,ud,h2,λ _ h=>h,λ hh=>(h3 h1 hh).elim⟩
def YL:List Oper->List TE->(Nat->AV)->Nat->AV
 | o::rest,e::tr,T=>YL rest tr (fc T o.dst e.v)
 | _,_,T=>T
def YM:List Oper->List TE->(Nat->Bool)->Nat->Bool
 | o::rest,e::tr,V=>YM rest tr (fc V o.dst e.ex)
 | _,_,V=>V
def YN:List TE->(Nat->Option cI)->Nat->Option cI
 | e::tr,H=>YN tr (jJ H e.ups)
 | [],H=>H
def kI (T:List (Nat×AV)) (d:Nat) (v:AV):eH ((d,v)::T)=fc (eH T) (some d) v:=by
 funext t;unfold eH fc;simp only[look];cases hb:Nat.beq d t with
 | true=>have:=aeK hb;subst this;simp
 | false=>
  have:t≠d:=λ e=>by subst e;simp at hb
  simp[this]
def Mr (ups H:ic):hget (ups++H)=jJ (hget H) ups:=by
 funext o;unfold hget jJ;rw[Ev];cases look ups o with
 | none=>rfl
 | some x=>cases x<;>rfl
def NL (dst:Option Nat) (v u:AV) (T U:List (Nat×AV)) (K:List (Nat×AV)->List (Nat×AV)->Prop) (h:Z9 dst v u T U K):∃T' U',K T' U'/\eH T'=fc (eH T) dst v/\eH U'=fc (eH U) dst u:=by
 cases dst with
 | none=>exact⟨T,U,h,rfl,rfl⟩
 | some d=>exact⟨_,_,h,kI T d v,kI U d u⟩
def Xy:List TE->List Log->List Log->Prop
 | [],l,l0=>l=l0
 | e::tr,l,l0=>∃g:Log,(e.ex=true->(∀x∈e.ud,x∈g.ud))/\(∀x,(look e.ups x).isSome=true->x∈g.VH)/\Xy tr l (g::l0)
def TY (ups:ic) (x:Nat) (h:(look ups x).isSome=true):x∈ids ups:=by
 induction ups with
 | nil=>cases h
 | cons u l ih=>
  obtain⟨o,y⟩:=u;simp only[look]at h;simp only[ids,ah0];cases hb:Nat.beq o x with
  | true=>exact .inl (aeK hb).symm
  | false=>simp only[hb]at h;exact .inr (ih h)
def Wf (l:List PC) (p:PC) (j:Nat):Ek (l++[p]) j=if j<l.length then Ek l j else if j=l.length then p else[]:=by
 induction l generalizing j with
 | nil=>cases j<;>simp[Ek]
 | cons q l ih=>
  cases j with
  | zero=>simp[Ek]
  | succ j=>
   simp only[ajQ,Ek,ih,ahP];by_cases h1:j<l.length
   ·simp[h1]
   by_cases h2:j=l.length
   ·simp[h2]
   simp[h1,h2]
def upd_ne {α:Type} (F:Nat->α) (d:Option Nat) (x:α) (t:Nat) (h:d≠some t):fc F d x t=F t:=by
 cases d with
 | none=>rfl
 | some k=>
  have:t≠k:=λ e=>h (by rw[e]);simp[fc,this]
def Ey {α:Type} (F:Nat->α) (t:Nat) (x:α):fc F (some t) x t=x:=by simp[fc]
theorem Wg {all:List Oper} {nx:Nat} (hok:nF N all all 0=true):∀(rest:List Oper) (i:Nat) (T U:List (Nat×AV)) (H:ic) (Vt:List PC) (log:List Log) (K:St->List Log->Prop) (V:Nat->Bool),
  (∀j,rest[j]? = all[i+j]?)->Vt.length=i->(∀j d,j<i->writers all d=[j]->(V d=true↔holds (Ek Vt j)))->(∀t,eH U t=.undef\/(V t=true/\eH U t=eH T t))->
  Ti cfg Sp all nx rest i T U H Vt log K->∃tr s RP,Tr cfg Sp all nx rest i (eH T) V (hget H) tr/\tr.length=rest.length/\K s RP/\s.nx=nx+stride*(i+rest.length)/\hget s.heap=YN tr (hget H)/\
   (∀t,eH s.tmps t=.undef\/(YM rest tr V t=true/\eH s.tmps t=YL rest tr (eH T) t))/\Xy tr RP log:=by
 intro rest;induction rest with
 | nil=>
  intro i T U H Vt log K V _ _ _ hU h;exact⟨[],_,log,ad6,rfl,h,rfl,rfl,hU,rfl⟩
 | cons o rest ih=>
  intro i T U H Vt log K V hr hpl hpc hU h;have hi:all[i]? = some o:=by simpa using(hr 0).symm
  have hop:=(Is all 0 hok i o hi).1;rw[ahq]at hop;have hr':∀j,rest[j]? = all[i+1+j]? := λ j=>by
   have:=hr (j+1);rw[show i+(j+1)=i+1+j by omega]at this;simpa using this
  have go:∀(v u:AV) (ups:ic) (ex:Bool) (r:ap0) (g:Log) (pc:PC) (T' U':List (Nat×AV)) (H':ic),jR all (eH T) o->ex=im all (eH T) V o->(ex=true->dg Sp (hget H) (dV cfg (nx+stride*i) o.op (ND cfg (eH T))) v ups r)->(ex=false->ups=[])->
    eH T'=fc (eH T) o.dst v->eH U'=fc (eH U) o.dst u->hget H'=jJ (hget H) ups->(u=.undef\/(ex=true/\u=v))->(ex=true↔holds pc)->(ex=true->(∀x∈r,x∈g.ud))->(∀x,(look ups x).isSome=true->x∈g.VH)->
    Ti cfg Sp all nx rest (i+1) T' U' H' (Vt++[pc]) (g::log) K->∃tr s RP,Tr cfg Sp all nx (o::rest) i (eH T) V (hget H) tr/\tr.length=(o::rest).length/\K s RP/\s.nx=nx+stride*(i+(o::rest).length)/\hget s.heap=YN tr (hget H)/\
     (∀t,eH s.tmps t=.undef\/(YM (o::rest) tr V t=true/\eH s.tmps t=YL (o::rest) tr (eH T) t))/\Xy tr RP log:=by
   intro v u ups ex r g pc T' U' H' g1 g2 g3 g4 g5 g6 g7 g8 g9 g10 g11 g12
   have akz:∀j d,j<i+1->writers all d=[j]->(fc V o.dst ex d=true↔holds (Ek (Vt++[pc]) j)):=by
    intro j d hj hw
    rw[Wf,hpl]
    by_cases hji:j=i
    ·subst hji
     have:j∈writers all d:=by rw[hw];simp
     obtain⟨o',h1,h2⟩:=(rm all d j).1 this
     rw[hi]at h1
     cases h1
     rw[h2,Ey]
     simpa using g9
    have hne:o.dst≠some d:=λ e=>by
     have:i∈writers all d:=(rm all d i).2 ⟨o,hi,e⟩
     rw[hw]at this
     simp at this
     omega
    rw[upd_ne _ _ _ _ hne,afc om]
    exact hpc j d om hw
   have hU':∀t,eH U' t=.undef\/(fc V o.dst ex t=true/\eH U' t=eH T' t):=by
    intro t
    rw[g5,g6]
    by_cases hd:o.dst=some t
    ·rw[hd,Ey,Ey,Ey]
     rcases g8 with e | ⟨e1,e2⟩
     ·exact .inl e
     exact .inr ⟨e1,e2⟩
    rw[upd_ne _ _ _ _ hd,upd_ne _ _ _ _ hd,upd_ne _ _ _ _ hd]
    exact hU t
   obtain⟨tr,s,RP,q1,q2,q3,q4,q5,q6,q7⟩:=ih (i+1) T' U' H' (Vt++[pc]) (g::log) K (fc V o.dst ex) hr' (by simp[hpl]) akz hU' g12
   rw[g5,g7]at q1
   rw[g7]at q5
   rw[g5]at q6
   exact⟨⟨ex,v,ups,r⟩::tr,s,RP,⟨g1,g2,g3,g4,q1⟩,by simp[q2],q3,by rw[q4,show i+1+rest.length=i+(o::rest).length by simp;omega],q5,q6,g,g10,g11,q7⟩
  unfold Ti at h;cases hg:o.guard with
  | none=>
   rw[hg]at h;simp only at h;obtain⟨v,ups,MO,h1,_,h2⟩:=NK _ _ _ _ _ h;obtain⟨r,h3,h4⟩:=h2 (λ q hq=>by cases hq);obtain⟨T',U',h5,h6,h7⟩:=NL _ _ _ _ _ _ h1;rw[Xx,GG]at h5;have hs:jR all (eH T) o:=by unfold jR;rw[hg];trivial
   have hon:im all (eH T) V o=true:=by unfold im;rw[hg]
   exact go v v ups true r _ [] T' U' _ hs hon.symm (λ _=>h3) (λ e=>by cases e) h6 h7 (Mr ups H) (.inr ⟨rfl,rfl⟩) ⟨λ _ q hq=>by(cases hq),λ _=>rfl⟩ (λ _=>h4) (λ x hx=>TY ups x hx) h5
  | some gu=>
   obtain⟨j,b⟩:=gu;rw[hg]at h;simp only at h;cases hd:Mi all j with
   | none=>rw[hd]at h;exact h.elim
   | some d=>
    rw[hd]at h;simp only at h;cases hT:eH T d with
    | bool c=>
     rw[hT]at h;simp only at h;have hjd:j<i/\writers all d=[j]:=by
      unfold Tj at hop;rw[hg]at hop;simp only at hop;split at hop
      ·rename_i h1;split at h1
       ·rename_i hlt;rw[hd]at h1;simp only at h1;split at h1
        ·rename_i j' hw;have e:=aeK h1;subst e;exact⟨by simpa using hlt,hw⟩
        cases h1
       cases h1
      cases hop
     have hVd:=hpc j d hjd.1 hjd.2;have hs:jR all (eH T) o:=by unfold jR;rw[hg];exact⟨d,c,hd,hT⟩
     have hon:im all (eH T) V o=(V d&&(c==b)):=by unfold im;rw[hg];simp only[hd,hT,isB]
     cases hq:Xn cfg o.op with
     | true=>
      rw[hq]at h;simp only at h;rw[YK]at h;obtain⟨v,ups,MO,h1,_,h2⟩:=NK _ _ _ _ _ h;cases ups with
      | cons u l=>exact h1.elim
      | nil=>
       simp only at h1;obtain⟨T',U',h5,h6,h7⟩:=NL _ _ _ _ _ _ h1;rw[GG]at h5;have hiff:im all (eH T) V o=true↔holds ((c,b)::Ek Vt j):=by
        rw[hon];simp only[aeP,ajZ,hVd];constructor
        ·rintro ⟨q1,q2⟩ q hq;rcases ah0.1 hq with e | e
         ·subst e;exact q2
         exact q1 q e
        intro q;exact⟨λ y hy=>q y (ahV _ hy),q (c,b) (by simp)⟩
       cases hex:im all (eH T) V o with
       | true=>
        obtain⟨r,h3,h4⟩:=h2 (hiff.1 hex);exact go v .undef [] true r _ _ T' U' H hs hex.symm (λ _=>h3) (λ e=>by cases e) h6 h7 (by rw[xh]) (.inl rfl) ⟨λ _=>hiff.1 hex,λ _=>rfl⟩ (λ _=>h4) (λ x hx=>by cases hx) h5
       | false=>
        exact go v .undef [] false [] _ _ T' U' H hs hex.symm (λ e=>by cases e) (λ _=>rfl) h6 h7 (by rw[xh]) (.inl rfl) (by rw[<- hex];exact hiff) (λ e=>by cases e) (λ x hx=>by cases hx) h5
     | false=>
      rw[hq]at h;simp only at h;split at h
      ·rename_i hnil;have hV:V d=true:=hVd.2 (by rw[hnil];exact λ q hq=>by cases hq);rw[hV,aj0]at hon;cases hcb:(c==b)with
       | true=>
        rw[hcb]at h;simp only[N3]at h;obtain⟨v,ups,MO,h1,_,h2⟩:=NK _ _ _ _ _ h;obtain⟨r,h3,h4⟩:=h2 (λ q hq=>by cases hq);obtain⟨T',U',h5,h6,h7⟩:=NL _ _ _ _ _ _ h1;rw[Xx,GG]at h5;exact go v v ups true r _ [] T' U' _ hs (by rw[hon,hcb]) (λ _=>h3) (λ e=>by cases e) h6 h7 (Mr ups H) (.inr ⟨rfl,rfl⟩) ⟨λ _ q hq=>by(cases hq),λ _=>rfl⟩ (λ _=>h4) (λ x hx=>TY ups x hx) h5
       | false=>
        rw[hcb]at h;simp only[N3]at h;obtain⟨T',U',h5,h6,h7⟩:=NL _ _ _ _ _ _ h;rw[GG]at h5;refine go .undef .undef [] false [] _ _ T' U' H hs (by rw[hon,hcb]) (λ e=>by cases e) (λ _=>rfl) h6 h7 (by rw[xh]) (.inl rfl) ⟨λ e=>by(cases e),λ q=>?_⟩ (λ e=>by cases e) (λ x hx=>by cases hx) h5;have:=q (c,b) (by simp);simp at hcb;exact absurd this hcb
      exact h.elim
    | _=>rw[hT]at h;exact h.elim
end
end Go.Ab
namespace Go.Ab
section
variable {P:Program} {cfg:qX} {cx:Ctx} {N:Nat}
def Ov (D:Nat):Deferred:={ target:=.collected D,args:=#[] }
def Marks (cx:Ctx) (w:World) (ds:List Deferred):Prop:=∃ms:ap0,ms.Nodup/\(cx.rd=true->ms=[])/\ds=ms.map Ov/\∀D∈ms,cx.w0.heap.size<=D/\w.heap[D]? = some (.deferred (some []))
def Ctx.also (cx:Ctx) (ms:ap0):Ctx:={ cx with K:=λ k o=>cx.K k o\/(k∈ms/\o=.deferred (some [])) }
def Rel.also {H:Nat->Option cI} {D:Nat->Prop} {w:World} {I:Nat->Prop} {O:OM} (hR:Rel cfg cx H D w I O) {ms:ap0} (h:∀D∈ms,w.heap[D]? = some (.deferred (some []))):Rel cfg (cx.also ms) H D w I O:=
 { hR with
  env:=⟨hR.env.same,λ k o hk=>hk.elim (hR.env.kept k o) λ⟨h1,h2⟩=>by subst h2;exact⟨h k h1,rfl⟩⟩ }
def Rel.aaN {H:Nat->Option cI} {D:Nat->Prop} {w:World} {I:Nat->Prop} {O:OM} {ms:ap0} (hR:Rel cfg (cx.also ms) H D w I O):Rel cfg cx H D w I O/\∀D∈ms,w.heap[D]? = some (.deferred (some [])):=
 ⟨{ hR with
  env:=⟨hR.env.same,λ k o hk=>hR.env.kept k o (.inl hk)⟩ },λ D hD=>(hR.env.kept D _ (.inr ⟨hD,rfl⟩)).1⟩
structure fD (cfg:qX) (N m:Nat) (cx:Ctx) (s:St) (a:Act) (w:World) (I:Nat->Prop) (O:OM):Prop where
 m:cx.m=m
 rel:Rel cfg cx (hget s.heap) (λ o=>o<s.nx) w I O
 tmps:um N a.defers (eH s.tmps) (λ _=>true) a w I O (λ o=>o<s.nx)
 marks:Marks cx w a.defers
def Good (P:Program) (cfg:qX) (N:Nat) (r:Option Nat) (m:Nat) (c:Code) (s:St) (K:Exit->St->Prop):Prop:=
 ∀(n:Nat) (cx:Ctx) (a:Act) (w:World) (I:Nat->Prop) (O:OM),fD cfg N m cx s a w I O->cx.rd=r.isSome->c.wpIn (FW r) n P (λ e a' w'=>∃s' I' O',K e s'/\fD cfg N m cx s' a' w' I' O') a w
structure Loops (P:Program) (cfg:qX) (N:Nat) (r:Option Nat) (m:Nat) (c:Code) (s:St) (K:Exit->St->Prop):Prop where
 ok:Good P cfg N r m c s K
def Wh:∀(tr:List TE) (l l0:List Log),Xy tr l l0->∃gs:List Log,gs.length=tr.length/\l=gs.reverse++l0/\∀(k:Nat) (e:TE) (g:Log),tr[k]? = some e->gs[k]? = some g->(e.ex=true->∀x∈e.ud,x∈g.ud)/\∀x,(look e.ups x).isSome=true->x∈g.VH:=by
 intro tr;induction tr with
 | nil=>intro l l0 h;exact⟨[],rfl,h,λ k e g h=>by simp at h⟩
 | cons e tr ih=>
  intro l l0 h;obtain⟨g,h1,h2,h3⟩:=h;obtain⟨gs,q1,q2,q3⟩:=ih l (g::l0) h3;refine⟨g::gs,by simp[q1],by simp[q2],λ k e' g' hk hg=>?_⟩;cases k with
  | zero=>simp at hk hg;subst hk;subst hg;exact⟨h1,h2⟩
  | succ k=>exact q3 k e' g' (by simpa using hk) (by simpa using hg)
def Ez {l m:ap0} (h:meets l m=false):∀x∈l,x ∉ m:=by
 induction l with
 | nil=>intro x hx;cases hx
 | cons y l ih=>
  intro x hx;unfold meets at h;cases hm:vR y m with
  | true=>simp[hm]at h
  | false=>
   simp only[hm]at h;rcases ah0.1 hx with e | e
   ·subst e;exact th hm
   exact ih h x e
def BQ {α:Type} {motive:List α->Prop} (nil:motive []) (append_singleton:∀l x,motive l->motive (l++[x])):∀l,motive l:=by
 intro l;have:∀m:List α,motive m.reverse:=by
  intro m;induction m with
  | nil=>exact nil
  | cons x m ih=>rw[aoY];exact append_singleton _ x ih
 have:=this l.reverse;rwa [List.reverse_reverse]at this
variable {all:List Oper}
def TZ {j:Nat} {x:Log}:∀(gs:List Log),KM all j x gs.reverse gs.length=true->∀i g,gs[i]? = some g->(meets x.VH g.ud=false/\meets g.VH x.ud=false/\meets g.VH x.VH=false)\/before all 40 i j=true:=by
 intro gs;induction gs using BQ with
 | nil=>intro _ i g h;simp at h
 | append_singleton gs y ih=>
  intro h i g hg;rw[aoJ,aeU]at h;simp only[aoY,List.reverse_nil,apn,ajQ,ahP,ajE,ahq]at h;unfold KM at h;have rest:KM all j x gs.reverse gs.length=true:=by
   split at h
   ·exact h
   split at h
   ·exact h
   cases h
  by_cases hi:i<gs.length
  ·exact ih rest i g (by rwa [aku hi]at hg)
  have hil:i=gs.length:=by
   have:=(List.getElem?_eq_some_iff.1 hg).1;simp at this;omega
  subst hil;simp at hg;subst hg;split at h
  ·rename_i e1 e2 e3;exact .inl ⟨e1,e2,e3⟩
  split at h
  ·rename_i hb;exact .inr hb
  cases h
def aaO:∀(gs:List Log),BB all gs.reverse gs.length=true->∀j x,gs[j]? = some x->∀i g,i<j->gs[i]? = some g->(meets x.VH g.ud=false/\meets g.VH x.ud=false/\meets g.VH x.VH=false)\/before all 40 i j=true:=by
 intro gs;induction gs using BQ with
 | nil=>intro _ j x h;simp at h
 | append_singleton gs y ih=>
  intro h j x hx i g hij hg;rw[aoJ,aeU]at h;simp only[aoY,List.reverse_nil,apn,ajQ,ahP,ajE,ahq]at h;unfold BB at h;split at h
  ·rename_i hone;have hjl:j<(gs++[y]).length:=(List.getElem?_eq_some_iff.1 hx).1;simp at hjl;have hi:i<gs.length:=by omega
   have hg':gs[i]? = some g:=by rwa [aku hi]at hg
   by_cases hj:j<gs.length
   ·exact ih h j x (by rwa [aku hj]at hx) i g hij hg'
   have:j=gs.length:=by omega
   subst this;simp at hx;subst hx;exact TZ gs hone i g hg'
  cases h
theorem adP {T0:Nat->AV} {H0:Nat->Option cI} {ent:Nat->TE}:∀(rest:List Oper) (i:Nat) (tr:List TE),(∀j,rest[j]? = all[i+j]?)->(∀j e,tr[j]? = some e->ent (i+j)=e)->tr.length=rest.length->
  YL rest tr (Aq all ent yes i T0)=Aq all ent yes (i+rest.length) T0/\YM rest tr (G4 all ent yes i)=G4 all ent yes (i+rest.length)/\YN tr (Ji ent yes i H0)=Ji ent yes (i+rest.length) H0:=by
 intro rest;induction rest with
 | nil=>
  intro i tr _ _ hl;have:tr=[]:=apq (by simpa using hl);subst this;exact⟨rfl,rfl,rfl⟩
 | cons x rest ih=>
  intro i tr hr he hl;cases tr with
  | nil=>simp at hl
  | cons e tr=>
   have hx:all[i]? = some x:=by simpa using(hr 0).symm
   have he0:ent i=e:=by simpa using he 0 e rfl
   subst he0;have e1:fc (Aq all ent yes i T0) x.dst (ent i).v=Aq all ent yes (i+1) T0:=GF hx _ yes rfl T0 _ λ _=>rfl;have e2:fc (G4 all ent yes i) x.dst (ent i).ex=G4 all ent yes (i+1):=GF hx _ yes rfl _ _ λ _=>rfl;have e3:jJ (Ji ent yes i H0) (ent i).ups=Ji ent yes (i+1) H0:=TR yes rfl H0;simp only[YL,YM,YN];rw[e1,e2,e3];have:=ih (i+1) tr (λ j=>by
    have:=hr (j+1);rw[show i+(j+1)=i+1+j by omega]at this;simpa using this) (λ j e' hj=>by
    have:=he (j+1) e' (by simpa using hj);rwa [show i+(j+1)=i+1+j by omega]at this) (by simpa using hl)
   rw[show i+1+rest.length=i+(x::rest).length by simp;omega]at this;exact this
theorem T1 (hc:ej P cfg) {N:Nat} {r:Option Nat} {m id:Nat} {ct:ap0} {ops:Array Oper} {draw:Bool} {T:List (Nat×AV)} {H:ic} {nx:Nat} {K:Exit->St->Prop}
  (h:ig cfg (Spec P cfg) ct (Loops P cfg N r m) (.region id ops draw) ⟨T,H,nx⟩ K) (hok:aac N ops.toList draw=true):
  Good P cfg N r m (.region id ops draw) ⟨T,H,nx⟩ K:=by
 intro n0 cx a w I O hS hrd;obtain⟨ms,hnd,hrm,hds,hms⟩:=hS.marks;have hS1:=hS.rel.also (λ D hD=>(hms D hD).2);simp only[ig]at h;unfold aac at hok;simp only[aeP,aiG,ahA]at hok;obtain⟨hok1,hok2⟩:=hok;obtain⟨tr,s,RP,q1,q2,q3,q4,q5,q6,q7⟩:=Wg hok1 ops.toList 0 T T H [] [] _ (λ _=>true) (λ j=>by simp) rfl (λ j d hj=>by omega) (λ t=>.inr ⟨rfl,rfl⟩) h;let ent:Nat->TE:=λ k=>tr.getD k ⟨true,.undef,[],[]⟩
 have hent:∀j e,tr[j]? = some e->ent (0+j)=e:=λ j e he=>by show tr.getD (0+j) _=e;simp[he]
 have htr:TrI cfg (Spec P cfg) ops.toList nx (eH T) (hget H) ent:=λ k o hk=>TrI.adO ops.toList 0 tr (λ j=>by simp) hent q1 k o (ahU _) hk;obtain⟨e1,e2,e3⟩:=adP (all:=ops.toList) (T0:=eH T) (H0:=hget H) ops.toList 0 tr (λ j=>by simp) hent q2;simp only[ahq,aoH]at e1 e2 e3 q4;have hfin:∀a' w' I' O',K .normal s->Rel cfg (cx.also ms) (Ji ent yes ops.size (hget H)) (λ o=>o<nx+stride*ops.size) w' I' O'->um N a.defers (Aq ops.toList ent yes ops.size (eH T)) (G4 ops.toList ent yes ops.size) a' w' I' O' (λ o=>o<nx+stride*ops.size)->
   ∃s' I' O',K .normal s'/\fD cfg N m cx s' a' w' I' O':=by
  intro a' w' I' O' hK akA hT'
  obtain⟨hR',akB⟩:=akA.aaN
  have hda:a'.defers=a.defers:=hT'.defers
  refine⟨s,I',O',hK,hS.m,?_,?_,⟨ms,hnd,hrm,hda.trans hds,λ D hD=>⟨(hms D hD).1,akB D hD⟩⟩⟩
  ·rw[q5,q4]
   show Rel cfg cx (YN tr (Ji ent yes 0 (hget H))) _ w' I' O'
   rw[e3]
   exact hR'
  rw[q4]
  refine⟨rfl,hT'.size,λ t _=>?_,λ t h=>by cases h⟩
  rcases q6 t with e | ⟨e4,e5⟩
  ·rw[e];exact .pure (.undef _)
  have e4':YM ops.toList tr (G4 ops.toList ent yes 0) t=true:=e4
  have e5':eH s.tmps t=YL ops.toList tr (Aq ops.toList ent yes 0 (eH T)) t:=e5
  rw[e2]at e4'
  rw[e1]at e5'
  rw[e5']
  exact hT'.rep t e4'
 cases draw with
 | false=>
  simp only at q3;exact TU hc htr hok1 hS1 hS.tmps λ a' w' I' O' hR' hT'=>hfin a' w' I' O' q3 hR' hT'
 | true=>
  simp only at q3;split at q3
  ·rename_i K3;have hdr:KL ops.toList ops.toList 0=true:=by simpa using hok2
   obtain⟨gs,g1,g2,g3⟩:=Wh tr RP [] q7;rw[aiN]at g2;have hlen:gs.length=ops.toList.length:=by rw[g1,q2]
   rw[g2,<- hlen]at K3;have hspec:=aaO gs K3;have hdyn:afk ops ent:=by
    intro i j hij hj;have hjg:j<gs.length:=by rw[hlen];simpa using hj
    have hig:i<gs.length:=by omega
    have htj:tr[j]? = some (ent j):=by
     have hlt:j<tr.length:=by omega
     show tr[j]? = some (tr.getD j _);simp[hlt]
    have hti:tr[i]? = some (ent i):=by
     have hlt:i<tr.length:=by omega
     show tr[i]? = some (tr.getD i _);simp[hlt]
    obtain⟨a1,a2⟩:=g3 j _ _ htj (aeA hjg);obtain⟨b1,b2⟩:=g3 i _ _ hti (aeA hig);rcases hspec j _ (aeA hjg) i _ hij (aeA hig)with⟨c1,c2,c3⟩ | hb
    ·refine .inr ⟨λ b hw hex hm=>Ez c2 b (b2 b hw) (a1 hex b hm),λ b hw hex hm=>Ez c1 b (a2 b hw) (b1 hex b hm),λ b hw=>?_⟩;cases hwj:ZJ ent j b with
     | false=>rfl
     | true=>exact absurd (a2 b hwj) (Ez c3 b (b2 b hw))
    exact .inl hb
   exact TW hc htr hok1 hdr hdyn hS1 hS.tmps λ a' w' I' O' hR' hT'=>hfin a' w' I' O' q3 hR' hT'
  exact q3.elim
variable {r:Option Nat} {m:Nat} {K:Exit->St->Prop}
def Good.mono {N:Nat} {c:Code} {s:St} {K':Exit->St->Prop} (h:Good P cfg N r m c s K) (hk:∀e s,K e s->K' e s):Good P cfg N r m c s K':=λ n0 cx a w I O hS hrd=>
 wpIn_mono (h n0 cx a w I O hS hrd) λ e _ _ ⟨s',I',O',h1,h2⟩=>⟨s',I',O',hk e s' h1,h2⟩
def mT {N:Nat} {x y:Code} {s:St} (h:Good P cfg N r m x s λ e s'=>match e with | .normal=>Good P cfg N r m y s' K | e=>K e s'):Good P cfg N r m (.seq x y) s K:=by
 intro n0 cx a w I O hS hrd;refine wpIn_seq (wpIn_mono (h n0 cx a w I O hS hrd) ?_);intro e a' w' ⟨s',I',O',h1,h2⟩;cases e with
 | normal=>exact h1 n0 cx a' w' I' O' h2 hrd
 | exit id=>exact⟨s',I',O',h1,h2⟩
 | goto l=>exact⟨s',I',O',h1,h2⟩
 | ret=>exact⟨s',I',O',h1,h2⟩
 | panic ch=>exact⟨s',I',O',h1,h2⟩
 | outgrown=>exact⟨s',I',O',h1,h2⟩
def Wi {N:Nat} {id:Nat} {x:Code} {s:St} (h:Good P cfg N r m x s λ e s'=>match e with | .exit i=>(match Nat.beq i id with | true=>K .normal s' | false=>K (.exit i) s') | e=>K e s'):Good P cfg N r m (.block id x) s K:=by
 intro n0 cx a w I O hS hrd;refine wpIn_block (wpIn_mono (h n0 cx a w I O hS hrd) ?_);intro e a' w' ⟨s',I',O',h1,h2⟩;cases e with
 | exit i=>
  simp only[Exit.inBlock];simp only at h1;by_cases hi:i=id
  ·subst hi;have hb:Nat.beq i i=true:=by simp
   rw[hb]at h1;rw[afc rfl];exact⟨s',I',O',h1,h2⟩
  have hb:Nat.beq i id=false:=by
   cases hb:Nat.beq i id with
   | false=>rfl
   | true=>exact absurd (aeK hb) hi
  rw[hb]at h1;rw[aeV hi];exact⟨s',I',O',h1,h2⟩
 | normal=>exact⟨s',I',O',h1,h2⟩
 | goto l=>exact⟨s',I',O',h1,h2⟩
 | ret=>exact⟨s',I',O',h1,h2⟩
 | panic ch=>exact⟨s',I',O',h1,h2⟩
 | outgrown=>exact⟨s',I',O',h1,h2⟩
def K5 {N:Nat} {c:Operand} {x y:Code} {s:St} {b:Bool} (hb:ND cfg (eH s.tmps) c=.bool b) (h1:b=true->Good P cfg N r m x s K) (h2:b=false->Good P cfg N r m y s K):Good P cfg N r m (.cond c x y) s K:=by
 intro n0 cx a w I O hS hrd;have hr:=qb hS.rel hS.tmps c (λ t _=>rfl);rw[hb]at hr;refine wpIn_cond_split hr.je (λ h=>h1 h n0 cx a w I O hS hrd) (λ h=>h2 h n0 cx a w I O hS hrd)
def fq (hc:ej P cfg) {N:Nat} {ct:ap0}:∀(c:Code) (s:St) (K:Exit->St->Prop),eY N c=true->ig cfg (Spec P cfg) ct (Loops P cfg N r m) c s K->Good P cfg N r m c s K:=by
 intro c;induction c with
 | skip=>intro s K _ h n0 cx a w I O hS _;exact wpIn_skip ⟨s,I,O,h,hS⟩
 | region id ops draw=>
  intro s K hok h;obtain⟨T,H,nx⟩:=s;exact T1 hc h hok
 | seq x y ihx ihy=>
  intro s K hok h;simp only[eY,aeP]at hok;unfold ig at h;split at h
  ·exact h.ok
  refine mT ((ihx s _ hok.1 h).mono λ e s' h'=>?_);cases e with
  | normal=>exact ihy s' K hok.2 h'
  | _=>exact h'
 | cond c x y ihx ihy=>
  intro s K hok h;simp only[eY,aeP]at hok;simp only[ig]at h;split at h
  ·rename_i b hb;refine K5 hb (λ e=>?_) (λ e=>?_)
   ·subst e;exact ihx s K hok.1 h
   subst e;exact ihy s K hok.2 h
  exact h.elim
 | block id x ih=>
  intro s K hok h;exact Wi (ih s _ hok h)
 | loop x ih=>intro s K hok h;exact h.ok
 | rangeFunc g ps x y ihx ihy=>intro s K hok h;exact h.ok
 | exit id=>intro s K _ h n0 cx a w I O hS _;exact wpIn_exit ⟨s,I,O,h,hS⟩
 | ret=>intro s K _ h n0 cx a w I O hS _;exact wpIn_ret ⟨s,I,O,h,hS⟩
 | _=>intro s K hok h;cases hok
end
end Go.Ab

/- A part of the proof. -/
import Derived.Test.YtccjmcmolnbiiaaGreatDoorA1
import Derived.Test.YtccjmcmolnbiiaaGreatDoorA0
import Derived.MapKept
import Derived.OrdersIn
import Derived.Sort.LoopGhostIn
set_option linter.defProp false
set_option linter.unusedVariables false
set_option linter.unusedSimpArgs false
namespace Go.Ab
section
variable {P:Program} {cfg:y9} {cx:Ctx} {H:Nat->Option eD} {D:Nat->Prop} {w:World} {I:Nat->Prop} {O:OM}
variable {dY:Nat} {o:Oper} {a:Act} {ρ:Operand->AV} {v:AV} {ups:lK} {r:ahb}
def afq {f:FuncId} {vals:Array Value} {next:Act->World->Prop} {Q:Exit->Act->World->Prop} (h:(execOp a.eval o).run P w=.ok (.enter f vals) w)
  (hc:Calls P f vals w λ e w'=>∃x,e=.returned x/\next (a.put o.dst x) w'):o.wp P a w next Q:=by
 unfold Oper.wp;rw[h];exact hc.mono λ e w' ⟨x,he,hn⟩=>by subst he;exact hn
variable {u:AV} {x:Value}
def XZ {w':World} {I':Nat->Prop} (h:fC w I O D u x) (hm:ZY u=true):iH w' I' u x:=by
 cases u<;>first | cases hm | skip
 ·rw[h.l8];exact .bool _
 ·rw[h.iZ];exact .int _ _
 rw[h.Dq];exact .str _
variable {l:aiA}
def ahz (h:adF l=true):∀j,j<l.length->ZY (nth l j)=true:=by
 induction l with
 | nil=>intro j hj;cases hj
 | cons u l ih=>
  intro j hj;unfold adF at h;cases hv:ZY u with
  | false=>simp[hv]at h
  | true=>
   simp only[hv]at h;cases j with
   | zero=>exact hv
   | succ j=>exact ih h j (by simpa using hj)
def X0 {w':World} {I':Nat->Prop} (h:fC w I O D u x) (hm:Z0 u=true):iH w' I' u x:=by
 cases u with
 | agg cs=>
  obtain⟨vs,rfl,hl,hr⟩:=h.xq;exact .agg hl λ j hj=>XZ (hr j hj) (ahz hm j hj)
 | _=>exact XZ h hm
def ahA (h:adG l=true):∀j,j<l.length->Z0 (nth l j)=true:=by
 induction l with
 | nil=>intro j hj;cases hj
 | cons u l ih=>
  intro j hj;unfold adG at h;cases hv:Z0 u with
  | false=>simp[hv]at h
  | true=>
   simp only[hv]at h;cases j with
   | zero=>exact hv
   | succ j=>exact ih h j (by simpa using hj)
def ahB {w':World} {I':Nat->Prop} (h:fC w I O D u x) (hm:alf u=true):iH w' I' u x:=by
 cases u with
 | kP cs=>
  obtain⟨vs,rfl,hl,hr⟩:=h.Kr;exact .kP hl λ j hj=>X0 (hr j hj) (ahA hm j hj)
 | _=>exact X0 h hm
def alT:∀(l:ajN) (j:Nat),j<l.length->∃x,hof l j=some x:=by
 intro l;induction l with
 | nil=>intro j hj;cases hj
 | cons x l ih=>intro j hj;cases j with
  | zero=>exact⟨x,rfl⟩
  | succ j=>exact ih j (by simpa using hj)
def UC:∀(l:ajN) (j:Nat),l.length<=j->hof l j=none:=by
 intro l;induction l with
 | nil=>intro j _;rfl
 | cons x l ih=>intro j hj;cases j with
  | zero=>simp at hj
  | succ j=>exact ih j (by simpa using hj)
def Oc {α:Type}:∀(l m:List (Nat×α)) (k:Nat),look (l++m) k=match look l k with | some x=>some x | none=>look m k:=by
 intro l;induction l with
 | nil=>intro m k;rfl
 | cons p l ih=>
  intro m k;obtain⟨q,x⟩:=p;simp only[List.cons_append,look];cases Nat.beq q k<;>simp[ih]
def adS:∀(l:ahb) (obs:ajN) (j:Nat) (x:eD),pz l=true->j<l.length->hof obs j=some x->look (Es l obs) (iG l j)=some (gz x):=by
 intro l;induction l with
 | nil=>intro obs j x _ hj;cases hj
 | cons y l ih=>
  intro obs j x hnd hj hx;cases obs with
  | nil=>cases hx
  | cons ob obs=>
   have hnd':pz l=true/\y ∉ l:=by
    unfold pz at hnd;cases hm:Dn y l with
    | true=>simp[hm]at hnd
    | false=>simp only[hm]at hnd;exact⟨hnd,zF hm⟩
   cases j with
   | zero=>simp[hof]at hx;subst hx;simp[Es,look,iG]
   | succ j=>
    simp only[Es,look,iG];have hne:Nat.beq y (iG l j)=false:=by
     cases hb:Nat.beq y (iG l j)with
     | false=>rfl
     | true=>exact absurd (Nat.eq_of_beq_eq_true hb ▸ rR l j (by simpa using hj)) hnd'.2
    rw[hne];exact ih obs j x hnd'.1 (by simpa using hj) hx
def ab6:∀(l:ahb) (obs:ajN) (k:Nat),(∀j,j<l.length->j<obs.length->iG l j≠k)->look (Es l obs) k=none:=by
 intro l;induction l with
 | nil=>intro obs k _;cases obs<;>rfl
 | cons y l ih=>
  intro obs k h;cases obs with
  | nil=>rfl
  | cons ob obs=>
   simp only[Es,look];have hne:Nat.beq y k=false:=by
    cases hb:Nat.beq y k with
    | false=>rfl
    | true=>exact absurd (Nat.eq_of_beq_eq_true hb) (h 0 (by simp) (by simp))
   rw[hne];exact ih obs k (λ j h1 h2=>h (j+1) (by simp;omega) (by simp;omega))
def ahC:∀(n i:Nat),(lq n i).length=n:=by
 intro n;induction n with
 | zero=>intro i;rfl
 | succ n ih=>intro i;simp[lq,ih]
def ahD:∀(n i j:Nat),j<n->iG (lq n i) j=i+j:=by
 intro n;induction n with
 | zero=>intro i j h;omega
 | succ n ih=>
  intro i j h;cases j with
  | zero=>rfl
  | succ j=>
   show iG (lq n (i+1)) j=_;rw[ih (i+1) j om];omega
def ahE (l m:ahb) (j:Nat) (h:j<l.length):iG (l++m) j=iG l j:=by
 induction l generalizing j with
 | nil=>cases h
 | cons x l ih=>cases j with
  | zero=>rfl
  | succ j=>exact ih j (by simpa using h)
def ahF (l m:ahb) (j:Nat) (h:l.length<=j):iG (l++m) j=iG m (j - l.length):=by
 induction l generalizing j with
 | nil=>rfl
 | cons x l ih=>cases j with
  | zero=>simp at h
  | succ j=>
   show iG (l++m) j=_
   rw[ih j (by simpa using h)]
   simp
def ab7:∀(l:ahb),(∀i j,i<l.length->j<l.length->iG l i=iG l j->i=j)->pz l=true:=by
 intro l;induction l with
 | nil=>intro _;rfl
 | cons x l ih=>
  intro h;unfold pz;have hm:Dn x l=false:=by
   cases hb:Dn x l with
   | false=>rfl
   | true=>
    have key:∀m:ahb,Dn x m=true->∃j,j<m.length/\iG m j=x:=by
     intro m;induction m with
     | nil=>intro h;cases h
     | cons y m ihm=>
      intro h;unfold Dn at h;cases hxy:Nat.beq x y with
      | true=>exact⟨0,by simp,(Nat.eq_of_beq_eq_true hxy).symm⟩
      | false=>
       rw[hxy]at h;obtain⟨j,h1,h2⟩:=ihm h;exact⟨j+1,by simpa using h1,h2⟩
    obtain⟨j,h1,h2⟩:=key l hb;have:=h 0 (j+1) (by simp) (by simpa using h1) h2.symm;omega
  rw[hm];refine ih λ i j hi hj e=>?_;have:=h (i+1) (j+1) (by simpa using hi) (by simpa using hj) e;omega
def UD (sg:ahb) (l:aiA):(ajP sg l).length=l.length:=by
 induction l with
 | nil=>rfl
 | cons v l ih=>simp[ajP,ih]
def afr (sg:ahb):∀(l:aiA) (j:Nat),nth (ajP sg l) j=NQ sg (nth l j):=by
 intro l;induction l with
 | nil=>intro j;rfl
 | cons v l ih=>intro j;cases j with
  | zero=>rfl
  | succ j=>exact ih j
def acY (sg:ahb) (l:aiA):(ae7 sg l).length=l.length:=by
 induction l with
 | nil=>rfl
 | cons v l ih=>simp[ae7,ih]
def aj1 (sg:ahb):∀(l:aiA) (j:Nat),nth (ae7 sg l) j=NR sg (nth l j):=by
 intro l;induction l with
 | nil=>intro j;rfl
 | cons v l ih=>intro j;cases j with
  | zero=>rfl
  | succ j=>exact ih j
def aj2 (sg:ahb):∀(l:ajN) (j:Nat),hof (Z5 sg l) j=(hof l j).map (ab0 sg):=by
 intro l;induction l with
 | nil=>intro j;rfl
 | cons v l ih=>intro j;cases j with
  | zero=>rfl
  | succ j=>exact ih j
def afs (h:ali l=true):∀j,j<l.length->alh (nth l j)=true:=by
 induction l with
 | nil=>intro j hj;cases hj
 | cons v l ih=>
  intro j hj;unfold ali at h;cases hv:alh v with
  | false=>simp[hv]at h
  | true=>
   simp only[hv]at h;cases j with
   | zero=>exact hv
   | succ j=>exact ih h j (by simpa using hj)
def aj3 (h:aiL l=true):∀j,j<l.length->alj (nth l j)=true:=by
 induction l with
 | nil=>intro j hj;cases hj
 | cons v l ih=>
  intro j hj;unfold aiL at h;cases hv:alj v with
  | false=>simp[hv]at h
  | true=>
   simp only[hv]at h;cases j with
   | zero=>exact hv
   | succ j=>exact ih h j (by simpa using hj)
def aj4:∀(l:ahb) (x k:Nat),BO l x k=none->x ∉ l:=by
 intro l;induction l with
 | nil=>intro x k _ h;cases h
 | cons y l ih=>
  intro x k h hm;unfold BO at h;cases hb:Nat.beq y x with
  | true=>simp[hb]at h
  | false=>
   simp only[hb]at h;rcases List.mem_cons.1 hm with e | e
   ·subst e;simp at hb
   exact ih x (k+1) h e
def aou:∀(l:ajN) (j:Nat) (x:eD),hof l j=some x->FV l j=gz x:=by
 intro l;induction l with
 | nil=>intro j x h;cases h
 | cons y l ih=>
  intro j x h;cases j with
  | zero=>cases h;rfl
  | succ j=>exact ih j x h
def acZ {l:ajN} (h:aiM l=true):∀j x,hof l j=some x->alk x=true:=by
 induction l with
 | nil=>intro j x hx;cases hx
 | cons v l ih=>
  intro j x hx;unfold aiM at h;cases hv:alk v with
  | false=>simp[hv]at h
  | true=>
   simp only[hv]at h;cases j with
   | zero=>cases hx;exact hv
   | succ j=>exact ih h j x hx
def aft (sg:ahb):∀(l:aiA),(Ab.alg sg l).length=l.length:=by
 intro l;induction l with
 | nil=>rfl
 | cons v l ih=>simp[Ab.alg,ih]
def alU (sg:ahb):∀(l:aiA) (j:Nat),nth (Ab.alg sg l) j=Ab.ae6 sg (nth l j):=by
 intro l;induction l with
 | nil=>intro j;rfl
 | cons v l ih=>intro j;cases j with
  | zero=>rfl
  | succ j=>exact ih j
def aov (h:okA l=true):∀j,j<l.length->an8 (nth l j)=true:=by
 induction l with
 | nil=>intro j hj;cases hj
 | cons v l ih=>
  unfold okA at h;cases hv:an8 v with
  | false=>rw[hv]at h;cases h
  | true=>
   rw[hv]at h;intro j hj;cases j with
   | zero=>exact hv
   | succ j=>exact ih h j (by simpa using hj)
section back
variable {w':World} {I':Nat->Prop} {O' On:OM} {n:Nat} {D2:Nat->Prop} {full:ahb}
def fC.ae6 (hlive:∀j,j<n->D2 (iG full j)) (kR:∀j p,O' j=some p->j<n) (hon:∀j,j<n->On (iG full j)=O' j) (hu:an8 u=true) (h:fC w' I' O' (λ k=>k<n) u x):fC w' I' On D2 (Ab.ae6 full u) x:=by
 cases u with
 | ptr j i off=>
  cases hj:O' j with
  | none=>
   have hlt:j<n:=by
    cases h with
    | pure h=>cases h
    | ptr ho=>rw[hj]at ho;cases ho
    | Et _ hd=>exact hd
   have h1:x.oneCell'=true:=by
    cases h with
    | pure h=>cases h
    | ptr ho=>rw[hj]at ho;cases ho
    | Et _ _ h1=>exact h1
   exact .Et (by rw[hon j hlt];exact hj) (hlive j hlt) h1
  | some p=>
   obtain⟨b,bo,sz,q1,q2,rfl⟩:=h.pF hj;exact .ptr (by rw[hon j (kR j p hj)];exact hj) q1 q2
 | eO j i m f=>
  cases hj:O' j with
  | none=>
   have hlt:j<n:=by
    cases h with
    | pure h=>cases h
    | eO ho=>rw[hj]at ho;cases ho
    | CK _ hd=>exact hd
   have h1:x.oneCell'=true:=by
    cases h with
    | pure h=>cases h
    | eO ho=>rw[hj]at ho;cases ho
    | CK _ _ h1=>exact h1
   exact .CK (by rw[hon j hlt];exact hj) (hlive j hlt) h1
  | some p=>
   obtain⟨aa,cap,rfl,q1,q2,q3,q4⟩:=h.nH hj;exact .eO (by rw[hon j (kR j p hj)];exact hj) q1 q2 q3 q4 (h.Gb hj)
 | fn f cs=>cases hu
 | agg cs=>cases hu
 | kP cs=>cases hu
 | mref=>cases hu
 | _=>exact .pure (h.AZ rfl)
def fC.NQ (hlive:∀j,j<n->D2 (iG full j)) (kR:∀j p,O' j=some p->j<n) (hon:∀j,j<n->On (iG full j)=O' j) (hu:alh u=true) (h:fC w' I' O' (λ k=>k<n) u x):fC w' I' On D2 (Ab.NQ full u) x:=by
 cases u with
 | ptr j i off=>
  cases hj:O' j with
  | none=>
   have hlt:j<n:=by
    cases h with
    | pure h=>cases h
    | ptr ho=>rw[hj]at ho;cases ho
    | Et _ hd=>exact hd
   have h1:x.oneCell'=true:=by
    cases h with
    | pure h=>cases h
    | ptr ho=>rw[hj]at ho;cases ho
    | Et _ _ h1=>exact h1
   exact .Et (by rw[hon j hlt];exact hj) (hlive j hlt) h1
  | some p=>
   obtain⟨b,bo,sz,q1,q2,rfl⟩:=h.pF hj;exact .ptr (by rw[hon j (kR j p hj)];exact hj) q1 q2
 | eO j i m f=>
  cases hj:O' j with
  | none=>
   have hlt:j<n:=by
    cases h with
    | pure h=>cases h
    | eO ho=>rw[hj]at ho;cases ho
    | CK _ hd=>exact hd
   have h1:x.oneCell'=true:=by
    cases h with
    | pure h=>cases h
    | eO ho=>rw[hj]at ho;cases ho
    | CK _ _ h1=>exact h1
   exact .CK (by rw[hon j hlt];exact hj) (hlive j hlt) h1
  | some p=>
   obtain⟨aa,cap,rfl,q1,q2,q3,q4⟩:=h.nH hj;exact .eO (by rw[hon j (kR j p hj)];exact hj) q1 q2 q3 q4 (h.Gb hj)
 | fn f cs=>
  obtain⟨xs,rfl,hl,hr⟩:=h.NY;refine .fn (by rw[aft];exact hl) λ j hj=>?_;rw[aft]at hj;rw[alU];exact(hr j hj).ae6 hlive kR hon (aov hu j hj)
 | agg cs=>cases hu
 | kP cs=>cases hu
 | mref=>cases hu
 | _=>exact .pure (h.AZ rfl)
def fC.NR (hlive:∀j,j<n->D2 (iG full j)) (kR:∀j p,O' j=some p->j<n) (hon:∀j,j<n->On (iG full j)=O' j) (hu:alj u=true) (h:fC w' I' O' (λ k=>k<n) u x):fC w' I' On D2 (Ab.NR full u) x:=by
 cases u with
 | agg cs=>
  obtain⟨xs,rfl,hl,hr⟩:=h.xq;refine .agg (by rw[UD];exact hl) λ j hj=>?_;rw[UD]at hj;rw[afr];exact(hr j hj).NQ hlive kR hon (afs hu j hj)
 | kP cs=>cases hu
 | undef=>exact fC.NQ (u:=.undef) hlive kR hon hu h
 | bool b=>exact fC.NQ (u:=.bool b) hlive kR hon hu h
 | int k n'=>exact fC.NQ (u:=.int k n') hlive kR hon hu h
 | str s=>exact fC.NQ (u:=.str s) hlive kR hon hu h
 | sl es m f g=>exact fC.NQ (u:=.sl es m f g) hlive kR hon hu h
 | ro cs=>exact fC.NQ (u:=.ro cs) hlive kR hon hu h
 | ptr o' i off=>exact fC.NQ (u:=.ptr o' i off) hlive kR hon hu h
 | eO o' i m f=>exact fC.NQ (u:=.eO o' i m f) hlive kR hon hu h
 | fn f cs=>exact fC.NQ (u:=.fn f cs) hlive kR hon hu h
 | FT=>exact fC.NQ (u:=.FT) hlive kR hon hu h
 | mref=>cases hu
def fC.an7 (hlive:∀j,j<n->D2 (iG full j)) (kR:∀j p,O' j=some p->j<n) (hon:∀j,j<n->On (iG full j)=O' j) (hu:as4 u=true) (h:fC w' I' O' (λ k=>k<n) u x):fC w' I' On D2 (Ab.an7 full u) x:=by
 cases u with
 | kP cs=>
  obtain⟨xs,rfl,hl,hr⟩:=h.Kr;refine .kP (by rw[acY];exact hl) λ j hj=>?_;rw[acY]at hj;rw[aj1];exact(hr j hj).NR hlive kR hon (aj3 hu j hj)
 | agg cs=>exact fC.NR (u:=.agg cs) hlive kR hon hu h
 | undef=>exact fC.NR (u:=.undef) hlive kR hon hu h
 | bool b=>exact fC.NR (u:=.bool b) hlive kR hon hu h
 | int k n'=>exact fC.NR (u:=.int k n') hlive kR hon hu h
 | str s=>exact fC.NR (u:=.str s) hlive kR hon hu h
 | sl es m f g=>exact fC.NR (u:=.sl es m f g) hlive kR hon hu h
 | ro cs=>exact fC.NR (u:=.ro cs) hlive kR hon hu h
 | ptr o' i off=>exact fC.NR (u:=.ptr o' i off) hlive kR hon hu h
 | eO o' i m f=>exact fC.NR (u:=.eO o' i m f) hlive kR hon hu h
 | fn f cs=>exact fC.NR (u:=.fn f cs) hlive kR hon hu h
 | FT=>exact fC.NR (u:=.FT) hlive kR hon hu h
 | mref=>cases hu
def jm.ab0 (hlive:∀j,j<n->D2 (iG full j)) (kR:∀j p,O' j=some p->j<n) (hon:∀j,j<n->On (iG full j)=O' j) {ob:eD} {p:Own} (hu:alk ob=true) (hg:NM ob=false) (h:jm w' I' O' (λ k=>k<n) p ob):jm w' I' On D2 p (Ab.ab0 full ob):=by
 cases ob with
 | box cs=>
  obtain⟨q1,b,bo,sz,q2,q3,q4,q5⟩:=h;refine⟨q1,b,bo,sz,q2,q3,by rw[UD];exact q4,λ j hj=>?_⟩;rw[UD]at hj;rw[afr];exact(q5 j hj).NQ hlive kR hon (afs hu j hj)
 | row es m g=>exact h
 | map kd z f=>
  have hu:NM (.map kd z f)=true:=hu;rw[hg]at hu;cases hu
def aow (full:ahb) (x:eD):gz (ab0 full x)=(gz x).map (ab0 full):=by
 cases x with
 | box=>rfl
 | row=>rfl
 | map kd z f=>
  simp only[ab0,gz];cases NM (.map kd z f)<;>rfl
end back
set_option maxHeartbeats 1000000 in
theorem afu (hR:Rel cfg cx H D w I O) (hn:aah D dY) {f:FuncId} {args:aiA} {vals:Array Value} {sg0:ahb} (hrun:∀fn,P.funcs[f]? = some fn->fn.body.isNone=false->(fn.name == "runtime.NumGoroutine")=false->(execOp a.eval o).run P w=.ok (.enter f vals) w)
  (hvl:vals.size=args.length) (hva:∀j,j<args.length->fC w I O D (nth args j) (vals.getD j Go.undef)) (h:fZ (Spec P cfg) H (Zp dY f args sg0) v ups r):fU P cfg cx H D w I O dY o a v ups:=by
 unfold Zp at h;obtain⟨sg,r0,h0⟩:=adR _ _ _ _ _ h;obtain⟨hnd,h1⟩:=h0.dh;obtain⟨obs,r1,h2,hol,Yw⟩:=afn _ _ _ h1;have hlive:∀j,j<sg.length->∃x,H (iG sg j)=some x:=λ j hj=>let⟨x,_,hx⟩:=Yw j hj;⟨x,hx⟩
 obtain⟨ajQ,h3,ave,hinv⟩:=afp hR hlive obs _ _ h2;obtain⟨args',ids,r2,h4,hal,alV⟩:=Ob hR hlive args _ _ h3;obtain⟨hdj,h5⟩:=h4.dh;cases h5 with
 | @call _ _ _ _ res gy _ _ _ hspec h6=>
 obtain⟨atn,h7⟩:=h6.dh;obtain⟨hlen',h8⟩:=h7.dh;obtain⟨hpr,h9⟩:=h8.dh;obtain⟨rfl,rfl⟩:=h9.kS;have hlen':gy.length<=sg.length+stride:=Nat.le_of_ble_eq_true hlen';clear h h0 h1 h2 h3 h4 h6 h7 h8 h9;obtain⟨⟨fn,hf1,hf2,hf3⟩,hle,hcall⟩:=hspec;have ato:ajQ.length=sg.length:=ave.trans hol;have hRs:=hR.sub (ids:=ids) (obs:=ajQ) hnd hdj ato (λ j hj=>by
  obtain⟨x,q1,q2⟩:=Yw j hj;obtain⟨y,q3,q4⟩:=hinv j x q1;exact⟨x,y,q3,q2,q4.1,q4.2 _ (λ _ h=>.inl h)⟩)
 have atp:∀j,j<sg.length->D (iG sg j):=λ j hj=>by
  obtain⟨x,hx⟩:=hlive j hj;obtain⟨p,hp,_⟩:=hR.live hx;exact hR.used _ p hp
 generalize hnw:gy.length - sg.length=nw;have avf:sg.length+nw=gy.length:=by omega
 have azd:nw<=stride:=by omega
 have aqG:∀k,dY<=k->k<dY+nw->k ∉ sg:=λ k hk1 hk2 hm=>by
  obtain⟨j,h1,h2⟩:=aav sg k hm;exact hn k hk1 om (h2 ▸ atp j h1)
 have aze:∀k,dY<=k->k<dY+nw->O k=none:=λ k hk1 hk2=>by
  cases h:O k with
  | none=>rfl
  | some p=>exact absurd (hR.used k p h) (hn k hk1 om)
 have hfl:(sg++lq nw dY).length=gy.length:=by rw[List.length_append,ahC];exact avf
 have afv:∀j,j<sg.length->iG (sg++lq nw dY) j=iG sg j:=λ j hj=>ahE _ _ _ hj;have afw:∀j,sg.length<=j->j<gy.length->iG (sg++lq nw dY) j=dY+(j - sg.length):=λ j h1 h2=>by
  rw[ahF _ _ _ h1,ahD _ _ _ om]
 have avg:pz (sg++lq nw dY)=true:=ab7 _ λ i j hi hj e=>by
  rw[hfl]at hi hj;by_cases h1:i<sg.length
  ·by_cases h2:j<sg.length
   ·rw[afv i h1,afv j h2]at e;exact Kv sg hnd i j h1 h2 e
   rw[afv i h1,afw j om hj]at e;exact absurd (rR sg i h1) (by rw[e];exact aqG _ om om)
  by_cases h2:j<sg.length
  ·rw[afw i om hi,afv j h2]at e;exact absurd (rR sg j h2) (by rw[<- e];exact aqG _ om om)
  rw[afw i om hi,afw j om hj]at e;omega
 intro next Q hnx
 refine afq (hrun fn hf1 hf2 hf3) ((hcall w _ _ vals hRs om (λ j hj=>by rw[ato];exact alV j om _ (hva j om))).mono ?_);rintro e w' ⟨x,I',O',rfl,hR',hres⟩;refine⟨x,rfl,?_⟩;let On:OM:=λ k=>if dY<=k/\k<dY+nw then O' (sg.length+(k - dY))else match BO sg k 0 with
  | some j=>O' j
  | none=>if k∈ids then none else O k
 have hMc:∀b,(Nk w (λ b=>I b\/FQ O ids b) (qB O sg) ajQ.length).M b->∃j p bo sz,j<sg.length/\O (iG sg j)=some p/\p.pl=some (b,bo,sz):=by
  rintro b ⟨j,p,bo,sz,h1,h2⟩;unfold qB at h1;split at h1
  ·exact⟨j,p,bo,sz,by assumption,h1,h2⟩
  cases h1
 have aqH:∀j,j<sg.length->O' j=O (iG sg j)\/O' j=none:=λ j hj=>by
  rcases hR'.O0O j (show j<ajQ.length by omega)with h | h
  ·left;rw[h];show qB O sg j=_;unfold qB;rw[if_pos hj]
  exact .inr h
 have hidx:∀k,k∈sg->∃j,BO sg k 0=some j/\j<sg.length/\iG sg j=k:=λ k hk=>by
  cases h:BO sg k 0 with
  | none=>exact absurd hk (aj4 sg k 0 h)
  | some j=>
   obtain⟨_,h1,h2⟩:=IU sg k 0 j h;exact⟨j,rfl,by simpa using h1,by simpa using h2⟩
 have alW:∀k,k ∉ sg->BO sg k 0=none:=λ k hk=>by
  cases h:BO sg k 0 with
  | none=>rfl
  | some j=>
   obtain⟨_,h1,h2⟩:=IU sg k 0 j h;exact absurd (h2 ▸ rR sg _ h1) hk
 have afx:∀j,j<sg.length->On (iG sg j)=O' j:=λ j hj=>by
  have h1:¬ (dY<=iG sg j/\iG sg j<dY+nw):=λ h=>aqG _ h.1 h.2 (rR sg j hj);obtain⟨j2,h2,h3,h4⟩:=hidx _ (rR sg j hj);have:j2=j:=Kv sg hnd j2 j h3 hj h4;subst this;show(if _ then _ else _)=_;rw[if_neg h1,h2]
 have aqI:∀k,D k->On k=O k\/On k=none:=λ k hk=>by
  have h1:¬ (dY<=k/\k<dY+nw):=λ h=>hn k h.1 om hk;by_cases hs:k∈sg
  ·obtain⟨j,_,h3,h4⟩:=hidx k hs;have:=afx j h3;rw[h4]at this;rw[this];rcases aqH j h3 with h | h
   ·rw[h,h4];exact .inl rfl
   exact .inr h
  show(if _ then _ else _)=_\/(if _ then _ else _)=_;rw[if_neg h1,alW k hs];by_cases h2:k∈ids<;>simp[h2]
 have Kw:∀ {k p},¬ (dY<=k/\k<dY+nw)->On k=some p->O k=some p/\k ∉ ids:=λ {k p} h1 h=>by
  by_cases hs:k∈sg
  ·obtain⟨j,_,h3,h4⟩:=hidx k hs;have h5:=afx j h3;rw[h4,h]at h5;rcases aqH j h3 with h6 | h6
   ·rw[h6,h4]at h5;exact⟨h5.symm,λ hm=>SV ids sg hdj _ hm hs⟩
   rw[h6]at h5;cases h5
  have h':(if dY<=k/\k<dY+nw then O' (sg.length+(k - dY))else match BO sg k 0 with
   | some j=>O' j
   | none=>if k∈ids then none else O k)=some p:=h
  rw[if_neg h1,alW k hs]at h';simp only at h';by_cases h2:k∈ids
  ·simp[h2]at h'
  rw[if_neg h2]at h';exact⟨h',h2⟩
 have SX:∀ {k},(dY<=k/\k<dY+nw)->On k=O' (sg.length+(k - dY)):=λ {k} h=>by
  show(if _ then _ else _)=_;rw[if_pos h]
 have hon:∀j,j<gy.length->On (iG (sg++lq nw dY) j)=O' j:=λ j hj=>by
  by_cases h1:j<sg.length
  ·rw[afv j h1,afx j h1]
  rw[afw j om hj,SX ⟨by omega,by omega⟩];congr 1;omega
 have hD2:∀j,j<gy.length->Eu D dY (iG (sg++lq nw dY) j):=λ j hj=>by
  by_cases h1:j<sg.length
  ·rw[afv j h1];exact .inl (atp j h1)
  rw[afw j om hj];exact .inr ⟨by omega,by omega⟩
 have atq:∀j p,O' j=some p->j<gy.length:=λ j p h=>hR'.used j p h;have aqJ:∀b,I b->I' b:=λ b h=>hR'.Us b (.inl h);have hI':∀b,I' b->(I b\/FQ O ids b)\/w.heap.size<=b\/∃j p bo sz,j<sg.length/\O (iG sg j)=some p/\p.pl=some (b,bo,sz):=λ b h=>by
  rcases hR'.XU b h with h | h | h
  ·exact .inl h
  ·exact .inr (.inl h)
  exact .inr (.inr (hMc b h))
 have hfr:∀b,b<w.heap.size->(∀j p bo sz,j<sg.length->O (iG sg j)=some p->p.pl≠some (b,bo,sz))->w'.heap[b]? = w.heap[b]? := λ b hb hno=>
  hR'.frame b hb (λ hm=>by obtain⟨j,p,bo,sz,h1,h2,h3⟩:=hMc b hm;exact hno j p bo sz h1 h2 h3)
 have atr:∀b,I b->w'.heap[b]? = w.heap[b]? := λ b hb=>hfr b (hR.BP b hb) (λ j p bo sz h1 h2 h3=>hR.qz _ p b bo sz h2 h3 hb);have aqK:∀k p b bo sz,O k=some p->p.pl=some (b,bo,sz)->k ∉ sg->w'.heap[b]? = w.heap[b]? := λ k p b bo sz h1 h2 h3=>
  hfr b (hR.lt k p b bo sz h1 h2) (λ j p' qy sz' q1 q2 q3=>hR.inj k (iG sg j) p p' b bo sz b qy sz' h1 q2 h2 q3 (λ e=>h3 (e ▸ rR sg j q1)) rfl)
 have att:∀j p b bo sz,sg.length<=j->O' j=some p->p.pl=some (b,bo,sz)->w.heap.size<=b\/∃j' p' qy sz',j'<sg.length/\O' j'=none/\O (iG sg j')=some p'/\p'.pl=some (b,qy,sz'):=λ j p b bo sz h1 h2 h3=>by
  rcases hR'.new _ p b bo sz h2 h3 with h | h
  ·exact .inl h
  obtain⟨j',p',qy,sz',q1,q2,q3⟩:=hMc b h;rcases aqH j' q1 with e | e
  ·exact absurd rfl (hR'.inj _ j' p p' b bo sz b qy sz' h2 (by rw[e];exact q2) h3 q3 om)
  exact .inr ⟨j',p',qy,sz',q1,e,q2,q3⟩
 have hsep:∀j p b bo sz k p' b' qy sz',sg.length<=j->O' j=some p->p.pl=some (b,bo,sz)->¬ (dY<=k/\k<dY+nw)->On k=some p'->p'.pl=some (b',qy,sz')->b≠b':=λ j p b bo sz k p' b' qy sz' h1 h2 h3 h4 h5 h6 e=>by
  subst e;obtain⟨q1,q2⟩:=Kw h4 h5;rcases att j p b bo sz h1 h2 h3 with h | ⟨j',p2,bo2,sz2,e1,e2,e3,e4⟩
  ·have:=hR.lt k p' b qy sz' q1 h6;omega
  by_cases hk:k=iG sg j'
  ·rw[hk,afx j' e1,e2]at h5;cases h5
  exact hR.inj k (iG sg j') p' p2 b qy sz' b bo2 sz2 q1 e3 h6 e4 hk rfl
 have aqL:∀j,j<gy.length->ni H (Es (sg++lq nw dY) (Z5 (sg++lq nw dY) gy)++dead ids) (iG (sg++lq nw dY) j)=(FV gy j).map (ab0 (sg++lq nw dY)):=λ j hj=>by
  obtain⟨x,hx⟩:=alT gy j hj;unfold ni;rw[Oc,adS _ _ j (ab0 (sg++lq nw dY) x) avg (by rw[hfl];exact hj) (by rw[aj2,hx];rfl)];simp only;rw[aow,aou gy j x hx]
 have ahG:∀k,k ∉ sg->¬ (dY<=k/\k<dY+nw)->ni H (Es (sg++lq nw dY) (Z5 (sg++lq nw dY) gy)++dead ids) k=if k∈ids then none else H k:=λ k h1 h2=>by
  have hmiss:look (Es (sg++lq nw dY) (Z5 (sg++lq nw dY) gy)) k=none:=ab6 _ _ _ (λ j q1 q2 e=>by
   rw[hfl]at q1;by_cases hj:j<sg.length
   ·rw[afv j hj]at e;exact h1 (e ▸ rR sg j hj)
   rw[afw j om q1]at e;exact h2 ⟨by omega,by omega⟩)
  unfold ni;rw[Oc,hmiss,acV];by_cases h3:k∈ids<;>simp[h3]
 have ahH:∀k,k∈sg\/(dY<=k/\k<dY+nw)->∃j,j<gy.length/\iG (sg++lq nw dY) j=k:=λ k h=>by
  rcases h with h | h
  ·obtain⟨j,h1,h2⟩:=aav sg k h;exact⟨j,by omega,by rw[afv j h1];exact h2⟩
  exact⟨sg.length+(k - dY),by omega,by rw[afw _ om om];omega⟩
 have hRn:Rel cfg cx (ni H (Es (sg++lq nw dY) (Z5 (sg++lq nw dY) gy)++dead ids)) (Eu D dY) w' I' On:={
  dom:=λ k=>by
   by_cases hk:k∈sg\/(dY<=k/\k<dY+nw)
   ·obtain⟨j,h1,rfl⟩:=ahH k hk
    rw[aqL j h1,hon j h1,hR'.dom j]
    cases FV gy j<;>simp
   have h1:k ∉ sg:=λ h=>hk (.inl h)
   have h2:¬ (dY<=k/\k<dY+nw):=λ h=>hk (.inr h)
   rw[ahG k h1 h2]
   have:On k=if k∈ids then none else O k:=by show(if _ then _ else _)=_;rw[if_neg h2,alW k h1]
   rw[this]
   by_cases h3:k∈ids<;>simp[h3,hR.dom k]
  maps:=λ k kd z f p b bo sz h h' hp=>by
   by_cases hk:k∈sg\/(dY<=k/\k<dY+nw)
   ·obtain⟨j,h1,rfl⟩:=ahH k hk
    rw[aqL j h1]at h
    cases hx:FV gy j with
    | none=>rw[hx]at h;cases h
    | some x=>
     rw[hx]at h
     obtain⟨hx1,hx2⟩:=acR hx
     have:=acZ atn j x hx1
     cases x with
     | map=>rw[show alk _=NM _ from rfl,hx2]at this;cases this
     | box=>cases h
     | row=>cases h
   have h1:k ∉ sg:=λ h=>hk (.inl h)
   have h2:¬ (dY<=k/\k<dY+nw):=λ h=>hk (.inr h)
   obtain⟨q1,q2⟩:=Kw h2 h'
   rw[ahG k h1 h2,if_neg q2]at h
   exact hR.maps k kd z f p b bo sz h q1 hp
  used:=λ k p h=>by
   by_cases hk:dY<=k/\k<dY+nw
   ·exact .inr ⟨hk.1,by omega⟩
   exact .inl (hR.used k p (Kw hk h).1)
  objs:=λ k ob p h h'=>by
   by_cases hk:k∈sg\/(dY<=k/\k<dY+nw)
   ·obtain⟨j,h1,rfl⟩:=ahH k hk
    rw[aqL j h1]at h
    cases hx:FV gy j with
    | none=>rw[hx]at h;cases h
    | some x=>
     rw[hx]at h
     cases h
     rw[hon j h1]at h'
     obtain⟨hx1,hx2⟩:=acR hx
     exact(hR'.objs j x p hx h').ab0 hD2 atq hon (acZ atn j x hx1) hx2
   have h1:k ∉ sg:=λ h=>hk (.inl h)
   have h2:¬ (dY<=k/\k<dY+nw):=λ h=>hk (.inr h)
   obtain⟨q1,q2⟩:=Kw h2 h'
   rw[ahG k h1 h2,if_neg q2]at h
   exact(hR.objs k ob p h q1).mono aqJ atr aqI (λ _ h=>.inl h) hR.used (λ b bo sz hpl=>aqK k p b bo sz q1 hpl h1)
  inj:=λ k k' p p' b bo sz b' qy sz' h1 h2 h3 h4 h5=>by
   by_cases hk:dY<=k/\k<dY+nw
   ·rw[SX hk]at h1
    by_cases hk':dY<=k'/\k'<dY+nw
    ·rw[SX hk']at h2
     exact hR'.inj _ _ p p' b bo sz b' qy sz' h1 h2 h3 h4 om
    exact hsep _ p b bo sz k' p' b' qy sz' om h1 h3 hk' h2 h4
   by_cases hk':dY<=k'/\k'<dY+nw
   ·rw[SX hk']at h2
    exact(hsep _ p' b' qy sz' k p b bo sz om h2 h4 hk h1 h3).symm
   exact hR.inj k k' p p' b bo sz b' qy sz' (Kw hk h1).1 (Kw hk' h2).1 h3 h4 h5
  qz:=λ k p b bo sz h1 h2 h3=>by
   by_cases hk:dY<=k/\k<dY+nw
   ·rw[SX hk]at h1
    exact hR'.qz _ p b bo sz h1 h2 h3
   obtain⟨q1,q2⟩:=Kw hk h1
   by_cases hs:k∈sg
   ·obtain⟨j,h4,rfl⟩:=aav sg k hs
    exact hR'.qz j p b bo sz (by rw[<- afx j h4];exact h1) h2 h3
   rcases hI' b h3 with(h | ⟨k',p',qy,sz',e1,e2,e3⟩) | h | ⟨j,p',qy,sz',e1,e2,e3⟩
   ·exact hR.qz k p b bo sz q1 h2 h
   ·exact hR.inj k k' p p' b bo sz b qy sz' q1 e2 h2 e3 (λ e=>q2 (e ▸ e1)) rfl
   ·have:=hR.lt k p b bo sz q1 h2;omega
   exact hR.inj k _ p p' b bo sz b qy sz' q1 e2 h2 e3 (λ e=>hs (e ▸ rR sg j e1)) rfl
  lt:=λ k p b bo sz h1 h2=>by
   by_cases hk:dY<=k/\k<dY+nw
   ·rw[SX hk]at h1
    exact hR'.lt _ p b bo sz h1 h2
   exact Nat.lt_of_lt_of_le (hR.lt k p b bo sz (Kw hk h1).1 h2) hR'.size
  BP:=hR'.BP
  size:=Nat.le_trans hR.size hR'.size
  env:=hR.env.step hR'.env.same
  frame:=λ b h1 h2=>by
   rw[hfr b (Nat.lt_of_lt_of_le h1 hR.size) (λ j p bo sz q1 q2 q3=>by
    rcases hR.new _ p b bo sz q2 q3 with h | h
    ·omega
    exact h2 h)]
   exact hR.frame b h1 h2
  new:=λ k p b bo sz h1 h2=>by
   by_cases hk:dY<=k/\k<dY+nw
   ·rw[SX hk]at h1
    rcases att _ p b bo sz om h1 h2 with h | ⟨j',p2,bo2,sz2,e1,e2,e3,e4⟩
    ·exact .inl (Nat.le_trans hR.size h)
    exact hR.new _ p2 b bo2 sz2 e3 e4
   exact hR.new k p b bo sz (Kw hk h1).1 h2
  glob:=hR'.glob
  Us:=λ b h=>aqJ b (hR.Us b h)
  XU:=λ b h=>by
   rcases hI' b h with(h | ⟨k',p',qy,sz',e1,e2,e3⟩) | h | ⟨j,p',qy,sz',e1,e2,e3⟩
   ·exact hR.XU b h
   ·exact .inr (hR.new k' p' b qy sz' e2 e3)
   ·exact .inr (.inl (Nat.le_trans hR.size h))
   exact .inr (hR.new _ p' b qy sz' e2 e3)
  O0O:=λ k h=>by
   rcases aqI k (hR.Dm k h)with h1 | h1
   ·rw[h1];exact hR.O0O k h
   exact .inr h1
  Dm:=λ k h=>.inl (hR.Dm k h) }
 exact hnx x w' I' On hRn (λ u y hu=>hu.mono aqJ atr aqI (λ _ h=>.inl h) hR.used) (hres.an7 hD2 atq hon hpr)
end
end Go.Ab
namespace Go.Ab
section
variable {w:World} {I:Nat->Prop} {O:OM} {D:Nat->Prop}
def Ey:∀(l m:aiA),SN l m->l.length=m.length/\∀j,j<l.length->Le (nth l j) (nth m j):=by
 intro l;induction l with
 | nil=>intro m h;cases m with
  | nil=>exact⟨rfl,λ j hj=>by cases hj⟩
  | cons=>exact h.elim
 | cons u l ih=>intro m h;cases m with
  | nil=>exact h.elim
  | cons v m=>
   obtain⟨h1,h2⟩:=ih m h.2
   refine⟨by simp[h1],λ j hj=>?_⟩
   cases j with
   | zero=>exact h.1
   | succ j=>exact h2 j (by simpa using hj)
theorem SN.refl:∀(l:aiA),SN l l
 | []=>trivial
 | v::l=>⟨.refl v,SN.refl l⟩
def Le.Ez {cs cs':aiA} (h:SN cs cs'):Le (.agg cs) (.agg cs'):=.agg (Ey _ _ h).1 (Ey _ _ h).2
def Le.roL {cs cs':aiA} (h:SN cs cs'):Le (.ro cs) (.ro cs'):=.ro (Ey _ _ h).1 (Ey _ _ h).2
def ahI {u v:AV} (h:Le u v):(∀x,iH w I u x->iH w I v x)/\u.cells.length=v.cells.length/\∀j,j<u.cells.length->∀x,iH w I (nth u.cells j) x->iH w I (nth v.cells j) x:=by
 have one:∀ {u v:AV},u.cells=[u]->v.cells=[v]->(∀x,iH w I u x->iH w I v x)->(∀x,iH w I u x->iH w I v x)/\u.cells.length=v.cells.length/\∀j,j<u.cells.length->∀x,iH w I (nth u.cells j) x->iH w I (nth v.cells j) x:=by
  intro u v h1 h2 h3;rw[h1,h2];refine⟨h3,rfl,λ j hj x hx=>?_⟩;have:j=0:=by simpa using hj
  subst this;exact h3 x hx
 induction h with
 | refl v=>exact⟨λ _ h=>h,rfl,λ _ _ _ h=>h⟩
 | @sl es es' n n' f f' g g' hn he hf h ih=>
  subst hn;refine one rfl rfl λ x hx=>?_;cases hx with
  | sl b off vs hcap hfull ha hes hm h1 hr=>
   refine .sl b off vs hcap (λ e=>hfull (hf e)) ha (λ i hi=>?_) (λ i j hi hj=>?_) (λ i j hi hj=>?_) (λ i j hi hj=>?_)
   ·rw[<- (ih i hi).2.1,<- he om];exact hes i hi
   ·rw[<- he om]at hj ⊢;exact hm i j hi hj
   ·rw[<- he om]at hj;exact h1 i j hi hj
   rw[<- he om]at hj;exact(ih i hi).2.2 j (by rw[hes i hi];exact hj) _ (hr i j hi hj)
 | @ro cs cs' hl h ih=>
  refine one rfl rfl λ x hx=>?_;cases hx with
  | ro b off vs hI hm hr=>exact .ro b off vs hI (λ j hj=>hm j om) λ j hj=>(ih j om).1 _ (hr j om)
 | @agg cs cs' hl h ih=>
  refine⟨λ x hx=>?_,hl,λ j hj x hx=>(ih j hj).1 x hx⟩;cases hx with
  | agg h1 hr=>exact .agg om λ j hj=>(ih j om).1 _ (hr j om)
 | @kP cs cs' hl h ih=>
  refine one rfl rfl λ x hx=>?_;cases hx with
  | kP h1 hr=>exact .kP om λ j hj=>(ih j om).1 _ (hr j om)
 | @fn f cs cs' hl h ih=>
  refine one rfl rfl λ x hx=>?_;cases hx with
  | fn h1 hr=>exact .fn om λ j hj=>(ih j om).1 _ (hr j om)
def Le.atu {u v:AV} (h:Le u v) {x:Value} (hx:iH w I u x):iH w I v x:=(ahI h).1 x hx
def Le.rep {u v:AV} (h:Le u v):∀ {x:Value},fC w I O D u x->fC w I O D v x:=by
 induction h with
 | refl v=>exact λ h=>h
 | sl hn he hf h ih=>intro x hx;exact .pure ((Le.sl hn he hf h).atu hx.BQ)
 | ro hl h ih=>intro x hx;exact .pure ((Le.ro hl h).atu hx.aai)
 | agg hl h ih=>
  intro x hx;obtain⟨vs,rfl,h1,h2⟩:=hx.xq;exact .agg om λ j hj=>ih j om (h2 j om)
 | kP hl h ih=>
  intro x hx;obtain⟨vs,rfl,h1,h2⟩:=hx.Kr;exact .kP om λ j hj=>ih j om (h2 j om)
 | fn hl h ih=>
  intro x hx;obtain⟨vs,rfl,h1,h2⟩:=hx.NY;exact .fn om λ j hj=>ih j om (h2 j om)
def LeO.rep {p:Own} {x y:eD} (h:LeO x y) (hx:jm w I O D p x):jm w I O D p y:=by
 cases x with
 | map=>cases y<;>exact h.elim
 | box cs=>cases y with
  | row=>exact h.elim
  | map=>exact h.elim
  | box cs'=>
   obtain⟨h1,b,bo,sz,hp,ha,hl,hr⟩:=hx
   obtain⟨h2,h3⟩:=Ey _ _ h
   exact⟨h1,b,bo,sz,hp,ha,by omega,λ j hj=>(h3 j om).rep (hr j om)⟩
 | row es n g=>cases y with
  | box=>exact h.elim
  | map=>exact h.elim
  | row es' n' g'=>
   obtain⟨rfl,rfl,h⟩:=h
   obtain⟨h1,h2,h3,h4⟩:=hx
   refine⟨h1,h2,λ i hi=>by rw[<- (ahI (w:=w) (I:=I) (h i hi)).2.1];exact h3 i hi,?_⟩
   rcases h4 with h4 | ⟨b,bo,sz,hp,ha,hl,hr⟩
   ·exact .inl h4
   exact .inr ⟨b,bo,sz,hp,ha,hl,λ i j hi hj=>⟨(ahI (h i hi)).2.2 j (by rw[h3 i hi];exact hj) _ (hr i j hi hj).1,(hr i j hi hj).2⟩⟩
def aj5:∀(l m:ajN),aqu l m->l.length=m.length/\∀j x y,hof l j=some x->hof m j=some y->LeO x y:=by
 intro l;induction l with
 | nil=>intro m h;cases m with
  | nil=>exact⟨rfl,λ j x y h=>by cases h⟩
  | cons=>exact h.elim
 | cons u l ih=>intro m h;cases m with
  | nil=>exact h.elim
  | cons v m=>
   obtain⟨h1,h2⟩:=ih m h.2
   refine⟨by simp[h1],λ j x y hx hy=>?_⟩
   cases j with
   | zero=>cases hx;cases hy;exact h.1
   | succ j=>exact h2 j x y hx hy
def aiW:∀(l:ajN) (j:Nat),hof l j=none↔l.length<=j:=by
 intro l;induction l with
 | nil=>intro j;simp[hof]
 | cons x l ih=>intro j;cases j with
  | zero=>simp[hof]
  | succ j=>simp[hof,ih]
def Spec.le {P:Program} {cfg:y9} {f:FuncId} {args args':aiA} {obs gy:ajN} {r:AV} {ob2:ajN} (h:Ab.Spec P cfg f args' gy r ob2) (ha:SN args args') (ho:aqu obs gy):Ab.Spec P cfg f args obs r ob2:=by
 obtain⟨h1,h2,h3⟩:=h;obtain⟨a1,a2⟩:=Ey _ _ ha;obtain⟨o1,o2⟩:=aj5 _ _ ho;refine⟨h1,by omega,λ w I O vals hR hv hrep=>?_⟩;have hR':Rel cfg (Nk w I O gy.length) (hof gy) (λ o=>o<gy.length) w I O:=by
  rw[<- o1];exact { hR with
   dom:=λ o=>by rw[hR.dom o,aiW,aiW,o1]
   objs:=λ o y p hy hp=>by
    cases hx:hof obs o with
    | none=>rw[(hR.dom o).2 hx]at hp;cases hp
    | some x=>exact(o2 o x y hx hy).rep (hR.objs o x p hx hp)
   maps:=λ o kd z f p b bo sz hy hp hpl=>by
    cases hx:hof obs o with
    | none=>rw[(hR.dom o).2 hx]at hp;cases hp
    | some x=>
     have:=o2 o x _ hx hy
     cases x<;>exact this.elim }
 have:=h3 w I O vals hR' om (λ j hj=>by rw[<- o1];exact(a2 j om).rep (hrep j om));rw[<- o1]at this;exact this
end
end Go.Ab
namespace Go.Ab
open Go.MapKept
section
variable {P:Program} {cfg:y9} {cx:Ctx} {H:Nat->Option eD} {D:Nat->Prop} {w:World} {I:Nat->Prop} {O:OM} {Sp:oZ}
variable {dY:Nat} {o:Oper} {a:Act} {ρ:Operand->AV} {v:AV} {ups:lK} {r:ahb}
def aox {z:ZK} {es:Nat} {c:AV} (h:an9 z es c=true):Le c (aqo z es c):=by
 unfold an9 at h;split at h
 ·exact .refl _
 ·rename_i k k' n;have:k=k':=of_decide_eq_true h;subst this;exact .refl _
 ·exact .refl _
 ·rename_i es' n f g;split at h
  ·rename_i hb;have:=Nat.eq_of_beq_eq_true hb;subst this;exact .sl rfl (λ _=>rfl) nofun λ _ _=>.refl _
  have:=Nat.eq_of_beq_eq_true h;subst this;exact .sl rfl (λ hn=>absurd rfl hn) nofun λ _ hi=>absurd hi (Nat.not_lt_zero _)
 cases h
def aj6 {zs:ajY} {sz:Nat} {all:aiA}:∀(cs:aiA) (k:Nat),aoa zs sz all k cs=true->∀j,j<cs.length->an9 (alp zs ((k+j).mod sz)) (acP sz ((k+j).mod sz) 0 all) (nth cs j)=true:=by
 intro cs;induction cs with
 | nil=>intro k _ j hj;exact absurd hj (Nat.not_lt_zero _)
 | cons c cs ih=>
  intro k h j hj;unfold aoa at h;split at h
  ·rename_i hf;cases j with
   | zero=>exact hf
   | succ j=>
    have:=ih (k+1) h j (by simpa using hj);rw[show k+(j+1)=k+1+j by omega];exact this
  cases h
def alX (all:aiA) (b sz:Nat):∀(zs:ajY) (j0 j:Nat),j<zs.length->nth (ae8 all b sz j0 zs) j=aqo (alp zs j) (acP sz (j0+j) 0 all) (nth all (b+(j0+j))):=by
 intro zs;induction zs with
 | nil=>intro j0 j h;exact absurd h (Nat.not_lt_zero _)
 | cons z zs ih=>
  intro j0 j h;cases j with
  | zero=>rfl
  | succ j=>
   have:=ih (j0+1) j (by simpa using h);simp only[ae8,nth,alp];rw[this,show j0+1+j=j0+(j+1) by omega]
def X3 (all:aiA) (b sz:Nat):∀(zs:ajY) (j0:Nat),(ae8 all b sz j0 zs).length=zs.length:=by
 intro zs;induction zs with
 | nil=>intro _;rfl
 | cons z zs ih=>intro j0;simp only[ae8,List.length_cons,ih]
variable {t:TypeId}
theorem alY (hc:iI P cfg) (hR:Rel cfg cx H D w I O) {x ix:Operand} (ho:o.op=.index t x ix) (hx:fC w I O D (ρ x) (a.eval x)) (hix:fC w I O D (ρ ix) (a.eval ix))
  (h:fZ Sp H (iw cfg dY (.index t x ix) ρ) v ups r):fU P cfg cx H D w I O dY o a v ups:=by
 simp only[iw]at h;obtain⟨ti,ht,h1⟩:=h.mh;obtain⟨_,dd,_,_,hud,_,_,_,_,_,_,_,hm⟩:=(hc.ty t ti ht).ex;split at h1
 ·rename_i b k i e1 e2 e3;rw[e1]at hm;have hm:dd=.string:=hm;subst hm;rw[e2]at hx;rw[e3]at hix;have hxv:=hx.Dq;have afe:=hix.iZ;obtain⟨⟨hn0,hn1⟩,rfl,rfl⟩:=h1.iL;refine fU.eZ (x:=.int .u8 (iA b i.toNat)) hR ?_ (.pure (.int _ _));have hlt:i.toNat<b.size:=by omega
  have hb:b[i.toNat]? = some b[i.toNat]:=by simp[hlt]
  simp[execOp,ho,hxv,afe,Instr.index,asIntOf,cZ hud,hn0,iA,hb]
 ·rename_i n et cs k i e1 e2 e3;rw[e1]at hm;have hm:dd=.array n et:=hm;subst hm;rw[e2]at hx;rw[e3]at hix;obtain⟨vs,hxv,hl,hr⟩:=hx.xq;have afe:=hix.iZ;obtain⟨ei,he,h2⟩:=h1.mh;obtain⟨ie,de,hie,ati,hde,aoo⟩:=hc.agg he;unfold alq at h2;obtain⟨c0,h2⟩:=h2.dh;obtain⟨z0,z1⟩:=IQ c0;obtain⟨c1,h3⟩:=h2.dh;obtain⟨c2,h4⟩:=h3.dh;obtain⟨c3,h5⟩:=h4.dh;have c1:=Nat.eq_of_beq_eq_true c1;have c2:=Nat.eq_of_beq_eq_true c2;obtain⟨⟨hn0,hn1⟩,rfl,rfl⟩:=h5.iL;have hlt:i.toNat<n:=by omega
  have hle:i.toNat*ei.size+ei.size<=cs.length:=by
   rw[c1,<- Nat.succ_mul];exact Nat.mul_le_mul_right _ hlt
  have hcell:∀j,j<ei.size->fC w I O D (nth (ae8 cs (i.toNat*ei.size) ei.size 0 ei.zero) j) (vs.getD (i.toNat*ei.size+j) Go.undef):=by
   intro j hj;rw[alX _ _ _ _ _ _ om,Nat.zero_add];have hf:=aj6 cs 0 c3 (i.toNat*ei.size+j) om;have hmod:(0+(i.toNat*ei.size+j)).mod ei.size=j:=by
    show(0+(i.toNat*ei.size+j)) % ei.size=j;rw[Nat.zero_add,Nat.mul_comm,Nat.mul_add_mod];exact Nat.mod_eq_of_lt hj
   rw[hmod]at hf;exact(aox hf).rep (hr _ om)
  have hag:=Wv ati w;rw[hde]at hag;have hrun:∀u,(part et vs (i.toNat*ei.size)).run P w=.ok u w->(execOp a.eval o).run P w=.ok (.value u) w:=by
   intro u hu;rw[<- aoo]at hu;have hi':(0:Int)<=i/\i<n:=⟨hn0,hn1⟩;have hz:gP (w:=w) hie=gP (w:=w) hie:=rfl;simp only[execOp,ho,hxv,afe,Instr.index,asIntOf,Sem.run_bind,Sem.run_pure,Result.andThen_ok,cZ hud,hi',and_self,if_true,gP hie,hu]
  cases ha:ei.agg with
  | true=>
   rw[ha]at hag;have e1:(part et vs (i.toNat*ei.size)).run P w=.ok (.agg (vs.extract (i.toNat*ei.size) (i.toNat*ei.size+ei.size))) w:=by simp[part,Sem.run_bind,hag,gP hie,aoo]
   refine fU.eZ hR (hrun _ e1) (.agg ?_ λ j hj=>?_)
   ·rw[X3,c2];simp;omega
   rw[X3,c2]at hj;have h6:=hcell j hj;have h4:i.toNat*ei.size+j<vs.size:=by omega
   have h5:(vs.extract (i.toNat*ei.size) (i.toNat*ei.size+ei.size))[j]? = vs[i.toNat*ei.size+j]? := by
    rw[Array.getElem?_extract,if_pos om]
   simp only[Array.getD_eq_getD_getElem?, h5];simpa[h4]using h6
  | false=>
   rw[ha]at hag;have hs1:ei.size=1:=z1 ha;have h4:i.toNat*ei.size<vs.size:=by omega
   have e1:(part et vs (i.toNat*ei.size)).run P w=.ok (vs.getD (i.toNat*ei.size) Go.undef) w:=by simp[part,Sem.run_bind,hag,Array.getElem?_eq_getElem h4]
   exact fU.eZ hR (hrun _ e1) (hcell 0 om)
 exact(fZ.bC h1).elim
def aaw {k:RL->RL->Pg} (h:fZ Sp H (aln cfg t k) v ups r):∃ti kt et ki ei,look cfg.ty t=some ti/\ti.desc=.map kt et/\look cfg.ty kt=some ki/\look cfg.ty et=some ei/\ei.agg=false/\fZ Sp H (k ki ei) v ups r:=by
 unfold aln at h;split at h
 ·rename_i ti ht;split at h
  ·rename_i kt et hd;obtain⟨ki,hk,h1⟩:=h.mh;obtain⟨ei,he,h2⟩:=h1.mh;obtain⟨ha,h3⟩:=h2.dh;exact⟨ti,kt,et,ki,ei,ht,hd,hk,he,by simpa using ha,h3⟩
  exact(fZ.bC h).elim
 exact(fZ.bC h).elim
def ahJ (hR:Rel cfg cx H D w I O) (hn:¬ D dY) (ho:o.op=.makeMap t none) (h:fZ Sp H (iw cfg dY (.makeMap t none) ρ) v ups r):fU P cfg cx H D w I O dY o a v ups:=by
 simp only[iw]at h;obtain⟨ti,kt,et,ki,ei,ht,hd,hk,he,_,h1⟩:=aaw h;obtain⟨rfl,rfl⟩:=h1.kS;intro next Q hnx
 have hrun:(execOp a.eval o).run P w=.ok (.value (.map (some w.heap.size))) (w.alloc (.map #[] 0)):=by
  simp[execOp,ho,Instr.makeMap,newObj];rfl
 have hat:(w.alloc (.map #[] 0)).heap[w.heap.size]? = some (.map #[] 0):=by
  show(w.heap.push (.map #[] 0))[w.heap.size]? = _;simp
 refine uF hrun (hnx _ _ I (l9 O dY ⟨0,1,some (w.heap.size,0,0)⟩) (hR.apF hn _ _ _ 0 rfl ?_) (λ u y hu=>hu.push hR _ _ hn) (.mref (p:=⟨0,1,some (w.heap.size,0,0)⟩) (by simp[l9]) rfl));exact⟨rfl,_,_,_,#[],0,rfl,hat,⟨λ e he=>by simp at he,by simp,λ k n hk=>by cases hk⟩⟩
def ac0 {u:AV} {k:qR} {x:Value} (h:keyOf u=some k) (hx:fC w I O D u x):x=NV k:=by
 unfold keyOf at h;split at h
 ·cases h;exact hx.Dq
 ·cases h;exact hx.iZ
 cases h
def afy (hc:iI P cfg) {kt:TypeId} {ki:RL} (hk:look cfg.ty kt=some ki) {k:qR} (h:Km ki.desc k=true):∃d,P.underlying kt=some d/\∀k',Km ki.desc k'=true->IsKey d (NV k'):=by
 obtain⟨_,d,_,_,hu,_,_,_,_,_,_,_,hm⟩:=(hc.ty kt ki hk).ex;refine⟨d,hu,λ k' h'=>?_⟩;generalize ki.desc=dd at h h' hm;cases dd with
 | str=>
  have hm:d=.string:=hm;subst hm;cases k' with
  | s b=>trivial
  | i n=>cases h'
 | int kk=>
  have hm:d=.int kk:=hm;subst hm;cases k' with
  | s b=>cases h'
  | i n=>cases kk<;>first | (cases h';done) | rfl
 | _=>cases k<;>cases h
def alZ {z:ajY} (hz:adH z=true) (n:Int):iH w I (as5 z n) (Yu z n):=by
 match z,hz with
 | [.bool],_=>exact .bool _
 | [.int k],_=>exact .int _ _
end
end Go.Ab
namespace Go.Ab
open Go.MapKept
section
variable {P:Program} {cfg:y9} {cx:Ctx} {H:Nat->Option eD} {D:Nat->Prop} {w:World} {I:Nat->Prop} {O:OM} {Sp:oZ}
variable {dY:Nat} {o:Oper} {a:Act} {ρ:Operand->AV} {v:AV} {ups:lK} {r:ahb}
def al0 {k k':qR} (h:NV k=NV k'):k=k':=by
 cases k<;>cases k'<;>cases h<;>rfl
variable {z:ajY}
theorem afz {d:TypeDesc} {kd:TD} {f:qR->Option Int} {es:Array MapEntry} (hm:ahj kd z f es) {k:qR} (hkeys:∀k',Km kd k'=true->IsKey d (NV k')) (hkf:Km kd k=true):
  (Instr.findNow d (NV k) es.toList 0=some none/\f k=none/\∀e∈es.toList,e.key≠NV k)\/∃j e n,Instr.findNow d (NV k) es.toList 0=some (some (j,Yu z n))/\es[j]? = some e/\e.key=NV k/\f k=some n/\e.val=Yu z n:=by
 rcases findNow_spec (hkeys k hkf) es.toList 0 (λ e he=>by
  obtain⟨k',n',q1,q2,_⟩:=hm.keys e he;rw[q1];exact hkeys k' q2)with⟨g1,g2⟩ | ⟨j,e,g1,g2,g3⟩
 ·refine .inl ⟨g1,?_,g2⟩;cases hf:f k with
  | none=>rfl
  | some n=>
   obtain⟨e,he1,he2⟩:=hm.all k n hf;exact absurd he2 (g2 e he1)
 obtain⟨k',n',q1,q2,q3,q4⟩:=hm.keys e (List.mem_of_getElem? g2);rw[g3]at q1;have:=al0 q1;subst this;exact .inr ⟨j,e,n',by rw[g1,q4];simp,by simpa using g2,g3,q3,q4⟩
def afA (hz:adH z=true) {x:Value} (h1:x.cells=#[x]) (hm:NW (z.getD 0 .other) (x.cells.getD 0 Go.undef)):x=Yu z 0:=by
 rw[h1]at hm;match z,hz with
 | [.bool],_=>exact hm
 | [.int k],_=>exact hm
theorem aj7 (hc:iI P cfg) (hR:Rel cfg cx H D w I O) {t:TypeId} {x ix:Operand} (ho:o.op=.lookup t x ix false) (hx:fC w I O D (ρ x) (a.eval x)) (hix:fC w I O D (ρ ix) (a.eval ix))
  (h:fZ Sp H (iw cfg dY (.lookup t x ix false) ρ) v ups r):fU P cfg cx H D w I O dY o a v ups:=by
 simp only[iw]at h;obtain⟨ti,kt,et,ki,ei,ht,hd,hk,he,hag,h1⟩:=aaw h;split at h1
 ·rename_i ob k e1 e2;rw[e1]at hx;have hkv:=ac0 e2 hix;obtain⟨hkf,h2⟩:=h1.dh;obtain⟨obj,_,nW,h3⟩:=h2.oD;obtain⟨p,hp,hO⟩:=hR.live nW;cases obj with
  | box=>exact(fZ.bC h3).elim
  | row=>exact(fZ.bC h3).elim
  | map kd z f=>
   obtain⟨c1,h4⟩:=h3.dh;obtain⟨c2,h5⟩:=h4.dh;obtain⟨c3,h6⟩:=h5.dh;obtain⟨rfl,rfl⟩:=h6.fQ;have c1:=of_decide_eq_true c1;have c2:=of_decide_eq_true c2;obtain⟨hn,b,bo,sz,es,clock,hpl,hw,hm⟩:=hO;obtain⟨b',qy,sz',hpl',hxv⟩:=hx.aaj hp;rw[hpl]at hpl';cases hpl';obtain⟨_,dd,_,_,hud,_,_,_,_,_,_,_,hmt⟩:=(hc.ty t ti ht).ex;rw[hd]at hmt;have hmt:dd=.map kt et:=hmt;subst hmt;obtain⟨d,adT,hkeys⟩:=afy hc hk hkf;obtain⟨ie,_,ze,hie,_,hze,hse,_,_,hzc,hzl,hzm,_⟩:=(hc.ty et ei he).ex;have hz1:=(hc.ty et ei he).one hag ie ze hie hze;refine fU.eZ (x:=Yu z (Dp f k)) hR ?_ (.pure (alZ c3 _));rw[<- c1]at hkeys hkf;rcases afz hm hkeys hkf with⟨g1,g2,_⟩ | ⟨j,e,n,g1,g2,g3,g4,g5⟩
   ·have hz0:ze=Yu z (Dp f k):=by
     have e0:Dp f k=0:=by unfold Dp;rw[g2];rfl
     rw[e0];refine afA c3 hz1 ?_;have hsz:0<ei.size:=by
      have:ze.cells.size=1:=by rw[hz1];rfl
      omega
     have:=hzm 0 hsz;rwa [<- c2]at this
    simp[execOp,ho,hxv,hkv,Instr.lookup,cZ hud,MapKept.run_getObj_map hw,run_checkKey adT (hkeys k hkf),run_findKey adT g1,zeroValue,typeInfo,hie,hze,hz0]
   have e0:Dp f k=n:=by unfold Dp;rw[g4];rfl
   simp[execOp,ho,hxv,hkv,Instr.lookup,cZ hud,MapKept.run_getObj_map hw,run_checkKey adT (hkeys k hkf),run_findKey adT g1,e0]
 exact(fZ.bC h1).elim
def al1 {u:AV} {n:Int} {x:Value} (h:aqm z u=some n) (hx:fC w I O D u x):x=Yu z n:=by
 unfold aqm at h;split at h
 ·split at h
  ·rename_i b _;cases h;rw[hx.l8];cases b<;>rfl
  cases h
 ·split at h
  ·split at h
   ·rename_i k m k' _ e;cases h;have:=of_decide_eq_true e;subst this;rw[hx.iZ];rfl
   cases h
  cases h
 cases h
def ac1 (f:qR->Option Int) (k:qR) (n:Int):Wq f k n k=some n:=by simp[Wq]
def Zv (f:qR->Option Int) {k k':qR} (n:Int) (h:k'≠k):Wq f k n k'=f k':=by simp[Wq,h]
theorem adU (hc:iI P cfg) (hR:Rel cfg cx H D w I O) {t:TypeId} {x ix y:Operand} (ho:o.op=.mapUpdate t x ix y) (hx:fC w I O D (ρ x) (a.eval x)) (hix:fC w I O D (ρ ix) (a.eval ix)) (hy:fC w I O D (ρ y) (a.eval y))
  (h:fZ Sp H (iw cfg dY (.mapUpdate t x ix y) ρ) v ups r):fU P cfg cx H D w I O dY o a v ups:=by
 simp only[iw]at h;obtain⟨ti,kt,et,ki,ei,ht,hd,hk,he,hag,h1⟩:=aaw h;split at h1
 ·rename_i ob k n e1 e2 e3;rw[e1]at hx;have hkv:=ac0 e2 hix;have hyv:=al1 e3 hy;obtain⟨hkf,h2⟩:=h1.dh;obtain⟨obj,_,nW,h3⟩:=h2.oD;obtain⟨p,hp,hO⟩:=hR.live nW;cases obj with
  | box=>exact(fZ.bC h3).elim
  | row=>exact(fZ.bC h3).elim
  | map kd z f=>
   obtain⟨c1,h4⟩:=h3.dh;obtain⟨c2,h5⟩:=h4.dh;obtain⟨c3,h6⟩:=h5.dh;obtain⟨rfl,rfl⟩:=h6.kS;have c1:=of_decide_eq_true c1;have c2:=of_decide_eq_true c2;rw[<- c2]at hyv;have atv:=λ bb bo sz hpl=>hR.maps ob kd z f p bb bo sz nW hp hpl;obtain⟨hn,b,bo,sz,es,clock,hpl,hw,hm⟩:=hO;obtain⟨hb0,hbK⟩:=atv b bo sz hpl;obtain⟨b',qy,sz',hpl',hxv⟩:=hx.aaj hp;rw[hpl]at hpl';cases hpl';obtain⟨_,dd,_,_,hud,_,_,_,_,_,_,_,hmt⟩:=(hc.ty t ti ht).ex;rw[hd]at hmt;have hmt:dd=.map kt et:=hmt;subst hmt;obtain⟨d,adT,hkeys⟩:=afy hc hk hkf;rw[<- c1]at hkeys hkf;obtain⟨es',clock',hrun,hm'⟩:∃es' clock',(execOp a.eval o).run P w=.ok .skip { w with heap:=w.heap.setIfInBounds b (.map es' clock') }/\ahj kd z (Wq f k n) es':=by
    rcases afz hm hkeys hkf with⟨g1,g2,g3⟩ | ⟨j,e,m,g1,g2,g3,g4,g5⟩
    ·refine⟨es.push { key:=NV k,val:=Yu z n,born:=clock },clock+1,?_,?_⟩
     ·simp[execOp,ho,hxv,hkv,hyv,Instr.mapUpdate,cZ hud,MapKept.run_getObj_map hw,run_checkKey adT (hkeys k hkf),run_findKey adT g1,MapKept.run_setObj_map _ hw]
     refine⟨λ e he=>?_,?_,λ k' n' h'=>?_⟩
     ·simp only[Array.toList_push,List.mem_append,List.mem_singleton]at he;rcases he with he | rfl
      ·obtain⟨k',n',q1,q2,q3,q4⟩:=hm.keys e he;have hne:k'≠k:=λ e'=>g3 e he (by rw[q1,e']);exact⟨k',n',q1,q2,by rw[Zv f n hne];exact q3,q4⟩
      exact⟨k,n,rfl,hkf,ac1 f k n,rfl⟩
     ·simp only[Array.toList_push];refine List.pairwise_append.2 ⟨hm.uniq,by simp,λ x hx y hy=>?_⟩;simp only[List.mem_singleton]at hy;subst hy;exact g3 x hx
     simp only[Array.toList_push,List.mem_append,List.mem_singleton];by_cases hkk:k'=k
     ·subst hkk;exact⟨_,.inr rfl,rfl⟩
     rw[Zv f n hkk]at h';obtain⟨e,h1,h2⟩:=hm.all k' n' h';exact⟨e,.inl h1,h2⟩
    have hj:j<es.size:=by
     rcases Nat.lt_or_ge j es.size with h | h
     ·exact h
     rw[Array.getElem?_eq_none h]at g2;cases g2
    refine⟨es.modify j λ e=>{ e with key:=NV k,val:=Yu z n },clock,?_,?_⟩
    ·simp[execOp,ho,hxv,hkv,hyv,Instr.mapUpdate,cZ hud,MapKept.run_getObj_map hw,run_checkKey adT (hkeys k hkf),run_findKey adT g1,g2,g3,run_keyThatStays (hkeys k hkf),MapKept.run_setObj_map _ hw]
    have hkey:(es.modify j λ e=>{ e with key:=NV k,val:=Yu z n }).toList.map (·.key)=es.toList.map (·.key):=modify_keys j _ λ e' he'=>by rw[g2]at he';cases he';exact g3.symm
    have atw:∀i e',es[i]? = some e'->e'.key=NV k->i=j:=by
     intro i e' hi hk';have hpw:=List.pairwise_iff_getElem.1 hm.uniq;obtain⟨hi1,hi2⟩:=Array.getElem?_eq_some_iff.1 hi;obtain⟨hj1,hj2⟩:=Array.getElem?_eq_some_iff.1 g2;rcases Nat.lt_trichotomy i j with h | h | h
     ·exact absurd (show es.toList[i].key=es.toList[j].key by rw[Array.getElem_toList,Array.getElem_toList,hi2,hj2,hk',g3]) (hpw i j (by simpa using hi1) (by simpa using hj1) h)
     ·exact h
     exact absurd (show es.toList[j].key=es.toList[i].key by rw[Array.getElem_toList,Array.getElem_toList,hi2,hj2,hk',g3]) (hpw j i (by simpa using hj1) (by simpa using hi1) h)
    refine⟨λ e' he'=>?_,?_,λ k' n' h'=>?_⟩
    ·obtain⟨i,hi,hie⟩:=List.getElem_of_mem he';have hi2:(es.modify j λ e=>{ e with key:=NV k,val:=Yu z n })[i]? = some e':=by
      rw[<- Array.getElem?_toList,List.getElem?_eq_getElem hi,hie]
     rw[Array.getElem?_modify]at hi2;by_cases hij:j=i
     ·subst hij;rw[if_pos rfl,g2]at hi2;simp only[Option.map_some,Option.some.injEq]at hi2;subst hi2;exact⟨k,n,rfl,hkf,ac1 f k n,rfl⟩
     rw[if_neg hij]at hi2;obtain⟨k',n',q1,q2,q3,q4⟩:=hm.keys e' (Array.mem_toList_iff.2 (Array.mem_of_getElem? hi2));have hne:k'≠k:=λ e''=>hij (atw i e' hi2 (by rw[q1,e''])).symm;exact⟨k',n',q1,q2,by rw[Zv f n hne];exact q3,q4⟩
    ·have h1:(es.toList.map (·.key)).Pairwise (· ≠ ·):=List.pairwise_map.2 hm.uniq;rw[<- hkey]at h1;exact List.pairwise_map.1 h1
    have hmem:NV k'∈es.toList.map (·.key):=by
     by_cases hkk:k'=k
     ·subst hkk;exact List.mem_map.2 ⟨e,Array.mem_toList_iff.2 (Array.mem_of_getElem? g2),g3⟩
     rw[Zv f n hkk]at h';obtain⟨e',h1,h2⟩:=hm.all k' n' h';exact List.mem_map.2 ⟨e',h1,h2⟩
    rw[<- hkey]at hmem;obtain⟨e',h1,h2⟩:=List.mem_map.1 hmem;exact⟨e',h1,h2⟩
   obtain⟨hh1,hh2⟩:=MapKept.heap_set (o':=.map es' clock') hw;have hsz:({ w with heap:=w.heap.setIfInBounds b (.map es' clock') }:World).heap.size=w.heap.size:=by simp
   intro next Q hnx
   have avi:II cx { w with heap:=w.heap.setIfInBounds b (.map es' clock') }:=by
    refine⟨⟨hR.env.same.os,hR.env.same.tape,hR.env.same.output,λ i ob hi ho=>?_⟩,λ i ob hi=>?_⟩
    ·have hlt:i<cx.w0.heap.size:=by
      rcases Nat.lt_or_ge i cx.w0.heap.size with h | h
      ·exact h
      rw[Array.getElem?_eq_none h]at hi;cases hi
     show(w.heap.setIfInBounds b _)[i]? = _;rw[hh2 i om];exact hR.env.same.keep i ob hi ho
    have hne:i≠b:=λ e=>hbK ob (e ▸ hi);refine⟨?_,(hR.env.kept i ob hi).2⟩;show(w.heap.setIfInBounds b _)[i]? = _;rw[hh2 i hne];exact(hR.env.kept i ob hi).1
   have hR':=hR.alN avi (.map kd z (Wq f k n)) hp hpl (λ b' hb'=>hh2 b' hb') hsz ⟨hn,b,bo,sz,es',clock',hpl,hh1,hm'⟩ (λ _ _ _ _=>⟨hb0,hbK⟩);have WA:∀b',I b'->({ w with heap:=w.heap.setIfInBounds b (.map es' clock') }:World).heap[b']? = w.heap[b']? := λ b' h=>hh2 b' (λ e=>hR.qz ob p b bo sz hp hpl (e ▸ h));have hkeep:∀u y,fC w I O D u y->fC { w with heap:=w.heap.setIfInBounds b (.map es' clock') } I O D u y:=λ u y hu=>hu.mono (λ _ h=>h) WA (λ _ _=>.inl rfl) (λ _ h=>h) hR.used;exact Uz hrun (hnx Go.undef _ I O (hR'.yU dY) (λ u y hu=>(hkeep u y hu).yU hR' dY) (.pure (.undef _)))
 exact(fZ.bC h1).elim
end
end Go.Ab
namespace Go.Ab
section
variable {P:Program} {cfg:y9} {cx:Ctx} {H:Nat->Option eD} {D:Nat->Prop} {w:World} {I:Nat->Prop} {O:OM}
variable {dY:Nat} {o:Oper} {a:Act} {ρ:Operand->AV} {v:AV} {ups:lK} {r:ahb}
theorem ahK (hR:Rel cfg cx H D w I O) {f:FuncId} {args:aiA} {vals:Array Value} (hrun:∀fn,P.funcs[f]? = some fn->fn.body.isNone=false->(fn.name == "runtime.NumGoroutine")=false->(execOp a.eval o).run P w=.ok (.enter f vals) w)
  (hvl:vals.size=args.length) (hva:∀j,j<args.length->fC w I O D (nth args j) (vals.getD j Go.undef))
  (h:fZ (Spec P cfg) H (IG [] args λ args' _=>.call f args' [] λ r gy=>match gy with | []=>gT (alf r) (kD r) | _::_=>.fail) v ups r):fU P cfg cx H D w I O dY o a v ups:=by
 obtain⟨args',ids,r2,h4,hal,alV⟩:=Ob hR (sg:=[]) (λ j hj=>by cases hj) args _ _ h;cases h4 with
 | @call _ _ _ _ res gy _ _ _ hspec h6=>
 cases gy with
 | cons=>exact(fZ.bC h6).elim
 | nil=>
  obtain⟨hm,h7⟩:=h6.dh;obtain⟨rfl,rfl⟩:=h7.fQ;clear h h6 h7;obtain⟨⟨fn,hf1,hf2,hf3⟩,hle,hcall⟩:=hspec;have hRs:=hR.sub (sg:=[]) (ids:=ids) (obs:=[]) rfl (by
   have:∀l,NP l []=true:=by
    intro l
    induction l with
    | nil=>rfl
    | cons x l ih=>unfold NP;simp[Dn,ih]
   exact this ids) rfl (λ j hj=>by cases hj)
  intro next Q hnx
  refine afq (hrun fn hf1 hf2 hf3) ((hcall w _ _ vals hRs om (λ j hj=>alV j om _ (hva j om))).mono ?_);rintro e w' ⟨x,I',O',rfl,hR',hres⟩;refine⟨x,rfl,?_⟩;have hfr:∀b,b<w.heap.size->w'.heap[b]? = w.heap[b]? := λ b hb=>hR'.frame b hb (by
   rintro ⟨j,p,bo,sz,h1,h2⟩
   simp[qB]at h1)
  have Ux:=hR.yU dY;refine hnx x w' I O ?_ (λ u y hu=>hu.mono (λ _ h=>h) (λ b hb=>hfr b (hR.BP b hb)) (λ _ _=>.inl rfl) (λ _ h=>.inl h) hR.used) (.pure (ahB hres hm));rw[Ev];exact { Ux with
   objs:=λ o ob p h1 h2=>(Ux.objs o ob p h1 h2).mono (λ _ h=>h) (λ b hb=>hfr b (hR.BP b hb)) (λ _ _=>.inl rfl) (λ _ h=>h) Ux.used (λ b bo sz hpl=>hfr b (hR.lt o p b bo sz h2 hpl))
   lt:=λ o p b bo sz h1 h2=>Nat.lt_of_lt_of_le (hR.lt o p b bo sz h1 h2) hR'.size
   BP:=λ b h=>Nat.lt_of_lt_of_le (hR.BP b h) hR'.size
   size:=Nat.le_trans hR.size hR'.size
   env:=hR.env.step hR'.env.same
   frame:=λ b h1 h2=>by rw[hfr b (Nat.lt_of_lt_of_le h1 hR.size)];exact hR.frame b h1 h2
   glob:=λ g cs h=>(hR.glob g cs h).mono (λ _ h=>h) (λ b hb=>hfr b (hR.BP b hb)) }
def UE (l m:aiA) (j:Nat) (h:j<l.length):nth (l++m) j=nth l j:=by
 rw[vM,vM];simp[List.getElem?_append_left h]
def UF (l m:aiA) (j:Nat) (h:l.length<=j):nth (l++m) j=nth m (j - l.length):=by
 rw[vM,vM];simp[List.getElem?_append_right h]
def aoy (hR:Rel cfg cx H D w I O) (hn:aah D dY) {c:Call} {f:Operand} (ho:o.op=.call c) (hcl:c.callee=.value f) (hf:fC w I O D (ρ f) (a.eval f)) (hx:∀x∈c.args.toList,fC w I O D (ρ x) (a.eval x))
  (h:fZ (Spec P cfg) H (iw cfg dY (.call c) ρ) v ups r):fU P cfg cx H D w I O dY o a v ups:=by
 simp only[iw,hcl]at h;split at h
 ·rename_i g caps e;rw[e]at hf;obtain⟨cvs,hfv,avj,hcr⟩:=hf.NY;have hrun:∀fn,P.funcs[g]? = some fn->fn.body.isNone=false->(fn.name == "runtime.NumGoroutine")=false->(execOp a.eval o).run P w=.ok (.enter g (c.args.map a.eval++cvs)) w:=by
   intro fn h1 h2 h3;simp only[execOp,ho,hcl,resolve,hfv,Deferred.ofValue,Sem.run_bind,Sem.run_pure,Result.andThen_ok,invoke,callFunc,program,Sem.run,h1,h2,h3,Bool.false_eq_true,if_false];simp
  have hvl:(c.args.map a.eval++cvs).size=(c.args.toList.map ρ++caps).length:=by simp[avj]
  have hva:∀j,j<(c.args.toList.map ρ++caps).length->fC w I O D (nth (c.args.toList.map ρ++caps) j) ((c.args.map a.eval++cvs).getD j Go.undef):=by
   intro j hj;by_cases hlt:j<(c.args.toList.map ρ).length
   ·rw[UE _ _ _ hlt];have h1:=aiR (a:=a) hx j hlt;have hlt':j<(c.args.map a.eval).size:=by simpa using hlt
    have e1:(c.args.map a.eval++cvs).getD j Go.undef=(c.args.map a.eval).getD j Go.undef:=by
     simp only[Array.getD_eq_getD_getElem?, Array.getElem?_append_left hlt']
    rw[e1];simpa using h1
   have hge:(c.args.toList.map ρ).length<=j:=by omega
   rw[UF _ _ _ hge];have hge':(c.args.map a.eval).size<=j:=by simpa using hge
   have e1:(c.args.map a.eval++cvs).getD j Go.undef=cvs.getD (j - (c.args.map a.eval).size) Go.undef:=by
    simp only[Array.getD_eq_getD_getElem?, Array.getElem?_append_right hge']
   rw[e1];have e2:(c.args.map a.eval).size=(c.args.toList.map ρ).length:=by simp
   rw[e2];exact hcr _ (by simp at hj hge ⊢;omega)
  unfold alm at h;split at h
  ·split at h
   ·exact ahK hR hrun hvl hva h
   exact afu hR hn hrun hvl hva h
  exact afu hR hn hrun hvl hva h
 exact(fZ.bC h).elim
def apI (w:World) (I:Nat->Prop) (O:OM) (D:Nat->Prop) (a:Act) (ρ:Operand->AV) (op:Op):Prop:=
 match op with
 | .pick c x y=>fC w I O D (ρ c) (a.eval c)/\(∀b,ρ c=.bool b->b=true->fC w I O D (ρ x) (a.eval x))/\(∀b,ρ c=.bool b->b=false->fC w I O D (ρ y) (a.eval y))
 | op=>∀x∈op.operands.toList,fC w I O D (ρ x) (a.eval x)
def al2 (hc:iI P cfg) (hR:Rel cfg cx H D w I O) (hF:aah D dY) (hρ:∀c,ρ (.const c)=ofConst c) (hx:apI w I O D a ρ o.op) (h:fZ (Spec P cfg) H (iw cfg dY o.op ρ) v ups r):fU P cfg cx H D w I O dY o a v ups:=by
 have hn:=hF.one;generalize ho:o.op=op at hx h;cases op with
 | move x=>obtain⟨rfl,rfl⟩:=h.fQ;exact aoe hR ho (hx x (by simp[Op.operands]))
 | assign x=>obtain⟨rfl,rfl⟩:=h.fQ;exact ajS hR ho (hx x (by simp[Op.operands]))
 | pick c x y=>
  obtain⟨h1,h2,h3⟩:=hx;exact aof hR ho h1 h2 h3 (λ c e=>by subst e;exact⟨hρ c,rfl⟩) (λ c e=>by subst e;exact⟨hρ c,rfl⟩) h
 | alloc t=>exact alI hc hR hn ho h
 | box t x=>exact aqB hR hn ho (hx x (by simp[Op.operands])) h
 | build t parts=>
  refine alL hc hR ho (λ p hp=>hx p.2 ?_) h;simp only[Op.operands,List.mem_map];exact⟨p,hp,rfl⟩
 | buildSlice t len parts=>
  refine ab4 hc hR hn ho (λ p hp=>hx p.2 ?_) h;simp only[Op.operands,List.mem_map];exact⟨p,hp,rfl⟩
 | load t x=>exact aok hc hR ho (hx x (by simp[Op.operands])) h
 | store t x y=>exact alO hc hR ho (hx x (by simp[Op.operands])) (hx y (by simp[Op.operands])) h
 | nilCheck x=>exact afc hR ho (hx x (by simp[Op.operands])) h
 | binOp op t x y t'=>exact alB hc hR ho (hx x (by simp[Op.operands])) (hx y (by simp[Op.operands])) h
 | unOp op t x=>exact aoj hR ho (hx x (by simp[Op.operands])) h
 | convert s d x=>exact ahu hc hR ho (hx x (by simp[Op.operands])) h
 | makeFunc fn first cap=>exact afd hR ho (λ x hm=>hx x (by simp only[Op.operands,Array.toList_append,List.mem_append];exact .inr hm)) h
 | makeSlice t l c=>exact adP hc hR hn ho (hx l (by simp[Op.operands])) (hx c (by simp[Op.operands])) h
 | slice t x lo hi mx=>
  refine alG hc hR ho (hx x (by simp[Op.operands])) (λ y e=>hx y ?_) (λ y e=>hx y ?_) (λ y e=>hx y ?_) h
  ·subst e;simp[Op.operands]
  ·subst e;simp[Op.operands]
  subst e;simp[Op.operands]
 | fieldAddr s x f=>exact adN hc hR ho (hx x (by simp[Op.operands])) h
 | field s x f=>exact alC hc hR ho (hx x (by simp[Op.operands])) h
 | indexAddr t x ix=>exact adO hc hR ho (hx x (by simp[Op.operands])) (hx ix (by simp[Op.operands])) h
 | extract t i=>exact ahm hR ho (hx t (by simp[Op.operands])) h
 | index t x ix=>exact alY hc hR ho (hx x (by simp[Op.operands])) (hx ix (by simp[Op.operands])) h
 | makeMap t r=>
  cases r with
  | none=>exact ahJ hR hn ho h
  | some r=>exact(fZ.bC h).elim
 | lookup t x ix ok=>
  cases ok with
  | false=>exact aj7 hc hR ho (hx x (by simp[Op.operands])) (hx ix (by simp[Op.operands])) h
  | true=>exact(fZ.bC h).elim
 | mapUpdate t x ix y=>exact adU hc hR ho (hx x (by simp[Op.operands])) (hx ix (by simp[Op.operands])) (hx y (by simp[Op.operands])) h
 | call c=>
  have afB:∀x∈c.args.toList,fC w I O D (ρ x) (a.eval x):=λ x hm=>hx x (by simp only[Op.operands,Call.operands,Array.toList_append,List.mem_append];exact .inr hm);cases hcl:c.callee with
  | value f=>exact aoy hR hF ho hcl (hx f (by simp[Op.operands,Call.operands,hcl])) afB h
  | invoke x m=>simp only[iw,hcl]at h;exact(fZ.bC h).elim
  | builtin b=>
   cases b with
   | len=>exact aqx hc hR ho hcl afB h
   | cap=>exact aqw hc hR ho hcl afB h
   | append=>exact aj0 hc hR hn ho hcl afB h
   | copy=>exact aos hc hR ho hcl afB h
   | clear=>exact alS hc hR ho hcl afB h
   | min=>exact aqy hR ho hcl afB h
   | max=>exact aqz hR ho hcl afB h
   | _=>simp only[iw,hcl]at h;exact(fZ.bC h).elim
 | _=>exact(fZ.bC h).elim
end
end Go.Ab
namespace Go.Ab
structure TE where
 ex:Bool
 v:AV
 ups:lK
 AU:ahb
def mo {α:Type} (T:Nat->α) (d:Option Nat) (v:α):Nat->α:=match d with
 | some k=>λ t=>if t=k then v else T t
 | none=>T
def isB (b:Bool):AV->Bool
 | .bool c=>c==b
 | _=>false
def kT (all:List Oper) (T:Nat->AV) (V:Nat->Bool) (o:Oper):Bool:=match o.guard with
 | none=>true
 | some (j,b)=>match XT all j with
  | some d=>V d&&isB b (T d)
  | none=>false
def nD (all:List Oper) (T:Nat->AV) (o:Oper):Prop:=match o.guard with
 | none=>True
 | some (j,_)=>∃d c,XT all j=some d/\T d=.bool c
def Tr (cfg:y9) (Sp:oZ) (all:List Oper) (nx:Nat):List Oper->Nat->(Nat->AV)->(Nat->Bool)->(Nat->Option eD)->List TE->Prop
 | [],_,_,_,_,[]=>True
 | o::rest,i,T,V,H,e::tr=>nD all T o/\e.ex=kT all T V o/\(e.ex=true->fZ Sp H (iw cfg (nx+stride*i) o.op (Zq cfg T)) e.v e.ups e.AU)/\(e.ex=false->e.ups=[])/\
   Tr cfg Sp all nx rest (i+1) (mo T o.dst e.v) (mo V o.dst e.ex) (ni H e.ups) tr
 | _,_,_,_,_,_=>False
section
variable {P:Program} {cfg:y9} {cx:Ctx} {N:Nat} {ds:List Deferred}
structure A8 (N:Nat) (ds:List Deferred) (T:Nat->AV) (V:Nat->Bool) (a:Act) (w:World) (I:Nat->Prop) (O:OM) (D:Nat->Prop):Prop where
 defers:a.defers=ds
 size:a.tmps.size=N
 rep:∀t,V t=true->fC w I O D (T t) (a.tmps.getD t Go.undef)
 gone:∀t,V t=false->a.tmps.getD t Go.undef=Go.undef
def iD (tm:Array Value) (d t:Nat) (x:Value) (h:d<tm.size):(tm.setIfInBounds d x).getD t Go.undef=if t=d then x else tm.getD t Go.undef:=by
 by_cases e:t=d
 ·subst e;simp[h]
 rw[if_neg e];have:d≠t:=λ h=>e h.symm;simp[Array.getElem?_setIfInBounds_ne this]
variable {T:Nat->AV} {V:Nat->Bool} {a:Act} {w:World} {I:Nat->Prop} {O:OM} {D:Nat->Prop}
theorem A8.put {w':World} {I':Nat->Prop} {O':OM} {D':Nat->Prop} (h:A8 N ds T V a w I O D) (keep:∀u y,fC w I O D u y->fC w' I' O' D' u y) (d:Option Nat) (hd:∀k,d=some k->k<N)
  (v:AV) (x:Value) (ex:Bool) (hx:ex=true->fC w' I' O' D' v x) (hx':ex=false->x=Go.undef):A8 N ds (mo T d v) (mo V d ex) (a.put d x) w' I' O' D':=by
 cases d with
 | none=>exact⟨h.defers,h.size,λ t ht=>keep _ _ (h.rep t ht),h.gone⟩
 | some k=>
  have hk:=hd k rfl;have hs:=h.size;refine⟨h.defers,by simp[Act.put,hs],λ t ht=>?_,λ t ht=>?_⟩
  ·show fC _ _ _ _ (if t=k then v else T t) ((a.tmps.setIfInBounds k x).getD t Go.undef);rw[iD _ _ _ _ om];simp only[mo]at ht;by_cases e:t=k
   ·rw[if_pos e,if_pos e];exact hx (by simpa[e]using ht)
   rw[if_neg e,if_neg e];exact keep _ _ (h.rep t (by simpa[e]using ht))
  show(a.tmps.setIfInBounds k x).getD t Go.undef=_;rw[iD _ _ _ _ om];simp only[mo]at ht;by_cases e:t=k
  ·rw[if_pos e];exact hx' (by simpa[e]using ht)
  rw[if_neg e];exact h.gone t (by simpa[e]using ht)
variable {H:Nat->Option eD}
def wz (hR:Rel cfg cx H D w I O) (hT:A8 N ds T V a w I O D) (x:Operand) (hv:∀t,x=.tmp t->V t=true):fC w I O D (Zq cfg T x) (a.eval x):=by
 cases x with
 | tmp t=>exact hT.rep t (hv t rfl)
 | const c=>exact ahk c
 | global g=>
  simp only[Zq,Act.eval];cases hg:look cfg.glob g with
  | some cs=>exact .pure (hR.glob g cs hg)
  | none=>exact .pure (.undef _)
 | func f=>exact .pure (.fn (by simp) (λ j hj=>by simp at hj))
def Gf (T:Nat->AV) (V:Nat->Bool) (op:Op):Prop:=match op with
 | .pick c x y=>(∀t,c=.tmp t->V t=true)/\(adV T c=some true->∀t,x=.tmp t->V t=true)/\(adV T c=some false->∀t,y=.tmp t->V t=true)
 | op=>∀t,Operand.tmp t∈op.operands.toList->V t=true
 where adV (T:Nat->AV):Operand->Option Bool
 | .tmp t=>match T t with | .bool b=>some b | _=>none
 | .const (.bool b)=>some b
 | _=>none
def adW {k:Value} {b:Bool} (h:ofConst k=.bool b):k=.bool b:=by
 unfold ofConst at h;split at h<;>first | (cases h;rfl) | cases h
def al4 (hR:Rel cfg cx H D w I O) (hT:A8 N ds T V a w I O D) {op:Op} (h:Gf T V op):apI w I O D a (Zq cfg T) op:=by
 have hb:∀(c:Operand) (b:Bool),Zq cfg T c=.bool b->Gf.adV T c=some b:=by
  intro c b e;cases c with
  | tmp t=>simp only[Zq]at e;simp[Gf.adV,e]
  | const k=>simp only[Zq]at e;rw[adW e];rfl
  | global g=>simp only[Zq]at e;split at e<;>cases e
  | func f=>cases e
 cases op with
 | pick c x y=>
  obtain⟨h1,h2,h3⟩:=h;exact⟨wz hR hT c h1,λ b e e'=>wz hR hT x (h2 (by rw[hb c b e,e'])),λ b e e'=>wz hR hT y (h3 (by rw[hb c b e,e']))⟩
 | _=>exact λ x hx=>wz hR hT x (λ t e=>h t (e ▸ hx))
def aj8 (hc:iI P cfg) {H:Nat->Option eD} {D:Nat->Prop} {w:World} {I:Nat->Prop} {O:OM} {T:Nat->AV} {V:Nat->Bool} {a:Act} {dY:Nat} {o:Oper} {v:AV} {ups:lK} {AU:ahb}
  (hR:Rel cfg cx H D w I O) (hT:A8 N ds T V a w I O D) (hn:aah D dY) (hval:Gf T V o.op) (hd:∀k,o.dst=some k->k<N) (hev:fZ (Spec P cfg) H (iw cfg dY o.op (Zq cfg T)) v ups AU)
  {next:Act->World->Prop} {Q:Exit->Act->World->Prop} (hnx:∀a' w' I' O',Rel cfg cx (ni H ups) (Eu D dY) w' I' O'->A8 N ds (mo T o.dst v) (mo V o.dst true) a' w' I' O' (Eu D dY)->next a' w'):o.wp P a w next Q:=by
 refine al2 hc hR hn (λ _=>rfl) (al4 hR hT hval) hev next Q λ x w' I' O' hR' hk hv=>hnx _ w' I' O' hR' (hT.put hk o.dst hd v x true (λ _=>hv) (λ h=>by cases h))
def aax (l:List Oper) (j:Nat):acQ l j=l[j]? := by
 induction l generalizing j with
 | nil=>rfl
 | cons o l ih=>cases j with
  | zero=>rfl
  | succ j=>simpa[acQ]using ih j
def aj9 {ops:Array Oper} (hT:A8 N ds T V a w I O D) (o:Oper) (hg:nD ops.toList T o):Region.wanted o (yielded ops a.tmps)=kT ops.toList T V o:=by
 unfold Region.wanted kT;unfold nD at hg;cases hgu:o.guard with
 | none=>rfl
 | some g=>
  obtain⟨j,b⟩:=g;rw[hgu]at hg;simp only at hg;obtain⟨d,c,h1,h2⟩:=hg;simp only[h1,h2,isB];have hd:((ops[j]?).bind (·.dst))=some d:=by
   unfold XT at h1;rw[aax]at h1;have e:ops.toList[j]? = ops[j]? := by simp
   rw[e]at h1;cases ho:ops[j]? with
   | none=>rw[ho]at h1;cases h1
   | some o'=>rw[ho]at h1;simpa using h1
  have hy:yielded ops a.tmps j=if V d then some c else none:=by
   unfold yielded;rw[hd];simp only[Option.bind_some];cases hv:V d with
   | true=>
    have:=hT.rep d hv;rw[h2]at this;have hx:=this.l8;rcases Nat.lt_or_ge d a.tmps.size with hlt | hge
    ·simp[hlt]at hx;simp[hlt,hx]
    simp[Array.getElem?_eq_none hge,Go.undef]at hx
   | false=>
    have:=hT.gone d hv;rcases Nat.lt_or_ge d a.tmps.size with hlt | hge
    ·simp[hlt]at this;simp[hlt,this,Go.undef]
    simp[Array.getElem?_eq_none hge]
  rw[hy];cases V d<;>simp
def WH (t:Nat):∀(l:List Oper) (i k:Nat),k∈wo t l i↔∃o,i<=k/\l[k - i]? = some o/\o.dst=some t:=by
 intro l;induction l with
 | nil=>intro i k;simp[wo]
 | cons o l ih=>
  intro i k;have hd:aiP o.dst t=true↔o.dst=some t:=by
   unfold aiP;cases o.dst with
   | none=>simp
   | some x=>simp
  unfold wo;cases hb:aiP o.dst t with
  | true=>
   simp only[List.mem_cons,ih];constructor
   ·rintro (h | ⟨o',h1,h2,h3⟩)
    ·subst h;exact⟨o,Nat.le_refl _,by simp,hd.1 hb⟩
    refine⟨o',by omega,?_,h3⟩;have:k - i=(k - (i+1))+1:=by omega
    rw[this];simpa using h2
   rintro ⟨o',h1,h2,h3⟩;by_cases hk:k=i
   ·exact .inl hk
   refine .inr ⟨o',by omega,?_,h3⟩;have:k - i=(k - (i+1))+1:=by omega
   rw[this]at h2;simpa using h2
  | false=>
   simp only[ih];constructor
   ·rintro ⟨o',h1,h2,h3⟩;refine⟨o',by omega,?_,h3⟩;have:k - i=(k - (i+1))+1:=by omega
    rw[this];simpa using h2
   rintro ⟨o',h1,h2,h3⟩;by_cases hk:k=i
   ·subst hk;simp at h2;subst h2;rw[hd.2 h3]at hb;cases hb
   refine⟨o',by omega,?_,h3⟩;have:k - i=(k - (i+1))+1:=by omega
   rw[this]at h2;simpa using h2
def xA (all:List Oper) (t k:Nat):k∈writers all t↔∃o,all[k]? = some o/\o.dst=some t:=by
 unfold writers;rw[WH];simp
structure Known (all:List Oper) (k:Nat) (T:Nat->AV) (V:Nat->Bool) (ex:Nat->Bool) (val:Nat->AV):Prop where
 one:∀i t,i<k->writers all t=[i]->V t=ex i/\T t=val i
 free:∀t,(∀i,i<k->i∈writers all t->Z8 all i=none)->V t=true
 guard:∀i j b,i<k->Z8 all i=some (j,b)->j<i/\ex i=(ex j&&isB b (val j))
variable {all:List Oper}
theorem Known.chain {k:Nat} {ex:Nat->Bool} {val:Nat->AV} (hK:Known all k T V ex val):∀(f:Nat) (g:Option (Nat×Bool)),(∀j b,g=some (j,b)->j<k/\ex j=true/\isB b (val j)=true)->
  ∀j b,aob j b (Ab.chain all f g)=true->j<k/\ex j=true/\isB b (val j)=true:=by
 intro f;induction f with
 | zero=>intro g _ j b h;cases h
 | succ f ih=>
  intro g hg j b h;cases g with
  | none=>cases h
  | some g=>
   obtain⟨j',b'⟩:=g;obtain⟨h1,h2,h3⟩:=hg j' b' rfl;simp only[Ab.chain,aob]at h;split at h
   ·rename_i e1 e2;have e1:=Nat.eq_of_beq_eq_true e1;subst e1;have:b=b':=by cases b<;>cases b'<;>simp[eqB]at e2<;>rfl
    subst this;exact⟨h1,h2,h3⟩
   refine ih _ (λ j2 b2 e=>?_) j b h;obtain⟨q1,q2⟩:=hK.guard j' j2 b2 h1 e;rw[h2]at q2;simp at q2;exact⟨by omega,q2.1,q2.2⟩
def adX {l:ahb} (h:Zr all l=true):∀i∈l,Z8 all i=none:=by
 induction l with
 | nil=>intro i hi;cases hi
 | cons x l ih=>
  intro i hi;unfold Zr at h;cases hg:Z8 all x with
  | some g=>simp[hg]at h
  | none=>
   simp only[hg]at h;rcases List.mem_cons.1 hi with e | e
   ·subst e;exact hg
   exact ih h i e
def UG {k:Nat} {ex:Nat->Bool} {val:Nat->AV} (hK:Known all k T V ex val) {g:Option (Nat×Bool)} (hg:∀j b,g=some (j,b)->j<k/\ex j=true/\isB b (val j)=true) {t:Nat} (h:adJ all k g t=true):V t=true:=by
 unfold adJ at h;split at h
 ·rename_i i hw;cases hgi:Z8 all i with
  | none=>exact hK.free t λ i' _ hi'=>by rw[hw]at hi';simp at hi';subst hi';exact hgi
  | some q=>
   obtain⟨j,b⟩:=q;simp only[hgi]at h;cases hlt:Nat.blt i k with
   | false=>simp[hlt]at h
   | true=>
    simp only[hlt]at h;have hik:i<k:=by simpa using hlt
    obtain⟨h1,h2,h3⟩:=hK.chain 20 g hg j b h;rw[(hK.one i t hik hw).1,(hK.guard i j b hik hgi).2,h2,h3];rfl
 exact hK.free t λ i _ hi=>adX h i hi
end
end Go.Ab
namespace Go.Ab
section
variable {P:Program} {cfg:y9} {cx:Ctx} {N:Nat}
variable {all:List Oper}
def SY {N:Nat} :∀(l:List Oper) (i:Nat),tC N all l i=true->∀k o,l[k]? = some o->afa all (i+k) o=true/\∀d,o.dst=some d->d<N:=by
 intro l;induction l with
 | nil=>intro i _ k o h;simp at h
 | cons x l ih=>
  intro i h k o hk;unfold tC at h;split at h
  ·rename_i h1 h2;cases k with
   | zero=>
    simp at hk;subst hk;refine⟨h1,λ d hd=>?_⟩;rw[hd]at h2;simpa using h2
   | succ k=>
    have:=ih (i+1) h k o (by simpa using hk);rwa [Nat.add_assoc,Nat.add_comm 1 k]at this
  cases h
variable {T:Nat->AV} {V:Nat->Bool} {ex:Nat->Bool} {val:Nat->AV}
def X4 {k:Nat} (hK:Known all k T V ex val) {o:Oper} (hok:afa all k o=true):
  (kT all T V o=true->∀j b,o.guard=some (j,b)->j<k/\ex j=true/\isB b (val j)=true)/\(∀j b,o.guard=some (j,b)->j<k/\kT all T V o=(ex j&&isB b (val j))):=by
 have key:∀j b,o.guard=some (j,b)->j<k/\kT all T V o=(ex j&&isB b (val j)):=by
  intro j b hg;unfold afa at hok;rw[hg]at hok;simp only at hok;split at hok
  ·rename_i h1;split at h1
   ·rename_i hlt;split at h1
    ·rename_i d hd;split at h1
     ·rename_i j' hw;have hjk:j<k:=by simpa using hlt
      have e:=Nat.eq_of_beq_eq_true h1;subst e;refine⟨hjk,?_⟩;obtain⟨q1,q2⟩:=hK.one j' d hjk hw;unfold kT;rw[hg];simp only[hd];rw[q1,q2]
     cases h1
    cases h1
   cases h1
  cases hok
 refine⟨λ h j b hg=>?_,key⟩;obtain⟨h1,h2⟩:=key j b hg;rw[h]at h2;have:=h2.symm;simp at this;exact⟨h1,this.1,this.2⟩
def ahL {k:Nat} (hK:Known all k T V ex val) {o:Oper} (hok:afa all k o=true) (hg:kT all T V o=true):Gf T V o.op:=by
 have hgs:=(X4 hK hok).1 hg;have atx:∀x,Qz all k o.guard x=true->∀t,x=.tmp t->V t=true:=by
  intro x h t e;subst e;exact UG hK hgs h
 unfold afa at hok;split at hok
 ·split at hok
  ·rename_i c x y hop;rw[hop];split at hok
   ·rename_i hc hx;have hcv:=atx c hc;have arm:∀(pol:Bool) (z:Operand),aiQ all k o.guard c pol z=true->Gf.adV T c=some pol->∀t,z=.tmp t->V t=true:=by
     intro pol z hz hb t e;subst e;unfold aiQ at hz;simp only at hz;split at hz
     ·rename_i hr;exact UG hK hgs hr
     split at hz
     ·rename_i ct i hwt;split at hz
      ·rename_i j b jc hgi hwc hlt;split at hz
       ·rename_i e1 e2;have e1:=Nat.eq_of_beq_eq_true e1;subst e1;have hik:i<k:=by simpa using hlt
        have hjk:j<k:=by simpa using e2
        obtain⟨q1,q2⟩:=hK.one i t hik hwt;obtain⟨q3,q4⟩:=hK.one j ct hjk hwc;have q5:=(hK.guard i j b hik hgi).2;have hbp:b=pol:=by cases b<;>cases pol<;>simp[eqB]at hz<;>rfl
        subst hbp;have hT:T ct=.bool b:=by
         simp only[Gf.adV]at hb;split at hb
         ·rename_i b' hb';cases hb;exact hb'
         cases hb
        rw[q1,q5,<- q3,hcv ct rfl,<- q4,hT];simp[isB]
       cases hz
      cases hz
     cases hz
    exact⟨hcv,arm true x hx,arm false y hok⟩
   cases hok
  rename_i hnp;have hall:∀(l:List Operand),Ko all k o.guard l=true->∀x∈l,Qz all k o.guard x=true:=by
   intro l;induction l with
   | nil=>intro _ x hx;cases hx
   | cons y l ih=>
    intro h x hx;unfold Ko at h;split at h
    ·rename_i hy;rcases List.mem_cons.1 hx with e | e
     ·subst e;exact hy
     exact ih h x e
    cases h
  have main:∀t,Operand.tmp t∈o.op.operands.toList->V t=true:=λ t ht=>atx _ (hall _ hok _ ht) t rfl;unfold Gf;split
  ·rename_i c x y hop;exact absurd hop (hnp c x y)
  exact main
 cases hok
theorem Known.step {k:Nat} (hK:Known all k T V ex val) {o:Oper} (hk:all[k]? = some o) (hok:afa all k o=true) (e:TE) (he:e.ex=kT all T V o):
  Known all (k+1) (mo T o.dst e.v) (mo V o.dst e.ex) (λ i=>if i=k then e.ex else ex i) (λ i=>if i=k then e.v else val i):=by
 have hgl:Z8 all k=o.guard:=by unfold Z8;rw[aax,hk]
 have upd:∀ {α:Type} (F:Nat->α) (x:α) (t:Nat),mo F o.dst x t=if o.dst=some t then x else F t:=by
  intro α F x t;unfold mo;cases hd:o.dst with
  | none=>simp
  | some d=>
   by_cases h:t=d
   ·subst h;simp
   have:¬ d=t:=λ e=>h e.symm;simp[h,this]
 refine⟨λ i t hi hw=>?_,λ t ht=>?_,λ i j b hi hg=>?_⟩
 ·rw[upd,upd];by_cases hik:i=k
  ·subst hik;have:i∈writers all t:=by rw[hw];simp
   obtain⟨o',h1,h2⟩:=(xA all t i).1 this;rw[hk]at h1;cases h1;simp[h2]
  have hne:¬ o.dst=some t:=λ h=>by
   have:k∈writers all t:=(xA all t k).2 ⟨o,hk,h⟩;rw[hw]at this;simp at this;omega
  simp only[if_neg hne,if_neg hik];exact hK.one i t om hw
 ·rw[upd];by_cases hd:o.dst=some t
  ·rw[if_pos hd,he];have:=ht k om ((xA all t k).2 ⟨o,hk,hd⟩);rw[hgl]at this;unfold kT;rw[this]
  rw[if_neg hd];exact hK.free t λ i hi hw=>ht i om hw
 by_cases hik:i=k
 ·subst hik;rw[hgl]at hg;obtain⟨h1,h2⟩:=(X4 hK hok).2 j b hg;refine⟨h1,?_⟩;rw[if_pos rfl,if_neg om,if_neg om,he,h2]
 obtain⟨h1,h2⟩:=hK.guard i j b om hg;refine⟨h1,?_⟩;rw[if_neg hik,if_neg om,if_neg om,h2]
section sel
variable {α:Type} (wr:Nat->Nat->Bool) (g:Nat->Nat->α)
def sel (p:Nat->Bool):Nat->(Nat->α)->Nat->α
 | 0,F,t=>F t
 | m+1,F,t=>if p m&&wr m t then g m t else sel p m F t
def aay (p:Nat->Bool) (m:Nat) (F:Nat->α) (t:Nat):sel wr g p (m+1) F t=if p m&&wr m t then g m t else sel wr g p m F t:=rfl
def IV (p q:Nat->Bool) (F:Nat->α) (t:Nat):∀m,(∀k,k<m->wr k t=true->p k=q k)->sel wr g p m F t=sel wr g q m F t:=by
 intro m;induction m with
 | zero=>intro _;rfl
 | succ m ih=>
  intro h;unfold sel;rw[ih λ k hk=>h k om];cases hw:wr m t with
  | false=>simp
  | true=>rw[h m om hw]
def tF (F:Nat->α) (t k:Nat):∀m,k<=m->sel wr g (λ j=>decide (j<k)) m F t=sel wr g (λ _=>true) k F t:=by
 intro m;induction m with
 | zero=>
  intro h;have:k=0:=by omega
  subst this;rfl
 | succ m ih=>
  intro h;by_cases hk:k=m+1
  ·subst hk;exact IV wr g _ _ F t _ λ j hj _=>by simp[hj]
  rw[aay,ih om];simp[show ¬ m<k by omega]
def adY (p:Nat->Bool) (F:Nat->α) (t i:Nat) (hi:wr i t=true->∀k,i<k->p k=true->wr k t=false):∀m,i<m->sel wr g (λ j=>p j||decide (j=i)) m F t=if wr i t then g i t else sel wr g p m F t:=by
 intro m;induction m with
 | zero=>intro h;omega
 | succ m ih=>
  intro h;by_cases him:i=m
  ·subst him;unfold sel;have e:sel wr g (λ j=>p j||decide (j=i)) i F t=sel wr g p i F t:=IV wr g _ _ F t _ λ j hj _=>by simp[show ¬ j=i by omega]
   rw[e];cases hw:wr i t with
   | true=>simp
   | false=>simp
  have:=ih om;unfold sel;rw[this];cases hw:wr i t with
  | true=>
   have hne:¬ m=i:=λ e=>him e.symm;simp only[hne,decide_false,Bool.or_false,if_true];cases hp:p m with
   | false=>simp
   | true=>simp[hi hw m om hp]
  | false=>
   have hne:¬ m=i:=λ e=>him e.symm;simp[hne]
end sel
end
end Go.Ab
namespace Go.Ab
section
variable {P:Program} {cfg:y9} {cx:Ctx} {N:Nat} {ds:List Deferred}
def wrT (all:List Oper) (k t:Nat):Bool:=match all[k]? with
 | some o=>decide (o.dst=some t)
 | none=>false
def wrH (ent:Nat->TE) (k o:Nat):Bool:=(look (ent k).ups o).isSome
def gH (ent:Nat->TE) (k o:Nat):Option eD:=match look (ent k).ups o with
 | some x=>x
 | none=>none
def IW (all:List Oper) (ent:Nat->TE) (p:Nat->Bool) (m:Nat) (T0:Nat->AV):Nat->AV:=sel (wrT all) (λ k _=>(ent k).v) p m T0
def Rb (all:List Oper) (ent:Nat->TE) (p:Nat->Bool) (m:Nat):Nat->Bool:=sel (wrT all) (λ k _=>(ent k).ex) p m (λ _=>true)
def Um (ent:Nat->TE) (p:Nat->Bool) (m:Nat) (H0:Nat->Option eD):Nat->Option eD:=sel (wrH ent) (gH ent) p m H0
def yes:Nat->Bool:=λ _=>true
def TrI (cfg:y9) (Sp:oZ) (all:List Oper) (nx:Nat) (T0:Nat->AV) (H0:Nat->Option eD) (ent:Nat->TE):Prop:=
 ∀k o,all[k]? = some o->nD all (IW all ent yes k T0) o/\(ent k).ex=kT all (IW all ent yes k T0) (Rb all ent yes k) o/\
  ((ent k).ex=true->fZ Sp (Um ent yes k H0) (iw cfg (nx+stride*k) o.op (Zq cfg (IW all ent yes k T0))) (ent k).v (ent k).ups (ent k).AU)/\((ent k).ex=false->(ent k).ups=[])
variable {all:List Oper}
def QD {α:Type} {o:Oper} {k:Nat} (hk:all[k]? = some o) (g:Nat->Nat->α) (p:Nat->Bool) (hp:p k=true) (F:Nat->α) (v:α) (hg:∀t,g k t=v):mo (sel (wrT all) g p k F) o.dst v=sel (wrT all) g p (k+1) F:=by
 funext t;have hw:wrT all k t=decide (o.dst=some t):=by unfold wrT;rw[hk]
 rw[aay,hp,hg,hw];cases hd:o.dst with
 | none=>simp[mo]
 | some d=>
  by_cases h:t=d
  ·subst h;simp[mo]
  have:¬ d=t:=λ e=>h e.symm;simp[mo,h,this]
variable {ent:Nat->TE}
def afC {k:Nat} (p:Nat->Bool) (hp:p k=true) (H:Nat->Option eD):ni (sel (wrH ent) (gH ent) p k H) (ent k).ups=sel (wrH ent) (gH ent) p (k+1) H:=by
 funext o;have hw:wrH ent k o=(look (ent k).ups o).isSome:=rfl;have hg:gH ent k o=match look (ent k).ups o with | some x=>x | none=>none:=rfl
 rw[aay,hp,hw,hg];unfold ni;cases look (ent k).ups o<;>simp
theorem TrI.aoz {Sp:oZ} {nx:Nat} {T0:Nat->AV} {H0:Nat->Option eD} :∀(rest:List Oper) (i:Nat) (tr:List TE),(∀j,rest[j]? = all[i+j]?)->(∀j e,tr[j]? = some e->ent (i+j)=e)->
  Tr cfg Sp all nx rest i (IW all ent yes i T0) (Rb all ent yes i) (Um ent yes i H0) tr->∀k o,i<=k->all[k]? = some o->nD all (IW all ent yes k T0) o/\(ent k).ex=kT all (IW all ent yes k T0) (Rb all ent yes k) o/\
  ((ent k).ex=true->fZ Sp (Um ent yes k H0) (iw cfg (nx+stride*k) o.op (Zq cfg (IW all ent yes k T0))) (ent k).v (ent k).ups (ent k).AU)/\((ent k).ex=false->(ent k).ups=[]):=by
 intro rest;induction rest with
 | nil=>
  intro i tr hr _ _ k o hik hk;have:=hr (k - i);rw[show i+(k - i)=k by omega,hk]at this;simp at this
 | cons x rest ih=>
  intro i tr hr he h k o hik hk;cases tr with
  | nil=>exact h.elim
  | cons e tr=>
   obtain⟨h1,h2,h3,h4,h5⟩:=h;have hx:all[i]? = some x:=by simpa using(hr 0).symm
   have he0:ent i=e:=by simpa using he 0 e rfl
   by_cases hki:k=i
   ·subst hki;rw[hx]at hk;cases hk;subst he0;exact⟨h1,h2,h3,h4⟩
   subst he0;have e1:mo (IW all ent yes i T0) x.dst (ent i).v=IW all ent yes (i+1) T0:=QD hx _ yes rfl T0 _ λ _=>rfl;have e2:mo (Rb all ent yes i) x.dst (ent i).ex=Rb all ent yes (i+1):=QD hx _ yes rfl _ _ λ _=>rfl;have e3:ni (Um ent yes i H0) (ent i).ups=Um ent yes (i+1) H0:=afC yes rfl H0;rw[e1,e2,e3]at h5;refine ih (i+1) tr (λ j=>?_) (λ j e' hj=>?_) h5 k o om hk
   ·have:=hr (j+1);rw[show i+(j+1)=i+1+j by omega]at this;simpa using this
   have:=he (j+1) e' (by simpa using hj);rwa [show i+(j+1)=i+1+j by omega]at this
def TrI.known {Sp:oZ} {nx:Nat} {T0:Nat->AV} {H0:Nat->Option eD} (h:TrI cfg Sp all nx T0 H0 ent) {N:Nat} (hok:tC N all all 0=true):∀k,k<=all.length->Known all k (IW all ent yes k T0) (Rb all ent yes k) (λ i=>(ent i).ex) (λ i=>(ent i).v):=by
 intro k;induction k with
 | zero=>exact λ _=>⟨λ i t hi=>by omega,λ t _=>rfl,λ i j b hi=>by omega⟩
 | succ k ih=>
  intro hk;have hlt:k<all.length:=by omega
  have hx:all[k]? = some all[k]:=List.getElem?_eq_getElem hlt;obtain⟨h1,h2,_,_⟩:=h k _ hx;have hop:=(SY all 0 hok k _ hx).1;rw[Nat.zero_add]at hop;have:=(ih om).step hx hop (ent k) h2;have e1:mo (IW all ent yes k T0) (all[k]).dst (ent k).v=IW all ent yes (k+1) T0:=QD hx _ yes rfl T0 _ λ _=>rfl;have e2:mo (Rb all ent yes k) (all[k]).dst (ent k).ex=Rb all ent yes (k+1):=QD hx _ yes rfl _ _ λ _=>rfl;rw[e1,e2]at this;have e4:(λ i=>if i=k then(ent k).ex else(ent i).ex)=λ i=>(ent i).ex:=by
   funext i;by_cases hi:i=k<;>simp[hi]
  have e5:(λ i=>if i=k then(ent k).v else(ent i).v)=λ i=>(ent i).v:=by
   funext i;by_cases hi:i=k<;>simp[hi]
  rw[e4,e5]at this;exact this
def Dat (nx m:Nat) (p:Nat->Bool):Nat->Prop:=λ o=>o<nx\/∃k,k<m/\p k=true/\nx+stride*k<=o/\o<nx+stride*k+stride
variable {H:Nat->Option eD}
def Rel.IX {D D':Nat->Prop} {w:World} {I:Nat->Prop} {O:OM} (h:∀o,D o->D' o) (hR:Rel cfg cx H D w I O):Rel cfg cx H D' w I O:=
 { hR with
  used:=λ o p hp=>h o (hR.used o p hp)
  objs:=λ o ob p h1 h2=>(hR.objs o ob p h1 h2).mono (λ _ h=>h) (λ _ _=>rfl) (λ _ _=>.inl rfl) h hR.used (λ _ _ _ _=>rfl)
  Dm:=λ o ho=>h o (hR.Dm o ho) }
def A8.IX {D D':Nat->Prop} {w:World} {I:Nat->Prop} {O:OM} {T:Nat->AV} {V:Nat->Bool} {a:Act} (h:∀o,D o->D' o) (hR:Rel cfg cx H D w I O) (hT:A8 N ds T V a w I O D):A8 N ds T V a w I O D':=
 ⟨hT.defers,hT.size,λ t ht=>(hT.rep t ht).mono (λ _ h=>h) (λ _ _=>rfl) (λ _ _=>.inl rfl) h hR.used,hT.gone⟩
def afD {T T':Nat->AV} {V V':Nat->Bool} {op:Op} (h:∀t,Operand.tmp t∈op.operands.toList->T' t=T t/\V' t=V t) (hv:Gf T V op):Gf T' V' op:=by
 cases op with
 | pick c x y=>
  obtain⟨h1,h2,h3⟩:=hv;have hc:Gf.adV T' c=Gf.adV T c:=by
   cases c with
   | tmp t=>simp only[Gf.adV];rw[(h t (by simp[Op.operands])).1]
   | const k=>cases k<;>rfl
   | _=>rfl
  refine⟨λ t e=>?_,λ hb t e=>?_,λ hb t e=>?_⟩
  ·rw[(h t (by subst e;simp[Op.operands])).2];exact h1 t e
  ·rw[(h t (by subst e;simp[Op.operands])).2];rw[hc]at hb;exact h2 hb t e
  rw[(h t (by subst e;simp[Op.operands])).2];rw[hc]at hb;exact h3 hb t e
 | _=>exact λ t ht=>by rw[(h t ht).2];exact hv t ht
def fZ.aqM {Sp:oZ} {H':Nat->Option eD} {pg:Pg} {v:AV} {ups:lK} {r:ahb} (h:fZ Sp H pg v ups r):(∀o,o∈r->H' o=H o)->fZ Sp H' pg v ups r:=by
 induction h with
 | ret v ups=>exact λ _=>.ret v ups
 | need hp _ ih=>exact λ hr=>.need hp (ih hr)
 | rd ho _ ih=>exact λ hr=>.rd ((hr _ (by simp)).trans ho) (ih λ o ho=>hr o (List.mem_cons_of_mem _ ho))
 | call hs _ ih=>exact λ hr=>.call hs (ih hr)
def ahM {dY:Nat} {op:Op} {ρ ρ':Operand->AV} (h:∀x∈op.operands.toList,ρ' x=ρ x):iw cfg dY op ρ'=iw cfg dY op ρ:=by
 have pairs:∀ps:List (Nat×Operand),(∀p∈ps,ρ' p.2=ρ p.2)->(ps.map λ p=>(p.1,ρ' p.2))=ps.map λ p=>(p.1,ρ p.2):=λ ps hp=>List.map_congr_left λ p hm=>by rw[hp p hm]
 cases op with
 | move x=>simp only[iw];rw[h x (by simp[Op.operands])]
 | assign x=>simp only[iw];rw[h x (by simp[Op.operands])]
 | pick c x y=>simp only[iw];rw[h x (by simp[Op.operands]),h y (by simp[Op.operands]),h c (by simp[Op.operands])]
 | box t x=>simp only[iw];rw[h x (by simp[Op.operands])]
 | build t parts=>simp only[iw];rw[pairs parts.toList λ p hp=>h p.2 (by simp only[Op.operands,List.mem_map];exact⟨p,hp,rfl⟩)]
 | buildSlice t len parts=>simp only[iw];rw[pairs parts.toList λ p hp=>h p.2 (by simp only[Op.operands,List.mem_map];exact⟨p,hp,rfl⟩)]
 | load t x=>simp only[iw];rw[h x (by simp[Op.operands])]
 | store t x y=>simp only[iw];rw[h x (by simp[Op.operands]),h y (by simp[Op.operands])]
 | nilCheck x=>simp only[iw];rw[h x (by simp[Op.operands])]
 | binOp op t x y t'=>simp only[iw];rw[h x (by simp[Op.operands]),h y (by simp[Op.operands])]
 | unOp op t x=>simp only[iw];rw[h x (by simp[Op.operands])]
 | convert s d x=>simp only[iw];rw[h x (by simp[Op.operands])]
 | makeFunc fn first cap=>
  simp only[iw];have:cap.toList.map ρ'=cap.toList.map ρ:=List.map_congr_left λ x hx=>h x (by simp only[Op.operands,Array.toList_append,List.mem_append];exact .inr hx);rw[this]
 | makeSlice t l c=>simp only[iw];rw[h l (by simp[Op.operands]),h c (by simp[Op.operands])]
 | slice t x lo hi mx=>
  have h1:lo.map ρ'=lo.map ρ:=by
   cases lo with
   | none=>rfl
   | some y=>simp only[Option.map_some];rw[h y (by simp[Op.operands])]
  have h2:hi.map ρ'=hi.map ρ:=by
   cases hi with
   | none=>rfl
   | some y=>simp only[Option.map_some];rw[h y (by simp[Op.operands])]
  have h3:∀k,ajM ρ' hi mx k=ajM ρ hi mx k:=λ k=>by
   unfold ajM;cases mx with
   | none=>rfl
   | some m=>cases hi with
    | none=>rfl
    | some y=>
     simp only
     rw[h y (by simp[Op.operands]),h m (by simp[Op.operands])]
  have h4:mx.map ρ'=mx.map ρ:=by
   cases mx with
   | none=>rfl
   | some y=>simp only[Option.map_some];rw[h y (by simp[Op.operands])]
  simp only[iw];rw[h x (by simp[Op.operands]),h1,h2,h4];simp only[h3]
 | fieldAddr s x f=>simp only[iw];rw[h x (by simp[Op.operands])]
 | field s x f=>simp only[iw];rw[h x (by simp[Op.operands])]
 | indexAddr t x ix=>simp only[iw];rw[h x (by simp[Op.operands]),h ix (by simp[Op.operands])]
 | extract t i=>simp only[iw];rw[h t (by simp[Op.operands])]
 | index t x ix=>simp only[iw];rw[h x (by simp[Op.operands]),h ix (by simp[Op.operands])]
 | makeMap t r=>cases r<;>rfl
 | lookup t x ix ok=>
  cases ok with
  | false=>simp only[iw];rw[h x (by simp[Op.operands]),h ix (by simp[Op.operands])]
  | true=>rfl
 | mapUpdate t x ix y=>simp only[iw];rw[h x (by simp[Op.operands]),h ix (by simp[Op.operands]),h y (by simp[Op.operands])]
 | call c=>
  have h1:c.args.toList.map ρ'=c.args.toList.map ρ:=List.map_congr_left λ x hx=>h x (by simp only[Op.operands,Call.operands,Array.toList_append,List.mem_append];exact .inr hx);simp only[iw];rw[h1];cases hc:c.callee with
  | value f=>simp only;rw[h f (by simp[Op.operands,Call.operands,hc])]
  | builtin b=>cases b<;>rfl
  | invoke x m=>rfl
 | _=>rfl
end
end Go.Ab
namespace Go.Ab
section
variable {P:Program} {cfg:y9} {cx:Ctx} {N:Nat} {ds:List Deferred}
def FW (r:Option Nat):Fence:={ Fence.wide with round:=r }
variable {r:Option Nat}
def S9 {n:Nat} {f:FuncId} {args:Array Value} {w:World} {R:Ending->World->Prop} (h:Calls P f args w R):CallsIn (FW r) n P f args w R:=(callsIn_wide (n:=n)).2 h
def akb {n:Nat} {row:String} {args:Array Value} {w:World} {R:Value->World->Prop} (h:Rows P row args w R):RowsIn (FW r) n P row args w R:=by
 intro c cs _;obtain⟨v,w',h1,h2⟩:=h c cs;exact⟨v,w',h1,stepsIn_wide.2 h2⟩
def adZ {n:Nat} {o:Oper} {a:Act} {w:World} {K:Act->World->Prop} {Q:Exit->Act->World->Prop} (ho:∀c,o.op≠.defer c) (h:o.wp P a w K Q):o.wpIn (FW r) n P a w K Q:=by
 refine⟨λ _ _=>trivial,?_⟩;rw[Oper.semAt_eq _ _ _ ho];unfold Oper.wp at h;generalize (execOp a.eval o).run P w=res at h;cases res with
 | ok x w'=>
  cases x with
  | value v=>exact h
  | skip=>exact h
  | defer d=>exact h
  | enter f args=>exact⟨(λ h=>by cases h),S9 h⟩
  | row s args=>exact⟨(λ h=>by cases h),akb h⟩
  | _=>exact h.elim
 | halt x w'=>
  cases x with
  | panic v=>exact h
  | _=>exact h.elim
theorem afE (hc:iI P cfg) {r:Option Nat} {n0:Nat} {ops:Array Oper} {nx:Nat} {T0:Nat->AV} {H0:Nat->Option eD} {ent:Nat->TE} (htr:TrI cfg (Spec P cfg) ops.toList nx T0 H0 ent) (hok:tC N ops.toList ops.toList 0=true)
  {p:Nat->Bool} {i:Nat} {o:Oper} (hi:ops[i]? = some o) (hpi:p i=false)
  (hT:∀t,t∈looks ops.toList o->IW ops.toList ent p ops.size T0 t=IW ops.toList ent yes i T0 t/\Rb ops.toList ent p ops.size t=Rb ops.toList ent yes i t)
  (hH:(ent i).ex=true->∀b,b∈(ent i).AU->Um ent p ops.size H0 b=Um ent yes i H0 b)
  (hTa:∀t,wrT ops.toList i t=true->∀k,i<k->p k=true->wrT ops.toList k t=false) (hHa:∀b,wrH ent i b=true->∀k,i<k->p k=true->wrH ent k b=false)
  {a:Act} {w:World} {I:Nat->Prop} {O:OM} (hR:Rel cfg cx (Um ent p ops.size H0) (Dat nx ops.size p) w I O) (hTR:A8 N ds (IW ops.toList ent p ops.size T0) (Rb ops.toList ent p ops.size) a w I O (Dat nx ops.size p))
  {K:Act->World->Prop} {Q:Exit->Act->World->Prop}
  (hK:∀a' w' I' O',Rel cfg cx (Um ent (λ j=>p j||decide (j=i)) ops.size H0) (Dat nx ops.size (λ j=>p j||decide (j=i))) w' I' O'->
    A8 N ds (IW ops.toList ent (λ j=>p j||decide (j=i)) ops.size T0) (Rb ops.toList ent (λ j=>p j||decide (j=i)) ops.size) a' w' I' O' (Dat nx ops.size (λ j=>p j||decide (j=i)))->K a' w'):
  wpOpIn (FW r) n0 P ops Q i K a w:=by
 have hlt:i<ops.size:=(Array.getElem?_eq_some_iff.1 hi).1;have hil:ops.toList[i]? = some o:=by simpa using hi
 obtain⟨h1,h2,h3,h4⟩:=htr i o hil;obtain⟨hop,hdN⟩:=SY ops.toList 0 hok i o hil;rw[Nat.zero_add]at hop;have hKn:=htr.known hok i (by simp;omega);have hTT:∀t,wrT ops.toList i t=decide (o.dst=some t):=λ t=>by unfold wrT;rw[hil]
 have e1:IW ops.toList ent (λ j=>p j||decide (j=i)) ops.size T0=mo (IW ops.toList ent p ops.size T0) o.dst (ent i).v:=by
  funext t;unfold IW;rw[adY _ _ p T0 t i (hTa t) ops.size hlt,hTT];cases hd:o.dst with
  | none=>simp[mo]
  | some d=>
   by_cases h:t=d
   ·subst h;simp[mo]
   have:¬ d=t:=λ e=>h e.symm;simp[mo,h,this]
 have e2:Rb ops.toList ent (λ j=>p j||decide (j=i)) ops.size=mo (Rb ops.toList ent p ops.size) o.dst (ent i).ex:=by
  funext t;unfold Rb;rw[adY _ _ p _ t i (hTa t) ops.size hlt,hTT];cases hd:o.dst with
  | none=>simp[mo]
  | some d=>
   by_cases h:t=d
   ·subst h;simp[mo]
   have:¬ d=t:=λ e=>h e.symm;simp[mo,h,this]
 have e3:Um ent (λ j=>p j||decide (j=i)) ops.size H0=ni (Um ent p ops.size H0) (ent i).ups:=by
  funext b;unfold Um;rw[adY _ _ p H0 b i (hHa b) ops.size hlt];have hw:wrH ent i b=(look (ent i).ups b).isSome:=rfl;have hg:gH ent i b=match look (ent i).ups b with | some x=>x | none=>none:=rfl
  rw[hw,hg];unfold ni;cases look (ent i).ups b<;>simp
 have hD:∀b,Eu (Dat nx ops.size p) (nx+stride*i) b->Dat nx ops.size (λ j=>p j||decide (j=i)) b:=by
  rintro b ((h | ⟨k,q1,q2,q3⟩) | h)
  ·exact .inl h
  ·exact .inr ⟨k,q1,by simp[q2],q3⟩
  exact .inr ⟨i,hlt,by simp,h⟩
 have hnD:aah (Dat nx ops.size p) (nx+stride*i):=by
  rintro b hb1 hb2 (h | ⟨k,q1,q2,q3,q4⟩)
  ·omega
  have:k=i:=by
   rcases Nat.lt_trichotomy k i with e | e | e
   ·have:=Nat.mul_le_mul_left stride (show k+1<=i from e);rw[Nat.mul_add,Nat.mul_one]at this;omega
   ·exact e
   have:=Nat.mul_le_mul_left stride (show i+1<=k from e);rw[Nat.mul_add,Nat.mul_one]at this;omega
  subst this;rw[hpi]at q2;cases q2
 have aty:nD ops.toList (IW ops.toList ent p ops.size T0) o:=by
  unfold nD at h1 ⊢;cases hg:o.guard with
  | none=>trivial
  | some g=>
   obtain⟨j,b⟩:=g;rw[hg]at h1;obtain⟨d,c,q1,q2⟩:=h1;refine⟨d,c,q1,?_⟩;rw[(hT d (by unfold looks;rw[hg];simp[q1])).1];exact q2
 have avk:kT ops.toList (IW ops.toList ent p ops.size T0) (Rb ops.toList ent p ops.size) o=(ent i).ex:=by
  rw[h2];unfold kT;cases hg:o.guard with
  | none=>rfl
  | some g=>
   obtain⟨j,b⟩:=g;simp only;cases hd:XT ops.toList j with
   | none=>rfl
   | some d=>
    simp only;obtain⟨q1,q2⟩:=hT d (by unfold looks;rw[hg];simp[hd]);rw[q1,q2]
 unfold wpOpIn;rw[hi];simp only;rw[aj9 hTR o aty,avk];cases hex:(ent i).ex with
 | true=>
  rw[if_pos rfl];have hnd:∀c,o.op≠.defer c:=λ c hc=>by
   have:=h3 hex;rw[hc]at this;exact(fZ.bC this).elim
  refine adZ hnd ?_;have atz:∀t,Operand.tmp t∈o.op.operands.toList->t∈looks ops.toList o:=λ t ht=>by
   unfold looks;rw[List.mem_append];exact .inl (List.mem_filterMap.2 ⟨.tmp t,ht,rfl⟩)
  have hval:Gf (IW ops.toList ent p ops.size T0) (Rb ops.toList ent p ops.size) o.op:=
   afD (λ t ht=>hT t (atz t ht)) (ahL hKn hop (by rw[<- h2];exact hex))
  have hev:fZ (Spec P cfg) (Um ent p ops.size H0) (iw cfg (nx+stride*i) o.op (Zq cfg (IW ops.toList ent p ops.size T0))) (ent i).v (ent i).ups (ent i).AU:=by
   have atA:iw cfg (nx+stride*i) o.op (Zq cfg (IW ops.toList ent p ops.size T0))=iw cfg (nx+stride*i) o.op (Zq cfg (IW ops.toList ent yes i T0)):=ahM λ x hx=>by
    cases x with
    | tmp t=>exact(hT t (atz t hx)).1
    | _=>rfl
   rw[atA];exact(h3 hex).aqM (hH hex)
  refine aj8 hc hR hTR hnD hval hdN hev λ a' w' I' O' hR' hT'=>hK a' w' I' O' ?_ ?_
  ·rw[e3];exact hR'.IX hD
  rw[e1,e2,hex];exact hT'.IX hD hR'
 | false=>
  rw[if_neg (by simp)];have hu:=h4 hex;have hR2:Rel cfg cx (Um ent (λ j=>p j||decide (j=i)) ops.size H0) (Dat nx ops.size (λ j=>p j||decide (j=i))) w I O:=by
   rw[e3,hu,Ev];exact hR.IX λ b h=>hD b (.inl h)
  refine⟨λ _ _=>trivial,hK _ w I O hR2 ?_⟩;rw[e1,e2,hex];refine A8.put (hTR.IX (λ b h=>hD b (.inl h)) hR) (λ _ _ h=>h) o.dst hdN _ _ false (λ h=>by cases h) (λ _=>rfl)
theorem afF (hc:iI P cfg) {r:Option Nat} {n0:Nat} {ops:Array Oper} {id nx:Nat} {T0:Nat->AV} {H0:Nat->Option eD} {ent:Nat->TE} (htr:TrI cfg (Spec P cfg) ops.toList nx T0 H0 ent) (hok:tC N ops.toList ops.toList 0=true)
  {a:Act} {w:World} {I:Nat->Prop} {O:OM} (hR:Rel cfg cx H0 (λ o=>o<nx) w I O) (hTR:A8 N ds T0 (λ _=>true) a w I O (λ o=>o<nx)) {Q:Exit->Act->World->Prop}
  (hQ:∀a' w' I' O',Rel cfg cx (Um ent yes ops.size H0) (λ o=>o<nx+stride*ops.size) w' I' O'->A8 N ds (IW ops.toList ent yes ops.size T0) (Rb ops.toList ent yes ops.size) a' w' I' O' (λ o=>o<nx+stride*ops.size)->Q .normal a' w'):
  (Code.region id ops false).wpIn (FW r) n0 P Q a w:=by
 refine wpIn_region ?_;have key:∀(n k:Nat),k+n=ops.size->∀(a:Act) (w:World) (I:Nat->Prop) (O:OM),Rel cfg cx (Um ent (λ j=>decide (j<k)) ops.size H0) (Dat nx ops.size (λ j=>decide (j<k))) w I O->
   A8 N ds (IW ops.toList ent (λ j=>decide (j<k)) ops.size T0) (Rb ops.toList ent (λ j=>decide (j<k)) ops.size) a w I O (Dat nx ops.size (λ j=>decide (j<k)))->wpOpsIn (FW r) n0 P ops Q (List.range' k n) a w:=by
  intro n
  induction n with
  | zero=>
   intro k hk a w I O hR hT
   have hkn:k=ops.size:=by omega
   subst hkn
   have e1:Um ent (λ j=>decide (j<ops.size)) ops.size H0=Um ent yes ops.size H0:=funext λ t=>tF _ _ _ t _ _ (Nat.le_refl _)
   have e2:IW ops.toList ent (λ j=>decide (j<ops.size)) ops.size T0=IW ops.toList ent yes ops.size T0:=funext λ t=>tF _ _ _ t _ _ (Nat.le_refl _)
   have e3:Rb ops.toList ent (λ j=>decide (j<ops.size)) ops.size=Rb ops.toList ent yes ops.size:=funext λ t=>tF _ _ _ t _ _ (Nat.le_refl _)
   rw[e1]at hR
   rw[e2,e3]at hT
   have hD:∀o,Dat nx ops.size (λ j=>decide (j<ops.size)) o->o<nx+stride*ops.size:=by
    rintro o (h | ⟨k,q1,_,q3,q4⟩)
    ·omega
    have:=Nat.mul_le_mul_left stride (show k+1<=ops.size from q1)
    rw[Nat.mul_add,Nat.mul_one]at this
    omega
   exact hQ a w I O (hR.IX hD) (hT.IX hD hR)
  | succ n ih=>
   intro k hk a w I O hR hT
   have hlt:k<ops.size:=by omega
   rw[List.range'_succ,wpOpsIn_cons]
   have hp:(λ j=>decide (j<k)||decide (j=k))=λ j=>decide (j<k+1):=by
    funext j
    by_cases h1:j<k
    ·simp[h1,show j<k+1 by omega]
    by_cases h2:j=k
    ·simp[h2]
    simp[h1,h2,show ¬ j<k+1 by omega]
   refine afE hc htr hok (Array.getElem?_eq_getElem hlt) (p:=λ j=>decide (j<k)) (by simp) (λ t _=>⟨tF _ _ _ t _ _ om,tF _ _ _ t _ _ om⟩) (λ _ b _=>tF _ _ _ b _ _ om)
    (λ t _ j hj hpj=>by simp at hpj;omega) (λ b _ j hj hpj=>by simp at hpj;omega) hR hT λ a' w' I' O' hR' hT'=>?_
   rw[hp]at hR' hT'
   exact ih (k+1) om a' w' I' O' hR' hT'
 have e0:∀ {α:Type} (wr:Nat->Nat->Bool) (g:Nat->Nat->α) (F:Nat->α),sel wr g (λ j=>decide (j<0)) ops.size F=F:=λ wr g F=>funext λ t=>tF wr g F t 0 ops.size (Nat.zero_le _);rw[List.range_eq_range'];refine key ops.size 0 om a w I O ?_ ?_
 ·unfold Um;rw[e0];exact hR.IX λ o h=>.inl h
 unfold IW Rb;rw[e0,e0];exact hTR.IX (λ o h=>.inl h) hR
end
end Go.Ab
namespace Go.Ab
section
variable {P:Program} {cfg:y9} {cx:Ctx} {N:Nat} {ds:List Deferred}
def Closed (ops:Array Oper) (listed:Array Bool):Prop:=∀(j:Nat) (o:Oper),ops[j]? = some o->listed.getD j false=true->∀e∈o.after,Region.binds .any e=true->listed.getD e.on false=true
def RQ {ops:Array Oper} {listed:Array Bool} (hcl:Closed ops listed):∀(f i j:Nat),before ops.toList f i j=true->(∀o,ops[j]? = some o->∀e∈o.after,Region.binds .any e=true->listed.getD e.on false=true)->listed.getD i false=true:=by
 intro f;induction f with
 | zero=>intro i j h;cases h
 | succ f ih=>
  intro i j h hj;unfold before at h;rw[aax]at h;cases ho:ops[j]? with
  | none=>rw[show ops.toList[j]? = none by simpa using ho]at h;cases h
  | some o=>
   rw[show ops.toList[j]? = some o by simpa using ho]at h;simp only[List.any_eq_true,Bool.and_eq_true,Bool.or_eq_true]at h;obtain⟨e,he,⟨hb,_⟩,h2⟩:=h;have hl:=hj o ho e (by simpa using he) hb;rcases h2 with h2 | h2
   ·rw[<- Nat.eq_of_beq_eq_true h2];exact hl
   exact ih i e.on h2 λ o' ho'=>hcl e.on o' ho' hl
variable {all:List Oper}
def X5:∀(l:List Oper) (i:Nat),Ws all l i=true->∀k o,l[k]? = some o->adK o (i+k)=true/\NT all (i+k) o all 0=true:=by
 intro l;induction l with
 | nil=>intro i _ k o h;simp at h
 | cons x l ih=>
  intro i h k o hk;simp only[Ws,Bool.and_eq_true]at h;cases k with
  | zero=>simp at hk;subst hk;exact h.1
  | succ k=>
   have:=ih (i+1) h.2 k o (by simpa using hk);rwa [Nat.add_assoc,Nat.add_comm 1 k]at this
def ab8 {j:Nat} {oj:Oper}:∀(l:List Oper) (i:Nat),NT all j oj l i=true->∀k o,l[k]? = some o->i+k<j->Z9 all o oj=true\/before all 40 (i+k) j=true:=by
 intro l;induction l with
 | nil=>intro i _ k o h;simp at h
 | cons x l ih=>
  intro i h k o hk hlt;unfold NT at h;have hij:Nat.blt i j=true:=by simp;omega
  simp only[hij,Bool.and_eq_true,Bool.or_eq_true]at h;cases k with
  | zero=>simp at hk;subst hk;exact h.1
  | succ k=>
   have:=ih (i+1) h.2 k o (by simpa using hk) om;rwa [Nat.add_assoc,Nat.add_comm 1 k]at this
def ac2 {x:Nat} {l:ahb} (h:x∈l):Dn x l=true:=by
 induction l with
 | nil=>cases h
 | cons b l ih=>
  unfold Dn;cases hb:Nat.beq x b with
  | true=>rfl
  | false=>
   rcases List.mem_cons.1 h with e | e
   ·subst e;simp at hb
   exact ih e
def Od {x y:Oper} (h:Z9 all x y=true):(∀d,x.dst=some d->d ∉ looks all y)/\(∀d,y.dst=some d->d ∉ looks all x)/\(∀d,x.dst=some d->y.dst≠some d):=by
 unfold Z9 at h;simp only[Bool.and_eq_true,Bool.not_eq_true']at h;obtain⟨⟨h1,h2⟩,h3⟩:=h;refine⟨λ d hd hm=>?_,λ d hd hm=>?_,λ d hd hm=>?_⟩
 ·rw[hd]at h1;simp only[isIn]at h1;rw[ac2 hm]at h1;cases h1
 ·rw[hd]at h2;simp only[isIn]at h2;rw[ac2 hm]at h2;cases h2
 rw[hd,hm]at h3;simp[isIn,Dn]at h3
def afG {l:ahb} {p:Nat->Bool} {i:Nat} (hi:i∈l) (hp:p i=true):(l.filter λ k=>p k&&!decide (k=i)).length<(l.filter p).length:=by
 have le:∀l:ahb,(l.filter λ k=>p k&&!decide (k=i)).length<=(l.filter p).length:=by
  intro l;induction l with
  | nil=>exact Nat.le_refl _
  | cons x l ih=>
   rw[List.filter_cons,List.filter_cons];cases hx:p x with
   | true=>
    rw[if_pos rfl];split
    ·simp only[List.length_cons];omega
    simp only[List.length_cons];omega
   | false=>simpa using ih
 induction l with
 | nil=>cases hi
 | cons x l ih=>
  rw[List.filter_cons,List.filter_cons];by_cases hxi:x=i
  ·subst hxi;rw[hp,if_pos rfl,if_neg (by simp)];have:=le l;simp only[List.length_cons];omega
  have hil:i∈l:=by rcases List.mem_cons.1 hi with e | e;exact absurd e.symm hxi;exact e
  have:=ih hil;cases hx:p x with
  | true=>
   rw[if_pos rfl,if_pos (by simp[hxi])];simp only[List.length_cons];omega
  | false=>simpa using this
def apK (ops:Array Oper) (ent:Nat->TE):Prop:=∀i j,i<j->j<ops.size->before ops.toList 40 i j=true\/
 ((∀b,wrH ent i b=true->(ent j).ex=true->b ∉ (ent j).AU)/\(∀b,wrH ent j b=true->(ent i).ex=true->b ∉ (ent i).AU)/\(∀b,wrH ent i b=true->wrH ent j b=false))
theorem afH (hc:iI P cfg) {r:Option Nat} {n0:Nat} {ops:Array Oper} {id nx:Nat} {T0:Nat->AV} {H0:Nat->Option eD} {ent:Nat->TE} (htr:TrI cfg (Spec P cfg) ops.toList nx T0 H0 ent) (hok:tC N ops.toList ops.toList 0=true)
  (hdr:Ws ops.toList ops.toList 0=true) (hdyn:apK ops ent)
  {a:Act} {w:World} {I:Nat->Prop} {O:OM} (hR:Rel cfg cx H0 (λ o=>o<nx) w I O) (hTR:A8 N ds T0 (λ _=>true) a w I O (λ o=>o<nx)) {Q:Exit->Act->World->Prop}
  (hQ:∀a' w' I' O',Rel cfg cx (Um ent yes ops.size H0) (λ o=>o<nx+stride*ops.size) w' I' O'->A8 N ds (IW ops.toList ent yes ops.size T0) (Rb ops.toList ent yes ops.size) a' w' I' O' (λ o=>o<nx+stride*ops.size)->Q .normal a' w'):
  (Code.region id ops true).wpIn (FW r) n0 P Q a w:=by
 refine wpIn_region_any hc.mixed ?_;have edges:∀k o,ops[k]? = some o->∀e∈o.after,Region.binds .any e=true->e.on<k:=by
  intro k o ho e he hb;obtain⟨h1,_⟩:=X5 ops.toList 0 hdr k o (by simpa using ho);unfold adK at h1;rw[Nat.zero_add,List.all_eq_true]at h1;have:=h1 e (by simpa using he);simpa[hb]using this
 have tmps:∀i j oi oj,i<j->ops[i]? = some oi->ops[j]? = some oj->Z9 ops.toList oi oj=true\/before ops.toList 40 i j=true:=by
  intro i j oi oj hij hi hj;obtain⟨_,h2⟩:=X5 ops.toList 0 hdr j oj (by simpa using hj);rw[Nat.zero_add]at h2;have:=ab8 ops.toList 0 h2 i oi (by simpa using hi) om;rwa [Nat.zero_add]at this
 have aqN:∀k t,wrT ops.toList k t=true->∃o,ops[k]? = some o/\o.dst=some t:=by
  intro k t h;unfold wrT at h;split at h
  ·rename_i o ho;exact⟨o,by simpa using ho,by simpa using h⟩
  cases h
 have key:∀(fuel:Nat) (listed:Array Bool) (a:Act) (w:World) (I:Nat->Prop) (O:OM),listed.size=ops.size->Closed ops listed->((List.range ops.size).filter λ k=>!listed.getD k false).length<=fuel->
   Rel cfg cx (Um ent (λ k=>listed.getD k false) ops.size H0) (Dat nx ops.size (λ k=>listed.getD k false)) w I O->
   A8 N ds (IW ops.toList ent (λ k=>listed.getD k false) ops.size T0) (Rb ops.toList ent (λ k=>listed.getD k false) ops.size) a w I O (Dat nx ops.size (λ k=>listed.getD k false))->wpAnyIn (FW r) n0 P .any ops Q fuel listed a w:=by
  intro fuel
  have done:∀(listed:Array Bool) (a:Act) (w:World) (I:Nat->Prop) (O:OM),(∀k,k<ops.size->listed.getD k false=true)->
    Rel cfg cx (Um ent (λ k=>listed.getD k false) ops.size H0) (Dat nx ops.size (λ k=>listed.getD k false)) w I O->
    A8 N ds (IW ops.toList ent (λ k=>listed.getD k false) ops.size T0) (Rb ops.toList ent (λ k=>listed.getD k false) ops.size) a w I O (Dat nx ops.size (λ k=>listed.getD k false))->Q .normal a w:=by
   intro listed a w I O hall hR hT
   have e:∀ {α:Type} (wr:Nat->Nat->Bool) (g:Nat->Nat->α) (F:Nat->α),sel wr g (λ k=>listed.getD k false) ops.size F=sel wr g yes ops.size F:=λ wr g F=>funext λ t=>IV wr g _ _ F t _ λ k hk _=>hall k hk
   unfold Um at hR
   unfold IW Rb at hT
   rw[e]at hR
   rw[e,e]at hT
   have hD:∀o,Dat nx ops.size (λ k=>listed.getD k false) o->o<nx+stride*ops.size:=by
    rintro o (h | ⟨k,q1,_,q3,q4⟩)
    ·omega
    have:=Nat.mul_le_mul_left stride (show k+1<=ops.size from q1)
    rw[Nat.mul_add,Nat.mul_one]at this
    omega
   exact hQ a w I O (hR.IX hD) (hT.IX hD hR)
  have full:∀(listed:Array Bool),listed.size=ops.size->Region.ready .any ops listed=[]->∀k,k<ops.size->listed.getD k false=true:=by
   intro listed hls hr k
   induction k using Nat.strongRecOn with
   | _ k ih=>
    intro hk
    cases hl:listed.getD k false with
    | true=>rfl
    | false=>
     have:k∈Region.ready .any ops listed:=mem_ready.2 ⟨by
      have hlt:k<listed.size:=by omega
      simp[hlt]at hl ⊢;exact hl,ops[k],Array.getElem?_eq_getElem hk,λ e he hb=>ih e.on (edges k _ (Array.getElem?_eq_getElem hk) e he hb) (Nat.lt_trans (edges k _ (Array.getElem?_eq_getElem hk) e he hb) hk)⟩
     rw[hr]at this
     cases this
  induction fuel with
  | zero=>
   intro listed a w I O hls hcl hcnt hR hT
   have hall:∀k,k<ops.size->listed.getD k false=true:=by
    intro k hk
    cases hl:listed.getD k false with
    | true=>rfl
    | false=>
     have:k∈(List.range ops.size).filter λ k=>!listed.getD k false:=List.mem_filter.2 ⟨List.mem_range.2 hk,by rw[hl];rfl⟩
     have:=List.length_pos_of_mem this
     omega
   refine⟨?_,done listed a w I O hall hR hT⟩
   rw[List.eq_nil_iff_forall_not_mem]
   intro k hk
   obtain⟨h1,o,h2,_⟩:=mem_ready.1 hk
   have hlt:k<ops.size:=(Array.getElem?_eq_some_iff.1 h2).1
   have:=hall k hlt
   have hlt':k<listed.size:=by omega
   simp[hlt']at this h1
   rw[this]at h1
   cases h1
  | succ fuel ih=>
   intro listed a w I O hls hcl hcnt hR hT
   refine⟨λ hr=>done listed a w I O (full listed hls hr) hR hT,λ i hi=>?_⟩
   obtain⟨h1,o,ho,hed⟩:=mem_ready.1 hi
   have hlt:i<ops.size:=(Array.getElem?_eq_some_iff.1 ho).1
   have hpi:listed.getD i false=false:=by
    have hlt':i<listed.size:=by omega
    simp[hlt']at h1 ⊢;exact h1
   have avl:∀o',ops[i]? = some o'->∀e∈o'.after,Region.binds .any e=true->listed.getD e.on false=true:=λ o' ho'=>by rw[ho]at ho';cases ho';exact hed
   have al5:∀k,before ops.toList 40 k i=true->listed.getD k false=true:=λ k h=>RQ hcl 40 k i h avl
   have ad1:∀k,before ops.toList 40 i k=true->listed.getD k false=false:=λ k h=>by
    cases hk:listed.getD k false with
    | false=>rfl
    | true=>
     have:=RQ hcl 40 i k h λ o' ho'=>hcl k o' ho' hk
     rw[hpi]at this
     cases this
   have hp:(λ j=>listed.getD j false||decide (j=i))=λ j=>(listed.setIfInBounds i true).getD j false:=by
    funext j
    by_cases hj:j=i
    ·subst hj
     have:j<listed.size:=by omega
     simp[this]
    rw[getD_set_ne false (λ e=>hj e.symm)]
    simp[hj]
   have aqO:∀ {α:Type} (wr:Nat->Nat->Bool) (g:Nat->Nat->α) (F:Nat->α) (t:Nat),(∀k,k<ops.size->wr k t=true->k≠i->before ops.toList 40 (min k i) (max k i)=true)->
     sel wr g (λ j=>listed.getD j false) ops.size F t=sel wr g yes i F t:=by
    intro α wr g F t h
    refine(IV wr g _ (λ j=>decide (j<i)) F t _ λ k hk hw=>?_).trans (tF wr g F t i ops.size om)
    by_cases hki:k=i
    ·subst hki;simpa using hpi
    have hb:=h k hk hw hki
    rcases Nat.lt_or_gt_of_ne hki with hlt' | hgt
    ·rw[Nat.min_eq_left om,Nat.max_eq_right om]at hb
     rw[al5 k hb];simp[hlt']
    rw[Nat.min_eq_right om,Nat.max_eq_left om]at hb
    rw[ad1 k hb];simp;omega
   refine afE hc htr hok ho (p:=λ j=>listed.getD j false) hpi (λ t ht=>?_) (λ hex b hb=>?_) (λ t ht k hik hpk=>?_) (λ b hb k hik hpk=>?_) hR hT λ a' w' I' O' hR' hT'=>?_
   ·have cond:∀k,k<ops.size->wrT ops.toList k t=true->k≠i->before ops.toList 40 (min k i) (max k i)=true:=by
     intro k hk hw hki
     obtain⟨ok,hok',hdk⟩:=aqN k t hw
     rcases Nat.lt_or_gt_of_ne hki with hlt' | hgt
     ·rw[Nat.min_eq_left om,Nat.max_eq_right om]
      rcases tmps k i ok o hlt' hok' ho with h | h
      ·exact absurd ht ((Od h).1 t hdk)
      exact h
     rw[Nat.min_eq_right om,Nat.max_eq_left om]
     rcases tmps i k o ok hgt ho hok' with h | h
     ·exact absurd ht ((Od h).2.1 t hdk)
     exact h
    exact⟨aqO _ _ _ t cond,aqO _ _ _ t cond⟩
   ·refine aqO _ _ _ b λ k hk hw hki=>?_
    rcases Nat.lt_or_gt_of_ne hki with hlt' | hgt
    ·rw[Nat.min_eq_left om,Nat.max_eq_right om]
     rcases hdyn k i hlt' hlt with h | h
     ·exact h
     exact absurd hb (h.1 b hw hex)
    rw[Nat.min_eq_right om,Nat.max_eq_left om]
    rcases hdyn i k hgt hk with h | h
    ·exact h
    exact absurd hb (h.2.1 b hw hex)
   ·cases hw:wrT ops.toList k t with
    | false=>rfl
    | true=>
     obtain⟨oi,hoi,hdi⟩:=aqN i t ht
     obtain⟨ok,hok',hdk⟩:=aqN k t hw
     rcases tmps i k oi ok hik hoi hok' with h | h
     ·exact absurd hdk ((Od h).2.2 t hdi)
     rw[ad1 k h]at hpk;cases hpk
   ·by_cases hk:k<ops.size
    ·rcases hdyn i k hik hk with h | h
     ·rw[ad1 k h]at hpk;cases hpk
     exact h.2.2 b hb
    have:listed.getD k false=false:=by simp[Array.getElem?_eq_none (show listed.size<=k by omega)]
    rw[this]at hpk;cases hpk
   rw[hp]at hR' hT'
   refine ih (listed.setIfInBounds i true) a' w' I' O' (by simp[hls]) ?_ ?_ hR' hT'
   ·intro j oj hj hl e he hb
    by_cases hji:j=i
    ·subst hji
     rw[ho]at hj
     cases hj
     exact getD_set_true (hed e he hb)
    rw[getD_set_ne false (λ e=>hji e.symm)]at hl
    exact getD_set_true (hcl j oj hj hl e he hb)
   have hlt':i<listed.size:=by omega
   have:=afG (l:=List.range ops.size) (p:=λ k=>!listed.getD k false) (i:=i) (List.mem_range.2 hlt) (by rw[hpi];rfl)
   have e2:((List.range ops.size).filter λ k=>!(listed.setIfInBounds i true).getD k false)=(List.range ops.size).filter λ k=>!listed.getD k false&&!decide (k=i):=by
    congr 1
    funext k
    rw[<- congrFun hp k]
    simp
   rw[e2]
   omega
 have e0:(λ k=>(Array.replicate ops.size false).getD k false)=λ _=>false:=by
  funext k;rcases Nat.lt_or_ge k ops.size with h | h
  ·simp[h]
  simp[h]
 have e1:∀ {α:Type} (wr:Nat->Nat->Bool) (g:Nat->Nat->α) (F:Nat->α),sel wr g (λ _=>false) ops.size F=F:=λ wr g F=>funext λ t=>by
  have:=tF wr g F t 0 ops.size (Nat.zero_le _);refine(IV wr g _ (λ j=>decide (j<0)) F t _ λ k _ _=>?_).trans this;simp
 refine key ops.size (Array.replicate ops.size false) a { w with drawn:=w.drawn+1 } I O (by simp) ?_ ?_ ?_ ?_
 ·intro j o _ h;rw[congrFun e0 j]at h;cases h
 ·exact Nat.le_trans (List.length_filter_le _ _) (by simp)
 ·rw[e0];unfold Um;rw[e1];exact(Rel.Ku (w:=w) (w':={ w with drawn:=w.drawn+1 }) rfl (iM.heap rfl rfl rfl rfl) hR).IX λ o h=>.inl h
 rw[e0];unfold IW Rb;rw[e1,e1];have Ux:=Rel.Ku (w:=w) (w':={ w with drawn:=w.drawn+1 }) rfl (iM.heap rfl rfl rfl rfl) hR;have:A8 N ds T0 (λ _=>true) a { w with drawn:=w.drawn+1 } I O (λ o=>o<nx):=⟨hTR.defers,hTR.size,λ t ht=>fC.Ku (w:=w) (w':={ w with drawn:=w.drawn+1 }) rfl hR (hTR.rep t ht),hTR.gone⟩;exact this.IX (λ o h=>.inl h) Ux
end
end Go.Ab
namespace Go.Ab
section
variable {P:Program} {cfg:y9} {cx:Ctx} {N:Nat} {Sp:oZ}
def ac3:∀(l:aiA) (K:aiA->Prop),NK l K↔K l:=by
 intro l;induction l with
 | nil=>intro K;exact Iff.rfl
 | cons v l ih=>
  intro K;unfold NK;rw[ih];cases v<;>exact Iff.rfl
def force_eq (v:AV) (K:AV->Prop):force v K↔K v:=by
 cases v<;>first | exact Iff.rfl | exact ac3 _ _
def afI:∀(l:lK) (K:lK->Prop),Ep l K↔K l:=by
 intro l;induction l with
 | nil=>intro K;exact Iff.rfl
 | cons u l ih=>
  intro K;obtain⟨o,x⟩:=u;cases x with
  | none=>exact ih _
  | some x=>cases x with
   | box cs=>simp only[Ep];rw[ac3];exact ih _
   | row es n g=>exact ih _
   | map kd z f=>exact ih _
def aiY (H:lK):∀(ups:lK) (K:lK->Prop),als ups H K↔K (ups++H):=by
 intro ups;induction ups with
 | nil=>intro K;exact Iff.rfl
 | cons u l ih=>intro K;unfold als;exact ih _
def QE (p:PC):∀(l:List PC) (K:List PC->Prop),SL l p K↔K (l++[p]):=by
 intro l;induction l with
 | nil=>intro K;exact Iff.rfl
 | cons q l ih=>intro K;unfold SL;exact ih _
def akc:∀(l:List PC) (j:Nat) (K:PC->Prop),ahg l j K↔K (NS l j):=by
 intro l;induction l with
 | nil=>intro j K;exact Iff.rfl
 | cons p l ih=>intro j K;cases j with
  | zero=>exact Iff.rfl
  | succ j=>exact ih j K
def holds (pc:PC):Prop:=∀q∈pc,q.1=q.2
def QF:∀(pc:PC) (p:Prop) (K:Prop->Prop),ajR pc p K->∃q:Prop,K q/\(q->holds pc->p):=by
 intro pc;induction pc with
 | nil=>intro p K h;exact⟨p,h,λ h _=>h⟩
 | cons x l ih=>
  intro p K h;obtain⟨c,b⟩:=x;obtain⟨q,h1,h2⟩:=ih _ _ h;exact⟨q,h1,λ hq hh=>h2 hq (λ y hy=>hh y (List.mem_cons_of_mem _ hy)) (hh (c,b) (by simp))⟩
def Zw (pc:PC) (H:Nat->Option eD):∀(pg:Pg) (AU:ahb) (K:AV->lK->ahb->Prop),ev Sp pc H pg AU K->∃v ups Yx,K v ups Yx/\(∀x∈AU,x∈Yx)/\(holds pc->∃r,fZ Sp H pg v ups r/\∀x∈r,x∈Yx):=by
 intro pg;induction pg with
 | ret v ups=>
  intro AU K h;unfold ev at h;rw[force_eq,afI]at h;exact⟨v,ups,AU,h,λ _ h=>h,λ _=>⟨[],.ret v ups,λ x hx=>by cases hx⟩⟩
 | need p k ih=>
  intro AU K h;unfold ev at h;obtain⟨q,⟨h1,h2⟩,h3⟩:=QF pc p _ h;obtain⟨v,ups,Yx,h4,h5,h6⟩:=ih AU K h2;refine⟨v,ups,Yx,h4,h5,λ hh=>?_⟩;obtain⟨r,h7,h8⟩:=h6 hh;exact⟨r,.need (h3 h1 hh) h7,h8⟩
 | rd o k ih=>
  intro AU K h;unfold ev at h;split at h
  ·rename_i x hx;obtain⟨v,ups,Yx,h4,h5,h6⟩:=ih x (o::AU) K h;refine⟨v,ups,Yx,h4,λ y hy=>h5 y (List.mem_cons_of_mem _ hy),λ hh=>?_⟩;obtain⟨r,h7,h8⟩:=h6 hh;refine⟨o::r,.rd hx h7,λ y hy=>?_⟩;rcases List.mem_cons.1 hy with e | e
   ·subst e;exact h5 y (by simp)
   exact h8 y e
  obtain⟨q,⟨h1,h2⟩,h3⟩:=QF pc False _ h;exact⟨_,_,AU,h2,λ _ h=>h,λ hh=>(h3 h1 hh).elim⟩
 | call f args obs k ih=>
  intro AU K h;unfold ev at h;obtain⟨r,gy,h⟩:=h;obtain⟨q,⟨h1,h2⟩,h3⟩:=QF pc _ _ h;obtain⟨v,ups,Yx,h4,h5,h6⟩:=ih r gy AU K h2;refine⟨v,ups,Yx,h4,h5,λ hh=>?_⟩;obtain⟨r',h7,h8⟩:=h6 hh;exact⟨r',.call (h3 h1 hh) h7,h8⟩
 | fail=>
  intro AU K h;unfold ev at h;obtain⟨q,⟨h1,h2⟩,h3⟩:=QF pc False _ h;exact⟨_,_,AU,h2,λ _ h=>h,λ hh=>(h3 h1 hh).elim⟩
def akd:List Oper->List TE->(Nat->AV)->Nat->AV
 | o::rest,e::tr,T=>akd rest tr (mo T o.dst e.v)
 | _,_,T=>T
def ake:List Oper->List TE->(Nat->Bool)->Nat->Bool
 | o::rest,e::tr,V=>ake rest tr (mo V o.dst e.ex)
 | _,_,V=>V
def akf:List TE->(Nat->Option eD)->Nat->Option eD
 | e::tr,H=>akf tr (ni H e.ups)
 | [],H=>H
def qM (T:List (Nat×AV)) (d:Nat) (v:AV):iY ((d,v)::T)=mo (iY T) (some d) v:=by
 funext t;unfold iY mo;simp only[look];cases hb:Nat.beq d t with
 | true=>have:=Nat.eq_of_beq_eq_true hb;subst this;simp
 | false=>
  have:t≠d:=λ e=>by subst e;simp at hb
  simp[this]
def X6 (ups H:lK):hget (ups++H)=ni (hget H) ups:=by
 funext o;unfold hget ni;rw[Oc];cases look ups o with
 | none=>rfl
 | some x=>cases x<;>rfl
def Zx (dst:Option Nat) (v u:AV) (T U:List (Nat×AV)) (K:List (Nat×AV)->List (Nat×AV)->Prop) (h:alu dst v u T U K):∃T' U',K T' U'/\iY T'=mo (iY T) dst v/\iY U'=mo (iY U) dst u:=by
 cases dst with
 | none=>exact⟨T,U,h,rfl,rfl⟩
 | some d=>exact⟨_,_,h,qM T d v,qM U d u⟩
def aiZ:List TE->List Log->List Log->Prop
 | [],l,l0=>l=l0
 | e::tr,l,l0=>∃g:Log,(e.ex=true->(∀x∈e.AU,x∈g.AU))/\(∀x,(look e.ups x).isSome=true->x∈g.wrs)/\aiZ tr l (g::l0)
def afJ (ups:lK) (x:Nat) (h:(look ups x).isSome=true):x∈ids ups:=by
 induction ups with
 | nil=>cases h
 | cons u l ih=>
  obtain⟨o,y⟩:=u;simp only[look]at h;simp only[ids,List.mem_cons];cases hb:Nat.beq o x with
  | true=>exact .inl (Nat.eq_of_beq_eq_true hb).symm
  | false=>simp only[hb]at h;exact .inr (ih h)
def ahN (l:List PC) (p:PC) (j:Nat):NS (l++[p]) j=if j<l.length then NS l j else if j=l.length then p else[]:=by
 induction l generalizing j with
 | nil=>cases j<;>simp[NS]
 | cons q l ih=>
  cases j with
  | zero=>simp[NS]
  | succ j=>
   simp only[List.cons_append,NS,ih,List.length_cons];by_cases h1:j<l.length
   ·simp[h1]
   by_cases h2:j=l.length
   ·simp[h2]
   simp[h1,h2]
def upd_ne {α:Type} (F:Nat->α) (d:Option Nat) (x:α) (t:Nat) (h:d≠some t):mo F d x t=F t:=by
 cases d with
 | none=>rfl
 | some k=>
  have:t≠k:=λ e=>h (by rw[e]);simp[mo,this]
def Ta {α:Type} (F:Nat->α) (t:Nat) (x:α):mo F (some t) x t=x:=by simp[mo]
theorem ahO {all:List Oper} {nx:Nat} (hok:tC N all all 0=true):∀(rest:List Oper) (i:Nat) (T U:List (Nat×AV)) (H:lK) (pcs:List PC) (log:List Log) (K:St->List Log->Prop) (V:Nat->Bool),
  (∀j,rest[j]? = all[i+j]?)->pcs.length=i->(∀j d,j<i->writers all d=[j]->(V d=true↔holds (NS pcs j)))->(∀t,iY U t=.undef\/(V t=true/\iY U t=iY T t))->
  ae9 cfg Sp all nx rest i T U H pcs log K->∃tr s ad2,Tr cfg Sp all nx rest i (iY T) V (hget H) tr/\tr.length=rest.length/\K s ad2/\s.nx=nx+stride*(i+rest.length)/\hget s.heap=akf tr (hget H)/\
   (∀t,iY s.tmps t=.undef\/(ake rest tr V t=true/\iY s.tmps t=akd rest tr (iY T) t))/\aiZ tr ad2 log:=by
 intro rest;induction rest with
 | nil=>
  intro i T U H pcs log K V _ _ _ hU h;exact⟨[],_,log,ag7,rfl,h,rfl,rfl,hU,rfl⟩
 | cons o rest ih=>
  intro i T U H pcs log K V hr hpl hpc hU h;have hi:all[i]? = some o:=by simpa using(hr 0).symm
  have hop:=(SY all 0 hok i o hi).1;rw[Nat.zero_add]at hop;have hr':∀j,rest[j]? = all[i+1+j]? := λ j=>by
   have:=hr (j+1);rw[show i+(j+1)=i+1+j by omega]at this;simpa using this
  have go:∀(v u:AV) (ups:lK) (ex:Bool) (r:ahb) (g:Log) (pc:PC) (T' U':List (Nat×AV)) (H':lK),nD all (iY T) o->ex=kT all (iY T) V o->(ex=true->fZ Sp (hget H) (iw cfg (nx+stride*i) o.op (Zq cfg (iY T))) v ups r)->(ex=false->ups=[])->
    iY T'=mo (iY T) o.dst v->iY U'=mo (iY U) o.dst u->hget H'=ni (hget H) ups->(u=.undef\/(ex=true/\u=v))->(ex=true↔holds pc)->(ex=true->(∀x∈r,x∈g.AU))->(∀x,(look ups x).isSome=true->x∈g.wrs)->
    ae9 cfg Sp all nx rest (i+1) T' U' H' (pcs++[pc]) (g::log) K->∃tr s ad2,Tr cfg Sp all nx (o::rest) i (iY T) V (hget H) tr/\tr.length=(o::rest).length/\K s ad2/\s.nx=nx+stride*(i+(o::rest).length)/\hget s.heap=akf tr (hget H)/\
     (∀t,iY s.tmps t=.undef\/(ake (o::rest) tr V t=true/\iY s.tmps t=akd (o::rest) tr (iY T) t))/\aiZ tr ad2 log:=by
   intro v u ups ex r g pc T' U' H' g1 g2 g3 g4 g5 g6 g7 g8 g9 g10 g11 g12
   have avm:∀j d,j<i+1->writers all d=[j]->(mo V o.dst ex d=true↔holds (NS (pcs++[pc]) j)):=by
    intro j d hj hw
    rw[ahN,hpl]
    by_cases hji:j=i
    ·subst hji
     have:j∈writers all d:=by rw[hw];simp
     obtain⟨o',h1,h2⟩:=(xA all d j).1 this
     rw[hi]at h1
     cases h1
     rw[h2,Ta]
     simpa using g9
    have hne:o.dst≠some d:=λ e=>by
     have:i∈writers all d:=(xA all d i).2 ⟨o,hi,e⟩
     rw[hw]at this
     simp at this
     omega
    rw[upd_ne _ _ _ _ hne,if_pos om]
    exact hpc j d om hw
   have hU':∀t,iY U' t=.undef\/(mo V o.dst ex t=true/\iY U' t=iY T' t):=by
    intro t
    rw[g5,g6]
    by_cases hd:o.dst=some t
    ·rw[hd,Ta,Ta,Ta]
     rcases g8 with e | ⟨e1,e2⟩
     ·exact .inl e
     exact .inr ⟨e1,e2⟩
    rw[upd_ne _ _ _ _ hd,upd_ne _ _ _ _ hd,upd_ne _ _ _ _ hd]
    exact hU t
   obtain⟨tr,s,ad2,q1,q2,q3,q4,q5,q6,q7⟩:=ih (i+1) T' U' H' (pcs++[pc]) (g::log) K (mo V o.dst ex) hr' (by simp[hpl]) avm hU' g12
   rw[g5,g7]at q1
   rw[g7]at q5
   rw[g5]at q6
   exact⟨⟨ex,v,ups,r⟩::tr,s,ad2,⟨g1,g2,g3,g4,q1⟩,by simp[q2],q3,by rw[q4,show i+1+rest.length=i+(o::rest).length by simp;omega],q5,q6,g,g10,g11,q7⟩
  unfold ae9 at h;cases hg:o.guard with
  | none=>
   rw[hg]at h;simp only at h;obtain⟨v,ups,Yx,h1,_,h2⟩:=Zw _ _ _ _ _ h;obtain⟨r,h3,h4⟩:=h2 (λ q hq=>by cases hq);obtain⟨T',U',h5,h6,h7⟩:=Zx _ _ _ _ _ _ h1;rw[aiY,QE]at h5;have hs:nD all (iY T) o:=by unfold nD;rw[hg];trivial
   have hon:kT all (iY T) V o=true:=by unfold kT;rw[hg]
   exact go v v ups true r _ [] T' U' _ hs hon.symm (λ _=>h3) (λ e=>by cases e) h6 h7 (X6 ups H) (.inr ⟨rfl,rfl⟩) ⟨λ _ q hq=>by(cases hq),λ _=>rfl⟩ (λ _=>h4) (λ x hx=>afJ ups x hx) h5
  | some gu=>
   obtain⟨j,b⟩:=gu;rw[hg]at h;simp only at h;cases hd:XT all j with
   | none=>rw[hd]at h;exact h.elim
   | some d=>
    rw[hd]at h;simp only at h;cases hT:iY T d with
    | bool c=>
     rw[hT]at h;simp only at h;have hjd:j<i/\writers all d=[j]:=by
      unfold afa at hop;rw[hg]at hop;simp only at hop;split at hop
      ·rename_i h1;split at h1
       ·rename_i hlt;rw[hd]at h1;simp only at h1;split at h1
        ·rename_i j' hw;have e:=Nat.eq_of_beq_eq_true h1;subst e;exact⟨by simpa using hlt,hw⟩
        cases h1
       cases h1
      cases hop
     have hVd:=hpc j d hjd.1 hjd.2;have hs:nD all (iY T) o:=by unfold nD;rw[hg];exact⟨d,c,hd,hT⟩
     have hon:kT all (iY T) V o=(V d&&(c==b)):=by unfold kT;rw[hg];simp only[hd,hT,isB]
     cases hq:aiO cfg o.op with
     | true=>
      rw[hq]at h;simp only at h;rw[akc]at h;obtain⟨v,ups,Yx,h1,_,h2⟩:=Zw _ _ _ _ _ h;cases ups with
      | cons u l=>exact h1.elim
      | nil=>
       simp only at h1;obtain⟨T',U',h5,h6,h7⟩:=Zx _ _ _ _ _ _ h1;rw[QE]at h5;have hiff:kT all (iY T) V o=true↔holds ((c,b)::NS pcs j):=by
        rw[hon];simp only[Bool.and_eq_true,beq_iff_eq,hVd];constructor
        ·rintro ⟨q1,q2⟩ q hq;rcases List.mem_cons.1 hq with e | e
         ·subst e;exact q2
         exact q1 q e
        intro q;exact⟨λ y hy=>q y (List.mem_cons_of_mem _ hy),q (c,b) (by simp)⟩
       cases hex:kT all (iY T) V o with
       | true=>
        obtain⟨r,h3,h4⟩:=h2 (hiff.1 hex);exact go v .undef [] true r _ _ T' U' H hs hex.symm (λ _=>h3) (λ e=>by cases e) h6 h7 (by rw[Ev]) (.inl rfl) ⟨λ _=>hiff.1 hex,λ _=>rfl⟩ (λ _=>h4) (λ x hx=>by cases hx) h5
       | false=>
        exact go v .undef [] false [] _ _ T' U' H hs hex.symm (λ e=>by cases e) (λ _=>rfl) h6 h7 (by rw[Ev]) (.inl rfl) (by rw[<- hex];exact hiff) (λ e=>by cases e) (λ x hx=>by cases hx) h5
     | false=>
      rw[hq]at h;simp only at h;split at h
      ·rename_i hnil;have hV:V d=true:=hVd.2 (by rw[hnil];exact λ q hq=>by cases hq);rw[hV,Bool.true_and]at hon;cases hcb:(c==b)with
       | true=>
        rw[hcb]at h;simp only[Z7]at h;obtain⟨v,ups,Yx,h1,_,h2⟩:=Zw _ _ _ _ _ h;obtain⟨r,h3,h4⟩:=h2 (λ q hq=>by cases hq);obtain⟨T',U',h5,h6,h7⟩:=Zx _ _ _ _ _ _ h1;rw[aiY,QE]at h5;exact go v v ups true r _ [] T' U' _ hs (by rw[hon,hcb]) (λ _=>h3) (λ e=>by cases e) h6 h7 (X6 ups H) (.inr ⟨rfl,rfl⟩) ⟨λ _ q hq=>by(cases hq),λ _=>rfl⟩ (λ _=>h4) (λ x hx=>afJ ups x hx) h5
       | false=>
        rw[hcb]at h;simp only[Z7]at h;obtain⟨T',U',h5,h6,h7⟩:=Zx _ _ _ _ _ _ h;rw[QE]at h5;refine go .undef .undef [] false [] _ _ T' U' H hs (by rw[hon,hcb]) (λ e=>by cases e) (λ _=>rfl) h6 h7 (by rw[Ev]) (.inl rfl) ⟨λ e=>by(cases e),λ q=>?_⟩ (λ e=>by cases e) (λ x hx=>by cases hx) h5;have:=q (c,b) (by simp);simp at hcb;exact absurd this hcb
      exact h.elim
    | _=>rw[hT]at h;exact h.elim
end
end Go.Ab
namespace Go.Ab
section
variable {P:Program} {cfg:y9} {cx:Ctx} {N:Nat}
def aaz (D:Nat):Deferred:={ target:=.collected D,args:=#[] }
def Marks (cx:Ctx) (w:World) (ds:List Deferred):Prop:=∃ms:ahb,ms.Nodup/\(cx.rd=true->ms=[])/\ds=ms.map aaz/\∀D∈ms,cx.w0.heap.size<=D/\w.heap[D]? = some (.deferred (some []))
def Ctx.also (cx:Ctx) (ms:ahb):Ctx:={ cx with K:=λ k o=>cx.K k o\/(k∈ms/\o=.deferred (some [])) }
def Rel.also {H:Nat->Option eD} {D:Nat->Prop} {w:World} {I:Nat->Prop} {O:OM} (hR:Rel cfg cx H D w I O) {ms:ahb} (h:∀D∈ms,w.heap[D]? = some (.deferred (some []))):Rel cfg (cx.also ms) H D w I O:=
 { hR with
  env:=⟨hR.env.same,λ k o hk=>hk.elim (hR.env.kept k o) λ⟨h1,h2⟩=>by subst h2;exact⟨h k h1,rfl⟩⟩
  maps:=λ o kd z f p b bo sz h1 h2 h3=>⟨(hR.maps o kd z f p b bo sz h1 h2 h3).1,λ ob hk=>hk.elim ((hR.maps o kd z f p b bo sz h1 h2 h3).2 ob) λ⟨h4,_⟩=>by
   obtain⟨_,b',qy,sz',es,clock,h5,h6,_⟩:=hR.objs o _ p h1 h2;rw[h3]at h5;cases h5;rw[h b h4]at h6;cases h6⟩ }
def Rel.al6 {H:Nat->Option eD} {D:Nat->Prop} {w:World} {I:Nat->Prop} {O:OM} {ms:ahb} (hR:Rel cfg (cx.also ms) H D w I O):Rel cfg cx H D w I O/\∀D∈ms,w.heap[D]? = some (.deferred (some [])):=
 ⟨{ hR with
  env:=⟨hR.env.same,λ k o hk=>hR.env.kept k o (.inl hk)⟩
  maps:=λ o kd z f p b bo sz h1 h2 h3=>⟨(hR.maps o kd z f p b bo sz h1 h2 h3).1,λ ob hk=>(hR.maps o kd z f p b bo sz h1 h2 h3).2 ob (.inl hk)⟩ },λ D hD=>(hR.env.kept D _ (.inr ⟨hD,rfl⟩)).1⟩
structure jV (cfg:y9) (N m:Nat) (cx:Ctx) (s:St) (a:Act) (w:World) (I:Nat->Prop) (O:OM):Prop where
 m:cx.m=m
 rel:Rel cfg cx (hget s.heap) (λ o=>o<s.nx) w I O
 tmps:A8 N a.defers (iY s.tmps) (λ _=>true) a w I O (λ o=>o<s.nx)
 marks:Marks cx w a.defers
def Good (P:Program) (cfg:y9) (N:Nat) (r:Option Nat) (m:Nat) (c:Code) (s:St) (K:Exit->St->Prop):Prop:=
 ∀(n:Nat) (cx:Ctx) (a:Act) (w:World) (I:Nat->Prop) (O:OM),jV cfg N m cx s a w I O->cx.rd=r.isSome->c.wpIn (FW r) n P (λ e a' w'=>∃s' I' O',K e s'/\jV cfg N m cx s' a' w' I' O') a w
structure Loops (P:Program) (cfg:y9) (N:Nat) (r:Option Nat) (m:Nat) (c:Code) (s:St) (K:Exit->St->Prop):Prop where
 ok:Good P cfg N r m c s K
def ahP:∀(tr:List TE) (l l0:List Log),aiZ tr l l0->∃gs:List Log,gs.length=tr.length/\l=gs.reverse++l0/\∀(k:Nat) (e:TE) (g:Log),tr[k]? = some e->gs[k]? = some g->(e.ex=true->∀x∈e.AU,x∈g.AU)/\∀x,(look e.ups x).isSome=true->x∈g.wrs:=by
 intro tr;induction tr with
 | nil=>intro l l0 h;exact⟨[],rfl,h,λ k e g h=>by simp at h⟩
 | cons e tr ih=>
  intro l l0 h;obtain⟨g,h1,h2,h3⟩:=h;obtain⟨gs,q1,q2,q3⟩:=ih l (g::l0) h3;refine⟨g::gs,by simp[q1],by simp[q2],λ k e' g' hk hg=>?_⟩;cases k with
  | zero=>simp at hk hg;subst hk;subst hg;exact⟨h1,h2⟩
  | succ k=>exact q3 k e' g' (by simpa using hk) (by simpa using hg)
def Oe {l m:ahb} (h:meets l m=false):∀x∈l,x ∉ m:=by
 induction l with
 | nil=>intro x hx;cases hx
 | cons y l ih=>
  intro x hx;unfold meets at h;cases hm:Dn y m with
  | true=>simp[hm]at h
  | false=>
   simp only[hm]at h;rcases List.mem_cons.1 hx with e | e
   ·subst e;exact zF hm
   exact ih h x e
def Ky {α:Type} {motive:List α->Prop} (nil:motive []) (append_singleton:∀l x,motive l->motive (l++[x])):∀l,motive l:=by
 intro l;have:∀m:List α,motive m.reverse:=by
  intro m;induction m with
  | nil=>exact nil
  | cons x m ih=>rw[List.reverse_cons];exact append_singleton _ x ih
 have:=this l.reverse;rwa [List.reverse_reverse]at this
variable {all:List Oper}
def afK {j:Nat} {x:Log}:∀(gs:List Log),Wt all j x gs.reverse gs.length=true->∀i g,gs[i]? = some g->(meets x.wrs g.AU=false/\meets g.wrs x.AU=false/\meets g.wrs x.wrs=false)\/before all 40 i j=true:=by
 intro gs;induction gs using Ky with
 | nil=>intro _ i g h;simp at h
 | append_singleton gs y ih=>
  intro h i g hg;rw[List.reverse_append,List.length_append]at h;simp only[List.reverse_cons,List.reverse_nil,List.nil_append,List.cons_append,List.length_cons,List.length_nil,Nat.zero_add]at h;unfold Wt at h;have rest:Wt all j x gs.reverse gs.length=true:=by
   split at h
   ·exact h
   split at h
   ·exact h
   cases h
  by_cases hi:i<gs.length
  ·exact ih rest i g (by rwa [List.getElem?_append_left hi]at hg)
  have hil:i=gs.length:=by
   have:=(List.getElem?_eq_some_iff.1 hg).1;simp at this;omega
  subst hil;simp at hg;subst hg;split at h
  ·rename_i e1 e2 e3;exact .inl ⟨e1,e2,e3⟩
  split at h
  ·rename_i hb;exact .inr hb
  cases h
def al7:∀(gs:List Log),Ki all gs.reverse gs.length=true->∀j x,gs[j]? = some x->∀i g,i<j->gs[i]? = some g->(meets x.wrs g.AU=false/\meets g.wrs x.AU=false/\meets g.wrs x.wrs=false)\/before all 40 i j=true:=by
 intro gs;induction gs using Ky with
 | nil=>intro _ j x h;simp at h
 | append_singleton gs y ih=>
  intro h j x hx i g hij hg;rw[List.reverse_append,List.length_append]at h;simp only[List.reverse_cons,List.reverse_nil,List.nil_append,List.cons_append,List.length_cons,List.length_nil,Nat.zero_add]at h;unfold Ki at h;split at h
  ·rename_i hone;have hjl:j<(gs++[y]).length:=(List.getElem?_eq_some_iff.1 hx).1;simp at hjl;have hi:i<gs.length:=by omega
   have hg':gs[i]? = some g:=by rwa [List.getElem?_append_left hi]at hg
   by_cases hj:j<gs.length
   ·exact ih h j x (by rwa [List.getElem?_append_left hj]at hx) i g hij hg'
   have:j=gs.length:=by omega
   subst this;simp at hx;subst hx;exact afK gs hone i g hg'
  cases h
theorem aoA {T0:Nat->AV} {H0:Nat->Option eD} {ent:Nat->TE}:∀(rest:List Oper) (i:Nat) (tr:List TE),(∀j,rest[j]? = all[i+j]?)->(∀j e,tr[j]? = some e->ent (i+j)=e)->tr.length=rest.length->
  akd rest tr (IW all ent yes i T0)=IW all ent yes (i+rest.length) T0/\ake rest tr (Rb all ent yes i)=Rb all ent yes (i+rest.length)/\akf tr (Um ent yes i H0)=Um ent yes (i+rest.length) H0:=by
 intro rest;induction rest with
 | nil=>
  intro i tr _ _ hl;have:tr=[]:=List.eq_nil_of_length_eq_zero (by simpa using hl);subst this;exact⟨rfl,rfl,rfl⟩
 | cons x rest ih=>
  intro i tr hr he hl;cases tr with
  | nil=>simp at hl
  | cons e tr=>
   have hx:all[i]? = some x:=by simpa using(hr 0).symm
   have he0:ent i=e:=by simpa using he 0 e rfl
   subst he0;have e1:mo (IW all ent yes i T0) x.dst (ent i).v=IW all ent yes (i+1) T0:=QD hx _ yes rfl T0 _ λ _=>rfl;have e2:mo (Rb all ent yes i) x.dst (ent i).ex=Rb all ent yes (i+1):=QD hx _ yes rfl _ _ λ _=>rfl;have e3:ni (Um ent yes i H0) (ent i).ups=Um ent yes (i+1) H0:=afC yes rfl H0;simp only[akd,ake,akf];rw[e1,e2,e3];have:=ih (i+1) tr (λ j=>by
    have:=hr (j+1);rw[show i+(j+1)=i+1+j by omega]at this;simpa using this) (λ j e' hj=>by
    have:=he (j+1) e' (by simpa using hj);rwa [show i+(j+1)=i+1+j by omega]at this) (by simpa using hl)
   rw[show i+1+rest.length=i+(x::rest).length by simp;omega]at this;exact this
theorem afL (hc:iI P cfg) {N:Nat} {r:Option Nat} {m id:Nat} {ct:ahb} {ops:Array Oper} {draw:Bool} {T:List (Nat×AV)} {H:lK} {nx:Nat} {K:Exit->St->Prop}
  (h:lN cfg (Spec P cfg) ct (Loops P cfg N r m) (.region id ops draw) ⟨T,H,nx⟩ K) (hok:alv N ops.toList draw=true):
  Good P cfg N r m (.region id ops draw) ⟨T,H,nx⟩ K:=by
 intro n0 cx a w I O hS hrd;obtain⟨ms,hnd,hrm,hds,hms⟩:=hS.marks;have hS1:=hS.rel.also (λ D hD=>(hms D hD).2);simp only[lN]at h;unfold alv at hok;simp only[Bool.and_eq_true,Bool.or_eq_true,Bool.not_eq_true']at hok;obtain⟨hok1,hok2⟩:=hok;obtain⟨tr,s,ad2,q1,q2,q3,q4,q5,q6,q7⟩:=ahO hok1 ops.toList 0 T T H [] [] _ (λ _=>true) (λ j=>by simp) rfl (λ j d hj=>by omega) (λ t=>.inr ⟨rfl,rfl⟩) h;let ent:Nat->TE:=λ k=>tr.getD k ⟨true,.undef,[],[]⟩
 have hent:∀j e,tr[j]? = some e->ent (0+j)=e:=λ j e he=>by show tr.getD (0+j) _=e;simp[he]
 have htr:TrI cfg (Spec P cfg) ops.toList nx (iY T) (hget H) ent:=λ k o hk=>TrI.aoz ops.toList 0 tr (λ j=>by simp) hent q1 k o (Nat.zero_le _) hk;obtain⟨e1,e2,e3⟩:=aoA (all:=ops.toList) (T0:=iY T) (H0:=hget H) ops.toList 0 tr (λ j=>by simp) hent q2;simp only[Nat.zero_add,Array.length_toList]at e1 e2 e3 q4;have hfin:∀a' w' I' O',K .normal s->Rel cfg (cx.also ms) (Um ent yes ops.size (hget H)) (λ o=>o<nx+stride*ops.size) w' I' O'->A8 N a.defers (IW ops.toList ent yes ops.size (iY T)) (Rb ops.toList ent yes ops.size) a' w' I' O' (λ o=>o<nx+stride*ops.size)->
   ∃s' I' O',K .normal s'/\jV cfg N m cx s' a' w' I' O':=by
  intro a' w' I' O' hK avn hT'
  obtain⟨hR',avo⟩:=avn.al6
  have hda:a'.defers=a.defers:=hT'.defers
  refine⟨s,I',O',hK,hS.m,?_,?_,⟨ms,hnd,hrm,hda.trans hds,λ D hD=>⟨(hms D hD).1,avo D hD⟩⟩⟩
  ·rw[q5,q4]
   show Rel cfg cx (akf tr (Um ent yes 0 (hget H))) _ w' I' O'
   rw[e3]
   exact hR'
  rw[q4]
  refine⟨rfl,hT'.size,λ t _=>?_,λ t h=>by cases h⟩
  rcases q6 t with e | ⟨e4,e5⟩
  ·rw[e];exact .pure (.undef _)
  have e4':ake ops.toList tr (Rb ops.toList ent yes 0) t=true:=e4
  have e5':iY s.tmps t=akd ops.toList tr (IW ops.toList ent yes 0 (iY T)) t:=e5
  rw[e2]at e4'
  rw[e1]at e5'
  rw[e5']
  exact hT'.rep t e4'
 cases draw with
 | false=>
  simp only at q3;exact afF hc htr hok1 hS1 hS.tmps λ a' w' I' O' hR' hT'=>hfin a' w' I' O' q3 hR' hT'
 | true=>
  simp only at q3;split at q3
  ·rename_i ahQ;have hdr:Ws ops.toList ops.toList 0=true:=by simpa using hok2
   obtain⟨gs,g1,g2,g3⟩:=ahP tr ad2 [] q7;rw[List.append_nil]at g2;have hlen:gs.length=ops.toList.length:=by rw[g1,q2]
   rw[g2,<- hlen]at ahQ;have hspec:=al7 gs ahQ;have hdyn:apK ops ent:=by
    intro i j hij hj;have hjg:j<gs.length:=by rw[hlen];simpa using hj
    have hig:i<gs.length:=by omega
    have htj:tr[j]? = some (ent j):=by
     have hlt:j<tr.length:=by omega
     show tr[j]? = some (tr.getD j _);simp[hlt]
    have hti:tr[i]? = some (ent i):=by
     have hlt:i<tr.length:=by omega
     show tr[i]? = some (tr.getD i _);simp[hlt]
    obtain⟨a1,a2⟩:=g3 j _ _ htj (List.getElem?_eq_getElem hjg);obtain⟨b1,b2⟩:=g3 i _ _ hti (List.getElem?_eq_getElem hig);rcases hspec j _ (List.getElem?_eq_getElem hjg) i _ hij (List.getElem?_eq_getElem hig)with⟨c1,c2,c3⟩ | hb
    ·refine .inr ⟨λ b hw hex hm=>Oe c2 b (b2 b hw) (a1 hex b hm),λ b hw hex hm=>Oe c1 b (a2 b hw) (b1 hex b hm),λ b hw=>?_⟩;cases hwj:wrH ent j b with
     | false=>rfl
     | true=>exact absurd (a2 b hwj) (Oe c3 b (b2 b hw))
    exact .inl hb
   exact afH hc htr hok1 hdr hdyn hS1 hS.tmps λ a' w' I' O' hR' hT'=>hfin a' w' I' O' q3 hR' hT'
  exact q3.elim
variable {r:Option Nat} {m:Nat} {K:Exit->St->Prop}
def Good.mono {N:Nat} {c:Code} {s:St} {K':Exit->St->Prop} (h:Good P cfg N r m c s K) (hk:∀e s,K e s->K' e s):Good P cfg N r m c s K':=λ n0 cx a w I O hS hrd=>
 wpIn_mono (h n0 cx a w I O hS hrd) λ e _ _ ⟨s',I',O',h1,h2⟩=>⟨s',I',O',hk e s' h1,h2⟩
def uN {N:Nat} {x y:Code} {s:St} (h:Good P cfg N r m x s λ e s'=>match e with | .normal=>Good P cfg N r m y s' K | e=>K e s'):Good P cfg N r m (.seq x y) s K:=by
 intro n0 cx a w I O hS hrd;refine wpIn_seq (wpIn_mono (h n0 cx a w I O hS hrd) ?_);intro e a' w' ⟨s',I',O',h1,h2⟩;cases e with
 | normal=>exact h1 n0 cx a' w' I' O' h2 hrd
 | exit id=>exact⟨s',I',O',h1,h2⟩
 | goto l=>exact⟨s',I',O',h1,h2⟩
 | ret=>exact⟨s',I',O',h1,h2⟩
 | panic ch=>exact⟨s',I',O',h1,h2⟩
 | outgrown=>exact⟨s',I',O',h1,h2⟩
def ahR {N:Nat} {id:Nat} {x:Code} {s:St} (h:Good P cfg N r m x s λ e s'=>match e with | .exit i=>(match Nat.beq i id with | true=>K .normal s' | false=>K (.exit i) s') | e=>K e s'):Good P cfg N r m (.block id x) s K:=by
 intro n0 cx a w I O hS hrd;refine wpIn_block (wpIn_mono (h n0 cx a w I O hS hrd) ?_);intro e a' w' ⟨s',I',O',h1,h2⟩;cases e with
 | exit i=>
  simp only[Exit.inBlock];simp only at h1;by_cases hi:i=id
  ·subst hi;have hb:Nat.beq i i=true:=by simp
   rw[hb]at h1;rw[if_pos rfl];exact⟨s',I',O',h1,h2⟩
  have hb:Nat.beq i id=false:=by
   cases hb:Nat.beq i id with
   | false=>rfl
   | true=>exact absurd (Nat.eq_of_beq_eq_true hb) hi
  rw[hb]at h1;rw[if_neg hi];exact⟨s',I',O',h1,h2⟩
 | normal=>exact⟨s',I',O',h1,h2⟩
 | goto l=>exact⟨s',I',O',h1,h2⟩
 | ret=>exact⟨s',I',O',h1,h2⟩
 | panic ch=>exact⟨s',I',O',h1,h2⟩
 | outgrown=>exact⟨s',I',O',h1,h2⟩
def WI {N:Nat} {c:Operand} {x y:Code} {s:St} {b:Bool} (hb:Zq cfg (iY s.tmps) c=.bool b) (h1:b=true->Good P cfg N r m x s K) (h2:b=false->Good P cfg N r m y s K):Good P cfg N r m (.cond c x y) s K:=by
 intro n0 cx a w I O hS hrd;have hr:=wz hS.rel hS.tmps c (λ t _=>rfl);rw[hb]at hr;refine wpIn_cond_split hr.l8 (λ h=>h1 h n0 cx a w I O hS hrd) (λ h=>h2 h n0 cx a w I O hS hrd)
def ko (hc:iI P cfg) {N:Nat} {ct:ahb}:∀(c:Code) (s:St) (K:Exit->St->Prop),jq N c=true->lN cfg (Spec P cfg) ct (Loops P cfg N r m) c s K->Good P cfg N r m c s K:=by
 intro c;induction c with
 | skip=>intro s K _ h n0 cx a w I O hS _;exact wpIn_skip ⟨s,I,O,h,hS⟩
 | region id ops draw=>
  intro s K hok h;obtain⟨T,H,nx⟩:=s;exact afL hc h hok
 | seq x y ihx ihy=>
  intro s K hok h;simp only[jq,Bool.and_eq_true]at hok;unfold lN at h;split at h
  ·exact h.ok
  refine uN ((ihx s _ hok.1 h).mono λ e s' h'=>?_);cases e with
  | normal=>exact ihy s' K hok.2 h'
  | _=>exact h'
 | cond c x y ihx ihy=>
  intro s K hok h;simp only[jq,Bool.and_eq_true]at hok;simp only[lN]at h;split at h
  ·rename_i b hb;refine WI hb (λ e=>?_) (λ e=>?_)
   ·subst e;exact ihx s K hok.1 h
   subst e;exact ihy s K hok.2 h
  exact h.elim
 | block id x ih=>
  intro s K hok h;exact ahR (ih s _ hok h)
 | loop x ih=>intro s K hok h;exact h.ok
 | rangeFunc g ps x y ihx ihy=>intro s K hok h;exact h.ok
 | exit id=>intro s K _ h n0 cx a w I O hS _;exact wpIn_exit ⟨s,I,O,h,hS⟩
 | ret=>intro s K _ h n0 cx a w I O hS _;exact wpIn_ret ⟨s,I,O,h,hS⟩
 | _=>intro s K hok h;cases hok
end
end Go.Ab

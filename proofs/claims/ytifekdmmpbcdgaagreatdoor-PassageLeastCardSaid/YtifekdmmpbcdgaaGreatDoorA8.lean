/- A part of the proof. -/
import Derived.Test.YtifekdmmpbcdgaaGreatDoorA7
import Derived.Test.YtifekdmmpbcdgaaGreatDoorA6
import Derived.Test.YtifekdmmpbcdgaaGreatDoorA4
set_option linter.unusedVariables false
set_option linter.unusedSimpArgs false
set_option maxHeartbeats 4000000
namespace Go.Proofs.YtifekdmmpbcdgaaGreatDoor
open Go.Ab
set_option maxRecDepth 100000
def vB (f:Nat->Nat):Nat->Nat
 | 0=>0
 | n+1=>vB f n+f n
theorem sum_add (f g:Nat->Nat):∀n,vB (λ i=>f i+g i) n=vB f n+vB g n:=by
 intro n;induction n with
 | zero=>rfl
 | succ n ih=>simp only [vB]; rw [ih]; omega
variable {f:Nat->Nat}
theorem UF {k:Nat} (h:∀i,f i<=k):∀n,vB f n<=k*n:=by
 intro n;induction n with
 | zero=>exact alh _
 | succ n ih=>simp only [vB]; have:=h n; rw [Nat.mul_succ]; omega
theorem ak9 {g:Nat->Nat} (h:∀i,f i=g i) (n:Nat):vB f n=vB g n:=by rw [show f=g from funext h]
theorem an1 {k:Nat} (h:∀i,k<=i->f i=0):∀n,k<=n->vB f n=vB f k:=by
 intro n;induction n with
 | zero=>intro e; rw [Nat.le_zero.1 e]
 | succ n ih=>
  intro e;by_cases c:k=n+1
  ·rw [c]
  rw [vB,ih om,h n om]; rfl
theorem VQ {α:Type} {l:List α} {i:Nat} {d v:α} (h:l.getD i d=v) (hi:i<l.length):l.set i v=l:=by
 rw [<- h,adF,adH hi];exact asq hi
theorem RB {α:Type} {l:List α} {i j:Nat} {d v:α} (hi:i<l.length):(l.set i v).getD j d=if j=i then v else l.getD j d:=by
 rw [adF,auJ,adF];by_cases e:j=i
 ·subst e; rw [if_pos rfl,if_pos hi,if_pos rfl]; rfl
 rw [if_neg (λ q=>e q.symm),if_neg e]
theorem aeW {α:Type} {l:List α} {i:Nat} {d v:α} (hi:i<l.length) (h:l.getD i d≠v):l.set i v≠l:=λ e=>h (by
 have:=RB (j:=i) (d:=d) (v:=v) hi
 rw [e,if_pos rfl] at this
 exact this)
inductive Ch:aM->azr->aM->Prop
 | nil (g:aM):Ch g [] g
 | cons {g g1 h:aM} {w:aI} {ws:azr} (a:kL w g=(true,g1)) (n:g1≠g) (v:w.Value<=4611686018427387904) (b:Ch g1 ws h):Ch g (w::ws) h
variable {g:aM}
theorem Ch.app {h k:aM} {u v:azr} (a:Ch g u h) (b:Ch h v k):Ch g (u++v) k:=by
 induction a with
 | nil=>exact b
 | cons a n v _ ih=>exact .cons a n v (ih b)
theorem Ch.one {g1:aM} {w:aI} (a:kL w g=(true,g1)) (n:g1≠g) (v:w.Value<=4611686018427387904):Ch g [w] g1:=.cons a n v (.nil _)
theorem asB {u v:Int} (h0:0<=u) (h1:u<g.Setting.length) (hv:0<=v) (hv2:v<=4611686018427387904) (hn:g.Setting.getD u.toNat 0≠v):Ch g [⟨1,u,v⟩] { g with Setting:=g.Setting.set u.toNat v }:=
 .one (by rw [ag1 hv rfl,vT h0 h1]) (λ e=>aeW om hn (congrArg aM.Setting e)) hv2
theorem asC {u v:Int} (h0:0<=u) (h1:u<g.bB.bC.length) (hv:0<=v) (hv2:v<=4611686018427387904) (hn:g.bB.bC.getD u.toNat 0≠v):Ch g [⟨2,u,v⟩] { g with bB:=⟨g.bB.On,g.bB.bC.set u.toNat v⟩ }:=
 .one (by rw [ag2 hv rfl,vT h0 h1]) (λ e=>aeW om hn (congrArg (λ g=>g.bB.bC) e)) hv2
theorem asD {u v:Int} {b:Bool} (h0:0<=u) (h1:u<g.bB.On.length) (hv:0<=v) (hv2:v<=1) (hb:(v==1)=b) (hn:g.bB.On.getD u.toNat false≠b):Ch g [⟨3,u,v⟩] { g with bB:=⟨g.bB.On.set u.toNat b,g.bB.bC⟩ }:=
 .one (by rw [ag3 hv rfl,decide_eq_true hv2,vT h0 h1]; dsimp only; rw [hb]; rfl) (λ e=>aeW om hn (congrArg (λ g=>g.bB.On) e)) (by dsimp only; omega)
theorem bits {K:Int} {get:aM->azq} {put:aM->azq->aM} (h1:∀g r,get (put g r)=r) (h2:∀g r s,put (put g r) s=put g s) (h3:∀g,put g (get g)=g)
  (ha:∀ {g:aM} {w:aI},w.dG=K->0<=w.Value->w.Value<=1->0<=w.Unit->w.Unit<(get g).length->kL w g=(true,put g ((get g).set w.Unit.toNat (w.Value==1)))):
  ∀ {ws:azr} {g:aM},(∀x∈ws,x.dG=K∧(0<=x.Value∧x.Value<=1)∧(0<=x.Unit∧x.Unit<(get g).length)∧(get g).getD x.Unit.toNat false≠(x.Value==1))->(ws.map aI.Unit).Nodup->
   ∃r,Ch g ws (put g r)∧r.length=(get g).length∧∀j:Nat,(∀x∈ws,x.Unit≠j)->r.getD j false=(get g).getD j false:=by
 intro ws;induction ws with
 | nil=>intro g _ _; exact ⟨get g,by rw [h3]; exact .nil g,rfl,λ _ _=>rfl⟩
 | cons w ws ih=>
  intro g h hn;obtain ⟨a1,⟨a2,a3⟩,⟨a4,a5⟩,a6⟩:=h w apo;rw [aqD,awV] at hn;obtain ⟨r,b1,b2,b3⟩:=ih (g:=put g ((get g).set w.Unit.toNat (w.Value==1))) (λ x hx=>by
   obtain ⟨c1,c2,c3,c4⟩:=h x (akb _ hx);have hne:x.Unit≠w.Unit:=λ e=>hn.1 (e ▸ ayW hx);rw [h1,ahl,RB om,if_neg om];exact ⟨c1,c2,c3,c4⟩) hn.2
  rw [h2] at b1;rw [h1] at b2 b3;refine ⟨r,.cons (ha a1 a2 a3 a4 a5) (λ e=>aeW om a6 (by have:=congrArg get e; rwa [h1] at this)) om b1,by rw [b2,ahl],λ j hj=>?_⟩;rw [b3 j λ x hx=>hj x (akb _ hx),RB om,if_neg];intro e;exact hj w apo om
theorem agW {ws:azr} (h:∀x∈ws,x.dG=11∧(0<=x.Value∧x.Value<=1)∧(0<=x.Unit∧x.Unit<g.Released.length)∧g.Released.getD x.Unit.toNat false≠(x.Value==1)) (hn:(ws.map aI.Unit).Nodup):
  ∃r,Ch g ws { g with Released:=r }∧r.length=g.Released.length∧∀j:Nat,(∀x∈ws,x.Unit≠j)->r.getD j false=g.Released.getD j false:=
 bits (K:=11) (get:=aM.Released) (put:=λ g r=>{ g with Released:=r }) (λ _ _=>rfl) (λ _ _ _=>rfl) (λ _=>rfl) (λ k v0 v1 u0 u1=>by rw [asy v0 k,decide_eq_true v1,vT u0 u1]; rfl) h hn
theorem an2 {ws:azr} (h:∀x∈ws,x.dG=12∧(0<=x.Value∧x.Value<=1)∧(0<=x.Unit∧x.Unit<g.aY.length)∧g.aY.getD x.Unit.toNat false≠(x.Value==1)) (hn:(ws.map aI.Unit).Nodup):
  ∃r,Ch g ws { g with aY:=r }:=by
 obtain ⟨r,h1,_⟩:=bits (K:=12) (get:=aM.aY) (put:=λ g r=>{ g with aY:=r }) (λ _ _=>rfl) (λ _ _ _=>rfl) (λ _=>rfl) (λ k v0 v1 u0 u1=>by rw [asz v0 k,decide_eq_true v1,vT u0 u1]; rfl) h hn;exact ⟨r,h1⟩
variable {k:Int}
theorem an3 {l:azw} (h:∀u∈l,u.gZ.bT≠k):LB k l=l:=by
 unfold LB NP;rw [show l.any (R3 k)=false from aml.2 λ u hu=>by unfold R3; simpa using h u hu];rfl
theorem an4 {l:azw} (h:∃u∈l,u.gZ.bT=k):(LB k l).length+1=l.length∧(∀u∈LB k l,u∈l)∧∀u∈l,u.gZ.bT≠k->u∈LB k l:=by
 obtain ⟨u,hu,e⟩:=h;have ha:l.any (R3 k)=true:=aoH.2 ⟨u,hu,by unfold R3; simpa using e⟩;have hl:=List.findIdx_lt_length_of_exists (aoH.1 ha);have hg:=List.findIdx_getElem (w:=hl);have ed:LB k l=l.eraseIdx (l.findIdx (R3 k)):=by
  unfold LB NP;rw [ha,if_pos rfl,decide_eq_true om];rfl
 rw [ed];refine ⟨by rw [List.length_eraseIdx_of_lt hl]; omega,λ x hx=>List.mem_of_mem_eraseIdx hx,λ x hx hne=>?_⟩;rw [List.mem_eraseIdx_iff_getElem];obtain ⟨i,hi,rfl⟩:=aln.1 hx;refine ⟨i,hi,λ q=>?_,rfl⟩;subst q;exact hne (by simpa [R3] using (show R3 k l[List.findIdx (R3 k) l]=true from hg))
theorem an5:∀ {ws:azr} {g:aM},(∀x∈ws,x.dG=10∧x.Value=0∧(0<=x.Unit∧x.Unit<=23)∧∃u∈g.Uses,u.gZ.bT=x.Unit)->(ws.map aI.Unit).Nodup->∃U,Ch g ws { g with Uses:=U }∧∀u∈U,u∈g.Uses:=by
 intro ws;induction ws with
 | nil=>intro g _ _; exact ⟨g.Uses,.nil g,λ _ h=>h⟩
 | cons w ws ih=>
  intro g h hn;obtain ⟨a1,a2,⟨a3,a4⟩,a5⟩:=h w apo;rw [aqD,awV] at hn;obtain ⟨q1,q2,q3⟩:=an4 a5;obtain ⟨U,b1,b2⟩:=ih (g:={ g with Uses:=LB w.Unit g.Uses }) (λ x hx=>by
   obtain ⟨c1,c2,c3,u,c4,c5⟩:=h x (akb _ hx);have hne:x.Unit≠w.Unit:=λ e=>hn.1 (e ▸ ayW hx);exact ⟨c1,c2,c3,u,q3 u c4 om,c5⟩) hn.2
  refine ⟨U,.cons (by rw [ap0 om a1,decide_eq_true a3,decide_eq_true a4,a2]; rfl) (λ e=>?_) om b1,λ u hu=>q2 u (b2 u hu)⟩;have:=congrArg (λ g=>g.Uses.length) e;dsimp only at this;omega
theorem an6:∀ {ws:azr} {g:aM},(∀x∈ws,x.dG=10∧(0<x.Value∧x.Value<=4611686018427387904)∧(0<=x.Unit∧x.Unit<=23)∧∀u∈g.Uses,u.gZ.bT≠x.Unit)->(ws.map aI.Unit).Nodup->∃U,Ch g ws { g with Uses:=U }:=by
 intro ws;induction ws with
 | nil=>intro g _ _; exact ⟨g.Uses,.nil g⟩
 | cons w ws ih=>
  intro g h hn;obtain ⟨a1,⟨a2,a2'⟩,⟨a3,a4⟩,a5⟩:=h w apo;rw [aqD,awV] at hn;obtain ⟨U,b1⟩:=ih (g:={ g with Uses:=g.Uses++[⟨-1,⟨w.Unit,w.Value - 1⟩⟩] }) (λ x hx=>by
   obtain ⟨c1,c2,c3,c4⟩:=h x (akb _ hx);refine ⟨c1,c2,c3,λ u hu=>?_⟩;rcases alf.1 hu with q | q
   ·exact c4 u q
   rw [ahf.1 q];exact λ e=>hn.1 (by rw [show w.Unit=x.Unit from e]; exact ayW hx)) hn.2
  refine ⟨U,.cons (by rw [ap0 om a1,decide_eq_true a3,decide_eq_true a4,an3 a5]; unfold abp; rw [decide_eq_true a2]; rfl) (λ e=>?_) a2' b1⟩;have:=congrArg (λ g=>g.Uses.length) e;simp at this
def sel (p:Nat->Bool) (w:Nat->aI):Nat->azr
 | 0=>[]
 | n+1=>sel p w n++(bif p n then [w n] else [])
theorem aeX (p:Nat->Bool) (w:Nat->aI) (n:Nat):(sel p w n).length=vB (λ i=>bif p i then 1 else 0) n:=by
 induction n with
 | zero=>rfl
 | succ n ih=>rw [sel,afa,ih,vB]; cases p n<;>rfl
theorem uV {p:Nat->Bool} {w:Nat->aI} {x:aI}:∀ {n:Nat},x∈sel p w n->∃i,i<n∧p i=true∧x=w i:=by
 intro n;induction n with
 | zero=>intro h; cases h
 | succ n ih=>
  intro h;rcases alf.1 h with q | q
  ·obtain ⟨i,h1,h2⟩:=ih q;exact ⟨i,om,h2⟩
  cases e:p n with
  | true=>rw [e] at q; exact ⟨n,om,e,ahf.1 q⟩
  | false=>rw [e] at q; cases q
theorem abK {p:Nat->Bool} {w:Nat->aI} (hu:∀i:Nat,(w i).Unit=i) (n:Nat):((sel p w n).map aI.Unit).Nodup:=by
 induction n with
 | zero=>exact atl
 | succ n ih=>
  rw [sel,as4,List.nodup_append];refine ⟨ih,by cases p n<;>simp,λ a ha b hb e=>?_⟩;subst e;obtain ⟨x,hx,e1⟩:=aq1.1 ha;obtain ⟨y,hy,e2⟩:=aq1.1 hb;obtain ⟨i,hi,_,rfl⟩:=uV hx;cases q:p n with
  | true=>rw [q] at hy; rw [ahf.1 hy] at e2; rw [hu] at e1 e2; omega
  | false=>rw [q] at hy; cases hy
def Jd (k:Int) (ws:azr):Nat:=ws.countP λ x=>x.dG==k
variable {a:azr}
theorem ap1 {b:azr} :Jd k (a++b)=Jd k a+Jd k b:=asZ
theorem V7 (h:∀x∈a,x.dG=k):Jd k a=a.length:=List.countP_eq_length.2 λ x hx=>by rw [h x hx]; exact beq_self_eq_true _
theorem aeY (h:∀x∈a,x.dG≠k):Jd k a=0:=List.countP_eq_zero.2 λ x hx=>by simpa using h x hx
end Go.Proofs.YtifekdmmpbcdgaaGreatDoor
namespace Go.Proofs.YtifekdmmpbcdgaaGreatDoor
open Go.Ab
set_option maxRecDepth 100000
theorem Je {α β:Type} (f:α->β) (l:List α) (d:α) {i:Nat} (h:i<l.length):(l.take (i+1)).map f=(l.take i).map f++[f (l.getD i d)]:=by
 rw [as3,as4,adH h,adF,adH h];rfl
def aur (g:dh) (f:ByteArray):Int:=NP g.au λ x=>f.toList==x.toList
def axc (p:bR) (f:ByteArray) (n:Nat):azp:=((List.range n).filter λ i=>decide (0<=aur (p.aH.getD i aN) f)).map λ i=>((i:Nat):Int)
def GSz (p:bR):Prop:=∀g∈p.aH,g.cu.length<=2000000∧g.au.length<=2000000
end Go.Proofs.YtifekdmmpbcdgaaGreatDoor
namespace Go.Proofs.YtifekdmmpbcdgaaGreatDoor
open Go.Ab
set_option maxRecDepth 100000
theorem gX {p:Prop} {c:Int} {A:Int->Prop} (hc:c≠0) (h:LG p c A 0):¬p∧A 0:=by
 rcases h with ⟨_,h⟩ | h
 ·exact absurd h.symm hc
 exact h
variable {b:aV} {l:azu} {ms:azp}
theorem aeZ {g:aM} {bt:Bool} (h:NV b l ms g bt 0):FZ b.aU 0∧EC b.aU (g.Uses.map aJ.gZ):=by
 obtain ⟨_,h⟩:=gX (by decide) h;obtain ⟨_,h⟩:=gX (by decide) h;obtain ⟨_,h⟩:=gX (by decide) h;obtain ⟨_,h⟩:=gX (by decide) h;obtain ⟨_,h⟩:=gX (by decide) h;exact alN.1 (gX (by decide) h).1
def NY (ms:azp) (us:azw):azw:=us.filter λ u=>ms.contains u.gP
variable {α:Type}
theorem Kj (P:α->Bool) (l:List α) (d:α) {i:Nat} (h:i<l.length):(l.take (i+1)).filter P=(l.take i).filter P++(if P (l.getD i d) then [l.getD i d] else []):=by
 rw [as3,List.filter_append,adH h,adF,adH h];congr 1;simp only [Option.toList_some,as8,avn,List.filter_nil]
abbrev GA:=azp×azq×azp×azq×azq×Int×Int×azw
structure aAu (r:GA):Prop where
 a:r.1.length<=16
 b:r.2.1.length<=16
 c:r.2.2.1.length<=16
 d:r.2.2.2.1.length<=32
 e:r.2.2.2.2.1.length<=16
structure aAv (b:aV) (fns:azB) (dev:Int) (old:azw) (new:azw):Prop where
 pa:FZ b.aU 0
 len:new.length=fns.length
 bd:fns.length<=10
 at_:∀i:Nat,i<new.length->(new.getD i bA).gP=dev∧0<=(new.getD i bA).gZ.bT∧(new.getD i bA).gZ.bT<b.aU.aH.length∧(new.getD i bA).gZ.dJ=aur (b.aU.aH.getD (new.getD i bA).gZ.bT.toNat aN) (fns.getD i ByteArray.empty)
 lst:fns.length=1->∀k∈axc b.aU (fns.getD 0 ByteArray.empty) b.aU.aH.length,k<(new.getD 0 bA).gZ.bT->
  ∃u∈old,∃x,x∈(b.aU.aH.getD u.gZ.bT.toNat aN).cu∧x∈(b.aU.aH.getD k.toNat aN).cu
variable {l_:azu}
theorem Ia {aj:azp} (h1:∀x∈l_,x.au.length<=10) (h2:aj.length<=10000):W (rz l_ aj) (λ _=>True):=by
 unfold rz;refine bS (λ g1:Int×Int=>0<=g1.2∧0<=g1.1∧g1.1<=10*g1.2) (λ g1=>(aj.length - g1.2).toNat) ?_ ob;intro ah g1 ⟨a1,a2,a3⟩ ih1;unfold FD;refine bV (λ c=>?_) (λ c=>aC trivial);have c:=eX c;refine wn<|bV ?_ ?_<;>intro c2
 ·have c2:=eX c2;have hx:=h1 _ (getD_in (i:=(aj.getD g1.2.toNat 0).toNat) bK om);refine wn<|aP (by unfold ay; omega) ?_;refine aP (by unfold ay; omega) ?_;exact ih1 _ ⟨by dsimp only; omega,by dsimp only; omega,by dsimp only; omega⟩ (by dsimp only; omega)
 refine aP (by unfold ay; omega) ?_;exact ih1 _ ⟨by dsimp only; omega,by dsimp only; omega,by dsimp only; omega⟩ (by dsimp only; omega)
structure Ga2 (r:GA):Prop where
 a:r.1.length<=2000000
 b:r.2.1.length<=2000000
 c:r.2.2.1.length<=2000000
 d:r.2.2.2.1.length<=2000000
 e:r.2.2.2.2.1.length<=2000000
theorem BO (p e:Int):Ga2 ([],[],[],[],[],p,e,[]):=⟨by simp,by simp,by simp,by simp,by simp⟩
structure Lst (n:Nat) (C:azq->Prop) (ls:azp) (s:azq):Prop where
 ln:s.length=n
 cl:C s
 mm:∀x∈ls,s.getD x.toNat false=true
def jn {α:Type} (f:aR->List α) (l:azu) (ms:azp):List α:=ms.flatMap λ m=>f (l.getD m.toNat bK)
theorem ED {f:aR->List α} {i:Nat} (h:i<ms.length):jn f l (ms.take (i+1))=jn f l (ms.take i)++f (l.getD (ms.getD i 0).toNat bK):=by
 unfold jn;rw [iM 0 h,auU,ayx,azn,amL]
theorem QD {f:aR->List α} {c:Nat}:∀ {ms:azp},(∀m∈ms,(f (l.getD m.toNat bK)).length<=c)->(jn f l ms).length<=c*ms.length:=by
 intro ms;induction ms with
 | nil=>intro _; exact alh _
 | cons m ms ih=>
  intro h;have h1:=h m apo;have h2:=ih λ x hx=>h x (akb _ hx);unfold jn at h2 ⊢;rw [ayx,afa,ajO,Nat.mul_succ];omega
def usF (n:aR):azp:=bif decide (n.fV<0) then [] else [n.fV]
theorem ajK (n:aR):(usF n).length<=1:=by
 unfold usF;cases decide (n.fV<0)<;>simp
def asE (l:azs) (m:azz) (s:azp):Prop:=VS l s∧fH l s m=true
structure AgA (b:aV) (l:azu) (ms:azp) (us:azw) (x:aM):Prop where
 st:asE b.bP (jn aR.dx l ms) x.Setting
 ra:Sp.qH b.bI (jn aR.fJ l ms)=(x.bB,0)
 us:x.Uses=NY ms us
 re:Lst b.bH.length (asn b.bH) (jn aR.bH l ms) x.Released
 po:Lst b.bX.length (aso b.bX) (jn usF l ms) x.aY
def SmN (l:azu):Prop:=∀x∈l,x.dx.length<=1∧x.fJ.length<=1∧x.au.length<=2
theorem abL (h:CJ l ms):∀m∈ms,0<=m∧m<l.length:=mG 0 λ j hj=>(h j om).1
theorem LU (h:CJ l ms) {m:Int} (hm:m∈ms):l.getD m.toNat bK∈l:=getD_in bK (by have:=abL h m hm; omega)
theorem ae0 (hn:uj b l 0) (hs:SmN l) (hd:CJ l ms) (h4:ms.length<=30):Sp.iN b.bI (jn aR.fJ l ms)=true∧(jn aR.fJ l ms).length<=30:=by
 obtain ⟨hb,_,hnd⟩:=zS hn;have hl:=QD (f:=aR.fJ) (l:=l) (c:=1) (ms:=ms) λ m hm=>(hs _ (LU hd hm)).2.1;refine ⟨?_,om⟩;unfold Sp.iN;rw [hb.su,decide_eq_true om,aml.2 λ x hx=>?_]
 ·rfl
 obtain ⟨m,hm,hx⟩:=auR.1 hx;obtain ⟨x1,x2,x3,x4,x5,x6,x7⟩:=(hnd _ (LU hd hm)).dw x hx;unfold Sp.abh Sp.dS;simp only [al4,ahk,als,decide_eq_false_iff_not];omega
theorem ae1 (h:uj b l 0):FZ b.aU 0∧RsA b.bH 0∧DmA b.bX 0:=by
 obtain ⟨h1,_⟩:=QC h;obtain ⟨_,h3⟩:=QC h1;obtain ⟨_,h4⟩:=QC h3;obtain ⟨b3,h5⟩:=QC h4;exact ⟨b3,QC h5⟩
theorem XK {l:azs} {s:azp} {m:azz}:fH l s m=true↔mF l m=true∧kH l s=true∧ownB l (fU l s)=true∧∀x∈m,RV (fU l s) x=false:=by
 unfold fH;rw [aei,aei,aei,ahk,and_assoc];refine and_congr_right λ _=>and_congr_right λ _=>and_congr_right λ _=>?_;constructor
 ·intro h x hx;cases q:RV (fU l s) x with
  | false=>rfl
  | true=>rw [aoH.2 ⟨x,hx,q⟩] at h; cases h
 intro h;exact aml.2 λ x hx=>by rw [h x hx]; decide
theorem adw {l:azs} {s:azp} {m m':azz} (h:fH l s m=true) (hl:mF l m'=true) (hm:∀x∈m',x∈m):fH l s m'=true:=by
 obtain ⟨_,h2,h3,h4⟩:=XK.1 h;exact XK.2 ⟨hl,h2,h3,λ x hx=>h4 x (hm x hx)⟩
theorem iX {p:Prop} {c:Int} {A:Int->Prop} (h:¬p) (a:A 0):LG p c A 0:=.inr ⟨h,a⟩
variable {us:azw}
theorem an8 {x:aM} (hn:uj b l 0) (hs:SmN l) (hd:CJ l ms) (h4:ms.length<=30) (h:AgA b l ms us x) (ho:EC b.aU (x.Uses.map aJ.gZ)) (hf:asw b l ms x):NV b l ms x false 0:=by
 obtain ⟨s1,s2⟩:=h.st;obtain ⟨hpa,hra,hda⟩:=ae1 hn;obtain ⟨_,_,hnd⟩:=zS hn;obtain ⟨m1,m2,m3,m4⟩:=XK.1 s2;have hmt:fH b.bP x.Setting []=true:=adw s2 (by unfold mF; rw [(FQ m1).1]; rfl) nofun;have hll:(Sp.qH b.bI (jn aR.fJ l ms)).2=0:=by rw [h.ra]
 have hlr:=Sp.XJ hll;rw [h.ra] at hlr;have hmi:∀i:Nat,(i:Int)<ms.length->ms.getD i 0∈ms:=λ i hi=>getD_in 0 om;have hin:∀ {α:Type} (f:aR->List α) (i:Nat),(i:Int)<ms.length->∀x∈f (l.getD (ms.getD i 0).toNat bK),x∈jn f l ms:=λ f i hi x hx=>auR.2 ⟨_,hmi i hi,hx⟩;refine iX (λ q=>q hn) (iX (λ q=>q ⟨hd,⟨by rw [s1.1],by rw [hlr.1],by rw [hlr.2],by rw [h.re.ln],by rw [h.po.ln]⟩,λ i hi=>s1.2 i (by rw [s1.1] at hi; omega),λ i hi=>?_⟩) (iX (by rw [hmt]; decide) (iX (λ q=>q λ i hi j hj=>?_) (iX ?_ (iX (λ q=>q ⟨hpa,ho⟩) (iX (λ q=>q hf) (iX (λ q=>q ⟨⟨hra,by rw [h.re.ln],λ i hi j hj e=>h.re.cl i hi e _ (getD_in 0 om)⟩,λ i hi j hj=>?_⟩) (iX (λ q=>q ⟨⟨hda,by rw [h.po.ln],λ i hi=>⟨λ e=>h.po.cl.al i hi e,λ e=>h.po.cl.pa i hi e⟩⟩,λ i hi e=>?_⟩) rfl))))))))
 ·have hu:=getD_in (l:=x.Uses) (i:=i) bA om;have hu2:x.Uses.getD i bA∈NY ms us:=by rw [<- h.us]; exact hu
  have hx:=abL hd _ (aqC.1 (ayQ.1 hu2).2);omega
 ·have hx:=getD_in (l:=(l.getD (ms.getD i 0).toNat bK).dx) (i:=j) dN om;refine (UD hmt ((hnd _ (LU hd (hmi i hi))).lm _ hx)).1 (adw s2 ?_ λ y hy=>?_)
  ·obtain ⟨q1,q2,q3⟩:=FQ m1;have:=Ke m1 _ (hin aR.dx i hi _ hx);unfold mF;rw [q1,aua,List.any_nil,ayC];rw [show Ka b.bP.length ⟨((l.getD (ms.getD i 0).toNat bK).dx.getD j dN).eO,((l.getD (ms.getD i 0).toNat bK).dx.getD j dN).lC,((l.getD (ms.getD i 0).toNat bK).dx.getD j dN).fI⟩=false from this];rfl
  rw [ahf] at hy;rw [hy]; exact hin aR.dx i hi _ hx
 ·rcases Sp.aiw (ae0 hn hs hd h4).1 with ⟨_,q⟩ | ⟨q,_⟩
  ·rw [h.ra] at q;have:=q.ok;show ¬ Sp.fH b.bI x.bB (jn aR.fJ l ms)=false;rw [this]; decide
  rw [h.ra] at q; exact absurd (Prod.mk.inj q).2 (by decide)
 ·exact h.re.mm _ (hin aR.bH i hi _ (getD_in 0 om))
 refine h.po.mm _ (hin usF i hi _ ?_);unfold usF;rw [decide_eq_false om];exact ahf.2 rfl
variable {b_:aV} {g_:aM}
theorem QE {aj:azp} {dO:Int} (h1:Lx b_) (h2:GSz b_.aU) (h3:UA l_) (h4:aj.length<=10000) (h5:Ai g_):W (zq b_ l_ aj g_ dO) (λ r=>r=0->uj b_ l_ 0∧(FZ b_.aU 0∧EC b_.aU (g_.Uses.map aJ.gZ))∧0<=dO∧dO<l_.length):=by
 unfold zq;refine aG (BN h1 h2 h3) λ v1 hv1=>?_;refine bV ?_ ?_<;>intro c1
 ·have c1:=eX c1;exact aC λ e=>absurd e c1
 have c1:=eX c1;rw [c1] at hv1;have hl:=(zS hv1).2.1;refine aG (uT om om) λ v2 _=>?_;refine bV (λ c2=>aC nofun) (λ c2=>?_);refine aG (P:=λ v=>v=true->FZ b_.aU 0∧EC b_.aU (g_.Uses.map aJ.gZ)) ?_ λ v3 hv3=>?_
 ·unfold PX;refine aG (Zv h1 h2 h3 h4 h5) λ v hv=>aC λ e=>?_;have e:v=0:=by simpa using e
  rw [e] at hv;exact aeZ hv
 refine bV (λ c3=>aC nofun) (λ c3=>?_);have c3:=eX c3;refine bV (λ c4=>aC nofun) (λ c4=>?_);have c4:=eX c4;exact aC λ _=>⟨hv1,hv3 c3,c4.1,c4.2⟩
theorem V8 {f:aR->List α} {k:Nat} (hf:∀x∈l,(f x).length<=2000000) (hin:∀m∈ms,0<=m∧m<l.length) (hm:ms.length<=10000) (hk:k<=64):W (dI (λ (self:Int×List α->M (List α)) g1=>
 bif (decide (g1.1<(ms.length:Int))) then
  need (0<=g1.1∧g1.1<(ms.length:Int))<|
  bif ((decide ((0:Int)<=(ms.getD g1.1.toNat 0)))&&(decide ((ms.getD g1.1.toNat 0)<(l.length:Int)))) then
   need (0<=(ms.getD g1.1.toNat 0)∧(ms.getD g1.1.toNat 0)<(l.length:Int))<|
   need ((g1.2.length+(f (l.getD ((ms.getD g1.1.toNat 0).toNat) bK)).length)*k<=big)<|
   need (ay (g1.1+(1:Int)))<|
   self ((g1.1+(1:Int)),(g1.2++f (l.getD ((ms.getD g1.1.toNat 0).toNat) bK)))
  else
   need (ay (g1.1+(1:Int)))<|
   self ((g1.1+(1:Int)),g1.2)
 else
  ret g1.2) ((0:Int),([]:List α))) (λ r=>r=jn f l ms):=by
 refine bS (λ g1:Int×List α=>0<=g1.1∧g1.1<=ms.length∧g1.2=jn f l (ms.take g1.1.toNat)) (λ g1=>(ms.length - g1.1).toNat) ?_ ⟨ob,ob,rfl⟩;intro self g1 ⟨h1,h2,h3⟩ ih;refine wi ?_ ?_<;>intro c
 ·have hx:=hin _ (getD_in (i:=g1.1.toNat) 0 om);have hl:=QD (f:=f) (l:=l) (c:=2000000) (ms:=ms.take g1.1.toNat) λ m q=>hf _ (getD_in bK (by have:=hin m (auN q); omega));rw [<- h3,ahj] at hl;have hv2:=hf _ (getD_in (i:=(ms.getD g1.1.toNat 0).toNat) bK om);have hb:(g1.2.length+(f (l.getD ((ms.getD g1.1.toNat 0).toNat) bK)).length)*k<=(g1.2.length+(f (l.getD ((ms.getD g1.1.toNat 0).toNat) bK)).length)*64:=aqT _ hk;refine wn<|bV (λ c2=>?_) (λ c2=>by rw [decide_eq_true hx.1,decide_eq_true hx.2] at c2; cases c2);refine aP hx ?_;refine aP (by unfold big; omega) ?_;refine wn ?_;exact ih _ ⟨ob,ob,by dsimp only; rw [show (g1.1+1).toNat=g1.1.toNat+1 by omega,ED om,h3]⟩ ob
 exact aC (by rw [h3,aiI om])
theorem Ib {l_:azp} {x_:Int} (h:l_.length<=2000000):W (FH l_ x_) (λ r=>r=l_.contains x_):=by
 unfold FH;refine bS (λ g1:Int=>0<=g1∧∀j:Nat,(j:Int)<g1->l_.getD j 0≠x_) (λ g1=>(l_.length - g1).toNat) ?_ ⟨ob,λ j hj=>by omega⟩;intro ah g1 ⟨a1,a2⟩ ih1;unfold YP;refine wi ?_ ?_<;>intro c
 ·refine wn<|wi ?_ ?_<;>intro c2
  ·refine aC (aqC.2 ?_).symm;rw [<- c2]; exact getD_in 0 om
  exact aP ob (ih1 _ ⟨om,fq a2 a1 c2⟩ om)
 refine aC ?_;cases q:l_.contains x_ with
 | false=>rfl
 | true=>
  have:∀y∈l_,y≠x_:=mG 0 λ j hj=>a2 j om;exact absurd rfl (this _ (aqC.1 q))
def FL (b:aV) (l:azu) (ms:azp):Prop:=(∃t,VS b.bP t∧fH b.bP t (jn aR.dx l ms)=true)∧(Sp.qH b.bI (jn aR.fJ l ms)).2=0
variable {M_:azp}
theorem ae2 {l_:azw} (h1:l_.length<=2000000) (h2:M_.length<=10000):W (Rp l_ M_) (λ r=>r=NY M_ l_):=by
 unfold Rp;refine bS (λ g1:Int×azw=>0<=g1.1∧g1.1<=l_.length∧g1.2=NY M_ (l_.take g1.1.toNat)) (λ g1=>(l_.length - g1.1).toNat) ?_ ⟨ob,ob,rfl⟩;intro ah g1 ⟨a1,a2,a3⟩ ih1;have hl:g1.2.length<=g1.1.toNat:=by
  rw [a3]; unfold NY;exact afQ (arz _ _) (by rw [ahj]; omega)
 unfold VA;refine wi ?_ ?_<;>intro c
 ·have hs:=Kj (λ u:aJ=>M_.contains u.gP) l_ bA (i:=g1.1.toNat) om;have e:(g1.1+1).toNat=g1.1.toNat+1:=by omega
  refine wn<|aG (Ib om) λ v8 BG=>?_;refine bV ?_ ?_<;>intro c2
  ·rw [c2] at BG;refine aP (by unfold big; omega) ?_;refine wn<|ih1 _ ⟨ob,ob,?_⟩ ob;dsimp only;unfold NY at a3 ⊢;rw [e,hs,<- a3,if_pos BG.symm]
  rw [c2] at BG;refine wn<|ih1 _ ⟨ob,ob,?_⟩ ob;dsimp only;unfold NY at a3 ⊢;rw [e,hs,<- a3,if_neg (by rw [<- BG]; exact azc),amL]
 exact aC (by rw [a3,aiI om])
theorem Nv {l_:azw} (h1:l_.length<=2000000) (h2:M_.length<=10000):W (zu l_ M_) (λ r=>r=NY M_ l_):=by
 unfold zu;refine bS (λ g1:Int×azw=>0<=g1.1∧g1.1<=l_.length∧g1.2=NY M_ (l_.take g1.1.toNat)) (λ g1=>(l_.length - g1.1).toNat) ?_ ⟨ob,ob,rfl⟩;intro ah g1 ⟨a1,a2,a3⟩ ih1;have hl:g1.2.length<=g1.1.toNat:=by
  rw [a3]; unfold NY;exact afQ (arz _ _) (by rw [ahj]; omega)
 unfold Nh;refine wi ?_ ?_<;>intro c
 ·have hs:=Kj (λ u:aJ=>M_.contains u.gP) l_ bA (i:=g1.1.toNat) om;have e:(g1.1+1).toNat=g1.1.toNat+1:=by omega
  refine wn<|aG (Ib om) λ v8 BG=>?_;refine bV ?_ ?_<;>intro c2
  ·rw [c2] at BG;refine aP (by unfold big; omega) ?_;refine wn<|ih1 _ ⟨ob,ob,?_⟩ ob;dsimp only;unfold NY at a3 ⊢;rw [e,hs,<- a3,if_pos BG.symm]
  rw [c2] at BG;refine wn<|ih1 _ ⟨ob,ob,?_⟩ ob;dsimp only;unfold NY at a3 ⊢;rw [e,hs,<- a3,if_neg (by rw [<- BG]; exact azc),amL]
 exact aC (by rw [a3,aiI om])
theorem Nw {l_:azC} {kJ:azp} (h1:∀g∈l_,g.fF.length<=2000000) (h2:kJ.length<=100000000000) (h0:RsA l_ 0) (h4:∀x∈kJ,0<=x∧x<l_.length):W (zo l_ kJ) (λ r=>r.2=0∧Lst l_.length (asn l_) kJ r.1):=by
 unfold zo;refine aG (F4 h1) λ v1 hv1=>?_;have e1:=RsA.fun _ _ hv1 h0;subst e1;refine bV (λ c1=>by cases c1) (λ c1=>?_)
 obtain ⟨p1,p2⟩:=h0.ok;refine wn<|bS (λ (g1:Int×azq)=>0<=g1.1∧g1.2.length=l_.length∧(∀j:Nat,(j:Int)<g1.1->g1.2.getD (kJ.getD j 0).toNat false=true)) (λ (g1:Int×azq)=>(kJ.length - g1.1).toNat) ?_ ?_
 ·intro ah g1 eU dB;obtain ⟨dZ,bW,bN⟩:=eU;unfold M4;refine wi ?_ ?_<;>intro c2
  ·refine wn ?_;have hm:=getD_in (l:=kJ) (i:=g1.1.toNat) 0 om;have hx:=h4 _ hm;refine wn<|bV (λ c3=>by have c3:=eX c3; omega) (λ c3=>?_)
   ·have c3:=eX c3;refine wm<|wn ?_;refine dB _ ?_ ?_
    ·(refine ⟨ob,ob,λ j hj=>LD ?_ om⟩; by_cases q:(j:Int)<g1.1; (exact .inl (bN j q)); (have e:j=g1.1.toNat:=by (try dsimp only at hj); omega); subst e; exact .inr rfl)
    exact ob
  refine wn<|bS (λ (g2:Int×azq) => -1<=g2.1∧g2.1<l_.length∧g2.2.length=l_.length∧(∀j:Nat,(j:Int)<kJ.length->g2.2.getD (kJ.getD j 0).toNat false=true)∧(∀i:Nat,g2.1<(i:Int)->(i:Int)<l_.length->g2.2.getD i false=true->∀x∈(l_.getD i d9).fF,g2.2.getD x.toNat false=true)) (λ (g2:Int×azq)=>(g2.1+1).toNat) ?_ ?_
  ·intro dY g2 nD rF;obtain ⟨sK,jN,nk,DV,TP⟩:=nD;unfold JU;refine wi ?_ ?_<;>intro c4
   ·have hgl:=h1 _ (getD_in (i:=g2.1.toNat) d9 om);refine bS (λ (g5:Int×azq)=>0<=g5.1∧g5.2.length=l_.length∧(∀j:Nat,(j:Int)<kJ.length->g5.2.getD (kJ.getD j 0).toNat false=true)∧(∀i:Nat,g2.1<(i:Int)->(i:Int)<l_.length->g5.2.getD i false=true->∀x∈(l_.getD i d9).fF,g5.2.getD x.toNat false=true)∧(∀k:Nat,(k:Int)<g5.1->g5.2.getD (((l_.getD g2.1.toNat d9).fF).getD k 0).toNat false=true)) (λ (g5:Int×azq)=>((l_.getD g2.1.toNat d9).fF.length - g5.1).toNat) ?_ ?_
    ·intro nP g5 XE XF;obtain ⟨TG,FV,Ns,abC,agV⟩:=XE;unfold JR;refine wm<|bV ?_ ?_<;>intro c5
     ·have Di:=c5;have c5:=eX c5;simp only [aei,decide_eq_true_eq] at Di;have hxm:=getD_in (l:=(l_.getD g2.1.toNat d9).fF) (i:=g5.1.toNat) 0 om;have hx:=p2 g2.1.toNat om _ hxm;refine wm<|wm ?_;refine XF _ ?_ ?_
      ·(refine ⟨ob,ob,λ j hj=>LD (.inl (Ns j hj)) om,λ i h3 h4 h5 x hx2=>?_,λ k hk=>LD ?_ om⟩; (rw [BL om] at h5; exact LD (.inl (abC i h3 h4 h5 x hx2)) om); by_cases q:(k:Int)<g5.1; (exact .inl (agV k q)); (have e:k=g5.1.toNat:=by (try dsimp only at hk); omega); subst e; exact .inr rfl)
      exact ob
     have Di:=c5;have c5:=eX c5;refine wn<|rF _ ?_ ?_
     ·(refine ⟨ob,ob,FV,Ns,λ i h3 h4 h5=>?_⟩; by_cases q:g2.1<(i:Int); (exact abC i q h4 h5); (have e:i=g2.1.toNat:=by (try dsimp only at h3); omega); subst e; refine mG 0 λ k hk=>agV k ?_; rw [h5,ayB] at Di; have:=of_decide_eq_false Di; omega)
     exact ob
    (refine ⟨ob,nk,DV,TP,λ k hk=>by (try dsimp only at hk); omega⟩)
   exact aC (⟨rfl,nk,λ i hi=>TP i om hi,mG 0 λ j hj=>DV j om⟩)
  (refine ⟨ob,ob,bW,λ j hj=>bN j om,λ i h1 h2=>by (try dsimp only at h1); omega⟩)
 (refine ⟨ob,by simp,λ j hj=>by (try dsimp only at hj); omega⟩)
theorem ae3 {l_:azD} {iT:azp} (h1:DmA l_ 0) (h3:iT.length<=100000000000) (h4:∀x∈iT,0<=x∧x<l_.length):W (Ro l_ iT) (λ r=>r=0):=by
 unfold Ro;refine aG F5 λ v1 hv1=>?_;have e1:=DmA.fun _ _ hv1 h1;subst e1;refine bV (λ c1=>by cases c1) (λ _=>?_);refine bS (λ g1:Int=>0<=g1) (λ g1=>(iT.length - g1).toNat) ?_ (apw _);intro ah g1 a1 ih1;unfold Vy;refine bV (λ c=>?_) (λ c=>aC rfl);have c:=eX c;have hx:=h4 _ (getD_in (i:=g1.toNat) 0 om);refine wm<|bV (λ c2=>by have c2:=eX c2; omega) (λ c2=>?_);refine wn ?_;exact ih1 _ om om
theorem Y3 {l_:azD} {iT:azp} (h1:iT.length<=2000000) (h0:DmA l_ 0) (h4:∀x∈iT,0<=x∧x<l_.length):W (PS l_ iT) (λ r=>r.2=0∧Lst l_.length (aso l_) iT r.1):=by
 unfold PS;refine aG (ae3 h0 om h4) λ v1 hv1=>?_;subst hv1;refine bV (λ c1=>by cases c1) (λ c1=>?_)
 obtain ⟨p1,p2⟩:=h0.ok;have p3:=h4;refine wn<|bS (λ (g1:Int×azq)=>0<=g1.1∧g1.2.length=l_.length∧(∀j:Nat,(j:Int)<g1.1->g1.2.getD (iT.getD j 0).toNat false=true)) (λ (g1:Int×azq)=>(iT.length - g1.1).toNat) ?_ ?_
 ·intro ah g1 eU dB;obtain ⟨dZ,bW,bN⟩:=eU;unfold YO;refine wi ?_ ?_<;>intro c2
  ·have hm:=getD_in (l:=iT) (i:=g1.1.toNat) 0 om;have hx:=p3 _ hm;refine wm<|wn ?_;refine dB _ ?_ ?_
   ·(refine ⟨ob,ob,λ j hj=>LD ?_ om⟩; by_cases q:(j:Int)<g1.1; (exact .inl (bN j q)); (have e:j=g1.1.toNat:=by (try dsimp only at hj); omega); subst e; exact .inr rfl)
   exact ob
  refine wn<|bS (λ (g2:Int×azq) => -1<=g2.1∧g2.1<l_.length∧g2.2.length=l_.length∧(∀j:Nat,(j:Int)<iT.length->g2.2.getD (iT.getD j 0).toNat false=true)∧(∀i:Nat,g2.1<(i:Int)->(i:Int)<l_.length->RgK l_ g2.2 i)) (λ (g2:Int×azq)=>(g2.1+1).toNat) ?_ ?_
  ·intro dY g2 nD rF;obtain ⟨sK,jN,nk,DV,TP⟩:=nD;unfold Vz;refine wi ?_ ?_<;>intro c3
   ·have hp:=p2 g2.1.toNat om;refine wm<|wn ?_;unfold Ld;refine wm<|bV ?_ ?_<;>intro c4
    ·have uq:=c4;have c4:=eX c4;refine wm<|wn ?_;refine rF _ ?_ ?_
     ·(have q:=Bool.and_eq_true_iff.1 uq; have q2:=of_decide_eq_true q.2; refine ⟨ob,ob,ob,λ j hj=>LD (.inl (V3 om (DV j hj))) (by rw [ahl]; omega),λ k h3 h4=>auh om nk om TP (by (try dsimp only at h3); omega) h4⟩)
     exact ob
    have uq:=c4;have c4:=eX c4;refine wn<|rF _ ?_ ?_
    ·(refine ⟨ob,ob,ob,λ j hj=>V3 om (DV j hj),λ k h3 h4=>aug om nk TP (λ hq=>by rw [hq.1,decide_eq_true hq.2] at uq; cases uq) (by (try dsimp only at h3); omega) h4⟩)
    exact ob
   exact aC (⟨rfl,nk,⟨λ i hi=>(TP i om hi).1,λ i hi=>(TP i om hi).2⟩,mG 0 λ j hj=>DV j om⟩)
  (refine ⟨ob,ob,bW,λ j hj=>bN j om,λ i h1 h2=>by (try dsimp only at h1); omega⟩)
 (refine ⟨ob,by simp,λ j hj=>by (try dsimp only at hj); omega⟩)
theorem aqO (hn:uj b l 0) (hd:CJ l ms):∀x∈jn aR.bH l ms,0<=x∧x<b.bH.length:=λ x hx=>by
 obtain ⟨m,hm,hx⟩:=auR.1 hx;exact ((zS hn).2.2 _ (LU hd hm)).rs x hx
theorem aqP (hn:uj b l 0) (hd:CJ l ms):∀x∈jn usF l ms,0<=x∧x<b.bX.length:=λ x hx=>by
 obtain ⟨m,hm,hx⟩:=auR.1 hx;have hdm:=((zS hn).2.2 _ (LU hd hm)).dm;unfold usF at hx;cases q:decide ((l.getD m.toNat bK).fV<0) with
 | true=>rw [q] at hx; cases hx
 | false=>
  rw [q] at hx;have:=of_decide_eq_false q;have hx:=ahf.1 hx;omega
theorem QF (h1:Lx b_) (h2:GSz b_.aU) (h3:UA l_) (h4:M_.length<=10000) (h5:g_.Uses.length<=2000000):W (Cx b_ l_ M_ g_) (λ r=>Ga2 r∧r.2.2.2.2.2.2.2.length<=g_.Uses.length∧(r.2.2.2.2.2.2.1=0->uj b_ l_ 0∧CJ l_ M_∧AgA b_ l_ M_ g_.Uses ⟨r.1,⟨r.2.1,r.2.2.1⟩,r.2.2.2.2.2.2.2,r.2.2.2.1,r.2.2.2.2.1⟩)):=by
 obtain ⟨z1,z2,z3,z4,z5,z6,z7⟩:=id h1;unfold Cx;refine aG (BN h1 h2 h3) λ v1 hv1=>?_;refine bV (λ c1=>aC ⟨BO _ _,by simp,λ e=>by have c1:=eX c1; exact absurd e c1⟩) (λ c1=>?_);have c1:=eX c1;rw [c1] at hv1;obtain ⟨hb,hl12,hnd⟩:=zS hv1;refine aG (uT om om) λ v2 hv2=>?_;refine bV (λ c2=>aC ⟨BO _ _,by simp,nofun⟩) (λ c2=>?_);have c2:=eX c2;have hdf:=hv2.1 c2;have hin:=abL hdf;obtain ⟨_,hra,hda⟩:=ae1 hv1;refine aG (V8 (k:=24) (f:=aR.dx) (λ x hx=>by have:=(hnd x hx).ll; omega) hin h4 om) λ v3 hv3=>?_;refine aG (V8 (k:=32) (f:=aR.fJ) (λ x hx=>by have:=(hnd x hx).dl; omega) hin h4 om) λ v4 hv4=>?_;refine aG (vH (P:=λ _=>True) λ _=>Ia (λ x hx=>(hnd x hx).fl) h4) λ v5 _=>?_;refine bV (λ c3=>aC ⟨BO _ _,by simp,nofun⟩) (λ c3=>?_);simp only [aff] at c3;obtain ⟨⟨c3,c3'⟩,_⟩:=c3;have c3:=eX c3; have c3:=eX c3';refine aG (TK z1 om) λ v6 hv6=>?_;refine bV (λ c4=>aC ⟨BO _ _,by simp,nofun⟩) (λ c4=>?_);have c4:=eX c4;obtain ⟨hs0,hft,hlb⟩:=hv6 c4;have hst:asE b_.bP _ v6.1:=⟨Qg hs0,by rw [LM hlb hs0]; exact hft⟩;have hsl:=hst.1.1;refine aG (Sp.TJ z3 om) λ v7 hv7=>?_;refine bV (λ c5=>aC ⟨BO _ _,by simp,nofun⟩) (λ c5=>?_);have c5:=eX c5;rw [hv7] at c5;have hle:=Sp.XJ c5;rw [<- hv7] at hle;refine bS (λ g1:Int×azp×azp=>0<=g1.1∧g1.1<=M_.length∧g1.2.1=jn aR.bH l_ (M_.take g1.1.toNat)∧g1.2.2=jn usF l_ (M_.take g1.1.toNat)) (λ g1=>(M_.length - g1.1).toNat) ?_ ⟨ob,ob,rfl,rfl⟩;intro ah g1 ⟨a1,a2,a3,a4⟩ ih1;have l3:=QD (f:=aR.bH) (l:=l_) (c:=2000000) (ms:=M_.take g1.1.toNat) λ m q=>(h3.nd _ (LU hdf (auN q))).1;have l4:=QD (f:=usF) (l:=l_) (c:=1) (ms:=M_.take g1.1.toNat) λ m _=>ajK _;rw [<- a3,ahj] at l3;rw [<- a4,ahj] at l4;unfold M5;refine wi ?_ ?_<;>intro c
 ·have hm:=(hdf g1.1.toNat om).1;have hx:=(h3.nd _ (getD_in (i:=(M_.getD g1.1.toNat 0).toNat) bK om)).1;have e:(g1.1+1).toNat=g1.1.toNat+1:=by omega
  refine aP om ?_;refine aP hm ?_;refine aP (by unfold big; omega) ?_;refine aP hm ?_;refine wi ?_ ?_<;>intro c6
  ·refine aP hm ?_;refine aP (by unfold big; omega) ?_;refine aP (by unfold ay; omega) ?_;exact ih1 _ ⟨by dsimp only; omega,by dsimp only; omega,by dsimp only; rw [e,ED om,a3],by dsimp only; rw [e,ED om,a4]; congr 1; unfold usF; rw [decide_eq_false om]; rfl⟩ (by dsimp only; omega)
  refine aP (by unfold ay; omega) ?_;exact ih1 _ ⟨by dsimp only; omega,by dsimp only; omega,by dsimp only; rw [e,ED om,a3],by dsimp only; rw [e,ED om,a4]; unfold usF; rw [decide_eq_true om]; exact (amL _).symm⟩ (by dsimp only; omega)
 rw [aiI om] at a3 a4;refine aG (Nw z6 om hra (by rw [a3]; exact aqO hv1 hdf)) λ v8 ⟨_,BG⟩=>?_;refine aG (Y3 om hda (by rw [a4]; exact aqP hv1 hdf)) λ v9 ⟨_,Xx⟩=>?_;refine aG (ae2 h5 h4) λ v10 Gq=>?_;rw [a3] at BG;rw [a4] at Xx;refine aC ⟨⟨by dsimp only; omega,by dsimp only; omega,by dsimp only; omega,by dsimp only; rw [BG.ln]; have:=hb.rs.len; omega,by dsimp only; rw [Xx.ln]; omega⟩,by dsimp only; rw [Gq]; exact arz _ _,λ _=>⟨hv1,hdf,⟨by rw [<- hv3]; exact hst,?_,Gq,BG,Xx⟩⟩⟩;dsimp only;rw [<- hv4];refine azj ?_ (show v7=(⟨v7.1.On,v7.1.bC⟩,0) from Prod.ext rfl (by rw [hv7]; exact c5));exact hv7.symm
theorem V9 (h1:Lx b_) (h2:GSz b_.aU) (h3:UA l_) (h4:M_.length<=10000) (h5:g_.Uses.length<=2000000):W (zw b_ l_ g_ M_) (λ r=>Ga2 r∧r.2.2.2.2.2.2.2.length<=g_.Uses.length∧(r.2.2.2.2.2.2.1=0->uj b_ l_ 0∧CJ l_ M_∧AgA b_ l_ M_ g_.Uses ⟨r.1,⟨r.2.1,r.2.2.1⟩,r.2.2.2.2.2.2.2,r.2.2.2.1,r.2.2.2.2.1⟩)):=by
 obtain ⟨z1,z2,z3,z4,z5,z6,z7⟩:=id h1;unfold zw;refine aG (BN h1 h2 h3) λ v1 hv1=>?_;refine bV (λ c1=>aC ⟨BO _ _,by simp,λ e=>by have c1:=eX c1; exact absurd e c1⟩) (λ c1=>?_);have c1:=eX c1;rw [c1] at hv1;obtain ⟨hb,hl12,hnd⟩:=zS hv1;refine aG (uT om om) λ v2 hv2=>?_;refine bV (λ c2=>aC ⟨BO _ _,by simp,nofun⟩) (λ c2=>?_);have c2:=eX c2;have hdf:=hv2.1 c2;have hin:=abL hdf;obtain ⟨_,hra,hda⟩:=ae1 hv1;refine aG (V8 (k:=24) (f:=aR.dx) (λ x hx=>by have:=(hnd x hx).ll; omega) hin h4 om) λ v3 hv3=>?_;refine aG (V8 (k:=32) (f:=aR.fJ) (λ x hx=>by have:=(hnd x hx).dl; omega) hin h4 om) λ v4 hv4=>?_;refine aG (vH (P:=λ _=>True) λ _=>Ia (λ x hx=>(hnd x hx).fl) h4) λ v5 _=>?_;refine bV (λ c3=>aC ⟨BO _ _,by simp,nofun⟩) (λ c3=>?_);simp only [aff] at c3;obtain ⟨⟨c3,c3'⟩,_⟩:=c3;have c3:=eX c3; have c3:=eX c3';refine aG (TK z1 om) λ v6 hv6=>?_;refine bV (λ c4=>aC ⟨BO _ _,by simp,nofun⟩) (λ c4=>?_);have c4:=eX c4;obtain ⟨hs0,hft,hlb⟩:=hv6 c4;have hst:asE b_.bP _ v6.1:=⟨Qg hs0,by rw [LM hlb hs0]; exact hft⟩;have hsl:=hst.1.1;refine aG (Sp.TJ z3 om) λ v7 hv7=>?_;refine bV (λ c5=>aC ⟨BO _ _,by simp,nofun⟩) (λ c5=>?_);have c5:=eX c5;rw [hv7] at c5;have hle:=Sp.XJ c5;rw [<- hv7] at hle;refine bS (λ g1:Int×azp×azp=>0<=g1.1∧g1.1<=M_.length∧g1.2.1=jn aR.bH l_ (M_.take g1.1.toNat)∧g1.2.2=jn usF l_ (M_.take g1.1.toNat)) (λ g1=>(M_.length - g1.1).toNat) ?_ ⟨ob,ob,rfl,rfl⟩;intro ah g1 ⟨a1,a2,a3,a4⟩ ih1;have l3:=QD (f:=aR.bH) (l:=l_) (c:=2000000) (ms:=M_.take g1.1.toNat) λ m q=>(h3.nd _ (LU hdf (auN q))).1;have l4:=QD (f:=usF) (l:=l_) (c:=1) (ms:=M_.take g1.1.toNat) λ m _=>ajK _;rw [<- a3,ahj] at l3;rw [<- a4,ahj] at l4;unfold FK;refine wi ?_ ?_<;>intro c
 ·have hm:=(hdf g1.1.toNat om).1;have hx:=(h3.nd _ (getD_in (i:=(M_.getD g1.1.toNat 0).toNat) bK om)).1;have e:(g1.1+1).toNat=g1.1.toNat+1:=by omega
  refine aP om ?_;refine aP hm ?_;refine aP (by unfold big; omega) ?_;refine aP hm ?_;refine wi ?_ ?_<;>intro c6
  ·refine aP hm ?_;refine aP (by unfold big; omega) ?_;refine aP (by unfold ay; omega) ?_;exact ih1 _ ⟨by dsimp only; omega,by dsimp only; omega,by dsimp only; rw [e,ED om,a3],by dsimp only; rw [e,ED om,a4]; congr 1; unfold usF; rw [decide_eq_false om]; rfl⟩ (by dsimp only; omega)
  refine aP (by unfold ay; omega) ?_;exact ih1 _ ⟨by dsimp only; omega,by dsimp only; omega,by dsimp only; rw [e,ED om,a3],by dsimp only; rw [e,ED om,a4]; unfold usF; rw [decide_eq_true om]; exact (amL _).symm⟩ (by dsimp only; omega)
 rw [aiI om] at a3 a4;refine aG (Nw z6 om hra (by rw [a3]; exact aqO hv1 hdf)) λ v8 ⟨_,BG⟩=>?_;refine aG (Y3 om hda (by rw [a4]; exact aqP hv1 hdf)) λ v9 ⟨_,Xx⟩=>?_;refine aG (Nv h5 h4) λ v10 Gq=>?_;rw [a3] at BG;rw [a4] at Xx;refine aC ⟨⟨by dsimp only; omega,by dsimp only; omega,by dsimp only; omega,by dsimp only; rw [BG.ln]; have:=hb.rs.len; omega,by dsimp only; rw [Xx.ln]; omega⟩,by dsimp only; rw [Gq]; exact arz _ _,λ _=>⟨hv1,hdf,⟨by rw [<- hv3]; exact hst,?_,Gq,BG,Xx⟩⟩⟩;dsimp only;rw [<- hv4];refine azj ?_ (show v7=(⟨v7.1.On,v7.1.bC⟩,0) from Prod.ext rfl (by rw [hv7]; exact c5));exact hv7.symm
theorem ae4:abt []:=λ i j _ h=>by simp at h; omega
theorem agX {l:azp} {x:Int} (h:abt l) (hx:∀y∈l,y<x):abt (l++[x]):=by
 intro i j hij hj;rw [afa,alk] at hj;by_cases q:j<l.length
 ·rw [ko (i:=j) 0 q,ko (i:=i) 0 om]; exact h i j hij om
 rw [kX (i:=j) 0 om,ko (i:=i) 0 om]; exact hx _ (getD_in 0 om)
def Y4 (b:aV) (l:azz):Prop:=l.length<=1∧∀y∈l,Uz b.bP.length y
def aiJ (b:aV) (l:azy):Prop:=l.length<=1∧∀y∈l,aiz b.bI.length y
def an9 (l:azB):Prop:=l.length<=2∧∀y∈l,Qw y
def asF (b:aV) (l:azp):Prop:=l.length<=100∧∀y∈l,0<=y∧y<b.bH.length
def asG (k:Int) (l:azp):Prop:=l.length<=100∧(∀p∈l,0<=p∧p<k)∧abt l
structure NdG (b:aV) (k:Int) (x:aR):Prop where
 lm:Y4 b x.dx
 dw:aiJ b x.fJ
 fw:an9 x.au
 rs:asF b x.bH
 dm : -1<=x.fV∧x.fV<b.bX.length
 pr:asG k x.cO
theorem agY:Y4 b []:=⟨alh _,nofun⟩
theorem agZ:aiJ b []:=⟨alh _,nofun⟩
theorem aoa {x:aZ} (h:Uz b.bP.length x):Y4 b [x]:=⟨afg _,λ y hy=>by rw [ahf] at hy; rw [hy]; exact h⟩
theorem aob {x:bL} (h:aiz b.bI.length x):aiJ b [x]:=⟨afg _,λ y hy=>by rw [ahf] at hy; rw [hy]; exact h⟩
theorem aoc:an9 []:=⟨alh _,nofun⟩
theorem aod {k:Int}:asG k []:=⟨alh _,nofun,ae4⟩
theorem Wd {l:azp} {lo hi:Int} (h:l.all (λ x=>decide (lo<=x)&&decide (x<=hi))=true) {r:Int} (hr:∃i:Nat,i<l.length∧r=l.getD i 0):lo<=r∧r<=hi:=by
 obtain ⟨i,h1,rfl⟩:=hr;have:=aoI.1 h _ (getD_in 0 h1);simpa using this
theorem aus {s:ByteArray} (h:(decide (0<s.size∧s.size<=16)&&(decide (97<=gI s 0∧gI s 0<=122)&&(List.range s.size).all λ j=>decide (gI s j=45∨(48<=gI s j∧gI s j<=57)∨(97<=gI s j∧gI s j<=122))))=true):Qw s:=by
 simp only [aei,decide_eq_true_eq,aoI,ara] at h;exact ⟨h.1,h.2.1,λ j hj=>h.2.2 j om⟩
def aiK:azB:=[({ data:=#[117,97,114,116] }:ByteArray),({ data:=#[115,112,105] }:ByteArray),({ data:=#[105,50,99] }:ByteArray),({ data:=#[112,119,109] }:ByteArray)]
theorem aoe:∀s∈aiK,Qw s:=by
 intro s hs;simp only [aiK,alu,ayG,or_false] at hs;rcases hs with rfl | rfl | rfl | rfl<;>exact aus (by decide)
variable {dD:dL}
theorem Ic {n_:Int} {k_:Int} (h1:0<=n_) (h2:n_<=1000) (h3:1<=k_) (h4:k_<=100) (h5:0<=dD.At) (h6:dD.L.length<=600):W (lW n_ k_ dD) (λ r=>r.1.length<=n_.toNat∧(∀p∈r.1,0<=p∧p<n_)∧abt r.1∧0<=r.2.At∧r.2.L.length<=600):=by
 unfold lW;refine bS (λ (g1:Int×azp×Int×azp)=>0<=g1.1∧g1.1<=n_∧0<=g1.2.2.1∧g1.2.1.length<=600∧(g1.2.2.2.length:Int)<=g1.1∧(∀p∈g1.2.2.2,0<=p∧p<g1.1)∧abt g1.2.2.2) (λ (g1:Int×azp×Int×azp)=>(n_ - g1.1).toNat) ?_ ?_
 ·intro ah g1 eU dB;obtain ⟨dZ,bW,bN,kW,FP,Nq,aof⟩:=eU;unfold za;refine wi ?_ ?_<;>intro c1
  ·refine aG (cB ob ob ob) λ v3 hv3=>?_;obtain ⟨aa8,ade,adf,am0,atT⟩:=hv3;refine wn<|wi ?_ ?_<;>intro c2
   ·refine wm<|dB _ ?_ ?_
    ·(refine ⟨ob,ob,ob,ob,ob,λ p hp=>?_,agX aof λ p hp=>(Nq p hp).2⟩; dsimp only; rcases alf.1 hp with hp | hp; (have:=Nq p hp; omega); (rw [ahf] at hp; omega))
    exact ob
   refine wn<|dB _ ?_ ?_
   ·(refine ⟨ob,ob,ob,ob,ob,λ p hp=>?_,aof⟩; have:=Nq p hp; dsimp only; omega)
   exact ob
  refine aC ?_;(refine ⟨ob,λ p hp=>?_,aof,ob,ob⟩; have:=Nq p hp; omega)
 (refine ⟨ob,ob,ob,ob,ob,nofun,ae4⟩)
theorem QG {jy:Int} (h1:0<=jy) (h2:jy<=50) (h3:0<=dD.At) (h4:dD.L.length<=600):W (sF jy dD) (λ r=>r.1.length<=jy.toNat∧(∀y∈r.1,Qw y)∧0<=r.2.At∧r.2.L.length<=600):=by
 unfold sF;refine wn<|aG (cB ob ob ob) λ v1 hv1=>?_;obtain ⟨J8,DU,J9,Np,Qb⟩:=hv1;refine bS (λ (g1:Int×azp×Int×azB)=>0<=g1.1∧0<=g1.2.2.1∧g1.2.1.length<=600∧(g1.2.2.2.length:Int)+g1.1<=jy∧(∀y∈g1.2.2.2,Qw y)) (λ (g1:Int×azp×Int×azB)=>g1.1.toNat) ?_ ?_
 ·intro ah g1 eU dB;obtain ⟨dZ,bW,bN,kW,FP⟩:=eU;unfold Cq;refine wi ?_ ?_<;>intro c1
  ·refine aG (lH) λ v6 hv6=>?_;subst v6;refine aG (Xo ob ob ob ob) λ v7 hv7=>?_;obtain ⟨aqB,atV,atW⟩:=hv7;refine wm<|dB _ ?_ ?_
   ·(refine ⟨ob,ob,ob,ob,λ p hp=>?_⟩; dsimp only at hp; rcases alf.1 hp with hp | hp; (exact FP p hp); (rw [ahf] at hp; rw [hp]; obtain ⟨i,hi,e⟩:=aqB; rw [e]; exact aoe _ (getD_in (l:=aiK) _ hi)))
   exact ob
  refine aC ?_;(refine ⟨ob,FP,ob,ob⟩)
 (refine ⟨ob,ob,ob,ob,nofun⟩)
theorem UG (h1:b_.bP.length<=100) (h2:0<b_.bP.length) (h3:0<=dD.At) (h4:dD.L.length<=600):W (wz b_ dD) (λ r=>Uz b_.bP.length r.1∧0<=r.2.At∧r.2.L.length<=600):=by
 unfold wz;refine aG (cB ob ob ob) λ v1 hv1=>?_;obtain ⟨J8,DU,J9,Np,Qb⟩:=hv1;refine aG (gy ob ob ob ob) λ v2 hv2=>?_;obtain ⟨agn,ajx,am8⟩:=hv2;refine aG (gy ob ob ob ob) λ v3 hv3=>?_;obtain ⟨aa8,ade,adf⟩:=hv3;refine aC ?_;(have a:=Wd (lo:=0) (hi:=24) (by decide) agn; have b:=Wd (lo:=24) (hi:=300) (by decide) aa8; exact ⟨⟨om,DU om,a.1,aoJ a.2 b.1,aoJ b.2 (by decide)⟩,ob,ob⟩)
theorem Wh (h1:b_.bI.length<=100) (h2:0<b_.bI.length) (h3:0<=dD.At) (h4:dD.L.length<=600):W (zh b_ dD) (λ r=>aiz b_.bI.length r.1∧0<=r.2.At∧r.2.L.length<=600):=by
 unfold zh;refine aG (cB ob ob ob) λ v1 hv1=>?_;obtain ⟨J8,DU,J9,Np,Qb⟩:=hv1;refine aG (gy ob ob ob ob) λ v2 hv2=>?_;obtain ⟨agn,ajx,am8⟩:=hv2;refine aG (gy ob ob ob ob) λ v3 hv3=>?_;obtain ⟨aa8,ade,adf⟩:=hv3;refine aG (gy ob ob ob ob) λ v4 hv4=>?_;obtain ⟨am1,am2,aqA⟩:=hv4;refine aC ?_;(have a:=Wd (lo:=0) (hi:=1800) (by decide) agn; have b:=Wd (lo:=1800) (hi:=5000) (by decide) aa8; have c:=Wd (lo:=0) (hi:=200) (by decide) am1; exact ⟨⟨om,DU om,a.1,aoJ a.2 b.1,b.2,c.1,aoJ c.2 (by decide)⟩,ob,ob⟩)
variable {v1:Int×dL} {g1:Int×azp×Int×azu} {ah:(Int×azp×Int×azu)->M (azu×dL)} {v46:Int×dL} {g14:azp×Int×azz} {g15:azp×Int×azy} {g16:azp×Int×azB} {Q:(azu×dL)->Prop}
theorem vU {v53:azp×dL} {g18:azp×Int×azp} (dB:∀s':(Int×azp×Int×azu),(0<=s'.1∧s'.1<=v1.1∧0<=s'.2.2.1∧s'.2.1.length<=600∧(s'.2.2.2.length:Int)=s'.1∧(∀x∈s'.2.2.2,NdG b_ v1.1 x))->(v1.1 - s'.1).toNat<(v1.1 - g1.1).toNat->W (ah s') Q) (hc:0<=g18.2.1∧g18.1.length<=600∧asG v1.1 g18.2.2∧Y4 b_ g14.2.2∧aiJ b_ g15.2.2∧an9 g16.2.2∧asF b_ v53.1∧0<=g1.1∧g1.1<v1.1∧v1.1<=51∧(g1.2.2.2.length:Int)=g1.1∧(∀x∈g1.2.2.2,NdG b_ v1.1 x)∧(-1<=v46.1∧v46.1<b_.bX.length)):W (kT g1 ah v46 g14 g15 g16 v53 g18) Q:=by
 obtain ⟨aiE,akZ,FX,R4,XG,aeQ,ala,aog,aoh,Wi,Ny,adx,aqQ⟩:=hc;unfold kT;refine wm<|dB _ ?_ ?_
 ·(refine ⟨ob,ob,ob,ob,ob,λ x hx=>?_⟩; rcases alf.1 hx with hx | hx; (exact adx x hx); (rw [ahf] at hx; subst hx; exact ⟨R4,XG,aeQ,ala,aqQ,FX⟩))
 exact ob
theorem vV {v53:azp×dL} {g19:Int×azp×Int} (dB:∀s':(Int×azp×Int×azu),(0<=s'.1∧s'.1<=v1.1∧0<=s'.2.2.1∧s'.2.1.length<=600∧(s'.2.2.2.length:Int)=s'.1∧(∀x∈s'.2.2.2,NdG b_ v1.1 x))->(v1.1 - s'.1).toNat<(v1.1 - g1.1).toNat->W (ah s') Q) (hc:0<=g19.2.2∧g19.2.1.length<=600∧0<=g19.1∧g19.1<=51∧g19.1<=v1.1∧Y4 b_ g14.2.2∧aiJ b_ g15.2.2∧an9 g16.2.2∧asF b_ v53.1∧0<=g1.1∧g1.1<v1.1∧v1.1<=51∧(g1.2.2.2.length:Int)=g1.1∧(∀x∈g1.2.2.2,NdG b_ v1.1 x)∧(-1<=v46.1∧v46.1<b_.bX.length)):W (kU g1 ah v46 g14 g15 g16 v53 g19) Q:=by
 obtain ⟨aiE,akZ,FX,R4,XG,aeQ,ala,aog,aoh,Wi,Ny,adx,aqQ,aut,auu⟩:=hc;unfold kU;refine aG (Ic ob ob ob ob ob ob) λ v60 axe=>?_;obtain ⟨axf,asH,asI,axg,axh⟩:=axe;exact vU (b_:=b_) (v1:=v1) (λ a b c=>dB a b c) (by (refine ⟨ob,ob,⟨ob,λ p hp=>(by have:=asH p hp; omega),asI⟩,aeQ,ala,aog,aoh,ob,ob,ob,ob,aut,auu⟩))
theorem vW (dB:∀s':(Int×azp×Int×azu),(0<=s'.1∧s'.1<=v1.1∧0<=s'.2.2.1∧s'.2.1.length<=600∧(s'.2.2.2.length:Int)=s'.1∧(∀x∈s'.2.2.2,NdG b_ v1.1 x))->(v1.1 - s'.1).toNat<(v1.1 - g1.1).toNat->W (ah s') Q) (hc:0<=g16.2.1∧g16.1.length<=600∧Y4 b_ g14.2.2∧aiJ b_ g15.2.2∧an9 g16.2.2∧b_.bH.length<=4∧0<=g1.1∧g1.1<v1.1∧v1.1<=51∧(g1.2.2.2.length:Int)=g1.1∧(∀x∈g1.2.2.2,NdG b_ v1.1 x)∧(-1<=v46.1∧v46.1<b_.bX.length)):W (kV b_ v1 g1 ah v46 g14 g15 g16) Q:=by
 obtain ⟨aiE,akZ,FX,R4,XG,aeQ,ala,aog,aoh,Wi,Ny,adx⟩:=hc;unfold kV;refine aG (Ic ob ob ob ob ob ob) λ v53 axi=>?_;obtain ⟨axj,aiL,axk,axl,axn⟩:=axi;refine aG (cB ob ob ob) λ v58 axo=>?_;obtain ⟨axp,axq,axr,axt,axu⟩:=axo;refine wi ?_ ?_<;>intro c1
 ·refine aG (cB ob ob ob) λ v61 axv=>?_;obtain ⟨axw,axx,axy,axz,axA⟩:=axv;refine wi ?_ ?_<;>intro c2
  ·exact vV (b_:=b_) (v1:=v1) (λ a b c=>dB a b c) (by (refine ⟨ob,ob,ob,ob,ob,FX,R4,XG,⟨om,aiL⟩,ob,ob,ob,ob,Ny,adx⟩))
  exact vV (b_:=b_) (v1:=v1) (λ a b c=>dB a b c) (by (refine ⟨ob,ob,ob,ob,ob,FX,R4,XG,⟨om,aiL⟩,ob,ob,ob,ob,Ny,adx⟩))
 exact vU (b_:=b_) (v1:=v1) (λ a b c=>dB a b c) (by (refine ⟨ob,ob,aod,FX,R4,XG,⟨om,aiL⟩,ob,ob,ob,ob,Ny,adx⟩))
theorem oH (dB:∀s':(Int×azp×Int×azu),(0<=s'.1∧s'.1<=v1.1∧0<=s'.2.2.1∧s'.2.1.length<=600∧(s'.2.2.2.length:Int)=s'.1∧(∀x∈s'.2.2.2,NdG b_ v1.1 x))->(v1.1 - s'.1).toNat<(v1.1 - g1.1).toNat->W (ah s') Q) (hc:0<=g15.2.1∧g15.1.length<=600∧Y4 b_ g14.2.2∧aiJ b_ g15.2.2∧b_.bH.length<=4∧0<=g1.1∧g1.1<v1.1∧v1.1<=51∧(g1.2.2.2.length:Int)=g1.1∧(∀x∈g1.2.2.2,NdG b_ v1.1 x)∧(-1<=v46.1∧v46.1<b_.bX.length)):W (jI b_ v1 g1 ah v46 g14 g15) Q:=by
 obtain ⟨aiE,akZ,FX,R4,XG,aeQ,ala,aog,aoh,Wi,Ny⟩:=hc;unfold jI;refine aG (cB ob ob ob) λ v62 axB=>?_;obtain ⟨axC,axD,axE,axF,axG⟩:=axB;refine wi ?_ ?_<;>intro c1
 ·refine aG (QG ob ob ob ob) λ v63 axH=>?_;obtain ⟨axI,asJ,axJ,axK⟩:=axH;exact vW (λ a b c=>dB a b c) (by (refine ⟨ob,ob,FX,R4,⟨ob,asJ⟩,XG,ob,ob,ob,ob,Wi,Ny⟩))
 exact vW (λ a b c=>dB a b c) (by (refine ⟨ob,ob,FX,R4,aoc,XG,ob,ob,ob,ob,Wi,Ny⟩))
theorem pF (dB:∀s':(Int×azp×Int×azu),(0<=s'.1∧s'.1<=v1.1∧0<=s'.2.2.1∧s'.2.1.length<=600∧(s'.2.2.2.length:Int)=s'.1∧(∀x∈s'.2.2.2,NdG b_ v1.1 x))->(v1.1 - s'.1).toNat<(v1.1 - g1.1).toNat->W (ah s') Q) (hc:0<=g14.2.1∧g14.1.length<=600∧Y4 b_ g14.2.2∧b_.bH.length<=4∧b_.bI.length<=3∧0<=g1.1∧g1.1<v1.1∧v1.1<=51∧(g1.2.2.2.length:Int)=g1.1∧(∀x∈g1.2.2.2,NdG b_ v1.1 x)∧(-1<=v46.1∧v46.1<b_.bX.length)):W (jW b_ v1 g1 ah v46 g14) Q:=by
 obtain ⟨aiE,akZ,FX,R4,XG,aeQ,ala,aog,aoh,Wi,Ny⟩:=hc;unfold jW;refine wi ?_ ?_<;>intro c1
 ·refine aG (cB ob ob ob) λ v64 hv64=>?_;obtain ⟨axL,axM,axN,axO,axP⟩:=hv64;refine wi ?_ ?_<;>intro c2
  ·refine aG (Wh ob ob ob ob) λ v65 axQ=>?_;obtain ⟨asK,axR,axS⟩:=axQ;refine wn ?_;exact oH (λ a b c=>dB a b c) (by (refine ⟨ob,ob,FX,aob asK,R4,ob,ob,ob,ob,Wi,Ny⟩))
  exact oH (λ a b c=>dB a b c) (by (refine ⟨ob,ob,FX,agZ,R4,ob,ob,ob,ob,Wi,Ny⟩))
 refine wn ?_;exact oH (λ a b c=>dB a b c) (by (refine ⟨ob,ob,FX,agZ,R4,ob,ob,ob,ob,Wi,Ny⟩))
theorem QH {jy:Int} (h1:amZ b_) (h2:0<=jy) (h3:jy<=50) (h4:0<=dD.At) (h5:dD.L.length<=600):W (sG b_ jy dD) (λ r=>r.1.length<=jy.toNat∧(∀x∈r.1,NdG b_ (r.1.length:Int) x)∧0<=r.2.At∧r.2.L.length<=600):=by
 obtain ⟨q1,q2,q3,q4,q5,q6,q7,q8,q9⟩:=h1;unfold sG;refine wn<|aG (cB ob ob ob) λ v1 hv1=>?_;obtain ⟨J8,DU,J9,Np,Qb⟩:=hv1;refine bS (λ (g1:Int×azp×Int×azu)=>0<=g1.1∧g1.1<=v1.1∧0<=g1.2.2.1∧g1.2.1.length<=600∧(g1.2.2.2.length:Int)=g1.1∧(∀x∈g1.2.2.2,NdG b_ v1.1 x)) (λ (g1:Int×azp×Int×azu)=>(v1.1 - g1.1).toNat) ?_ ?_
 ·intro ah g1 eU dB;obtain ⟨dZ,bW,bN,kW,FP,Nq⟩:=eU;unfold Cr;refine wi ?_ ?_<;>intro c1
  ·refine wn<|aG (nW ob ob ob ob ob ob) λ v46 aio=>?_;obtain ⟨axT,axU,axV,axW,axX⟩:=aio;refine wi ?_ ?_<;>intro c2
   ·refine aG (cB ob ob ob) λ v66 axY=>?_;obtain ⟨axZ,ax0,ax1,ax2,ax3⟩:=axY;refine wi ?_ ?_<;>intro c3
    ·refine aG (UG ob ob ob ob) λ v67 ax4=>?_;obtain ⟨asL,ax5,ax6⟩:=ax4;refine wn ?_;exact pF (λ a b c=>dB a b c) (by (refine ⟨ob,ob,aoa asL,ob,ob,ob,ob,ob,ob,Nq,om,om⟩))
    exact pF (λ a b c=>dB a b c) (by (refine ⟨ob,ob,agY,ob,ob,ob,ob,ob,ob,Nq,om,om⟩))
   refine wn ?_;exact pF (λ a b c=>dB a b c) (by (refine ⟨ob,ob,agY,ob,ob,ob,ob,ob,ob,Nq,om,om⟩))
  have hlen:(g1.2.2.2.length:Int)=v1.1:=by omega
  refine wi ?_ ?_<;>intro c4
  ·refine aG (cB ob ob ob) λ v68 ax7=>?_;obtain ⟨ax8,ax9,aya,ayb,ayc⟩:=ax7;refine wi ?_ ?_<;>intro c5
   ·refine wn<|bS (λ (g20:Int×Int×azu)=>0<=g20.1 ∧ -1<=g20.2.1∧g20.2.1<v1.1∧g20.1<=v1.1∧(g20.2.2.length:Int)=v1.1∧(∀x∈g20.2.2,NdG b_ v1.1 x)) (λ (g20:Int×Int×azu)=>(g20.2.1 - g20.1).toNat) ?_ ?_
    ·intro aij g20 auv auw;obtain ⟨ayd,aye,ayf,ayg,ayh,ae5⟩:=auv;unfold Ay;refine wi ?_ ?_<;>intro c6
     ·refine wm<|wm ?_;refine wm<|auw _ ?_ ?_
      ·(refine ⟨ob,ob,ob,ob,ob,aer (aer ae5 (ae5 _ (getD_in _ om))) (ae5 _ (getD_in _ om))⟩)
      exact ob
     refine bS (λ (g21:Int×azu)=>0<=g21.1∧(g21.2.length:Int)=v1.1∧(∀x∈g21.2,NdG b_ v1.1 x)) (λ (g21:Int×azu)=>(v1.1 - g21.1).toNat) ?_ ?_
     ·intro aa4 g21 auy auz;obtain ⟨ayi,asM,aiM⟩:=auy;unfold Aw;refine wi ?_ ?_<;>intro c7
      ·have q:=aiM (g21.2.getD g21.1.toNat bK) (getD_in _ om);have qp:=q.pr.1;refine wm<|bS (λ (g24:Int×azp) => -1<=g24.1∧g24.1<(g21.2.getD g21.1.toNat bK).cO.length∧(g24.2.length:Int)+g24.1<(g21.2.getD g21.1.toNat bK).cO.length∧(∀p∈g24.2,0<=p∧p<v1.1)∧abt g24.2∧(∀p∈g24.2,∀j:Nat,(j:Int)<=g24.1->p<v1.1 - 1 - (g21.2.getD g21.1.toNat bK).cO.getD j 0)) (λ (g24:Int×azp)=>(g24.1+1).toNat) ?_ ?_
       ·intro aii g24 auA auB;obtain ⟨ayj,ayk,ayl,aoi,aoj,aok⟩:=auA;unfold Av;refine wi ?_ ?_<;>intro c8
        ·have q2:=q.pr.2.1 _ (getD_in (i:=g24.1.toNat) 0 om);refine wm<|wm ?_;refine wm<|auB _ ?_ ?_
         ·(refine ⟨ob,ob,ob,λ p hp=>?_,agX aoj (λ p hp=>by have:=aok p hp g24.1.toNat om; omega),λ p hp j hj=>?_⟩; (rcases alf.1 hp with hp | hp; (exact aoi p hp); (rw [ahf] at hp; omega)); (dsimp only at hj; rcases alf.1 hp with hp | hp; (exact aok p hp j om); (rw [ahf] at hp; have:=q.pr.2.2 j g24.1.toNat om om; omega)))
         exact ob
        refine wm<|auz _ ?_ ?_
        ·(refine ⟨ob,ob,aer aiM ⟨q.lm,q.dw,q.fw,q.rs,q.dm,ob,aoi,aoj⟩⟩)
        exact ob
       (refine ⟨ob,ob,ob,nofun,ae4,nofun⟩)
      refine aC ?_;(refine ⟨ob,λ x hx=>?_,ob,ob⟩; have q:=aiM x hx; rw [asM]; exact q)
     (refine ⟨ob,ob,ae5⟩)
    (refine ⟨ob,ob,ob,ob,ob,Nq⟩)
   refine aC ?_;(refine ⟨ob,λ x hx=>?_,ob,ob⟩; have q:=Nq x hx; rw [hlen]; exact q)
  refine wn<|aC ?_;(refine ⟨ob,λ x hx=>?_,ob,ob⟩; have q:=Nq x hx; rw [hlen]; exact q)
 (refine ⟨ob,ob,ob,ob,ob,nofun⟩)
variable {j6:azp}
theorem ag0 {p_:bR} {l_:azB} (h1:∀g∈p_.aH,g.cu.length<=2000000∧g.au.length<=2000000) (h2:l_.length<=2000000) (hp:agU p_) (hg:acE p_ l_ j6):W (Rq p_ l_ j6) (λ _=>True):=by
 unfold Rq;refine aG (P:=λ _=>True) ?_ λ v1 _=>?_
 ·unfold P6;refine aG (F3 h1) λ v1 _=>?_;refine bV (λ _=>aC trivial) (λ _=>?_);refine bS (λ g1:Int=>0<=g1) (λ g1=>(l_.length - g1).toNat) ?_ (apw _);intro ah g1 a1 ih1;unfold P5;refine bV (λ c=>?_) (λ _=>aC trivial);have c:=eX c;refine aP om ?_;refine aG BM λ v4 _=>?_;exact bV (λ _=>aC trivial) (λ _=>aP (by unfold ay; omega) (ih1 _ om om))
 refine bV (λ _=>aC trivial) (λ _=>?_);refine aG (P:=λ _=>True) ?_ λ v2 _=>bV (λ _=>aC trivial) (λ _=>aC trivial);unfold Uk;refine bV (λ _=>aC trivial) (λ c1=>?_);have c1:=eX c1;refine bS (λ g1:Int=>0<=g1) (λ g1=>(j6.length - g1).toNat) ?_ (apw _);intro ah g1 a1 ih1;unfold Tw;refine bV (λ c=>?_) (λ _=>aC trivial);have c:=eX c;have hx:=hg.ir _ (getD_in (i:=g1.toNat) 0 om);have hf:=(h1 _ (getD_in (i:=(j6.getD g1.toNat 0).toNat) aN om)).2;refine aP om ?_;refine aP (λ _=>hx) ?_;refine aP (λ _=>by omega) ?_;refine aG (vH λ _=>Qx hf) λ v5 _=>?_;refine aP (λ _=>by omega) ?_;refine aG (vH λ _=>TL h1 (by rw [ahj]; omega) (λ x hx=>hg.ir x (auN hx)) hx.1 hx.2 hp) λ v6 _=>?_;exact bV (λ _=>aC trivial) (λ _=>aP (by unfold ay; omega) (ih1 _ om om))
theorem Zw {p_:bR} {l_:azB} (h1:∀g∈p_.aH,g.cu.length<=2000000∧g.au.length<=2000000) (h2:p_.aH.length<=2000000) (h3:l_.length<=2000000) (hp:agU p_) (hg:acE p_ l_ j6) (hgl:j6.length<=l_.length):W (Eu p_ l_ j6) (λ r=>r.2=true->r.1.length=l_.length∧acE p_ l_ r.1∧r.1.take j6.length=j6):=by
 unfold Eu;refine bS (λ s:bR×azB×azp=>s.1=p_∧s.2.1=l_∧s.2.2.length<=l_.length∧acE p_ l_ s.2.2∧j6.length<=s.2.2.length∧s.2.2.take j6.length=j6) (λ s=>l_.length - s.2.2.length) ?_ ⟨rfl,rfl,hgl,hg,afg _,alj⟩;rintro self ⟨p,l,gs⟩ ⟨e1,e2,e3,e4,e5,e6⟩ ih;dsimp only at e1 e2 e3 e4 e5 e6;subst p l;unfold pz;refine wi ?_ ?_<;>intro c1
 ·refine aP ob (aC ?_);intro _;exact ⟨by dsimp only at c1 ⊢; omega,e4,e6⟩
 refine aP (by dsimp only at c1 ⊢; omega) ?_;refine aG (Zk h1 h2) λ v1 hv1=>?_;obtain ⟨k1,k2⟩:=hv1;refine bS (λ g:Int=>0<=g) (λ g:Int=>(v1.length - g).toNat) ?_ (apw _);intro ah g1 hg1 ih1;unfold Nj;refine bV ?_ ?_<;>intro c2
 ·have c2:=eX c2;have hx:=k2 _ (getD_in (i:=g1.toNat) 0 om);refine wn<|aG (TL h1 (by dsimp only; omega) (λ x hx=>e4.ir x hx) hx.1.1 hx.1.2 hp) λ v6 h6=>?_;refine bV ?_ ?_<;>intro c3
  ·refine aP ob (ih1 _ om om)
  refine aP ob (aP ob (aP ob ?_));have hl:¬ gs.length=l_.length:=by (try dsimp only at c1); omega
  refine aG (ih _ ⟨rfl,rfl,by (simp only [afa,alk]; omega),?_,by (simp only [afa,alk]; omega),by dsimp only; rw [au2 e5]; exact e6⟩ (by (simp only [afa,alk]; omega))) λ v7 hv7=>?_
  ·exact anP e4 hx.1 hx.2 (h6 (by simpa using c3))
  refine bV (λ c4=>aC λ _=>hv7 c4) (λ c4=>aP ob (ih1 _ om om))
 exact aC nofun
theorem Zx {p_:bR} {l_:azB} (h1:∀g∈p_.aH,g.cu.length<=2000000∧g.au.length<=2000000) (h2:l_.length<=2000000) (h3:p_.aH.length<=2000000) (hp:agU p_) (hg:acE p_ l_ j6) (hgl:j6.length<=l_.length):W (Ev p_ l_ j6) (λ r=>r.2=0->r.1.length=l_.length∧acE p_ l_ r.1∧r.1.take j6.length=j6):=by
 unfold Ev;refine aG (ag0 h1 h2 hp hg) λ v1 _=>?_;refine bV (λ c1=>aC λ e=>?_) (λ _=>?_)
 ·have c1:=eX c1; exact absurd e c1
 refine aG (Zw h1 h3 h2 hp hg hgl) λ v2 hv2=>?_;refine bV (λ _=>aC nofun) (λ c2=>aC λ _=>hv2 (by simpa using c2))
theorem abM {l_:azw} (h1:∀u∈l_,Qq b_.aU u.gZ) (h2:l_.length<=2000000):W (HZ b_ l_) (λ r=>r=(l_.map (λ u=>nmU b_.aU u.gZ),l_.map λ u=>u.gZ.bT)):=by
 unfold HZ;refine bS (λ g1:Int×azB×azp=>0<=g1.1∧g1.1<=l_.length∧g1.2.1=(l_.take g1.1.toNat).map (λ u=>nmU b_.aU u.gZ)∧g1.2.2=(l_.take g1.1.toNat).map λ u=>u.gZ.bT) (λ g1=>(l_.length - g1.1).toNat) ?_ ⟨ob,ob,rfl,rfl⟩;intro ah g1 ⟨a1,a2,a3,a4⟩ ih1;have l1:g1.2.1.length<=l_.length:=by rw [a3,alg,ahj]; omega
 have l2:g1.2.2.length<=l_.length:=by rw [a4,alg,ahj]; omega
 unfold PZ;refine wi ?_ ?_<;>intro c
 ·have e:(g1.1+1).toNat=g1.1.toNat+1:=by omega
  obtain ⟨u1,u2,u3,u4⟩:=h1 _ (getD_in (i:=g1.1.toNat) bA om);refine wn<|aP om ?_;refine aP om ?_;refine aP (by unfold big; omega) ?_;refine aP (by unfold big; omega) ?_;refine wn<|ih1 _ ⟨ob,ob,?_,?_⟩ ob
  ·dsimp only;rw [e,Je _ _ bA om,a3]; rfl
  dsimp only;rw [e,Je _ _ bA om,a4]
 exact aC (by rw [a3,a4,aiI om])
theorem ap2 {p:bR} {fs:azB} (h:EC p (us.map aJ.gZ)):acE p (us.map (λ u=>nmU p u.gZ)++fs) (us.map λ u=>u.gZ.bT):=by
 refine ⟨λ x hx=>?_,λ k hk=>?_,λ k j hj hk=>?_⟩
 ·obtain ⟨u,hu,rfl⟩:=aq1.1 hx;obtain ⟨u1,u2,_,_⟩:=LQ h u hu;exact ⟨u1,u2⟩
 ·rw [alg] at hk;have hk:k<us.length:=by omega
  obtain ⟨u1,u2,u3,u4⟩:=LQ h _ (getD_in (i:=k) bA hk);rw [ko ByteArray.empty (by rw [alg]; exact hk),uU (d:=bA) hk,uU (d:=bA) hk];exact ⟨(us.getD k bA).gZ.dJ.toNat,om,rfl⟩
 rw [alg] at hk;have hk:k<us.length:=by omega
 have:=(h k (by rw [alg]; omega)).2.2 j hj;rw [uU (d:=bA) hk,uU (d:=bA) om] at this ⊢;exact λ a c ha hc=>this a c ha hc
theorem ap3 {p:bR} {l:azB} {gs:azp} (hp:agU p) (hf:acE p l gs) (hg:us.map (λ u=>u.gZ.bT)=gs) (hu:∀u∈us,Qq p u.gZ):EC p (us.map aJ.gZ):=by
 intro i hi;rw [alg] at hi;have hi:i<us.length:=by omega
 have hgl:gs.length=us.length:=by rw [<- hg,alg]
 have hgg:∀k,k<us.length->((us.map aJ.gZ).getD k fM).bT=gs.getD k 0:=λ k hk=>by
  rw [<- hg,uU (d:=bA) hk,uU (d:=bA) hk]
 have hdj:∀k,k<i->ak4 p ((us.map aJ.gZ).getD k fM).bT ((us.map aJ.gZ).getD i fM).bT:=λ k hk=>by
  rw [hgg k om,hgg i hi]; exact hf.dj i k hk om
 have hui:=hu _ (getD_in (i:=i) bA hi);refine ⟨by rw [uU (d:=bA) hi]; exact hui,λ k hk e=>?_,λ k hk=>hdj k hk⟩;have hd:=hdj k hk;rw [e] at hd;obtain ⟨u1,u2,_,_⟩:=hui;rw [uU (d:=bA) hi] at hd;have:=(hp.ok.gr _ (getD_in (i:=(us.getD i bA).gZ.bT.toNat) aN om)).pl;exact hd 0 0 om om rfl
def FnU (b:aV) (l:azu) (ms:azp) (us:azw):Prop:=∀i∈ms,∀f:ByteArray,cntF (l.getD i.toNat bK).au f<=QB b.aU us i f
theorem Wj (h:∀u∈us,u.gP∈ms):NY ms us=us:=by
 unfold NY;exact List.filter_eq_self.2 λ u hu=>by simpa using h u hu
theorem ap4 {p:bR} {new:azw} {d:Int} {fs:azB} (h:new.map (λ u=>(u.gP,nmU p u.gZ))=fs.map λ f=>(d,f)) (f:ByteArray):cntF fs f<=QB p (us++new) d f:=by
 have e:QB p new d f=cntF fs f:=by
  have e1:QB p new d f=(new.map (λ u=>(u.gP,nmU p u.gZ))).countP λ q=>(q.1==d)&&decide (q.2=f):=by
   rw [List.countP_map]; rfl
  rw [e1,h,List.countP_map];unfold cntF;exact List.countP_congr λ x _=>by simp
 rw [<- e];unfold QB;rw [asZ];omega
structure UsI (b:aV) (l:azu) (ms:azp) (us:azw):Prop where
 dv:∀u∈us,u.gP∈ms
 ow:EC b.aU (us.map aJ.gZ)
 fn:FnU b l ms us
 df:CJ l ms
 fl:ms≠[]->FL b l ms
theorem aol (hb:Qz b 0) (hl:l.length<=12) (h:∀x∈l,NdG b l.length x):uj b l 0:=by
 refine lq hb (aQ om (LH λ k hk=>?_));obtain ⟨l1,d1,f1,r1,q1,p1⟩:=h _ (getD_in (i:=k) bK hk);have hw:∀ {α:Type} (xs:List α) (d:α) (P:α->Prop),(∀x∈xs,P x)->¬ ∃j:Nat,(j:Int)<xs.length∧¬P (xs.getD j d):=λ xs d P hp ⟨j,hj,q⟩=>q (hp _ (getD_in d om));refine iX (by have:=l1.1; have:=d1.1; have:=f1.1; omega) (iX (hw _ _ _ l1.2) (iX (hw _ _ _ d1.2) (iX (hw _ _ _ f1.2) (iX (hw _ _ _ r1.2) (iX (λ q=>q q1) (iX (hw _ _ _ p1.2.1) (iX ?_ rfl)))))));rintro ⟨j,j1,j2,j3⟩;have:=p1.2.2 (j - 1) j om j2;omega
theorem F7 {dO:Int} {dD:azp} (h1:Lx b_) (h2:GSz b_.aU) (h2':b_.aU.aH.length<=2000000) (h3:UA l_) (h4:dD.length<=9999) (h5:Ai g_) (h6:g_.Uses.length<=100000)
  (ho:EC b_.aU (g_.Uses.map aJ.gZ)) (hd:∀u∈g_.Uses,u.gP∈dD) (hf:FnU b_ l_ dD g_.Uses):W (rC b_ l_ g_ dO dD) (λ r=>r.2.2=0->(Ai r.1∧r.1.Uses.length<=g_.Uses.length+(l_.getD dO.toNat bK).au.length)∧
   (∀u∈r.1.Uses,u.gP∈dD++[dO])∧EC b_.aU (r.1.Uses.map aJ.gZ)∧FnU b_ l_ (dD++[dO]) r.1.Uses∧CJ l_ (dD++[dO])∧AgA b_ l_ (dD++[dO]) r.1.Uses r.1):=by
 unfold rC;refine aG (QE h1 h2 h3 om h5) λ v1 hv1=>?_;refine bV ?_ ?_<;>intro c1
 ·have c1:=eX c1;exact aC λ e=>absurd e c1
 have c1:=eX c1;obtain ⟨hn,⟨hpa,_⟩,hd0,hd1⟩:=hv1 c1;obtain ⟨hb,hl12,hnd⟩:=zS hn;have auC:=LQ ho;refine aG (Ib om) λ v2 _=>?_;refine bV (λ c2=>aC nofun) (λ c2=>?_);refine aP (by unfold big; omega) ?_;refine aP (by unfold big; omega) ?_;refine aG (Nv om om) λ v11 anJ=>?_;rw [Wj hd] at anJ;subst anJ;unfold wX;refine aG (V9 h1 h2 h3 (by dsimp only; rw [afa,alk]; omega) (by dsimp only; omega)) λ v4 ⟨hga,_,hgl⟩=>?_;refine bV ?_ ?_<;>intro c3
 ·have c3:=eX c3;exact aC λ e=>absurd e c3
 have c3:=eX c3;obtain ⟨_,hdf,hag⟩:=hgl c3;have hus:=hag.us;dsimp only at hus hdf;rw [Wj λ u hu=>atu _ (hd u hu)] at hus;refine aG (abM auC (by dsimp only; omega)) λ v10 Gq=>?_;subst Gq;have aAw:=(hnd _ (getD_in (i:=dO.toNat) bK om)).fl;unfold vw;dsimp only;refine aP ⟨hd0,hd1⟩ ?_;refine aP (by rw [alg]; unfold big; omega) ?_;refine aG (Zx h2 (by rw [afa,alg]; omega) h2' hpa.v (ap2 ho) (by rw [afa,alg,alg]; omega)) λ v6 hv6=>?_;refine bV (λ c4=>aC nofun) (λ c4=>?_);have c4:=eX c4;obtain ⟨ha1,ha2,ha3⟩:=hv6 c4;rw [afa,alg] at ha1;rw [alg] at ha3;refine aP ⟨hd0,hd1⟩ ?_;refine bS (λ g3:Int×azw=>0<=g3.1∧g3.1<=(l_.getD dO.toNat bK).au.length∧(∃new,g3.2=g_.Uses++new∧new.map (λ u=>(u.gP,nmU b_.aU u.gZ))=((l_.getD dO.toNat bK).au.take g3.1.toNat).map λ f=>(dO,f))∧g3.2.map (λ u=>u.gZ.bT)=v6.1.take (g_.Uses.length+g3.1.toNat)∧∀u∈g3.2,Qq b_.aU u.gZ) (λ g3=>((l_.getD dO.toNat bK).au.length - g3.1).toNat) ?_ ⟨ob,ob,⟨[],by dsimp only; rw [hus,amL],rfl⟩,?_,λ u hu=>?_⟩
 ·intro nE g3 ⟨d1,d2,⟨new,d3,d4⟩,d5,d6⟩ ih3;have hnl:new.length=g3.1.toNat:=by
   have:=congrArg List.length d4;rw [alg,alg,ahj] at this;omega
  have hgl:g3.2.length=g_.Uses.length+g3.1.toNat:=by rw [d3,afa,hnl]
  unfold DT;refine wi ?_ ?_<;>intro c5
  ·dsimp only;rw [alg];have e:((g_.Uses.length:Int)+g3.1).toNat=g_.Uses.length+g3.1.toNat:=by omega
   have e1:(g3.1+1).toNat=g3.1.toNat+1:=by omega
   have hx:=ha2.ir _ (getD_in (i:=g_.Uses.length+g3.1.toNat) 0 om);have hof:=ha2.off (g_.Uses.length+g3.1.toNat) om;rw [YT ByteArray.empty (by rw [alg]; omega),alg,Nat.add_sub_cancel_left] at hof;rw [e];refine aP om ?_;refine aP (by unfold ay; omega) ?_;refine aP om ?_;refine aP hx ?_;have hff:=(h2 _ (getD_in (i:=(v6.1.getD (g_.Uses.length+g3.1.toNat) 0).toNat) aN om)).2;refine aG (Qx om) λ v9 ⟨t1,t2,t3,t4⟩=>?_;obtain ⟨k,k1,k2⟩:=hof;have t0:0<=v9:=atQ.1 λ q=>t4 q k k1 k2;have t5:=XH (t3 t0);refine aP (by unfold big; omega) ?_;refine aP (by unfold ay; omega) ?_;refine ih3 _ ⟨by dsimp only; omega,by dsimp only; omega,⟨new++[⟨dO,⟨v6.1.getD (g_.Uses.length+g3.1.toNat) 0,v9⟩⟩],by dsimp only; rw [d3,ays],?_⟩,?_,λ u hu=>?_⟩ (by dsimp only; omega)
   ·dsimp only;rw [e1,Je _ _ ByteArray.empty om,as4,d4,aqD,List.map_nil];congr 3
   ·dsimp only;rw [as4,d5,e1,<- auk,iM 0 om,aqD,List.map_nil]
   rcases alf.1 hu with h | h
   ·exact d6 u h
   rw [ahf] at h; rw [h];exact ⟨hx.1,hx.2,t0,t2⟩
  rw [aiI om] at d4 d5;have hdv:∀u∈g3.2,u.gP∈dD++[dO]:=by
   intro u hu;rw [d3] at hu;rcases alf.1 hu with h | h
   ·exact atu _ (hd u h)
   refine au4 _ (ahf.2 ?_);have:(u.gP,nmU b_.aU u.gZ)∈(l_.getD dO.toNat bK).au.map λ f=>(dO,f):=by rw [<- d4]; exact aq1.2 ⟨u,h,rfl⟩
   obtain ⟨f,_,e⟩:=aq1.1 this;exact (Prod.mk.inj e).1.symm
  refine aC λ _=>⟨⟨⟨hga.a,hga.b,hga.c,by dsimp only; omega,hga.d,hga.e⟩,by dsimp only; omega⟩,hdv,ap3 hpa.v ha2 d5 d6,?_,hdf,⟨hag.st,hag.ra,(Wj hdv).symm,hag.re,hag.po⟩⟩
  intro i hi f;dsimp only;rw [d3];rcases alf.1 hi with h | h
  ·refine afQ (hf i h f) ?_;unfold QB;rw [asZ];omega
  rw [ahf] at h; rw [h];exact ap4 d4 f
 ·dsimp only;rw [hus,show (0:Int).toNat=0 from rfl,aqp,ha3]
 dsimp only at hu;rw [hus] at hu;exact auC u hu
theorem acJ (h1:Lx b_) (h2:GSz b_.aU):W (Lf b_) (λ r=>Ai r.1∧r.1.Uses=[]∧(r.2=0->Qz b_ 0∧AgA b_ [] [] [] r.1)):=by
 unfold Lf;refine aG (QF h1 h2 ⟨by simp,λ _ h=>by cases h⟩ (by simp) (by simp)) λ v1 ⟨hga,hul,hgl⟩=>?_;have hun:v1.2.2.2.2.2.2.2=[]:=as2.1 (by simpa using hul);exact aC ⟨⟨hga.a,hga.b,hga.c,by dsimp only; rw [hun]; simp,hga.d,hga.e⟩,hun,λ e=>⟨(QC (hgl e).1).1,(hgl e).2.2⟩⟩
end Go.Proofs.YtifekdmmpbcdgaaGreatDoor
namespace Go.Proofs.YtifekdmmpbcdgaaGreatDoor
open Go.Ab
set_option maxRecDepth 1000000
set_option maxHeartbeats 4000000
theorem Dr:tL true:=M.arD 100 tL true (by decide +kernel)
end Go.Proofs.YtifekdmmpbcdgaaGreatDoor
namespace Go.Proofs.YtifekdmmpbcdgaaGreatDoor
open Go.Ab
set_option maxRecDepth 100000
theorem ag4 {l_:azp} {x_:Int} (h:l_.length<=2000000):W (VD l_ x_) (λ r=>r=l_.contains x_):=by
 unfold VD;refine bS (λ g1:Int=>0<=g1∧g1<=l_.length∧(l_.take g1.toNat).contains x_=false) (λ g1=>(l_.length - g1).toNat) ?_ ⟨ob,ob,by simp⟩;intro ah g1 ⟨a1,a2,a3⟩ ih1;unfold YR;refine wi ?_ ?_<;>intro c1
 ·refine wn ?_;have hlt:g1.toNat<l_.length:=by omega
  have e:l_.take (g1.toNat+1)=l_.take g1.toNat++[l_.getD g1.toNat 0]:=by
   rw [as3,adH hlt,adF,adH hlt]; rfl
  refine bV ?_ ?_<;>intro c2
  ·refine aC ?_;have:l_.getD g1.toNat 0=x_:=by simpa using c2
   rw [<- this,adF,adH hlt];exact (aqC.2 (anK hlt)).symm
  refine wn<|ih1 _ ⟨ob,ob,?_⟩ ob;rw [show (g1+1).toNat=g1.toNat+1 by omega,e];have hne:¬ l_.getD g1.toNat 0=x_:=by simpa using c2
  have h3:¬ x_∈l_.take g1.toNat:=λ hm=>by rw [aqC.2 hm] at a3; cases a3
  cases hc:(l_.take g1.toNat++[l_.getD g1.toNat 0]).contains x_ with
  | false=>rfl
  | true=>
   rcases alf.1 (aqC.1 hc) with h | h
   ·exact absurd h h3
   exact absurd (ahf.1 h).symm hne
 refine aC ?_;rw [aiI om] at a3;exact a3.symm
theorem Kk {l_:azp} {x_:Int} (h:l_.length<=2000000):W (vQ l_ x_) (λ r=>r=l_.filter λ y=>y != x_):=by
 unfold vQ;refine bS (λ g1:Int×azp=>0<=g1.1∧g1.1<=l_.length∧g1.2=(l_.take g1.1.toNat).filter λ y=>y != x_) (λ g1=>(l_.length - g1.1).toNat) ?_ ⟨ob,ob,by simp⟩;intro ah g1 ⟨a1,a2,a3⟩ ih1;have hl:g1.2.length<=g1.1.toNat:=by
  rw [a3];exact afQ (arz _ _) (by rw [ahj]; omega)
 unfold J5;refine wi ?_ ?_<;>intro c1
 ·refine wn ?_;have hlt:g1.1.toNat<l_.length:=by omega
  have e2:(g1.1+1).toNat=g1.1.toNat+1:=by omega
  have e:(l_.take (g1.1.toNat+1)).filter (λ y=>y != x_)=g1.2++(bif l_.getD g1.1.toNat 0 != x_ then [l_.getD g1.1.toNat 0] else []):=by
   rw [as3,List.filter_append,<- a3,adH hlt,adF,adH hlt];congr 1
  refine bV ?_ ?_<;>intro c2
  ·refine wn<|aP (by unfold big; omega) ?_;refine wn ?_;exact ih1 _ ⟨ob,ob,by dsimp only; rw [e2,e,c2]; rfl⟩ ob
  refine wn ?_;exact ih1 _ ⟨ob,ob,by dsimp only; rw [e2,e,c2]; exact (amL _).symm⟩ ob
 refine aC ?_;rw [aiI om] at a3;exact a3
variable {l:azu} {ms:azp}
theorem asN (h1:∀m∈ms,0<=m∧m<l.length) (h2:ms.Nodup):CJ l ms:=λ i hi=>by
 refine ⟨h1 _ (getD_in 0 om),λ k hk e=>?_⟩;have:=aqS.1 h2 k i om om hk;rw [adF,adH om,adF,adH om] at e;exact this e
theorem ap5 (h:CJ l ms):ms.Nodup:=by
 refine aqS.2 λ i j hi hj hij=>?_;have:=(h j om).2 i hij;rw [adF,adH hi,adF,adH hj] at this;exact this
variable {ms':azp}
theorem ajL (h:CJ l ms) (hs:ms'.Sublist ms):CJ l ms':=asN (λ m hm=>abL h m (hs.subset hm)) (hs.nodup (ap5 h))
def OwR (p:bR) (u v:mW):Prop:=u.bT≠v.bT∧∀a b:Nat,(a:Int)<(p.aH.getD u.bT.toNat aN).cu.length->(b:Int)<(p.aH.getD v.bT.toNat aN).cu.length->(p.aH.getD u.bT.toNat aN).cu.getD a 0≠(p.aH.getD v.bT.toNat aN).cu.getD b 0
theorem aom {p:bR} {l:azI}:EC p l↔(∀u∈l,Qq p u)∧l.Pairwise (OwR p):=by
 have hg:∀i (h:i<l.length),l.getD i fM=l[i]:=λ i h=>by rw [adF,adH h]; rfl
 constructor
 ·intro h;refine ⟨mG fM λ i hi=>(h i om).1,aqS.2 λ i j hi hj hij=>?_⟩;obtain ⟨_,h2,h3⟩:=h j om;have a:=h2 i hij;have c:=h3 i hij;rw [hg i hi,hg j hj] at a c;exact ⟨a,c⟩
 rintro ⟨h1,h2⟩ i hi;have hi:i<l.length:=by omega
 have h3:∀k,k<i->OwR p (l.getD k fM) (l.getD i fM):=λ k hk=>by
  rw [hg k om,hg i hi]; exact aqS.1 h2 k i om hi hk
 exact ⟨h1 _ (getD_in fM hi),λ k hk=>(h3 k hk).1,λ k hk=>(h3 k hk).2⟩
theorem aiN {p:bR} {us:azw} (h:EC p (us.map aJ.gZ)) (ms:azp):EC p ((NY ms us).map aJ.gZ):=by
 have hsl:((NY ms us).map aJ.gZ).Sublist (us.map aJ.gZ):=List.Sublist.map _ List.filter_sublist;obtain ⟨h1,h2⟩:=aom.1 h;exact aom.2 ⟨λ u hu=>h1 u (hsl.subset hu),h2.sublist hsl⟩
theorem ap6 {b:aV} {us:azw} (h:FnU b l ms us) (hs:∀m∈ms',m∈ms):FnU b l ms' (NY ms' us):=λ i hi f=>by
 refine afQ (h i (hs i hi) f) (Nat.le_of_eq ?_);unfold QB NY;rw [List.countP_filter];refine List.countP_congr λ u _=>?_;simp only [aei,beq_iff_eq,decide_eq_true_eq];exact ⟨λ q=>⟨q,aqC.2 (by rw [q.1]; exact hi)⟩,λ q=>q.1⟩
structure UsJ (b:aV) (l:azu) (ms:azp) (g:aM):Prop where
 dv:∀u∈g.Uses,u.gP∈ms
 ow:EC b.aU (g.Uses.map aJ.gZ)
 fn:FnU b l ms g.Uses
 df:CJ l ms
 ag:AgA b l ms g.Uses g
theorem ae6 {P:Int->Prop} (h:∀i:Nat,(i:Int)<ms.length->P (ms.getD i 0)) (hs:∀m∈ms',m∈ms) (i:Nat) (hi:(i:Int)<ms'.length):P (ms'.getD i 0):=by
 obtain ⟨j,hj,e⟩:=aln.1 (hs _ (getD_in (l:=ms') (i:=i) 0 om));have:=h j om;rw [adF,adH hj] at this;rw [<- e]; exact this
variable {g:aM}
theorem UsJ.brk {b:aV} (h:UsJ b l ms g) (hn:uj b l 0) (hs:SmN l) (hl:ms.length<=30) (hm:ms'.Sublist ms):NV b l ms' g false 0:=by
 have h:=an8 hn hs h.df hl h.ag h.ow (λ i hi f=>h.fn _ (getD_in 0 om) f);have hd:=(alN.1 (gX (by decide) (gX (by decide) h).2).1).1;obtain ⟨_,h⟩:=gX (by decide) h;obtain ⟨h2,h⟩:=gX (by decide) h;obtain ⟨h3,h⟩:=gX (by decide) h;obtain ⟨h4,h⟩:=gX (by decide) h;obtain ⟨h5,h⟩:=gX (by decide) h;obtain ⟨h6,h⟩:=gX (by decide) h;obtain ⟨h7,h⟩:=gX (by decide) h;obtain ⟨h8,h⟩:=gX (by decide) h;obtain ⟨h9,_⟩:=gX (by decide) h;have c:=alN.1 h2;have c4:=alN.1 h4;have c7:=alN.1 h7;have c8:=alN.1 h8;have c9:=alN.1 h9;have hin:=λ m hx=>hm.subset (a:=m) hx;refine iX (λ q=>q hn) (iX (λ q=>q ⟨ajL hd hm,c.2⟩) (iX h3 (iX (λ q=>q λ i hi=>?_) (iX ?_ (iX h6 (iX (λ q=>q λ i hi=>?_) (iX (λ q=>q ⟨c8.1,λ i hi=>?_⟩) (iX (λ q=>q ⟨c9.1,λ i hi=>?_⟩) rfl))))))))
 ·exact ae6 (P:=λ m=>ak7 b g (l.getD m.toNat bK) false) c4 hin i hi
 ·obtain ⟨r,hp⟩:=hm.exists_perm_append;have hp2:(drM l ms).Perm (drM l ms'++drM l r):=by
   have:=hp.flatMap_right λ m=>(l.getD m.toNat bK).fJ;rwa [auU] at this
  have e5:Sp.fH b.bI g.bB (drM l ms)=true:=by simpa using h5
  have hdr:=(ae0 hn hs hd hl).1;have hd2:Sp.iN b.bI (drM l ms')=true:=(ae0 hn hs (ajL hd hm) (by have:=hm.length_le; omega)).1;have hpl:=hp.length_eq;rw [afa] at hpl;have hdl:=QD (f:=aR.fJ) (l:=l) (c:=1) (ms:=ms') λ m q=>(hs _ (LU hd (hin m q))).2.1;have hrl:=QD (f:=aR.fJ) (l:=l) (c:=1) (ms:=r) λ m q=>(hs _ (LU hd (hp.mem_iff.2 (au4 _ q)))).2.1;have hd3:Sp.iN b.bI (drM l r)=true:=by
   have:=(Sp.abl hp2).symm.trans hdr;unfold Sp.iN at this ⊢;simp only [aei,ahk,auZ,aff] at this ⊢;exact ⟨⟨this.1.1,decide_eq_true (by have:(drM l r).length<=1*r.length:=hrl; omega)⟩,this.2.2⟩
  rw [Sp.agI hd2 hd3 (by have a:(drM l ms').length<=1*ms'.length:=hdl; have c:(drM l r).length<=1*r.length:=hrl; omega) (Sp.aix hp2 e5 hdr)];decide
 ·exact ae6 (P:=λ m=>ak8 b g (l.getD m.toNat bK) m) c7 hin i hi
 ·exact ae6 (P:=λ m=>anV g (l.getD m.toNat bK)) c8.2 hin i hi
 exact ae6 (P:=λ m=>anW g (l.getD m.toNat bK)) c9.2 hin i hi
theorem Zy {b_:aV} {l_:azu} {M_:azp} {g_:aM} {d_:Int} (h1:Lx b_) (h2:GSz b_.aU) (h3:UA l_) (h4:M_.length<=9999) (h5:Ai g_) (hk:UsJ b_ l_ M_ g_):
  W (Ew b_ l_ M_ g_ d_) (λ r=>r.2=0->Ai r.1∧r.1.Uses.length<=g_.Uses.length∧UsJ b_ l_ (M_.filter λ y=>y != d_) r.1):=by
 obtain ⟨z1,z2,z3,z4,z5,z6⟩:=id h5;unfold Ew;refine aG (QE h1 h2 h3 om h5) λ v1 hv1=>?_;refine bV ?_ ?_<;>intro c1
 ·have c1:=eX c1;exact aC λ e=>absurd e c1
 refine aG (Ib om) λ v2 _=>?_;refine bV (λ c2=>aC nofun) (λ c2=>?_);refine aG (Kk om) λ v3 hv3=>?_;subst hv3;have hl:(M_.filter λ y=>y != d_).length<=M_.length:=arz _ _;refine aG (QF h1 h2 h3 om om) λ v4 ⟨hga,hul,hv4⟩=>?_;refine aC λ e=>?_;obtain ⟨_,hdf,hag⟩:=hv4 e;have hus:=hag.us;dsimp only at hus;have hdv:∀u∈v4.2.2.2.2.2.2.2,u.gP∈M_.filter λ y=>y != d_:=λ u hu=>by
  rw [hus] at hu;exact aqC.1 (ayQ.1 hu).2
 exact ⟨⟨hga.a,hga.b,hga.c,by dsimp only; omega,hga.d,hga.e⟩,hul,⟨hdv,by dsimp only; rw [hus]; exact aiN hk.ow _,by dsimp only; rw [hus]; exact ap6 hk.fn λ i hi=>(ayQ.1 hi).1,hdf,⟨hag.st,hag.ra,(Wj hdv).symm,hag.re,hag.po⟩⟩⟩
structure aym (r:aV×azu×aM×aM×azp×Bool×dL):Prop where
 bd:amZ r.1
 nl:r.2.1.length<=5
 nd:∀x∈r.2.1,NdG r.1 r.2.1.length x
 gf:Ai r.2.2.1
 gt:Ai r.2.2.2.1
 uf:r.2.2.1.Uses.length<=40
 ut:r.2.2.2.1.Uses.length<=40
 ml:r.2.2.2.2.1.length<=5
 ok:r.2.2.2.2.2.1=true->CJ r.2.1 r.2.2.2.2.1∧NV r.1 r.2.1 r.2.2.2.2.1 r.2.2.1 false 0∧NV r.1 r.2.1 r.2.2.2.2.1 r.2.2.2.1 false 0
theorem abN {dD:dL} (h1:0<=dD.At) (h2:dD.L.length<=600):W (H7 dD) aym:=by
 unfold H7;refine aG (VG h1 h2) λ v1 ⟨b1,b2,b3⟩=>?_;refine aG (QH b1 om om b2 b3) λ v2 ⟨n1,n2,n3,n4⟩=>?_;have hbs:=aqN b1;have hgs:GSz v1.1.aU:=λ g hg=>by have:=b1.gr g hg; omega
 have hgn:=b1.ngr;have hns:UA v2.1:=⟨om,λ n hn=>by have a:=(n2 n hn).rs.1; have c:=(n2 n hn).pr.1; omega⟩;refine aG (acJ hbs hgs) λ v3 ⟨s1,s2,s3⟩=>?_;refine bV (λ _=>aC ⟨b1,by dsimp only; omega,n2,s1,s1,by dsimp only; rw [s2]; simp,by dsimp only; rw [s2]; simp,by simp,nofun⟩) (λ c0=>?_);obtain ⟨sb,sa⟩:=s3 (by simpa using c0);have hn:=aol sb om n2;have hs:SmN v2.1:=λ x hx=>⟨(n2 x hx).lm.1,(n2 x hx).dw.1,(n2 x hx).fw.1⟩
 refine bS (λ g1:(Int×azp×Int×azp×azq×azp×azw×azq×azq×azp)=>0<=g1.1∧g1.1<=v2.1.length∧0<=g1.2.2.1∧g1.2.1.length<=600∧Ai ⟨g1.2.2.2.1,⟨g1.2.2.2.2.1,g1.2.2.2.2.2.1⟩,g1.2.2.2.2.2.2.1,g1.2.2.2.2.2.2.2.1,g1.2.2.2.2.2.2.2.2.1⟩∧g1.2.2.2.2.2.2.1.length<=2*g1.1.toNat∧g1.2.2.2.2.2.2.2.2.2.length<=g1.1.toNat∧UsJ v1.1 v2.1 g1.2.2.2.2.2.2.2.2.2 ⟨g1.2.2.2.1,⟨g1.2.2.2.2.1,g1.2.2.2.2.2.1⟩,g1.2.2.2.2.2.2.1,g1.2.2.2.2.2.2.2.1,g1.2.2.2.2.2.2.2.2.1⟩) (λ g1=>(v2.1.length - g1.1).toNat) ?_ ⟨ob,ob,n3,n4,s1,by dsimp only; rw [s2]; simp,by simp,⟨by dsimp only; rw [s2]; exact nofun,by dsimp only; rw [s2]; exact λ i hi=>by (simp at hi; omega),nofun,λ i hi=>by (simp at hi; omega),by rw [<- s2] at sa; exact ⟨sa.st,sa.ra,sa.us,sa.re,sa.po⟩⟩⟩;intro ah g1 ⟨a1,a2,a3,a4,a5,a6,a7,a8⟩ ih1;unfold P8;refine wi ?_ ?_<;>intro c
 ·have hfx:=(n2 _ (getD_in (i:=g1.1.toNat) bK om)).fw.1;have e:(g1.1+1).toNat=g1.1.toNat+1:=by omega
  refine aG (F7 hbs hgs om hns om a5 (by dsimp only; omega) a8.ow a8.dv a8.fn) λ v8 BG=>?_;refine bV ?_ ?_<;>intro c2
  ·refine aG (cB om a3 a4) λ v9 Xx=>?_;obtain ⟨_,_,_,q1,q2⟩:=Xx;refine bV ?_ ?_<;>intro c3
   ·have c4:v8.2.2=0:=by
     simp only [aei,beq_iff_eq] at c3;exact c3.1
    obtain ⟨⟨r1,r2⟩,r3,r4,r5,r6,r7⟩:=BG c4;dsimp only at r2;refine aP (by unfold big; omega) ?_;refine wn ?_;exact ih1 _ ⟨ob,ob,q1,q2,r1,by dsimp only; rw [e]; omega,by dsimp only; rw [afa,alk,e]; omega,⟨r3,r4,r5,r6,r7⟩⟩ ob
   refine wn ?_;exact ih1 _ ⟨ob,ob,q1,q2,a5,by dsimp only; rw [e]; omega,by dsimp only; rw [e]; omega,a8⟩ ob
  refine aP (by cases h:(v8.2.2==(0:Int)) with | false=>rfl | true=>rw [h] at c2; cases c2) ?_;refine wn ?_;exact ih1 _ ⟨ob,ob,a3,a4,a5,by dsimp only; rw [e]; omega,by dsimp only; rw [e]; omega,a8⟩ ob
 refine aP (by unfold big; omega) ?_;refine bS (λ g2:(azp×Int×azp×Int×azp×azq×azp×azw×azq×azq)=>g2.1.length<=5∧0<=g2.2.1∧g2.2.1<=g1.2.2.2.2.2.2.2.2.2.length∧0<=g2.2.2.2.1∧g2.2.2.1.length<=600∧Ai ⟨g2.2.2.2.2.1,⟨g2.2.2.2.2.2.1,g2.2.2.2.2.2.2.1⟩,g2.2.2.2.2.2.2.2.1,g2.2.2.2.2.2.2.2.2.1,g2.2.2.2.2.2.2.2.2.2⟩∧g2.2.2.2.2.2.2.2.1.length<=10∧UsJ v1.1 v2.1 g2.1 ⟨g2.2.2.2.2.1,⟨g2.2.2.2.2.2.1,g2.2.2.2.2.2.2.1⟩,g2.2.2.2.2.2.2.2.1,g2.2.2.2.2.2.2.2.2.1,g2.2.2.2.2.2.2.2.2.2⟩∧g2.1.Sublist g1.2.2.2.2.2.2.2.2.2) (λ g2=>(g1.2.2.2.2.2.2.2.2.2.length - g2.2.1).toNat) ?_ ⟨by dsimp only; omega,ob,ob,a3,a4,a5,by dsimp only; omega,a8,List.Sublist.refl _⟩;intro dY g2 ⟨d0,d1,d2,d3,d4,d5,d6,d7,d8⟩ ih2;unfold Nl;refine bV ?_ ?_<;>intro c2
 ·have c2:=eX c2;refine wn ?_;unfold Dh;refine aG (cB om d3 d4) λ v16 aeD=>?_;obtain ⟨_,_,_,q1,q2⟩:=aeD;refine bV ?_ ?_<;>intro c3
  ·refine aG (Zy hbs hgs hns om d5 d7) λ v17 apP=>?_;refine bV ?_ ?_<;>intro c4
   ·have c4:=eX c4;obtain ⟨r1,r2,r3⟩:=apP c4;dsimp only at r2;refine aG (Kk om) λ v18 asi=>?_;subst asi;have hfl:(g2.1.filter λ y=>y != g1.2.2.2.2.2.2.2.2.2.getD g2.2.1.toNat 0).length<=g2.1.length:=arz _ _;refine wn ?_;exact ih2 _ ⟨by dsimp only; omega,ob,ob,q1,q2,r1,by dsimp only; omega,r3,List.filter_sublist.trans d8⟩ ob
   refine wn ?_;exact ih2 _ ⟨by dsimp only; omega,ob,ob,q1,q2,d5,by dsimp only; omega,d7,d8⟩ ob
  refine wn ?_;exact ih2 _ ⟨by dsimp only; omega,ob,ob,q1,q2,d5,by dsimp only; omega,d7,d8⟩ ob
 have c2:=eX c2;refine aP (by unfold big; omega) ?_;refine bS (λ g6:(Int×azp×azq×azp×azw×azq×azq×azp)=>0<=g6.1∧g6.1<=v2.1.length∧Ai ⟨g6.2.1,⟨g6.2.2.1,g6.2.2.2.1⟩,g6.2.2.2.2.1,g6.2.2.2.2.2.1,g6.2.2.2.2.2.2.1⟩∧g6.2.2.2.2.1.length<=10+2*g6.1.toNat∧g6.2.2.2.2.2.2.2.length<=5+g6.1.toNat∧UsJ v1.1 v2.1 g6.2.2.2.2.2.2.2 ⟨g6.2.1,⟨g6.2.2.1,g6.2.2.2.1⟩,g6.2.2.2.2.1,g6.2.2.2.2.2.1,g6.2.2.2.2.2.2.1⟩∧g2.1.Sublist g6.2.2.2.2.2.2.2) (λ g6=>(v2.1.length - g6.1).toNat) ?_ ⟨ob,ob,d5,by dsimp only; omega,by dsimp only; omega,d7,List.Sublist.refl _⟩;intro jQ g6 ⟨e1,e2,e3,e4,e5,e6,e7⟩ ih6;unfold Nk;refine wi ?_ ?_<;>intro c5
 ·have hfx:=(n2 _ (getD_in (i:=g6.1.toNat) bK om)).fw.1;have e:(g6.1+1).toNat=g6.1.toNat+1:=by omega
  refine aG (F7 hbs hgs om hns om e3 (by dsimp only; omega) e6.ow e6.dv e6.fn) λ v23 ayn=>?_;refine aG (ag4 om) λ v24 hv24=>?_;refine bV ?_ ?_<;>intro c6
  ·have c7:v23.2.2=0:=by
    simp only [aei,beq_iff_eq] at c6;exact c6.2
   obtain ⟨⟨r1,r2⟩,r3,r4,r5,r6,r7⟩:=ayn c7;dsimp only at r2;refine aP (by unfold big; omega) ?_;refine wn ?_;exact ih6 _ ⟨ob,ob,r1,by dsimp only; rw [e]; omega,by dsimp only; rw [afa,alk,e]; omega,⟨r3,r4,r5,r6,r7⟩,e7.trans (List.sublist_append_left _ _)⟩ ob
  refine wn ?_;exact ih6 _ ⟨ob,ob,e3,by dsimp only; rw [e]; omega,by dsimp only; rw [e]; omega,e6,e7⟩ ob
 refine aG (cB om d3 d4) λ v26 _=>?_;have kf:=a8.brk hn hs om d8;have kt:=e6.brk hn hs om e7;refine bV ?_ ?_<;>intro _
 ·unfold rD;exact aC ⟨b1,by dsimp only; omega,n2,e3,a5,by dsimp only; omega,by dsimp only; omega,d0,λ _=>⟨d7.df,kt,kf⟩⟩
 unfold rD;exact aC ⟨b1,by dsimp only; omega,n2,a5,e3,by dsimp only; omega,by dsimp only; omega,d0,λ _=>⟨d7.df,kf,kt⟩⟩
def GpD (l:azw):Prop:=(l.map λ u=>u.gZ.bT).Nodup
structure Eqv (g h:aM):Prop where
 st:g.Setting=h.Setting
 on:g.bB.On=h.bB.On
 lv:g.bB.bC=h.bB.bC
 re:g.Released=h.Released
 po:g.aY=h.aY
 us:(g.Uses.map aJ.gZ).Perm (h.Uses.map aJ.gZ)
theorem Eqv.refl (g:aM):Eqv g g:=⟨rfl,rfl,rfl,rfl,rfl,.refl _⟩
theorem Eqv.symm {h:aM} (q:Eqv g h):Eqv h g:=⟨q.st.symm,q.on.symm,q.lv.symm,q.re.symm,q.po.symm,q.us.symm⟩
theorem Eqv.trans {h k:aM} (q:Eqv g h) (r:Eqv h k):Eqv g k:=⟨q.st.trans r.st,q.on.trans r.on,q.lv.trans r.lv,q.re.trans r.re,q.po.trans r.po,q.us.trans r.us⟩
structure GdG (g:aM):Prop where
 gp:GpD g.Uses
 st:∀x∈g.Setting,0<=x∧x<=4611686018427387904
 lv:∀x∈g.bB.bC,0<=x∧x<=4611686018427387904
 fn:∀u∈g.Uses.map aJ.gZ,0<=u.dJ
 fb:∀u∈g.Uses.map aJ.gZ,u.dJ<4611686018427387904
def ofU (l:azI) (u:Int):Int:=match l.find? (λ x=>x.bT==u) with
 | some x=>x.dJ+1
 | none=>0
inductive ApW (g:aM) (w:aI):aM->Prop
 | k1 (k:w.dG=1) (u0:0<=w.Unit) (u1:w.Unit<g.Setting.length) (v0:0<=w.Value∧w.Value<=4611686018427387904):ApW g w { g with Setting:=g.Setting.set w.Unit.toNat w.Value }
 | k2 (k:w.dG=2) (u0:0<=w.Unit) (u1:w.Unit<g.bB.bC.length) (v0:0<=w.Value∧w.Value<=4611686018427387904):ApW g w { g with bB:=⟨g.bB.On,g.bB.bC.set w.Unit.toNat w.Value⟩ }
 | k3 (k:w.dG=3) (u0:0<=w.Unit) (u1:w.Unit<g.bB.On.length) (v0:0<=w.Value) (v1:w.Value<=1):ApW g w { g with bB:=⟨g.bB.On.set w.Unit.toNat (w.Value==1),g.bB.bC⟩ }
 | k11 (k:w.dG=11) (u0:0<=w.Unit) (u1:w.Unit<g.Released.length) (v0:0<=w.Value) (v1:w.Value<=1):ApW g w { g with Released:=g.Released.set w.Unit.toNat (w.Value==1) }
 | k12 (k:w.dG=12) (u0:0<=w.Unit) (u1:w.Unit<g.aY.length) (v0:0<=w.Value) (v1:w.Value<=1):ApW g w { g with aY:=g.aY.set w.Unit.toNat (w.Value==1) }
 | k10 (k:w.dG=10) (u0:0<=w.Unit) (u1:w.Unit<=23) (v0:0<=w.Value∧w.Value<=4611686018427387904):ApW g w { g with Uses:=abp w.Unit w.Value (LB w.Unit g.Uses) }
inductive ApL:aM->azr->aM->Prop
 | nil (g:aM):ApL g [] g
 | cons {g g1 h:aM} {w:aI} {ws:azr} (a:ApW g w g1) (b:ApL g1 ws h):ApL g (w::ws) h
theorem ApL.app {h k:aM} {u v:azr} (a:ApL g u h) (b:ApL h v k):ApL g (u++v) k:=by
 induction a with
 | nil=>exact b
 | cons a _ ih=>exact .cons a (ih b)
theorem ApL.one {h:aM} {w:aI} (a:ApW g w h):ApL g [w] h:=.cons a (.nil _)
structure Bts (n:Nat) (P:Nat->Bool) (l:azq):Prop where
 len:l.length=n
 at_:∀j,j<n->l.getD j false=P j
variable {n:Nat} {P:Nat->Bool}
theorem Bts.ext {Q:Nat->Bool} {l m:azq} (h:Bts n P l) (k:Bts n Q m) (e:∀j,j<n->P j=Q j):l=m:=by
 refine avo (by rw [h.len,k.len]) λ j h1 h2=>?_;have a:=h.at_ j (by rw [<- h.len]; exact h1);have b:=k.at_ j (by rw [<- k.len]; exact h2);rw [adF,adH h1,as8] at a;rw [adF,adH h2,as8] at b;rw [a,b];exact e j (by rw [<- h.len]; exact h1)
theorem Bts.set {l:azq} (h:Bts n P l) {i:Nat} (hi:i<n) (v:Bool):Bts n (λ j=>if j=i then v else P j) (l.set i v):=by
 refine ⟨by rw [ahl]; exact h.len,λ j hj=>?_⟩;rw [adF,auJ];by_cases e:j=i
 ·subst e;rw [if_pos rfl,if_pos rfl,if_pos (by rw [h.len]; exact hi)]; rfl
 rw [if_neg (λ k=>e k.symm),if_neg e,<- adF];exact h.at_ j hj
theorem Bts.auD {Q:Nat->Bool} {l:azq} (h:Bts n P l) (e:∀j,j<n->P j=Q j):Bts n Q l:=⟨h.len,λ j hj=>(h.at_ j hj).trans (e j hj)⟩
structure Ats {α:Type} (d:α) (n:Nat) (P:Nat->α) (l:List α):Prop where
 len:l.length=n
 at_:∀j,j<n->l.getD j d=P j
variable {α:Type}
theorem Ats.ext {d:α} {P Q:Nat->α} {l m:List α} (h:Ats d n P l) (k:Ats d n Q m) (e:∀j,j<n->P j=Q j):l=m:=by
 refine avo (by rw [h.len,k.len]) λ j h1 h2=>?_;have a:=h.at_ j (by rw [<- h.len]; exact h1);have b:=k.at_ j (by rw [<- k.len]; exact h2);rw [adF,adH h1,as8] at a;rw [adF,adH h2,as8] at b;rw [a,b];exact e j (by rw [<- h.len]; exact h1)
theorem Ats.set {d:α} {P:Nat->α} {l:List α} (h:Ats d n P l) {i:Nat} (hi:i<n) (v:α):Ats d n (λ j=>if j=i then v else P j) (l.set i v):=by
 refine ⟨by rw [ahl]; exact h.len,λ j hj=>?_⟩;rw [adF,auJ];by_cases e:j=i
 ·subst e;rw [if_pos rfl,if_pos rfl,if_pos (by rw [h.len]; exact hi)]; rfl
 rw [if_neg (λ k=>e k.symm),if_neg e,<- adF];exact h.at_ j hj
theorem Ats.auD {d:α} {P Q:Nat->α} {l:List α} (h:Ats d n P l) (e:∀j,j<n->P j=Q j):Ats d n Q l:=⟨h.len,λ j hj=>(h.at_ j hj).trans (e j hj)⟩
theorem Ats.self {d:α} (l:List α):Ats d l.length (λ j=>l.getD j d) l:=⟨rfl,λ _ _=>rfl⟩
def jnL (a b:bq) (j:Nat):Int:=if a.On.getD j false=true then (if b.On.getD j false=true then (if b.bC.getD j 0 > a.bC.getD j 0 then b.bC.getD j 0 else a.bC.getD j 0) else a.bC.getD j 0) else b.bC.getD j 0
end Go.Proofs.YtifekdmmpbcdgaaGreatDoor
namespace Go.Bf
open Go.Ab
section
variable (nb:Nat->Nat->Prop) (a:Nat)
inductive Rch:Nat->Nat->Prop
 | z:Rch 0 a
 | s {k:Nat} {x y:Nat} (h:Rch k x) (n:nb x y):Rch (k+1) y
def IsD (x:Nat) (k:Nat):Prop:=Rch nb a k x∧∀j,Rch nb a j x->k<=j
structure Bfs (dn qu:azt) (D:Nat->Option Nat):Prop where
 a0:D a=some 0
 mem:∀x,(D x).isSome=true↔x∈dn∨x∈qu
 rk:∀x k,D x=some k->Rch nb a k x
 near:∀x∈dn,∀y,nb x y->∃k k',D x=some k∧D y=some k'∧k'<=k+1
 ord:qu.Pairwise λ x y=>∀k k',D x=some k->D y=some k'->k<=k'
 top:∀x,qu.head? = some x->∀y k k',D x=some k->D y=some k'->k'<=k+1
structure Gu (x:Nat) (dn rest:azt) (D:Nat->Option Nat) (V:Nat->Prop):Prop where
 b:Bfs nb a dn (x::rest) D
 v:∀y,V y->nb x y->∃k k',D x=some k∧D y=some k'∧k'<=k+1
end
section
variable {nb:Nat->Nat->Prop} {a:Nat}
def jo (D:Nat->Option Nat) (y:Nat) (k:Nat):Nat->Option Nat:=λ z=>if z=y then some k else D z
theorem Bfs.start:Bfs nb a [] [a] (λ x=>if x=a then some 0 else none) where
 a0:=if_pos rfl
 mem:=λ x=>by
  by_cases h:x=a<;>simp [h]
 rk:=λ x k h=>by
  by_cases e:x=a
  ·subst e; simp at h; subst h; exact .z
  simp [e] at h
 near:=λ x h=>by cases h
 ord:=by simp
 top:=λ x h y k k' h1 h2=>by
  by_cases e:y=a
  ·simp [e] at h2; omega
  simp [e] at h2
variable {x:Nat} {dn:azt} {rest:azt} {D:Nat->Option Nat}
theorem Bfs.head (h:Bfs nb a dn (x::rest) D):∃k,D x=some k:=by
 have:=(h.mem x).2 (.inr apo);exact ano.1 this
theorem Bfs.mid (h:Bfs nb a dn (x::rest) D):Gu nb a x dn rest D (λ _=>False):=⟨h,λ _ h=>h.elim⟩
variable {y:Nat} {V:Nat->Prop}
theorem Gu.old (h:Gu nb a x dn rest D V) {k':Nat} (hy:D y=some k'):Gu nb a x dn rest D (λ z=>V z∨z=y):=
 ⟨h.b,λ z hz hn=>by
  rcases hz with hz | rfl
  ·exact h.v z hz hn
  obtain ⟨k,hk⟩:=h.b.head;exact ⟨k,k',hk,hy,h.b.top x rfl z k k' hk hy⟩⟩
theorem Gu.skip (h:Gu nb a x dn rest D V) (hn:¬ nb x y):Gu nb a x dn rest D (λ z=>V z∨z=y):=
 ⟨h.b,λ z hz hn'=>by
  rcases hz with hz | rfl
  ·exact h.v z hz hn'
  exact absurd hn' hn⟩
variable {k:Nat}
theorem Gu.new (h:Gu nb a x dn rest D V) (hx:D x=some k) (hy:D y=none) (hn:nb x y):Gu nb a x dn (rest++[y]) (jo D y (k+1)) (λ z=>V z∨z=y):=by
 have e0:∀z q,D z=some q->jo D y (k+1) z=some q:=λ z q hz=>by
  unfold jo;rw [if_neg (λ e=>by subst e; rw [hy] at hz; cases hz)];exact hz
 have ey:jo D y (k+1) y=some (k+1):=if_pos rfl;have inv:∀z q,jo D y (k+1) z=some q->(z=y∧q=k+1)∨(z≠y∧D z=some q):=λ z q hz=>by
  unfold jo at hz;by_cases e:z=y
  ·rw [if_pos e] at hz; exact .inl ⟨e,(alm hz).symm⟩
  rw [if_neg e] at hz; exact .inr ⟨e,hz⟩
 refine ⟨⟨e0 _ _ h.b.a0,λ z=>?_,λ z q hz=>?_,λ z hz w hw=>?_,?_,λ z hz w q q' h1 h2=>?_⟩,λ z hz hn'=>?_⟩
 ·by_cases e:z=y
  ·subst e; rw [ey]; simp
  unfold jo;rw [if_neg e,h.b.mem];simp [e]
 ·rcases inv z q hz with ⟨rfl,rfl⟩ | ⟨_,h1⟩
  ·exact .s (h.b.rk x k hx) hn
  exact h.b.rk z q h1
 ·obtain ⟨q,q',h1,h2,h3⟩:=h.b.near z hz w hw;exact ⟨q,q',e0 _ _ h1,e0 _ _ h2,h3⟩
 ·have h1:(x::rest).Pairwise λ x y'=>∀q q',jo D y (k+1) x=some q->jo D y (k+1) y'=some q'->q<=q':=by
   refine List.Pairwise.imp_of_mem ?_ h.b.ord;intro z w hz hw hzw q q' h1 h2;obtain ⟨qz,ez⟩:=ano.1 ((h.b.mem z).2 (.inr hz));obtain ⟨qw,ew⟩:=ano.1 ((h.b.mem w).2 (.inr hw));have a1:=e0 z qz ez;have a2:=e0 w qw ew;rw [h1] at a1; rw [h2] at a2;have a1:=alm a1;have a2:=alm a2;subst a1 a2;exact hzw q q' ez ew
  rw [<- apW];refine List.pairwise_append.2 ⟨h1,by simp,λ z hz w hw q q' g1 g2=>?_⟩;have hw:=ahf.1 hw;subst hw;rw [ey] at g2;have g2:=alm g2;obtain ⟨qz,ez⟩:=ano.1 ((h.b.mem z).2 (.inr hz));have a1:=e0 z qz ez;rw [g1] at a1;have a1:=alm a1;subst a1;have:=h.b.top x rfl z k q hx ez;omega
 ·have hz:z=x:=(alm hz).symm;subst hz;have hq:q=k:=by
   have:=e0 z k hx;rw [h1] at this;exact alm this
  subst hq;rcases inv w q' h2 with ⟨_,e⟩ | ⟨_,e⟩
  ·omega
  exact h.b.top z rfl w q q' hx e
 rcases hz with hz | rfl
 ·obtain ⟨q,q',h1,h2,h3⟩:=h.v z hz hn';exact ⟨q,q',e0 _ _ h1,e0 _ _ h2,h3⟩
 exact ⟨k,k+1,e0 _ _ hx,ey,afg _⟩
theorem Gu.done (h:Gu nb a x dn rest D V) (hV:∀y,nb x y->V y):Bfs nb a (dn++[x]) rest D where
 a0:=h.b.a0
 mem:=λ y=>by
  rw [h.b.mem y];simp only [alf,alu,ayG,or_false];exact ⟨λ q=>by rcases q with q | q | q<;>simp [q],λ q=>by rcases q with (q | q) | q<;>simp [q]⟩
 rk:=h.b.rk
 near:=λ y hy z hz=>by
  rcases alf.1 hy with hy | hy
  ·exact h.b.near y hy z hz
  have:=ahf.1 hy;subst this;exact h.v z (hV z hz) hz
 ord:=(List.pairwise_cons.1 h.b.ord).2
 top:=λ y hy z q q' h1 h2=>by
  obtain ⟨k,hk⟩:=h.b.head;have hy:y∈rest:=List.mem_of_mem_head? hy;have a1:=(List.pairwise_cons.1 h.b.ord).1 y hy k q hk h1;have a2:=h.b.top x rfl z k q' hk h2;omega
theorem Bfs.reach (h:Bfs nb a dn [] D):∀ {k:Nat} {x:Nat},Rch nb a k x->∃k',D x=some k'∧k'<=k:=by
 intro k x hr;induction hr with
 | z=>exact ⟨0,h.a0,afg _⟩
 | @s k x y _ hn ih=>
  obtain ⟨k',e,hk⟩:=ih;have hx:x∈dn:=by
   have:=(h.mem x).1 (by rw [e]; rfl);simpa using this
  obtain ⟨q,q',e1,e2,hq⟩:=h.near x hx y hn;rw [e] at e1;have:=alm e1;exact ⟨q',e2,(by omega)⟩
theorem Bfs.final (h:Bfs nb a dn [] D) (x:Nat) (k:Nat):D x=some k↔IsD nb a x k:=by
 constructor
 ·intro e;refine ⟨h.rk x k e,λ j hj=>?_⟩;obtain ⟨k',e',hk⟩:=h.reach hj;rw [e] at e';have:=alm e';omega
 rintro ⟨h1,h2⟩;obtain ⟨k',e',hk⟩:=h.reach h1;have:=h2 k' (h.rk x k' e');rw [e'];congr 1;omega
theorem Bfs.none (h:Bfs nb a dn [] D) (e:D x=none) (k:Nat):¬ Rch nb a k x:=λ hr=>by
 obtain ⟨k',e',_⟩:=h.reach hr;rw [e] at e';cases e'
end
section
variable {nb:Nat->Nat->Prop} {a:Nat}
variable {x:Nat} {dn:azt} {rest:azt} {D:Nat->Option Nat} {y:Nat} {V:Nat->Prop} {k:Nat}
theorem IsD.uniq {k':Nat} (h:IsD nb a x k) (h':IsD nb a x k'):k=k':=Nat.le_antisymm (h.2 _ h'.1) (h'.2 _ h.1)
theorem IsD.prev (h:IsD nb a y (k+1)):∃x,IsD nb a x k∧nb x y:=by
 obtain ⟨h1,h2⟩:=h;cases h1 with
 | @s _ x _ hx hn=>exact ⟨x,⟨hx,λ j hj=>by have:=h2 (j+1) (.s hj hn); omega⟩,hn⟩
theorem IsD.zero (h:IsD nb a y 0):y=a:=by
 obtain ⟨h1,_⟩:=h;cases h1; rfl
theorem IsD.self:IsD nb a a 0:=⟨.z,λ _ _=>alh _⟩
theorem Rch.trans {i j:Nat} (h:Rch nb a i x) (h':Rch nb x j y):Rch nb a (i+j) y:=by
 induction h' with
 | z=>exact h
 | s _ hn ih=>exact .s ih hn
theorem Rch.rev {C:Nat->Prop} (hC:C a) (hs:∀x y,C x->nb x y->C y∧nb y x) (h:Rch nb a k x):C x∧Rch nb x k a:=by
 induction h with
 | z=>exact ⟨hC,.z⟩
 | @s k x y _ hn ih=>
  obtain ⟨h1,h2⟩:=hs x y ih.1 hn;refine ⟨h1,?_⟩;have:=Rch.trans (.s .z h2) ih.2;rwa [azk] at this
theorem IsD.rev {C:Nat->Prop} (hC:C a) (hs:∀x y,C x->nb x y->C y∧nb y x) (h:IsD nb a x k):IsD nb x a k:=by
 obtain ⟨h1,h2⟩:=h.1.rev hC hs;exact ⟨h2,λ j hj=>h.2 j (hj.rev h1 hs).2⟩
end
end Go.Bf
namespace Go.Proofs.YtifekdmmpbcdgaaGreatDoor
open Go.Ab
set_option maxRecDepth 100000
variable {l:azs}
theorem Ie:∀ {s t:azp},VS l s->VS l t->gN l s=gN l t->s=t:=by
 induction l with
 | nil=>
  intro s t hs ht _;rw [as2.1 hs.1,as2.1 ht.1]
 | cons c l ih=>
  intro s t hs ht e;obtain ⟨x,s,rfl,x0,x1,hs⟩:=VW hs;obtain ⟨y,t,rfl,y0,y1,ht⟩:=VW ht;have p1:=I6 hs;have p2:=I6 ht;rw [gN,gN] at e;have hd:x.toNat=y.toNat:=by
   rcases auI x.toNat y.toNat with q | q | q
   ·have:(x.toNat+1)*gY l<=y.toNat*gY l:=afh _ om;rw [alq,avI] at this;omega
   ·exact q
   have:(y.toNat+1)*gY l<=x.toNat*gY l:=afh _ om;rw [alq,avI] at this;omega
  rw [hd] at e;rw [show x=y by omega,ih hs ht om]
variable {s:azp} {v:Int}
theorem QI (h:VS l s) {u:Nat} (hv:0<=v) (hv2:v<(l.getD u aL).aO.length):VS l (s.set u v):=by
 refine ⟨by rw [ahl]; exact h.1,λ i hi=>?_⟩;by_cases e:u=i
 ·subst e;rw [adF,aqI (by rw [h.1]; exact hi)];exact ⟨hv,hv2⟩
 rw [adF,auM e,<- adF];exact h.2 i hi
def aiO (x:aZ):aZ:=⟨x.eO,0,x.fI⟩
def pY (l:azs) (s:azp) (way:azz):Bool:=ownB l (fU l s)&&!(way.map aiO).any (RV (fU l s))
structure NbC (l:azs) (way:azz) (s:azp) (u:Nat) (v:Int):Prop where
 hu:u<l.length
 v0:0<=v
 v1:v<(l.getD u aL).aO.length
 ne:v≠s.getD u 0
 cm:pY l (s.set u v) way=true
def nbN (l:azs) (way:azz) (m n:Nat):Prop:=∃s u v,VS l s∧gN l s=m∧NbC l way s u v∧gN l (s.set u v)=n
def okN (l:azs) (way:azz) (m:Nat):Prop:=∃s,VS l s∧gN l s=m∧pY l s way=true
variable {way:azz} {n:Nat}
theorem ajM {m:Nat} (h:okN l way m) (hn:nbN l way m n):okN l way n∧nbN l way n m:=by
 obtain ⟨s0,h1,h2,h3⟩:=h;obtain ⟨s,u,v,g1,g2,g3,g4⟩:=hn;have:=Ie h1 g1 (h2.trans g2.symm);subst this;have gv:=QI g1 g3.v0 g3.v1;refine ⟨⟨_,gv,g4,g3.cm⟩,s0.set u v,u,s0.getD u 0,gv,g4,?_,?_⟩
 ·have hu:u<s0.length:=by rw [g1.1]; exact g3.hu
  have e:(s0.set u v).set u (s0.getD u 0)=s0:=by
   rw [aw9,adF,adH hu];exact asq hu
  refine ⟨g3.hu,(g1.2 u g3.hu).1,(g1.2 u g3.hu).2,?_,by rw [e]; exact h3⟩;rw [adF (l:=s0.set u v),aqI hu];exact λ e=>g3.ne e.symm
 have hu:u<s0.length:=by rw [g1.1]; exact g3.hu
 have e:(s0.set u v).set u (s0.getD u 0)=s0:=by
  rw [aw9,adF,adH hu];exact asq hu
 rw [e]; exact h2
def asP (l:azs) (way:azz) (a:azp) (s:azp) (k:Nat):Prop:=Go.Bf.IsD (nbN l way) (gN l a) (gN l s) k
def lexLt (u u':Nat) (v v':Int):Prop:=u<u'∨u=u'∧v<v'
structure Nxt (l:azs) (way:azz) (a:azp) (s:azp) (k:Nat) (u:Nat) (v:Int):Prop where
 nb:NbC l way s u v
 d:asP l way a (s.set u v) k
 least:∀(u':Nat) (v':Int),u'<l.length->0<=v'->v'<(l.getD u' aL).aO.length->lexLt u' u v' v->¬ asP l way a (s.set u' v') k
inductive PlC (l:azs) (way:azz) (a:azp):azp->List (Nat×Int)->Prop
 | nil:PlC l way a a []
 | cons {s:azp} {k u:Nat} {v:Int} {ws:List (Nat×Int)} (d:asP l way a s (k+1)) (n:Nxt l way a s k u v) (h:PlC l way a (s.set u v) ws):PlC l way a s ((u,v)::ws)
variable {i:Nat}
theorem ae7 (h:i<l.length):gY (l.drop i)=(l.getD i aL).aO.length*gY (l.drop (i+1)):=by
 rw [drop_cons aL h,gY]
theorem aqa (h:VS l s) (i:Nat):VS (l.drop i) (s.drop i):=by
 refine ⟨by rw [aqR,aqR,h.1],λ j hj=>?_⟩;rw [aqR] at hj;have:=h.2 (i+j) om;have e1:(s.drop i).getD j 0=s.getD (i+j) 0:=by
  rw [adF,aw4,<- adF]
 have e2:(l.drop i).getD j aL=l.getD (i+j) aL:=by
  rw [adF,aw4,<- adF]
 rw [e1,e2];exact this
theorem ag6 (h:VS l s) (hi:i<l.length):gN (l.drop i) (s.drop i)=(s.getD i 0).toNat*gY (l.drop (i+1))+gN (l.drop (i+1)) (s.drop (i+1)):=by
 rw [drop_cons aL hi,drop_cons (0:Int) (by rw [h.1]; exact hi),gN]
theorem aqb (h:VS l s):0<gY l:=Nat.lt_of_le_of_lt (alh _) (I6 h)
structure CkL (l:azs) (way:azz):Prop where
 ck:eD l=0
 ll:l.length<=2000000
 wl:way.length<=2000000
 wc:∀x∈way,0<=x.eO∧x.eO<l.length
structure Rd (n:Nat) (d:azp) (D:Nat->Option Nat) (q:Nat):Prop where
 len:d.length=n
 at_:∀k,k<n->d.getD k 0=match D k with | some m=>(m:Int) | none => -1
 lt:∀k m,D k=some m->k<n∧m<q
def auE (d:azp):Nat:=d.countP λ x=>decide (x<0)
variable {D:Nat->Option Nat} {k:Nat}
theorem Rd.new {d:azp} {q:Nat} (h:Rd n d D q) {y:Nat} (hy:y<n) (hk:k<q):Rd n (d.set y ((k:Int)+1)) (Go.Bf.jo D y (k+1)) (q+1):=by
 refine ⟨by rw [ahl]; exact h.len,λ z hz=>?_,λ z m hm=>?_⟩
 ·rw [adF,auJ];unfold Go.Bf.jo;by_cases e:z=y
  ·subst e;rw [if_pos rfl,if_pos (by rw [h.len]; exact hz),if_pos rfl];simp
  rw [if_neg (λ q=>e q.symm),if_neg e,<- adF];exact h.at_ z hz
 unfold Go.Bf.jo at hm;by_cases e:z=y
 ·rw [if_pos e] at hm;have:=alm hm;omega
 rw [if_neg e] at hm;have:=h.lt z m hm;omega
def Nz (l:azs) (s:azp) (u v:Int) (y:Nat):Prop:=∃(u':Nat) (v':Int),u'<l.length∧0<=v'∧v'<(l.getD u' aL).aO.length∧((u':Int)<u∨(u':Int)=u∧v'<v)∧y=gN l (s.set u' v')
structure QuA (l:azs) (way:azz) (a:azp) (i:Nat) (d:azp) (qu:List azp) (D:Nat->Option Nat):Prop where
 vs:∀q∈qu,VS l q
 rd:Rd (gY l) d D qu.length
 ct:qu.length+auE d=gY l
 b:Go.Bf.Bfs (nbN l way) (gN l a) ((qu.take i).map (gN l)) ((qu.drop i).map (gN l)) D
structure QuM (l:azs) (way:azz) (a:azp) (i:Nat) (pre:List azp) (s:azp) (u v:Int) (d:azp) (qu:List azp) (D:Nat->Option Nat):Prop where
 vs:∀q∈qu,VS l q
 rd:Rd (gY l) d D qu.length
 ct:qu.length+auE d=gY l
 tk:qu.take (i+1)=pre++[s]
 il:i<qu.length
 b:Go.Bf.Gu (nbN l way) (gN l a) (gN l s) (pre.map (gN l)) ((qu.drop (i+1)).map (gN l)) D (Nz l s u v)
variable {u:Int}
theorem QuM.pos {a:azp} {pre:List azp} {d:azp} {qu:List azp} (h:QuM l way a i pre s u v d qu D):∃k,D (gN l s)=some k∧d.getD (gN l s) 0=(k:Int)∧k<qu.length:=by
 obtain ⟨k,hk⟩:=h.b.b.head;have:=h.rd.lt _ _ hk;refine ⟨k,hk,?_,this.2⟩;rw [h.rd.at_ _ this.1,hk]
theorem ER (_:0<=u) (_:u<l.length) (_:0<=v) (_:v<(l.getD u.toNat aL).aO.length) (y:Nat):Nz l s u (v+1) y->Nz l s u v y∨y=gN l (s.set u.toNat v):=by
 rintro ⟨u',v',h1,h2,h3,h4,h5⟩;by_cases e:(u':Int)=u∧v'=v
 ·right;rw [h5,<- e.2,show u.toNat=u' by omega]
 left;exact ⟨u',v',h1,h2,h3,om,h5⟩
theorem ag7 (hu0:0<=u) (y:Nat) {n:Int} (hn:((l.getD u.toNat aL).aO.length:Int)<=n):Nz l s (u+1) 0 y->Nz l s u n y:=by
 rintro ⟨u',v',h1,h2,h3,h4,h5⟩;refine ⟨u',v',h1,h2,h3,?_,h5⟩;by_cases e:(u':Int)=u
 ·right;refine ⟨e,?_⟩;rw [show u.toNat=u' by omega] at hn;omega
 left; omega
theorem Gu.weak {nb:Nat->Nat->Prop} {a x:Nat} {dn rest:azt} {V V':Nat->Prop} (h:Go.Bf.Gu nb a x dn rest D V) (hv:∀y,V' y->V y):Go.Bf.Gu nb a x dn rest D V':=⟨h.b,λ y hy=>h.v y (hv y hy)⟩
structure ayp (b:aV) (l:azu) (ms:azp) (g:aM):Prop where
 nd:uj b l 0
 df:CJ l ms
 sh:ak5 b l g
 su:Sp.fH b.bI g.bB (drM l ms)=true
 pa:FZ b.aU 0
 ow:EC b.aU (g.Uses.map aJ.gZ)
 da:DmA b.bX 0
 dm:RgP b.bX g.aY
theorem aaj {b:aV} {l:azu} {ms:azp} {g:aM} {bt:Bool} (h:NV b l ms g bt 0):ayp b l ms g:=by
 obtain ⟨h1,h⟩:=gX (by decide) h;obtain ⟨h2,h⟩:=gX (by decide) h;obtain ⟨_,h⟩:=gX (by decide) h;obtain ⟨_,h⟩:=gX (by decide) h;obtain ⟨h5,h⟩:=gX (by decide) h;obtain ⟨h6,h⟩:=gX (by decide) h;obtain ⟨_,h⟩:=gX (by decide) h;obtain ⟨_,h⟩:=gX (by decide) h;obtain ⟨h9,_⟩:=gX (by decide) h;have q2:=alN.1 h2;have q6:=alN.1 h6;have q9:=alN.1 h9;exact ⟨alN.1 h1,q2.1,q2.2,by simpa using h5,q6.1,q6.2,q9.1.1,q9.1.2⟩
theorem asQ {p:bR} {l:azI} (h:EC p l):(l.map mW.bT).Nodup:=by
 rw [List.nodup_iff_pairwise_ne,axb,aqS];intro i j hi hj hij;have:=(h j om).2.1 i hij;rw [adF,adH hi,adF,adH hj] at this;exact this
theorem RD {l:azv} {r:bq} (h:Sp.mR l r=true):r.On.length=l.length∧r.bC.length=l.length∧∀x∈r.bC,0<=x∧x<=4611686018427387904:=by
 unfold Sp.mR at h;cases q:(((Sp.eD l != 0)||((r.On.length:Int) != l.length))||((r.bC.length:Int) != l.length)) with
 | true=>rw [q] at h; cases h
 | false=>
  rw [q] at h;simp only [aff,bne_eq_false_iff_eq] at q;have hl2:r.bC.length=l.length:=by omega
  refine ⟨om,hl2,λ x hx=>?_⟩;obtain ⟨i,hi,rfl⟩:=aln.1 hx;have h1:=(Sp.ajB hl2).1 h i om;have h2:=(Sp.Ez (l:=l) (by simpa using q.1.1)).2.1 i om;rw [adF,adH hi] at h1;simp only [as8] at h1;omega
structure RpI (f t:bq) (n k:Nat) (on:azq) (lv:azp) (pl:azr):Prop where
 ol:on.length=n
 ll:lv.length=n
 kd:∀x∈pl,1<x.dG∧x.dG<4
 le:pl.length<=k
 ch:∀g:aM,g.bB=f->Ch g pl { g with bB:=⟨on,lv⟩ }
 eq:f=t->pl=[]∧on=f.On∧lv=f.bC
variable {f:bq} {t:bq} {on:azq} {lv:azp} {pl:azr}
theorem RpI.up {k':Nat} (h:RpI f t n k on lv pl) (hk:k<=k'):RpI f t n k' on lv pl:=⟨h.ol,h.ll,h.kd,afQ h.le hk,h.ch,h.eq⟩
theorem aon {w:aI} (h:∀x∈pl,1<x.dG∧x.dG<4) (hw:1<w.dG∧w.dG<4):∀x∈pl++[w],1<x.dG∧x.dG<4:=λ x hx=>by
 rcases alf.1 hx with q | q
 ·exact h x q
 rw [ahf.1 q]; exact hw
theorem adA (h:RpI f t n k on lv pl) (hk:k<=100000000) (h3:0<=u) (h4:u<n) (v0:0<=v) (v1:v<=4611686018427387904) (hz:f=t->f.bC.getD u.toNat 0=v):
  W (lU u v n n on lv pl) (λ r=>r.1=n∧r.2.1=n∧RpI f t n (k+1) on r.2.2.1 r.2.2.2):=by
 obtain ⟨a1,a2,a3,a4,a5,a6⟩:=id h;unfold lU;refine aP om ?_;refine aP om ?_;refine bV (λ c=>?_) (λ c=>aC ⟨rfl,rfl,h.up om⟩);refine aP om ?_;refine aP (by unfold big; omega) ?_;have hne:¬ lv.getD u.toNat 0=v:=by simpa using c
 refine aC ⟨rfl,rfl,a1,by dsimp only; rw [ahl]; exact a2,aon a3 (by dsimp only; omega),by dsimp only; rw [afa,alk]; omega,λ g hg=>(a5 g hg).app (asC (g:={ g with bB:=⟨on,lv⟩ }) h3 (by dsimp only; omega) v0 v1 hne),λ e=>?_⟩;obtain ⟨_,_,q⟩:=a6 e;rw [q] at hne;exact absurd (hz e) hne
theorem abO {b:Bool} (h:RpI f t n k on lv pl) (hk:k<=100000000) (h3:0<=u) (h4:u<n) (hz:f=t->f.On.getD u.toNat false=b):
  W (kR u b n n on lv pl) (λ r=>r.1=n∧r.2.1=n∧RpI f t n (k+1) r.2.2.1 lv r.2.2.2):=by
 obtain ⟨a1,a2,a3,a4,a5,a6⟩:=id h;have key:∀k2:Int,(0<=k2∧k2<=1)->(k2==1)=b->on.getD u.toNat false≠b->W (jM u lv pl (k2,n,n,on.set u.toNat b)) (λ r=>r.1=n∧r.2.1=n∧RpI f t n (k+1) r.2.2.1 lv r.2.2.2):=by
  intro k2 hk2 hb hne;unfold jM;refine aP (by dsimp only; rw [ahl]; omega) ?_;refine aP (by unfold big; omega) ?_;refine aC ⟨rfl,rfl,by dsimp only; rw [ahl]; exact a1,a2,aon a3 (by dsimp only; omega),by dsimp only; rw [afa,alk]; omega,λ g hg=>(a5 g hg).app (asD (g:={ g with bB:=⟨on,lv⟩ }) h3 (by dsimp only; omega) hk2.1 hk2.2 hb hne),λ e=>?_⟩;obtain ⟨_,q,_⟩:=a6 e;rw [q] at hne;exact absurd (hz e) hne
 unfold kR;refine aP om ?_;refine aP om ?_;refine bV (λ c=>aC ⟨rfl,rfl,h.up om⟩) (λ c=>?_);have hne:¬ on.getD u.toNat false=b:=by simpa using c
 refine aP om ?_;cases b
 ·exact key 0 om rfl hne
 exact key 1 om rfl hne
theorem QJ {r:bq} (h1:r.On.length<=2000000) (h2:r.bC.length<=2000000):W (Ck r) (λ x=>x=(r.On,r.bC)):=by
 unfold Ck;refine aG (P:=λ x=>x=r.On) (aP (by unfold big; omega) (aC rfl)) λ v1 hv1=>?_;refine aG (P:=λ x=>x=r.bC) (aP (by unfold big; omega) (aC rfl)) λ v2 hv2=>?_;subst hv1 hv2;exact aC rfl
def LvB (n:Nat) (l:azp):Prop:=∀j,j<n->0<=l.getD j 0∧l.getD j 0<=4611686018427387904
theorem ajN {l:azp} (h:LvB n l) (hi:i<l.length) (h1:0<=v) (h2:v<=4611686018427387904):LvB n (l.set i v):=λ j hj=>by
 rw [RB hi];split
 ·exact ⟨h1,h2⟩
 exact h j hj
theorem ae8 (hn:n<=2000000) (h1:f.On.length=n) (h2:f.bC.length=n) (h3:t.On.length=n) (h4:t.bC.length=n) (h5:LvB n f.bC) (h6:LvB n t.bC):
  W (Rj f t) (λ r=>r.On.length=n∧r.bC.length=n∧LvB n r.bC∧(f=t->r.On=f.On∧r.bC=f.bC)):=by
 unfold Rj;refine aG (QJ om om) λ v1 hv1=>?_;subst v1;refine bS (λ g:Int×azq×azp=>0<=g.1∧g.1<=n∧g.2.1.length=n∧g.2.2.length=n∧LvB n g.2.2∧(f=t->g.2.1=f.On∧g.2.2=f.bC))
  (λ g=>(n - g.1).toNat) ?_ ⟨ob,ob,h3,h4,h6,λ e=>by subst e; exact ⟨rfl,rfl⟩⟩
 intro self g ⟨a1,a2,a3,a4,a5,a6⟩ ih;unfold Vq;refine bV (λ c1=>?_) (λ c1=>aC ⟨a3,a4,a5,a6⟩);have c1:=eX c1;have hlt:g.1.toNat<n:=by omega
 have q1:=h5 _ hlt;have q2:=h6 _ hlt;refine aP om ?_;refine aP om ?_;refine bV ?_ ?_<;>intro c2
 ·refine aP om ?_;refine aP om ?_;refine aP om ?_;refine wn<|ih _ ⟨ob,ob,a3,by dsimp only; rw [ahl]; exact a4,ajN a5 om (by split<;>omega) (by split<;>omega),λ e=>?_⟩ ob;obtain ⟨e1,e2⟩:=a6 e;refine ⟨e1,?_⟩;subst e;dsimp only;rw [e2];exact VQ (d:=0) (by split<;>rfl) om
 refine aP om ?_;refine bV ?_ ?_<;>intro c3
 ·refine aP om ?_;refine aP om ?_;refine aP om ?_;refine wn<|ih _ ⟨ob,ob,by dsimp only; rw [ahl]; exact a3,by dsimp only; rw [ahl]; exact a4,ajN a5 om om om,λ e=>?_⟩ ob;subst e;rw [c3] at c2; cases c2
 refine wn ?_;exact ih _ ⟨ob,ob,a3,a4,a5,a6⟩ ob
theorem ag8 {l:azv} {r:bq} {d:azy} (h:Sp.fH l r d=true):Sp.mR l r=true∧Sp.iN l d=true:=by
 unfold Sp.fH at h;cases h1:Sp.mR l r<;>cases h2:Sp.iN l d<;>simp [h1,h2] at h ⊢
theorem alb {l:azv} {r:bq} (h:Sp.mR l r=true):Sp.eD l=0:=by
 unfold Sp.mR at h;by_cases e:Sp.eD l=0
 ·exact e
 rw [show (Sp.eD l != 0)=true by simpa using e] at h; simp at h
theorem acL {l:azv} (hl:l.length<=2000000) (hf:Sp.mR l f=true) (ht:Sp.mR l t=true):W (K7 l [f,t]) (λ r=>r=0):=by
 obtain ⟨f1,f2,_⟩:=RD hf;obtain ⟨t1,t2,_⟩:=RD ht;unfold K7;refine aG (Sp.zP hl) λ v1 hv1=>?_;rw [alb hf] at hv1;subst v1;refine bV (λ c=>by simp at c) (λ _=>?_);have hb:∀ {r:bq},Sp.mR l r=true->r.bC.length<=2000000->yX r l false:=λ {r} h h2=>by
  refine kY ?_;unfold yX;refine aG (Sp.Qo hl h2) λ v1 hv1=>?_;rw [h] at hv1;subst v1;exact aC rfl
 have hi:W (nJ [f,t] l) (λ r=>r=NP [f,t] (λ _=>false)):=
  Qa (p:=λ x=>yX x l) (P:=λ _=>false) (λ x hx=>by
   rcases alu.1 hx with q | q
   ·subst q; exact hb hf om
   rw [ahf.1 q]; exact hb ht om) (by simp)
 refine aG (Ac (J7 hi (nV _ _))) λ v2 hv2=>?_;subst v2;exact aC rfl
structure RpR (f t:bq) (n:Nat) (r:azr×Int):Prop where
 ok:r.2=0
 kd:∀x∈r.1,1<x.dG∧x.dG<4
 le:r.1.length<=4*n
 ch:∃s,∀g:aM,g.bB=f->Ch g r.1 { g with bB:=s }
 eq:f=t->r.1=[]
theorem ag9 (hn:n<=2000000) (h3:t.On.length=n) (h4:t.bC.length=n) (h6:LvB n t.bC) (e1:RpI f t n (2*n) on lv pl):
  W (dI (IQ t) (((n:Nat):Int) - 1,n,n,on,lv,pl)) (RpR f t n):=by
 refine bS (λ g:Int×Nat×Nat×azq×azp×azr => -1<=g.1∧g.1<n∧g.2.1=n∧g.2.2.1=n∧RpI f t n (4*n - 2*(g.1+1).toNat) g.2.2.2.1 g.2.2.2.2.1 g.2.2.2.2.2)
  (λ g=>(g.1+1).toNat) ?_ ⟨by dsimp only; omega,by dsimp only; omega,rfl,rfl,e1.up (by dsimp only; omega)⟩
 intro self g ⟨a1,a2,a3,a4,a5⟩ ih;have l1:=a5.ol;have l2:=a5.ll;unfold IQ;rw [a3,a4];refine aP om ?_;refine bV ?_ ?_<;>intro c1
 ·have c1:=eX c1;have hlt:g.1.toNat<n:=by omega
  have k22:∀ {on:azq} {pl:azr},RpI f t n (4*n - 2*(g.1+1).toNat+1) on g.2.2.2.2.1 pl->W (vM t g self (n,n,on,pl)) (RpR f t n):=by
   intro on pl q1;have q2:=q1.ol;unfold vM;refine aP (by dsimp only; omega) ?_;refine aP om ?_;refine aG (adA q1 om om om (h6 _ hlt).1 (h6 _ hlt).2 λ e=>by rw [e]) λ v ⟨w1,w2,w3⟩=>?_;have w4:=w3.ll;refine aP (by dsimp only; rw [w1,w2,w4]; omega) ?_;refine aP (by unfold ay; omega) ?_;exact ih _ ⟨by dsimp only; omega,by dsimp only; omega,w1,w2,w3.up (by dsimp only; omega)⟩ (by dsimp only; omega)
  refine aP om ?_;refine bV (λ c2=>?_) (λ c2=>k22 (a5.up om));have c3:t.On.getD g.1.toNat false=false:=by simpa using c2
  refine aG (abO a5 om om om λ e=>by rw [e]; exact c3) λ v ⟨w1,w2,w3⟩=>?_;have w4:=w3.ol;refine aP (by rw [w1,w2,w4]; omega) ?_;rw [w1,w2];exact k22 w3
 refine aC ⟨rfl,a5.kd,afQ a5.le om,⟨_,a5.ch⟩,λ e=>(a5.eq e).1⟩
theorem ae9 {l:azv} {d:azy} (hl:l.length<=2000000) (hd:d.length<=2000000) (hf:Sp.fH l f d=true) (ht:Sp.fH l t d=true):W (Rk l f t d) (RpR f t l.length):=by
 obtain ⟨hf1,hdr⟩:=ag8 hf;obtain ⟨ht1,_⟩:=ag8 ht;obtain ⟨f1,f2,f3⟩:=RD hf1;obtain ⟨t1,t2,t3⟩:=RD ht1;have hlb:∀ {r:bq},r.bC.length=l.length->(∀x∈r.bC,0<=x∧x<=4611686018427387904)->LvB l.length r.bC:=λ e h j hj=>h _ (getD_in 0 om);unfold Rk;refine aG (acL hl hf1 ht1) λ v1 hv1=>?_;subst v1;refine bV (λ c=>by simp at c) (λ _=>?_);refine aG (Sp.Qp hl hd) λ v2 hv2=>?_;rw [hdr] at hv2;subst v2;refine bV (λ c=>by simp at c) (λ _=>?_);refine aG (Sp.FU hl hd om) λ v3 hv3=>?_;rw [hf] at hv3;subst v3;refine aG (vH λ _=>Sp.FU hl hd om) λ v4 hv4=>?_;have e4:v4=true:=by rw [hv4 rfl,ht]
 subst e4;refine bV (λ c=>by simp at c) (λ _=>?_);refine aG (ae8 (n:=l.length) hl f1 f2 t1 t2 (hlb f2 f3) (hlb t2 t3)) λ v5 ⟨j1,j2,j3,j4⟩=>?_;refine aG (QJ om om) λ v6 hv6=>?_;subst v6;dsimp only;rw [f1,f2];refine bS (λ g:Int×Nat×Nat×azq×azp×azr=>0<=g.1∧g.1<=l.length∧g.2.1=l.length∧g.2.2.1=l.length∧RpI f t l.length (2*g.1.toNat) g.2.2.2.1 g.2.2.2.2.1 g.2.2.2.2.2)
  (λ g=>(l.length - g.1).toNat) ?_ ⟨by dsimp only; omega,by dsimp only; omega,rfl,rfl,f1,f2,nofun,alh _,λ g hg=>by subst hg; exact .nil g,λ _=>⟨rfl,rfl,rfl⟩⟩
 intro self g ⟨a1,a2,a3,a4,a5⟩ ih;have l1:=a5.ol;have l2:=a5.ll;unfold SV;rw [a3,a4];refine aP om ?_;refine wi ?_ ?_<;>intro c1
 ·have hlt:g.1.toNat<l.length:=by omega
  have hj:=j3 _ hlt;refine aP om ?_;refine bV ?_ ?_<;>intro c2
  ·refine aP om ?_;refine aG (adA a5 om om om hj.1 hj.2 λ e=>by rw [(j4 e).2]) ?_;rintro ⟨n1,n2,lv2,pl2⟩ ⟨w1,w2,w3⟩;dsimp only at w1 w2 w3 ⊢;subst w1 w2;have w4:=w3.ll;refine aP om ?_;refine aG (abO w3 om om om λ e=>by rw [<- (j4 e).1]; exact c2) ?_;rintro ⟨n1,n2,on2,pl3⟩ ⟨y1,y2,y3⟩;dsimp only at y1 y2 y3 ⊢;subst y1 y2;have y4:=y3.ol;refine aP om ?_;refine aP (by unfold ay; omega) ?_;exact ih _ ⟨by dsimp only; omega,by dsimp only; omega,rfl,rfl,y3.up (by dsimp only; omega)⟩ (by dsimp only; omega)
  refine aP (by unfold ay; omega) ?_;exact ih _ ⟨by dsimp only; omega,by dsimp only; omega,rfl,rfl,a5.up (by dsimp only; omega)⟩ (by dsimp only; omega)
 refine aP (by unfold ay; omega) ?_;exact ag9 hl t1 t2 (hlb t2 t3) (a5.up om)
structure aAB (b:aV) (from_ jB:aM):Prop where
 n1:from_.Released.length=b.bH.length
 n2:jB.Released.length=b.bH.length
 nr:b.bH.length<=100000
 gf:GdG from_
 gt:GdG jB
 gG:b.aU.aH.length<=24
 ug:∀x∈jB.Uses.map aJ.gZ,x.bT<b.aU.aH.length
 tg0:∀x∈jB.Uses.map aJ.gZ,0<=x.bT
 fg:∀x∈from_.Uses.map aJ.gZ,0<=x.bT∧x.bT<b.aU.aH.length
 ff:∀u∈from_.Uses,0<=u.gZ.dJ∧u.gZ.dJ<=2000000
 tf:∀u∈jB.Uses,0<=u.gZ.dJ∧u.gZ.dJ<=2000000
 fl:from_.Uses.length<=2000000
 tl:jB.Uses.length<=2000000
 cf:∀g:Nat,g<b.aU.aH.length->¬ (0<ofU (from_.Uses.map aJ.gZ) g∧0<ofU (jB.Uses.map aJ.gZ) g∧ofU (from_.Uses.map aJ.gZ) g≠ofU (jB.Uses.map aJ.gZ) g)
def aqc (l:azr) (i:Int) (k:Nat):aI:=if (k:Int)<i∨(l.length:Int) - 1 - i<k then l.getD (l.length - 1 - k) dA else l.getD k dA
theorem Ig {l:azr} (h:l.length<=2000000):W (iy l) (λ r=>r=l.reverse):=by
 unfold iy;refine wn<|bS (λ g1:Int×Int×azr=>0<=g1.1∧g1.2.1=(l.length:Int) - 1 - g1.1∧2*g1.1<=l.length∧Ats dA l.length (aqc l g1.1) g1.2.2) (λ g1=>(l.length - g1.1).toNat) ?_ ⟨ob,by dsimp only; omega,by dsimp only; omega,rfl,λ k hk=>by unfold aqc; rw [if_neg (by dsimp only; omega)]⟩;intro ah g1 ⟨a1,a2,a3,a4⟩ ih1;have hl:=a4.len;unfold tF;refine wi ?_ ?_<;>intro c1
 ·refine wm<|wm ?_;refine wm<|ih1 _ ⟨ob,by dsimp only; omega,by dsimp only; omega,((a4.set (i:=g1.1.toNat) om _).set (i:=g1.2.1.toNat) om _).auD λ k hk=>?_⟩ ob;have e1:=a4.at_ g1.1.toNat om;have e2:=a4.at_ g1.2.1.toNat om;rw [e1,e2];unfold aqc;by_cases q1:k=g1.2.1.toNat
  ·rw [if_pos q1,if_neg om,if_pos (by dsimp only; omega)];congr 1; omega
  rw [if_neg q1];by_cases q2:k=g1.1.toNat
  ·rw [if_pos q2,if_neg om,if_pos (by dsimp only; omega)];congr 1; omega
  rw [if_neg q2];by_cases q3:(k:Int)<g1.1∨(l.length:Int) - 1 - g1.1<k
  ·rw [if_pos q3,if_pos (by dsimp only; omega)]
  rw [if_neg q3,if_neg (by dsimp only; omega)]
 refine aC (a4.ext (Q:=λ k=>l.reverse.getD k dA) ⟨by simp,λ _ _=>rfl⟩ λ k hk=>?_);have e:l.reverse.getD k dA=l.getD (l.length - 1 - k) dA:=by
  rw [adF,List.getElem?_reverse om,<- adF]
 rw [e];unfold aqc;by_cases q:(k:Int)<g1.1∨(l.length:Int) - 1 - g1.1<k
 ·rw [if_pos q]
 rw [if_neg q];congr 1; omega
def lnP (v:Int) (a b:azq) (i:Nat):Bool:=!(a.getD i false==b.getD i false)&&(b.getD i false==(v==1))
def lnL (v:Int) (a b:azq):azr:=sel (lnP v a b) (λ i=>⟨11,i,v⟩) a.length
theorem one_le (p:Nat->Bool) (i:Nat):(bif p i then 1 else 0)<=1:=by cases p i<;>decide
theorem Jf (p:Nat->Bool) (w:Nat->aI) (n:Nat):(sel p w n).length<=n:=by
 rw [aeX];have:=UF (one_le p) n;omega
theorem aha {p1 p3 q1 q3:azp} {p2 p5 q2 q5 a b:azq} {p4 q4:azw} (hl:a.length=b.length) (hn:a.length<=2000000):W (tH v p1 p2 p3 p4 a p5 q1 q2 q3 q4 b q5) (λ r=>r=bif v==0 then (lnL v a b).reverse else lnL v a b):=by
 unfold tH;refine bS (λ g:Int×azr=>0<=g.1∧g.1<=a.length∧g.2=sel (lnP v a b) (λ i=>⟨11,i,v⟩) g.1.toNat) (λ g=>(a.length - g.1).toNat) ?_ ⟨ob,ob,rfl⟩;intro self g ⟨a1,a2,a3⟩ ih;have hs:=Jf (lnP v a b) (λ i=>⟨11,i,v⟩) g.1.toNat;rw [<- a3] at hs;unfold G6;refine wi ?_ ?_<;>intro c1
 ·have e1:(g.1+1).toNat=g.1.toNat+1:=by omega
  have e2:((g.1.toNat:Nat):Int)=g.1:=by omega
  refine aP om ?_;refine aP om ?_;refine aP (λ _=>by omega) ?_;refine bV ?_ ?_<;>intro c2
  ·refine aP (by unfold big; omega) ?_;refine wn ?_;exact ih _ ⟨ob,ob,by dsimp only; rw [e1,sel,show lnP v a b g.1.toNat=true from c2,<- a3,e2]; rfl⟩ ob
  refine wn ?_;exact ih _ ⟨ob,ob,by dsimp only; rw [e1,sel,show lnP v a b g.1.toNat=false from c2,<- a3]; exact (amL _).symm⟩ ob
 have e:g.1.toNat=a.length:=by omega
 rw [e] at a3;have a3:g.2=lnL v a b:=a3;refine bV (λ c=>?_) (λ c=>aC (by rw [c]; exact a3));refine aG (Ig om) λ v1 hv1=>?_;subst v1;refine aP (by rw [as5]) ?_;refine aC ?_;rw [c,aiI (by rw [as5]; exact afg _),a3]; rfl
def pnP (s o:dV->Option Int) (i:Nat):Bool:=decide ((0:Int)<jJ s (.i ((i:Nat):Int)))&&(jJ o (.i ((i:Nat):Int))==0)
theorem ajP {s o:dV->Option Int} {k:Int} (hs:∀g,0<=jJ s (.i g)∧jJ s (.i g)<=10000000) (hk:k=0∨k=1):W (tJ s o k) (λ r=>r=sel (pnP s o) (λ i=>⟨10,i,jJ s (.i ((i:Nat):Int))*k⟩) 24):=by
 unfold tJ;refine bS (λ g:Int×azr=>0<=g.1∧g.1<=24∧g.2=sel (pnP s o) (λ i=>⟨10,i,jJ s (.i ((i:Nat):Int))*k⟩) g.1.toNat) (λ g=>(24 - g.1).toNat) ?_ ⟨ob,ob,rfl⟩;intro self g ⟨a1,a2,a3⟩ ih;have hsl:=Jf (pnP s o) (λ i=>⟨10,i,jJ s (.i ((i:Nat):Int))*k⟩) g.1.toNat;rw [<- a3] at hsl;unfold G7;refine wi ?_ ?_<;>intro c1
 ·have hg:((g.1.toNat:Nat):Int)=g.1:=by omega
  have e1:(g.1+1).toNat=g.1.toNat+1:=by omega
  have hb:=hs g.1;refine bV ?_ ?_<;>intro c2
  ·refine aP (by rcases hk with e | e<;>subst e<;>unfold ay<;>omega) ?_;refine aP (by unfold big; omega) ?_;refine wn ?_;exact ih _ ⟨ob,ob,by dsimp only; rw [e1,sel,show pnP s o g.1.toNat=true by unfold pnP; rw [hg]; exact c2,<- a3,hg]; rfl⟩ ob
  refine wn ?_;exact ih _ ⟨ob,ob,by dsimp only; rw [e1,sel,show pnP s o g.1.toNat=false by unfold pnP; rw [hg]; exact c2,<- a3]; exact (amL _).symm⟩ ob
 exact aC (by rw [a3,show g.1.toNat=24 by omega])
structure GmP (U:azw) (m:dV->Option Int):Prop where
 to:∀u∈U,m (.i u.gZ.bT)=some (u.gZ.dJ+1)
 of:∀g v,m (.i g)=some v->∃u∈U,u.gZ.bT=g∧v=u.gZ.dJ+1
theorem XL {U:azw} (hu:U.length<=100000) (hn:(U.map λ u=>u.gZ.bT).Nodup) (hf:∀u∈U,0<=u.gZ.dJ∧u.gZ.dJ<=2000000):W (oZ U) (GmP U):=by
 unfold oZ;refine bS (λ g:Int×(dV->Option Int)=>0<=g.1∧g.1<=U.length∧(∀j:Nat,(j:Int)<g.1->g.2 (.i (U.getD j bA).gZ.bT)=some ((U.getD j bA).gZ.dJ+1))∧∀k v,g.2 (.i k)=some v->∃u∈U,u.gZ.bT=k∧v=u.gZ.dJ+1)
  (λ g=>(U.length - g.1).toNat) ?_ ⟨ob,ob,λ j hj=>by dsimp only at hj; omega,λ k v h=>by cases h⟩
 intro self g ⟨a1,a2,a3,a4⟩ ih;unfold G5;refine wi ?_ ?_<;>intro c1
 ·have hlt:g.1.toNat<U.length:=by omega
  have hmem:U.getD g.1.toNat bA∈U:=by rw [adF,adH hlt]; exact anK hlt
  have hb:=hf _ hmem;refine aP om ?_;refine aP (by unfold ay; omega) ?_;refine wn<|ih _ ⟨ob,ob,λ j hj=>?_,λ k v h=>?_⟩ ob
  ·dsimp only at hj ⊢;unfold CX;by_cases e:j=g.1.toNat
   ·subst e; rw [if_pos rfl]
   have hne:(U.getD j bA).gZ.bT≠(U.getD g.1.toNat bA).gZ.bT:=λ q=>by
    have hj2:j<U.length:=by omega
    rw [List.nodup_iff_pairwise_ne,axb,aqS] at hn;have:=hn j g.1.toNat hj2 hlt om;rw [adF,adH hj2,adF,adH hlt] at q;exact this q
   rw [if_neg (λ q=>hne (by injection q))];exact a3 j om
  dsimp only at h;unfold CX at h;by_cases e:(dV.i k)=.i (U.getD g.1.toNat bA).gZ.bT
  ·rw [if_pos e] at h;exact ⟨_,hmem,by injection e with e; exact e.symm,(alm h).symm⟩
  rw [if_neg e] at h;exact a4 k v h
 refine aC ⟨λ u hu=>?_,a4⟩;obtain ⟨j,hj,rfl⟩:=aln.1 hu;have:=a3 j om;rwa [adF,adH hj] at this
theorem GmP.bd {U:azw} {m:dV->Option Int} (h:GmP U m) (hf:∀u∈U,0<=u.gZ.dJ∧u.gZ.dJ<=2000000) (g:Int):0<=jJ m (.i g)∧jJ m (.i g)<=10000000:=by
 unfold jJ;cases e:m (.i g) with
 | none=>exact ⟨apw 0,by show (0:Int)<=_; omega⟩
 | some v=>
  obtain ⟨u,hu,_,rfl⟩:=h.of g v e;have:=hf u hu;show 0<=u.gZ.dJ+1∧u.gZ.dJ+1<=_;omega
def dmE (a b:azq) (i:Nat):Nat:=if a.getD i false=b.getD i false then 0 else 1
def Zz (a b:azq) (i:Nat):Bool:=a.getD i false&&!b.getD i false
theorem abP {l:azD} {a b:azq} (hl:l.length<=2000000) (h0:DmA l 0) (ha:RgP l a) (hb:RgP l b):W (Hg l a b) (λ r=>r.2=0∧r.1=(sel (Zz a b) (λ i=>⟨12,i,0⟩) l.length).reverse++sel (Zz b a) (λ i=>⟨12,i,1⟩) l.length):=by
 have l1:=ha.1;have l2:=hb.1;unfold Hg;refine aG (Dp) λ v1 hv1=>?_;have e:=DmA.fun _ _ hv1 h0;subst e;refine bV (λ c=>by simp at c) (λ _=>?_);refine aG (Dq h0.ok) λ v2 hv2=>?_;have e2:=hv2.2 ha;subst e2;refine aG (vH λ _=>Dq h0.ok) λ v3 hv3=>?_;have e3:=(hv3 rfl).2 hb;subst e3;refine bV (λ c=>by simp at c) (λ _=>?_);refine bS (λ g:Int×azr×azr=>0<=g.1∧g.1<=l.length∧g.2.1=sel (Zz a b) (λ i=>⟨12,i,0⟩) g.1.toNat∧g.2.2=sel (Zz b a) (λ i=>⟨12,i,1⟩) g.1.toNat) (λ g=>(l.length - g.1).toNat) ?_ ⟨ob,ob,rfl,rfl⟩;intro self g ⟨a1,a2,a3,a4⟩ ih;have s1:=Jf (Zz a b) (λ i=>⟨12,i,0⟩) g.1.toNat;have s2:=Jf (Zz b a) (λ i=>⟨12,i,1⟩) g.1.toNat;rw [<- a3] at s1;rw [<- a4] at s2;unfold Pf;refine wi ?_ ?_<;>intro c1
 ·have hg:((g.1.toNat:Nat):Int)=g.1:=by omega
  have e1:(g.1+1).toNat=g.1.toNat+1:=by omega
  refine aP om ?_;refine aP (λ _=>by omega) ?_;refine bV ?_ ?_<;>intro c2
  ·have q:Zz b a g.1.toNat=false:=by
    simp only [aei,ahk] at c2;unfold Zz; rw [c2.1,c2.2]; rfl
   refine aP (by unfold big; omega) ?_;refine wn<|ih _ ⟨ob,ob,?_,?_⟩ ob
   ·dsimp only; rw [e1,sel,show Zz a b g.1.toNat=true from c2,<- a3,hg]; rfl
   dsimp only; rw [e1,sel,q,<- a4]; exact (amL _).symm
  refine aP om ?_;refine aP (λ _=>by omega) ?_;refine bV ?_ ?_<;>intro c3
  ·refine aP (by unfold big; omega) ?_;refine wn<|ih _ ⟨ob,ob,?_,?_⟩ ob
   ·dsimp only; rw [e1,sel,show Zz a b g.1.toNat=false from c2,<- a3]; exact (amL _).symm
   dsimp only; rw [e1,sel,show Zz b a g.1.toNat=true from c3,<- a4,hg]; rfl
  refine wn<|ih _ ⟨ob,ob,?_,?_⟩ ob
  ·dsimp only; rw [e1,sel,show Zz a b g.1.toNat=false from c2,<- a3]; exact (amL _).symm
  dsimp only; rw [e1,sel,show Zz b a g.1.toNat=false from c3,<- a4]; exact (amL _).symm
 rw [show g.1.toNat=l.length by omega] at a3 a4 s1 s2;refine aG (Ig om) λ v4 hv4=>?_;subst v4;refine aP (by rw [as5]) ?_;refine aP (by unfold big; omega) ?_;refine aC ⟨rfl,?_⟩;dsimp only;rw [aiI (by rw [as5]; exact afg _),a3,a4]
def preS (l:azs) (s:azp):Nat->Nat
 | 0=>0
 | j+1=>preS l s j*(l.getD j aL).aO.length+(s.getD j 0).toNat
theorem ajQ (h:VS l s):∀j,j<=l.length->preS l s j*gY (l.drop j)+gN (l.drop j) (s.drop j)=gN l s:=by
 intro j;induction j with
 | zero=>intro _; simp [preS]
 | succ j ih=>
  intro hj;have h1:=ih om;rw [ae7 om,ag6 h om] at h1;rw [preS,alq,ayD];omega
theorem ajR (h:VS l s):preS l s l.length=gN l s:=by
 have:=ajQ h l.length (afg _);rw [aqu] at this;simpa [gY,gN] using this
theorem aoo (h:VS l s) {j:Nat} (hj:j<=l.length):preS l s j<=gN l s:=by
 have h1:=ajQ h j hj;have h2:=aqb (aqa h j);have h3:=ap8 (preS l s j) h2;omega
variable {s_:azp}
theorem mU {jT:azs} {Cm:azz} {x2_:dV->Option Int} (h:VS jT s_) (hl:jT.length<=2000000) (hz:gY jT<=1000000000000):W (jE jT Cm x2_ s_) (λ r=>r=((gN jT s_:Nat):Int)):=by
 have hp:=I6 h;have hsl:=h.1;unfold jE;refine bS (λ g1:Int×Int=>0<=g1.2∧g1.2<=jT.length∧g1.1=((preS jT s_ g1.2.toNat:Nat):Int)) (λ g1=>(jT.length - g1.2).toNat) ?_ ⟨ob,ob,rfl⟩;intro ah g1 ⟨a1,a2,a3⟩ ih1;unfold yY;refine wi ?_ ?_<;>intro c1
 ·have hlt:g1.2.toNat<jT.length:=by omega
  obtain ⟨x0,x1⟩:=h.2 _ hlt;have q1:=aoo h (j:=g1.2.toNat+1) om;have e0:preS jT s_ (g1.2.toNat+1)=preS jT s_ g1.2.toNat*(jT.getD g1.2.toNat aL).aO.length+(s_.getD g1.2.toNat 0).toNat:=rfl;have e1:g1.1*(((jT.getD g1.2.toNat aL).aO.length:Nat):Int)=((preS jT s_ g1.2.toNat*(jT.getD g1.2.toNat aL).aO.length:Nat):Int):=by rw [a3,atL]
  have e2:g1.1*(((jT.getD g1.2.toNat aL).aO.length:Nat):Int)+s_.getD g1.2.toNat 0=((preS jT s_ (g1.2.toNat+1):Nat):Int):=by rw [e1,e0]; omega
  refine wm<|aP (by rw [e1]; unfold ay; omega) ?_;refine aP (by rw [e2]; unfold ay; omega) ?_;refine wn<|ih1 _ ⟨ob,ob,?_⟩ ob;dsimp only;rw [show (g1.2+1).toNat=g1.2.toNat+1 by omega];exact e2
 refine aC ?_;rw [a3,show g1.2.toNat=jT.length by omega,ajR h]
theorem aop (a b:Nat):(a:Int).tdiv (b:Int)=((a / b:Nat):Int):=by rw [as7 om,Int.natCast_ediv]
theorem aoq (a b:Nat):(a:Int).tmod (b:Int)=((a % b:Nat):Int):=by rw [aum om,Int.natCast_emod]
theorem auF {a b:azp} (h:a.length=b.length) (h1:∀j,j<a.length->a.getD j 0=b.getD j 0):a=b:=by
 apply avo h;intro j h2 h3;have:=h1 j h2;rwa [adF,adH h2,adF,adH h3] at this
theorem pG {jT:azs} {Cm:azz} {dD:dV->Option Int} (h:VS jT s) (hl:jT.length<=2000000) (hz:gY jT<=1000000000000):W (jU jT Cm ((gN jT s:Nat):Int) dD) (λ r=>r=s):=by
 have hp:=I6 h;have hsl:=h.1;unfold jU;refine aP (by unfold big; omega) ?_;refine aP (by unfold ay; omega) ?_;refine bS (λ g1:Int×Int×azp => -1<=g1.2.1∧g1.2.1<jT.length∧g1.2.2.length=jT.length∧g1.1=((preS jT s (g1.2.1+1).toNat:Nat):Int)∧∀j:Nat,g1.2.1<j->j<jT.length->g1.2.2.getD j 0=s.getD j 0) (λ g1=>(g1.2.1+1).toNat) ?_ ?_
 ·intro ah g1 ⟨a1,a2,a3,a4,a5⟩ ih1;unfold xH;refine wi ?_ ?_<;>intro c1
  ·have hlt:g1.2.1.toNat<jT.length:=by omega
   obtain ⟨y0,y1⟩:=h.2 _ hlt;have e0:preS jT s (g1.2.1+1).toNat=(jT.getD g1.2.1.toNat aL).aO.length*preS jT s g1.2.1.toNat+(s.getD g1.2.1.toNat 0).toNat:=by
    rw [show (g1.2.1+1).toNat=g1.2.1.toNat+1 by omega,preS,asR]
   have hc:0<(jT.getD g1.2.1.toNat aL).aO.length:=by omega
   have e1:g1.1.tdiv (((jT.getD g1.2.1.toNat aL).aO.length:Nat):Int)=((preS jT s g1.2.1.toNat:Nat):Int):=by
    rw [a4,aop,e0,Nat.mul_add_div hc,Nat.div_eq_of_lt om,aqp]
   have e2:g1.1.tmod (((jT.getD g1.2.1.toNat aL).aO.length:Nat):Int)=s.getD g1.2.1.toNat 0:=by
    rw [a4,aoq,e0,ayO,ayE om]; omega
   have q1:=aoo h (j:=g1.2.1.toNat) om;refine wn<|aP om ?_;refine aP ⟨om,by rw [e1]; unfold ay; omega⟩ ?_;refine wm<|ih1 _ ⟨ob,ob,by dsimp only; rw [ahl]; exact a3,?_,?_⟩ ob
   ·dsimp only;rw [e1,show (g1.2.1 - 1+1).toNat=g1.2.1.toNat by omega]
   dsimp only;intro j hj hj2;rw [e2,adF,auJ];by_cases e:g1.2.1.toNat=j
   ·subst e; rw [if_pos rfl,if_pos om]; rfl
   rw [if_neg e,<- adF]; exact a5 j om hj2
  exact aC<|auF (a3.trans hsl.symm) λ j hj=>a5 j om om
 refine ⟨ob,ob,by simp,?_,λ j h1 h2=>by dsimp only at h1; omega⟩;dsimp only;rw [show (((jT.length:Int).toNat:Nat):Int) - 1+1=jT.length by omega,show (jT.length:Int).toNat=jT.length by omega,ajR h]
variable {l_:azs}
theorem XM (h1:Good l_ s_):W (yZ l_ s_) (λ r=>r=fU l_ s_):=by
 obtain ⟨q1,q2,q3,q4,q5⟩:=h1;unfold yZ;refine wn<|bS (λ (g1:Int×azA)=>0<=g1.1∧g1.1<=l_.length∧g1.2=rV l_ s_ g1.1.toNat++List.replicate (l_.length - g1.1.toNat) dW) (λ (g1:Int×azA)=>(l_.length - g1.1).toNat) ?_ ?_
 ·intro ah g1 eU dB;obtain ⟨dZ,bW,bN⟩:=eU;unfold He;refine wi ?_ ?_<;>intro c1
  ·have hlt:g1.1.toNat<l_.length:=om; have hch:=q3 _ hlt; have hpar:=q5 _ hlt; have hpc:=q4 _ hlt; have hrl:=tX l_ s_ g1.1.toNat; have hgl:g1.2.length=l_.length:=(by rw [bN,afa,hrl,aqw]; omega);refine wm<|wn ?_;refine aG (Qj ob ob ob ob) λ v7 hv7=>?_;subst v7;refine bV ?_ ?_<;>intro c2
   ·have kM:=c2;have c2:=eX c2;refine wm<|dB _ ?_ ?_
    ·(refine ⟨ob,ob,?_⟩; dsimp only; exact rO bN om (by unfold YS; rw [kM]; rfl))
    exact ob
   have kM:=c2;have c2:=eX c2;have hget:g1.2.getD (kK (l_.getD g1.1.toNat aL) (s_.getD g1.1.toNat 0)).toNat dW=(rV l_ s_ g1.1.toNat).getD (kK (l_.getD g1.1.toNat aL) (s_.getD g1.1.toNat 0)).toNat dW:=by rw [bN]; exact ko _ om
   refine wn<|bV ?_ ?_<;>intro c3
   ·have jZ:=c3;have c3:=eX c3;refine wm<|dB _ ?_ ?_
    ·(refine ⟨ob,ob,?_⟩; dsimp only; exact rO bN om (by unfold YS; rw [kM,<- hget,show (pE _||_)=true from jZ]; rfl))
    exact ob
   have jZ:=c3;have c3:=eX c3;refine bV ?_ ?_<;>intro c4
   ·have uq:=c4;have c4:=eX c4;refine wn<|aG (YU) λ v8 BG=>?_;subst v8;refine wm<|dB _ ?_ ?_
    ·(refine ⟨ob,ob,?_⟩; dsimp only; exact rO bN om (by unfold YS; rw [kM,<- hget,show (pE _||_)=false from jZ,uq]; rfl))
    exact ob
   have uq:=c4;have c4:=eX c4;refine bV ?_ ?_<;>intro c5
   ·have Di:=c5;have c5:=eX c5;refine wn<|aG (VI) λ v9 Xx=>?_;subst v9;refine wm<|dB _ ?_ ?_
    ·(refine ⟨ob,ob,?_⟩; dsimp only; exact rO bN om (by unfold YS; rw [kM,<- hget,show (pE _||_)=false from jZ,uq,Di]; rfl))
    exact ob
   have Di:=c5;have c5:=eX c5;refine wm<|wn ?_;refine dB _ ?_ ?_
   ·(refine ⟨ob,ob,?_⟩; dsimp only; exact rO bN om (by unfold YS; rw [kM,<- hget,show (pE _||_)=false from jZ,uq,Di]; rfl))
   exact ob
  refine aC ?_;(rw [bN,show g1.1.toNat=l_.length by omega,auQ]; simp [fU])
 (refine ⟨ob,ob,?_⟩; simp [rV])
theorem XO (h1:l_.length<=2000000) (h2:s_.length<=2000000) (h3:acn l_):W (y8 l_ s_) (λ r=>r=wZ l_ s_):=by
 unfold y8;refine aG (Ac (rM ob)) λ v1 hv1=>?_;subst v1;refine bV ?_ ?_<;>intro c1
 ·have gD:=c1;have c1:=eX c1;refine aC ?_;(unfold wZ; rw [gD]; rfl)
 have gD:=c1;have c1:=eX c1;have hck:eD l_=0:=by simpa using gD
 refine aG (wF ob ob ob) λ v2 hv2=>?_;subst v2;refine bV ?_ ?_<;>intro c2
 ·have kM:=c2;have c2:=eX c2;refine aC ?_;(unfold wZ; rw [gD,kM]; rfl)
 have kM:=c2;have c2:=eX c2;have hgd:=Rs (sI hck) (show kH l_ s_=true by simpa using kM);refine aG (XM ob) λ v3 hv3=>?_;subst v3;refine aC ?_;(unfold wZ; rw [gD,kM]; rfl)
theorem ajS {r:bU} (hv:oD r=true):pE r=(r.j5==0):=by
 cases e:(r.j5==0) with
 | false=>exact aeU (by simpa using e)
 | true=>
  cases q:pE r with
  | true=>rfl
  | false=>exact absurd (by simpa using e) (adu hv q)
theorem XP {x_:aZ} {mg:azA} (h1:0<=x_.eO) (h2:x_.eO<mg.length) (hv:oD (mg.getD x_.eO.toNat dW)=true):W (vP x_ mg) (λ r=>r=RV mg (aiO x_)):=by
 unfold vP;refine wm<|aG (gM λ hc=>kY (BF)) λ v1 hv1=>?_;subst v1;refine aC ?_;unfold RV;rw [show (aiO x_).eO=x_.eO from rfl,ajS hv]; rfl
theorem aiP {s_:azz} {f_:azA} (h1:s_.length<=2000000) (h2:∀x∈s_,(0<=x.eO∧x.eO<f_.length)∧oD (f_.getD x.eO.toNat dW)=true):W (jm s_ f_) (λ r=>r=(s_.map aiO).any (RV f_)):=
 aaX (Ac (J7 (Qa (p:=λ x=>vP x f_) (P:=λ x=>RV f_ (aiO x)) (λ x hx=>kY (XP (h2 x hx).1.1 (h2 x hx).1.2 (h2 x hx).2)) om) (nV _ _))) λ r hr=>hr.trans (by rw [List.any_map]; rfl)
structure CmK (l:azs) (way:azz):Prop where
 ck:CkL l way
 ch:acn l
theorem adB (h:eD l=0) (hs:VS l s):(wZ l s).1=fU l s:=(agM (abD h (VX hs))).2.2
variable {o8:azz}
theorem Wm (h:CmK l_ o8) (hs:VS l_ s_) {v1:azA×Int} (hv:v1.1=fU l_ s_):W (dI (Fu l_ o8 v1) (0:Int)) (λ r=>r=pY l_ s_ o8):=by
 have hll:=h.ck.ll;have hwl:=h.ck.wl;have hsl:=hs.1;have hrl:(fU l_ s_).length=l_.length:=tX _ _ _;have hvr:∀j,j<l_.length->oD ((fU l_ s_).getD j dW)=true:=λ j hj=>(Lp (sI h.ck.ck) (VX hs) j hj).2.2.1;refine bS (λ (g1:Int)=>0<=g1∧g1<=l_.length∧(∀j:Nat,(j:Int)<g1->aiq ((fU l_ s_).getD j dW) (l_.getD j aL)=false)) (λ (g1:Int)=>(l_.length - g1).toNat) ?_ ⟨ob,ob,λ j hj=>by omega⟩;intro ah g1 ⟨a1,a2,a3⟩ ih1;unfold Fu;rw [hv];refine wi ?_ ?_<;>intro c1
 ·refine wm<|wn ?_;refine aG (gM λ hc=>kY (BF)) λ v6 hv6=>?_;subst v6;have hof:(((fU l_ s_).getD g1.toNat dW).j5 != 0)=!pE ((fU l_ s_).getD g1.toNat dW):=by rw [ajS (hvr g1.toNat om)]; rfl
  rw [hof];refine bV ?_ ?_<;>intro c2
  ·refine aC ?_;unfold pY;rw [show ownB l_ (fU l_ s_)=false from tV (i:=g1.toNat) om (by rw [show aiq ((fU l_ s_).getD g1.toNat dW) (l_.getD g1.toNat aL)=true from c2]; rfl)]; rfl
  refine wn<|ih1 _ ⟨ob,ob,λ j hj=>?_⟩ ob;by_cases q:j<g1.toNat
  ·exact a3 j om
  have e:j=g1.toNat:=by omega
  subst e; exact c2
 refine aG (aiP hwl (λ x hx=>by have q:=h.ck.wc x hx; rw [hrl]; exact ⟨q,hvr _ om⟩)) λ v7 hv7=>?_;subst v7;refine aC ?_;unfold pY;rw [show ownB l_ (fU l_ s_)=true from vR λ j hj=>by rw [a3 j om]; rfl]; rfl
theorem QK (h:CmK l_ o8) (hs:VS l_ s_):W (G9 l_ s_ o8) (λ r=>r=pY l_ s_ o8):=by
 have hll:=h.ck.ll;have hsl:=hs.1;exact aG (TB hll om h.ch) λ v1 hv1=>Wm h hs (by rw [hv1]; exact adB h.ck.ck hs)
theorem Wn (h:CmK l_ o8) (hs:VS l_ s_):W (Fv l_ o8 s_) (λ r=>r=pY l_ s_ o8):=by
 have hll:=h.ck.ll;have hsl:=hs.1;exact aG (XO hll om h.ch) λ v1 hv1=>Wm h hs (by rw [hv1]; exact adB h.ck.ck hs)
def Kn (l:azs) (way:azz) (f:dV->Option Int):Prop:=∀s v,VS l s->f (.i ((gN l s:Nat):Int))=some v->v=if pY l s way then 1 else 0
theorem asS:Kn l way (λ _=>none):=λ s v _ h=>by cases h
theorem CK {f:dV->Option Int} (h:CmK l way) (hs:VS l s) (hz:gY l<=1000000000000) (hk:Kn l way f):W (nR l way ((gN l s:Nat):Int) f) (λ r=>r.1=pY l s way∧Kn l way r.2):=by
 unfold nR;refine bV ?_ ?_<;>intro c1
 ·refine aG (pG hs h.ck.ll hz) λ v1 hv1=>?_;subst v1;refine aG (Wn h hs) λ v2 hv2=>?_;subst v2;refine aC ⟨rfl,?_⟩;intro t v ht hv;unfold CX at hv;dsimp only at hv;by_cases e:gN l t=gN l s
  ·have:=Ie ht hs e;subst this;rw [if_pos rfl] at hv;have hv:=alm hv;rw [<- hv];cases pY l t way<;>rfl
  rw [if_neg (λ q=>e (by injection q with q; omega))] at hv;exact hk t v ht hv
 refine aC ⟨?_,hk⟩;have hsm:(f (.i ((gN l s:Nat):Int))).isSome=true:=by simpa using c1
 obtain ⟨v,hv⟩:=ano.1 hsm;have:=hk s v hs hv;unfold jJ;rw [hv,this];cases pY l s way<;>rfl
end Go.Proofs.YtifekdmmpbcdgaaGreatDoor

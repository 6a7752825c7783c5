/- A part of the proof. -/
import Derived.Test.YtifekdmmpbcdgaaGreatDoorA8
import Derived.Test.YtifekdmmpbcdgaaGreatDoorProg
import Derived.Test.YtifekdmmpbcdgaaGreatDoorA4
import Derived.RangeFuncBox
import Derived.RangeFuncLeaves
import Derived.Shelf.Abstract
import Derived.WalkKit
import Derived.OwnWalkIn
import Derived.TacticsInMore
import Derived.LoopNIn
import Derived.LoopIn
import Derived.Test.YtifekdmmpbcdgaaGreatDoorCards
import Derived.Test.YtifekdmmpbcdgaaGreatDoorTie
import Derived.ProofKit
import Derived.OpenShut
import Derived.Carry
import Derived.LaidMore
import Derived.Deep.DeepHandedRow
set_option linter.defProp false
set_option linter.unusedVariables false
set_option linter.unusedSimpArgs false
set_option maxHeartbeats 4000000
namespace Go.Proofs.YtifekdmmpbcdgaaGreatDoor
open Go.Ab
set_option maxRecDepth 100000
variable {i:Nat}
def LF {j:Nat} :decide (j<i+1)=(decide (j=i)||decide (j<i)):=by
 by_cases h:j=i
 ·subst h;simp
 rw[afe h,anU];congr 1;exact propext ⟨λ q=>by omega,λ q=>by omega⟩
variable {α:Type} {n:Nat}
def S1 {d v:α} {l:List α} {p q:Nat->α} (hl:l.length=n) (hi:i<n) (h:∀j,j<n->l.getD j d=bif decide (j<i)then p j else q j) (hv:v=p i):∀j,j<n->(l.set i v).getD j d=bif decide (j<i+1)then p j else q j:=λ j hj=>by
 rw[G1 om,LF];by_cases e:j=i
 ·subst e;rw[afc rfl,afl rfl,hv];rfl
 rw[aeV e,afe e,h j hj];rfl
def NV {d:α} {l:List α} {p q:Nat->α} (h:∀j,j<n->l.getD j d=bif decide (j<i)then p j else q j) (hv:p i=q i):∀j,j<n->l.getD j d=bif decide (j<i+1)then p j else q j:=λ j hj=>by
 rw[h j hj,LF];by_cases e:j=i
 ·subst e;rw[afl rfl,afe om,ags,Bool.true_or,ahX,hv]
 rw[afe e];rfl
def ac2 {d v:α} {l:List α} {p q:Nat->α} (hl:l.length=n) (hi:i<n) (h:∀j,j<n->l.getD j d=bif decide (j<i+1)then p j else q j) (hv:v=q i):∀j,j<n->(l.set i v).getD j d=bif decide (j<i)then p j else q j:=λ j hj=>by
 rw[G1 om];by_cases e:j=i
 ·subst e;rw[afc rfl,afe om,hv];rfl
 rw[aeV e,h j hj,LF,afe e];rfl
def aeZ {d:α} {l:List α} {p q:Nat->α} (h:∀j,j<n->l.getD j d=bif decide (j<i+1)then p j else q j) (hv:p i=q i):∀j,j<n->l.getD j d=bif decide (j<i)then p j else q j:=λ j hj=>by
 rw[h j hj,LF];by_cases e:j=i
 ·subst e;rw[afl rfl,afe om,ags,Bool.true_or,ahX,hv]
 rw[afe e];rfl
variable {f:aK}
def S2 {t:aK} (hn:n<=2000000) (h1:f.On.length=n) (h2:f.aT.length=n) (h3:t.On.length=n) (h4:t.aT.length=n):
  W (GM f t) (λ r=>r.On.length=n/\r.aT.length=n/\∀j,j<n->r.On.getD j false=Nl f t j/\r.aT.getD j 0=NU f t j):=by
 unfold GM;refine ar (Ge om om) λ v1 hv1=>?_;subst v1;refine bu (λ g:Int×apV×apU=>0<=g.1/\g.1<=n/\g.2.1.length=n/\g.2.2.length=n/\(∀j,j<n->g.2.1.getD j false=bif decide (j<g.1.toNat)then Nl f t j else t.On.getD j false)/\∀j,j<n->g.2.2.getD j 0=bif decide (j<g.1.toNat)then NU f t j else t.aT.getD j 0)
  (λ g=>(n - g.1).toNat) ?_ ⟨ob,ob,h3,h4,λ _ _=>rfl,λ _ _=>rfl⟩
 intro self g ⟨a1,a2,a3,a4,a5,a6⟩ ih;unfold JG;refine wi ?_ ?_<;>intro c1
 ·have hlt:g.1.toNat<n:=by omega
  have e1:(g.1+1).toNat=g.1.toNat+1:=by omega
  refine aF om ?_;refine aF om ?_;apply br<;>intro c2
  ·rw[aeP]at c2;refine aF om ?_;refine aF om ?_;refine aF om ?_;refine wn<|ih _ ⟨ob,ob,a3,by dsimp only;rw[afx];exact a4,?_,?_⟩ ob<;>dsimp only<;>rw[e1]
   ·exact NV a5 (by unfold Nl;rw[c2.1,c2.2];rfl)
   exact S1 a4 hlt a6 (by unfold NU;rw[c2.1,c2.2];rfl)
  refine aF om ?_;apply br<;>intro c3
  ·rw[c3,aj0]at c2;refine aF om ?_;refine aF om ?_;refine aF om ?_;refine wn<|ih _ ⟨ob,ob,by dsimp only;rw[afx];exact a3,by dsimp only;rw[afx];exact a4,?_,?_⟩ ob<;>dsimp only<;>rw[e1]
   ·exact S1 a3 hlt a5 (by unfold Nl;rw[c3];rfl)
   exact S1 a4 hlt a6 (by unfold NU;rw[c3,c2];rfl)
  refine wn<|ih _ ⟨ob,ob,a3,a4,?_,?_⟩ ob<;>dsimp only<;>rw[e1]
  ·exact NV a5 (by unfold Nl;rw[c3];rfl)
  exact NV a6 (by unfold NU;rw[c3];rfl)
 refine ai ⟨a3,a4,λ j hj=>?_⟩;dsimp only;rw[a5 j hj,a6 j hj,afl (show j<g.1.toNat by omega)];exact⟨rfl,rfl⟩
structure ZS (Q:aK->Prop) (f:aK) (k:Nat) (on:apV) (lv:apU) (pl:apX):Prop where
 le:pl.length<=k
 ch:∀(P:ak->Prop) (g:ak),g.aY=f->(∀r,Q r->P { g with aY:=r })->G3 P g pl { g with aY:=⟨on,lv⟩ }
variable {Q:aK->Prop} {k:Nat} {on:apV} {lv:apU} {pl:apX}
def ZS.up {k':Nat} (h:ZS Q f k on lv pl) (hk:k<=k'):ZS Q f k' on lv pl:=⟨af3 h.le hk,h.ch⟩
def Rm {u v:Int} (h:ZS Q f k on lv pl) (hk:k<=100000000) (h1:on.length=n) (h2:lv.length=n) (h3:0<=u) (h4:u<n) (hv:0<=v/\v<=4611686018427387904) (hq:Q ⟨on,lv.set u.toNat v⟩):
  W (iG u v n n on lv pl) (λ r=>r.1=n/\r.2.1=n/\r.2.2.1=lv.set u.toNat v/\ZS Q f (k+1) on (lv.set u.toNat v) r.2.2.2):=by
 have hle:=h.le;unfold iG;refine aF om ?_;refine aF om ?_;apply br<;>intro c
 ·refine aF om ?_;refine aF (by unfold big;omega) ?_;exact ai ⟨rfl,rfl,rfl,by dsimp only;rw[aeU,afT];omega,λ P g hg hP=>(h.ch P g hg hP).app (.one (.k2 (w:=⟨2,u,v⟩) rfl h3 (by dsimp only;omega) hv) (hP _ hq))⟩
 have e:lv.set u.toNat v=lv:=xN (d:=0) (by simpa using c) om;rw[e];exact ai ⟨rfl,rfl,rfl,h.up om⟩
def PH {u:Int} {v:Bool} (h:ZS Q f k on lv pl) (hk:k<=100000000) (h1:on.length=n) (h2:lv.length=n) (h3:0<=u) (h4:u<n) (hq:Q ⟨on.set u.toNat v,lv⟩):
  W (gL u v n n on lv pl) (λ r=>r.1=n/\r.2.1=n/\r.2.2.1=on.set u.toNat v/\ZS Q f (k+1) (on.set u.toNat v) lv r.2.2.2):=by
 have hle:=h.le;have key:∀k2:Int,(0<=k2/\k2<=1)->(k2==1)=v->W (fF u lv pl (k2,n,n,on.set u.toNat v)) (λ r=>r.1=n/\r.2.1=n/\r.2.2.1=on.set u.toNat v/\ZS Q f (k+1) (on.set u.toNat v) lv r.2.2.2):=by
  intro k2 hk2 hb;subst hb;unfold fF;refine aF (by dsimp only;rw[afx];omega) ?_;refine aF (by unfold big;omega) ?_;exact ai ⟨rfl,rfl,rfl,by dsimp only;rw[aeU,afT];omega,λ P g hg hP=>(h.ch P g hg hP).app (.one (.k3 (w:=⟨3,u,k2⟩) rfl h3 (by dsimp only;omega) hk2.1 hk2.2) (hP _ hq))⟩
 unfold gL;refine aF om ?_;refine aF om ?_;apply br<;>intro c
 ·have e:on.set u.toNat v=on:=xN (d:=false) (by simpa using c) om;rw[e];exact ai ⟨rfl,rfl,rfl,h.up om⟩
 refine aF om ?_;cases v
 ·exact key 0 om rfl
 exact key 1 om rfl
structure RsR (Q:aK->Prop) (f t:aK) (n:Nat) (r:apX×Int):Prop where
 ok:r.2=0
 le:r.1.length<=4*n
 ch:∀(P:ak->Prop) (g:ak),g.aY=f->(∀r,Q r->P { g with aY:=r })->G3 P g r.1 { g with aY:=t }
def S3 {d:α} {a c:List α} (h1:a.length=n) (h2:c.length=n) (h:∀j,j<n->a.getD j d=c.getD j d):a=c:=by
 refine aod om λ j q1 q2=>?_;have:=h j om;rwa [ad7,aeA q1,ad7,aeA q2]at this
def Vp {t:aK} (hn:n<=2000000) (h3:t.On.length=n) (h4:t.aT.length=n) (h6:LvB n t.aT) (hQ:∀a c on lv,a<=c->c<=a+1->DnI f t n a c on lv->Q ⟨on,lv⟩) (e0:DnI f t n n n on lv) (e1:ZS Q f (2*n) on lv pl):
  W (bU (zO t) (((n:Nat):Int) - 1,n,n,on,lv,pl)) (RsR Q f t n):=by
 refine bu (λ g:Int×Nat×Nat×apV×apU×apX => -1<=g.1/\g.1<n/\g.2.1=n/\g.2.2.1=n/\DnI f t n (g.1+1).toNat (g.1+1).toNat g.2.2.2.1 g.2.2.2.2.1/\ZS Q f (4*n - 2*(g.1+1).toNat) g.2.2.2.1 g.2.2.2.2.1 g.2.2.2.2.2)
  (λ g=>(g.1+1).toNat) ?_ ⟨by dsimp only;omega,by dsimp only;omega,rfl,rfl,by rw[show((n:Int) - 1+1).toNat=n by omega];exact e0,e1.up om⟩
 intro self g ⟨a1,a2,a3,a4,a0,a5⟩ ih;have l1:=a0.ol;have l2:=a0.ll;unfold zO;rw[a3,a4];refine aF om ?_;apply br<;>intro c1
 ·have c1:=cG c1;have hlt:g.1.toNat<n:=by omega
  have e1:(g.1+1).toNat=g.1.toNat+1:=by omega
  have e2:(g.1 - 1+1).toNat=g.1.toNat:=by omega
  rw[e1]at a0;have k22:∀ {on:apV} {pl:apX},DnI f t n g.1.toNat (g.1.toNat+1) on g.2.2.2.2.1->ZS Q f (4*n - 2*(g.1+1).toNat+1) on g.2.2.2.2.1 pl->W (oR t g self (n,n,on,pl)) (RsR Q f t n):=by
   intro on pl q0 q1;have q2:=q0.ol;have q3:DnI f t n g.1.toNat g.1.toNat on (g.2.2.2.2.1.set g.1.toNat (t.aT.getD g.1.toNat 0)):=⟨q2,by rw[afx];exact q0.ll,q0.on,ac2 q0.ll hlt q0.lv rfl⟩;unfold oR;refine aF (by dsimp only;omega) ?_;refine aF om ?_;refine ar (Rm q1 om q2 q0.ll om om (h6 _ hlt) (hQ _ _ _ _ (afM _) om q3)) λ v ⟨w1,w2,w3,w4⟩=>?_;refine aF (by dsimp only;rw[w1,w2,w3,afx];omega) ?_;refine aF (by unfold av;omega) ?_;exact ih _ ⟨by dsimp only;omega,by dsimp only;omega,w1,w2,by dsimp only;rw[e2,w3];exact q3,by dsimp only;rw[w3];exact w4.up om⟩ (by dsimp only;omega)
  refine aF om ?_;refine br (λ c2=>?_) (λ c2=>k22 ⟨a0.ol,a0.ll,aeZ a0.on ?_,a0.lv⟩ (a5.up om))
  ·have c3:t.On.getD g.1.toNat false=false:=by simpa using c2
   have q3:DnI f t n g.1.toNat (g.1.toNat+1) (g.2.2.2.1.set g.1.toNat false) g.2.2.2.2.1:=⟨by rw[afx];exact l1,l2,ac2 l1 hlt a0.on c3.symm,a0.lv⟩;refine ar (PH a5 om l1 l2 om om (hQ _ _ _ _ om (afM _) q3)) λ v ⟨w1,w2,w3,w4⟩=>?_;refine aF (by rw[w1,w2,w3,afx];omega) ?_;rw[w1,w2,w3];exact k22 q3 w4
  have c3:t.On.getD g.1.toNat false=true:=by simpa using c2
  rw[(acZ (f:=f) c3).1,c3]
 have e:g.1 = -1:=by have c1:=cG c1;omega
 rw[e]at a0;refine ai ⟨rfl,af3 a5.le om,λ P x hx hP=>?_⟩;have q:=a5.ch P x hx hP;rw[S3 l1 h3 λ j hj=>a0.on j hj,S3 l2 h4 λ j hj=>a0.lv j hj]at q;exact q
def S4 {l:ap1} {t:aK} {d:ap3} (hl:l.length<=2000000) (hd:d.length<=2000000) (hf:Sp.cK l f d=true) (ht:Sp.cK l t d=true) (hQ:∀r:aK,r.On.length=l.length->r.aT.length=l.length->Sp.cK l r d=true->Q r):W (GN l f t d) (RsR Q f t l.length):=by
 obtain⟨hf1,hdr⟩:=Vj hf;obtain⟨ht1,_⟩:=Vj ht;obtain⟨f1,f2,f3⟩:=Bh hf1;obtain⟨t1,t2,t3⟩:=Bh ht1;have fr:=((Sp.fj hdr).1 hf).1;have tr:=((Sp.fj hdr).1 ht).1;have hbt:LvB l.length t.aT:=λ j hj=>t3 _ (getD_in 0 om);have hbf:LvB l.length f.aT:=λ j hj=>f3 _ (getD_in 0 om);unfold GN;refine ar (QA hl hf1 ht1) λ v1 hv1=>?_;subst v1;refine br (λ c=>by simp at c) (λ _=>?_);refine ar (Sp.FR hl hd) λ v2 hv2=>?_;rw[hdr]at hv2;subst v2;refine br (λ c=>by simp at c) (λ _=>?_);refine ar (Sp.xO hl hd om) λ v3 hv3=>?_;rw[hf]at hv3;subst v3;refine ar (lp λ _=>Sp.xO hl hd om) λ v4 hv4=>?_;have e4:v4=true:=by rw[hv4 rfl,ht]
 subst e4;refine br (λ c=>by simp at c) (λ _=>?_);refine ar (S2 (n:=l.length) hl f1 f2 t1 t2) λ v5 ⟨j1,j2,j3⟩=>?_;refine ar (Ge om om) λ v6 hv6=>?_;subst v6;dsimp only;rw[f1,f2];refine bu (λ g:Int×Nat×Nat×apV×apU×apX=>0<=g.1/\g.1<=l.length/\g.2.1=l.length/\g.2.2.1=l.length/\UpI f t l.length g.1.toNat g.1.toNat g.2.2.2.1 g.2.2.2.2.1/\ZS Q f (2*g.1.toNat) g.2.2.2.1 g.2.2.2.2.1 g.2.2.2.2.2)
  (λ g=>(l.length - g.1).toNat) ?_ ⟨by dsimp only;omega,by dsimp only;omega,rfl,rfl,⟨f1,f2,λ _ _=>rfl,λ _ _=>rfl⟩,ahU _,λ P g hg _=>by subst hg;exact .nil g⟩
 intro self g ⟨a1,a2,a3,a4,a0,a5⟩ ih;have l1:=a0.ol;have l2:=a0.ll;unfold HN;rw[a3,a4];refine aF om ?_;refine wi ?_ ?_<;>intro c1
 ·have hlt:g.1.toNat<l.length:=by omega
  have e1:(g.1+1).toNat=g.1.toNat+1:=by omega
  obtain⟨hj,hj2⟩:=j3 _ hlt;have hb:0<=NU f t g.1.toNat/\NU f t g.1.toNat<=4611686018427387904:=by
   have u:=hbf _ hlt;have w:=hbt _ hlt;unfold NU;cases f.On.getD g.1.toNat false<;>cases t.On.getD g.1.toNat false<;>simp only[ahX,ags]
   ·exact w
   ·exact w
   ·exact u
   split<;>omega
  have al:∀ {v:Int},(Nl f t g.1.toNat=true->v=NU f t g.1.toNat)->(Nl f t g.1.toNat=false->v=f.aT.getD g.1.toNat 0)->∀j,j<l.length->(g.2.2.2.2.1.set g.1.toNat v).getD j 0=bif decide (j<g.1.toNat+1)&&Nl f t j then NU f t j else f.aT.getD j 0:=λ {v} hv hv2 j hj=>by
   rw[G1 om,LF];by_cases e:j=g.1.toNat
   ·rw[afc e,e,afl rfl];cases q:Nl f t g.1.toNat
    ·exact hv2 q
    exact hv q
   rw[aeV e,afe e,a0.lv j hj];rfl
  refine aF om ?_;apply br<;>intro c2
  ·rw[hj]at c2;rw[hj2];refine aF om ?_;have q3:UpI f t l.length g.1.toNat (g.1.toNat+1) g.2.2.2.1 (g.2.2.2.2.1.set g.1.toNat (NU f t g.1.toNat)):=⟨l1,by rw[afx];exact l2,a0.on,al (λ _=>rfl) λ e=>by rw[c2]at e;cases e⟩;refine ar (Rm a5 om l1 l2 om om hb (hQ _ l1 q3.ll (afE hdr hf ht om (afM _) q3))) ?_;rintro ⟨n1,n2,lv2,pl2⟩ ⟨w1,w2,w3,w4⟩;dsimp only at w1 w2 w3 w4 ⊢;subst w1 w2 w3;refine aF (by rw[afx];omega) ?_;have q4:UpI f t l.length (g.1.toNat+1) (g.1.toNat+1) (g.2.2.2.1.set g.1.toNat true) (g.2.2.2.2.1.set g.1.toNat (NU f t g.1.toNat)):=⟨by rw[afx];exact l1,q3.ll,S1 l1 hlt a0.on c2.symm,q3.lv⟩;refine ar (PH w4 om l1 q3.ll om om (hQ _ q4.ol q4.ll (afE hdr hf ht (afM _) om q4))) ?_;rintro ⟨n1,n2,on2,pl3⟩ ⟨y1,y2,y3,y4⟩;dsimp only at y1 y2 y3 y4 ⊢;subst y1 y2 y3;refine aF (by rw[afx,afx];omega) ?_;refine aF (by unfold av;omega) ?_;exact ih _ ⟨by dsimp only;omega,by dsimp only;omega,rfl,rfl,by dsimp only;rw[e1];exact q4,y4.up (by dsimp only;omega)⟩ (by dsimp only;omega)
  rw[hj]at c2;refine aF (by unfold av;omega) ?_;have q5:=c2;unfold Nl at q5;rw[afr]at q5;exact ih _ ⟨by dsimp only;omega,by dsimp only;omega,rfl,rfl,by
   dsimp only;rw[e1];refine⟨l1,l2,NV a0.on (by rw[c2,q5.1]),λ j hj=>?_⟩;have:=al (v:=g.2.2.2.2.1.getD g.1.toNat 0) (λ e=>by rw[c2]at e;cases e) (λ _=>by rw[a0.lv _ hlt,c2,Bool.and_false];rfl) j hj;rwa [xN rfl om]at this,a5.up (by dsimp only;omega)⟩ (by dsimp only;omega)
 have e:g.1.toNat=l.length:=by omega
 rw[e]at a0;refine aF (by unfold av;omega) ?_;refine Vp hl t1 t2 hbt (λ a c on lv q1 q2 q3=>hQ _ q3.ol q3.ll (ajF hdr hf ht q1 q2 q3)) ⟨l1,l2,λ j hj=>?_,λ j hj=>?_⟩ (a5.up om)
 ·rw[a0.on j hj,afl hj];rfl
 rw[a0.lv j hj,afl hj];cases Nl f t j<;>rfl
def mkB (n:Nat) (p:Nat->Bool):apV:=(List.range n).map p
variable {p:Nat->Bool}
def Ae {j:Nat} (h:j<n):(mkB n p).getD j false=p j:=by
 unfold mkB;rw[ad7,anW,aps h];rfl
def Cu:(mkB n p).length=n:=by unfold mkB;simp
def mk_eq {x:apV} (hx:x.length=n) (h:∀j,j<n->x.getD j false=p j):mkB n p=x:=S3 (d:=false) Cu hx λ j hj=>by rw[Ae hj,h j hj]
def Af (a c:apV) (k n:Nat):apV:=mkB n λ j=>a.getD j false&&(c.getD j false||decide (j<k))
variable {a:apV}
def Ye {c:apV} (hk:k<n):(a.getD k false&&!c.getD k false)=true/\(Af a c (k+1) n).set k false=Af a c k n\/(a.getD k false&&!c.getD k false)=false/\Af a c (k+1) n=Af a c k n:=by
 have hs:∀j,decide (j<k+1)=(decide (j=k)||decide (j<k)):=λ j=>LF;cases e:(a.getD k false&&!c.getD k false)with
 | true=>
  rw[aeP,ahA]at e;refine .inl ⟨rfl,(mk_eq (by rw[afx];exact Cu) λ j hj=>?_).symm⟩;rw[G1 (by unfold Af;rw[Cu];exact hk)];by_cases q:j=k
  ·subst q;rw[afc rfl,e.2,afe (Nat.lt_irrefl j)];simp
  rw[aeV q];unfold Af;rw[Ae hj,hs,afe q];rfl
 | false=>
  refine .inr ⟨rfl,mk_eq Cu λ j hj=>?_⟩;unfold Af;rw[Ae hj,hs];by_cases q:j=k
  ·subst q;rw[afl rfl,afe (Nat.lt_irrefl j)];revert e;cases a.getD j false<;>cases c.getD j false<;>simp
  rw[afe q];rfl
def ac3 {c:apV} (ha:a.length=n):Af a c n n=a:=mk_eq ha λ j hj=>by rw[afl hj,aox,aoB]
def ae0 {c:apV} :Af a c 0 n=Af c a 0 n:=by
 unfold Af;congr 1;funext j;simp[Bool.and_comm]
variable {P:ak->Prop}
theorem ac4 {put:apV->ak} {K:Int} {c:apV} (ha:a.length=n) (hw:∀x (i:Nat),x.length=n->i<n->PW (put x) ⟨K,i,0⟩ (put (x.set i false))) (hP:∀k,P (put (Af a c k n))):
  G3 P (put a) (sel (λ i=>a.getD i false&&!c.getD i false) (λ i=>⟨K,i,0⟩) n).reverse (put (Af a c 0 n)):=by
 have key:∀k,k<=n->G3 P (put (Af a c k n)) (sel (λ i=>a.getD i false&&!c.getD i false) (λ i=>⟨K,i,0⟩) k).reverse (put (Af a c 0 n)):=by
  intro k;induction k with
  | zero=>intro _;exact .nil _
  | succ k ih=>
   intro hk;have ih:=ih om;rw[sel,aoJ];rcases Ye (a:=a) (c:=c) (show k<n by omega)with⟨e,q⟩ | ⟨e,q⟩
   ·rw[e];refine .cons ?_ (hP k) ih;rw[<- q];exact hw _ k Cu om
   rw[e,q];exact ih
 have:=key n (afM n);rwa [ac3 ha]at this
theorem afF {put:apV->ak} {K:Int} {c:apV} (hc:c.length=n) (hw:∀x (i:Nat),x.length=n->i<n->PW (put x) ⟨K,i,1⟩ (put (x.set i true))) (hP:∀k,P (put (Af c a k n))):
  G3 P (put (Af a c 0 n)) (sel (λ i=>c.getD i false&&!a.getD i false) (λ i=>⟨K,i,1⟩) n) (put c):=by
 have key:∀k,k<=n->G3 P (put (Af c a 0 n)) (sel (λ i=>c.getD i false&&!a.getD i false) (λ i=>⟨K,i,1⟩) k) (put (Af c a k n)):=by
  intro k;induction k with
  | zero=>intro _;exact .nil _
  | succ k ih=>
   intro hk;have ih:=ih om;rw[sel];rcases Ye (a:=c) (c:=a) (show k<n by omega)with⟨e,q⟩ | ⟨e,q⟩
   ·rw[e];refine ih.app (.one ?_ (hP (k+1)));have:=hw (Af c a k n) k Cu om;rw[<- q,aog]at this;rw[<- q];have e2:(Af c a (k+1) n).set k true=Af c a (k+1) n:=xN (d:=false) (by unfold Af;rw[Ae om,afl om];rw[aeP]at e;rw[e.1];simp) (by unfold Af;rw[Cu];omega);rwa [e2]at this
   rw[e,ags,aiN,q];exact ih
 have:=key n (afM n);rwa [ac3 hc,ae0]at this
def ahM {l:ap7} {c:apV} (h0:Qr l 0) (ha:SD l a) (hc:SD l c) (k:Nat):SD l (Af a c k l.length):=by
 refine⟨by unfold Af;rw[Cu],λ i hi j hj h=>?_⟩;have hx:=h0.ok.af i om _ (getD_in (l:=(l.getD i cv).cS) (i:=j) 0 om);unfold Af at h ⊢;rw[Ae om]at h;rw[Ae om];simp only[aeP,aiG,ahQ]at h ⊢;exact⟨ha.2 i hi j hj h.1,h.2.imp (hc.2 i hi j hj) λ q=>by omega⟩
def ajG {l:ap8} {c:apV} (h0:M1 l 0) (ha:ZN l a) (hc:ZN l c) (k:Nat):ZN l (Af a c k l.length):=by
 refine⟨by unfold Af;rw[Cu],λ i hi=>⟨λ h=>?_,λ h hp=>?_⟩⟩
 ·unfold Af;rw[Ae om,(ha.2 i hi).1 h,(hc.2 i hi).1 h];rfl
 have hx:=(h0.ok.par i om).2;unfold Af at h ⊢;rw[Ae om]at h;rw[Ae om];simp only[aeP,aiG,ahQ]at h ⊢;exact⟨(ha.2 i hi).2 h.1 hp,h.2.imp (λ q=>(hc.2 i hi).2 q hp) λ q=>by omega⟩
def afG {c:apV} (h1:a.getD i false=true) (h2:c.getD i false=true) (ha:a.length=n):(Af a c k n).getD i false=true:=by
 have hi:i<n:=by
  rcases aiZ i a.length with q | q
  ·omega
  rw[ad7,anr q]at h1;cases h1
 unfold Af;rw[Ae hi,h1,h2];rfl
variable {b:aI} {l:apW} {ms:apU}
def afH {c:apV} (h0:Qr b.bc 0) (ha:CL b l ms a) (hc:CL b l ms c) (hn:n=b.bc.length) (k:Nat):CL b l ms (Af a c k n):=by
 subst hn;exact⟨ahM h0 ha.1 hc.1 k,λ i hi j hj=>afG (ha.2 i hi j hj) (hc.2 i hi j hj) (by have:=ha.1.1;omega)⟩
def afI {c:apV} (h0:M1 b.bw 0) (ha:CP b l ms a) (hc:CP b l ms c) (hn:n=b.bw.length) (k:Nat):CP b l ms (Af a c k n):=by
 subst hn;exact⟨ajG h0 ha.1 hc.1 k,λ i hi hd=>afG (ha.2 i hi hd) (hc.2 i hi hd) (by have:=ha.1.1;omega)⟩
def gpH (k:Int) (u:ah):Bool:=!(u.cX.aZ==k)
def Xa {k:Int}:∀ {l:apZ},Ve l->iO k l=l.filter (gpH k):=by
 intro l;induction l with
 | nil=>intro _;rfl
 | cons x l ih=>
  intro h;unfold Ve at h;rw[aiX,aom]at h;obtain⟨h1,h2⟩:=h;by_cases q:x.cX.aZ=k
  ·have e1:iO k (x::l)=l:=by
    unfold iO uM;rw[show(x::l).any (qM k)=true by simp[qM,q]];simp[qM,q,ao2]
   rw[e1,ajX,aeV (by simp[gpH,q])];refine(aoi.2 λ y hy=>?_).symm;have:y.cX.aZ≠k:=λ e=>h1 (by rw[q,<- e];exact aio.2 ⟨y,hy,rfl⟩);simp[gpH,this]
  have e1:iO k (x::l)=x::iO k l:=by
   unfold iO uM;have hb:qM k x=false:=by simp[qM,q]
   rw[akp,hb,anU];cases hc:l.any (qM k)with
   | false=>rfl
   | true=>
    rw[ao2,hb];simp only[ags,apa];rw[afl om,afl om];simp
  rw[e1,ih h2,ajX,afc (by simp[gpH,q])]
variable {V:aqb}
def ae1 {p:bq} (h:V.Pairwise (OwR p)):∀u∈V,∀w∈V,u.aZ≠w.aZ->OwR p u w:=by
 induction V with
 | nil=>intro u hu;cases hu
 | cons x V ih=>
  rw[apH]at h;intro u hu w hw hn;have sym:∀ {u w:ee},OwR p u w->OwR p w u:=λ q=>⟨q.1.symm,λ a b h1 h2 e=>q.2 b a h2 h1 e.symm⟩
  rcases ah0.1 hu with e1 | e1<;>rcases ah0.1 hw with e2 | e2
  ·exact absurd (by rw[e1,e2]) hn
  ·rw[e1];exact h.1 w e2
  ·rw[e2];exact sym (h.1 u e1)
  exact ih h.2 u e1 w e2 hn
def S5 {p:bq} {U:aqb} (hV:sP p V) (hU:(U.map ee.aZ).Nodup) (hs:∀u∈U,u∈V):sP p U:=
 Pz.2 ⟨λ u hu=>(Pz.1 hV).1 u (hs u hu),(aor.1 hU).imp_of_mem λ ha hb q=>ae1 (Pz.1 hV).2 _ (hs _ ha) _ (hs _ hb) q⟩
variable {U:apZ}
def Yf {V:apZ} (h:Zz b l ms ⟨[],⟨[],[]⟩,U,[],[]⟩) (hc:∀m∈ms,∀f,Bb b.aM U m f<=Bb b.aM V m f):Zz b l ms ⟨[],⟨[],[]⟩,V,[],[]⟩:=
 λ i hi f=>af3 (h i hi f) (hc _ (getD_in 0 om) f)
def Rn {q:ah->Bool} (h:Ve U):Ve (U.filter q):=List.Nodup.sublist (aoM.map _) h
def ahN {k:Int} (h:CU b l ms U) (hg:Ve U) (hk:∀u∈U,u.cX.aZ=k->u.dE ∉ ms):CU b l ms (U.filter (gpH k)):=by
 obtain⟨h1,h2,h3⟩:=h;refine⟨λ u hu=>h1 u (ajK.1 hu).1,S5 h2 (ss.1 (Rn hg)) λ u hu=>?_,Yf h3 λ m hm f=>Nat.le_of_eq ?_⟩
 ·obtain⟨w,hw,rfl⟩:=aio.1 hu;exact apw (ajK.1 hw).1
 unfold Bb;rw[List.countP_filter];refine apO λ u hu=>?_;simp only[aeP,ajZ,ahQ];refine⟨λ q=>⟨q,?_⟩,λ q=>q.1⟩;have:u.cX.aZ≠k:=λ e=>hk u hu e (by rw[q.1];exact hm);simp[gpH,this]
variable {g:ak} {h:ak} {ws:apX}
def ac5 {k v:Int} (k0:0<=k) (k1:k<=23) (hv:0<=v/\v<=4611686018427387904) (hp:P { g with Uses:=nB k v (iO k g.Uses) }) (hs:G3 P { g with Uses:=nB k v (iO k g.Uses) } ws h):G3 P g (⟨10,k,v⟩::ws) h:=.cons (.k10 (w:=⟨10,k,v⟩) rfl k0 k1 hv) hp hs
def ac6:∀ {ws:apX} {g:ak},(∀x∈ws,x.bY=10/\x.Value=0/\(0<=x.Unit/\x.Unit<=23)/\∀u∈g.Uses,u.cX.aZ=x.Unit->u.dE ∉ ms)->Ve g.Uses->CU b l ms g.Uses->(∀U,CU b l ms U->P { g with Uses:=U })->
  ∃U,G3 P g ws { g with Uses:=U }/\CU b l ms U/\Ve U/\∀u,u∈U↔u∈g.Uses/\∀x∈ws,x.Unit≠u.cX.aZ:=by
 intro ws;induction ws with
 | nil=>intro g _ hg hc _;exact⟨g.Uses,.nil g,hc,hg,λ u=>⟨λ h=>⟨h,nofun⟩,λ h=>h.1⟩⟩
 | cons w ws ih=>
  intro g h hg hc hP;obtain⟨a1,a2,⟨a3,a4⟩,a5⟩:=h w ajN;have c1:=ahN hc hg a5;have e:nB w.Unit 0 (iO w.Unit g.Uses)=g.Uses.filter (gpH w.Unit):=by rw[Xa hg];rfl
  obtain⟨U,b1,b2,b3,b4⟩:=ih (g:={ g with Uses:=g.Uses.filter (gpH w.Unit) }) (λ x hx=>by
   obtain⟨d1,d2,d3,d4⟩:=h x (ahV _ hx);exact⟨d1,d2,d3,λ u hu=>d4 u (ajK.1 hu).1⟩) (Rn hg) c1 hP
  obtain⟨wk,wu,wv⟩:=w;dsimp only at a1 a2 a3 a4 e b1 b4;subst a1 a2;refine⟨U,ac5 a3 a4 om (by rw[e];exact hP _ c1) (by rw[e];exact b1),b2,b3,λ u=>?_⟩;rw[b4 u];rw[ajK,apo];have:gpH wu u=true↔wu≠u.cX.aZ:=by
   unfold gpH;simp only[ahA,ajP];exact⟨λ q e=>q e.symm,λ q e=>q e.symm⟩
  rw[this,and_assoc]
def ae2 (hV:sP b.aM V):∀ {ws:apX} {g:ak},(∀x∈ws,x.bY=10/\(0<x.Value/\x.Value<=4611686018427387904)/\(0<=x.Unit/\x.Unit<=23)/\(⟨x.Unit,x.Value - 1⟩:ee)∈V/\∀u∈g.Uses,u.cX.aZ≠x.Unit)->(ws.map aw.Unit).Nodup->Ve g.Uses->(∀u∈g.Uses,u.cX∈V)->CU b l ms g.Uses->(∀U,CU b l ms U->P { g with Uses:=U })->
  ∃U,G3 P g ws { g with Uses:=U }/\Ve U/\(∀u∈U,u.cX∈V)/\∀v:ee,(v∈g.Uses.map ah.cX\/∃x∈ws,v=⟨x.Unit,x.Value - 1⟩)->v∈U.map ah.cX:=by
 intro ws;induction ws with
 | nil=>intro g _ _ hg hi _ _;exact⟨g.Uses,.nil g,hg,hi,λ v hv=>hv.elim id λ⟨_,hx,_⟩=>by cases hx⟩
 | cons w ws ih=>
  intro g h hn hg hi hc hP;rw[aiX,aom]at hn;obtain⟨a1,⟨a2,a2'⟩,⟨a3,a4⟩,a5,a6⟩:=h w ajN;have e:nB w.Unit w.Value (iO w.Unit g.Uses)=g.Uses++[⟨-1,⟨w.Unit,w.Value - 1⟩⟩]:=by rw[U6 a6];unfold nB;rw[afl a2];rfl
  have g1:Ve (g.Uses++[⟨-1,⟨w.Unit,w.Value - 1⟩⟩]):=by
   unfold Ve at hg ⊢;rw[akj,apN];refine⟨hg,by simp,λ x hx y hy q=>?_⟩;obtain⟨u,hu,rfl⟩:=aio.1 hx;rw[List.map_singleton,ahd]at hy;exact a6 u hu (q.trans hy)
  have i1:∀u∈g.Uses++[⟨-1,⟨w.Unit,w.Value - 1⟩⟩],u.cX∈V:=λ u hu=>by
   rcases ahL.1 hu with q | q
   ·exact hi u q
   rw[ahd.1 q];exact a5
  have c1:CU b l ms (g.Uses++[⟨-1,⟨w.Unit,w.Value - 1⟩⟩]):=by
   obtain⟨h1,h2,h3⟩:=hc;refine⟨λ u hu=>?_,S5 hV (ss.1 g1) λ u hu=>?_,Yf h3 λ m hm f=>?_⟩
   ·rcases ahL.1 hu with q | q
    ·exact h1 u q
    rw[ahd.1 q];dsimp only;omega
   ·obtain⟨w,hw,rfl⟩:=aio.1 hu;exact i1 w hw
   rw[Bc];omega
  obtain⟨U,b1,b2,b3,b4⟩:=ih (g:={ g with Uses:=g.Uses++[⟨-1,⟨w.Unit,w.Value - 1⟩⟩] }) (λ x hx=>by
   obtain⟨d1,d2,d3,d5,d4⟩:=h x (ahV _ hx);refine⟨d1,d2,d3,d5,λ u hu=>?_⟩;rcases ahL.1 hu with q | q
   ·exact d4 u q
   rw[ahd.1 q];exact λ e=>hn.1 (by rw[show w.Unit=x.Unit from e];exact apw hx)) hn.2 g1 i1 c1 hP
  obtain⟨wk,wu,wv⟩:=w;dsimp only at a1 a2 a2' a3 a4 e b1 b4 c1;subst a1;refine⟨U,ac5 a3 a4 om (by rw[e];exact hP _ c1) (by rw[e];exact b1),b2,b3,λ v hv=>b4 v ?_⟩;rw[akj,ahL];rcases hv with q | ⟨x,hx,q⟩
  ·exact .inl (.inl q)
  rcases ah0.1 hx with r | r
  ·subst r;exact .inl (.inr (by rw[q];simp))
  exact .inr ⟨x,r,q⟩
def CfP (ms:apU) (U V:apZ):Prop:=∀u∈U,(∀w∈V,w.cX.aZ=u.cX.aZ->w.cX.bD=u.cX.bD)/\(u.dE∈ms->u∈V)
def Xb {f t:ak} {m:cj->Option Int} (hm:ms.length<=10000) (hu:f.Uses.length<=100000) (hv:t.Uses.length<=100000) (hb:∀u∈f.Uses,0<=u.cX.bD/\u.cX.bD<=2000000) (hg:GmP t.Uses m):
  W (bU (rC f t ms m) (0:Int)) (λ r=>r=8\/(r=0/\CfP ms f.Uses t.Uses)):=by
 refine bu (λ g:Int=>0<=g/\g<=f.Uses.length/\∀u∈f.Uses.take g.toNat,(∀w∈t.Uses,w.cX.aZ=u.cX.aZ->w.cX.bD=u.cX.bD)/\(u.dE∈ms->u∈t.Uses)) (λ g=>(f.Uses.length - g).toNat) ?_ ⟨ob,ob,nofun⟩;intro self g ⟨a1,a2,a3⟩ ih;unfold rC;refine wi ?_ ?_<;>intro c1
 ·have hlt:g.toNat<f.Uses.length:=by omega
  have hbu:=hb _ (getD_in aL hlt);have ht:f.Uses.take (g.toNat+1)=f.Uses.take g.toNat++[f.Uses.getD g.toNat aL]:=by rw[alV,aeA hlt,ad7,aeA hlt];rfl
  generalize f.Uses.getD g.toNat aL=u at hbu ht;refine aF om ?_;refine aF (λ _=>by unfold av;omega) ?_;refine ar (lp λ _=>sJ (mD (s_:=ms) (v_:=u.dE) om)) λ v12 Lb=>?_;refine ar (lp λ _=>lp λ _=>aeX (s_:=t.Uses) (v_:=(⟨u.dE,⟨u.cX.aZ,u.cX.bD⟩⟩:ah)) om) λ v13 D1=>?_;refine br (λ c2=>ai (.inl rfl)) (λ c2=>?_);rw[afr]at c2;obtain⟨e1,h2⟩:=c2;refine wn<|ih _ ⟨ob,ob,λ x hx=>?_⟩ ob;rw[show(g+1).toNat=g.toNat+1 by omega,ht]at hx;rcases ahL.1 hx with q | q
  ·exact a3 x q
  rw[ahd.1 q];refine⟨λ w hw hgr=>?_,λ hd=>?_⟩
  ·have:=hg.to w hw;rw[hgr]at this;unfold fo at e1;rw[this]at e1;simp at e1;omega
  have ht:v12=true:=by rw[Lb e1];exact ajO.2 hd
  rw[ht]at h2;exact(D1 e1 ht).1 (by simpa using h2)
 rw[ahH om]at a3;exact ai (.inr ⟨rfl,a3⟩)
theorem ac7 {f t:ak} (h1:xQ b) (h2:ZP b.aM) (h3:Ck l) (hm:ms.length<=10000) (hf:ka f) (ht:ka t) (hu:f.Uses.length<=100000) (hv:t.Uses.length<=100000) (hd:qN l ms) (q1:kC b l ms f false 0) (q2:kC b l ms t false 0):
  W (tN b l f t ms) (λ r=>r=8\/(r=0/\CfP ms f.Uses t.Uses)):=by
 have hn:=ahR.1 (cV (by decide) q1).1;unfold tN;refine ar (z8 h1 h2 h3) λ v1 hv1=>?_;have e:=jr.fun _ _ hv1 hn;subst e;refine br (λ c=>by cases c) (λ _=>?_);refine bu (λ g:Int=>0<=g) (λ g=>(ms.length - g).toNat) ?_ (air _);intro self g a1 ih;unfold AD;apply br<;>intro c1
 ·have c1:=cG c1;obtain⟨hx,hk⟩:=hd g.toNat om;refine aF om ?_;refine aF (λ _=>by omega) ?_;have hz:(decide (ms.getD g.toNat 0<0)||decide ((l.length:Int)<=ms.getD g.toNat 0))=false:=by
   rw[afr,aie,aie];omega
  refine ar (lp λ _=>sJ (mD (s_:=ms.take g.toNat) (v_:=ms.getD g.toNat 0) (by rw[afs];omega))) λ v4 hv4=>?_;have e4:v4=false:=by
   rw[hv4 hz];cases q:(ms.take g.toNat).contains (ms.getD g.toNat 0)with
   | false=>rfl
   | true=>
    obtain⟨k,k1,k2⟩:=(zZ om).1 q;exact absurd k2 (hk k k1)
  rw[hz,e4];refine br (λ c2=>by cases c2) (λ _=>?_);exact aF ob (ih _ om om)
 refine ar (Vm h1 h2 h3 hm hf) λ v5 hv5=>?_;refine ar (lp λ _=>Vm h1 h2 h3 hm ht) λ v6 hv6=>?_;have e5:=hv5.2 q1;subst e5;have e6:=(hv6 rfl).2 q2;subst e6;refine br (λ c2=>by cases c2) (λ _=>?_);have o1:=(SG q1).2;have o2:=(SG q2).2;refine ar (LA hv (NT o2) (SZ h2 o2)) λ v7 hv7=>?_;exact Xb hm hu hv (SZ h2 o1) hv7
def qc {q:Nat->Bool} {w:Nat->aw} (h:∀i,p i=q i) (n:Nat):sel p w n=sel q w n:=by rw[show p=q from funext h]
def ac8 {w:Nat->aw} (hi:i<n) (h:p i=true):w i∈sel p w n:=by
 induction n with
 | zero=>omega
 | succ n ih=>
  rw[sel,ahL];by_cases e:i=n
  ·subst e;rw[h];exact .inr ajN
  exact .inl (ih om)
def afJ {l:aqb} (h:(l.map ee.aZ).Nodup):l.Nodup:=List.Pairwise.of_map ee.aZ (λ _ _ h e=>h (ano ee.aZ e)) h
def ajH (P:ak->Prop) (f t:ak) (r:Int×apX):Prop:=(r.1=9\/r.1=8)\/r.1=0/\r.2.length<=400/\∃h,G3 P f r.2 h/\Ta h t
theorem ae3 {f t:ak} (h0:Y2 b) (h3:Ck l) (hm:ms.length<=20) (hf:ka f) (ht:ka t) (hu:f.Uses.length<=100000) (hv:t.Uses.length<=100000) (hnl:ahI l) (hd:qN l ms) (q1:kC b l ms f false 0) (q2:kC b l ms t false 0):
  W (nS b l f t ms) (ajH (λ g=>kC b l ms g true 0) f t):=by
 have h1:=ach h0;have h2:ZP b.aM:=λ g hg=>by have:=h0.gr g hg;omega
 unfold nS;refine ar (ac7 h1 h2 h3 om hf ht hu hv hd q1 q2) λ v1 hv1=>?_;refine br (λ c=>ai (.inl (.inr (hv1.elim id λ e=>by rw[e.1]at c;cases c)))) (λ c=>?_);have cf:CfP ms f.Uses t.Uses:=hv1.elim (λ e=>by rw[e]at c;cases c) And.right;have hr:=Yb hd;obtain⟨ck,vf,cmf⟩:=Vn q1 hr (S0 q1);obtain⟨_,vt,cmt⟩:=Vn q2 hr (S0 q2);have b1:=SV q1;have b2:=SV q2;obtain⟨x,gf⟩:=PF q1;obtain⟨_,gt⟩:=PF q2;obtain⟨⟨_,r1,r2,r3,r4⟩,_⟩:=b1.sh;obtain⟨⟨_,s1,s2,s3,s4⟩,_⟩:=b2.sh;have l1:=h0.nre;have l2:=h0.nsu;have l3:=h0.ndo;have l4:=h0.ncl;have l5:=h0.ngr;have hsz:dP b.bj<=243:=af3 (acW λ c hc=>(h0.cl c hc).2) (alT om l4);have f1:=SZ h2 b1.ow;have f2:=SZ h2 b2.ow;refine ar (LA hu (NT b1.ow) f1) λ v2 g2=>?_;refine ar (LA hv (NT b2.ow) f2) λ v3 g3=>?_;refine aF om ?_;refine ar (P:=λ r=>r.2=0/\r.1=(lnL 0 f.Released t.Released).reverse) (by
  unfold xu
  exact ar (Vk om om) λ v h=>ai ⟨rfl,h⟩) λ v4 ⟨a4,n4⟩=>?_
 refine br (λ c=>by rw[a4]at c;cases c) (λ _=>?_);have m4:=Ad (lnP 0 f.Released t.Released) (λ i=>⟨11,i,0⟩) f.Released.length;have e4:v4.1.length=(lnL 0 f.Released t.Released).length:=by rw[n4,anK]
 have m4:v4.1.length<=4:=by rw[e4];unfold lnL;omega
 refine aF (by unfold big;omega) ?_;refine wn<|aF om ?_;refine ar (P:=λ r=>r.2=0/\r.1=sel (ZC v2 v3) (λ i=>⟨10,i,fo v2 (.i ((i:Nat):Int))*0⟩) 24) (by
  unfold xw
  exact ar (X4 (g2.bd f1) (.inl rfl)) λ v h=>ai ⟨rfl,h⟩) λ v5 ⟨a5,n5⟩=>?_
 refine br (λ c=>by rw[a5]at c;cases c) (λ _=>?_);have m5:v5.1.length<=24:=by rw[n5];exact Ad _ _ _
 refine aF (by unfold big;omega) ?_;refine wn<|aF om ?_;have su1:Sp.cK b.aX (⟨f.aY.On,f.aY.aT⟩:aK) (M9 l ms)=true:=b1.su;have su2:Sp.cK b.aX (⟨t.aY.On,t.aY.aT⟩:aK) (M9 l ms)=true:=b2.su;refine ar (P:=λ r=>RsR (CR b l ms) f.aY t.aY b.aX.length r) (by
  unfold xx
  refine ar (acU om hr hnl.dl) λ v ⟨hv,hvl⟩=>?_
  subst hv
  exact ar (S4 om om su1 su2 λ r k1 k2 k3=>⟨⟨k1,k2⟩,k3⟩) λ v h=>ai h) λ v6 p6=>?_
 have a6:=p6.ok;refine br (λ c=>by rw[a6]at c;cases c) (λ _=>?_);have m6:=p6.le;refine aF (by unfold big;omega) ?_;refine wn<|aF om ?_;have lml:=ahK hnl hr;have lmm:=ahJ (S0 q1) hr;have cmk:CmK b.bj (ZR l ms):=⟨⟨ck,om,om,λ x hx=>⟨(lmm x hx).k0,(lmm x hx).kl⟩⟩,h1.ch⟩;refine ar (P:=λ r=>RtR (CS b l ms) (dP b.bj) f.Setting t.Setting r) (by
  unfold xz
  refine ar (ZF om hr (λ n hn=>by have:=hnl.ll n hn;omega)) λ v hv=>?_
  subst hv
  exact ar (PG cmk om (Yc ck om lmm) vf vt cmf cmt λ s k1 k2=>aeY ck k1 k2 hr (S0 q1)) λ v h=>ai h) λ v7 p7=>?_
 refine br (λ c=>ai (.inl (.inl (p7.elim (λ e=>by rw[e.1]at c;cases c) id)))) (λ c7=>?_);obtain⟨a7,m7,x7⟩:=p7.elim id λ e=>by rw[e]at c7;cases c7
 refine aF (by unfold big;omega) ?_;refine wn<|aF om ?_;refine ar (P:=λ r=>r.2=0/\r.1=(sel (Vl f.bg t.bg) (λ i=>⟨12,i,0⟩) b.bw.length).reverse++sel (Vl t.bg f.bg) (λ i=>⟨12,i,1⟩) b.bw.length) (by
  unfold xA
  exact ar (PB om b1.da b1.dm b2.dm) λ v h=>ai h) λ v8 ⟨a8,n8⟩=>?_
 refine br (λ c=>by rw[a8]at c;cases c) (λ _=>?_);have m8:v8.1.length<=8:=by
  have x:=Ad (Vl f.bg t.bg) (λ i=>⟨12,i,0⟩) b.bw.length;have y:=Ad (Vl t.bg f.bg) (λ i=>⟨12,i,1⟩) b.bw.length;rw[n8,aeU,anK];omega
 refine aF (by unfold big;omega) ?_;refine wn<|aF om ?_;refine ar (P:=λ r=>r.2=0/\r.1=sel (ZC v3 v2) (λ i=>⟨10,i,fo v3 (.i ((i:Nat):Int))*1⟩) 24) (by
  unfold xB
  exact ar (X4 (g3.bd f2) (.inr rfl)) λ v h=>ai ⟨rfl,h⟩) λ v9 ⟨a9,n9⟩=>?_
 refine br (λ c=>by rw[a9]at c;cases c) (λ _=>?_);have m9:v9.1.length<=24:=by rw[n9];exact Ad _ _ _
 refine aF (by unfold big;omega) ?_;refine wn<|aF om ?_;refine ar (P:=λ r=>r.2=0/\r.1=lnL 1 f.Released t.Released) (by
  unfold xC
  exact ar (Vk om om) λ v h=>ai ⟨rfl,h⟩) λ v10 ⟨a10,n10⟩=>?_
 refine br (λ c=>by rw[a10]at c;cases c) (λ _=>?_);have m10:=Ad (lnP 1 f.Released t.Released) (λ i=>⟨11,i,1⟩) f.Released.length;have e10:v10.1.length=(lnL 1 f.Released t.Released).length:=by rw[n10]
 have m10:v10.1.length<=4:=by rw[e10];unfold lnL;omega
 refine aF (by unfold big;omega) ?_;refine wn<|br (λ c=>by have c:=cG c;omega) (λ _=>?_);refine ai (.inr ⟨rfl,by dsimp only;simp only[aeU];omega,?_⟩);have hgu:∀ {U:apZ} {i:Nat},hG U i=true↔∃u∈U,u.cX.aZ=(i:Int):=by
  intro U i;unfold hG;rw[ai7];simp only[ajZ]
 have grp:∀ {U:apZ} {u:ah},sP b.aM (U.map ah.cX)->u∈U->∃i:Nat,i<24/\u.cX.aZ=(i:Int):=λ {U u} o hu=>by
  have w:=wN o u hu;have w1:=w.g0;have w2:=w.gl;exact⟨u.cX.aZ.toNat,om,om⟩
 have CLk:=λ k=>afH (b:=b) (ms:=ms) (n:=f.Released.length) x.rs gf.cl gt.cl om k;have CLj:=λ k=>afH (b:=b) (ms:=ms) (n:=f.Released.length) x.rs gt.cl gf.cl om k;have CPk:=λ k=>afI (b:=b) (ms:=ms) (n:=b.bw.length) x.dm gf.cp gt.cp rfl k;have CPj:=λ k=>afI (b:=b) (ms:=ms) (n:=b.bw.length) x.dm gt.cp gf.cp rfl k;have k1:=ac4 (P:=λ g=>kC b l ms g true 0) (put:=λ y=>{ f with Released:=y }) (K:=11) (n:=f.Released.length) (a:=f.Released) (c:=t.Released) rfl (λ y i hy hi=>.k11 (g:={ f with Released:=y }) (w:=⟨11,i,0⟩) rfl (by dsimp only;omega) (by dsimp only;omega) (air 0) (by dsimp only;omega)) (λ k=>yb x ⟨gf.cs,gf.cr,gf.cu,CLk k,gf.cp⟩);rw[show sel (λ i=>f.Released.getD i false&&!t.Released.getD i false) (λ i=>⟨11,i,0⟩) f.Released.length=lnL 0 f.Released t.Released from qc (λ i=>by unfold lnP;cases f.Released.getD i false<;>cases t.Released.getD i false<;>rfl) _,<- n4]at k1;obtain⟨U1,k2,u1,u2,u3⟩:=ac6 (b:=b) (l:=l) (ms:=ms) (P:=λ g=>kC b l ms g true 0) (ws:=v5.1) (g:={ f with Released:=Af f.Released t.Released 0 f.Released.length }) (λ y hy=>by
  rw[n5]at hy;obtain⟨i,i1,i2,rfl⟩:=NR hy;rw[Vo g2 g3 f1 f2,aeP,ahA]at i2;refine⟨rfl,Int.mul_zero _,by dsimp only;omega,λ u hu e hdv=>?_⟩;rw[hgu.2 ⟨u,(cf u hu).2 hdv,e⟩]at i2;cases i2.2) (NT b1.ow) gf.cu λ U hU=>yb x ⟨gf.cs,gf.cr,hU,CLk 0,gf.cp⟩
 have k3:=p6.ch (λ g=>kC b l ms g true 0) { f with Released:=Af f.Released t.Released 0 f.Released.length,Uses:=U1 } rfl λ r hr=>yb x ⟨gf.cs,hr,u1,CLk 0,gf.cp⟩;have k4:=x7 (λ g=>kC b l ms g true 0) { f with Released:=Af f.Released t.Released 0 f.Released.length,Uses:=U1,aY:=t.aY } rfl λ s hs=>yb x ⟨hs,gt.cr,u1,CLk 0,gf.cp⟩;have k5:=ac4 (P:=λ g=>kC b l ms g true 0) (put:=λ y=>{ f with Released:=Af f.Released t.Released 0 f.Released.length,Uses:=U1,aY:=t.aY,Setting:=t.Setting,bg:=y }) (K:=12) (n:=b.bw.length) (a:=f.bg) (c:=t.bg) om (λ y i hy hi=>.k12 (g:={ f with Released:=Af f.Released t.Released 0 f.Released.length,Uses:=U1,aY:=t.aY,Setting:=t.Setting,bg:=y }) (w:=⟨12,i,0⟩) rfl (by dsimp only;omega) (by dsimp only;omega) (air 0) (by dsimp only;omega)) (λ k=>yb x ⟨gt.cs,gt.cr,u1,CLk 0,CPk k⟩);have k6:=afF (P:=λ g=>kC b l ms g true 0) (put:=λ y=>{ f with Released:=Af f.Released t.Released 0 f.Released.length,Uses:=U1,aY:=t.aY,Setting:=t.Setting,bg:=y }) (K:=12) (n:=b.bw.length) (a:=f.bg) (c:=t.bg) om (λ y i hy hi=>.k12 (g:={ f with Released:=Af f.Released t.Released 0 f.Released.length,Uses:=U1,aY:=t.aY,Setting:=t.Setting,bg:=y }) (w:=⟨12,i,1⟩) rfl (by dsimp only;omega) (by dsimp only;omega) (by dsimp only;omega) (air 1)) (λ k=>yb x ⟨gt.cs,gt.cr,u1,CLk 0,CPj k⟩);have i9:∀ {i:Nat},i<24->ZC v3 v2 i=true->∃u∈t.Uses,u.cX.aZ=(i:Int)/\fo v3 (.i (i:Int))*1=u.cX.bD+1/\hG f.Uses i=false:=λ {i} hi i2=>by
  rw[Vo g3 g2 f2 f1,aeP,ahA]at i2;obtain⟨u,hu,e⟩:=hgu.1 i2.1;refine⟨u,hu,e,?_,i2.2⟩;have:=g3.to u hu;rw[e]at this;unfold fo;rw[this,Int.mul_one];rfl
 have i1:∀u∈U1,u.cX∈t.Uses.map ah.cX:=λ u hu=>by
  obtain⟨y1,y2⟩:=(u3 u).1 hu;obtain⟨i,hi,e⟩:=grp b1.ow y1;have hf1:hG f.Uses i=true:=hgu.2 ⟨u,y1,e⟩;cases ht1:hG t.Uses i with
  | false=>
   refine absurd e.symm (y2 ⟨10,i,fo v2 (.i ((i:Nat):Int))*0⟩ ?_);rw[n5];exact ac8 (w:=λ i=>⟨10,i,fo v2 (.i ((i:Nat):Int))*0⟩) hi (by rw[Vo g2 g3 f1 f2,hf1,ht1];rfl)
  | true=>
   obtain⟨w,hw,ew⟩:=hgu.1 ht1;have e1:w.cX.aZ=u.cX.aZ:=by omega
   have e2:=(cf u y1).1 w hw e1;refine aio.2 ⟨w,hw,?_⟩;obtain⟨_,⟨_,_⟩⟩:=w;obtain⟨_,⟨_,_⟩⟩:=u;dsimp only at e1 e2 ⊢;rw[e1,e2]
 obtain⟨U2,k7,u4,u5,u6⟩:=ae2 (b:=b) (l:=l) (ms:=ms) (P:=λ g=>kC b l ms g true 0) (V:=t.Uses.map ah.cX) b2.ow (ws:=v9.1) (g:={ f with Released:=Af f.Released t.Released 0 f.Released.length,Uses:=U1,aY:=t.aY,Setting:=t.Setting,bg:=t.bg }) (λ y hy=>by
  rw[n9]at hy;obtain⟨i,i1,i2,rfl⟩:=NR hy;obtain⟨u,hu,e,e2,e3⟩:=i9 i1 i2;have:=f2 u hu;refine⟨rfl,by dsimp only;omega,by dsimp only;omega,?_,λ w hw ew=>?_⟩
  ·dsimp only;rw[e2,apG,<- e];exact apw hu
  rw[hgu.2 ⟨w,((u3 w).1 hw).1,ew⟩]at e3;cases e3) (by rw[n9];exact aho (λ _=>rfl) _) u2 i1 u1 λ U hU=>yb x ⟨gt.cs,gt.cr,hU,CLk 0,gt.cp⟩
 have hcu:CU b l ms U2:=(PF (k7.last (yb x ⟨gt.cs,gt.cr,u1,CLk 0,gt.cp⟩))).2.cu;have k8:=afF (P:=λ g=>kC b l ms g true 0) (put:=λ y=>{ f with Released:=y,Uses:=U2,aY:=t.aY,Setting:=t.Setting,bg:=t.bg }) (K:=11) (n:=f.Released.length) (a:=f.Released) (c:=t.Released) om (λ y i hy hi=>.k11 (g:={ f with Released:=y,Uses:=U2,aY:=t.aY,Setting:=t.Setting,bg:=t.bg }) (w:=⟨11,i,1⟩) rfl (by dsimp only;omega) (by dsimp only;omega) (by dsimp only;omega) (air 1)) (λ k=>yb x ⟨gt.cs,gt.cr,hcu,CLj k,gt.cp⟩);rw[show sel (λ i=>t.Released.getD i false&&!f.Released.getD i false) (λ i=>⟨11,i,1⟩) f.Released.length=lnL 1 f.Released t.Released from qc (λ i=>by unfold lnP;cases f.Released.getD i false<;>cases t.Released.getD i false<;>rfl) _,<- n10]at k8;refine⟨_,(((((k1.app k2).app k3).app k4).app (by rw[n8];exact k5.app k6)).app k7).app k8,⟨rfl,rfl,rfl,rfl,rfl,?_⟩⟩;refine(List.perm_ext_iff_of_nodup (afJ (ss.1 u4)) (afJ (SW b2.ow))).2 λ v=>⟨λ hv=>?_,λ hv=>u6 v ?_⟩
 ·obtain⟨u,hu,rfl⟩:=aio.1 hv;exact u5 u hu
 obtain⟨u,hu,rfl⟩:=aio.1 hv;obtain⟨i,hi,e⟩:=grp b2.ow hu;have ht1:hG t.Uses i=true:=hgu.2 ⟨u,hu,e⟩;cases hf1:hG f.Uses i with
 | true=>
  obtain⟨w,hw,ew⟩:=hgu.1 hf1;have e1:u.cX.aZ=w.cX.aZ:=by omega
  have e2:=(cf w hw).1 u hu e1;refine .inl (aio.2 ⟨w,(u3 w).2 ⟨hw,λ y hy q=>?_⟩,?_⟩)
  ·rw[n5]at hy;obtain⟨j,_,j2,rfl⟩:=NR hy;rw[Vo g2 g3 f1 f2,show j=i by dsimp only at q;omega,hf1,ht1]at j2;cases j2
  obtain⟨_,⟨_,_⟩⟩:=w;obtain⟨_,⟨_,_⟩⟩:=u;dsimp only at e1 e2 ⊢;rw[e1,e2]
 | false=>
  have hp:ZC v3 v2 i=true:=by rw[Vo g3 g2 f2 f1,hf1,ht1];rfl
  refine .inr ⟨_,by rw[n9];exact ac8 hi hp,?_⟩;have:=g3.to u hu;rw[e]at this;unfold fo;rw[this];obtain⟨_,⟨_,_⟩⟩:=u;dsimp only at e ⊢;rw[e,Int.mul_one];show _=ee.mk _ (_+1 - 1);rw[apG]
def yc {l:apU} (h:l.length<=2000000):W (slices_Equal_int l l) (λ r=>r=true):=by
 unfold slices_Equal_int;refine br (λ c1=>by simp at c1) (λ _=>?_);refine bu (λ g1:Int=>0<=g1/\g1<=l.length) (λ g1=>(l.length - g1).toNat) ?_ ⟨ob,ob⟩;intro ab g1 ⟨a1,a2⟩ ih1;unfold vD;refine br (λ c2=>?_) (λ _=>ai rfl);have c2:=cG c2;refine wm<|br (λ c3=>by simp at c3) (λ _=>?_);refine wn ?_;exact ih1 _ ⟨ob,ob⟩ ob
def oF {l:apV} (h:l.length<=2000000):W (iS l l) (λ r=>r=true):=by
 unfold iS;refine br (λ c1=>by simp at c1) (λ _=>?_);refine bu (λ g1:Int=>0<=g1/\g1<=l.length) (λ g1=>(l.length - g1).toNat) ?_ ⟨ob,ob⟩;intro ab g1 ⟨a1,a2⟩ ih1;unfold uz;refine br (λ c2=>?_) (λ _=>ai rfl);have c2:=cG c2;refine wm<|br (λ c3=>by simp at c3) (λ _=>?_);refine wn ?_;exact ih1 _ ⟨ob,ob⟩ ob
def DR {a b:apZ} (ha:a.length<=2000000) (hb:b.length<=2000000) (h:∀u∈a,u.cX∈b.map ah.cX):W (oW a b) (λ r=>r=true):=by
 unfold oW;refine bu (λ g1:Int×(cj->Option Int)=>0<=g1.1/\g1.1<=b.length/\∀u∈b.take g1.1.toNat,fo g1.2 (.p u.cX.aZ u.cX.bD)=1) (λ g1=>(b.length - g1.1).toNat) ?_ ⟨ob,ob,by simp⟩;intro ab g1 ⟨a1,a2,a3⟩ ih1;unfold AE;refine wi ?_ ?_<;>intro c1
 ·refine wm<|ih1 _ ⟨ob,ob,λ u hu=>?_⟩ ob;dsimp only at hu ⊢;have hlt:g1.1.toNat<b.length:=by omega
  rw[show(g1.1+1).toNat=g1.1.toNat+1 by omega,alV,aeA hlt]at hu;unfold fo te;by_cases e:(cj.p u.cX.aZ u.cX.bD)=cj.p ((b.getD g1.1.toNat aL).cX).aZ ((b.getD g1.1.toNat aL).cX).bD
  ·rw[afc e];rfl
  rw[aeV e];rcases ahL.1 hu with q | q
  ·exact a3 u q
  simp at q;refine absurd ?_ e;rw[q,ad7,aeA hlt];rfl
 rw[ahH om]at a3;unfold ja iZ;refine ar (m:=bnd _ _) (P:=λ r=>r=false) (ar (P:=λ r=>r = -1) ?_ λ v hv=>ai (by rw[hv];rfl)) λ v hv=>ai (by rw[hv];rfl);refine bu (λ g2:Int=>0<=g2/\g2<=a.length) (λ g2=>(a.length - g2).toNat) ?_ ⟨ob,ob⟩;intro cy g2 ⟨b1,b2⟩ ih2;unfold kz;refine br (λ c2=>?_) (λ _=>ai rfl);have c2:=cG c2;refine wn ?_;have hm:=h _ (getD_in (i:=g2.toNat) aL om);obtain⟨y,hy,ey⟩:=aio.1 hm;have hy1:=a3 y hy;refine ar (m:=vg _ _) (P:=λ r=>r=false) (ai (by dsimp only;rw[<- ey,hy1];rfl)) λ v3 hv3=>?_;subst hv3;refine br (λ c=>by cases c) (λ _=>?_);refine wn ?_;exact ih2 _ ⟨ob,ob⟩ ob
def DT {x y:ak} (e:Ta x y) (h1:ka x) (h2:ka y):W (ko x y) (λ r=>r=true):=by
 obtain⟨e1,e2,e3,e4,e5,e6⟩:=e;have hl:x.Uses.length=y.Uses.length:=by simpa using e6.length_eq
 have s1:=h1.st;have s2:=h1.on;have s3:=h1.lv;have s4:=h1.us;have s5:=h1.re;have s6:=h1.po;have s7:=h2.us;unfold ko zQ;rw[<- e1,<- e2,<- e3,<- e4,<- e5];refine ar (yc s1) λ v1 hv1=>?_;subst hv1;refine ar (lp (P:=λ r=>r=true) λ _=>ar (oF s2) λ v hv=>ar (lp (P:=λ r=>r=true) λ _=>yc s3) λ w hw=>ai (by rw[hw hv,hv];rfl)) λ v2 hv2=>?_;have:=hv2 rfl;subst this;refine ar (lp (P:=λ r=>r=true) λ _=>oF s5) λ v3 hv3=>?_;have:=hv3 rfl;subst this;refine ar (lp (P:=λ r=>r=true) λ _=>oF s6) λ v4 hv4=>?_;have:=hv4 rfl;subst this;refine br (λ c=>?_) (λ _=>?_)
 ·rw[hl]at c;simp at c
 refine ar (DR s4 s7 λ u hu=>e6.mem_iff.1 (aio.2 ⟨u,hu,rfl⟩)) λ v5 hv5=>?_;subst hv5;refine ar (lp (P:=λ r=>r=true) λ _=>DR s7 s4 λ u hu=>e6.mem_iff.2 (aio.2 ⟨u,hu,rfl⟩)) λ v6 hv6=>?_;exact ai (by rw[hv6 rfl];rfl)
def S6 {i:Int} {o:apZ} (h1:0<=i) (h3:i+1<=n) (hn:n<=o.length) (h4:o.length<=2000000):W (gI n i (i+1) o) (λ r=>r.1+1=n/\r.2.length=o.length/\r.2.take r.1=(o.take n).eraseIdx i.toNat):=by
 unfold gI;refine aF hn ?_;refine aF om ?_;refine br (λ c=>absurd (ajZ.1 c) om) (λ _=>?_);refine aF om ?_;refine aF om ?_;refine aF om ?_;refine aF om ?_;exact ai ⟨by dsimp only;omega,by simp only[dO],del_eq ⟨h1,rfl⟩ h3 hn om rfl⟩
theorem Vq {w:aw} {cl:apY} {su:ap1} {pn:Int} {gr:aqi} {rs:ap7} {dm:ap8} {nd:apW} {mb:apU} {bt:Bool} {o1 o3:apU} {o2 o5 o6:apV} {o4:apZ} {g1:ak} (hn:n<=o4.length) (hz:o4.length<=2000000) (a:PW ⟨o1,⟨o2,o3⟩,o4.take n,o5,o6⟩ w g1):
  W (rJ w cl su pn gr rs dm nd mb n bt o1 o2 o3 o4 o5 o6) (λ r=>r.1=true/\(⟨r.2.2.1,⟨r.2.2.2.1,r.2.2.2.2.1⟩,r.2.2.2.2.2.2.2.take r.2.1,r.2.2.2.2.2.1,r.2.2.2.2.2.2.1⟩:ak)=g1/\r.2.2.1.length=o1.length/\r.2.2.2.1.length=o2.length/\r.2.2.2.2.1.length=o3.length/\r.2.2.2.2.2.1.length=o5.length/\r.2.2.2.2.2.2.1.length=o6.length/\r.2.1<=r.2.2.2.2.2.2.2.length/\r.2.2.2.2.2.2.2.length<=o4.length+1):=by
 unfold rJ;refine aF hn ?_;cases a with
 | k1 k u0 u1 v0=>
  rw[afe (show ¬w.Value<0 by omega),k];refine ar pD λ v hv=>?_;rw[pf ⟨u0,u1⟩]at hv;subst hv;exact aF (afx ..) (ai ⟨rfl,rfl,afx .., rfl,rfl,rfl,rfl,hn,by dsimp only;omega⟩)
 | k2 k u0 u1 v0=>
  rw[afe (show ¬w.Value<0 by omega),k];refine ar pD λ v hv=>?_;rw[pf ⟨u0,u1⟩]at hv;subst hv;exact aF (afx ..) (ai ⟨rfl,rfl,rfl,rfl,afx .., rfl,rfl,hn,by dsimp only;omega⟩)
 | k3 k u0 u1 v0 v1=>
  rw[afe (show ¬w.Value<0 by omega),k,afl v1];refine ar js λ v hv=>?_;rw[pf ⟨u0,u1⟩]at hv;subst hv;exact aF (afx ..) (ai ⟨rfl,rfl,rfl,afx .., rfl,rfl,rfl,hn,by dsimp only;omega⟩)
 | k11 k u0 u1 v0 v1=>
  rw[afe (show ¬w.Value<0 by omega),k,afl v1];refine ar js λ v hv=>?_;rw[pf ⟨u0,u1⟩]at hv;subst hv;exact aF (afx ..) (ai ⟨rfl,rfl,rfl,rfl,rfl,afx .., rfl,hn,by dsimp only;omega⟩)
 | k12 k u0 u1 v0 v1=>
  rw[afe (show ¬w.Value<0 by omega),k,afl v1];refine ar js λ v hv=>?_;rw[pf ⟨u0,u1⟩]at hv;subst hv;exact aF (afx ..) (ai ⟨rfl,rfl,rfl,rfl,rfl,rfl,afx .., hn,by dsimp only;omega⟩)
 | k10 k u0 u1 v0=>
  rw[afe (show ¬w.Value<0 by omega),k];have k20:∀ {m:Nat} {o:apZ},m<=o.length->o.length<=o4.length->o.take m=iO w.Unit (o4.take n)->W (jy w o1 o2 o3 o5 o6 (m,o)) (λ r=>r.1=true/\(⟨r.2.2.1,⟨r.2.2.2.1,r.2.2.2.2.1⟩,r.2.2.2.2.2.2.2.take r.2.1,r.2.2.2.2.2.1,r.2.2.2.2.2.2.1⟩:ak)=⟨o1,⟨o2,o3⟩,nB w.Unit w.Value (iO w.Unit (o4.take n)),o5,o6⟩/\r.2.2.1.length=o1.length/\r.2.2.2.1.length=o2.length/\r.2.2.2.2.1.length=o3.length/\r.2.2.2.2.2.1.length=o5.length/\r.2.2.2.2.2.2.1.length=o6.length/\r.2.1<=r.2.2.2.2.2.2.2.length/\r.2.2.2.2.2.2.2.length<=o4.length+1):=by
   intro m o hm ho he;unfold jy;refine aF hm ?_;apply br<;>intro c
   ·refine aF (by unfold av;have c:=cG c;omega) ?_;refine aF (by unfold big;dsimp only;omega) ?_;refine ai ⟨rfl,?_,rfl,rfl,rfl,rfl,rfl,?_,?_⟩
    ·dsimp only;rw[ahH (by rw[aeU,afs,afT];omega),he];unfold nB;rw[c];rfl
    ·dsimp only;rw[aeU,afs,afT];omega
    dsimp only;rw[aeU,afs,afT];omega
   refine ai ⟨rfl,?_,rfl,rfl,rfl,rfl,rfl,hm,by dsimp only;omega⟩;dsimp only;rw[he];unfold nB;rw[c];rfl
  refine ar jA λ v hv=>?_;rw[afl u0,afl u1]at hv;subst hv;refine br (λ c=>by cases c) (λ _=>?_);refine ar (mN (by rw[afs];omega)) λ v9 Lj=>?_;subst v9;apply br<;>intro c
  ·have c:=cG c;have hl:=Sv c;rw[afs]at hl;refine aF (by unfold av;omega) ?_;refine ar (S6 c om hn hz) λ v10 ⟨y1,y2,y3⟩=>?_;refine aF om ?_;exact k20 om om (by rw[y3];unfold iO;rw[afl c];rfl)
  exact k20 hn (afM _) (by unfold iO;rw[c];rfl)
def Yg {bt:Bool} (h:kC b l ms g bt 0):jr b l 0/\qN l ms/\Nb b l ms g bt 0:=by
 obtain⟨h1,h⟩:=cV (by decide) h;exact⟨ahR.1 h1,(ahR.1 (cV (by decide) h).1).1,h⟩
theorem PI (h1:xQ b) (h2:Ck l) (h3:ms.length<=10000) (h4:ka g) (h5:g.Uses.length<=100000) (h6:ws.length<=100000) (h8:∀g∈b.aM.ax,g.bH.length<=2000000/\g.aj.length<=2000000) (p:kC b l ms g true 0) (a:G3 (λ g=>kC b l ms g true 0) g ws h):
  W (yW b l ms g ws) (λ r=>r=(h,(ws.length:Int),0,0)/\ka h):=by
 obtain⟨hn,hd,hs⟩:=Yg p;obtain⟨n1,n2,n3⟩:=sm hn;have hsc:∀g:ak,ka g->Pb (⟨b,l,ms,g,true⟩:dN):=λ g hg=>⟨h1,n1,n2,n3,h2,h3,hg⟩
 obtain⟨z1,z2,z3,z4,z5,z6⟩:=id h4;have hl2:=h2.len;unfold yW;refine ar (z8 h1 h8 h2) λ v1 hv1=>?_;have e:=jr.fun _ _ hv1 hn;subst e;refine br (λ c=>by cases c) (λ _=>?_);refine ar (xY hl2 om) λ v2 hv2=>?_;have e:=hv2.2 hd;subst e;refine br (λ c=>by cases c) (λ _=>?_);refine ar (zn h4) λ v3 hv3=>?_;subst v3;refine ar (mE (hsc _ h4) h8) λ v4 hv4=>?_;have e:=Nb.fun _ _ hv4 hs;subst e;refine br (λ c=>by cases c) (λ _=>?_);refine bu (λ g1:(Int×Nat×apU×apV×apU×apZ×apV×apV)=>0<=g1.1/\g1.1<=ws.length/\g1.2.1<=g1.2.2.2.2.2.1.length/\g1.2.2.2.2.2.1.length<=100000+g1.1.toNat/\ka ⟨g1.2.2.1,⟨g1.2.2.2.1,g1.2.2.2.2.1⟩,g1.2.2.2.2.2.1.take g1.2.1,g1.2.2.2.2.2.2.1,g1.2.2.2.2.2.2.2⟩/\
  G3 (λ g=>kC b l ms g true 0) ⟨g1.2.2.1,⟨g1.2.2.2.1,g1.2.2.2.2.1⟩,g1.2.2.2.2.2.1.take g1.2.1,g1.2.2.2.2.2.2.1,g1.2.2.2.2.2.2.2⟩ (ws.drop g1.1.toNat) h) (λ g1=>(ws.length - g1.1).toNat) ?_ ⟨ob,ob,afM _,by dsimp only;omega,by dsimp only;rw[agt];exact h4,by dsimp only;rw[agt];exact a⟩
 intro ab g1 ⟨a1,a2,a3,a4,a5,a6⟩ ih1;unfold C4;refine aF a3 ?_;refine wi ?_ ?_<;>intro c1
 ·have hlt:g1.1.toNat<ws.length:=by omega
  have ei:(g1.1+1).toNat=g1.1.toNat+1:=by omega
  rw[drop_cons bR hlt]at a6;cases a6 with
  | @cons _ s1 _ _ _ w1 p1 w2=>
   refine aF om ?_;refine ar (Vq a3 om w1) λ v9 ⟨y1,y2,y3,y4,y5,y6,y7,y8,y9⟩=>?_;refine aF ⟨y3,y4,y5,y6,y7,y8⟩ ?_;rw[y1];refine br (λ c=>by cases c) (λ _=>?_);have hgs:ka s1:=by
    rw[<- y2];exact⟨by dsimp only;rw[y3];exact a5.st,by dsimp only;rw[y4];exact a5.on,by dsimp only;rw[y5];exact a5.lv,by dsimp only;rw[afs];omega,by dsimp only;rw[y6];exact a5.re,by dsimp only;rw[y7];exact a5.po⟩
   rw[y2];refine ar (mE (hsc _ hgs) h8) λ v10 tB=>?_;have e:=Nb.fun _ _ tB (Yg p1).2.2;subst e;refine br (λ c=>by cases c) (λ _=>?_);refine wn ?_;exact ih1 _ ⟨ob,ob,y8,by dsimp only;omega,by dsimp only;rw[y2];exact hgs,by dsimp only;rw[y2,ei];exact w2⟩ ob
 rw[show g1.1.toNat=ws.length by omega,ai8]at a6;cases a6;exact ai ⟨rfl,a5⟩
def Yh (h:kC b l ms g true 0):brX b l ms g=0:=(SY (A:=Nb b l ms g true) Nb.fun (Yg h).2.2).symm
def afL (p:kC b l ms g true 0) (a:G3 (λ g=>kC b l ms g true 0) g ws h):Gh b l ms g ws=(h,(ws.length:Int),0,0):=by
 have key:∀i:Int,trX b l ms ws i g=(h,i+ws.length,0,0):=by
  clear p;induction a with
  | nil g=>intro i;unfold trX;rw[ajE];simp
  | @cons g g1 h w ws a p b ih=>
   intro i;rw[trX,SP a];dsimp only;rw[Yh p];simp only[aj1,ags];rw[show((0:Int) != 0)=false from rfl,ags,ih,ahP];congr 2;omega
 obtain⟨hn,hd,hs⟩:=Yg p;unfold Gh;rw[show ndX b l=0 from(SY jr.fun hn).symm,show dfX l ms=true from(afD (r:=true) ⟨λ _=>hd,λ _=>rfl⟩).symm,Yh p,key 0,Int.zero_add];rfl
def Yi (a:W7 g ws h):∀x∈ws,x.Value<=9223372036854775807:=by
 induction a with
 | nil=>intro x hx;cases hx
 | cons a _ ih=>
  intro x hx;rcases ah0.1 hx with q | q
  ·rw[q];exact acJ a
  exact ih x q
def ae4 {m:apU} (hm:m.length<=10000) (hr:∀x∈m,0<=x/\x<l.length):W (Ca l m) (λ r=>r=m.filter λ i=>((l.getD i.toNat bb).aj.length:Int)==0):=by
 unfold Ca;refine bu (λ g:Int×apU=>0<=g.1/\g.1<=m.length/\g.2=(m.take g.1.toNat).filter λ i=>((l.getD i.toNat bb).aj.length:Int)==0) (λ g=>(m.length - g.1).toNat) ?_ ⟨ob,ob,rfl⟩;intro self g ⟨a1,a2,a3⟩ ih;unfold H6;refine wi ?_ ?_<;>intro c1
 ·have hlt:g.1.toNat<m.length:=by omega
  have hx:=hr _ (getD_in 0 hlt);have ei:(g.1+1).toNat=g.1.toNat+1:=by omega
  have ef:=Be (λ i=>((l.getD i.toNat bb).aj.length:Int)==0) m 0 hlt;rw[<- a3]at ef;have hl:g.2.length<=10000:=by rw[a3];refine af3 (aj8 _ _) ?_;rw[afs];omega
  refine aF om ?_;refine aF hx ?_;apply br<;>intro c2
  ·refine aF (by unfold big;omega) ?_;refine wn ?_;exact ih _ ⟨ob,ob,by dsimp only;rw[ei,ef,afc c2]⟩ ob
  refine wn ?_;exact ih _ ⟨ob,ob,by dsimp only;rw[ei,ef,aeV (by rw[c2];decide),aiN]⟩ ob
 rw[ahH om]at a3;exact ai a3
def ZG {r s:aK} (h1:r.On=s.On) (h2:r.aT=s.aT):r=s:=by
 cases r;cases s;cases h1;cases h2;rfl
def ac9 {ls:apU} {k:ak} (hs:SmN l) (hl:ms.length<=30) (hm:ls.Sublist ms) (hf:∀m∈ls,(l.getD m.toNat bb).aj=[]) (p:kC b l ms g true 0) (e:Ta k g) (hd:DvB l.length k):kC b l ls k true 0:=by
 obtain⟨x,c1,c2,c3,c4,c5⟩:=PF (SN p hs hl hm);obtain⟨e1,e2,e3,e4,e5,e6⟩:=e;refine yb x ⟨by rw[e1];exact c1,by rw[ZG e2 e3];exact c2,⟨hd,S5 c3.2.1 ?_ λ u hu=>e6.mem_iff.1 hu,λ i hi f=>?_⟩,by rw[e4];exact c4,by rw[e5];exact c5⟩
 ·exact((e6.map ee.aZ).nodup_iff).2 (SW c3.2.1)
 rw[hf _ (getD_in 0 om)];exact ahU _
def S7 {l:apU}:W (GO l) (λ r=>r.1.length<=600/\r.2=0):=by
 unfold GO;refine aF (by split<;>omega) (ai ⟨?_,rfl⟩);dsimp only;rw[afs];split<;>omega
def Vr (hs:ka g) (hg:SO g) (hu:g.Uses.length<=1000) (hw:ws.length<=1000) (a:W7 g ws h):W (rH b g ws (-1)) (λ r=>r.2.2=0/\r.1=h/\ka h):=by
 unfold rH;refine ar (vO hs hg om om a) λ v1 ⟨e1,z1,_⟩=>?_;subst e1;refine br (λ c=>by cases c) (λ _=>?_);exact br (λ _=>ai ⟨rfl,rfl,z1⟩) (λ c=>by cases c)
def Hi {t:apU}:W (rS t) (λ r=>r=true):=by
 unfold rS;refine br (λ _=>ar (sJ pE) λ _ h=>ai h) (λ _=>?_);refine ar (S7) λ v2 ⟨k1,k2⟩=>?_;refine ar (PA (by dsimp only;omega) k1) λ v3 hv3=>?_;obtain⟨w1,w2,w3,w4,w5,w6,w7,w8,w9⟩:=hv3;have hns:Ck v3.2.1:=⟨om,λ n hn=>by have a:=(w3 n hn).rs.1;have c:=(w3 n hn).pr.1;omega⟩;refine br (λ _=>ar (sJ pE) λ _ h=>ai h) (λ c0=>?_);obtain⟨hd,q1,q2⟩:=w9 (by simpa using c0);have hnl:ahI v3.2.1:=⟨λ n hn=>(w3 n hn).lm.1,λ n hn=>by have:=(w3 n hn).dw.1;omega⟩;have hsm:SmN v3.2.1:=λ x hx=>⟨(w3 x hx).lm.1,(w3 x hx).dw.1,(w3 x hx).fw.1⟩
 have h1:=ach w1;have h2:ZP v3.1.aM:=λ g hg=>by have:=w1.gr g hg;omega
 have hr:=Yb hd;refine ar (ae3 w1 hns om w4 w5 om om hnl hd q1 q2) λ v5 hv5=>?_;apply br<;>intro c
 ·have e:((v5.1==(9:Int))||(v5.1==(8:Int)))=true:=by
   rcases hv5 with(e | e) | e
   ·rw[e];rfl
   ·rw[e];rfl
   rw[e.1]at c;cases c
  rw[e];exact ar (lp λ _=>sJ pE) λ v hv=>ai (by rw[hv rfl];rfl)
 obtain⟨_,p1,h,p2,p3⟩:=hv5.elim (λ e=>by rcases e with e | e<;>rw[e]at c<;>cases c) id;obtain⟨x,cf⟩:=PF q1;have qf:=yb x cf;unfold oX;refine ar (P:=λ r=>r=true) (ar (PI h1 hns om w4 om om h2 qf p2) λ v1 ⟨e1,z1⟩=>?_) λ v15 MS=>?_
 ·subst e1;refine ar (lp λ _=>DT p3 z1 w5) λ v hv=>ai ?_;rw[hv rfl];rfl
 subst MS;refine br (λ c=>by cases c) (λ _=>?_);unfold mB vk;have hg:=aeS.gd w1 (SV q1);refine ar (Gi h1 hns om w4 om om (Yi p2.apl) h2) λ v8 wJ=>?_;rw[afL qf p2]at wJ;subst v8;refine ar (P:=λ r=>r=(ya v3.2.2.1 v5.2,(0:Int))/\ka h/\h.Uses.length<=v3.2.2.1.Uses.length+v5.2.length) (ar (vO w4 hg om om p2.apl) λ v ⟨e,z⟩=>ai ⟨by rw[e],z⟩) λ v9 ⟨e9,z1,z2⟩=>?_;subst e9;refine ar (ae4 om hr) λ v10 tB=>?_;subst tB;have hl:=acH v5.2 v3.2.2.1;obtain⟨k,y1,y2,y3⟩:=aeW (Q:=λ g=>kC v3.1 v3.2.1 (v3.2.2.2.2.1.filter λ i=>((v3.2.1.getD i.toNat bb).aj.length:Int)==0) g true 0) (n:=v3.2.1.length) (λ g k p e d=>ac9 hsm om (aoM) (λ m hm=>by
  have:=(ajK.1 hm).2;exact alU.1 (by have:=eq_of_beq this;omega)) p e d) hg cf.cu.1 p2 qf
 have hgh:=hg.apL p2.apl;have hlf:=aj8 (λ i=>((v3.2.1.getD i.toNat bb).aj.length:Int)==0) v3.2.2.2.2.1;have qh:kC v3.1 v3.2.1 (v3.2.2.2.2.1.filter λ i=>((v3.2.1.getD i.toNat bb).aj.length:Int)==0) h true 0:=SN (p2.last qf) hsm om aoM;refine ar (Gi h1 hns om z1 (by dsimp only;omega) (by dsimp only;omega) (Yi y1.apl) h2) λ v11 UU=>?_;dsimp only at UU;rw[afL qh y1]at UU;subst v11;refine ar (Vr z1 hgh (by dsimp only;omega) (by dsimp only;omega) y1.apl) λ v12 ⟨x1,x2,x3⟩=>?_;rw[x1,x2];have ec:((((((((((0:Int)==0)&&((0:Int)==0))&&((0:Int)==0))&&((0:Int)==0))&&((v5.2.length:Int)==(v5.2.length:Int)))&&((0:Int)==0))&&((((ya v3.2.2.1 v5.2).length:Nat):Int)==(v5.2.length:Int)))&&(((ya v3.2.2.1 v5.2).length:Int)==(((ya v3.2.2.1 v5.2).length:Nat):Int)))&&((0:Int)==0))=true:=by rw[hl];simp
 rw[ec];refine ar (lp λ _=>DT y2 x3 w4) λ v13 D1=>?_;rw[D1 rfl];exact ar (lp λ _=>sJ pE) λ v hv=>ai (by rw[hv rfl];rfl)
abbrev aqu:ZK:=.int .i64
def cfg:qX where
 ty:=[(3,⟨1,false,8,[aqu],(.int .i64)⟩),
 (4,⟨1,false,1,[.bool],.bool⟩),
 (5,⟨1,false,1,[(.int .u8)],(.int .u8)⟩),
 (9,⟨1,false,16,[.str],.str⟩),
 (22,⟨1,false,24,[.slice],(.slice 3)⟩),
 (24,⟨1,false,8,[.ptr],(.pointer 75)⟩),
 (26,⟨1,false,24,[.slice],(.slice 188)⟩),
 (27,⟨1,false,24,[.slice],(.slice 190)⟩),
 (28,⟨1,false,24,[.slice],(.slice 133)⟩),
 (29,⟨2,true,32,[aqu,.slice],(.struct [(0,3),(1,28)])⟩),
 (30,⟨2,true,32,[aqu,.slice],(.struct [(0,3),(1,28)])⟩),
 (31,⟨1,false,24,[.slice],(.slice 67)⟩),
 (32,⟨1,false,24,[.slice],(.slice 195)⟩),
 (33,⟨6,true,128,[.slice,.slice,aqu,.slice,.slice,.slice],(.struct [(0,26),(1,27),(2,30),(4,31),(5,32)])⟩),
 (34,⟨6,true,128,[.slice,.slice,aqu,.slice,.slice,.slice],(.struct [(0,26),(1,27),(2,30),(4,31),(5,32)])⟩),
 (35,⟨1,false,24,[.slice],(.slice 72)⟩),
 (36,⟨1,false,24,[.slice],(.slice 4)⟩),
 (37,⟨2,true,48,[.slice,.slice],(.struct [(0,36),(1,22)])⟩),
 (38,⟨2,true,48,[.slice,.slice],(.struct [(0,36),(1,22)])⟩),
 (39,⟨1,false,24,[.slice],(.slice 65)⟩),
 (40,⟨6,true,144,[.slice,.slice,.slice,.slice,.slice,.slice],(.struct [(0,22),(1,38),(3,39),(4,36),(5,36)])⟩),
 (41,⟨6,true,144,[.slice,.slice,.slice,.slice,.slice,.slice],(.struct [(0,22),(1,38),(3,39),(4,36),(5,36)])⟩),
 (44,⟨1,false,24,[.slice],(.slice 59)⟩),
 (45,⟨1,false,8,[aqu],(.int .i64)⟩),
 (58,⟨3,true,24,[aqu,aqu,aqu],(.struct [(0,3),(1,3),(2,3)])⟩),
 (59,⟨3,true,24,[aqu,aqu,aqu],(.struct [(0,3),(1,3),(2,3)])⟩),
 (62,⟨2,true,16,[aqu,aqu],(.struct [(0,3),(1,3)])⟩),
 (63,⟨2,true,16,[aqu,aqu],(.struct [(0,3),(1,3)])⟩),
 (64,⟨3,true,24,[aqu,aqu,aqu],(.struct [(0,3),(1,63)])⟩),
 (65,⟨3,true,24,[aqu,aqu,aqu],(.struct [(0,3),(1,63)])⟩),
 (66,⟨1,true,24,[.slice],(.struct [(0,22)])⟩),
 (67,⟨1,true,24,[.slice],(.struct [(0,22)])⟩),
 (68,⟨1,false,24,[.slice],(.slice 117)⟩),
 (69,⟨1,false,24,[.slice],(.slice 120)⟩),
 (70,⟨1,false,24,[.slice],(.slice 9)⟩),
 (71,⟨6,true,128,[.slice,.slice,.slice,.slice,aqu,.slice],(.struct [(0,68),(1,69),(2,70),(3,22),(4,3),(5,22)])⟩),
 (72,⟨6,true,128,[.slice,.slice,.slice,.slice,aqu,.slice],(.struct [(0,68),(1,69),(2,70),(3,22),(4,3),(5,22)])⟩),
 (74,⟨2,true,32,[.slice,aqu],(.struct [(0,22),(1,3)])⟩),
 (75,⟨2,true,32,[.slice,aqu],(.struct [(0,22),(1,3)])⟩),
 (86,⟨1,false,8,[.other],(.map 3 3)⟩),
 (89,⟨1,false,8,[.other],.other⟩),
 (90,⟨1,false,8,[.other],.other⟩),
 (91,⟨1,false,8,[.other],.other⟩),
 (97,⟨1,false,24,[.slice],(.slice 91)⟩),
 (116,⟨3,true,24,[aqu,aqu,aqu],(.struct [(0,3),(1,3),(2,3)])⟩),
 (117,⟨3,true,24,[aqu,aqu,aqu],(.struct [(0,3),(1,3),(2,3)])⟩),
 (119,⟨4,true,32,[aqu,aqu,aqu,aqu],(.struct [(0,3),(1,3),(2,3),(3,3)])⟩),
 (120,⟨4,true,32,[aqu,aqu,aqu,aqu],(.struct [(0,3),(1,3),(2,3),(3,3)])⟩),
 (132,⟨3,true,64,[.str,.slice,.slice],(.struct [(0,9),(1,22),(2,70)])⟩),
 (133,⟨3,true,64,[.str,.slice,.slice],(.struct [(0,9),(1,22),(2,70)])⟩),
 (140,⟨1,false,8,[.ptr],(.pointer 143)⟩),
 (142,⟨3,true,72,[.slice,.slice,.slice],(.struct [(0,38),(2,44)])⟩),
 (143,⟨3,true,72,[.slice,.slice,.slice],(.struct [(0,38),(2,44)])⟩),
 (147,⟨1,false,8,[.other],.other⟩),
 (148,⟨1,false,8,[.other],(.map 3 4)⟩),
 (149,⟨3,true,56,[.slice,.slice,.other],(.struct [(0,26),(1,68),(2,148)])⟩),
 (150,⟨3,true,56,[.slice,.slice,.other],(.struct [(0,26),(1,68),(2,148)])⟩),
 (156,⟨1,false,8,[.other],.other⟩),
 (158,⟨1,false,8,[.other],.other⟩),
 (161,⟨15,true,328,[.slice,.slice,aqu,.slice,.slice,.slice,.slice,.slice,.slice,.slice,.slice,.slice,.slice,.slice,.bool],(.struct [(0,34),(6,35),(7,22),(8,41),(14,4)])⟩),
 (162,⟨15,true,328,[.slice,.slice,aqu,.slice,.slice,.slice,.slice,.slice,.slice,.slice,.slice,.slice,.slice,.slice,.bool],(.struct [(0,34),(6,35),(7,22),(8,41),(14,4)])⟩),
 (165,⟨1,false,8,[.ptr],(.pointer 41)⟩),
 (172,⟨1,false,24,[.slice],(.slice 63)⟩),
 (177,⟨1,false,8,[.other],(.map 63 4)⟩),
 (179,⟨1,false,8,[.other],.other⟩),
 (187,⟨5,true,72,[aqu,.slice,.slice,aqu,aqu],(.struct [(0,3),(1,22),(2,22),(3,3),(4,3)])⟩),
 (188,⟨5,true,72,[aqu,.slice,.slice,aqu,aqu],(.struct [(0,3),(1,22),(2,22),(3,3),(4,3)])⟩),
 (189,⟨5,true,56,[aqu,.slice,aqu,aqu,.bool],(.struct [(0,3),(1,22),(2,3),(3,3),(4,4)])⟩),
 (190,⟨5,true,56,[aqu,.slice,aqu,aqu,.bool],(.struct [(0,3),(1,22),(2,3),(3,3),(4,4)])⟩),
 (191,⟨1,false,24,[.slice],(.slice 22)⟩),
 (192,⟨1,false,24,[.slice],(.slice 5)⟩),
 (194,⟨2,true,16,[aqu,.bool],(.struct [(0,3),(1,4)])⟩),
 (195,⟨2,true,16,[aqu,.bool],(.struct [(0,3),(1,4)])⟩),
 (210,⟨1,false,24,[.slice],(.slice 38)⟩),
 (212,⟨1,false,8,[.other],.other⟩),
 (215,⟨1,false,8,[.other],.other⟩),
 (224,⟨1,false,8,[.other],.other⟩),
 (226,⟨1,false,8,[.other],.other⟩),
 (227,⟨1,false,24,[.slice],(.slice 226)⟩),
 (235,⟨1,false,24,[.slice],(.slice 240)⟩),
 (239,⟨2,true,16,[aqu,aqu],(.struct [(0,3),(1,3)])⟩),
 (240,⟨2,true,16,[aqu,aqu],(.struct [(0,3),(1,3)])⟩),
 (256,⟨1,false,8,[.other],.other⟩),
 (264,⟨1,false,8,[.other],.other⟩),
 (267,⟨1,false,8,[.other],.other⟩),
 (271,⟨1,false,8,[.other],(.map 9 3)⟩),
 (280,⟨1,false,8,[.other],(.map 9 4)⟩),
 (287,⟨64,true,512,[aqu,aqu,aqu,aqu,aqu,aqu,aqu,aqu,aqu,aqu,aqu,aqu,aqu,aqu,aqu,aqu,aqu,aqu,aqu,aqu,aqu,aqu,aqu,aqu,aqu,aqu,aqu,aqu,aqu,aqu,aqu,aqu,aqu,aqu,aqu,aqu,aqu,aqu,aqu,aqu,aqu,aqu,aqu,aqu,aqu,aqu,aqu,aqu,aqu,aqu,aqu,aqu,aqu,aqu,aqu,aqu,aqu,aqu,aqu,aqu,aqu,aqu,aqu,aqu],(.array 64 3)⟩),
 (288,⟨64,true,512,[aqu,aqu,aqu,aqu,aqu,aqu,aqu,aqu,aqu,aqu,aqu,aqu,aqu,aqu,aqu,aqu,aqu,aqu,aqu,aqu,aqu,aqu,aqu,aqu,aqu,aqu,aqu,aqu,aqu,aqu,aqu,aqu,aqu,aqu,aqu,aqu,aqu,aqu,aqu,aqu,aqu,aqu,aqu,aqu,aqu,aqu,aqu,aqu,aqu,aqu,aqu,aqu,aqu,aqu,aqu,aqu,aqu,aqu,aqu,aqu,aqu,aqu,aqu,aqu],(.array 64 3)⟩),
 (297,⟨1,false,8,[.other],.other⟩)]
 eqs:=[(59,[aqu,aqu,aqu]),(63,[aqu,aqu]),(65,[aqu,aqu,aqu]),(240,[aqu,aqu])]
 fns:=[(8,⟨[],true⟩),(9,⟨[0],true⟩),(10,⟨[],true⟩),(12,⟨[],true⟩),(13,⟨[2],true⟩),(14,⟨[],true⟩),(15,⟨[2],true⟩),(17,⟨[4],true⟩),(18,⟨[],true⟩),(21,⟨[0],true⟩),(22,⟨[0],true⟩),(23,⟨[],true⟩),(24,⟨[2],true⟩),(25,⟨[0],false⟩),(26,⟨[],true⟩),(27,⟨[],true⟩),(30,⟨[],true⟩),(31,⟨[],true⟩),(32,⟨[0],false⟩),(33,⟨[0,1],true⟩),(34,⟨[0],true⟩),(35,⟨[0,1,2],true⟩),(36,⟨[],true⟩),(37,⟨[],true⟩),(38,⟨[],true⟩),(39,⟨[],true⟩),(40,⟨[1,2],true⟩),(41,⟨[],true⟩),(42,⟨[],true⟩),(43,⟨[],true⟩),(44,⟨[0,1,2],true⟩),(45,⟨[0],true⟩),(46,⟨[],true⟩),(50,⟨[2],true⟩),(58,⟨[],true⟩),(59,⟨[1],true⟩),(60,⟨[],true⟩),(61,⟨[1],true⟩),(62,⟨[],true⟩),(63,⟨[],true⟩),(68,⟨[0],true⟩),(69,⟨[0],true⟩),(70,⟨[0],true⟩),(71,⟨[0],true⟩),(72,⟨[0],true⟩),(73,⟨[0],false⟩),(74,⟨[0],false⟩),(75,⟨[0],false⟩),(76,⟨[0],true⟩),(77,⟨[0],true⟩),(78,⟨[2],true⟩),(80,⟨[1],true⟩),(81,⟨[],true⟩),(82,⟨[],true⟩),(92,⟨[],true⟩),(93,⟨[],true⟩),(94,⟨[0],false⟩),(95,⟨[0],false⟩),(96,⟨[],true⟩),(97,⟨[],true⟩),(98,⟨[1,2],true⟩),(99,⟨[0],true⟩),(101,⟨[0,2],false⟩),(102,⟨[2,3,4,5],false⟩),(103,⟨[],true⟩),(104,⟨[],true⟩),(108,⟨[],true⟩),(110,⟨[0],false⟩),(117,⟨[],true⟩),(118,⟨[],true⟩),(122,⟨[],true⟩),(129,⟨[],true⟩),(130,⟨[],true⟩),(132,⟨[],true⟩),(135,⟨[],true⟩),(137,⟨[0],false⟩),(138,⟨[],true⟩),(139,⟨[0],false⟩),(141,⟨[],true⟩),(142,⟨[],true⟩),(143,⟨[],true⟩),(144,⟨[],true⟩),(146,⟨[],true⟩),(159,⟨[],true⟩),(160,⟨[],true⟩),(162,⟨[],true⟩),(163,⟨[0],true⟩),(167,⟨[1],false⟩),(168,⟨[2,3],false⟩),(169,⟨[0],true⟩),(170,⟨[0],false⟩),(172,⟨[],true⟩),(173,⟨[],true⟩),(182,⟨[0],false⟩),(183,⟨[0],false⟩),(186,⟨[0],true⟩),(193,⟨[],true⟩),(201,⟨[],true⟩),(203,⟨[],true⟩),(205,⟨[],true⟩),(211,⟨[],true⟩),(221,⟨[],true⟩),(229,⟨[1],true⟩),(232,⟨[1],false⟩),(233,⟨[],true⟩),(240,⟨[],true⟩),(246,⟨[],true⟩),(248,⟨[],true⟩),(257,⟨[1],true⟩),(286,⟨[0],false⟩),(287,⟨[0],false⟩),(288,⟨[0],false⟩),(289,⟨[0],false⟩),(290,⟨[0],false⟩),(293,⟨[0],false⟩)]
 glob:=[(0,[iV (0:Int),iV (1:Int)])]
def eC:ej Tryz.prog cfg:=aaZ (by kernel_rfl) (by kernel_rfl) (by kernel_rfl)
abbrev S:=Ab.Spec Tryz.prog cfg
open Go.Ab Go.RowKit Go.Shelf
attribute [local go_sem] Oper.semAt_some
set_option maxRecDepth 100000 in
set_option maxHeartbeats 2000000 in
def ae5 (F:Fence) (n:Nat) (h7:F.fn 252) (hro:F.round=none) (hn:1<=n) (l B O b off len cap:Nat) (hlen:len<=1000000) (Keep:World->Prop)
  (c0 c1 c2 c3 c4:Nat->Value) (v1:Nat->Value) (hv:∀i,v1 i=.agg #[c0 i,c1 i,c2 i,c3 i,c4 i])
  (hB:∀w,Keep w->w.cell? ⟨B,O,none⟩=some (.slice (some ⟨b,off,none⟩) len cap))
  (h0:∀w i,Keep w->i<len->w.cell? ⟨b,off+i*5,none⟩=some (c0 i)) (h1:∀w i,Keep w->i<len->w.cell? ⟨b,off+i*5+1,none⟩=some (c1 i)) (h2:∀w i,Keep w->i<len->w.cell? ⟨b,off+i*5+2,none⟩=some (c2 i))
  (h3:∀w i,Keep w->i<len->w.cell? ⟨b,off+i*5+3,none⟩=some (c3 i)) (h4:∀w i,Keep w->i<len->w.cell? ⟨b,off+i*5+4,none⟩=some (c4 i))
  (J:Nat->World->Prop) (Jx:World->Prop)
  (hY:∀k W,k<len->J k W->YieldAt F (n - 1) Tryz.prog l #[.int .i64 ((len - 1 - k:Nat):Int),v1 (len - 1 - k)] W λ e W'=>
    (e=.returned (.bool true)/\J (k+1) W'/\Keep W')\/(e=.returned (.bool false)/\Jx W'))
  (W:World) (hW:Keep W) (hJ:J 0 W):
  CallsIn F n Tryz.prog 252 #[.func (.yield l) #[] #[],.pointer (some ⟨B,O,none⟩)] W λ e W'=>(∃v,e=.returned v)/\(J len W'\/Jx W'):=by
 refine callsIn_of_wp Tryz.func252 rfl h7 ?_ hro;simp only[Tryz.ntmps252,apK,ahP,ajE,Nat.reduceAdd,Nat.reduceSub,Array.replicate_succ,Array.replicate_zero,List.push_toArray,List.append_toArray,apn,ajQ];have hB0:=hB W hW;gi_wp2;gi_loopw [3] (λ i wr=>∃k:Nat,k<=len/\i=.int .i64 ((len:Int) - 1 - k)/\J k wr/\Keep wr)
  (λ i _=>(intOf i+1).toNat)
 case atStart=>exact⟨0,ahU _,by simp,hJ,hW⟩
 case round=>
  obtain⟨k,hk,rfl,hJs,hkp⟩:=hrel
  by_cases hlt:k<len
  ·obtain⟨fn,tmps,assign,body,hy,hR⟩:=hY k wr hlt hJs
   have hBr:=hB wr hkp
   obtain⟨i,hi⟩:∃i:Nat,i=len - 1 - k:=⟨_,rfl⟩
   rw[<- hi]at hy
   have hil:i<len:=by omega
   have hii:((len:Int) - 1 - k)=(i:Int):=by omega
   rw[hii]
   have e0:=h0 wr i hkp hil
   have e1:=h1 wr i hkp hil
   have e2:=h2 wr i hkp hil
   have e3:=h3 wr i hkp hil
   have e4:=h4 wr i hkp hil
   rw[hv]at hy
   have A:Aside (i+k+1=len):=by show i+k+1=len;omega
   have hi0:¬ ((i:Int)<0):=by omega
   have hi1:0<=(i:Int):=by omega
   clear hi hii hlt hk
   gi_wp2
   refine hR.mono ?_
   rintro e W3 (⟨rfl,hJ3,hk3⟩ | ⟨rfl,hJx3⟩)
   ·have A':=A.out
    gi_wp2
    go_roundw
    case rel=>exact⟨k+1,by omega,by have:=A';simp;omega,hJ3,hk3⟩
    case measure=>simp[intOf]
   gi_wp2
   refine bodyPost_ret (results_none rfl _ _ _) rfl ?_
   exact⟨⟨_,rfl⟩,.inr hJx3⟩
  obtain rfl:k=len:=by omega
  have hneg:((k:Int) - 1 - k) = -1:=by omega
  rw[hneg]
  gi_wp2
  go_end0
  exact⟨⟨_,rfl⟩,.inl hJs⟩
set_option maxRecDepth 100000 in
set_option maxHeartbeats 2000000 in
def Vs (F:Fence) (n:Nat) (h7:F.fn 252) (hro:F.round=none) (l B O cap:Nat) (a:Option Addr) (J:World->Prop) (W:World) (hB:W.cell? ⟨B,O,none⟩=some (.slice a 0 cap)) (hJ:J W):
  CallsIn F n Tryz.prog 252 #[.func (.yield l) #[] #[],.pointer (some ⟨B,O,none⟩)] W λ e W'=>(∃v,e=.returned v)/\J W':=by
 refine callsIn_of_wp Tryz.func252 rfl h7 ?_ hro;simp only[Tryz.ntmps252,apK,ahP,ajE,Nat.reduceAdd,Nat.reduceSub,Array.replicate_succ,Array.replicate_zero,List.push_toArray,List.append_toArray,apn,ajQ];gi_wp2;gi_loopw [3] (λ i wr=>i=.int .i64 (-1)/\J wr) (λ _ _=>0);case atStart=>exact⟨by simp,hJ⟩
 case round=>
  obtain⟨rfl,hJs⟩:=hrel
  gi_wp2
  go_end0
  exact⟨⟨_,rfl⟩,hJs⟩
def It {n':Nat} {P:Program} {f:FuncId} {args:Array Value} {w:World} {R:Ending->World->Prop} (h:CallsIn (FW none) n P f args w R):CallsIn (FW none) n' P f args w R:=
 ⟨h.1,λ cs _=>h.2 cs (λ _ hd=>by cases hd)⟩
def Ro (l:ap1) (hl:l.length<=1000000):OB Tryz.prog 252 [.ro [aQ l]] l.length (λ k=>iV ((l.length - 1 - k:Nat):Int)) (λ k=>yH (l.getD (l.length - 1 - k) ao)):=by
 refine⟨enters_of Tryz.func252 (by kernel_rfl) rfl,λ w I lb hI hlb hp=>?_⟩;have h0:=hp 0 (by simp);have ajI:lb=#[lb.getD 0 Go.undef]:=by
  have:lb.size=1:=hlb;apply Array.ext
  ·simp[this]
  intro i h1 h2;have:i=0:=by omega
  subst this;simp[h1]
 rw[ajI];generalize lb.getD 0 Go.undef=x at h0;clear ajI hp hlb;cases h0 with
 | ro B O vs hIB hm hr=>
  have hs:=hr 0 (by simp);have hm0:=hm 0 (by simp);have hs:eF w I (aQ l) (vs 0):=hs;generalize vs 0=sv at hs hm0;cases hs with
  | @sl _ _ _ _ a cap b off cs hcap _ ha hes hcm h1 hcr=>
   by_cases hz:l.length=0
   ·refine⟨λ _=>.bool true,λ _=>.bool true,λ k hk=>absurd hk om,λ y n J Jx W hW hY hJ=>?_⟩;have hBc:W.cell? ⟨B,O,none⟩=some (.slice a 0 cap):=by
     rw[cell?_of_heap (w:=w) (hW B hIB),<- hz];exact hm0
    rw[hz];exact(Vs (FW none) n trivial rfl y B O cap a (λ W=>J 0 W) W hBc hJ).mono λ e W' ⟨h1,h2⟩=>⟨h1,.inl h2⟩
   obtain⟨ha1,KX⟩:=ha hz;subst ha1;refine⟨λ k=>.int .i64 ((l.length - 1 - k:Nat):Int),λ k=>.agg #[cs (l.length - 1 - k) 0,cs (l.length - 1 - k) 1,cs (l.length - 1 - k) 2,cs (l.length - 1 - k) 3,cs (l.length - 1 - k) 4],λ k hk=>⟨.int _ _,?_⟩,λ y n J Jx W hW hY hJ=>?_⟩
   ·refine .agg rfl λ j hj=>?_;have hj:j<5:=hj;have:=hcr (l.length - 1 - k) j om hj;have e:nth (yH (l.getD (l.length - 1 - k) ao)).cells j=nth [iV (l.getD (l.length - 1 - k) ao).aJ,aa0 (l.getD (l.length - 1 - k) ao).bC,iV (l.getD (l.length - 1 - k) ao).dR,iV (l.getD (l.length - 1 - k) ao).dW,.bool (l.getD (l.length - 1 - k) ao).dD] j:=rfl;rcases(by omega:j=0\/j=1\/j=2\/j=3\/j=4)with rfl | rfl | rfl | rfl | rfl<;>exact this
   have key:∀W':World,(∀b,I b->W'.heap[b]? = w.heap[b]?)->∀i j,i<l.length->j<5->W'.cell? ⟨b,off+(i*5+j),none⟩=some (cs i j):=λ W' hW' i j hi hj=>by
    rw[cell?_of_heap (w:=w) (hW' b KX)];exact hcm i j hi hj
   refine It (ae5 (FW none) (n+1) trivial rfl om y B O b off l.length cap hl (λ W':World=>∀b,I b->W'.heap[b]? = w.heap[b]?) (λ i=>cs i 0) (λ i=>cs i 1) (λ i=>cs i 2) (λ i=>cs i 3) (λ i=>cs i 4) (λ i=>.agg #[cs i 0,cs i 1,cs i 2,cs i 3,cs i 4]) (λ _=>rfl)
    (λ W' hW'=>by rw[cell?_of_heap (w:=w) (hW' B hIB)];exact hm0) (λ W' i h hi=>key W' h i 0 hi om) (λ W' i h hi=>key W' h i 1 hi om) (λ W' i h hi=>key W' h i 2 hi om) (λ W' i h hi=>key W' h i 3 hi om) (λ W' i h hi=>key W' h i 4 hi om)
    (λ k W1=>J k W1/\∀b,I b->W1.heap[b]? = w.heap[b]?) Jx ?_ W hW ⟨hJ,hW⟩ |>.mono ?_)
   ·rintro k W1 hk ⟨hJ1,hW1⟩;obtain⟨fn,tmps,assign,body,hy,hR⟩:=hY k W1 hk hJ1;refine⟨fn,tmps,assign,body,hy,hR.mono ?_⟩;rintro e W' (⟨rfl,h2,h3⟩ | ⟨rfl,h2⟩)
    ·have hW':∀b,I b->W'.heap[b]? = w.heap[b]? := λ b hb=>(h3 b hb).trans (hW1 b hb);exact .inl ⟨rfl,⟨h2,hW'⟩,hW'⟩
    exact .inr ⟨rfl,h2⟩
   rintro e W' ⟨h1,⟨h2,_⟩ | h2⟩
   ·exact⟨h1,.inl h2⟩
   exact⟨h1,.inr h2⟩
def QC (l:ap1):S 221 [aQ l] [] (.fn 252 [.ro [aQ l]]) []:=by
 refine YP (ct:=[]) eC Tryz.func221 rfl rfl (ahk rfl) (by decide +kernel) (ahU _) ?_;conv=>whnf
 exact⟨⟨rfl,KN.refl _,ad6⟩,ad6⟩
open Go.ChangeShapes Go.WideShapes Go.ChangeAt Go.RowKit
def own:ownKnob Tryz.prog.godebug=none:=by kernel_rfl
def laidOut:laidOutB Tryz.prog=true:=by kernel_rfl
def anz:Tryz.prog.globalNamed "bringup/clock.off" = some 0:=by kernel_rfl
def anA:(Tryz.prog.globals[0]?).map (·.type)=some 240:=by kernel_rfl
def ae6:Tryz.prog.cellsOf 240=2:=by kernel_rfl
def cells3:Tryz.prog.cellsOf 3=1:=by kernel_rfl
abbrev ada:List (String×DataW Unit):=[("bringup/clock.off", Rows.laid_bringup_clock_off)]
variable {W:World}
def ae7 (h:laidMetH Tryz.prog ada W):W.cell? ⟨0,0,none⟩=some (.int .i64 0)/\W.cell? ⟨0,1,none⟩=some (.int .i64 1):=by
 rw[MakeChecks.laidMetH_plain _ _ _ (by kernel_rfl)]at h;obtain⟨ps,⟨g0,t0,cs0,f0,p0,q0,hg0,ht0,hv0,hd0,_⟩,_,_⟩:=h;obtain rfl:=ah1 (anz.symm.trans hg0);obtain rfl:=ah1 (anA.symm.trans ht0);obtain⟨y0,y1,n,hx,hl,h0,h1⟩:=trod_struct2 Tryz.underlying240 hd0;rw[ae6]at hl;simp only[Prod.mk.injEq,Rows.laid_bringup_clock_off,DataW.agg.injEq,apj]at hx;obtain⟨k0,e1,e2,_⟩:=DataW.trod_int Tryz.underlying3 h0;obtain⟨k1,e3,e4,_⟩:=DataW.trod_int Tryz.underlying3 h1;have hk0:k0=0:=by have:=hx.1.1;rw[e2]at this;simpa using this.symm
 have hk1:k1=1:=by have:=hx.1.2.1;rw[e4]at this;simpa using this.symm
 subst hk0;subst hk1;have c0:=World.var?_cell hg0 hv0 0;have c1:=World.var?_cell hg0 hv0 1;obtain⟨l⟩:=cs0;match l,hl with
 | [a,b],_=>
  rw[cells3]at e1 e3
  simp at e1 e3
  subst e1;subst e3
  exact⟨by simpa using c0,by simpa using c1⟩
def Old (W:World):Nat->Prop:=λ b=>b<W.heap.size
def anB (h:laidMetH Tryz.prog ada W):Rel cfg (DY W (Old W) (λ _=>none) 0) (hof []) (λ o=>o<0) W (Old W) (λ _=>none):=by
 obtain⟨h0,h1⟩:=ae7 h;exact {
  dom:=λ o=>by simp[hof]
  used:=λ o p h=>by cases h
  objs:=λ o ob p _ h=>by cases h
  inj:=λ o o' p p' b bo sz b' la sz' h=>by cases h
  lz:=λ o p b bo sz h=>by cases h
  lt:=λ o p b bo sz h=>by cases h
  uX:=λ b h=>h
  size:=afM _
  frame:=λ _ _ _=>rfl
  new:=λ o p b bo sz h=>by cases h
  glob:=λ g cs hg=>by
   have e:g=0/\cs=[.int .i64 0,.int .i64 1]:=by
    unfold cfg at hg
    simp only[Ab.look]at hg
    cases hb:Nat.beq 0 g with
    | true=>
     rw[hb]at hg
     have:=aeK hb
     simp at hg
     exact⟨this.symm,hg.symm⟩
    | false=>rw[hb]at hg;cases hg
   obtain⟨rfl,rfl⟩:=e
   refine .ro 0 0 (λ j=>match j with | 0=>.int .i64 0 | _=>.int .i64 1) (World.block_lt_of_cell? _ _ h0) (λ j hj=>?_) (λ j hj=>?_)
   ·match j,hj with
    | 0,_=>exact h0
    | 1,_=>exact h1
   match j,hj with
   | 0,_=>exact .int _ _
   | 1,_=>exact .int _ _
  Jf:=λ _ h=>h
  KQ:=λ _ h=>.inl h
  NH:=λ _ _=>.inl rfl
  Dm:=λ _ h=>h
  env:=⟨eK.refl _,λ _ _ h=>h.elim⟩ }
variable {args:ap2}
def ae8 {f:FuncId} {vals:Array Value} (hs:S f args [] (.bool true) []) (hL:laidMetH Tryz.prog ada W) (hl:vals.size=args.length) (hr:∀j,j<args.length->eF W (Old W) (nth args j) (vals.getD j Go.undef)):
  Calls Tryz.prog f vals W λ e W'=>e=.returned (.bool true)/\Below W.heap.size W W':=by
 obtain⟨_,_,hc⟩:=hs;refine(hc W (Old W) (λ _=>none) vals (anB hL) hl (λ j hj=>.pure (hr j hj))).mono λ e W' h=>?_;obtain⟨x,I',O',rfl,hR,hx⟩:=h;have hb:x=.bool true:=hx.je;subst hb;refine⟨rfl,⟨hR.env.same.os,hR.env.same.tape,hR.env.same.output,hR.size,λ k hk=>hR.frame k hk ?_⟩⟩;rintro ⟨o,p,bo,sz,h,_⟩;cases h
def Xc {H:Type} {enc:TypeId×Value->H} {v:Value} {d:DataW H} {ps:List MemPlace} {base:Nat} (hv:Value.okWide Tryz.prog W .any base 22 v) (h:DataW.Trod enc Tryz.prog W 0 (λ _=>true) true 22 v d ps):∃l:apU,I64 l/\eF W (Old W) (aq l) v:=by
 obtain⟨a0,len,cap,rfl⟩:=okWide_slice Tryz.underlying22 hv;obtain⟨fuel,hf⟩:=h;rcases open_ints Tryz.underlying22 Tryz.underlying3 cells3 hf with⟨hcs,hx⟩ | ⟨a,len',cap',zs,hcs,_,hl,hm,hz,hx,hcell,hwz⟩
 ·simp[Value.cells]at hcs;obtain⟨rfl,rfl,rfl⟩:=hcs;refine⟨[],(λ x hx=>by cases hx),?_⟩;exact .sl 0 0 (λ _ _=>Go.undef) (afM _) nofun (λ h=>absurd rfl h) (λ i hi=>by cases hi) (λ i j hi=>by cases hi) (λ i j hi=>by cases hi) (λ i j hi=>by cases hi)
 simp[Value.cells]at hcs;obtain⟨rfl,rfl,rfl⟩:=hcs;simp only[apa]at hz;refine⟨zs.take len,λ x hx=>?_,?_⟩
 ·have:=hwz x (aoA hx);simp only[Lit.wf,aeP,ahQ]at this;exact this
 have hlen:(zs.take len).length=len:=by simp;omega
 unfold aq aa0;rw[hlen];refine .sl a.block a.off (λ i _=>.int .i64 (zs.getD i 0)) hl nofun (λ hn=>?_) (λ i hi=>rfl) (λ i j hi hj=>?_) (λ i j hi hj=>rfl) (λ i j hi hj=>?_)
 ·have h0:=hcell 0 om;have hsp:=World.cell?_spot h0;have e:a.add 0=a:=by simp[Addr.add]
  rw[e]at hsp h0;refine⟨by cases a;simp at hsp;subst hsp;rfl,World.block_lt_of_cell? _ _ h0⟩
 ·have hj0:j=0:=by omega
  subst hj0;have h0:=hcell 0 om;have hsp:=World.cell?_spot h0;have e:a.add 0=a:=by simp[Addr.add]
  rw[e]at hsp;have hi':=hcell i om;have e2:a.add i=⟨a.block,a.off+(i*1+0),none⟩:=by
   obtain⟨b,off,sp⟩:=a;simp at hsp;subst hsp;rw[Addr.add_mid];simp
  rw[e2]at hi';exact hi'
 have hj0:j=0:=by omega
 subst hj0;have e:nth (aS iV 0 (zs.take len) i).cells 0=iV (zs.getD i 0):=by
  show iV ((zs.take len).getD i 0)=_;rw[getD_take zs 0 hi]
 rw[e];exact .int _ _
def z {p:Prop} (h:p:=by
 repeat' first
  | with_reducible exact trivial
  | with_reducible exact rfl
  | with_reducible refine And.intro ?_ ?_
  | ((conv=>whnf);first
   | with_reducible refine And.intro ?_ ?_
   | with_reducible refine Emb.mk ?_ ?_ ?_
   | with_reducible exact trivial)
  | exact rfl
  | exact λ _ _=>Le.refl _
  | exact λ _=>rfl
  | exact id
  | exact λ h=>Bool.noConfusion h
  | exact Le.refl _
  | exact KN.refl _
  | exact λ h=>absurd rfl h
  | exact λ _ h=>absurd h (ag9 _)
  | exact Ue (.refl _) rfl (Nat.lt_of_sub_pos (by exact Nat.zero_lt_succ _))
  | omega
  | (simp[dO];done)
  | (simp[dO];omega)
  | (simp[dO,Jp];done)
  | (simp[dO,Jp];omega)
  | refine jE ?_ ?_ ?_
  | refine eG ?_ ?_ ?_ ?_
  | exact ad1 (λ _ _=>Le.refl _) (Le.refl _)
  | exact QV (λ _=>rfl)
  | exact eS om
  | exact cZ _ _ _
  | exact OD _ _
  | refine Av ?_ ?_
  | refine Le.rj ?_
  | refine Le.sl ?_ ?_ ?_ ?_):p:=h
def dk {p:Prop} (h:p:=by decide +kernel):p:=h
def oz {p:Prop} (h:p:=by first | omega | (simp[dO];done) | (simp[dO];omega)):p:=h
def sr {es:Nat} {f:Bool} {g:Nat->AV}:n=n/\(n≠0->es=es)/\(f=true->f=true)/\∀i,i<n->Le (g i) (g i):=⟨rfl,λ _=>rfl,id,λ _ _=>.refl _⟩
def sf {es:Nat} {f:Bool} {g:Nat->AV}:n=n/\(n≠0->es=es)/\(false=true->f=true)/\∀i,i<n->Le (g i) (g i):=⟨rfl,λ _=>rfl,nofun,λ _ _=>.refl _⟩
variable {A:Type} {B:Type} {C:Type}
def r4 {D:Type} {a:A} {b:B} {c:C} {d:D}:a=a/\b=b/\c=c/\d=d:=⟨rfl,rfl,rfl,rfl⟩
def r2 {a:A} {b:B}:a=a/\b=b:=⟨rfl,rfl⟩
def sn {R:Type} {p:Prop} {d:Decidable p} {m:M R} {r:R} {K:Prop} (hm:need p m r) (h:p->m r->K):p/\K:=⟨hm.1,h hm.1 hm.2⟩
def sq {A R B C : Type} {m : M A} {k : A -> M R} {r : R} {p K : B -> C -> Prop} {a : A -> B} {b : A -> C} (hm : bnd m k r) (F : ∀ {v}, m v -> p (a v) (b v)) (h : ∀ v, k v r -> K (a v) (b v)) : ∃ a b, p a b /\ K a b := bS hm λ v hv hm => ⟨a v, b v, F hv, h v hm⟩
def s2 {R:Type} {p q:Prop} {d:Decidable p} {d2:Decidable q} {m:M R} {r:R} {K:Prop} (hm:need p (need q m) r) (h:p->q->m r->K):p/\q/\K:=⟨hm.1,hm.2.1,h hm.1 hm.2.1 hm.2.2⟩
def si {R:Type} {c:Bool} {x y:M R} {r:R} {A B:Prop} (hm:(cond c x y) r) (h1:c=true->x r->A) (h2:c=false->y r->B):N3 c A B:=cO hm h1 h2
def aqr {E R:Type} {i:Int} {l:List E} {x y:M R} {r:R} {A B:Prop} (hm:(aqp i l x y) r) (h1:x r->A) (h2:y r->B):N3 (decide (i<(l.length:Int))) ((0<=i/\i<(l.length:Int))/\A) B:=si hm (λ _ m=>⟨m.1,h1 m.2⟩) λ _=>h2
def aqs {E R:Type} {q:Prop} {d:Decidable q} {i:Int} {l:List E} {x y:M R} {r:R} {A B:Prop} (hm:(aqp i l (need q x) y) r) (h1:x r->A) (h2:y r->B):N3 (decide (i<(l.length:Int))) ((0<=i/\i<(l.length:Int))/\q/\A) B:=si hm (λ _ m=>⟨m.1,m.2.1,h1 m.2.2⟩) λ _=>h2
def aqj {R:Type} {p:Prop} {d:Decidable p} {m:M R} {r:R} {K:Prop} (hm:need p m r) (h:m r->K):p/\K:=⟨hm.1,h hm.2⟩
def aqk {R:Type} {p q:Prop} {d:Decidable p} {d2:Decidable q} {m:M R} {r:R} {K:Prop} (hm:need p (need q m) r) (h:m r->K):p/\q/\K:=⟨hm.1,hm.2.1,h hm.2.2⟩
def aqm {R:Type} {c:Bool} {x y:M R} {r:R} {A B:Prop} (hm:(cond c x y) r) (h1:x r->A) (h2:y r->B):N3 c A B:=cO hm (λ _=>h1) λ _=>h2
def aqn {R:Type} {c:Bool} {x y:M R} {r:R} {A B:Prop} (hm:(cond c x y) r) (h1:c=true->x r->A) (h2:y r->B):N3 c A B:=cO hm h1 λ _=>h2
def sb {R:Type} {m:M A} {k:A->M R} {r:R} {G:Prop} (hm:bnd m k r) (h:∀v,m v->k v r->G):G:=bS hm h
def cl {p K:A->B->Prop} {a:A} {b:B} (h:p a b) (k:K a b):∃a b,p a b/\K a b:=⟨a,b,h,k⟩
def re {P:List A->List B->Prop} (h:P [] []:=by exact z):∃a b,P a b:=⟨_,_,h⟩
def aqv {n:Nat} {g:Nat->AV}:∀i,i<n->Le (g i) (g i):=λ _ _=>.refl _
abbrev aqt {A:Type} (l:List A):AV:=iV (l.length:Int)
abbrev adf {A:Type} (o k:Nat) (e:A->AV) (d:A) (l:List A):Nat×Option cI:=(o,some (.row k l.length (aS e d l)))
abbrev adg (o:Nat) (l:ap2):Nat×Option cI:=(o,some (.box l))
abbrev adh {A:Type} (o:Nat) (l:List A):AV:=.bV o 0 l.length false
abbrev ade:AV:=.sl 0 0 true bT
def acK {a b:Nat} {c:Bool} {g h:Nat->AV}:Le (.sl a 0 c g) (.sl b 0 false h):=.sl rfl (λ h=>absurd rfl h) nofun (λ _ h=>absurd h (ag9 _))
def aW {A G:Prop} (m:A) (h:A->G:=by intro h;cases h;exact re):G:=h m
def bh {A B G:Prop} (h:A->B->G:=by intro _ h;cases h;exact re):A->B->G:=h
def acj {B G:Prop} (h:B->G:=by intro h;cases h;exact re):B->G:=h
def aae {p:Prop} (h:p:=by(conv=>whnf);exact sf):p:=h
def aaK {p q:Prop} (h:p) (k:q):p/\q:=⟨h,k⟩
def aa7 {p:Prop} (h:p:=by exact⟨rfl,rfl,rfl,rfl,nofun⟩):p:=h
def abK {p:Prop} (h:p:=by exact⟨rfl,rfl,(λ _ _=>.refl _)⟩):p:=h
def rt {P:A->B->Prop} (a:A) (b:B) (h:P a b:=by exact z):∃a b,P a b:=⟨_,_,h⟩
def lc {p:A->Prop} {E:A->B->C->Prop} {a:A} (b:B) (c:C) (hm:p a) (h:E a b c:=by exact z):∃a b c,p a/\E a b c:=⟨a,b,c,hm,h⟩
def lce {p:A->Prop} {E:A->B->C->Prop} {a:A} (b:B) (c:C) (hm:p a) (h:E a b c):∃a b c,p a/\E a b c:=⟨a,b,c,hm,h⟩
def le {p:A->Prop} {E:A->List B->List C->Prop} {a:A} (hm:p a) (h:E a [] []:=by exact z):∃a b c,p a/\E a b c:=⟨a,_,_,hm,h⟩
def PJ (ct:ap0) {fn:Func} {f:FuncId} {c:Code} {args:ap2} {obs:ap9} {r:AV} {dt:ap9} (hf:Tryz.prog.funcs[f]? = some fn) (hb:fn.body=some c)
  (h:ig cfg (Ab.Spec Tryz.prog cfg) ct (Loops Tryz.prog cfg fn.ntmps none obs.length) c ⟨CB args 0,BL.ly obs 0,obs.length⟩ (aaW cfg fn.results.toList obs.length r dt))
  (hnm:(fn.name == "runtime.NumGoroutine")=false:=by exact rfl)
  (hN:args.length<=fn.ntmps:=by exact ahk rfl) (hok:eY fn.ntmps c=true:=by decide +kernel) (hle:obs.length<=dt.length:=by exact ahk rfl):S f args obs r dt:=
 pK eC hf hb hnm hN hok hle h
def sp {fn:Func} {f:FuncId} {c:Code} {args:ap2} {obs:ap9} {r:AV} {dt:ap9} (hf:Tryz.prog.funcs[f]? = some fn) (hb:fn.body=some c)
  (h:ig cfg (Ab.Spec Tryz.prog cfg) [] (Loops Tryz.prog cfg fn.ntmps none obs.length) c ⟨CB args 0,BL.ly obs 0,obs.length⟩ (aaW cfg fn.results.toList obs.length r dt))
  (hnm:(fn.name == "runtime.NumGoroutine")=false:=by exact rfl)
  (hN:args.length<=fn.ntmps:=by exact ahk rfl) (hok:eY fn.ntmps c=true:=by decide +kernel) (hle:obs.length<=dt.length:=by exact ahk rfl):S f args obs r dt:=
 pK eC hf hb hnm hN hok hle h
section
variable {N:Nat} {rr:Option Nat} {m:Nat}
variable {c:Code} {s:St} {K:Exit->St->Prop} {σ R:Type} {F:(σ->M R)->σ->M R} {x0:σ} {r:R}
def LG (ct:ap0) (hm:bU F x0 r) (st:σ->St) (ρ0:List (Nat×Option Nat)) (os0:ap0)
  (round:∀(self:σ->M R) (x:σ),F self x r->ig cfg (Ab.Spec Tryz.prog cfg) ct (Loops Tryz.prog cfg N rr m) c (st x) (λ e s'=>match e with | .normal=>∃x' ρ os,self x' r/\G5 m ρ os s' (st x') | e=>K e s'))
  (hE:G5 m ρ0 os0 s (st x0):=by exact z) (hok:eY N c=true:=by decide +kernel):Loops Tryz.prog cfg N rr m (.loop c) s K:=mu eC hok hm st ρ0 os0 hE round
def lf (hm:bU F x0 r) (st:σ->St) (ρ0:List (Nat×Option Nat)) (os0:ap0)
  (round:∀(self:σ->M R) (x:σ),F self x r->ig cfg (Ab.Spec Tryz.prog cfg) [] (Loops Tryz.prog cfg N rr m) c (st x) (λ e s'=>match e with | .normal=>∃x' ρ os,self x' r/\G5 m ρ os s' (st x') | e=>K e s'))
  (hE:G5 m ρ0 os0 s (st x0):=by exact z) (hok:eY N c=true:=by decide +kernel):Loops Tryz.prog cfg N rr m (.loop c) s K:=mu eC hok hm st ρ0 os0 hE round
def l0 (hm:bU F x0 r) (st:σ->St)
  (round:∀(self:σ->M R) (x:σ),F self x r->ig cfg (Ab.Spec Tryz.prog cfg) [] (Loops Tryz.prog cfg N rr m) c (st x) (λ e s'=>match e with | .normal=>∃x' ρ os,self x' r/\G5 m ρ os s' (st x') | e=>K e s'))
  (hE:G5 m [] [] s (st x0):=by exact z) (hok:eY N c=true:=by decide +kernel):Loops Tryz.prog cfg N rr m (.loop c) s K:=mu eC hok hm st [] [] hE round
def ck (ct:ap0) {x y:Code} {s:St} {K:Exit->St->Prop} (k:σ->M R) (r:R) (st:σ->St)
  (h1:ig cfg (Ab.Spec Tryz.prog cfg) ct (Loops Tryz.prog cfg N rr m) x s (λ e s'=>match e with | .normal=>∃x' ρ os,k x' r/\G5 m ρ os s' (st x') | e=>K e s'))
  (h2:∀x',k x' r->ig cfg (Ab.Spec Tryz.prog cfg) ct (Loops Tryz.prog cfg N rr m) y (st x') K) (aa4:eY N x=true:=by decide +kernel) (YY:eY N y=true:=by decide +kernel):Loops Tryz.prog cfg N rr m (.seq x y) s K:=EB eC aa4 YY k r st h1 h2
end
end Go.Proofs.YtifekdmmpbcdgaaGreatDoor
namespace Go.Proofs.YtifekdmmpbcdgaaGreatDoor
open Go.Ab
set_option maxRecDepth 100000
set_option maxHeartbeats 20000000
variable {r:Bool}
def IZ {c_:au} (m:zI c_ r):S 223 [EC c_] [] (.bool r) [] :=sp Tryz.func223 rfl<|aW m
def tC {s_:apY} {r:Int} (m:oq s_ r):S 253 [aR s_,.fn 223 []] [] (iV r) [] :=sp Tryz.func253 rfl<|l0 m (λ g1=>⟨[(0,aR s_),(1,.fn 223 []),(7,aqt s_),(8,iV g1)],[],0⟩) <|λ ab g1 m=>aqr m (λ m=>sq m IZ λ v3 m=>si m bh λ _ m=>aqj m λ m=>le m) acj
def qO {s_:apY} (m:iW s_ r):S 222 [aR s_,.fn 223 []] [] (.bool r) [] :=sp Tryz.func222 rfl<|sq m tC λ v1 m=>aW m
def eX {n_:Int} {qI:Int} {sH:Int} (m:gb n_ qI sH r):S 227 [iV n_,iV qI,iV sH] [] (.bool r) [] :=sp Tryz.func227 rfl<|aW m
def I5 {p_:Int} {iA:Int} (m:tM p_ iA r):S 254 [iV p_,.ro [iV iA]] [] (.bool r) [] :=sp Tryz.func254 rfl<|aqj m λ m=>sq m eX λ v1 m=>aW m
variable {s_:apU}
def yw {f_:Int} {r:Int} (m:uo s_ f_ r):S 262 [aq s_,.fn 254 [.ro [iV f_]]] [] (iV r) [] :=sp Tryz.func262 rfl<|l0 m (λ g1=>⟨[(0,aq s_),(1,.fn 254 [.ro [iV f_]]),(7,aqt s_),(8,iV g1)],[],0⟩) <|λ ab g1 m=>aqr m (λ m=>sq m I5 λ v3 m=>si m bh λ _ m=>aqj m λ m=>le m) acj
def vw {f_:Int} (m:kM s_ f_ r):S 235 [aq s_,.fn 254 [.ro [iV f_]]] [] (.bool r) [] :=sp Tryz.func235 rfl<|sq m yw λ v1 m=>aW m
def D8 {v_:Int} {r:Int} (m:slices_Index_int s_ v_ r):S 149 [aq s_,iV v_] [] (iV r) [] :=sp Tryz.func149 rfl<|l0 m (λ g1=>⟨[(0,aq s_),(1,iV v_),(7,aqt s_),(8,iV g1)],[],0⟩) <|λ ab g1 m=>aqr m (λ m=>si m bh λ _ m=>aqj m λ m=>le m) acj
def iw {v_:Int} (m:slices_Contains_int s_ v_ r):S 86 [aq s_,iV v_] [] (.bool r) [] :=sp Tryz.func86 rfl<|sq m D8 λ v1 m=>aW m
def kc {l_:apU} {qI:Int} {sH:Int} (m:jS l_ qI sH r):S 255 [aq l_,iV qI,iV sH] [] (.bool r) [] :=sp Tryz.func255 rfl<|l0 m (λ g1=>⟨[(0,aq l_),(1,iV qI),(2,iV sH),(9,aq l_),(10,aqt l_),(11,iV g1)],[],0⟩) <|λ ab g1 m=>si m (λ _ m=>sn m λ _ m=>sq m eX λ v5 m=>sn m λ _ m=>sb m λ v6 hv6 m=>cl (λ q0=>((iw (hv6 q0)).le ⟨(.sl oz (λ _=>rfl) nofun (eS (f:=iV) (d:=0) (by first | omega | exact agm _ _ | exact af3 (agm _ _) om | (simp;omega)))),.refl _,ad6⟩ trivial))<|si m bh λ _ m=>sn m λ _ m=>le m) bh
def jH {OF:apU} {RY:apU} (m:slices_Equal_int OF RY r):S 51 [aq OF,aq RY] [] (.bool r) [] :=sp Tryz.func51 rfl<|si m bh λ _ m=>l0 m (λ g1=>⟨[(0,aq OF),(1,aq RY),(12,aqt OF),(13,iV g1)],[],0⟩) <|λ ab g1 m=>aqs m (λ m=>si m bh λ _ m=>aqj m λ m=>le m) acj
def LH {c_:au} {at_:Int} (m:ED c_ at_ r):S 224 [EC c_,iV at_] [] (.bool r) [] :=sp Tryz.func224 rfl<|sq m vw λ v1 m=>sb m λ v2 hv2 m=>cl (λ q0=>(eX (hv2 q0)))<|sb m λ v3 hv3 m=>cl (λ q0=>(eX (hv3 q0)))<|si m bh λ _ m=>si m (λ _ m=>sn m λ _ m=>sb m λ v4 hv4 m=>cl (λ q0=>(eX (hv4 q0)))<|aW m) λ _ m=>si m (λ _ m=>si m (λ _ m=>sb m λ v5 hv5 m=>cl (λ q0=>(kc (hv5 q0)))<|aW m) λ _ m=>si m (λ _ m=>sn m λ _ m=>sb m λ v6 hv6 m=>cl (λ q0=>(kc (hv6 q0)))<|aW m) λ _ m=>si m (λ _ m=>si m (λ _ m=>sb m λ v7 hv7 m=>cl (λ q0=>((jH (hv7 q0)).le ⟨.refl _,(.sl rfl (λ _=>rfl) nofun (cZ iV 0 [(0:Int),(1:Int)])),ad6⟩ trivial))<|aW m) λ c7 m=>by
 refine⟨.bool false,[],(λ q0=>absurd q0 (vac c7)),?_⟩;(conv=>whnf);have m:r=(((c_.aN.length:Int)==(1:Int))&&false):=m;subst m;refine⟨[],[],?_⟩;(conv=>whnf);exact⟨⟨rfl,ad6,ad6⟩,rfl⟩) bh) λ _ m=>si m (λ _ m=>sb m λ v8 wJ m=>cl (λ q0=>(kc (wJ q0)))<|aW m) λ _ m=>si m (λ _ m=>sn m λ _ m=>sb m λ v9 Lj m=>cl (λ q0=>(kc (Lj q0)))<|aW m) λ _ m=>si m (λ _ m=>si m (λ _ m=>sb m λ v10 tB m=>cl (λ q0=>((jH (tB q0)).le ⟨.refl _,(.sl rfl (λ _=>rfl) nofun (cZ iV 0 [(0:Int),(1:Int)])),ad6⟩ trivial))<|aW m) λ c11 m=>by
 refine⟨.bool false,[],(λ q0=>absurd q0 (vac c11)),?_⟩;(conv=>whnf);have m:r=(((c_.aN.length:Int)==(1:Int))&&false):=m;subst m;refine⟨[],[],?_⟩;(conv=>whnf);exact⟨⟨rfl,ad6,ad6⟩,rfl⟩) bh
variable {l_:apY}
def jt {r:Int} (m:mU l_ r):S 164 [aR l_] [] (iV r) [] :=PJ [21] Tryz.func164 rfl<|sb m λ v1 hv1 m=>cl (λ q0=>(qO (hv1 q0)))<|si m bh λ _ m=>LG [21] m (λ g1=>⟨[(0,aR l_),(18,aR l_),(19,aqt l_),(20,iV g1)],[],0⟩) [] [] <|λ ab g1 m=>aqm m (λ m=>aqj m λ m=>sq m LH λ v4 m=>si m bh λ _ m=>aqj m λ m=>le m) λ m=>aqj m λ m=>LG [21] m (λ g2=>⟨[(5,iV g2.1),(6,adh 0 g2.2.2),(33,aR l_),(34,aqt l_),(35,iV g2.2.1)],[adf 0 1 iV 0 g2.2.2],1⟩) [(0,some 32)] [] <|λ cy g2 m=>aqr m (λ m=>LG [21] m (λ g7=>⟨[(5,iV g2.1),(6,adh 0 g7.2),(7,iV g2.2.1),(8,.ptr 1 0 0),(33,aR l_),(34,aqt l_),(35,iV g2.2.1),(41,aq ((l_.getD g2.2.1.toNat az).aN)),(42,iV ((((l_.getD g2.2.1.toNat az).aN).length:Nat):Int)),(43,iV g7.1)],[adf 0 1 iV 0 g7.2,adg 1 [iV ((l_.getD g2.2.1.toNat az).bY),aq ((l_.getD g2.2.1.toNat az).aN),aq ((l_.getD g2.2.1.toNat az).aE),iV ((l_.getD g2.2.1.toNat az).ij),iV ((l_.getD g2.2.1.toNat az).cY)]],2⟩) [(1,some 33)] [] <|λ ky g7 m=>aqm m (λ m=>aqk m λ m=>aqk m λ m=>aqj m λ m=>le m) λ m=>ck [21] (pj l_ g2 cy) r (λ g8=>⟨[(5,iV g2.1),(6,adh 0 g8),(7,iV g2.2.1),(8,.ptr 1 0 0),(33,aR l_),(34,aqt l_),(35,iV g2.2.1)],[adf 0 1 iV 0 g8,adg 1 [iV ((l_.getD g2.2.1.toNat az).bY),aq ((l_.getD g2.2.1.toNat az).aN),aq ((l_.getD g2.2.1.toNat az).aE),iV ((l_.getD g2.2.1.toNat az).ij),iV ((l_.getD g2.2.1.toNat az).cY)]],2⟩) (aqm m (λ m=>aqk m λ m=>aqj m λ m=>le m) λ m=>le m) λ g8 m=>aqk m λ m=>si m bh λ _ m=>aqj m λ m=>le m) acj
def Hj {s_:an} (m:mV s_ r):S 217 [yH s_] [] (.bool r) [] :=sp Tryz.func217 rfl<|aW m
def tD {s_:ap1} {r:Int} (m:ot s_ r):S 251 [aQ s_,.fn 217 []] [] (iV r) [] :=sp Tryz.func251 rfl<|l0 m (λ g1=>⟨[(0,aQ s_),(1,.fn 217 []),(7,aqt s_),(8,iV g1)],[],0⟩) <|λ ab g1 m=>aqr m (λ m=>sq m Hj λ v3 m=>si m bh λ _ m=>aqj m λ m=>le m) acj
def qP {s_:ap1} (m:iX s_ r):S 216 [aQ s_,.fn 217 []] [] (.bool r) [] :=sp Tryz.func216 rfl<|sq m tD λ v1 m=>aW m
def ek {n_:Int} {qI:Int} {sH:Int} (m:eU n_ qI sH r):S 158 [iV n_,iV qI,iV sH] [] (.bool r) [] :=sp Tryz.func158 rfl<|aW m
def Km {s_:an} {at_:Int} (m:vW s_ at_ r):S 218 [yH s_,iV at_] [] (.bool r) [] :=sp Tryz.func218 rfl<|aqj m λ m=>sq m ek λ v1 m=>sb m λ v2 hv2 m=>cl (λ q0=>(ek (hv2 q0)))<|sb m λ v3 hv3 m=>cl (λ q0=>(ek (hv3 q0)))<|si m bh λ _ m=>l0 m (λ g1=>⟨[(2,.ptr 0 0 0),(42,aq s_.bC),(43,aqt s_.bC),(44,iV g1)],[adg 0 [iV s_.aJ,aq s_.bC,iV s_.dR,iV s_.dW,.bool s_.dD]],1⟩) <|λ ab g1 m=>aqr m (λ m=>sq m ek λ v6 m=>aqk m λ m=>si m bh λ _ m=>aqj m λ m=>le m) acj
def mP {l_:ap1} {r:Int} (m:lE l_ r):S 152 [aQ l_] [] (iV r) [] :=sp Tryz.func152 rfl<|sb m λ v1 hv1 m=>cl (λ q0=>(qP (hv1 q0)))<|si m bh λ _ m=>l0 m (λ g1=>⟨[(12,aQ l_),(13,aqt l_),(14,iV g1)],[],0⟩) <|λ ab g1 m=>aqr m (λ m=>sq m Km λ v4 m=>si m bh λ _ m=>aqj m λ m=>le m) acj
def yd {s_:ByteArray} (m:wV s_ r):S 215 [.str s_] [] (.bool r) [] :=sp Tryz.func215 rfl<|aqk m λ m=>si m bh λ _ m=>l0 m (λ g1=>⟨[(0,.str s_),(3,iV g1)],[],0⟩) <|λ ab g1 m=>si m (λ _ m=>aqj m λ m=>si m bh λ _ m=>aqj m λ m=>le m) bh
def Ag {s_:ap6} {v_:ByteArray} {r:Int} (m:slices_Index_string s_ v_ r):S 273 [eD s_,.str v_] [] (iV r) [] :=sp Tryz.func273 rfl<|l0 m (λ g1=>⟨[(0,eD s_),(1,.str v_),(7,aqt s_),(8,iV g1)],[],0⟩) <|λ ab g1 m=>aqr m (λ m=>si m bh λ _ m=>aqj m λ m=>le m) acj
def wO {s_:ap6} {v_:ByteArray} (m:slices_Contains_string s_ v_ r):S 267 [eD s_,.str v_] [] (.bool r) [] :=sp Tryz.func267 rfl<|sq m Ag λ v1 m=>aW m
def Nm {EH:Int} {g_:bL} {r:Int} (m:BT EH g_ r):S 250 [iV EH,kL g_] [] (iV r) [] :=sp Tryz.func250 rfl<|si m bh λ _ m=>si m bh λ _ m=>l0 m (λ g1=>⟨[(0,iV EH),(3,.ptr 0 0 0),(27,aq g_.bH),(28,aqt g_.bH),(29,iV g1)],[adg 0 [.str g_.qW,aq g_.bH,eD g_.aj]],1⟩) <|λ ab g1 m=>si m (λ _ m=>sn m λ _ m=>si m bh λ _ m=>sn m λ _ m=>le m) λ _ m=>l0 m (λ g2=>⟨[(3,.ptr 0 0 0),(7,iV g2)],[adg 0 [.str g_.qW,aq g_.bH,eD g_.aj]],1⟩) <|λ cy g2 m=>si m (λ _ m=>s2 m λ _ _ m=>sn m λ _ m=>si m bh λ _ m=>sn m λ _ m=>le m) λ _ m=>l0 m (λ g3=>⟨[(3,.ptr 0 0 0),(61,eD g_.aj),(62,aqt g_.aj),(63,iV g3)],[adg 0 [.str g_.qW,aq g_.bH,eD g_.aj]],1⟩) <|λ l8 g3 m=>si m (λ _ m=>sn m λ _ m=>sq m yd λ v3 m=>si m bh λ _ m=>sn m λ _ m=>le m) λ _ m=>l0 m (λ g4=>⟨[(3,.ptr 0 0 0),(72,eD g_.aj),(73,aqt g_.aj),(74,iV g4)],[adg 0 [.str g_.qW,aq g_.bH,eD g_.aj]],1⟩) <|λ eE g4 m=>si m (λ _ m=>s2 m λ _ _ m=>sb m λ v6 hv6 m=>cl ((wO hv6).le ⟨(.sl oz (λ _=>rfl) nofun (eS (f:=AV.str) (d:=ByteArray.empty) (by first | omega | exact agm _ _ | exact af3 (agm _ _) om | (simp;omega)))),.refl _,ad6⟩ trivial)<|si m bh λ _ m=>sn m λ _ m=>le m) bh
def DU {p_:bq} {r:Int} (m:xk p_ r):S 213 [lC p_] [] (iV r) [] :=sp Tryz.func213 rfl<|si m bh λ _ m=>si m bh λ _ m=>lf m (λ g1=>⟨[(1,.ptr 0 0 0),(3,.mref 1),(21,aV p_.ax),(22,aqt p_.ax),(23,iV g1.1)],[adg 0 [iV p_.bH,aV p_.ax],(1,some (.map .str [.bool] g1.2))],2⟩) [(1,some 112)] [] <|λ ab g1 m=>aqr m (λ m=>sq m yd λ v5 m=>si m bh λ _ m=>si m bh λ _ m=>sq m Nm λ v6 m=>si m bh λ _ m=>aqj m λ m=>le m) acj
def Bj {l_:ap7} {r:Int} (m:uq l_ r):S 214 [bP l_] [] (iV r) [] :=sp Tryz.func214 rfl<|si m bh λ _ m=>l0 m (λ g1=>⟨[(11,bP l_),(12,aqt l_),(13,iV g1)],[],0⟩) <|λ ab g1 m=>aqr m (λ m=>lf m (λ g6=>⟨[(3,iV g1),(4,.ptr 0 0 0),(11,bP l_),(12,aqt l_),(13,iV g1),(19,aq ((l_.getD g1.toNat cv).cS)),(20,iV ((((l_.getD g1.toNat cv).cS).length:Nat):Int)),(21,iV g6)],[adg 0 [aq ((l_.getD g1.toNat cv).cS)]],1⟩) [(0,some 32)] [] <|λ fL g6 m=>aqm m (λ m=>aqj m λ m=>si m bh λ _ m=>aqj m λ m=>le m) λ m=>l0 m (λ g7=>⟨[(4,.ptr 0 0 0),(7,iV g7),(11,bP l_),(12,aqt l_),(13,iV g1)],[adg 0 [aq ((l_.getD g1.toNat cv).cS)]],1⟩) <|λ ky g7 m=>aqm m (λ m=>aqk m λ m=>aqj m λ m=>si m bh λ _ m=>aqj m λ m=>le m) λ m=>aqj m λ m=>le m) acj
def sx {l_:ap8} {r:Int} (m:nK l_ r):S 105 [bF l_] [] (iV r) [] :=sp Tryz.func105 rfl<|si m bh λ _ m=>l0 m (λ g1=>⟨[(8,bF l_),(9,aqt l_),(10,iV g1)],[],0⟩) <|λ ab g1 m=>aqr m (λ m=>si m bh λ _ m=>aqj m λ m=>le m) acj
def LI {b_:aI} {r:Int} (m:yI b_ r):S 147 [eQ b_] [] (iV r) [] :=sp Tryz.func147 rfl<|sq m jt λ v1 m=>si m bh λ _ m=>sq m mP λ v2 m=>si m bh λ _ m=>sq m DU λ v3 m=>si m bh λ _ m=>sq m Bj λ v4 m=>si m bh λ _ m=>sq m sx λ v5 m=>aW m
def fI {x_:Int} {vX:Int} {kN:Int} (m:jW x_ vX kN r):S 171 [iV x_,iV vX,iV kN] [] (.bool r) [] :=sp Tryz.func171 rfl<|aW m
def Nn {b_:aI} {n_:aC} {eM:Int} {r:Int} (m:BU b_ n_ eM r):S 148 [eQ b_,vC n_,iV eM] [] (iV r) [] :=sp Tryz.func148 rfl<|si m bh λ _ m=>lf m (λ g1=>⟨[(2,iV eM),(3,.ptr 0 0 0),(4,.ptr 1 0 0),(35,cC n_.bO),(36,aqt n_.bO),(37,iV g1)],[adg 0 [aR b_.bj,aQ b_.aX,iV b_.aM.bH,aV b_.aM.ax,bP b_.bc,bF b_.bw],adg 1 [cC n_.bO,du n_.dq,eD n_.aj,aq n_.bc,iV n_.dz,aq n_.bM]],2⟩) [(1,some 8)] [] <|λ ab g1 m=>aqm m (λ m=>aqk m λ m=>sq m fI λ v3 m=>si m bh λ _ m=>aqj m λ m=>le m) λ m=>l0 m (λ g2=>⟨[(2,iV eM),(3,.ptr 0 0 0),(4,.ptr 1 0 0),(68,du n_.dq),(69,aqt n_.dq),(70,iV g2)],[adg 0 [aR b_.bj,aQ b_.aX,iV b_.aM.bH,aV b_.aM.ax,bP b_.bc,bF b_.bw],adg 1 [cC n_.bO,du n_.dq,eD n_.aj,aq n_.bc,iV n_.dz,aq n_.bM]],2⟩) <|λ cy g2 m=>aqm m (λ m=>aqk m λ m=>sq m fI λ v8 m=>sb m λ v9 Lj m=>cl (λ q0=>(fI (Lj q0)))<|si m bh λ _ m=>aqj m λ m=>le m) λ m=>l0 m (λ g3=>⟨[(2,iV eM),(3,.ptr 0 0 0),(4,.ptr 1 0 0),(107,eD n_.aj),(108,aqt n_.aj),(109,iV g3)],[adg 0 [aR b_.bj,aQ b_.aX,iV b_.aM.bH,aV b_.aM.ax,bP b_.bc,bF b_.bw],adg 1 [cC n_.bO,du n_.dq,eD n_.aj,aq n_.bc,iV n_.dz,aq n_.bM]],2⟩) <|λ l8 g3 m=>aqm m (λ m=>aqj m λ m=>sq m yd λ v12 m=>si m bh λ _ m=>aqj m λ m=>le m) λ m=>l0 m (λ g4=>⟨[(2,iV eM),(3,.ptr 0 0 0),(4,.ptr 1 0 0),(118,aq n_.bc),(119,aqt n_.bc),(120,iV g4)],[adg 0 [aR b_.bj,aQ b_.aX,iV b_.aM.bH,aV b_.aM.ax,bP b_.bc,bF b_.bw],adg 1 [cC n_.bO,du n_.dq,eD n_.aj,aq n_.bc,iV n_.dz,aq n_.bM]],2⟩) <|λ eE g4 m=>aqm m (λ m=>aqk m λ m=>sq m fI λ v15 m=>si m bh λ _ m=>aqj m λ m=>le m) λ m=>aqj m λ m=>sq m fI λ v16 m=>si m bh λ _ m=>lf m (λ g5=>⟨[(2,iV eM),(4,.ptr 0 0 0),(141,aq n_.bM),(142,aqt n_.bM),(143,iV g5)],[adg 0 [cC n_.bO,du n_.dq,eD n_.aj,aq n_.bc,iV n_.dz,aq n_.bM]],1⟩) [(0,some 1)] [] <|λ jX g5 m=>aqm m (λ m=>aqk m λ m=>sq m fI λ v19 m=>si m bh λ _ m=>aqj m λ m=>le m) λ m=>l0 m (λ g6=>⟨[(4,.ptr 0 0 0),(17,iV g6)],[adg 0 [cC n_.bO,du n_.dq,eD n_.aj,aq n_.bc,iV n_.dz,aq n_.bM]],1⟩) <|λ fL g6 m=>si m (λ _ m=>aqk m λ m=>aqj m λ m=>si m bh λ _ m=>aqj m λ m=>le m) bh
def vy {b_:aI} {l_:apW} {r:Int} (m:tp b_ l_ r):S 85 [eQ b_,cg l_] [] (iV r) [] :=sp Tryz.func85 rfl<|sq m LI λ v1 m=>si m bh λ _ m=>si m bh λ _ m=>l0 m (λ g1=>⟨[(1,cg l_),(2,.ptr 0 0 0),(17,cg l_),(18,aqt l_),(19,iV g1)],[adg 0 [aR b_.bj,aQ b_.aX,iV b_.aM.bH,aV b_.aM.ax,bP b_.bc,bF b_.bw]],1⟩) <|λ ab g1 m=>aqr m (λ m=>sq m Nn λ v4 m=>si m bh λ _ m=>aqj m λ m=>le m) acj
def uS {l_:apW} {ae:apU} (m:l9 l_ ae r):S 107 [cg l_,aq ae] [] (.bool r) [] :=sp Tryz.func107 rfl<|l0 m (λ g1=>⟨[(0,cg l_),(1,aq ae),(7,aq ae),(8,aqt ae),(9,iV g1)],[],0⟩) <|λ ab g1 m=>si m (λ _ m=>s2 m λ _ _ m=>sq m fI λ v5 m=>sn m λ _ m=>sb m λ v6 hv6 m=>cl (λ q0=>((iw (hv6 q0)).le ⟨(.sl oz (λ _=>rfl) nofun (eS (f:=iV) (d:=0) (by first | omega | exact agm _ _ | exact af3 (agm _ _) om | (simp;omega)))),.refl _,ad6⟩ trivial))<|si m bh λ _ m=>sn m λ _ m=>le m) bh
def Cv {s_:dN} (m:mH s_ r):S 174 [BS s_] [] (.bool r) [] :=sp Tryz.func174 rfl<|sq m uS λ v1 m=>si m bh λ _ m=>lf m (λ g1=>⟨[(1,.ptr 0 0 0),(4,.ptr 1 0 0),(67,aR s_.bm.bj),(68,aqt s_.bm.bj),(69,iV g1)],[adg 0 [aR s_.bm.bj,aQ s_.bm.aX,iV s_.bm.aM.bH,aV s_.bm.aM.ax,bP s_.bm.bc,bF s_.bm.bw,cg s_.cb,aq s_.aO,aq s_.aU.Setting,aD s_.aU.aY.On,aq s_.aU.aY.aT,bp s_.aU.Uses,aD s_.aU.Released,aD s_.aU.bg,.bool s_.fQ],adg 1 [aq s_.aU.Setting,aD s_.aU.aY.On,aq s_.aU.aY.aT,bp s_.aU.Uses,aD s_.aU.Released,aD s_.aU.bg]],2⟩) [(1,some 56)] [] <|λ ab g1 m=>aqm m (λ m=>aqk m λ m=>aqj m λ m=>sq m fI λ v4 m=>si m bh λ _ m=>aqj m λ m=>le m) λ m=>l0 m (λ g2=>⟨[(1,.ptr 0 0 0),(87,bp s_.aU.Uses),(88,aqt s_.aU.Uses),(89,iV g2)],[adg 0 [aR s_.bm.bj,aQ s_.bm.aX,iV s_.bm.aM.bH,aV s_.bm.aM.ax,bP s_.bm.bc,bF s_.bm.bw,cg s_.cb,aq s_.aO,aq s_.aU.Setting,aD s_.aU.aY.On,aq s_.aU.aY.aT,bp s_.aU.Uses,aD s_.aU.Released,aD s_.aU.bg,.bool s_.fQ]],1⟩) <|λ cy g2 m=>aqs m (λ m=>sq m fI λ v7 m=>si m bh λ _ m=>aqj m λ m=>le m) acj
def Hk {x_:aP} {iA:apY} (m:mW x_ iA r):S 226 [rn x_,.ro [aR iA]] [] (.bool r) [] :=sp Tryz.func226 rfl<|aqj m λ m=>sq m eX λ v1 m=>sb m λ v2 hv2 m=>cl (λ q0=>(eX (hv2 q0)))<|sb m λ v3 hv3 m=>cl (λ q0=>(eX (hv3 q0)))<|aW m
def tE {s_:ap4} {f_:apY} {r:Int} (m:ou s_ f_ r):S 256 [cC s_,.fn 226 [.ro [aR f_]]] [] (iV r) [] :=sp Tryz.func256 rfl<|l0 m (λ g1=>⟨[(0,cC s_),(1,.fn 226 [.ro [aR f_]]),(7,aqt s_),(8,iV g1)],[],0⟩) <|λ ab g1 m=>aqr m (λ m=>sq m Hk λ v3 m=>si m bh λ _ m=>aqj m λ m=>le m) acj
def qQ {s_:ap4} {f_:apY} (m:iY s_ f_ r):S 225 [cC s_,.fn 226 [.ro [aR f_]]] [] (.bool r) [] :=sp Tryz.func225 rfl<|sq m tE λ v1 m=>aW m
def zq {m_:ap4} (m:rq l_ m_ r):S 165 [aR l_,cC m_] [] (.bool r) [] :=sp Tryz.func165 rfl<|sq m jt λ v1 m=>sb m λ v2 hv2 m=>cl (λ q0=>(qQ (hv2 q0)))<|aW m
def lU (m:mv l_ s_ r):S 228 [aR l_,aq s_] [] (.bool r) [] :=sp Tryz.func228 rfl<|si m bh λ _ m=>l0 m (λ g1=>⟨[(0,aR l_),(12,aq s_),(13,aqt s_),(14,iV g1)],[],0⟩) <|λ ab g1 m=>aqs m (λ m=>aqj m λ m=>sq m eX λ v3 m=>si m bh λ _ m=>aqj m λ m=>le m) acj
def zr {fN:Int} {r:Int} (m:vY l_ s_ fN r):S 268 [aR l_,aq s_,iV fN] [] (iV r) [] :=sp Tryz.func268 rfl<|aqj m λ m=>si m bh λ _ m=>aqm m (λ m=>aqk m λ m=>sn m bh) λ m=>sn m bh
def oc {a_:Int} {b_:Int} {r:Int} (m:mX a_ b_ r):S 271 [iV a_,iV b_] [] (iV r) [] :=sp Tryz.func271 rfl<|l0 m (λ g1=>⟨[(0,iV g1.1),(1,iV g1.2)],[],0⟩) <|λ ab g1 m=>si m (λ _ m=>aqj m λ m=>le m) bh
variable {r_:bx}
def pF (m:pM r_ r):S 258 [mG r_] [] (.bool r) [] :=sp Tryz.func258 rfl<|sb m λ v1 hv1 m=>cl (λ q0=>(oc (hv1 q0)))<|aW m
def LJ {lF:Int} {nL:Int} {iA:Int} {r:Int×Int} (m:yJ lF nL iA r):S 275 [.ro [iV lF,iV nL],.ro [iV iA]] [] (.fP [iV r.1,iV r.2]) [] :=sp Tryz.func275 rfl<|sq m oc λ v1 m=>aqk m λ m=>sn m bh
def Ij {ru:Int} {rv:Int} {r:bx×Int} (m:ER ru rv r):S 277 [iV ru,iV rv] [] (.fP [mG r.1,iV r.2]) [] :=sp Tryz.func277 rfl<|si m bh λ _ m=>sq m oc λ v1 m=>aqk m λ m=>sq m pF λ v2 m=>si m bh bh
variable {k_:Int}
def LK {lG:Int} {lH:Int} {lI:Int} {r:bx×Int} (m:yK r_ k_ lG lH lI r):S 274 [mG r_,iV k_,.fn 275 [.ro [iV lG,iV lH],.ro [iV lI]]] [] (.fP [mG r.1,iV r.2]) [] :=sp Tryz.func274 rfl<|sq m pF λ v1 m=>si m bh λ _ m=>si m bh λ _ m=>sq m LJ λ v2 m=>sq m Ij λ v3 m=>aW m
def Gj {r:bx×Int} (m:GL r_ k_ r):S 269 [mG r_,iV k_] [] (.fP [mG r.1,iV r.2]) [] :=sp Tryz.func269 rfl<|sq m LK λ v1 m=>aW m
def Ko {pk:Int} {jj:Int} {gB:Int} {r:Int×Int} (m:vZ pk jj gB r):S 276 [.ro [iV pk],.ro [iV jj,iV gB]] [] (.fP [iV r.1,iV r.2]) [] :=sp Tryz.func276 rfl<|sq m oc λ v1 m=>aqk m λ m=>si m bh λ _ m=>aqk m λ m=>sn m bh
def Hl {lG:Int} {lH:Int} {lI:Int} {r:bx×Int} (m:ry r_ k_ lG lH lI r):S 274 [mG r_,iV k_,.fn 276 [.ro [iV lG],.ro [iV lH,iV lI]]] [] (.fP [mG r.1,iV r.2]) [] :=sp Tryz.func274 rfl<|sq m pF λ v1 m=>si m bh λ _ m=>si m bh λ _ m=>sq m Ko λ v2 m=>sq m Ij λ v3 m=>aW m
def DV {r:bx×Int} (m:BV r_ k_ r):S 270 [mG r_,iV k_] [] (.fP [mG r.1,iV r.2]) [] :=sp Tryz.func270 rfl<|sq m Hl λ v1 m=>aW m
def Bk {r:ap5} (m:qe l_ s_ r):S 257 [aR l_,aq s_] [] (jN r) [] :=sp Tryz.func257 rfl<|sn m λ _ m=>lf m (λ g1=>⟨[(0,aR l_),(1,aq s_),(5,adh 0 g1.2),(13,aR l_),(14,aqt l_),(15,iV g1.1)],[adf 0 2 mG cD g1.2],1⟩) [(0,some 24)] [] <|λ ab g1 m=>si m (λ _ m=>s2 m λ _ _ m=>sn m λ _ m=>sq m zr λ v7 m=>si m (λ _ m=>s2 m λ _ _ m=>le m) λ _ m=>sn m λ _ m=>si m (λ _ m=>s2 m λ _ _ m=>le m) λ _ m=>si m (λ _ m=>sn m λ _ m=>sq m Gj λ v8 m=>s2 m λ _ _ m=>le m) λ _ m=>si m (λ _ m=>sn m λ _ m=>sq m DV λ v9 m=>s2 m λ _ _ m=>le m) λ _ m=>s2 m λ _ _ m=>sn m λ _ m=>le m) λ _ m=>by cases m;exact rt [0] []
def kW {vX:Int} {kN:Int} (m:mY r_ vX kN r):S 230 [mG r_,iV vX,iV kN] [] (.bool r) [] :=sp Tryz.func230 rfl<|sq m pF λ v1 m=>si m bh λ _ m=>aqk m λ m=>aW m
def I6 {x_:aP} {iA:ap5} (m:oN x_ iA r):S 259 [rn x_,.ro [jN iA]] [] (.bool r) [] :=sp Tryz.func259 rfl<|aqk m λ m=>sb m λ v1 hv1 m=>cl (λ q0=>(kW (hv1 q0)))<|aW m
def qR {s_:ap4} {f_:ap5} {r:Int} (m:ma s_ f_ r):S 256 [cC s_,.fn 259 [.ro [jN f_]]] [] (iV r) [] :=sp Tryz.func256 rfl<|l0 m (λ g1=>⟨[(0,cC s_),(1,.fn 259 [.ro [jN f_]]),(7,aqt s_),(8,iV g1)],[],0⟩) <|λ ab g1 m=>aqr m (λ m=>sq m I6 λ v3 m=>si m bh λ _ m=>aqj m λ m=>le m) acj
def oG {s_:ap4} {f_:ap5} (m:gC s_ f_ r):S 225 [cC s_,.fn 259 [.ro [jN f_]]] [] (.bool r) [] :=sp Tryz.func225 rfl<|sq m qR λ v1 m=>aW m
def LL {m_:ap4} (m:yL l_ s_ m_ r):S 232 [aR l_,aq s_,cC m_] [] (.bool r) [] :=sp Tryz.func232 rfl<|sq m zq λ v1 m=>sb m λ v2 hv2 m=>cl (λ q0=>(lU (hv2 q0)))<|si m bh λ _ m=>sq m Bk λ v3 m=>lf m (λ g1=>⟨[(2,cC m_),(7,.ptr 0 0 0),(23,aR l_),(24,aqt l_),(25,iV g1)],[adg 0 [jN v3]],1⟩) [(0,some 112)] [] <|λ ab g1 m=>aqm m (λ m=>aqk m λ m=>aqj m λ m=>sb m λ v6 hv6 m=>cl (λ q0=>(kW (hv6 q0)))<|si m bh λ _ m=>aqj m λ m=>le m) λ m=>sq m oG λ v7 m=>aW m
def Bl {s_:dN} (m:lJ s_ r):S 175 [BS s_] [] (.bool r) [] :=sp Tryz.func175 rfl<|sb m λ v1 hv1 m=>cl ((LL hv1).le ⟨.refl _,.refl _,acK,ad6⟩ trivial)<|aW m
def Bm {r:ap5×Int} (m:qg l_ s_ r):S 229 [aR l_,aq s_] [] (.fP [jN r.1,iV r.2]) [] :=sp Tryz.func229 rfl<|sq m jt λ v1 m=>si m bh λ _ m=>sq m lU λ v2 m=>si m bh λ _ m=>sq m Bk λ v3 m=>aW m
def Bn {s_:dN} (m:lK s_ r):S 176 [BS s_] [] (.bool r) [] :=sp Tryz.func176 rfl<|sq m Bm λ v1 m=>si m bh λ _ m=>l0 m (λ g1=>⟨[(1,.ptr 0 0 0),(3,jN v1.1),(23,aq s_.aO),(24,aqt s_.aO),(25,iV g1)],[adg 0 [aR s_.bm.bj,aQ s_.bm.aX,iV s_.bm.aM.bH,aV s_.bm.aM.ax,bP s_.bm.bc,bF s_.bm.bw,cg s_.cb,aq s_.aO,aq s_.aU.Setting,aD s_.aU.aY.On,aq s_.aU.aY.aT,bp s_.aU.Uses,aD s_.aU.Released,aD s_.aU.bg,.bool s_.fQ]],1⟩) <|λ ab g1 m=>aqs m (λ m=>l0 m (λ g4=>⟨[(1,.ptr 0 0 0),(3,jN v1.1),(23,aq s_.aO),(24,aqt s_.aO),(25,iV g1),(34,cC ((s_.cb.getD ((s_.aO.getD g1.toNat 0).toNat) bb).bO)),(35,iV ((((s_.cb.getD ((s_.aO.getD g1.toNat 0).toNat) bb).bO).length:Nat):Int)),(36,iV g4)],[adg 0 [aR s_.bm.bj,aQ s_.bm.aX,iV s_.bm.aM.bH,aV s_.bm.aM.ax,bP s_.bm.bc,bF s_.bm.bw,cg s_.cb,aq s_.aO,aq s_.aU.Setting,aD s_.aU.aY.On,aq s_.aU.aY.aT,bp s_.aU.Uses,aD s_.aU.Released,aD s_.aU.bg,.bool s_.fQ]],1⟩) <|λ eE g4 m=>aqm m (λ m=>aqk m λ m=>aqk m λ m=>si m bh λ _ m=>aqj m λ m=>le m) λ m=>aqj m λ m=>le m) acj
def jq {s_:apV} {r:apV} (m:gg s_ r):S 162 [aD s_] [] (adh 0 r) [.row 1 r.length (aS AV.bool false r)] :=by
 obtain⟨h1,m⟩:=m;have m:r=s_:=m;subst m;refine pK (ct:=[1]) eC Tryz.func162 rfl rfl (ahk rfl) dk (ahk rfl) ?_;(conv=>whnf);refine OE (ct:=[]) eC (eC.slice (t:=36) (e:=4) rfl rfl rfl).1 dk dk dk dk dk [(2,ade),(0,aD r)] [] 8 rfl ?_ (λ hn=>?_) ?_
 ·exact rfl
 ·(conv=>whnf);have hn:r.length=0:=hn;refine⟨[],[(0,none)],?_⟩;(conv=>whnf);exact⟨⟨rfl,ad6,⟨hn,ad6⟩⟩,⟨rfl,rfl,rfl,rfl,rfl,hn⟩⟩
 (conv=>whnf);refine⟨by rw[ahq];exact h1,?_⟩;(conv=>whnf);refine⟨[],[(0,some 24)],?_⟩;(conv=>whnf);exact⟨⟨rfl,ad6,⟨⟨rfl,ahq _,eG (l:=[]) rfl (λ _ h=>absurd h (ag9 _)) rfl aqv⟩,ad6⟩⟩,⟨rfl,rfl,rfl,ahq _,nofun⟩⟩
def mF {r:apU} (m:slices_Clone_int s_ r):S 163 [aq s_] [] (adh 0 r) [.row 1 r.length (aS iV 0 r)] :=by
 obtain⟨h1,m⟩:=m;have m:r=s_:=m;subst m;refine pK (ct:=[1]) eC Tryz.func163 rfl rfl (ahk rfl) dk (ahk rfl) ?_;(conv=>whnf);refine OE (ct:=[]) eC (eC.slice (t:=22) (e:=3) rfl rfl rfl).1 dk dk dk dk dk [(2,ade),(0,aq r)] [] 8 rfl ?_ (λ hn=>?_) ?_
 ·exact rfl
 ·(conv=>whnf);have hn:r.length=0:=hn;refine⟨[],[(0,none)],?_⟩;(conv=>whnf);exact⟨⟨rfl,ad6,⟨hn,ad6⟩⟩,⟨rfl,rfl,rfl,rfl,rfl,hn⟩⟩
 (conv=>whnf);refine⟨by rw[ahq];exact h1,?_⟩;(conv=>whnf);refine⟨[],[(0,some 24)],?_⟩;(conv=>whnf);exact⟨⟨rfl,ad6,⟨⟨rfl,ahq _,eG (l:=[]) rfl (λ _ h=>absurd h (ag9 _)) rfl aqv⟩,ad6⟩⟩,⟨rfl,rfl,rfl,ahq _,nofun⟩⟩
def Gk {r_:aK} {r:apV×apU} (m:Az r_ r):S 172 [lD r_] [] (.agg [adh 0 r.1,adh 1 r.2]) [.row 1 r.1.length (aS AV.bool false r.1),.row 1 r.2.length (aS iV 0 r.2)] :=sp Tryz.func172 rfl<|sq m jq λ v1 m=>sq m mF λ v2 m=>by cases m;exact rt [] [(0,some 32),(1,some 56)]
def zt {l_:ap1} {r_:aK} (m:rz l_ r_ r):S 155 [aQ l_,lD r_] [] (.bool r) [] :=sp Tryz.func155 rfl<|sq m mP λ v1 m=>si m bh λ _ m=>l0 m (λ g1=>⟨[(0,aQ l_),(27,aq r_.aT),(28,aqt r_.aT),(29,iV g1)],[],0⟩) <|λ ab g1 m=>aqs m (λ m=>aqj m λ m=>sq m ek λ v4 m=>si m bh λ _ m=>aqj m λ m=>le m) acj
def Hm {x_:bf} {iA:ap1} (m:mZ x_ iA r):S 157 [Aw x_,.ro [aQ iA]] [] (.bool r) [] :=sp Tryz.func157 rfl<|aqj m λ m=>sq m ek λ v1 m=>sb m λ v2 hv2 m=>cl (λ q0=>(ek (hv2 q0)))<|sb m λ v3 hv3 m=>cl (λ q0=>(ek (hv3 q0)))<|sb m λ v4 hv4 m=>cl (λ q0=>(ek (hv4 q0)))<|aW m
def uT {s_:ap3} {f_:ap1} {r:Int} (m:oO s_ f_ r):S 220 [du s_,.fn 157 [.ro [aQ f_]]] [] (iV r) [] :=sp Tryz.func220 rfl<|l0 m (λ g1=>⟨[(0,du s_),(1,.fn 157 [.ro [aQ f_]]),(7,aqt s_),(8,iV g1)],[],0⟩) <|λ ab g1 m=>aqr m (λ m=>sq m Hm λ v3 m=>si m bh λ _ m=>aqj m λ m=>le m) acj
def sy {s_:ap3} {f_:ap1} (m:jk s_ f_ r):S 156 [du s_,.fn 157 [.ro [aQ f_]]] [] (.bool r) [] :=sp Tryz.func156 rfl<|sq m uT λ v1 m=>aW m
variable {d_:ap3}
def zu {l_:ap1} (m:rA l_ d_ r):S 90 [aQ l_,du d_] [] (.bool r) [] :=sp Tryz.func90 rfl<|sq m mP λ v1 m=>sb m λ v2 hv2 m=>cl (λ q0=>(sy (hv2 q0)))<|aW m
def lr {s_:ap1} {r:ap1} (m:fE s_ r):S 221 [aQ s_] [] (.fn 252 [.ro [aQ r]]) [] :=by
 have m:r=s_:=m;subst m;exact QC r
def LM {l_:ap1} {r:apV} (m:yM l_ d_ r):S 159 [aQ l_,du d_] [] (aD r) [] :=PJ [11] Tryz.func159 rfl<|sn m λ _ m=>LG [11] m (λ g1=>⟨[(0,aQ l_),(5,.ptr 0 0 0),(13,du d_),(14,aqt d_),(15,iV g1.1)],[adg 0 [adh 1 g1.2],adf 1 1 AV.bool false g1.2],2⟩) [(0,some 32),(1,some 24)] [] <|λ ab g1 m=>si m (λ _ m=>s2 m λ _ _ m=>sn m λ _ m=>le m) λ _ m=>sq m lr λ v1 m=>by
 have h11:=m.1;have m:=m.2;refine QX (ct:=[11]) (ct':=[11]) eC dk dk dk dk (Ro v1 h11) rfl (by intro v hv;simp at hv;exact⟨_,hv⟩) m (λ g2=>⟨[(5,.ptr 0 0 0),(25,.fn 252 [.ro [aQ v1]])],[adg 0 [adh 1 g2],adf 1 1 AV.bool false g2],2⟩) (λ k2 g2=>⟨[(5,.ptr 0 0 0),(8,iV ((v1.length - 1 - k2:Nat):Int)),(9,.ptr 2 0 0)],[adg 0 [adh 1 g2],adf 1 1 AV.bool false g2,adg 2 [iV ((v1.getD (v1.length - 1 - k2) ao).aJ),aq ((v1.getD (v1.length - 1 - k2) ao).bC),iV ((v1.getD (v1.length - 1 - k2) ao).dR),iV ((v1.getD (v1.length - 1 - k2) ao).dW),.bool ((v1.getD (v1.length - 1 - k2) ao).dD)]],3⟩) (λ _ _=>r2) [] ⟨rfl,⟨r4,⟨rfl,KN.refl _,ad6⟩,ad6⟩,⟨⟨aa7,ad6⟩,abK,ad6⟩⟩ ?_ ?_ ?_
 ·intro k2 ll g2 hk;refine⟨ahk rfl,?_⟩;(conv=>whnf);exact⟨[(2,some 10)],⟨rfl,⟨r4,r2,r4,ad6⟩,⟨⟨aa7,ad6⟩,abK,⟨r2,sr,r2,r2,rfl,ad6⟩,ad6⟩⟩⟩
 ·intro k2 ll cy g2 hk m;(conv=>whnf);refine EB (ct:=[11]) eC dk dk (vb v1 cy k2) r (λ g5=>⟨[(5,.ptr 0 0 0),(8,iV ((v1.length - 1 - k2:Nat):Int)),(9,.ptr 2 0 0)],[adg 0 [adh 1 g5],adf 1 1 AV.bool false g5,adg 2 [iV ((v1.getD (v1.length - 1 - k2) ao).aJ),aq ((v1.getD (v1.length - 1 - k2) ao).bC),iV ((v1.getD (v1.length - 1 - k2) ao).dR),iV ((v1.getD (v1.length - 1 - k2) ao).dW),.bool ((v1.getD (v1.length - 1 - k2) ao).dD)]],3⟩) ?_ (λ g5 m=>?_)
  ·refine sn m λ h28 m=>sn m λ h29 m=>?_;(conv=>whnf);exact⟨(g2.set (((v1.length - 1 - k2:Nat):Int).toNat) ((g2.getD (((v1.length - 1 - k2:Nat):Int).toNat) false)||(v1.getD (v1.length - 1 - k2) ao).dD)),[],[],m,⟨rfl,⟨r4,r2,r4,ad6⟩,⟨⟨⟨rfl,rfl,rfl,oz,nofun⟩,ad6⟩,⟨rfl,oz,(jE aqv rfl (.refl _))⟩,⟨r2,sr,r2,r2,rfl,ad6⟩,ad6⟩⟩⟩
  refine sn m λ h26 m=>si m (λ c6 m=>?_) (λ c6 m=>?_)
  ·refine sn m λ h27 m=>?_;(conv=>whnf);exact⟨(g5.set (((v1.getD (v1.length - 1 - k2) ao).aJ).toNat) true),[],m,⟨rfl,⟨r4,⟨rfl,KN.refl _,ad6⟩,ad6⟩,⟨⟨⟨rfl,rfl,rfl,oz,nofun⟩,ad6⟩,⟨rfl,oz,(jE aqv rfl (.refl _))⟩,ad6⟩⟩⟩
  (conv=>whnf);exact⟨g5,[],m,⟨rfl,⟨r4,⟨rfl,KN.refl _,ad6⟩,ad6⟩,⟨⟨aa7,ad6⟩,abK,ad6⟩⟩⟩
 intro g2 m;(conv=>whnf);have m:r=g2:=m;subst m;refine⟨[1],[],?_⟩;(conv=>whnf);exact⟨⟨rfl,ad6,ad6⟩,sf⟩
def Kp {l_:ap1} {r:apU} (m:wb l_ d_ r):S 160 [aQ l_,du d_] [] (aq r) [] :=sp Tryz.func160 rfl<|sn m λ _ m=>lf m (λ g1=>⟨[(0,aQ l_),(5,.ptr 0 0 0),(13,du d_),(14,aqt d_),(15,iV g1.1)],[adg 0 [adh 1 g1.2],adf 1 1 iV 0 g1.2],2⟩) [(0,some 32),(1,some 24)] [] <|λ ab g1 m=>si m (λ _ m=>s2 m λ _ _ m=>s2 m λ _ _ m=>sn m λ _ m=>le m) λ _ m=>sq m lr λ v1 m=>by
 have h17:=m.1;have m:=m.2;refine QX (ct:=[]) (ct':=[]) eC dk dk dk dk (Ro v1 h17) rfl (by intro v hv;simp at hv;exact⟨_,hv⟩) m (λ g2=>⟨[(5,.ptr 0 0 0),(30,.fn 252 [.ro [aQ v1]])],[adg 0 [adh 1 g2],adf 1 1 iV 0 g2],2⟩) (λ k2 g2=>⟨[(5,.ptr 0 0 0),(8,iV ((v1.length - 1 - k2:Nat):Int)),(9,.ptr 2 0 0)],[adg 0 [adh 1 g2],adf 1 1 iV 0 g2,adg 2 [iV ((v1.getD (v1.length - 1 - k2) ao).aJ),aq ((v1.getD (v1.length - 1 - k2) ao).bC),iV ((v1.getD (v1.length - 1 - k2) ao).dR),iV ((v1.getD (v1.length - 1 - k2) ao).dW),.bool ((v1.getD (v1.length - 1 - k2) ao).dD)]],3⟩) (λ _ _=>r2) [] ⟨rfl,⟨r4,⟨rfl,KN.refl _,ad6⟩,ad6⟩,⟨⟨aa7,ad6⟩,abK,ad6⟩⟩ ?_ ?_ ?_
 ·intro k2 ll g2 hk;refine⟨ahk rfl,?_⟩;(conv=>whnf);exact⟨[(2,some 10)],⟨rfl,⟨r4,r2,r4,ad6⟩,⟨⟨aa7,ad6⟩,abK,⟨r2,sr,r2,r2,rfl,ad6⟩,ad6⟩⟩⟩
 ·intro k2 ll cy g2 hk m;refine si m (λ c6 m=>?_) (λ c6 m=>?_)
  ·refine sn m λ h26 m=>sn m λ h27 m=>sn m λ h28 m=>sn m λ h29 m=>?_;(conv=>whnf);exact⟨(g2.set (((v1.getD (v1.length - 1 - k2) ao).aJ).toNat) ((g2.getD (((v1.getD (v1.length - 1 - k2) ao).aJ).toNat) 0)+(g2.getD (((v1.length - 1 - k2:Nat):Int).toNat) 0))),[],m,⟨rfl,⟨r4,⟨rfl,KN.refl _,ad6⟩,ad6⟩,⟨⟨⟨rfl,rfl,rfl,oz,nofun⟩,ad6⟩,⟨rfl,oz,(jE aqv rfl (.refl _))⟩,ad6⟩⟩⟩
  (conv=>whnf);exact⟨g2,[],m,⟨rfl,⟨r4,⟨rfl,KN.refl _,ad6⟩,ad6⟩,⟨⟨aa7,ad6⟩,abK,ad6⟩⟩⟩
 intro g2 m;(conv=>whnf);have m:r=g2:=m;subst m;refine⟨[1],[],?_⟩;(conv=>whnf);exact⟨⟨rfl,ad6,ad6⟩,sf⟩
def Hn {x_:bf} {iA:ap1} {we:apV} {pN:apU} (m:na x_ iA we pN r):S 161 [Aw x_,.ro [aQ iA],.ro [aD we,aq pN]] [] (.bool r) [] :=sp Tryz.func161 rfl<|aqk m λ m=>aqj m λ m=>sq m ek λ v1 m=>aW m
def sA {s_:ap3} {qi:ap1} {pO:apV} {qJ:apU} {r:Int} (m:mI s_ qi pO qJ r):S 220 [du s_,.fn 161 [.ro [aQ qi],.ro [aD pO,aq qJ]]] [] (iV r) [] :=sp Tryz.func220 rfl<|l0 m (λ g1=>⟨[(0,du s_),(1,.fn 161 [.ro [aQ qi],.ro [aD pO,aq qJ]]),(7,aqt s_),(8,iV g1)],[],0⟩) <|λ ab g1 m=>aqr m (λ m=>sq m Hn λ v3 m=>si m bh λ _ m=>aqj m λ m=>le m) acj
def ph {s_:ap3} {qi:ap1} {pO:apV} {qJ:apU} (m:gV s_ qi pO qJ r):S 156 [du s_,.fn 161 [.ro [aQ qi],.ro [aD pO,aq qJ]]] [] (.bool r) [] :=sp Tryz.func156 rfl<|sq m sA λ v1 m=>aW m
def sB {l_:ap1} {r_:aK} (m:nM l_ r_ d_ r):S 91 [aQ l_,lD r_,du d_] [] (.bool r) [] :=sp Tryz.func91 rfl<|sq m zt λ v1 m=>sb m λ v2 hv2 m=>cl (λ q0=>(zu (hv2 q0)))<|si m bh λ _ m=>sq m LM λ v3 m=>sq m Kp λ v4 m=>lf m (λ g1=>⟨[(2,du d_),(3,.ptr 0 0 0),(4,.ptr 1 0 0),(7,aD v3),(8,aq v4),(28,aQ l_),(29,aqt l_),(30,iV g1)],[adg 0 [aQ l_],adg 1 [aD r_.On,aq r_.aT]],2⟩) [(1,some 8)] [] <|λ ab g1 m=>aqm m (λ m=>aqk m λ m=>aqm m (λ m=>aqj m λ m=>si m bh λ _ m=>aqj m λ m=>le m) λ m=>aqk m λ m=>aqk m λ m=>aqk m λ m=>aqk m λ m=>si m bh λ _ m=>aqj m λ m=>le m) λ m=>sq m ph λ v5 m=>aW m
def yx {s_:dN} (m:jY s_ r):S 177 [BS s_] [] (.bool r) [] :=sp Tryz.func177 rfl<|lf m (λ g1=>⟨[(1,.ptr 0 0 0),(3,adh 1 g1.2),(7,aq s_.aO),(8,aqt s_.aO),(9,iV g1.1)],[adg 0 [aR s_.bm.bj,aQ s_.bm.aX,iV s_.bm.aM.bH,aV s_.bm.aM.ax,bP s_.bm.bc,bF s_.bm.bw,cg s_.cb,aq s_.aO,aq s_.aU.Setting,aD s_.aU.aY.On,aq s_.aU.aY.aT,bp s_.aU.Uses,aD s_.aU.Released,aD s_.aU.bg,.bool s_.fQ],adf 1 4 Aw cw g1.2],2⟩) [(1,none)] [] <|λ ab g1 m=>aqm m (λ m=>aqk m λ m=>aqk m λ m=>lc [(1,some 90)] [] m) λ m=>sq m Gk λ v1 m=>sq m sB λ v2 m=>aW m
def LN {p_:bq} {l_:aqb} {r:((Nat->Int)×Int)} (m:yN p_ l_ r):S 260 [lC p_,HH l_] [] (.fP [ad3 r.1,iV r.2]) [] :=sp Tryz.func260 rfl<|lf m (λ g1=>⟨[(1,HH l_),(2,.ptr 0 0 0),(4,.ptr 1 0 0),(6,.ptr 2 0 0),(13,iV g1.1)],[adg 0 [iV p_.bH,aV p_.ax],(1,some (.row 1 64 (DZ iV g1.2.1))),(2,some (.row 1 64 (DZ iV g1.2.2)))],3⟩) [(1,some 8),(2,some 24)] [] <|λ ab g1 m=>aqm m (λ m=>aqk m λ m=>le m) λ m=>sq m DU λ v1 m=>si m bh λ _ m=>aqj m λ m=>lf m (λ g2=>⟨[(2,.ptr 0 0 0),(4,.ptr 1 0 0),(6,.ptr 2 0 0),(8,adh 3 g2.2.2),(27,HH l_),(28,aqt l_),(29,iV g2.1)],[adg 0 [iV p_.bH,aV p_.ax],(1,some (.row 1 64 (DZ iV g1.2.1))),(2,some (.row 1 64 (DZ iV g2.2.1))),adf 3 1 AV.bool false g2.2.2],4⟩) [(3,some 59)] [] <|λ cy g2 m=>aqs m (λ m=>si m bh λ _ m=>aqj m λ m=>si m bh λ _ m=>aqk m λ m=>lf m (λ g5=>⟨[(2,.ptr 0 0 0),(4,.ptr 1 0 0),(6,.ptr 2 0 0),(8,adh 3 g5.2.2),(10,.ptr 4 0 0),(27,HH l_),(28,aqt l_),(29,iV g2.1),(79,aq ((p_.ax.getD (((l_.getD g2.1.toNat di).aZ).toNat) ay).bH)),(80,iV ((((p_.ax.getD (((l_.getD g2.1.toNat di).aZ).toNat) ay).bH).length:Nat):Int)),(81,iV g5.1)],[adg 0 [iV p_.bH,aV p_.ax],(1,some (.row 1 64 (DZ iV g1.2.1))),(2,some (.row 1 64 (DZ iV g5.2.1))),adf 3 1 AV.bool false g5.2.2,adg 4 [iV ((l_.getD g2.1.toNat di).aZ),iV ((l_.getD g2.1.toNat di).bD)]],5⟩) [(4,some 28)] [] <|λ jX g5 m=>aqm m (λ m=>aqk m λ m=>si m bh λ _ m=>aqk m λ m=>le m) λ m=>aqj m λ m=>le m) acj
def Ah {s_:Nat} {bI:apU} {r:apU} (m:kD s_ bI r):S 163 [.bV 0 0 s_ false] [.row 1 bI.length (aS iV 0 bI)] (adh 1 r) [.row 1 bI.length (aS iV 0 bI),.row 1 r.length (aS iV 0 r)] :=by
 obtain⟨⟨h0,h1⟩,m⟩:=m;have m:r=bI.take s_:=m;have hl:r.length=s_:=by rw[m,afs];omega
 refine pK (ct:=[1]) eC Tryz.func163 rfl rfl (ahk rfl) dk (ahk rfl) ?_;(conv=>whnf);refine Wu (ct:=[]) eC (eC.slice (t:=22) (e:=3) rfl rfl rfl).1 dk dk dk dk dk [(2,ade),(0,.bV 0 0 s_ false)] [adf 0 1 iV 0 bI] 9 rfl rfl ?_ (λ hn=>?_) ?_
 ·exact rfl
 ·(conv=>whnf);have hn:r.length=0:=hl.trans hn;refine⟨[],[(1,none)],?_⟩;(conv=>whnf);exact⟨⟨rfl,ad6,⟨⟨rfl,rfl,λ _ _=>.refl _⟩,hn,ad6⟩⟩,⟨rfl,rfl,rfl,rfl,rfl,hn⟩⟩
 (conv=>whnf);refine⟨by rw[ahq];exact h1,?_⟩;(conv=>whnf);refine⟨[],[(1,some 25)],?_⟩;(conv=>whnf);subst m;exact⟨⟨rfl,ad6,⟨⟨rfl,rfl,λ _ _=>.refl _⟩,⟨rfl,(ahq _).trans hl.symm,eG (l:=[]) rfl (λ _ h=>absurd h (ag9 _)) hl.symm (eS (f:=iV) (d:=0) h0)⟩,ad6⟩⟩,⟨rfl,rfl,rfl,(ahq _).trans hl.symm,nofun⟩⟩
def LO {p_:bq} {l_:aqb} {r:apU×Int} (m:yO p_ l_ r):S 233 [lC p_,HH l_] [] (.fP [aq r.1,iV r.2]) [] :=PJ [4,6] Tryz.func233 rfl<|sq m LN λ v1 m=>ck [4,6] (xn p_) r (λ g1=>⟨[(2,.ptr 0 0 0),(6,.ptr 1 0 0)],[adg 0 [iV p_.bH,aV p_.ax],(1,some (.row 1 64 (DZ iV g1)))],2⟩) (si m bh λ _ m=>lce [(1,some 72)] [] m ⟨rfl,⟨r4,r4,ad6⟩,⟨⟨r2,sr,ad6⟩,⟨rfl,rfl,(QV (f:=iV) (X:=v1.1) (n:=64) (λ _=>rfl))⟩,ad6⟩⟩) λ g1 m=>sn m λ _ m=>sb m λ v2 hv2 m=>cl ((Ah hv2).le ⟨.refl _,ad6⟩ ⟨⟨rfl,oz,(ad2 (f:=iV) (X:=g1))⟩,ad6⟩)<|by cases m;exact rt [26] []
def D9 {s_:dN} (m:nN s_ r):S 178 [BS s_] [] (.bool r) [] :=sp Tryz.func178 rfl<|lf m (λ g1=>⟨[(1,.ptr 0 0 0),(3,adh 1 g1.2),(10,bp s_.aU.Uses),(11,aqt s_.aU.Uses),(12,iV g1.1)],[adg 0 [aR s_.bm.bj,aQ s_.bm.aX,iV s_.bm.aM.bH,aV s_.bm.aM.ax,bP s_.bm.bc,bF s_.bm.bw,cg s_.cb,aq s_.aO,aq s_.aU.Setting,aD s_.aU.aY.On,aq s_.aU.aY.aT,bp s_.aU.Uses,aD s_.aU.Released,aD s_.aU.bg,.bool s_.fQ],adf 1 2 ad4 di g1.2],2⟩) [(1,none)] [] <|λ ab g1 m=>aqm m (λ m=>aqk m λ m=>aqj m λ m=>lc [(1,some 74)] [] m) λ m=>sq m LO λ v1 m=>aW m
def ye {s_:dN} (m:jF s_ r):S 179 [BS s_] [] (.bool r) [] :=sp Tryz.func179 rfl<|l0 m (λ g1=>⟨[(1,.ptr 0 0 0),(11,aq s_.aO),(12,aqt s_.aO),(13,iV g1)],[adg 0 [aR s_.bm.bj,aQ s_.bm.aX,iV s_.bm.aM.bH,aV s_.bm.aM.ax,bP s_.bm.bc,bF s_.bm.bw,cg s_.cb,aq s_.aO,aq s_.aU.Setting,aD s_.aU.aY.On,aq s_.aU.aY.aT,bp s_.aU.Uses,aD s_.aU.Released,aD s_.aU.bg,.bool s_.fQ]],1⟩) <|λ ab g1 m=>aqr m (λ m=>lf m (λ g6=>⟨[(1,.ptr 0 0 0),(4,iV (s_.aO.getD g1.toNat 0)),(5,.mref 1),(11,aq s_.aO),(12,aqt s_.aO),(13,iV g1),(20,bp s_.aU.Uses),(21,aqt s_.aU.Uses),(22,iV g6.1)],[adg 0 [aR s_.bm.bj,aQ s_.bm.aX,iV s_.bm.aM.bH,aV s_.bm.aM.ax,bP s_.bm.bc,bF s_.bm.bw,cg s_.cb,aq s_.aO,aq s_.aU.Setting,aD s_.aU.aY.On,aq s_.aU.aY.aT,bp s_.aU.Uses,aD s_.aU.Released,aD s_.aU.bg,.bool s_.fQ],(1,some (.map .str [(.int .i64)] g6.2))],2⟩) [(1,some 33)] [] <|λ fL g6 m=>aqm m (λ m=>aqj m λ m=>aqm m (λ m=>aqk m λ m=>aqk m λ m=>le m) λ m=>aqj m λ m=>le m) λ m=>aqj m λ m=>l0 m (λ g7=>⟨[(1,.ptr 0 0 0),(5,.mref 1),(11,aq s_.aO),(12,aqt s_.aO),(13,iV g1),(54,eD ((s_.cb.getD ((s_.aO.getD g1.toNat 0).toNat) bb).aj)),(55,iV ((((s_.cb.getD ((s_.aO.getD g1.toNat 0).toNat) bb).aj).length:Nat):Int)),(56,iV g7.1)],[adg 0 [aR s_.bm.bj,aQ s_.bm.aX,iV s_.bm.aM.bH,aV s_.bm.aM.ax,bP s_.bm.bc,bF s_.bm.bw,cg s_.cb,aq s_.aO,aq s_.aU.Setting,aD s_.aU.aY.On,aq s_.aU.aY.aT,bp s_.aU.Uses,aD s_.aU.Released,aD s_.aU.bg,.bool s_.fQ],(1,some (.map .str [(.int .i64)] g7.2))],2⟩) <|λ ky g7 m=>aqm m (λ m=>aqk m λ m=>si m bh λ _ m=>aqj m λ m=>le m) λ m=>aqj m λ m=>le m) acj
def Kq {l_:ap7} {cq:apV} (m:wg l_ cq r):S 261 [bP l_,aD cq] [] (.bool r) [] :=sp Tryz.func261 rfl<|si m bh λ _ m=>l0 m (λ g1=>⟨[(1,aD cq),(14,bP l_),(15,aqt l_),(16,iV g1)],[],0⟩) <|λ ab g1 m=>aqr m (λ m=>l0 m (λ g4=>⟨[(1,aD cq),(5,iV g1),(14,bP l_),(15,aqt l_),(16,iV g1),(22,aq ((l_.getD g1.toNat cv).cS)),(23,iV ((((l_.getD g1.toNat cv).cS).length:Nat):Int)),(24,iV g4)],[],0⟩) <|λ eE g4 m=>aqm m (λ m=>aqk m λ m=>aqj m λ m=>si m bh λ _ m=>aqj m λ m=>le m) λ m=>aqj m λ m=>le m) acj
def Kr {l_:ap7} {cq:apV} (m:wh l_ cq r):S 234 [bP l_,aD cq] [] (.bool r) [] :=sp Tryz.func234 rfl<|sq m Bj λ v1 m=>sb m λ v2 hv2 m=>cl (λ q0=>(Kq (hv2 q0)))<|aW m
def yy {EV:Int} {jj:apY} {gB:ap1} {nf:Int} {sL:aqi} {ng:ap7} {rB:ap8} {zJ:apW} {OH:apU} {OI:apU} {OJ:apV} {EW:apU} {EX:apZ} {xo:apV} {xp:apV} {EY:Bool} (m:iF EV jj gB nf sL ng rB zJ OH OI OJ EW EX xo xp EY r):S 236 [iV EV,.ro [aR jj,aQ gB,iV nf,aV sL,bP ng,bF rB,cg zJ,aq OH,aq OI,aD OJ,aq EW,bp EX,aD xo,aD xp,.bool EY]] [] (.bool r) [] :=sp Tryz.func236 rfl<|sn m bh
variable {qi:apY} {pO:ap1} {qJ:Int} {Ix:aqi} {Iy:ap7} {Iz:ap8} {D0:apW} {IA:apU} {IB:apU} {IC:apV} {pP:apU} {pQ:apZ} {nO:apV} {nP:apV} {pR:Bool}
def vz {r:Int} (m:ql s_ qi pO qJ Ix Iy Iz D0 IA IB IC pP pQ nO nP pR r):S 262 [aq s_,.fn 236 [.ro [aR qi,aQ pO,iV qJ,aV Ix,bP Iy,bF Iz,cg D0,aq IA,aq IB,aD IC,aq pP,bp pQ,aD nO,aD nP,.bool pR]]] [] (iV r) [] :=sp Tryz.func262 rfl<|l0 m (λ g1=>⟨[(0,aq s_),(1,.fn 236 [.ro [aR qi,aQ pO,iV qJ,aV Ix,bP Iy,bF Iz,cg D0,aq IA,aq IB,aD IC,aq pP,bp pQ,aD nO,aD nP,.bool pR]]),(7,aqt s_),(8,iV g1)],[],0⟩) <|λ ab g1 m=>aqr m (λ m=>sq m yy λ v3 m=>si m bh λ _ m=>aqj m λ m=>le m) acj
def sQ (m:ju s_ qi pO qJ Ix Iy Iz D0 IA IB IC pP pQ nO nP pR r):S 235 [aq s_,.fn 236 [.ro [aR qi,aQ pO,iV qJ,aV Ix,bP Iy,bF Iz,cg D0,aq IA,aq IB,aD IC,aq pP,bp pQ,aD nO,aD nP,.bool pR]]] [] (.bool r) [] :=sp Tryz.func235 rfl<|sq m vz λ v1 m=>aW m
def Bo {s_:dN} (m:lL s_ r):S 180 [BS s_] [] (.bool r) [] :=sp Tryz.func180 rfl<|sq m Kr λ v1 m=>si m bh λ _ m=>l0 m (λ g1=>⟨[(1,.ptr 0 0 0),(14,aq s_.aO),(15,aqt s_.aO),(16,iV g1)],[adg 0 [aR s_.bm.bj,aQ s_.bm.aX,iV s_.bm.aM.bH,aV s_.bm.aM.ax,bP s_.bm.bc,bF s_.bm.bw,cg s_.cb,aq s_.aO,aq s_.aU.Setting,aD s_.aU.aY.On,aq s_.aU.aY.aT,bp s_.aU.Uses,aD s_.aU.Released,aD s_.aU.bg,.bool s_.fQ]],1⟩) <|λ ab g1 m=>aqs m (λ m=>sq m sQ λ v4 m=>si m bh λ _ m=>aqj m λ m=>le m) acj
def sC {l_:ap8} {kE:apV} (m:nQ l_ kE r):S 106 [bF l_,aD kE] [] (.bool r) [] :=sp Tryz.func106 rfl<|si m bh λ _ m=>l0 m (λ g1=>⟨[(1,aD kE),(12,bF l_),(13,aqt l_),(14,iV g1)],[],0⟩) <|λ ab g1 m=>aqs m (λ m=>aqk m λ m=>si m bh λ _ m=>aqj m λ m=>le m) acj
def Ks {l_:ap8} {kE:apV} (m:wj l_ kE r):S 237 [bF l_,aD kE] [] (.bool r) [] :=sp Tryz.func237 rfl<|sq m sx λ v1 m=>sb m λ v2 hv2 m=>cl (λ q0=>(sC (hv2 q0)))<|aW m
def yf {m_:Int} {jj:apY} {gB:ap1} {nf:Int} {sL:aqi} {ng:ap7} {rB:ap8} {zJ:apW} {OH:apU} {OI:apU} {OJ:apV} {EW:apU} {EX:apZ} {xo:apV} {xp:apV} {EY:Bool} (m:gJ m_ jj gB nf sL ng rB zJ OH OI OJ EW EX xo xp EY r):S 238 [iV m_,.ro [aR jj,aQ gB,iV nf,aV sL,bP ng,bF rB,cg zJ,aq OH,aq OI,aD OJ,aq EW,bp EX,aD xo,aD xp,.bool EY]] [] (.bool r) [] :=sp Tryz.func238 rfl<|aqk m λ m=>aW m
def vA {r:Int} (m:qm s_ qi pO qJ Ix Iy Iz D0 IA IB IC pP pQ nO nP pR r):S 262 [aq s_,.fn 238 [.ro [aR qi,aQ pO,iV qJ,aV Ix,bP Iy,bF Iz,cg D0,aq IA,aq IB,aD IC,aq pP,bp pQ,aD nO,aD nP,.bool pR]]] [] (iV r) [] :=sp Tryz.func262 rfl<|l0 m (λ g1=>⟨[(0,aq s_),(1,.fn 238 [.ro [aR qi,aQ pO,iV qJ,aV Ix,bP Iy,bF Iz,cg D0,aq IA,aq IB,aD IC,aq pP,bp pQ,aD nO,aD nP,.bool pR]]),(7,aqt s_),(8,iV g1)],[],0⟩) <|λ ab g1 m=>aqr m (λ m=>sq m yf λ v3 m=>si m bh λ _ m=>aqj m λ m=>le m) acj
def sR (m:jv s_ qi pO qJ Ix Iy Iz D0 IA IB IC pP pQ nO nP pR r):S 235 [aq s_,.fn 238 [.ro [aR qi,aQ pO,iV qJ,aV Ix,bP Iy,bF Iz,cg D0,aq IA,aq IB,aD IC,aq pP,bp pQ,aD nO,aD nP,.bool pR]]] [] (.bool r) [] :=sp Tryz.func235 rfl<|sq m vA λ v1 m=>aW m
def Ai {s_:dN} (m:kF s_ r):S 181 [BS s_] [] (.bool r) [] :=sp Tryz.func181 rfl<|sq m Ks λ v1 m=>si m bh λ _ m=>sq m sR λ v2 m=>aW m
def kX {s_:dN} {r:Int} (m:gW s_ r):S 109 [BS s_] [] (iV r) [] :=sp Tryz.func109 rfl<|by
 refine Mx 9 ?_;refine fh (ct:=[]) eC dk ?_;refine sn m λ h1 m=>sb m λ v1 hv1 m=>cl (Cv hv1)<|?_;refine si m (λ c1 m=>?_) (λ c1 m=>?_)
 ·refine sn m λ h2 m=>?_;(conv=>whnf);have m:r=((0:Int)+(1:Int)):=m;subst m;refine⟨[],[],?_⟩;(conv=>whnf);exact⟨⟨rfl,ad6,ad6⟩,r2⟩
 refine sn m λ h3 m=>?_;(conv=>whnf);refine fh (ct:=[]) eC dk ?_;refine sn m λ h4 m=>sb m λ v2 hv2 m=>cl (Bl hv2)<|?_;refine si m (λ c2 m=>?_) (λ c2 m=>?_)
 ·refine sn m λ h5 m=>?_;(conv=>whnf);have m:r=(((0:Int)+(1:Int))+(1:Int)):=m;subst m;refine⟨[],[],?_⟩;(conv=>whnf);exact⟨⟨rfl,ad6,ad6⟩,r2⟩
 refine sn m λ h6 m=>?_;(conv=>whnf);refine fh (ct:=[]) eC dk ?_;refine sn m λ h7 m=>sb m λ v3 hv3 m=>cl (Bn hv3)<|?_;refine si m (λ c3 m=>?_) (λ c3 m=>?_)
 ·refine sn m λ h8 m=>?_;(conv=>whnf);have m:r=((((0:Int)+(1:Int))+(1:Int))+(1:Int)):=m;subst m;refine⟨[],[],?_⟩;(conv=>whnf);exact⟨⟨rfl,ad6,ad6⟩,r2⟩
 refine sn m λ h9 m=>?_;(conv=>whnf);refine fh (ct:=[]) eC dk ?_;refine sn m λ h10 m=>sb m λ v4 hv4 m=>cl (yx hv4)<|?_;refine si m (λ c4 m=>?_) (λ c4 m=>?_)
 ·refine sn m λ h11 m=>?_;(conv=>whnf);have m:r=(((((0:Int)+(1:Int))+(1:Int))+(1:Int))+(1:Int)):=m;subst m;refine⟨[],[],?_⟩;(conv=>whnf);exact⟨⟨rfl,ad6,ad6⟩,r2⟩
 refine sn m λ h12 m=>?_;(conv=>whnf);refine fh (ct:=[]) eC dk ?_;refine sn m λ h13 m=>sb m λ v5 hv5 m=>cl (D9 hv5)<|?_;refine si m (λ c5 m=>?_) (λ c5 m=>?_)
 ·refine sn m λ h14 m=>?_;(conv=>whnf);have m:r=((((((0:Int)+(1:Int))+(1:Int))+(1:Int))+(1:Int))+(1:Int)):=m;subst m;refine⟨[],[],?_⟩;(conv=>whnf);exact⟨⟨rfl,ad6,ad6⟩,r2⟩
 refine sn m λ h15 m=>?_;(conv=>whnf);refine fh (ct:=[]) eC dk ?_;refine sn m λ h16 m=>sb m λ v6 hv6 m=>cl (ye hv6)<|?_;refine si m (λ c6 m=>?_) (λ c6 m=>?_)
 ·refine sn m λ h17 m=>?_;(conv=>whnf);have m:r=(((((((0:Int)+(1:Int))+(1:Int))+(1:Int))+(1:Int))+(1:Int))+(1:Int)):=m;subst m;refine⟨[],[],?_⟩;(conv=>whnf);exact⟨⟨rfl,ad6,ad6⟩,r2⟩
 refine sn m λ h18 m=>?_;(conv=>whnf);refine fh (ct:=[]) eC dk ?_;refine sn m λ h19 m=>sb m λ v7 hv7 m=>cl (Bo hv7)<|?_;refine si m (λ c7 m=>?_) (λ c7 m=>?_)
 ·refine sn m λ h20 m=>?_;(conv=>whnf);have m:r=((((((((0:Int)+(1:Int))+(1:Int))+(1:Int))+(1:Int))+(1:Int))+(1:Int))+(1:Int)):=m;subst m;refine⟨[],[],?_⟩;(conv=>whnf);exact⟨⟨rfl,ad6,ad6⟩,r2⟩
 refine sn m λ h21 m=>?_;(conv=>whnf);refine fh (ct:=[]) eC dk ?_;refine sn m λ h22 m=>sb m λ v8 wJ m=>cl (Ai wJ)<|?_;refine si m (λ c8 m=>?_) (λ c8 m=>?_)
 ·refine sn m λ h23 m=>?_;(conv=>whnf);have m:r=(((((((((0:Int)+(1:Int))+(1:Int))+(1:Int))+(1:Int))+(1:Int))+(1:Int))+(1:Int))+(1:Int)):=m;subst m;refine⟨[],[],?_⟩;(conv=>whnf);exact⟨⟨rfl,ad6,ad6⟩,r2⟩
 refine sn m λ h24 m=>?_;(conv=>whnf);refine fh (ct:=[]) eC dk ?_;(conv=>whnf);have m:r=(0:Int):=m;subst m;refine⟨[],[],?_⟩;(conv=>whnf);exact⟨⟨rfl,ad6,ad6⟩,r2⟩
end Go.Proofs.YtifekdmmpbcdgaaGreatDoor

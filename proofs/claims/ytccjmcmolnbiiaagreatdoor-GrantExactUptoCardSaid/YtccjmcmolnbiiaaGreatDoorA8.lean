/- A part of the proof. -/
import Derived.Test.YtccjmcmolnbiiaaGreatDoorA7
import Derived.Test.YtccjmcmolnbiiaaGreatDoorA6
import Derived.Test.YtccjmcmolnbiiaaGreatDoorProg
import Derived.Test.YtccjmcmolnbiiaaGreatDoorA4
import Derived.RangeFuncBox
import Derived.RangeFuncLeaves
import Derived.Shelf.Abstract
import Derived.WalkKit
import Derived.OwnWalkIn
import Derived.TacticsInMore
import Derived.LoopNIn
import Derived.LoopIn
import Derived.Test.YtccjmcmolnbiiaaGreatDoorCards
import Derived.Test.YtccjmcmolnbiiaaGreatDoorTie
import Derived.ProofKit
import Derived.OpenShut
import Derived.Carry
import Derived.LaidMore
import Derived.Deep.DeepHandedRow
import Derived.Deep.Slices
set_option linter.defProp false
set_option linter.unusedVariables false
set_option linter.unusedSimpArgs false
set_option maxHeartbeats 4000000
namespace Go.Proofs.YtccjmcmolnbiiaaGreatDoor
open Go.Ab
set_option maxRecDepth 100000
def adA (p:bg) (gs:ag8) (g:Int):Prop:=∀j:Nat,(j:Int)<gs.length->anl p (gs.getD j 0) g
open Classical in
noncomputable def srL (P:Int->Prop) (f:Int->Option ag8):ag8->Option ag8
 | []=>none
 | g::os=>if P g then(match f g with | some x=>some x | none=>srL P f os)else srL P f os
noncomputable def sch (p:bg) (l:aiS):Nat->ag8->Option ag8
 | 0,gs=>some gs
 | n+1,gs=>srL (adA p gs) (λ g=>sch p l n (gs++[g])) (Ee p (l.getD gs.length ByteArray.empty) p.av.length)
variable {P:Int->Prop} {f:Int->Option ag8} {os:ag8}
def abF {g:Int} (h:¬ P g):srL P f (g::os)=srL P f os:=by
 conv=>lhs;unfold srL
 rw[if_neg h]
def abG {g:Int} (hP:P g) (h:f g=none):srL P f (g::os)=srL P f os:=by
 conv=>lhs;unfold srL
 rw[if_pos hP,h]
def abH {g:Int} {x:ag8} (hP:P g) (h:f g=some x):srL P f (g::os)=some x:=by
 conv=>lhs;unfold srL
 rw[if_pos hP,h]
def RS (o:Option ag8) (r:ag8×Bool):Prop:=match o with
 | some x=>r=(x,true)
 | none=>r=([],false)
def abI {a_:ag8} {b_:ag8} (h1:a_.length<=2000000) (h2:b_.length<=2000000) (h3:ank a_) (h4:ank b_):W (GV a_ b_) (λ r=>(r=false/\∀i j:Nat,(i:Int)<a_.length->(j:Int)<b_.length->a_.getD i 0≠b_.getD j 0)\/(r=true/\∃i j:Nat,(i:Int)<a_.length/\(j:Int)<b_.length/\a_.getD i 0=b_.getD j 0)):=by
 unfold GV;refine bK (λ g1:Int×Int=>0<=g1.1/\0<=g1.2/\∀i j:Nat,(i:Int)<a_.length->(j:Int)<b_.length->((i:Int)<g1.1\/(j:Int)<g1.2)->a_.getD i 0≠b_.getD j 0) (λ g1=>(a_.length - g1.1).toNat+(b_.length - g1.2).toNat) ?_ ⟨ob,ob,λ i j h1 h2 h3=>by(try dsimp only at h3);omega⟩;intro aj g1 ⟨a1,a2,a3⟩ ih1;unfold Pt;apply bL<;>intro c1
 ·have c1:=eu c1;refine aK ob (aK ob ?_);refine wi ?_ ?_<;>intro c2
  ·exact ay (.inr ⟨rfl,g1.1.toNat,g1.2.toNat,om,om,c2⟩)
  refine aK ob (aK ob ?_);refine wi ?_ ?_<;>intro c3
  ·refine aK ob (ih1 _ ?_ ob);refine⟨ob,ob,λ i j hi hj hc=>?_⟩;by_cases q:(i:Int)<g1.1\/(j:Int)<g1.2
   ·exact a3 i j hi hj q
   have e:i=g1.1.toNat:=by(try dsimp only at hc);omega
   subst e;by_cases e2:j=g1.2.toNat
   ·subst e2;omega
   have:=h4 g1.2.toNat j om hj;omega
  refine aK ob (ih1 _ ?_ ob);refine⟨ob,ob,λ i j hi hj hc=>?_⟩;by_cases q:(i:Int)<g1.1\/(j:Int)<g1.2
  ·exact a3 i j hi hj q
  have e:j=g1.2.toNat:=by(try dsimp only at hc);omega
  subst e;by_cases e2:i=g1.1.toNat
  ·subst e2;omega
  have:=h3 g1.1.toNat i om hi;omega
 refine ay (.inl ⟨rfl,λ i j hi hj=>a3 i j hi hj ?_⟩);simp only[Bool.and_eq_false_iff,decide_eq_false_iff_not]at c1;omega
def SB {p_:bg} {fD:ag8} {g_:Int} (h1:∀g∈p_.av,g.bU.length<=2000000/\g.ak.length<=2000000) (h2:fD.length<=2000000) (h3:∀x∈fD,0<=x/\x<p_.av.length) (h4:0<=g_) (h5:g_<p_.av.length) (h6:akP p_):W (EY p_ fD g_) (λ r=>(r=true/\adA p_ fD g_)\/(r=false/\¬ adA p_ fD g_)):=by
 have hgl:=h1 _ (getD_in (i:=g_.toNat) aF om);unfold EY;refine bK (λ g1:Int=>0<=g1/\∀j:Nat,(j:Int)<g1->anl p_ (fD.getD j 0) g_) (λ g1=>(fD.length - g1).toNat) ?_ ⟨ob,λ j hj=>by(try dsimp only at hj);omega⟩;intro aj g1 ⟨a1,a2⟩ ih1;unfold Si;refine wi ?_ ?_<;>intro c1
 ·have hx:=h3 _ (getD_in (i:=g1.toNat) 0 om);have hgx:=h1 _ (getD_in (i:=(fD.getD g1.toNat 0).toNat) aF om);refine aK ob (aK ob (aK ob (aK ob ?_)));refine aG (uq λ _=>abI om om (Vq h6 hx.1 hx.2) (Vq h6 h4 h5)) λ v3 hv3=>?_;have hv3:=hv3 (decide_eq_true hx.1);rw[decide_eq_true hx.1,Bool.true_and];rcases hv3 with⟨rfl,hd⟩ | ⟨rfl,i,j,q1,q2,q3⟩
  ·refine bL nofun (λ _=>?_);exact aK ob (ih1 _ ⟨ob,eH a2 a1 hd⟩ ob)
  refine bL (λ _=>ay (.inr ⟨rfl,λ h=>?_⟩)) nofun;exact h g1.toNat om i j q1 q2 q3
 exact ay (.inl ⟨rfl,λ j hj=>a2 j om⟩)
def Y4 {p_:bg} {f_:ByteArray} (h1:∀g∈p_.av,g.bU.length<=2000000/\g.ak.length<=2000000) (h2:p_.av.length<=2000000):W (D8 p_ f_) (λ r=>r=Ee p_ f_ p_.av.length):=by
 unfold D8;refine bK (λ g1:Int×ag8=>0<=g1.1/\g1.1<=p_.av.length/\g1.2=Ee p_ f_ g1.1.toNat) (λ g1=>(p_.av.length - g1.1).toNat) ?_ ⟨ob,ob,rfl⟩;intro aj g1 ⟨a1,a2,a3⟩ ih1;have hl:=P7 p_ f_ g1.1.toNat;rw[<- a3]at hl;unfold MR;refine wi ?_ ?_<;>intro c
 ·have hfl:=(h1 _ (getD_in (i:=g1.1.toNat) aF om)).2;have e:(g1.1+1).toNat=g1.1.toNat+1:=by omega
  have hs:=ads p_ f_ g1.1.toNat;refine wn<|aG (P6 om) λ v3 hv3=>?_;subst hv3;apply bL<;>intro c2
  ·refine aK (by unfold big;omega) (aK ob (ih1 _ ⟨ob,ob,?_⟩ ob));dsimp only;rw[e,hs,<- a3,if_pos c2];congr 2;omega
  refine aK ob (ih1 _ ⟨ob,ob,?_⟩ ob);dsimp only;rw[e,hs,<- a3,if_neg (by rw[c2];exact Bool.noConfusion),List.append_nil]
 exact ay (by rw[a3];congr 1;omega)
def Y5 {p_:bg} {l_:aiS} {bW:ag8} (h1:∀g∈p_.av,g.bU.length<=2000000/\g.ak.length<=2000000) (h2:p_.av.length<=2000000) (h3:l_.length<=2000000) (hp:akP p_) (hg:∀x∈bW,0<=x/\x<p_.av.length) (hgl:bW.length<=l_.length):W (D9 p_ l_ bW) (RS (sch p_ l_ (l_.length - bW.length) bW)):=by
 unfold D9;refine ant (Q:=λ s:bg×aiS×ag8=>RS (sch p_ l_ (l_.length - s.2.2.length) s.2.2)) (λ s=>s.1=p_/\s.2.1=l_/\s.2.2.length<=l_.length/\∀x∈s.2.2,0<=x/\x<p_.av.length) (λ s=>l_.length - s.2.2.length) ?_ ⟨rfl,rfl,hgl,hg⟩;rintro self ⟨p,l,gs⟩ ⟨e1,e2,e3,e4⟩ ih;dsimp only at e1 e2 e3 e4;subst p l;unfold oP;refine wi ?_ ?_<;>intro c1
 ·dsimp only at c1 ⊢;refine aK (by unfold big;omega) (ay ?_);rw[show l_.length - gs.length=0 by omega];rfl
 dsimp only at c1 ⊢;have hid:((gs.length:Int)).toNat=gs.length:=by omega
 obtain⟨m,hm⟩:∃m,l_.length - gs.length=m+1:=⟨l_.length - gs.length - 1,om⟩;rw[hm,hid];refine aK om ?_;refine aG (Y4 h1 h2) λ v1 hv1=>?_;have hlo:=P7 p_ (l_.getD gs.length ByteArray.empty) p_.av.length;rw[<- hv1]at hlo;refine bK (λ g1:Int=>0<=g1/\g1<=v1.length/\srL (adA p_ gs) (λ g=>sch p_ l_ m (gs++[g])) (v1.drop g1.toNat)=sch p_ l_ (m+1) gs) (λ g1=>(v1.length - g1).toNat) ?_ ⟨Int.le_refl _,om,by rw[hv1];rfl⟩;intro aj g1 ⟨a1,a2,a3⟩ ih1;unfold MS;dsimp only;refine wi ?_ ?_<;>intro c2
 ·have hin:v1.getD g1.toNat 0∈Ee p_ (l_.getD gs.length ByteArray.empty) p_.av.length:=by rw[<- hv1];exact getD_in 0 om
  obtain⟨x0,x1,_⟩:=Vo hin;have e5:(g1+1).toNat=g1.toNat+1:=by omega
  rw[drop_cons 0 om]at a3;refine wn<|aG (SB h1 om e4 x0 x1 hp) λ v6 hv6=>?_;rcases hv6 with⟨rfl,hf⟩ | ⟨rfl,hf⟩
  ·refine bL nofun (λ _=>?_);refine aK (by unfold big;omega) (aK ob (aK (by unfold big;omega) ?_));refine aG (ih (p_,l_,gs++[v1.getD g1.toNat 0]) ⟨rfl,rfl,by(simp only[List.length_append,List.length_singleton];omega),λ x hx=>?_⟩ (by(simp only[List.length_append,List.length_singleton];omega))) λ v7 hv7=>?_
   ·rcases List.mem_append.1 hx with hx | hx
    ·exact e4 x hx
    rw[List.mem_singleton]at hx;subst hx;exact⟨x0,x1⟩
   dsimp only at hv7;rw[show l_.length - (gs++[v1.getD g1.toNat 0]).length=m by simp only[List.length_append,List.length_singleton];omega]at hv7;cases hs:sch p_ l_ m (gs++[v1.getD g1.toNat 0])with
   | some x=>
    rw[hs]at hv7;cases hv7;rw[abH hf hs]at a3;exact bL (λ _=>ay (by rw[<- a3];rfl)) nofun
   | none=>
    rw[hs]at hv7;cases hv7;rw[abG hf hs]at a3;exact bL nofun (λ _=>aK ob (ih1 _ ⟨ob,ob,by rw[e5];exact a3⟩ ob))
  rw[abF hf]at a3;exact bL (λ _=>aK ob (ih1 _ ⟨ob,ob,by rw[e5];exact a3⟩ ob)) nofun
 rw[List.drop_of_length_le om]at a3;exact ay (by rw[<- a3];rfl)
end Go.Proofs.YtccjmcmolnbiiaaGreatDoor
namespace Go.Proofs.YtccjmcmolnbiiaaGreatDoor
open Go.Ab
set_option maxRecDepth 100000
def SC {l_:ah3} {s_:ag8} (h1:l_.length<=1000) (h2:VS l_ s_) (h3:∀i,i<l_.length->(l_.getD i aL).aP.length<=2000000):W (KS l_ s_) (λ r=>(r.2=true->VS l_ r.1/\nY l_ r.1=nY l_ s_+1)/\(r.2=false->nY l_ s_+1=rH l_)):=by
 obtain⟨hsl,hsv⟩:=id h2;unfold KS;refine wm<|bK (λ(g1:Int×ag8) => -1<=g1.1/\g1.1<l_.length/\g1.2.length=l_.length/\(∀j:Nat,(j:Int)<=g1.1->g1.2.getD j 0=s_.getD j 0)/\(∀j:Nat,g1.1<(j:Int)->j<l_.length->g1.2.getD j 0=0/\s_.getD j 0+1=(l_.getD j aL).aP.length)) (λ(g1:Int×ag8)=>(g1.1+1).toNat) ?_ ?_
 ·intro aj g1 eT dA;obtain⟨dW,cB,bH,jW,MW⟩:=eT;unfold Sb;refine wi ?_ ?_<;>intro c1
  ·have hv:=hsv g1.1.toNat om;have hc:=h3 g1.1.toNat om;have he:=jW g1.1.toNat om;have hgs:(g1.2.set g1.1.toNat (g1.2.getD g1.1.toNat 0+1)).getD g1.1.toNat 0=s_.getD g1.1.toNat 0+1:=(by rw[Sp.iD,if_pos ⟨rfl,om⟩,he]);have hgo:∀j,j≠g1.1.toNat->(g1.2.set g1.1.toNat (g1.2.getD g1.1.toNat 0+1)).getD j 0=g1.2.getD j 0:=λ j hj=>(by rw[Sp.iD,if_neg (λ e=>hj e.1)])
   refine wm<|wn ?_;unfold Ic;refine wm<|wi ?_ ?_<;>intro c2
   ·rw[hgs]at c2;exact ay (⟨λ _=>ajn h2 (k:=g1.1.toNat) om (by simpa using bH) (λ j hj=>by rw[hgo j om];exact jW j om) hgs (λ j h1 h2=>by rw[hgo j om];exact MW j om h2) c2,nofun⟩)
   rw[hgs]at c2;refine wm<|dA _ ?_ ?_
   ·(refine⟨ob,ob,by simpa using bH,λ j hj=>?_,λ j h1 h2=>?_⟩;(dsimp only at hj ⊢;rw[Sp.iD,if_neg om,hgo j om];exact jW j om);(dsimp only at h1 ⊢;rw[Sp.iD];by_cases q:j=g1.1.toNat;(rw[if_pos ⟨q,by rw[List.length_set];omega⟩,q];omega);(rw[if_neg (λ e=>q e.1),hgo j q];exact MW j om h2)))
   exact ob
  exact ay (⟨nofun,λ _=>aeC h2 λ j hj=>(MW j om hj).2⟩)
 (refine⟨ob,ob,by simpa using hsl,λ j _=>rfl,λ j h1 h2=>by dsimp only at h1;omega⟩)
structure FsA (l:ah3) (m:ajc) (P:ag8->Prop) (o:List ag8):Prop where
 no:o=[]->∀t,VS l t->P t->Sy l t m=false
 hd:o≠[]->VS l (o.getD 0 [])/\Sy l (o.getD 0 []) m=true/\∀t,VS l t->Sy l t m=true->nY l (o.getD 0 [])<=nY l t
variable {m_:ajc}
def aeP {l_:ah3} (h1:eY l_=0) (h2:m_.length<=2000000) (h3:∀x∈m_,0<=x.fE/\x.fE<l_.length):W (QS l_ m_) (FsA l_ m_ λ _=>True):=by
 have hf:=vE h1;have hsz:=size_le hf;have hlen:=hf.len;have hcb:∀i,i<l_.length->(l_.getD i aL).aP.length<=2000000:=λ i hi=>by have:=hf.big i hi;omega
 unfold QS;refine wn<|bK (λ(g1:(ag8×Bool×(List ag8)))=>(g1.2.1=true->VS l_ g1.1/\g1.2.2.length<=nY l_ g1.1)/\FsA l_ m_ (λ t=>g1.2.1=true->nY l_ t<nY l_ g1.1) g1.2.2) (λ(g1:(ag8×Bool×(List ag8)))=>bif g1.2.1 then rH l_ - nY l_ g1.1+1 else 0) ?_ ?_
 ·intro aj g1 ⟨dW,ha⟩ dA;unfold UY;apply bL<;>intro c1
  ·obtain⟨hvs,hln⟩:=dW c1;have hset:=Q0 hvs;have hpl:=K9 hvs;unfold KT;refine aG (aeD (QU hf hset) (amX hf hset) h2 h3) λ v9 Kk=>?_;subst v9;apply bL<;>intro c2
   ·refine wn ?_;unfold x9;refine aG (SC om hvs hcb) λ v8 ⟨xk,_⟩=>?_;refine dA _ ⟨λ e=>⟨(xk e).1,by have:=(xk e).2;simp only[List.length_append,List.length_singleton];omega⟩,⟨λ e=>absurd e (by simp),λ _=>?_⟩⟩ ?_
    ·dsimp only;cases ho:g1.2.2 with
     | nil=>exact⟨hvs,c2,λ t ht hft=>Nat.le_of_not_lt λ q=>by rw[ha.no ho t ht λ _=>q]at hft;cases hft⟩
     | cons a o=>have:=ha.hd (by rw[ho];simp);rw[ho]at this;exact this
    (dsimp only;rw[c1];cases e:v8.2 with | true=>(have:=(xk e).2;have:=K9 (xk e).1;simp only[cond_true];omega) | false=>(simp only[cond_true,cond_false];omega))
   unfold x9;refine aG (SC om hvs hcb) λ v8 ⟨xk,Kk⟩=>?_;refine dA _ ⟨λ e=>⟨(xk e).1,by have:=(xk e).2;dsimp only;omega⟩,⟨λ e t ht hp=>?_,ha.hd⟩⟩ ?_
   ·dsimp only at hp e;have hpt:=K9 ht;by_cases q:nY l_ t<nY l_ g1.1
    ·exact ha.no e t ht λ _=>q
    have:nY l_ t=nY l_ g1.1:=by
     cases e8:v8.2 with
     | true=>have:=hp e8;have:=(xk e8).2;omega
     | false=>have:=Kk e8;omega
    rw[ZM ht hvs this];exact c2
   (dsimp only;rw[c1];cases e:v8.2 with | true=>(have:=(xk e).2;have:=K9 (xk e).1;simp only[cond_true];omega) | false=>(simp only[cond_true,cond_false];omega))
  exact ay ⟨λ e t ht _=>ha.no e t ht λ q=>(by rw[c1]at q;cases q),ha.hd⟩
 exact⟨λ _=>⟨ajo hf,Nat.zero_le _⟩,⟨λ _ t _ q=>by have q:=q rfl;dsimp only at q;rw[abj (s:=List.replicate _ 0) λ j _=>Sp.nP _ _ _]at q;omega,λ e=>absurd rfl e⟩⟩
def Y6 {l_:ajB} {eX:ag8} (h1:∀g∈l_,g.eG.length<=2000000) (h2:eX.length<=100000000000) (h0:RsA l_ 0) (h4:∀x∈eX,0<=x/\x<l_.length):W (yc l_ eX) (λ r=>r.2=0/\Lst l_.length (abl l_) eX r.1):=by
 unfold yc;refine aG (Fv h1) λ v1 hv1=>?_;have e1:=RsA.fun _ _ hv1 h0;subst e1;refine bL (λ c1=>by cases c1) (λ c1=>?_)
 obtain⟨p1,p2⟩:=h0.ok;refine wn<|bK (λ(g1:Int×ag9)=>0<=g1.1/\g1.2.length=l_.length/\(∀j:Nat,(j:Int)<g1.1->g1.2.getD (eX.getD j 0).toNat false=true)/\Low (abl l_) eX g1.2) (λ(g1:Int×ag9)=>(eX.length - g1.1).toNat) ?_ ?_
 ·intro aj g1 eT dA;obtain⟨dW,cB,bH,jW⟩:=eT;unfold MF;refine wi ?_ ?_<;>intro c2
  ·refine wn ?_;have hm:=getD_in (l:=eX) (i:=g1.1.toNat) 0 om;have hx:=h4 _ hm;refine wn<|bL (λ c3=>by have c3:=eu c3;omega) (λ c3=>?_)
   ·have c3:=eu c3;refine wm<|wn ?_;refine dA _ ?_ ?_
    ·(refine⟨ob,ob,λ j hj=>He ?_ om,vF jW λ _ t _ ht=>ht _ hm⟩;by_cases q:(j:Int)<g1.1;(exact .inl (bH j q));(have e:j=g1.1.toNat:=by(try dsimp only at hj);omega);subst e;exact .inr rfl)
    exact ob
  refine wn<|bK (λ(g2:Int×ag9) => -1<=g2.1/\g2.1<l_.length/\g2.2.length=l_.length/\(∀j:Nat,(j:Int)<eX.length->g2.2.getD (eX.getD j 0).toNat false=true)/\(∀i:Nat,g2.1<(i:Int)->(i:Int)<l_.length->g2.2.getD i false=true->∀x∈(l_.getD i dJ).eG,g2.2.getD x.toNat false=true)/\Low (abl l_) eX g2.2) (λ(g2:Int×ag9)=>(g2.1+1).toNat) ?_ ?_
  ·intro dR g2 nk qJ;obtain⟨rG,jL,mX,Dg,SA,SE⟩:=nk;unfold Js;refine wi ?_ ?_<;>intro c4
   ·have hgl:=h1 _ (getD_in (i:=g2.1.toNat) dJ om);refine bK (λ(g5:Int×ag9)=>0<=g5.1/\g5.2.length=l_.length/\(∀j:Nat,(j:Int)<eX.length->g5.2.getD (eX.getD j 0).toNat false=true)/\(∀i:Nat,g2.1<(i:Int)->(i:Int)<l_.length->g5.2.getD i false=true->∀x∈(l_.getD i dJ).eG,g5.2.getD x.toNat false=true)/\(∀k:Nat,(k:Int)<g5.1->g5.2.getD (((l_.getD g2.1.toNat dJ).eG).getD k 0).toNat false=true)/\Low (abl l_) eX g5.2) (λ(g5:Int×ag9)=>((l_.getD g2.1.toNat dJ).eG.length - g5.1).toNat) ?_ ?_
    ·intro kr g5 Xc Xd;obtain⟨Sr,Fp,MZ,abt,agN,adu⟩:=Xc;unfold Jr;refine wm<|bL ?_ ?_<;>intro c5
     ·have BM:=c5;have c5:=eu c5;simp only[Bool.and_eq_true,decide_eq_true_eq]at BM;have hxm:=getD_in (l:=(l_.getD g2.1.toNat dJ).eG) (i:=g5.1.toNat) 0 om;have hx:=p2 g2.1.toNat om _ hxm;refine wm<|wm ?_;refine Xd _ ?_ ?_
      ·(refine⟨ob,ob,λ j hj=>He (.inl (MZ j hj)) om,λ i h3 h4 h5 x hx2=>?_,λ k hk=>He ?_ om,vF adu λ _ t h1 h2=>h1 g2.1.toNat om (adu t h1 h2 _ BM.2) _ hxm⟩;(rw[kW om]at h5;exact He (.inl (abt i h3 h4 h5 x hx2)) om);by_cases q:(k:Int)<g5.1;(exact .inl (agN k q));(have e:k=g5.1.toNat:=by(try dsimp only at hk);omega);subst e;exact .inr rfl)
      exact ob
     have BM:=c5;have c5:=eu c5;refine wn<|qJ _ ?_ ?_
     ·(refine⟨ob,ob,Fp,MZ,λ i h3 h4 h5=>?_,adu⟩;by_cases q:g2.1<(i:Int);(exact abt i q h4 h5);(have e:i=g2.1.toNat:=by(try dsimp only at h3);omega);subst e;refine jT 0 λ k hk=>agN k ?_;rw[h5,Bool.and_true]at BM;have:=of_decide_eq_false BM;omega)
     exact ob
    (refine⟨ob,mX,Dg,SA,λ k hk=>by(try dsimp only at hk);omega,SE⟩)
   exact ay (⟨rfl,mX,λ i hi=>SA i om hi,jT 0 λ j hj=>Dg j om,SE⟩)
  (refine⟨ob,ob,cB,λ j hj=>bH j om,λ i h1 h2=>by(try dsimp only at h1);omega,jW⟩)
 (refine⟨ob,by simp,λ j hj=>by(try dsimp only at hj);omega,ZO⟩)
def aeQ {l_:ajk} {eU:ag8} (h1:DmA l_ 0) (h3:eU.length<=100000000000) (h4:∀x∈eU,0<=x/\x<l_.length):W (QT l_ eU) (λ r=>r=0):=by
 unfold QT;refine aG Fw λ v1 hv1=>?_;have e1:=DmA.fun _ _ hv1 h1;subst e1;refine bL (λ c1=>by cases c1) (λ _=>?_);refine bK (λ g1:Int=>0<=g1) (λ g1=>(eU.length - g1).toNat) ?_ (Int.le_refl _);intro aj g1 a1 ih1;unfold UZ;refine bL (λ c=>?_) (λ c=>ay rfl);have c:=eu c;have hx:=h4 _ (getD_in (i:=g1.toNat) 0 om);refine wm<|bL (λ c2=>by have c2:=eu c2;omega) (λ c2=>?_);refine wn ?_;exact ih1 _ om om
def agS {l_:ajk} {eU:ag8} (h1:eU.length<=2000000) (h0:DmA l_ 0) (h4:∀x∈eU,0<=x/\x<l_.length):W (Pj l_ eU) (λ r=>r.2=0/\Lst l_.length (agM l_) eU r.1):=by
 unfold Pj;refine aG (aeQ h0 om h4) λ v1 hv1=>?_;subst hv1;refine bL (λ c1=>by cases c1) (λ c1=>?_)
 obtain⟨p1,p2⟩:=h0.ok;have p3:=h4;refine wn<|bK (λ(g1:Int×ag9)=>0<=g1.1/\g1.2.length=l_.length/\(∀j:Nat,(j:Int)<g1.1->g1.2.getD (eU.getD j 0).toNat false=true)/\Low (agM l_) eU g1.2) (λ(g1:Int×ag9)=>(eU.length - g1.1).toNat) ?_ ?_
 ·intro aj g1 eT dA;obtain⟨dW,cB,bH,jW⟩:=eT;unfold Yc;refine wi ?_ ?_<;>intro c2
  ·have hm:=getD_in (l:=eU) (i:=g1.1.toNat) 0 om;have hx:=p3 _ hm;refine wm<|wn ?_;refine dA _ ?_ ?_
   ·(refine⟨ob,ob,λ j hj=>He ?_ om,vF jW λ _ t _ ht=>ht _ hm⟩;by_cases q:(j:Int)<g1.1;(exact .inl (bH j q));(have e:j=g1.1.toNat:=by(try dsimp only at hj);omega);subst e;exact .inr rfl)
   exact ob
  refine wn<|bK (λ(g2:Int×ag9) => -1<=g2.1/\g2.1<l_.length/\g2.2.length=l_.length/\(∀j:Nat,(j:Int)<eU.length->g2.2.getD (eU.getD j 0).toNat false=true)/\(∀i:Nat,g2.1<(i:Int)->(i:Int)<l_.length->RgK l_ g2.2 i)/\Low (agM l_) eU g2.2) (λ(g2:Int×ag9)=>(g2.1+1).toNat) ?_ ?_
  ·intro dR g2 nk qJ;obtain⟨rG,jL,mX,Dg,SA,SE⟩:=nk;unfold U0;refine wi ?_ ?_<;>intro c3
   ·have hp:=p2 g2.1.toNat om;refine wm<|wn ?_;unfold KU;refine wm<|bL ?_ ?_<;>intro c4
    ·have sW:=c4;have c4:=eu c4;refine wm<|wn ?_;refine qJ _ ?_ ?_
     ·(have q:=Bool.and_eq_true_iff.1 sW;have q2:=of_decide_eq_true q.2;refine⟨ob,ob,ob,λ j hj=>He (.inl (Vp om (Dg j hj))) (by rw[List.length_set];omega),λ k h3 h4=>aub om mX om SA (by(try dsimp only at h3);omega) h4,vF (vF SE λ hb t h1 h2=>(Bool.or_eq_true_iff.1 hb).elim (λ q=>SE t h1 h2 _ q) (λ q=>h1.al _ om q)) λ _ t h1 h2=>h1.pa g2.1.toNat om ((vF SE λ hb t h1 h2=>(Bool.or_eq_true_iff.1 hb).elim (λ q=>SE t h1 h2 _ q) (λ q=>h1.al _ om q)) t h1 h2 _ q.1) q2⟩)
     exact ob
    have sW:=c4;have c4:=eu c4;refine wn<|qJ _ ?_ ?_
    ·(refine⟨ob,ob,ob,λ j hj=>Vp om (Dg j hj),λ k h3 h4=>aua om mX SA (λ hq=>by rw[hq.1,decide_eq_true hq.2]at sW;cases sW) (by(try dsimp only at h3);omega) h4,vF SE λ hb t h1 h2=>(Bool.or_eq_true_iff.1 hb).elim (λ q=>SE t h1 h2 _ q) (λ q=>h1.al _ om q)⟩)
    exact ob
   exact ay (⟨rfl,mX,⟨λ i hi=>(SA i om hi).1,λ i hi=>(SA i om hi).2⟩,jT 0 λ j hj=>Dg j om,SE⟩)
  (refine⟨ob,ob,cB,λ j hj=>bH j om,λ i h1 h2=>by(try dsimp only at h1);omega,jW⟩)
 (refine⟨ob,by simp,λ j hj=>by(try dsimp only at hj);omega,ZO⟩)
variable {b:aM} {l:aha} {ms:ag8}
def aqh (hn:ku b l 0) (hd:yH l ms):∀x∈jn aH.aZ l ms,0<=x/\x<b.aZ.length:=λ x hx=>by
 obtain⟨m,hm,hx⟩:=List.mem_flatMap.1 hx;exact((yJ hn).2.2 _ (abC hd hm)).rs x hx
def aqi (hn:ku b l 0) (hd:yH l ms):∀x∈jn usF l ms,0<=x/\x<b.dz.length:=λ x hx=>by
 obtain⟨m,hm,hx⟩:=List.mem_flatMap.1 hx;have hdm:=((yJ hn).2.2 _ (abC hd hm)).dm;unfold usF at hx;cases q:decide ((l.getD m.toNat aU).fO<0)with
 | true=>rw[q]at hx;cases hx
 | false=>
  rw[q]at hx;have:=of_decide_eq_false q;have hx:=List.mem_singleton.1 hx;omega
structure UsJ (e:Int) (b:aM) (l:aha) (ms:ag8) (g:aO):Prop where
 dv:∀u∈g.dK,u.iW∈ms
 ow:TS b.aT (g.dK.map aR.l7)
 fn:FnU b l ms g.dK
 df:yH l ms
 ag:e=0->AgA b l ms g.dK g
def Y7:EP true:=M.amm 100 _ _ (by decide +kernel)
def anG:W (bnd EP λ v=>ret v) (λ r=>r=true):=aG (yV Y7) λ _ h=>ay h
variable {us:aiX}
def asa {x:aO} (hb:uW b) (h:AgA b l ms us x) (hu:us.length<=2000000) (hd:b.aZ.length<=2000000/\b.dz.length<=2000000):Ec x:=by
 have hll:(Sp.mV b.bF (jn aH.d9 l ms)).2=0:=by rw[h.ra]
 have hlr:=Sp.adz hll;rw[h.ra]at hlr;obtain⟨z1,z2,z3,z4,z5,z6,z7⟩:=hb;refine⟨by rw[h.st.1.1];exact z1,by rw[hlr.1];exact z3,by rw[hlr.2];exact z3,?_,by rw[h.re.ln];exact hd.1,by rw[h.po.ln];exact hd.2⟩;rw[h.us];exact Nat.le_trans (List.length_filter_le _ _) hu
def Y8 {l_:ah3} (h:nN l_ m_=true):W (Dz l_ m_) (λ r=>(r.2=0/\aeI l_ m_ r.1)\/(r.2=9/\∀t,VS l_ t->gD l_ t m_=false)):=by
 unfold Dz;refine aG (YZ h) λ v1 hv1=>?_;subst hv1;refine bL (λ c1=>by cases c1) (λ _=>?_);refine aG (YX h) λ v2 hv2=>?_;rcases hv2 with⟨k,hs⟩ | ⟨k,hn⟩
 ·rw[k];exact bL (λ c=>by cases c) (λ _=>ay (.inl ⟨rfl,hs⟩))
 rw[k];exact bL (λ _=>ay (.inr ⟨rfl,hn⟩)) (λ c=>by cases c)
def ajC (h:yH l ms):ms.Nodup:=by
 refine List.pairwise_iff_getElem.2 λ i j hi hj hij=>?_;have:=(h j om).2 i hij;rw[List.getD_eq_getElem?_getD,List.getElem?_eq_getElem hi,List.getD_eq_getElem?_getD,List.getElem?_eq_getElem hj]at this;exact this
def asb {x:aO} (h:AgA b l ms us x):FL b l ms:=⟨⟨_,h.st.1,h.st.2.1⟩,by rw[h.ra]⟩
def FB {s_:ag8} {f_:Int} (h:s_.length<=2000000):W (lV s_ f_) (λ r=>(r = -1/\f_ ∉ s_)\/(0<=r/\r<s_.length/\s_.getD r.toNat 0=f_/\f_ ∉ s_.take r.toNat)):=by
 unfold lV;refine bK (λ g1:Int=>0<=g1/\g1<=s_.length/\f_ ∉ s_.take g1.toNat) (λ g1=>(s_.length - g1).toNat) ?_ ⟨om,om,by rw[show(0:Int).toNat=0 from rfl,List.take_zero];exact nofun⟩;intro aj g1 ⟨a1,a2,a3⟩ ih1;unfold sI;refine wi ?_ ?_<;>intro c
 ·refine aK om ?_;refine aG (P:=λ v=>v=(s_.getD g1.toNat 0==f_)) (ay rfl) λ v3 hv3=>?_;subst hv3;refine wi ?_ ?_<;>intro c2
  ·exact ay (.inr ⟨a1,c,c2,a3⟩)
  refine aK (by unfold aC;omega) ?_;refine ih1 _ ⟨om,om,?_⟩ om;rw[show(g1+1).toNat=g1.toNat+1 by omega,iq 0 om];intro hm;rcases List.mem_append.1 hm with hm | hm
  ·exact a3 hm
  exact c2 (List.mem_singleton.1 hm).symm
 rw[List.take_of_length_le om]at a3;exact ay (.inl ⟨rfl,a3⟩)
abbrev Lf (ms:ag8) (d:Int):ag8:=ms.filter λ x=>!(x==d)
variable {d:Int}
def ajD (h:d ∉ ms):Lf ms d=ms:=List.filter_eq_self.2 λ x hx=>by
 rw[Bool.not_eq_true',beq_eq_false_iff_ne];exact λ e=>h (e ▸ hx)
variable {d_:Int}
def Ip {o_:ag8} (h:o_.length<=2000000):W (kI d_ o_) (λ r=>r.1<=r.2.length/\r.2.take r.1=Lf o_ d_):=by
 unfold kI;refine aG (FB h) λ v1 hv1=>?_;rcases hv1 with⟨rfl,hn⟩ | ⟨p1,p2,p3,p4⟩
 ·refine bL (λ _=>ay ⟨Nat.le_refl _,?_⟩) (λ c=>by cases c);dsimp only;rw[ajD hn,List.take_length]
 refine bL (λ c=>by have c:=eu c;omega) (λ _=>?_);refine aK (by unfold aC;omega) ?_;refine bK (λ g1:Int×Int×ag8=>0<=g1.1/\g1.1<g1.2.1/\g1.2.1<=o_.length/\g1.2.2.length=o_.length/\g1.2.2.take g1.1.toNat=Lf (o_.take g1.2.1.toNat) d_/\∀j:Nat,g1.2.1<=(j:Int)->g1.2.2.getD j 0=o_.getD j 0) (λ g1=>(o_.length - g1.2.1).toNat) ?_ ⟨p1,by dsimp only;omega,by dsimp only;omega,rfl,?_,λ j _=>rfl⟩
 ·intro aj g1 ⟨a1,a2,a3,a4,a5,a6⟩ ih1;unfold uU;apply bL<;>intro c
  ·have c:=eu c;have e2:(g1.2.1+1).toNat=g1.2.1.toNat+1:=by omega
   have e6:=a6 g1.2.1.toNat om;have hs:Lf (o_.take (g1.2.1.toNat+1)) d_=Lf (o_.take g1.2.1.toNat) d_++Lf [o_.getD g1.2.1.toNat 0] d_:=by
    unfold Lf;rw[iq 0 om,List.filter_append]
   refine aK om ?_;refine aG (P:=λ v=>v=(g1.2.2.getD g1.2.1.toNat 0==d_)) (ay rfl) λ v4 hv4=>?_;subst hv4;apply bL<;>intro c2
   ·have lM:=c2;rw[e6]at lM;refine aK om ?_;refine aK (by unfold aC;omega) ?_;refine aK (by unfold aC;omega) ?_;refine ih1 _ ⟨by dsimp only;omega,by dsimp only;omega,by dsimp only;omega,by dsimp only;rw[List.length_set];exact a4,?_,λ j hj=>?_⟩ (by dsimp only;omega)
    ·dsimp only;rw[e2,hs,show(g1.1+1).toNat=g1.1.toNat+1 by omega,iq 0 (by rw[List.length_set];omega),List.take_set_of_le (Nat.le_refl _),a5,Sp.iD,if_pos ⟨rfl,om⟩,e6];congr 1;unfold Lf;rw[List.filter_cons,if_pos lM,List.filter_nil]
    dsimp only at hj ⊢;rw[Sp.iD,if_neg om];exact a6 j om
   rw[e6]at c2;refine aK (by unfold aC;omega) ?_;refine ih1 _ ⟨by dsimp only;omega,by dsimp only;omega,by dsimp only;omega,a4,?_,λ j hj=>a6 j (by dsimp only at hj;omega)⟩ (by dsimp only;omega);dsimp only;rw[e2,hs,a5];unfold Lf;rw[List.filter_cons,c2,if_neg Bool.false_ne_true,List.filter_nil,List.append_nil]
  have c:=eu c;refine aK om ?_;refine aK om ?_;refine ay ⟨by dsimp only;rw[iE];omega,?_⟩;dsimp only;rw[List.take_of_length_le (by omega:o_.length<=g1.2.1.toNat)]at a5;rw[<- a5];refine Sp.Fb 0 (by rw[List.length_take,List.length_take,iE]) λ j hj=>?_;rw[List.length_take,iE]at hj;rw[Eo _ _ _ _ om,Eo _ _ _ _ om,QH 0 om,if_neg om]
 dsimp only;have:Lf (o_.take (v1+1).toNat) d_=Lf (o_.take v1.toNat) d_++Lf [d_] d_:=by
  unfold Lf;rw[show(v1+1).toNat=v1.toNat+1 by omega,iq 0 om,List.filter_append,p3]
 rw[this,ajD p4];unfold Lf;rw[List.filter_cons,beq_self_eq_true,if_neg (by decide),List.filter_nil,List.append_nil]
def Xk {l_:ag8} {x_:Int} (h:l_.length<=2000000):W (Av l_ x_) (λ r=>r=Lf l_ x_):=by
 unfold Av;refine bK (λ g1:Int×ag8=>0<=g1.1/\g1.1<=l_.length/\g1.2=Lf (l_.take g1.1.toNat) x_) (λ g1=>(l_.length - g1.1).toNat) ?_ ⟨ob,ob,rfl⟩;intro aj g1 ⟨a1,a2,a3⟩ ih1;have hl:g1.2.length<=g1.1.toNat:=by
  rw[a3];exact Nat.le_trans (List.length_filter_le _ _) (by rw[List.length_take];omega)
 unfold JF;refine wi ?_ ?_<;>intro c
 ·have hs:=uf (λ x=>!(x==x_)) l_ 0 (i:=g1.1.toNat) om;have e:(g1.1+1).toNat=g1.1.toNat+1:=by omega
  refine aK om ?_;apply bL<;>intro c2
  ·refine aK om ?_;refine aK (by unfold big;omega) ?_;refine aK (by unfold aC;omega) ?_;refine ih1 _ ⟨by dsimp only;omega,by dsimp only;omega,?_⟩ (by dsimp only;omega);dsimp only;unfold Lf at a3 ⊢;rw[e,hs,<- a3,if_pos (show(!(l_.getD g1.1.toNat 0==x_))=true from c2)]
  refine aK (by unfold aC;omega) ?_;refine ih1 _ ⟨by dsimp only;omega,by dsimp only;omega,?_⟩ (by dsimp only;omega);dsimp only;unfold Lf at a3 ⊢;rw[e,hs,<- a3,if_neg (λ q=>by rw[show(l_.getD g1.1.toNat 0 != x_)=true from q]at c2;cases c2),List.append_nil]
 exact ay (by rw[a3,List.take_of_length_le om])
def anH (h1:∀m∈ms,0<=m/\m<l.length) (h2:ms.Nodup):yH l ms:=λ i hi=>by
 refine⟨h1 _ (getD_in 0 om),λ k hk e=>?_⟩;have:=List.pairwise_iff_getElem.1 h2 k i om om hk;rw[List.getD_eq_getElem?_getD,List.getElem?_eq_getElem om,List.getD_eq_getElem?_getD,List.getElem?_eq_getElem om]at e;exact this e
def abJ (h:yH l ms) (q:Int->Bool):yH l (ms.filter q):=anH (λ m hm=>abB h m (List.mem_filter.1 hm).1) ((ajC h).filter q)
def agT (h:yH l ms) (d0:0<=d) (d1:d<l.length) (hd:d ∉ ms):yH l (ms++[d]):=anH (λ m hm=>by
 rcases List.mem_append.1 hm with hm | hm
 ·exact abB h m hm
 ·rw[List.mem_singleton.1 hm];exact⟨d0,d1⟩) (by
 rw[List.nodup_append];refine⟨ajC h,by simp,λ a ha b hb e=>?_⟩;rw[List.mem_singleton]at hb;exact hd (hb ▸ e ▸ ha))
def OwR (p:bg) (u v:mJ):Prop:=u.dF≠v.dF/\∀a b:Nat,(a:Int)<(p.av.getD u.dF.toNat aF).bU.length->(b:Int)<(p.av.getD v.dF.toNat aF).bU.length->(p.av.getD u.dF.toNat aF).bU.getD a 0≠(p.av.getD v.dF.toNat aF).bU.getD b 0
variable {p:bg}
def anI {l:akE}:TS p l↔(∀u∈l,PW p u)/\l.Pairwise (OwR p):=by
 have hg:∀i (h:i<l.length),l.getD i gB=l[i]:=λ i h=>by rw[List.getD_eq_getElem?_getD,List.getElem?_eq_getElem h];rfl
 constructor
 ·intro h;refine⟨jT gB λ i hi=>(h i om).1,List.pairwise_iff_getElem.2 λ i j hi hj hij=>?_⟩;obtain⟨_,h2,h3⟩:=h j om;have a:=h2 i hij;have c:=h3 i hij;rw[hg i hi,hg j hj]at a c;exact⟨a,c⟩
 rintro ⟨h1,h2⟩ i hi;have hi:i<l.length:=by omega
 have h3:∀k,k<i->OwR p (l.getD k gB) (l.getD i gB):=λ k hk=>by
  rw[hg k om,hg i hi];exact List.pairwise_iff_getElem.1 h2 k i om hi hk
 exact⟨h1 _ (getD_in gB hi),λ k hk=>(h3 k hk).1,λ k hk=>(h3 k hk).2⟩
def abK (h:TS p (us.map aR.l7)) (ms:ag8):TS p ((BJ ms us).map aR.l7):=by
 have hsl:((BJ ms us).map aR.l7).Sublist (us.map aR.l7):=List.Sublist.map _ List.filter_sublist;obtain⟨h1,h2⟩:=anI.1 h;exact anI.2 ⟨λ u hu=>h1 u (hsl.subset hu),h2.sublist hsl⟩
variable {f:ByteArray}
def aup {g:cu} (h:∃k:Nat,(k:Int)<g.ak.length/\(g.ak.getD k ByteArray.empty).toList=f.toList):0<=Np g f/\Np g f<g.ak.length/\g.ak.getD (Np g f).toNat ByteArray.empty=f:=by
 obtain⟨k,h1,h2⟩:=h;have hk:k<g.ak.length:=by omega
 have ha:=af4 (l:=g.ak) (P:=λ x=>f.toList==x.toList) (d:=ByteArray.empty) hk (by rw[h2];exact beq_self_eq_true _);have hl:=List.findIdx_lt_length_of_exists (List.any_eq_true.1 ha);have hg:=List.findIdx_getElem (w:=hl);unfold Np YD;rw[if_pos ha];refine⟨om,om,Xg ?_⟩;rw[show(((List.findIdx (λ x=>f.toList==x.toList) g.ak:Nat):Int)).toNat=List.findIdx (λ x=>f.toList==x.toList) g.ak from rfl,List.getD_eq_getElem?_getD,List.getElem?_eq_getElem hl];exact(beq_iff_eq.1 hg).symm
def abL {l:ag8} {y:Int} (h:y∈l):∃a:Nat,(a:Int)<l.length/\l.getD a 0=y:=by
 obtain⟨i,hi,rfl⟩:=List.mem_iff_getElem.1 h;exact⟨i,om,by rw[List.getD_eq_getElem?_getD,List.getElem?_eq_getElem hi];rfl⟩
def anJ {k:Int} (h0:0<=k) (h1:k<p.av.length) (h2:0<=Np (p.av.getD k.toNat aF) f):k∈Ee p f p.av.length:=by
 unfold Ee;exact List.mem_map.2 ⟨k.toNat,List.mem_filter.2 ⟨List.mem_range.2 om,decide_eq_true h2⟩,om⟩
variable {p_:bg} {bW:ag8}
def Xl {l_:aiS} (h1:Yp p_) (h2:l_.length<=2000000) (h3:bW.length<=2000000) (hpa:uI p_ 0) (hll:l_.length<=10) (hw:∀f∈l_,Ef f) (hg:abk p_ l_ bW) (azY:bW.length<=l_.length):W (uT p_ l_ bW) (λ r=>r.2=0/\PB p_ l_ bW r.1):=by
 unfold uT;refine aG (uX h1) λ v1 hv1=>?_;have e1:=uI.fun _ _ hv1 hpa;subst e1;refine aG (zG (uq (P:=λ v=>v=false) λ _=>?_) λ r h=>h (by rw[decide_eq_false om];rfl)) λ v2 e2=>?_
 ·unfold mP;refine aG (P:=λ v=>v = -1) ?_ λ v e=>ay (by rw[e];rfl);unfold oL;refine bK (λ g1:Int=>0<=g1) (λ g1=>(l_.length - g1).toNat) ?_ (Int.le_refl _);intro aj g1 a1 ih1;unfold sG;refine bL (λ c=>?_) (λ c=>ay rfl);have c:=eu c;refine aK om ?_;refine aG (P:=λ v=>v=false) (aG (aeE (hw _ (getD_in _ om))) λ _ e=>ay (by rw[e];rfl)) λ v3 e=>?_;subst e;exact bL (λ c=>by cases c) (λ _=>aK (by unfold aC;omega) (ih1 _ om om))
 subst e2;have hcz:((((0:Int) != (0:Int))||(decide ((10:Int)<(l_.length:Int))))||false)=false:=by rw[decide_eq_false om];rfl
 refine bL (λ c1=>by rw[hcz]at c1;cases c1) (λ _=>?_);have hgl:p_.av.length<=24:=by
  have:=(uI.v hv1).ok.gl;omega
 refine bK (λ g1:Int×List ag8=>0<=g1.1/\g1.1<=l_.length/\g1.2=(l_.take g1.1.toNat).map λ f=>Ee p_ f p_.av.length) (λ g1=>(l_.length - g1.1).toNat) ?_ ⟨ob,ob,by simp⟩;intro aj g1 ⟨a1,a2,a3⟩ ih1;have l1:g1.2.length=g1.1.toNat:=by rw[a3,List.length_map,List.length_take];omega
 unfold Jg;apply bL<;>intro c
 ·have c:=eu c;refine wn<|aG (aG (acF h1 hv1 hgl) λ v h=>ay h) λ v5 hv5=>?_;refine aK (by unfold big;omega) ?_;refine wn<|ih1 _ ⟨ob,ob,?_⟩ ob;dsimp only;rw[show(g1.1+1).toNat=g1.1.toNat+1 by omega,qQ _ _ ByteArray.empty om,<- a3,hv5]
 have c:=eu c;have e1:g1.2=l_.map λ f=>Ee p_ f p_.av.length:=by rw[a3,List.take_of_length_le om]
 refine bK (λ g2:Int×ag8=>0<=g2.1/\g2.1<=p_.av.length/\g2.2=(p_.av.take g2.1.toNat).map BI) (λ g2=>(p_.av.length - g2.1).toNat) ?_ ⟨ob,ob,by simp⟩;intro dR g2 ⟨b1,b2,b3⟩ ih2;have l2:g2.2.length=g2.1.toNat:=by rw[b3,List.length_map,List.length_take];omega
 unfold Gw;apply bL<;>intro c4
 ·have c4:=eu c4;refine wn ?_;have hpl:=(h1 _ (getD_in (i:=g2.1.toNat) aF om)).1;have hpn:=((uI.v hv1).ok.gr _ (getD_in (i:=g2.1.toNat) aF om)).pn;refine bK (λ g5:Int×Int=>0<=g5.2/\g5.2<=(p_.av.getD g2.1.toNat aF).bU.length/\g5.1=((p_.av.getD g2.1.toNat aF).bU.take g5.2.toNat).foldl orF 0) (λ g5=>((p_.av.getD g2.1.toNat aF).bU.length - g5.2).toNat) ?_ ⟨ob,ob,by simp⟩;intro kr g5 ⟨d1,d2,d3⟩ ih5;unfold Gu;refine wi ?_ ?_<;>intro c5
  ·have hx:=hpn _ (getD_in (i:=g5.2.toNat) 0 om);refine wn<|aK om ?_;refine wn<|ih5 _ ⟨ob,ob,?_⟩ ob;dsimp only;rw[show(g5.2+1).toNat=g5.2.toNat+1 by omega,M6 _ _ _ 0 om,<- d3];rfl
  refine aK (by unfold big;omega) ?_;refine wn<|ih2 _ ⟨ob,ob,?_⟩ ob;dsimp only;rw[show(g2.1+1).toNat=g2.1.toNat+1 by omega,qQ _ _ aF om,<- b3,d3,List.take_of_length_le om];rfl
 have c4:=eu c4;have e2:g2.2=p_.av.map BI:=by rw[b3,List.take_of_length_le om]
 refine bL (λ c6=>by have c6:=eu c6;omega) (λ c6=>?_);have c6:=eu c6;refine bK (λ g6:Int×Int=>0<=g6.1/\g6.1<=bW.length/\g6.2=Im g2.2 (bW.take g6.1.toNat)/\∀j:Nat,(j:Int)<g6.1->bW.getD j 0∈g1.2.getD j []) (λ g6=>(bW.length - g6.1).toNat) ?_ ⟨ob,ob,by simp[Im],λ j hj=>by dsimp only at hj;omega⟩;intro jR g6 ⟨f1,f2,f3,f4⟩ ih6;unfold Gv;refine wi ?_ ?_<;>intro c7
 ·refine wn<|aK om ?_;have hov:g1.2.getD g6.1.toNat []=Ee p_ (l_.getD g6.1.toNat ByteArray.empty) p_.av.length:=by
   rw[e1,List.getD_eq_getElem?_getD,List.getElem?_map,List.getElem?_eq_getElem om,List.getD_eq_getElem?_getD,List.getElem?_eq_getElem om];rfl
  have hol:=P7 p_ (l_.getD g6.1.toNat ByteArray.empty) p_.av.length;rw[<- hov]at hol;have hm:=getD_in (l:=bW) (i:=g6.1.toNat) 0 om;have hir:=hg.ir _ hm;have hof:=aup (hg.off g6.1.toNat om);have hmo:bW.getD g6.1.toNat 0∈g1.2.getD g6.1.toNat []:=by rw[hov];exact anJ hir.1 hir.2 hof.1
  refine aG (yV (iK om)) λ v8 xk=>?_;rw[List.contains_iff_mem.2 hmo]at xk;subst xk;have hin:(!true)=false->bW.getD g6.1.toNat 0∈g1.2.getD g6.1.toNat []:=λ _=>hmo;have hb:(!true)=false->0<=bW.getD g6.1.toNat 0/\bW.getD g6.1.toNat 0<(g2.2.length:Int):=λ e=>by
   have:=hin e;rw[hov]at this;have:=Vo this;omega
  refine aK hb ?_;apply bL<;>intro c8
  ·exfalso;simp only[Bool.not_true,Bool.false_or,bne_iff_ne,ne_eq]at c8;rw[f3,e2]at c8;obtain⟨gg,hgm,y,y1,y2⟩:=ar8 hpa.v.ok hir (λ g hgm=>hg.ir g (List.mem_of_mem_take hgm)) c8;obtain⟨j,hj,ej⟩:=abL hgm;rw[List.length_take]at hj;rw[Eo _ _ _ _ om]at ej;obtain⟨a,ha,ea⟩:=abL y1;obtain⟨c,hc,ec⟩:=abL y2;have:=hg.dj g6.1.toNat j om om;rw[ej]at this;exact this a c ha hc (ea.trans ec.symm)
  refine aK (hb rfl) ?_;refine wn<|ih6 _ ⟨ob,ob,?_,eH f4 f1 hmo⟩ ob;dsimp only;rw[show(g6.1+1).toNat=g6.1.toNat+1 by omega];unfold Im;rw[M6 _ _ _ 0 om,f3];rfl
 refine ay ⟨rfl,hv1,om,e1,e2,rfl,om,?_,λ i hi=>f4 i om⟩;dsimp only;rw[f3,List.take_of_length_le om]
def ZQ {g:Int} (h0:0<=g) (h1:g<p.av.length):(p.av.map BI).getD g.toNat 0=BI (p.av.getD g.toNat aF):=by
 rw[List.getD_eq_getElem?_getD,List.getElem?_map,List.getElem?_eq_getElem om,List.getD_eq_getElem?_getD,List.getElem?_eq_getElem om];rfl
def ajE (hv:ado p) {g:Int} (h0:0<=g) (h1:g<p.av.length) {a:Nat} (ha:(a:Int)<(p.av.getD g.toNat aF).bU.length):wX (BI (p.av.getD g.toNat aF)) ((p.av.getD g.toNat aF).bU.getD a 0).toNat=true:=by
 have h2:=(hv.gr _ (getD_in (i:=g.toNat) aF om)).pn _ (getD_in (i:=a) 0 om);have h3:=hv.pn;unfold BI;exact ady (f:=λ k=>Ra .u64 1 k) (.inr ⟨_,getD_in (i:=a) 0 om,ape om om⟩)
def akT (hv:ado p) {gs:ag8} (hg:∀x∈gs,0<=x/\x<p.av.length) {g:Int} (h0:0<=g) (h1:g<p.av.length):FU .u64 (Im (p.av.map BI) gs) ((p.av.map BI).getD g.toNat 0)=0↔adA p gs g:=by
 constructor
 ·intro h j hj a c ha hc e;have hx:=hg _ (getD_in (i:=j) 0 om);refine anD (x:=((p.av.getD (gs.getD j 0).toNat aF).bU.getD a 0).toNat) (ady (f:=λ g:Int=>(p.av.map BI).getD g.toNat 0) (.inr ⟨_,getD_in (i:=j) 0 om,?_⟩)) ?_ h
  ·rw[ZQ hx.1 hx.2];exact ajE hv hx.1 hx.2 ha
  rw[ZQ h0 h1,e];exact ajE hv h0 h1 hc
 intro hf;by_cases h:FU .u64 (Im (p.av.map BI) gs) ((p.av.map BI).getD g.toNat 0)=0
 ·exact h
 exfalso;obtain⟨x,hx1,hx2⟩:=ajw h;have pins:∀k:Int,0<=k->k<p.av.length->∀q∈(p.av.getD k.toNat aF).bU,0<=q/\q<64:=λ k k0 k1 q hq=>by
  have h2:=(hv.gr _ (getD_in (i:=k.toNat) aF om)).pn q hq;have h3:=hv.pn;omega
 rw[ZQ h0 h1]at hx2;obtain⟨q,hq,hqx⟩:=Vs (pins g h0 h1) hx2;rcases adx hx1 with h | ⟨k,hk,hkx⟩
 ·exact Vr h
 have hk2:=hg k hk;rw[ZQ hk2.1 hk2.2]at hkx;obtain⟨r,hr,hrx⟩:=Vs (pins k hk2.1 hk2.2) hkx;obtain⟨j,hj,rfl⟩:=List.mem_iff_getElem.1 hk;obtain⟨a,ha,ea⟩:=List.mem_iff_getElem.1 hr;obtain⟨c,hc,ec⟩:=List.mem_iff_getElem.1 hq;have ej:gs.getD j 0=gs[j]:=by rw[List.getD_eq_getElem?_getD,List.getElem?_eq_getElem hj];rfl
 have hd:=hf j om a c (by rw[ej];omega) om;rw[ej]at hd;have b1:=pins _ hk2.1 hk2.2 r hr;have b2:=pins g h0 h1 q hq;apply hd;have ga:(p.av.getD gs[j].toNat aF).bU.getD a 0=r:=by rw[<- ea,List.getD_eq_getElem?_getD,List.getElem?_eq_getElem ha];rfl
 have gc:(p.av.getD g.toNat aF).bU.getD c 0=q:=by rw[<- ec,List.getD_eq_getElem?_getD,List.getElem?_eq_getElem hc];rfl
 rw[ga,gc];omega
def FE (given:ag8) (o:Option ag8) (s:FSt) (r:FR):Prop:=r.2.2.1=s.2.1/\r.2.2.2.1=s.2.2.1/\r.2.1<=r.2.2.2.2.length/\
 match o with
 | some z=>r.1=true/\given++r.2.2.2.2.take r.2.1=z
 | none=>r.1=false/\r.2.1=s.2.2.2.length/\r.2.2.2.2.take r.2.1=s.2.2.2
theorem FC {l_:aiS} {x:fA} {ch:ag8} (hb:PB p_ l_ bW x) (hv:ado p_) (hgv:∀y∈bW,0<=y/\y<p_.av.length) (ho:aqb x ch):
  W (lU x.vO ch x []) (λ r=>FE bW (sch p_ l_ (l_.length - bW.length) bW) (x.vO,ch,x,[]) r):=by
 have hol:=hb.opl;have hll:=hb.ll;have hgl:=hb.gl;have hcl:=ho.len;rw[hol,hb.gv]at hcl;have auq:=hv.gl;have hml:x.rT.length=p_.av.length:=by rw[hb.ms,List.length_map]
 unfold lU;have key:W (dx iC (x.vO,ch,x,[])) ((λ s:FSt=>FE bW (sch p_ l_ (l_.length - (bW++s.2.2.2).length) (bW++s.2.2.2)) s) (x.vO,ch,x,[])):=by
  refine ant (Q:=λ s:FSt=>FE bW (sch p_ l_ (l_.length - (bW++s.2.2.2).length) (bW++s.2.2.2)) s) (λ s:FSt=>s.2.1=ch/\s.2.2.1=x/\s.2.2.2.length<=ch.length/\(∀y∈s.2.2.2,0<=y/\y<p_.av.length)/\s.1=Im x.rT (bW++s.2.2.2)) (λ s=>ch.length - s.2.2.2.length) ?_ ⟨rfl,rfl,Nat.zero_le _,nofun,by rw[List.append_nil];exact hb.tk⟩;rintro self ⟨tk,c,y,gs⟩ ⟨e1,e2,e3,e4,e5⟩ ih;dsimp only at e1 e2 e3 e4 e5;subst c y;unfold iC;apply bL<;>intro c1
  ·have c1:=eu c1;dsimp only at c1 ⊢;refine ay ?_;rw[show l_.length - (bW++gs).length=0 by rw[List.length_append];omega];exact⟨rfl,rfl,Nat.le_refl _,rfl,by dsimp only;rw[List.take_length]⟩
  have c1:=eu c1;dsimp only at c1 ⊢;have hlt:gs.length<ch.length:=by omega
  have hid:((gs.length:Int)).toNat=gs.length:=by omega
  have hat:=ho.at_ gs.length hlt;rw[hb.gv]at hat;obtain⟨m,hm⟩:∃m,l_.length - (bW++gs).length=m+1:=⟨l_.length - (bW++gs).length - 1,by rw[List.length_append];omega⟩;rw[hm];refine aK om ?_;rw[hid,hat];refine aK (by rw[hol];omega) ?_;have hgN:(((bW.length+gs.length:Nat):Int)).toNat=(bW++gs).length:=by rw[List.length_append];omega
  have hop:x.gJ.getD (bW++gs).length []=Ee p_ (l_.getD (bW++gs).length ByteArray.empty) p_.av.length:=hb.opg (by rw[List.length_append];omega);have hall:∀y∈bW++gs,0<=y/\y<p_.av.length:=λ y hy=>by
   rcases List.mem_append.1 hy with h | h
   ·exact hgv y h
   exact e4 y h
  generalize hv1:Ee p_ (l_.getD (bW++gs).length ByteArray.empty) p_.av.length=v1 at hop;have hlo:=P7 p_ (l_.getD (bW++gs).length ByteArray.empty) p_.av.length;rw[hv1]at hlo;refine bK (λ g1:Int×Nat×ag8×List ag8×ag8×ag8×Int×ag8=>0<=g1.1/\g1.1<=v1.length/\g1.2.1=gs.length/\g1.2.2.1=ch/\(⟨g1.2.2.2.1,g1.2.2.2.2.1,g1.2.2.2.2.2.1,g1.2.2.2.2.2.2.1⟩:fA)=x/\g1.2.1<=g1.2.2.2.2.2.2.2.length/\g1.2.2.2.2.2.2.2.take g1.2.1=gs/\srL (adA p_ (bW++gs)) (λ g=>sch p_ l_ m (bW++gs++[g])) (v1.drop g1.1.toNat)=sch p_ l_ (m+1) (bW++gs)) (λ g1=>(v1.length - g1.1).toNat) ?_ ⟨Int.le_refl _,by dsimp only;omega,rfl,rfl,rfl,Nat.le_refl _,List.take_length,by dsimp only;rw[<- hv1];rfl⟩;rintro aj ⟨ix,cnt,c,op,ms,gv,tn,row⟩ ⟨a1,a2,a3,a4,a5,a6,a7,a8⟩ ih1;dsimp only at a1 a2 a3 a4 a5 a6 a7 a8;subst a3 a4;have am:ms=x.rT:=by rw[<- a5]
  unfold sH;dsimp only;rw[hid,hat,hgN,hop];refine aK a6 ?_;refine wi ?_ ?_<;>intro c2
  ·have hin:v1.getD ix.toNat 0∈Ee p_ (l_.getD (bW++gs).length ByteArray.empty) p_.av.length:=by rw[hv1];exact getD_in 0 om
   obtain⟨x0,x1,_⟩:=Vo hin;have e6:(ix+1).toNat=ix.toNat+1:=by omega
   have hfb:=akT hv hall x0 x1;rw[<- hb.ms,<- e5]at hfb;rw[drop_cons 0 om]at a8;refine aK om ?_;refine aK (by rw[am];omega) ?_;refine wi ?_ ?_<;>intro c3
   ·rw[am]at c3;rw[abF (λ h=>c3 (hfb.2 h))]at a8;exact aK ob (ih1 _ ⟨ob,ob,rfl,rfl,a5,a6,a7,by dsimp only;rw[e6];exact a8⟩ ob)
   rw[am]at c3;have hfree:=hfb.1 c3;refine aK (by unfold big;omega) ?_;unfold mQ;dsimp only;rw[hid,hat,hgN,hop,a7,a5];refine aK (by rw[am];omega) ?_;refine aG (ih (_,c,x,gs++[v1.getD ix.toNat 0]) ⟨rfl,rfl,by(rw[List.length_append,List.length_singleton];omega),λ y hy=>?_,?_⟩ (by(dsimp only;rw[List.length_append,List.length_singleton];omega))) λ v3 hv3=>?_
   ·rcases List.mem_append.1 hy with h | h
    ·exact e4 y h
    rw[List.mem_singleton]at h;subst h;exact⟨x0,x1⟩
   ·dsimp only;rw[<- List.append_assoc,am,e5];unfold Im;rw[List.foldl_append (l:=bW++gs)];rfl
   obtain⟨q1,q2,q3,q4⟩:=hv3;dsimp only at q1 q2 q4;rw[<- List.append_assoc,show l_.length - (bW++gs++[v1.getD ix.toNat 0]).length=m by rw[List.length_append,List.length_singleton];omega]at q4;refine aK q3 ?_;cases hs:sch p_ l_ m (bW++gs++[v1.getD ix.toNat 0])with
   | some z=>
    rw[hs]at q4;rw[abH hfree hs]at a8;rw[q4.1];refine bL (λ _=>ay ?_) nofun;rw[<- a8];exact⟨q1,q2,q3,rfl,q4.2⟩
   | none=>
    rw[hs]at q4;obtain⟨q4,p1,p2⟩:=q4;rw[abG hfree hs]at a8;rw[q4];refine bL nofun (λ _=>?_);have p1:v3.2.1=gs.length+1:=by rw[p1,List.length_append];rfl
    have hcnt:(((v3.2.1:Nat):Int) - 1).toNat=gs.length:=by omega
    refine aK (by unfold aC;omega) ?_;refine aK om ?_;refine wn<|ih1 _ ⟨ob,ob,hcnt,q1,?_,by dsimp only;omega,?_,by dsimp only;rw[e6];exact a8⟩ ob
    ·dsimp only;rw[q2]
    dsimp only;rw[hcnt];have:=congrArg (List.take gs.length) p2;rw[List.take_take,Nat.min_eq_left om,List.take_append_of_le_length (Nat.le_refl _),List.take_length]at this;exact this
  rw[List.drop_of_length_le om]at a8;refine ay ?_;rw[<- a8];exact⟨rfl,a5,a6,rfl,rfl,a7⟩
 dsimp only at key;rw[List.append_nil]at key;exact key
variable {z:ag8}
def apj {P:Int->Prop} {f:Int->Option ag8} :∀ {os:ag8},srL P f os=some z->∃g∈os,P g/\f g=some z:=by
 intro os;induction os with
 | nil=>intro h;cases h
 | cons g os ih=>
  intro h;by_cases hP:P g
  ·cases hf:f g with
   | some x=>
    rw[abH hP hf]at h;exact⟨g,List.mem_cons_self .., hP,by rw[hf,h]⟩
   | none=>
    rw[abG hP hf]at h;obtain⟨k,h1,h2⟩:=ih h;exact⟨k,List.mem_cons_of_mem _ h1,h2⟩
  rw[abF hP]at h;obtain⟨k,h1,h2⟩:=ih h;exact⟨k,List.mem_cons_of_mem _ h1,h2⟩
def apk {g:Int} (h:0<=Np (p.av.getD g.toNat aF) f):arX p g f:=by
 have:=(decide_eq_true h).symm.trans (qI (p.av.getD g.toNat aF).ak λ q=>f.toList==q.toList);obtain⟨q,hq,hq2⟩:=List.any_eq_true.1 this.symm;obtain⟨k,hk,rfl⟩:=List.mem_iff_getElem.1 hq;refine⟨k,om,?_⟩;rw[List.getD_eq_getElem?_getD,List.getElem?_eq_getElem hk];exact(beq_iff_eq.1 hq2).symm
def anK {l:aiS} :∀(n:Nat) (gs:ag8),gs.length+n=l.length->abk p l gs->sch p l n gs=some z->z.length=l.length/\abk p l z/\z.take gs.length=gs:=by
 intro n;induction n with
 | zero=>
  intro gs h1 h2 h3;cases h3;exact⟨om,h2,List.take_length⟩
 | succ n ih=>
  intro gs h1 h2 h3;obtain⟨g,hg,hf,hs⟩:=apj h3;obtain⟨x0,x1,x2⟩:=Vo hg;obtain⟨q1,q2,q3⟩:=ih (gs++[g]) (by rw[List.length_append,List.length_singleton];omega) (anm h2 ⟨x0,x1⟩ (apk x2) hf) hs;refine⟨q1,q2,?_⟩;have:=congrArg (List.take gs.length) q3;rw[List.take_take,Nat.min_eq_left (by rw[List.length_append];omega),List.take_append_of_le_length (Nat.le_refl _),List.take_length]at this;exact this
def AsR (o:Option ag8) (r:ag8×Int):Prop:=match o with
 | some x=>r=(x,0)
 | none=>r=([],9)
def Vz {l_:aiS} (h1:Yp p_) (hpa:uI p_ 0) (hll:l_.length<=10) (hw:∀f∈l_,Ef f) (hg:abk p_ l_ bW) (hgl:bW.length<=l_.length):W (oM p_ l_ bW) (AsR (sch p_ l_ (l_.length - bW.length) bW)):=by
 have hfit:∀z,sch p_ l_ (l_.length - bW.length) bW=some z->z.length=l_.length:=λ z h=>(anK _ _ om hg h).1;unfold oM;refine aG (Xl h1 om om hpa hll hw hg hgl) λ v1 ⟨e1,hp⟩=>?_;rw[e1];refine bL (λ c=>by cases c) (λ _=>?_);have hol:=hp.opl;have hgv:v1.1.pJ.length=bW.length:=by rw[hp.gv]
 refine aG (Lc om om) λ v2 hv2=>?_;have o1:=hv2.len;generalize hs:sch p_ l_ (l_.length - bW.length) bW=o at hfit ⊢;refine aG (P:=λ r=>match o with | some z=>r.2=true/\bW++r.1=z | none=>r.2=false) ?_ λ v3 hv3=>?_
 ·unfold qV;refine aK (by unfold big;omega) ?_;refine aG (FC hp hpa.v.ok hg.ir hv2) λ v hv=>?_;rw[hs]at hv;obtain⟨_,_,q3,q4⟩:=hv;refine aK q3 (ay ?_);cases o with
  | some z=>exact q4
  | none=>exact q4.1
 cases o with
 | some z=>
  obtain⟨t1,t2⟩:=hv3;have hz:=hfit z rfl;rw[<- t2,List.length_append]at hz;rw[t1];refine bL nofun (λ _=>?_);refine aG (YS om om) λ v4 hv4=>ay ?_;rw[hv4,t2];rfl
 | none=>
  rw[hv3];exact bL (λ _=>ay rfl) nofun
def aeR {l_:aiS} (h1:Yp p_) (hpa:uI p_ 0) (hll:l_.length<=10) (hw:∀f∈l_,Ef f) (hg:abk p_ l_ bW) (hgl:bW.length<=l_.length):W (JC p_ l_ bW) (λ r=>r=0):=by
 unfold JC;refine aG (P:=λ r=>r=true) ?_ λ v1 e1=>?_
 ·unfold GU;refine aG (yI h1) λ v1 hv1=>?_;have e1:=uI.fun _ _ hv1 hpa;subst e1;refine bL (λ c=>?_) (λ _=>?_)
  ·exfalso;rw[decide_eq_false om]at c;cases c
  refine bK (λ g1:Int=>0<=g1) (λ g1=>(l_.length - g1).toNat) ?_ (Int.le_refl _);intro aj g1 a1 ih1;unfold Pq;refine bL (λ c=>?_) (λ c=>ay rfl);have c:=eu c;refine wn<|aG AL λ v4 hv4=>?_;rw[hv4.2 (hw _ (getD_in ByteArray.empty om))];exact bL nofun (λ _=>aK ob (ih1 _ om om))
 subst e1;refine bL nofun (λ _=>?_);refine aG (P:=λ r=>r=true) ?_ λ v2 e2=>?_
 ·unfold Tw;refine bL (λ c=>by have c:=eu c;omega) (λ _=>?_);have auq:=hpa.v.ok.gl;refine bK (λ g1:Int=>0<=g1) (λ g1=>(bW.length - g1).toNat) ?_ (Int.le_refl _);intro aj g1 a1 ih1;unfold Sj;refine bL (λ c=>?_) (λ c=>ay rfl);have c:=eu c;have hx:=hg.ir _ (getD_in (i:=g1.toNat) 0 om);have hgx:=h1 _ (getD_in (i:=(bW.getD g1.toNat 0).toNat) aF om);have hof:=hg.off g1.toNat om;rw[decide_eq_false (show ¬ bW.getD g1.toNat 0<0 by omega),decide_eq_false (show ¬ (p_.av.length:Int)<=bW.getD g1.toNat 0 by omega)];simp only[Bool.or_self,Bool.false_or];refine aK ob (aK (λ _=>by omega) (aK (λ _=>by omega) ?_));refine aG (uq λ _=>P6 om) λ v5 hv5=>?_;have hv5:=hv5 (by first | rfl | trivial);have h5:0<=v5:=by
   rw[hv5];obtain⟨k,hk,ek⟩:=hof;have h6:=qI (p_.av.getD (bW.getD g1.toNat 0).toNat aF).ak λ q=>(l_.getD g1.toNat ByteArray.empty).toList==q.toList;have h7:(p_.av.getD (bW.getD g1.toNat 0).toNat aF).ak.any (λ q=>(l_.getD g1.toNat ByteArray.empty).toList==q.toList)=true:=List.any_eq_true.2 ⟨_,getD_in (i:=k) ByteArray.empty om,by rw[ek];exact beq_self_eq_true _⟩;exact of_decide_eq_true (h6.trans h7)
  rw[decide_eq_false (show ¬ v5<0 by omega)];refine aK (λ _=>by omega) ?_;refine aG (uq λ _=>SB h1 (by rw[List.length_take];omega) (λ x hx=>hg.ir x (List.mem_of_mem_take hx)) hx.1 hx.2 hpa.v) λ v6 hv6=>?_;rcases hv6 rfl with⟨rfl,_⟩ | ⟨_,hn⟩
  ·exact bL nofun (λ _=>aK ob (ih1 _ om om))
  exfalso;refine hn λ j hj=>?_;rw[List.length_take]at hj;rw[Eo _ _ _ _ om];exact hg.dj g1.toNat j om om
 subst e2;exact bL nofun (λ _=>ay rfl)
def Y9 {l_:aiS} (h1:Yp p_) (hpa:uI p_ 0) (hll:l_.length<=10) (hw:∀f∈l_,Ef f) (hg:abk p_ l_ bW) (hgl:bW.length<=l_.length):W (p9 p_ l_ bW) (AsR (sch p_ l_ (l_.length - bW.length) bW)):=by
 have auq:=hpa.v.ok.gl;unfold p9;refine aG (aeR h1 hpa hll hw hg hgl) λ v1 e1=>?_;subst e1;refine bL nofun (λ _=>?_);refine aG (Y5 h1 om om hpa.v hg.ir hgl) λ v2 hv2=>?_;generalize sch p_ l_ (l_.length - bW.length) bW=o at hv2 ⊢;cases o with
 | some z=>cases hv2;exact bL nofun (λ _=>ay rfl)
 | none=>cases hv2;exact bL (λ _=>ay rfl) nofun
def Big (l:aha) (ms:ag8):Prop:=32<(jn aH.bG l ms).length\/32<(jn aH.d9 l ms).length\/10<(jn aH.ak l ms).length
abbrev RT:=ag8×ag9×ag8×ag9×ag9×Int×Int×aiX
def rtG (r:RT):aO:=⟨r.1,⟨r.2.1,r.2.2.1⟩,r.2.2.2.2.2.2.2,r.2.2.2.1,r.2.2.2.2.1⟩
def rt0 (part e:Int):RT:=([],[],[],[],[],part,e,[])
def AgE (b:aM) (l:aha) (ms:ag8) (us:aiX) (r:RT):Prop:=
 (Big l ms/\r=rt0 4 45)\/
 (¬Big l ms/\(∀t,VS b.bS t->gD b.bS t (jn aH.bG l ms)=false)/\r=rt0 1 45)\/
 (¬Big l ms/\(∃t,VS b.bS t/\gD b.bS t (jn aH.bG l ms)=true)/\(Sp.mV b.bF (jn aH.d9 l ms)).2≠0/\r=rt0 2 45)\/
 (¬Big l ms/\AgA b l ms us (rtG r)/\r.2.2.2.2.2.1=0/\r.2.2.2.2.2.2.1=0)
def apl {x y:aO} (h:AgA b l ms us x) (k:AgA b l ms us y):x=y:=by
 obtain⟨s1,r1,u1,e1,p1⟩:=h;obtain⟨s2,r2,u2,e2,p2⟩:=k;have q1:=aeI.uniq s1 s2 λ _=>rfl;have q2:=congrArg Prod.fst (r1.symm.trans r2);have q3:=Lst.uniq e1 e2 λ _=>Iff.rfl;have q4:=Lst.uniq p1 p2 λ _=>Iff.rfl;obtain⟨a1,a2,a3,a4,a5⟩:=x;obtain⟨c1,c2,c3,c4,c5⟩:=y;dsimp only at q1 q2 q3 q4 u1 u2;rw[q1,q2,q3,q4,u1,u2]
def ase {r s:RT} (h:rtG r=rtG s) (h1:r.2.2.2.2.2.1=s.2.2.2.2.2.1) (h2:r.2.2.2.2.2.2.1=s.2.2.2.2.2.2.1):r=s:=by
 obtain⟨a1,a2,a3,a4,a5,a6,a7,a8⟩:=r;obtain⟨c1,c2,c3,c4,c5,c6,c7,c8⟩:=s;unfold rtG at h;simp only[aO.mk.injEq,bZ.mk.injEq]at h;obtain⟨q1,⟨q2,q3⟩,q4,q5,q6⟩:=h;dsimp only at h1 h2;rw[q1,q2,q3,q4,q5,q6,h1,h2]
def ZR {l:ah3} {m:ajc} (h:∀t,VS l t->gD l t m=false):¬ ∃t,VS l t/\gD l t m=true:=λ⟨t,h1,h2⟩=>by
 rw[h t h1]at h2;cases h2
def AgE.fun {r s:RT} (h:AgE b l ms us r) (k:AgE b l ms us s):r=s:=by
 have fl:∀ {x:aO},AgA b l ms us x->(∃t,VS b.bS t/\gD b.bS t (jn aH.bG l ms)=true)/\(Sp.mV b.bF (jn aH.d9 l ms)).2=0:=λ h=>asb h;rcases h with⟨h1,rfl⟩ | ⟨h1,h2,rfl⟩ | ⟨h1,h2,h3,rfl⟩ | ⟨h1,h2,h3,h4⟩<;>rcases k with⟨k1,rfl⟩ | ⟨k1,k2,rfl⟩ | ⟨k1,k2,k3,rfl⟩ | ⟨k1,k2,k3,k4⟩
 ·rfl
 ·exact absurd h1 k1
 ·exact absurd h1 k1
 ·exact absurd h1 k1
 ·exact absurd k1 h1
 ·rfl
 ·exact absurd k2 (ZR h2)
 ·exact absurd (fl k2).1 (ZR h2)
 ·exact absurd k1 h1
 ·exact absurd h2 (ZR k2)
 ·rfl
 ·exact absurd (fl k2).2 h3
 ·exact absurd k1 h1
 ·exact absurd (fl h2).1 (ZR k2)
 ·exact absurd (fl h2).2 k3
 exact ase (apl h2 k2) (h3.trans k3.symm) (h4.trans k4.symm)
def agU (hn:ku b l 0) (hd:yH l ms) (h:(jn aH.bG l ms).length<=32):nN b.bS (jn aH.bG l ms)=true:=by
 obtain⟨hb,_,hnd⟩:=yJ hn;unfold nN;rw[hb.cl,decide_eq_true om,List.any_eq_false.2 λ x hx=>?_]
 ·rfl
 obtain⟨m,hm,hx⟩:=List.mem_flatMap.1 hx;obtain⟨x1,x2,x3,x4,x5⟩:=(hnd _ (abC hd hm)).lm x hx;rw[agl];simp only[Bool.or_eq_true,decide_eq_true_eq];omega
variable {b_:aM} {l_:aha} {vG:ag8}
def yK {jg:aiX} (h1:uW b_) (h3:Fj l_) (hn:ku b_ l_ 0) (hd:yH l_ vG) (h4:vG.length<=10000) (h5:jg.length<=2000000):W (o8 b_ l_ vG jg) (AgE b_ l_ vG jg):=by
 obtain⟨z1,z2,z3,z4,z5,z6,z7⟩:=h1;have hin:=abB hd;obtain⟨hb,_,hnd⟩:=yJ hn;obtain⟨_,hra,hda⟩:=ZP hn;have hul:=abA (f:=usF) (l:=l_) (c:=1) (ms:=vG) λ m _=>aeM _;have hrl:=abA (f:=aH.aZ) (l:=l_) (c:=2000000) (ms:=vG) λ m hm=>(h3.nd _ (abC hd hm)).1;unfold o8;refine aG (P:=λ r=>r=jn aH.bG l_ vG) (aG (Vx (k:=24) (of:=xG) (f:=aH.bG) (λ x=>ay rfl) (λ x hx=>by have:=(hnd x hx).ll;omega) hin h4 om) λ _ h=>ay h) λ v1 hv1=>?_;refine aG (P:=λ r=>r=jn aH.d9 l_ vG) (aG (Vx (k:=32) (of:=Am) (f:=aH.d9) (λ x=>ay rfl) (λ x hx=>by have:=(hnd x hx).dl;omega) hin h4 om) λ _ h=>ay h) λ v2 hv2=>?_;subst hv1 hv2;apply bL<;>intro c
 ·have hz:(decide ((32:Int)<(((jn aH.bG l_ vG).length:Nat):Int))||decide ((32:Int)<(((jn aH.d9 l_ vG).length:Nat):Int)))=false:=by simpa using c
  have hz2:=hz;rw[Bool.or_eq_false_iff,decide_eq_false_iff_not,decide_eq_false_iff_not]at hz2;refine aG (P:=λ r=>r=jn aH.ak l_ vG) (aG (Vx (k:=16) (of:=xH) (f:=aH.ak) (λ x=>ay rfl) (λ x hx=>by have:=(hnd x hx).fl;omega) hin h4 om) λ _ h=>ay h) λ v3 hv3=>?_;subst hv3;rw[hz,Bool.false_or];apply bL<;>intro c2
  ·have:=of_decide_eq_true c2;exact ay (.inl ⟨.inr (.inr om),rfl⟩)
  have c2:=of_decide_eq_false c2;have hnb:¬Big l_ vG:=λ h=>by
   rcases h with h | h | h<;>omega
  refine aG (Y8 (agU hn hd om)) λ v4 hv4=>?_;rcases hv4 with⟨e4,hv4⟩ | ⟨e4,hno⟩
  ·rw[e4];refine bL (λ c3=>by cases c3) (λ _=>?_);refine aG (Y1 z3 om) λ v5 hv5=>?_;refine wi ?_ ?_<;>intro c3
   ·rw[hv5]at c3;exact ay (.inr (.inr (.inl ⟨hnb,⟨_,hv4.1,hv4.2.1⟩,c3,rfl⟩)))
   refine bK (λ g1:Int×aiX=>0<=g1.1/\g1.1<=jg.length/\g1.2=BJ vG (jg.take g1.1.toNat)) (λ g1=>(jg.length - g1.1).toNat) ?_ ⟨ob,ob,rfl⟩;intro aj g1 ⟨a1,a2,a3⟩ ih1;have hl:g1.2.length<=g1.1.toNat:=by
    rw[a3];unfold BJ;exact Nat.le_trans (List.length_filter_le _ _) (by rw[List.length_take];omega)
   unfold LY;apply bL<;>intro c
   ·have c:=eu c;refine wn ?_;have hs:=uf (λ u:aR=>vG.contains u.iW) jg bE (i:=g1.1.toNat) om;have e:(g1.1+1).toNat=g1.1.toNat+1:=by omega
    refine aG (yV (iK om)) λ v8 xk=>?_;apply bL<;>intro c2
    ·rw[c2]at xk;refine aK (by unfold big;omega) ?_;refine wn<|ih1 _ ⟨ob,ob,?_⟩ ob;dsimp only;unfold BJ at a3 ⊢;rw[e,hs,<- a3,if_pos xk.symm]
    rw[c2]at xk;refine wn<|ih1 _ ⟨ob,ob,?_⟩ ob;dsimp only;unfold BJ at a3 ⊢;rw[e,hs,<- a3,if_neg (by rw[<- xk];exact Bool.false_ne_true),List.append_nil]
   have c:=eu c;refine aG (Vx (k:=8) (of:=H9) (f:=aH.aZ) (λ x=>ay rfl) (λ x hx=>(h3.nd x hx).1) hin h4 om) λ v9 Kk=>?_;subst Kk;refine aG (Y3 hra z6 om (aqh hn hd)) λ v10 JN=>?_;refine aG (Vx (k:=8) (of:=Ia) (f:=usF) (λ x=>bL (λ c=>ay (by unfold usF;rw[c];rfl)) (λ c=>ay (by unfold usF;rw[c];rfl))) (λ x _=>by have:=aeM x;omega) hin h4 om) λ v11 agI=>?_;subst agI;refine aG (aeK hda om (aqi hn hd)) λ v12 JI=>?_;refine ay (.inr (.inr (.inr ⟨hnb,⟨hv4,?_,?_,JN,JI⟩,rfl,rfl⟩)))
   ·show _=((⟨v5.1.On,v5.1.dL⟩:bZ),(0:Int));rw[<- hv5];exact Prod.ext rfl c3
   show g1.2=_;rw[a3,List.take_of_length_le om]
  rw[e4];exact bL (λ _=>ay (.inr (.inl ⟨hnb,hno,rfl⟩))) (λ c=>by cases c)
 have hz:(decide ((32:Int)<(((jn aH.bG l_ vG).length:Nat):Int))||decide ((32:Int)<(((jn aH.d9 l_ vG).length:Nat):Int)))=true:=by
  cases h:(decide ((32:Int)<(((jn aH.bG l_ vG).length:Nat):Int))||decide ((32:Int)<(((jn aH.d9 l_ vG).length:Nat):Int)))with
  | true=>rfl
  | false=>rw[h]at c;cases c
 refine aK hz (ay (.inl ⟨?_,rfl⟩));rw[Bool.or_eq_true,decide_eq_true_eq,decide_eq_true_eq]at hz;rcases hz with h | h
 ·exact .inl om
 exact .inr (.inl om)
def Xm (b:aM) (l:aha) (ms:ag8) (us:aiX) (r:RT):Prop:=
 (∃e,e≠0/\ku b l e/\r=rt0 0 e)\/(ku b l 0/\¬yH l ms/\r=rt0 0 2)\/(ku b l 0/\yH l ms/\AgE b l ms us r)
def Xm.fun {r s:RT} (h:Xm b l ms us r) (k:Xm b l ms us s):r=s:=by
 rcases h with⟨e,h1,h2,rfl⟩ | ⟨h1,h2,rfl⟩ | ⟨h1,h2,h3⟩<;>rcases k with⟨f,k1,k2,rfl⟩ | ⟨k1,k2,rfl⟩ | ⟨k1,k2,k3⟩
 ·rw[ku.fun _ _ h2 k2]
 ·exact absurd (ku.fun _ _ h2 k1) h1
 ·exact absurd (ku.fun _ _ h2 k1) h1
 ·exact absurd (ku.fun _ _ k2 h1) k1
 ·rfl
 ·exact absurd k2 h2
 ·exact absurd (ku.fun _ _ k2 h1) k1
 ·exact absurd h2 k2
 exact AgE.fun h3 k3
def abM {l_:ah3} (h1:l_.length<=2000000) (h2:m_.length<=2000000) (hl:nN l_ m_=true):W (Bn l_ m_) (λ r=>(r.2=0/\aeI l_ m_ r.1)\/(r.2≠0/\∀t,VS l_ t->gD l_ t m_=false)):=by
 have hck:eY l_=0:=by
  have h:=hl;unfold nN at h;simp only[Bool.and_eq_true,beq_iff_eq]at h;exact h.1.1
 unfold Bn;refine aG (acz ob ob) λ v1 hv1=>?_;subst v1;rw[hck,hl];refine bL (λ c1=>by cases c1) (λ _=>?_);refine aG (aeP hck h2 (ajp hl)) λ v2 hv2=>?_;refine bL (λ c2=>ay (.inr ⟨by decide,λ t ht=>?_⟩)) (λ c2=>?_)
 ·have c2:=eu c2;have e:v2=[]:=List.length_eq_zero_iff.1 om;rw[Fx hl (Q0 ht)];exact hv2.no e t ht trivial
 have c2:=eu c2;refine wn<|ay (.inl ⟨rfl,?_⟩);obtain⟨q1,q2,q3⟩:=hv2.hd (λ e=>by rw[e]at c2;simp at c2);exact⟨q1,by rw[Fx hl (Q0 q1)];exact q2,λ t ht hm=>q3 t ht (by rw[<- Fx hl (Q0 ht)];exact hm)⟩
variable {M_:ag8}
def TU (h1:∀x∈l_,x.ak.length<=10) (hin:∀m∈M_,0<=m/\m<l_.length) (h2:M_.length<=10000):W (qG l_ M_) (λ r=>r=((jn aH.ak l_ M_).length:Nat)):=by
 unfold qG;refine bK (λ g1:Int×Int=>0<=g1.2/\g1.2<=M_.length/\g1.1=((jn aH.ak l_ (M_.take g1.2.toNat)).length:Nat)) (λ g1=>(M_.length - g1.2).toNat) ?_ ⟨ob,ob,rfl⟩;intro aj g1 ⟨a1,a2,a3⟩ ih1;unfold ES;refine wi ?_ ?_<;>intro c
 ·have hx:=hin _ (getD_in (i:=g1.2.toNat) 0 om);have hl:=abA (f:=aH.ak) (l:=l_) (c:=10) (ms:=M_.take g1.2.toNat) λ m q=>h1 _ (getD_in aU (by have:=hin m (List.mem_of_mem_take q);omega));rw[List.length_take]at hl;have hf:=h1 _ (getD_in (i:=(M_.getD g1.2.toNat 0).toNat) aU om);refine aK om ?_;refine bL (λ c2=>?_) (λ c2=>by rw[decide_eq_true hx.1,decide_eq_true hx.2]at c2;cases c2);refine aK hx ?_;refine aK (by unfold aC;omega) ?_;refine aK (by unfold aC;omega) ?_;refine ih1 _ ⟨by dsimp only;omega,by dsimp only;omega,?_⟩ (by dsimp only;omega);dsimp only;rw[show(g1.2+1).toNat=g1.2.toNat+1 by omega,Vw om,List.length_append,a3];omega
 exact ay (by rw[a3,List.take_of_length_le om])
variable {g_:aO}
def yL (h1:uW b_) (h2:Yp b_.aT) (h3:Fj l_) (h4:M_.length<=10000) (h5:g_.dK.length<=2000000):W (sP b_ l_ M_ g_) (Xm b_ l_ M_ g_.dK):=by
 obtain⟨z1,z2,z3,z4,z5,z6,z7⟩:=id h1;unfold sP;refine aG (Il h1 h2 h3) λ v1 hv1=>?_;refine bL (λ c1=>ay (.inl ⟨v1,by have c1:=eu c1;exact c1,hv1,rfl⟩)) (λ c1=>?_);have c1:=eu c1;rw[c1]at hv1;obtain⟨hb,hl12,hnd⟩:=yJ hv1;refine aG (zV om om) λ v2 hv2=>?_;refine bL (λ c2=>ay (.inr (.inl ⟨hv1,λ h=>(by rw[hv2.2 h]at c2;cases c2),rfl⟩))) (λ c2=>?_);have c2:=eu c2;have hdf:=hv2.1 c2;have hin:=abB hdf;obtain⟨_,hra,hda⟩:=ZP hv1;refine aG (agR (k:=24) (f:=aH.bG) (λ x hx=>by have:=(hnd x hx).ll;omega) hin h4 om) λ v3 hv3=>?_;refine aG (agR (k:=32) (f:=aH.d9) (λ x hx=>by have:=(hnd x hx).dl;omega) hin h4 om) λ v4 hv4=>?_;refine aG (uq λ _=>TU (λ x hx=>(hnd x hx).fl) hin h4) λ v5 hv5=>?_;subst hv3 hv4;apply bL<;>intro c3
 ·refine ay (.inr (.inr ⟨hv1,hdf,.inl ⟨?_,rfl⟩⟩));cases q:(decide ((32:Int)<(((jn aH.bG l_ M_).length:Nat):Int))||decide ((32:Int)<(((jn aH.d9 l_ M_).length:Nat):Int)))with
  | true=>
   rw[Bool.or_eq_true,decide_eq_true_eq,decide_eq_true_eq]at q;rcases q with h | h
   ·exact .inl om
   exact .inr (.inl om)
  | false=>
   rw[q,Bool.false_or,hv5 q]at c3;have:=of_decide_eq_true c3;exact .inr (.inr om)
 simp only[Bool.or_eq_false_iff]at c3;obtain⟨c33,c3b⟩:=c3;have hv5:=hv5 (by rw[Bool.or_eq_false_iff];exact c33);obtain⟨c3,c3'⟩:=c33;have c3:=eu c3;have c3:=eu c3';have c3b:=eu c3b;rw[hv5]at c3b;have hnb:¬Big l_ M_:=λ h=>by
  rcases h with h | h | h<;>omega
 refine aG (abM z1 om (agU hv1 hdf om)) λ v6 hv6=>?_;apply bL<;>intro c4
 ·have c4:=eu c4;rcases hv6 with⟨e,_⟩ | ⟨_,hno⟩
  ·exact absurd e c4
  exact ay (.inr (.inr ⟨hv1,hdf,.inr (.inl ⟨hnb,hno,rfl⟩)⟩))
 have c4:=eu c4;obtain hst:aeI b_.bS (jn aH.bG l_ M_) v6.1:=by
  rcases hv6 with⟨_,h⟩ | ⟨e,_⟩
  ·exact h
  exact absurd c4 e
 refine aG (Sp.acy z3 om) λ v7 hv7=>?_;apply bL<;>intro c5
 ·have c5:=eu c5;rw[hv7]at c5;exact ay (.inr (.inr ⟨hv1,hdf,.inr (.inr (.inl ⟨hnb,⟨_,hst.1,hst.2.1⟩,c5,rfl⟩))⟩))
 have c5:=eu c5;refine bK (λ g1:Int×ag8×ag8=>0<=g1.1/\g1.1<=M_.length/\g1.2.1=jn aH.aZ l_ (M_.take g1.1.toNat)/\g1.2.2=jn usF l_ (M_.take g1.1.toNat)) (λ g1=>(M_.length - g1.1).toNat) ?_ ⟨ob,ob,rfl,rfl⟩;intro aj g1 ⟨a1,a2,a3,a4⟩ ih1;have l3:=abA (f:=aH.aZ) (l:=l_) (c:=2000000) (ms:=M_.take g1.1.toNat) λ m q=>(h3.nd _ (abC hdf (List.mem_of_mem_take q))).1;have l4:=abA (f:=usF) (l:=l_) (c:=1) (ms:=M_.take g1.1.toNat) λ m _=>aeM _;rw[<- a3,List.length_take]at l3;rw[<- a4,List.length_take]at l4;unfold MG;refine wi ?_ ?_<;>intro c
 ·have hm:=(hdf g1.1.toNat om).1;have hx:=(h3.nd _ (getD_in (i:=(M_.getD g1.1.toNat 0).toNat) aU om)).1;have e:(g1.1+1).toNat=g1.1.toNat+1:=by omega
  refine aK om ?_;refine aK hm ?_;refine aK (by unfold big;omega) ?_;refine aK hm ?_;refine wi ?_ ?_<;>intro c6
  ·refine aK hm ?_;refine aK (by unfold big;omega) ?_;refine aK (by unfold aC;omega) ?_;exact ih1 _ ⟨by dsimp only;omega,by dsimp only;omega,by dsimp only;rw[e,Vw om,a3],by dsimp only;rw[e,Vw om,a4];congr 1;unfold usF;rw[decide_eq_false om];rfl⟩ (by dsimp only;omega)
  refine aK (by unfold aC;omega) ?_;exact ih1 _ ⟨by dsimp only;omega,by dsimp only;omega,by dsimp only;rw[e,Vw om,a3],by dsimp only;rw[e,Vw om,a4];unfold usF;rw[decide_eq_true om];exact(List.append_nil _).symm⟩ (by dsimp only;omega)
 rw[List.take_of_length_le om]at a3 a4;refine aG (Y6 z6 om hra (by rw[a3];exact aqh hv1 hdf)) λ v8 ⟨_,xk⟩=>?_;refine aG (agS om hda (by rw[a4];exact aqi hv1 hdf)) λ v9 ⟨_,Kk⟩=>?_;refine aG (Vy h5 h4) λ v10 JN=>?_;rw[a3]at xk;rw[a4]at Kk;refine ay (.inr (.inr ⟨hv1,hdf,.inr (.inr (.inr ⟨hnb,⟨hst,?_,JN,xk,Kk⟩,rfl,rfl⟩))⟩));show _=((⟨v7.1.On,v7.1.dL⟩:bZ),(0:Int));rw[<- hv7];exact Prod.ext rfl c5
def VA (h1:uW b_) (h2:Yp b_.aT) (h3:Fj l_) (h4:M_.length<=10000) (h5:g_.dK.length<=2000000):W (yg b_ l_ g_ M_) (Xm b_ l_ M_ g_.dK):=
 show W (sP b_ l_ M_ g_) _ from yL h1 h2 h3 h4 h5
def g00:aO:=⟨[],⟨[],[]⟩,[],[],[]⟩
def Nu (b:aM) (l:aha) (ms:ag8) (r:Int):Prop:=
 (r≠0/\ku b l r)\/(ku b l 0/\¬yH l ms/\r=2)\/(ku b l 0/\yH l ms/\r=0)
def Nu.fun {r s:Int} (h:Nu b l ms r) (k:Nu b l ms s):r=s:=by
 rcases h with⟨h1,h2⟩ | ⟨h1,h2,rfl⟩ | ⟨h1,h2,rfl⟩<;>rcases k with⟨k1,k2⟩ | ⟨k1,k2,rfl⟩ | ⟨k1,k2,rfl⟩
 ·exact ku.fun _ _ h2 k2
 ·exact absurd (ku.fun _ _ h2 k1) h1
 ·exact absurd (ku.fun _ _ h2 k1) h1
 ·exact absurd (ku.fun _ _ k2 h1) k1
 ·rfl
 ·exact absurd k2 h2
 ·exact absurd (ku.fun _ _ k2 h1) k1
 ·exact absurd h2 k2
 rfl
def Nu.ok (h:Nu b l ms 0):ku b l 0/\yH l ms:=by
 rcases h with⟨h1,_⟩ | ⟨_,_,h⟩ | ⟨h1,h2,_⟩
 ·exact absurd rfl h1
 ·cases h
 exact⟨h1,h2⟩
def Qc {ah:ag8} (h1:uW b_) (h2:Yp b_.aT) (h3:Fj l_) (h4:ah.length<=10000):W (Bd b_ l_ ah) (Nu b_ l_ ah):=by
 unfold Bd;refine aG (Sz h1 h2 h3) λ v1 hv1=>?_;refine bL (λ c1=>ay (.inl ⟨by have c1:=eu c1;exact c1,hv1⟩)) (λ c1=>?_);have c1:=eu c1;rw[c1]at hv1;refine bK (λ g1:Int=>0<=g1/\∀i:Nat,(i:Int)<g1->(0<=ah.getD i 0/\ah.getD i 0<l_.length)/\∀k:Nat,k<i->ah.getD k 0≠ah.getD i 0) (λ g1=>(ah.length - g1).toNat) ?_ ⟨Int.le_refl _,λ i hi=>by omega⟩;intro aj g1 ⟨a1,a2⟩ ih1;unfold OD;refine wi ?_ ?_<;>intro c
 ·refine wn<|aK (λ _=>by omega) ?_;refine aG (uq λ _=>yV (iK (by rw[List.length_take];omega))) λ v4 hv4=>?_;cases hz:(decide (ah.getD g1.toNat 0<0)||decide ((l_.length:Int)<=ah.getD g1.toNat 0))with
  | true=>
   refine bL (λ _=>ay (.inr (.inl ⟨hv1,λ hd=>?_,rfl⟩))) nofun;have:=(hd g1.toNat om).1;rw[Bool.or_eq_true,decide_eq_true_eq,decide_eq_true_eq]at hz;omega
  | false=>
   have e4:=hv4 hz;rw[Bool.or_eq_false_iff,decide_eq_false_iff_not,decide_eq_false_iff_not]at hz;rw[Bool.false_or];cases hq:v4 with
   | true=>
    rw[hq]at e4;refine bL (λ _=>ay (.inr (.inl ⟨hv1,λ hd=>?_,rfl⟩))) nofun;obtain⟨k,k1,k2⟩:=(AO om).1 e4.symm;exact(hd g1.toNat om).2 k k1 k2
   | false=>
    rw[hq]at e4;refine bL nofun (λ _=>aK ob (ih1 _ ⟨om,eH a2 a1 ⟨om,λ k hk e=>?_⟩⟩ om));rw[(AO om).2 ⟨k,hk,e⟩]at e4;cases e4
 exact ay (.inr (.inr ⟨hv1,λ i hi=>a2 i om,rfl⟩))
def Qd (h1:uW b_) (h2:Yp b_.aT) (h3:Fj l_) (h4:vG.length<=10000) (h5:Ec g_):W (wI b_ l_ vG g_) (λ r=>∃q,Rt b_ l_ vG g_ false q/\r=(q==0)):=by
 unfold wI;exact aG (YU h1 h2 h3 h4 h5) λ v1 hv1=>ay ⟨v1,hv1,rfl⟩
def Qe (h1:uW b_) (h2:Yp b_.aT) (h3:Fj l_) (h4:vG.length<=10000) (h5:Ec g_):W (Bu b_ l_ vG g_) (λ r=>∃q,Rt b_ l_ vG g_ false q/\r=(q==0)):=by
 unfold Bu;exact aG (YW h1 h2 h3 h4 h5) λ v1 hv1=>ay ⟨v1,hv1,rfl⟩
def FD (b:aM) (l:aha) (ms:ag8) (g:aO) (d:Int) (r:Int):Prop:=
 (r≠0/\Nu b l ms r)\/(Nu b l ms 0/\(∃q,q≠0/\Rt b l ms g false q)/\r=41)\/(Nu b l ms 0/\Rt b l ms g false 0/\(d<0\/(l.length:Int)<=d)/\r=2)\/(Nu b l ms 0/\Rt b l ms g false 0/\(0<=d/\d<l.length)/\r=0)
variable {g:aO}
def FD.fun {r s:Int} (h:FD b l ms g d r) (k:FD b l ms g d s):r=s:=by
 rcases h with⟨h1,h2⟩ | ⟨h1,⟨q,h2,h3⟩,rfl⟩ | ⟨h1,h2,h3,rfl⟩ | ⟨h1,h2,h3,rfl⟩<;>rcases k with⟨k1,k2⟩ | ⟨k1,⟨p,k2,k3⟩,rfl⟩ | ⟨k1,k2,k3,rfl⟩ | ⟨k1,k2,k3,rfl⟩
 ·exact Nu.fun h2 k2
 ·exact absurd (Nu.fun h2 k1) h1
 ·exact absurd (Nu.fun h2 k1) h1
 ·exact absurd (Nu.fun h2 k1) h1
 ·exact absurd (Nu.fun k2 h1) k1
 ·rfl
 ·exact absurd (Rt.fun _ _ h3 k2) h2
 ·exact absurd (Rt.fun _ _ h3 k2) h2
 ·exact absurd (Nu.fun k2 h1) k1
 ·exact absurd (Rt.fun _ _ k3 h2) k2
 ·rfl
 ·omega
 ·exact absurd (Nu.fun k2 h1) k1
 ·exact absurd (Rt.fun _ _ k3 h2) k2
 ·omega
 rfl
def FD.ok (h:FD b l ms g d 0):ku b l 0/\yH l ms/\Rt b l ms g false 0/\0<=d/\d<l.length:=by
 rcases h with⟨h1,_⟩ | ⟨_,_,h⟩ | ⟨_,_,_,h⟩ | ⟨h1,h2,h3,_⟩
 ·exact absurd rfl h1
 ·cases h
 ·cases h
 exact⟨h1.ok.1,h1.ok.2,h2,h3⟩
def M7 (h1:uW b_) (h2:Yp b_.aT) (h3:Fj l_) (h4:vG.length<=10000) (h5:Ec g_):W (tQ b_ l_ vG g_ d_) (FD b_ l_ vG g_ d_):=by
 unfold tQ;refine aG (Qc h1 h2 h3 h4) λ v1 hv1=>?_;refine bL (λ c1=>ay (.inl ⟨by have c1:=eu c1;exact c1,hv1⟩)) (λ c1=>?_);have c1:=eu c1;subst c1;refine aG (Qd h1 h2 h3 h4 h5) λ v2 ⟨q,hq,e⟩=>?_;subst e;refine bL (λ c2=>ay (.inr (.inl ⟨hv1,⟨q,λ e=>by(subst e;cases c2),hq⟩,rfl⟩))) (λ c2=>?_);have e0:q=0:=by simpa using c2
 subst e0;refine bL (λ c3=>ay (.inr (.inr (.inl ⟨hv1,hq,?_,rfl⟩)))) (λ c3=>ay (.inr (.inr (.inr ⟨hv1,hq,?_,rfl⟩))))
 ·rw[Bool.or_eq_true,decide_eq_true_eq,decide_eq_true_eq]at c3;exact c3
 rw[Bool.or_eq_false_iff,decide_eq_false_iff_not,decide_eq_false_iff_not]at c3;omega
def M8 (h1:uW b_) (h2:Yp b_.aT) (h3:Fj l_) (h4:vG.length<=10000) (h5:Ec g_):W (tZ b_ l_ vG g_ d_) (FD b_ l_ vG g_ d_):=by
 have hl:=h3.len;unfold tZ;refine aG (Il h1 h2 h3) λ v1 hv1=>?_;apply bL<;>intro c1
 ·have c1:=eu c1;exact ay (.inl ⟨c1,.inl ⟨c1,hv1⟩⟩)
 have c1:=eu c1;subst c1;refine aG (zV om om) λ v2 hv2=>?_;refine bL (λ c2=>ay (.inl ⟨by decide,.inr (.inl ⟨hv1,λ h=>(by rw[hv2.2 h]at c2;cases c2),rfl⟩)⟩)) (λ c2=>?_);have hc:Nu b_ l_ vG 0:=.inr (.inr ⟨hv1,hv2.1 (by simpa using c2),rfl⟩);refine aG (Qe h1 h2 h3 h4 h5) λ v3 ⟨q,hq,e⟩=>?_;subst e;refine bL (λ c3=>ay (.inr (.inl ⟨hc,⟨q,λ e=>by(subst e;cases c3),hq⟩,rfl⟩))) (λ c3=>?_);have e0:q=0:=by simpa using c3
 subst e0;refine bL (λ c3=>ay (.inr (.inr (.inl ⟨hc,hq,?_,rfl⟩)))) (λ c3=>ay (.inr (.inr (.inr ⟨hc,hq,?_,rfl⟩))))
 ·rw[Bool.or_eq_true,decide_eq_true_eq,decide_eq_true_eq]at c3;exact c3
 rw[Bool.or_eq_false_iff,decide_eq_false_iff_not,decide_eq_false_iff_not]at c3;omega
def Xm.age {r:RT} (hn:ku b l 0) (hd:yH l ms) (h:Xm b l ms us r):AgE b l ms us r:=by
 rcases h with⟨e,h1,h2,_⟩ | ⟨_,h2,_⟩ | ⟨_,_,h⟩
 ·exact absurd (ku.fun _ _ h2 hn) h1
 ·exact absurd hd h2
 exact h
def anL (q:RT):aO×Int×Int:=(rtG q,q.2.2.2.2.2.1,q.2.2.2.2.2.2.1)
def abN (h1:uW b_) (h2:Yp b_.aT) (h3:Fj l_) (h4:vG.length<=10000) (h5:g_.dK.length<=2000000):W (GY b_ l_ vG g_) (λ r=>∃q,Xm b_ l_ vG g_.dK q/\r=anL q):=by
 unfold GY;refine aG (Qc h1 h2 h3 h4) λ v1 hv1=>?_;refine wi ?_ ?_<;>intro c1
 ·refine ay ⟨rt0 0 v1,?_,rfl⟩;rcases hv1 with⟨q1,q2⟩ | ⟨q1,q2,rfl⟩ | ⟨_,_,q⟩
  ·exact .inl ⟨v1,q1,q2,rfl⟩
  ·exact .inr (.inl ⟨q1,q2,rfl⟩)
  exact absurd q c1
 subst c1;obtain⟨hn,hd⟩:=hv1.ok;exact aG (yK h1 h3 hn hd h4 h5) λ v2 hv2=>ay ⟨v2,.inr (.inr ⟨hn,hd,hv2⟩),rfl⟩
def aiB (b:aM) (l:aha) (ms:ag8) (g:aO) (d:Int) (r:aO×Int):Prop:=
 (∃e,e≠0/\FD b l ms g d e/\r=(g00,e))\/(FD b l ms g d 0/\d ∉ ms/\r=(g00,4))\/(FD b l ms g d 0/\d∈ms/\∃q,AgE b l (Lf ms d) g.dK q/\r=(rtG q,q.2.2.2.2.2.2.1))
def aiB.fun {r s:aO×Int} (h:aiB b l ms g d r) (k:aiB b l ms g d s):r=s:=by
 rcases h with⟨e,h1,h2,rfl⟩ | ⟨h1,h2,rfl⟩ | ⟨h1,h2,q,h3,rfl⟩<;>rcases k with⟨f,k1,k2,rfl⟩ | ⟨k1,k2,rfl⟩ | ⟨k1,k2,p,k3,rfl⟩
 ·rw[FD.fun h2 k2]
 ·exact absurd (FD.fun h2 k1) h1
 ·exact absurd (FD.fun h2 k1) h1
 ·exact absurd (FD.fun k2 h1) k1
 ·rfl
 ·exact absurd k2 h2
 ·exact absurd (FD.fun k2 h1) k1
 ·exact absurd h2 k2
 rw[AgE.fun h3 k3]
def TV (h1:uW b_) (h2:Yp b_.aT) (h3:Fj l_) (h4:vG.length<=10000) (h5:Ec g_):W (vD b_ l_ vG g_ d_) (aiB b_ l_ vG g_ d_):=by
 unfold vD;refine aG (M7 h1 h2 h3 h4 h5) λ v1 hv1=>?_;refine bL (λ c=>ay (.inl ⟨v1,by have c:=eu c;exact c,hv1,rfl⟩)) (λ c=>?_);have c:=eu c;subst c;obtain⟨hn,hd,_,_⟩:=hv1.ok;refine aG (yV (iK om)) λ v2 hv2=>?_;subst hv2;refine bL (λ c=>ay (.inr (.inl ⟨hv1,λ h=>(by rw[List.contains_iff_mem.2 h]at c;cases c),rfl⟩))) (λ c=>?_);have hm:d_∈vG:=List.contains_iff_mem.1 (by simpa using c);refine aG (ng om) λ v3 hv3=>?_;subst hv3;refine aG (Ip om) λ v4 ⟨q1,q2⟩=>?_;refine aK q1 ?_;rw[q2];exact aG (yK h1 h3 hn (abJ hd _) (Nat.le_trans (List.length_filter_le _ _) h4) h5.us) λ v5 hv5=>ay (.inr (.inr ⟨hv1,hm,v5,hv5,rfl⟩))
def Za (h1:uW b_) (h2:Yp b_.aT) (h3:Fj l_) (h4:vG.length<=10000) (h5:Ec g_):W (Ea b_ l_ vG g_ d_) (aiB b_ l_ vG g_ d_):=by
 unfold Ea;refine aG (M8 h1 h2 h3 h4 h5) λ v1 hv1=>?_;refine bL (λ c=>ay (.inl ⟨v1,by have c:=eu c;exact c,hv1,rfl⟩)) (λ c=>?_);have c:=eu c;subst c;obtain⟨hn,hd,_,_⟩:=hv1.ok;refine aG (Qb om) λ v2 hv2=>?_;subst hv2;refine bL (λ c=>ay (.inr (.inl ⟨hv1,λ h=>(by rw[List.contains_iff_mem.2 h]at c;cases c),rfl⟩))) (λ c=>?_);have hm:d_∈vG:=List.contains_iff_mem.1 (by simpa using c);refine aG (Xk om) λ v3 hv3=>?_;subst hv3;exact aG (yL h1 h2 h3 (Nat.le_trans (List.length_filter_le _ _) h4) h5.us) λ v5 hv5=>ay (.inr (.inr ⟨hv1,hm,v5,hv5.age hn (abJ hd _),rfl⟩))
def agV {e:Int}:ku b [] e↔TR b e:=by
 constructor
 ·rintro (⟨h,_⟩ | ⟨h,⟨h1,_⟩ | ⟨_,⟨i,hi,_⟩ | ⟨_,rfl⟩⟩⟩)
  ·exact h
  ·exact absurd h1 (by decide)
  ·exact absurd hi (by simp)
  exact h
 intro h;by_cases e0:e=0
 ·subst e0;exact .inr ⟨h,.inr ⟨by decide,.inr ⟨λ k hk=>absurd hk (by simp),rfl⟩⟩⟩
 exact .inl ⟨h,e0⟩
def ajF:yH l []:=λ i hi=>absurd hi (by simp)
def acJ (h1:uW b_) (h2:Yp b_.aT):W (EG b_) (λ r=>∃q,Xm b_ [] [] [] q/\r=(rtG q,q.2.2.2.2.2.2.1)):=by
 have h3:Fj []:=⟨by decide,nofun⟩;unfold EG;refine aG (P8 h1 h2) λ v1 hv1=>?_;refine wi ?_ ?_<;>intro c
 ·exact ay ⟨rt0 0 v1,.inl ⟨v1,c,agV.2 hv1,rfl⟩,rfl⟩
 subst c;have hn:=agV.2 hv1;exact aG (yK h1 h3 hn ajF (by decide) (by decide)) λ v2 hv2=>ay ⟨v2,.inr (.inr ⟨hn,ajF,hv2⟩),rfl⟩
def SF (h1:uW b_) (h2:Yp b_.aT):W (zM b_) (λ r=>∃q,Xm b_ [] [] [] q/\r=(rtG q,q.2.2.2.2.2.2.1)):=by
 have h3:Fj []:=⟨by decide,nofun⟩;unfold zM;exact aG (yL h1 h2 h3 (by decide) (by decide)) λ v1 hv1=>ay ⟨v1,hv1,rfl⟩
open Classical in
noncomputable def asg (p:bg) (N:aiS) (G:ag8):Option (ag8):=if N.length<=10 then sch p N (N.length - G.length) G else none
def AsE (o:Option ag8) (r:ag8×Int):Prop:=match o with
 | some x=>r=(x,0)
 | none=>r.2≠0
def anM {o:Option ag8} {r:ag8×Int} (h:AsR o r):AsE o r:=by
 cases o with
 | some x=>exact h
 | none=>cases h;exact nofun
def ajG (h:ku b l 0):∀n∈l,∀f∈n.ak,Ef f:=by
 obtain⟨h1,h2⟩:=Qa h;obtain⟨c1,c2⟩:=pq (by decide) h2;refine jT aU λ i hi=>?_;obtain⟨d1,d2⟩:=pq (by decide) (ajr c2 i hi);obtain⟨e1,e2⟩:=pq (by decide) d2;obtain⟨f1,f2⟩:=pq (by decide) e2;obtain⟨g1,g2⟩:=pq (by decide) f2;refine jT ByteArray.empty λ j hj=>Classical.byContradiction λ q=>g1 ⟨j,om,q⟩
def agW (hp:akP b.aT) (hu:∀u∈us,PW b.aT u.l7):∀f∈us.map (nmH b),Ef f:=λ f hf=>by
 obtain⟨u,h,rfl⟩:=List.mem_map.1 hf;obtain⟨u1,u2,u3,u4⟩:=hu u h;exact(hp.gr u.l7.dF.toNat om).fw u.l7.gL.toNat om
def VB {l_:aiS} (h1:Yp p_) (hpa:uI p_ 0) (hw:∀f∈l_,Ef f) (hg:abk p_ l_ bW) (hgl:bW.length<=l_.length):W (oM p_ l_ bW) (AsE (asg p_ l_ bW)):=by
 unfold asg;by_cases hl:l_.length<=10
 ·rw[if_pos hl];exact zG (Vz h1 hpa hl hw hg hgl) λ _ h=>anM h
 rw[if_neg hl];have e10:decide ((10:Int)<(l_.length:Int))=true:=decide_eq_true om;unfold oM;refine aG (P:=λ r=>r.2=1) ?_ λ v1 e1=>?_
 ·unfold uT;refine aG (uX h1) λ v1 hv1=>?_;rw[e10,Bool.or_true];refine aG (P:=λ _=>True) (zG (uq (P:=λ _=>True) λ h=>by cases h) λ _ _=>trivial) λ v2 _=>?_;exact bL (λ _=>ay rfl) nofun
 rw[e1];exact bL (λ _=>ay (show(1:Int)≠0 by decide)) nofun
def Zb {l_:aiS} (h1:Yp p_) (hpa:uI p_ 0) (hw:∀f∈l_,Ef f) (hg:abk p_ l_ bW) (hgl:bW.length<=l_.length):W (p9 p_ l_ bW) (AsE (asg p_ l_ bW)):=by
 unfold asg;by_cases hl:l_.length<=10
 ·rw[if_pos hl];exact zG (Y9 h1 hpa hl hw hg hgl) λ _ h=>anM h
 rw[if_neg hl];have e10:decide ((10:Int)<(l_.length:Int))=true:=decide_eq_true om;unfold p9;refine aG (P:=λ r=>r=1) ?_ λ v1 e1=>?_
 ·unfold JC;refine aG (P:=λ r=>r=false) ?_ λ v1 e1=>?_
  ·unfold GU;refine aG (yI h1) λ v1 hv1=>?_;rw[e10,Bool.or_true];exact bL (λ _=>ay rfl) nofun
  rw[e1];exact bL (λ _=>ay rfl) nofun
 rw[e1];exact bL (λ _=>ay (show(1:Int)≠0 by decide)) nofun
def nwU (b:aM) (d:Int) (fns:aiS) (z:ag8) (k n:Nat):aiX:=(List.range n).map λ i=>⟨d,⟨z.getD (k+i) 0,Np (b.aT.av.getD (z.getD (k+i) 0).toNat aF) (fns.getD i ByteArray.empty)⟩⟩
def agX {fns:aiS} {k n:Nat}:nwU b d fns z k (n+1)=nwU b d fns z k n++[⟨d,⟨z.getD (k+n) 0,Np (b.aT.av.getD (z.getD (k+n) 0).toNat aF) (fns.getD n ByteArray.empty)⟩⟩]:=by
 unfold nwU;rw[List.range_succ,List.map_append];rfl
def aiC (b:aM) (l:aha) (ms:ag8) (g:aO) (d:Int) (r:aO×Int×Int):Prop:=
 (∃e,e≠0/\FD b l ms g d e/\r=(g00,0,e))\/(FD b l ms g d 0/\d∈ms/\r=(g00,0,5))\/
 (FD b l ms g d 0/\d ∉ ms/\∃q,AgE b l (ms++[d]) (BJ ms g.dK) q/\
   ((q.2.2.2.2.2.2.1≠0/\r=(g00,q.2.2.2.2.2.1,q.2.2.2.2.2.2.1))\/
    (q.2.2.2.2.2.2.1=0/\asg b.aT ((BJ ms g.dK).map (nmH b)++(l.getD d.toNat aU).ak) ((BJ ms g.dK).map λ u=>u.l7.dF)=none/\r=(g00,3,45))\/
    (q.2.2.2.2.2.2.1=0/\∃z,asg b.aT ((BJ ms g.dK).map (nmH b)++(l.getD d.toNat aU).ak) ((BJ ms g.dK).map λ u=>u.l7.dF)=some z/\
      r=(⟨q.1,⟨q.2.1,q.2.2.1⟩,q.2.2.2.2.2.2.2++nwU b d (l.getD d.toNat aU).ak z (BJ ms g.dK).length (l.getD d.toNat aU).ak.length,q.2.2.2.1,q.2.2.2.2.1⟩,0,0))))
def aiC.fun {r s:aO×Int×Int} (h:aiC b l ms g d r) (k:aiC b l ms g d s):r=s:=by
 rcases h with⟨e,h1,h2,rfl⟩ | ⟨h1,h2,rfl⟩ | ⟨h1,h2,q,h3,h4⟩<;>rcases k with⟨f,k1,k2,rfl⟩ | ⟨k1,k2,rfl⟩ | ⟨k1,k2,p,k3,k4⟩
 ·rw[FD.fun h2 k2]
 ·exact absurd (FD.fun h2 k1) h1
 ·exact absurd (FD.fun h2 k1) h1
 ·exact absurd (FD.fun k2 h1) k1
 ·rfl
 ·exact absurd h2 k2
 ·exact absurd (FD.fun k2 h1) k1
 ·exact absurd k2 h2
 obtain rfl:=AgE.fun h3 k3;rcases h4 with⟨a1,rfl⟩ | ⟨a1,a2,rfl⟩ | ⟨a1,z,a2,rfl⟩<;>rcases k4 with⟨c1,rfl⟩ | ⟨c1,c2,rfl⟩ | ⟨c1,y,c2,rfl⟩
 ·rfl
 ·exact absurd c1 a1
 ·exact absurd c1 a1
 ·exact absurd a1 c1
 ·rfl
 ·rw[a2]at c2;cases c2
 ·exact absurd a1 c1
 ·rw[a2]at c2;cases c2
 rw[a2]at c2;cases c2;rfl
def anN {q:RT} (h:AgE b l ms us q) (e:q.2.2.2.2.2.2.1=0):AgA b l ms us (rtG q):=by
 rcases h with⟨_,rfl⟩ | ⟨_,_,rfl⟩ | ⟨_,_,_,rfl⟩ | ⟨_,h,_⟩
 ·exact absurd e (by decide)
 ·exact absurd e (by decide)
 ·exact absurd e (by decide)
 exact h
structure AsG (b:aM) (fns:aiS) (K:aiX) (z:ag8):Prop where
 ln:z.length=K.length+fns.length
 ir:∀x∈z,0<=x/\x<b.aT.av.length
def anO {fns:aiS} {K:aiX} (ho:TS b.aT (K.map aR.l7)) (h:asg b.aT (K.map (nmH b)++fns) (K.map λ u=>u.l7.dF)=some z):AsG b fns K z:=by
 unfold asg at h;split at h
 ·obtain⟨q1,q2,_⟩:=anK (l:=K.map (nmH b)++fns) _ _ (by rw[List.length_append,List.length_map,List.length_map];omega) (aeN (fs:=fns) ho) h;exact⟨by rw[q1,List.length_append,List.length_map],q2.ir⟩
 cases h
def Zc (h1:uW b_) (h2:Yp b_.aT) (h3:Fj l_) (h4:vG.length<=9999) (h5:Ec g_) (h6:g_.dK.length<=1000000):W (xV b_ l_ vG g_ d_) (aiC b_ l_ vG g_ d_):=by
 obtain⟨z1,z2,z3,z4,z5,z6,z7⟩:=id h1;unfold xV;refine aG (M7 h1 h2 h3 om h5) λ v1 hv1=>?_;refine bL (λ c=>ay (.inl ⟨v1,by have c:=eu c;exact c,hv1,rfl⟩)) (λ c=>?_);have c:=eu c;subst c;obtain⟨hn,hd,hb,d0,d1⟩:=hv1.ok;have hpa:=(ZP hn).1;have ho:=abK (ajv hb).2 vG;refine aG (yV (iK om)) λ v2 hv2=>?_;subst hv2;refine bL (λ c2=>ay (.inr (.inl ⟨hv1,List.contains_iff_mem.1 c2,rfl⟩))) (λ c2=>?_);have hdm:d_ ∉ vG:=λ q=>by rw[List.contains_iff_mem.2 q]at c2;cases c2
 have hds:=agT hd d0 d1 hdm;refine bK (λ g4:Int×aiX=>0<=g4.1/\g4.1<=g_.dK.length/\g4.2=BJ vG (g_.dK.take g4.1.toNat)) (λ g4=>(g_.dK.length - g4.1).toNat) ?_ ⟨ob,ob,rfl⟩;intro jA g4 ⟨a1,a2,a3⟩ ih4;have hl:g4.2.length<=g4.1.toNat:=by
  rw[a3];unfold BJ;exact Nat.le_trans (List.length_filter_le _ _) (by rw[List.length_take];omega)
 unfold Mf;apply bL<;>intro c
 ·have c:=eu c;refine aK om ?_;have hs:=uf (λ u:aR=>vG.contains u.iW) g_.dK bE (i:=g4.1.toNat) om;have e:(g4.1+1).toNat=g4.1.toNat+1:=by omega
  refine aG (yV (iK om)) λ v8 xk=>?_;apply bL<;>intro c2
  ·rw[c2]at xk;refine aK (by unfold big;omega) ?_;refine aK (by unfold aC;omega) ?_;refine ih4 _ ⟨by dsimp only;omega,by dsimp only;omega,?_⟩ (by dsimp only;omega);dsimp only;unfold BJ at a3 ⊢;rw[e,hs,<- a3,if_pos xk.symm]
  rw[c2]at xk;refine aK (by unfold aC;omega) ?_;refine ih4 _ ⟨by dsimp only;omega,by dsimp only;omega,?_⟩ (by dsimp only;omega);dsimp only;unfold BJ at a3 ⊢;rw[e,hs,<- a3,if_neg (by rw[<- xk];exact Bool.false_ne_true),List.append_nil]
 have c:=eu c;rw[List.take_of_length_le om]at a3;have hkl:g4.2.length<=1000000:=by omega
 obtain⟨_,K⟩:=g4;dsimp only at a3 hkl ⊢;have hoK:TS b_.aT (K.map aR.l7):=by rw[a3];exact ho
 have anP:=Q8 hoK;have hfl:(l_.getD d_.toNat aU).ak.length<=10:=((yJ hn).2.2 _ (getD_in (i:=d_.toNat) aU om)).fl;have hwd:=ajG hn _ (getD_in (l:=l_) (i:=d_.toNat) aU om);unfold zL;refine aG (ng om) λ v6 hv6=>?_;subst hv6;refine aK (by unfold big;omega) ?_;refine aG (yK h1 h3 hn hds (by rw[List.length_append,List.length_singleton];omega) om) λ v7 hv7=>?_;refine bL (λ c7=>ay (.inr (.inr ⟨hv1,hdm,v7,by rw[<- a3];exact hv7,.inl ⟨by have c7:=eu c7;exact c7,rfl⟩⟩))) (λ c7=>?_);have c7:=eu c7;have hag:=anN hv7 c7;have hus:=hag.us;have hul:v7.2.2.2.2.2.2.2.length<=K.length:=by
  have:v7.2.2.2.2.2.2.2=BJ (v6++[d_]) K:=hus;rw[this];exact List.length_filter_le _ _
 have hsz:=asa h1 hag om ⟨by have:=(yJ hn).1.rs.len;omega,z7⟩;refine aK ⟨d0,d1⟩ ?_;generalize hfn:(l_.getD d_.toNat aU).ak=fns at *;refine aG (acB anP om om) λ v8 xk=>?_;subst xk;dsimp only;have hwo:∀f∈K.map (nmH b_)++fns,Ef f:=λ f hf=>by
  rcases List.mem_append.1 hf with h | h
  ·exact agW hpa.v anP f h
  exact hwd f h
 refine aG (VB h2 hpa hwo (aeN (fs:=fns) hoK) (by rw[List.length_append,List.length_map,List.length_map];omega)) λ v9 Kk=>?_;generalize hz:asg b_.aT (K.map (nmH b_)++fns) (K.map λ u=>u.l7.dF)=oz at Kk;cases oz with
 | none=>
  refine bL (λ _=>ay (.inr (.inr ⟨hv1,hdm,v7,by rw[<- a3];exact hv7,.inr (.inl ⟨c7,by rw[<- a3,hfn];exact hz,rfl⟩)⟩))) (λ c4=>?_);have c4:=eu c4;exact absurd c4 Kk
 | some z=>
  have Kk:v9=(z,0):=Kk;subst Kk;refine bL (λ c4=>by cases c4) (λ _=>?_);obtain⟨q1,q2⟩:=anO hoK hz;dsimp only;rw[List.length_map];refine aK ⟨om,om⟩ ?_;have hdr:(z.drop (K.length:Int).toNat).take (z.length - (K.length:Int).toNat)=z.drop K.length:=by
   rw[show(K.length:Int).toNat=K.length by omega,List.take_of_length_le (by rw[List.length_drop];omega)]
  have hvl:z.length - (K.length:Int).toNat=fns.length:=by omega
  have hgt:∀i,(z.drop K.length).getD i 0=z.getD (K.length+i) 0:=λ i=>by
   rw[List.getD_eq_getElem?_getD,List.getElem?_drop,List.getD_eq_getElem?_getD]
  rw[hdr];refine bK (λ g3:ag8×Int×aiX=>g3.1=z.drop K.length/\0<=g3.2.1/\g3.2.1<=fns.length/\g3.2.2=v7.2.2.2.2.2.2.2++nwU b_ d_ fns z K.length g3.2.1.toNat) (λ g3=>(fns.length - g3.2.1).toNat) ?_ ⟨rfl,ob,ob,(List.append_nil _).symm⟩;rintro jO ⟨tt,ix,us⟩ ⟨e1,e2,e3,e4⟩ ih3;dsimp only at e1 e2 e3 e4;subst e1;have ax3:us.length=v7.2.2.2.2.2.2.2.length+ix.toNat:=by rw[e4,List.length_append];unfold nwU;rw[List.length_map,List.length_range]
  unfold Jh;dsimp only;rw[List.length_map,hvl];refine wi ?_ ?_<;>intro c5
  ·have hx:=q2 _ (getD_in (l:=z) (i:=K.length+ix.toNat) 0 om);rw[hgt];refine aK (by rw[List.length_drop];omega) ?_;refine aK hx ?_;refine aK (by unfold aC;omega) ?_;refine aK ⟨om,by rw[List.length_append,List.length_map];omega⟩ ?_;have ax4:=(h2 _ (getD_in (i:=(z.getD (K.length+ix.toNat) 0).toNat) aF om)).2;refine aG (yG om) λ v12 JI=>?_;have hnm:(K.map (nmH b_)++fns).getD ((K.length:Int)+ix).toNat ByteArray.empty=fns.getD ix.toNat ByteArray.empty:=by
    rw[show((K.length:Int)+ix).toNat=K.length+ix.toNat by omega,Yh ByteArray.empty (by rw[List.length_map];omega),List.length_map,Nat.add_sub_cancel_left]
   rw[hnm]at JI;have JI:v12=Np (b_.aT.av.getD (z.getD (K.length+ix.toNat) 0).toNat aF) (fns.getD ix.toNat ByteArray.empty):=JI;have e9:(ix+1).toNat=ix.toNat+1:=by omega
   refine aK (by unfold big;omega) ?_;refine aK (by unfold aC;omega) ?_;refine ih3 _ ⟨rfl,by dsimp only;omega,by dsimp only;omega,?_⟩ (by dsimp only;omega);dsimp only;rw[e9,agX,e4,JI,List.append_assoc]
  have e5:ix.toNat=fns.length:=by omega
  rw[e5]at e4;refine aG (agC ⟨hsz.st,hsz.on,hsz.lv,by dsimp only;omega,hsz.re,hsz.po⟩) λ v13 U5=>?_;subst U5;refine ay (.inr (.inr ⟨hv1,hdm,v7,by rw[<- a3];exact hv7,.inr (.inr ⟨c7,z,by rw[<- a3,hfn];exact hz,?_⟩)⟩));rw[<- a3,hfn,e4]
def M9 (h1:uW b_) (h2:Yp b_.aT) (h3:Fj l_) (h4:vG.length<=9999) (h5:Ec g_) (h6:g_.dK.length<=1000000):W (yh b_ l_ vG g_ d_) (aiC b_ l_ vG g_ d_):=by
 obtain⟨z1,z2,z3,z4,z5,z6,z7⟩:=id h1;unfold yh;refine aG (M8 h1 h2 h3 om h5) λ v1 hv1=>?_;refine bL (λ c=>ay (.inl ⟨v1,by have c:=eu c;exact c,hv1,rfl⟩)) (λ c=>?_);have c:=eu c;subst c;obtain⟨hn,hd,hb,d0,d1⟩:=hv1.ok;have hpa:=(ZP hn).1;have ho:=abK (ajv hb).2 vG;refine aG (Qb om) λ v2 hv2=>?_;subst hv2;refine bL (λ c2=>ay (.inr (.inl ⟨hv1,List.contains_iff_mem.1 c2,rfl⟩))) (λ c2=>?_);have hdm:d_ ∉ vG:=λ q=>by rw[List.contains_iff_mem.2 q]at c2;cases c2
 have hds:=agT hd d0 d1 hdm;refine aK (by unfold big;omega) (aK (by unfold big;omega) ?_);refine aG (Vy om om) λ K a3=>?_;have hkl:K.length<=1000000:=by
  rw[a3];exact Nat.le_trans (List.length_filter_le _ _) h6
 rw[<- a3]at ho;have anP:=Q8 ho;have hfl:(l_.getD d_.toNat aU).ak.length<=10:=((yJ hn).2.2 _ (getD_in (i:=d_.toNat) aU om)).fl;have hwd:=ajG hn _ (getD_in (l:=l_) (i:=d_.toNat) aU om);unfold Ch;dsimp only;refine aG (VA h1 h2 h3 (by rw[List.length_append,List.length_singleton];omega) (by dsimp only;omega)) λ v7 hv7=>?_;have hv7:=hv7.age hn hds;dsimp only at hv7;refine bL (λ c7=>ay (.inr (.inr ⟨hv1,hdm,v7,by rw[<- a3];exact hv7,.inl ⟨by have c7:=eu c7;exact c7,rfl⟩⟩))) (λ c7=>?_);have c7:=eu c7;have hag:=anN hv7 c7;have hus:=hag.us;have hul:v7.2.2.2.2.2.2.2.length<=K.length:=by
  have:v7.2.2.2.2.2.2.2=BJ (vG++[d_]) K:=hus;rw[this];exact List.length_filter_le _ _
 refine aG (abE anP om) λ v8 xk=>?_;subst xk;unfold zN;dsimp only;refine aK ⟨d0,d1⟩ ?_;generalize hfn:(l_.getD d_.toNat aU).ak=fns at *;rw[List.length_map];refine aK (by unfold big;omega) ?_;have hwo:∀f∈K.map (nmH b_)++fns,Ef f:=λ f hf=>by
  rcases List.mem_append.1 hf with h | h
  ·exact agW hpa.v anP f h
  exact hwd f h
 refine aG (Zb (l_:=K.map (nmH b_)++fns) h2 hpa hwo (aeN (fs:=fns) ho) (by rw[List.length_append,List.length_map,List.length_map];omega)) λ v9 Kk=>?_;generalize hz:asg b_.aT (K.map (nmH b_)++fns) (K.map λ u=>u.l7.dF)=oz at Kk;cases oz with
 | none=>
  refine bL (λ _=>ay (.inr (.inr ⟨hv1,hdm,v7,by rw[<- a3];exact hv7,.inr (.inl ⟨c7,by rw[<- a3,hfn];exact hz,rfl⟩)⟩))) (λ c4=>?_);have c4:=eu c4;exact absurd c4 Kk
 | some z=>
  have Kk:v9=(z,0):=Kk;subst Kk;refine bL (λ c4=>by cases c4) (λ _=>?_);obtain⟨q1,q2⟩:=anO ho hz;refine aK ⟨d0,d1⟩ ?_;refine bK (λ g3:Int×aiX=>0<=g3.1/\g3.1<=fns.length/\g3.2=v7.2.2.2.2.2.2.2++nwU b_ d_ fns z K.length g3.1.toNat) (λ g3=>(fns.length - g3.1).toNat) ?_ ⟨ob,ob,(List.append_nil _).symm⟩;rintro jO ⟨ix,us⟩ ⟨e2,e3,e4⟩ ih3;dsimp only at e2 e3 e4;have ax3:us.length=v7.2.2.2.2.2.2.2.length+ix.toNat:=by rw[e4,List.length_append];unfold nwU;rw[List.length_map,List.length_range]
  unfold JD;dsimp only;rw[hfn,List.length_map];refine wi ?_ ?_<;>intro c5
  ·have hx:=q2 _ (getD_in (l:=z) (i:=K.length+ix.toNat) 0 om);have e8:((K.length:Int)+ix).toNat=K.length+ix.toNat:=by omega
   rw[e8];refine aK om ?_;refine aK (by unfold aC;omega) ?_;refine aK om ?_;refine aK hx ?_;have ax4:=(h2 _ (getD_in (i:=(z.getD (K.length+ix.toNat) 0).toNat) aF om)).2;refine aG (P6 om) λ v12 JI=>?_;have e9:(ix+1).toNat=ix.toNat+1:=by omega
   refine aK (by unfold big;omega) ?_;refine aK (by unfold aC;omega) ?_;refine ih3 _ ⟨by dsimp only;omega,by dsimp only;omega,?_⟩ (by dsimp only;omega);dsimp only;rw[e9,agX,e4,JI,List.append_assoc]
  have e5:ix.toNat=fns.length:=by omega
  rw[e5]at e4;refine ay (.inr (.inr ⟨hv1,hdm,v7,by rw[<- a3];exact hv7,.inr (.inr ⟨c7,z,by rw[<- a3,hfn];exact hz,?_⟩)⟩));rw[<- a3,hfn,e4]
structure agY (g:aO):Prop where
 st:g.bM.length<=1000000
 on:g.dB.On.length<=1000000
 lv:g.dB.dL.length<=1000000
 us:g.dK.length<=1000000
 re:g.bV.length<=1000000
 po:g.dH.length<=1000000
def agY.sz (h:agY g):Ec g:=by
 obtain⟨a,b,c,d,e,f⟩:=h;exact⟨om,om,om,om,om,om⟩
variable {α:Type}
def TW {P:α->Prop} {l:List α} {i:Nat} {v:α} (h:∀x∈l,P x) (hv:P v):∀x∈l.set i v,P x:=λ x hx=>by
 rcases List.mem_or_eq_of_mem_set hx with h1 | h1
 ·exact h x h1
 rw[h1];exact hv
def Nv {dN:dI} (h1:l_.length<=5) (h2:∀x∈l_,x.bG.length<=1/\x.d9.length<=1/\x.ak.length<=2/\x.aZ.length<=100/\x.aY.length<=100) (h3:0<=dN.At) (h4:dN.L.length<=600):W (oq l_ dN) (λ r=>r.1.length<=6/\(∀x∈r.1,x.aZ.length<=200/\x.aY.length<=200/\x.bG.length<=200/\x.d9.length<=200)/\0<=r.2.At/\r.2.L.length<=600):=by
 have hB:∀x∈l_,x.aZ.length<=200/\x.aY.length<=200/\x.bG.length<=200/\x.d9.length<=200:=λ x hx=>(by have:=h2 x hx;omega)
 unfold oq;refine aK (by first | omega | (unfold big;omega) | (unfold aC;omega)) ?_;refine wi ?_ ?_<;>intro c1
 ·refine aG (fT (by first | omega | simp) (by first | omega | simp) (by first | omega | simp) (by first | omega | simp) (by first | omega | simp) (by first | omega | simp)) λ v1 hv1=>?_;obtain⟨E8,Dc,E9,G6,JG⟩:=hv1;refine aK (by first | omega | (unfold big;omega) | (unfold aC;omega)) ?_;refine ay ?_;(refine⟨by(simp only[List.length_append,List.length_singleton];omega),λ x hx=>?_,om,om⟩;rcases List.mem_append.1 hx with h | h;(exact hB x h);(rw[List.mem_singleton]at h;rw[h];simp))
 have hx0:0<l_.length:=om;refine aG (bN (by first | omega | simp) (by first | omega | simp) (by first | omega | simp)) λ v2 hv2=>?_;obtain⟨agc,adb,agd,amM,apY⟩:=hv2;refine aK (by first | omega | (unfold big;omega) | (unfold aC;omega)) ?_;refine aG (bN (by first | omega | simp) (by first | omega | simp) (by first | omega | simp)) λ v3 hv3=>?_;obtain⟨af9,ada,aga,amC,apS⟩:=hv3;refine wi ?_ ?_<;>intro c2
 ·have hx:=h2 _ (getD_in (i:=v2.1.toNat) aU om);refine aG (fT (by first | omega | simp) (by first | omega | simp) (by first | omega | simp) (by first | omega | simp) (by first | omega | simp) (by first | omega | simp)) λ v4 hv4=>?_;obtain⟨ajg,agb,ajh,amD,aur⟩:=hv4;refine ay ?_;(refine⟨by(simp only[List.length_set];omega),TW hB (by((try dsimp only);(try simp only[List.length_append,List.length_singleton]);omega)),om,om⟩)
 have hx:=h2 _ (getD_in (i:=v2.1.toNat) aU om);refine wi ?_ ?_<;>intro c3
 ·refine aK (by first | omega | (unfold big;omega) | (unfold aC;omega)) ?_;refine aG (fT (by first | omega | simp) (by first | omega | simp) (by first | omega | simp) (by first | omega | simp) (by first | omega | simp) (by first | omega | simp)) λ v5 hv5=>?_;obtain⟨apZ,ap0,ap1,aus,aut⟩:=hv5;refine aK (by first | omega | (unfold big;omega) | (unfold aC;omega)) ?_;refine ay ?_;(refine⟨by(simp only[List.length_set];omega),TW hB (by((try dsimp only);(try simp only[List.length_append,List.length_singleton]);omega)),om,om⟩)
 refine wi ?_ ?_<;>intro c4
 ·refine aK (by first | omega | (unfold big;omega) | (unfold aC;omega)) ?_;refine aG (fT (by first | omega | simp) (by first | omega | simp) (by first | omega | simp) (by first | omega | simp) (by first | omega | simp) (by first | omega | simp)) λ v6 hv6=>?_;obtain⟨apT,apU,apV,apW,apX⟩:=hv6;refine aK (by first | omega | (unfold big;omega) | (unfold aC;omega)) ?_;refine ay ?_;(refine⟨by(simp only[List.length_set];omega),TW hB (by((try dsimp only);(try simp only[List.length_append,List.length_singleton]);omega)),om,om⟩)
 refine wi ?_ ?_<;>intro c5
 ·refine aK (by first | omega | (unfold big;omega) | (unfold aC;omega)) ?_;refine aG (JH (by first | omega | simp) (by first | omega | simp) (by first | omega | simp) (by first | omega | simp)) λ v7 hv7=>?_;obtain⟨amE,amF,amG⟩:=hv7;refine aK (by first | omega | (unfold big;omega) | (unfold aC;omega)) ?_;refine ay ?_;(refine⟨by(simp only[List.length_set];omega),TW hB (by((try dsimp only);(try simp only[List.length_append,List.length_singleton]);omega)),om,om⟩)
 refine wi ?_ ?_<;>intro c6
 ·refine aK (by first | omega | (unfold big;omega) | (unfold aC;omega)) ?_;refine aG (fT (by first | omega | simp) (by first | omega | simp) (by first | omega | simp) (by first | omega | simp) (by first | omega | simp) (by first | omega | simp)) λ v8 xk=>?_;obtain⟨auu,auv,auw,auy,auz⟩:=xk;refine aG (fI (by first | omega | simp) (by first | omega | simp) (by first | omega | simp) (by first | omega | simp)) λ v9 Kk=>?_;obtain⟨auA,auB,auC⟩:=Kk;refine aG (fI (by first | omega | simp) (by first | omega | simp) (by first | omega | simp) (by first | omega | simp)) λ v10 JN=>?_;obtain⟨ash,asi,asj⟩:=JN;refine aK (by first | omega | (unfold big;omega) | (unfold aC;omega)) ?_;refine ay ?_;(refine⟨by(simp only[List.length_set];omega),TW hB (by((try dsimp only);(try simp only[List.length_append,List.length_singleton]);omega)),om,om⟩)
 refine wi ?_ ?_<;>intro c7
 ·refine aK (by first | omega | (unfold big;omega) | (unfold aC;omega)) ?_;refine aG (fT (by first | omega | simp) (by first | omega | simp) (by first | omega | simp) (by first | omega | simp) (by first | omega | simp) (by first | omega | simp)) λ v11 agI=>?_;obtain⟨asl,asn,aso,asq,asr⟩:=agI;refine aG (fI (by first | omega | simp) (by first | omega | simp) (by first | omega | simp) (by first | omega | simp)) λ v12 JI=>?_;obtain⟨ara,arb,ard⟩:=JI;refine aG (fI (by first | omega | simp) (by first | omega | simp) (by first | omega | simp) (by first | omega | simp)) λ v13 U5=>?_;obtain⟨arf,arh,ari⟩:=U5;refine aK (by first | omega | (unfold big;omega) | (unfold aC;omega)) ?_;refine ay ?_;(refine⟨by(simp only[List.length_set];omega),TW hB (by((try dsimp only);(try simp only[List.length_append,List.length_singleton]);omega)),om,om⟩)
 refine bK (λ(g1:Nat×aha)=>g1.1<g1.2.length/\g1.2.length<=5/\(∀x∈g1.2,x.aZ.length<=200/\x.aY.length<=200/\x.bG.length<=200/\x.d9.length<=200)/\(g1.2.getD g1.1 aU).ak.length<=11) (λ(g1:Nat×aha)=>11 - (g1.2.getD g1.1 aU).ak.length) ?_ ?_
 ·intro aj g1 eT dA;obtain⟨dW,cB,bH,jW⟩:=eT;unfold yj;refine wi ?_ ?_<;>intro c8
  ·refine aK (by first | omega | (unfold big;omega) | (unfold aC;omega)) ?_;refine aK (by first | omega | (unfold big;omega) | (unfold aC;omega)) ?_;refine dA _ ?_ ?_
   ·(refine⟨by(simp only[List.length_set];omega),by(simp only[List.length_set];omega),TW (P:=λ x:aH=>x.aZ.length<=200/\x.aY.length<=200/\x.bG.length<=200/\x.d9.length<=200) bH (by have q:=bH _ (getD_in (i:=g1.1) aU dW);exact q),?_⟩;dsimp only;rw[ZL dW];simp only[List.length_append,List.length_singleton];omega)
   (dsimp only;rw[ZL dW];simp only[List.length_append,List.length_singleton];omega)
  exact ay (⟨by(dsimp only;omega),bH,om,om⟩)
 (exact⟨by(dsimp only;omega),h1,hB,by(dsimp only;omega)⟩)
def Nw {dN:dI} (h1:agY g_) (h2:g_.dK.length<=2000) (h3:0<=dN.At) (h4:dN.L.length<=600):W (ou g_ dN) (λ r=>Ec r.1/\r.1.dK.length<=2001/\0<=r.2.At/\r.2.L.length<=600):=by
 obtain⟨z1,z2,z3,z4,z5,z6⟩:=id h1;unfold ou;refine aK (by first | omega | (unfold big;omega) | (unfold aC;omega)) ?_;refine aK (by first | omega | (unfold big;omega) | (unfold aC;omega)) ?_;refine aK (by first | omega | (unfold big;omega) | (unfold aC;omega)) ?_;refine aK (by first | omega | (unfold big;omega) | (unfold aC;omega)) ?_;refine aK (by first | omega | (unfold big;omega) | (unfold aC;omega)) ?_;refine aK (by first | omega | (unfold big;omega) | (unfold aC;omega)) ?_;unfold qb;refine aG (bN (by first | omega | simp) (by first | omega | simp) (by first | omega | simp)) λ v1 hv1=>?_;obtain⟨E8,Dc,E9,G6,JG⟩:=hv1;refine wi ?_ ?_<;>intro c1
 ·refine wi ?_ ?_<;>intro c2
  ·refine aG (bN (by first | omega | simp) (by first | omega | simp) (by first | omega | simp)) λ v2 hv2=>?_;obtain⟨agc,adb,agd,amM,apY⟩:=hv2;refine aG (fT (by first | omega | simp) (by first | omega | simp) (by first | omega | simp) (by first | omega | simp) (by first | omega | simp) (by first | omega | simp)) λ v3 hv3=>?_;obtain⟨af9,ada,aga,amC,apS⟩:=hv3;refine aK (by first | omega | (unfold big;omega) | (unfold aC;omega)) ?_;refine ay ?_;(refine⟨⟨?_,?_,?_,?_,?_,?_⟩,?_,?_,?_⟩<;>(try dsimp only)<;>(try simp only[List.length_set,List.length_append,List.length_singleton,List.length_take])<;>omega)
  refine ay ?_;(refine⟨⟨?_,?_,?_,?_,?_,?_⟩,?_,?_,?_⟩<;>(try dsimp only)<;>(try simp only[List.length_set,List.length_append,List.length_singleton,List.length_take])<;>omega)
 refine wi ?_ ?_<;>intro c3
 ·refine wi ?_ ?_<;>intro c4
  ·refine aG (bN (by first | omega | simp) (by first | omega | simp) (by first | omega | simp)) λ v4 hv4=>?_;obtain⟨ajg,agb,ajh,amD,aur⟩:=hv4;refine aK (by first | omega | (unfold big;omega) | (unfold aC;omega)) ?_;refine aK (by first | omega | (unfold big;omega) | (unfold aC;omega)) ?_;refine ay ?_;(refine⟨⟨?_,?_,?_,?_,?_,?_⟩,?_,?_,?_⟩<;>(try dsimp only)<;>(try simp only[List.length_set,List.length_append,List.length_singleton,List.length_take])<;>omega)
  refine ay ?_;(refine⟨⟨?_,?_,?_,?_,?_,?_⟩,?_,?_,?_⟩<;>(try dsimp only)<;>(try simp only[List.length_set,List.length_append,List.length_singleton,List.length_take])<;>omega)
 refine wi ?_ ?_<;>intro c5
 ·refine wi ?_ ?_<;>intro c6
  ·refine aG (bN (by first | omega | simp) (by first | omega | simp) (by first | omega | simp)) λ v5 hv5=>?_;obtain⟨apZ,ap0,ap1,aus,aut⟩:=hv5;refine aG (fT (by first | omega | simp) (by first | omega | simp) (by first | omega | simp) (by first | omega | simp) (by first | omega | simp) (by first | omega | simp)) λ v6 hv6=>?_;obtain⟨apT,apU,apV,apW,apX⟩:=hv6;refine aK (by first | omega | (unfold big;omega) | (unfold aC;omega)) ?_;refine ay ?_;(refine⟨⟨?_,?_,?_,?_,?_,?_⟩,?_,?_,?_⟩<;>(try dsimp only)<;>(try simp only[List.length_set,List.length_append,List.length_singleton,List.length_take])<;>omega)
  refine ay ?_;(refine⟨⟨?_,?_,?_,?_,?_,?_⟩,?_,?_,?_⟩<;>(try dsimp only)<;>(try simp only[List.length_set,List.length_append,List.length_singleton,List.length_take])<;>omega)
 refine wi ?_ ?_<;>intro c7
 ·refine aG (fT (by first | omega | simp) (by first | omega | simp) (by first | omega | simp) (by first | omega | simp) (by first | omega | simp) (by first | omega | simp)) λ v7 hv7=>?_;obtain⟨amE,amF,amG,atK,atL⟩:=hv7;refine aG (fT (by first | omega | simp) (by first | omega | simp) (by first | omega | simp) (by first | omega | simp) (by first | omega | simp) (by first | omega | simp)) λ v8 xk=>?_;obtain⟨auu,auv,auw,auy,auz⟩:=xk;refine aG (fT (by first | omega | simp) (by first | omega | simp) (by first | omega | simp) (by first | omega | simp) (by first | omega | simp) (by first | omega | simp)) λ v9 Kk=>?_;obtain⟨auA,auB,auC,ayQ,ayR⟩:=Kk;refine aK (by first | omega | (unfold big;omega) | (unfold aC;omega)) ?_;refine ay ?_;(refine⟨⟨?_,?_,?_,?_,?_,?_⟩,?_,?_,?_⟩<;>(try dsimp only)<;>(try simp only[List.length_set,List.length_append,List.length_singleton,List.length_take])<;>omega)
 refine wi ?_ ?_<;>intro c8
 ·refine wi ?_ ?_<;>intro c9
  ·refine aK (by first | omega | (unfold big;omega) | (unfold aC;omega)) ?_;refine aK (by first | omega | (unfold big;omega) | (unfold aC;omega)) ?_;refine ay ?_;(refine⟨⟨?_,?_,?_,?_,?_,?_⟩,?_,?_,?_⟩<;>(try dsimp only)<;>(try simp only[List.length_set,List.length_append,List.length_singleton,List.length_take])<;>omega)
  refine ay ?_;(refine⟨⟨?_,?_,?_,?_,?_,?_⟩,?_,?_,?_⟩<;>(try dsimp only)<;>(try simp only[List.length_set,List.length_append,List.length_singleton,List.length_take])<;>omega)
 refine wi ?_ ?_<;>intro c10
 ·refine wi ?_ ?_<;>intro c11
  ·refine aG (bN (by first | omega | simp) (by first | omega | simp) (by first | omega | simp)) λ v10 JN=>?_;obtain⟨ash,asi,asj,ax5,ax6⟩:=JN;refine aK (by first | omega | (unfold big;omega) | (unfold aC;omega)) ?_;refine aK (by first | omega | (unfold big;omega) | (unfold aC;omega)) ?_;refine ay ?_;(refine⟨⟨?_,?_,?_,?_,?_,?_⟩,?_,?_,?_⟩<;>(try dsimp only)<;>(try simp only[List.length_set,List.length_append,List.length_singleton,List.length_take])<;>omega)
  refine ay ?_;(refine⟨⟨?_,?_,?_,?_,?_,?_⟩,?_,?_,?_⟩<;>(try dsimp only)<;>(try simp only[List.length_set,List.length_append,List.length_singleton,List.length_take])<;>omega)
 refine wi ?_ ?_<;>intro c12
 ·refine wi ?_ ?_<;>intro c13
  ·refine aG (bN (by first | omega | simp) (by first | omega | simp) (by first | omega | simp)) λ v11 agI=>?_;obtain⟨asl,asn,aso,asq,asr⟩:=agI;refine aK (by first | omega | (unfold big;omega) | (unfold aC;omega)) ?_;refine aK (by first | omega | (unfold big;omega) | (unfold aC;omega)) ?_;refine ay ?_;(refine⟨⟨?_,?_,?_,?_,?_,?_⟩,?_,?_,?_⟩<;>(try dsimp only)<;>(try simp only[List.length_set,List.length_append,List.length_singleton,List.length_take])<;>omega)
  refine ay ?_;(refine⟨⟨?_,?_,?_,?_,?_,?_⟩,?_,?_,?_⟩<;>(try dsimp only)<;>(try simp only[List.length_set,List.length_append,List.length_singleton,List.length_take])<;>omega)
 refine aK (by first | omega | (unfold big;omega) | (unfold aC;omega)) ?_;refine ay ?_;(refine⟨⟨?_,?_,?_,?_,?_,?_⟩,?_,?_,?_⟩<;>(try dsimp only)<;>(try simp only[List.length_set,List.length_append,List.length_singleton,List.length_take])<;>omega)
def SzN (N:Nat) (g:aO):Prop:=g.bM.length<=N/\g.dB.On.length<=N/\g.dB.dL.length<=N/\g.bV.length<=N/\g.dH.length<=N
def BdN (N:Nat) (b:aM):Prop:=b.bS.length<=N/\b.bF.length<=N/\b.aZ.length<=N/\b.dz.length<=N
variable {N:Nat}
def sz0:SzN N g00:=⟨Nat.zero_le _,Nat.zero_le _,Nat.zero_le _,Nat.zero_le _,Nat.zero_le _⟩
def asv {q:RT} (hb:BdN N b) (h:AgE b l ms us q):SzN N (rtG q)/\(rtG q).dK.length<=us.length:=by
 rcases h with⟨_,rfl⟩ | ⟨_,_,rfl⟩ | ⟨_,_,_,rfl⟩ | ⟨_,h,_⟩
 ·exact⟨sz0,Nat.zero_le _⟩
 ·exact⟨sz0,Nat.zero_le _⟩
 ·exact⟨sz0,Nat.zero_le _⟩
 have hlr:=Sp.adz (l:=b.bF) (d:=jn aH.d9 l ms) (by rw[h.ra]);rw[h.ra]at hlr;obtain⟨b1,b2,b3,b4⟩:=hb;refine⟨⟨by rw[h.st.1.1];exact b1,by rw[hlr.1];exact b2,by rw[hlr.2];exact b2,by rw[h.re.ln];exact b3,by rw[h.po.ln];exact b4⟩,?_⟩;rw[h.us];exact List.length_filter_le _ _
def asw {q:RT} (hb:BdN N b) (h:Xm b l ms us q):SzN N (rtG q)/\(rtG q).dK.length<=us.length:=by
 rcases h with⟨e,_,_,rfl⟩ | ⟨_,_,rfl⟩ | ⟨_,_,h⟩
 ·exact⟨sz0,Nat.zero_le _⟩
 ·exact⟨sz0,Nat.zero_le _⟩
 exact asv hb h
def auD {r:aO×Int×Int} (hb:BdN N b) (h:aiC b l ms g d r):SzN N r.1/\r.1.dK.length<=g.dK.length+10:=by
 rcases h with⟨e,_,_,rfl⟩ | ⟨_,_,rfl⟩ | ⟨hv,_,q,h,⟨_,rfl⟩ | ⟨_,_,rfl⟩ | ⟨_,z,_,rfl⟩⟩
 ·exact⟨sz0,Nat.zero_le _⟩
 ·exact⟨sz0,Nat.zero_le _⟩
 ·exact⟨sz0,Nat.zero_le _⟩
 ·exact⟨sz0,Nat.zero_le _⟩
 obtain⟨hn,_,_,d0,d1⟩:=hv.ok;have hfl:(l.getD d.toNat aU).ak.length<=10:=((yJ hn).2.2 _ (getD_in (i:=d.toNat) aU om)).fl;obtain⟨h1,h2⟩:=asv hb h;refine⟨h1,?_⟩;have h3:(BJ ms g.dK).length<=g.dK.length:=List.length_filter_le _ _;have h2:q.2.2.2.2.2.2.2.length<=(BJ ms g.dK).length:=h2;dsimp only;rw[List.length_append];unfold nwU;rw[List.length_map,List.length_range];omega
def ax7 {r:aO×Int} (hb:BdN N b) (h:aiB b l ms g d r):SzN N r.1/\r.1.dK.length<=g.dK.length:=by
 rcases h with⟨e,_,_,rfl⟩ | ⟨_,_,rfl⟩ | ⟨_,_,q,h,rfl⟩
 ·exact⟨sz0,Nat.zero_le _⟩
 ·exact⟨sz0,Nat.zero_le _⟩
 exact asv hb h
def bdn (h:uW b):BdN 2000000 b:=⟨h.cl,h.su,h.re,h.dm⟩
def auE (h:af6 b):BdN 1000000 b:=by
 obtain⟨b1,b2,b3,b4,b5,b6,b7,b8,b9⟩:=h;exact⟨om,om,om,om⟩
def ajH (h:SzN 2000000 g) (hu:g.dK.length<=2000000):Ec g:=⟨h.1,h.2.1,h.2.2.1,hu,h.2.2.2.1,h.2.2.2.2⟩
def aqj (h:SzN 1000000 g) (hu:g.dK.length<=1000000):agY g:=⟨h.1,h.2.1,h.2.2.1,hu,h.2.2.2.1,h.2.2.2.2⟩
def aiD (h:af6 b):Yp b.aT:=λ g hg=>by have:=h.gr g hg;omega
def TY {o_:ag8} (h1:af6 b_) (h3:Fj l_) (h4:o_.length<=9999) (h5:Ec g_) (h6:g_.dK.length<=900000):W (Ci b_ l_ g_ d_ o_) (λ r=>agY r.1/\r.1.dK.length<=g_.dK.length+10):=
 zG (show W (yh b_ l_ o_ g_ d_) _ from M9 (ajy h1) (aiD h1) h3 h4 h5 om) λ r h=>by
  obtain⟨q1,q2⟩:=auD (auE h1) h;exact⟨aqj q1 om,q2⟩
def acK (h1:af6 b_):W (zM b_) (λ r=>agY r.1/\r.1.dK=[]):=
 zG (SF (ajy h1) (aiD h1)) λ r ⟨q,h,e⟩=>by
  subst e;obtain⟨q1,q2⟩:=asw (auE h1) h;have q3:=List.length_eq_zero_iff.1 (Nat.le_zero.1 q2);exact⟨aqj q1 (Nat.le_trans q2 (Nat.zero_le _)),q3⟩
def abO {dN:dI} (h1:0<=dN.At) (h2:dN.L.length<=600):W (GX dN) (λ r=>af6 r.1/\r.2.1.length<=5/\(∀x∈r.2.1,x.bG.length<=1/\x.d9.length<=1/\x.ak.length<=2/\x.aZ.length<=100/\x.aY.length<=100)/\r.2.2.1.length<=5/\agY r.2.2.2.1/\r.2.2.2.1.dK.length<=1000/\0<=r.2.2.2.2.At/\r.2.2.2.2.L.length<=600):=by
 unfold GX;refine aG (U6 h1 h2) λ v1 ⟨b1,b2,b3⟩=>?_;refine aG (Rn b1 om om b2 b3) λ v2 hv2=>?_;obtain⟨n1,n2,n3,n4⟩:=hv2;have hbs:=ajy b1;have hgs:Yp v1.1.aT:=λ g hg=>by have:=b1.gr g hg;omega
 have hgn:=b1.ngr;have hns:Fj v2.1:=⟨om,λ n hn=>by have:=n2 n hn;omega⟩;refine aG (acK b1) λ v3 ⟨s1,s2⟩=>?_;refine bK (λ g1:(Int×ag8×Int×ag8×ag9×ag8×aiX×ag9×ag9×ag8)=>0<=g1.1/\g1.1<=v2.1.length/\0<=g1.2.2.1/\g1.2.1.length<=600/\agY ⟨g1.2.2.2.1,⟨g1.2.2.2.2.1,g1.2.2.2.2.2.1⟩,g1.2.2.2.2.2.2.1,g1.2.2.2.2.2.2.2.1,g1.2.2.2.2.2.2.2.2.1⟩/\g1.2.2.2.2.2.2.1.length<=100*g1.1.toNat/\g1.2.2.2.2.2.2.2.2.2.length<=g1.1.toNat) (λ g1=>(v2.1.length - g1.1).toNat) ?_ ⟨ob,ob,n3,n4,s1,by dsimp only;rw[s2];simp,by simp⟩;intro aj g1 ⟨a1,a2,a3,a4,a5,a6,a7⟩ ih1;unfold Pv;refine wi ?_ ?_<;>intro c
 ·have hfx:=n2 _ (getD_in (i:=g1.1.toNat) aU om);have e:(g1.1+1).toNat=g1.1.toNat+1:=by omega
  refine aG (TY b1 hns om a5.sz (by dsimp only;omega)) λ v8 xk=>?_;apply bL<;>intro c2
  ·refine aG (bN om a3 a4) λ v9 Kk=>?_;obtain⟨_,_,_,q1,q2⟩:=Kk;apply bL<;>intro c3
   ·have c4:v8.2.2=0:=by
     simp only[Bool.and_eq_true,beq_iff_eq]at c3;exact c3.1.2
    obtain⟨r1,r2⟩:=xk;dsimp only at r2;refine aK (by unfold big;omega) ?_;refine wn ?_;exact ih1 _ ⟨ob,ob,q1,q2,r1,by dsimp only;rw[e];omega,by dsimp only;rw[List.length_append,List.length_singleton,e];omega⟩ ob
   refine wn ?_;exact ih1 _ ⟨ob,ob,q1,q2,a5,by dsimp only;rw[e];omega,by dsimp only;rw[e];omega⟩ ob
  refine aK (by cases h:((v3.2==(0:Int))&&(v8.2.2==(0:Int)))with | false=>rfl | true=>rw[h]at c2;cases c2) ?_;refine wn ?_;exact ih1 _ ⟨ob,ob,a3,a4,a5,by dsimp only;rw[e];omega,by dsimp only;rw[e];omega⟩ ob
 exact ay ⟨b1,by dsimp only;omega,λ x hx=>by have:=n2 x hx;omega,by dsimp only;omega,a5,by dsimp only;omega,a3,a4⟩
def pk3 {p:α->Prop} {a b c d:α} (ha:p a) (hb:p b) (hc:p c) {k:Nat} (hk:k<3):p (([a,b,c]:List α).getD k d):=
 match k,hk with
 | 0,_=>ha
 | 1,_=>hb
 | 2,_=>hc
def pk2 {p:α->Prop} {a b d:α} (ha:p a) (hb:p b) {k:Nat} (hk:k<2):p (([a,b]:List α).getD k d):=
 match k,hk with
 | 0,_=>ha
 | 1,_=>hb
def NdL (l:aha):Prop:=Fj l/\∀n∈l,n.bG.length<=2000000/\n.d9.length<=2000000
def aeS {x y:aO} (h:Ec x) (e:x=y):W (sQ x y) (λ r=>r=true):=zG (aeA h) λ r hr=>by
 subst e;exact hr.trans (air _)
def nn {p:Prop} {a b:Int} (e:a=b) (h:(a != b)=true):p:=by
 subst e;rw[bne_self_eq_false]at h;cases h
def Ru {t_:ag8} {wV:aM} {zO:aha} {fF:aO} {ah:ag8} {aV:Int} (h1:uW wV) (h2:Yp wV.aT) (h3:NdL zO) (h4:Ec fF):W (zP t_ wV zO fF ah aV) (λ r=>r=true):=by
 unfold zP;refine bL (λ _=>anG) (λ c0=>?_);have c0:=eu c0;refine aG af7 λ v2 ⟨k1,k2⟩=>?_;refine aG (abO (by dsimp only;omega) k2) λ v3 hv3=>?_;obtain⟨w1,w2,w3,w4,w5,w6,w7,w8⟩:=hv3;have hns:NdL v3.2.1:=⟨⟨om,λ n hn=>by have:=w3 n hn;omega⟩,λ n hn=>by have:=w3 n hn;omega⟩;refine bK (λ g1:Int×ag8×Int=>0<=g1.1/\g1.1<=2/\g1.2.1.length<=600/\0<=g1.2.2) (λ g1=>(2 - g1.1).toNat) ?_ ⟨Int.le_refl _,by dsimp only;omega,w8,w7⟩;intro aj g1 ⟨a1,a2,a3,a4⟩ ih1;unfold Db;refine bL (λ c1=>?_) (λ _=>anG);have c1:=eu c1;refine aK om ?_;have hB:uW (([v3.1,wV]:akU).getD g1.1.toNat qU)/\Yp (([v3.1,wV]:akU).getD g1.1.toNat qU).aT:=pk2 (p:=λ b:aM=>uW b/\Yp b.aT) ⟨ajy w1,aiD w1⟩ ⟨h1,h2⟩ om;unfold uG;generalize ([v3.1,wV]:akU).getD g1.1.toNat qU=B at hB ⊢;obtain⟨hb,hg⟩:=hB;have hbn:=bdn hb;refine aG (acJ (b_:=B) hb hg) λ v4 ⟨q4,e4,r4⟩=>?_;refine aG (SF (b_:=B) hb hg) λ v5 ⟨q5,e5,r5⟩=>?_;have e45:=Xm.fun e4 e5;subst e45 r4 r5;refine aG (aeS (by have:=asw hbn e4;exact ajH this.1 (Nat.le_trans this.2 (Nat.zero_le _))) rfl) λ v6 hv6=>?_;subst hv6;refine bL (λ c=>nn rfl c) (λ _=>?_);refine aG (Nv w2 w3 a4 a3) λ v7 ⟨n1,n2,n3,n4⟩=>?_;have hn7:NdL v7.1:=⟨⟨om,λ n hn=>by have:=n2 n hn;omega⟩,λ n hn=>by have:=n2 n hn;omega⟩;refine bK (λ g:Int×ag8×Int=>0<=g.1/\g.1<=3/\g.2.1.length<=600/\0<=g.2.2) (λ g=>(3 - g.1).toNat) ?_ ⟨Int.le_refl _,by dsimp only;omega,n4,n3⟩;intro dR g2 ⟨b1,b2,b3,b4⟩ ih2;unfold BD;refine bL (λ c2=>?_) (λ _=>aK (by unfold aC;omega) (ih1 _ ⟨by dsimp only;omega,by dsimp only;omega,b3,b4⟩ (by dsimp only;omega)));have c2:=eu c2;refine aK om ?_;refine bK (λ g:aha×Int×ag8×Int=>NdL g.1/\0<=g.2.1/\g.2.1<=2/\g.2.2.1.length<=600/\0<=g.2.2.2) (λ g=>(2 - g.2.1).toNat) ?_ ⟨pk3 (p:=NdL) hns hn7 h3 om,Int.le_refl _,by dsimp only;omega,b3,b4⟩;rintro jO ⟨nl,ix,tl,ta⟩ ⟨d1,d2,d3,d4,d5⟩ ih3;dsimp only at d1 d2 d3 d4 d5;unfold BA;dsimp only;refine bL (λ c3=>?_) (λ _=>aK (by unfold aC;omega) (ih2 _ ⟨by dsimp only;omega,by dsimp only;omega,d4,d5⟩ (by dsimp only;omega)));have c3:=eu c3;refine aK om ?_;have hm:(([v3.2.2.1,ah]:List ag8).getD ix.toNat []).length<=9998:=pk2 (p:=λ x:ag8=>x.length<=9998) om om om;generalize ([v3.2.2.1,ah]:List ag8).getD ix.toNat []=ms at hm ⊢;refine aG (P:=λ r=>r=jnR aH.bG nl ms) (aG (aeL (k:=24) (of:=xG) (f:=aH.bG) (λ x=>ay rfl) (λ x hx=>(d1.2 x hx).1) om om) λ _ h=>ay h) λ v8 xk=>?_;refine aG (P:=λ r=>r=jnR aH.bG nl ms) (abD (k:=24) (f:=aH.bG) (λ x hx=>(d1.2 x hx).1) om om) λ v9 Kk=>?_;subst xk Kk;rw[bne_self_eq_false];refine bL (λ _=>?_) nofun;refine aG (P:=λ r=>r=jnR aH.d9 nl ms) (aG (aeL (k:=32) (of:=Am) (f:=aH.d9) (λ x=>ay rfl) (λ x hx=>(d1.2 x hx).2) om om) λ _ h=>ay h) λ v10 JN=>?_;refine bL (λ _=>?_) nofun;refine aG (P:=λ r=>r=jnR aH.d9 nl ms) (abD (k:=32) (f:=aH.d9) (λ x hx=>(d1.2 x hx).2) om om) λ v11 agI=>?_;subst JN agI;rw[bne_self_eq_false];refine bL nofun (λ _=>?_);refine aG (Nw w5 om d5 d4) λ v12 ⟨u1,u2,u3,u4⟩=>?_;refine bK (λ g:ag8×Int×ag8×Int=>g.1=ms/\0<=g.2.1/\g.2.1<=3/\g.2.2.1.length<=600/\0<=g.2.2.2) (λ g=>(3 - g.2.1).toNat) ?_ ⟨rfl,Int.le_refl _,by dsimp only;omega,u4,u3⟩;rintro jA ⟨ms',iy,sl,sa⟩ ⟨rfl,f2,f3,f4,f5⟩ ih4;dsimp only at f2 f3 f4 f5 hm;unfold Bz;dsimp only;refine bL (λ c4=>?_) (λ _=>aK (by unfold aC;omega) (ih3 _ ⟨d1,by dsimp only;omega,by dsimp only;omega,f4,f5⟩ (by dsimp only;omega)));have c4:=eu c4;refine aK om ?_;have hu:Ec (([v3.2.2.2.1,v12.1,fF]:List aO).getD iy.toNat xC)/\(([v3.2.2.2.1,v12.1,fF]:List aO).getD iy.toNat xC).dK.length<=900000:=pk3 (p:=λ g:aO=>Ec g/\g.dK.length<=900000) ⟨w5.sz,om⟩ ⟨u1,om⟩ ⟨h4,om⟩ om;unfold sS;dsimp only;generalize ([v3.2.2.2.1,v12.1,fF]:List aO).getD iy.toNat xC=u at hu ⊢;obtain⟨hu,hul⟩:=hu;refine aG (abN (b_:=B) (g_:=u) hb hg d1.1 om om) λ v13 ⟨q13,e13,r13⟩=>?_;refine aG (yL (b_:=B) (g_:=u) hb hg d1.1 om om) λ v14 e14=>?_;have e:=Xm.fun e13 e14;subst e r13;refine aG (aeS (by have:=asw hbn e13;exact ajH this.1 (Nat.le_trans this.2 om)) rfl) λ v15 Rm=>?_;subst Rm;have hc:((((!true)||((anL q13).2.1 != q13.2.2.2.2.2.1))||((anL q13).2.2 != q13.2.2.2.2.2.2.1)))=false:=by
  show((false||(q13.2.2.2.2.2.1 != q13.2.2.2.2.2.1))||(q13.2.2.2.2.2.2.1 != q13.2.2.2.2.2.2.1))=false;rw[bne_self_eq_false,bne_self_eq_false];rfl
 rw[hc];refine aG (uq λ _=>Qd (b_:=B) (g_:=u) hb hg d1.1 om hu) λ v16 aem=>?_;refine aG (uq λ _=>Qe (b_:=B) (g_:=u) hb hg d1.1 om hu) λ v17 at7=>?_;obtain⟨q16,b16,r16⟩:=aem rfl;obtain⟨q17,b17,r17⟩:=at7 rfl;have e:=Rt.fun _ _ b16 b17;subst e r16 r17;refine bL (λ c=>by rw[beq_self_eq_true]at c;cases c) (λ _=>?_);refine aG (bN om f5 f4) λ v18 arU=>?_;obtain⟨_,_,_,p1,p2⟩:=arU;refine bK (λ g:Int×ag8×ag9×ag8×aiX×ag9×ag9×ag8×ag9×ag8×aiX×ag9×ag9=>0<=g.1/\g.1<=2) (λ g=>(2 - g.1).toNat) ?_ ⟨Int.le_refl _,by dsimp only;omega⟩;intro kr g5 ⟨j1,j2⟩ ih5;unfold Bw;dsimp only;refine bL (λ c5=>?_) (λ _=>aK (by unfold aC;omega) (ih4 _ ⟨rfl,by dsimp only;omega,by dsimp only;omega,p2,p1⟩ (by dsimp only;omega)));have c5:=eu c5;refine aK om ?_;generalize ([aV,v18.1]:ag8).getD g5.1.toNat 0=dv;refine aG (Zc (b_:=B) (g_:=u) hb hg d1.1 om hu om) λ v19 ar4=>?_;refine aG (M9 (b_:=B) (g_:=u) hb hg d1.1 om hu om) λ v20 ax8=>?_;refine aG (TV (b_:=B) (g_:=u) hb hg d1.1 om hu) λ v21 auF=>?_;refine aG (Za (b_:=B) (g_:=u) hb hg d1.1 om hu) λ v22 ax9=>?_;have ea:=aiC.fun ar4 ax8;have eb:=aiB.fun auF ax9;subst ea eb;refine aG (aeS (by have:=auD hbn ar4;exact ajH this.1 (Nat.le_trans this.2 om)) rfl) λ v23 aya=>?_;subst aya;rw[bne_self_eq_false,bne_self_eq_false,bne_self_eq_false];refine aG (uq λ _=>aeS (by have:=ax7 hbn auF;exact ajH this.1 (Nat.le_trans this.2 om)) rfl) λ v24 hv24=>?_;rw[hv24 rfl];refine bL nofun (λ _=>?_);exact aK (by unfold aC;omega) (ih5 _ ⟨by dsimp only;omega,by dsimp only;omega⟩ (by dsimp only;omega))
abbrev ams:ZK:=.int .i64
def cfg:y9 where
 ty:=[(3,⟨1,false,8,[ams],(.int .i64)⟩),
 (4,⟨1,false,1,[.bool],.bool⟩),
 (5,⟨1,false,1,[(.int .u8)],(.int .u8)⟩),
 (9,⟨1,false,16,[.str],.str⟩),
 (22,⟨1,false,24,[.slice],(.slice 3)⟩),
 (24,⟨1,false,8,[.ptr],(.pointer 95)⟩),
 (26,⟨1,false,24,[.slice],(.slice 191)⟩),
 (27,⟨1,false,24,[.slice],(.slice 175)⟩),
 (28,⟨1,false,24,[.slice],(.slice 60)⟩),
 (29,⟨2,true,32,[ams,.slice],(.struct [(0,3),(1,28)])⟩),
 (30,⟨2,true,32,[ams,.slice],(.struct [(0,3),(1,28)])⟩),
 (31,⟨1,false,24,[.slice],(.slice 133)⟩),
 (32,⟨1,false,24,[.slice],(.slice 136)⟩),
 (33,⟨6,true,128,[.slice,.slice,ams,.slice,.slice,.slice],(.struct [(0,26),(1,27),(2,30),(4,31),(5,32)])⟩),
 (34,⟨6,true,128,[.slice,.slice,ams,.slice,.slice,.slice],(.struct [(0,26),(1,27),(2,30),(4,31),(5,32)])⟩),
 (35,⟨1,false,24,[.slice],(.slice 53)⟩),
 (36,⟨1,false,24,[.slice],(.slice 4)⟩),
 (37,⟨2,true,48,[.slice,.slice],(.struct [(0,36),(1,22)])⟩),
 (38,⟨2,true,48,[.slice,.slice],(.struct [(0,36),(1,22)])⟩),
 (39,⟨1,false,24,[.slice],(.slice 57)⟩),
 (40,⟨6,true,144,[.slice,.slice,.slice,.slice,.slice,.slice],(.struct [(0,22),(1,38),(3,39),(4,36),(5,36)])⟩),
 (41,⟨6,true,144,[.slice,.slice,.slice,.slice,.slice,.slice],(.struct [(0,22),(1,38),(3,39),(4,36),(5,36)])⟩),
 (44,⟨1,false,8,[ams],(.int .i64)⟩),
 (49,⟨1,false,24,[.slice],(.slice 112)⟩),
 (50,⟨1,false,24,[.slice],(.slice 114)⟩),
 (51,⟨1,false,24,[.slice],(.slice 9)⟩),
 (52,⟨6,true,128,[.slice,.slice,.slice,.slice,ams,.slice],(.struct [(0,49),(1,50),(2,51),(3,22),(4,3),(5,22)])⟩),
 (53,⟨6,true,128,[.slice,.slice,.slice,.slice,ams,.slice],(.struct [(0,49),(1,50),(2,51),(3,22),(4,3),(5,22)])⟩),
 (54,⟨2,true,16,[ams,ams],(.struct [(0,3),(1,3)])⟩),
 (55,⟨2,true,16,[ams,ams],(.struct [(0,3),(1,3)])⟩),
 (56,⟨3,true,24,[ams,ams,ams],(.struct [(0,3),(1,55)])⟩),
 (57,⟨3,true,24,[ams,ams,ams],(.struct [(0,3),(1,55)])⟩),
 (59,⟨3,true,64,[.str,.slice,.slice],(.struct [(0,9),(1,22),(2,51)])⟩),
 (60,⟨3,true,64,[.str,.slice,.slice],(.struct [(0,9),(1,22),(2,51)])⟩),
 (64,⟨1,false,24,[.slice],(.slice 55)⟩),
 (67,⟨1,false,24,[.slice],(.slice 5)⟩),
 (69,⟨12,true,256,[.slice,.slice,ams,.slice,.slice,.slice,.slice,.slice,ams,.slice,.slice,.slice],(.array 2 34)⟩),
 (72,⟨3,true,72,[.slice,.slice,.slice],(.array 3 35)⟩),
 (73,⟨2,true,48,[.slice,.slice],(.array 2 22)⟩),
 (77,⟨18,true,432,[.slice,.slice,.slice,.slice,.slice,.slice,.slice,.slice,.slice,.slice,.slice,.slice,.slice,.slice,.slice,.slice,.slice,.slice],(.array 3 41)⟩),
 (81,⟨2,true,16,[ams,ams],(.array 2 3)⟩),
 (94,⟨2,true,32,[.slice,ams],(.struct [(0,22),(1,3)])⟩),
 (95,⟨2,true,32,[.slice,ams],(.struct [(0,22),(1,3)])⟩),
 (111,⟨3,true,24,[ams,ams,ams],(.struct [(0,3),(1,3),(2,3)])⟩),
 (112,⟨3,true,24,[ams,ams,ams],(.struct [(0,3),(1,3),(2,3)])⟩),
 (113,⟨4,true,32,[ams,ams,ams,ams],(.struct [(0,3),(1,3),(2,3),(3,3)])⟩),
 (114,⟨4,true,32,[ams,ams,ams,ams],(.struct [(0,3),(1,3),(2,3),(3,3)])⟩),
 (116,⟨1,false,8,[.other],.other⟩),
 (118,⟨1,false,8,[.other],.other⟩),
 (130,⟨1,false,8,[.other],.other⟩),
 (132,⟨1,true,24,[.slice],(.struct [(0,22)])⟩),
 (133,⟨1,true,24,[.slice],(.struct [(0,22)])⟩),
 (135,⟨2,true,16,[ams,.bool],(.struct [(0,3),(1,4)])⟩),
 (136,⟨2,true,16,[ams,.bool],(.struct [(0,3),(1,4)])⟩),
 (149,⟨1,false,8,[.other],.other⟩),
 (150,⟨1,false,24,[.slice],(.slice 22)⟩),
 (151,⟨1,false,24,[.slice],(.slice 152)⟩),
 (152,⟨1,false,8,[(.int .u64)],(.int .u64)⟩),
 (153,⟨4,true,80,[.slice,.slice,.slice,(.int .u64)],(.struct [(0,150),(1,151),(2,22),(3,152)])⟩),
 (154,⟨4,true,80,[.slice,.slice,.slice,(.int .u64)],(.struct [(0,150),(1,151),(2,22),(3,152)])⟩),
 (174,⟨5,true,56,[ams,.slice,ams,ams,.bool],(.struct [(0,3),(1,22),(2,3),(3,3),(4,4)])⟩),
 (175,⟨5,true,56,[ams,.slice,ams,ams,.bool],(.struct [(0,3),(1,22),(2,3),(3,3),(4,4)])⟩),
 (178,⟨15,true,328,[.slice,.slice,ams,.slice,.slice,.slice,.slice,.slice,.slice,.slice,.slice,.slice,.slice,.slice,.bool],(.struct [(0,34),(6,35),(7,22),(8,41),(14,4)])⟩),
 (179,⟨15,true,328,[.slice,.slice,ams,.slice,.slice,.slice,.slice,.slice,.slice,.slice,.slice,.slice,.slice,.slice,.bool],(.struct [(0,34),(6,35),(7,22),(8,41),(14,4)])⟩),
 (190,⟨5,true,72,[ams,.slice,.slice,ams,ams],(.struct [(0,3),(1,22),(2,22),(3,3),(4,3)])⟩),
 (191,⟨5,true,72,[ams,.slice,.slice,ams,ams],(.struct [(0,3),(1,22),(2,22),(3,3),(4,3)])⟩),
 (194,⟨1,false,8,[.other],.other⟩),
 (196,⟨1,false,8,[.other],.other⟩),
 (197,⟨1,false,24,[.slice],(.slice 241)⟩),
 (202,⟨1,false,8,[.other],.other⟩),
 (203,⟨1,false,8,[.other],.other⟩),
 (205,⟨1,false,8,[.other],.other⟩),
 (208,⟨1,false,8,[.other],.other⟩),
 (210,⟨1,false,8,[.other],(.map 9 4)⟩),
 (218,⟨1,false,8,[.other],.other⟩),
 (219,⟨1,false,24,[.slice],(.slice 218)⟩),
 (221,⟨1,false,24,[.slice],(.slice 226)⟩),
 (225,⟨2,true,16,[ams,ams],(.struct [(0,3),(1,3)])⟩),
 (226,⟨2,true,16,[ams,ams],(.struct [(0,3),(1,3)])⟩),
 (232,⟨1,false,24,[.slice],(.slice 237)⟩),
 (236,⟨5,true,40,[ams,ams,ams,ams,.bool],(.struct [(0,3),(1,3),(2,3),(3,3),(4,4)])⟩),
 (237,⟨5,true,40,[ams,ams,ams,ams,.bool],(.struct [(0,3),(1,3),(2,3),(3,3),(4,4)])⟩),
 (240,⟨3,true,24,[ams,ams,ams],(.struct [(0,3),(1,3),(2,3)])⟩),
 (241,⟨3,true,24,[ams,ams,ams],(.struct [(0,3),(1,3),(2,3)])⟩),
 (248,⟨1,false,8,[.other],.other⟩),
 (256,⟨1,false,8,[.other],(.map 9 3)⟩),
 (261,⟨1,false,8,[.other],.other⟩),
 (263,⟨1,false,8,[(.int .u64)],(.int .u64)⟩),
 (269,⟨64,true,512,[ams,ams,ams,ams,ams,ams,ams,ams,ams,ams,ams,ams,ams,ams,ams,ams,ams,ams,ams,ams,ams,ams,ams,ams,ams,ams,ams,ams,ams,ams,ams,ams,ams,ams,ams,ams,ams,ams,ams,ams,ams,ams,ams,ams,ams,ams,ams,ams,ams,ams,ams,ams,ams,ams,ams,ams,ams,ams,ams,ams,ams,ams,ams,ams],(.array 64 3)⟩),
 (270,⟨64,true,512,[ams,ams,ams,ams,ams,ams,ams,ams,ams,ams,ams,ams,ams,ams,ams,ams,ams,ams,ams,ams,ams,ams,ams,ams,ams,ams,ams,ams,ams,ams,ams,ams,ams,ams,ams,ams,ams,ams,ams,ams,ams,ams,ams,ams,ams,ams,ams,ams,ams,ams,ams,ams,ams,ams,ams,ams,ams,ams,ams,ams,ams,ams,ams,ams],(.array 64 3)⟩),
 (276,⟨1,false,4,[(.int .u32)],(.int .u32)⟩),
 (283,⟨1,false,8,[.other],.other⟩)]
 eqs:=[(57,[ams,ams,ams]),(226,[ams,ams])]
 fns:=[(10,⟨[],true⟩),(11,⟨[0],true⟩),(12,⟨[],true⟩),(13,⟨[2],true⟩),(15,⟨[],true⟩),(16,⟨[],true⟩),(17,⟨[],true⟩),(18,⟨[],true⟩),(20,⟨[0],true⟩),(21,⟨[],true⟩),(22,⟨[1],true⟩),(23,⟨[],true⟩),(24,⟨[1],true⟩),(25,⟨[0],true⟩),(26,⟨[],true⟩),(27,⟨[2],true⟩),(30,⟨[0],false⟩),(31,⟨[2],true⟩),(32,⟨[2],true⟩),(33,⟨[],true⟩),(35,⟨[],true⟩),(40,⟨[],true⟩),(41,⟨[],true⟩),(42,⟨[0],true⟩),(43,⟨[0],true⟩),(46,⟨[],true⟩),(47,⟨[0],true⟩),(48,⟨[],true⟩),(49,⟨[],true⟩),(51,⟨[],true⟩),(54,⟨[0],false⟩),(55,⟨[0],false⟩),(56,⟨[0],false⟩),(57,⟨[],true⟩),(58,⟨[],true⟩),(59,⟨[],true⟩),(60,⟨[],true⟩),(65,⟨[],true⟩),(66,⟨[],true⟩),(67,⟨[1],true⟩),(73,⟨[],true⟩),(74,⟨[],true⟩),(75,⟨[0],true⟩),(79,⟨[0],true⟩),(80,⟨[0],true⟩),(81,⟨[0],true⟩),(82,⟨[0],true⟩),(83,⟨[0],true⟩),(84,⟨[0],false⟩),(85,⟨[0],false⟩),(86,⟨[0],true⟩),(87,⟨[0],true⟩),(89,⟨[],true⟩),(90,⟨[],true⟩),(91,⟨[],true⟩),(92,⟨[],true⟩),(93,⟨[],true⟩),(94,⟨[],true⟩),(95,⟨[],true⟩),(96,⟨[],true⟩),(97,⟨[],true⟩),(98,⟨[],true⟩),(99,⟨[],true⟩),(100,⟨[],true⟩),(101,⟨[],true⟩),(102,⟨[],true⟩),(103,⟨[],true⟩),(114,⟨[],true⟩),(116,⟨[],true⟩),(129,⟨[],true⟩),(132,⟨[],true⟩),(133,⟨[],true⟩),(134,⟨[],true⟩),(136,⟨[2],false⟩),(137,⟨[0,2,3],false⟩),(139,⟨[],true⟩),(140,⟨[],true⟩),(142,⟨[],true⟩),(147,⟨[],true⟩),(148,⟨[1,2,3,4],false⟩),(149,⟨[],true⟩),(163,⟨[],true⟩),(165,⟨[],true⟩),(176,⟨[],true⟩),(182,⟨[],true⟩),(185,⟨[],true⟩),(186,⟨[1],true⟩),(189,⟨[],true⟩),(190,⟨[],true⟩),(193,⟨[],true⟩),(198,⟨[],true⟩),(209,⟨[],true⟩),(211,⟨[1],false⟩),(212,⟨[],true⟩),(225,⟨[1],true⟩),(265,⟨[0],false⟩),(266,⟨[0],false⟩),(267,⟨[0],false⟩),(268,⟨[0],false⟩),(269,⟨[0],false⟩),(272,⟨[0],false⟩)]
 glob:=[(0,[iV (0:Int),iV (1:Int)])]
def jh:iI Tryz.prog cfg:=ami (by kernel_rfl) (by kernel_rfl) (by kernel_rfl)
abbrev S:=Ab.Spec Tryz.prog cfg
open Go.Ab Go.RowKit Go.Shelf
attribute [local go_sem] Oper.semAt_some
set_option maxRecDepth 100000 in
set_option maxHeartbeats 2000000 in
def apn (F:Fence) (n:Nat) (h7:F.fn 229) (hro:F.round=none) (hn:1<=n) (l B O b off len cap:Nat) (hlen:len<=1000000) (Keep:World->Prop)
  (c0 c1 c2 c3 c4:Nat->Value) (v1:Nat->Value) (hv:∀i,v1 i=.agg #[c0 i,c1 i,c2 i,c3 i,c4 i])
  (hB:∀w,Keep w->w.cell? ⟨B,O,none⟩=some (.slice (some ⟨b,off,none⟩) len cap))
  (h0:∀w i,Keep w->i<len->w.cell? ⟨b,off+i*5,none⟩=some (c0 i)) (h1:∀w i,Keep w->i<len->w.cell? ⟨b,off+i*5+1,none⟩=some (c1 i)) (h2:∀w i,Keep w->i<len->w.cell? ⟨b,off+i*5+2,none⟩=some (c2 i))
  (h3:∀w i,Keep w->i<len->w.cell? ⟨b,off+i*5+3,none⟩=some (c3 i)) (h4:∀w i,Keep w->i<len->w.cell? ⟨b,off+i*5+4,none⟩=some (c4 i))
  (J:Nat->World->Prop) (Jx:World->Prop)
  (hY:∀k W,k<len->J k W->YieldAt F (n - 1) Tryz.prog l #[.int .i64 ((len - 1 - k:Nat):Int),v1 (len - 1 - k)] W λ e W'=>
    (e=.returned (.bool true)/\J (k+1) W'/\Keep W')\/(e=.returned (.bool false)/\Jx W'))
  (W:World) (hW:Keep W) (hJ:J 0 W):
  CallsIn F n Tryz.prog 229 #[.func (.yield l) #[] #[],.pointer (some ⟨B,O,none⟩)] W λ e W'=>(∃v,e=.returned v)/\(J len W'\/Jx W'):=by
 refine callsIn_of_wp Tryz.func229 rfl h7 ?_ hro;simp only[Tryz.ntmps229,List.size_toArray,List.length_cons,List.length_nil,Nat.reduceAdd,Nat.reduceSub,Array.replicate_succ,Array.replicate_zero,List.push_toArray,List.append_toArray,List.nil_append,List.cons_append];have hB0:=hB W hW;gi_wp2;gi_loopw [3] (λ i wr=>∃k:Nat,k<=len/\i=.int .i64 ((len:Int) - 1 - k)/\J k wr/\Keep wr)
  (λ i _=>(intOf i+1).toNat)
 case atStart=>exact⟨0,Nat.zero_le _,by simp,hJ,hW⟩
 case round=>
  obtain⟨k,hk,rfl,hJs,hkp⟩:=hrel
  by_cases hlt:k<len
  ·obtain⟨fn,tmps,assign,body,hy,hR⟩:=hY k wr hlt hJs
   have hBr:=hB wr hkp
   obtain⟨i,hi⟩:∃i:Nat,i=len - 1 - k:=⟨_,rfl⟩
   rw[<- hi]at hy
   have hil:i<len:=by omega
   have hii:((len:Int) - 1 - k)=(i:Int):=by omega
   rw[hii]
   have e0:=h0 wr i hkp hil
   have e1:=h1 wr i hkp hil
   have e2:=h2 wr i hkp hil
   have e3:=h3 wr i hkp hil
   have e4:=h4 wr i hkp hil
   rw[hv]at hy
   have A:Aside (i+k+1=len):=by show i+k+1=len;omega
   have hi0:¬ ((i:Int)<0):=by omega
   have hi1:0<=(i:Int):=by omega
   clear hi hii hlt hk
   gi_wp2
   refine hR.mono ?_
   rintro e W3 (⟨rfl,hJ3,hk3⟩ | ⟨rfl,hJx3⟩)
   ·have A':=A.out
    gi_wp2
    go_roundw
    case rel=>exact⟨k+1,by omega,by have:=A';simp;omega,hJ3,hk3⟩
    case measure=>simp[intOf]
   gi_wp2
   refine bodyPost_ret (results_none rfl _ _ _) rfl ?_
   exact⟨⟨_,rfl⟩,.inr hJx3⟩
  obtain rfl:k=len:=by omega
  have hneg:((k:Int) - 1 - k) = -1:=by omega
  rw[hneg]
  gi_wp2
  go_end0
  exact⟨⟨_,rfl⟩,.inl hJs⟩
set_option maxRecDepth 100000 in
set_option maxHeartbeats 2000000 in
def agZ (F:Fence) (n:Nat) (h7:F.fn 229) (hro:F.round=none) (l B O cap:Nat) (a:Option Addr) (J:World->Prop) (W:World) (hB:W.cell? ⟨B,O,none⟩=some (.slice a 0 cap)) (hJ:J W):
  CallsIn F n Tryz.prog 229 #[.func (.yield l) #[] #[],.pointer (some ⟨B,O,none⟩)] W λ e W'=>(∃v,e=.returned v)/\J W':=by
 refine callsIn_of_wp Tryz.func229 rfl h7 ?_ hro;simp only[Tryz.ntmps229,List.size_toArray,List.length_cons,List.length_nil,Nat.reduceAdd,Nat.reduceSub,Array.replicate_succ,Array.replicate_zero,List.push_toArray,List.append_toArray,List.nil_append,List.cons_append];gi_wp2;gi_loopw [3] (λ i wr=>i=.int .i64 (-1)/\J wr) (λ _ _=>0);case atStart=>exact⟨by simp,hJ⟩
 case round=>
  obtain⟨rfl,hJs⟩:=hrel
  gi_wp2
  go_end0
  exact⟨⟨_,rfl⟩,hJs⟩
def S9 {n n':Nat} {P:Program} {f:FuncId} {args:Array Value} {w:World} {R:Ending->World->Prop} (h:CallsIn (FW none) n P f args w R):CallsIn (FW none) n' P f args w R:=
 ⟨h.1,λ cs _=>h.2 cs (λ _ hd=>by cases hd)⟩
def Xn (l:ahf) (hl:l.length<=1000000):aaG Tryz.prog 229 [.ro [bf l]] l.length (λ k=>iV ((l.length - 1 - k:Nat):Int)) (λ k=>u7 (l.getD (l.length - 1 - k) aD)):=by
 refine⟨enters_of Tryz.func229 (by kernel_rfl) rfl,λ w I lb hI hlb hp=>?_⟩;have h0:=hp 0 (by simp);have auG:lb=#[lb.getD 0 Go.undef]:=by
  have:lb.size=1:=hlb;apply Array.ext
  ·simp[this]
  intro i h1 h2;have:i=0:=by omega
  subst this;simp[h1]
 rw[auG];generalize lb.getD 0 Go.undef=x at h0;clear auG hp hlb;cases h0 with
 | ro B O vs hIB hm hr=>
  have hs:=hr 0 (by simp);have hm0:=hm 0 (by simp);have hs:iH w I (bf l) (vs 0):=hs;generalize vs 0=sv at hs hm0;cases hs with
  | @sl _ _ _ _ a cap b off cs hcap _ ha hes hcm h1 hcr=>
   by_cases hz:l.length=0
   ·refine⟨λ _=>.bool true,λ _=>.bool true,λ k hk=>absurd hk om,λ y n J Jx W hW hY hJ=>?_⟩;have hBc:W.cell? ⟨B,O,none⟩=some (.slice a 0 cap):=by
     rw[cell?_of_heap (w:=w) (hW B hIB),<- hz];exact hm0
    rw[hz];exact(agZ (FW none) n trivial rfl y B O cap a (λ W=>J 0 W) W hBc hJ).mono λ e W' ⟨h1,h2⟩=>⟨h1,.inl h2⟩
   obtain⟨ha1,WA⟩:=ha hz;subst ha1;refine⟨λ k=>.int .i64 ((l.length - 1 - k:Nat):Int),λ k=>.agg #[cs (l.length - 1 - k) 0,cs (l.length - 1 - k) 1,cs (l.length - 1 - k) 2,cs (l.length - 1 - k) 3,cs (l.length - 1 - k) 4],λ k hk=>⟨.int _ _,?_⟩,λ y n J Jx W hW hY hJ=>?_⟩
   ·refine .agg rfl λ j hj=>?_;have hj:j<5:=hj;have:=hcr (l.length - 1 - k) j om hj;have e:nth (u7 (l.getD (l.length - 1 - k) aD)).cells j=nth [iV (l.getD (l.length - 1 - k) aD).aW,apL (l.getD (l.length - 1 - k) aD).bY,iV (l.getD (l.length - 1 - k) aD).gU,iV (l.getD (l.length - 1 - k) aD).iP,.bool (l.getD (l.length - 1 - k) aD).gF] j:=rfl;rcases(by omega:j=0\/j=1\/j=2\/j=3\/j=4)with rfl | rfl | rfl | rfl | rfl<;>exact this
   have key:∀W':World,(∀b,I b->W'.heap[b]? = w.heap[b]?)->∀i j,i<l.length->j<5->W'.cell? ⟨b,off+(i*5+j),none⟩=some (cs i j):=λ W' hW' i j hi hj=>by
    rw[cell?_of_heap (w:=w) (hW' b WA)];exact hcm i j hi hj
   refine S9 (apn (FW none) (n+1) trivial rfl om y B O b off l.length cap hl (λ W':World=>∀b,I b->W'.heap[b]? = w.heap[b]?) (λ i=>cs i 0) (λ i=>cs i 1) (λ i=>cs i 2) (λ i=>cs i 3) (λ i=>cs i 4) (λ i=>.agg #[cs i 0,cs i 1,cs i 2,cs i 3,cs i 4]) (λ _=>rfl)
    (λ W' hW'=>by rw[cell?_of_heap (w:=w) (hW' B hIB)];exact hm0) (λ W' i h hi=>key W' h i 0 hi om) (λ W' i h hi=>key W' h i 1 hi om) (λ W' i h hi=>key W' h i 2 hi om) (λ W' i h hi=>key W' h i 3 hi om) (λ W' i h hi=>key W' h i 4 hi om)
    (λ k W1=>J k W1/\∀b,I b->W1.heap[b]? = w.heap[b]?) Jx ?_ W hW ⟨hJ,hW⟩ |>.mono ?_)
   ·rintro k W1 hk ⟨hJ1,hW1⟩;obtain⟨fn,tmps,assign,body,hy,hR⟩:=hY k W1 hk hJ1;refine⟨fn,tmps,assign,body,hy,hR.mono ?_⟩;rintro e W' (⟨rfl,h2,h3⟩ | ⟨rfl,h2⟩)
    ·have hW':∀b,I b->W'.heap[b]? = w.heap[b]? := λ b hb=>(h3 b hb).trans (hW1 b hb);exact .inl ⟨rfl,⟨h2,hW'⟩,hW'⟩
    exact .inr ⟨rfl,h2⟩
   rintro e W' ⟨h1,⟨h2,_⟩ | h2⟩
   ·exact⟨h1,.inl h2⟩
   exact⟨h1,.inr h2⟩
def acL (l:ahf):S 190 [bf l] [] (.fn 229 [.ro [bf l]]) []:=by
 refine akh (ct:=[]) jh Tryz.func190 rfl rfl (Nat.le_of_ble_eq_true rfl) (by decide +kernel) (Nat.zero_le _) ?_;conv=>whnf
 exact⟨⟨rfl,SN.refl _,ag7⟩,ag7⟩
open Go.ChangeShapes Go.WideShapes Go.ChangeAt Go.RowKit
def own:ownKnob Tryz.prog.godebug=none:=by kernel_rfl
def laidOut:laidOutB Tryz.prog=true:=by kernel_rfl
def ayb:Tryz.prog.globalNamed "bringup/clock.off" = some 0:=by kernel_rfl
def ayc:(Tryz.prog.globals[0]?).map (·.type)=some 226:=by kernel_rfl
def apo:Tryz.prog.cellsOf 226=2:=by kernel_rfl
def cells3:Tryz.prog.cellsOf 3=1:=by kernel_rfl
abbrev anR:List (String×DataW Unit):=[("bringup/clock.off", Rows.laid_bringup_clock_off)]
def apq {W:World} (h:laidMetH Tryz.prog anR W):W.cell? ⟨0,0,none⟩=some (.int .i64 0)/\W.cell? ⟨0,1,none⟩=some (.int .i64 1):=by
 rw[MakeChecks.laidMetH_plain _ _ _ (by kernel_rfl)]at h;obtain⟨ps,⟨g0,t0,cs0,f0,p0,q0,hg0,ht0,hv0,hd0,_⟩,_,_⟩:=h;obtain rfl:=Option.some.inj (ayb.symm.trans hg0);obtain rfl:=Option.some.inj (ayc.symm.trans ht0);obtain⟨y0,y1,n,hx,hl,h0,h1⟩:=trod_struct2 Tryz.underlying226 hd0;rw[apo]at hl;simp only[Prod.mk.injEq,Rows.laid_bringup_clock_off,DataW.agg.injEq,List.cons.injEq]at hx;obtain⟨k0,e1,e2,_⟩:=DataW.trod_int Tryz.underlying3 h0;obtain⟨k1,e3,e4,_⟩:=DataW.trod_int Tryz.underlying3 h1;have hk0:k0=0:=by have:=hx.1.1;rw[e2]at this;simpa using this.symm
 have hk1:k1=1:=by have:=hx.1.2.1;rw[e4]at this;simpa using this.symm
 subst hk0;subst hk1;have c0:=World.var?_cell hg0 hv0 0;have c1:=World.var?_cell hg0 hv0 1;obtain⟨l⟩:=cs0;match l,hl with
 | [a,b],_=>
  rw[cells3]at e1 e3
  simp at e1 e3
  subst e1;subst e3
  exact⟨by simpa using c0,by simpa using c1⟩
def Old (W:World):Nat->Prop:=λ b=>b<W.heap.size
def ayd {W:World} (h:laidMetH Tryz.prog anR W):Rel cfg (Nk W (Old W) (λ _=>none) 0) (hof []) (λ o=>o<0) W (Old W) (λ _=>none):=by
 obtain⟨h0,h1⟩:=apq h;exact {
  dom:=λ o=>by simp[hof]
  used:=λ o p h=>by cases h
  objs:=λ o ob p _ h=>by cases h
  inj:=λ o o' p p' b bo sz b' qy sz' h=>by cases h
  qz:=λ o p b bo sz h=>by cases h
  lt:=λ o p b bo sz h=>by cases h
  BP:=λ b h=>h
  size:=Nat.le_refl _
  frame:=λ _ _ _=>rfl
  new:=λ o p b bo sz h=>by cases h
  glob:=λ g cs hg=>by
   have e:g=0/\cs=[.int .i64 0,.int .i64 1]:=by
    unfold cfg at hg
    simp only[Ab.look]at hg
    cases hb:Nat.beq 0 g with
    | true=>
     rw[hb]at hg
     have:=Nat.eq_of_beq_eq_true hb
     simp at hg
     exact⟨this.symm,hg.symm⟩
    | false=>rw[hb]at hg;cases hg
   obtain⟨rfl,rfl⟩:=e
   refine .ro 0 0 (λ j=>match j with | 0=>.int .i64 0 | _=>.int .i64 1) (World.block_lt_of_cell? _ _ h0) (λ j hj=>?_) (λ j hj=>?_)
   ·match j,hj with
    | 0,_=>exact h0
    | 1,_=>exact h1
   match j,hj with
   | 0,_=>exact .int _ _
   | 1,_=>exact .int _ _
  Us:=λ _ h=>h
  XU:=λ _ h=>.inl h
  O0O:=λ _ _=>.inl rfl
  Dm:=λ _ h=>h
  env:=⟨iM.refl _,λ _ _ h=>h.elim⟩
  maps:=λ o kd z f p b bo sz h=>by cases h }
def apr {f:FuncId} {args:aiA} {W:World} {vals:Array Value} (hs:S f args [] (.bool true) []) (hL:laidMetH Tryz.prog anR W) (hl:vals.size=args.length) (hr:∀j,j<args.length->iH W (Old W) (nth args j) (vals.getD j Go.undef)):
  Calls Tryz.prog f vals W λ e W'=>e=.returned (.bool true)/\Below W.heap.size W W':=by
 obtain⟨_,_,hc⟩:=hs;refine(hc W (Old W) (λ _=>none) vals (ayd hL) hl (λ j hj=>.pure (hr j hj))).mono λ e W' h=>?_;obtain⟨x,I',O',rfl,hR,hx⟩:=h;have hb:x=.bool true:=hx.l8;subst hb;refine⟨rfl,⟨hR.env.same.os,hR.env.same.tape,hR.env.same.output,hR.size,λ k hk=>hR.frame k hk ?_⟩⟩;rintro ⟨o,p,bo,sz,h,_⟩;cases h
def akW {H:Type} {d:DataW H} {l:List (DataW H)} (h:d∈l):Rows.uptoBulk d<=Rows.uptoBulkAll l:=by
 induction l with
 | nil=>cases h
 | cons x r ih=>
  simp only[Rows.uptoBulkAll];cases List.mem_cons.1 h with
  | inl e=>subst e;omega
  | inr e=>have:=ih e;omega
def anS {H:Type} (d:DataW H):1<=Rows.uptoBulk d:=by
 cases d with
 | lit l=>cases l<;>simp[Rows.uptoBulk]
 | _=>simp[Rows.uptoBulk]
def anT {H:Type} (l:List (DataW H)):l.length<=Rows.uptoBulkAll l:=by
 induction l with
 | nil=>simp[Rows.uptoBulkAll]
 | cons x r ih=>have:=anS x;simp only[Rows.uptoBulkAll,List.length_cons];omega
def Cs (W:World) (u:aiA) (cs:akS):Prop:=cs.length=u.length/\∀j,j<u.length->(cs.getD j Go.undef).oneCell'=true/\iH W (Old W) (nth u j) (cs.getD j Go.undef)
def asx {W:World} {A B:aiA} {X Y:akS} (h:Cs W A X) (k:Cs W B Y):Cs W (A++B) (X++Y):=by
 obtain⟨h1,h2⟩:=h;obtain⟨k1,k2⟩:=k;refine⟨by simp[h1,k1],λ j hj=>?_⟩;rw[List.length_append]at hj;by_cases hjA:j<A.length
 ·have e1:(X++Y).getD j Go.undef=X.getD j Go.undef:=by simp[List.getD,List.getElem?_append_left (show j<X.length by omega)]
  have e2:nth (A++B) j=nth A j:=UE A B j hjA;rw[e1,e2];exact h2 j hjA
 have e1:(X++Y).getD j Go.undef=Y.getD (j - A.length) Go.undef:=by simp[List.getD,List.getElem?_append_right (show X.length<=j by omega),h1]
 have e2:nth (A++B) j=nth B (j - A.length):=UF A B j om;rw[e1,e2];exact k2 _ om
def aps {W:World} {A B:aiA} {cs:akS} {o s:Nat} (h:Cs W A ((cs.drop o).take s)) (k:Cs W B (cs.drop (o+s))):Cs W (A++B) (cs.drop o):=by
 have:=asx h k;rwa [<- List.drop_drop,List.take_append_drop]at this
def abP {W:World} {a:AV} {v:Value} (h1:v.oneCell'=true) (h:iH W (Old W) a v):Cs W [a] [v]:=
 ⟨rfl,λ j hj=>by
  have:j=0:=by simpa using hj
  subst this;exact⟨h1,h⟩⟩
section
variable {H:Type} {enc:TypeId×Value->H} {W:World}
def Rd (enc:TypeId×Value->H) (W:World) (t:TypeId) {α:Type} (f:α->AV) (q:α->Prop):Prop:=
 ∀n cs x,DataW.trod enc Tryz.prog W 0 (λ _=>true) true n t cs=some x->Rows.uptoBulk x.1<=1048576->∃a,q a/\Cs W (f a).cells cs
def RdF (enc:TypeId×Value->H) (W:World) (fs:List Field) (o tot:Nat) {α:Type} (f:α->aiA) (q:α->Prop):Prop:=
 ∀n (cs:akS) (xs:List (DataW H×List MemPlace)),cs.length=tot->xs.length=fs.length->
  (∀(i:Nat) (fl:Field),fs[i]? = some fl->DataW.trod enc Tryz.prog W 0 (λ _=>true) true n fl.type ((cs.drop fl.offset).take (Tryz.prog.cellsOf fl.type))=xs[i]?)->
  Rows.uptoBulkAll (xs.map (·.1))<=1048576->∃a,q a/\Cs W (f a) (cs.drop o)
variable {t:TypeId}
def asy {k:IntKind} (ht:Tryz.prog.underlying t=some (.int k)):Rd enc W t (AV.int k) (λ n=>(Lit.int k n).wf=true):=λ n cs x h _=>by
 obtain⟨z,rfl,_,hw⟩:=DataW.trod_int ht h;exact⟨z,hw,abP rfl (.int _ _)⟩
def apt (ht:Tryz.prog.underlying t=some .bool):Rd enc W t AV.bool (λ _=>True):=λ n cs x h _=>by
 obtain⟨z,rfl,_⟩:=DataW.trod_bool ht h;exact⟨z,ag7,abP rfl (.bool _)⟩
def asz (ht:Tryz.prog.underlying t=some .string):Rd enc W t AV.str (λ s=>s.size<=1048576):=λ n cs x h hb=>by
 obtain⟨z,rfl,rfl,_⟩:=DataW.trod_string ht h;refine⟨z,?_,abP rfl (.str _)⟩;simp only[Rows.uptoBulk,Array.length_toList,ByteArray.size_data]at hb;omega
def rJ {tot:Nat}:RdF enc W [] tot tot (λ _:Unit=>[]) (λ _=>True):=λ n cs xs hl _ _ _=>
 ⟨(),ag7,by rw[List.drop_eq_nil_of_le om];exact⟨rfl,λ j hj=>absurd hj (Nat.not_lt_zero _)⟩⟩
theorem fG {f0:Field} {fs:List Field} {o o' tot:Nat} {β:Type} {F:α->AV} {Q:α->Prop} {f:β->aiA} {q:β->Prop}
  (hr:Rd enc W f0.type F Q) (ho:f0.offset=o) (hs:o+Tryz.prog.cellsOf f0.type=o') (r:RdF enc W fs o' tot f q):
  RdF enc W (f0::fs) o tot (λ p:α×β=>(F p.1).cells++f p.2) (λ p=>Q p.1/\q p.2):=λ n cs xs hl hx hf hb=>by
 match xs,hx with
 | x::xs,hx=>
  simp only[List.map_cons,Rows.uptoBulkAll]at hb
  obtain⟨a,ha,ca⟩:=hr _ _ _ (hf 0 f0 rfl) om
  obtain⟨b,hb',cb⟩:=r n cs xs hl (by simpa using hx) (λ i fl hi=>hf (i+1) fl hi) om
  subst ho hs
  exact⟨(a,b),⟨ha,hb'⟩,aps ca cb⟩
def lW {fs:Array Field} {tot:Nat} {β:Type} {f:α->aiA} {q:α->Prop} (F:β->AV) (Q:β->Prop) (g:α->β) (ht:Tryz.prog.underlying t=some (.struct fs)) (hc:Tryz.prog.cellsOf t=tot)
  (r:RdF enc W fs.toList 0 tot f q) (hg:∀a,(F (g a)).cells=f a) (hq:∀a,q a->Q (g a)):Rd enc W t F Q:=λ n cs x h hb=>by
 obtain⟨xs,m,_,rfl,hl,hlen,hf⟩:=DataW.trod_struct ht h;simp only[Rows.uptoBulk]at hb;obtain⟨a,ha,ca⟩:=r m cs xs (by rw[hl,hc]) (by rw[hlen];simp) (λ i fl hi=>hf i fl (by simpa using hi)) om;exact⟨g a,hq a ha,by rw[hg];simpa using ca⟩
def qL {e:TypeId} {F:α->AV} {Q:α->Prop} (d:α) (es:Nat) (ht:Tryz.prog.underlying t=some (.slice e)) (hc:Tryz.prog.cellsOf e=es) (hp:0<es) (hes:∀a,(F a).cells.length=es)
  (r:Rd enc W e F Q):Rd enc W t (λ l:List α=>.sl es l.length false (bT F d l)) (λ l=>l.length<=1048576/\∀x∈l,Q x):=λ n cs x h hb=>by
 rcases Deep.open_slice ht h with⟨rfl,rfl⟩ | ⟨a,len,cap,m,k,D,Pl,rfl,_,hl,hm,hmm,rfl,hx⟩
 ·exact⟨[],⟨Nat.zero_le _,λ x hx=>(by cases hx)⟩,abP rfl (.sl 0 0 (λ _ _=>Go.undef) (Nat.le_refl _) nofun (λ h=>absurd rfl h) (λ i hi=>by cases hi) (λ i j hi=>by cases hi) (λ i j hi=>by cases hi) (λ i j hi=>by cases hi))⟩
 simp only[if_true]at hmm;subst hmm;simp only[Rows.uptoBulk]at hb;letI:Inhabited (α×akS):=⟨(d,[])⟩
 obtain⟨X,hX⟩:=Deep.choose_lt (α:=α×akS) (n:=len) (p:=λ i y=>Q y.1/\W.cells? 0 (a.add (i*es)) es=some y.2/\Cs W (F y.1).cells y.2) (λ i hi=>by
  obtain⟨cs',h1,h2⟩:=hx i om;obtain⟨y,hy,cy⟩:=r _ _ _ h2 (Nat.le_trans (akW (l:=(List.range len).map D) (List.mem_map.2 ⟨i,List.mem_range.2 hi,rfl⟩)) om);rw[hc]at h1;exact⟨(y,cs'),hy,h1,cy⟩)
 have hlen:=anT ((List.range len).map D);rw[List.length_map,List.length_range]at hlen;refine⟨(List.range len).map λ i=>(X i).1,⟨by simp;omega,λ x hx=>?_⟩,abP rfl ?_⟩
 ·obtain⟨i,hi,rfl⟩:=List.mem_map.1 hx;exact(hX i (List.mem_range.1 hi)).1
 have hln:((List.range len).map λ i=>(X i).1).length=len:=by simp
 show iH W (Old W) (.sl es ((List.range len).map λ i=>(X i).1).length false _) _;rw[hln];have hg:∀i,i<len->bT F d ((List.range len).map λ i=>(X i).1) i=F (X i).1:=λ i hi=>by
  show F (((List.range len).map λ i=>(X i).1).getD i d)=_;simp[List.getD,hi]
 have aye:0<len->a.spot=none:=λ h0=>by
  obtain⟨_,e1,e2⟩:=World.cells?_some (hX 0 h0).2.1;have e3:=e2 0 hp;rw[Deep.add_add,List.getElem?_eq_getElem om,Nat.zero_mul]at e3;exact World.cell?_spot e3
 have hcell:∀i j,i<len->j<es->a.spot=none/\a.block<W.heap.size/\W.cell? ⟨a.block,a.off+(i*es+j),none⟩=some ((X i).2.getD j Go.undef):=λ i j hi hj=>by
  obtain⟨_,e1,e2⟩:=World.cells?_some (hX i hi).2.1;have e3:=e2 j hj;rw[Deep.add_add,List.getElem?_eq_getElem om]at e3;have hsp:=aye om;have hbk:=World.block_lt_of_cell? _ _ e3;obtain⟨b,off,sp⟩:=a;simp only at hsp;subst hsp;refine⟨rfl,?_,?_⟩
  ·unfold Addr.add at hbk;split at hbk<;>exact hbk
  rw[add_plain]at e3;rw[e3];simp[List.getD,List.getElem?_eq_getElem (show j<(X i).2.length by omega)]
 have hc3:∀i j,i<len->j<es->((X i).2.getD j Go.undef).oneCell'=true/\iH W (Old W) (nth (F (X i).1).cells j) ((X i).2.getD j Go.undef):=λ i j hi hj=>
  (hX i hi).2.2.2 j (by rw[hes];exact hj)
 refine .sl a.block a.off (λ i j=>(X i).2.getD j Go.undef) hl nofun (λ hn=>?_) (λ i hi=>by rw[hg i hi];exact hes _) (λ i j hi hj=>(hcell i j hi hj).2.2) (λ i j hi hj=>(hc3 i j hi hj).1) (λ i j hi hj=>by rw[hg i hi];exact(hc3 i j hi hj).2);have h0:=hcell 0 0 om hp;refine⟨?_,h0.2.1⟩;obtain⟨b,off,sp⟩:=a;simp only at h0;rw[h0.1]
def aeT {F:α->AV} {Q:α->Prop} {v:Value} {d:DataW H} {ps:List MemPlace} (r:Rd enc W t F Q) (hv:v.cells=#[v]) (hF:∀a,(F a).cells=[F a]) (h:DataW.Trod enc Tryz.prog W 0 (λ _=>true) true t v d ps) (hb:Rows.uptoBulk d<=1048576):∃a,Q a/\iH W (Old W) (F a) v:=by
 obtain⟨n,hn⟩:=h;obtain⟨a,ha,ca⟩:=r _ _ _ hn hb;rw[hv,hF]at ca;exact⟨a,ha,(ca.2 0 Nat.zero_lt_one).2⟩
def ajI {F:α->AV} {Q:α->Prop} {v:Value} {d:DataW H} {ps:List MemPlace} (r:Rd enc W t F Q) (hv:∃vs:Array Value,v=.agg vs) (hF:∀a,F a=.agg (F a).cells) (h:DataW.Trod enc Tryz.prog W 0 (λ _=>true) true t v d ps) (hb:Rows.uptoBulk d<=1048576):∃a,Q a/\iH W (Old W) (F a) v:=by
 obtain⟨vs,rfl⟩:=hv;obtain⟨n,hn⟩:=h;obtain⟨a,ha,ca⟩:=r _ _ _ hn hb;refine⟨a,ha,?_⟩;rw[hF a];have e:(Value.agg vs).cells.toList=vs.toList:=rfl;rw[e]at ca;refine .agg (by simpa using ca.1) (λ j hj=>?_);have:=(ca.2 j hj).2;have e2:vs.toList.getD j Go.undef=vs.getD j Go.undef:=by
  rw[List.getD_eq_getElem?_getD,Array.getElem?_toList,Array.getD_eq_getD_getElem?]
 rwa [e2]at this
end
end Go.Proofs.YtccjmcmolnbiiaaGreatDoor

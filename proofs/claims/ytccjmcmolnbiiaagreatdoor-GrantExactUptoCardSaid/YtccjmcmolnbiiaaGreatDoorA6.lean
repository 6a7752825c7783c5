/- A part of the proof. -/
import Derived.Test.YtccjmcmolnbiiaaGreatDoorA5
set_option linter.defProp false
set_option linter.unusedVariables false
set_option linter.unusedSimpArgs false
set_option maxHeartbeats 4000000
namespace Go.Proofs.YtccjmcmolnbiiaaGreatDoor.Sp
open Go.Ab
set_option maxRecDepth 100000
def jy {n_:Int} {wU:Int} {yT:Int}:W (je n_ wU yT) (λ r=>r=dU n_ wU yT):=by
 unfold je;refine ay ?_;rfl
def W9 {s_:aI}:W (rY s_) (λ r=>r=Va s_):=by
 unfold rY;refine ay ?_;rfl
def zT {s_:ahf} (h1:s_.length<=2000000):W (lZ s_) (λ r=>r=s_.any (Va)):=
 yV (Sl (U3 (p:=λ x=>rY x) (P:=Va) (λ x hx=>mg (W9)) om) (qI _ _))
def abb {s_:aI} {at_:Int} (h1:0<=at_) (h2:at_<=2000000) (h3:s_.bY.length<=2000000):W (Du s_ at_) (λ r=>r=zS s_ at_):=by
 unfold Du;refine wn<|aG (jy) λ v1 hv1=>?_;subst v1;refine aG (ig λ hc=>mg (jy)) λ v2 hv2=>?_;subst v2;refine aG (ig λ hc=>mg (jy)) λ v3 hv3=>?_;subst v3;apply bL<;>intro c1
 ·have gW:=c1;have c1:=eu c1;refine ay ?_;(unfold zS;rw[show Yj s_ at_=true from gW];rfl)
 have gW:=c1;have c1:=eu c1;refine bK (λ(g1:Int)=>0<=g1/\g1<=s_.bY.length/\Rq (if g1.toNat=0 then 0 else s_.bY.getD (g1.toNat - 1) 0) (s_.bY.drop g1.toNat)=Rq 0 s_.bY) (λ(g1:Int)=>(s_.bY.length - g1).toNat) ?_ ?_
 ·intro aj g1 eT dA;obtain⟨dW,cB,bH⟩:=eT;unfold Lx;obtain⟨i,rfl⟩:=Int.eq_ofNat_of_zero_le dW;refine wi ?_ ?_<;>intro c2
  ·have hlt:i<s_.bY.length:=om;have hst:=ags hlt rfl;rw[show((i:Int).toNat)=i from rfl]at bH;rw[hst]at bH;have e1:(((i:Int) - 1).toNat)=i - 1:=om;simp only[e1,Int.toNat_natCast]at *;refine wn<|aG (jy) λ v6 hv6=>?_;subst v6;refine wm<|bL ?_ ?_<;>intro c3
   ·have jU:=c3;have c3:=eu c3;refine ay ?_;(unfold zS;rw[show Yj s_ at_=false from gW,<- bH];rw[jU];rfl)
   have jU:=c3;have c3:=eu c3;refine wn<|dA _ ?_ ?_
   ·(refine⟨ob,ob,?_⟩;rw[<- bH,jU];rw[show((i:Int)+1).toNat=i+1 by omega,if_neg om];rfl)
   exact ob
  refine ay ?_;have e:i=s_.bY.length:=om;unfold zS;rw[show Yj s_ at_=false from gW,<- bH,show(i:Int).toNat=i from rfl,e,List.drop_length];rfl
 (refine⟨ob,ob,rfl⟩)
variable {l_:ahf}
def yD (h1:l_.length<=2000000):W (pK l_) (λ r=>r=eY l_):=by
 unfold pK;refine aG (ig λ hc=>mg (zT ob)) λ v1 hv1=>?_;subst v1;apply bL<;>intro c1
 ·have gW:=c1;have c1:=eu c1;refine ay ?_;(unfold eY;rw[gW];rfl)
 have gW:=c1;have c1:=eu c1;have hbig:∀i:Nat,i<l_.length->Va (l_.getD i aD)=false:=nV aD (by have:=gW;simp only[Bool.or_eq_false_iff]at this;exact this.2);refine bK (λ(g1:Int)=>0<=g1/\g1<=l_.length/\WX g1.toNat (l_.drop g1.toNat)=WX 0 l_) (λ(g1:Int)=>(l_.length - g1).toNat) ?_ ?_
 ·intro aj g1 eT dA;obtain⟨dW,cB,bH⟩:=eT;unfold LA;obtain⟨i,rfl⟩:=Int.eq_ofNat_of_zero_le dW;refine wi ?_ ?_<;>intro c2
  ·have hlt:i<l_.length:=om;have hb:=hbig i hlt;have hbl:(l_.getD i aD).bY.length<=16:=(by unfold Va at hb;have:=of_decide_eq_false hb;omega);rw[show((i:Int).toNat)=i from rfl,drop_cons aD hlt,WX]at bH;simp only[Int.toNat_natCast]at *;refine wn<|aG (abb om om om) λ v4 hv4=>?_;subst v4;apply bL<;>intro c3
   ·have jU:=c3;have c3:=eu c3;refine ay ?_;(unfold eY;rw[gW,<- bH,show zS (l_.getD i aD) i=false by simpa using jU];rfl)
   have jU:=c3;have c3:=eu c3;refine wn<|dA _ ?_ ?_
   ·(refine⟨ob,ob,?_⟩;rw[<- bH,show zS (l_.getD i aD) i=true by simpa using jU,show((i:Int)+1).toNat=i+1 by omega];rfl)
   exact ob
  refine ay ?_;have e:i=l_.length:=om;unfold eY;rw[gW,<- bH,show(i:Int).toNat=i from rfl,e,List.drop_length];rfl
 (refine⟨ob,ob,rfl⟩)
def abd {r_:bZ} (h1:l_.length<=2000000) (h2:r_.dL.length<=2000000):W (DF l_ r_) (λ r=>r=yC l_ r_):=by
 unfold DF;refine aG (yD ob) λ v1 hv1=>?_;subst v1;apply bL<;>intro c1
 ·have gW:=c1;have c1:=eu c1;refine ay ?_;(unfold yC;rw[gW];rfl)
 have gW:=c1;have c1:=eu c1;have hck:eY l_=0/\r_.On.length=l_.length/\r_.dL.length=l_.length:=(by have:=gW;simp only[Bool.or_eq_false_iff,bne_eq_false_iff_eq]at this;omega);obtain⟨b1,b2,b3⟩:=K4 hck.1;refine bK (λ(g1:Int)=>0<=g1/\g1<=l_.length/\rlN (l_.drop g1.toNat) (r_.dL.drop g1.toNat)=rlN l_ r_.dL) (λ(g1:Int)=>(l_.length - g1).toNat) ?_ ?_
 ·intro aj g1 eT dA;obtain⟨dW,cB,bH⟩:=eT;unfold LP;obtain⟨i,rfl⟩:=Int.eq_ofNat_of_zero_le dW;refine wi ?_ ?_<;>intro c2
  ·have hlt:i<l_.length:=om;have hb:=b2 i hlt;rw[show((i:Int).toNat)=i from rfl,drop_cons aD hlt,drop_cons 0 (show i<r_.dL.length by omega),rlN]at bH;simp only[Int.toNat_natCast]at *;refine wm<|wn ?_;refine aG (jy) λ v4 hv4=>?_;subst v4;apply bL<;>intro c3
   ·have jU:=c3;have c3:=eu c3;refine ay ?_;(unfold yC;rw[gW,<- bH];rw[show dU (r_.dL.getD i 0) 0 _=false by simpa using jU];rfl)
   have jU:=c3;have c3:=eu c3;refine wn<|dA _ ?_ ?_
   ·(refine⟨ob,ob,?_⟩;rw[<- bH,show dU (r_.dL.getD i 0) 0 _=true by simpa using jU,show((i:Int)+1).toNat=i+1 by omega];rfl)
   exact ob
  refine ay ?_;have e:i=l_.length:=om;unfold yC;rw[gW,<- bH,show(i:Int).toNat=i from rfl,e,List.drop_length];cases List.drop l_.length r_.dL<;>rfl
 (refine⟨ob,ob,rfl⟩)
def Xa {x_:bO} {qw:ahf} (h1:qw.length<=2000000):W (sj x_ qw) (λ r=>r=acp qw.length x_):=by
 unfold sj;refine wn<|aG (jy) λ v1 hv1=>?_;subst v1;refine aG (ig λ hc=>mg (jy)) λ v2 hv2=>?_;subst v2;refine aG (ig λ hc=>mg (jy)) λ v3 hv3=>?_;subst v3;refine aG (ig λ hc=>mg (jy)) λ v4 hv4=>?_;subst v4;refine ay ?_;rfl
def BH {s_:ai8} {f_:ahf} (h1:s_.length<=2000000) (h2:f_.length<=2000000):W (mq s_ f_) (λ r=>r=s_.any (acp f_.length)):=
 yV (Sl (U3 (p:=λ x=>sj x f_) (P:=acp f_.length) (λ x hx=>mg (Xa h2)) om) (qI _ _))
variable {d_:ai8}
def PU (h1:l_.length<=2000000) (h2:d_.length<=2000000):W (xP l_ d_) (λ r=>r=qZ l_ d_):=by
 unfold xP;refine aG (yD ob) λ v1 hv1=>?_;subst v1;refine aG (ig λ hc=>mg (BH ob ob)) λ v2 hv2=>?_;subst v2;refine ay ?_;rfl
def mW {s_:ahf}:W (jf s_) (λ r=>r=s_):=by
 unfold jf;refine ay ?_;rfl
def Ig (h1:Vld l_ d_):W (wE l_ d_) (λ r=>r=jK l_ d_):=by
 obtain⟨vl,vd,vs,_,vx⟩:=h1;unfold wE;refine wn<|bK (λ(g1:Int×ag9)=>0<=g1.1/\g1.1<=d_.length/\g1.2=zw l_.length (d_.take g1.1.toNat)) (λ(g1:Int×ag9)=>(d_.length - g1.1).toNat) ?_ ?_
 ·intro aj g1 eT dA;obtain⟨dW,cB,bH⟩:=eT;unfold Ox;refine wi ?_ ?_<;>intro c1
  ·have hlt:g1.1.toNat<d_.length:=om;have hx:=vx _ (jI dV hlt);have hml:g1.2.length=l_.length:=(by rw[bH];exact wR ..);refine wm<|wn ?_;refine dA _ ?_ ?_
   ·(refine⟨ob,ob,?_⟩;dsimp only;have e:zw l_.length (d_.take (g1.1.toNat+1))=(zw l_.length (d_.take g1.1.toNat)).set (d_.getD g1.1.toNat dV).dG.toNat true:=vN _ _ dV hlt;rw[show(g1.1+1).toNat=g1.1.toNat+1 by omega,bH,e])
   exact ob
  refine aG (mW) λ v1 hv1=>?_;subst v1;refine wn<|amA (λ(k2:Nat) (g2:ag9)=>g2=Wn (kN l_) l_.length k2 (zw l_.length d_)) ?_ ?_ ?_
  ·intro k2 dR g2 axK nk qJ;unfold LM;refine aK (by(rw[nk,G8 (qh _),wR];omega)) ?_;refine aK (by(rw[nk,G8 (qh _),wR];omega)) ?_;unfold Cb;refine aK (by(rw[List.length_set,nk,G8 (qh _),wR];omega)) ?_;apply bL<;>intro c2
   ·have lM:=c2;have c2:=eu c2;have hp:=vs (l_.length - 1 - k2) om;have hl2:g2.length=l_.length:=(by rw[nk,G8 (qh _),wR]);refine wn<|qJ _ ?_;(rw[Int.toNat_natCast,iD,if_pos ⟨rfl,om⟩]at lM;show _=kN l_ (l_.length - 1 - k2) (Wn (kN l_) l_.length k2 (zw l_.length d_));rw[<- nk];unfold kN;rw[lM];rfl)
   have lM:=c2;have c2:=eu c2;have hl2:g2.length=l_.length:=(by rw[nk,G8 (qh _),wR]);refine qJ _ ?_;(rw[Int.toNat_natCast,iD,if_pos ⟨rfl,om⟩]at lM;show _=kN l_ (l_.length - 1 - k2) (Wn (kN l_) l_.length k2 (zw l_.length d_));rw[<- nk];unfold kN;rw[lM];rfl)
  ·intro g2 nk;unfold LK;refine ay ?_;(rw[nk];exact ZH _ _ _)
  (simp only[bH];rw[show g1.1.toNat=d_.length by omega,List.take_length];rfl)
 (refine⟨ob,ob,rfl⟩)
def abe (h1:Vld l_ d_):W (DJ l_ d_) (λ r=>r=Fe l_ d_):=by
 have hsm:=λ k hk=>Ve h1 k hk;obtain⟨vl,vd,vs,_,vx⟩:=h1;unfold DJ;refine wn<|bK (λ(g1:Int×ag8)=>0<=g1.1/\g1.1<=d_.length/\g1.2=Cm l_.length (d_.take g1.1.toNat)) (λ(g1:Int×ag8)=>(d_.length - g1.1).toNat) ?_ ?_
 ·intro aj g1 eT dA;obtain⟨dW,cB,bH⟩:=eT;unfold LQ;refine wi ?_ ?_<;>intro c1
  ·have hlt:g1.1.toNat<d_.length:=om;have hx:=vx _ (jI dV hlt);have hml:g1.2.length=l_.length:=(by rw[bH];exact Vd ..);have hbd:=agw l_.length d_ (λ x hx=>by have:=vx x hx;omega) g1.1.toNat om (d_.getD g1.1.toNat dV).dG.toNat;rw[<- bH]at hbd;refine wm<|wm ?_;refine wn<|dA _ ?_ ?_
   ·(refine⟨ob,ob,?_⟩;dsimp only;have e:Cm l_.length (d_.take (g1.1.toNat+1))=(Cm l_.length (d_.take g1.1.toNat)).set (d_.getD g1.1.toNat dV).dG.toNat ((Cm l_.length (d_.take g1.1.toNat)).getD (d_.getD g1.1.toNat dV).dG.toNat 0+(d_.getD g1.1.toNat dV).Load):=vN _ _ dV hlt;rw[show(g1.1+1).toNat=g1.1.toNat+1 by omega,e,<- bH])
   exact ob
  refine aG (mW) λ v1 hv1=>?_;subst v1;refine wn<|amA (λ(k2:Nat) (g2:ag8)=>g2=Wn (jD l_) l_.length k2 (Cm l_.length d_)) ?_ ?_ ?_
  ·intro k2 dR g2 axK nk qJ;unfold Jc;apply bL<;>intro c2
   ·have lM:=c2;have c2:=eu c2;have hp:=vs (l_.length - 1 - k2) om;have hl2:g2.length=l_.length:=(by rw[nk,G8 (K5 _),Vd]);have hbd:=hsm k2 om;rw[<- nk]at hbd;have hb1:=hbd (l_.getD (l_.length - 1 - k2) aD).aW.toNat;have hb2:=hbd (l_.length - 1 - k2);rw[Int.toNat_natCast];refine wm<|wm ?_;refine qJ _ ?_;(show _=jD l_ (l_.length - 1 - k2) (Wn (jD l_) l_.length k2 (Cm l_.length d_));rw[<- nk];unfold jD;rw[lM];rfl)
   have lM:=c2;have c2:=eu c2;refine qJ _ ?_;(show _=jD l_ (l_.length - 1 - k2) (Wn (jD l_) l_.length k2 (Cm l_.length d_));rw[<- nk];unfold jD;rw[lM];rfl)
  ·intro g2 nk;unfold Jb;refine ay ?_;(rw[nk];exact ZH _ _ _)
  (simp only[bH];rw[show g1.1.toNat=d_.length by omega,List.take_length];rfl)
 (refine⟨ob,ob,rfl⟩)
def Xb {x_:bO} {qw:ahf} {akt:ag9} {WM:ag8} (h1:0<=x_.dG) (h2:x_.dG<qw.length) (h3:x_.dG<WM.length) (h4:0<=WM.getD x_.dG.toNat 0) (h5:WM.getD x_.dG.toNat 0<(qw.getD x_.dG.toNat aD).bY.length):W (sD x_ qw akt WM) (λ r=>r=aex qw ⟨akt,WM⟩ x_):=by
 unfold sD;refine wm<|wn ?_;refine aG (jy) λ v1 hv1=>?_;subst v1;refine ay ?_;rfl
def yE {s_:ai8} {Cc:ahf} {CP:ag9} {CQ:ag8} (h1:s_.length<=2000000) (h2:∀x∈s_,0<=x.dG/\x.dG<Cc.length) (h3:Rok Cc ⟨CP,CQ⟩):W (kQ s_ Cc CP CQ) (λ r=>r=s_.any (aex Cc ⟨CP,CQ⟩)):=
 yV (Sl (U3 (p:=λ x=>sD x Cc CP CQ) (P:=aex Cc ⟨CP,CQ⟩) (λ x hx=>mg (by obtain⟨q1,q2⟩:=h2 x hx;obtain⟨r1,r2,r3⟩:=h3;have r4:=r3 x.dG.toNat om;exact Xb q1 q2 (by dsimp only at r2;omega) r4.1 r4.2.2)) om) (qI _ _))
def PV {r_:bZ} (h1:l_.length<=2000000) (h2:d_.length<=2000000) (h3:r_.dL.length<=2000000):W (xR l_ r_ d_) (λ r=>r=gD l_ r_ d_):=by
 unfold xR;refine aG (abd ob ob) λ v1 hv1=>?_;subst v1;refine aG (ig λ hc=>mg (PU ob ob)) λ v2 hv2=>?_;subst v2;apply bL<;>intro c1
 ·have gW:=c1;have c1:=eu c1;refine ay ?_;(unfold gD;rw[gW];rfl)
 have gW:=c1;have c1:=eu c1;have hrd:yC l_ r_=true/\qZ l_ d_=true:=(by have:=gW;simpa using this);have hv:=aew hrd.2;have hr:=(QY.1 hrd.1).2;have hrk:=hr;have hvb:=λ i hi=>aa9 hv hr i hi;have hul:=JJ l_ d_;have hll:=TL l_ d_;obtain⟨r1,r2,r3⟩:=hr;obtain⟨vl,vd,vs,_,vx⟩:=id hv;have hmf:gD l_ r_ d_=Cn l_ r_ d_:=(by unfold gD;rw[gW];rfl);refine aG (Ig hv) λ v3 hv3=>?_;subst v3;refine aG (abe hv) λ v4 hv4=>?_;subst v4;refine bK (λ(g1:Int)=>0<=g1/\g1<=l_.length/\(∀j,j<g1.toNat->TM l_ r_ (jK l_ d_) (Fe l_ d_) j=false)) (λ(g1:Int)=>(l_.length - g1).toNat) ?_ ?_
 ·intro aj g1 eT dA;obtain⟨dW,cB,bH⟩:=eT;unfold LU;obtain⟨i,rfl⟩:=Int.eq_ofNat_of_zero_le dW;refine wi ?_ ?_<;>intro c2
  ·have hlt:i<l_.length:=om;have hp:=vs i hlt;have hp2:=vs (l_.getD i aD).aW.toNat;have hr3:=r3 i hlt;have hr4:=r3 (l_.getD i aD).aW.toNat;have hv1:=hvb i hlt;unfold zx at hv1;simp only[Int.toNat_natCast]at *;refine wm<|bL ?_ ?_<;>intro c3
   ·have jU:=c3;have c3:=eu c3;refine wn<|bL ?_ ?_<;>intro c4
    ·have sW:=c4;have c4:=eu c4;refine ay ?_;(rw[hmf];unfold Cn;rw[Co hlt (by unfold TM;rw[jU,sW];rfl)];rfl)
    have sW:=c4;have c4:=eu c4;refine wn<|dA _ ?_ ?_
    ·(refine⟨ob,ob,λ j hj=>?_⟩;by_cases q:j<i;(exact bH j q);(have e:j=i:=by omega);subst e;unfold TM;rw[jU,sW];rfl)
    exact ob
   have jU:=c3;have c3:=eu c3;refine aK (by(intro q1;have:=of_decide_eq_true q1;omega)) ?_;refine aK (by(intro q1 _;have:=of_decide_eq_true q1;omega)) ?_;refine aK (by(intro q1 _;have:=of_decide_eq_true q1;omega)) ?_;refine aK (by(intro q1 _;have:=of_decide_eq_true q1;have:=hr4 om;omega)) ?_;refine aK (by(intro q1 _;have:=of_decide_eq_true q1;omega)) ?_;refine aK (by(intro q1 _;have:=of_decide_eq_true q1;omega)) ?_;refine aK (by(intro q1 _;have:=of_decide_eq_true q1;unfold aC;omega)) ?_;refine aK (by(intro _;omega)) ?_;apply bL<;>intro c5
   ·have BM:=c5;have c5:=eu c5;refine ay ?_;(rw[hmf];unfold Cn;rw[Co hlt (by unfold TM zx;rw[jU];simp only[cond_false];rw[BM];rfl)];rfl)
   have BM:=c5;have c5:=eu c5;refine wn<|dA _ ?_ ?_
   ·(refine⟨ob,ob,λ j hj=>?_⟩;by_cases q:j<i;(exact bH j q);(have e:j=i:=by omega);subst e;unfold TM zx;rw[jU];exact BM)
   exact ob
  refine aG (yE om (λ x hx=>by have:=vx x hx;omega) hrk) λ v5 hv5=>?_;subst v5;refine ay ?_;(rw[hmf];unfold Cn;rw[PO λ j hj=>(by rw[bH j om];rfl)];rfl)
 (refine⟨ob,ob,λ j hj=>absurd hj (Nat.not_lt_zero j)⟩)
end Go.Proofs.YtccjmcmolnbiiaaGreatDoor.Sp
namespace Go.Proofs.YtccjmcmolnbiiaaGreatDoor
open Go.Ab
set_option maxRecDepth 100000
structure am6 (l:ajB):Prop where
 len:l.length<=32
 af:∀i,i<l.length->∀x∈(l.getD i dJ).eG,0<=x/\x<(i:Int)
structure ao1 (l:ajk):Prop where
 len:l.length<=16
 par:∀i,i<l.length -> -1<=(l.getD i dQ).aW/\(l.getD i dQ).aW<(i:Int)
structure at5 (n:Int) (g:cu):Prop where
 pl:0<g.bU.length
 fl:0<g.ak.length/\g.ak.length<=8
 pn:∀x∈g.bU,0<=x/\x<n
structure PW (p:bg) (u:mJ):Prop where
 g0:0<=u.dF
 gl:u.dF<p.av.length
 f0:0<=u.gL
 fl:u.gL<(p.av.getD u.dF.toNat aF).ak.length
def eH {P:Nat->Prop} {i:Int} (h:∀j:Nat,(j:Int)<i->P j) (h0:0<=i) (hp:P i.toNat):∀j:Nat,(j:Int)<i+1->P j:=λ j hj=>by
 by_cases q:(j:Int)<i
 ·exact h j q
 have e:j=i.toNat:=by omega
 rw[e];exact hp
structure ado (p:bg):Prop where
 pn:0<=p.bU/\p.bU<=64
 gl:p.av.length<=24
 gr:∀g∈p.av,at5 p.bU g
variable {α:Type}
def jT {P:α->Prop} {l:List α} (d:α) (h:∀j,j<l.length->P (l.getD j d)):∀x∈l,P x:=λ x hx=>by
 obtain⟨i,hi,rfl⟩:=List.mem_iff_getElem.1 hx;have:=h i hi;rwa [List.getD_eq_getElem?_getD,List.getElem?_eq_getElem hi]at this
def abf {s:ByteArray} {c:Bool} (h:((s.toList==({ data:=#[] }:ByteArray).toList)||c)=false):0<s.size:=by
 simp only[Bool.or_eq_false_iff]at h;rcases Nat.eq_zero_or_pos s.size with e | e
 ·exfalso;have e2:s=({ data:=#[] }:ByteArray):=by
   cases s with
   | mk d=>cases d with
    | mk l=>cases l with
     | nil=>rfl
     | cons a t=>simp[ByteArray.size]at e
  rw[e2]at h;simp at h
 exact e
def akF {s:ByteArray} {c d:Bool} (h:((((s.toList==({ data:=#[] }:ByteArray).toList)||(decide ((16:Int)<((s.size:Nat):Int))))||c)||d)=false):0<s.size/\s.size<=16:=by
 simp only[Bool.or_eq_false_iff]at h;refine⟨abf (c:=false) (by simp only[Bool.or_eq_false_iff];exact⟨h.1.1.1,ag7⟩),?_⟩;have:=of_decide_eq_false h.1.1.2;omega
def TP {dN:ag8} (h1:dN.length<=2000000):W (slices_Clone_int dN) (λ r=>r=dN):=by
 unfold slices_Clone_int;refine wn<|ay ?_;rfl
variable {s_:ag8}
def ng (h1:s_.length<=2000000):W (jF s_) (λ r=>r=s_):=by
 unfold jF;refine wn<|ay ?_;rfl
def uH {s_:ag9} (h1:s_.length<=2000000):W (lT s_) (λ r=>r=s_):=by
 unfold lT;refine wn<|ay ?_;rfl
def JL {s_:aiX} (h1:s_.length<=2000000):W (mZ s_) (λ r=>r=s_):=by
 unfold mZ;refine wn<|ay ?_;rfl
def Nn {s_:Nat} {dN:ag8} (h1:s_<=dN.length) (h2:s_<=2000000):W (og s_ dN) (λ r=>r=dN.take s_):=by
 unfold og;refine wn<|ay ?_;rfl
structure uW (b:aM):Prop where
 cl:b.bS.length<=2000000
 ch:agk b.bS
 su:b.bF.length<=2000000
 gr:∀g∈b.aT.av,g.bU.length<=2000000
 re:b.aZ.length<=2000000
 ra:∀g∈b.aZ,g.eG.length<=2000000
 dm:b.dz.length<=2000000
structure ap7 (b:aM):Prop where
 cl:eY b.bS=0
 su:Sp.eY b.bF=0
 pn:ado b.aT
 rs:am6 b.aZ
 dm:ao1 b.dz
structure agB (n:Nat) (x:bP):Prop where
 k0:0<=x.fE
 kl:x.fE<n
 l0:0<=x.Low
 lh:x.Low<=x.fV
 hi:x.fV<=4000000000
structure am7 (n:Nat) (x:bO):Prop where
 k0:0<=x.dG
 kl:x.dG<n
 l0:0<=x.Low
 lh:x.Low<=x.fV
 hi:x.fV<=5000
 ld:0<=x.Load/\x.Load<=10000
structure arT (b:aM) (n:aH):Prop where
 ll:n.bG.length<=32
 dl:n.d9.length<=32
 fl:n.ak.length<=10
 lm:∀x∈n.bG,agB b.bS.length x
 dw:∀x∈n.d9,am7 b.bF.length x
 rs:∀x∈n.aZ,0<=x/\x<b.aZ.length
 dm : -1<=n.fO/\n.fO<b.dz.length
structure Fj (l:aha):Prop where
 len:l.length<=2000000
 nd:∀n∈l,n.aZ.length<=2000000/\n.aY.length<=2000000
structure Ec (g:aO):Prop where
 st:g.bM.length<=2000000
 on:g.dB.On.length<=2000000
 lv:g.dB.dL.length<=2000000
 us:g.dK.length<=2000000
 re:g.bV.length<=2000000
 po:g.dH.length<=2000000
structure acs (s:iB):Prop where
 sz:uW s.bI
 val:ap7 s.bI
 nl:s.dO.length<=12
 nd:∀n∈s.dO,arT s.bI n
 nsz:Fj s.dO
 ml:s.aX.length<=10000
 gs:Ec s.bq
structure aiq (s:iB):Prop where
 mem:∀m∈s.aX,0<=m/\m<s.dO.length
 st:s.bq.bM.length=s.bI.bS.length
 on:s.bq.dB.On.length=s.bI.bF.length
 lv:s.bq.dB.dL.length=s.bI.bF.length
 re:s.bq.bV.length=s.bI.aZ.length
 po:s.bq.dH.length=s.bI.dz.length
def iK {v_:Int} (h1:s_.length<=2000000):slices_Contains_int s_ v_ (s_.contains v_):=aa4 h1
def qj {x_:Int} {Dx:Int} {oK:Int}:W (qD x_ Dx oK) (λ r=>r=(decide (Dx<=x_)&&decide (x_<=oK))):=by
 unfold qD;refine ay ?_;rfl
def Yk {r_:bZ} (h1:r_.On.length<=2000000) (h2:r_.dL.length<=2000000):W (Jf r_) (λ r=>r=r_):=by
 unfold Jf;refine aG (uH ob) λ v1 hv1=>?_;subst v1;refine aG (ng ob) λ v2 hv2=>?_;subst v2;refine ay ?_;rfl
def agC {g_:aO} (h1:Ec g_):W (QM g_) (λ r=>r=g_):=by
 obtain⟨z1,z2,z3,z4,z5,z6⟩:=h1;unfold QM;refine aG (ng ob) λ v1 hv1=>?_;subst v1;refine aG (Yk ob ob) λ v2 hv2=>?_;subst v2;refine aG (JL ob) λ v3 hv3=>?_;subst v3;refine aG (uH ob) λ v4 hv4=>?_;subst v4;refine aG (uH ob) λ v5 hv5=>?_;subst v5;refine ay ?_;rfl
def zU (f:qR->Option Int) (k k':qR) (n:Int):Dp (Wq f k n) k'=if k'=k then n else Dp f k':=by
 unfold Dp Wq;split<;>rfl
def am8 {l:ah3} {s:ag8} (h:(vX l s).2=0):eY l=0/\mF l s=true/\(vX l s).1=gV l s:=by
 unfold vX at h ⊢;cases h1:eY l != 0 with
 | true=>rw[h1]at h;simp at h1;exact absurd h h1
 | false=>
  cases h2:mF l s with
  | false=>rw[h1,h2]at h;cases h
  | true=>exact⟨by simpa using h1,rfl,rfl⟩
def am9 {l:ah3} {s:ag8} (h1:eY l=0) (h2:mF l s=true) (j:Nat) (hj:j<l.length):1<=((gV l s).getD j dZ).jE/\((gV l s).getD j dZ).jE<=16777216:=by
 have:=mR (QX (vE h1) h2 j hj).2.2.1;exact⟨this.2.2.1,this.2.2.2.1⟩
def K6 {OH:Int} {Ca:ah3} {vR:ahf} {aaP:Int} {aaQ:ajZ} {aaR:ajB} {aaS:ajk} {Ib:aha} {aaT:ag8} {aaU:ag8} {aaV:ag9} {OI:ag8} {OJ:aiX} {EK:ag9} {EL:ag9} {OL:Bool} (h1:0<=OH) (h2:OH<EK.length):W (lD OH Ca vR aaP aaQ aaR aaS Ib aaT aaU aaV OI OJ EK EL OL) (λ r=>r=!(EK.getD OH.toNat false)):=by
 unfold lD;refine wn<|ay ?_;rfl
def Ct {Cc:ah3} {CP:ahf} {CQ:Int} {Ti:ajZ} {Tj:ajB} {Tk:ajk} {Nl:aha} {Tm:ag8} {Tn:ag8} {Tq:ag9} {vS:ag8} {vT:aiX} {tN:ag9} {tO:ag9} {vU:Bool} (h1:s_.length<=2000000) (h2:∀x∈s_,0<=x/\x<tN.length):W (mM s_ Cc CP CQ Ti Tj Tk Nl Tm Tn Tq vS vT tN tO vU) (λ r=>r=s_.any (λ x=>!(tN.getD x.toNat false))):=
 yV (Sl (U3 (p:=λ x=>lD x Cc CP CQ Ti Tj Tk Nl Tm Tn Tq vS vT tN tO vU) (P:=λ x=>!(tN.getD x.toNat false)) (λ x hx=>mg (K6 (h2 x hx).1 (h2 x hx).2)) om) (qI _ _))
def JM {m_:Int} {Ca:ah3} {vR:ahf} {aaP:Int} {aaQ:ajZ} {aaR:ajB} {aaS:ajk} {Ib:aha} {aaT:ag8} {aaU:ag8} {aaV:ag9} {OI:ag8} {OJ:aiX} {EK:ag9} {EL:ag9} {OL:Bool} (h1:0<=m_) (h2:m_<Ib.length) (h3:(Ib.getD m_.toNat aU).fO<EL.length):W (kH m_ Ca vR aaP aaQ aaR aaS Ib aaT aaU aaV OI OJ EK EL OL) (λ r=>r=((decide ((0:Int)<=(Ib.getD m_.toNat aU).fO))&&(!(EL.getD (((Ib.getD m_.toNat aU).fO).toNat) false)))):=by
 unfold kH;refine wm<|ay ?_;rfl
def Cu {Cc:ah3} {CP:ahf} {CQ:Int} {Ti:ajZ} {Tj:ajB} {Tk:ajk} {Nl:aha} {Tm:ag8} {Tn:ag8} {Tq:ag9} {vS:ag8} {vT:aiX} {tN:ag9} {tO:ag9} {vU:Bool} (h1:s_.length<=2000000) (h2:∀x∈s_,0<=x/\x<Nl.length/\(Nl.getD x.toNat aU).fO<tO.length):W (mO s_ Cc CP CQ Ti Tj Tk Nl Tm Tn Tq vS vT tN tO vU) (λ r=>r=s_.any (λ x=>((decide ((0:Int)<=(Nl.getD x.toNat aU).fO))&&(!(tO.getD (((Nl.getD x.toNat aU).fO).toNat) false))))):=
 yV (Sl (U3 (p:=λ x=>kH x Cc CP CQ Ti Tj Tk Nl Tm Tn Tq vS vT tN tO vU) (P:=λ x=>((decide ((0:Int)<=(Nl.getD x.toNat aU).fO))&&(!(tO.getD (((Nl.getD x.toNat aU).fO).toNat) false)))) (λ x hx=>mg (JM (h2 x hx).1 (h2 x hx).2.1 (h2 x hx).2.2)) om) (qI _ _))
def Eo (d:α) (l:List α) (n j:Nat) (h:j<n):(l.take n).getD j d=l.getD j d:=by
 rw[List.getD_eq_getElem?_getD,List.getD_eq_getElem?_getD,List.getElem?_take_of_lt h]
deriving instance DecidableEq for mJ,aR,aO
def Ed [DecidableEq α] {a b:List α} (h:¬ (a.length:Int)=b.length):(a==b)=false:=by
 simp only[beq_eq_false_iff_ne,ne_eq];intro e;rw[e]at h;exact h rfl
def ZI [DecidableEq α] {x y:α} {a b:List α} (h:¬ x=y):(x::a==y::b)=false:=by
 simp only[beq_eq_false_iff_ne,ne_eq,List.cons.injEq];exact λ e=>h e.1
def ZJ [DecidableEq α] {x y:α} {a b:List α} (h:x=y):(x::a==y::b)=(a==b):=by
 subst h;rw[Bool.eq_iff_iff];simp
def ao2 {x y:aR} (h:(!((x.iW==y.iW)&&((x.l7.dF==y.l7.dF)&&((x.l7.gL==y.l7.gL)&&true))))=false):x=y:=by
 obtain⟨d,g,f⟩:=x;obtain⟨d',g',f'⟩:=y;simp at h;obtain⟨h1,h2,h3⟩:=h;subst h1 h2 h3;rfl
def ana (a b:aO):Bool:=((((a.bM==b.bM)&&((a.dB.On==b.dB.On)&&(a.dB.dL==b.dB.dL)))&&(a.dK==b.dK))&&(a.bV==b.bV))&&(a.dH==b.dH)
def air (a:aO):ana a a=true:=by
 unfold ana;simp
def Vj {a_:ag8} {b_:ag8} (h1:a_.length<=2000000):W (E5 a_ b_) (λ r=>r=(a_==b_)):=by
 unfold E5;refine wi ?_ ?_<;>intro c1
 ·exact ay ((Ed c1).symm)
 refine bK (λ(g1:Int)=>0<=g1/\g1<=a_.length/\(a_==b_)=(a_.drop g1.toNat==b_.drop g1.toNat)) (λ(g1:Int)=>(a_.length - g1).toNat) ?_ ?_
 ·intro aj g1 eT dA;obtain⟨dW,cB,bH⟩:=eT;unfold Sk;refine wi ?_ ?_<;>intro c2
  ·rw[drop_cons 0 (show g1.toNat<a_.length by omega),drop_cons 0 (show g1.toNat<b_.length by omega)]at bH;refine wm<|wi ?_ ?_<;>intro c3
   ·refine ay ?_;(rw[bH,ZI c3])
   refine wn<|dA _ ?_ ?_
   ·(refine⟨ob,ob,?_⟩;rw[bH,ZJ c3,show(g1+1).toNat=g1.toNat+1 by omega])
   exact ob
  refine ay ?_;(rw[bH,List.drop_eq_nil_of_le om,List.drop_eq_nil_of_le om];rfl)
 (refine⟨ob,ob,rfl⟩)
def Ih {a_:ag9} {b_:ag9} (h1:a_.length<=2000000):W (wN a_ b_) (λ r=>r=(a_==b_)):=by
 unfold wN;refine wi ?_ ?_<;>intro c1
 ·exact ay ((Ed c1).symm)
 refine bK (λ(g1:Int)=>0<=g1/\g1<=a_.length/\(a_==b_)=(a_.drop g1.toNat==b_.drop g1.toNat)) (λ(g1:Int)=>(a_.length - g1).toNat) ?_ ?_
 ·intro aj g1 eT dA;obtain⟨dW,cB,bH⟩:=eT;unfold Pw;refine wi ?_ ?_<;>intro c2
  ·rw[drop_cons false (show g1.toNat<a_.length by omega),drop_cons false (show g1.toNat<b_.length by omega)]at bH;refine wm<|bL ?_ ?_<;>intro c3
   ·have jU:=c3;have c3:=eu c3;refine ay ?_;(rw[bH,ZI (by simpa using jU)])
   have jU:=c3;have c3:=eu c3;refine wn<|dA _ ?_ ?_
   ·(refine⟨ob,ob,?_⟩;rw[bH,ZJ (by simpa using jU),show(g1+1).toNat=g1.toNat+1 by omega])
   exact ob
  refine ay ?_;(rw[bH,List.drop_eq_nil_of_le om,List.drop_eq_nil_of_le om];rfl)
 (refine⟨ob,ob,rfl⟩)
def Vk {a_:bZ} {b_:bZ} (h1:a_.On.length<=2000000) (h2:a_.dL.length<=2000000):W (vC a_ b_) (λ r=>r=((a_.On==b_.On)&&(a_.dL==b_.dL))):=by
 unfold vC;refine aG (Ih ob) λ v1 hv1=>?_;subst v1;refine aG (ig λ hc=>mg (Vj ob)) λ v2 hv2=>?_;subst v2;refine ay ?_;rfl
def YI {a_:aiX} {b_:aiX} (h1:a_.length<=2000000):W (Au a_ b_) (λ r=>r=(a_==b_)):=by
 unfold Au;refine wi ?_ ?_<;>intro c1
 ·exact ay ((Ed c1).symm)
 refine bK (λ(g1:Int)=>0<=g1/\g1<=a_.length/\(a_==b_)=(a_.drop g1.toNat==b_.drop g1.toNat)) (λ(g1:Int)=>(a_.length - g1).toNat) ?_ ?_
 ·intro aj g1 eT dA;obtain⟨dW,cB,bH⟩:=eT;unfold JE;refine wi ?_ ?_<;>intro c2
  ·rw[drop_cons bE (show g1.toNat<a_.length by omega),drop_cons bE (show g1.toNat<b_.length by omega)]at bH;refine wm<|bL ?_ ?_<;>intro c3
   ·have jU:=c3;have c3:=eu c3;refine ay ?_;(rw[bH,ZI (λ e=>by rw[e]at jU;simp at jU)])
   have jU:=c3;have c3:=eu c3;refine wn<|dA _ ?_ ?_
   ·(refine⟨ob,ob,?_⟩;rw[bH,ZJ (ao2 jU),show(g1+1).toNat=g1.toNat+1 by omega])
   exact ob
  refine ay ?_;(rw[bH,List.drop_eq_nil_of_le om,List.drop_eq_nil_of_le om];rfl)
 (refine⟨ob,ob,rfl⟩)
def aeA {a_:aO} {b_:aO} (h1:Ec a_):W (sQ a_ b_) (λ r=>r=ana a_ b_):=by
 obtain⟨z1,z2,z3,z4,z5,z6⟩:=h1;unfold sQ;refine aG (Vj ob) λ v1 hv1=>?_;subst v1;refine aG (ig λ hc=>mg (Vk ob ob)) λ v2 hv2=>?_;subst v2;refine aG (ig λ hc=>mg (YI ob)) λ v3 hv3=>?_;subst v3;refine aG (ig λ hc=>mg (Ih ob)) λ v4 hv4=>?_;subst v4;refine aG (ig λ hc=>mg (Ih ob)) λ v5 hv5=>?_;subst v5;refine ay ?_;rfl
end Go.Proofs.YtccjmcmolnbiiaaGreatDoor
namespace Go.Proofs.YtccjmcmolnbiiaaGreatDoor.Sp
open Go.Ab
set_option maxRecDepth 100000
variable {l:ahf} {d:ai8}
def anb (h:((eY l != 0)||decide (32<(d.length:Int)))=true):qZ l d=false:=by
 unfold qZ;by_cases h1:eY l=0
 ·rw[h1]at h;have:32<(d.length:Int):=by simpa using h
  rw[decide_eq_false (p:=(d.length:Int)<=32) om];simp
 have:(eY l==0)=false:=by simpa using h1
 rw[this];rfl
def akG (h:((eY l != 0)||decide (32<(d.length:Int)))=false):qZ l d=!(d.any (acp l.length)):=by
 have h1:eY l=0/\(d.length:Int)<=32:=by
  simp at h;omega
 unfold qZ;rw[h1.1,decide_eq_true h1.2];rfl
variable {i:Nat}
def ao3 {b:ag9} {j:Nat} {a:Bool} {g:Int} (hi:i<b.length) (hj:j<d.length) (hg:g=(i:Int)):(b.set i (b.getD i false||a||atD (d.take j) i)).set i ((b.set i (b.getD i false||a||atD (d.take j) i)).getD i false||((d.getD j dV).dG==g))=b.set i (b.getD i false||a||atD (d.take (j+1)) i):=by
 subst hg;have hsn:atD (d.take (j+1)) i=(atD (d.take j) i||((d.getD j dV).dG==(i:Int))):=by
  unfold atD;rw[iq dV hj,List.any_append];simp
 rw[iD,if_pos ⟨rfl,hi⟩,List.set_set,hsn];simp only[Bool.or_assoc]
def ql {x_:Int} {wU:Int} {yT:Int}:W (qF x_ wU yT) (λ r=>r=dU x_ wU yT):=by
 unfold qF;refine ay ?_;rfl
variable {l_:ahf}
def Az (h1:l_.length<=2000000):W (sM l_) (λ r=>r=eY l_):=by
 unfold sM;apply bL<;>intro c1
 ·have gW:=c1;have c1:=eu c1;refine ay ?_;(unfold eY;rw[gW];rfl)
 have gW:=c1;have c1:=eu c1;refine bK (λ(g1:Int)=>0<=g1/\g1<=l_.length/\(∀j:Nat,(j:Int)<g1->Va (l_.getD j aD)=false)) (λ(g1:Int)=>(l_.length - g1).toNat) ?_ ?_
 ·intro aj g1 eT dA;obtain⟨dW,cB,bH⟩:=eT;unfold OT;refine wi ?_ ?_<;>intro c2
  ·refine wn<|bL ?_ ?_<;>intro c3
   ·have jU:=c3;have c3:=eu c3;refine ay ?_;(unfold eY;rw[yx (p:=Va) aD (show g1.toNat<l_.length by omega) (show Va _=true from jU),Bool.or_true];rfl)
   have jU:=c3;have c3:=eu c3;refine wn<|dA _ ?_ ?_
   ·(refine⟨ob,ob,eH bH dW jU⟩)
   exact ob
  have hbig:=any_none (p:=Va) aD (λ j hj=>bH j om);have hb3:(decide (16<(l_.length:Int))||l_.any Va)=false:=(by rw[gW,hbig];rfl);refine bK (λ(g2:Int)=>0<=g2/\g2<=l_.length/\WX g2.toNat (l_.drop g2.toNat)=WX 0 l_) (λ(g2:Int)=>(l_.length - g2).toNat) ?_ ?_
  ·intro dR g2 nk qJ;obtain⟨rG,jL,mX⟩:=nk;unfold Mk;obtain⟨i,rfl⟩:=Int.eq_ofNat_of_zero_le rG;refine wi ?_ ?_<;>intro c4
   ·have hlt:i<l_.length:=om;have hb:=bH i om;have hbl:(l_.getD i aD).bY.length<=16:=(by unfold Va at hb;have:=of_decide_eq_false hb;omega);rw[show((i:Int).toNat)=i from rfl,drop_cons aD hlt,WX]at mX;simp only[Int.toNat_natCast]at *;refine wm<|aG (ql) λ v13 U5=>?_;subst v13;refine aG (ig λ hc=>mg (ql)) λ v14 acf=>?_;subst v14;refine aG (ig λ hc=>mg (ql)) λ v15 Rm=>?_;subst v15;apply bL<;>intro c5
    ·have BM:=c5;have c5:=eu c5;rw[ajl]at BM;refine ay ?_;(unfold eY;rw[hb3,<- mX];unfold zS;rw[show Yj (l_.getD i aD) i=true from BM];rfl)
    have BM:=c5;have c5:=eu c5;rw[ajl]at BM;refine bK (λ(g5:Int)=>0<=g5/\g5<=(l_.getD i aD).bY.length/\Rq (if g5.toNat=0 then 0 else(l_.getD i aD).bY.getD (g5.toNat - 1) 0) ((l_.getD i aD).bY.drop g5.toNat)=Rq 0 (l_.getD i aD).bY) (λ(g5:Int)=>((l_.getD i aD).bY.length - g5).toNat) ?_ ?_
    ·intro kr g5 Xc Xd;obtain⟨Sr,Fp,MZ⟩:=Xc;unfold Mj;obtain⟨k,rfl⟩:=Int.eq_ofNat_of_zero_le Sr;simp only[Int.toNat_natCast]at *;refine wi ?_ ?_<;>intro c6
     ·have hlk:k<(l_.getD i aD).bY.length:=om;have hst:=ags hlk rfl;rw[hst]at MZ;have e1:(((k:Int) - 1).toNat)=k - 1:=om;simp only[e1,Int.toNat_natCast]at *;refine wn<|aG (ql) λ v18 arU=>?_;subst v18;refine wm<|bL ?_ ?_<;>intro c7
      ·have Yl:=c7;have c7:=eu c7;refine ay ?_;(unfold eY;rw[hb3,<- mX];unfold zS;rw[show Yj (l_.getD i aD) i=false from BM,<- MZ,Yl];rfl)
      have Yl:=c7;have c7:=eu c7;refine wn<|Xd _ ?_ ?_
      ·(refine⟨ob,ob,?_⟩;rw[<- MZ,Yl];rw[show((k:Int)+1).toNat=k+1 by omega,if_neg om];rfl)
      exact ob
     refine wn<|qJ _ ?_ ?_
     ·(refine⟨ob,ob,?_⟩;rw[<- mX];unfold zS;rw[show Yj (l_.getD i aD) i=false from BM,<- MZ,show k=(l_.getD i aD).bY.length by omega,List.drop_length,show((i:Int)+1).toNat=i+1 by omega];rfl)
     exact ob
    (refine⟨ob,ob,rfl⟩)
   refine ay ?_;(unfold eY;rw[hb3,<- mX,show((i:Int).toNat)=i from rfl,show i=l_.length by omega,List.drop_length];rfl)
  (refine⟨ob,ob,rfl⟩)
 (refine⟨ob,ob,λ j hj=>by omega⟩)
variable {d_:ai8}
def Sv (h1:l_.length<=2000000) (h2:d_.length<=2000000):W (Bo l_ d_) (λ r=>r=qZ l_ d_):=by
 unfold Bo;refine aG (Az ob) λ v1 hv1=>?_;subst v1;apply bL<;>intro c1
 ·have gW:=c1;have c1:=eu c1;exact ay ((anb gW).symm)
 have gW:=c1;have c1:=eu c1;have hdf:=akG gW;refine bK (λ(g1:Int)=>0<=g1/\g1<=d_.length/\(d_.drop g1.toNat).any (acp l_.length)=d_.any (acp l_.length)) (λ(g1:Int)=>(d_.length - g1).toNat) ?_ ?_
 ·intro aj g1 eT dA;obtain⟨dW,cB,bH⟩:=eT;unfold O9;refine wi ?_ ?_<;>intro c2
  ·have hlt:g1.toNat<d_.length:=om;rw[drop_cons dV hlt,List.any_cons]at bH;refine wm<|aG (ql) λ v8 xk=>?_;subst v8;refine aG (ig λ hc=>mg (ql)) λ v9 Kk=>?_;subst v9;refine aG (ig λ hc=>mg (ql)) λ v10 JN=>?_;subst v10;apply bL<;>intro c3
   ·have jU:=c3;have c3:=eu c3;have hb:=(agt l_.length (d_.getD g1.toNat dV)).symm.trans jU;refine ay ?_;(rw[hdf,<- bH,hb];rfl)
   have jU:=c3;have c3:=eu c3;have hb:=(agt l_.length (d_.getD g1.toNat dV)).symm.trans jU;refine wn<|dA _ ?_ ?_
   ·(refine⟨ob,ob,?_⟩;rw[<- bH,hb,show(g1+1).toNat=g1.toNat+1 by omega];rfl)
   exact ob
  refine ay ?_;(rw[hdf,<- bH,show g1.toNat=d_.length by omega,List.drop_length];rfl)
 (refine⟨ob,ob,rfl⟩)
def acu (h1:l_.length<=2000000) (h2:d_.length<=2000000):W (GJ l_ d_) (λ r=>r=sZ l_ d_):=by
 unfold GJ;refine aG (Az ob) λ v1 hv1=>?_;subst v1;apply bL<;>intro c1
 ·have gW:=c1;have c1:=eu c1;refine ay ?_;(unfold sZ;rw[gW];rfl)
 have gW:=c1;have c1:=eu c1;refine aG (Sv ob ob) λ v2 hv2=>?_;subst v2;apply bL<;>intro c2
 ·have lM:=c2;have c2:=eu c2;refine ay ?_;(unfold sZ;rw[gW,lM];rfl)
 have lM:=c2;have c2:=eu c2;refine ay ?_;(unfold sZ;rw[gW,lM];rfl)
def Vl (h1:Vld l_ d_):W (ET l_ d_) (λ r=>r=jK l_ d_):=by
 have hv:=h1;obtain⟨vl,vd,vs,_,vx⟩:=h1;unfold ET;refine wm<|bK (λ(g1:Int×ag9) => -1<=g1.1/\g1.1<l_.length/\Sq l_ d_ (l_.length - 1 - g1.1).toNat g1.2) (λ(g1:Int×ag9)=>(g1.1+1).toNat) ?_ ?_
 ·intro aj g1 eT dA;obtain⟨dW,cB,bH⟩:=eT;unfold Sd;have hbl:=bH.len;refine wi ?_ ?_<;>intro c1
  ·have hst:=bH.step hv (show(l_.length - 1 - g1.1).toNat<l_.length by omega);have hp:=vs g1.1.toNat om;rw[show l_.length - 1 - ((l_.length:Int) - 1 - g1.1).toNat=g1.1.toNat by omega,show((l_.length:Int) - 1 - g1.1).toNat+1=((l_.length:Int) - 1 - (g1.1 - 1)).toNat by omega]at hst;refine wm<|wn ?_;refine bK (λ(g4:Int×ag9)=>0<=g4.1/\g4.1<=d_.length/\g4.2=g1.2.set g1.1.toNat (g1.2.getD g1.1.toNat false||(l_.getD g1.1.toNat aD).gF||atD (d_.take g4.1.toNat) g1.1.toNat)) (λ(g4:Int×ag9)=>(d_.length - g4.1).toNat) ?_ ?_
   ·intro jA g4 K7 JO;obtain⟨G9,mG,Vm⟩:=K7;unfold Sc;have axL:g4.2.length=l_.length:=(by rw[Vm,List.length_set,hbl]);refine wi ?_ ?_<;>intro c2
    ·refine wm<|wm ?_;refine JO _ ?_ ?_
     ·(refine⟨ob,ob,?_⟩;dsimp only;rw[show(g4.1+1).toNat=g4.1.toNat+1 by omega,Vm];exact ao3 om om om)
     exact ob
    have agD:g4.2=g1.2.set g1.1.toNat (g1.2.getD g1.1.toNat false||(l_.getD g1.1.toNat aD).gF||atD d_ g1.1.toNat):=(by rw[Vm,show g4.1.toNat=d_.length by omega,List.take_length]);have hgi:g4.2.getD g1.1.toNat false=(g1.2.getD g1.1.toNat false||(l_.getD g1.1.toNat aD).gF||atD d_ g1.1.toNat):=(by rw[agD,iD,if_pos ⟨rfl,om⟩]);refine wm<|bL ?_ ?_<;>intro c3
    ·have jU:=c3;have c3:=eu c3;have c3b:=jU;rw[hgi]at c3b;refine wm<|dA _ ?_ ?_
     ·(refine⟨ob,ob,?_⟩;dsimp only;unfold Vf at hst;rw[c3b]at hst;rw[agD];exact hst)
     exact ob
    have jU:=c3;have c3:=eu c3;have c3b:=jU;rw[hgi]at c3b;refine wn<|dA _ ?_ ?_
    ·(refine⟨ob,ob,?_⟩;dsimp only;unfold Vf at hst;rw[c3b]at hst;rw[agD];exact hst)
    exact ob
   (refine⟨ob,ob,?_⟩;dsimp only;rw[show(0:Int).toNat=0 from rfl,List.take_zero,show atD [] g1.1.toNat=false from rfl,Bool.or_false])
  exact ay (Sq.done (by rw[show l_.length=((l_.length:Int) - 1 - g1.1).toNat by omega];exact bH))
 (refine⟨ob,ob,?_⟩;dsimp only;rw[show((l_.length:Int) - 1 - (l_.length - 1)).toNat=0 by omega];exact Sq.start hv)
def acv {s_:aI} {v_:Int} (h1:s_.bY.length<=2000000):W (GK s_ v_) (λ r=>r=(bif decide (lvN s_.bY v_<s_.bY.length)then(lvN s_.bY v_:Int)else -1)):=by
 unfold GK;refine bK (λ(g1:Int)=>0<=g1/\g1<=s_.bY.length/\(∀j:Nat,(j:Int)<g1->s_.bY.getD j 0<v_)) (λ(g1:Int)=>(s_.bY.length - g1).toNat) ?_ ?_
 ·intro aj g1 eT dA;obtain⟨dW,cB,bH⟩:=eT;unfold Pb;refine wi ?_ ?_<;>intro c1
  ·refine wn<|wi ?_ ?_<;>intro c2
   ·refine ay ?_;(rw[<- aio (k:=g1.toNat) om (λ j hj=>bH j om) (λ _=>c2),decide_eq_true om];simp only[cond_true];omega)
   refine wn<|dA _ ?_ ?_
   ·(refine⟨ob,ob,eH bH dW c2⟩)
   exact ob
  refine ay ?_;(rw[<- aio (k:=g1.toNat) om (λ j hj=>bH j om) (λ h=>by omega),decide_eq_false om];rfl)
 (refine⟨ob,ob,λ j hj=>by omega⟩)
def AA {r_:bZ} {k_:Int} (h1:0<=k_) (h2:k_<l_.length) (h3:Rok l_ r_):W (sO l_ r_ k_) (λ r=>r=zx l_ r_ k_.toNat):=by
 obtain⟨r1,r2,r3⟩:=h3;have r4:=r3 k_.toNat om;unfold sO;refine wm<|wn ?_;refine ay ?_;rfl
variable {r:bZ} {u:ag9} {ld:ag8}
def axM (h:(u.getD i false&&!r.On.getD i false)=true):TM l r u ld i=true:=by
 simp only[Bool.and_eq_true]at h;unfold TM;rw[h.1,h.2];rfl
def axN (h:(u.getD i false&&!r.On.getD i false)=false) (h2:(!r.On.getD i false)=true):TM l r u ld i=false:=by
 rw[h2,Bool.and_true]at h;unfold TM;rw[h2,h];rfl
def at6 (h2:(!r.On.getD i false)=false):TM l r u ld i=(decide ((l.getD i aD).iP<ld.getD i 0)||(decide (0<=(l.getD i aD).aW)&&(!r.On.getD (l.getD i aD).aW.toNat false||decide (zx l r (l.getD i aD).aW.toNat<zx l r i+(l.getD i aD).gU)))):=by
 unfold TM;rw[h2,Bool.or_comm];rfl
def agE (hi:i<l.length) (h:TM l r (jK l d) (Fe l d) i=true):Cn l r d=false:=by
 unfold Cn;rw[Co hi (by rw[h];rfl)];rfl
def agF (h:∀i,i<l.length->TM l r (jK l d) (Fe l d) i=false):Cn l r d=!(d.any (aex l r)):=by
 unfold Cn;rw[PO λ j hj=>(by rw[h j hj];rfl)];rfl
variable {s:DS}
def adp (h:(!u.getD i false)=true):JK l u i s=false:=by
 unfold JK;rw[show u.getD i false=false by simpa using h];rfl
def anc {a n:Nat} (h:decide ((bif decide (a<n)then(a:Int)else -1)<0)=true):decide (a<n)=false:=by
 cases hd:decide (a<n)with
 | false=>rfl
 | true=>rw[hd]at h;have:=of_decide_eq_true h;simp only[cond_true]at this;omega
def ane {a n:Nat} (h:decide ((bif decide (a<n)then(a:Int)else -1)<0)=false):decide (a<n)=true:=by
 cases hd:decide (a<n)with
 | true=>rfl
 | false=>rw[hd]at h;cases h
def ais (h0:(sZ l d != 0)=false) (e:(s,(i:Int))=Vh l d):(WL,9)=mV l d:=by
 unfold mV;rw[h0,<- e,decide_eq_true (show(0:Int)<=(s,(i:Int)).2 by dsimp only;omega)];rfl
def adq (h0:(sZ l d != 0)=false) (hdr:qZ l d=true) (e:(s,(-1:Int))=Vh l d) (hr:Rok l ⟨jK l d,s.lv⟩):mV l d=bif !Cn l ⟨jK l d,s.lv⟩ d then(WL,9)else(⟨jK l d,s.lv⟩,0):=by
 unfold mV;have hmf:gD l ⟨jK l d,s.lv⟩ d=Cn l ⟨jK l d,s.lv⟩ d:=by
  unfold gD;rw[QY.2 ⟨agy hdr,hr⟩,hdr];rfl
 rw[h0,<- e];simp only[show decide ((0:Int) <= -1)=false from rfl,Bool.false_or,hmf,cond_false]
def anf (hu:u.getD i false=true) (hi:i<s.lv.length):zx l ⟨u,(Fg l u i s).lv⟩ i+(l.getD i aD).gU=Cq l i s:=by
 unfold zx Cq Fg;rw[hu];simp only[Bool.not_true,cond_false];rw[iD,if_pos ⟨rfl,hi⟩];rfl
def agG (hu:u.getD i false=true) (hp:decide (0<=(l.getD i aD).aW)=true):(Cr s.a).set (l.getD i aD).aW.toNat (if Cq l i s > (Cr s.a).getD (l.getD i aD).aW.toNat 0 then Cq l i s else(Cr s.a).getD (l.getD i aD).aW.toNat 0)=Cr (Fg l u i s).a:=by
 unfold Fg;rw[hu,hp,Fh];simp only[Bool.not_true,cond_false,Bool.true_and];by_cases h:(s.a.getD (l.getD i aD).aW.toNat aa8).TK<Cq l i s
 ·rw[decide_eq_true h,cond_true,agz,if_pos h]
 rw[decide_eq_false h,cond_false,if_neg h,agA _ _ _ (Fh _ _).symm]
def akH (hp:decide (0<=(l.getD i aD).aW)=false):Cr s.a=Cr (Fg l u i s).a:=by
 unfold Fg;rw[hp];cases u.getD i false<;>rfl
def agH (h:(!u.getD i false)=true):Fg l u i s=s:=by
 unfold Fg;rw[h];rfl
def acw (h1:Vld l_ d_):W (GL l_ d_) (λ r=>r=Fe l_ d_):=by
 have hv:=h1;obtain⟨vl,vd,vs,_,vx⟩:=h1;unfold GL;refine wm<|bK (λ(g1:Int×ag8) => -1<=g1.1/\g1.1<l_.length/\MX l_ d_ (l_.length - 1 - g1.1).toNat g1.2) (λ(g1:Int×ag8)=>(g1.1+1).toNat) ?_ ?_
 ·intro aj g1 eT dA;obtain⟨dW,cB,bH⟩:=eT;unfold Pe;have hbl:=bH.len;have hsm:=bH.small hv om;refine wi ?_ ?_<;>intro c1
  ·have hst:=bH.step hv (show(l_.length - 1 - g1.1).toNat<l_.length by omega);have hp:=vs g1.1.toNat om;rw[show l_.length - 1 - ((l_.length:Int) - 1 - g1.1).toNat=g1.1.toNat by omega,show((l_.length:Int) - 1 - g1.1).toNat+1=((l_.length:Int) - 1 - (g1.1 - 1)).toNat by omega]at hst;refine bK (λ(g4:Int×ag8)=>0<=g4.1/\g4.1<=d_.length/\g4.2=g1.2.set g1.1.toNat (g1.2.getD g1.1.toNat 0+PS (d_.take g4.1.toNat) g1.1.toNat)) (λ(g4:Int×ag8)=>(d_.length - g4.1).toNat) ?_ ?_
   ·intro jA g4 K7 JO;obtain⟨G9,mG,Vm⟩:=K7;unfold Pd;have axL:g4.2.length=l_.length:=(by rw[Vm,List.length_set,hbl]);refine wi ?_ ?_<;>intro c2
    ·have hx:=vx _ (jI dV (show g4.1.toNat<d_.length by omega));have hdb:=Vg (d:=d_) (λ x hx=>by have:=vx x hx;omega) g1.1.toNat g4.1.toNat om;have hbi:=hsm g1.1.toNat;have hgi:g4.2.getD g1.1.toNat 0=g1.2.getD g1.1.toNat 0+PS (d_.take g4.1.toNat) g1.1.toNat:=(by rw[Vm,iD,if_pos ⟨rfl,om⟩]);refine wn<|bL ?_ ?_<;>intro c3
     ·have jU:=c3;have c3:=eu c3;refine wm<|wm ?_;refine JO _ ?_ ?_
      ·(refine⟨ob,ob,?_⟩;dsimp only;rw[show(g4.1+1).toNat=g4.1.toNat+1 by omega,hgi,Vm,List.set_set,WY om,show((g1.1.toNat:Int))=g1.1 by omega,jU];simp only[cond_true];rw[Int.add_assoc])
      exact ob
     have jU:=c3;have c3:=eu c3;refine wn<|JO _ ?_ ?_
     ·(refine⟨ob,ob,?_⟩;dsimp only;rw[show(g4.1+1).toNat=g4.1.toNat+1 by omega,Vm,WY om,show((g1.1.toNat:Int))=g1.1 by omega,jU];rfl)
     exact ob
    have hdb:=Vg (d:=d_) (λ x hx=>by have:=vx x hx;omega) g1.1.toNat d_.length (Nat.le_refl _);rw[List.take_length]at hdb;have agD:g4.2=g1.2.set g1.1.toNat (g1.2.getD g1.1.toNat 0+PS d_ g1.1.toNat):=(by rw[Vm,show g4.1.toNat=d_.length by omega,List.take_length]);have hgi:g4.2.getD g1.1.toNat 0=g1.2.getD g1.1.toNat 0+PS d_ g1.1.toNat:=(by rw[agD,iD,if_pos ⟨rfl,om⟩]);have hbi:=hsm g1.1.toNat;refine wn<|bL ?_ ?_<;>intro c4
    ·have sW:=c4;have c4:=eu c4;have hgp:g4.2.getD (l_.getD g1.1.toNat aD).aW.toNat 0=g1.2.getD (l_.getD g1.1.toNat aD).aW.toNat 0:=(by rw[agD,iD,if_neg om]);have hbp:=hsm (l_.getD g1.1.toNat aD).aW.toNat;refine wm<|wm ?_;refine wn<|dA _ ?_ ?_
     ·(refine⟨ob,ob,?_⟩;dsimp only;unfold QZ at hst;rw[sW]at hst;rw[hgi,hgp,agD];exact hst)
     exact ob
    have sW:=c4;have c4:=eu c4;refine wn<|dA _ ?_ ?_
    ·(refine⟨ob,ob,?_⟩;dsimp only;unfold QZ at hst;rw[sW]at hst;rw[agD];exact hst)
    exact ob
   (refine⟨ob,ob,?_⟩;dsimp only;rw[show(0:Int).toNat=0 from rfl,List.take_zero,show PS [] g1.1.toNat=0 from rfl,Int.add_zero,set_self])
  exact ay (MX.done (by rw[show l_.length=((l_.length:Int) - 1 - g1.1).toNat by omega];exact bH))
 (refine⟨ob,ob,?_⟩;dsimp only;rw[show((l_.length:Int) - 1 - (l_.length - 1)).toNat=0 by omega];exact MX.start hv)
def Sw {r_:bZ} (h1:Vld l_ d_) (h2:Rok l_ r_):W (Bp l_ r_ d_) (λ r=>r=Cn l_ r_ d_):=by
 have hv:=h1;have hr:=h2;have hvb:=λ i hi=>aa9 hv hr i hi;have hul:=JJ l_ d_;have hll:=TL l_ d_;obtain⟨vl,vd,vs,_,vx⟩:=h1;obtain⟨r1,r2,r3⟩:=h2;unfold Bp;refine aG (Vl ob) λ v1 hv1=>?_;subst v1;refine aG (acw ob) λ v2 hv2=>?_;subst v2;refine bK (λ(g1:Int)=>0<=g1/\g1<=l_.length/\(∀j:Nat,(j:Int)<g1->TM l_ r_ (jK l_ d_) (Fe l_ d_) j=false)) (λ(g1:Int)=>(l_.length - g1).toNat) ?_ ?_
 ·intro aj g1 eT dA;obtain⟨dW,cB,bH⟩:=eT;unfold Pf;refine wi ?_ ?_<;>intro c1
  ·have hp:=vs g1.toNat om;have hv1:=hvb g1.toNat om;have hv2:=hvb (l_.getD g1.toNat aD).aW.toNat;refine wm<|wn ?_;apply bL<;>intro c2
   ·have lM:=c2;have c2:=eu c2;exact ay ((agE (i:=g1.toNat) om (axM lM)).symm)
   have lM:=c2;have c2:=eu c2;refine wn<|bL ?_ ?_<;>intro c3
   ·have jU:=c3;have c3:=eu c3;refine wn<|dA _ ?_ ?_
    ·(refine⟨ob,ob,eH bH dW (axN lM jU)⟩)
    exact ob
   have jU:=c3;have c3:=eu c3;refine wn<|aK (by(intro _ q;have:=of_decide_eq_true q;omega)) ?_;refine aG (ig λ hc hc2 hc3=>mg (AA (of_decide_eq_true hc2) (by have:=of_decide_eq_true hc2;omega) hr)) λ v7 hv7=>?_;subst v7;refine aG (ig λ hc hc2 hc3=>mg (AA om om hr)) λ v8 xk=>?_;subst v8;refine aK (by(intro _ q;have:=of_decide_eq_true q;have:=hv2 om;unfold aC;omega)) ?_;apply bL<;>intro c4
   ·have sW:=c4;have c4:=eu c4;exact ay ((agE (i:=g1.toNat) om ((at6 jU).trans sW)).symm)
   have sW:=c4;have c4:=eu c4;refine wn<|dA _ ?_ ?_
   ·(refine⟨ob,ob,eH bH dW ((at6 jU).trans sW)⟩)
   exact ob
  refine bK (λ(g2:Int)=>0<=g2/\g2<=d_.length/\(d_.drop g2.toNat).any (aex l_ r_)=d_.any (aex l_ r_)) (λ(g2:Int)=>(d_.length - g2).toNat) ?_ ?_
  ·intro dR g2 nk qJ;obtain⟨rG,jL,mX⟩:=nk;unfold MC;refine wi ?_ ?_<;>intro c5
   ·have hlt:g2.toNat<d_.length:=om;have hx:=vx _ (jI dV hlt);rw[drop_cons dV hlt,List.any_cons]at mX;refine wn<|aG (AA hx.1 hx.2.1 hr) λ v13 U5=>?_;subst v13;refine aG (ql) λ v14 acf=>?_;subst v14;apply bL<;>intro c6
    ·have c6o:=c6;have c6:=eu c6;refine ay ?_;(rw[agF (λ j hj=>bH j om),<- mX,show aex l_ r_ (d_.getD g2.toNat dV)=true from c6o];rfl)
    have c6o:=c6;have c6:=eu c6;refine wn<|qJ _ ?_ ?_
    ·(refine⟨ob,ob,?_⟩;rw[<- mX,show aex l_ r_ (d_.getD g2.toNat dV)=false from c6o,show(g2+1).toNat=g2.toNat+1 by omega];rfl)
    exact ob
   refine ay ?_;(rw[agF (λ j hj=>bH j om),<- mX,show g2.toNat=d_.length by omega,List.drop_length];rfl)
  (refine⟨ob,ob,rfl⟩)
 (refine⟨ob,ob,λ j hj=>by omega⟩)
def acy (h1:l_.length<=2000000) (h2:d_.length<=2000000):W (Bq l_ d_) (λ r=>r=mV l_ d_):=by
 unfold Bq;refine aG (acu ob ob) λ v1 hv1=>?_;subst v1;apply bL<;>intro c1
 ·have gW:=c1;have c1:=eu c1;refine ay ?_;(unfold mV;rw[gW];rfl)
 have gW:=c1;have c1:=eu c1;have hdr:=agx (show sZ l_ d_=0 by simpa using gW);have hv:=aew hdr;obtain⟨vl,vd,vs,vlv,vx⟩:=id hv;have hul:=JJ l_ d_;refine aG (Vl hv) λ v2 hv2=>?_;subst v2;refine wm<|bK (λ(g1:Int×ag8×ag8)=>0<=g1.1/\g1.1<=d_.length/\g1.2.1=Cr (Df l_.length d_ g1.1.toNat)/\g1.2.2=List.replicate l_.length 0) (λ(g1:Int×ag8×ag8)=>(d_.length - g1.1).toNat) ?_ ?_
 ·intro aj g1 eT dA;obtain⟨dW,cB,bH,jW⟩:=eT;unfold Ph;have hgl:g1.2.1.length=l_.length:=(by rw[bH,Vi,WZ]);refine wi ?_ ?_<;>intro c2
  ·have hx:=vx _ (jI dV (show g1.1.toNat<d_.length by omega));refine wm<|wm ?_;refine dA _ ?_ ?_
   ·(refine⟨ob,ob,?_,jW⟩;dsimp only;rw[show(g1.1+1).toNat=g1.1.toNat+1 by omega,TN,bH])
   exact ob
  refine wn<|bK (λ(g2:Int×ag8×ag8) => -1<=g2.1/\g2.1<l_.length/\∃s:DS,g2.2.1=Cr s.a/\g2.2.2=s.lv/\DOk l_ s/\aoY l_ s/\acr l_ (jK l_ d_) (g2.1+1).toNat s=Vh l_ d_) (λ(g2:Int×ag8×ag8)=>(g2.1+1).toNat) ?_ ?_
  ·intro dR g2 nk qJ;obtain⟨rG,jL,mX⟩:=nk;unfold ME;obtain⟨s,e1,e2,e3,e4,e5⟩:=mX;have hal:g2.2.1.length=l_.length:=(by rw[e1,Vi,e3.al]);have hll:g2.2.2.length=l_.length:=(by rw[e2,e3.ll]);refine wi ?_ ?_<;>intro c3
   ·have hp:=vs g2.1.toNat om;rw[show(g2.1+1).toNat=g2.1.toNat+1 by omega,acr]at e5;refine wn<|bL ?_ ?_<;>intro c4
    ·have sW:=c4;have c4:=eu c4;refine wn<|qJ _ ?_ ?_
     ·(refine⟨ob,ob,s,e1,e2,e3,e4,?_⟩;dsimp only;rw[show(g2.1 - 1+1).toNat=g2.1.toNat by omega];rw[adp sW,agH sW]at e5;exact e5)
     exact ob
    have sW:=c4;have c4:=eu c4;have hu:(jK l_ d_).getD g2.1.toNat false=true:=(by simpa using sW);refine wm<|aG (acv ob) λ v11 agI=>?_;subst v11;rw[e1,Fh,show lvN (l_.getD g2.1.toNat aD).bY (s.a.getD g2.1.toNat aa8).TK=FX l_ g2.1.toNat s from rfl];have hgs:(g2.2.2.set g2.1.toNat (bif decide (FX l_ g2.1.toNat s<(l_.getD g2.1.toNat aD).bY.length)then(FX l_ g2.1.toNat s:Int)else -1)).getD g2.1.toNat 0=(bif decide (FX l_ g2.1.toNat s<(l_.getD g2.1.toNat aD).bY.length)then(FX l_ g2.1.toNat s:Int)else -1):=(by rw[iD,if_pos ⟨rfl,om⟩]);refine wn ?_;unfold Cg;refine wn<|bL ?_ ?_<;>intro c5
    ·have BM:=c5;have c5:=eu c5;rw[hgs]at BM;have h5:=anc BM;have h6:decide ((FX l_ g2.1.toNat s:Int)<(l_.getD g2.1.toNat aD).bY.length)=false:=(by simpa using h5);exact ay (ais gW (by unfold JK at e5;rw[hu,h6]at e5;exact e5))
    have BM:=c5;have c5:=eu c5;rw[hgs]at BM;have h5:=ane BM;have h6:decide ((FX l_ g2.1.toNat s:Int)<(l_.getD g2.1.toNat aD).bY.length)=true:=(by simpa using h5);have hf:JK l_ (jK l_ d_) g2.1.toNat s=false:=(by unfold JK;rw[hu,h6];rfl);rw[hf]at e5;have hlo:=aez (u:=jK l_ d_) (i:=g2.1.toNat) e3;have hlv:=aoZ hf e4;have hR:=am5 hul hlo hlv;have hs:(Fg l_ (jK l_ d_) g2.1.toNat s).lv=s.lv.set g2.1.toNat (FX l_ g2.1.toNat s:Int):=(by unfold Fg;rw[hu];rfl);have hvo:=anf (l:=l_) (u:=jK l_ d_) hu (show g2.1.toNat<s.lv.length by rw[e3.ll];omega);have hvb:=aa9 hv hR g2.1.toNat om;rw[h5];simp only[cond_true];rw[e2,<- hs];refine wn<|bL ?_ ?_<;>intro c6
    ·have c6o:=c6;have c6:=eu c6;refine wn<|aG (AA om om hR) λ v10 JN=>?_;subst v10;refine wn<|aK (by(unfold aC;omega)) ?_;refine wm<|qJ _ ?_ ?_
     ·(refine⟨ob,ob,Fg l_ (jK l_ d_) g2.1.toNat s,?_,rfl,hlo,hlv,?_⟩;(dsimp only;rw[hvo,e1];exact agG hu c6o);(dsimp only;rw[show(g2.1 - 1+1).toNat=g2.1.toNat by omega];exact e5))
     exact ob
    have c6o:=c6;have c6:=eu c6;refine wn<|qJ _ ?_ ?_
    ·(refine⟨ob,ob,Fg l_ (jK l_ d_) g2.1.toNat s,?_,rfl,hlo,hlv,?_⟩;(dsimp only;rw[e1];exact akH c6o);(dsimp only;rw[show(g2.1 - 1+1).toNat=g2.1.toNat by omega];exact e5))
    exact ob
   rw[show(g2.1+1).toNat=0 by omega,acr]at e5;have hrk:Rok l_ ⟨jK l_ d_,g2.2.2⟩:=(by rw[e2];exact am5 hul e3 e4);refine aG (Sw hv hrk) λ v12 JI=>?_;subst v12;apply bL<;>intro c7
   ·have Yl:=c7;have c7:=eu c7;refine ay ?_;(rw[adq gW hdr e5 (by rw[<- e2];exact hrk),<- e2,Yl];rfl)
   have Yl:=c7;have c7:=eu c7;refine ay ?_;(rw[adq gW hdr e5 (by rw[<- e2];exact hrk),<- e2,Yl];rfl)
  (refine⟨ob,ob,ds0 l_ d_,?_,jW,aip _ _,?_,?_⟩;(dsimp only;rw[bH,show g1.1.toNat=d_.length by omega];rfl);(intro j hj;show 0<=(List.replicate l_.length (0:Int)).getD j 0/\(List.replicate l_.length (0:Int)).getD j 0<_;rw[nP];have:=vs j hj;omega);(dsimp only;rw[show((l_.length:Int) - 1+1).toNat=l_.length by omega];rfl))
 (refine⟨ob,ob,?_,rfl⟩;show _=Cr (List.replicate l_.length (⟨0,-1,-1⟩:Dem));unfold Cr;rw[List.map_replicate];rfl)
end Go.Proofs.YtccjmcmolnbiiaaGreatDoor.Sp
namespace Go.Proofs.YtccjmcmolnbiiaaGreatDoor
open Go.Ab
set_option maxRecDepth 100000
def agJ (n lo hi:Int) (b:Bool):(((decide (n<lo))||(decide (hi<n)))||b)=(!(dU n lo hi)||b):=by
 unfold dU;congr 1;by_cases h1:n<lo<;>by_cases h2:hi<n<;>simp[h1,h2]<;>omega
variable {x:Int}
def akI {l:ag8} {y:Int} (h:l.contains x=false) (hy:¬ y=x):(l++[y]).contains x=false:=by
 rw[List.contains_eq_any_beq]at h ⊢;rw[List.any_append,h];simpa using λ e=>hy e.symm
def ait (n:Nat):decide ((1:Int)<=(n:Int))=decide ((0:Int)<(n:Int)):=by
 rw[decide_eq_decide];omega
def axO {c:aJ}:((decide ((1:Int)<=(c.aS.length:Int))&&decide ((0:Int)<(c.aP.length:Int)))&&(yu 0 ((c.aS.length:Int) - 1) [] c.aP))=(decide (0<(c.aP.length:Int))&&yu 0 ((c.aS.length:Int) - 1) [] c.aP):=by
 by_cases h:1<=(c.aS.length:Int)
 ·rw[decide_eq_true h,Bool.true_and]
 rw[decide_eq_false h,Bool.false_and,Bool.false_and];symm;rw[Bool.and_eq_false_iff];by_cases h2:0<(c.aP.length:Int)
 ·right;cases hd:yu 0 ((c.aS.length:Int) - 1) [] c.aP with
  | false=>rfl
  | true=>have:=aoR _ _ hd om;omega
 left;exact decide_eq_false h2
def akJ {l_:ag8} {x_:Int} (h1:l_.length<=2000000):W (ZC l_ x_) (λ r=>r=l_.contains x_):=by
 unfold ZC;refine bK (λ(g1:Int)=>0<=g1/\g1<=l_.length/\(l_.take g1.toNat).contains x_=false) (λ(g1:Int)=>(l_.length - g1).toNat) ?_ ?_
 ·intro aj g1 eT dA;obtain⟨dW,cB,bH⟩:=eT;unfold aaY;refine wi ?_ ?_<;>intro c1
  ·refine wn<|wi ?_ ?_<;>intro c2
   ·exact ay ((List.elem_eq_true_of_mem (by rw[<- c2];exact getD_in 0 om)).symm)
   refine wn<|dA _ ?_ ?_
   ·(refine⟨ob,ob,?_⟩;rw[show(g1+1).toNat=g1.toNat+1 by omega,iq 0 om];exact akI bH c2)
   exact ob
  refine ay ?_;(rw[show g1.toNat=l_.length by omega,List.take_length]at bH;exact bH.symm)
 (refine⟨ob,ob,rfl⟩)
def agK {a_:ag8} {b_:ag8} (h1:a_.length<=2000000):W (Ji a_ b_) (λ r=>r=(a_==b_)):=by
 unfold Ji;refine wi ?_ ?_<;>intro c1
 ·exact ay ((Ed c1).symm)
 refine bK (λ(g1:Int)=>0<=g1/\g1<=a_.length/\(a_==b_)=(a_.drop g1.toNat==b_.drop g1.toNat)) (λ(g1:Int)=>(a_.length - g1).toNat) ?_ ?_
 ·intro aj g1 eT dA;obtain⟨dW,cB,bH⟩:=eT;unfold UU;refine wi ?_ ?_<;>intro c2
  ·rw[drop_cons 0 (show g1.toNat<a_.length by omega),drop_cons 0 (show g1.toNat<b_.length by omega)]at bH;refine wm<|wi ?_ ?_<;>intro c3
   ·refine ay ?_;(rw[bH,ZI c3])
   refine wn<|dA _ ?_ ?_
   ·(refine⟨ob,ob,?_⟩;rw[bH,ZJ c3,show(g1+1).toNat=g1.toNat+1 by omega])
   exact ob
  refine ay ?_;(rw[bH,List.drop_eq_nil_of_le om,List.drop_eq_nil_of_le om];rfl)
 (refine⟨ob,ob,rfl⟩)
def yF {l_:ag8} {wU:Int} {yT:Int} (h1:l_.length<=2000000):W (l6 l_ wU yT) (λ r=>r=yu wU yT [] l_):=by
 unfold l6;refine bK (λ(g1:Int)=>0<=g1/\g1<=l_.length/\yu wU yT (l_.take g1.toNat) (l_.drop g1.toNat)=yu wU yT [] l_) (λ(g1:Int)=>(l_.length - g1).toNat) ?_ ?_
 ·intro aj g1 eT dA;obtain⟨dW,cB,bH⟩:=eT;unfold ER;refine wi ?_ ?_<;>intro c1
  ·rw[drop_cons 0 (show g1.toNat<l_.length by omega)]at bH;refine wm<|aG (ig λ hc=>mg (akJ ob)) λ v3 hv3=>?_;subst v3;apply bL<;>intro c2
   ·have lM:=c2;have c2:=eu c2;rw[agJ]at lM;refine ay ?_;(rw[<- bH,ZG (pre:=l_.take g1.toNat) (n:=l_.getD g1.toNat 0) lM])
   have lM:=c2;have c2:=eu c2;rw[agJ]at lM;refine wn<|dA _ ?_ ?_
   ·(refine⟨ob,ob,?_⟩;rw[<- bH,aen (pre:=l_.take g1.toNat) (n:=l_.getD g1.toNat 0) lM,show(g1+1).toNat=g1.toNat+1 by omega,iq 0 om])
   exact ob
  refine ay ?_;(rw[<- bH,List.drop_eq_nil_of_le om];rfl)
 (refine⟨ob,ob,rfl⟩)
def YJ {c_:aJ} (h1:c_.aS.length<=2000000) (h2:c_.aP.length<=2000000):W (Ap c_) (λ r=>r=jk c_):=by
 unfold Ap;apply bL<;>intro c1
 ·have gW:=c1;have c1:=eu c1;refine aK (by(intro hc;simp only[Bool.and_eq_true,beq_iff_eq]at hc;omega)) ?_;refine aK (by(intro hc;simp only[Bool.and_eq_true,beq_iff_eq]at hc;omega)) ?_;refine ay ?_;(unfold jk;rw[gW];simp only[cond_true];unfold dU;rw[Bool.and_assoc])
 have gW:=c1;have c1:=eu c1;apply bL<;>intro c2
 ·have lM:=c2;have c2:=eu c2;apply bL<;>intro c3
  ·have jU:=c3;have c3:=eu c3;refine aG (ig λ hc=>mg (yF ob)) λ v1 hv1=>?_;subst v1;refine ay ?_;(unfold jk;rw[gW,lM,ait];rfl)
  have jU:=c3;have c3:=eu c3;rw[lM]at jU;cases jU
 have lM:=c2;have c2:=eu c2;apply bL<;>intro c4
 ·have sW:=c4;have c4:=eu c4;refine aG (ig λ hc=>mg (yF ob)) λ v4 hv4=>?_;subst v4;refine ay ?_;(unfold jk;rw[gW,lM,sW,ait];rfl)
 have sW:=c4;have c4:=eu c4;apply bL<;>intro c5
 ·have BM:=c5;have c5:=eu c5;refine wn<|aG (ig λ hc=>mg (yF ob)) λ v5 hv5=>?_;subst v5;refine ay ?_;(unfold jk;rw[gW,lM,sW,BM,ait c_.aP.length];exact axO)
 have BM:=c5;have c5:=eu c5;apply bL<;>intro c6
 ·have c6o:=c6;have c6:=eu c6;apply bL<;>intro c7
  ·have Yl:=c7;have c7:=eu c7;refine aG (ig λ hc=>mg (agK ob)) λ v6 hv6=>?_;subst v6;refine ay ?_;(unfold jk;rw[gW,lM,sW,BM,c6o];rfl)
  have Yl:=c7;have c7:=eu c7;refine ay ?_;(unfold jk;rw[gW,lM,sW,BM,c6o,show((c_.aS.length:Int)==1)=false by simpa using Yl];rfl)
 have c6o:=c6;have c6:=eu c6;refine ay ?_;(unfold jk;rw[gW,lM,sW,BM,c6o];rfl)
variable {l_:ah3}
def YK (h1:l_.length<=1000) (h2:ajj l_):W (Aq l_) (λ r=>r=iR l_):=by
 unfold Aq;refine bK (λ(g1:Int×ag8)=>0<=g1.1/\g1.1<=l_.length/\g1.2=iR (l_.take g1.1.toNat)) (λ(g1:Int×ag8)=>(l_.length - g1.1).toNat) ?_ ?_
 ·intro aj g1 eT dA;obtain⟨dW,cB,bH⟩:=eT;unfold Jk;have hfb:=j6 (l_.take g1.1.toNat);rw[take_len om,<- bH]at hfb;refine wi ?_ ?_<;>intro c1
  ·obtain⟨hp1,hp2⟩:=h2 g1.1.toNat om;refine wn<|bK (λ(g6:Int×Int)=>0<=g6.2/\g6.2<=(l_.getD g1.1.toNat aL).aS.length/\g6.1=mE g1.2 ((l_.getD g1.1.toNat aL).aS.take g6.2.toNat)) (λ(g6:Int×Int)=>((l_.getD g1.1.toNat aL).aS.length - g6.2).toNat) ?_ ?_
   ·intro jR g6 PX K8;obtain⟨M0,wS,M4⟩:=PX;unfold Jj;have hpm:=KZ g1.2 g1.1.toNat om hfb.2 ((l_.getD g1.1.toNat aL).aS.take g6.2.toNat);rw[<- M4]at hpm;refine wi ?_ ?_<;>intro c2
    ·have hx:=hp2 _ (getD_in (i:=g6.2.toNat) 0 om);refine wm<|wn ?_;refine K8 _ ?_ ?_
     ·(refine⟨ob,ob,?_⟩;dsimp only;rw[show(g6.2+1).toNat=g6.2.toNat+1 by omega];unfold mE;rw[vN _ _ 0 om,M4];rfl)
     exact ob
    have hpe:g6.1=mE g1.2 (l_.getD g1.1.toNat aL).aS:=(by rw[M4,show g6.2.toNat=(l_.getD g1.1.toNat aL).aS.length by omega,List.take_length]);apply bL<;>intro c3
    ·have jU:=c3;have c3:=eu c3;refine wn ?_;unfold nM;refine wm<|dA _ ?_ ?_
     ·(refine⟨ob,ob,?_⟩;dsimp only;rw[show(g1.1+1).toNat=g1.1.toNat+1 by omega,iq aL om,En,<- bH];unfold KY TF;rw[jU,hpe];rfl)
     exact ob
    have jU:=c3;have c3:=eu c3;unfold nM;refine wm<|dA _ ?_ ?_
    ·(refine⟨ob,ob,?_⟩;dsimp only;rw[show(g1.1+1).toNat=g1.1.toNat+1 by omega,iq aL om,En,<- bH];unfold KY TF;rw[jU,hpe];rfl)
    exact ob
   (refine⟨ob,ob,rfl⟩)
  refine ay ?_;(rw[bH,show g1.1.toNat=l_.length by omega,List.take_length])
 (refine⟨ob,ob,rfl⟩)
def AB (h1:l_.length<=2000000):W (sK l_) (λ r=>r=eY l_):=by
 unfold sK;apply bL<;>intro c1
 ·have gW:=c1;have c1:=eu c1;refine ay ?_;(unfold eY;rw[gW];rfl)
 have gW:=c1;have c1:=eu c1;refine bK (λ(g1:Int)=>0<=g1/\g1<=l_.length/\(∀j:Nat,(j:Int)<g1->TB (l_.getD j aL)=false)) (λ(g1:Int)=>(l_.length - g1).toNat) ?_ ?_
 ·intro aj g1 eT dA;obtain⟨dW,cB,bH⟩:=eT;unfold OQ;refine wi ?_ ?_<;>intro c2
  ·refine wn<|bL ?_ ?_<;>intro c3
   ·have jU:=c3;have c3:=eu c3;refine ay ?_;(unfold eY;rw[yx (p:=TB) aL (show g1.toNat<l_.length by omega) (show TB _=true from jU),Bool.or_true];rfl)
   have jU:=c3;have c3:=eu c3;refine wn<|dA _ ?_ ?_
   ·(refine⟨ob,ob,eH bH dW jU⟩)
   exact ob
  have hb4:∀i:Nat,i<l_.length->TB (l_.getD i aL)=false:=λ j hj=>bH j om;have hbig:=any_none (p:=TB) aL hb4;have hb3:(decide (16<(l_.length:Int))||l_.any TB)=false:=(by rw[gW,hbig];rfl);refine bK (λ(g2:Int×Int)=>0<=g2.2/\g2.2<=l_.length/\g2.1=mU (l_.take g2.2.toNat)/\(∀j:Nat,(j:Int)<g2.2->lG (l_.getD j aL) j=true)) (λ(g2:Int×Int)=>(l_.length - g2.2).toNat) ?_ ?_
  ·intro dR g2 nk qJ;obtain⟨rG,jL,mX,Dg⟩:=nk;unfold Mi;refine wi ?_ ?_<;>intro c4
   ·have hlt:g2.2.toNat<l_.length:=om;have hbl:=PD (hb4 g2.2.toNat hlt);refine wn<|bK (λ(g5:Int)=>0<=g5/\g5<=(l_.getD g2.2.toNat aL).aS.length/\(∀j:Nat,(j:Int)<g5->dU ((l_.getD g2.2.toNat aL).aS.getD j 0) 0 (g2.2.toNat - 1)=true)) (λ(g5:Int)=>((l_.getD g2.2.toNat aL).aS.length - g5).toNat) ?_ ?_
    ·intro kr g5 Xc Xd;obtain⟨Sr,Fp,MZ⟩:=Xc;unfold Mg;refine wi ?_ ?_<;>intro c5
     ·refine wn<|wi ?_ ?_<;>intro c6
      ·refine ay ?_;(unfold eY;rw[hb3,TG hlt (WQ (j:=g5.toNat) om (by rw[<- Bool.not_eq_true,within_iff];omega))];rfl)
      refine wn<|Xd _ ?_ ?_
      ·(refine⟨ob,ob,eH MZ Sr (by rw[within_iff];omega)⟩)
      exact ob
     have hvr:=agi (k:=(g2.2.toNat:Int)) (λ j hj=>MZ j om);refine aG (YJ ob ob) λ v3 hv3=>?_;subst v3;apply bL<;>intro c7
     ·have Yl:=c7;have c7:=eu c7;rw[Yl]at hvr;refine ay ?_;(unfold eY;rw[hb3,TG hlt hvr];rfl)
     have Yl:=c7;have c7:=eu c7;rw[Yl]at hvr;have hpm:=amU (l_.take g2.2.toNat) (l_.getD g2.2.toNat aL).aP.length om;rw[<- mX]at hpm;refine wm<|qJ _ ?_ ?_
     ·(refine⟨ob,ob,?_,eH Dg rG hvr⟩;dsimp only;rw[show(g2.2+1).toNat=g2.2.toNat+1 by omega];unfold mU;rw[vN _ _ aL hlt];rw[mX];rfl)
     exact ob
    (refine⟨ob,ob,λ j hj=>by omega⟩)
   have hva:∀i:Nat,i<l_.length->lG (l_.getD i aL) i=true:=λ j hj=>Dg j om;have hall:=ade hva;have hfl:=(j6 l_).1;rw[show g2.2.toNat=l_.length by omega,List.take_length]at mX;apply bL<;>intro c8
   ·have c8o:=c8;have c8:=eu c8;refine ay ?_;(unfold eY;rw[hb3,hall,<- mX,c8o];rfl)
   have c8o:=c8;have c8:=eu c8;refine aG (YK om (agj hva hb4)) λ v4 hv4=>?_;subst v4;refine bK (λ(g6:Int)=>0<=g6/\g6<=(iR l_).length/\(∀j:Nat,(j:Int)<g6->(λ n=>decide (4<n)) ((iR l_).getD j 0)=false)) (λ(g6:Int)=>((iR l_).length - g6).toNat) ?_ ?_
   ·intro jR g6 PX K8;obtain⟨M0,wS,M4⟩:=PX;unfold Mh;refine wi ?_ ?_<;>intro c9
    ·refine wn<|bL ?_ ?_<;>intro c10
     ·have akK:=c10;have c10:=eu c10;refine ay ?_;(unfold eY;rw[hb3,hall,yx (p:=λ n=>decide (4<n)) 0 (show g6.toNat<(iR l_).length by omega) akK,Bool.or_true];rfl)
     have akK:=c10;have c10:=eu c10;refine wn<|K8 _ ?_ ?_
     ·(refine⟨ob,ob,eH M4 M0 akK⟩)
     exact ob
    refine ay ?_;(unfold eY;rw[hb3,hall,<- mX,c8o,any_none (p:=λ n=>decide (4<n)) 0 (λ j hj=>M4 j om)];rfl)
   (refine⟨ob,ob,λ j hj=>by omega⟩)
  (refine⟨ob,ob,rfl,λ j hj=>by dsimp only at hj;omega⟩)
 (refine⟨ob,ob,λ j hj=>by omega⟩)
variable {l:ah3} {m:ajc}
def ao5 (h:((eY l != 0)||decide (32<(m.length:Int)))=true):nN l m=false:=by
 unfold nN;by_cases h1:eY l=0
 ·rw[h1]at h;have:32<(m.length:Int):=by simpa using h
  rw[decide_eq_false (p:=(m.length:Int)<=32) om];simp
 have:(eY l==0)=false:=by simpa using h1
 rw[this];rfl
def anh (h:((eY l != 0)||decide (32<(m.length:Int)))=false):nN l m=!(m.any (Pz l.length)):=by
 have h1:eY l=0/\(m.length:Int)<=32:=by
  simp at h;omega
 unfold nN;rw[h1.1,decide_eq_true h1.2];rfl
def agL (n:Int) (x:bP):(((((decide (x.fE<(0:Int)))||(decide (n<=x.fE)))||(decide (x.Low<(0:Int))))||(decide (x.fV<x.Low)))||(decide ((4000000000:Int)<x.fV)))=Pz n x:=by
 unfold Pz dU;rw[Bool.eq_iff_iff];simp;omega
variable {m_:ajc}
def PY (h1:l_.length<=2000000) (h2:m_.length<=2000000):W (xX l_ m_) (λ r=>r=nN l_ m_):=by
 unfold xX;refine aG (AB ob) λ v1 hv1=>?_;subst v1;apply bL<;>intro c1
 ·have gW:=c1;have c1:=eu c1;exact ay ((ao5 gW).symm)
 have gW:=c1;have c1:=eu c1;have hdf:=anh gW;refine bK (λ(g1:Int)=>0<=g1/\g1<=m_.length/\(m_.drop g1.toNat).any (Pz l_.length)=m_.any (Pz l_.length)) (λ(g1:Int)=>(m_.length - g1).toNat) ?_ ?_
 ·intro aj g1 eT dA;obtain⟨dW,cB,bH⟩:=eT;unfold Mx;refine wi ?_ ?_<;>intro c2
  ·have hlt:g1.toNat<m_.length:=om;rw[drop_cons dM hlt,List.any_cons]at bH;refine wn<|bL ?_ ?_<;>intro c3
   ·have jU:=c3;have c3:=eu c3;rw[agL]at jU;refine ay ?_;(rw[hdf,<- bH,jU];rfl)
   have jU:=c3;have c3:=eu c3;rw[agL]at jU;refine wn<|dA _ ?_ ?_
   ·(refine⟨ob,ob,?_⟩;rw[<- bH,jU,show(g1+1).toNat=g1.toNat+1 by omega];rfl)
   exact ob
  refine ay ?_;(rw[hdf,<- bH,show g1.toNat=m_.length by omega,List.drop_length];rfl)
 (refine⟨ob,ob,rfl⟩)
def acz (h1:l_.length<=2000000) (h2:m_.length<=2000000):W (GH l_ m_) (λ r=>r=(bif eY l_ != 0 then eY l_ else bif !nN l_ m_ then 1 else 0)):=by
 unfold GH;refine aG (AB ob) λ v1 hv1=>?_;subst v1;apply bL<;>intro c1
 ·have gW:=c1;have c1:=eu c1;refine ay ?_;(rw[gW];rfl)
 have gW:=c1;have c1:=eu c1;refine aG (PY ob ob) λ v2 hv2=>?_;subst v2;apply bL<;>intro c2
 ·have lM:=c2;have c2:=eu c2;refine ay ?_;(rw[gW,lM];rfl)
 have lM:=c2;have c2:=eu c2;refine ay ?_;(rw[gW,lM];rfl)
def abg {c_:aJ} {vw:Int} (h1:aa2 c_ vw):W (DX c_ vw) (λ r=>r=kF c_ vw):=by
 have hp:=h1;unfold aa2 at hp;unfold DX;apply bL<;>intro c1
 ·have gW:=c1;have c1:=eu c1;refine ay ?_;(unfold kF;rw[gW];rfl)
 have gW:=c1;have c1:=eu c1;apply bL<;>intro c2
 ·have lM:=c2;have c2:=eu c2;refine wm<|ay ?_;(unfold kF;rw[gW,lM];rfl)
 have lM:=c2;have c2:=eu c2;refine wn<|ay ?_;(unfold kF;rw[gW,lM];rfl)
def Cv {a_:Int} {b_:Int} (h1:0<=a_) (h2:0<=b_):W (qO a_ b_) (λ r=>r=jG a_ b_):=by
 unfold qO;refine bK (λ(g1:Int×Int)=>0<=g1.1/\0<=g1.2/\jG g1.1 g1.2=jG a_ b_) (λ(g1:Int×Int)=>g1.2.toNat) ?_ ?_
 ·intro aj g1 eT dA;obtain⟨dW,cB,bH⟩:=eT;unfold Jo;refine wi ?_ ?_<;>intro c1
  ·refine wn<|dA _ ?_ ?_
   ·(refine⟨ob,Int.tmod_nonneg _ om,?_⟩;dsimp only;rw[<- bH];exact agr om om)
   (dsimp only;have:=U4 g1.1 g1.2 om;have:=Int.tmod_nonneg (a:=g1.1) g1.2 om;omega)
  refine ay ?_;(rw[<- bH];unfold jG;have e:g1.2=0:=c1;rw[e];simp;omega)
 exact ob
variable {r_:bQ}
def AJ:W (sN r_) (λ r=>r=qg r_):=by
 unfold sN;refine aG (ig λ hc=>mg (Cv (by have hc:=eu hc;omega) (by have hc:=eu hc;omega))) λ v1 hv1=>?_;subst v1;refine ay ?_;rfl
def PZ {k_:Int}:W (xY k_) (λ r=>r=yw k_):=by
 unfold xY;refine ay ?_;rfl
def Ym {xK:Int} {xL:Int} (h1:xK<=4611686018427387904) (h2:xL<=4611686018427387904):W (Jp xK xL) (λ r=>r=newR xK xL):=by
 unfold Jp;apply bL<;>intro c1
 ·have gW:=c1;have c1:=eu c1;refine ay ?_;(unfold newR;rw[gW];rfl)
 have gW:=c1;have c1:=eu c1;have hg:=BF xK xL om;have q1:=tdiv_le xK _ om hg;have q2:=tdiv_le xL _ om hg;refine aG (Cv ob ob) λ v1 hv1=>?_;subst v1;refine wm<|aG (AJ) λ v2 hv2=>?_;subst v2;apply bL<;>intro c2
 ·have lM:=c2;have c2:=eu c2;refine ay ?_;(unfold newR;rw[gW];simp only[cond_false];rw[lM];rfl)
 have lM:=c2;have c2:=eu c2;refine ay ?_;(unfold newR;rw[gW];simp only[cond_false];rw[lM];rfl)
def aeB {k_:Int}:W (KQ r_ k_) (λ r=>r=BG r_ k_):=by
 unfold KQ;refine aG (AJ) λ v1 hv1=>?_;subst v1;apply bL<;>intro c1
 ·have gW:=c1;have c1:=eu c1;refine ay ?_;(unfold BG;rw[gW];rfl)
 have gW:=c1;have c1:=eu c1;have hv:=mR (r:=r_) (by simpa using gW);refine aG (PZ) λ v2 hv2=>?_;subst v2;apply bL<;>intro c2
 ·have lM:=c2;have c2:=eu c2;refine ay ?_;(unfold BG;rw[gW,lM];rfl)
 have lM:=c2;have c2:=eu c2;have hk:1<=k_/\k_<=64:=(by simp[yw]at lM;omega);have q3:=WU (show 0<=k_ by omega) hk.2 (show 0<=r_.jE by omega) hv.2.2.2.1;refine wn<|aG (Ym ob ob) λ v3 hv3=>?_;subst v3;refine ay ?_;(unfold BG;rw[gW,lM];rfl)
def acA {k_:Int}:W (GI r_ k_) (λ r=>r=qX r_ k_):=by
 unfold GI;refine aG (AJ) λ v1 hv1=>?_;subst v1;apply bL<;>intro c1
 ·have gW:=c1;have c1:=eu c1;refine ay ?_;(unfold qX;rw[gW];rfl)
 have gW:=c1;have c1:=eu c1;have hv:=mR (r:=r_) (by simpa using gW);refine aG (PZ) λ v2 hv2=>?_;subst v2;apply bL<;>intro c2
 ·have lM:=c2;have c2:=eu c2;refine ay ?_;(unfold qX;rw[gW,lM];rfl)
 have lM:=c2;have c2:=eu c2;have hk:1<=k_/\k_<=64:=(by simp[yw]at lM;omega);have hg:=BF k_ r_.jE om;have q1:=tdiv_le k_ _ om hg;have q2:=tdiv_le r_.jE _ om hg;have q4:=arL k_ r_.jE hk om;have q5:=tdiv_le 144115188075855872 _ om (show 0<k_.tdiv (jG k_ r_.jE) by omega);refine aG (Cv ob ob) λ v3 hv3=>?_;subst v3;refine wm<|bL ?_ ?_<;>intro c3
 ·have jU:=c3;have c3:=eu c3;refine ay ?_;(unfold qX;rw[gW,lM,jU];rfl)
 have jU:=c3;have c3:=eu c3;have q3:=aku r_.kC (k_.tdiv (jG k_ r_.jE)) hv.1 q4.1 om;refine wm<|wn ?_;refine aG (Ym ob ob) λ v4 hv4=>?_;subst v4;refine ay ?_;(unfold qX;rw[gW,lM,jU];rfl)
def jQ {s_:ag8} {g1:Int×ajm×ag9} {aj:(Int×ajm×ag9)->M (ajm×ag9)} {g7:Bool×Int×Int} {Q:(ajm×ag9)->Prop} (dA:∀s':(Int×ajm×ag9),(0<=s'.1/\s'.1<=l_.length/\s'.2.1=(WT l_ s_ s'.1.toNat).1/\s'.2.2=(WT l_ s_ s'.1.toNat).2)->(l_.length - s'.1).toNat<(l_.length - g1.1).toNat->W (aj s') Q) (hc:0<=g1.1/\g1.1<l_.length/\l_.length<=1000/\g1.2.1=(WT l_ s_ g1.1.toNat).1/\g1.2.2=(WT l_ s_ g1.1.toNat).2/\((⟨g7.2.1,g7.2.2⟩:bQ),g7.1)=(st1 (WT l_ s_ g1.1.toNat).1 (WT l_ s_ g1.1.toNat).2 (l_.getD g1.1.toNat aL) (s_.getD g1.1.toNat 0))):W (jC g1 aj g7) Q:=by
 obtain⟨amR,amS,amT,aic,aie,aif⟩:=hc;unfold jC;refine aK (by(rw[aic,(QW l_ s_ g1.1.toNat).1];unfold big;omega)) ?_;refine aK (by(rw[aie,(QW l_ s_ g1.1.toNat).2];unfold big;omega)) ?_;refine wn<|dA _ ?_ ?_
 ·(refine⟨ob,ob,?_,?_⟩;(dsimp only;rw[show(g1.1+1).toNat=g1.1.toNat+1 by omega,WT,<- aif,<- aic]);(dsimp only;rw[show(g1.1+1).toNat=g1.1.toNat+1 by omega,WT,<- aif,<- aie]))
 exact ob
def P5 {s_:ag8} (h1:Good l_ s_) (h2:Up l_ s_):W (xZ l_ s_) (λ r=>r=Sm l_ s_):=by
 obtain⟨q1,q2,q3,q4,q5⟩:=h1;unfold xZ;refine bK (λ(g1:Int×ajm×ag9)=>0<=g1.1/\g1.1<=l_.length/\g1.2.1=(WT l_ s_ g1.1.toNat).1/\g1.2.2=(WT l_ s_ g1.1.toNat).2) (λ(g1:Int×ajm×ag9)=>(l_.length - g1.1).toNat) ?_ ?_
 ·intro aj g1 eT dA;obtain⟨dW,cB,bH,jW⟩:=eT;unfold MB;have hst:=QW l_ s_ g1.1.toNat;refine wi ?_ ?_<;>intro c1
  ·have hch:=q3 g1.1.toNat om;have hpar:=q5 g1.1.toNat om;have hpc:=q4 g1.1.toNat om;have hui:=h2 g1.1.toNat om;refine wm<|aG (abg ob) λ v18 arU=>?_;subst v18;refine wi ?_ ?_<;>intro c2
   ·refine wm ?_;unfold oO;refine wm<|bL ?_ ?_<;>intro c3
    ·have jU:=c3;have c3:=eu c3;exact jQ (l_:=l_) (s_:=s_) (λ a b c=>dA a b c) (by(exfalso;have:=(show kF (l_.getD g1.1.toNat aL) (s_.getD g1.1.toNat 0) = -1 by unfold kF;rw[jU];rfl);omega))
    have jU:=c3;have c3:=eu c3;apply bL<;>intro c4
    ·have sW:=c4;have c4:=eu c4;refine aG (aeB) λ v16 aem=>?_;subst v16;exact jQ (l_:=l_) (s_:=s_) (λ a b c=>dA a b c) (by(refine⟨ob,ob,ob,bH,jW,?_⟩;dsimp only;unfold st1;rw[jU,sW,<- bH,<- jW];rfl))
    have sW:=c4;have c4:=eu c4;apply bL<;>intro c5
    ·have BM:=c5;have c5:=eu c5;refine aG (acA) λ v17 at7=>?_;subst v17;exact jQ (l_:=l_) (s_:=s_) (λ a b c=>dA a b c) (by(refine⟨ob,ob,ob,bH,jW,?_⟩;dsimp only;unfold st1;rw[jU,sW,BM,<- bH,<- jW];rfl))
    have BM:=c5;have c5:=eu c5;apply bL<;>intro c6
    ·have c6o:=c6;have c6:=eu c6;apply bL<;>intro c7
     ·have Yl:=c7;have c7:=eu c7;exact jQ (l_:=l_) (s_:=s_) (λ a b c=>dA a b c) (by(refine⟨ob,ob,ob,bH,jW,?_⟩;dsimp only;unfold st1;rw[jU,sW,BM,c6o,Yl,<- bH,<- jW];rfl))
     have Yl:=c7;have c7:=eu c7;exact jQ (l_:=l_) (s_:=s_) (λ a b c=>dA a b c) (by(refine⟨ob,ob,ob,bH,jW,?_⟩;dsimp only;unfold st1;rw[jU,sW,BM,c6o,Yl,<- bH,<- jW];rfl))
    have c6o:=c6;have c6:=eu c6;exact jQ (l_:=l_) (s_:=s_) (λ a b c=>dA a b c) (by(refine⟨ob,ob,ob,bH,jW,?_⟩;dsimp only;unfold st1;rw[jU,sW,BM,c6o,<- bH,<- jW];rfl))
   unfold oO;refine wm<|bL ?_ ?_<;>intro c8
   ·have c8o:=c8;have c8:=eu c8;exact jQ (l_:=l_) (s_:=s_) (λ a b c=>dA a b c) (by(refine⟨ob,ob,ob,bH,jW,?_⟩;dsimp only;unfold st1;rw[c8o];rfl))
   have c8o:=c8;have c8:=eu c8;exfalso;have:=hui (by simpa using c8o);omega
  refine ay ?_;(unfold Sm;rw[bH,jW,show g1.1.toNat=l_.length by omega])
 (refine⟨ob,ob,rfl,rfl⟩)
def ani (r:ajm) (on:ag9) (l:ah3) (j:Nat):Bool:=((on.getD j false)&&((l.getD j aL).fV != 0))&&!oC (r.getD j dZ) (l.getD j aL).Low (l.getD j aL).fV
def akL (l:ah3) (st:ajm×ag9):Bool:=(List.range l.length).all λ i=>!ani st.1 st.2 l i
def abh (st:ajm×ag9) (x:bP):Bool:=!(st.2.getD x.fE.toNat false)||!oC (st.1.getD x.fE.toNat dZ) x.Low x.fV
def Sy (l:ah3) (s:ag8) (m:ajc):Bool:=!m.any (abh (Sm l s))&&akL l (Sm l s)
def VS (l:ah3) (s:ag8):Prop:=s.length=l.length/\∀i,i<l.length->0<=s.getD i 0/\s.getD i 0<(l.getD i aL).aP.length
def rH:ah3->Nat
 | []=>1
 | c::l=>c.aP.length*rH l
def nY:ah3->ag8->Nat
 | c::l,x::t=>x.toNat*rH l+nY l t
 | _,_=>0
def Vn {c:aJ} {s:ag8} (h:VS (c::l) s):∃x t,s=x::t/\0<=x/\x<c.aP.length/\VS l t:=by
 obtain⟨h1,h2⟩:=h;cases s with
 | nil=>cases h1
 | cons x t=>
  have h0:=h2 0 (by simp);exact⟨x,t,rfl,h0.1,h0.2,by simpa using h1,λ i hi=>h2 (i+1) (by simpa using hi)⟩
def K9:∀ {s:ag8},VS l s->nY l s<rH l:=by
 induction l with
 | nil=>intro s _;cases s<;>simp[nY,rH]
 | cons c l ih=>
  intro s h;obtain⟨x,t,rfl,h1,h2,h3⟩:=Vn h;have:=ih h3;rw[nY,rH];have h4:(x.toNat+1)*rH l<=c.aP.length*rH l:=Nat.mul_le_mul_right _ om;rw[Nat.add_mul,Nat.one_mul]at h4;omega
def abj:∀ {s:ag8},(∀j,j<l.length->s.getD j 0=0)->nY l s=0:=by
 induction l with
 | nil=>intro s _;cases s<;>rfl
 | cons c l ih=>
  intro s h;cases s with
  | nil=>rfl
  | cons x t=>
   have h0:=h 0 (by simp);have h0:x=0:=h0;rw[nY,h0,ih λ j hj=>h (j+1) (by simpa using hj)];simp
def aeC:∀ {s:ag8},VS l s->(∀j,j<l.length->s.getD j 0+1=(l.getD j aL).aP.length)->nY l s+1=rH l:=by
 induction l with
 | nil=>intro s h _;cases s<;>rfl
 | cons c l ih=>
  intro s hv h;obtain⟨x,t,rfl,h1,h2,h3⟩:=Vn hv;have h0:x+1=c.aP.length:=h 0 (by simp);have:=ih h3 λ j hj=>h (j+1) (by simpa using hj);rw[nY,rH,show c.aP.length=x.toNat+1 by omega,Nat.add_mul,Nat.one_mul];omega
def anj:∀ {s t:ag8} {k:Nat},VS l s->k<l.length->t.length=l.length->(∀j,j<k->t.getD j 0=s.getD j 0)->t.getD k 0=s.getD k 0+1->(∀j,k<j->j<l.length->t.getD j 0=0/\s.getD j 0+1=(l.getD j aL).aP.length)->nY l t=nY l s+1:=by
 induction l with
 | nil=>intro s t k _ h;exact absurd h (Nat.not_lt_zero _)
 | cons c l ih=>
  intro s t k hv hk hl h1 h2 h3;obtain⟨x,s,rfl,g1,g2,g3⟩:=Vn hv;cases t with
  | nil=>cases hl
  | cons y t=>
   cases k with
   | zero=>
    have h2:y=x+1:=h2;have e1:=abj (l:=l) (s:=t) λ j hj=>(h3 (j+1) om (by simpa using hj)).1;have e2:=aeC g3 λ j hj=>(h3 (j+1) om (by simpa using hj)).2;rw[nY,nY,e1,h2,show(x+1).toNat=x.toNat+1 by omega,Nat.add_mul,Nat.one_mul];omega
   | succ k=>
    have h0:y=x:=h1 0 om;have:=ih g3 (by simpa using hk) (by simpa using hl) (λ j hj=>h1 (j+1) om) h2 (λ j a b=>h3 (j+1) om (by simpa using b));rw[nY,nY,h0,this];omega
def ajn {s t:ag8} {k:Nat} (hv:VS l s) (hk:k<l.length) (hl:t.length=l.length) (h1:∀j,j<k->t.getD j 0=s.getD j 0) (h2:t.getD k 0=s.getD k 0+1) (h3:∀j,k<j->j<l.length->t.getD j 0=0/\s.getD j 0+1=(l.getD j aL).aP.length) (h4:s.getD k 0+1<(l.getD k aL).aP.length):VS l t/\nY l t=nY l s+1:=by
 refine⟨⟨hl,λ i hi=>?_⟩,anj hv hk hl h1 h2 h3⟩;have:=hv.2 i hi;rcases Nat.lt_trichotomy i k with h | h | h
 ·rw[h1 i h];exact this
 ·subst h;omega
 have:=h3 i h hi;omega
def Q0 {s:ag8} (h:VS l s):mF l s=true:=by
 unfold mF;rw[h.1,beq_self_eq_true,Bool.true_and,List.all_eq_true];intro i hi;have:=h.2 i (by have:=List.mem_range.1 hi;omega);exact(within_iff _ _ _).2 om
def akM (l:ah3) (c:aJ):rH (l++[c])=rH l*c.aP.length:=by
 induction l with
 | nil=>simp[rH]
 | cons a l ih=>rw[List.cons_append,rH,rH,ih,Nat.mul_assoc]
def akN (h:∀c∈l,1<=c.aP.length):mU l=YE (rH l) 1099511627776:=by
 induction l using Ky with
 | nil=>rfl
 | append_singleton l c ih=>
  have hc:=h c (by simp);rw[TH,ih λ x hx=>h x (by simp[hx]),akM,Int.natCast_mul];generalize ((rH l:Nat):Int)=a;generalize hb:(c.aP.length:Int)=b;have hb1:1<=b:=by omega
  unfold YE;by_cases h1:(1099511627776:Int)<a
  ·have h2:(1099511627776:Int)<a*b:=by
    have:=Int.mul_le_mul_of_nonneg_left hb1 (show 0<=a by omega);omega
   have h3:(1099511627776:Int)<=1099511627776*b:=by omega
   rw[if_pos h1,if_pos h2];split<;>omega
  rw[if_neg h1]
def size_le (h:acg l):rH l<=4096:=by
 have hp:=h.prod;rw[akN λ c hc=>by
  obtain⟨k,hk,rfl⟩:=List.mem_iff_getElem.1 hc;have:=PG (lH (h.valid k hk));rw[List.getD_eq_getElem?_getD,List.getElem?_eq_getElem hk]at this;simp only[Option.getD_some]at this;omega]at hp
 unfold YE at hp;split at hp<;>omega
def ajo (h:acg l):VS l (List.replicate (l.length:Int).toNat 0):=by
 refine⟨by simp,λ i hi=>?_⟩;have:=PG (lH (h.valid i hi));rw[Sp.nP];omega
def ajp (h:nN l m=true):∀x∈m,0<=x.fE/\x.fE<l.length:=λ x hx=>(PI (PK h x hx)).1
def Fq {Dx:Int} {oK:Int}:W (tY r_ Dx oK) (λ r=>r=oC r_ Dx oK):=by
 unfold tY;refine aG (AJ) λ v1 hv1=>?_;subst v1;apply bL<;>intro c1
 ·have gW:=c1;have c1:=eu c1;refine ay ?_;(unfold oC;rw[show qg r_=false by simpa using gW];rfl)
 have gW:=c1;have c1:=eu c1;have hv:=mR (r:=r_) (by simpa using gW);have q1:=tdiv_le r_.kC r_.jE hv.1 om;refine wm<|ay ?_;(unfold oC;rw[show qg r_=true by simpa using gW];rfl)
variable {rA:ag9}
def Yn {r_:ajm} (h1:l_.length<=2000000) (h2:r_.length=l_.length) (h3:rA.length=l_.length):W (Jq l_ r_ rA) (λ r=>r=akL l_ (r_,rA)):=by
 unfold Jq;refine bK (λ(g1:Int)=>0<=g1/\g1<=l_.length/\(∀j:Nat,(j:Int)<g1->ani r_ rA l_ j=false)) (λ(g1:Int)=>(l_.length - g1).toNat) ?_ ?_
 ·intro aj g1 eT dA;obtain⟨dW,cB,bH⟩:=eT;unfold UW;refine wi ?_ ?_<;>intro c1
  ·refine wm<|wn ?_;refine aG (ig λ hc=>mg (Fq)) λ v3 hv3=>?_;subst v3;apply bL<;>intro c2
   ·have lM:=c2;have c2:=eu c2;refine ay ?_;(unfold akL;rw[yA (i:=g1.toNat) om (by rw[show ani r_ rA l_ g1.toNat=true from lM];rfl)])
   have lM:=c2;have c2:=eu c2;refine wn<|dA _ ?_ ?_
   ·(refine⟨ob,ob,eH bH dW lM⟩)
   exact ob
  refine ay ?_;(unfold akL;rw[Aw λ j hj=>(by rw[bH j om];rfl)])
 (refine⟨ob,ob,λ j hj=>by omega⟩)
def aeD {s_:ag8} (h1:Good l_ s_) (h2:Up l_ s_) (h3:m_.length<=2000000) (h4:∀x∈m_,0<=x.fE/\x.fE<l_.length):W (KR l_ s_ m_) (λ r=>r=Sy l_ s_ m_):=by
 have hsm:=h1.small;have hst:=QW l_ s_ l_.length;unfold KR;refine aG (P5 ob ob) λ v1 hv1=>?_;subst v1;have hs1:(Sm l_ s_).1.length=l_.length:=hst.1;have hs2:(Sm l_ s_).2.length=l_.length:=hst.2;refine bK (λ(g1:Int)=>0<=g1/\g1<=m_.length/\(m_.drop g1.toNat).any (abh (Sm l_ s_))=m_.any (abh (Sm l_ s_))) (λ(g1:Int)=>(m_.length - g1).toNat) ?_ ?_
 ·intro aj g1 eT dA;obtain⟨dW,cB,bH⟩:=eT;unfold R9;refine wi ?_ ?_<;>intro c1
  ·have hlt:g1.toNat<m_.length:=om;have hx:=h4 _ (getD_in (i:=g1.toNat) dM hlt);rw[drop_cons dM hlt,List.any_cons]at bH;refine wm<|wn ?_;refine aG (ig λ hc=>mg (Fq)) λ v4 hv4=>?_;subst v4;apply bL<;>intro c2
   ·have lM:=c2;have c2:=eu c2;refine ay ?_;(unfold Sy;rw[<- bH,show abh (Sm l_ s_) (m_.getD g1.toNat dM)=true from lM];rfl)
   have lM:=c2;have c2:=eu c2;refine wn<|dA _ ?_ ?_
   ·(refine⟨ob,ob,?_⟩;rw[<- bH,show abh (Sm l_ s_) (m_.getD g1.toNat dM)=false from lM,show(g1+1).toNat=g1.toNat+1 by omega];rfl)
   exact ob
  refine aG (Yn ob ob ob) λ v5 hv5=>?_;subst v5;refine ay ?_;(unfold Sy;rw[<- bH,show g1.toNat=m_.length by omega,List.drop_length];rfl)
 (refine⟨ob,ob,rfl⟩)
def Xe {s_:ag8} (h1:Good l_ s_):W (sF l_ s_) (λ r=>r=gV l_ s_):=by
 obtain⟨q1,q2,q3,q4,q5⟩:=h1;unfold sF;refine wn<|bK (λ(g1:Int×ajm)=>0<=g1.1/\g1.1<=l_.length/\g1.2=qY l_ s_ g1.1.toNat++List.replicate (l_.length - g1.1.toNat) dZ) (λ(g1:Int×ajm)=>(l_.length - g1.1).toNat) ?_ ?_
 ·intro aj g1 eT dA;obtain⟨dW,cB,bH⟩:=eT;unfold Gn;refine wi ?_ ?_<;>intro c1
  ·have hlt:g1.1.toNat<l_.length:=om;have hch:=q3 _ hlt;have hpar:=q5 _ hlt;have hpc:=q4 _ hlt;have hrl:=sU l_ s_ g1.1.toNat;have hgl:g1.2.length=l_.length:=(by rw[bH,List.length_append,hrl,List.length_replicate];omega);refine wm<|wn ?_;refine aG (PN ob ob ob ob) λ v7 hv7=>?_;subst v7;apply bL<;>intro c2
   ·have lM:=c2;have c2:=eu c2;refine wm<|dA _ ?_ ?_
    ·(refine⟨ob,ob,?_⟩;dsimp only;exact qP bH om (by unfold Yg;rw[lM];rfl))
    exact ob
   have lM:=c2;have c2:=eu c2;have hget:g1.2.getD (kF (l_.getD g1.1.toNat aL) (s_.getD g1.1.toNat 0)).toNat dZ=(qY l_ s_ g1.1.toNat).getD (kF (l_.getD g1.1.toNat aL) (s_.getD g1.1.toNat 0)).toNat dZ:=by rw[bH];exact mI _ om
   refine wn<|bL ?_ ?_<;>intro c3
   ·have jU:=c3;have c3:=eu c3;refine wm<|dA _ ?_ ?_
    ·(refine⟨ob,ob,?_⟩;dsimp only;exact qP bH om (by unfold Yg;rw[lM,<- hget,show(nO _||_)=true from jU];rfl))
    exact ob
   have jU:=c3;have c3:=eu c3;apply bL<;>intro c4
   ·have sW:=c4;have c4:=eu c4;refine wn<|aG (Yi) λ v8 xk=>?_;subst v8;refine wm<|dA _ ?_ ?_
    ·(refine⟨ob,ob,?_⟩;dsimp only;exact qP bH om (by unfold Yg;rw[lM,<- hget,show(nO _||_)=false from jU,sW];rfl))
    exact ob
   have sW:=c4;have c4:=eu c4;apply bL<;>intro c5
   ·have BM:=c5;have c5:=eu c5;refine wn<|aG (U9) λ v9 Kk=>?_;subst v9;refine wm<|dA _ ?_ ?_
    ·(refine⟨ob,ob,?_⟩;dsimp only;exact qP bH om (by unfold Yg;rw[lM,<- hget,show(nO _||_)=false from jU,sW,BM];rfl))
    exact ob
   have BM:=c5;have c5:=eu c5;refine wm<|wn ?_;refine dA _ ?_ ?_
   ·(refine⟨ob,ob,?_⟩;dsimp only;exact qP bH om (by unfold Yg;rw[lM,<- hget,show(nO _||_)=false from jU,sW,BM];rfl))
   exact ob
  refine ay ?_;(rw[bH,show g1.1.toNat=l_.length by omega,Nat.sub_self];simp[gV])
 (refine⟨ob,ob,?_⟩;simp[qY])
def Xf {s_:ag8} (h1:l_.length<=2000000) (h2:s_.length<=2000000) (h3:agk l_):W (xU l_ s_) (λ r=>r=vX l_ s_):=by
 unfold xU;refine aG (yV (uV ob)) λ v1 hv1=>?_;subst v1;apply bL<;>intro c1
 ·have gW:=c1;have c1:=eu c1;refine ay ?_;(unfold vX;rw[gW];rfl)
 have gW:=c1;have c1:=eu c1;have hck:eY l_=0:=by simpa using gW
 refine aG (Ck ob ob ob) λ v2 hv2=>?_;subst v2;apply bL<;>intro c2
 ·have lM:=c2;have c2:=eu c2;refine ay ?_;(unfold vX;rw[gW,lM];rfl)
 have lM:=c2;have c2:=eu c2;have hgd:=QU (vE hck) (show mF l_ s_=true by simpa using lM);refine aG (Xe ob) λ v3 hv3=>?_;subst v3;refine ay ?_;(unfold vX;rw[gW,lM];rfl)
def arV (h0:0<=x) (h1:x<=4000000):IntKind.i64.wrap (IE .u64 (IntKind.u64.wrap x) (1:Int))=x / 2:=by
 have e1:IntKind.u64.wrap x=x:=Sp.wrap_u64 ⟨om,om⟩;have e2:IE .u64 x 1=x / 2:=by
  unfold IE;rw[show(2:Int) ^ min (1:Int).toNat IntKind.u64.bits=2 from rfl];exact Int.fdiv_eq_ediv_of_nonneg _ om
 rw[e1,e2];exact wrap_i64 ⟨om,om⟩
variable {n:Nat}
def mul_one (h:n<=16):Ao (IntKind.u64.wrap ((1:Nat):Int)) (IntKind.u64.wrap ((n:Nat):Int)) ((0:Int),(n:Int)):=by
 have key:∀n:Nat,n<17->M.ex 100 (Ao (IntKind.u64.wrap ((1:Nat):Int)) (IntKind.u64.wrap ((n:Nat):Int)))=some ((0:Int),(n:Int)):=by decide +kernel
 exact M.amm 100 _ _ (key n om)
def nmH (b:aM) (u:aR):ByteArray:=(b.aT.av.getD u.l7.dF.toNat aF).ak.getD u.l7.gL.toNat ByteArray.empty
variable {i:Nat}
def qQ {α β:Type} (f:α->β) (l:List α) (d:α) (h:i<l.length):(l.take (i+1)).map f=(l.take i).map f++[f (l.getD i d)]:=by
 rw[List.take_add_one,List.map_append,List.getElem?_eq_getElem h,List.getD_eq_getElem?_getD,List.getElem?_eq_getElem h];rfl
def acB {b_:aM} {jg:aiX} {Mc:aiS} (h1:∀u∈jg,PW b_.aT u.l7) (h2:jg.length<=2000000) (h3:Mc.length<=2000000):W (Gs b_ jg Mc) (λ r=>r=(jg.map (nmH b_)++Mc,jg.map λ u=>u.l7.dF)):=by
 unfold Gs;refine bK (λ g1:Int×aiS×ag8=>0<=g1.1/\g1.1<=jg.length/\g1.2.1=(jg.take g1.1.toNat).map (nmH b_)/\g1.2.2=(jg.take g1.1.toNat).map λ u=>u.l7.dF) (λ g1=>(jg.length - g1.1).toNat) ?_ ⟨ob,ob,by simp,by simp⟩;intro aj g1 ⟨a1,a2,a3,a4⟩ ih1;have l3:g1.2.1.length=g1.1.toNat:=by rw[a3,List.length_map,List.length_take];omega
 have l4:g1.2.2.length=g1.1.toNat:=by rw[a4,List.length_map,List.length_take];omega
 unfold OO;refine wi ?_ ?_<;>intro c
 ·obtain⟨u1,u2,u3,u4⟩:=h1 _ (getD_in (i:=g1.1.toNat) bE om);refine wn<|aK om ?_;refine aK om ?_;refine aK (by unfold big;omega) ?_;refine aK (by unfold big;omega) ?_;refine wn ?_;have e:(g1.1+1).toNat=g1.1.toNat+1:=by omega
  refine ih1 _ ⟨ob,ob,?_,?_⟩ ob
  ·dsimp only;rw[e,qQ _ _ bE om,<- a3];rfl
  dsimp only;rw[e,qQ _ _ bE om,<- a4]
 have e:jg.take g1.1.toNat=jg:=List.take_of_length_le om;rw[e]at a3 a4;refine aK (by unfold big;omega) ?_;exact ay (by rw[a3,a4])
def Np (g:cu) (f:ByteArray):Int:=YD g.ak λ x=>f.toList==x.toList
variable {s_:aiS} {v_:ByteArray}
def yG (h:(s_.length:Int)<=9223372036854775807):W (slices_Index_string s_ v_) (λ r=>r=YD s_ λ x=>v_.toList==x.toList):=by
 unfold slices_Index_string;exact ah8 (P:=λ x:ByteArray=>v_.toList==x.toList) (d:=ByteArray.empty) h
def FY (h:(s_.length:Int)<=9223372036854775807):W (slices_Contains_string s_ v_) (λ r=>r=decide (0<=YD s_ λ x=>v_.toList==x.toList)):=
 aG (yG h) λ v hv=>ay (by rw[hv])
def P6 {g_:cu} {gI:ByteArray} (h:(g_.ak.length:Int)<=9223372036854775807):W (EX g_ gI) (λ r=>r=Np g_ gI):=by
 unfold EX;refine zG (ah8 (l:=g_.ak) (P:=λ x:ByteArray=>x.toList==gI.toList) (d:=ByteArray.empty) h) λ r hr=>?_;rw[hr];unfold Np;congr 1;funext x;exact Bool.eq_iff_iff.2 ⟨λ q=>by simp only[beq_iff_eq]at q ⊢;exact q.symm,λ q=>by simp only[beq_iff_eq]at q ⊢;exact q.symm⟩
def Ee (p:bg) (f:ByteArray) (n:Nat):ag8:=((List.range n).filter λ i=>decide (0<=Np (p.av.getD i aF) f)).map λ i=>((i:Nat):Int)
def ads (p:bg) (f:ByteArray) (n:Nat):Ee p f (n+1)=Ee p f n++(if decide (0<=Np (p.av.getD n aF) f)then[((n:Nat):Int)]else[]):=by
 unfold Ee;rw[List.range_succ,List.filter_append,List.map_append];congr 1;cases h:decide (0<=Np (p.av.getD n aF) f)with
 | true=>simp only[List.filter_cons,List.filter_nil,h,if_true,List.map_cons,List.map_nil]
 | false=>simp only[List.filter_cons,List.filter_nil,h,Bool.false_eq_true,if_false,List.map_nil]
variable {p:bg}
def Vo {f:ByteArray} (h:x∈Ee p f n):0<=x/\x<n/\0<=Np (p.av.getD x.toNat aF) f:=by
 unfold Ee at h;obtain⟨i,hi,rfl⟩:=List.mem_map.1 h;rw[List.mem_filter,List.mem_range]at hi;exact⟨om,om,by simpa using hi.2⟩
def P7 (p:bg) (f:ByteArray) (n:Nat):(Ee p f n).length<=n:=by
 unfold Ee;rw[List.length_map];exact Nat.le_trans (List.length_filter_le _ _) (by simp)
structure Ef (s:ByteArray):Prop where
 sz:0<s.size/\s.size<=16
 b0:97<=iA s 0/\iA s 0<=122
 bs:∀j:Nat,(j:Int)<s.size->iA s j=45\/(48<=iA s j/\iA s j<=57)\/(97<=iA s j/\iA s j<=122)
structure GpV (n:Int) (g:cu):Prop where
 ok:at5 n g
 nw:Ef g.wh
 so:∀k:Nat,1<=k->(k:Int)<g.bU.length->g.bU.getD (k - 1) 0<g.bU.getD k 0
 fw:∀j:Nat,(j:Int)<g.ak.length->Ef (g.ak.getD j ByteArray.empty)
 fd:∀k j:Nat,j<k->(k:Int)<g.ak.length->(g.ak.getD j ByteArray.empty).toList≠(g.ak.getD k ByteArray.empty).toList
structure akP (p:bg):Prop where
 ok:ado p
 gr:∀i:Nat,(i:Int)<p.av.length->GpV p.bU (p.av.getD i aF)
 nm:∀i k:Nat,k<i->(i:Int)<p.av.length->(p.av.getD k aF).wh.toList≠(p.av.getD i aF).wh.toList
structure RsV (l:ajB):Prop where
 ok:am6 l
 so:∀i:Nat,(i:Int)<l.length->∀k:Nat,1<=k->(k:Int)<((l.getD i dJ).eG).length->((l.getD i dJ).eG).getD (k - 1) 0<((l.getD i dJ).eG).getD k 0
structure BdV (b:aM):Prop where
 cl:eY b.bS=0
 su:Sp.eY b.bF=0
 pn:akP b.aT
 rs:RsV b.aZ
 dm:ao1 b.dz
def ank (l:ag8):Prop:=∀i j:Nat,i<j->(j:Int)<l.length->l.getD i 0<l.getD j 0
def arW {l:ag8} (h:∀k:Nat,1<=k->(k:Int)<l.length->l.getD (k - 1) 0<l.getD k 0):ank l:=by
 intro i j hij;induction j with
 | zero=>omega
 | succ j ih=>
  intro hj;have h1:=h (j+1) om hj;rw[Nat.add_sub_cancel]at h1;by_cases e:i=j
  ·rw[e];exact h1
  have:=ih om om;omega
def anl (p:bg) (x y:Int):Prop:=∀i j:Nat,(i:Int)<(p.av.getD x.toNat aF).bU.length->(j:Int)<(p.av.getD y.toNat aF).bU.length->(p.av.getD x.toNat aF).bU.getD i 0≠(p.av.getD y.toNat aF).bU.getD j 0
def arX (p:bg) (x:Int) (f:ByteArray):Prop:=∃k:Nat,(k:Int)<(p.av.getD x.toNat aF).ak.length/\((p.av.getD x.toNat aF).ak.getD k ByteArray.empty).toList=f.toList
structure abk (p:bg) (l:aiS) (gs:ag8):Prop where
 ir:∀x∈gs,0<=x/\x<p.av.length
 off:∀k:Nat,(k:Int)<gs.length->arX p (gs.getD k 0) (l.getD k ByteArray.empty)
 dj:∀k j:Nat,j<k->(k:Int)<gs.length->anl p (gs.getD j 0) (gs.getD k 0)
def abl (l:ajB) (s:ag9):Prop:=∀i:Nat,(i:Int)<l.length->s.getD i false=true->∀x∈(l.getD i dJ).eG,s.getD x.toNat false=true
structure agM (l:ajk) (s:ag9):Prop where
 al:∀i:Nat,(i:Int)<l.length->(l.getD i dQ).gF=true->s.getD i false=true
 pa:∀i:Nat,(i:Int)<l.length->s.getD i false=true->0<=(l.getD i dQ).aW->s.getD (l.getD i dQ).aW.toNat false=true
variable {j:Nat}
def He {l:ag9} (h:l.getD i false=true\/i=j) (hj:j<l.length):(l.set j true).getD i false=true:=by
 by_cases e:i=j
 ·subst e;rw[List.getD_eq_getElem?_getD,List.getElem?_set_self hj];rfl
 rw[List.getD_eq_getElem?_getD,List.getElem?_set_ne (Ne.symm e),<- List.getD_eq_getElem?_getD];exact h.resolve_right e
def kW {l:ag9} {b:Bool} (h:i≠j):(l.set j b).getD i false=l.getD i false:=by
 rw[List.getD_eq_getElem?_getD,List.getElem?_set_ne (Ne.symm h),<- List.getD_eq_getElem?_getD]
def qm {l:ag9} {b:Bool} (hj:j<l.length):(l.set j b).getD j false=b:=by
 rw[List.getD_eq_getElem?_getD,List.getElem?_set_self hj];rfl
def RgK (l:ajk) (s:ag9) (k:Nat):Prop:=((l.getD k dQ).gF=true->s.getD k false=true)/\(s.getD k false=true->0<=(l.getD k dQ).aW->s.getD (l.getD k dQ).aW.toNat false=true)
variable {s:ag9}
def Vp {b:Bool} (hi:i<s.length) (h:s.getD j false=true):(s.set i (s.getD i false||b)).getD j false=true:=by
 by_cases e:j=i
 ·subst e;rw[qm hi,h];rfl
 rw[kW e];exact h
variable {g:Int}
def aua {l:ajk} (h0:0<=g) (hs:s.length=l.length) (h:∀k:Nat,g<(k:Int)->(k:Int)<l.length->RgK l s k)
  (hn:¬ ((s.set g.toNat (s.getD g.toNat false||(l.getD g.toNat dQ).gF)).getD g.toNat false=true/\0<=(l.getD g.toNat dQ).aW)) {k:Nat} (hk:g<=(k:Int)) (hl:(k:Int)<l.length):RgK l (s.set g.toNat (s.getD g.toNat false||(l.getD g.toNat dQ).gF)) k:=by
 by_cases e:k=g.toNat
 ·subst e;refine⟨λ h1=>?_,λ h1 h2=>absurd ⟨h1,h2⟩ hn⟩;rw[qm om,h1,Bool.or_true]
 obtain⟨h1,h2⟩:=h k om hl;refine⟨λ q=>by rw[kW e];exact h1 q,λ q1 q2=>?_⟩;rw[kW e]at q1;exact Vp om (h2 q1 q2)
def aub {l:ajk} (h0:0<=g) (hs:s.length=l.length) (hp:0<=(l.getD g.toNat dQ).aW/\(l.getD g.toNat dQ).aW<g) (h:∀k:Nat,g<(k:Int)->(k:Int)<l.length->RgK l s k)
  {k:Nat} (hk:g<=(k:Int)) (hl:(k:Int)<l.length):RgK l ((s.set g.toNat (s.getD g.toNat false||(l.getD g.toNat dQ).gF)).set (l.getD g.toNat dQ).aW.toNat true) k:=by
 have hne:k≠(l.getD g.toNat dQ).aW.toNat:=by omega
 have hlen:(l.getD g.toNat dQ).aW.toNat<(s.set g.toNat (s.getD g.toNat false||(l.getD g.toNat dQ).gF)).length:=by rw[List.length_set];omega
 by_cases e:k=g.toNat
 ·subst e;refine⟨λ h1=>?_,λ h1 h2=>qm hlen⟩;rw[kW hne,qm om,h1,Bool.or_true]
 obtain⟨h1,h2⟩:=h k om hl;refine⟨λ q=>by rw[kW hne,kW e];exact h1 q,λ q1 q2=>?_⟩;rw[kW hne,kW e]at q1;exact He (.inl (Vp om (h2 q1 q2))) hlen
def Vq (h:akP p) (h0:0<=x) (h1:x<p.av.length):ank (p.av.getD x.toNat aF).bU:=arW λ k h2 h3=>(h.gr x.toNat om).so k h2 h3
def anm {l:aiS} {gs:ag8} (h:abk p l gs) (hx:0<=x/\x<p.av.length) (ho:arX p x (l.getD gs.length ByteArray.empty)) (hd:∀j:Nat,(j:Int)<gs.length->anl p (gs.getD j 0) x):abk p l (gs++[x]):=by
 have e1:∀j:Nat,j<gs.length->(gs++[x]).getD j 0=gs.getD j 0:=λ j hj=>mI 0 hj;have e2:(gs++[x]).getD gs.length 0=x:=lX 0 rfl;refine⟨λ y hy=>?_,λ k hk=>?_,λ k j hj hk=>?_⟩
 ·rcases List.mem_append.1 hy with hy | hy
  ·exact h.ir y hy
  rw[List.mem_singleton]at hy;rw[hy];exact hx
 ·rw[List.length_append,List.length_singleton]at hk;by_cases q:k<gs.length
  ·rw[e1 k q];exact h.off k om
  have:k=gs.length:=by omega
  subst this;rw[e2];exact ho
 rw[List.length_append,List.length_singleton]at hk;by_cases q:k<gs.length
 ·rw[e1 k q,e1 j om];exact h.dj k j hj om
 have:k=gs.length:=by omega
 subst this;rw[e2,e1 j om];exact hd j om
def ao6 (bs:ByteArray):∀(n i:Nat) (r:List UInt8),bs.size - i=n->ByteArray.toList.loop bs i r=r.reverse++bs.data.toList.drop i:=by
 intro n;induction n with
 | zero=>
  intro i r h;unfold ByteArray.toList.loop;rw[if_neg om,List.drop_eq_nil_of_le (by show bs.data.toList.length<=i;rw[Array.length_toList];show bs.size<=i;omega),List.append_nil]
 | succ n ih=>
  intro i r h;unfold ByteArray.toList.loop;rw[if_pos om,ih (i+1) _ om,List.reverse_cons,List.append_assoc];have hi:i<bs.data.toList.length:=by rw[Array.length_toList];show i<bs.size;omega
  rw[List.drop_eq_getElem_cons hi];congr 1;show bs.get! i::_=_;congr 1;unfold ByteArray.get!;rw[Array.getElem_toList];exact getElem!_pos bs.data i _
def ajq (b:ByteArray):b.toList=b.data.toList:=by
 unfold ByteArray.toList;rw[ao6 b _ 0 [] rfl];rfl
def Xg {a b:ByteArray} (h:a.toList=b.toList):a=b:=by
 rw[ajq,ajq]at h;cases a;cases b;congr;exact Array.toList_inj.1 h
def ap8 {s:ByteArray} (h:0<s.size):(s.toList==({ data:=#[] }:ByteArray).toList)=false:=by
 rw[beq_eq_false_iff_ne];intro e;have:=Xg e;rw[this]at h;exact absurd h (by decide)
def Ta {α:Type} {X:Nat->α} {x:α}:upd X j x j=x:=akr X j x
def upd_ne {α:Type} {X:Nat->α} {x:α} (h:i≠j):upd X j x i=X i:=by
 unfold upd;cases e:Nat.beq i j with
 | true=>exact absurd (Nat.eq_of_beq_eq_true e) h
 | false=>rfl
def UsV (p:bg) (l:akE):Prop:=(∀u∈l,PW p u)/\∀k j:Nat,j<k->(k:Int)<l.length->anl p (l.getD j gB).dF (l.getD k gB).dF
def aeE {s_:ByteArray} (h1:Ef s_):W (tJ s_) (λ r=>r=true):=by
 obtain⟨⟨w1,w2⟩,⟨w3,w4⟩,w5⟩:=h1;unfold tJ;refine aK (by intro _;omega) ?_;refine aK (by intro _;omega) ?_;apply bL<;>intro c1
 ·have gW:=c1;have c1:=eu c1;refine ay ?_;(exfalso;simp only[ap8 w1,Bool.false_or,Bool.or_eq_true,decide_eq_true_eq]at gW;omega)
 have gW:=c1;have c1:=eu c1;refine bK (λ(g1:Int)=>0<=g1) (λ(g1:Int)=>(s_.size - g1).toNat) ?_ ?_
 ·intro aj g1 eT dA;unfold KC;refine wi ?_ ?_<;>intro c2
  ·refine wn<|wi ?_ ?_<;>intro c3
   ·refine ay ?_;(exfalso;have:=w5 g1.toNat om;omega)
   refine wn<|dA _ ?_ ?_
   ·exact ob
   exact ob
  refine ay ?_;(first | rfl | exact ob)
 exact ob
def M5 (p:Prop) (c:Int) (A:Int->Prop) (r:Int):Prop:=(p/\r=c)\/(¬p/\A r)
variable {c:Int} {A:Int->Prop}
def eF {p:Prop} (h:p):M5 p c A c:=.inl ⟨h,rfl⟩
variable {r:Int}
def aN {p:Prop} (h:¬p) (a:A r):M5 p c A r:=.inr ⟨h,a⟩
def Thn (A B:Int->Prop) (r:Int):Prop:=(A r/\r≠0)\/(A 0/\B r)
def Fst (n:Nat) (E:Nat->Int->Prop) (r:Int):Prop:=(∃i:Nat,i<n/\(∀k:Nat,k<i->E k 0)/\E i r/\r≠0)\/((∀k:Nat,k<n->E k 0)/\r=0)
def FZ (A:Int->Prop):Prop:=∀a b,A a->A b->a=b
def FZ.zero:FZ (λ r=>r=0):=λ _ _ h k=>h.trans k.symm
def FZ.Ki {p:Prop} (h:FZ A):FZ (M5 p c A):=by
 rintro a b (⟨h1,h2⟩ | ⟨h1,h2⟩) (⟨h3,h4⟩ | ⟨h3,h4⟩)
 ·rw[h2,h4]
 ·exact absurd h1 h3
 ·exact absurd h3 h1
 exact h _ _ h2 h4
variable {B:Int->Prop}
def FZ.thn (h:FZ A) (k:FZ B):FZ (Thn A B):=by
 rintro a b (⟨h1,h2⟩ | ⟨h1,h2⟩) (⟨h3,h4⟩ | ⟨h3,h4⟩)
 ·exact h _ _ h1 h3
 ·exact absurd (h _ _ h1 h3) h2
 ·exact absurd (h _ _ h3 h1) h4
 exact k _ _ h2 h4
variable {E:Nat->Int->Prop}
def FZ.fst (h:∀i,FZ (E i)):FZ (Fst n E):=by
 rintro a b (⟨i,h1,h2,h3,h4⟩ | ⟨h1,h2⟩) (⟨j,k1,k2,k3,k4⟩ | ⟨k1,k2⟩)
 ·rcases Nat.lt_trichotomy i j with q | q | q
  ·exact absurd (h _ _ _ h3 (k2 i q)) h4
  ·subst q;exact h _ _ _ h3 k3
  exact absurd (h _ _ _ k3 (h2 j q)) k4
 ·exact absurd (h _ _ _ h3 (k1 i h1)) h4
 ·exact absurd (h _ _ _ k3 (h1 j k1)) k4
 rw[h2,k2]
def Ii (h:A r) (hr:r≠0):Thn A B r:=.inl ⟨h,hr⟩
def lI (h:A 0) (k:B r):Thn A B r:=.inr ⟨h,k⟩
def Ij (hi:i<n) (h:∀k:Nat,(k:Int)<i->E k 0) (he:E i r) (hr:r≠0):Fst n E r:=.inl ⟨i,hi,λ k hk=>h k om,he,hr⟩
def Q5 (h:∀k:Nat,k<n->E k 0):Fst n E 0:=.inr ⟨h,rfl⟩
def ano (n:Int) (g:cu):Int->Prop:=
 M5 ((g.bU.length:Int)=0\/(g.ak.length:Int)=0) 9<|
 M5 (8<(g.ak.length:Int)) 3<|
 M5 (∃j:Nat,(j:Int)<g.bU.length/\¬(0<=g.bU.getD j 0/\g.bU.getD j 0<n)) 2<|
 M5 (∃j:Nat,1<=j/\(j:Int)<g.bU.length/\g.bU.getD j 0<=g.bU.getD (j - 1) 0) 12<|
 M5 (∃j:Nat,(j:Int)<g.ak.length/\¬Ef (g.ak.getD j ByteArray.empty)) 1<|
 M5 (∃k j:Nat,j<k/\(k:Int)<g.ak.length/\(g.ak.getD j ByteArray.empty).toList=(g.ak.getD k ByteArray.empty).toList) 5<|
 λ r=>r=0
def ano.fun {n:Int} {g:cu}:FZ (ano n g):=.Ki (.Ki (.Ki (.Ki (.Ki (.Ki .zero)))))
def aiu (p:bg) (i:Nat):Int->Prop:=
 M5 (¬Ef (p.av.getD i aF).wh) 1<|
 M5 (∃k:Nat,k<i/\(p.av.getD k aF).wh.toList=(p.av.getD i aF).wh.toList) 5<|
 ano p.bU (p.av.getD i aF)
def aiu.fun:FZ (aiu p i):=.Ki (.Ki ano.fun)
def uI (p:bg):Int->Prop:=
 M5 (p.bU<0\/64<p.bU) 2<|
 M5 (24<(p.av.length:Int)) 3<|
 Fst p.av.length (aiu p)
def uI.fun:FZ (uI p):=.Ki (.Ki (.fst λ _=>aiu.fun))
def Ik {l:ag8} (h:∀j:Nat,(j:Int)<g->1<=j->l.getD (j - 1) 0<l.getD j 0) (hg:(l.length:Int)<=g):¬ ∃j:Nat,1<=j/\(j:Int)<l.length/\l.getD j 0<=l.getD (j - 1) 0:=λ⟨j,h1,h2,h3⟩=>by
 have:=h j om h1;omega
def gZ {P:Nat->Prop} (h:∀j:Nat,(j:Int)<g->P j) (hg:(n:Int)<=g):¬ ∃j:Nat,(j:Int)<n/\¬P j:=λ⟨j,h1,h2⟩=>h2 (h j om)
def La {s_:ByteArray}:W (tJ s_) (λ r=>r=true↔Ef s_):=by
 unfold tJ;refine aK (by(intro hc;have:=abf hc;omega)) ?_;refine aK (by(intro hc;simp only[Bool.or_eq_false_iff]at hc;have:=abf (s:=s_) (by simp only[Bool.or_eq_false_iff];exact hc.1);omega)) ?_;apply bL<;>intro c1
 ·have gW:=c1;have c1:=eu c1;refine ay ?_;(constructor;(intro e;cases e);(rintro ⟨⟨a1,a2⟩,⟨a3,a4⟩,a5⟩;simp only[Bool.or_eq_true,decide_eq_true_eq]at gW;rcases gW with((c | c) | c) | c;(rw[ap8 a1]at c;cases c);all_goals omega))
 have gW:=c1;have c1:=eu c1;have hsz:0<s_.size/\s_.size<=16:=akF gW;refine bK (λ(g1:Int)=>1<=g1/\(∀j:Nat,(j:Int)<g1->1<=j->iA s_ j=45\/(48<=iA s_ j/\iA s_ j<=57)\/(97<=iA s_ j/\iA s_ j<=122))) (λ(g1:Int)=>(s_.size - g1).toNat) ?_ ?_
 ·intro aj g1 eT dA;obtain⟨dW,cB⟩:=eT;unfold KC;refine wi ?_ ?_<;>intro c2
  ·refine wn<|wi ?_ ?_<;>intro c3
   ·refine ay ?_;(constructor;(intro e;cases e);(rintro ⟨_,_,a5⟩;have:=a5 g1.toNat om;omega))
   refine wn<|dA _ ?_ ?_
   ·(refine⟨ob,λ j h1 h2=>?_⟩;by_cases q:(j:Int)<g1;(exact cB j q h2);(have e:j=g1.toNat:=by omega);subst e;omega)
   exact ob
  refine ay ?_;(constructor;(intro _;refine⟨om,om,λ j hj=>?_⟩;by_cases q:j=0;(subst q;exact .inr (.inr ⟨om,om⟩));exact cB j om om);(intro _;rfl))
 (refine⟨ob,λ j h1 h2=>by omega⟩)
def AL {s_:ByteArray}:W (vV s_) (λ r=>r=true↔Ef s_):=by
 unfold vV;refine aK (by(intro hc;simp only[Bool.or_eq_false_iff,beq_eq_false_iff_ne]at hc;omega)) ?_;refine aK (by(intro hc;simp only[Bool.or_eq_false_iff,beq_eq_false_iff_ne]at hc;omega)) ?_;apply bL<;>intro c1
 ·have gW:=c1;have c1:=eu c1;refine ay ?_;(constructor;(intro e;cases e);(rintro ⟨a1,a3,a5⟩;omega))
 have gW:=c1;have c1:=eu c1;have hsz:s_.size<=16:=(by simp only[Bool.or_eq_false_iff]at gW;have:=of_decide_eq_false gW.1.1.2;omega);refine bK (λ(g1:Int)=>0<=g1/\(∀j:Nat,(j:Int)<g1->iA s_ j=45\/(48<=iA s_ j/\iA s_ j<=57)\/(97<=iA s_ j/\iA s_ j<=122))) (λ(g1:Int)=>(s_.size - g1).toNat) ?_ ?_
 ·intro aj g1 eT dA;obtain⟨dW,cB⟩:=eT;unfold R6;refine wi ?_ ?_<;>intro c2
  ·refine wm<|wm ?_;refine wn<|wi ?_ ?_<;>intro c3
   ·refine ay ?_;(constructor;(intro e;cases e);(rintro ⟨_,_,a5⟩;have:=a5 g1.toNat om;omega))
   refine wn<|dA _ ?_ ?_
   ·(refine⟨ob,eH cB dW om⟩)
   exact ob
  refine ay ?_;(constructor;(intro _;exact⟨om,om,λ j hj=>cB j om⟩);intro _;rfl)
 exact ak7
def Lb (h1:s_.length<=2000000):W (slices_Index_string s_ v_) (λ r=>(0<=r↔∃j:Nat,(j:Int)<s_.length/\(s_.getD j ByteArray.empty).toList=v_.toList)):=by
 unfold slices_Index_string;refine bK (λ(g1:Int)=>0<=g1/\(∀j:Nat,(j:Int)<g1->(s_.getD j ByteArray.empty).toList≠v_.toList)) (λ(g1:Int)=>(s_.length - g1).toNat) ?_ ?_
 ·intro aj g1 eT dA;obtain⟨dW,cB⟩:=eT;unfold xE;refine wi ?_ ?_<;>intro c1
  ·refine wn<|wi ?_ ?_<;>intro c2
   ·refine ay ?_;(constructor;(intro _;exact⟨g1.toNat,om,c2.symm⟩);(intro _;omega))
   refine wn<|dA _ ?_ ?_
   ·(refine⟨ob,eH cB dW (λ e=>c2 e.symm)⟩)
   exact ob
  refine ay ?_;(constructor;(intro e;omega);(rintro ⟨j,h1,h2⟩;exact absurd h2 (cB j om)))
 exact ak7
def F3 (h1:s_.length<=2000000):W (slices_Contains_string s_ v_) (λ r=>r=true↔∃j:Nat,(j:Int)<s_.length/\(s_.getD j ByteArray.empty).toList=v_.toList):=by
 unfold slices_Contains_string;refine aG (Lb ob) λ v1 hv1=>?_;refine ay ?_;(rw[<- hv1];simp)
def acC {Om:Int} {g_:cu} (h1:g_.bU.length<=2000000) (h2:g_.ak.length<=2000000):W (KD Om g_) (λ r=>ano Om g_ r):=by
 unfold KD;refine wi ?_ ?_<;>intro c1
 ·exact ay<|eF c1
 refine wi ?_ ?_<;>intro c2
 ·exact ay<|aN om (eF c2)
 refine bK (λ(g1:Int)=>0<=g1/\(∀j:Nat,(j:Int)<g1->0<=g_.bU.getD j 0/\g_.bU.getD j 0<Om)) (λ(g1:Int)=>(g_.bU.length - g1).toNat) ?_ ?_
 ·intro aj g1 eT dA;obtain⟨dW,cB⟩:=eT;unfold RX;refine wi ?_ ?_<;>intro c3
  ·refine wn<|wi ?_ ?_<;>intro c4
   ·exact ay<|aN om (aN om (eF ⟨g1.toNat,om,om⟩))
   refine wn<|dA _ ?_ ?_
   ·(refine⟨ob,eH cB dW om⟩)
   exact ob
  refine bK (λ(g2:Int)=>1<=g2/\(∀j:Nat,(j:Int)<g2->1<=j->g_.bU.getD (j - 1) 0<g_.bU.getD j 0)) (λ(g2:Int)=>(g_.bU.length - g2).toNat) ?_ ?_
  ·intro dR g2 nk qJ;obtain⟨rG,jL⟩:=nk;unfold Ol;refine wi ?_ ?_<;>intro c5
   ·refine wm<|wn ?_;refine wi ?_ ?_<;>intro c6
    ·exact ay<|aN om (aN om (aN (gZ cB om) (eF ⟨g2.toNat,om,om,by rw[show g2.toNat - 1=(g2 - 1).toNat by omega];omega⟩)))
    refine wn<|qJ _ ?_ ?_
    ·(refine⟨ob,λ j h1 h2=>?_⟩;by_cases q:(j:Int)<g2;(exact jL j q h2);(have e:j=g2.toNat:=by omega);subst e;rw[show g2.toNat - 1=(g2 - 1).toNat by omega];omega)
    exact ob
   refine bK (λ(g3:Int)=>0<=g3/\(∀j:Nat,(j:Int)<g3->Ef (g_.ak.getD j ByteArray.empty))) (λ(g3:Int)=>(g_.ak.length - g3).toNat) ?_ ?_
   ·intro jO g3 aeF aeG;obtain⟨Yo,qK⟩:=aeF;unfold Oj;refine wi ?_ ?_<;>intro c7
    ·refine wn<|aG (La) λ v3 hv3=>?_;apply bL<;>intro c8
     ·have c8o:=c8;have c8:=eu c8;exact ay<|aN om (aN om (aN (gZ cB om) (aN (Ik jL om) (eF ⟨g3.toNat,om,λ h=>by simp[hv3.2 h]at c8o⟩))))
     have c8o:=c8;have c8:=eu c8;refine wn<|aeG _ ?_ ?_
     ·(refine⟨ob,eH qK Yo (hv3.1 (by simpa using c8o))⟩)
     exact ob
    refine bK (λ(g4:Int)=>0<=g4/\(∀k:Nat,(k:Int)<g4->∀j:Nat,j<k->(g_.ak.getD j ByteArray.empty).toList≠(g_.ak.getD k ByteArray.empty).toList)) (λ(g4:Int)=>(g_.ak.length - g4).toNat) ?_ ?_
    ·intro jA g4 K7 JO;obtain⟨G9,mG⟩:=K7;unfold Oi;refine wi ?_ ?_<;>intro c9
     ·refine wm<|aG (F3 ob) λ v6 hv6=>?_;apply bL<;>intro c10
      ·have akK:=c10;have c10:=eu c10;exact ay (aN om (aN om (aN (gZ cB om) (aN (Ik jL om) (aN (gZ qK om) (eF (by obtain⟨j,h1,h2⟩:=hv6.1 c10;rw[List.length_take]at h1;rw[Eo _ _ _ _ om]at h2;exact⟨g4.toNat,j,om,om,h2⟩)))))))
      have akK:=c10;have c10:=eu c10;refine wn<|JO _ ?_ ?_
      ·(refine⟨ob,λ k hk j hj=>?_⟩;by_cases q:(k:Int)<g4;(exact mG k q j hj);(have e:k=g4.toNat:=by omega);subst e;intro e2;have:=hv6.2 ⟨j,by rw[List.length_take];omega,by rw[Eo _ _ _ _ om];exact e2⟩;simp[this]at akK)
      exact ob
     exact ay (aN om (aN om (aN (gZ cB om) (aN (Ik jL om) (aN (gZ qK om) (aN (λ⟨k,j,h1,h2,h3⟩=>mG k om j h1 h3) rfl))))))
    (refine⟨ob,λ j h1 h2=>by omega⟩)
   exact ak7
  (refine⟨ob,λ j h1 h2=>by omega⟩)
 exact ak7
def abm {p_:bg} {i_:Int} (h1:0<=i_) (h2:i_<p_.av.length) (h3:p_.av.length<=2000000) (h4:∀g∈p_.av,g.bU.length<=2000000/\g.ak.length<=2000000):W (Gy p_ i_) (λ r=>aiu p_ i_.toNat r):=by
 have hgl:=h4 _ (getD_in (i:=i_.toNat) aF om);unfold Gy;refine wn<|aG (AL) λ v1 hv1=>?_;apply bL<;>intro c1
 ·have gW:=c1;have c1:=eu c1;exact ay<|eF (λ h=>by simp[hv1.2 h]at gW)
 have gW:=c1;have c1:=eu c1;refine bK (λ(g1:Int)=>0<=g1/\(∀k:Nat,(k:Int)<g1->(p_.av.getD k aF).wh.toList≠(p_.av.getD i_.toNat aF).wh.toList)) (λ(g1:Int)=>(i_ - g1).toNat) ?_ ?_
 ·intro aj g1 eT dA;obtain⟨dW,cB⟩:=eT;unfold OU;refine wi ?_ ?_<;>intro c2
  ·refine wn<|wi ?_ ?_<;>intro c3
   ·exact ay (aN (λ h=>h (hv1.1 (by simpa using gW))) (eF ⟨g1.toNat,om,c3⟩))
   refine wn<|dA _ ?_ ?_
   ·(refine⟨ob,eH cB dW c3⟩)
   exact ob
  refine wi ?_ ?_<;>intro c4
  ·exact ay (aN (λ h=>h (hv1.1 (by simpa using gW))) (aN (λ⟨k,h1,h2⟩=>cB k om h2) (eF c4)))
  refine wi ?_ ?_<;>intro c5
  ·exact ay (aN (λ h=>h (hv1.1 (by simpa using gW))) (aN (λ⟨k,h1,h2⟩=>cB k om h2) (aN om (eF c5))))
  refine bK (λ(g2:Int)=>0<=g2/\(∀j:Nat,(j:Int)<g2->0<=(p_.av.getD i_.toNat aF).bU.getD j 0/\(p_.av.getD i_.toNat aF).bU.getD j 0<p_.bU)) (λ(g2:Int)=>((p_.av.getD i_.toNat aF).bU.length - g2).toNat) ?_ ?_
  ·intro dR g2 nk qJ;obtain⟨rG,jL⟩:=nk;unfold Mv;refine wi ?_ ?_<;>intro c6
   ·refine wm<|wi ?_ ?_<;>intro c7
    ·exact ay<|aN (λ h=>h (hv1.1 (by simpa using gW))) (aN (λ⟨k,h1,h2⟩=>cB k om h2) (aN om (aN om (eF ⟨g2.toNat,om,om⟩))))
    refine wn<|qJ _ ?_ ?_
    ·(refine⟨ob,eH jL rG om⟩)
    exact ob
   refine bK (λ(g3:Int)=>1<=g3/\(∀j:Nat,(j:Int)<g3->1<=j->(p_.av.getD i_.toNat aF).bU.getD (j - 1) 0<(p_.av.getD i_.toNat aF).bU.getD j 0)) (λ(g3:Int)=>((p_.av.getD i_.toNat aF).bU.length - g3).toNat) ?_ ?_
   ·intro jO g3 aeF aeG;obtain⟨Yo,qK⟩:=aeF;unfold Ms;refine wi ?_ ?_<;>intro c8
    ·refine wm<|wn ?_;refine wi ?_ ?_<;>intro c9
     ·exact ay<|aN (λ h=>h (hv1.1 (by simpa using gW))) (aN (λ⟨k,h1,h2⟩=>cB k om h2) (aN om (aN om (aN (gZ jL om) (eF ⟨g3.toNat,om,om,by rw[show g3.toNat - 1=(g3 - 1).toNat by omega];omega⟩)))))
     refine wn<|aeG _ ?_ ?_
     ·(refine⟨ob,λ j h1 h2=>?_⟩;by_cases q:(j:Int)<g3;(exact qK j q h2);(have e:j=g3.toNat:=by omega);subst e;rw[show g3.toNat - 1=(g3 - 1).toNat by omega];omega)
     exact ob
    refine bK (λ(g4:Int)=>0<=g4/\(∀j:Nat,(j:Int)<g4->Ef ((p_.av.getD i_.toNat aF).ak.getD j ByteArray.empty))) (λ(g4:Int)=>((p_.av.getD i_.toNat aF).ak.length - g4).toNat) ?_ ?_
    ·intro jA g4 K7 JO;obtain⟨G9,mG⟩:=K7;unfold Mr;refine wi ?_ ?_<;>intro c10
     ·refine wn<|aG (AL) λ v4 hv4=>?_;apply bL<;>intro c11
      ·have arZ:=c11;have c11:=eu c11;exact ay<|aN (λ h=>h (hv1.1 (by simpa using gW))) (aN (λ⟨k,h1,h2⟩=>cB k om h2) (aN om (aN om (aN (gZ jL om) (aN (Ik qK om) (eF ⟨g4.toNat,om,λ h=>by simp[hv4.2 h]at arZ⟩))))))
      have arZ:=c11;have c11:=eu c11;refine wn<|JO _ ?_ ?_
      ·(refine⟨ob,eH mG G9 (hv4.1 (by simpa using arZ))⟩)
      exact ob
     refine bK (λ(g5:Int)=>0<=g5/\(∀k:Nat,(k:Int)<g5->∀j:Nat,j<k->((p_.av.getD i_.toNat aF).ak.getD j ByteArray.empty).toList≠((p_.av.getD i_.toNat aF).ak.getD k ByteArray.empty).toList)) (λ(g5:Int)=>((p_.av.getD i_.toNat aF).ak.length - g5).toNat) ?_ ?_
     ·intro kr g5 Xc Xd;obtain⟨Sr,Fp⟩:=Xc;unfold Mq;refine wi ?_ ?_<;>intro c12
      ·refine bK (λ(g8:Int)=>0<=g8/\(∀j:Nat,(j:Int)<g8->((p_.av.getD i_.toNat aF).ak.getD j ByteArray.empty).toList≠((p_.av.getD i_.toNat aF).ak.getD g5.toNat ByteArray.empty).toList)) (λ(g8:Int)=>(g5 - g8).toNat) ?_ ?_
       ·intro aaZ g8 ar0 ar1;obtain⟨ap9,anp⟩:=ar0;unfold Ml;refine wi ?_ ?_<;>intro c13
        ·refine wm<|wi ?_ ?_<;>intro c14
         ·exact ay (aN (λ h=>h (hv1.1 (by simpa using gW))) (aN (λ⟨k,h1,h2⟩=>cB k om h2) (aN om (aN om (aN (gZ jL om) (aN (Ik qK om) (aN (gZ mG om) (eF ⟨g5.toNat,g8.toNat,om,om,c14⟩))))))))
         refine wn<|ar1 _ ?_ ?_
         ·(refine⟨ob,eH anp ap9 c14⟩)
         exact ob
        refine wn<|Xd _ ?_ ?_
        ·(refine⟨ob,λ k hk j hj=>?_⟩;by_cases q:(k:Int)<g5;(exact Fp k q j hj);(have e:k=g5.toNat:=by omega);subst e;exact anp j om)
        exact ob
       exact ak7
      exact ay (aN (λ h=>h (hv1.1 (by simpa using gW))) (aN (λ⟨k,h1,h2⟩=>cB k om h2) (aN om (aN om (aN (gZ jL om) (aN (Ik qK om) (aN (gZ mG om) (aN (λ⟨k,j,h1,h2,h3⟩=>Fp k om j h1 h3) rfl))))))))
     (refine⟨ob,λ j h1 h2=>by omega⟩)
    exact ak7
   (refine⟨ob,λ j h1 h2=>by omega⟩)
  exact ak7
 exact ak7
def AO {l:ag8} (hn:n<=l.length):(l.take n).contains x=true↔∃k:Nat,k<n/\l.getD k 0=x:=by
 rw[List.contains_iff_mem,List.mem_take_iff_getElem];constructor
 ·rintro ⟨i,hi,e⟩;exact⟨i,om,by rw[List.getD_eq_getElem?_getD,List.getElem?_eq_getElem om];exact e⟩
 rintro ⟨k,hk,e⟩;rw[List.getD_eq_getElem?_getD,List.getElem?_eq_getElem om]at e;exact⟨k,om,e⟩
def RsE (l:ajB) (i:Nat):Int->Prop:=
 M5 (∃j:Nat,(j:Int)<((l.getD i dJ).eG).length/\¬(0<=((l.getD i dJ).eG).getD j 0/\((l.getD i dJ).eG).getD j 0<(i:Int))) 2<|
 M5 (∃j:Nat,1<=j/\(j:Int)<((l.getD i dJ).eG).length/\((l.getD i dJ).eG).getD j 0<=((l.getD i dJ).eG).getD (j - 1) 0) 12<|
 λ r=>r=0
def RsA (l:ajB):Int->Prop:=M5 (32<(l.length:Int)) 3<|Fst l.length (RsE l)
def RsA.fun {l:ajB}:FZ (RsA l):=.Ki (.fst λ _=>.Ki (.Ki .zero))
def pq {p:Prop} (hc:c≠0) (h:M5 p c A 0):¬p/\A 0:=by
 rcases h with⟨_,h⟩ | h
 ·exact absurd h.symm hc
 exact h
def ajr (h:Fst n E 0):∀k,k<n->E k 0:=by
 rcases h with⟨_,_,_,_,h⟩ | h
 ·exact absurd rfl h
 exact h.1
def RsA.ok {l:ajB} (h:RsA l 0):am6 l:=by
 obtain⟨h1,h2⟩:=pq (by decide) h;refine⟨om,λ i hi=>jT 0 λ j hj=>?_⟩;obtain⟨h3,_⟩:=pq (by decide) (ajr h2 i hi);by_cases q:0<=((l.getD i dJ).eG).getD j 0/\((l.getD i dJ).eG).getD j 0<(i:Int)
 ·exact q
 exact absurd ⟨j,om,q⟩ h3
def anq (l:ajB) (s:ag9):Prop:=(s.length:Int)=l.length/\∀i:Nat,(i:Int)<l.length->∀j:Nat,(j:Int)<((l.getD i dJ).eG).length->s.getD i false=true->s.getD (((l.getD i dJ).eG).getD j 0).toNat false=true
def DmA (l:ajk):Int->Prop:=M5 (16<(l.length:Int)) 3<|M5 (∃i:Nat,(i:Int)<l.length/\¬(-1<=(l.getD i dQ).aW/\(l.getD i dQ).aW<(i:Int))) 2<|λ r=>r=0
def DmA.fun {l:ajk}:FZ (DmA l):=.Ki (.Ki .zero)
def DmA.ok {l:ajk} (h:DmA l 0):ao1 l:=by
 obtain⟨h1,h2⟩:=pq (by decide) h;obtain⟨h3,_⟩:=pq (by decide) h2;refine⟨om,λ i hi=>?_⟩;by_cases q : -1<=(l.getD i dQ).aW/\(l.getD i dQ).aW<(i:Int)
 ·exact q
 exact absurd ⟨i,om,q⟩ h3
def DgP (l:ajk) (s:ag9) (i:Nat):Prop:=((l.getD i dQ).gF=true->s.getD i false=true)/\(s.getD i false=true->0<=(l.getD i dQ).aW->s.getD (l.getD i dQ).aW.toNat false=true)
def RgP (l:ajk) (s:ag9):Prop:=(s.length:Int)=l.length/\∀i:Nat,(i:Int)<l.length->DgP l s i
def yH (l:aha) (m:ag8):Prop:=∀i:Nat,(i:Int)<m.length->(0<=m.getD i 0/\m.getD i 0<l.length)/\∀k:Nat,k<i->m.getD k 0≠m.getD i 0
def anr (b:aM) (l:aha) (g:aO):Prop:=((g.bM.length:Int)=b.bS.length/\(g.dB.On.length:Int)=b.bF.length/\(g.dB.dL.length:Int)=b.bF.length/\(g.bV.length:Int)=b.aZ.length/\(g.dH.length:Int)=b.dz.length)/\
 (∀i:Nat,(i:Int)<g.bM.length->0<=g.bM.getD i 0/\g.bM.getD i 0<(b.bS.getD i aL).aP.length)/\∀i:Nat,(i:Int)<g.dK.length -> -1<=(g.dK.getD i bE).iW/\(g.dK.getD i bE).iW<l.length
def uX {p_:bg} (h1:∀g∈p_.av,g.bU.length<=2000000/\g.ak.length<=2000000):W (vP p_) (λ r=>uI p_ r):=by
 unfold vP;refine wi ?_ ?_<;>intro c1
 ·exact ay<|eF c1
 refine wi ?_ ?_<;>intro c2
 ·exact ay<|aN om (eF c2)
 refine bK (λ(g1:(Int×(qR->Option Int)))=>0<=g1.1/\(∀j:Nat,(j:Int)<g1.1->aiu p_ j 0)/\(∀s:ByteArray,Dp g1.2 (.s s)≠0↔∃k:Nat,(k:Int)<g1.1/\(p_.av.getD k aF).wh=s)) (λ(g1:(Int×(qR->Option Int)))=>(p_.av.length - g1.1).toNat) ?_ ?_
 ·intro aj g1 eT dA;obtain⟨dW,cB,bH⟩:=eT;unfold RY;refine wi ?_ ?_<;>intro c3
  ·have hgl:=h1 _ (getD_in (i:=g1.1.toNat) aF om);refine wn<|aG (La) λ v5 hv5=>?_;apply bL<;>intro c4
   ·have sW:=c4;have c4:=eu c4;exact ay (aN om (aN om (Ij (i:=g1.1.toNat) om (λ k hk=>cB k om) (eF (λ h=>by simp[hv5.2 h]at sW)) (by decide))))
   have sW:=c4;have c4:=eu c4;refine wi ?_ ?_<;>intro c5
   ·exact ay (aN om (aN om (Ij (i:=g1.1.toNat) om (λ k hk=>cB k om) (aN (λ h=>h (hv5.1 (by simpa using sW))) (eF (by obtain⟨k,h1,h2⟩:=(bH _).1 c5;exact⟨k,om,by rw[h2]⟩))) (by decide))))
   refine aG (acC hgl.1 hgl.2) λ v6 hv6=>?_;apply bL<;>intro c6
   ·have c6o:=c6;have c6:=eu c6;exact ay (aN om (aN om (Ij (i:=g1.1.toNat) om (λ k hk=>cB k om) (aN (λ h=>h (hv5.1 (by simpa using sW))) (aN (λ⟨k,h1,h2⟩=>(bH _).2 ⟨k,om,Xg h2⟩ c5) hv6)) (c6))))
   have c6o:=c6;have c6:=eu c6;refine wn<|dA _ ?_ ?_
   ·(refine⟨ob,eH cB dW (aN (λ h=>h (hv5.1 (by simpa using sW))) (aN (λ⟨k,h1,h2⟩=>(bH _).2 ⟨k,om,Xg h2⟩ c5) (by have e:v6=0:=(by simpa using c6o);rw[e]at hv6;exact hv6))),λ s=>?_⟩;dsimp only;rw[zU];by_cases q:(.s s:qR)=.s (p_.av.getD g1.1.toNat aF).wh;(rw[if_pos q];constructor;(intro _;exact⟨g1.1.toNat,om,(qR.s.inj q).symm⟩);(intro _;decide));(rw[if_neg q,bH];constructor;(rintro ⟨k,h1,h2⟩;exact⟨k,om,h2⟩);(rintro ⟨k,h1,h2⟩;refine⟨k,?_,h2⟩;by_cases e:(k:Int)<g1.1;(exact e);exfalso;apply q;rw[<- h2,show k=g1.1.toNat by omega])))
   exact ob
  exact ay (aN om (aN om (Q5 (λ k hk=>cB k om))))
 (refine⟨ob,λ j hj=>by dsimp only at hj;omega,λ s=>?_⟩;constructor;(intro h;exact absurd rfl h);(rintro ⟨k,h1,_⟩;dsimp only at h1;omega))
def yI {p_:bg} (h1:∀g∈p_.av,g.bU.length<=2000000/\g.ak.length<=2000000):W (wK p_) (λ r=>uI p_ r):=by
 unfold wK;refine wi ?_ ?_<;>intro c1
 ·exact ay<|eF c1
 refine wi ?_ ?_<;>intro c2
 ·exact ay<|aN om (eF c2)
 refine bK (λ(g1:Int)=>0<=g1/\(∀j:Nat,(j:Int)<g1->aiu p_ j 0)) (λ(g1:Int)=>(p_.av.length - g1).toNat) ?_ ?_
 ·intro aj g1 eT dA;obtain⟨dW,cB⟩:=eT;unfold OV;refine wi ?_ ?_<;>intro c3
  ·refine aG (abm om om om h1) λ v3 hv3=>?_;apply bL<;>intro c4
   ·have sW:=c4;have c4:=eu c4;exact ay (aN om (aN om (Ij (i:=g1.toNat) om (λ k hk=>cB k om) (hv3) (c4))))
   have sW:=c4;have c4:=eu c4;refine wn<|dA _ ?_ ?_
   ·(refine⟨ob,eH cB dW (by have e:v3=0:=(by simpa using sW);rw[e]at hv3;exact hv3)⟩)
   exact ob
  exact ay (aN om (aN om (Q5 (λ k hk=>cB k om))))
 exact ak7
def Fu {l_:ajB} (h1:∀g∈l_,g.eG.length<=2000000):W (wC l_) (λ r=>RsA l_ r):=by
 unfold wC;refine wi ?_ ?_<;>intro c1
 ·exact ay<|eF c1
 refine bK (λ(g1:Int)=>0<=g1/\(∀j:Nat,(j:Int)<g1->RsE l_ j 0)) (λ(g1:Int)=>(l_.length - g1).toNat) ?_ ?_
 ·intro aj g1 eT dA;obtain⟨dW,cB⟩:=eT;unfold Oq;refine wi ?_ ?_<;>intro c2
  ·have hgl:=h1 _ (getD_in (i:=g1.toNat) dJ om);refine wn<|bK (λ(g6:Int)=>0<=g6/\(∀j:Nat,(j:Int)<g6->0<=((l_.getD g1.toNat dJ).eG).getD j 0/\((l_.getD g1.toNat dJ).eG).getD j 0<((g1.toNat:Nat):Int))) (λ(g6:Int)=>(((l_.getD g1.toNat dJ).eG).length - g6).toNat) ?_ ?_
   ·intro jR g6 PX K8;obtain⟨M0,wS⟩:=PX;unfold Oo;refine wi ?_ ?_<;>intro c3
    ·refine wn<|wi ?_ ?_<;>intro c4
     ·exact ay<|aN om (Ij (i:=g1.toNat) om (λ k hk=>cB k om) (eF ⟨g6.toNat,om,om⟩) (by decide))
     refine wn<|K8 _ ?_ ?_
     ·(refine⟨ob,eH wS M0 om⟩)
     exact ob
    refine bK (λ(g7:Int)=>1<=g7/\(∀j:Nat,(j:Int)<g7->1<=j->((l_.getD g1.toNat dJ).eG).getD (j - 1) 0<((l_.getD g1.toNat dJ).eG).getD j 0)) (λ(g7:Int)=>(((l_.getD g1.toNat dJ).eG).length - g7).toNat) ?_ ?_
    ·intro nX g7 abn YL;obtain⟨abo,Dh⟩:=abn;unfold LB;refine wi ?_ ?_<;>intro c5
     ·refine wm<|wn ?_;refine wi ?_ ?_<;>intro c6
      ·exact ay<|aN om (Ij (i:=g1.toNat) om (λ k hk=>cB k om) (aN (gZ wS om) (eF ⟨g7.toNat,om,om,by rw[show g7.toNat - 1=(g7 - 1).toNat by omega];omega⟩)) (by decide))
      refine wn<|YL _ ?_ ?_
      ·(refine⟨ob,λ j h1 h2=>?_⟩;by_cases q:(j:Int)<g7;(exact Dh j q h2);(have e:j=g7.toNat:=by omega);subst e;rw[show g7.toNat - 1=(g7 - 1).toNat by omega];omega)
      exact ob
     refine wn<|dA _ ?_ ?_
     ·(refine⟨ob,eH cB dW (aN (gZ wS om) (aN (Ik Dh om) rfl))⟩)
     exact ob
    (refine⟨ob,λ j h1 h2=>by omega⟩)
   exact ak7
  exact ay<|aN om (Q5 λ k hk=>cB k om)
 exact ak7
def Fv {l_:ajB} (h1:∀g∈l_,g.eG.length<=2000000):W (wL l_) (λ r=>RsA l_ r):=by
 unfold wL;refine wi ?_ ?_<;>intro c1
 ·exact ay<|eF c1
 refine bK (λ(g1:Int)=>0<=g1/\(∀j:Nat,(j:Int)<g1->RsE l_ j 0)) (λ(g1:Int)=>(l_.length - g1).toNat) ?_ ?_
 ·intro aj g1 eT dA;obtain⟨dW,cB⟩:=eT;unfold OX;refine wi ?_ ?_<;>intro c2
  ·have hgl:=h1 _ (getD_in (i:=g1.toNat) dJ om);refine bK (λ(g6:Int)=>0<=g6/\(∀j:Nat,(j:Int)<g6->0<=((l_.getD g1.toNat dJ).eG).getD j 0/\((l_.getD g1.toNat dJ).eG).getD j 0<((g1.toNat:Nat):Int))) (λ(g6:Int)=>(((l_.getD g1.toNat dJ).eG).length - g6).toNat) ?_ ?_
   ·intro jR g6 PX K8;obtain⟨M0,wS⟩:=PX;unfold OW;refine wn<|wi ?_ ?_<;>intro c3
    ·refine wm<|wm ?_;refine wi ?_ ?_<;>intro c4
     ·exact ay<|aN om (Ij (i:=g1.toNat) om (λ k hk=>cB k om) (eF ⟨g6.toNat,om,om⟩) (by decide))
     refine wn<|K8 _ ?_ ?_
     ·(refine⟨ob,eH wS M0 om⟩)
     exact ob
    refine bK (λ(g7:Int)=>1<=g7/\(∀j:Nat,(j:Int)<g7->1<=j->((l_.getD g1.toNat dJ).eG).getD (j - 1) 0<((l_.getD g1.toNat dJ).eG).getD j 0)) (λ(g7:Int)=>(((l_.getD g1.toNat dJ).eG).length - g7).toNat) ?_ ?_
    ·intro nX g7 abn YL;obtain⟨abo,Dh⟩:=abn;unfold Mw;refine wn<|wi ?_ ?_<;>intro c5
     ·refine wm<|wm ?_;refine wn<|wi ?_ ?_<;>intro c6
      ·exact ay<|aN om (Ij (i:=g1.toNat) om (λ k hk=>cB k om) (aN (gZ wS om) (eF ⟨g7.toNat,om,om,by rw[show g7.toNat - 1=(g7 - 1).toNat by omega];omega⟩)) (by decide))
      refine wn<|YL _ ?_ ?_
      ·(refine⟨ob,λ j h1 h2=>?_⟩;by_cases q:(j:Int)<g7;(exact Dh j q h2);(have e:j=g7.toNat:=by omega);subst e;rw[show g7.toNat - 1=(g7 - 1).toNat by omega];omega)
      exact ob
     refine wn<|dA _ ?_ ?_
     ·(refine⟨ob,eH cB dW (aN (gZ wS om) (aN (Ik Dh om) rfl))⟩)
     exact ob
    (refine⟨ob,λ j h1 h2=>by omega⟩)
   exact ak7
  exact ay<|aN om (Q5 λ k hk=>cB k om)
 exact ak7
variable {dS:ag9}
def YM {l_:ajB} (h1:am6 l_) (h2:∀g∈l_,g.eG.length<=2000000):W (DR l_ dS) (λ r=>r=true↔anq l_ dS):=by
 obtain⟨p1,p2⟩:=h1;unfold DR;refine wi ?_ ?_<;>intro c1
 ·refine ay ?_;(constructor;(intro e;cases e);(rintro ⟨a,_⟩;omega))
 refine bK (λ(g1:Int)=>0<=g1/\(∀i:Nat,(i:Int)<g1->∀j:Nat,(j:Int)<((l_.getD i dJ).eG).length->dS.getD i false=true->dS.getD (((l_.getD i dJ).eG).getD j 0).toNat false=true)) (λ(g1:Int)=>(l_.length - g1).toNat) ?_ ?_
 ·intro aj g1 eT dA;obtain⟨dW,cB⟩:=eT;unfold L9;refine wi ?_ ?_<;>intro c2
  ·have hgl:=h2 _ (getD_in (i:=g1.toNat) dJ om);refine wn<|bK (λ(g4:Int)=>0<=g4/\(∀j:Nat,(j:Int)<g4->dS.getD g1.toNat false=true->dS.getD (((l_.getD g1.toNat dJ).eG).getD j 0).toNat false=true)) (λ(g4:Int)=>(((l_.getD g1.toNat dJ).eG).length - g4).toNat) ?_ ?_
   ·intro jA g4 K7 JO;obtain⟨G9,mG⟩:=K7;unfold L8;refine wi ?_ ?_<;>intro c3
    ·have hx:=p2 g1.toNat om _ (getD_in (i:=g4.toNat) 0 om);refine wm<|wn ?_;apply bL<;>intro c4
     ·have sW:=c4;have c4:=eu c4;refine ay ?_;(constructor;(intro e;cases e);(rintro ⟨_,a⟩;simp only[Bool.and_eq_true,Bool.not_eq_true']at sW;have:=a g1.toNat om g4.toNat om sW.1;rw[this]at sW;cases sW.2))
     have sW:=c4;have c4:=eu c4;refine wn<|JO _ ?_ ?_
     ·(refine⟨ob,λ j h1 hr=>?_⟩;by_cases q:(j:Int)<g4;(exact mG j q hr);(have e:j=g4.toNat:=by omega);subst e;simp only[hr,Bool.true_and,Bool.not_eq_false']at sW;exact sW)
     exact ob
    refine wn<|dA _ ?_ ?_
    ·(refine⟨ob,λ i hi j hj hr=>?_⟩;by_cases q:(i:Int)<g1;(exact cB i q j hj hr);(have e:i=g1.toNat:=by omega);subst e;exact mG j om hr)
    exact ob
   (refine⟨ob,λ j h1 h2=>by omega⟩)
  refine ay ?_;(constructor;(intro _;exact⟨om,λ i hi=>cB i om⟩);(intro _;rfl))
 (refine⟨ob,λ j h1 h2=>by omega⟩)
def YN {l_:ajB} (h1:∀g∈l_,g.eG.length<=2000000):W (DT l_ dS) (λ r=>(r=true↔RsA l_ 0/\anq l_ dS)):=by
 unfold DT;refine aG (Fu ob) λ v1 hv1=>?_;refine aG (uq λ hc=>YM (by have e:v1=0:=(by simpa using hc);rw[e]at hv1;exact hv1.ok) h1) λ v2 hv2=>?_;refine ay ?_;(constructor;(intro hr;simp only[Bool.and_eq_true]at hr;have e:v1=0:=(by simpa using hr.1);exact⟨e ▸ hv1,(hv2 hr.1).1 hr.2⟩);(rintro ⟨a,b⟩;have e:=RsA.fun _ _ hv1 a;subst e;have:=(hv2 rfl).2 b;rw[this];rfl))
def YO {l_:ajB} (h1:∀g∈l_,g.eG.length<=2000000):W (D6 l_ dS) (λ r=>(r=true↔RsA l_ 0/\anq l_ dS)):=by
 unfold D6;refine aG (Fv ob) λ v1 hv1=>?_;refine wi ?_ ?_<;>intro c1
 ·refine ay ?_;(constructor;(intro e;cases e);(rintro ⟨a,b,_⟩;have e:=RsA.fun _ _ hv1 a;omega))
 have hok:RsA l_ 0:=(by have e:v1=0:=om;rw[e]at hv1;exact hv1);obtain⟨p1,p2⟩:=hok.ok;refine bK (λ(g1:Int)=>0<=g1/\(∀i:Nat,(i:Int)<g1->∀j:Nat,(j:Int)<((l_.getD i dJ).eG).length->dS.getD i false=true->dS.getD (((l_.getD i dJ).eG).getD j 0).toNat false=true)) (λ(g1:Int)=>(l_.length - g1).toNat) ?_ ?_
 ·intro aj g1 eT dA;obtain⟨dW,cB⟩:=eT;unfold MO;refine wi ?_ ?_<;>intro c2
  ·have hgl:=h1 _ (getD_in (i:=g1.toNat) dJ om);refine bK (λ(g4:Int)=>0<=g4/\(∀j:Nat,(j:Int)<g4->dS.getD g1.toNat false=true->dS.getD (((l_.getD g1.toNat dJ).eG).getD j 0).toNat false=true)) (λ(g4:Int)=>(((l_.getD g1.toNat dJ).eG).length - g4).toNat) ?_ ?_
   ·intro jA g4 K7 JO;obtain⟨G9,mG⟩:=K7;unfold MN;refine wn<|wi ?_ ?_<;>intro c3
    ·have hx:=p2 g1.toNat om _ (getD_in (i:=g4.toNat) 0 om);refine wm<|wm ?_;apply bL<;>intro c4
     ·have sW:=c4;have c4:=eu c4;refine ay ?_;(constructor;(intro e;cases e);(rintro ⟨_,_,a⟩;simp only[Bool.and_eq_true,Bool.not_eq_true']at sW;have:=a g1.toNat om g4.toNat om sW.1;rw[this]at sW;cases sW.2))
     have sW:=c4;have c4:=eu c4;refine wn<|JO _ ?_ ?_
     ·(refine⟨ob,λ j h1 hr=>?_⟩;by_cases q:(j:Int)<g4;(exact mG j q hr);(have e:j=g4.toNat:=by omega);subst e;simp only[hr,Bool.true_and,Bool.not_eq_false']at sW;exact sW)
     exact ob
    refine wn<|dA _ ?_ ?_
    ·(refine⟨ob,λ i hi j hj hr=>?_⟩;by_cases q:(i:Int)<g1;(exact cB i q j hj hr);(have e:i=g1.toNat:=by omega);subst e;exact mG j om hr)
    exact ob
   (refine⟨ob,λ j h1 h2=>by omega⟩)
  refine ay ?_;(constructor;(intro _;exact⟨hok,om,λ i hi=>cB i om⟩);(intro _;rfl))
 (refine⟨ob,λ j h1 h2=>by omega⟩)
def Cw {l_:ajk}:W (tK l_) (λ r=>DmA l_ r):=by
 unfold tK;refine wi ?_ ?_<;>intro c1
 ·exact ay<|eF c1
 refine bK (λ(g1:Int)=>0<=g1/\(∀j:Nat,(j:Int)<g1 -> -1<=(l_.getD j dQ).aW/\(l_.getD j dQ).aW<(j:Int))) (λ(g1:Int)=>(l_.length - g1).toNat) ?_ ?_
 ·intro aj g1 eT dA;obtain⟨dW,cB⟩:=eT;unfold LC;refine wi ?_ ?_<;>intro c2
  ·refine wn<|wi ?_ ?_<;>intro c3
   ·exact ay<|aN om (eF ⟨g1.toNat,om,om⟩)
   refine wn<|dA _ ?_ ?_
   ·(refine⟨ob,eH cB dW om⟩)
   exact ob
  exact ay<|aN om (aN (gZ cB om) rfl)
 exact ak7
def Fw {l_:ajk}:W (wM l_) (λ r=>DmA l_ r):=by
 unfold wM;refine wi ?_ ?_<;>intro c1
 ·exact ay<|eF c1
 refine bK (λ(g1:Int)=>0<=g1/\(∀j:Nat,(j:Int)<g1 -> -1<=(l_.getD j dQ).aW/\(l_.getD j dQ).aW<(j:Int))) (λ(g1:Int)=>(l_.length - g1).toNat) ?_ ?_
 ·intro aj g1 eT dA;obtain⟨dW,cB⟩:=eT;unfold OY;refine wi ?_ ?_<;>intro c2
  ·refine wm<|wi ?_ ?_<;>intro c3
   ·exact ay<|aN om (eF ⟨g1.toNat,om,om⟩)
   refine wn<|dA _ ?_ ?_
   ·(refine⟨ob,eH cB dW om⟩)
   exact ob
  exact ay<|aN om (aN (gZ cB om) rfl)
 exact ak7
def YP {l_:ajk} (h1:ao1 l_):W (DU l_ rA) (λ r=>r=true↔RgP l_ rA):=by
 obtain⟨p1,p2⟩:=h1;unfold DU;refine wi ?_ ?_<;>intro c1
 ·refine ay ?_;(constructor;(intro e;cases e);(rintro ⟨a,_⟩;omega))
 refine bK (λ(g1:Int)=>0<=g1/\(∀j:Nat,(j:Int)<g1->DgP l_ rA j)) (λ(g1:Int)=>(l_.length - g1).toNat) ?_ ?_
 ·intro aj g1 eT dA;obtain⟨dW,cB⟩:=eT;unfold Ma;refine wi ?_ ?_<;>intro c2
  ·have hx:=p2 g1.toNat om;refine wm<|wm ?_;apply bL<;>intro c3
   ·have jU:=c3;have c3:=eu c3;refine ay ?_;(constructor;(intro e;cases e);(rintro ⟨_,this⟩;have hd:=this g1.toNat om;obtain⟨d1,d2⟩:=hd;revert d1 d2;cases hA:(l_.getD g1.toNat dQ).gF<;>cases hB:rA.getD g1.toNat false<;>simp_all))
   have jU:=c3;have c3:=eu c3;refine wn<|dA _ ?_ ?_
   ·(refine⟨ob,eH cB dW ?_⟩;unfold DgP;revert jU;cases hA:(l_.getD g1.toNat dQ).gF<;>cases hB:rA.getD g1.toNat false<;>simp)
   exact ob
  refine ay ?_;(constructor;(intro _;exact⟨om,λ i hi=>cB i om⟩);(intro _;rfl))
 exact ak7
def YQ {l_:ajk} :W (DV l_ rA) (λ r=>(r=true↔DmA l_ 0/\RgP l_ rA)):=by
 unfold DV;refine aG (Cw) λ v1 hv1=>?_;refine aG (uq λ hc=>YP (by have e:v1=0:=(by simpa using hc);rw[e]at hv1;exact hv1.ok)) λ v2 hv2=>?_;refine ay ?_;(constructor;(intro hr;simp only[Bool.and_eq_true]at hr;have e:v1=0:=(by simpa using hr.1);exact⟨e ▸ hv1,(hv2 hr.1).1 hr.2⟩);(rintro ⟨a,b⟩;have e:=DmA.fun _ _ hv1 a;subst e;have:=(hv2 rfl).2 b;rw[this];rfl))
def abp {l_:ajk} :W (GR l_ rA) (λ r=>(r=true↔DmA l_ 0/\RgP l_ rA)):=by
 unfold GR;refine aG (Fw) λ v1 hv1=>?_;refine wi ?_ ?_<;>intro c1
 ·refine ay ?_;(constructor;(intro e;cases e);(rintro ⟨a,b,_⟩;have e:=DmA.fun _ _ hv1 a;omega))
 have hok:DmA l_ 0:=(by have e:v1=0:=om;rw[e]at hv1;exact hv1);obtain⟨p1,p2⟩:=hok.ok;refine bK (λ(g1:Int)=>0<=g1/\(∀j:Nat,(j:Int)<g1->DgP l_ rA j)) (λ(g1:Int)=>(l_.length - g1).toNat) ?_ ?_
 ·intro aj g1 eT dA;obtain⟨dW,cB⟩:=eT;unfold Pn;refine wi ?_ ?_<;>intro c2
  ·have hx:=p2 g1.toNat om;refine wm<|wm ?_;refine wm<|bL ?_ ?_<;>intro c3
   ·have jU:=c3;have c3:=eu c3;refine ay ?_;(constructor;(intro e;cases e);(rintro ⟨_,_,this⟩;have hd:=this g1.toNat om;obtain⟨d1,d2⟩:=hd;revert d1 d2;cases hA:(l_.getD g1.toNat dQ).gF<;>cases hB:rA.getD g1.toNat false<;>simp_all))
   have jU:=c3;have c3:=eu c3;refine wn<|dA _ ?_ ?_
   ·(refine⟨ob,eH cB dW ?_⟩;unfold DgP;revert jU;cases hA:(l_.getD g1.toNat dQ).gF<;>cases hB:rA.getD g1.toNat false<;>simp)
   exact ob
  refine ay ?_;(constructor;(intro _;exact⟨hok,om,λ i hi=>cB i om⟩);(intro _;rfl))
 exact ak7
def TQ {l_:aha} {ah:ag8} (h1:l_.length<=2000000) (h2:ah.length<=2000000):W (vk l_ ah) (λ r=>r=true↔yH l_ ah):=by
 unfold vk;refine bK (λ(g1:Int)=>0<=g1/\(∀i:Nat,(i:Int)<g1->(0<=ah.getD i 0/\ah.getD i 0<l_.length)/\∀k:Nat,k<i->ah.getD k 0≠ah.getD i 0)) (λ(g1:Int)=>(ah.length - g1).toNat) ?_ ?_
 ·intro aj g1 eT dA;obtain⟨dW,cB⟩:=eT;unfold EI;refine wi ?_ ?_<;>intro c1
  ·refine wm<|aG (qj) λ v5 hv5=>?_;subst v5;refine wn<|aG (ig λ hc=>iK ob) λ v6 hv6=>?_;subst v6;apply bL<;>intro c2
   ·have lM:=c2;have c2:=eu c2;refine ay ?_;(constructor;(intro e;cases e);(intro a;obtain⟨b,d⟩:=a g1.toNat om;simp only[Bool.or_eq_true]at lM;rcases lM with c | c;(simp only[Bool.not_eq_true',Bool.and_eq_false_iff,decide_eq_false_iff_not]at c;omega);(obtain⟨k,h3,h4⟩:=(AO om).1 c;exact absurd h4 (d k h3))))
   have lM:=c2;have c2:=eu c2;refine wn<|dA _ ?_ ?_
   ·(refine⟨ob,eH cB dW ?_⟩;simp only[Bool.or_eq_false_iff]at lM;refine⟨(by have:=lM.1;simp only[Bool.not_eq_false',Bool.and_eq_true,decide_eq_true_eq]at this;omega),λ k hk e=>?_⟩;rw[(AO om).2 ⟨k,hk,e⟩]at lM;cases lM.2)
   exact ob
  refine ay ?_;(constructor;(intro _ i hi;exact cB i om);(intro _;rfl))
 exact ak7
def zV {l_:aha} {ah:ag8} (h1:l_.length<=2000000) (h2:ah.length<=2000000):W (nU l_ ah) (λ r=>r=true↔yH l_ ah):=by
 unfold nU;refine bK (λ(g1:Int)=>0<=g1/\(∀i:Nat,(i:Int)<g1->(0<=ah.getD i 0/\ah.getD i 0<l_.length)/\∀k:Nat,k<i->ah.getD k 0≠ah.getD i 0)) (λ(g1:Int)=>(ah.length - g1).toNat) ?_ ?_
 ·intro aj g1 eT dA;obtain⟨dW,cB⟩:=eT;unfold Jm;refine wi ?_ ?_<;>intro c1
  ·refine wm<|wi ?_ ?_<;>intro c2
   ·refine ay ?_;(constructor;(intro e;cases e);(intro a;obtain⟨b,d⟩:=a g1.toNat om;omega))
   refine bK (λ(g4:Int)=>0<=g4/\(∀k:Nat,(k:Int)<g4->ah.getD k 0≠ah.getD g1.toNat 0)) (λ(g4:Int)=>(g1 - g4).toNat) ?_ ?_
   ·intro jA g4 K7 JO;obtain⟨G9,mG⟩:=K7;unfold Jl;refine wi ?_ ?_<;>intro c3
    ·refine wm<|wi ?_ ?_<;>intro c4
     ·refine ay ?_;(constructor;(intro e;cases e);(intro a;obtain⟨b,d⟩:=a g1.toNat om;exact absurd c4 (d g4.toNat om)))
     refine wn<|JO _ ?_ ?_
     ·(refine⟨ob,eH mG G9 c4⟩)
     exact ob
    refine wn<|dA _ ?_ ?_
    ·(refine⟨ob,eH cB dW ⟨om,λ k hk=>mG k om⟩⟩)
    exact ob
   exact ak7
  refine ay ?_;(constructor;(intro _ i hi;exact cB i om);(intro _;rfl))
 exact ak7
end Go.Proofs.YtccjmcmolnbiiaaGreatDoor

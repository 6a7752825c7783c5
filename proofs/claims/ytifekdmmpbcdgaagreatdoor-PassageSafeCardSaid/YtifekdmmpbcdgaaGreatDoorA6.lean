/- A part of the proof. -/
import Derived.Test.YtifekdmmpbcdgaaGreatDoorA5
set_option linter.defProp false
set_option linter.unusedVariables false
set_option linter.unusedSimpArgs false
set_option maxHeartbeats 4000000
namespace Go.Proofs.YtifekdmmpbcdgaaGreatDoor.Sp
open Go.Ab
set_option maxRecDepth 100000
def fk {n_:Int} {qI:Int} {sH:Int}:W (eU n_ qI sH) (λ r=>r=cn n_ qI sH):=by
 unfold eU;refine ai ?_;rfl
def Lo {s_:an}:W (mV s_) (λ r=>r=JV s_):=by
 unfold mV;refine ai ?_;rfl
def tz {s_:ap1} (h1:s_.length<=2000000):W (iX s_) (λ r=>r=s_.any (JV)):=
 sJ (A2 (DF (p:=λ x=>mV x) (P:=JV) (λ x hx=>iU (Lo)) om) (j7 _ _))
def O8 {s_:an} {at_:Int} (h1:0<=at_) (h2:at_<=2000000) (h3:s_.bC.length<=2000000):W (vW s_ at_) (λ r=>r=tv s_ at_):=by
 unfold vW;refine wn<|ar (fk) λ v1 hv1=>?_;subst v1;refine ar (dT λ hc=>iU (fk)) λ v2 hv2=>?_;subst v2;refine ar (dT λ hc=>iU (fk)) λ v3 hv3=>?_;subst v3;apply br<;>intro c1
 ·have dc:=c1;have c1:=cG c1;refine ai ?_;(unfold tv;rw[show ME s_ at_=true from dc];rfl)
 have dc:=c1;have c1:=cG c1;refine bu (λ(g1:Int)=>0<=g1/\g1<=s_.bC.length/\Hd (if g1.toNat=0 then 0 else s_.bC.getD (g1.toNat - 1) 0) (s_.bC.drop g1.toNat)=Hd 0 s_.bC) (λ(g1:Int)=>(s_.bC.length - g1).toNat) ?_ ?_
 ·intro ab g1 cN bQ;obtain⟨cz,bB,bA⟩:=cN;unfold CH;obtain⟨i,rfl⟩:=ahD cz;refine wi ?_ ?_<;>intro c2
  ·have hlt:i<s_.bC.length:=om;have hst:=UD hlt rfl;rw[show((i:Int).toNat)=i from rfl]at bA;rw[hst]at bA;have e1:(((i:Int) - 1).toNat)=i - 1:=om;simp only[e1,ahO]at *;refine wn<|ar (fk) λ v6 hv6=>?_;subst v6;refine wm<|br ?_ ?_<;>intro c3
   ·have fM:=c3;have c3:=cG c3;refine ai ?_;(unfold tv;rw[show ME s_ at_=false from dc,<- bA];rw[fM];rfl)
   have fM:=c3;have c3:=cG c3;refine wn<|bQ _ ?_ ?_
   ·(refine⟨ob,ob,?_⟩;rw[<- bA,fM];rw[show((i:Int)+1).toNat=i+1 by omega,aeV om];rfl)
   exact ob
  refine ai ?_;have e:i=s_.bC.length:=om;unfold tv;rw[show ME s_ at_=false from dc,<- bA,show(i:Int).toNat=i from rfl,e,ai8];rfl
 (refine⟨ob,ob,rfl⟩)
variable {l_:ap1}
def se (h1:l_.length<=2000000):W (lE l_) (λ r=>r=cB l_):=by
 unfold lE;refine ar (dT λ hc=>iU (tz ob)) λ v1 hv1=>?_;subst v1;apply br<;>intro c1
 ·have dc:=c1;have c1:=cG c1;refine ai ?_;(unfold cB;rw[dc];rfl)
 have dc:=c1;have c1:=cG c1;have hbig:∀i:Nat,i<l_.length->JV (l_.getD i ao)=false:=kr ao (by have:=dc;simp only[afr]at this;exact this.2);refine bu (λ(g1:Int)=>0<=g1/\g1<=l_.length/\Lk g1.toNat (l_.drop g1.toNat)=Lk 0 l_) (λ(g1:Int)=>(l_.length - g1).toNat) ?_ ?_
 ·intro ab g1 cN bQ;obtain⟨cz,bB,bA⟩:=cN;unfold CI;obtain⟨i,rfl⟩:=ahD cz;refine wi ?_ ?_<;>intro c2
  ·have hlt:i<l_.length:=om;have hb:=hbig i hlt;have hbl:(l_.getD i ao).bC.length<=16:=(by unfold JV at hb;have:=ahT hb;omega);rw[show((i:Int).toNat)=i from rfl,drop_cons ao hlt,Lk]at bA;simp only[ahO]at *;refine wn<|ar (O8 om om om) λ v4 hv4=>?_;subst v4;apply br<;>intro c3
   ·have fM:=c3;have c3:=cG c3;refine ai ?_;(unfold cB;rw[dc,<- bA,show tv (l_.getD i ao) i=false by simpa using fM];rfl)
   have fM:=c3;have c3:=cG c3;refine wn<|bQ _ ?_ ?_
   ·(refine⟨ob,ob,?_⟩;rw[<- bA,show tv (l_.getD i ao) i=true by simpa using fM,show((i:Int)+1).toNat=i+1 by omega];rfl)
   exact ob
  refine ai ?_;have e:i=l_.length:=om;unfold cB;rw[dc,<- bA,show(i:Int).toNat=i from rfl,e,ai8];rfl
 (refine⟨ob,ob,rfl⟩)
def FQ {r_:aK} (h1:l_.length<=2000000) (h2:r_.aT.length<=2000000):W (rz l_ r_) (λ r=>r=iM l_ r_):=by
 unfold rz;refine ar (se ob) λ v1 hv1=>?_;subst v1;apply br<;>intro c1
 ·have dc:=c1;have c1:=cG c1;refine ai ?_;(unfold iM;rw[dc];rfl)
 have dc:=c1;have c1:=cG c1;have hck:cB l_=0/\r_.On.length=l_.length/\r_.aT.length=l_.length:=(by have:=dc;simp only[afr,alW]at this;omega);obtain⟨b1,b2,b3⟩:=wK hck.1;refine bu (λ(g1:Int)=>0<=g1/\g1<=l_.length/\rlN (l_.drop g1.toNat) (r_.aT.drop g1.toNat)=rlN l_ r_.aT) (λ(g1:Int)=>(l_.length - g1).toNat) ?_ ?_
 ·intro ab g1 cN bQ;obtain⟨cz,bB,bA⟩:=cN;unfold CM;obtain⟨i,rfl⟩:=ahD cz;refine wi ?_ ?_<;>intro c2
  ·have hlt:i<l_.length:=om;have hb:=b2 i hlt;rw[show((i:Int).toNat)=i from rfl,drop_cons ao hlt,drop_cons 0 (show i<r_.aT.length by omega),rlN]at bA;simp only[ahO]at *;refine wm<|wn ?_;refine ar (fk) λ v4 hv4=>?_;subst v4;apply br<;>intro c3
   ·have fM:=c3;have c3:=cG c3;refine ai ?_;(unfold iM;rw[dc,<- bA];rw[show cn (r_.aT.getD i 0) 0 _=false by simpa using fM];rfl)
   have fM:=c3;have c3:=cG c3;refine wn<|bQ _ ?_ ?_
   ·(refine⟨ob,ob,?_⟩;rw[<- bA,show cn (r_.aT.getD i 0) 0 _=true by simpa using fM,show((i:Int)+1).toNat=i+1 by omega];rfl)
   exact ob
  refine ai ?_;have e:i=l_.length:=om;unfold iM;rw[dc,<- bA,show(i:Int).toNat=i from rfl,e,ai8];cases List.drop l_.length r_.aT<;>rfl
 (refine⟨ob,ob,rfl⟩)
def Lp {x_:bf} {iA:ap1} (h1:iA.length<=2000000):W (mZ x_ iA) (λ r=>r=OZ iA.length x_):=by
 unfold mZ;refine wn<|ar (fk) λ v1 hv1=>?_;subst v1;refine ar (dT λ hc=>iU (fk)) λ v2 hv2=>?_;subst v2;refine ar (dT λ hc=>iU (fk)) λ v3 hv3=>?_;subst v3;refine ar (dT λ hc=>iU (fk)) λ v4 hv4=>?_;subst v4;refine ai ?_;rfl
def uQ {s_:ap3} {f_:ap1} (h1:s_.length<=2000000) (h2:f_.length<=2000000):W (jk s_ f_) (λ r=>r=s_.any (OZ f_.length)):=
 sJ (A2 (DF (p:=λ x=>mZ x f_) (P:=OZ f_.length) (λ x hx=>iU (Lp h2)) om) (j7 _ _))
variable {d_:ap3}
def FR (h1:l_.length<=2000000) (h2:d_.length<=2000000):W (rA l_ d_) (λ r=>r=dY l_ d_):=by
 unfold rA;refine ar (se ob) λ v1 hv1=>?_;subst v1;refine ar (dT λ hc=>iU (uQ ob ob)) λ v2 hv2=>?_;subst v2;refine ai ?_;rfl
def nz {s_:ap1}:W (fE s_) (λ r=>r=s_):=by
 unfold fE;refine ai ?_;rfl
def Qg (h1:Ef l_ d_):W (yM l_ d_) (λ r=>r=dI l_ d_):=by
 obtain⟨vl,vd,vs,_,vx⟩:=h1;unfold yM;refine wn<|bu (λ(g1:Int×apV)=>0<=g1.1/\g1.1<=d_.length/\g1.2=mn l_.length (d_.take g1.1.toNat)) (λ(g1:Int×apV)=>(d_.length - g1.1).toNat) ?_ ?_
 ·intro ab g1 cN bQ;obtain⟨cz,bB,bA⟩:=cN;unfold ET;refine wi ?_ ?_<;>intro c1
  ·have hlt:g1.1.toNat<d_.length:=om;have hx:=vx _ (fe cw hlt);have hml:g1.2.length=l_.length:=(by rw[bA];exact nZ ..);refine wm<|wn ?_;refine bQ _ ?_ ?_
   ·(refine⟨ob,ob,?_⟩;dsimp only;have e:mn l_.length (d_.take (g1.1.toNat+1))=(mn l_.length (d_.take g1.1.toNat)).set (d_.getD g1.1.toNat cw).bE.toNat true:=pL _ _ cw hlt;rw[show(g1.1+1).toNat=g1.1.toNat+1 by omega,bA,e])
   exact ob
  refine ar (nz) λ v1 hv1=>?_;subst v1;refine wn<|afo (λ(k2:Nat) (g2:apV)=>g2=BD (eu l_) l_.length k2 (mn l_.length d_)) ?_ ?_ ?_
  ·intro k2 cy g2 alY jK mo;unfold CO;refine aF (by(rw[jK,pC (j9 _),nZ];omega)) ?_;refine aF (by(rw[jK,pC (j9 _),nZ];omega)) ?_;unfold vb;refine aF (by(rw[afx,jK,pC (j9 _),nZ];omega)) ?_;apply br<;>intro c2
   ·have fX:=c2;have c2:=cG c2;have hp:=vs (l_.length - 1 - k2) om;have hl2:g2.length=l_.length:=(by rw[jK,pC (j9 _),nZ]);refine wn<|mo _ ?_;(rw[ahO,dB,afc ⟨rfl,om⟩]at fX;show _=eu l_ (l_.length - 1 - k2) (BD (eu l_) l_.length k2 (mn l_.length d_));rw[<- jK];unfold eu;rw[fX];rfl)
   have fX:=c2;have c2:=cG c2;have hl2:g2.length=l_.length:=(by rw[jK,pC (j9 _),nZ]);refine mo _ ?_;(rw[ahO,dB,afc ⟨rfl,om⟩]at fX;show _=eu l_ (l_.length - 1 - k2) (BD (eu l_) l_.length k2 (mn l_.length d_));rw[<- jK];unfold eu;rw[fX];rfl)
  ·intro g2 jK;unfold CN;refine ai ?_;(rw[jK];exact wL _ _ _)
  (simp only[bA];rw[show g1.1.toNat=d_.length by omega,agt];rfl)
 (refine⟨ob,ob,rfl⟩)
def O9 (h1:Ef l_ d_):W (wb l_ d_) (λ r=>r=gY l_ d_):=by
 have hsm:=λ k hk=>Cf h1 k hk;obtain⟨vl,vd,vs,_,vx⟩:=h1;unfold wb;refine wn<|bu (λ(g1:Int×apU)=>0<=g1.1/\g1.1<=d_.length/\g1.2=tw l_.length (d_.take g1.1.toNat)) (λ(g1:Int×apU)=>(d_.length - g1.1).toNat) ?_ ?_
 ·intro ab g1 cN bQ;obtain⟨cz,bB,bA⟩:=cN;unfold CQ;refine wi ?_ ?_<;>intro c1
  ·have hlt:g1.1.toNat<d_.length:=om;have hx:=vx _ (fe cw hlt);have hml:g1.2.length=l_.length:=(by rw[bA];exact r8 ..);have hbd:=UH l_.length d_ (λ x hx=>by have:=vx x hx;omega) g1.1.toNat om (d_.getD g1.1.toNat cw).bE.toNat;rw[<- bA]at hbd;refine wm<|wm ?_;refine wn<|bQ _ ?_ ?_
   ·(refine⟨ob,ob,?_⟩;dsimp only;have e:tw l_.length (d_.take (g1.1.toNat+1))=(tw l_.length (d_.take g1.1.toNat)).set (d_.getD g1.1.toNat cw).bE.toNat ((tw l_.length (d_.take g1.1.toNat)).getD (d_.getD g1.1.toNat cw).bE.toNat 0+(d_.getD g1.1.toNat cw).Load):=pL _ _ cw hlt;rw[show(g1.1+1).toNat=g1.1.toNat+1 by omega,e,<- bA])
   exact ob
  refine ar (nz) λ v1 hv1=>?_;subst v1;refine wn<|afo (λ(k2:Nat) (g2:apU)=>g2=BD (eJ l_) l_.length k2 (tw l_.length d_)) ?_ ?_ ?_
  ·intro k2 cy g2 alY jK mo;unfold AB;apply br<;>intro c2
   ·have fX:=c2;have c2:=cG c2;have hp:=vs (l_.length - 1 - k2) om;have hl2:g2.length=l_.length:=(by rw[jK,pC (n6 _),r8]);have hbd:=hsm k2 om;rw[<- jK]at hbd;have hb1:=hbd (l_.getD (l_.length - 1 - k2) ao).aJ.toNat;have hb2:=hbd (l_.length - 1 - k2);rw[ahO];refine wm<|wm ?_;refine mo _ ?_;(show _=eJ l_ (l_.length - 1 - k2) (BD (eJ l_) l_.length k2 (tw l_.length d_));rw[<- jK];unfold eJ;rw[fX];rfl)
   have fX:=c2;have c2:=cG c2;refine mo _ ?_;(show _=eJ l_ (l_.length - 1 - k2) (BD (eJ l_) l_.length k2 (tw l_.length d_));rw[<- jK];unfold eJ;rw[fX];rfl)
  ·intro g2 jK;unfold AA;refine ai ?_;(rw[jK];exact wL _ _ _)
  (simp only[bA];rw[show g1.1.toNat=d_.length by omega,agt];rfl)
 (refine⟨ob,ob,rfl⟩)
def Lq {x_:bf} {iA:ap1} {we:apV} {pN:apU} (h1:0<=x_.bE) (h2:x_.bE<iA.length) (h3:x_.bE<pN.length) (h4:0<=pN.getD x_.bE.toNat 0) (h5:pN.getD x_.bE.toNat 0<(iA.getD x_.bE.toNat ao).bC.length):W (na x_ iA we pN) (λ r=>r=O5 iA ⟨we,pN⟩ x_):=by
 unfold na;refine wm<|wn ?_;refine ar (fk) λ v1 hv1=>?_;subst v1;refine ai ?_;rfl
def sj {s_:ap3} {qi:ap1} {pO:apV} {qJ:apU} (h1:s_.length<=2000000) (h2:∀x∈s_,0<=x.bE/\x.bE<qi.length) (h3:UI qi ⟨pO,qJ⟩):W (gV s_ qi pO qJ) (λ r=>r=s_.any (O5 qi ⟨pO,qJ⟩)):=
 sJ (A2 (DF (p:=λ x=>na x qi pO qJ) (P:=O5 qi ⟨pO,qJ⟩) (λ x hx=>iU (by obtain⟨q1,q2⟩:=h2 x hx;obtain⟨r1,r2,r3⟩:=h3;have r4:=r3 x.bE.toNat om;exact Lq q1 q2 (by dsimp only at r2;omega) r4.1 r4.2.2)) om) (j7 _ _))
def xO {r_:aK} (h1:l_.length<=2000000) (h2:d_.length<=2000000) (h3:r_.aT.length<=2000000):W (nM l_ r_ d_) (λ r=>r=cK l_ r_ d_):=by
 unfold nM;refine ar (FQ ob ob) λ v1 hv1=>?_;subst v1;refine ar (dT λ hc=>iU (FR ob ob)) λ v2 hv2=>?_;subst v2;apply br<;>intro c1
 ·have dc:=c1;have c1:=cG c1;refine ai ?_;(unfold cK;rw[dc];rfl)
 have dc:=c1;have c1:=cG c1;have hrd:iM l_ r_=true/\dY l_ d_=true:=(by have:=dc;simpa using this);have hv:=pX hrd.2;have hr:=(wY.1 hrd.1).2;have hrk:=hr;have hvb:=λ i hi=>JX hv hr i hi;have hul:=wX l_ d_;have hll:=IQ l_ d_;obtain⟨r1,r2,r3⟩:=hr;obtain⟨vl,vd,vs,_,vx⟩:=id hv;have ZM:cK l_ r_ d_=r9 l_ r_ d_:=(by unfold cK;rw[dc];rfl);refine ar (Qg hv) λ v3 hv3=>?_;subst v3;refine ar (O9 hv) λ v4 hv4=>?_;subst v4;refine bu (λ(g1:Int)=>0<=g1/\g1<=l_.length/\(∀j,j<g1.toNat->FM l_ r_ (dI l_ d_) (gY l_ d_) j=false)) (λ(g1:Int)=>(l_.length - g1).toNat) ?_ ?_
 ·intro ab g1 cN bQ;obtain⟨cz,bB,bA⟩:=cN;unfold CT;obtain⟨i,rfl⟩:=ahD cz;refine wi ?_ ?_<;>intro c2
  ·have hlt:i<l_.length:=om;have hp:=vs i hlt;have hp2:=vs (l_.getD i ao).aJ.toNat;have hr3:=r3 i hlt;have hr4:=r3 (l_.getD i ao).aJ.toNat;have hv1:=hvb i hlt;unfold gR at hv1;simp only[ahO]at *;refine wm<|br ?_ ?_<;>intro c3
   ·have fM:=c3;have c3:=cG c3;refine wn<|br ?_ ?_<;>intro c4
    ·have lR:=c4;have c4:=cG c4;refine ai ?_;(rw[ZM];unfold r9;rw[vo hlt (by unfold FM;rw[fM,lR];rfl)];rfl)
    have lR:=c4;have c4:=cG c4;refine wn<|bQ _ ?_ ?_
    ·(refine⟨ob,ob,λ j hj=>?_⟩;by_cases q:j<i;(exact bA j q);(have e:j=i:=by omega);subst e;unfold FM;rw[fM,lR];rfl)
    exact ob
   have fM:=c3;have c3:=cG c3;refine aF (by(intro q1;have:=afj q1;omega)) ?_;refine aF (by(intro q1 _;have:=afj q1;omega)) ?_;refine aF (by(intro q1 _;have:=afj q1;omega)) ?_;refine aF (by(intro q1 _;have:=afj q1;have:=hr4 om;omega)) ?_;refine aF (by(intro q1 _;have:=afj q1;omega)) ?_;refine aF (by(intro q1 _;have:=afj q1;omega)) ?_;refine aF (by(intro q1 _;have:=afj q1;unfold av;omega)) ?_;refine aF (by(intro _;omega)) ?_;apply br<;>intro c5
   ·have sN:=c5;have c5:=cG c5;refine ai ?_;(rw[ZM];unfold r9;rw[vo hlt (by unfold FM gR;rw[fM];simp only[ags];rw[sN];rfl)];rfl)
   have sN:=c5;have c5:=cG c5;refine wn<|bQ _ ?_ ?_
   ·(refine⟨ob,ob,λ j hj=>?_⟩;by_cases q:j<i;(exact bA j q);(have e:j=i:=by omega);subst e;unfold FM gR;rw[fM];exact sN)
   exact ob
  refine ar (sj om (λ x hx=>by have:=vx x hx;omega) hrk) λ v5 hv5=>?_;subst v5;refine ai ?_;(rw[ZM];unfold r9;rw[FN λ j hj=>(by rw[bA j om];rfl)];rfl)
 (refine⟨ob,ob,λ j hj=>absurd hj (ag9 j)⟩)
end Go.Proofs.YtifekdmmpbcdgaaGreatDoor.Sp
namespace Go.Proofs.YtifekdmmpbcdgaaGreatDoor
open Go.Ab
set_option maxRecDepth 100000
structure ael (l:ap7):Prop where
 len:l.length<=32
 af:∀i,i<l.length->∀x∈(l.getD i cv).cS,0<=x/\x<(i:Int)
structure aem (l:ap8):Prop where
 len:l.length<=16
 par:∀i,i<l.length -> -1<=(l.getD i cL).aJ/\(l.getD i cL).aJ<(i:Int)
structure ai0 (n:Int) (g:bL):Prop where
 pl:0<g.bH.length
 fl:0<g.aj.length/\g.aj.length<=8
 pn:∀x∈g.bH,0<=x/\x<n
structure FT (p:bq) (u:ee):Prop where
 g0:0<=u.aZ
 gl:u.aZ<p.ax.length
 f0:0<=u.bD
 fl:u.bD<(p.ax.getD u.aZ.toNat ay).aj.length
def cM {P:Nat->Prop} {i:Int} (h:∀j:Nat,(j:Int)<i->P j) (h0:0<=i) (hp:P i.toNat):∀j:Nat,(j:Int)<i+1->P j:=λ j hj=>by
 by_cases q:(j:Int)<i
 ·exact h j q
 have e:j=i.toNat:=by omega
 rw[e];exact hp
structure aft (p:bq):Prop where
 pn:0<=p.bH/\p.bH<=64
 gl:p.ax.length<=24
 gr:∀g∈p.ax,ai0 p.bH g
variable {α:Type}
def iN {P:α->Prop} {l:List α} (d:α) (h:∀j,j<l.length->P (l.getD j d)):∀x∈l,P x:=λ x hx=>by
 obtain⟨i,hi,rfl⟩:=ahZ.1 hx;have:=h i hi;rwa [ad7,aeA hi]at this
def Pa {s:ByteArray} {c:Bool} (h:((s.toList==({ data:=#[] }:ByteArray).toList)||c)=false):0<s.size:=by
 simp only[afr]at h;rcases aj2 s.size with e | e
 ·exfalso;have e2:s=({ data:=#[] }:ByteArray):=by
   cases s with
   | mk d=>cases d with
    | mk l=>cases l with
     | nil=>rfl
     | cons a t=>simp[ByteArray.size]at e
  rw[e2]at h;simp at h
 exact e
def Zg {s:ByteArray} {c d:Bool} (h:((((s.toList==({ data:=#[] }:ByteArray).toList)||(decide ((16:Int)<((s.size:Nat):Int))))||c)||d)=false):0<s.size/\s.size<=16:=by
 simp only[afr]at h;refine⟨Pa (c:=false) (by simp only[afr];exact⟨h.1.1.1,ad6⟩),?_⟩;have:=ahT h.1.1.2;omega
variable {s_:apU}
def xP (h1:s_.length<=2000000):W (slices_Clone_int s_) (λ r=>r=s_):=by
 unfold slices_Clone_int;refine wn<|ai ?_;rfl
def oD {s_:apV} (h1:s_.length<=2000000):W (gg s_) (λ r=>r=s_):=by
 unfold gg;refine wn<|ai ?_;rfl
def A9 {s_:apZ} (h1:s_.length<=2000000):W (jG s_) (λ r=>r=s_):=by
 unfold jG;refine wn<|ai ?_;rfl
def D3 {s_:Nat} {bI:apU} (h1:s_<=bI.length) (h2:s_<=2000000):W (kD s_ bI) (λ r=>r=bI.take s_):=by
 unfold kD;refine wn<|ai ?_;rfl
structure xQ (b:aI):Prop where
 cl:b.bj.length<=2000000
 ch:P9 b.bj
 su:b.aX.length<=2000000
 gr:∀g∈b.aM.ax,g.bH.length<=2000000
 re:b.bc.length<=2000000
 ra:∀g∈b.bc,g.cS.length<=2000000
 dm:b.bw.length<=2000000
structure afu (b:aI):Prop where
 cl:cB b.bj=0
 su:Sp.cB b.aX=0
 pn:aft b.aM
 rs:ael b.bc
 dm:aem b.bw
structure He (n:Nat) (x:aP):Prop where
 k0:0<=x.cF
 kl:x.cF<n
 l0:0<=x.ij
 lh:x.ij<=x.cY
 hi:x.cY<=4000000000
structure WQ (n:Nat) (x:bf):Prop where
 k0:0<=x.bE
 kl:x.bE<n
 l0:0<=x.ij
 lh:x.ij<=x.cY
 hi:x.cY<=5000
 ld:0<=x.Load/\x.Load<=10000
structure ag7 (b:aI) (n:aC):Prop where
 ll:n.bO.length<=32
 dl:n.dq.length<=32
 fl:n.aj.length<=10
 lm:∀x∈n.bO,He b.bj.length x
 dw:∀x∈n.dq,WQ b.aX.length x
 rs:∀x∈n.bc,0<=x/\x<b.bc.length
 dm : -1<=n.dz/\n.dz<b.bw.length
structure Ck (l:apW):Prop where
 len:l.length<=2000000
 nd:∀n∈l,n.bc.length<=2000000/\n.bM.length<=2000000
structure ka (g:ak):Prop where
 st:g.Setting.length<=2000000
 on:g.aY.On.length<=2000000
 lv:g.aY.aT.length<=2000000
 us:g.Uses.length<=2000000
 re:g.Released.length<=2000000
 po:g.bg.length<=2000000
structure Pb (s:dN):Prop where
 sz:xQ s.bm
 val:afu s.bm
 nl:s.cb.length<=12
 nd:∀n∈s.cb,ag7 s.bm n
 nsz:Ck s.cb
 ml:s.aO.length<=10000
 gs:ka s.aU
structure WR (s:dN):Prop where
 mem:∀m∈s.aO,0<=m/\m<s.cb.length
 st:s.aU.Setting.length=s.bm.bj.length
 on:s.aU.aY.On.length=s.bm.aX.length
 lv:s.aU.aY.aT.length=s.bm.aX.length
 re:s.aU.Released.length=s.bm.bc.length
 po:s.aU.bg.length=s.bm.bw.length
def mD {v_:Int} (h1:s_.length<=2000000):slices_Contains_int s_ v_ (s_.contains v_):=OU h1
def jA {x_:Int} {vX:Int} {kN:Int}:W (jW x_ vX kN) (λ r=>r=(decide (vX<=x_)&&decide (x_<=kN))):=by
 unfold jW;refine ai ?_;rfl
def MF {r_:aK} (h1:r_.On.length<=2000000) (h2:r_.aT.length<=2000000):W (Az r_) (λ r=>r=(r_.On,r_.aT)):=by
 unfold Az;refine ar (oD ob) λ v1 hv1=>?_;subst v1;refine ar (xP ob) λ v2 hv2=>?_;subst v2;refine ai ?_;rfl
def zn {g_:ak} (h1:ka g_):W (nT g_) (λ r=>r=(g_.Setting,g_.aY.On,g_.aY.aT,g_.Uses,g_.Released,g_.bg)):=by
 obtain⟨z1,z2,z3,z4,z5,z6⟩:=h1;unfold nT;refine ar (xP ob) λ v1 hv1=>?_;subst v1;refine ar (MF ob ob) λ v2 hv2=>?_;subst v2;refine ar (A9 ob) λ v3 hv3=>?_;subst v3;refine ar (oD ob) λ v4 hv4=>?_;subst v4;refine ar (oD ob) λ v5 hv5=>?_;subst v5;refine ai ?_;rfl
def tA (f:cj->Option Int) (k k':cj) (n:Int):fo (te f k n) k'=if k'=k then n else fo f k':=by
 unfold fo te;split<;>rfl
def UQ {l:apY} {s:apU} (h:(vm l s).2=0):cB l=0/\gQ l s=true/\(vm l s).1=dx l s:=by
 unfold vm at h ⊢;cases h1:cB l != 0 with
 | true=>rw[h1]at h;simp at h1;exact absurd h h1
 | false=>
  cases h2:gQ l s with
  | false=>rw[h1,h2]at h;cases h
  | true=>exact⟨by simpa using h1,rfl,rfl⟩
def abU {l:apY} {s:apU} (h1:cB l=0) (h2:gQ l s=true) (j:Nat) (hj:j<l.length):1<=((dx l s).getD j cD).fx/\((dx l s).getD j cD).fx<=16777216:=by
 have:=jd (Ce (nY h1) h2 j hj).2.2.1;exact⟨this.2.2.1,this.2.2.2.1⟩
def Cl {EV:Int} {jj:apY} {gB:ap1} {nf:Int} {sL:aqi} {ng:ap7} {rB:ap8} {zJ:apW} {OH:apU} {OI:apU} {OJ:apV} {EW:apU} {EX:apZ} {xo:apV} {xp:apV} {EY:Bool} (h1:0<=EV) (h2:EV<xo.length):W (iF EV jj gB nf sL ng rB zJ OH OI OJ EW EX xo xp EY) (λ r=>r=!(xo.getD EV.toNat false)):=by
 unfold iF;refine wn<|ai ?_;rfl
def vp {qi:apY} {pO:ap1} {qJ:Int} {Ix:aqi} {Iy:ap7} {Iz:ap8} {D0:apW} {IA:apU} {IB:apU} {IC:apV} {pP:apU} {pQ:apZ} {nO:apV} {nP:apV} {pR:Bool} (h1:s_.length<=2000000) (h2:∀x∈s_,0<=x/\x<nO.length):W (ju s_ qi pO qJ Ix Iy Iz D0 IA IB IC pP pQ nO nP pR) (λ r=>r=s_.any (λ x=>!(nO.getD x.toNat false))):=
 sJ (A2 (DF (p:=λ x=>iF x qi pO qJ Ix Iy Iz D0 IA IB IC pP pQ nO nP pR) (P:=λ x=>!(nO.getD x.toNat false)) (λ x hx=>iU (Cl (h2 x hx).1 (h2 x hx).2)) om) (j7 _ _))
def Ba {m_:Int} {jj:apY} {gB:ap1} {nf:Int} {sL:aqi} {ng:ap7} {rB:ap8} {zJ:apW} {OH:apU} {OI:apU} {OJ:apV} {EW:apU} {EX:apZ} {xo:apV} {xp:apV} {EY:Bool} (h1:0<=m_) (h2:m_<zJ.length) (h3:(zJ.getD m_.toNat bb).dz<xp.length):W (gJ m_ jj gB nf sL ng rB zJ OH OI OJ EW EX xo xp EY) (λ r=>r=((decide ((0:Int)<=(zJ.getD m_.toNat bb).dz))&&(!(xp.getD (((zJ.getD m_.toNat bb).dz).toNat) false)))):=by
 unfold gJ;refine wm<|ai ?_;rfl
def vq {qi:apY} {pO:ap1} {qJ:Int} {Ix:aqi} {Iy:ap7} {Iz:ap8} {D0:apW} {IA:apU} {IB:apU} {IC:apV} {pP:apU} {pQ:apZ} {nO:apV} {nP:apV} {pR:Bool} (h1:s_.length<=2000000) (h2:∀x∈s_,0<=x/\x<D0.length/\(D0.getD x.toNat bb).dz<nP.length):W (jv s_ qi pO qJ Ix Iy Iz D0 IA IB IC pP pQ nO nP pR) (λ r=>r=s_.any (λ x=>((decide ((0:Int)<=(D0.getD x.toNat bb).dz))&&(!(nP.getD (((D0.getD x.toNat bb).dz).toNat) false))))):=
 sJ (A2 (DF (p:=λ x=>gJ x qi pO qJ Ix Iy Iz D0 IA IB IC pP pQ nO nP pR) (P:=λ x=>((decide ((0:Int)<=(D0.getD x.toNat bb).dz))&&(!(nP.getD (((D0.getD x.toNat bb).dz).toNat) false)))) (λ x hx=>iU (Ba (h2 x hx).1 (h2 x hx).2.1 (h2 x hx).2.2)) om) (j7 _ _))
def nA {α:Type} (l:List α) (i:Int) (v:α):Bool×List α:=bif decide (i<0)||decide ((l.length:Int)<=i)then(false,l)else(true,l.set i.toNat v)
def fG (l:List α) (i:Int) (v:α):(nA l i v).2.length=l.length:=by
 unfold nA;cases decide (i<0)||decide ((l.length:Int)<=i)<;>simp
def qM (u:Int) (h:ah):Bool:=h.cX.aZ==u
def afv (d:α) {a b:List α} (h1:a.length=b.length) (h2:∀j,j<a.length->a.getD j d=b.getD j d):a=b:=Sp.A5 d h1 h2
def qE (d:α) (l:List α) (n j:Nat) (h:j<n):(l.take n).getD j d=l.getD j d:=by
 rw[ad7,ad7,List.getElem?_take_of_lt h]
def Rb (d:α) (l:List α) (n j:Nat):(l.drop n).getD j d=l.getD (n+j) d:=by
 rw[ad7,ad7,aoU]
def Pc (d:α) (l:List α) (i j:Nat):(l.eraseIdx i).getD j d=if j<i then l.getD j d else l.getD (j+1) d:=by
 rw[ad7,List.getElem?_eraseIdx];split<;>rw[ad7]
def del_eq {s:Nat} {i j:Int} {o:apZ} {n k:Nat} {q:apZ} (h0:0<=i/\j=i+1) (h1:j<=s) (h2:s<=o.length) (hn:n+1=s) (hk:k=n):(Iv (Iv o (0+i.toNat) ((o.drop (0+j.toNat)).take (s - j.toNat))) (0+(((i.toNat+(s - j.toNat)):Nat):Int).toNat) q).take n=(o.take s).eraseIdx i.toNat:=by
 have e1:(0+(((i.toNat+(s - j.toNat)):Nat):Int).toNat)=n:=by omega
 refine afv aL ?_ ?_
 ·rw[afs,dO,dO,aoE (by rw[afs];omega),afs];omega
 intro t ht;rw[afs,dO,dO]at ht;rw[qE _ _ _ _ om,GK aL (by rw[dO];omega),aeV om,GK aL om,Pc];simp only[afs,ajY];by_cases c:t<i.toNat
 ·rw[aeV om,afc c,qE _ _ _ _ om]
 rw[afc om,aeV c,qE _ _ _ _ om,Rb,qE _ _ _ _ om];congr 1;omega
def Sv {l:List α} {P:α->Bool} (h:0<=uM l P):uM l P<l.length:=by
 unfold uM at h ⊢;split at h
 ·rename_i q;rw[afc q];have:=ao9 (ai7.1 q);omega
 omega
def Ia {l:List α} {n:Nat} {x:α} (h:n<=l.length):(l.take n++[x]).take (n+1)=l.take n++[x]:=by
 rw[ahH];rw[aeU,afs];simp;omega
def pD {at_:Int} {x_:Int} {bI:apU}:W (km at_ x_ bI) (λ r=>r=nA bI at_ x_):=by
 unfold km;apply br<;>intro c1
 ·have dc:=c1;have c1:=cG c1;refine ai ?_;(unfold nA;rw[dc];rfl)
 have dc:=c1;have c1:=cG c1;refine wn<|ai ?_;(unfold nA;rw[dc];rfl)
def js {at_:Int} {x_:Bool} {bI:apV}:W (gj at_ x_ bI) (λ r=>r=nA bI at_ x_):=by
 unfold gj;apply br<;>intro c1
 ·have dc:=c1;have c1:=cG c1;refine ai ?_;(unfold nA;rw[dc];rfl)
 have dc:=c1;have c1:=cG c1;refine wn<|ai ?_;(unfold nA;rw[dc];rfl)
def MX {u_:ah} {jj:Int} {gB:Int} {nf:Int}:W (oV u_ jj gB nf) (λ r=>r=(u_.cX.aZ==gB)):=by
 unfold oV;refine ai ?_;rfl
def mN {s_:apZ} {qi pO qJ:Int} (h1:s_.length<=2000000):W (gF s_ qi pO qJ) (λ r=>r=uM s_ (qM pO)):=
 DF (p:=λ x=>oV x qi pO qJ) (P:=qM pO) (λ x _=>iU MX) om
def Vy (n:Nat) (o1:apU) (o2:apV) (o3:apU) (o4:apZ) (o5 o6:apV):ak:=⟨o1,⟨o2,o3⟩,o4.take n,o5,o6⟩
def Vz (r:Nat×apU×apV×apU×apV×apV×apZ):ak:=Vy r.1 r.2.1 r.2.2.1 r.2.2.2.1 r.2.2.2.2.2.2 r.2.2.2.2.1 r.2.2.2.2.2.1
def nB (u v:Int) (l:apZ):apZ:=bif decide (0<v)then l++[⟨-1,⟨u,v - 1⟩⟩]else l
def iO (u:Int) (l:apZ):apZ:=bif decide (0<=uM l (qM u))then l.eraseIdx (uM l (qM u)).toNat else l
def cW (w:aw) (g:ak):Bool×ak:=
 bif decide (w.Value<0)then(false,g)
 else bif w.bY==1 then((nA g.Setting w.Unit w.Value).1,{ g with Setting:=(nA g.Setting w.Unit w.Value).2 })
 else bif w.bY==2 then((nA g.aY.aT w.Unit w.Value).1,{ g with aY:=⟨g.aY.On,(nA g.aY.aT w.Unit w.Value).2⟩ })
 else bif w.bY==3 then(bif decide (w.Value<=1)then((nA g.aY.On w.Unit (w.Value==1)).1,{ g with aY:=⟨(nA g.aY.On w.Unit (w.Value==1)).2,g.aY.aT⟩ })else(false,g))
 else bif w.bY==11 then(bif decide (w.Value<=1)then((nA g.Released w.Unit (w.Value==1)).1,{ g with Released:=(nA g.Released w.Unit (w.Value==1)).2 })else(false,g))
 else bif w.bY==12 then(bif decide (w.Value<=1)then((nA g.bg w.Unit (w.Value==1)).1,{ g with bg:=(nA g.bg w.Unit (w.Value==1)).2 })else(false,g))
 else bif w.bY==10 then(bif !(decide (0<=w.Unit)&&decide (w.Unit<=23))then(false,g)else(true,{ g with Uses:=nB w.Unit w.Value (iO w.Unit g.Uses) }))
 else(false,g)
def emG:ak:=⟨[],⟨[],[]⟩,[],[],[]⟩
deriving instance DecidableEq for ee,ah,ak
def Sw [DecidableEq α] {a b:List α} (h:¬ (a.length:Int)=b.length):(a==b)=false:=by
 simp only[ajP,ne_eq];intro e;rw[e]at h;exact h rfl
def aen [DecidableEq α] {x y:α} {a b:List α} (h:¬ x=y):(x::a==y::b)=false:=by
 simp only[ajP,ne_eq,apj];exact λ e=>h e.1
def aeo [DecidableEq α] {x y:α} {a b:List α} (h:x=y):(x::a==y::b)=(a==b):=by
 subst h;rw[aoS];simp
def Sx {g_:ak} (h1:ka g_):W (B9 g_) (λ r=>r=(g_.Setting,g_.aY.On,g_.aY.aT,g_.Uses,g_.Released,g_.bg)):=by
 obtain⟨z1,z2,z3,z4,z5,z6⟩:=h1;unfold B9;refine wm<|wm ?_;refine wm<|ai ?_;rfl
end Go.Proofs.YtifekdmmpbcdgaaGreatDoor
namespace Go.Proofs.YtifekdmmpbcdgaaGreatDoor.Sp
open Go.Ab
set_option maxRecDepth 100000
variable {l:ap1} {d:ap3}
def abV (h:((cB l != 0)||decide (32<(d.length:Int)))=true):dY l d=false:=by
 unfold dY;by_cases h1:cB l=0
 ·rw[h1]at h;have:32<(d.length:Int):=by simpa using h
  rw[afe (p:=(d.length:Int)<=32) om];simp
 have:(cB l==0)=false:=by simpa using h1
 rw[this];rfl
def Zh (h:((cB l != 0)||decide (32<(d.length:Int)))=false):dY l d=!(d.any (OZ l.length)):=by
 have h1:cB l=0/\(d.length:Int)<=32:=by
  simp at h;omega
 unfold dY;rw[h1.1,afl h1.2];rfl
variable {i:Nat}
def aep {b:apV} {j:Nat} {a:Bool} {g:Int} (hi:i<b.length) (hj:j<d.length) (hg:g=(i:Int)):(b.set i (b.getD i false||a||Jj (d.take j) i)).set i ((b.set i (b.getD i false||a||Jj (d.take j) i)).getD i false||((d.getD j cw).bE==g))=b.set i (b.getD i false||a||Jj (d.take (j+1)) i):=by
 subst hg;have hsn:Jj (d.take (j+1)) i=(Jj (d.take j) i||((d.getD j cw).bE==(i:Int))):=by
  unfold Jj;rw[eI cw hj,aoQ];simp
 rw[dB,afc ⟨rfl,hi⟩,aog,hsn];simp only[Bool.or_assoc]
def lT {x_:Int} {qI:Int} {sH:Int}:W (mf x_ qI sH) (λ r=>r=cn x_ qI sH):=by
 unfold mf;refine ai ?_;rfl
variable {l_:ap1}
def tT (h1:l_.length<=2000000):W (np l_) (λ r=>r=cB l_):=by
 unfold np;apply br<;>intro c1
 ·have dc:=c1;have c1:=cG c1;refine ai ?_;(unfold cB;rw[dc];rfl)
 have dc:=c1;have c1:=cG c1;refine bu (λ(g1:Int)=>0<=g1/\g1<=l_.length/\(∀j:Nat,(j:Int)<g1->JV (l_.getD j ao)=false)) (λ(g1:Int)=>(l_.length - g1).toNat) ?_ ?_
 ·intro ab g1 cN bQ;obtain⟨cz,bB,bA⟩:=cN;unfold E7;refine wi ?_ ?_<;>intro c2
  ·refine wn<|br ?_ ?_<;>intro c3
   ·have fM:=c3;have c3:=cG c3;refine ai ?_;(unfold cB;rw[rW (p:=JV) ao (show g1.toNat<l_.length by omega) (show JV _=true from fM),aox];rfl)
   have fM:=c3;have c3:=cG c3;refine wn<|bQ _ ?_ ?_
   ·(refine⟨ob,ob,cM bA cz fM⟩)
   exact ob
  have hbig:=any_none (p:=JV) ao (λ j hj=>bA j om);have hb3:(decide (16<(l_.length:Int))||l_.any JV)=false:=(by rw[dc,hbig];rfl);refine bu (λ(g2:Int)=>0<=g2/\g2<=l_.length/\Lk g2.toNat (l_.drop g2.toNat)=Lk 0 l_) (λ(g2:Int)=>(l_.length - g2).toNat) ?_ ?_
  ·intro cy g2 jK mo;obtain⟨mO,fH,jB⟩:=jK;unfold Db;obtain⟨i,rfl⟩:=ahD mO;refine wi ?_ ?_<;>intro c4
   ·have hlt:i<l_.length:=om;have hb:=bA i om;have hbl:(l_.getD i ao).bC.length<=16:=(by unfold JV at hb;have:=ahT hb;omega);rw[show((i:Int).toNat)=i from rfl,drop_cons ao hlt,Lk]at jB;simp only[ahO]at *;refine wm<|ar (lT) λ v13 D1=>?_;subst v13;refine ar (dT λ hc=>iU (lT)) λ v14 JQ=>?_;subst v14;refine ar (dT λ hc=>iU (lT)) λ v15 MS=>?_;subst v15;apply br<;>intro c5
    ·have sN:=c5;have c5:=cG c5;rw[XR]at sN;refine ai ?_;(unfold cB;rw[hb3,<- jB];unfold tv;rw[show ME (l_.getD i ao) i=true from sN];rfl)
    have sN:=c5;have c5:=cG c5;rw[XR]at sN;refine bu (λ(g5:Int)=>0<=g5/\g5<=(l_.getD i ao).bC.length/\Hd (if g5.toNat=0 then 0 else(l_.getD i ao).bC.getD (g5.toNat - 1) 0) ((l_.getD i ao).bC.drop g5.toNat)=Hd 0 (l_.getD i ao).bC) (λ(g5:Int)=>((l_.getD i ao).bC.length - g5).toNat) ?_ ?_
    ·intro jX g5 Lr Ls;obtain⟨Ib,xR,DK⟩:=Lr;unfold Da;obtain⟨k,rfl⟩:=ahD Ib;simp only[ahO]at *;refine wi ?_ ?_<;>intro c6
     ·have hlk:k<(l_.getD i ao).bC.length:=om;have hst:=UD hlk rfl;rw[hst]at DK;have e1:(((k:Int) - 1).toNat)=k - 1:=om;simp only[e1,ahO]at *;refine wn<|ar (lT) λ v18 ag8=>?_;subst v18;refine wm<|br ?_ ?_<;>intro c7
      ·have Jk:=c7;have c7:=cG c7;refine ai ?_;(unfold cB;rw[hb3,<- jB];unfold tv;rw[show ME (l_.getD i ao) i=false from sN,<- DK,Jk];rfl)
      have Jk:=c7;have c7:=cG c7;refine wn<|Ls _ ?_ ?_
      ·(refine⟨ob,ob,?_⟩;rw[<- DK,Jk];rw[show((k:Int)+1).toNat=k+1 by omega,aeV om];rfl)
      exact ob
     refine wn<|mo _ ?_ ?_
     ·(refine⟨ob,ob,?_⟩;rw[<- jB];unfold tv;rw[show ME (l_.getD i ao) i=false from sN,<- DK,show k=(l_.getD i ao).bC.length by omega,ai8,show((i:Int)+1).toNat=i+1 by omega];rfl)
     exact ob
    (refine⟨ob,ob,rfl⟩)
   refine ai ?_;(unfold cB;rw[hb3,<- jB,show((i:Int).toNat)=i from rfl,show i=l_.length by omega,ai8];rfl)
  (refine⟨ob,ob,rfl⟩)
 (refine⟨ob,ob,λ j hj=>by omega⟩)
variable {d_:ap3}
def Ic (h1:l_.length<=2000000) (h2:d_.length<=2000000):W (uG l_ d_) (λ r=>r=dY l_ d_):=by
 unfold uG;refine ar (tT ob) λ v1 hv1=>?_;subst v1;apply br<;>intro c1
 ·have dc:=c1;have c1:=cG c1;exact ai ((abV dc).symm)
 have dc:=c1;have c1:=cG c1;have hdf:=Zh dc;refine bu (λ(g1:Int)=>0<=g1/\g1<=d_.length/\(d_.drop g1.toNat).any (OZ l_.length)=d_.any (OZ l_.length)) (λ(g1:Int)=>(d_.length - g1).toNat) ?_ ?_
 ·intro ab g1 cN bQ;obtain⟨cz,bB,bA⟩:=cN;unfold Fl;refine wi ?_ ?_<;>intro c2
  ·have hlt:g1.toNat<d_.length:=om;rw[drop_cons cw hlt,akp]at bA;refine wm<|ar (lT) λ v8 wJ=>?_;subst v8;refine ar (dT λ hc=>iU (lT)) λ v9 Lj=>?_;subst v9;refine ar (dT λ hc=>iU (lT)) λ v10 tB=>?_;subst v10;apply br<;>intro c3
   ·have fM:=c3;have c3:=cG c3;have hb:=(UE l_.length (d_.getD g1.toNat cw)).symm.trans fM;refine ai ?_;(rw[hdf,<- bA,hb];rfl)
   have fM:=c3;have c3:=cG c3;have hb:=(UE l_.length (d_.getD g1.toNat cw)).symm.trans fM;refine wn<|bQ _ ?_ ?_
   ·(refine⟨ob,ob,?_⟩;rw[<- bA,hb,show(g1+1).toNat=g1.toNat+1 by omega];rfl)
   exact ob
  refine ai ?_;(rw[hdf,<- bA,show g1.toNat=d_.length by omega,ai8];rfl)
 (refine⟨ob,ob,rfl⟩)
def Qh (h1:l_.length<=2000000) (h2:d_.length<=2000000):W (zb l_ d_) (λ r=>r=rY l_ d_):=by
 unfold zb;refine ar (tT ob) λ v1 hv1=>?_;subst v1;apply br<;>intro c1
 ·have dc:=c1;have c1:=cG c1;refine ai ?_;(unfold rY;rw[dc];rfl)
 have dc:=c1;have c1:=cG c1;refine ar (Ic ob ob) λ v2 hv2=>?_;subst v2;apply br<;>intro c2
 ·have fX:=c2;have c2:=cG c2;refine ai ?_;(unfold rY;rw[dc,fX];rfl)
 have fX:=c2;have c2:=cG c2;refine ai ?_;(unfold rY;rw[dc,fX];rfl)
def J1 (h1:Ef l_ d_):W (xF l_ d_) (λ r=>r=dI l_ d_):=by
 have hv:=h1;obtain⟨vl,vd,vs,_,vx⟩:=h1;unfold xF;refine wm<|bu (λ(g1:Int×apV) => -1<=g1.1/\g1.1<l_.length/\H9 l_ d_ (l_.length - 1 - g1.1).toNat g1.2) (λ(g1:Int×apV)=>(g1.1+1).toNat) ?_ ?_
 ·intro ab g1 cN bQ;obtain⟨cz,bB,bA⟩:=cN;unfold H2;have hbl:=bA.len;refine wi ?_ ?_<;>intro c1
  ·have hst:=bA.step hv (show(l_.length - 1 - g1.1).toNat<l_.length by omega);have hp:=vs g1.1.toNat om;rw[show l_.length - 1 - ((l_.length:Int) - 1 - g1.1).toNat=g1.1.toNat by omega,show((l_.length:Int) - 1 - g1.1).toNat+1=((l_.length:Int) - 1 - (g1.1 - 1)).toNat by omega]at hst;refine wm<|wn ?_;refine bu (λ(g4:Int×apV)=>0<=g4.1/\g4.1<=d_.length/\g4.2=g1.2.set g1.1.toNat (g1.2.getD g1.1.toNat false||(l_.getD g1.1.toNat ao).dD||Jj (d_.take g4.1.toNat) g1.1.toNat)) (λ(g4:Int×apV)=>(d_.length - g4.1).toNat) ?_ ?_
   ·intro eE g4 zU yt;obtain⟨qF,jf,zo⟩:=zU;unfold HZ;have al0:g4.2.length=l_.length:=(by rw[zo,afx,hbl]);refine wi ?_ ?_<;>intro c2
    ·refine wm<|wm ?_;refine yt _ ?_ ?_
     ·(refine⟨ob,ob,?_⟩;dsimp only;rw[show(g4.1+1).toNat=g4.1.toNat+1 by omega,zo];exact aep om om om)
     exact ob
    have UR:g4.2=g1.2.set g1.1.toNat (g1.2.getD g1.1.toNat false||(l_.getD g1.1.toNat ao).dD||Jj d_ g1.1.toNat):=(by rw[zo,show g4.1.toNat=d_.length by omega,agt]);have hgi:g4.2.getD g1.1.toNat false=(g1.2.getD g1.1.toNat false||(l_.getD g1.1.toNat ao).dD||Jj d_ g1.1.toNat):=(by rw[UR,dB,afc ⟨rfl,om⟩]);refine wm<|br ?_ ?_<;>intro c3
    ·have fM:=c3;have c3:=cG c3;have c3b:=fM;rw[hgi]at c3b;refine wm<|bQ _ ?_ ?_
     ·(refine⟨ob,ob,?_⟩;dsimp only;unfold JY at hst;rw[c3b]at hst;rw[UR];exact hst)
     exact ob
    have fM:=c3;have c3:=cG c3;have c3b:=fM;rw[hgi]at c3b;refine wn<|bQ _ ?_ ?_
    ·(refine⟨ob,ob,?_⟩;dsimp only;unfold JY at hst;rw[c3b]at hst;rw[UR];exact hst)
    exact ob
   (refine⟨ob,ob,?_⟩;dsimp only;rw[show(0:Int).toNat=0 from rfl,aoW,show Jj [] g1.1.toNat=false from rfl,aoC])
  exact ai (H9.done (by rw[show l_.length=((l_.length:Int) - 1 - g1.1).toNat by omega];exact bA))
 (refine⟨ob,ob,?_⟩;dsimp only;rw[show((l_.length:Int) - 1 - (l_.length - 1)).toNat=0 by omega];exact H9.start hv)
def Qi {s_:an} {v_:Int} (h1:s_.bC.length<=2000000):W (zc s_ v_) (λ r=>r=(bif decide (S9 s_.bC v_<s_.bC.length)then(S9 s_.bC v_:Int)else -1)):=by
 unfold zc;refine bu (λ(g1:Int)=>0<=g1/\g1<=s_.bC.length/\(∀j:Nat,(j:Int)<g1->s_.bC.getD j 0<v_)) (λ(g1:Int)=>(s_.bC.length - g1).toNat) ?_ ?_
 ·intro ab g1 cN bQ;obtain⟨cz,bB,bA⟩:=cN;unfold Fm;refine wi ?_ ?_<;>intro c1
  ·refine wn<|wi ?_ ?_<;>intro c2
   ·refine ai ?_;(rw[<- abN (k:=g1.toNat) om (λ j hj=>bA j om) (λ _=>c2),afl om];simp only[ahX];omega)
   refine wn<|bQ _ ?_ ?_
   ·(refine⟨ob,ob,cM bA cz c2⟩)
   exact ob
  refine ai ?_;(rw[<- abN (k:=g1.toNat) om (λ j hj=>bA j om) (λ h=>by omega),afe om];rfl)
 (refine⟨ob,ob,λ j hj=>by omega⟩)
def tU {r_:aK} {k_:Int} (h1:0<=k_) (h2:k_<l_.length) (h3:UI l_ r_):W (nt l_ r_ k_) (λ r=>r=gR l_ r_ k_.toNat):=by
 obtain⟨r1,r2,r3⟩:=h3;have r4:=r3 k_.toNat om;unfold nt;refine wm<|wn ?_;refine ai ?_;rfl
variable {r:aK} {u:apV} {ld:apU}
def al1 (h:(u.getD i false&&!r.On.getD i false)=true):FM l r u ld i=true:=by
 simp only[aeP]at h;unfold FM;rw[h.1,h.2];rfl
def al2 (h:(u.getD i false&&!r.On.getD i false)=false) (h2:(!r.On.getD i false)=true):FM l r u ld i=false:=by
 rw[h2,aoB]at h;unfold FM;rw[h2,h];rfl
def ai2 (h2:(!r.On.getD i false)=false):FM l r u ld i=(decide ((l.getD i ao).dW<ld.getD i 0)||(decide (0<=(l.getD i ao).aJ)&&(!r.On.getD (l.getD i ao).aJ.toNat false||decide (gR l r (l.getD i ao).aJ.toNat<gR l r i+(l.getD i ao).dR)))):=by
 unfold FM;rw[h2,Bool.or_comm];rfl
def US (hi:i<l.length) (h:FM l r (dI l d) (gY l d) i=true):r9 l r d=false:=by
 unfold r9;rw[vo hi (by rw[h];rfl)];rfl
def UT (h:∀i,i<l.length->FM l r (dI l d) (gY l d) i=false):r9 l r d=!(d.any (O5 l r)):=by
 unfold r9;rw[FN λ j hj=>(by rw[h j hj];rfl)];rfl
variable {s:DS}
def Zi (h:(!u.getD i false)=true):xL l u i s=false:=by
 unfold xL;rw[show u.getD i false=false by simpa using h];rfl
def abW {a n:Nat} (h:decide ((bif decide (a<n)then(a:Int)else -1)<0)=true):decide (a<n)=false:=by
 cases hd:decide (a<n)with
 | false=>rfl
 | true=>rw[hd]at h;have:=afj h;simp only[ahX]at this;omega
def abX {a n:Nat} (h:decide ((bif decide (a<n)then(a:Int)else -1)<0)=false):decide (a<n)=true:=by
 cases hd:decide (a<n)with
 | true=>rfl
 | false=>rw[hd]at h;cases h
def WS (h0:(rY l d != 0)=false) (e:(s,(i:Int))=IS l d):(zH,9)=lS l d:=by
 unfold lS;rw[h0,<- e,afl (show(0:Int)<=(s,(i:Int)).2 by dsimp only;omega)];rfl
def Rc (h0:(rY l d != 0)=false) (hdr:dY l d=true) (e:(s,(-1:Int))=IS l d) (hr:UI l ⟨dI l d,s.lv⟩):lS l d=bif !r9 l ⟨dI l d,s.lv⟩ d then(zH,9)else(⟨dI l d,s.lv⟩,0):=by
 unfold lS;have ZM:cK l ⟨dI l d,s.lv⟩ d=r9 l ⟨dI l d,s.lv⟩ d:=by
  unfold cK;rw[wY.2 ⟨FO hdr,hr⟩,hdr];rfl
 rw[h0,<- e];simp only[show decide ((0:Int) <= -1)=false from rfl,anU,ZM,ags]
def abY (hu:u.getD i false=true) (hi:i<s.lv.length):gR l ⟨u,(Cg l u i s).lv⟩ i+(l.getD i ao).dR=ks l i s:=by
 unfold gR ks Cg;rw[hu];simp only[aj1,ags];rw[dB,afc ⟨rfl,hi⟩];rfl
def abZ (hu:u.getD i false=true) (hp:decide (0<=(l.getD i ao).aJ)=true):(zT s.a).set (l.getD i ao).aJ.toNat (if ks l i s > (zT s.a).getD (l.getD i ao).aJ.toNat 0 then ks l i s else(zT s.a).getD (l.getD i ao).aJ.toNat 0)=zT (Cg l u i s).a:=by
 unfold Cg;rw[hu,hp,FP];simp only[aj1,ags,aj0];by_cases h:(s.a.getD (l.getD i ao).aJ.toNat Hc).sO<ks l i s
 ·rw[afl h,ahX,UO,afc h]
 rw[afe h,ags,aeV h,xN _ _ _ (FP _ _).symm]
def Zj (hp:decide (0<=(l.getD i ao).aJ)=false):zT s.a=zT (Cg l u i s).a:=by
 unfold Cg;rw[hp];cases u.getD i false<;>rfl
def ab0 (h:(!u.getD i false)=true):Cg l u i s=s:=by
 unfold Cg;rw[h];rfl
def Qj (h1:Ef l_ d_):W (zd l_ d_) (λ r=>r=gY l_ d_):=by
 have hv:=h1;obtain⟨vl,vd,vs,_,vx⟩:=h1;unfold zd;refine wm<|bu (λ(g1:Int×apU) => -1<=g1.1/\g1.1<l_.length/\DJ l_ d_ (l_.length - 1 - g1.1).toNat g1.2) (λ(g1:Int×apU)=>(g1.1+1).toNat) ?_ ?_
 ·intro ab g1 cN bQ;obtain⟨cz,bB,bA⟩:=cN;unfold Fp;have hbl:=bA.len;have hsm:=bA.small hv om;refine wi ?_ ?_<;>intro c1
  ·have hst:=bA.step hv (show(l_.length - 1 - g1.1).toNat<l_.length by omega);have hp:=vs g1.1.toNat om;rw[show l_.length - 1 - ((l_.length:Int) - 1 - g1.1).toNat=g1.1.toNat by omega,show((l_.length:Int) - 1 - g1.1).toNat+1=((l_.length:Int) - 1 - (g1.1 - 1)).toNat by omega]at hst;refine bu (λ(g4:Int×apU)=>0<=g4.1/\g4.1<=d_.length/\g4.2=g1.2.set g1.1.toNat (g1.2.getD g1.1.toNat 0+qL (d_.take g4.1.toNat) g1.1.toNat)) (λ(g4:Int×apU)=>(d_.length - g4.1).toNat) ?_ ?_
   ·intro eE g4 zU yt;obtain⟨qF,jf,zo⟩:=zU;unfold Fo;have al0:g4.2.length=l_.length:=(by rw[zo,afx,hbl]);refine wi ?_ ?_<;>intro c2
    ·have hx:=vx _ (fe cw (show g4.1.toNat<d_.length by omega));have hdb:=JZ (d:=d_) (λ x hx=>by have:=vx x hx;omega) g1.1.toNat g4.1.toNat om;have hbi:=hsm g1.1.toNat;have hgi:g4.2.getD g1.1.toNat 0=g1.2.getD g1.1.toNat 0+qL (d_.take g4.1.toNat) g1.1.toNat:=(by rw[zo,dB,afc ⟨rfl,om⟩]);refine wn<|br ?_ ?_<;>intro c3
     ·have fM:=c3;have c3:=cG c3;refine wm<|wm ?_;refine yt _ ?_ ?_
      ·(refine⟨ob,ob,?_⟩;dsimp only;rw[show(g4.1+1).toNat=g4.1.toNat+1 by omega,hgi,zo,aog,Ll om,show((g1.1.toNat:Int))=g1.1 by omega,fM];simp only[ahX];rw[Int.add_assoc])
      exact ob
     have fM:=c3;have c3:=cG c3;refine wn<|yt _ ?_ ?_
     ·(refine⟨ob,ob,?_⟩;dsimp only;rw[show(g4.1+1).toNat=g4.1.toNat+1 by omega,zo,Ll om,show((g1.1.toNat:Int))=g1.1 by omega,fM];rfl)
     exact ob
    have hdb:=JZ (d:=d_) (λ x hx=>by have:=vx x hx;omega) g1.1.toNat d_.length (afM _);rw[agt]at hdb;have UR:g4.2=g1.2.set g1.1.toNat (g1.2.getD g1.1.toNat 0+qL d_ g1.1.toNat):=(by rw[zo,show g4.1.toNat=d_.length by omega,agt]);have hgi:g4.2.getD g1.1.toNat 0=g1.2.getD g1.1.toNat 0+qL d_ g1.1.toNat:=(by rw[UR,dB,afc ⟨rfl,om⟩]);have hbi:=hsm g1.1.toNat;refine wn<|br ?_ ?_<;>intro c4
    ·have lR:=c4;have c4:=cG c4;have hgp:g4.2.getD (l_.getD g1.1.toNat ao).aJ.toNat 0=g1.2.getD (l_.getD g1.1.toNat ao).aJ.toNat 0:=(by rw[UR,dB,aeV om]);have hbp:=hsm (l_.getD g1.1.toNat ao).aJ.toNat;refine wm<|wm ?_;refine wn<|bQ _ ?_ ?_
     ·(refine⟨ob,ob,?_⟩;dsimp only;unfold GW at hst;rw[lR]at hst;rw[hgi,hgp,UR];exact hst)
     exact ob
    have lR:=c4;have c4:=cG c4;refine wn<|bQ _ ?_ ?_
    ·(refine⟨ob,ob,?_⟩;dsimp only;unfold GW at hst;rw[lR]at hst;rw[UR];exact hst)
    exact ob
   (refine⟨ob,ob,?_⟩;dsimp only;rw[show(0:Int).toNat=0 from rfl,aoW,show qL [] g1.1.toNat=0 from rfl,Int.add_zero,set_self])
  exact ai (DJ.done (by rw[show l_.length=((l_.length:Int) - 1 - g1.1).toNat by omega];exact bA))
 (refine⟨ob,ob,?_⟩;dsimp only;rw[show((l_.length:Int) - 1 - (l_.length - 1)).toNat=0 by omega];exact DJ.start hv)
def Ie {r_:aK} (h1:Ef l_ d_) (h2:UI l_ r_):W (uH l_ r_ d_) (λ r=>r=r9 l_ r_ d_):=by
 have hv:=h1;have hr:=h2;have hvb:=λ i hi=>JX hv hr i hi;have hul:=wX l_ d_;have hll:=IQ l_ d_;obtain⟨vl,vd,vs,_,vx⟩:=h1;obtain⟨r1,r2,r3⟩:=h2;unfold uH;refine ar (J1 ob) λ v1 hv1=>?_;subst v1;refine ar (Qj ob) λ v2 hv2=>?_;subst v2;refine bu (λ(g1:Int)=>0<=g1/\g1<=l_.length/\(∀j:Nat,(j:Int)<g1->FM l_ r_ (dI l_ d_) (gY l_ d_) j=false)) (λ(g1:Int)=>(l_.length - g1).toNat) ?_ ?_
 ·intro ab g1 cN bQ;obtain⟨cz,bB,bA⟩:=cN;unfold Fq;refine wi ?_ ?_<;>intro c1
  ·have hp:=vs g1.toNat om;have hv1:=hvb g1.toNat om;have hv2:=hvb (l_.getD g1.toNat ao).aJ.toNat;refine wm<|wn ?_;apply br<;>intro c2
   ·have fX:=c2;have c2:=cG c2;exact ai ((US (i:=g1.toNat) om (al1 fX)).symm)
   have fX:=c2;have c2:=cG c2;refine wn<|br ?_ ?_<;>intro c3
   ·have fM:=c3;have c3:=cG c3;refine wn<|bQ _ ?_ ?_
    ·(refine⟨ob,ob,cM bA cz (al2 fX fM)⟩)
    exact ob
   have fM:=c3;have c3:=cG c3;refine wn<|aF (by(intro _ q;have:=afj q;omega)) ?_;refine ar (dT λ hc hc2 hc3=>iU (tU (afj hc2) (by have:=afj hc2;omega) hr)) λ v7 hv7=>?_;subst v7;refine ar (dT λ hc hc2 hc3=>iU (tU om om hr)) λ v8 wJ=>?_;subst v8;refine aF (by(intro _ q;have:=afj q;have:=hv2 om;unfold av;omega)) ?_;apply br<;>intro c4
   ·have lR:=c4;have c4:=cG c4;exact ai ((US (i:=g1.toNat) om ((ai2 fM).trans lR)).symm)
   have lR:=c4;have c4:=cG c4;refine wn<|bQ _ ?_ ?_
   ·(refine⟨ob,ob,cM bA cz ((ai2 fM).trans lR)⟩)
   exact ob
  refine bu (λ(g2:Int)=>0<=g2/\g2<=d_.length/\(d_.drop g2.toNat).any (O5 l_ r_)=d_.any (O5 l_ r_)) (λ(g2:Int)=>(d_.length - g2).toNat) ?_ ?_
  ·intro cy g2 jK mo;obtain⟨mO,fH,jB⟩:=jK;unfold Dl;refine wi ?_ ?_<;>intro c5
   ·have hlt:g2.toNat<d_.length:=om;have hx:=vx _ (fe cw hlt);rw[drop_cons cw hlt,akp]at jB;refine wn<|ar (tU hx.1 hx.2.1 hr) λ v13 D1=>?_;subst v13;refine ar (lT) λ v14 JQ=>?_;subst v14;apply br<;>intro c6
    ·have Eg:=c6;have c6:=cG c6;refine ai ?_;(rw[UT (λ j hj=>bA j om),<- jB,show O5 l_ r_ (d_.getD g2.toNat cw)=true from Eg];rfl)
    have Eg:=c6;have c6:=cG c6;refine wn<|mo _ ?_ ?_
    ·(refine⟨ob,ob,?_⟩;rw[<- jB,show O5 l_ r_ (d_.getD g2.toNat cw)=false from Eg,show(g2+1).toNat=g2.toNat+1 by omega];rfl)
    exact ob
   refine ai ?_;(rw[UT (λ j hj=>bA j om),<- jB,show g2.toNat=d_.length by omega,ai8];rfl)
  (refine⟨ob,ob,rfl⟩)
 (refine⟨ob,ob,λ j hj=>by omega⟩)
def Qk (h1:l_.length<=2000000) (h2:d_.length<=2000000):W (uI l_ d_) (λ r=>r=lS l_ d_):=by
 unfold uI;refine ar (Qh ob ob) λ v1 hv1=>?_;subst v1;apply br<;>intro c1
 ·have dc:=c1;have c1:=cG c1;refine ai ?_;(unfold lS;rw[dc];rfl)
 have dc:=c1;have c1:=cG c1;have hdr:=abL (show rY l_ d_=0 by simpa using dc);have hv:=pX hdr;obtain⟨vl,vd,vs,vlv,vx⟩:=id hv;have hul:=wX l_ d_;refine ar (J1 hv) λ v2 hv2=>?_;subst v2;refine wm<|bu (λ(g1:Int×apU×apU)=>0<=g1.1/\g1.1<=d_.length/\g1.2.1=zT (tb l_.length d_ g1.1.toNat)/\g1.2.2=List.replicate l_.length 0) (λ(g1:Int×apU×apU)=>(d_.length - g1.1).toNat) ?_ ?_
 ·intro ab g1 cN bQ;obtain⟨cz,bB,bA,fY⟩:=cN;unfold Fs;have hgl:g1.2.1.length=l_.length:=(by rw[bA,UP,Lm]);refine wi ?_ ?_<;>intro c2
  ·have hx:=vx _ (fe cw (show g1.1.toNat<d_.length by omega));refine wm<|wm ?_;refine bQ _ ?_ ?_
   ·(refine⟨ob,ob,?_,fY⟩;dsimp only;rw[show(g1.1+1).toNat=g1.1.toNat+1 by omega,WO,bA])
   exact ob
  refine wn<|bu (λ(g2:Int×apU×apU) => -1<=g2.1/\g2.1<l_.length/\∃s:DS,g2.2.1=zT s.a/\g2.2.2=s.lv/\DOk l_ s/\aef l_ s/\O6 l_ (dI l_ d_) (g2.1+1).toNat s=IS l_ d_) (λ(g2:Int×apU×apU)=>(g2.1+1).toNat) ?_ ?_
  ·intro cy g2 jK mo;obtain⟨mO,fH,jB⟩:=jK;unfold Dn;obtain⟨s,e1,e2,e3,e4,e5⟩:=jB;have hal:g2.2.1.length=l_.length:=(by rw[e1,UP,e3.al]);have hll:g2.2.2.length=l_.length:=(by rw[e2,e3.ll]);refine wi ?_ ?_<;>intro c3
   ·have hp:=vs g2.1.toNat om;rw[show(g2.1+1).toNat=g2.1.toNat+1 by omega,O6]at e5;refine wn<|br ?_ ?_<;>intro c4
    ·have lR:=c4;have c4:=cG c4;refine wn<|mo _ ?_ ?_
     ·(refine⟨ob,ob,s,e1,e2,e3,e4,?_⟩;dsimp only;rw[show(g2.1 - 1+1).toNat=g2.1.toNat by omega];rw[Zi lR,ab0 lR]at e5;exact e5)
     exact ob
    have lR:=c4;have c4:=cG c4;have hu:(dI l_ d_).getD g2.1.toNat false=true:=(by simpa using lR);refine wm<|ar (Qi ob) λ v11 UU=>?_;subst v11;rw[e1,FP,show S9 (l_.getD g2.1.toNat ao).bC (s.a.getD g2.1.toNat Hc).sO=tx l_ g2.1.toNat s from rfl];have hgs:(g2.2.2.set g2.1.toNat (bif decide (tx l_ g2.1.toNat s<(l_.getD g2.1.toNat ao).bC.length)then(tx l_ g2.1.toNat s:Int)else -1)).getD g2.1.toNat 0=(bif decide (tx l_ g2.1.toNat s<(l_.getD g2.1.toNat ao).bC.length)then(tx l_ g2.1.toNat s:Int)else -1):=(by rw[dB,afc ⟨rfl,om⟩]);refine wn ?_;unfold vh;refine wn<|br ?_ ?_<;>intro c5
    ·have sN:=c5;have c5:=cG c5;rw[hgs]at sN;have h5:=abW sN;have h6:decide ((tx l_ g2.1.toNat s:Int)<(l_.getD g2.1.toNat ao).bC.length)=false:=(by simpa using h5);exact ai (WS dc (by unfold xL at e5;rw[hu,h6]at e5;exact e5))
    have sN:=c5;have c5:=cG c5;rw[hgs]at sN;have h5:=abX sN;have h6:decide ((tx l_ g2.1.toNat s:Int)<(l_.getD g2.1.toNat ao).bC.length)=true:=(by simpa using h5);have hf:xL l_ (dI l_ d_) g2.1.toNat s=false:=(by unfold xL;rw[hu,h6];rfl);rw[hf]at e5;have hlo:=aee (u:=dI l_ d_) (i:=g2.1.toNat) e3;have hlv:=aek hf e4;have hR:=abT hul hlo hlv;have hs:(Cg l_ (dI l_ d_) g2.1.toNat s).lv=s.lv.set g2.1.toNat (tx l_ g2.1.toNat s:Int):=(by unfold Cg;rw[hu];rfl);have hvo:=abY (l:=l_) (u:=dI l_ d_) hu (show g2.1.toNat<s.lv.length by rw[e3.ll];omega);have hvb:=JX hv hR g2.1.toNat om;rw[h5];simp only[ahX];rw[e2,<- hs];refine wn<|br ?_ ?_<;>intro c6
    ·have Eg:=c6;have c6:=cG c6;refine wn<|ar (tU om om hR) λ v10 tB=>?_;subst v10;refine wn<|aF (by(unfold av;omega)) ?_;refine wm<|mo _ ?_ ?_
     ·(refine⟨ob,ob,Cg l_ (dI l_ d_) g2.1.toNat s,?_,rfl,hlo,hlv,?_⟩;(dsimp only;rw[hvo,e1];exact abZ hu Eg);(dsimp only;rw[show(g2.1 - 1+1).toNat=g2.1.toNat by omega];exact e5))
     exact ob
    have Eg:=c6;have c6:=cG c6;refine wn<|mo _ ?_ ?_
    ·(refine⟨ob,ob,Cg l_ (dI l_ d_) g2.1.toNat s,?_,rfl,hlo,hlv,?_⟩;(dsimp only;rw[e1];exact Zj Eg);(dsimp only;rw[show(g2.1 - 1+1).toNat=g2.1.toNat by omega];exact e5))
    exact ob
   rw[show(g2.1+1).toNat=0 by omega,O6]at e5;have hrk:UI l_ ⟨dI l_ d_,g2.2.2⟩:=(by rw[e2];exact abT hul e3 e4);refine ar (Ie hv hrk) λ v12 Lb=>?_;subst v12;apply br<;>intro c7
   ·have Jk:=c7;have c7:=cG c7;refine ai ?_;(rw[Rc dc hdr e5 (by rw[<- e2];exact hrk),<- e2,Jk];rfl)
   have Jk:=c7;have c7:=cG c7;refine ai ?_;(rw[Rc dc hdr e5 (by rw[<- e2];exact hrk),<- e2,Jk];rfl)
  (refine⟨ob,ob,ds0 l_ d_,?_,fY,ag5 _ _,?_,?_⟩;(dsimp only;rw[bA,show g1.1.toNat=d_.length by omega];rfl);(intro j hj;show 0<=(List.replicate l_.length (0:Int)).getD j 0/\(List.replicate l_.length (0:Int)).getD j 0<_;rw[rZ];have:=vs j hj;omega);(dsimp only;rw[show((l_.length:Int) - 1+1).toNat=l_.length by omega];rfl))
 (refine⟨ob,ob,?_,rfl⟩;show _=zT (List.replicate l_.length (⟨0,-1,-1⟩:XQ));unfold zT;rw[List.map_replicate];rfl)
end Go.Proofs.YtifekdmmpbcdgaaGreatDoor.Sp
namespace Go.Proofs.YtifekdmmpbcdgaaGreatDoor
open Go.Ab
set_option maxRecDepth 100000
def UW (n lo hi:Int) (b:Bool):(((decide (n<lo))||(decide (hi<n)))||b)=(!(cn n lo hi)||b):=by
 unfold cn;congr 1;by_cases h1:n<lo<;>by_cases h2:hi<n<;>simp[h1,h2]<;>omega
variable {x:Int}
def Zk {l:apU} {y:Int} (h:l.contains x=false) (hy:¬ y=x):(l++[y]).contains x=false:=by
 rw[List.contains_eq_any_beq]at h ⊢;rw[aoQ,h];simpa using λ e=>hy e.symm
def WT (n:Nat):decide ((1:Int)<=(n:Int))=decide ((0:Int)<(n:Int)):=by
 rw[decide_eq_decide];omega
def al3 {c:au}:((decide ((1:Int)<=(c.aN.length:Int))&&decide ((0:Int)<(c.aE.length:Int)))&&(rU 0 ((c.aN.length:Int) - 1) [] c.aE))=(decide (0<(c.aE.length:Int))&&rU 0 ((c.aN.length:Int) - 1) [] c.aE):=by
 by_cases h:1<=(c.aN.length:Int)
 ·rw[afl h,aj0]
 rw[afe h,Bool.false_and,Bool.false_and];symm;rw[aiI];by_cases h2:0<(c.aE.length:Int)
 ·right;cases hd:rU 0 ((c.aN.length:Int) - 1) [] c.aE with
  | false=>rfl
  | true=>have:=ad8 _ _ hd om;omega
 left;exact afe h2
def Zl {l_:apU} {x_:Int} (h1:l_.length<=2000000):W (NO l_ x_) (λ r=>r=l_.contains x_):=by
 unfold NO;refine bu (λ(g1:Int)=>0<=g1/\g1<=l_.length/\(l_.take g1.toNat).contains x_=false) (λ(g1:Int)=>(l_.length - g1).toNat) ?_ ?_
 ·intro ab g1 cN bQ;obtain⟨cz,bB,bA⟩:=cN;unfold ON;refine wi ?_ ?_<;>intro c1
  ·refine wn<|wi ?_ ?_<;>intro c2
   ·exact ai ((List.elem_eq_true_of_mem (by rw[<- c2];exact getD_in 0 om)).symm)
   refine wn<|bQ _ ?_ ?_
   ·(refine⟨ob,ob,?_⟩;rw[show(g1+1).toNat=g1.toNat+1 by omega,eI 0 om];exact Zk bA c2)
   exact ob
  refine ai ?_;(rw[show g1.toNat=l_.length by omega,agt]at bA;exact bA.symm)
 (refine⟨ob,ob,rfl⟩)
def UX {a_:apU} {b_:apU} (h1:a_.length<=2000000):W (AG a_ b_) (λ r=>r=(a_==b_)):=by
 unfold AG;refine wi ?_ ?_<;>intro c1
 ·exact ai ((Sw c1).symm)
 refine bu (λ(g1:Int)=>0<=g1/\g1<=a_.length/\(a_==b_)=(a_.drop g1.toNat==b_.drop g1.toNat)) (λ(g1:Int)=>(a_.length - g1).toNat) ?_ ?_
 ·intro ab g1 cN bQ;obtain⟨cz,bB,bA⟩:=cN;unfold JI;refine wi ?_ ?_<;>intro c2
  ·rw[drop_cons 0 (show g1.toNat<a_.length by omega),drop_cons 0 (show g1.toNat<b_.length by omega)]at bA;refine wm<|wi ?_ ?_<;>intro c3
   ·refine ai ?_;(rw[bA,aen c3])
   refine wn<|bQ _ ?_ ?_
   ·(refine⟨ob,ob,?_⟩;rw[bA,aeo c3,show(g1+1).toNat=g1.toNat+1 by omega])
   exact ob
  refine ai ?_;(rw[bA,ajU om,ajU om];rfl)
 (refine⟨ob,ob,rfl⟩)
def sk {l_:apU} {qI:Int} {sH:Int} (h1:l_.length<=2000000):W (jb l_ qI sH) (λ r=>r=rU qI sH [] l_):=by
 unfold jb;refine bu (λ(g1:Int)=>0<=g1/\g1<=l_.length/\rU qI sH (l_.take g1.toNat) (l_.drop g1.toNat)=rU qI sH [] l_) (λ(g1:Int)=>(l_.length - g1).toNat) ?_ ?_
 ·intro ab g1 cN bQ;obtain⟨cz,bB,bA⟩:=cN;unfold xD;refine wi ?_ ?_<;>intro c1
  ·rw[drop_cons 0 (show g1.toNat<l_.length by omega)]at bA;refine wm<|ar (dT λ hc=>iU (Zl ob)) λ v3 hv3=>?_;subst v3;apply br<;>intro c2
   ·have fX:=c2;have c2:=cG c2;rw[UW]at fX;refine ai ?_;(rw[<- bA,NP (pre:=l_.take g1.toNat) (n:=l_.getD g1.toNat 0) fX])
   have fX:=c2;have c2:=cG c2;rw[UW]at fX;refine wn<|bQ _ ?_ ?_
   ·(refine⟨ob,ob,?_⟩;rw[<- bA,Sj (pre:=l_.take g1.toNat) (n:=l_.getD g1.toNat 0) fX,show(g1+1).toNat=g1.toNat+1 by omega,eI 0 om])
   exact ob
  refine ai ?_;(rw[<- bA,ajU om];rfl)
 (refine⟨ob,ob,rfl⟩)
def MY {c_:au} (h1:c_.aN.length<=2000000) (h2:c_.aE.length<=2000000):W (tO c_) (λ r=>r=eW c_):=by
 unfold tO;apply br<;>intro c1
 ·have dc:=c1;have c1:=cG c1;refine aF (by(intro hc;simp only[aeP,ajZ]at hc;omega)) ?_;refine aF (by(intro hc;simp only[aeP,ajZ]at hc;omega)) ?_;refine ai ?_;(unfold eW;rw[dc];simp only[ahX];unfold cn;rw[apy])
 have dc:=c1;have c1:=cG c1;apply br<;>intro c2
 ·have fX:=c2;have c2:=cG c2;apply br<;>intro c3
  ·have fM:=c3;have c3:=cG c3;refine ar (dT λ hc=>iU (sk ob)) λ v1 hv1=>?_;subst v1;refine ai ?_;(unfold eW;rw[dc,fX,WT];rfl)
  have fM:=c3;have c3:=cG c3;rw[fX]at fM;cases fM
 have fX:=c2;have c2:=cG c2;apply br<;>intro c4
 ·have lR:=c4;have c4:=cG c4;refine ar (dT λ hc=>iU (sk ob)) λ v4 hv4=>?_;subst v4;refine ai ?_;(unfold eW;rw[dc,fX,lR,WT];rfl)
 have lR:=c4;have c4:=cG c4;apply br<;>intro c5
 ·have sN:=c5;have c5:=cG c5;refine wn<|ar (dT λ hc=>iU (sk ob)) λ v5 hv5=>?_;subst v5;refine ai ?_;(unfold eW;rw[dc,fX,lR,sN,WT c_.aE.length];exact al3)
 have sN:=c5;have c5:=cG c5;apply br<;>intro c6
 ·have Eg:=c6;have c6:=cG c6;apply br<;>intro c7
  ·have Jk:=c7;have c7:=cG c7;refine ar (dT λ hc=>iU (UX ob)) λ v6 hv6=>?_;subst v6;refine ai ?_;(unfold eW;rw[dc,fX,lR,sN,Eg];rfl)
  have Jk:=c7;have c7:=cG c7;refine ai ?_;(unfold eW;rw[dc,fX,lR,sN,Eg,show((c_.aN.length:Int)==1)=false by simpa using Jk];rfl)
 have Eg:=c6;have c6:=cG c6;refine ai ?_;(unfold eW;rw[dc,fX,lR,sN,Eg];rfl)
variable {l_:apY}
def MZ (h1:l_.length<=1000) (h2:XP l_):W (tP l_) (λ r=>r=eN l_):=by
 unfold tP;refine bu (λ(g1:Int×apU)=>0<=g1.1/\g1.1<=l_.length/\g1.2=eN (l_.take g1.1.toNat)) (λ(g1:Int×apU)=>(l_.length - g1.1).toNat) ?_ ?_
 ·intro ab g1 cN bQ;obtain⟨cz,bB,bA⟩:=cN;unfold AI;have hfb:=gq (l_.take g1.1.toNat);rw[take_len om,<- bA]at hfb;refine wi ?_ ?_<;>intro c1
  ·obtain⟨hp1,hp2⟩:=h2 g1.1.toNat om;refine wn<|bu (λ(g6:Int×Int)=>0<=g6.2/\g6.2<=(l_.getD g1.1.toNat az).aN.length/\g6.1=jm g1.2 ((l_.getD g1.1.toNat az).aN.take g6.2.toNat)) (λ(g6:Int×Int)=>((l_.getD g1.1.toNat az).aN.length - g6.2).toNat) ?_ ?_
   ·intro fL g6 FU Cm;obtain⟨DL,qG,DM⟩:=FU;unfold AH;have hpm:=Cc g1.2 g1.1.toNat om hfb.2 ((l_.getD g1.1.toNat az).aN.take g6.2.toNat);rw[<- DM]at hpm;refine wi ?_ ?_<;>intro c2
    ·have hx:=hp2 _ (getD_in (i:=g6.2.toNat) 0 om);refine wm<|wn ?_;refine Cm _ ?_ ?_
     ·(refine⟨ob,ob,?_⟩;dsimp only;rw[show(g6.2+1).toNat=g6.2.toNat+1 by omega];unfold jm;rw[pL _ _ 0 om,DM];rfl)
     exact ob
    have hpe:g6.1=jm g1.2 (l_.getD g1.1.toNat az).aN:=(by rw[DM,show g6.2.toNat=(l_.getD g1.1.toNat az).aN.length by omega,agt]);apply br<;>intro c3
    ·have fM:=c3;have c3:=cG c3;refine wn ?_;unfold j6;refine wm<|bQ _ ?_ ?_
     ·(refine⟨ob,ob,?_⟩;dsimp only;rw[show(g1.1+1).toNat=g1.1.toNat+1 by omega,eI az om,wW,<- bA];unfold Cb IK;rw[fM,hpe];rfl)
     exact ob
    have fM:=c3;have c3:=cG c3;unfold j6;refine wm<|bQ _ ?_ ?_
    ·(refine⟨ob,ob,?_⟩;dsimp only;rw[show(g1.1+1).toNat=g1.1.toNat+1 by omega,eI az om,wW,<- bA];unfold Cb IK;rw[fM,hpe];rfl)
    exact ob
   (refine⟨ob,ob,rfl⟩)
  refine ai ?_;(rw[bA,show g1.1.toNat=l_.length by omega,agt])
 (refine⟨ob,ob,rfl⟩)
def tV (h1:l_.length<=2000000):W (nn l_) (λ r=>r=cB l_):=by
 unfold nn;apply br<;>intro c1
 ·have dc:=c1;have c1:=cG c1;refine ai ?_;(unfold cB;rw[dc];rfl)
 have dc:=c1;have c1:=cG c1;refine bu (λ(g1:Int)=>0<=g1/\g1<=l_.length/\(∀j:Nat,(j:Int)<g1->IJ (l_.getD j az)=false)) (λ(g1:Int)=>(l_.length - g1).toNat) ?_ ?_
 ·intro ab g1 cN bQ;obtain⟨cz,bB,bA⟩:=cN;unfold E6;refine wi ?_ ?_<;>intro c2
  ·refine wn<|br ?_ ?_<;>intro c3
   ·have fM:=c3;have c3:=cG c3;refine ai ?_;(unfold cB;rw[rW (p:=IJ) az (show g1.toNat<l_.length by omega) (show IJ _=true from fM),aox];rfl)
   have fM:=c3;have c3:=cG c3;refine wn<|bQ _ ?_ ?_
   ·(refine⟨ob,ob,cM bA cz fM⟩)
   exact ob
  have hb4:∀i:Nat,i<l_.length->IJ (l_.getD i az)=false:=λ j hj=>bA j om;have hbig:=any_none (p:=IJ) az hb4;have hb3:(decide (16<(l_.length:Int))||l_.any IJ)=false:=(by rw[dc,hbig];rfl);refine bu (λ(g2:Int×Int)=>0<=g2.2/\g2.2<=l_.length/\g2.1=jz (l_.take g2.2.toNat)/\(∀j:Nat,(j:Int)<g2.2->iJ (l_.getD j az) j=true)) (λ(g2:Int×Int)=>(l_.length - g2.2).toNat) ?_ ?_
  ·intro cy g2 jK mo;obtain⟨mO,fH,jB,vM⟩:=jK;unfold C9;refine wi ?_ ?_<;>intro c4
   ·have hlt:g2.2.toNat<l_.length:=om;have hbl:=FF (hb4 g2.2.toNat hlt);refine wn<|bu (λ(g5:Int)=>0<=g5/\g5<=(l_.getD g2.2.toNat az).aN.length/\(∀j:Nat,(j:Int)<g5->cn ((l_.getD g2.2.toNat az).aN.getD j 0) 0 (g2.2.toNat - 1)=true)) (λ(g5:Int)=>((l_.getD g2.2.toNat az).aN.length - g5).toNat) ?_ ?_
    ·intro jX g5 Lr Ls;obtain⟨Ib,xR,DK⟩:=Lr;unfold C7;refine wi ?_ ?_<;>intro c5
     ·refine wn<|wi ?_ ?_<;>intro c6
      ·refine ai ?_;(unfold cB;rw[hb3,IL hlt (Lc (j:=g5.toNat) om (by rw[<- aj4,within_iff];omega))];rfl)
      refine wn<|Ls _ ?_ ?_
      ·(refine⟨ob,ob,cM DK Ib (by rw[within_iff];omega)⟩)
      exact ob
     have hvr:=Uv (k:=(g2.2.toNat:Int)) (λ j hj=>DK j om);refine ar (MY ob ob) λ v3 hv3=>?_;subst v3;apply br<;>intro c7
     ·have Jk:=c7;have c7:=cG c7;rw[Jk]at hvr;refine ai ?_;(unfold cB;rw[hb3,IL hlt hvr];rfl)
     have Jk:=c7;have c7:=cG c7;rw[Jk]at hvr;have hpm:=abB (l_.take g2.2.toNat) (l_.getD g2.2.toNat az).aE.length om;rw[<- jB]at hpm;refine wm<|mo _ ?_ ?_
     ·(refine⟨ob,ob,?_,cM vM mO hvr⟩;dsimp only;rw[show(g2.2+1).toNat=g2.2.toNat+1 by omega];unfold jz;rw[pL _ _ az hlt];rw[jB];rfl)
     exact ob
    (refine⟨ob,ob,λ j hj=>by omega⟩)
   have hva:∀i:Nat,i<l_.length->iJ (l_.getD i az) i=true:=λ j hj=>vM j om;have hall:=Q1 hva;have hfl:=(gq l_).1;rw[show g2.2.toNat=l_.length by omega,agt]at jB;apply br<;>intro c8
   ·have Ql:=c8;have c8:=cG c8;refine ai ?_;(unfold cB;rw[hb3,hall,<- jB,Ql];rfl)
   have Ql:=c8;have c8:=cG c8;refine ar (MZ om (Uw hva hb4)) λ v4 hv4=>?_;subst v4;refine bu (λ(g6:Int)=>0<=g6/\g6<=(eN l_).length/\(∀j:Nat,(j:Int)<g6->(λ n=>decide (4<n)) ((eN l_).getD j 0)=false)) (λ(g6:Int)=>((eN l_).length - g6).toNat) ?_ ?_
   ·intro fL g6 FU Cm;obtain⟨DL,qG,DM⟩:=FU;unfold C8;refine wi ?_ ?_<;>intro c9
    ·refine wn<|br ?_ ?_<;>intro c10
     ·have D4:=c10;have c10:=cG c10;refine ai ?_;(unfold cB;rw[hb3,hall,rW (p:=λ n=>decide (4<n)) 0 (show g6.toNat<(eN l_).length by omega) D4,aox];rfl)
     have D4:=c10;have c10:=cG c10;refine wn<|Cm _ ?_ ?_
     ·(refine⟨ob,ob,cM DM DL D4⟩)
     exact ob
    refine ai ?_;(unfold cB;rw[hb3,hall,<- jB,Ql,any_none (p:=λ n=>decide (4<n)) 0 (λ j hj=>DM j om)];rfl)
   (refine⟨ob,ob,λ j hj=>by omega⟩)
  (refine⟨ob,ob,rfl,λ j hj=>by dsimp only at hj;omega⟩)
 (refine⟨ob,ob,λ j hj=>by omega⟩)
variable {l:apY} {m:ap4}
def aer (h:((cB l != 0)||decide (32<(m.length:Int)))=true):iL l m=false:=by
 unfold iL;by_cases h1:cB l=0
 ·rw[h1]at h;have:32<(m.length:Int):=by simpa using h
  rw[afe (p:=(m.length:Int)<=32) om];simp
 have:(cB l==0)=false:=by simpa using h1
 rw[this];rfl
def ab1 (h:((cB l != 0)||decide (32<(m.length:Int)))=false):iL l m=!(m.any (A4 l.length)):=by
 have h1:cB l=0/\(m.length:Int)<=32:=by
  simp at h;omega
 unfold iL;rw[h1.1,afl h1.2];rfl
def UY (n:Int) (x:aP):(((((decide (x.cF<(0:Int)))||(decide (n<=x.cF)))||(decide (x.ij<(0:Int))))||(decide (x.cY<x.ij)))||(decide ((4000000000:Int)<x.cY)))=A4 n x:=by
 unfold A4 cn;rw[aoS];simp;omega
variable {m_:ap4}
def FV (h1:l_.length<=2000000) (h2:m_.length<=2000000):W (rN l_ m_) (λ r=>r=iL l_ m_):=by
 unfold rN;refine ar (tV ob) λ v1 hv1=>?_;subst v1;apply br<;>intro c1
 ·have dc:=c1;have c1:=cG c1;exact ai ((aer dc).symm)
 have dc:=c1;have c1:=cG c1;have hdf:=ab1 dc;refine bu (λ(g1:Int)=>0<=g1/\g1<=m_.length/\(m_.drop g1.toNat).any (A4 l_.length)=m_.any (A4 l_.length)) (λ(g1:Int)=>(m_.length - g1).toNat) ?_ ?_
 ·intro ab g1 cN bQ;obtain⟨cz,bB,bA⟩:=cN;unfold Dj;refine wi ?_ ?_<;>intro c2
  ·have hlt:g1.toNat<m_.length:=om;rw[drop_cons bW hlt,akp]at bA;refine wn<|br ?_ ?_<;>intro c3
   ·have fM:=c3;have c3:=cG c3;rw[UY]at fM;refine ai ?_;(rw[hdf,<- bA,fM];rfl)
   have fM:=c3;have c3:=cG c3;rw[UY]at fM;refine wn<|bQ _ ?_ ?_
   ·(refine⟨ob,ob,?_⟩;rw[<- bA,fM,show(g1+1).toNat=g1.toNat+1 by omega];rfl)
   exact ob
  refine ai ?_;(rw[hdf,<- bA,show g1.toNat=m_.length by omega,ai8];rfl)
 (refine⟨ob,ob,rfl⟩)
def Qm (h1:l_.length<=2000000) (h2:m_.length<=2000000):W (yZ l_ m_) (λ r=>r=(bif cB l_ != 0 then cB l_ else bif !iL l_ m_ then 1 else 0)):=by
 unfold yZ;refine ar (tV ob) λ v1 hv1=>?_;subst v1;apply br<;>intro c1
 ·have dc:=c1;have c1:=cG c1;refine ai ?_;(rw[dc];rfl)
 have dc:=c1;have c1:=cG c1;refine ar (FV ob ob) λ v2 hv2=>?_;subst v2;apply br<;>intro c2
 ·have fX:=c2;have c2:=cG c2;refine ai ?_;(rw[dc,fX];rfl)
 have fX:=c2;have c2:=cG c2;refine ai ?_;(rw[dc,fX];rfl)
def Pd {c_:au} {pv:Int} (h1:OT c_ pv):W (wy c_ pv) (λ r=>r=gX c_ pv):=by
 have hp:=h1;unfold OT at hp;unfold wy;apply br<;>intro c1
 ·have dc:=c1;have c1:=cG c1;refine ai ?_;(unfold gX;rw[dc];rfl)
 have dc:=c1;have c1:=cG c1;apply br<;>intro c2
 ·have fX:=c2;have c2:=cG c2;refine wm<|ai ?_;(unfold gX;rw[dc,fX];rfl)
 have fX:=c2;have c2:=cG c2;refine wn<|ai ?_;(unfold gX;rw[dc,fX];rfl)
def vr {a_:Int} {b_:Int} (h1:0<=a_) (h2:0<=b_):W (my a_ b_) (λ r=>r=fB a_ b_):=by
 unfold my;refine bu (λ(g1:Int×Int)=>0<=g1.1/\0<=g1.2/\fB g1.1 g1.2=fB a_ b_) (λ(g1:Int×Int)=>g1.2.toNat) ?_ ?_
 ·intro ab g1 cN bQ;obtain⟨cz,bB,bA⟩:=cN;unfold AL;refine wi ?_ ?_<;>intro c1
  ·refine wn<|bQ _ ?_ ?_
   ·(refine⟨ob,anR _ om,?_⟩;dsimp only;rw[<- bA];exact UB om om)
   (dsimp only;have:=JP g1.1 g1.2 om;have:=anR (a:=g1.1) g1.2 om;omega)
  refine ai ?_;(rw[<- bA];unfold fB;have e:g1.2=0:=c1;rw[e];simp;omega)
 exact ob
variable {r_:bx}
def tW:W (nq r_) (λ r=>r=kp r_):=by
 unfold nq;refine ar (dT λ hc=>iU (vr (by have hc:=cG hc;omega) (by have hc:=cG hc;omega))) λ v1 hv1=>?_;subst v1;refine ai ?_;rfl
def FX {k_:Int}:W (rO k_) (λ r=>r=rV k_):=by
 unfold rO;refine ai ?_;rfl
def MG {ru:Int} {rv:Int} (h1:ru<=4611686018427387904) (h2:rv<=4611686018427387904):W (AM ru rv) (λ r=>r=newR ru rv):=by
 unfold AM;apply br<;>intro c1
 ·have dc:=c1;have c1:=cG c1;refine ai ?_;(unfold newR;rw[dc];rfl)
 have dc:=c1;have c1:=cG c1;have hg:=uN ru rv om;have q1:=tdiv_le ru _ om hg;have q2:=tdiv_le rv _ om hg;refine ar (vr ob ob) λ v1 hv1=>?_;subst v1;refine wm<|ar (tW) λ v2 hv2=>?_;subst v2;apply br<;>intro c2
 ·have fX:=c2;have c2:=cG c2;refine ai ?_;(unfold newR;rw[dc];simp only[ags];rw[fX];rfl)
 have fX:=c2;have c2:=cG c2;refine ai ?_;(unfold newR;rw[dc];simp only[ags];rw[fX];rfl)
def Sy {k_:Int}:W (B0 r_ k_) (λ r=>r=uO r_ k_):=by
 unfold B0;refine ar (tW) λ v1 hv1=>?_;subst v1;apply br<;>intro c1
 ·have dc:=c1;have c1:=cG c1;refine ai ?_;(unfold uO;rw[dc];rfl)
 have dc:=c1;have c1:=cG c1;have hv:=jd (r:=r_) (by simpa using dc);refine ar (FX) λ v2 hv2=>?_;subst v2;apply br<;>intro c2
 ·have fX:=c2;have c2:=cG c2;refine ai ?_;(unfold uO;rw[dc,fX];rfl)
 have fX:=c2;have c2:=cG c2;have hk:1<=k_/\k_<=64:=(by simp[rV]at fX;omega);have q3:=Lg (show 0<=k_ by omega) hk.2 (show 0<=r_.fx by omega) hv.2.2.2.1;refine wn<|ar (MG ob ob) λ v3 hv3=>?_;subst v3;refine ai ?_;(unfold uO;rw[dc,fX];rfl)
def Qn {k_:Int}:W (za r_ k_) (λ r=>r=mC r_ k_):=by
 unfold za;refine ar (tW) λ v1 hv1=>?_;subst v1;apply br<;>intro c1
 ·have dc:=c1;have c1:=cG c1;refine ai ?_;(unfold mC;rw[dc];rfl)
 have dc:=c1;have c1:=cG c1;have hv:=jd (r:=r_) (by simpa using dc);refine ar (FX) λ v2 hv2=>?_;subst v2;apply br<;>intro c2
 ·have fX:=c2;have c2:=cG c2;refine ai ?_;(unfold mC;rw[dc,fX];rfl)
 have fX:=c2;have c2:=cG c2;have hk:1<=k_/\k_<=64:=(by simp[rV]at fX;omega);have hg:=uN k_ r_.fx om;have q1:=tdiv_le k_ _ om hg;have q2:=tdiv_le r_.fx _ om hg;have q4:=agY k_ r_.fx hk om;have q5:=tdiv_le 144115188075855872 _ om (show 0<k_.tdiv (fB k_ r_.fx) by omega);refine ar (vr ob ob) λ v3 hv3=>?_;subst v3;refine wm<|br ?_ ?_<;>intro c3
 ·have fM:=c3;have c3:=cG c3;refine ai ?_;(unfold mC;rw[dc,fX,fM];rfl)
 have fM:=c3;have c3:=cG c3;have q3:=Y3 r_.ga (k_.tdiv (fB k_ r_.fx)) hv.1 q4.1 om;refine wm<|wn ?_;refine ar (MG ob ob) λ v4 hv4=>?_;subst v4;refine ai ?_;(unfold mC;rw[dc,fX,fM];rfl)
variable {s_:apU}
def fO {g1:Int×ap5×apV} {ab:(Int×ap5×apV)->M (ap5×apV)} {g7:Bool×Int×Int} {Q:(ap5×apV)->Prop} (bQ:∀s':(Int×ap5×apV),(0<=s'.1/\s'.1<=l_.length/\s'.2.1=(Lf l_ s_ s'.1.toNat).1/\s'.2.2=(Lf l_ s_ s'.1.toNat).2)->(l_.length - s'.1).toNat<(l_.length - g1.1).toNat->W (ab s') Q) (hc:0<=g1.1/\g1.1<l_.length/\l_.length<=1000/\g1.2.1=(Lf l_ s_ g1.1.toNat).1/\g1.2.2=(Lf l_ s_ g1.1.toNat).2/\((⟨g7.2.1,g7.2.2⟩:bx),g7.1)=(st1 (Lf l_ s_ g1.1.toNat).1 (Lf l_ s_ g1.1.toNat).2 (l_.getD g1.1.toNat az) (s_.getD g1.1.toNat 0))):W (fv g1 ab g7) Q:=by
 obtain⟨WU,Zm,xS,Hf,Lt,Sz⟩:=hc;unfold fv;refine aF (by(rw[Hf,(GV l_ s_ g1.1.toNat).1];unfold big;omega)) ?_;refine aF (by(rw[Lt,(GV l_ s_ g1.1.toNat).2];unfold big;omega)) ?_;refine wn<|bQ _ ?_ ?_
 ·(refine⟨ob,ob,?_,?_⟩;(dsimp only;rw[show(g1.1+1).toNat=g1.1.toNat+1 by omega,Lf,<- Sz,<- Hf]);(dsimp only;rw[show(g1.1+1).toNat=g1.1.toNat+1 by omega,Lf,<- Sz,<- Lt]))
 exact ob
def FY (h1:Good l_ s_) (h2:Up l_ s_):W (rP l_ s_) (λ r=>r=H7 l_ s_):=by
 obtain⟨q1,q2,q3,q4,q5⟩:=h1;unfold rP;refine bu (λ(g1:Int×ap5×apV)=>0<=g1.1/\g1.1<=l_.length/\g1.2.1=(Lf l_ s_ g1.1.toNat).1/\g1.2.2=(Lf l_ s_ g1.1.toNat).2) (λ(g1:Int×ap5×apV)=>(l_.length - g1.1).toNat) ?_ ?_
 ·intro ab g1 cN bQ;obtain⟨cz,bB,bA,fY⟩:=cN;unfold Dk;have hst:=GV l_ s_ g1.1.toNat;refine wi ?_ ?_<;>intro c1
  ·have hch:=q3 g1.1.toNat om;have hpar:=q5 g1.1.toNat om;have hpc:=q4 g1.1.toNat om;have hui:=h2 g1.1.toNat om;refine wm<|ar (Pd ob) λ v18 ag8=>?_;subst v18;refine wi ?_ ?_<;>intro c2
   ·refine wm ?_;unfold kS;refine wm<|br ?_ ?_<;>intro c3
    ·have fM:=c3;have c3:=cG c3;exact fO (l_:=l_) (s_:=s_) (λ a b c=>bQ a b c) (by(exfalso;have:=(show gX (l_.getD g1.1.toNat az) (s_.getD g1.1.toNat 0) = -1 by unfold gX;rw[fM];rfl);omega))
    have fM:=c3;have c3:=cG c3;apply br<;>intro c4
    ·have lR:=c4;have c4:=cG c4;refine ar (Sy) λ v16 Si=>?_;subst v16;exact fO (l_:=l_) (s_:=s_) (λ a b c=>bQ a b c) (by(refine⟨ob,ob,ob,bA,fY,?_⟩;dsimp only;unfold st1;rw[fM,lR,<- bA,<- fY];rfl))
    have lR:=c4;have c4:=cG c4;apply br<;>intro c5
    ·have sN:=c5;have c5:=cG c5;refine ar (Qn) λ v17 aes=>?_;subst v17;exact fO (l_:=l_) (s_:=s_) (λ a b c=>bQ a b c) (by(refine⟨ob,ob,ob,bA,fY,?_⟩;dsimp only;unfold st1;rw[fM,lR,sN,<- bA,<- fY];rfl))
    have sN:=c5;have c5:=cG c5;apply br<;>intro c6
    ·have Eg:=c6;have c6:=cG c6;apply br<;>intro c7
     ·have Jk:=c7;have c7:=cG c7;exact fO (l_:=l_) (s_:=s_) (λ a b c=>bQ a b c) (by(refine⟨ob,ob,ob,bA,fY,?_⟩;dsimp only;unfold st1;rw[fM,lR,sN,Eg,Jk,<- bA,<- fY];rfl))
     have Jk:=c7;have c7:=cG c7;exact fO (l_:=l_) (s_:=s_) (λ a b c=>bQ a b c) (by(refine⟨ob,ob,ob,bA,fY,?_⟩;dsimp only;unfold st1;rw[fM,lR,sN,Eg,Jk,<- bA,<- fY];rfl))
    have Eg:=c6;have c6:=cG c6;exact fO (l_:=l_) (s_:=s_) (λ a b c=>bQ a b c) (by(refine⟨ob,ob,ob,bA,fY,?_⟩;dsimp only;unfold st1;rw[fM,lR,sN,Eg,<- bA,<- fY];rfl))
   unfold kS;refine wm<|br ?_ ?_<;>intro c8
   ·have Ql:=c8;have c8:=cG c8;exact fO (l_:=l_) (s_:=s_) (λ a b c=>bQ a b c) (by(refine⟨ob,ob,ob,bA,fY,?_⟩;dsimp only;unfold st1;rw[Ql];rfl))
   have Ql:=c8;have c8:=cG c8;exfalso;have:=hui (by simpa using Ql);omega
  refine ai ?_;(unfold H7;rw[bA,fY,show g1.1.toNat=l_.length by omega])
 (refine⟨ob,ob,rfl,rfl⟩)
def ab2 (r:ap5) (on:apV) (l:apY) (j:Nat):Bool:=((on.getD j false)&&((l.getD j az).cY != 0))&&!mM (r.getD j cD) (l.getD j az).ij (l.getD j az).cY
def Zn (l:apY) (st:ap5×apV):Bool:=(List.range l.length).all λ i=>!ab2 st.1 st.2 l i
def Pe (st:ap5×apV) (x:aP):Bool:=!(st.2.getD x.cF.toNat false)||!mM (st.1.getD x.cF.toNat cD) x.ij x.cY
def FZ (l:apY) (s:apU) (m:ap4):Bool:=!m.any (Pe (H7 l s))&&Zn l (H7 l s)
def VS (l:apY) (s:apU):Prop:=s.length=l.length/\∀i,i<l.length->0<=s.getD i 0/\s.getD i 0<(l.getD i az).aE.length
def dP:apY->Nat
 | []=>1
 | c::l=>c.aE.length*dP l
def dJ:apY->apU->Nat
 | c::l,x::t=>x.toNat*dP l+dJ l t
 | _,_=>0
def J2 {c:au} {s:apU} (h:VS (c::l) s):∃x t,s=x::t/\0<=x/\x<c.aE.length/\VS l t:=by
 obtain⟨h1,h2⟩:=h;cases s with
 | nil=>cases h1
 | cons x t=>
  have h0:=h2 0 (by simp);exact⟨x,t,rfl,h0.1,h0.2,by simpa using h1,λ i hi=>h2 (i+1) (by simpa using hi)⟩
def zV:∀ {s:apU},VS l s->dJ l s<dP l:=by
 induction l with
 | nil=>intro s _;cases s<;>simp[dJ,dP]
 | cons c l ih=>
  intro s h;obtain⟨x,t,rfl,h1,h2,h3⟩:=J2 h;have:=ih h3;rw[dJ,dP];have h4:(x.toNat+1)*dP l<=c.aE.length*dP l:=afK _ om;rw[aip,aoG]at h4;omega
def ab3:∀ {s:apU},(∀j,j<l.length->s.getD j 0=0)->dJ l s=0:=by
 induction l with
 | nil=>intro s _;cases s<;>rfl
 | cons c l ih=>
  intro s h;cases s with
  | nil=>rfl
  | cons x t=>
   have h0:=h 0 (by simp);have h0:x=0:=h0;rw[dJ,h0,ih λ j hj=>h (j+1) (by simpa using hj)];simp
def aeu:∀ {s:apU},VS l s->(∀j,j<l.length->s.getD j 0+1=(l.getD j az).aE.length)->dJ l s+1=dP l:=by
 induction l with
 | nil=>intro s h _;cases s<;>rfl
 | cons c l ih=>
  intro s hv h;obtain⟨x,t,rfl,h1,h2,h3⟩:=J2 hv;have h0:x+1=c.aE.length:=h 0 (by simp);have:=ih h3 λ j hj=>h (j+1) (by simpa using hj);rw[dJ,dP,show c.aE.length=x.toNat+1 by omega,aip,aoG];omega
def ab4:∀ {s t:apU} {k:Nat},VS l s->k<l.length->t.length=l.length->(∀j,j<k->t.getD j 0=s.getD j 0)->t.getD k 0=s.getD k 0+1->(∀j,k<j->j<l.length->t.getD j 0=0/\s.getD j 0+1=(l.getD j az).aE.length)->dJ l t=dJ l s+1:=by
 induction l with
 | nil=>intro s t k _ h;exact absurd h (ag9 _)
 | cons c l ih=>
  intro s t k hv hk hl h1 h2 h3;obtain⟨x,s,rfl,g1,g2,g3⟩:=J2 hv;cases t with
  | nil=>cases hl
  | cons y t=>
   cases k with
   | zero=>
    have h2:y=x+1:=h2;have e1:=ab3 (l:=l) (s:=t) λ j hj=>(h3 (j+1) om (by simpa using hj)).1;have e2:=aeu g3 λ j hj=>(h3 (j+1) om (by simpa using hj)).2;rw[dJ,dJ,e1,h2,show(x+1).toNat=x.toNat+1 by omega,aip,aoG];omega
   | succ k=>
    have h0:y=x:=h1 0 om;have:=ih g3 (by simpa using hk) (by simpa using hl) (λ j hj=>h1 (j+1) om) h2 (λ j a b=>h3 (j+1) om (by simpa using b));rw[dJ,dJ,h0,this];omega
def aev {s t:apU} {k:Nat} (hv:VS l s) (hk:k<l.length) (hl:t.length=l.length) (h1:∀j,j<k->t.getD j 0=s.getD j 0) (h2:t.getD k 0=s.getD k 0+1) (h3:∀j,k<j->j<l.length->t.getD j 0=0/\s.getD j 0+1=(l.getD j az).aE.length) (h4:s.getD k 0+1<(l.getD k az).aE.length):VS l t/\dJ l t=dJ l s+1:=by
 refine⟨⟨hl,λ i hi=>?_⟩,ab4 hv hk hl h1 h2 h3⟩;have:=hv.2 i hi;rcases anX i k with h | h | h
 ·rw[h1 i h];exact this
 ·subst h;omega
 have:=h3 i h hi;omega
def GY {s:apU} (h:VS l s):gQ l s=true:=by
 unfold gQ;rw[h.1,beq_self_eq_true,aj0,ajL];intro i hi;have:=h.2 i (by have:=aj7.1 hi;omega);exact(within_iff _ _ _).2 om
def Zo (l:apY) (c:au):dP (l++[c])=dP l*c.aE.length:=by
 induction l with
 | nil=>simp[dP]
 | cons a l ih=>rw[ajQ,dP,dP,ih,ao4]
def Zp (h:∀c∈l,1<=c.aE.length):jz l=MT (dP l) 1099511627776:=by
 induction l using BQ with
 | nil=>rfl
 | append_singleton l c ih=>
  have hc:=h c (by simp);rw[IM,ih λ x hx=>h x (by simp[hx]),Zo,anF];generalize ((dP l:Nat):Int)=a;generalize hb:(c.aE.length:Int)=b;have hb1:1<=b:=by omega
  unfold MT;by_cases h1:(1099511627776:Int)<a
  ·have h2:(1099511627776:Int)<a*b:=by
    have:=apr hb1 (show 0<=a by omega);omega
   have h3:(1099511627776:Int)<=1099511627776*b:=by omega
   rw[afc h1,afc h2];split<;>omega
  rw[aeV h1]
def size_le (h:Qb l):dP l<=4096:=by
 have hp:=h.prod;rw[Zp λ c hc=>by
  obtain⟨k,hk,rfl⟩:=ahZ.1 hc;have:=FH (iK (h.valid k hk));rw[ad7,aeA hk]at this;simp only[akP]at this;omega]at hp
 unfold MT at hp;split at hp<;>omega
def aew (h:Qb l):VS l (List.replicate (l.length:Int).toNat 0):=by
 refine⟨by simp,λ i hi=>?_⟩;have:=FH (iK (h.valid i hi));rw[Sp.rZ];omega
def Zq (h:((bif cB l != 0 then cB l else bif !iL l m then 1 else 0) != 0)=false):cB l=0/\iL l m=true:=by
 cases h1:cB l != 0 with
 | true=>rw[h1]at h;simp only[ahX]at h;rw[h1]at h;cases h
 | false=>
  cases h2:iL l m with
  | false=>rw[h1,h2]at h;cases h
  | true=>exact⟨by simpa using h1,rfl⟩
def aex (h:iL l m=true):∀x∈m,0<=x.cF/\x.cF<l.length:=λ x hx=>(FJ (A6 h x hx)).1
def xT {vX:Int} {kN:Int}:W (nX r_ vX kN) (λ r=>r=mM r_ vX kN):=by
 unfold nX;refine ar (tW) λ v1 hv1=>?_;subst v1;apply br<;>intro c1
 ·have dc:=c1;have c1:=cG c1;refine ai ?_;(unfold mM;rw[show kp r_=false by simpa using dc];rfl)
 have dc:=c1;have c1:=cG c1;have hv:=jd (r:=r_) (by simpa using dc);have q1:=tdiv_le r_.ga r_.fx hv.1 om;refine wm<|ai ?_;(unfold mM;rw[show kp r_=true by simpa using dc];rfl)
variable {kE:apV}
def MH {r_:ap5} (h1:l_.length<=2000000) (h2:r_.length=l_.length) (h3:kE.length=l_.length):W (AN l_ r_ kE) (λ r=>r=Zn l_ (r_,kE)):=by
 unfold AN;refine bu (λ(g1:Int)=>0<=g1/\g1<=l_.length/\(∀j:Nat,(j:Int)<g1->ab2 r_ kE l_ j=false)) (λ(g1:Int)=>(l_.length - g1).toNat) ?_ ?_
 ·intro ab g1 cN bQ;obtain⟨cz,bB,bA⟩:=cN;unfold JJ;refine wi ?_ ?_<;>intro c1
  ·refine wm<|wn ?_;refine ar (dT λ hc=>iU (xT)) λ v3 hv3=>?_;subst v3;apply br<;>intro c2
   ·have fX:=c2;have c2:=cG c2;refine ai ?_;(unfold Zn;rw[nu (i:=g1.toNat) om (by rw[show ab2 r_ kE l_ g1.toNat=true from fX];rfl)])
   have fX:=c2;have c2:=cG c2;refine wn<|bQ _ ?_ ?_
   ·(refine⟨ob,ob,cM bA cz fX⟩)
   exact ob
  refine ai ?_;(unfold Zn;rw[oZ λ j hj=>(by rw[bA j om];rfl)])
 (refine⟨ob,ob,λ j hj=>by omega⟩)
def SA (h1:Good l_ s_) (h2:Up l_ s_) (h3:m_.length<=2000000) (h4:∀x∈m_,0<=x.cF/\x.cF<l_.length):W (B1 l_ s_ m_) (λ r=>r=FZ l_ s_ m_):=by
 have hsm:=h1.small;have hst:=GV l_ s_ l_.length;unfold B1;refine ar (FY ob ob) λ v1 hv1=>?_;subst v1;have hs1:(H7 l_ s_).1.length=l_.length:=hst.1;have hs2:(H7 l_ s_).2.length=l_.length:=hst.2;refine bu (λ(g1:Int)=>0<=g1/\g1<=m_.length/\(m_.drop g1.toNat).any (Pe (H7 l_ s_))=m_.any (Pe (H7 l_ s_))) (λ(g1:Int)=>(m_.length - g1).toNat) ?_ ?_
 ·intro ab g1 cN bQ;obtain⟨cz,bB,bA⟩:=cN;unfold HX;refine wi ?_ ?_<;>intro c1
  ·have hlt:g1.toNat<m_.length:=om;have hx:=h4 _ (getD_in (i:=g1.toNat) bW hlt);rw[drop_cons bW hlt,akp]at bA;refine wm<|wn ?_;refine ar (dT λ hc=>iU (xT)) λ v4 hv4=>?_;subst v4;apply br<;>intro c2
   ·have fX:=c2;have c2:=cG c2;refine ai ?_;(unfold FZ;rw[<- bA,show Pe (H7 l_ s_) (m_.getD g1.toNat bW)=true from fX];rfl)
   have fX:=c2;have c2:=cG c2;refine wn<|bQ _ ?_ ?_
   ·(refine⟨ob,ob,?_⟩;rw[<- bA,show Pe (H7 l_ s_) (m_.getD g1.toNat bW)=false from fX,show(g1+1).toNat=g1.toNat+1 by omega];rfl)
   exact ob
  refine ar (MH ob ob ob) λ v5 hv5=>?_;subst v5;refine ai ?_;(unfold FZ;rw[<- bA,show g1.toNat=m_.length by omega,ai8];rfl)
 (refine⟨ob,ob,rfl⟩)
def J3 (h1:l_.length<=1000) (h2:VS l_ s_) (h3:∀i,i<l_.length->(l_.getD i az).aE.length<=2000000):W (B2 l_ s_) (λ r=>r.2=true->VS l_ r.1/\dJ l_ r.1=dJ l_ s_+1):=by
 obtain⟨hsl,hsv⟩:=id h2;unfold B2;refine wm<|bu (λ(g1:Int×apU) => -1<=g1.1/\g1.1<l_.length/\g1.2.length=l_.length/\(∀j:Nat,(j:Int)<=g1.1->g1.2.getD j 0=s_.getD j 0)/\(∀j:Nat,g1.1<(j:Int)->j<l_.length->g1.2.getD j 0=0/\s_.getD j 0+1=(l_.getD j az).aE.length)) (λ(g1:Int×apU)=>(g1.1+1).toNat) ?_ ?_
 ·intro ab g1 cN bQ;obtain⟨cz,bB,bA,fY,ta⟩:=cN;unfold HY;refine wi ?_ ?_<;>intro c1
  ·have hv:=hsv g1.1.toNat om;have hc:=h3 g1.1.toNat om;have he:=fY g1.1.toNat om;have hgs:(g1.2.set g1.1.toNat (g1.2.getD g1.1.toNat 0+1)).getD g1.1.toNat 0=s_.getD g1.1.toNat 0+1:=(by rw[Sp.dB,afc ⟨rfl,om⟩,he]);have hgo:∀j,j≠g1.1.toNat->(g1.2.set g1.1.toNat (g1.2.getD g1.1.toNat 0+1)).getD j 0=g1.2.getD j 0:=λ j hj=>(by rw[Sp.dB,aeV (λ e=>hj e.1)])
   refine wm<|wn ?_;unfold zR;refine wm<|wi ?_ ?_<;>intro c2
   ·rw[hgs]at c2;refine ai ?_;(intro _;exact aev h2 (k:=g1.1.toNat) om (by simpa using bA) (λ j hj=>by rw[hgo j om];exact fY j om) hgs (λ j h1 h2=>by rw[hgo j om];exact ta j om h2) c2)
   rw[hgs]at c2;refine wm<|bQ _ ?_ ?_
   ·(refine⟨ob,ob,by simpa using bA,λ j hj=>?_,λ j h1 h2=>?_⟩;(dsimp only at hj ⊢;rw[Sp.dB,aeV om,hgo j om];exact fY j om);(dsimp only at h1 ⊢;rw[Sp.dB];by_cases q:j=g1.1.toNat;(rw[afc ⟨q,by rw[afx];omega⟩,q];omega);(rw[aeV (λ e=>q e.1),hgo j q];exact ta j om h2)))
   exact ob
  exact ai (nofun)
 (refine⟨ob,ob,by simpa using hsl,λ j _=>rfl,λ j h1 h2=>by dsimp only at h1;omega⟩)
def UZ (h1:cB l_=0) (h2:m_.length<=2000000) (h3:∀x∈m_,0<=x.cF/\x.cF<l_.length):W (GQ l_ m_) (λ r=>∀s∈r,gQ l_ s=true/\FZ l_ s m_=true):=by
 have hf:=nY h1;have hsz:=size_le hf;have hlen:=hf.len;have hcb:∀i,i<l_.length->(l_.getD i az).aE.length<=2000000:=λ i hi=>by have:=hf.big i hi;omega
 unfold GQ;refine wn<|bu (λ(g1:(apU×Bool×(List apU)))=>(g1.2.1=true->VS l_ g1.1/\g1.2.2.length<=dJ l_ g1.1)/\(∀s∈g1.2.2,gQ l_ s=true/\FZ l_ s m_=true)) (λ(g1:(apU×Bool×(List apU)))=>bif g1.2.1 then dP l_ - dJ l_ g1.1+1 else 0) ?_ ?_
 ·intro ab g1 cN bQ;obtain⟨cz,bB⟩:=cN;unfold JK;apply br<;>intro c1
  ·have dc:=c1;have c1:=cG c1;obtain⟨hvs,hln⟩:=cz dc;have hset:=GY hvs;have hpl:=zV hvs;unfold B3;refine ar (SA (JU hf hset) (abF hf hset) h2 h3) λ v9 Lj=>?_;subst v9;apply br<;>intro c2
   ·have fX:=c2;have c2:=cG c2;have hmem:∀s∈g1.2.2++[g1.1],gQ l_ s=true/\FZ l_ s m_=true:=λ s hs=>by rcases ahL.1 hs with h | h;exact bB s h;(rw[ahd]at h;rw[h];exact⟨hset,fX⟩)
    refine wn ?_;unfold rQ;refine ar (J3 om hvs hcb) λ v8 wJ=>?_;refine bQ _ ?_ ?_
    ·(refine⟨λ e=>⟨(wJ e).1,by have:=(wJ e).2;simp only[aeU,afT];omega⟩,hmem⟩)
    (dsimp only;rw[dc];cases e:v8.2 with | true=>(have:=(wJ e).2;have:=zV (wJ e).1;simp only[ahX];omega) | false=>(simp only[ahX,ags];omega))
   have fX:=c2;have c2:=cG c2;unfold rQ;refine ar (J3 om hvs hcb) λ v8 wJ=>?_;refine bQ _ ?_ ?_
   ·(refine⟨λ e=>⟨(wJ e).1,by have:=(wJ e).2;dsimp only;omega⟩,bB⟩)
   (dsimp only;rw[dc];cases e:v8.2 with | true=>(have:=(wJ e).2;have:=zV (wJ e).1;simp only[ahX];omega) | false=>(simp only[ahX,ags];omega))
  have dc:=c1;have c1:=cG c1;exact ai (bB)
 (refine⟨λ _=>⟨aew hf,ahU _⟩,nofun⟩)
def Qo (h1:l_.length<=2000000) (h2:m_.length<=2000000):W (uF l_ m_) (λ r=>r.2=0->gQ l_ r.1=true/\FZ l_ r.1 m_=true/\iL l_ m_=true):=by
 unfold uF;refine ar (Qm ob ob) λ v1 hv1=>?_;subst v1;apply br<;>intro c1
 ·have dc:=c1;have c1:=cG c1;refine ai ?_;(intro e;exact absurd e c1)
 have dc:=c1;have c1:=cG c1;obtain⟨b1,b2⟩:=Zq dc;refine ar (UZ b1 h2 (aex b2)) λ v2 hv2=>?_;refine wi ?_ ?_<;>intro c2
 ·exact ai<|ob
 refine wn<|ai ?_;(intro _;have q:=hv2 _ (getD_in (i:=0) [] om);exact⟨q.1,q.2,b2⟩)
structure F0 (s:ByteArray):Prop where
 sz:0<s.size/\s.size<=16
 b0:97<=dF s 0/\dF s 0<=122
 bs:∀j:Nat,(j:Int)<s.size->dF s j=45\/(48<=dF s j/\dF s j<=57)\/(97<=dF s j/\dF s j<=122)
structure GpV (n:Int) (g:bL):Prop where
 ok:ai0 n g
 nw:F0 g.qW
 so:∀k:Nat,1<=k->(k:Int)<g.bH.length->g.bH.getD (k - 1) 0<g.bH.getD k 0
 fw:∀j:Nat,(j:Int)<g.aj.length->F0 (g.aj.getD j ByteArray.empty)
 fd:∀k j:Nat,j<k->(k:Int)<g.aj.length->(g.aj.getD j ByteArray.empty).toList≠(g.aj.getD k ByteArray.empty).toList
structure U0 (p:bq):Prop where
 ok:aft p
 gr:∀i:Nat,(i:Int)<p.ax.length->GpV p.bH (p.ax.getD i ay)
 nm:∀i k:Nat,k<i->(i:Int)<p.ax.length->(p.ax.getD k ay).qW.toList≠(p.ax.getD i ay).qW.toList
structure RsV (l:ap7):Prop where
 ok:ael l
 so:∀i:Nat,(i:Int)<l.length->∀k:Nat,1<=k->(k:Int)<((l.getD i cv).cS).length->((l.getD i cv).cS).getD (k - 1) 0<((l.getD i cv).cS).getD k 0
structure BdV (b:aI):Prop where
 cl:cB b.bj=0
 su:Sp.cB b.aX=0
 pn:U0 b.aM
 rs:RsV b.bc
 dm:aem b.bw
def Pf (l:apU):Prop:=∀i j:Nat,i<j->(j:Int)<l.length->l.getD i 0<l.getD j 0
def aha {l:apU} (h:∀k:Nat,1<=k->(k:Int)<l.length->l.getD (k - 1) 0<l.getD k 0):Pf l:=by
 intro i j hij;induction j with
 | zero=>omega
 | succ j ih=>
  intro hj;have h1:=h (j+1) om hj;rw[Nat.add_sub_cancel]at h1;by_cases e:i=j
  ·rw[e];exact h1
  have:=ih om om;omega
def Zr (p:bq) (x y:Int):Prop:=∀i j:Nat,(i:Int)<(p.ax.getD x.toNat ay).bH.length->(j:Int)<(p.ax.getD y.toNat ay).bH.length->(p.ax.getD x.toNat ay).bH.getD i 0≠(p.ax.getD y.toNat ay).bH.getD j 0
def aey (p:bq) (x:Int) (f:ByteArray):Prop:=∃k:Nat,(k:Int)<(p.ax.getD x.toNat ay).aj.length/\((p.ax.getD x.toNat ay).aj.getD k ByteArray.empty).toList=f.toList
structure Qp (p:bq) (l:ap6) (gs:apU):Prop where
 ir:∀x∈gs,0<=x/\x<p.ax.length
 off:∀k:Nat,(k:Int)<gs.length->aey p (gs.getD k 0) (l.getD k ByteArray.empty)
 dj:∀k j:Nat,j<k->(k:Int)<gs.length->Zr p (gs.getD j 0) (gs.getD k 0)
def ahb (l:ap7) (s:apV):Prop:=∀i:Nat,(i:Int)<l.length->s.getD i false=true->∀x∈(l.getD i cv).cS,s.getD x.toNat false=true
structure ahc (l:ap8) (s:apV):Prop where
 al:∀i:Nat,(i:Int)<l.length->(l.getD i cL).dD=true->s.getD i false=true
 pa:∀i:Nat,(i:Int)<l.length->s.getD i false=true->0<=(l.getD i cL).aJ->s.getD (l.getD i cL).aJ.toNat false=true
variable {i:Nat} {j:Nat}
def Cn {l:apV} (h:l.getD i false=true\/i=j) (hj:j<l.length):(l.set j true).getD i false=true:=by
 by_cases e:i=j
 ·subst e;rw[ad7,aj3 hj];rfl
 rw[ad7,an1 (Ne.symm e),<- ad7];exact h.resolve_right e
def tX {l:apV} {b:Bool} (h:i≠j):(l.set j b).getD i false=l.getD i false:=by
 rw[ad7,an1 (Ne.symm h),<- ad7]
def J4 {l:apV} {b:Bool} (hj:j<l.length):(l.set j b).getD j false=b:=by
 rw[ad7,aj3 hj];rfl
def RgK (l:ap8) (s:apV) (k:Nat):Prop:=((l.getD k cL).dD=true->s.getD k false=true)/\(s.getD k false=true->0<=(l.getD k cL).aJ->s.getD (l.getD k cL).aJ.toNat false=true)
variable {s:apV}
def J5 {b:Bool} (hi:i<s.length) (h:s.getD j false=true):(s.set i (s.getD i false||b)).getD j false=true:=by
 by_cases e:j=i
 ·subst e;rw[J4 hi,h];rfl
 rw[tX e];exact h
variable {g:Int}
def ai4 {l:ap8} (h0:0<=g) (hs:s.length=l.length) (h:∀k:Nat,g<(k:Int)->(k:Int)<l.length->RgK l s k)
  (hn:¬ ((s.set g.toNat (s.getD g.toNat false||(l.getD g.toNat cL).dD)).getD g.toNat false=true/\0<=(l.getD g.toNat cL).aJ)) {k:Nat} (hk:g<=(k:Int)) (hl:(k:Int)<l.length):RgK l (s.set g.toNat (s.getD g.toNat false||(l.getD g.toNat cL).dD)) k:=by
 by_cases e:k=g.toNat
 ·subst e;refine⟨λ h1=>?_,λ h1 h2=>absurd ⟨h1,h2⟩ hn⟩;rw[J4 om,h1,aox]
 obtain⟨h1,h2⟩:=h k om hl;refine⟨λ q=>by rw[tX e];exact h1 q,λ q1 q2=>?_⟩;rw[tX e]at q1;exact J5 om (h2 q1 q2)
def ai5 {l:ap8} (h0:0<=g) (hs:s.length=l.length) (hp:0<=(l.getD g.toNat cL).aJ/\(l.getD g.toNat cL).aJ<g) (h:∀k:Nat,g<(k:Int)->(k:Int)<l.length->RgK l s k)
  {k:Nat} (hk:g<=(k:Int)) (hl:(k:Int)<l.length):RgK l ((s.set g.toNat (s.getD g.toNat false||(l.getD g.toNat cL).dD)).set (l.getD g.toNat cL).aJ.toNat true) k:=by
 have hne:k≠(l.getD g.toNat cL).aJ.toNat:=by omega
 have hlen:(l.getD g.toNat cL).aJ.toNat<(s.set g.toNat (s.getD g.toNat false||(l.getD g.toNat cL).dD)).length:=by rw[afx];omega
 by_cases e:k=g.toNat
 ·subst e;refine⟨λ h1=>?_,λ h1 h2=>J4 hlen⟩;rw[tX hne,J4 om,h1,aox]
 obtain⟨h1,h2⟩:=h k om hl;refine⟨λ q=>by rw[tX hne,tX e];exact h1 q,λ q1 q2=>?_⟩;rw[tX hne,tX e]at q1;exact Cn (.inl (J5 om (h2 q1 q2))) hlen
def J6 {p:bq} (h:U0 p) (h0:0<=x) (h1:x<p.ax.length):Pf (p.ax.getD x.toNat ay).bH:=aha λ k h2 h3=>(h.gr x.toNat om).so k h2 h3
def F1 {g_:bL} {ep:ByteArray} (h1:g_.aj.length<=2000000):W (A0 g_ ep) (λ r => -1<=r/\r<g_.aj.length/\(0<=r->(g_.aj.getD r.toNat ByteArray.empty).toList=ep.toList)/\(r<0->∀k:Nat,(k:Int)<g_.aj.length->(g_.aj.getD k ByteArray.empty).toList≠ep.toList)):=by
 unfold A0;refine bu (λ(g1:Int)=>0<=g1/\(∀k:Nat,(k:Int)<g1->(g_.aj.getD k ByteArray.empty).toList≠ep.toList)) (λ(g1:Int)=>(g_.aj.length - g1).toNat) ?_ ?_
 ·intro ab g1 cN bQ;obtain⟨cz,bB⟩:=cN;unfold MB;refine wi ?_ ?_<;>intro c1
  ·refine wn<|br ?_ ?_<;>intro c2
   ·have fX:=c2;have c2:=cG c2;refine ai ?_;(refine⟨om,om,λ _=>by simpa using fX,λ h=>by omega⟩)
   have fX:=c2;have c2:=cG c2;refine wn<|bQ _ ?_ ?_
   ·(refine⟨ob,cM bB cz (by simpa using fX)⟩)
   exact ob
  refine ai ?_;(refine⟨om,om,λ h=>by omega,λ _ k hk=>bB k om⟩)
 exact aqo
def Ph {a_:apU} {b_:apU} (h1:a_.length<=2000000) (h2:b_.length<=2000000) (h3:Pf a_) (h4:Pf b_):W (zk a_ b_) (λ r=>r=false->∀i j:Nat,(i:Int)<a_.length->(j:Int)<b_.length->a_.getD i 0≠b_.getD j 0):=by
 unfold zk;refine bu (λ(g1:Int×Int)=>0<=g1.1/\0<=g1.2/\(∀i j:Nat,(i:Int)<a_.length->(j:Int)<b_.length->((i:Int)<g1.1\/(j:Int)<g1.2)->a_.getD i 0≠b_.getD j 0)) (λ(g1:Int×Int)=>(a_.length - g1.1).toNat+(b_.length - g1.2).toNat) ?_ ?_
 ·intro ab g1 cN bQ;obtain⟨cz,bB,bA⟩:=cN;unfold FB;apply br<;>intro c1
  ·have dc:=c1;have c1:=cG c1;refine wm<|wi ?_ ?_<;>intro c2
   ·exact ai<|ob
   refine wm<|wi ?_ ?_<;>intro c3
   ·refine wn<|bQ _ ?_ ?_
    ·(refine⟨ob,ob,λ i j hi hj hc=>?_⟩;by_cases q:(i:Int)<g1.1\/(j:Int)<g1.2;(exact bA i j hi hj q);(have e:i=g1.1.toNat:=by(try dsimp only at hc);omega);subst e;by_cases e2:j=g1.2.toNat;(subst e2;omega);(have:=h4 g1.2.toNat j om hj);omega)
    exact ob
   refine wn<|bQ _ ?_ ?_
   ·(refine⟨ob,ob,λ i j hi hj hc=>?_⟩;by_cases q:(i:Int)<g1.1\/(j:Int)<g1.2;(exact bA i j hi hj q);(have e:j=g1.2.toNat:=by(try dsimp only at hc);omega);subst e;by_cases e2:i=g1.1.toNat;(subst e2;omega);(have:=h3 g1.1.toNat i om hi);omega)
   exact ob
  have dc:=c1;have c1:=cG c1;refine ai ?_;(intro _ i j hi hj;refine bA i j hi hj ?_;simp only[aiI,aie]at dc;omega)
 (refine⟨ob,ob,λ i j h1 h2 h3=>by(try dsimp only at h3);omega⟩)
variable {p_:bq}
def Ig {cR:apU} {g_:Int} (h1:∀g∈p_.ax,g.bH.length<=2000000/\g.aj.length<=2000000) (h2:cR.length<=2000000) (h3:∀x∈cR,0<=x/\x<p_.ax.length) (h4:0<=g_) (h5:g_<p_.ax.length) (h6:U0 p_):W (xJ p_ cR g_) (λ r=>r=true->∀j:Nat,(j:Int)<cR.length->Zr p_ (cR.getD j 0) g_):=by
 have hgl:=h1 _ (getD_in (i:=g_.toNat) ay om);unfold xJ;refine bu (λ(g1:Int)=>0<=g1/\(∀j:Nat,(j:Int)<g1->Zr p_ (cR.getD j 0) g_)) (λ(g1:Int)=>(cR.length - g1).toNat) ?_ ?_
 ·intro ab g1 cN bQ;obtain⟨cz,bB⟩:=cN;unfold H4;refine wi ?_ ?_<;>intro c1
  ·have hx:=h3 _ (getD_in (i:=g1.toNat) 0 om);have hgx:=h1 _ (getD_in (i:=(cR.getD g1.toNat 0).toNat) ay om);refine wm<|wm ?_;refine ar (lp λ hc=>Ph om om (J6 h6 hx.1 hx.2) (J6 h6 h4 h5)) λ v3 hv3=>?_;apply br<;>intro c2
   ·have fX:=c2;have c2:=cG c2;exact ai<|ob
   have fX:=c2;have c2:=cG c2;refine wn<|bQ _ ?_ ?_
   ·(refine⟨ob,cM bB cz ?_⟩;rw[afl hx.1,aj0]at fX;exact hv3 (afl hx.1) fX)
   exact ob
  refine ai ?_;(intro _ j hj;exact bB j om)
 exact aqo
def M0 {ep:ByteArray} (h1:∀g∈p_.ax,g.bH.length<=2000000/\g.aj.length<=2000000) (h2:p_.ax.length<=2000000):W (wE p_ ep) (λ r=>r.length<=p_.ax.length/\∀x∈r,(0<=x/\x<p_.ax.length)/\aey p_ x ep):=by
 unfold wE;refine bu (λ(g1:Int×apU)=>0<=g1.1/\g1.1<=p_.ax.length/\(g1.2.length:Int)<=g1.1/\(∀x∈g1.2,(0<=x/\x<p_.ax.length)/\aey p_ x ep)) (λ(g1:Int×apU)=>(p_.ax.length - g1.1).toNat) ?_ ?_
 ·intro ab g1 cN bQ;obtain⟨cz,bB,bA,fY⟩:=cN;unfold Dz;refine wi ?_ ?_<;>intro c1
  ·have hgl:=h1 _ (getD_in (i:=g1.1.toNat) ay om);refine wn<|ar (F1 ob) λ v3 hv3=>?_;obtain⟨OP,QY,QZ,abn⟩:=hv3;refine wi ?_ ?_<;>intro c2
   ·refine wm<|bQ _ ?_ ?_
    ·(refine⟨ob,ob,ob,λ x hx=>?_⟩;rcases ahL.1 hx with hx | hx;(exact fY x hx);rw[ahd]at hx;subst hx;exact⟨om,v3.toNat,om,QZ om⟩)
    exact ob
   refine wn<|bQ _ ?_ ?_
   ·exact ob
   exact ob
  refine ai ?_;(refine⟨om,fY⟩)
 exact ob
def ab5 {p:bq} {l:ap6} {gs:apU} (h:Qp p l gs) (hx:0<=x/\x<p.ax.length) (ho:aey p x (l.getD gs.length ByteArray.empty)) (hd:∀j:Nat,(j:Int)<gs.length->Zr p (gs.getD j 0) x):Qp p l (gs++[x]):=by
 have e1:∀j:Nat,j<gs.length->(gs++[x]).getD j 0=gs.getD j 0:=λ j hj=>gT 0 hj;have e2:(gs++[x]).getD gs.length 0=x:=gU 0 rfl;refine⟨λ y hy=>?_,λ k hk=>?_,λ k j hj hk=>?_⟩
 ·rcases ahL.1 hy with hy | hy
  ·exact h.ir y hy
  rw[ahd]at hy;rw[hy];exact hx
 ·rw[aeU,afT]at hk;by_cases q:k<gs.length
  ·rw[e1 k q];exact h.off k om
  have:k=gs.length:=by omega
  subst this;rw[e2];exact ho
 rw[aeU,afT]at hk;by_cases q:k<gs.length
 ·rw[e1 k q,e1 j om];exact h.dj k j hj om
 have:k=gs.length:=by omega
 subst this;rw[e2,e1 j om];exact hd j om
def aez (bs:ByteArray):∀(n i:Nat) (r:List UInt8),bs.size - i=n->ByteArray.toList.loop bs i r=r.reverse++bs.data.toList.drop i:=by
 intro n;induction n with
 | zero=>
  intro i r h;unfold ByteArray.toList.loop;rw[aeV om,ajU (by show bs.data.toList.length<=i;rw[aoH];show bs.size<=i;omega),aiN]
 | succ n ih=>
  intro i r h;unfold ByteArray.toList.loop;rw[afc om,ih (i+1) _ om,aoY,aot];have hi:i<bs.data.toList.length:=by rw[aoH];show i<bs.size;omega
  rw[aoN hi];congr 1;show bs.get! i::_=_;congr 1;unfold ByteArray.get!;rw[an0];exact getElem!_pos bs.data i _
def XV (b:ByteArray):b.toList=b.data.toList:=by
 unfold ByteArray.toList;rw[aez b _ 0 [] rfl];rfl
def Lu {a b:ByteArray} (h:a.toList=b.toList):a=b:=by
 rw[XV,XV]at h;cases a;cases b;congr;exact akD.1 h
def ai6 {s:ByteArray} (h:0<s.size):(s.toList==({ data:=#[] }:ByteArray).toList)=false:=by
 rw[ajP];intro e;have:=Lu e;rw[this]at h;exact absurd h (by decide)
def Ey {α:Type} {X:Nat->α} {x:α}:upd X j x j=x:=Y0 X j x
def upd_ne {α:Type} {X:Nat->α} {x:α} (h:i≠j):upd X j x i=X i:=by
 unfold upd;cases e:Nat.beq i j with
 | true=>exact absurd (aeK e) h
 | false=>rfl
def UsV (p:bq) (l:aqb):Prop:=(∀u∈l,FT p u)/\∀k j:Nat,j<k->(k:Int)<l.length->Zr p (l.getD j di).aZ (l.getD k di).aZ
def BF (p:Prop) (c:Int) (A:Int->Prop) (r:Int):Prop:=(p/\r=c)\/(¬p/\A r)
variable {p:Prop} {c:Int} {A:Int->Prop}
def cJ (h:p):BF p c A c:=.inl ⟨h,rfl⟩
variable {r:Int}
def aG (h:¬p) (a:A r):BF p c A r:=.inr ⟨h,a⟩
def Thn (A B:Int->Prop) (r:Int):Prop:=(A r/\r≠0)\/(A 0/\B r)
def Fst (n:Nat) (E:Nat->Int->Prop) (r:Int):Prop:=(∃i:Nat,i<n/\(∀k:Nat,k<i->E k 0)/\E i r/\r≠0)\/((∀k:Nat,k<n->E k 0)/\r=0)
def xU (A:Int->Prop):Prop:=∀a b,A a->A b->a=b
def xU.zero:xU (λ r=>r=0):=λ _ _ h k=>h.trans k.symm
def xU.BB (h:xU A):xU (BF p c A):=by
 rintro a b (⟨h1,h2⟩ | ⟨h1,h2⟩) (⟨h3,h4⟩ | ⟨h3,h4⟩)
 ·rw[h2,h4]
 ·exact absurd h1 h3
 ·exact absurd h3 h1
 exact h _ _ h2 h4
variable {B:Int->Prop}
def xU.thn (h:xU A) (k:xU B):xU (Thn A B):=by
 rintro a b (⟨h1,h2⟩ | ⟨h1,h2⟩) (⟨h3,h4⟩ | ⟨h3,h4⟩)
 ·exact h _ _ h1 h3
 ·exact absurd (h _ _ h1 h3) h2
 ·exact absurd (h _ _ h3 h1) h4
 exact k _ _ h2 h4
variable {n:Nat} {E:Nat->Int->Prop}
def xU.fst (h:∀i,xU (E i)):xU (Fst n E):=by
 rintro a b (⟨i,h1,h2,h3,h4⟩ | ⟨h1,h2⟩) (⟨j,k1,k2,k3,k4⟩ | ⟨k1,k2⟩)
 ·rcases anX i j with q | q | q
  ·exact absurd (h _ _ _ h3 (k2 i q)) h4
  ·subst q;exact h _ _ _ h3 k3
  exact absurd (h _ _ _ k3 (h2 j q)) k4
 ·exact absurd (h _ _ _ h3 (k1 i h1)) h4
 ·exact absurd (h _ _ _ k3 (h1 j k1)) k4
 rw[h2,k2]
def zW (h:A r) (hr:r≠0):Thn A B r:=.inl ⟨h,hr⟩
def gZ (h:A 0) (k:B r):Thn A B r:=.inr ⟨h,k⟩
def zX (hi:i<n) (h:∀k:Nat,(k:Int)<i->E k 0) (he:E i r) (hr:r≠0):Fst n E r:=.inl ⟨i,hi,λ k hk=>h k om,he,hr⟩
def Co (h:∀k:Nat,k<n->E k 0):Fst n E 0:=.inr ⟨h,rfl⟩
def ab6 (n:Int) (g:bL):Int->Prop:=
 BF ((g.bH.length:Int)=0\/(g.aj.length:Int)=0) 9<|
 BF (8<(g.aj.length:Int)) 3<|
 BF (∃j:Nat,(j:Int)<g.bH.length/\¬(0<=g.bH.getD j 0/\g.bH.getD j 0<n)) 2<|
 BF (∃j:Nat,1<=j/\(j:Int)<g.bH.length/\g.bH.getD j 0<=g.bH.getD (j - 1) 0) 12<|
 BF (∃j:Nat,(j:Int)<g.aj.length/\¬F0 (g.aj.getD j ByteArray.empty)) 1<|
 BF (∃k j:Nat,j<k/\(k:Int)<g.aj.length/\(g.aj.getD j ByteArray.empty).toList=(g.aj.getD k ByteArray.empty).toList) 5<|
 λ r=>r=0
def ab6.fun {n:Int} {g:bL}:xU (ab6 n g):=.BB (.BB (.BB (.BB (.BB (.BB .zero)))))
def WV (p:bq) (i:Nat):Int->Prop:=
 BF (¬F0 (p.ax.getD i ay).qW) 1<|
 BF (∃k:Nat,k<i/\(p.ax.getD k ay).qW.toList=(p.ax.getD i ay).qW.toList) 5<|
 ab6 p.bH (p.ax.getD i ay)
def WV.fun {p:bq} :xU (WV p i):=.BB (.BB ab6.fun)
def wM (p:bq):Int->Prop:=
 BF (p.bH<0\/64<p.bH) 2<|
 BF (24<(p.ax.length:Int)) 3<|
 Fst p.ax.length (WV p)
def wM.fun {p:bq}:xU (wM p):=.BB (.BB (.fst λ _=>WV.fun))
def zY {l:apU} (h:∀j:Nat,(j:Int)<g->1<=j->l.getD (j - 1) 0<l.getD j 0) (hg:(l.length:Int)<=g):¬ ∃j:Nat,1<=j/\(j:Int)<l.length/\l.getD j 0<=l.getD (j - 1) 0:=λ⟨j,h1,h2,h3⟩=>by
 have:=h j om h1;omega
def dM {P:Nat->Prop} (h:∀j:Nat,(j:Int)<g->P j) (hg:(n:Int)<=g):¬ ∃j:Nat,(j:Int)<n/\¬P j:=λ⟨j,h1,h2⟩=>h2 (h j om)
def Cp {s_:ByteArray}:W (wV s_) (λ r=>r=true↔F0 s_):=by
 unfold wV;refine aF (by(intro hc;have:=Pa hc;omega)) ?_;refine aF (by(intro hc;simp only[afr]at hc;have:=Pa (s:=s_) (by simp only[afr];exact hc.1);omega)) ?_;apply br<;>intro c1
 ·have dc:=c1;have c1:=cG c1;refine ai ?_;(constructor;(intro e;cases e);(rintro ⟨⟨a1,a2⟩,⟨a3,a4⟩,a5⟩;simp only[aiG,ahQ]at dc;rcases dc with((c | c) | c) | c;(rw[ai6 a1]at c;cases c);all_goals omega))
 have dc:=c1;have c1:=cG c1;have hsz:0<s_.size/\s_.size<=16:=Zg dc;refine bu (λ(g1:Int)=>1<=g1/\(∀j:Nat,(j:Int)<g1->1<=j->dF s_ j=45\/(48<=dF s_ j/\dF s_ j<=57)\/(97<=dF s_ j/\dF s_ j<=122))) (λ(g1:Int)=>(s_.size - g1).toNat) ?_ ?_
 ·intro ab g1 cN bQ;obtain⟨cz,bB⟩:=cN;unfold JD;refine wi ?_ ?_<;>intro c2
  ·refine wn<|wi ?_ ?_<;>intro c3
   ·refine ai ?_;(constructor;(intro e;cases e);(rintro ⟨_,_,a5⟩;have:=a5 g1.toNat om;omega))
   refine wn<|bQ _ ?_ ?_
   ·(refine⟨ob,λ j h1 h2=>?_⟩;by_cases q:(j:Int)<g1;(exact bB j q h2);(have e:j=g1.toNat:=by omega);subst e;omega)
   exact ob
  refine ai ?_;(constructor;(intro _;refine⟨om,om,λ j hj=>?_⟩;by_cases q:j=0;(subst q;exact .inr (.inr ⟨om,om⟩));exact bB j om om);(intro _;rfl))
 (refine⟨ob,λ j h1 h2=>by omega⟩)
def tY {s_:ByteArray}:W (pT s_) (λ r=>r=true↔F0 s_):=by
 unfold pT;refine aF (by(intro hc;simp only[afr,ajP]at hc;omega)) ?_;refine aF (by(intro hc;simp only[afr,ajP]at hc;omega)) ?_;apply br<;>intro c1
 ·have dc:=c1;have c1:=cG c1;refine ai ?_;(constructor;(intro e;cases e);(rintro ⟨a1,a3,a5⟩;omega))
 have dc:=c1;have c1:=cG c1;have hsz:s_.size<=16:=(by simp only[afr]at dc;have:=ahT dc.1.1.2;omega);refine bu (λ(g1:Int)=>0<=g1/\(∀j:Nat,(j:Int)<g1->dF s_ j=45\/(48<=dF s_ j/\dF s_ j<=57)\/(97<=dF s_ j/\dF s_ j<=122))) (λ(g1:Int)=>(s_.size - g1).toNat) ?_ ?_
 ·intro ab g1 cN bQ;obtain⟨cz,bB⟩:=cN;unfold HU;refine wi ?_ ?_<;>intro c2
  ·refine wm<|wm ?_;refine wn<|wi ?_ ?_<;>intro c3
   ·refine ai ?_;(constructor;(intro e;cases e);(rintro ⟨_,_,a5⟩;have:=a5 g1.toNat om;omega))
   refine wn<|bQ _ ?_ ?_
   ·(refine⟨ob,cM bB cz om⟩)
   exact ob
  refine ai ?_;(constructor;(intro _;exact⟨om,om,λ j hj=>bB j om⟩);intro _;rfl)
 exact aqo
def Cq {s_:ap6} {v_:ByteArray} (h1:s_.length<=2000000):W (slices_Index_string s_ v_) (λ r=>(0<=r↔∃j:Nat,(j:Int)<s_.length/\(s_.getD j ByteArray.empty).toList=v_.toList)):=by
 unfold slices_Index_string;refine bu (λ(g1:Int)=>0<=g1/\(∀j:Nat,(j:Int)<g1->(s_.getD j ByteArray.empty).toList≠v_.toList)) (λ(g1:Int)=>(s_.length - g1).toNat) ?_ ?_
 ·intro ab g1 cN bQ;obtain⟨cz,bB⟩:=cN;unfold rp;refine wi ?_ ?_<;>intro c1
  ·refine wn<|wi ?_ ?_<;>intro c2
   ·refine ai ?_;(constructor;(intro _;exact⟨g1.toNat,om,c2.symm⟩);(intro _;omega))
   refine wn<|bQ _ ?_ ?_
   ·(refine⟨ob,cM bB cz (λ e=>c2 e.symm)⟩)
   exact ob
  refine ai ?_;(constructor;(intro e;omega);(rintro ⟨j,h1,h2⟩;exact absurd h2 (bB j om)))
 exact aqo
def yu {s_:ap6} {v_:ByteArray} (h1:s_.length<=2000000):W (slices_Contains_string s_ v_) (λ r=>r=true↔∃j:Nat,(j:Int)<s_.length/\(s_.getD j ByteArray.empty).toList=v_.toList):=by
 unfold slices_Contains_string;refine ar (Cq ob) λ v1 hv1=>?_;refine ai ?_;(rw[<- hv1];simp)
def Qq {EH:Int} {g_:bL} (h1:g_.bH.length<=2000000) (h2:g_.aj.length<=2000000):W (BT EH g_) (λ r=>ab6 EH g_ r):=by
 unfold BT;refine wi ?_ ?_<;>intro c1
 ·exact ai<|cJ c1
 refine wi ?_ ?_<;>intro c2
 ·exact ai<|aG om (cJ c2)
 refine bu (λ(g1:Int)=>0<=g1/\(∀j:Nat,(j:Int)<g1->0<=g_.bH.getD j 0/\g_.bH.getD j 0<EH)) (λ(g1:Int)=>(g_.bH.length - g1).toNat) ?_ ?_
 ·intro ab g1 cN bQ;obtain⟨cz,bB⟩:=cN;unfold HI;refine wi ?_ ?_<;>intro c3
  ·refine wn<|wi ?_ ?_<;>intro c4
   ·exact ai<|aG om (aG om (cJ ⟨g1.toNat,om,om⟩))
   refine wn<|bQ _ ?_ ?_
   ·(refine⟨ob,cM bB cz om⟩)
   exact ob
  refine bu (λ(g2:Int)=>1<=g2/\(∀j:Nat,(j:Int)<g2->1<=j->g_.bH.getD (j - 1) 0<g_.bH.getD j 0)) (λ(g2:Int)=>(g_.bH.length - g2).toNat) ?_ ?_
  ·intro cy g2 jK mo;obtain⟨mO,fH⟩:=jK;unfold EG;refine wi ?_ ?_<;>intro c5
   ·refine wm<|wn ?_;refine wi ?_ ?_<;>intro c6
    ·exact ai<|aG om (aG om (aG (dM bB om) (cJ ⟨g2.toNat,om,om,by rw[show g2.toNat - 1=(g2 - 1).toNat by omega];omega⟩)))
    refine wn<|mo _ ?_ ?_
    ·(refine⟨ob,λ j h1 h2=>?_⟩;by_cases q:(j:Int)<g2;(exact fH j q h2);(have e:j=g2.toNat:=by omega);subst e;rw[show g2.toNat - 1=(g2 - 1).toNat by omega];omega)
    exact ob
   refine bu (λ(g3:Int)=>0<=g3/\(∀j:Nat,(j:Int)<g3->F0 (g_.aj.getD j ByteArray.empty))) (λ(g3:Int)=>(g_.aj.length - g3).toNat) ?_ ?_
   ·intro l8 g3 SB SC;obtain⟨MI,mq⟩:=SB;unfold EF;refine wi ?_ ?_<;>intro c7
    ·refine wn<|ar (Cp) λ v3 hv3=>?_;apply br<;>intro c8
     ·have Ql:=c8;have c8:=cG c8;exact ai<|aG om (aG om (aG (dM bB om) (aG (zY fH om) (cJ ⟨g3.toNat,om,λ h=>by simp[hv3.2 h]at Ql⟩))))
     have Ql:=c8;have c8:=cG c8;refine wn<|SC _ ?_ ?_
     ·(refine⟨ob,cM mq MI (hv3.1 (by simpa using Ql))⟩)
     exact ob
    refine bu (λ(g4:Int)=>0<=g4/\(∀k:Nat,(k:Int)<g4->∀j:Nat,j<k->(g_.aj.getD j ByteArray.empty).toList≠(g_.aj.getD k ByteArray.empty).toList)) (λ(g4:Int)=>(g_.aj.length - g4).toNat) ?_ ?_
    ·intro eE g4 zU yt;obtain⟨qF,jf⟩:=zU;unfold EE;refine wi ?_ ?_<;>intro c9
     ·refine wm<|ar (yu ob) λ v6 hv6=>?_;apply br<;>intro c10
      ·have D4:=c10;have c10:=cG c10;exact ai (aG om (aG om (aG (dM bB om) (aG (zY fH om) (aG (dM mq om) (cJ (by obtain⟨j,h1,h2⟩:=hv6.1 c10;rw[afs]at h1;rw[qE _ _ _ _ om]at h2;exact⟨g4.toNat,j,om,om,h2⟩)))))))
      have D4:=c10;have c10:=cG c10;refine wn<|yt _ ?_ ?_
      ·(refine⟨ob,λ k hk j hj=>?_⟩;by_cases q:(k:Int)<g4;(exact jf k q j hj);(have e:k=g4.toNat:=by omega);subst e;intro e2;have:=hv6.2 ⟨j,by rw[afs];omega,by rw[qE _ _ _ _ om];exact e2⟩;simp[this]at D4)
      exact ob
     exact ai (aG om (aG om (aG (dM bB om) (aG (zY fH om) (aG (dM mq om) (aG (λ⟨k,j,h1,h2,h3⟩=>jf k om j h1 h3) rfl))))))
    (refine⟨ob,λ j h1 h2=>by omega⟩)
   exact aqo
  (refine⟨ob,λ j h1 h2=>by omega⟩)
 exact aqo
def Pj {i_:Int} (h1:0<=i_) (h2:i_<p_.ax.length) (h3:p_.ax.length<=2000000) (h4:∀g∈p_.ax,g.bH.length<=2000000/\g.aj.length<=2000000):W (yX p_ i_) (λ r=>WV p_ i_.toNat r):=by
 have hgl:=h4 _ (getD_in (i:=i_.toNat) ay om);unfold yX;refine wn<|ar (tY) λ v1 hv1=>?_;apply br<;>intro c1
 ·have dc:=c1;have c1:=cG c1;exact ai<|cJ (λ h=>by simp[hv1.2 h]at dc)
 have dc:=c1;have c1:=cG c1;refine bu (λ(g1:Int)=>0<=g1/\(∀k:Nat,(k:Int)<g1->(p_.ax.getD k ay).qW.toList≠(p_.ax.getD i_.toNat ay).qW.toList)) (λ(g1:Int)=>(i_ - g1).toNat) ?_ ?_
 ·intro ab g1 cN bQ;obtain⟨cz,bB⟩:=cN;unfold E8;refine wi ?_ ?_<;>intro c2
  ·refine wn<|wi ?_ ?_<;>intro c3
   ·exact ai (aG (λ h=>h (hv1.1 (by simpa using dc))) (cJ ⟨g1.toNat,om,c3⟩))
   refine wn<|bQ _ ?_ ?_
   ·(refine⟨ob,cM bB cz c3⟩)
   exact ob
  refine wi ?_ ?_<;>intro c4
  ·exact ai (aG (λ h=>h (hv1.1 (by simpa using dc))) (aG (λ⟨k,h1,h2⟩=>bB k om h2) (cJ c4)))
  refine wi ?_ ?_<;>intro c5
  ·exact ai (aG (λ h=>h (hv1.1 (by simpa using dc))) (aG (λ⟨k,h1,h2⟩=>bB k om h2) (aG om (cJ c5))))
  refine bu (λ(g2:Int)=>0<=g2/\(∀j:Nat,(j:Int)<g2->0<=(p_.ax.getD i_.toNat ay).bH.getD j 0/\(p_.ax.getD i_.toNat ay).bH.getD j 0<p_.bH)) (λ(g2:Int)=>((p_.ax.getD i_.toNat ay).bH.length - g2).toNat) ?_ ?_
  ·intro cy g2 jK mo;obtain⟨mO,fH⟩:=jK;unfold Dg;refine wi ?_ ?_<;>intro c6
   ·refine wm<|wi ?_ ?_<;>intro c7
    ·exact ai<|aG (λ h=>h (hv1.1 (by simpa using dc))) (aG (λ⟨k,h1,h2⟩=>bB k om h2) (aG om (aG om (cJ ⟨g2.toNat,om,om⟩))))
    refine wn<|mo _ ?_ ?_
    ·(refine⟨ob,cM fH mO om⟩)
    exact ob
   refine bu (λ(g3:Int)=>1<=g3/\(∀j:Nat,(j:Int)<g3->1<=j->(p_.ax.getD i_.toNat ay).bH.getD (j - 1) 0<(p_.ax.getD i_.toNat ay).bH.getD j 0)) (λ(g3:Int)=>((p_.ax.getD i_.toNat ay).bH.length - g3).toNat) ?_ ?_
   ·intro l8 g3 SB SC;obtain⟨MI,mq⟩:=SB;unfold Df;refine wi ?_ ?_<;>intro c8
    ·refine wm<|wn ?_;refine wi ?_ ?_<;>intro c9
     ·exact ai<|aG (λ h=>h (hv1.1 (by simpa using dc))) (aG (λ⟨k,h1,h2⟩=>bB k om h2) (aG om (aG om (aG (dM fH om) (cJ ⟨g3.toNat,om,om,by rw[show g3.toNat - 1=(g3 - 1).toNat by omega];omega⟩)))))
     refine wn<|SC _ ?_ ?_
     ·(refine⟨ob,λ j h1 h2=>?_⟩;by_cases q:(j:Int)<g3;(exact mq j q h2);(have e:j=g3.toNat:=by omega);subst e;rw[show g3.toNat - 1=(g3 - 1).toNat by omega];omega)
     exact ob
    refine bu (λ(g4:Int)=>0<=g4/\(∀j:Nat,(j:Int)<g4->F0 ((p_.ax.getD i_.toNat ay).aj.getD j ByteArray.empty))) (λ(g4:Int)=>((p_.ax.getD i_.toNat ay).aj.length - g4).toNat) ?_ ?_
    ·intro eE g4 zU yt;obtain⟨qF,jf⟩:=zU;unfold De;refine wi ?_ ?_<;>intro c10
     ·refine wn<|ar (tY) λ v4 hv4=>?_;apply br<;>intro c11
      ·have J7:=c11;have c11:=cG c11;exact ai<|aG (λ h=>h (hv1.1 (by simpa using dc))) (aG (λ⟨k,h1,h2⟩=>bB k om h2) (aG om (aG om (aG (dM fH om) (aG (zY mq om) (cJ ⟨g4.toNat,om,λ h=>by simp[hv4.2 h]at J7⟩))))))
      have J7:=c11;have c11:=cG c11;refine wn<|yt _ ?_ ?_
      ·(refine⟨ob,cM jf qF (hv4.1 (by simpa using J7))⟩)
      exact ob
     refine bu (λ(g5:Int)=>0<=g5/\(∀k:Nat,(k:Int)<g5->∀j:Nat,j<k->((p_.ax.getD i_.toNat ay).aj.getD j ByteArray.empty).toList≠((p_.ax.getD i_.toNat ay).aj.getD k ByteArray.empty).toList)) (λ(g5:Int)=>((p_.ax.getD i_.toNat ay).aj.length - g5).toNat) ?_ ?_
     ·intro jX g5 Lr Ls;obtain⟨Ib,xR⟩:=Lr;unfold Dd;refine wi ?_ ?_<;>intro c12
      ·refine bu (λ(g8:Int)=>0<=g8/\(∀j:Nat,(j:Int)<g8->((p_.ax.getD i_.toNat ay).aj.getD j ByteArray.empty).toList≠((p_.ax.getD i_.toNat ay).aj.getD g5.toNat ByteArray.empty).toList)) (λ(g8:Int)=>(g5 - g8).toNat) ?_ ?_
       ·intro OO g8 ahe ahf;obtain⟨afw,ab7⟩:=ahe;unfold Dc;refine wi ?_ ?_<;>intro c13
        ·refine wm<|wi ?_ ?_<;>intro c14
         ·exact ai (aG (λ h=>h (hv1.1 (by simpa using dc))) (aG (λ⟨k,h1,h2⟩=>bB k om h2) (aG om (aG om (aG (dM fH om) (aG (zY mq om) (aG (dM jf om) (cJ ⟨g5.toNat,g8.toNat,om,om,c14⟩))))))))
         refine wn<|ahf _ ?_ ?_
         ·(refine⟨ob,cM ab7 afw c14⟩)
         exact ob
        refine wn<|Ls _ ?_ ?_
        ·(refine⟨ob,λ k hk j hj=>?_⟩;by_cases q:(k:Int)<g5;(exact xR k q j hj);(have e:k=g5.toNat:=by omega);subst e;exact ab7 j om)
        exact ob
       exact aqo
      exact ai (aG (λ h=>h (hv1.1 (by simpa using dc))) (aG (λ⟨k,h1,h2⟩=>bB k om h2) (aG om (aG om (aG (dM fH om) (aG (zY mq om) (aG (dM jf om) (aG (λ⟨k,j,h1,h2,h3⟩=>xR k om j h1 h3) rfl))))))))
     (refine⟨ob,λ j h1 h2=>by omega⟩)
    exact aqo
   (refine⟨ob,λ j h1 h2=>by omega⟩)
  exact aqo
 exact aqo
def zZ {l:apU} (hn:n<=l.length):(l.take n).contains x=true↔∃k:Nat,k<n/\l.getD k 0=x:=by
 rw[ajO,List.mem_take_iff_getElem];constructor
 ·rintro ⟨i,hi,e⟩;exact⟨i,om,by rw[ad7,aeA om];exact e⟩
 rintro ⟨k,hk,e⟩;rw[ad7,aeA om]at e;exact⟨k,om,e⟩
def RsE (l:ap7) (i:Nat):Int->Prop:=
 BF (∃j:Nat,(j:Int)<((l.getD i cv).cS).length/\¬(0<=((l.getD i cv).cS).getD j 0/\((l.getD i cv).cS).getD j 0<(i:Int))) 2<|
 BF (∃j:Nat,1<=j/\(j:Int)<((l.getD i cv).cS).length/\((l.getD i cv).cS).getD j 0<=((l.getD i cv).cS).getD (j - 1) 0) 12<|
 λ r=>r=0
def Qr (l:ap7):Int->Prop:=BF (32<(l.length:Int)) 3<|Fst l.length (RsE l)
def Qr.fun {l:ap7}:xU (Qr l):=.BB (.fst λ _=>.BB (.BB .zero))
def o8 (hc:c≠0) (h:BF p c A 0):¬p/\A 0:=by
 rcases h with⟨_,h⟩ | h
 ·exact absurd h.symm hc
 exact h
def ab8 (h:Fst n E 0):∀k,k<n->E k 0:=by
 rcases h with⟨_,_,_,_,h⟩ | h
 ·exact absurd rfl h
 exact h.1
def Qr.ok {l:ap7} (h:Qr l 0):ael l:=by
 obtain⟨h1,h2⟩:=o8 (by decide) h;refine⟨om,λ i hi=>iN 0 λ j hj=>?_⟩;obtain⟨h3,_⟩:=o8 (by decide) (ab8 h2 i hi);by_cases q:0<=((l.getD i cv).cS).getD j 0/\((l.getD i cv).cS).getD j 0<(i:Int)
 ·exact q
 exact absurd ⟨j,om,q⟩ h3
def SD (l:ap7) (s:apV):Prop:=(s.length:Int)=l.length/\∀i:Nat,(i:Int)<l.length->∀j:Nat,(j:Int)<((l.getD i cv).cS).length->s.getD i false=true->s.getD (((l.getD i cv).cS).getD j 0).toNat false=true
def M1 (l:ap8):Int->Prop:=BF (16<(l.length:Int)) 3<|BF (∃i:Nat,(i:Int)<l.length/\¬(-1<=(l.getD i cL).aJ/\(l.getD i cL).aJ<(i:Int))) 2<|λ r=>r=0
def M1.fun {l:ap8}:xU (M1 l):=.BB (.BB .zero)
def M1.ok {l:ap8} (h:M1 l 0):aem l:=by
 obtain⟨h1,h2⟩:=o8 (by decide) h;obtain⟨h3,_⟩:=o8 (by decide) h2;refine⟨om,λ i hi=>?_⟩;by_cases q : -1<=(l.getD i cL).aJ/\(l.getD i cL).aJ<(i:Int)
 ·exact q
 exact absurd ⟨i,om,q⟩ h3
def DgP (l:ap8) (s:apV) (i:Nat):Prop:=((l.getD i cL).dD=true->s.getD i false=true)/\(s.getD i false=true->0<=(l.getD i cL).aJ->s.getD (l.getD i cL).aJ.toNat false=true)
def ZN (l:ap8) (s:apV):Prop:=(s.length:Int)=l.length/\∀i:Nat,(i:Int)<l.length->DgP l s i
def qN (l:apW) (m:apU):Prop:=∀i:Nat,(i:Int)<m.length->(0<=m.getD i 0/\m.getD i 0<l.length)/\∀k:Nat,k<i->m.getD k 0≠m.getD i 0
def Zs (b:aI) (l:apW) (g:ak):Prop:=((g.Setting.length:Int)=b.bj.length/\(g.aY.On.length:Int)=b.aX.length/\(g.aY.aT.length:Int)=b.aX.length/\(g.Released.length:Int)=b.bc.length/\(g.bg.length:Int)=b.bw.length)/\
 (∀i:Nat,(i:Int)<g.Setting.length->0<=g.Setting.getD i 0/\g.Setting.getD i 0<(b.bj.getD i az).aE.length)/\∀i:Nat,(i:Int)<g.Uses.length -> -1<=(g.Uses.getD i aL).dE/\(g.Uses.getD i aL).dE<l.length
def Ih (h1:∀g∈p_.ax,g.bH.length<=2000000/\g.aj.length<=2000000):W (xk p_) (λ r=>wM p_ r):=by
 unfold xk;refine wi ?_ ?_<;>intro c1
 ·exact ai<|cJ c1
 refine wi ?_ ?_<;>intro c2
 ·exact ai<|aG om (cJ c2)
 refine bu (λ(g1:(Int×(cj->Option Int)))=>0<=g1.1/\(∀j:Nat,(j:Int)<g1.1->WV p_ j 0)/\(∀s:ByteArray,fo g1.2 (.s s)≠0↔∃k:Nat,(k:Int)<g1.1/\(p_.ax.getD k ay).qW=s)) (λ(g1:(Int×(cj->Option Int)))=>(p_.ax.length - g1.1).toNat) ?_ ?_
 ·intro ab g1 cN bQ;obtain⟨cz,bB,bA⟩:=cN;unfold HJ;refine wi ?_ ?_<;>intro c3
  ·have hgl:=h1 _ (getD_in (i:=g1.1.toNat) ay om);refine wn<|ar (Cp) λ v5 hv5=>?_;apply br<;>intro c4
   ·have lR:=c4;have c4:=cG c4;exact ai (aG om (aG om (zX (i:=g1.1.toNat) om (λ k hk=>bB k om) (cJ (λ h=>by simp[hv5.2 h]at lR)) (by decide))))
   have lR:=c4;have c4:=cG c4;refine wi ?_ ?_<;>intro c5
   ·exact ai (aG om (aG om (zX (i:=g1.1.toNat) om (λ k hk=>bB k om) (aG (λ h=>h (hv5.1 (by simpa using lR))) (cJ (by obtain⟨k,h1,h2⟩:=(bA _).1 c5;exact⟨k,om,by rw[h2]⟩))) (by decide))))
   refine ar (Qq hgl.1 hgl.2) λ v6 hv6=>?_;apply br<;>intro c6
   ·have Eg:=c6;have c6:=cG c6;exact ai (aG om (aG om (zX (i:=g1.1.toNat) om (λ k hk=>bB k om) (aG (λ h=>h (hv5.1 (by simpa using lR))) (aG (λ⟨k,h1,h2⟩=>(bA _).2 ⟨k,om,Lu h2⟩ c5) hv6)) (c6))))
   have Eg:=c6;have c6:=cG c6;refine wn<|bQ _ ?_ ?_
   ·(refine⟨ob,cM bB cz (aG (λ h=>h (hv5.1 (by simpa using lR))) (aG (λ⟨k,h1,h2⟩=>(bA _).2 ⟨k,om,Lu h2⟩ c5) (by have e:v6=0:=(by simpa using Eg);rw[e]at hv6;exact hv6))),λ s=>?_⟩;dsimp only;rw[tA];by_cases q:(.s s:cj)=.s (p_.ax.getD g1.1.toNat ay).qW;(rw[afc q];constructor;(intro _;exact⟨g1.1.toNat,om,(cj.s.inj q).symm⟩);(intro _;decide));(rw[aeV q,bA];constructor;(rintro ⟨k,h1,h2⟩;exact⟨k,om,h2⟩);(rintro ⟨k,h1,h2⟩;refine⟨k,?_,h2⟩;by_cases e:(k:Int)<g1.1;(exact e);exfalso;apply q;rw[<- h2,show k=g1.1.toNat by omega])))
   exact ob
  exact ai (aG om (aG om (Co (λ k hk=>bB k om))))
 (refine⟨ob,λ j hj=>by dsimp only at hj;omega,λ s=>?_⟩;constructor;(intro h;exact absurd rfl h);(rintro ⟨k,h1,_⟩;dsimp only at h1;omega))
def xV (h1:∀g∈p_.ax,g.bH.length<=2000000/\g.aj.length<=2000000):W (qA p_) (λ r=>wM p_ r):=by
 unfold qA;refine wi ?_ ?_<;>intro c1
 ·exact ai<|cJ c1
 refine wi ?_ ?_<;>intro c2
 ·exact ai<|aG om (cJ c2)
 refine bu (λ(g1:Int)=>0<=g1/\(∀j:Nat,(j:Int)<g1->WV p_ j 0)) (λ(g1:Int)=>(p_.ax.length - g1).toNat) ?_ ?_
 ·intro ab g1 cN bQ;obtain⟨cz,bB⟩:=cN;unfold E9;refine wi ?_ ?_<;>intro c3
  ·refine ar (Pj om om om h1) λ v3 hv3=>?_;apply br<;>intro c4
   ·have lR:=c4;have c4:=cG c4;exact ai (aG om (aG om (zX (i:=g1.toNat) om (λ k hk=>bB k om) (hv3) (c4))))
   have lR:=c4;have c4:=cG c4;refine wn<|bQ _ ?_ ?_
   ·(refine⟨ob,cM bB cz (by have e:v3=0:=(by simpa using lR);rw[e]at hv3;exact hv3)⟩)
   exact ob
  exact ai (aG om (aG om (Co (λ k hk=>bB k om))))
 exact aqo
def F2 {l_:ap7} (h1:∀g∈l_,g.cS.length<=2000000):W (uq l_) (λ r=>Qr l_ r):=by
 unfold uq;refine wi ?_ ?_<;>intro c1
 ·exact ai<|cJ c1
 refine bu (λ(g1:Int)=>0<=g1/\(∀j:Nat,(j:Int)<g1->RsE l_ j 0)) (λ(g1:Int)=>(l_.length - g1).toNat) ?_ ?_
 ·intro ab g1 cN bQ;obtain⟨cz,bB⟩:=cN;unfold EJ;refine wi ?_ ?_<;>intro c2
  ·have hgl:=h1 _ (getD_in (i:=g1.toNat) cv om);refine wn<|bu (λ(g6:Int)=>0<=g6/\(∀j:Nat,(j:Int)<g6->0<=((l_.getD g1.toNat cv).cS).getD j 0/\((l_.getD g1.toNat cv).cS).getD j 0<((g1.toNat:Nat):Int))) (λ(g6:Int)=>(((l_.getD g1.toNat cv).cS).length - g6).toNat) ?_ ?_
   ·intro fL g6 FU Cm;obtain⟨DL,qG⟩:=FU;unfold EI;refine wi ?_ ?_<;>intro c3
    ·refine wn<|wi ?_ ?_<;>intro c4
     ·exact ai<|aG om (zX (i:=g1.toNat) om (λ k hk=>bB k om) (cJ ⟨g6.toNat,om,om⟩) (by decide))
     refine wn<|Cm _ ?_ ?_
     ·(refine⟨ob,cM qG DL om⟩)
     exact ob
    refine bu (λ(g7:Int)=>1<=g7/\(∀j:Nat,(j:Int)<g7->1<=j->((l_.getD g1.toNat cv).cS).getD (j - 1) 0<((l_.getD g1.toNat cv).cS).getD j 0)) (λ(g7:Int)=>(((l_.getD g1.toNat cv).cS).length - g7).toNat) ?_ ?_
    ·intro ky g7 Pk M3;obtain⟨Pl,vN⟩:=Pk;unfold CJ;refine wi ?_ ?_<;>intro c5
     ·refine wm<|wn ?_;refine wi ?_ ?_<;>intro c6
      ·exact ai<|aG om (zX (i:=g1.toNat) om (λ k hk=>bB k om) (aG (dM qG om) (cJ ⟨g7.toNat,om,om,by rw[show g7.toNat - 1=(g7 - 1).toNat by omega];omega⟩)) (by decide))
      refine wn<|M3 _ ?_ ?_
      ·(refine⟨ob,λ j h1 h2=>?_⟩;by_cases q:(j:Int)<g7;(exact vN j q h2);(have e:j=g7.toNat:=by omega);subst e;rw[show g7.toNat - 1=(g7 - 1).toNat by omega];omega)
      exact ob
     refine wn<|bQ _ ?_ ?_
     ·(refine⟨ob,cM bB cz (aG (dM qG om) (aG (zY vN om) rfl))⟩)
     exact ob
    (refine⟨ob,λ j h1 h2=>by omega⟩)
   exact aqo
  exact ai<|aG om (Co λ k hk=>bB k om)
 exact aqo
def xW {l_:ap7} (h1:∀g∈l_,g.cS.length<=2000000):W (qB l_) (λ r=>Qr l_ r):=by
 unfold qB;refine wi ?_ ?_<;>intro c1
 ·exact ai<|cJ c1
 refine bu (λ(g1:Int)=>0<=g1/\(∀j:Nat,(j:Int)<g1->RsE l_ j 0)) (λ(g1:Int)=>(l_.length - g1).toNat) ?_ ?_
 ·intro ab g1 cN bQ;obtain⟨cz,bB⟩:=cN;unfold Fb;refine wi ?_ ?_<;>intro c2
  ·have hgl:=h1 _ (getD_in (i:=g1.toNat) cv om);refine bu (λ(g6:Int)=>0<=g6/\(∀j:Nat,(j:Int)<g6->0<=((l_.getD g1.toNat cv).cS).getD j 0/\((l_.getD g1.toNat cv).cS).getD j 0<((g1.toNat:Nat):Int))) (λ(g6:Int)=>(((l_.getD g1.toNat cv).cS).length - g6).toNat) ?_ ?_
   ·intro fL g6 FU Cm;obtain⟨DL,qG⟩:=FU;unfold Fa;refine wn<|wi ?_ ?_<;>intro c3
    ·refine wm<|wm ?_;refine wi ?_ ?_<;>intro c4
     ·exact ai<|aG om (zX (i:=g1.toNat) om (λ k hk=>bB k om) (cJ ⟨g6.toNat,om,om⟩) (by decide))
     refine wn<|Cm _ ?_ ?_
     ·(refine⟨ob,cM qG DL om⟩)
     exact ob
    refine bu (λ(g7:Int)=>1<=g7/\(∀j:Nat,(j:Int)<g7->1<=j->((l_.getD g1.toNat cv).cS).getD (j - 1) 0<((l_.getD g1.toNat cv).cS).getD j 0)) (λ(g7:Int)=>(((l_.getD g1.toNat cv).cS).length - g7).toNat) ?_ ?_
    ·intro ky g7 Pk M3;obtain⟨Pl,vN⟩:=Pk;unfold Dh;refine wn<|wi ?_ ?_<;>intro c5
     ·refine wm<|wm ?_;refine wn<|wi ?_ ?_<;>intro c6
      ·exact ai<|aG om (zX (i:=g1.toNat) om (λ k hk=>bB k om) (aG (dM qG om) (cJ ⟨g7.toNat,om,om,by rw[show g7.toNat - 1=(g7 - 1).toNat by omega];omega⟩)) (by decide))
      refine wn<|M3 _ ?_ ?_
      ·(refine⟨ob,λ j h1 h2=>?_⟩;by_cases q:(j:Int)<g7;(exact vN j q h2);(have e:j=g7.toNat:=by omega);subst e;rw[show g7.toNat - 1=(g7 - 1).toNat by omega];omega)
      exact ob
     refine wn<|bQ _ ?_ ?_
     ·(refine⟨ob,cM bB cz (aG (dM qG om) (aG (zY vN om) rfl))⟩)
     exact ob
    (refine⟨ob,λ j h1 h2=>by omega⟩)
   exact aqo
  exact ai<|aG om (Co λ k hk=>bB k om)
 exact aqo
variable {cq:apV}
def M4 {l_:ap7} (h1:ael l_) (h2:∀g∈l_,g.cS.length<=2000000):W (wg l_ cq) (λ r=>r=true↔SD l_ cq):=by
 obtain⟨p1,p2⟩:=h1;unfold wg;refine wi ?_ ?_<;>intro c1
 ·refine ai ?_;(constructor;(intro e;cases e);(rintro ⟨a,_⟩;omega))
 refine bu (λ(g1:Int)=>0<=g1/\(∀i:Nat,(i:Int)<g1->∀j:Nat,(j:Int)<((l_.getD i cv).cS).length->cq.getD i false=true->cq.getD (((l_.getD i cv).cS).getD j 0).toNat false=true)) (λ(g1:Int)=>(l_.length - g1).toNat) ?_ ?_
 ·intro ab g1 cN bQ;obtain⟨cz,bB⟩:=cN;unfold CZ;refine wi ?_ ?_<;>intro c2
  ·have hgl:=h2 _ (getD_in (i:=g1.toNat) cv om);refine wn<|bu (λ(g4:Int)=>0<=g4/\(∀j:Nat,(j:Int)<g4->cq.getD g1.toNat false=true->cq.getD (((l_.getD g1.toNat cv).cS).getD j 0).toNat false=true)) (λ(g4:Int)=>(((l_.getD g1.toNat cv).cS).length - g4).toNat) ?_ ?_
   ·intro eE g4 zU yt;obtain⟨qF,jf⟩:=zU;unfold CY;refine wi ?_ ?_<;>intro c3
    ·have hx:=p2 g1.toNat om _ (getD_in (i:=g4.toNat) 0 om);refine wm<|wn ?_;apply br<;>intro c4
     ·have lR:=c4;have c4:=cG c4;refine ai ?_;(constructor;(intro e;cases e);(rintro ⟨_,a⟩;simp only[aeP,ahA]at lR;have:=a g1.toNat om g4.toNat om lR.1;rw[this]at lR;cases lR.2))
     have lR:=c4;have c4:=cG c4;refine wn<|yt _ ?_ ?_
     ·(refine⟨ob,λ j h1 hr=>?_⟩;by_cases q:(j:Int)<g4;(exact jf j q hr);(have e:j=g4.toNat:=by omega);subst e;simp only[hr,aj0,ahS]at lR;exact lR)
     exact ob
    refine wn<|bQ _ ?_ ?_
    ·(refine⟨ob,λ i hi j hj hr=>?_⟩;by_cases q:(i:Int)<g1;(exact bB i q j hj hr);(have e:i=g1.toNat:=by omega);subst e;exact jf j om hr)
    exact ob
   (refine⟨ob,λ j h1 h2=>by omega⟩)
  refine ai ?_;(constructor;(intro _;exact⟨om,λ i hi=>bB i om⟩);(intro _;rfl))
 (refine⟨ob,λ j h1 h2=>by omega⟩)
def M5 {l_:ap7} (h1:∀g∈l_,g.cS.length<=2000000):W (wh l_ cq) (λ r=>(r=true↔Qr l_ 0/\SD l_ cq)):=by
 unfold wh;refine ar (F2 ob) λ v1 hv1=>?_;refine ar (lp λ hc=>M4 (by have e:v1=0:=(by simpa using hc);rw[e]at hv1;exact hv1.ok) h1) λ v2 hv2=>?_;refine ai ?_;(constructor;(intro hr;simp only[aeP]at hr;have e:v1=0:=(by simpa using hr.1);exact⟨e ▸ hv1,(hv2 hr.1).1 hr.2⟩);(rintro ⟨a,b⟩;have e:=Qr.fun _ _ hv1 a;subst e;have:=(hv2 rfl).2 b;rw[this];rfl))
def M6 {l_:ap7} (h1:∀g∈l_,g.cS.length<=2000000):W (wD l_ cq) (λ r=>(r=true↔Qr l_ 0/\SD l_ cq)):=by
 unfold wD;refine ar (xW ob) λ v1 hv1=>?_;refine wi ?_ ?_<;>intro c1
 ·refine ai ?_;(constructor;(intro e;cases e);(rintro ⟨a,b,_⟩;have e:=Qr.fun _ _ hv1 a;omega))
 have hok:Qr l_ 0:=(by have e:v1=0:=om;rw[e]at hv1;exact hv1);obtain⟨p1,p2⟩:=hok.ok;refine bu (λ(g1:Int)=>0<=g1/\(∀i:Nat,(i:Int)<g1->∀j:Nat,(j:Int)<((l_.getD i cv).cS).length->cq.getD i false=true->cq.getD (((l_.getD i cv).cS).getD j 0).toNat false=true)) (λ(g1:Int)=>(l_.length - g1).toNat) ?_ ?_
 ·intro ab g1 cN bQ;obtain⟨cz,bB⟩:=cN;unfold Dw;refine wi ?_ ?_<;>intro c2
  ·have hgl:=h1 _ (getD_in (i:=g1.toNat) cv om);refine bu (λ(g4:Int)=>0<=g4/\(∀j:Nat,(j:Int)<g4->cq.getD g1.toNat false=true->cq.getD (((l_.getD g1.toNat cv).cS).getD j 0).toNat false=true)) (λ(g4:Int)=>(((l_.getD g1.toNat cv).cS).length - g4).toNat) ?_ ?_
   ·intro eE g4 zU yt;obtain⟨qF,jf⟩:=zU;unfold Dv;refine wn<|wi ?_ ?_<;>intro c3
    ·have hx:=p2 g1.toNat om _ (getD_in (i:=g4.toNat) 0 om);refine wm<|wm ?_;apply br<;>intro c4
     ·have lR:=c4;have c4:=cG c4;refine ai ?_;(constructor;(intro e;cases e);(rintro ⟨_,_,a⟩;simp only[aeP,ahA]at lR;have:=a g1.toNat om g4.toNat om lR.1;rw[this]at lR;cases lR.2))
     have lR:=c4;have c4:=cG c4;refine wn<|yt _ ?_ ?_
     ·(refine⟨ob,λ j h1 hr=>?_⟩;by_cases q:(j:Int)<g4;(exact jf j q hr);(have e:j=g4.toNat:=by omega);subst e;simp only[hr,aj0,ahS]at lR;exact lR)
     exact ob
    refine wn<|bQ _ ?_ ?_
    ·(refine⟨ob,λ i hi j hj hr=>?_⟩;by_cases q:(i:Int)<g1;(exact bB i q j hj hr);(have e:i=g1.toNat:=by omega);subst e;exact jf j om hr)
    exact ob
   (refine⟨ob,λ j h1 h2=>by omega⟩)
  refine ai ?_;(constructor;(intro _;exact⟨hok,om,λ i hi=>bB i om⟩);(intro _;rfl))
 (refine⟨ob,λ j h1 h2=>by omega⟩)
def vu {l_:ap8}:W (nK l_) (λ r=>M1 l_ r):=by
 unfold nK;refine wi ?_ ?_<;>intro c1
 ·exact ai<|cJ c1
 refine bu (λ(g1:Int)=>0<=g1/\(∀j:Nat,(j:Int)<g1 -> -1<=(l_.getD j cL).aJ/\(l_.getD j cL).aJ<(j:Int))) (λ(g1:Int)=>(l_.length - g1).toNat) ?_ ?_
 ·intro ab g1 cN bQ;obtain⟨cz,bB⟩:=cN;unfold CK;refine wi ?_ ?_<;>intro c2
  ·refine wn<|wi ?_ ?_<;>intro c3
   ·exact ai<|aG om (cJ ⟨g1.toNat,om,om⟩)
   refine wn<|bQ _ ?_ ?_
   ·(refine⟨ob,cM bB cz om⟩)
   exact ob
  exact ai<|aG om (aG (dM bB om) rfl)
 exact aqo
def xX {l_:ap8}:W (qC l_) (λ r=>M1 l_ r):=by
 unfold qC;refine wi ?_ ?_<;>intro c1
 ·exact ai<|cJ c1
 refine bu (λ(g1:Int)=>0<=g1/\(∀j:Nat,(j:Int)<g1 -> -1<=(l_.getD j cL).aJ/\(l_.getD j cL).aJ<(j:Int))) (λ(g1:Int)=>(l_.length - g1).toNat) ?_ ?_
 ·intro ab g1 cN bQ;obtain⟨cz,bB⟩:=cN;unfold Fc;refine wi ?_ ?_<;>intro c2
  ·refine wm<|wi ?_ ?_<;>intro c3
   ·exact ai<|aG om (cJ ⟨g1.toNat,om,om⟩)
   refine wn<|bQ _ ?_ ?_
   ·(refine⟨ob,cM bB cz om⟩)
   exact ob
  exact ai<|aG om (aG (dM bB om) rfl)
 exact aqo
def vv {l_:ap8} (h1:aem l_):W (nQ l_ kE) (λ r=>r=true↔ZN l_ kE):=by
 obtain⟨p1,p2⟩:=h1;unfold nQ;refine wi ?_ ?_<;>intro c1
 ·refine ai ?_;(constructor;(intro e;cases e);(rintro ⟨a,_⟩;omega))
 refine bu (λ(g1:Int)=>0<=g1/\(∀j:Nat,(j:Int)<g1->DgP l_ kE j)) (λ(g1:Int)=>(l_.length - g1).toNat) ?_ ?_
 ·intro ab g1 cN bQ;obtain⟨cz,bB⟩:=cN;unfold C0;refine wi ?_ ?_<;>intro c2
  ·have hx:=p2 g1.toNat om;refine wm<|wm ?_;apply br<;>intro c3
   ·have fM:=c3;have c3:=cG c3;refine ai ?_;(constructor;(intro e;cases e);(rintro ⟨_,this⟩;have hd:=this g1.toNat om;obtain⟨d1,d2⟩:=hd;revert d1 d2;cases hA:(l_.getD g1.toNat cL).dD<;>cases hB:kE.getD g1.toNat false<;>simp_all))
   have fM:=c3;have c3:=cG c3;refine wn<|bQ _ ?_ ?_
   ·(refine⟨ob,cM bB cz ?_⟩;unfold DgP;revert fM;cases hA:(l_.getD g1.toNat cL).dD<;>cases hB:kE.getD g1.toNat false<;>simp)
   exact ob
  refine ai ?_;(constructor;(intro _;exact⟨om,λ i hi=>bB i om⟩);(intro _;rfl))
 exact aqo
def M7 {l_:ap8} :W (wj l_ kE) (λ r=>(r=true↔M1 l_ 0/\ZN l_ kE)):=by
 unfold wj;refine ar (vu) λ v1 hv1=>?_;refine ar (lp λ hc=>vv (by have e:v1=0:=(by simpa using hc);rw[e]at hv1;exact hv1.ok)) λ v2 hv2=>?_;refine ai ?_;(constructor;(intro hr;simp only[aeP]at hr;have e:v1=0:=(by simpa using hr.1);exact⟨e ▸ hv1,(hv2 hr.1).1 hr.2⟩);(rintro ⟨a,b⟩;have e:=M1.fun _ _ hv1 a;subst e;have:=(hv2 rfl).2 b;rw[this];rfl))
def Pm {l_:ap8} :W (zi l_ kE) (λ r=>(r=true↔M1 l_ 0/\ZN l_ kE)):=by
 unfold zi;refine ar (xX) λ v1 hv1=>?_;refine wi ?_ ?_<;>intro c1
 ·refine ai ?_;(constructor;(intro e;cases e);(rintro ⟨a,b,_⟩;have e:=M1.fun _ _ hv1 a;omega))
 have hok:M1 l_ 0:=(by have e:v1=0:=om;rw[e]at hv1;exact hv1);obtain⟨p1,p2⟩:=hok.ok;refine bu (λ(g1:Int)=>0<=g1/\(∀j:Nat,(j:Int)<g1->DgP l_ kE j)) (λ(g1:Int)=>(l_.length - g1).toNat) ?_ ?_
 ·intro ab g1 cN bQ;obtain⟨cz,bB⟩:=cN;unfold Fv;refine wi ?_ ?_<;>intro c2
  ·have hx:=p2 g1.toNat om;refine wm<|wm ?_;refine wm<|br ?_ ?_<;>intro c3
   ·have fM:=c3;have c3:=cG c3;refine ai ?_;(constructor;(intro e;cases e);(rintro ⟨_,_,this⟩;have hd:=this g1.toNat om;obtain⟨d1,d2⟩:=hd;revert d1 d2;cases hA:(l_.getD g1.toNat cL).dD<;>cases hB:kE.getD g1.toNat false<;>simp_all))
   have fM:=c3;have c3:=cG c3;refine wn<|bQ _ ?_ ?_
   ·(refine⟨ob,cM bB cz ?_⟩;unfold DgP;revert fM;cases hA:(l_.getD g1.toNat cL).dD<;>cases hB:kE.getD g1.toNat false<;>simp)
   exact ob
  refine ai ?_;(constructor;(intro _;exact⟨hok,om,λ i hi=>bB i om⟩);(intro _;rfl))
 exact aqo
def xY {l_:apW} {ae:apU} (h1:l_.length<=2000000) (h2:ae.length<=2000000):W (l9 l_ ae) (λ r=>r=true↔qN l_ ae):=by
 unfold l9;refine bu (λ(g1:Int)=>0<=g1/\(∀i:Nat,(i:Int)<g1->(0<=ae.getD i 0/\ae.getD i 0<l_.length)/\∀k:Nat,k<i->ae.getD k 0≠ae.getD i 0)) (λ(g1:Int)=>(ae.length - g1).toNat) ?_ ?_
 ·intro ab g1 cN bQ;obtain⟨cz,bB⟩:=cN;unfold xl;refine wi ?_ ?_<;>intro c1
  ·refine wm<|ar (jA) λ v5 hv5=>?_;subst v5;refine wn<|ar (dT λ hc=>mD ob) λ v6 hv6=>?_;subst v6;apply br<;>intro c2
   ·have fX:=c2;have c2:=cG c2;refine ai ?_;(constructor;(intro e;cases e);(intro a;obtain⟨b,d⟩:=a g1.toNat om;simp only[aiG]at fX;rcases fX with c | c;(simp only[ahA,aiI,aie]at c;omega);(obtain⟨k,h3,h4⟩:=(zZ om).1 c;exact absurd h4 (d k h3))))
   have fX:=c2;have c2:=cG c2;refine wn<|bQ _ ?_ ?_
   ·(refine⟨ob,cM bB cz ?_⟩;simp only[afr]at fX;refine⟨(by have:=fX.1;simp only[ahS,aeP,ahQ]at this;omega),λ k hk e=>?_⟩;rw[(zZ om).2 ⟨k,hk,e⟩]at fX;cases fX.2)
   exact ob
  refine ai ?_;(constructor;(intro _ i hi;exact bB i om);(intro _;rfl))
 exact aqo
def n7 {l_:apW} {ae:apU} (h1:l_.length<=2000000) (h2:ae.length<=2000000):W (iq l_ ae) (λ r=>r=true↔qN l_ ae):=by
 unfold iq;refine bu (λ(g1:Int)=>0<=g1/\(∀i:Nat,(i:Int)<g1->(0<=ae.getD i 0/\ae.getD i 0<l_.length)/\∀k:Nat,k<i->ae.getD k 0≠ae.getD i 0)) (λ(g1:Int)=>(ae.length - g1).toNat) ?_ ?_
 ·intro ab g1 cN bQ;obtain⟨cz,bB⟩:=cN;unfold AK;refine wi ?_ ?_<;>intro c1
  ·refine wm<|wi ?_ ?_<;>intro c2
   ·refine ai ?_;(constructor;(intro e;cases e);(intro a;obtain⟨b,d⟩:=a g1.toNat om;omega))
   refine bu (λ(g4:Int)=>0<=g4/\(∀k:Nat,(k:Int)<g4->ae.getD k 0≠ae.getD g1.toNat 0)) (λ(g4:Int)=>(g1 - g4).toNat) ?_ ?_
   ·intro eE g4 zU yt;obtain⟨qF,jf⟩:=zU;unfold AJ;refine wi ?_ ?_<;>intro c3
    ·refine wm<|wi ?_ ?_<;>intro c4
     ·refine ai ?_;(constructor;(intro e;cases e);(intro a;obtain⟨b,d⟩:=a g1.toNat om;exact absurd c4 (d g4.toNat om)))
     refine wn<|yt _ ?_ ?_
     ·(refine⟨ob,cM jf qF c4⟩)
     exact ob
    refine wn<|bQ _ ?_ ?_
    ·(refine⟨ob,cM bB cz ⟨om,λ k hk=>jf k om⟩⟩)
    exact ob
   exact aqo
  refine ai ?_;(constructor;(intro _ i hi;exact bB i om);(intro _;rfl))
 exact aqo
end Go.Proofs.YtifekdmmpbcdgaaGreatDoor

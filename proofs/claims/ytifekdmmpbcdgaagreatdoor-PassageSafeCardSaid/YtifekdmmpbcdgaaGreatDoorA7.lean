/- A part of the proof. -/
import Derived.Test.YtifekdmmpbcdgaaGreatDoorA6
set_option linter.defProp false
set_option linter.unusedVariables false
set_option linter.unusedSimpArgs false
set_option maxHeartbeats 4000000
namespace Go.Proofs.YtifekdmmpbcdgaaGreatDoor
open Go.Ab
set_option maxRecDepth 100000
def NdE (b:aI) (n:aC) (dv:Int):Int->Prop:=
 BF (32<(n.bO.length:Int)\/32<(n.dq.length:Int)\/10<(n.aj.length:Int)) 3<|
 BF (∃j:Nat,(j:Int)<n.bO.length/\¬He b.bj.length (n.bO.getD j bW)) 2<|
 BF (∃j:Nat,(j:Int)<n.dq.length/\¬WQ b.aX.length (n.dq.getD j cw)) 2<|
 BF (∃j:Nat,(j:Int)<n.aj.length/\¬F0 (n.aj.getD j ByteArray.empty)) 1<|
 BF (∃j:Nat,(j:Int)<n.bc.length/\¬(0<=n.bc.getD j 0/\n.bc.getD j 0<b.bc.length)) 2<|
 BF (¬(-1<=n.dz/\n.dz<b.bw.length)) 2<|
 BF (∃j:Nat,(j:Int)<n.bM.length/\¬(0<=n.bM.getD j 0/\n.bM.getD j 0<dv)) 2<|
 BF (∃j:Nat,1<=j/\(j:Int)<n.bM.length/\n.bM.getD j 0<=n.bM.getD (j - 1) 0) 12<|
 λ r=>r=0
variable {b:aI}
def NdE.fun {n:aC} {dv:Int}:xU (NdE b n dv):=.BB (.BB (.BB (.BB (.BB (.BB (.BB (.BB .zero)))))))
def F3 (b:aI):Int->Prop:=Thn (λ r=>r=cB b.bj)<|Thn (λ r=>r=Sp.cB b.aX)<|Thn (wM b.aM)<|Thn (Qr b.bc) (M1 b.bw)
def F3.fun:xU (F3 b):=.thn (λ _ _ h k=>h.trans k.symm) (.thn (λ _ _ h k=>h.trans k.symm) (.thn wM.fun (.thn Qr.fun M1.fun)))
def jr (b:aI) (l:apW):Int->Prop:=Thn (F3 b)<|BF (12<(l.length:Int)) 3<|Fst l.length λ i=>NdE b (l.getD i bb) l.length
def jr.fun {l:apW}:xU (jr b l):=.thn F3.fun (.BB (.fst λ _=>NdE.fun))
variable {b_:aI}
def Pn (h1:xQ b_) (h2:∀g∈b_.aM.ax,g.bH.length<=2000000/\g.aj.length<=2000000):W (yI b_) (λ r=>F3 b_ r):=by
 obtain⟨z1,z2,z3,z4,z5,z6,z7⟩:=h1;unfold yI;refine ar (sJ (o0 ob)) λ v1 hv1=>?_;subst v1;refine wi ?_ ?_<;>intro c1
 ·exact ai<|zW rfl c1
 refine ar (Sp.se ob) λ v2 hv2=>?_;subst v2;refine wi ?_ ?_<;>intro c2
 ·exact ai<|gZ c1.symm (zW rfl c2)
 refine ar (Ih h2) λ v3 hv3=>?_;refine wi ?_ ?_<;>intro c3
 ·exact ai<|gZ c1.symm (gZ c2.symm (zW hv3 c3))
 refine ar (F2 ob) λ v4 hv4=>?_;refine wi ?_ ?_<;>intro c4
 ·exact ai<|gZ c1.symm (gZ c2.symm (gZ (c3 ▸ hv3) (zW hv4 c4)))
 refine ar (vu) λ v5 hv5=>?_;exact ai<|gZ c1.symm (gZ c2.symm (gZ (c3 ▸ hv3) (gZ (c4 ▸ hv4) hv5)))
def Po (h1:xQ b_) (h2:∀g∈b_.aM.ax,g.bH.length<=2000000/\g.aj.length<=2000000):W (yY b_) (λ r=>F3 b_ r):=by
 obtain⟨z1,z2,z3,z4,z5,z6,z7⟩:=h1;unfold yY;refine ar (tV ob) λ v1 hv1=>?_;subst v1;refine wi ?_ ?_<;>intro c1
 ·exact ai<|zW rfl c1
 refine ar (Sp.tT ob) λ v2 hv2=>?_;subst v2;refine wi ?_ ?_<;>intro c2
 ·exact ai<|gZ c1.symm (zW rfl c2)
 refine ar (xV h2) λ v3 hv3=>?_;refine wi ?_ ?_<;>intro c3
 ·exact ai<|gZ c1.symm (gZ c2.symm (zW hv3 c3))
 refine ar (xW ob) λ v4 hv4=>?_;refine wi ?_ ?_<;>intro c4
 ·exact ai<|gZ c1.symm (gZ c2.symm (gZ (c3 ▸ hv3) (zW hv4 c4)))
 refine ar (xX) λ v5 hv5=>?_;exact ai<|gZ c1.symm (gZ c2.symm (gZ (c3 ▸ hv3) (gZ (c4 ▸ hv4) hv5)))
def Qs {n_:aC} {eM:Int} (h1:xQ b_) (h2:0<=eM) (h3:eM<=2000000) (h4:n_.bc.length<=2000000) (h5:n_.bM.length<=2000000):W (BU b_ n_ eM) (λ r=>NdE b_ n_ eM r):=by
 obtain⟨z1,z2,z3,z4,z5,z6,z7⟩:=h1;unfold BU;refine wi ?_ ?_<;>intro c1
 ·exact ai<|cJ om
 refine bu (λ(g1:Int)=>0<=g1/\(∀j:Nat,(j:Int)<g1->He b_.bj.length (n_.bO.getD j bW))) (λ(g1:Int)=>(n_.bO.length - g1).toNat) ?_ ?_
 ·intro ab g1 cN bQ;obtain⟨cz,bB⟩:=cN;unfold HK;refine wi ?_ ?_<;>intro c2
  ·refine wm<|ar (jA) λ v3 hv3=>?_;subst v3;refine wi ?_ ?_<;>intro c3
   ·exact ai (aG om (cJ ⟨g1.toNat,om,λ⟨_,_,_,_,_⟩=>by omega⟩))
   refine wn<|bQ _ ?_ ?_
   ·(refine⟨ob,cM bB cz ⟨om,om,om,om,om⟩⟩)
   exact ob
  refine bu (λ(g2:Int)=>0<=g2/\(∀j:Nat,(j:Int)<g2->WQ b_.aX.length (n_.dq.getD j cw))) (λ(g2:Int)=>(n_.dq.length - g2).toNat) ?_ ?_
  ·intro cy g2 jK mo;obtain⟨mO,fH⟩:=jK;unfold EO;refine wi ?_ ?_<;>intro c4
   ·refine wm<|ar (jA) λ v8 wJ=>?_;subst v8;refine ar (dT λ hc=>iU (jA)) λ v9 Lj=>?_;subst v9;refine wi ?_ ?_<;>intro c5
    ·exact ai (aG om (aG (dM bB om) (cJ ⟨g2.toNat,om,λ⟨_,_,_,_,_,_,_⟩=>by omega⟩)))
    refine wn<|mo _ ?_ ?_
    ·(refine⟨ob,cM fH mO ⟨om,om,om,om,om,om,om⟩⟩)
    exact ob
   refine bu (λ(g3:Int)=>0<=g3/\(∀j:Nat,(j:Int)<g3->F0 (n_.aj.getD j ByteArray.empty))) (λ(g3:Int)=>(n_.aj.length - g3).toNat) ?_ ?_
   ·intro l8 g3 SB SC;obtain⟨MI,mq⟩:=SB;unfold EN;refine wi ?_ ?_<;>intro c6
    ·refine wn<|ar (Cp) λ v12 Lb=>?_;apply br<;>intro c7
     ·have Jk:=c7;have c7:=cG c7;exact ai (aG om (aG (dM bB om) (aG (dM fH om) (cJ ⟨g3.toNat,om,λ h=>by simp[Lb.2 h]at Jk⟩))))
     have Jk:=c7;have c7:=cG c7;refine wn<|SC _ ?_ ?_
     ·(refine⟨ob,cM mq MI (Lb.1 (by simpa using Jk))⟩)
     exact ob
    refine bu (λ(g4:Int)=>0<=g4/\(∀j:Nat,(j:Int)<g4->0<=n_.bc.getD j 0/\n_.bc.getD j 0<b_.bc.length)) (λ(g4:Int)=>(n_.bc.length - g4).toNat) ?_ ?_
    ·intro eE g4 zU yt;obtain⟨qF,jf⟩:=zU;unfold EM;refine wi ?_ ?_<;>intro c8
     ·refine wm<|ar (jA) λ v15 MS=>?_;subst v15;refine wi ?_ ?_<;>intro c9
      ·exact ai (aG om (aG (dM bB om) (aG (dM fH om) (aG (dM mq om) (cJ ⟨g4.toNat,om,om⟩)))))
      refine wn<|yt _ ?_ ?_
      ·(refine⟨ob,cM jf qF om⟩)
      exact ob
     refine wn<|ar (jA) λ v16 Si=>?_;subst v16;refine wi ?_ ?_<;>intro c10
     ·exact ai (aG om (aG (dM bB om) (aG (dM fH om) (aG (dM mq om) (aG (dM jf om) (cJ om))))))
     refine bu (λ(g5:Int)=>0<=g5/\(∀j:Nat,(j:Int)<g5->0<=n_.bM.getD j 0/\n_.bM.getD j 0<eM)) (λ(g5:Int)=>(n_.bM.length - g5).toNat) ?_ ?_
     ·intro jX g5 Lr Ls;obtain⟨Ib,xR⟩:=Lr;unfold EL;refine wi ?_ ?_<;>intro c11
      ·refine wm<|ar (jA) λ v19 apt=>?_;subst v19;refine wi ?_ ?_<;>intro c12
       ·exact ai (aG om (aG (dM bB om) (aG (dM fH om) (aG (dM mq om) (aG (dM jf om) (aG om (cJ ⟨g5.toNat,om,om⟩)))))))
       refine wn<|Ls _ ?_ ?_
       ·(refine⟨ob,cM xR Ib om⟩)
       exact ob
      refine bu (λ(g6:Int)=>1<=g6/\(∀j:Nat,(j:Int)<g6->1<=j->n_.bM.getD (j - 1) 0<n_.bM.getD j 0)) (λ(g6:Int)=>(n_.bM.length - g6).toNat) ?_ ?_
      ·intro fL g6 FU Cm;obtain⟨DL,qG⟩:=FU;unfold EK;refine wi ?_ ?_<;>intro c13
       ·refine wm<|wn ?_;refine wi ?_ ?_<;>intro c14
        ·exact ai (aG om (aG (dM bB om) (aG (dM fH om) (aG (dM mq om) (aG (dM jf om) (aG om (aG (dM xR om) (cJ ⟨g6.toNat,om,om,by rw[show g6.toNat - 1=(g6 - 1).toNat by omega];omega⟩))))))))
        refine wn<|Cm _ ?_ ?_
        ·(refine⟨ob,λ j h1 h2=>?_⟩;by_cases q:(j:Int)<g6;(exact qG j q h2);(have e:j=g6.toNat:=by omega);subst e;rw[show g6.toNat - 1=(g6 - 1).toNat by omega];omega)
        exact ob
       exact ai (aG om (aG (dM bB om) (aG (dM fH om) (aG (dM mq om) (aG (dM jf om) (aG om (aG (dM xR om) (aG (zY qG om) (rfl)))))))))
      (refine⟨ob,λ j h1 h2=>by omega⟩)
     exact aqo
    exact aqo
   exact aqo
  exact aqo
 exact aqo
variable {l_:apW}
def Qt {x_:aC} (h1:xQ b_) (h2:l_.length<=2000000) (h3:x_.bc.length<=2000000) (h4:x_.bM.length<=2000000):W (BY b_ l_ x_) (λ r=>NdE b_ x_ l_.length r):=by
 obtain⟨z1,z2,z3,z4,z5,z6,z7⟩:=h1;unfold BY;refine wi ?_ ?_<;>intro c1
 ·exact ai<|cJ om
 refine bu (λ(g1:Int)=>0<=g1/\(∀j:Nat,(j:Int)<g1->He b_.bj.length (x_.bO.getD j bW))) (λ(g1:Int)=>(x_.bO.length - g1).toNat) ?_ ?_
 ·intro ab g1 cN bQ;obtain⟨cz,bB⟩:=cN;unfold HV;refine wi ?_ ?_<;>intro c2
  ·refine wn<|wi ?_ ?_<;>intro c3
   ·exact ai (aG om (cJ ⟨g1.toNat,om,λ⟨_,_,_,_,_⟩=>by omega⟩))
   refine wn<|bQ _ ?_ ?_
   ·(refine⟨ob,cM bB cz ⟨om,om,om,om,om⟩⟩)
   exact ob
  refine bu (λ(g2:Int)=>0<=g2/\(∀j:Nat,(j:Int)<g2->WQ b_.aX.length (x_.dq.getD j cw))) (λ(g2:Int)=>(x_.dq.length - g2).toNat) ?_ ?_
  ·intro cy g2 jK mo;obtain⟨mO,fH⟩:=jK;unfold Fi;refine wi ?_ ?_<;>intro c4
   ·refine wn<|wi ?_ ?_<;>intro c5
    ·exact ai (aG om (aG (dM bB om) (cJ ⟨g2.toNat,om,λ⟨_,_,_,_,_,_,_⟩=>by omega⟩)))
    refine wn<|mo _ ?_ ?_
    ·(refine⟨ob,cM fH mO ⟨om,om,om,om,om,om,om⟩⟩)
    exact ob
   refine bu (λ(g3:Int)=>0<=g3/\(∀j:Nat,(j:Int)<g3->F0 (x_.aj.getD j ByteArray.empty))) (λ(g3:Int)=>(x_.aj.length - g3).toNat) ?_ ?_
   ·intro l8 g3 SB SC;obtain⟨MI,mq⟩:=SB;unfold Fh;refine wi ?_ ?_<;>intro c6
    ·refine wn<|ar (tY) λ v3 hv3=>?_;apply br<;>intro c7
     ·have Jk:=c7;have c7:=cG c7;exact ai (aG om (aG (dM bB om) (aG (dM fH om) (cJ ⟨g3.toNat,om,λ h=>by simp[hv3.2 h]at Jk⟩))))
     have Jk:=c7;have c7:=cG c7;refine wn<|SC _ ?_ ?_
     ·(refine⟨ob,cM mq MI (hv3.1 (by simpa using Jk))⟩)
     exact ob
    refine bu (λ(g4:Int)=>0<=g4/\(∀j:Nat,(j:Int)<g4->0<=x_.bc.getD j 0/\x_.bc.getD j 0<b_.bc.length)) (λ(g4:Int)=>(x_.bc.length - g4).toNat) ?_ ?_
    ·intro eE g4 zU yt;obtain⟨qF,jf⟩:=zU;unfold Fg;refine wi ?_ ?_<;>intro c8
     ·refine wn<|wi ?_ ?_<;>intro c9
      ·exact ai (aG om (aG (dM bB om) (aG (dM fH om) (aG (dM mq om) (cJ ⟨g4.toNat,om,om⟩)))))
      refine wn<|yt _ ?_ ?_
      ·(refine⟨ob,cM jf qF om⟩)
      exact ob
     refine wi ?_ ?_<;>intro c10
     ·exact ai (aG om (aG (dM bB om) (aG (dM fH om) (aG (dM mq om) (aG (dM jf om) (cJ om))))))
     refine bu (λ(g5:Int)=>0<=g5/\(∀j:Nat,(j:Int)<g5->0<=x_.bM.getD j 0/\x_.bM.getD j 0<(l_.length:Int))) (λ(g5:Int)=>(x_.bM.length - g5).toNat) ?_ ?_
     ·intro jX g5 Lr Ls;obtain⟨Ib,xR⟩:=Lr;unfold Ff;refine wi ?_ ?_<;>intro c11
      ·refine wn<|wi ?_ ?_<;>intro c12
       ·exact ai (aG om (aG (dM bB om) (aG (dM fH om) (aG (dM mq om) (aG (dM jf om) (aG om (cJ ⟨g5.toNat,om,om⟩)))))))
       refine wn<|Ls _ ?_ ?_
       ·(refine⟨ob,cM xR Ib om⟩)
       exact ob
      refine bu (λ(g6:Int)=>1<=g6/\(∀j:Nat,(j:Int)<g6->1<=j->x_.bM.getD (j - 1) 0<x_.bM.getD j 0)) (λ(g6:Int)=>(x_.bM.length - g6).toNat) ?_ ?_
      ·intro fL g6 FU Cm;obtain⟨DL,qG⟩:=FU;unfold Fe;refine wi ?_ ?_<;>intro c13
       ·refine wm<|wn ?_;refine wi ?_ ?_<;>intro c14
        ·exact ai (aG om (aG (dM bB om) (aG (dM fH om) (aG (dM mq om) (aG (dM jf om) (aG om (aG (dM xR om) (cJ ⟨g6.toNat,om,om,by rw[show g6.toNat - 1=(g6 - 1).toNat by omega];omega⟩))))))))
        refine wn<|Cm _ ?_ ?_
        ·(refine⟨ob,λ j h1 h2=>?_⟩;by_cases q:(j:Int)<g6;(exact qG j q h2);(have e:j=g6.toNat:=by omega);subst e;rw[show g6.toNat - 1=(g6 - 1).toNat by omega];omega)
        exact ob
       exact ai (aG om (aG (dM bB om) (aG (dM fH om) (aG (dM mq om) (aG (dM jf om) (aG om (aG (dM xR om) (aG (zY qG om) (rfl)))))))))
      (refine⟨ob,λ j h1 h2=>by omega⟩)
     exact aqo
    exact aqo
   exact aqo
  exact aqo
 exact aqo
def z8 (h1:xQ b_) (h2:∀g∈b_.aM.ax,g.bH.length<=2000000/\g.aj.length<=2000000) (h3:Ck l_):W (tp b_ l_) (λ r=>jr b_ l_ r):=by
 obtain⟨w1,w2⟩:=h3;unfold tp;refine ar (Pn h1 h2) λ v1 hv1=>?_;refine wi ?_ ?_<;>intro c1
 ·exact ai<|zW hv1 c1
 refine wi ?_ ?_<;>intro c2
 ·exact ai<|gZ (c1 ▸ hv1) (cJ c2)
 refine bu (λ(g1:Int)=>0<=g1/\(∀j:Nat,(j:Int)<g1->NdE b_ (l_.getD j bb) l_.length 0)) (λ(g1:Int)=>(l_.length - g1).toNat) ?_ ?_
 ·intro ab g1 cN bQ;obtain⟨cz,bB⟩:=cN;unfold HL;refine wi ?_ ?_<;>intro c3
  ·have hw:=w2 _ (getD_in (i:=g1.toNat) bb om);refine wn<|ar (Qs ob ob ob ob ob) λ v4 hv4=>?_;refine wi ?_ ?_<;>intro c4
   ·exact ai<|gZ (c1 ▸ hv1) (aG om (zX (i:=g1.toNat) om (λ k hk=>bB k om) hv4 c4))
   refine wn<|bQ _ ?_ ?_
   ·(refine⟨ob,cM bB cz (by rw[c4]at hv4;exact hv4)⟩)
   exact ob
  exact ai<|gZ (c1 ▸ hv1) (aG om (Co λ k hk=>bB k om))
 exact aqo
def tZ (h1:xQ b_) (h2:∀g∈b_.aM.ax,g.bH.length<=2000000/\g.aj.length<=2000000) (h3:Ck l_):W (lP b_ l_) (λ r=>jr b_ l_ r):=by
 obtain⟨w1,w2⟩:=h3;unfold lP;refine ar (Po h1 h2) λ v1 hv1=>?_;refine wi ?_ ?_<;>intro c1
 ·exact ai<|zW hv1 c1
 refine wi ?_ ?_<;>intro c2
 ·exact ai<|gZ (c1 ▸ hv1) (cJ c2)
 refine bu (λ(g1:Int)=>0<=g1/\(∀j:Nat,(j:Int)<g1->NdE b_ (l_.getD j bb) l_.length 0)) (λ(g1:Int)=>(l_.length - g1).toNat) ?_ ?_
 ·intro ab g1 cN bQ;obtain⟨cz,bB⟩:=cN;unfold HW;refine wi ?_ ?_<;>intro c3
  ·have hw:=w2 _ (getD_in (i:=g1.toNat) bb om);refine wn<|ar (Qt ob ob ob ob) λ v4 hv4=>?_;refine wi ?_ ?_<;>intro c4
   ·exact ai<|gZ (c1 ▸ hv1) (aG om (zX (i:=g1.toNat) om (λ k hk=>bB k om) hv4 c4))
   refine wn<|bQ _ ?_ ?_
   ·(refine⟨ob,cM bB cz (by rw[c4]at hv4;exact hv4)⟩)
   exact ob
  exact ai<|gZ (c1 ▸ hv1) (aG om (Co λ k hk=>bB k om))
 exact aqo
variable {s_:dN}
def F4 (h1:Pb s_):W (mH s_) (λ r=>(r=true↔qN s_.cb s_.aO/\Zs s_.bm s_.cb s_.aU)):=by
 obtain⟨⟨s1,s2,s3,s4,s5,s6,s7⟩,v_,n1,n2,⟨n3,n4⟩,m1,⟨z1,z2,z3,z4,z5,z6⟩⟩:=h1;have hch:∀i,i<s_.bm.bj.length->(s_.bm.bj.getD i az).aE.length<=2000000:=s2;unfold mH;refine ar (xY ob ob) λ v1 hv1=>?_;apply br<;>intro c1
 ·have dc:=c1;have c1:=cG c1;refine ai ?_;(constructor;(intro e;cases e);(rintro ⟨a,⟨b1,b2,b3,b4,b5⟩,_⟩;rw[hv1.2 a]at dc;simp only[aj1,anU,aiG,bne_iff_ne]at dc;omega))
 have dc:=c1;have c1:=cG c1;have hm:=hv1.1 (by simp only[afr]at dc;simpa using dc.1.1.1.1.1);have hl:(s_.aU.Setting.length:Int)=s_.bm.bj.length:=(by simp only[afr]at dc;simpa using dc.1.1.1.1.2);refine bu (λ(g1:Int)=>0<=g1/\(∀j:Nat,(j:Int)<g1->0<=s_.aU.Setting.getD j 0/\s_.aU.Setting.getD j 0<(s_.bm.bj.getD j az).aE.length)) (λ(g1:Int)=>(s_.bm.bj.length - g1).toNat) ?_ ?_
 ·intro ab g1 cN bQ;obtain⟨cz,bB⟩:=cN;unfold ur;refine wi ?_ ?_<;>intro c2
  ·have hq:=hch g1.toNat om;refine wm<|wn ?_;refine ar (jA) λ v4 hv4=>?_;subst v4;refine wi ?_ ?_<;>intro c3
   ·refine ai ?_;(constructor;(intro e;cases e);(rintro ⟨_,_,a,_⟩;have:=a g1.toNat om;omega))
   refine wn<|bQ _ ?_ ?_
   ·(refine⟨ob,cM bB cz om⟩)
   exact ob
  refine bu (λ(g2:Int)=>0<=g2/\(∀j:Nat,(j:Int)<g2 -> -1<=(s_.aU.Uses.getD j aL).dE/\(s_.aU.Uses.getD j aL).dE<s_.cb.length)) (λ(g2:Int)=>(s_.aU.Uses.length - g2).toNat) ?_ ?_
  ·intro cy g2 jK mo;obtain⟨mO,fH⟩:=jK;unfold sS;refine wi ?_ ?_<;>intro c4
   ·refine wm<|ar (jA) λ v7 hv7=>?_;subst v7;refine wi ?_ ?_<;>intro c5
    ·refine ai ?_;(constructor;(intro e;cases e);(rintro ⟨_,_,_,a⟩;have:=a g2.toNat om;omega))
    refine wn<|mo _ ?_ ?_
    ·(refine⟨ob,cM fH mO om⟩)
    exact ob
   refine ai ?_;(constructor;(intro _;exact⟨hm,⟨om,om,om,om,om⟩,λ i hi=>bB i om,λ i hi=>fH i om⟩);(intro _;rfl))
  exact aqo
 exact aqo
variable {g_:ak}
def M8 (h1:xQ b_) (h2:l_.length<=2000000) (h3:ka g_):W (wA b_ l_ g_) (λ r=>r=true↔Zs b_ l_ g_):=by
 obtain⟨s1,s2,s3,s4,s5,s6,s7⟩:=h1;obtain⟨z1,z2,z3,z4,z5,z6⟩:=h3;unfold wA;refine wi ?_ ?_<;>intro c1
 ·refine ai ?_;(constructor;(intro e;cases e);(rintro ⟨⟨b1,b2,b3,b4,b5⟩,_⟩;omega))
 refine bu (λ(g1:Int)=>0<=g1/\(∀j:Nat,(j:Int)<g1->0<=g_.Setting.getD j 0/\g_.Setting.getD j 0<(b_.bj.getD j az).aE.length)) (λ(g1:Int)=>(g_.Setting.length - g1).toNat) ?_ ?_
 ·intro ab g1 cN bQ;obtain⟨cz,bB⟩:=cN;unfold Dr;refine wi ?_ ?_<;>intro c2
  ·refine wm<|wn ?_;refine wi ?_ ?_<;>intro c3
   ·refine ai ?_;(constructor;(intro e;cases e);(rintro ⟨_,a,_⟩;have:=a g1.toNat om;omega))
   refine wn<|bQ _ ?_ ?_
   ·(refine⟨ob,cM bB cz om⟩)
   exact ob
  refine bu (λ(g2:Int)=>0<=g2/\(∀j:Nat,(j:Int)<g2 -> -1<=(g_.Uses.getD j aL).dE/\(g_.Uses.getD j aL).dE<l_.length)) (λ(g2:Int)=>(g_.Uses.length - g2).toNat) ?_ ?_
  ·intro cy g2 jK mo;obtain⟨mO,fH⟩:=jK;unfold Dq;refine wi ?_ ?_<;>intro c4
   ·refine wm<|wi ?_ ?_<;>intro c5
    ·refine ai ?_;(constructor;(intro e;cases e);(rintro ⟨_,_,a⟩;have:=a g2.toNat om;omega))
    refine wn<|mo _ ?_ ?_
    ·(refine⟨ob,cM fH mO om⟩)
    exact ob
   refine ai ?_;(constructor;(intro _;exact⟨⟨om,om,om,om,om⟩,λ i hi=>bB i om,λ i hi=>fH i om⟩);(intro _;rfl))
  exact aqo
 exact aqo
variable {l:apY} {s:apU}
def aeB (hf:Qb l) (hs:gQ l s=true) {x:aP} (h0:0<=x.cF) (h1:x.cF<l.length):Pe (H7 l s) x=FI (dx l s) x:=by
 obtain⟨e1,e2,_,_⟩:=Ce hf hs x.cF.toNat om;unfold Pe FI;rw[e1,e2,Bool.not_not]
def aeC (hf:Qb l) (hs:gQ l s=true):Zn l (H7 l s)=ownB l (dx l s):=by
 unfold Zn ownB;have:∀i∈List.range l.length,(!ab2 (H7 l s).1 (H7 l s).2 l i)=(!WE ((dx l s).getD i cD) (l.getD i az)):=λ i hi=>by
  obtain⟨e1,e2,_,_⟩:=Ce hf hs i (by simpa using hi);unfold ab2 WE;rw[e1,e2]
 rw[aoS,ajL,ajL];exact⟨λ h i hi=>by rw[<- this i hi];exact h i hi,λ h i hi=>by rw[this i hi];exact h i hi⟩
variable {α:Type}
def any_congr {l:List α} {p q:α->Bool} (h:∀x∈l,p x=q x):l.any p=l.any q:=by
 rw[aoS,ai7,ai7];exact⟨λ⟨x,h1,h2⟩=>⟨x,h1,by rw[<- h x h1];exact h2⟩,λ⟨x,h1,h2⟩=>⟨x,h1,by rw[h x h1];exact h2⟩⟩
def IU {m:ap4} (h1:iL l m=true) (h2:gQ l s=true):cK l s m=FZ l s m:=by
 obtain⟨hck,hml,hmb⟩:=xK h1;have hf:=nY hck;unfold cK FZ;rw[h1,h2,aeC hf h2,any_congr λ x hx=>aeB hf h2 (FJ (A6 h1 x hx)).1.1 (FJ (A6 h1 x hx)).1.2,Bool.and_comm (!_)];rfl
def Lv {l_:apY} {s_:apU} (h1:l_.length<=2000000) (h2:s_.length<=2000000) (h3:P9 l_):W (tQ l_ s_) (λ r=>r=((cB l_==0)&&gQ l_ s_)):=by
 unfold tQ;refine ar (tV ob) λ v1 hv1=>?_;subst v1;apply br<;>intro c1
 ·have dc:=c1;have c1:=cG c1;refine ai ?_;(rcases Bool.or_eq_true_iff.1 dc with c | c;(rw[show(cB l_==0)=false by simpa using c];rfl);(unfold gQ;rw[show((s_.length:Int)==(l_.length:Int))=false by simpa using c];simp))
 have dc:=c1;have c1:=cG c1;have he:((s_.length:Int)==(l_.length:Int))=true:=(by have:=(afr.1 dc).2;simpa using this);have hc0:(cB l_==0)=true:=(by have:=(afr.1 dc).1;simpa using this);refine bu (λ(g1:Int)=>0<=g1/\g1<=l_.length/\(∀j:Nat,(j:Int)<g1->cn (s_.getD j 0) 0 ((l_.getD j az).aE.length - 1)=true)) (λ(g1:Int)=>(l_.length - g1).toNat) ?_ ?_
 ·intro ab g1 cN bQ;obtain⟨cz,bB,bA⟩:=cN;unfold AS;refine wi ?_ ?_<;>intro c2
  ·have hch:=h3 g1.toNat om;refine wm<|wn ?_;refine wi ?_ ?_<;>intro c3
   ·refine ai ?_;(unfold gQ;rw[he,nu (i:=g1.toNat) om (by unfold cn;rw[aiI,aie,aie];omega)];simp)
   refine wn<|bQ _ ?_ ?_
   ·(refine⟨ob,ob,cM bA cz (by unfold cn;rw[aeP,ahQ,ahQ];omega)⟩)
   exact ob
  refine ai ?_;(unfold gQ;rw[he,hc0,oZ λ j hj=>bA j om];rfl)
 (refine⟨ob,ob,λ j hj=>by omega⟩)
def xZ {l_:apY} {s_:apU} {m_:ap4} (h1:l_.length<=2000000) (h2:s_.length<=2000000) (h3:m_.length<=2000000) (h4:P9 l_):W (uK l_ s_ m_) (λ r=>r=cK l_ s_ m_):=by
 unfold uK;refine ar (Lv ob ob ob) λ v1 hv1=>?_;subst v1;refine ar (dT λ hc=>iU (FV ob ob)) λ v2 hv2=>?_;subst v2;apply br<;>intro c1
 ·have dc:=c1;have c1:=cG c1;refine ai ?_;(unfold cK;rcases Bool.or_eq_true_iff.1 dc with c | c;(simp only[ahA,aiI,ajP]at c;rcases c with c | c;(rw[show iL l_ m_=false by(unfold iL;rw[show(cB l_==0)=false by simpa using c];rfl)];rfl);(rw[c,Bool.and_false];rfl));(rw[show iL l_ m_=false by simpa using c];rfl))
 have dc:=c1;have c1:=cG c1;have hss:gQ l_ s_=true:=(by have:=(afr.1 dc).1;simp only[ahS,aeP]at this;exact this.2);have hlm:iL l_ m_=true:=(by have:=(afr.1 dc).2;simpa using this);obtain⟨hck,hml,hmb⟩:=xK hlm;have hst:=GV l_ s_ l_.length;refine ar (FY (JU (nY hck) hss) (abF (nY hck) hss)) λ v3 hv3=>?_;subst v3;have hs1:(H7 l_ s_).1.length=l_.length:=hst.1;have hs2:(H7 l_ s_).2.length=l_.length:=hst.2;refine bu (λ(g1:Int)=>0<=g1/\g1<=m_.length/\(m_.drop g1.toNat).any (Pe (H7 l_ s_))=m_.any (Pe (H7 l_ s_))) (λ(g1:Int)=>(m_.length - g1).toNat) ?_ ?_
 ·intro ab g1 cN bQ;obtain⟨cz,bB,bA⟩:=cN;unfold Ft;refine wi ?_ ?_<;>intro c2
  ·have hlt:g1.toNat<m_.length:=om;have hx:=(FJ (A6 hlm _ (getD_in (i:=g1.toNat) bW hlt))).1;rw[drop_cons bW hlt,akp]at bA;refine wm<|wn ?_;refine ar (dT λ hc=>iU (xT)) λ v6 hv6=>?_;subst v6;apply br<;>intro c3
   ·have fM:=c3;have c3:=cG c3;refine ai ?_;(rw[IU hlm hss];unfold FZ;rw[<- bA,show Pe (H7 l_ s_) (m_.getD g1.toNat bW)=true from fM];rfl)
   have fM:=c3;have c3:=cG c3;refine wn<|bQ _ ?_ ?_
   ·(refine⟨ob,ob,?_⟩;rw[<- bA,show Pe (H7 l_ s_) (m_.getD g1.toNat bW)=false from fM,show(g1+1).toNat=g1.toNat+1 by omega];rfl)
   exact ob
  refine ar (MH ob ob ob) λ v7 hv7=>?_;subst v7;refine ai ?_;(rw[IU hlm hss];unfold FZ;rw[<- bA,show g1.toNat=m_.length by omega,ai8];rfl)
 (refine⟨ob,ob,rfl⟩)
def wM.v {p:bq} (h:wM p 0):U0 p:=by
 obtain⟨h1,h2⟩:=o8 (by decide) h;obtain⟨h3,h4⟩:=o8 (by decide) h2;have h5:=ab8 h4;have hg:∀i:Nat,(i:Int)<p.ax.length->GpV p.bH (p.ax.getD i ay)/\∀k:Nat,k<i->(p.ax.getD k ay).qW.toList≠(p.ax.getD i ay).qW.toList:=λ i hi=>by
  obtain⟨a1,a2⟩:=o8 (by decide) (h5 i om);obtain⟨b1,b2⟩:=o8 (by decide) a2;obtain⟨c1,c2⟩:=o8 (by decide) b2;obtain⟨d1,d2⟩:=o8 (by decide) c2;obtain⟨e1,e2⟩:=o8 (by decide) d2;obtain⟨f1,f2⟩:=o8 (by decide) e2;obtain⟨k1,k2⟩:=o8 (by decide) f2;obtain⟨l1,_⟩:=o8 (by decide) k2;refine⟨⟨⟨om,om,iN 0 λ j hj=>?_⟩,ahR.1 a1,λ k hk hl=>?_,λ j hj=>?_,λ k j hj hk e=>l1 ⟨k,j,hj,hk,e⟩⟩,λ k hk e=>b1 ⟨k,hk,e⟩⟩
  ·exact akC λ q=>e1 ⟨j,om,q⟩
  ·exact akC λ q=>f1 ⟨k,hk,hl,om⟩
  exact akC λ q=>k1 ⟨j,hj,q⟩
 exact⟨⟨om,om,iN ay λ i hi=>(hg i om).1.ok⟩,λ i hi=>(hg i hi).1,λ i k hk hi=>(hg i hi).2 k hk⟩
def ahg (p:bq) (l:aqb) (i:Nat):Prop:=FT p (l.getD i di)/\(∀k:Nat,k<i->(l.getD k di).aZ≠(l.getD i di).aZ)/\
 ∀k:Nat,k<i->∀a b:Nat,(a:Int)<(p.ax.getD (l.getD k di).aZ.toNat ay).bH.length->(b:Int)<(p.ax.getD (l.getD i di).aZ.toNat ay).bH.length->(p.ax.getD (l.getD k di).aZ.toNat ay).bH.getD a 0≠(p.ax.getD (l.getD i di).aZ.toNat ay).bH.getD b 0
def sP (p:bq) (l:aqb):Prop:=∀i:Nat,(i:Int)<l.length->ahg p l i
def Pp {p_:bq} {l_:aqb} (h1:∀g∈p_.ax,g.bH.length<=2000000/\g.aj.length<=2000000) (h2:l_.length<=2000000):W (yN p_ l_) (λ r=>(r.2=0↔wM p_ 0/\sP p_ l_)):=by
 unfold yN;refine bu (λ(g1:(Int×(Nat->Int)×(Nat->Int)))=>0<=g1.1/\(∀x:Nat,(x:Int)<g1.1->g1.2.2 x = -1)) (λ(g1:(Int×(Nat->Int)×(Nat->Int)))=>(64 - g1.1).toNat) ?_ ?_
 ·intro ab g1 cN bQ;obtain⟨cz,bB⟩:=cN;unfold EU;refine wi ?_ ?_<;>intro c1
  ·refine wm<|bQ _ ?_ ?_
   ·(refine⟨ob,λ x hx=>?_⟩;dsimp only at hx ⊢;by_cases q:x=g1.1.toNat;(rw[q,Ey]);(rw[upd_ne q];exact bB x om))
   exact ob
  refine ar (Ih h1) λ v1 hv1=>?_;refine wi ?_ ?_<;>intro c2
  ·refine ai ?_;(refine⟨λ e=>by(try dsimp only at e);omega,λ⟨a,_⟩=>absurd (wM.fun _ _ hv1 a) c2⟩)
  have hpa:wM p_ 0:=(by rw[c2]at hv1;exact hv1);have hpv:=hpa.v;obtain⟨⟨p1,p2,p3⟩,gr,nm⟩:=id hpv;refine wn<|bu (λ(g2:(Int×(Nat->Int)×apV))=>0<=g2.1/\g2.2.2.length=p_.ax.length/\(∀x:Nat,x<64->(0<=g2.2.1 x↔∃j:Nat,(j:Int)<g2.1/\∃k:Nat,(k:Int)<(p_.ax.getD (l_.getD j di).aZ.toNat ay).bH.length/\(p_.ax.getD (l_.getD j di).aZ.toNat ay).bH.getD k 0=x))/\(∀x:Nat,g2.2.2.getD x false=true↔∃j:Nat,(j:Int)<g2.1/\(l_.getD j di).aZ=x)/\(∀i:Nat,(i:Int)<g2.1->ahg p_ l_ i)) (λ(g2:(Int×(Nat->Int)×apV))=>(l_.length - g2.1).toNat) ?_ ?_
  ·intro cy g2 jK mo;obtain⟨mO,fH,jB,vM,Ii⟩:=jK;unfold CW;refine wi ?_ ?_<;>intro c3
   ·refine wm<|wi ?_ ?_<;>intro c4
    ·refine ai ?_;(refine⟨λ e=>by(try dsimp only at e);omega,λ⟨_,h⟩=>?_⟩;obtain⟨⟨u1,u2,u3,u4⟩,_⟩:=h g2.1.toNat om;omega)
    have hu:FT p_ (l_.getD g2.1.toNat di):=⟨om,om,om,om⟩;obtain⟨u1,u2,u3,u4⟩:=id hu;refine wn<|br ?_ ?_<;>intro c5
    ·have sN:=c5;have c5:=cG c5;refine ai ?_;(refine⟨λ e=>by(try dsimp only at e);omega,λ⟨_,h⟩=>?_⟩;obtain⟨_,hd,_⟩:=h g2.1.toNat om;obtain⟨j,e3,e4⟩:=(vM _).1 sN;exact absurd e4 (λ e4=>hd j om om))
    have sN:=c5;have c5:=cG c5;refine wm<|bu (λ(g5:(Int×(Nat->Int)×apV))=>0<=g5.1/\g5.1<=(p_.ax.getD (l_.getD g2.1.toNat di).aZ.toNat ay).bH.length/\g5.2.2.length=p_.ax.length/\(∀x:Nat,x<64->(0<=g5.2.1 x↔(∃j:Nat,(j:Int)<g2.1/\∃k:Nat,(k:Int)<(p_.ax.getD (l_.getD j di).aZ.toNat ay).bH.length/\(p_.ax.getD (l_.getD j di).aZ.toNat ay).bH.getD k 0=x)\/∃k:Nat,(k:Int)<g5.1/\(p_.ax.getD (l_.getD g2.1.toNat di).aZ.toNat ay).bH.getD k 0=x))/\(∀x:Nat,g5.2.2.getD x false=true↔∃j:Nat,(j:Int)<g2.1+1/\(l_.getD j di).aZ=x)/\(∀b:Nat,(b:Int)<g5.1->∀j:Nat,(j:Int)<g2.1->∀a:Nat,(a:Int)<(p_.ax.getD (l_.getD j di).aZ.toNat ay).bH.length->(p_.ax.getD (l_.getD j di).aZ.toNat ay).bH.getD a 0≠(p_.ax.getD (l_.getD g2.1.toNat di).aZ.toNat ay).bH.getD b 0)) (λ(g5:(Int×(Nat->Int)×apV))=>((p_.ax.getD (l_.getD g2.1.toNat di).aZ.toNat ay).bH.length - g5.1).toNat) ?_ ?_
    ·intro jX g5 Lr Ls;obtain⟨Ib,xR,DK,Pq,U3,afy⟩:=Lr;unfold CV;refine wi ?_ ?_<;>intro c6
     ·have hmg:=getD_in (l:=p_.ax) (i:=(l_.getD g2.1.toNat di).aZ.toNat) ay om;have hgl:=(h1 _ hmg).1;have hpn:=(p3 _ hmg).pn _ (getD_in (i:=g5.1.toNat) 0 om);refine wm<|wi ?_ ?_<;>intro c7
      ·refine ai ?_;(refine⟨λ e=>by(try dsimp only at e);omega,λ⟨_,h⟩=>?_⟩;obtain⟨_,_,hd⟩:=h g2.1.toNat om;exfalso;rcases(Pq _ om).1 c7 with⟨j,e3,k,e5,e6⟩ | ⟨k,e5,e6⟩;(exact hd j om k g5.1.toNat e5 om (by rw[e6];omega));(have:=J6 hpv u1 u2 k g5.1.toNat om om;omega))
      refine wm<|Ls _ ?_ ?_
      ·(refine⟨ob,ob,ob,λ x hx=>?_,U3,λ b hb j hj a ha=>?_⟩;(dsimp only;by_cases q:x=((p_.ax.getD (l_.getD g2.1.toNat di).aZ.toNat ay).bH.getD g5.1.toNat 0).toNat;(rw[q,Ey];constructor;(intro _;exact .inr ⟨g5.1.toNat,om,om⟩);(intro _;omega));(rw[upd_ne q,Pq x hx];constructor;(rintro (h | ⟨k,e5,e6⟩);(exact .inl h);(exact .inr ⟨k,om,e6⟩));(rintro (h | ⟨k,e5,e6⟩);(exact .inl h);(refine .inr ⟨k,?_,e6⟩;by_cases e:(k:Int)<g5.1;(exact e);exfalso;apply q;rw[show g5.1.toNat=k by omega];omega))));(by_cases q:(b:Int)<g5.1;(exact afy b q j hj a ha);(have e:b=g5.1.toNat:=by(try dsimp only at hb);omega);subst e;intro e7;have e8:=(Pq ((p_.ax.getD (l_.getD g2.1.toNat di).aZ.toNat ay).bH.getD g5.1.toNat 0).toNat om).2 (.inl ⟨j,hj,a,ha,by rw[e7];omega⟩);omega))
      exact ob
     refine wn<|mo _ ?_ ?_
     ·(refine⟨ob,DK,λ x hx=>?_,λ x=>U3 x,cM Ii mO ⟨hu,λ k hk e=>?_,λ k hk a b ha hb=>afy b om k om a ha⟩⟩;(dsimp only;rw[Pq x hx];constructor;(rintro (⟨j,e3,e⟩ | ⟨k,e5,e6⟩);(exact⟨j,om,e⟩);(exact⟨g2.1.toNat,om,k,om,e6⟩));(rintro ⟨j,e3,k,e5,e6⟩;by_cases q:(j:Int)<g2.1;(exact .inl ⟨j,q,k,e5,e6⟩);(have e:j=g2.1.toNat:=by omega);subst e;exact .inr ⟨k,om,e6⟩));(rw[(vM _).2 ⟨k,om,om⟩]at c5;cases c5))
     exact ob
    (refine⟨ob,ob,ob,λ x hx=>⟨λ h=>.inl ((jB x hx).1 h),?_⟩,λ x=>?_,λ b hb=>?_⟩;(rintro (h | ⟨k,e5,_⟩);(exact(jB x hx).2 h);(exfalso;(try dsimp only at e5);omega));(dsimp only;by_cases q:x=(l_.getD g2.1.toNat di).aZ.toNat;(rw[q,J4 om];exact⟨λ _=>⟨g2.1.toNat,om,om⟩,λ _=>rfl⟩);(rw[tX q,vM];constructor;(rintro ⟨j,e3,e4⟩;exact⟨j,om,e4⟩);(rintro ⟨j,e3,e4⟩;refine⟨j,?_,e4⟩;by_cases e:(j:Int)<g2.1;(exact e);exfalso;apply q;rw[show g2.1.toNat=j by omega];omega)));(exfalso;(try dsimp only at hb);omega))
   refine ai ?_;(refine⟨λ _=>⟨hpa,λ i hi=>Ii i om⟩,λ _=>rfl⟩)
  (refine⟨ob,by simp,λ x hx=>⟨λ h=>?_,λ⟨j,e,_⟩=>?_⟩,λ x=>⟨λ hx=>?_,λ⟨j,e,_⟩=>?_⟩,λ j hj=>?_⟩;(exfalso;have:=bB x om;(try dsimp only at h);omega);(exfalso;(try dsimp only at e);omega);(exfalso;dsimp only at hx;rw[ad7,aoj]at hx;split at hx<;>simp at hx);(exfalso;(try dsimp only at e);omega);(exfalso;(try dsimp only at hj);omega))
 exact aqo
structure NdV (b:aI) (k:Int) (n:aC):Prop where
 ok:ag7 b n
 fw:∀j:Nat,(j:Int)<n.aj.length->F0 (n.aj.getD j ByteArray.empty)
 pr:∀x∈n.bM,0<=x/\x<k
 ps:∀k:Nat,1<=k->(k:Int)<n.bM.length->n.bM.getD (k - 1) 0<n.bM.getD k 0
def al5 (l:apU):Prop:=∀k j:Nat,j<k->(k:Int)<l.length->l.getD j 0≠l.getD k 0
def ZO (p:bq) (u:ee):ByteArray:=((p.ax.getD u.aZ.toNat ay).aj.getD u.bD.toNat ByteArray.empty)
def Bb (p:bq) (us:apZ) (m:Int) (f:ByteArray):Nat:=us.countP λ u=>(u.dE==m)&&decide (ZO p u.cX=f)
def cntF (l:ap6) (f:ByteArray):Nat:=l.countP λ x=>decide (x=f)
variable {f:ByteArray}
def Bc {p:bq} {us:apZ} {u:ah} {m:Int} :Bb p (us++[u]) m f=Bb p us m f+(if u.dE=m/\ZO p u.cX=f then 1 else 0):=by
 unfold Bb;rw[anP,ape];congr 1;simp only[aeP,ajZ,ahQ]
def GZ {l:ap6} {x:ByteArray} :cntF (l++[x]) f=cntF l f+(if x=f then 1 else 0):=by
 unfold cntF;rw[anP,ape];congr 1;simp only[ahQ]
def Zt {l:ap6} (k:Nat):cntF (l.take k) f<=cntF l f:=by
 unfold cntF;conv=>rhs;rw[<- List.take_append_drop k l]
 rw[anP];omega
def Pr (h1:cB l=0) (h2:gQ l s=true):(vm l s).2=0:=by
 unfold vm;rw[h1,h2];rfl
def ai9 (r:bx) (x:aP):Prop:=r.ga≠0/\r.ga<=x.cY*r.fx/\x.ij*r.fx<=r.ga
structure apu (s:dN):Prop where
 sc:Pb s
 sh:WR s
 bv:BdV s.bm
 dst:al5 s.aO
 st:∀i:Nat,(i:Int)<s.bm.bj.length->0<=s.aU.Setting.getD i 0/\s.aU.Setting.getD i 0<(s.bm.bj.getD i az).aE.length
 us:∀u∈s.aU.Uses,-1<=u.dE/\u.dE<s.cb.length
 sb:gQ s.bm.bj s.aU.Setting=true
 mt:cK s.bm.bj s.aU.Setting []=true
 lm:∀m∈s.aO,∀x∈(s.cb.getD m.toNat bb).bO,ai9 ((dx s.bm.bj s.aU.Setting).getD x.cF.toNat cD) x
 dr:Sp.cK s.bm.aX s.aU.aY (s.aO.flatMap λ m=>(s.cb.getD m.toNat bb).dq)=true
 pn:UsV s.bm.aM (s.aU.Uses.map ah.cX)
 fn:∀m∈s.aO,∀f,cntF (s.cb.getD m.toNat bb).aj f<=Bb s.bm.aM s.aU.Uses m f
 rs:ahb s.bm.bc s.aU.Released
 rl:∀m∈s.aO,∀x∈(s.cb.getD m.toNat bb).bc,s.aU.Released.getD x.toNat false=true
 dm:ahc s.bm.bw s.aU.bg
 dl:∀m∈s.aO,0<=(s.cb.getD m.toNat bb).dz->s.aU.bg.getD (s.cb.getD m.toNat bb).dz.toNat false=true
def Re {r:bx} (hv:kp r=true) (h:nv r=false):r.ga≠0:=by
 intro e;obtain⟨_,_,h3,_,h5⟩:=jd hv;rw[e]at h5;unfold fB at h5;rw[show(0:Int).toNat=0 from rfl,Nat.gcd_zero_left]at h5;have:r.fx=1:=by omega
 unfold nv at h;rw[e,this]at h;cases h
def WW {r:bx} {lo hi:Int} (h:mM r lo hi=true):lo*r.fx<=r.ga/\r.ga<=hi*r.fx:=by
 unfold mM at h;simp only[aeP,aiG,ahQ,ajZ]at h;obtain⟨hv,h1,h2⟩:=h;obtain⟨n0,_,d1,_,_⟩:=jd hv;have e:=Int.mul_tdiv_add_tmod r.ga r.fx;have m0:=anR r.fx n0;have m1:=Int.tmod_lt_of_pos r.ga (show 0<r.fx by omega);have e2:r.fx*r.ga.tdiv r.fx=r.ga.tdiv r.fx*r.fx:=Int.mul_comm _ _;have l1:lo*r.fx<=r.ga.tdiv r.fx*r.fx:=anI h1 om;refine⟨om,?_⟩;rcases h2 with h2 | ⟨h2,h3⟩
 ·have l2:(r.ga.tdiv r.fx+1)*r.fx<=hi*r.fx:=anI h2 om;rw[Int.add_mul,Int.one_mul]at l2;omega
 rw[<- h2];omega
def oa {β:Type} {f:α->β} {l:List α} {k:Nat} {d:α} {e:β} (h:k<l.length):(l.map f).getD k e=f (l.getD k d):=by
 rw[ad7,anW,ad7,aeA h];rfl
def XW {l:List α} {j:Nat} {v d:α} (hj:j<l.length):(l.set j v).getD j d=v:=by
 rw[ad7,aj3 hj];rfl
def XX {l:List α} {i j:Nat} {v d:α} (h:i≠j):(l.set j v).getD i d=l.getD i d:=by
 rw[ad7,an1 (Ne.symm h),<- ad7]
def SE {r:bx} (h:r.ga≠0):nv r=false:=by
 unfold nv;rw[show(r.ga==0)=false by simpa using h];rfl
def Ps {r:bx} {lo hi:Int} (hv:kp r=true) (h1:lo*r.fx<=r.ga) (h2:r.ga<=hi*r.fx):mM r lo hi=true:=by
 unfold mM;obtain⟨n0,_,d1,_,_⟩:=jd hv;have e:=Int.mul_tdiv_add_tmod r.ga r.fx;have m0:=anR r.fx n0;have m1:=Int.tmod_lt_of_pos r.ga (show 0<r.fx by omega);have e2:r.fx*r.ga.tdiv r.fx=r.ga.tdiv r.fx*r.fx:=Int.mul_comm _ _;simp only[aeP,aiG,ahQ,ajZ];have q1:lo<=r.ga.tdiv r.fx:=by
  refine anG.1 λ h=>?_;have:(r.ga.tdiv r.fx+1)*r.fx<=lo*r.fx:=anI h om;rw[Int.add_mul,Int.one_mul]at this;omega
 have q2:r.ga.tdiv r.fx<=hi:=by
  refine anG.1 λ h=>?_;have:(hi+1)*r.fx<=r.ga.tdiv r.fx*r.fx:=anI h om;rw[Int.add_mul,Int.one_mul]at this;omega
 refine⟨hv,q1,?_⟩;by_cases q:r.ga.tdiv r.fx<hi
 ·exact .inl q
 have:r.ga.tdiv r.fx=hi:=by omega
 refine .inr ⟨this,?_⟩;rw[this]at e e2;omega
def G0 (h:cK l s []=true):cB l=0/\gQ l s=true/\ownB l (dx l s)=true:=by
 unfold cK at h;simp only[aeP]at h;exact⟨(xK h.1.1).1,h.1.2,h.2.1⟩
def ab9 (r:bx) (x:aP) (bt:Bool):Prop:=r.ga≠0/\r.ga<=x.cY*r.fx/\(bt=false->x.ij*r.fx<=r.ga)
def Rf {k lo hi:Int} (h:cK l s []=true) (k0:0<=k) (k1:k<l.length) (h0:0<=lo) (h1:lo<=hi) (h2:hi<=4000000000):
  cK l s [⟨k,lo,hi⟩]=true↔((dx l s).getD k.toNat cD).ga≠0/\((dx l s).getD k.toNat cD).ga<=hi*((dx l s).getD k.toNat cD).fx/\lo*((dx l s).getD k.toNat cD).fx<=((dx l s).getD k.toNat cD).ga:=by
 obtain⟨c1,c2,c3⟩:=G0 h;have hv:=(Ce (nY c1) c2 k.toNat om).2.2.1;have hb:A4 (l.length:Int) ⟨k,lo,hi⟩=false:=by
  unfold A4 cn;simp only[afr,ahS,aeP,ahQ];omega
 have hl:iL l [⟨k,lo,hi⟩]=true:=by
  unfold iL;rw[c1,show List.any [(⟨k,lo,hi⟩:aP)] (A4 l.length)=false by rw[akp,hb];rfl];rfl
 unfold cK;rw[hl,c2,c3];simp only[aj0,akp,List.any_nil,aoC,ahA];unfold FI;dsimp only;constructor
 ·intro e;rw[afr,ahS]at e;obtain⟨w1,w2⟩:=WW e.2;exact⟨Re hv e.1,w2,w1⟩
 rintro ⟨a1,a2,a3⟩;rw[SE a1,Ps hv a3 a2];rfl
def Zu (b:aI) (g:ak) (n:aC) (bt:Bool):Prop:=∀j:Nat,(j:Int)<n.bO.length->ab9 ((dx b.bj g.Setting).getD (n.bO.getD j bW).cF.toNat cD) (n.bO.getD j bW) bt
def Zv (b:aI) (g:ak) (n:aC) (d:Int):Prop:=∀f:ByteArray,cntF n.aj f<=Bb b.aM g.Uses d f
def Zw (g:ak) (n:aC):Prop:=∀j:Nat,(j:Int)<n.bc.length->g.Released.getD (n.bc.getD j 0).toNat false=true
def Zx (g:ak) (n:aC):Prop:=0<=n.dz->g.bg.getD n.dz.toNat false=true
def M9 (l:apW) (ms:apU):ap3:=ms.flatMap λ m=>(l.getD m.toNat bb).dq
def iv {b:Bool} {P:Prop} (h:b=true↔P) (c:b=false):¬P:=λ p=>by rw[h.2 p]at c;cases c
def Pt {p_:bq} {l_:aqb} (h1:∀g∈p_.ax,g.bH.length<=2000000/\g.aj.length<=2000000) (h2:l_.length<=2000000):W (yO p_ l_) (λ r=>(r.2=0↔wM p_ 0/\sP p_ l_)):=by
 unfold yO;refine ar (Pp ob ob) λ v1 hv1=>?_;refine wi ?_ ?_<;>intro c1
 ·exact ai (⟨λ e=>absurd e c1,λ h=>absurd (hv1.2 h) c1⟩)
 obtain⟨p1,_,_⟩:=(hv1.1 c1).1.v.ok;unfold xn;refine wn<|ar (D3 (by simp only[ahW,ao0];omega) om) λ v2 hv2=>?_;subst v2;exact ai (⟨λ _=>hv1.1 c1,λ _=>rfl⟩)
def Na {p_:bq} {l_:aqb} (h1:∀g∈p_.ax,g.bH.length<=2000000/\g.aj.length<=2000000) (h2:l_.length<=2000000):W (wC p_ l_) (λ r=>(r.2=0↔wM p_ 0/\sP p_ l_)):=by
 unfold wC;refine ar (xV h1) λ v1 hv1=>?_;refine wi ?_ ?_<;>intro c1
 ·refine ai ?_;(refine⟨λ e=>by(try dsimp only at e);omega,λ⟨a,_⟩=>absurd (wM.fun _ _ hv1 a) c1⟩)
 have hpa:wM p_ 0:=(by rw[c1]at hv1;exact hv1);have hpv:=hpa.v;obtain⟨⟨p1,p2,p3⟩,gr,nm⟩:=id hpv;refine wn<|bu (λ(g1:Int×apU)=>0<=g1.1/\g1.2.length=p_.bH.toNat/\(∀x:Nat,(x:Int)<g1.1->g1.2.getD x 0 = -1)) (λ(g1:Int×apU)=>(p_.bH - g1.1).toNat) ?_ ?_
 ·intro ab g1 cN bQ;obtain⟨cz,bB,bA⟩:=cN;unfold Du;refine wi ?_ ?_<;>intro c2
  ·refine wm<|bQ _ ?_ ?_
   ·(refine⟨ob,by simp only[afx];exact bB,λ x hx=>?_⟩;dsimp only at hx ⊢;by_cases q:x=g1.1.toNat;(rw[q,XW om]);(rw[XX q];exact bA x om))
   exact ob
  refine bu (λ(g2:Int×apU)=>0<=g2.1/\g2.2.length=p_.bH.toNat/\(∀x:Nat,(x:Int)<p_.bH->(g2.2.getD x 0 ≠ -1↔∃j:Nat,(j:Int)<g2.1/\∃k:Nat,(k:Int)<(p_.ax.getD (l_.getD j di).aZ.toNat ay).bH.length/\(p_.ax.getD (l_.getD j di).aZ.toNat ay).bH.getD k 0=x))/\(∀i:Nat,(i:Int)<g2.1->ahg p_ l_ i)) (λ(g2:Int×apU)=>(l_.length - g2.1).toNat) ?_ ?_
  ·intro cy g2 jK mo;obtain⟨mO,fH,jB,vM⟩:=jK;unfold Dt;refine wi ?_ ?_<;>intro c3
   ·refine wm<|wm ?_;refine wi ?_ ?_<;>intro c4
    ·refine ai ?_;(refine⟨λ e=>by(try dsimp only at e);omega,λ⟨_,h⟩=>?_⟩;obtain⟨⟨u1,u2,u3,u4⟩,_⟩:=h g2.1.toNat om;omega)
    have hu:FT p_ (l_.getD g2.1.toNat di):=⟨om,om,om,om⟩;obtain⟨u1,u2,u3,u4⟩:=id hu;refine bu (λ(g7:Int)=>0<=g7/\(∀k:Nat,(k:Int)<g7->(l_.getD k di).aZ≠(l_.getD g2.1.toNat di).aZ)) (λ(g7:Int)=>(g2.1 - g7).toNat) ?_ ?_
    ·intro ky g7 Pk M3;obtain⟨Pl,vN⟩:=Pk;unfold AU;refine wi ?_ ?_<;>intro c5
     ·refine wn<|wi ?_ ?_<;>intro c6
      ·refine ai ?_;(refine⟨λ e=>by(try dsimp only at e);omega,λ⟨_,h⟩=>?_⟩;obtain⟨_,hd,_⟩:=h g2.1.toNat om;exact absurd c6 (hd g7.toNat om))
      refine wn<|M3 _ ?_ ?_
      ·(refine⟨ob,cM vN Pl c6⟩)
      exact ob
     refine wn<|bu (λ(g8:Int×apU)=>0<=g8.1/\g8.1<=(p_.ax.getD (l_.getD g2.1.toNat di).aZ.toNat ay).bH.length/\g8.2.length=p_.bH.toNat/\(∀x:Nat,(x:Int)<p_.bH->(g8.2.getD x 0 ≠ -1↔(∃j:Nat,(j:Int)<g2.1/\∃k:Nat,(k:Int)<(p_.ax.getD (l_.getD j di).aZ.toNat ay).bH.length/\(p_.ax.getD (l_.getD j di).aZ.toNat ay).bH.getD k 0=x)\/∃k:Nat,(k:Int)<g8.1/\(p_.ax.getD (l_.getD g2.1.toNat di).aZ.toNat ay).bH.getD k 0=x))/\(∀b:Nat,(b:Int)<g8.1->∀j:Nat,(j:Int)<g2.1->∀a:Nat,(a:Int)<(p_.ax.getD (l_.getD j di).aZ.toNat ay).bH.length->(p_.ax.getD (l_.getD j di).aZ.toNat ay).bH.getD a 0≠(p_.ax.getD (l_.getD g2.1.toNat di).aZ.toNat ay).bH.getD b 0)) (λ(g8:Int×apU)=>((p_.ax.getD (l_.getD g2.1.toNat di).aZ.toNat ay).bH.length - g8.1).toNat) ?_ ?_
     ·intro OO g8 ahe ahf;obtain⟨afw,ab7,afz,XY,afA⟩:=ahe;unfold AT;refine wi ?_ ?_<;>intro c7
      ·have hmg:=getD_in (l:=p_.ax) (i:=(l_.getD g2.1.toNat di).aZ.toNat) ay om;have hgl:=(h1 _ hmg).1;have hpn:=(p3 _ hmg).pn _ (getD_in (i:=g8.1.toNat) 0 om);refine wm<|wi ?_ ?_<;>intro c8
       ·refine ai ?_;(refine⟨λ e=>by(try dsimp only at e);omega,λ⟨_,h⟩=>?_⟩;obtain⟨_,_,hd⟩:=h g2.1.toNat om;exfalso;rcases(XY ((p_.ax.getD (l_.getD g2.1.toNat di).aZ.toNat ay).bH.getD g8.1.toNat 0).toNat om).1 c8 with⟨j,e3,k,e5,e6⟩ | ⟨k,e5,e6⟩;(exact hd j om k g8.1.toNat e5 om (by rw[e6];omega));(have:=J6 hpv u1 u2 k g8.1.toNat om om;omega))
       refine wm<|ahf _ ?_ ?_
       ·(refine⟨ob,ob,by simp only[afx];exact afz,λ x hx=>?_,λ b hb j hj a ha=>?_⟩;(dsimp only;by_cases q:x=((p_.ax.getD (l_.getD g2.1.toNat di).aZ.toNat ay).bH.getD g8.1.toNat 0).toNat;(rw[q,XW om];constructor;(intro _;exact .inr ⟨g8.1.toNat,om,om⟩);(intro _;omega));(rw[XX q,XY x hx];constructor;(rintro (h | ⟨k,e5,e6⟩);(exact .inl h);(exact .inr ⟨k,om,e6⟩));(rintro (h | ⟨k,e5,e6⟩);(exact .inl h);(refine .inr ⟨k,?_,e6⟩;by_cases e:(k:Int)<g8.1;(exact e);exfalso;apply q;rw[show g8.1.toNat=k by omega];omega))));(by_cases q:(b:Int)<g8.1;(exact afA b q j hj a ha);(have e:b=g8.1.toNat:=by(try dsimp only at hb);omega);subst e;intro e7;have e8:=(XY ((p_.ax.getD (l_.getD g2.1.toNat di).aZ.toNat ay).bH.getD g8.1.toNat 0).toNat om).2 (.inl ⟨j,hj,a,ha,by rw[e7];omega⟩);omega))
       exact ob
      refine wn<|mo _ ?_ ?_
      ·(refine⟨ob,afz,λ x hx=>?_,cM vM mO ⟨hu,λ k hk e=>vN k om e,λ k hk a b ha hb=>afA b om k om a ha⟩⟩;dsimp only;rw[XY x hx];constructor;(rintro (⟨j,e3,e⟩ | ⟨k,e5,e6⟩);(exact⟨j,om,e⟩);(exact⟨g2.1.toNat,om,k,om,e6⟩));(rintro ⟨j,e3,k,e5,e6⟩;by_cases q:(j:Int)<g2.1;(exact .inl ⟨j,q,k,e5,e6⟩);(have e:j=g2.1.toNat:=by omega);subst e;exact .inr ⟨k,om,e6⟩))
      exact ob
     (refine⟨ob,ob,ob,λ x hx=>⟨λ h=>.inl ((jB x hx).1 h),?_⟩,λ b hb=>?_⟩;(rintro (h | ⟨k,e5,_⟩);(exact(jB x hx).2 h);(exfalso;(try dsimp only at e5);omega));(exfalso;(try dsimp only at hb);omega))
    exact aqo
   refine ai ?_;(refine⟨λ _=>⟨hpa,λ i hi=>vM i om⟩,λ _=>rfl⟩)
  (refine⟨ob,om,λ x hx=>⟨λ h=>?_,λ⟨j,e,_⟩=>?_⟩,λ j hj=>?_⟩;(exact absurd (bA x om) h);(exfalso;(try dsimp only at e);omega);(exfalso;(try dsimp only at hj);omega))
 (refine⟨ob,by simp,λ x hx=>by dsimp only at hx;omega⟩)
def Qu {l_:apZ} (h1:l_.length<=2000000):W (B7 l_) (λ r=>r=l_.map ah.cX):=by
 unfold B7;refine bu (λ(g1:Int×aqb)=>0<=g1.1/\g1.1<=l_.length/\g1.2=(l_.take g1.1.toNat).map ah.cX) (λ(g1:Int×aqb)=>(l_.length - g1.1).toNat) ?_ ?_
 ·intro ab g1 cN bQ;obtain⟨cz,bB,bA⟩:=cN;unfold H3;have hgl:g1.2.length=g1.1.toNat:=(by rw[bA,ahW,afs];omega);refine wi ?_ ?_<;>intro c1
  ·refine wm<|wn ?_;refine bQ _ ?_ ?_
   ·(refine⟨ob,ob,?_⟩;dsimp only;rw[show(g1.1+1).toNat=g1.1.toNat+1 by omega,eI aL om,akj,bA];rfl)
   exact ob
  refine ai ?_;(rw[bA,show g1.1.toNat=l_.length by omega,agt])
 (refine⟨ob,ob,rfl⟩)
def fnG (l:ap6) (j:Nat):ByteArray:=l.getD j ByteArray.empty
def acd {l:ap6} (h:0<cntF l f):∃j:Nat,(j:Int)<l.length/\fnG l j=f:=by
 unfold cntF at h;obtain⟨x,hx,e⟩:=List.countP_pos_iff.1 h;obtain⟨j,hj,rfl⟩:=ahZ.1 hx;exact⟨j,om,by unfold fnG;rw[ad7,aeA hj];simpa using e⟩
def SF {l:apU} {p:Int->Bool}:l.any p=false↔∀j:Nat,(j:Int)<l.length->p (l.getD j 0)=false:=by
 rw[aja];constructor
 ·intro h j hj;have:=h _ (getD_in (i:=j) 0 om);simpa using this
 intro h;have:∀x∈l,p x=false:=iN 0 λ j hj=>h j om;intro x hx;rw[this x hx];decide
def D5 (h1:Pb s_):W (lJ s_) (λ r=>r=cK s_.bm.bj s_.aU.Setting []):=by
 obtain⟨⟨s1,s2,s3,s4,s5,s6,s7⟩,vl_,n1,n2,⟨n3,n4⟩,m1,⟨z1,z2,z3,z4,z5,z6⟩⟩:=h1;unfold lJ;refine ar (Qf ob ob ob ob) λ v1 hv1=>?_;subst v1;refine ai ?_;rfl
def D6 (h1:Pb s_) (h2:WR s_) (h3:cK s_.bm.bj s_.aU.Setting []=true):W (lK s_) (λ r=>r=true↔∀i:Nat,(i:Int)<s_.aO.length->Zu s_.bm s_.aU (s_.cb.getD (s_.aO.getD i 0).toNat bb) s_.fQ):=by
 obtain⟨⟨s1,s2,s3,s4,s5,s6,s7⟩,vl_,n1,n2,⟨n3,n4⟩,m1,⟨z1,z2,z3,z4,z5,z6⟩⟩:=h1;obtain⟨y1,y2,y3,y4,y5,y6⟩:=h2;obtain⟨k1,k2,k3⟩:=G0 h3;unfold lK;refine ar (zS ob ob ob) λ v1 hv1=>?_;subst v1;apply br<;>intro c1
 ·have dc:=c1;have c1:=cG c1;exact ai (absurd (Pr k1 k2) c1)
 have dc:=c1;have c1:=cG c1;obtain⟨r1,r2,r3⟩:=UQ (by simpa using dc);have hrl:(vm s_.bm.bj s_.aU.Setting).1.length=s_.bm.bj.length:=(by rw[r3];exact pW ..);refine bu (λ(g1:Int)=>0<=g1/\(∀i:Nat,(i:Int)<g1->Zu s_.bm s_.aU (s_.cb.getD (s_.aO.getD i 0).toNat bb) s_.fQ)) (λ(g1:Int)=>(s_.aO.length - g1).toNat) ?_ ?_
 ·intro ab g1 cN bQ;obtain⟨cz,bB⟩:=cN;unfold sU;refine wi ?_ ?_<;>intro c2
  ·have hmem:=getD_in (l:=s_.aO) (i:=g1.toNat) 0 om;have Zy:=y1 _ hmem;have hnd:=getD_in (l:=s_.cb) (i:=(s_.aO.getD g1.toNat 0).toNat) bb om;have hno:=n2 _ hnd;have hns:=n4 _ hnd;refine wm<|bu (λ(g4:Int)=>0<=g4/\(∀j:Nat,(j:Int)<g4->ab9 ((dx s_.bm.bj s_.aU.Setting).getD ((s_.cb.getD (s_.aO.getD g1.toNat 0).toNat bb).bO.getD j bW).cF.toNat cD) ((s_.cb.getD (s_.aO.getD g1.toNat 0).toNat bb).bO.getD j bW) s_.fQ)) (λ(g4:Int)=>((s_.cb.getD (s_.aO.getD g1.toNat 0).toNat bb).bO.length - g4).toNat) ?_ ?_
   ·intro eE g4 zU yt;obtain⟨qF,jf⟩:=zU;unfold sT;refine wi ?_ ?_<;>intro c3
    ·obtain⟨x1,x2,x3,x4,x5⟩:=hno.lm _ (getD_in (i:=g4.toNat) bW om);have hll:=hno.ll;have hv:=abU r1 r2 (((s_.cb.getD ((s_.aO.getD g1.toNat 0).toNat) bb).bO.getD g4.toNat bW).cF.toNat) om;rw[<- r3]at hv;have q1:=Lg (show 0<=_ by exact ajJ (by decide) hv.1) hv.2 (ajJ x3 x4) x5;have q2:=Lg (show 0<=_ by exact ajJ (by decide) hv.1) hv.2 x3 (ajJ x4 x5);refine wm<|wm ?_;refine wi ?_ ?_<;>intro c4
     ·rw[r3]at c4;refine ai ?_;(constructor;(intro e;cases e);(intro h;exfalso;obtain⟨l1,l2,l3⟩:=h g1.toNat om g4.toNat om;rcases c4 with(c4 | c4) | c4;(exact l1 c4);(exact anG.2 l2 c4);(exact anG.2 (l3 (by simpa using c4.1)) c4.2)))
     rw[r3]at c4;refine wn<|yt _ ?_ ?_
     ·(refine⟨ob,cM jf qF ⟨c4.1.1,c4.1.2,λ e=>c4.2.resolve_left (by rw[e];decide)⟩⟩)
     exact ob
    have hll:=hno.ll;refine wn<|bQ _ ?_ ?_
    ·(refine⟨ob,cM bB cz (λ j hj=>jf j om)⟩)
    exact ob
   exact aqo
  refine ai ?_;(constructor;(intro _;exact λ i hi=>bB i om);(intro _;rfl))
 exact aqo
def Bd (h1:Pb s_) (h2:WR s_):W (jY s_) (λ r=>r=Sp.cK s_.bm.aX s_.aU.aY (M9 s_.cb s_.aO)):=by
 obtain⟨⟨s1,s2,s3,s4,s5,s6,s7⟩,vl_,n1,n2,⟨n3,n4⟩,m1,⟨z1,z2,z3,z4,z5,z6⟩⟩:=h1;obtain⟨y1,y2,y3,y4,y5,y6⟩:=h2;unfold jY;refine bu (λ(g1:Int×ap3)=>0<=g1.1/\g1.1<=s_.aO.length/\(g1.2.length:Int)<=32*g1.1/\g1.2=M9 s_.cb (s_.aO.take g1.1.toNat)) (λ(g1:Int×ap3)=>(s_.aO.length - g1.1).toNat) ?_ ?_
 ·intro ab g1 cN bQ;obtain⟨cz,bB,bA,fY⟩:=cN;unfold qj;refine wi ?_ ?_<;>intro c1
  ·have hmem:=getD_in (l:=s_.aO) (i:=g1.1.toNat) 0 om;have Zy:=y1 _ hmem;have hnd:=getD_in (l:=s_.cb) (i:=(s_.aO.getD g1.1.toNat 0).toNat) bb om;have hno:=n2 _ hnd;have hns:=n4 _ hnd;have hdl:=hno.dl;refine wm<|wm ?_;refine bQ _ ?_ ?_
   ·(refine⟨ob,ob,ob,?_⟩;dsimp only;unfold M9 at *;rw[show(g1.1+1).toNat=g1.1.toNat+1 by omega,eI 0 om,aoh,fY];simp only[ao1,apT,aiN])
   exact ob
  refine ar (MF ob ob) λ v1 hv1=>?_;subst v1;refine ar (Sp.xO ob ob ob) λ v2 hv2=>?_;subst v2;refine ai ?_;(rw[fY,show g1.1.toNat=s_.aO.length by omega,agt])
 (refine⟨ob,ob,ob,rfl⟩)
def Hg (h1:Pb s_) (h2:∀g∈s_.bm.aM.ax,g.bH.length<=2000000/\g.aj.length<=2000000):W (nN s_) (λ r=>(r=true↔wM s_.bm.aM 0/\sP s_.bm.aM (s_.aU.Uses.map ah.cX))):=by
 obtain⟨⟨s1,s2,s3,s4,s5,s6,s7⟩,vl_,n1,n2,⟨n3,n4⟩,m1,⟨z1,z2,z3,z4,z5,z6⟩⟩:=h1;unfold nN;refine bu (λ(g1:Int×aqb)=>0<=g1.1/\g1.1<=s_.aU.Uses.length/\g1.2=(s_.aU.Uses.take g1.1.toNat).map ah.cX) (λ(g1:Int×aqb)=>(s_.aU.Uses.length - g1.1).toNat) ?_ ?_
 ·intro ab g1 cN bQ;obtain⟨cz,bB,bA⟩:=cN;unfold vE;have hgl:g1.2.length=g1.1.toNat:=(by rw[bA,ahW,afs];omega);refine wi ?_ ?_<;>intro c1
  ·refine wm<|wn ?_;refine bQ _ ?_ ?_
   ·(refine⟨ob,ob,?_⟩;dsimp only;rw[show(g1.1+1).toNat=g1.1.toNat+1 by omega,eI aL om,akj,bA];rfl)
   exact ob
  refine ar (Pt h2 ob) λ v1 hv1=>?_;refine ai ?_;(rw[bA,show g1.1.toNat=s_.aU.Uses.length by omega,agt]at hv1;rw[<- hv1];simp)
 (refine⟨ob,ob,rfl⟩)
def z9 (h1:Pb s_) (h2:WR s_) (h3:∀u∈s_.aU.Uses,FT s_.bm.aM u.cX):W (jF s_) (λ r=>r=true↔∀i:Nat,(i:Int)<s_.aO.length->Zv s_.bm s_.aU (s_.cb.getD (s_.aO.getD i 0).toNat bb) (s_.aO.getD i 0)):=by
 obtain⟨⟨s1,s2,s3,s4,s5,s6,s7⟩,vl_,n1,n2,⟨n3,n4⟩,m1,⟨z1,z2,z3,z4,z5,z6⟩⟩:=h1;obtain⟨y1,y2,y3,y4,y5,y6⟩:=h2;unfold jF;refine bu (λ(g1:Int)=>0<=g1/\(∀i:Nat,(i:Int)<g1->Zv s_.bm s_.aU (s_.cb.getD (s_.aO.getD i 0).toNat bb) (s_.aO.getD i 0))) (λ(g1:Int)=>(s_.aO.length - g1).toNat) ?_ ?_
 ·intro ab g1 cN bQ;obtain⟨cz,bB⟩:=cN;unfold oQ;refine wi ?_ ?_<;>intro c1
  ·have hmem:=getD_in (l:=s_.aO) (i:=g1.toNat) 0 om;have Zy:=y1 _ hmem;have hnd:=getD_in (l:=s_.cb) (i:=(s_.aO.getD g1.toNat 0).toNat) bb om;have hno:=n2 _ hnd;have hns:=n4 _ hnd;have hfl:=hno.fl;refine wn<|bu (λ(g6:(Int×(cj->Option Int)))=>0<=g6.1/\g6.1<=s_.aU.Uses.length/\(∀k,0<=fo g6.2 k/\fo g6.2 k<=g6.1)/\(∀f,fo g6.2 (.s f)=(Bb s_.bm.aM (s_.aU.Uses.take g6.1.toNat) (s_.aO.getD g1.toNat 0) f:Int))) (λ(g6:(Int×(cj->Option Int)))=>(s_.aU.Uses.length - g6.1).toNat) ?_ ?_
   ·intro fL g6 FU Cm;obtain⟨DL,qG,DM,MJ⟩:=FU;unfold oP;refine wi ?_ ?_<;>intro c2
    ·obtain⟨u1,u2,u3,u4⟩:=h3 _ (getD_in (i:=g6.1.toNat) aL om);have hmk:=DM (.s (((s_.bm.aM.ax.getD ((((s_.aU.Uses.getD g6.1.toNat aL).cX).aZ).toNat) ay).aj).getD ((((s_.aU.Uses.getD g6.1.toNat aL).cX).bD).toNat) ByteArray.empty));refine wn<|br ?_ ?_<;>intro c3
     ·have fM:=c3;have c3:=cG c3;refine wm<|wm ?_;refine Cm _ ?_ ?_
      ·(refine⟨ob,ob,λ k=>?_,λ f=>?_⟩;(dsimp only;rw[tA];have:=DM k;split<;>omega);dsimp only;rw[tA,MJ,MJ,show(g6.1+1).toNat=g6.1.toNat+1 by omega,eI aL om,Bc];by_cases q:f=ZO s_.bm.aM (s_.aU.Uses.getD g6.1.toNat aL).cX;(subst q;refine(afc rfl).trans ?_;rw[afc ⟨by simpa using fM,rfl⟩];show((Bb _ _ _ (ZO _ _):Nat):Int)+1=_;omega);(refine(aeV (λ e=>q (cj.s.inj e))).trans ?_;rw[aeV (λ e=>q e.2.symm)];rfl))
      exact ob
     have fM:=c3;have c3:=cG c3;refine wn<|Cm _ ?_ ?_
     ·(refine⟨ob,ob,λ k=>?_,λ f=>?_⟩;(have:=DM k;dsimp only;omega);dsimp only;rw[MJ,show(g6.1+1).toNat=g6.1.toNat+1 by omega,eI aL om,Bc,aeV (λ e=>absurd e.1 (by simpa using fM))];rfl)
     exact ob
    refine wn<|bu (λ(g7:(Int×(cj->Option Int)))=>0<=g7.1/\(∀k,0<=fo g7.2 k/\fo g7.2 k<=2000000)/\(∀f,fo g7.2 (.s f)=(Bb s_.bm.aM s_.aU.Uses (s_.aO.getD g1.toNat 0) f:Int) - (cntF ((s_.cb.getD (s_.aO.getD g1.toNat 0).toNat bb).aj.take g7.1.toNat) f:Int))) (λ(g7:(Int×(cj->Option Int)))=>((s_.cb.getD (s_.aO.getD g1.toNat 0).toNat bb).aj.length - g7.1).toNat) ?_ ?_
    ·intro ky g7 Pk M3;obtain⟨Pl,vN,XZ⟩:=Pk;unfold ov;refine wi ?_ ?_<;>intro c4
     ·have hmk:=vN (.s (((s_.cb.getD ((s_.aO.getD g1.toNat 0).toNat) bb).aj).getD g7.1.toNat ByteArray.empty));have hlt:g7.1.toNat<(s_.cb.getD (s_.aO.getD g1.toNat 0).toNat bb).aj.length:=om;have hts:=eI ByteArray.empty hlt;have hcs:cntF ((s_.cb.getD (s_.aO.getD g1.toNat 0).toNat bb).aj.take (g7.1.toNat+1)) ((s_.cb.getD (s_.aO.getD g1.toNat 0).toNat bb).aj.getD g7.1.toNat ByteArray.empty)=cntF ((s_.cb.getD (s_.aO.getD g1.toNat 0).toNat bb).aj.take g7.1.toNat) ((s_.cb.getD (s_.aO.getD g1.toNat 0).toNat bb).aj.getD g7.1.toNat ByteArray.empty)+1:=(by rw[hts,GZ,afc rfl]);have hct:=Zt (l:=(s_.cb.getD (s_.aO.getD g1.toNat 0).toNat bb).aj) (f:=(s_.cb.getD (s_.aO.getD g1.toNat 0).toNat bb).aj.getD g7.1.toNat ByteArray.empty) (g7.1.toNat+1);have hq:=XZ ((s_.cb.getD (s_.aO.getD g1.toNat 0).toNat bb).aj.getD g7.1.toNat ByteArray.empty);refine wm<|wi ?_ ?_<;>intro c5
      ·refine ai ?_;(constructor;(intro e;cases e);(intro h;exfalso;rw[tA,afc rfl]at c5;have hff:=h g1.toNat om ((s_.cb.getD (s_.aO.getD g1.toNat 0).toNat bb).aj.getD g7.1.toNat ByteArray.empty);omega))
      rw[tA,afc rfl]at c5;refine wn<|M3 _ ?_ ?_
      ·(refine⟨ob,λ k=>?_,λ f=>?_⟩;(dsimp only;rw[tA];have:=vN k;split<;>omega);dsimp only;rw[tA,show(g7.1+1).toNat=g7.1.toNat+1 by omega];by_cases q:f=(s_.cb.getD (s_.aO.getD g1.toNat 0).toNat bb).aj.getD g7.1.toNat ByteArray.empty;(subst q;rw[afc rfl,hcs];omega);(rw[aeV (λ e=>q (cj.s.inj e)),hts,GZ,aeV (λ e=>q e.symm),XZ f];rfl))
      exact ob
     refine wn<|bQ _ ?_ ?_
     ·(refine⟨ob,cM bB cz (λ f=>?_)⟩;have e1:=XZ f;have e2:=vN (.s f);rw[ahH om]at e1;omega)
     exact ob
    (refine⟨ob,λ k=>by have:=DM k;dsimp only;omega,λ f=>?_⟩;dsimp only;rw[MJ f,show g6.1.toNat=s_.aU.Uses.length by omega,agt];show _=_ - ((0:Nat):Int);omega)
   (refine⟨ob,ob,λ k=>⟨air _,air _⟩,λ f=>rfl⟩)
  refine ai ?_;(constructor;(intro _;exact λ i hi=>bB i om);(intro _;rfl))
 exact aqo
def D7 (h1:Pb s_) (h2:WR s_):W (lL s_) (λ r=>(r=true↔(Qr s_.bm.bc 0/\SD s_.bm.bc s_.aU.Released)/\∀i:Nat,(i:Int)<s_.aO.length->Zw s_.aU (s_.cb.getD (s_.aO.getD i 0).toNat bb))):=by
 obtain⟨⟨s1,s2,s3,s4,s5,s6,s7⟩,vl_,n1,n2,⟨n3,n4⟩,m1,⟨z1,z2,z3,z4,z5,z6⟩⟩:=h1;obtain⟨y1,y2,y3,y4,y5,y6⟩:=h2;unfold lL;refine ar (M5 ob) λ v1 hv1=>?_;apply br<;>intro c1
 ·have dc:=c1;have c1:=cG c1;refine ai ?_;(constructor;(intro e;cases e);(intro h;exact absurd (hv1.2 h.1) (by simpa using dc)))
 have dc:=c1;have c1:=cG c1;refine bu (λ(g1:Int)=>0<=g1/\(∀i:Nat,(i:Int)<g1->Zw s_.aU (s_.cb.getD (s_.aO.getD i 0).toNat bb))) (λ(g1:Int)=>(s_.aO.length - g1).toNat) ?_ ?_
 ·intro ab g1 cN bQ;obtain⟨cz,bB⟩:=cN;unfold sV;refine wi ?_ ?_<;>intro c2
  ·have hmem:=getD_in (l:=s_.aO) (i:=g1.toNat) 0 om;have Zy:=y1 _ hmem;have hnd:=getD_in (l:=s_.cb) (i:=(s_.aO.getD g1.toNat 0).toNat) bb om;have hno:=n2 _ hnd;have hns:=n4 _ hnd;refine wm<|ar (vp om (λ x hx=>(by have:=hno.rs x hx;omega))) λ v4 hv4=>?_;subst v4;apply br<;>intro c3
   ·have fM:=c3;have c3:=cG c3;refine ai ?_;(constructor;(intro e;cases e);(intro h;exfalso;have:=SF.2 (λ j hj=>by have:=h.2 g1.toNat om j hj;rw[this];rfl) |>.symm.trans fM;cases this))
   have fM:=c3;have c3:=cG c3;refine wn<|bQ _ ?_ ?_
   ·(refine⟨ob,cM bB cz (λ j hj=>?_)⟩;have:=SF.1 fM j hj;simpa using this)
   exact ob
  refine ai ?_;(constructor;(intro _;exact⟨hv1.1 (by simpa using dc),λ i hi=>bB i om⟩);(intro _;rfl))
 exact aqo
def Cr (h1:Pb s_) (h2:WR s_):W (kF s_) (λ r=>(r=true↔(M1 s_.bm.bw 0/\ZN s_.bm.bw s_.aU.bg)/\∀i:Nat,(i:Int)<s_.aO.length->Zx s_.aU (s_.cb.getD (s_.aO.getD i 0).toNat bb))):=by
 obtain⟨⟨s1,s2,s3,s4,s5,s6,s7⟩,vl_,n1,n2,⟨n3,n4⟩,m1,⟨z1,z2,z3,z4,z5,z6⟩⟩:=h1;obtain⟨y1,y2,y3,y4,y5,y6⟩:=h2;unfold kF;refine ar (M7) λ v1 hv1=>?_;apply br<;>intro c1
 ·have dc:=c1;have c1:=cG c1;refine ai ?_;(constructor;(intro e;cases e);(intro h;exact absurd (hv1.2 h.1) (by simpa using dc)))
 have dc:=c1;have c1:=cG c1;refine ar (vq om (λ x hx=>(by have q:=y1 x hx;have:=(n2 _ (getD_in (i:=x.toNat) bb om)).dm;omega))) λ v2 hv2=>?_;subst v2;refine ai ?_;(rw[ahA,SF];constructor;(intro h;refine⟨hv1.1 (by simpa using dc),λ i hi=>?_⟩;have:=h i hi;intro h0;simp only[aiI,aie,ahS]at this;exact this.resolve_left (λ q=>q h0));(intro h j hj;have:=h.2 j hj;unfold Zx at this;simp only[aiI,aie,ahS];by_cases q:0<=(s_.cb.getD (s_.aO.getD j 0).toNat bb).dz;(exact .inr (this q));exact .inl q))
def IV {x:aP} (h:cK l s []=true) (hx:He l.length x):cK l s [⟨x.cF,0,x.cY⟩]=true↔ab9 ((dx l s).getD x.cF.toNat cD) x true:=by
 obtain⟨x1,x2,x3,x4,x5⟩:=hx;rw[Rf h x1 x2 (air 0) om x5,Int.zero_mul];obtain⟨c1,c2,_⟩:=G0 h;have hv:=(jd (Ce (nY c1) c2 x.cF.toNat om).2.2.1).1;exact⟨λ⟨a,b,_⟩=>⟨a,b,nofun⟩,λ⟨a,b,_⟩=>⟨a,b,hv⟩⟩
def IW {x:aP} (h:cK l s []=true) (hx:He l.length x):cK l s [⟨x.cF,x.ij,x.cY⟩]=true↔ab9 ((dx l s).getD x.cF.toNat cD) x false:=by
 obtain⟨x1,x2,x3,x4,x5⟩:=hx;rw[Rf h x1 x2 x3 x4 x5];exact⟨λ⟨a,b,c⟩=>⟨a,b,λ _=>c⟩,λ⟨a,b,c⟩=>⟨a,b,c rfl⟩⟩
def F5 {A B:Int->Prop} (h:Thn A B 0):A 0/\B 0:=by
 rcases h with h | h
 ·exact absurd rfl h.2
 exact h
def sm {l:apW} (h:jr b l 0):afu b/\l.length<=12/\∀n∈l,ag7 b n:=by
 obtain⟨h1,h2⟩:=F5 h;obtain⟨b1,h3⟩:=F5 h1;obtain⟨b2,h4⟩:=F5 h3;obtain⟨b3,h5⟩:=F5 h4;obtain⟨b4,b5⟩:=F5 h5;obtain⟨c1,c2⟩:=o8 (by decide) h2;refine⟨⟨b1.symm,b2.symm,b3.v.ok,b4.ok,b5.ok⟩,om,iN bb λ i hi=>?_⟩;obtain⟨d1,d2⟩:=o8 (by decide) (ab8 c2 i hi);obtain⟨e1,e2⟩:=o8 (by decide) d2;obtain⟨f1,f2⟩:=o8 (by decide) e2;obtain⟨g1,g2⟩:=o8 (by decide) f2;obtain⟨k1,k2⟩:=o8 (by decide) g2;obtain⟨m1,m2⟩:=o8 (by decide) k2;refine⟨om,om,om,iN bW λ j hj=>?_,iN cw λ j hj=>?_,iN 0 λ j hj=>?_,ahR.1 m1⟩
 ·exact akC λ q=>e1 ⟨j,om,q⟩
 ·exact akC λ q=>f1 ⟨j,om,q⟩
 exact akC λ q=>k1 ⟨j,om,q⟩
def ahh (b:aI) (l:apW) (ms:apU) (g:ak) (bt:Bool):Prop:=∀i:Nat,(i:Int)<ms.length->Zu b g (l.getD (ms.getD i 0).toNat bb) bt
def Zz (b:aI) (l:apW) (ms:apU) (g:ak):Prop:=∀i:Nat,(i:Int)<ms.length->Zv b g (l.getD (ms.getD i 0).toNat bb) (ms.getD i 0)
def ajb (b:aI) (l:apW) (ms:apU) (g:ak):Prop:=(Qr b.bc 0/\SD b.bc g.Released)/\∀i:Nat,(i:Int)<ms.length->Zw g (l.getD (ms.getD i 0).toNat bb)
def al6 (b:aI) (l:apW) (ms:apU) (g:ak):Prop:=(M1 b.bw 0/\ZN b.bw g.bg)/\∀i:Nat,(i:Int)<ms.length->Zx g (l.getD (ms.getD i 0).toNat bb)
def Nb (b:aI) (l:apW) (ms:apU) (g:ak) (bt:Bool):Int->Prop:=
 BF (¬(qN l ms/\Zs b l g)) 1<|
 BF (cK b.bj g.Setting []=false) 2<|
 BF (¬ahh b l ms g bt) 3<|
 BF (Sp.cK b.aX g.aY (M9 l ms)=false) 4<|
 BF (¬(wM b.aM 0/\sP b.aM (g.Uses.map ah.cX))) 5<|
 BF (¬Zz b l ms g) 6<|
 BF (¬ajb b l ms g) 7<|
 BF (¬al6 b l ms g) 8<|
 λ r=>r=0
def Nb.fun {l:apW} {ms:apU} {g:ak} {bt:Bool}:xU (Nb b l ms g bt):=.BB (.BB (.BB (.BB (.BB (.BB (.BB (.BB .zero)))))))
def kC (b:aI) (l:apW) (ms:apU) (g:ak) (bt:Bool):Int->Prop:=BF (¬jr b l 0) 1 (Nb b l ms g bt)
def kC.fun {l:apW} {ms:apU} {g:ak} {bt:Bool}:xU (kC b l ms g bt):=.BB Nb.fun
def ajc {s:dN} (h:qN s.cb s.aO/\Zs s.bm s.cb s.aU):WR s:=by
 obtain⟨h1,⟨h2,h3,h4,h5,h6⟩,_,_⟩:=h;exact⟨iN 0 λ j hj=>(h1 j om).1,om,om,om,om,om⟩
def wN {p:bq} {us:apZ} (h:sP p (us.map ah.cX)):∀u∈us,FT p u.cX:=by
 refine iN aL λ i hi=>?_;have:=(h i (by rw[ahW];omega)).1;rw[oa (d:=aL) hi]at this;exact this
def mE (h1:Pb s_) (h2:∀g∈s_.bm.aM.ax,g.bH.length<=2000000/\g.aj.length<=2000000):W (gW s_) (λ r=>Nb s_.bm s_.cb s_.aO s_.aU s_.fQ r):=by
 unfold gW;refine wn<|ar (F4 h1) λ v1 hv1=>?_;refine wi ?_ ?_<;>intro c1
 ·refine wn<|ai ?_;(exact cJ (iv hv1 c1))
 have q1:=hv1.1 c1;have hsh:=ajc q1;refine wm<|ar (D5 h1) λ v2 hv2=>?_;subst v2;refine wi ?_ ?_<;>intro c2
 ·refine wn<|ai ?_;(exact aG (λ h=>h q1) (cJ c2))
 refine wm<|ar (D6 h1 hsh c2) λ v3 hv3=>?_;refine wi ?_ ?_<;>intro c3
 ·refine wn<|ai ?_;(exact aG (λ h=>h q1) (aG (by rw[c2];decide) (cJ (iv hv3 c3))))
 have q3:=hv3.1 c3;refine wm<|ar (Bd h1 hsh) λ v4 hv4=>?_;subst v4;refine wi ?_ ?_<;>intro c4
 ·refine wn<|ai ?_;(exact aG (λ h=>h q1) (aG (by rw[c2];decide) (aG (λ h=>h q3) (cJ c4))))
 refine wm<|ar (Hg h1 h2) λ v5 hv5=>?_;refine wi ?_ ?_<;>intro c5
 ·refine wn<|ai ?_;(exact aG (λ h=>h q1) (aG (by rw[c2];decide) (aG (λ h=>h q3) (aG (by rw[c4];decide) (cJ (iv hv5 c5))))))
 have q5:=hv5.1 c5;refine wm<|ar (z9 h1 hsh (wN q5.2)) λ v6 hv6=>?_;refine wi ?_ ?_<;>intro c6
 ·refine wn<|ai ?_;(exact aG (λ h=>h q1) (aG (by rw[c2];decide) (aG (λ h=>h q3) (aG (by rw[c4];decide) (aG (λ h=>h q5) (cJ (iv hv6 c6)))))))
 have q6:=hv6.1 c6;refine wm<|ar (D7 h1 hsh) λ v7 hv7=>?_;refine wi ?_ ?_<;>intro c7
 ·refine wn<|ai ?_;(exact aG (λ h=>h q1) (aG (by rw[c2];decide) (aG (λ h=>h q3) (aG (by rw[c4];decide) (aG (λ h=>h q5) (aG (λ h=>h q6) (cJ (iv hv7 c7))))))))
 have q7:=hv7.1 c7;refine wm<|ar (Cr h1 hsh) λ v8 wJ=>?_;refine wi ?_ ?_<;>intro c8
 ·refine wn<|ai ?_;(exact aG (λ h=>h q1) (aG (by rw[c2];decide) (aG (λ h=>h q3) (aG (by rw[c4];decide) (aG (λ h=>h q5) (aG (λ h=>h q6) (aG (λ h=>h q7) (cJ (iv wJ c8)))))))))
 refine wn<|ai ?_;(exact aG (λ h=>h q1) (aG (by rw[c2];decide) (aG (λ h=>h q3) (aG (by rw[c4];decide) (aG (λ h=>h q5) (aG (λ h=>h q6) (aG (λ h=>h q7) (aG (λ h=>h (wJ.1 c8)) rfl))))))))
def Nc {ae:apU} {dK:Bool} (h1:xQ b_) (h2:∀g∈b_.aM.ax,g.bH.length<=2000000/\g.aj.length<=2000000) (h3:Ck l_) (h4:ae.length<=10000) (h5:ka g_):W (wo b_ l_ ae g_ dK) (λ r=>kC b_ l_ ae g_ dK r):=by
 unfold wo;refine ar (z8 h1 h2 h3) λ v1 hv1=>?_;refine wi ?_ ?_<;>intro c1
 ·exact ai<|cJ (λ h=>c1 (jr.fun _ _ hv1 h))
 have hn0:jr b_ l_ 0:=(by rw[c1]at hv1;exact hv1);obtain⟨nk1,nk2,nk3⟩:=sm hn0;refine ar (mE ⟨h1,nk1,nk2,nk3,h3,h4,h5⟩ h2) λ v2 hv2=>?_;exact ai<|aG (λ h=>h hn0) hv2
def Nd {x_:aC} {dK:Bool} (h1:b_.bj.length<=2000000) (h2:g_.Setting.length<=2000000) (h3:P9 b_.bj) (h4:cK b_.bj g_.Setting []=true) (h5:∀x∈x_.bO,He b_.bj.length x) (h6:x_.bO.length<=2000000):W (wB b_ g_ x_ dK) (λ r=>r=true↔Zu b_ g_ x_ dK):=by
 unfold wB;refine bu (λ(g1:Int)=>0<=g1/\(∀j:Nat,(j:Int)<g1->ab9 ((dx b_.bj g_.Setting).getD (x_.bO.getD j bW).cF.toNat cD) (x_.bO.getD j bW) dK)) (λ(g1:Int)=>(x_.bO.length - g1).toNat) ?_ ?_
 ·intro ab g1 cN bQ;obtain⟨cz,bB⟩:=cN;unfold Ds;refine wi ?_ ?_<;>intro c1
  ·have hx:=h5 _ (getD_in (i:=g1.toNat) bW om);refine wn<|wi ?_ ?_<;>intro c2
   ·subst c2;unfold mh;refine ar (xZ ob ob ob ob) λ v3 hv3=>?_;subst v3;refine wi ?_ ?_<;>intro c3
    ·refine ai ?_;(constructor;(intro e;cases e);(intro h;exfalso;rw[(IV h4 hx).2 (h g1.toNat om)]at c3;cases c3))
    refine wn<|bQ _ ?_ ?_
    ·(refine⟨ob,cM bB cz ((IV h4 hx).1 c3)⟩)
    exact ob
   subst c2;unfold mh;refine ar (xZ ob ob ob ob) λ v3 hv3=>?_;subst v3;refine wi ?_ ?_<;>intro c4
   ·refine ai ?_;(constructor;(intro e;cases e);(intro h;exfalso;rw[(IW h4 hx).2 (h g1.toNat om)]at c4;cases c4))
   refine wn<|bQ _ ?_ ?_
   ·(refine⟨ob,cM bB cz ((IW h4 hx).1 c4)⟩)
   exact ob
  refine ai ?_;(constructor;(intro _;exact λ j hj=>bB j om);(intro _;rfl))
 exact aqo
def IX {x_:aC} {cc:Int} (h1:g_.Uses.length<=2000000) (h2:x_.aj.length<=2000000) (h3:∀u∈g_.Uses,FT b_.aM u.cX):W (pw b_ g_ x_ cc) (λ r=>r=true↔Zv b_ g_ x_ cc):=by
 unfold pw;refine bu (λ(g1:Int)=>0<=g1/\(∀j:Nat,(j:Int)<g1->cntF x_.aj (fnG x_.aj j)<=Bb b_.aM g_.Uses cc (fnG x_.aj j))) (λ(g1:Int)=>(x_.aj.length - g1).toNat) ?_ ?_
 ·intro ab g1 cN bQ;obtain⟨cz,bB⟩:=cN;unfold xH;refine wi ?_ ?_<;>intro c1
  ·refine wn<|bu (λ(g6:Int×Int)=>0<=g6.2/\g6.2<=x_.aj.length/\(0<=g6.1/\g6.1<=g6.2)/\g6.1=(cntF (x_.aj.take g6.2.toNat) (x_.aj.getD g1.toNat ByteArray.empty):Int)) (λ(g6:Int×Int)=>(x_.aj.length - g6.2).toNat) ?_ ?_
   ·intro fL g6 FU Cm;obtain⟨DL,qG,DM,MJ⟩:=FU;unfold xG;refine wi ?_ ?_<;>intro c2
    ·refine wn<|br ?_ ?_<;>intro c3
     ·have fM:=c3;have c3:=cG c3;refine wm<|Cm _ ?_ ?_
      ·(refine⟨ob,ob,ob,?_⟩;dsimp only;rw[MJ,show(g6.2+1).toNat=g6.2.toNat+1 by omega,eI ByteArray.empty om,GZ,afc (Lu (by simpa using fM))];rfl)
      exact ob
     have fM:=c3;have c3:=cG c3;refine wn<|Cm _ ?_ ?_
     ·(refine⟨ob,ob,ob,?_⟩;dsimp only;rw[MJ,show(g6.2+1).toNat=g6.2.toNat+1 by omega,eI ByteArray.empty om,GZ,aeV (λ e=>by rw[e]at fM;simp at fM)];rfl)
     exact ob
    refine bu (λ(g7:Int×Int)=>0<=g7.2/\g7.2<=g_.Uses.length/\(0<=g7.1/\g7.1<=g7.2)/\g7.1=(Bb b_.aM (g_.Uses.take g7.2.toNat) cc (x_.aj.getD g1.toNat ByteArray.empty):Int)) (λ(g7:Int×Int)=>(g_.Uses.length - g7.2).toNat) ?_ ?_
    ·intro ky g7 Pk M3;obtain⟨Pl,vN,XZ,ace⟩:=Pk;unfold vK;refine wi ?_ ?_<;>intro c4
     ·obtain⟨u1,u2,u3,u4⟩:=h3 _ (getD_in (i:=g7.2.toNat) aL om);refine wm<|wn ?_;apply br<;>intro c5
      ·have sN:=c5;have c5:=cG c5;refine wm<|M3 _ ?_ ?_
       ·(refine⟨ob,ob,ob,?_⟩;dsimp only;rw[ace,show(g7.2+1).toNat=g7.2.toNat+1 by omega,eI aL om,Bc,afc (by simp only[aeP,ajZ]at sN;exact⟨sN.1,Lu sN.2⟩)];rfl)
       exact ob
      have sN:=c5;have c5:=cG c5;refine wn<|M3 _ ?_ ?_
      ·(refine⟨ob,ob,ob,?_⟩;dsimp only;rw[ace,show(g7.2+1).toNat=g7.2.toNat+1 by omega,eI aL om,Bc,aeV (λ e=>by have e2:=e.2;unfold ZO at e2;rw[e.1,e2]at sN;simp at sN)];rfl)
      exact ob
     rw[ahH om]at MJ ace;refine wi ?_ ?_<;>intro c6
     ·refine ai ?_;(constructor;(intro e;cases e);(intro h;exfalso;have:=h (x_.aj.getD g1.toNat ByteArray.empty);omega))
     refine wn<|bQ _ ?_ ?_
     ·(refine⟨ob,cM bB cz (by unfold fnG;omega)⟩)
     exact ob
    (refine⟨ob,ob,ob,rfl⟩)
   (refine⟨ob,ob,ob,rfl⟩)
  refine ai ?_;(constructor;(intro _ f;rcases aj2 (cntF x_.aj f)with e | e;(omega);(obtain⟨j,h4,rfl⟩:=acd e;exact bB j om));(intro _;rfl))
 exact aqo
end Go.Proofs.YtifekdmmpbcdgaaGreatDoor
namespace Go.Proofs.YtifekdmmpbcdgaaGreatDoor.Sp
open Go.Ab
set_option maxRecDepth 100000
def Pu {l_:ap1} {r_:aK} (h1:l_.length<=2000000) (h2:r_.aT.length<=2000000):W (zg l_ r_) (λ r=>r=iM l_ r_):=by
 unfold zg;refine ar (Sp.tT ob) λ v1 hv1=>?_;subst v1;apply br<;>intro c1
 ·have dc:=c1;have c1:=cG c1;refine ai ?_;(unfold iM;rw[dc];rfl)
 have dc:=c1;have c1:=cG c1;have hck:cB l_=0/\r_.On.length=l_.length/\r_.aT.length=l_.length:=(by have:=dc;simp only[afr,alW]at this;omega);obtain⟨b1,b2,b3⟩:=wK hck.1;refine bu (λ(g1:Int)=>0<=g1/\g1<=l_.length/\rlN (l_.drop g1.toNat) (r_.aT.drop g1.toNat)=rlN l_ r_.aT) (λ(g1:Int)=>(l_.length - g1).toNat) ?_ ?_
 ·intro ab g1 cN bQ;obtain⟨cz,bB,bA⟩:=cN;unfold Fu;obtain⟨i,rfl⟩:=ahD cz;refine wi ?_ ?_<;>intro c2
  ·have hlt:i<l_.length:=om;have hb:=b2 i hlt;rw[show((i:Int).toNat)=i from rfl,drop_cons ao hlt,drop_cons 0 (show i<r_.aT.length by omega),rlN]at bA;simp only[ahO]at *;refine wm<|wn ?_;refine ar (Sp.lT) λ v4 hv4=>?_;subst v4;apply br<;>intro c3
   ·have fM:=c3;have c3:=cG c3;refine ai ?_;(unfold iM;rw[dc,<- bA];rw[show cn (r_.aT.getD i 0) 0 _=false by simpa using fM];rfl)
   have fM:=c3;have c3:=cG c3;refine wn<|bQ _ ?_ ?_
   ·(refine⟨ob,ob,?_⟩;rw[<- bA,show cn (r_.aT.getD i 0) 0 _=true by simpa using fM,show((i:Int)+1).toNat=i+1 by omega];rfl)
   exact ob
  refine ai ?_;have e:i=l_.length:=om;unfold iM;rw[dc,<- bA,show(i:Int).toNat=i from rfl,e,ai8];cases List.drop l_.length r_.aT<;>rfl
 (refine⟨ob,ob,rfl⟩)
end Go.Proofs.YtifekdmmpbcdgaaGreatDoor.Sp
namespace Go.Proofs.YtifekdmmpbcdgaaGreatDoor
open Go.Ab
set_option maxRecDepth 100000
def Pv {l_:ap1} {r_:aK} {d_:ap3} (h1:l_.length<=2000000) (h2:d_.length<=2000000) (h3:r_.aT.length<=2000000):W (zh l_ r_ d_) (λ r=>r=Sp.cK l_ r_ d_):=by
 unfold zh;refine ar (Sp.Ic ob ob) λ v1 hv1=>?_;subst v1;refine ar (dT λ hc=>iU (Sp.Pu ob ob)) λ v2 hv2=>?_;subst v2;refine ar (dT λ hc=>iU (Sp.Ie (Sp.pX (by simp only[aeP]at hc;exact hc.1)) (Sp.wY.1 (by simp only[aeP]at hc;exact hc.2)).2)) λ v3 hv3=>?_;subst v3;refine ai ?_;(unfold Sp.cK;cases Sp.dY l_ d_<;>cases Sp.iM l_ r_<;>rfl)
variable {g_:ak}
def DN {b_:aI} {l_:apW} {ae:apU} {dK:Bool} (h1:xQ b_) (h2:∀g∈b_.aM.ax,g.bH.length<=2000000/\g.aj.length<=2000000) (h3:Ck l_) (h4:ae.length<=10000) (h5:ka g_):W (lQ b_ l_ ae g_ dK) (λ r=>kC b_ l_ ae g_ dK r):=by
 obtain⟨n3,n4⟩:=id h3;obtain⟨s1,s2,s3,s4,s5,s6,s7⟩:=id h1;obtain⟨z1,z2,z3,z4,z5,z6⟩:=id h5;unfold lQ;refine ar (tZ h1 h2 h3) λ v1 hv1=>?_;refine ar (lp λ hc=>n7 n3 om) λ v2 hv2=>?_;refine ar (lp λ hc=>M8 h1 n3 h5) λ v3 hv3=>?_;apply br<;>intro c1
 ·have dc:=c1;have c1:=cG c1;refine ai ?_;(by_cases q:jr b_ l_ 0;(refine aG (λ h=>h q) (cJ (λ h=>?_));have e:=jr.fun _ _ hv1 q;have a2:=(hv2 (by rw[e];rfl)).2 h.1;have a3:=(hv3 (by rw[e,a2];rfl)).2 h.2;rw[e,a2,a3]at dc;cases dc);exact cJ q)
 have dc:=c1;have c1:=cG c1;have e1:v1=0/\v2=true/\v3=true:=(by simp only[afr,alW,ahS]at dc;exact⟨dc.1.1,dc.1.2,dc.2⟩);have hn0:jr b_ l_ 0:=(by rw[e1.1]at hv1;exact hv1);have q1:qN l_ ae/\Zs b_ l_ g_:=⟨(hv2 (by rw[e1.1];rfl)).1 e1.2.1,(hv3 (by rw[e1.1,e1.2.1];rfl)).1 e1.2.2⟩;have nok:=sm hn0;have hsl:=q1.2.1;refine ar (xZ s1 z1 (by decide) s2) λ v4 hv4=>?_;subst v4;refine wi ?_ ?_<;>intro c2
 ·exact ai (aG (λ h=>h hn0) (aG (λ h=>h q1) (cJ c2)))
 refine bu (λ(g1:Int×ap3)=>0<=g1.1/\g1.1<=ae.length/\(g1.2.length:Int)<=32*g1.1/\g1.2=M9 l_ (ae.take g1.1.toNat)/\(∀i:Nat,(i:Int)<g1.1->Zu b_ g_ (l_.getD (ae.getD i 0).toNat bb) dK)) (λ(g1:Int×ap3)=>(ae.length - g1.1).toNat) ?_ ?_
 ·intro ab g1 cN bQ;obtain⟨cz,bB,bA,fY,ta⟩:=cN;unfold Dx;refine wi ?_ ?_<;>intro c3
  ·have Zy:=(q1.1 g1.1.toNat om).1;have hnd:=getD_in (l:=l_) (i:=(ae.getD g1.1.toNat 0).toNat) bb om;have hno:=nok.2.2 _ hnd;have hns:=n4 _ hnd;obtain⟨o1,o2,o3,o4,o5,o6,o7⟩:=id hno;refine aF (by first | omega | (unfold av;omega) | (intro h0;have:=afj h0;omega) | (unfold big;omega)) ?_;refine aF (by first | omega | (unfold av;omega) | (intro h0;have:=afj h0;omega) | (unfold big;omega)) ?_;refine ar (Nd s1 z1 s2 c2 o4 om) λ v7 hv7=>?_;refine wi ?_ ?_<;>intro c4
   ·exact ai (aG (λ h=>h hn0) (aG (λ h=>h q1) (aG (by rw[c2];decide) (cJ (λ h=>iv hv7 c4 (h g1.1.toNat om))))))
   refine aF (by first | omega | (unfold av;omega) | (intro h0;have:=afj h0;omega) | (unfold big;omega)) ?_;refine aF (by first | omega | (unfold av;omega) | (intro h0;have:=afj h0;omega) | (unfold big;omega)) ?_;refine aF (by first | omega | (unfold av;omega) | (intro h0;have:=afj h0;omega) | (unfold big;omega)) ?_;refine bQ _ ?_ ?_
   ·(refine⟨om,om,by(simp only[aeU];omega),?_,cM ta cz (hv7.1 c4)⟩;dsimp only;unfold M9 at *;rw[show(g1.1+1).toNat=g1.1.toNat+1 by omega,eI 0 om,aoh,fY];simp only[ao1,apT,aiN])
   omega
  have q3:ahh b_ l_ ae g_ dK:=λ i hi=>ta i om;have hdr:g1.2=M9 l_ ae:=(by rw[fY,show g1.1.toNat=ae.length by omega,agt]);have al7:(M9 l_ ae).length<=2000000:=(by rw[<- hdr];omega);rw[hdr];refine ar (Pv s3 al7 z3) λ v8 wJ=>?_;subst v8;refine wi ?_ ?_<;>intro c5
  ·exact ai (aG (λ h=>h hn0) (aG (λ h=>h q1) (aG (by rw[c2];decide) (aG (λ h=>h q3) (cJ c5)))))
  refine ar (Qu z4) λ v9 Lj=>?_;subst v9;refine ar (Na h2 (by rw[ahW];exact z4)) λ v10 tB=>?_;refine wi ?_ ?_<;>intro c6
  ·exact ai (aG (λ h=>h hn0) (aG (λ h=>h q1) (aG (by rw[c2];decide) (aG (λ h=>h q3) (aG (by rw[c5];decide) (cJ (λ h=>c6 (tB.2 h))))))))
  have q5:=tB.1 c6;have hown:=wN q5.2;refine bu (λ(g2:Int)=>0<=g2/\(∀i:Nat,(i:Int)<g2->Zv b_ g_ (l_.getD (ae.getD i 0).toNat bb) (ae.getD i 0))) (λ(g2:Int)=>(ae.length - g2).toNat) ?_ ?_
  ·intro cy g2 jK mo;obtain⟨mO,fH⟩:=jK;unfold AZ;refine wi ?_ ?_<;>intro c7
   ·have Zy:=(q1.1 g2.toNat om).1;have hnd:=getD_in (l:=l_) (i:=(ae.getD g2.toNat 0).toNat) bb om;have hno:=nok.2.2 _ hnd;have hns:=n4 _ hnd;obtain⟨o1,o2,o3,o4,o5,o6,o7⟩:=id hno;refine aF (by first | omega | (unfold av;omega) | (intro h0;have:=afj h0;omega) | (unfold big;omega)) ?_;refine aF (by first | omega | (unfold av;omega) | (intro h0;have:=afj h0;omega) | (unfold big;omega)) ?_;refine ar (IX z4 om hown) λ v13 D1=>?_;refine wi ?_ ?_<;>intro c8
    ·exact ai (aG (λ h=>h hn0) (aG (λ h=>h q1) (aG (by rw[c2];decide) (aG (λ h=>h q3) (aG (by rw[c5];decide) (aG (λ h=>h q5) (cJ (λ h=>iv D1 c8 (h g2.toNat om)))))))))
    refine aF (by first | omega | (unfold av;omega) | (intro h0;have:=afj h0;omega) | (unfold big;omega)) ?_;refine mo _ ?_ ?_
    ·(refine⟨om,cM fH mO (D1.1 c8)⟩)
    omega
   have q6:Zz b_ l_ ae g_:=λ i hi=>fH i om;refine ar (M6 s6) λ v14 JQ=>?_;refine wi ?_ ?_<;>intro c9
   ·exact ai (aG (λ h=>h hn0) (aG (λ h=>h q1) (aG (by rw[c2];decide) (aG (λ h=>h q3) (aG (by rw[c5];decide) (aG (λ h=>h q5) (aG (λ h=>h q6) (cJ (λ h=>iv JQ c9 h.1)))))))))
   have q7a:=JQ.1 c9;refine bu (λ(g3:Int)=>0<=g3/\(∀i:Nat,(i:Int)<g3->Zw g_ (l_.getD (ae.getD i 0).toNat bb))) (λ(g3:Int)=>(ae.length - g3).toNat) ?_ ?_
   ·intro l8 g3 SB SC;obtain⟨MI,mq⟩:=SB;unfold AY;refine wi ?_ ?_<;>intro c10
    ·have Zy:=(q1.1 g3.toNat om).1;have hnd:=getD_in (l:=l_) (i:=(ae.getD g3.toNat 0).toNat) bb om;have hno:=nok.2.2 _ hnd;have hns:=n4 _ hnd;obtain⟨o1,o2,o3,o4,o5,o6,o7⟩:=id hno;refine aF (by first | omega | (unfold av;omega) | (intro h0;have:=afj h0;omega) | (unfold big;omega)) ?_;refine aF (by first | omega | (unfold av;omega) | (intro h0;have:=afj h0;omega) | (unfold big;omega)) ?_;refine bu (λ(g6:Int)=>0<=g6/\(∀j:Nat,(j:Int)<g6->g_.Released.getD ((l_.getD (ae.getD g3.toNat 0).toNat bb).bc.getD j 0).toNat false=true)) (λ(g6:Int)=>((l_.getD (ae.getD g3.toNat 0).toNat bb).bc.length - g6).toNat) ?_ ?_
     ·intro fL g6 FU Cm;obtain⟨DL,qG⟩:=FU;unfold AW;refine wi ?_ ?_<;>intro c11
      ·have hx:=o6 _ (getD_in (i:=g6.toNat) 0 om);refine aF (by first | omega | (unfold av;omega) | (intro h0;have:=afj h0;omega) | (unfold big;omega)) ?_;refine aF (by first | omega | (unfold av;omega) | (intro h0;have:=afj h0;omega) | (unfold big;omega)) ?_;refine wi ?_ ?_<;>intro c12
       ·exact ai (aG (λ h=>h hn0) (aG (λ h=>h q1) (aG (by rw[c2];decide) (aG (λ h=>h q3) (aG (by rw[c5];decide) (aG (λ h=>h q5) (aG (λ h=>h q6) (cJ (λ h=>by have:=h.2 g3.toNat om g6.toNat om;rw[this]at c12;cases c12)))))))))
       refine aF (by first | omega | (unfold av;omega) | (intro h0;have:=afj h0;omega) | (unfold big;omega)) ?_;refine Cm _ ?_ ?_
       ·(refine⟨om,cM qG DL c12⟩)
       omega
      refine aF (by first | omega | (unfold av;omega) | (intro h0;have:=afj h0;omega) | (unfold big;omega)) ?_;refine SC _ ?_ ?_
      ·(refine⟨om,cM mq MI (λ j hj=>qG j om)⟩)
      omega
     (refine⟨om,λ j hj=>by(try dsimp only at hj);omega⟩)
    have q7:ajb b_ l_ ae g_:=⟨q7a,λ i hi=>mq i om⟩;refine ar (Pm) λ v15 MS=>?_;refine wi ?_ ?_<;>intro c13
    ·exact ai (aG (λ h=>h hn0) (aG (λ h=>h q1) (aG (by rw[c2];decide) (aG (λ h=>h q3) (aG (by rw[c5];decide) (aG (λ h=>h q5) (aG (λ h=>h q6) (aG (λ h=>h q7) (cJ (λ h=>iv MS c13 h.1))))))))))
    have q8a:=MS.1 c13;refine bu (λ(g7:Int)=>0<=g7/\(∀i:Nat,(i:Int)<g7->Zx g_ (l_.getD (ae.getD i 0).toNat bb))) (λ(g7:Int)=>(ae.length - g7).toNat) ?_ ?_
    ·intro ky g7 Pk M3;obtain⟨Pl,vN⟩:=Pk;unfold AX;refine wi ?_ ?_<;>intro c14
     ·have Zy:=(q1.1 g7.toNat om).1;have hnd:=getD_in (l:=l_) (i:=(ae.getD g7.toNat 0).toNat) bb om;have hno:=nok.2.2 _ hnd;have hns:=n4 _ hnd;obtain⟨o1,o2,o3,o4,o5,o6,o7⟩:=id hno;refine aF (by first | omega | (unfold av;omega) | (intro h0;have:=afj h0;omega) | (unfold big;omega)) ?_;refine aF (by first | omega | (unfold av;omega) | (intro h0;have:=afj h0;omega) | (unfold big;omega)) ?_;refine aF (by first | omega | (unfold av;omega) | (intro h0;have:=afj h0;omega) | (unfold big;omega)) ?_;apply br<;>intro c15
      ·have ahi:=c15;have c15:=cG c15;exact ai (aG (λ h=>h hn0) (aG (λ h=>h q1) (aG (by rw[c2];decide) (aG (λ h=>h q3) (aG (by rw[c5];decide) (aG (λ h=>h q5) (aG (λ h=>h q6) (aG (λ h=>h q7) (cJ (λ h=>by have:=h.2 g7.toNat om c15.1;rw[this]at c15;cases c15.2))))))))))
      have ahi:=c15;have c15:=cG c15;refine aF (by first | omega | (unfold av;omega) | (intro h0;have:=afj h0;omega) | (unfold big;omega)) ?_;refine M3 _ ?_ ?_
      ·(refine⟨om,cM vN Pl (λ h0=>?_)⟩;simp only[aiI,aie,ahS]at ahi;exact ahi.resolve_left (λ q=>q h0))
      omega
     exact ai (aG (λ h=>h hn0) (aG (λ h=>h q1) (aG (by rw[c2];decide) (aG (λ h=>h q3) (aG (by rw[c5];decide) (aG (λ h=>h q5) (aG (λ h=>h q6) (aG (λ h=>h q7) (aG (λ h=>h ⟨q8a,λ i hi=>vN i om⟩) rfl)))))))))
    (refine⟨om,λ j hj=>by(try dsimp only at hj);omega⟩)
   (refine⟨om,λ j hj=>by(try dsimp only at hj);omega⟩)
  (refine⟨om,λ j hj=>by(try dsimp only at hj);omega⟩)
 (refine⟨om,by(dsimp only;omega),by(simp only[ajE];omega),rfl,λ i hi=>by(try dsimp only at hi);omega⟩)
def VA (w:aw) (g:ak):ak×Int:=bif(cW w g).1 then((cW w g).2,0)else(g,2)
variable {w:aw} {g:ak}
def MK {g':ak} (h:cW w g=(false,g')):(g,2)=VA w g:=by unfold VA;rw[h];rfl
def Cs {g':ak} (h:cW w g=(true,g')):(g',0)=VA w g:=by unfold VA;rw[h];rfl
def ajd (h:w.Value<0):cW w g=(false,g):=by unfold cW;rw[afl h];rfl
def ag1 (h:0<=w.Value) (k:w.bY=1):cW w g=((nA g.Setting w.Unit w.Value).1,{ g with Setting:=(nA g.Setting w.Unit w.Value).2 }):=by unfold cW;rw[k,afe om];rfl
def ag2 (h:0<=w.Value) (k:w.bY=2):cW w g=((nA g.aY.aT w.Unit w.Value).1,{ g with aY:=⟨g.aY.On,(nA g.aY.aT w.Unit w.Value).2⟩ }):=by unfold cW;rw[k,afe om];rfl
def ag3 (h:0<=w.Value) (k:w.bY=3):cW w g=(bif decide (w.Value<=1)then((nA g.aY.On w.Unit (w.Value==1)).1,{ g with aY:=⟨(nA g.aY.On w.Unit (w.Value==1)).2,g.aY.aT⟩ })else(false,g)):=by unfold cW;rw[k,afe (show ¬ w.Value<0 by omega)];rfl
def aje (h:0<=w.Value) (k:w.bY=11):cW w g=(bif decide (w.Value<=1)then((nA g.Released w.Unit (w.Value==1)).1,{ g with Released:=(nA g.Released w.Unit (w.Value==1)).2 })else(false,g)):=by unfold cW;rw[k,afe (show ¬ w.Value<0 by omega)];rfl
def ajf (h:0<=w.Value) (k:w.bY=12):cW w g=(bif decide (w.Value<=1)then((nA g.bg w.Unit (w.Value==1)).1,{ g with bg:=(nA g.bg w.Unit (w.Value==1)).2 })else(false,g)):=by unfold cW;rw[k,afe (show ¬ w.Value<0 by omega)];rfl
def ajg (h:0<=w.Value) (k:w.bY=10):cW w g=(bif !(decide (0<=w.Unit)&&decide (w.Unit<=23))then(false,g)else(true,{ g with Uses:=nB w.Unit w.Value (iO w.Unit g.Uses) })):=by unfold cW;rw[k,afe (show ¬ w.Value<0 by omega)];rfl
def agx (h:¬w.bY=1/\¬w.bY=2/\¬w.bY=3/\¬w.bY=11/\¬w.bY=12/\¬w.bY=10):cW w g=(false,g):=by
 unfold cW;obtain⟨h1,h2,h3,h4,h5,h6⟩:=h;rw[show(w.bY==1)=false by simpa using h1,show(w.bY==2)=false by simpa using h2,show(w.bY==3)=false by simpa using h3,show(w.bY==11)=false by simpa using h4,show(w.bY==12)=false by simpa using h5,show(w.bY==10)=false by simpa using h6];cases decide (w.Value<0)<;>rfl
variable {α:Type}
def J8 {l:List α} {u:Int} {v:α} (h:u<0\/(l.length:Int)<=u):nA l u v=(false,l):=by
 unfold nA;rw[show(decide (u<0)||decide ((l.length:Int)<=u))=true by simpa using h];rfl
def F6 {l:List α} {u:Int} {v:α} (h:0<=u) (k:u<l.length):nA l u v=(true,l.set u.toNat v):=by
 unfold nA;rw[afe om,afe om];rfl
def X0 {i:Int} {o:apZ} (h0:0<=i) (h1:i<o.length):(Iv o (0+i.toNat) ((o.drop (0+(i+1).toNat)).take (o.length - (i+1).toNat))).take (i.toNat+(o.length - (i+1).toNat))=o.eraseIdx i.toNat:=by
 refine afv aL ?_ ?_
 ·rw[afs,dO,aoE om];omega
 intro t ht;rw[afs,dO]at ht;rw[qE _ _ _ _ om,GK aL om,Pc];simp only[afs,ajY];by_cases c:t<i.toNat
 ·rw[aeV om,afc c]
 rw[afc om,aeV c,qE _ _ _ _ om,Rb];congr 1;omega
def ApK (g:ak) (w:aw) (p:Int×Bool):Prop:=(w.bY=1/\p=((g.Setting.length:Int),false))\/(w.bY=2/\p=((g.aY.aT.length:Int),false))\/(w.bY=3/\p=((g.aY.On.length:Int),true))\/(w.bY=11/\p=((g.Released.length:Int),true))\/(w.bY=12/\p=((g.bg.length:Int),true))\/(w.bY=10/\p=(24,false))
def ahj {p:Int×Bool} (h:ApK g w p) (c:((w.Unit<0\/p.1<=w.Unit)\/w.Value<0)\/p.2=true/\1<w.Value):(g,2)=VA w g:=by
 by_cases hv:w.Value<0
 ·exact MK (ajd hv)
 have hv:0<=w.Value:=by omega
 rcases h with⟨k,rfl⟩ | ⟨k,rfl⟩ | ⟨k,rfl⟩ | ⟨k,rfl⟩ | ⟨k,rfl⟩ | ⟨k,rfl⟩
 ·refine MK (g':=g) ?_;rw[ag1 hv k,J8 (by simp at c;omega)]
 ·refine MK (g':=g) ?_;rw[ag2 hv k,J8 (by simp at c;omega)]
 ·refine MK (g':=g) ?_;rw[ag3 hv k];by_cases q:w.Value<=1
  ·rw[afl q,J8 (by simp at c;omega)];rfl
  rw[afe q];rfl
 ·refine MK (g':=g) ?_;rw[aje hv k];by_cases q:w.Value<=1
  ·rw[afl q,J8 (by simp at c;omega)];rfl
  rw[afe q];rfl
 ·refine MK (g':=g) ?_;rw[ajf hv k];by_cases q:w.Value<=1
  ·rw[afl q,J8 (by simp at c;omega)];rfl
  rw[afe q];rfl
 refine MK (g':=g) ?_;rw[ajg hv k,show(!(decide (0<=w.Unit)&&decide (w.Unit<=23)))=true by simp at c ⊢;omega];rfl
def Aa {i_:Int} {j_:Int} {bI:apZ} (h1:0<=i_) (h2:j_=i_+1) (h3:j_<=bI.length) (h4:bI.length<=2000000):W (jl i_ j_ bI) (λ r=>r.1+1=bI.length/\r.2.length=bI.length/\r.2.take r.1=bI.eraseIdx i_.toNat):=by
 unfold jl;refine wn<|br ?_ ?_<;>intro c1
 ·have dc:=c1;have c1:=cG c1;have c1:i_=j_:=(by simpa using dc);refine ai ?_;(exfalso;omega)
 have dc:=c1;have c1:=cG c1;refine wm<|wm ?_;refine ai ?_;(refine⟨by dsimp only;omega,by simp only[dO],(del_eq ⟨h1,h2⟩ h3 (afM _) om rfl).trans (by rw[agt])⟩)
variable {w_:aw}
def Qv {jh:apU} {gh:apV} {fA:apU} {jw:apZ} {jx:apV} {lj:apV} (h1:jw.length<=2000000) (h2:w_.Value<=9223372036854775807):W (yV w_ jh gh fA jw jx lj) (λ r=>(r.1,Vz r.2)=cW w_ ⟨jh,⟨gh,fA⟩,jw,jx,lj⟩/\r.2.2.1.length=jh.length/\r.2.2.2.1.length=gh.length/\r.2.2.2.2.1.length=fA.length/\r.2.2.2.2.2.1.length=jx.length/\r.2.2.2.2.2.2.1.length=lj.length/\r.2.1<=r.2.2.2.2.2.2.2.length/\r.2.2.2.2.2.2.2.length<=jw.length+1):=by
 unfold yV;apply br<;>intro c1
 ·have dc:=c1;have c1:=cG c1;refine ai ?_;(refine⟨(by unfold cW Vz Vy;dsimp only;rw[agt,dc];rfl),?_,?_,?_,?_,?_,?_,?_⟩<;>first | rfl | exact fG .. | (dsimp only;omega) | (simp only[aeU,afs,afT];omega))
 have dc:=c1;have c1:=cG c1;apply br<;>intro c2
 ·have fX:=c2;have c2:=cG c2;refine ar (pD) λ v1 hv1=>?_;subst v1;refine aF (by(exact fG ..)) ?_;refine ai ?_;(refine⟨(by unfold cW Vz Vy;dsimp only;rw[agt,dc,fX];rfl),?_,?_,?_,?_,?_,?_,?_⟩<;>first | rfl | exact fG .. | (dsimp only;omega) | (simp only[aeU,afs,afT];omega))
 have fX:=c2;have c2:=cG c2;apply br<;>intro c3
 ·have fM:=c3;have c3:=cG c3;refine ar (pD) λ v2 hv2=>?_;subst v2;refine aF (by(exact fG ..)) ?_;refine ai ?_;(refine⟨(by unfold cW Vz Vy;dsimp only;rw[agt,dc,fX,fM];rfl),?_,?_,?_,?_,?_,?_,?_⟩<;>first | rfl | exact fG .. | (dsimp only;omega) | (simp only[aeU,afs,afT];omega))
 have fM:=c3;have c3:=cG c3;apply br<;>intro c4
 ·have lR:=c4;have c4:=cG c4;apply br<;>intro c5
  ·have sN:=c5;have c5:=cG c5;have d5:decide (w_.Value<=1)=true:=(by simpa using sN);refine ar (js) λ v3 hv3=>?_;subst v3;refine aF (by(exact fG ..)) ?_;refine ai ?_;(refine⟨(by unfold cW Vz Vy;dsimp only;rw[agt,dc,fX,fM,lR,d5];rfl),?_,?_,?_,?_,?_,?_,?_⟩<;>first | rfl | exact fG .. | (dsimp only;omega) | (simp only[aeU,afs,afT];omega))
  have sN:=c5;have c5:=cG c5;have d5:decide (w_.Value<=1)=false:=(by simpa using sN);refine wn<|ai ?_;(refine⟨(by unfold cW Vz Vy;dsimp only;rw[agt,dc,fX,fM,lR,d5];rfl),?_,?_,?_,?_,?_,?_,?_⟩<;>first | rfl | exact fG .. | (dsimp only;omega) | (simp only[aeU,afs,afT];omega))
 have lR:=c4;have c4:=cG c4;apply br<;>intro c6
 ·have Eg:=c6;have c6:=cG c6;apply br<;>intro c7
  ·have Jk:=c7;have c7:=cG c7;have d7:decide (w_.Value<=1)=true:=(by simpa using Jk);refine ar (js) λ v4 hv4=>?_;subst v4;refine aF (by(exact fG ..)) ?_;refine ai ?_;(refine⟨(by unfold cW Vz Vy;dsimp only;rw[agt,dc,fX,fM,lR,Eg,d7];rfl),?_,?_,?_,?_,?_,?_,?_⟩<;>first | rfl | exact fG .. | (dsimp only;omega) | (simp only[aeU,afs,afT];omega))
  have Jk:=c7;have c7:=cG c7;have d7:decide (w_.Value<=1)=false:=(by simpa using Jk);refine wn<|ai ?_;(refine⟨(by unfold cW Vz Vy;dsimp only;rw[agt,dc,fX,fM,lR,Eg,d7];rfl),?_,?_,?_,?_,?_,?_,?_⟩<;>first | rfl | exact fG .. | (dsimp only;omega) | (simp only[aeU,afs,afT];omega))
 have Eg:=c6;have c6:=cG c6;apply br<;>intro c8
 ·have Ql:=c8;have c8:=cG c8;apply br<;>intro c9
  ·have c9o:=c9;have c9:=cG c9;have d9:decide (w_.Value<=1)=true:=(by simpa using c9o);refine ar (js) λ v5 hv5=>?_;subst v5;refine aF (by(exact fG ..)) ?_;refine ai ?_;(refine⟨(by unfold cW Vz Vy;dsimp only;rw[agt,dc,fX,fM,lR,Eg,Ql,d9];rfl),?_,?_,?_,?_,?_,?_,?_⟩<;>first | rfl | exact fG .. | (dsimp only;omega) | (simp only[aeU,afs,afT];omega))
  have c9o:=c9;have c9:=cG c9;have d9:decide (w_.Value<=1)=false:=(by simpa using c9o);refine wn<|ai ?_;(refine⟨(by unfold cW Vz Vy;dsimp only;rw[agt,dc,fX,fM,lR,Eg,Ql,d9];rfl),?_,?_,?_,?_,?_,?_,?_⟩<;>first | rfl | exact fG .. | (dsimp only;omega) | (simp only[aeU,afs,afT];omega))
 have Ql:=c8;have c8:=cG c8;apply br<;>intro c10
 ·have D4:=c10;have c10:=cG c10;refine ar (jA) λ v6 hv6=>?_;subst v6;apply br<;>intro c11
  ·have J7:=c11;have c11:=cG c11;refine ai ?_;(refine⟨(by unfold cW Vz Vy;dsimp only;rw[agt,dc,fX,fM,lR,Eg,Ql,D4,J7];rfl),?_,?_,?_,?_,?_,?_,?_⟩<;>first | rfl | exact fG .. | (dsimp only;omega) | (simp only[aeU,afs,afT];omega))
  have J7:=c11;have c11:=cG c11;refine ar (mN ob) λ v9 Lj=>?_;subst v9;apply br<;>intro c12
  ·have acf:=c12;have c12:=cG c12;refine aF (by(have:=Sv c12;unfold av;omega)) ?_;refine ar (Aa c12 rfl (by have:=Sv c12;omega) h1) λ v10 tB=>?_;obtain⟨al8,al9,acg⟩:=tB;refine wn ?_;unfold jT;refine wn<|br ?_ ?_<;>intro c13
   ·have ahl:=c13;have c13:=cG c13;refine wm<|ai ?_;(refine⟨(by unfold cW;rw[dc,fX,fM,lR,Eg,Ql,D4,J7];simp only[ahX,ags];unfold nB iO Vz Vy;dsimp only;rw[acf,ahl,Ia om,acg];rfl),?_,?_,?_,?_,?_,?_,?_⟩<;>first | rfl | exact fG .. | (dsimp only;omega) | (simp only[aeU,afs,afT];omega))
   have ahl:=c13;have c13:=cG c13;refine ai ?_;(refine⟨(by unfold cW;rw[dc,fX,fM,lR,Eg,Ql,D4,J7];simp only[ahX,ags];unfold nB iO Vz Vy;dsimp only;rw[acf,ahl,acg];rfl),?_,?_,?_,?_,?_,?_,?_⟩<;>first | rfl | exact fG .. | (dsimp only;omega) | (simp only[aeU,afs,afT];omega))
  have acf:=c12;have c12:=cG c12;unfold jT;refine wn<|br ?_ ?_<;>intro c14
  ·have ahm:=c14;have c14:=cG c14;refine wm<|ai ?_;(refine⟨(by unfold cW;rw[dc,fX,fM,lR,Eg,Ql,D4,J7];simp only[ahX,ags];unfold nB iO Vz Vy;dsimp only;rw[acf,ahm,Ia om,agt];rfl),?_,?_,?_,?_,?_,?_,?_⟩<;>first | rfl | exact fG .. | (dsimp only;omega) | (simp only[aeU,afs,afT];omega))
  have ahm:=c14;have c14:=cG c14;refine ai ?_;(refine⟨(by unfold cW;rw[dc,fX,fM,lR,Eg,Ql,D4,J7];simp only[ahX,ags];unfold nB iO Vz Vy;dsimp only;rw[acf,ahm,agt];rfl),?_,?_,?_,?_,?_,?_,?_⟩<;>first | rfl | exact fG .. | (dsimp only;omega) | (simp only[aeU,afs,afT];omega))
 have D4:=c10;have c10:=cG c10;refine ai ?_;(refine⟨(by unfold cW Vz Vy;dsimp only;rw[agt,dc,fX,fM,lR,Eg,Ql,D4];rfl),?_,?_,?_,?_,?_,?_,?_⟩<;>first | rfl | exact fG .. | (dsimp only;omega) | (simp only[aeU,afs,afT];omega))
def Pw {b_:aI} (h1:ka g_) (h2:w_.Value<=9223372036854775807):W (qy b_ g_ w_) (λ r=>r=VA w_ g_):=by
 obtain⟨z1,z2,z3,z4,z5,z6⟩:=id h1;unfold qy;refine ar (zn h1) λ v1 hv1=>?_;subst v1;refine ar (Qv z4 h2) λ v2 hv2=>?_;obtain⟨OR,OS,Q0,XO,abw,afB,aon,ajh⟩:=hv2;have hg:(⟨g_.Setting,⟨g_.aY.On,g_.aY.aT⟩,g_.Uses,g_.Released,g_.bg⟩:ak)=g_:=rfl;have hap:=OR;rw[hg]at hap;dsimp only at OS Q0 XO abw afB ajh;refine aF (by(refine⟨OS,Q0,XO,abw,afB,?_⟩;(try simp only[afs]);omega)) ?_;refine wi ?_ ?_<;>intro c1
 ·refine ar (zn h1) λ v3 hv3=>?_;subst v3;refine ai ?_;(unfold VA;rw[<- hap];dsimp only;rw[c1];rfl)
 refine ai ?_;(unfold VA;rw[<- hap];dsimp only;rw[c1];rfl)
def hZ {g1:Int×Bool}   (hc:ka g_/\w_.Value<=9223372036854775807/\ApK g_ w_ g1):W (fJ g_ w_ g1) (λ r=>r=VA w_ g_):=by
 obtain⟨WU,Zm,xS⟩:=hc;unfold fJ;apply br<;>intro c1
 ·have dc:=c1;have c1:=cG c1;exact ai (ahj xS c1)
 have dc:=c1;have c1:=cG c1;obtain⟨d1,d2,d3,d4⟩:0<=w_.Unit/\w_.Unit<g1.1/\0<=w_.Value/\(g1.2=true->w_.Value<=1):=(by simp only[afr,aiI,aie]at dc;refine⟨om,om,om,λ e=>?_⟩;rcases dc.2 with q | q;(rw[e]at q;cases q);omega);obtain⟨z1,z2,z3,z4,z5,z6⟩:=id WU;refine ar (Sx ob) λ v1 hv1=>?_;subst v1;refine wi ?_ ?_<;>intro c2
 ·have hp:g1=((g_.Setting.length:Int),false):=(by rcases xS with⟨k,e⟩ | ⟨k,e⟩ | ⟨k,e⟩ | ⟨k,e⟩ | ⟨k,e⟩ | ⟨k,e⟩<;>first | exact e | omega);rw[hp]at d2 d4;dsimp only at d2 d4;refine wn<|ai ?_;(exact Cs (by rw[ag1 d3 c2,F6 d1 d2]))
 refine wi ?_ ?_<;>intro c3
 ·have hp:g1=((g_.aY.aT.length:Int),false):=(by rcases xS with⟨k,e⟩ | ⟨k,e⟩ | ⟨k,e⟩ | ⟨k,e⟩ | ⟨k,e⟩ | ⟨k,e⟩<;>first | exact e | omega);rw[hp]at d2 d4;dsimp only at d2 d4;refine wn<|ai ?_;(exact Cs (by rw[ag2 d3 c3,F6 d1 d2]))
 refine wi ?_ ?_<;>intro c4
 ·have hp:g1=((g_.aY.On.length:Int),true):=(by rcases xS with⟨k,e⟩ | ⟨k,e⟩ | ⟨k,e⟩ | ⟨k,e⟩ | ⟨k,e⟩ | ⟨k,e⟩<;>first | exact e | omega);rw[hp]at d2 d4;dsimp only at d2 d4;refine wn<|ai ?_;(exact Cs (by rw[ag3 d3 c4,afl (d4 rfl),F6 d1 d2];rfl))
 refine wi ?_ ?_<;>intro c5
 ·have hp:g1=((g_.Released.length:Int),true):=(by rcases xS with⟨k,e⟩ | ⟨k,e⟩ | ⟨k,e⟩ | ⟨k,e⟩ | ⟨k,e⟩ | ⟨k,e⟩<;>first | exact e | omega);rw[hp]at d2 d4;dsimp only at d2 d4;refine wn<|ai ?_;(exact Cs (by rw[aje d3 c5,afl (d4 rfl),F6 d1 d2];rfl))
 refine wi ?_ ?_<;>intro c6
 ·have hp:g1=((g_.bg.length:Int),true):=(by rcases xS with⟨k,e⟩ | ⟨k,e⟩ | ⟨k,e⟩ | ⟨k,e⟩ | ⟨k,e⟩ | ⟨k,e⟩<;>first | exact e | omega);rw[hp]at d2 d4;dsimp only at d2 d4;refine wn<|ai ?_;(exact Cs (by rw[ajf d3 c6,afl (d4 rfl),F6 d1 d2];rfl))
 refine wi ?_ ?_<;>intro c7
 ·have hp:g1=((24:Int),false):=(by rcases xS with⟨k,e⟩ | ⟨k,e⟩ | ⟨k,e⟩ | ⟨k,e⟩ | ⟨k,e⟩ | ⟨k,e⟩<;>first | exact e | omega);rw[hp]at d2 d4;dsimp only at d2 d4;have hA:cW w_ g_=(true,{ g_ with Uses:=nB w_.Unit w_.Value (iO w_.Unit g_.Uses) }):=(by rw[ajg d3 c7,show(!(decide (0<=w_.Unit)&&decide (w_.Unit<=23)))=false by simp;omega];rfl);refine bu (λ(g4:Int)=>0<=g4/\g4<=g_.Uses.length/\(g_.Uses.take g4.toNat).any (qM w_.Unit)=false) (λ(g4:Int)=>(g_.Uses.length - g4).toNat) ?_ ?_
  ·intro eE g4 zU yt;obtain⟨qF,jf,zo⟩:=zU;unfold DD;refine wi ?_ ?_<;>intro c8
   ·refine wn<|br ?_ ?_<;>intro c9
    ·have c9o:=c9;have c9:=cG c9;have hI:uM g_.Uses (qM w_.Unit)=g4:=R5 (d:=aL) qF om zo (by unfold qM;simpa using c9o);refine wm<|wm ?_;unfold pz;refine wn<|br ?_ ?_<;>intro c10
     ·have D4:=c10;have c10:=cG c10;refine wm<|ai ?_;(refine(Cs hA).symm ▸ ?_;unfold nB iO;rw[hI,afl qF,D4];simp only[ahX];rw[X0 qF om])
     have D4:=c10;have c10:=cG c10;refine ai ?_;(refine(Cs hA).symm ▸ ?_;unfold nB iO;rw[hI,afl qF,D4];simp only[ahX,ags];rw[X0 qF om])
    have c9o:=c9;have c9:=cG c9;refine wn<|yt _ ?_ ?_
    ·(refine⟨ob,ob,?_⟩;rw[show(g4+1).toNat=g4.toNat+1 by omega,any_take_succ _ _ aL om,zo];unfold qM;simpa using c9o)
    exact ob
   have hI:decide (0<=uM g_.Uses (qM w_.Unit))=false:=(by rw[j7];rw[ahH om]at zo;exact zo);unfold pz;refine wn<|br ?_ ?_<;>intro c11
   ·have J7:=c11;have c11:=cG c11;refine wm<|ai ?_;(refine(Cs hA).symm ▸ ?_;unfold nB iO;rw[hI,J7,agt];rfl)
   have J7:=c11;have c11:=cG c11;refine ai ?_;(refine(Cs hA).symm ▸ ?_;unfold nB iO;rw[hI,J7,agt];rfl)
  (refine⟨ob,ob,by simp⟩)
 refine ai ?_;(exfalso;rcases xS with⟨k,e⟩ | ⟨k,e⟩ | ⟨k,e⟩ | ⟨k,e⟩ | ⟨k,e⟩ | ⟨k,e⟩<;>omega)
def Px {b_:aI} (h1:ka g_) (h2:w_.Value<=9223372036854775807):W (zm b_ g_ w_) (λ r=>r=VA w_ g_):=by
 obtain⟨z1,z2,z3,z4,z5,z6⟩:=id h1;unfold zm;refine wi ?_ ?_<;>intro c1
 ·exact hZ (by(exact⟨h1,h2,.inl ⟨c1,rfl⟩⟩))
 refine wi ?_ ?_<;>intro c2
 ·exact hZ (by(exact⟨h1,h2,.inr (.inl ⟨c2,rfl⟩)⟩))
 refine wi ?_ ?_<;>intro c3
 ·exact hZ (by(exact⟨h1,h2,.inr (.inr (.inl ⟨c3,rfl⟩))⟩))
 refine wi ?_ ?_<;>intro c4
 ·exact hZ (by(exact⟨h1,h2,.inr (.inr (.inr (.inl ⟨c4,rfl⟩)))⟩))
 refine wi ?_ ?_<;>intro c5
 ·exact hZ (by(exact⟨h1,h2,.inr (.inr (.inr (.inr (.inl ⟨c5,rfl⟩))))⟩))
 refine wi ?_ ?_<;>intro c6
 ·exact hZ (by(exact⟨h1,h2,.inr (.inr (.inr (.inr (.inr (⟨c6,rfl⟩)))))⟩))
 exact ai (MK (agx ⟨c1,c2,c3,c4,c5,c6⟩))
def Sp.Rg {l:ap1} {d:ap3} (h:(Sp.lS l d).2=0):(Sp.lS l d).1.On.length=l.length/\(Sp.lS l d).1.aT.length=l.length:=by
 unfold Sp.lS at h ⊢;cases h1:Sp.rY l d != 0 with
 | true=>rw[h1]at h;simp at h1;exact absurd h h1
 | false=>
  rw[h1]at h;cases h2:decide (0<=(Sp.IS l d).2)||!Sp.cK l ⟨Sp.dI l d,(Sp.IS l d).1.lv⟩ d with
  | true=>rw[h2]at h;cases h
  | false=>
   simp only[afr,ahS]at h2;have hm:=h2.2;unfold Sp.cK at hm;cases h3:!Sp.iM l ⟨Sp.dI l d,(Sp.IS l d).1.lv⟩||!Sp.dY l d with
   | true=>rw[h3]at hm;cases hm
   | false=>
    simp only[afr,ahS]at h3;have:=(Sp.wY.1 h3.1).2;exact⟨this.On,this.len⟩
def ach {b:aI} (h:Y2 b):xQ b:=by
 obtain⟨b1,b2,b3,b4,b5,b6,b7,b8,b9⟩:=h;exact⟨om,λ i hi=>by have:=b2 _ (getD_in (i:=i) az hi);omega,om,λ g hg=>by have:=b6 g hg;omega,om,λ g hg=>by have:=b8 g hg;omega,om⟩
def J9 {l:List α} {i:Int} {v:α} {n:Nat} (h:l.length<=n):(nA l i v).2.length<=n:=by rw[fG];exact h
def U4 {n:Nat} (h:ka g) (hn:g.Uses.length<=n) (h2:n<2000000):ka (cW w g).2/\(cW w g).2.Uses.length<=n+1:=by
 obtain⟨z1,z2,z3,z4,z5,z6⟩:=id h;have hn1:g.Uses.length<=n+1:=by omega
 have h0:ka g/\g.Uses.length<=n+1:=⟨h,hn1⟩;unfold cW;cases decide (w.Value<0)with
 | true=>exact h0
 | false=>
  cases w.bY==1 with
  | true=>exact⟨⟨J9 z1,z2,z3,z4,z5,z6⟩,hn1⟩
  | false=>
   cases w.bY==2 with
   | true=>exact⟨⟨z1,z2,J9 z3,z4,z5,z6⟩,hn1⟩
   | false=>
    cases w.bY==3 with
    | true=>
     cases decide (w.Value<=1)with
     | true=>exact⟨⟨z1,J9 z2,z3,z4,z5,z6⟩,hn1⟩
     | false=>exact h0
    | false=>
     cases w.bY==11 with
     | true=>
      cases decide (w.Value<=1)with
      | true=>exact⟨⟨z1,z2,z3,z4,J9 z5,z6⟩,hn1⟩
      | false=>exact h0
     | false=>
      cases w.bY==12 with
      | true=>
       cases decide (w.Value<=1)with
       | true=>exact⟨⟨z1,z2,z3,z4,z5,J9 z6⟩,hn1⟩
       | false=>exact h0
      | false=>
       cases w.bY==10 with
       | true=>
        cases !(decide (0<=w.Unit)&&decide (w.Unit<=23))with
        | true=>exact h0
        | false=>
         have hd:(iO w.Unit g.Uses).length<=n:=by
          unfold iO;cases decide (0<=uM g.Uses (qM w.Unit))with
          | true=>exact af3 (List.length_eraseIdx_le ..) hn
          | false=>exact hn
         have ha:(nB w.Unit w.Value (iO w.Unit g.Uses)).length<=n+1:=by
          unfold nB;cases decide (0<w.Value)with
          | true=>simp only[ahX,aeU,afT];omega
          | false=>simp only[ags];omega
         exact⟨⟨z1,z2,z3,af3 ha om,z5,z6⟩,ha⟩
       | false=>exact h0
def U5 (f:Nat->Nat):Nat->Nat
 | 0=>0
 | n+1=>U5 f n+f n
def ahn {f:Nat->Nat} {k:Nat} (h:∀i,f i<=k):∀n,U5 f n<=k*n:=by
 intro n;induction n with
 | zero=>exact ahU _
 | succ n ih=>simp only[U5];have:=h n;rw[Nat.mul_succ];omega
def xN {l:List α} {i:Nat} {d v:α} (h:l.getD i d=v) (hi:i<l.length):l.set i v=l:=by
 rw[<- h,ad7,aeA hi];exact akc hi
def G1 {l:List α} {i j:Nat} {d v:α} (hi:i<l.length):(l.set i v).getD j d=if j=i then v else l.getD j d:=by
 rw[ad7,anY,ad7];by_cases e:j=i
 ·subst e;rw[afc rfl,afc hi,afc rfl];rfl
 rw[aeV (λ q=>e q.symm),aeV e]
inductive Ch:ak->apX->ak->Prop
 | nil (g:ak):Ch g [] g
 | cons {g g1 h:ak} {w:aw} {ws:apX} (a:cW w g=(true,g1)) (n:g1≠g) (v:w.Value<=4611686018427387904) (b:Ch g1 ws h):Ch g (w::ws) h
def Ch.app {h k:ak} {u v:apX} (a:Ch g u h) (b:Ch h v k):Ch g (u++v) k:=by
 induction a with
 | nil=>exact b
 | cons a n v _ ih=>exact .cons a n v (ih b)
def Ch.one {g1:ak} (a:cW w g=(true,g1)) (n:g1≠g) (v:w.Value<=4611686018427387904):Ch g [w] g1:=.cons a n v (.nil _)
def U6 {k:Int} {l:apZ} (h:∀u∈l,u.cX.aZ≠k):iO k l=l:=by
 unfold iO uM;rw[show l.any (qM k)=false from aja.2 λ u hu=>by unfold qM;simpa using h u hu];rfl
def aci {k:Int} {l:apZ} (h:∃u∈l,u.cX.aZ=k):(iO k l).length+1=l.length/\(∀u∈iO k l,u∈l)/\∀u∈l,u.cX.aZ≠k->u∈iO k l:=by
 obtain⟨u,hu,e⟩:=h;have ha:l.any (qM k)=true:=ai7.2 ⟨u,hu,by unfold qM;simpa using e⟩;have hl:=ao9 (ai7.1 ha);have hg:=List.findIdx_getElem (w:=hl);have ed:iO k l=l.eraseIdx (l.findIdx (qM k)):=by
  unfold iO uM;rw[ha,afc rfl,afl om];rfl
 rw[ed];refine⟨by rw[aoE hl];omega,λ x hx=>List.mem_of_mem_eraseIdx hx,λ x hx hne=>?_⟩;rw[List.mem_eraseIdx_iff_getElem];obtain⟨i,hi,rfl⟩:=ahZ.1 hx;refine⟨i,hi,λ q=>?_,rfl⟩;subst q;exact hne (by simpa[qM]using(show qM k l[List.findIdx (qM k) l]=true from hg))
def sel (p:Nat->Bool) (w:Nat->aw):Nat->apX
 | 0=>[]
 | n+1=>sel p w n++(bif p n then[w n]else[])
def aeD (p:Nat->Bool) (w:Nat->aw) (n:Nat):(sel p w n).length=U5 (λ i=>bif p i then 1 else 0) n:=by
 induction n with
 | zero=>rfl
 | succ n ih=>rw[sel,aeU,ih,U5];cases p n<;>rfl
def NR {p:Nat->Bool} {w:Nat->aw} {x:aw}:∀ {n:Nat},x∈sel p w n->∃i,i<n/\p i=true/\x=w i:=by
 intro n;induction n with
 | zero=>intro h;cases h
 | succ n ih=>
  intro h;rcases ahL.1 h with q | q
  ·obtain⟨i,h1,h2⟩:=ih q;exact⟨i,om,h2⟩
  cases e:p n with
  | true=>rw[e]at q;exact⟨n,om,e,ahd.1 q⟩
  | false=>rw[e]at q;cases q
def aho {p:Nat->Bool} {w:Nat->aw} (hu:∀i:Nat,(w i).Unit=i) (n:Nat):((sel p w n).map aw.Unit).Nodup:=by
 induction n with
 | zero=>exact anq
 | succ n ih=>
  rw[sel,akj,apN];refine⟨ih,by cases p n<;>simp,λ a ha b hb e=>?_⟩;subst e;obtain⟨x,hx,e1⟩:=aio.1 ha;obtain⟨y,hy,e2⟩:=aio.1 hb;obtain⟨i,hi,_,rfl⟩:=NR hx;cases q:p n with
  | true=>rw[q]at hy;rw[ahd.1 hy]at e2;rw[hu]at e1 e2;omega
  | false=>rw[q]at hy;cases hy
def ahp (k:Int) (ws:apX):Nat:=ws.countP λ x=>x.bY==k
end Go.Proofs.YtifekdmmpbcdgaaGreatDoor
namespace Go.Proofs.YtifekdmmpbcdgaaGreatDoor
open Go.Ab
set_option maxRecDepth 100000
def Ac {α β:Type} (f:α->β) (l:List α) (d:α) {i:Nat} (h:i<l.length):(l.take (i+1)).map f=(l.take i).map f++[f (l.getD i d)]:=by
 rw[alV,akj,aeA h,ad7,aeA h];rfl
def aji (g:bL) (f:ByteArray):Int:=uM g.aj λ x=>f.toList==x.toList
def ama (p:bq) (f:ByteArray) (n:Nat):apU:=((List.range n).filter λ i=>decide (0<=aji (p.ax.getD i ay) f)).map λ i=>((i:Nat):Int)
def ZP (p:bq):Prop:=∀g∈p.ax,g.bH.length<=2000000/\g.aj.length<=2000000
end Go.Proofs.YtifekdmmpbcdgaaGreatDoor
namespace Go.Proofs.YtifekdmmpbcdgaaGreatDoor
open Go.Ab
set_option maxRecDepth 100000
def cV {p:Prop} {c:Int} {A:Int->Prop} (hc:c≠0) (h:BF p c A 0):¬p/\A 0:=by
 rcases h with⟨_,h⟩ | h
 ·exact absurd h.symm hc
 exact h
variable {b:aI} {l:apW} {ms:apU}
def SG {g:ak} {bt:Bool} (h:kC b l ms g bt 0):wM b.aM 0/\sP b.aM (g.Uses.map ah.cX):=by
 obtain⟨_,h⟩:=cV (by decide) h;obtain⟨_,h⟩:=cV (by decide) h;obtain⟨_,h⟩:=cV (by decide) h;obtain⟨_,h⟩:=cV (by decide) h;obtain⟨_,h⟩:=cV (by decide) h;exact ahR.1 (cV (by decide) h).1
def Ka (ms:apU) (us:apZ):apZ:=us.filter λ u=>ms.contains u.dE
variable {α:Type}
def Be (P:α->Bool) (l:List α) (d:α) {i:Nat} (h:i<l.length):(l.take (i+1)).filter P=(l.take i).filter P++(if P (l.getD i d)then[l.getD i d]else[]):=by
 rw[alV,apF,aeA h,ad7,aeA h];congr 1;simp only[Option.toList_some,akP,ajX,List.filter_nil]
abbrev GA:=apU×apV×apU×apV×apV×Int×Int×apZ
structure apC (r:GA):Prop where
 a:r.1.length<=16
 b:r.2.1.length<=16
 c:r.2.2.1.length<=16
 d:r.2.2.2.1.length<=32
 e:r.2.2.2.2.1.length<=16
structure apD (b:aI) (fns:ap6) (dev:Int) (old:apZ) (new:apZ):Prop where
 pa:wM b.aM 0
 len:new.length=fns.length
 bd:fns.length<=10
 at_:∀i:Nat,i<new.length->(new.getD i aL).dE=dev/\0<=(new.getD i aL).cX.aZ/\(new.getD i aL).cX.aZ<b.aM.ax.length/\(new.getD i aL).cX.bD=aji (b.aM.ax.getD (new.getD i aL).cX.aZ.toNat ay) (fns.getD i ByteArray.empty)
 lst:fns.length=1->∀k∈ama b.aM (fns.getD 0 ByteArray.empty) b.aM.ax.length,k<(new.getD 0 aL).cX.aZ->
  ∃u∈old,∃x,x∈(b.aM.ax.getD u.cX.aZ.toNat ay).bH/\x∈(b.aM.ax.getD k.toNat ay).bH
variable {l_:apW}
def Kb {ae:apU} (h1:∀x∈l_,x.aj.length<=10) (h2:ae.length<=10000):W (mg l_ ae) (λ _=>True):=by
 unfold mg;refine bu (λ g1:Int×Int=>0<=g1.2/\0<=g1.1/\g1.1<=10*g1.2) (λ g1=>(ae.length - g1.2).toNat) ?_ ob;intro ab g1 ⟨a1,a2,a3⟩ ih1;unfold xE;refine br (λ c=>?_) (λ c=>ai trivial);have c:=cG c;refine wn<|br ?_ ?_<;>intro c2
 ·have c2:=cG c2;have hx:=h1 _ (getD_in (i:=(ae.getD g1.2.toNat 0).toNat) bb om);refine wn<|aF (by unfold av;omega) ?_;refine aF (by unfold av;omega) ?_;exact ih1 _ ⟨by dsimp only;omega,by dsimp only;omega,by dsimp only;omega⟩ (by dsimp only;omega)
 refine aF (by unfold av;omega) ?_;exact ih1 _ ⟨by dsimp only;omega,by dsimp only;omega,by dsimp only;omega⟩ (by dsimp only;omega)
structure Ga2 (r:GA):Prop where
 a:r.1.length<=2000000
 b:r.2.1.length<=2000000
 c:r.2.2.1.length<=2000000
 d:r.2.2.2.1.length<=2000000
 e:r.2.2.2.2.1.length<=2000000
def Kc (p e:Int):Ga2 ([],[],[],[],[],p,e,[]):=⟨by simp,by simp,by simp,by simp,by simp⟩
structure Lst (n:Nat) (C:apV->Prop) (ls:apU) (s:apV):Prop where
 ln:s.length=n
 cl:C s
 mm:∀x∈ls,s.getD x.toNat false=true
def jn {α:Type} (f:aC->List α) (l:apW) (ms:apU):List α:=ms.flatMap λ m=>f (l.getD m.toNat bb)
def Kd {f:aC->List α} {i:Nat} (h:i<ms.length):jn f l (ms.take (i+1))=jn f l (ms.take i)++f (l.getD (ms.getD i 0).toNat bb):=by
 unfold jn;rw[eI 0 h,aoh,ao1,apT,aiN]
def Lw {f:aC->List α} {c:Nat}:∀ {ms:apU},(∀m∈ms,(f (l.getD m.toNat bb)).length<=c)->(jn f l ms).length<=c*ms.length:=by
 intro ms;induction ms with
 | nil=>intro _;exact ahU _
 | cons m ms ih=>
  intro h;have h1:=h m ajN;have h2:=ih λ x hx=>h x (ahV _ hx);unfold jn at h2 ⊢;rw[ao1,aeU,ahP,Nat.mul_succ];omega
def usF (n:aC):apU:=bif decide (n.dz<0)then[]else[n.dz]
def aeE (n:aC):(usF n).length<=1:=by
 unfold usF;cases decide (n.dz<0)<;>simp
def ajj (l:apY) (m:ap4) (s:apU):Prop:=VS l s/\cK l s m=true
structure AgA (b:aI) (l:apW) (ms:apU) (us:apZ) (x:ak):Prop where
 st:ajj b.bj (jn aC.bO l ms) x.Setting
 ra:Sp.lS b.aX (jn aC.dq l ms)=(x.aY,0)
 us:x.Uses=Ka ms us
 re:Lst b.bc.length (ahb b.bc) (jn aC.bc l ms) x.Released
 po:Lst b.bw.length (ahc b.bw) (jn usF l ms) x.bg
def SmN (l:apW):Prop:=∀x∈l,x.bO.length<=1/\x.dq.length<=1/\x.aj.length<=2
def SH (h:qN l ms):∀m∈ms,0<=m/\m<l.length:=iN 0 λ j hj=>(h j om).1
def F7 (h:qN l ms) {m:Int} (hm:m∈ms):l.getD m.toNat bb∈l:=getD_in bb (by have:=SH h m hm;omega)
def SI (hn:jr b l 0) (hs:SmN l) (hd:qN l ms) (h4:ms.length<=30):Sp.dY b.aX (jn aC.dq l ms)=true/\(jn aC.dq l ms).length<=30:=by
 obtain⟨hb,_,hnd⟩:=sm hn;have hl:=Lw (f:=aC.dq) (l:=l) (c:=1) (ms:=ms) λ m hm=>(hs _ (F7 hd hm)).2.1;refine⟨?_,om⟩;unfold Sp.dY;rw[hb.su,afl om,aja.2 λ x hx=>?_]
 ·rfl
 obtain⟨m,hm,hx⟩:=anO.1 hx;obtain⟨x1,x2,x3,x4,x5,x6,x7⟩:=(hnd _ (F7 hd hm)).dw x hx;unfold Sp.OZ Sp.cn;simp only[aiG,ahA,aiI,aie];omega
def X1 (h:jr b l 0):wM b.aM 0/\Qr b.bc 0/\M1 b.bw 0:=by
 obtain⟨h1,_⟩:=F5 h;obtain⟨_,h3⟩:=F5 h1;obtain⟨_,h4⟩:=F5 h3;obtain⟨b3,h5⟩:=F5 h4;exact⟨b3,F5 h5⟩
def Lx {l:apY} {s:apU} {m:ap4}:cK l s m=true↔iL l m=true/\gQ l s=true/\ownB l (dx l s)=true/\∀x∈m,FI (dx l s) x=false:=by
 unfold cK;rw[aeP,aeP,aeP,ahA,and_assoc];refine and_congr_right λ _=>and_congr_right λ _=>and_congr_right λ _=>?_;constructor
 ·intro h x hx;cases q:FI (dx l s) x with
  | false=>rfl
  | true=>rw[ai7.2 ⟨x,hx,q⟩]at h;cases h
 intro h;exact aja.2 λ x hx=>by rw[h x hx];decide
def Rh {l:apY} {s:apU} {m m':ap4} (h:cK l s m=true) (hl:iL l m'=true) (hm:∀x∈m',x∈m):cK l s m'=true:=by
 obtain⟨_,h2,h3,h4⟩:=Lx.1 h;exact Lx.2 ⟨hl,h2,h3,λ x hx=>h4 x (hm x hx)⟩
def eO {p:Prop} {c:Int} {A:Int->Prop} (h:¬p) (a:A 0):BF p c A 0:=.inr ⟨h,a⟩
def acn {us:apZ} {x:ak} (hn:jr b l 0) (hs:SmN l) (hd:qN l ms) (h4:ms.length<=30) (h:AgA b l ms us x) (ho:sP b.aM (x.Uses.map ah.cX)) (hf:Zz b l ms x):kC b l ms x false 0:=by
 obtain⟨s1,s2⟩:=h.st;obtain⟨hpa,hra,hda⟩:=X1 hn;obtain⟨_,_,hnd⟩:=sm hn;obtain⟨m1,m2,m3,m4⟩:=Lx.1 s2;have hmt:cK b.bj x.Setting []=true:=Rh s2 (by unfold iL;rw[(xK m1).1];rfl) nofun;have hll:(Sp.lS b.aX (jn aC.dq l ms)).2=0:=by rw[h.ra]
 have hlr:=Sp.Rg hll;rw[h.ra]at hlr;have Zy:∀i:Nat,(i:Int)<ms.length->ms.getD i 0∈ms:=λ i hi=>getD_in 0 om;have hin:∀ {α:Type} (f:aC->List α) (i:Nat),(i:Int)<ms.length->∀x∈f (l.getD (ms.getD i 0).toNat bb),x∈jn f l ms:=λ f i hi x hx=>anO.2 ⟨_,Zy i hi,hx⟩;refine eO (λ q=>q hn) (eO (λ q=>q ⟨hd,⟨by rw[s1.1],by rw[hlr.1],by rw[hlr.2],by rw[h.re.ln],by rw[h.po.ln]⟩,λ i hi=>s1.2 i (by rw[s1.1]at hi;omega),λ i hi=>?_⟩) (eO (by rw[hmt];decide) (eO (λ q=>q λ i hi j hj=>?_) (eO ?_ (eO (λ q=>q ⟨hpa,ho⟩) (eO (λ q=>q hf) (eO (λ q=>q ⟨⟨hra,by rw[h.re.ln],λ i hi j hj e=>h.re.cl i hi e _ (getD_in 0 om)⟩,λ i hi j hj=>?_⟩) (eO (λ q=>q ⟨⟨hda,by rw[h.po.ln],λ i hi=>⟨λ e=>h.po.cl.al i hi e,λ e=>h.po.cl.pa i hi e⟩⟩,λ i hi e=>?_⟩) rfl))))))))
 ·have hu:=getD_in (l:=x.Uses) (i:=i) aL om;have hu2:x.Uses.getD i aL∈Ka ms us:=by rw[<- h.us];exact hu
  have hx:=SH hd _ (ajO.1 (ajK.1 hu2).2);omega
 ·have hx:=getD_in (l:=(l.getD (ms.getD i 0).toNat bb).bO) (i:=j) bW om;refine(IW hmt ((hnd _ (F7 hd (Zy i hi))).lm _ hx)).1 (Rh s2 ?_ λ y hy=>?_)
  ·obtain⟨q1,q2,q3⟩:=xK m1;have:=A6 m1 _ (hin aC.bO i hi _ hx);unfold iL;rw[q1,akp,List.any_nil,aoC];rw[show A4 b.bj.length ⟨((l.getD (ms.getD i 0).toNat bb).bO.getD j bW).cF,((l.getD (ms.getD i 0).toNat bb).bO.getD j bW).ij,((l.getD (ms.getD i 0).toNat bb).bO.getD j bW).cY⟩=false from this];rfl
  rw[ahd]at hy;rw[hy];exact hin aC.bO i hi _ hx
 ·rcases Sp.WM (SI hn hs hd h4).1 with⟨_,q⟩ | ⟨q,_⟩
  ·rw[h.ra]at q;have:=q.ok;show ¬ Sp.cK b.aX x.aY (jn aC.dq l ms)=false;rw[this];decide
  rw[h.ra]at q;exact absurd (Prod.mk.inj q).2 (by decide)
 ·exact h.re.mm _ (hin aC.bc i hi _ (getD_in 0 om))
 refine h.po.mm _ (hin usF i hi _ ?_);unfold usF;rw[afe om];exact ahd.2 rfl
variable {b_:aI}
def F8 {ae:apU} {g_:ak} {cc:Int} (h1:xQ b_) (h2:ZP b_.aM) (h3:Ck l_) (h4:ae.length<=10000) (h5:ka g_):W (rR b_ l_ ae g_ cc) (λ r=>r=0->jr b_ l_ 0/\(wM b_.aM 0/\sP b_.aM (g_.Uses.map ah.cX))/\0<=cc/\cc<l_.length):=by
 unfold rR;refine ar (tZ h1 h2 h3) λ v1 hv1=>?_;apply br<;>intro c1
 ·have c1:=cG c1;exact ai λ e=>absurd e c1
 have c1:=cG c1;rw[c1]at hv1;have hl:=(sm hv1).2.1;refine ar (n7 om om) λ v2 _=>?_;refine br (λ c2=>ai nofun) (λ c2=>?_);refine ar (P:=λ v=>v=true->wM b_.aM 0/\sP b_.aM (g_.Uses.map ah.cX)) ?_ λ v3 hv3=>?_
 ·unfold Fw;refine ar (DN h1 h2 h3 h4 h5) λ v hv=>ai λ e=>?_;have e:v=0:=by simpa using e
  rw[e]at hv;exact SG hv
 refine br (λ c3=>ai nofun) (λ c3=>?_);have c3:=cG c3;refine br (λ c4=>ai nofun) (λ c4=>?_);have c4:=cG c4;exact ai λ _=>⟨hv1,hv3 c3,c4.1,c4.2⟩
def U7 {f:aC->List α} {k:Nat} (hf:∀x∈l,(f x).length<=2000000) (hin:∀m∈ms,0<=m/\m<l.length) (hm:ms.length<=10000) (hk:k<=64):W (bU (λ(self:Int×List α->M (List α)) g1=>
 bif(decide (g1.1<(ms.length:Int)))then
  need (0<=g1.1/\g1.1<(ms.length:Int))<|
  bif((decide ((0:Int)<=(ms.getD g1.1.toNat 0)))&&(decide ((ms.getD g1.1.toNat 0)<(l.length:Int))))then
   need (0<=(ms.getD g1.1.toNat 0)/\(ms.getD g1.1.toNat 0)<(l.length:Int))<|
   need ((g1.2.length+(f (l.getD ((ms.getD g1.1.toNat 0).toNat) bb)).length)*k<=big)<|
   need (av (g1.1+(1:Int)))<|
   self ((g1.1+(1:Int)),(g1.2++f (l.getD ((ms.getD g1.1.toNat 0).toNat) bb)))
  else
   need (av (g1.1+(1:Int)))<|
   self ((g1.1+(1:Int)),g1.2)
 else
  ret g1.2) ((0:Int),([]:List α))) (λ r=>r=jn f l ms):=by
 refine bu (λ g1:Int×List α=>0<=g1.1/\g1.1<=ms.length/\g1.2=jn f l (ms.take g1.1.toNat)) (λ g1=>(ms.length - g1.1).toNat) ?_ ⟨ob,ob,rfl⟩;intro self g1 ⟨h1,h2,h3⟩ ih;refine wi ?_ ?_<;>intro c
 ·have hx:=hin _ (getD_in (i:=g1.1.toNat) 0 om);have hl:=Lw (f:=f) (l:=l) (c:=2000000) (ms:=ms.take g1.1.toNat) λ m q=>hf _ (getD_in bb (by have:=hin m (aoA q);omega));rw[<- h3,afs]at hl;have hv2:=hf _ (getD_in (i:=(ms.getD g1.1.toNat 0).toNat) bb om);have hb:(g1.2.length+(f (l.getD ((ms.getD g1.1.toNat 0).toNat) bb)).length)*k<=(g1.2.length+(f (l.getD ((ms.getD g1.1.toNat 0).toNat) bb)).length)*64:=aj6 _ hk;refine wn<|br (λ c2=>?_) (λ c2=>by rw[afl hx.1,afl hx.2]at c2;cases c2);refine aF hx ?_;refine aF (by unfold big;omega) ?_;refine wn ?_;exact ih _ ⟨ob,ob,by dsimp only;rw[show(g1.1+1).toNat=g1.1.toNat+1 by omega,Kd om,h3]⟩ ob
 exact ai (by rw[h3,ahH om])
def F9 {l_:apU} {x_:Int} (h:l_.length<=2000000):W (AQ l_ x_) (λ r=>r=l_.contains x_):=by
 unfold AQ;refine bu (λ g1:Int=>0<=g1/\∀j:Nat,(j:Int)<g1->l_.getD j 0≠x_) (λ g1=>(l_.length - g1).toNat) ?_ ⟨ob,λ j hj=>by omega⟩;intro ab g1 ⟨a1,a2⟩ ih1;unfold MA;refine wi ?_ ?_<;>intro c
 ·refine wn<|wi ?_ ?_<;>intro c2
  ·refine ai (ajO.2 ?_).symm;rw[<- c2];exact getD_in 0 om
  exact aF ob (ih1 _ ⟨om,cM a2 a1 c2⟩ om)
 refine ai ?_;cases q:l_.contains x_ with
 | false=>rfl
 | true=>
  have:∀y∈l_,y≠x_:=iN 0 λ j hj=>a2 j om;exact absurd rfl (this _ (ajO.1 q))
def FL (b:aI) (l:apW) (ms:apU):Prop:=(∃t,VS b.bj t/\cK b.bj t (jn aC.bO l ms)=true)/\(Sp.lS b.aX (jn aC.dq l ms)).2=0
variable {M_:apU}
def Ke {l_:apZ} (h1:l_.length<=2000000) (h2:M_.length<=10000):W (AR l_ M_) (λ r=>r=Ka M_ l_):=by
 unfold AR;refine bu (λ g1:Int×apZ=>0<=g1.1/\g1.1<=l_.length/\g1.2=Ka M_ (l_.take g1.1.toNat)) (λ g1=>(l_.length - g1.1).toNat) ?_ ⟨ob,ob,rfl⟩;intro ab g1 ⟨a1,a2,a3⟩ ih1;have hl:g1.2.length<=g1.1.toNat:=by
  rw[a3];unfold Ka;exact af3 (aj8 _ _) (by rw[afs];omega)
 unfold B5;refine wi ?_ ?_<;>intro c
 ·have hs:=Be (λ u:ah=>M_.contains u.dE) l_ aL (i:=g1.1.toNat) om;have e:(g1.1+1).toNat=g1.1.toNat+1:=by omega
  refine wn<|ar (F9 om) λ v8 wJ=>?_;apply br<;>intro c2
  ·rw[c2]at wJ;refine aF (by unfold big;omega) ?_;refine wn<|ih1 _ ⟨ob,ob,?_⟩ ob;dsimp only;unfold Ka at a3 ⊢;rw[e,hs,<- a3,afc wJ.symm]
  rw[c2]at wJ;refine wn<|ih1 _ ⟨ob,ob,?_⟩ ob;dsimp only;unfold Ka at a3 ⊢;rw[e,hs,<- a3,aeV (by rw[<- wJ];exact Bool.false_ne_true),aiN]
 exact ai (by rw[a3,ahH om])
def Nf {l_:apZ} (h1:l_.length<=2000000) (h2:M_.length<=10000):W (B8 l_ M_) (λ r=>r=Ka M_ l_):=Ke h1 h2
def Ng {l_:ap7} {gE:apU} (h1:∀g∈l_,g.cS.length<=2000000) (h2:gE.length<=100000000000) (h0:Qr l_ 0) (h4:∀x∈gE,0<=x/\x<l_.length):W (wz l_ gE) (λ r=>r.2=0/\Lst l_.length (ahb l_) gE r.1):=by
 unfold wz;refine ar (xW h1) λ v1 hv1=>?_;have e1:=Qr.fun _ _ hv1 h0;subst e1;refine br (λ c1=>by cases c1) (λ c1=>?_)
 obtain⟨p1,p2⟩:=h0.ok;refine wn<|bu (λ(g1:Int×apV)=>0<=g1.1/\g1.2.length=l_.length/\(∀j:Nat,(j:Int)<g1.1->g1.2.getD (gE.getD j 0).toNat false=true)) (λ(g1:Int×apV)=>(gE.length - g1.1).toNat) ?_ ?_
 ·intro ab g1 cN bQ;obtain⟨cz,bB,bA⟩:=cN;unfold Dp;refine wi ?_ ?_<;>intro c2
  ·refine wn ?_;have hm:=getD_in (l:=gE) (i:=g1.1.toNat) 0 om;have hx:=h4 _ hm;refine wn<|br (λ c3=>by have c3:=cG c3;omega) (λ c3=>?_)
   ·have c3:=cG c3;refine wm<|wn ?_;refine bQ _ ?_ ?_
    ·(refine⟨ob,ob,λ j hj=>Cn ?_ om⟩;by_cases q:(j:Int)<g1.1;(exact .inl (bA j q));(have e:j=g1.1.toNat:=by(try dsimp only at hj);omega);subst e;exact .inr rfl)
    exact ob
  refine wn<|bu (λ(g2:Int×apV) => -1<=g2.1/\g2.1<l_.length/\g2.2.length=l_.length/\(∀j:Nat,(j:Int)<gE.length->g2.2.getD (gE.getD j 0).toNat false=true)/\(∀i:Nat,g2.1<(i:Int)->(i:Int)<l_.length->g2.2.getD i false=true->∀x∈(l_.getD i cv).cS,g2.2.getD x.toNat false=true)) (λ(g2:Int×apV)=>(g2.1+1).toNat) ?_ ?_
  ·intro cy g2 jK mo;obtain⟨mO,fH,jB,vM,Ii⟩:=jK;unfold AP;refine wi ?_ ?_<;>intro c4
   ·have hgl:=h1 _ (getD_in (i:=g2.1.toNat) cv om);refine bu (λ(g5:Int×apV)=>0<=g5.1/\g5.2.length=l_.length/\(∀j:Nat,(j:Int)<gE.length->g5.2.getD (gE.getD j 0).toNat false=true)/\(∀i:Nat,g2.1<(i:Int)->(i:Int)<l_.length->g5.2.getD i false=true->∀x∈(l_.getD i cv).cS,g5.2.getD x.toNat false=true)/\(∀k:Nat,(k:Int)<g5.1->g5.2.getD (((l_.getD g2.1.toNat cv).cS).getD k 0).toNat false=true)) (λ(g5:Int×apV)=>((l_.getD g2.1.toNat cv).cS.length - g5.1).toNat) ?_ ?_
    ·intro jX g5 Lr Ls;obtain⟨Ib,xR,DK,Pq,U3⟩:=Lr;unfold AO;refine wm<|br ?_ ?_<;>intro c5
     ·have sN:=c5;have c5:=cG c5;simp only[aeP,ahQ]at sN;have hxm:=getD_in (l:=(l_.getD g2.1.toNat cv).cS) (i:=g5.1.toNat) 0 om;have hx:=p2 g2.1.toNat om _ hxm;refine wm<|wm ?_;refine Ls _ ?_ ?_
      ·(refine⟨ob,ob,λ j hj=>Cn (.inl (DK j hj)) om,λ i h3 h4 h5 x hx2=>?_,λ k hk=>Cn ?_ om⟩;(rw[tX om]at h5;exact Cn (.inl (Pq i h3 h4 h5 x hx2)) om);by_cases q:(k:Int)<g5.1;(exact .inl (U3 k q));(have e:k=g5.1.toNat:=by(try dsimp only at hk);omega);subst e;exact .inr rfl)
      exact ob
     have sN:=c5;have c5:=cG c5;refine wn<|mo _ ?_ ?_
     ·(refine⟨ob,ob,xR,DK,λ i h3 h4 h5=>?_⟩;by_cases q:g2.1<(i:Int);(exact Pq i q h4 h5);(have e:i=g2.1.toNat:=by(try dsimp only at h3);omega);subst e;refine iN 0 λ k hk=>U3 k ?_;rw[h5,aoB]at sN;have:=ahT sN;omega)
     exact ob
    (refine⟨ob,jB,vM,Ii,λ k hk=>by(try dsimp only at hk);omega⟩)
   exact ai (⟨rfl,jB,λ i hi=>Ii i om hi,iN 0 λ j hj=>vM j om⟩)
  (refine⟨ob,ob,bB,λ j hj=>bA j om,λ i h1 h2=>by(try dsimp only at h1);omega⟩)
 (refine⟨ob,by simp,λ j hj=>by(try dsimp only at hj);omega⟩)
def SJ {l_:ap8} {eL:apU} (h1:M1 l_ 0) (h3:eL.length<=100000000000) (h4:∀x∈eL,0<=x/\x<l_.length):W (GR l_ eL) (λ r=>r=0):=by
 unfold GR;refine ar xX λ v1 hv1=>?_;have e1:=M1.fun _ _ hv1 h1;subst e1;refine br (λ c1=>by cases c1) (λ _=>?_);refine bu (λ g1:Int=>0<=g1) (λ g1=>(eL.length - g1).toNat) ?_ (air _);intro ab g1 a1 ih1;unfold JL;refine br (λ c=>?_) (λ c=>ai rfl);have c:=cG c;have hx:=h4 _ (getD_in (i:=g1.toNat) 0 om);refine wm<|br (λ c2=>by have c2:=cG c2;omega) (λ c2=>?_);refine wn ?_;exact ih1 _ om om
def U8 {l_:ap8} {eL:apU} (h1:eL.length<=2000000) (h0:M1 l_ 0) (h4:∀x∈eL,0<=x/\x<l_.length):W (JN l_ eL) (λ r=>r.2=0/\Lst l_.length (ahc l_) eL r.1):=by
 unfold JN;refine ar (SJ h0 om h4) λ v1 hv1=>?_;subst hv1;refine br (λ c1=>by cases c1) (λ c1=>?_)
 obtain⟨p1,p2⟩:=h0.ok;have p3:=h4;refine wn<|bu (λ(g1:Int×apV)=>0<=g1.1/\g1.2.length=l_.length/\(∀j:Nat,(j:Int)<g1.1->g1.2.getD (eL.getD j 0).toNat false=true)) (λ(g1:Int×apV)=>(eL.length - g1.1).toNat) ?_ ?_
 ·intro ab g1 cN bQ;obtain⟨cz,bB,bA⟩:=cN;unfold Mz;refine wi ?_ ?_<;>intro c2
  ·have hm:=getD_in (l:=eL) (i:=g1.1.toNat) 0 om;have hx:=p3 _ hm;refine wm<|wn ?_;refine bQ _ ?_ ?_
   ·(refine⟨ob,ob,λ j hj=>Cn ?_ om⟩;by_cases q:(j:Int)<g1.1;(exact .inl (bA j q));(have e:j=g1.1.toNat:=by(try dsimp only at hj);omega);subst e;exact .inr rfl)
   exact ob
  refine wn<|bu (λ(g2:Int×apV) => -1<=g2.1/\g2.1<l_.length/\g2.2.length=l_.length/\(∀j:Nat,(j:Int)<eL.length->g2.2.getD (eL.getD j 0).toNat false=true)/\(∀i:Nat,g2.1<(i:Int)->(i:Int)<l_.length->RgK l_ g2.2 i)) (λ(g2:Int×apV)=>(g2.1+1).toNat) ?_ ?_
  ·intro cy g2 jK mo;obtain⟨mO,fH,jB,vM,Ii⟩:=jK;unfold JM;refine wi ?_ ?_<;>intro c3
   ·have hp:=p2 g2.1.toNat om;refine wm<|wn ?_;unfold B4;refine wm<|br ?_ ?_<;>intro c4
    ·have lR:=c4;have c4:=cG c4;refine wm<|wn ?_;refine mo _ ?_ ?_
     ·(have q:=Bool.and_eq_true_iff.1 lR;have q2:=afj q.2;refine⟨ob,ob,ob,λ j hj=>Cn (.inl (J5 om (vM j hj))) (by rw[afx];omega),λ k h3 h4=>ai5 om jB om Ii (by(try dsimp only at h3);omega) h4⟩)
     exact ob
    have lR:=c4;have c4:=cG c4;refine wn<|mo _ ?_ ?_
    ·(refine⟨ob,ob,ob,λ j hj=>J5 om (vM j hj),λ k h3 h4=>ai4 om jB Ii (λ hq=>by rw[hq.1,afl hq.2]at lR;cases lR) (by(try dsimp only at h3);omega) h4⟩)
    exact ob
   exact ai (⟨rfl,jB,⟨λ i hi=>(Ii i om hi).1,λ i hi=>(Ii i om hi).2⟩,iN 0 λ j hj=>vM j om⟩)
  (refine⟨ob,ob,bB,λ j hj=>bA j om,λ i h1 h2=>by(try dsimp only at h1);omega⟩)
 (refine⟨ob,by simp,λ j hj=>by(try dsimp only at hj);omega⟩)
def ajk (hn:jr b l 0) (hd:qN l ms):∀x∈jn aC.bc l ms,0<=x/\x<b.bc.length:=λ x hx=>by
 obtain⟨m,hm,hx⟩:=anO.1 hx;exact((sm hn).2.2 _ (F7 hd hm)).rs x hx
def ajl (hn:jr b l 0) (hd:qN l ms):∀x∈jn usF l ms,0<=x/\x<b.bw.length:=λ x hx=>by
 obtain⟨m,hm,hx⟩:=anO.1 hx;have hdm:=((sm hn).2.2 _ (F7 hd hm)).dm;unfold usF at hx;cases q:decide ((l.getD m.toNat bb).dz<0)with
 | true=>rw[q]at hx;cases hx
 | false=>
  rw[q]at hx;have:=ahT q;have hx:=ahd.1 hx;omega
def x8 {g_:ak} (h1:xQ b_) (h2:ZP b_.aM) (h3:Ck l_) (h4:M_.length<=10000) (h5:g_.Uses.length<=2000000):W (uJ b_ l_ M_ g_) (λ r=>Ga2 r/\r.2.2.2.2.2.2.2.length<=g_.Uses.length/\(r.2.2.2.2.2.2.1=0->jr b_ l_ 0/\qN l_ M_/\AgA b_ l_ M_ g_.Uses ⟨r.1,⟨r.2.1,r.2.2.1⟩,r.2.2.2.2.2.2.2,r.2.2.2.1,r.2.2.2.2.1⟩)):=by
 obtain⟨z1,z2,z3,z4,z5,z6,z7⟩:=id h1;unfold uJ;refine ar (tZ h1 h2 h3) λ v1 hv1=>?_;refine br (λ c1=>ai ⟨Kc _ _,by simp,λ e=>by have c1:=cG c1;exact absurd e c1⟩) (λ c1=>?_);have c1:=cG c1;rw[c1]at hv1;obtain⟨hb,hl12,hnd⟩:=sm hv1;refine ar (n7 om om) λ v2 hv2=>?_;refine br (λ c2=>ai ⟨Kc _ _,by simp,nofun⟩) (λ c2=>?_);have c2:=cG c2;have hdf:=hv2.1 c2;have hin:=SH hdf;obtain⟨_,hra,hda⟩:=X1 hv1;refine ar (U7 (k:=24) (f:=aC.bO) (λ x hx=>by have:=(hnd x hx).ll;omega) hin h4 om) λ v3 hv3=>?_;refine ar (U7 (k:=32) (f:=aC.dq) (λ x hx=>by have:=(hnd x hx).dl;omega) hin h4 om) λ v4 hv4=>?_;refine ar (lp (P:=λ _=>True) λ _=>Kb (λ x hx=>(hnd x hx).fl) h4) λ v5 _=>?_;refine br (λ c3=>ai ⟨Kc _ _,by simp,nofun⟩) (λ c3=>?_);simp only[afr]at c3;obtain⟨⟨c3,c3'⟩,_⟩:=c3;have c3:=cG c3;have c3:=cG c3';refine ar (Qo z1 om) λ v6 hv6=>?_;refine br (λ c4=>ai ⟨Kc _ _,by simp,nofun⟩) (λ c4=>?_);have c4:=cG c4;obtain⟨hs0,hft,hlb⟩:=hv6 c4;have hst:ajj b_.bj _ v6.1:=⟨JT hs0,by rw[IU hlb hs0];exact hft⟩;have hsl:=hst.1.1;refine ar (Sp.Qk z3 om) λ v7 hv7=>?_;refine br (λ c5=>ai ⟨Kc _ _,by simp,nofun⟩) (λ c5=>?_);have c5:=cG c5;rw[hv7]at c5;have hle:=Sp.Rg c5;rw[<- hv7]at hle;refine bu (λ g1:Int×apU×apU=>0<=g1.1/\g1.1<=M_.length/\g1.2.1=jn aC.bc l_ (M_.take g1.1.toNat)/\g1.2.2=jn usF l_ (M_.take g1.1.toNat)) (λ g1=>(M_.length - g1.1).toNat) ?_ ⟨ob,ob,rfl,rfl⟩;intro ab g1 ⟨a1,a2,a3,a4⟩ ih1;have l3:=Lw (f:=aC.bc) (l:=l_) (c:=2000000) (ms:=M_.take g1.1.toNat) λ m q=>(h3.nd _ (F7 hdf (aoA q))).1;have l4:=Lw (f:=usF) (l:=l_) (c:=1) (ms:=M_.take g1.1.toNat) λ m _=>aeE _;rw[<- a3,afs]at l3;rw[<- a4,afs]at l4;unfold vi;refine wi ?_ ?_<;>intro c
 ·have hm:=(hdf g1.1.toNat om).1;have hx:=(h3.nd _ (getD_in (i:=(M_.getD g1.1.toNat 0).toNat) bb om)).1;have e:(g1.1+1).toNat=g1.1.toNat+1:=by omega
  refine aF om ?_;refine aF hm ?_;refine aF (by unfold big;omega) ?_;refine aF hm ?_;refine wi ?_ ?_<;>intro c6
  ·refine aF hm ?_;refine aF (by unfold big;omega) ?_;refine aF (by unfold av;omega) ?_;exact ih1 _ ⟨by dsimp only;omega,by dsimp only;omega,by dsimp only;rw[e,Kd om,a3],by dsimp only;rw[e,Kd om,a4];congr 1;unfold usF;rw[afe om];rfl⟩ (by dsimp only;omega)
  refine aF (by unfold av;omega) ?_;exact ih1 _ ⟨by dsimp only;omega,by dsimp only;omega,by dsimp only;rw[e,Kd om,a3],by dsimp only;rw[e,Kd om,a4];unfold usF;rw[afl om];exact(aiN _).symm⟩ (by dsimp only;omega)
 rw[ahH om]at a3 a4;refine ar (Ng z6 om hra (by rw[a3];exact ajk hv1 hdf)) λ v8 ⟨_,wJ⟩=>?_;refine ar (U8 om hda (by rw[a4];exact ajl hv1 hdf)) λ v9 ⟨_,Lj⟩=>?_;refine ar (Ke h5 h4) λ v10 tB=>?_;rw[a3]at wJ;rw[a4]at Lj;refine ai ⟨⟨by dsimp only;omega,by dsimp only;omega,by dsimp only;omega,by dsimp only;rw[wJ.ln];have:=hb.rs.len;omega,by dsimp only;rw[Lj.ln];omega⟩,by dsimp only;rw[tB];exact aj8 _ _,λ _=>⟨hv1,hdf,⟨by rw[<- hv3];exact hst,?_,tB,wJ,Lj⟩⟩⟩;dsimp only;rw[<- hv4];refine Eq.trans ?_ (show v7=(⟨v7.1.On,v7.1.aT⟩,0) from Prod.ext rfl (by rw[hv7];exact c5));exact hv7.symm
def Kf {g_:ak} (h1:xQ b_) (h2:ZP b_.aM) (h3:Ck l_) (h4:M_.length<=10000) (h5:g_.Uses.length<=2000000):W (xI b_ l_ g_ M_) (λ r=>Ga2 r/\r.2.2.2.2.2.2.2.length<=g_.Uses.length/\(r.2.2.2.2.2.2.1=0->jr b_ l_ 0/\qN l_ M_/\AgA b_ l_ M_ g_.Uses ⟨r.1,⟨r.2.1,r.2.2.1⟩,r.2.2.2.2.2.2.2,r.2.2.2.1,r.2.2.2.2.1⟩)):=x8 (g_:=g_) h1 h2 h3 h4 h5
def SK:Pf []:=λ i j _ h=>by simp at h;omega
def U9 {l:apU} {x:Int} (h:Pf l) (hx:∀y∈l,y<x):Pf (l++[x]):=by
 intro i j hij hj;rw[aeU,afT]at hj;by_cases q:j<l.length
 ·rw[gT (i:=j) 0 q,gT (i:=i) 0 om];exact h i j hij om
 rw[gU (i:=j) 0 om,gT (i:=i) 0 om];exact hx _ (getD_in 0 om)
def ML (b:aI) (l:ap4):Prop:=l.length<=1/\∀y∈l,He b.bj.length y
def WX (b:aI) (l:ap3):Prop:=l.length<=1/\∀y∈l,WQ b.aX.length y
def aco (l:ap6):Prop:=l.length<=2/\∀y∈l,F0 y
def ahr (b:aI) (l:apU):Prop:=l.length<=100/\∀y∈l,0<=y/\y<b.bc.length
def ahs (k:Int) (l:apU):Prop:=l.length<=100/\(∀p∈l,0<=p/\p<k)/\Pf l
structure VB (b:aI) (k:Int) (x:aC):Prop where
 lm:ML b x.bO
 dw:WX b x.dq
 fw:aco x.aj
 rs:ahr b x.bc
 dm : -1<=x.dz/\x.dz<b.bw.length
 pr:ahs k x.bM
def Va:ML b []:=⟨ahU _,nofun⟩
def Vb:WX b []:=⟨ahU _,nofun⟩
def acp {x:aP} (h:He b.bj.length x):ML b [x]:=⟨afM _,λ y hy=>by rw[ahd]at hy;rw[hy];exact h⟩
def acr {x:bf} (h:WQ b.aX.length x):WX b [x]:=⟨afM _,λ y hy=>by rw[ahd]at hy;rw[hy];exact h⟩
def acs:aco []:=⟨ahU _,nofun⟩
def acu {k:Int}:ahs k []:=⟨ahU _,nofun,SK⟩
def Kg {l:apU} {lo hi:Int} (h:l.all (λ x=>decide (lo<=x)&&decide (x<=hi))=true) {r:Int} (hr:∃i:Nat,i<l.length/\r=l.getD i 0):lo<=r/\r<=hi:=by
 obtain⟨i,h1,rfl⟩:=hr;have:=ajL.1 h _ (getD_in 0 h1);simpa using this
def ajm {s:ByteArray} (h:(decide (0<s.size/\s.size<=16)&&(decide (97<=dF s 0/\dF s 0<=122)&&(List.range s.size).all λ j=>decide (dF s j=45\/(48<=dF s j/\dF s j<=57)\/(97<=dF s j/\dF s j<=122))))=true):F0 s:=by
 simp only[aeP,ahQ,ajL,aj7]at h;exact⟨h.1,h.2.1,λ j hj=>h.2.2 j om⟩
def WY:ap6:=[({ data:=#[117,97,114,116] }:ByteArray),({ data:=#[115,112,105] }:ByteArray),({ data:=#[105,50,99] }:ByteArray),({ data:=#[112,119,109] }:ByteArray)]
def acv:∀s∈WY,F0 s:=by
 intro s hs;simp only[WY,ah0,ao7,or_false]at hs;rcases hs with rfl | rfl | rfl | rfl<;>exact ajm (by decide)
variable {bI:bX}
def zp {n_:Int} {k_:Int} (h1:0<=n_) (h2:n_<=1000) (h3:1<=k_) (h4:k_<=100) (h5:0<=bI.At) (h6:bI.L.length<=600):W (iI n_ k_ bI) (λ r=>r.1.length<=n_.toNat/\(∀p∈r.1,0<=p/\p<n_)/\Pf r.1/\0<=r.2.At/\r.2.L.length<=600):=by
 unfold iI;refine bu (λ(g1:Int×apU×Int×apU)=>0<=g1.1/\g1.1<=n_/\0<=g1.2.2.1/\g1.2.1.length<=600/\(g1.2.2.2.length:Int)<=g1.1/\(∀p∈g1.2.2.2,0<=p/\p<g1.1)/\Pf g1.2.2.2) (λ(g1:Int×apU×Int×apU)=>(n_ - g1.1).toNat) ?_ ?_
 ·intro ab g1 cN bQ;obtain⟨cz,bB,bA,fY,ta,DH,acw⟩:=cN;unfold rK;refine wi ?_ ?_<;>intro c1
  ·refine ar (bJ ob ob ob) λ v3 hv3=>?_;obtain⟨OP,QY,QZ,abn,aiP⟩:=hv3;refine wn<|wi ?_ ?_<;>intro c2
   ·refine wm<|bQ _ ?_ ?_
    ·(refine⟨ob,ob,ob,ob,ob,λ p hp=>?_,U9 acw λ p hp=>(DH p hp).2⟩;dsimp only;rcases ahL.1 hp with hp | hp;(have:=DH p hp;omega);(rw[ahd]at hp;omega))
    exact ob
   refine wn<|bQ _ ?_ ?_
   ·(refine⟨ob,ob,ob,ob,ob,λ p hp=>?_,acw⟩;have:=DH p hp;dsimp only;omega)
   exact ob
  refine ai ?_;(refine⟨ob,λ p hp=>?_,acw,ob,ob⟩;have:=DH p hp;omega)
 (refine⟨ob,ob,ob,ob,ob,nofun,SK⟩)
def Ga {fp:Int} (h1:0<=fp) (h2:fp<=50) (h3:0<=bI.At) (h4:bI.L.length<=600):W (mK fp bI) (λ r=>r.1.length<=fp.toNat/\(∀y∈r.1,F0 y)/\0<=r.2.At/\r.2.L.length<=600):=by
 unfold mK;refine wn<|ar (bJ ob ob ob) λ v1 hv1=>?_;obtain⟨s9,rT,A3,DG,FD⟩:=hv1;refine bu (λ(g1:Int×apU×Int×ap6)=>0<=g1.1/\0<=g1.2.2.1/\g1.2.1.length<=600/\(g1.2.2.2.length:Int)+g1.1<=fp/\(∀y∈g1.2.2.2,F0 y)) (λ(g1:Int×apU×Int×ap6)=>g1.1.toNat) ?_ ?_
 ·intro ab g1 cN bQ;obtain⟨cz,bB,bA,fY,ta⟩:=cN;unfold uD;refine wi ?_ ?_<;>intro c1
  ·refine ar (iu) λ v6 hv6=>?_;subst v6;refine ar (K9 ob ob ob ob) λ v7 hv7=>?_;obtain⟨afq,aiR,aiS⟩:=hv7;refine wm<|bQ _ ?_ ?_
   ·(refine⟨ob,ob,ob,ob,λ p hp=>?_⟩;dsimp only at hp;rcases ahL.1 hp with hp | hp;(exact ta p hp);(rw[ahd]at hp;rw[hp];obtain⟨i,hi,e⟩:=afq;rw[e];exact acv _ (getD_in (l:=WY) _ hi)))
   exact ob
  refine ai ?_;(refine⟨ob,ta,ob,ob⟩)
 (refine⟨ob,ob,ob,ob,nofun⟩)
def IY (h1:b_.bj.length<=100) (h2:0<b_.bj.length) (h3:0<=bI.At) (h4:bI.L.length<=600):W (pt b_ bI) (λ r=>He b_.bj.length r.1/\0<=r.2.At/\r.2.L.length<=600):=by
 unfold pt;refine ar (bJ ob ob ob) λ v1 hv1=>?_;obtain⟨s9,rT,A3,DG,FD⟩:=hv1;refine ar (dA ob ob ob ob) λ v2 hv2=>?_;obtain⟨OR,OS,Q0⟩:=hv2;refine ar (dA ob ob ob ob) λ v3 hv3=>?_;obtain⟨OP,QY,QZ⟩:=hv3;refine ai ?_;(have a:=Kg (lo:=0) (hi:=24) (by decide) OR;have b:=Kg (lo:=24) (hi:=300) (by decide) OP;exact⟨⟨om,rT om,a.1,ajJ a.2 b.1,ajJ b.2 (by decide)⟩,ob,ob⟩)
def Kh (h1:b_.aX.length<=100) (h2:0<b_.aX.length) (h3:0<=bI.At) (h4:bI.L.length<=600):W (rL b_ bI) (λ r=>WQ b_.aX.length r.1/\0<=r.2.At/\r.2.L.length<=600):=by
 unfold rL;refine ar (bJ ob ob ob) λ v1 hv1=>?_;obtain⟨s9,rT,A3,DG,FD⟩:=hv1;refine ar (dA ob ob ob ob) λ v2 hv2=>?_;obtain⟨OR,OS,Q0⟩:=hv2;refine ar (dA ob ob ob ob) λ v3 hv3=>?_;obtain⟨OP,QY,QZ⟩:=hv3;refine ar (dA ob ob ob ob) λ v4 hv4=>?_;obtain⟨abo,abp,afp⟩:=hv4;refine ai ?_;(have a:=Kg (lo:=0) (hi:=1800) (by decide) OR;have b:=Kg (lo:=1800) (hi:=5000) (by decide) OP;have c:=Kg (lo:=0) (hi:=200) (by decide) abo;exact⟨⟨om,rT om,a.1,ajJ a.2 b.1,b.2,c.1,ajJ c.2 (by decide)⟩,ob,ob⟩)
variable {v1:Int×bX} {g1:Int×apU×Int×apW} {ab:(Int×apU×Int×apW)->M (apW×bX)} {v46:Int×bX} {g14:apU×Int×ap4} {g15:apU×Int×ap3} {g16:apU×Int×ap6} {Q:(apW×bX)->Prop}
def o9 {v53:apU×bX} {g18:apU×Int×apU} (bQ:∀s':(Int×apU×Int×apW),(0<=s'.1/\s'.1<=v1.1/\0<=s'.2.2.1/\s'.2.1.length<=600/\(s'.2.2.2.length:Int)=s'.1/\(∀x∈s'.2.2.2,VB b_ v1.1 x))->(v1.1 - s'.1).toNat<(v1.1 - g1.1).toNat->W (ab s') Q) (hc:0<=g18.2.1/\g18.1.length<=600/\ahs v1.1 g18.2.2/\ML b_ g14.2.2/\WX b_ g15.2.2/\aco g16.2.2/\ahr b_ v53.1/\0<=g1.1/\g1.1<v1.1/\v1.1<=51/\(g1.2.2.2.length:Int)=g1.1/\(∀x∈g1.2.2.2,VB b_ v1.1 x)/\(-1<=v46.1/\v46.1<b_.bw.length)):W (gN g1 ab v46 g14 g15 g16 v53 g18) Q:=by
 obtain⟨WU,Zm,xS,Hf,Lt,Sz,ZA,acy,acz,Ki,DO,Ri,afC⟩:=hc;unfold gN;refine wm<|bQ _ ?_ ?_
 ·(refine⟨ob,ob,ob,ob,ob,λ x hx=>?_⟩;rcases ahL.1 hx with hx | hx;(exact Ri x hx);(rw[ahd]at hx;subst hx;exact⟨Hf,Lt,Sz,ZA,afC,xS⟩))
 exact ob
def pb {v53:apU×bX} {g19:Int×apU×Int} (bQ:∀s':(Int×apU×Int×apW),(0<=s'.1/\s'.1<=v1.1/\0<=s'.2.2.1/\s'.2.1.length<=600/\(s'.2.2.2.length:Int)=s'.1/\(∀x∈s'.2.2.2,VB b_ v1.1 x))->(v1.1 - s'.1).toNat<(v1.1 - g1.1).toNat->W (ab s') Q) (hc:0<=g19.2.2/\g19.2.1.length<=600/\0<=g19.1/\g19.1<=51/\g19.1<=v1.1/\ML b_ g14.2.2/\WX b_ g15.2.2/\aco g16.2.2/\ahr b_ v53.1/\0<=g1.1/\g1.1<v1.1/\v1.1<=51/\(g1.2.2.2.length:Int)=g1.1/\(∀x∈g1.2.2.2,VB b_ v1.1 x)/\(-1<=v46.1/\v46.1<b_.bw.length)):W (gO g1 ab v46 g14 g15 g16 v53 g19) Q:=by
 obtain⟨WU,Zm,xS,Hf,Lt,Sz,ZA,acy,acz,Ki,DO,Ri,afC,ajn,ajo⟩:=hc;unfold gO;refine ar (zp ob ob ob ob ob ob) λ v60 amc=>?_;obtain⟨amd,aht,ahu,ame,amf⟩:=amc;exact o9 (b_:=b_) (v1:=v1) (λ a b c=>bQ a b c) (by(refine⟨ob,ob,⟨ob,λ p hp=>(by have:=aht p hp;omega),ahu⟩,Sz,ZA,acy,acz,ob,ob,ob,ob,ajn,ajo⟩))
def pd (bQ:∀s':(Int×apU×Int×apW),(0<=s'.1/\s'.1<=v1.1/\0<=s'.2.2.1/\s'.2.1.length<=600/\(s'.2.2.2.length:Int)=s'.1/\(∀x∈s'.2.2.2,VB b_ v1.1 x))->(v1.1 - s'.1).toNat<(v1.1 - g1.1).toNat->W (ab s') Q) (hc:0<=g16.2.1/\g16.1.length<=600/\ML b_ g14.2.2/\WX b_ g15.2.2/\aco g16.2.2/\b_.bc.length<=4/\0<=g1.1/\g1.1<v1.1/\v1.1<=51/\(g1.2.2.2.length:Int)=g1.1/\(∀x∈g1.2.2.2,VB b_ v1.1 x)/\(-1<=v46.1/\v46.1<b_.bw.length)):W (gP b_ v1 g1 ab v46 g14 g15 g16) Q:=by
 obtain⟨WU,Zm,xS,Hf,Lt,Sz,ZA,acy,acz,Ki,DO,Ri⟩:=hc;unfold gP;refine ar (zp ob ob ob ob ob ob) λ v53 amg=>?_;obtain⟨amh,WZ,ami,amj,amk⟩:=amg;refine ar (bJ ob ob ob) λ v58 aml=>?_;obtain⟨amm,amn,amo,amq,amr⟩:=aml;refine wi ?_ ?_<;>intro c1
 ·refine ar (bJ ob ob ob) λ v61 ams=>?_;obtain⟨amt,amu,amv,amw,amx⟩:=ams;refine wi ?_ ?_<;>intro c2
  ·exact pb (b_:=b_) (v1:=v1) (λ a b c=>bQ a b c) (by(refine⟨ob,ob,ob,ob,ob,xS,Hf,Lt,⟨om,WZ⟩,ob,ob,ob,ob,DO,Ri⟩))
  exact pb (b_:=b_) (v1:=v1) (λ a b c=>bQ a b c) (by(refine⟨ob,ob,ob,ob,ob,xS,Hf,Lt,⟨om,WZ⟩,ob,ob,ob,ob,DO,Ri⟩))
 exact o9 (b_:=b_) (v1:=v1) (λ a b c=>bQ a b c) (by(refine⟨ob,ob,acu,xS,Hf,Lt,⟨om,WZ⟩,ob,ob,ob,ob,DO,Ri⟩))
def ku (bQ:∀s':(Int×apU×Int×apW),(0<=s'.1/\s'.1<=v1.1/\0<=s'.2.2.1/\s'.2.1.length<=600/\(s'.2.2.2.length:Int)=s'.1/\(∀x∈s'.2.2.2,VB b_ v1.1 x))->(v1.1 - s'.1).toNat<(v1.1 - g1.1).toNat->W (ab s') Q) (hc:0<=g15.2.1/\g15.1.length<=600/\ML b_ g14.2.2/\WX b_ g15.2.2/\b_.bc.length<=4/\0<=g1.1/\g1.1<v1.1/\v1.1<=51/\(g1.2.2.2.length:Int)=g1.1/\(∀x∈g1.2.2.2,VB b_ v1.1 x)/\(-1<=v46.1/\v46.1<b_.bw.length)):W (fC b_ v1 g1 ab v46 g14 g15) Q:=by
 obtain⟨WU,Zm,xS,Hf,Lt,Sz,ZA,acy,acz,Ki,DO⟩:=hc;unfold fC;refine ar (bJ ob ob ob) λ v62 amy=>?_;obtain⟨amA,amB,amC,amD,amE⟩:=amy;refine wi ?_ ?_<;>intro c1
 ·refine ar (Ga ob ob ob ob) λ v63 amF=>?_;obtain⟨amG,ahv,amH,amI⟩:=amF;exact pd (λ a b c=>bQ a b c) (by(refine⟨ob,ob,xS,Hf,⟨ob,ahv⟩,Lt,ob,ob,ob,ob,Ki,DO⟩))
 exact pd (λ a b c=>bQ a b c) (by(refine⟨ob,ob,xS,Hf,acs,Lt,ob,ob,ob,ob,Ki,DO⟩))
def kU (bQ:∀s':(Int×apU×Int×apW),(0<=s'.1/\s'.1<=v1.1/\0<=s'.2.2.1/\s'.2.1.length<=600/\(s'.2.2.2.length:Int)=s'.1/\(∀x∈s'.2.2.2,VB b_ v1.1 x))->(v1.1 - s'.1).toNat<(v1.1 - g1.1).toNat->W (ab s') Q) (hc:0<=g14.2.1/\g14.1.length<=600/\ML b_ g14.2.2/\b_.bc.length<=4/\b_.aX.length<=3/\0<=g1.1/\g1.1<v1.1/\v1.1<=51/\(g1.2.2.2.length:Int)=g1.1/\(∀x∈g1.2.2.2,VB b_ v1.1 x)/\(-1<=v46.1/\v46.1<b_.bw.length)):W (fV b_ v1 g1 ab v46 g14) Q:=by
 obtain⟨WU,Zm,xS,Hf,Lt,Sz,ZA,acy,acz,Ki,DO⟩:=hc;unfold fV;refine wi ?_ ?_<;>intro c1
 ·refine ar (bJ ob ob ob) λ v64 hv64=>?_;obtain⟨amJ,amK,amL,amM,amN⟩:=hv64;refine wi ?_ ?_<;>intro c2
  ·refine ar (Kh ob ob ob ob) λ v65 amO=>?_;obtain⟨ahw,amP,amQ⟩:=amO;refine wn ?_;exact ku (λ a b c=>bQ a b c) (by(refine⟨ob,ob,xS,acr ahw,Hf,ob,ob,ob,ob,Ki,DO⟩))
  exact ku (λ a b c=>bQ a b c) (by(refine⟨ob,ob,xS,Vb,Hf,ob,ob,ob,ob,Ki,DO⟩))
 refine wn ?_;exact ku (λ a b c=>bQ a b c) (by(refine⟨ob,ob,xS,Vb,Hf,ob,ob,ob,ob,Ki,DO⟩))
def Gb {fp:Int} (h1:Y2 b_) (h2:0<=fp) (h3:fp<=50) (h4:0<=bI.At) (h5:bI.L.length<=600):W (mL b_ fp bI) (λ r=>r.1.length<=fp.toNat/\(∀x∈r.1,VB b_ (r.1.length:Int) x)/\0<=r.2.At/\r.2.L.length<=600):=by
 obtain⟨q1,q2,q3,q4,q5,q6,q7,q8,q9⟩:=h1;unfold mL;refine wn<|ar (bJ ob ob ob) λ v1 hv1=>?_;obtain⟨s9,rT,A3,DG,FD⟩:=hv1;refine bu (λ(g1:Int×apU×Int×apW)=>0<=g1.1/\g1.1<=v1.1/\0<=g1.2.2.1/\g1.2.1.length<=600/\(g1.2.2.2.length:Int)=g1.1/\(∀x∈g1.2.2.2,VB b_ v1.1 x)) (λ(g1:Int×apU×Int×apW)=>(v1.1 - g1.1).toNat) ?_ ?_
 ·intro ab g1 cN bQ;obtain⟨cz,bB,bA,fY,ta,DH⟩:=cN;unfold uE;refine wi ?_ ?_<;>intro c1
  ·refine wn<|ar (j8 ob ob ob ob ob ob) λ v46 WC=>?_;obtain⟨amR,amS,amT,amU,amV⟩:=WC;refine wi ?_ ?_<;>intro c2
   ·refine ar (bJ ob ob ob) λ v66 amW=>?_;obtain⟨amX,amY,amZ,am0,am1⟩:=amW;refine wi ?_ ?_<;>intro c3
    ·refine ar (IY ob ob ob ob) λ v67 am2=>?_;obtain⟨ahx,am3,am4⟩:=am2;refine wn ?_;exact kU (λ a b c=>bQ a b c) (by(refine⟨ob,ob,acp ahx,ob,ob,ob,ob,ob,ob,DH,om,om⟩))
    exact kU (λ a b c=>bQ a b c) (by(refine⟨ob,ob,Va,ob,ob,ob,ob,ob,ob,DH,om,om⟩))
   refine wn ?_;exact kU (λ a b c=>bQ a b c) (by(refine⟨ob,ob,Va,ob,ob,ob,ob,ob,ob,DH,om,om⟩))
  have hlen:(g1.2.2.2.length:Int)=v1.1:=by omega
  refine wi ?_ ?_<;>intro c4
  ·refine ar (bJ ob ob ob) λ v68 am5=>?_;obtain⟨am6,am7,am8,am9,ana⟩:=am5;refine wi ?_ ?_<;>intro c5
   ·refine wn<|bu (λ(g20:Int×Int×apW)=>0<=g20.1 /\ -1<=g20.2.1/\g20.2.1<v1.1/\g20.1<=v1.1/\(g20.2.2.length:Int)=v1.1/\(∀x∈g20.2.2,VB b_ v1.1 x)) (λ(g20:Int×Int×apW)=>(g20.2.1 - g20.1).toNat) ?_ ?_
    ·intro Wy g20 ajp ajq;obtain⟨anb,anc,ane,anf,ang,SL⟩:=ajp;unfold s8;refine wi ?_ ?_<;>intro c6
     ·refine wm<|wm ?_;refine wm<|ajq _ ?_ ?_
      ·(refine⟨ob,ob,ob,ob,ob,R6 (R6 SL (SL _ (getD_in _ om))) (SL _ (getD_in _ om))⟩)
      exact ob
     refine bu (λ(g21:Int×apW)=>0<=g21.1/\(g21.2.length:Int)=v1.1/\(∀x∈g21.2,VB b_ v1.1 x)) (λ(g21:Int×apW)=>(v1.1 - g21.1).toNat) ?_ ?_
     ·intro OL g21 ajr ajs;obtain⟨anh,ahy,W0⟩:=ajr;unfold sZ;refine wi ?_ ?_<;>intro c7
      ·have q:=W0 (g21.2.getD g21.1.toNat bb) (getD_in _ om);have qp:=q.pr.1;refine wm<|bu (λ(g24:Int×apU) => -1<=g24.1/\g24.1<(g21.2.getD g21.1.toNat bb).bM.length/\(g24.2.length:Int)+g24.1<(g21.2.getD g21.1.toNat bb).bM.length/\(∀p∈g24.2,0<=p/\p<v1.1)/\Pf g24.2/\(∀p∈g24.2,∀j:Nat,(j:Int)<=g24.1->p<v1.1 - 1 - (g21.2.getD g21.1.toNat bb).bM.getD j 0)) (λ(g24:Int×apU)=>(g24.1+1).toNat) ?_ ?_
       ·intro Wx g24 ajt aju;obtain⟨ani,anj,ank,acA,acB,acC⟩:=ajt;unfold sY;refine wi ?_ ?_<;>intro c8
        ·have q2:=q.pr.2.1 _ (getD_in (i:=g24.1.toNat) 0 om);refine wm<|wm ?_;refine wm<|aju _ ?_ ?_
         ·(refine⟨ob,ob,ob,λ p hp=>?_,U9 acB (λ p hp=>by have:=acC p hp g24.1.toNat om;omega),λ p hp j hj=>?_⟩;(rcases ahL.1 hp with hp | hp;(exact acA p hp);(rw[ahd]at hp;omega));(dsimp only at hj;rcases ahL.1 hp with hp | hp;(exact acC p hp j om);(rw[ahd]at hp;have:=q.pr.2.2 j g24.1.toNat om om;omega)))
         exact ob
        refine wm<|ajs _ ?_ ?_
        ·(refine⟨ob,ob,R6 W0 ⟨q.lm,q.dw,q.fw,q.rs,q.dm,ob,acA,acB⟩⟩)
        exact ob
       (refine⟨ob,ob,ob,nofun,SK,nofun⟩)
      refine ai ?_;(refine⟨ob,λ x hx=>?_,ob,ob⟩;have q:=W0 x hx;rw[ahy];exact q)
     (refine⟨ob,ob,SL⟩)
    (refine⟨ob,ob,ob,ob,ob,DH⟩)
   refine ai ?_;(refine⟨ob,λ x hx=>?_,ob,ob⟩;have q:=DH x hx;rw[hlen];exact q)
  refine wn<|ai ?_;(refine⟨ob,λ x hx=>?_,ob,ob⟩;have q:=DH x hx;rw[hlen];exact q)
 (refine⟨ob,ob,ob,ob,ob,nofun⟩)
def Vc {p_:bq} {l_:ap6} {fW:apU} (h1:∀g∈p_.ax,g.bH.length<=2000000/\g.aj.length<=2000000) (h2:l_.length<=2000000) (hp:U0 p_) (hg:Qp p_ l_ fW):W (GS p_ l_ fW) (λ _=>True):=by
 unfold GS;refine ar (P:=λ _=>True) ?_ λ v1 _=>?_
 ·unfold FA;refine ar (xV h1) λ v1 _=>?_;refine br (λ _=>ai trivial) (λ _=>?_);refine bu (λ g1:Int=>0<=g1) (λ g1=>(l_.length - g1).toNat) ?_ (air _);intro ab g1 a1 ih1;unfold Fz;refine br (λ c=>?_) (λ _=>ai trivial);have c:=cG c;refine aF om ?_;refine ar tY λ v4 _=>?_;exact br (λ _=>ai trivial) (λ _=>aF (by unfold av;omega) (ih1 _ om om))
 refine br (λ _=>ai trivial) (λ _=>?_);refine ar (P:=λ _=>True) ?_ λ v2 _=>br (λ _=>ai trivial) (λ _=>ai trivial);unfold IE;refine br (λ _=>ai trivial) (λ c1=>?_);have c1:=cG c1;refine bu (λ g1:Int=>0<=g1) (λ g1=>(fW.length - g1).toNat) ?_ (air _);intro ab g1 a1 ih1;unfold H5;refine br (λ c=>?_) (λ _=>ai trivial);have c:=cG c;have hx:=hg.ir _ (getD_in (i:=g1.toNat) 0 om);have hf:=(h1 _ (getD_in (i:=(fW.getD g1.toNat 0).toNat) ay om)).2;refine aF om ?_;refine aF (λ _=>hx) ?_;refine aF (λ _=>by omega) ?_;refine ar (lp λ _=>F1 hf) λ v5 _=>?_;refine aF (λ _=>by omega) ?_;refine ar (lp λ _=>Ig h1 (by rw[afs];omega) (λ x hx=>hg.ir x (aoA hx)) hx.1 hx.2 hp) λ v6 _=>?_;exact br (λ _=>ai trivial) (λ _=>aF (by unfold av;omega) (ih1 _ om om))
end Go.Proofs.YtifekdmmpbcdgaaGreatDoor

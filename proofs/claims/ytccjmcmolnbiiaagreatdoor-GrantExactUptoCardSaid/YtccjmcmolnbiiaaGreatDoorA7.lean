/- A part of the proof. -/
import Derived.Test.YtccjmcmolnbiiaaGreatDoorA6
set_option linter.defProp false
set_option linter.unusedVariables false
set_option linter.unusedSimpArgs false
set_option maxHeartbeats 4000000
namespace Go.Proofs.YtccjmcmolnbiiaaGreatDoor
open Go.Ab
set_option maxRecDepth 100000
def NdE (b:aM) (n:aH) (dv:Int):Int->Prop:=
 M5 (32<(n.bG.length:Int)\/32<(n.d9.length:Int)\/10<(n.ak.length:Int)) 3<|
 M5 (∃j:Nat,(j:Int)<n.bG.length/\¬agB b.bS.length (n.bG.getD j dM)) 2<|
 M5 (∃j:Nat,(j:Int)<n.d9.length/\¬am7 b.bF.length (n.d9.getD j dV)) 2<|
 M5 (∃j:Nat,(j:Int)<n.ak.length/\¬Ef (n.ak.getD j ByteArray.empty)) 1<|
 M5 (∃j:Nat,(j:Int)<n.aZ.length/\¬(0<=n.aZ.getD j 0/\n.aZ.getD j 0<b.aZ.length)) 2<|
 M5 (¬(-1<=n.fO/\n.fO<b.dz.length)) 2<|
 M5 (∃j:Nat,(j:Int)<n.aY.length/\¬(0<=n.aY.getD j 0/\n.aY.getD j 0<dv)) 2<|
 M5 (∃j:Nat,1<=j/\(j:Int)<n.aY.length/\n.aY.getD j 0<=n.aY.getD (j - 1) 0) 12<|
 λ r=>r=0
variable {b:aM}
def NdE.fun {n:aH} {dv:Int}:FZ (NdE b n dv):=.Ki (.Ki (.Ki (.Ki (.Ki (.Ki (.Ki (.Ki .zero)))))))
def TR (b:aM):Int->Prop:=Thn (λ r=>r=eY b.bS)<|Thn (λ r=>r=Sp.eY b.bF)<|Thn (uI b.aT)<|Thn (RsA b.aZ) (DmA b.dz)
def TR.fun:FZ (TR b):=.thn (λ _ _ h k=>h.trans k.symm) (.thn (λ _ _ h k=>h.trans k.symm) (.thn uI.fun (.thn RsA.fun DmA.fun)))
def ku (b:aM) (l:aha):Int->Prop:=Thn (TR b)<|M5 (12<(l.length:Int)) 3<|Fst l.length λ i=>NdE b (l.getD i aU) l.length
def ku.fun {l:aha}:FZ (ku b l):=.thn TR.fun (.Ki (.fst λ _=>NdE.fun))
variable {b_:aM}
def P8 (h1:uW b_) (h2:∀g∈b_.aT.av,g.bU.length<=2000000/\g.ak.length<=2000000):W (Bb b_) (λ r=>TR b_ r):=by
 obtain⟨z1,z2,z3,z4,z5,z6,z7⟩:=h1;unfold Bb;refine aG (yV (uV ob)) λ v1 hv1=>?_;subst v1;refine wi ?_ ?_<;>intro c1
 ·exact ay<|Ii rfl c1
 refine aG (Sp.yD ob) λ v2 hv2=>?_;subst v2;refine wi ?_ ?_<;>intro c2
 ·exact ay<|lI c1.symm (Ii rfl c2)
 refine aG (uX h2) λ v3 hv3=>?_;refine wi ?_ ?_<;>intro c3
 ·exact ay<|lI c1.symm (lI c2.symm (Ii hv3 c3))
 refine aG (Fu ob) λ v4 hv4=>?_;refine wi ?_ ?_<;>intro c4
 ·exact ay<|lI c1.symm (lI c2.symm (lI (c3 ▸ hv3) (Ii hv4 c4)))
 refine aG (Cw) λ v5 hv5=>?_;exact ay<|lI c1.symm (lI c2.symm (lI (c3 ▸ hv3) (lI (c4 ▸ hv4) hv5)))
def abq (h1:uW b_) (h2:∀g∈b_.aT.av,g.bU.length<=2000000/\g.ak.length<=2000000):W (Gz b_) (λ r=>TR b_ r):=by
 obtain⟨z1,z2,z3,z4,z5,z6,z7⟩:=h1;unfold Gz;refine aG (AB ob) λ v1 hv1=>?_;subst v1;refine wi ?_ ?_<;>intro c1
 ·exact ay<|Ii rfl c1
 refine aG (Sp.Az ob) λ v2 hv2=>?_;subst v2;refine wi ?_ ?_<;>intro c2
 ·exact ay<|lI c1.symm (Ii rfl c2)
 refine aG (yI h2) λ v3 hv3=>?_;refine wi ?_ ?_<;>intro c3
 ·exact ay<|lI c1.symm (lI c2.symm (Ii hv3 c3))
 refine aG (Fv ob) λ v4 hv4=>?_;refine wi ?_ ?_<;>intro c4
 ·exact ay<|lI c1.symm (lI c2.symm (lI (c3 ▸ hv3) (Ii hv4 c4)))
 refine aG (Fw) λ v5 hv5=>?_;exact ay<|lI c1.symm (lI c2.symm (lI (c3 ▸ hv3) (lI (c4 ▸ hv4) hv5)))
def acD {n_:aH} {iQ:Int} (h1:uW b_) (h2:0<=iQ) (h3:iQ<=2000000) (h4:n_.aZ.length<=2000000) (h5:n_.aY.length<=2000000):W (KN b_ n_ iQ) (λ r=>NdE b_ n_ iQ r):=by
 obtain⟨z1,z2,z3,z4,z5,z6,z7⟩:=h1;unfold KN;refine wi ?_ ?_<;>intro c1
 ·exact ay<|eF om
 refine bK (λ(g1:Int)=>0<=g1/\(∀j:Nat,(j:Int)<g1->agB b_.bS.length (n_.bG.getD j dM))) (λ(g1:Int)=>(n_.bG.length - g1).toNat) ?_ ?_
 ·intro aj g1 eT dA;obtain⟨dW,cB⟩:=eT;unfold R4;refine wi ?_ ?_<;>intro c2
  ·refine wm<|aG (qj) λ v3 hv3=>?_;subst v3;refine wi ?_ ?_<;>intro c3
   ·exact ay (aN om (eF ⟨g1.toNat,om,λ⟨_,_,_,_,_⟩=>by omega⟩))
   refine wn<|dA _ ?_ ?_
   ·(refine⟨ob,eH cB dW ⟨om,om,om,om,om⟩⟩)
   exact ob
  refine bK (λ(g2:Int)=>0<=g2/\(∀j:Nat,(j:Int)<g2->am7 b_.bF.length (n_.d9.getD j dV))) (λ(g2:Int)=>(n_.d9.length - g2).toNat) ?_ ?_
  ·intro dR g2 nk qJ;obtain⟨rG,jL⟩:=nk;unfold OC;refine wi ?_ ?_<;>intro c4
   ·refine wm<|aG (qj) λ v8 xk=>?_;subst v8;refine aG (ig λ hc=>mg (qj)) λ v9 Kk=>?_;subst v9;refine wi ?_ ?_<;>intro c5
    ·exact ay (aN om (aN (gZ cB om) (eF ⟨g2.toNat,om,λ⟨_,_,_,_,_,_,_⟩=>by omega⟩)))
    refine wn<|qJ _ ?_ ?_
    ·(refine⟨ob,eH jL rG ⟨om,om,om,om,om,om,om⟩⟩)
    exact ob
   refine bK (λ(g3:Int)=>0<=g3/\(∀j:Nat,(j:Int)<g3->Ef (n_.ak.getD j ByteArray.empty))) (λ(g3:Int)=>(n_.ak.length - g3).toNat) ?_ ?_
   ·intro jO g3 aeF aeG;obtain⟨Yo,qK⟩:=aeF;unfold OB;refine wi ?_ ?_<;>intro c6
    ·refine wn<|aG (La) λ v12 JI=>?_;apply bL<;>intro c7
     ·have Yl:=c7;have c7:=eu c7;exact ay (aN om (aN (gZ cB om) (aN (gZ jL om) (eF ⟨g3.toNat,om,λ h=>by simp[JI.2 h]at Yl⟩))))
     have Yl:=c7;have c7:=eu c7;refine wn<|aeG _ ?_ ?_
     ·(refine⟨ob,eH qK Yo (JI.1 (by simpa using Yl))⟩)
     exact ob
    refine bK (λ(g4:Int)=>0<=g4/\(∀j:Nat,(j:Int)<g4->0<=n_.aZ.getD j 0/\n_.aZ.getD j 0<b_.aZ.length)) (λ(g4:Int)=>(n_.aZ.length - g4).toNat) ?_ ?_
    ·intro jA g4 K7 JO;obtain⟨G9,mG⟩:=K7;unfold OA;refine wi ?_ ?_<;>intro c8
     ·refine wm<|aG (qj) λ v15 Rm=>?_;subst v15;refine wi ?_ ?_<;>intro c9
      ·exact ay (aN om (aN (gZ cB om) (aN (gZ jL om) (aN (gZ qK om) (eF ⟨g4.toNat,om,om⟩)))))
      refine wn<|JO _ ?_ ?_
      ·(refine⟨ob,eH mG G9 om⟩)
      exact ob
     refine wn<|aG (qj) λ v16 aem=>?_;subst v16;refine wi ?_ ?_<;>intro c10
     ·exact ay (aN om (aN (gZ cB om) (aN (gZ jL om) (aN (gZ qK om) (aN (gZ mG om) (eF om))))))
     refine bK (λ(g5:Int)=>0<=g5/\(∀j:Nat,(j:Int)<g5->0<=n_.aY.getD j 0/\n_.aY.getD j 0<iQ)) (λ(g5:Int)=>(n_.aY.length - g5).toNat) ?_ ?_
     ·intro kr g5 Xc Xd;obtain⟨Sr,Fp⟩:=Xc;unfold Oz;refine wi ?_ ?_<;>intro c11
      ·refine wm<|aG (qj) λ v19 ar4=>?_;subst v19;refine wi ?_ ?_<;>intro c12
       ·exact ay (aN om (aN (gZ cB om) (aN (gZ jL om) (aN (gZ qK om) (aN (gZ mG om) (aN om (eF ⟨g5.toNat,om,om⟩)))))))
       refine wn<|Xd _ ?_ ?_
       ·(refine⟨ob,eH Fp Sr om⟩)
       exact ob
      refine bK (λ(g6:Int)=>1<=g6/\(∀j:Nat,(j:Int)<g6->1<=j->n_.aY.getD (j - 1) 0<n_.aY.getD j 0)) (λ(g6:Int)=>(n_.aY.length - g6).toNat) ?_ ?_
      ·intro jR g6 PX K8;obtain⟨M0,wS⟩:=PX;unfold Oy;refine wi ?_ ?_<;>intro c13
       ·refine wm<|wn ?_;refine wi ?_ ?_<;>intro c14
        ·exact ay (aN om (aN (gZ cB om) (aN (gZ jL om) (aN (gZ qK om) (aN (gZ mG om) (aN om (aN (gZ Fp om) (eF ⟨g6.toNat,om,om,by rw[show g6.toNat - 1=(g6 - 1).toNat by omega];omega⟩))))))))
        refine wn<|K8 _ ?_ ?_
        ·(refine⟨ob,λ j h1 h2=>?_⟩;by_cases q:(j:Int)<g6;(exact wS j q h2);(have e:j=g6.toNat:=by omega);subst e;rw[show g6.toNat - 1=(g6 - 1).toNat by omega];omega)
        exact ob
       exact ay (aN om (aN (gZ cB om) (aN (gZ jL om) (aN (gZ qK om) (aN (gZ mG om) (aN om (aN (gZ Fp om) (aN (Ik wS om) (rfl)))))))))
      (refine⟨ob,λ j h1 h2=>by omega⟩)
     exact ak7
    exact ak7
   exact ak7
  exact ak7
 exact ak7
variable {l_:aha}
def acE {x_:aH} (h1:uW b_) (h2:l_.length<=2000000) (h3:x_.aZ.length<=2000000) (h4:x_.aY.length<=2000000):W (KO b_ l_ x_) (λ r=>NdE b_ x_ l_.length r):=by
 obtain⟨z1,z2,z3,z4,z5,z6,z7⟩:=h1;unfold KO;refine wi ?_ ?_<;>intro c1
 ·exact ay<|eF om
 refine bK (λ(g1:Int)=>0<=g1/\(∀j:Nat,(j:Int)<g1->agB b_.bS.length (x_.bG.getD j dM))) (λ(g1:Int)=>(x_.bG.length - g1).toNat) ?_ ?_
 ·intro aj g1 eT dA;obtain⟨dW,cB⟩:=eT;unfold R7;refine wi ?_ ?_<;>intro c2
  ·refine wn<|wi ?_ ?_<;>intro c3
   ·exact ay (aN om (eF ⟨g1.toNat,om,λ⟨_,_,_,_,_⟩=>by omega⟩))
   refine wn<|dA _ ?_ ?_
   ·(refine⟨ob,eH cB dW ⟨om,om,om,om,om⟩⟩)
   exact ob
  refine bK (λ(g2:Int)=>0<=g2/\(∀j:Nat,(j:Int)<g2->am7 b_.bF.length (x_.d9.getD j dV))) (λ(g2:Int)=>(x_.d9.length - g2).toNat) ?_ ?_
  ·intro dR g2 nk qJ;obtain⟨rG,jL⟩:=nk;unfold O8;refine wi ?_ ?_<;>intro c4
   ·refine wn<|wi ?_ ?_<;>intro c5
    ·exact ay (aN om (aN (gZ cB om) (eF ⟨g2.toNat,om,λ⟨_,_,_,_,_,_,_⟩=>by omega⟩)))
    refine wn<|qJ _ ?_ ?_
    ·(refine⟨ob,eH jL rG ⟨om,om,om,om,om,om,om⟩⟩)
    exact ob
   refine bK (λ(g3:Int)=>0<=g3/\(∀j:Nat,(j:Int)<g3->Ef (x_.ak.getD j ByteArray.empty))) (λ(g3:Int)=>(x_.ak.length - g3).toNat) ?_ ?_
   ·intro jO g3 aeF aeG;obtain⟨Yo,qK⟩:=aeF;unfold O7;refine wi ?_ ?_<;>intro c6
    ·refine wn<|aG (AL) λ v3 hv3=>?_;apply bL<;>intro c7
     ·have Yl:=c7;have c7:=eu c7;exact ay (aN om (aN (gZ cB om) (aN (gZ jL om) (eF ⟨g3.toNat,om,λ h=>by simp[hv3.2 h]at Yl⟩))))
     have Yl:=c7;have c7:=eu c7;refine wn<|aeG _ ?_ ?_
     ·(refine⟨ob,eH qK Yo (hv3.1 (by simpa using Yl))⟩)
     exact ob
    refine bK (λ(g4:Int)=>0<=g4/\(∀j:Nat,(j:Int)<g4->0<=x_.aZ.getD j 0/\x_.aZ.getD j 0<b_.aZ.length)) (λ(g4:Int)=>(x_.aZ.length - g4).toNat) ?_ ?_
    ·intro jA g4 K7 JO;obtain⟨G9,mG⟩:=K7;unfold O6;refine wi ?_ ?_<;>intro c8
     ·refine wn<|wi ?_ ?_<;>intro c9
      ·exact ay (aN om (aN (gZ cB om) (aN (gZ jL om) (aN (gZ qK om) (eF ⟨g4.toNat,om,om⟩)))))
      refine wn<|JO _ ?_ ?_
      ·(refine⟨ob,eH mG G9 om⟩)
      exact ob
     refine wi ?_ ?_<;>intro c10
     ·exact ay (aN om (aN (gZ cB om) (aN (gZ jL om) (aN (gZ qK om) (aN (gZ mG om) (eF om))))))
     refine bK (λ(g5:Int)=>0<=g5/\(∀j:Nat,(j:Int)<g5->0<=x_.aY.getD j 0/\x_.aY.getD j 0<(l_.length:Int))) (λ(g5:Int)=>(x_.aY.length - g5).toNat) ?_ ?_
     ·intro kr g5 Xc Xd;obtain⟨Sr,Fp⟩:=Xc;unfold O5;refine wi ?_ ?_<;>intro c11
      ·refine wn<|wi ?_ ?_<;>intro c12
       ·exact ay (aN om (aN (gZ cB om) (aN (gZ jL om) (aN (gZ qK om) (aN (gZ mG om) (aN om (eF ⟨g5.toNat,om,om⟩)))))))
       refine wn<|Xd _ ?_ ?_
       ·(refine⟨ob,eH Fp Sr om⟩)
       exact ob
      refine bK (λ(g6:Int)=>1<=g6/\(∀j:Nat,(j:Int)<g6->1<=j->x_.aY.getD (j - 1) 0<x_.aY.getD j 0)) (λ(g6:Int)=>(x_.aY.length - g6).toNat) ?_ ?_
      ·intro jR g6 PX K8;obtain⟨M0,wS⟩:=PX;unfold OZ;refine wi ?_ ?_<;>intro c13
       ·refine wm<|wn ?_;refine wi ?_ ?_<;>intro c14
        ·exact ay (aN om (aN (gZ cB om) (aN (gZ jL om) (aN (gZ qK om) (aN (gZ mG om) (aN om (aN (gZ Fp om) (eF ⟨g6.toNat,om,om,by rw[show g6.toNat - 1=(g6 - 1).toNat by omega];omega⟩))))))))
        refine wn<|K8 _ ?_ ?_
        ·(refine⟨ob,λ j h1 h2=>?_⟩;by_cases q:(j:Int)<g6;(exact wS j q h2);(have e:j=g6.toNat:=by omega);subst e;rw[show g6.toNat - 1=(g6 - 1).toNat by omega];omega)
        exact ob
       exact ay (aN om (aN (gZ cB om) (aN (gZ jL om) (aN (gZ qK om) (aN (gZ mG om) (aN om (aN (gZ Fp om) (aN (Ik wS om) (rfl)))))))))
      (refine⟨ob,λ j h1 h2=>by omega⟩)
     exact ak7
    exact ak7
   exact ak7
  exact ak7
 exact ak7
def Sz (h1:uW b_) (h2:∀g∈b_.aT.av,g.bU.length<=2000000/\g.ak.length<=2000000) (h3:Fj l_):W (EH b_ l_) (λ r=>ku b_ l_ r):=by
 obtain⟨w1,w2⟩:=h3;unfold EH;refine aG (P8 h1 h2) λ v1 hv1=>?_;refine wi ?_ ?_<;>intro c1
 ·exact ay<|Ii hv1 c1
 refine wi ?_ ?_<;>intro c2
 ·exact ay<|lI (c1 ▸ hv1) (eF c2)
 refine bK (λ(g1:Int)=>0<=g1/\(∀j:Nat,(j:Int)<g1->NdE b_ (l_.getD j aU) l_.length 0)) (λ(g1:Int)=>(l_.length - g1).toNat) ?_ ?_
 ·intro aj g1 eT dA;obtain⟨dW,cB⟩:=eT;unfold R5;refine wi ?_ ?_<;>intro c3
  ·have hw:=w2 _ (getD_in (i:=g1.toNat) aU om);refine wn<|aG (acD ob ob ob ob ob) λ v4 hv4=>?_;refine wi ?_ ?_<;>intro c4
   ·exact ay<|lI (c1 ▸ hv1) (aN om (Ij (i:=g1.toNat) om (λ k hk=>cB k om) hv4 c4))
   refine wn<|dA _ ?_ ?_
   ·(refine⟨ob,eH cB dW (by rw[c4]at hv4;exact hv4)⟩)
   exact ob
  exact ay<|lI (c1 ▸ hv1) (aN om (Q5 λ k hk=>cB k om))
 exact ak7
def Il (h1:uW b_) (h2:∀g∈b_.aT.av,g.bU.length<=2000000/\g.ak.length<=2000000) (h3:Fj l_):W (vW b_ l_) (λ r=>ku b_ l_ r):=by
 obtain⟨w1,w2⟩:=h3;unfold vW;refine aG (abq h1 h2) λ v1 hv1=>?_;refine wi ?_ ?_<;>intro c1
 ·exact ay<|Ii hv1 c1
 refine wi ?_ ?_<;>intro c2
 ·exact ay<|lI (c1 ▸ hv1) (eF c2)
 refine bK (λ(g1:Int)=>0<=g1/\(∀j:Nat,(j:Int)<g1->NdE b_ (l_.getD j aU) l_.length 0)) (λ(g1:Int)=>(l_.length - g1).toNat) ?_ ?_
 ·intro aj g1 eT dA;obtain⟨dW,cB⟩:=eT;unfold R8;refine wi ?_ ?_<;>intro c3
  ·have hw:=w2 _ (getD_in (i:=g1.toNat) aU om);refine wn<|aG (acE ob ob ob ob) λ v4 hv4=>?_;refine wi ?_ ?_<;>intro c4
   ·exact ay<|lI (c1 ▸ hv1) (aN om (Ij (i:=g1.toNat) om (λ k hk=>cB k om) hv4 c4))
   refine wn<|dA _ ?_ ?_
   ·(refine⟨ob,eH cB dW (by rw[c4]at hv4;exact hv4)⟩)
   exact ob
  exact ay<|lI (c1 ▸ hv1) (aN om (Q5 λ k hk=>cB k om))
 exact ak7
variable {s_:iB}
def P9 (h1:acs s_):W (rz s_) (λ r=>(r=true↔yH s_.dO s_.aX/\anr s_.bI s_.dO s_.bq)):=by
 obtain⟨⟨s1,s2,s3,s4,s5,s6,s7⟩,v_,n1,n2,⟨n3,n4⟩,m1,⟨z1,z2,z3,z4,z5,z6⟩⟩:=h1;have hch:∀i,i<s_.bI.bS.length->(s_.bI.bS.getD i aL).aP.length<=2000000:=s2;unfold rz;refine aG (TQ ob ob) λ v1 hv1=>?_;apply bL<;>intro c1
 ·have gW:=c1;have c1:=eu c1;refine ay ?_;(constructor;(intro e;cases e);(rintro ⟨a,⟨b1,b2,b3,b4,b5⟩,_⟩;rw[hv1.2 a]at gW;simp only[Bool.not_true,Bool.false_or,Bool.or_eq_true,bne_iff_ne]at gW;omega))
 have gW:=c1;have c1:=eu c1;have hm:=hv1.1 (by simp only[Bool.or_eq_false_iff]at gW;simpa using gW.1.1.1.1.1);have hl:(s_.bq.bM.length:Int)=s_.bI.bS.length:=(by simp only[Bool.or_eq_false_iff]at gW;simpa using gW.1.1.1.1.2);refine bK (λ(g1:Int)=>0<=g1/\(∀j:Nat,(j:Int)<g1->0<=s_.bq.bM.getD j 0/\s_.bq.bM.getD j 0<(s_.bI.bS.getD j aL).aP.length)) (λ(g1:Int)=>(s_.bI.bS.length - g1).toNat) ?_ ?_
 ·intro aj g1 eT dA;obtain⟨dW,cB⟩:=eT;unfold Bf;refine wi ?_ ?_<;>intro c2
  ·have hq:=hch g1.toNat om;refine wm<|wn ?_;refine aG (qj) λ v4 hv4=>?_;subst v4;refine wi ?_ ?_<;>intro c3
   ·refine ay ?_;(constructor;(intro e;cases e);(rintro ⟨_,_,a,_⟩;have:=a g1.toNat om;omega))
   refine wn<|dA _ ?_ ?_
   ·(refine⟨ob,eH cB dW om⟩)
   exact ob
  refine bK (λ(g2:Int)=>0<=g2/\(∀j:Nat,(j:Int)<g2 -> -1<=(s_.bq.dK.getD j bE).iW/\(s_.bq.dK.getD j bE).iW<s_.dO.length)) (λ(g2:Int)=>(s_.bq.dK.length - g2).toNat) ?_ ?_
  ·intro dR g2 nk qJ;obtain⟨rG,jL⟩:=nk;unfold zh;refine wi ?_ ?_<;>intro c4
   ·refine wm<|aG (qj) λ v7 hv7=>?_;subst v7;refine wi ?_ ?_<;>intro c5
    ·refine ay ?_;(constructor;(intro e;cases e);(rintro ⟨_,_,_,a⟩;have:=a g2.toNat om;omega))
    refine wn<|qJ _ ?_ ?_
    ·(refine⟨ob,eH jL rG om⟩)
    exact ob
   refine ay ?_;(constructor;(intro _;exact⟨hm,⟨om,om,om,om,om⟩,λ i hi=>cB i om,λ i hi=>jL i om⟩);(intro _;rfl))
  exact ak7
 exact ak7
variable {g_:aO}
def YR (h1:uW b_) (h2:l_.length<=2000000) (h3:Ec g_):W (DY b_ l_ g_) (λ r=>r=true↔anr b_ l_ g_):=by
 obtain⟨s1,s2,s3,s4,s5,s6,s7⟩:=h1;obtain⟨z1,z2,z3,z4,z5,z6⟩:=h3;unfold DY;refine wi ?_ ?_<;>intro c1
 ·refine ay ?_;(constructor;(intro e;cases e);(rintro ⟨⟨b1,b2,b3,b4,b5⟩,_⟩;omega))
 refine bK (λ(g1:Int)=>0<=g1/\(∀j:Nat,(j:Int)<g1->0<=g_.bM.getD j 0/\g_.bM.getD j 0<(b_.bS.getD j aL).aP.length)) (λ(g1:Int)=>(g_.bM.length - g1).toNat) ?_ ?_
 ·intro aj g1 eT dA;obtain⟨dW,cB⟩:=eT;unfold MI;refine wi ?_ ?_<;>intro c2
  ·refine wm<|wn ?_;refine wi ?_ ?_<;>intro c3
   ·refine ay ?_;(constructor;(intro e;cases e);(rintro ⟨_,a,_⟩;have:=a g1.toNat om;omega))
   refine wn<|dA _ ?_ ?_
   ·(refine⟨ob,eH cB dW om⟩)
   exact ob
  refine bK (λ(g2:Int)=>0<=g2/\(∀j:Nat,(j:Int)<g2 -> -1<=(g_.dK.getD j bE).iW/\(g_.dK.getD j bE).iW<l_.length)) (λ(g2:Int)=>(g_.dK.length - g2).toNat) ?_ ?_
  ·intro dR g2 nk qJ;obtain⟨rG,jL⟩:=nk;unfold MH;refine wi ?_ ?_<;>intro c4
   ·refine wm<|wi ?_ ?_<;>intro c5
    ·refine ay ?_;(constructor;(intro e;cases e);(rintro ⟨_,_,a⟩;have:=a g2.toNat om;omega))
    refine wn<|qJ _ ?_ ?_
    ·(refine⟨ob,eH jL rG om⟩)
    exact ob
   refine ay ?_;(constructor;(intro _;exact⟨⟨om,om,om,om,om⟩,λ i hi=>cB i om,λ i hi=>jL i om⟩);(intro _;rfl))
  exact ak7
 exact ak7
variable {l:ah3} {s:ag8}
def ao8 (hf:acg l) (hs:mF l s=true) {x:bP} (h0:0<=x.fE) (h1:x.fE<l.length):abh (Sm l s) x=WS (gV l s) x:=by
 obtain⟨e1,e2,_,_⟩:=QX hf hs x.fE.toNat om;unfold abh WS;rw[e1,e2,Bool.not_not]
def ao9 (hf:acg l) (hs:mF l s=true):akL l (Sm l s)=ownB l (gV l s):=by
 unfold akL ownB;have:∀i∈List.range l.length,(!ani (Sm l s).1 (Sm l s).2 l i)=(!aep ((gV l s).getD i dZ) (l.getD i aL)):=λ i hi=>by
  obtain⟨e1,e2,_,_⟩:=QX hf hs i (by simpa using hi);unfold ani aep;rw[e1,e2]
 rw[Bool.eq_iff_iff,List.all_eq_true,List.all_eq_true];exact⟨λ h i hi=>by rw[<- this i hi];exact h i hi,λ h i hi=>by rw[this i hi];exact h i hi⟩
variable {α:Type}
def any_congr {l:List α} {p q:α->Bool} (h:∀x∈l,p x=q x):l.any p=l.any q:=by
 rw[Bool.eq_iff_iff,List.any_eq_true,List.any_eq_true];exact⟨λ⟨x,h1,h2⟩=>⟨x,h1,by rw[<- h x h1];exact h2⟩,λ⟨x,h1,h2⟩=>⟨x,h1,by rw[h x h1];exact h2⟩⟩
def Fx {m:ajc} (h1:nN l m=true) (h2:mF l s=true):gD l s m=Sy l s m:=by
 obtain⟨hck,hml,hmb⟩:=Fa h1;have hf:=vE hck;unfold gD Sy;rw[h1,h2,ao9 hf h2,any_congr λ x hx=>ao8 hf h2 (PI (PK h1 x hx)).1.1 (PI (PK h1 x hx)).1.2,Bool.and_comm (!_)];rfl
def Xh {l_:ah3} {s_:ag8} (h1:l_.length<=2000000) (h2:s_.length<=2000000) (h3:agk l_):W (Ar l_ s_) (λ r=>r=((eY l_==0)&&mF l_ s_)):=by
 unfold Ar;refine aG (AB ob) λ v1 hv1=>?_;subst v1;apply bL<;>intro c1
 ·have gW:=c1;have c1:=eu c1;refine ay ?_;(rcases Bool.or_eq_true_iff.1 gW with c | c;(rw[show(eY l_==0)=false by simpa using c];rfl);(unfold mF;rw[show((s_.length:Int)==(l_.length:Int))=false by simpa using c];simp))
 have gW:=c1;have c1:=eu c1;have he:((s_.length:Int)==(l_.length:Int))=true:=(by have:=(Bool.or_eq_false_iff.1 gW).2;simpa using this);have hc0:(eY l_==0)=true:=(by have:=(Bool.or_eq_false_iff.1 gW).1;simpa using this);refine bK (λ(g1:Int)=>0<=g1/\g1<=l_.length/\(∀j:Nat,(j:Int)<g1->dU (s_.getD j 0) 0 ((l_.getD j aL).aP.length - 1)=true)) (λ(g1:Int)=>(l_.length - g1).toNat) ?_ ?_
 ·intro aj g1 eT dA;obtain⟨dW,cB,bH⟩:=eT;unfold Ju;refine wi ?_ ?_<;>intro c2
  ·have hch:=h3 g1.toNat om;refine wm<|wn ?_;refine wi ?_ ?_<;>intro c3
   ·refine ay ?_;(unfold mF;rw[he,yA (i:=g1.toNat) om (by unfold dU;rw[Bool.and_eq_false_iff,decide_eq_false_iff_not,decide_eq_false_iff_not];omega)];simp)
   refine wn<|dA _ ?_ ?_
   ·(refine⟨ob,ob,eH bH dW (by unfold dU;rw[Bool.and_eq_true,decide_eq_true_eq,decide_eq_true_eq];omega)⟩)
   exact ob
  refine ay ?_;(unfold mF;rw[he,hc0,Aw λ j hj=>bH j om];rfl)
 (refine⟨ob,ob,λ j hj=>by omega⟩)
def Fy {l_:ah3} {s_:ag8} {m_:ajc} (h1:l_.length<=2000000) (h2:s_.length<=2000000) (h3:m_.length<=2000000) (h4:agk l_):W (Bt l_ s_ m_) (λ r=>r=gD l_ s_ m_):=by
 unfold Bt;refine aG (Xh ob ob ob) λ v1 hv1=>?_;subst v1;refine aG (ig λ hc=>mg (PY ob ob)) λ v2 hv2=>?_;subst v2;apply bL<;>intro c1
 ·have gW:=c1;have c1:=eu c1;refine ay ?_;(unfold gD;rcases Bool.or_eq_true_iff.1 gW with c | c;(simp only[Bool.not_eq_true',Bool.and_eq_false_iff,beq_eq_false_iff_ne]at c;rcases c with c | c;(rw[show nN l_ m_=false by(unfold nN;rw[show(eY l_==0)=false by simpa using c];rfl)];rfl);(rw[c,Bool.and_false];rfl));(rw[show nN l_ m_=false by simpa using c];rfl))
 have gW:=c1;have c1:=eu c1;have hss:mF l_ s_=true:=(by have:=(Bool.or_eq_false_iff.1 gW).1;simp only[Bool.not_eq_false',Bool.and_eq_true]at this;exact this.2);have hlm:nN l_ m_=true:=(by have:=(Bool.or_eq_false_iff.1 gW).2;simpa using this);obtain⟨hck,hml,hmb⟩:=Fa hlm;have hst:=QW l_ s_ l_.length;refine aG (P5 (QU (vE hck) hss) (amX (vE hck) hss)) λ v3 hv3=>?_;subst v3;have hs1:(Sm l_ s_).1.length=l_.length:=hst.1;have hs2:(Sm l_ s_).2.length=l_.length:=hst.2;refine bK (λ(g1:Int)=>0<=g1/\g1<=m_.length/\(m_.drop g1.toNat).any (abh (Sm l_ s_))=m_.any (abh (Sm l_ s_))) (λ(g1:Int)=>(m_.length - g1).toNat) ?_ ?_
 ·intro aj g1 eT dA;obtain⟨dW,cB,bH⟩:=eT;unfold Pk;refine wi ?_ ?_<;>intro c2
  ·have hlt:g1.toNat<m_.length:=om;have hx:=(PI (PK hlm _ (getD_in (i:=g1.toNat) dM hlt))).1;rw[drop_cons dM hlt,List.any_cons]at bH;refine wm<|wn ?_;refine aG (ig λ hc=>mg (Fq)) λ v6 hv6=>?_;subst v6;apply bL<;>intro c3
   ·have jU:=c3;have c3:=eu c3;refine ay ?_;(rw[Fx hlm hss];unfold Sy;rw[<- bH,show abh (Sm l_ s_) (m_.getD g1.toNat dM)=true from jU];rfl)
   have jU:=c3;have c3:=eu c3;refine wn<|dA _ ?_ ?_
   ·(refine⟨ob,ob,?_⟩;rw[<- bH,show abh (Sm l_ s_) (m_.getD g1.toNat dM)=false from jU,show(g1+1).toNat=g1.toNat+1 by omega];rfl)
   exact ob
  refine aG (Yn ob ob ob) λ v7 hv7=>?_;subst v7;refine ay ?_;(rw[Fx hlm hss];unfold Sy;rw[<- bH,show g1.toNat=m_.length by omega,List.drop_length];rfl)
 (refine⟨ob,ob,rfl⟩)
variable {p:bg}
def uI.v (h:uI p 0):akP p:=by
 obtain⟨h1,h2⟩:=pq (by decide) h;obtain⟨h3,h4⟩:=pq (by decide) h2;have h5:=ajr h4;have hg:∀i:Nat,(i:Int)<p.av.length->GpV p.bU (p.av.getD i aF)/\∀k:Nat,k<i->(p.av.getD k aF).wh.toList≠(p.av.getD i aF).wh.toList:=λ i hi=>by
  obtain⟨a1,a2⟩:=pq (by decide) (h5 i om);obtain⟨b1,b2⟩:=pq (by decide) a2;obtain⟨c1,c2⟩:=pq (by decide) b2;obtain⟨d1,d2⟩:=pq (by decide) c2;obtain⟨e1,e2⟩:=pq (by decide) d2;obtain⟨f1,f2⟩:=pq (by decide) e2;obtain⟨k1,k2⟩:=pq (by decide) f2;obtain⟨l1,_⟩:=pq (by decide) k2;refine⟨⟨⟨om,om,jT 0 λ j hj=>?_⟩,Classical.not_not.1 a1,λ k hk hl=>?_,λ j hj=>?_,λ k j hj hk e=>l1 ⟨k,j,hj,hk,e⟩⟩,λ k hk e=>b1 ⟨k,hk,e⟩⟩
  ·exact Classical.byContradiction λ q=>e1 ⟨j,om,q⟩
  ·exact Classical.byContradiction λ q=>f1 ⟨k,hk,hl,om⟩
  exact Classical.byContradiction λ q=>k1 ⟨j,hj,q⟩
 exact⟨⟨om,om,jT aF λ i hi=>(hg i om).1.ok⟩,λ i hi=>(hg i hi).1,λ i k hk hi=>(hg i hi).2 k hk⟩
def ar5 (p:bg) (l:akE) (i:Nat):Prop:=PW p (l.getD i gB)/\(∀k:Nat,k<i->(l.getD k gB).dF≠(l.getD i gB).dF)/\
 ∀k:Nat,k<i->∀a b:Nat,(a:Int)<(p.av.getD (l.getD k gB).dF.toNat aF).bU.length->(b:Int)<(p.av.getD (l.getD i gB).dF.toNat aF).bU.length->(p.av.getD (l.getD k gB).dF.toNat aF).bU.getD a 0≠(p.av.getD (l.getD i gB).dF.toNat aF).bU.getD b 0
def TS (p:bg) (l:akE):Prop:=∀i:Nat,(i:Int)<l.length->ar5 p l i
variable {p_:bg}
def abr {l_:akE} (h1:∀g∈p_.av,g.bU.length<=2000000/\g.ak.length<=2000000) (h2:l_.length<=2000000):W (Gq p_ l_) (λ r=>(r.2=0↔uI p_ 0/\TS p_ l_)):=by
 unfold Gq;refine bK (λ(g1:(Int×(Nat->Int)×(Nat->Int)))=>0<=g1.1/\(∀x:Nat,(x:Int)<g1.1->g1.2.2 x = -1)) (λ(g1:(Int×(Nat->Int)×(Nat->Int)))=>(64 - g1.1).toNat) ?_ ?_
 ·intro aj g1 eT dA;obtain⟨dW,cB⟩:=eT;unfold OG;refine wi ?_ ?_<;>intro c1
  ·refine wm<|dA _ ?_ ?_
   ·(refine⟨ob,λ x hx=>?_⟩;dsimp only at hx ⊢;by_cases q:x=g1.1.toNat;(rw[q,Ta]);(rw[upd_ne q];exact cB x om))
   exact ob
  refine aG (uX h1) λ v1 hv1=>?_;refine wi ?_ ?_<;>intro c2
  ·refine ay ?_;(refine⟨λ e=>by(try dsimp only at e);omega,λ⟨a,_⟩=>absurd (uI.fun _ _ hv1 a) c2⟩)
  have hpa:uI p_ 0:=(by rw[c2]at hv1;exact hv1);have hpv:=hpa.v;obtain⟨⟨p1,p2,p3⟩,gr,nm⟩:=id hpv;refine wn<|bK (λ(g2:(Int×(Nat->Int)×ag9))=>0<=g2.1/\g2.2.2.length=p_.av.length/\(∀x:Nat,x<64->(0<=g2.2.1 x↔∃j:Nat,(j:Int)<g2.1/\∃k:Nat,(k:Int)<(p_.av.getD (l_.getD j gB).dF.toNat aF).bU.length/\(p_.av.getD (l_.getD j gB).dF.toNat aF).bU.getD k 0=x))/\(∀x:Nat,g2.2.2.getD x false=true↔∃j:Nat,(j:Int)<g2.1/\(l_.getD j gB).dF=x)/\(∀i:Nat,(i:Int)<g2.1->ar5 p_ l_ i)) (λ(g2:(Int×(Nat->Int)×ag9))=>(l_.length - g2.1).toNat) ?_ ?_
  ·intro dR g2 nk qJ;obtain⟨rG,jL,mX,Dg,SA⟩:=nk;unfold L6;refine wi ?_ ?_<;>intro c3
   ·refine wm<|wi ?_ ?_<;>intro c4
    ·refine ay ?_;(refine⟨λ e=>by(try dsimp only at e);omega,λ⟨_,h⟩=>?_⟩;obtain⟨⟨u1,u2,u3,u4⟩,_⟩:=h g2.1.toNat om;omega)
    have hu:PW p_ (l_.getD g2.1.toNat gB):=⟨om,om,om,om⟩;obtain⟨u1,u2,u3,u4⟩:=id hu;refine wn<|bL ?_ ?_<;>intro c5
    ·have BM:=c5;have c5:=eu c5;refine ay ?_;(refine⟨λ e=>by(try dsimp only at e);omega,λ⟨_,h⟩=>?_⟩;obtain⟨_,hd,_⟩:=h g2.1.toNat om;obtain⟨j,e3,e4⟩:=(Dg _).1 BM;exact absurd e4 (λ e4=>hd j om om))
    have BM:=c5;have c5:=eu c5;refine wm<|bK (λ(g5:(Int×(Nat->Int)×ag9))=>0<=g5.1/\g5.1<=(p_.av.getD (l_.getD g2.1.toNat gB).dF.toNat aF).bU.length/\g5.2.2.length=p_.av.length/\(∀x:Nat,x<64->(0<=g5.2.1 x↔(∃j:Nat,(j:Int)<g2.1/\∃k:Nat,(k:Int)<(p_.av.getD (l_.getD j gB).dF.toNat aF).bU.length/\(p_.av.getD (l_.getD j gB).dF.toNat aF).bU.getD k 0=x)\/∃k:Nat,(k:Int)<g5.1/\(p_.av.getD (l_.getD g2.1.toNat gB).dF.toNat aF).bU.getD k 0=x))/\(∀x:Nat,g5.2.2.getD x false=true↔∃j:Nat,(j:Int)<g2.1+1/\(l_.getD j gB).dF=x)/\(∀b:Nat,(b:Int)<g5.1->∀j:Nat,(j:Int)<g2.1->∀a:Nat,(a:Int)<(p_.av.getD (l_.getD j gB).dF.toNat aF).bU.length->(p_.av.getD (l_.getD j gB).dF.toNat aF).bU.getD a 0≠(p_.av.getD (l_.getD g2.1.toNat gB).dF.toNat aF).bU.getD b 0)) (λ(g5:(Int×(Nat->Int)×ag9))=>((p_.av.getD (l_.getD g2.1.toNat gB).dF.toNat aF).bU.length - g5.1).toNat) ?_ ?_
    ·intro kr g5 Xc Xd;obtain⟨Sr,Fp,MZ,abt,agN,adu⟩:=Xc;unfold LZ;refine wi ?_ ?_<;>intro c6
     ·have hmg:=getD_in (l:=p_.av) (i:=(l_.getD g2.1.toNat gB).dF.toNat) aF om;have hgl:=(h1 _ hmg).1;have hpn:=(p3 _ hmg).pn _ (getD_in (i:=g5.1.toNat) 0 om);refine wm<|wi ?_ ?_<;>intro c7
      ·refine ay ?_;(refine⟨λ e=>by(try dsimp only at e);omega,λ⟨_,h⟩=>?_⟩;obtain⟨_,_,hd⟩:=h g2.1.toNat om;exfalso;rcases(abt _ om).1 c7 with⟨j,e3,k,e5,e6⟩ | ⟨k,e5,e6⟩;(exact hd j om k g5.1.toNat e5 om (by rw[e6];omega));(have:=Vq hpv u1 u2 k g5.1.toNat om om;omega))
      refine wm<|Xd _ ?_ ?_
      ·(refine⟨ob,ob,ob,λ x hx=>?_,agN,λ b hb j hj a ha=>?_⟩;(dsimp only;by_cases q:x=((p_.av.getD (l_.getD g2.1.toNat gB).dF.toNat aF).bU.getD g5.1.toNat 0).toNat;(rw[q,Ta];constructor;(intro _;exact .inr ⟨g5.1.toNat,om,om⟩);(intro _;omega));(rw[upd_ne q,abt x hx];constructor;(rintro (h | ⟨k,e5,e6⟩);(exact .inl h);(exact .inr ⟨k,om,e6⟩));(rintro (h | ⟨k,e5,e6⟩);(exact .inl h);(refine .inr ⟨k,?_,e6⟩;by_cases e:(k:Int)<g5.1;(exact e);exfalso;apply q;rw[show g5.1.toNat=k by omega];omega))));(by_cases q:(b:Int)<g5.1;(exact adu b q j hj a ha);(have e:b=g5.1.toNat:=by(try dsimp only at hb);omega);subst e;intro e7;have e8:=(abt ((p_.av.getD (l_.getD g2.1.toNat gB).dF.toNat aF).bU.getD g5.1.toNat 0).toNat om).2 (.inl ⟨j,hj,a,ha,by rw[e7];omega⟩);omega))
      exact ob
     refine wn<|qJ _ ?_ ?_
     ·(refine⟨ob,MZ,λ x hx=>?_,λ x=>agN x,eH SA rG ⟨hu,λ k hk e=>?_,λ k hk a b ha hb=>adu b om k om a ha⟩⟩;(dsimp only;rw[abt x hx];constructor;(rintro (⟨j,e3,e⟩ | ⟨k,e5,e6⟩);(exact⟨j,om,e⟩);(exact⟨g2.1.toNat,om,k,om,e6⟩));(rintro ⟨j,e3,k,e5,e6⟩;by_cases q:(j:Int)<g2.1;(exact .inl ⟨j,q,k,e5,e6⟩);(have e:j=g2.1.toNat:=by omega);subst e;exact .inr ⟨k,om,e6⟩));(rw[(Dg _).2 ⟨k,om,om⟩]at c5;cases c5))
     exact ob
    (refine⟨ob,ob,ob,λ x hx=>⟨λ h=>.inl ((mX x hx).1 h),?_⟩,λ x=>?_,λ b hb=>?_⟩;(rintro (h | ⟨k,e5,_⟩);(exact(mX x hx).2 h);(exfalso;(try dsimp only at e5);omega));(dsimp only;by_cases q:x=(l_.getD g2.1.toNat gB).dF.toNat;(rw[q,qm om];exact⟨λ _=>⟨g2.1.toNat,om,om⟩,λ _=>rfl⟩);(rw[kW q,Dg];constructor;(rintro ⟨j,e3,e4⟩;exact⟨j,om,e4⟩);(rintro ⟨j,e3,e4⟩;refine⟨j,?_,e4⟩;by_cases e:(j:Int)<g2.1;(exact e);exfalso;apply q;rw[show g2.1.toNat=j by omega];omega)));(exfalso;(try dsimp only at hb);omega))
   refine ay ?_;(refine⟨λ _=>⟨hpa,λ i hi=>SA i om⟩,λ _=>rfl⟩)
  (refine⟨ob,by simp,λ x hx=>⟨λ h=>?_,λ⟨j,e,_⟩=>?_⟩,λ x=>⟨λ hx=>?_,λ⟨j,e,_⟩=>?_⟩,λ j hj=>?_⟩;(exfalso;have:=cB x om;(try dsimp only at h);omega);(exfalso;(try dsimp only at e);omega);(exfalso;dsimp only at hx;rw[List.getD_eq_getElem?_getD,List.getElem?_replicate]at hx;split at hx<;>simp at hx);(exfalso;(try dsimp only at e);omega);(exfalso;(try dsimp only at hj);omega))
 exact ak7
def Yp (p:bg):Prop:=∀g∈p.av,g.bU.length<=2000000/\g.ak.length<=2000000
def acF {f_:ByteArray} (h1:Yp p_) (h2:uI p_ 0) (h3:p_.av.length<=24):W (Gt p_ f_) (λ r=>r=Ee p_ f_ p_.av.length):=by
 unfold Gt;refine aG (uX h1) λ v1 hv1=>?_;have e1:v1=0:=uI.fun _ _ hv1 h2;subst e1;refine bL (λ c1=>by cases c1) (λ c1=>?_);refine bK (λ g1:Int×ag8=>0<=g1.1/\g1.1<=p_.av.length/\g1.2=Ee p_ f_ g1.1.toNat) (λ g1=>(p_.av.length - g1.1).toNat) ?_ ⟨ob,ob,rfl⟩;intro aj g1 ⟨a1,a2,a3⟩ ih1;have hl:=P7 p_ f_ g1.1.toNat;rw[<- a3]at hl;unfold OP;refine wi ?_ ?_<;>intro c
 ·have hfl:=(h1 _ (getD_in (i:=g1.1.toNat) aF om)).2;have e:(g1.1+1).toNat=g1.1.toNat+1:=by omega
  refine wn<|aG (FY om) λ v4 hv4=>?_;have hs:=ads p_ f_ g1.1.toNat;apply bL<;>intro c2
  ·rw[c2]at hv4;refine aK (by unfold big;omega) ?_;refine wn<|ih1 _ ⟨ob,ob,?_⟩ ob;dsimp only;rw[e,hs,<- a3,if_pos (by unfold Np;exact hv4.symm)];congr 2;omega
  rw[c2]at hv4;refine wn<|ih1 _ ⟨ob,ob,?_⟩ ob;dsimp only;rw[e,hs,<- a3,if_neg (by unfold Np;rw[<- hv4];simp),List.append_nil]
 exact ay (by rw[a3];congr 1;omega)
def orF (a:Int) (k:Int):Int:=orI .u64 a (Ra .u64 (1:Int) k)
def BI (g:cu):Int:=g.bU.foldl orF 0
def Im (ms:ag8) (gs:ag8):Int:=gs.foldl (λ a g=>orI .u64 a (ms.getD g.toNat 0)) 0
def M6 {β:Type} (f:β->α->β) (b:β) (l:List α) (d:α) {i:Nat} (h:i<l.length):(l.take (i+1)).foldl f b=f ((l.take i).foldl f b) (l.getD i d):=by
 rw[List.take_add_one,List.foldl_append,List.getElem?_eq_getElem h,List.getD_eq_getElem?_getD,List.getElem?_eq_getElem h];rfl
structure PB (p:bg) (l:aiS) (given:ag8) (x:fA):Prop where
 pa:uI p 0
 ll:l.length<=10
 op:x.gJ=l.map λ f=>Ee p f p.av.length
 ms:x.rT=p.av.map BI
 gv:x.pJ=given
 gl:given.length<=l.length
 tk:x.vO=Im x.rT given
 gm:∀i:Nat,i<given.length->given.getD i 0∈x.gJ.getD i []
def ant {σ R:Type} {F:(σ->M R)->σ->M R} {Q:σ->R->Prop} (inv:σ->Prop) (μ:σ->Nat) (h:∀(self:σ->M R) (s:σ),inv s->(∀s',inv s'->μ s'<μ s->W (self s') (Q s'))->W (F self s) (Q s)) {s:σ} (hs:inv s):W (dx F s) (Q s):=by
 have key:∀n s,inv s->μ s<n->W (itM F n s) (Q s):=by
  intro n;induction n with
  | zero=>intro s _ h;exact absurd h (Nat.not_lt_zero _)
  | succ n ih=>intro s hs hn;exact h _ s hs λ s' h1 h2=>ih s' h1 om
 obtain⟨r,h1,h2⟩:=key (μ s+1) s hs (Nat.lt_succ_self _);exact⟨r,⟨_,h1⟩,h2⟩
def opA (x:fA) (ch:ag8) (n:Nat):ag8:=x.gJ.getD (ch.getD n 0).toNat []
structure azK (x:fA) (ch:ag8) (taken:Int) (gs row:ag8):Prop where
 len:row.length=ch.length
 pre:row.take gs.length=gs
 mem:∀i:Nat,gs.length<=i->i<ch.length->row.getD i 0∈opA x ch i
 lst:gs.length+1=ch.length->∃j:Nat,j<(opA x ch gs.length).length/\(opA x ch gs.length).getD j 0=row.getD gs.length 0/\∀i:Nat,i<j->FU .u64 taken (x.rT.getD ((opA x ch gs.length).getD i 0).toNat 0)≠0
 dj:∀i:Nat,gs.length<=i->i<ch.length->FU .u64 (((row.drop gs.length).take (i - gs.length)).foldl (λ a g=>orI .u64 a (x.rT.getD g.toNat 0)) taken) (x.rT.getD (row.getD i 0).toNat 0)=0
abbrev FSt:=Int×ag8×fA×ag8
abbrev FR:=Bool×Nat×ag8×fA×ag8
structure aqb (x:fA) (r:ag8):Prop where
 len:r.length=x.gJ.length - x.pJ.length
 at_:∀j:Nat,j<r.length->r.getD j 0=((x.pJ.length+j:Nat):Int)
def akQ (d:α) (l:List α) (v:α) (j:Nat):(l++[v]).getD j d=if j=l.length then v else l.getD j d:=by
 by_cases h:j<l.length
 ·rw[if_neg om,List.getD_eq_getElem?_getD,List.getElem?_append_left h,<- List.getD_eq_getElem?_getD]
 by_cases e:j=l.length
 ·rw[if_pos e,List.getD_eq_getElem?_getD,List.getElem?_append_right om,e,Nat.sub_self];rfl
 rw[if_neg e,List.getD_eq_getElem?_getD,List.getElem?_eq_none (by rw[List.length_append];simp;omega),List.getD_eq_getElem?_getD,List.getElem?_eq_none om]
def Lc {x_:fA} (h1:x_.gJ.length<=2000000) (h2:x_.pJ.length<=2000000):W (nL x_) (aqb x_):=by
 unfold nL;refine bK (λ g1:Int×ag8=>(x_.pJ.length:Int)<=g1.1/\(g1.2.length:Int)=g1.1 - x_.pJ.length/\(x_.pJ.length<g1.1->g1.1<=x_.gJ.length)/\∀j:Nat,j<g1.2.length->g1.2.getD j 0=((x_.pJ.length+j:Nat):Int)) (λ g1=>(x_.gJ.length - g1.1).toNat) ?_ ⟨ob,by dsimp only;simp,λ h=>by dsimp only at h;omega,λ j hj=>by simp at hj⟩;intro aj g1 ⟨a1,a2,a4,a3⟩ ih1;unfold wJ;refine wi ?_ ?_<;>intro c
 ·refine aK (by unfold big;omega) ?_;refine aK (by unfold aC;omega) ?_;refine ih1 _ ⟨by dsimp only;omega,by dsimp only;rw[List.length_append,List.length_singleton];omega,λ _=>by dsimp only;omega,λ j hj=>?_⟩ (by dsimp only;omega);dsimp only at hj ⊢;rw[List.length_append,List.length_singleton]at hj;rw[akQ];by_cases e:j=g1.2.length
  ·rw[if_pos e];omega
  rw[if_neg e];exact a3 j om
 exact ay ⟨om,a3⟩
def acG {n:Int} (h0:0<=n) (h1:n<=4000000):W (pY n) (λ r=>r.1=0):=by
 unfold pY;refine aK (by simp;omega) ?_;unfold qW;refine aK (by unfold aC;omega) ?_;refine aK (by unfold aC;omega) ?_;refine bL (λ c=>?_) (λ _=>ay rfl);have c:=eu c;refine aK om ?_;refine aK (by unfold big;omega) ?_;refine aK om ?_;exact ay rfl
def YS {a b:ag8} (h1:a.length<=2000000) (h2:b.length<=2000000):W (rC [a,b]) (λ r=>r=a++b):=by
 unfold rC;have g0:([a,b]:List ag8).getD 0 []=a:=rfl;have g1:([a,b]:List ag8).getD 1 []=b:=rfl;refine bK (λ g:Int×Int=>(g.1=0/\g.2=0)\/(g.1=a.length/\g.2=1)\/(g.1=a.length+b.length/\g.2=2)) (λ g=>(2 - g.2).toNat) ?_ (.inl ⟨rfl,rfl⟩);rintro self ⟨n,i⟩ hi ih;dsimp only at hi;unfold Bg;apply bL<;>intro c
 ·have c:=eu c;simp only[List.length_cons,List.length_nil]at c;dsimp only;rcases hi with⟨rfl,rfl⟩ | ⟨rfl,rfl⟩ | ⟨rfl,rfl⟩
  ·rw[show(0:Int).toNat=0 from rfl,g0];refine aK (by simp) ?_;refine aK (by unfold aC;omega) ?_;refine aK (by first | (simp;done) | (simp;omega)) ?_;refine aK (by unfold aC;omega) ?_;exact ih _ (.inr (.inl ⟨by dsimp only;omega,rfl⟩)) (by dsimp only;omega)
  ·rw[show(1:Int).toNat=1 from rfl,g1];refine aK (by simp) ?_;refine aK (by unfold aC;omega) ?_;refine aK (by simp;omega) ?_;refine aK (by unfold aC;omega) ?_;exact ih _ (.inr (.inr ⟨by dsimp only,rfl⟩)) (by dsimp only;omega)
  omega
 refine aG (acG (by dsimp only;omega) (by dsimp only;omega)) λ v1 hv1=>?_;refine aK om ?_;rw[hv1];refine bK (λ g:Nat×Int×ag8=>g.1<=g.2.2.length/\((g.2.1=0/\g.2.2.take g.1=[]/\g.1=0)\/(g.2.1=1/\g.2.2.take g.1=a/\g.1=a.length)\/(g.2.1=2/\g.2.2.take g.1=a++b))) (λ g=>(2 - g.2.1).toNat) ?_ ⟨Nat.zero_le _,.inl ⟨rfl,by simp,rfl⟩⟩;rintro dR ⟨k,j,row⟩ ⟨hk,hj⟩ ih2;dsimp only at hk hj;unfold zm;refine aK hk ?_;refine wi ?_ ?_<;>intro c2
 ·simp only[List.length_cons,List.length_nil]at c2;dsimp only;rcases hj with⟨rfl,e,e2⟩ | ⟨rfl,e,e2⟩ | ⟨rfl,e⟩
  ·rw[show(0:Int).toNat=0 from rfl,g0];refine aK (by simp) ?_;refine aK (by unfold big;omega) ?_;refine aK (by unfold aC;omega) ?_;refine ih2 _ ⟨by dsimp only;rw[List.length_append,List.length_take];omega,.inr (.inl ⟨rfl,?_,by dsimp only;omega⟩)⟩ (by dsimp only;omega);dsimp only;rw[e,List.nil_append,e2,Nat.zero_add,List.take_length]
  ·rw[show(1:Int).toNat=1 from rfl,g1];refine aK (by simp) ?_;refine aK (by unfold big;omega) ?_;refine aK (by unfold aC;omega) ?_;refine ih2 _ ⟨by dsimp only;rw[List.length_append,List.length_take];omega,.inr (.inr ⟨rfl,?_⟩)⟩ (by dsimp only;omega);dsimp only;rw[e,List.take_of_length_le (by rw[List.length_append];omega)]
  omega
 simp only[List.length_cons,List.length_nil]at c2;dsimp only at c2 ⊢;rcases hj with⟨rfl,e,e2⟩ | ⟨rfl,e,e2⟩ | ⟨rfl,e⟩
 ·omega
 ·omega
 exact ay e
def PB.opl {l:aiS} {given:ag8} {x:fA} (h:PB p l given x):x.gJ.length=l.length:=by rw[h.op,List.length_map]
def PB.opg {l:aiS} {given:ag8} {x:fA} (h:PB p l given x) {i:Nat} (hi:i<l.length):x.gJ.getD i []=Ee p (l.getD i ByteArray.empty) p.av.length:=by
 rw[h.op,List.getD_eq_getElem?_getD,List.getElem?_map,List.getElem?_eq_getElem hi,List.getD_eq_getElem?_getD,List.getElem?_eq_getElem hi];rfl
structure NdV (b:aM) (k:Int) (n:aH):Prop where
 ok:arT b n
 fw:∀j:Nat,(j:Int)<n.ak.length->Ef (n.ak.getD j ByteArray.empty)
 pr:∀x∈n.aY,0<=x/\x<k
 ps:∀k:Nat,1<=k->(k:Int)<n.aY.length->n.aY.getD (k - 1) 0<n.aY.getD k 0
def axR (l:ag8):Prop:=∀k j:Nat,j<k->(k:Int)<l.length->l.getD j 0≠l.getD k 0
def nmU (p:bg) (u:mJ):ByteArray:=((p.av.getD u.dF.toNat aF).ak.getD u.gL.toNat ByteArray.empty)
def abu (p:bg) (us:aiX) (m:Int) (f:ByteArray):Nat:=us.countP λ u=>(u.iW==m)&&decide (nmU p u.l7=f)
def cntF (l:aiS) (f:ByteArray):Nat:=l.countP λ x=>decide (x=f)
variable {f:ByteArray}
def Q6 {us:aiX} {u:aR} {m:Int} :abu p (us++[u]) m f=abu p us m f+(if u.iW=m/\nmU p u.l7=f then 1 else 0):=by
 unfold abu;rw[List.countP_append,List.countP_singleton];congr 1;simp only[Bool.and_eq_true,beq_iff_eq,decide_eq_true_eq]
def Q7 {l:aiS} {x:ByteArray} :cntF (l++[x]) f=cntF l f+(if x=f then 1 else 0):=by
 unfold cntF;rw[List.countP_append,List.countP_singleton];congr 1;simp only[decide_eq_true_eq]
def akR {l:aiS} (k:Nat):cntF (l.take k) f<=cntF l f:=by
 unfold cntF;conv=>rhs;rw[<- List.take_append_drop k l]
 rw[List.countP_append];omega
def aiv (h1:eY l=0) (h2:mF l s=true):(vX l s).2=0:=by
 unfold vX;rw[h1,h2];rfl
def auf (r:bQ) (x:bP):Prop:=r.kC≠0/\r.kC<=x.fV*r.jE/\x.Low*r.jE<=r.kC
structure azN (s:iB):Prop where
 sc:acs s
 sh:aiq s
 bv:BdV s.bI
 dst:axR s.aX
 st:∀i:Nat,(i:Int)<s.bI.bS.length->0<=s.bq.bM.getD i 0/\s.bq.bM.getD i 0<(s.bI.bS.getD i aL).aP.length
 us:∀u∈s.bq.dK,-1<=u.iW/\u.iW<s.dO.length
 sb:mF s.bI.bS s.bq.bM=true
 mt:gD s.bI.bS s.bq.bM []=true
 lm:∀m∈s.aX,∀x∈(s.dO.getD m.toNat aU).bG,auf ((gV s.bI.bS s.bq.bM).getD x.fE.toNat dZ) x
 dr:Sp.gD s.bI.bF s.bq.dB (s.aX.flatMap λ m=>(s.dO.getD m.toNat aU).d9)=true
 pn:UsV s.bI.aT (s.bq.dK.map aR.l7)
 fn:∀m∈s.aX,∀f,cntF (s.dO.getD m.toNat aU).ak f<=abu s.bI.aT s.bq.dK m f
 rs:abl s.bI.aZ s.bq.bV
 rl:∀m∈s.aX,∀x∈(s.dO.getD m.toNat aU).aZ,s.bq.bV.getD x.toNat false=true
 dm:agM s.bI.dz s.bq.dH
 dl:∀m∈s.aX,0<=(s.dO.getD m.toNat aU).fO->s.bq.dH.getD (s.dO.getD m.toNat aU).fO.toNat false=true
def adv {r:bQ} (hv:qg r=true) (h:nO r=false):r.kC≠0:=by
 intro e;obtain⟨_,_,h3,_,h5⟩:=mR hv;rw[e]at h5;unfold jG at h5;rw[show(0:Int).toNat=0 from rfl,Nat.gcd_zero_left]at h5;have:r.jE=1:=by omega
 unfold nO at h;rw[e,this]at h;cases h
def aiw {r:bQ} {lo hi:Int} (h:oC r lo hi=true):lo*r.jE<=r.kC/\r.kC<=hi*r.jE:=by
 unfold oC at h;simp only[Bool.and_eq_true,Bool.or_eq_true,decide_eq_true_eq,beq_iff_eq]at h;obtain⟨hv,h1,h2⟩:=h;obtain⟨n0,_,d1,_,_⟩:=mR hv;have e:=Int.mul_tdiv_add_tmod r.kC r.jE;have m0:=Int.tmod_nonneg r.jE n0;have m1:=Int.tmod_lt_of_pos r.kC (show 0<r.jE by omega);have e2:r.jE*r.kC.tdiv r.jE=r.kC.tdiv r.jE*r.jE:=Int.mul_comm _ _;have l1:lo*r.jE<=r.kC.tdiv r.jE*r.jE:=Int.mul_le_mul_of_nonneg_right h1 om;refine⟨om,?_⟩;rcases h2 with h2 | ⟨h2,h3⟩
 ·have l2:(r.kC.tdiv r.jE+1)*r.jE<=hi*r.jE:=Int.mul_le_mul_of_nonneg_right h2 om;rw[Int.add_mul,Int.one_mul]at l2;omega
 rw[<- h2];omega
def JQ {β:Type} {f:α->β} {l:List α} {k:Nat} {d:α} {e:β} (h:k<l.length):(l.map f).getD k e=f (l.getD k d):=by
 rw[List.getD_eq_getElem?_getD,List.getElem?_map,List.getD_eq_getElem?_getD,List.getElem?_eq_getElem h];rfl
def ZL {l:List α} {j:Nat} {v d:α} (hj:j<l.length):(l.set j v).getD j d=v:=by
 rw[List.getD_eq_getElem?_getD,List.getElem?_set_self hj];rfl
def ajs {l:List α} {i j:Nat} {v d:α} (h:i≠j):(l.set j v).getD i d=l.getD i d:=by
 rw[List.getD_eq_getElem?_getD,List.getElem?_set_ne (Ne.symm h),<- List.getD_eq_getElem?_getD]
def apa {r:bQ} (h:r.kC≠0):nO r=false:=by
 unfold nO;rw[show(r.kC==0)=false by simpa using h];rfl
def aix {r:bQ} {lo hi:Int} (hv:qg r=true) (h1:lo*r.jE<=r.kC) (h2:r.kC<=hi*r.jE):oC r lo hi=true:=by
 unfold oC;obtain⟨n0,_,d1,_,_⟩:=mR hv;have e:=Int.mul_tdiv_add_tmod r.kC r.jE;have m0:=Int.tmod_nonneg r.jE n0;have m1:=Int.tmod_lt_of_pos r.kC (show 0<r.jE by omega);have e2:r.jE*r.kC.tdiv r.jE=r.kC.tdiv r.jE*r.jE:=Int.mul_comm _ _;simp only[Bool.and_eq_true,Bool.or_eq_true,decide_eq_true_eq,beq_iff_eq];have q1:lo<=r.kC.tdiv r.jE:=by
  refine Int.not_lt.1 λ h=>?_;have:(r.kC.tdiv r.jE+1)*r.jE<=lo*r.jE:=Int.mul_le_mul_of_nonneg_right h om;rw[Int.add_mul,Int.one_mul]at this;omega
 have q2:r.kC.tdiv r.jE<=hi:=by
  refine Int.not_lt.1 λ h=>?_;have:(hi+1)*r.jE<=r.kC.tdiv r.jE*r.jE:=Int.mul_le_mul_of_nonneg_right h om;rw[Int.add_mul,Int.one_mul]at this;omega
 refine⟨hv,q1,?_⟩;by_cases q:r.kC.tdiv r.jE<hi
 ·exact .inl q
 have:r.kC.tdiv r.jE=hi:=by omega
 refine .inr ⟨this,?_⟩;rw[this]at e e2;omega
def Xi (h:gD l s []=true):eY l=0/\mF l s=true/\ownB l (gV l s)=true:=by
 unfold gD at h;simp only[Bool.and_eq_true]at h;exact⟨(Fa h.1.1).1,h.1.2,h.2.1⟩
def anu (r:bQ) (x:bP) (bt:Bool):Prop:=r.kC≠0/\r.kC<=x.fV*r.jE/\(bt=false->x.Low*r.jE<=r.kC)
def adw {k lo hi:Int} (h:gD l s []=true) (k0:0<=k) (k1:k<l.length) (h0:0<=lo) (h1:lo<=hi) (h2:hi<=4000000000):
  gD l s [⟨k,lo,hi⟩]=true↔((gV l s).getD k.toNat dZ).kC≠0/\((gV l s).getD k.toNat dZ).kC<=hi*((gV l s).getD k.toNat dZ).jE/\lo*((gV l s).getD k.toNat dZ).jE<=((gV l s).getD k.toNat dZ).kC:=by
 obtain⟨c1,c2,c3⟩:=Xi h;have hv:=(QX (vE c1) c2 k.toNat om).2.2.1;have hb:Pz (l.length:Int) ⟨k,lo,hi⟩=false:=by
  unfold Pz dU;simp only[Bool.or_eq_false_iff,Bool.not_eq_false',Bool.and_eq_true,decide_eq_true_eq];omega
 have hl:nN l [⟨k,lo,hi⟩]=true:=by
  unfold nN;rw[c1,show List.any [(⟨k,lo,hi⟩:bP)] (Pz l.length)=false by rw[List.any_cons,hb];rfl];rfl
 unfold gD;rw[hl,c2,c3];simp only[Bool.true_and,List.any_cons,List.any_nil,Bool.or_false,Bool.not_eq_true'];unfold WS;dsimp only;constructor
 ·intro e;rw[Bool.or_eq_false_iff,Bool.not_eq_false']at e;obtain⟨w1,w2⟩:=aiw e.2;exact⟨adv hv e.1,w2,w1⟩
 rintro ⟨a1,a2,a3⟩;rw[apa a1,aix hv a3 a2];rfl
def anv (b:aM) (g:aO) (n:aH) (bt:Bool):Prop:=∀j:Nat,(j:Int)<n.bG.length->anu ((gV b.bS g.bM).getD (n.bG.getD j dM).fE.toNat dZ) (n.bG.getD j dM) bt
def anw (b:aM) (g:aO) (n:aH) (d:Int):Prop:=∀f:ByteArray,cntF n.ak f<=abu b.aT g.dK d f
def apb (g:aO) (n:aH):Prop:=∀j:Nat,(j:Int)<n.aZ.length->g.bV.getD (n.aZ.getD j 0).toNat false=true
def apc (g:aO) (n:aH):Prop:=0<=n.fO->g.dH.getD n.fO.toNat false=true
def drM (l:aha) (ms:ag8):ai8:=ms.flatMap λ m=>(l.getD m.toNat aU).d9
def kX {b:Bool} {P:Prop} (h:b=true↔P) (c:b=false):¬P:=λ p=>by rw[h.2 p]at c;cases c
def abv {l_:akE} (h1:∀g∈p_.av,g.bU.length<=2000000/\g.ak.length<=2000000) (h2:l_.length<=2000000):W (Gr p_ l_) (λ r=>(r.2=0↔uI p_ 0/\TS p_ l_)):=by
 unfold Gr;refine aG (abr ob ob) λ v1 hv1=>?_;refine wi ?_ ?_<;>intro c1
 ·exact ay (⟨λ e=>absurd e c1,λ h=>absurd (hv1.2 h) c1⟩)
 obtain⟨p1,_,_⟩:=(hv1.1 c1).1.v.ok;unfold EJ;refine wn<|aG (Nn (by simp only[List.length_map,List.length_range];omega) om) λ v2 hv2=>?_;subst v2;exact ay (⟨λ _=>hv1.1 c1,λ _=>rfl⟩)
def YT {l_:akE} (h1:∀g∈p_.av,g.bU.length<=2000000/\g.ak.length<=2000000) (h2:l_.length<=2000000):W (D5 p_ l_) (λ r=>(r.2=0↔uI p_ 0/\TS p_ l_)):=by
 unfold D5;refine aG (yI h1) λ v1 hv1=>?_;refine wi ?_ ?_<;>intro c1
 ·refine ay ?_;(refine⟨λ e=>by(try dsimp only at e);omega,λ⟨a,_⟩=>absurd (uI.fun _ _ hv1 a) c1⟩)
 have hpa:uI p_ 0:=(by rw[c1]at hv1;exact hv1);have hpv:=hpa.v;obtain⟨⟨p1,p2,p3⟩,gr,nm⟩:=id hpv;refine wn<|bK (λ(g1:Int×ag8)=>0<=g1.1/\g1.2.length=p_.bU.toNat/\(∀x:Nat,(x:Int)<g1.1->g1.2.getD x 0 = -1)) (λ(g1:Int×ag8)=>(p_.bU - g1.1).toNat) ?_ ?_
 ·intro aj g1 eT dA;obtain⟨dW,cB,bH⟩:=eT;unfold ML;refine wi ?_ ?_<;>intro c2
  ·refine wm<|dA _ ?_ ?_
   ·(refine⟨ob,by simp only[List.length_set];exact cB,λ x hx=>?_⟩;dsimp only at hx ⊢;by_cases q:x=g1.1.toNat;(rw[q,ZL om]);(rw[ajs q];exact bH x om))
   exact ob
  refine bK (λ(g2:Int×ag8)=>0<=g2.1/\g2.2.length=p_.bU.toNat/\(∀x:Nat,(x:Int)<p_.bU->(g2.2.getD x 0 ≠ -1↔∃j:Nat,(j:Int)<g2.1/\∃k:Nat,(k:Int)<(p_.av.getD (l_.getD j gB).dF.toNat aF).bU.length/\(p_.av.getD (l_.getD j gB).dF.toNat aF).bU.getD k 0=x))/\(∀i:Nat,(i:Int)<g2.1->ar5 p_ l_ i)) (λ(g2:Int×ag8)=>(l_.length - g2.1).toNat) ?_ ?_
  ·intro dR g2 nk qJ;obtain⟨rG,jL,mX,Dg⟩:=nk;unfold MK;refine wi ?_ ?_<;>intro c3
   ·refine wm<|wm ?_;refine wi ?_ ?_<;>intro c4
    ·refine ay ?_;(refine⟨λ e=>by(try dsimp only at e);omega,λ⟨_,h⟩=>?_⟩;obtain⟨⟨u1,u2,u3,u4⟩,_⟩:=h g2.1.toNat om;omega)
    have hu:PW p_ (l_.getD g2.1.toNat gB):=⟨om,om,om,om⟩;obtain⟨u1,u2,u3,u4⟩:=id hu;refine bK (λ(g7:Int)=>0<=g7/\(∀k:Nat,(k:Int)<g7->(l_.getD k gB).dF≠(l_.getD g2.1.toNat gB).dF)) (λ(g7:Int)=>(g2.1 - g7).toNat) ?_ ?_
    ·intro nX g7 abn YL;obtain⟨abo,Dh⟩:=abn;unfold Jw;refine wi ?_ ?_<;>intro c5
     ·refine wn<|wi ?_ ?_<;>intro c6
      ·refine ay ?_;(refine⟨λ e=>by(try dsimp only at e);omega,λ⟨_,h⟩=>?_⟩;obtain⟨_,hd,_⟩:=h g2.1.toNat om;exact absurd c6 (hd g7.toNat om))
      refine wn<|YL _ ?_ ?_
      ·(refine⟨ob,eH Dh abo c6⟩)
      exact ob
     refine wn<|bK (λ(g8:Int×ag8)=>0<=g8.1/\g8.1<=(p_.av.getD (l_.getD g2.1.toNat gB).dF.toNat aF).bU.length/\g8.2.length=p_.bU.toNat/\(∀x:Nat,(x:Int)<p_.bU->(g8.2.getD x 0 ≠ -1↔(∃j:Nat,(j:Int)<g2.1/\∃k:Nat,(k:Int)<(p_.av.getD (l_.getD j gB).dF.toNat aF).bU.length/\(p_.av.getD (l_.getD j gB).dF.toNat aF).bU.getD k 0=x)\/∃k:Nat,(k:Int)<g8.1/\(p_.av.getD (l_.getD g2.1.toNat gB).dF.toNat aF).bU.getD k 0=x))/\(∀b:Nat,(b:Int)<g8.1->∀j:Nat,(j:Int)<g2.1->∀a:Nat,(a:Int)<(p_.av.getD (l_.getD j gB).dF.toNat aF).bU.length->(p_.av.getD (l_.getD j gB).dF.toNat aF).bU.getD a 0≠(p_.av.getD (l_.getD g2.1.toNat gB).dF.toNat aF).bU.getD b 0)) (λ(g8:Int×ag8)=>((p_.av.getD (l_.getD g2.1.toNat gB).dF.toNat aF).bU.length - g8.1).toNat) ?_ ?_
     ·intro aaZ g8 ar0 ar1;obtain⟨ap9,anp,aqe,ajt,aqf⟩:=ar0;unfold Jv;refine wi ?_ ?_<;>intro c7
      ·have hmg:=getD_in (l:=p_.av) (i:=(l_.getD g2.1.toNat gB).dF.toNat) aF om;have hgl:=(h1 _ hmg).1;have hpn:=(p3 _ hmg).pn _ (getD_in (i:=g8.1.toNat) 0 om);refine wm<|wi ?_ ?_<;>intro c8
       ·refine ay ?_;(refine⟨λ e=>by(try dsimp only at e);omega,λ⟨_,h⟩=>?_⟩;obtain⟨_,_,hd⟩:=h g2.1.toNat om;exfalso;rcases(ajt ((p_.av.getD (l_.getD g2.1.toNat gB).dF.toNat aF).bU.getD g8.1.toNat 0).toNat om).1 c8 with⟨j,e3,k,e5,e6⟩ | ⟨k,e5,e6⟩;(exact hd j om k g8.1.toNat e5 om (by rw[e6];omega));(have:=Vq hpv u1 u2 k g8.1.toNat om om;omega))
       refine wm<|ar1 _ ?_ ?_
       ·(refine⟨ob,ob,by simp only[List.length_set];exact aqe,λ x hx=>?_,λ b hb j hj a ha=>?_⟩;(dsimp only;by_cases q:x=((p_.av.getD (l_.getD g2.1.toNat gB).dF.toNat aF).bU.getD g8.1.toNat 0).toNat;(rw[q,ZL om];constructor;(intro _;exact .inr ⟨g8.1.toNat,om,om⟩);(intro _;omega));(rw[ajs q,ajt x hx];constructor;(rintro (h | ⟨k,e5,e6⟩);(exact .inl h);(exact .inr ⟨k,om,e6⟩));(rintro (h | ⟨k,e5,e6⟩);(exact .inl h);(refine .inr ⟨k,?_,e6⟩;by_cases e:(k:Int)<g8.1;(exact e);exfalso;apply q;rw[show g8.1.toNat=k by omega];omega))));(by_cases q:(b:Int)<g8.1;(exact aqf b q j hj a ha);(have e:b=g8.1.toNat:=by(try dsimp only at hb);omega);subst e;intro e7;have e8:=(ajt ((p_.av.getD (l_.getD g2.1.toNat gB).dF.toNat aF).bU.getD g8.1.toNat 0).toNat om).2 (.inl ⟨j,hj,a,ha,by rw[e7];omega⟩);omega))
       exact ob
      refine wn<|qJ _ ?_ ?_
      ·(refine⟨ob,aqe,λ x hx=>?_,eH Dg rG ⟨hu,λ k hk e=>Dh k om e,λ k hk a b ha hb=>aqf b om k om a ha⟩⟩;dsimp only;rw[ajt x hx];constructor;(rintro (⟨j,e3,e⟩ | ⟨k,e5,e6⟩);(exact⟨j,om,e⟩);(exact⟨g2.1.toNat,om,k,om,e6⟩));(rintro ⟨j,e3,k,e5,e6⟩;by_cases q:(j:Int)<g2.1;(exact .inl ⟨j,q,k,e5,e6⟩);(have e:j=g2.1.toNat:=by omega);subst e;exact .inr ⟨k,om,e6⟩))
      exact ob
     (refine⟨ob,ob,ob,λ x hx=>⟨λ h=>.inl ((mX x hx).1 h),?_⟩,λ b hb=>?_⟩;(rintro (h | ⟨k,e5,_⟩);(exact(mX x hx).2 h);(exfalso;(try dsimp only at e5);omega));(exfalso;(try dsimp only at hb);omega))
    exact ak7
   refine ay ?_;(refine⟨λ _=>⟨hpa,λ i hi=>Dg i om⟩,λ _=>rfl⟩)
  (refine⟨ob,om,λ x hx=>⟨λ h=>?_,λ⟨j,e,_⟩=>?_⟩,λ j hj=>?_⟩;(exact absurd (bH x om) h);(exfalso;(try dsimp only at e);omega);(exfalso;(try dsimp only at hj);omega))
 (refine⟨ob,by simp,λ x hx=>by dsimp only at hx;omega⟩)
def acH {l_:aiX} (h1:l_.length<=2000000):W (KV l_) (λ r=>r=l_.map aR.l7):=by
 unfold KV;refine bK (λ(g1:Int×akE)=>0<=g1.1/\g1.1<=l_.length/\g1.2=(l_.take g1.1.toNat).map aR.l7) (λ(g1:Int×akE)=>(l_.length - g1.1).toNat) ?_ ?_
 ·intro aj g1 eT dA;obtain⟨dW,cB,bH⟩:=eT;unfold Sg;have hgl:g1.2.length=g1.1.toNat:=(by rw[bH,List.length_map,List.length_take];omega);refine wi ?_ ?_<;>intro c1
  ·refine wm<|wn ?_;refine dA _ ?_ ?_
   ·(refine⟨ob,ob,?_⟩;dsimp only;rw[show(g1.1+1).toNat=g1.1.toNat+1 by omega,iq bE om,List.map_append,bH];rfl)
   exact ob
  refine ay ?_;(rw[bH,show g1.1.toNat=l_.length by omega,List.take_length])
 (refine⟨ob,ob,rfl⟩)
def fnG (l:aiS) (j:Nat):ByteArray:=l.getD j ByteArray.empty
def anx {l:aiS} (h:0<cntF l f):∃j:Nat,(j:Int)<l.length/\fnG l j=f:=by
 unfold cntF at h;obtain⟨x,hx,e⟩:=List.countP_pos_iff.1 h;obtain⟨j,hj,rfl⟩:=List.mem_iff_getElem.1 hx;exact⟨j,om,by unfold fnG;rw[List.getD_eq_getElem?_getD,List.getElem?_eq_getElem hj];simpa using e⟩
def aeH {l:ag8} {p:Int->Bool}:l.any p=false↔∀j:Nat,(j:Int)<l.length->p (l.getD j 0)=false:=by
 rw[List.any_eq_false];constructor
 ·intro h j hj;have:=h _ (getD_in (i:=j) 0 om);simpa using this
 intro h;have:∀x∈l,p x=false:=jT 0 λ j hj=>h j om;intro x hx;rw[this x hx];decide
def Nq (h1:acs s_):W (pU s_) (λ r=>r=gD s_.bI.bS s_.bq.bM []):=by
 obtain⟨⟨s1,s2,s3,s4,s5,s6,s7⟩,vl_,n1,n2,⟨n3,n4⟩,m1,⟨z1,z2,z3,z4,z5,z6⟩⟩:=h1;unfold pU;refine aG (acn ob ob ob ob) λ v1 hv1=>?_;subst v1;refine ay ?_;rfl
def Nr (h1:acs s_) (h2:aiq s_) (h3:gD s_.bI.bS s_.bq.bM []=true):W (pV s_) (λ r=>r=true↔∀i:Nat,(i:Int)<s_.aX.length->anv s_.bI s_.bq (s_.dO.getD (s_.aX.getD i 0).toNat aU) s_.j3):=by
 obtain⟨⟨s1,s2,s3,s4,s5,s6,s7⟩,vl_,n1,n2,⟨n3,n4⟩,m1,⟨z1,z2,z3,z4,z5,z6⟩⟩:=h1;obtain⟨y1,y2,y3,y4,y5,y6⟩:=h2;obtain⟨k1,k2,k3⟩:=Xi h3;unfold pV;refine aG (aco ob ob ob) λ v1 hv1=>?_;subst v1;apply bL<;>intro c1
 ·have gW:=c1;have c1:=eu c1;exact ay (absurd (aiv k1 k2) c1)
 have gW:=c1;have c1:=eu c1;obtain⟨r1,r2,r3⟩:=am8 (by simpa using gW);have hrl:(vX s_.bI.bS s_.bq.bM).1.length=s_.bI.bS.length:=(by rw[r3];exact sU ..);refine bK (λ(g1:Int)=>0<=g1/\(∀i:Nat,(i:Int)<g1->anv s_.bI s_.bq (s_.dO.getD (s_.aX.getD i 0).toNat aU) s_.j3)) (λ(g1:Int)=>(s_.aX.length - g1).toNat) ?_ ?_
 ·intro aj g1 eT dA;obtain⟨dW,cB⟩:=eT;unfold zk;refine wi ?_ ?_<;>intro c2
  ·have hmem:=getD_in (l:=s_.aX) (i:=g1.toNat) 0 om;have hmi:=y1 _ hmem;have hnd:=getD_in (l:=s_.dO) (i:=(s_.aX.getD g1.toNat 0).toNat) aU om;have hno:=n2 _ hnd;have hns:=n4 _ hnd;refine wm<|bK (λ(g4:Int)=>0<=g4/\(∀j:Nat,(j:Int)<g4->anu ((gV s_.bI.bS s_.bq.bM).getD ((s_.dO.getD (s_.aX.getD g1.toNat 0).toNat aU).bG.getD j dM).fE.toNat dZ) ((s_.dO.getD (s_.aX.getD g1.toNat 0).toNat aU).bG.getD j dM) s_.j3)) (λ(g4:Int)=>((s_.dO.getD (s_.aX.getD g1.toNat 0).toNat aU).bG.length - g4).toNat) ?_ ?_
   ·intro jA g4 K7 JO;obtain⟨G9,mG⟩:=K7;unfold zi;refine wi ?_ ?_<;>intro c3
    ·obtain⟨x1,x2,x3,x4,x5⟩:=hno.lm _ (getD_in (i:=g4.toNat) dM om);have hll:=hno.ll;have hv:=am9 r1 r2 (((s_.dO.getD ((s_.aX.getD g1.toNat 0).toNat) aU).bG.getD g4.toNat dM).fE.toNat) om;rw[<- r3]at hv;have q1:=WU (show 0<=_ by exact Int.le_trans (by decide) hv.1) hv.2 (Int.le_trans x3 x4) x5;have q2:=WU (show 0<=_ by exact Int.le_trans (by decide) hv.1) hv.2 x3 (Int.le_trans x4 x5);refine wm<|wm ?_;refine wi ?_ ?_<;>intro c4
     ·rw[r3]at c4;refine ay ?_;(constructor;(intro e;cases e);(intro h;exfalso;obtain⟨l1,l2,l3⟩:=h g1.toNat om g4.toNat om;rcases c4 with(c4 | c4) | c4;(exact l1 c4);(exact Int.not_lt.2 l2 c4);(exact Int.not_lt.2 (l3 (by simpa using c4.1)) c4.2)))
     rw[r3]at c4;refine wn<|JO _ ?_ ?_
     ·(refine⟨ob,eH mG G9 ⟨c4.1.1,c4.1.2,λ e=>c4.2.resolve_left (by rw[e];decide)⟩⟩)
     exact ob
    have hll:=hno.ll;refine wn<|dA _ ?_ ?_
    ·(refine⟨ob,eH cB dW (λ j hj=>mG j om)⟩)
    exact ob
   exact ak7
  refine ay ?_;(constructor;(intro _;exact λ i hi=>cB i om);(intro _;rfl))
 exact ak7
def JR (h1:acs s_) (h2:aiq s_):W (nK s_) (λ r=>r=Sp.gD s_.bI.bF s_.bq.dB (drM s_.dO s_.aX)):=by
 obtain⟨⟨s1,s2,s3,s4,s5,s6,s7⟩,vl_,n1,n2,⟨n3,n4⟩,m1,⟨z1,z2,z3,z4,z5,z6⟩⟩:=h1;obtain⟨y1,y2,y3,y4,y5,y6⟩:=h2;unfold nK;refine bK (λ(g1:Int×ai8)=>0<=g1.1/\g1.1<=s_.aX.length/\(g1.2.length:Int)<=32*g1.1/\g1.2=drM s_.dO (s_.aX.take g1.1.toNat)) (λ(g1:Int×ai8)=>(s_.aX.length - g1.1).toNat) ?_ ?_
 ·intro aj g1 eT dA;obtain⟨dW,cB,bH,jW⟩:=eT;unfold wF;refine wi ?_ ?_<;>intro c1
  ·have hmem:=getD_in (l:=s_.aX) (i:=g1.1.toNat) 0 om;have hmi:=y1 _ hmem;have hnd:=getD_in (l:=s_.dO) (i:=(s_.aX.getD g1.1.toNat 0).toNat) aU om;have hno:=n2 _ hnd;have hns:=n4 _ hnd;have hdl:=hno.dl;refine wm<|wm ?_;refine dA _ ?_ ?_
   ·(refine⟨ob,ob,ob,?_⟩;dsimp only;unfold drM at *;rw[show(g1.1+1).toNat=g1.1.toNat+1 by omega,iq 0 om,List.flatMap_append,jW];simp only[List.flatMap_cons,List.flatMap_nil,List.append_nil])
   exact ob
  refine aG (Yk ob ob) λ v1 hv1=>?_;subst v1;refine aG (Sp.PV ob ob ob) λ v2 hv2=>?_;subst v2;refine ay ?_;(rw[jW,show g1.1.toNat=s_.aX.length by omega,List.take_length])
 (refine⟨ob,ob,ob,rfl⟩)
def Rs (h1:acs s_) (h2:∀g∈s_.bI.aT.av,g.bU.length<=2000000/\g.ak.length<=2000000):W (tL s_) (λ r=>(r=true↔uI s_.bI.aT 0/\TS s_.bI.aT (s_.bq.dK.map aR.l7))):=by
 obtain⟨⟨s1,s2,s3,s4,s5,s6,s7⟩,vl_,n1,n2,⟨n3,n4⟩,m1,⟨z1,z2,z3,z4,z5,z6⟩⟩:=h1;unfold tL;refine bK (λ(g1:Int×akE)=>0<=g1.1/\g1.1<=s_.bq.dK.length/\g1.2=(s_.bq.dK.take g1.1.toNat).map aR.l7) (λ(g1:Int×akE)=>(s_.bq.dK.length - g1.1).toNat) ?_ ?_
 ·intro aj g1 eT dA;obtain⟨dW,cB,bH⟩:=eT;unfold CU;have hgl:g1.2.length=g1.1.toNat:=(by rw[bH,List.length_map,List.length_take];omega);refine wi ?_ ?_<;>intro c1
  ·refine wm<|wn ?_;refine dA _ ?_ ?_
   ·(refine⟨ob,ob,?_⟩;dsimp only;rw[show(g1.1+1).toNat=g1.1.toNat+1 by omega,iq bE om,List.map_append,bH];rfl)
   exact ob
  refine aG (abv h2 ob) λ v1 hv1=>?_;refine ay ?_;(rw[bH,show g1.1.toNat=s_.bq.dK.length by omega,List.take_length]at hv1;rw[<- hv1];simp)
 (refine⟨ob,ob,rfl⟩)
def Io (h1:acs s_) (h2:aiq s_) (h3:∀u∈s_.bq.dK,PW s_.bI.aT u.l7):W (mY s_) (λ r=>r=true↔∀i:Nat,(i:Int)<s_.aX.length->anw s_.bI s_.bq (s_.dO.getD (s_.aX.getD i 0).toNat aU) (s_.aX.getD i 0)):=by
 obtain⟨⟨s1,s2,s3,s4,s5,s6,s7⟩,vl_,n1,n2,⟨n3,n4⟩,m1,⟨z1,z2,z3,z4,z5,z6⟩⟩:=h1;obtain⟨y1,y2,y3,y4,y5,y6⟩:=h2;unfold mY;refine bK (λ(g1:Int)=>0<=g1/\(∀i:Nat,(i:Int)<g1->anw s_.bI s_.bq (s_.dO.getD (s_.aX.getD i 0).toNat aU) (s_.aX.getD i 0))) (λ(g1:Int)=>(s_.aX.length - g1).toNat) ?_ ?_
 ·intro aj g1 eT dA;obtain⟨dW,cB⟩:=eT;unfold uS;refine wi ?_ ?_<;>intro c1
  ·have hmem:=getD_in (l:=s_.aX) (i:=g1.toNat) 0 om;have hmi:=y1 _ hmem;have hnd:=getD_in (l:=s_.dO) (i:=(s_.aX.getD g1.toNat 0).toNat) aU om;have hno:=n2 _ hnd;have hns:=n4 _ hnd;have hfl:=hno.fl;refine wn<|bK (λ(g6:(Int×(qR->Option Int)))=>0<=g6.1/\g6.1<=s_.bq.dK.length/\(∀k,0<=Dp g6.2 k/\Dp g6.2 k<=g6.1)/\(∀f,Dp g6.2 (.s f)=(abu s_.bI.aT (s_.bq.dK.take g6.1.toNat) (s_.aX.getD g1.toNat 0) f:Int))) (λ(g6:(Int×(qR->Option Int)))=>(s_.bq.dK.length - g6.1).toNat) ?_ ?_
   ·intro jR g6 PX K8;obtain⟨M0,wS,M4,Yq⟩:=PX;unfold uR;refine wi ?_ ?_<;>intro c2
    ·obtain⟨u1,u2,u3,u4⟩:=h3 _ (getD_in (i:=g6.1.toNat) bE om);have hmk:=M4 (.s (((s_.bI.aT.av.getD ((((s_.bq.dK.getD g6.1.toNat bE).l7).dF).toNat) aF).ak).getD ((((s_.bq.dK.getD g6.1.toNat bE).l7).gL).toNat) ByteArray.empty));refine wn<|bL ?_ ?_<;>intro c3
     ·have jU:=c3;have c3:=eu c3;refine wm<|wm ?_;refine K8 _ ?_ ?_
      ·(refine⟨ob,ob,λ k=>?_,λ f=>?_⟩;(dsimp only;rw[zU];have:=M4 k;split<;>omega);dsimp only;rw[zU,Yq,Yq,show(g6.1+1).toNat=g6.1.toNat+1 by omega,iq bE om,Q6];by_cases q:f=nmU s_.bI.aT (s_.bq.dK.getD g6.1.toNat bE).l7;(subst q;refine(if_pos rfl).trans ?_;rw[if_pos ⟨by simpa using jU,rfl⟩];show((abu _ _ _ (nmU _ _):Nat):Int)+1=_;omega);(refine(if_neg (λ e=>q (qR.s.inj e))).trans ?_;rw[if_neg (λ e=>q e.2.symm)];rfl))
      exact ob
     have jU:=c3;have c3:=eu c3;refine wn<|K8 _ ?_ ?_
     ·(refine⟨ob,ob,λ k=>?_,λ f=>?_⟩;(have:=M4 k;dsimp only;omega);dsimp only;rw[Yq,show(g6.1+1).toNat=g6.1.toNat+1 by omega,iq bE om,Q6,if_neg (λ e=>absurd e.1 (by simpa using jU))];rfl)
     exact ob
    refine wn<|bK (λ(g7:(Int×(qR->Option Int)))=>0<=g7.1/\(∀k,0<=Dp g7.2 k/\Dp g7.2 k<=2000000)/\(∀f,Dp g7.2 (.s f)=(abu s_.bI.aT s_.bq.dK (s_.aX.getD g1.toNat 0) f:Int) - (cntF ((s_.dO.getD (s_.aX.getD g1.toNat 0).toNat aU).ak.take g7.1.toNat) f:Int))) (λ(g7:(Int×(qR->Option Int)))=>((s_.dO.getD (s_.aX.getD g1.toNat 0).toNat aU).ak.length - g7.1).toNat) ?_ ?_
    ·intro nX g7 abn YL;obtain⟨abo,Dh,aju⟩:=abn;unfold uE;refine wi ?_ ?_<;>intro c4
     ·have hmk:=Dh (.s (((s_.dO.getD ((s_.aX.getD g1.toNat 0).toNat) aU).ak).getD g7.1.toNat ByteArray.empty));have hlt:g7.1.toNat<(s_.dO.getD (s_.aX.getD g1.toNat 0).toNat aU).ak.length:=om;have hts:=iq ByteArray.empty hlt;have hcs:cntF ((s_.dO.getD (s_.aX.getD g1.toNat 0).toNat aU).ak.take (g7.1.toNat+1)) ((s_.dO.getD (s_.aX.getD g1.toNat 0).toNat aU).ak.getD g7.1.toNat ByteArray.empty)=cntF ((s_.dO.getD (s_.aX.getD g1.toNat 0).toNat aU).ak.take g7.1.toNat) ((s_.dO.getD (s_.aX.getD g1.toNat 0).toNat aU).ak.getD g7.1.toNat ByteArray.empty)+1:=(by rw[hts,Q7,if_pos rfl]);have hct:=akR (l:=(s_.dO.getD (s_.aX.getD g1.toNat 0).toNat aU).ak) (f:=(s_.dO.getD (s_.aX.getD g1.toNat 0).toNat aU).ak.getD g7.1.toNat ByteArray.empty) (g7.1.toNat+1);have hq:=aju ((s_.dO.getD (s_.aX.getD g1.toNat 0).toNat aU).ak.getD g7.1.toNat ByteArray.empty);refine wm<|wi ?_ ?_<;>intro c5
      ·refine ay ?_;(constructor;(intro e;cases e);(intro h;exfalso;rw[zU,if_pos rfl]at c5;have hff:=h g1.toNat om ((s_.dO.getD (s_.aX.getD g1.toNat 0).toNat aU).ak.getD g7.1.toNat ByteArray.empty);omega))
      rw[zU,if_pos rfl]at c5;refine wn<|YL _ ?_ ?_
      ·(refine⟨ob,λ k=>?_,λ f=>?_⟩;(dsimp only;rw[zU];have:=Dh k;split<;>omega);dsimp only;rw[zU,show(g7.1+1).toNat=g7.1.toNat+1 by omega];by_cases q:f=(s_.dO.getD (s_.aX.getD g1.toNat 0).toNat aU).ak.getD g7.1.toNat ByteArray.empty;(subst q;rw[if_pos rfl,hcs];omega);(rw[if_neg (λ e=>q (qR.s.inj e)),hts,Q7,if_neg (λ e=>q e.symm),aju f];rfl))
      exact ob
     refine wn<|dA _ ?_ ?_
     ·(refine⟨ob,eH cB dW (λ f=>?_)⟩;have e1:=aju f;have e2:=Dh (.s f);rw[List.take_of_length_le om]at e1;omega)
     exact ob
    (refine⟨ob,λ k=>by have:=M4 k;dsimp only;omega,λ f=>?_⟩;dsimp only;rw[Yq f,show g6.1.toNat=s_.bq.dK.length by omega,List.take_length];show _=_ - ((0:Nat):Int);omega)
   (refine⟨ob,ob,λ k=>⟨Int.le_refl _,Int.le_refl _⟩,λ f=>rfl⟩)
  refine ay ?_;(constructor;(intro _;exact λ i hi=>cB i om);(intro _;rfl))
 exact ak7
def Ns (h1:acs s_) (h2:aiq s_):W (pW s_) (λ r=>(r=true↔(RsA s_.bI.aZ 0/\anq s_.bI.aZ s_.bq.bV)/\∀i:Nat,(i:Int)<s_.aX.length->apb s_.bq (s_.dO.getD (s_.aX.getD i 0).toNat aU))):=by
 obtain⟨⟨s1,s2,s3,s4,s5,s6,s7⟩,vl_,n1,n2,⟨n3,n4⟩,m1,⟨z1,z2,z3,z4,z5,z6⟩⟩:=h1;obtain⟨y1,y2,y3,y4,y5,y6⟩:=h2;unfold pW;refine aG (YN ob) λ v1 hv1=>?_;apply bL<;>intro c1
 ·have gW:=c1;have c1:=eu c1;refine ay ?_;(constructor;(intro e;cases e);(intro h;exact absurd (hv1.2 h.1) (by simpa using gW)))
 have gW:=c1;have c1:=eu c1;refine bK (λ(g1:Int)=>0<=g1/\(∀i:Nat,(i:Int)<g1->apb s_.bq (s_.dO.getD (s_.aX.getD i 0).toNat aU))) (λ(g1:Int)=>(s_.aX.length - g1).toNat) ?_ ?_
 ·intro aj g1 eT dA;obtain⟨dW,cB⟩:=eT;unfold zl;refine wi ?_ ?_<;>intro c2
  ·have hmem:=getD_in (l:=s_.aX) (i:=g1.toNat) 0 om;have hmi:=y1 _ hmem;have hnd:=getD_in (l:=s_.dO) (i:=(s_.aX.getD g1.toNat 0).toNat) aU om;have hno:=n2 _ hnd;have hns:=n4 _ hnd;refine wm<|aG (Ct om (λ x hx=>(by have:=hno.rs x hx;omega))) λ v4 hv4=>?_;subst v4;apply bL<;>intro c3
   ·have jU:=c3;have c3:=eu c3;refine ay ?_;(constructor;(intro e;cases e);(intro h;exfalso;have:=aeH.2 (λ j hj=>by have:=h.2 g1.toNat om j hj;rw[this];rfl) |>.symm.trans jU;cases this))
   have jU:=c3;have c3:=eu c3;refine wn<|dA _ ?_ ?_
   ·(refine⟨ob,eH cB dW (λ j hj=>?_)⟩;have:=aeH.1 jU j hj;simpa using this)
   exact ob
  refine ay ?_;(constructor;(intro _;exact⟨hv1.1 (by simpa using gW),λ i hi=>cB i om⟩);(intro _;rfl))
 exact ak7
def Ld (h1:acs s_) (h2:aiq s_):W (oh s_) (λ r=>(r=true↔(DmA s_.bI.dz 0/\RgP s_.bI.dz s_.bq.dH)/\∀i:Nat,(i:Int)<s_.aX.length->apc s_.bq (s_.dO.getD (s_.aX.getD i 0).toNat aU))):=by
 obtain⟨⟨s1,s2,s3,s4,s5,s6,s7⟩,vl_,n1,n2,⟨n3,n4⟩,m1,⟨z1,z2,z3,z4,z5,z6⟩⟩:=h1;obtain⟨y1,y2,y3,y4,y5,y6⟩:=h2;unfold oh;refine aG (YQ) λ v1 hv1=>?_;apply bL<;>intro c1
 ·have gW:=c1;have c1:=eu c1;refine ay ?_;(constructor;(intro e;cases e);(intro h;exact absurd (hv1.2 h.1) (by simpa using gW)))
 have gW:=c1;have c1:=eu c1;refine aG (Cu om (λ x hx=>(by have q:=y1 x hx;have:=(n2 _ (getD_in (i:=x.toNat) aU om)).dm;omega))) λ v2 hv2=>?_;subst v2;refine ay ?_;(rw[Bool.not_eq_true',aeH];constructor;(intro h;refine⟨hv1.1 (by simpa using gW),λ i hi=>?_⟩;have:=h i hi;intro h0;simp only[Bool.and_eq_false_iff,decide_eq_false_iff_not,Bool.not_eq_false']at this;exact this.resolve_left (λ q=>q h0));(intro h j hj;have:=h.2 j hj;unfold apc at this;simp only[Bool.and_eq_false_iff,decide_eq_false_iff_not,Bool.not_eq_false'];by_cases q:0<=(s_.dO.getD (s_.aX.getD j 0).toNat aU).fO;(exact .inr (this q));exact .inl q))
def abw {x:bP} (h:gD l s []=true) (hx:agB l.length x):gD l s [⟨x.fE,0,x.fV⟩]=true↔anu ((gV l s).getD x.fE.toNat dZ) x true:=by
 obtain⟨x1,x2,x3,x4,x5⟩:=hx;rw[adw h x1 x2 (Int.le_refl 0) om x5,Int.zero_mul];obtain⟨c1,c2,_⟩:=Xi h;have hv:=(mR (QX (vE c1) c2 x.fE.toNat om).2.2.1).1;exact⟨λ⟨a,b,_⟩=>⟨a,b,nofun⟩,λ⟨a,b,_⟩=>⟨a,b,hv⟩⟩
def abx {x:bP} (h:gD l s []=true) (hx:agB l.length x):gD l s [⟨x.fE,x.Low,x.fV⟩]=true↔anu ((gV l s).getD x.fE.toNat dZ) x false:=by
 obtain⟨x1,x2,x3,x4,x5⟩:=hx;rw[adw h x1 x2 x3 x4 x5];exact⟨λ⟨a,b,c⟩=>⟨a,b,λ _=>c⟩,λ⟨a,b,c⟩=>⟨a,b,c rfl⟩⟩
def Qa {A B:Int->Prop} (h:Thn A B 0):A 0/\B 0:=by
 rcases h with h | h
 ·exact absurd rfl h.2
 exact h
def yJ {l:aha} (h:ku b l 0):ap7 b/\l.length<=12/\∀n∈l,arT b n:=by
 obtain⟨h1,h2⟩:=Qa h;obtain⟨b1,h3⟩:=Qa h1;obtain⟨b2,h4⟩:=Qa h3;obtain⟨b3,h5⟩:=Qa h4;obtain⟨b4,b5⟩:=Qa h5;obtain⟨c1,c2⟩:=pq (by decide) h2;refine⟨⟨b1.symm,b2.symm,b3.v.ok,b4.ok,b5.ok⟩,om,jT aU λ i hi=>?_⟩;obtain⟨d1,d2⟩:=pq (by decide) (ajr c2 i hi);obtain⟨e1,e2⟩:=pq (by decide) d2;obtain⟨f1,f2⟩:=pq (by decide) e2;obtain⟨g1,g2⟩:=pq (by decide) f2;obtain⟨k1,k2⟩:=pq (by decide) g2;obtain⟨m1,m2⟩:=pq (by decide) k2;refine⟨om,om,om,jT dM λ j hj=>?_,jT dV λ j hj=>?_,jT 0 λ j hj=>?_,Classical.not_not.1 m1⟩
 ·exact Classical.byContradiction λ q=>e1 ⟨j,om,q⟩
 ·exact Classical.byContradiction λ q=>f1 ⟨j,om,q⟩
 exact Classical.byContradiction λ q=>k1 ⟨j,om,q⟩
def auh (b:aM) (l:aha) (ms:ag8) (g:aO) (bt:Bool):Prop:=∀i:Nat,(i:Int)<ms.length->anv b g (l.getD (ms.getD i 0).toNat aU) bt
def aui (b:aM) (l:aha) (ms:ag8) (g:aO):Prop:=∀i:Nat,(i:Int)<ms.length->anw b g (l.getD (ms.getD i 0).toNat aU) (ms.getD i 0)
def auj (b:aM) (l:aha) (ms:ag8) (g:aO):Prop:=(RsA b.aZ 0/\anq b.aZ g.bV)/\∀i:Nat,(i:Int)<ms.length->apb g (l.getD (ms.getD i 0).toNat aU)
def axS (b:aM) (l:aha) (ms:ag8) (g:aO):Prop:=(DmA b.dz 0/\RgP b.dz g.dH)/\∀i:Nat,(i:Int)<ms.length->apc g (l.getD (ms.getD i 0).toNat aU)
def anz (b:aM) (l:aha) (ms:ag8) (g:aO) (bt:Bool):Int->Prop:=
 M5 (¬(yH l ms/\anr b l g)) 1<|
 M5 (gD b.bS g.bM []=false) 2<|
 M5 (¬auh b l ms g bt) 3<|
 M5 (Sp.gD b.bF g.dB (drM l ms)=false) 4<|
 M5 (¬(uI b.aT 0/\TS b.aT (g.dK.map aR.l7))) 5<|
 M5 (¬aui b l ms g) 6<|
 M5 (¬auj b l ms g) 7<|
 M5 (¬axS b l ms g) 8<|
 λ r=>r=0
def anz.fun {l:aha} {ms:ag8} {g:aO} {bt:Bool}:FZ (anz b l ms g bt):=.Ki (.Ki (.Ki (.Ki (.Ki (.Ki (.Ki (.Ki .zero)))))))
def Rt (b:aM) (l:aha) (ms:ag8) (g:aO) (bt:Bool):Int->Prop:=M5 (¬ku b l 0) 1 (anz b l ms g bt)
def Rt.fun {l:aha} {ms:ag8} {g:aO} {bt:Bool}:FZ (Rt b l ms g bt):=.Ki anz.fun
def auk {s:iB} (h:yH s.dO s.aX/\anr s.bI s.dO s.bq):aiq s:=by
 obtain⟨h1,⟨h2,h3,h4,h5,h6⟩,_,_⟩:=h;exact⟨jT 0 λ j hj=>(h1 j om).1,om,om,om,om,om⟩
def Q8 {us:aiX} (h:TS p (us.map aR.l7)):∀u∈us,PW p u.l7:=by
 refine jT bE λ i hi=>?_;have:=(h i (by rw[List.length_map];omega)).1;rw[JQ (d:=bE) hi]at this;exact this
def Nt (h1:acs s_) (h2:∀g∈s_.bI.aT.av,g.bU.length<=2000000/\g.ak.length<=2000000):W (pX s_) (λ r=>anz s_.bI s_.dO s_.aX s_.bq s_.j3 r):=by
 unfold pX;refine wn<|aG (P9 h1) λ v1 hv1=>?_;refine wi ?_ ?_<;>intro c1
 ·refine wn<|ay ?_;(exact eF (kX hv1 c1))
 have q1:=hv1.1 c1;have hsh:=auk q1;refine wm<|aG (Nq h1) λ v2 hv2=>?_;subst v2;refine wi ?_ ?_<;>intro c2
 ·refine wn<|ay ?_;(exact aN (λ h=>h q1) (eF c2))
 refine wm<|aG (Nr h1 hsh c2) λ v3 hv3=>?_;refine wi ?_ ?_<;>intro c3
 ·refine wn<|ay ?_;(exact aN (λ h=>h q1) (aN (by rw[c2];decide) (eF (kX hv3 c3))))
 have q3:=hv3.1 c3;refine wm<|aG (JR h1 hsh) λ v4 hv4=>?_;subst v4;refine wi ?_ ?_<;>intro c4
 ·refine wn<|ay ?_;(exact aN (λ h=>h q1) (aN (by rw[c2];decide) (aN (λ h=>h q3) (eF c4))))
 refine wm<|aG (Rs h1 h2) λ v5 hv5=>?_;refine wi ?_ ?_<;>intro c5
 ·refine wn<|ay ?_;(exact aN (λ h=>h q1) (aN (by rw[c2];decide) (aN (λ h=>h q3) (aN (by rw[c4];decide) (eF (kX hv5 c5))))))
 have q5:=hv5.1 c5;refine wm<|aG (Io h1 hsh (Q8 q5.2)) λ v6 hv6=>?_;refine wi ?_ ?_<;>intro c6
 ·refine wn<|ay ?_;(exact aN (λ h=>h q1) (aN (by rw[c2];decide) (aN (λ h=>h q3) (aN (by rw[c4];decide) (aN (λ h=>h q5) (eF (kX hv6 c6)))))))
 have q6:=hv6.1 c6;refine wm<|aG (Ns h1 hsh) λ v7 hv7=>?_;refine wi ?_ ?_<;>intro c7
 ·refine wn<|ay ?_;(exact aN (λ h=>h q1) (aN (by rw[c2];decide) (aN (λ h=>h q3) (aN (by rw[c4];decide) (aN (λ h=>h q5) (aN (λ h=>h q6) (eF (kX hv7 c7))))))))
 have q7:=hv7.1 c7;refine wm<|aG (Ld h1 hsh) λ v8 xk=>?_;refine wi ?_ ?_<;>intro c8
 ·refine wn<|ay ?_;(exact aN (λ h=>h q1) (aN (by rw[c2];decide) (aN (λ h=>h q3) (aN (by rw[c4];decide) (aN (λ h=>h q5) (aN (λ h=>h q6) (aN (λ h=>h q7) (eF (kX xk c8)))))))))
 refine wn<|ay ?_;(exact aN (λ h=>h q1) (aN (by rw[c2];decide) (aN (λ h=>h q3) (aN (by rw[c4];decide) (aN (λ h=>h q5) (aN (λ h=>h q6) (aN (λ h=>h q7) (aN (λ h=>h (xk.1 c8)) rfl))))))))
def YU {ah:ag8} {gY:Bool} (h1:uW b_) (h2:∀g∈b_.aT.av,g.bU.length<=2000000/\g.ak.length<=2000000) (h3:Fj l_) (h4:ah.length<=10000) (h5:Ec g_):W (DW b_ l_ ah g_ gY) (λ r=>Rt b_ l_ ah g_ gY r):=by
 unfold DW;refine aG (Sz h1 h2 h3) λ v1 hv1=>?_;refine wi ?_ ?_<;>intro c1
 ·exact ay<|eF (λ h=>c1 (ku.fun _ _ hv1 h))
 have hn0:ku b_ l_ 0:=(by rw[c1]at hv1;exact hv1);obtain⟨nk1,nk2,nk3⟩:=yJ hn0;refine aG (Nt ⟨h1,nk1,nk2,nk3,h3,h4,h5⟩ h2) λ v2 hv2=>?_;exact ay<|aN (λ h=>h hn0) hv2
def YV {x_:aH} {gY:Bool} (h1:b_.bS.length<=2000000) (h2:g_.bM.length<=2000000) (h3:agk b_.bS) (h4:gD b_.bS g_.bM []=true) (h5:∀x∈x_.bG,agB b_.bS.length x) (h6:x_.bG.length<=2000000):W (DZ b_ g_ x_ gY) (λ r=>r=true↔anv b_ g_ x_ gY):=by
 unfold DZ;refine bK (λ(g1:Int)=>0<=g1/\(∀j:Nat,(j:Int)<g1->anu ((gV b_.bS g_.bM).getD (x_.bG.getD j dM).fE.toNat dZ) (x_.bG.getD j dM) gY)) (λ(g1:Int)=>(x_.bG.length - g1).toNat) ?_ ?_
 ·intro aj g1 eT dA;obtain⟨dW,cB⟩:=eT;unfold MJ;refine wi ?_ ?_<;>intro c1
  ·have hx:=h5 _ (getD_in (i:=g1.toNat) dM om);refine wn<|wi ?_ ?_<;>intro c2
   ·subst c2;unfold qH;refine aG (Fy ob ob ob ob) λ v3 hv3=>?_;subst v3;refine wi ?_ ?_<;>intro c3
    ·refine ay ?_;(constructor;(intro e;cases e);(intro h;exfalso;rw[(abw h4 hx).2 (h g1.toNat om)]at c3;cases c3))
    refine wn<|dA _ ?_ ?_
    ·(refine⟨ob,eH cB dW ((abw h4 hx).1 c3)⟩)
    exact ob
   subst c2;unfold qH;refine aG (Fy ob ob ob ob) λ v3 hv3=>?_;subst v3;refine wi ?_ ?_<;>intro c4
   ·refine ay ?_;(constructor;(intro e;cases e);(intro h;exfalso;rw[(abx h4 hx).2 (h g1.toNat om)]at c4;cases c4))
   refine wn<|dA _ ?_ ?_
   ·(refine⟨ob,eH cB dW ((abx h4 hx).1 c4)⟩)
   exact ob
  refine ay ?_;(constructor;(intro _;exact λ j hj=>cB j om);(intro _;rfl))
 exact ak7
def TT {x_:aH} {aV:Int} (h1:g_.dK.length<=2000000) (h2:x_.ak.length<=2000000) (h3:∀u∈g_.dK,PW b_.aT u.l7):W (vB b_ g_ x_ aV) (λ r=>r=true↔anw b_ g_ x_ aV):=by
 unfold vB;refine bK (λ(g1:Int)=>0<=g1/\(∀j:Nat,(j:Int)<g1->cntF x_.ak (fnG x_.ak j)<=abu b_.aT g_.dK aV (fnG x_.ak j))) (λ(g1:Int)=>(x_.ak.length - g1).toNat) ?_ ?_
 ·intro aj g1 eT dA;obtain⟨dW,cB⟩:=eT;unfold EW;refine wi ?_ ?_<;>intro c1
  ·refine wn<|bK (λ(g6:Int×Int)=>0<=g6.2/\g6.2<=x_.ak.length/\(0<=g6.1/\g6.1<=g6.2)/\g6.1=(cntF (x_.ak.take g6.2.toNat) (x_.ak.getD g1.toNat ByteArray.empty):Int)) (λ(g6:Int×Int)=>(x_.ak.length - g6.2).toNat) ?_ ?_
   ·intro jR g6 PX K8;obtain⟨M0,wS,M4,Yq⟩:=PX;unfold EU;refine wi ?_ ?_<;>intro c2
    ·refine wn<|bL ?_ ?_<;>intro c3
     ·have jU:=c3;have c3:=eu c3;refine wm<|K8 _ ?_ ?_
      ·(refine⟨ob,ob,ob,?_⟩;dsimp only;rw[Yq,show(g6.2+1).toNat=g6.2.toNat+1 by omega,iq ByteArray.empty om,Q7,if_pos (Xg (by simpa using jU))];rfl)
      exact ob
     have jU:=c3;have c3:=eu c3;refine wn<|K8 _ ?_ ?_
     ·(refine⟨ob,ob,ob,?_⟩;dsimp only;rw[Yq,show(g6.2+1).toNat=g6.2.toNat+1 by omega,iq ByteArray.empty om,Q7,if_neg (λ e=>by rw[e]at jU;simp at jU)];rfl)
     exact ob
    refine bK (λ(g7:Int×Int)=>0<=g7.2/\g7.2<=g_.dK.length/\(0<=g7.1/\g7.1<=g7.2)/\g7.1=(abu b_.aT (g_.dK.take g7.2.toNat) aV (x_.ak.getD g1.toNat ByteArray.empty):Int)) (λ(g7:Int×Int)=>(g_.dK.length - g7.2).toNat) ?_ ?_
    ·intro nX g7 abn YL;obtain⟨abo,Dh,aju,anA⟩:=abn;unfold C8;refine wi ?_ ?_<;>intro c4
     ·obtain⟨u1,u2,u3,u4⟩:=h3 _ (getD_in (i:=g7.2.toNat) bE om);refine wm<|wn ?_;apply bL<;>intro c5
      ·have BM:=c5;have c5:=eu c5;refine wm<|YL _ ?_ ?_
       ·(refine⟨ob,ob,ob,?_⟩;dsimp only;rw[anA,show(g7.2+1).toNat=g7.2.toNat+1 by omega,iq bE om,Q6,if_pos (by simp only[Bool.and_eq_true,beq_iff_eq]at BM;exact⟨BM.1,Xg BM.2⟩)];rfl)
       exact ob
      have BM:=c5;have c5:=eu c5;refine wn<|YL _ ?_ ?_
      ·(refine⟨ob,ob,ob,?_⟩;dsimp only;rw[anA,show(g7.2+1).toNat=g7.2.toNat+1 by omega,iq bE om,Q6,if_neg (λ e=>by have e2:=e.2;unfold nmU at e2;rw[e.1,e2]at BM;simp at BM)];rfl)
      exact ob
     rw[List.take_of_length_le om]at Yq anA;refine wi ?_ ?_<;>intro c6
     ·refine ay ?_;(constructor;(intro e;cases e);(intro h;exfalso;have:=h (x_.ak.getD g1.toNat ByteArray.empty);omega))
     refine wn<|dA _ ?_ ?_
     ·(refine⟨ob,eH cB dW (by unfold fnG;omega)⟩)
     exact ob
    (refine⟨ob,ob,ob,rfl⟩)
   (refine⟨ob,ob,ob,rfl⟩)
  refine ay ?_;(constructor;(intro _ f;rcases Nat.eq_zero_or_pos (cntF x_.ak f)with e | e;(omega);(obtain⟨j,h4,rfl⟩:=anx e;exact cB j om));(intro _;rfl))
 exact ak7
end Go.Proofs.YtccjmcmolnbiiaaGreatDoor
namespace Go.Proofs.YtccjmcmolnbiiaaGreatDoor.Sp
open Go.Ab
set_option maxRecDepth 100000
def aby {l_:ahf} {r_:bZ} (h1:l_.length<=2000000) (h2:r_.dL.length<=2000000):W (GN l_ r_) (λ r=>r=yC l_ r_):=by
 unfold GN;refine aG (Sp.Az ob) λ v1 hv1=>?_;subst v1;apply bL<;>intro c1
 ·have gW:=c1;have c1:=eu c1;refine ay ?_;(unfold yC;rw[gW];rfl)
 have gW:=c1;have c1:=eu c1;have hck:eY l_=0/\r_.On.length=l_.length/\r_.dL.length=l_.length:=(by have:=gW;simp only[Bool.or_eq_false_iff,bne_eq_false_iff_eq]at this;omega);obtain⟨b1,b2,b3⟩:=K4 hck.1;refine bK (λ(g1:Int)=>0<=g1/\g1<=l_.length/\rlN (l_.drop g1.toNat) (r_.dL.drop g1.toNat)=rlN l_ r_.dL) (λ(g1:Int)=>(l_.length - g1).toNat) ?_ ?_
 ·intro aj g1 eT dA;obtain⟨dW,cB,bH⟩:=eT;unfold Pm;obtain⟨i,rfl⟩:=Int.eq_ofNat_of_zero_le dW;refine wi ?_ ?_<;>intro c2
  ·have hlt:i<l_.length:=om;have hb:=b2 i hlt;rw[show((i:Int).toNat)=i from rfl,drop_cons aD hlt,drop_cons 0 (show i<r_.dL.length by omega),rlN]at bH;simp only[Int.toNat_natCast]at *;refine wm<|wn ?_;refine aG (Sp.ql) λ v4 hv4=>?_;subst v4;apply bL<;>intro c3
   ·have jU:=c3;have c3:=eu c3;refine ay ?_;(unfold yC;rw[gW,<- bH];rw[show dU (r_.dL.getD i 0) 0 _=false by simpa using jU];rfl)
   have jU:=c3;have c3:=eu c3;refine wn<|dA _ ?_ ?_
   ·(refine⟨ob,ob,?_⟩;rw[<- bH,show dU (r_.dL.getD i 0) 0 _=true by simpa using jU,show((i:Int)+1).toNat=i+1 by omega];rfl)
   exact ob
  refine ay ?_;have e:i=l_.length:=om;unfold yC;rw[gW,<- bH,show(i:Int).toNat=i from rfl,e,List.drop_length];cases List.drop l_.length r_.dL<;>rfl
 (refine⟨ob,ob,rfl⟩)
end Go.Proofs.YtccjmcmolnbiiaaGreatDoor.Sp
namespace Go.Proofs.YtccjmcmolnbiiaaGreatDoor
open Go.Ab
set_option maxRecDepth 100000
variable {l_:ahf} {d_:ai8}
def abz {r_:bZ} (h1:l_.length<=2000000) (h2:d_.length<=2000000) (h3:r_.dL.length<=2000000):W (GQ l_ r_ d_) (λ r=>r=Sp.gD l_ r_ d_):=by
 unfold GQ;refine aG (Sp.Sv ob ob) λ v1 hv1=>?_;subst v1;refine aG (ig λ hc=>mg (Sp.aby ob ob)) λ v2 hv2=>?_;subst v2;refine aG (ig λ hc=>mg (Sp.Sw (Sp.aew (by simp only[Bool.and_eq_true]at hc;exact hc.1)) (Sp.QY.1 (by simp only[Bool.and_eq_true]at hc;exact hc.2)).2)) λ v3 hv3=>?_;subst v3;refine ay ?_;(unfold Sp.gD;cases Sp.qZ l_ d_<;>cases Sp.yC l_ r_<;>rfl)
def YW {b_:aM} {l_:aha} {ah:ag8} {g_:aO} {gY:Bool} (h1:uW b_) (h2:∀g∈b_.aT.av,g.bU.length<=2000000/\g.ak.length<=2000000) (h3:Fj l_) (h4:ah.length<=10000) (h5:Ec g_):W (D7 b_ l_ ah g_ gY) (λ r=>Rt b_ l_ ah g_ gY r):=by
 obtain⟨n3,n4⟩:=id h3;obtain⟨s1,s2,s3,s4,s5,s6,s7⟩:=id h1;obtain⟨z1,z2,z3,z4,z5,z6⟩:=id h5;unfold D7;refine aG (Il h1 h2 h3) λ v1 hv1=>?_;refine aG (uq λ hc=>zV n3 om) λ v2 hv2=>?_;refine aG (uq λ hc=>YR h1 n3 h5) λ v3 hv3=>?_;apply bL<;>intro c1
 ·have gW:=c1;have c1:=eu c1;refine ay ?_;(by_cases q:ku b_ l_ 0;(refine aN (λ h=>h q) (eF (λ h=>?_));have e:=ku.fun _ _ hv1 q;have a2:=(hv2 (by rw[e];rfl)).2 h.1;have a3:=(hv3 (by rw[e,a2];rfl)).2 h.2;rw[e,a2,a3]at gW;cases gW);exact eF q)
 have gW:=c1;have c1:=eu c1;have e1:v1=0/\v2=true/\v3=true:=(by simp only[Bool.or_eq_false_iff,bne_eq_false_iff_eq,Bool.not_eq_false']at gW;exact⟨gW.1.1,gW.1.2,gW.2⟩);have hn0:ku b_ l_ 0:=(by rw[e1.1]at hv1;exact hv1);have q1:yH l_ ah/\anr b_ l_ g_:=⟨(hv2 (by rw[e1.1];rfl)).1 e1.2.1,(hv3 (by rw[e1.1,e1.2.1];rfl)).1 e1.2.2⟩;have nok:=yJ hn0;have hsl:=q1.2.1;refine aG (Fy s1 z1 (by decide) s2) λ v4 hv4=>?_;subst v4;refine wi ?_ ?_<;>intro c2
 ·exact ay (aN (λ h=>h hn0) (aN (λ h=>h q1) (eF c2)))
 refine bK (λ(g1:Int×ai8)=>0<=g1.1/\g1.1<=ah.length/\(g1.2.length:Int)<=32*g1.1/\g1.2=drM l_ (ah.take g1.1.toNat)/\(∀i:Nat,(i:Int)<g1.1->anv b_ g_ (l_.getD (ah.getD i 0).toNat aU) gY)) (λ(g1:Int×ai8)=>(ah.length - g1.1).toNat) ?_ ?_
 ·intro aj g1 eT dA;obtain⟨dW,cB,bH,jW,MW⟩:=eT;unfold MP;refine wi ?_ ?_<;>intro c3
  ·have hmi:=(q1.1 g1.1.toNat om).1;have hnd:=getD_in (l:=l_) (i:=(ah.getD g1.1.toNat 0).toNat) aU om;have hno:=nok.2.2 _ hnd;have hns:=n4 _ hnd;obtain⟨o1,o2,o3,o4,o5,o6,o7⟩:=id hno;refine aK (by first | omega | (unfold aC;omega) | (intro h0;have:=of_decide_eq_true h0;omega) | (unfold big;omega)) ?_;refine aK (by first | omega | (unfold aC;omega) | (intro h0;have:=of_decide_eq_true h0;omega) | (unfold big;omega)) ?_;refine aG (YV s1 z1 s2 c2 o4 om) λ v7 hv7=>?_;refine wi ?_ ?_<;>intro c4
   ·exact ay (aN (λ h=>h hn0) (aN (λ h=>h q1) (aN (by rw[c2];decide) (eF (λ h=>kX hv7 c4 (h g1.1.toNat om))))))
   refine aK (by first | omega | (unfold aC;omega) | (intro h0;have:=of_decide_eq_true h0;omega) | (unfold big;omega)) ?_;refine aK (by first | omega | (unfold aC;omega) | (intro h0;have:=of_decide_eq_true h0;omega) | (unfold big;omega)) ?_;refine aK (by first | omega | (unfold aC;omega) | (intro h0;have:=of_decide_eq_true h0;omega) | (unfold big;omega)) ?_;refine dA _ ?_ ?_
   ·(refine⟨om,om,by(simp only[List.length_append];omega),?_,eH MW dW (hv7.1 c4)⟩;dsimp only;unfold drM at *;rw[show(g1.1+1).toNat=g1.1.toNat+1 by omega,iq 0 om,List.flatMap_append,jW];simp only[List.flatMap_cons,List.flatMap_nil,List.append_nil])
   omega
  have q3:auh b_ l_ ah g_ gY:=λ i hi=>MW i om;have hdr:g1.2=drM l_ ah:=(by rw[jW,show g1.1.toNat=ah.length by omega,List.take_length]);have axT:(drM l_ ah).length<=2000000:=(by rw[<- hdr];omega);rw[hdr];refine aG (abz s3 axT z3) λ v8 xk=>?_;subst v8;refine wi ?_ ?_<;>intro c5
  ·exact ay (aN (λ h=>h hn0) (aN (λ h=>h q1) (aN (by rw[c2];decide) (aN (λ h=>h q3) (eF c5)))))
  refine aG (acH z4) λ v9 Kk=>?_;subst v9;refine aG (YT h2 (by rw[List.length_map];exact z4)) λ v10 JN=>?_;refine wi ?_ ?_<;>intro c6
  ·exact ay (aN (λ h=>h hn0) (aN (λ h=>h q1) (aN (by rw[c2];decide) (aN (λ h=>h q3) (aN (by rw[c5];decide) (eF (λ h=>c6 (JN.2 h))))))))
  have q5:=JN.1 c6;have hown:=Q8 q5.2;refine bK (λ(g2:Int)=>0<=g2/\(∀i:Nat,(i:Int)<g2->anw b_ g_ (l_.getD (ah.getD i 0).toNat aU) (ah.getD i 0))) (λ(g2:Int)=>(ah.length - g2).toNat) ?_ ?_
  ·intro dR g2 nk qJ;obtain⟨rG,jL⟩:=nk;unfold JB;refine wi ?_ ?_<;>intro c7
   ·have hmi:=(q1.1 g2.toNat om).1;have hnd:=getD_in (l:=l_) (i:=(ah.getD g2.toNat 0).toNat) aU om;have hno:=nok.2.2 _ hnd;have hns:=n4 _ hnd;obtain⟨o1,o2,o3,o4,o5,o6,o7⟩:=id hno;refine aK (by first | omega | (unfold aC;omega) | (intro h0;have:=of_decide_eq_true h0;omega) | (unfold big;omega)) ?_;refine aK (by first | omega | (unfold aC;omega) | (intro h0;have:=of_decide_eq_true h0;omega) | (unfold big;omega)) ?_;refine aG (TT z4 om hown) λ v13 U5=>?_;refine wi ?_ ?_<;>intro c8
    ·exact ay (aN (λ h=>h hn0) (aN (λ h=>h q1) (aN (by rw[c2];decide) (aN (λ h=>h q3) (aN (by rw[c5];decide) (aN (λ h=>h q5) (eF (λ h=>kX U5 c8 (h g2.toNat om)))))))))
    refine aK (by first | omega | (unfold aC;omega) | (intro h0;have:=of_decide_eq_true h0;omega) | (unfold big;omega)) ?_;refine qJ _ ?_ ?_
    ·(refine⟨om,eH jL rG (U5.1 c8)⟩)
    omega
   have q6:aui b_ l_ ah g_:=λ i hi=>jL i om;refine aG (YO s6) λ v14 acf=>?_;refine wi ?_ ?_<;>intro c9
   ·exact ay (aN (λ h=>h hn0) (aN (λ h=>h q1) (aN (by rw[c2];decide) (aN (λ h=>h q3) (aN (by rw[c5];decide) (aN (λ h=>h q5) (aN (λ h=>h q6) (eF (λ h=>kX acf c9 h.1)))))))))
   have q7a:=acf.1 c9;refine bK (λ(g3:Int)=>0<=g3/\(∀i:Nat,(i:Int)<g3->apb g_ (l_.getD (ah.getD i 0).toNat aU))) (λ(g3:Int)=>(ah.length - g3).toNat) ?_ ?_
   ·intro jO g3 aeF aeG;obtain⟨Yo,qK⟩:=aeF;unfold JA;refine wi ?_ ?_<;>intro c10
    ·have hmi:=(q1.1 g3.toNat om).1;have hnd:=getD_in (l:=l_) (i:=(ah.getD g3.toNat 0).toNat) aU om;have hno:=nok.2.2 _ hnd;have hns:=n4 _ hnd;obtain⟨o1,o2,o3,o4,o5,o6,o7⟩:=id hno;refine aK (by first | omega | (unfold aC;omega) | (intro h0;have:=of_decide_eq_true h0;omega) | (unfold big;omega)) ?_;refine aK (by first | omega | (unfold aC;omega) | (intro h0;have:=of_decide_eq_true h0;omega) | (unfold big;omega)) ?_;refine bK (λ(g6:Int)=>0<=g6/\(∀j:Nat,(j:Int)<g6->g_.bV.getD ((l_.getD (ah.getD g3.toNat 0).toNat aU).aZ.getD j 0).toNat false=true)) (λ(g6:Int)=>((l_.getD (ah.getD g3.toNat 0).toNat aU).aZ.length - g6).toNat) ?_ ?_
     ·intro jR g6 PX K8;obtain⟨M0,wS⟩:=PX;unfold Jy;refine wi ?_ ?_<;>intro c11
      ·have hx:=o6 _ (getD_in (i:=g6.toNat) 0 om);refine aK (by first | omega | (unfold aC;omega) | (intro h0;have:=of_decide_eq_true h0;omega) | (unfold big;omega)) ?_;refine aK (by first | omega | (unfold aC;omega) | (intro h0;have:=of_decide_eq_true h0;omega) | (unfold big;omega)) ?_;refine wi ?_ ?_<;>intro c12
       ·exact ay (aN (λ h=>h hn0) (aN (λ h=>h q1) (aN (by rw[c2];decide) (aN (λ h=>h q3) (aN (by rw[c5];decide) (aN (λ h=>h q5) (aN (λ h=>h q6) (eF (λ h=>by have:=h.2 g3.toNat om g6.toNat om;rw[this]at c12;cases c12)))))))))
       refine aK (by first | omega | (unfold aC;omega) | (intro h0;have:=of_decide_eq_true h0;omega) | (unfold big;omega)) ?_;refine K8 _ ?_ ?_
       ·(refine⟨om,eH wS M0 c12⟩)
       omega
      refine aK (by first | omega | (unfold aC;omega) | (intro h0;have:=of_decide_eq_true h0;omega) | (unfold big;omega)) ?_;refine aeG _ ?_ ?_
      ·(refine⟨om,eH qK Yo (λ j hj=>wS j om)⟩)
      omega
     (refine⟨om,λ j hj=>by(try dsimp only at hj);omega⟩)
    have q7:auj b_ l_ ah g_:=⟨q7a,λ i hi=>qK i om⟩;refine aG (abp) λ v15 Rm=>?_;refine wi ?_ ?_<;>intro c13
    ·exact ay (aN (λ h=>h hn0) (aN (λ h=>h q1) (aN (by rw[c2];decide) (aN (λ h=>h q3) (aN (by rw[c5];decide) (aN (λ h=>h q5) (aN (λ h=>h q6) (aN (λ h=>h q7) (eF (λ h=>kX Rm c13 h.1))))))))))
    have q8a:=Rm.1 c13;refine bK (λ(g7:Int)=>0<=g7/\(∀i:Nat,(i:Int)<g7->apc g_ (l_.getD (ah.getD i 0).toNat aU))) (λ(g7:Int)=>(ah.length - g7).toNat) ?_ ?_
    ·intro nX g7 abn YL;obtain⟨abo,Dh⟩:=abn;unfold Jz;refine wi ?_ ?_<;>intro c14
     ·have hmi:=(q1.1 g7.toNat om).1;have hnd:=getD_in (l:=l_) (i:=(ah.getD g7.toNat 0).toNat) aU om;have hno:=nok.2.2 _ hnd;have hns:=n4 _ hnd;obtain⟨o1,o2,o3,o4,o5,o6,o7⟩:=id hno;refine aK (by first | omega | (unfold aC;omega) | (intro h0;have:=of_decide_eq_true h0;omega) | (unfold big;omega)) ?_;refine aK (by first | omega | (unfold aC;omega) | (intro h0;have:=of_decide_eq_true h0;omega) | (unfold big;omega)) ?_;refine aK (by first | omega | (unfold aC;omega) | (intro h0;have:=of_decide_eq_true h0;omega) | (unfold big;omega)) ?_;apply bL<;>intro c15
      ·have ar7:=c15;have c15:=eu c15;exact ay (aN (λ h=>h hn0) (aN (λ h=>h q1) (aN (by rw[c2];decide) (aN (λ h=>h q3) (aN (by rw[c5];decide) (aN (λ h=>h q5) (aN (λ h=>h q6) (aN (λ h=>h q7) (eF (λ h=>by have:=h.2 g7.toNat om c15.1;rw[this]at c15;cases c15.2))))))))))
      have ar7:=c15;have c15:=eu c15;refine aK (by first | omega | (unfold aC;omega) | (intro h0;have:=of_decide_eq_true h0;omega) | (unfold big;omega)) ?_;refine YL _ ?_ ?_
      ·(refine⟨om,eH Dh abo (λ h0=>?_)⟩;simp only[Bool.and_eq_false_iff,decide_eq_false_iff_not,Bool.not_eq_false']at ar7;exact ar7.resolve_left (λ q=>q h0))
      omega
     exact ay (aN (λ h=>h hn0) (aN (λ h=>h q1) (aN (by rw[c2];decide) (aN (λ h=>h q3) (aN (by rw[c5];decide) (aN (λ h=>h q5) (aN (λ h=>h q6) (aN (λ h=>h q7) (aN (λ h=>h ⟨q8a,λ i hi=>Dh i om⟩) rfl)))))))))
    (refine⟨om,λ j hj=>by(try dsimp only at hj);omega⟩)
   (refine⟨om,λ j hj=>by(try dsimp only at hj);omega⟩)
  (refine⟨om,λ j hj=>by(try dsimp only at hj);omega⟩)
 (refine⟨om,by(dsimp only;omega),by(simp only[List.length_nil];omega),rfl,λ i hi=>by(try dsimp only at hi);omega⟩)
def JU {p:Prop} {c:Int} {A:Int->Prop} (hc:c≠0) (h:M5 p c A 0):¬p/\A 0:=by
 rcases h with⟨_,h⟩ | h
 ·exact absurd h.symm hc
 exact h
def ajv {b:aM} {l:aha} {ms:ag8} {g:aO} {bt:Bool} (h:Rt b l ms g bt 0):uI b.aT 0/\TS b.aT (g.dK.map aR.l7):=by
 obtain⟨_,h⟩:=JU (by decide) h;obtain⟨_,h⟩:=JU (by decide) h;obtain⟨_,h⟩:=JU (by decide) h;obtain⟨_,h⟩:=JU (by decide) h;obtain⟨_,h⟩:=JU (by decide) h;exact Classical.not_not.1 (JU (by decide) h).1
def BJ (ms:ag8) (us:aiX):aiX:=us.filter λ u=>ms.contains u.iW
def uf {α:Type} (P:α->Bool) (l:List α) (d:α) {i:Nat} (h:i<l.length):(l.take (i+1)).filter P=(l.take i).filter P++(if P (l.getD i d)then[l.getD i d]else[]):=by
 rw[List.take_add_one,List.filter_append,List.getElem?_eq_getElem h,List.getD_eq_getElem?_getD,List.getElem?_eq_getElem h];congr 1;simp only[Option.toList_some,Option.getD_some,List.filter_cons,List.filter_nil]
abbrev GA:=ag8×ag9×ag8×ag9×ag9×Int×Int×aiX
structure azT (r:GA):Prop where
 a:r.1.length<=16
 b:r.2.1.length<=16
 c:r.2.2.1.length<=16
 d:r.2.2.2.1.length<=32
 e:r.2.2.2.2.1.length<=16
def wX (a:Int) (x:Nat):Bool:=(BitVec.ofInt 64 a).getLsbD x
def aiy (b:BitVec 64):BitVec.ofInt 64 (IntKind.u64.wrap ((b.toNat:Nat):Int))=b:=by
 have h:=b.isLt;rw[Sp.wrap_u64 ⟨om,om⟩,BitVec.ofInt_natCast,BitVec.ofNat_toNat];exact BitVec.setWidth_eq b
variable {a:Int} {b:Int} {x:Nat}
def anB (h:wX (orI .u64 a b) x=true):wX a x=true\/wX b x=true:=by
 unfold wX orI at h;rw[show IntKind.u64.bits=64 from rfl,aiy,BitVec.getLsbD_or,Bool.or_eq_true]at h;exact h
def ajw (h:FU .u64 a b≠0):∃x,wX a x=true/\wX b x=true:=by
 apply Classical.byContradiction;intro hn;apply h;have e:BitVec.ofInt 64 a &&& BitVec.ofInt 64 b=BitVec.ofNat 64 0:=by
  apply BitVec.eq_of_getLsbD_eq;intro i _;rw[BitVec.getLsbD_and];cases ha:(BitVec.ofInt 64 a).getLsbD i with
  | false=>simp
  | true=>
   cases hb:(BitVec.ofInt 64 b).getLsbD i with
   | false=>simp
   | true=>exact absurd ⟨i,ha,hb⟩ hn
 unfold FU;rw[show IntKind.u64.bits=64 from rfl,e];rfl
def Vr (h:wX 0 x=true):False:=by
 unfold wX at h;simp at h
variable {k:Int}
def apd (h0:0<=k) (h1:k<64) (h:wX (Ra .u64 1 k) x=true):x=k.toNat:=by
 unfold wX Ra at h;have hk:k.toNat<64:=by omega
 have hp:(2:Nat) ^ k.toNat<2 ^ 64:=Nat.pow_lt_pow_right om hk;have e:(1:Int)*2 ^ min k.toNat IntKind.u64.bits=((2 ^ k.toNat:Nat):Int):=by
  rw[show IntKind.u64.bits=64 from rfl,Nat.min_eq_left om,Int.one_mul];exact(Int.natCast_pow 2 k.toNat).symm
 have hw:=Sp.wrap_u64 (n:=((2 ^ k.toNat:Nat):Int)) ⟨Int.natCast_nonneg _,om⟩;rw[e,hw,BitVec.ofInt_natCast,BitVec.getLsbD_ofNat]at h;simp only[Bool.and_eq_true,Nat.testBit_two_pow,decide_eq_true_eq]at h;exact h.2.symm
def anC {l:ag8} (hl:∀p∈l,0<=p/\p<64):∀ {a:Int} {x:Nat},wX (l.foldl orF a) x=true->wX a x=true\/∃p∈l,p.toNat=x:=by
 induction l with
 | nil=>intro a x h;exact .inl h
 | cons p l ih=>
  intro a x h;rcases ih (λ q hq=>hl q (List.mem_cons_of_mem _ hq)) h with h | ⟨q,hq,e⟩
  ·rcases anB h with h | h
   ·exact .inl h
   have:=hl p (List.mem_cons_self ..);exact .inr ⟨p,List.mem_cons_self .., (apd this.1 this.2 h).symm⟩
  exact .inr ⟨q,List.mem_cons_of_mem _ hq,e⟩
def Vs {g:cu} (hl:∀p∈g.bU,0<=p/\p<64) (h:wX (BI g) x=true):∃p∈g.bU,p.toNat=x:=by
 rcases anC hl h with h | h
 ·exact(Vr h).elim
 exact h
def adx {ms gs:ag8}:∀ {a:Int} {x:Nat},wX (gs.foldl (λ a g=>orI .u64 a (ms.getD g.toNat 0)) a) x=true->wX a x=true\/∃g∈gs,wX (ms.getD g.toNat 0) x=true:=by
 induction gs with
 | nil=>intro a x h;exact .inl h
 | cons g gs ih=>
  intro a x h;rcases ih h with h | ⟨q,hq,e⟩
  ·rcases anB h with h | h
   ·exact .inl h
   exact .inr ⟨g,List.mem_cons_self .., h⟩
  exact .inr ⟨q,List.mem_cons_of_mem _ hq,e⟩
def ar8 {p:bg} (hp:ado p) {given:ag8} (hk:0<=k/\k<p.av.length) (hg:∀g∈given,0<=g/\g<p.av.length) (h:FU .u64 (Im (p.av.map BI) given) ((p.av.map BI).getD k.toNat 0)≠0):
  ∃g∈given,∃x,x∈(p.av.getD g.toNat aF).bU/\x∈(p.av.getD k.toNat aF).bU:=by
 obtain⟨x,h1,h2⟩:=ajw h;have hm:∀i:Nat,i<p.av.length->(p.av.map BI).getD i 0=BI (p.av.getD i aF):=λ i hi=>by
  rw[List.getD_eq_getElem?_getD,List.getElem?_map,List.getElem?_eq_getElem hi,List.getD_eq_getElem?_getD,List.getElem?_eq_getElem hi];rfl
 have hpn:∀i:Nat,i<p.av.length->∀q∈(p.av.getD i aF).bU,0<=q/\q<64:=λ i hi q hq=>by
  have:=(hp.gr _ (getD_in (i:=i) aF hi)).pn q hq;have:=hp.pn;omega
 rw[hm _ om]at h2;obtain⟨a,ha,ea⟩:=Vs (hpn _ om) h2;unfold Im at h1;rcases adx h1 with h1 | ⟨g,hgm,h1⟩
 ·exact(Vr h1).elim
 have hgb:=hg g hgm;rw[hm _ om]at h1;obtain⟨b,hb,eb⟩:=Vs (hpn _ om) h1;have q1:=hpn _ om a ha;have q2:=hpn _ om b hb;have:a=b:=by omega
 subst this;exact⟨g,hgm,a,hb,ha⟩
def ajx (h:wX a x=true\/wX b x=true):wX (orI .u64 a b) x=true:=by
 unfold wX orI at *;rw[show IntKind.u64.bits=64 from rfl,aiy,BitVec.getLsbD_or,Bool.or_eq_true];exact h
def ape (h0:0<=k) (h1:k<64):wX (Ra .u64 1 k) k.toNat=true:=by
 unfold wX Ra;have hk:k.toNat<64:=by omega
 have hp:(2:Nat) ^ k.toNat<2 ^ 64:=Nat.pow_lt_pow_right om hk;have e:(1:Int)*2 ^ min k.toNat IntKind.u64.bits=((2 ^ k.toNat:Nat):Int):=by
  rw[show IntKind.u64.bits=64 from rfl,Nat.min_eq_left om,Int.one_mul];exact(Int.natCast_pow 2 k.toNat).symm
 have hw:=Sp.wrap_u64 (n:=((2 ^ k.toNat:Nat):Int)) ⟨Int.natCast_nonneg _,om⟩;rw[e,hw,BitVec.ofInt_natCast,BitVec.getLsbD_ofNat];simp[Nat.testBit_two_pow,hk]
def ady {α:Type} {f:α->Int} {l:List α}:∀ {a:Int} {x:Nat},(wX a x=true\/∃g∈l,wX (f g) x=true)->wX (l.foldl (λ a g=>orI .u64 a (f g)) a) x=true:=by
 induction l with
 | nil=>
  intro a x h;rcases h with h | ⟨g,hg,_⟩
  ·exact h
  cases hg
 | cons g l ih=>
  intro a x h;refine ih ?_;rcases h with h | ⟨q,hq,h⟩
  ·exact .inl (ajx (.inl h))
  rcases List.mem_cons.1 hq with e | e
  ·rw[e]at h;exact .inl (ajx (.inr h))
  exact .inr ⟨q,e,h⟩
def anD (h1:wX a x=true) (h2:wX b x=true):FU .u64 a b≠0:=by
 intro h;have e:wX (FU .u64 a b) x=true:=by
  unfold wX FU at *;rw[show IntKind.u64.bits=64 from rfl,aiy,BitVec.getLsbD_and,h1,h2];rfl
 rw[h]at e;exact Vr e
structure azU (b:aM) (fns:aiS) (dev:Int) (old:aiX) (new:aiX):Prop where
 pa:uI b.aT 0
 len:new.length=fns.length
 bd:fns.length<=10
 at_:∀i:Nat,i<new.length->(new.getD i bE).iW=dev/\0<=(new.getD i bE).l7.dF/\(new.getD i bE).l7.dF<b.aT.av.length/\(new.getD i bE).l7.gL=Np (b.aT.av.getD (new.getD i bE).l7.dF.toNat aF) (fns.getD i ByteArray.empty)
 lst:fns.length=1->∀k∈Ee b.aT (fns.getD 0 ByteArray.empty) b.aT.av.length,k<(new.getD 0 bE).l7.dF->
  ∃u∈old,∃x,x∈(b.aT.av.getD u.l7.dF.toNat aF).bU/\x∈(b.aT.av.getD k.toNat aF).bU
def Sp.adz {l:ahf} {d:ai8} (h:(Sp.mV l d).2=0):(Sp.mV l d).1.On.length=l.length/\(Sp.mV l d).1.dL.length=l.length:=by
 unfold Sp.mV at h ⊢;cases h1:Sp.sZ l d != 0 with
 | true=>rw[h1]at h;simp at h1;exact absurd h h1
 | false=>
  rw[h1]at h;cases h2:decide (0<=(Sp.Vh l d).2)||!Sp.gD l ⟨Sp.jK l d,(Sp.Vh l d).1.lv⟩ d with
  | true=>rw[h2]at h;cases h
  | false=>
   simp only[Bool.or_eq_false_iff,Bool.not_eq_false']at h2;have hm:=h2.2;unfold Sp.gD at hm;cases h3:!Sp.yC l ⟨Sp.jK l d,(Sp.Vh l d).1.lv⟩||!Sp.qZ l d with
   | true=>rw[h3]at hm;cases hm
   | false=>
    simp only[Bool.or_eq_false_iff,Bool.not_eq_false']at h3;have:=(Sp.QY.1 h3.1).2;exact⟨this.On,this.len⟩
def ajy {b:aM} (h:af6 b):uW b:=by
 obtain⟨b1,b2,b3,b4,b5,b6,b7,b8,b9⟩:=h;exact⟨om,λ i hi=>by have:=b2 _ (getD_in (i:=i) aL hi);omega,om,λ g hg=>by have:=b6 g hg;omega,om,λ g hg=>by have:=b8 g hg;omega,om⟩
structure Ga2 (r:GA):Prop where
 a:r.1.length<=2000000
 b:r.2.1.length<=2000000
 c:r.2.2.1.length<=2000000
 d:r.2.2.2.1.length<=2000000
 e:r.2.2.2.2.1.length<=2000000
variable {l:ah3}
def ZM:∀ {s t:ag8},VS l s->VS l t->nY l s=nY l t->s=t:=by
 induction l with
 | nil=>
  intro s t hs ht _;rw[List.length_eq_zero_iff.1 hs.1,List.length_eq_zero_iff.1 ht.1]
 | cons c l ih=>
  intro s t hs ht e;obtain⟨x,s,rfl,x0,x1,hs⟩:=Vn hs;obtain⟨y,t,rfl,y0,y1,ht⟩:=Vn ht;have p1:=K9 hs;have p2:=K9 ht;rw[nY,nY]at e;have hd:x.toNat=y.toNat:=by
   rcases Nat.lt_trichotomy x.toNat y.toNat with q | q | q
   ·have:(x.toNat+1)*rH l<=y.toNat*rH l:=Nat.mul_le_mul_right _ om;rw[Nat.add_mul,Nat.one_mul]at this;omega
   ·exact q
   have:(y.toNat+1)*rH l<=x.toNat*rH l:=Nat.mul_le_mul_right _ om;rw[Nat.add_mul,Nat.one_mul]at this;omega
  rw[hd]at e;rw[show x=y by omega,ih hs ht om]
def aeI (l:ah3) (m:ajc) (s:ag8):Prop:=VS l s/\gD l s m=true/\∀t,VS l t->gD l t m=true->nY l s<=nY l t
variable {s:ag8}
def aeI.uniq {m m':ajc} {s':ag8} (h:aeI l m s) (h':aeI l m' s') (hm:∀t,gD l t m=gD l t m'):s=s':=
 ZM h.1 h'.1 (Nat.le_antisymm (h.2.2 _ h'.1 (by rw[hm];exact h'.2.1)) (h'.2.2 _ h.1 (by rw[<- hm];exact h.2.1)))
def bkB (rs:ajm) (b:jY):Bool:=bif(rs.getD b.BS.toNat dZ).kC==0 then !b.ajb else !oC (rs.getD b.BS.toNat dZ) b.flow b.aja
def RV (l:ah3) (rs:ajm):Prop:=∀i:Nat,i<l.length->qg (rs.getD i dZ)=true
def agO {r:bQ} (hv:qg r=true):(r.kC==0)=nO r:=by
 cases h:nO r with
 | true=>
  unfold nO at h;simp only[Bool.and_eq_true]at h;exact h.1
 | false=>
  exact beq_eq_false_iff_ne.2 (adv hv h)
def any_take_succ {α:Type} (P:α->Bool) (l:List α) (d:α) {i:Nat} (h:i<l.length):(l.take (i+1)).any P=((l.take i).any P||P (l.getD i d)):=by
 rw[List.take_add_one,List.any_append,List.getElem?_eq_getElem h,List.getD_eq_getElem?_getD,List.getElem?_eq_getElem h];simp
def axU (l:ah3) (m:ajc) (r:akV):Prop:=∀rs,RV l rs->r.any (bkB rs)=(m.any (WS rs)||!ownB l rs)
variable {m_:ajc}
def acI {l_:ah3} (h1:l_.length<=2000000) (h2:m_.length<=2000000) (h3:∀x∈m_,0<=x.fE/\x.fE<l_.length):W (KG l_ m_) (λ r=>r.length<=m_.length+l_.length/\(∀b∈r,0<=b.BS/\b.BS<l_.length)/\axU l_ m_ r):=by
 unfold KG;refine bK (λ g1:Int×akV=>0<=g1.1/\g1.1<=m_.length/\(g1.2.length:Int)<=g1.1/\(∀b∈g1.2,0<=b.BS/\b.BS<l_.length)/\∀rs,RV l_ rs->g1.2.any (bkB rs)=(m_.take g1.1.toNat).any (WS rs)) (λ g1=>(m_.length - g1.1).toNat) ?_ ⟨ob,ob,ob,nofun,λ _ _=>rfl⟩;intro aj g1 ⟨a1,a2,a3,a4,a5⟩ ih1;unfold R3;refine wi ?_ ?_<;>intro c
 ·have hx:=h3 _ (getD_in (i:=g1.1.toNat) dM om);refine wm<|wn ?_;refine ih1 _ ⟨ob,ob,ob,λ b hb=>?_,λ rs hr=>?_⟩ ob
  ·rcases List.mem_append.1 hb with h | h
   ·exact a4 b h
   rw[List.mem_singleton]at h;subst h;exact hx
  dsimp only;rw[List.any_append,a5 rs hr,show(g1.1+1).toNat=g1.1.toNat+1 by omega,any_take_succ _ _ dM om];congr 1;rw[List.any_cons,List.any_nil,Bool.or_false];unfold bkB WS;dsimp only;rw[agO (hr _ om)];cases nO (rs.getD (m_.getD g1.1.toNat dM).fE.toNat dZ)<;>rfl
 refine bK (λ g2:Int×akV=>0<=g2.1/\g2.1<=l_.length/\(g2.2.length:Int)<=m_.length+g2.1/\(∀b∈g2.2,0<=b.BS/\b.BS<l_.length)/\∀rs,RV l_ rs->g2.2.any (bkB rs)=(m_.any (WS rs)||(List.range g2.1.toNat).any λ i=>aep (rs.getD i dZ) (l_.getD i aL))) (λ g2=>(l_.length - g2.1).toNat) ?_ ⟨ob,ob,by dsimp only;omega,a4,λ rs hr=>?_⟩
 ·intro dR g2 ⟨b1,b2,b3,b4,b5⟩ ih2;unfold RZ;refine wi ?_ ?_<;>intro c2
  ·have e:(g2.1+1).toNat=g2.1.toNat+1:=by omega
   refine wn<|bL ?_ ?_<;>intro c3
   ·refine wm<|wn ?_;refine ih2 _ ⟨ob,ob,ob,λ b hb=>?_,λ rs hr=>?_⟩ ob
    ·rcases List.mem_append.1 hb with h | h
     ·exact b4 b h
     rw[List.mem_singleton]at h;subst h;exact⟨by dsimp only;omega,by dsimp only;omega⟩
    dsimp only;rw[List.any_append,b5 rs hr,e,List.range_succ,List.any_append,Bool.or_assoc];congr 2;rw[List.any_cons,List.any_nil,Bool.or_false,List.any_cons,List.any_nil,Bool.or_false];unfold bkB aep;dsimp only;rw[agO (hr _ om),c3];cases nO (rs.getD g2.1.toNat dZ)<;>rfl
   refine wn<|ih2 _ ⟨ob,ob,ob,b4,λ rs hr=>?_⟩ ob;dsimp only;rw[b5 rs hr,e,List.range_succ,List.any_append,List.any_cons,List.any_nil,Bool.or_false,show aep (rs.getD g2.1.toNat dZ) (l_.getD g2.1.toNat aL)=false by unfold aep;rw[c3,Bool.and_false];rfl,Bool.or_false]
  refine ay ⟨om,b4,λ rs hr=>?_⟩;rw[b5 rs hr,show g2.1.toNat=l_.length by omega,List.any_eq_not_all_not (l:=List.range l_.length)];rfl
 dsimp only;rw[a5 rs hr,show g1.1.toNat=m_.length by omega,List.take_length];simp
def JV {b_:jY} {r_:bQ}:W (nJ b_ r_) (λ v=>v=bif r_.kC==0 then !b_.ajb else !oC r_ b_.flow b_.aja):=by
 unfold nJ;exact bL (λ c=>ay (by rw[c];rfl)) (λ c=>aG Ie λ v e=>ay (by rw[c,e];rfl))
def aul (h0:0<=k) (h1:k<64):orI .u64 b (Ra .u64 1 k)≠0:=by
 intro h;have hk:k.toNat<64:=by omega
 have hp:(2:Nat) ^ k.toNat<2 ^ 64:=Nat.pow_lt_pow_right om hk;have e:(1:Int)*2 ^ min k.toNat IntKind.u64.bits=((2 ^ k.toNat:Nat):Int):=by
  rw[show IntKind.u64.bits=64 from rfl,Nat.min_eq_left om,Int.one_mul];exact(Int.natCast_pow 2 k.toNat).symm
 have hw:=Sp.wrap_u64 (n:=((2 ^ k.toNat:Nat):Int)) ⟨Int.natCast_nonneg _,om⟩;have hs:(BitVec.ofInt 64 (Ra .u64 1 k)).getLsbD k.toNat=true:=by
  unfold Ra;rw[e,hw,BitVec.ofInt_natCast,BitVec.getLsbD_ofNat];simp[Nat.testBit_two_pow,hk]
 have hb:(BitVec.ofInt 64 b ||| BitVec.ofInt 64 (Ra .u64 1 k)).getLsbD k.toNat=true:=by
  rw[BitVec.getLsbD_or,hs,Bool.or_true]
 unfold orI at h;rw[show IntKind.u64.bits=64 from rfl]at h;have hl:=(BitVec.ofInt 64 b ||| BitVec.ofInt 64 (Ra .u64 1 k)).isLt;rw[Sp.wrap_u64 ⟨om,om⟩]at h;have hz:BitVec.ofInt 64 b ||| BitVec.ofInt 64 (Ra .u64 1 k)=0:=BitVec.eq_of_toNat_eq (by rw[show(0:BitVec 64).toNat=0 from rfl];omega);rw[hz]at hb;simp at hb
def Vt {o:ag8} (h:s.length<=2000000):W (xO k s o false) (λ r=>(k=0/\r=(false,s,true))\/(k≠0/\r=(true,o,false))):=by
 unfold xO;refine bL (λ c=>aG (TP h) λ _ e=>ay (.inl ⟨by simpa using c,by rw[e];rfl⟩)) (λ c=>ay (.inr ⟨by simpa using c,rfl⟩))
def aiz {m:ajc} (h1:nN l m=true) (h2:VS l s):gD l s m=!(m.any (WS (gV l s))||!ownB l (gV l s)):=by
 unfold gD;rw[h1,Q0 h2];cases ownB l (gV l s)<;>cases m.any (WS (gV l s))<;>rfl
def YX {l_:ah3} (h0:nN l_ m_=true):W (Dy l_ m_ [] false) (λ r=>(r.2=true/\aeI l_ m_ r.1)\/(r.2=false/\∀t,VS l_ t->gD l_ t m_=false)):=by
 obtain⟨h1,h2,_⟩:=Fa h0;have h3:=ajp h0;have hf:=vE h1;have hlen:=hf.len;have hcb:∀i,i<l_.length->(l_.getD i aL).aP.length<=8:=λ i hi=>(hf.big i hi).2;unfold Dy;refine aG (acI om om h3) λ v1 ⟨hv1,hv2,hv3⟩=>?_;refine wn<|bK (λ g1:ag8×Bool×ag8=>VS l_ g1.2.2/\g1.1=[]/\g1.2.1=false/\∀t,VS l_ t->nY l_ t<nY l_ g1.2.2->gD l_ t m_=false) (λ g1=>rH l_ - nY l_ g1.2.2) ?_ ⟨ajo hf,rfl,rfl,λ t _ ht=>?_⟩
 ·intro aj g1 ⟨hvs,ho1,ho2,hlow⟩ ih1;obtain⟨hsl,hsv⟩:=id hvs;have hpl:=K9 hvs;have hst:=Q0 hvs;unfold LH;refine aG (Xf om om (λ i hi=>by have:=hcb i hi;omega)) λ v12 JI=>?_;have hre:v12.1=gV l_ g1.2.2:=by
   rw[JI];unfold vX;rw[h1,hst];rfl
  have hrl:v12.1.length=l_.length:=by
   rw[hre];exact sU _ _ _
  have hrv:RV l_ (gV l_ g1.2.2):=λ i hi=>(QX hf hst i hi).2.2.1;have hmt:=aiz h0 hvs;rw[<- hv3 _ hrv]at hmt;refine bK (λ g10:Int×Int=>0<=g10.2/\g10.2<=v1.length/\(g10.1=0↔(v1.take g10.2.toNat).any (bkB (gV l_ g1.2.2))=false)) (λ g10=>(v1.length - g10.2).toNat) ?_ ⟨ob,ob,by simp⟩;intro aea g10 ⟨a1,a2,a3⟩ aum;unfold LG;refine wi ?_ ?_<;>intro c
  ·have hb:=hv2 _ (getD_in (i:=g10.2.toNat) xB om);have e:(g10.2+1).toNat=g10.2.toNat+1:=by omega
   have hts:=any_take_succ (bkB (gV l_ g1.2.2)) v1 xB (i:=g10.2.toNat) om;refine wm<|aG JV λ v15 Rm=>?_;rw[hre]at Rm;have Rm:v15=bkB (gV l_ g1.2.2) (v1.getD g10.2.toNat xB):=Rm;apply bL<;>intro c2
   ·refine wm<|aum _ ⟨ob,ob,?_⟩ ob;dsimp only;rw[e,hts,<- Rm,c2,Bool.or_true];exact⟨λ q=>absurd q (aul a1 om),nofun⟩
   refine wn<|aum _ ⟨ob,ob,?_⟩ ob;dsimp only;rw[e,hts,<- Rm,c2,Bool.or_false];exact a3
  rw[show g10.2.toNat=v1.length by omega,List.take_length]at a3;rw[ho1,ho2];refine aG (Vt om) λ v16 aem=>?_;rcases aem with⟨k0,rfl⟩ | ⟨k0,rfl⟩
  ·refine bL (λ c2=>ay (.inl ⟨rfl,hvs,by rw[hmt,a3.1 k0];rfl,λ t ht hm=>?_⟩)) (λ c2=>by cases c2);exact Nat.le_of_not_lt λ q=>by rw[hlow t ht q]at hm;cases hm
  have hno:gD l_ g1.2.2 m_=false:=by
   rw[hmt];cases q:v1.any (bkB (gV l_ g1.2.2))with
   | true=>rfl
   | false=>exact absurd (a3.2 q) k0
  refine bL (λ c2=>by cases c2) (λ _=>?_);refine wn<|bK (λ g13:Int => -1<=g13/\g13<l_.length/\∀j:Nat,g13<(j:Int)->j<l_.length->g1.2.2.getD j 0+1=(l_.getD j aL).aP.length) (λ g13=>(g13+1).toNat) ?_ ⟨ob,ob,λ j h1 h2=>by omega⟩;intro ah4 g13 ⟨b1,b2,b3⟩ axV;unfold Ja;refine aK (λ e=>by have e:=eu e;omega) ?_;refine aK (λ e=>by have e:=eu e;omega) ?_;refine aK (λ e=>by have e:=eu e;have:=hcb g13.toNat om;exact ob) ?_;apply bL<;>intro c3
  ·have c3:=eu c3;refine wn<|axV _ ⟨om,om,λ j h1 h2=>?_⟩ om;by_cases q:g13<(j:Int)
   ·exact b3 j q h2
   have e:j=g13.toNat:=by omega
   subst e;omega
  unfold zI;apply bL<;>intro c4
  ·have c4:=eu c4;have hmx:=aeC hvs λ j hj=>b3 j om hj;refine ay (.inr ⟨rfl,λ t ht=>?_⟩);have hpt:=K9 ht;by_cases q:nY l_ t<nY l_ g1.2.2
   ·exact hlow t ht q
   rw[ZM ht hvs om];exact hno
  have c4:=eu c4;have hg:=hsv g13.toNat om;have hc8:=hcb g13.toNat om;have hne:g1.2.2.getD g13.toNat 0+1<(l_.getD g13.toNat aL).aP.length:=by
   rw[Bool.and_eq_false_iff]at c3;rcases c3 with c3 | c3
   ·have c3:=eu c3;omega
   have c3:=eu c3;omega
  refine wm<|wm ?_;refine wn ?_;have hset:(g1.2.2.set g13.toNat (g1.2.2.getD g13.toNat 0+1)).length=l_.length:=by rw[List.length_set,hsl]
  have hgd:∀j:Nat,j<l_.length->(Yy (g1.2.2.set g13.toNat (g1.2.2.getD g13.toNat 0+1)) (0+(g13+1).toNat) (List.replicate (g1.2.2.length - (g13+1).toNat) 0)).getD j 0=if g13.toNat<j then 0 else if j=g13.toNat then g1.2.2.getD g13.toNat 0+1 else g1.2.2.getD j 0:=λ j hj=>by
   rw[QH 0 om,List.length_replicate,Sp.iD,Sp.nP];by_cases q:g13.toNat<j
   ·rw[if_pos om,if_pos q]
   rw[if_neg om,if_neg q];by_cases q2:j=g13.toNat
   ·rw[if_pos ⟨q2,om⟩,if_pos q2]
   rw[if_neg (λ e=>q2 e.1),if_neg q2]
  have hn:=ajn hvs (k:=g13.toNat) (t:=Yy (g1.2.2.set g13.toNat (g1.2.2.getD g13.toNat 0+1)) (0+(g13+1).toNat) (List.replicate (g1.2.2.length - (g13+1).toNat) 0)) om (by rw[iE];exact hset) (λ j hj=>by rw[hgd j om,if_neg om,if_neg om]) (by rw[hgd _ om,if_neg om,if_pos rfl]) (λ j h1 h2=>⟨by rw[hgd j h2,if_pos h1],b3 j om h2⟩) hne;have hp2:=K9 hn.1;refine ih1 _ ⟨hn.1,rfl,rfl,λ t ht hp=>?_⟩ (by dsimp only;omega);dsimp only at hp;rw[hn.2]at hp;by_cases q:nY l_ t<nY l_ g1.2.2
  ·exact hlow t ht q
  rw[ZM ht hvs om];exact hno
 dsimp only at ht;rw[abj λ j _=>Sp.nP _ _ _]at ht;omega
def YZ {l_:ah3} (h:nN l_ m_=true):W (Dv l_ m_) (λ r=>r=0):=by
 obtain⟨h1,h2,_⟩:=Fa h;have hl:=(vE h1).len;unfold Dv;refine aG (yV (uV om)) λ v1 hv1=>?_;subst v1;rw[h1];refine bL (λ c1=>by cases c1) (λ _=>?_);refine aG (PL om om) λ v2 hv2=>?_;subst v2;rw[h];exact bL (λ c=>by cases c) (λ _=>ay rfl)
def tvo (g:akO):ag8:=g.map gX.nI
def ZN (g:akO) (j:Nat):(g.getD j jZ).nI=(tvo g).getD j 0:=by
 unfold tvo;rw[List.getD_eq_getElem?_getD,List.getD_eq_getElem?_getD,List.getElem?_map];cases g[j]? <;> rfl
def ajz (g:akO) (j:Nat) (x:gX):tvo (g.set j x)=(tvo g).set j x.nI:=by
 unfold tvo;rw[List.map_set]
def aeJ (g:akO):(tvo g).length=g.length:=List.length_map ..
def Xj {z:gX} (hz:z.nI=0) {n:Nat} (h:n<=16):W (mD [z] ((n:Nat):Int)) (λ r=>tvo r=List.replicate n 0):=by
 unfold mD;refine aK (by simp) ?_;unfold ny;refine aG (yV (mul_one h)) λ v1 hv1=>?_;subst hv1;refine aK (by simp;omega) ?_;unfold nu;have hw:IntKind.i64.wrap ((n:Nat):Int)=n:=wrap_i64 ⟨om,om⟩;dsimp only;rw[hw];have hm:Nat.min [z].length ((n:Int).toNat)=min 1 n:=by simp
 have aun:∀(a b:akO) (p:Nat),(∀j,(a.getD j jZ).nI=0)->(∀j,(b.getD j jZ).nI=0)->∀j,((Yy a p b).getD j jZ).nI=0:=λ a b p ha hb j=>by
  by_cases q:j<a.length
  ·rw[QH jZ q];split
   ·exact hb _
   exact ha _
  rw[List.getD_eq_getElem?_getD,List.getElem?_eq_none (by rw[iE];omega)];rfl
 have htk:∀(a:akO) (k:Nat),(∀j,(a.getD j jZ).nI=0)->∀j,((a.take k).getD j jZ).nI=0:=λ a k ha j=>by
  have:=ha j;rw[List.getD_eq_getElem?_getD]at this ⊢;rw[List.getElem?_take];split
  ·exact this
  rfl
 refine wn<|bK (λ g3:Int×akO=>0<=g3.1/\g3.1<=n/\g3.2.length=n/\(0<n->0<g3.1)/\∀j,(g3.2.getD j jZ).nI=0) (λ g3=>(n - g3.1).toNat) ?_ ⟨by dsimp only;omega,by dsimp only;rw[hm];omega,by simp[iE],λ hn=>by dsimp only;rw[hm];omega,aun _ _ _ (λ j=>by rw[Sp.nP];rfl) (htk _ _ λ j=>?_)⟩
 ·intro jO g3 ⟨a1,a2,a3,a4,a5⟩ ih;unfold uD;apply bL<;>intro c
  ·have c:=eu c;have hmn:Nat.min g3.1.toNat (g3.2.length - g3.1.toNat)=min g3.1.toNat (g3.2.length - g3.1.toNat):=rfl;rw[hmn];refine aK om ?_;refine aK om ?_;refine aK (by unfold aC;omega) ?_;exact ih _ ⟨by dsimp only;omega,by dsimp only;omega,by dsimp only;rw[iE];exact a3,λ _=>by dsimp only;omega,aun _ _ _ a5 (htk _ _ a5)⟩ (by dsimp only;omega)
  refine ay (Sp.Fb 0 (by rw[aeJ,List.length_replicate];exact a3) λ j _=>?_);rw[<- ZN,a5,Sp.nP]
 cases j with
 | zero=>exact hz
 | succ j=>rfl
def agP:W (cmp_Less_int a b) (λ r=>r=decide (a<b)):=by
 unfold cmp_Less_int;refine aG (P:=λ v=>v=false) (ay (bne_self_eq_false a)) λ v1 e=>?_;subst e;exact aG (uq (P:=λ _=>True) λ _=>ay trivial) λ v2 _=>ay rfl
def Fz {x_:ag8} {t_:Int} (h1:x_.length<=2000000) (ha:∀i j,i<j->j<x_.length->x_.getD i 0<x_.getD j 0):W (slices_BinarySearch_int x_ t_) (λ r=>r.1=Sp.lvN x_ t_):=by
 unfold slices_BinarySearch_int;refine bK (λ g3:Int×Int=>0<=g3.1/\g3.1<=g3.2/\g3.2<=x_.length/\(∀j:Nat,(j:Int)<g3.1->x_.getD j 0<t_)/\∀j:Nat,g3.2<=(j:Int)->j<x_.length->t_<=x_.getD j 0) (λ g3=>(g3.2 - g3.1).toNat) ?_ ⟨ob,ob,ob,λ j h=>by(try dsimp only at h);omega,λ j h q=>by(try dsimp only at h);omega⟩;intro jO g3 ⟨a1,a2,a3,a4,a5⟩ ih;unfold sw;have hm:=arV (x:=g3.1+g3.2) om om;refine wi ?_ ?_<;>intro c
 ·refine wn<|aK om ?_;rw[hm];refine aK om ?_;refine aG agP λ v8 xk=>?_;subst xk;refine wi ?_ ?_<;>intro c2
  ·refine aK (by unfold aC;omega) ?_;refine ih _ ⟨by dsimp only;omega,by dsimp only;omega,by dsimp only;omega,λ j hj=>?_,a5⟩ (by dsimp only;omega);dsimp only at hj;by_cases q:(j:Int)=(g3.1+g3.2) / 2
   ·rw[<- q]at c2;exact c2
   exact Int.lt_trans (ha j ((g3.1+g3.2) / 2).toNat om om) c2
  refine ih _ ⟨by dsimp only;omega,by dsimp only;omega,by dsimp only;omega,a4,λ j hj hl=>?_⟩ (by dsimp only;omega);dsimp only at hj;by_cases q:(j:Int)=(g3.1+g3.2) / 2
  ·rw[<- q]at c2;exact c2
  have:=ha ((g3.1+g3.2) / 2).toNat j om hl;omega
 unfold mK;refine aK (λ e=>by have e:=eu e;omega) ?_;refine aK (λ e _=>by have e:=eu e;omega) ?_;refine aG (uq (P:=λ _=>True) λ _=>zG (uq (P:=λ _=>True) λ _=>ay trivial) λ _ _=>trivial) λ v4 _=>?_;refine aG (uq (P:=λ _=>True) λ _=>zG (uq (P:=λ _=>True) λ _=>zG (uq (P:=λ _=>True) λ _=>ay trivial) λ _ _=>trivial) λ _ _=>trivial) λ v5 _=>?_;have:=Sp.aio (v:=t_) (l:=x_) (k:=g3.1.toNat) om (λ j hj=>a4 j om) (λ hl=>a5 _ om hl);exact ay (by dsimp only;omega)
def Y0 {s_:aI} {v_:Int} (h1:s_.bY.length<=2000000) (ha:Sp.Rq 0 s_.bY=true):W (KJ s_ v_) (λ r=>r=((Sp.lvN s_.bY v_:Int),decide ((Sp.lvN s_.bY v_:Int)<s_.bY.length))):=
 aG (Fz h1 (Sp.arQ ha)) λ v hv=>ay (by rw[hv])
open Sp in
def Vu (h:Vld l_ d_):W (xQ l_ d_) (λ r=>r.2=((Vh l_ d_).1.lv,(Vh l_ d_).2)):=by
 obtain⟨vl,vd,vs,va,vx⟩:=id h;have hul:=JJ l_ d_;unfold xQ;refine aG (Xj rfl vl) λ v1 hv1=>?_;refine wn<|bK (λ g1:Int×akO×ag8=>0<=g1.1/\g1.1<=d_.length/\tvo g1.2.1=Cr (Df l_.length d_ g1.1.toNat)/\g1.2.2=List.replicate l_.length 0) (λ g1=>(d_.length - g1.1).toNat) ?_ ⟨ob,ob,?_,rfl⟩
 ·intro aj g1 ⟨a1,a2,a3,a4⟩ ih;have hgl:g1.2.1.length=l_.length:=by rw[<- aeJ,a3,Vi,WZ]
  unfold Gl;refine wi ?_ ?_<;>intro c
  ·have hx:=vx _ (Go.Proofs.YtccjmcmolnbiiaaGreatDoor.getD_in (i:=g1.1.toNat) dV om);have e:(g1.1+1).toNat=g1.1.toNat+1:=by omega
   refine wm ?_;rw[ZN,a3];apply bL<;>intro c2
   ·have c2:=eu c2;refine wm<|ih _ ⟨ob,ob,?_,a4⟩ ob;dsimp only;rw[ajz,e,TN,a3,if_pos c2]
   have c2:=eu c2;refine wn<|ih _ ⟨ob,ob,?_,a4⟩ ob;dsimp only;rw[e,TN,a3,if_neg om,set_self]
  refine aG (Ig h) λ v2 hv2=>?_;subst hv2;refine aG mW λ v3 hv3=>?_;subst hv3;refine aK om ?_;refine amA (λ(k:Nat) (g:akO×ag8)=>∃s:DS,tvo g.1=Cr s.a/\g.2=s.lv/\DOk v3 s/\acr v3 (jK v3 d_) (v3.length - k) s=Vh v3 d_) ?_ ?_ ⟨ds0 v3 d_,by dsimp only;rw[a3,show g1.1.toNat=d_.length by omega];rfl,a4,aip _ _,rfl⟩
  ·intro k2 dR g2 hk ⟨s,e1,e2,e3,e5⟩ ih2;have hal:g2.1.length=v3.length:=by rw[<- aeJ,e1,Vi,e3.al]
   have hll:g2.2.length=v3.length:=by rw[e2,e3.ll]
   unfold EF;have hi:v3.length - 1 - k2<v3.length:=by omega
   have hsi:=vs _ hi;have hk1:v3.length - k2=(v3.length - 1 - k2)+1:=by omega
   have hk2:v3.length - (k2+1)=v3.length - 1 - k2:=by omega
   rw[hk1,acr]at e5;generalize hii:v3.length - 1 - k2=i at *;rw[show((i:Nat):Int).toNat=i from rfl];refine aK om ?_;apply bL<;>intro c2
   ·rw[adp c2,agH c2]at e5;exact ih2 _ ⟨s,e1,e2,e3,by rw[hk2];exact e5⟩
   have hu:(jK v3 d_).getD i false=true:=by simpa using c2
   refine aK om ?_;rw[ZN,e1,Fh];refine aG (Y0 om (va _ hi)) λ v6 hv6=>?_;subst hv6;dsimp only;rw[show lvN (v3.getD i aD).bY (s.a.getD i aa8).TK=FX v3 i s from rfl];apply bL<;>intro c3
   ·have hf:JK v3 (jK v3 d_) i s=true:=by unfold JK;rw[hu];exact c3
    rw[hf]at e5;exact ay (by dsimp only;rw[<- e5];dsimp only [cond_true];rw[e2])
   have hf:JK v3 (jK v3 d_) i s=false:=by unfold JK;rw[hu];exact c3
   rw[hf]at e5;have c3:=eu c3;have hlv:=aey (va _ hi) (FX v3 i s) om;refine aK om ?_;refine aK om ?_;rw[show((FX v3 i s:Nat):Int).toNat=FX v3 i s from rfl,show(v3.getD i aD).bY.getD (FX v3 i s) 0+(v3.getD i aD).gU=Cq v3 i s from rfl];refine aK (by unfold aC Cq;omega) ?_;refine aK (λ e=>by have e:=eu e;omega) ?_;have hok:=aez (u:=jK v3 d_) (i:=i) e3;have hdl:(Fg v3 (jK v3 d_) i s).lv=s.lv.set i (FX v3 i s:Int):=by unfold Fg;rw[hu];rfl
   rw[ZN,e1];apply bL<;>intro c4
   ·have sW:=c4;have c4:=eu c4;refine aK om ?_;refine ih2 _ ⟨Fg v3 (jK v3 d_) i s,?_,by dsimp only;rw[hdl,e2],hok,by rw[hk2];exact e5⟩;dsimp only;rw[ajz,e1,<- agG hu (decide_eq_true c4.1),if_pos c4.2]
   refine ih2 _ ⟨Fg v3 (jK v3 d_) i s,?_,by dsimp only;rw[hdl,e2],hok,by rw[hk2];exact e5⟩;dsimp only;rw[e1];rw[Fh]at c4;unfold Fg;rw[hu,c4];rfl
  intro g2 ⟨s,e1,e2,e3,e5⟩;rw[Nat.sub_self,acr]at e5;unfold ED;exact ay (by dsimp only;rw[<- e5,e2])
 dsimp only;rw[hv1];show _=Cr (List.replicate l_.length (⟨0,-1,-1⟩:Dem));unfold Cr;rw[List.map_replicate]
open Sp in
def Y1 (h1:l_.length<=2000000) (h2:d_.length<=2000000):W (DK l_ d_) (λ r=>r=mV l_ d_):=by
 unfold DK;refine aG (P:=λ v=>v=sZ l_ d_) ?_ λ v1 hv1=>?_
 ·unfold KH;refine aG (yD h1) λ v1 hv1=>?_;subst hv1;refine bL (λ c1=>ay (by unfold sZ;rw[c1];rfl)) (λ c1=>?_);refine aG (PU h1 h2) λ v2 hv2=>?_;subst hv2;exact bL (λ c2=>ay (by unfold sZ;rw[c1,c2];rfl)) (λ c2=>ay (by unfold sZ;rw[c1,c2];rfl))
 subst hv1;refine bL (λ c1=>ay (by unfold mV;rw[c1];rfl)) (λ c1=>?_);have hdr:=agx (show sZ l_ d_=0 by simpa using c1);have hv:=aew hdr;have hl:=hv.len;refine aG (Vu hv) λ v2 hv2=>?_;refine aG (Ig hv) λ v3 hv3=>?_;subst hv3;have hll:v2.2.1.length<=2000000:=by
  rw[hv2];have:=akD (u:=jK l_ d_) (DOk l_) (λ i s _ h=>aez h) l_.length (ds0 l_ d_) (Nat.le_refl _) (aip _ _);have:=this.ll;unfold Vh;dsimp only;omega
 refine aG (uq λ _=>PV h1 h2 hll) λ v4 hv4=>?_;rw[hv2]at hv4 ⊢;dsimp only at hv4 ⊢;cases q:decide ((0:Int)<=(Vh l_ d_).2)with
 | true=>exact bL (λ _=>ay (by unfold mV;rw[c1,q];rfl)) (λ c=>by cases c)
 | false=>
  rw[hv4 q];exact bL (λ c=>ay (by unfold mV;rw[c1,q,c];rfl)) (λ c=>ay (by unfold mV;rw[c1,q,c];rfl))
end Go.Proofs.YtccjmcmolnbiiaaGreatDoor
namespace Go.Proofs.YtccjmcmolnbiiaaGreatDoor
open Go.Ab
set_option maxRecDepth 100000
def Low (C:ag9->Prop) (ls:ag8) (s:ag9):Prop:=∀t:ag9,C t->(∀x∈ls,t.getD x.toNat false=true)->∀i:Nat,s.getD i false=true->t.getD i false=true
structure Lst (n:Nat) (C:ag9->Prop) (ls:ag8) (s:ag9):Prop where
 ln:s.length=n
 cl:C s
 mm:∀x∈ls,s.getD x.toNat false=true
 lo:Low C ls s
variable {C:ag9->Prop} {ls:ag8} {s:ag9}
def Lst.uniq {n:Nat} {ls':ag8} {s':ag9} (h:Lst n C ls s) (h':Lst n C ls' s') (hm:∀x,x∈ls↔x∈ls'):s=s':=by
 refine Sp.Fb false (by rw[h.ln,h'.ln]) λ k _=>Bool.eq_iff_iff.2 ⟨h.lo s' h'.cl (λ x hx=>h'.mm x ((hm x).1 hx)) k,h'.lo s h.cl (λ x hx=>h.mm x ((hm x).2 hx)) k⟩
def ZO {n:Nat}:Low C ls (List.replicate n false):=λ t _ _ i h=>by rw[Sp.nP]at h;cases h
variable {b:Bool}
def vF {a:Nat} (h:Low C ls s) (hb:b=true->∀t:ag9,C t->(∀x∈ls,t.getD x.toNat false=true)->t.getD a false=true):Low C ls (s.set a b):=λ t h1 h2 i hi=>by
 by_cases e:i=a
 ·subst e;by_cases q:i<s.length
  ·rw[qm q]at hi;exact hb hi t h1 h2
  rw[List.set_eq_of_length_le om]at hi;exact h t h1 h2 i hi
 rw[kW e]at hi;exact h t h1 h2 i hi
def Yr {i j:Nat} (hb:s.getD i false=true->b=true) (h:s.getD j false=true):(s.set i b).getD j false=true:=by
 by_cases e:j=i
 ·subst e;by_cases q:j<s.length
  ·rw[qm q];exact hb h
  rw[List.set_eq_of_length_le om];exact h
 rw[kW e];exact h
def ar9 {a:Bool} (h:a=true):(a||b)=true:=by rw[h];rfl
def Y2 {l_:ajB} {eX:ag8} (h1:am6 l_) (h2:∀g∈l_,g.eG.length<=2000000) (h3:eX.length<=100000000000) (h4:∀x∈eX,0<=x/\x<l_.length):W (DL l_ eX) (Lst l_.length (abl l_) eX):=by
 obtain⟨p1,p2⟩:=h1;unfold DL;refine wn<|bK (λ g1:Int×ag9=>0<=g1.1/\g1.2.length=l_.length/\(∀j:Nat,(j:Int)<g1.1->g1.2.getD (eX.getD j 0).toNat false=true)/\Low (abl l_) eX g1.2) (λ g1=>(eX.length - g1.1).toNat) ?_ ⟨ob,by simp,λ j hj=>by(try dsimp only at hj);omega,ZO⟩;intro aj g1 ⟨a1,a2,a3,a4⟩ ih1;unfold LW;refine wi ?_ ?_<;>intro c
 ·have hm:=getD_in (l:=eX) (i:=g1.1.toNat) 0 om;have hx:=h4 _ hm;refine wm<|wn ?_;refine ih1 _ ⟨ob,by dsimp only;rw[List.length_set];exact a2,λ j hj=>He ?_ om,vF a4 λ _ t _ ht=>ht _ hm⟩ ob;by_cases q:(j:Int)<g1.1
  ·exact .inl (a3 j q)
  have e:j=g1.1.toNat:=by(try dsimp only at hj);omega
  subst e;exact .inr rfl
 have hmm:∀x∈eX,g1.2.getD x.toNat false=true:=jT 0 λ j hj=>a3 j om;refine wn<|bK (λ g2:Int×ag9 => -1<=g2.1/\g2.1<l_.length/\g2.2.length=l_.length/\(∀x∈eX,g2.2.getD x.toNat false=true)/\Low (abl l_) eX g2.2/\(∀i:Nat,g2.1<(i:Int)->(i:Int)<l_.length->g2.2.getD i false=true->∀x∈(l_.getD i dJ).eG,g2.2.getD x.toNat false=true)) (λ g2=>(g2.1+1).toNat) ?_ ⟨ob,ob,a2,hmm,a4,λ i h1 h2=>by(try dsimp only at h1);omega⟩;intro dR g2 ⟨b1,b2,b3,b4,b5,b6⟩ ih2;unfold LV;refine wi ?_ ?_<;>intro c2
 ·refine wn ?_;have hal:=h2 _ (getD_in (i:=g2.1.toNat) dJ om);have haf:=p2 g2.1.toNat om;refine bK (λ g5:Int×ag9=>0<=g5.1/\g5.2.length=l_.length/\(∀x∈eX,g5.2.getD x.toNat false=true)/\Low (abl l_) eX g5.2/\(∀i:Nat,g2.1<(i:Int)->(i:Int)<l_.length->g5.2.getD i false=true->∀x∈(l_.getD i dJ).eG,g5.2.getD x.toNat false=true)/\(∀k:Nat,(k:Int)<g5.1->g5.2.getD g2.1.toNat false=true->g5.2.getD (((l_.getD g2.1.toNat dJ).eG).getD k 0).toNat false=true)) (λ g5=>((l_.getD g2.1.toNat dJ).eG.length - g5.1).toNat) ?_ ⟨ob,b3,b4,b5,b6,λ k hk=>by(try dsimp only at hk);omega⟩;intro kr g5 ⟨d1,d2,d3,d4,d5,d6⟩ ih5;unfold Je;refine wi ?_ ?_<;>intro c3
  ·have hxm:=getD_in (l:=(l_.getD g2.1.toNat dJ).eG) (i:=g5.1.toNat) 0 om;have hx:=haf _ hxm;refine wm<|aK (λ _=>by omega) ?_;refine wm<|ih5 _ ⟨ob,by dsimp only;rw[List.length_set];exact d2,λ x hx2=>Yr ar9 (d3 x hx2),vF d4 λ hb t h1 h2=>?_,λ i h3 h4 h5 x hx2=>?_,λ k hk h5=>?_⟩ ob
   ·rcases Bool.or_eq_true_iff.1 hb with hb | hb
    ·exact d4 t h1 h2 _ hb
    exact h1 g2.1.toNat om (d4 t h1 h2 _ hb) _ hxm
   ·rw[kW om]at h5;exact Yr ar9 (d5 i h3 h4 h5 x hx2)
   rw[kW om]at h5;by_cases q:(k:Int)<g5.1
   ·exact Yr ar9 (d6 k q h5)
   have e:k=g5.1.toNat:=by(try dsimp only at hk);omega
   subst e;rw[qm om,h5,Bool.or_true]
  refine wn<|ih2 _ ⟨ob,ob,d2,d3,d4,λ i h3 h4 h5=>?_⟩ ob;by_cases q:g2.1<(i:Int)
  ·exact d5 i q h4 h5
  have e:i=g2.1.toNat:=by(try dsimp only at h3);omega
  subst e;exact jT 0 λ k hk=>d6 k om h5
 exact ay ⟨b3,λ i hi=>b6 i om hi,b4,b5⟩
def Y3 {l_:ajB} {eX:ag8} (h1:RsA l_ 0) (h2:∀g∈l_,g.eG.length<=2000000) (h3:eX.length<=100000000000) (h4:∀x∈eX,0<=x/\x<l_.length):W (DN l_ eX) (λ r=>Lst l_.length (abl l_) eX r.1):=by
 unfold DN;refine aG (Fu h2) λ v1 hv1=>?_;have e1:=RsA.fun _ _ hv1 h1;subst e1;refine bL (λ c1=>by cases c1) (λ _=>?_);refine bK (λ g1:Int=>0<=g1) (λ g1=>(eX.length - g1).toNat) ?_ (Int.le_refl _);intro aj g1 a1 ih1;unfold LX;apply bL<;>intro c
 ·have c:=eu c;have hx:=h4 _ (getD_in (i:=g1.toNat) 0 om);refine wn<|bL (λ c2=>by have c2:=eu c2;omega) (λ c2=>?_);refine wn ?_;exact ih1 _ om om
 exact aG (Y2 h1.ok h2 h3 h4) λ v2 hv2=>ay hv2
def Vv {l_:ajk} {eU:ag8} (h1:DmA l_ 0) (h3:eU.length<=100000000000) (h4:∀x∈eU,0<=x/\x<l_.length):W (xS l_ eU) (λ r=>r=0):=by
 unfold xS;refine aG Cw λ v1 hv1=>?_;have e1:=DmA.fun _ _ hv1 h1;subst e1;refine bL (λ c1=>by cases c1) (λ _=>?_);refine bK (λ g1:Int=>0<=g1) (λ g1=>(eU.length - g1).toNat) ?_ (Int.le_refl _);intro aj g1 a1 ih1;unfold Gm;refine bL (λ c=>?_) (λ c=>ay rfl);have c:=eu c;have hx:=h4 _ (getD_in (i:=g1.toNat) 0 om);refine wn<|bL (λ c2=>by have c2:=eu c2;omega) (λ c2=>?_);refine wn ?_;exact ih1 _ om om
variable {k:Nat}
def anE {l:ajk} {g:Nat} (hg:g<s.length) (hb1:s.getD g false=true->b=true) (hb2:(l.getD g dQ).gF=true->b=true) (hn:¬ (b=true/\0<=(l.getD g dQ).aW)) (h:k≠g->RgK l s k):RgK l (s.set g b) k:=by
 by_cases e:k=g
 ·subst e;refine⟨λ h1=>by rw[qm hg];exact hb2 h1,λ h1 h2=>?_⟩;rw[qm hg]at h1;exact absurd ⟨h1,h2⟩ hn
 obtain⟨h1,h2⟩:=h e;refine⟨λ q=>by rw[kW e];exact h1 q,λ q1 q2=>?_⟩;rw[kW e]at q1;exact Yr hb1 (h2 q1 q2)
def aph {l:ajk} {g p:Nat} (hg:g<s.length) (hp:p<g) (e:(l.getD g dQ).aW.toNat=p) (hb1:s.getD g false=true->b=true) (hb:b=true) (hk:k≠p) (h:k≠g->RgK l s k):RgK l ((s.set g b).set p true) k:=by
 have hl:p<(s.set g b).length:=by rw[List.length_set];omega
 by_cases q:k=g
 ·subst q;refine⟨λ _=>by rw[kW hk,qm hg];exact hb,λ _ _=>?_⟩;rw[e];exact qm hl
 obtain⟨h1,h2⟩:=h q;refine⟨λ q1=>by rw[kW hk,kW q];exact h1 q1,λ q1 q2=>?_⟩;rw[kW hk,kW q]at q1;exact Yr (λ _=>rfl) (Yr hb1 (h2 q1 q2))
def aeK {l_:ajk} {eU:ag8} (h1:DmA l_ 0) (h3:eU.length<=2000000) (h4:∀x∈eU,0<=x/\x<l_.length):W (QJ l_ eU) (λ r=>Lst l_.length (agM l_) eU r.1):=by
 obtain⟨p1,p2⟩:=h1.ok;unfold QJ;refine aG (Vv h1 om h4) λ v1 hv1=>?_;subst hv1;refine bL (λ c1=>by cases c1) (λ _=>?_);refine wm<|bK (λ g1:Int×ag9 => -1<=g1.1/\g1.1<l_.length/\g1.2.length=l_.length/\(∀x∈eU,g1.1<x->g1.2.getD x.toNat false=true)/\Low (agM l_) eU g1.2/\∀k:Nat,g1.1<(k:Int)->(k:Int)<l_.length->RgK l_ g1.2 k) (λ g1=>(g1.1+1).toNat) ?_ ⟨ob,ob,by simp,λ x hx q=>by have:=h4 x hx;(try dsimp only at q);omega,ZO,λ k h1 h2=>by(try dsimp only at h1);omega⟩;intro aj g1 ⟨a1,a2,a3,a4,a5,a6⟩ ih1;unfold UQ;refine wi ?_ ?_<;>intro c
 ·have hp:=p2 g1.1.toNat om;refine wn<|aK (λ _=>by omega) ?_;refine aG (uq λ _=>yV (iK om)) λ v7 hv7=>?_;refine wn ?_;unfold KM;generalize hb:((g1.2.getD g1.1.toNat false||(l_.getD g1.1.toNat dQ).gF)||v7)=b;have hb1:g1.2.getD g1.1.toNat false=true->b=true:=λ e=>by rw[<- hb,e];rfl
  have hb2:(l_.getD g1.1.toNat dQ).gF=true->b=true:=λ e=>by rw[<- hb,e,Bool.or_true];rfl
  have hb3:g1.1∈eU->b=true:=λ e=>by
   cases q:(g1.2.getD g1.1.toNat false||(l_.getD g1.1.toNat dQ).gF)with
   | true=>rw[<- hb,q];rfl
   | false=>rw[<- hb,q,hv7 q,List.contains_iff_mem.2 e];rfl
  have hb4:b=true->∀t:ag9,agM l_ t->(∀x∈eU,t.getD x.toNat false=true)->t.getD g1.1.toNat false=true:=λ e t h1 h2=>by
   cases q:(g1.2.getD g1.1.toNat false||(l_.getD g1.1.toNat dQ).gF)with
   | true=>
    rcases Bool.or_eq_true_iff.1 q with q | q
    ·exact a5 t h1 h2 _ q
    exact h1.al _ om q
   | false=>
    rw[q,hv7 q]at hb;rw[<- hb]at e;exact h2 _ (List.contains_iff_mem.1 e)
  have hsl:(g1.2.set g1.1.toNat b).length=l_.length:=by rw[List.length_set];exact a3
  have hus:∀x∈eU,g1.1 - 1<x->(g1.2.set g1.1.toNat b).getD x.toNat false=true:=λ x hx q=>by
   by_cases e:x=g1.1
   ·subst e;rw[qm om];exact hb3 hx
   exact Yr hb1 (a4 x hx om)
  refine aK om ?_;refine aK (λ _=>by omega) ?_;apply bL<;>intro c2
  ·rw[qm om]at c2;have c2:=eu c2;refine wn<|aK om ?_;refine wn<|ih1 _ ⟨ob,ob,by dsimp only;rw[List.length_set];exact hsl,λ x hx q=>Yr (λ _=>rfl) (hus x hx q),vF (vF a5 hb4) λ _ t h1 h2=>h1.pa _ om (hb4 c2.1 t h1 h2) c2.2,λ k h1 h2=>?_⟩ ob;exact aph om om rfl hb1 c2.1 (by(try dsimp only at h1);omega) λ e=>a6 k (by(try dsimp only at h1);omega) h2
  rw[qm om]at c2;refine wn<|ih1 _ ⟨ob,ob,hsl,hus,vF a5 hb4,λ k h1 h2=>?_⟩ ob;exact anE om hb1 hb2 (λ q=>by rw[q.1,decide_eq_true q.2]at c2;cases c2) λ e=>a6 k (by(try dsimp only at h1);omega) h2
 exact ay ⟨a3,⟨λ i hi=>(a6 i om hi).1,λ i hi=>(a6 i om hi).2⟩,λ x hx=>a4 x hx (by have:=h4 x hx;omega),a5⟩
def jn {α:Type} (f:aH->List α) (l:aha) (ms:ag8):List α:=ms.flatMap λ m=>f (l.getD m.toNat aU)
variable {α:Type} {l:aha} {ms:ag8}
def Vw {f:aH->List α} {i:Nat} (h:i<ms.length):jn f l (ms.take (i+1))=jn f l (ms.take i)++f (l.getD (ms.getD i 0).toNat aU):=by
 unfold jn;rw[iq 0 h,List.flatMap_append,List.flatMap_cons,List.flatMap_nil,List.append_nil]
def abA {f:aH->List α} {c:Nat}:∀ {ms:ag8},(∀m∈ms,(f (l.getD m.toNat aU)).length<=c)->(jn f l ms).length<=c*ms.length:=by
 intro ms;induction ms with
 | nil=>intro _;exact Nat.zero_le _
 | cons m ms ih=>
  intro h;have h1:=h m List.mem_cons_self;have h2:=ih λ x hx=>h x (List.mem_cons_of_mem _ hx);unfold jn at h2 ⊢;rw[List.flatMap_cons,List.length_append,List.length_cons,Nat.mul_succ];omega
def jnR {α:Type} (f:aH->List α) (l:aha) (ms:ag8):List α:=ms.flatMap λ m=>bif(decide ((0:Int)<=m))&&(decide (m<(l.length:Int)))then f (l.getD m.toNat aU)else[]
def agQ {f:aH->List α} {i:Nat} (h:i<ms.length):jnR f l (ms.take (i+1))=jnR f l (ms.take i)++bif(decide ((0:Int)<=ms.getD i 0))&&(decide (ms.getD i 0<(l.length:Int)))then f (l.getD (ms.getD i 0).toNat aU)else[]:=by
 unfold jnR;rw[iq 0 h,List.flatMap_append,List.flatMap_cons,List.flatMap_nil,List.append_nil]
def ajA {f:aH->List α} {c:Nat} (h:∀x∈l,(f x).length<=c):∀ {ms:ag8},(jnR f l ms).length<=c*ms.length:=by
 intro ms;induction ms with
 | nil=>exact Nat.zero_le _
 | cons m ms ih=>
  unfold jnR at ih ⊢;rw[List.flatMap_cons,List.length_append,List.length_cons,Nat.mul_succ];cases q:(decide ((0:Int)<=m))&&(decide (m<(l.length:Int)))with
  | false=>simp only[cond_false,List.length_nil];omega
  | true=>
   rw[Bool.and_eq_true,decide_eq_true_eq,decide_eq_true_eq]at q;have:=h _ (getD_in (i:=m.toNat) aU om);simp only[cond_true];omega
def anF {f:aH->List α} (h:∀m∈ms,0<=m/\m<l.length):jnR f l ms=jn f l ms:=by
 induction ms with
 | nil=>rfl
 | cons m ms ih=>
  have h1:=h m List.mem_cons_self;have h2:=ih λ x hx=>h x (List.mem_cons_of_mem _ hx);unfold jnR jn at h2 ⊢;rw[List.flatMap_cons,List.flatMap_cons,h2,decide_eq_true h1.1,decide_eq_true h1.2];rfl
def aeL {of:aH->M (List α)} {f:aH->List α} (hof:∀x,W (of x) (λ r=>r=f x)) (hf:∀x∈l,(f x).length<=2000000) (hm:ms.length<=10000) (hk:k<=64):W (dx (λ(self:Int×List α->M (List α)) g1=>
 bif(decide (g1.1<(ms.length:Int)))then
  need (0<=g1.1/\g1.1<(ms.length:Int))<|
  bif((decide ((0:Int)<=(ms.getD g1.1.toNat 0)))&&(decide ((ms.getD g1.1.toNat 0)<(l.length:Int))))then
   need (0<=(ms.getD g1.1.toNat 0)/\(ms.getD g1.1.toNat 0)<(l.length:Int))<|
   bnd (of (l.getD ((ms.getD g1.1.toNat 0).toNat) aU)) λ v3=>
   need ((g1.2.length+v3.length)*k<=big)<|
   need (aC (g1.1+(1:Int)))<|
   self ((g1.1+(1:Int)),(g1.2++v3))
  else
   need (aC (g1.1+(1:Int)))<|
   self ((g1.1+(1:Int)),g1.2)
 else
  ret g1.2) ((0:Int),([]:List α))) (λ r=>r=jnR f l ms):=by
 refine bK (λ g1:Int×List α=>0<=g1.1/\g1.1<=ms.length/\g1.2=jnR f l (ms.take g1.1.toNat)) (λ g1=>(ms.length - g1.1).toNat) ?_ ⟨ob,ob,rfl⟩;intro self g1 ⟨h1,h2,h3⟩ ih;refine wi ?_ ?_<;>intro c
 ·have hl:=ajA (ms:=ms.take g1.1.toNat) hf;rw[<- h3,List.length_take]at hl;refine wn ?_;have hj:=agQ (f:=f) (l:=l) (ms:=ms) (i:=g1.1.toNat) om;apply bL<;>intro c2
  ·rw[c2]at hj;rw[Bool.and_eq_true,decide_eq_true_eq,decide_eq_true_eq]at c2;refine aK c2 ?_;refine aG (hof _) λ v hv=>?_;have hv2:=hf _ (getD_in (i:=(ms.getD g1.1.toNat 0).toNat) aU om);rw[<- hv]at hv2;have hb:(g1.2.length+v.length)*k<=(g1.2.length+v.length)*64:=Nat.mul_le_mul_left _ hk;refine aK (by unfold big;omega) ?_;refine wn ?_;exact ih _ ⟨ob,ob,by dsimp only;rw[show(g1.1+1).toNat=g1.1.toNat+1 by omega,hj,h3,hv];rfl⟩ ob
  rw[c2]at hj;exact aK ob (ih _ ⟨ob,ob,by dsimp only;rw[show(g1.1+1).toNat=g1.1.toNat+1 by omega,hj,h3];exact(List.append_nil _).symm⟩ ob)
 exact ay (by rw[h3,List.take_of_length_le om])
def Vx {of:aH->M (List α)} {f:aH->List α} (hof:∀x,W (of x) (λ r=>r=f x)) (hf:∀x∈l,(f x).length<=2000000) (hin:∀m∈ms,0<=m/\m<l.length) (hm:ms.length<=10000) (hk:k<=64):W (dx (λ(self:Int×List α->M (List α)) g1=>
 bif(decide (g1.1<(ms.length:Int)))then
  need (0<=g1.1/\g1.1<(ms.length:Int))<|
  bif((decide ((0:Int)<=(ms.getD g1.1.toNat 0)))&&(decide ((ms.getD g1.1.toNat 0)<(l.length:Int))))then
   need (0<=(ms.getD g1.1.toNat 0)/\(ms.getD g1.1.toNat 0)<(l.length:Int))<|
   bnd (of (l.getD ((ms.getD g1.1.toNat 0).toNat) aU)) λ v3=>
   need ((g1.2.length+v3.length)*k<=big)<|
   need (aC (g1.1+(1:Int)))<|
   self ((g1.1+(1:Int)),(g1.2++v3))
  else
   need (aC (g1.1+(1:Int)))<|
   self ((g1.1+(1:Int)),g1.2)
 else
  ret g1.2) ((0:Int),([]:List α))) (λ r=>r=jn f l ms):=
 zG (aeL hof hf hm hk) λ _ h=>h.trans (anF hin)
def usF (n:aH):ag8:=bif decide (n.fO<0)then[]else[n.fO]
def aeM (n:aH):(usF n).length<=1:=by
 unfold usF;cases decide (n.fO<0)<;>simp
structure AgA (b:aM) (l:aha) (ms:ag8) (us:aiX) (x:aO):Prop where
 st:aeI b.bS (jn aH.bG l ms) x.bM
 ra:Sp.mV b.bF (jn aH.d9 l ms)=(x.dB,0)
 us:x.dK=BJ ms us
 re:Lst b.aZ.length (abl b.aZ) (jn aH.aZ l ms) x.bV
 po:Lst b.dz.length (agM b.dz) (jn usF l ms) x.dH
structure azX (b:aM) (l:aha) (ms:ag8):Prop where
 df:yH l ms
 ml:ms.length<=6
 ft:∃t,VS b.bS t/\gD b.bS t (jn aH.bG l ms)=true
 le:(Sp.mV b.bF (jn aH.d9 l ms)).2=0
 fc:(jn aH.ak l ms).length<=10
def abB (h:yH l ms):∀m∈ms,0<=m/\m<l.length:=jT 0 λ j hj=>(h j om).1
def abC (h:yH l ms) {m:Int} (hm:m∈ms):l.getD m.toNat aU∈l:=getD_in aU (by have:=abB h m hm;omega)
def ZP {b:aM} (h:ku b l 0):uI b.aT 0/\RsA b.aZ 0/\DmA b.dz 0:=by
 obtain⟨h1,_⟩:=Qa h;obtain⟨_,h3⟩:=Qa h1;obtain⟨_,h4⟩:=Qa h3;obtain⟨b3,h5⟩:=Qa h4;exact⟨b3,Qa h5⟩
def abD {f:aH->List α} (hf:∀x∈l,(f x).length<=2000000) (hm:ms.length<=10000) (hk:k<=64):W (dx (λ(self:Int×List α->M (List α)) g1=>
 bif(decide (g1.1<(ms.length:Int)))then
  need (0<=g1.1/\g1.1<(ms.length:Int))<|
  bif((decide ((0:Int)<=(ms.getD g1.1.toNat 0)))&&(decide ((ms.getD g1.1.toNat 0)<(l.length:Int))))then
   need (0<=(ms.getD g1.1.toNat 0)/\(ms.getD g1.1.toNat 0)<(l.length:Int))<|
   need ((g1.2.length+(f (l.getD ((ms.getD g1.1.toNat 0).toNat) aU)).length)*k<=big)<|
   need (aC (g1.1+(1:Int)))<|
   self ((g1.1+(1:Int)),(g1.2++f (l.getD ((ms.getD g1.1.toNat 0).toNat) aU)))
  else
   need (aC (g1.1+(1:Int)))<|
   self ((g1.1+(1:Int)),g1.2)
 else
  ret g1.2) ((0:Int),([]:List α))) (λ r=>r=jnR f l ms):=by
 refine bK (λ g1:Int×List α=>0<=g1.1/\g1.1<=ms.length/\g1.2=jnR f l (ms.take g1.1.toNat)) (λ g1=>(ms.length - g1.1).toNat) ?_ ⟨ob,ob,rfl⟩;intro self g1 ⟨h1,h2,h3⟩ ih;refine wi ?_ ?_<;>intro c
 ·have hl:=ajA (ms:=ms.take g1.1.toNat) hf;rw[<- h3,List.length_take]at hl;refine wn ?_;have hj:=agQ (f:=f) (l:=l) (ms:=ms) (i:=g1.1.toNat) om;apply bL<;>intro c2
  ·rw[c2]at hj;rw[Bool.and_eq_true,decide_eq_true_eq,decide_eq_true_eq]at c2;have hv2:=hf _ (getD_in (i:=(ms.getD g1.1.toNat 0).toNat) aU om);have hb:(g1.2.length+(f (l.getD ((ms.getD g1.1.toNat 0).toNat) aU)).length)*k<=(g1.2.length+(f (l.getD ((ms.getD g1.1.toNat 0).toNat) aU)).length)*64:=Nat.mul_le_mul_left _ hk;refine aK c2 ?_;refine aK (by unfold big;omega) ?_;refine wn ?_;exact ih _ ⟨ob,ob,by dsimp only;rw[show(g1.1+1).toNat=g1.1.toNat+1 by omega,hj,h3];rfl⟩ ob
  rw[c2]at hj;exact aK ob (ih _ ⟨ob,ob,by dsimp only;rw[show(g1.1+1).toNat=g1.1.toNat+1 by omega,hj,h3];exact(List.append_nil _).symm⟩ ob)
 exact ay (by rw[h3,List.take_of_length_le om])
def agR {f:aH->List α} (hf:∀x∈l,(f x).length<=2000000) (hin:∀m∈ms,0<=m/\m<l.length) (hm:ms.length<=10000) (hk:k<=64):W (dx (λ(self:Int×List α->M (List α)) g1=>
 bif(decide (g1.1<(ms.length:Int)))then
  need (0<=g1.1/\g1.1<(ms.length:Int))<|
  bif((decide ((0:Int)<=(ms.getD g1.1.toNat 0)))&&(decide ((ms.getD g1.1.toNat 0)<(l.length:Int))))then
   need (0<=(ms.getD g1.1.toNat 0)/\(ms.getD g1.1.toNat 0)<(l.length:Int))<|
   need ((g1.2.length+(f (l.getD ((ms.getD g1.1.toNat 0).toNat) aU)).length)*k<=big)<|
   need (aC (g1.1+(1:Int)))<|
   self ((g1.1+(1:Int)),(g1.2++f (l.getD ((ms.getD g1.1.toNat 0).toNat) aU)))
  else
   need (aC (g1.1+(1:Int)))<|
   self ((g1.1+(1:Int)),g1.2)
 else
  ret g1.2) ((0:Int),([]:List α))) (λ r=>r=jn f l ms):=
 zG (abD hf hm hk) λ _ h=>h.trans (anF hin)
def Qb {l_:ag8} {x_:Int} (h:l_.length<=2000000):W (Br l_ x_) (λ r=>r=l_.contains x_):=by
 unfold Br;refine bK (λ g1:Int=>0<=g1/\∀j:Nat,(j:Int)<g1->l_.getD j 0≠x_) (λ g1=>(l_.length - g1).toNat) ?_ ⟨ob,λ j hj=>by omega⟩;intro aj g1 ⟨a1,a2⟩ ih1;unfold Yd;refine wi ?_ ?_<;>intro c
 ·refine wn<|wi ?_ ?_<;>intro c2
  ·refine ay (List.contains_iff_mem.2 ?_).symm;rw[<- c2];exact getD_in 0 om
  exact aK ob (ih1 _ ⟨om,eH a2 a1 c2⟩ om)
 refine ay ?_;cases q:l_.contains x_ with
 | false=>rfl
 | true=>
  have:∀y∈l_,y≠x_:=jT 0 λ j hj=>a2 j om;exact absurd rfl (this _ (List.contains_iff_mem.1 q))
def FL (b:aM) (l:aha) (ms:ag8):Prop:=(∃t,VS b.bS t/\gD b.bS t (jn aH.bG l ms)=true)/\(Sp.mV b.bF (jn aH.d9 l ms)).2=0
def Vy {l_:aiX} {M_:ag8} (h1:l_.length<=2000000) (h2:M_.length<=10000):W (Jt l_ M_) (λ r=>r=BJ M_ l_):=by
 unfold Jt;refine bK (λ g1:Int×aiX=>0<=g1.1/\g1.1<=l_.length/\g1.2=BJ M_ (l_.take g1.1.toNat)) (λ g1=>(l_.length - g1.1).toNat) ?_ ⟨ob,ob,rfl⟩;intro aj g1 ⟨a1,a2,a3⟩ ih1;have hl:g1.2.length<=g1.1.toNat:=by
  rw[a3];unfold BJ;exact Nat.le_trans (List.length_filter_le _ _) (by rw[List.length_take];omega)
 unfold U1;refine wi ?_ ?_<;>intro c
 ·have hs:=uf (λ u:aR=>M_.contains u.iW) l_ bE (i:=g1.1.toNat) om;have e:(g1.1+1).toNat=g1.1.toNat+1:=by omega
  refine wn<|aG (Qb om) λ v8 xk=>?_;apply bL<;>intro c2
  ·rw[c2]at xk;refine aK (by unfold big;omega) ?_;refine wn<|ih1 _ ⟨ob,ob,?_⟩ ob;dsimp only;unfold BJ at a3 ⊢;rw[e,hs,<- a3,if_pos xk.symm]
  rw[c2]at xk;refine wn<|ih1 _ ⟨ob,ob,?_⟩ ob;dsimp only;unfold BJ at a3 ⊢;rw[e,hs,<- a3,if_neg (by rw[<- xk];exact Bool.false_ne_true),List.append_nil]
 exact ay (by rw[a3,List.take_of_length_le om])
def auo (b:aM) (l:ajc):Prop:=l.length<=1/\∀y∈l,agB b.bS.length y
def axW (b:aM) (l:ai8):Prop:=l.length<=1/\∀y∈l,am7 b.bF.length y
def axX (l:aiS):Prop:=l.length<=2/\∀y∈l,Ef y
def axY (b:aM) (l:ag8):Prop:=l.length<=100/\∀y∈l,0<=y/\y<b.aZ.length
def axZ (k:Int) (l:ag8):Prop:=l.length<=100/\(∀p∈l,0<=p/\p<k)/\ank l
structure NdG (b:aM) (k:Int) (x:aH):Prop where
 lm:auo b x.bG
 dw:axW b x.d9
 fw:axX x.ak
 rs:axY b x.aZ
 dm : -1<=x.fO/\x.fO<b.dz.length
 pr:axZ k x.aY
def abE {b_:aM} {l_:aiX} (h1:∀u∈l_,PW b_.aT u.l7) (h2:l_.length<=2000000):W (Bv b_ l_) (λ r=>r=(l_.map (λ u=>nmU b_.aT u.l7),l_.map λ u=>u.l7.dF)):=by
 unfold Bv;refine bK (λ g1:Int×aiS×ag8=>0<=g1.1/\g1.1<=l_.length/\g1.2.1=(l_.take g1.1.toNat).map (λ u=>nmU b_.aT u.l7)/\g1.2.2=(l_.take g1.1.toNat).map λ u=>u.l7.dF) (λ g1=>(l_.length - g1.1).toNat) ?_ ⟨ob,ob,rfl,rfl⟩;intro aj g1 ⟨a1,a2,a3,a4⟩ ih1;have l1:g1.2.1.length<=l_.length:=by rw[a3,List.length_map,List.length_take];omega
 have l2:g1.2.2.length<=l_.length:=by rw[a4,List.length_map,List.length_take];omega
 unfold Pp;refine wi ?_ ?_<;>intro c
 ·have e:(g1.1+1).toNat=g1.1.toNat+1:=by omega
  obtain⟨u1,u2,u3,u4⟩:=h1 _ (getD_in (i:=g1.1.toNat) bE om);refine wn<|aK om ?_;refine aK om ?_;refine aK (by unfold big;omega) ?_;refine aK (by unfold big;omega) ?_;refine wn<|ih1 _ ⟨ob,ob,?_,?_⟩ ob
  ·dsimp only;rw[e,qQ _ _ bE om,a3];rfl
  dsimp only;rw[e,qQ _ _ bE om,a4]
 exact ay (by rw[a3,a4,List.take_of_length_le om])
def aeN {p:bg} {us:aiX} {fs:aiS} (h:TS p (us.map aR.l7)):abk p (us.map (λ u=>nmU p u.l7)++fs) (us.map λ u=>u.l7.dF):=by
 refine⟨λ x hx=>?_,λ k hk=>?_,λ k j hj hk=>?_⟩
 ·obtain⟨u,hu,rfl⟩:=List.mem_map.1 hx;obtain⟨u1,u2,_,_⟩:=Q8 h u hu;exact⟨u1,u2⟩
 ·rw[List.length_map]at hk;have hk:k<us.length:=by omega
  obtain⟨u1,u2,u3,u4⟩:=Q8 h _ (getD_in (i:=k) bE hk);rw[mI ByteArray.empty (by rw[List.length_map];exact hk),JQ (d:=bE) hk,JQ (d:=bE) hk];exact⟨(us.getD k bE).l7.gL.toNat,om,rfl⟩
 rw[List.length_map]at hk;have hk:k<us.length:=by omega
 have:=(h k (by rw[List.length_map];omega)).2.2 j hj;rw[JQ (d:=bE) hk,JQ (d:=bE) om]at this ⊢;exact λ a c ha hc=>this a c ha hc
def FnU (b:aM) (l:aha) (ms:ag8) (us:aiX):Prop:=∀i∈ms,∀f:ByteArray,cntF (l.getD i.toNat aU).ak f<=abu b.aT us i f
structure UsI (b:aM) (l:aha) (ms:ag8) (us:aiX):Prop where
 dv:∀u∈us,u.iW∈ms
 ow:TS b.aT (us.map aR.l7)
 fn:FnU b l ms us
 df:yH l ms
 fl:ms≠[]->FL b l ms
end Go.Proofs.YtccjmcmolnbiiaaGreatDoor

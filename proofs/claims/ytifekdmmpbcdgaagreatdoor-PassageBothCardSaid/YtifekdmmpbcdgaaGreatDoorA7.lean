/- A part of the proof. -/
import Derived.Test.YtifekdmmpbcdgaaGreatDoorA6
import Derived.Test.YtifekdmmpbcdgaaGreatDoorA4
import Derived.Test.YtifekdmmpbcdgaaGreatDoorA5
set_option linter.unusedVariables false
set_option linter.unusedSimpArgs false
set_option maxHeartbeats 4000000
namespace Go.Proofs.YtifekdmmpbcdgaaGreatDoor
open Go.Ab
set_option maxRecDepth 100000
theorem ahj {α:Type} {l:List α} {j:Nat} {v d:α} (hj:j<l.length):(l.set j v).getD j d=v:=by
 rw [List.getD_eq_getElem?_getD,List.getElem?_set_self hj]; rfl
theorem ahk {α:Type} {l:List α} {i j:Nat} {v d:α} (h:i≠j):(l.set j v).getD i d=l.getD i d:=by
 rw [List.getD_eq_getElem?_getD,List.getElem?_set_ne (Ne.symm h),← List.getD_eq_getElem?_getD]
theorem acX {r:bK} (h:r.jS≠0):oO r=false:=by
 unfold oO;rw [show (r.jS==0)=false by simpa using h]; rfl
theorem ZI {r:bK} {lo hi:Int} (hv:nR r=true) (h1:lo*r.jv≤r.jS) (h2:r.jS≤hi*r.jv):r9 r lo hi=true:=by
 unfold r9;obtain ⟨n0,_,d1,_,_⟩:=lV hv;have e:=Int.mul_tdiv_add_tmod r.jS r.jv;have m0:=Int.tmod_nonneg r.jv n0;have m1:=Int.tmod_lt_of_pos r.jS (show 0<r.jv by omega);have e2:r.jv*r.jS.tdiv r.jv=r.jS.tdiv r.jv*r.jv:=Int.mul_comm _ _;simp only [Bool.and_eq_true,Bool.or_eq_true,decide_eq_true_eq,beq_iff_eq];have q1:lo≤r.jS.tdiv r.jv:=by
  refine Int.not_lt.1 λ h=>?_;have:(r.jS.tdiv r.jv+1)*r.jv≤lo*r.jv:=Int.mul_le_mul_of_nonneg_right h om;rw [Int.add_mul,Int.one_mul] at this;omega
 have q2:r.jS.tdiv r.jv≤hi:=by
  refine Int.not_lt.1 λ h=>?_;have:(hi+1)*r.jv≤r.jS.tdiv r.jv*r.jv:=Int.mul_le_mul_of_nonneg_right h om;rw [Int.add_mul,Int.one_mul] at this;omega
 refine ⟨hv,q1,?_⟩;by_cases q:r.jS.tdiv r.jv<hi
 ·exact .inl q
 ·have:r.jS.tdiv r.jv=hi:=by omega
  refine .inr ⟨this,?_⟩;rw [this] at e e2;omega
variable {l:List ay} {s:List Int}
theorem PW (h:gV l s []=true):eG l=0∧kg l s=true∧ownB l (gy l s)=true:=by
 unfold gV at h;simp only [Bool.and_eq_true] at h;exact ⟨(Ol h.1.1).1,h.1.2,h.2.1⟩
def ala (r:bK) (x:aX) (bt:Bool):Prop:=r.jS≠0∧r.jS≤x.fJ*r.jv∧(bt=false→x.Low*r.jv≤r.jS)
theorem abx {k lo hi:Int} (h:gV l s []=true) (k0:0≤k) (k1:k<l.length) (h0:0≤lo) (h1:lo≤hi) (h2:hi≤4000000000):
  gV l s [⟨k,lo,hi⟩]=true↔((gy l s).getD k.toNat dW).jS≠0∧((gy l s).getD k.toNat dW).jS≤hi*((gy l s).getD k.toNat dW).jv∧lo*((gy l s).getD k.toNat dW).jv≤((gy l s).getD k.toNat dW).jS:=by
 obtain ⟨c1,c2,c3⟩:=PW h;have hv:=(Kh (qy c1) c2 k.toNat om).2.2.1;have hb:Ka (l.length:Int) ⟨k,lo,hi⟩=false:=by
  unfold Ka dP;simp only [Bool.or_eq_false_iff,Bool.not_eq_false',Bool.and_eq_true,decide_eq_true_eq];omega
 have hl:nK l [⟨k,lo,hi⟩]=true:=by
  unfold nK;rw [c1,show List.any [(⟨k,lo,hi⟩:aX)] (Ka l.length)=false by rw [List.any_cons,hb]; rfl]; rfl
 unfold gV;rw [hl,c2,c3];simp only [Bool.true_and,List.any_cons,List.any_nil,Bool.or_false,Bool.not_eq_true'];unfold TQ;dsimp only;constructor
 ·intro e;rw [Bool.or_eq_false_iff,Bool.not_eq_false'] at e;obtain ⟨w1,w2⟩:=agn e.2;exact ⟨abw hv e.1,w2,w1⟩
 ·rintro ⟨a1,a2,a3⟩;rw [acX a1,ZI hv a3 a2]; rfl
def alb (b:aY) (g:aR) (n:aS) (bt:Bool):Prop:=∀j:Nat,(j:Int)<n.bT.length→ala ((gy b.bS g.Setting).getD (n.bT.getD j dK).eU.toNat dW) (n.bT.getD j dK) bt
def alc (b:aY) (g:aR) (n:aS) (d:Int):Prop:=∀f:ByteArray,cntF n.ak f≤acW b.aZ g.Uses d f
def am4 (g:aR) (n:aS):Prop:=∀j:Nat,(j:Int)<n.bA.length→g.Released.getD (n.bA.getD j 0).toNat false=true
def am5 (g:aR) (n:aS):Prop:=0≤n.gM→g.cO.getD n.gM.toNat false=true
def drM (l:List aS) (ms:List Int):List bU:=ms.flatMap λ m=>(l.getD m.toNat bG).fI
theorem kT {b:Bool} {P:Prop} (h:b=true↔P) (c:b=false):¬P:=λ p=>by rw [h.2 p] at c; cases c
theorem ZJ {p_:bP} {l_:List oq} (h1:∀g∈p_.aH,g.bZ.length≤2000000∧g.ak.length≤2000000) (h2:l_.length≤2000000):W (FE p_ l_) (λ r=>(r.2=0↔Hr p_ 0∧Uj p_ l_)):=by
 unfold FE;refine aG (ZG ob ob) λ v1 hv1=>?_;refine wi ?_ ?_<;>intro c1
 ·exact au (⟨λ e=>absurd e c1,λ h=>absurd (hv1.2 h) c1⟩)
 ·obtain ⟨p1,_,_⟩:=(hv1.1 c1).1.v.ok;unfold D5;refine wn<|aG (Mf (by simp only [List.length_map,List.length_range]; omega) om) λ v2 hv2=>?_;subst v2;exact au (⟨λ _=>hv1.1 c1,λ _=>rfl⟩)
theorem XK {p_:bP} {l_:List oq} (h1:∀g∈p_.aH,g.bZ.length≤2000000∧g.ak.length≤2000000) (h2:l_.length≤2000000):W (Dh p_ l_) (λ r=>(r.2=0↔Hr p_ 0∧Uj p_ l_)):=by
 unfold Dh;refine aG (EG h1) λ v1 hv1=>?_;refine wi ?_ ?_<;>intro c1
 ·refine au ?_;(refine ⟨λ e=>by (try dsimp only at e); omega,λ ⟨a,_⟩=>absurd (Hr.fun _ _ hv1 a) c1⟩)
 ·have hpa:Hr p_ 0:=(by rw [c1] at hv1; exact hv1);have hpv:=hpa.v;obtain ⟨⟨p1,p2,p3⟩,gr,nm⟩:=id hpv;refine wn<|bM (λ (g1:Int×List Int)=>0≤g1.1∧g1.2.length=p_.bZ.toNat∧(∀x:Nat,(x:Int)<g1.1→g1.2.getD x 0 = -1)) (λ (g1:Int×List Int)=>(p_.bZ - g1.1).toNat) ?_ ?_
  ·intro ah g1 eX cZ;obtain ⟨dX,bN,bQ⟩:=eX;unfold Lv;refine wi ?_ ?_<;>intro c2
   ·refine wm<|cZ _ ?_ ?_
    ·(refine ⟨ob,by simp only [List.length_set]; exact bN,λ x hx=>?_⟩; dsimp only at hx ⊢; by_cases q:x=g1.1.toNat; (rw [q,ahj om]); (rw [ahk q]; exact bQ x om))
    ·exact ob
   ·refine bM (λ (g2:Int×List Int)=>0≤g2.1∧g2.2.length=p_.bZ.toNat∧(∀x:Nat,(x:Int)<p_.bZ→(g2.2.getD x 0 ≠ -1↔∃j:Nat,(j:Int)<g2.1∧∃k:Nat,(k:Int)<(p_.aH.getD (l_.getD j gq).dz.toNat aJ).bZ.length∧(p_.aH.getD (l_.getD j gq).dz.toNat aJ).bZ.getD k 0=x))∧(∀i:Nat,(i:Int)<g2.1→apr p_ l_ i)) (λ (g2:Int×List Int)=>(l_.length - g2.1).toNat) ?_ ?_
    ·intro dY g2 mU qZ;obtain ⟨sj,jG,pK,Ue⟩:=mU;unfold Lu;refine wi ?_ ?_<;>intro c3
     ·refine wm<|wm ?_;refine wi ?_ ?_<;>intro c4
      ·refine au ?_;(refine ⟨λ e=>by (try dsimp only at e); omega,λ ⟨_,h⟩=>?_⟩; obtain ⟨⟨u1,u2,u3,u4⟩,_⟩:=h g2.1.toNat om; omega)
      ·have hu:Xd p_ (l_.getD g2.1.toNat gq):=⟨om,om,om,om⟩;obtain ⟨u1,u2,u3,u4⟩:=id hu;refine bM (λ (g7:Int)=>0≤g7∧(∀k:Nat,(k:Int)<g7→(l_.getD k gq).dz≠(l_.getD g2.1.toNat gq).dz)) (λ (g7:Int)=>(g2.1 - g7).toNat) ?_ ?_
       ·intro nA g7 XB Ua;obtain ⟨ZA,Cz⟩:=XB;unfold IU;refine wi ?_ ?_<;>intro c5
        ·refine wn<|wi ?_ ?_<;>intro c6
         ·refine au ?_;(refine ⟨λ e=>by (try dsimp only at e); omega,λ ⟨_,h⟩=>?_⟩; obtain ⟨_,hd,_⟩:=h g2.1.toNat om; exact absurd c6 (hd g7.toNat om))
         ·refine wn<|Ua _ ?_ ?_
          ·(refine ⟨ob,eO Cz ZA c6⟩)
          ·exact ob
        ·refine wn<|bM (λ (g8:Int×List Int)=>0≤g8.1∧g8.1≤(p_.aH.getD (l_.getD g2.1.toNat gq).dz.toNat aJ).bZ.length∧g8.2.length=p_.bZ.toNat∧(∀x:Nat,(x:Int)<p_.bZ→(g8.2.getD x 0 ≠ -1↔(∃j:Nat,(j:Int)<g2.1∧∃k:Nat,(k:Int)<(p_.aH.getD (l_.getD j gq).dz.toNat aJ).bZ.length∧(p_.aH.getD (l_.getD j gq).dz.toNat aJ).bZ.getD k 0=x)∨∃k:Nat,(k:Int)<g8.1∧(p_.aH.getD (l_.getD g2.1.toNat gq).dz.toNat aJ).bZ.getD k 0=x))∧(∀b:Nat,(b:Int)<g8.1→∀j:Nat,(j:Int)<g2.1→∀a:Nat,(a:Int)<(p_.aH.getD (l_.getD j gq).dz.toNat aJ).bZ.length→(p_.aH.getD (l_.getD j gq).dz.toNat aJ).bZ.getD a 0≠(p_.aH.getD (l_.getD g2.1.toNat gq).dz.toNat aJ).bZ.getD b 0)) (λ (g8:Int×List Int)=>((p_.aH.getD (l_.getD g2.1.toNat gq).dz.toNat aJ).bZ.length - g8.1).toNat) ?_ ?_
         ·intro Zh g8 apo apq;obtain ⟨anM,ak7,anS,ahl,anT⟩:=apo;unfold IQ;refine wi ?_ ?_<;>intro c7
          ·have hmg:=getD_in (l:=p_.aH) (i:=(l_.getD g2.1.toNat gq).dz.toNat) aJ om;have hgl:=(h1 _ hmg).1;have hpn:=(p3 _ hmg).pn _ (getD_in (i:=g8.1.toNat) 0 om);refine wm<|wi ?_ ?_<;>intro c8
           ·refine au ?_;(refine ⟨λ e=>by (try dsimp only at e); omega,λ ⟨_,h⟩=>?_⟩; obtain ⟨_,_,hd⟩:=h g2.1.toNat om; exfalso; rcases (ahl ((p_.aH.getD (l_.getD g2.1.toNat gq).dz.toNat aJ).bZ.getD g8.1.toNat 0).toNat om).1 c8 with ⟨j,e3,k,e5,e6⟩ | ⟨k,e5,e6⟩; (exact hd j om k g8.1.toNat e5 om (by rw [e6]; omega)); (have:=Ui hpv u1 u2 k g8.1.toNat om om; omega))
           ·refine wm<|apq _ ?_ ?_
            ·(refine ⟨ob,ob,by simp only [List.length_set]; exact anS,λ x hx=>?_,λ b hb j hj a ha=>?_⟩; (dsimp only; by_cases q:x=((p_.aH.getD (l_.getD g2.1.toNat gq).dz.toNat aJ).bZ.getD g8.1.toNat 0).toNat; (rw [q,ahj om]; constructor; (intro _; exact .inr ⟨g8.1.toNat,om,om⟩); (intro _; omega)); (rw [ahk q,ahl x hx]; constructor; (rintro (h | ⟨k,e5,e6⟩); (exact .inl h); (exact .inr ⟨k,om,e6⟩)); (rintro (h | ⟨k,e5,e6⟩); (exact .inl h); (refine .inr ⟨k,?_,e6⟩; by_cases e:(k:Int)<g8.1; (exact e); exfalso; apply q; rw [show g8.1.toNat=k by omega]; omega)))); (by_cases q:(b:Int)<g8.1; (exact anT b q j hj a ha); (have e:b=g8.1.toNat:=by (try dsimp only at hb); omega); subst e; intro e7; have e8:=(ahl ((p_.aH.getD (l_.getD g2.1.toNat gq).dz.toNat aJ).bZ.getD g8.1.toNat 0).toNat om).2 (.inl ⟨j,hj,a,ha,by rw [e7]; omega⟩); omega))
            ·exact ob
          ·refine wn<|qZ _ ?_ ?_
           ·(refine ⟨ob,anS,λ x hx=>?_,eO Ue sj ⟨hu,λ k hk e=>Cz k om e,λ k hk a b ha hb=>anT b om k om a ha⟩⟩; dsimp only; rw [ahl x hx]; constructor; (rintro (⟨j,e3,e⟩ | ⟨k,e5,e6⟩); (exact ⟨j,om,e⟩); (exact ⟨g2.1.toNat,om,k,om,e6⟩)); (rintro ⟨j,e3,k,e5,e6⟩; by_cases q:(j:Int)<g2.1; (exact .inl ⟨j,q,k,e5,e6⟩); (have e:j=g2.1.toNat:=by omega); subst e; exact .inr ⟨k,om,e6⟩))
           ·exact ob
         ·(refine ⟨ob,ob,ob,λ x hx=>⟨λ h=>.inl ((pK x hx).1 h),?_⟩,λ b hb=>?_⟩; (rintro (h | ⟨k,e5,_⟩); (exact (pK x hx).2 h); (exfalso; (try dsimp only at e5); omega)); (exfalso; (try dsimp only at hb); omega))
       ·(refine ⟨ob,λ j hj=>by (try dsimp only at hj); omega⟩)
     ·refine au ?_;(refine ⟨λ _=>⟨hpa,λ i hi=>Ue i om⟩,λ _=>rfl⟩)
    ·(refine ⟨ob,om,λ x hx=>⟨λ h=>?_,λ ⟨j,e,_⟩=>?_⟩,λ j hj=>?_⟩; (exact absurd (bQ x om) h); (exfalso; (try dsimp only at e); omega); (exfalso; (try dsimp only at hj); omega))
  ·(refine ⟨ob,by simp,λ x hx=>by dsimp only at hx; omega⟩)
theorem aaM {l_:List aP} (h1:l_.length≤2000000):W (J9 l_) (λ r=>r=l_.map aP.jd):=by
 unfold J9;refine bM (λ (g1:Int×List oq)=>0≤g1.1∧g1.1≤l_.length∧g1.2=(l_.take g1.1.toNat).map aP.jd) (λ (g1:Int×List oq)=>(l_.length - g1.1).toNat) ?_ ?_
 ·intro ah g1 eX cZ;obtain ⟨dX,bN,bQ⟩:=eX;unfold Rl;have hgl:g1.2.length=g1.1.toNat:=(by rw [bQ,List.length_map,List.length_take]; omega);refine wi ?_ ?_<;>intro c1
  ·refine wm<|wn ?_;refine cZ _ ?_ ?_
   ·(refine ⟨ob,ob,?_⟩; dsimp only; rw [show (g1.1+1).toNat=g1.1.toNat+1 by omega,iK bF om,List.map_append,bQ]; rfl)
   ·exact ob
  ·refine au ?_;(rw [bQ,show g1.1.toNat=l_.length by omega,List.take_length])
 ·(refine ⟨ob,ob,rfl⟩)
def fnG (l:List ByteArray) (j:Nat):ByteArray:=l.getD j ByteArray.empty
theorem ald {l:List ByteArray} {f:ByteArray} (h:0<cntF l f):∃j:Nat,(j:Int)<l.length∧fnG l j=f:=by
 unfold cntF at h;obtain ⟨x,hx,e⟩:=List.countP_pos_iff.1 h;obtain ⟨j,hj,rfl⟩:=List.mem_iff_getElem.1 hx;exact ⟨j,om,by unfold fnG; rw [List.getD_eq_getElem?_getD,List.getElem?_eq_getElem hj]; simpa using e⟩
theorem acY {l:List Int} {p:Int→Bool}:l.any p=false↔∀j:Nat,(j:Int)<l.length→p (l.getD j 0)=false:=by
 rw [List.any_eq_false];constructor
 ·intro h j hj;have:=h _ (getD_in (i:=j) 0 om);simpa using this
 ·intro h;have:∀x∈l,p x=false:=oQ 0 λ j hj=>h j om;intro x hx;rw [this x hx]; decide
variable {s_:gT}
theorem Mg (h1:acP s_):W (qg s_) (λ r=>r=gV s_.bO.bS s_.bB.Setting []):=by
 obtain ⟨⟨s1,s2,s3,s4,s5,s6,s7⟩,vl_,n1,n2,⟨n3,n4⟩,m1,⟨z1,z2,z3,z4,z5,z6⟩⟩:=h1;unfold qg;refine aG (aay ob ob ob ob) λ v1 hv1=>?_;subst v1;refine au ?_;rfl
theorem Mh (h1:acP s_) (h2:ais s_) (h3:gV s_.bO.bS s_.bB.Setting []=true):W (qh s_) (λ r=>r=true↔∀i:Nat,(i:Int)<s_.aU.length→alb s_.bO s_.bB (s_.dU.getD (s_.aU.getD i 0).toNat bG) s_.jV):=by
 obtain ⟨⟨s1,s2,s3,s4,s5,s6,s7⟩,vl_,n1,n2,⟨n3,n4⟩,m1,⟨z1,z2,z3,z4,z5,z6⟩⟩:=h1;obtain ⟨y1,y2,y3,y4,y5,y6⟩:=h2;obtain ⟨k1,k2,k3⟩:=PW h3;unfold qh;refine aG (Rq ob ob ob) λ v1 hv1=>?_;subst v1;refine bW ?_ ?_<;>intro c1
 ·have fV:=c1;have c1:=fq c1;exact au (absurd (ZH k1 k2) c1)
 ·have fV:=c1;have c1:=fq c1;obtain ⟨r1,r2,r3⟩:=aeH (by simpa using fV);have hrl:(wB s_.bO.bS s_.bB.Setting).1.length=s_.bO.bS.length:=(by rw [r3]; exact tH ..);refine bM (λ (g1:Int)=>0≤g1∧(∀i:Nat,(i:Int)<g1→alb s_.bO s_.bB (s_.dU.getD (s_.aU.getD i 0).toNat bG) s_.jV)) (λ (g1:Int)=>(s_.aU.length - g1).toNat) ?_ ?_
  ·intro ah g1 eX cZ;obtain ⟨dX,bN⟩:=eX;unfold zq;refine wi ?_ ?_<;>intro c2
   ·have hmem:=getD_in (l:=s_.aU) (i:=g1.toNat) 0 om;have hmi:=y1 _ hmem;have hnd:=getD_in (l:=s_.dU) (i:=(s_.aU.getD g1.toNat 0).toNat) bG om;have hno:=n2 _ hnd;have hns:=n4 _ hnd;refine wm<|bM (λ (g4:Int)=>0≤g4∧(∀j:Nat,(j:Int)<g4→ala ((gy s_.bO.bS s_.bB.Setting).getD ((s_.dU.getD (s_.aU.getD g1.toNat 0).toNat bG).bT.getD j dK).eU.toNat dW) ((s_.dU.getD (s_.aU.getD g1.toNat 0).toNat bG).bT.getD j dK) s_.jV)) (λ (g4:Int)=>((s_.dU.getD (s_.aU.getD g1.toNat 0).toNat bG).bT.length - g4).toNat) ?_ ?_
    ·intro iN g4 Kl Jd;obtain ⟨Gh,mD⟩:=Kl;unfold zo;refine wi ?_ ?_<;>intro c3
     ·obtain ⟨x1,x2,x3,x4,x5⟩:=hno.lm _ (getD_in (i:=g4.toNat) dK om);have hll:=hno.ll;have hv:=akS r1 r2 (((s_.dU.getD ((s_.aU.getD g1.toNat 0).toNat) bG).bT.getD g4.toNat dK).eU.toNat) om;rw [← r3] at hv;have q1:=Vq (show 0≤_ by exact Int.le_trans (by decide) hv.1) hv.2 (Int.le_trans x3 x4) x5;have q2:=Vq (show 0≤_ by exact Int.le_trans (by decide) hv.1) hv.2 x3 (Int.le_trans x4 x5);refine wm<|wm ?_;refine wi ?_ ?_<;>intro c4
      ·rw [r3] at c4;refine au ?_;(constructor; (intro e; cases e); (intro h; exfalso; obtain ⟨l1,l2,l3⟩:=h g1.toNat om g4.toNat om; rcases c4 with (c4 | c4) | c4; (exact l1 c4); (exact Int.not_lt.2 l2 c4); (exact Int.not_lt.2 (l3 (by simpa using c4.1)) c4.2)))
      ·rw [r3] at c4;refine wn<|Jd _ ?_ ?_
       ·(refine ⟨ob,eO mD Gh ⟨c4.1.1,c4.1.2,λ e=>c4.2.resolve_left (by rw [e]; decide)⟩⟩)
       ·exact ob
     ·have hll:=hno.ll;refine wn<|cZ _ ?_ ?_
      ·(refine ⟨ob,eO bN dX (λ j hj=>mD j om)⟩)
      ·exact ob
    ·(refine ⟨ob,λ j hj=>by (try dsimp only at hj); omega⟩)
   ·refine au ?_;(constructor; (intro _; exact λ i hi=>bN i om); (intro _; rfl))
  ·(refine ⟨ob,λ j hj=>by (try dsimp only at hj); omega⟩)
theorem Jf (h1:acP s_) (h2:ais s_):W (nD s_) (λ r=>r=Sp.gV s_.bO.bI s_.bB.bX (drM s_.dU s_.aU)):=by
 obtain ⟨⟨s1,s2,s3,s4,s5,s6,s7⟩,vl_,n1,n2,⟨n3,n4⟩,m1,⟨z1,z2,z3,z4,z5,z6⟩⟩:=h1;obtain ⟨y1,y2,y3,y4,y5,y6⟩:=h2;unfold nD;refine bM (λ (g1:Int×List bU)=>0≤g1.1∧g1.1≤s_.aU.length∧(g1.2.length:Int)≤32*g1.1∧g1.2=drM s_.dU (s_.aU.take g1.1.toNat)) (λ (g1:Int×List bU)=>(s_.aU.length - g1.1).toNat) ?_ ?_
 ·intro ah g1 eX cZ;obtain ⟨dX,bN,bQ,kQ⟩:=eX;unfold wI;refine wi ?_ ?_<;>intro c1
  ·have hmem:=getD_in (l:=s_.aU) (i:=g1.1.toNat) 0 om;have hmi:=y1 _ hmem;have hnd:=getD_in (l:=s_.dU) (i:=(s_.aU.getD g1.1.toNat 0).toNat) bG om;have hno:=n2 _ hnd;have hns:=n4 _ hnd;have hdl:=hno.dl;refine wm<|wm ?_;refine cZ _ ?_ ?_
   ·(refine ⟨ob,ob,ob,?_⟩; dsimp only; unfold drM at *; rw [show (g1.1+1).toNat=g1.1.toNat+1 by omega,iK 0 om,List.flatMap_append,kQ]; simp only [List.flatMap_cons,List.flatMap_nil,List.append_nil])
   ·exact ob
  ·refine aG (aeG ob ob) λ v1 hv1=>?_;subst v1;refine aG (Sp.EC ob ob ob) λ v2 hv2=>?_;subst v2;refine au ?_;(rw [kQ,show g1.1.toNat=s_.aU.length by omega,List.take_length])
 ·(refine ⟨ob,ob,ob,rfl⟩)
theorem Qk (h1:acP s_) (h2:∀g∈s_.bO.aZ.aH,g.bZ.length≤2000000∧g.ak.length≤2000000):W (uj s_) (λ r=>(r=true↔Hr s_.bO.aZ 0∧Uj s_.bO.aZ (s_.bB.Uses.map aP.jd))):=by
 obtain ⟨⟨s1,s2,s3,s4,s5,s6,s7⟩,vl_,n1,n2,⟨n3,n4⟩,m1,⟨z1,z2,z3,z4,z5,z6⟩⟩:=h1;unfold uj;refine bM (λ (g1:Int×List oq)=>0≤g1.1∧g1.1≤s_.bB.Uses.length∧g1.2=(s_.bB.Uses.take g1.1.toNat).map aP.jd) (λ (g1:Int×List oq)=>(s_.bB.Uses.length - g1.1).toNat) ?_ ?_
 ·intro ah g1 eX cZ;obtain ⟨dX,bN,bQ⟩:=eX;unfold Cr;have hgl:g1.2.length=g1.1.toNat:=(by rw [bQ,List.length_map,List.length_take]; omega);refine wi ?_ ?_<;>intro c1
  ·refine wm<|wn ?_;refine cZ _ ?_ ?_
   ·(refine ⟨ob,ob,?_⟩; dsimp only; rw [show (g1.1+1).toNat=g1.1.toNat+1 by omega,iK bF om,List.map_append,bQ]; rfl)
   ·exact ob
  ·refine aG (ZJ h2 ob) λ v1 hv1=>?_;refine au ?_;(rw [bQ,show g1.1.toNat=s_.bB.Uses.length by omega,List.take_length] at hv1; rw [← hv1]; simp)
 ·(refine ⟨ob,ob,rfl⟩)
theorem Hu (h1:acP s_) (h2:ais s_) (h3:∀u∈s_.bB.Uses,Xd s_.bO.aZ u.jd):W (mO s_) (λ r=>r=true↔∀i:Nat,(i:Int)<s_.aU.length→alc s_.bO s_.bB (s_.dU.getD (s_.aU.getD i 0).toNat bG) (s_.aU.getD i 0)):=by
 obtain ⟨⟨s1,s2,s3,s4,s5,s6,s7⟩,vl_,n1,n2,⟨n3,n4⟩,m1,⟨z1,z2,z3,z4,z5,z6⟩⟩:=h1;obtain ⟨y1,y2,y3,y4,y5,y6⟩:=h2;unfold mO;refine bM (λ (g1:Int)=>0≤g1∧(∀i:Nat,(i:Int)<g1→alc s_.bO s_.bB (s_.dU.getD (s_.aU.getD i 0).toNat bG) (s_.aU.getD i 0))) (λ (g1:Int)=>(s_.aU.length - g1).toNat) ?_ ?_
 ·intro ah g1 eX cZ;obtain ⟨dX,bN⟩:=eX;unfold uZ;refine wi ?_ ?_<;>intro c1
  ·have hmem:=getD_in (l:=s_.aU) (i:=g1.toNat) 0 om;have hmi:=y1 _ hmem;have hnd:=getD_in (l:=s_.dU) (i:=(s_.aU.getD g1.toNat 0).toNat) bG om;have hno:=n2 _ hnd;have hns:=n4 _ hnd;have hfl:=hno.fl;refine wn<|bM (λ (g6:(Int×(dR→Option Int)))=>0≤g6.1∧g6.1≤s_.bB.Uses.length∧(∀k,0≤jU g6.2 k∧jU g6.2 k≤g6.1)∧(∀f,jU g6.2 (.s f)=(acW s_.bO.aZ (s_.bB.Uses.take g6.1.toNat) (s_.aU.getD g1.toNat 0) f:Int))) (λ (g6:(Int×(dR→Option Int)))=>(s_.bB.Uses.length - g6.1).toNat) ?_ ?_
   ·intro jD g6 Kk Hf;obtain ⟨Gf,tL,LP,Xi⟩:=Kk;unfold uY;refine wi ?_ ?_<;>intro c2
    ·obtain ⟨u1,u2,u3,u4⟩:=h3 _ (getD_in (i:=g6.1.toNat) bF om);have hmk:=LP (.s (((s_.bO.aZ.aH.getD ((((s_.bB.Uses.getD g6.1.toNat bF).jd).dz).toNat) aJ).ak).getD ((((s_.bB.Uses.getD g6.1.toNat bF).jd).dM).toNat) ByteArray.empty));refine wn<|bW ?_ ?_<;>intro c3
     ·have kr:=c3;have c3:=fq c3;refine wm<|wm ?_;refine Hf _ ?_ ?_
      ·(refine ⟨ob,ob,λ k=>?_,λ f=>?_⟩; (dsimp only; rw [zP]; have:=LP k; split<;>omega); dsimp only; rw [zP,Xi,Xi,show (g6.1+1).toNat=g6.1.toNat+1 by omega,iK bF om,PU]; by_cases q:f=nmU s_.bO.aZ (s_.bB.Uses.getD g6.1.toNat bF).jd; (subst q; refine (if_pos rfl).trans ?_; rw [if_pos ⟨by simpa using kr,rfl⟩]; show ((acW _ _ _ (nmU _ _):Nat):Int)+1=_; omega); (refine (if_neg (λ e=>q (dR.s.inj e))).trans ?_; rw [if_neg (λ e=>q e.2.symm)]; rfl))
      ·exact ob
     ·have kr:=c3;have c3:=fq c3;refine wn<|Hf _ ?_ ?_
      ·(refine ⟨ob,ob,λ k=>?_,λ f=>?_⟩; (have:=LP k; dsimp only; omega); dsimp only; rw [Xi,show (g6.1+1).toNat=g6.1.toNat+1 by omega,iK bF om,PU,if_neg (λ e=>absurd e.1 (by simpa using kr))]; rfl)
      ·exact ob
    ·refine wn<|bM (λ (g7:(Int×(dR→Option Int)))=>0≤g7.1∧(∀k,0≤jU g7.2 k∧jU g7.2 k≤2000000)∧(∀f,jU g7.2 (.s f)=(acW s_.bO.aZ s_.bB.Uses (s_.aU.getD g1.toNat 0) f:Int) - (cntF ((s_.dU.getD (s_.aU.getD g1.toNat 0).toNat bG).ak.take g7.1.toNat) f:Int))) (λ (g7:(Int×(dR→Option Int)))=>((s_.dU.getD (s_.aU.getD g1.toNat 0).toNat bG).ak.length - g7.1).toNat) ?_ ?_
     ·intro nA g7 XB Ua;obtain ⟨ZA,Cz,ahm⟩:=XB;unfold uO;refine wi ?_ ?_<;>intro c4
      ·have hmk:=Cz (.s (((s_.dU.getD ((s_.aU.getD g1.toNat 0).toNat) bG).ak).getD g7.1.toNat ByteArray.empty));have hlt:g7.1.toNat<(s_.dU.getD (s_.aU.getD g1.toNat 0).toNat bG).ak.length:=om;have hts:=iK ByteArray.empty hlt;have hcs:cntF ((s_.dU.getD (s_.aU.getD g1.toNat 0).toNat bG).ak.take (g7.1.toNat+1)) ((s_.dU.getD (s_.aU.getD g1.toNat 0).toNat bG).ak.getD g7.1.toNat ByteArray.empty)=cntF ((s_.dU.getD (s_.aU.getD g1.toNat 0).toNat bG).ak.take g7.1.toNat) ((s_.dU.getD (s_.aU.getD g1.toNat 0).toNat bG).ak.getD g7.1.toNat ByteArray.empty)+1:=(by rw [hts,PV,if_pos rfl]);have hct:=aiF (l:=(s_.dU.getD (s_.aU.getD g1.toNat 0).toNat bG).ak) (f:=(s_.dU.getD (s_.aU.getD g1.toNat 0).toNat bG).ak.getD g7.1.toNat ByteArray.empty) (g7.1.toNat+1);have hq:=ahm ((s_.dU.getD (s_.aU.getD g1.toNat 0).toNat bG).ak.getD g7.1.toNat ByteArray.empty);refine wm<|wi ?_ ?_<;>intro c5
       ·refine au ?_;(constructor; (intro e; cases e); (intro h; exfalso; rw [zP,if_pos rfl] at c5; have hff:=h g1.toNat om ((s_.dU.getD (s_.aU.getD g1.toNat 0).toNat bG).ak.getD g7.1.toNat ByteArray.empty); omega))
       ·rw [zP,if_pos rfl] at c5;refine wn<|Ua _ ?_ ?_
        ·(refine ⟨ob,λ k=>?_,λ f=>?_⟩; (dsimp only; rw [zP]; have:=Cz k; split<;>omega); dsimp only; rw [zP,show (g7.1+1).toNat=g7.1.toNat+1 by omega]; by_cases q:f=(s_.dU.getD (s_.aU.getD g1.toNat 0).toNat bG).ak.getD g7.1.toNat ByteArray.empty; (subst q; rw [if_pos rfl,hcs]; omega); (rw [if_neg (λ e=>q (dR.s.inj e)),hts,PV,if_neg (λ e=>q e.symm),ahm f]; rfl))
        ·exact ob
      ·refine wn<|cZ _ ?_ ?_
       ·(refine ⟨ob,eO bN dX (λ f=>?_)⟩; have e1:=ahm f; have e2:=Cz (.s f); rw [List.take_of_length_le om] at e1; omega)
       ·exact ob
     ·(refine ⟨ob,λ k=>by have:=LP k; dsimp only; omega,λ f=>?_⟩; dsimp only; rw [Xi f,show g6.1.toNat=s_.bB.Uses.length by omega,List.take_length]; show _=_ - ((0:Nat):Int); omega)
   ·(refine ⟨ob,ob,λ k=>⟨Int.le_refl _,Int.le_refl _⟩,λ f=>rfl⟩)
  ·refine au ?_;(constructor; (intro _; exact λ i hi=>bN i om); (intro _; rfl))
 ·(refine ⟨ob,λ j hj=>by (try dsimp only at hj); omega⟩)
theorem Mi (h1:acP s_) (h2:ais s_):W (qj s_) (λ r=>(r=true↔(RsA s_.bO.bA 0∧ak9 s_.bO.bA s_.bB.Released)∧∀i:Nat,(i:Int)<s_.aU.length→am4 s_.bB (s_.dU.getD (s_.aU.getD i 0).toNat bG))):=by
 obtain ⟨⟨s1,s2,s3,s4,s5,s6,s7⟩,vl_,n1,n2,⟨n3,n4⟩,m1,⟨z1,z2,z3,z4,z5,z6⟩⟩:=h1;obtain ⟨y1,y2,y3,y4,y5,y6⟩:=h2;unfold qj;refine aG (XG ob) λ v1 hv1=>?_;refine bW ?_ ?_<;>intro c1
 ·have fV:=c1;have c1:=fq c1;refine au ?_;(constructor; (intro e; cases e); (intro h; exact absurd (hv1.2 h.1) (by simpa using fV)))
 ·have fV:=c1;have c1:=fq c1;refine bM (λ (g1:Int)=>0≤g1∧(∀i:Nat,(i:Int)<g1→am4 s_.bB (s_.dU.getD (s_.aU.getD i 0).toNat bG))) (λ (g1:Int)=>(s_.aU.length - g1).toNat) ?_ ?_
  ·intro ah g1 eX cZ;obtain ⟨dX,bN⟩:=eX;unfold zu;refine wi ?_ ?_<;>intro c2
   ·have hmem:=getD_in (l:=s_.aU) (i:=g1.toNat) 0 om;have hmi:=y1 _ hmem;have hnd:=getD_in (l:=s_.dU) (i:=(s_.aU.getD g1.toNat 0).toNat) bG om;have hno:=n2 _ hnd;have hns:=n4 _ hnd;refine wm<|aG (BZ om (λ x hx=>(by have:=hno.rs x hx; omega))) λ v4 hv4=>?_;subst v4;refine bW ?_ ?_<;>intro c3
    ·have kr:=c3;have c3:=fq c3;refine au ?_;(constructor; (intro e; cases e); (intro h; exfalso; have:=acY.2 (λ j hj=>by have:=h.2 g1.toNat om j hj; rw [this]; rfl) |>.symm.trans kr; cases this))
    ·have kr:=c3;have c3:=fq c3;refine wn<|cZ _ ?_ ?_
     ·(refine ⟨ob,eO bN dX (λ j hj=>?_)⟩; have:=acY.1 kr j hj; simpa using this)
     ·exact ob
   ·refine au ?_;(constructor; (intro _; exact ⟨hv1.1 (by simpa using fV),λ i hi=>bN i om⟩); (intro _; rfl))
  ·(refine ⟨ob,λ j hj=>by (try dsimp only at hj); omega⟩)
theorem Kq (h1:acP s_) (h2:ais s_):W (nX s_) (λ r=>(r=true↔(DmA s_.bO.dD 0∧RgP s_.bO.dD s_.bB.cO)∧∀i:Nat,(i:Int)<s_.aU.length→am5 s_.bB (s_.dU.getD (s_.aU.getD i 0).toNat bG))):=by
 obtain ⟨⟨s1,s2,s3,s4,s5,s6,s7⟩,vl_,n1,n2,⟨n3,n4⟩,m1,⟨z1,z2,z3,z4,z5,z6⟩⟩:=h1;obtain ⟨y1,y2,y3,y4,y5,y6⟩:=h2;unfold nX;refine aG (XI) λ v1 hv1=>?_;refine bW ?_ ?_<;>intro c1
 ·have fV:=c1;have c1:=fq c1;refine au ?_;(constructor; (intro e; cases e); (intro h; exact absurd (hv1.2 h.1) (by simpa using fV)))
 ·have fV:=c1;have c1:=fq c1;refine aG (Ca om (λ x hx=>(by have q:=y1 x hx; have:=(n2 _ (getD_in (i:=x.toNat) bG om)).dm; omega))) λ v2 hv2=>?_;subst v2;refine au ?_;(rw [Bool.not_eq_true',acY]; constructor; (intro h; refine ⟨hv1.1 (by simpa using fV),λ i hi=>?_⟩; have:=h i hi; intro h0; simp only [Bool.and_eq_false_iff,decide_eq_false_iff_not,Bool.not_eq_false'] at this; exact this.resolve_left (λ q=>q h0)); (intro h j hj; have:=h.2 j hj; unfold am5 at this; simp only [Bool.and_eq_false_iff,decide_eq_false_iff_not,Bool.not_eq_false']; by_cases q:0≤(s_.dU.getD (s_.aU.getD j 0).toNat bG).gM; (exact .inr (this q)); exact .inl q))
theorem ZL {x:aX} (h:gV l s []=true) (hx:XA l.length x):gV l s [⟨x.eU,0,x.fJ⟩]=true↔ala ((gy l s).getD x.eU.toNat dW) x true:=by
 obtain ⟨x1,x2,x3,x4,x5⟩:=hx;rw [abx h x1 x2 (Int.le_refl 0) om x5,Int.zero_mul];obtain ⟨c1,c2,_⟩:=PW h;have hv:=(lV (Kh (qy c1) c2 x.eU.toNat om).2.2.1).1;exact ⟨λ ⟨a,b,_⟩=>⟨a,b,nofun⟩,λ ⟨a,b,_⟩=>⟨a,b,hv⟩⟩
theorem ZM {x:aX} (h:gV l s []=true) (hx:XA l.length x):gV l s [⟨x.eU,x.Low,x.fJ⟩]=true↔ala ((gy l s).getD x.eU.toNat dW) x false:=by
 obtain ⟨x1,x2,x3,x4,x5⟩:=hx;rw [abx h x1 x2 x3 x4 x5];exact ⟨λ ⟨a,b,c⟩=>⟨a,b,λ _=>c⟩,λ ⟨a,b,c⟩=>⟨a,b,c rfl⟩⟩
theorem aeP {A B:Int→Prop} (h:Thn A B 0):A 0∧B 0:=by
 rcases h with h | h
 ·exact absurd rfl h.2
 ·exact h
theorem Gi {b:aY} {l:List aS} (h:CB b l 0):ahg b∧l.length≤12∧∀n∈l,amL b n:=by
 obtain ⟨h1,h2⟩:=aeP h;obtain ⟨b1,h3⟩:=aeP h1;obtain ⟨b2,h4⟩:=aeP h3;obtain ⟨b3,h5⟩:=aeP h4;obtain ⟨b4,b5⟩:=aeP h5;obtain ⟨c1,c2⟩:=vB (by decide) h2;refine ⟨⟨b1.symm,b2.symm,b3.v.ok,b4.ok,b5.ok⟩,om,oQ bG λ i hi=>?_⟩;obtain ⟨d1,d2⟩:=vB (by decide) (ak8 c2 i hi);obtain ⟨e1,e2⟩:=vB (by decide) d2;obtain ⟨f1,f2⟩:=vB (by decide) e2;obtain ⟨g1,g2⟩:=vB (by decide) f2;obtain ⟨k1,k2⟩:=vB (by decide) g2;obtain ⟨m1,m2⟩:=vB (by decide) k2;refine ⟨om,om,om,oQ dK λ j hj=>?_,oQ eD λ j hj=>?_,oQ 0 λ j hj=>?_,Classical.not_not.1 m1⟩
 ·exact Classical.byContradiction λ q=>e1 ⟨j,om,q⟩
 ·exact Classical.byContradiction λ q=>f1 ⟨j,om,q⟩
 ·exact Classical.byContradiction λ q=>k1 ⟨j,om,q⟩
def aq5 (b:aY) (l:List aS) (ms:List Int) (g:aR) (bt:Bool):Prop:=∀i:Nat,(i:Int)<ms.length→alb b g (l.getD (ms.getD i 0).toNat bG) bt
def aq6 (b:aY) (l:List aS) (ms:List Int) (g:aR):Prop:=∀i:Nat,(i:Int)<ms.length→alc b g (l.getD (ms.getD i 0).toNat bG) (ms.getD i 0)
def aq7 (b:aY) (l:List aS) (ms:List Int) (g:aR):Prop:=(RsA b.bA 0∧ak9 b.bA g.Released)∧∀i:Nat,(i:Int)<ms.length→am4 g (l.getD (ms.getD i 0).toNat bG)
def au0 (b:aY) (l:List aS) (ms:List Int) (g:aR):Prop:=(DmA b.dD 0∧RgP b.dD g.cO)∧∀i:Nat,(i:Int)<ms.length→am5 g (l.getD (ms.getD i 0).toNat bG)
def ale (b:aY) (l:List aS) (ms:List Int) (g:aR) (bt:Bool):Int→Prop:=
 LQ (¬(VE l ms∧aiE b l g)) 1<|
 LQ (gV b.bS g.Setting []=false) 2<|
 LQ (¬aq5 b l ms g bt) 3<|
 LQ (Sp.gV b.bI g.bX (drM l ms)=false) 4<|
 LQ (¬(Hr b.aZ 0∧Uj b.aZ (g.Uses.map aP.jd))) 5<|
 LQ (¬aq6 b l ms g) 6<|
 LQ (¬aq7 b l ms g) 7<|
 LQ (¬au0 b l ms g) 8<|
 λ r=>r=0
theorem ale.fun {b:aY} {l:List aS} {ms:List Int} {g:aR} {bt:Bool}:EF (ale b l ms g bt):=.JC (.JC (.JC (.JC (.JC (.JC (.JC (.JC .zero)))))))
def Ql (b:aY) (l:List aS) (ms:List Int) (g:aR) (bt:Bool):Int→Prop:=LQ (¬CB b l 0) 1 (ale b l ms g bt)
theorem Ql.fun {b:aY} {l:List aS} {ms:List Int} {g:aR} {bt:Bool}:EF (Ql b l ms g bt):=.JC ale.fun
theorem aq8 {s:gT} (h:VE s.dU s.aU∧aiE s.bO s.dU s.bB):ais s:=by
 obtain ⟨h1,⟨h2,h3,h4,h5,h6⟩,_,_⟩:=h;exact ⟨oQ 0 λ j hj=>(h1 j om).1,om,om,om,om,om⟩
theorem PX {p:bP} {us:List aP} (h:Uj p (us.map aP.jd)):∀u∈us,Xd p u.jd:=by
 refine oQ bF λ i hi=>?_;have:=(h i (by rw [List.length_map]; omega)).1;rw [Je (d:=bF) hi] at this;exact this
theorem Mj (h1:acP s_) (h2:∀g∈s_.bO.aZ.aH,g.bZ.length≤2000000∧g.ak.length≤2000000):W (kM s_) (λ r=>ale s_.bO s_.dU s_.aU s_.bB s_.jV r):=by
 unfold kM;refine wn<|aG (OL h1) λ v1 hv1=>?_;refine wi ?_ ?_<;>intro c1
 ·refine wn<|au ?_;(exact eT (kT hv1 c1))
 ·have q1:=hv1.1 c1;have hsh:=aq8 q1;refine wm<|aG (Mg h1) λ v2 hv2=>?_;subst v2;refine wi ?_ ?_<;>intro c2
  ·refine wn<|au ?_;(exact aM (λ h=>h q1) (eT c2))
  ·refine wm<|aG (Mh h1 hsh c2) λ v3 hv3=>?_;refine wi ?_ ?_<;>intro c3
   ·refine wn<|au ?_;(exact aM (λ h=>h q1) (aM (by rw [c2]; decide) (eT (kT hv3 c3))))
   ·have q3:=hv3.1 c3;refine wm<|aG (Jf h1 hsh) λ v4 hv4=>?_;subst v4;refine wi ?_ ?_<;>intro c4
    ·refine wn<|au ?_;(exact aM (λ h=>h q1) (aM (by rw [c2]; decide) (aM (λ h=>h q3) (eT c4))))
    ·refine wm<|aG (Qk h1 h2) λ v5 hv5=>?_;refine wi ?_ ?_<;>intro c5
     ·refine wn<|au ?_;(exact aM (λ h=>h q1) (aM (by rw [c2]; decide) (aM (λ h=>h q3) (aM (by rw [c4]; decide) (eT (kT hv5 c5))))))
     ·have q5:=hv5.1 c5;refine wm<|aG (Hu h1 hsh (PX q5.2)) λ v6 hv6=>?_;refine wi ?_ ?_<;>intro c6
      ·refine wn<|au ?_;(exact aM (λ h=>h q1) (aM (by rw [c2]; decide) (aM (λ h=>h q3) (aM (by rw [c4]; decide) (aM (λ h=>h q5) (eT (kT hv6 c6)))))))
      ·have q6:=hv6.1 c6;refine wm<|aG (Mi h1 hsh) λ v7 hv7=>?_;refine wi ?_ ?_<;>intro c7
       ·refine wn<|au ?_;(exact aM (λ h=>h q1) (aM (by rw [c2]; decide) (aM (λ h=>h q3) (aM (by rw [c4]; decide) (aM (λ h=>h q5) (aM (λ h=>h q6) (eT (kT hv7 c7))))))))
       ·have q7:=hv7.1 c7;refine wm<|aG (Kq h1 hsh) λ v8 DJ=>?_;refine wi ?_ ?_<;>intro c8
        ·refine wn<|au ?_;(exact aM (λ h=>h q1) (aM (by rw [c2]; decide) (aM (λ h=>h q3) (aM (by rw [c4]; decide) (aM (λ h=>h q5) (aM (λ h=>h q6) (aM (λ h=>h q7) (eT (kT DJ c8)))))))))
        ·refine wn<|au ?_;(exact aM (λ h=>h q1) (aM (by rw [c2]; decide) (aM (λ h=>h q3) (aM (by rw [c4]; decide) (aM (λ h=>h q5) (aM (λ h=>h q6) (aM (λ h=>h q7) (aM (λ h=>h (DJ.1 c8)) rfl))))))))
theorem XL {b_:aY} {l_:List aS} {aj:List Int} {g_:aR} {gI:Bool} (h1:He b_) (h2:∀g∈b_.aZ.aH,g.bZ.length≤2000000∧g.ak.length≤2000000) (h3:Qj l_) (h4:aj.length≤10000) (h5:Ja g_):W (C9 b_ l_ aj g_ gI) (λ r=>Ql b_ l_ aj g_ gI r):=by
 unfold C9;refine aG (RB h1 h2 h3) λ v1 hv1=>?_;refine wi ?_ ?_<;>intro c1
 ·exact au<|eT (λ h=>c1 (CB.fun _ _ hv1 h))
 ·have hn0:CB b_ l_ 0:=(by rw [c1] at hv1; exact hv1);obtain ⟨nk1,nk2,nk3⟩:=Gi hn0;refine aG (Mj ⟨h1,nk1,nk2,nk3,h3,h4,h5⟩ h2) λ v2 hv2=>?_;exact au<|aM (λ h=>h hn0) hv2
theorem XM {b_:aY} {g_:aR} {x_:aS} {gI:Bool} (h1:b_.bS.length≤2000000) (h2:g_.Setting.length≤2000000) (h3:aas b_.bS) (h4:gV b_.bS g_.Setting []=true) (h5:∀x∈x_.bT,XA b_.bS.length x) (h6:x_.bT.length≤2000000):W (Dg b_ g_ x_ gI) (λ r=>r=true↔alb b_ g_ x_ gI):=by
 unfold Dg;refine bM (λ (g1:Int)=>0≤g1∧(∀j:Nat,(j:Int)<g1→ala ((gy b_.bS g_.Setting).getD (x_.bT.getD j dK).eU.toNat dW) (x_.bT.getD j dK) gI)) (λ (g1:Int)=>(x_.bT.length - g1).toNat) ?_ ?_
 ·intro ah g1 eX cZ;obtain ⟨dX,bN⟩:=eX;unfold Ls;refine wi ?_ ?_<;>intro c1
  ·have hx:=h5 _ (getD_in (i:=g1.toNat) dK om);refine wn<|wi ?_ ?_<;>intro c2
   ·subst c2;unfold qW;refine aG (EH ob ob ob ob) λ v3 hv3=>?_;subst v3;refine wi ?_ ?_<;>intro c3
    ·refine au ?_;(constructor; (intro e; cases e); (intro h; exfalso; rw [(ZL h4 hx).2 (h g1.toNat om)] at c3; cases c3))
    ·refine wn<|cZ _ ?_ ?_
     ·(refine ⟨ob,eO bN dX ((ZL h4 hx).1 c3)⟩)
     ·exact ob
   ·subst c2;unfold qW;refine aG (EH ob ob ob ob) λ v3 hv3=>?_;subst v3;refine wi ?_ ?_<;>intro c4
    ·refine au ?_;(constructor; (intro e; cases e); (intro h; exfalso; rw [(ZM h4 hx).2 (h g1.toNat om)] at c4; cases c4))
    ·refine wn<|cZ _ ?_ ?_
     ·(refine ⟨ob,eO bN dX ((ZM h4 hx).1 c4)⟩)
     ·exact ob
  ·refine au ?_;(constructor; (intro _; exact λ j hj=>bN j om); (intro _; rfl))
 ·(refine ⟨ob,λ j hj=>by (try dsimp only at hj); omega⟩)
theorem Sq {b_:aY} {g_:aR} {x_:aS} {dJ:Int} (h1:g_.Uses.length≤2000000) (h2:x_.ak.length≤2000000) (h3:∀u∈g_.Uses,Xd b_.aZ u.jd):W (vK b_ g_ x_ dJ) (λ r=>r=true↔alc b_ g_ x_ dJ):=by
 unfold vK;refine bM (λ (g1:Int)=>0≤g1∧(∀j:Nat,(j:Int)<g1→cntF x_.ak (fnG x_.ak j)≤acW b_.aZ g_.Uses dJ (fnG x_.ak j))) (λ (g1:Int)=>(x_.ak.length - g1).toNat) ?_ ?_
 ·intro ah g1 eX cZ;obtain ⟨dX,bN⟩:=eX;unfold Ew;refine wi ?_ ?_<;>intro c1
  ·refine wn<|bM (λ (g6:Int×Int)=>0≤g6.2∧g6.2≤x_.ak.length∧(0≤g6.1∧g6.1≤g6.2)∧g6.1=(cntF (x_.ak.take g6.2.toNat) (x_.ak.getD g1.toNat ByteArray.empty):Int)) (λ (g6:Int×Int)=>(x_.ak.length - g6.2).toNat) ?_ ?_
   ·intro jD g6 Kk Hf;obtain ⟨Gf,tL,LP,Xi⟩:=Kk;unfold Ev;refine wi ?_ ?_<;>intro c2
    ·refine wn<|bW ?_ ?_<;>intro c3
     ·have kr:=c3;have c3:=fq c3;refine wm<|Hf _ ?_ ?_
      ·(refine ⟨ob,ob,ob,?_⟩; dsimp only; rw [Xi,show (g6.2+1).toNat=g6.2.toNat+1 by omega,iK ByteArray.empty om,PV,if_pos (VD (by simpa using kr))]; rfl)
      ·exact ob
     ·have kr:=c3;have c3:=fq c3;refine wn<|Hf _ ?_ ?_
      ·(refine ⟨ob,ob,ob,?_⟩; dsimp only; rw [Xi,show (g6.2+1).toNat=g6.2.toNat+1 by omega,iK ByteArray.empty om,PV,if_neg (λ e=>by rw [e] at kr; simp at kr)]; rfl)
      ·exact ob
    ·refine bM (λ (g7:Int×Int)=>0≤g7.2∧g7.2≤g_.Uses.length∧(0≤g7.1∧g7.1≤g7.2)∧g7.1=(acW b_.aZ (g_.Uses.take g7.2.toNat) dJ (x_.ak.getD g1.toNat ByteArray.empty):Int)) (λ (g7:Int×Int)=>(g_.Uses.length - g7.2).toNat) ?_ ?_
     ·intro nA g7 XB Ua;obtain ⟨ZA,Cz,ahm,alf⟩:=XB;unfold Cx;refine wi ?_ ?_<;>intro c4
      ·obtain ⟨u1,u2,u3,u4⟩:=h3 _ (getD_in (i:=g7.2.toNat) bF om);refine wm<|wn ?_;refine bW ?_ ?_<;>intro c5
       ·have Dr:=c5;have c5:=fq c5;refine wm<|Ua _ ?_ ?_
        ·(refine ⟨ob,ob,ob,?_⟩; dsimp only; rw [alf,show (g7.2+1).toNat=g7.2.toNat+1 by omega,iK bF om,PU,if_pos (by simp only [Bool.and_eq_true,beq_iff_eq] at Dr; exact ⟨Dr.1,VD Dr.2⟩)]; rfl)
        ·exact ob
       ·have Dr:=c5;have c5:=fq c5;refine wn<|Ua _ ?_ ?_
        ·(refine ⟨ob,ob,ob,?_⟩; dsimp only; rw [alf,show (g7.2+1).toNat=g7.2.toNat+1 by omega,iK bF om,PU,if_neg (λ e=>by have e2:=e.2; unfold nmU at e2; rw [e.1,e2] at Dr; simp at Dr)]; rfl)
        ·exact ob
      ·rw [List.take_of_length_le om] at Xi alf;refine wi ?_ ?_<;>intro c6
       ·refine au ?_;(constructor; (intro e; cases e); (intro h; exfalso; have:=h (x_.ak.getD g1.toNat ByteArray.empty); omega))
       ·refine wn<|cZ _ ?_ ?_
        ·(refine ⟨ob,eO bN dX (by unfold fnG; omega)⟩)
        ·exact ob
     ·(refine ⟨ob,ob,ob,rfl⟩)
   ·(refine ⟨ob,ob,ob,rfl⟩)
  ·refine au ?_;(constructor; (intro _ f; rcases Nat.eq_zero_or_pos (cntF x_.ak f) with e | e; (omega); (obtain ⟨j,h4,rfl⟩:=ald e; exact bN j om)); (intro _; rfl))
 ·(refine ⟨ob,λ j hj=>by (try dsimp only at hj); omega⟩)
end Go.Proofs.YtifekdmmpbcdgaaGreatDoor
namespace Go.Proofs.YtifekdmmpbcdgaaGreatDoor.Sp
open Go.Ab
set_option maxRecDepth 100000
theorem ZN {l_:List aF} {r_:bD} (h1:l_.length≤2000000) (h2:r_.bJ.length≤2000000):W (F4 l_ r_) (λ r=>r=mK l_ r_):=by
 unfold F4;refine aG (Sp.Aj ob) λ v1 hv1=>?_;subst v1;refine bW ?_ ?_<;>intro c1
 ·have fV:=c1;have c1:=fq c1;refine au ?_;(unfold mK; rw [fV]; rfl)
 ·have fV:=c1;have c1:=fq c1;have hck:eG l_=0∧r_.On.length=l_.length∧r_.bJ.length=l_.length:=(by have:=fV; simp only [Bool.or_eq_false_iff,bne_eq_false_iff_eq] at this; omega);obtain ⟨b1,b2,b3⟩:=Dt hck.1;refine bM (λ (g1:Int)=>0≤g1∧g1≤l_.length∧rlN (l_.drop g1.toNat) (r_.bJ.drop g1.toNat)=rlN l_ r_.bJ) (λ (g1:Int)=>(l_.length - g1).toNat) ?_ ?_
  ·intro ah g1 eX cZ;obtain ⟨dX,bN,bQ⟩:=eX;unfold NW;obtain ⟨i,rfl⟩:=Int.eq_ofNat_of_zero_le dX;refine wi ?_ ?_<;>intro c2
   ·have hlt:i<l_.length:=om;have hb:=b2 i hlt;rw [show ((i:Int).toNat)=i from rfl,drop_cons aC hlt,drop_cons 0 (show i<r_.bJ.length by omega),rlN] at bQ;simp only [Int.toNat_natCast] at *;refine wm<|wn ?_;refine aG (Sp.qC) λ v4 hv4=>?_;subst v4;refine bW ?_ ?_<;>intro c3
    ·have kr:=c3;have c3:=fq c3;refine au ?_;(unfold mK; rw [fV,← bQ]; rw [show dP (r_.bJ.getD i 0) 0 _=false by simpa using kr]; rfl)
    ·have kr:=c3;have c3:=fq c3;refine wn<|cZ _ ?_ ?_
     ·(refine ⟨ob,ob,?_⟩; rw [← bQ,show dP (r_.bJ.getD i 0) 0 _=true by simpa using kr,show ((i:Int)+1).toNat=i+1 by omega]; rfl)
     ·exact ob
   ·refine au ?_;have e:i=l_.length:=om;unfold mK; rw [fV,← bQ,show (i:Int).toNat=i from rfl,e,List.drop_length]; cases List.drop l_.length r_.bJ<;>rfl
  ·(refine ⟨ob,ob,rfl⟩)
end Go.Proofs.YtifekdmmpbcdgaaGreatDoor.Sp
namespace Go.Proofs.YtifekdmmpbcdgaaGreatDoor
open Go.Ab
set_option maxRecDepth 100000
theorem ZO {l_:List aF} {r_:bD} {d_:List bU} (h1:l_.length≤2000000) (h2:d_.length≤2000000) (h3:r_.bJ.length≤2000000):W (F5 l_ r_ d_) (λ r=>r=Sp.gV l_ r_ d_):=by
 unfold F5;refine aG (Sp.Ru ob ob) λ v1 hv1=>?_;subst v1;refine aG (gN λ hc=>lY (Sp.ZN ob ob)) λ v2 hv2=>?_;subst v2;refine aG (gN λ hc=>lY (Sp.Rv (Sp.agf (by simp only [Bool.and_eq_true] at hc; exact hc.1)) (Sp.PN.1 (by simp only [Bool.and_eq_true] at hc; exact hc.2)).2)) λ v3 hv3=>?_;subst v3;refine au ?_;(unfold Sp.gV; cases Sp.oP l_ d_<;>cases Sp.mK l_ r_<;>rfl)
theorem XO {b_:aY} {l_:List aS} {aj:List Int} {g_:aR} {gI:Bool} (h1:He b_) (h2:∀g∈b_.aZ.aH,g.bZ.length≤2000000∧g.ak.length≤2000000) (h3:Qj l_) (h4:aj.length≤10000) (h5:Ja g_):W (Dj b_ l_ aj g_ gI) (λ r=>Ql b_ l_ aj g_ gI r):=by
 obtain ⟨n3,n4⟩:=id h3;obtain ⟨s1,s2,s3,s4,s5,s6,s7⟩:=id h1;obtain ⟨z1,z2,z3,z4,z5,z6⟩:=id h5;unfold Dj;refine aG (Ap h1 h2 h3) λ v1 hv1=>?_;refine aG (xR λ hc=>uF n3 om) λ v2 hv2=>?_;refine aG (xR λ hc=>XJ h1 n3 h5) λ v3 hv3=>?_;refine bW ?_ ?_<;>intro c1
 ·have fV:=c1;have c1:=fq c1;refine au ?_;(by_cases q:CB b_ l_ 0; (refine aM (λ h=>h q) (eT (λ h=>?_)); have e:=CB.fun _ _ hv1 q; have a2:=(hv2 (by rw [e]; rfl)).2 h.1; have a3:=(hv3 (by rw [e,a2]; rfl)).2 h.2; rw [e,a2,a3] at fV; cases fV); exact eT q)
 ·have fV:=c1;have c1:=fq c1;have e1:v1=0∧v2=true∧v3=true:=(by simp only [Bool.or_eq_false_iff,bne_eq_false_iff_eq,Bool.not_eq_false'] at fV; exact ⟨fV.1.1,fV.1.2,fV.2⟩);have hn0:CB b_ l_ 0:=(by rw [e1.1] at hv1; exact hv1);have q1:VE l_ aj∧aiE b_ l_ g_:=⟨(hv2 (by rw [e1.1]; rfl)).1 e1.2.1,(hv3 (by rw [e1.1,e1.2.1]; rfl)).1 e1.2.2⟩;have nok:=Gi hn0;have hsl:=q1.2.1;refine aG (EH s1 z1 (by decide) s2) λ v4 hv4=>?_;subst v4;refine wi ?_ ?_<;>intro c2
  ·exact au (aM (λ h=>h hn0) (aM (λ h=>h q1) (eT c2)))
  ·refine bM (λ (g1:Int×List bU)=>0≤g1.1∧g1.1≤aj.length∧(g1.2.length:Int)≤32*g1.1∧g1.2=drM l_ (aj.take g1.1.toNat)∧(∀i:Nat,(i:Int)<g1.1→alb b_ g_ (l_.getD (aj.getD i 0).toNat bG) gI)) (λ (g1:Int×List bU)=>(aj.length - g1.1).toNat) ?_ ?_
   ·intro ah g1 eX cZ;obtain ⟨dX,bN,bQ,kQ,Oe⟩:=eX;unfold LB;refine wi ?_ ?_<;>intro c3
    ·have hmi:=(q1.1 g1.1.toNat om).1;have hnd:=getD_in (l:=l_) (i:=(aj.getD g1.1.toNat 0).toNat) bG om;have hno:=nok.2.2 _ hnd;have hns:=n4 _ hnd;obtain ⟨o1,o2,o3,o4,o5,o6,o7⟩:=id hno;refine aQ (by first | omega | (unfold aD; omega) | (intro h0; have:=of_decide_eq_true h0; omega) | (unfold big; omega)) ?_;refine aQ (by first | omega | (unfold aD; omega) | (intro h0; have:=of_decide_eq_true h0; omega) | (unfold big; omega)) ?_;refine aG (XM s1 z1 s2 c2 o4 om) λ v7 hv7=>?_;refine wi ?_ ?_<;>intro c4
     ·exact au (aM (λ h=>h hn0) (aM (λ h=>h q1) (aM (by rw [c2]; decide) (eT (λ h=>kT hv7 c4 (h g1.1.toNat om))))))
     ·refine aQ (by first | omega | (unfold aD; omega) | (intro h0; have:=of_decide_eq_true h0; omega) | (unfold big; omega)) ?_;refine aQ (by first | omega | (unfold aD; omega) | (intro h0; have:=of_decide_eq_true h0; omega) | (unfold big; omega)) ?_;refine aQ (by first | omega | (unfold aD; omega) | (intro h0; have:=of_decide_eq_true h0; omega) | (unfold big; omega)) ?_;refine cZ _ ?_ ?_
      ·(refine ⟨om,om,by (simp only [List.length_append]; omega),?_,eO Oe dX (hv7.1 c4)⟩; dsimp only; unfold drM at *; rw [show (g1.1+1).toNat=g1.1.toNat+1 by omega,iK 0 om,List.flatMap_append,kQ]; simp only [List.flatMap_cons,List.flatMap_nil,List.append_nil])
      ·omega
    ·have q3:aq5 b_ l_ aj g_ gI:=λ i hi=>Oe i om;have hdr:g1.2=drM l_ aj:=(by rw [kQ,show g1.1.toNat=aj.length by omega,List.take_length]);have au1:(drM l_ aj).length≤2000000:=(by rw [← hdr]; omega);rw [hdr];refine aG (ZO s3 au1 z3) λ v8 DJ=>?_;subst v8;refine wi ?_ ?_<;>intro c5
     ·exact au (aM (λ h=>h hn0) (aM (λ h=>h q1) (aM (by rw [c2]; decide) (aM (λ h=>h q3) (eT c5)))))
     ·refine aG (aaM z4) λ v9 hv9=>?_;subst v9;refine aG (XK h2 (by rw [List.length_map]; exact z4)) λ v10 Jc=>?_;refine wi ?_ ?_<;>intro c6
      ·exact au (aM (λ h=>h hn0) (aM (λ h=>h q1) (aM (by rw [c2]; decide) (aM (λ h=>h q3) (aM (by rw [c5]; decide) (eT (λ h=>c6 (Jc.2 h))))))))
      ·have q5:=Jc.1 c6;have hown:=PX q5.2;refine bM (λ (g2:Int)=>0≤g2∧(∀i:Nat,(i:Int)<g2→alc b_ g_ (l_.getD (aj.getD i 0).toNat bG) (aj.getD i 0))) (λ (g2:Int)=>(aj.length - g2).toNat) ?_ ?_
       ·intro dY g2 mU qZ;obtain ⟨sj,jG⟩:=mU;unfold IY;refine wi ?_ ?_<;>intro c7
        ·have hmi:=(q1.1 g2.toNat om).1;have hnd:=getD_in (l:=l_) (i:=(aj.getD g2.toNat 0).toNat) bG om;have hno:=nok.2.2 _ hnd;have hns:=n4 _ hnd;obtain ⟨o1,o2,o3,o4,o5,o6,o7⟩:=id hno;refine aQ (by first | omega | (unfold aD; omega) | (intro h0; have:=of_decide_eq_true h0; omega) | (unfold big; omega)) ?_;refine aQ (by first | omega | (unfold aD; omega) | (intro h0; have:=of_decide_eq_true h0; omega) | (unfold big; omega)) ?_;refine aG (Sq z4 om hown) λ v13 R8=>?_;refine wi ?_ ?_<;>intro c8
         ·exact au (aM (λ h=>h hn0) (aM (λ h=>h q1) (aM (by rw [c2]; decide) (aM (λ h=>h q3) (aM (by rw [c5]; decide) (aM (λ h=>h q5) (eT (λ h=>kT R8 c8 (h g2.toNat om)))))))))
         ·refine aQ (by first | omega | (unfold aD; omega) | (intro h0; have:=of_decide_eq_true h0; omega) | (unfold big; omega)) ?_;refine qZ _ ?_ ?_
          ·(refine ⟨om,eO jG sj (R8.1 c8)⟩)
          ·omega
        ·have q6:aq6 b_ l_ aj g_:=λ i hi=>jG i om;refine aG (XH s6) λ v14 Xv=>?_;refine wi ?_ ?_<;>intro c9
         ·exact au (aM (λ h=>h hn0) (aM (λ h=>h q1) (aM (by rw [c2]; decide) (aM (λ h=>h q3) (aM (by rw [c5]; decide) (aM (λ h=>h q5) (aM (λ h=>h q6) (eT (λ h=>kT Xv c9 h.1)))))))))
         ·have q7a:=Xv.1 c9;refine bM (λ (g3:Int)=>0≤g3∧(∀i:Nat,(i:Int)<g3→am4 g_ (l_.getD (aj.getD i 0).toNat bG))) (λ (g3:Int)=>(aj.length - g3).toNat) ?_ ?_
          ·intro qJ g3 acU acV;obtain ⟨Xh,ru⟩:=acU;unfold IX;refine wi ?_ ?_<;>intro c10
           ·have hmi:=(q1.1 g3.toNat om).1;have hnd:=getD_in (l:=l_) (i:=(aj.getD g3.toNat 0).toNat) bG om;have hno:=nok.2.2 _ hnd;have hns:=n4 _ hnd;obtain ⟨o1,o2,o3,o4,o5,o6,o7⟩:=id hno;refine aQ (by first | omega | (unfold aD; omega) | (intro h0; have:=of_decide_eq_true h0; omega) | (unfold big; omega)) ?_;refine aQ (by first | omega | (unfold aD; omega) | (intro h0; have:=of_decide_eq_true h0; omega) | (unfold big; omega)) ?_;refine bM (λ (g6:Int)=>0≤g6∧(∀j:Nat,(j:Int)<g6→g_.Released.getD ((l_.getD (aj.getD g3.toNat 0).toNat bG).bA.getD j 0).toNat false=true)) (λ (g6:Int)=>((l_.getD (aj.getD g3.toNat 0).toNat bG).bA.length - g6).toNat) ?_ ?_
            ·intro jD g6 Kk Hf;obtain ⟨Gf,tL⟩:=Kk;unfold IV;refine wi ?_ ?_<;>intro c11
             ·have hx:=o6 _ (getD_in (i:=g6.toNat) 0 om);refine aQ (by first | omega | (unfold aD; omega) | (intro h0; have:=of_decide_eq_true h0; omega) | (unfold big; omega)) ?_;refine aQ (by first | omega | (unfold aD; omega) | (intro h0; have:=of_decide_eq_true h0; omega) | (unfold big; omega)) ?_;refine wi ?_ ?_<;>intro c12
              ·exact au (aM (λ h=>h hn0) (aM (λ h=>h q1) (aM (by rw [c2]; decide) (aM (λ h=>h q3) (aM (by rw [c5]; decide) (aM (λ h=>h q5) (aM (λ h=>h q6) (eT (λ h=>by have:=h.2 g3.toNat om g6.toNat om; rw [this] at c12; cases c12)))))))))
              ·refine aQ (by first | omega | (unfold aD; omega) | (intro h0; have:=of_decide_eq_true h0; omega) | (unfold big; omega)) ?_;refine Hf _ ?_ ?_
               ·(refine ⟨om,eO tL Gf c12⟩)
               ·omega
             ·refine aQ (by first | omega | (unfold aD; omega) | (intro h0; have:=of_decide_eq_true h0; omega) | (unfold big; omega)) ?_;refine acV _ ?_ ?_
              ·(refine ⟨om,eO ru Xh (λ j hj=>tL j om)⟩)
              ·omega
            ·(refine ⟨om,λ j hj=>by (try dsimp only at hj); omega⟩)
           ·have q7:aq7 b_ l_ aj g_:=⟨q7a,λ i hi=>ru i om⟩;refine aG (ZB) λ v15 aar=>?_;refine wi ?_ ?_<;>intro c13
            ·exact au (aM (λ h=>h hn0) (aM (λ h=>h q1) (aM (by rw [c2]; decide) (aM (λ h=>h q3) (aM (by rw [c5]; decide) (aM (λ h=>h q5) (aM (λ h=>h q6) (aM (λ h=>h q7) (eT (λ h=>kT aar c13 h.1))))))))))
            ·have q8a:=aar.1 c13;refine bM (λ (g7:Int)=>0≤g7∧(∀i:Nat,(i:Int)<g7→am5 g_ (l_.getD (aj.getD i 0).toNat bG))) (λ (g7:Int)=>(aj.length - g7).toNat) ?_ ?_
             ·intro nA g7 XB Ua;obtain ⟨ZA,Cz⟩:=XB;unfold IW;refine wi ?_ ?_<;>intro c14
              ·have hmi:=(q1.1 g7.toNat om).1;have hnd:=getD_in (l:=l_) (i:=(aj.getD g7.toNat 0).toNat) bG om;have hno:=nok.2.2 _ hnd;have hns:=n4 _ hnd;obtain ⟨o1,o2,o3,o4,o5,o6,o7⟩:=id hno;refine aQ (by first | omega | (unfold aD; omega) | (intro h0; have:=of_decide_eq_true h0; omega) | (unfold big; omega)) ?_;refine aQ (by first | omega | (unfold aD; omega) | (intro h0; have:=of_decide_eq_true h0; omega) | (unfold big; omega)) ?_;refine aQ (by first | omega | (unfold aD; omega) | (intro h0; have:=of_decide_eq_true h0; omega) | (unfold big; omega)) ?_;refine bW ?_ ?_<;>intro c15
               ·have apt:=c15;have c15:=fq c15;exact au (aM (λ h=>h hn0) (aM (λ h=>h q1) (aM (by rw [c2]; decide) (aM (λ h=>h q3) (aM (by rw [c5]; decide) (aM (λ h=>h q5) (aM (λ h=>h q6) (aM (λ h=>h q7) (eT (λ h=>by have:=h.2 g7.toNat om c15.1; rw [this] at c15; cases c15.2))))))))))
               ·have apt:=c15;have c15:=fq c15;refine aQ (by first | omega | (unfold aD; omega) | (intro h0; have:=of_decide_eq_true h0; omega) | (unfold big; omega)) ?_;refine Ua _ ?_ ?_
                ·(refine ⟨om,eO Cz ZA (λ h0=>?_)⟩; simp only [Bool.and_eq_false_iff,decide_eq_false_iff_not,Bool.not_eq_false'] at apt; exact apt.resolve_left (λ q=>q h0))
                ·omega
              ·exact au (aM (λ h=>h hn0) (aM (λ h=>h q1) (aM (by rw [c2]; decide) (aM (λ h=>h q3) (aM (by rw [c5]; decide) (aM (λ h=>h q5) (aM (λ h=>h q6) (aM (λ h=>h q7) (aM (λ h=>h ⟨q8a,λ i hi=>Cz i om⟩) rfl)))))))))
             ·(refine ⟨om,λ j hj=>by (try dsimp only at hj); omega⟩)
          ·(refine ⟨om,λ j hj=>by (try dsimp only at hj); omega⟩)
       ·(refine ⟨om,λ j hj=>by (try dsimp only at hj); omega⟩)
   ·(refine ⟨om,by (dsimp only; omega),by (simp only [List.length_nil]; omega),rfl,λ i hi=>by (try dsimp only at hi); omega⟩)
end Go.Proofs.YtifekdmmpbcdgaaGreatDoor
namespace Go.Proofs.YtifekdmmpbcdgaaGreatDoor
open Go.Ab
set_option maxRecDepth 100000
theorem jP {p:Prop} {c:Int} {A:Int→Prop} (hc:c≠0) (h:LQ p c A 0):¬p∧A 0:=by
 rcases h with ⟨_,h⟩ | h
 ·exact absurd h.symm hc
 ·exact h
variable {ms:List Int}
theorem acZ {b:aY} {l:List aS} {g:aR} {bt:Bool} (h:Ql b l ms g bt 0):Hr b.aZ 0∧Uj b.aZ (g.Uses.map aP.jd):=by
 obtain ⟨_,h⟩:=jP (by decide) h;obtain ⟨_,h⟩:=jP (by decide) h;obtain ⟨_,h⟩:=jP (by decide) h;obtain ⟨_,h⟩:=jP (by decide) h;obtain ⟨_,h⟩:=jP (by decide) h;exact Classical.not_not.1 (jP (by decide) h).1
def Mk (ms:List Int) (us:List aP):List aP:=us.filter λ u=>ms.contains u.gG
theorem Jg {α:Type} (P:α→Bool) (l:List α) (d:α) {i:Nat} (h:i<l.length):(l.take (i+1)).filter P=(l.take i).filter P++(if P (l.getD i d) then [l.getD i d] else []):=by
 rw [List.take_add_one,List.filter_append,List.getElem?_eq_getElem h,List.getD_eq_getElem?_getD,List.getElem?_eq_getElem h];congr 1;simp only [Option.toList_some,Option.getD_some,List.filter_cons,List.filter_nil]
abbrev GA:=List Int×List Bool×List Int×List Bool×List Bool×Int×Int×List aP
theorem Sp.aby {l:List aF} {d:List bU} (h:(Sp.G8 l d).2=0):(Sp.G8 l d).1.On.length=l.length∧(Sp.G8 l d).1.bJ.length=l.length:=by
 unfold Sp.G8 at h ⊢;cases h1:Sp.BR l d != 0 with
 | true=>rw [h1] at h; simp at h1; exact absurd h h1
 | false=>
  rw [h1] at h;cases h2:decide (0≤(Sp.acO l d).2)||!Sp.gV l ⟨Sp.mV l d,(Sp.acO l d).1.lv⟩ d with
  | true=>rw [h2] at h; cases h
  | false=>
   simp only [Bool.or_eq_false_iff,Bool.not_eq_false'] at h2;have hm:=h2.2;unfold Sp.gV at hm;cases h3:!Sp.mK l ⟨Sp.mV l d,(Sp.acO l d).1.lv⟩||!Sp.oP l d with
   | true=>rw [h3] at hm; cases hm
   | false=>
    simp only [Bool.or_eq_false_iff,Bool.not_eq_false'] at h3;have:=(Sp.PN.1 h3.1).2;exact ⟨this.On,this.len⟩
theorem alg {b:aY} (h:amu b):He b:=by
 obtain ⟨b1,b2,b3,b4,b5,b6,b7,b8,b9⟩:=h;exact ⟨om,λ i hi=>by have:=b2 _ (getD_in (i:=i) aI hi); omega,om,λ g hg=>by have:=b6 g hg; omega,om,λ g hg=>by have:=b8 g hg; omega,om⟩
theorem ac0 {l_:List dO} {iY:List Int} (h1:iY.length≤100000000000):W (Pz l_ iY) (λ r=>r=0→akR l_∧∀x∈iY,0≤x∧x<l_.length):=by
 unfold Pz;refine aG (aaD) λ v1 hv1=>?_;refine bW ?_ ?_<;>intro c1
 ·have fV:=c1;have c1:=fq c1;exact au<|ob
 ·have fV:=c1;have c1:=fq c1;refine bM (λ (g1:Int)=>0≤g1∧(∀j:Nat,(j:Int)<g1→0≤iY.getD j 0∧iY.getD j 0<l_.length)) (λ (g1:Int)=>(iY.length - g1).toNat) ?_ ?_
  ·intro ah g1 eX cZ;obtain ⟨dX,bN⟩:=eX;unfold TF;refine wi ?_ ?_<;>intro c2
   ·refine wm<|wi ?_ ?_<;>intro c3
    ·exact au<|ob
    ·refine wn<|cZ _ ?_ ?_
     ·(refine ⟨ob,eO bN dX om⟩)
     ·exact ob
   ·refine au ?_;(intro _; exact ⟨hv1 (by simpa using fV),oQ 0 λ j hj=>bN j om⟩)
  ·(refine ⟨ob,λ j hj=>by (try dsimp only at hj); omega⟩)
theorem LU {l_:List eF} {oK:List Int} (h1:∀g∈l_,g.fF.length≤2000000) (h2:oK.length≤100000000000) (h3:l_.length≤2000000):W (yH l_ oK) (λ r=>r.1.length≤l_.length):=by
 unfold yH;refine aG (aaC h1) λ v1 hv1=>?_;refine bW ?_ ?_<;>intro c1
 ·have fV:=c1;have c1:=fq c1;exact au<|ob
 ·have fV:=c1;have c1:=fq c1;obtain ⟨p1,p2⟩:=hv1 (by simpa using fV);refine wn<|bM (λ (g1:Int×List Bool)=>0≤g1.1∧g1.2.length=l_.length) (λ (g1:Int×List Bool)=>(oK.length - g1.1).toNat) ?_ ?_
  ·intro ah g1 eX cZ;obtain ⟨dX,bN⟩:=eX;unfold Ll;refine wi ?_ ?_<;>intro c2
   ·refine wm<|wi ?_ ?_<;>intro c3
    ·exact au<|ob
    ·refine wm<|wn ?_;refine cZ _ ?_ ?_
     ·exact ob
     ·exact ob
   ·refine wn<|bM (λ (g2:Int×List Bool) => -1≤g2.1∧g2.1<l_.length∧g2.2.length=l_.length) (λ (g2:Int×List Bool)=>(g2.1+1).toNat) ?_ ?_
    ·intro dY g2 mU qZ;obtain ⟨sj,jG,pK⟩:=mU;unfold IK;refine wi ?_ ?_<;>intro c4
     ·have hgl:=h1 _ (getD_in (i:=g2.1.toNat) dZ om);refine bM (λ (g5:Int×List Bool)=>0≤g5.1∧g5.2.length=l_.length) (λ (g5:Int×List Bool)=>((l_.getD g2.1.toNat dZ).fF.length - g5.1).toNat) ?_ ?_
      ·intro nC g5 VA VB;obtain ⟨Rt,Gg⟩:=VA;unfold IJ;refine wm<|bW ?_ ?_<;>intro c5
       ·have Dr:=c5;have c5:=fq c5;simp only [Bool.and_eq_true,decide_eq_true_eq] at Dr;have hx:=p2 g2.1.toNat om _ (getD_in (i:=g5.1.toNat) 0 om);refine wm<|wm ?_;refine VB _ ?_ ?_
        ·exact ob
        ·exact ob
       ·have Dr:=c5;have c5:=fq c5;refine wn<|qZ _ ?_ ?_
        ·exact ob
        ·exact ob
      ·exact ob
     ·exact au<|ob
    ·exact ob
  ·(refine ⟨ob,by simp⟩)
theorem Xj {l_:List dO} {iY:List Int} (h1:iY.length≤100000000000) (h3:l_.length≤2000000):W (NU l_ iY) (λ r=>r.1.length≤l_.length):=by
 unfold NU;refine aG (ac0 ob) λ v1 hv1=>?_;refine bW ?_ ?_<;>intro c1
 ·have fV:=c1;have c1:=fq c1;refine au ?_;simp
 ·have fV:=c1;have c1:=fq c1;obtain ⟨⟨p1,p2⟩,p3⟩:=hv1 (by simpa using fV);refine wn<|bM (λ (g1:Int×List Bool)=>0≤g1.1∧g1.2.length=l_.length) (λ (g1:Int×List Bool)=>(iY.length - g1.1).toNat) ?_ ?_
  ·intro ah g1 eX cZ;obtain ⟨dX,bN⟩:=eX;unfold WV;refine wi ?_ ?_<;>intro c2
   ·have hx:=p3 _ (getD_in (i:=g1.1.toNat) 0 om);refine wm<|wn ?_;refine cZ _ ?_ ?_
    ·exact ob
    ·exact ob
   ·refine wn<|bM (λ (g2:Int×List Bool) => -1≤g2.1∧g2.1<l_.length∧g2.2.length=l_.length) (λ (g2:Int×List Bool)=>(g2.1+1).toNat) ?_ ?_
    ·intro dY g2 mU qZ;obtain ⟨sj,jG,pK⟩:=mU;unfold TG;refine wi ?_ ?_<;>intro c3
     ·have hp:=p2 g2.1.toNat om;refine wm<|wn ?_;unfold J7;refine wm<|wi ?_ ?_<;>intro c4
      ·refine wm<|wn ?_;refine qZ _ ?_ ?_
       ·exact ob
       ·exact ob
      ·refine wn<|qZ _ ?_ ?_
       ·exact ob
       ·exact ob
     ·exact au<|ob
    ·exact ob
  ·(refine ⟨ob,by simp⟩)
theorem Yr {α:Type} {l:List aS} {f:aS→List α} {k:Nat} (hof:∀x∈l,(f x).length≤2000000) (hm:ms.length≤10000) (hk:k≤64):W (dF (λ (self:Int×List α→M (List α)) g1=>
 bif (decide (g1.1<(ms.length:Int))) then
  need (0≤g1.1∧g1.1<(ms.length:Int))<|
  bif ((decide ((0:Int)≤(ms.getD g1.1.toNat 0)))&&(decide ((ms.getD g1.1.toNat 0)<(l.length:Int)))) then
   need (0≤(ms.getD g1.1.toNat 0)∧(ms.getD g1.1.toNat 0)<(l.length:Int))<|
   need ((g1.2.length+(f (l.getD ((ms.getD g1.1.toNat 0).toNat) bG)).length)*k≤big)<|
   need (aD (g1.1+(1:Int)))<|
   self ((g1.1+(1:Int)),(g1.2++f (l.getD ((ms.getD g1.1.toNat 0).toNat) bG)))
  else
   need (aD (g1.1+(1:Int)))<|
   self ((g1.1+(1:Int)),g1.2)
 else
  ret g1.2) ((0:Int),([]:List α))) (λ r=>r.length≤2000000*ms.length):=by
 refine bM (λ g1:Int×List α=>0≤g1.1∧g1.1≤ms.length∧g1.2.length≤2000000*g1.1.toNat) (λ g1=>(ms.length - g1.1).toNat) ?_ ⟨ob,ob,by simp⟩;intro self g1 ⟨h1,h2,h3⟩ ih;refine wi ?_ ?_<;>intro c
 ·refine wn ?_;have hs:(g1.1+1).toNat=g1.1.toNat+1:=by omega
  refine bW ?_ ?_<;>intro c2
  ·have c2:=fq c2;refine wn ?_;have hv:=hof _ (getD_in (i:=(ms.getD g1.1.toNat 0).toNat) bG om);have hb:(g1.2.length+(f (l.getD ((ms.getD g1.1.toNat 0).toNat) bG)).length)*k≤(g1.2.length+(f (l.getD ((ms.getD g1.1.toNat 0).toNat) bG)).length)*64:=Nat.mul_le_mul_left _ hk;refine aQ (by unfold big; omega) ?_;refine wn ?_;exact ih _ ⟨ob,ob,by dsimp only; rw [List.length_append,hs]; omega⟩ ob
  ·refine wn ?_;exact ih _ ⟨ob,ob,by dsimp only; rw [hs]; omega⟩ ob
 ·have e3:g1.1.toNat=ms.length:=by omega
  rw [e3] at h3;exact au h3
variable {l_:List aS}
theorem Gj {aj:List Int} (h1:∀x∈l_,x.ak.length≤10) (h2:aj.length≤10000):W (qV l_ aj) (λ _=>True):=by
 unfold qV;refine bM (λ g1:Int×Int=>0≤g1.2∧0≤g1.1∧g1.1≤10*g1.2) (λ g1=>(aj.length - g1.2).toNat) ?_ ob;intro ah g1 ⟨a1,a2,a3⟩ ih1;unfold Es;refine bW (λ c=>?_) (λ c=>au trivial);have c:=fq c;refine wn<|bW ?_ ?_<;>intro c2
 ·have c2:=fq c2;have hx:=h1 _ (getD_in (i:=(aj.getD g1.2.toNat 0).toNat) bG om);refine wn<|aQ (by unfold aD; omega) ?_;refine aQ (by unfold aD; omega) ?_;exact ih1 _ ⟨by dsimp only; omega,by dsimp only; omega,by dsimp only; omega⟩ (by dsimp only; omega)
 ·refine aQ (by unfold aD; omega) ?_;exact ih1 _ ⟨by dsimp only; omega,by dsimp only; omega,by dsimp only; omega⟩ (by dsimp only; omega)
structure Ga2 (r:GA):Prop where
 a:r.1.length≤2000000
 b:r.2.1.length≤2000000
 c:r.2.2.1.length≤2000000
 d:r.2.2.2.1.length≤2000000
 e:r.2.2.2.2.1.length≤2000000
theorem Aq (p e:Int):Ga2 ([],[],[],[],[],p,e,[]):=⟨by simp,by simp,by simp,by simp,by simp⟩
variable {M_:List Int}
theorem ZP (h1:∀x∈l_,x.bT.length≤2000000) (h2:M_.length≤10000):W (J2 l_ M_) (λ r=>r.length≤2000000*M_.length):=Yr (k:=24) (f:=aS.bT) h1 h2 om
theorem aaN (h1:∀x∈l_,x.fI.length≤2000000) (h2:M_.length≤10000):W (NK l_ M_) (λ r=>r.length≤2000000*M_.length):=Yr (k:=32) (f:=aS.fI) h1 h2 om
theorem Uk (h1:∀x∈l_,x.bT.length≤2000000) (h2:M_.length≤10000):W (BP l_ M_) (λ r=>r.length≤2000000*M_.length):=Yr (k:=24) (f:=aS.bT) h1 h2 om
theorem VH (h1:∀x∈l_,x.fI.length≤2000000) (h2:M_.length≤10000):W (Ey l_ M_) (λ r=>r.length≤2000000*M_.length):=Yr (k:=32) (f:=aS.fI) h1 h2 om
theorem VI {l_:List ay} {s_:List Int} (h1:Good l_ s_):W (yw l_ s_) (λ r=>r=gy l_ s_):=by
 obtain ⟨q1,q2,q3,q4,q5⟩:=h1;unfold yw;refine wn<|bM (λ (g1:Int×List bK)=>0≤g1.1∧g1.1≤l_.length∧g1.2=rM l_ s_ g1.1.toNat++List.replicate (l_.length - g1.1.toNat) dW) (λ (g1:Int×List bK)=>(l_.length - g1.1).toNat) ?_ ?_
 ·intro ah g1 eX cZ;obtain ⟨dX,bN,bQ⟩:=eX;unfold FM;refine wi ?_ ?_<;>intro c1
  ·have hlt:g1.1.toNat<l_.length:=om; have hch:=q3 _ hlt; have hpar:=q5 _ hlt; have hpc:=q4 _ hlt; have hrl:=tH l_ s_ g1.1.toNat; have hgl:g1.2.length=l_.length:=(by rw [bQ,List.length_append,hrl,List.length_replicate]; omega);refine wm<|wn ?_;refine aG (Ot ob ob ob ob) λ v7 hv7=>?_;subst v7;refine bW ?_ ?_<;>intro c2
   ·have ku:=c2;have c2:=fq c2;refine wm<|cZ _ ?_ ?_
    ·(refine ⟨ob,ob,?_⟩; dsimp only; exact rD bQ om (by unfold WZ; rw [ku]; rfl))
    ·exact ob
   ·have ku:=c2;have c2:=fq c2;have hget:g1.2.getD (kJ (l_.getD g1.1.toNat aI) (s_.getD g1.1.toNat 0)).toNat dW=(rM l_ s_ g1.1.toNat).getD (kJ (l_.getD g1.1.toNat aI) (s_.getD g1.1.toNat 0)).toNat dW:=by rw [bQ]; exact mG _ om
    refine wn<|bW ?_ ?_<;>intro c3
    ·have kr:=c3;have c3:=fq c3;refine wm<|cZ _ ?_ ?_
     ·(refine ⟨ob,ob,?_⟩; dsimp only; exact rD bQ om (by unfold WZ; rw [ku,← hget,show (oO _||_)=true from kr]; rfl))
     ·exact ob
    ·have kr:=c3;have c3:=fq c3;refine bW ?_ ?_<;>intro c4
     ·have vw:=c4;have c4:=fq c4;refine wn<|aG (Xa) λ v8 DJ=>?_;subst v8;refine wm<|cZ _ ?_ ?_
      ·(refine ⟨ob,ob,?_⟩; dsimp only; exact rD bQ om (by unfold WZ; rw [ku,← hget,show (oO _||_)=false from kr,vw]; rfl))
      ·exact ob
     ·have vw:=c4;have c4:=fq c4;refine bW ?_ ?_<;>intro c5
      ·have Dr:=c5;have c5:=fq c5;refine wn<|aG (TS) λ v9 hv9=>?_;subst v9;refine wm<|cZ _ ?_ ?_
       ·(refine ⟨ob,ob,?_⟩; dsimp only; exact rD bQ om (by unfold WZ; rw [ku,← hget,show (oO _||_)=false from kr,vw,Dr]; rfl))
       ·exact ob
      ·have Dr:=c5;have c5:=fq c5;refine wm<|wn ?_;refine cZ _ ?_ ?_
       ·(refine ⟨ob,ob,?_⟩; dsimp only; exact rD bQ om (by unfold WZ; rw [ku,← hget,show (oO _||_)=false from kr,vw,Dr]; rfl))
       ·exact ob
  ·refine au ?_;(rw [bQ,show g1.1.toNat=l_.length by omega,Nat.sub_self]; simp [gy])
 ·(refine ⟨ob,ob,?_⟩; simp [rM])
theorem VJ {l_:List ay} {s_:List Int} (h1:l_.length≤2000000) (h2:s_.length≤2000000) (h3:aas l_):W (yx l_ s_) (λ r=>r=wB l_ s_):=by
 unfold yx;refine aG (zJ (rC ob)) λ v1 hv1=>?_;subst v1;refine bW ?_ ?_<;>intro c1
 ·have fV:=c1;have c1:=fq c1;refine au ?_;(unfold wB; rw [fV]; rfl)
 ·have fV:=c1;have c1:=fq c1;have hck:eG l_=0:=by simpa using fV
  refine aG (vL ob ob ob) λ v2 hv2=>?_;subst v2;refine bW ?_ ?_<;>intro c2
  ·have ku:=c2;have c2:=fq c2;refine au ?_;(unfold wB; rw [fV,ku]; rfl)
  ·have ku:=c2;have c2:=fq c2;have hgd:=PG (qy hck) (show kg l_ s_=true by simpa using ku);refine aG (VI ob) λ v3 hv3=>?_;subst v3;refine au ?_;(unfold wB; rw [fV,ku]; rfl)
theorem Gl {l:List ay}:∀ {s t:List Int},VS l s→VS l t→gJ l s=gJ l t→s=t:=by
 induction l with
 | nil=>
  intro s t hs ht _;rw [List.length_eq_zero_iff.1 hs.1,List.length_eq_zero_iff.1 ht.1]
 | cons c l ih=>
  intro s t hs ht e;obtain ⟨x,s,rfl,x0,x1,hs⟩:=Uf hs;obtain ⟨y,t,rfl,y0,y1,ht⟩:=Uf ht;have p1:=Hg hs;have p2:=Hg ht;rw [gJ,gJ] at e;have hd:x.toNat=y.toNat:=by
   rcases Nat.lt_trichotomy x.toNat y.toNat with q | q | q
   ·have:(x.toNat+1)*gW l≤y.toNat*gW l:=Nat.mul_le_mul_right _ om;rw [Nat.add_mul,Nat.one_mul] at this;omega
   ·exact q
   ·have:(y.toNat+1)*gW l≤x.toNat*gW l:=Nat.mul_le_mul_right _ om;rw [Nat.add_mul,Nat.one_mul] at this;omega
  rw [hd] at e;rw [show x=y by omega,ih hs ht om]
theorem any_take_succ {α:Type} (P:α→Bool) (l:List α) (d:α) {i:Nat} (h:i<l.length):(l.take (i+1)).any P=((l.take i).any P||P (l.getD i d)):=by
 rw [List.take_add_one,List.any_append,List.getElem?_eq_getElem h,List.getD_eq_getElem?_getD,List.getElem?_eq_getElem h];simp
def Low (C:List Bool→Prop) (ls:List Int) (s:List Bool):Prop:=∀t:List Bool,C t→(∀x∈ls,t.getD x.toNat false=true)→∀i:Nat,s.getD i false=true→t.getD i false=true
def jn {α:Type} (f:aS→List α) (l:List aS) (ms:List Int):List α:=ms.flatMap λ m=>f (l.getD m.toNat bG)
variable {b_:aY} {g_:aR}
theorem OO {aj:List Int} {dJ:Int} (h1:He b_) (h2:GSz b_.aZ) (h3:Qj l_) (h4:aj.length≤10000) (h5:Ja g_):W (yI b_ l_ aj g_ dJ) (λ r=>r=0→CB b_ l_ 0∧(Hr b_.aZ 0∧Uj b_.aZ (g_.Uses.map aP.jd))∧0≤dJ∧dJ<l_.length):=by
 unfold yI;refine aG (Ap h1 h2 h3) λ v1 hv1=>?_;refine bW ?_ ?_<;>intro c1
 ·have c1:=fq c1;exact au λ e=>absurd e c1
 have c1:=fq c1;rw [c1] at hv1;have hl:=(Gi hv1).2.1;refine aG (uF om om) λ v2 _=>?_;refine bW (λ c2=>au nofun) (λ c2=>?_);refine aG (P:=λ v=>v=true→Hr b_.aZ 0∧Uj b_.aZ (g_.Uses.map aP.jd)) ?_ λ v3 hv3=>?_
 ·unfold NZ;refine aG (XO h1 h2 h3 h4 h5) λ v hv=>au λ e=>?_;have e:v=0:=by simpa using e
  rw [e] at hv;exact acZ hv
 refine bW (λ c3=>au nofun) (λ c3=>?_);have c3:=fq c3;refine bW (λ c4=>au nofun) (λ c4=>?_);have c4:=fq c4;exact au λ _=>⟨hv1,hv3 c3,c4.1,c4.2⟩
theorem Gm {l_:List Int} {x_:Int} (h:l_.length≤2000000):W (Eu l_ x_) (λ r=>r=l_.contains x_):=by
 unfold Eu;refine bM (λ g1:Int=>0≤g1∧∀j:Nat,(j:Int)<g1→l_.getD j 0≠x_) (λ g1=>(l_.length - g1).toNat) ?_ ⟨ob,λ j hj=>by omega⟩;intro ah g1 ⟨a1,a2⟩ ih1;unfold WW;refine wi ?_ ?_<;>intro c
 ·refine wn<|wi ?_ ?_<;>intro c2
  ·refine au (List.contains_iff_mem.2 ?_).symm;rw [← c2]; exact getD_in 0 om
  ·exact aQ ob (ih1 _ ⟨om,eO a2 a1 c2⟩ om)
 ·refine au ?_;cases q:l_.contains x_ with
  | false=>rfl
  | true=>
   have:∀y∈l_,y≠x_:=oQ 0 λ j hj=>a2 j om;exact absurd rfl (this _ (List.contains_iff_mem.1 q))
theorem ac1 {l_:List aP} (h1:l_.length≤2000000) (h2:M_.length≤10000):W (PD l_ M_) (λ r=>r=Mk M_ l_):=by
 unfold PD;refine bM (λ g1:Int×List aP=>0≤g1.1∧g1.1≤l_.length∧g1.2=Mk M_ (l_.take g1.1.toNat)) (λ g1=>(l_.length - g1.1).toNat) ?_ ⟨ob,ob,rfl⟩;intro ah g1 ⟨a1,a2,a3⟩ ih1;have hl:g1.2.length≤g1.1.toNat:=by
  rw [a3]; unfold Mk;exact Nat.le_trans (List.length_filter_le _ _) (by rw [List.length_take]; omega)
 unfold TH;refine wi ?_ ?_<;>intro c
 ·have hs:=Jg (λ u:aP=>M_.contains u.gG) l_ bF (i:=g1.1.toNat) om;have e:(g1.1+1).toNat=g1.1.toNat+1:=by omega
  refine wn<|aG (Gm om) λ v8 DJ=>?_;refine bW ?_ ?_<;>intro c2
  ·rw [c2] at DJ;refine aQ (by unfold big; omega) ?_;refine wn<|ih1 _ ⟨ob,ob,?_⟩ ob;dsimp only;unfold Mk at a3 ⊢;rw [e,hs,← a3,if_pos DJ.symm]
  ·rw [c2] at DJ;refine wn<|ih1 _ ⟨ob,ob,?_⟩ ob;dsimp only;unfold Mk at a3 ⊢;rw [e,hs,← a3,if_neg (by rw [← DJ]; exact Bool.false_ne_true),List.append_nil]
 ·exact au (by rw [a3,List.take_of_length_le om])
theorem LV {l_:List aP} (h1:l_.length≤2000000) (h2:M_.length≤10000):W (yJ l_ M_) (λ r=>r=Mk M_ l_):=by
 unfold yJ;refine bM (λ g1:Int×List aP=>0≤g1.1∧g1.1≤l_.length∧g1.2=Mk M_ (l_.take g1.1.toNat)) (λ g1=>(l_.length - g1.1).toNat) ?_ ⟨ob,ob,rfl⟩;intro ah g1 ⟨a1,a2,a3⟩ ih1;have hl:g1.2.length≤g1.1.toNat:=by
  rw [a3]; unfold Mk;exact Nat.le_trans (List.length_filter_le _ _) (by rw [List.length_take]; omega)
 unfold LC;refine wi ?_ ?_<;>intro c
 ·have hs:=Jg (λ u:aP=>M_.contains u.gG) l_ bF (i:=g1.1.toNat) om;have e:(g1.1+1).toNat=g1.1.toNat+1:=by omega
  refine wn<|aG (Gm om) λ v8 DJ=>?_;refine bW ?_ ?_<;>intro c2
  ·rw [c2] at DJ;refine aQ (by unfold big; omega) ?_;refine wn<|ih1 _ ⟨ob,ob,?_⟩ ob;dsimp only;unfold Mk at a3 ⊢;rw [e,hs,← a3,if_pos DJ.symm]
  ·rw [c2] at DJ;refine wn<|ih1 _ ⟨ob,ob,?_⟩ ob;dsimp only;unfold Mk at a3 ⊢;rw [e,hs,← a3,if_neg (by rw [← DJ]; exact Bool.false_ne_true),List.append_nil]
 ·exact au (by rw [a3,List.take_of_length_le om])
theorem OP (h1:He b_) (h2:GSz b_.aZ) (h3:Qj l_) (h4:M_.length≤10000) (h5:g_.Uses.length≤2000000):W (Bh b_ l_ M_ g_) (λ r=>Ga2 r∧r.2.2.2.2.2.2.2.length≤g_.Uses.length∧(r.2.2.2.2.2.2.1=0→r.2.2.2.2.2.2.2=Mk M_ g_.Uses)):=by
 obtain ⟨z1,z2,z3,z4,z5,z6,z7⟩:=id h1;unfold Bh;refine aG (Ap h1 h2 h3) λ v1 hv1=>?_;refine bW (λ c1=>au ⟨Aq _ _,by simp,λ e=>by have c1:=fq c1; exact absurd e c1⟩) (λ c1=>?_);have c1:=fq c1;rw [c1] at hv1;obtain ⟨hb,hl12,hnd⟩:=Gi hv1;refine aG (uF om om) λ v2 hv2=>?_;refine bW (λ c2=>au ⟨Aq _ _,by simp,nofun⟩) (λ c2=>?_);have c2:=fq c2;have hdf:=hv2.1 c2;refine aG (ZP (λ x hx=>by have:=(hnd x hx).ll; omega) h4) λ v3 _=>?_;refine aG (aaN (λ x hx=>by have:=(hnd x hx).dl; omega) h4) λ v4 _=>?_;refine aG (xR (P:=λ _=>True) λ _=>Gj (λ x hx=>(hnd x hx).fl) h4) λ v5 _=>?_;refine bW (λ c3=>au ⟨Aq _ _,by simp,nofun⟩) (λ c3=>?_);simp only [Bool.or_eq_false_iff] at c3;obtain ⟨⟨c3,c3'⟩,_⟩:=c3;have c3:=fq c3; have c3:=fq c3';refine aG (Rx z1 om) λ v6 hv6=>?_;refine bW (λ c4=>au ⟨Aq _ _,by simp,nofun⟩) (λ c4=>?_);have c4:=fq c4;have hst:=(hv6 c4).1;have hsl:v6.1.length=b_.bS.length:=by
  unfold kg at hst;rw [Bool.and_eq_true] at hst;have:=hst.1;simp only [beq_iff_eq] at this;omega
 refine aG (Sp.Rw z3 om) λ v7 hv7=>?_;refine bW (λ c5=>au ⟨Aq _ _,by simp,nofun⟩) (λ c5=>?_);have c5:=fq c5;rw [hv7] at c5;have hle:=Sp.aby c5;rw [← hv7] at hle;refine bM (λ g1:Int×List Int×List Int=>0≤g1.1∧g1.1≤M_.length∧g1.2.1.length≤2000000*g1.1.toNat∧g1.2.2.length≤g1.1.toNat) (λ g1=>(M_.length - g1.1).toNat) ?_ ⟨ob,ob,by simp,by simp⟩;intro ah g1 ⟨a1,a2,a3,a4⟩ ih1;unfold Lm;refine wi ?_ ?_<;>intro c
 ·have hm:=(hdf g1.1.toNat om).1;have hx:=(h3.nd _ (getD_in (i:=(M_.getD g1.1.toNat 0).toNat) bG om)).1;have e:(g1.1+1).toNat=g1.1.toNat+1:=by omega
  refine wn<|aQ hm ?_;refine aQ (by unfold big; omega) ?_;refine aQ hm ?_;refine bW ?_ ?_<;>intro c6
  ·refine aQ hm ?_;refine aQ (by unfold big; omega) ?_;refine wn ?_;exact ih1 _ ⟨ob,ob,by dsimp only; rw [List.length_append,e]; omega,by dsimp only; rw [List.length_append,List.length_singleton,e]; omega⟩ ob
  ·refine wn ?_;exact ih1 _ ⟨ob,ob,by dsimp only; rw [List.length_append,e]; omega,by dsimp only; rw [e]; omega⟩ ob
 ·refine aG (LU z6 om (by have:=hb.rs.len; omega)) λ v8 DJ=>?_;refine aG (Xj om z7) λ v9 hv9=>?_;refine aG (ac1 h5 h4) λ v10 Jc=>?_;subst Jc;have hfl:(Mk M_ g_.Uses).length≤g_.Uses.length:=List.length_filter_le _ _;have:=hb.rs.len;exact au ⟨⟨by dsimp only; omega,by dsimp only; omega,by dsimp only; omega,by dsimp only; omega,by dsimp only; omega⟩,hfl,λ _=>rfl⟩
theorem Ul (h1:He b_) (h2:GSz b_.aZ) (h3:Qj l_) (h4:M_.length≤10000) (h5:g_.Uses.length≤2000000):W (yK b_ l_ g_ M_) (λ r=>Ga2 r∧r.2.2.2.2.2.2.2.length≤g_.Uses.length∧(r.2.2.2.2.2.2.1=0→r.2.2.2.2.2.2.2=Mk M_ g_.Uses)):=by
 obtain ⟨z1,z2,z3,z4,z5,z6,z7⟩:=id h1;unfold yK;refine aG (Ap h1 h2 h3) λ v1 hv1=>?_;refine bW (λ c1=>au ⟨Aq _ _,by simp,λ e=>by have c1:=fq c1; exact absurd e c1⟩) (λ c1=>?_);have c1:=fq c1;rw [c1] at hv1;obtain ⟨hb,hl12,hnd⟩:=Gi hv1;refine aG (uF om om) λ v2 hv2=>?_;refine bW (λ c2=>au ⟨Aq _ _,by simp,nofun⟩) (λ c2=>?_);have c2:=fq c2;have hdf:=hv2.1 c2;refine aG (Uk (λ x hx=>by have:=(hnd x hx).ll; omega) h4) λ v3 _=>?_;refine aG (VH (λ x hx=>by have:=(hnd x hx).dl; omega) h4) λ v4 _=>?_;refine aG (xR (P:=λ _=>True) λ _=>Gj (λ x hx=>(hnd x hx).fl) h4) λ v5 _=>?_;refine bW (λ c3=>au ⟨Aq _ _,by simp,nofun⟩) (λ c3=>?_);simp only [Bool.or_eq_false_iff] at c3;obtain ⟨⟨c3,c3'⟩,_⟩:=c3;have c3:=fq c3; have c3:=fq c3';refine aG (Rx z1 om) λ v6 hv6=>?_;refine bW (λ c4=>au ⟨Aq _ _,by simp,nofun⟩) (λ c4=>?_);have c4:=fq c4;have hst:=(hv6 c4).1;have hsl:v6.1.length=b_.bS.length:=by
  unfold kg at hst;rw [Bool.and_eq_true] at hst;have:=hst.1;simp only [beq_iff_eq] at this;omega
 refine aG (Sp.Rw z3 om) λ v7 hv7=>?_;refine bW (λ c5=>au ⟨Aq _ _,by simp,nofun⟩) (λ c5=>?_);have c5:=fq c5;rw [hv7] at c5;have hle:=Sp.aby c5;rw [← hv7] at hle;refine bM (λ g1:Int×List Int×List Int=>0≤g1.1∧g1.1≤M_.length∧g1.2.1.length≤2000000*g1.1.toNat∧g1.2.2.length≤g1.1.toNat) (λ g1=>(M_.length - g1.1).toNat) ?_ ⟨ob,ob,by simp,by simp⟩;intro ah g1 ⟨a1,a2,a3,a4⟩ ih1;unfold Ez;refine wi ?_ ?_<;>intro c
 ·have hm:=(hdf g1.1.toNat om).1;have hx:=(h3.nd _ (getD_in (i:=(M_.getD g1.1.toNat 0).toNat) bG om)).1;have e:(g1.1+1).toNat=g1.1.toNat+1:=by omega
  refine wn<|aQ hm ?_;refine aQ (by unfold big; omega) ?_;refine aQ hm ?_;refine bW ?_ ?_<;>intro c6
  ·refine aQ hm ?_;refine aQ (by unfold big; omega) ?_;refine wn ?_;exact ih1 _ ⟨ob,ob,by dsimp only; rw [List.length_append,e]; omega,by dsimp only; rw [List.length_append,List.length_singleton,e]; omega⟩ ob
  ·refine wn ?_;exact ih1 _ ⟨ob,ob,by dsimp only; rw [List.length_append,e]; omega,by dsimp only; rw [e]; omega⟩ ob
 ·refine aG (LU z6 om (by have:=hb.rs.len; omega)) λ v8 DJ=>?_;refine aG (Xj om z7) λ v9 hv9=>?_;refine aG (LV h5 h4) λ v10 Jc=>?_;subst Jc;have hfl:(Mk M_ g_.Uses).length≤g_.Uses.length:=List.length_filter_le _ _;have:=hb.rs.len;exact au ⟨⟨by dsimp only; omega,by dsimp only; omega,by dsimp only; omega,by dsimp only; omega,by dsimp only; omega⟩,hfl,λ _=>rfl⟩
theorem aaO (h1:He b_) (h2:GSz b_.aZ):W (J8 b_) (λ r=>Ja r.1∧r.1.Uses=[]):=by
 unfold J8;refine aG (OP h1 h2 ⟨by simp,nofun⟩ (by simp) (by simp)) λ v1 ⟨hga,hgl,_⟩=>?_;have:v1.2.2.2.2.2.2.2=[]:=List.length_eq_zero_iff.1 (by simpa using hgl);exact au ⟨⟨hga.a,hga.b,hga.c,by dsimp only; rw [this]; simp,hga.d,hga.e⟩,this⟩
variable {jR:List Int}
theorem aeQ {p_:bP} {l_:List ByteArray} (h1:∀g∈p_.aH,g.bZ.length≤2000000∧g.ak.length≤2000000) (h2:l_.length≤2000000) (hp:aiD p_) (hg:acT p_ l_ jR):W (PE p_ l_ jR) (λ _=>True):=by
 unfold PE;refine aG (P:=λ _=>True) ?_ λ v1 _=>?_
 ·unfold N9;refine aG (EG h1) λ v1 _=>?_;refine bW (λ _=>au trivial) (λ _=>?_);refine bM (λ g1:Int=>0≤g1) (λ g1=>(l_.length - g1).toNat) ?_ (Int.le_refl _);intro ah g1 a1 ih1;unfold N8;refine bW (λ c=>?_) (λ _=>au trivial);have c:=fq c;refine aQ om ?_;refine aG Ao λ v4 _=>?_;exact bW (λ _=>au trivial) (λ _=>aQ (by unfold aD; omega) (ih1 _ om om))
 refine bW (λ _=>au trivial) (λ _=>?_);refine aG (P:=λ _=>True) ?_ λ v2 _=>bW (λ _=>au trivial) (λ _=>au trivial);unfold R5;refine bW (λ _=>au trivial) (λ c1=>?_);have c1:=fq c1;refine bM (λ g1:Int=>0≤g1) (λ g1=>(jR.length - g1).toNat) ?_ (Int.le_refl _);intro ah g1 a1 ih1;unfold Rn;refine bW (λ c=>?_) (λ _=>au trivial);have c:=fq c;have hx:=hg.ir _ (getD_in (i:=g1.toNat) 0 om);have hf:=(h1 _ (getD_in (i:=(jR.getD g1.toNat 0).toNat) aJ om)).2;refine aQ om ?_;refine aQ (λ _=>hx) ?_;refine aQ (λ _=>by omega) ?_;refine aG (xR λ _=>OG hf) λ v5 _=>?_;refine aQ (λ _=>by omega) ?_;refine aG (xR λ _=>Ry h1 (by rw [List.length_take]; omega) (λ x hx=>hg.ir x (List.mem_of_mem_take hx)) hx.1 hx.2 hp) λ v6 _=>?_;exact bW (λ _=>au trivial) (λ _=>aQ (by unfold aD; omega) (ih1 _ om om))
theorem XP {p_:bP} {l_:List ByteArray} (h1:∀g∈p_.aH,g.bZ.length≤2000000∧g.ak.length≤2000000) (h2:p_.aH.length≤2000000) (h3:l_.length≤2000000) (hp:aiD p_) (hg:acT p_ l_ jR) (hgl:jR.length≤l_.length):W (Dl p_ l_ jR) (λ r=>r.2=true→r.1.length=l_.length∧acT p_ l_ r.1∧r.1.take jR.length=jR):=by
 unfold Dl;refine bM (λ s:bP×List ByteArray×List Int=>s.1=p_∧s.2.1=l_∧s.2.2.length≤l_.length∧acT p_ l_ s.2.2∧jR.length≤s.2.2.length∧s.2.2.take jR.length=jR) (λ s=>l_.length - s.2.2.length) ?_ ⟨rfl,rfl,hgl,hg,Nat.le_refl _,List.take_length⟩;rintro self ⟨p,l,gs⟩ ⟨e1,e2,e3,e4,e5,e6⟩ ih;dsimp only at e1 e2 e3 e4 e5 e6;subst p l;unfold oL;refine wi ?_ ?_<;>intro c1
 ·refine aQ ob (au ?_);intro _;exact ⟨by dsimp only at c1 ⊢; omega,e4,e6⟩
 ·refine aQ (by dsimp only at c1 ⊢; omega) ?_;refine aG (XE h1 h2) λ v1 hv1=>?_;obtain ⟨k1,k2⟩:=hv1;refine bM (λ g:Int=>0≤g) (λ g:Int=>(v1.length - g).toNat) ?_ (Int.le_refl _);intro ah g1 hg1 ih1;unfold LG;refine bW ?_ ?_<;>intro c2
  ·have c2:=fq c2;have hx:=k2 _ (getD_in (i:=g1.toNat) 0 om);refine wn<|aG (Ry h1 (by dsimp only; omega) (λ x hx=>e4.ir x hx) hx.1.1 hx.1.2 hp) λ v6 h6=>?_;refine bW ?_ ?_<;>intro c3
   ·refine aQ ob (ih1 _ om om)
   ·refine aQ ob (aQ ob (aQ ob ?_));have hl:¬ gs.length=l_.length:=by (try dsimp only at c1); omega
    refine aG (ih _ ⟨rfl,rfl,by (simp only [List.length_append,List.length_singleton]; omega),?_,by (simp only [List.length_append,List.length_singleton]; omega),by dsimp only; rw [List.take_append_of_le_length e5]; exact e6⟩ (by (simp only [List.length_append,List.length_singleton]; omega))) λ v7 hv7=>?_
    ·exact ak5 e4 hx.1 hx.2 (h6 (by simpa using c3))
    ·refine bW (λ c4=>au λ _=>hv7 c4) (λ c4=>aQ ob (ih1 _ om om))
  ·exact au nofun
theorem XQ {p_:bP} {l_:List ByteArray} (h1:∀g∈p_.aH,g.bZ.length≤2000000∧g.ak.length≤2000000) (h2:l_.length≤2000000) (h3:p_.aH.length≤2000000) (hp:aiD p_) (hg:acT p_ l_ jR) (hgl:jR.length≤l_.length):W (Dn p_ l_ jR) (λ r=>r.2=0→r.1.length=l_.length∧acT p_ l_ r.1∧r.1.take jR.length=jR):=by
 unfold Dn;refine aG (aeQ h1 h2 hp hg) λ v1 _=>?_;refine bW (λ c1=>au λ e=>?_) (λ _=>?_)
 ·have c1:=fq c1; exact absurd e c1
 refine aG (XP h1 h3 h2 hp hg hgl) λ v2 hv2=>?_;refine bW (λ _=>au nofun) (λ c2=>au λ _=>hv2 (by simpa using c2))
theorem ZQ {l_:List aP} (h1:∀u∈l_,Xd b_.aZ u.jd) (h2:l_.length≤2000000):W (F7 b_ l_) (λ r=>r=(l_.map (λ u=>nmU b_.aZ u.jd),l_.map λ u=>u.jd.dz)):=by
 unfold F7;refine bM (λ g1:Int×List ByteArray×List Int=>0≤g1.1∧g1.1≤l_.length∧g1.2.1=(l_.take g1.1.toNat).map (λ u=>nmU b_.aZ u.jd)∧g1.2.2=(l_.take g1.1.toNat).map λ u=>u.jd.dz) (λ g1=>(l_.length - g1.1).toNat) ?_ ⟨ob,ob,rfl,rfl⟩;intro ah g1 ⟨a1,a2,a3,a4⟩ ih1;have l1:g1.2.1.length≤l_.length:=by rw [a3,List.length_map,List.length_take]; omega
 have l2:g1.2.2.length≤l_.length:=by rw [a4,List.length_map,List.length_take]; omega
 unfold N7;refine wi ?_ ?_<;>intro c
 ·have e:(g1.1+1).toNat=g1.1.toNat+1:=by omega
  obtain ⟨u1,u2,u3,u4⟩:=h1 _ (getD_in (i:=g1.1.toNat) bF om);refine wn<|aQ om ?_;refine aQ om ?_;refine aQ (by unfold big; omega) ?_;refine aQ (by unfold big; omega) ?_;refine wn<|ih1 _ ⟨ob,ob,?_,?_⟩ ob
  ·dsimp only;rw [e,Hl _ _ bF om,a3]; rfl
  ·dsimp only;rw [e,Hl _ _ bF om,a4]
 ·exact au (by rw [a3,a4,List.take_of_length_le om])
theorem am6 {p:bP} {us:List aP} {fs:List ByteArray} (h:Uj p (us.map aP.jd)):acT p (us.map (λ u=>nmU p u.jd)++fs) (us.map λ u=>u.jd.dz):=by
 refine ⟨λ x hx=>?_,λ k hk=>?_,λ k j hj hk=>?_⟩
 ·obtain ⟨u,hu,rfl⟩:=List.mem_map.1 hx;obtain ⟨u1,u2,_,_⟩:=PX h u hu;exact ⟨u1,u2⟩
 ·rw [List.length_map] at hk;have hk:k<us.length:=by omega
  obtain ⟨u1,u2,u3,u4⟩:=PX h _ (getD_in (i:=k) bF hk);rw [mG ByteArray.empty (by rw [List.length_map]; exact hk),Je (d:=bF) hk,Je (d:=bF) hk];exact ⟨(us.getD k bF).jd.dM.toNat,om,rfl⟩
 ·rw [List.length_map] at hk;have hk:k<us.length:=by omega
  have:=(h k (by rw [List.length_map]; omega)).2.2 j hj;rw [Je (d:=bF) hk,Je (d:=bF) om] at this ⊢;exact λ a c ha hc=>this a c ha hc
theorem aeR {us:List aP} (h:∀u∈us,u.gG∈ms):Mk ms us=us:=by
 unfold Mk;exact List.filter_eq_self.2 λ u hu=>by simpa using h u hu
theorem EI {dJ:Int} {dx:List Int} (h1:He b_) (h2:GSz b_.aZ) (h2':b_.aZ.aH.length≤2000000) (h3:Qj l_) (h4:dx.length≤9999) (h5:Ja g_) (h6:g_.Uses.length≤100000)
  (hd:∀u∈g_.Uses,u.gG∈dx):W (qX b_ l_ g_ dJ dx) (λ r=>r.2.2=0→(Ja r.1∧r.1.Uses.length≤g_.Uses.length+(l_.getD dJ.toNat bG).ak.length)∧
   (∀u∈r.1.Uses,u.gG∈dx++[dJ])∧∃new,r.1.Uses=g_.Uses++new∧∀u∈new,u.gG=dJ):=by
 unfold qX;refine aG (OO h1 h2 h3 om h5) λ v1 hv1=>?_;refine bW ?_ ?_<;>intro c1
 ·have c1:=fq c1;exact au λ e=>absurd e c1
 have c1:=fq c1;obtain ⟨hn,⟨hpa,ho⟩,hd0,hd1⟩:=hv1 c1;obtain ⟨hb,hl12,hnd⟩:=Gi hn;have aq9:=PX ho;refine aG (Gm om) λ v2 _=>?_;refine bW (λ c2=>au nofun) (λ c2=>?_);refine aQ (by unfold big; omega) ?_;refine aQ (by unfold big; omega) ?_;refine aG (LV om om) λ v11 akZ=>?_;rw [aeR hd] at akZ;subst akZ;unfold wz;refine aG (Ul h1 h2 h3 (by dsimp only; rw [List.length_append,List.length_singleton]; omega) (by dsimp only; omega)) λ v4 ⟨hga,_,hgl⟩=>?_;refine bW ?_ ?_<;>intro c3
 ·have c3:=fq c3;exact au λ e=>absurd e c3
 have c3:=fq c3;have hus:=hgl c3;dsimp only at hus;rw [aeR λ u hu=>List.mem_append_left _ (hd u hu)] at hus;refine aG (ZQ aq9 (by dsimp only; omega)) λ v10 Jc=>?_;subst Jc;have awY:=(hnd _ (getD_in (i:=dJ.toNat) bG om)).fl;unfold uQ;dsimp only;refine aQ ⟨hd0,hd1⟩ ?_;refine aQ (by rw [List.length_map]; unfold big; omega) ?_;refine aG (XQ h2 (by rw [List.length_append,List.length_map]; omega) h2' hpa.v (am6 ho) (by rw [List.length_append,List.length_map,List.length_map]; omega)) λ v6 hv6=>?_;refine bW (λ c4=>au nofun) (λ c4=>?_);have c4:=fq c4;obtain ⟨ha1,ha2,ha3⟩:=hv6 c4;rw [List.length_append,List.length_map] at ha1;rw [List.length_map] at ha3;refine aQ ⟨hd0,hd1⟩ ?_;refine bM (λ g3:Int×List aP=>0≤g3.1∧g3.1≤(l_.getD dJ.toNat bG).ak.length∧(∃new,g3.2=g_.Uses++new∧new.map (λ u=>(u.gG,nmU b_.aZ u.jd))=((l_.getD dJ.toNat bG).ak.take g3.1.toNat).map λ f=>(dJ,f))∧g3.2.map (λ u=>u.jd.dz)=v6.1.take (g_.Uses.length+g3.1.toNat)∧∀u∈g3.2,Xd b_.aZ u.jd) (λ g3=>((l_.getD dJ.toNat bG).ak.length - g3.1).toNat) ?_ ⟨ob,ob,⟨[],by dsimp only; rw [hus,List.append_nil],rfl⟩,?_,λ u hu=>?_⟩
 ·intro qJ g3 ⟨d1,d2,⟨new,d3,d4⟩,d5,d6⟩ ih3;have hnl:new.length=g3.1.toNat:=by
   have:=congrArg List.length d4;rw [List.length_map,List.length_map,List.length_take] at this;omega
  have hgl:g3.2.length=g_.Uses.length+g3.1.toNat:=by rw [d3,List.length_append,hnl]
  unfold Cy;refine wi ?_ ?_<;>intro c5
  ·dsimp only;rw [List.length_map];have e:((g_.Uses.length:Int)+g3.1).toNat=g_.Uses.length+g3.1.toNat:=by omega
   have e1:(g3.1+1).toNat=g3.1.toNat+1:=by omega
   have hx:=ha2.ir _ (getD_in (i:=g_.Uses.length+g3.1.toNat) 0 om);have hof:=ha2.off (g_.Uses.length+g3.1.toNat) om;rw [W9 ByteArray.empty (by rw [List.length_map]; omega),List.length_map,Nat.add_sub_cancel_left] at hof;rw [e];refine aQ om ?_;refine aQ (by unfold aD; omega) ?_;refine aQ om ?_;refine aQ hx ?_;have hff:=(h2 _ (getD_in (i:=(v6.1.getD (g_.Uses.length+g3.1.toNat) 0).toNat) aJ om)).2;refine aG (OG om) λ v9 ⟨t1,t2,t3,t4⟩=>?_;obtain ⟨k,k1,k2⟩:=hof;have t0:0≤v9:=Int.not_lt.1 λ q=>t4 q k k1 k2;have t5:=VD (t3 t0);refine aQ (by unfold big; omega) ?_;refine aQ (by unfold aD; omega) ?_;refine ih3 _ ⟨by dsimp only; omega,by dsimp only; omega,⟨new++[⟨dJ,⟨v6.1.getD (g_.Uses.length+g3.1.toNat) 0,v9⟩⟩],by dsimp only; rw [d3,List.append_assoc],?_⟩,?_,λ u hu=>?_⟩ (by dsimp only; omega)
   ·dsimp only;rw [e1,Hl _ _ ByteArray.empty om,List.map_append,d4,List.map_cons,List.map_nil];congr 3
   ·dsimp only;rw [List.map_append,d5,e1,← Nat.add_assoc,iK 0 om,List.map_cons,List.map_nil]
   ·rcases List.mem_append.1 hu with h | h
    ·exact d6 u h
    ·rw [List.mem_singleton] at h; rw [h];exact ⟨hx.1,hx.2,t0,t2⟩
  ·rw [List.take_of_length_le om] at d4 d5;have hnw:∀u∈new,u.gG=dJ:=by
    intro u h;have:(u.gG,nmU b_.aZ u.jd)∈(l_.getD dJ.toNat bG).ak.map λ f=>(dJ,f):=by rw [← d4]; exact List.mem_map.2 ⟨u,h,rfl⟩
    obtain ⟨f,_,e⟩:=List.mem_map.1 this;exact (Prod.mk.inj e).1.symm
   have hdv:∀u∈g3.2,u.gG∈dx++[dJ]:=by
    intro u hu;rw [d3] at hu;rcases List.mem_append.1 hu with h | h
    ·exact List.mem_append_left _ (hd u h)
    ·exact List.mem_append_right _ (List.mem_singleton.2 (hnw u h))
   exact au λ _=>⟨⟨⟨hga.a,hga.b,hga.c,by dsimp only; omega,hga.d,hga.e⟩,by dsimp only; omega⟩,hdv,new,d3,hnw⟩
 ·dsimp only;rw [hus,show (0:Int).toNat=0 from rfl,Nat.add_zero,ha3]
 ·dsimp only at hu;rw [hus] at hu;exact aq9 u hu
end Go.Proofs.YtifekdmmpbcdgaaGreatDoor
namespace Go.Proofs.YtifekdmmpbcdgaaGreatDoor
open Go.Ab
set_option maxRecDepth 1000000
set_option maxHeartbeats 4000000
theorem LW:wh true:=M.aoD 100 wh true (by decide +kernel)
end Go.Proofs.YtifekdmmpbcdgaaGreatDoor
namespace Go.Proofs.YtifekdmmpbcdgaaGreatDoor
open Go.Ab
set_option maxRecDepth 100000
theorem aeS {l_:List Int} {x_:Int} (h:l_.length≤2000000):W (TJ l_ x_) (λ r=>r=l_.contains x_):=by
 unfold TJ;refine bM (λ g1:Int=>0≤g1∧g1≤l_.length∧(l_.take g1.toNat).contains x_=false) (λ g1=>(l_.length - g1).toNat) ?_ ⟨ob,ob,by simp⟩;intro ah g1 ⟨a1,a2,a3⟩ ih1;unfold WY;refine wi ?_ ?_<;>intro c1
 ·refine wn ?_;have hlt:g1.toNat<l_.length:=by omega
  have e:l_.take (g1.toNat+1)=l_.take g1.toNat++[l_.getD g1.toNat 0]:=by
   rw [List.take_add_one,List.getElem?_eq_getElem hlt,List.getD_eq_getElem?_getD,List.getElem?_eq_getElem hlt]; rfl
  refine bW ?_ ?_<;>intro c2
  ·refine au ?_;have:l_.getD g1.toNat 0=x_:=by simpa using c2
   rw [← this,List.getD_eq_getElem?_getD,List.getElem?_eq_getElem hlt];exact (List.contains_iff_mem.2 (List.getElem_mem hlt)).symm
  ·refine wn<|ih1 _ ⟨ob,ob,?_⟩ ob;rw [show (g1+1).toNat=g1.toNat+1 by omega,e];have hne:¬ l_.getD g1.toNat 0=x_:=by simpa using c2
   have h3:¬ x_∈l_.take g1.toNat:=λ hm=>by rw [List.contains_iff_mem.2 hm] at a3; cases a3
   cases hc:(l_.take g1.toNat++[l_.getD g1.toNat 0]).contains x_ with
   | false=>rfl
   | true=>
    rcases List.mem_append.1 (List.contains_iff_mem.1 hc) with h | h
    ·exact absurd h h3
    ·exact absurd (List.mem_singleton.1 h).symm hne
 ·refine au ?_;rw [List.take_of_length_le om] at a3;exact a3.symm
theorem Jh {l_:List Int} {x_:Int} (h:l_.length≤2000000):W (vo l_ x_) (λ r=>r=l_.filter λ y=>y != x_):=by
 unfold vo;refine bM (λ g1:Int×List Int=>0≤g1.1∧g1.1≤l_.length∧g1.2=(l_.take g1.1.toNat).filter λ y=>y != x_) (λ g1=>(l_.length - g1.1).toNat) ?_ ⟨ob,ob,by simp⟩;intro ah g1 ⟨a1,a2,a3⟩ ih1;have hl:g1.2.length≤g1.1.toNat:=by
  rw [a3];exact Nat.le_trans (List.length_filter_le _ _) (by rw [List.length_take]; omega)
 unfold I5;refine wi ?_ ?_<;>intro c1
 ·refine wn ?_;have hlt:g1.1.toNat<l_.length:=by omega
  have e2:(g1.1+1).toNat=g1.1.toNat+1:=by omega
  have e:(l_.take (g1.1.toNat+1)).filter (λ y=>y != x_)=g1.2++(bif l_.getD g1.1.toNat 0 != x_ then [l_.getD g1.1.toNat 0] else []):=by
   rw [List.take_add_one,List.filter_append,← a3,List.getElem?_eq_getElem hlt,List.getD_eq_getElem?_getD,List.getElem?_eq_getElem hlt];congr 1
  refine bW ?_ ?_<;>intro c2
  ·refine wn<|aQ (by unfold big; omega) ?_;refine wn ?_;exact ih1 _ ⟨ob,ob,by dsimp only; rw [e2,e,c2]; rfl⟩ ob
  ·refine wn ?_;exact ih1 _ ⟨ob,ob,by dsimp only; rw [e2,e,c2]; exact (List.append_nil _).symm⟩ ob
 ·refine au ?_;rw [List.take_of_length_le om] at a3;exact a3
structure UsK (ms:List Int) (g:aR):Prop where
 dv:∀u∈g.Uses,u.gG∈ms
theorem XR {b_:aY} {l_:List aS} {M_:List Int} {g_:aR} {d_:Int} (h1:He b_) (h2:GSz b_.aZ) (h3:Qj l_) (h4:M_.length≤9999) (h5:Ja g_) (hk:UsK M_ g_):
  W (Dp b_ l_ M_ g_ d_) (λ r=>r.2=0→Ja r.1∧r.1.Uses.length≤g_.Uses.length∧UsK (M_.filter λ y=>y != d_) r.1∧r.1.Uses=Mk (M_.filter λ y=>y != d_) g_.Uses):=by
 obtain ⟨z1,z2,z3,z4,z5,z6⟩:=id h5;unfold Dp;refine aG (OO h1 h2 h3 om h5) λ v1 hv1=>?_;refine bW ?_ ?_<;>intro c1
 ·have c1:=fq c1;exact au λ e=>absurd e c1
 refine aG (Gm om) λ v2 _=>?_;refine bW (λ c2=>au nofun) (λ c2=>?_);refine aG (Jh om) λ v3 hv3=>?_;subst hv3;have hl:(M_.filter λ y=>y != d_).length≤M_.length:=List.length_filter_le _ _;refine aG (OP h1 h2 h3 om om) λ v4 ⟨hga,hul,hv4⟩=>?_;refine au λ e=>?_;have hus:=hv4 e;refine ⟨?_,hul,⟨λ u hu=>?_⟩,?_⟩
 ·exact ⟨hga.a,hga.b,hga.c,by dsimp only; omega,hga.d,hga.e⟩
 ·dsimp only at hu;rw [hus] at hu;exact List.contains_iff_mem.1 (List.mem_filter.1 hu).2
 ·dsimp only;exact hus
structure au3 (r:aY×List aS×aR×aR×List Int×Bool×dH):Prop where
 bd:amu r.1
 nl:r.2.1.length≤5
 nd:∀x∈r.2.1,x.bT.length≤1∧x.fI.length≤1∧x.ak.length≤2∧x.bA.length≤100∧x.bq.length≤100
 gf:Ja r.2.2.1
 gt:Ja r.2.2.2.1
 uf:r.2.2.1.Uses.length≤40
 ut:r.2.2.2.1.Uses.length≤40
 ml:r.2.2.2.2.1.length≤5
 ws:∀u:aP,u.gG∈r.2.2.2.2.1→(u∈r.2.2.1.Uses↔u∈r.2.2.2.1.Uses)
theorem ZR {dx:dH} (h1:0≤dx.At) (h2:dx.L.length≤600):W (F9 dx) au3:=by
 unfold F9;refine aG (TM h1 h2) λ v1 ⟨b1,b2,b3⟩=>?_;refine aG (Qe b1 om om b2 b3) λ v2 hv2=>?_;obtain ⟨n1,n2',n3,n4⟩:=hv2;have n2:∀x∈v2.1,x.bT.length≤1∧x.fI.length≤1∧x.ak.length≤2∧x.bA.length≤100∧x.bq.length≤100:=λ x hx=>have q:=n2' x hx; ⟨q.1,q.2.1,q.2.2.1,q.2.2.2.1,q.2.2.2.2.1⟩;have hbs:=alg b1;have hgs:GSz v1.1.aZ:=λ g hg=>by have:=b1.gr g hg; omega
 have hgn:=b1.ngr;have hns:Qj v2.1:=⟨om,λ n hn=>by have:=n2 n hn; omega⟩;refine aG (aaO hbs hgs) λ v3 ⟨s1,s2⟩=>?_;refine bW (λ _=>au ⟨b1,by dsimp only; omega,n2,s1,s1,by dsimp only; rw [s2]; simp,by dsimp only; rw [s2]; simp,by simp,λ _ _=>Iff.rfl⟩) (λ _=>?_);refine bM (λ g1:(Int×List Int×Int×List Int×List Bool×List Int×List aP×List Bool×List Bool×List Int)=>0≤g1.1∧g1.1≤v2.1.length∧0≤g1.2.2.1∧g1.2.1.length≤600∧Ja ⟨g1.2.2.2.1,⟨g1.2.2.2.2.1,g1.2.2.2.2.2.1⟩,g1.2.2.2.2.2.2.1,g1.2.2.2.2.2.2.2.1,g1.2.2.2.2.2.2.2.2.1⟩∧g1.2.2.2.2.2.2.1.length≤2*g1.1.toNat∧g1.2.2.2.2.2.2.2.2.2.length≤g1.1.toNat∧UsK g1.2.2.2.2.2.2.2.2.2 ⟨g1.2.2.2.1,⟨g1.2.2.2.2.1,g1.2.2.2.2.2.1⟩,g1.2.2.2.2.2.2.1,g1.2.2.2.2.2.2.2.1,g1.2.2.2.2.2.2.2.2.1⟩) (λ g1=>(v2.1.length - g1.1).toNat) ?_ ⟨ob,ob,n3,n4,s1,by dsimp only; rw [s2]; simp,by simp,⟨by dsimp only; rw [s2]; exact nofun⟩⟩;intro ah g1 ⟨a1,a2,a3,a4,a5,a6,a7,a8⟩ ih1;unfold Ob;refine wi ?_ ?_<;>intro c
 ·have hfx:=(n2 _ (getD_in (i:=g1.1.toNat) bG om)).2.2.1;have e:(g1.1+1).toNat=g1.1.toNat+1:=by omega
  refine aG (EI hbs hgs om hns om a5 (by dsimp only; omega) a8.dv) λ v8 DJ=>?_;refine bW ?_ ?_<;>intro c2
  ·refine aG (cu om a3 a4) λ v9 hv9=>?_;obtain ⟨_,_,_,q1,q2⟩:=hv9;refine bW ?_ ?_<;>intro c3
   ·have c4:v8.2.2=0:=by
     simp only [Bool.and_eq_true,beq_iff_eq] at c3;exact c3.1
    obtain ⟨⟨r1,r2⟩,r3,_⟩:=DJ c4;dsimp only at r2;refine aQ (by unfold big; omega) ?_;refine wn ?_;exact ih1 _ ⟨ob,ob,q1,q2,r1,by dsimp only; rw [e]; omega,by dsimp only; rw [List.length_append,List.length_singleton,e]; omega,⟨r3⟩⟩ ob
   ·refine wn ?_;exact ih1 _ ⟨ob,ob,q1,q2,a5,by dsimp only; rw [e]; omega,by dsimp only; rw [e]; omega,a8⟩ ob
  ·refine aQ (by cases h:(v8.2.2==(0:Int)) with | false=>rfl | true=>rw [h] at c2; cases c2) ?_;refine wn ?_;exact ih1 _ ⟨ob,ob,a3,a4,a5,by dsimp only; rw [e]; omega,by dsimp only; rw [e]; omega,a8⟩ ob
 ·refine aQ (by unfold big; omega) ?_;refine bM (λ g2:(List Int×Int×List Int×Int×List Int×List Bool×List Int×List aP×List Bool×List Bool)=>g2.1.length≤5∧0≤g2.2.1∧g2.2.1≤g1.2.2.2.2.2.2.2.2.2.length∧0≤g2.2.2.2.1∧g2.2.2.1.length≤600∧Ja ⟨g2.2.2.2.2.1,⟨g2.2.2.2.2.2.1,g2.2.2.2.2.2.2.1⟩,g2.2.2.2.2.2.2.2.1,g2.2.2.2.2.2.2.2.2.1,g2.2.2.2.2.2.2.2.2.2⟩∧g2.2.2.2.2.2.2.2.1.length≤10∧UsK g2.1 ⟨g2.2.2.2.2.1,⟨g2.2.2.2.2.2.1,g2.2.2.2.2.2.2.1⟩,g2.2.2.2.2.2.2.2.1,g2.2.2.2.2.2.2.2.2.1,g2.2.2.2.2.2.2.2.2.2⟩∧(∀x∈g2.1,x∈g1.2.2.2.2.2.2.2.2.2)∧∀u:aP,u.gG∈g2.1→(u∈g1.2.2.2.2.2.2.1↔u∈g2.2.2.2.2.2.2.2.1)) (λ g2=>(g1.2.2.2.2.2.2.2.2.2.length - g2.2.1).toNat) ?_ ⟨by dsimp only; omega,ob,ob,a3,a4,a5,by dsimp only; omega,a8,λ _ h=>h,λ _ _=>Iff.rfl⟩;intro dY g2 ⟨d0,d1,d2,d3,d4,d5,d6,d7,d8,d9⟩ ih2;unfold LJ;refine bW ?_ ?_<;>intro c2
  ·have c2:=fq c2;refine wn ?_;unfold BQ;refine aG (cu om d3 d4) λ v16 acG=>?_;obtain ⟨_,_,_,q1,q2⟩:=acG;refine bW ?_ ?_<;>intro c3
   ·refine aG (XR hbs hgs hns om d5 d7) λ v17 amQ=>?_;refine bW ?_ ?_<;>intro c4
    ·have c4:=fq c4;obtain ⟨r1,r2,r3,r4⟩:=amQ c4;dsimp only at r2;refine aG (Jh om) λ v18 apj=>?_;subst apj;have hfl:(g2.1.filter λ y=>y != g1.2.2.2.2.2.2.2.2.2.getD g2.2.1.toNat 0).length≤g2.1.length:=List.length_filter_le _ _;refine wn ?_;exact ih2 _ ⟨by dsimp only; omega,ob,ob,q1,q2,r1,by dsimp only; omega,r3,λ x hx=>d8 x (List.mem_filter.1 hx).1,λ u hu=>by
      dsimp only at r4 hu ⊢;rw [r4];unfold Mk;rw [List.mem_filter,d9 u (List.mem_filter.1 hu).1];exact ⟨λ h=>⟨h,List.contains_iff_mem.2 hu⟩,λ h=>h.1⟩⟩ ob
    ·refine wn ?_;exact ih2 _ ⟨by dsimp only; omega,ob,ob,q1,q2,d5,by dsimp only; omega,d7,d8,d9⟩ ob
   ·refine wn ?_;exact ih2 _ ⟨by dsimp only; omega,ob,ob,q1,q2,d5,by dsimp only; omega,d7,d8,d9⟩ ob
  ·have c2:=fq c2;refine aQ (by unfold big; omega) ?_;refine bM (λ g6:(Int×List Int×List Bool×List Int×List aP×List Bool×List Bool×List Int)=>0≤g6.1∧g6.1≤v2.1.length∧Ja ⟨g6.2.1,⟨g6.2.2.1,g6.2.2.2.1⟩,g6.2.2.2.2.1,g6.2.2.2.2.2.1,g6.2.2.2.2.2.2.1⟩∧g6.2.2.2.2.1.length≤10+2*g6.1.toNat∧g6.2.2.2.2.2.2.2.length≤5+g6.1.toNat∧UsK g6.2.2.2.2.2.2.2 ⟨g6.2.1,⟨g6.2.2.1,g6.2.2.2.1⟩,g6.2.2.2.2.1,g6.2.2.2.2.2.1,g6.2.2.2.2.2.2.1⟩∧∀u:aP,u.gG∈g2.1→(u∈g1.2.2.2.2.2.2.1↔u∈g6.2.2.2.2.1)) (λ g6=>(v2.1.length - g6.1).toNat) ?_ ⟨ob,ob,d5,by dsimp only; omega,by dsimp only; omega,d7,d9⟩;intro jD g6 ⟨e1,e2,e3,e4,e5,e6,e7⟩ ih6;unfold LH;refine wi ?_ ?_<;>intro c5
   ·have hfx:=(n2 _ (getD_in (i:=g6.1.toNat) bG om)).2.2.1;have e:(g6.1+1).toNat=g6.1.toNat+1:=by omega
    refine aG (EI hbs hgs om hns om e3 (by dsimp only; omega) e6.dv) λ v23 au4=>?_;refine aG (aeS om) λ v24 hv24=>?_;refine bW ?_ ?_<;>intro c6
    ·have c7:v23.2.2=0:=by
      simp only [Bool.and_eq_true,beq_iff_eq] at c6;exact c6.2
     obtain ⟨⟨r1,r2⟩,r3,new,rn1,rn2⟩:=au4 c7;have c8:v24=false:=by
      simp only [Bool.and_eq_true,Bool.not_eq_true'] at c6;exact c6.1
     dsimp only at r2;refine aQ (by unfold big; omega) ?_;refine wn ?_;exact ih6 _ ⟨ob,ob,r1,by dsimp only; rw [e]; omega,by dsimp only; rw [List.length_append,List.length_singleton,e]; omega,⟨r3⟩,λ u hu=>by
      dsimp only at rn1 ⊢;rw [rn1,List.mem_append,e7 u hu];refine ⟨λ h=>.inl h,λ h=>h.elim (λ h=>h) λ h=>?_⟩;exfalso;have q:=d8 _ hu;rw [rn2 u h] at q;rw [c8] at hv24;have:=List.contains_iff_mem.2 q;rw [← hv24] at this; cases this⟩ ob
    ·refine wn ?_;exact ih6 _ ⟨ob,ob,e3,by dsimp only; rw [e]; omega,by dsimp only; rw [e]; omega,e6,e7⟩ ob
   ·refine aG (cu om d3 d4) λ v26 _=>?_;refine bW ?_ ?_<;>intro _
    ·unfold qY;exact au ⟨b1,by dsimp only; omega,n2,e3,a5,by dsimp only; omega,by dsimp only; omega,d0,λ u hu=>(e7 u hu).symm⟩
    ·unfold qY;exact au ⟨b1,by dsimp only; omega,n2,a5,e3,by dsimp only; omega,by dsimp only; omega,d0,e7⟩
structure Eqv (g h:aR):Prop where
 st:g.Setting=h.Setting
 on:g.bX.On=h.bX.On
 lv:g.bX.bJ=h.bX.bJ
 re:g.Released=h.Released
 po:g.cO=h.cO
 us:(g.Uses.map aP.jd).Perm (h.Uses.map aP.jd)
theorem Eqv.refl (g:aR):Eqv g g:=⟨rfl,rfl,rfl,rfl,rfl,.refl _⟩
theorem Eqv.symm {g h:aR} (q:Eqv g h):Eqv h g:=⟨q.st.symm,q.on.symm,q.lv.symm,q.re.symm,q.po.symm,q.us.symm⟩
theorem Eqv.trans {g h k:aR} (q:Eqv g h) (r:Eqv h k):Eqv g k:=⟨q.st.trans r.st,q.on.trans r.on,q.lv.trans r.lv,q.re.trans r.re,q.po.trans r.po,q.us.trans r.us⟩
inductive ApW (g:aR) (w:aN):aR→Prop
 | k1 (k:w.fC=1) (u0:0≤w.Unit) (u1:w.Unit<g.Setting.length) (v0:0≤w.Value∧w.Value≤4611686018427387904):ApW g w { g with Setting:=g.Setting.set w.Unit.toNat w.Value }
 | k2 (k:w.fC=2) (u0:0≤w.Unit) (u1:w.Unit<g.bX.bJ.length) (v0:0≤w.Value∧w.Value≤4611686018427387904):ApW g w { g with bX:=⟨g.bX.On,g.bX.bJ.set w.Unit.toNat w.Value⟩ }
 | k3 (k:w.fC=3) (u0:0≤w.Unit) (u1:w.Unit<g.bX.On.length) (v0:0≤w.Value) (v1:w.Value≤1):ApW g w { g with bX:=⟨g.bX.On.set w.Unit.toNat (w.Value==1),g.bX.bJ⟩ }
 | k11 (k:w.fC=11) (u0:0≤w.Unit) (u1:w.Unit<g.Released.length) (v0:0≤w.Value) (v1:w.Value≤1):ApW g w { g with Released:=g.Released.set w.Unit.toNat (w.Value==1) }
 | k12 (k:w.fC=12) (u0:0≤w.Unit) (u1:w.Unit<g.cO.length) (v0:0≤w.Value) (v1:w.Value≤1):ApW g w { g with cO:=g.cO.set w.Unit.toNat (w.Value==1) }
 | k10 (k:w.fC=10) (u0:0≤w.Unit) (u1:w.Unit≤23) (v0:0≤w.Value∧w.Value≤4611686018427387904):ApW g w { g with Uses:=auT w.Unit w.Value (auU w.Unit g.Uses) }
inductive ApL:aR→List aN→aR→Prop
 | nil (g:aR):ApL g [] g
 | cons {g g1 h:aR} {w:aN} {ws:List aN} (a:ApW g w g1) (b:ApL g1 ws h):ApL g (w::ws) h
theorem ApL.one {g h:aR} {w:aN} (a:ApW g w h):ApL g [w] h:=.cons a (.nil _)
structure Bts (n:Nat) (P:Nat→Bool) (l:List Bool):Prop where
 len:l.length=n
 at_:∀j,j<n→l.getD j false=P j
variable {n:Nat} {P:Nat→Bool} {l:List Bool}
theorem Bts.ext {Q:Nat→Bool} {m:List Bool} (h:Bts n P l) (k:Bts n Q m) (e:∀j,j<n→P j=Q j):l=m:=by
 refine List.ext_getElem (by rw [h.len,k.len]) λ j h1 h2=>?_;have a:=h.at_ j (by rw [← h.len]; exact h1);have b:=k.at_ j (by rw [← k.len]; exact h2);rw [List.getD_eq_getElem?_getD,List.getElem?_eq_getElem h1,Option.getD_some] at a;rw [List.getD_eq_getElem?_getD,List.getElem?_eq_getElem h2,Option.getD_some] at b;rw [a,b];exact e j (by rw [← h.len]; exact h1)
theorem Bts.set (h:Bts n P l) {i:Nat} (hi:i<n) (v:Bool):Bts n (λ j=>if j=i then v else P j) (l.set i v):=by
 refine ⟨by rw [List.length_set]; exact h.len,λ j hj=>?_⟩;rw [List.getD_eq_getElem?_getD,List.getElem?_set];by_cases e:j=i
 ·subst e;rw [if_pos rfl,if_pos rfl,if_pos (by rw [h.len]; exact hi)]; rfl
 ·rw [if_neg (λ k=>e k.symm),if_neg e,← List.getD_eq_getElem?_getD];exact h.at_ j hj
theorem Bts.ard {Q:Nat→Bool} (h:Bts n P l) (e:∀j,j<n→P j=Q j):Bts n Q l:=⟨h.len,λ j hj=>(h.at_ j hj).trans (e j hj)⟩
structure Ats {α:Type} (d:α) (n:Nat) (P:Nat→α) (l:List α):Prop where
 len:l.length=n
 at_:∀j,j<n→l.getD j d=P j
variable {α:Type}
theorem Ats.ext {d:α} {P Q:Nat→α} {l m:List α} (h:Ats d n P l) (k:Ats d n Q m) (e:∀j,j<n→P j=Q j):l=m:=by
 refine List.ext_getElem (by rw [h.len,k.len]) λ j h1 h2=>?_;have a:=h.at_ j (by rw [← h.len]; exact h1);have b:=k.at_ j (by rw [← k.len]; exact h2);rw [List.getD_eq_getElem?_getD,List.getElem?_eq_getElem h1,Option.getD_some] at a;rw [List.getD_eq_getElem?_getD,List.getElem?_eq_getElem h2,Option.getD_some] at b;rw [a,b];exact e j (by rw [← h.len]; exact h1)
theorem Ats.set {d:α} {P:Nat→α} {l:List α} (h:Ats d n P l) {i:Nat} (hi:i<n) (v:α):Ats d n (λ j=>if j=i then v else P j) (l.set i v):=by
 refine ⟨by rw [List.length_set]; exact h.len,λ j hj=>?_⟩;rw [List.getD_eq_getElem?_getD,List.getElem?_set];by_cases e:j=i
 ·subst e;rw [if_pos rfl,if_pos rfl,if_pos (by rw [h.len]; exact hi)]; rfl
 ·rw [if_neg (λ k=>e k.symm),if_neg e,← List.getD_eq_getElem?_getD];exact h.at_ j hj
theorem Ats.ard {d:α} {P Q:Nat→α} {l:List α} (h:Ats d n P l) (e:∀j,j<n→P j=Q j):Ats d n Q l:=⟨h.len,λ j hj=>(h.at_ j hj).trans (e j hj)⟩
theorem Ats.self {d:α} (l:List α):Ats d l.length (λ j=>l.getD j d) l:=⟨rfl,λ _ _=>rfl⟩
def jnL (a b:bD) (j:Nat):Int:=if a.On.getD j false=true then (if b.On.getD j false=true then (if b.bJ.getD j 0 > a.bJ.getD j 0 then b.bJ.getD j 0 else a.bJ.getD j 0) else a.bJ.getD j 0) else b.bJ.getD j 0
end Go.Proofs.YtifekdmmpbcdgaaGreatDoor
namespace Go.Bf
section
variable (nb:Nat→Nat→Prop) (a:Nat)
inductive Rch:Nat→Nat→Prop
 | z:Rch 0 a
 | s {k:Nat} {x y:Nat} (h:Rch k x) (n:nb x y):Rch (k+1) y
def IsD (x:Nat) (k:Nat):Prop:=Rch nb a k x∧∀j,Rch nb a j x→k≤j
structure Bfs (dn qu:List Nat) (D:Nat→Option Nat):Prop where
 a0:D a=some 0
 mem:∀x,(D x).isSome=true↔x∈dn∨x∈qu
 rk:∀x k,D x=some k→Rch nb a k x
 near:∀x∈dn,∀y,nb x y→∃k k',D x=some k∧D y=some k'∧k'≤k+1
 ord:qu.Pairwise λ x y=>∀k k',D x=some k→D y=some k'→k≤k'
 top:∀x,qu.head? = some x→∀y k k',D x=some k→D y=some k'→k'≤k+1
structure E8 (x:Nat) (dn rest:List Nat) (D:Nat→Option Nat) (V:Nat→Prop):Prop where
 b:Bfs nb a dn (x::rest) D
 v:∀y,V y→nb x y→∃k k',D x=some k∧D y=some k'∧k'≤k+1
end
section
variable {nb:Nat→Nat→Prop} {a:Nat}
def jf (D:Nat→Option Nat) (y:Nat) (k:Nat):Nat→Option Nat:=λ z=>if z=y then some k else D z
theorem Bfs.start:Bfs nb a [] [a] (λ x=>if x=a then some 0 else none) where
 a0:=if_pos rfl
 mem:=λ x=>by
  by_cases h:x=a<;>simp [h]
 rk:=λ x k h=>by
  by_cases e:x=a
  ·subst e; simp at h; subst h; exact .z
  ·simp [e] at h
 near:=λ x h=>by cases h
 ord:=by simp
 top:=λ x h y k k' h1 h2=>by
  by_cases e:y=a
  ·simp [e] at h2; omega
  ·simp [e] at h2
variable {x:Nat} {dn:List Nat} {rest:List Nat} {D:Nat→Option Nat}
theorem Bfs.head (h:Bfs nb a dn (x::rest) D):∃k,D x=some k:=by
 have:=(h.mem x).2 (.inr List.mem_cons_self);exact Option.isSome_iff_exists.1 this
theorem Bfs.mid (h:Bfs nb a dn (x::rest) D):E8 nb a x dn rest D (λ _=>False):=⟨h,λ _ h=>h.elim⟩
variable {y:Nat} {V:Nat→Prop}
theorem E8.old (h:E8 nb a x dn rest D V) {k':Nat} (hy:D y=some k'):E8 nb a x dn rest D (λ z=>V z∨z=y):=
 ⟨h.b,λ z hz hn=>by
  rcases hz with hz | rfl
  ·exact h.v z hz hn
  ·obtain ⟨k,hk⟩:=h.b.head;exact ⟨k,k',hk,hy,h.b.top x rfl z k k' hk hy⟩⟩
theorem E8.skip (h:E8 nb a x dn rest D V) (hn:¬ nb x y):E8 nb a x dn rest D (λ z=>V z∨z=y):=
 ⟨h.b,λ z hz hn'=>by
  rcases hz with hz | rfl
  ·exact h.v z hz hn'
  ·exact absurd hn' hn⟩
variable {k:Nat}
theorem E8.new (h:E8 nb a x dn rest D V) (hx:D x=some k) (hy:D y=none) (hn:nb x y):E8 nb a x dn (rest++[y]) (jf D y (k+1)) (λ z=>V z∨z=y):=by
 have e0:∀z q,D z=some q→jf D y (k+1) z=some q:=λ z q hz=>by
  unfold jf;rw [if_neg (λ e=>by subst e; rw [hy] at hz; cases hz)];exact hz
 have ey:jf D y (k+1) y=some (k+1):=if_pos rfl;have inv:∀z q,jf D y (k+1) z=some q→(z=y∧q=k+1)∨(z≠y∧D z=some q):=λ z q hz=>by
  unfold jf at hz;by_cases e:z=y
  ·rw [if_pos e] at hz; exact .inl ⟨e,(Option.some.inj hz).symm⟩
  ·rw [if_neg e] at hz; exact .inr ⟨e,hz⟩
 refine ⟨⟨e0 _ _ h.b.a0,λ z=>?_,λ z q hz=>?_,λ z hz w hw=>?_,?_,λ z hz w q q' h1 h2=>?_⟩,λ z hz hn'=>?_⟩
 ·by_cases e:z=y
  ·subst e; rw [ey]; simp
  ·unfold jf;rw [if_neg e,h.b.mem];simp [e]
 ·rcases inv z q hz with ⟨rfl,rfl⟩ | ⟨_,h1⟩
  ·exact .s (h.b.rk x k hx) hn
  ·exact h.b.rk z q h1
 ·obtain ⟨q,q',h1,h2,h3⟩:=h.b.near z hz w hw;exact ⟨q,q',e0 _ _ h1,e0 _ _ h2,h3⟩
 ·have h1:(x::rest).Pairwise λ x y'=>∀q q',jf D y (k+1) x=some q→jf D y (k+1) y'=some q'→q≤q':=by
   refine List.Pairwise.imp_of_mem ?_ h.b.ord;intro z w hz hw hzw q q' h1 h2;obtain ⟨qz,ez⟩:=Option.isSome_iff_exists.1 ((h.b.mem z).2 (.inr hz));obtain ⟨qw,ew⟩:=Option.isSome_iff_exists.1 ((h.b.mem w).2 (.inr hw));have a1:=e0 z qz ez;have a2:=e0 w qw ew;rw [h1] at a1; rw [h2] at a2;have a1:=Option.some.inj a1;have a2:=Option.some.inj a2;subst a1 a2;exact hzw q q' ez ew
  rw [← List.cons_append];refine List.pairwise_append.2 ⟨h1,by simp,λ z hz w hw q q' g1 g2=>?_⟩;have hw:=List.mem_singleton.1 hw;subst hw;rw [ey] at g2;have g2:=Option.some.inj g2;obtain ⟨qz,ez⟩:=Option.isSome_iff_exists.1 ((h.b.mem z).2 (.inr hz));have a1:=e0 z qz ez;rw [g1] at a1;have a1:=Option.some.inj a1;subst a1;have:=h.b.top x rfl z k q hx ez;omega
 ·have hz:z=x:=(Option.some.inj hz).symm;subst hz;have hq:q=k:=by
   have:=e0 z k hx;rw [h1] at this;exact Option.some.inj this
  subst hq;rcases inv w q' h2 with ⟨_,e⟩ | ⟨_,e⟩
  ·omega
  ·exact h.b.top z rfl w q q' hx e
 ·rcases hz with hz | rfl
  ·obtain ⟨q,q',h1,h2,h3⟩:=h.v z hz hn';exact ⟨q,q',e0 _ _ h1,e0 _ _ h2,h3⟩
  ·exact ⟨k,k+1,e0 _ _ hx,ey,Nat.le_refl _⟩
theorem E8.done (h:E8 nb a x dn rest D V) (hV:∀y,nb x y→V y):Bfs nb a (dn++[x]) rest D where
 a0:=h.b.a0
 mem:=λ y=>by
  rw [h.b.mem y];simp only [List.mem_append,List.mem_cons,List.not_mem_nil,or_false];exact ⟨λ q=>by rcases q with q | q | q<;>simp [q],λ q=>by rcases q with (q | q) | q<;>simp [q]⟩
 rk:=h.b.rk
 near:=λ y hy z hz=>by
  rcases List.mem_append.1 hy with hy | hy
  ·exact h.b.near y hy z hz
  ·have:=List.mem_singleton.1 hy;subst this;exact h.v z (hV z hz) hz
 ord:=(List.pairwise_cons.1 h.b.ord).2
 top:=λ y hy z q q' h1 h2=>by
  obtain ⟨k,hk⟩:=h.b.head;have hy:y∈rest:=List.mem_of_mem_head? hy;have a1:=(List.pairwise_cons.1 h.b.ord).1 y hy k q hk h1;have a2:=h.b.top x rfl z k q' hk h2;omega
theorem Bfs.reach (h:Bfs nb a dn [] D):∀ {k:Nat} {x:Nat},Rch nb a k x→∃k',D x=some k'∧k'≤k:=by
 intro k x hr;induction hr with
 | z=>exact ⟨0,h.a0,Nat.le_refl _⟩
 | @s k x y _ hn ih=>
  obtain ⟨k',e,hk⟩:=ih;have hx:x∈dn:=by
   have:=(h.mem x).1 (by rw [e]; rfl);simpa using this
  obtain ⟨q,q',e1,e2,hq⟩:=h.near x hx y hn;rw [e] at e1;have:=Option.some.inj e1;exact ⟨q',e2,(by omega)⟩
theorem Bfs.final (h:Bfs nb a dn [] D) (x:Nat) (k:Nat):D x=some k↔IsD nb a x k:=by
 constructor
 ·intro e;refine ⟨h.rk x k e,λ j hj=>?_⟩;obtain ⟨k',e',hk⟩:=h.reach hj;rw [e] at e';have:=Option.some.inj e';omega
 ·rintro ⟨h1,h2⟩;obtain ⟨k',e',hk⟩:=h.reach h1;have:=h2 k' (h.rk x k' e');rw [e'];congr 1;omega
theorem Bfs.none (h:Bfs nb a dn [] D) (e:D x=none) (k:Nat):¬ Rch nb a k x:=λ hr=>by
 obtain ⟨k',e',_⟩:=h.reach hr;rw [e] at e';cases e'
end
section
variable {nb:Nat→Nat→Prop} {a:Nat}
variable {x:Nat} {dn:List Nat} {rest:List Nat} {D:Nat→Option Nat} {y:Nat} {V:Nat→Prop} {k:Nat}
theorem IsD.uniq {k':Nat} (h:IsD nb a x k) (h':IsD nb a x k'):k=k':=Nat.le_antisymm (h.2 _ h'.1) (h'.2 _ h.1)
theorem IsD.prev (h:IsD nb a y (k+1)):∃x,IsD nb a x k∧nb x y:=by
 obtain ⟨h1,h2⟩:=h;cases h1 with
 | @s _ x _ hx hn=>exact ⟨x,⟨hx,λ j hj=>by have:=h2 (j+1) (.s hj hn); omega⟩,hn⟩
theorem IsD.zero (h:IsD nb a y 0):y=a:=by
 obtain ⟨h1,_⟩:=h;cases h1; rfl
theorem IsD.self:IsD nb a a 0:=⟨.z,λ _ _=>Nat.zero_le _⟩
theorem Rch.trans {i j:Nat} (h:Rch nb a i x) (h':Rch nb x j y):Rch nb a (i+j) y:=by
 induction h' with
 | z=>exact h
 | s _ hn ih=>exact .s ih hn
theorem Rch.rev {C:Nat→Prop} (hC:C a) (hs:∀x y,C x→nb x y→C y∧nb y x) (h:Rch nb a k x):C x∧Rch nb x k a:=by
 induction h with
 | z=>exact ⟨hC,.z⟩
 | @s k x y _ hn ih=>
  obtain ⟨h1,h2⟩:=hs x y ih.1 hn;refine ⟨h1,?_⟩;have:=Rch.trans (.s .z h2) ih.2;rwa [Nat.add_comm] at this
theorem IsD.rev {C:Nat→Prop} (hC:C a) (hs:∀x y,C x→nb x y→C y∧nb y x) (h:IsD nb a x k):IsD nb x a k:=by
 obtain ⟨h1,h2⟩:=h.1.rev hC hs;exact ⟨h2,λ j hj=>h.2 j (hj.rev h1 hs).2⟩
end
end Go.Bf
namespace Go.Proofs.YtifekdmmpbcdgaaGreatDoor
open Go.Ab
set_option maxRecDepth 100000
variable {l:List ay} {s:List Int} {v:Int}
theorem OQ (h:VS l s) {u:Nat} (hv:0≤v) (hv2:v<(l.getD u aI).aK.length):VS l (s.set u v):=by
 refine ⟨by rw [List.length_set]; exact h.1,λ i hi=>?_⟩;by_cases e:u=i
 ·subst e;rw [List.getD_eq_getElem?_getD,List.getElem?_set_self (by rw [h.1]; exact hi)];exact ⟨hv,hv2⟩
 ·rw [List.getD_eq_getElem?_getD,List.getElem?_set_ne e,← List.getD_eq_getElem?_getD];exact h.2 i hi
def agq (x:aX):aX:=⟨x.eU,0,x.fJ⟩
def nU (l:List ay) (s:List Int) (way:List aX):Bool:=ownB l (gy l s)&&!(way.map agq).any (TQ (gy l s))
structure NbC (l:List ay) (way:List aX) (s:List Int) (u:Nat) (v:Int):Prop where
 hu:u<l.length
 v0:0≤v
 v1:v<(l.getD u aI).aK.length
 ne:v≠s.getD u 0
 cm:nU l (s.set u v) way=true
def nbN (l:List ay) (way:List aX) (m n:Nat):Prop:=∃s u v,VS l s∧gJ l s=m∧NbC l way s u v∧gJ l (s.set u v)=n
def okN (l:List ay) (way:List aX) (m:Nat):Prop:=∃s,VS l s∧gJ l s=m∧nU l s way=true
variable {n:Nat}
theorem Um {way:List aX} {m:Nat} (h:okN l way m) (hn:nbN l way m n):okN l way n∧nbN l way n m:=by
 obtain ⟨s0,h1,h2,h3⟩:=h;obtain ⟨s,u,v,g1,g2,g3,g4⟩:=hn;have:=Gl h1 g1 (h2.trans g2.symm);subst this;have gv:=OQ g1 g3.v0 g3.v1;refine ⟨⟨_,gv,g4,g3.cm⟩,s0.set u v,u,s0.getD u 0,gv,g4,?_,?_⟩
 ·have hu:u<s0.length:=by rw [g1.1]; exact g3.hu
  have e:(s0.set u v).set u (s0.getD u 0)=s0:=by
   rw [List.set_set,List.getD_eq_getElem?_getD,List.getElem?_eq_getElem hu];exact List.set_getElem_self hu
  refine ⟨g3.hu,(g1.2 u g3.hu).1,(g1.2 u g3.hu).2,?_,by rw [e]; exact h3⟩;rw [List.getD_eq_getElem?_getD (l:=s0.set u v),List.getElem?_set_self hu];exact λ e=>g3.ne e.symm
 ·have hu:u<s0.length:=by rw [g1.1]; exact g3.hu
  have e:(s0.set u v).set u (s0.getD u 0)=s0:=by
   rw [List.set_set,List.getD_eq_getElem?_getD,List.getElem?_eq_getElem hu];exact List.set_getElem_self hu
  rw [e]; exact h2
variable {i:Nat}
theorem ac3 (h:i<l.length):gW (l.drop i)=(l.getD i aI).aK.length*gW (l.drop (i+1)):=by
 rw [drop_cons aI h,gW]
theorem ana (h:VS l s) (i:Nat):VS (l.drop i) (s.drop i):=by
 refine ⟨by rw [List.length_drop,List.length_drop,h.1],λ j hj=>?_⟩;rw [List.length_drop] at hj;have:=h.2 (i+j) om;have e1:(s.drop i).getD j 0=s.getD (i+j) 0:=by
  rw [List.getD_eq_getElem?_getD,List.getElem?_drop,← List.getD_eq_getElem?_getD]
 have e2:(l.drop i).getD j aI=l.getD (i+j) aI:=by
  rw [List.getD_eq_getElem?_getD,List.getElem?_drop,← List.getD_eq_getElem?_getD]
 rw [e1,e2];exact this
theorem aeT (h:VS l s) (hi:i<l.length):gJ (l.drop i) (s.drop i)=(s.getD i 0).toNat*gW (l.drop (i+1))+gJ (l.drop (i+1)) (s.drop (i+1)):=by
 rw [drop_cons aI hi,drop_cons (0:Int) (by rw [h.1]; exact hi),gJ]
theorem anb (h:VS l s):0<gW l:=Nat.lt_of_le_of_lt (Nat.zero_le _) (Hg h)
structure CkL (l:List ay) (way:List aX):Prop where
 ck:eG l=0
 ll:l.length≤2000000
 wl:way.length≤2000000
 wc:∀x∈way,0≤x.eU∧x.eU<l.length
structure Rd (n:Nat) (d:List Int) (D:Nat→Option Nat) (q:Nat):Prop where
 len:d.length=n
 at_:∀k,k<n→d.getD k 0=match D k with | some m=>(m:Int) | none => -1
 lt:∀k m,D k=some m→k<n∧m<q
def au5 (d:List Int):Nat:=d.countP λ x=>decide (x<0)
variable {D:Nat→Option Nat}
theorem Rd.new {d:List Int} {q:Nat} (h:Rd n d D q) {y k:Nat} (hy:y<n) (hk:k<q):Rd n (d.set y ((k:Int)+1)) (Go.Bf.jf D y (k+1)) (q+1):=by
 refine ⟨by rw [List.length_set]; exact h.len,λ z hz=>?_,λ z m hm=>?_⟩
 ·rw [List.getD_eq_getElem?_getD,List.getElem?_set];unfold Go.Bf.jf;by_cases e:z=y
  ·subst e;rw [if_pos rfl,if_pos (by rw [h.len]; exact hz),if_pos rfl];simp
  ·rw [if_neg (λ q=>e q.symm),if_neg e,← List.getD_eq_getElem?_getD];exact h.at_ z hz
 ·unfold Go.Bf.jf at hm;by_cases e:z=y
  ·rw [if_pos e] at hm;have:=Option.some.inj hm;omega
  ·rw [if_neg e] at hm;have:=h.lt z m hm;omega
def LX (l:List ay) (s:List Int) (u v:Int) (y:Nat):Prop:=∃(u':Nat) (v':Int),u'<l.length∧0≤v'∧v'<(l.getD u' aI).aK.length∧((u':Int)<u∨(u':Int)=u∧v'<v)∧y=gJ l (s.set u' v')
structure QuM (l:List ay) (way:List aX) (a:List Int) (i:Nat) (pre:List (List Int)) (s:List Int) (u v:Int) (d:List Int) (qu:List (List Int)) (D:Nat→Option Nat):Prop where
 vs:∀q∈qu,VS l q
 rd:Rd (gW l) d D qu.length
 ct:qu.length+au5 d=gW l
 tk:qu.take (i+1)=pre++[s]
 il:i<qu.length
 b:Go.Bf.E8 (nbN l way) (gJ l a) (gJ l s) (pre.map (gJ l)) ((qu.drop (i+1)).map (gJ l)) D (LX l s u v)
variable {u:Int}
theorem QuM.pos {way:List aX} {a:List Int} {pre:List (List Int)} {d:List Int} {qu:List (List Int)} (h:QuM l way a i pre s u v d qu D):∃k,D (gJ l s)=some k∧d.getD (gJ l s) 0=(k:Int)∧k<qu.length:=by
 obtain ⟨k,hk⟩:=h.b.b.head;have:=h.rd.lt _ _ hk;refine ⟨k,hk,?_,this.2⟩;rw [h.rd.at_ _ this.1,hk]
theorem DK (_:0≤u) (_:u<l.length) (_:0≤v) (_:v<(l.getD u.toNat aI).aK.length) (y:Nat):LX l s u (v+1) y→LX l s u v y∨y=gJ l (s.set u.toNat v):=by
 rintro ⟨u',v',h1,h2,h3,h4,h5⟩;by_cases e:(u':Int)=u∧v'=v
 ·right;rw [h5,← e.2,show u.toNat=u' by omega]
 ·left;exact ⟨u',v',h1,h2,h3,om,h5⟩
theorem aeU (hu0:0≤u) (y:Nat) {n:Int} (hn:((l.getD u.toNat aI).aK.length:Int)≤n):LX l s (u+1) 0 y→LX l s u n y:=by
 rintro ⟨u',v',h1,h2,h3,h4,h5⟩;refine ⟨u',v',h1,h2,h3,?_,h5⟩;by_cases e:(u':Int)=u
 ·right;refine ⟨e,?_⟩;rw [show u.toNat=u' by omega] at hn;omega
 ·left; omega
theorem E8.weak {nb:Nat→Nat→Prop} {a x:Nat} {dn rest:List Nat} {V V':Nat→Prop} (h:Go.Bf.E8 nb a x dn rest D V) (hv:∀y,V' y→V y):Go.Bf.E8 nb a x dn rest D V':=⟨h.b,λ y hy=>h.v y (hv y hy)⟩
structure au6 (b:aY) (l:List aS) (ms:List Int) (g:aR):Prop where
 nd:CB b l 0
 df:VE l ms
 sh:aiE b l g
 su:Sp.gV b.bI g.bX (drM l ms)=true
 pa:Hr b.aZ 0
 ow:Uj b.aZ (g.Uses.map aP.jd)
 da:DmA b.dD 0
 dm:RgP b.dD g.cO
theorem Yt {b:aY} {l:List aS} {ms:List Int} {g:aR} {bt:Bool} (h:Ql b l ms g bt 0):au6 b l ms g:=by
 obtain ⟨h1,h⟩:=jP (by decide) h;obtain ⟨h2,h⟩:=jP (by decide) h;obtain ⟨_,h⟩:=jP (by decide) h;obtain ⟨_,h⟩:=jP (by decide) h;obtain ⟨h5,h⟩:=jP (by decide) h;obtain ⟨h6,h⟩:=jP (by decide) h;obtain ⟨_,h⟩:=jP (by decide) h;obtain ⟨_,h⟩:=jP (by decide) h;obtain ⟨h9,_⟩:=jP (by decide) h;have q2:=Classical.not_not.1 h2;have q6:=Classical.not_not.1 h6;have q9:=Classical.not_not.1 h9;exact ⟨Classical.not_not.1 h1,q2.1,q2.2,by simpa using h5,q6.1,q6.2,q9.1.1,q9.1.2⟩
theorem apu {p:bP} {l:List oq} (h:Uj p l):(l.map oq.dz).Nodup:=by
 rw [List.nodup_iff_pairwise_ne,List.pairwise_map,List.pairwise_iff_getElem];intro i j hi hj hij;have:=(h j om).2.1 i hij;rw [List.getD_eq_getElem?_getD,List.getElem?_eq_getElem hi,List.getD_eq_getElem?_getD,List.getElem?_eq_getElem hj] at this;exact this
theorem PY {l:List aF} {r:bD} (h:Sp.mK l r=true):r.On.length=l.length∧r.bJ.length=l.length∧∀x∈r.bJ,0≤x∧x≤4611686018427387904:=by
 unfold Sp.mK at h;cases q:(((Sp.eG l != 0)||((r.On.length:Int) != l.length))||((r.bJ.length:Int) != l.length)) with
 | true=>rw [q] at h; cases h
 | false=>
  rw [q] at h;simp only [Bool.or_eq_false_iff,bne_eq_false_iff_eq] at q;have hl2:r.bJ.length=l.length:=by omega
  refine ⟨om,hl2,λ x hx=>?_⟩;obtain ⟨i,hi,rfl⟩:=List.mem_iff_getElem.1 hx;have h1:=(Sp.ahf hl2).1 h i om;have h2:=(Sp.Dt (l:=l) (by simpa using q.1.1)).2.1 i om;rw [List.getD_eq_getElem?_getD,List.getElem?_eq_getElem hi] at h1;simp only [Option.getD_some] at h1;omega
def lG (f:Nat→Nat):Nat→Nat
 | 0=>0
 | n+1=>lG f n+f n
theorem sum_add (f g:Nat→Nat):∀n,lG (λ i=>f i+g i) n=lG f n+lG g n:=by
 intro n;induction n with
 | zero=>rfl
 | succ n ih=>simp only [lG]; rw [ih]; omega
theorem Kr {f:Nat→Nat} {k:Nat} (h:∀i,f i≤k):∀n,lG f n≤k*n:=by
 intro n;induction n with
 | zero=>exact Nat.zero_le _
 | succ n ih=>simp only [lG]; have:=h n; rw [Nat.mul_succ]; omega
theorem DL {f g:Nat→Nat} (h:∀i,f i=g i) (n:Nat):lG f n=lG g n:=by rw [show f=g from funext h]
theorem Oy {α:Type} {l:List α} {d v:α} (h:l.getD i d=v) (hi:i<l.length):l.set i v=l:=by
 rw [← h,List.getD_eq_getElem?_getD,List.getElem?_eq_getElem hi];exact List.set_getElem_self hi
theorem ny {α:Type} {l:List α} {j:Nat} {d v:α} (hi:i<l.length):(l.set i v).getD j d=if j=i then v else l.getD j d:=by
 rw [List.getD_eq_getElem?_getD,List.getElem?_set,List.getD_eq_getElem?_getD];by_cases e:j=i
 ·subst e; rw [if_pos rfl,if_pos hi,if_pos rfl]; rfl
 ·rw [if_neg (λ q=>e q.symm),if_neg e]
section
variable (f t:bD)
def onU (j:Nat):Bool:=f.On.getD j false||t.On.getD j false
def aaP (j:Nat):Int:=bif f.On.getD j false&&t.On.getD j false then (if t.bJ.getD j 0 > f.bJ.getD j 0 then t.bJ.getD j 0 else f.bJ.getD j 0) else (bif f.On.getD j false then f.bJ.getD j 0 else t.bJ.getD j 0)
def lvU (j:Nat):Int:=bif onU f t j then aaP f t j else f.bJ.getD j 0
def I9 (j:Nat):Nat:=bif onU f t j then (if f.bJ.getD j 0=aaP f t j then 0 else 1)+(if f.On.getD j false=true then 0 else 1) else 0
def dn1 (j:Nat):Nat:=bif t.On.getD j false then 0 else (if onU f t j=false then 0 else 1)
def dn2 (j:Nat):Nat:=if lvU f t j=t.bJ.getD j 0 then 0 else 1
def dnN (j:Nat):Nat:=dn1 f t j+dn2 f t j
def Qm (j:Nat):Nat:=(if f.On.getD j false=t.On.getD j false then 0 else 1)+(if f.bJ.getD j 0=t.bJ.getD j 0 then 0 else 1)
theorem arf (j:Nat):I9 f t j+dnN f t j=Qm f t j:=by
 unfold I9 dnN dn1 dn2 Qm lvU onU aaP;generalize f.On.getD j false=a;generalize t.On.getD j false=b;generalize f.bJ.getD j 0=x;generalize t.bJ.getD j 0=y;cases a<;>cases b<;>simp<;>(try (by_cases e:x=y<;>simp [e]))<;>(try (split<;>split<;>omega))<;>(try omega)
theorem anc (j:Nat):Qm f t j=Qm t f j:=by
 unfold Qm;congr 1
 ·by_cases e:f.On.getD j false=t.On.getD j false
  ·rw [if_pos e,if_pos e.symm]
  ·rw [if_neg e,if_neg (λ q=>e q.symm)]
 ·by_cases e:f.bJ.getD j 0=t.bJ.getD j 0
  ·rw [if_pos e,if_pos e.symm]
  ·rw [if_neg e,if_neg (λ q=>e q.symm)]
end
theorem abA {v:Int} {on:List Bool} {lv:List Int} {pl:List aN} (h1:on.length=n) (h2:lv.length=n) (h3:0≤u) (h4:u<n) (h5:pl.length≤100000000):
  W (lq u v n n on lv pl) (λ r=>r.1=n∧r.2.1=n∧r.2.2.1=lv.set u.toNat v∧r.2.2.2.length=pl.length+(if lv.getD u.toNat 0=v then 0 else 1)):=by
 unfold lq;refine aQ om ?_;refine aQ om ?_;refine bW ?_ ?_<;>intro c
 ·refine aQ om ?_;refine aQ (by unfold big; omega) ?_;have hne:¬ lv.getD u.toNat 0=v:=by simpa using c
  refine au ⟨rfl,rfl,rfl,?_⟩;rw [if_neg hne,List.length_append]; rfl
 ·have he:lv.getD u.toNat 0=v:=by simpa using c
  refine au ⟨rfl,rfl,(Oy he om).symm,?_⟩;rw [if_pos he]; rfl
theorem ZT {b:Bool} {on:List Bool} {lv:List Int} {pl:List aN} (h1:on.length=n) (h2:lv.length=n) (h3:0≤u) (h4:u<n) (h5:pl.length≤100000000):
  W (kE u b n n on lv pl) (λ r=>r.1=n∧r.2.1=n∧r.2.2.1=on.set u.toNat b∧r.2.2.2.length=pl.length+(if on.getD u.toNat false=b then 0 else 1)):=by
 have key:∀k:Int,W (jF u lv pl (k,n,n,on.set u.toNat b)) (λ r=>r.1=n∧r.2.1=n∧r.2.2.1=on.set u.toNat b∧r.2.2.2.length=pl.length+1):=by
  intro k;unfold jF;refine aQ (by dsimp only; rw [List.length_set]; omega) ?_;refine aQ (by unfold big; omega) ?_;exact au ⟨rfl,rfl,rfl,by rw [List.length_append]; rfl⟩
 unfold kE;refine aQ om ?_;refine aQ om ?_;refine bW ?_ ?_<;>intro c
 ·have he:on.getD u.toNat false=b:=by simpa using c
  refine au ⟨rfl,rfl,(Oy he om).symm,?_⟩;rw [if_pos he]; rfl
 ·have hne:¬ on.getD u.toNat false=b:=by simpa using c
  refine aQ om ?_;rw [if_neg hne];cases b
  ·exact key 0
  ·exact key 1
theorem OT {r:bD} (h1:r.On.length≤2000000) (h2:r.bJ.length≤2000000):W (AX r) (λ x=>x=(r.On,r.bJ)):=by
 unfold AX;refine aG (P:=λ x=>x=r.On) (aQ (by unfold big; omega) (au rfl)) λ v1 hv1=>?_;refine aG (P:=λ x=>x=r.bJ) (aQ (by unfold big; omega) (au rfl)) λ v2 hv2=>?_;subst hv1 hv2;exact au rfl
theorem ac4 {f t:bD} (hn:n≤2000000) (h1:f.On.length=n) (h2:f.bJ.length=n) (h3:t.On.length=n) (h4:t.bJ.length=n):
  W (Pt f t) (λ r=>r.On.length=n∧r.bJ.length=n∧∀j,j<n→r.On.getD j false=onU f t j∧(onU f t j=true→r.bJ.getD j 0=aaP f t j)):=by
 unfold Pt;refine aG (OT om om) λ v1 hv1=>?_;subst v1;refine bM (λ g:Int×List Bool×List Int=>0≤g.1∧g.1≤n∧g.2.1.length=n∧g.2.2.length=n∧∀j,j<n→((j:Int)<g.1→g.2.1.getD j false=onU f t j∧(onU f t j=true→g.2.2.getD j 0=aaP f t j))∧(g.1≤j→g.2.1.getD j false=t.On.getD j false∧g.2.2.getD j 0=t.bJ.getD j 0))
  (λ g=>(n - g.1).toNat) ?_ ⟨ob,ob,h3,h4,λ j hj=>⟨λ q=>by dsimp only at q; omega,λ _=>⟨rfl,rfl⟩⟩⟩
 intro self g ⟨a1,a2,a3,a4,a5⟩ ih;unfold Tt;refine wi ?_ ?_<;>intro c1
 ·have hlt:g.1.toNat<n:=by omega
  have ha:=(a5 g.1.toNat hlt).2 om;have stp:∀ {on:List Bool} {lv:List Int},on.length=n→lv.length=n→(∀j,j≠g.1.toNat→on.getD j false=g.2.1.getD j false∧lv.getD j 0=g.2.2.getD j 0)→(on.getD g.1.toNat false=onU f t g.1.toNat∧(onU f t g.1.toNat=true→lv.getD g.1.toNat 0=aaP f t g.1.toNat))→
    W (self (g.1+1,on,lv)) (λ r=>r.On.length=n∧r.bJ.length=n∧∀j,j<n→r.On.getD j false=onU f t j∧(onU f t j=true→r.bJ.getD j 0=aaP f t j)):=by
   intro on lv e1 e2 e3 e4
   refine ih _ ⟨ob,ob,e1,e2,λ j hj=>⟨λ q=>?_,λ q=>?_⟩⟩ ob
   ·by_cases e:j=g.1.toNat
    ·subst e; exact e4
    ·dsimp only at q ⊢
     rw [(e3 j e).1,(e3 j e).2]
     exact (a5 j hj).1 om
   ·dsimp only at q ⊢
    rw [(e3 j om).1,(e3 j om).2]
    exact (a5 j hj).2 om
  refine aQ om ?_;refine aQ om ?_;refine bW ?_ ?_<;>intro c2
  ·simp only [Bool.and_eq_true] at c2;refine aQ om ?_;refine aQ om ?_;refine aQ om ?_;refine wn<|stp a3 (by rw [List.length_set]; exact a4) (λ j hj=>⟨rfl,by rw [ny om,if_neg hj]⟩) ⟨?_,λ _=>?_⟩
   ·rw [ha.1]; unfold onU; rw [c2.1,c2.2]; rfl
   ·rw [ny om,if_pos rfl]; unfold aaP; rw [c2.1,c2.2]; rfl
  ·refine aQ om ?_;refine bW ?_ ?_<;>intro c3
   ·have c4:t.On.getD g.1.toNat false=false:=by rw [c3] at c2; simpa using c2
    refine aQ om ?_;refine aQ om ?_;refine aQ om ?_;refine wn<|stp (by rw [List.length_set]; exact a3) (by rw [List.length_set]; exact a4) (λ j hj=>⟨by rw [ny om,if_neg hj],by rw [ny om,if_neg hj]⟩) ⟨?_,λ _=>?_⟩
    ·rw [ny om,if_pos rfl]; unfold onU; rw [c3]; rfl
    ·rw [ny om,if_pos rfl]; unfold aaP; rw [c3,c4]; rfl
   ·refine wn<|stp a3 a4 (λ j hj=>⟨rfl,rfl⟩) ⟨?_,λ _=>?_⟩
    ·rw [ha.1]; unfold onU; rw [c3]; rfl
    ·rw [ha.2]; unfold aaP; rw [c3]; rfl
 ·exact au ⟨a3,a4,λ j hj=>(a5 j hj).1 om⟩
end Go.Proofs.YtifekdmmpbcdgaaGreatDoor
namespace Go.Proofs.YtifekdmmpbcdgaaGreatDoor
open Go.Ab
set_option maxRecDepth 100000
theorem aeV {l:List aF} {r:bD} {d:List bU} (h:Sp.gV l r d=true):Sp.mK l r=true∧Sp.oP l d=true:=by
 unfold Sp.gV at h;cases h1:Sp.mK l r<;>cases h2:Sp.oP l d<;>simp [h1,h2] at h ⊢
theorem aiG {l:List aF} {r:bD} (h:Sp.mK l r=true):Sp.eG l=0:=by
 unfold Sp.mK at h;by_cases e:Sp.eG l=0
 ·exact e
 ·rw [show (Sp.eG l != 0)=true by simpa using e] at h; simp at h
theorem aaQ {l:List aF} {f t:bD} (hl:l.length≤2000000) (hf:Sp.mK l f=true) (ht:Sp.mK l t=true):W (JY l [f,t]) (λ r=>r=0):=by
 obtain ⟨f1,f2,_⟩:=PY hf;obtain ⟨t1,t2,_⟩:=PY ht;unfold JY;refine aG (Sp.yQ hl) λ v1 hv1=>?_;rw [aiG hf] at hv1;subst v1;refine bW (λ c=>by simp at c) (λ _=>?_);have hb:∀ {r:bD},Sp.mK l r=true→r.bJ.length≤2000000→yt r l false:=λ {r} h h2=>by
  refine lY ?_;unfold yt;refine aG (Sp.Oz hl h2) λ v1 hv1=>?_;rw [h] at hv1;subst v1;exact au rfl
 have hi:W (mY [f,t] l) (λ r=>r=Xu [f,t] (λ _=>false)):=
  Oc (p:=λ x=>yt x l) (P:=λ _=>false) (λ x hx=>by
   rcases List.mem_cons.1 hx with q | q
   ·subst q; exact hb hf om
   ·rw [List.mem_singleton.1 q]; exact hb ht om) (by simp)
 refine aG (zJ (I6 hi (oM _ _))) λ v2 hv2=>?_;subst v2;exact au rfl
theorem aeW {f t:bD} {n:Nat} (hn:n≤2000000) (h3:t.On.length=n) (h4:t.bJ.length=n) {on:List Bool} {lv:List Int} {pl:List aN} (e1:on.length=n) (e2:lv.length=n) (e3:∀j,j<n→on.getD j false=onU f t j∧lv.getD j 0=lvU f t j) (e4:pl.length=lG (I9 f t) n):
  W (dF (GV t) (((n:Nat):Int) - 1,n,n,on,lv,pl)) (λ r=>r.2=0∧r.1.length=lG (Qm f t) n):=by
 have hd4:∀i,Qm f t i≤2:=λ i=>by unfold Qm; split<;>split<;>omega
 have htot:lG (I9 f t) n+lG (dnN f t) n=lG (Qm f t) n:=by rw [← sum_add]; exact DL (λ i=>arf f t i) n
 have hbig:=Kr hd4 n;refine bM (λ g:Int×Nat×Nat×List Bool×List Int×List aN => -1≤g.1∧g.1<n∧g.2.1=n∧g.2.2.1=n∧g.2.2.2.1.length=n∧g.2.2.2.2.1.length=n∧(∀j:Nat,(j:Int)≤g.1→g.2.2.2.1.getD j false=onU f t j∧g.2.2.2.2.1.getD j 0=lvU f t j)∧g.2.2.2.2.2.length+lG (dnN f t) (g.1+1).toNat=lG (Qm f t) n)
  (λ g=>(g.1+1).toNat) ?_ ⟨by dsimp only; omega,by dsimp only; omega,rfl,rfl,e1,e2,λ j hj=>e3 j (by dsimp only at hj; omega),by dsimp only; rw [show ((n:Nat):Int) - 1+1=n by omega,Int.toNat_natCast,e4]; exact htot⟩
 intro self g ⟨a1,a2,a3,a4,a5,a6,a7,a8⟩ ih;unfold GV;rw [a3,a4];refine aQ om ?_;refine wi ?_ ?_<;>intro c1
 ·have hlt:g.1.toNat<n:=by omega
  have hg:=a7 g.1.toNat om;have hsum:lG (dnN f t) (g.1+1).toNat=lG (dnN f t) g.1.toNat+dnN f t g.1.toNat:=by rw [show (g.1+1).toNat=g.1.toNat+1 by omega]; rfl
  rw [hsum] at a8;have k22:∀ {on:List Bool} {pl:List aN},on.length=n→(∀j,j≠g.1.toNat→on.getD j false=g.2.2.2.1.getD j false)→pl.length=g.2.2.2.2.2.length+dn1 f t g.1.toNat→
    W (u6 t g self (n,n,on,pl)) (λ r=>r.2=0∧r.1.length=lG (Qm f t) n):=by
   intro on pl q1 q2 q3
   have hdn:dnN f t g.1.toNat=dn1 f t g.1.toNat+dn2 f t g.1.toNat:=rfl
   rw [hdn] at a8
   unfold u6
   refine aQ (by dsimp only; omega) ?_
   refine aQ om ?_
   have hpl:pl.length≤100000000:=by omega
   refine aG (abA q1 a6 om om hpl) λ v ⟨w1,w2,w3,w4⟩=>?_
   refine aQ (by dsimp only; rw [w1,w2,w3,List.length_set]; omega) ?_
   refine aQ (by unfold aD; omega) ?_
   refine ih _ ⟨by dsimp only; omega,by dsimp only; omega,w1,w2,q1,by dsimp only; rw [w3,List.length_set]; exact a6,λ j hj=>?_,?_⟩ (by dsimp only; omega)
   ·dsimp only at hj ⊢
    rw [q2 j om,w3,ny om,if_neg om]
    exact a7 j om
   ·dsimp only at w4 ⊢
    rw [show g.1 - 1+1=g.1 by omega,w4,q3]
    rw [hg.2]
    have hd2:(if lvU f t g.1.toNat=t.bJ.getD g.1.toNat 0 then 0 else 1)=dn2 f t g.1.toNat:=rfl
    rw [hd2]
    omega
  refine aQ om ?_;refine bW ?_ ?_<;>intro c2
  ·have c3:t.On.getD g.1.toNat false=false:=by simpa using c2
   refine aG (ZT a5 a6 om om om) λ v ⟨w1,w2,w3,w4⟩=>?_;refine aQ (by rw [w1,w2,w3,List.length_set]; omega) ?_;rw [w1,w2,w3];refine k22 (by rw [List.length_set]; exact a5) (λ j hj=>by rw [ny om,if_neg hj]) ?_;rw [w4,hg.1]; unfold dn1; rw [c3]; rfl
  ·have c3:t.On.getD g.1.toNat false=true:=by simpa using c2
   refine k22 a5 (λ j hj=>rfl) ?_;unfold dn1; rw [c3]; rfl
 ·refine au ⟨rfl,?_⟩;rw [show (g.1+1).toNat=0 by omega] at a8;exact a8
theorem ac5 {l:List aF} {f t:bD} {d:List bU} (hl:l.length≤2000000) (hd:d.length≤2000000) (hf:Sp.gV l f d=true) (ht:Sp.gV l t d=true):W (Pv l f t d) (λ r=>r.2=0∧r.1.length=lG (Qm f t) l.length):=by
 obtain ⟨hf1,hdr⟩:=aeV hf;obtain ⟨ht1,_⟩:=aeV ht;obtain ⟨f1,f2,_⟩:=PY hf1;obtain ⟨t1,t2,_⟩:=PY ht1;have hd4:∀i,I9 f t i≤2:=λ i=>by unfold I9; cases onU f t i<;>simp; split<;>split<;>omega
 unfold Pv;refine aG (aaQ hl hf1 ht1) λ v1 hv1=>?_;subst v1;refine bW (λ c=>by simp at c) (λ _=>?_);refine aG (Sp.OA hl hd) λ v2 hv2=>?_;rw [hdr] at hv2;subst v2;refine bW (λ c=>by simp at c) (λ _=>?_);refine aG (Sp.EC hl hd om) λ v3 hv3=>?_;rw [hf] at hv3;subst v3;refine aG (xR λ _=>Sp.EC hl hd om) λ v4 hv4=>?_;have e4:v4=true:=by rw [hv4 rfl,ht]
 subst e4;refine bW (λ c=>by simp at c) (λ _=>?_);refine aG (ac4 (n:=l.length) hl f1 f2 t1 t2) λ v5 ⟨j1,j2,j3⟩=>?_;refine aG (OT om om) λ v6 hv6=>?_;subst v6;dsimp only;rw [f1,f2];refine bM (λ g:Int×Nat×Nat×List Bool×List Int×List aN=>0≤g.1∧g.1≤l.length∧g.2.1=l.length∧g.2.2.1=l.length∧g.2.2.2.1.length=l.length∧g.2.2.2.2.1.length=l.length∧(∀j,j<l.length→((j:Int)<g.1→g.2.2.2.1.getD j false=onU f t j∧g.2.2.2.2.1.getD j 0=lvU f t j)∧(g.1≤j→g.2.2.2.1.getD j false=f.On.getD j false∧g.2.2.2.2.1.getD j 0=f.bJ.getD j 0))∧g.2.2.2.2.2.length=lG (I9 f t) g.1.toNat)
  (λ g=>(l.length - g.1).toNat) ?_ ⟨by dsimp only; omega,by dsimp only; omega,rfl,rfl,f1,f2,λ j hj=>⟨λ q=>by dsimp only at q; omega,λ _=>⟨rfl,rfl⟩⟩,rfl⟩
 intro self g ⟨a1,a2,a3,a4,a5,a6,a7,a8⟩ ih;unfold QY;rw [a3,a4];refine aQ om ?_;refine wi ?_ ?_<;>intro c1
 ·have hlt:g.1.toNat<l.length:=by omega
  have hg:=(a7 g.1.toNat hlt).2 om;have hj:=j3 g.1.toNat hlt;have hsl:=Kr hd4 g.1.toNat;have hsum:lG (I9 f t) (g.1+1).toNat=lG (I9 f t) g.1.toNat+I9 f t g.1.toNat:=by rw [show (g.1+1).toNat=g.1.toNat+1 by omega]; rfl
  refine aQ om ?_;refine bW ?_ ?_<;>intro c2
  ·have ho:onU f t g.1.toNat=true:=hj.1.symm.trans c2;refine aQ om ?_;have hpl:g.2.2.2.2.2.length≤100000000:=by omega
   refine aG (abA a5 a6 om om hpl) ?_;rintro ⟨n1,n2,lv2,pl2⟩ ⟨w1,w2,w3,w4⟩;dsimp only at w1 w2 w3 w4 ⊢;subst w1 w2;have w3l:lv2.length=l.length:=by rw [w3,List.length_set]; exact a6
   have w4l:pl2.length≤100000000:=by rw [w4]; split<;>omega
   refine aQ om ?_;refine aG (ZT a5 w3l om om w4l) ?_;rintro ⟨n1,n2,on2,pl3⟩ ⟨y1,y2,y3,y4⟩;dsimp only at y1 y2 y3 y4 ⊢;subst y1 y2;refine aQ (by rw [y3,List.length_set]; omega) ?_;refine aQ (by unfold aD; omega) ?_;refine ih _ ⟨by dsimp only; omega,by dsimp only; omega,rfl,rfl,by dsimp only; rw [y3,List.length_set]; exact a5,w3l,λ j hj2=>⟨λ q=>?_,λ q=>?_⟩,?_⟩ (by dsimp only; omega)
   ·dsimp only at q ⊢;rw [y3,w3,ny om,ny om];by_cases e:j=g.1.toNat
    ·subst e;rw [if_pos rfl,if_pos rfl,ho];exact ⟨rfl,by unfold lvU; rw [ho]; exact hj.2 ho⟩
    ·rw [if_neg e,if_neg e];exact (a7 j hj2).1 om
   ·dsimp only at q ⊢;rw [y3,w3,ny om,ny om,if_neg om,if_neg om];exact (a7 j hj2).2 om
   ·dsimp only;rw [y4,w4,hsum,a8,hg.1,hg.2,hj.2 ho];unfold I9;rw [ho];simp only [cond_true];omega
  ·have ho:onU f t g.1.toNat=false:=hj.1.symm.trans c2;refine aQ (by unfold aD; omega) ?_;refine ih _ ⟨by dsimp only; omega,by dsimp only; omega,rfl,rfl,a5,a6,λ j hj2=>⟨λ q=>?_,λ q=>?_⟩,?_⟩ (by dsimp only; omega)
   ·dsimp only at q ⊢;by_cases e:j=g.1.toNat
    ·subst e;rw [hg.1,hg.2,ho];refine ⟨?_,by unfold lvU; rw [ho]; rfl⟩;unfold onU at ho;simp only [Bool.or_eq_false_iff] at ho;exact ho.1
    ·exact (a7 j hj2).1 om
   ·dsimp only at q ⊢;exact (a7 j hj2).2 om
   ·dsimp only;rw [hsum,a8];unfold I9;rw [ho]; rfl
 ·refine aQ (by unfold aD; omega) ?_;have e:g.1=l.length:=by omega
  refine aeW hl t1 t2 a5 a6 (λ j hj=>(a7 j hj).1 om) ?_;rw [a8,e,Int.toNat_natCast]
def ane (l:List aN) (i:Int) (k:Nat):aN:=if (k:Int)<i∨(l.length:Int) - 1 - i<k then l.getD (l.length - 1 - k) dI else l.getD k dI
theorem Gn {l:List aN} (h:l.length≤2000000):W (gP l) (λ r=>r=l.reverse):=by
 unfold gP;refine wn<|bM (λ g1:Int×Int×List aN=>0≤g1.1∧g1.2.1=(l.length:Int) - 1 - g1.1∧2*g1.1≤l.length∧Ats dI l.length (ane l g1.1) g1.2.2) (λ g1=>(l.length - g1.1).toNat) ?_ ⟨ob,by dsimp only; omega,by dsimp only; omega,rfl,λ k hk=>by unfold ane; rw [if_neg (by dsimp only; omega)]⟩;intro ah g1 ⟨a1,a2,a3,a4⟩ ih1;have hl:=a4.len;unfold sS;refine wi ?_ ?_<;>intro c1
 ·refine wm<|wm ?_;refine wm<|ih1 _ ⟨ob,by dsimp only; omega,by dsimp only; omega,((a4.set (i:=g1.1.toNat) om _).set (i:=g1.2.1.toNat) om _).ard λ k hk=>?_⟩ ob;have e1:=a4.at_ g1.1.toNat om;have e2:=a4.at_ g1.2.1.toNat om;rw [e1,e2];unfold ane;by_cases q1:k=g1.2.1.toNat
  ·rw [if_pos q1,if_neg om,if_pos (by dsimp only; omega)];congr 1; omega
  ·rw [if_neg q1];by_cases q2:k=g1.1.toNat
   ·rw [if_pos q2,if_neg om,if_pos (by dsimp only; omega)];congr 1; omega
   ·rw [if_neg q2];by_cases q3:(k:Int)<g1.1∨(l.length:Int) - 1 - g1.1<k
    ·rw [if_pos q3,if_pos (by dsimp only; omega)]
    ·rw [if_neg q3,if_neg (by dsimp only; omega)]
 ·refine au (a4.ext (Q:=λ k=>l.reverse.getD k dI) ⟨by simp,λ _ _=>rfl⟩ λ k hk=>?_);have e:l.reverse.getD k dI=l.getD (l.length - 1 - k) dI:=by
   rw [List.getD_eq_getElem?_getD,List.getElem?_reverse om,← List.getD_eq_getElem?_getD]
  rw [e];unfold ane;by_cases q:(k:Int)<g1.1∨(l.length:Int) - 1 - g1.1<k
  ·rw [if_pos q]
  ·rw [if_neg q];congr 1; omega
def lnE (v:Int) (a b:List Bool) (i:Nat):Nat:=if (!(a.getD i false==b.getD i false)&&(b.getD i false==(v==1)))=true then 1 else 0
theorem alh (a b:List Bool) (i:Nat):lnE 0 a b i=lnE 1 b a i:=by
 unfold lnE;generalize a.getD i false=x;generalize b.getD i false=y;cases x<;>cases y<;>rfl
theorem anX (v:Int) (a b:List Bool) (i:Nat):lnE v a b i≤1:=by unfold lnE; split<;>omega
theorem aeY {v:Int} {p1 p3 q1 q3:List Int} {p2 p5 q2 q5 a b:List Bool} {p4 q4:List aP} (hl:a.length=b.length) (hn:a.length≤2000000):W (sU v p1 p2 p3 p4 a p5 q1 q2 q3 q4 b q5) (λ r=>r.length=lG (lnE v a b) a.length):=by
 unfold sU;refine bM (λ g:Int×List aN=>0≤g.1∧g.1≤a.length∧g.2.length=lG (lnE v a b) g.1.toNat) (λ g=>(a.length - g.1).toNat) ?_ ⟨ob,ob,rfl⟩;intro self g ⟨a1,a2,a3⟩ ih;have hs:=Kr (anX v a b) g.1.toNat;unfold FI;refine wi ?_ ?_<;>intro c1
 ·have hsum:lG (lnE v a b) (g.1+1).toNat=lG (lnE v a b) g.1.toNat+lnE v a b g.1.toNat:=by rw [show (g.1+1).toNat=g.1.toNat+1 by omega]; rfl
  refine aQ om ?_;refine aQ om ?_;refine aQ (λ _=>by omega) ?_;refine bW ?_ ?_<;>intro c2
  ·refine aQ (by unfold big; omega) ?_;refine wn<|ih _ ⟨ob,ob,?_⟩ ob;dsimp only;rw [hsum,List.length_append,a3,show lnE v a b g.1.toNat=1 from if_pos c2]; rfl
  ·refine wn<|ih _ ⟨ob,ob,?_⟩ ob;dsimp only;rw [hsum,a3,show lnE v a b g.1.toNat=0 from if_neg (by rw [c2]; decide)]; rfl
 ·have e:g.1.toNat=a.length:=by omega
  rw [e] at a3 hs;refine bW ?_ ?_<;>intro _
  ·refine aG (Gn om) λ v1 hv1=>?_;subst v1;refine aQ (by rw [List.length_reverse]) ?_;refine au ?_;rw [List.length_take,List.length_reverse,Nat.min_self]; exact a3
  ·exact au a3
def pnE (s o:dR→Option Int) (i:Nat):Nat:=if (decide ((0:Int)<jU s (.i ((i:Nat):Int)))&&(jU o (.i ((i:Nat):Int))==0))=true then 1 else 0
theorem arh (s o:dR→Option Int) (i:Nat):pnE s o i≤1:=by unfold pnE; split<;>omega
theorem ahn {s o:dR→Option Int} {k:Int} (hs:∀g,0≤jU s (.i g)∧jU s (.i g)≤10000000) (hk:k=0∨k=1):W (sV s o k) (λ r=>r.length=lG (pnE s o) 24):=by
 unfold sV;refine bM (λ g:Int×List aN=>0≤g.1∧g.1≤24∧g.2.length=lG (pnE s o) g.1.toNat) (λ g=>(24 - g.1).toNat) ?_ ⟨ob,ob,rfl⟩;intro self g ⟨a1,a2,a3⟩ ih;have hsl:=Kr (arh s o) g.1.toNat;unfold FJ;refine wi ?_ ?_<;>intro c1
 ·have hg:((g.1.toNat:Nat):Int)=g.1:=by omega
  have hb:=hs g.1;have hsum:lG (pnE s o) (g.1+1).toNat=lG (pnE s o) g.1.toNat+pnE s o g.1.toNat:=by rw [show (g.1+1).toNat=g.1.toNat+1 by omega]; rfl
  refine bW ?_ ?_<;>intro c2
  ·refine aQ (by rcases hk with e | e<;>subst e<;>unfold aD<;>omega) ?_;refine aQ (by unfold big; omega) ?_;refine wn<|ih _ ⟨ob,ob,?_⟩ ob;dsimp only;rw [hsum,List.length_append,a3,show pnE s o g.1.toNat=1 from if_pos (by rw [hg]; exact c2)]; rfl
  ·refine wn<|ih _ ⟨ob,ob,?_⟩ ob;dsimp only;rw [hsum,a3,show pnE s o g.1.toNat=0 from if_neg (by rw [hg,c2]; decide)]; rfl
 ·refine au ?_;rw [a3,show g.1.toNat=24 by omega]
structure GmP (U:List aP) (m:dR→Option Int):Prop where
 to:∀u∈U,m (.i u.jd.dz)=some (u.jd.dM+1)
 of:∀g v,m (.i g)=some v→∃u∈U,u.jd.dz=g∧v=u.jd.dM+1
theorem VK {U:List aP} (hu:U.length≤100000) (hn:(U.map λ u=>u.jd.dz).Nodup) (hf:∀u∈U,0≤u.jd.dM∧u.jd.dM≤2000000):W (oF U) (GmP U):=by
 unfold oF;refine bM (λ g:Int×(dR→Option Int)=>0≤g.1∧g.1≤U.length∧(∀j:Nat,(j:Int)<g.1→g.2 (.i (U.getD j bF).jd.dz)=some ((U.getD j bF).jd.dM+1))∧∀k v,g.2 (.i k)=some v→∃u∈U,u.jd.dz=k∧v=u.jd.dM+1)
  (λ g=>(U.length - g.1).toNat) ?_ ⟨ob,ob,λ j hj=>by dsimp only at hj; omega,λ k v h=>by cases h⟩
 intro self g ⟨a1,a2,a3,a4⟩ ih;unfold FH;refine wi ?_ ?_<;>intro c1
 ·have hlt:g.1.toNat<U.length:=by omega
  have hmem:U.getD g.1.toNat bF∈U:=by rw [List.getD_eq_getElem?_getD,List.getElem?_eq_getElem hlt]; exact List.getElem_mem hlt
  have hb:=hf _ hmem;refine aQ om ?_;refine aQ (by unfold aD; omega) ?_;refine wn<|ih _ ⟨ob,ob,λ j hj=>?_,λ k v h=>?_⟩ ob
  ·dsimp only at hj ⊢;unfold BD;by_cases e:j=g.1.toNat
   ·subst e; rw [if_pos rfl]
   ·have hne:(U.getD j bF).jd.dz≠(U.getD g.1.toNat bF).jd.dz:=λ q=>by
     have hj2:j<U.length:=by omega
     rw [List.nodup_iff_pairwise_ne,List.pairwise_map,List.pairwise_iff_getElem] at hn;have:=hn j g.1.toNat hj2 hlt om;rw [List.getD_eq_getElem?_getD,List.getElem?_eq_getElem hj2,List.getD_eq_getElem?_getD,List.getElem?_eq_getElem hlt] at q;exact this q
    rw [if_neg (λ q=>hne (by injection q))];exact a3 j om
  ·dsimp only at h;unfold BD at h;by_cases e:(dR.i k)=.i (U.getD g.1.toNat bF).jd.dz
   ·rw [if_pos e] at h;exact ⟨_,hmem,by injection e with e; exact e.symm,(Option.some.inj h).symm⟩
   ·rw [if_neg e] at h;exact a4 k v h
 ·refine au ⟨λ u hu=>?_,a4⟩;obtain ⟨j,hj,rfl⟩:=List.mem_iff_getElem.1 hu;have:=a3 j om;rwa [List.getD_eq_getElem?_getD,List.getElem?_eq_getElem hj] at this
theorem GmP.bd {U:List aP} {m:dR→Option Int} (h:GmP U m) (hf:∀u∈U,0≤u.jd.dM∧u.jd.dM≤2000000) (g:Int):0≤jU m (.i g)∧jU m (.i g)≤10000000:=by
 unfold jU;cases e:m (.i g) with
 | none=>exact ⟨Int.le_refl 0,by show (0:Int)≤_; omega⟩
 | some v=>
  obtain ⟨u,hu,_,rfl⟩:=h.of g v e;have:=hf u hu;show 0≤u.jd.dM+1∧u.jd.dM+1≤_;omega
def dmE (a b:List Bool) (i:Nat):Nat:=if a.getD i false=b.getD i false then 0 else 1
theorem apw (a b:List Bool) (i:Nat):dmE a b i=dmE b a i:=by
 unfold dmE;by_cases e:a.getD i false=b.getD i false
 ·rw [if_pos e,if_pos e.symm]
 ·rw [if_neg e,if_neg (λ q=>e q.symm)]
theorem ZU {l:List dO} {a b:List Bool} (hl:l.length≤2000000) (h0:DmA l 0) (ha:RgP l a) (hb:RgP l b):W (FP l a b) (λ r=>r.2=0∧r.1.length=lG (dmE a b) l.length):=by
 have l1:=ha.1;have l2:=hb.1;have hle:∀i,dmE a b i≤1:=λ i=>by unfold dmE; split<;>omega
 unfold FP;refine aG (Cc) λ v1 hv1=>?_;have e:=DmA.fun _ _ hv1 h0;subst e;refine bW (λ c=>by simp at c) (λ _=>?_);refine aG (Ce h0.ok) λ v2 hv2=>?_;have e2:=hv2.2 ha;subst e2;refine aG (xR λ _=>Ce h0.ok) λ v3 hv3=>?_;have e3:=(hv3 rfl).2 hb;subst e3;refine bW (λ c=>by simp at c) (λ _=>?_);refine bM (λ g:Int×List aN×List aN=>0≤g.1∧g.1≤l.length∧g.2.1.length+g.2.2.length=lG (dmE a b) g.1.toNat) (λ g=>(l.length - g.1).toNat) ?_ ⟨ob,ob,rfl⟩;intro self g ⟨a1,a2,a3⟩ ih;have hsl:=Kr hle g.1.toNat;unfold Ns;refine wi ?_ ?_<;>intro c1
 ·have hsum:lG (dmE a b) (g.1+1).toNat=lG (dmE a b) g.1.toNat+dmE a b g.1.toNat:=by rw [show (g.1+1).toNat=g.1.toNat+1 by omega]; rfl
  refine aQ om ?_;refine aQ (λ _=>by omega) ?_;refine bW ?_ ?_<;>intro c2
  ·have hd:dmE a b g.1.toNat=1:=by
    simp only [Bool.and_eq_true,Bool.not_eq_true'] at c2;unfold dmE; rw [c2.1,c2.2]; rfl
   refine aQ (by unfold big; omega) ?_;refine wn<|ih _ ⟨ob,ob,?_⟩ ob;dsimp only;rw [hsum,List.length_append,hd,List.length_singleton]; omega
  ·refine aQ om ?_;refine aQ (λ _=>by omega) ?_;refine bW ?_ ?_<;>intro c3
   ·have hd:dmE a b g.1.toNat=1:=by
     simp only [Bool.and_eq_true,Bool.not_eq_true'] at c3;unfold dmE; rw [c3.1,c3.2]; rfl
    refine aQ (by unfold big; omega) ?_;refine wn<|ih _ ⟨ob,ob,?_⟩ ob;dsimp only;rw [hsum,List.length_append,hd,List.length_singleton]; omega
   ·have hd:dmE a b g.1.toNat=0:=by
     unfold dmE;revert c2 c3;generalize a.getD g.1.toNat false=x;generalize b.getD g.1.toNat false=y;cases x<;>cases y<;>simp
    refine wn<|ih _ ⟨ob,ob,?_⟩ ob;dsimp only;rw [hsum,hd]; omega
 ·have e:g.1.toNat=l.length:=by omega
  rw [e] at a3 hsl;refine aG (Gn om) λ v4 hv4=>?_;subst v4;refine aQ (by rw [List.length_reverse]) ?_;refine aQ (by unfold big; omega) ?_;refine au ⟨rfl,?_⟩;dsimp only;rw [List.length_append,List.length_take,List.length_reverse,Nat.min_self]; exact a3
def preS (l:List ay) (s:List Int):Nat→Nat
 | 0=>0
 | j+1=>preS l s j*(l.getD j aI).aK.length+(s.getD j 0).toNat
variable {l:List ay} {s:List Int}
theorem aho (h:VS l s):∀j,j≤l.length→preS l s j*gW (l.drop j)+gJ (l.drop j) (s.drop j)=gJ l s:=by
 intro j;induction j with
 | zero=>intro _; simp [preS]
 | succ j ih=>
  intro hj;have h1:=ih om;rw [ac3 om,aeT h om] at h1;rw [preS,Nat.add_mul,Nat.mul_assoc];omega
theorem ahp (h:VS l s):preS l s l.length=gJ l s:=by
 have:=aho h l.length (Nat.le_refl _);rw [List.drop_length] at this;simpa [gW,gJ] using this
theorem alj (h:VS l s) {j:Nat} (hj:j≤l.length):preS l s j≤gJ l s:=by
 have h1:=aho h j hj;have h2:=anb (ana h j);have h3:=Nat.le_mul_of_pos_right (preS l s j) h2;omega
variable {s_:List Int}
theorem mo {jL:List ay} {AY:List aX} {x2_:dR→Option Int} (h:VS jL s_) (hl:jL.length≤2000000) (hz:gW jL≤1000000000000):W (jr jL AY x2_ s_) (λ r=>r=((gJ jL s_:Nat):Int)):=by
 have hp:=Hg h;have hsl:=h.1;unfold jr;refine bM (λ g1:Int×Int=>0≤g1.2∧g1.2≤jL.length∧g1.1=((preS jL s_ g1.2.toNat:Nat):Int)) (λ g1=>(jL.length - g1.2).toNat) ?_ ⟨ob,ob,rfl⟩;intro ah g1 ⟨a1,a2,a3⟩ ih1;unfold yu;refine wi ?_ ?_<;>intro c1
 ·have hlt:g1.2.toNat<jL.length:=by omega
  obtain ⟨x0,x1⟩:=h.2 _ hlt;have q1:=alj h (j:=g1.2.toNat+1) om;have e0:preS jL s_ (g1.2.toNat+1)=preS jL s_ g1.2.toNat*(jL.getD g1.2.toNat aI).aK.length+(s_.getD g1.2.toNat 0).toNat:=rfl;have e1:g1.1*(((jL.getD g1.2.toNat aI).aK.length:Nat):Int)=((preS jL s_ g1.2.toNat*(jL.getD g1.2.toNat aI).aK.length:Nat):Int):=by rw [a3,Int.natCast_mul]
  have e2:g1.1*(((jL.getD g1.2.toNat aI).aK.length:Nat):Int)+s_.getD g1.2.toNat 0=((preS jL s_ (g1.2.toNat+1):Nat):Int):=by rw [e1,e0]; omega
  refine wm<|aQ (by rw [e1]; unfold aD; omega) ?_;refine aQ (by rw [e2]; unfold aD; omega) ?_;refine wn<|ih1 _ ⟨ob,ob,?_⟩ ob;dsimp only;rw [show (g1.2+1).toNat=g1.2.toNat+1 by omega];exact e2
 ·refine au ?_;rw [a3,show g1.2.toNat=jL.length by omega,ahp h]
theorem alk (a b:Nat):(a:Int).tdiv (b:Int)=((a / b:Nat):Int):=by rw [Int.tdiv_eq_ediv_of_nonneg om,Int.natCast_ediv]
theorem alm (a b:Nat):(a:Int).tmod (b:Int)=((a % b:Nat):Int):=by rw [Int.tmod_eq_emod_of_nonneg om,Int.natCast_emod]
theorem ari {a b:List Int} (h:a.length=b.length) (h1:∀j,j<a.length→a.getD j 0=b.getD j 0):a=b:=by
 apply List.ext_getElem h;intro j h2 h3;have:=h1 j h2;rwa [List.getD_eq_getElem?_getD,List.getElem?_eq_getElem h2,List.getD_eq_getElem?_getD,List.getElem?_eq_getElem h3] at this
theorem oU {jL:List ay} {AY:List aX} {dx:dR→Option Int} (h:VS jL s) (hl:jL.length≤2000000) (hz:gW jL≤1000000000000):W (jM jL AY ((gJ jL s:Nat):Int) dx) (λ r=>r=s):=by
 have hp:=Hg h;have hsl:=h.1;unfold jM;refine aQ (by unfold big; omega) ?_;refine aQ (by unfold aD; omega) ?_;refine bM (λ g1:Int×Int×List Int => -1≤g1.2.1∧g1.2.1<jL.length∧g1.2.2.length=jL.length∧g1.1=((preS jL s (g1.2.1+1).toNat:Nat):Int)∧∀j:Nat,g1.2.1<j→j<jL.length→g1.2.2.getD j 0=s.getD j 0) (λ g1=>(g1.2.1+1).toNat) ?_ ?_
 ·intro ah g1 ⟨a1,a2,a3,a4,a5⟩ ih1;unfold wN;refine wi ?_ ?_<;>intro c1
  ·have hlt:g1.2.1.toNat<jL.length:=by omega
   obtain ⟨y0,y1⟩:=h.2 _ hlt;have e0:preS jL s (g1.2.1+1).toNat=(jL.getD g1.2.1.toNat aI).aK.length*preS jL s g1.2.1.toNat+(s.getD g1.2.1.toNat 0).toNat:=by
    rw [show (g1.2.1+1).toNat=g1.2.1.toNat+1 by omega,preS,Nat.mul_comm]
   have hc:0<(jL.getD g1.2.1.toNat aI).aK.length:=by omega
   have e1:g1.1.tdiv (((jL.getD g1.2.1.toNat aI).aK.length:Nat):Int)=((preS jL s g1.2.1.toNat:Nat):Int):=by
    rw [a4,alk,e0,Nat.mul_add_div hc,Nat.div_eq_of_lt om,Nat.add_zero]
   have e2:g1.1.tmod (((jL.getD g1.2.1.toNat aI).aK.length:Nat):Int)=s.getD g1.2.1.toNat 0:=by
    rw [a4,alm,e0,Nat.mul_add_mod,Nat.mod_eq_of_lt om]; omega
   have q1:=alj h (j:=g1.2.1.toNat) om;refine wn<|aQ om ?_;refine aQ ⟨om,by rw [e1]; unfold aD; omega⟩ ?_;refine wm<|ih1 _ ⟨ob,ob,by dsimp only; rw [List.length_set]; exact a3,?_,?_⟩ ob
   ·dsimp only;rw [e1,show (g1.2.1 - 1+1).toNat=g1.2.1.toNat by omega]
   ·dsimp only;intro j hj hj2;rw [e2,List.getD_eq_getElem?_getD,List.getElem?_set];by_cases e:g1.2.1.toNat=j
    ·subst e; rw [if_pos rfl,if_pos om]; rfl
    ·rw [if_neg e,← List.getD_eq_getElem?_getD]; exact a5 j om hj2
  ·exact au<|ari (a3.trans hsl.symm) λ j hj=>a5 j om om
 ·refine ⟨ob,ob,by simp,?_,λ j h1 h2=>by dsimp only at h1; omega⟩;dsimp only;rw [show (((jL.length:Int).toNat:Nat):Int) - 1+1=jL.length by omega,show (jL.length:Int).toNat=jL.length by omega,ahp h]
theorem ahq {r:bK} (hv:nR r=true):oO r=(r.jS==0):=by
 cases e:(r.jS==0) with
 | false=>exact acX (by simpa using e)
 | true=>
  cases q:oO r with
  | true=>rfl
  | false=>exact absurd (by simpa using e) (abw hv q)
theorem VL {x_:aX} {lQ:List bK} (h1:0≤x_.eU) (h2:x_.eU<lQ.length) (hv:nR (lQ.getD x_.eU.toNat dW)=true):W (vk x_ lQ) (λ r=>r=TQ lQ (agq x_)):=by
 unfold vk;refine wm<|aG (gN λ hc=>lY (Ai)) λ v1 hv1=>?_;subst v1;refine au ?_;unfold TQ;rw [show (agq x_).eU=x_.eU from rfl,ahq hv]; rfl
theorem agr {s_:List aX} {f_:List bK} (h1:s_.length≤2000000) (h2:∀x∈s_,(0≤x.eU∧x.eU<f_.length)∧nR (f_.getD x.eU.toNat dW)=true):W (je s_ f_) (λ r=>r=(s_.map agq).any (TQ f_)):=
 Vi (zJ (I6 (Oc (p:=λ x=>vk x f_) (P:=λ x=>TQ f_ (agq x)) (λ x hx=>lY (VL (h2 x hx).1.1 (h2 x hx).1.2 (h2 x hx).2)) om) (oM _ _))) λ r hr=>hr.trans (by rw [List.any_map]; rfl)
structure CmK (l:List ay) (way:List aX):Prop where
 ck:CkL l way
 ch:aas l
theorem abC (h:eG l=0) (hs:VS l s):(wB l s).1=gy l s:=(aeH (ZH h (Ug hs))).2.2
variable {l_:List ay} {oG:List aX}
theorem Un (h:CmK l_ oG) (hs:VS l_ s_) {v1:List bK×Int} (hv:v1.1=gy l_ s_):W (dF (Ee l_ oG v1) (0:Int)) (λ r=>r=nU l_ s_ oG):=by
 have hll:=h.ck.ll;have hwl:=h.ck.wl;have hsl:=hs.1;have hrl:(gy l_ s_).length=l_.length:=tH _ _ _;have hvr:∀j,j<l_.length→nR ((gy l_ s_).getD j dW)=true:=λ j hj=>(Kh (qy h.ck.ck) (Ug hs) j hj).2.2.1;refine bM (λ (g1:Int)=>0≤g1∧g1≤l_.length∧(∀j:Nat,(j:Int)<g1→agc ((gy l_ s_).getD j dW) (l_.getD j aI)=false)) (λ (g1:Int)=>(l_.length - g1).toNat) ?_ ⟨ob,ob,λ j hj=>by omega⟩;intro ah g1 ⟨a1,a2,a3⟩ ih1;unfold Ee;rw [hv];refine wi ?_ ?_<;>intro c1
 ·refine wm<|wn ?_;refine aG (gN λ hc=>lY (Ai)) λ v6 hv6=>?_;subst v6;have hof:(((gy l_ s_).getD g1.toNat dW).jS != 0)=!oO ((gy l_ s_).getD g1.toNat dW):=by rw [ahq (hvr g1.toNat om)]; rfl
  rw [hof];refine bW ?_ ?_<;>intro c2
  ·refine au ?_;unfold nU;rw [show ownB l_ (gy l_ s_)=false from tF (i:=g1.toNat) om (by rw [show agc ((gy l_ s_).getD g1.toNat dW) (l_.getD g1.toNat aI)=true from c2]; rfl)]; rfl
  ·refine wn<|ih1 _ ⟨ob,ob,λ j hj=>?_⟩ ob;by_cases q:j<g1.toNat
   ·exact a3 j om
   ·have e:j=g1.toNat:=by omega
    subst e; exact c2
 ·refine aG (agr hwl (λ x hx=>by have q:=h.ck.wc x hx; rw [hrl]; exact ⟨q,hvr _ om⟩)) λ v7 hv7=>?_;subst v7;refine au ?_;unfold nU;rw [show ownB l_ (gy l_ s_)=true from vv λ j hj=>by rw [a3 j om]; rfl]; rfl
theorem OU (h:CmK l_ oG) (hs:VS l_ s_):W (FL l_ s_ oG) (λ r=>r=nU l_ s_ oG):=by
 have hll:=h.ck.ll;have hsl:=hs.1;exact aG (Rq hll om h.ch) λ v1 hv1=>Un h hs (by rw [hv1]; exact abC h.ck.ck hs)
theorem Uo (h:CmK l_ oG) (hs:VS l_ s_):W (Ef l_ oG s_) (λ r=>r=nU l_ s_ oG):=by
 have hll:=h.ck.ll;have hsl:=hs.1;exact aG (VJ hll om h.ch) λ v1 hv1=>Un h hs (by rw [hv1]; exact abC h.ck.ck hs)
def Kn (l:List ay) (way:List aX) (f:dR→Option Int):Prop:=∀s v,VS l s→f (.i ((gJ l s:Nat):Int))=some v→v=if nU l s way then 1 else 0
theorem apx {way:List aX}:Kn l way (λ _=>none):=λ s v _ h=>by cases h
theorem Bq {way:List aX} {f:dR→Option Int} (h:CmK l way) (hs:VS l s) (hz:gW l≤1000000000000) (hk:Kn l way f):W (nE l way ((gJ l s:Nat):Int) f) (λ r=>r.1=nU l s way∧Kn l way r.2):=by
 unfold nE;refine bW ?_ ?_<;>intro c1
 ·refine aG (oU hs h.ck.ll hz) λ v1 hv1=>?_;subst v1;refine aG (Uo h hs) λ v2 hv2=>?_;subst v2;refine au ⟨rfl,?_⟩;intro t v ht hv;unfold BD at hv;dsimp only at hv;by_cases e:gJ l t=gJ l s
  ·have:=Gl ht hs e;subst this;rw [if_pos rfl] at hv;have hv:=Option.some.inj hv;rw [← hv];cases nU l t way<;>rfl
  ·rw [if_neg (λ q=>e (by injection q with q; omega))] at hv;exact hk t v ht hv
 ·refine au ⟨?_,hk⟩;have hsm:(f (.i ((gJ l s:Nat):Int))).isSome=true:=by simpa using c1
  obtain ⟨v,hv⟩:=Option.isSome_iff_exists.1 hsm;have:=hk s v hs hv;unfold jU;rw [hv,this];cases nU l s way<;>rfl
end Go.Proofs.YtifekdmmpbcdgaaGreatDoor

/-
  Proved: the law bringuplaw33.GrantLeast returns true at every input and leaves its arguments as they were; the card ties the package variable clock.off to the program's text. No condition beyond the card's own.
-/
import Derived.Test.YtccjmcmolnbiiaaGreatDoorA9
import Derived.Test.YtccjmcmolnbiiaaGreatDoorA7
import Derived.Test.YtccjmcmolnbiiaaGreatDoorA6
set_option maxHeartbeats 4000000
set_option linter.unusedVariables false
set_option linter.unusedSimpArgs false
namespace Go.Proofs.YtccjmcmolnbiiaaGreatDoor
open Go.Ab
set_option maxRecDepth 100000
variable {l:List aJ} {ms:List Int}
theorem Ve {α:Type} {f:aJ→List α} {k:Nat} (hf:∀x∈l,(f x).length≤2000000) (hin:∀m∈ms,0≤m∧m<l.length) (hm:ms.length≤10000) (hk:k≤64):W (cO (λ (self:Int×List α→M (List α)) g1=>
 bif (decide (g1.1<(ms.length:Int))) then
  need (0≤g1.1∧g1.1<(ms.length:Int))<|
  bif ((decide ((0:Int)≤(ms.getD g1.1.toNat 0)))&&(decide ((ms.getD g1.1.toNat 0)<(l.length:Int)))) then
   need (0≤(ms.getD g1.1.toNat 0)∧(ms.getD g1.1.toNat 0)<(l.length:Int))<|
   need ((g1.2.length+(f (l.getD ((ms.getD g1.1.toNat 0).toNat) aZ)).length)*k≤big)<|
   need (aF (g1.1+(1:Int)))<|
   self ((g1.1+(1:Int)),(g1.2++f (l.getD ((ms.getD g1.1.toNat 0).toNat) aZ)))
  else
   need (aF (g1.1+(1:Int)))<|
   self ((g1.1+(1:Int)),g1.2)
 else
  ret g1.2) ((0:Int),([]:List α))) (λ r=>r=jn f l ms):=by
 refine bH (λ g1:Int×List α=>0≤g1.1∧g1.1≤ms.length∧g1.2=jn f l (ms.take g1.1.toNat)) (λ g1=>(ms.length - g1.1).toNat) ?_ ⟨ob,ob,rfl⟩;intro self g1 ⟨h1,h2,h3⟩ ih;refine wi ?_ ?_<;>intro c
 ·have hx:=hin _ (getD_in (i:=g1.1.toNat) 0 om);have hl:=zD (f:=f) (l:=l) (c:=2000000) (ms:=ms.take g1.1.toNat) λ m q=>hf _ (getD_in aZ (by have:=hin m (List.mem_of_mem_take q); omega));rw [← h3,List.length_take] at hl;have hv2:=hf _ (getD_in (i:=(ms.getD g1.1.toNat 0).toNat) aZ om);have hb:(g1.2.length+(f (l.getD ((ms.getD g1.1.toNat 0).toNat) aZ)).length)*k≤(g1.2.length+(f (l.getD ((ms.getD g1.1.toNat 0).toNat) aZ)).length)*64:=Nat.mul_le_mul_left _ hk;refine wn<|bL (λ c2=>?_) (λ c2=>by rw [decide_eq_true hx.1,decide_eq_true hx.2] at c2; cases c2);refine aO hx ?_;refine aO (by unfold big; omega) ?_;refine wn ?_;exact ih _ ⟨ob,ob,by dsimp only; rw [show (g1.1+1).toNat=g1.1.toNat+1 by omega,qY om,h3]⟩ ob
 ·exact av (by rw [h3,List.take_of_length_le om])
theorem Pj {l_:List Int} {x_:Int} (h:l_.length≤2000000):W (Ih l_ x_) (λ r=>r=l_.contains x_):=by
 unfold Ih;refine bH (λ g1:Int=>0≤g1∧∀j:Nat,(j:Int)<g1→l_.getD j 0≠x_) (λ g1=>(l_.length - g1).toNat) ?_ ⟨ob,λ j hj=>by omega⟩;intro aj g1 ⟨a1,a2⟩ ih1;unfold Xv;refine wi ?_ ?_<;>intro c
 ·refine wn<|wi ?_ ?_<;>intro c2
  ·refine av (List.contains_iff_mem.2 ?_).symm;rw [← c2]; exact getD_in 0 om
  ·exact aO ob (ih1 _ ⟨om,dZ a2 a1 c2⟩ om)
 ·refine av ?_;cases q:l_.contains x_ with
  | false=>rfl
  | true=>
   have:∀y∈l_,y≠x_:=kC 0 λ j hj=>a2 j om;exact absurd rfl (this _ (List.contains_iff_mem.1 q))
def FL (b:aS) (l:List aJ) (ms:List Int):Prop:=(∃t,VS b.bR t∧fC b.bR t (jn aJ.bY l ms)=true)∧(Sp.jr b.bD (jn aJ.fJ l ms)).2=0
variable {M_:List Int}
theorem adH {l_:List aT} (h1:l_.length≤2000000) (h2:M_.length≤10000):W (PU l_ M_) (λ r=>r=Dg M_ l_):=by
 unfold PU;refine bH (λ g1:Int×List aT=>0≤g1.1∧g1.1≤l_.length∧g1.2=Dg M_ (l_.take g1.1.toNat)) (λ g1=>(l_.length - g1.1).toNat) ?_ ⟨ob,ob,rfl⟩;intro aj g1 ⟨a1,a2,a3⟩ ih1;have hl:g1.2.length≤g1.1.toNat:=by
  rw [a3]; unfold Dg;exact Nat.le_trans (List.length_filter_le _ _) (by rw [List.length_take]; omega)
 unfold TT;refine wi ?_ ?_<;>intro c
 ·have hs:=tL (λ u:aT=>M_.contains u.gW) l_ bB (i:=g1.1.toNat) om;have e:(g1.1+1).toNat=g1.1.toNat+1:=by omega
  refine wn<|aH (Pj om) λ v8 uG=>?_;refine bL ?_ ?_<;>intro c2
  ·rw [c2] at uG;refine aO (by unfold big; omega) ?_;refine wn<|ih1 _ ⟨ob,ob,?_⟩ ob;dsimp only;unfold Dg at a3 ⊢;rw [e,hs,← a3,if_pos uG.symm]
  ·rw [c2] at uG;refine wn<|ih1 _ ⟨ob,ob,?_⟩ ob;dsimp only;unfold Dg at a3 ⊢;rw [e,hs,← a3,if_neg (by rw [← uG]; exact Bool.false_ne_true),List.append_nil]
 ·exact av (by rw [a3,List.take_of_length_le om])
theorem LW {l_:List aT} (h1:l_.length≤2000000) (h2:M_.length≤10000):W (xH l_ M_) (λ r=>r=Dg M_ l_):=by
 unfold xH;refine bH (λ g1:Int×List aT=>0≤g1.1∧g1.1≤l_.length∧g1.2=Dg M_ (l_.take g1.1.toNat)) (λ g1=>(l_.length - g1.1).toNat) ?_ ⟨ob,ob,rfl⟩;intro aj g1 ⟨a1,a2,a3⟩ ih1;have hl:g1.2.length≤g1.1.toNat:=by
  rw [a3]; unfold Dg;exact Nat.le_trans (List.length_filter_le _ _) (by rw [List.length_take]; omega)
 unfold Ls;refine wi ?_ ?_<;>intro c
 ·have hs:=tL (λ u:aT=>M_.contains u.gW) l_ bB (i:=g1.1.toNat) om;have e:(g1.1+1).toNat=g1.1.toNat+1:=by omega
  refine wn<|aH (Pj om) λ v8 uG=>?_;refine bL ?_ ?_<;>intro c2
  ·rw [c2] at uG;refine aO (by unfold big; omega) ?_;refine wn<|ih1 _ ⟨ob,ob,?_⟩ ob;dsimp only;unfold Dg at a3 ⊢;rw [e,hs,← a3,if_pos uG.symm]
  ·rw [c2] at uG;refine wn<|ih1 _ ⟨ob,ob,?_⟩ ob;dsimp only;unfold Dg at a3 ⊢;rw [e,hs,← a3,if_neg (by rw [← uG]; exact Bool.false_ne_true),List.append_nil]
 ·exact av (by rw [a3,List.take_of_length_le om])
theorem Rv {l_:List aI} {s_:List Int} (h1:l_.length≤1000) (h2:VS l_ s_) (h3:∀i,i<l_.length→(l_.getD i aK).aM.length≤2000000):W (JG l_ s_) (λ r=>(r.2=true→VS l_ r.1∧nR l_ r.1=nR l_ s_+1)∧(r.2=false→nR l_ s_+1=qV l_)):=by
 obtain ⟨hsl,hsv⟩:=id h2;unfold JG;refine wm<|bH (λ (g1:Int×List Int) => -1≤g1.1∧g1.1<l_.length∧g1.2.length=l_.length∧(∀j:Nat,(j:Int)≤g1.1→g1.2.getD j 0=s_.getD j 0)∧(∀j:Nat,g1.1<(j:Int)→j<l_.length→g1.2.getD j 0=0∧s_.getD j 0+1=(l_.getD j aK).aM.length)) (λ (g1:Int×List Int)=>(g1.1+1).toNat) ?_ ?_
 ·intro aj g1 d9 bV;obtain ⟨dN,bO,bE,jA,BZ⟩:=d9;unfold Q7;refine wi ?_ ?_<;>intro c1
  ·have hv:=hsv g1.1.toNat om;have hc:=h3 g1.1.toNat om;have he:=jA g1.1.toNat om;have hgs:(g1.2.set g1.1.toNat (g1.2.getD g1.1.toNat 0+1)).getD g1.1.toNat 0=s_.getD g1.1.toNat 0+1:=(by rw [Sp.gq,if_pos ⟨rfl,om⟩,he]);have hgo:∀j,j≠g1.1.toNat→(g1.2.set g1.1.toNat (g1.2.getD g1.1.toNat 0+1)).getD j 0=g1.2.getD j 0:=λ j hj=>(by rw [Sp.gq,if_neg (λ e=>hj e.1)])
   refine wm<|wn ?_;unfold Gl;refine wm<|wi ?_ ?_<;>intro c2
   ·rw [hgs] at c2;exact av (⟨λ _=>ahC h2 (k:=g1.1.toNat) om (by simpa using bE) (λ j hj=>by rw [hgo j om]; exact jA j om) hgs (λ j h1 h2=>by rw [hgo j om]; exact BZ j om h2) c2,nofun⟩)
   ·rw [hgs] at c2;refine wm<|bV _ ?_ ?_
    ·(refine ⟨ob,ob,by simpa using bE,λ j hj=>?_,λ j h1 h2=>?_⟩; (dsimp only at hj ⊢; rw [Sp.gq,if_neg om,hgo j om]; exact jA j om); (dsimp only at h1 ⊢; rw [Sp.gq]; by_cases q:j=g1.1.toNat; (rw [if_pos ⟨q,by rw [List.length_set]; omega⟩,q]; omega); (rw [if_neg (λ e=>q e.1),hgo j q]; exact BZ j om h2)))
    ·exact ob
  ·exact av (⟨nofun,λ _=>adv h2 λ j hj=>(BZ j om hj).2⟩)
 ·(refine ⟨ob,ob,by simpa using hsl,λ j _=>rfl,λ j h1 h2=>by dsimp only at h1; omega⟩)
structure FsA (l:List aI) (m:List bM) (P:List Int→Prop) (o:List (List Int)):Prop where
 no:o=[]→∀t,VS l t→P t→Rp l t m=false
 hd:o≠[]→VS l (o.getD 0 [])∧Rp l (o.getD 0 []) m=true∧∀t,VS l t→Rp l t m=true→nR l (o.getD 0 [])≤nR l t
theorem adI {l_:List aI} {m_:List bM} (h1:eD l_=0) (h2:m_.length≤2000000) (h3:∀x∈m_,0≤x.eZ∧x.eZ<l_.length):W (PO l_ m_) (FsA l_ m_ λ _=>True):=by
 have hf:=uW h1;have hsz:=size_le hf;have hlen:=hf.len;have hcb:∀i,i<l_.length→(l_.getD i aK).aM.length≤2000000:=λ i hi=>by have:=hf.big i hi; omega
 unfold PO;refine wn<|bH (λ (g1:(List Int×Bool×(List (List Int))))=>(g1.2.1=true→VS l_ g1.1∧g1.2.2.length≤nR l_ g1.1)∧FsA l_ m_ (λ t=>g1.2.1=true→nR l_ t<nR l_ g1.1) g1.2.2) (λ (g1:(List Int×Bool×(List (List Int))))=>bif g1.2.1 then qV l_ - nR l_ g1.1+1 else 0) ?_ ?_
 ·intro aj g1 ⟨dN,ha⟩ bV;unfold TQ;refine bL ?_ ?_<;>intro c1
  ·obtain ⟨hvs,hln⟩:=dN c1;have hset:=Ut hvs;have hpl:=JZ hvs;unfold JH;refine aH (adw (PW hf hset) (akD hf hset) h2 h3) λ v9 Sl=>?_;subst v9;refine bL ?_ ?_<;>intro c2
   ·refine wn ?_;unfold xG;refine aH (Rv om hvs hcb) λ v8 ⟨uG,_⟩=>?_;refine bV _ ⟨λ e=>⟨(uG e).1,by have:=(uG e).2; simp only [List.length_append,List.length_singleton]; omega⟩,⟨λ e=>absurd e (by simp),λ _=>?_⟩⟩ ?_
    ·dsimp only;cases ho:g1.2.2 with
     | nil=>exact ⟨hvs,c2,λ t ht hft=>Nat.le_of_not_lt λ q=>by rw [ha.no ho t ht λ _=>q] at hft; cases hft⟩
     | cons a o=>have:=ha.hd (by rw [ho]; simp); rw [ho] at this; exact this
    ·(dsimp only; rw [c1]; cases e:v8.2 with | true=>(have:=(uG e).2; have:=JZ (uG e).1; simp only [cond_true]; omega) | false=>(simp only [cond_true,cond_false]; omega))
   ·unfold xG;refine aH (Rv om hvs hcb) λ v8 ⟨uG,Sl⟩=>?_;refine bV _ ⟨λ e=>⟨(uG e).1,by have:=(uG e).2; dsimp only; omega⟩,⟨λ e t ht hp=>?_,ha.hd⟩⟩ ?_
    ·dsimp only at hp e;have hpt:=JZ ht;by_cases q:nR l_ t<nR l_ g1.1
     ·exact ha.no e t ht λ _=>q
     ·have:nR l_ t=nR l_ g1.1:=by
       cases e8:v8.2 with
       | true=>have:=hp e8; have:=(uG e8).2; omega
       | false=>have:=Sl e8; omega
      rw [Y3 ht hvs this]; exact c2
    ·(dsimp only; rw [c1]; cases e:v8.2 with | true=>(have:=(uG e).2; have:=JZ (uG e).1; simp only [cond_true]; omega) | false=>(simp only [cond_true,cond_false]; omega))
  ·exact av ⟨λ e t ht _=>ha.no e t ht λ q=>(by rw [c1] at q; cases q),ha.hd⟩
 ·exact ⟨λ _=>⟨ahD hf,Nat.zero_le _⟩,⟨λ _ t _ q=>by have q:=q rfl; dsimp only at q; rw [aav (s:=List.replicate _ 0) λ j _=>Sp.mF _ _ _] at q; omega,λ e=>absurd rfl e⟩⟩
theorem Pk {l_:List aI} {m_:List bM} (h1:l_.length≤2000000) (h2:m_.length≤2000000):W (Ap l_ m_) (λ r=>r.2=0→agY l_ m_ r.1∧lq l_ m_=true):=by
 unfold Ap;refine aH (abu ob ob) λ v1 hv1=>?_;subst v1;refine bL (λ c1=>av λ e=>?_) (λ c1=>?_)
 ·have c1:=nr c1; exact absurd e c1
 obtain ⟨b1,b2⟩:=aiR c1;refine aH (adI b1 h2 (ahE b2)) λ v2 hv2=>?_;refine bL (λ c2=>av nofun) (λ c2=>?_);have c2:=nr c2;refine wn<|av λ _=>⟨?_,b2⟩;obtain ⟨q1,q2,q3⟩:=hv2.hd (λ e=>by rw [e] at c2; simp at c2);exact ⟨q1,by rw [J6 b2 (Ut q1)]; exact q2,λ t ht hm=>q3 t ht (by rw [← J6 b2 (Ut ht)]; exact hm)⟩
theorem BG {l_:List eG} {eP:List Int} (h1:∀g∈l_,g.dY.length≤2000000) (h2:eP.length≤100000000000) (h0:RsA l_ 0) (h4:∀x∈eP,0≤x∧x<l_.length):W (sS l_ eP) (λ r=>r.2=0∧Lst l_.length (aax l_) eP r.1):=by
 unfold sS;refine aH (Em h1) λ v1 hv1=>?_;have e1:=RsA.fun _ _ hv1 h0;subst e1;refine bL (λ c1=>by cases c1) (λ c1=>?_)
 ·obtain ⟨p1,p2⟩:=h0.ok;refine wn<|bH (λ (g1:Int×List Bool)=>0≤g1.1∧g1.2.length=l_.length∧(∀j:Nat,(j:Int)<g1.1→g1.2.getD (eP.getD j 0).toNat false=true)∧Low (aax l_) eP g1.2) (λ (g1:Int×List Bool)=>(eP.length - g1.1).toNat) ?_ ?_
  ·intro aj g1 d9 bV;obtain ⟨dN,bO,bE,jA⟩:=d9;unfold Lc;refine wi ?_ ?_<;>intro c2
   ·refine wn ?_;have hm:=getD_in (l:=eP) (i:=g1.1.toNat) 0 om;have hx:=h4 _ hm;refine wn<|bL (λ c3=>by have c3:=nr c3; omega) (λ c3=>?_)
    ·have c3:=nr c3;refine wm<|wn ?_;refine bV _ ?_ ?_
     ·(refine ⟨ob,ob,λ j hj=>FT ?_ om,vg jA λ _ t _ ht=>ht _ hm⟩; by_cases q:(j:Int)<g1.1; (exact .inl (bE j q)); (have e:j=g1.1.toNat:=by (try dsimp only at hj); omega); subst e; exact .inr rfl)
     ·exact ob
   ·refine wn<|bH (λ (g2:Int×List Bool) => -1≤g2.1∧g2.1<l_.length∧g2.2.length=l_.length∧(∀j:Nat,(j:Int)<eP.length→g2.2.getD (eP.getD j 0).toNat false=true)∧(∀i:Nat,g2.1<(i:Int)→(i:Int)<l_.length→g2.2.getD i false=true→∀x∈(l_.getD i dn).dY,g2.2.getD x.toNat false=true)∧Low (aax l_) eP g2.2) (λ (g2:Int×List Bool)=>(g2.1+1).toNat) ?_ ?_
    ·intro dJ g2 mO qx;obtain ⟨qU,jB,mI,Ca,Rt,Rw⟩:=mO;unfold Ie;refine wi ?_ ?_<;>intro c4
     ·have hgl:=h1 _ (getD_in (i:=g2.1.toNat) dn om);refine bH (λ (g5:Int×List Bool)=>0≤g5.1∧g5.2.length=l_.length∧(∀j:Nat,(j:Int)<eP.length→g5.2.getD (eP.getD j 0).toNat false=true)∧(∀i:Nat,g2.1<(i:Int)→(i:Int)<l_.length→g5.2.getD i false=true→∀x∈(l_.getD i dn).dY,g5.2.getD x.toNat false=true)∧(∀k:Nat,(k:Int)<g5.1→g5.2.getD (((l_.getD g2.1.toNat dn).dY).getD k 0).toNat false=true)∧Low (aax l_) eP g5.2) (λ (g5:Int×List Bool)=>((l_.getD g2.1.toNat dn).dY.length - g5.1).toNat) ?_ ?_
      ·intro j5 g5 V7 V8;obtain ⟨Rl,Eh,LD,aaG,afp,acj⟩:=V7;unfold Ic;refine wm<|bL ?_ ?_<;>intro c5
       ·have AO:=c5;have c5:=nr c5;simp only [Bool.and_eq_true,decide_eq_true_eq] at AO;have hxm:=getD_in (l:=(l_.getD g2.1.toNat dn).dY) (i:=g5.1.toNat) 0 om;have hx:=p2 g2.1.toNat om _ hxm;refine wm<|wm ?_;refine V8 _ ?_ ?_
        ·(refine ⟨ob,ob,λ j hj=>FT (.inl (LD j hj)) om,λ i h3 h4 h5 x hx2=>?_,λ k hk=>FT ?_ om,vg acj λ _ t h1 h2=>h1 g2.1.toNat om (acj t h1 h2 _ AO.2) _ hxm⟩; (rw [kM om] at h5; exact FT (.inl (aaG i h3 h4 h5 x hx2)) om); by_cases q:(k:Int)<g5.1; (exact .inl (afp k q)); (have e:k=g5.1.toNat:=by (try dsimp only at hk); omega); subst e; exact .inr rfl)
        ·exact ob
       ·have AO:=c5;have c5:=nr c5;refine wn<|qx _ ?_ ?_
        ·(refine ⟨ob,ob,Eh,LD,λ i h3 h4 h5=>?_,acj⟩; by_cases q:g2.1<(i:Int); (exact aaG i q h4 h5); (have e:i=g2.1.toNat:=by (try dsimp only at h3); omega); subst e; refine kC 0 λ k hk=>afp k ?_; rw [h5,Bool.and_true] at AO; have:=of_decide_eq_false AO; omega)
        ·exact ob
      ·(refine ⟨ob,mI,Ca,Rt,λ k hk=>by (try dsimp only at hk); omega,Rw⟩)
     ·exact av (⟨rfl,mI,λ i hi=>Rt i om hi,kC 0 λ j hj=>Ca j om,Rw⟩)
    ·(refine ⟨ob,ob,bO,λ j hj=>bE j om,λ i h1 h2=>by (try dsimp only at h1); omega,jA⟩)
  ·(refine ⟨ob,by simp,λ j hj=>by (try dsimp only at hj); omega,Y5⟩)
theorem adJ {l_:List dD} {eO:List Int} (h1:DmA l_ 0) (h3:eO.length≤100000000000) (h4:∀x∈eO,0≤x∧x<l_.length):W (PS l_ eO) (λ r=>r=0):=by
 unfold PS;refine aH En λ v1 hv1=>?_;have e1:=DmA.fun _ _ hv1 h1;subst e1;refine bL (λ c1=>by cases c1) (λ _=>?_);refine bH (λ g1:Int=>0≤g1) (λ g1=>(eO.length - g1).toNat) ?_ (Int.le_refl _);intro aj g1 a1 ih1;unfold TR;refine bL (λ c=>?_) (λ c=>av rfl);have c:=nr c;have hx:=h4 _ (getD_in (i:=g1.toNat) 0 om);refine wm<|bL (λ c2=>by have c2:=nr c2; omega) (λ c2=>?_);refine wn ?_;exact ih1 _ om om
theorem Pm {l_:List dD} {eO:List Int} (h1:eO.length≤2000000) (h0:DmA l_ 0) (h4:∀x∈eO,0≤x∧x<l_.length):W (Ig l_ eO) (λ r=>r.2=0∧Lst l_.length (afo l_) eO r.1):=by
 unfold Ig;refine aH (adJ h0 om h4) λ v1 hv1=>?_;subst hv1;refine bL (λ c1=>by cases c1) (λ c1=>?_)
 ·obtain ⟨p1,p2⟩:=h0.ok;have p3:=h4;refine wn<|bH (λ (g1:Int×List Bool)=>0≤g1.1∧g1.2.length=l_.length∧(∀j:Nat,(j:Int)<g1.1→g1.2.getD (eO.getD j 0).toNat false=true)∧Low (afo l_) eO g1.2) (λ (g1:Int×List Bool)=>(eO.length - g1.1).toNat) ?_ ?_
  ·intro aj g1 d9 bV;obtain ⟨dN,bO,bE,jA⟩:=d9;unfold Xu;refine wi ?_ ?_<;>intro c2
   ·have hm:=getD_in (l:=eO) (i:=g1.1.toNat) 0 om;have hx:=p3 _ hm;refine wm<|wn ?_;refine bV _ ?_ ?_
    ·(refine ⟨ob,ob,λ j hj=>FT ?_ om,vg jA λ _ t _ ht=>ht _ hm⟩; by_cases q:(j:Int)<g1.1; (exact .inl (bE j q)); (have e:j=g1.1.toNat:=by (try dsimp only at hj); omega); subst e; exact .inr rfl)
    ·exact ob
   ·refine wn<|bH (λ (g2:Int×List Bool) => -1≤g2.1∧g2.1<l_.length∧g2.2.length=l_.length∧(∀j:Nat,(j:Int)<eO.length→g2.2.getD (eO.getD j 0).toNat false=true)∧(∀i:Nat,g2.1<(i:Int)→(i:Int)<l_.length→RgK l_ g2.2 i)∧Low (afo l_) eO g2.2) (λ (g2:Int×List Bool)=>(g2.1+1).toNat) ?_ ?_
    ·intro dJ g2 mO qx;obtain ⟨qU,jB,mI,Ca,Rt,Rw⟩:=mO;unfold TS;refine wi ?_ ?_<;>intro c3
     ·have hp:=p2 g2.1.toNat om;refine wm<|wn ?_;unfold JI;refine wm<|bL ?_ ?_<;>intro c4
      ·have sj:=c4;have c4:=nr c4;refine wm<|wn ?_;refine qx _ ?_ ?_
       ·(have q:=Bool.and_eq_true_iff.1 sj; have q2:=of_decide_eq_true q.2; refine ⟨ob,ob,ob,λ j hj=>FT (.inl (Uu om (Ca j hj))) (by rw [List.length_set]; omega),λ k h3 h4=>apR om mI om Rt (by (try dsimp only at h3); omega) h4,vg (vg Rw λ hb t h1 h2=>(Bool.or_eq_true_iff.1 hb).elim (λ q=>Rw t h1 h2 _ q) (λ q=>h1.al _ om q)) λ _ t h1 h2=>h1.pa g2.1.toNat om ((vg Rw λ hb t h1 h2=>(Bool.or_eq_true_iff.1 hb).elim (λ q=>Rw t h1 h2 _ q) (λ q=>h1.al _ om q)) t h1 h2 _ q.1) q2⟩)
       ·exact ob
      ·have sj:=c4;have c4:=nr c4;refine wn<|qx _ ?_ ?_
       ·(refine ⟨ob,ob,ob,λ j hj=>Uu om (Ca j hj),λ k h3 h4=>apQ om mI Rt (λ hq=>by rw [hq.1,decide_eq_true hq.2] at sj; cases sj) (by (try dsimp only at h3); omega) h4,vg Rw λ hb t h1 h2=>(Bool.or_eq_true_iff.1 hb).elim (λ q=>Rw t h1 h2 _ q) (λ q=>h1.al _ om q)⟩)
       ·exact ob
     ·exact av (⟨rfl,mI,⟨λ i hi=>(Rt i om hi).1,λ i hi=>(Rt i om hi).2⟩,kC 0 λ j hj=>Ca j om,Rw⟩)
    ·(refine ⟨ob,ob,bO,λ j hj=>bE j om,λ i h1 h2=>by (try dsimp only at h1); omega,jA⟩)
  ·(refine ⟨ob,by simp,λ j hj=>by (try dsimp only at hj); omega,Y5⟩)
variable {b:aS}
theorem alq (hn:mQ b l 0) (hd:yA l ms):∀x∈jn aJ.aY l ms,0≤x∧x<b.aY.length:=λ x hx=>by
 obtain ⟨m,hm,hx⟩:=List.mem_flatMap.1 hx;exact ((tq hn).2.2 _ (yj hd hm)).rs x hx
theorem alr (hn:mQ b l 0) (hd:yA l ms):∀x∈jn Y6 l ms,0≤x∧x<b.cB.length:=λ x hx=>by
 obtain ⟨m,hm,hx⟩:=List.mem_flatMap.1 hx;have hdm:=((tq hn).2.2 _ (yj hd hm)).dm;unfold Y6 at hx;cases q:decide ((l.getD m.toNat aZ).fI<0) with
 | true=>rw [q] at hx; cases hx
 | false=>
  rw [q] at hx;have:=of_decide_eq_false q;have hx:=List.mem_singleton.1 hx;omega
variable {b_:aS} {g_:bF}
theorem aaW {l_:List aJ} (h1:Ef b_) (h2:GSz b_.aR) (h3:Md l_) (h4:M_.length≤10000) (h5:g_.dP.length≤2000000):W (FD b_ l_ M_ g_) (λ r=>Ga2 r∧r.2.2.2.2.2.2.2.length≤g_.dP.length∧(r.2.2.2.2.2.2.1=0→mQ b_ l_ 0∧yA l_ M_∧AgA b_ l_ M_ g_.dP ⟨r.1,⟨r.2.1,r.2.2.1⟩,r.2.2.2.2.2.2.2,r.2.2.2.1,r.2.2.2.2.1⟩)):=by
 obtain ⟨z1,z2,z3,z4,z5,z6,z7⟩:=id h1;unfold FD;refine aH (zW h1 h2 h3) λ v1 hv1=>?_;refine bL (λ c1=>av ⟨zX _ _,by simp,λ e=>by have c1:=nr c1; exact absurd e c1⟩) (λ c1=>?_);have c1:=nr c1;rw [c1] at hv1;obtain ⟨hb,hl12,hnd⟩:=tq hv1;refine aH (sW om om) λ v2 hv2=>?_;refine bL (λ c2=>av ⟨zX _ _,by simp,nofun⟩) (λ c2=>?_);have c2:=nr c2;have hdf:=hv2.1 c2;have hin:=SV hdf;obtain ⟨_,hra,hda⟩:=Qe hv1;refine aH (Ve (k:=24) (f:=aJ.bY) (λ x hx=>by have:=(hnd x hx).ll; omega) hin h4 om) λ v3 hv3=>?_;refine aH (Ve (k:=32) (f:=aJ.fJ) (λ x hx=>by have:=(hnd x hx).dl; omega) hin h4 om) λ v4 hv4=>?_;refine aH (rA (P:=λ _=>True) λ _=>F8 (λ x hx=>(hnd x hx).fl) h4) λ v5 _=>?_;refine bL (λ c3=>av ⟨zX _ _,by simp,nofun⟩) (λ c3=>?_);simp only [Bool.or_eq_false_iff] at c3;obtain ⟨⟨c3,c3'⟩,_⟩:=c3;have c3:=nr c3; have c3:=nr c3';refine aH (Pk z1 om) λ v6 hv6=>?_;refine bL (λ c4=>av ⟨zX _ _,by simp,nofun⟩) (λ c4=>?_);have c4:=nr c4;obtain ⟨hst,hlb⟩:=hv6 c4;have hsl:=hst.1.1;refine aH (Sp.Ro z3 om) λ v7 hv7=>?_;refine bL (λ c5=>av ⟨zX _ _,by simp,nofun⟩) (λ c5=>?_);have c5:=nr c5;rw [hv7] at c5;have hle:=Sp.Qd c5;rw [← hv7] at hle;refine bH (λ g1:Int×List Int×List Int=>0≤g1.1∧g1.1≤M_.length∧g1.2.1=jn aJ.aY l_ (M_.take g1.1.toNat)∧g1.2.2=jn Y6 l_ (M_.take g1.1.toNat)) (λ g1=>(M_.length - g1.1).toNat) ?_ ⟨ob,ob,rfl,rfl⟩;intro aj g1 ⟨a1,a2,a3,a4⟩ ih1;have l3:=zD (f:=aJ.aY) (l:=l_) (c:=2000000) (ms:=M_.take g1.1.toNat) λ m q=>(h3.nd _ (yj hdf (List.mem_of_mem_take q))).1;have l4:=zD (f:=Y6) (l:=l_) (c:=1) (ms:=M_.take g1.1.toNat) λ m _=>Vd _;rw [← a3,List.length_take] at l3;rw [← a4,List.length_take] at l4;unfold Ld;refine wi ?_ ?_<;>intro c
 ·have hm:=(hdf g1.1.toNat om).1;have hx:=(h3.nd _ (getD_in (i:=(M_.getD g1.1.toNat 0).toNat) aZ om)).1;have e:(g1.1+1).toNat=g1.1.toNat+1:=by omega
  refine aO om ?_;refine aO hm ?_;refine aO (by unfold big; omega) ?_;refine aO hm ?_;refine wi ?_ ?_<;>intro c6
  ·refine aO hm ?_;refine aO (by unfold big; omega) ?_;refine aO (by unfold aF; omega) ?_;exact ih1 _ ⟨by dsimp only; omega,by dsimp only; omega,by dsimp only; rw [e,qY om,a3],by dsimp only; rw [e,qY om,a4]; congr 1; unfold Y6; rw [decide_eq_false om]; rfl⟩ (by dsimp only; omega)
  ·refine aO (by unfold aF; omega) ?_;exact ih1 _ ⟨by dsimp only; omega,by dsimp only; omega,by dsimp only; rw [e,qY om,a3],by dsimp only; rw [e,qY om,a4]; unfold Y6; rw [decide_eq_true om]; exact (List.append_nil _).symm⟩ (by dsimp only; omega)
 ·rw [List.take_of_length_le om] at a3 a4;refine aH (BG z6 om hra (by rw [a3]; exact alq hv1 hdf)) λ v8 ⟨_,uG⟩=>?_;refine aH (Pm om hda (by rw [a4]; exact alr hv1 hdf)) λ v9 ⟨_,Sl⟩=>?_;refine aH (adH h5 h4) λ v10 ED=>?_;rw [a3] at uG;rw [a4] at Sl;refine av ⟨⟨by dsimp only; omega,by dsimp only; omega,by dsimp only; omega,by dsimp only; rw [uG.ln]; have:=hb.rs.len; omega,by dsimp only; rw [Sl.ln]; omega⟩,by dsimp only; rw [ED]; exact List.length_filter_le _ _,λ _=>⟨hv1,hdf,⟨by rw [← hv3]; exact hst,?_,ED,uG,Sl⟩⟩⟩;dsimp only;rw [← hv4];refine Eq.trans ?_ (show v7=(⟨v7.1.On,v7.1.dQ⟩,0) from Prod.ext rfl (by rw [hv7]; exact c5));exact hv7.symm
theorem Vf {l_:List aJ} (h1:Ef b_) (h2:GSz b_.aR) (h3:Md l_) (h4:M_.length≤10000) (h5:g_.dP.length≤2000000):W (xI b_ l_ g_ M_) (λ r=>Ga2 r∧r.2.2.2.2.2.2.2.length≤g_.dP.length∧(r.2.2.2.2.2.2.1=0→mQ b_ l_ 0∧yA l_ M_∧AgA b_ l_ M_ g_.dP ⟨r.1,⟨r.2.1,r.2.2.1⟩,r.2.2.2.2.2.2.2,r.2.2.2.1,r.2.2.2.2.1⟩)):=by
 obtain ⟨z1,z2,z3,z4,z5,z6,z7⟩:=id h1;unfold xI;refine aH (zW h1 h2 h3) λ v1 hv1=>?_;refine bL (λ c1=>av ⟨zX _ _,by simp,λ e=>by have c1:=nr c1; exact absurd e c1⟩) (λ c1=>?_);have c1:=nr c1;rw [c1] at hv1;obtain ⟨hb,hl12,hnd⟩:=tq hv1;refine aH (sW om om) λ v2 hv2=>?_;refine bL (λ c2=>av ⟨zX _ _,by simp,nofun⟩) (λ c2=>?_);have c2:=nr c2;have hdf:=hv2.1 c2;have hin:=SV hdf;obtain ⟨_,hra,hda⟩:=Qe hv1;refine aH (Ve (k:=24) (f:=aJ.bY) (λ x hx=>by have:=(hnd x hx).ll; omega) hin h4 om) λ v3 hv3=>?_;refine aH (Ve (k:=32) (f:=aJ.fJ) (λ x hx=>by have:=(hnd x hx).dl; omega) hin h4 om) λ v4 hv4=>?_;refine aH (rA (P:=λ _=>True) λ _=>F8 (λ x hx=>(hnd x hx).fl) h4) λ v5 _=>?_;refine bL (λ c3=>av ⟨zX _ _,by simp,nofun⟩) (λ c3=>?_);simp only [Bool.or_eq_false_iff] at c3;obtain ⟨⟨c3,c3'⟩,_⟩:=c3;have c3:=nr c3; have c3:=nr c3';refine aH (Pk z1 om) λ v6 hv6=>?_;refine bL (λ c4=>av ⟨zX _ _,by simp,nofun⟩) (λ c4=>?_);have c4:=nr c4;obtain ⟨hst,hlb⟩:=hv6 c4;have hsl:=hst.1.1;refine aH (Sp.Ro z3 om) λ v7 hv7=>?_;refine bL (λ c5=>av ⟨zX _ _,by simp,nofun⟩) (λ c5=>?_);have c5:=nr c5;rw [hv7] at c5;have hle:=Sp.Qd c5;rw [← hv7] at hle;refine bH (λ g1:Int×List Int×List Int=>0≤g1.1∧g1.1≤M_.length∧g1.2.1=jn aJ.aY l_ (M_.take g1.1.toNat)∧g1.2.2=jn Y6 l_ (M_.take g1.1.toNat)) (λ g1=>(M_.length - g1.1).toNat) ?_ ⟨ob,ob,rfl,rfl⟩;intro aj g1 ⟨a1,a2,a3,a4⟩ ih1;have l3:=zD (f:=aJ.aY) (l:=l_) (c:=2000000) (ms:=M_.take g1.1.toNat) λ m q=>(h3.nd _ (yj hdf (List.mem_of_mem_take q))).1;have l4:=zD (f:=Y6) (l:=l_) (c:=1) (ms:=M_.take g1.1.toNat) λ m _=>Vd _;rw [← a3,List.length_take] at l3;rw [← a4,List.length_take] at l4;unfold Ea;refine wi ?_ ?_<;>intro c
 ·have hm:=(hdf g1.1.toNat om).1;have hx:=(h3.nd _ (getD_in (i:=(M_.getD g1.1.toNat 0).toNat) aZ om)).1;have e:(g1.1+1).toNat=g1.1.toNat+1:=by omega
  refine aO om ?_;refine aO hm ?_;refine aO (by unfold big; omega) ?_;refine aO hm ?_;refine wi ?_ ?_<;>intro c6
  ·refine aO hm ?_;refine aO (by unfold big; omega) ?_;refine aO (by unfold aF; omega) ?_;exact ih1 _ ⟨by dsimp only; omega,by dsimp only; omega,by dsimp only; rw [e,qY om,a3],by dsimp only; rw [e,qY om,a4]; congr 1; unfold Y6; rw [decide_eq_false om]; rfl⟩ (by dsimp only; omega)
  ·refine aO (by unfold aF; omega) ?_;exact ih1 _ ⟨by dsimp only; omega,by dsimp only; omega,by dsimp only; rw [e,qY om,a3],by dsimp only; rw [e,qY om,a4]; unfold Y6; rw [decide_eq_true om]; exact (List.append_nil _).symm⟩ (by dsimp only; omega)
 ·rw [List.take_of_length_le om] at a3 a4;refine aH (BG z6 om hra (by rw [a3]; exact alq hv1 hdf)) λ v8 ⟨_,uG⟩=>?_;refine aH (Pm om hda (by rw [a4]; exact alr hv1 hdf)) λ v9 ⟨_,Sl⟩=>?_;refine aH (LW h5 h4) λ v10 ED=>?_;rw [a3] at uG;rw [a4] at Sl;refine av ⟨⟨by dsimp only; omega,by dsimp only; omega,by dsimp only; omega,by dsimp only; rw [uG.ln]; have:=hb.rs.len; omega,by dsimp only; rw [Sl.ln]; omega⟩,by dsimp only; rw [ED]; exact List.length_filter_le _ _,λ _=>⟨hv1,hdf,⟨by rw [← hv3]; exact hst,?_,ED,uG,Sl⟩⟩⟩;dsimp only;rw [← hv4];refine Eq.trans ?_ (show v7=(⟨v7.1.On,v7.1.dQ⟩,0) from Prod.ext rfl (by rw [hv7]; exact c5));exact hv7.symm
theorem adK:aaw []:=λ i j _ h=>by simp at h; omega
theorem afx {l:List Int} {x:Int} (h:aaw l) (hx:∀y∈l,y<x):aaw (l++[x]):=by
 intro i j hij hj;rw [List.length_append,List.length_singleton] at hj;by_cases q:j<l.length
 ·rw [jo (i:=j) 0 q,jo (i:=i) 0 om]; exact h i j hij om
 ·rw [jD (i:=j) 0 om,jo (i:=i) 0 om]; exact hx _ (getD_in 0 om)
def XJ (b:aS) (l:List bM):Prop:=l.length≤1∧∀y∈l,abo b.bR.length y
def ag0 (b:aS) (l:List bq):Prop:=l.length≤1∧∀y∈l,agN b.bD.length y
def als (l:List ByteArray):Prop:=l.length≤2∧∀y∈l,Gp y
def aoO (b:aS) (l:List Int):Prop:=l.length≤100∧∀y∈l,0≤y∧y<b.aY.length
def aoP (k:Int) (l:List Int):Prop:=l.length≤100∧(∀p∈l,0≤p∧p<k)∧aaw l
structure NdG (b:aS) (k:Int) (x:aJ):Prop where
 lm:XJ b x.bY
 dw:ag0 b x.fJ
 fw:als x.ak
 rs:aoO b x.aY
 dm : -1≤x.fI∧x.fI<b.cB.length
 pr:aoP k x.bT
theorem aaX:XJ b []:=⟨Nat.zero_le _,nofun⟩
theorem aaY:ag0 b []:=⟨Nat.zero_le _,nofun⟩
theorem alu {x:bM} (h:abo b.bR.length x):XJ b [x]:=⟨Nat.le_refl _,λ y hy=>by rw [List.mem_singleton] at hy; rw [hy]; exact h⟩
theorem alv {x:bq} (h:agN b.bD.length x):ag0 b [x]:=⟨Nat.le_refl _,λ y hy=>by rw [List.mem_singleton] at hy; rw [hy]; exact h⟩
theorem afy:als []:=⟨Nat.zero_le _,nofun⟩
theorem afz {k:Int}:aoP k []:=⟨Nat.zero_le _,nofun,adK⟩
theorem Vg {l:List Int} {lo hi:Int} (h:l.all (λ x=>decide (lo≤x)&&decide (x≤hi))=true) {r:Int} (hr:∃i:Nat,i<l.length∧r=l.getD i 0):lo≤r∧r≤hi:=by
 obtain ⟨i,h1,rfl⟩:=hr;have:=List.all_eq_true.1 h _ (getD_in 0 h1);simpa using this
theorem ap2 {s:ByteArray} (h:(decide (0<s.size∧s.size≤16)&&(decide (97≤gI s 0∧gI s 0≤122)&&(List.range s.size).all λ j=>decide (gI s j=45∨(48≤gI s j∧gI s j≤57)∨(97≤gI s j∧gI s j≤122))))=true):Gp s:=by
 simp only [Bool.and_eq_true,decide_eq_true_eq,List.all_eq_true,List.mem_range] at h;exact ⟨h.1,h.2.1,λ j hj=>h.2.2 j om⟩
def ag1:List ByteArray:=[({ data:=#[117,97,114,116] }:ByteArray),({ data:=#[115,112,105] }:ByteArray),({ data:=#[105,50,99] }:ByteArray),({ data:=#[112,119,109] }:ByteArray)]
theorem alx:∀s∈ag1,Gp s:=by
 intro s hs;simp only [ag1,List.mem_cons,List.not_mem_nil,or_false] at hs;rcases hs with rfl | rfl | rfl | rfl<;>exact ap2 (by decide)
variable {dF:dI}
theorem F9 {n_:Int} {k_:Int} (h1:0≤n_) (h2:n_≤1000) (h3:1≤k_) (h4:k_≤100) (h5:0≤dF.At) (h6:dF.L.length≤600):W (kY n_ k_ dF) (λ r=>r.1.length≤n_.toNat∧(∀p∈r.1,0≤p∧p<n_)∧aaw r.1∧0≤r.2.At∧r.2.L.length≤600):=by
 unfold kY;refine bH (λ (g1:Int×List Int×Int×List Int)=>0≤g1.1∧g1.1≤n_∧0≤g1.2.2.1∧g1.2.1.length≤600∧(g1.2.2.2.length:Int)≤g1.1∧(∀p∈g1.2.2.2,0≤p∧p<g1.1)∧aaw g1.2.2.2) (λ (g1:Int×List Int×Int×List Int)=>(n_ - g1.1).toNat) ?_ ?_
 ·intro aj g1 d9 bV;obtain ⟨dN,bO,bE,jA,BZ,LA,aly⟩:=d9;unfold xw;refine wi ?_ ?_<;>intro c1
  ·refine aH (bW ob ob ob) λ v3 hv3=>?_;obtain ⟨aac,ab3,ab4,akn,apF⟩:=hv3;refine wn<|wi ?_ ?_<;>intro c2
   ·refine wm<|bV _ ?_ ?_
    ·(refine ⟨ob,ob,ob,ob,ob,λ p hp=>?_,afx aly λ p hp=>(LA p hp).2⟩; dsimp only; rcases List.mem_append.1 hp with hp | hp; (have:=LA p hp; omega); (rw [List.mem_singleton] at hp; omega))
    ·exact ob
   ·refine wn<|bV _ ?_ ?_
    ·(refine ⟨ob,ob,ob,ob,ob,λ p hp=>?_,aly⟩; have:=LA p hp; dsimp only; omega)
    ·exact ob
  ·refine av ?_;(refine ⟨ob,λ p hp=>?_,aly,ob,ob⟩; have:=LA p hp; omega)
 ·(refine ⟨ob,ob,ob,ob,ob,nofun,adK⟩)
theorem Pn {jh:Int} (h1:0≤jh) (h2:jh≤50) (h3:0≤dF.At) (h4:dF.L.length≤600):W (qP jh dF) (λ r=>r.1.length≤jh.toNat∧(∀y∈r.1,Gp y)∧0≤r.2.At∧r.2.L.length≤600):=by
 unfold qP;refine wn<|aH (bW ob ob ob) λ v1 hv1=>?_;obtain ⟨Iu,BX,Iw,Lx,Oh⟩:=hv1;refine bH (λ (g1:Int×List Int×Int×List ByteArray)=>0≤g1.1∧0≤g1.2.2.1∧g1.2.1.length≤600∧(g1.2.2.2.length:Int)+g1.1≤jh∧(∀y∈g1.2.2.2,Gp y)) (λ (g1:Int×List Int×Int×List ByteArray)=>g1.1.toNat) ?_ ?_
 ·intro aj g1 d9 bV;obtain ⟨dN,bO,bE,jA,BZ⟩:=d9;unfold Am;refine wi ?_ ?_<;>intro c1
  ·refine aH (kL) λ v6 hv6=>?_;subst v6;refine aH (VN ob ob ob ob) λ v7 hv7=>?_;obtain ⟨anj,apH,apI⟩:=hv7;refine wm<|bV _ ?_ ?_
   ·(refine ⟨ob,ob,ob,ob,λ p hp=>?_⟩; dsimp only at hp; rcases List.mem_append.1 hp with hp | hp; (exact BZ p hp); (rw [List.mem_singleton] at hp; rw [hp]; obtain ⟨i,hi,e⟩:=anj; rw [e]; exact alx _ (getD_in (l:=ag1) _ hi)))
   ·exact ob
  ·refine av ?_;(refine ⟨ob,BZ,ob,ob⟩)
 ·(refine ⟨ob,ob,ob,ob,nofun⟩)
theorem SX (h1:b_.bR.length≤100) (h2:0<b_.bR.length) (h3:0≤dF.At) (h4:dF.L.length≤600):W (uR b_ dF) (λ r=>abo b_.bR.length r.1∧0≤r.2.At∧r.2.L.length≤600):=by
 unfold uR;refine aH (bW ob ob ob) λ v1 hv1=>?_;obtain ⟨Iu,BX,Iw,Lx,Oh⟩:=hv1;refine aH (fZ ob ob ob ob) λ v2 hv2=>?_;obtain ⟨aeT,ahy,akv⟩:=hv2;refine aH (fZ ob ob ob ob) λ v3 hv3=>?_;obtain ⟨aac,ab3,ab4⟩:=hv3;refine av ?_;(have a:=Vg (lo:=0) (hi:=24) (by decide) aeT; have b:=Vg (lo:=24) (hi:=300) (by decide) aac; exact ⟨⟨om,BX om,a.1,Int.le_trans a.2 b.1,Int.le_trans b.2 (by decide)⟩,ob,ob⟩)
theorem Vh (h1:b_.bD.length≤100) (h2:0<b_.bD.length) (h3:0≤dF.At) (h4:dF.L.length≤600):W (xA b_ dF) (λ r=>agN b_.bD.length r.1∧0≤r.2.At∧r.2.L.length≤600):=by
 unfold xA;refine aH (bW ob ob ob) λ v1 hv1=>?_;obtain ⟨Iu,BX,Iw,Lx,Oh⟩:=hv1;refine aH (fZ ob ob ob ob) λ v2 hv2=>?_;obtain ⟨aeT,ahy,akv⟩:=hv2;refine aH (fZ ob ob ob ob) λ v3 hv3=>?_;obtain ⟨aac,ab3,ab4⟩:=hv3;refine aH (fZ ob ob ob ob) λ v4 hv4=>?_;obtain ⟨ako,akp,ani⟩:=hv4;refine av ?_;(have a:=Vg (lo:=0) (hi:=1800) (by decide) aeT; have b:=Vg (lo:=1800) (hi:=5000) (by decide) aac; have c:=Vg (lo:=0) (hi:=200) (by decide) ako; exact ⟨⟨om,BX om,a.1,Int.le_trans a.2 b.1,b.2,c.1,Int.le_trans c.2 (by decide)⟩,ob,ob⟩)
variable {v1:Int×dI} {g1:Int×List Int×Int×List aJ} {aj:(Int×List Int×Int×List aJ)→M (List aJ×dI)} {v46:Int×dI} {g14:List Int×Int×List bM} {g15:List Int×Int×List bq} {g16:List Int×Int×List ByteArray} {Q:(List aJ×dI)→Prop}
theorem uL {v53:List Int×dI} {g18:List Int×Int×List Int} (bV:∀s':(Int×List Int×Int×List aJ),(0≤s'.1∧s'.1≤v1.1∧0≤s'.2.2.1∧s'.2.1.length≤600∧(s'.2.2.2.length:Int)=s'.1∧(∀x∈s'.2.2.2,NdG b_ v1.1 x))→(v1.1 - s'.1).toNat<(v1.1 - g1.1).toNat→W (aj s') Q) (hc:0≤g18.2.1∧g18.1.length≤600∧aoP v1.1 g18.2.2∧XJ b_ g14.2.2∧ag0 b_ g15.2.2∧als g16.2.2∧aoO b_ v53.1∧0≤g1.1∧g1.1<v1.1∧v1.1≤51∧(g1.2.2.2.length:Int)=g1.1∧(∀x∈g1.2.2.2,NdG b_ v1.1 x)∧(-1≤v46.1∧v46.1<b_.cB.length)):W (ko g1 aj v46 g14 g15 g16 v53 g18) Q:=by
 obtain ⟨ak0,ak1,Ur,Qr,V9,adu,aiX,alz,alA,Vi,LX,acp,anu⟩:=hc;unfold ko;refine wm<|bV _ ?_ ?_
 ·(refine ⟨ob,ob,ob,ob,ob,λ x hx=>?_⟩; rcases List.mem_append.1 hx with hx | hx; (exact acp x hx); (rw [List.mem_singleton] at hx; subst hx; exact ⟨Qr,V9,adu,aiX,anu,Ur⟩))
 ·exact ob
theorem uM {v53:List Int×dI} {g19:Int×List Int×Int} (bV:∀s':(Int×List Int×Int×List aJ),(0≤s'.1∧s'.1≤v1.1∧0≤s'.2.2.1∧s'.2.1.length≤600∧(s'.2.2.2.length:Int)=s'.1∧(∀x∈s'.2.2.2,NdG b_ v1.1 x))→(v1.1 - s'.1).toNat<(v1.1 - g1.1).toNat→W (aj s') Q) (hc:0≤g19.2.2∧g19.2.1.length≤600∧0≤g19.1∧g19.1≤51∧g19.1≤v1.1∧XJ b_ g14.2.2∧ag0 b_ g15.2.2∧als g16.2.2∧aoO b_ v53.1∧0≤g1.1∧g1.1<v1.1∧v1.1≤51∧(g1.2.2.2.length:Int)=g1.1∧(∀x∈g1.2.2.2,NdG b_ v1.1 x)∧(-1≤v46.1∧v46.1<b_.cB.length)):W (kr g1 aj v46 g14 g15 g16 v53 g19) Q:=by
 obtain ⟨ak0,ak1,Ur,Qr,V9,adu,aiX,alz,alA,Vi,LX,acp,anu,ap3,ap4⟩:=hc;unfold kr;refine aH (F9 ob ob ob ob ob ob) λ v60 ar9=>?_;obtain ⟨asa,aoQ,aoR,asb,asc⟩:=ar9;exact uL (b_:=b_) (v1:=v1) (λ a b c=>bV a b c) (by (refine ⟨ob,ob,⟨ob,λ p hp=>(by have:=aoQ p hp; omega),aoR⟩,adu,aiX,alz,alA,ob,ob,ob,ob,ap3,ap4⟩))
theorem uN (bV:∀s':(Int×List Int×Int×List aJ),(0≤s'.1∧s'.1≤v1.1∧0≤s'.2.2.1∧s'.2.1.length≤600∧(s'.2.2.2.length:Int)=s'.1∧(∀x∈s'.2.2.2,NdG b_ v1.1 x))→(v1.1 - s'.1).toNat<(v1.1 - g1.1).toNat→W (aj s') Q) (hc:0≤g16.2.1∧g16.1.length≤600∧XJ b_ g14.2.2∧ag0 b_ g15.2.2∧als g16.2.2∧b_.aY.length≤4∧0≤g1.1∧g1.1<v1.1∧v1.1≤51∧(g1.2.2.2.length:Int)=g1.1∧(∀x∈g1.2.2.2,NdG b_ v1.1 x)∧(-1≤v46.1∧v46.1<b_.cB.length)):W (ku b_ v1 g1 aj v46 g14 g15 g16) Q:=by
 obtain ⟨ak0,ak1,Ur,Qr,V9,adu,aiX,alz,alA,Vi,LX,acp⟩:=hc;unfold ku;refine aH (F9 ob ob ob ob ob ob) λ v53 ase=>?_;obtain ⟨asf,ag2,asg,ash,asi⟩:=ase;refine aH (bW ob ob ob) λ v58 asj=>?_;obtain ⟨asl,asn,aso,asq,asr⟩:=asj;refine wi ?_ ?_<;>intro c1
 ·refine aH (bW ob ob ob) λ v61 asu=>?_;obtain ⟨asv,asw,asx,asy,asz⟩:=asu;refine wi ?_ ?_<;>intro c2
  ·exact uM (b_:=b_) (v1:=v1) (λ a b c=>bV a b c) (by (refine ⟨ob,ob,ob,ob,ob,Ur,Qr,V9,⟨om,ag2⟩,ob,ob,ob,ob,LX,acp⟩))
  ·exact uM (b_:=b_) (v1:=v1) (λ a b c=>bV a b c) (by (refine ⟨ob,ob,ob,ob,ob,Ur,Qr,V9,⟨om,ag2⟩,ob,ob,ob,ob,LX,acp⟩))
 ·exact uL (b_:=b_) (v1:=v1) (λ a b c=>bV a b c) (by (refine ⟨ob,ob,afz,Ur,Qr,V9,⟨om,ag2⟩,ob,ob,ob,ob,LX,acp⟩))
theorem nO (bV:∀s':(Int×List Int×Int×List aJ),(0≤s'.1∧s'.1≤v1.1∧0≤s'.2.2.1∧s'.2.1.length≤600∧(s'.2.2.2.length:Int)=s'.1∧(∀x∈s'.2.2.2,NdG b_ v1.1 x))→(v1.1 - s'.1).toNat<(v1.1 - g1.1).toNat→W (aj s') Q) (hc:0≤g15.2.1∧g15.1.length≤600∧XJ b_ g14.2.2∧ag0 b_ g15.2.2∧b_.aY.length≤4∧0≤g1.1∧g1.1<v1.1∧v1.1≤51∧(g1.2.2.2.length:Int)=g1.1∧(∀x∈g1.2.2.2,NdG b_ v1.1 x)∧(-1≤v46.1∧v46.1<b_.cB.length)):W (jw b_ v1 g1 aj v46 g14 g15) Q:=by
 obtain ⟨ak0,ak1,Ur,Qr,V9,adu,aiX,alz,alA,Vi,LX⟩:=hc;unfold jw;refine aH (bW ob ob ob) λ v62 asA=>?_;obtain ⟨asB,asC,asD,asE,asF⟩:=asA;refine wi ?_ ?_<;>intro c1
 ·refine aH (Pn ob ob ob ob) λ v63 asG=>?_;obtain ⟨asH,aoS,asI,asJ⟩:=asG;exact uN (λ a b c=>bV a b c) (by (refine ⟨ob,ob,Ur,Qr,⟨ob,aoS⟩,V9,ob,ob,ob,ob,Vi,LX⟩))
 ·exact uN (λ a b c=>bV a b c) (by (refine ⟨ob,ob,Ur,Qr,afy,V9,ob,ob,ob,ob,Vi,LX⟩))
theorem oI (bV:∀s':(Int×List Int×Int×List aJ),(0≤s'.1∧s'.1≤v1.1∧0≤s'.2.2.1∧s'.2.1.length≤600∧(s'.2.2.2.length:Int)=s'.1∧(∀x∈s'.2.2.2,NdG b_ v1.1 x))→(v1.1 - s'.1).toNat<(v1.1 - g1.1).toNat→W (aj s') Q) (hc:0≤g14.2.1∧g14.1.length≤600∧XJ b_ g14.2.2∧b_.aY.length≤4∧b_.bD.length≤3∧0≤g1.1∧g1.1<v1.1∧v1.1≤51∧(g1.2.2.2.length:Int)=g1.1∧(∀x∈g1.2.2.2,NdG b_ v1.1 x)∧(-1≤v46.1∧v46.1<b_.cB.length)):W (jH b_ v1 g1 aj v46 g14) Q:=by
 obtain ⟨ak0,ak1,Ur,Qr,V9,adu,aiX,alz,alA,Vi,LX⟩:=hc;unfold jH;refine wi ?_ ?_<;>intro c1
 ·refine aH (bW ob ob ob) λ v64 hv64=>?_;obtain ⟨asK,asL,asM,asN,asO⟩:=hv64;refine wi ?_ ?_<;>intro c2
  ·refine aH (Vh ob ob ob ob) λ v65 asP=>?_;obtain ⟨aoT,asQ,asR⟩:=asP;refine wn ?_;exact nO (λ a b c=>bV a b c) (by (refine ⟨ob,ob,Ur,alv aoT,Qr,ob,ob,ob,ob,Vi,LX⟩))
  ·exact nO (λ a b c=>bV a b c) (by (refine ⟨ob,ob,Ur,aaY,Qr,ob,ob,ob,ob,Vi,LX⟩))
 ·refine wn ?_;exact nO (λ a b c=>bV a b c) (by (refine ⟨ob,ob,Ur,aaY,Qr,ob,ob,ob,ob,Vi,LX⟩))
theorem Po {jh:Int} (h1:amu b_) (h2:0≤jh) (h3:jh≤50) (h4:0≤dF.At) (h5:dF.L.length≤600):W (qQ b_ jh dF) (λ r=>r.1.length≤jh.toNat∧(∀x∈r.1,NdG b_ (r.1.length:Int) x)∧0≤r.2.At∧r.2.L.length≤600):=by
 obtain ⟨q1,q2,q3,q4,q5,q6,q7,q8,q9⟩:=h1;unfold qQ;refine wn<|aH (bW ob ob ob) λ v1 hv1=>?_;obtain ⟨Iu,BX,Iw,Lx,Oh⟩:=hv1;refine bH (λ (g1:Int×List Int×Int×List aJ)=>0≤g1.1∧g1.1≤v1.1∧0≤g1.2.2.1∧g1.2.1.length≤600∧(g1.2.2.2.length:Int)=g1.1∧(∀x∈g1.2.2.2,NdG b_ v1.1 x)) (λ (g1:Int×List Int×Int×List aJ)=>(v1.1 - g1.1).toNat) ?_ ?_
 ·intro aj g1 d9 bV;obtain ⟨dN,bO,bE,jA,BZ,LA⟩:=d9;unfold Ao;refine wi ?_ ?_<;>intro c1
  ·refine wn<|aH (nC ob ob ob ob ob ob) λ v46 agD=>?_;obtain ⟨asS,asT,asU,asV,asW⟩:=agD;refine wi ?_ ?_<;>intro c2
   ·refine aH (bW ob ob ob) λ v66 asX=>?_;obtain ⟨asY,asZ,as0,as1,as2⟩:=asX;refine wi ?_ ?_<;>intro c3
    ·refine aH (SX ob ob ob ob) λ v67 as3=>?_;obtain ⟨aoU,as4,as5⟩:=as3;refine wn ?_;exact oI (λ a b c=>bV a b c) (by (refine ⟨ob,ob,alu aoU,ob,ob,ob,ob,ob,ob,LA,om,om⟩))
    ·exact oI (λ a b c=>bV a b c) (by (refine ⟨ob,ob,aaX,ob,ob,ob,ob,ob,ob,LA,om,om⟩))
   ·refine wn ?_;exact oI (λ a b c=>bV a b c) (by (refine ⟨ob,ob,aaX,ob,ob,ob,ob,ob,ob,LA,om,om⟩))
  ·have hlen:(g1.2.2.2.length:Int)=v1.1:=by omega
   refine wi ?_ ?_<;>intro c4
   ·refine aH (bW ob ob ob) λ v68 as6=>?_;obtain ⟨as7,as8,as9,ata,atb⟩:=as6;refine wi ?_ ?_<;>intro c5
    ·refine wn<|bH (λ (g20:Int×Int×List aJ)=>0≤g20.1 ∧ -1≤g20.2.1∧g20.2.1<v1.1∧g20.1≤v1.1∧(g20.2.2.length:Int)=v1.1∧(∀x∈g20.2.2,NdG b_ v1.1 x)) (λ (g20:Int×Int×List aJ)=>(g20.2.1 - g20.1).toNat) ?_ ?_
     ·intro agz g20 ap5 ap6;obtain ⟨atc,atd,ate,atf,atg,adM⟩:=ap5;unfold yP;refine wi ?_ ?_<;>intro c6
      ·refine wm<|wm ?_;refine wm<|ap6 _ ?_ ?_
       ·(refine ⟨ob,ob,ob,ob,ob,ac3 (ac3 adM (adM _ (getD_in _ om))) (adM _ (getD_in _ om))⟩)
       ·exact ob
      ·refine bH (λ (g21:Int×List aJ)=>0≤g21.1∧(g21.2.length:Int)=v1.1∧(∀x∈g21.2,NdG b_ v1.1 x)) (λ (g21:Int×List aJ)=>(v1.1 - g21.1).toNat) ?_ ?_
       ·intro Z6 g21 ap7 ap8;obtain ⟨ath,aoV,ag3⟩:=ap7;unfold yO;refine wi ?_ ?_<;>intro c7
        ·have q:=ag3 (g21.2.getD g21.1.toNat aZ) (getD_in _ om);have qp:=q.pr.1;refine wm<|bH (λ (g24:Int×List Int) => -1≤g24.1∧g24.1<(g21.2.getD g21.1.toNat aZ).bT.length∧(g24.2.length:Int)+g24.1<(g21.2.getD g21.1.toNat aZ).bT.length∧(∀p∈g24.2,0≤p∧p<v1.1)∧aaw g24.2∧(∀p∈g24.2,∀j:Nat,(j:Int)≤g24.1→p<v1.1 - 1 - (g21.2.getD g21.1.toNat aZ).bT.getD j 0)) (λ (g24:Int×List Int)=>(g24.1+1).toNat) ?_ ?_
         ·intro agy g24 ap9 aqa;obtain ⟨ati,atj,atl,alB,alC,alD⟩:=ap9;unfold yN;refine wi ?_ ?_<;>intro c8
          ·have q2:=q.pr.2.1 _ (getD_in (i:=g24.1.toNat) 0 om);refine wm<|wm ?_;refine wm<|aqa _ ?_ ?_
           ·(refine ⟨ob,ob,ob,λ p hp=>?_,afx alC (λ p hp=>by have:=alD p hp g24.1.toNat om; omega),λ p hp j hj=>?_⟩; (rcases List.mem_append.1 hp with hp | hp; (exact alB p hp); (rw [List.mem_singleton] at hp; omega)); (dsimp only at hj; rcases List.mem_append.1 hp with hp | hp; (exact alD p hp j om); (rw [List.mem_singleton] at hp; have:=q.pr.2.2 j g24.1.toNat om om; omega)))
           ·exact ob
          ·refine wm<|ap8 _ ?_ ?_
           ·(refine ⟨ob,ob,ac3 ag3 ⟨q.lm,q.dw,q.fw,q.rs,q.dm,ob,alB,alC⟩⟩)
           ·exact ob
         ·(refine ⟨ob,ob,ob,nofun,adK,nofun⟩)
        ·refine av ?_;(refine ⟨ob,λ x hx=>?_,ob,ob⟩; have q:=ag3 x hx; rw [aoV]; exact q)
       ·(refine ⟨ob,ob,adM⟩)
     ·(refine ⟨ob,ob,ob,ob,ob,LA⟩)
    ·refine av ?_;(refine ⟨ob,λ x hx=>?_,ob,ob⟩; have q:=LA x hx; rw [hlen]; exact q)
   ·refine wn<|av ?_;(refine ⟨ob,λ x hx=>?_,ob,ob⟩; have q:=LA x hx; rw [hlen]; exact q)
 ·(refine ⟨ob,ob,ob,ob,ob,nofun⟩)
variable {p_:bn} {l_:List ByteArray} {dX:List Int}
theorem afA (h1:∀g∈p_.ay,g.bS.length≤2000000∧g.ak.length≤2000000) (h2:l_.length≤2000000) (hp:adx p_) (hg:X6 p_ l_ dX):W (PV p_ l_ dX) (λ _=>True):=by
 unfold PV;refine aH (P:=λ _=>True) ?_ λ v1 _=>?_
 ·unfold Oc;refine aH (Ej h1) λ v1 _=>?_;refine bL (λ _=>av trivial) (λ _=>?_);refine bH (λ g1:Int=>0≤g1) (λ g1=>(l_.length - g1).toNat) ?_ (Int.le_refl _);intro aj g1 a1 ih1;unfold Ob;refine bL (λ c=>?_) (λ _=>av trivial);have c:=nr c;refine aO om ?_;refine aH zU λ v4 _=>?_;exact bL (λ _=>av trivial) (λ _=>aO (by unfold aF; omega) (ih1 _ om om))
 refine bL (λ _=>av trivial) (λ _=>?_);refine aH (P:=λ _=>True) ?_ λ v2 _=>bL (λ _=>av trivial) (λ _=>av trivial);unfold R5;refine bL (λ _=>av trivial) (λ c1=>?_);have c1:=nr c1;refine bH (λ g1:Int=>0≤g1) (λ g1=>(dX.length - g1).toNat) ?_ (Int.le_refl _);intro aj g1 a1 ih1;unfold Rc;refine bL (λ c=>?_) (λ _=>av trivial);have c:=nr c;have hx:=hg.ir _ (getD_in (i:=g1.toNat) 0 om);have hf:=(h1 _ (getD_in (i:=(dX.getD g1.toNat 0).toNat) aG om)).2;refine aO om ?_;refine aO (λ _=>hx) ?_;refine aO (λ _=>by omega) ?_;refine aH (rA λ _=>OH hf) λ v5 _=>?_;refine aO (λ _=>by omega) ?_;refine aH (rA λ _=>Rq h1 (by rw [List.length_take]; omega) (λ x hx=>hg.ir x (List.mem_of_mem_take hx)) hx.1 hx.2 hp) λ v6 _=>?_;exact bL (λ _=>av trivial) (λ _=>aO (by unfold aF; omega) (ih1 _ om om))
theorem YF (h1:∀g∈p_.ay,g.bS.length≤2000000∧g.ak.length≤2000000) (h2:p_.ay.length≤2000000) (h3:l_.length≤2000000) (hp:adx p_) (hg:X6 p_ l_ dX) (hgl:dX.length≤l_.length):W (CZ p_ l_ dX) (λ r=>r.2=true→r.1.length=l_.length∧X6 p_ l_ r.1∧r.1.take dX.length=dX):=by
 unfold CZ;refine bH (λ s:bn×List ByteArray×List Int=>s.1=p_∧s.2.1=l_∧s.2.2.length≤l_.length∧X6 p_ l_ s.2.2∧dX.length≤s.2.2.length∧s.2.2.take dX.length=dX) (λ s=>l_.length - s.2.2.length) ?_ ⟨rfl,rfl,hgl,hg,Nat.le_refl _,List.take_length⟩;rintro self ⟨p,l,gs⟩ ⟨e1,e2,e3,e4,e5,e6⟩ ih;dsimp only at e1 e2 e3 e4 e5 e6;subst p l;unfold oD;refine wi ?_ ?_<;>intro c1
 ·refine aO ob (av ?_);intro _;exact ⟨by dsimp only at c1 ⊢; omega,e4,e6⟩
 ·refine aO (by dsimp only at c1 ⊢; omega) ?_;refine aH (X7 h1 h2) λ v1 hv1=>?_;obtain ⟨k1,k2⟩:=hv1;refine bH (λ g:Int=>0≤g) (λ g:Int=>(v1.length - g).toNat) ?_ (Int.le_refl _);intro aj g1 hg1 ih1;unfold Lv;refine bL ?_ ?_<;>intro c2
  ·have c2:=nr c2;have hx:=k2 _ (getD_in (i:=g1.toNat) 0 om);refine wn<|aH (Rq h1 (by dsimp only; omega) (λ x hx=>e4.ir x hx) hx.1.1 hx.1.2 hp) λ v6 h6=>?_;refine bL ?_ ?_<;>intro c3
   ·refine aO ob (ih1 _ om om)
   ·refine aO ob (aO ob (aO ob ?_));have hl:¬ gs.length=l_.length:=by (try dsimp only at c1); omega
    refine aH (ih _ ⟨rfl,rfl,by (simp only [List.length_append,List.length_singleton]; omega),?_,by (simp only [List.length_append,List.length_singleton]; omega),by dsimp only; rw [List.take_append_of_le_length e5]; exact e6⟩ (by (simp only [List.length_append,List.length_singleton]; omega))) λ v7 hv7=>?_
    ·exact ak4 e4 hx.1 hx.2 (h6 (by simpa using c3))
    ·refine bL (λ c4=>av λ _=>hv7 c4) (λ c4=>aO ob (ih1 _ om om))
  ·exact av nofun
theorem YG (h1:∀g∈p_.ay,g.bS.length≤2000000∧g.ak.length≤2000000) (h2:l_.length≤2000000) (h3:p_.ay.length≤2000000) (hp:adx p_) (hg:X6 p_ l_ dX) (hgl:dX.length≤l_.length):W (C8 p_ l_ dX) (λ r=>r.2=0→r.1.length=l_.length∧X6 p_ l_ r.1∧r.1.take dX.length=dX):=by
 unfold C8;refine aH (afA h1 h2 hp hg) λ v1 _=>?_;refine bL (λ c1=>av λ e=>?_) (λ _=>?_)
 ·have c1:=nr c1; exact absurd e c1
 refine aH (YF h1 h3 h2 hp hg hgl) λ v2 hv2=>?_;refine bL (λ _=>av nofun) (λ c2=>av λ _=>hv2 (by simpa using c2))
theorem aaZ {l_:List aT} (h1:∀u∈l_,LC b_.aR u.kH) (h2:l_.length≤2000000):W (FJ b_ l_) (λ r=>r=(l_.map (λ u=>nmU b_.aR u.kH),l_.map λ u=>u.kH.dx)):=by
 unfold FJ;refine bH (λ g1:Int×List ByteArray×List Int=>0≤g1.1∧g1.1≤l_.length∧g1.2.1=(l_.take g1.1.toNat).map (λ u=>nmU b_.aR u.kH)∧g1.2.2=(l_.take g1.1.toNat).map λ u=>u.kH.dx) (λ g1=>(l_.length - g1.1).toNat) ?_ ⟨ob,ob,rfl,rfl⟩;intro aj g1 ⟨a1,a2,a3,a4⟩ ih1;have l1:g1.2.1.length≤l_.length:=by rw [a3,List.length_map,List.length_take]; omega
 have l2:g1.2.2.length≤l_.length:=by rw [a4,List.length_map,List.length_take]; omega
 unfold Oa;refine wi ?_ ?_<;>intro c
 ·have e:(g1.1+1).toNat=g1.1.toNat+1:=by omega
  obtain ⟨u1,u2,u3,u4⟩:=h1 _ (getD_in (i:=g1.1.toNat) bB om);refine wn<|aO om ?_;refine aO om ?_;refine aO (by unfold big; omega) ?_;refine aO (by unfold big; omega) ?_;refine wn<|ih1 _ ⟨ob,ob,?_,?_⟩ ob
  ·dsimp only;rw [e,nN _ _ bB om,a3]; rfl
  ·dsimp only;rw [e,nN _ _ bB om,a4]
 ·exact av (by rw [a3,a4,List.take_of_length_le om])
variable {us:List aT}
theorem ahL {p:bn} {fs:List ByteArray} (h:OL p (us.map aT.kH)):X6 p (us.map (λ u=>nmU p u.kH)++fs) (us.map λ u=>u.kH.dx):=by
 refine ⟨λ x hx=>?_,λ k hk=>?_,λ k j hj hk=>?_⟩
 ·obtain ⟨u,hu,rfl⟩:=List.mem_map.1 hx;obtain ⟨u1,u2,_,_⟩:=Qc h u hu;exact ⟨u1,u2⟩
 ·rw [List.length_map] at hk;have hk:k<us.length:=by omega
  obtain ⟨u1,u2,u3,u4⟩:=Qc h _ (getD_in (i:=k) bB hk);rw [jo ByteArray.empty (by rw [List.length_map]; exact hk),sZ (d:=bB) hk,sZ (d:=bB) hk];exact ⟨(us.getD k bB).kH.gy.toNat,om,rfl⟩
 ·rw [List.length_map] at hk;have hk:k<us.length:=by omega
  have:=(h k (by rw [List.length_map]; omega)).2.2 j hj;rw [sZ (d:=bB) hk,sZ (d:=bB) om] at this ⊢;exact λ a c ha hc=>this a c ha hc
theorem am5 {p:bn} {l:List ByteArray} {gs:List Int} (hp:adx p) (hf:X6 p l gs) (hg:us.map (λ u=>u.kH.dx)=gs) (hu:∀u∈us,LC p u.kH):OL p (us.map aT.kH):=by
 intro i hi;rw [List.length_map] at hi;have hi:i<us.length:=by omega
 have hgl:gs.length=us.length:=by rw [← hg,List.length_map]
 have hgg:∀k,k<us.length→((us.map aT.kH).getD k fU).dx=gs.getD k 0:=λ k hk=>by
  rw [← hg,sZ (d:=bB) hk,sZ (d:=bB) hk]
 have hdj:∀k,k<i→aiS p ((us.map aT.kH).getD k fU).dx ((us.map aT.kH).getD i fU).dx:=λ k hk=>by
  rw [hgg k om,hgg i hi]; exact hf.dj i k hk om
 have hui:=hu _ (getD_in (i:=i) bB hi);refine ⟨by rw [sZ (d:=bB) hi]; exact hui,λ k hk e=>?_,λ k hk=>hdj k hk⟩;have hd:=hdj k hk;rw [e] at hd;obtain ⟨u1,u2,_,_⟩:=hui;rw [sZ (d:=bB) hi] at hd;have:=(hp.ok.gr _ (getD_in (i:=(us.getD i bB).kH.dx.toNat) aG om)).pl;exact hd 0 0 om om rfl
def FnU (b:aS) (l:List aJ) (ms:List Int) (us:List aT):Prop:=∀i∈ms,∀f:ByteArray,cntF (l.getD i.toNat aZ).ak f≤Qs b.aR us i f
theorem Jb (h:∀u∈us,u.gW∈ms):Dg ms us=us:=by
 unfold Dg;exact List.filter_eq_self.2 λ u hu=>by simpa using h u hu
theorem am6 {p:bn} {new:List aT} {d:Int} {fs:List ByteArray} (h:new.map (λ u=>(u.gW,nmU p u.kH))=fs.map λ f=>(d,f)) (f:ByteArray):cntF fs f≤Qs p (us++new) d f:=by
 have e:Qs p new d f=cntF fs f:=by
  have e1:Qs p new d f=(new.map (λ u=>(u.gW,nmU p u.kH))).countP λ q=>(q.1==d)&&decide (q.2=f):=by
   rw [List.countP_map]; rfl
  rw [e1,h,List.countP_map];unfold cntF;exact List.countP_congr λ x _=>by simp
 rw [← e];unfold Qs;rw [List.countP_append];omega
structure UsI (b:aS) (l:List aJ) (ms:List Int) (us:List aT):Prop where
 dv:∀u∈us,u.gW∈ms
 ow:OL b.aR (us.map aT.kH)
 fn:FnU b l ms us
 df:yA l ms
 fl:ms≠[]→FL b l ms
theorem afB (hb:OI b 0) (hl:l.length≤12) (h:∀x∈l,NdG b l.length x):mQ b l 0:=by
 refine kF hb (aL om (J3 λ k hk=>?_));obtain ⟨l1,d1,f1,r1,q1,p1⟩:=h _ (getD_in (i:=k) aZ hk);have hw:∀ {α:Type} (xs:List α) (d:α) (P:α→Prop),(∀x∈xs,P x)→¬ ∃j:Nat,(j:Int)<xs.length∧¬P (xs.getD j d):=λ xs d P hp ⟨j,hj,q⟩=>q (hp _ (getD_in d om));refine lD (by have:=l1.1; have:=d1.1; have:=f1.1; omega) (lD (hw _ _ _ l1.2) (lD (hw _ _ _ d1.2) (lD (hw _ _ _ f1.2) (lD (hw _ _ _ r1.2) (lD (λ q=>q q1) (lD (hw _ _ _ p1.2.1) (lD ?_ rfl)))))));rintro ⟨j,j1,j2,j3⟩;have:=p1.2.2 (j - 1) j om j2;omega
theorem aqc {R:Type} {m:M R} {Q:R→Prop} (h:W m Q):W m (λ r=>r=Classical.choose h∧Q r):=⟨_,(Classical.choose_spec h).1,rfl,(Classical.choose_spec h).2⟩
theorem SY {l_:List aJ} {bI:Int} {dF:List Int} (h1:Ef b_) (h2:GSz b_.aR) (h2':b_.aR.ay.length≤2000000) (h3:Md l_) (h4:dF.length≤9999) (h5:Qq g_) (h6:g_.dP.length≤100000)
  (ho:OL b_.aR (g_.dP.map aT.kH)) (hd:∀u∈g_.dP,u.gW∈dF) (hf:FnU b_ l_ dF g_.dP):W (uU b_ l_ g_ bI dF) (λ r=>r.2.2=0→(Qq r.1∧r.1.dP.length≤g_.dP.length+(l_.getD bI.toNat aZ).ak.length)∧
   (∀u∈r.1.dP,u.gW∈dF++[bI])∧OL b_.aR (r.1.dP.map aT.kH)∧FnU b_ l_ (dF++[bI]) r.1.dP∧yA l_ (dF++[bI])∧AgA b_ l_ (dF++[bI]) r.1.dP r.1):=by
 unfold uU;refine aH (aaV h1 h2 h3 om h5) λ v1 hv1=>?_;refine bL ?_ ?_<;>intro c1
 ·have c1:=nr c1;exact av λ e=>absurd e c1
 have c1:=nr c1;obtain ⟨hn,⟨hpa,_⟩,hd0,hd1⟩:=hv1 c1;obtain ⟨hb,hl12,hnd⟩:=tq hn;have alE:=Qc ho;refine aH (Pj om) λ v2 _=>?_;refine bL (λ c2=>av nofun) (λ c2=>?_);refine aO (by unfold big; omega) ?_;refine aO (by unfold big; omega) ?_;refine aH (LW om om) λ v11 akY=>?_;rw [Jb hd] at akY;subst akY;unfold vH;refine aH (Vf h1 h2 h3 (by dsimp only; rw [List.length_append,List.length_singleton]; omega) (by dsimp only; omega)) λ v4 ⟨hga,_,hgl⟩=>?_;refine bL ?_ ?_<;>intro c3
 ·have c3:=nr c3;exact av λ e=>absurd e c3
 have c3:=nr c3;obtain ⟨_,hdf,hag⟩:=hgl c3;have hus:=hag.us;dsimp only at hus hdf;rw [Jb λ u hu=>List.mem_append_left _ (hd u hu)] at hus;refine aH (aaZ alE (by dsimp only; omega)) λ v10 ED=>?_;subst ED;have auh:=(hnd _ (getD_in (i:=bI.toNat) aZ om)).fl;unfold tY;dsimp only;refine aO ⟨hd0,hd1⟩ ?_;refine aO (by rw [List.length_map]; unfold big; omega) ?_;refine aH (YG h2 (by rw [List.length_append,List.length_map]; omega) h2' hpa.v (ahL ho) (by rw [List.length_append,List.length_map,List.length_map]; omega)) λ v6 hv6=>?_;refine bL (λ c4=>av nofun) (λ c4=>?_);have c4:=nr c4;obtain ⟨ha1,ha2,ha3⟩:=hv6 c4;rw [List.length_append,List.length_map] at ha1;rw [List.length_map] at ha3;refine aO ⟨hd0,hd1⟩ ?_;refine bH (λ g3:Int×List aT=>0≤g3.1∧g3.1≤(l_.getD bI.toNat aZ).ak.length∧(∃new,g3.2=g_.dP++new∧new.map (λ u=>(u.gW,nmU b_.aR u.kH))=((l_.getD bI.toNat aZ).ak.take g3.1.toNat).map λ f=>(bI,f))∧g3.2.map (λ u=>u.kH.dx)=v6.1.take (g_.dP.length+g3.1.toNat)∧∀u∈g3.2,LC b_.aR u.kH) (λ g3=>((l_.getD bI.toNat aZ).ak.length - g3.1).toNat) ?_ ⟨ob,ob,⟨[],by dsimp only; rw [hus,List.append_nil],rfl⟩,?_,λ u hu=>?_⟩
 ·intro jV g3 ⟨d1,d2,⟨new,d3,d4⟩,d5,d6⟩ ih3;have hnl:new.length=g3.1.toNat:=by
   have:=congrArg List.length d4;rw [List.length_map,List.length_map,List.length_take] at this;omega
  have hgl:g3.2.length=g_.dP.length+g3.1.toNat:=by rw [d3,List.length_append,hnl]
  unfold BU;refine wi ?_ ?_<;>intro c5
  ·dsimp only;rw [List.length_map];have e:((g_.dP.length:Int)+g3.1).toNat=g_.dP.length+g3.1.toNat:=by omega
   have e1:(g3.1+1).toNat=g3.1.toNat+1:=by omega
   have hx:=ha2.ir _ (getD_in (i:=g_.dP.length+g3.1.toNat) 0 om);have hof:=ha2.off (g_.dP.length+g3.1.toNat) om;rw [Xy ByteArray.empty (by rw [List.length_map]; omega),List.length_map,Nat.add_sub_cancel_left] at hof;rw [e];refine aO om ?_;refine aO (by unfold aF; omega) ?_;refine aO om ?_;refine aO hx ?_;have hff:=(h2 _ (getD_in (i:=(v6.1.getD (g_.dP.length+g3.1.toNat) 0).toNat) aG om)).2;refine aH (OH om) λ v9 ⟨t1,t2,t3,t4⟩=>?_;obtain ⟨k,k1,k2⟩:=hof;have t0:0≤v9:=Int.not_lt.1 λ q=>t4 q k k1 k2;have t5:=Sw (t3 t0);refine aO (by unfold big; omega) ?_;refine aO (by unfold aF; omega) ?_;refine ih3 _ ⟨by dsimp only; omega,by dsimp only; omega,⟨new++[⟨bI,⟨v6.1.getD (g_.dP.length+g3.1.toNat) 0,v9⟩⟩],by dsimp only; rw [d3,List.append_assoc],?_⟩,?_,λ u hu=>?_⟩ (by dsimp only; omega)
   ·dsimp only;rw [e1,nN _ _ ByteArray.empty om,List.map_append,d4,List.map_cons,List.map_nil];congr 3
   ·dsimp only;rw [List.map_append,d5,e1,← Nat.add_assoc,iC 0 om,List.map_cons,List.map_nil]
   ·rcases List.mem_append.1 hu with h | h
    ·exact d6 u h
    ·rw [List.mem_singleton] at h; rw [h];exact ⟨hx.1,hx.2,t0,t2⟩
  ·rw [List.take_of_length_le om] at d4 d5;have hdv:∀u∈g3.2,u.gW∈dF++[bI]:=by
    intro u hu;rw [d3] at hu;rcases List.mem_append.1 hu with h | h
    ·exact List.mem_append_left _ (hd u h)
    ·refine List.mem_append_right _ (List.mem_singleton.2 ?_);have:(u.gW,nmU b_.aR u.kH)∈(l_.getD bI.toNat aZ).ak.map λ f=>(bI,f):=by rw [← d4]; exact List.mem_map.2 ⟨u,h,rfl⟩
     obtain ⟨f,_,e⟩:=List.mem_map.1 this;exact (Prod.mk.inj e).1.symm
   refine av λ _=>⟨⟨⟨hga.a,hga.b,hga.c,by dsimp only; omega,hga.d,hga.e⟩,by dsimp only; omega⟩,hdv,am5 hpa.v ha2 d5 d6,?_,hdf,⟨hag.st,hag.ra,(Jb hdv).symm,hag.re,hag.po⟩⟩
   ·intro i hi f;dsimp only;rw [d3];rcases List.mem_append.1 hi with h | h
    ·refine Nat.le_trans (hf i h f) ?_;unfold Qs;rw [List.countP_append];omega
    ·rw [List.mem_singleton] at h; rw [h];exact am6 d4 f
 ·dsimp only;rw [hus,show (0:Int).toNat=0 from rfl,Nat.add_zero,ha3]
 ·dsimp only at hu;rw [hus] at hu;exact alE u hu
theorem GJ (h1:Ef b_) (h2:GSz b_.aR):W (D7 b_) (λ r=>Qq r.1∧r.1.dP=[]∧(r.2=0→OI b_ 0∧AgA b_ [] [] [] r.1)):=by
 unfold D7;refine aH (aaW h1 h2 ⟨by simp,λ _ h=>by cases h⟩ (by simp) (by simp)) λ v1 ⟨hga,hul,hgl⟩=>?_;have hun:v1.2.2.2.2.2.2.2=[]:=List.length_eq_zero_iff.1 (by simpa using hul);exact av ⟨⟨hga.a,hga.b,hga.c,by dsimp only; rw [hun]; simp,hga.d,hga.e⟩,hun,λ e=>⟨(OO (hgl e).1).1,(hgl e).2.2⟩⟩
def aqd (b:aS) (r:bF×Int):Prop:=∀h1 h2,r=Classical.choose (GJ (b_:=b) h1 h2)
structure UsJ (e:Int) (b:aS) (l:List aJ) (ms:List Int) (g:bF):Prop where
 dv:∀u∈g.dP,u.gW∈ms
 ow:OL b.aR (g.dP.map aT.kH)
 fn:FnU b l ms g.dP
 df:yA l ms
 ag:e=0→AgA b l ms g.dP g
theorem aa0 (h1:0≤dF.At) (h2:dF.L.length≤600):W (FM dF) (λ r=>amu r.1∧r.2.1.length≤5∧(∀x∈r.2.1,NdG r.1 r.2.1.length x)∧r.2.2.1.length≤5∧Qq r.2.2.2.1∧r.2.2.2.1.dP.length≤10∧∃v3,aqd r.1 v3∧UsJ v3.2 r.1 r.2.1 r.2.2.1 r.2.2.2.1):=by
 unfold FM;refine aH (Ua h1 h2) λ v1 ⟨b1,b2,b3⟩=>?_;refine aH (Po b1 om om b2 b3) λ v2 hv2=>?_;obtain ⟨n1,n2,n3,n4⟩:=hv2;have hbs:=anq b1;have hgs:GSz v1.1.aR:=λ g hg=>by have:=b1.gr g hg; omega
 have hgn:=b1.ngr;have hns:Md v2.1:=⟨om,λ n hn=>by have a:=(n2 n hn).rs.1; have c:=(n2 n hn).pr.1; omega⟩;refine aH (aqc (GJ hbs hgs)) λ v3 ⟨sp,s1,s2,s3⟩=>?_;refine bH (λ g1:(Int×List Int×Int×List Int×List Bool×List Int×List aT×List Bool×List Bool×List Int)=>0≤g1.1∧g1.1≤v2.1.length∧0≤g1.2.2.1∧g1.2.1.length≤600∧Qq ⟨g1.2.2.2.1,⟨g1.2.2.2.2.1,g1.2.2.2.2.2.1⟩,g1.2.2.2.2.2.2.1,g1.2.2.2.2.2.2.2.1,g1.2.2.2.2.2.2.2.2.1⟩∧g1.2.2.2.2.2.2.1.length≤2*g1.1.toNat∧g1.2.2.2.2.2.2.2.2.2.length≤g1.1.toNat∧UsJ v3.2 v1.1 v2.1 g1.2.2.2.2.2.2.2.2.2 ⟨g1.2.2.2.1,⟨g1.2.2.2.2.1,g1.2.2.2.2.2.1⟩,g1.2.2.2.2.2.2.1,g1.2.2.2.2.2.2.2.1,g1.2.2.2.2.2.2.2.2.1⟩) (λ g1=>(v2.1.length - g1.1).toNat) ?_ ⟨ob,ob,n3,n4,s1,by dsimp only; rw [s2]; simp,by simp,⟨by dsimp only; rw [s2]; exact nofun,by dsimp only; rw [s2]; exact λ i hi=>by (simp at hi; omega),nofun,λ i hi=>by (simp at hi; omega),λ e=>by have h:=(s3 e).2; rw [← s2] at h; exact ⟨h.st,h.ra,h.us,h.re,h.po⟩⟩⟩;intro aj g1 ⟨a1,a2,a3,a4,a5,a6,a7,a8⟩ ih1;unfold Oe;refine wi ?_ ?_<;>intro c
 ·have hfx:=(n2 _ (getD_in (i:=g1.1.toNat) aZ om)).fw.1;have e:(g1.1+1).toNat=g1.1.toNat+1:=by omega
  refine aH (SY hbs hgs om hns om a5 (by dsimp only; omega) a8.ow a8.dv a8.fn) λ v8 uG=>?_;refine bL ?_ ?_<;>intro c2
  ·refine aH (bW om a3 a4) λ v9 Sl=>?_;obtain ⟨_,_,_,q1,q2⟩:=Sl;refine bL ?_ ?_<;>intro c3
   ·have c4:v8.2.2=0:=by
     simp only [Bool.and_eq_true,beq_iff_eq] at c3;exact c3.1.2
    obtain ⟨⟨r1,r2⟩,r3,r4,r5,r6,r7⟩:=uG c4;dsimp only at r2;refine aO (by unfold big; omega) ?_;refine wn ?_;exact ih1 _ ⟨ob,ob,q1,q2,r1,by dsimp only; rw [e]; omega,by dsimp only; rw [List.length_append,List.length_singleton,e]; omega,⟨r3,r4,r5,r6,λ _=>r7⟩⟩ ob
   ·refine wn ?_;exact ih1 _ ⟨ob,ob,q1,q2,a5,by dsimp only; rw [e]; omega,by dsimp only; rw [e]; omega,a8⟩ ob
  ·refine aO (by cases h:((v3.2==(0:Int))&&(v8.2.2==(0:Int))) with | false=>rfl | true=>rw [h] at c2; cases c2) ?_;refine wn ?_;exact ih1 _ ⟨ob,ob,a3,a4,a5,by dsimp only; rw [e]; omega,by dsimp only; rw [e]; omega,a8⟩ ob
 ·exact av ⟨b1,by dsimp only; omega,n2,by dsimp only; omega,a5,by dsimp only; omega,v3,λ _ _=>sp,a8⟩
theorem LY:rU true:=M.akb 100 _ _ (by decide +kernel)
theorem alF:W (bnd rU λ v=>ret v) (λ r=>r=true):=aH (yw LY) λ _ h=>av h
theorem acr (h:∀x∈l,NdG b l.length x):SmN l:=λ x hx=>⟨(h x hx).lm.1,(h x hx).dw.1,(h x hx).fw.1⟩
variable {x:bF}
theorem aoW {m:List Int} (h:FnU b l m x.dP) (hs:∀i∈ms,i∈m):amU b l ms x:=λ i hi f=>h _ (hs _ (getD_in 0 om)) f
variable {Mw:List Int}
theorem aa1 {l_:List aJ} (h1:Ef b_) (h2:GSz b_.aR) (h3:Md l_) (h4:Mw.length≤10000) (h5:Qq g_) (hb:abA b_ l_ Mw g_ false 0):W (Aj b_ l_ Mw g_) (λ r=>r=true):=by
 unfold Aj;refine aH (Yg h1 h2 h3 h4 h5) λ v1 hv1=>av ?_;rw [abA.fun _ _ hv1 hb]; rfl
theorem ag4 (hb:Ef b) (h:AgA b l ms us x) (hu:us.length≤2000000) (hd:b.aY.length≤2000000∧b.cB.length≤2000000):Qq x:=by
 have hll:(Sp.jr b.bD (jn aJ.fJ l ms)).2=0:=by rw [h.ra]
 have hlr:=Sp.Qd hll;rw [h.ra] at hlr;obtain ⟨z1,z2,z3,z4,z5,z6,z7⟩:=hb;refine ⟨by rw [h.st.1.1]; exact z1,by rw [hlr.1]; exact z3,by rw [hlr.2]; exact z3,?_,by rw [h.re.ln]; exact hd.1,by rw [h.po.ln]; exact hd.2⟩;rw [h.us];exact Nat.le_trans (List.length_filter_le _ _) hu
theorem ahM (h:yA l ms):ms.Nodup:=by
 refine List.pairwise_iff_getElem.2 λ i j hi hj hij=>?_;have:=(h j om).2 i hij;rw [List.getD_eq_getElem?_getD,List.getElem?_eq_getElem hi,List.getD_eq_getElem?_getD,List.getElem?_eq_getElem hj] at this;exact this
theorem adN (h:AgA b l ms us x):FL b l ms:=⟨⟨_,h.st.1,h.st.2.1⟩,by rw [h.ra]⟩
theorem YH {l_:List aJ} {d_:Int} (h1:Ef b_) (h2:GSz b_.aR) (h3:Md l_) (h4:Mw.length≤10000) (h5:Qq g_) (hb:abA b_ l_ Mw g_ false 0) (hn:mQ b_ l_ 0) (hd:yA l_ Mw) (d0:0≤d_) (d1:d_<l_.length):W (xk b_ l_ Mw g_ d_) (λ r=>r=0):=by
 unfold xk;refine aH (Pf h1 h2 h3 hn hd h4) λ v1 hv1=>?_;subst hv1;refine bL (λ c1=>by cases c1) (λ _=>?_);refine aH (aa1 h1 h2 h3 h4 h5 hb) λ v2 hv2=>?_;subst hv2;refine bL (λ c2=>by cases c2) (λ _=>?_);exact bL (λ c3=>by have c3:=nr c3; omega) (λ _=>av rfl)
theorem alG (h1:∀m∈ms,0≤m∧m<l.length) (h2:ms.Nodup):yA l ms:=λ i hi=>by
 refine ⟨h1 _ (getD_in 0 om),λ k hk e=>?_⟩;have:=List.pairwise_iff_getElem.1 h2 k i om om hk;rw [List.getD_eq_getElem?_getD,List.getElem?_eq_getElem om,List.getD_eq_getElem?_getD,List.getElem?_eq_getElem om] at e;exact this e
theorem alH {d:Int} (h:yA l ms) (d0:0≤d) (d1:d<l.length) (hd:d ∉ ms):yA l (ms++[d]):=alG (λ m hm=>by
 rcases List.mem_append.1 hm with hm | hm
 ·exact SV h m hm
 ·rw [List.mem_singleton.1 hm]; exact ⟨d0,d1⟩) (by
 rw [List.nodup_append];refine ⟨ahM h,by simp,λ a ha b hb e=>?_⟩;rw [List.mem_singleton] at hb;exact hd (hb ▸ e ▸ ha))
theorem aqe {g:cK} {f:ByteArray} (h:∃k:Nat,(k:Int)<g.ak.length∧(g.ak.getD k ByteArray.empty).toList=f.toList):0≤Yw g f∧Yw g f<g.ak.length∧g.ak.getD (Yw g f).toNat ByteArray.empty=f:=by
 obtain ⟨k,h1,h2⟩:=h;have hk:k<g.ak.length:=by omega
 have ha:=aeP (l:=g.ak) (P:=λ x=>f.toList==x.toList) (d:=ByteArray.empty) hk (by rw [h2]; exact beq_self_eq_true _);have hl:=List.findIdx_lt_length_of_exists (List.any_eq_true.1 ha);have hg:=List.findIdx_getElem (w:=hl);unfold Yw XV;rw [if_pos ha];refine ⟨om,om,Sw ?_⟩;rw [show (((List.findIdx (λ x=>f.toList==x.toList) g.ak:Nat):Int)).toNat=List.findIdx (λ x=>f.toList==x.toList) g.ak from rfl,List.getD_eq_getElem?_getD,List.getElem?_eq_getElem hl];exact (beq_iff_eq.1 hg).symm
theorem aa2 {l:List Int} {y:Int} (h:y∈l):∃a:Nat,(a:Int)<l.length∧l.getD a 0=y:=by
 obtain ⟨i,hi,rfl⟩:=List.mem_iff_getElem.1 h;exact ⟨i,om,by rw [List.getD_eq_getElem?_getD,List.getElem?_eq_getElem hi]; rfl⟩
theorem alI {p:bn} {f:ByteArray} {k:Int} (h0:0≤k) (h1:k<p.ay.length) (h2:0≤Yw (p.ay.getD k.toNat aG) f):k∈Pe p f p.ay.length:=by
 unfold Pe;exact List.mem_map.2 ⟨k.toNat,List.mem_filter.2 ⟨List.mem_range.2 om,decide_eq_true h2⟩,om⟩
theorem WY (h1:GSz p_) (h2:l_.length≤2000000) (h3:dX.length≤2000000) (hpa:wD p_ 0) (hll:l_.length≤10) (hw:∀f∈l_,Gp f) (hg:X6 p_ l_ dX) (aui:dX.length≤l_.length):W (zJ p_ l_ dX) (λ r=>r.2=0∧PB p_ l_ dX r.1):=by
 unfold zJ;refine aH (zV h1) λ v1 hv1=>?_;have e1:=wD.fun _ _ hv1 hpa;subst e1;refine aH (M0 (rA (P:=λ v=>v=false) λ _=>?_) λ r h=>h (by rw [decide_eq_false om]; rfl)) λ v2 e2=>?_
 ·unfold mo;refine aH (P:=λ v=>v = -1) ?_ λ v e=>av (by rw [e]; rfl);unfold ou;refine bH (λ g1:Int=>0≤g1) (λ g1=>(l_.length - g1).toNat) ?_ (Int.le_refl _);intro aj g1 a1 ih1;unfold rR;refine bL (λ c=>?_) (λ c=>av rfl);have c:=nr c;refine aO om ?_;refine aH (P:=λ v=>v=false) (aH (ady (hw _ (getD_in _ om))) λ _ e=>av (by rw [e]; rfl)) λ v3 e=>?_;subst e;exact bL (λ c=>by cases c) (λ _=>aO (by unfold aF; omega) (ih1 _ om om))
 subst e2;have hcz:((((0:Int) != (0:Int))||(decide ((10:Int)<(l_.length:Int))))||false)=false:=by rw [decide_eq_false om]; rfl
 refine bL (λ c1=>by rw [hcz] at c1; cases c1) (λ _=>?_);have hgl:p_.ay.length≤24:=by
  have:=(wD.v hv1).ok.gl;omega
 refine bH (λ g1:Int×List (List Int)=>0≤g1.1∧g1.1≤l_.length∧g1.2=(l_.take g1.1.toNat).map λ f=>Pe p_ f p_.ay.length) (λ g1=>(l_.length - g1.1).toNat) ?_ ⟨ob,ob,by simp⟩;intro aj g1 ⟨a1,a2,a3⟩ ih1;have l1:g1.2.length=g1.1.toNat:=by rw [a3,List.length_map,List.length_take]; omega
 unfold Hz;refine bL ?_ ?_<;>intro c
 ·have c:=nr c;refine wn<|aH (aH (abD h1 hv1 hgl) λ v h=>av h) λ v5 hv5=>?_;refine aO (by unfold big; omega) ?_;refine wn<|ih1 _ ⟨ob,ob,?_⟩ ob;dsimp only;rw [show (g1.1+1).toNat=g1.1.toNat+1 by omega,nN _ _ ByteArray.empty om,← a3,hv5]
 have c:=nr c;have e1:g1.2=l_.map λ f=>Pe p_ f p_.ay.length:=by rw [a3,List.take_of_length_le om]
 refine bH (λ g2:Int×List Int=>0≤g2.1∧g2.1≤p_.ay.length∧g2.2=(p_.ay.take g2.1.toNat).map XH) (λ g2=>(p_.ay.length - g2.1).toNat) ?_ ⟨ob,ob,by simp⟩;intro dJ g2 ⟨b1,b2,b3⟩ ih2;have l2:g2.2.length=g2.1.toNat:=by rw [b3,List.length_map,List.length_take]; omega
 unfold Fu;refine bL ?_ ?_<;>intro c4
 ·have c4:=nr c4;refine wn ?_;have hpl:=(h1 _ (getD_in (i:=g2.1.toNat) aG om)).1;have hpn:=((wD.v hv1).ok.gr _ (getD_in (i:=g2.1.toNat) aG om)).pn;refine bH (λ g5:Int×Int=>0≤g5.2∧g5.2≤(p_.ay.getD g2.1.toNat aG).bS.length∧g5.1=((p_.ay.getD g2.1.toNat aG).bS.take g5.2.toNat).foldl orF 0) (λ g5=>((p_.ay.getD g2.1.toNat aG).bS.length - g5.2).toNat) ?_ ⟨ob,ob,by simp⟩;intro j5 g5 ⟨d1,d2,d3⟩ ih5;unfold Fp;refine wi ?_ ?_<;>intro c5
  ·have hx:=hpn _ (getD_in (i:=g5.2.toNat) 0 om);refine wn<|aO om ?_;refine wn<|ih5 _ ⟨ob,ob,?_⟩ ob;dsimp only;rw [show (g5.2+1).toNat=g5.2.toNat+1 by omega,LV _ _ _ 0 om,← d3];rfl
  ·refine aO (by unfold big; omega) ?_;refine wn<|ih2 _ ⟨ob,ob,?_⟩ ob;dsimp only;rw [show (g2.1+1).toNat=g2.1.toNat+1 by omega,nN _ _ aG om,← b3,d3,List.take_of_length_le om];rfl
 have c4:=nr c4;have e2:g2.2=p_.ay.map XH:=by rw [b3,List.take_of_length_le om]
 refine bL (λ c6=>by have c6:=nr c6; omega) (λ c6=>?_);have c6:=nr c6;refine bH (λ g6:Int×Int=>0≤g6.1∧g6.1≤dX.length∧g6.2=WV g2.2 (dX.take g6.1.toNat)∧∀j:Nat,(j:Int)<g6.1→dX.getD j 0∈g1.2.getD j []) (λ g6=>(dX.length - g6.1).toNat) ?_ ⟨ob,ob,by simp [WV],λ j hj=>by dsimp only at hj; omega⟩;intro jG g6 ⟨f1,f2,f3,f4⟩ ih6;unfold Fq;refine wi ?_ ?_<;>intro c7
 ·refine wn<|aO om ?_;have hov:g1.2.getD g6.1.toNat []=Pe p_ (l_.getD g6.1.toNat ByteArray.empty) p_.ay.length:=by
   rw [e1,List.getD_eq_getElem?_getD,List.getElem?_map,List.getElem?_eq_getElem om,List.getD_eq_getElem?_getD,List.getElem?_eq_getElem om];rfl
  have hol:=aaT p_ (l_.getD g6.1.toNat ByteArray.empty) p_.ay.length;rw [← hov] at hol;have hm:=getD_in (l:=dX) (i:=g6.1.toNat) 0 om;have hir:=hg.ir _ hm;have hof:=aqe (hg.off g6.1.toNat om);have hmo:dX.getD g6.1.toNat 0∈g1.2.getD g6.1.toNat []:=by rw [hov]; exact alI hir.1 hir.2 hof.1
  refine aH (yw (iT om)) λ v8 uG=>?_;rw [List.contains_iff_mem.2 hmo] at uG;subst uG;have hin:(!true)=false→dX.getD g6.1.toNat 0∈g1.2.getD g6.1.toNat []:=λ _=>hmo;have hb:(!true)=false→0≤dX.getD g6.1.toNat 0∧dX.getD g6.1.toNat 0<(g2.2.length:Int):=λ e=>by
   have:=hin e;rw [hov] at this;have:=afr this;omega
  refine aO hb ?_;refine bL ?_ ?_<;>intro c8
  ·exfalso;simp only [Bool.not_true,Bool.false_or,bne_iff_ne,ne_eq] at c8;rw [f3,e2] at c8;obtain ⟨gg,hgm,y,y1,y2⟩:=aoL hpa.v.ok hir (λ g hgm=>hg.ir g (List.mem_of_mem_take hgm)) c8;obtain ⟨j,hj,ej⟩:=aa2 hgm;rw [List.length_take] at hj;rw [P9 _ _ _ _ om] at ej;obtain ⟨a,ha,ea⟩:=aa2 y1;obtain ⟨c,hc,ec⟩:=aa2 y2;have:=hg.dj g6.1.toNat j om om;rw [ej] at this;exact this a c ha hc (ea.trans ec.symm)
  refine aO (hb rfl) ?_;refine wn<|ih6 _ ⟨ob,ob,?_,dZ f4 f1 hmo⟩ ob;dsimp only;rw [show (g6.1+1).toNat=g6.1.toNat+1 by omega];unfold WV;rw [LV _ _ _ 0 om,f3];rfl
 ·refine av ⟨rfl,hv1,om,e1,e2,rfl,om,?_,λ i hi=>f4 i om⟩;dsimp only;rw [f3,List.take_of_length_le om]
theorem Vj (h1:GSz p_) (hpa:wD p_ 0) (hll:l_.length≤10) (hw:∀f∈l_,Gp f) (hg:X6 p_ l_ dX) (hgl:dX.length=l_.length):W (xq p_ l_ dX) (λ r=>r=(dX,0)):=by
 unfold xq;refine aH (WY h1 om om hpa hll hw hg om) λ v1 ⟨e1,hp⟩=>?_;rw [e1];refine bL (λ c=>by cases c) (λ _=>?_);have hol:=hp.opl;have hgv:v1.1.oV.length=dX.length:=by rw [hp.gv]
 refine aH (Ki om om) λ v2 ⟨o1,_⟩=>?_;have e2:v2=[]:=List.length_eq_zero_iff.1 om;subst e2;refine aH (P:=λ r=>r=([],true)) ?_ λ v3 e3=>?_
 ·unfold qE;refine aO (by decide) ?_;refine aH (EO (ch:=[]) (by simp) nofun (kC [] λ j hj=>?_)) λ v hv=>?_
  ·rw [hp.opg om];have auk:=hpa.v.ok.gl;refine ⟨Nat.le_trans (aaT _ _ _) om,λ k hk=>?_⟩;have:=afr hk;rw [hp.ms,List.length_map];omega
  obtain ⟨q1,q2,q3,q4,q5⟩:=hv;cases e:v.1 with
  | false=>have:=(q5 e).2.2; simp at this
  | true=>
   have h0:v.2.2.2.2.take v.2.1=[]:=List.length_eq_zero_iff.1 (q4 e).len;refine aO q3 (av ?_);rw [h0]
 subst e3;refine bL (λ c=>by cases c) (λ _=>?_);refine aH (Yx om (by simp)) λ v4 hv4=>?_;exact av (by rw [hv4,List.append_nil])
theorem aoX {us':List aT} {y:bF} (hn:mQ b l 0) (hs:SmN l) (ha:abG b l ms) (h:AgA b l ms us x) (h':AgA b l ms us' y) (e:Dg ms us=Dg ms us'):x=y:=by
 obtain ⟨q1,q2,q3,q4⟩:=alo hn hs ha ha (List.Perm.refl _) ⟨h.st,h.ra,h.us,h.re,h.po⟩ (us:=us) ⟨h'.st,h'.ra,by rw [h'.us,e],h'.re,h'.po⟩;have q5:x.dP=y.dP:=by rw [h.us,h'.us,e]
 cases x; cases y;dsimp only at q1 q2 q3 q4 q5;subst q1 q2 q3 q4 q5;rfl
theorem aiY {y:bF} (h:x=y):ahB x y=true:=by
 subst h;exact agP _
theorem aoY {c:Bool} (hc:c=true):W (grd (c=true) rU) (λ r=>r=true):=M0 (rA λ _=>yw LY) λ _ h=>h hc
theorem am7 (hp:adx b.aR) (hu:∀u∈us,LC b.aR u.kH):∀f∈us.map (nmH b),Gp f:=λ f hf=>by
 obtain ⟨u,h,rfl⟩:=List.mem_map.1 hf;obtain ⟨u1,u2,u3,u4⟩:=hu u h;exact (hp.gr u.kH.dx.toNat om).fw u.kH.gy.toNat om
theorem YI {l_:List aJ} {d_:Int} (h1:Ef b_) (h2:GSz b_.aR) (h3:Md l_) (hn:mQ b_ l_ 0) (hs:SmN l_) (hd:yA l_ Mw) (hm:Mw.length≤5) (h5:Qq g_) (h6:g_.dP.length≤10) (hb:abA b_ l_ Mw g_ false 0)
  (ho:OL b_.aR (g_.dP.map aT.kH)) (hdv:∀u∈g_.dP,u.gW∈Mw) (d0:0≤d_) (d1:d_<l_.length) (hdm:d_ ∉ Mw) (hfe:(l_.getD d_.toNat aZ).ak=[]) (ha:abG b_ l_ (Mw++[d_])):W (xu b_ l_ Mw g_ d_) (λ r=>r.2.2=0∧r.2.1=0∧AgA b_ l_ (Mw++[d_]) g_.dP r.1):=by
 obtain ⟨z1,z2,z3,z4,z5,z6,z7⟩:=id h1;have hpa:=(Qe hn).1;unfold xu;refine aH (YH h1 h2 h3 om h5 hb hn hd d0 d1) λ v1 hv1=>?_;subst hv1;refine bL (λ c=>by cases c) (λ _=>?_);refine aH (yw (iT om)) λ v2 hv2=>?_;subst hv2;refine bL (λ c2=>absurd (List.contains_iff_mem.1 c2) hdm) (λ _=>?_);refine bH (λ g4:Int×List aT=>0≤g4.1∧g4.1≤g_.dP.length∧g4.2=Dg Mw (g_.dP.take g4.1.toNat)) (λ g4=>(g_.dP.length - g4.1).toNat) ?_ ⟨ob,ob,rfl⟩;intro jk g4 ⟨a1,a2,a3⟩ ih4;have hl:g4.2.length≤g4.1.toNat:=by
  rw [a3]; unfold Dg;exact Nat.le_trans (List.length_filter_le _ _) (by rw [List.length_take]; omega)
 unfold KT;refine bL ?_ ?_<;>intro c
 ·have c:=nr c;refine aO om ?_;have hs:=tL (λ u:aT=>Mw.contains u.gW) g_.dP bB (i:=g4.1.toNat) om;have e:(g4.1+1).toNat=g4.1.toNat+1:=by omega
  refine aH (yw (iT om)) λ v8 uG=>?_;refine bL ?_ ?_<;>intro c2
  ·rw [c2] at uG;refine aO (by unfold big; omega) ?_;refine aO (by unfold aF; omega) ?_;refine ih4 _ ⟨by dsimp only; omega,by dsimp only; omega,?_⟩ (by dsimp only; omega);dsimp only;unfold Dg at a3 ⊢;rw [e,hs,← a3,if_pos uG.symm]
  ·rw [c2] at uG;refine aO (by unfold aF; omega) ?_;refine ih4 _ ⟨by dsimp only; omega,by dsimp only; omega,?_⟩ (by dsimp only; omega);dsimp only;unfold Dg at a3 ⊢;rw [e,hs,← a3,if_neg (by rw [← uG]; exact Bool.false_ne_true),List.append_nil]
 have c:=nr c;rw [List.take_of_length_le om,Jb hdv] at a3;rw [a3];have alE:=Qc ho;unfold za;refine aH (qI om) λ v6 hv6=>?_;subst hv6;refine aO (by unfold big; omega) ?_;refine aH (Ph h1 h3 hn hs ha om) λ v7 ⟨e7,hag⟩=>?_;rw [e7];refine bL (λ c=>by cases c) (λ _=>?_);have hsz:=ag4 h1 hag om ⟨by have:=(tq hn).1.rs.len; omega,z7⟩;refine aO ⟨d0,d1⟩ ?_;rw [hfe];refine aH (abC alE om (by simp)) λ v8 uG=>?_;subst uG;dsimp only;refine aH (Vj h2 hpa (by rw [List.length_append,List.length_map]; simp; omega) (λ f hf=>am7 hpa.v alE f (by simpa using hf)) (ahL (fs:=[]) ho) (by rw [List.length_append,List.length_map,List.length_map]; rfl)) λ v9 Sl=>?_;subst Sl;refine bL (λ c=>by cases c) (λ _=>?_);dsimp only;rw [List.length_map];refine aO ⟨om,om⟩ ?_;refine bH (λ g3:List Int×Int×List aT=>g3.2=(0,v7.2.2.2.2.2.2.2)) (λ _=>0) ?_ rfl;rintro jV ⟨tt,ix,us⟩ e ih3;obtain ⟨e1,e2⟩:=Prod.mk.inj e;subst e1 e2;unfold HV;dsimp only;rw [List.length_map];refine bL (λ c5=>by have c5:=nr c5; omega) (λ _=>?_);refine aH (aff hsz) λ v13 R8=>?_;subst R8;exact av ⟨rfl,rfl,hag⟩
abbrev noN:aJ:=⟨[],[],[],[],-1,[]⟩
theorem Vk {α:Type} {f:aJ→List α} (h:∀m∈ms,0≤m∧m<l.length):jn f (l++[noN]) ms=jn f l ms:=by
 unfold jn;rw [List.flatMap_def,List.flatMap_def];congr 1;exact List.map_congr_left λ m hm=>by rw [jo aZ (by have:=h m hm; omega)]
theorem Kj {α:Type} {f:aJ→List α} (h:∀m∈ms,0≤m∧m<l.length) (hf:f noN=[]):jn f (l++[noN]) (ms++[(l.length:Int)])=jn f l ms:=by
 rw [aoN,Vk h];unfold jn;rw [List.flatMap_cons,List.flatMap_nil,List.append_nil,show (l.length:Int).toNat=l.length from rfl,jD aZ rfl,hf,List.append_nil]
theorem alJ (h:∀x∈l,NdG b l.length x):∀x∈l++[noN],NdG b (l++[noN]).length x:=λ x hx=>by
 rw [List.length_append,List.length_singleton];rcases List.mem_append.1 hx with hx | hx
 ·obtain ⟨a1,a2,a3,a4,a5,p1,p2,p3⟩:=h x hx;exact ⟨a1,a2,a3,a4,a5,p1,λ p hp=>by have:=p2 p hp; omega,p3⟩
 ·rw [List.mem_singleton] at hx;subst hx;exact ⟨aaX,aaY,afy,⟨Nat.zero_le _,nofun⟩,⟨by decide,by show (-1:Int)<_; omega⟩,afz⟩
theorem S9 {t_:List Int} {bI:Int}:W (zh t_ bI) (λ r=>r=true):=by
 unfold zh;refine bL (λ _=>alF) (λ c0=>?_);refine aH aeR λ v2 ⟨k1,k2⟩=>?_;refine aH (aa0 (by dsimp only; omega) k2) λ v3 hv3=>?_;obtain ⟨w1,w2,w3,w4,w5,w7,vb,wb,w6⟩:=hv3;obtain ⟨b,l,m,g,s⟩:=v3;dsimp only at w1 w2 w3 w4 w5 w6 w7 wb ⊢;have hbs:=anq w1;have hgs:GSz b.aR:=λ x hx=>by have:=w1.gr x hx; omega
 have hns:Md l:=⟨om,λ n hn=>by have a:=(w3 n hn).rs.1; have c:=(w3 n hn).pr.1; omega⟩;have hd2:b.aY.length≤2000000∧b.cB.length≤2000000:=by have:=w1.nre; have:=w1.ndo; omega
 refine aH (aqc (GJ hbs hgs)) λ v4 ⟨sp,_,_,hv4⟩=>?_;have evb:vb=v4:=(wb hbs hgs).trans sp.symm;refine bL (λ _=>alF) (λ c1=>?_);have c1:=nr c1;have hba:=(hv4 c1).1;have hn:=afB hba om w3;have hs:=acr w3;have hag:=w6.ag (by rw [evb]; exact c1);have hin:=SV w6.df;have ha:abG b l m:=⟨w6.df,om,(adN hag).1,(adN hag).2,ant hs w6.df w4⟩;obtain ⟨_,hra,hda⟩:=Qe hn;refine aH (aaU hbs hgs hns hn hs ha om) λ v6 ⟨e6,h6⟩=>?_;rw [e6];refine bL (λ c=>by cases c) (λ _=>?_);refine bH (λ g1:Int×List Int×List Int=>0≤g1.1∧g1.1≤m.length∧g1.2.1=jn aJ.aY l (m.take g1.1.toNat)∧g1.2.2=jn Y6 l (m.take g1.1.toNat)) (λ g1=>(m.length - g1.1).toNat) ?_ ⟨ob,ob,rfl,rfl⟩;intro aj g1 ⟨a1,a2,a3,a4⟩ ih1;have l3:=zD (f:=aJ.aY) (l:=l) (c:=2000000) (ms:=m.take g1.1.toNat) λ x q=>(hns.nd _ (yj w6.df (List.mem_of_mem_take q))).1;have l4:=zD (f:=Y6) (l:=l) (c:=1) (ms:=m.take g1.1.toNat) λ x _=>Vd _;rw [← a3,List.length_take] at l3;rw [← a4,List.length_take] at l4;unfold Aw;dsimp only;refine bL ?_ ?_<;>intro c
 ·have c:=nr c;have hm:=(w6.df g1.1.toNat om).1;have hx:=(hns.nd _ (getD_in (i:=(m.getD g1.1.toNat 0).toNat) aZ om)).1;have e:(g1.1+1).toNat=g1.1.toNat+1:=by omega
  refine aO om ?_;refine aO hm ?_;refine aO (by unfold big; omega) ?_;refine aO hm ?_;refine wi ?_ ?_<;>intro c6
  ·refine aO hm ?_;refine aO (by unfold big; omega) ?_;refine aO (by unfold aF; omega) ?_;exact ih1 _ ⟨by dsimp only; omega,by dsimp only; omega,by dsimp only; rw [e,qY om,a3],by dsimp only; rw [e,qY om,a4]; congr 1; unfold Y6; rw [decide_eq_false om]; rfl⟩ (by dsimp only; omega)
  ·refine aO (by unfold aF; omega) ?_;exact ih1 _ ⟨by dsimp only; omega,by dsimp only; omega,by dsimp only; rw [e,qY om,a3],by dsimp only; rw [e,qY om,a4]; unfold Y6; rw [decide_eq_true om]; exact (List.append_nil _).symm⟩ (by dsimp only; omega)
 have c:=nr c;rw [List.take_of_length_le om] at a3 a4;have hxs:=ag4 hbs h6 om hd2;have hrs:∀g∈b.aY,g.dY.length≤2000000:=λ x hx=>by have:=w1.re x hx; omega
 refine aH (BG hrs om hra (by rw [a3]; exact alq hn w6.df)) λ v7 ⟨e7,hv7⟩=>?_;refine aH (Pm om hda (by rw [a4]; exact alr hn w6.df)) λ v8 ⟨e8,uG⟩=>?_;rw [a3] at hv7;rw [a4] at uG;rw [e7,e8];refine aH (M0 (rA λ _=>uH hxs.re) λ r h=>h rfl) λ v9 Sl=>?_;have e9:v9=true:=by rw [Sl,h6.re.uniq hv7 λ _=>Iff.rfl]; exact beq_self_eq_true _
 subst e9;refine aH (M0 (rA λ _=>uH hxs.po) λ r h=>h rfl) λ v10 ED=>?_;have e10:v10=true:=by rw [ED,h6.po.uniq uG λ _=>Iff.rfl]; exact beq_self_eq_true _
 subst e10;refine bL (λ c=>by cases c) (λ _=>?_);refine aO (by unfold big; omega) ?_;refine aO (by unfold big; omega) ?_;refine bL (λ c=>by have c:=nr c; omega) (λ _=>?_);have wm:=alJ w3;have hml:(l++[noN]).length=l.length+1:=by rw [List.length_append,List.length_singleton]
 have hnm:=afB hba om wm;have hsm:=acr wm;have atm:Md (l++[noN]):=⟨om,λ n hn=>by have a:=(wm n hn).rs.1; have c:=(wm n hn).pr.1; omega⟩;have hdm:yA (l++[noN]) m:=alG (λ x hx=>by have:=hin x hx; omega) (ahM w6.df);have hgd:∀x∈m,(l++[noN]).getD x.toNat aZ=l.getD x.toNat aZ:=λ x hx=>jo aZ (by have:=hin x hx; omega);have aoZ:AgA b (l++[noN]) m g.dP g:=⟨by rw [Vk hin]; exact hag.st,by rw [Vk hin]; exact hag.ra,hag.us,by rw [Vk hin]; exact hag.re,by rw [Vk hin]; exact hag.po⟩;have ham:abG b (l++[noN]) m:=⟨hdm,om,(adN aoZ).1,(adN aoZ).2,ant hsm hdm w4⟩;have hbr:=alp hnm hsm ham aoZ w6.ow (aoW (m:=m) (λ i hi f=>by rw [hgd i hi]; exact w6.fn i hi f) λ _ h=>h);have hnl:(l.length:Int) ∉ m:=λ q=>by have:=hin _ q; omega
 have hdl:=alH hdm (d:=(l.length:Int)) om om hnl;have hal:abG b (l++[noN]) (m++[(l.length:Int)]):=⟨hdl,by rw [List.length_append,List.length_singleton]; omega,by rw [Kj hin rfl]; exact ha.ft,by rw [Kj hin rfl]; exact ha.le,by rw [Kj hin rfl]; exact ha.fc⟩;refine aH (YI (d_:=(l.length:Int)) hbs hgs atm hnm hsm hdm w4 w5 w7 hbr w6.ow w6.dv om (by rw [List.length_append,List.length_singleton]; omega) hnl (by rw [show (l.length:Int).toNat=l.length from rfl,jD aZ rfl]) hal) λ v12 ⟨e12,p12,h12⟩=>?_;rw [e12,p12];have hex:AgA b l m g.dP v12.1:=⟨by have:=h12.st; rwa [Kj hin rfl] at this,by have:=h12.ra; rwa [Kj hin rfl] at this,by rw [h12.us,Jb w6.dv,Jb λ u hu=>List.mem_append_left _ (w6.dv u hu)],by have:=h12.re; rwa [Kj hin rfl] at this,by have:=h12.po; rwa [Kj hin rfl] at this⟩;have s1:=aiY (aoX hn hs ha hex h6 rfl);refine aH (M0 (rA λ _=>ads (ag4 hbs hex om hd2)) λ r h=>h rfl) λ v13 R8=>?_;rw [s1] at R8;subst R8;refine aH (aoY rfl) λ v14 TY=>?_;subst TY;exact av rfl
end Go.Proofs.YtccjmcmolnbiiaaGreatDoor
namespace Go.Proofs.YtccjmcmolnbiiaaGreatDoor.grantLeast
open Go.ChangeShapes Go.WideShapes Go.ChangeAt Go.RowKit
open Go.Ab
set_option maxRecDepth 100000
theorem spec (l:List Int) (a:Int) (h:0≤a∧a≤255):S 8 [aC l,.int .u8 a] [] (.bool true) []:=by
 obtain ⟨r,h1,h2⟩:=S9 (t_:=l);subst h2;exact Mv h1
theorem contract (H:Type) (enc:TypeId×Value→H) (W:World) (base:Nat) (args:Array Value) (ds gs:List (DataW H)) (before:List MemPlace)
  (hval:∀(j:Nat) t v,Tryz.f8.params[j]? = some t→args[j]? = some v→Value.okWide Tryz.prog W .any base t v)
  (hW:DataW.Whole enc Tryz.prog Tryz.f8.params.toList Rows.grantLeastSpec.vars false W args.toList ds gs before) (hL:laidMetH Tryz.prog Rows.grantLeastRow.laid W):
  Calls Tryz.prog 8 args W λ e W'=>∃v,e=.returned v∧Rows.grantLeastSpec.post enc Tryz.prog Tryz.f8 false true false false W args v W':=by
 have hW':=hW;obtain ⟨p,q,hA0,hV,rfl,hfz,hnd⟩:=hW;have hA:DataW.TrodAll enc Tryz.prog W 0 (λ _=>true) true Tryz.f8.params.toList args.toList ds p:=hA0;rw [Tryz.params8] at hA hval;obtain ⟨v0,v1,d0,d1,p0,p1,rfl,rfl,rfl,h0,h1⟩:=trodAll_two hA;obtain ⟨rfl,rfl⟩:=trodVars_none hV;have h0k:=h0;obtain ⟨l,hl,hr⟩:=agW (hval 0 22 v0 rfl rfl) h0;have h1k:=h1;obtain ⟨n,rfl,rfl,rfl,hwf⟩:=open_int Tryz.underlying5 (hval 1 5 v1 rfl rfl) h1;have hn:0≤n∧n≤255:=by
  simp only [Lit.wf,Bool.and_eq_true,decide_eq_true_eq] at hwf;exact hwf
 clear hA0;simp only [List.append_nil] at hW';have hlt:∀x∈p0,x.block<W.heap.size:=λ x hx=>by simpa using hW'.lt x (by simpa using hx)
 refine (amY (spec l n hn) hL rfl (λ j hj=>?_)).mono λ e W' ⟨he,hb⟩=>?_
 ·match j,hj with
  | 0,_=>exact hr
  | 1,_=>exact .int _ _
 subst he;refine ⟨_,rfl,[d0,.lit (.int .u8 n)],[],p0++[],[],p0++[],[],by simpa using hW',trodAll_mk1 (shut_bool Tryz.underlying4 _),?_,rfl,hb.frame _,λ h=>by cases h⟩;rw [Tryz.params8];exact trodAll_mk2 (Below.trod laidOut (by kernel_rfl) (of_decide_eq_true (by kernel_rfl)) h0k hb hlt) (shut_int Tryz.underlying5 hwf)
noncomputable def WZ (os:Os):World:=
 { World.holding Tryz.prog os ⟨#[],#[],[]⟩ with heap:=(World.holding Tryz.prog os ⟨#[],#[],[]⟩).heap.modify 0 λ
   | .cells _ t frozen=>.cells #[.int .i64 0,.int .i64 1] t frozen
   | o=>o }
theorem alK (os:Os):laidMet Tryz.prog Rows.grantLeastRow.laid ((WZ os).forCall (λ _ _=>0) ⟨#[],#[.slice none 0 0,.int .u8 0],[]⟩).memory:=
 laidMet_of_run' 8 (by kernel_rfl) (by kernel_rfl)
theorem reads (os:Os) {H:Type} (enc:TypeId×Value→H):∃places,DataW.whole enc Tryz.prog ((WZ os).forCall (λ _ _=>0) ⟨#[],#[.slice none 0 0,.int .u8 0],[]⟩).memory Tryz.f8.params.toList Rows.grantLeastSpec.vars false #[Value.slice none 0 0,.int .u8 0].toList 8=some ([.nil,.lit (.int .u8 0)],[],places):=
 ⟨[],by kernel_rfl⟩
theorem lifted (os:Os) (started:os.Started) (H:Type) (enc:TypeId×Value→H) (F:Stop.Interp):
  ReturnsInHanded {} Tryz.checked os 8 .any ((OpenSpec.ofChange Rows.grantLeastSpec).preRow enc Tryz.prog Tryz.f8 Rows.grantLeastRow.domain false Rows.grantLeastRow.laid) (((OpenSpec.ofChange Rows.grantLeastSpec).at F).post enc Tryz.prog Tryz.f8 false true false false):=by
 obtain ⟨places,hx⟩:=reads os enc;refine returnsInHanded_of_row (C:=Tryz.checked) (s:=OpenSpec.ofChange Rows.grantLeastSpec) own started (by kernel_rfl) Tryz.func8
  (witness_row_at (enc:=enc) (C:=Tryz.checked) false (WZ os) #[.slice none 0 0,.int .u8 0] rfl (by kernel_rfl) (by kernel_rfl) (by kernel_rfl)
    (OpenSpec.preRow_of_cond 8 hx (by kernel_rfl) (λ k hk=>by cases hk) (by kernel_rfl) (alK os))) ?_
 intro W base args ds gs before hval hW _ _ _ hL _ _;exact contract H enc W base args ds gs before hval hW hL
theorem said:Rows.GrantLeastSaid:=
 OpenClaim.holds_of_cond 8 Tryz.f8 rfl rfl rfl rfl rfl rfl rfl ⟨rfl,rfl,rfl,rfl,rfl⟩ rfl rfl rfl rfl rfl (by kernel_rfl) Tryz.func8 (by kernel_rfl)
  (of_decide_eq_true (by kernel_rfl)) (by unfold Func.isWrapper; first | (rw [if_pos (by decide +kernel)]; kernel_rfl) | (rw [if_neg (by decide +kernel)]; exact ⟨rfl,rfl⟩))
  (λ os started H enc _ F=>by rw [OpenClaim.pre_eq_preRow]; exact lifted os started H enc F)
theorem plain (f:FuncId) (fn:Func) (hf:Tryz.pinned.checked.prog.funcNamed "bringup/bringuplaw33.GrantLeast" = some f) (hfn:Tryz.pinned.checked.prog.funcs[f]? = some fn):
  false=Tryz.pinned.checked.prog.looks []∧∀(j:Nat) t,fn.params[j]? = some t→Tryz.pinned.checked.prog.wantsStandIn t=false:=by
 obtain rfl:f=8:=Option.some.inj ((show Tryz.prog.funcNamed "bringup/bringuplaw33.GrantLeast" = some 8 by kernel_rfl).symm.trans hf) |>.symm;obtain rfl:fn=Tryz.f8:=(Option.some.inj (Tryz.func8.symm.trans hfn)).symm;refine ⟨by kernel_rfl,λ j t ht=>?_⟩;rw [Tryz.params8] at ht;have ht:t∈#[22,5]:=Array.mem_of_getElem? ht;simp at ht;rcases ht with rfl | rfl
 ·exact (show Tryz.prog.wantsStandIn 22=false by kernel_rfl)
 ·exact (show Tryz.prog.wantsStandIn 5=false by kernel_rfl)
end Go.Proofs.YtccjmcmolnbiiaaGreatDoor.grantLeast
namespace Go.Proofs.YtccjmcmolnbiiaaGreatDoor
open Go.Ab
set_option maxRecDepth 100000
theorem grantLeast_card:Rows.GrantLeastCardSaid:=
 Claim7.holds_tied_plain_at .later [] _ _ _ _ grantLeast.said (λ _ h=>by cases h) (by kernel_rfl) (λ _ h=>by cases h) grantLeast_row_tie rfl ⟨rfl,rfl⟩ (by kernel_rfl) rfl grantLeast.plain (by kernel_rfl)
end Go.Proofs.YtccjmcmolnbiiaaGreatDoor

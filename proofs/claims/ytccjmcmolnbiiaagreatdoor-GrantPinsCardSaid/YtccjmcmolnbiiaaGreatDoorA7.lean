/- An abstract machine over the model's code, that it is sound; models of the functions and their proofs. -/
import Derived.Test.YtccjmcmolnbiiaaGreatDoorA6
import Derived.Test.YtccjmcmolnbiiaaGreatDoorProg
import Derived.Test.YtccjmcmolnbiiaaGreatDoorA4
import Derived.RangeFuncBox
import Derived.RangeFuncLeaves
import Derived.Shelf.Abstract
import Derived.WalkKit
import Derived.OwnWalkIn
import Derived.TacticsInMore
import Derived.LoopNIn
import Derived.LoopIn
import Derived.Test.YtccjmcmolnbiiaaGreatDoorCards
import Derived.Test.YtccjmcmolnbiiaaGreatDoorTie
import Derived.ProofKit
import Derived.OpenShut
import Derived.Carry
import Derived.LaidMore
import Derived.Deep.DeepHandedRow
set_option linter.unusedVariables false
set_option linter.unusedSimpArgs false
namespace Go.Proofs.YtccjmcmolnbiiaaGreatDoor
open Go.Ab
set_option maxRecDepth 100000
theorem JV {l:List Int} {n:Nat} {x:Int} (hn:n≤l.length):(l.take n).contains x=true↔∃k:Nat,k<n∧l.getD k 0=x:=by
 rw [List.contains_iff_mem,List.mem_take_iff_getElem];constructor
 ·rintro ⟨i,hi,e⟩;exact ⟨i,om,by rw [List.getD_eq_getElem?_getD,List.getElem?_eq_getElem om]; exact e⟩
 ·rintro ⟨k,hk,e⟩;rw [List.getD_eq_getElem?_getD,List.getElem?_eq_getElem om] at e;exact ⟨k,om,e⟩
def RsE (l:List dN) (i:Nat):Int→Prop:=
 Fu (∃j:Nat,(j:Int)<((l.getD i bV).dK).length∧¬(0≤((l.getD i bV).dK).getD j 0∧((l.getD i bV).dK).getD j 0<(i:Int))) 2<|
 Fu (∃j:Nat,1≤j∧(j:Int)<((l.getD i bV).dK).length∧((l.getD i bV).dK).getD j 0≤((l.getD i bV).dK).getD (j - 1) 0) 12<|
 fun r=>r=0
def U3 (l:List dN):Int→Prop:=Fu (32<(l.length:Int)) 3<|Z4 l.length (RsE l)
theorem U3.fun {l:List dN}:zI (U3 l):=.chk (.fst fun _=>.chk (.chk .zero))
theorem oZ {p:Prop} {c:Int} {A:Int→Prop} (hc:c≠0) (h:Fu p c A 0):¬p∧A 0:=by
 rcases h with ⟨_,h⟩ | h
 ·exact absurd h.symm hc
 ·exact h
theorem XY {n:Nat} {E:Nat→Int→Prop} (h:Z4 n E 0):∀k,k<n→E k 0:=by
 rcases h with ⟨_,_,_,_,h⟩ | h
 ·exact absurd rfl h
 ·exact h.1
theorem U3.ok {l:List dN} (h:U3 l 0):UY l:=by
 obtain ⟨h1,h2⟩:=oZ (by decide) h;refine ⟨om,fun i hi=>fU 0 fun j hj=>?_⟩;obtain ⟨h3,_⟩:=oZ (by decide) (XY h2 i hi);by_cases q:0≤((l.getD i bV).dK).getD j 0∧((l.getD i bV).dK).getD j 0<(i:Int)
 ·exact q
 ·exact absurd ⟨j,om,q⟩ h3
def XZ (l:List dN) (s:List Bool):Prop:=(s.length:Int)=l.length∧∀i:Nat,(i:Int)<l.length→∀j:Nat,(j:Int)<((l.getD i bV).dK).length→s.getD i false=true→s.getD (((l.getD i bV).dK).getD j 0).toNat false=true
def U4 (l:List dx):Int→Prop:=Fu (16<(l.length:Int)) 3<|Fu (∃i:Nat,(i:Int)<l.length∧¬(-1≤(l.getD i dR).aQ∧(l.getD i dR).aQ<(i:Int))) 2<|fun r=>r=0
theorem U4.fun {l:List dx}:zI (U4 l):=.chk (.chk .zero)
theorem U4.ok {l:List dx} (h:U4 l 0):TP l:=by
 obtain ⟨h1,h2⟩:=oZ (by decide) h;obtain ⟨h3,_⟩:=oZ (by decide) h2;refine ⟨om,fun i hi=>?_⟩;by_cases q : -1≤(l.getD i dR).aQ∧(l.getD i dR).aQ<(i:Int)
 ·exact q
 ·exact absurd ⟨i,om,q⟩ h3
def DgP (l:List dx) (s:List Bool) (i:Nat):Prop:=((l.getD i dR).fI=true→s.getD i false=true)∧(s.getD i false=true→0≤(l.getD i dR).aQ→s.getD (l.getD i dR).aQ.toNat false=true)
def RgP (l:List dx) (s:List Bool):Prop:=(s.length:Int)=l.length∧∀i:Nat,(i:Int)<l.length→DgP l s i
def V8 (l:List aL) (m:List Int):Prop:=∀i:Nat,(i:Int)<m.length→(0≤m.getD i 0∧m.getD i 0<l.length)∧∀k:Nat,k<i→m.getD k 0≠m.getD i 0
def X0 (b:bf) (l:List aL) (g:bM):Prop:=((g.dF.length:Int)=b.bQ.length∧(g.eD.On.length:Int)=b.bI.length∧(g.eD.dQ.length:Int)=b.bI.length∧(g.dV.length:Int)=b.aY.length∧(g.eG.length:Int)=b.dh.length)∧
 (∀i:Nat,(i:Int)<g.dF.length→0≤g.dF.getD i 0∧g.dF.getD i 0<(b.bQ.getD i aI).aK.length)∧∀i:Nat,(i:Int)<g.bX.length → -1≤(g.bX.getD i bA).fC∧(g.bX.getD i bA).fC<l.length
theorem uN {p_:aX} (h1:∀g∈p_.av,g.bG.length≤2000000∧g.ak.length≤2000000):W (lH p_) (fun r=>oM p_ r):=by
 unfold lH;refine wi (fun c1=>?_) (fun c1=>?_)
 ·refine au ?_;exact dM c1
 ·refine wi (fun c2=>?_) (fun c2=>?_)
  ·refine au ?_;exact aJ om (dM c2)
  ·refine bq (fun (g1:(Int×(lu→Option Int)))=>0≤g1.1∧(∀j:Nat,(j:Int)<g1.1→U2 p_ j 0)∧(∀s:ByteArray,wZ g1.2 (.s s)≠0↔∃k:Nat,(k:Int)<g1.1∧(p_.av.getD k ay).qK=s)) (fun (g1:(Int×(lu→Option Int)))=>(p_.av.length - g1.1).toNat) ?_ ?_
   ·intro aj g1 dH bL;obtain ⟨cK,bC,bJ⟩:=dH;unfold Bp;refine wi (fun c3=>?_) (fun c3=>?_)
    ·have hgl:=h1 _ (getD_in (i:=g1.1.toNat) ay om);refine wn ?_;refine aF (D6) fun v5 hv5=>?_;refine bF (fun c4=>?_) (fun c4=>?_)
     ·have mW:=c4;have c4:=nr c4;refine au ?_;(exact aJ om (aJ om (BM (i:=g1.1.toNat) om (fun k hk=>bC k om) (dM (fun h=>by simp [hv5.2 h] at mW)) (by decide))))
     ·have mW:=c4;have c4:=nr c4;refine wi (fun c5=>?_) (fun c5=>?_)
      ·refine au ?_;(exact aJ om (aJ om (BM (i:=g1.1.toNat) om (fun k hk=>bC k om) (aJ (fun h=>h (hv5.1 (by simpa using mW))) (dM (by obtain ⟨k,h1,h2⟩:=(bJ _).1 c5; exact ⟨k,om,by rw [h2]⟩))) (by decide))))
      ·refine aF (Rf hgl.1 hgl.2) fun v6 hv6=>?_;refine bF (fun c6=>?_) (fun c6=>?_)
       ·have PS:=c6;have c6:=nr c6;refine au ?_;(exact aJ om (aJ om (BM (i:=g1.1.toNat) om (fun k hk=>bC k om) (aJ (fun h=>h (hv5.1 (by simpa using mW))) (aJ (fun ⟨k,h1,h2⟩=>(bJ _).2 ⟨k,om,P6 h2⟩ c5) hv6)) (c6))))
       ·have PS:=c6;have c6:=nr c6;refine wn ?_;refine bL _ ?_ ?_
        ·(refine ⟨ob,dn bC cK (aJ (fun h=>h (hv5.1 (by simpa using mW))) (aJ (fun ⟨k,h1,h2⟩=>(bJ _).2 ⟨k,om,P6 h2⟩ c5) (by have e:v6=0:=(by simpa using PS); rw [e] at hv6; exact hv6))),fun s=>?_⟩; dsimp only; rw [tY]; by_cases q:(.s s:lu)=.s (p_.av.getD g1.1.toNat ay).qK; (rw [if_pos q]; constructor; (intro _; exact ⟨g1.1.toNat,om,(lu.s.inj q).symm⟩); (intro _; decide)); (rw [if_neg q,bJ]; constructor; (rintro ⟨k,h1,h2⟩; exact ⟨k,om,h2⟩); (rintro ⟨k,h1,h2⟩; refine ⟨k,?_,h2⟩; by_cases e:(k:Int)<g1.1; (exact e); exfalso; apply q; rw [← h2,show k=g1.1.toNat by omega])))
        ·exact ob
    ·refine au ?_;(exact aJ om (aJ om (IU (fun k hk=>bC k om))))
   ·(refine ⟨ob,fun j hj=>by dsimp only at hj; omega,fun s=>?_⟩; constructor; (intro h; exact absurd rfl h); (rintro ⟨k,h1,_⟩; dsimp only at h1; omega))
theorem zq {p_:aX} (h1:∀g∈p_.av,g.bG.length≤2000000∧g.ak.length≤2000000):W (kr p_) (fun r=>oM p_ r):=by
 unfold kr;refine wi (fun c1=>?_) (fun c1=>?_)
 ·refine au ?_;exact dM c1
 ·refine wi (fun c2=>?_) (fun c2=>?_)
  ·refine au ?_;exact aJ om (dM c2)
  ·refine bq (fun (g1:Int)=>0≤g1∧(∀j:Nat,(j:Int)<g1→U2 p_ j 0)) (fun (g1:Int)=>(p_.av.length - g1).toNat) ?_ ?_
   ·intro aj g1 dH bL;obtain ⟨cK,bC⟩:=dH;unfold yV;refine wi (fun c3=>?_) (fun c3=>?_)
    ·refine aF (P7 om om om h1) fun v3 hv3=>?_;refine bF (fun c4=>?_) (fun c4=>?_)
     ·have mW:=c4;have c4:=nr c4;refine au ?_;(exact aJ om (aJ om (BM (i:=g1.toNat) om (fun k hk=>bC k om) (hv3) (c4))))
     ·have mW:=c4;have c4:=nr c4;refine wn ?_;refine bL _ ?_ ?_
      ·(refine ⟨ob,dn bC cK (by have e:v3=0:=(by simpa using mW); rw [e] at hv3; exact hv3)⟩)
      ·exact ob
    ·refine au ?_;(exact aJ om (aJ om (IU (fun k hk=>bC k om))))
   ·(refine ⟨ob,fun j hj=>by (try dsimp only at hj); omega⟩)
theorem HY {l_:(List dN)} (h1:∀g∈l_,g.dK.length≤2000000):W (kW l_) (fun r=>U3 l_ r):=by
 unfold kW;refine wi (fun c1=>?_) (fun c1=>?_)
 ·refine au ?_;exact dM c1
 ·refine bq (fun (g1:Int)=>0≤g1∧(∀j:Nat,(j:Int)<g1→RsE l_ j 0)) (fun (g1:Int)=>(l_.length - g1).toNat) ?_ ?_
  ·intro aj g1 dH bL;obtain ⟨cK,bC⟩:=dH;unfold yB;refine wi (fun c2=>?_) (fun c2=>?_)
   ·have hgl:=h1 _ (getD_in (i:=g1.toNat) bV om);refine wn ?_;refine bq (fun (g6:Int)=>0≤g6∧(∀j:Nat,(j:Int)<g6→0≤((l_.getD g1.toNat bV).dK).getD j 0∧((l_.getD g1.toNat bV).dK).getD j 0<((g1.toNat:Nat):Int))) (fun (g6:Int)=>(((l_.getD g1.toNat bV).dK).length - g6).toNat) ?_ ?_
    ·intro gU g6 zH vY;obtain ⟨wU,lg⟩:=zH;unfold yA;refine wi (fun c3=>?_) (fun c3=>?_)
     ·refine wn ?_;refine wi (fun c4=>?_) (fun c4=>?_)
      ·refine au ?_;exact aJ om (BM (i:=g1.toNat) om (fun k hk=>bC k om) (dM ⟨g6.toNat,om,om⟩) (by decide))
      ·refine wn ?_;refine vY _ ?_ ?_
       ·(refine ⟨ob,dn lg wU om⟩)
       ·exact ob
     ·refine bq (fun (g7:Int)=>1≤g7∧(∀j:Nat,(j:Int)<g7→1≤j→((l_.getD g1.toNat bV).dK).getD (j - 1) 0<((l_.getD g1.toNat bV).dK).getD j 0)) (fun (g7:Int)=>(((l_.getD g1.toNat bV).dK).length - g7).toNat) ?_ ?_
      ·intro jU g7 MC Jc;obtain ⟨P8,wW⟩:=MC;unfold vG;refine wi (fun c5=>?_) (fun c5=>?_)
       ·refine wm ?_;refine wn ?_;refine wi (fun c6=>?_) (fun c6=>?_)
        ·refine au ?_;exact aJ om (BM (i:=g1.toNat) om (fun k hk=>bC k om) (aJ (fF lg om) (dM ⟨g7.toNat,om,om,by rw [show g7.toNat - 1=(g7 - 1).toNat by omega]; omega⟩)) (by decide))
        ·refine wn ?_;refine Jc _ ?_ ?_
         ·(refine ⟨ob,fun j h1 h2=>?_⟩; by_cases q:(j:Int)<g7; (exact wW j q h2); (have e:j=g7.toNat:=by omega); subst e; rw [show g7.toNat - 1=(g7 - 1).toNat by omega]; omega)
         ·exact ob
       ·refine wn ?_;refine bL _ ?_ ?_
        ·(refine ⟨ob,dn bC cK (aJ (fF lg om) (aJ (BN wW om) rfl))⟩)
        ·exact ob
      ·(refine ⟨ob,fun j h1 h2=>by omega⟩)
    ·(refine ⟨ob,fun j hj=>by (try dsimp only at hj); omega⟩)
   ·refine au ?_;exact aJ om (IU fun k hk=>bC k om)
  ·(refine ⟨ob,fun j hj=>by (try dsimp only at hj); omega⟩)
theorem HZ {l_:(List dN)} (h1:∀g∈l_,g.dK.length≤2000000):W (kY l_) (fun r=>U3 l_ r):=by
 unfold kY;refine wi (fun c1=>?_) (fun c1=>?_)
 ·refine au ?_;exact dM c1
 ·refine bq (fun (g1:Int)=>0≤g1∧(∀j:Nat,(j:Int)<g1→RsE l_ j 0)) (fun (g1:Int)=>(l_.length - g1).toNat) ?_ ?_
  ·intro aj g1 dH bL;obtain ⟨cK,bC⟩:=dH;unfold yY;refine wi (fun c2=>?_) (fun c2=>?_)
   ·have hgl:=h1 _ (getD_in (i:=g1.toNat) bV om);refine bq (fun (g6:Int)=>0≤g6∧(∀j:Nat,(j:Int)<g6→0≤((l_.getD g1.toNat bV).dK).getD j 0∧((l_.getD g1.toNat bV).dK).getD j 0<((g1.toNat:Nat):Int))) (fun (g6:Int)=>(((l_.getD g1.toNat bV).dK).length - g6).toNat) ?_ ?_
    ·intro gU g6 zH vY;obtain ⟨wU,lg⟩:=zH;unfold yX;refine wn ?_;refine wi (fun c3=>?_) (fun c3=>?_)
     ·refine wm ?_;refine wm ?_;refine wi (fun c4=>?_) (fun c4=>?_)
      ·refine au ?_;exact aJ om (BM (i:=g1.toNat) om (fun k hk=>bC k om) (dM ⟨g6.toNat,om,om⟩) (by decide))
      ·refine wn ?_;refine vY _ ?_ ?_
       ·(refine ⟨ob,dn lg wU om⟩)
       ·exact ob
     ·refine bq (fun (g7:Int)=>1≤g7∧(∀j:Nat,(j:Int)<g7→1≤j→((l_.getD g1.toNat bV).dK).getD (j - 1) 0<((l_.getD g1.toNat bV).dK).getD j 0)) (fun (g7:Int)=>(((l_.getD g1.toNat bV).dK).length - g7).toNat) ?_ ?_
      ·intro jU g7 MC Jc;obtain ⟨P8,wW⟩:=MC;unfold vT;refine wn ?_;refine wi (fun c5=>?_) (fun c5=>?_)
       ·refine wm ?_;refine wm ?_;refine wn ?_;refine wi (fun c6=>?_) (fun c6=>?_)
        ·refine au ?_;exact aJ om (BM (i:=g1.toNat) om (fun k hk=>bC k om) (aJ (fF lg om) (dM ⟨g7.toNat,om,om,by rw [show g7.toNat - 1=(g7 - 1).toNat by omega]; omega⟩)) (by decide))
        ·refine wn ?_;refine Jc _ ?_ ?_
         ·(refine ⟨ob,fun j h1 h2=>?_⟩; by_cases q:(j:Int)<g7; (exact wW j q h2); (have e:j=g7.toNat:=by omega); subst e; rw [show g7.toNat - 1=(g7 - 1).toNat by omega]; omega)
         ·exact ob
       ·refine wn ?_;refine bL _ ?_ ?_
        ·(refine ⟨ob,dn bC cK (aJ (fF lg om) (aJ (BN wW om) rfl))⟩)
        ·exact ob
      ·(refine ⟨ob,fun j h1 h2=>by omega⟩)
    ·(refine ⟨ob,fun j hj=>by (try dsimp only at hj); omega⟩)
   ·refine au ?_;exact aJ om (IU fun k hk=>bC k om)
  ·(refine ⟨ob,fun j hj=>by (try dsimp only at hj); omega⟩)
theorem Oa {l_:(List dN)} {dA:(List Bool)} (h1:UY l_) (h2:∀g∈l_,g.dK.length≤2000000):W (xK l_ dA) (fun r=>r=true↔XZ l_ dA):=by
 obtain ⟨p1,p2⟩:=h1;unfold xK;refine wi (fun c1=>?_) (fun c1=>?_)
 ·refine au ?_;(constructor; (intro e; cases e); (rintro ⟨a,_⟩; omega))
 ·refine bq (fun (g1:Int)=>0≤g1∧(∀i:Nat,(i:Int)<g1→∀j:Nat,(j:Int)<((l_.getD i bV).dK).length→dA.getD i false=true→dA.getD (((l_.getD i bV).dK).getD j 0).toNat false=true)) (fun (g1:Int)=>(l_.length - g1).toNat) ?_ ?_
  ·intro aj g1 dH bL;obtain ⟨cK,bC⟩:=dH;unfold ED;refine wi (fun c2=>?_) (fun c2=>?_)
   ·have hgl:=h2 _ (getD_in (i:=g1.toNat) bV om);refine wn ?_;refine bq (fun (g4:Int)=>0≤g4∧(∀j:Nat,(j:Int)<g4→dA.getD g1.toNat false=true→dA.getD (((l_.getD g1.toNat bV).dK).getD j 0).toNat false=true)) (fun (g4:Int)=>(((l_.getD g1.toNat bV).dK).length - g4).toNat) ?_ ?_
    ·intro gL g4 zn vB;obtain ⟨wV,jk⟩:=zn;unfold EC;refine wi (fun c3=>?_) (fun c3=>?_)
     ·have hx:=p2 g1.toNat om _ (getD_in (i:=g4.toNat) 0 om);refine wm ?_;refine wn ?_;refine bF (fun c4=>?_) (fun c4=>?_)
      ·have mW:=c4;have c4:=nr c4;refine au ?_;(constructor; (intro e; cases e); (rintro ⟨_,a⟩; simp only [Bool.and_eq_true,Bool.not_eq_true'] at mW; have:=a g1.toNat om g4.toNat om mW.1; rw [this] at mW; cases mW.2))
      ·have mW:=c4;have c4:=nr c4;refine wn ?_;refine vB _ ?_ ?_
       ·(refine ⟨ob,fun j h1 hr=>?_⟩; by_cases q:(j:Int)<g4; (exact jk j q hr); (have e:j=g4.toNat:=by omega); subst e; simp only [hr,Bool.true_and,Bool.not_eq_false'] at mW; exact mW)
       ·exact ob
     ·refine wn ?_;refine bL _ ?_ ?_
      ·(refine ⟨ob,fun i hi j hj hr=>?_⟩; by_cases q:(i:Int)<g1; (exact bC i q j hj hr); (have e:i=g1.toNat:=by omega); subst e; exact jk j om hr)
      ·exact ob
    ·(refine ⟨ob,fun j h1 h2=>by omega⟩)
   ·refine au ?_;(constructor; (intro _; exact ⟨om,fun i hi=>bC i om⟩); (intro _; rfl))
  ·(refine ⟨ob,fun j h1 h2=>by omega⟩)
theorem Ob {l_:(List dN)} {dA:(List Bool)} (h1:∀g∈l_,g.dK.length≤2000000):W (xL l_ dA) (fun r=>(r=true↔U3 l_ 0∧XZ l_ dA)):=by
 unfold xL;refine aF (HY ob) fun v1 hv1=>?_;refine aF (qj fun hc=>Oa (by have e:v1=0:=(by simpa using hc); rw [e] at hv1; exact hv1.ok) h1) fun v2 hv2=>?_;refine au ?_;(constructor; (intro hr; simp only [Bool.and_eq_true] at hr; have e:v1=0:=(by simpa using hr.1); exact ⟨e ▸ hv1,(hv2 hr.1).1 hr.2⟩); (rintro ⟨a,b⟩; have e:=U3.fun _ _ hv1 a; subst e; have:=(hv2 rfl).2 b; rw [this]; rfl))
theorem Oc {l_:(List dN)} {dA:(List Bool)} (h1:∀g∈l_,g.dK.length≤2000000):W (xU l_ dA) (fun r=>(r=true↔U3 l_ 0∧XZ l_ dA)):=by
 unfold xU;refine aF (HZ ob) fun v1 hv1=>?_;refine wi (fun c1=>?_) (fun c1=>?_)
 ·refine au ?_;(constructor; (intro e; cases e); (rintro ⟨a,b,_⟩; have e:=U3.fun _ _ hv1 a; omega))
 ·have hok:U3 l_ 0:=(by have e:v1=0:=om; rw [e] at hv1; exact hv1);obtain ⟨p1,p2⟩:=hok.ok;refine bq (fun (g1:Int)=>0≤g1∧(∀i:Nat,(i:Int)<g1→∀j:Nat,(j:Int)<((l_.getD i bV).dK).length→dA.getD i false=true→dA.getD (((l_.getD i bV).dK).getD j 0).toNat false=true)) (fun (g1:Int)=>(l_.length - g1).toNat) ?_ ?_
  ·intro aj g1 dH bL;obtain ⟨cK,bC⟩:=dH;unfold Fa;refine wi (fun c2=>?_) (fun c2=>?_)
   ·have hgl:=h1 _ (getD_in (i:=g1.toNat) bV om);refine bq (fun (g4:Int)=>0≤g4∧(∀j:Nat,(j:Int)<g4→dA.getD g1.toNat false=true→dA.getD (((l_.getD g1.toNat bV).dK).getD j 0).toNat false=true)) (fun (g4:Int)=>(((l_.getD g1.toNat bV).dK).length - g4).toNat) ?_ ?_
    ·intro gL g4 zn vB;obtain ⟨wV,jk⟩:=zn;unfold E9;refine wn ?_;refine wi (fun c3=>?_) (fun c3=>?_)
     ·have hx:=p2 g1.toNat om _ (getD_in (i:=g4.toNat) 0 om);refine wm ?_;refine wm ?_;refine bF (fun c4=>?_) (fun c4=>?_)
      ·have mW:=c4;have c4:=nr c4;refine au ?_;(constructor; (intro e; cases e); (rintro ⟨_,_,a⟩; simp only [Bool.and_eq_true,Bool.not_eq_true'] at mW; have:=a g1.toNat om g4.toNat om mW.1; rw [this] at mW; cases mW.2))
      ·have mW:=c4;have c4:=nr c4;refine wn ?_;refine vB _ ?_ ?_
       ·(refine ⟨ob,fun j h1 hr=>?_⟩; by_cases q:(j:Int)<g4; (exact jk j q hr); (have e:j=g4.toNat:=by omega); subst e; simp only [hr,Bool.true_and,Bool.not_eq_false'] at mW; exact mW)
       ·exact ob
     ·refine wn ?_;refine bL _ ?_ ?_
      ·(refine ⟨ob,fun i hi j hj hr=>?_⟩; by_cases q:(i:Int)<g1; (exact bC i q j hj hr); (have e:i=g1.toNat:=by omega); subst e; exact jk j om hr)
      ·exact ob
    ·(refine ⟨ob,fun j h1 h2=>by omega⟩)
   ·refine au ?_;(constructor; (intro _; exact ⟨hok,om,fun i hi=>bC i om⟩); (intro _; rfl))
  ·(refine ⟨ob,fun j h1 h2=>by omega⟩)
theorem Fv {l_:(List dx)}:W (j4 l_) (fun r=>U4 l_ r):=by
 unfold j4;refine wi (fun c1=>?_) (fun c1=>?_)
 ·refine au ?_;exact dM c1
 ·refine bq (fun (g1:Int)=>0≤g1∧(∀j:Nat,(j:Int)<g1 → -1≤(l_.getD j dR).aQ∧(l_.getD j dR).aQ<(j:Int))) (fun (g1:Int)=>(l_.length - g1).toNat) ?_ ?_
  ·intro aj g1 dH bL;obtain ⟨cK,bC⟩:=dH;unfold vH;refine wi (fun c2=>?_) (fun c2=>?_)
   ·refine wn ?_;refine wi (fun c3=>?_) (fun c3=>?_)
    ·refine au ?_;exact aJ om (dM ⟨g1.toNat,om,om⟩)
    ·refine wn ?_;refine bL _ ?_ ?_
     ·(refine ⟨ob,dn bC cK om⟩)
     ·exact ob
   ·refine au ?_;exact aJ om (aJ (fF bC om) rfl)
  ·(refine ⟨ob,fun j hj=>by (try dsimp only at hj); omega⟩)
theorem H6 {l_:(List dx)}:W (kZ l_) (fun r=>U4 l_ r):=by
 unfold kZ;refine wi (fun c1=>?_) (fun c1=>?_)
 ·refine au ?_;exact dM c1
 ·refine bq (fun (g1:Int)=>0≤g1∧(∀j:Nat,(j:Int)<g1 → -1≤(l_.getD j dR).aQ∧(l_.getD j dR).aQ<(j:Int))) (fun (g1:Int)=>(l_.length - g1).toNat) ?_ ?_
  ·intro aj g1 dH bL;obtain ⟨cK,bC⟩:=dH;unfold yZ;refine wi (fun c2=>?_) (fun c2=>?_)
   ·refine wm ?_;refine wi (fun c3=>?_) (fun c3=>?_)
    ·refine au ?_;exact aJ om (dM ⟨g1.toNat,om,om⟩)
    ·refine wn ?_;refine bL _ ?_ ?_
     ·(refine ⟨ob,dn bC cK om⟩)
     ·exact ob
   ·refine au ?_;exact aJ om (aJ (fF bC om) rfl)
  ·(refine ⟨ob,fun j hj=>by (try dsimp only at hj); omega⟩)
theorem Od {l_:(List dx)} {mP:(List Bool)} (h1:TP l_):W (xM l_ mP) (fun r=>r=true↔RgP l_ mP):=by
 obtain ⟨p1,p2⟩:=h1;unfold xM;refine wi (fun c1=>?_) (fun c1=>?_)
 ·refine au ?_;(constructor; (intro e; cases e); (rintro ⟨a,_⟩; omega))
 ·refine bq (fun (g1:Int)=>0≤g1∧(∀j:Nat,(j:Int)<g1→DgP l_ mP j)) (fun (g1:Int)=>(l_.length - g1).toNat) ?_ ?_
  ·intro aj g1 dH bL;obtain ⟨cK,bC⟩:=dH;unfold EF;refine wi (fun c2=>?_) (fun c2=>?_)
   ·have hx:=p2 g1.toNat om;refine wm ?_;refine wm ?_;refine bF (fun c3=>?_) (fun c3=>?_)
    ·have iB:=c3;have c3:=nr c3;refine au ?_;(constructor; (intro e; cases e); (rintro ⟨_,this⟩; have hd:=this g1.toNat om; obtain ⟨d1,d2⟩:=hd; revert d1 d2; cases hA:(l_.getD g1.toNat dR).fI<;>cases hB:mP.getD g1.toNat false<;>simp_all))
    ·have iB:=c3;have c3:=nr c3;refine wn ?_;refine bL _ ?_ ?_
     ·(refine ⟨ob,dn bC cK ?_⟩; unfold DgP; revert iB; cases hA:(l_.getD g1.toNat dR).fI<;>cases hB:mP.getD g1.toNat false<;>simp)
     ·exact ob
   ·refine au ?_;(constructor; (intro _; exact ⟨om,fun i hi=>bC i om⟩); (intro _; rfl))
  ·(refine ⟨ob,fun j hj=>by (try dsimp only at hj); omega⟩)
theorem Oe {l_:(List dx)} {mP:(List Bool)}:W (xO l_ mP) (fun r=>(r=true↔U4 l_ 0∧RgP l_ mP)):=by
 unfold xO;refine aF (Fv) fun v1 hv1=>?_;refine aF (qj fun hc=>Od (by have e:v1=0:=(by simpa using hc); rw [e] at hv1; exact hv1.ok)) fun v2 hv2=>?_;refine au ?_;(constructor; (intro hr; simp only [Bool.and_eq_true] at hr; have e:v1=0:=(by simpa using hr.1); exact ⟨e ▸ hv1,(hv2 hr.1).1 hr.2⟩); (rintro ⟨a,b⟩; have e:=U4.fun _ _ hv1 a; subst e; have:=(hv2 rfl).2 b; rw [this]; rfl))
theorem P9 {l_:(List dx)} {mP:(List Bool)}:W (Ay l_ mP) (fun r=>(r=true↔U4 l_ 0∧RgP l_ mP)):=by
 unfold Ay;refine aF (H6) fun v1 hv1=>?_;refine wi (fun c1=>?_) (fun c1=>?_)
 ·refine au ?_;(constructor; (intro e; cases e); (rintro ⟨a,b,_⟩; have e:=U4.fun _ _ hv1 a; omega))
 ·have hok:U4 l_ 0:=(by have e:v1=0:=om; rw [e] at hv1; exact hv1);obtain ⟨p1,p2⟩:=hok.ok;refine bq (fun (g1:Int)=>0≤g1∧(∀j:Nat,(j:Int)<g1→DgP l_ mP j)) (fun (g1:Int)=>(l_.length - g1).toNat) ?_ ?_
  ·intro aj g1 dH bL;obtain ⟨cK,bC⟩:=dH;unfold GX;refine wi (fun c2=>?_) (fun c2=>?_)
   ·have hx:=p2 g1.toNat om;refine wm ?_;refine wm ?_;refine wm ?_;refine bF (fun c3=>?_) (fun c3=>?_)
    ·have iB:=c3;have c3:=nr c3;refine au ?_;(constructor; (intro e; cases e); (rintro ⟨_,_,this⟩; have hd:=this g1.toNat om; obtain ⟨d1,d2⟩:=hd; revert d1 d2; cases hA:(l_.getD g1.toNat dR).fI<;>cases hB:mP.getD g1.toNat false<;>simp_all))
    ·have iB:=c3;have c3:=nr c3;refine wn ?_;refine bL _ ?_ ?_
     ·(refine ⟨ob,dn bC cK ?_⟩; unfold DgP; revert iB; cases hA:(l_.getD g1.toNat dR).fI<;>cases hB:mP.getD g1.toNat false<;>simp)
     ·exact ob
   ·refine au ?_;(constructor; (intro _; exact ⟨hok,om,fun i hi=>bC i om⟩); (intro _; rfl))
  ·(refine ⟨ob,fun j hj=>by (try dsimp only at hj); omega⟩)
theorem Km {l_:(List aL)} {ah:(List Int)} (h1:l_.length≤2000000) (h2:ah.length≤2000000):W (pz l_ ah) (fun r=>r=true↔V8 l_ ah):=by
 unfold pz;refine bq (fun (g1:Int)=>0≤g1∧(∀i:Nat,(i:Int)<g1→(0≤ah.getD i 0∧ah.getD i 0<l_.length)∧∀k:Nat,k<i→ah.getD k 0≠ah.getD i 0)) (fun (g1:Int)=>(ah.length - g1).toNat) ?_ ?_
 ·intro aj g1 dH bL;obtain ⟨cK,bC⟩:=dH;unfold yL;refine wi (fun c1=>?_) (fun c1=>?_)
  ·refine wm ?_;refine aF (iq) fun v5 hv5=>?_;subst v5;refine wn ?_;refine aF (fP fun hc=>iR ob) fun v6 hv6=>?_;subst v6;refine bF (fun c2=>?_) (fun c2=>?_)
   ·have iL:=c2;have c2:=nr c2;refine au ?_;(constructor; (intro e; cases e); (intro a; obtain ⟨b,d⟩:=a g1.toNat om; simp only [Bool.or_eq_true] at iL; rcases iL with c | c; (simp only [Bool.not_eq_true',Bool.and_eq_false_iff,decide_eq_false_iff_not] at c; omega); (obtain ⟨k,h3,h4⟩:=(JV om).1 c; exact absurd h4 (d k h3))))
   ·have iL:=c2;have c2:=nr c2;refine wn ?_;refine bL _ ?_ ?_
    ·(refine ⟨ob,dn bC cK ?_⟩; simp only [Bool.or_eq_false_iff] at iL; refine ⟨(by have:=iL.1; simp only [Bool.not_eq_false',Bool.and_eq_true,decide_eq_true_eq] at this; omega),fun k hk e=>?_⟩; rw [(JV om).2 ⟨k,hk,e⟩] at iL; cases iL.2)
    ·exact ob
  ·refine au ?_;(constructor; (intro _ i hi; exact bC i om); (intro _; rfl))
 ·(refine ⟨ob,fun j hj=>by (try dsimp only at hj); omega⟩)
theorem nW {l_:(List aL)} {ah:(List Int)} (h1:l_.length≤2000000) (h2:ah.length≤2000000):W (kG l_ ah) (fun r=>r=true↔V8 l_ ah):=by
 unfold kG;refine bq (fun (g1:Int)=>0≤g1∧(∀i:Nat,(i:Int)<g1→(0≤ah.getD i 0∧ah.getD i 0<l_.length)∧∀k:Nat,k<i→ah.getD k 0≠ah.getD i 0)) (fun (g1:Int)=>(ah.length - g1).toNat) ?_ ?_
 ·intro aj g1 dH bL;obtain ⟨cK,bC⟩:=dH;unfold Cw;refine wi (fun c1=>?_) (fun c1=>?_)
  ·refine wm ?_;refine wi (fun c2=>?_) (fun c2=>?_)
   ·refine au ?_;(constructor; (intro e; cases e); (intro a; obtain ⟨b,d⟩:=a g1.toNat om; omega))
   ·refine bq (fun (g4:Int)=>0≤g4∧(∀k:Nat,(k:Int)<g4→ah.getD k 0≠ah.getD g1.toNat 0)) (fun (g4:Int)=>(g1 - g4).toNat) ?_ ?_
    ·intro gL g4 zn vB;obtain ⟨wV,jk⟩:=zn;unfold Cv;refine wi (fun c3=>?_) (fun c3=>?_)
     ·refine wm ?_;refine wi (fun c4=>?_) (fun c4=>?_)
      ·refine au ?_;(constructor; (intro e; cases e); (intro a; obtain ⟨b,d⟩:=a g1.toNat om; exact absurd c4 (d g4.toNat om)))
      ·refine wn ?_;refine vB _ ?_ ?_
       ·(refine ⟨ob,dn jk wV c4⟩)
       ·exact ob
     ·refine wn ?_;refine bL _ ?_ ?_
      ·(refine ⟨ob,dn bC cK ⟨om,fun k hk=>jk k om⟩⟩)
      ·exact ob
    ·(refine ⟨ob,fun j hj=>by (try dsimp only at hj); omega⟩)
  ·refine au ?_;(constructor; (intro _ i hi; exact bC i om); (intro _; rfl))
 ·(refine ⟨ob,fun j hj=>by (try dsimp only at hj); omega⟩)
def Y5 (b:bf) (n:aL) (dv:Int):Int→Prop:=
 Fu (32<(n.bP.length:Int)∨32<(n.d9.length:Int)∨10<(n.ak.length:Int)) 3<|
 Fu (∃j:Nat,(j:Int)<n.bP.length∧¬TQ b.bQ.length (n.bP.getD j cB)) 2<|
 Fu (∃j:Nat,(j:Int)<n.d9.length∧¬XE b.bI.length (n.d9.getD j dD)) 2<|
 Fu (∃j:Nat,(j:Int)<n.ak.length∧¬N9 (n.ak.getD j ByteArray.empty)) 1<|
 Fu (∃j:Nat,(j:Int)<n.aY.length∧¬(0≤n.aY.getD j 0∧n.aY.getD j 0<b.aY.length)) 2<|
 Fu (¬(-1≤n.fq∧n.fq<b.dh.length)) 2<|
 Fu (∃j:Nat,(j:Int)<n.aW.length∧¬(0≤n.aW.getD j 0∧n.aW.getD j 0<dv)) 2<|
 Fu (∃j:Nat,1≤j∧(j:Int)<n.aW.length∧n.aW.getD j 0≤n.aW.getD (j - 1) 0) 12<|
 fun r=>r=0
theorem Y5.fun {b:bf} {n:aL} {dv:Int}:zI (Y5 b n dv):=.chk (.chk (.chk (.chk (.chk (.chk (.chk (.chk .zero)))))))
def ME (b:bf):Int→Prop:=YJ (fun r=>r=checkF b.bQ)<|YJ (fun r=>r=Sp.checkF b.bI)<|YJ (oM b.aP)<|YJ (U3 b.aY) (U4 b.dh)
theorem ME.fun {b:bf}:zI (ME b):=.thn (fun _ _ h k=>h.trans k.symm) (.thn (fun _ _ h k=>h.trans k.symm) (.thn oM.fun (.thn U3.fun U4.fun)))
def Fw (b:bf) (l:List aL):Int→Prop:=YJ (ME b)<|Fu (12<(l.length:Int)) 3<|Z4 l.length fun i=>Y5 b (l.getD i bB) l.length
theorem Fw.fun {b:bf} {l:List aL}:zI (Fw b l):=.thn ME.fun (.chk (.fst fun _=>Y5.fun))
theorem Qa {b_:bf} (h1:yh b_) (h2:∀g∈b_.aP.av,g.bG.length≤2000000∧g.ak.length≤2000000):W (nk b_) (fun r=>ME b_ r):=by
 obtain ⟨z1,z2,z3,z4,z5,z6,z7⟩:=h1;unfold nk;refine aF (uR (mF ob)) fun v1 hv1=>?_;subst v1;refine wi (fun c1=>?_) (fun c1=>?_)
 ·refine au ?_;exact BL rfl c1
 ·refine aF (Sp.nN ob) fun v2 hv2=>?_;subst v2;refine wi (fun c2=>?_) (fun c2=>?_)
  ·refine au ?_;exact jl c1.symm (BL rfl c2)
  ·refine aF (uN h2) fun v3 hv3=>?_;refine wi (fun c3=>?_) (fun c3=>?_)
   ·refine au ?_;exact jl c1.symm (jl c2.symm (BL hv3 c3))
   ·refine aF (HY ob) fun v4 hv4=>?_;refine wi (fun c4=>?_) (fun c4=>?_)
    ·refine au ?_;exact jl c1.symm (jl c2.symm (jl (c3 ▸ hv3) (BL hv4 c4)))
    ·refine aF (Fv) fun v5 hv5=>?_;refine au ?_;exact jl c1.symm (jl c2.symm (jl (c3 ▸ hv3) (jl (c4 ▸ hv4) hv5)))
theorem Qb {b_:bf} (h1:yh b_) (h2:∀g∈b_.aP.av,g.bG.length≤2000000∧g.ak.length≤2000000):W (Al b_) (fun r=>ME b_ r):=by
 obtain ⟨z1,z2,z3,z4,z5,z6,z7⟩:=h1;unfold Al;refine aF (uL ob) fun v1 hv1=>?_;subst v1;refine wi (fun c1=>?_) (fun c1=>?_)
 ·refine au ?_;exact BL rfl c1
 ·refine aF (Sp.uJ ob) fun v2 hv2=>?_;subst v2;refine wi (fun c2=>?_) (fun c2=>?_)
  ·refine au ?_;exact jl c1.symm (BL rfl c2)
  ·refine aF (zq h2) fun v3 hv3=>?_;refine wi (fun c3=>?_) (fun c3=>?_)
   ·refine au ?_;exact jl c1.symm (jl c2.symm (BL hv3 c3))
   ·refine aF (HZ ob) fun v4 hv4=>?_;refine wi (fun c4=>?_) (fun c4=>?_)
    ·refine au ?_;exact jl c1.symm (jl c2.symm (jl (c3 ▸ hv3) (BL hv4 c4)))
    ·refine aF (H6) fun v5 hv5=>?_;refine au ?_;exact jl c1.symm (jl c2.symm (jl (c3 ▸ hv3) (jl (c4 ▸ hv4) hv5)))
theorem Rh {b_:bf} {n_:aL} {fM:Int} (h1:yh b_) (h2:0≤fM) (h3:fM≤2000000) (h4:n_.aY.length≤2000000) (h5:n_.aW.length≤2000000):W (tO b_ n_ fM) (fun r=>Y5 b_ n_ fM r):=by
 obtain ⟨z1,z2,z3,z4,z5,z6,z7⟩:=h1;unfold tO;refine wi (fun c1=>?_) (fun c1=>?_)
 ·refine au ?_;exact dM om
 ·refine bq (fun (g1:Int)=>0≤g1∧(∀j:Nat,(j:Int)<g1→TQ b_.bQ.length (n_.bP.getD j cB))) (fun (g1:Int)=>(n_.bP.length - g1).toNat) ?_ ?_
  ·intro aj g1 dH bL;obtain ⟨cK,bC⟩:=dH;unfold Bv;refine wi (fun c2=>?_) (fun c2=>?_)
   ·refine wm ?_;refine aF (iq) fun v3 hv3=>?_;subst v3;refine wi (fun c3=>?_) (fun c3=>?_)
    ·refine au ?_;(exact aJ om (dM ⟨g1.toNat,om,fun ⟨_,_,_,_,_⟩=>by omega⟩))
    ·refine wn ?_;refine bL _ ?_ ?_
     ·(refine ⟨ob,dn bC cK ⟨om,om,om,om,om⟩⟩)
     ·exact ob
   ·refine bq (fun (g2:Int)=>0≤g2∧(∀j:Nat,(j:Int)<g2→XE b_.bI.length (n_.d9.getD j dD))) (fun (g2:Int)=>(n_.d9.length - g2).toNat) ?_ ?_
    ·intro cO g2 jD kC;obtain ⟨kI,gJ⟩:=jD;unfold yK;refine wi (fun c4=>?_) (fun c4=>?_)
     ·refine wm ?_;refine aF (iq) fun v8 BH=>?_;subst v8;refine aF (fP fun hc=>jT (iq)) fun v9 SB=>?_;subst v9;refine wi (fun c5=>?_) (fun c5=>?_)
      ·refine au ?_;(exact aJ om (aJ (fF bC om) (dM ⟨g2.toNat,om,fun ⟨_,_,_,_,_,_,_⟩=>by omega⟩)))
      ·refine wn ?_;refine kC _ ?_ ?_
       ·(refine ⟨ob,dn gJ kI ⟨om,om,om,om,om,om,om⟩⟩)
       ·exact ob
     ·refine bq (fun (g3:Int)=>0≤g3∧(∀j:Nat,(j:Int)<g3→N9 (n_.ak.getD j ByteArray.empty))) (fun (g3:Int)=>(n_.ak.length - g3).toNat) ?_ ?_
      ·intro iy g3 NZ Kj;obtain ⟨NJ,mq⟩:=NZ;unfold yJ;refine wi (fun c6=>?_) (fun c6=>?_)
       ·refine wn ?_;refine aF (D6) fun v12 Ja=>?_;refine bF (fun c7=>?_) (fun c7=>?_)
        ·have NG:=c7;have c7:=nr c7;refine au ?_;(exact aJ om (aJ (fF bC om) (aJ (fF gJ om) (dM ⟨g3.toNat,om,fun h=>by simp [Ja.2 h] at NG⟩))))
        ·have NG:=c7;have c7:=nr c7;refine wn ?_;refine Kj _ ?_ ?_
         ·(refine ⟨ob,dn mq NJ (Ja.1 (by simpa using NG))⟩)
         ·exact ob
       ·refine bq (fun (g4:Int)=>0≤g4∧(∀j:Nat,(j:Int)<g4→0≤n_.aY.getD j 0∧n_.aY.getD j 0<b_.aY.length)) (fun (g4:Int)=>(n_.aY.length - g4).toNat) ?_ ?_
        ·intro gL g4 zn vB;obtain ⟨wV,jk⟩:=zn;unfold yI;refine wi (fun c8=>?_) (fun c8=>?_)
         ·refine wm ?_;refine aF (iq) fun v15 Sy=>?_;subst v15;refine wi (fun c9=>?_) (fun c9=>?_)
          ·refine au ?_;(exact aJ om (aJ (fF bC om) (aJ (fF gJ om) (aJ (fF mq om) (dM ⟨g4.toNat,om,om⟩)))))
          ·refine wn ?_;refine vB _ ?_ ?_
           ·(refine ⟨ob,dn jk wV om⟩)
           ·exact ob
         ·refine wn ?_;refine aF (iq) fun v16 TM=>?_;subst v16;refine wi (fun c10=>?_) (fun c10=>?_)
          ·refine au ?_;(exact aJ om (aJ (fF bC om) (aJ (fF gJ om) (aJ (fF mq om) (aJ (fF jk om) (dM om))))))
          ·refine bq (fun (g5:Int)=>0≤g5∧(∀j:Nat,(j:Int)<g5→0≤n_.aW.getD j 0∧n_.aW.getD j 0<fM)) (fun (g5:Int)=>(n_.aW.length - g5).toNat) ?_ ?_
           ·intro iF g5 Kl Hu;obtain ⟨JN,AP⟩:=Kl;unfold yH;refine wi (fun c11=>?_) (fun c11=>?_)
            ·refine wm ?_;refine aF (iq) fun v19 adM=>?_;subst v19;refine wi (fun c12=>?_) (fun c12=>?_)
             ·refine au ?_;(exact aJ om (aJ (fF bC om) (aJ (fF gJ om) (aJ (fF mq om) (aJ (fF jk om) (aJ om (dM ⟨g5.toNat,om,om⟩)))))))
             ·refine wn ?_;refine Hu _ ?_ ?_
              ·(refine ⟨ob,dn AP JN om⟩)
              ·exact ob
            ·refine bq (fun (g6:Int)=>1≤g6∧(∀j:Nat,(j:Int)<g6→1≤j→n_.aW.getD (j - 1) 0<n_.aW.getD j 0)) (fun (g6:Int)=>(n_.aW.length - g6).toNat) ?_ ?_
             ·intro gU g6 zH vY;obtain ⟨wU,lg⟩:=zH;unfold yG;refine wi (fun c13=>?_) (fun c13=>?_)
              ·refine wm ?_;refine wn ?_;refine wi (fun c14=>?_) (fun c14=>?_)
               ·refine au ?_;(exact aJ om (aJ (fF bC om) (aJ (fF gJ om) (aJ (fF mq om) (aJ (fF jk om) (aJ om (aJ (fF AP om) (dM ⟨g6.toNat,om,om,by rw [show g6.toNat - 1=(g6 - 1).toNat by omega]; omega⟩))))))))
               ·refine wn ?_;refine vY _ ?_ ?_
                ·(refine ⟨ob,fun j h1 h2=>?_⟩; by_cases q:(j:Int)<g6; (exact lg j q h2); (have e:j=g6.toNat:=by omega); subst e; rw [show g6.toNat - 1=(g6 - 1).toNat by omega]; omega)
                ·exact ob
              ·refine au ?_;(exact aJ om (aJ (fF bC om) (aJ (fF gJ om) (aJ (fF mq om) (aJ (fF jk om) (aJ om (aJ (fF AP om) (aJ (BN lg om) (rfl)))))))))
             ·(refine ⟨ob,fun j h1 h2=>by omega⟩)
           ·(refine ⟨ob,fun j hj=>by (try dsimp only at hj); omega⟩)
        ·(refine ⟨ob,fun j hj=>by (try dsimp only at hj); omega⟩)
      ·(refine ⟨ob,fun j hj=>by (try dsimp only at hj); omega⟩)
    ·(refine ⟨ob,fun j hj=>by (try dsimp only at hj); omega⟩)
  ·(refine ⟨ob,fun j hj=>by (try dsimp only at hj); omega⟩)
theorem Ri {b_:bf} {l_:(List aL)} {x_:aL} (h1:yh b_) (h2:l_.length≤2000000) (h3:x_.aY.length≤2000000) (h4:x_.aW.length≤2000000):W (DN b_ l_ x_) (fun r=>Y5 b_ x_ l_.length r):=by
 obtain ⟨z1,z2,z3,z4,z5,z6,z7⟩:=h1;unfold DN;refine wi (fun c1=>?_) (fun c1=>?_)
 ·refine au ?_;exact dM om
 ·refine bq (fun (g1:Int)=>0≤g1∧(∀j:Nat,(j:Int)<g1→TQ b_.bQ.length (x_.bP.getD j cB))) (fun (g1:Int)=>(x_.bP.length - g1).toNat) ?_ ?_
  ·intro aj g1 dH bL;obtain ⟨cK,bC⟩:=dH;unfold JA;refine wi (fun c2=>?_) (fun c2=>?_)
   ·refine wn ?_;refine wi (fun c3=>?_) (fun c3=>?_)
    ·refine au ?_;(exact aJ om (dM ⟨g1.toNat,om,fun ⟨_,_,_,_,_⟩=>by omega⟩))
    ·refine wn ?_;refine bL _ ?_ ?_
     ·(refine ⟨ob,dn bC cK ⟨om,om,om,om,om⟩⟩)
     ·exact ob
   ·refine bq (fun (g2:Int)=>0≤g2∧(∀j:Nat,(j:Int)<g2→XE b_.bI.length (x_.d9.getD j dD))) (fun (g2:Int)=>(x_.d9.length - g2).toNat) ?_ ?_
    ·intro cO g2 jD kC;obtain ⟨kI,gJ⟩:=jD;unfold GD;refine wi (fun c4=>?_) (fun c4=>?_)
     ·refine wn ?_;refine wi (fun c5=>?_) (fun c5=>?_)
      ·refine au ?_;(exact aJ om (aJ (fF bC om) (dM ⟨g2.toNat,om,fun ⟨_,_,_,_,_,_,_⟩=>by omega⟩)))
      ·refine wn ?_;refine kC _ ?_ ?_
       ·(refine ⟨ob,dn gJ kI ⟨om,om,om,om,om,om,om⟩⟩)
       ·exact ob
     ·refine bq (fun (g3:Int)=>0≤g3∧(∀j:Nat,(j:Int)<g3→N9 (x_.ak.getD j ByteArray.empty))) (fun (g3:Int)=>(x_.ak.length - g3).toNat) ?_ ?_
      ·intro iy g3 NZ Kj;obtain ⟨NJ,mq⟩:=NZ;unfold Gz;refine wi (fun c6=>?_) (fun c6=>?_)
       ·refine wn ?_;refine aF (BO) fun v3 hv3=>?_;refine bF (fun c7=>?_) (fun c7=>?_)
        ·have NG:=c7;have c7:=nr c7;refine au ?_;(exact aJ om (aJ (fF bC om) (aJ (fF gJ om) (dM ⟨g3.toNat,om,fun h=>by simp [hv3.2 h] at NG⟩))))
        ·have NG:=c7;have c7:=nr c7;refine wn ?_;refine Kj _ ?_ ?_
         ·(refine ⟨ob,dn mq NJ (hv3.1 (by simpa using NG))⟩)
         ·exact ob
       ·refine bq (fun (g4:Int)=>0≤g4∧(∀j:Nat,(j:Int)<g4→0≤x_.aY.getD j 0∧x_.aY.getD j 0<b_.aY.length)) (fun (g4:Int)=>(x_.aY.length - g4).toNat) ?_ ?_
        ·intro gL g4 zn vB;obtain ⟨wV,jk⟩:=zn;unfold Gy;refine wi (fun c8=>?_) (fun c8=>?_)
         ·refine wn ?_;refine wi (fun c9=>?_) (fun c9=>?_)
          ·refine au ?_;(exact aJ om (aJ (fF bC om) (aJ (fF gJ om) (aJ (fF mq om) (dM ⟨g4.toNat,om,om⟩)))))
          ·refine wn ?_;refine vB _ ?_ ?_
           ·(refine ⟨ob,dn jk wV om⟩)
           ·exact ob
         ·refine wi (fun c10=>?_) (fun c10=>?_)
          ·refine au ?_;(exact aJ om (aJ (fF bC om) (aJ (fF gJ om) (aJ (fF mq om) (aJ (fF jk om) (dM om))))))
          ·refine bq (fun (g5:Int)=>0≤g5∧(∀j:Nat,(j:Int)<g5→0≤x_.aW.getD j 0∧x_.aW.getD j 0<(l_.length:Int))) (fun (g5:Int)=>(x_.aW.length - g5).toNat) ?_ ?_
           ·intro iF g5 Kl Hu;obtain ⟨JN,AP⟩:=Kl;unfold Gx;refine wi (fun c11=>?_) (fun c11=>?_)
            ·refine wn ?_;refine wi (fun c12=>?_) (fun c12=>?_)
             ·refine au ?_;(exact aJ om (aJ (fF bC om) (aJ (fF gJ om) (aJ (fF mq om) (aJ (fF jk om) (aJ om (dM ⟨g5.toNat,om,om⟩)))))))
             ·refine wn ?_;refine Hu _ ?_ ?_
              ·(refine ⟨ob,dn AP JN om⟩)
              ·exact ob
            ·refine bq (fun (g6:Int)=>1≤g6∧(∀j:Nat,(j:Int)<g6→1≤j→x_.aW.getD (j - 1) 0<x_.aW.getD j 0)) (fun (g6:Int)=>(x_.aW.length - g6).toNat) ?_ ?_
             ·intro gU g6 zH vY;obtain ⟨wU,lg⟩:=zH;unfold Gw;refine wi (fun c13=>?_) (fun c13=>?_)
              ·refine wm ?_;refine wn ?_;refine wi (fun c14=>?_) (fun c14=>?_)
               ·refine au ?_;(exact aJ om (aJ (fF bC om) (aJ (fF gJ om) (aJ (fF mq om) (aJ (fF jk om) (aJ om (aJ (fF AP om) (dM ⟨g6.toNat,om,om,by rw [show g6.toNat - 1=(g6 - 1).toNat by omega]; omega⟩))))))))
               ·refine wn ?_;refine vY _ ?_ ?_
                ·(refine ⟨ob,fun j h1 h2=>?_⟩; by_cases q:(j:Int)<g6; (exact lg j q h2); (have e:j=g6.toNat:=by omega); subst e; rw [show g6.toNat - 1=(g6 - 1).toNat by omega]; omega)
                ·exact ob
              ·refine au ?_;(exact aJ om (aJ (fF bC om) (aJ (fF gJ om) (aJ (fF mq om) (aJ (fF jk om) (aJ om (aJ (fF AP om) (aJ (BN lg om) (rfl)))))))))
             ·(refine ⟨ob,fun j h1 h2=>by omega⟩)
           ·(refine ⟨ob,fun j hj=>by (try dsimp only at hj); omega⟩)
        ·(refine ⟨ob,fun j hj=>by (try dsimp only at hj); omega⟩)
      ·(refine ⟨ob,fun j hj=>by (try dsimp only at hj); omega⟩)
    ·(refine ⟨ob,fun j hj=>by (try dsimp only at hj); omega⟩)
  ·(refine ⟨ob,fun j hj=>by (try dsimp only at hj); omega⟩)
theorem Rj {b_:bf} {l_:(List aL)} (h1:yh b_) (h2:∀g∈b_.aP.av,g.bG.length≤2000000∧g.ak.length≤2000000) (h3:Jd l_):W (pW b_ l_) (fun r=>Fw b_ l_ r):=by
 obtain ⟨w1,w2⟩:=h3;unfold pW;refine aF (Qa h1 h2) fun v1 hv1=>?_;refine wi (fun c1=>?_) (fun c1=>?_)
 ·refine au ?_;exact BL hv1 c1
 ·refine wi (fun c2=>?_) (fun c2=>?_)
  ·refine au ?_;exact jl (c1 ▸ hv1) (dM c2)
  ·refine bq (fun (g1:Int)=>0≤g1∧(∀j:Nat,(j:Int)<g1→Y5 b_ (l_.getD j bB) l_.length 0)) (fun (g1:Int)=>(l_.length - g1).toNat) ?_ ?_
   ·intro aj g1 dH bL;obtain ⟨cK,bC⟩:=dH;unfold Bw;refine wi (fun c3=>?_) (fun c3=>?_)
    ·have hw:=w2 _ (getD_in (i:=g1.toNat) bB om);refine wn ?_;refine aF (Rh ob ob ob ob ob) fun v4 hv4=>?_;refine wi (fun c4=>?_) (fun c4=>?_)
     ·refine au ?_;exact jl (c1 ▸ hv1) (aJ om (BM (i:=g1.toNat) om (fun k hk=>bC k om) hv4 c4))
     ·refine wn ?_;refine bL _ ?_ ?_
      ·(refine ⟨ob,dn bC cK (by rw [c4] at hv4; exact hv4)⟩)
      ·exact ob
    ·refine au ?_;exact jl (c1 ▸ hv1) (aJ om (IU fun k hk=>bC k om))
   ·(refine ⟨ob,fun j hj=>by (try dsimp only at hj); omega⟩)
theorem uO {b_:bf} {l_:(List aL)} (h1:yh b_) (h2:∀g∈b_.aP.av,g.bG.length≤2000000∧g.ak.length≤2000000) (h3:Jd l_):W (p9 b_ l_) (fun r=>Fw b_ l_ r):=by
 obtain ⟨w1,w2⟩:=h3;unfold p9;refine aF (Qb h1 h2) fun v1 hv1=>?_;refine wi (fun c1=>?_) (fun c1=>?_)
 ·refine au ?_;exact BL hv1 c1
 ·refine wi (fun c2=>?_) (fun c2=>?_)
  ·refine au ?_;exact jl (c1 ▸ hv1) (dM c2)
  ·refine bq (fun (g1:Int)=>0≤g1∧(∀j:Nat,(j:Int)<g1→Y5 b_ (l_.getD j bB) l_.length 0)) (fun (g1:Int)=>(l_.length - g1).toNat) ?_ ?_
   ·intro aj g1 dH bL;obtain ⟨cK,bC⟩:=dH;unfold JB;refine wi (fun c3=>?_) (fun c3=>?_)
    ·have hw:=w2 _ (getD_in (i:=g1.toNat) bB om);refine wn ?_;refine aF (Ri ob ob ob ob) fun v4 hv4=>?_;refine wi (fun c4=>?_) (fun c4=>?_)
     ·refine au ?_;exact jl (c1 ▸ hv1) (aJ om (BM (i:=g1.toNat) om (fun k hk=>bC k om) hv4 c4))
     ·refine wn ?_;refine bL _ ?_ ?_
      ·(refine ⟨ob,dn bC cK (by rw [c4] at hv4; exact hv4)⟩)
      ·exact ob
    ·refine au ?_;exact jl (c1 ▸ hv1) (aJ om (IU fun k hk=>bC k om))
   ·(refine ⟨ob,fun j hj=>by (try dsimp only at hj); omega⟩)
theorem H7 {s_:fO} (h1:QW s_):W (mO s_) (fun r=>(r=true↔V8 s_.cZ s_.aO∧X0 s_.bD s_.cZ s_.aV)):=by
 obtain ⟨⟨s1,s2,s3,s4,s5,s6,s7⟩,v_,n1,n2,⟨n3,n4⟩,m1,⟨z1,z2,z3,z4,z5,z6⟩⟩:=h1;have hch:∀i,i<s_.bD.bQ.length→(s_.bD.bQ.getD i aI).aK.length≤2000000:=s2;unfold mO;refine aF (Km ob ob) fun v1 hv1=>?_;refine bF (fun c1=>?_) (fun c1=>?_)
 ·have eH:=c1;have c1:=nr c1;refine au ?_;(constructor; (intro e; cases e); (rintro ⟨a,⟨b1,b2,b3,b4,b5⟩,_⟩; rw [hv1.2 a] at eH; simp only [Bool.not_true,Bool.false_or,Bool.or_eq_true,bne_iff_ne] at eH; omega))
 ·have eH:=c1;have c1:=nr c1;have hm:=hv1.1 (by simp only [Bool.or_eq_false_iff] at eH; simpa using eH.1.1.1.1.1);have hl:(s_.aV.dF.length:Int)=s_.bD.bQ.length:=(by simp only [Bool.or_eq_false_iff] at eH; simpa using eH.1.1.1.1.2);refine bq (fun (g1:Int)=>0≤g1∧(∀j:Nat,(j:Int)<g1→0≤s_.aV.dF.getD j 0∧s_.aV.dF.getD j 0<(s_.bD.bQ.getD j aI).aK.length)) (fun (g1:Int)=>(s_.bD.bQ.length - g1).toNat) ?_ ?_
  ·intro aj g1 dH bL;obtain ⟨cK,bC⟩:=dH;unfold uU;refine wi (fun c2=>?_) (fun c2=>?_)
   ·have hq:=hch g1.toNat om;refine wm ?_;refine wn ?_;refine aF (iq) fun v4 hv4=>?_;subst v4;refine wi (fun c3=>?_) (fun c3=>?_)
    ·refine au ?_;(constructor; (intro e; cases e); (rintro ⟨_,_,a,_⟩; have:=a g1.toNat om; omega))
    ·refine wn ?_;refine bL _ ?_ ?_
     ·(refine ⟨ob,dn bC cK om⟩)
     ·exact ob
   ·refine bq (fun (g2:Int)=>0≤g2∧(∀j:Nat,(j:Int)<g2 → -1≤(s_.aV.bX.getD j bA).fC∧(s_.aV.bX.getD j bA).fC<s_.cZ.length)) (fun (g2:Int)=>(s_.aV.bX.length - g2).toNat) ?_ ?_
    ·intro cO g2 jD kC;obtain ⟨kI,gJ⟩:=jD;unfold sK;refine wi (fun c4=>?_) (fun c4=>?_)
     ·refine wm ?_;refine aF (iq) fun v7 hv7=>?_;subst v7;refine wi (fun c5=>?_) (fun c5=>?_)
      ·refine au ?_;(constructor; (intro e; cases e); (rintro ⟨_,_,_,a⟩; have:=a g2.toNat om; omega))
      ·refine wn ?_;refine kC _ ?_ ?_
       ·(refine ⟨ob,dn gJ kI om⟩)
       ·exact ob
     ·refine au ?_;(constructor; (intro _; exact ⟨hm,⟨om,om,om,om,om⟩,fun i hi=>bC i om,fun i hi=>gJ i om⟩); (intro _; rfl))
    ·(refine ⟨ob,fun j hj=>by (try dsimp only at hj); omega⟩)
  ·(refine ⟨ob,fun j hj=>by (try dsimp only at hj); omega⟩)
theorem Og {b_:bf} {l_:(List aL)} {g_:bM} (h1:yh b_) (h2:l_.length≤2000000) (h3:K6 g_):W (xR b_ l_ g_) (fun r=>r=true↔X0 b_ l_ g_):=by
 obtain ⟨s1,s2,s3,s4,s5,s6,s7⟩:=h1;obtain ⟨z1,z2,z3,z4,z5,z6⟩:=h3;unfold xR;refine wi (fun c1=>?_) (fun c1=>?_)
 ·refine au ?_;(constructor; (intro e; cases e); (rintro ⟨⟨b1,b2,b3,b4,b5⟩,_⟩; omega))
 ·refine bq (fun (g1:Int)=>0≤g1∧(∀j:Nat,(j:Int)<g1→0≤g_.dF.getD j 0∧g_.dF.getD j 0<(b_.bQ.getD j aI).aK.length)) (fun (g1:Int)=>(g_.dF.length - g1).toNat) ?_ ?_
  ·intro aj g1 dH bL;obtain ⟨cK,bC⟩:=dH;unfold EY;refine wi (fun c2=>?_) (fun c2=>?_)
   ·refine wm ?_;refine wn ?_;refine wi (fun c3=>?_) (fun c3=>?_)
    ·refine au ?_;(constructor; (intro e; cases e); (rintro ⟨_,a,_⟩; have:=a g1.toNat om; omega))
    ·refine wn ?_;refine bL _ ?_ ?_
     ·(refine ⟨ob,dn bC cK om⟩)
     ·exact ob
   ·refine bq (fun (g2:Int)=>0≤g2∧(∀j:Nat,(j:Int)<g2 → -1≤(g_.bX.getD j bA).fC∧(g_.bX.getD j bA).fC<l_.length)) (fun (g2:Int)=>(g_.bX.length - g2).toNat) ?_ ?_
    ·intro cO g2 jD kC;obtain ⟨kI,gJ⟩:=jD;unfold EX;refine wi (fun c4=>?_) (fun c4=>?_)
     ·refine wm ?_;refine wi (fun c5=>?_) (fun c5=>?_)
      ·refine au ?_;(constructor; (intro e; cases e); (rintro ⟨_,_,a⟩; have:=a g2.toNat om; omega))
      ·refine wn ?_;refine kC _ ?_ ?_
       ·(refine ⟨ob,dn gJ kI om⟩)
       ·exact ob
     ·refine au ?_;(constructor; (intro _; exact ⟨⟨om,om,om,om,om⟩,fun i hi=>bC i om,fun i hi=>gJ i om⟩); (intro _; rfl))
    ·(refine ⟨ob,fun j hj=>by (try dsimp only at hj); omega⟩)
  ·(refine ⟨ob,fun j hj=>by (try dsimp only at hj); omega⟩)
theorem YK {l:List aH} {s:List Int} (hf:Fine l) (hs:settB l s=true) {x:bK} (h0:0≤x.dW) (h1:x.dW<l.length):PZ (stF l s) x=offL (ratesF l s) x:=by
 obtain ⟨e1,e2,_,_⟩:=st_same hf hs x.dW.toNat om;unfold PZ offL;rw [e1,e2,Bool.not_not]
theorem YL {l:List aH} {s:List Int} (hf:Fine l) (hs:settB l s=true):V4 l (stF l s)=ownB l (ratesF l s):=by
 unfold V4 ownB;have:∀i∈List.range l.length,(!XR (stF l s).1 (stF l s).2 l i)=(!ownX ((ratesF l s).getD i dO) (l.getD i aI)):=fun i hi=>by
  obtain ⟨e1,e2,_,_⟩:=st_same hf hs i (by simpa using hi);unfold XR ownX;rw [e1,e2]
 rw [Bool.eq_iff_iff,List.all_eq_true,List.all_eq_true];exact ⟨fun h i hi=>by rw [← this i hi]; exact h i hi,fun h i hi=>by rw [this i hi]; exact h i hi⟩
theorem any_congr {α:Type} {l:List α} {p q:α→Bool} (h:∀x∈l,p x=q x):l.any p=l.any q:=by
 rw [Bool.eq_iff_iff,List.any_eq_true,List.any_eq_true];exact ⟨fun ⟨x,h1,h2⟩=>⟨x,h1,by rw [← h x h1]; exact h2⟩,fun ⟨x,h1,h2⟩=>⟨x,h1,by rw [h x h1]; exact h2⟩⟩
theorem Qc {l:List aH} {s:List Int} {m:List bK} (h1:limsB l m=true) (h2:settB l s=true):meetsF l s m=HV l s m:=by
 obtain ⟨hck,hml,hmb⟩:=lims_get h1;have hf:=fine_of hck;unfold meetsF HV;rw [h1,h2,YL hf h2,any_congr fun x hx=>YK hf h2 (badL_get (Hf h1 x hx)).1.1 (badL_get (Hf h1 x hx)).1.2,Bool.and_comm (!_)];rfl
theorem MF {l_:(List aH)} {s_:(List Int)} (h1:l_.length≤2000000) (h2:s_.length≤2000000) (h3:ChOK l_):W (uH l_ s_) (fun r=>r=((checkF l_==0)&&settB l_ s_)):=by
 unfold uH;refine aF (uL ob) fun v1 hv1=>?_;subst v1;refine bF (fun c1=>?_) (fun c1=>?_)
 ·have eH:=c1;have c1:=nr c1;refine au ?_;(rcases Bool.or_eq_true_iff.1 eH with c | c; (rw [show (checkF l_==0)=false by simpa using c]; rfl); (unfold settB; rw [show ((s_.length:Int)==(l_.length:Int))=false by simpa using c]; simp))
 ·have eH:=c1;have c1:=nr c1;have he:((s_.length:Int)==(l_.length:Int))=true:=(by have:=(Bool.or_eq_false_iff.1 eH).2; simpa using this);have hc0:(checkF l_==0)=true:=(by have:=(Bool.or_eq_false_iff.1 eH).1; simpa using this);refine bq (fun (g1:Int)=>0≤g1∧g1≤l_.length∧(∀j:Nat,(j:Int)<g1→withinF (s_.getD j 0) 0 ((l_.getD j aI).aK.length - 1)=true)) (fun (g1:Int)=>(l_.length - g1).toNat) ?_ ?_
  ·intro aj g1 dH bL;obtain ⟨cK,bC,bJ⟩:=dH;unfold CJ;refine wi (fun c2=>?_) (fun c2=>?_)
   ·have hch:=h3 g1.toNat om;refine wm ?_;refine wn ?_;refine wi (fun c3=>?_) (fun c3=>?_)
    ·refine au ?_;(unfold settB; rw [he,rangeAll_false (i:=g1.toNat) om (by unfold withinF; rw [Bool.and_eq_false_iff,decide_eq_false_iff_not,decide_eq_false_iff_not]; omega)]; simp)
    ·refine wn ?_;refine bL _ ?_ ?_
     ·(refine ⟨ob,ob,dn bJ cK (by unfold withinF; rw [Bool.and_eq_true,decide_eq_true_eq,decide_eq_true_eq]; omega)⟩)
     ·exact ob
   ·refine au ?_;(unfold settB; rw [he,hc0,rangeAll_true fun j hj=>bJ j om]; rfl)
  ·(refine ⟨ob,ob,fun j hj=>by omega⟩)
theorem zu {l_:(List aH)} {s_:(List Int)} {m_:(List bK)} (h1:l_.length≤2000000) (h2:s_.length≤2000000) (h3:m_.length≤2000000) (h4:ChOK l_):W (vv l_ s_ m_) (fun r=>r=meetsF l_ s_ m_):=by
 unfold vv;refine aF (MF ob ob ob) fun v1 hv1=>?_;subst v1;refine aF (fP fun hc=>jT (Hw ob ob)) fun v2 hv2=>?_;subst v2;refine bF (fun c1=>?_) (fun c1=>?_)
 ·have eH:=c1;have c1:=nr c1;refine au ?_;(unfold meetsF; rcases Bool.or_eq_true_iff.1 eH with c | c; (simp only [Bool.not_eq_true',Bool.and_eq_false_iff,beq_eq_false_iff_ne] at c; rcases c with c | c; (rw [show limsB l_ m_=false by (unfold limsB; rw [show (checkF l_==0)=false by simpa using c]; rfl)]; rfl); (rw [c,Bool.and_false]; rfl)); (rw [show limsB l_ m_=false by simpa using c]; rfl))
 ·have eH:=c1;have c1:=nr c1;have hss:settB l_ s_=true:=(by have:=(Bool.or_eq_false_iff.1 eH).1; simp only [Bool.not_eq_false',Bool.and_eq_true] at this; exact this.2);have hlm:limsB l_ m_=true:=(by have:=(Bool.or_eq_false_iff.1 eH).2; simpa using this);obtain ⟨hck,hml,hmb⟩:=lims_get hlm;have hst:=stN_len l_ s_ l_.length;refine aF (Hz (good_of (fine_of hck) hss) (up_of (fine_of hck) hss)) fun v3 hv3=>?_;subst v3;have hs1:(stF l_ s_).1.length=l_.length:=hst.1;have hs2:(stF l_ s_).2.length=l_.length:=hst.2;refine bq (fun (g1:Int)=>0≤g1∧g1≤m_.length∧(m_.drop g1.toNat).any (PZ (stF l_ s_))=m_.any (PZ (stF l_ s_))) (fun (g1:Int)=>(m_.length - g1).toNat) ?_ ?_
  ·intro aj g1 dH bL;obtain ⟨cK,bC,bJ⟩:=dH;unfold GU;refine wi (fun c2=>?_) (fun c2=>?_)
   ·have hlt:g1.toNat<m_.length:=om;have hx:=(badL_get (Hf hlm _ (getD_in (i:=g1.toNat) cB hlt))).1;rw [drop_cons cB hlt,List.any_cons] at bJ;refine wm ?_;refine wn ?_;refine aF (fP fun hc=>jT (zo)) fun v6 hv6=>?_;subst v6;refine bF (fun c3=>?_) (fun c3=>?_)
    ·have iB:=c3;have c3:=nr c3;refine au ?_;(rw [Qc hlm hss]; unfold HV; rw [← bJ,show PZ (stF l_ s_) (m_.getD g1.toNat cB)=true from iB]; rfl)
    ·have iB:=c3;have c3:=nr c3;refine wn ?_;refine bL _ ?_ ?_
     ·(refine ⟨ob,ob,?_⟩; rw [← bJ,show PZ (stF l_ s_) (m_.getD g1.toNat cB)=false from iB,show (g1+1).toNat=g1.toNat+1 by omega]; rfl)
     ·exact ob
   ·refine aF (NI ob ob ob) fun v7 hv7=>?_;subst v7;refine au ?_;(rw [Qc hlm hss]; unfold HV; rw [← bJ,show g1.toNat=m_.length by omega,List.drop_length]; rfl)
  ·(refine ⟨ob,ob,rfl⟩)
theorem oM.v {p:aX} (h:oM p 0):ZY p:=by
 obtain ⟨h1,h2⟩:=oZ (by decide) h;obtain ⟨h3,h4⟩:=oZ (by decide) h2;have h5:=XY h4;have hg:∀i:Nat,(i:Int)<p.av.length→GpV p.bG (p.av.getD i ay)∧∀k:Nat,k<i→(p.av.getD k ay).qK.toList≠(p.av.getD i ay).qK.toList:=fun i hi=>by
  obtain ⟨a1,a2⟩:=oZ (by decide) (h5 i om);obtain ⟨b1,b2⟩:=oZ (by decide) a2;obtain ⟨c1,c2⟩:=oZ (by decide) b2;obtain ⟨d1,d2⟩:=oZ (by decide) c2;obtain ⟨e1,e2⟩:=oZ (by decide) d2;obtain ⟨f1,f2⟩:=oZ (by decide) e2;obtain ⟨k1,k2⟩:=oZ (by decide) f2;obtain ⟨l1,_⟩:=oZ (by decide) k2;refine ⟨⟨⟨om,om,fU 0 fun j hj=>?_⟩,Classical.not_not.1 a1,fun k hk hl=>?_,fun j hj=>?_,fun k j hj hk e=>l1 ⟨k,j,hj,hk,e⟩⟩,fun k hk e=>b1 ⟨k,hk,e⟩⟩
  ·exact Classical.byContradiction fun q=>e1 ⟨j,om,q⟩
  ·exact Classical.byContradiction fun q=>f1 ⟨k,hk,hl,om⟩
  ·exact Classical.byContradiction fun q=>k1 ⟨j,hj,q⟩
 exact ⟨⟨om,om,fU ay fun i hi=>(hg i om).1.ok⟩,fun i hi=>(hg i hi).1,fun i k hk hi=>(hg i hi).2 k hk⟩
def Z6 (p:aX) (l:List jH) (i:Nat):Prop:=JL p (l.getD i eT)∧(∀k:Nat,k<i→(l.getD k eT).bU≠(l.getD i eT).bU)∧
 ∀k:Nat,k<i→∀a b:Nat,(a:Int)<(p.av.getD (l.getD k eT).bU.toNat ay).bG.length→(b:Int)<(p.av.getD (l.getD i eT).bU.toNat ay).bG.length→(p.av.getD (l.getD k eT).bU.toNat ay).bG.getD a 0≠(p.av.getD (l.getD i eT).bU.toNat ay).bG.getD b 0
def Oh (p:aX) (l:List jH):Prop:=∀i:Nat,(i:Int)<l.length→Z6 p l i
theorem Qd {p_:aX} {l_:(List jH)} (h1:∀g∈p_.av,g.bG.length≤2000000∧g.ak.length≤2000000) (h2:l_.length≤2000000):W (Ad p_ l_) (fun r=>(r.2=0↔oM p_ 0∧Oh p_ l_)):=by
 unfold Ad;refine bq (fun (g1:(Int×(Nat→Int)×(Nat→Int)))=>0≤g1.1∧(∀x:Nat,(x:Int)<g1.1→g1.2.2 x = -1)) (fun (g1:(Int×(Nat→Int)×(Nat→Int)))=>(64 - g1.1).toNat) ?_ ?_
 ·intro aj g1 dH bL;obtain ⟨cK,bC⟩:=dH;unfold Gm;refine wi (fun c1=>?_) (fun c1=>?_)
  ·refine wm ?_;refine bL _ ?_ ?_
   ·(refine ⟨ob,fun x hx=>?_⟩; dsimp only at hx ⊢; by_cases q:x=g1.1.toNat; (rw [q,upd_eq]); (rw [upd_ne q]; exact bC x om))
   ·exact ob
  ·refine aF (uN h1) fun v1 hv1=>?_;refine wi (fun c2=>?_) (fun c2=>?_)
   ·refine au ?_;(refine ⟨fun e=>by (try dsimp only at e); omega,fun ⟨a,_⟩=>absurd (oM.fun _ _ hv1 a) c2⟩)
   ·have hpa:oM p_ 0:=(by rw [c2] at hv1; exact hv1);have hpv:=hpa.v;obtain ⟨⟨p1,p2,p3⟩,gr,nm⟩:=id hpv;refine wn ?_;refine bq (fun (g2:(Int×(Nat→Int)×(List Bool)))=>0≤g2.1∧g2.2.2.length=p_.av.length∧(∀x:Nat,x<64→(0≤g2.2.1 x↔∃j:Nat,(j:Int)<g2.1∧∃k:Nat,(k:Int)<(p_.av.getD (l_.getD j eT).bU.toNat ay).bG.length∧(p_.av.getD (l_.getD j eT).bU.toNat ay).bG.getD k 0=x))∧(∀x:Nat,g2.2.2.getD x false=true↔∃j:Nat,(j:Int)<g2.1∧(l_.getD j eT).bU=x)∧(∀i:Nat,(i:Int)<g2.1→Z6 p_ l_ i)) (fun (g2:(Int×(Nat→Int)×(List Bool)))=>(l_.length - g2.1).toNat) ?_ ?_
    ·intro cO g2 jD kC;obtain ⟨kI,gJ,lq,Lb,Y6⟩:=jD;unfold EB;refine wi (fun c3=>?_) (fun c3=>?_)
     ·refine wm ?_;refine wi (fun c4=>?_) (fun c4=>?_)
      ·refine au ?_;(refine ⟨fun e=>by (try dsimp only at e); omega,fun ⟨_,h⟩=>?_⟩; obtain ⟨⟨u1,u2,u3,u4⟩,_⟩:=h g2.1.toNat om; omega)
      ·have hu:JL p_ (l_.getD g2.1.toNat eT):=⟨om,om,om,om⟩;obtain ⟨u1,u2,u3,u4⟩:=id hu;refine wn ?_;refine bF (fun c5=>?_) (fun c5=>?_)
       ·have yg:=c5;have c5:=nr c5;refine au ?_;(refine ⟨fun e=>by (try dsimp only at e); omega,fun ⟨_,h⟩=>?_⟩; obtain ⟨_,hd,_⟩:=h g2.1.toNat om; obtain ⟨j,e3,e4⟩:=(Lb _).1 yg; exact absurd e4 (fun e4=>hd j om om))
       ·have yg:=c5;have c5:=nr c5;refine wm ?_;refine bq (fun (g5:(Int×(Nat→Int)×(List Bool)))=>0≤g5.1∧g5.1≤(p_.av.getD (l_.getD g2.1.toNat eT).bU.toNat ay).bG.length∧g5.2.2.length=p_.av.length∧(∀x:Nat,x<64→(0≤g5.2.1 x↔(∃j:Nat,(j:Int)<g2.1∧∃k:Nat,(k:Int)<(p_.av.getD (l_.getD j eT).bU.toNat ay).bG.length∧(p_.av.getD (l_.getD j eT).bU.toNat ay).bG.getD k 0=x)∨∃k:Nat,(k:Int)<g5.1∧(p_.av.getD (l_.getD g2.1.toNat eT).bU.toNat ay).bG.getD k 0=x))∧(∀x:Nat,g5.2.2.getD x false=true↔∃j:Nat,(j:Int)<g2.1+1∧(l_.getD j eT).bU=x)∧(∀b:Nat,(b:Int)<g5.1→∀j:Nat,(j:Int)<g2.1→∀a:Nat,(a:Int)<(p_.av.getD (l_.getD j eT).bU.toNat ay).bG.length→(p_.av.getD (l_.getD j eT).bU.toNat ay).bG.getD a 0≠(p_.av.getD (l_.getD g2.1.toNat eT).bU.toNat ay).bG.getD b 0)) (fun (g5:(Int×(Nat→Int)×(List Bool)))=>((p_.av.getD (l_.getD g2.1.toNat eT).bU.toNat ay).bG.length - g5.1).toNat) ?_ ?_
        ·intro iF g5 Kl Hu;obtain ⟨JN,AP,K8,Vr,Y7,Y8⟩:=Kl;unfold EA;refine wi (fun c6=>?_) (fun c6=>?_)
         ·have hmg:=getD_in (l:=p_.av) (i:=(l_.getD g2.1.toNat eT).bU.toNat) ay om;have hgl:=(h1 _ hmg).1;have hpn:=(p3 _ hmg).pn _ (getD_in (i:=g5.1.toNat) 0 om);refine wm ?_;refine wi (fun c7=>?_) (fun c7=>?_)
          ·refine au ?_;(refine ⟨fun e=>by (try dsimp only at e); omega,fun ⟨_,h⟩=>?_⟩; obtain ⟨_,_,hd⟩:=h g2.1.toNat om; exfalso; rcases (Vr _ om).1 c7 with ⟨j,e3,k,e5,e6⟩ | ⟨k,e5,e6⟩; (exact hd j om k g5.1.toNat e5 om (by rw [e6]; omega)); (have:=Uc hpv u1 u2 k g5.1.toNat om om; omega))
          ·refine wm ?_;refine Hu _ ?_ ?_
           ·(refine ⟨ob,ob,ob,fun x hx=>?_,Y7,fun b hb j hj a ha=>?_⟩; (dsimp only; by_cases q:x=((p_.av.getD (l_.getD g2.1.toNat eT).bU.toNat ay).bG.getD g5.1.toNat 0).toNat; (rw [q,upd_eq]; constructor; (intro _; exact .inr ⟨g5.1.toNat,om,om⟩); (intro _; omega)); (rw [upd_ne q,Vr x hx]; constructor; (rintro (h | ⟨k,e5,e6⟩); (exact .inl h); (exact .inr ⟨k,om,e6⟩)); (rintro (h | ⟨k,e5,e6⟩); (exact .inl h); (refine .inr ⟨k,?_,e6⟩; by_cases e:(k:Int)<g5.1; (exact e); exfalso; apply q; rw [show g5.1.toNat=k by omega]; omega)))); (by_cases q:(b:Int)<g5.1; (exact Y8 b q j hj a ha); (have e:b=g5.1.toNat:=by (try dsimp only at hb); omega); subst e; intro e7; have e8:=(Vr ((p_.av.getD (l_.getD g2.1.toNat eT).bU.toNat ay).bG.getD g5.1.toNat 0).toNat om).2 (.inl ⟨j,hj,a,ha,by rw [e7]; omega⟩); omega))
           ·exact ob
         ·refine wn ?_;refine kC _ ?_ ?_
          ·(refine ⟨ob,K8,fun x hx=>?_,fun x=>Y7 x,dn Y6 kI ⟨hu,fun k hk e=>?_,fun k hk a b ha hb=>Y8 b om k om a ha⟩⟩; (dsimp only; rw [Vr x hx]; constructor; (rintro (⟨j,e3,e⟩ | ⟨k,e5,e6⟩); (exact ⟨j,om,e⟩); (exact ⟨g2.1.toNat,om,k,om,e6⟩)); (rintro ⟨j,e3,k,e5,e6⟩; by_cases q:(j:Int)<g2.1; (exact .inl ⟨j,q,k,e5,e6⟩); (have e:j=g2.1.toNat:=by omega); subst e; exact .inr ⟨k,om,e6⟩)); (rw [(Lb _).2 ⟨k,om,om⟩] at c5; cases c5))
          ·exact ob
        ·(refine ⟨ob,ob,ob,fun x hx=>⟨fun h=>.inl ((lq x hx).1 h),?_⟩,fun x=>?_,fun b hb=>?_⟩; (rintro (h | ⟨k,e5,_⟩); (exact (lq x hx).2 h); (exfalso; (try dsimp only at e5); omega)); (dsimp only; by_cases q:x=(l_.getD g2.1.toNat eT).bU.toNat; (rw [q,YH om]; exact ⟨fun _=>⟨g2.1.toNat,om,om⟩,fun _=>rfl⟩); (rw [YG q,Lb]; constructor; (rintro ⟨j,e3,e4⟩; exact ⟨j,om,e4⟩); (rintro ⟨j,e3,e4⟩; refine ⟨j,?_,e4⟩; by_cases e:(j:Int)<g2.1; (exact e); exfalso; apply q; rw [show g2.1.toNat=j by omega]; omega))); (exfalso; (try dsimp only at hb); omega))
     ·refine au ?_;(refine ⟨fun _=>⟨hpa,fun i hi=>Y6 i om⟩,fun _=>rfl⟩)
    ·(refine ⟨ob,by simp,fun x hx=>⟨fun h=>?_,fun ⟨j,e,_⟩=>?_⟩,fun x=>⟨fun hx=>?_,fun ⟨j,e,_⟩=>?_⟩,fun j hj=>?_⟩; (exfalso; have:=bC x om; (try dsimp only at h); omega); (exfalso; (try dsimp only at e); omega); (exfalso; dsimp only at hx; rw [List.getD_eq_getElem?_getD,List.getElem?_replicate] at hx; split at hx<;>simp at hx); (exfalso; (try dsimp only at e); omega); (exfalso; (try dsimp only at hj); omega))
 ·(refine ⟨ob,fun j hj=>by (try dsimp only at hj); omega⟩)
structure NdV (b:bf) (k:Int) (n:aL):Prop where
 ok:TR b n
 fw:∀j:Nat,(j:Int)<n.ak.length→N9 (n.ak.getD j ByteArray.empty)
 pr:∀x∈n.aW,0≤x∧x<k
 ps:∀k:Nat,1≤k→(k:Int)<n.aW.length→n.aW.getD (k - 1) 0<n.aW.getD k 0
def adY (l:List Int):Prop:=∀k j:Nat,j<k→(k:Int)<l.length→l.getD j 0≠l.getD k 0
def nmU (p:aX) (u:jH):ByteArray:=((p.av.getD u.bU.toNat ay).ak.getD u.fJ.toNat ByteArray.empty)
def Rk (p:aX) (us:List aS) (m:Int) (f:ByteArray):Nat:=us.countP fun u=>(u.fC==m)&&decide (nmU p u.jE=f)
def cntF (l:List ByteArray) (f:ByteArray):Nat:=l.countP fun x=>decide (x=f)
theorem IV {p:aX} {us:List aS} {u:aS} {m:Int} {f:ByteArray}:Rk p (us++[u]) m f=Rk p us m f+(if u.fC=m∧nmU p u.jE=f then 1 else 0):=by
 unfold Rk;rw [List.countP_append,List.countP_singleton];congr 1;simp only [Bool.and_eq_true,beq_iff_eq,decide_eq_true_eq]
theorem IW {l:List ByteArray} {x f:ByteArray}:cntF (l++[x]) f=cntF l f+(if x=f then 1 else 0):=by
 unfold cntF;rw [List.countP_append,List.countP_singleton];congr 1;simp only [decide_eq_true_eq]
theorem V9 {l:List ByteArray} {f:ByteArray} (k:Nat):cntF (l.take k) f≤cntF l f:=by
 unfold cntF;conv=>rhs; rw [← List.take_append_drop k l]
 rw [List.countP_append]; omega
theorem U5 {l:List aH} {s:List Int} (h1:checkF l=0) (h2:settB l s=true):(ratesE l s).2=0:=by
 unfold ratesE;rw [h1,h2]; rfl
def aa0 (r:bH) (x:bK):Prop:=r.iU≠0∧r.iU≤x.eP*r.gW∧x.jw*r.gW≤r.iU
structure aeY (s:fO):Prop where
 sc:QW s
 sh:UZ s
 bv:BdV s.bD
 dst:adY s.aO
 st:∀i:Nat,(i:Int)<s.bD.bQ.length→0≤s.aV.dF.getD i 0∧s.aV.dF.getD i 0<(s.bD.bQ.getD i aI).aK.length
 us:∀u∈s.aV.bX,-1≤u.fC∧u.fC<s.cZ.length
 sb:settB s.bD.bQ s.aV.dF=true
 mt:meetsF s.bD.bQ s.aV.dF []=true
 lm:∀m∈s.aO,∀x∈(s.cZ.getD m.toNat bB).bP,aa0 ((ratesF s.bD.bQ s.aV.dF).getD x.dW.toNat dO) x
 dr:Sp.meetsF s.bD.bI s.aV.eD (s.aO.flatMap fun m=>(s.cZ.getD m.toNat bB).d9)=true
 pn:UsV s.bD.aP (s.aV.bX.map aS.jE)
 fn:∀m∈s.aO,∀f,cntF (s.cZ.getD m.toNat bB).ak f≤Rk s.bD.aP s.aV.bX m f
 rs:adV s.bD.aY s.aV.dV
 rl:∀m∈s.aO,∀x∈(s.cZ.getD m.toNat bB).aY,s.aV.dV.getD x.toNat false=true
 dm:adW s.bD.dh s.aV.eG
 dl:∀m∈s.aO,0≤(s.cZ.getD m.toNat bB).fq→s.aV.eG.getD (s.cZ.getD m.toNat bB).fq.toNat false=true
theorem Wd {r:bH} (hv:validR r=true) (h:isOff r=false):r.iU≠0:=by
 intro e;obtain ⟨_,_,h3,_,h5⟩:=validR_iff hv;rw [e] at h5;unfold gcdI at h5;rw [show (0:Int).toNat=0 from rfl,Nat.gcd_zero_left] at h5;have:r.gW=1:=by omega
 unfold isOff at h;rw [e,this] at h;cases h
theorem U6 {r:bH} {lo hi:Int} (h:withinR r lo hi=true):lo*r.gW≤r.iU∧r.iU≤hi*r.gW:=by
 unfold withinR at h;simp only [Bool.and_eq_true,Bool.or_eq_true,decide_eq_true_eq,beq_iff_eq] at h;obtain ⟨hv,h1,h2⟩:=h;obtain ⟨n0,_,d1,_,_⟩:=validR_iff hv;have e:=Int.mul_tdiv_add_tmod r.iU r.gW;have m0:=Int.tmod_nonneg r.gW n0;have m1:=Int.tmod_lt_of_pos r.iU (show 0<r.gW by omega);have e2:r.gW*r.iU.tdiv r.gW=r.iU.tdiv r.gW*r.gW:=Int.mul_comm _ _;have l1:lo*r.gW≤r.iU.tdiv r.gW*r.gW:=Int.mul_le_mul_of_nonneg_right h1 om;refine ⟨om,?_⟩;rcases h2 with h2 | ⟨h2,h3⟩
 ·have l2:(r.iU.tdiv r.gW+1)*r.gW≤hi*r.gW:=Int.mul_le_mul_of_nonneg_right h2 om;rw [Int.add_mul,Int.one_mul] at l2;omega
 ·rw [← h2]; omega
theorem Wh {α β:Type} {f:α→β} {l:List α} {k:Nat} {d:α} {e:β} (h:k<l.length):(l.map f).getD k e=f (l.getD k d):=by
 rw [List.getD_eq_getElem?_getD,List.getElem?_map,List.getD_eq_getElem?_getD,List.getElem?_eq_getElem h]; rfl
theorem Vs {α:Type} {l:List α} {j:Nat} {v d:α} (hj:j<l.length):(l.set j v).getD j d=v:=by
 rw [List.getD_eq_getElem?_getD,List.getElem?_set_self hj]; rfl
theorem Vt {α:Type} {l:List α} {i j:Nat} {v d:α} (h:i≠j):(l.set j v).getD i d=l.getD i d:=by
 rw [List.getD_eq_getElem?_getD,List.getElem?_set_ne (Ne.symm h),← List.getD_eq_getElem?_getD]
theorem YM {r:bH} (h:r.iU≠0):isOff r=false:=by
 unfold isOff;rw [show (r.iU==0)=false by simpa using h]; rfl
theorem U7 {r:bH} {lo hi:Int} (hv:validR r=true) (h1:lo*r.gW≤r.iU) (h2:r.iU≤hi*r.gW):withinR r lo hi=true:=by
 unfold withinR;obtain ⟨n0,_,d1,_,_⟩:=validR_iff hv;have e:=Int.mul_tdiv_add_tmod r.iU r.gW;have m0:=Int.tmod_nonneg r.gW n0;have m1:=Int.tmod_lt_of_pos r.iU (show 0<r.gW by omega);have e2:r.gW*r.iU.tdiv r.gW=r.iU.tdiv r.gW*r.gW:=Int.mul_comm _ _;simp only [Bool.and_eq_true,Bool.or_eq_true,decide_eq_true_eq,beq_iff_eq];have q1:lo≤r.iU.tdiv r.gW:=by
  refine Int.not_lt.1 fun h=>?_;have:(r.iU.tdiv r.gW+1)*r.gW≤lo*r.gW:=Int.mul_le_mul_of_nonneg_right h om;rw [Int.add_mul,Int.one_mul] at this;omega
 have q2:r.iU.tdiv r.gW≤hi:=by
  refine Int.not_lt.1 fun h=>?_;have:(hi+1)*r.gW≤r.iU.tdiv r.gW*r.gW:=Int.mul_le_mul_of_nonneg_right h om;rw [Int.add_mul,Int.one_mul] at this;omega
 refine ⟨hv,q1,?_⟩;by_cases q:r.iU.tdiv r.gW<hi
 ·exact .inl q
 ·have:r.iU.tdiv r.gW=hi:=by omega
  refine .inr ⟨this,?_⟩;rw [this] at e e2;omega
theorem meets_get {l:List aH} {s:List Int} (h:meetsF l s []=true):checkF l=0∧settB l s=true∧ownB l (ratesF l s)=true:=by
 unfold meetsF at h;simp only [Bool.and_eq_true] at h;exact ⟨(lims_get h.1.1).1,h.1.2,h.2.1⟩
def X3 (r:bH) (x:bK) (bt:Bool):Prop:=r.iU≠0∧r.iU≤x.eP*r.gW∧(bt=false→x.jw*r.gW≤r.iU)
theorem meets_one {l:List aH} {s:List Int} {k lo hi:Int} (h:meetsF l s []=true) (k0:0≤k) (k1:k<l.length) (h0:0≤lo) (h1:lo≤hi) (h2:hi≤4000000000):
  meetsF l s [⟨k,lo,hi⟩]=true↔((ratesF l s).getD k.toNat dO).iU≠0∧((ratesF l s).getD k.toNat dO).iU≤hi*((ratesF l s).getD k.toNat dO).gW∧lo*((ratesF l s).getD k.toNat dO).gW≤((ratesF l s).getD k.toNat dO).iU:=by
 obtain ⟨c1,c2,c3⟩:=meets_get h;have hv:=(st_same (fine_of c1) c2 k.toNat om).2.2.1;have hb:badL (l.length:Int) ⟨k,lo,hi⟩=false:=by
  unfold badL withinF;simp only [Bool.or_eq_false_iff,Bool.not_eq_false',Bool.and_eq_true,decide_eq_true_eq];omega
 have hl:limsB l [⟨k,lo,hi⟩]=true:=by
  unfold limsB;rw [c1,show List.any [(⟨k,lo,hi⟩:bK)] (badL l.length)=false by rw [List.any_cons,hb]; rfl]; rfl
 unfold meetsF;rw [hl,c2,c3];simp only [Bool.true_and,List.any_cons,List.any_nil,Bool.or_false,Bool.not_eq_true'];unfold offL;dsimp only;constructor
 ·intro e;rw [Bool.or_eq_false_iff,Bool.not_eq_false'] at e;obtain ⟨w1,w2⟩:=U6 e.2;exact ⟨Wd hv e.1,w2,w1⟩
 ·rintro ⟨a1,a2,a3⟩;rw [YM a1,U7 hv a3 a2]; rfl
def X4 (b:bf) (g:bM) (n:aL) (bt:Bool):Prop:=∀j:Nat,(j:Int)<n.bP.length→X3 ((ratesF b.bQ g.dF).getD (n.bP.getD j cB).dW.toNat dO) (n.bP.getD j cB) bt
def X5 (b:bf) (g:bM) (n:aL) (d:Int):Prop:=∀f:ByteArray,cntF n.ak f≤Rk b.aP g.bX d f
def YN (g:bM) (n:aL):Prop:=∀j:Nat,(j:Int)<n.aY.length→g.dV.getD (n.aY.getD j 0).toNat false=true
def YO (g:bM) (n:aL):Prop:=0≤n.fq→g.eG.getD n.fq.toNat false=true
def Y9 (l:List aL) (ms:List Int):List bE:=ms.flatMap fun m=>(l.getD m.toNat bB).d9
theorem iX {b:Bool} {P:Prop} (h:b=true↔P) (c:b=false):¬P:=fun p=>by rw [h.2 p] at c; cases c
theorem Qe {p_:aX} {l_:(List jH)} (h1:∀g∈p_.av,g.bG.length≤2000000∧g.ak.length≤2000000) (h2:l_.length≤2000000):W (Ae p_ l_) (fun r=>(r.2=0↔oM p_ 0∧Oh p_ l_)):=by
 unfold Ae;refine aF (Qd ob ob) fun v1 hv1=>?_;refine wi (fun c1=>?_) (fun c1=>?_)
 ·refine au ?_;(exact ⟨fun e=>absurd e c1,fun h=>absurd (hv1.2 h) c1⟩)
 ·obtain ⟨p1,_,_⟩:=(hv1.1 c1).1.v.ok;unfold yM;refine wn ?_;refine aF (FM (by simp only [List.length_map,List.length_range]; omega) om) fun v2 hv2=>?_;subst v2;refine au ?_;(exact ⟨fun _=>hv1.1 c1,fun _=>rfl⟩)
theorem Fx {p_:aX} {l_:(List jH)} (h1:∀g∈p_.av,g.bG.length≤2000000∧g.ak.length≤2000000) (h2:l_.length≤2000000):W (rO p_ l_) (fun r=>(r.2=0↔oM p_ 0∧Oh p_ l_)):=by
 unfold rO;refine aF (zq h1) fun v1 hv1=>?_;refine wi (fun c1=>?_) (fun c1=>?_)
 ·refine au ?_;(refine ⟨fun e=>by (try dsimp only at e); omega,fun ⟨a,_⟩=>absurd (oM.fun _ _ hv1 a) c1⟩)
 ·have hpa:oM p_ 0:=(by rw [c1] at hv1; exact hv1);have hpv:=hpa.v;obtain ⟨⟨p1,p2,p3⟩,gr,nm⟩:=id hpv;refine wn ?_;refine bq (fun (g1:(Int×(List Int)))=>0≤g1.1∧g1.2.length=p_.bG.toNat∧(∀x:Nat,(x:Int)<g1.1→g1.2.getD x 0 = -1)) (fun (g1:(Int×(List Int)))=>(p_.bG - g1.1).toNat) ?_ ?_
  ·intro aj g1 dH bL;obtain ⟨cK,bC,bJ⟩:=dH;unfold E8;refine wi (fun c2=>?_) (fun c2=>?_)
   ·refine wm ?_;refine bL _ ?_ ?_
    ·(refine ⟨ob,by simp only [List.length_set]; exact bC,fun x hx=>?_⟩; dsimp only at hx ⊢; by_cases q:x=g1.1.toNat; (rw [q,Vs om]); (rw [Vt q]; exact bJ x om))
    ·exact ob
   ·refine bq (fun (g2:(Int×(List Int)))=>0≤g2.1∧g2.2.length=p_.bG.toNat∧(∀x:Nat,(x:Int)<p_.bG→(g2.2.getD x 0 ≠ -1↔∃j:Nat,(j:Int)<g2.1∧∃k:Nat,(k:Int)<(p_.av.getD (l_.getD j eT).bU.toNat ay).bG.length∧(p_.av.getD (l_.getD j eT).bU.toNat ay).bG.getD k 0=x))∧(∀i:Nat,(i:Int)<g2.1→Z6 p_ l_ i)) (fun (g2:(Int×(List Int)))=>(l_.length - g2.1).toNat) ?_ ?_
    ·intro cO g2 jD kC;obtain ⟨kI,gJ,lq,Lb⟩:=jD;unfold E5;refine wi (fun c3=>?_) (fun c3=>?_)
     ·refine wm ?_;refine wm ?_;refine wi (fun c4=>?_) (fun c4=>?_)
      ·refine au ?_;(refine ⟨fun e=>by (try dsimp only at e); omega,fun ⟨_,h⟩=>?_⟩; obtain ⟨⟨u1,u2,u3,u4⟩,_⟩:=h g2.1.toNat om; omega)
      ·have hu:JL p_ (l_.getD g2.1.toNat eT):=⟨om,om,om,om⟩;obtain ⟨u1,u2,u3,u4⟩:=id hu;refine bq (fun (g7:Int)=>0≤g7∧(∀k:Nat,(k:Int)<g7→(l_.getD k eT).bU≠(l_.getD g2.1.toNat eT).bU)) (fun (g7:Int)=>(g2.1 - g7).toNat) ?_ ?_
       ·intro jU g7 MC Jc;obtain ⟨P8,wW⟩:=MC;unfold CO;refine wi (fun c5=>?_) (fun c5=>?_)
        ·refine wn ?_;refine wi (fun c6=>?_) (fun c6=>?_)
         ·refine au ?_;(refine ⟨fun e=>by (try dsimp only at e); omega,fun ⟨_,h⟩=>?_⟩; obtain ⟨_,hd,_⟩:=h g2.1.toNat om; exact absurd c6 (hd g7.toNat om))
         ·refine wn ?_;refine Jc _ ?_ ?_
          ·(refine ⟨ob,dn wW P8 c6⟩)
          ·exact ob
        ·refine wn ?_;refine bq (fun (g8:(Int×(List Int)))=>0≤g8.1∧g8.1≤(p_.av.getD (l_.getD g2.1.toNat eT).bU.toNat ay).bG.length∧g8.2.length=p_.bG.toNat∧(∀x:Nat,(x:Int)<p_.bG→(g8.2.getD x 0 ≠ -1↔(∃j:Nat,(j:Int)<g2.1∧∃k:Nat,(k:Int)<(p_.av.getD (l_.getD j eT).bU.toNat ay).bG.length∧(p_.av.getD (l_.getD j eT).bU.toNat ay).bG.getD k 0=x)∨∃k:Nat,(k:Int)<g8.1∧(p_.av.getD (l_.getD g2.1.toNat eT).bU.toNat ay).bG.getD k 0=x))∧(∀b:Nat,(b:Int)<g8.1→∀j:Nat,(j:Int)<g2.1→∀a:Nat,(a:Int)<(p_.av.getD (l_.getD j eT).bU.toNat ay).bG.length→(p_.av.getD (l_.getD j eT).bU.toNat ay).bG.getD a 0≠(p_.av.getD (l_.getD g2.1.toNat eT).bU.toNat ay).bG.getD b 0)) (fun (g8:(Int×(List Int)))=>((p_.av.getD (l_.getD g2.1.toNat eT).bU.toNat ay).bG.length - g8.1).toNat) ?_ ?_
         ·intro Nw g8 YC XH;obtain ⟨Y4,XW,Za,Vu,Zb⟩:=YC;unfold CK;refine wi (fun c7=>?_) (fun c7=>?_)
          ·have hmg:=getD_in (l:=p_.av) (i:=(l_.getD g2.1.toNat eT).bU.toNat) ay om;have hgl:=(h1 _ hmg).1;have hpn:=(p3 _ hmg).pn _ (getD_in (i:=g8.1.toNat) 0 om);refine wm ?_;refine wi (fun c8=>?_) (fun c8=>?_)
           ·refine au ?_;(refine ⟨fun e=>by (try dsimp only at e); omega,fun ⟨_,h⟩=>?_⟩; obtain ⟨_,_,hd⟩:=h g2.1.toNat om; exfalso; rcases (Vu ((p_.av.getD (l_.getD g2.1.toNat eT).bU.toNat ay).bG.getD g8.1.toNat 0).toNat om).1 c8 with ⟨j,e3,k,e5,e6⟩ | ⟨k,e5,e6⟩; (exact hd j om k g8.1.toNat e5 om (by rw [e6]; omega)); (have:=Uc hpv u1 u2 k g8.1.toNat om om; omega))
           ·refine wm ?_;refine XH _ ?_ ?_
            ·(refine ⟨ob,ob,by simp only [List.length_set]; exact Za,fun x hx=>?_,fun b hb j hj a ha=>?_⟩; (dsimp only; by_cases q:x=((p_.av.getD (l_.getD g2.1.toNat eT).bU.toNat ay).bG.getD g8.1.toNat 0).toNat; (rw [q,Vs om]; constructor; (intro _; exact .inr ⟨g8.1.toNat,om,om⟩); (intro _; omega)); (rw [Vt q,Vu x hx]; constructor; (rintro (h | ⟨k,e5,e6⟩); (exact .inl h); (exact .inr ⟨k,om,e6⟩)); (rintro (h | ⟨k,e5,e6⟩); (exact .inl h); (refine .inr ⟨k,?_,e6⟩; by_cases e:(k:Int)<g8.1; (exact e); exfalso; apply q; rw [show g8.1.toNat=k by omega]; omega)))); (by_cases q:(b:Int)<g8.1; (exact Zb b q j hj a ha); (have e:b=g8.1.toNat:=by (try dsimp only at hb); omega); subst e; intro e7; have e8:=(Vu ((p_.av.getD (l_.getD g2.1.toNat eT).bU.toNat ay).bG.getD g8.1.toNat 0).toNat om).2 (.inl ⟨j,hj,a,ha,by rw [e7]; omega⟩); omega))
            ·exact ob
          ·refine wn ?_;refine kC _ ?_ ?_
           ·(refine ⟨ob,Za,fun x hx=>?_,dn Lb kI ⟨hu,fun k hk e=>wW k om e,fun k hk a b ha hb=>Zb b om k om a ha⟩⟩; dsimp only; rw [Vu x hx]; constructor; (rintro (⟨j,e3,e⟩ | ⟨k,e5,e6⟩); (exact ⟨j,om,e⟩); (exact ⟨g2.1.toNat,om,k,om,e6⟩)); (rintro ⟨j,e3,k,e5,e6⟩; by_cases q:(j:Int)<g2.1; (exact .inl ⟨j,q,k,e5,e6⟩); (have e:j=g2.1.toNat:=by omega); subst e; exact .inr ⟨k,om,e6⟩))
           ·exact ob
         ·(refine ⟨ob,ob,ob,fun x hx=>⟨fun h=>.inl ((lq x hx).1 h),?_⟩,fun b hb=>?_⟩; (rintro (h | ⟨k,e5,_⟩); (exact (lq x hx).2 h); (exfalso; (try dsimp only at e5); omega)); (exfalso; (try dsimp only at hb); omega))
       ·(refine ⟨ob,fun j hj=>by (try dsimp only at hj); omega⟩)
     ·refine au ?_;(refine ⟨fun _=>⟨hpa,fun i hi=>Lb i om⟩,fun _=>rfl⟩)
    ·(refine ⟨ob,om,fun x hx=>⟨fun h=>?_,fun ⟨j,e,_⟩=>?_⟩,fun j hj=>?_⟩; (exact absurd (bJ x om) h); (exfalso; (try dsimp only at e); omega); (exfalso; (try dsimp only at hj); omega))
  ·(refine ⟨ob,by simp,fun x hx=>by dsimp only at hx; omega⟩)
theorem JW {l_:(List aS)} (h1:l_.length≤2000000):W (za l_) (fun r=>r=l_.map aS.jE):=by
 unfold za;refine bq (fun (g1:(Int×(List jH)))=>0≤g1.1∧g1.1≤l_.length∧g1.2=(l_.take g1.1.toNat).map aS.jE) (fun (g1:(Int×(List jH)))=>(l_.length - g1.1).toNat) ?_ ?_
 ·intro aj g1 dH bL;obtain ⟨cK,bC,bJ⟩:=dH;unfold JG;have hgl:g1.2.length=g1.1.toNat:=(by rw [bJ,List.length_map,List.length_take]; omega);refine wi (fun c1=>?_) (fun c1=>?_)
  ·refine wm ?_;refine wn ?_;refine bL _ ?_ ?_
   ·(refine ⟨ob,ob,?_⟩; dsimp only; rw [show (g1.1+1).toNat=g1.1.toNat+1 by omega,take_snoc bA om,List.map_append,bJ]; rfl)
   ·exact ob
  ·refine au ?_;(rw [bJ,show g1.1.toNat=l_.length by omega,List.take_length])
 ·(refine ⟨ob,ob,rfl⟩)
def fnG (l:List ByteArray) (j:Nat):ByteArray:=l.getD j ByteArray.empty
theorem X6 {l:List ByteArray} {f:ByteArray} (h:0<cntF l f):∃j:Nat,(j:Int)<l.length∧fnG l j=f:=by
 unfold cntF at h;obtain ⟨x,hx,e⟩:=List.countP_pos_iff.1 h;obtain ⟨j,hj,rfl⟩:=List.mem_iff_getElem.1 hx;exact ⟨j,om,by unfold fnG; rw [List.getD_eq_getElem?_getD,List.getElem?_eq_getElem hj]; simpa using e⟩
theorem SQ {l:List Int} {p:Int→Bool}:l.any p=false↔∀j:Nat,(j:Int)<l.length→p (l.getD j 0)=false:=by
 rw [List.any_eq_false];constructor
 ·intro h j hj;have:=h _ (getD_in (i:=j) 0 om);simpa using this
 ·intro h;have:∀x∈l,p x=false:=fU 0 fun j hj=>h j om;intro x hx;rw [this x hx]; decide
theorem FN {s_:fO} (h1:QW s_):W (lM s_) (fun r=>r=meetsF s_.bD.bQ s_.aV.dF []):=by
 obtain ⟨⟨s1,s2,s3,s4,s5,s6,s7⟩,vl_,n1,n2,⟨n3,n4⟩,m1,⟨z1,z2,z3,z4,z5,z6⟩⟩:=h1;unfold lM;refine aF (QU ob ob ob ob) fun v1 hv1=>?_;subst v1;refine au ?_;rfl
theorem FP {s_:fO} (h1:QW s_) (h2:UZ s_) (h3:meetsF s_.bD.bQ s_.aV.dF []=true):W (lN s_) (fun r=>r=true↔∀i:Nat,(i:Int)<s_.aO.length→X4 s_.bD s_.aV (s_.cZ.getD (s_.aO.getD i 0).toNat bB) s_.iD):=by
 obtain ⟨⟨s1,s2,s3,s4,s5,s6,s7⟩,vl_,n1,n2,⟨n3,n4⟩,m1,⟨z1,z2,z3,z4,z5,z6⟩⟩:=h1;obtain ⟨y1,y2,y3,y4,y5,y6⟩:=h2;obtain ⟨k1,k2,k3⟩:=meets_get h3;unfold lN;refine aF (QV ob ob ob) fun v1 hv1=>?_;subst v1;refine bF (fun c1=>?_) (fun c1=>?_)
 ·have eH:=c1;have c1:=nr c1;refine au ?_;(exact absurd (U5 k1 k2) c1)
 ·have eH:=c1;have c1:=nr c1;obtain ⟨r1,r2,r3⟩:=XF (by simpa using eH);have hrl:(ratesE s_.bD.bQ s_.aV.dF).1.length=s_.bD.bQ.length:=(by rw [r3]; exact ratesN_len ..);refine bq (fun (g1:Int)=>0≤g1∧(∀i:Nat,(i:Int)<g1→X4 s_.bD s_.aV (s_.cZ.getD (s_.aO.getD i 0).toNat bB) s_.iD)) (fun (g1:Int)=>(s_.aO.length - g1).toNat) ?_ ?_
  ·intro aj g1 dH bL;obtain ⟨cK,bC⟩:=dH;unfold sN;refine wi (fun c2=>?_) (fun c2=>?_)
   ·have hmem:=getD_in (l:=s_.aO) (i:=g1.toNat) 0 om;have hmi:=y1 _ hmem;have hnd:=getD_in (l:=s_.cZ) (i:=(s_.aO.getD g1.toNat 0).toNat) bB om;have hno:=n2 _ hnd;have hns:=n4 _ hnd;refine wm ?_;refine bq (fun (g4:Int)=>0≤g4∧(∀j:Nat,(j:Int)<g4→X3 ((ratesF s_.bD.bQ s_.aV.dF).getD ((s_.cZ.getD (s_.aO.getD g1.toNat 0).toNat bB).bP.getD j cB).dW.toNat dO) ((s_.cZ.getD (s_.aO.getD g1.toNat 0).toNat bB).bP.getD j cB) s_.iD)) (fun (g4:Int)=>((s_.cZ.getD (s_.aO.getD g1.toNat 0).toNat bB).bP.length - g4).toNat) ?_ ?_
    ·intro gL g4 zn vB;obtain ⟨wV,jk⟩:=zn;unfold sM;refine wi (fun c3=>?_) (fun c3=>?_)
     ·obtain ⟨x1,x2,x3,x4,x5⟩:=hno.lm _ (getD_in (i:=g4.toNat) cB om);have hll:=hno.ll;have hv:=XG r1 r2 (((s_.cZ.getD ((s_.aO.getD g1.toNat 0).toNat) bB).bP.getD g4.toNat cB).dW.toNat) om;rw [← r3] at hv;have q1:=Mr (show 0≤_ by exact Int.le_trans (by decide) hv.1) hv.2 (Int.le_trans x3 x4) x5;have q2:=Mr (show 0≤_ by exact Int.le_trans (by decide) hv.1) hv.2 x3 (Int.le_trans x4 x5);refine wm ?_;refine wm ?_;refine wi (fun c4=>?_) (fun c4=>?_)
      ·rw [r3] at c4;refine au ?_;(constructor; (intro e; cases e); (intro h; exfalso; obtain ⟨l1,l2,l3⟩:=h g1.toNat om g4.toNat om; rcases c4 with (c4 | c4) | c4; (exact l1 c4); (exact Int.not_lt.2 l2 c4); (exact Int.not_lt.2 (l3 (by simpa using c4.1)) c4.2)))
      ·rw [r3] at c4;refine wn ?_;refine vB _ ?_ ?_
       ·(refine ⟨ob,dn jk wV ⟨c4.1.1,c4.1.2,fun e=>c4.2.resolve_left (by rw [e]; decide)⟩⟩)
       ·exact ob
     ·have hll:=hno.ll;refine wn ?_;refine bL _ ?_ ?_
      ·(refine ⟨ob,dn bC cK (fun j hj=>jk j om)⟩)
      ·exact ob
    ·(refine ⟨ob,fun j hj=>by (try dsimp only at hj); omega⟩)
   ·refine au ?_;(constructor; (intro _; exact fun i hi=>bC i om); (intro _; rfl))
  ·(refine ⟨ob,fun j hj=>by (try dsimp only at hj); omega⟩)
theorem C8 {s_:fO} (h1:QW s_) (h2:UZ s_):W (j6 s_) (fun r=>r=Sp.meetsF s_.bD.bI s_.aV.eD (Y9 s_.cZ s_.aO)):=by
 obtain ⟨⟨s1,s2,s3,s4,s5,s6,s7⟩,vl_,n1,n2,⟨n3,n4⟩,m1,⟨z1,z2,z3,z4,z5,z6⟩⟩:=h1;obtain ⟨y1,y2,y3,y4,y5,y6⟩:=h2;unfold j6;refine bq (fun (g1:(Int×(List bE)))=>0≤g1.1∧g1.1≤s_.aO.length∧(g1.2.length:Int)≤32*g1.1∧g1.2=Y9 s_.cZ (s_.aO.take g1.1.toNat)) (fun (g1:(Int×(List bE)))=>(s_.aO.length - g1.1).toNat) ?_ ?_
 ·intro aj g1 dH bL;obtain ⟨cK,bC,bJ,ji⟩:=dH;unfold qp;refine wi (fun c1=>?_) (fun c1=>?_)
  ·have hmem:=getD_in (l:=s_.aO) (i:=g1.1.toNat) 0 om;have hmi:=y1 _ hmem;have hnd:=getD_in (l:=s_.cZ) (i:=(s_.aO.getD g1.1.toNat 0).toNat) bB om;have hno:=n2 _ hnd;have hns:=n4 _ hnd;have hdl:=hno.dl;refine wm ?_;refine wm ?_;refine bL _ ?_ ?_
   ·(refine ⟨ob,ob,ob,?_⟩; dsimp only; unfold Y9 at *; rw [show (g1.1+1).toNat=g1.1.toNat+1 by omega,take_snoc 0 om,List.flatMap_append,ji]; simp only [List.flatMap_cons,List.flatMap_nil,List.append_nil])
   ·exact ob
  ·refine aF (ND ob ob) fun v1 hv1=>?_;subst v1;refine aF (Sp.Hq ob ob ob) fun v2 hv2=>?_;subst v2;refine au ?_;(rw [ji,show g1.1.toNat=s_.aO.length by omega,List.take_length])
 ·(refine ⟨ob,ob,ob,rfl⟩)
theorem Je {s_:fO} (h1:QW s_) (h2:∀g∈s_.bD.aP.av,g.bG.length≤2000000∧g.ak.length≤2000000):W (nP s_) (fun r=>(r=true↔oM s_.bD.aP 0∧Oh s_.bD.aP (s_.aV.bX.map aS.jE))):=by
 obtain ⟨⟨s1,s2,s3,s4,s5,s6,s7⟩,vl_,n1,n2,⟨n3,n4⟩,m1,⟨z1,z2,z3,z4,z5,z6⟩⟩:=h1;unfold nP;refine bq (fun (g1:(Int×(List jH)))=>0≤g1.1∧g1.1≤s_.aV.bX.length∧g1.2=(s_.aV.bX.take g1.1.toNat).map aS.jE) (fun (g1:(Int×(List jH)))=>(s_.aV.bX.length - g1.1).toNat) ?_ ?_
 ·intro aj g1 dH bL;obtain ⟨cK,bC,bJ⟩:=dH;unfold wK;have hgl:g1.2.length=g1.1.toNat:=(by rw [bJ,List.length_map,List.length_take]; omega);refine wi (fun c1=>?_) (fun c1=>?_)
  ·refine wm ?_;refine wn ?_;refine bL _ ?_ ?_
   ·(refine ⟨ob,ob,?_⟩; dsimp only; rw [show (g1.1+1).toNat=g1.1.toNat+1 by omega,take_snoc bA om,List.map_append,bJ]; rfl)
   ·exact ob
  ·refine aF (Qe h2 ob) fun v1 hv1=>?_;refine au ?_;(rw [bJ,show g1.1.toNat=s_.aV.bX.length by omega,List.take_length] at hv1; rw [← hv1]; simp)
 ·(refine ⟨ob,ob,rfl⟩)
theorem BP {s_:fO} (h1:QW s_) (h2:UZ s_) (h3:∀u∈s_.aV.bX,JL s_.bD.aP u.jE):W (jQ s_) (fun r=>r=true↔∀i:Nat,(i:Int)<s_.aO.length→X5 s_.bD s_.aV (s_.cZ.getD (s_.aO.getD i 0).toNat bB) (s_.aO.getD i 0)):=by
 obtain ⟨⟨s1,s2,s3,s4,s5,s6,s7⟩,vl_,n1,n2,⟨n3,n4⟩,m1,⟨z1,z2,z3,z4,z5,z6⟩⟩:=h1;obtain ⟨y1,y2,y3,y4,y5,y6⟩:=h2;unfold jQ;refine bq (fun (g1:Int)=>0≤g1∧(∀i:Nat,(i:Int)<g1→X5 s_.bD s_.aV (s_.cZ.getD (s_.aO.getD i 0).toNat bB) (s_.aO.getD i 0))) (fun (g1:Int)=>(s_.aO.length - g1).toNat) ?_ ?_
 ·intro aj g1 dH bL;obtain ⟨cK,bC⟩:=dH;unfold oV;refine wi (fun c1=>?_) (fun c1=>?_)
  ·have hmem:=getD_in (l:=s_.aO) (i:=g1.toNat) 0 om;have hmi:=y1 _ hmem;have hnd:=getD_in (l:=s_.cZ) (i:=(s_.aO.getD g1.toNat 0).toNat) bB om;have hno:=n2 _ hnd;have hns:=n4 _ hnd;have hfl:=hno.fl;refine wn ?_;refine bq (fun (g6:(Int×(lu→Option Int)))=>0≤g6.1∧g6.1≤s_.aV.bX.length∧(∀k,0≤wZ g6.2 k∧wZ g6.2 k≤g6.1)∧(∀f,wZ g6.2 (.s f)=(Rk s_.bD.aP (s_.aV.bX.take g6.1.toNat) (s_.aO.getD g1.toNat 0) f:Int))) (fun (g6:(Int×(lu→Option Int)))=>(s_.aV.bX.length - g6.1).toNat) ?_ ?_
   ·intro gU g6 zH vY;obtain ⟨wU,lg,Fq,NK⟩:=zH;unfold oU;refine wi (fun c2=>?_) (fun c2=>?_)
    ·obtain ⟨u1,u2,u3,u4⟩:=h3 _ (getD_in (i:=g6.1.toNat) bA om);have hmk:=Fq (.s (((s_.bD.aP.av.getD ((((s_.aV.bX.getD g6.1.toNat bA).jE).bU).toNat) ay).ak).getD ((((s_.aV.bX.getD g6.1.toNat bA).jE).fJ).toNat) ByteArray.empty));refine wn ?_;refine bF (fun c3=>?_) (fun c3=>?_)
     ·have iB:=c3;have c3:=nr c3;refine wm ?_;refine wm ?_;refine vY _ ?_ ?_
      ·(refine ⟨ob,ob,fun k=>?_,fun f=>?_⟩; (dsimp only; rw [tY]; have:=Fq k; split<;>omega); dsimp only; rw [tY,NK,NK,show (g6.1+1).toNat=g6.1.toNat+1 by omega,take_snoc bA om,IV]; by_cases q:f=nmU s_.bD.aP (s_.aV.bX.getD g6.1.toNat bA).jE; (subst q; refine (if_pos rfl).trans ?_; rw [if_pos ⟨by simpa using iB,rfl⟩]; show ((Rk _ _ _ (nmU _ _):Nat):Int)+1=_; omega); (refine (if_neg (fun e=>q (lu.s.inj e))).trans ?_; rw [if_neg (fun e=>q e.2.symm)]; rfl))
      ·exact ob
     ·have iB:=c3;have c3:=nr c3;refine wn ?_;refine vY _ ?_ ?_
      ·(refine ⟨ob,ob,fun k=>?_,fun f=>?_⟩; (have:=Fq k; dsimp only; omega); dsimp only; rw [NK,show (g6.1+1).toNat=g6.1.toNat+1 by omega,take_snoc bA om,IV,if_neg (fun e=>absurd e.1 (by simpa using iB))]; rfl)
      ·exact ob
    ·refine wn ?_;refine bq (fun (g7:(Int×(lu→Option Int)))=>0≤g7.1∧(∀k,0≤wZ g7.2 k∧wZ g7.2 k≤2000000)∧(∀f,wZ g7.2 (.s f)=(Rk s_.bD.aP s_.aV.bX (s_.aO.getD g1.toNat 0) f:Int) - (cntF ((s_.cZ.getD (s_.aO.getD g1.toNat 0).toNat bB).ak.take g7.1.toNat) f:Int))) (fun (g7:(Int×(lu→Option Int)))=>((s_.cZ.getD (s_.aO.getD g1.toNat 0).toNat bB).ak.length - g7.1).toNat) ?_ ?_
     ·intro jU g7 MC Jc;obtain ⟨P8,wW,Vv⟩:=MC;unfold oH;refine wi (fun c4=>?_) (fun c4=>?_)
      ·have hmk:=wW (.s (((s_.cZ.getD ((s_.aO.getD g1.toNat 0).toNat) bB).ak).getD g7.1.toNat ByteArray.empty));have hlt:g7.1.toNat<(s_.cZ.getD (s_.aO.getD g1.toNat 0).toNat bB).ak.length:=om;have hts:=take_snoc ByteArray.empty hlt;have hcs:cntF ((s_.cZ.getD (s_.aO.getD g1.toNat 0).toNat bB).ak.take (g7.1.toNat+1)) ((s_.cZ.getD (s_.aO.getD g1.toNat 0).toNat bB).ak.getD g7.1.toNat ByteArray.empty)=cntF ((s_.cZ.getD (s_.aO.getD g1.toNat 0).toNat bB).ak.take g7.1.toNat) ((s_.cZ.getD (s_.aO.getD g1.toNat 0).toNat bB).ak.getD g7.1.toNat ByteArray.empty)+1:=(by rw [hts,IW,if_pos rfl]);have hct:=V9 (l:=(s_.cZ.getD (s_.aO.getD g1.toNat 0).toNat bB).ak) (f:=(s_.cZ.getD (s_.aO.getD g1.toNat 0).toNat bB).ak.getD g7.1.toNat ByteArray.empty) (g7.1.toNat+1);have hq:=Vv ((s_.cZ.getD (s_.aO.getD g1.toNat 0).toNat bB).ak.getD g7.1.toNat ByteArray.empty);refine wm ?_;refine wi (fun c5=>?_) (fun c5=>?_)
       ·refine au ?_;(constructor; (intro e; cases e); (intro h; exfalso; rw [tY,if_pos rfl] at c5; have hff:=h g1.toNat om ((s_.cZ.getD (s_.aO.getD g1.toNat 0).toNat bB).ak.getD g7.1.toNat ByteArray.empty); omega))
       ·rw [tY,if_pos rfl] at c5;refine wn ?_;refine Jc _ ?_ ?_
        ·(refine ⟨ob,fun k=>?_,fun f=>?_⟩; (dsimp only; rw [tY]; have:=wW k; split<;>omega); dsimp only; rw [tY,show (g7.1+1).toNat=g7.1.toNat+1 by omega]; by_cases q:f=(s_.cZ.getD (s_.aO.getD g1.toNat 0).toNat bB).ak.getD g7.1.toNat ByteArray.empty; (subst q; rw [if_pos rfl,hcs]; omega); (rw [if_neg (fun e=>q (lu.s.inj e)),hts,IW,if_neg (fun e=>q e.symm),Vv f]; rfl))
        ·exact ob
      ·refine wn ?_;refine bL _ ?_ ?_
       ·(refine ⟨ob,dn bC cK (fun f=>?_)⟩; have e1:=Vv f; have e2:=wW (.s f); rw [List.take_of_length_le om] at e1; omega)
       ·exact ob
     ·(refine ⟨ob,fun k=>by have:=Fq k; dsimp only; omega,fun f=>?_⟩; dsimp only; rw [NK f,show g6.1.toNat=s_.aV.bX.length by omega,List.take_length]; show _=_ - ((0:Nat):Int); omega)
   ·(refine ⟨ob,ob,fun k=>⟨Int.le_refl _,Int.le_refl _⟩,fun f=>rfl⟩)
  ·refine au ?_;(constructor; (intro _; exact fun i hi=>bC i om); (intro _; rfl))
 ·(refine ⟨ob,fun j hj=>by (try dsimp only at hj); omega⟩)
theorem FT {s_:fO} (h1:QW s_) (h2:UZ s_):W (lQ s_) (fun r=>(r=true↔(U3 s_.bD.aY 0∧XZ s_.bD.aY s_.aV.dV)∧∀i:Nat,(i:Int)<s_.aO.length→YN s_.aV (s_.cZ.getD (s_.aO.getD i 0).toNat bB))):=by
 obtain ⟨⟨s1,s2,s3,s4,s5,s6,s7⟩,vl_,n1,n2,⟨n3,n4⟩,m1,⟨z1,z2,z3,z4,z5,z6⟩⟩:=h1;obtain ⟨y1,y2,y3,y4,y5,y6⟩:=h2;unfold lQ;refine aF (Ob ob) fun v1 hv1=>?_;refine bF (fun c1=>?_) (fun c1=>?_)
 ·have eH:=c1;have c1:=nr c1;refine au ?_;(constructor; (intro e; cases e); (intro h; exact absurd (hv1.2 h.1) (by simpa using eH)))
 ·have eH:=c1;have c1:=nr c1;refine bq (fun (g1:Int)=>0≤g1∧(∀i:Nat,(i:Int)<g1→YN s_.aV (s_.cZ.getD (s_.aO.getD i 0).toNat bB))) (fun (g1:Int)=>(s_.aO.length - g1).toNat) ?_ ?_
  ·intro aj g1 dH bL;obtain ⟨cK,bC⟩:=dH;unfold sO;refine wi (fun c2=>?_) (fun c2=>?_)
   ·have hmem:=getD_in (l:=s_.aO) (i:=g1.toNat) 0 om;have hmi:=y1 _ hmem;have hnd:=getD_in (l:=s_.cZ) (i:=(s_.aO.getD g1.toNat 0).toNat) bB om;have hno:=n2 _ hnd;have hns:=n4 _ hnd;refine wm ?_;refine aF (vZ om (fun x hx=>(by have:=hno.rs x hx; omega))) fun v4 hv4=>?_;subst v4;refine bF (fun c3=>?_) (fun c3=>?_)
    ·have iB:=c3;have c3:=nr c3;refine au ?_;(constructor; (intro e; cases e); (intro h; exfalso; have:=SQ.2 (fun j hj=>by have:=h.2 g1.toNat om j hj; rw [this]; rfl) |>.symm.trans iB; cases this))
    ·have iB:=c3;have c3:=nr c3;refine wn ?_;refine bL _ ?_ ?_
     ·(refine ⟨ob,dn bC cK (fun j hj=>?_)⟩; have:=SQ.1 iB j hj; simpa using this)
     ·exact ob
   ·refine au ?_;(constructor; (intro _; exact ⟨hv1.1 (by simpa using eH),fun i hi=>bC i om⟩); (intro _; rfl))
  ·(refine ⟨ob,fun j hj=>by (try dsimp only at hj); omega⟩)
theorem D8 {s_:fO} (h1:QW s_) (h2:UZ s_):W (kK s_) (fun r=>(r=true↔(U4 s_.bD.dh 0∧RgP s_.bD.dh s_.aV.eG)∧∀i:Nat,(i:Int)<s_.aO.length→YO s_.aV (s_.cZ.getD (s_.aO.getD i 0).toNat bB))):=by
 obtain ⟨⟨s1,s2,s3,s4,s5,s6,s7⟩,vl_,n1,n2,⟨n3,n4⟩,m1,⟨z1,z2,z3,z4,z5,z6⟩⟩:=h1;obtain ⟨y1,y2,y3,y4,y5,y6⟩:=h2;unfold kK;refine aF (Oe) fun v1 hv1=>?_;refine bF (fun c1=>?_) (fun c1=>?_)
 ·have eH:=c1;have c1:=nr c1;refine au ?_;(constructor; (intro e; cases e); (intro h; exact absurd (hv1.2 h.1) (by simpa using eH)))
 ·have eH:=c1;have c1:=nr c1;refine aF (wh om (fun x hx=>(by have q:=y1 x hx; have:=(n2 _ (getD_in (i:=x.toNat) bB om)).dm; omega))) fun v2 hv2=>?_;subst v2;refine au ?_;(rw [Bool.not_eq_true',SQ]; constructor; (intro h; refine ⟨hv1.1 (by simpa using eH),fun i hi=>?_⟩; have:=h i hi; intro h0; simp only [Bool.and_eq_false_iff,decide_eq_false_iff_not,Bool.not_eq_false'] at this; exact this.resolve_left (fun q=>q h0)); (intro h j hj; have:=h.2 j hj; unfold YO at this; simp only [Bool.and_eq_false_iff,decide_eq_false_iff_not,Bool.not_eq_false']; by_cases q:0≤(s_.cZ.getD (s_.aO.getD j 0).toNat bB).fq; (exact .inr (this q)); exact .inl q))
theorem Qf {l:List aH} {s:List Int} {x:bK} (h:meetsF l s []=true) (hx:TQ l.length x):meetsF l s [⟨x.dW,0,x.eP⟩]=true↔X3 ((ratesF l s).getD x.dW.toNat dO) x true:=by
 obtain ⟨x1,x2,x3,x4,x5⟩:=hx;rw [meets_one h x1 x2 (Int.le_refl 0) om x5,Int.zero_mul];obtain ⟨c1,c2,_⟩:=meets_get h;have hv:=(validR_iff (st_same (fine_of c1) c2 x.dW.toNat om).2.2.1).1;exact ⟨fun ⟨a,b,_⟩=>⟨a,b,nofun⟩,fun ⟨a,b,_⟩=>⟨a,b,hv⟩⟩
theorem Qg {l:List aH} {s:List Int} {x:bK} (h:meetsF l s []=true) (hx:TQ l.length x):meetsF l s [⟨x.dW,x.jw,x.eP⟩]=true↔X3 ((ratesF l s).getD x.dW.toNat dO) x false:=by
 obtain ⟨x1,x2,x3,x4,x5⟩:=hx;rw [meets_one h x1 x2 x3 x4 x5];exact ⟨fun ⟨a,b,c⟩=>⟨a,b,fun _=>c⟩,fun ⟨a,b,c⟩=>⟨a,b,c rfl⟩⟩
theorem Ud {A B:Int→Prop} (h:YJ A B 0):A 0∧B 0:=by
 rcases h with h | h
 ·exact absurd rfl h.2
 ·exact h
theorem IX {b:bf} {l:List aL} (h:Fw b l 0):RU b∧l.length≤12∧∀n∈l,TR b n:=by
 obtain ⟨h1,h2⟩:=Ud h;obtain ⟨b1,h3⟩:=Ud h1;obtain ⟨b2,h4⟩:=Ud h3;obtain ⟨b3,h5⟩:=Ud h4;obtain ⟨b4,b5⟩:=Ud h5;obtain ⟨c1,c2⟩:=oZ (by decide) h2;refine ⟨⟨b1.symm,b2.symm,b3.v.ok,b4.ok,b5.ok⟩,om,fU bB fun i hi=>?_⟩;obtain ⟨d1,d2⟩:=oZ (by decide) (XY c2 i hi);obtain ⟨e1,e2⟩:=oZ (by decide) d2;obtain ⟨f1,f2⟩:=oZ (by decide) e2;obtain ⟨g1,g2⟩:=oZ (by decide) f2;obtain ⟨k1,k2⟩:=oZ (by decide) g2;obtain ⟨m1,m2⟩:=oZ (by decide) k2;refine ⟨om,om,om,fU cB fun j hj=>?_,fU dD fun j hj=>?_,fU 0 fun j hj=>?_,Classical.not_not.1 m1⟩
 ·exact Classical.byContradiction fun q=>e1 ⟨j,om,q⟩
 ·exact Classical.byContradiction fun q=>f1 ⟨j,om,q⟩
 ·exact Classical.byContradiction fun q=>k1 ⟨j,om,q⟩
def aa2 (b:bf) (l:List aL) (ms:List Int) (g:bM) (bt:Bool):Prop:=∀i:Nat,(i:Int)<ms.length→X4 b g (l.getD (ms.getD i 0).toNat bB) bt
def aa3 (b:bf) (l:List aL) (ms:List Int) (g:bM):Prop:=∀i:Nat,(i:Int)<ms.length→X5 b g (l.getD (ms.getD i 0).toNat bB) (ms.getD i 0)
def aa4 (b:bf) (l:List aL) (ms:List Int) (g:bM):Prop:=(U3 b.aY 0∧XZ b.aY g.dV)∧∀i:Nat,(i:Int)<ms.length→YN g (l.getD (ms.getD i 0).toNat bB)
def adZ (b:bf) (l:List aL) (ms:List Int) (g:bM):Prop:=(U4 b.dh 0∧RgP b.dh g.eG)∧∀i:Nat,(i:Int)<ms.length→YO g (l.getD (ms.getD i 0).toNat bB)
def X7 (b:bf) (l:List aL) (ms:List Int) (g:bM) (bt:Bool):Int→Prop:=
 Fu (¬(V8 l ms∧X0 b l g)) 1<|
 Fu (meetsF b.bQ g.dF []=false) 2<|
 Fu (¬aa2 b l ms g bt) 3<|
 Fu (Sp.meetsF b.bI g.eD (Y9 l ms)=false) 4<|
 Fu (¬(oM b.aP 0∧Oh b.aP (g.bX.map aS.jE))) 5<|
 Fu (¬aa3 b l ms g) 6<|
 Fu (¬aa4 b l ms g) 7<|
 Fu (¬adZ b l ms g) 8<|
 fun r=>r=0
theorem X7.fun {b:bf} {l:List aL} {ms:List Int} {g:bM} {bt:Bool}:zI (X7 b l ms g bt):=.chk (.chk (.chk (.chk (.chk (.chk (.chk (.chk .zero)))))))
def X8 (b:bf) (l:List aL) (ms:List Int) (g:bM) (bt:Bool):Int→Prop:=Fu (¬Fw b l 0) 1 (X7 b l ms g bt)
theorem X8.fun {b:bf} {l:List aL} {ms:List Int} {g:bM} {bt:Bool}:zI (X8 b l ms g bt):=.chk X7.fun
theorem aa5 {s:fO} (h:V8 s.cZ s.aO∧X0 s.bD s.cZ s.aV):UZ s:=by
 obtain ⟨h1,⟨h2,h3,h4,h5,h6⟩,_,_⟩:=h;exact ⟨fU 0 fun j hj=>(h1 j om).1,om,om,om,om,om⟩
theorem OL {p:aX} {us:List aS} (h:Oh p (us.map aS.jE)):∀u∈us,JL p u.jE:=by
 refine fU bA fun i hi=>?_;have:=(h i (by rw [List.length_map]; omega)).1;rw [Wh (d:=bA) hi] at this;exact this
theorem FU {s_:fO} (h1:QW s_) (h2:∀g∈s_.bD.aP.av,g.bG.length≤2000000∧g.ak.length≤2000000):W (lS s_) (fun r=>X7 s_.bD s_.cZ s_.aO s_.aV s_.iD r):=by
 unfold lS;refine wn ?_;refine aF (H7 h1) fun v1 hv1=>?_;refine wi (fun c1=>?_) (fun c1=>?_)
 ·refine wn ?_;refine au ?_;(exact dM (iX hv1 c1))
 ·have q1:=hv1.1 c1;have hsh:=aa5 q1;refine wm ?_;refine aF (FN h1) fun v2 hv2=>?_;subst v2;refine wi (fun c2=>?_) (fun c2=>?_)
  ·refine wn ?_;refine au ?_;(exact aJ (fun h=>h q1) (dM c2))
  ·refine wm ?_;refine aF (FP h1 hsh c2) fun v3 hv3=>?_;refine wi (fun c3=>?_) (fun c3=>?_)
   ·refine wn ?_;refine au ?_;(exact aJ (fun h=>h q1) (aJ (by rw [c2]; decide) (dM (iX hv3 c3))))
   ·have q3:=hv3.1 c3;refine wm ?_;refine aF (C8 h1 hsh) fun v4 hv4=>?_;subst v4;refine wi (fun c4=>?_) (fun c4=>?_)
    ·refine wn ?_;refine au ?_;(exact aJ (fun h=>h q1) (aJ (by rw [c2]; decide) (aJ (fun h=>h q3) (dM c4))))
    ·refine wm ?_;refine aF (Je h1 h2) fun v5 hv5=>?_;refine wi (fun c5=>?_) (fun c5=>?_)
     ·refine wn ?_;refine au ?_;(exact aJ (fun h=>h q1) (aJ (by rw [c2]; decide) (aJ (fun h=>h q3) (aJ (by rw [c4]; decide) (dM (iX hv5 c5))))))
     ·have q5:=hv5.1 c5;refine wm ?_;refine aF (BP h1 hsh (OL q5.2)) fun v6 hv6=>?_;refine wi (fun c6=>?_) (fun c6=>?_)
      ·refine wn ?_;refine au ?_;(exact aJ (fun h=>h q1) (aJ (by rw [c2]; decide) (aJ (fun h=>h q3) (aJ (by rw [c4]; decide) (aJ (fun h=>h q5) (dM (iX hv6 c6)))))))
      ·have q6:=hv6.1 c6;refine wm ?_;refine aF (FT h1 hsh) fun v7 hv7=>?_;refine wi (fun c7=>?_) (fun c7=>?_)
       ·refine wn ?_;refine au ?_;(exact aJ (fun h=>h q1) (aJ (by rw [c2]; decide) (aJ (fun h=>h q3) (aJ (by rw [c4]; decide) (aJ (fun h=>h q5) (aJ (fun h=>h q6) (dM (iX hv7 c7))))))))
       ·have q7:=hv7.1 c7;refine wm ?_;refine aF (D8 h1 hsh) fun v8 BH=>?_;refine wi (fun c8=>?_) (fun c8=>?_)
        ·refine wn ?_;refine au ?_;(exact aJ (fun h=>h q1) (aJ (by rw [c2]; decide) (aJ (fun h=>h q3) (aJ (by rw [c4]; decide) (aJ (fun h=>h q5) (aJ (fun h=>h q6) (aJ (fun h=>h q7) (dM (iX BH c8)))))))))
        ·refine wn ?_;refine au ?_;(exact aJ (fun h=>h q1) (aJ (by rw [c2]; decide) (aJ (fun h=>h q3) (aJ (by rw [c4]; decide) (aJ (fun h=>h q5) (aJ (fun h=>h q6) (aJ (fun h=>h q7) (aJ (fun h=>h (BH.1 c8)) rfl))))))))
theorem Oi {b_:bf} {l_:(List aL)} {ah:(List Int)} {g_:bM} {fD:Bool} (h1:yh b_) (h2:∀g∈b_.aP.av,g.bG.length≤2000000∧g.ak.length≤2000000) (h3:Jd l_) (h4:ah.length≤10000) (h5:K6 g_):W (xP b_ l_ ah g_ fD) (fun r=>X8 b_ l_ ah g_ fD r):=by
 unfold xP;refine aF (Rj h1 h2 h3) fun v1 hv1=>?_;refine wi (fun c1=>?_) (fun c1=>?_)
 ·refine au ?_;exact dM (fun h=>c1 (Fw.fun _ _ hv1 h))
 ·have hn0:Fw b_ l_ 0:=(by rw [c1] at hv1; exact hv1);obtain ⟨nk1,nk2,nk3⟩:=IX hn0;refine aF (FU ⟨h1,nk1,nk2,nk3,h3,h4,h5⟩ h2) fun v2 hv2=>?_;refine au ?_;exact aJ (fun h=>h hn0) hv2
theorem Oj {b_:bf} {g_:bM} {x_:aL} {fD:Bool} (h1:b_.bQ.length≤2000000) (h2:g_.dF.length≤2000000) (h3:ChOK b_.bQ) (h4:meetsF b_.bQ g_.dF []=true) (h5:∀x∈x_.bP,TQ b_.bQ.length x) (h6:x_.bP.length≤2000000):W (xS b_ g_ x_ fD) (fun r=>r=true↔X4 b_ g_ x_ fD):=by
 unfold xS;refine bq (fun (g1:Int)=>0≤g1∧(∀j:Nat,(j:Int)<g1→X3 ((ratesF b_.bQ g_.dF).getD (x_.bP.getD j cB).dW.toNat dO) (x_.bP.getD j cB) fD)) (fun (g1:Int)=>(x_.bP.length - g1).toNat) ?_ ?_
 ·intro aj g1 dH bL;obtain ⟨cK,bC⟩:=dH;unfold EZ;refine wi (fun c1=>?_) (fun c1=>?_)
  ·have hx:=h5 _ (getD_in (i:=g1.toNat) cB om);refine wn ?_;refine wi (fun c2=>?_) (fun c2=>?_)
   ·subst c2;unfold mo;refine aF (zu ob ob ob ob) fun v3 hv3=>?_;subst v3;refine wi (fun c3=>?_) (fun c3=>?_)
    ·refine au ?_;(constructor; (intro e; cases e); (intro h; exfalso; rw [(Qf h4 hx).2 (h g1.toNat om)] at c3; cases c3))
    ·refine wn ?_;refine bL _ ?_ ?_
     ·(refine ⟨ob,dn bC cK ((Qf h4 hx).1 c3)⟩)
     ·exact ob
   ·subst c2;unfold mo;refine aF (zu ob ob ob ob) fun v3 hv3=>?_;subst v3;refine wi (fun c4=>?_) (fun c4=>?_)
    ·refine au ?_;(constructor; (intro e; cases e); (intro h; exfalso; rw [(Qg h4 hx).2 (h g1.toNat om)] at c4; cases c4))
    ·refine wn ?_;refine bL _ ?_ ?_
     ·(refine ⟨ob,dn bC cK ((Qg h4 hx).1 c4)⟩)
     ·exact ob
  ·refine au ?_;(constructor; (intro _; exact fun j hj=>bC j om); (intro _; rfl))
 ·(refine ⟨ob,fun j hj=>by (try dsimp only at hj); omega⟩)
theorem Kn {b_:bf} {g_:bM} {x_:aL} {aR:Int} (h1:g_.bX.length≤2000000) (h2:x_.ak.length≤2000000) (h3:∀u∈g_.bX,JL b_.aP u.jE):W (pI b_ g_ x_ aR) (fun r=>r=true↔X5 b_ g_ x_ aR):=by
 unfold pI;refine bq (fun (g1:Int)=>0≤g1∧(∀j:Nat,(j:Int)<g1→cntF x_.ak (fnG x_.ak j)≤Rk b_.aP g_.bX aR (fnG x_.ak j))) (fun (g1:Int)=>(x_.ak.length - g1).toNat) ?_ ?_
 ·intro aj g1 dH bL;obtain ⟨cK,bC⟩:=dH;unfold zi;refine wi (fun c1=>?_) (fun c1=>?_)
  ·refine wn ?_;refine bq (fun (g6:(Int×Int))=>0≤g6.2∧g6.2≤x_.ak.length∧(0≤g6.1∧g6.1≤g6.2)∧g6.1=(cntF (x_.ak.take g6.2.toNat) (x_.ak.getD g1.toNat ByteArray.empty):Int)) (fun (g6:(Int×Int))=>(x_.ak.length - g6.2).toNat) ?_ ?_
   ·intro gU g6 zH vY;obtain ⟨wU,lg,Fq,NK⟩:=zH;unfold zh;refine wi (fun c2=>?_) (fun c2=>?_)
    ·refine wn ?_;refine bF (fun c3=>?_) (fun c3=>?_)
     ·have iB:=c3;have c3:=nr c3;refine wm ?_;refine vY _ ?_ ?_
      ·(refine ⟨ob,ob,ob,?_⟩; dsimp only; rw [NK,show (g6.2+1).toNat=g6.2.toNat+1 by omega,take_snoc ByteArray.empty om,IW,if_pos (P6 (by simpa using iB))]; rfl)
      ·exact ob
     ·have iB:=c3;have c3:=nr c3;refine wn ?_;refine vY _ ?_ ?_
      ·(refine ⟨ob,ob,ob,?_⟩; dsimp only; rw [NK,show (g6.2+1).toNat=g6.2.toNat+1 by omega,take_snoc ByteArray.empty om,IW,if_neg (fun e=>by rw [e] at iB; simp at iB)]; rfl)
      ·exact ob
    ·refine bq (fun (g7:(Int×Int))=>0≤g7.2∧g7.2≤g_.bX.length∧(0≤g7.1∧g7.1≤g7.2)∧g7.1=(Rk b_.aP (g_.bX.take g7.2.toNat) aR (x_.ak.getD g1.toNat ByteArray.empty):Int)) (fun (g7:(Int×Int))=>(g_.bX.length - g7.2).toNat) ?_ ?_
     ·intro jU g7 MC Jc;obtain ⟨P8,wW,Vv,X9⟩:=MC;unfold wQ;refine wi (fun c4=>?_) (fun c4=>?_)
      ·obtain ⟨u1,u2,u3,u4⟩:=h3 _ (getD_in (i:=g7.2.toNat) bA om);refine wm ?_;refine wn ?_;refine bF (fun c5=>?_) (fun c5=>?_)
       ·have yg:=c5;have c5:=nr c5;refine wm ?_;refine Jc _ ?_ ?_
        ·(refine ⟨ob,ob,ob,?_⟩; dsimp only; rw [X9,show (g7.2+1).toNat=g7.2.toNat+1 by omega,take_snoc bA om,IV,if_pos (by simp only [Bool.and_eq_true,beq_iff_eq] at yg; exact ⟨yg.1,P6 yg.2⟩)]; rfl)
        ·exact ob
       ·have yg:=c5;have c5:=nr c5;refine wn ?_;refine Jc _ ?_ ?_
        ·(refine ⟨ob,ob,ob,?_⟩; dsimp only; rw [X9,show (g7.2+1).toNat=g7.2.toNat+1 by omega,take_snoc bA om,IV,if_neg (fun e=>by have e2:=e.2; unfold nmU at e2; rw [e.1,e2] at yg; simp at yg)]; rfl)
        ·exact ob
      ·rw [List.take_of_length_le om] at NK X9;refine wi (fun c6=>?_) (fun c6=>?_)
       ·refine au ?_;(constructor; (intro e; cases e); (intro h; exfalso; have:=h (x_.ak.getD g1.toNat ByteArray.empty); omega))
       ·refine wn ?_;refine bL _ ?_ ?_
        ·(refine ⟨ob,dn bC cK (by unfold fnG; omega)⟩)
        ·exact ob
     ·(refine ⟨ob,ob,ob,rfl⟩)
   ·(refine ⟨ob,ob,ob,rfl⟩)
  ·refine au ?_;(constructor; (intro _ f; rcases Nat.eq_zero_or_pos (cntF x_.ak f) with e | e; (omega); (obtain ⟨j,h4,rfl⟩:=X6 e; exact bC j om)); (intro _; rfl))
 ·(refine ⟨ob,fun j hj=>by (try dsimp only at hj); omega⟩)
end Go.Proofs.YtccjmcmolnbiiaaGreatDoor
namespace Go.Proofs.YtccjmcmolnbiiaaGreatDoor.Sp
open Go.Ab
set_option maxRecDepth 100000
theorem Qh {l_:(List aG)} {r_:dB} (h1:l_.length≤2000000) (h2:r_.dQ.length≤2000000):W (Av l_ r_) (fun r=>r=railsF l_ r_):=by
 unfold Av;refine aF (Sp.uJ ob) fun v1 hv1=>?_;subst v1;refine bF (fun c1=>?_) (fun c1=>?_)
 ·have eH:=c1;have c1:=nr c1;refine au ?_;(unfold railsF; rw [eH]; rfl)
 ·have eH:=c1;have c1:=nr c1;have hck:checkF l_=0∧r_.On.length=l_.length∧r_.dQ.length=l_.length:=(by have:=eH; simp only [Bool.or_eq_false_iff,bne_eq_false_iff_eq] at this; omega);obtain ⟨b1,b2,b3⟩:=check_bounds hck.1;refine bq (fun (g1:Int)=>0≤g1∧g1≤l_.length∧rlN (l_.drop g1.toNat) (r_.dQ.drop g1.toNat)=rlN l_ r_.dQ) (fun (g1:Int)=>(l_.length - g1).toNat) ?_ ?_
  ·intro aj g1 dH bL;obtain ⟨cK,bC,bJ⟩:=dH;unfold GV;obtain ⟨i,rfl⟩:=Int.eq_ofNat_of_zero_le cK;refine wi (fun c2=>?_) (fun c2=>?_)
   ·have hlt:i<l_.length:=om;have hb:=b2 i hlt;rw [show ((i:Int).toNat)=i from rfl,drop_cons aC hlt,drop_cons 0 (show i<r_.dQ.length by omega),rlN] at bJ;simp only [Int.toNat_natCast] at *;refine wm ?_;refine wn ?_;refine aF (Sp.lY) fun v4 hv4=>?_;subst v4;refine bF (fun c3=>?_) (fun c3=>?_)
    ·have iB:=c3;have c3:=nr c3;refine au ?_;(unfold railsF; rw [eH,← bJ]; rw [show withinF (r_.dQ.getD i 0) 0 _=false by simpa using iB]; rfl)
    ·have iB:=c3;have c3:=nr c3;refine wn ?_;refine bL _ ?_ ?_
     ·(refine ⟨ob,ob,?_⟩; rw [← bJ,show withinF (r_.dQ.getD i 0) 0 _=true by simpa using iB,show ((i:Int)+1).toNat=i+1 by omega]; rfl)
     ·exact ob
   ·refine au ?_;have e:i=l_.length:=om;unfold railsF; rw [eH,← bJ,show (i:Int).toNat=i from rfl,e,List.drop_length]; cases List.drop l_.length r_.dQ<;>rfl
  ·(refine ⟨ob,ob,rfl⟩)
end Go.Proofs.YtccjmcmolnbiiaaGreatDoor.Sp
namespace Go.Proofs.YtccjmcmolnbiiaaGreatDoor
open Go.Ab
set_option maxRecDepth 100000
theorem Qi {l_:(List aG)} {r_:dB} {d_:(List bE)} (h1:l_.length≤2000000) (h2:d_.length≤2000000) (h3:r_.dQ.length≤2000000):W (Aw l_ r_ d_) (fun r=>r=Sp.meetsF l_ r_ d_):=by
 unfold Aw;refine aF (Sp.JO ob ob) fun v1 hv1=>?_;subst v1;refine aF (fP fun hc=>jT (Sp.Qh ob ob)) fun v2 hv2=>?_;subst v2;refine aF (fP fun hc=>jT (Sp.JQ (Sp.vld_of (by simp only [Bool.and_eq_true] at hc; exact hc.1)) (Sp.rails_iff.1 (by simp only [Bool.and_eq_true] at hc; exact hc.2)).2)) fun v3 hv3=>?_;subst v3;refine au ?_;(unfold Sp.meetsF; cases Sp.drawsF l_ d_<;>cases Sp.railsF l_ r_<;>rfl)
theorem Ol {b_:bf} {l_:(List aL)} {ah:(List Int)} {g_:bM} {fD:Bool} (h1:yh b_) (h2:∀g∈b_.aP.av,g.bG.length≤2000000∧g.ak.length≤2000000) (h3:Jd l_) (h4:ah.length≤10000) (h5:K6 g_):W (xV b_ l_ ah g_ fD) (fun r=>X8 b_ l_ ah g_ fD r):=by
 obtain ⟨n3,n4⟩:=id h3;obtain ⟨s1,s2,s3,s4,s5,s6,s7⟩:=id h1;obtain ⟨z1,z2,z3,z4,z5,z6⟩:=id h5;unfold xV;refine aF (uO h1 h2 h3) fun v1 hv1=>?_;refine aF (qj fun hc=>nW n3 om) fun v2 hv2=>?_;refine aF (qj fun hc=>Og h1 n3 h5) fun v3 hv3=>?_;refine bF (fun c1=>?_) (fun c1=>?_)
 ·have eH:=c1;have c1:=nr c1;refine au ?_;(by_cases q:Fw b_ l_ 0; (refine aJ (fun h=>h q) (dM (fun h=>?_)); have e:=Fw.fun _ _ hv1 q; have a2:=(hv2 (by rw [e]; rfl)).2 h.1; have a3:=(hv3 (by rw [e,a2]; rfl)).2 h.2; rw [e,a2,a3] at eH; cases eH); exact dM q)
 ·have eH:=c1;have c1:=nr c1;have e1:v1=0∧v2=true∧v3=true:=(by simp only [Bool.or_eq_false_iff,bne_eq_false_iff_eq,Bool.not_eq_false'] at eH; exact ⟨eH.1.1,eH.1.2,eH.2⟩);have hn0:Fw b_ l_ 0:=(by rw [e1.1] at hv1; exact hv1);have q1:V8 l_ ah∧X0 b_ l_ g_:=⟨(hv2 (by rw [e1.1]; rfl)).1 e1.2.1,(hv3 (by rw [e1.1,e1.2.1]; rfl)).1 e1.2.2⟩;have nok:=IX hn0;have hsl:=q1.2.1;refine aF (zu s1 z1 (by decide) s2) fun v4 hv4=>?_;subst v4;refine wi (fun c2=>?_) (fun c2=>?_)
  ·refine au ?_;(exact aJ (fun h=>h hn0) (aJ (fun h=>h q1) (dM c2)))
  ·refine bq (fun (g1:(Int×(List bE)))=>0≤g1.1∧g1.1≤ah.length∧(g1.2.length:Int)≤32*g1.1∧g1.2=Y9 l_ (ah.take g1.1.toNat)∧(∀i:Nat,(i:Int)<g1.1→X4 b_ g_ (l_.getD (ah.getD i 0).toNat bB) fD)) (fun (g1:(Int×(List bE)))=>(ah.length - g1.1).toNat) ?_ ?_
   ·intro aj g1 dH bL;obtain ⟨cK,bC,bJ,ji,G9⟩:=dH;unfold Fb;refine wi (fun c3=>?_) (fun c3=>?_)
    ·have hmi:=(q1.1 g1.1.toNat om).1;have hnd:=getD_in (l:=l_) (i:=(ah.getD g1.1.toNat 0).toNat) bB om;have hno:=nok.2.2 _ hnd;have hns:=n4 _ hnd;obtain ⟨o1,o2,o3,o4,o5,o6,o7⟩:=id hno;refine aM (by first | omega | (unfold InI64; omega) | (intro h0; have:=of_decide_eq_true h0; omega) | (unfold big; omega)) ?_;refine aM (by first | omega | (unfold InI64; omega) | (intro h0; have:=of_decide_eq_true h0; omega) | (unfold big; omega)) ?_;refine aF (Oj s1 z1 s2 c2 o4 om) fun v7 hv7=>?_;refine wi (fun c4=>?_) (fun c4=>?_)
     ·refine au ?_;(exact aJ (fun h=>h hn0) (aJ (fun h=>h q1) (aJ (by rw [c2]; decide) (dM (fun h=>iX hv7 c4 (h g1.1.toNat om))))))
     ·refine aM (by first | omega | (unfold InI64; omega) | (intro h0; have:=of_decide_eq_true h0; omega) | (unfold big; omega)) ?_;refine aM (by first | omega | (unfold InI64; omega) | (intro h0; have:=of_decide_eq_true h0; omega) | (unfold big; omega)) ?_;refine aM (by first | omega | (unfold InI64; omega) | (intro h0; have:=of_decide_eq_true h0; omega) | (unfold big; omega)) ?_;refine bL _ ?_ ?_
      ·(refine ⟨om,om,by (simp only [List.length_append]; omega),?_,dn G9 cK (hv7.1 c4)⟩; dsimp only; unfold Y9 at *; rw [show (g1.1+1).toNat=g1.1.toNat+1 by omega,take_snoc 0 om,List.flatMap_append,ji]; simp only [List.flatMap_cons,List.flatMap_nil,List.append_nil])
      ·omega
    ·have q3:aa2 b_ l_ ah g_ fD:=fun i hi=>G9 i om;have hdr:g1.2=Y9 l_ ah:=(by rw [ji,show g1.1.toNat=ah.length by omega,List.take_length]);have ad1:(Y9 l_ ah).length≤2000000:=(by rw [← hdr]; omega);rw [hdr];refine aF (Qi s3 ad1 z3) fun v8 BH=>?_;subst v8;refine wi (fun c5=>?_) (fun c5=>?_)
     ·refine au ?_;(exact aJ (fun h=>h hn0) (aJ (fun h=>h q1) (aJ (by rw [c2]; decide) (aJ (fun h=>h q3) (dM c5)))))
     ·refine aF (JW z4) fun v9 SB=>?_;subst v9;refine aF (Fx h2 (by rw [List.length_map]; exact z4)) fun v10 CZ=>?_;refine wi (fun c6=>?_) (fun c6=>?_)
      ·refine au ?_;(exact aJ (fun h=>h hn0) (aJ (fun h=>h q1) (aJ (by rw [c2]; decide) (aJ (fun h=>h q3) (aJ (by rw [c5]; decide) (dM (fun h=>c6 (CZ.2 h))))))))
      ·have q5:=CZ.1 c6;have hown:=OL q5.2;refine bq (fun (g2:Int)=>0≤g2∧(∀i:Nat,(i:Int)<g2→X5 b_ g_ (l_.getD (ah.getD i 0).toNat bB) (ah.getD i 0))) (fun (g2:Int)=>(ah.length - g2).toNat) ?_ ?_
       ·intro cO g2 jD kC;obtain ⟨kI,gJ⟩:=jD;unfold CU;refine wi (fun c7=>?_) (fun c7=>?_)
        ·have hmi:=(q1.1 g2.toNat om).1;have hnd:=getD_in (l:=l_) (i:=(ah.getD g2.toNat 0).toNat) bB om;have hno:=nok.2.2 _ hnd;have hns:=n4 _ hnd;obtain ⟨o1,o2,o3,o4,o5,o6,o7⟩:=id hno;refine aM (by first | omega | (unfold InI64; omega) | (intro h0; have:=of_decide_eq_true h0; omega) | (unfold big; omega)) ?_;refine aM (by first | omega | (unfold InI64; omega) | (intro h0; have:=of_decide_eq_true h0; omega) | (unfold big; omega)) ?_;refine aF (Kn z4 om hown) fun v13 QM=>?_;refine wi (fun c8=>?_) (fun c8=>?_)
         ·refine au ?_;(exact aJ (fun h=>h hn0) (aJ (fun h=>h q1) (aJ (by rw [c2]; decide) (aJ (fun h=>h q3) (aJ (by rw [c5]; decide) (aJ (fun h=>h q5) (dM (fun h=>iX QM c8 (h g2.toNat om)))))))))
         ·refine aM (by first | omega | (unfold InI64; omega) | (intro h0; have:=of_decide_eq_true h0; omega) | (unfold big; omega)) ?_;refine kC _ ?_ ?_
          ·(refine ⟨om,dn gJ kI (QM.1 c8)⟩)
          ·omega
        ·have q6:aa3 b_ l_ ah g_:=fun i hi=>gJ i om;refine aF (Oc s6) fun v14 QN=>?_;refine wi (fun c9=>?_) (fun c9=>?_)
         ·refine au ?_;(exact aJ (fun h=>h hn0) (aJ (fun h=>h q1) (aJ (by rw [c2]; decide) (aJ (fun h=>h q3) (aJ (by rw [c5]; decide) (aJ (fun h=>h q5) (aJ (fun h=>h q6) (dM (fun h=>iX QN c9 h.1)))))))))
         ·have q7a:=QN.1 c9;refine bq (fun (g3:Int)=>0≤g3∧(∀i:Nat,(i:Int)<g3→YN g_ (l_.getD (ah.getD i 0).toNat bB))) (fun (g3:Int)=>(ah.length - g3).toNat) ?_ ?_
          ·intro iy g3 NZ Kj;obtain ⟨NJ,mq⟩:=NZ;unfold CS;refine wi (fun c10=>?_) (fun c10=>?_)
           ·have hmi:=(q1.1 g3.toNat om).1;have hnd:=getD_in (l:=l_) (i:=(ah.getD g3.toNat 0).toNat) bB om;have hno:=nok.2.2 _ hnd;have hns:=n4 _ hnd;obtain ⟨o1,o2,o3,o4,o5,o6,o7⟩:=id hno;refine aM (by first | omega | (unfold InI64; omega) | (intro h0; have:=of_decide_eq_true h0; omega) | (unfold big; omega)) ?_;refine aM (by first | omega | (unfold InI64; omega) | (intro h0; have:=of_decide_eq_true h0; omega) | (unfold big; omega)) ?_;refine bq (fun (g6:Int)=>0≤g6∧(∀j:Nat,(j:Int)<g6→g_.dV.getD ((l_.getD (ah.getD g3.toNat 0).toNat bB).aY.getD j 0).toNat false=true)) (fun (g6:Int)=>((l_.getD (ah.getD g3.toNat 0).toNat bB).aY.length - g6).toNat) ?_ ?_
            ·intro gU g6 zH vY;obtain ⟨wU,lg⟩:=zH;unfold CP;refine wi (fun c11=>?_) (fun c11=>?_)
             ·have hx:=o6 _ (getD_in (i:=g6.toNat) 0 om);refine aM (by first | omega | (unfold InI64; omega) | (intro h0; have:=of_decide_eq_true h0; omega) | (unfold big; omega)) ?_;refine aM (by first | omega | (unfold InI64; omega) | (intro h0; have:=of_decide_eq_true h0; omega) | (unfold big; omega)) ?_;refine wi (fun c12=>?_) (fun c12=>?_)
              ·refine au ?_;(exact aJ (fun h=>h hn0) (aJ (fun h=>h q1) (aJ (by rw [c2]; decide) (aJ (fun h=>h q3) (aJ (by rw [c5]; decide) (aJ (fun h=>h q5) (aJ (fun h=>h q6) (dM (fun h=>by have:=h.2 g3.toNat om g6.toNat om; rw [this] at c12; cases c12)))))))))
              ·refine aM (by first | omega | (unfold InI64; omega) | (intro h0; have:=of_decide_eq_true h0; omega) | (unfold big; omega)) ?_;refine vY _ ?_ ?_
               ·(refine ⟨om,dn lg wU c12⟩)
               ·omega
             ·refine aM (by first | omega | (unfold InI64; omega) | (intro h0; have:=of_decide_eq_true h0; omega) | (unfold big; omega)) ?_;refine Kj _ ?_ ?_
              ·(refine ⟨om,dn mq NJ (fun j hj=>lg j om)⟩)
              ·omega
            ·(refine ⟨om,fun j hj=>by (try dsimp only at hj); omega⟩)
           ·have q7:aa4 b_ l_ ah g_:=⟨q7a,fun i hi=>mq i om⟩;refine aF (P9) fun v15 Sy=>?_;refine wi (fun c13=>?_) (fun c13=>?_)
            ·refine au ?_;(exact aJ (fun h=>h hn0) (aJ (fun h=>h q1) (aJ (by rw [c2]; decide) (aJ (fun h=>h q3) (aJ (by rw [c5]; decide) (aJ (fun h=>h q5) (aJ (fun h=>h q6) (aJ (fun h=>h q7) (dM (fun h=>iX Sy c13 h.1))))))))))
            ·have q8a:=Sy.1 c13;refine bq (fun (g7:Int)=>0≤g7∧(∀i:Nat,(i:Int)<g7→YO g_ (l_.getD (ah.getD i 0).toNat bB))) (fun (g7:Int)=>(ah.length - g7).toNat) ?_ ?_
             ·intro jU g7 MC Jc;obtain ⟨P8,wW⟩:=MC;unfold CQ;refine wi (fun c14=>?_) (fun c14=>?_)
              ·have hmi:=(q1.1 g7.toNat om).1;have hnd:=getD_in (l:=l_) (i:=(ah.getD g7.toNat 0).toNat) bB om;have hno:=nok.2.2 _ hnd;have hns:=n4 _ hnd;obtain ⟨o1,o2,o3,o4,o5,o6,o7⟩:=id hno;refine aM (by first | omega | (unfold InI64; omega) | (intro h0; have:=of_decide_eq_true h0; omega) | (unfold big; omega)) ?_;refine aM (by first | omega | (unfold InI64; omega) | (intro h0; have:=of_decide_eq_true h0; omega) | (unfold big; omega)) ?_;refine aM (by first | omega | (unfold InI64; omega) | (intro h0; have:=of_decide_eq_true h0; omega) | (unfold big; omega)) ?_;refine bF (fun c15=>?_) (fun c15=>?_)
               ·have Z7:=c15;have c15:=nr c15;refine au ?_;(exact aJ (fun h=>h hn0) (aJ (fun h=>h q1) (aJ (by rw [c2]; decide) (aJ (fun h=>h q3) (aJ (by rw [c5]; decide) (aJ (fun h=>h q5) (aJ (fun h=>h q6) (aJ (fun h=>h q7) (dM (fun h=>by have:=h.2 g7.toNat om c15.1; rw [this] at c15; cases c15.2))))))))))
               ·have Z7:=c15;have c15:=nr c15;refine aM (by first | omega | (unfold InI64; omega) | (intro h0; have:=of_decide_eq_true h0; omega) | (unfold big; omega)) ?_;refine Jc _ ?_ ?_
                ·(refine ⟨om,dn wW P8 (fun h0=>?_)⟩; simp only [Bool.and_eq_false_iff,decide_eq_false_iff_not,Bool.not_eq_false'] at Z7; exact Z7.resolve_left (fun q=>q h0))
                ·omega
              ·refine au ?_;(exact aJ (fun h=>h hn0) (aJ (fun h=>h q1) (aJ (by rw [c2]; decide) (aJ (fun h=>h q3) (aJ (by rw [c5]; decide) (aJ (fun h=>h q5) (aJ (fun h=>h q6) (aJ (fun h=>h q7) (aJ (fun h=>h ⟨q8a,fun i hi=>wW i om⟩) rfl)))))))))
             ·(refine ⟨om,fun j hj=>by (try dsimp only at hj); omega⟩)
          ·(refine ⟨om,fun j hj=>by (try dsimp only at hj); omega⟩)
       ·(refine ⟨om,fun j hj=>by (try dsimp only at hj); omega⟩)
   ·(refine ⟨om,by (dsimp only; omega),by (simp only [List.length_nil]; omega),rfl,fun i hi=>by (try dsimp only at hi); omega⟩)
def cfg:Cfg where
 ty:=[(3,⟨1,false,8,[(.int .i64)],(.int .i64)⟩),
 (4,⟨1,false,1,[.bool],.bool⟩),
 (5,⟨1,false,1,[(.int .u8)],(.int .u8)⟩),
 (9,⟨1,false,16,[.str],.str⟩),
 (22,⟨1,false,24,[.slice],(.slice 3)⟩),
 (24,⟨1,false,8,[.ptr],(.pointer 95)⟩),
 (26,⟨1,false,24,[.slice],(.slice 191)⟩),
 (27,⟨1,false,24,[.slice],(.slice 175)⟩),
 (28,⟨1,false,24,[.slice],(.slice 60)⟩),
 (29,⟨2,true,32,[(.int .i64),.slice],(.struct [(0,3),(1,28)])⟩),
 (30,⟨2,true,32,[(.int .i64),.slice],(.struct [(0,3),(1,28)])⟩),
 (31,⟨1,false,24,[.slice],(.slice 133)⟩),
 (32,⟨1,false,24,[.slice],(.slice 136)⟩),
 (33,⟨6,true,128,[.slice,.slice,(.int .i64),.slice,.slice,.slice],(.struct [(0,26),(1,27),(2,30),(4,31),(5,32)])⟩),
 (34,⟨6,true,128,[.slice,.slice,(.int .i64),.slice,.slice,.slice],(.struct [(0,26),(1,27),(2,30),(4,31),(5,32)])⟩),
 (35,⟨1,false,24,[.slice],(.slice 53)⟩),
 (36,⟨1,false,24,[.slice],(.slice 4)⟩),
 (37,⟨2,true,48,[.slice,.slice],(.struct [(0,36),(1,22)])⟩),
 (38,⟨2,true,48,[.slice,.slice],(.struct [(0,36),(1,22)])⟩),
 (39,⟨1,false,24,[.slice],(.slice 57)⟩),
 (40,⟨6,true,144,[.slice,.slice,.slice,.slice,.slice,.slice],(.struct [(0,22),(1,38),(3,39),(4,36),(5,36)])⟩),
 (41,⟨6,true,144,[.slice,.slice,.slice,.slice,.slice,.slice],(.struct [(0,22),(1,38),(3,39),(4,36),(5,36)])⟩),
 (44,⟨1,false,8,[(.int .i64)],(.int .i64)⟩),
 (49,⟨1,false,24,[.slice],(.slice 112)⟩),
 (50,⟨1,false,24,[.slice],(.slice 114)⟩),
 (51,⟨1,false,24,[.slice],(.slice 9)⟩),
 (52,⟨6,true,128,[.slice,.slice,.slice,.slice,(.int .i64),.slice],(.struct [(0,49),(1,50),(2,51),(3,22),(4,3),(5,22)])⟩),
 (53,⟨6,true,128,[.slice,.slice,.slice,.slice,(.int .i64),.slice],(.struct [(0,49),(1,50),(2,51),(3,22),(4,3),(5,22)])⟩),
 (54,⟨2,true,16,[(.int .i64),(.int .i64)],(.struct [(0,3),(1,3)])⟩),
 (55,⟨2,true,16,[(.int .i64),(.int .i64)],(.struct [(0,3),(1,3)])⟩),
 (56,⟨3,true,24,[(.int .i64),(.int .i64),(.int .i64)],(.struct [(0,3),(1,55)])⟩),
 (57,⟨3,true,24,[(.int .i64),(.int .i64),(.int .i64)],(.struct [(0,3),(1,55)])⟩),
 (59,⟨3,true,64,[.str,.slice,.slice],(.struct [(0,9),(1,22),(2,51)])⟩),
 (60,⟨3,true,64,[.str,.slice,.slice],(.struct [(0,9),(1,22),(2,51)])⟩),
 (64,⟨1,false,24,[.slice],(.slice 55)⟩),
 (67,⟨1,false,24,[.slice],(.slice 5)⟩),
 (69,⟨12,true,256,[.slice,.slice,(.int .i64),.slice,.slice,.slice,.slice,.slice,(.int .i64),.slice,.slice,.slice],(.array 2 34)⟩),
 (72,⟨3,true,72,[.slice,.slice,.slice],(.array 3 35)⟩),
 (73,⟨2,true,48,[.slice,.slice],(.array 2 22)⟩),
 (77,⟨18,true,432,[.slice,.slice,.slice,.slice,.slice,.slice,.slice,.slice,.slice,.slice,.slice,.slice,.slice,.slice,.slice,.slice,.slice,.slice],(.array 3 41)⟩),
 (81,⟨2,true,16,[(.int .i64),(.int .i64)],(.array 2 3)⟩),
 (94,⟨2,true,32,[.slice,(.int .i64)],(.struct [(0,22),(1,3)])⟩),
 (95,⟨2,true,32,[.slice,(.int .i64)],(.struct [(0,22),(1,3)])⟩),
 (111,⟨3,true,24,[(.int .i64),(.int .i64),(.int .i64)],(.struct [(0,3),(1,3),(2,3)])⟩),
 (112,⟨3,true,24,[(.int .i64),(.int .i64),(.int .i64)],(.struct [(0,3),(1,3),(2,3)])⟩),
 (113,⟨4,true,32,[(.int .i64),(.int .i64),(.int .i64),(.int .i64)],(.struct [(0,3),(1,3),(2,3),(3,3)])⟩),
 (114,⟨4,true,32,[(.int .i64),(.int .i64),(.int .i64),(.int .i64)],(.struct [(0,3),(1,3),(2,3),(3,3)])⟩),
 (116,⟨1,false,8,[.other],.other⟩),
 (118,⟨1,false,8,[.other],.other⟩),
 (130,⟨1,false,8,[.other],.other⟩),
 (132,⟨1,true,24,[.slice],(.struct [(0,22)])⟩),
 (133,⟨1,true,24,[.slice],(.struct [(0,22)])⟩),
 (135,⟨2,true,16,[(.int .i64),.bool],(.struct [(0,3),(1,4)])⟩),
 (136,⟨2,true,16,[(.int .i64),.bool],(.struct [(0,3),(1,4)])⟩),
 (149,⟨1,false,8,[.other],.other⟩),
 (150,⟨1,false,24,[.slice],(.slice 22)⟩),
 (151,⟨1,false,24,[.slice],(.slice 152)⟩),
 (152,⟨1,false,8,[(.int .u64)],(.int .u64)⟩),
 (153,⟨4,true,80,[.slice,.slice,.slice,(.int .u64)],(.struct [(0,150),(1,151),(2,22),(3,152)])⟩),
 (154,⟨4,true,80,[.slice,.slice,.slice,(.int .u64)],(.struct [(0,150),(1,151),(2,22),(3,152)])⟩),
 (174,⟨5,true,56,[(.int .i64),.slice,(.int .i64),(.int .i64),.bool],(.struct [(0,3),(1,22),(2,3),(3,3),(4,4)])⟩),
 (175,⟨5,true,56,[(.int .i64),.slice,(.int .i64),(.int .i64),.bool],(.struct [(0,3),(1,22),(2,3),(3,3),(4,4)])⟩),
 (178,⟨15,true,328,[.slice,.slice,(.int .i64),.slice,.slice,.slice,.slice,.slice,.slice,.slice,.slice,.slice,.slice,.slice,.bool],(.struct [(0,34),(6,35),(7,22),(8,41),(14,4)])⟩),
 (179,⟨15,true,328,[.slice,.slice,(.int .i64),.slice,.slice,.slice,.slice,.slice,.slice,.slice,.slice,.slice,.slice,.slice,.bool],(.struct [(0,34),(6,35),(7,22),(8,41),(14,4)])⟩),
 (190,⟨5,true,72,[(.int .i64),.slice,.slice,(.int .i64),(.int .i64)],(.struct [(0,3),(1,22),(2,22),(3,3),(4,3)])⟩),
 (191,⟨5,true,72,[(.int .i64),.slice,.slice,(.int .i64),(.int .i64)],(.struct [(0,3),(1,22),(2,22),(3,3),(4,3)])⟩),
 (194,⟨1,false,8,[.other],.other⟩),
 (196,⟨1,false,8,[.other],.other⟩),
 (197,⟨1,false,24,[.slice],(.slice 241)⟩),
 (202,⟨1,false,8,[.other],.other⟩),
 (203,⟨1,false,8,[.other],.other⟩),
 (205,⟨1,false,8,[.other],.other⟩),
 (208,⟨1,false,8,[.other],.other⟩),
 (210,⟨1,false,8,[.other],(.map 9 4)⟩),
 (218,⟨1,false,8,[.other],.other⟩),
 (219,⟨1,false,24,[.slice],(.slice 218)⟩),
 (221,⟨1,false,24,[.slice],(.slice 226)⟩),
 (225,⟨2,true,16,[(.int .i64),(.int .i64)],(.struct [(0,3),(1,3)])⟩),
 (226,⟨2,true,16,[(.int .i64),(.int .i64)],(.struct [(0,3),(1,3)])⟩),
 (232,⟨1,false,24,[.slice],(.slice 237)⟩),
 (236,⟨5,true,40,[(.int .i64),(.int .i64),(.int .i64),(.int .i64),.bool],(.struct [(0,3),(1,3),(2,3),(3,3),(4,4)])⟩),
 (237,⟨5,true,40,[(.int .i64),(.int .i64),(.int .i64),(.int .i64),.bool],(.struct [(0,3),(1,3),(2,3),(3,3),(4,4)])⟩),
 (240,⟨3,true,24,[(.int .i64),(.int .i64),(.int .i64)],(.struct [(0,3),(1,3),(2,3)])⟩),
 (241,⟨3,true,24,[(.int .i64),(.int .i64),(.int .i64)],(.struct [(0,3),(1,3),(2,3)])⟩),
 (248,⟨1,false,8,[.other],.other⟩),
 (256,⟨1,false,8,[.other],(.map 9 3)⟩),
 (261,⟨1,false,8,[.other],.other⟩),
 (263,⟨1,false,8,[(.int .u64)],(.int .u64)⟩),
 (269,⟨64,true,512,[(.int .i64),(.int .i64),(.int .i64),(.int .i64),(.int .i64),(.int .i64),(.int .i64),(.int .i64),(.int .i64),(.int .i64),(.int .i64),(.int .i64),(.int .i64),(.int .i64),(.int .i64),(.int .i64),(.int .i64),(.int .i64),(.int .i64),(.int .i64),(.int .i64),(.int .i64),(.int .i64),(.int .i64),(.int .i64),(.int .i64),(.int .i64),(.int .i64),(.int .i64),(.int .i64),(.int .i64),(.int .i64),(.int .i64),(.int .i64),(.int .i64),(.int .i64),(.int .i64),(.int .i64),(.int .i64),(.int .i64),(.int .i64),(.int .i64),(.int .i64),(.int .i64),(.int .i64),(.int .i64),(.int .i64),(.int .i64),(.int .i64),(.int .i64),(.int .i64),(.int .i64),(.int .i64),(.int .i64),(.int .i64),(.int .i64),(.int .i64),(.int .i64),(.int .i64),(.int .i64),(.int .i64),(.int .i64),(.int .i64),(.int .i64)],(.array 64 3)⟩),
 (270,⟨64,true,512,[(.int .i64),(.int .i64),(.int .i64),(.int .i64),(.int .i64),(.int .i64),(.int .i64),(.int .i64),(.int .i64),(.int .i64),(.int .i64),(.int .i64),(.int .i64),(.int .i64),(.int .i64),(.int .i64),(.int .i64),(.int .i64),(.int .i64),(.int .i64),(.int .i64),(.int .i64),(.int .i64),(.int .i64),(.int .i64),(.int .i64),(.int .i64),(.int .i64),(.int .i64),(.int .i64),(.int .i64),(.int .i64),(.int .i64),(.int .i64),(.int .i64),(.int .i64),(.int .i64),(.int .i64),(.int .i64),(.int .i64),(.int .i64),(.int .i64),(.int .i64),(.int .i64),(.int .i64),(.int .i64),(.int .i64),(.int .i64),(.int .i64),(.int .i64),(.int .i64),(.int .i64),(.int .i64),(.int .i64),(.int .i64),(.int .i64),(.int .i64),(.int .i64),(.int .i64),(.int .i64),(.int .i64),(.int .i64),(.int .i64),(.int .i64)],(.array 64 3)⟩),
 (276,⟨1,false,4,[(.int .u32)],(.int .u32)⟩),
 (283,⟨1,false,8,[.other],.other⟩)]
 eqs:=[(57,[(.int .i64),(.int .i64),(.int .i64)]),(226,[(.int .i64),(.int .i64)])]
 fns:=[(10,⟨[],true⟩),(11,⟨[0],true⟩),(12,⟨[],true⟩),(13,⟨[2],true⟩),(15,⟨[],true⟩),(16,⟨[],true⟩),(17,⟨[],true⟩),(18,⟨[],true⟩),(20,⟨[0],true⟩),(21,⟨[],true⟩),(22,⟨[1],true⟩),(23,⟨[],true⟩),(24,⟨[1],true⟩),(25,⟨[0],true⟩),(26,⟨[],true⟩),(27,⟨[2],true⟩),(30,⟨[0],false⟩),(31,⟨[2],true⟩),(32,⟨[2],true⟩),(33,⟨[],true⟩),(35,⟨[],true⟩),(40,⟨[],true⟩),(41,⟨[],true⟩),(42,⟨[0],true⟩),(43,⟨[0],true⟩),(46,⟨[],true⟩),(47,⟨[0],true⟩),(48,⟨[],true⟩),(49,⟨[],true⟩),(51,⟨[],true⟩),(54,⟨[0],false⟩),(55,⟨[0],false⟩),(56,⟨[0],false⟩),(57,⟨[],true⟩),(58,⟨[],true⟩),(59,⟨[],true⟩),(60,⟨[],true⟩),(65,⟨[],true⟩),(66,⟨[],true⟩),(67,⟨[1],true⟩),(73,⟨[],true⟩),(74,⟨[],true⟩),(75,⟨[0],true⟩),(79,⟨[0],true⟩),(80,⟨[0],true⟩),(81,⟨[0],true⟩),(82,⟨[0],true⟩),(83,⟨[0],true⟩),(84,⟨[0],false⟩),(85,⟨[0],false⟩),(86,⟨[0],true⟩),(87,⟨[0],true⟩),(89,⟨[],true⟩),(90,⟨[],true⟩),(91,⟨[],true⟩),(92,⟨[],true⟩),(93,⟨[],true⟩),(94,⟨[],true⟩),(95,⟨[],true⟩),(96,⟨[],true⟩),(97,⟨[],true⟩),(98,⟨[],true⟩),(99,⟨[],true⟩),(100,⟨[],true⟩),(101,⟨[],true⟩),(102,⟨[],true⟩),(103,⟨[],true⟩),(114,⟨[],true⟩),(116,⟨[],true⟩),(129,⟨[],true⟩),(132,⟨[],true⟩),(133,⟨[],true⟩),(134,⟨[],true⟩),(136,⟨[2],false⟩),(137,⟨[0,2,3],false⟩),(139,⟨[],true⟩),(140,⟨[],true⟩),(142,⟨[],true⟩),(147,⟨[],true⟩),(148,⟨[1,2,3,4],false⟩),(149,⟨[],true⟩),(163,⟨[],true⟩),(165,⟨[],true⟩),(176,⟨[],true⟩),(182,⟨[],true⟩),(185,⟨[],true⟩),(186,⟨[1],true⟩),(189,⟨[],true⟩),(190,⟨[],true⟩),(193,⟨[],true⟩),(198,⟨[],true⟩),(209,⟨[],true⟩),(211,⟨[1],false⟩),(212,⟨[],true⟩),(225,⟨[1],true⟩),(265,⟨[0],false⟩),(266,⟨[0],false⟩),(267,⟨[0],false⟩),(268,⟨[0],false⟩),(269,⟨[0],false⟩),(272,⟨[0],false⟩)]
 glob:=[(0,[iV (0:Int),iV (1:Int)])]
theorem cfgOK:CfgOK Tryz.prog cfg:=cfgOK_of (by kernel_rfl) (by kernel_rfl) (by kernel_rfl)
abbrev S:=Ab.Spec Tryz.prog cfg
open Go.Ab Go.RowKit Go.Shelf
attribute [local go_sem] Oper.semAt_some
set_option maxRecDepth 100000 in
set_option maxHeartbeats 2000000 in
theorem back_in (F:Fence) (n:Nat) (h7:F.fn 229) (hro:F.round=none) (hn:1≤n) (l B O b off len cap:Nat) (hlen:len≤1000000) (Keep:World→Prop)
  (c0 c1 c2 c3 c4:Nat→Value) (v1:Nat→Value) (hv:∀i,v1 i=.agg #[c0 i,c1 i,c2 i,c3 i,c4 i])
  (hB:∀w,Keep w→w.cell? ⟨B,O,none⟩=some (.slice (some ⟨b,off,none⟩) len cap))
  (h0:∀w i,Keep w→i<len→w.cell? ⟨b,off+i*5,none⟩=some (c0 i)) (h1:∀w i,Keep w→i<len→w.cell? ⟨b,off+i*5+1,none⟩=some (c1 i)) (h2:∀w i,Keep w→i<len→w.cell? ⟨b,off+i*5+2,none⟩=some (c2 i))
  (h3:∀w i,Keep w→i<len→w.cell? ⟨b,off+i*5+3,none⟩=some (c3 i)) (h4:∀w i,Keep w→i<len→w.cell? ⟨b,off+i*5+4,none⟩=some (c4 i))
  (J:Nat→World→Prop) (Jx:World→Prop)
  (hY:∀k W,k<len→J k W→YieldAt F (n - 1) Tryz.prog l #[.int .i64 ((len - 1 - k:Nat):Int),v1 (len - 1 - k)] W fun e W'=>
    (e=.returned (.bool true)∧J (k+1) W'∧Keep W')∨(e=.returned (.bool false)∧Jx W'))
  (W:World) (hW:Keep W) (hJ:J 0 W):
  CallsIn F n Tryz.prog 229 #[.func (.yield l) #[] #[],.pointer (some ⟨B,O,none⟩)] W fun e W'=>(∃v,e=.returned v)∧(J len W'∨Jx W'):=by
 refine callsIn_of_wp Tryz.func229 rfl h7 ?_ hro;simp only [Tryz.ntmps229,List.size_toArray,List.length_cons,List.length_nil,Nat.reduceAdd,Nat.reduceSub,Array.replicate_succ,Array.replicate_zero,List.push_toArray,List.append_toArray,List.nil_append,List.cons_append];have hB0:=hB W hW;gi_wp2;gi_loopw [3] (fun i wr=>∃k:Nat,k≤len∧i=.int .i64 ((len:Int) - 1 - k)∧J k wr∧Keep wr)
  (fun i _=>(intOf i+1).toNat)
 case atStart=>exact ⟨0,Nat.zero_le _,by simp,hJ,hW⟩
 case round=>
  obtain ⟨k,hk,rfl,hJs,hkp⟩:=hrel
  by_cases hlt:k<len
  ·obtain ⟨fn,tmps,assign,body,hy,hR⟩:=hY k wr hlt hJs
   have hBr:=hB wr hkp
   obtain ⟨i,hi⟩:∃i:Nat,i=len - 1 - k:=⟨_,rfl⟩
   rw [← hi] at hy
   have hil:i<len:=by omega
   have hii:((len:Int) - 1 - k)=(i:Int):=by omega
   rw [hii]
   have e0:=h0 wr i hkp hil
   have e1:=h1 wr i hkp hil
   have e2:=h2 wr i hkp hil
   have e3:=h3 wr i hkp hil
   have e4:=h4 wr i hkp hil
   rw [hv] at hy
   have A:Aside (i+k+1=len):=by show i+k+1=len; omega
   have hi0:¬ ((i:Int)<0):=by omega
   have hi1:0≤(i:Int):=by omega
   clear hi hii hlt hk
   gi_wp2
   refine hR.mono ?_
   rintro e W3 (⟨rfl,hJ3,hk3⟩ | ⟨rfl,hJx3⟩)
   ·have A':=A.out
    gi_wp2
    go_roundw
    case rel=>exact ⟨k+1,by omega,by have:=A'; simp; omega,hJ3,hk3⟩
    case measure=>simp [intOf]
   ·gi_wp2
    refine bodyPost_ret (results_none rfl _ _ _) rfl ?_
    exact ⟨⟨_,rfl⟩,.inr hJx3⟩
  ·obtain rfl:k=len:=by omega
   have hneg:((k:Int) - 1 - k) = -1:=by omega
   rw [hneg]
   gi_wp2
   go_end0
   exact ⟨⟨_,rfl⟩,.inl hJs⟩
set_option maxRecDepth 100000 in
set_option maxHeartbeats 2000000 in
theorem back_nil_in (F:Fence) (n:Nat) (h7:F.fn 229) (hro:F.round=none) (l B O cap:Nat) (a:Option Addr) (J:World→Prop) (W:World) (hB:W.cell? ⟨B,O,none⟩=some (.slice a 0 cap)) (hJ:J W):
  CallsIn F n Tryz.prog 229 #[.func (.yield l) #[] #[],.pointer (some ⟨B,O,none⟩)] W fun e W'=>(∃v,e=.returned v)∧J W':=by
 refine callsIn_of_wp Tryz.func229 rfl h7 ?_ hro;simp only [Tryz.ntmps229,List.size_toArray,List.length_cons,List.length_nil,Nat.reduceAdd,Nat.reduceSub,Array.replicate_succ,Array.replicate_zero,List.push_toArray,List.append_toArray,List.nil_append,List.cons_append];gi_wp2;gi_loopw [3] (fun i wr=>i=.int .i64 (-1)∧J wr) (fun _ _=>0);case atStart=>exact ⟨by simp,hJ⟩
 case round=>
  obtain ⟨rfl,hJs⟩:=hrel
  gi_wp2
  go_end0
  exact ⟨⟨_,rfl⟩,hJs⟩
theorem callsIn_FW {n n':Nat} {P:Program} {f:FuncId} {args:Array Value} {w:World} {R:Ending→World→Prop} (h:CallsIn (FW none) n P f args w R):CallsIn (FW none) n' P f args w R:=
 ⟨h.1,fun cs _=>h.2 cs (fun _ hd=>by cases hd)⟩
theorem back_iter (l:List aG) (hl:l.length≤1000000):IterSpec Tryz.prog 229 [.ro [aT l]] l.length (fun k=>iV ((l.length - 1 - k:Nat):Int)) (fun k=>xg (l.getD (l.length - 1 - k) aC)):=by
 refine ⟨enters_of Tryz.func229 (by kernel_rfl) rfl,fun w I lb hI hlb hp=>?_⟩;have h0:=hp 0 (by simp);have hlb1:lb=#[lb.getD 0 Go.undef]:=by
  have:lb.size=1:=hlb;apply Array.ext
  ·simp [this]
  ·intro i h1 h2;have:i=0:=by omega
   subst this;simp [h1]
 rw [hlb1];generalize lb.getD 0 Go.undef=x at h0;clear hlb1 hp hlb;cases h0 with
 | ro B O vs hIB hm hr=>
  have hs:=hr 0 (by simp);have hm0:=hm 0 (by simp);have hs:PRep w I (aT l) (vs 0):=hs;generalize vs 0=sv at hs hm0;cases hs with
  | @sl _ _ _ _ a cap b off cs hcap _ ha hes hcm h1 hcr=>
   by_cases hz:l.length=0
   ·refine ⟨fun _=>.bool true,fun _=>.bool true,fun k hk=>absurd hk om,fun y n J Jx W hW hY hJ=>?_⟩;have hBc:W.cell? ⟨B,O,none⟩=some (.slice a 0 cap):=by
     rw [cell?_of_heap (w:=w) (hW B hIB),← hz];exact hm0
    rw [hz];exact (back_nil_in (FW none) n trivial rfl y B O cap a (fun W=>J 0 W) W hBc hJ).mono fun e W' ⟨h1,h2⟩=>⟨h1,.inl h2⟩
   ·obtain ⟨ha1,hIb⟩:=ha hz;subst ha1;refine ⟨fun k=>.int .i64 ((l.length - 1 - k:Nat):Int),fun k=>.agg #[cs (l.length - 1 - k) 0,cs (l.length - 1 - k) 1,cs (l.length - 1 - k) 2,cs (l.length - 1 - k) 3,cs (l.length - 1 - k) 4],fun k hk=>⟨.int _ _,?_⟩,fun y n J Jx W hW hY hJ=>?_⟩
    ·refine .agg rfl fun j hj=>?_;have hj:j<5:=hj;have:=hcr (l.length - 1 - k) j om hj;have e:nth (xg (l.getD (l.length - 1 - k) aC)).cells j=nth [iV (l.getD (l.length - 1 - k) aC).aQ,intsV (l.getD (l.length - 1 - k) aC).bN,iV (l.getD (l.length - 1 - k) aC).fG,iV (l.getD (l.length - 1 - k) aC).gB,.bool (l.getD (l.length - 1 - k) aC).fI] j:=rfl;rcases (by omega:j=0∨j=1∨j=2∨j=3∨j=4) with rfl | rfl | rfl | rfl | rfl<;>exact this
    ·have key:∀W':World,(∀b,I b→W'.heap[b]? = w.heap[b]?)→∀i j,i<l.length→j<5→W'.cell? ⟨b,off+(i*5+j),none⟩=some (cs i j):=fun W' hW' i j hi hj=>by
      rw [cell?_of_heap (w:=w) (hW' b hIb)];exact hcm i j hi hj
     refine callsIn_FW (back_in (FW none) (n+1) trivial rfl om y B O b off l.length cap hl (fun W':World=>∀b,I b→W'.heap[b]? = w.heap[b]?) (fun i=>cs i 0) (fun i=>cs i 1) (fun i=>cs i 2) (fun i=>cs i 3) (fun i=>cs i 4) (fun i=>.agg #[cs i 0,cs i 1,cs i 2,cs i 3,cs i 4]) (fun _=>rfl)
      (fun W' hW'=>by rw [cell?_of_heap (w:=w) (hW' B hIB)]; exact hm0) (fun W' i h hi=>key W' h i 0 hi om) (fun W' i h hi=>key W' h i 1 hi om) (fun W' i h hi=>key W' h i 2 hi om) (fun W' i h hi=>key W' h i 3 hi om) (fun W' i h hi=>key W' h i 4 hi om)
      (fun k W1=>J k W1∧∀b,I b→W1.heap[b]? = w.heap[b]?) Jx ?_ W hW ⟨hJ,hW⟩ |>.mono ?_)
     ·rintro k W1 hk ⟨hJ1,hW1⟩;obtain ⟨fn,tmps,assign,body,hy,hR⟩:=hY k W1 hk hJ1;refine ⟨fn,tmps,assign,body,hy,hR.mono ?_⟩;rintro e W' (⟨rfl,h2,h3⟩ | ⟨rfl,h2⟩)
      ·have hW':∀b,I b→W'.heap[b]? = w.heap[b]? := fun b hb=>(h3 b hb).trans (hW1 b hb);exact .inl ⟨rfl,⟨h2,hW'⟩,hW'⟩
      ·exact .inr ⟨rfl,h2⟩
     ·rintro e W' ⟨h1,⟨h2,_⟩ | h2⟩
      ·exact ⟨h1,.inl h2⟩
      ·exact ⟨h1,.inr h2⟩
theorem backward_spec (l:List aG):S 190 [aT l] [] (.fn 229 [.ro [aT l]]) []:=by
 refine spec_of_x (ct:=[]) cfgOK Tryz.func190 rfl rfl (Nat.le_of_ble_eq_true rfl) (by decide +kernel) (Nat.zero_le _) ?_;conv=>whnf
 exact ⟨⟨rfl,LeL.refl _,trivial⟩,trivial⟩
open Go.ChangeShapes Go.WideShapes Go.ChangeAt Go.RowKit
theorem own:ownKnob Tryz.prog.godebug=none:=by kernel_rfl
theorem laidOut:laidOutB Tryz.prog=true:=by kernel_rfl
theorem gOff:Tryz.prog.globalNamed "bringup/clock.off" = some 0:=by kernel_rfl
theorem tOff:(Tryz.prog.globals[0]?).map (·.type)=some 226:=by kernel_rfl
theorem cells35:Tryz.prog.cellsOf 226=2:=by kernel_rfl
theorem cells3:Tryz.prog.cellsOf 3=1:=by kernel_rfl
abbrev laidL:List (String×DataW Unit):=[("bringup/clock.off", Rows.laid_bringup_clock_off)]
theorem of_laid {W:World} (h:laidMetH Tryz.prog laidL W):W.cell? ⟨0,0,none⟩=some (.int .i64 0)∧W.cell? ⟨0,1,none⟩=some (.int .i64 1):=by
 rw [MakeChecks.laidMetH_plain _ _ _ (by kernel_rfl)] at h;obtain ⟨ps,⟨g0,t0,cs0,f0,p0,q0,hg0,ht0,hv0,hd0,_⟩,_,_⟩:=h;obtain rfl:=Option.some.inj (gOff.symm.trans hg0);obtain rfl:=Option.some.inj (tOff.symm.trans ht0);obtain ⟨y0,y1,n,hx,hl,h0,h1⟩:=trod_struct2 Tryz.underlying226 hd0;rw [cells35] at hl;simp only [Prod.mk.injEq,Rows.laid_bringup_clock_off,DataW.agg.injEq,List.cons.injEq] at hx;obtain ⟨k0,e1,e2,_⟩:=DataW.trod_int Tryz.underlying3 h0;obtain ⟨k1,e3,e4,_⟩:=DataW.trod_int Tryz.underlying3 h1;have hk0:k0=0:=by have:=hx.1.1; rw [e2] at this; simpa using this.symm
 have hk1:k1=1:=by have:=hx.1.2.1; rw [e4] at this; simpa using this.symm
 subst hk0; subst hk1;have c0:=World.var?_cell hg0 hv0 0;have c1:=World.var?_cell hg0 hv0 1;obtain ⟨l⟩:=cs0;match l,hl with
 | [a,b],_=>
  rw [cells3] at e1 e3
  simp at e1 e3
  subst e1; subst e3
  exact ⟨by simpa using c0,by simpa using c1⟩
def Old (W:World):Nat→Prop:=fun b=>b<W.heap.size
theorem rel0 {W:World} (h:laidMetH Tryz.prog laidL W):Rel cfg (cxOf W (Old W) (fun _=>none) 0) (hof []) (fun o=>o<0) W (Old W) (fun _=>none):=by
 obtain ⟨h0,h1⟩:=of_laid h;exact {
  dom:=fun o=>by simp [hof]
  used:=fun o p h=>by cases h
  objs:=fun o ob p _ h=>by cases h
  inj:=fun o o' p p' b bo sz b' bo' sz' h=>by cases h
  notI:=fun o p b bo sz h=>by cases h
  lt:=fun o p b bo sz h=>by cases h
  Ilt:=fun b h=>h
  size:=Nat.le_refl _
  frame:=fun _ _ _=>rfl
  new:=fun o p b bo sz h=>by cases h
  glob:=fun g cs hg=>by
   have e:g=0∧cs=[.int .i64 0,.int .i64 1]:=by
    unfold cfg at hg
    simp only [Ab.look] at hg
    cases hb:Nat.beq 0 g with
    | true=>
     rw [hb] at hg
     have:=Nat.eq_of_beq_eq_true hb
     simp at hg
     exact ⟨this.symm,hg.symm⟩
    | false=>rw [hb] at hg; cases hg
   obtain ⟨rfl,rfl⟩:=e
   refine .ro 0 0 (fun j=>match j with | 0=>.int .i64 0 | _=>.int .i64 1) (World.block_lt_of_cell? _ _ h0) (fun j hj=>?_) (fun j hj=>?_)
   ·match j,hj with
    | 0,_=>exact h0
    | 1,_=>exact h1
   ·match j,hj with
    | 0,_=>exact .int _ _
    | 1,_=>exact .int _ _
  I0I:=fun _ h=>h
  II0:=fun _ h=>.inl h
  O0O:=fun _ _=>.inl rfl
  Dm:=fun _ h=>h
  env:=⟨SameEnv.refl _,fun _ _ h=>h.elim⟩
  maps:=fun o kd z f p b bo sz h=>by cases h }
theorem run_law {f:FuncId} {args:List AV} {W:World} {vals:Array Value} (hs:S f args [] (.bool true) []) (hL:laidMetH Tryz.prog laidL W) (hl:vals.size=args.length) (hr:∀j,j<args.length→PRep W (Old W) (nth args j) (vals.getD j Go.undef)):
  Calls Tryz.prog f vals W fun e W'=>e=.returned (.bool true)∧Below W.heap.size W W':=by
 obtain ⟨_,_,hc⟩:=hs;refine (hc W (Old W) (fun _=>none) vals (rel0 hL) hl (fun j hj=>.pure (hr j hj))).mono fun e W' h=>?_;obtain ⟨x,I',O',rfl,hR,hx⟩:=h;have hb:x=.bool true:=hx.bool_inv;subst hb;refine ⟨rfl,⟨hR.env.same.os,hR.env.same.tape,hR.env.same.output,hR.size,fun k hk=>hR.frame k hk ?_⟩⟩;rintro ⟨o,p,bo,sz,h,_⟩;cases h
theorem open_intsV {H:Type} {enc:TypeId×Value→H} {W:World} {v:Value} {d:DataW H} {ps:List MemPlace} {base:Nat} (hv:Value.okWide Tryz.prog W .any base 22 v) (h:DataW.Trod enc Tryz.prog W 0 (fun _=>true) true 22 v d ps):∃l:List Int,I64 l∧PRep W (Old W) (aD l) v:=by
 obtain ⟨a0,len,cap,rfl⟩:=okWide_slice Tryz.underlying22 hv;obtain ⟨fuel,hf⟩:=h;rcases open_ints Tryz.underlying22 Tryz.underlying3 cells3 hf with ⟨hcs,hx⟩ | ⟨a,len',cap',zs,hcs,_,hl,hm,hz,hx,hcell,hwz⟩
 ·simp [Value.cells] at hcs;obtain ⟨rfl,rfl,rfl⟩:=hcs;refine ⟨[],(fun x hx=>by cases hx),?_⟩;exact .sl 0 0 (fun _ _=>Go.undef) (Nat.le_refl _) nofun (fun h=>absurd rfl h) (fun i hi=>by cases hi) (fun i j hi=>by cases hi) (fun i j hi=>by cases hi) (fun i j hi=>by cases hi)
 ·simp [Value.cells] at hcs;obtain ⟨rfl,rfl,rfl⟩:=hcs;simp only [if_true] at hz;refine ⟨zs.take len,fun x hx=>?_,?_⟩
  ·have:=hwz x (List.mem_of_mem_take hx);simp only [Lit.wf,Bool.and_eq_true,decide_eq_true_eq] at this;exact this
  ·have hlen:(zs.take len).length=len:=by simp; omega
   unfold aD intsV;rw [hlen];refine .sl a.block a.off (fun i _=>.int .i64 (zs.getD i 0)) hl nofun (fun hn=>?_) (fun i hi=>rfl) (fun i j hi hj=>?_) (fun i j hi hj=>rfl) (fun i j hi hj=>?_)
   ·have h0:=hcell 0 om;have hsp:=World.cell?_spot h0;have e:a.add 0=a:=by simp [Addr.add]
    rw [e] at hsp h0;refine ⟨by cases a; simp at hsp; subst hsp; rfl,World.block_lt_of_cell? _ _ h0⟩
   ·have hj0:j=0:=by omega
    subst hj0;have h0:=hcell 0 om;have hsp:=World.cell?_spot h0;have e:a.add 0=a:=by simp [Addr.add]
    rw [e] at hsp;have hi':=hcell i om;have e2:a.add i=⟨a.block,a.off+(i*1+0),none⟩:=by
     obtain ⟨b,off,sp⟩:=a;simp at hsp;subst hsp;rw [Addr.add_mid];simp
    rw [e2] at hi';exact hi'
   ·have hj0:j=0:=by omega
    subst hj0;have e:nth (rowG iV 0 (zs.take len) i).cells 0=iV (zs.getD i 0):=by
     show iV ((zs.take len).getD i 0)=_;rw [getD_take zs 0 hi]
    rw [e];exact .int _ _
theorem z {p:Prop} (h:p:=by
 repeat' first
  | with_reducible exact trivial
  | with_reducible exact rfl
  | with_reducible refine And.intro ?_ ?_
  | ((conv=>whnf); first
   | with_reducible refine And.intro ?_ ?_
   | with_reducible refine Emb.mk ?_ ?_ ?_
   | with_reducible exact trivial)
  | exact rfl
  | exact fun _ _=>Le.refl _
  | exact fun _=>rfl
  | exact id
  | exact fun h=>Bool.noConfusion h
  | exact Le.refl _
  | exact LeL.refl _
  | exact fun h=>absurd rfl h
  | exact fun _ h=>absurd h (Nat.not_lt_zero _)
  | exact Xb (.refl _) rfl (Nat.lt_of_sub_pos (by exact Nat.zero_lt_succ _))
  | omega
  | (simp [gM]; done)
  | (simp [gM]; omega)
  | (simp [gM,addN_eq]; done)
  | (simp [gM,addN_eq]; omega)
  | refine le_setG ?_ ?_ ?_
  | refine iC ?_ ?_ ?_ ?_
  | exact Yr (fun _ _=>Le.refl _) (Le.refl _)
  | exact RP (fun _=>rfl)
  | exact jI om
  | exact fB _ _ _
  | exact KL _ _
  | refine qL ?_ ?_
  | refine Le.aggL ?_
  | refine Le.sl ?_ ?_ ?_ ?_):p:=h
theorem dk {p:Prop} (h:p:=by decide +kernel):p:=h
theorem oz {p:Prop} (h:p:=by first | omega | (simp [gM]; done) | (simp [gM]; omega)):p:=h
theorem sr {n es:Nat} {f:Bool} {g:Nat→AV}:n=n∧(n≠0→es=es)∧(f=true→f=true)∧∀i,i<n→Le (g i) (g i):=⟨rfl,fun _=>rfl,id,fun _ _=>.refl _⟩
theorem sf {n es:Nat} {f:Bool} {g:Nat→AV}:n=n∧(n≠0→es=es)∧(false=true→f=true)∧∀i,i<n→Le (g i) (g i):=⟨rfl,fun _=>rfl,nofun,fun _ _=>.refl _⟩
theorem r4 {A B C D:Type} {a:A} {b:B} {c:C} {d:D}:a=a∧b=b∧c=c∧d=d:=⟨rfl,rfl,rfl,rfl⟩
theorem r2 {A B:Type} {a:A} {b:B}:a=a∧b=b:=⟨rfl,rfl⟩
theorem sn {R:Type} {p:Prop} {d:Decidable p} {m:M R} {r:R} {K:Prop} (hm:need p m r) (h:p→m r→K):p∧K:=⟨hm.1,h hm.1 hm.2⟩
theorem sq {A R B C : Type} {m : M A} {k : A → M R} {r : R} {p K : B → C → Prop} {a : A → B} {b : A → C} (hm : bnd m k r) (F : ∀ {v}, m v → p (a v) (b v)) (h : ∀ v, k v r → K (a v) (b v)) : ∃ a b, p a b ∧ K a b := fV hm fun v hv hm => ⟨a v, b v, F hv, h v hm⟩
theorem s2 {R:Type} {p q:Prop} {d:Decidable p} {d2:Decidable q} {m:M R} {r:R} {K:Prop} (hm:need p (need q m) r) (h:p→q→m r→K):p∧q∧K:=⟨hm.1,hm.2.1,h hm.1 hm.2.1 hm.2.2⟩
theorem si {R:Type} {c:Bool} {x y:M R} {r:R} {A B:Prop} (hm:(cond c x y) r) (h1:c=true→x r→A) (h2:c=false→y r→B):bcase c A B:=gI hm h1 h2
theorem sb {A R:Type} {m:M A} {k:A→M R} {r:R} {G:Prop} (hm:bnd m k r) (h:∀v,m v→k v r→G):G:=fV hm h
theorem cl {A B:Type} {p K:A→B→Prop} {a:A} {b:B} (h:p a b) (k:K a b):∃a b,p a b∧K a b:=⟨a,b,h,k⟩
theorem re {A B:Type} {P:List A→List B→Prop} (h:P [] []:=by exact z):∃a b,P a b:=⟨_,_,h⟩
theorem rt {A B:Type} {P:A→B→Prop} (a:A) (b:B) (h:P a b:=by exact z):∃a b,P a b:=⟨_,_,h⟩
theorem lc {A B C:Type} {p:A→Prop} {E:A→B→C→Prop} {a:A} (b:B) (c:C) (hm:p a) (h:E a b c:=by exact z):∃a b c,p a∧E a b c:=⟨a,b,c,hm,h⟩
theorem lce {A B C:Type} {p:A→Prop} {E:A→B→C→Prop} {a:A} (b:B) (c:C) (hm:p a) (h:E a b c):∃a b c,p a∧E a b c:=⟨a,b,c,hm,h⟩
theorem le {A B C:Type} {p:A→Prop} {E:A→List B→List C→Prop} {a:A} (hm:p a) (h:E a [] []:=by exact z):∃a b c,p a∧E a b c:=⟨a,_,_,hm,h⟩
theorem Rl (ct:List Nat) {fn:Func} {f:FuncId} {c:Code} {args:List AV} {obs:List AObj} {r:AV} {obs':List AObj} (hf:Tryz.prog.funcs[f]? = some fn) (hb:fn.body=some c)
  (h:xcode cfg (Ab.Spec Tryz.prog cfg) ct (Loops Tryz.prog cfg fn.ntmps none obs.length) c ⟨argsT args 0,RetK.obsUps obs 0,obs.length⟩ (WW cfg fn.results.toList obs.length r obs'))
  (hnm:(fn.name == "runtime.NumGoroutine")=false:=by exact rfl)
  (hN:args.length≤fn.ntmps:=by exact Nat.le_of_ble_eq_true rfl) (hok:codeOK fn.ntmps c=true:=by decide +kernel) (hle:obs.length≤obs'.length:=by exact Nat.le_of_ble_eq_true rfl):S f args obs r obs':=
 kF cfgOK hf hb hnm hN hok hle h
theorem sp {fn:Func} {f:FuncId} {c:Code} {args:List AV} {obs:List AObj} {r:AV} {obs':List AObj} (hf:Tryz.prog.funcs[f]? = some fn) (hb:fn.body=some c)
  (h:xcode cfg (Ab.Spec Tryz.prog cfg) [] (Loops Tryz.prog cfg fn.ntmps none obs.length) c ⟨argsT args 0,RetK.obsUps obs 0,obs.length⟩ (WW cfg fn.results.toList obs.length r obs'))
  (hnm:(fn.name == "runtime.NumGoroutine")=false:=by exact rfl)
  (hN:args.length≤fn.ntmps:=by exact Nat.le_of_ble_eq_true rfl) (hok:codeOK fn.ntmps c=true:=by decide +kernel) (hle:obs.length≤obs'.length:=by exact Nat.le_of_ble_eq_true rfl):S f args obs r obs':=
 kF cfgOK hf hb hnm hN hok hle h
section
variable {N:Nat} {rr:Option Nat} {m:Nat}
variable {c:Code} {s:St} {K:Exit→St→Prop} {σ R:Type} {F:(σ→M R)→σ→M R} {x0:σ} {r:R}
theorem lfe (ct:List Nat) (hm:bW F x0 r) (st:σ→St) (ρ0:List (Nat×Option Nat)) (os0:List Nat) (hE:EmbF m ρ0 os0 s (st x0))
  (round:∀(self:σ→M R) (x:σ),F self x r→xcode cfg (Ab.Spec Tryz.prog cfg) ct (Loops Tryz.prog cfg N rr m) c (st x) (fun e s'=>match e with | .normal=>∃x' ρ os,self x' r∧EmbF m ρ os s' (st x') | e=>K e s'))
  (hok:codeOK N c=true:=by decide +kernel):Loops Tryz.prog cfg N rr m (.loop c) s K:=qh cfgOK hok hm st ρ0 os0 hE round
theorem Md (ct:List Nat) (hm:bW F x0 r) (st:σ→St) (ρ0:List (Nat×Option Nat)) (os0:List Nat)
  (round:∀(self:σ→M R) (x:σ),F self x r→xcode cfg (Ab.Spec Tryz.prog cfg) ct (Loops Tryz.prog cfg N rr m) c (st x) (fun e s'=>match e with | .normal=>∃x' ρ os,self x' r∧EmbF m ρ os s' (st x') | e=>K e s'))
  (hE:EmbF m ρ0 os0 s (st x0):=by exact z) (hok:codeOK N c=true:=by decide +kernel):Loops Tryz.prog cfg N rr m (.loop c) s K:=qh cfgOK hok hm st ρ0 os0 hE round
theorem lf (hm:bW F x0 r) (st:σ→St) (ρ0:List (Nat×Option Nat)) (os0:List Nat)
  (round:∀(self:σ→M R) (x:σ),F self x r→xcode cfg (Ab.Spec Tryz.prog cfg) [] (Loops Tryz.prog cfg N rr m) c (st x) (fun e s'=>match e with | .normal=>∃x' ρ os,self x' r∧EmbF m ρ os s' (st x') | e=>K e s'))
  (hE:EmbF m ρ0 os0 s (st x0):=by exact z) (hok:codeOK N c=true:=by decide +kernel):Loops Tryz.prog cfg N rr m (.loop c) s K:=qh cfgOK hok hm st ρ0 os0 hE round
theorem l0 (hm:bW F x0 r) (st:σ→St)
  (round:∀(self:σ→M R) (x:σ),F self x r→xcode cfg (Ab.Spec Tryz.prog cfg) [] (Loops Tryz.prog cfg N rr m) c (st x) (fun e s'=>match e with | .normal=>∃x' ρ os,self x' r∧EmbF m ρ os s' (st x') | e=>K e s'))
  (hE:EmbF m [] [] s (st x0):=by exact z) (hok:codeOK N c=true:=by decide +kernel):Loops Tryz.prog cfg N rr m (.loop c) s K:=qh cfgOK hok hm st [] [] hE round
theorem ck (ct:List Nat) {x y:Code} {s:St} {K:Exit→St→Prop} (k:σ→M R) (r:R) (st:σ→St)
  (h1:xcode cfg (Ab.Spec Tryz.prog cfg) ct (Loops Tryz.prog cfg N rr m) x s (fun e s'=>match e with | .normal=>∃x' ρ os,k x' r∧EmbF m ρ os s' (st x') | e=>K e s'))
  (h2:∀x',k x' r→xcode cfg (Ab.Spec Tryz.prog cfg) ct (Loops Tryz.prog cfg N rr m) y (st x') K) (hokx:codeOK N x=true:=by decide +kernel) (hoky:codeOK N y=true:=by decide +kernel):Loops Tryz.prog cfg N rr m (.seq x y) s K:=O7 cfgOK hokx hoky k r st h1 h2
end
end Go.Proofs.YtccjmcmolnbiiaaGreatDoor

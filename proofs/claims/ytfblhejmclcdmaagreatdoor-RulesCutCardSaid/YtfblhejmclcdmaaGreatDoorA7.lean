/- An abstract machine over the model's code, that it is sound; models of the functions and their proofs. -/
import Derived.Test.YtfblhejmclcdmaaGreatDoorA6
import Derived.Test.YtfblhejmclcdmaaGreatDoorProg
import Derived.Test.YtfblhejmclcdmaaGreatDoorA4
import Derived.RangeFuncBox
import Derived.RangeFuncLeaves
import Derived.Shelf.Abstract
import Derived.WalkKit
import Derived.OwnWalkIn
import Derived.TacticsInMore
import Derived.LoopNIn
import Derived.LoopIn
import Derived.Test.YtfblhejmclcdmaaGreatDoorCards
import Derived.Test.YtfblhejmclcdmaaGreatDoorTie
import Derived.ProofKit
import Derived.OpenShut
import Derived.Carry
import Derived.LaidMore
import Derived.Deep.DeepHandedRow
set_option linter.unusedVariables false
set_option linter.unusedSimpArgs false

namespace Go.Proofs.YtfblhejmclcdmaaGreatDoor
open Go.Ab
set_option maxRecDepth 100000
theorem aaK {l:List av} {m:List bC} (h:((bW l != 0)||decide (32<(m.length:Int)))=true):qF l m=false:=by
 unfold qF;by_cases h1:bW l=0
 ·rw [h1] at h;have:32<(m.length:Int):=by simpa using h
  rw [decide_eq_false (p:=(m.length:Int)≤32) (by omega)];simp
 ·have:(bW l==0)=false:=by simpa using h1
  rw [this];rfl
theorem Zg {l:List av} {m:List bC} (h:((bW l != 0)||decide (32<(m.length:Int)))=false):qF l m=!(m.any (IB l.length)):=by
 have h1:bW l=0∧(m.length:Int)≤32:=by
  simp at h;omega
 unfold qF;rw [h1.1,decide_eq_true h1.2];rfl
theorem TF (n:Int) (x:bC):(((((decide (x.Clock<(0:Int)))||(decide (n≤x.Clock)))||(decide (x.Low<(0:Int))))||(decide (x.High<x.Low)))||(decide ((4000000000:Int)<x.High)))=IB n x:=by
 unfold IB withinF;rw [Bool.eq_iff_iff];simp;omega
theorem NP {l_:(List av)} {m_:(List bC)} (h1:l_.length≤1000000) (h2:m_.length≤1000000):W (uZ l_ m_) (fun r=>r=qF l_ m_):=by
 unfold uZ;refine ay (Gp ob) fun v1 hv1=>?_;subst v1;refine aD (fun c1=>?_) (fun c1=>?_)
 ·have c1o:=c1;have c1:=nr c1;refine ak ?_;(exact (aaK c1o).symm)
 ·have c1o:=c1;have c1:=nr c1;have hdf:=Zg c1o;refine bD (fun (g1:Int)=>0≤g1∧g1≤m_.length∧(m_.drop g1.toNat).any (IB l_.length)=m_.any (IB l_.length)) (fun (g1:Int)=>(m_.length - g1).toNat) ?_ ?_
  ·intro self1 g1 hig1 ihg1;obtain ⟨hg1_1,hg1_2,hg1_3⟩:=hig1;unfold BI;refine aD (fun c2=>?_) (fun c2=>?_)
   ·have c2:=nr c2;have hlt:g1.toNat<m_.length:=(by omega);rw [drop_cons cB hlt,List.any_cons] at hg1_3;refine wn ?_;refine aD (fun c3=>?_) (fun c3=>?_)
    ·have c3o:=c3;have c3:=nr c3;rw [TF] at c3o;refine ak ?_;(rw [hdf,← hg1_3,c3o]; rfl)
    ·have c3o:=c3;have c3:=nr c3;rw [TF] at c3o;refine wn ?_;refine ihg1 _ ?_ ?_
     ·(refine ⟨by exact ob,by exact ob,?_⟩; rw [← hg1_3,c3o,show (g1+1).toNat=g1.toNat+1 by omega]; rfl)
     ·exact ob
   ·have c2:=nr c2;refine ak ?_;(rw [hdf,← hg1_3,show g1.toNat=m_.length by omega,List.drop_length]; rfl)
  ·(refine ⟨by exact ob,by exact ob,rfl⟩)
theorem Ph {l_:(List av)} {m_:(List bC)} (h1:l_.length≤1000000) (h2:m_.length≤1000000):W (xI l_ m_) (fun r=>r=(bif bW l_ != 0 then bW l_ else bif !qF l_ m_ then 1 else 0)):=by
 unfold xI;refine ay (Gp ob) fun v1 hv1=>?_;subst v1;refine aD (fun c1=>?_) (fun c1=>?_)
 ·have c1o:=c1;have c1:=nr c1;refine ak ?_;(rw [c1o]; rfl)
 ·have c1o:=c1;have c1:=nr c1;refine ay (NP ob ob) fun v2 hv2=>?_;subst v2;refine aD (fun c2=>?_) (fun c2=>?_)
  ·have c2o:=c2;have c2:=nr c2;refine ak ?_;(rw [c1o,c2o]; rfl)
  ·have c2o:=c2;have c2:=nr c2;refine ak ?_;(rw [c1o,c2o]; rfl)
theorem NQ {c_:av} {choice_:Int} (h1:Nh c_ choice_):W (u6 c_ choice_) (fun r=>r=parF c_ choice_):=by
 have hp:=h1; unfold Nh at hp;unfold u6;refine aD (fun c1=>?_) (fun c1=>?_)
 ·have c1o:=c1;have c1:=nr c1;refine ak ?_;(unfold parF; rw [c1o]; rfl)
 ·have c1o:=c1;have c1:=nr c1;refine aD (fun c2=>?_) (fun c2=>?_)
  ·have c2o:=c2;have c2:=nr c2;refine wn ?_;refine wn ?_;refine ak ?_;(unfold parF; rw [c1o,c2o]; rfl)
  ·have c2o:=c2;have c2:=nr c2;refine wn ?_;refine ak ?_;(unfold parF; rw [c1o,c2o]; rfl)
theorem tZ {a_:Int} {b_:Int} (h1:0≤a_) (h2:0≤b_):W (kX a_ b_) (fun r=>r=gD a_ b_):=by
 unfold kX;refine bD (fun (g1:(Int×Int))=>0≤g1.1∧0≤g1.2∧gD g1.1 g1.2=gD a_ b_) (fun (g1:(Int×Int))=>g1.2.toNat) ?_ ?_
 ·intro self1 g1 hig1 ihg1;obtain ⟨hg1_1,hg1_2,hg1_3⟩:=hig1;unfold zD;refine aD (fun c1=>?_) (fun c1=>?_)
  ·have c1:=nr c1;refine wn ?_;refine ihg1 _ ?_ ?_
   ·(refine ⟨by exact ob,Int.tmod_nonneg _ (by omega),?_⟩; dsimp only; rw [← hg1_3]; exact SS (by omega) (by omega))
   ·(dsimp only; have:=Fe g1.1 g1.2 (by omega); have:=Int.tmod_nonneg (a:=g1.1) g1.2 (by omega); omega)
  ·have c1:=nr c1;refine ak ?_;(rw [← hg1_3]; unfold gD; have e:g1.2=0:=c1; rw [e]; simp; omega)
 ·exact ob
theorem rV {r_:aP}:W (l6 r_) (fun r=>r=validR r_):=by
 unfold l6;refine ay (dF fun hc=>iJ (tZ (by have hc:=nr hc; omega) (by have hc:=nr hc; omega))) fun v1 hv1=>?_;subst v1;refine ak ?_;rfl
theorem Ev {k_:Int}:W (pK k_) (fun r=>r=pW k_):=by
 unfold pK;refine ak ?_;rfl
theorem Lb {num_:Int} {den_:Int} (h1:num_≤4611686018427387904) (h2:den_≤4611686018427387904):W (zF num_ den_) (fun r=>r=newR num_ den_):=by
 unfold zF;refine aD (fun c1=>?_) (fun c1=>?_)
 ·have c1o:=c1;have c1:=nr c1;refine ak ?_;(unfold newR; rw [c1o]; rfl)
 ·have c1o:=c1;have c1:=nr c1;have hg:=sP num_ den_ (by omega); have q1:=tdiv_le num_ _ (by omega) hg; have q2:=tdiv_le den_ _ (by omega) hg;refine ay (tZ ob ob) fun v1 hv1=>?_;subst v1;refine wn ?_;refine wn ?_;refine ay (rV) fun v2 hv2=>?_;subst v2;refine aD (fun c2=>?_) (fun c2=>?_)
  ·have c2o:=c2;have c2:=nr c2;refine ak ?_;(unfold newR; rw [c1o]; simp only [cond_false]; rw [c2o]; rfl)
  ·have c2o:=c2;have c2:=nr c2;refine ak ?_;(unfold newR; rw [c1o]; simp only [cond_false]; rw [c2o]; rfl)
theorem Rf {r_:aP} {k_:Int}:W (Ar r_ k_) (fun r=>r=sQ r_ k_):=by
 unfold Ar;refine ay (rV) fun v1 hv1=>?_;subst v1;refine aD (fun c1=>?_) (fun c1=>?_)
 ·have c1o:=c1;have c1:=nr c1;refine ak ?_;(unfold sQ; rw [c1o]; rfl)
 ·have c1o:=c1;have c1:=nr c1;have hv:=ou (r:=r_) (by simpa using c1o);refine ay (Ev) fun v2 hv2=>?_;subst v2;refine aD (fun c2=>?_) (fun c2=>?_)
  ·have c2o:=c2;have c2:=nr c2;refine ak ?_;(unfold sQ; rw [c1o,c2o]; rfl)
  ·have c2o:=c2;have c2:=nr c2;have hk:1≤k_∧k_≤64:=(by simp [pW] at c2o; omega);have q3:=JW (show 0≤k_ by omega) hk.2 (show 0≤r_.Den by omega) hv.2.2.2.1;refine wn ?_;refine ay (Lb ob ob) fun v3 hv3=>?_;subst v3;refine ak ?_;(unfold sQ; rw [c1o,c2o]; rfl)
theorem Pj {r_:aP} {k_:Int}:W (xJ r_ k_) (fun r=>r=kZ r_ k_):=by
 unfold xJ;refine ay (rV) fun v1 hv1=>?_;subst v1;refine aD (fun c1=>?_) (fun c1=>?_)
 ·have c1o:=c1;have c1:=nr c1;refine ak ?_;(unfold kZ; rw [c1o]; rfl)
 ·have c1o:=c1;have c1:=nr c1;have hv:=ou (r:=r_) (by simpa using c1o);refine ay (Ev) fun v2 hv2=>?_;subst v2;refine aD (fun c2=>?_) (fun c2=>?_)
  ·have c2o:=c2;have c2:=nr c2;refine ak ?_;(unfold kZ; rw [c1o,c2o]; rfl)
  ·have c2o:=c2;have c2:=nr c2;have hk:1≤k_∧k_≤64:=(by simp [pW] at c2o; omega);have hg:=sP k_ r_.Den (by omega);have q1:=tdiv_le k_ _ (by omega) hg;have q2:=tdiv_le r_.Den _ (by omega) hg;have q4:=abT k_ r_.Den hk (by omega);have q5:=tdiv_le 144115188075855872 _ (by omega) (show 0<k_.tdiv (gD k_ r_.Den) by omega);refine ay (tZ ob ob) fun v3 hv3=>?_;subst v3;refine wn ?_;refine wn ?_;refine aD (fun c3=>?_) (fun c3=>?_)
   ·have c3o:=c3;have c3:=nr c3;refine ak ?_;(unfold kZ; rw [c1o,c2o,c3o]; rfl)
   ·have c3o:=c3;have c3:=nr c3;have q3:=Xm r_.Num (k_.tdiv (gD k_ r_.Den)) hv.1 q4.1 (by omega);refine wn ?_;refine wn ?_;refine wn ?_;refine ay (Lb ob ob) fun v4 hv4=>?_;subst v4;refine ak ?_;(unfold kZ; rw [c1o,c2o,c3o]; rfl)
theorem gq {l_:(List av)} {s_:(List Int)} {g1:(Int×(List aP)×(List Bool))} {self1:(Int×(List aP)×(List Bool))→M ((List aP)×(List Bool))} {g7:(Bool×Int×Int)} {Q:((List aP)×(List Bool))→Prop} (ihg1:∀s':(Int×(List aP)×(List Bool)),(0≤s'.1∧s'.1≤l_.length∧s'.2.1=(JV l_ s_ s'.1.toNat).1∧s'.2.2=(JV l_ s_ s'.1.toNat).2)→(l_.length - s'.1).toNat<(l_.length - g1.1).toNat→W (self1 s') Q) (hc:0≤g1.1∧g1.1<l_.length∧l_.length≤1000∧g1.2.1=(JV l_ s_ g1.1.toNat).1∧g1.2.2=(JV l_ s_ g1.1.toNat).2∧((⟨g7.2.1,g7.2.2⟩:aP),g7.1)=(st1 (JV l_ s_ g1.1.toNat).1 (JV l_ s_ g1.1.toNat).2 (l_.getD g1.1.toNat au) (s_.getD g1.1.toNat 0))):W (fC g1 self1 g7) Q:=by
 obtain ⟨hc_1,hc_2,hc_3,hc_4,hc_5,hc_6⟩:=hc;unfold fC;refine bV (by (rw [hc_4,(IE l_ s_ g1.1.toNat).1]; unfold big; omega)) ?_;refine bV (by (rw [hc_5,(IE l_ s_ g1.1.toNat).2]; unfold big; omega)) ?_;refine wn ?_;refine ihg1 _ ?_ ?_
 ·(refine ⟨by exact ob,by exact ob,?_,?_⟩; (dsimp only; rw [show (g1.1+1).toNat=g1.1.toNat+1 by omega,JV,← hc_6,← hc_4]); (dsimp only; rw [show (g1.1+1).toNat=g1.1.toNat+1 by omega,JV,← hc_6,← hc_5]))
 ·exact ob
theorem NR {l_:(List av)} {s_:(List Int)} (h1:Good l_ s_) (h2:Up l_ s_):W (u7 l_ s_) (fun r=>r=Oj l_ s_):=by
 obtain ⟨q1,q2,q3,q4,q5⟩:=h1;unfold u7;refine bD (fun (g1:(Int×(List aP)×(List Bool)))=>0≤g1.1∧g1.1≤l_.length∧g1.2.1=(JV l_ s_ g1.1.toNat).1∧g1.2.2=(JV l_ s_ g1.1.toNat).2) (fun (g1:(Int×(List aP)×(List Bool)))=>(l_.length - g1.1).toNat) ?_ ?_
 ·intro self1 g1 hig1 ihg1;obtain ⟨hg1_1,hg1_2,hg1_3,hg1_4⟩:=hig1;unfold BJ;have hst:=IE l_ s_ g1.1.toNat;refine aD (fun c1=>?_) (fun c1=>?_)
  ·have c1:=nr c1;have hch:=q3 g1.1.toNat (by omega);have hpar:=q5 g1.1.toNat (by omega);have hpc:=q4 g1.1.toNat (by omega);have hui:=h2 g1.1.toNat (by omega);refine wn ?_;refine wn ?_;refine ay (NQ ob) fun v18 hv18=>?_;subst v18;refine aD (fun c2=>?_) (fun c2=>?_)
   ·have c2:=nr c2;refine wn ?_;refine wn ?_;unfold j5;refine wn ?_;refine wn ?_;refine aD (fun c3=>?_) (fun c3=>?_)
    ·have c3o:=c3;have c3:=nr c3;exact gq (l_:=l_) (s_:=s_) (fun a b c=>ihg1 a b c) (by (exfalso; have:=(show parF (l_.getD g1.1.toNat au) (s_.getD g1.1.toNat 0) = -1 by unfold parF; rw [c3o]; rfl); omega))
    ·have c3o:=c3;have c3:=nr c3;refine aD (fun c4=>?_) (fun c4=>?_)
     ·have c4o:=c4;have c4:=nr c4;refine ay (Rf) fun v16 hv16=>?_;subst v16;exact gq (l_:=l_) (s_:=s_) (fun a b c=>ihg1 a b c) (by (refine ⟨by exact ob,by exact ob,by exact ob,hg1_3,hg1_4,?_⟩; dsimp only; unfold st1; rw [c3o,c4o,← hg1_3,← hg1_4]; rfl))
     ·have c4o:=c4;have c4:=nr c4;refine aD (fun c5=>?_) (fun c5=>?_)
      ·have c5o:=c5;have c5:=nr c5;refine ay (Pj) fun v17 hv17=>?_;subst v17;exact gq (l_:=l_) (s_:=s_) (fun a b c=>ihg1 a b c) (by (refine ⟨by exact ob,by exact ob,by exact ob,hg1_3,hg1_4,?_⟩; dsimp only; unfold st1; rw [c3o,c4o,c5o,← hg1_3,← hg1_4]; rfl))
      ·have c5o:=c5;have c5:=nr c5;refine aD (fun c6=>?_) (fun c6=>?_)
       ·have c6o:=c6;have c6:=nr c6;refine aD (fun c7=>?_) (fun c7=>?_)
        ·have c7o:=c7;have c7:=nr c7;exact gq (l_:=l_) (s_:=s_) (fun a b c=>ihg1 a b c) (by (refine ⟨by exact ob,by exact ob,by exact ob,hg1_3,hg1_4,?_⟩; dsimp only; unfold st1; rw [c3o,c4o,c5o,c6o,c7o,← hg1_3,← hg1_4]; rfl))
        ·have c7o:=c7;have c7:=nr c7;exact gq (l_:=l_) (s_:=s_) (fun a b c=>ihg1 a b c) (by (refine ⟨by exact ob,by exact ob,by exact ob,hg1_3,hg1_4,?_⟩; dsimp only; unfold st1; rw [c3o,c4o,c5o,c6o,c7o,← hg1_3,← hg1_4]; rfl))
       ·have c6o:=c6;have c6:=nr c6;exact gq (l_:=l_) (s_:=s_) (fun a b c=>ihg1 a b c) (by (refine ⟨by exact ob,by exact ob,by exact ob,hg1_3,hg1_4,?_⟩; dsimp only; unfold st1; rw [c3o,c4o,c5o,c6o,← hg1_3,← hg1_4]; rfl))
   ·have c2:=nr c2;unfold j5;refine wn ?_;refine wn ?_;refine aD (fun c8=>?_) (fun c8=>?_)
    ·have c8o:=c8;have c8:=nr c8;exact gq (l_:=l_) (s_:=s_) (fun a b c=>ihg1 a b c) (by (refine ⟨by exact ob,by exact ob,by exact ob,hg1_3,hg1_4,?_⟩; dsimp only; unfold st1; rw [c8o]; rfl))
    ·have c8o:=c8;have c8:=nr c8;exfalso; have:=hui (by simpa using c8o); omega
  ·have c1:=nr c1;refine ak ?_;(unfold Oj; rw [hg1_3,hg1_4,show g1.1.toNat=l_.length by omega])
 ·(refine ⟨by exact ob,by exact ob,rfl,rfl⟩)
end Go.Proofs.YtfblhejmclcdmaaGreatDoor

namespace Go.Proofs.YtfblhejmclcdmaaGreatDoor
open Go.Ab
set_option maxRecDepth 100000
def ownY (r:List aP) (on:List Bool) (l:List av) (j:Nat):Bool:=((on.getD j false)&&((l.getD j au).High != 0))&&!rQ (r.getD j bZ) (l.getD j au).Low (l.getD j au).High
def aaL (l:List av) (st:List aP×List Bool):Bool:=(List.range l.length).all fun i=>!ownY st.1 st.2 l i
def fitX (st:List aP×List Bool) (x:bC):Bool:=!(st.2.getD x.Clock.toNat false)||!rQ (st.1.getD x.Clock.toNat bZ) x.Low x.High
def NS (l:List av) (s:List Int) (m:List bC):Bool:=!m.any (fitX (Oj l s))&&aaL l (Oj l s)
def VS (l:List av) (s:List Int):Prop:=s.length=l.length∧∀i,i<l.length→0≤s.getD i 0∧s.getD i 0<(l.getD i au).Choices.length
def qJ:List av→Nat
 | []=>1
 | c::l=>c.Choices.length*qJ l
def zQ:List av→List Int→Nat
 | c::l,x::t=>x.toNat*qJ l+zQ l t
 | _,_=>0
theorem Rh {c:av} {l:List av} {s:List Int} (h:VS (c::l) s):∃x t,s=x::t∧0≤x∧x<c.Choices.length∧VS l t:=by
 obtain ⟨h1,h2⟩:=h;cases s with
 | nil=>cases h1
 | cons x t=>
  have h0:=h2 0 (by simp);exact ⟨x,t,rfl,h0.1,h0.2,by simpa using h1,fun i hi=>h2 (i+1) (by simpa using hi)⟩
theorem Ve {l:List av}:∀ {s:List Int},VS l s→zQ l s<qJ l:=by
 induction l with
 | nil=>intro s _; cases s<;>simp [zQ,qJ]
 | cons c l ih=>
  intro s h;obtain ⟨x,t,rfl,h1,h2,h3⟩:=Rh h;have:=ih h3;rw [zQ,qJ];have h4:(x.toNat+1)*qJ l≤c.Choices.length*qJ l:=Nat.mul_le_mul_right _ (by omega);rw [Nat.add_mul,Nat.one_mul] at h4;omega
theorem Zh {l:List av}:∀ {s:List Int},(∀j,j<l.length→s.getD j 0=0)→zQ l s=0:=by
 induction l with
 | nil=>intro s _; cases s<;>rfl
 | cons c l ih=>
  intro s h;cases s with
  | nil=>rfl
  | cons x t=>
   have h0:=h 0 (by simp);have h0:x=0:=h0;rw [zQ,h0,ih fun j hj=>h (j+1) (by simpa using hj)];simp
theorem aaM {l:List av}:∀ {s:List Int},VS l s→(∀j,j<l.length→s.getD j 0+1=(l.getD j au).Choices.length)→zQ l s+1=qJ l:=by
 induction l with
 | nil=>intro s h _; cases s<;>rfl
 | cons c l ih=>
  intro s hv h;obtain ⟨x,t,rfl,h1,h2,h3⟩:=Rh hv;have h0:x+1=c.Choices.length:=h 0 (by simp);have:=ih h3 fun j hj=>h (j+1) (by simpa using hj);rw [zQ,qJ,show c.Choices.length=x.toNat+1 by omega,Nat.add_mul,Nat.one_mul];omega
theorem Zi {l:List av}:∀ {s t:List Int} {k:Nat},VS l s→k<l.length→t.length=l.length→(∀j,j<k→t.getD j 0=s.getD j 0)→t.getD k 0=s.getD k 0+1→(∀j,k<j→j<l.length→t.getD j 0=0∧s.getD j 0+1=(l.getD j au).Choices.length)→zQ l t=zQ l s+1:=by
 induction l with
 | nil=>intro s t k _ h; exact absurd h (Nat.not_lt_zero _)
 | cons c l ih=>
  intro s t k hv hk hl h1 h2 h3;obtain ⟨x,s,rfl,g1,g2,g3⟩:=Rh hv;cases t with
  | nil=>cases hl
  | cons y t=>
   cases k with
   | zero=>
    have h2:y=x+1:=h2;have e1:=Zh (l:=l) (s:=t) fun j hj=>(h3 (j+1) (by omega) (by simpa using hj)).1;have e2:=aaM g3 fun j hj=>(h3 (j+1) (by omega) (by simpa using hj)).2;rw [zQ,zQ,e1,h2,show (x+1).toNat=x.toNat+1 by omega,Nat.add_mul,Nat.one_mul];omega
   | succ k=>
    have h0:y=x:=h1 0 (by omega);have:=ih g3 (by simpa using hk) (by simpa using hl) (fun j hj=>h1 (j+1) (by omega)) h2 (fun j a b=>h3 (j+1) (by omega) (by simpa using b));rw [zQ,zQ,h0,this];omega
theorem aaN {l:List av} {s t:List Int} {k:Nat} (hv:VS l s) (hk:k<l.length) (hl:t.length=l.length) (h1:∀j,j<k→t.getD j 0=s.getD j 0) (h2:t.getD k 0=s.getD k 0+1) (h3:∀j,k<j→j<l.length→t.getD j 0=0∧s.getD j 0+1=(l.getD j au).Choices.length) (h4:s.getD k 0+1<(l.getD k au).Choices.length):VS l t∧zQ l t=zQ l s+1:=by
 refine ⟨⟨hl,fun i hi=>?_⟩,Zi hv hk hl h1 h2 h3⟩;have:=hv.2 i hi;rcases Nat.lt_trichotomy i k with h | h | h
 ·rw [h1 i h]; exact this
 ·subst h; omega
 ·have:=h3 i h hi; omega
theorem aaO {l:List av} {s:List Int} (h:VS l s):settB l s=true:=by
 unfold settB;rw [h.1,beq_self_eq_true,Bool.true_and,List.all_eq_true];intro i hi;have:=h.2 i (by have:=List.mem_range.1 hi; omega);exact (within_iff _ _ _).2 (by omega)
theorem XK (l:List av) (c:av):qJ (l++[c])=qJ l*c.Choices.length:=by
 induction l with
 | nil=>simp [qJ]
 | cons a l ih=>rw [List.cons_append,qJ,qJ,ih,Nat.mul_assoc]
theorem XL {l:List av} (h:∀c∈l,1≤c.Choices.length):jo l=Lj (qJ l) 1099511627776:=by
 induction l using Al with
 | nil=>rfl
 | append_singleton l c ih=>
  have hc:=h c (by simp);rw [GX,ih fun x hx=>h x (by simp [hx]),XK,Int.natCast_mul];generalize ((qJ l:Nat):Int)=a;generalize hb:(c.Choices.length:Int)=b;have hb1:1≤b:=by omega
  unfold Lj;by_cases h1:(1099511627776:Int)<a
  ·have h2:(1099511627776:Int)<a*b:=by
    have:=Int.mul_le_mul_of_nonneg_left hb1 (show 0≤a by omega);omega
   have h3:(1099511627776:Int)≤1099511627776*b:=by omega
   rw [if_pos h1,if_pos h2];split<;>omega
  ·rw [if_neg h1]
theorem size_le {l:List av} (h:SH l):qJ l≤4096:=by
 have hp:=h.prod;rw [XL fun c hc=>by
  obtain ⟨k,hk,rfl⟩:=List.mem_iff_getElem.1 hc;have:=Eh (validC_choices (h.valid k hk));rw [List.getD_eq_getElem?_getD,List.getElem?_eq_getElem hk] at this;simp only [Option.getD_some] at this;omega] at hp
 unfold Lj at hp;split at hp<;>omega
theorem aaP {l:List av} (h:SH l):VS l (List.replicate (l.length:Int).toNat 0):=by
 refine ⟨by simp,fun i hi=>?_⟩;have:=Eh (validC_choices (h.valid i hi));rw [Sp.sS];omega
theorem XM {l:List av} {m:List bC} (h:((bif bW l != 0 then bW l else bif !qF l m then 1 else 0) != 0)=false):bW l=0∧qF l m=true:=by
 cases h1:bW l != 0 with
 | true=>rw [h1] at h; simp only [cond_true] at h; rw [h1] at h; cases h
 | false=>
  cases h2:qF l m with
  | false=>rw [h1,h2] at h; cases h
  | true=>exact ⟨by simpa using h1,rfl⟩
theorem aaQ {l:List av} {m:List bC} (h:qF l m=true):∀x∈m,0≤x.Clock∧x.Clock<l.length:=fun x hx=>(SL (SY h x hx)).1
theorem Ew {r_:aP} {low_:Int} {high_:Int}:W (pO r_ low_ high_) (fun r=>r=rQ r_ low_ high_):=by
 unfold pO;refine ay (rV) fun v1 hv1=>?_;subst v1;refine aD (fun c1=>?_) (fun c1=>?_)
 ·have c1o:=c1;have c1:=nr c1;refine ak ?_;(unfold rQ; rw [show validR r_=false by simpa using c1o]; rfl)
 ·have c1o:=c1;have c1:=nr c1;have hv:=ou (r:=r_) (by simpa using c1o);have q1:=tdiv_le r_.Num r_.Den hv.1 (by omega);refine wn ?_;refine wn ?_;refine ak ?_;(unfold rQ; rw [show validR r_=true by simpa using c1o]; rfl)
theorem TG {l_:(List av)} {r_:(List aP)} {on_:(List Bool)} (h1:l_.length≤1000000) (h2:r_.length=l_.length) (h3:on_.length=l_.length):W (E8 l_ r_ on_) (fun r=>r=aaL l_ (r_,on_)):=by
 unfold E8;refine bD (fun (g1:Int)=>0≤g1∧g1≤l_.length∧(∀j:Nat,(j:Int)<g1→ownY r_ on_ l_ j=false)) (fun (g1:Int)=>(l_.length - g1).toNat) ?_ ?_
 ·intro self1 g1 hig1 ihg1;obtain ⟨hg1_1,hg1_2,hg1_3⟩:=hig1;unfold Io;refine aD (fun c1=>?_) (fun c1=>?_)
  ·have c1:=nr c1;refine wn ?_;refine wn ?_;refine wn ?_;refine ay (dF fun hc=>iJ (Ew)) fun v3 hv3=>?_;subst v3;refine aD (fun c2=>?_) (fun c2=>?_)
   ·have c2o:=c2;have c2:=nr c2;refine ak ?_;(unfold aaL; rw [wF (i:=g1.toNat) (by omega) (by rw [show ownY r_ on_ l_ g1.toNat=true from c2o]; rfl)])
   ·have c2o:=c2;have c2:=nr c2;refine wn ?_;refine ihg1 _ ?_ ?_
    ·(refine ⟨by exact ob,by exact ob,fJ hg1_3 hg1_1 c2o⟩)
    ·exact ob
  ·have c1:=nr c1;refine ak ?_;(unfold aaL; rw [yJ fun j hj=>(by rw [hg1_3 j (by omega)]; rfl)])
 ·(refine ⟨by exact ob,by exact ob,fun j hj=>by omega⟩)
theorem Ri {l_:(List av)} {s_:(List Int)} {m_:(List bC)} (h1:Good l_ s_) (h2:Up l_ s_) (h3:m_.length≤1000000) (h4:∀x∈m_,0≤x.Clock∧x.Clock<l_.length):W (Au l_ s_ m_) (fun r=>r=NS l_ s_ m_):=by
 have hsm:=h1.small;have hst:=IE l_ s_ l_.length;unfold Au;refine ay (NR ob ob) fun v1 hv1=>?_;subst v1;have hs1:(Oj l_ s_).1.length=l_.length:=hst.1;have hs2:(Oj l_ s_).2.length=l_.length:=hst.2;refine bD (fun (g1:Int)=>0≤g1∧g1≤m_.length∧(m_.drop g1.toNat).any (fitX (Oj l_ s_))=m_.any (fitX (Oj l_ s_))) (fun (g1:Int)=>(m_.length - g1).toNat) ?_ ?_
 ·intro self1 g1 hig1 ihg1;obtain ⟨hg1_1,hg1_2,hg1_3⟩:=hig1;unfold F6;refine aD (fun c1=>?_) (fun c1=>?_)
  ·have c1:=nr c1;have hlt:g1.toNat<m_.length:=(by omega);have hx:=h4 _ (getD_in (i:=g1.toNat) cB hlt);rw [drop_cons cB hlt,List.any_cons] at hg1_3;refine wn ?_;refine wn ?_;refine wn ?_;refine ay (dF fun hc=>iJ (Ew)) fun v4 hv4=>?_;subst v4;refine aD (fun c2=>?_) (fun c2=>?_)
   ·have c2o:=c2;have c2:=nr c2;refine ak ?_;(unfold NS; rw [← hg1_3,show fitX (Oj l_ s_) (m_.getD g1.toNat cB)=true from c2o]; rfl)
   ·have c2o:=c2;have c2:=nr c2;refine wn ?_;refine ihg1 _ ?_ ?_
    ·(refine ⟨by exact ob,by exact ob,?_⟩; rw [← hg1_3,show fitX (Oj l_ s_) (m_.getD g1.toNat cB)=false from c2o,show (g1+1).toNat=g1.toNat+1 by omega]; rfl)
    ·exact ob
  ·have c1:=nr c1;refine ay (TG ob ob ob) fun v5 hv5=>?_;subst v5;refine ak ?_;(unfold NS; rw [← hg1_3,show g1.toNat=m_.length by omega,List.drop_length]; rfl)
 ·(refine ⟨by exact ob,by exact ob,rfl⟩)
theorem I6 {l_:(List av)} {s_:(List Int)} (h1:l_.length≤1000) (h2:VS l_ s_) (h3:∀i,i<l_.length→(l_.getD i au).Choices.length≤1000000):W (Av l_ s_) (fun r=>r.2=true→VS l_ r.1∧zQ l_ r.1=zQ l_ s_+1):=by
 obtain ⟨hsl,hsv⟩:=id h2;unfold Av;refine wn ?_;refine wn ?_;refine bD (fun (g1:(Int×(List Int))) => -1≤g1.1∧g1.1<l_.length∧g1.2.length=l_.length∧(∀j:Nat,(j:Int)≤g1.1→g1.2.getD j 0=s_.getD j 0)∧(∀j:Nat,g1.1<(j:Int)→j<l_.length→g1.2.getD j 0=0∧s_.getD j 0+1=(l_.getD j au).Choices.length)) (fun (g1:(Int×(List Int)))=>(g1.1+1).toNat) ?_ ?_
 ·intro self1 g1 hig1 ihg1;obtain ⟨hg1_1,hg1_2,hg1_3,hg1_4,hg1_5⟩:=hig1;unfold F7;refine aD (fun c1=>?_) (fun c1=>?_)
  ·have c1:=nr c1;have hv:=hsv g1.1.toNat (by omega);have hc:=h3 g1.1.toNat (by omega);have he:=hg1_4 g1.1.toNat (by omega);have hgs:(g1.2.set g1.1.toNat (g1.2.getD g1.1.toNat 0+1)).getD g1.1.toNat 0=s_.getD g1.1.toNat 0+1:=(by rw [Sp.dU,if_pos ⟨rfl,by omega⟩,he]);have hgo:∀j,j≠g1.1.toNat→(g1.2.set g1.1.toNat (g1.2.getD g1.1.toNat 0+1)).getD j 0=g1.2.getD j 0:=fun j hj=>(by rw [Sp.dU,if_neg (fun e=>hj e.1)])
   refine wn ?_;refine wn ?_;refine wn ?_;unfold yI;refine wn ?_;refine wn ?_;refine aD (fun c2=>?_) (fun c2=>?_)
   ·have c2:=nr c2;rw [hgs] at c2;refine ak ?_;(intro _; exact aaN h2 (k:=g1.1.toNat) (by omega) (by simpa using hg1_3) (fun j hj=>by rw [hgo j (by omega)]; exact hg1_4 j (by omega)) hgs (fun j h1 h2=>by rw [hgo j (by omega)]; exact hg1_5 j (by omega) h2) c2)
   ·have c2:=nr c2;rw [hgs] at c2;refine wn ?_;refine wn ?_;refine ihg1 _ ?_ ?_
    ·(refine ⟨by exact ob,by exact ob,by simpa using hg1_3,fun j hj=>?_,fun j h1 h2=>?_⟩; (dsimp only at hj ⊢; rw [Sp.dU,if_neg (by omega),hgo j (by omega)]; exact hg1_4 j (by omega)); (dsimp only at h1 ⊢; rw [Sp.dU]; by_cases q:j=g1.1.toNat; (rw [if_pos ⟨q,by rw [List.length_set]; omega⟩,q]; omega); (rw [if_neg (fun e=>q e.1),hgo j q]; exact hg1_5 j (by omega) h2)))
    ·exact ob
  ·have c1:=nr c1;refine ak ?_;(exact nofun)
 ·(refine ⟨by exact ob,by exact ob,by simpa using hsl,fun j _=>rfl,fun j h1 h2=>by dsimp only at h1; omega⟩)
theorem TH {l_:(List av)} {m_:(List bC)} (h1:bW l_=0) (h2:m_.length≤1000000) (h3:∀x∈m_,0≤x.Clock∧x.Clock<l_.length):W (E9 l_ m_) (fun r=>∀s∈r,settB l_ s=true∧NS l_ s m_=true):=by
 have hf:=Md h1;have hsz:=size_le hf;have hlen:=hf.len;have hcb:∀i,i<l_.length→(l_.getD i au).Choices.length≤1000000:=fun i hi=>by have:=hf.big i hi; omega
 unfold E9;refine wn ?_;refine bD (fun (g1:((List Int)×Bool×(List (List Int))))=>(g1.2.1=true→VS l_ g1.1∧g1.2.2.length≤zQ l_ g1.1)∧(∀s∈g1.2.2,settB l_ s=true∧NS l_ s m_=true)) (fun (g1:((List Int)×Bool×(List (List Int))))=>bif g1.2.1 then qJ l_ - zQ l_ g1.1+1 else 0) ?_ ?_
 ·intro self1 g1 hig1 ihg1;obtain ⟨hg1_1,hg1_2⟩:=hig1;unfold Ip;refine aD (fun c1=>?_) (fun c1=>?_)
  ·have c1o:=c1;have c1:=nr c1;obtain ⟨hvs,hln⟩:=hg1_1 c1o;have hset:=aaO hvs;have hpl:=Ve hvs;unfold Aw;refine ay (Ri (Me hf hset) (abn hf hset) h2 h3) fun v9 hv9=>?_;subst v9;refine aD (fun c2=>?_) (fun c2=>?_)
   ·have c2o:=c2;have c2:=nr c2;have hmem:∀s∈g1.2.2++[g1.1],settB l_ s=true∧NS l_ s m_=true:=fun s hs=>by rcases List.mem_append.1 hs with h | h; exact hg1_2 s h; (rw [List.mem_singleton] at h; rw [h]; exact ⟨hset,c2o⟩)
    refine wn ?_;unfold pQ;refine ay (I6 (by omega) hvs hcb) fun v8 hv8=>?_;refine ihg1 _ ?_ ?_
    ·(refine ⟨fun e=>⟨(hv8 e).1,by have:=(hv8 e).2; simp only [List.length_append,List.length_singleton]; omega⟩,hmem⟩)
    ·(dsimp only; rw [c1o]; cases e:v8.2 with | true=>(have:=(hv8 e).2; have:=Ve (hv8 e).1; simp only [cond_true]; omega) | false=>(simp only [cond_true,cond_false]; omega))
   ·have c2o:=c2;have c2:=nr c2;unfold pQ;refine ay (I6 (by omega) hvs hcb) fun v8 hv8=>?_;refine ihg1 _ ?_ ?_
    ·(refine ⟨fun e=>⟨(hv8 e).1,by have:=(hv8 e).2; dsimp only; omega⟩,hg1_2⟩)
    ·(dsimp only; rw [c1o]; cases e:v8.2 with | true=>(have:=(hv8 e).2; have:=Ve (hv8 e).1; simp only [cond_true]; omega) | false=>(simp only [cond_true,cond_false]; omega))
  ·have c1o:=c1;have c1:=nr c1;refine ak ?_;(exact hg1_2)
 ·(refine ⟨fun _=>⟨aaP hf,Nat.zero_le _⟩,nofun⟩)
theorem Pk {l_:(List av)} {m_:(List bC)} (h1:l_.length≤1000000) (h2:m_.length≤1000000):W (xK l_ m_) (fun r=>r.2=0→settB l_ r.1=true∧NS l_ r.1 m_=true∧qF l_ m_=true):=by
 unfold xK;refine ay (Ph ob ob) fun v1 hv1=>?_;subst v1;refine aD (fun c1=>?_) (fun c1=>?_)
 ·have c1o:=c1;have c1:=nr c1;refine ak ?_;(intro e; exact absurd e c1)
 ·have c1o:=c1;have c1:=nr c1;obtain ⟨b1,b2⟩:=XM c1o;refine ay (TH b1 h2 (aaQ b2)) fun v2 hv2=>?_;refine aD (fun c2=>?_) (fun c2=>?_)
  ·have c2:=nr c2;refine ak ?_;exact ob
  ·have c2:=nr c2;refine wn ?_;refine ak ?_;(intro _; have q:=hv2 _ (getD_in (i:=0) [] (by omega)); exact ⟨q.1,q.2,b2⟩)
end Go.Proofs.YtfblhejmclcdmaaGreatDoor

namespace Go.Proofs.YtfblhejmclcdmaaGreatDoor
open Go.Ab
set_option maxRecDepth 100000
theorem Sp.XO {l:List aj} {d:List aM} (h:(Sp.tV l d).2=0):(Sp.tV l d).1.On.length=l.length∧(Sp.tV l d).1.Level.length=l.length:=by
 unfold Sp.tV at h ⊢;cases h1:Sp.beginF l d != 0 with
 | true=>rw [h1] at h; simp at h1; exact absurd h h1
 | false=>
  rw [h1] at h;cases h2:decide (0≤(Sp.Q7 l d).2)||!Sp.l9 l ⟨Sp.iL l d,(Sp.Q7 l d).1.lv⟩ d with
  | true=>rw [h2] at h; cases h
  | false=>
   simp only [Bool.or_eq_false_iff,Bool.not_eq_false'] at h2;have hm:=h2.2;unfold Sp.l9 at hm;cases h3:!Sp.AO l ⟨Sp.iL l d,(Sp.Q7 l d).1.lv⟩||!Sp.mg l d with
   | true=>rw [h3] at hm; cases hm
   | false=>
    simp only [Bool.or_eq_false_iff,Bool.not_eq_false'] at h3;have:=(Sp.J3.1 h3.1).2;exact ⟨this.On,this.len⟩
theorem I7 {o0_:aZ} (h1:0≤o0_.At) (h2:o0_.L.length≤600):W (nS o0_) (fun r=>r.1.Value≤100∧0≤r.2.At∧r.2.L.length≤600):=by
 unfold nS;refine ay (cZ (by simp) (by simp) (by omega) (by omega)) fun v1 hv1=>?_;obtain ⟨hv1_1,hv1_2,hv1_3⟩:=hv1;refine ay (gP ob ob ob ob ob ob) fun v2 hv2=>?_;obtain ⟨hv2_1,hv2_2,hv2_3,hv2_4,hv2_5⟩:=hv2;refine ay (gP ob ob ob ob ob ob) fun v3 hv3=>?_;obtain ⟨hv3_1,hv3_2,hv3_3,hv3_4,hv3_5⟩:=hv3;refine ak ?_;exact ob
theorem Ch {b_:bQ} {l_:(List aV)} {m_:(List Int)} (h1:YP b_) (h2:l_.length≤100) (h3:m_.length≤20) (h4:∀x∈m_,0≤x∧x<l_.length) (h5:∀x∈l_,x.Limits.length≤100∧x.Draws.length≤100∧x.Functions.length≤100∧x.Resets.length≤100):W (nJ b_ l_ m_) (fun r=>yO r.1∧r.1.Uses.length≤2000):=by
 obtain ⟨b1,b2,b3,b4,b5,b6,b7,b8,b9⟩:=id h1;have hgs:∀g∈b_.bE.Groups,g.bT.length≤1000000∧g.Functions.length≤1000000:=fun g hg=>by have:=b6 g hg; omega
 have hrs:∀g∈b_.Resets,g.After.length≤1000000:=fun g hg=>by have:=b8 g hg; omega
 unfold nJ;refine bD (fun (g1:(Int×(List bC)×(List aM)×(List ByteArray)×(List Int)×(List Int)×(List Int)))=>0≤g1.1∧g1.1≤m_.length∧(g1.2.1.length:Int)≤100*g1.1∧(g1.2.2.1.length:Int)≤100*g1.1∧(g1.2.2.2.1.length:Int)≤100*g1.1∧(g1.2.2.2.2.1.length:Int)≤100*g1.1∧(g1.2.2.2.2.2.1.length:Int)≤g1.1∧g1.2.2.2.2.2.2.length=g1.2.2.2.1.length) (fun (g1:(Int×(List bC)×(List aM)×(List ByteArray)×(List Int)×(List Int)×(List Int)))=>(m_.length - g1.1).toNat) ?_ ?_
 ·intro self1 g1 hig1 ihg1;obtain ⟨hg1_1,hg1_2,hg1_3,hg1_4,hg1_5,hg1_6,hg1_7,hg1_8⟩:=hig1;unfold zJ;refine aD (fun c1=>?_) (fun c1=>?_)
  ·have c1:=nr c1;have hmm:=h4 _ (getD_in (i:=g1.1.toNat) 0 (by omega));have hnn:=h5 _ (getD_in (i:=(m_.getD g1.1.toNat 0).toNat) bJ (by omega));refine wn ?_;refine wn ?_;refine wn ?_;refine wn ?_;refine wn ?_;refine wn ?_;refine wn ?_;refine wn ?_;refine wn ?_;refine wn ?_;refine aD (fun c2=>?_) (fun c2=>?_)
   ·have c2:=nr c2;refine wn ?_;refine wn ?_;unfold jG;refine wn ?_;refine bD (fun (g7:(Int×(List Int)))=>0≤g7.1∧g7.1≤(l_.getD (m_.getD g1.1.toNat 0).toNat bJ).Functions.length∧(g7.2.length:Int)=g1.2.2.2.2.2.2.length+g7.1) (fun (g7:(Int×(List Int)))=>((l_.getD (m_.getD g1.1.toNat 0).toNat bJ).Functions.length - g7.1).toNat) ?_ ?_
    ·intro self7 g7 hig7 ihg7;obtain ⟨hg7_1,hg7_2,hg7_3⟩:=hig7;unfold pR;refine aD (fun c3=>?_) (fun c3=>?_)
     ·have c3:=nr c3;refine wn ?_;refine wn ?_;refine ihg7 _ ?_ ?_
      ·exact ob
      ·exact ob
     ·have c3:=nr c3;refine wn ?_;refine ihg1 _ ?_ ?_
      ·exact ob
      ·exact ob
    ·exact ob
   ·have c2:=nr c2;unfold jG;refine wn ?_;refine bD (fun (g7:(Int×(List Int)))=>0≤g7.1∧g7.1≤(l_.getD (m_.getD g1.1.toNat 0).toNat bJ).Functions.length∧(g7.2.length:Int)=g1.2.2.2.2.2.2.length+g7.1) (fun (g7:(Int×(List Int)))=>((l_.getD (m_.getD g1.1.toNat 0).toNat bJ).Functions.length - g7.1).toNat) ?_ ?_
    ·intro self7 g7 hig7 ihg7;obtain ⟨hg7_1,hg7_2,hg7_3⟩:=hig7;unfold pR;refine aD (fun c4=>?_) (fun c4=>?_)
     ·have c4:=nr c4;refine wn ?_;refine wn ?_;refine ihg7 _ ?_ ?_
      ·exact ob
      ·exact ob
     ·have c4:=nr c4;refine wn ?_;refine ihg1 _ ?_ ?_
      ·exact ob
      ·exact ob
    ·exact ob
  ·have c1:=nr c1;refine ay (Pk ob ob) fun v1 hv1=>?_;refine ay (Sp.Pf ob ob) fun v9 hv9=>?_;subst v9;unfold pU;refine ay (NK ob ob ob) fun v3 hv3=>?_;refine ay (NM ob ob) fun v4 hv4=>?_;refine ay (Va ob) fun v5 hv5=>?_;refine aD (fun c5=>?_) (fun c5=>?_)
   ·have c5:=nr c5;refine ak ?_;(refine ⟨⟨by simp,by simp,by simp,by simp,by simp,by simp⟩,by simp⟩)
   ·have c5:=nr c5;obtain ⟨⟨⟨⟨e1,e2⟩,e3⟩,e4⟩,e5⟩:=c5;obtain ⟨q1,_,_⟩:=hv1 e1;have hsl:=(IC q1).1;obtain ⟨k1,k2⟩:=Sp.XO e2;obtain ⟨a1,a2⟩:=hv3 e3;have r1:=hv4 e4;have r2:=hv5 e5;dsimp only at a1;refine bD (fun (g9:(Int×(List aL)))=>0≤g9.1∧g9.1≤v3.1.length∧(g9.2.length:Int)=g9.1) (fun (g9:(Int×(List aL)))=>(v3.1.length - g9.1).toNat) ?_ ?_
    ·intro self9 g9 hig9 ihg9;obtain ⟨hg9_1,hg9_2,hg9_3⟩:=hig9;unfold xZ;refine aD (fun c6=>?_) (fun c6=>?_)
     ·have c6:=nr c6;have hx:=a2 _ (getD_in (i:=g9.1.toNat) 0 (by omega));have hgx:=hgs _ (getD_in (i:=(v3.1.getD g9.1.toNat 0).toNat) aF (by omega));refine wn ?_;refine wn ?_;refine wn ?_;refine wn ?_;refine wn ?_;refine ay (G9 ob) fun v8 hv8=>?_;obtain ⟨hv8_1,hv8_2⟩:=hv8;refine wn ?_;refine wn ?_;refine ihg9 _ ?_ ?_
      ·exact ob
      ·exact ob
     ·have c6:=nr c6;refine ak ?_;(refine ⟨⟨?_,?_,?_,?_,?_,?_⟩,?_⟩<;>dsimp only<;>omega)
    ·exact ob
 ·exact ob
end Go.Proofs.YtfblhejmclcdmaaGreatDoor

namespace Go.Proofs.YtfblhejmclcdmaaGreatDoor
open Go.Ab
set_option maxRecDepth 100000
theorem Pm {o0_:aZ} (h1:0≤o0_.At) (h2:o0_.L.length≤600):W (x9 o0_) (fun r=>YP r.1∧r.2.1.length≤5∧(∀x∈r.2.1,x.Limits.length≤1∧x.Draws.length≤1∧x.Functions.length≤2∧x.Resets.length≤100∧x.bA.length≤100)∧r.2.2.1.length≤5∧(∀x∈r.2.2.1,0≤x∧x<r.2.1.length)∧yO r.2.2.2.1∧r.2.2.2.1.Uses.length≤2000∧0≤r.2.2.2.2.2.At∧r.2.2.2.2.2.L.length≤600):=by
 unfold x9;refine ay (Iw ob ob) fun v1 hv1=>?_;obtain ⟨hv1_1,hv1_2,hv1_3⟩:=hv1;refine ay (Fx ob ob ob ob ob) fun v2 hv2=>?_;obtain ⟨hv2_1,hv2_2,hv2_3,hv2_4⟩:=hv2;have hnz:∀x∈v2.1,x.Limits.length≤100∧x.Draws.length≤100∧x.Functions.length≤100∧x.Resets.length≤100:=fun x hx=>by have:=hv2_2 x hx; omega
 refine ay (Ch hv1_1 (by omega) (by simp) nofun hnz) fun v3 hv3=>?_;obtain ⟨hv3_1,hv3_2⟩:=hv3;refine bD (fun (g1:(Int×(List Int)×Int×(List Int)×(List Bool)×(List Int)×(List aL)×(List Bool)×(List Bool)×(List Int)))=>0≤g1.1∧g1.1≤v2.1.length∧0≤g1.2.2.1∧g1.2.1.length≤600∧yO (⟨g1.2.2.2.1,⟨g1.2.2.2.2.1,g1.2.2.2.2.2.1⟩,g1.2.2.2.2.2.2.1,g1.2.2.2.2.2.2.2.1,g1.2.2.2.2.2.2.2.2.1⟩:bq)∧(⟨g1.2.2.2.1,⟨g1.2.2.2.2.1,g1.2.2.2.2.2.1⟩,g1.2.2.2.2.2.2.1,g1.2.2.2.2.2.2.2.1,g1.2.2.2.2.2.2.2.2.1⟩:bq).Uses.length≤2000∧(g1.2.2.2.2.2.2.2.2.2.length:Int)≤g1.1∧(∀x∈g1.2.2.2.2.2.2.2.2.2,0≤x∧x<v2.1.length)) (fun (g1:(Int×(List Int)×Int×(List Int)×(List Bool)×(List Int)×(List aL)×(List Bool)×(List Bool)×(List Int)))=>(v2.1.length - g1.1).toNat) ?_ ?_
 ·intro self1 g1 hig1 ihg1;obtain ⟨hg1_1,hg1_2,hg1_3,hg1_4,hg1_5,hg1_6,hg1_7,hg1_8⟩:=hig1;unfold Eb;refine aD (fun c1=>?_) (fun c1=>?_)
  ·have c1:=nr c1;have hmm:∀x∈g1.2.2.2.2.2.2.2.2.2++[g1.1],0≤x∧x<v2.1.length:=fun x hx=>by rcases List.mem_append.1 hx with h | h; exact hg1_8 x h; (rw [List.mem_singleton] at h; rw [h]; omega)
   refine wn ?_;refine wn ?_;refine ay (Ch hv1_1 (by omega) (by simp only [List.length_append,List.length_singleton]; omega) hmm hnz) fun v8 hv8=>?_;obtain ⟨hv8_1,hv8_2⟩:=hv8;refine aD (fun c2=>?_) (fun c2=>?_)
   ·have c2:=nr c2;refine ay (aQ ob ob ob) fun v9 hv9=>?_;obtain ⟨hv9_1,hv9_2,hv9_3,hv9_4,hv9_5⟩:=hv9;refine aD (fun c3=>?_) (fun c3=>?_)
    ·have c3:=nr c3;refine wn ?_;refine wn ?_;refine ihg1 _ ?_ ?_
     ·(refine ⟨by exact ob,by exact ob,by exact ob,by exact ob,hv8_1,hv8_2,by exact ob,hmm⟩)
     ·exact ob
    ·have c3:=nr c3;refine wn ?_;refine ihg1 _ ?_ ?_
     ·(refine ⟨by exact ob,by exact ob,by exact ob,by exact ob,hg1_5,hg1_6,by exact ob,hg1_8⟩)
     ·exact ob
   ·have c2:=nr c2;refine wn ?_;refine wn ?_;refine ihg1 _ ?_ ?_
    ·(refine ⟨by exact ob,by exact ob,by exact ob,by exact ob,hg1_5,hg1_6,by exact ob,hg1_8⟩)
    ·exact ob
  ·have c1:=nr c1;refine ak ?_;(refine ⟨hv1_1,by dsimp only; omega,fun x hx=>by have:=hv2_2 x hx; omega,by dsimp only; omega,hg1_8,hg1_5,hg1_6,hg1_3,hg1_4⟩)
 ·(refine ⟨by exact ob,by exact ob,by exact ob,by exact ob,hv3_1,hv3_2,by exact ob,nofun⟩)
end Go.Proofs.YtfblhejmclcdmaaGreatDoor

namespace Go.Proofs.YtfblhejmclcdmaaGreatDoor
open Go.Ab
set_option maxRecDepth 100000
theorem vE:W qU (fun r=>r=true):=⟨true,rfl,rfl⟩
theorem acM {b:bQ} (h:YP b):Tm b:=by
 obtain ⟨b1,b2,b3,b4,b5,b6,b7,b8,b9⟩:=h;exact ⟨by omega,fun i hi=>by have:=b2 _ (getD_in (i:=i) au hi); omega,by omega,fun g hg=>by have:=b6 g hg; omega,by omega,fun g hg=>by have:=b8 g hg; omega,by omega⟩
theorem acN {a:Int} {n:Nat} (h0:0≤a) (h1:a≤255) (hn:n≤7):0≤(IntKind.i64.wrap a).tmod (((n:Nat):Int)+1)∧(IntKind.i64.wrap a).tmod (((n:Nat):Int)+1)≤n:=by
 have e:IntKind.i64.wrap a=a:=wrap_i64 (by unfold InI64; omega);rw [e];have h2:=Fe a ((n:Int)+1) (by omega);have h3:=Int.tmod_nonneg (a:=a) ((n:Int)+1) h0;omega
theorem I8 {α:Type} {l:List α} {i:Int} {v:α} {n:Nat} (h:l.length≤n):(AX l i v).2.length≤n:=by rw [fT]; exact h
theorem Zj {w:dP} {g:bq} {n:Nat} (h:yO g) (hn:g.Uses.length≤n) (h2:n<1000000):yO (dS w g).2∧(dS w g).2.Uses.length≤n+1:=by
 obtain ⟨z1,z2,z3,z4,z5,z6⟩:=id h;have hn1:g.Uses.length≤n+1:=by omega
 have h0:yO g∧g.Uses.length≤n+1:=⟨h,hn1⟩;unfold dS;cases decide (w.Value<0) with
 | true=>exact h0
 | false=>
  cases w.Kind==1 with
  | true=>exact ⟨⟨I8 z1,z2,z3,z4,z5,z6⟩,hn1⟩
  | false=>
   cases w.Kind==2 with
   | true=>exact ⟨⟨z1,z2,I8 z3,z4,z5,z6⟩,hn1⟩
   | false=>
    cases w.Kind==3 with
    | true=>
     cases decide (w.Value≤1) with
     | true=>exact ⟨⟨z1,I8 z2,z3,z4,z5,z6⟩,hn1⟩
     | false=>exact h0
    | false=>
     cases w.Kind==11 with
     | true=>
      cases decide (w.Value≤1) with
      | true=>exact ⟨⟨z1,z2,z3,z4,I8 z5,z6⟩,hn1⟩
      | false=>exact h0
     | false=>
      cases w.Kind==12 with
      | true=>
       cases decide (w.Value≤1) with
       | true=>exact ⟨⟨z1,z2,z3,z4,z5,I8 z6⟩,hn1⟩
       | false=>exact h0
      | false=>
       cases w.Kind==10 with
       | true=>
        cases !(decide (0≤w.Unit)&&decide (w.Unit≤23)) with
        | true=>exact h0
        | false=>
         have hd:(Tt w.Unit g.Uses).length≤n:=by
          unfold Tt;cases decide (0≤GL g.Uses (Y8 w.Unit)) with
          | true=>exact Nat.le_trans (List.length_eraseIdx_le ..) hn
          | false=>exact hn
         have ha:(U8 w.Unit w.Value (Tt w.Unit g.Uses)).length≤n+1:=by
          unfold U8;cases decide (0<w.Value) with
          | true=>simp only [cond_true,List.length_append,List.length_singleton]; omega
          | false=>simp only [cond_false]; omega
         exact ⟨⟨z1,z2,z3,Nat.le_trans ha (by omega),z5,z6⟩,ha⟩
       | false=>exact h0
theorem Vf:yO ZP:=⟨by simp [ZP],by simp [ZP],by simp [ZP],by simp [ZP],by simp [ZP],by simp [ZP]⟩
theorem ab1 {b:bQ} {l:List aV} {m:List Int}:∀(w:List dP) (i:Int) (g:bq) (n:Nat),yO g→g.Uses.length≤n→n+w.length≤900000→yO (tq b l m w i g).1∧(tq b l m w i g).1.Uses.length≤n+w.length:=by
 intro w;induction w with
 | nil=>intro i g n h hn _; exact ⟨h,hn⟩
 | cons x w ih=>
  intro i g n h hn hb;simp only [List.length_cons] at hb ⊢;obtain ⟨a1,a2⟩:=Zj (w:=x) h hn (by omega);rw [tq];cases !(dS x g).1 with
  | true=>exact ⟨Vf,Nat.zero_le _⟩
  | false=>
   simp only [cond_false];cases Qe b l m (dS x g).2 != 0 with
   | true=>exact ⟨a1,by simp only [cond_true]; omega⟩
   | false=>
    have:=ih (i+1) _ (n+1) a1 a2 (by omega);simp only [cond_false];exact ⟨this.1,by omega⟩
theorem ab2 {b:bQ} {l:List aV} {m:List Int}:∀(w:List dP) (i:Int) (g:bq),0≤i→0≤(tq b l m w i g).2.1∧(tq b l m w i g).2.1≤i+w.length:=by
 intro w;induction w with
 | nil=>intro i g h; exact ⟨h,by simp [tq]⟩
 | cons x w ih=>
  intro i g h;simp only [List.length_cons];rw [tq];cases !(dS x g).1 with
  | true=>simp only [cond_true]; omega
  | false=>
   simp only [cond_false];cases Qe b l m (dS x g).2 != 0 with
   | true=>simp only [cond_true]; omega
   | false=>
    have:=ih (i+1) (dS x g).2 (by omega);simp only [cond_false];omega
theorem aaR {b:bQ} {l:List aV} {m:List Int} (c:List dP):∀(a:List dP) (i:Int) (g:bq),tq b l m (a++c) i g=bif (tq b l m a i g).2.2.2 != 0||(tq b l m a i g).2.2.1 != 0 then tq b l m a i g else tq b l m c (i+a.length) (tq b l m a i g).1:=by
 intro a;induction a with
 | nil=>intro i g; simp [tq]
 | cons x a ih=>
  intro i g;rw [List.cons_append,tq,tq];cases !(dS x g).1 with
  | true=>rfl
  | false=>
   simp only [cond_false];cases hb:Qe b l m (dS x g).2 != 0 with
   | true=>simp only [cond_true,hb,Bool.or_true]
   | false=>
    simp only [cond_false];rw [ih,List.length_cons,show i+((a.length+1:Nat):Int)=i+1+a.length by omega]
theorem Zk {b:bQ} {l:List aV} {m:List Int}:∀(w:List dP) (i:Int) (g:bq),Qe b l m g=0→(tq b l m w i g).2.2.2=0→(tq b l m w i g).2.2.1=0→(tq b l m w i g).2.1=i+w.length∧Qe b l m (tq b l m w i g).1=0:=by
 intro w;induction w with
 | nil=>intro i g h _ _; exact ⟨by simp [tq],h⟩
 | cons x w ih=>
  intro i g h h1 h2;rw [tq] at h1 h2 ⊢;cases ha:!(dS x g).1 with
  | true=>rw [ha] at h1; cases h1
  | false=>
   rw [ha] at h1 h2;simp only [cond_false] at h1 h2 ⊢;cases hb:Qe b l m (dS x g).2 != 0 with
   | true=>rw [hb] at h2; simp only [cond_true] at h2; simp at hb; exact absurd h2 hb
   | false=>
    rw [hb] at h1 h2;simp only [cond_false] at h1 h2 ⊢;have:=ih (i+1) _ (by simpa using hb) h1 h2;exact ⟨by rw [this.1,List.length_cons]; omega,this.2⟩
theorem XP {b:bQ} {l:List aV} {m:List Int} (k:Int):∀(w:List dP) (i:Int) (g:bq),tq b l m w (i+k) g=bif (tq b l m w i g).2.2.2 != 0 then tq b l m w i g else ((tq b l m w i g).1,(tq b l m w i g).2.1+k,(tq b l m w i g).2.2.1,0):=by
 intro w;induction w with
 | nil=>intro i g; simp [tq]
 | cons x w ih=>
  intro i g;rw [tq,tq];cases !(dS x g).1 with
  | true=>rfl
  | false=>
   simp only [cond_false];cases hb:Qe b l m (dS x g).2 != 0 with
   | true=>rfl
   | false=>
    simp only [cond_false];rw [show i+k+1=i+1+k by omega,ih]
theorem aaS {br j n k len:Int} (h1:br=0→j=len - k) (h2:j+k=n):(((((((0:Int)==0)&&(br==br))&&true)&&(((br==0)&&(j==len - k))||((br != 0)&&(k+j==n))))&&true)=true):=by
 by_cases hb:br=0
 ·rw [h1 hb,hb]; simp
 ·rw [show k+j=n by omega]; simp [hb]
theorem aaT (b:bQ) (l:List aV) (m:List Int) (g:bq) (w:List dP) (k:Nat) (hk:k≤w.length):
  ((dQ b l m g w).2.2.2≠0→((dQ b l m g (w.take k)).2.2.2=0∨(dQ b l m g (w.take k)).2.2.2=(dQ b l m g w).2.2.2))∧
  ((dQ b l m g w).2.2.2=0→(dQ b l m g (w.take k)).2.2.2=0)∧
  ((dQ b l m g w).2.2.2=0→(dQ b l m g (w.take k)).2.2.1≠0→dQ b l m g (w.take k)=dQ b l m g w)∧
  ((dQ b l m g w).2.2.2=0→(dQ b l m g (w.take k)).2.2.1=0→(dQ b l m g (w.take k)).2.1=k∧(dQ b l m (dQ b l m g (w.take k)).1 (w.drop k)).2.2.2=0∧
    (dQ b l m (dQ b l m g (w.take k)).1 (w.drop k)).2.2.1=(dQ b l m g w).2.2.1∧(dQ b l m (dQ b l m g (w.take k)).1 (w.drop k)).1=(dQ b l m g w).1∧
    0≤(dQ b l m (dQ b l m g (w.take k)).1 (w.drop k)).2.1∧(dQ b l m (dQ b l m g (w.take k)).1 (w.drop k)).2.1≤w.length - k∧
    (dQ b l m (dQ b l m g (w.take k)).1 (w.drop k)).2.1+k=(dQ b l m g w).2.1∧((dQ b l m g w).2.2.1=0→(dQ b l m (dQ b l m g (w.take k)).1 (w.drop k)).2.1=w.length - k)):=by
 unfold dQ;cases h1:ndF b l != 0 with
 | true=>
  have h1':ndF b l≠0:=by simpa using h1
  simp only [cond_true];exact ⟨fun _=>.inr trivial,fun h=>absurd h h1',fun h=>absurd h h1',fun h=>absurd h h1'⟩
 | false=>
  simp only [cond_false];cases h2:!dfF l m with
  | true=>
   simp only [cond_true];exact ⟨fun _=>.inr trivial,fun h=>absurd h (by decide),fun h=>absurd h (by decide),fun h=>absurd h (by decide)⟩
  | false=>
   simp only [cond_false];cases h3:Qe b l m g != 0 with
   | true=>
    have h3':Qe b l m g≠0:=by simpa using h3
    simp only [cond_true];exact ⟨fun h=>absurd rfl h,fun _=>trivial,fun _ _=>trivial,fun _ h=>absurd h h3'⟩
   | false=>
    have h3':Qe b l m g=0:=by simpa using h3
    simp only [cond_false];have hw:tq b l m w 0 g=tq b l m (w.take k++w.drop k) 0 g:=by rw [List.take_append_drop]
    have hl:(w.take k).length=k:=by rw [List.length_take]; omega
    have hl2:(w.drop k).length=w.length - k:=List.length_drop ..;rw [hw,aaR,hl];generalize w.take k=a at hl;generalize w.drop k=c at hl2;cases h4:(tq b l m a 0 g).2.2.2 != 0 with
    | true=>
     have h4':(tq b l m a 0 g).2.2.2≠0:=by simpa using h4
     simp only [Bool.true_or,cond_true];exact ⟨fun _=>.inr trivial,fun h=>h,fun _ _=>trivial,fun h=>absurd h h4'⟩
    | false=>
     have h4':(tq b l m a 0 g).2.2.2=0:=by simpa using h4
     cases h5:(tq b l m a 0 g).2.2.1 != 0 with
     | true=>
      have h5':(tq b l m a 0 g).2.2.1≠0:=by simpa using h5
      simp only [Bool.false_or,cond_true];exact ⟨fun _=>.inr trivial,fun h=>h,fun _ _=>trivial,fun _ h=>absurd h h5'⟩
     | false=>
      have h5':(tq b l m a 0 g).2.2.1=0:=by simpa using h5
      simp only [Bool.or_self,cond_false];obtain ⟨h6,h7⟩:=Zk a 0 g h3' h4' h5';rw [show (Qe b l m (tq b l m a 0 g).1 != 0)=false by rw [h7]; rfl];simp only [cond_false];have hs:=XP (b:=b) (l:=l) (m:=m) k c 0 (tq b l m a 0 g).1;have hbd:=ab2 (b:=b) (l:=l) (m:=m) c 0 (tq b l m a 0 g).1 (Int.le_refl 0);refine ⟨fun _=>.inl h4',fun _=>h4',fun _ h=>absurd h5' h,fun h _=>?_⟩;rw [hs] at h ⊢;cases h8:(tq b l m c 0 (tq b l m a 0 g).1).2.2.2 != 0 with
      | true=>rw [h8] at h; simp only [cond_true] at h; simp at h8; exact absurd h h8
      | false=>
       have h8':(tq b l m c 0 (tq b l m a 0 g).1).2.2.2=0:=by simpa using h8
       simp only [cond_false];refine ⟨by rw [h6]; omega,h8',trivial,trivial,hbd.1,by omega,trivial,fun h9=>?_⟩;have:=Zk c 0 _ h7 h8' h9;omega
theorem NT {b:bQ} {l:List aV} {m:List Int} {g:bq} {w:List dP} {n:Nat} (h:yO g) (hn:g.Uses.length≤n) (hw:n+w.length≤900000):yO (dQ b l m g w).1∧(dQ b l m g w).1.Uses.length≤n+w.length:=by
 unfold dQ;cases ndF b l != 0 with
 | true=>exact ⟨Vf,Nat.zero_le _⟩
 | false=>
  cases !dfF l m with
  | true=>exact ⟨Vf,Nat.zero_le _⟩
  | false=>
   cases Qe b l m g != 0 with
   | true=>exact ⟨h,by simp only [cond_true,cond_false]; omega⟩
   | false=>exact ab1 w 0 g n h hn hw
theorem Ey {at_:Int} {v3:(bQ×(List aV)×(List Int)×bq×Bool×aZ)} {g2:(List dP)}   (hc:0≤at_∧at_≤255∧g2.length≤7∧(∀x∈g2,x.Value≤100)∧Tm v3.1∧XC v3.2.1∧v3.2.2.1.length≤5∧yO v3.2.2.2.1∧v3.2.2.2.1.Uses.length≤2000):W (kM at_ v3 g2) (fun r=>r=true):=by
 obtain ⟨hc_1,hc_2,hc_3,hc_4,hc_5,hc_6,hc_7,hc_8,hc_9⟩:=hc;unfold kM;refine ay (rT hc_5 hc_6 (by omega) hc_8 (by omega) (by omega) (fun x hx=>by have:=hc_4 x hx; omega)) fun v11 hv11=>?_;subst v11;have hn:=acN hc_1 hc_2 (n:=g2.length) (by omega);generalize hk:((IntKind.i64.wrap at_).tmod ((g2.length:Int)+1))=k at hn ⊢;have htv:∀x∈g2.take k.toNat,x.Value≤9223372036854775807:=fun x hx=>by have:=hc_4 x (List.mem_of_mem_take hx); omega
 have hdv:∀x∈(g2.drop k.toNat).take (g2.length - k.toNat),x.Value≤9223372036854775807:=fun x hx=>by have:=hc_4 x (List.mem_of_mem_drop (List.mem_of_mem_take hx)); omega
 have hsp:(g2.drop k.toNat).take (g2.length - k.toNat)=g2.drop k.toNat:=List.take_of_length_le (by rw [List.length_drop]; omega);have hal:(g2.take k.toNat).length=k.toNat:=(by rw [List.length_take]; omega);obtain ⟨x1,x2,x3,x4⟩:=aaT v3.1 v3.2.1 v3.2.2.1 v3.2.2.2.1 g2 k.toNat (by omega);refine wn ?_;refine wn ?_;refine aD (fun c1=>?_) (fun c1=>?_)
 ·have c1:=nr c1;refine wn ?_;refine ay (rT hc_5 hc_6 (by omega) hc_8 (by omega) (by omega) htv) fun v12 hv12=>?_;subst v12;refine ay (dF fun hc=>iJ (vE)) fun v13 hv13=>?_;subst v13;refine ak ?_;(rcases x1 c1 with h | h<;>simp [h])
 ·have c1:=nr c1;refine wn ?_;refine ay (rT hc_5 hc_6 (by omega) hc_8 (by omega) (by omega) htv) fun v14 hv14=>?_;subst v14;refine aD (fun c2=>?_) (fun c2=>?_)
  ·have c2:=nr c2;refine ak ?_;(exact absurd (x2 c1) c2)
  ·have c2:=nr c2;refine aD (fun c3=>?_) (fun c3=>?_)
   ·have c3:=nr c3;refine ay (dF fun hc=>iJ (IY (NT (n:=2000) hc_8 hc_9 (by omega)).1)) fun v15 hv15=>?_;subst v15;refine ay (dF fun hc=>iJ (vE)) fun v16 hv16=>?_;subst v16;refine ak ?_;(have e:=x3 c1 c3; rw [e,NH]; simp)
   ·have c3:=nr c3;refine aD (fun c4=>?_) (fun c4=>?_)
    ·have c4:=nr c4;refine ak ?_;(exact absurd (x4 c1 c3).1 (by omega))
    ·have c4:=nr c4;obtain ⟨y1,y2,y3,y4,y5,y6,y7,y8⟩:=x4 c1 c3;simp only [hsp] at hdv ⊢;have hz:=NT (b:=v3.1) (l:=v3.2.1) (m:=v3.2.2.1) (w:=g2.take k.toNat) (n:=2000) hc_8 hc_9 (by omega);have hdl:(g2.drop k.toNat).length≤7:=(by rw [List.length_drop]; omega);refine wn ?_;refine ay (rT hc_5 hc_6 (by omega) hz.1 (by omega) (by omega) hdv) fun v17 hv17=>?_;subst v17;refine ay (dF fun hc=>iJ (IY (NT (n:=3000) hz.1 (by omega) (by omega)).1)) fun v18 hv18=>?_;subst v18;refine bV (by (intro _ _; unfold InI64; omega)) ?_;refine bV (by (intro _ _ _; unfold InI64; omega)) ?_;refine ay (dF fun hc=>iJ (vE)) fun v19 hv19=>?_;subst v19;refine ak ?_;(rw [y2,y3,y4,NH]; exact aaS (fun hb=>by have:=y8 hb; omega) (by omega))
theorem Ka {t_:(List Int)} {at_:Int} (h1:0≤at_) (h2:at_≤255):W (wE t_ at_) (fun r=>r=true):=by
 unfold wE;refine aD (fun c1=>?_) (fun c1=>?_)
 ·have c1:=nr c1;refine ay (vE) fun v1 hv1=>?_;subst v1;refine ak ?_;(rfl)
 ·have c1:=nr c1;refine ay (SA) fun v2 hv2=>?_;obtain ⟨hv2_1,hv2_2⟩:=hv2;refine ay (Pm ob ob) fun v3 hv3=>?_;obtain ⟨hv3_1,hv3_2,hv3_3,hv3_4,hv3_5,hv3_6,hv3_7,hv3_8,hv3_9⟩:=hv3;have hbs:=acM hv3_1;have hns:XC v3.2.1:=⟨by omega,fun n hn=>by have:=hv3_3 n hn; omega⟩;refine ay (aQ ob ob ob) fun v20 hv20=>?_;obtain ⟨hv20_1,hv20_2,hv20_3,hv20_4,hv20_5⟩:=hv20;refine bD (fun (g3:(Int×(List Int)×Int×(List dP)))=>0≤g3.1∧0≤g3.2.2.1∧g3.2.1.length≤600∧(g3.2.2.2.length:Int)+g3.1≤7∧(∀x∈g3.2.2.2,x.Value≤100)) (fun (g3:(Int×(List Int)×Int×(List dP)))=>g3.1.toNat) ?_ ?_
  ·intro self3 g3 hig3 ihg3;obtain ⟨hg3_1,hg3_2,hg3_3,hg3_4,hg3_5⟩:=hig3;unfold yg;refine aD (fun c2=>?_) (fun c2=>?_)
   ·have c2:=nr c2;refine ay (I7 ob ob) fun v25 hv25=>?_;obtain ⟨hv25_1,hv25_2,hv25_3⟩:=hv25;refine ay (OW hv3_6 (by omega)) fun v26 hv26=>?_;refine aD (fun c3=>?_) (fun c3=>?_)
    ·have c3:=nr c3;refine wn ?_;refine wn ?_;refine ihg3 _ ?_ ?_
     ·exact ob
     ·exact ob
    ·have c3:=nr c3;refine wn ?_;refine ihg3 _ ?_ ?_
     ·exact ob
     ·exact ob
   ·have c2:=nr c2;exact Ey ob
  ·exact ob
end Go.Proofs.YtfblhejmclcdmaaGreatDoor


namespace Go.Proofs.YtfblhejmclcdmaaGreatDoor
open Go.Ab
def cfg:mQ where
  ty:=[(3,⟨1,false,8,[(.int .i64)],(.int .i64)⟩),
  (4,⟨1,false,1,[.bool],.bool⟩),
  (5,⟨1,false,1,[(.int .u8)],(.int .u8)⟩),
  (9,⟨1,false,16,[.str],.str⟩),
  (22,⟨1,false,24,[.slice],(.slice 3)⟩),
  (24,⟨1,false,8,[.ptr],(.pointer 77)⟩),
  (26,⟨1,false,24,[.slice],(.slice 139)⟩),
  (27,⟨1,false,24,[.slice],(.slice 143)⟩),
  (28,⟨1,false,24,[.slice],(.slice 118)⟩),
  (29,⟨2,true,32,[(.int .i64),.slice],(.struct [(0,3),(1,28)])⟩),
  (30,⟨2,true,32,[(.int .i64),.slice],(.struct [(0,3),(1,28)])⟩),
  (31,⟨1,false,24,[.slice],(.slice 120)⟩),
  (32,⟨1,false,24,[.slice],(.slice 147)⟩),
  (33,⟨6,true,128,[.slice,.slice,(.int .i64),.slice,.slice,.slice],(.struct [(0,26),(1,27),(2,30),(4,31),(5,32)])⟩),
  (34,⟨6,true,128,[.slice,.slice,(.int .i64),.slice,.slice,.slice],(.struct [(0,26),(1,27),(2,30),(4,31),(5,32)])⟩),
  (35,⟨1,false,24,[.slice],(.slice 70)⟩),
  (36,⟨1,false,24,[.slice],(.slice 4)⟩),
  (37,⟨2,true,48,[.slice,.slice],(.struct [(0,36),(1,22)])⟩),
  (38,⟨2,true,48,[.slice,.slice],(.struct [(0,36),(1,22)])⟩),
  (39,⟨1,false,24,[.slice],(.slice 74)⟩),
  (40,⟨6,true,144,[.slice,.slice,.slice,.slice,.slice,.slice],(.struct [(0,22),(1,38),(3,39),(4,36),(5,36)])⟩),
  (41,⟨6,true,144,[.slice,.slice,.slice,.slice,.slice,.slice],(.struct [(0,22),(1,38),(3,39),(4,36),(5,36)])⟩),
  (44,⟨1,false,8,[(.int .i64)],(.int .i64)⟩),
  (48,⟨1,false,24,[.slice],(.slice 51)⟩),
  (50,⟨3,true,24,[(.int .i64),(.int .i64),(.int .i64)],(.struct [(0,3),(1,3),(2,3)])⟩),
  (51,⟨3,true,24,[(.int .i64),(.int .i64),(.int .i64)],(.struct [(0,3),(1,3),(2,3)])⟩),
  (59,⟨3,true,72,[.slice,.slice,.slice],(.array 3 35)⟩),
  (62,⟨18,true,432,[.slice,.slice,.slice,.slice,.slice,.slice,.slice,.slice,.slice,.slice,.slice,.slice,.slice,.slice,.slice,.slice,.slice,.slice],(.array 3 41)⟩),
  (63,⟨3,true,72,[.slice,.slice,.slice],(.array 3 22)⟩),
  (64,⟨2,true,48,[.slice,.slice],(.array 2 48)⟩),
  (66,⟨1,false,24,[.slice],(.slice 9)⟩),
  (67,⟨1,false,24,[.slice],(.slice 101)⟩),
  (68,⟨1,false,24,[.slice],(.slice 103)⟩),
  (69,⟨6,true,128,[.slice,.slice,.slice,.slice,(.int .i64),.slice],(.struct [(0,67),(1,68),(2,66),(3,22),(4,3),(5,22)])⟩),
  (70,⟨6,true,128,[.slice,.slice,.slice,.slice,(.int .i64),.slice],(.struct [(0,67),(1,68),(2,66),(3,22),(4,3),(5,22)])⟩),
  (71,⟨2,true,16,[(.int .i64),(.int .i64)],(.struct [(0,3),(1,3)])⟩),
  (72,⟨2,true,16,[(.int .i64),(.int .i64)],(.struct [(0,3),(1,3)])⟩),
  (73,⟨3,true,24,[(.int .i64),(.int .i64),(.int .i64)],(.struct [(0,3),(1,72)])⟩),
  (74,⟨3,true,24,[(.int .i64),(.int .i64),(.int .i64)],(.struct [(0,3),(1,72)])⟩),
  (76,⟨2,true,32,[.slice,(.int .i64)],(.struct [(0,22),(1,3)])⟩),
  (77,⟨2,true,32,[.slice,(.int .i64)],(.struct [(0,22),(1,3)])⟩),
  (86,⟨15,true,328,[.slice,.slice,(.int .i64),.slice,.slice,.slice,.slice,.slice,.slice,.slice,.slice,.slice,.slice,.slice,.bool],(.struct [(0,34),(6,35),(7,22),(8,41),(14,4)])⟩),
  (87,⟨15,true,328,[.slice,.slice,(.int .i64),.slice,.slice,.slice,.slice,.slice,.slice,.slice,.slice,.slice,.slice,.slice,.bool],(.struct [(0,34),(6,35),(7,22),(8,41),(14,4)])⟩),
  (93,⟨1,false,8,[.ptr],(.pointer 41)⟩),
  (100,⟨3,true,24,[(.int .i64),(.int .i64),(.int .i64)],(.struct [(0,3),(1,3),(2,3)])⟩),
  (101,⟨3,true,24,[(.int .i64),(.int .i64),(.int .i64)],(.struct [(0,3),(1,3),(2,3)])⟩),
  (102,⟨4,true,32,[(.int .i64),(.int .i64),(.int .i64),(.int .i64)],(.struct [(0,3),(1,3),(2,3),(3,3)])⟩),
  (103,⟨4,true,32,[(.int .i64),(.int .i64),(.int .i64),(.int .i64)],(.struct [(0,3),(1,3),(2,3),(3,3)])⟩),
  (112,⟨1,false,24,[.slice],(.slice 72)⟩),
  (117,⟨3,true,64,[.str,.slice,.slice],(.struct [(0,9),(1,22),(2,66)])⟩),
  (118,⟨3,true,64,[.str,.slice,.slice],(.struct [(0,9),(1,22),(2,66)])⟩),
  (119,⟨1,true,24,[.slice],(.struct [(0,22)])⟩),
  (120,⟨1,true,24,[.slice],(.struct [(0,22)])⟩),
  (138,⟨5,true,72,[(.int .i64),.slice,.slice,(.int .i64),(.int .i64)],(.struct [(0,3),(1,22),(2,22),(3,3),(4,3)])⟩),
  (139,⟨5,true,72,[(.int .i64),.slice,.slice,(.int .i64),(.int .i64)],(.struct [(0,3),(1,22),(2,22),(3,3),(4,3)])⟩),
  (140,⟨1,false,8,[.other],.other⟩),
  (142,⟨5,true,56,[(.int .i64),.slice,(.int .i64),(.int .i64),.bool],(.struct [(0,3),(1,22),(2,3),(3,3),(4,4)])⟩),
  (143,⟨5,true,56,[(.int .i64),.slice,(.int .i64),(.int .i64),.bool],(.struct [(0,3),(1,22),(2,3),(3,3),(4,4)])⟩),
  (146,⟨2,true,16,[(.int .i64),.bool],(.struct [(0,3),(1,4)])⟩),
  (147,⟨2,true,16,[(.int .i64),.bool],(.struct [(0,3),(1,4)])⟩),
  (148,⟨1,false,8,[.other],.other⟩),
  (149,⟨1,false,24,[.slice],(.slice 148)⟩),
  (158,⟨1,false,8,[.other],.other⟩),
  (163,⟨1,false,8,[.other],.other⟩),
  (165,⟨1,false,8,[.other],(.map 9 4)⟩),
  (170,⟨1,false,24,[.slice],(.slice 175)⟩),
  (174,⟨2,true,16,[(.int .i64),(.int .i64)],(.struct [(0,3),(1,3)])⟩),
  (175,⟨2,true,16,[(.int .i64),(.int .i64)],(.struct [(0,3),(1,3)])⟩),
  (179,⟨1,false,24,[.slice],(.slice 22)⟩),
  (180,⟨1,false,24,[.slice],(.slice 5)⟩),
  (194,⟨1,false,8,[.other],(.map 9 3)⟩),
  (196,⟨1,false,8,[.other],.other⟩),
  (213,⟨1,false,8,[.other],.other⟩),
  (215,⟨1,false,8,[.other],.other⟩),
  (216,⟨64,true,512,[(.int .i64),(.int .i64),(.int .i64),(.int .i64),(.int .i64),(.int .i64),(.int .i64),(.int .i64),(.int .i64),(.int .i64),(.int .i64),(.int .i64),(.int .i64),(.int .i64),(.int .i64),(.int .i64),(.int .i64),(.int .i64),(.int .i64),(.int .i64),(.int .i64),(.int .i64),(.int .i64),(.int .i64),(.int .i64),(.int .i64),(.int .i64),(.int .i64),(.int .i64),(.int .i64),(.int .i64),(.int .i64),(.int .i64),(.int .i64),(.int .i64),(.int .i64),(.int .i64),(.int .i64),(.int .i64),(.int .i64),(.int .i64),(.int .i64),(.int .i64),(.int .i64),(.int .i64),(.int .i64),(.int .i64),(.int .i64),(.int .i64),(.int .i64),(.int .i64),(.int .i64),(.int .i64),(.int .i64),(.int .i64),(.int .i64),(.int .i64),(.int .i64),(.int .i64),(.int .i64),(.int .i64),(.int .i64),(.int .i64),(.int .i64)],(.array 64 3)⟩),
  (217,⟨64,true,512,[(.int .i64),(.int .i64),(.int .i64),(.int .i64),(.int .i64),(.int .i64),(.int .i64),(.int .i64),(.int .i64),(.int .i64),(.int .i64),(.int .i64),(.int .i64),(.int .i64),(.int .i64),(.int .i64),(.int .i64),(.int .i64),(.int .i64),(.int .i64),(.int .i64),(.int .i64),(.int .i64),(.int .i64),(.int .i64),(.int .i64),(.int .i64),(.int .i64),(.int .i64),(.int .i64),(.int .i64),(.int .i64),(.int .i64),(.int .i64),(.int .i64),(.int .i64),(.int .i64),(.int .i64),(.int .i64),(.int .i64),(.int .i64),(.int .i64),(.int .i64),(.int .i64),(.int .i64),(.int .i64),(.int .i64),(.int .i64),(.int .i64),(.int .i64),(.int .i64),(.int .i64),(.int .i64),(.int .i64),(.int .i64),(.int .i64),(.int .i64),(.int .i64),(.int .i64),(.int .i64),(.int .i64),(.int .i64),(.int .i64),(.int .i64)],(.array 64 3)⟩),
  (230,⟨1,false,8,[.other],.other⟩)]
  eqs:=[(74,[(.int .i64),(.int .i64),(.int .i64)]),(175,[(.int .i64),(.int .i64)])]
  fns:=[(7,⟨[],true⟩),(8,⟨[0],true⟩),(11,⟨[0],false⟩),(12,⟨[0],false⟩),(13,⟨[],true⟩),(14,⟨[],true⟩),(17,⟨[0],true⟩),(20,⟨[0],true⟩),(22,⟨[],true⟩),(23,⟨[],true⟩),(24,⟨[],true⟩),(25,⟨[0],true⟩),(26,⟨[0],true⟩),(27,⟨[],true⟩),(35,⟨[0],false⟩),(36,⟨[0],false⟩),(37,⟨[],true⟩),(39,⟨[],true⟩),(40,⟨[0],false⟩),(50,⟨[0],false⟩),(58,⟨[],true⟩),(59,⟨[],true⟩),(63,⟨[0],true⟩),(64,⟨[0],true⟩),(65,⟨[0],true⟩),(66,⟨[0],true⟩),(67,⟨[0],true⟩),(68,⟨[0],false⟩),(69,⟨[0],false⟩),(70,⟨[0],true⟩),(71,⟨[0],true⟩),(72,⟨[],true⟩),(73,⟨[],true⟩),(74,⟨[],true⟩),(75,⟨[],true⟩),(76,⟨[],true⟩),(79,⟨[],true⟩),(92,⟨[],true⟩),(93,⟨[],true⟩),(94,⟨[],true⟩),(95,⟨[],true⟩),(96,⟨[0],false⟩),(97,⟨[0],false⟩),(100,⟨[0],true⟩),(112,⟨[],true⟩),(118,⟨[],true⟩),(120,⟨[],true⟩),(122,⟨[],true⟩),(126,⟨[],true⟩),(131,⟨[],true⟩),(133,⟨[],true⟩),(152,⟨[],true⟩),(154,⟨[],true⟩),(157,⟨[],true⟩),(162,⟨[],true⟩),(168,⟨[],true⟩),(169,⟨[],true⟩),(188,⟨[],true⟩),(204,⟨[0],false⟩),(205,⟨[0],false⟩),(206,⟨[0],false⟩),(207,⟨[0],false⟩),(208,⟨[0],false⟩),(211,⟨[0],false⟩)]
  glob:=[(0,[iV (0:Int),iV (1:Int)])]
theorem fE:dK Tryz.prog cfg:=Sr (by kernel_rfl) (by kernel_rfl) (by kernel_rfl)
abbrev S:=Ab.Spec Tryz.prog cfg
end Go.Proofs.YtfblhejmclcdmaaGreatDoor









namespace Go.Proofs.YtfblhejmclcdmaaGreatDoor
open Go.Ab Go.RowKit Go.Shelf
attribute [local go_sem] Oper.semAt_some
set_option maxRecDepth 100000 in
set_option maxHeartbeats 2000000 in
theorem aaU (F:Fence) (n:Nat) (h7:F.fn 194) (hro:F.round=none) (hn:1≤n) (l B O b off len cap:Nat) (hlen:len≤1000000) (Keep:World→Prop)
  (c0 c1 c2 c3 c4:Nat→Value) (v1:Nat→Value) (hv:∀i,v1 i=.agg #[c0 i,c1 i,c2 i,c3 i,c4 i])
  (hB:∀w,Keep w→w.cell? ⟨B,O,none⟩=some (.slice (some ⟨b,off,none⟩) len cap))
  (h0:∀w i,Keep w→i<len→w.cell? ⟨b,off+i*5,none⟩=some (c0 i)) (h1:∀w i,Keep w→i<len→w.cell? ⟨b,off+i*5+1,none⟩=some (c1 i)) (h2:∀w i,Keep w→i<len→w.cell? ⟨b,off+i*5+2,none⟩=some (c2 i))
  (h3:∀w i,Keep w→i<len→w.cell? ⟨b,off+i*5+3,none⟩=some (c3 i)) (h4:∀w i,Keep w→i<len→w.cell? ⟨b,off+i*5+4,none⟩=some (c4 i))
  (J:Nat→World→Prop) (Jx:World→Prop)
  (hY:∀k W,k<len→J k W→YieldAt F (n - 1) Tryz.prog l #[.int .i64 ((len - 1 - k:Nat):Int),v1 (len - 1 - k)] W fun e W'=>
    (e=.returned (.bool true)∧J (k+1) W'∧Keep W')∨(e=.returned (.bool false)∧Jx W'))
  (W:World) (hW:Keep W) (hJ:J 0 W):
  CallsIn F n Tryz.prog 194 #[.func (.yield l) #[] #[],.pointer (some ⟨B,O,none⟩)] W fun e W'=>(∃v,e=.returned v)∧(J len W'∨Jx W'):=by
 refine callsIn_of_wp Tryz.func194 rfl h7 ?_ hro;simp only [Tryz.ntmps194,List.size_toArray,List.length_cons,List.length_nil,Nat.reduceAdd,Nat.reduceSub,Array.replicate_succ,Array.replicate_zero,List.push_toArray,List.append_toArray,List.nil_append,List.cons_append];have hB0:=hB W hW;gi_wp2;gi_loopw [3] (fun i wr=>∃k:Nat,k≤len∧i=.int .i64 ((len:Int) - 1 - k)∧J k wr∧Keep wr)
  (fun i _=>(intOf i+1).toNat)
 case atStart=>exact ⟨0,Nat.zero_le _,by simp,hJ,hW⟩
 case round=>
  obtain ⟨k,hk,rfl,hJs,hkp⟩:=hrel
  by_cases hlt:k<len
  ·obtain ⟨fn,tmps,assign,body,hy,hR⟩:=hY k wr hlt hJs
   have hBr:=hB wr hkp
   obtain ⟨i,hi⟩:∃i:Nat,i=len - 1 - k:=⟨_,rfl⟩
   rw [← hi] at hy
   have hil:i<len:=by omega
   have hii:((len:Int) - 1 - k)=(i:Int):=by omega
   rw [hii]
   have e0:=h0 wr i hkp hil
   have e1:=h1 wr i hkp hil
   have e2:=h2 wr i hkp hil
   have e3:=h3 wr i hkp hil
   have e4:=h4 wr i hkp hil
   rw [hv] at hy
   have A:Aside (i+k+1=len):=by show i+k+1=len; omega
   have hi0:¬ ((i:Int)<0):=by omega
   have hi1:0≤(i:Int):=by omega
   clear hi hii hlt hk
   gi_wp2
   refine hR.mono ?_
   rintro e W3 (⟨rfl,hJ3,hk3⟩ | ⟨rfl,hJx3⟩)
   ·have A':=A.out
    gi_wp2
    go_roundw
    case rel=>exact ⟨k+1,by omega,by have:=A'; simp; omega,hJ3,hk3⟩
    case measure=>simp [intOf]
   ·gi_wp2
    refine bodyPost_ret (results_none rfl _ _ _) rfl ?_
    exact ⟨⟨_,rfl⟩,.inr hJx3⟩
  ·obtain rfl:k=len:=by omega
   have hneg:((k:Int) - 1 - k) = -1:=by omega
   rw [hneg]
   gi_wp2
   go_end0
   exact ⟨⟨_,rfl⟩,.inl hJs⟩
set_option maxRecDepth 100000 in
set_option maxHeartbeats 2000000 in
theorem TI (F:Fence) (n:Nat) (h7:F.fn 194) (hro:F.round=none) (l B O cap:Nat) (a:Option Addr) (J:World→Prop) (W:World) (hB:W.cell? ⟨B,O,none⟩=some (.slice a 0 cap)) (hJ:J W):
  CallsIn F n Tryz.prog 194 #[.func (.yield l) #[] #[],.pointer (some ⟨B,O,none⟩)] W fun e W'=>(∃v,e=.returned v)∧J W':=by
 refine callsIn_of_wp Tryz.func194 rfl h7 ?_ hro;simp only [Tryz.ntmps194,List.size_toArray,List.length_cons,List.length_nil,Nat.reduceAdd,Nat.reduceSub,Array.replicate_succ,Array.replicate_zero,List.push_toArray,List.append_toArray,List.nil_append,List.cons_append];gi_wp2;gi_loopw [3] (fun i wr=>i=.int .i64 (-1)∧J wr) (fun _ _=>0);case atStart=>exact ⟨by simp,hJ⟩
 case round=>
  obtain ⟨rfl,hJs⟩:=hrel
  gi_wp2
  go_end0
  exact ⟨⟨_,rfl⟩,hJs⟩
theorem GA {n n':Nat} {P:Program} {f:FuncId} {args:Array Value} {w:World} {R:Ending→World→Prop} (h:CallsIn (FW none) n P f args w R):CallsIn (FW none) n' P f args w R:=
 ⟨h.1,fun cs _=>h.2 cs (fun _ hd=>by cases hd)⟩
theorem Kc (l:List aj) (hl:l.length≤1000000):sj Tryz.prog 194 [.ro [aJ l]] l.length (fun k=>iV ((l.length - 1 - k:Nat):Int)) (fun k=>uL (l.getD (l.length - 1 - k) ah)):=by
 refine ⟨enters_of Tryz.func194 (by kernel_rfl) rfl,fun w I lb hI hlb hp=>?_⟩;have h0:=hp 0 (by simp);have hlb1:lb=#[lb.getD 0 Go.undef]:=by
  have:lb.size=1:=hlb;apply Array.ext
  ·simp [this]
  ·intro i h1 h2;have:i=0:=by omega
   subst this;simp [h1]
 rw [hlb1];generalize lb.getD 0 Go.undef=x at h0;clear hlb1 hp hlb;cases h0 with
 | ro B O vs hIB hm hr=>
  have hs:=hr 0 (by simp);have hm0:=hm 0 (by simp);have hs:PRep w I (aJ l) (vs 0):=hs;generalize vs 0=sv at hs hm0;cases hs with
  | @sl _ _ _ _ a cap b off cs hcap _ ha hes hcm h1 hcr=>
   by_cases hz:l.length=0
   ·refine ⟨fun _=>.bool true,fun _=>.bool true,fun k hk=>absurd hk (by omega),fun y n J Jx W hW hY hJ=>?_⟩;have hBc:W.cell? ⟨B,O,none⟩=some (.slice a 0 cap):=by
     rw [gJ (w:=w) (hW B hIB),← hz];exact hm0
    rw [hz];exact (TI (FW none) n trivial rfl y B O cap a (fun W=>J 0 W) W hBc hJ).mono fun e W' ⟨h1,h2⟩=>⟨h1,.inl h2⟩
   ·obtain ⟨ha1,hIb⟩:=ha hz;subst ha1;refine ⟨fun k=>.int .i64 ((l.length - 1 - k:Nat):Int),fun k=>.agg #[cs (l.length - 1 - k) 0,cs (l.length - 1 - k) 1,cs (l.length - 1 - k) 2,cs (l.length - 1 - k) 3,cs (l.length - 1 - k) 4],fun k hk=>⟨.int _ _,?_⟩,fun y n J Jx W hW hY hJ=>?_⟩
    ·refine .agg rfl fun j hj=>?_;have hj:j<5:=hj;have:=hcr (l.length - 1 - k) j (by omega) hj;have e:nth (uL (l.getD (l.length - 1 - k) ah)).cells j=nth [iV (l.getD (l.length - 1 - k) ah).Parent,YH (l.getD (l.length - 1 - k) ah).aU,iV (l.getD (l.length - 1 - k) ah).dO,iV (l.getD (l.length - 1 - k) ah).eG,.bool (l.getD (l.length - 1 - k) ah).Always] j:=rfl;rcases (by omega:j=0∨j=1∨j=2∨j=3∨j=4) with rfl | rfl | rfl | rfl | rfl<;>exact this
    ·have key:∀W':World,(∀b,I b→W'.heap[b]? = w.heap[b]?)→∀i j,i<l.length→j<5→W'.cell? ⟨b,off+(i*5+j),none⟩=some (cs i j):=fun W' hW' i j hi hj=>by
      rw [gJ (w:=w) (hW' b hIb)];exact hcm i j hi hj
     refine GA (aaU (FW none) (n+1) trivial rfl (by omega) y B O b off l.length cap hl (fun W':World=>∀b,I b→W'.heap[b]? = w.heap[b]?) (fun i=>cs i 0) (fun i=>cs i 1) (fun i=>cs i 2) (fun i=>cs i 3) (fun i=>cs i 4) (fun i=>.agg #[cs i 0,cs i 1,cs i 2,cs i 3,cs i 4]) (fun _=>rfl)
      (fun W' hW'=>by rw [gJ (w:=w) (hW' B hIB)]; exact hm0) (fun W' i h hi=>key W' h i 0 hi (by omega)) (fun W' i h hi=>key W' h i 1 hi (by omega)) (fun W' i h hi=>key W' h i 2 hi (by omega)) (fun W' i h hi=>key W' h i 3 hi (by omega)) (fun W' i h hi=>key W' h i 4 hi (by omega))
      (fun k W1=>J k W1∧∀b,I b→W1.heap[b]? = w.heap[b]?) Jx ?_ W hW ⟨hJ,hW⟩ |>.mono ?_)
     ·rintro k W1 hk ⟨hJ1,hW1⟩;obtain ⟨fn,tmps,assign,body,hy,hR⟩:=hY k W1 hk hJ1;refine ⟨fn,tmps,assign,body,hy,hR.mono ?_⟩;rintro e W' (⟨rfl,h2,h3⟩ | ⟨rfl,h2⟩)
      ·have hW':∀b,I b→W'.heap[b]? = w.heap[b]? := fun b hb=>(h3 b hb).trans (hW1 b hb);exact .inl ⟨rfl,⟨h2,hW'⟩,hW'⟩
      ·exact .inr ⟨rfl,h2⟩
     ·rintro e W' ⟨h1,⟨h2,_⟩ | h2⟩
      ·exact ⟨h1,.inl h2⟩
      ·exact ⟨h1,.inr h2⟩
theorem Gq (l:List aj):S 188 [aJ l] [] (.fn 194 [.ro [aJ l]]) []:=by
 refine Xc (ct:=[]) fE Tryz.func188 rfl rfl (Nat.le_of_ble_eq_true rfl) (by decide +kernel) (Nat.zero_le _) ?_;conv=>whnf
 exact ⟨⟨rfl,Jy.refl _,trivial⟩,trivial⟩
end Go.Proofs.YtfblhejmclcdmaaGreatDoor









namespace Go.Proofs.YtfblhejmclcdmaaGreatDoor
open Go.ChangeShapes Go.WideShapes Go.ChangeAt Go.RowKit
open Go.Ab
set_option maxRecDepth 100000
theorem own:ownKnob Tryz.prog.godebug=none:=by kernel_rfl
theorem laidOut:laidOutB Tryz.prog=true:=by kernel_rfl
theorem adt:Tryz.prog.globalNamed "bringup/clock.off" = some 0:=by kernel_rfl
theorem adu:(Tryz.prog.globals[0]?).map (·.type)=some 175:=by kernel_rfl
theorem aaV:Tryz.prog.cellsOf 175=2:=by kernel_rfl
theorem cells3:Tryz.prog.cellsOf 3=1:=by kernel_rfl
abbrev Zl:List (String×DataW Unit):=[("bringup/clock.off", Rows.laid_bringup_clock_off)]
theorem aaW {W:World} (h:laidMetH Tryz.prog Zl W):W.cell? ⟨0,0,none⟩=some (.int .i64 0)∧W.cell? ⟨0,1,none⟩=some (.int .i64 1):=by
 rw [MakeChecks.laidMetH_plain _ _ _ (by kernel_rfl)] at h;obtain ⟨ps,⟨g0,t0,cs0,f0,p0,q0,hg0,ht0,hv0,hd0,_⟩,_,_⟩:=h;obtain rfl:=Option.some.inj (adt.symm.trans hg0);obtain rfl:=Option.some.inj (adu.symm.trans ht0);obtain ⟨y0,y1,n,hx,hl,h0,h1⟩:=trod_struct2 Tryz.underlying175 hd0;rw [aaV] at hl;simp only [Prod.mk.injEq,Rows.laid_bringup_clock_off,DataW.agg.injEq,List.cons.injEq] at hx;obtain ⟨k0,e1,e2,_⟩:=DataW.trod_int Tryz.underlying3 h0;obtain ⟨k1,e3,e4,_⟩:=DataW.trod_int Tryz.underlying3 h1;have hk0:k0=0:=by have:=hx.1.1; rw [e2] at this; simpa using this.symm
 have hk1:k1=1:=by have:=hx.1.2.1; rw [e4] at this; simpa using this.symm
 subst hk0; subst hk1;have c0:=World.var?_cell hg0 hv0 0;have c1:=World.var?_cell hg0 hv0 1;obtain ⟨l⟩:=cs0;match l,hl with
 | [a,b],_=>
  rw [cells3] at e1 e3
  simp at e1 e3
  subst e1; subst e3
  exact ⟨by simpa using c0,by simpa using c1⟩
def Old (W:World):Nat→Prop:=fun b=>b<W.heap.size
theorem adv {W:World} (h:laidMetH Tryz.prog Zl W):Rel cfg (Cq W (Old W) (fun _=>none) 0) (hof []) (fun o=>o<0) W (Old W) (fun _=>none):=by
 obtain ⟨h0,h1⟩:=aaW h;exact {
  dom:=fun o=>by simp [hof]
  used:=fun o p h=>by cases h
  objs:=fun o ob p _ h=>by cases h
  inj:=fun o o' p p' b bo sz b' bo' sz' h=>by cases h
  kD:=fun o p b bo sz h=>by cases h
  lt:=fun o p b bo sz h=>by cases h
  qh:=fun b h=>h
  size:=Nat.le_refl _
  frame:=fun _ _ _=>rfl
  new:=fun o p b bo sz h=>by cases h
  glob:=fun g cs hg=>by
   have e:g=0∧cs=[.int .i64 0,.int .i64 1]:=by
    unfold cfg at hg
    simp only [Ab.look] at hg
    cases hb:Nat.beq 0 g with
    | true=>
     rw [hb] at hg
     have:=Nat.eq_of_beq_eq_true hb
     simp at hg
     exact ⟨this.symm,hg.symm⟩
    | false=>rw [hb] at hg; cases hg
   obtain ⟨rfl,rfl⟩:=e
   refine .ro 0 0 (fun j=>match j with | 0=>.int .i64 0 | _=>.int .i64 1) (World.block_lt_of_cell? _ _ h0) (fun j hj=>?_) (fun j hj=>?_)
   ·match j,hj with
    | 0,_=>exact h0
    | 1,_=>exact h1
   ·match j,hj with
    | 0,_=>exact .int _ _
    | 1,_=>exact .int _ _
  FQ:=fun _ h=>h
  JC:=fun _ h=>.inl h
  LX:=fun _ _=>.inl rfl
  Dm:=fun _ h=>h
  env:=⟨dN.refl _,fun _ _ h=>h.elim⟩
  maps:=fun o kd z f p b bo sz h=>by cases h }
theorem aaX {f:FuncId} {args:List AV} {W:World} {vals:Array Value} (hs:S f args [] (.bool true) []) (hL:laidMetH Tryz.prog Zl W) (hl:vals.size=args.length) (hr:∀j,j<args.length→PRep W (Old W) (nth args j) (vals.getD j Go.undef)):
  Calls Tryz.prog f vals W fun e W'=>e=.returned (.bool true)∧Below W.heap.size W W':=by
 obtain ⟨_,_,hc⟩:=hs;refine (hc W (Old W) (fun _=>none) vals (adv hL) hl (fun j hj=>.pure (hr j hj))).mono fun e W' h=>?_;obtain ⟨x,I',O',rfl,hR,hx⟩:=h;have hb:x=.bool true:=hx.iW;subst hb;refine ⟨rfl,⟨hR.env.same.os,hR.env.same.tape,hR.env.same.output,hR.size,fun k hk=>hR.frame k hk ?_⟩⟩;rintro ⟨o,p,bo,sz,h,_⟩;cases h
theorem Vg {H:Type} {enc:TypeId×Value→H} {W:World} {v:Value} {d:DataW H} {ps:List MemPlace} {base:Nat} (hv:Value.okWide Tryz.prog W .any base 22 v) (h:DataW.Trod enc Tryz.prog W 0 (fun _=>true) true 22 v d ps):∃l:List Int,I64 l∧PRep W (Old W) (aC l) v:=by
 obtain ⟨a0,len,cap,rfl⟩:=okWide_slice Tryz.underlying22 hv;obtain ⟨fuel,hf⟩:=h;rcases open_ints Tryz.underlying22 Tryz.underlying3 cells3 hf with ⟨hcs,hx⟩ | ⟨a,len',cap',zs,hcs,_,hl,hm,hz,hx,hcell,hwz⟩
 ·simp [Value.cells] at hcs;obtain ⟨rfl,rfl,rfl⟩:=hcs;refine ⟨[],(fun x hx=>by cases hx),?_⟩;exact .sl 0 0 (fun _ _=>Go.undef) (Nat.le_refl _) nofun (fun h=>absurd rfl h) (fun i hi=>by cases hi) (fun i j hi=>by cases hi) (fun i j hi=>by cases hi) (fun i j hi=>by cases hi)
 ·simp [Value.cells] at hcs;obtain ⟨rfl,rfl,rfl⟩:=hcs;simp only [if_true] at hz;refine ⟨zs.take len,fun x hx=>?_,?_⟩
  ·have:=hwz x (List.mem_of_mem_take hx);simp only [Lit.wf,Bool.and_eq_true,decide_eq_true_eq] at this;exact this
  ·have hlen:(zs.take len).length=len:=by simp; omega
   unfold aC YH;rw [hlen];refine .sl a.block a.off (fun i _=>.int .i64 (zs.getD i 0)) hl nofun (fun hn=>?_) (fun i hi=>rfl) (fun i j hi hj=>?_) (fun i j hi hj=>rfl) (fun i j hi hj=>?_)
   ·have h0:=hcell 0 (by omega);have hsp:=World.cell?_spot h0;have e:a.add 0=a:=by simp [Addr.add]
    rw [e] at hsp h0;refine ⟨by cases a; simp at hsp; subst hsp; rfl,World.block_lt_of_cell? _ _ h0⟩
   ·have hj0:j=0:=by omega
    subst hj0;have h0:=hcell 0 (by omega);have hsp:=World.cell?_spot h0;have e:a.add 0=a:=by simp [Addr.add]
    rw [e] at hsp;have hi':=hcell i (by omega);have e2:a.add i=⟨a.block,a.off+(i*1+0),none⟩:=by
     obtain ⟨b,off,sp⟩:=a;simp at hsp;subst hsp;rw [Addr.add_mid];simp
    rw [e2] at hi';exact hi'
   ·have hj0:j=0:=by omega
    subst hj0;have e:nth (aX iV 0 (zs.take len) i).cells 0=iV (zs.getD i 0):=by
     show iV ((zs.take len).getD i 0)=_;rw [getD_take zs 0 hi]
    rw [e];exact .int _ _
end Go.Proofs.YtfblhejmclcdmaaGreatDoor


namespace Go.Proofs.YtfblhejmclcdmaaGreatDoor
open Go.Ab
theorem z {p:Prop} (h:p:=by
 repeat' first
  | with_reducible exact trivial
  | with_reducible exact rfl
  | with_reducible refine And.intro ?_ ?_
  | ((conv=>whnf); first
   | with_reducible refine And.intro ?_ ?_
   | with_reducible refine WH.mk ?_ ?_ ?_
   | with_reducible exact trivial)
  | exact rfl
  | exact fun _ _=>Le.refl _
  | exact fun _=>rfl
  | exact id
  | exact fun h=>Bool.noConfusion h
  | exact Le.refl _
  | exact Jy.refl _
  | exact fun h=>absurd rfl h
  | exact fun _ h=>absurd h (Nat.not_lt_zero _)
  | exact YJ (.refl _) rfl (Nat.lt_of_sub_pos (by exact Nat.zero_lt_succ _))
  | omega
  | (simp [gV]; done)
  | (simp [gV]; omega)
  | refine uK ?_ ?_ ?_
  | refine le_appG ?_ ?_ ?_ ?_
  | exact aar (fun _ _=>Le.refl _) (Le.refl _)
  | exact PZ (fun _=>rfl)
  | exact le_rtake (by omega)
  | exact le_litG _ _ _
  | exact Sv _ _
  | refine zn ?_ ?_
  | refine Le.UN ?_
  | refine Le.sl ?_ ?_ ?_ ?_):p:=h
theorem dk {p:Prop} (h:p:=by decide +kernel):p:=h
theorem oz {p:Prop} (h:p:=by first | omega | (simp [gV]; done) | (simp [gV]; omega)):p:=h
theorem sr {n es:Nat} {f:Bool} {g:Nat→AV}:n=n∧(n≠0→es=es)∧(f=true→f=true)∧∀i,i<n→Le (g i) (g i):=⟨rfl,fun _=>rfl,id,fun _ _=>.refl _⟩
theorem sf {n es:Nat} {f:Bool} {g:Nat→AV}:n=n∧(n≠0→es=es)∧(false=true→f=true)∧∀i,i<n→Le (g i) (g i):=⟨rfl,fun _=>rfl,nofun,fun _ _=>.refl _⟩
theorem r4 {A B C D:Type} {a:A} {b:B} {c:C} {d:D}:a=a∧b=b∧c=c∧d=d:=⟨rfl,rfl,rfl,rfl⟩
theorem r2 {A B:Type} {a:A} {b:B}:a=a∧b=b:=⟨rfl,rfl⟩
theorem sn {R:Type} {p:Prop} {m:M R} {r:R} {K:Prop} (hm:need p m r) (h:p→m r→K):p∧K:=⟨hm.1,h hm.1 hm.2⟩
theorem si {R:Type} {c:Bool} {x y:M R} {r:R} {A B:Prop} (hm:(cond c x y) r) (h1:c=true→x r→A) (h2:c=false→y r→B):Pv c A B:=dG hm h1 h2
theorem sb {A R:Type} {m:M A} {k:A→M R} {r:R} {G:Prop} (hm:bnd m k r) (h:∀v,m v→k v r→G):G:=dH hm h
theorem cl {A B:Type} {p K:A→B→Prop} {a:A} {b:B} (h:p a b) (k:K a b):∃a b,p a b∧K a b:=⟨a,b,h,k⟩
theorem re {A B:Type} {P:List A→List B→Prop} (h:P [] []:=by exact z):∃a b,P a b:=⟨_,_,h⟩
theorem rt {A B:Type} {P:A→B→Prop} (a:A) (b:B) (h:P a b:=by exact z):∃a b,P a b:=⟨_,_,h⟩
theorem lc {A B C:Type} {p:A→Prop} {E:A→B→C→Prop} {a:A} (b:B) (c:C) (hm:p a) (h:E a b c:=by exact z):∃a b c,p a∧E a b c:=⟨a,b,c,hm,h⟩
theorem lce {A B C:Type} {p:A→Prop} {E:A→B→C→Prop} {a:A} (b:B) (c:C) (hm:p a) (h:E a b c):∃a b c,p a∧E a b c:=⟨a,b,c,hm,h⟩
theorem le {A B C:Type} {p:A→Prop} {E:A→List B→List C→Prop} {a:A} (hm:p a) (h:E a [] []:=by exact z):∃a b c,p a∧E a b c:=⟨a,_,_,hm,h⟩
theorem TJ (ct:List Nat) {fn:Func} {f:FuncId} {c:Code} {args:List AV} {obs:List aW} {r:AV} {obs':List aW} (hf:Tryz.prog.funcs[f]? = some fn) (hb:fn.body=some c)
  (h:jw cfg (Ab.Spec Tryz.prog cfg) ct (Loops Tryz.prog cfg fn.ntmps none obs.length) c ⟨yX args 0,yU.obsUps obs 0,obs.length⟩ (UU cfg fn.results.toList obs.length r obs'))
  (hnm:(fn.name == "runtime.NumGoroutine")=false:=by exact rfl)
  (hN:args.length≤fn.ntmps:=by exact Nat.le_of_ble_eq_true rfl) (hok:dY fn.ntmps c=true:=by decide +kernel) (hle:obs.length≤obs'.length:=by exact Nat.le_of_ble_eq_true rfl):S f args obs r obs':=
 kG fE hf hb hnm hN hok hle h
theorem sp {fn:Func} {f:FuncId} {c:Code} {args:List AV} {obs:List aW} {r:AV} {obs':List aW} (hf:Tryz.prog.funcs[f]? = some fn) (hb:fn.body=some c)
  (h:jw cfg (Ab.Spec Tryz.prog cfg) [] (Loops Tryz.prog cfg fn.ntmps none obs.length) c ⟨yX args 0,yU.obsUps obs 0,obs.length⟩ (UU cfg fn.results.toList obs.length r obs'))
  (hnm:(fn.name == "runtime.NumGoroutine")=false:=by exact rfl)
  (hN:args.length≤fn.ntmps:=by exact Nat.le_of_ble_eq_true rfl) (hok:dY fn.ntmps c=true:=by decide +kernel) (hle:obs.length≤obs'.length:=by exact Nat.le_of_ble_eq_true rfl):S f args obs r obs':=
 kG fE hf hb hnm hN hok hle h
section
variable {N:Nat} {rr:Option Nat} {m:Nat}
variable {c:Code} {s:St} {K:Exit→St→Prop} {σ R:Type} {F:(σ→M R)→σ→M R} {x0:σ} {r:R}
theorem Lx (ct:List Nat) (hm:bR F x0 r) (st:σ→St) (ρ0:List (Nat×Option Nat)) (os0:List Nat)
  (round:∀(self:σ→M R) (x:σ),F self x r→jw cfg (Ab.Spec Tryz.prog cfg) ct (Loops Tryz.prog cfg N rr m) c (st x) (fun e s'=>match e with | .normal=>∃x' ρ os,self x' r∧JM m ρ os s' (st x') | e=>K e s'))
  (hE:JM m ρ0 os0 s (st x0):=by exact z) (hok:dY N c=true:=by decide +kernel):Loops Tryz.prog cfg N rr m (.loop c) s K:=zm fE hok hm st ρ0 os0 hE round
theorem lf (hm:bR F x0 r) (st:σ→St) (ρ0:List (Nat×Option Nat)) (os0:List Nat)
  (round:∀(self:σ→M R) (x:σ),F self x r→jw cfg (Ab.Spec Tryz.prog cfg) [] (Loops Tryz.prog cfg N rr m) c (st x) (fun e s'=>match e with | .normal=>∃x' ρ os,self x' r∧JM m ρ os s' (st x') | e=>K e s'))
  (hE:JM m ρ0 os0 s (st x0):=by exact z) (hok:dY N c=true:=by decide +kernel):Loops Tryz.prog cfg N rr m (.loop c) s K:=zm fE hok hm st ρ0 os0 hE round
theorem l0 (hm:bR F x0 r) (st:σ→St)
  (round:∀(self:σ→M R) (x:σ),F self x r→jw cfg (Ab.Spec Tryz.prog cfg) [] (Loops Tryz.prog cfg N rr m) c (st x) (fun e s'=>match e with | .normal=>∃x' ρ os,self x' r∧JM m ρ os s' (st x') | e=>K e s'))
  (hE:JM m [] [] s (st x0):=by exact z) (hok:dY N c=true:=by decide +kernel):Loops Tryz.prog cfg N rr m (.loop c) s K:=zm fE hok hm st [] [] hE round
theorem ck (ct:List Nat) {x y:Code} {s:St} {K:Exit→St→Prop} (k:σ→M R) (r:R) (st:σ→St)
  (h1:jw cfg (Ab.Spec Tryz.prog cfg) ct (Loops Tryz.prog cfg N rr m) x s (fun e s'=>match e with | .normal=>∃x' ρ os,k x' r∧JM m ρ os s' (st x') | e=>K e s'))
  (h2:∀x',k x' r→jw cfg (Ab.Spec Tryz.prog cfg) ct (Loops Tryz.prog cfg N rr m) y (st x') K) (hokx:dY N x=true:=by decide +kernel) (hoky:dY N y=true:=by decide +kernel):Loops Tryz.prog cfg N rr m (.seq x y) s K:=Nb fE hokx hoky k r st h1 h2
end
end Go.Proofs.YtfblhejmclcdmaaGreatDoor


namespace Go.Proofs.YtfblhejmclcdmaaGreatDoor
open Go.Ab
set_option maxRecDepth 100000
set_option maxHeartbeats 40000000
theorem He {c_:av} {r:Bool} (hm:yH c_ r):S 102 [Di c_] [] (.bool r) [] :=sp Tryz.func102 rfl<|by cases hm;exact re
theorem rz {s_:(List av)} {r:Int} (hm:mR s_ r):S 140 [aN s_,.fn 102 []] [] (iV r) [] :=sp Tryz.func140 rfl<|l0 hm (fun g1=>⟨[(0,aN s_),(1,.fn 102 []),(7,iV (s_.length:Int)),(8,iV g1)],[],0⟩) <|fun self1 g1 hm=>si hm (fun _ hm=>sn hm fun _ hm=>sb hm fun v3 hv3 hm=>cl (He hv3)<|si hm (fun _ hm=>by cases hm;exact re) fun _ hm=>sn hm fun _ hm=>le hm) fun _ hm=>by cases hm;exact re
theorem oV {s_:(List av)} {r:Bool} (hm:iN s_ r):S 101 [aN s_,.fn 102 []] [] (.bool r) [] :=sp Tryz.func101 rfl<|sb hm fun v1 hv1 hm=>cl (rz hv1)<|by cases hm;exact re
theorem eP {n_:Int} {lo_:Int} {hi_:Int} {r:Bool} (hm:gM n_ lo_ hi_ r):S 142 [iV n_,iV lo_,iV hi_] [] (.bool r) [] :=sp Tryz.func142 rfl<|by cases hm;exact re
theorem Hf {p_:Int} {a1_:Int} {r:Bool} (hm:rJ p_ a1_ r):S 141 [iV p_,.ro [iV a1_]] [] (.bool r) [] :=sp Tryz.func141 rfl<|sn hm fun _ hm=>sb hm fun v1 hv1 hm=>cl (eP hv1)<|by cases hm;exact re
theorem wU {s_:(List Int)} {f_:Int} {r:Int} (hm:sw s_ f_ r):S 174 [aC s_,.fn 141 [.ro [iV f_]]] [] (iV r) [] :=sp Tryz.func174 rfl<|l0 hm (fun g1=>⟨[(0,aC s_),(1,.fn 141 [.ro [iV f_]]),(7,iV (s_.length:Int)),(8,iV g1)],[],0⟩) <|fun self1 g1 hm=>si hm (fun _ hm=>sn hm fun _ hm=>sb hm fun v3 hv3 hm=>cl (Hf hv3)<|si hm (fun _ hm=>by cases hm;exact re) fun _ hm=>sn hm fun _ hm=>le hm) fun _ hm=>by cases hm;exact re
theorem uf {s_:(List Int)} {f_:Int} {r:Bool} (hm:jY s_ f_ r):S 135 [aC s_,.fn 141 [.ro [iV f_]]] [] (.bool r) [] :=sp Tryz.func135 rfl<|sb hm fun v1 hv1 hm=>cl (wU hv1)<|by cases hm;exact re
theorem Cw {s_:(List Int)} {v_:Int} {r:Int} (hm:slices_Index_int s_ v_ r):S 139 [aC s_,iV v_] [] (iV r) [] :=sp Tryz.func139 rfl<|l0 hm (fun g1=>⟨[(0,aC s_),(1,iV v_),(7,iV (s_.length:Int)),(8,iV g1)],[],0⟩) <|fun self1 g1 hm=>si hm (fun _ hm=>sn hm fun _ hm=>si hm (fun _ hm=>by cases hm;exact re) fun _ hm=>sn hm fun _ hm=>le hm) fun _ hm=>by cases hm;exact re
theorem nL {s_:(List Int)} {v_:Int} {r:Bool} (hm:slices_Contains_int s_ v_ r):S 91 [aC s_,iV v_] [] (.bool r) [] :=sp Tryz.func91 rfl<|sb hm fun v1 hv1 hm=>cl (Cw hv1)<|by cases hm;exact re
theorem jH {l_:(List Int)} {lo_:Int} {hi_:Int} {r:Bool} (hm:jD l_ lo_ hi_ r):S 143 [aC l_,iV lo_,iV hi_] [] (.bool r) [] :=sp Tryz.func143 rfl<|l0 hm (fun g1=>⟨[(0,aC l_),(1,iV lo_),(2,iV hi_),(9,aC l_),(10,iV (l_.length:Int)),(11,iV g1)],[],0⟩) <|fun self1 g1 hm=>si hm (fun _ hm=>sn hm fun _ hm=>sb hm fun v5 hv5 hm=>cl (eP hv5)<|sn hm fun _ hm=>sb hm fun v6 hv6 hm=>cl (fun q0=>((nL (hv6 q0)).le ⟨(.sl oz (fun _=>rfl) nofun (le_rtake (f:=iV) (d:=0) (by first | omega | (simp; omega)))),.refl _,trivial⟩ trivial))<|si hm (fun _ hm=>by cases hm;exact re) fun _ hm=>sn hm fun _ hm=>le hm) fun _ hm=>by cases hm;exact re
theorem qK {s1_:(List Int)} {s2_:(List Int)} {r:Bool} (hm:slices_Equal_int s1_ s2_ r):S 144 [aC s1_,aC s2_] [] (.bool r) [] :=sp Tryz.func144 rfl<|si hm (fun _ hm=>by cases hm;exact re) fun _ hm=>l0 hm (fun g1=>⟨[(0,aC s1_),(1,aC s2_),(12,iV (s1_.length:Int)),(13,iV g1)],[],0⟩) <|fun self1 g1 hm=>si hm (fun _ hm=>sn hm fun _ hm=>sn hm fun _ hm=>si hm (fun _ hm=>by cases hm;exact re) fun _ hm=>sn hm fun _ hm=>le hm) fun _ hm=>by cases hm;exact re
theorem Ke {c_:av} {at_:Int} {r:Bool} (hm:Dl c_ at_ r):S 103 [Di c_,iV at_] [] (.bool r) [] :=sp Tryz.func103 rfl<|sb hm fun v1 hv1 hm=>cl (uf hv1)<|sb hm fun v2 hv2 hm=>cl (fun q0=>(eP (hv2 q0)))<|sb hm fun v3 hv3 hm=>cl (fun q0=>(eP (hv3 q0)))<|si hm (fun _ hm=>by cases hm;exact re) fun _ hm=>si hm (fun _ hm=>sn hm fun _ hm=>sb hm fun v4 hv4 hm=>cl (fun q0=>(eP (hv4 q0)))<|by cases hm;exact re) fun _ hm=>si hm (fun _ hm=>si hm (fun _ hm=>sb hm fun v5 hv5 hm=>cl (fun q0=>(jH (hv5 q0)))<|by cases hm;exact re) fun _ hm=>si hm (fun _ hm=>sn hm fun _ hm=>sb hm fun v6 hv6 hm=>cl (fun q0=>(jH (hv6 q0)))<|by cases hm;exact re) fun _ hm=>si hm (fun _ hm=>si hm (fun _ hm=>sb hm fun v7 hv7 hm=>cl (fun q0=>((qK (hv7 q0)).le ⟨.refl _,(.sl rfl (fun _=>rfl) nofun (le_litG iV 0 [(0:Int),(1:Int)])),trivial⟩ trivial))<|by cases hm;exact re) fun c7 hm=>by
 refine ⟨.bool false,[],(fun q0=>absurd q0 (YK c7)),?_⟩
 (conv=>whnf)
 have hm:r=(((c_.Parents.length:Int)==(1:Int))&&false):=hm
 subst hm
 refine ⟨[],[],?_⟩
 (conv=>whnf)
 exact ⟨⟨rfl,trivial,trivial⟩,rfl⟩) fun _ hm=>by cases hm;exact re) fun _ hm=>si hm (fun _ hm=>sb hm fun v8 hv8 hm=>cl (fun q0=>(jH (hv8 q0)))<|by cases hm;exact re) fun _ hm=>si hm (fun _ hm=>sn hm fun _ hm=>sb hm fun v9 hv9 hm=>cl (fun q0=>(jH (hv9 q0)))<|by cases hm;exact re) fun _ hm=>si hm (fun _ hm=>si hm (fun _ hm=>sb hm fun v10 hv10 hm=>cl (fun q0=>((qK (hv10 q0)).le ⟨.refl _,(.sl rfl (fun _=>rfl) nofun (le_litG iV 0 [(0:Int),(1:Int)])),trivial⟩ trivial))<|by cases hm;exact re) fun c11 hm=>by
 refine ⟨.bool false,[],(fun q0=>absurd q0 (YK c11)),?_⟩
 (conv=>whnf)
 have hm:r=(((c_.Parents.length:Int)==(1:Int))&&false):=hm
 subst hm
 refine ⟨[],[],?_⟩
 (conv=>whnf)
 exact ⟨⟨rfl,trivial,trivial⟩,rfl⟩) fun _ hm=>by cases hm;exact re
theorem rA {l_:(List av)} {r:Int} (hm:sD l_ r):S 45 [aN l_] [] (iV r) [] :=TJ [21] Tryz.func45 rfl<|sb hm fun v1 hv1 hm=>cl (fun q0=>(oV (hv1 q0)))<|si hm (fun _ hm=>by cases hm;exact re) fun _ hm=>Lx [21] hm (fun g1=>⟨[(0,aN l_),(18,aN l_),(19,iV (l_.length:Int)),(20,iV g1)],[],0⟩) [] [] <|fun self1 g1 hm=>si hm (fun _ hm=>sn hm fun _ hm=>sb hm fun v4 hv4 hm=>cl (Ke hv4)<|si hm (fun _ hm=>by cases hm;exact re) fun _ hm=>sn hm fun _ hm=>le hm) fun _ hm=>sn hm fun _ hm=>Lx [21] hm (fun g2=>⟨[(5,iV g2.1),(6,.bP 0 0 g2.2.2.length false),(33,aN l_),(34,iV (l_.length:Int)),(35,iV g2.2.1)],[(0,some (.row 1 g2.2.2.length (aX iV 0 g2.2.2)))],1⟩) [(0,some 32)] [] <|fun self2 g2 hm=>si hm (fun _ hm=>sn hm fun _ hm=>Lx [21] hm (fun g7=>⟨[(5,iV g2.1),(6,.bP 0 0 g7.2.length false),(7,iV g2.2.1),(8,.ptr 1 0 0),(33,aN l_),(34,iV (l_.length:Int)),(35,iV g2.2.1),(41,aC ((l_.getD g2.2.1.toNat au).Parents)),(42,iV ((((l_.getD g2.2.1.toNat au).Parents).length:Nat):Int)),(43,iV g7.1)],[(0,some (.row 1 g7.2.length (aX iV 0 g7.2))),(1,some (.box [iV ((l_.getD g2.2.1.toNat au).Kind),aC ((l_.getD g2.2.1.toNat au).Parents),aC ((l_.getD g2.2.1.toNat au).Choices),iV ((l_.getD g2.2.1.toNat au).Low),iV ((l_.getD g2.2.1.toNat au).High)]))],2⟩) [(1,some 33)] [] <|fun self7 g7 hm=>si hm (fun _ hm=>sn hm fun _ hm=>sn hm fun _ hm=>sn hm fun _ hm=>sn hm fun _ hm=>sn hm fun _ hm=>le hm) fun _ hm=>ck [21] (nP l_ g2 self2) r (fun g8=>⟨[(5,iV g2.1),(6,.bP 0 0 g8.length false),(7,iV g2.2.1),(8,.ptr 1 0 0),(33,aN l_),(34,iV (l_.length:Int)),(35,iV g2.2.1)],[(0,some (.row 1 g8.length (aX iV 0 g8))),(1,some (.box [iV ((l_.getD g2.2.1.toNat au).Kind),aC ((l_.getD g2.2.1.toNat au).Parents),aC ((l_.getD g2.2.1.toNat au).Choices),iV ((l_.getD g2.2.1.toNat au).Low),iV ((l_.getD g2.2.1.toNat au).High)]))],2⟩) (si hm (fun _ hm=>sn hm fun _ hm=>sn hm fun _ hm=>sn hm fun _ hm=>le hm) fun _ hm=>le hm) fun g8 hm=>sn hm fun _ hm=>sn hm fun _ hm=>si hm (fun _ hm=>by cases hm;exact re) fun _ hm=>sn hm fun _ hm=>le hm) fun _ hm=>by cases hm;exact re
theorem FD {s_:aj} {r:Bool} (hm:lV s_ r):S 105 [uL s_] [] (.bool r) [] :=sp Tryz.func105 rfl<|by cases hm;exact re
theorem rC {s_:(List aj)} {r:Int} (hm:mU s_ r):S 145 [aJ s_,.fn 105 []] [] (iV r) [] :=sp Tryz.func145 rfl<|l0 hm (fun g1=>⟨[(0,aJ s_),(1,.fn 105 []),(7,iV (s_.length:Int)),(8,iV g1)],[],0⟩) <|fun self1 g1 hm=>si hm (fun _ hm=>sn hm fun _ hm=>sb hm fun v3 hv3 hm=>cl (FD hv3)<|si hm (fun _ hm=>by cases hm;exact re) fun _ hm=>sn hm fun _ hm=>le hm) fun _ hm=>by cases hm;exact re
theorem oW {s_:(List aj)} {r:Bool} (hm:iO s_ r):S 104 [aJ s_,.fn 105 []] [] (.bool r) [] :=sp Tryz.func104 rfl<|sb hm fun v1 hv1 hm=>cl (rC hv1)<|by cases hm;exact re
theorem dM {n_:Int} {lo_:Int} {hi_:Int} {r:Bool} (hm:eD n_ lo_ hi_ r):S 146 [iV n_,iV lo_,iV hi_] [] (.bool r) [] :=sp Tryz.func146 rfl<|by cases hm;exact re
theorem I9 {s_:aj} {at_:Int} {r:Bool} (hm:uM s_ at_ r):S 106 [uL s_,iV at_] [] (.bool r) [] :=sp Tryz.func106 rfl<|sn hm fun _ hm=>sb hm fun v1 hv1 hm=>cl (dM hv1)<|sb hm fun v2 hv2 hm=>cl (fun q0=>(dM (hv2 q0)))<|sb hm fun v3 hv3 hm=>cl (fun q0=>(dM (hv3 q0)))<|si hm (fun _ hm=>by cases hm;exact re) fun _ hm=>l0 hm (fun g1=>⟨[(2,.ptr 0 0 0),(42,aC s_.aU),(43,iV (s_.aU.length:Int)),(44,iV g1)],[(0,some (.box [iV s_.Parent,aC s_.aU,iV s_.dO,iV s_.eG,.bool s_.Always]))],1⟩) <|fun self1 g1 hm=>si hm (fun _ hm=>sn hm fun _ hm=>sb hm fun v6 hv6 hm=>cl (dM hv6)<|sn hm fun _ hm=>sn hm fun _ hm=>si hm (fun _ hm=>by cases hm;exact re) fun _ hm=>sn hm fun _ hm=>le hm) fun _ hm=>by cases hm;exact re
theorem qb {l_:(List aj)} {r:Int} (hm:mF l_ r):S 46 [aJ l_] [] (iV r) [] :=sp Tryz.func46 rfl<|sb hm fun v1 hv1 hm=>cl (fun q0=>(oW (hv1 q0)))<|si hm (fun _ hm=>by cases hm;exact re) fun _ hm=>l0 hm (fun g1=>⟨[(12,aJ l_),(13,iV (l_.length:Int)),(14,iV g1)],[],0⟩) <|fun self1 g1 hm=>si hm (fun _ hm=>sn hm fun _ hm=>sb hm fun v4 hv4 hm=>cl (I9 hv4)<|si hm (fun _ hm=>by cases hm;exact re) fun _ hm=>sn hm fun _ hm=>le hm) fun _ hm=>by cases hm;exact re
theorem wJ {s_:ByteArray} {r:Bool} (hm:vL s_ r):S 107 [.str s_] [] (.bool r) [] :=sp Tryz.func107 rfl<|sn hm fun _ hm=>sn hm fun _ hm=>si hm (fun _ hm=>by cases hm;exact re) fun _ hm=>l0 hm (fun g1=>⟨[(0,.str s_),(3,iV g1)],[],0⟩) <|fun self1 g1 hm=>si hm (fun _ hm=>sn hm fun _ hm=>si hm (fun _ hm=>by cases hm;exact re) fun _ hm=>sn hm fun _ hm=>le hm) fun _ hm=>by cases hm;exact re
theorem yQ {s_:(List ByteArray)} {v_:ByteArray} {r:Int} (hm:slices_Index_string s_ v_ r):S 176 [fP s_,.str v_] [] (iV r) [] :=sp Tryz.func176 rfl<|l0 hm (fun g1=>⟨[(0,fP s_),(1,.str v_),(7,iV (s_.length:Int)),(8,iV g1)],[],0⟩) <|fun self1 g1 hm=>si hm (fun _ hm=>sn hm fun _ hm=>si hm (fun _ hm=>by cases hm;exact re) fun _ hm=>sn hm fun _ hm=>le hm) fun _ hm=>by cases hm;exact re
theorem vF {s_:(List ByteArray)} {v_:ByteArray} {r:Bool} (hm:slices_Contains_string s_ v_ r):S 147 [fP s_,.str v_] [] (.bool r) [] :=sp Tryz.func147 rfl<|sb hm fun v1 hv1 hm=>cl (yQ hv1)<|by cases hm;exact re
theorem LA {pins_:Int} {g_:aY} {r:Int} (hm:Ao pins_ g_ r):S 108 [iV pins_,jX g_] [] (iV r) [] :=sp Tryz.func108 rfl<|si hm (fun _ hm=>by cases hm;exact re) fun _ hm=>si hm (fun _ hm=>by cases hm;exact re) fun _ hm=>l0 hm (fun g1=>⟨[(0,iV pins_),(3,.ptr 0 0 0),(27,aC g_.bT),(28,iV (g_.bT.length:Int)),(29,iV g1)],[(0,some (.box [.str g_.Name,aC g_.bT,fP g_.Functions]))],1⟩) <|fun self1 g1 hm=>si hm (fun _ hm=>sn hm fun _ hm=>si hm (fun _ hm=>by cases hm;exact re) fun _ hm=>sn hm fun _ hm=>le hm) fun _ hm=>l0 hm (fun g2=>⟨[(3,.ptr 0 0 0),(7,iV g2)],[(0,some (.box [.str g_.Name,aC g_.bT,fP g_.Functions]))],1⟩) <|fun self2 g2 hm=>si hm (fun _ hm=>sn hm fun _ hm=>sn hm fun _ hm=>sn hm fun _ hm=>si hm (fun _ hm=>by cases hm;exact re) fun _ hm=>sn hm fun _ hm=>le hm) fun _ hm=>l0 hm (fun g3=>⟨[(3,.ptr 0 0 0),(61,fP g_.Functions),(62,iV (g_.Functions.length:Int)),(63,iV g3)],[(0,some (.box [.str g_.Name,aC g_.bT,fP g_.Functions]))],1⟩) <|fun self3 g3 hm=>si hm (fun _ hm=>sn hm fun _ hm=>sb hm fun v3 hv3 hm=>cl (wJ hv3)<|si hm (fun _ hm=>by cases hm;exact re) fun _ hm=>sn hm fun _ hm=>le hm) fun _ hm=>l0 hm (fun g4=>⟨[(3,.ptr 0 0 0),(72,fP g_.Functions),(73,iV (g_.Functions.length:Int)),(74,iV g4)],[(0,some (.box [.str g_.Name,aC g_.bT,fP g_.Functions]))],1⟩) <|fun self4 g4 hm=>si hm (fun _ hm=>sn hm fun _ hm=>sn hm fun _ hm=>sb hm fun v6 hv6 hm=>cl ((vF hv6).le ⟨(.sl oz (fun _=>rfl) nofun (le_rtake (f:=AV.str) (d:=ByteArray.empty) (by first | omega | (simp; omega)))),.refl _,trivial⟩ trivial)<|si hm (fun _ hm=>by cases hm;exact re) fun _ hm=>sn hm fun _ hm=>le hm) fun _ hm=>by cases hm;exact re
theorem Ci {p_:bB} {r:Int} (hm:vY p_ r):S 47 [lu p_] [] (iV r) [] :=sp Tryz.func47 rfl<|si hm (fun _ hm=>by cases hm;exact re) fun _ hm=>si hm (fun _ hm=>by cases hm;exact re) fun _ hm=>lf hm (fun g1=>⟨[(1,.ptr 0 0 0),(3,.mref 1),(21,aT p_.Groups),(22,iV (p_.Groups.length:Int)),(23,iV g1.1)],[(0,some (.box [iV p_.bT,aT p_.Groups])),(1,some (.map .str [.bool] g1.2))],2⟩) [(1,some 112)] [] <|fun self1 g1 hm=>si hm (fun _ hm=>sn hm fun _ hm=>sb hm fun v5 hv5 hm=>cl (wJ hv5)<|si hm (fun _ hm=>by cases hm;exact re) fun _ hm=>si hm (fun _ hm=>by cases hm;exact re) fun _ hm=>sb hm fun v6 hv6 hm=>cl (LA hv6)<|si hm (fun _ hm=>by cases hm;exact re) fun _ hm=>sn hm fun _ hm=>le hm) fun _ hm=>by cases hm;exact re
theorem zR {l_:(List cu)} {r:Int} (hm:sF l_ r):S 48 [bO l_] [] (iV r) [] :=sp Tryz.func48 rfl<|si hm (fun _ hm=>by cases hm;exact re) fun _ hm=>l0 hm (fun g1=>⟨[(11,bO l_),(12,iV (l_.length:Int)),(13,iV g1)],[],0⟩) <|fun self1 g1 hm=>si hm (fun _ hm=>sn hm fun _ hm=>lf hm (fun g6=>⟨[(3,iV g1),(4,.ptr 0 0 0),(11,bO l_),(12,iV (l_.length:Int)),(13,iV g1),(19,aC ((l_.getD g1.toNat dReset).After)),(20,iV ((((l_.getD g1.toNat dReset).After).length:Nat):Int)),(21,iV g6)],[(0,some (.box [aC ((l_.getD g1.toNat dReset).After)]))],1⟩) [(0,some 32)] [] <|fun self6 g6 hm=>si hm (fun _ hm=>sn hm fun _ hm=>si hm (fun _ hm=>by cases hm;exact re) fun _ hm=>sn hm fun _ hm=>le hm) fun _ hm=>l0 hm (fun g7=>⟨[(4,.ptr 0 0 0),(7,iV g7),(11,bO l_),(12,iV (l_.length:Int)),(13,iV g1)],[(0,some (.box [aC ((l_.getD g1.toNat dReset).After)]))],1⟩) <|fun self7 g7 hm=>si hm (fun _ hm=>sn hm fun _ hm=>sn hm fun _ hm=>sn hm fun _ hm=>si hm (fun _ hm=>by cases hm;exact re) fun _ hm=>sn hm fun _ hm=>le hm) fun _ hm=>sn hm fun _ hm=>le hm) fun _ hm=>by cases hm;exact re
theorem yu {l_:(List bM)} {r:Int} (hm:pE l_ r):S 49 [bG l_] [] (iV r) [] :=sp Tryz.func49 rfl<|si hm (fun _ hm=>by cases hm;exact re) fun _ hm=>l0 hm (fun g1=>⟨[(8,bG l_),(9,iV (l_.length:Int)),(10,iV g1)],[],0⟩) <|fun self1 g1 hm=>si hm (fun _ hm=>sn hm fun _ hm=>si hm (fun _ hm=>by cases hm;exact re) fun _ hm=>sn hm fun _ hm=>le hm) fun _ hm=>by cases hm;exact re
theorem Kg {b_:bQ} {r:Int} (hm:xu b_ r):S 16 [vX b_] [] (iV r) [] :=sp Tryz.func16 rfl<|sb hm fun v1 hv1 hm=>cl (rA hv1)<|si hm (fun _ hm=>by cases hm;exact re) fun _ hm=>sb hm fun v2 hv2 hm=>cl (qb hv2)<|si hm (fun _ hm=>by cases hm;exact re) fun _ hm=>sb hm fun v3 hv3 hm=>cl (Ci hv3)<|si hm (fun _ hm=>by cases hm;exact re) fun _ hm=>sb hm fun v4 hv4 hm=>cl (zR hv4)<|si hm (fun _ hm=>by cases hm;exact re) fun _ hm=>sb hm fun v5 hv5 hm=>cl (yu hv5)<|by cases hm;exact re
theorem gL {x_:Int} {low_:Int} {high_:Int} {r:Bool} (hm:jZ x_ low_ high_ r):S 90 [iV x_,iV low_,iV high_] [] (.bool r) [] :=sp Tryz.func90 rfl<|by cases hm;exact re
theorem LB {b_:bQ} {n_:aV} {devices_:Int} {r:Int} (hm:Ap b_ n_ devices_ r):S 51 [vX b_,Dj n_,iV devices_] [] (iV r) [] :=sp Tryz.func51 rfl<|si hm (fun _ hm=>by cases hm;exact re) fun _ hm=>lf hm (fun g1=>⟨[(2,iV devices_),(3,.ptr 0 0 0),(4,.ptr 1 0 0),(35,eT n_.Limits),(36,iV (n_.Limits.length:Int)),(37,iV g1)],[(0,some (.box [aN b_.bY,aJ b_.bH,iV b_.bE.bT,aT b_.bE.Groups,bO b_.Resets,bG b_.cK])),(1,some (.box [eT n_.Limits,dR n_.Draws,fP n_.Functions,aC n_.Resets,iV n_.iF,aC n_.bA]))],2⟩) [(1,some 8)] [] <|fun self1 g1 hm=>si hm (fun _ hm=>sn hm fun _ hm=>sn hm fun _ hm=>sb hm fun v3 hv3 hm=>cl (gL hv3)<|si hm (fun _ hm=>by cases hm;exact re) fun _ hm=>sn hm fun _ hm=>le hm) fun _ hm=>l0 hm (fun g2=>⟨[(2,iV devices_),(3,.ptr 0 0 0),(4,.ptr 1 0 0),(68,dR n_.Draws),(69,iV (n_.Draws.length:Int)),(70,iV g2)],[(0,some (.box [aN b_.bY,aJ b_.bH,iV b_.bE.bT,aT b_.bE.Groups,bO b_.Resets,bG b_.cK])),(1,some (.box [eT n_.Limits,dR n_.Draws,fP n_.Functions,aC n_.Resets,iV n_.iF,aC n_.bA]))],2⟩) <|fun self2 g2 hm=>si hm (fun _ hm=>sn hm fun _ hm=>sn hm fun _ hm=>sb hm fun v8 hv8 hm=>cl (gL hv8)<|sb hm fun v9 hv9 hm=>cl (fun q0=>(gL (hv9 q0)))<|si hm (fun _ hm=>by cases hm;exact re) fun _ hm=>sn hm fun _ hm=>le hm) fun _ hm=>l0 hm (fun g3=>⟨[(2,iV devices_),(3,.ptr 0 0 0),(4,.ptr 1 0 0),(107,fP n_.Functions),(108,iV (n_.Functions.length:Int)),(109,iV g3)],[(0,some (.box [aN b_.bY,aJ b_.bH,iV b_.bE.bT,aT b_.bE.Groups,bO b_.Resets,bG b_.cK])),(1,some (.box [eT n_.Limits,dR n_.Draws,fP n_.Functions,aC n_.Resets,iV n_.iF,aC n_.bA]))],2⟩) <|fun self3 g3 hm=>si hm (fun _ hm=>sn hm fun _ hm=>sb hm fun v12 hv12 hm=>cl (wJ hv12)<|si hm (fun _ hm=>by cases hm;exact re) fun _ hm=>sn hm fun _ hm=>le hm) fun _ hm=>l0 hm (fun g4=>⟨[(2,iV devices_),(3,.ptr 0 0 0),(4,.ptr 1 0 0),(118,aC n_.Resets),(119,iV (n_.Resets.length:Int)),(120,iV g4)],[(0,some (.box [aN b_.bY,aJ b_.bH,iV b_.bE.bT,aT b_.bE.Groups,bO b_.Resets,bG b_.cK])),(1,some (.box [eT n_.Limits,dR n_.Draws,fP n_.Functions,aC n_.Resets,iV n_.iF,aC n_.bA]))],2⟩) <|fun self4 g4 hm=>si hm (fun _ hm=>sn hm fun _ hm=>sn hm fun _ hm=>sb hm fun v15 hv15 hm=>cl (gL hv15)<|si hm (fun _ hm=>by cases hm;exact re) fun _ hm=>sn hm fun _ hm=>le hm) fun _ hm=>sn hm fun _ hm=>sb hm fun v16 hv16 hm=>cl (gL hv16)<|si hm (fun _ hm=>by cases hm;exact re) fun _ hm=>lf hm (fun g5=>⟨[(2,iV devices_),(4,.ptr 0 0 0),(141,aC n_.bA),(142,iV (n_.bA.length:Int)),(143,iV g5)],[(0,some (.box [eT n_.Limits,dR n_.Draws,fP n_.Functions,aC n_.Resets,iV n_.iF,aC n_.bA]))],1⟩) [(0,some 1)] [] <|fun self5 g5 hm=>si hm (fun _ hm=>sn hm fun _ hm=>sn hm fun _ hm=>sb hm fun v19 hv19 hm=>cl (gL hv19)<|si hm (fun _ hm=>by cases hm;exact re) fun _ hm=>sn hm fun _ hm=>le hm) fun _ hm=>l0 hm (fun g6=>⟨[(4,.ptr 0 0 0),(17,iV g6)],[(0,some (.box [eT n_.Limits,dR n_.Draws,fP n_.Functions,aC n_.Resets,iV n_.iF,aC n_.bA]))],1⟩) <|fun self6 g6 hm=>si hm (fun _ hm=>sn hm fun _ hm=>sn hm fun _ hm=>sn hm fun _ hm=>si hm (fun _ hm=>by cases hm;exact re) fun _ hm=>sn hm fun _ hm=>le hm) fun _ hm=>by cases hm;exact re
end Go.Proofs.YtfblhejmclcdmaaGreatDoor


namespace Go.Proofs.YtfblhejmclcdmaaGreatDoor
open Go.Ab
set_option maxRecDepth 100000
set_option maxHeartbeats 40000000
theorem LC {b_:bQ} {l_:(List aV)} {r:Int} (hm:qQ b_ l_ r):S 18 [vX b_,eu l_] [] (iV r) [] :=sp Tryz.func18 rfl<|sb hm fun v1 hv1 hm=>cl (Kg hv1)<|si hm (fun _ hm=>by cases hm;exact re) fun _ hm=>si hm (fun _ hm=>by cases hm;exact re) fun _ hm=>l0 hm (fun g1=>⟨[(1,eu l_),(2,.ptr 0 0 0),(17,eu l_),(18,iV (l_.length:Int)),(19,iV g1)],[(0,some (.box [aN b_.bY,aJ b_.bH,iV b_.bE.bT,aT b_.bE.Groups,bO b_.Resets,bG b_.cK]))],1⟩) <|fun self1 g1 hm=>si hm (fun _ hm=>sn hm fun _ hm=>sb hm fun v4 hv4 hm=>cl (LB hv4)<|si hm (fun _ hm=>by cases hm;exact re) fun _ hm=>sn hm fun _ hm=>le hm) fun _ hm=>by cases hm;exact re
theorem sV {l_:(List aV)} {members_:(List Int)} {r:Bool} (hm:iP l_ members_ r):S 38 [eu l_,aC members_] [] (.bool r) [] :=sp Tryz.func38 rfl<|l0 hm (fun g1=>⟨[(0,eu l_),(1,aC members_),(7,aC members_),(8,iV (members_.length:Int)),(9,iV g1)],[],0⟩) <|fun self1 g1 hm=>si hm (fun _ hm=>sn hm fun _ hm=>sn hm fun _ hm=>sb hm fun v5 hv5 hm=>cl (gL hv5)<|sn hm fun _ hm=>sb hm fun v6 hv6 hm=>cl (fun q0=>((nL (hv6 q0)).le ⟨(.sl oz (fun _=>rfl) nofun (le_rtake (f:=iV) (d:=0) (by first | omega | (simp; omega)))),.refl _,trivial⟩ trivial))<|si hm (fun _ hm=>by cases hm;exact re) fun _ hm=>sn hm fun _ hm=>le hm) fun _ hm=>by cases hm;exact re
theorem lg {s_:(List Int)} {r:(List Int)} (hm:slices_Clone_int s_ r):S 92 [aC s_] [] (.bP 0 0 r.length false) [.row 1 r.length (aX iV 0 r)] :=by
 obtain ⟨h1,hm⟩:=hm
 have hm:r=s_:=hm
 subst hm
 refine kG (ct:=[1]) fE Tryz.func92 rfl rfl (Nat.le_of_ble_eq_true rfl) dk (Nat.le_of_ble_eq_true rfl) ?_
 (conv=>whnf)
 refine zo (ct:=[]) fE (fE.slice (t:=22) (e:=3) rfl rfl rfl).1 dk dk dk dk dk [(2,.sl 0 0 true dB),(0,aC r)] [] 8 rfl ?_ (fun hn=>?_) ?_
 ·exact rfl
 ·(conv=>whnf)
  have hn:r.length=0:=hn
  refine ⟨[],[(0,none)],?_⟩
  (conv=>whnf)
  exact ⟨⟨rfl,trivial,⟨hn,trivial⟩⟩,⟨rfl,rfl,rfl,rfl,rfl,hn⟩⟩
 ·(conv=>whnf)
  refine ⟨by rw [Nat.zero_add]; exact h1,?_⟩
  (conv=>whnf)
  refine ⟨[],[(0,some 24)],?_⟩
  (conv=>whnf)
  exact ⟨⟨rfl,trivial,⟨⟨rfl,Nat.zero_add _,le_appG (l:=[]) rfl (fun _ h=>absurd h (Nat.not_lt_zero _)) rfl (fun _ _=>.refl _)⟩,trivial⟩⟩,⟨rfl,rfl,rfl,Nat.zero_add _,nofun⟩⟩
theorem kQ {s_:(List Bool)} {r:(List Bool)} (hm:iK s_ r):S 95 [aS s_] [] (.bP 0 0 r.length false) [.row 1 r.length (aX AV.bool false r)] :=by
 obtain ⟨h1,hm⟩:=hm
 have hm:r=s_:=hm
 subst hm
 refine kG (ct:=[1]) fE Tryz.func95 rfl rfl (Nat.le_of_ble_eq_true rfl) dk (Nat.le_of_ble_eq_true rfl) ?_
 (conv=>whnf)
 refine zo (ct:=[]) fE (fE.slice (t:=36) (e:=4) rfl rfl rfl).1 dk dk dk dk dk [(2,.sl 0 0 true dB),(0,aS r)] [] 8 rfl ?_ (fun hn=>?_) ?_
 ·exact rfl
 ·(conv=>whnf)
  have hn:r.length=0:=hn
  refine ⟨[],[(0,none)],?_⟩
  (conv=>whnf)
  exact ⟨⟨rfl,trivial,⟨hn,trivial⟩⟩,⟨rfl,rfl,rfl,rfl,rfl,hn⟩⟩
 ·(conv=>whnf)
  refine ⟨by rw [Nat.zero_add]; exact h1,?_⟩
  (conv=>whnf)
  refine ⟨[],[(0,some 24)],?_⟩
  (conv=>whnf)
  exact ⟨⟨rfl,trivial,⟨⟨rfl,Nat.zero_add _,le_appG (l:=[]) rfl (fun _ h=>absurd h (Nat.not_lt_zero _)) rfl (fun _ _=>.refl _)⟩,trivial⟩⟩,⟨rfl,rfl,rfl,Nat.zero_add _,nofun⟩⟩
theorem Ez {r_:bF} {r:((List Bool)×(List Int))} (hm:zu r_ r):S 93 [Dk r_] [] (.agg [.bP 0 0 r.1.length false,.bP 1 0 r.2.length false]) [.row 1 r.1.length (aX AV.bool false r.1),.row 1 r.2.length (aX iV 0 r.2)] :=sp Tryz.func93 rfl<|sb hm fun v1 hv1 hm=>cl (kQ hv1)<|sb hm fun v2 hv2 hm=>cl (lg hv2)<|by cases hm;exact rt [] [(0,some 32),(1,some 56)]
theorem wK {s_:(List aL)} {r:(List aL)} (hm:jr s_ r):S 94 [dx s_] [] (.bP 0 0 r.length false) [.row 3 r.length (aX gF bS r)] :=by
 obtain ⟨h1,hm⟩:=hm
 have hm:r=s_:=hm
 subst hm
 refine kG (ct:=[1]) fE Tryz.func94 rfl rfl (Nat.le_of_ble_eq_true rfl) dk (Nat.le_of_ble_eq_true rfl) ?_
 (conv=>whnf)
 refine zo (ct:=[]) fE (fE.slice (t:=39) (e:=74) rfl rfl rfl).1 dk dk dk dk dk [(2,.sl 0 0 true dB),(0,dx r)] [] 8 rfl ?_ (fun hn=>?_) ?_
 ·exact rfl
 ·(conv=>whnf)
  have hn:r.length=0:=hn
  refine ⟨[],[(0,none)],?_⟩
  (conv=>whnf)
  exact ⟨⟨rfl,trivial,⟨hn,trivial⟩⟩,⟨rfl,rfl,rfl,rfl,rfl,hn⟩⟩
 ·(conv=>whnf)
  refine ⟨by rw [Nat.zero_add]; exact h1,?_⟩
  (conv=>whnf)
  refine ⟨[],[(0,some 24)],?_⟩
  (conv=>whnf)
  exact ⟨⟨rfl,trivial,⟨⟨rfl,Nat.zero_add _,le_appG (l:=[]) rfl (fun _ h=>absurd h (Nat.not_lt_zero _)) rfl (fun _ _=>.refl _)⟩,trivial⟩⟩,⟨rfl,rfl,rfl,Nat.zero_add _,nofun⟩⟩
theorem NU {g_:bq} {r:((List Int)×(List Bool)×(List Int)×(List aL)×(List Bool)×(List Bool))} (hm:EX g_ r):S 39 [yG g_] [] (.agg [.bP 0 0 r.1.length false,.bP 1 0 r.2.1.length false,.bP 2 0 r.2.2.1.length false,.bP 3 0 r.2.2.2.1.length false,.bP 4 0 r.2.2.2.2.1.length false,.bP 5 0 r.2.2.2.2.2.length false]) [.row 1 r.1.length (aX iV 0 r.1),.row 1 r.2.1.length (aX AV.bool false r.2.1),.row 1 r.2.2.1.length (aX iV 0 r.2.2.1),.row 3 r.2.2.2.1.length (aX gF bS r.2.2.2.1),.row 1 r.2.2.2.2.1.length (aX AV.bool false r.2.2.2.2.1),.row 1 r.2.2.2.2.2.length (aX AV.bool false r.2.2.2.2.2)] :=sp Tryz.func39 rfl<|sb hm fun v1 hv1 hm=>cl (lg hv1)<|sb hm fun v2 hv2 hm=>cl (Ez hv2)<|sb hm fun v3 hv3 hm=>cl (wK hv3)<|sb hm fun v4 hv4 hm=>cl (kQ hv4)<|sb hm fun v5 hv5 hm=>cl (kQ hv5)<|by cases hm;exact rt [] [(0,some 32),(1,some 56),(2,some 57),(3,some 80),(4,some 104),(5,some 128)]
theorem AZ {s_:dJ} {r:Bool} (hm:lC s_ r):S 82 [Am s_] [] (.bool r) [] :=sp Tryz.func82 rfl<|sb hm fun v1 hv1 hm=>cl (sV hv1)<|si hm (fun _ hm=>by cases hm;exact re) fun _ hm=>lf hm (fun g1=>⟨[(1,.ptr 0 0 0),(4,.ptr 1 0 0),(67,aN s_.aR.bY),(68,iV (s_.aR.bY.length:Int)),(69,iV g1)],[(0,some (.box [aN s_.aR.bY,aJ s_.aR.bH,iV s_.aR.bE.bT,aT s_.aR.bE.Groups,bO s_.aR.Resets,bG s_.aR.cK,eu s_.bX,aC s_.aI,aC s_.aK.Setting,aS s_.aK.Rails.On,aC s_.aK.Rails.Level,dx s_.aK.Uses,aS s_.aK.Released,aS s_.aK.Powered,.bool s_.ji])),(1,some (.box [aC s_.aK.Setting,aS s_.aK.Rails.On,aC s_.aK.Rails.Level,dx s_.aK.Uses,aS s_.aK.Released,aS s_.aK.Powered]))],2⟩) [(1,some 56)] [] <|fun self1 g1 hm=>si hm (fun _ hm=>sn hm fun _ hm=>sn hm fun _ hm=>sn hm fun _ hm=>sb hm fun v4 hv4 hm=>cl (gL hv4)<|si hm (fun _ hm=>by cases hm;exact re) fun _ hm=>sn hm fun _ hm=>le hm) fun _ hm=>l0 hm (fun g2=>⟨[(1,.ptr 0 0 0),(87,dx s_.aK.Uses),(88,iV (s_.aK.Uses.length:Int)),(89,iV g2)],[(0,some (.box [aN s_.aR.bY,aJ s_.aR.bH,iV s_.aR.bE.bT,aT s_.aR.bE.Groups,bO s_.aR.Resets,bG s_.aR.cK,eu s_.bX,aC s_.aI,aC s_.aK.Setting,aS s_.aK.Rails.On,aC s_.aK.Rails.Level,dx s_.aK.Uses,aS s_.aK.Released,aS s_.aK.Powered,.bool s_.ji]))],1⟩) <|fun self2 g2 hm=>si hm (fun _ hm=>sn hm fun _ hm=>sn hm fun _ hm=>sb hm fun v7 hv7 hm=>cl (gL hv7)<|si hm (fun _ hm=>by cases hm;exact re) fun _ hm=>sn hm fun _ hm=>le hm) fun _ hm=>by cases hm;exact re
theorem FE {x_:bC} {a1_:(List av)} {r:Bool} (hm:lW x_ a1_ r):S 181 [tC x_,.ro [aN a1_]] [] (.bool r) [] :=sp Tryz.func181 rfl<|sn hm fun _ hm=>sb hm fun v1 hv1 hm=>cl (eP hv1)<|sb hm fun v2 hv2 hm=>cl (fun q0=>(eP (hv2 q0)))<|sb hm fun v3 hv3 hm=>cl (fun q0=>(eP (hv3 q0)))<|by cases hm;exact re
theorem rD {s_:(List bC)} {f_:(List av)} {r:Int} (hm:mV s_ f_ r):S 186 [eT s_,.fn 181 [.ro [aN f_]]] [] (iV r) [] :=sp Tryz.func186 rfl<|l0 hm (fun g1=>⟨[(0,eT s_),(1,.fn 181 [.ro [aN f_]]),(7,iV (s_.length:Int)),(8,iV g1)],[],0⟩) <|fun self1 g1 hm=>si hm (fun _ hm=>sn hm fun _ hm=>sb hm fun v3 hv3 hm=>cl (FE hv3)<|si hm (fun _ hm=>by cases hm;exact re) fun _ hm=>sn hm fun _ hm=>le hm) fun _ hm=>by cases hm;exact re
theorem oZ {s_:(List bC)} {f_:(List av)} {r:Bool} (hm:iQ s_ f_ r):S 164 [eT s_,.fn 181 [.ro [aN f_]]] [] (.bool r) [] :=sp Tryz.func164 rfl<|sb hm fun v1 hv1 hm=>cl (rD hv1)<|by cases hm;exact re
theorem Ja {l_:(List av)} {m_:(List bC)} {r:Bool} (hm:uN l_ m_ r):S 160 [aN l_,eT m_] [] (.bool r) [] :=sp Tryz.func160 rfl<|sb hm fun v1 hv1 hm=>cl (rA hv1)<|sb hm fun v2 hv2 hm=>cl (fun q0=>(oZ (hv2 q0)))<|by cases hm;exact re
theorem wL {l_:(List av)} {s_:(List Int)} {r:Bool} (hm:nA l_ s_ r):S 161 [aN l_,aC s_] [] (.bool r) [] :=sp Tryz.func161 rfl<|si hm (fun _ hm=>by cases hm;exact re) fun _ hm=>l0 hm (fun g1=>⟨[(0,aN l_),(12,aC s_),(13,iV (s_.length:Int)),(14,iV g1)],[],0⟩) <|fun self1 g1 hm=>si hm (fun _ hm=>sn hm fun _ hm=>sn hm fun _ hm=>sn hm fun _ hm=>sb hm fun v3 hv3 hm=>cl (eP hv3)<|si hm (fun _ hm=>by cases hm;exact re) fun _ hm=>sn hm fun _ hm=>le hm) fun _ hm=>by cases hm;exact re
theorem Jb {l_:(List av)} {s_:(List Int)} {clock_:Int} {r:Int} (hm:uO l_ s_ clock_ r):S 182 [aN l_,aC s_,iV clock_] [] (iV r) [] :=sp Tryz.func182 rfl<|sn hm fun _ hm=>si hm (fun _ hm=>by cases hm;exact re) fun _ hm=>si hm (fun _ hm=>sn hm fun _ hm=>sn hm fun _ hm=>sn hm fun _ hm=>by cases hm;exact re) fun _ hm=>sn hm fun _ hm=>by cases hm;exact re
theorem mK {a_:Int} {b_:Int} {r:Int} (hm:lX a_ b_ r):S 192 [iV a_,iV b_] [] (iV r) [] :=sp Tryz.func192 rfl<|l0 hm (fun g1=>⟨[(0,iV g1.1),(1,iV g1.2)],[],0⟩) <|fun self1 g1 hm=>si hm (fun _ hm=>sn hm fun _ hm=>le hm) fun _ hm=>by cases hm;exact re
theorem nW {r_:aP} {r:Bool} (hm:oq r_ r):S 185 [lU r_] [] (.bool r) [] :=sp Tryz.func185 rfl<|sb hm fun v1 hv1 hm=>cl (fun q0=>(mK (hv1 q0)))<|by cases hm;exact re
theorem Kh {a00_:Int} {a01_:Int} {a1_:Int} {r:(Int×Int)} (hm:xw a00_ a01_ a1_ r):S 191 [.ro [iV a00_,iV a01_],.ro [iV a1_]] [] (.iT [iV r.1,iV r.2]) [] :=sp Tryz.func191 rfl<|sb hm fun v1 hv1 hm=>cl (mK hv1)<|sn hm fun _ hm=>sn hm fun _ hm=>sn hm fun _ hm=>by cases hm;exact re
theorem Gr {num_:Int} {den_:Int} {r:(aP×Int)} (hm:DC num_ den_ r):S 195 [iV num_,iV den_] [] (.iT [lU r.1,iV r.2]) [] :=sp Tryz.func195 rfl<|si hm (fun _ hm=>by cases hm;exact re) fun _ hm=>sb hm fun v1 hv1 hm=>cl (mK hv1)<|sn hm fun _ hm=>sn hm fun _ hm=>sb hm fun v2 hv2 hm=>cl (nW hv2)<|si hm (fun _ hm=>by cases hm;exact re) fun _ hm=>by cases hm;exact re
theorem Ki {r_:aP} {k_:Int} {scale0_:Int} {scale1_:Int} {scale2_:Int} {r:(aP×Int)} (hm:xA r_ k_ scale0_ scale1_ scale2_ r):S 190 [lU r_,iV k_,.fn 191 [.ro [iV scale0_,iV scale1_],.ro [iV scale2_]]] [] (.iT [lU r.1,iV r.2]) [] :=sp Tryz.func190 rfl<|sb hm fun v1 hv1 hm=>cl (nW hv1)<|si hm (fun _ hm=>by cases hm;exact re) fun _ hm=>si hm (fun _ hm=>by cases hm;exact re) fun _ hm=>sb hm fun v2 hv2 hm=>cl (Kh hv2)<|sb hm fun v3 hv3 hm=>cl (Gr hv3)<|by cases hm;exact re
theorem NV {r_:aP} {k_:Int} {r:(aP×Int)} (hm:EY r_ k_ r):S 183 [lU r_,iV k_] [] (.iT [lU r.1,iV r.2]) [] :=sp Tryz.func183 rfl<|sb hm fun v1 hv1 hm=>cl (Ki hv1)<|by cases hm;exact re
theorem Jc {a0_:Int} {a10_:Int} {a11_:Int} {r:(Int×Int)} (hm:uP a0_ a10_ a11_ r):S 193 [.ro [iV a0_],.ro [iV a10_,iV a11_]] [] (.iT [iV r.1,iV r.2]) [] :=sp Tryz.func193 rfl<|sb hm fun v1 hv1 hm=>cl (mK hv1)<|sn hm fun _ hm=>sn hm fun _ hm=>si hm (fun _ hm=>by cases hm;exact re) fun _ hm=>sn hm fun _ hm=>sn hm fun _ hm=>sn hm fun _ hm=>by cases hm;exact re
theorem FH {r_:aP} {k_:Int} {scale0_:Int} {scale1_:Int} {scale2_:Int} {r:(aP×Int)} (hm:pF r_ k_ scale0_ scale1_ scale2_ r):S 190 [lU r_,iV k_,.fn 193 [.ro [iV scale0_],.ro [iV scale1_,iV scale2_]]] [] (.iT [lU r.1,iV r.2]) [] :=sp Tryz.func190 rfl<|sb hm fun v1 hv1 hm=>cl (nW hv1)<|si hm (fun _ hm=>by cases hm;exact re) fun _ hm=>si hm (fun _ hm=>by cases hm;exact re) fun _ hm=>sb hm fun v2 hv2 hm=>cl (Jc hv2)<|sb hm fun v3 hv3 hm=>cl (Gr hv3)<|by cases hm;exact re
theorem LD {r_:aP} {k_:Int} {r:(aP×Int)} (hm:Aq r_ k_ r):S 184 [lU r_,iV k_] [] (.iT [lU r.1,iV r.2]) [] :=sp Tryz.func184 rfl<|sb hm fun v1 hv1 hm=>cl (FH hv1)<|by cases hm;exact re
theorem zS {l_:(List av)} {s_:(List Int)} {r:(List aP)} (hm:sH l_ s_ r):S 162 [aN l_,aC s_] [] (qP r) [] :=sp Tryz.func162 rfl<|sn hm fun _ hm=>lf hm (fun g1=>⟨[(0,aN l_),(1,aC s_),(5,.bP 0 0 g1.2.length false),(13,aN l_),(14,iV (l_.length:Int)),(15,iV g1.1)],[(0,some (.row 2 g1.2.length (aX lU bZ g1.2)))],1⟩) [(0,some 24)] [] <|fun self1 g1 hm=>si hm (fun _ hm=>sn hm fun _ hm=>sn hm fun _ hm=>sn hm fun _ hm=>sb hm fun v7 hv7 hm=>cl (Jb hv7)<|si hm (fun _ hm=>sn hm fun _ hm=>sn hm fun _ hm=>le hm) fun _ hm=>sn hm fun _ hm=>si hm (fun _ hm=>sn hm fun _ hm=>sn hm fun _ hm=>le hm) fun _ hm=>si hm (fun _ hm=>sn hm fun _ hm=>sb hm fun v8 hv8 hm=>cl (NV hv8)<|sn hm fun _ hm=>sn hm fun _ hm=>le hm) fun _ hm=>si hm (fun _ hm=>sn hm fun _ hm=>sb hm fun v9 hv9 hm=>cl (LD hv9)<|sn hm fun _ hm=>sn hm fun _ hm=>le hm) fun _ hm=>sn hm fun _ hm=>sn hm fun _ hm=>sn hm fun _ hm=>le hm) fun _ hm=>by cases hm;exact rt [0] []
theorem zT {r_:aP} {low_:Int} {high_:Int} {r:Bool} (hm:sI r_ low_ high_ r):S 163 [lU r_,iV low_,iV high_] [] (.bool r) [] :=sp Tryz.func163 rfl<|sb hm fun v1 hv1 hm=>cl (nW hv1)<|si hm (fun _ hm=>by cases hm;exact re) fun _ hm=>sn hm fun _ hm=>sn hm fun _ hm=>by cases hm;exact re
theorem Hg {x_:bC} {a1_:(List aP)} {r:Bool} (hm:nC x_ a1_ r):S 165 [tC x_,.ro [qP a1_]] [] (.bool r) [] :=sp Tryz.func165 rfl<|sn hm fun _ hm=>sn hm fun _ hm=>sb hm fun v1 hv1 hm=>cl (fun q0=>(zT (hv1 q0)))<|by cases hm;exact re
theorem o7 {s_:(List bC)} {f_:(List aP)} {r:Int} (hm:kV s_ f_ r):S 186 [eT s_,.fn 165 [.ro [qP f_]]] [] (iV r) [] :=sp Tryz.func186 rfl<|l0 hm (fun g1=>⟨[(0,eT s_),(1,.fn 165 [.ro [qP f_]]),(7,iV (s_.length:Int)),(8,iV g1)],[],0⟩) <|fun self1 g1 hm=>si hm (fun _ hm=>sn hm fun _ hm=>sb hm fun v3 hv3 hm=>cl (Hg hv3)<|si hm (fun _ hm=>by cases hm;exact re) fun _ hm=>sn hm fun _ hm=>le hm) fun _ hm=>by cases hm;exact re
theorem ng {s_:(List bC)} {f_:(List aP)} {r:Bool} (hm:gW s_ f_ r):S 164 [eT s_,.fn 165 [.ro [qP f_]]] [] (.bool r) [] :=sp Tryz.func164 rfl<|sb hm fun v1 hv1 hm=>cl (o7 hv1)<|by cases hm;exact re
theorem Kj {l_:(List av)} {s_:(List Int)} {m_:(List bC)} {r:Bool} (hm:xB l_ s_ m_ r):S 130 [aN l_,aC s_,eT m_] [] (.bool r) [] :=sp Tryz.func130 rfl<|sb hm fun v1 hv1 hm=>cl (Ja hv1)<|sb hm fun v2 hv2 hm=>cl (fun q0=>(wL (hv2 q0)))<|si hm (fun _ hm=>by cases hm;exact re) fun _ hm=>sb hm fun v3 hv3 hm=>cl (zS hv3)<|lf hm (fun g1=>⟨[(2,eT m_),(7,.ptr 0 0 0),(23,aN l_),(24,iV (l_.length:Int)),(25,iV g1)],[(0,some (.box [qP v3]))],1⟩) [(0,some 112)] [] <|fun self1 g1 hm=>si hm (fun _ hm=>sn hm fun _ hm=>sn hm fun _ hm=>sn hm fun _ hm=>sb hm fun v6 hv6 hm=>cl (fun q0=>(zT (hv6 q0)))<|si hm (fun _ hm=>by cases hm;exact re) fun _ hm=>sn hm fun _ hm=>le hm) fun _ hm=>sb hm fun v7 hv7 hm=>cl (ng hv7)<|by cases hm;exact re
theorem zU {s_:dJ} {r:Bool} (hm:kI s_ r):S 83 [Am s_] [] (.bool r) [] :=sp Tryz.func83 rfl<|sb hm fun v1 hv1 hm=>cl ((Kj hv1).le ⟨.refl _,.refl _,(.sl rfl (fun h=>absurd rfl h) nofun (fun _ h=>absurd h (Nat.not_lt_zero _))),trivial⟩ trivial)<|by cases hm;exact re
theorem Kk {l_:(List av)} {s_:(List Int)} {r:((List aP)×Int)} (hm:xC l_ s_ r):S 131 [aN l_,aC s_] [] (.iT [qP r.1,iV r.2]) [] :=sp Tryz.func131 rfl<|sb hm fun v1 hv1 hm=>cl (rA hv1)<|si hm (fun _ hm=>by cases hm;exact re) fun _ hm=>sb hm fun v2 hv2 hm=>cl (wL hv2)<|si hm (fun _ hm=>by cases hm;exact re) fun _ hm=>sb hm fun v3 hv3 hm=>cl (zS hv3)<|by cases hm;exact re
theorem zV {s_:dJ} {r:Bool} (hm:kJ s_ r):S 84 [Am s_] [] (.bool r) [] :=sp Tryz.func84 rfl<|sb hm fun v1 hv1 hm=>cl (Kk hv1)<|si hm (fun _ hm=>by cases hm;exact re) fun _ hm=>l0 hm (fun g1=>⟨[(1,.ptr 0 0 0),(3,qP v1.1),(23,aC s_.aI),(24,iV (s_.aI.length:Int)),(25,iV g1)],[(0,some (.box [aN s_.aR.bY,aJ s_.aR.bH,iV s_.aR.bE.bT,aT s_.aR.bE.Groups,bO s_.aR.Resets,bG s_.aR.cK,eu s_.bX,aC s_.aI,aC s_.aK.Setting,aS s_.aK.Rails.On,aC s_.aK.Rails.Level,dx s_.aK.Uses,aS s_.aK.Released,aS s_.aK.Powered,.bool s_.ji]))],1⟩) <|fun self1 g1 hm=>si hm (fun _ hm=>sn hm fun _ hm=>sn hm fun _ hm=>l0 hm (fun g4=>⟨[(1,.ptr 0 0 0),(3,qP v1.1),(23,aC s_.aI),(24,iV (s_.aI.length:Int)),(25,iV g1),(34,eT ((s_.bX.getD ((s_.aI.getD g1.toNat 0).toNat) bJ).Limits)),(35,iV ((((s_.bX.getD ((s_.aI.getD g1.toNat 0).toNat) bJ).Limits).length:Nat):Int)),(36,iV g4)],[(0,some (.box [aN s_.aR.bY,aJ s_.aR.bH,iV s_.aR.bE.bT,aT s_.aR.bE.Groups,bO s_.aR.Resets,bG s_.aR.cK,eu s_.bX,aC s_.aI,aC s_.aK.Setting,aS s_.aK.Rails.On,aC s_.aK.Rails.Level,dx s_.aK.Uses,aS s_.aK.Released,aS s_.aK.Powered,.bool s_.ji]))],1⟩) <|fun self4 g4 hm=>si hm (fun _ hm=>sn hm fun _ hm=>sn hm fun _ hm=>sn hm fun _ hm=>sn hm fun _ hm=>si hm (fun _ hm=>by cases hm;exact re) fun _ hm=>sn hm fun _ hm=>le hm) fun _ hm=>sn hm fun _ hm=>le hm) fun _ hm=>by cases hm;exact re
theorem Jd {l_:(List aj)} {r_:bF} {r:Bool} (hm:uQ l_ r_ r):S 166 [aJ l_,Dk r_] [] (.bool r) [] :=sp Tryz.func166 rfl<|sb hm fun v1 hv1 hm=>cl (qb hv1)<|si hm (fun _ hm=>by cases hm;exact re) fun _ hm=>l0 hm (fun g1=>⟨[(0,aJ l_),(27,aC r_.Level),(28,iV (r_.Level.length:Int)),(29,iV g1)],[],0⟩) <|fun self1 g1 hm=>si hm (fun _ hm=>sn hm fun _ hm=>sn hm fun _ hm=>sn hm fun _ hm=>sb hm fun v4 hv4 hm=>cl (dM hv4)<|si hm (fun _ hm=>by cases hm;exact re) fun _ hm=>sn hm fun _ hm=>le hm) fun _ hm=>by cases hm;exact re
theorem FI {x_:aM} {a1_:(List aj)} {r:Bool} (hm:lY x_ a1_ r):S 187 [Bg x_,.ro [aJ a1_]] [] (.bool r) [] :=sp Tryz.func187 rfl<|sn hm fun _ hm=>sb hm fun v1 hv1 hm=>cl (dM hv1)<|sb hm fun v2 hv2 hm=>cl (fun q0=>(dM (hv2 q0)))<|sb hm fun v3 hv3 hm=>cl (fun q0=>(dM (hv3 q0)))<|sb hm fun v4 hv4 hm=>cl (fun q0=>(dM (hv4 q0)))<|by cases hm;exact re
theorem sW {s_:(List aM)} {f_:(List aj)} {r:Int} (hm:nD s_ f_ r):S 189 [dR s_,.fn 187 [.ro [aJ f_]]] [] (iV r) [] :=sp Tryz.func189 rfl<|l0 hm (fun g1=>⟨[(0,dR s_),(1,.fn 187 [.ro [aJ f_]]),(7,iV (s_.length:Int)),(8,iV g1)],[],0⟩) <|fun self1 g1 hm=>si hm (fun _ hm=>sn hm fun _ hm=>sb hm fun v3 hv3 hm=>cl (FI hv3)<|si hm (fun _ hm=>by cases hm;exact re) fun _ hm=>sn hm fun _ hm=>le hm) fun _ hm=>by cases hm;exact re
theorem qc {s_:(List aM)} {f_:(List aj)} {r:Bool} (hm:jd s_ f_ r):S 170 [dR s_,.fn 187 [.ro [aJ f_]]] [] (.bool r) [] :=sp Tryz.func170 rfl<|sb hm fun v1 hv1 hm=>cl (sW hv1)<|by cases hm;exact re
theorem Je {l_:(List aj)} {d_:(List aM)} {r:Bool} (hm:uS l_ d_ r):S 167 [aJ l_,dR d_] [] (.bool r) [] :=sp Tryz.func167 rfl<|sb hm fun v1 hv1 hm=>cl (qb hv1)<|sb hm fun v2 hv2 hm=>cl (fun q0=>(qc (hv2 q0)))<|by cases hm;exact re
end Go.Proofs.YtfblhejmclcdmaaGreatDoor


namespace Go.Proofs.YtfblhejmclcdmaaGreatDoor
open Go.Ab
set_option maxRecDepth 100000
set_option maxHeartbeats 40000000
theorem kC {s_:(List aj)} {r:(List aj)} (hm:fQ s_ r):S 188 [aJ s_] [] (.fn 194 [.ro [aJ r]]) [] :=by
 have hm:r=s_:=hm
 subst hm
 exact Gq r
theorem Kl {l_:(List aj)} {d_:(List aM)} {r:(List Bool)} (hm:xD l_ d_ r):S 168 [aJ l_,dR d_] [] (aS r) [] :=TJ [11] Tryz.func168 rfl<|sn hm fun _ hm=>Lx [11] hm (fun g1=>⟨[(0,aJ l_),(5,.ptr 0 0 0),(13,dR d_),(14,iV (d_.length:Int)),(15,iV g1.1)],[(0,some (.box [.bP 1 0 g1.2.length false])),(1,some (.row 1 g1.2.length (aX AV.bool false g1.2)))],2⟩) [(0,some 32),(1,some 24)] [] <|fun self1 g1 hm=>si hm (fun _ hm=>sn hm fun _ hm=>sn hm fun _ hm=>sn hm fun _ hm=>le hm) fun _ hm=>sb hm fun v1 hv1 hm=>cl (kC hv1)<|by
 have h11:=hm.1
 have hm:=hm.2
 refine P5 (ct:=[11]) (ct':=[11]) fE dk dk dk dk (Kc v1 h11) rfl (by intro v hv; simp at hv; exact ⟨_,hv⟩) hm (fun g2=>⟨[(5,.ptr 0 0 0),(25,.fn 194 [.ro [aJ v1]])],[(0,some (.box [.bP 1 0 g2.length false])),(1,some (.row 1 g2.length (aX AV.bool false g2)))],2⟩) (fun k2 g2=>⟨[(5,.ptr 0 0 0),(8,iV ((v1.length - 1 - k2:Nat):Int)),(9,.ptr 2 0 0)],[(0,some (.box [.bP 1 0 g2.length false])),(1,some (.row 1 g2.length (aX AV.bool false g2))),(2,some (.box [iV ((v1.getD (v1.length - 1 - k2) ah).Parent),aC ((v1.getD (v1.length - 1 - k2) ah).aU),iV ((v1.getD (v1.length - 1 - k2) ah).dO),iV ((v1.getD (v1.length - 1 - k2) ah).eG),.bool ((v1.getD (v1.length - 1 - k2) ah).Always)]))],3⟩) (fun _ _=>r2) [] ⟨rfl,⟨r4,⟨rfl,Jy.refl _,trivial⟩,trivial⟩,⟨⟨⟨rfl,rfl,rfl,rfl,nofun⟩,trivial⟩,⟨rfl,rfl,(fun _ _=>.refl _)⟩,trivial⟩⟩ ?_ ?_ ?_
 ·intro k2 ll g2 hk
  refine ⟨Nat.le_of_ble_eq_true rfl,?_⟩
  (conv=>whnf)
  exact ⟨[(2,some 10)],⟨rfl,⟨r4,r2,r4,trivial⟩,⟨⟨⟨rfl,rfl,rfl,rfl,nofun⟩,trivial⟩,⟨rfl,rfl,(fun _ _=>.refl _)⟩,⟨r2,sr,r2,r2,rfl,trivial⟩,trivial⟩⟩⟩
 ·intro k2 ll self2 g2 hk hm
  (conv=>whnf)
  refine Nb (ct:=[11]) fE dk dk (tK v1 self2 k2) r (fun g5=>⟨[(5,.ptr 0 0 0),(8,iV ((v1.length - 1 - k2:Nat):Int)),(9,.ptr 2 0 0)],[(0,some (.box [.bP 1 0 g5.length false])),(1,some (.row 1 g5.length (aX AV.bool false g5))),(2,some (.box [iV ((v1.getD (v1.length - 1 - k2) ah).Parent),aC ((v1.getD (v1.length - 1 - k2) ah).aU),iV ((v1.getD (v1.length - 1 - k2) ah).dO),iV ((v1.getD (v1.length - 1 - k2) ah).eG),.bool ((v1.getD (v1.length - 1 - k2) ah).Always)]))],3⟩) ?_ (fun g5 hm=>?_)
  ·(conv=>whnf)
   refine aH hm fun h28 hm=>?_
   (conv=>whnf)
   refine aH hm fun h29 hm=>?_
   (conv=>whnf)
   exact ⟨(g2.set (((v1.length - 1 - k2:Nat):Int).toNat) ((g2.getD (((v1.length - 1 - k2:Nat):Int).toNat) false)||(v1.getD (v1.length - 1 - k2) ah).Always)),[],[],hm,⟨rfl,⟨r4,r2,r4,trivial⟩,⟨⟨⟨rfl,rfl,rfl,oz,nofun⟩,trivial⟩,⟨rfl,oz,(uK (fun _ _=>.refl _) rfl (.refl _))⟩,⟨r2,sr,r2,r2,rfl,trivial⟩,trivial⟩⟩⟩
  ·(conv=>whnf)
   refine aH hm fun h26 hm=>?_
   (conv=>whnf)
   refine dG hm (fun c6 hm=>?_) (fun c6 hm=>?_)
   ·(conv=>whnf)
    refine aH hm fun h27 hm=>?_
    (conv=>whnf)
    exact ⟨(g5.set (((v1.getD (v1.length - 1 - k2) ah).Parent).toNat) true),[],hm,⟨rfl,⟨r4,⟨rfl,Jy.refl _,trivial⟩,trivial⟩,⟨⟨⟨rfl,rfl,rfl,oz,nofun⟩,trivial⟩,⟨rfl,oz,(uK (fun _ _=>.refl _) rfl (.refl _))⟩,trivial⟩⟩⟩
   ·(conv=>whnf)
    exact ⟨g5,[],hm,⟨rfl,⟨r4,⟨rfl,Jy.refl _,trivial⟩,trivial⟩,⟨⟨⟨rfl,rfl,rfl,rfl,nofun⟩,trivial⟩,⟨rfl,rfl,(fun _ _=>.refl _)⟩,trivial⟩⟩⟩
 ·intro g2 hm
  (conv=>whnf)
  have hm:r=g2:=hm
  subst hm
  refine ⟨[1],[],?_⟩
  (conv=>whnf)
  exact ⟨⟨rfl,trivial,trivial⟩,sf⟩
theorem Jf {l_:(List aj)} {d_:(List aM)} {r:(List Int)} (hm:uT l_ d_ r):S 169 [aJ l_,dR d_] [] (aC r) [] :=sp Tryz.func169 rfl<|sn hm fun _ hm=>lf hm (fun g1=>⟨[(0,aJ l_),(5,.ptr 0 0 0),(13,dR d_),(14,iV (d_.length:Int)),(15,iV g1.1)],[(0,some (.box [.bP 1 0 g1.2.length false])),(1,some (.row 1 g1.2.length (aX iV 0 g1.2)))],2⟩) [(0,some 32),(1,some 24)] [] <|fun self1 g1 hm=>si hm (fun _ hm=>sn hm fun _ hm=>sn hm fun _ hm=>sn hm fun _ hm=>sn hm fun _ hm=>sn hm fun _ hm=>le hm) fun _ hm=>sb hm fun v1 hv1 hm=>cl (kC hv1)<|by
 have h17:=hm.1
 have hm:=hm.2
 refine P5 (ct:=[]) (ct':=[]) fE dk dk dk dk (Kc v1 h17) rfl (by intro v hv; simp at hv; exact ⟨_,hv⟩) hm (fun g2=>⟨[(5,.ptr 0 0 0),(30,.fn 194 [.ro [aJ v1]])],[(0,some (.box [.bP 1 0 g2.length false])),(1,some (.row 1 g2.length (aX iV 0 g2)))],2⟩) (fun k2 g2=>⟨[(5,.ptr 0 0 0),(8,iV ((v1.length - 1 - k2:Nat):Int)),(9,.ptr 2 0 0)],[(0,some (.box [.bP 1 0 g2.length false])),(1,some (.row 1 g2.length (aX iV 0 g2))),(2,some (.box [iV ((v1.getD (v1.length - 1 - k2) ah).Parent),aC ((v1.getD (v1.length - 1 - k2) ah).aU),iV ((v1.getD (v1.length - 1 - k2) ah).dO),iV ((v1.getD (v1.length - 1 - k2) ah).eG),.bool ((v1.getD (v1.length - 1 - k2) ah).Always)]))],3⟩) (fun _ _=>r2) [] ⟨rfl,⟨r4,⟨rfl,Jy.refl _,trivial⟩,trivial⟩,⟨⟨⟨rfl,rfl,rfl,rfl,nofun⟩,trivial⟩,⟨rfl,rfl,(fun _ _=>.refl _)⟩,trivial⟩⟩ ?_ ?_ ?_
 ·intro k2 ll g2 hk
  refine ⟨Nat.le_of_ble_eq_true rfl,?_⟩
  (conv=>whnf)
  exact ⟨[(2,some 10)],⟨rfl,⟨r4,r2,r4,trivial⟩,⟨⟨⟨rfl,rfl,rfl,rfl,nofun⟩,trivial⟩,⟨rfl,rfl,(fun _ _=>.refl _)⟩,⟨r2,sr,r2,r2,rfl,trivial⟩,trivial⟩⟩⟩
 ·intro k2 ll self2 g2 hk hm
  (conv=>whnf)
  refine dG hm (fun c6 hm=>?_) (fun c6 hm=>?_)
  ·(conv=>whnf)
   refine aH hm fun h26 hm=>?_
   (conv=>whnf)
   refine aH hm fun h27 hm=>?_
   (conv=>whnf)
   refine aH hm fun h28 hm=>?_
   (conv=>whnf)
   refine aH hm fun h29 hm=>?_
   (conv=>whnf)
   exact ⟨(g2.set (((v1.getD (v1.length - 1 - k2) ah).Parent).toNat) ((g2.getD (((v1.getD (v1.length - 1 - k2) ah).Parent).toNat) 0)+(g2.getD (((v1.length - 1 - k2:Nat):Int).toNat) 0))),[],hm,⟨rfl,⟨r4,⟨rfl,Jy.refl _,trivial⟩,trivial⟩,⟨⟨⟨rfl,rfl,rfl,oz,nofun⟩,trivial⟩,⟨rfl,oz,(uK (fun _ _=>.refl _) rfl (.refl _))⟩,trivial⟩⟩⟩
  ·(conv=>whnf)
   exact ⟨g2,[],hm,⟨rfl,⟨r4,⟨rfl,Jy.refl _,trivial⟩,trivial⟩,⟨⟨⟨rfl,rfl,rfl,rfl,nofun⟩,trivial⟩,⟨rfl,rfl,(fun _ _=>.refl _)⟩,trivial⟩⟩⟩
 ·intro g2 hm
  (conv=>whnf)
  have hm:r=g2:=hm
  subst hm
  refine ⟨[1],[],?_⟩
  (conv=>whnf)
  exact ⟨⟨rfl,trivial,trivial⟩,sf⟩
theorem FJ {x_:aM} {a1_:(List aj)} {a20_:(List Bool)} {a21_:(List Int)} {r:Bool} (hm:lZ x_ a1_ a20_ a21_ r):S 171 [Bg x_,.ro [aJ a1_],.ro [aS a20_,aC a21_]] [] (.bool r) [] :=sp Tryz.func171 rfl<|sn hm fun _ hm=>sn hm fun _ hm=>sn hm fun _ hm=>sb hm fun v1 hv1 hm=>cl (dM hv1)<|by cases hm;exact re
theorem qg {s_:(List aM)} {f0_:(List aj)} {f1_:(List Bool)} {f2_:(List Int)} {r:Int} (hm:lD s_ f0_ f1_ f2_ r):S 189 [dR s_,.fn 171 [.ro [aJ f0_],.ro [aS f1_,aC f2_]]] [] (iV r) [] :=sp Tryz.func189 rfl<|l0 hm (fun g1=>⟨[(0,dR s_),(1,.fn 171 [.ro [aJ f0_],.ro [aS f1_,aC f2_]]),(7,iV (s_.length:Int)),(8,iV g1)],[],0⟩) <|fun self1 g1 hm=>si hm (fun _ hm=>sn hm fun _ hm=>sb hm fun v3 hv3 hm=>cl (FJ hv3)<|si hm (fun _ hm=>by cases hm;exact re) fun _ hm=>sn hm fun _ hm=>le hm) fun _ hm=>by cases hm;exact re
theorem nM {s_:(List aM)} {f0_:(List aj)} {f1_:(List Bool)} {f2_:(List Int)} {r:Bool} (hm:iB s_ f0_ f1_ f2_ r):S 170 [dR s_,.fn 171 [.ro [aJ f0_],.ro [aS f1_,aC f2_]]] [] (.bool r) [] :=sp Tryz.func170 rfl<|sb hm fun v1 hv1 hm=>cl (qg hv1)<|by cases hm;exact re
theorem Jg {l_:(List aj)} {r_:bF} {d_:(List aM)} {r:Bool} (hm:uU l_ r_ d_ r):S 132 [aJ l_,Dk r_,dR d_] [] (.bool r) [] :=sp Tryz.func132 rfl<|sb hm fun v1 hv1 hm=>cl (Jd hv1)<|sb hm fun v2 hv2 hm=>cl (fun q0=>(Je (hv2 q0)))<|si hm (fun _ hm=>by cases hm;exact re) fun _ hm=>sb hm fun v3 hv3 hm=>cl (Kl hv3)<|sb hm fun v4 hv4 hm=>cl (Jf hv4)<|lf hm (fun g1=>⟨[(2,dR d_),(3,.ptr 0 0 0),(4,.ptr 1 0 0),(7,aS v3),(8,aC v4),(28,aJ l_),(29,iV (l_.length:Int)),(30,iV g1)],[(0,some (.box [aJ l_])),(1,some (.box [aS r_.On,aC r_.Level]))],2⟩) [(1,some 8)] [] <|fun self1 g1 hm=>si hm (fun _ hm=>sn hm fun _ hm=>sn hm fun _ hm=>si hm (fun _ hm=>sn hm fun _ hm=>si hm (fun _ hm=>by cases hm;exact re) fun _ hm=>sn hm fun _ hm=>le hm) fun _ hm=>sn hm fun _ hm=>sn hm fun _ hm=>sn hm fun _ hm=>sn hm fun _ hm=>sn hm fun _ hm=>sn hm fun _ hm=>sn hm fun _ hm=>sn hm fun _ hm=>si hm (fun _ hm=>by cases hm;exact re) fun _ hm=>sn hm fun _ hm=>le hm) fun _ hm=>sb hm fun v5 hv5 hm=>cl (nM hv5)<|by cases hm;exact re
theorem wV {s_:dJ} {r:Bool} (hm:jE s_ r):S 85 [Am s_] [] (.bool r) [] :=sp Tryz.func85 rfl<|lf hm (fun g1=>⟨[(1,.ptr 0 0 0),(3,.bP 1 0 g1.2.length false),(7,aC s_.aI),(8,iV (s_.aI.length:Int)),(9,iV g1.1)],[(0,some (.box [aN s_.aR.bY,aJ s_.aR.bH,iV s_.aR.bE.bT,aT s_.aR.bE.Groups,bO s_.aR.Resets,bG s_.aR.cK,eu s_.bX,aC s_.aI,aC s_.aK.Setting,aS s_.aK.Rails.On,aC s_.aK.Rails.Level,dx s_.aK.Uses,aS s_.aK.Released,aS s_.aK.Powered,.bool s_.ji])),(1,some (.row 4 g1.2.length (aX Bg bL g1.2)))],2⟩) [(1,none)] [] <|fun self1 g1 hm=>si hm (fun _ hm=>sn hm fun _ hm=>sn hm fun _ hm=>sn hm fun _ hm=>sn hm fun _ hm=>lc [(1,some 90)] [] hm) fun _ hm=>sb hm fun v1 hv1 hm=>cl (Ez hv1)<|sb hm fun v2 hv2 hm=>cl (Jg hv2)<|by cases hm;exact re
theorem Km {p_:bB} {l_:(List ql)} {r:((Nat→Int)×Int)} (hm:xE p_ l_ r):S 172 [lu p_,Sy l_] [] (.iT [aas r.1,iV r.2]) [] :=sp Tryz.func172 rfl<|lf hm (fun g1=>⟨[(1,Sy l_),(2,.ptr 0 0 0),(4,.ptr 1 0 0),(6,.ptr 2 0 0),(13,iV g1.1)],[(0,some (.box [iV p_.bT,aT p_.Groups])),(1,some (.row 1 64 (Cr iV g1.2.1))),(2,some (.row 1 64 (Cr iV g1.2.2)))],3⟩) [(1,some 8),(2,some 24)] [] <|fun self1 g1 hm=>si hm (fun _ hm=>sn hm fun _ hm=>sn hm fun _ hm=>le hm) fun _ hm=>sb hm fun v1 hv1 hm=>cl (Ci hv1)<|si hm (fun _ hm=>by cases hm;exact re) fun _ hm=>sn hm fun _ hm=>lf hm (fun g2=>⟨[(2,.ptr 0 0 0),(4,.ptr 1 0 0),(6,.ptr 2 0 0),(8,.bP 3 0 g2.2.2.length false),(27,Sy l_),(28,iV (l_.length:Int)),(29,iV g2.1)],[(0,some (.box [iV p_.bT,aT p_.Groups])),(1,some (.row 1 64 (Cr iV g1.2.1))),(2,some (.row 1 64 (Cr iV g2.2.1))),(3,some (.row 1 g2.2.2.length (aX AV.bool false g2.2.2)))],4⟩) [(3,some 59)] [] <|fun self2 g2 hm=>si hm (fun _ hm=>sn hm fun _ hm=>sn hm fun _ hm=>si hm (fun _ hm=>by cases hm;exact re) fun _ hm=>sn hm fun _ hm=>si hm (fun _ hm=>by cases hm;exact re) fun _ hm=>sn hm fun _ hm=>sn hm fun _ hm=>lf hm (fun g5=>⟨[(2,.ptr 0 0 0),(4,.ptr 1 0 0),(6,.ptr 2 0 0),(8,.bP 3 0 g5.2.2.length false),(10,.ptr 4 0 0),(27,Sy l_),(28,iV (l_.length:Int)),(29,iV g2.1),(79,aC ((p_.Groups.getD (((l_.getD g2.1.toNat kU).eH).toNat) aF).bT)),(80,iV ((((p_.Groups.getD (((l_.getD g2.1.toNat kU).eH).toNat) aF).bT).length:Nat):Int)),(81,iV g5.1)],[(0,some (.box [iV p_.bT,aT p_.Groups])),(1,some (.row 1 64 (Cr iV g1.2.1))),(2,some (.row 1 64 (Cr iV g5.2.1))),(3,some (.row 1 g5.2.2.length (aX AV.bool false g5.2.2))),(4,some (.box [iV ((l_.getD g2.1.toNat kU).eH),iV ((l_.getD g2.1.toNat kU).Function)]))],5⟩) [(4,some 28)] [] <|fun self5 g5 hm=>si hm (fun _ hm=>sn hm fun _ hm=>sn hm fun _ hm=>si hm (fun _ hm=>by cases hm;exact re) fun _ hm=>sn hm fun _ hm=>sn hm fun _ hm=>le hm) fun _ hm=>sn hm fun _ hm=>le hm) fun _ hm=>by cases hm;exact re
theorem Kn {p_:bB} {l_:(List ql)} {r:((List Int)×Int)} (hm:xG p_ l_ r):S 133 [lu p_,Sy l_] [] (.iT [aC r.1,iV r.2]) [] :=TJ [4] Tryz.func133 rfl<|sb hm fun v1 hv1 hm=>cl (Km hv1)<|ck [4] (wh p_) r (fun g1=>⟨[(2,.ptr 0 0 0),(6,.ptr 1 0 0)],[(0,some (.box [iV p_.bT,aT p_.Groups])),(1,some (.row 1 64 (Cr iV g1)))],2⟩) (si hm (fun _ hm=>by cases hm;exact re) fun _ hm=>lce [(1,some 72)] [] hm ⟨rfl,⟨r4,r4,trivial⟩,⟨⟨r2,sr,trivial⟩,⟨rfl,rfl,(PZ (f:=iV) (X:=v1.1) (n:=64) (fun _=>rfl))⟩,trivial⟩⟩) fun g1 hm=>sn hm fun _ hm=>sb hm fun v2 hv2 hm=>cl ((lg hv2).le ⟨(.sl oz (fun _=>rfl) nofun (le_funG (f:=iV) (X:=g1))),trivial⟩ trivial)<|by cases hm;exact rt [26] []
theorem Cx {s_:dJ} {r:Bool} (hm:mG s_ r):S 86 [Am s_] [] (.bool r) [] :=sp Tryz.func86 rfl<|lf hm (fun g1=>⟨[(1,.ptr 0 0 0),(3,.bP 1 0 g1.2.length false),(10,dx s_.aK.Uses),(11,iV (s_.aK.Uses.length:Int)),(12,iV g1.1)],[(0,some (.box [aN s_.aR.bY,aJ s_.aR.bH,iV s_.aR.bE.bT,aT s_.aR.bE.Groups,bO s_.aR.Resets,bG s_.aR.cK,eu s_.bX,aC s_.aI,aC s_.aK.Setting,aS s_.aK.Rails.On,aC s_.aK.Rails.Level,dx s_.aK.Uses,aS s_.aK.Released,aS s_.aK.Powered,.bool s_.ji])),(1,some (.row 2 g1.2.length (aX acG kU g1.2)))],2⟩) [(1,none)] [] <|fun self1 g1 hm=>si hm (fun _ hm=>sn hm fun _ hm=>sn hm fun _ hm=>sn hm fun _ hm=>lc [(1,some 74)] [] hm) fun _ hm=>sb hm fun v1 hv1 hm=>cl (Kn hv1)<|by cases hm;exact re
theorem wM {s_:dJ} {r:Bool} (hm:jv s_ r):S 87 [Am s_] [] (.bool r) [] :=sp Tryz.func87 rfl<|l0 hm (fun g1=>⟨[(1,.ptr 0 0 0),(11,aC s_.aI),(12,iV (s_.aI.length:Int)),(13,iV g1)],[(0,some (.box [aN s_.aR.bY,aJ s_.aR.bH,iV s_.aR.bE.bT,aT s_.aR.bE.Groups,bO s_.aR.Resets,bG s_.aR.cK,eu s_.bX,aC s_.aI,aC s_.aK.Setting,aS s_.aK.Rails.On,aC s_.aK.Rails.Level,dx s_.aK.Uses,aS s_.aK.Released,aS s_.aK.Powered,.bool s_.ji]))],1⟩) <|fun self1 g1 hm=>si hm (fun _ hm=>sn hm fun _ hm=>lf hm (fun g6=>⟨[(1,.ptr 0 0 0),(4,iV (s_.aI.getD g1.toNat 0)),(5,.mref 1),(11,aC s_.aI),(12,iV (s_.aI.length:Int)),(13,iV g1),(20,dx s_.aK.Uses),(21,iV (s_.aK.Uses.length:Int)),(22,iV g6.1)],[(0,some (.box [aN s_.aR.bY,aJ s_.aR.bH,iV s_.aR.bE.bT,aT s_.aR.bE.Groups,bO s_.aR.Resets,bG s_.aR.cK,eu s_.bX,aC s_.aI,aC s_.aK.Setting,aS s_.aK.Rails.On,aC s_.aK.Rails.Level,dx s_.aK.Uses,aS s_.aK.Released,aS s_.aK.Powered,.bool s_.ji])),(1,some (.map .str [(.int .i64)] g6.2))],2⟩) [(1,some 33)] [] <|fun self6 g6 hm=>si hm (fun _ hm=>sn hm fun _ hm=>si hm (fun _ hm=>sn hm fun _ hm=>sn hm fun _ hm=>sn hm fun _ hm=>sn hm fun _ hm=>le hm) fun _ hm=>sn hm fun _ hm=>le hm) fun _ hm=>sn hm fun _ hm=>l0 hm (fun g7=>⟨[(1,.ptr 0 0 0),(5,.mref 1),(11,aC s_.aI),(12,iV (s_.aI.length:Int)),(13,iV g1),(54,fP ((s_.bX.getD ((s_.aI.getD g1.toNat 0).toNat) bJ).Functions)),(55,iV ((((s_.bX.getD ((s_.aI.getD g1.toNat 0).toNat) bJ).Functions).length:Nat):Int)),(56,iV g7.1)],[(0,some (.box [aN s_.aR.bY,aJ s_.aR.bH,iV s_.aR.bE.bT,aT s_.aR.bE.Groups,bO s_.aR.Resets,bG s_.aR.cK,eu s_.bX,aC s_.aI,aC s_.aK.Setting,aS s_.aK.Rails.On,aC s_.aK.Rails.Level,dx s_.aK.Uses,aS s_.aK.Released,aS s_.aK.Powered,.bool s_.ji])),(1,some (.map .str [(.int .i64)] g7.2))],2⟩) <|fun self7 g7 hm=>si hm (fun _ hm=>sn hm fun _ hm=>sn hm fun _ hm=>si hm (fun _ hm=>by cases hm;exact re) fun _ hm=>sn hm fun _ hm=>le hm) fun _ hm=>sn hm fun _ hm=>le hm) fun _ hm=>by cases hm;exact re
theorem Jh {l_:(List cu)} {released_:(List Bool)} {r:Bool} (hm:uV l_ released_ r):S 173 [bO l_,aS released_] [] (.bool r) [] :=sp Tryz.func173 rfl<|si hm (fun _ hm=>by cases hm;exact re) fun _ hm=>l0 hm (fun g1=>⟨[(1,aS released_),(14,bO l_),(15,iV (l_.length:Int)),(16,iV g1)],[],0⟩) <|fun self1 g1 hm=>si hm (fun _ hm=>sn hm fun _ hm=>l0 hm (fun g4=>⟨[(1,aS released_),(5,iV g1),(14,bO l_),(15,iV (l_.length:Int)),(16,iV g1),(22,aC ((l_.getD g1.toNat dReset).After)),(23,iV ((((l_.getD g1.toNat dReset).After).length:Nat):Int)),(24,iV g4)],[],0⟩) <|fun self4 g4 hm=>si hm (fun _ hm=>sn hm fun _ hm=>sn hm fun _ hm=>sn hm fun _ hm=>si hm (fun _ hm=>by cases hm;exact re) fun _ hm=>sn hm fun _ hm=>le hm) fun _ hm=>sn hm fun _ hm=>le hm) fun _ hm=>by cases hm;exact re
theorem Ji {l_:(List cu)} {released_:(List Bool)} {r:Bool} (hm:uW l_ released_ r):S 134 [bO l_,aS released_] [] (.bool r) [] :=sp Tryz.func134 rfl<|sb hm fun v1 hv1 hm=>cl (zR hv1)<|sb hm fun v2 hv2 hm=>cl (fun q0=>(Jh (hv2 q0)))<|by cases hm;exact re
theorem wW {line_:Int} {a10_:(List av)} {a11_:(List aj)} {a12_:Int} {a13_:(List aY)} {a14_:(List cu)} {a15_:(List bM)} {a16_:(List aV)} {a17_:(List Int)} {a18_:(List Int)} {a19_:(List Bool)} {a110_:(List Int)} {a111_:(List aL)} {a112_:(List Bool)} {a113_:(List Bool)} {a114_:Bool} {r:Bool} (hm:iG line_ a10_ a11_ a12_ a13_ a14_ a15_ a16_ a17_ a18_ a19_ a110_ a111_ a112_ a113_ a114_ r):S 136 [iV line_,.ro [aN a10_,aJ a11_,iV a12_,aT a13_,bO a14_,bG a15_,eu a16_,aC a17_,aC a18_,aS a19_,aC a110_,dx a111_,aS a112_,aS a113_,.bool a114_]] [] (.bool r) [] :=sp Tryz.func136 rfl<|sn hm fun _ hm=>by cases hm;exact re
theorem ug {s_:(List Int)} {f0_:(List av)} {f1_:(List aj)} {f2_:Int} {f3_:(List aY)} {f4_:(List cu)} {f5_:(List bM)} {f6_:(List aV)} {f7_:(List Int)} {f8_:(List Int)} {f9_:(List Bool)} {f10_:(List Int)} {f11_:(List aL)} {f12_:(List Bool)} {f13_:(List Bool)} {f14_:Bool} {r:Int} (hm:oJ s_ f0_ f1_ f2_ f3_ f4_ f5_ f6_ f7_ f8_ f9_ f10_ f11_ f12_ f13_ f14_ r):S 174 [aC s_,.fn 136 [.ro [aN f0_,aJ f1_,iV f2_,aT f3_,bO f4_,bG f5_,eu f6_,aC f7_,aC f8_,aS f9_,aC f10_,dx f11_,aS f12_,aS f13_,.bool f14_]]] [] (iV r) [] :=sp Tryz.func174 rfl<|l0 hm (fun g1=>⟨[(0,aC s_),(1,.fn 136 [.ro [aN f0_,aJ f1_,iV f2_,aT f3_,bO f4_,bG f5_,eu f6_,aC f7_,aC f8_,aS f9_,aC f10_,dx f11_,aS f12_,aS f13_,.bool f14_]]),(7,iV (s_.length:Int)),(8,iV g1)],[],0⟩) <|fun self1 g1 hm=>si hm (fun _ hm=>sn hm fun _ hm=>sb hm fun v3 hv3 hm=>cl (wW hv3)<|si hm (fun _ hm=>by cases hm;exact re) fun _ hm=>sn hm fun _ hm=>le hm) fun _ hm=>by cases hm;exact re
theorem qo {s_:(List Int)} {f0_:(List av)} {f1_:(List aj)} {f2_:Int} {f3_:(List aY)} {f4_:(List cu)} {f5_:(List bM)} {f6_:(List aV)} {f7_:(List Int)} {f8_:(List Int)} {f9_:(List Bool)} {f10_:(List Int)} {f11_:(List aL)} {f12_:(List Bool)} {f13_:(List Bool)} {f14_:Bool} {r:Bool} (hm:jk s_ f0_ f1_ f2_ f3_ f4_ f5_ f6_ f7_ f8_ f9_ f10_ f11_ f12_ f13_ f14_ r):S 135 [aC s_,.fn 136 [.ro [aN f0_,aJ f1_,iV f2_,aT f3_,bO f4_,bG f5_,eu f6_,aC f7_,aC f8_,aS f9_,aC f10_,dx f11_,aS f12_,aS f13_,.bool f14_]]] [] (.bool r) [] :=sp Tryz.func135 rfl<|sb hm fun v1 hv1 hm=>cl (ug hv1)<|by cases hm;exact re
theorem zW {s_:dJ} {r:Bool} (hm:kK s_ r):S 88 [Am s_] [] (.bool r) [] :=sp Tryz.func88 rfl<|sb hm fun v1 hv1 hm=>cl (Ji hv1)<|si hm (fun _ hm=>by cases hm;exact re) fun _ hm=>l0 hm (fun g1=>⟨[(1,.ptr 0 0 0),(14,aC s_.aI),(15,iV (s_.aI.length:Int)),(16,iV g1)],[(0,some (.box [aN s_.aR.bY,aJ s_.aR.bH,iV s_.aR.bE.bT,aT s_.aR.bE.Groups,bO s_.aR.Resets,bG s_.aR.cK,eu s_.bX,aC s_.aI,aC s_.aK.Setting,aS s_.aK.Rails.On,aC s_.aK.Rails.Level,dx s_.aK.Uses,aS s_.aK.Released,aS s_.aK.Powered,.bool s_.ji]))],1⟩) <|fun self1 g1 hm=>si hm (fun _ hm=>sn hm fun _ hm=>sn hm fun _ hm=>sb hm fun v4 hv4 hm=>cl (qo hv4)<|si hm (fun _ hm=>by cases hm;exact re) fun _ hm=>sn hm fun _ hm=>le hm) fun _ hm=>by cases hm;exact re
theorem Jj {l_:(List bM)} {on_:(List Bool)} {r:Bool} (hm:uX l_ on_ r):S 175 [bG l_,aS on_] [] (.bool r) [] :=sp Tryz.func175 rfl<|si hm (fun _ hm=>by cases hm;exact re) fun _ hm=>l0 hm (fun g1=>⟨[(1,aS on_),(12,bG l_),(13,iV (l_.length:Int)),(14,iV g1)],[],0⟩) <|fun self1 g1 hm=>si hm (fun _ hm=>sn hm fun _ hm=>sn hm fun _ hm=>sn hm fun _ hm=>sn hm fun _ hm=>si hm (fun _ hm=>by cases hm;exact re) fun _ hm=>sn hm fun _ hm=>le hm) fun _ hm=>by cases hm;exact re
theorem Jk {l_:(List bM)} {on_:(List Bool)} {r:Bool} (hm:uY l_ on_ r):S 137 [bG l_,aS on_] [] (.bool r) [] :=sp Tryz.func137 rfl<|sb hm fun v1 hv1 hm=>cl (yu hv1)<|sb hm fun v2 hv2 hm=>cl (fun q0=>(Jj (hv2 q0)))<|by cases hm;exact re
theorem wN {m_:Int} {a10_:(List av)} {a11_:(List aj)} {a12_:Int} {a13_:(List aY)} {a14_:(List cu)} {a15_:(List bM)} {a16_:(List aV)} {a17_:(List Int)} {a18_:(List Int)} {a19_:(List Bool)} {a110_:(List Int)} {a111_:(List aL)} {a112_:(List Bool)} {a113_:(List Bool)} {a114_:Bool} {r:Bool} (hm:gZ m_ a10_ a11_ a12_ a13_ a14_ a15_ a16_ a17_ a18_ a19_ a110_ a111_ a112_ a113_ a114_ r):S 138 [iV m_,.ro [aN a10_,aJ a11_,iV a12_,aT a13_,bO a14_,bG a15_,eu a16_,aC a17_,aC a18_,aS a19_,aC a110_,dx a111_,aS a112_,aS a113_,.bool a114_]] [] (.bool r) [] :=sp Tryz.func138 rfl<|sn hm fun _ hm=>sn hm fun _ hm=>by cases hm;exact re
end Go.Proofs.YtfblhejmclcdmaaGreatDoor

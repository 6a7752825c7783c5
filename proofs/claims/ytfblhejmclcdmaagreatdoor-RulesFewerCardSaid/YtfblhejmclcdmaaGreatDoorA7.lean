/- An abstract machine over the model's code, that it is sound; models of the functions and their proofs. -/
import Derived.Test.YtfblhejmclcdmaaGreatDoorA6
set_option linter.unusedVariables false
set_option linter.unusedSimpArgs false

namespace Go.Proofs.YtfblhejmclcdmaaGreatDoor
open Go.Ab
set_option maxRecDepth 100000
theorem Y0 {l:List av} {m:List bn} (h:((bP l != 0)||decide (32<(m.length:Int)))=true):oK l m=false:=by
 unfold oK;by_cases h1:bP l=0
 ·rw [h1] at h;have:32<(m.length:Int):=by simpa using h
  rw [decide_eq_false (p:=(m.length:Int)≤32) (by omega)];simp
 ·have:(bP l==0)=false:=by simpa using h1
  rw [this];rfl
theorem XL {l:List av} {m:List bn} (h:((bP l != 0)||decide (32<(m.length:Int)))=false):oK l m=!(m.any (G5 l.length)):=by
 have h1:bP l=0∧(m.length:Int)≤32:=by
  simp at h;omega
 unfold oK;rw [h1.1,decide_eq_true h1.2];rfl
theorem RJ (n:Int) (x:bn):(((((decide (x.Clock<(0:Int)))||(decide (n≤x.Clock)))||(decide (x.Low<(0:Int))))||(decide (x.High<x.Low)))||(decide ((4000000000:Int)<x.High)))=G5 n x:=by
 unfold G5 withinF;rw [Bool.eq_iff_iff];simp;omega
theorem Mv {l_:(List av)} {m_:(List bn)} (h1:l_.length≤1000000) (h2:m_.length≤1000000):W (u7 l_ m_) (fun r=>r=oK l_ m_):=by
 unfold u7;refine aC (yu ob) fun v1 hv1=>?_;subst v1;refine aF (fun c1=>?_) (fun c1=>?_)
 ·have c1o:=c1;have c1:=nr c1;refine ak ?_;(exact (Y0 c1o).symm)
 ·have c1o:=c1;have c1:=nr c1;have hdf:=XL c1o;refine aW (fun (g1:Int)=>0≤g1∧g1≤m_.length∧(m_.drop g1.toNat).any (G5 l_.length)=m_.any (G5 l_.length)) (fun (g1:Int)=>(m_.length - g1).toNat) ?_ ?_
  ·intro self1 g1 hig1 ihg1;obtain ⟨hg1_1,hg1_2,hg1_3⟩:=hig1;unfold Bt;refine aF (fun c2=>?_) (fun c2=>?_)
   ·have c2:=nr c2;have hlt:g1.toNat<m_.length:=(by omega);rw [drop_cons cB hlt,List.any_cons] at hg1_3;refine wn ?_;refine aF (fun c3=>?_) (fun c3=>?_)
    ·have c3o:=c3;have c3:=nr c3;rw [RJ] at c3o;refine ak ?_;(rw [hdf,← hg1_3,c3o]; rfl)
    ·have c3o:=c3;have c3:=nr c3;rw [RJ] at c3o;refine wn ?_;refine ihg1 _ ?_ ?_
     ·(refine ⟨by exact ob,by exact ob,?_⟩; rw [← hg1_3,c3o,show (g1+1).toNat=g1.toNat+1 by omega]; rfl)
     ·exact ob
   ·have c2:=nr c2;refine ak ?_;(rw [hdf,← hg1_3,show g1.toNat=m_.length by omega,List.drop_length]; rfl)
  ·(refine ⟨by exact ob,by exact ob,rfl⟩)
theorem NC {l_:(List av)} {m_:(List bn)} (h1:l_.length≤1000000) (h2:m_.length≤1000000):W (xu l_ m_) (fun r=>r=(bif bP l_ != 0 then bP l_ else bif !oK l_ m_ then 1 else 0)):=by
 unfold xu;refine aC (yu ob) fun v1 hv1=>?_;subst v1;refine aF (fun c1=>?_) (fun c1=>?_)
 ·have c1o:=c1;have c1:=nr c1;refine ak ?_;(rw [c1o]; rfl)
 ·have c1o:=c1;have c1:=nr c1;refine aC (Mv ob ob) fun v2 hv2=>?_;subst v2;refine aF (fun c2=>?_) (fun c2=>?_)
  ·have c2o:=c2;have c2:=nr c2;refine ak ?_;(rw [c1o,c2o]; rfl)
  ·have c2o:=c2;have c2:=nr c2;refine ak ?_;(rw [c1o,c2o]; rfl)
theorem Mw {c_:av} {choice_:Int} (h1:L6 c_ choice_):W (vg c_ choice_) (fun r=>r=parF c_ choice_):=by
 have hp:=h1; unfold L6 at hp;unfold vg;refine aF (fun c1=>?_) (fun c1=>?_)
 ·have c1o:=c1;have c1:=nr c1;refine ak ?_;(unfold parF; rw [c1o]; rfl)
 ·have c1o:=c1;have c1:=nr c1;refine aF (fun c2=>?_) (fun c2=>?_)
  ·have c2o:=c2;have c2:=nr c2;refine wn ?_;refine wn ?_;refine ak ?_;(unfold parF; rw [c1o,c2o]; rfl)
  ·have c2o:=c2;have c2:=nr c2;refine wn ?_;refine ak ?_;(unfold parF; rw [c1o,c2o]; rfl)
theorem uo {a_:Int} {b_:Int} (h1:0≤a_) (h2:0≤b_):W (kM a_ b_) (fun r=>r=fP a_ b_):=by
 unfold kM;refine aW (fun (g1:(Int×Int))=>0≤g1.1∧0≤g1.2∧fP g1.1 g1.2=fP a_ b_) (fun (g1:(Int×Int))=>g1.2.toNat) ?_ ?_
 ·intro self1 g1 hig1 ihg1;obtain ⟨hg1_1,hg1_2,hg1_3⟩:=hig1;unfold y9;refine aF (fun c1=>?_) (fun c1=>?_)
  ·have c1:=nr c1;refine wn ?_;refine ihg1 _ ?_ ?_
   ·(refine ⟨by exact ob,Int.tmod_nonneg _ (by omega),?_⟩; dsimp only; rw [← hg1_3]; exact Rj (by omega) (by omega))
   ·(dsimp only; have:=Ey g1.1 g1.2 (by omega); have:=Int.tmod_nonneg (a:=g1.1) g1.2 (by omega); omega)
  ·have c1:=nr c1;refine ak ?_;(rw [← hg1_3]; unfold fP; have e:g1.2=0:=c1; rw [e]; simp; omega)
 ·exact ob
theorem rW {r_:aP}:W (lN r_) (fun r=>r=validR r_):=by
 unfold lN;refine aC (d9 fun hc=>jR (uo (by have hc:=nr hc; omega) (by have hc:=nr hc; omega))) fun v1 hv1=>?_;subst v1;refine ak ?_;rfl
theorem DU {k_:Int}:W (pF k_) (fun r=>r=pO k_):=by
 unfold pF;refine ak ?_;rfl
theorem J6 {num_:Int} {den_:Int} (h1:num_≤4611686018427387904) (h2:den_≤4611686018427387904):W (za num_ den_) (fun r=>r=newR num_ den_):=by
 unfold za;refine aF (fun c1=>?_) (fun c1=>?_)
 ·have c1o:=c1;have c1:=nr c1;refine ak ?_;(unfold newR; rw [c1o]; rfl)
 ·have c1o:=c1;have c1:=nr c1;have hg:=sP num_ den_ (by omega); have q1:=tdiv_le num_ _ (by omega) hg; have q2:=tdiv_le den_ _ (by omega) hg;refine aC (uo ob ob) fun v1 hv1=>?_;subst v1;refine wn ?_;refine wn ?_;refine aC (rW) fun v2 hv2=>?_;subst v2;refine aF (fun c2=>?_) (fun c2=>?_)
  ·have c2o:=c2;have c2:=nr c2;refine ak ?_;(unfold newR; rw [c1o]; simp only [cond_false]; rw [c2o]; rfl)
  ·have c2o:=c2;have c2:=nr c2;refine ak ?_;(unfold newR; rw [c1o]; simp only [cond_false]; rw [c2o]; rfl)
theorem PW {r_:aP} {k_:Int}:W (Aa r_ k_) (fun r=>r=sQ r_ k_):=by
 unfold Aa;refine aC (rW) fun v1 hv1=>?_;subst v1;refine aF (fun c1=>?_) (fun c1=>?_)
 ·have c1o:=c1;have c1:=nr c1;refine ak ?_;(unfold sQ; rw [c1o]; rfl)
 ·have c1o:=c1;have c1:=nr c1;have hv:=kD (r:=r_) (by simpa using c1o);refine aC (DU) fun v2 hv2=>?_;subst v2;refine aF (fun c2=>?_) (fun c2=>?_)
  ·have c2o:=c2;have c2:=nr c2;refine ak ?_;(unfold sQ; rw [c1o,c2o]; rfl)
  ·have c2o:=c2;have c2:=nr c2;have hk:1≤k_∧k_≤64:=(by simp [pO] at c2o; omega);have q3:=I6 (show 0≤k_ by omega) hk.2 (show 0≤r_.Den by omega) hv.2.2.2.1;refine wn ?_;refine aC (J6 ob ob) fun v3 hv3=>?_;subst v3;refine ak ?_;(unfold sQ; rw [c1o,c2o]; rfl)
theorem ND {r_:aP} {k_:Int}:W (xw r_ k_) (fun r=>r=kQ r_ k_):=by
 unfold xw;refine aC (rW) fun v1 hv1=>?_;subst v1;refine aF (fun c1=>?_) (fun c1=>?_)
 ·have c1o:=c1;have c1:=nr c1;refine ak ?_;(unfold kQ; rw [c1o]; rfl)
 ·have c1o:=c1;have c1:=nr c1;have hv:=kD (r:=r_) (by simpa using c1o);refine aC (DU) fun v2 hv2=>?_;subst v2;refine aF (fun c2=>?_) (fun c2=>?_)
  ·have c2o:=c2;have c2:=nr c2;refine ak ?_;(unfold kQ; rw [c1o,c2o]; rfl)
  ·have c2o:=c2;have c2:=nr c2;have hk:1≤k_∧k_≤64:=(by simp [pO] at c2o; omega);have hg:=sP k_ r_.Den (by omega);have q1:=tdiv_le k_ _ (by omega) hg;have q2:=tdiv_le r_.Den _ (by omega) hg;have q4:=ZU k_ r_.Den hk (by omega);have q5:=tdiv_le 144115188075855872 _ (by omega) (show 0<k_.tdiv (fP k_ r_.Den) by omega);refine aC (uo ob ob) fun v3 hv3=>?_;subst v3;refine wn ?_;refine wn ?_;refine aF (fun c3=>?_) (fun c3=>?_)
   ·have c3o:=c3;have c3:=nr c3;refine ak ?_;(unfold kQ; rw [c1o,c2o,c3o]; rfl)
   ·have c3o:=c3;have c3:=nr c3;have q3:=Vn r_.Num (k_.tdiv (fP k_ r_.Den)) hv.1 q4.1 (by omega);refine wn ?_;refine wn ?_;refine wn ?_;refine aC (J6 ob ob) fun v4 hv4=>?_;subst v4;refine ak ?_;(unfold kQ; rw [c1o,c2o,c3o]; rfl)
theorem fQ {l_:(List av)} {s_:(List Int)} {g1:(Int×(List aP)×(List Bool))} {self1:(Int×(List aP)×(List Bool))→M ((List aP)×(List Bool))} {g7:(Bool×Int×Int)} {Q:((List aP)×(List Bool))→Prop} (ihg1:∀s':(Int×(List aP)×(List Bool)),(0≤s'.1∧s'.1≤l_.length∧s'.2.1=(I5 l_ s_ s'.1.toNat).1∧s'.2.2=(I5 l_ s_ s'.1.toNat).2)→(l_.length - s'.1).toNat<(l_.length - g1.1).toNat→W (self1 s') Q) (hc:0≤g1.1∧g1.1<l_.length∧l_.length≤1000∧g1.2.1=(I5 l_ s_ g1.1.toNat).1∧g1.2.2=(I5 l_ s_ g1.1.toNat).2∧((⟨g7.2.1,g7.2.2⟩:aP),g7.1)=(st1 (I5 l_ s_ g1.1.toNat).1 (I5 l_ s_ g1.1.toNat).2 (l_.getD g1.1.toNat ay) (s_.getD g1.1.toNat 0))):W (fF g1 self1 g7) Q:=by
 obtain ⟨hc_1,hc_2,hc_3,hc_4,hc_5,hc_6⟩:=hc;unfold fF;refine bU (by (rw [hc_4,(G8 l_ s_ g1.1.toNat).1]; unfold big; omega)) ?_;refine bU (by (rw [hc_5,(G8 l_ s_ g1.1.toNat).2]; unfold big; omega)) ?_;refine wn ?_;refine ihg1 _ ?_ ?_
 ·(refine ⟨by exact ob,by exact ob,?_,?_⟩; (dsimp only; rw [show (g1.1+1).toNat=g1.1.toNat+1 by omega,I5,← hc_6,← hc_4]); (dsimp only; rw [show (g1.1+1).toNat=g1.1.toNat+1 by omega,I5,← hc_6,← hc_5]))
 ·exact ob
theorem Mx {l_:(List av)} {s_:(List Int)} (h1:Good l_ s_) (h2:Up l_ s_):W (vk l_ s_) (fun r=>r=KW l_ s_):=by
 obtain ⟨q1,q2,q3,q4,q5⟩:=h1;unfold vk;refine aW (fun (g1:(Int×(List aP)×(List Bool)))=>0≤g1.1∧g1.1≤l_.length∧g1.2.1=(I5 l_ s_ g1.1.toNat).1∧g1.2.2=(I5 l_ s_ g1.1.toNat).2) (fun (g1:(Int×(List aP)×(List Bool)))=>(l_.length - g1.1).toNat) ?_ ?_
 ·intro self1 g1 hig1 ihg1;obtain ⟨hg1_1,hg1_2,hg1_3,hg1_4⟩:=hig1;unfold Bu;have hst:=G8 l_ s_ g1.1.toNat;refine aF (fun c1=>?_) (fun c1=>?_)
  ·have c1:=nr c1;have hch:=q3 g1.1.toNat (by omega);have hpar:=q5 g1.1.toNat (by omega);have hpc:=q4 g1.1.toNat (by omega);have hui:=h2 g1.1.toNat (by omega);refine wn ?_;refine wn ?_;refine aC (Mw ob) fun v18 hv18=>?_;subst v18;refine aF (fun c2=>?_) (fun c2=>?_)
   ·have c2:=nr c2;refine wn ?_;refine wn ?_;unfold jV;refine wn ?_;refine wn ?_;refine aF (fun c3=>?_) (fun c3=>?_)
    ·have c3o:=c3;have c3:=nr c3;exact fQ (l_:=l_) (s_:=s_) (fun a b c=>ihg1 a b c) (by (exfalso; have:=(show parF (l_.getD g1.1.toNat ay) (s_.getD g1.1.toNat 0) = -1 by unfold parF; rw [c3o]; rfl); omega))
    ·have c3o:=c3;have c3:=nr c3;refine aF (fun c4=>?_) (fun c4=>?_)
     ·have c4o:=c4;have c4:=nr c4;refine aC (PW) fun v16 hv16=>?_;subst v16;exact fQ (l_:=l_) (s_:=s_) (fun a b c=>ihg1 a b c) (by (refine ⟨by exact ob,by exact ob,by exact ob,hg1_3,hg1_4,?_⟩; dsimp only; unfold st1; rw [c3o,c4o,← hg1_3,← hg1_4]; rfl))
     ·have c4o:=c4;have c4:=nr c4;refine aF (fun c5=>?_) (fun c5=>?_)
      ·have c5o:=c5;have c5:=nr c5;refine aC (ND) fun v17 hv17=>?_;subst v17;exact fQ (l_:=l_) (s_:=s_) (fun a b c=>ihg1 a b c) (by (refine ⟨by exact ob,by exact ob,by exact ob,hg1_3,hg1_4,?_⟩; dsimp only; unfold st1; rw [c3o,c4o,c5o,← hg1_3,← hg1_4]; rfl))
      ·have c5o:=c5;have c5:=nr c5;refine aF (fun c6=>?_) (fun c6=>?_)
       ·have c6o:=c6;have c6:=nr c6;refine aF (fun c7=>?_) (fun c7=>?_)
        ·have c7o:=c7;have c7:=nr c7;exact fQ (l_:=l_) (s_:=s_) (fun a b c=>ihg1 a b c) (by (refine ⟨by exact ob,by exact ob,by exact ob,hg1_3,hg1_4,?_⟩; dsimp only; unfold st1; rw [c3o,c4o,c5o,c6o,c7o,← hg1_3,← hg1_4]; rfl))
        ·have c7o:=c7;have c7:=nr c7;exact fQ (l_:=l_) (s_:=s_) (fun a b c=>ihg1 a b c) (by (refine ⟨by exact ob,by exact ob,by exact ob,hg1_3,hg1_4,?_⟩; dsimp only; unfold st1; rw [c3o,c4o,c5o,c6o,c7o,← hg1_3,← hg1_4]; rfl))
       ·have c6o:=c6;have c6:=nr c6;exact fQ (l_:=l_) (s_:=s_) (fun a b c=>ihg1 a b c) (by (refine ⟨by exact ob,by exact ob,by exact ob,hg1_3,hg1_4,?_⟩; dsimp only; unfold st1; rw [c3o,c4o,c5o,c6o,← hg1_3,← hg1_4]; rfl))
   ·have c2:=nr c2;unfold jV;refine wn ?_;refine wn ?_;refine aF (fun c8=>?_) (fun c8=>?_)
    ·have c8o:=c8;have c8:=nr c8;exact fQ (l_:=l_) (s_:=s_) (fun a b c=>ihg1 a b c) (by (refine ⟨by exact ob,by exact ob,by exact ob,hg1_3,hg1_4,?_⟩; dsimp only; unfold st1; rw [c8o]; rfl))
    ·have c8o:=c8;have c8:=nr c8;exfalso; have:=hui (by simpa using c8o); omega
  ·have c1:=nr c1;refine ak ?_;(unfold KW; rw [hg1_3,hg1_4,show g1.1.toNat=l_.length by omega])
 ·(refine ⟨by exact ob,by exact ob,rfl,rfl⟩)
end Go.Proofs.YtfblhejmclcdmaaGreatDoor

namespace Go.Proofs.YtfblhejmclcdmaaGreatDoor
open Go.Ab
set_option maxRecDepth 100000
def ownY (r:List aP) (on:List Bool) (l:List av) (j:Nat):Bool:=((on.getD j false)&&((l.getD j ay).High != 0))&&!nN (r.getD j bZ) (l.getD j ay).Low (l.getD j ay).High
def XM (l:List av) (st:List aP×List Bool):Bool:=(List.range l.length).all fun i=>!ownY st.1 st.2 l i
def fitX (st:List aP×List Bool) (x:bn):Bool:=!(st.2.getD x.Clock.toNat false)||!nN (st.1.getD x.Clock.toNat bZ) x.Low x.High
def FH (l:List av) (s:List Int) (m:List bn):Bool:=!m.any (fitX (KW l s))&&XM l (KW l s)
def VS (l:List av) (s:List Int):Prop:=s.length=l.length∧∀i,i<l.length→0≤s.getD i 0∧s.getD i 0<(l.getD i ay).Choices.length
def qG:List av→Nat
 | []=>1
 | c::l=>c.Choices.length*qG l
def zo:List av→List Int→Nat
 | c::l,x::t=>x.toNat*qG l+zo l t
 | _,_=>0
theorem PX {c:av} {l:List av} {s:List Int} (h:VS (c::l) s):∃x t,s=x::t∧0≤x∧x<c.Choices.length∧VS l t:=by
 obtain ⟨h1,h2⟩:=h;cases s with
 | nil=>cases h1
 | cons x t=>
  have h0:=h2 0 (by simp);exact ⟨x,t,rfl,h0.1,h0.2,by simpa using h1,fun i hi=>h2 (i+1) (by simpa using hi)⟩
theorem TH {l:List av}:∀ {s:List Int},VS l s→zo l s<qG l:=by
 induction l with
 | nil=>intro s _; cases s<;>simp [zo,qG]
 | cons c l ih=>
  intro s h;obtain ⟨x,t,rfl,h1,h2,h3⟩:=PX h;have:=ih h3;rw [zo,qG];have h4:(x.toNat+1)*qG l≤c.Choices.length*qG l:=Nat.mul_le_mul_right _ (by omega);rw [Nat.add_mul,Nat.one_mul] at h4;omega
theorem XO {l:List av}:∀ {s:List Int},(∀j,j<l.length→s.getD j 0=0)→zo l s=0:=by
 induction l with
 | nil=>intro s _; cases s<;>rfl
 | cons c l ih=>
  intro s h;cases s with
  | nil=>rfl
  | cons x t=>
   have h0:=h 0 (by simp);have h0:x=0:=h0;rw [zo,h0,ih fun j hj=>h (j+1) (by simpa using hj)];simp
theorem Y1 {l:List av}:∀ {s:List Int},VS l s→(∀j,j<l.length→s.getD j 0+1=(l.getD j ay).Choices.length)→zo l s+1=qG l:=by
 induction l with
 | nil=>intro s h _; cases s<;>rfl
 | cons c l ih=>
  intro s hv h;obtain ⟨x,t,rfl,h1,h2,h3⟩:=PX hv;have h0:x+1=c.Choices.length:=h 0 (by simp);have:=ih h3 fun j hj=>h (j+1) (by simpa using hj);rw [zo,qG,show c.Choices.length=x.toNat+1 by omega,Nat.add_mul,Nat.one_mul];omega
theorem XP {l:List av}:∀ {s t:List Int} {k:Nat},VS l s→k<l.length→t.length=l.length→(∀j,j<k→t.getD j 0=s.getD j 0)→t.getD k 0=s.getD k 0+1→(∀j,k<j→j<l.length→t.getD j 0=0∧s.getD j 0+1=(l.getD j ay).Choices.length)→zo l t=zo l s+1:=by
 induction l with
 | nil=>intro s t k _ h; exact absurd h (Nat.not_lt_zero _)
 | cons c l ih=>
  intro s t k hv hk hl h1 h2 h3;obtain ⟨x,s,rfl,g1,g2,g3⟩:=PX hv;cases t with
  | nil=>cases hl
  | cons y t=>
   cases k with
   | zero=>
    have h2:y=x+1:=h2;have e1:=XO (l:=l) (s:=t) fun j hj=>(h3 (j+1) (by omega) (by simpa using hj)).1;have e2:=Y1 g3 fun j hj=>(h3 (j+1) (by omega) (by simpa using hj)).2;rw [zo,zo,e1,h2,show (x+1).toNat=x.toNat+1 by omega,Nat.add_mul,Nat.one_mul];omega
   | succ k=>
    have h0:y=x:=h1 0 (by omega);have:=ih g3 (by simpa using hk) (by simpa using hl) (fun j hj=>h1 (j+1) (by omega)) h2 (fun j a b=>h3 (j+1) (by omega) (by simpa using b));rw [zo,zo,h0,this];omega
theorem Y2 {l:List av} {s t:List Int} {k:Nat} (hv:VS l s) (hk:k<l.length) (hl:t.length=l.length) (h1:∀j,j<k→t.getD j 0=s.getD j 0) (h2:t.getD k 0=s.getD k 0+1) (h3:∀j,k<j→j<l.length→t.getD j 0=0∧s.getD j 0+1=(l.getD j ay).Choices.length) (h4:s.getD k 0+1<(l.getD k ay).Choices.length):VS l t∧zo l t=zo l s+1:=by
 refine ⟨⟨hl,fun i hi=>?_⟩,XP hv hk hl h1 h2 h3⟩;have:=hv.2 i hi;rcases Nat.lt_trichotomy i k with h | h | h
 ·rw [h1 i h]; exact this
 ·subst h; omega
 ·have:=h3 i h hi; omega
theorem Y3 {l:List av} {s:List Int} (h:VS l s):settB l s=true:=by
 unfold settB;rw [h.1,beq_self_eq_true,Bool.true_and,List.all_eq_true];intro i hi;have:=h.2 i (by have:=List.mem_range.1 hi; omega);exact (within_iff _ _ _).2 (by omega)
theorem VG (l:List av) (c:av):qG (l++[c])=qG l*c.Choices.length:=by
 induction l with
 | nil=>simp [qG]
 | cons a l ih=>rw [List.cons_append,qG,qG,ih,Nat.mul_assoc]
theorem VH {l:List av} (h:∀c∈l,1≤c.Choices.length):jh l=Kg (qG l) 1099511627776:=by
 induction l using zV with
 | nil=>rfl
 | append_singleton l c ih=>
  have hc:=h c (by simp);rw [F9,ih fun x hx=>h x (by simp [hx]),VG,Int.natCast_mul];generalize ((qG l:Nat):Int)=a;generalize hb:(c.Choices.length:Int)=b;have hb1:1≤b:=by omega
  unfold Kg;by_cases h1:(1099511627776:Int)<a
  ·have h2:(1099511627776:Int)<a*b:=by
    have:=Int.mul_le_mul_of_nonneg_left hb1 (show 0≤a by omega);omega
   have h3:(1099511627776:Int)≤1099511627776*b:=by omega
   rw [if_pos h1,if_pos h2];split<;>omega
  ·rw [if_neg h1]
theorem size_le {l:List av} (h:Ra l):qG l≤4096:=by
 have hp:=h.prod;rw [VH fun c hc=>by
  obtain ⟨k,hk,rfl⟩:=List.mem_iff_getElem.1 hc;have:=DJ (validC_choices (h.valid k hk));rw [List.getD_eq_getElem?_getD,List.getElem?_eq_getElem hk] at this;simp only [Option.getD_some] at this;omega] at hp
 unfold Kg at hp;split at hp<;>omega
theorem Y4 {l:List av} (h:Ra l):VS l (List.replicate (l.length:Int).toNat 0):=by
 refine ⟨by simp,fun i hi=>?_⟩;have:=DJ (validC_choices (h.valid i hi));rw [Sp.pU];omega
theorem VI {l:List av} {m:List bn} (h:((bif bP l != 0 then bP l else bif !oK l m then 1 else 0) != 0)=false):bP l=0∧oK l m=true:=by
 cases h1:bP l != 0 with
 | true=>rw [h1] at h; simp only [cond_true] at h; rw [h1] at h; cases h
 | false=>
  cases h2:oK l m with
  | false=>rw [h1,h2] at h; cases h
  | true=>exact ⟨by simpa using h1,rfl⟩
theorem Y5 {l:List av} {m:List bn} (h:oK l m=true):∀x∈m,0≤x.Clock∧x.Clock<l.length:=fun x hx=>(Rf (Rl h x hx)).1
theorem DV {r_:aP} {low_:Int} {high_:Int}:W (pG r_ low_ high_) (fun r=>r=nN r_ low_ high_):=by
 unfold pG;refine aC (rW) fun v1 hv1=>?_;subst v1;refine aF (fun c1=>?_) (fun c1=>?_)
 ·have c1o:=c1;have c1:=nr c1;refine ak ?_;(unfold nN; rw [show validR r_=false by simpa using c1o]; rfl)
 ·have c1o:=c1;have c1:=nr c1;have hv:=kD (r:=r_) (by simpa using c1o);have q1:=tdiv_le r_.Num r_.Den hv.1 (by omega);refine wn ?_;refine wn ?_;refine ak ?_;(unfold nN; rw [show validR r_=true by simpa using c1o]; rfl)
theorem RL {l_:(List av)} {r_:(List aP)} {on_:(List Bool)} (h1:l_.length≤1000000) (h2:r_.length=l_.length) (h3:on_.length=l_.length):W (Et l_ r_ on_) (fun r=>r=XM l_ (r_,on_)):=by
 unfold Et;refine aW (fun (g1:Int)=>0≤g1∧g1≤l_.length∧(∀j:Nat,(j:Int)<g1→ownY r_ on_ l_ j=false)) (fun (g1:Int)=>(l_.length - g1).toNat) ?_ ?_
 ·intro self1 g1 hig1 ihg1;obtain ⟨hg1_1,hg1_2,hg1_3⟩:=hig1;unfold GR;refine aF (fun c1=>?_) (fun c1=>?_)
  ·have c1:=nr c1;refine wn ?_;refine wn ?_;refine wn ?_;refine aC (d9 fun hc=>jR (DV)) fun v3 hv3=>?_;subst v3;refine aF (fun c2=>?_) (fun c2=>?_)
   ·have c2o:=c2;have c2:=nr c2;refine ak ?_;(unfold XM; rw [wz (i:=g1.toNat) (by omega) (by rw [show ownY r_ on_ l_ g1.toNat=true from c2o]; rfl)])
   ·have c2o:=c2;have c2:=nr c2;refine wn ?_;refine ihg1 _ ?_ ?_
    ·(refine ⟨by exact ob,by exact ob,fH hg1_3 hg1_1 c2o⟩)
    ·exact ob
  ·have c1:=nr c1;refine ak ?_;(unfold XM; rw [rT fun j hj=>(by rw [hg1_3 j (by omega)]; rfl)])
 ·(refine ⟨by exact ob,by exact ob,fun j hj=>by omega⟩)
theorem PY {l_:(List av)} {s_:(List Int)} {m_:(List bn)} (h1:Good l_ s_) (h2:Up l_ s_) (h3:m_.length≤1000000) (h4:∀x∈m_,0≤x.Clock∧x.Clock<l_.length):W (Ac l_ s_ m_) (fun r=>r=FH l_ s_ m_):=by
 have hsm:=h1.small;have hst:=G8 l_ s_ l_.length;unfold Ac;refine aC (Mx ob ob) fun v1 hv1=>?_;subst v1;have hs1:(KW l_ s_).1.length=l_.length:=hst.1;have hs2:(KW l_ s_).2.length=l_.length:=hst.2;refine aW (fun (g1:Int)=>0≤g1∧g1≤m_.length∧(m_.drop g1.toNat).any (fitX (KW l_ s_))=m_.any (fitX (KW l_ s_))) (fun (g1:Int)=>(m_.length - g1).toNat) ?_ ?_
 ·intro self1 g1 hig1 ihg1;obtain ⟨hg1_1,hg1_2,hg1_3⟩:=hig1;unfold Fq;refine aF (fun c1=>?_) (fun c1=>?_)
  ·have c1:=nr c1;have hlt:g1.toNat<m_.length:=(by omega);have hx:=h4 _ (getD_in (i:=g1.toNat) cB hlt);rw [drop_cons cB hlt,List.any_cons] at hg1_3;refine wn ?_;refine wn ?_;refine wn ?_;refine aC (d9 fun hc=>jR (DV)) fun v4 hv4=>?_;subst v4;refine aF (fun c2=>?_) (fun c2=>?_)
   ·have c2o:=c2;have c2:=nr c2;refine ak ?_;(unfold FH; rw [← hg1_3,show fitX (KW l_ s_) (m_.getD g1.toNat cB)=true from c2o]; rfl)
   ·have c2o:=c2;have c2:=nr c2;refine wn ?_;refine ihg1 _ ?_ ?_
    ·(refine ⟨by exact ob,by exact ob,?_⟩; rw [← hg1_3,show fitX (KW l_ s_) (m_.getD g1.toNat cB)=false from c2o,show (g1+1).toNat=g1.toNat+1 by omega]; rfl)
    ·exact ob
  ·have c1:=nr c1;refine aC (RL ob ob ob) fun v5 hv5=>?_;subst v5;refine ak ?_;(unfold FH; rw [← hg1_3,show g1.toNat=m_.length by omega,List.drop_length]; rfl)
 ·(refine ⟨by exact ob,by exact ob,rfl⟩)
theorem Ht {l_:(List av)} {s_:(List Int)} (h1:l_.length≤1000) (h2:VS l_ s_) (h3:∀i,i<l_.length→(l_.getD i ay).Choices.length≤1000000):W (Ad l_ s_) (fun r=>r.2=true→VS l_ r.1∧zo l_ r.1=zo l_ s_+1):=by
 obtain ⟨hsl,hsv⟩:=id h2;unfold Ad;refine wn ?_;refine wn ?_;refine aW (fun (g1:(Int×(List Int))) => -1≤g1.1∧g1.1<l_.length∧g1.2.length=l_.length∧(∀j:Nat,(j:Int)≤g1.1→g1.2.getD j 0=s_.getD j 0)∧(∀j:Nat,g1.1<(j:Int)→j<l_.length→g1.2.getD j 0=0∧s_.getD j 0+1=(l_.getD j ay).Choices.length)) (fun (g1:(Int×(List Int)))=>(g1.1+1).toNat) ?_ ?_
 ·intro self1 g1 hig1 ihg1;obtain ⟨hg1_1,hg1_2,hg1_3,hg1_4,hg1_5⟩:=hig1;unfold Fu;refine aF (fun c1=>?_) (fun c1=>?_)
  ·have c1:=nr c1;have hv:=hsv g1.1.toNat (by omega);have hc:=h3 g1.1.toNat (by omega);have he:=hg1_4 g1.1.toNat (by omega);have hgs:(g1.2.set g1.1.toNat (g1.2.getD g1.1.toNat 0+1)).getD g1.1.toNat 0=s_.getD g1.1.toNat 0+1:=(by rw [Sp.dA,if_pos ⟨rfl,by omega⟩,he]);have hgo:∀j,j≠g1.1.toNat→(g1.2.set g1.1.toNat (g1.2.getD g1.1.toNat 0+1)).getD j 0=g1.2.getD j 0:=fun j hj=>(by rw [Sp.dA,if_neg (fun e=>hj e.1)])
   refine wn ?_;refine wn ?_;refine wn ?_;unfold xY;refine wn ?_;refine wn ?_;refine aF (fun c2=>?_) (fun c2=>?_)
   ·have c2:=nr c2;rw [hgs] at c2;refine ak ?_;(intro _; exact Y2 h2 (k:=g1.1.toNat) (by omega) (by simpa using hg1_3) (fun j hj=>by rw [hgo j (by omega)]; exact hg1_4 j (by omega)) hgs (fun j h1 h2=>by rw [hgo j (by omega)]; exact hg1_5 j (by omega) h2) c2)
   ·have c2:=nr c2;rw [hgs] at c2;refine wn ?_;refine wn ?_;refine ihg1 _ ?_ ?_
    ·(refine ⟨by exact ob,by exact ob,by simpa using hg1_3,fun j hj=>?_,fun j h1 h2=>?_⟩; (dsimp only at hj ⊢; rw [Sp.dA,if_neg (by omega),hgo j (by omega)]; exact hg1_4 j (by omega)); (dsimp only at h1 ⊢; rw [Sp.dA]; by_cases q:j=g1.1.toNat; (rw [if_pos ⟨q,by rw [List.length_set]; omega⟩,q]; omega); (rw [if_neg (fun e=>q e.1),hgo j q]; exact hg1_5 j (by omega) h2)))
    ·exact ob
  ·have c1:=nr c1;refine ak ?_;(exact nofun)
 ·(refine ⟨by exact ob,by exact ob,by simpa using hsl,fun j _=>rfl,fun j h1 h2=>by dsimp only at h1; omega⟩)
theorem RN {l_:(List av)} {m_:(List bn)} (h1:bP l_=0) (h2:m_.length≤1000000) (h3:∀x∈m_,0≤x.Clock∧x.Clock<l_.length):W (Eu l_ m_) (fun r=>∀s∈r,settB l_ s=true∧FH l_ s m_=true):=by
 have hf:=G7 h1;have hsz:=size_le hf;have hlen:=hf.len;have hcb:∀i,i<l_.length→(l_.getD i ay).Choices.length≤1000000:=fun i hi=>by have:=hf.big i hi; omega
 unfold Eu;refine wn ?_;refine aW (fun (g1:((List Int)×Bool×(List (List Int))))=>(g1.2.1=true→VS l_ g1.1∧g1.2.2.length≤zo l_ g1.1)∧(∀s∈g1.2.2,settB l_ s=true∧FH l_ s m_=true)) (fun (g1:((List Int)×Bool×(List (List Int))))=>bif g1.2.1 then qG l_ - zo l_ g1.1+1 else 0) ?_ ?_
 ·intro self1 g1 hig1 ihg1;obtain ⟨hg1_1,hg1_2⟩:=hig1;unfold GU;refine aF (fun c1=>?_) (fun c1=>?_)
  ·have c1o:=c1;have c1:=nr c1;obtain ⟨hvs,hln⟩:=hg1_1 c1o;have hset:=Y3 hvs;have hpl:=TH hvs;unfold Ae;refine aC (PY (KV hf hset) (Zt hf hset) h2 h3) fun v9 hv9=>?_;subst v9;refine aF (fun c2=>?_) (fun c2=>?_)
   ·have c2o:=c2;have c2:=nr c2;have hmem:∀s∈g1.2.2++[g1.1],settB l_ s=true∧FH l_ s m_=true:=fun s hs=>by rcases List.mem_append.1 hs with h | h; exact hg1_2 s h; (rw [List.mem_singleton] at h; rw [h]; exact ⟨hset,c2o⟩)
    refine wn ?_;unfold pI;refine aC (Ht (by omega) hvs hcb) fun v8 hv8=>?_;refine ihg1 _ ?_ ?_
    ·(refine ⟨fun e=>⟨(hv8 e).1,by have:=(hv8 e).2; simp only [List.length_append,List.length_singleton]; omega⟩,hmem⟩)
    ·(dsimp only; rw [c1o]; cases e:v8.2 with | true=>(have:=(hv8 e).2; have:=TH (hv8 e).1; simp only [cond_true]; omega) | false=>(simp only [cond_true,cond_false]; omega))
   ·have c2o:=c2;have c2:=nr c2;unfold pI;refine aC (Ht (by omega) hvs hcb) fun v8 hv8=>?_;refine ihg1 _ ?_ ?_
    ·(refine ⟨fun e=>⟨(hv8 e).1,by have:=(hv8 e).2; dsimp only; omega⟩,hg1_2⟩)
    ·(dsimp only; rw [c1o]; cases e:v8.2 with | true=>(have:=(hv8 e).2; have:=TH (hv8 e).1; simp only [cond_true]; omega) | false=>(simp only [cond_true,cond_false]; omega))
  ·have c1o:=c1;have c1:=nr c1;refine ak ?_;(exact hg1_2)
 ·(refine ⟨fun _=>⟨Y4 hf,Nat.zero_le _⟩,nofun⟩)
theorem FI {l_:(List av)} {m_:(List bn)} (h1:l_.length≤1000000) (h2:m_.length≤1000000):W (xA l_ m_) (fun r=>r.2=0→settB l_ r.1=true∧FH l_ r.1 m_=true∧oK l_ m_=true):=by
 unfold xA;refine aC (NC ob ob) fun v1 hv1=>?_;subst v1;refine aF (fun c1=>?_) (fun c1=>?_)
 ·have c1o:=c1;have c1:=nr c1;refine ak ?_;(intro e; exact absurd e c1)
 ·have c1o:=c1;have c1:=nr c1;obtain ⟨b1,b2⟩:=VI c1o;refine aC (RN b1 h2 (Y5 b2)) fun v2 hv2=>?_;refine aF (fun c2=>?_) (fun c2=>?_)
  ·have c2:=nr c2;refine ak ?_;exact ob
  ·have c2:=nr c2;refine wn ?_;refine ak ?_;(intro _; have q:=hv2 _ (getD_in (i:=0) [] (by omega)); exact ⟨q.1,q.2,b2⟩)
end Go.Proofs.YtfblhejmclcdmaaGreatDoor


namespace Go.Proofs.YtfblhejmclcdmaaGreatDoor
open Go.Ab
set_option maxRecDepth 100000
structure MB (s:ByteArray):Prop where
 sz:0<s.size∧s.size≤16
 b0:97≤dJ s 0∧dJ s 0≤122
 bs:∀j:Nat,(j:Int)<s.size→dJ s j=45∨(48≤dJ s j∧dJ s j≤57)∨(97≤dJ s j∧dJ s j≤122)
structure GpV (n:Int) (g:aV):Prop where
 ok:YU n g
 nw:MB g.Name
 so:∀k:Nat,1≤k→(k:Int)<g.bI.length→g.bI.getD (k - 1) 0<g.bI.getD k 0
 fw:∀j:Nat,(j:Int)<g.Functions.length→MB (g.Functions.getD j ByteArray.empty)
 fd:∀k j:Nat,j<k→(k:Int)<g.Functions.length→(g.Functions.getD j ByteArray.empty).toList≠(g.Functions.getD k ByteArray.empty).toList
structure PZ (p:aR):Prop where
 ok:RA p
 gr:∀i:Nat,(i:Int)<p.Groups.length→GpV p.bI (p.Groups.getD i au)
 nm:∀i k:Nat,k<i→(i:Int)<p.Groups.length→(p.Groups.getD k au).Name.toList≠(p.Groups.getD i au).Name.toList
structure RsV (l:List bV):Prop where
 ok:YT l
 so:∀i:Nat,(i:Int)<l.length→∀k:Nat,1≤k→(k:Int)<((l.getD i dReset).After).length→((l.getD i dReset).After).getD (k - 1) 0<((l.getD i dReset).After).getD k 0
structure Uz (b:bF):Prop where
 cl:bP b.bO=0
 su:Sp.bP b.bC=0
 pn:PZ b.bD
 rs:RsV b.Resets
 dm:Tx b.bS
def MC (l:List Int):Prop:=∀i j:Nat,i<j→(j:Int)<l.length→l.getD i 0<l.getD j 0
theorem Z4 {l:List Int} (h:∀k:Nat,1≤k→(k:Int)<l.length→l.getD (k - 1) 0<l.getD k 0):MC l:=by
 intro i j hij;induction j with
 | zero=>omega
 | succ j ih=>
  intro hj;have h1:=h (j+1) (by omega) hj;rw [Nat.add_sub_cancel] at h1;by_cases e:i=j
  ·rw [e]; exact h1
  ·have:=ih (by omega) (by omega); omega
def XQ (p:aR) (x y:Int):Prop:=∀i j:Nat,(i:Int)<(p.Groups.getD x.toNat au).bI.length→(j:Int)<(p.Groups.getD y.toNat au).bI.length→(p.Groups.getD x.toNat au).bI.getD i 0≠(p.Groups.getD y.toNat au).bI.getD j 0
def Y6 (p:aR) (x:Int) (f:ByteArray):Prop:=∃k:Nat,(k:Int)<(p.Groups.getD x.toNat au).Functions.length∧((p.Groups.getD x.toNat au).Functions.getD k ByteArray.empty).toList=f.toList
structure VJ (p:aR) (l:List ByteArray) (gs:List Int):Prop where
 ir:∀x∈gs,0≤x∧x<p.Groups.length
 off:∀k:Nat,(k:Int)<gs.length→Y6 p (gs.getD k 0) (l.getD k ByteArray.empty)
 dj:∀k j:Nat,j<k→(k:Int)<gs.length→XQ p (gs.getD j 0) (gs.getD k 0)
def XR (l:List bV) (s:List Bool):Prop:=∀i:Nat,(i:Int)<l.length→s.getD i false=true→∀x∈(l.getD i dReset).After,s.getD x.toNat false=true
structure XT (l:List bH) (s:List Bool):Prop where
 al:∀i:Nat,(i:Int)<l.length→(l.getD i dD).Always=true→s.getD i false=true
 pa:∀i:Nat,(i:Int)<l.length→s.getD i false=true→0≤(l.getD i dD).Parent→s.getD (l.getD i dD).Parent.toNat false=true
theorem Ar {l:List Bool} {i j:Nat} (h:l.getD i false=true∨i=j) (hj:j<l.length):(l.set j true).getD i false=true:=by
 by_cases e:i=j
 ·subst e; rw [List.getD_eq_getElem?_getD,List.getElem?_set_self hj]; rfl
 ·rw [List.getD_eq_getElem?_getD,List.getElem?_set_ne (Ne.symm e),← List.getD_eq_getElem?_getD]; exact h.resolve_right e
theorem rX {l:List Bool} {i j:Nat} {b:Bool} (h:i≠j):(l.set j b).getD i false=l.getD i false:=by
 rw [List.getD_eq_getElem?_getD,List.getElem?_set_ne (Ne.symm h),← List.getD_eq_getElem?_getD]
theorem KY {l:List Bool} {j:Nat} {b:Bool} (hj:j<l.length):(l.set j b).getD j false=b:=by
 rw [List.getD_eq_getElem?_getD,List.getElem?_set_self hj]; rfl
theorem FJ {s_:ByteArray}:W (lT s_) (fun r=>r=true→MB s_):=by
 unfold lT;refine bU (by (intro hc; simp only [Bool.or_eq_false_iff,beq_eq_false_iff_ne] at hc; omega)) ?_;refine bU (by (intro hc; simp only [Bool.or_eq_false_iff,beq_eq_false_iff_ne] at hc; omega)) ?_;refine aF (fun c1=>?_) (fun c1=>?_)
 ·have c1o:=c1;have c1:=nr c1;refine ak ?_;exact ob
 ·have c1o:=c1;have c1:=nr c1;have hsz:s_.size≤16:=(by simp only [Bool.or_eq_false_iff] at c1o; have:=of_decide_eq_false c1o.1.1.2; omega);refine aW (fun (g1:Int)=>0≤g1∧(∀j:Nat,(j:Int)<g1→dJ s_ j=45∨(48≤dJ s_ j∧dJ s_ j≤57)∨(97≤dJ s_ j∧dJ s_ j≤122))) (fun (g1:Int)=>(s_.size - g1).toNat) ?_ ?_
  ·intro self1 g1 hig1 ihg1;obtain ⟨hg1_1,hg1_2⟩:=hig1;unfold xZ;refine aF (fun c2=>?_) (fun c2=>?_)
   ·have c2:=nr c2;refine wn ?_;refine wn ?_;refine wn ?_;refine wn ?_;refine wn ?_;refine aF (fun c3=>?_) (fun c3=>?_)
    ·have c3:=nr c3;refine ak ?_;exact ob
    ·have c3:=nr c3;refine wn ?_;refine ihg1 _ ?_ ?_
     ·(refine ⟨by exact ob,fH hg1_2 hg1_1 (by omega)⟩)
     ·exact ob
   ·have c2:=nr c2;refine ak ?_;(intro _; exact ⟨by omega,by omega,fun j hj=>hg1_2 j (by omega)⟩)
  ·(refine ⟨by exact ob,fun j hj=>by (try dsimp only at hj); omega⟩)
theorem ME {p_:aR} {i_:Int} (h1:0≤i_) (h2:i_<p_.Groups.length) (h3:p_.Groups.length≤1000000) (h4:∀g∈p_.Groups,g.bI.length≤1000000∧g.Functions.length≤1000000):W (oI p_ i_) (fun r=>r=0→GpV p_.bI (p_.Groups.getD i_.toNat au)∧∀k:Nat,(k:Int)<i_→(p_.Groups.getD k au).Name.toList≠(p_.Groups.getD i_.toNat au).Name.toList):=by
 have hgl:=h4 _ (getD_in (i:=i_.toNat) au (by omega));unfold oI;refine wn ?_;refine aC (FJ) fun v1 hv1=>?_;refine aF (fun c1=>?_) (fun c1=>?_)
 ·have c1o:=c1;have c1:=nr c1;refine ak ?_;exact ob
 ·have c1o:=c1;have c1:=nr c1;refine aW (fun (g1:Int)=>0≤g1∧(∀k:Nat,(k:Int)<g1→(p_.Groups.getD k au).Name.toList≠(p_.Groups.getD i_.toNat au).Name.toList)) (fun (g1:Int)=>(i_ - g1).toNat) ?_ ?_
  ·intro self1 g1 hig1 ihg1;obtain ⟨hg1_1,hg1_2⟩:=hig1;unfold vZ;refine aF (fun c2=>?_) (fun c2=>?_)
   ·have c2:=nr c2;refine wn ?_;refine aF (fun c3=>?_) (fun c3=>?_)
    ·have c3:=nr c3;refine ak ?_;exact ob
    ·have c3:=nr c3;refine wn ?_;refine ihg1 _ ?_ ?_
     ·(refine ⟨by exact ob,fH hg1_2 hg1_1 c3⟩)
     ·exact ob
   ·have c2:=nr c2;refine aF (fun c4=>?_) (fun c4=>?_)
    ·have c4:=nr c4;refine ak ?_;exact ob
    ·have c4:=nr c4;refine aF (fun c5=>?_) (fun c5=>?_)
     ·have c5:=nr c5;refine ak ?_;exact ob
     ·have c5:=nr c5;refine aW (fun (g2:Int)=>0≤g2∧(∀j:Nat,(j:Int)<g2→0≤(p_.Groups.getD i_.toNat au).bI.getD j 0∧(p_.Groups.getD i_.toNat au).bI.getD j 0<p_.bI)) (fun (g2:Int)=>((p_.Groups.getD i_.toNat au).bI.length - g2).toNat) ?_ ?_
      ·intro self2 g2 hig2 ihg2;obtain ⟨hg2_1,hg2_2⟩:=hig2;unfold tX;refine aF (fun c6=>?_) (fun c6=>?_)
       ·have c6:=nr c6;refine wn ?_;refine wn ?_;refine aF (fun c7=>?_) (fun c7=>?_)
        ·have c7:=nr c7;refine ak ?_;exact ob
        ·have c7:=nr c7;refine wn ?_;refine ihg2 _ ?_ ?_
         ·(refine ⟨by exact ob,fH hg2_2 hg2_1 (by omega)⟩)
         ·exact ob
       ·have c6:=nr c6;refine aW (fun (g3:Int)=>1≤g3∧(∀k:Nat,1≤k→(k:Int)<g3→(p_.Groups.getD i_.toNat au).bI.getD (k - 1) 0<(p_.Groups.getD i_.toNat au).bI.getD k 0)) (fun (g3:Int)=>((p_.Groups.getD i_.toNat au).bI.length - g3).toNat) ?_ ?_
        ·intro self3 g3 hig3 ihg3;obtain ⟨hg3_1,hg3_2⟩:=hig3;unfold tV;refine aF (fun c8=>?_) (fun c8=>?_)
         ·have c8:=nr c8;refine wn ?_;refine wn ?_;refine wn ?_;refine aF (fun c9=>?_) (fun c9=>?_)
          ·have c9:=nr c9;refine ak ?_;exact ob
          ·have c9:=nr c9;refine wn ?_;refine ihg3 _ ?_ ?_
           ·(refine ⟨by exact ob,fun k hk1 hk2=>?_⟩; by_cases q:(k:Int)<g3; (exact hg3_2 k hk1 q); (have e:k=g3.toNat:=by omega); subst e; rw [show g3.toNat - 1=(g3 - 1).toNat by omega]; omega)
           ·exact ob
         ·have c8:=nr c8;refine aW (fun (g4:Int)=>0≤g4∧(∀j:Nat,(j:Int)<g4→MB ((p_.Groups.getD i_.toNat au).Functions.getD j ByteArray.empty))) (fun (g4:Int)=>((p_.Groups.getD i_.toNat au).Functions.length - g4).toNat) ?_ ?_
          ·intro self4 g4 hig4 ihg4;obtain ⟨hg4_1,hg4_2⟩:=hig4;unfold tT;refine aF (fun c10=>?_) (fun c10=>?_)
           ·have c10:=nr c10;refine wn ?_;refine aC (FJ) fun v4 hv4=>?_;refine aF (fun c11=>?_) (fun c11=>?_)
            ·have c11o:=c11;have c11:=nr c11;refine ak ?_;exact ob
            ·have c11o:=c11;have c11:=nr c11;refine wn ?_;refine ihg4 _ ?_ ?_
             ·(refine ⟨by exact ob,fH hg4_2 hg4_1 (hv4 (by simpa using c11o))⟩)
             ·exact ob
           ·have c10:=nr c10;refine aW (fun (g5:Int)=>0≤g5∧(∀k j:Nat,j<k→(k:Int)<g5→((p_.Groups.getD i_.toNat au).Functions.getD j ByteArray.empty).toList≠((p_.Groups.getD i_.toNat au).Functions.getD k ByteArray.empty).toList)) (fun (g5:Int)=>((p_.Groups.getD i_.toNat au).Functions.length - g5).toNat) ?_ ?_
            ·intro self5 g5 hig5 ihg5;obtain ⟨hg5_1,hg5_2⟩:=hig5;unfold tQ;refine aF (fun c12=>?_) (fun c12=>?_)
             ·have c12:=nr c12;refine aW (fun (g8:Int)=>0≤g8∧(∀j:Nat,(j:Int)<g8→((p_.Groups.getD i_.toNat au).Functions.getD j ByteArray.empty).toList≠((p_.Groups.getD i_.toNat au).Functions.getD g5.toNat ByteArray.empty).toList)) (fun (g8:Int)=>(g5 - g8).toNat) ?_ ?_
              ·intro self8 g8 hig8 ihg8;obtain ⟨hg8_1,hg8_2⟩:=hig8;unfold tO;refine aF (fun c13=>?_) (fun c13=>?_)
               ·have c13:=nr c13;refine wn ?_;refine wn ?_;refine aF (fun c14=>?_) (fun c14=>?_)
                ·have c14:=nr c14;refine ak ?_;exact ob
                ·have c14:=nr c14;refine wn ?_;refine ihg8 _ ?_ ?_
                 ·(refine ⟨by exact ob,fH hg8_2 hg8_1 c14⟩)
                 ·exact ob
               ·have c13:=nr c13;refine wn ?_;refine ihg5 _ ?_ ?_
                ·(refine ⟨by exact ob,fun k j hj hk=>?_⟩; by_cases q:(k:Int)<g5; (exact hg5_2 k j hj q); (have e:k=g5.toNat:=by omega); subst e; exact hg8_2 j (by omega))
                ·exact ob
              ·(refine ⟨by exact ob,fun j hj=>by (try dsimp only at hj); omega⟩)
             ·have c12:=nr c12;refine ak ?_;(intro _; exact ⟨⟨⟨by omega,by omega,jW 0 fun j hj=>hg2_2 j (by omega)⟩,hv1 (by simpa using c1o),fun k h1 h2=>hg3_2 k h1 (by omega),fun j hj=>hg4_2 j (by omega),fun k j h1 h2=>hg5_2 k j h1 (by omega)⟩,fun k hk=>hg1_2 k (by omega)⟩)
            ·(refine ⟨by exact ob,fun k j h1 h2=>by omega⟩)
          ·(refine ⟨by exact ob,fun j hj=>by (try dsimp only at hj); omega⟩)
        ·(refine ⟨by exact ob,fun k h1 h2=>by omega⟩)
      ·(refine ⟨by exact ob,fun j hj=>by (try dsimp only at hj); omega⟩)
  ·(refine ⟨by exact ob,fun j hj=>by (try dsimp only at hj); omega⟩)
theorem MF {p_:aR} (h1:∀g∈p_.Groups,g.bI.length≤1000000∧g.Functions.length≤1000000):W (lU p_) (fun r=>r=0→PZ p_):=by
 unfold lU;refine aF (fun c1=>?_) (fun c1=>?_)
 ·have c1:=nr c1;refine ak ?_;exact ob
 ·have c1:=nr c1;refine aF (fun c2=>?_) (fun c2=>?_)
  ·have c2:=nr c2;refine ak ?_;exact ob
  ·have c2:=nr c2;refine aW (fun (g1:Int)=>0≤g1∧(∀j:Nat,(j:Int)<g1→GpV p_.bI (p_.Groups.getD j au)∧∀k:Nat,(k:Int)<(j:Int)→(p_.Groups.getD k au).Name.toList≠(p_.Groups.getD j au).Name.toList)) (fun (g1:Int)=>(p_.Groups.length - g1).toNat) ?_ ?_
   ·intro self1 g1 hig1 ihg1;obtain ⟨hg1_1,hg1_2⟩:=hig1;unfold wh;refine aF (fun c3=>?_) (fun c3=>?_)
    ·have c3:=nr c3;refine aC (ME (by omega) (by omega) (by omega) h1) fun v3 hv3=>?_;refine aF (fun c4=>?_) (fun c4=>?_)
     ·have c4o:=c4;have c4:=nr c4;refine ak ?_;(intro e; exact absurd e c4)
     ·have c4o:=c4;have c4:=nr c4;refine wn ?_;refine ihg1 _ ?_ ?_
      ·(refine ⟨by exact ob,fH hg1_2 hg1_1 (by have:=hv3 (by simpa using c4o); exact ⟨this.1,fun k hk=>this.2 k (by omega)⟩)⟩)
      ·exact ob
    ·have c3:=nr c3;refine ak ?_;(intro _; exact ⟨⟨by omega,by omega,jW au fun j hj=>(hg1_2 j (by omega)).1.ok⟩,fun j hj=>(hg1_2 j (by omega)).1,fun i k hk hi=>(hg1_2 i (by omega)).2 k (by omega)⟩)
   ·(refine ⟨by exact ob,fun j hj=>by (try dsimp only at hj); omega⟩)
theorem DW {l_:(List bV)} (h1:∀g∈l_,g.After.length≤1000000):W (lV l_) (fun r=>r=0→RsV l_):=by
 unfold lV;refine aF (fun c1=>?_) (fun c1=>?_)
 ·have c1:=nr c1;refine ak ?_;exact ob
 ·have c1:=nr c1;refine aW (fun (g1:Int)=>0≤g1∧(∀j:Nat,(j:Int)<g1→(∀x∈(l_.getD j dReset).After,0≤x∧x<(j:Int))∧(∀k:Nat,1≤k→(k:Int)<((l_.getD j dReset).After).length→((l_.getD j dReset).After).getD (k - 1) 0<((l_.getD j dReset).After).getD k 0))) (fun (g1:Int)=>(l_.length - g1).toNat) ?_ ?_
  ·intro self1 g1 hig1 ihg1;obtain ⟨hg1_1,hg1_2⟩:=hig1;unfold wu;refine aF (fun c2=>?_) (fun c2=>?_)
   ·have c2:=nr c2;have hgl:=h1 _ (getD_in (i:=g1.toNat) dReset (by omega));refine aW (fun (g6:Int)=>0≤g6∧(∀j:Nat,(j:Int)<g6→0≤(l_.getD g1.toNat dReset).After.getD j 0∧(l_.getD g1.toNat dReset).After.getD j 0<g1)) (fun (g6:Int)=>((l_.getD g1.toNat dReset).After.length - g6).toNat) ?_ ?_
    ·intro self6 g6 hig6 ihg6;obtain ⟨hg6_1,hg6_2⟩:=hig6;unfold wo;refine wn ?_;refine aF (fun c3=>?_) (fun c3=>?_)
     ·have c3:=nr c3;refine wn ?_;refine wn ?_;refine wn ?_;refine wn ?_;refine aF (fun c4=>?_) (fun c4=>?_)
      ·have c4:=nr c4;refine ak ?_;exact ob
      ·have c4:=nr c4;refine wn ?_;refine ihg6 _ ?_ ?_
       ·(refine ⟨by exact ob,fH hg6_2 hg6_1 (by omega)⟩)
       ·exact ob
     ·have c3:=nr c3;refine aW (fun (g7:Int)=>1≤g7∧(∀k:Nat,1≤k→(k:Int)<g7→(l_.getD g1.toNat dReset).After.getD (k - 1) 0<(l_.getD g1.toNat dReset).After.getD k 0)) (fun (g7:Int)=>((l_.getD g1.toNat dReset).After.length - g7).toNat) ?_ ?_
      ·intro self7 g7 hig7 ihg7;obtain ⟨hg7_1,hg7_2⟩:=hig7;unfold uf;refine wn ?_;refine aF (fun c5=>?_) (fun c5=>?_)
       ·have c5:=nr c5;refine wn ?_;refine wn ?_;refine wn ?_;refine wn ?_;refine wn ?_;refine aF (fun c6=>?_) (fun c6=>?_)
        ·have c6:=nr c6;refine ak ?_;exact ob
        ·have c6:=nr c6;refine wn ?_;refine ihg7 _ ?_ ?_
         ·(refine ⟨by exact ob,fun k hk1 hk2=>?_⟩; by_cases q:(k:Int)<g7; (exact hg7_2 k hk1 q); (have e:k=g7.toNat:=by omega); subst e; rw [show g7.toNat - 1=(g7 - 1).toNat by omega]; omega)
         ·exact ob
       ·have c5:=nr c5;refine wn ?_;refine ihg1 _ ?_ ?_
        ·(refine ⟨by exact ob,fH hg1_2 hg1_1 ⟨jW 0 fun j hj=>by have:=hg6_2 j (by omega); omega,fun k h1 h2=>hg7_2 k h1 (by omega)⟩⟩)
        ·exact ob
      ·(refine ⟨by exact ob,fun k h1 h2=>by omega⟩)
    ·(refine ⟨by exact ob,fun j hj=>by (try dsimp only at hj); omega⟩)
   ·have c2:=nr c2;refine ak ?_;(intro _; exact ⟨⟨by omega,fun i hi=>(hg1_2 i (by omega)).1⟩,fun i hi=>(hg1_2 i (by omega)).2⟩)
  ·(refine ⟨by exact ob,fun j hj=>by (try dsimp only at hj); omega⟩)
theorem MG {b_:bF} (h1:Tz b_) (h2:∀g∈b_.bD.Groups,g.bI.length≤1000000∧g.Functions.length≤1000000):W (xK b_) (fun r=>r=0→Uz b_):=by
 obtain ⟨s1,s2,s3,s4,s5,s6,s7⟩:=h1;unfold xK;refine aC (yu s1) fun v1 hv1=>?_;subst v1;refine aF (fun c1=>?_) (fun c1=>?_)
 ·have c1o:=c1;have c1:=nr c1;refine ak ?_;(intro e; exact absurd e c1)
 ·have c1o:=c1;have c1:=nr c1;refine aC (Sp.yt s3) fun v2 hv2=>?_;subst v2;refine aF (fun c2=>?_) (fun c2=>?_)
  ·have c2o:=c2;have c2:=nr c2;refine ak ?_;(intro e; exact absurd e c2)
  ·have c2o:=c2;have c2:=nr c2;refine aC (MF h2) fun v3 hv3=>?_;refine aF (fun c3=>?_) (fun c3=>?_)
   ·have c3o:=c3;have c3:=nr c3;refine ak ?_;(intro e; exact absurd e c3)
   ·have c3o:=c3;have c3:=nr c3;refine aC (DW s6) fun v4 hv4=>?_;refine aF (fun c4=>?_) (fun c4=>?_)
    ·have c4o:=c4;have c4:=nr c4;refine ak ?_;(intro e; exact absurd e c4)
    ·have c4o:=c4;have c4:=nr c4;refine aC (FD) fun v5 hv5=>?_;refine ak ?_;(intro e; exact ⟨by simpa using c1o,by simpa using c2o,hv3 (by simpa using c3o),hv4 (by simpa using c4o),hv5 e⟩)
end Go.Proofs.YtfblhejmclcdmaaGreatDoor

namespace Go.Proofs.YtfblhejmclcdmaaGreatDoor
open Go.Ab
set_option maxRecDepth 100000
def RgK (l:List bH) (s:List Bool) (k:Nat):Prop:=((l.getD k dD).Always=true→s.getD k false=true)∧(s.getD k false=true→0≤(l.getD k dD).Parent→s.getD (l.getD k dD).Parent.toNat false=true)
theorem Hu {s:List Bool} {i j:Nat} {b:Bool} (hi:i<s.length) (h:s.getD j false=true):(s.set i (s.getD i false||b)).getD j false=true:=by
 by_cases e:j=i
 ·subst e; rw [KY hi,h]; rfl
 ·rw [rX e]; exact h
theorem aaG {l:List bH} {s:List Bool} {g:Int} (h0:0≤g) (hs:s.length=l.length) (h:∀k:Nat,g<(k:Int)→(k:Int)<l.length→RgK l s k)
  (hn:¬ ((s.set g.toNat (s.getD g.toNat false||(l.getD g.toNat dD).Always)).getD g.toNat false=true∧0≤(l.getD g.toNat dD).Parent)) {k:Nat} (hk:g≤(k:Int)) (hl:(k:Int)<l.length):RgK l (s.set g.toNat (s.getD g.toNat false||(l.getD g.toNat dD).Always)) k:=by
 by_cases e:k=g.toNat
 ·subst e;refine ⟨fun h1=>?_,fun h1 h2=>absurd ⟨h1,h2⟩ hn⟩;rw [KY (by omega),h1,Bool.or_true]
 ·obtain ⟨h1,h2⟩:=h k (by omega) hl;refine ⟨fun q=>by rw [rX e]; exact h1 q,fun q1 q2=>?_⟩;rw [rX e] at q1;exact Hu (by omega) (h2 q1 q2)
theorem aaH {l:List bH} {s:List Bool} {g:Int} (h0:0≤g) (hs:s.length=l.length) (hp:0≤(l.getD g.toNat dD).Parent∧(l.getD g.toNat dD).Parent<g) (h:∀k:Nat,g<(k:Int)→(k:Int)<l.length→RgK l s k)
  {k:Nat} (hk:g≤(k:Int)) (hl:(k:Int)<l.length):RgK l ((s.set g.toNat (s.getD g.toNat false||(l.getD g.toNat dD).Always)).set (l.getD g.toNat dD).Parent.toNat true) k:=by
 have hne:k≠(l.getD g.toNat dD).Parent.toNat:=by omega
 have hlen:(l.getD g.toNat dD).Parent.toNat<(s.set g.toNat (s.getD g.toNat false||(l.getD g.toNat dD).Always)).length:=by rw [List.length_set]; omega
 by_cases e:k=g.toNat
 ·subst e;refine ⟨fun h1=>?_,fun h1 h2=>KY hlen⟩;rw [rX hne,KY (by omega),h1,Bool.or_true]
 ·obtain ⟨h1,h2⟩:=h k (by omega) hl;refine ⟨fun q=>by rw [rX hne,rX e]; exact h1 q,fun q1 q2=>?_⟩;rw [rX hne,rX e] at q1;exact Ar (.inl (Hu (by omega) (h2 q1 q2))) hlen
theorem MH {p:aR} (h:PZ p) {x:Int} (h0:0≤x) (h1:x<p.Groups.length):MC (p.Groups.getD x.toNat au).bI:=Z4 fun k h2 h3=>(h.gr x.toNat (by omega)).so k h2 h3
theorem J7 {g_:aV} {function_:ByteArray} (h1:g_.Functions.length≤1000000):W (sN g_ function_) (fun r => -1≤r∧r<g_.Functions.length∧(0≤r→(g_.Functions.getD r.toNat ByteArray.empty).toList=function_.toList)∧(r<0→∀k:Nat,(k:Int)<g_.Functions.length→(g_.Functions.getD k ByteArray.empty).toList≠function_.toList)):=by
 unfold sN;refine aW (fun (g1:Int)=>0≤g1∧(∀k:Nat,(k:Int)<g1→(g_.Functions.getD k ByteArray.empty).toList≠function_.toList)) (fun (g1:Int)=>(g_.Functions.length - g1).toNat) ?_ ?_
 ·intro self1 g1 hig1 ihg1;obtain ⟨hg1_1,hg1_2⟩:=hig1;unfold Dv;refine aF (fun c1=>?_) (fun c1=>?_)
  ·have c1:=nr c1;refine wn ?_;refine aF (fun c2=>?_) (fun c2=>?_)
   ·have c2o:=c2;have c2:=nr c2;refine ak ?_;(refine ⟨by omega,by omega,fun _=>by simpa using c2o,fun h=>by omega⟩)
   ·have c2o:=c2;have c2:=nr c2;refine wn ?_;refine ihg1 _ ?_ ?_
    ·(refine ⟨by exact ob,fH hg1_2 hg1_1 (by simpa using c2o)⟩)
    ·exact ob
  ·have c1:=nr c1;refine ak ?_;(refine ⟨by omega,by omega,fun h=>by omega,fun _ k hk=>hg1_2 k (by omega)⟩)
 ·(refine ⟨by exact ob,fun j hj=>by (try dsimp only at hj); omega⟩)
theorem MI {a_:(List Int)} {b_:(List Int)} (h1:a_.length≤1000000) (h2:b_.length≤1000000) (h3:MC a_) (h4:MC b_):W (oJ a_ b_) (fun r=>r=false→∀i j:Nat,(i:Int)<a_.length→(j:Int)<b_.length→a_.getD i 0≠b_.getD j 0):=by
 unfold oJ;refine aW (fun (g1:(Int×Int))=>0≤g1.1∧0≤g1.2∧(∀i j:Nat,(i:Int)<a_.length→(j:Int)<b_.length→((i:Int)<g1.1∨(j:Int)<g1.2)→a_.getD i 0≠b_.getD j 0)) (fun (g1:(Int×Int))=>(a_.length - g1.1).toNat+(b_.length - g1.2).toNat) ?_ ?_
 ·intro self1 g1 hig1 ihg1;obtain ⟨hg1_1,hg1_2,hg1_3⟩:=hig1;unfold wm;refine aF (fun c1=>?_) (fun c1=>?_)
  ·have c1o:=c1;have c1:=nr c1;refine wn ?_;refine wn ?_;refine aF (fun c2=>?_) (fun c2=>?_)
   ·have c2:=nr c2;refine ak ?_;exact ob
   ·have c2:=nr c2;refine wn ?_;refine wn ?_;refine aF (fun c3=>?_) (fun c3=>?_)
    ·have c3:=nr c3;refine wn ?_;refine ihg1 _ ?_ ?_
     ·(refine ⟨by exact ob,by exact ob,fun i j hi hj hc=>?_⟩; by_cases q:(i:Int)<g1.1∨(j:Int)<g1.2; (exact hg1_3 i j hi hj q); (have e:i=g1.1.toNat:=by (try dsimp only at hc); omega); subst e; by_cases e2:j=g1.2.toNat; (subst e2; omega); (have:=h4 g1.2.toNat j (by omega) hj); omega)
     ·exact ob
    ·have c3:=nr c3;refine wn ?_;refine ihg1 _ ?_ ?_
     ·(refine ⟨by exact ob,by exact ob,fun i j hi hj hc=>?_⟩; by_cases q:(i:Int)<g1.1∨(j:Int)<g1.2; (exact hg1_3 i j hi hj q); (have e:j=g1.2.toNat:=by (try dsimp only at hc); omega); subst e; by_cases e2:i=g1.1.toNat; (subst e2; omega); (have:=h3 g1.1.toNat i (by omega) hi); omega)
     ·exact ob
  ·have c1o:=c1;have c1:=nr c1;refine ak ?_;(intro _ i j hi hj; refine hg1_3 i j hi hj ?_; simp only [Bool.and_eq_false_iff,decide_eq_false_iff_not] at c1o; omega)
 ·(refine ⟨by exact ob,by exact ob,fun i j h1 h2 h3=>by (try dsimp only at h3); omega⟩)
theorem NG {p_:aR} {groups_:(List Int)} {g_:Int} (h1:∀g∈p_.Groups,g.bI.length≤1000000∧g.Functions.length≤1000000) (h2:groups_.length≤1000000) (h3:∀x∈groups_,0≤x∧x<p_.Groups.length) (h4:0≤g_) (h5:g_<p_.Groups.length) (h6:PZ p_):W (nX p_ groups_ g_) (fun r=>r=true→∀j:Nat,(j:Int)<groups_.length→XQ p_ (groups_.getD j 0) g_):=by
 have hgl:=h1 _ (getD_in (i:=g_.toNat) au (by omega));unfold nX;refine aW (fun (g1:Int)=>0≤g1∧(∀j:Nat,(j:Int)<g1→XQ p_ (groups_.getD j 0) g_)) (fun (g1:Int)=>(groups_.length - g1).toNat) ?_ ?_
 ·intro self1 g1 hig1 ihg1;obtain ⟨hg1_1,hg1_2⟩:=hig1;unfold x9;refine aF (fun c1=>?_) (fun c1=>?_)
  ·have c1:=nr c1;have hx:=h3 _ (getD_in (i:=g1.toNat) 0 (by omega));have hgx:=h1 _ (getD_in (i:=(groups_.getD g1.toNat 0).toNat) au (by omega));refine wn ?_;refine wn ?_;refine wn ?_;refine wn ?_;refine aC (CK fun hc=>MI (by omega) (by omega) (MH h6 hx.1 hx.2) (MH h6 h4 h5)) fun v3 hv3=>?_;refine aF (fun c2=>?_) (fun c2=>?_)
   ·have c2o:=c2;have c2:=nr c2;refine ak ?_;exact ob
   ·have c2o:=c2;have c2:=nr c2;refine wn ?_;refine ihg1 _ ?_ ?_
    ·(refine ⟨by exact ob,fH hg1_2 hg1_1 ?_⟩; rw [decide_eq_true hx.1,Bool.true_and] at c2o; exact hv3 (decide_eq_true hx.1) c2o)
    ·exact ob
  ·have c1:=nr c1;refine ak ?_;(intro _ j hj; exact hg1_2 j (by omega))
 ·(refine ⟨by exact ob,fun j hj=>by (try dsimp only at hj); omega⟩)
theorem Kn {p_:aR} {function_:ByteArray} (h1:∀g∈p_.Groups,g.bI.length≤1000000∧g.Functions.length≤1000000) (h2:p_.Groups.length≤1000000):W (mD p_ function_) (fun r=>r.length≤p_.Groups.length∧∀x∈r,(0≤x∧x<p_.Groups.length)∧Y6 p_ x function_):=by
 unfold mD;refine aW (fun (g1:(Int×(List Int)))=>0≤g1.1∧g1.1≤p_.Groups.length∧(g1.2.length:Int)≤g1.1∧(∀x∈g1.2,(0≤x∧x<p_.Groups.length)∧Y6 p_ x function_)) (fun (g1:(Int×(List Int)))=>(p_.Groups.length - g1.1).toNat) ?_ ?_
 ·intro self1 g1 hig1 ihg1;obtain ⟨hg1_1,hg1_2,hg1_3,hg1_4⟩:=hig1;unfold tY;refine aF (fun c1=>?_) (fun c1=>?_)
  ·have c1:=nr c1;have hgl:=h1 _ (getD_in (i:=g1.1.toNat) au (by omega));refine wn ?_;refine aC (J7 ob) fun v3 hv3=>?_;obtain ⟨hv3_1,hv3_2,hv3_3,hv3_4⟩:=hv3;refine aF (fun c2=>?_) (fun c2=>?_)
   ·have c2:=nr c2;refine wn ?_;refine wn ?_;refine ihg1 _ ?_ ?_
    ·(refine ⟨by exact ob,by exact ob,by exact ob,fun x hx=>?_⟩; rcases List.mem_append.1 hx with hx | hx; (exact hg1_4 x hx); rw [List.mem_singleton] at hx; subst hx; exact ⟨by omega,v3.toNat,by omega,hv3_3 (by omega)⟩)
    ·exact ob
   ·have c2:=nr c2;refine wn ?_;refine ihg1 _ ?_ ?_
    ·exact ob
    ·exact ob
  ·have c1:=nr c1;refine ak ?_;(refine ⟨by omega,hg1_4⟩)
 ·exact ob
theorem XU {p:aR} {l:List ByteArray} {gs:List Int} {x:Int} (h:VJ p l gs) (hx:0≤x∧x<p.Groups.length) (ho:Y6 p x (l.getD gs.length ByteArray.empty)) (hd:∀j:Nat,(j:Int)<gs.length→XQ p (gs.getD j 0) x):VJ p l (gs++[x]):=by
 have e1:∀j:Nat,j<gs.length→(gs++[x]).getD j 0=gs.getD j 0:=fun j hj=>gW 0 hj;have e2:(gs++[x]).getD gs.length 0=x:=gy 0 rfl;refine ⟨fun y hy=>?_,fun k hk=>?_,fun k j hj hk=>?_⟩
 ·rcases List.mem_append.1 hy with hy | hy
  ·exact h.ir y hy
  ·rw [List.mem_singleton] at hy; rw [hy]; exact hx
 ·rw [List.length_append,List.length_singleton] at hk;by_cases q:k<gs.length
  ·rw [e1 k q]; exact h.off k (by omega)
  ·have:k=gs.length:=by omega
   subst this; rw [e2]; exact ho
 ·rw [List.length_append,List.length_singleton] at hk;by_cases q:k<gs.length
  ·rw [e1 k q,e1 j (by omega)]; exact h.dj k j hj (by omega)
  ·have:k=gs.length:=by omega
   subst this; rw [e2,e1 j (by omega)]; exact hd j (by omega)
theorem Ko {p_:aR} {l_:List ByteArray} (h1:∀g∈p_.Groups,g.bI.length≤1000000∧g.Functions.length≤1000000) (h2:p_.Groups.length≤1000000) (h3:l_.length≤1000000) (hp:PZ p_):W (mE p_ l_ []) (fun r=>r.2=true→r.1.length=l_.length∧VJ p_ l_ r.1):=by
 unfold mE;refine aW (fun s:aR×List ByteArray×List Int=>s.1=p_∧s.2.1=l_∧s.2.2.length≤l_.length∧VJ p_ l_ s.2.2) (fun s=>l_.length - s.2.2.length) ?_ ⟨rfl,rfl,Nat.zero_le _,⟨nofun,nofun,nofun⟩⟩;rintro self ⟨p,l,gs⟩ ⟨e1,e2,e3,e4⟩ ih;dsimp only at e1 e2 e3 e4;subst p l;unfold jg;refine aF (fun c1=>?_) (fun c1=>?_)
 ·have c1:=nr c1;refine bU ob (ak ?_);intro _;exact ⟨by dsimp only at c1 ⊢; omega,e4⟩
 ·have c1:=nr c1;refine bU (by dsimp only at c1 ⊢; omega) ?_;refine aC (Kn h1 h2) fun v1 hv1=>?_;obtain ⟨k1,k2⟩:=hv1;refine aW (fun g:Int=>0≤g) (fun g:Int=>(v1.length - g).toNat) ?_ (Int.le_refl _);intro self1 g1 hg1 ih1;unfold tZ;refine aF (fun c2=>?_) (fun c2=>?_)
  ·have c2:=nr c2;have hx:=k2 _ (getD_in (i:=g1.toNat) 0 (by omega));refine wn ?_;refine aC (NG h1 (by dsimp only; omega) (fun x hx=>e4.ir x hx) hx.1.1 hx.1.2 hp) fun v6 h6=>?_;refine aF (fun c3=>?_) (fun c3=>?_)
   ·refine bU ob (ih1 _ (by omega) (by omega))
   ·refine bU ob (bU ob (bU ob ?_));have hl:¬ gs.length=l_.length:=by (try dsimp only at c1); omega
    refine aC (ih _ ⟨rfl,rfl,by (simp only [List.length_append,List.length_singleton]; omega),?_⟩ (by (simp only [List.length_append,List.length_singleton]; omega))) fun v7 hv7=>?_
    ·exact XU e4 hx.1 hx.2 (h6 (by simpa using c3))
    ·refine aF (fun c4=>ak fun _=>hv7 c4) (fun c4=>bU ob (ih1 _ (by omega) (by omega)))
  ·exact ak nofun
theorem Kq {p_:aR} {l_:(List ByteArray)} {given_:(List Int)} (h1:∀g∈p_.Groups,g.bI.length≤1000000∧g.Functions.length≤1000000) (h2:l_.length≤1000000) (h3:p_.Groups.length≤1000000) (h4:PZ p_) (h5:given_=[]):W (mF p_ l_ given_) (fun r=>r.2=0→r.1.length=l_.length∧VJ p_ l_ r.1):=by
 subst given_;unfold mF;refine aC (J4 h1 h2 h3) fun v1 hv1=>?_;refine aF (fun c1=>?_) (fun c1=>?_)
 ·have c1o:=c1;have c1:=nr c1;refine ak ?_;(intro e; exact absurd e c1)
 ·have c1o:=c1;have c1:=nr c1;obtain ⟨q1,q2,q3,q4⟩:=hv1 (by simpa using c1o);refine aC (Ko h1 h3 h2 h4) fun v2 hv2=>?_;refine aF (fun c2=>?_) (fun c2=>?_)
  ·have c2o:=c2;have c2:=nr c2;refine ak ?_;exact ob
  ·have c2o:=c2;have c2:=nr c2;refine ak ?_;(intro _; exact hv2 (by simpa using c2o))
theorem Kr {l_:(List bV)} {lines_:(List Int)} (h1:∀g∈l_,g.After.length≤1000000) (h2:lines_.length≤1000000):W (mG l_ lines_) (fun r=>r.2=0→r.1.length=l_.length∧XR l_ r.1∧∀j:Nat,(j:Int)<lines_.length→r.1.getD (lines_.getD j 0).toNat false=true):=by
 unfold mG;refine aC (DW h1) fun v1 hv1=>?_;refine aF (fun c1=>?_) (fun c1=>?_)
 ·have c1o:=c1;have c1:=nr c1;refine ak ?_;exact ob
 ·have c1o:=c1;have c1:=nr c1;obtain ⟨⟨p1,p2⟩,_⟩:=hv1 (by simpa using c1o);refine wn ?_;refine aW (fun (g1:(Int×(List Bool)))=>0≤g1.1∧g1.2.length=l_.length∧(∀j:Nat,(j:Int)<g1.1→g1.2.getD (lines_.getD j 0).toNat false=true)) (fun (g1:(Int×(List Bool)))=>(lines_.length - g1.1).toNat) ?_ ?_
  ·intro self1 g1 hig1 ihg1;obtain ⟨hg1_1,hg1_2,hg1_3⟩:=hig1;unfold ug;refine aF (fun c2=>?_) (fun c2=>?_)
   ·have c2:=nr c2;refine wn ?_;refine wn ?_;refine aF (fun c3=>?_) (fun c3=>?_)
    ·have c3:=nr c3;refine ak ?_;exact ob
    ·have c3:=nr c3;refine wn ?_;refine wn ?_;refine wn ?_;refine ihg1 _ ?_ ?_
     ·(refine ⟨by exact ob,by exact ob,fun j hj=>Ar ?_ (by omega)⟩; by_cases q:(j:Int)<g1.1; (exact .inl (hg1_3 j q)); (have e:j=g1.1.toNat:=by (try dsimp only at hj); omega); subst e; exact .inr rfl)
     ·exact ob
   ·have c2:=nr c2;refine wn ?_;refine aW (fun (g2:(Int×(List Bool))) => -1≤g2.1∧g2.1<l_.length∧g2.2.length=l_.length∧(∀j:Nat,(j:Int)<lines_.length→g2.2.getD (lines_.getD j 0).toNat false=true)∧(∀i:Nat,g2.1<(i:Int)→(i:Int)<l_.length→g2.2.getD i false=true→∀x∈(l_.getD i dReset).After,g2.2.getD x.toNat false=true)) (fun (g2:(Int×(List Bool)))=>(g2.1+1).toNat) ?_ ?_
    ·intro self2 g2 hig2 ihg2;obtain ⟨hg2_1,hg2_2,hg2_3,hg2_4,hg2_5⟩:=hig2;unfold qU;refine aF (fun c4=>?_) (fun c4=>?_)
     ·have c4:=nr c4;have hgl:=h1 _ (getD_in (i:=g2.1.toNat) dReset (by omega));refine aW (fun (g5:(Int×(List Bool)))=>0≤g5.1∧g5.2.length=l_.length∧(∀j:Nat,(j:Int)<lines_.length→g5.2.getD (lines_.getD j 0).toNat false=true)∧(∀i:Nat,g2.1<(i:Int)→(i:Int)<l_.length→g5.2.getD i false=true→∀x∈(l_.getD i dReset).After,g5.2.getD x.toNat false=true)∧(∀k:Nat,(k:Int)<g5.1→g5.2.getD (((l_.getD g2.1.toNat dReset).After).getD k 0).toNat false=true)) (fun (g5:(Int×(List Bool)))=>((l_.getD g2.1.toNat dReset).After.length - g5.1).toNat) ?_ ?_
      ·intro self5 g5 hig5 ihg5;obtain ⟨hg5_1,hg5_2,hg5_3,hg5_4,hg5_5⟩:=hig5;unfold qR;refine wn ?_;refine wn ?_;refine aF (fun c5=>?_) (fun c5=>?_)
       ·have c5o:=c5;have c5:=nr c5;simp only [Bool.and_eq_true,decide_eq_true_eq] at c5o;have hx:=p2 g2.1.toNat (by omega) _ (getD_in (i:=g5.1.toNat) 0 (by omega));refine wn ?_;refine wn ?_;refine wn ?_;refine wn ?_;refine ihg5 _ ?_ ?_
        ·(refine ⟨by exact ob,by exact ob,fun j hj=>Ar (.inl (hg5_3 j hj)) (by omega),fun i h3 h4 h5 x hx2=>?_,fun k hk=>Ar ?_ (by omega)⟩; (rw [rX (by omega)] at h5; exact Ar (.inl (hg5_4 i h3 h4 h5 x hx2)) (by omega)); by_cases q:(k:Int)<g5.1; (exact .inl (hg5_5 k q)); (have e:k=g5.1.toNat:=by (try dsimp only at hk); omega); subst e; exact .inr rfl)
        ·exact ob
       ·have c5o:=c5;have c5:=nr c5;refine wn ?_;refine ihg2 _ ?_ ?_
        ·(refine ⟨by exact ob,by exact ob,hg5_2,hg5_3,fun i h3 h4 h5=>?_⟩; by_cases q:g2.1<(i:Int); (exact hg5_4 i q h4 h5); (have e:i=g2.1.toNat:=by (try dsimp only at h3); omega); subst e; refine jW 0 fun k hk=>hg5_5 k ?_; rw [h5,Bool.and_true] at c5o; have:=of_decide_eq_false c5o; omega)
        ·exact ob
      ·(refine ⟨by exact ob,hg2_3,hg2_4,hg2_5,fun k hk=>by (try dsimp only at hk); omega⟩)
     ·have c4:=nr c4;refine ak ?_;(intro _; exact ⟨hg2_3,fun i hi=>hg2_5 i (by omega) hi,hg2_4⟩)
    ·(refine ⟨by exact ob,by exact ob,hg1_2,fun j hj=>hg1_3 j (by omega),fun i h1 h2=>by (try dsimp only at h1); omega⟩)
  ·(refine ⟨by exact ob,by simp,fun j hj=>by (try dsimp only at hj); omega⟩)
theorem RO {l_:(List bH)} {users_:(List Int)} (h1:users_.length≤1000000):W (zh l_ users_) (fun r=>r.2=0→r.1.length=l_.length∧XT l_ r.1∧∀j:Nat,(j:Int)<users_.length→r.1.getD (users_.getD j 0).toNat false=true):=by
 unfold zh;refine aC (J5 ob) fun v1 hv1=>?_;refine aF (fun c1=>?_) (fun c1=>?_)
 ·have c1o:=c1;have c1:=nr c1;refine ak ?_;(intro e; exact absurd e c1)
 ·have c1o:=c1;have c1:=nr c1;obtain ⟨⟨p1,p2⟩,p3⟩:=hv1 (by simpa using c1o);refine wn ?_;refine aW (fun (g1:(Int×(List Bool)))=>0≤g1.1∧g1.2.length=l_.length∧(∀j:Nat,(j:Int)<g1.1→g1.2.getD (users_.getD j 0).toNat false=true)) (fun (g1:(Int×(List Bool)))=>(users_.length - g1.1).toNat) ?_ ?_
  ·intro self1 g1 hig1 ihg1;obtain ⟨hg1_1,hg1_2,hg1_3⟩:=hig1;unfold Dx;refine aF (fun c2=>?_) (fun c2=>?_)
   ·have c2:=nr c2;have hx:=p3 _ (getD_in (i:=g1.1.toNat) 0 (by omega));refine wn ?_;refine wn ?_;refine wn ?_;refine ihg1 _ ?_ ?_
    ·(refine ⟨by exact ob,by exact ob,fun j hj=>Ar ?_ (by omega)⟩; by_cases q:(j:Int)<g1.1; (exact .inl (hg1_3 j q)); (have e:j=g1.1.toNat:=by (try dsimp only at hj); omega); subst e; exact .inr rfl)
    ·exact ob
   ·have c2:=nr c2;refine wn ?_;refine aW (fun (g2:(Int×(List Bool))) => -1≤g2.1∧g2.1<l_.length∧g2.2.length=l_.length∧(∀j:Nat,(j:Int)<users_.length→g2.2.getD (users_.getD j 0).toNat false=true)∧(∀i:Nat,g2.1<(i:Int)→(i:Int)<l_.length→RgK l_ g2.2 i)) (fun (g2:(Int×(List Bool)))=>(g2.1+1).toNat) ?_ ?_
    ·intro self2 g2 hig2 ihg2;obtain ⟨hg2_1,hg2_2,hg2_3,hg2_4,hg2_5⟩:=hig2;unfold Ag;refine aF (fun c3=>?_) (fun c3=>?_)
     ·have c3:=nr c3;have hp:=p2 g2.1.toNat (by omega);refine wn ?_;refine wn ?_;refine wn ?_;unfold vo;refine wn ?_;refine wn ?_;refine aF (fun c4=>?_) (fun c4=>?_)
      ·have c4o:=c4;have c4:=nr c4;refine wn ?_;refine wn ?_;refine wn ?_;refine ihg2 _ ?_ ?_
       ·(have q:=Bool.and_eq_true_iff.1 c4o; have q2:=of_decide_eq_true q.2; refine ⟨by exact ob,by exact ob,by exact ob,fun j hj=>Ar (.inl (Hu (by omega) (hg2_4 j hj))) (by rw [List.length_set]; omega),fun k h3 h4=>aaH (by omega) hg2_3 (by omega) hg2_5 (by (try dsimp only at h3); omega) h4⟩)
       ·exact ob
      ·have c4o:=c4;have c4:=nr c4;refine wn ?_;refine ihg2 _ ?_ ?_
       ·(refine ⟨by exact ob,by exact ob,by exact ob,fun j hj=>Hu (by omega) (hg2_4 j hj),fun k h3 h4=>aaG (by omega) hg2_3 hg2_5 (fun hq=>by rw [hq.1,decide_eq_true hq.2] at c4o; cases c4o) (by (try dsimp only at h3); omega) h4⟩)
       ·exact ob
     ·have c3:=nr c3;refine ak ?_;(intro _; exact ⟨hg2_3,⟨fun i hi=>(hg2_5 i (by omega) hi).1,fun i hi=>(hg2_5 i (by omega) hi).2⟩,hg2_4⟩)
    ·(refine ⟨by exact ob,by exact ob,hg1_2,fun j hj=>hg1_3 j (by omega),fun i h1 h2=>by (try dsimp only at h1); omega⟩)
  ·(refine ⟨by exact ob,by simp,fun j hj=>by (try dsimp only at hj); omega⟩)
end Go.Proofs.YtfblhejmclcdmaaGreatDoor


namespace Go.Proofs.YtfblhejmclcdmaaGreatDoor
open Go.Ab
set_option maxRecDepth 100000
theorem Y7 (bs:ByteArray):∀(n i:Nat) (r:List UInt8),bs.size - i=n→ByteArray.toList.loop bs i r=r.reverse++bs.data.toList.drop i:=by
 intro n;induction n with
 | zero=>
  intro i r h;unfold ByteArray.toList.loop;rw [if_neg (by omega),List.drop_eq_nil_of_le (by show bs.data.toList.length≤i; rw [Array.length_toList]; show bs.size≤i; omega),List.append_nil]
 | succ n ih=>
  intro i r h;unfold ByteArray.toList.loop;rw [if_pos (by omega),ih (i+1) _ (by omega),List.reverse_cons,List.append_assoc];have hi:i<bs.data.toList.length:=by rw [Array.length_toList]; show i<bs.size; omega
  rw [List.drop_eq_getElem_cons hi];congr 1;show bs.get! i::_=_;congr 1;unfold ByteArray.get!;rw [Array.getElem_toList];exact getElem!_pos bs.data i _
theorem UA (b:ByteArray):b.toList=b.data.toList:=by
 unfold ByteArray.toList;rw [Y7 b _ 0 [] rfl]; rfl
theorem XV {a b:ByteArray} (h:a.toList=b.toList):a=b:=by
 rw [UA,UA] at h;cases a; cases b;congr;exact Array.toList_inj.1 h
theorem aaI {s:ByteArray} (h:0<s.size):(s.toList==({ data:=#[] }:ByteArray).toList)=false:=by
 rw [beq_eq_false_iff_ne];intro e;have:=XV e;rw [this] at h;exact absurd h (by decide)
theorem IJ {α:Type} {X:Nat→α} {j:Nat} {x:α}:upd X j x j=x:=Vl X j x
theorem upd_ne {α:Type} {X:Nat→α} {i j:Nat} {x:α} (h:i≠j):upd X j x i=X i:=by
 unfold upd;cases e:Nat.beq i j with
 | true=>exact absurd (Nat.eq_of_beq_eq_true e) h
 | false=>rfl
def UsV (p:aR) (l:List oW):Prop:=(∀u∈l,XB p u)∧∀k j:Nat,j<k→(k:Int)<l.length→XQ p (l.getD j iK).dR (l.getD k iK).dR
theorem Au {s_:ByteArray} (h1:MB s_):W (vH s_) (fun r=>r=true):=by
 obtain ⟨⟨w1,w2⟩,⟨w3,w4⟩,w5⟩:=h1;unfold vH;refine bU (by intro _; omega) ?_;refine bU (by intro _; omega) ?_;refine aF (fun c1=>?_) (fun c1=>?_)
 ·have c1o:=c1;have c1:=nr c1;refine ak ?_;(exfalso; simp only [aaI w1,Bool.false_or,Bool.or_eq_true,decide_eq_true_eq] at c1o; omega)
 ·have c1o:=c1;have c1:=nr c1;refine aW (fun (g1:Int)=>0≤g1) (fun (g1:Int)=>(s_.size - g1).toNat) ?_ ?_
  ·intro self1 g1 hig1 ihg1;unfold GN;refine aF (fun c2=>?_) (fun c2=>?_)
   ·have c2:=nr c2;refine wn ?_;refine aF (fun c3=>?_) (fun c3=>?_)
    ·have c3:=nr c3;refine ak ?_;(exfalso; have:=w5 g1.toNat (by omega); omega)
    ·have c3:=nr c3;refine wn ?_;refine ihg1 _ ?_ ?_
     ·exact ob
     ·exact ob
   ·have c2:=nr c2;refine ak ?_;(first | rfl | exact ob)
  ·exact ob
theorem Av {s_:(List ByteArray)} {v_:ByteArray} (h1:s_.length≤1000000):W (slices_Index_string s_ v_) (fun r=>0≤r→∃j:Nat,(j:Int)<s_.length∧(s_.getD j ByteArray.empty).toList=v_.toList):=by
 unfold slices_Index_string;refine aW (fun (g1:Int)=>0≤g1) (fun (g1:Int)=>(s_.length - g1).toNat) ?_ ?_
 ·intro self1 g1 hig1 ihg1;unfold oZ;refine aF (fun c1=>?_) (fun c1=>?_)
  ·have c1:=nr c1;refine wn ?_;refine aF (fun c2=>?_) (fun c2=>?_)
   ·have c2o:=c2;have c2:=nr c2;refine ak ?_;(intro _; exact ⟨g1.toNat,by omega,(beq_iff_eq.1 c2o).symm⟩)
   ·have c2o:=c2;have c2:=nr c2;refine wn ?_;refine ihg1 _ ?_ ?_
    ·exact ob
    ·exact ob
  ·have c1:=nr c1;refine ak ?_;exact ob
 ·exact ob
theorem wP {s_:(List ByteArray)} {v_:ByteArray} (h1:s_.length≤1000000):W (slices_Contains_string s_ v_) (fun r=>r=true→∃j:Nat,(j:Int)<s_.length∧(s_.getD j ByteArray.empty).toList=v_.toList):=by
 unfold slices_Contains_string;refine aC (Av ob) fun v1 hv1=>?_;refine ak ?_;(intro h; exact hv1 (of_decide_eq_true h))
theorem NH {pins_:Int} {g_:aV} (h1:g_.bI.length≤1000000) (h2:GpV pins_ g_):W (zY pins_ g_) (fun r=>r=0):=by
 obtain ⟨⟨w1,w2,w3⟩,nw,so,fw,fd⟩:=h2;unfold zY;refine aF (fun c1=>?_) (fun c1=>?_)
 ·have c1:=nr c1;refine ak ?_;(first | rfl | exact ob)
 ·have c1:=nr c1;refine aF (fun c2=>?_) (fun c2=>?_)
  ·have c2:=nr c2;refine ak ?_;(first | rfl | exact ob)
  ·have c2:=nr c2;refine aW (fun (g1:Int)=>0≤g1) (fun (g1:Int)=>(g_.bI.length - g1).toNat) ?_ ?_
   ·intro self1 g1 hig1 ihg1;unfold E9;refine aF (fun c3=>?_) (fun c3=>?_)
    ·have c3:=nr c3;refine wn ?_;refine aF (fun c4=>?_) (fun c4=>?_)
     ·have c4:=nr c4;refine ak ?_;(exfalso; have:=w3 _ (getD_in (i:=g1.toNat) 0 (by omega)); omega)
     ·have c4:=nr c4;refine wn ?_;refine ihg1 _ ?_ ?_
      ·exact ob
      ·exact ob
    ·have c3:=nr c3;refine aW (fun (g2:Int)=>1≤g2) (fun (g2:Int)=>(g_.bI.length - g2).toNat) ?_ ?_
     ·intro self2 g2 hig2 ihg2;unfold CU;refine aF (fun c5=>?_) (fun c5=>?_)
      ·have c5:=nr c5;refine wn ?_;refine wn ?_;refine wn ?_;refine aF (fun c6=>?_) (fun c6=>?_)
       ·have c6:=nr c6;refine ak ?_;(exfalso; have:=so g2.toNat (by omega) (by omega); rw [show g2.toNat - 1=(g2 - 1).toNat by omega] at this; omega)
       ·have c6:=nr c6;refine wn ?_;refine ihg2 _ ?_ ?_
        ·exact ob
        ·exact ob
      ·have c5:=nr c5;refine aW (fun (g3:Int)=>0≤g3) (fun (g3:Int)=>(g_.Functions.length - g3).toNat) ?_ ?_
       ·intro self3 g3 hig3 ihg3;unfold CS;refine aF (fun c7=>?_) (fun c7=>?_)
        ·have c7:=nr c7;refine wn ?_;refine aC (Au (fw g3.toNat (by omega))) fun v3 hv3=>?_;refine aF (fun c8=>?_) (fun c8=>?_)
         ·have c8o:=c8;have c8:=nr c8;refine ak ?_;(rw [hv3] at c8o; cases c8o)
         ·have c8o:=c8;have c8:=nr c8;refine wn ?_;refine ihg3 _ ?_ ?_
          ·exact ob
          ·exact ob
        ·have c7:=nr c7;refine aW (fun (g4:Int)=>0≤g4) (fun (g4:Int)=>(g_.Functions.length - g4).toNat) ?_ ?_
         ·intro self4 g4 hig4 ihg4;unfold CQ;refine aF (fun c9=>?_) (fun c9=>?_)
          ·have c9:=nr c9;refine wn ?_;refine wn ?_;refine aC (wP ob) fun v6 hv6=>?_;refine aF (fun c10=>?_) (fun c10=>?_)
           ·have c10o:=c10;have c10:=nr c10;refine ak ?_;(exfalso; obtain ⟨j,h3,h4⟩:=hv6 c10o; rw [List.length_take] at h3; rw [OC _ _ _ _ (by omega)] at h4; exact fd g4.toNat j (by omega) (by omega) h4)
           ·have c10o:=c10;have c10:=nr c10;refine wn ?_;refine ihg4 _ ?_ ?_
            ·exact ob
            ·exact ob
          ·have c9:=nr c9;refine ak ?_;(first | rfl | exact ob)
         ·exact ob
       ·exact ob
     ·exact ob
   ·exact ob
theorem FK {p_:aR} (h1:∀g∈p_.Groups,g.bI.length≤1000000) (h2:PZ p_):W (vS p_) (fun r=>r=0):=by
 obtain ⟨⟨p1,p2,p3⟩,gr,nm⟩:=h2;unfold vS;refine aF (fun c1=>?_) (fun c1=>?_)
 ·have c1:=nr c1;refine ak ?_;(first | rfl | exact ob)
 ·have c1:=nr c1;refine aF (fun c2=>?_) (fun c2=>?_)
  ·have c2:=nr c2;refine ak ?_;(first | rfl | exact ob)
  ·have c2:=nr c2;refine aW (fun (g1:(Int×(kN→Option Int)))=>0≤g1.1∧(∀s:ByteArray,uL g1.2 (.s s)≠0→∃j:Nat,(j:Int)<g1.1∧(p_.Groups.getD j au).Name=s)) (fun (g1:(Int×(kN→Option Int)))=>(p_.Groups.length - g1.1).toNat) ?_ ?_
   ·intro self1 g1 hig1 ihg1;obtain ⟨hg1_1,hg1_2⟩:=hig1;unfold Fa;refine aF (fun c3=>?_) (fun c3=>?_)
    ·have c3:=nr c3;have hgl:=h1 _ (getD_in (i:=g1.1.toNat) au (by omega));have hgv:=gr g1.1.toNat (by omega);refine wn ?_;refine aC (Au hgv.nw) fun v5 hv5=>?_;refine aF (fun c4=>?_) (fun c4=>?_)
     ·have c4o:=c4;have c4:=nr c4;refine ak ?_;(rw [hv5] at c4o; cases c4o)
     ·have c4o:=c4;have c4:=nr c4;refine aF (fun c5=>?_) (fun c5=>?_)
      ·have c5o:=c5;have c5:=nr c5;refine ak ?_;(exfalso; obtain ⟨j,h3,h4⟩:=hg1_2 _ (bne_iff_ne.1 c5o); exact nm g1.1.toNat j (by omega) (by omega) (by rw [h4]))
      ·have c5o:=c5;have c5:=nr c5;refine aC (NH hgl hgv) fun v6 hv6=>?_;refine aF (fun c6=>?_) (fun c6=>?_)
       ·have c6o:=c6;have c6:=nr c6;refine ak ?_;(exact absurd hv6 (by simpa using c6o))
       ·have c6o:=c6;have c6:=nr c6;refine wn ?_;refine ihg1 _ ?_ ?_
        ·(refine ⟨by exact ob,fun s hs=>?_⟩; dsimp only at hs; rw [rA] at hs; by_cases q:(.s s:kN)=.s (p_.Groups.getD g1.1.toNat au).Name; (exact ⟨g1.1.toNat,by (try dsimp only); omega,(kN.s.inj q).symm⟩); (rw [if_neg q] at hs; obtain ⟨j,h3,h4⟩:=hg1_2 s hs; exact ⟨j,by (try dsimp only); omega,h4⟩))
        ·exact ob
    ·have c3:=nr c3;refine ak ?_;(first | rfl | exact ob)
   ·(refine ⟨by exact ob,fun s h=>absurd rfl h⟩)
theorem MJ {p_:aR} {l_:(List oW)} (h1:∀g∈p_.Groups,g.bI.length≤1000000) (h2:l_.length≤1000000) (h3:PZ p_) (h4:UsV p_ l_):W (xk p_ l_) (fun r=>r.2=0):=by
 unfold xk;refine aW (fun (g1:(Int×(Nat→Int)×(Nat→Int)))=>0≤g1.1∧(∀x:Nat,(x:Int)<g1.1→g1.2.2 x = -1)) (fun (g1:(Int×(Nat→Int)×(Nat→Int)))=>(64 - g1.1).toNat) ?_ ?_
 ·intro self1 g1 hig1 ihg1;obtain ⟨hg1_1,hg1_2⟩:=hig1;unfold Dh;refine aF (fun c1=>?_) (fun c1=>?_)
  ·have c1:=nr c1;refine wn ?_;refine wn ?_;refine ihg1 _ ?_ ?_
   ·(refine ⟨by exact ob,fun x hx=>?_⟩; dsimp only at hx ⊢; by_cases q:x=g1.1.toNat; (rw [q,IJ]); (rw [upd_ne q]; exact hg1_2 x (by omega)))
   ·exact ob
  ·have c1:=nr c1;refine aC (FK h1 h3) fun v1 hv1=>?_;refine aF (fun c2=>?_) (fun c2=>?_)
   ·have c2o:=c2;have c2:=nr c2;refine ak ?_;(exact absurd hv1 (by simpa using c2o))
   ·have c2o:=c2;have c2:=nr c2;obtain ⟨⟨p1,p2,p3⟩,gr,nm⟩:=id h3;refine wn ?_;refine aW (fun (g2:(Int×(Nat→Int)×(List Bool)))=>0≤g2.1∧g2.2.2.length=p_.Groups.length∧(∀x:Nat,x<64→0≤g2.2.1 x→∃j:Nat,(j:Int)<g2.1∧∃k:Nat,(k:Int)<(p_.Groups.getD (l_.getD j iK).dR.toNat au).bI.length∧(p_.Groups.getD (l_.getD j iK).dR.toNat au).bI.getD k 0=x)∧(∀x:Nat,g2.2.2.getD x false=true→∃j:Nat,(j:Int)<g2.1∧(l_.getD j iK).dR=x)) (fun (g2:(Int×(Nat→Int)×(List Bool)))=>(l_.length - g2.1).toNat) ?_ ?_
    ·intro self2 g2 hig2 ihg2;obtain ⟨hg2_1,hg2_2,hg2_3,hg2_4⟩:=hig2;unfold Bj;refine aF (fun c3=>?_) (fun c3=>?_)
     ·have c3:=nr c3;have hu:=h4.1 _ (getD_in (i:=g2.1.toNat) iK (by omega));obtain ⟨u1,u2,u3,u4⟩:=hu;refine wn ?_;refine wn ?_;refine aF (fun c4=>?_) (fun c4=>?_)
      ·have c4:=nr c4;refine ak ?_;(first | rfl | exact ob)
      ·have c4:=nr c4;refine wn ?_;refine aF (fun c5=>?_) (fun c5=>?_)
       ·have c5o:=c5;have c5:=nr c5;refine ak ?_;(exfalso; obtain ⟨j,e3,e4⟩:=hg2_4 _ c5o; have hd:=h4.2 g2.1.toNat j (by omega) (by omega); rw [e4,Int.toNat_of_nonneg u1] at hd; have hw:=(p3 _ (getD_in (i:=(l_.getD g2.1.toNat iK).dR.toNat) au (by omega))).pl; exact hd 0 0 (by omega) (by omega) rfl)
       ·have c5o:=c5;have c5:=nr c5;refine wn ?_;refine wn ?_;refine aW (fun (g5:(Int×(Nat→Int)×(List Bool)))=>0≤g5.1∧g5.1≤(p_.Groups.getD (l_.getD g2.1.toNat iK).dR.toNat au).bI.length∧g5.2.2.length=p_.Groups.length∧(∀x:Nat,x<64→0≤g5.2.1 x→(∃j:Nat,(j:Int)<g2.1∧∃k:Nat,(k:Int)<(p_.Groups.getD (l_.getD j iK).dR.toNat au).bI.length∧(p_.Groups.getD (l_.getD j iK).dR.toNat au).bI.getD k 0=x)∨∃k:Nat,(k:Int)<g5.1∧(p_.Groups.getD (l_.getD g2.1.toNat iK).dR.toNat au).bI.getD k 0=x)∧(∀x:Nat,g5.2.2.getD x false=true→∃j:Nat,(j:Int)<g2.1+1∧(l_.getD j iK).dR=x)) (fun (g5:(Int×(Nat→Int)×(List Bool)))=>((p_.Groups.getD (l_.getD g2.1.toNat iK).dR.toNat au).bI.length - g5.1).toNat) ?_ ?_
        ·intro self5 g5 hig5 ihg5;obtain ⟨hg5_1,hg5_2,hg5_3,hg5_4,hg5_5⟩:=hig5;unfold Bh;refine aF (fun c6=>?_) (fun c6=>?_)
         ·have c6:=nr c6;have hmg:=getD_in (l:=p_.Groups) (i:=(l_.getD g2.1.toNat iK).dR.toNat) au (by omega);have hgl:=h1 _ hmg;have hpn:=(p3 _ hmg).pn _ (getD_in (i:=g5.1.toNat) 0 (by omega));refine wn ?_;refine wn ?_;refine aF (fun c7=>?_) (fun c7=>?_)
          ·have c7:=nr c7;refine ak ?_;(exfalso; rcases hg5_4 _ (by omega) c7 with ⟨j,e3,k,e5,e6⟩ | ⟨k,e5,e6⟩; (exact h4.2 g2.1.toNat j (by omega) (by omega) k g5.1.toNat e5 (by omega) (by rw [e6]; omega)); (have:=MH h3 u1 u2 k g5.1.toNat (by omega) (by omega); omega))
          ·have c7:=nr c7;refine wn ?_;refine wn ?_;refine ihg5 _ ?_ ?_
           ·(refine ⟨by exact ob,by exact ob,by exact ob,fun x hx h=>?_,hg5_5⟩; dsimp only at h; by_cases q:x=((p_.Groups.getD (l_.getD g2.1.toNat iK).dR.toNat au).bI.getD g5.1.toNat 0).toNat; (exact .inr ⟨g5.1.toNat,by (try dsimp only); omega,by subst q; omega⟩); (rw [upd_ne q] at h; rcases hg5_4 x hx h with h | ⟨k,e5,e6⟩; (exact .inl h); (exact .inr ⟨k,by (try dsimp only); omega,e6⟩)))
           ·exact ob
         ·have c6:=nr c6;refine wn ?_;refine ihg2 _ ?_ ?_
          ·(refine ⟨by exact ob,hg5_3,fun x hx h=>?_,fun x hx=>hg5_5 x hx⟩; rcases hg5_4 x hx h with ⟨j,e3,e⟩ | ⟨k,e5,e6⟩; (exact ⟨j,by (try dsimp only); omega,e⟩); (exact ⟨g2.1.toNat,by (try dsimp only); omega,k,by omega,e6⟩))
          ·exact ob
        ·(refine ⟨by exact ob,by exact ob,by exact ob,fun x hx h=>.inl (hg2_3 x hx h),fun x hx=>?_⟩; dsimp only at hx; by_cases q:x=(l_.getD g2.1.toNat iK).dR.toNat; (exact ⟨g2.1.toNat,by omega,by subst q; omega⟩); (rw [rX q] at hx; obtain ⟨j,e3,e4⟩:=hg2_4 x hx; exact ⟨j,by omega,e4⟩))
     ·have c3:=nr c3;refine ak ?_;(first | rfl | exact ob)
    ·(refine ⟨by exact ob,by simp,fun x hx h=>?_,fun x hx=>?_⟩; (exfalso; have:=hg1_2 x (by omega); (try dsimp only at h); omega); (exfalso; dsimp only at hx; rw [List.getD_eq_getElem?_getD,List.getElem?_replicate] at hx; split at hx<;>simp at hx))
 ·(refine ⟨by exact ob,fun j hj=>by (try dsimp only at hj); omega⟩)
theorem MK {p_:aR} {l_:(List oW)} (h1:∀g∈p_.Groups,g.bI.length≤1000000) (h2:l_.length≤1000000) (h3:PZ p_) (h4:UsV p_ l_):W (xq p_ l_) (fun r=>r.2=0):=by
 unfold xq;refine aC (MJ h1 h2 h3 h4) fun v1 hv1=>?_;refine aF (fun c1=>?_) (fun c1=>?_)
 ·have c1:=nr c1;refine ak ?_;(exact absurd hv1 c1)
 ·have c1:=nr c1;obtain ⟨⟨p1,_,_⟩,_,_⟩:=id h3;unfold vU;refine wn ?_;refine aC (wE (by simp only [List.length_map,List.length_range]; omega)) fun v2 hv2=>?_;subst v2;refine ak ?_;(first | rfl | exact ob)
theorem DX {l_:(List bV)} (h1:∀g∈l_,g.After.length≤1000000) (h2:RsV l_):W (sD l_) (fun r=>r=0):=by
 obtain ⟨⟨w1,w2⟩,so⟩:=h2;unfold sD;refine aF (fun c1=>?_) (fun c1=>?_)
 ·have c1:=nr c1;refine ak ?_;(first | rfl | exact ob)
 ·have c1:=nr c1;refine aW (fun (g1:Int)=>0≤g1) (fun (g1:Int)=>(l_.length - g1).toNat) ?_ ?_
  ·intro self1 g1 hig1 ihg1;unfold CW;refine aF (fun c2=>?_) (fun c2=>?_)
   ·have c2:=nr c2;have hgl:=h1 _ (getD_in (i:=g1.toNat) dReset (by omega));refine wn ?_;refine aW (fun (g6:Int)=>0≤g6) (fun (g6:Int)=>((l_.getD g1.toNat dReset).After.length - g6).toNat) ?_ ?_
    ·intro self6 g6 hig6 ihg6;unfold CV;refine aF (fun c3=>?_) (fun c3=>?_)
     ·have c3:=nr c3;refine wn ?_;refine aF (fun c4=>?_) (fun c4=>?_)
      ·have c4:=nr c4;refine ak ?_;(exfalso; have:=w2 g1.toNat (by omega) _ (getD_in (i:=g6.toNat) 0 (by omega)); omega)
      ·have c4:=nr c4;refine wn ?_;refine ihg6 _ ?_ ?_
       ·exact ob
       ·exact ob
     ·have c3:=nr c3;refine aW (fun (g7:Int)=>1≤g7) (fun (g7:Int)=>((l_.getD g1.toNat dReset).After.length - g7).toNat) ?_ ?_
      ·intro self7 g7 hig7 ihg7;unfold A9;refine aF (fun c5=>?_) (fun c5=>?_)
       ·have c5:=nr c5;refine wn ?_;refine wn ?_;refine wn ?_;refine aF (fun c6=>?_) (fun c6=>?_)
        ·have c6:=nr c6;refine ak ?_;(exfalso; have:=so g1.toNat (by omega) g7.toNat (by omega) (by omega); rw [show g7.toNat - 1=(g7 - 1).toNat by omega] at this; omega)
        ·have c6:=nr c6;refine wn ?_;refine ihg7 _ ?_ ?_
         ·exact ob
         ·exact ob
       ·have c5:=nr c5;refine wn ?_;refine ihg1 _ ?_ ?_
        ·exact ob
        ·exact ob
      ·exact ob
    ·exact ob
   ·have c2:=nr c2;refine ak ?_;(first | rfl | exact ob)
  ·exact ob
theorem Kt {l_:(List bV)} {released_:(List Bool)} (h1:YT l_) (h2:∀g∈l_,g.After.length≤1000000) (h3:released_.length=l_.length) (h4:XR l_ released_):W (uX l_ released_) (fun r=>r=true):=by
 obtain ⟨p1,p2⟩:=h1;unfold uX;refine aF (fun c1=>?_) (fun c1=>?_)
 ·have c1:=nr c1;refine ak ?_;(first | rfl | exact ob)
 ·have c1:=nr c1;refine aW (fun (g1:Int)=>0≤g1) (fun (g1:Int)=>(l_.length - g1).toNat) ?_ ?_
  ·intro self1 g1 hig1 ihg1;unfold Bn;refine aF (fun c2=>?_) (fun c2=>?_)
   ·have c2:=nr c2;have hgl:=h2 _ (getD_in (i:=g1.toNat) dReset (by omega));refine wn ?_;refine aW (fun (g4:Int)=>0≤g4) (fun (g4:Int)=>((l_.getD g1.toNat dReset).After.length - g4).toNat) ?_ ?_
    ·intro self4 g4 hig4 ihg4;unfold Bl;refine aF (fun c3=>?_) (fun c3=>?_)
     ·have c3:=nr c3;have hx:=p2 g1.toNat (by omega) _ (getD_in (i:=g4.toNat) 0 (by omega));refine wn ?_;refine wn ?_;refine wn ?_;refine aF (fun c4=>?_) (fun c4=>?_)
      ·have c4:=nr c4;refine ak ?_;(exfalso; have:=h4 g1.toNat (by omega) c4.1 _ (getD_in (i:=g4.toNat) 0 (by omega)); exact absurd (c4.2.symm.trans this) (by decide))
      ·have c4:=nr c4;refine wn ?_;refine ihg4 _ ?_ ?_
       ·exact ob
       ·exact ob
     ·have c3:=nr c3;refine wn ?_;refine ihg1 _ ?_ ?_
      ·exact ob
      ·exact ob
    ·exact ob
   ·have c2:=nr c2;refine ak ?_;(first | rfl | exact ob)
  ·exact ob
theorem Ku {l_:(List bV)} {released_:(List Bool)} (h1:∀g∈l_,g.After.length≤1000000) (h2:RsV l_) (h3:released_.length=l_.length) (h4:XR l_ released_):W (uY l_ released_) (fun r=>r=true):=by
 unfold uY;refine aC (DX h1 h2) fun v1 hv1=>?_;refine aC (CK fun hc=>Kt h2.ok h1 h3 h4) fun v2 hv2=>?_;refine ak ?_;(have q:=hv2 (by rw [hv1]; rfl); rw [hv1,q]; rfl)
theorem BG {l_:(List bH)} (h1:Tx l_):W (o7 l_) (fun r=>r=0):=by
 obtain ⟨p1,p2⟩:=h1;unfold o7;refine aF (fun c1=>?_) (fun c1=>?_)
 ·have c1:=nr c1;refine ak ?_;(first | rfl | exact ob)
 ·have c1:=nr c1;refine aW (fun (g1:Int)=>0≤g1) (fun (g1:Int)=>(l_.length - g1).toNat) ?_ ?_
  ·intro self1 g1 hig1 ihg1;unfold Ba;refine aF (fun c2=>?_) (fun c2=>?_)
   ·have c2:=nr c2;refine wn ?_;refine aF (fun c3=>?_) (fun c3=>?_)
    ·have c3:=nr c3;refine ak ?_;(exfalso; have:=p2 g1.toNat (by omega); omega)
    ·have c3:=nr c3;refine wn ?_;refine ihg1 _ ?_ ?_
     ·exact ob
     ·exact ob
   ·have c2:=nr c2;refine ak ?_;(first | rfl | exact ob)
  ·exact ob
theorem Kv {l_:(List bH)} {on_:(List Bool)} (h1:Tx l_) (h2:on_.length=l_.length) (h3:XT l_ on_):W (uZ l_ on_) (fun r=>r=true):=by
 obtain ⟨p1,p2⟩:=h1;unfold uZ;refine aF (fun c1=>?_) (fun c1=>?_)
 ·have c1:=nr c1;refine ak ?_;(first | rfl | exact ob)
 ·have c1:=nr c1;refine aW (fun (g1:Int)=>0≤g1) (fun (g1:Int)=>(l_.length - g1).toNat) ?_ ?_
  ·intro self1 g1 hig1 ihg1;unfold Bo;refine aF (fun c2=>?_) (fun c2=>?_)
   ·have c2:=nr c2;have hx:=p2 g1.toNat (by omega);refine wn ?_;refine wn ?_;refine wn ?_;refine wn ?_;refine aF (fun c3=>?_) (fun c3=>?_)
    ·have c3:=nr c3;refine ak ?_;(exfalso; rcases c3 with ⟨a,b⟩ | ⟨⟨a,b⟩,c⟩; (exact absurd (a.symm.trans (h3.al g1.toNat (by omega) b)) (by decide)); (exact absurd (c.symm.trans (h3.pa g1.toNat (by omega) a b)) (by decide)))
    ·have c3:=nr c3;refine wn ?_;refine ihg1 _ ?_ ?_
     ·exact ob
     ·exact ob
   ·have c2:=nr c2;refine ak ?_;(first | rfl | exact ob)
  ·exact ob
theorem Kw {l_:(List bH)} {on_:(List Bool)} (h1:Tx l_) (h2:on_.length=l_.length) (h3:XT l_ on_):W (u6 l_ on_) (fun r=>r=true):=by
 unfold u6;refine aC (BG h1) fun v1 hv1=>?_;refine aC (CK fun hc=>Kv h1 h2 h3) fun v2 hv2=>?_;refine ak ?_;(have q:=hv2 (by rw [hv1]; rfl); rw [hv1,q]; rfl)
end Go.Proofs.YtfblhejmclcdmaaGreatDoor

namespace Go.Proofs.YtfblhejmclcdmaaGreatDoor
open Go.Ab
set_option maxRecDepth 100000
structure NdV (b:bF) (k:Int) (n:aO):Prop where
 ok:aaD b n
 fw:∀j:Nat,(j:Int)<n.Functions.length→MB (n.Functions.getD j ByteArray.empty)
 pr:∀x∈n.cO,0≤x∧x<k
 ps:∀k:Nat,1≤k→(k:Int)<n.cO.length→n.cO.getD (k - 1) 0<n.cO.getD k 0
def Y8 (l:List Int):Prop:=∀k j:Nat,j<k→(k:Int)<l.length→l.getD j 0≠l.getD k 0
theorem Y9 {l:List Int} (h:Y8 l) {k:Nat} (hk:(k:Int)<l.length):(l.take k).contains (l.getD k 0)=false:=by
 cases e:(l.take k).contains (l.getD k 0) with
 | false=>rfl
 | true=>
  exfalso;have hm:=List.contains_iff_mem.1 e;obtain ⟨j,hj,e2⟩:=List.mem_iff_getElem.1 hm;rw [List.length_take] at hj;refine h k j (by omega) hk ?_;rw [← e2,List.getElem_take,List.getD_eq_getElem?_getD,List.getElem?_eq_getElem (by omega)];rfl
def Z5 (p:aR) (u:oW):ByteArray:=((p.Groups.getD u.dR.toNat au).Functions.getD u.Function.toNat ByteArray.empty)
def RP (p:aR) (us:List aZ) (m:Int) (f:ByteArray):Nat:=us.countP fun u=>(u.Device==m)&&decide (Z5 p u.Use=f)
def cntF (l:List ByteArray) (f:ByteArray):Nat:=l.countP fun x=>decide (x=f)
theorem OE {p:aR} {us:List aZ} {u:aZ} {m:Int} {f:ByteArray}:RP p (us++[u]) m f=RP p us m f+(if u.Device=m∧Z5 p u.Use=f then 1 else 0):=by
 unfold RP;rw [List.countP_append,List.countP_singleton];congr 1;simp only [Bool.and_eq_true,beq_iff_eq,decide_eq_true_eq]
theorem OG {l:List ByteArray} {x f:ByteArray}:cntF (l++[x]) f=cntF l f+(if x=f then 1 else 0):=by
 unfold cntF;rw [List.countP_append,List.countP_singleton];congr 1;simp only [decide_eq_true_eq]
theorem VK {l:List ByteArray} {f:ByteArray} (k:Nat):cntF (l.take k) f≤cntF l f:=by
 unfold cntF;conv=>rhs; rw [← List.take_append_drop k l]
 rw [List.countP_append]; omega
theorem TI {l:List av} {s:List Int} (h1:bP l=0) (h2:settB l s=true):(yc l s).2=0:=by
 unfold yc;rw [h1,h2]; rfl
def Zv (r:aP) (x:bn):Prop:=r.Num≠0∧r.Num≤x.High*r.Den∧x.Low*r.Den≤r.Num
structure Jf (s:dP):Prop where
 sc:aa2 s
 sh:aa3 s
 bv:Uz s.aN
 dst:Y8 s.aG
 st:∀i:Nat,(i:Int)<s.aN.bO.length→0≤s.aJ.Setting.getD i 0∧s.aJ.Setting.getD i 0<(s.aN.bO.getD i ay).Choices.length
 us:∀u∈s.aJ.Uses,-1≤u.Device∧u.Device<s.bG.length
 sb:settB s.aN.bO s.aJ.Setting=true
 mt:fq s.aN.bO s.aJ.Setting []=true
 lm:∀m∈s.aG,∀x∈(s.bG.getD m.toNat aY).Limits,Zv ((gZ s.aN.bO s.aJ.Setting).getD x.Clock.toNat bZ) x
 dr:Sp.fq s.aN.bC s.aJ.fC (s.aG.flatMap fun m=>(s.bG.getD m.toNat aY).Draws)=true
 pn:UsV s.aN.bD (s.aJ.Uses.map aZ.Use)
 fn:∀m∈s.aG,∀f,cntF (s.bG.getD m.toNat aY).Functions f≤RP s.aN.bD s.aJ.Uses m f
 rs:XR s.aN.Resets s.aJ.Released
 rl:∀m∈s.aG,∀x∈(s.bG.getD m.toNat aY).Resets,s.aJ.Released.getD x.toNat false=true
 dm:XT s.aN.bS s.aJ.eU
 dl:∀m∈s.aG,0≤(s.bG.getD m.toNat aY).fK→s.aJ.eU.getD (s.bG.getD m.toNat aY).fK.toNat false=true
theorem ML {b_:bF} (h1:Tz b_) (h2:Uz b_):W (sF b_) (fun r=>r=0):=by
 obtain ⟨s1,s2,s3,s4,s5,s6,s7⟩:=h1;unfold sF;refine aC (CJ (yg s1)) fun v1 hv1=>?_;subst v1;refine aF (fun c1=>?_) (fun c1=>?_)
 ·have c1:=nr c1;refine ak ?_;(exact absurd h2.cl c1)
 ·have c1:=nr c1;refine aC (Sp.wD s3) fun v2 hv2=>?_;subst v2;refine aF (fun c2=>?_) (fun c2=>?_)
  ·have c2:=nr c2;refine ak ?_;(exact absurd h2.su c2)
  ·have c2:=nr c2;refine aC (FK s4 h2.pn) fun v3 hv3=>?_;refine aF (fun c3=>?_) (fun c3=>?_)
   ·have c3:=nr c3;refine ak ?_;(exact absurd hv3 c3)
   ·have c3:=nr c3;refine aC (DX s6 h2.rs) fun v4 hv4=>?_;refine aF (fun c4=>?_) (fun c4=>?_)
    ·have c4:=nr c4;refine ak ?_;(exact absurd hv4 c4)
    ·have c4:=nr c4;refine aC (BG h2.dm) fun v5 hv5=>?_;refine ak ?_;(exact hv5)
theorem NI {b_:bF} {n_:aO} {devices_:Int} (h1:Tz b_) (h2:0≤devices_) (h3:devices_≤1000000) (h4:n_.Resets.length≤1000000) (h5:n_.cO.length≤1000000) (h6:NdV b_ devices_ n_):W (zZ b_ n_ devices_) (fun r=>r=0):=by
 obtain ⟨z1,z2,z3,z4,z5,z6,z7⟩:=h1;obtain ⟨⟨q1,q2,q3,q4,q5,q6,q7⟩,q8,q9,q10⟩:=h6;unfold zZ;refine aF (fun c1=>?_) (fun c1=>?_)
 ·have c1:=nr c1;refine ak ?_;(first | rfl | exact ob)
 ·have c1:=nr c1;refine aW (fun (g1:Int)=>0≤g1) (fun (g1:Int)=>(n_.Limits.length - g1).toNat) ?_ ?_
  ·intro self1 g1 hig1 ihg1;unfold Fb;refine aF (fun c2=>?_) (fun c2=>?_)
   ·have c2:=nr c2;obtain ⟨x1,x2,x3,x4,x5⟩:=q4 _ (getD_in (i:=g1.toNat) cB (by omega));refine wn ?_;refine wn ?_;refine aC (kE) fun v3 hv3=>?_;subst v3;refine aF (fun c3=>?_) (fun c3=>?_)
    ·have c3:=nr c3;refine ak ?_;(first | rfl | exact ob)
    ·have c3:=nr c3;refine wn ?_;refine ihg1 _ ?_ ?_
     ·exact ob
     ·exact ob
   ·have c2:=nr c2;refine aW (fun (g2:Int)=>0≤g2) (fun (g2:Int)=>(n_.Draws.length - g2).toNat) ?_ ?_
    ·intro self2 g2 hig2 ihg2;unfold C9;refine aF (fun c4=>?_) (fun c4=>?_)
     ·have c4:=nr c4;obtain ⟨x1,x2,x3,x4,x5,x6⟩:=q5 _ (getD_in (i:=g2.toNat) bK (by omega));refine wn ?_;refine wn ?_;refine aC (kE) fun v8 hv8=>?_;subst v8;refine aC (d9 fun hc=>jR (kE)) fun v9 hv9=>?_;subst v9;refine aF (fun c5=>?_) (fun c5=>?_)
      ·have c5:=nr c5;refine ak ?_;(first | rfl | exact ob)
      ·have c5:=nr c5;refine wn ?_;refine ihg2 _ ?_ ?_
       ·exact ob
       ·exact ob
     ·have c4:=nr c4;refine aW (fun (g3:Int)=>0≤g3) (fun (g3:Int)=>(n_.Functions.length - g3).toNat) ?_ ?_
      ·intro self3 g3 hig3 ihg3;unfold C8;refine aF (fun c6=>?_) (fun c6=>?_)
       ·have c6:=nr c6;refine wn ?_;refine aC (Au (q8 g3.toNat (by omega))) fun v12 hv12=>?_;refine aF (fun c7=>?_) (fun c7=>?_)
        ·have c7o:=c7;have c7:=nr c7;refine ak ?_;(rw [hv12] at c7o; cases c7o)
        ·have c7o:=c7;have c7:=nr c7;refine wn ?_;refine ihg3 _ ?_ ?_
         ·exact ob
         ·exact ob
       ·have c6:=nr c6;refine aW (fun (g4:Int)=>0≤g4) (fun (g4:Int)=>(n_.Resets.length - g4).toNat) ?_ ?_
        ·intro self4 g4 hig4 ihg4;unfold CZ;refine aF (fun c8=>?_) (fun c8=>?_)
         ·have c8:=nr c8;have hx:=q6 _ (getD_in (i:=g4.toNat) 0 (by omega));refine wn ?_;refine wn ?_;refine aC (kE) fun v15 hv15=>?_;subst v15;refine aF (fun c9=>?_) (fun c9=>?_)
          ·have c9:=nr c9;refine ak ?_;(first | rfl | exact ob)
          ·have c9:=nr c9;refine wn ?_;refine ihg4 _ ?_ ?_
           ·exact ob
           ·exact ob
         ·have c8:=nr c8;refine wn ?_;refine aC (kE) fun v16 hv16=>?_;subst v16;refine aF (fun c10=>?_) (fun c10=>?_)
          ·have c10:=nr c10;refine ak ?_;(first | rfl | exact ob)
          ·have c10:=nr c10;refine aW (fun (g5:Int)=>0≤g5) (fun (g5:Int)=>(n_.cO.length - g5).toNat) ?_ ?_
           ·intro self5 g5 hig5 ihg5;unfold CY;refine aF (fun c11=>?_) (fun c11=>?_)
            ·have c11:=nr c11;have hx:=q9 _ (getD_in (i:=g5.toNat) 0 (by omega));refine wn ?_;refine wn ?_;refine aC (kE) fun v19 hv19=>?_;subst v19;refine aF (fun c12=>?_) (fun c12=>?_)
             ·have c12:=nr c12;refine ak ?_;(first | rfl | exact ob)
             ·have c12:=nr c12;refine wn ?_;refine ihg5 _ ?_ ?_
              ·exact ob
              ·exact ob
            ·have c11:=nr c11;refine aW (fun (g6:Int)=>1≤g6) (fun (g6:Int)=>(n_.cO.length - g6).toNat) ?_ ?_
             ·intro self6 g6 hig6 ihg6;unfold CX;refine aF (fun c13=>?_) (fun c13=>?_)
              ·have c13:=nr c13;refine wn ?_;refine wn ?_;refine wn ?_;refine aF (fun c14=>?_) (fun c14=>?_)
               ·have c14:=nr c14;refine ak ?_;(exfalso; have:=q10 g6.toNat (by omega) (by omega); rw [show g6.toNat - 1=(g6 - 1).toNat by omega] at this; omega)
               ·have c14:=nr c14;refine wn ?_;refine ihg6 _ ?_ ?_
                ·exact ob
                ·exact ob
              ·have c13:=nr c13;refine ak ?_;(first | rfl | exact ob)
             ·exact ob
           ·exact ob
        ·exact ob
      ·exact ob
    ·exact ob
  ·exact ob
theorem NJ {b_:bF} {l_:(List aO)} (h1:Tz b_) (h2:YV l_) (h3:Uz b_) (h4:l_.length≤12) (h5:∀n∈l_,NdV b_ l_.length n):W (qO b_ l_) (fun r=>r=0):=by
 obtain ⟨w1,w2⟩:=h2;unfold qO;refine aC (ML h1 h3) fun v1 hv1=>?_;refine aF (fun c1=>?_) (fun c1=>?_)
 ·have c1:=nr c1;refine ak ?_;(exact absurd hv1 c1)
 ·have c1:=nr c1;refine aF (fun c2=>?_) (fun c2=>?_)
  ·have c2:=nr c2;refine ak ?_;(first | rfl | exact ob)
  ·have c2:=nr c2;refine aW (fun (g1:Int)=>0≤g1) (fun (g1:Int)=>(l_.length - g1).toNat) ?_ ?_
   ·intro self1 g1 hig1 ihg1;unfold Fe;refine aF (fun c3=>?_) (fun c3=>?_)
    ·have c3:=nr c3;have hw:=w2 _ (getD_in (i:=g1.toNat) aY (by omega));refine wn ?_;refine aC (NI h1 ob ob ob ob (h5 _ (getD_in (i:=g1.toNat) aY (by omega)))) fun v4 hv4=>?_;refine aF (fun c4=>?_) (fun c4=>?_)
     ·have c4:=nr c4;refine ak ?_;(exact absurd hv4 c4)
     ·have c4:=nr c4;refine wn ?_;refine ihg1 _ ?_ ?_
      ·exact ob
      ·exact ob
    ·have c3:=nr c3;refine ak ?_;(first | rfl | exact ob)
   ·exact ob
theorem Gg {l_:(List aO)} {members_:(List Int)} (h1:l_.length≤1000000) (h2:members_.length≤1000000) (h3:∀m∈members_,0≤m∧m<l_.length) (h4:Y8 members_):W (kI l_ members_) (fun r=>r=true):=by
 unfold kI;refine aW (fun (g1:Int)=>0≤g1) (fun (g1:Int)=>(members_.length - g1).toNat) ?_ ?_
 ·intro self1 g1 hig1 ihg1;unfold vT;refine aF (fun c1=>?_) (fun c1=>?_)
  ·have c1:=nr c1;have hx:=h3 _ (getD_in (i:=g1.toNat) 0 (by omega));refine wn ?_;refine wn ?_;refine aC (kE) fun v5 hv5=>?_;subst v5;refine wn ?_;refine aC (d9 fun hc=>BN ob) fun v6 hv6=>?_;subst v6;refine aF (fun c2=>?_) (fun c2=>?_)
   ·have c2o:=c2;have c2:=nr c2;refine ak ?_;(exfalso; have hf:=Y9 h4 (k:=g1.toNat) (by omega); rw [hf,Bool.or_false] at c2o; simp only [Bool.not_eq_true',Bool.and_eq_false_iff,decide_eq_false_iff_not] at c2o; omega)
   ·have c2o:=c2;have c2:=nr c2;refine wn ?_;refine ihg1 _ ?_ ?_
    ·exact ob
    ·exact ob
  ·have c1:=nr c1;refine ak ?_;(first | rfl | exact ob)
 ·exact ob
theorem DY {s_:dP} (h1:Jf s_):W (kV s_) (fun r=>r=true):=by
 have hsc:=h1.sc;have hsh:=h1.sh;obtain ⟨⟨s1,s2,s3,s4,s5,s6,s7⟩,vl_,n1,n2,⟨n3,n4⟩,m1,⟨z1,z2,z3,z4,z5,z6⟩⟩:=hsc;obtain ⟨y1,y2,y3,y4,y5,y6⟩:=hsh;have hch:∀i,i<s_.aN.bO.length→(s_.aN.bO.getD i ay).Choices.length≤1000000:=s2;unfold kV;refine aC (Gg (by omega) (by omega) y1 h1.dst) fun v1 hv1=>?_;refine aF (fun c1=>?_) (fun c1=>?_)
 ·have c1o:=c1;have c1:=nr c1;refine ak ?_;(exfalso; rw [hv1] at c1o; simp only [Bool.not_true,Bool.false_or,Bool.or_eq_true,bne_iff_ne,ne_eq] at c1o; omega)
 ·have c1o:=c1;have c1:=nr c1;refine aW (fun (g1:Int)=>0≤g1) (fun (g1:Int)=>(s_.aN.bO.length - g1).toNat) ?_ ?_
  ·intro self1 g1 hig1 ihg1;unfold sG;refine aF (fun c2=>?_) (fun c2=>?_)
   ·have c2:=nr c2;have hq:=hch g1.toNat (by omega);have hst:=h1.st g1.toNat (by omega);refine wn ?_;refine wn ?_;refine wn ?_;refine aC (kE) fun v4 hv4=>?_;subst v4;refine aF (fun c3=>?_) (fun c3=>?_)
    ·have c3:=nr c3;refine ak ?_;(first | rfl | exact ob)
    ·have c3:=nr c3;refine wn ?_;refine ihg1 _ ?_ ?_
     ·exact ob
     ·exact ob
   ·have c2:=nr c2;refine aW (fun (g2:Int)=>0≤g2) (fun (g2:Int)=>(s_.aJ.Uses.length - g2).toNat) ?_ ?_
    ·intro self2 g2 hig2 ihg2;unfold qw;refine aF (fun c4=>?_) (fun c4=>?_)
     ·have c4:=nr c4;have hu:=h1.us _ (getD_in (i:=g2.toNat) bY (by omega));refine wn ?_;refine wn ?_;refine aC (kE) fun v7 hv7=>?_;subst v7;refine aF (fun c5=>?_) (fun c5=>?_)
      ·have c5:=nr c5;refine ak ?_;(first | rfl | exact ob)
      ·have c5:=nr c5;refine wn ?_;refine ihg2 _ ?_ ?_
       ·exact ob
       ·exact ob
     ·have c4:=nr c4;refine ak ?_;(first | rfl | exact ob)
    ·exact ob
  ·exact ob
theorem BO {s_:dP} (h1:Jf s_):W (ko s_) (fun r=>r=true):=by
 have hsc:=h1.sc;have hsh:=h1.sh;obtain ⟨⟨s1,s2,s3,s4,s5,s6,s7⟩,vl_,n1,n2,⟨n3,n4⟩,m1,⟨z1,z2,z3,z4,z5,z6⟩⟩:=hsc;obtain ⟨y1,y2,y3,y4,y5,y6⟩:=hsh;unfold ko;refine aC (Nl ob ob ob ob) fun v1 hv1=>?_;subst v1;refine ak ?_;(exact h1.mt)
theorem BP {s_:dP} (h1:Jf s_):W (kr s_) (fun r=>r=true):=by
 have hsc:=h1.sc;have hsh:=h1.sh;obtain ⟨⟨s1,s2,s3,s4,s5,s6,s7⟩,vl_,n1,n2,⟨n3,n4⟩,m1,⟨z1,z2,z3,z4,z5,z6⟩⟩:=hsc;obtain ⟨y1,y2,y3,y4,y5,y6⟩:=hsh;unfold kr;refine aC (Nn ob ob ob) fun v1 hv1=>?_;subst v1;refine aF (fun c1=>?_) (fun c1=>?_)
 ·have c1o:=c1;have c1:=nr c1;refine ak ?_;(exact absurd (TI h1.bv.cl h1.sb) c1)
 ·have c1o:=c1;have c1:=nr c1;obtain ⟨r1,r2,r3⟩:=XD (by simpa using c1o);have hrl:(yc s_.aN.bO s_.aJ.Setting).1.length=s_.aN.bO.length:=(by rw [r3]; exact qX ..);refine aW (fun (g1:Int)=>0≤g1) (fun (g1:Int)=>(s_.aG.length - g1).toNat) ?_ ?_
  ·intro self1 g1 hig1 ihg1;unfold qy;refine aF (fun c2=>?_) (fun c2=>?_)
   ·have c2:=nr c2;have hmem:=getD_in (l:=s_.aG) (i:=g1.toNat) 0 (by omega);have hmi:=y1 _ hmem;have hnd:=getD_in (l:=s_.bG) (i:=(s_.aG.getD g1.toNat 0).toNat) aY (by omega);have hno:=n2 _ hnd;have hns:=n4 _ hnd;refine wn ?_;refine wn ?_;refine aW (fun (g4:Int)=>0≤g4) (fun (g4:Int)=>((s_.bG.getD (s_.aG.getD g1.toNat 0).toNat aY).Limits.length - g4).toNat) ?_ ?_
    ·intro self4 g4 hig4 ihg4;unfold qx;refine aF (fun c3=>?_) (fun c3=>?_)
     ·have c3:=nr c3;obtain ⟨x1,x2,x3,x4,x5⟩:=hno.lm _ (getD_in (i:=g4.toNat) cB (by omega));have hll:=hno.ll;have hv:=XE r1 r2 (((s_.bG.getD ((s_.aG.getD g1.toNat 0).toNat) aY).Limits.getD g4.toNat cB).Clock.toNat) (by omega);rw [← r3] at hv;have q1:=I6 (show 0≤_ by exact Int.le_trans (by decide) hv.1) hv.2 (Int.le_trans x3 x4) x5;have q2:=I6 (show 0≤_ by exact Int.le_trans (by decide) hv.1) hv.2 x3 (Int.le_trans x4 x5);have hlm:=h1.lm _ hmem _ (getD_in (i:=g4.toNat) cB (by omega));rw [← r3] at hlm;refine wn ?_;refine wn ?_;refine wn ?_;refine wn ?_;refine aF (fun c4=>?_) (fun c4=>?_)
      ·have c4:=nr c4;refine ak ?_;(exfalso; obtain ⟨l1,l2,l3⟩:=hlm; rcases c4 with (c4 | c4) | c4; (exact l1 c4); (exact Int.not_lt.2 l2 c4); (exact Int.not_lt.2 l3 c4.2))
      ·have c4:=nr c4;refine wn ?_;refine ihg4 _ ?_ ?_
       ·exact ob
       ·exact ob
     ·have c3:=nr c3;have hll:=hno.ll;refine wn ?_;refine ihg1 _ ?_ ?_
      ·exact ob
      ·exact ob
    ·exact ob
   ·have c2:=nr c2;refine ak ?_;(first | rfl | exact ob)
  ·exact ob
theorem zq {s_:dP} (h1:Jf s_):W (jw s_) (fun r=>r=true):=by
 have hsc:=h1.sc;have hsh:=h1.sh;obtain ⟨⟨s1,s2,s3,s4,s5,s6,s7⟩,vl_,n1,n2,⟨n3,n4⟩,m1,⟨z1,z2,z3,z4,z5,z6⟩⟩:=hsc;obtain ⟨y1,y2,y3,y4,y5,y6⟩:=hsh;unfold jw;refine aW (fun (g1:(Int×(List aI)))=>0≤g1.1∧g1.1≤s_.aG.length∧(g1.2.length:Int)≤32*g1.1∧g1.2=(s_.aG.take g1.1.toNat).flatMap (fun m=>(s_.bG.getD m.toNat aY).Draws)) (fun (g1:(Int×(List aI)))=>(s_.aG.length - g1.1).toNat) ?_ ?_
 ·intro self1 g1 hig1 ihg1;obtain ⟨hg1_1,hg1_2,hg1_3,hg1_4⟩:=hig1;unfold oC;refine aF (fun c1=>?_) (fun c1=>?_)
  ·have c1:=nr c1;have hmem:=getD_in (l:=s_.aG) (i:=g1.1.toNat) 0 (by omega);have hmi:=y1 _ hmem;have hnd:=getD_in (l:=s_.bG) (i:=(s_.aG.getD g1.1.toNat 0).toNat) aY (by omega);have hno:=n2 _ hnd;have hns:=n4 _ hnd;have hdl:=hno.dl;refine wn ?_;refine wn ?_;refine wn ?_;refine wn ?_;refine ihg1 _ ?_ ?_
   ·(refine ⟨by exact ob,by exact ob,by exact ob,?_⟩; dsimp only; rw [show (g1.1+1).toNat=g1.1.toNat+1 by omega,gJ 0 (by omega),List.flatMap_append,hg1_4]; simp only [List.flatMap_cons,List.flatMap_nil,List.append_nil])
   ·exact ob
  ·have c1:=nr c1;refine aC (RD ob ob) fun v1 hv1=>?_;subst v1;refine aC (Sp.Mk ob ob ob) fun v2 hv2=>?_;subst v2;refine ak ?_;(rw [hg1_4,show g1.1.toNat=s_.aG.length by omega,List.take_length]; exact h1.dr)
 ·(refine ⟨by exact ob,by exact ob,by exact ob,rfl⟩)
theorem EN {s_:dP} (h1:Jf s_):W (mg s_) (fun r=>r=true):=by
 have hsc:=h1.sc;have hsh:=h1.sh;obtain ⟨⟨s1,s2,s3,s4,s5,s6,s7⟩,vl_,n1,n2,⟨n3,n4⟩,m1,⟨z1,z2,z3,z4,z5,z6⟩⟩:=hsc;obtain ⟨y1,y2,y3,y4,y5,y6⟩:=hsh;unfold mg;refine aW (fun (g1:(Int×(List oW)))=>0≤g1.1∧g1.1≤s_.aJ.Uses.length∧g1.2=(s_.aJ.Uses.take g1.1.toNat).map aZ.Use) (fun (g1:(Int×(List oW)))=>(s_.aJ.Uses.length - g1.1).toNat) ?_ ?_
 ·intro self1 g1 hig1 ihg1;obtain ⟨hg1_1,hg1_2,hg1_3⟩:=hig1;unfold uE;have hgl:g1.2.length=g1.1.toNat:=(by rw [hg1_3,List.length_map,List.length_take]; omega);refine aF (fun c1=>?_) (fun c1=>?_)
  ·have c1:=nr c1;refine wn ?_;refine wn ?_;refine wn ?_;refine ihg1 _ ?_ ?_
   ·(refine ⟨by exact ob,by exact ob,?_⟩; dsimp only; rw [show (g1.1+1).toNat=g1.1.toNat+1 by omega,gJ bY (by omega),List.map_append,hg1_3]; rfl)
   ·exact ob
  ·have c1:=nr c1;refine aC (MK ob ob h1.bv.pn (by rw [hg1_3,show g1.1.toNat=s_.aJ.Uses.length by omega,List.take_length]; exact h1.pn)) fun v1 hv1=>?_;refine ak ?_;(rw [hv1]; rfl)
 ·(refine ⟨by exact ob,by exact ob,rfl⟩)
theorem yw {s_:dP} (h1:Jf s_):W (ji s_) (fun r=>r=true):=by
 have hsc:=h1.sc;have hsh:=h1.sh;obtain ⟨⟨s1,s2,s3,s4,s5,s6,s7⟩,vl_,n1,n2,⟨n3,n4⟩,m1,⟨z1,z2,z3,z4,z5,z6⟩⟩:=hsc;obtain ⟨y1,y2,y3,y4,y5,y6⟩:=hsh;have h3:∀u∈s_.aJ.Uses,XB s_.aN.bD u.Use:=fun u hu=>h1.pn.1 _ (List.mem_map_of_mem hu);unfold ji;refine aW (fun (g1:Int)=>0≤g1) (fun (g1:Int)=>(s_.aG.length - g1).toNat) ?_ ?_
 ·intro self1 g1 hig1 ihg1;unfold nC;refine aF (fun c1=>?_) (fun c1=>?_)
  ·have c1:=nr c1;have hmem:=getD_in (l:=s_.aG) (i:=g1.toNat) 0 (by omega);have hmi:=y1 _ hmem;have hnd:=getD_in (l:=s_.bG) (i:=(s_.aG.getD g1.toNat 0).toNat) aY (by omega);have hno:=n2 _ hnd;have hns:=n4 _ hnd;have hfl:=hno.fl;have hfn:=h1.fn _ hmem;refine wn ?_;refine aW (fun (g6:(Int×(kN→Option Int)))=>0≤g6.1∧g6.1≤s_.aJ.Uses.length∧(∀k,0≤uL g6.2 k∧uL g6.2 k≤g6.1)∧(∀f,uL g6.2 (.s f)=(RP s_.aN.bD (s_.aJ.Uses.take g6.1.toNat) (s_.aG.getD g1.toNat 0) f:Int))) (fun (g6:(Int×(kN→Option Int)))=>(s_.aJ.Uses.length - g6.1).toNat) ?_ ?_
   ·intro self6 g6 hig6 ihg6;obtain ⟨hg6_1,hg6_2,hg6_3,hg6_4⟩:=hig6;unfold nA;refine aF (fun c2=>?_) (fun c2=>?_)
    ·have c2:=nr c2;obtain ⟨u1,u2,u3,u4⟩:=h3 _ (getD_in (i:=g6.1.toNat) bY (by omega));have hmk:=hg6_3 (.s (((s_.aN.bD.Groups.getD ((((s_.aJ.Uses.getD g6.1.toNat bY).Use).dR).toNat) au).Functions).getD ((((s_.aJ.Uses.getD g6.1.toNat bY).Use).Function).toNat) ByteArray.empty));refine wn ?_;refine aF (fun c3=>?_) (fun c3=>?_)
     ·have c3o:=c3;have c3:=nr c3;refine wn ?_;refine wn ?_;refine wn ?_;refine wn ?_;refine ihg6 _ ?_ ?_
      ·(refine ⟨by exact ob,by exact ob,fun k=>?_,fun f=>?_⟩; (dsimp only; rw [rA]; have:=hg6_3 k; split<;>omega); dsimp only; rw [rA,hg6_4,hg6_4,show (g6.1+1).toNat=g6.1.toNat+1 by omega,gJ bY (by omega),OE]; by_cases q:f=Z5 s_.aN.bD (s_.aJ.Uses.getD g6.1.toNat bY).Use; (subst q; refine (if_pos rfl).trans ?_; rw [if_pos ⟨by simpa using c3o,rfl⟩]; show ((RP _ _ _ (Z5 _ _):Nat):Int)+1=_; omega); (refine (if_neg (fun e=>q (kN.s.inj e))).trans ?_; rw [if_neg (fun e=>q e.2.symm)]; rfl))
      ·exact ob
     ·have c3o:=c3;have c3:=nr c3;refine wn ?_;refine ihg6 _ ?_ ?_
      ·(refine ⟨by exact ob,by exact ob,fun k=>?_,fun f=>?_⟩; (have:=hg6_3 k; dsimp only; omega); dsimp only; rw [hg6_4,show (g6.1+1).toNat=g6.1.toNat+1 by omega,gJ bY (by omega),OE,if_neg (fun e=>absurd e.1 (by simpa using c3o))]; rfl)
      ·exact ob
    ·have c2:=nr c2;refine wn ?_;refine aW (fun (g7:(Int×(kN→Option Int)))=>0≤g7.1∧(∀k,0≤uL g7.2 k∧uL g7.2 k≤1000000)∧(∀f,uL g7.2 (.s f)=(RP s_.aN.bD s_.aJ.Uses (s_.aG.getD g1.toNat 0) f:Int) - (cntF ((s_.bG.getD (s_.aG.getD g1.toNat 0).toNat aY).Functions.take g7.1.toNat) f:Int))) (fun (g7:(Int×(kN→Option Int)))=>((s_.bG.getD (s_.aG.getD g1.toNat 0).toNat aY).Functions.length - g7.1).toNat) ?_ ?_
     ·intro self7 g7 hig7 ihg7;obtain ⟨hg7_1,hg7_2,hg7_3⟩:=hig7;unfold mR;refine aF (fun c4=>?_) (fun c4=>?_)
      ·have c4:=nr c4;have hmk:=hg7_2 (.s (((s_.bG.getD ((s_.aG.getD g1.toNat 0).toNat) aY).Functions).getD g7.1.toNat ByteArray.empty));have hlt:g7.1.toNat<(s_.bG.getD (s_.aG.getD g1.toNat 0).toNat aY).Functions.length:=(by omega);have hts:=gJ ByteArray.empty hlt;have hcs:cntF ((s_.bG.getD (s_.aG.getD g1.toNat 0).toNat aY).Functions.take (g7.1.toNat+1)) ((s_.bG.getD (s_.aG.getD g1.toNat 0).toNat aY).Functions.getD g7.1.toNat ByteArray.empty)=cntF ((s_.bG.getD (s_.aG.getD g1.toNat 0).toNat aY).Functions.take g7.1.toNat) ((s_.bG.getD (s_.aG.getD g1.toNat 0).toNat aY).Functions.getD g7.1.toNat ByteArray.empty)+1:=(by rw [hts,OG,if_pos rfl]);have hct:=VK (l:=(s_.bG.getD (s_.aG.getD g1.toNat 0).toNat aY).Functions) (f:=(s_.bG.getD (s_.aG.getD g1.toNat 0).toNat aY).Functions.getD g7.1.toNat ByteArray.empty) (g7.1.toNat+1);have hff:=hfn ((s_.bG.getD (s_.aG.getD g1.toNat 0).toNat aY).Functions.getD g7.1.toNat ByteArray.empty);have hq:=hg7_3 ((s_.bG.getD (s_.aG.getD g1.toNat 0).toNat aY).Functions.getD g7.1.toNat ByteArray.empty);refine wn ?_;refine wn ?_;refine aF (fun c5=>?_) (fun c5=>?_)
       ·have c5:=nr c5;refine ak ?_;(exfalso; rw [rA,if_pos rfl] at c5; omega)
       ·have c5:=nr c5;rw [rA,if_pos rfl] at c5;refine wn ?_;refine ihg7 _ ?_ ?_
        ·(refine ⟨by exact ob,fun k=>?_,fun f=>?_⟩; (dsimp only; rw [rA]; have:=hg7_2 k; split<;>omega); dsimp only; rw [rA,show (g7.1+1).toNat=g7.1.toNat+1 by omega]; by_cases q:f=(s_.bG.getD (s_.aG.getD g1.toNat 0).toNat aY).Functions.getD g7.1.toNat ByteArray.empty; (subst q; rw [if_pos rfl,hcs]; omega); (rw [if_neg (fun e=>q (kN.s.inj e)),hts,OG,if_neg (fun e=>q e.symm),hg7_3 f]; rfl))
        ·exact ob
      ·have c4:=nr c4;refine wn ?_;refine ihg1 _ ?_ ?_
       ·exact ob
       ·exact ob
     ·(refine ⟨by exact ob,fun k=>by have:=hg6_3 k; dsimp only; omega,fun f=>?_⟩; dsimp only; rw [hg6_4 f,show g6.1.toNat=s_.aJ.Uses.length by omega,List.take_length]; show _=_ - ((0:Nat):Int); omega)
   ·(refine ⟨by exact ob,by exact ob,fun k=>⟨Int.le_refl _,Int.le_refl _⟩,fun f=>rfl⟩)
  ·have c1:=nr c1;refine ak ?_;(first | rfl | exact ob)
 ·exact ob
theorem BQ {s_:dP} (h1:Jf s_):W (ku s_) (fun r=>r=true):=by
 have hsc:=h1.sc;have hsh:=h1.sh;obtain ⟨⟨s1,s2,s3,s4,s5,s6,s7⟩,vl_,n1,n2,⟨n3,n4⟩,m1,⟨z1,z2,z3,z4,z5,z6⟩⟩:=hsc;obtain ⟨y1,y2,y3,y4,y5,y6⟩:=hsh;unfold ku;refine aC (Ku s6 h1.bv.rs y5 h1.rs) fun v1 hv1=>?_;refine aF (fun c1=>?_) (fun c1=>?_)
 ·have c1o:=c1;have c1:=nr c1;refine ak ?_;(rw [hv1] at c1o; cases c1o)
 ·have c1o:=c1;have c1:=nr c1;refine aW (fun (g1:Int)=>0≤g1) (fun (g1:Int)=>(s_.aG.length - g1).toNat) ?_ ?_
  ·intro self1 g1 hig1 ihg1;unfold qz;refine aF (fun c2=>?_) (fun c2=>?_)
   ·have c2:=nr c2;have hmem:=getD_in (l:=s_.aG) (i:=g1.toNat) 0 (by omega);have hmi:=y1 _ hmem;have hnd:=getD_in (l:=s_.bG) (i:=(s_.aG.getD g1.toNat 0).toNat) aY (by omega);have hno:=n2 _ hnd;have hns:=n4 _ hnd;refine wn ?_;refine wn ?_;refine aC (uj (by omega) (fun x hx=>(by have:=hno.rs x hx; omega))) fun v4 hv4=>?_;subst v4;refine aF (fun c3=>?_) (fun c3=>?_)
    ·have c3o:=c3;have c3:=nr c3;refine ak ?_;(exfalso; obtain ⟨x,hx,hx2⟩:=List.any_eq_true.1 c3o; rw [h1.rl _ hmem x hx] at hx2; cases hx2)
    ·have c3o:=c3;have c3:=nr c3;refine wn ?_;refine ihg1 _ ?_ ?_
     ·exact ob
     ·exact ob
   ·have c2:=nr c2;refine ak ?_;(first | rfl | exact ob)
  ·exact ob
theorem Aw {s_:dP} (h1:Jf s_):W (jK s_) (fun r=>r=true):=by
 have hsc:=h1.sc;have hsh:=h1.sh;obtain ⟨⟨s1,s2,s3,s4,s5,s6,s7⟩,vl_,n1,n2,⟨n3,n4⟩,m1,⟨z1,z2,z3,z4,z5,z6⟩⟩:=hsc;obtain ⟨y1,y2,y3,y4,y5,y6⟩:=hsh;unfold jK;refine aC (Kw h1.bv.dm y6 h1.dm) fun v1 hv1=>?_;refine aF (fun c1=>?_) (fun c1=>?_)
 ·have c1o:=c1;have c1:=nr c1;refine ak ?_;(rw [hv1] at c1o; cases c1o)
 ·have c1o:=c1;have c1:=nr c1;refine aC (um (by omega) (fun x hx=>(by have q:=y1 x hx; have:=(n2 _ (getD_in (i:=x.toNat) aY (by omega))).dm; omega))) fun v2 hv2=>?_;subst v2;refine ak ?_;(rw [Bool.not_eq_true',List.any_eq_false]; intro x hx hq; simp only [Bool.and_eq_true,decide_eq_true_eq,Bool.not_eq_true'] at hq; exact absurd (hq.2.symm.trans (h1.dl x hx hq.1)) (by decide))
theorem BR {s_:dP} (h1:Jf s_):W (gY s_) (fun r=>r=0):=by
 unfold gY;refine wn ?_;refine aC (DY h1) fun v1 hv1=>?_;refine aF (fun c1=>?_) (fun c1=>?_)
 ·have c1o:=c1;have c1:=nr c1;refine wn ?_;refine ak ?_;(exfalso; rw [hv1] at c1o; cases c1o)
 ·have c1o:=c1;have c1:=nr c1;refine wn ?_;refine wn ?_;refine aC (BO h1) fun v2 hv2=>?_;refine aF (fun c2=>?_) (fun c2=>?_)
  ·have c2o:=c2;have c2:=nr c2;refine wn ?_;refine ak ?_;(exfalso; rw [hv2] at c2o; cases c2o)
  ·have c2o:=c2;have c2:=nr c2;refine wn ?_;refine wn ?_;refine aC (BP h1) fun v3 hv3=>?_;refine aF (fun c3=>?_) (fun c3=>?_)
   ·have c3o:=c3;have c3:=nr c3;refine wn ?_;refine ak ?_;(exfalso; rw [hv3] at c3o; cases c3o)
   ·have c3o:=c3;have c3:=nr c3;refine wn ?_;refine wn ?_;refine aC (zq h1) fun v4 hv4=>?_;refine aF (fun c4=>?_) (fun c4=>?_)
    ·have c4o:=c4;have c4:=nr c4;refine wn ?_;refine ak ?_;(exfalso; rw [hv4] at c4o; cases c4o)
    ·have c4o:=c4;have c4:=nr c4;refine wn ?_;refine wn ?_;refine aC (EN h1) fun v5 hv5=>?_;refine aF (fun c5=>?_) (fun c5=>?_)
     ·have c5o:=c5;have c5:=nr c5;refine wn ?_;refine ak ?_;(exfalso; rw [hv5] at c5o; cases c5o)
     ·have c5o:=c5;have c5:=nr c5;refine wn ?_;refine wn ?_;refine aC (yw h1) fun v6 hv6=>?_;refine aF (fun c6=>?_) (fun c6=>?_)
      ·have c6o:=c6;have c6:=nr c6;refine wn ?_;refine ak ?_;(exfalso; rw [hv6] at c6o; cases c6o)
      ·have c6o:=c6;have c6:=nr c6;refine wn ?_;refine wn ?_;refine aC (BQ h1) fun v7 hv7=>?_;refine aF (fun c7=>?_) (fun c7=>?_)
       ·have c7o:=c7;have c7:=nr c7;refine wn ?_;refine ak ?_;(exfalso; rw [hv7] at c7o; cases c7o)
       ·have c7o:=c7;have c7:=nr c7;refine wn ?_;refine wn ?_;refine aC (Aw h1) fun v8 hv8=>?_;refine aF (fun c8=>?_) (fun c8=>?_)
        ·have c8o:=c8;have c8:=nr c8;refine wn ?_;refine ak ?_;(exfalso; rw [hv8] at c8o; cases c8o)
        ·have c8o:=c8;have c8:=nr c8;refine wn ?_;refine ak ?_;(first | rfl | exact ob)
theorem kL {b_:bF} {l_:(List aO)} {members_:(List Int)} {g_:bX} {between_:Bool} (h1:Tz b_) (h2:YV l_) (h3:Uz b_) (h4:l_.length≤12) (h5:∀n∈l_,NdV b_ l_.length n) (h6:Jf ⟨b_,l_,members_,g_,between_⟩):W (dN b_ l_ members_ g_ between_) (fun r=>r=0):=by
 unfold dN;refine aC (NJ h1 h2 h3 h4 h5) fun v1 hv1=>?_;refine aF (fun c1=>?_) (fun c1=>?_)
 ·have c1:=nr c1;refine ak ?_;(exact absurd hv1 c1)
 ·have c1:=nr c1;refine aC (BR h6) fun v2 hv2=>?_;refine ak ?_;(exact hv2)
end Go.Proofs.YtfblhejmclcdmaaGreatDoor

namespace Go.Proofs.YtfblhejmclcdmaaGreatDoor
open Go.Ab
set_option maxRecDepth 100000
theorem P5:MC []:=fun i j _ h=>by simp at h; omega
theorem RQ {l:List Int} {x:Int} (h:MC l) (hx:∀y∈l,y<x):MC (l++[x]):=by
 intro i j hij hj;rw [List.length_append,List.length_singleton] at hj;by_cases q:j<l.length
 ·rw [gW (i:=j) 0 q,gW (i:=i) 0 (by omega)]; exact h i j hij (by omega)
 ·rw [gy (i:=j) 0 (by omega),gW (i:=i) 0 (by omega)]; exact hx _ (getD_in 0 (by omega))
def J8 (b:bF) (l:List bn):Prop:=l.length≤1∧∀y∈l,XC b.bO.length y
def TJ (b:bF) (l:List aI):Prop:=l.length≤1∧∀y∈l,TA b.bC.length y
def XW (l:List ByteArray):Prop:=l.length≤2∧∀y∈l,MB y
def Z6 (b:bF) (l:List Int):Prop:=l.length≤100∧∀y∈l,0≤y∧y<b.Resets.length
def Z7 (k:Int) (l:List Int):Prop:=l.length≤100∧(∀p∈l,0≤p∧p<k)∧MC l
structure M0 (b:bF) (k:Int) (x:aO):Prop where
 lm:J8 b x.Limits
 dw:TJ b x.Draws
 fw:XW x.Functions
 rs:Z6 b x.Resets
 dm : -1≤x.fK∧x.fK<b.bS.length
 pr:Z7 k x.cO
theorem RS {b:bF}:J8 b []:=⟨Nat.zero_le _,nofun⟩
theorem RU {b:bF}:TJ b []:=⟨Nat.zero_le _,nofun⟩
theorem XY {b:bF} {x:bn} (h:XC b.bO.length x):J8 b [x]:=⟨Nat.le_refl _,fun y hy=>by rw [List.mem_singleton] at hy; rw [hy]; exact h⟩
theorem XZ {b:bF} {x:aI} (h:TA b.bC.length x):TJ b [x]:=⟨Nat.le_refl _,fun y hy=>by rw [List.mem_singleton] at hy; rw [hy]; exact h⟩
theorem X0:XW []:=⟨Nat.zero_le _,nofun⟩
theorem X3 {k:Int}:Z7 k []:=⟨Nat.zero_le _,nofun,P5⟩
theorem Hw {l:List Int} {lo hi:Int} (h:l.all (fun x=>decide (lo≤x)&&decide (x≤hi))=true) {r:Int} (hr:∃i:Nat,i<l.length∧r=l.getD i 0):lo≤r∧r≤hi:=by
 obtain ⟨i,h1,rfl⟩:=hr;have:=List.all_eq_true.1 h _ (getD_in 0 h1);simpa using this
theorem aaK {s:ByteArray} (h:(decide (0<s.size∧s.size≤16)&&(decide (97≤dJ s 0∧dJ s 0≤122)&&(List.range s.size).all fun j=>decide (dJ s j=45∨(48≤dJ s j∧dJ s j≤57)∨(97≤dJ s j∧dJ s j≤122))))=true):MB s:=by
 simp only [Bool.and_eq_true,decide_eq_true_eq,List.all_eq_true,List.mem_range] at h;exact ⟨h.1,h.2.1,fun j hj=>h.2.2 j (by omega)⟩
def TK:List ByteArray:=[({ data:=#[117,97,114,116] }:ByteArray),({ data:=#[115,112,105] }:ByteArray),({ data:=#[105,50,99] }:ByteArray),({ data:=#[112,119,109] }:ByteArray)]
theorem X4:∀s∈TK,MB s:=by
 intro s hs;simp only [TK,List.mem_cons,List.not_mem_nil,or_false] at hs;rcases hs with rfl | rfl | rfl | rfl<;>exact aaK (by decide)
theorem xL {n_:Int} {k_:Int} {o0_:bq} (h1:0≤n_) (h2:n_≤1000) (h3:1≤k_) (h4:k_≤100) (h5:0≤o0_.At) (h6:o0_.L.length≤600):W (iE n_ k_ o0_) (fun r=>r.1.length≤n_.toNat∧(∀p∈r.1,0≤p∧p<n_)∧MC r.1∧0≤r.2.At∧r.2.L.length≤600):=by
 unfold iE;refine aW (fun (g1:(Int×(List Int)×Int×(List Int)))=>0≤g1.1∧g1.1≤n_∧0≤g1.2.2.1∧g1.2.1.length≤600∧(g1.2.2.2.length:Int)≤g1.1∧(∀p∈g1.2.2.2,0≤p∧p<g1.1)∧MC g1.2.2.2) (fun (g1:(Int×(List Int)×Int×(List Int)))=>(n_ - g1.1).toNat) ?_ ?_
 ·intro self1 g1 hig1 ihg1;obtain ⟨hg1_1,hg1_2,hg1_3,hg1_4,hg1_5,hg1_6,hg1_7⟩:=hig1;unfold pq;refine aF (fun c1=>?_) (fun c1=>?_)
  ·have c1:=nr c1;refine aC (aT ob ob ob) fun v3 hv3=>?_;obtain ⟨hv3_1,hv3_2,hv3_3,hv3_4,hv3_5⟩:=hv3;refine wn ?_;refine aF (fun c2=>?_) (fun c2=>?_)
   ·have c2:=nr c2;refine wn ?_;refine wn ?_;refine ihg1 _ ?_ ?_
    ·(refine ⟨by exact ob,by exact ob,by exact ob,by exact ob,by exact ob,fun p hp=>?_,RQ hg1_7 fun p hp=>(hg1_6 p hp).2⟩; dsimp only; rcases List.mem_append.1 hp with hp | hp; (have:=hg1_6 p hp; omega); (rw [List.mem_singleton] at hp; omega))
    ·exact ob
   ·have c2:=nr c2;refine wn ?_;refine ihg1 _ ?_ ?_
    ·(refine ⟨by exact ob,by exact ob,by exact ob,by exact ob,by exact ob,fun p hp=>?_,hg1_7⟩; have:=hg1_6 p hp; dsimp only; omega)
    ·exact ob
  ·have c1:=nr c1;refine ak ?_;(refine ⟨by exact ob,fun p hp=>?_,hg1_7,by exact ob,by exact ob⟩; have:=hg1_6 p hp; omega)
 ·(refine ⟨by exact ob,by exact ob,by exact ob,by exact ob,by exact ob,nofun,P5⟩)
theorem DZ {most_:Int} {o0_:bq} (h1:0≤most_) (h2:most_≤50) (h3:0≤o0_.At) (h4:o0_.L.length≤600):W (kY most_ o0_) (fun r=>r.1.length≤most_.toNat∧(∀y∈r.1,MB y)∧0≤r.2.At∧r.2.L.length≤600):=by
 unfold kY;refine wn ?_;refine aC (aT ob ob ob) fun v1 hv1=>?_;obtain ⟨hv1_1,hv1_2,hv1_3,hv1_4,hv1_5⟩:=hv1;refine aW (fun (g1:(Int×(List Int)×Int×(List ByteArray)))=>0≤g1.1∧0≤g1.2.2.1∧g1.2.1.length≤600∧(g1.2.2.2.length:Int)+g1.1≤most_∧(∀y∈g1.2.2.2,MB y)) (fun (g1:(Int×(List Int)×Int×(List ByteArray)))=>g1.1.toNat) ?_ ?_
 ·intro self1 g1 hig1 ihg1;obtain ⟨hg1_1,hg1_2,hg1_3,hg1_4,hg1_5⟩:=hig1;unfold sK;refine aF (fun c1=>?_) (fun c1=>?_)
  ·have c1:=nr c1;refine aC (iw) fun v6 hv6=>?_;subst v6;refine aC (IW ob ob ob ob) fun v7 hv7=>?_;obtain ⟨hv7_1,hv7_2,hv7_3⟩:=hv7;refine wn ?_;refine wn ?_;refine ihg1 _ ?_ ?_
   ·(refine ⟨by exact ob,by exact ob,by exact ob,by exact ob,fun p hp=>?_⟩; dsimp only at hp; rcases List.mem_append.1 hp with hp | hp; (exact hg1_5 p hp); (rw [List.mem_singleton] at hp; rw [hp]; obtain ⟨i,hi,e⟩:=hv7_1; rw [e]; exact X4 _ (getD_in (l:=TK) _ hi)))
   ·exact ob
  ·have c1:=nr c1;refine ak ?_;(refine ⟨by exact ob,hg1_5,by exact ob,by exact ob⟩)
 ·(refine ⟨by exact ob,by exact ob,by exact ob,by exact ob,nofun⟩)
theorem Gh {b_:bF} {o0_:bq} (h1:b_.bO.length≤100) (h2:0<b_.bO.length) (h3:0≤o0_.At) (h4:o0_.L.length≤600):W (nM b_ o0_) (fun r=>XC b_.bO.length r.1∧0≤r.2.At∧r.2.L.length≤600):=by
 unfold nM;refine aC (aT ob ob ob) fun v1 hv1=>?_;obtain ⟨hv1_1,hv1_2,hv1_3,hv1_4,hv1_5⟩:=hv1;refine aC (dz ob ob ob ob) fun v2 hv2=>?_;obtain ⟨hv2_1,hv2_2,hv2_3⟩:=hv2;refine aC (dz ob ob ob ob) fun v3 hv3=>?_;obtain ⟨hv3_1,hv3_2,hv3_3⟩:=hv3;refine ak ?_;(have a:=Hw (lo:=0) (hi:=24) (by decide) hv2_1; have b:=Hw (lo:=24) (hi:=300) (by decide) hv3_1; exact ⟨⟨by omega,hv1_2 (by omega),a.1,Int.le_trans a.2 b.1,Int.le_trans b.2 (by decide)⟩,by exact ob,by exact ob⟩)
theorem Hy {b_:bF} {o0_:bq} (h1:b_.bC.length≤100) (h2:0<b_.bC.length) (h3:0≤o0_.At) (h4:o0_.L.length≤600):W (pz b_ o0_) (fun r=>TA b_.bC.length r.1∧0≤r.2.At∧r.2.L.length≤600):=by
 unfold pz;refine aC (aT ob ob ob) fun v1 hv1=>?_;obtain ⟨hv1_1,hv1_2,hv1_3,hv1_4,hv1_5⟩:=hv1;refine aC (dz ob ob ob ob) fun v2 hv2=>?_;obtain ⟨hv2_1,hv2_2,hv2_3⟩:=hv2;refine aC (dz ob ob ob ob) fun v3 hv3=>?_;obtain ⟨hv3_1,hv3_2,hv3_3⟩:=hv3;refine aC (dz ob ob ob ob) fun v4 hv4=>?_;obtain ⟨hv4_1,hv4_2,hv4_3⟩:=hv4;refine ak ?_;(have a:=Hw (lo:=0) (hi:=1800) (by decide) hv2_1; have b:=Hw (lo:=1800) (hi:=5000) (by decide) hv3_1; have c:=Hw (lo:=0) (hi:=200) (by decide) hv4_1; exact ⟨⟨by omega,hv1_2 (by omega),a.1,Int.le_trans a.2 b.1,b.2,c.1,Int.le_trans c.2 (by decide)⟩,by exact ob,by exact ob⟩)
theorem nE {b_:bF} {v1:(Int×bq)} {g1:(Int×(List Int)×Int×(List aO))} {self1:(Int×(List Int)×Int×(List aO))→M ((List aO)×bq)} {v46:(Int×bq)} {g14:((List Int)×Int×(List bn))} {g15:((List Int)×Int×(List aI))} {g16:((List Int)×Int×(List ByteArray))} {v53:((List Int)×bq)} {g18:((List Int)×Int×(List Int))} {Q:((List aO)×bq)→Prop} (ihg1:∀s':(Int×(List Int)×Int×(List aO)),(0≤s'.1∧s'.1≤v1.1∧0≤s'.2.2.1∧s'.2.1.length≤600∧(s'.2.2.2.length:Int)=s'.1∧(∀x∈s'.2.2.2,M0 b_ v1.1 x))→(v1.1 - s'.1).toNat<(v1.1 - g1.1).toNat→W (self1 s') Q) (hc:0≤g18.2.1∧g18.1.length≤600∧Z7 v1.1 g18.2.2∧J8 b_ g14.2.2∧TJ b_ g15.2.2∧XW g16.2.2∧Z6 b_ v53.1∧0≤g1.1∧g1.1<v1.1∧v1.1≤51∧(g1.2.2.2.length:Int)=g1.1∧(∀x∈g1.2.2.2,M0 b_ v1.1 x)∧(-1≤v46.1∧v46.1<b_.bS.length)):W (gQ g1 self1 v46 g14 g15 g16 v53 g18) Q:=by
 obtain ⟨hc_1,hc_2,hc_3,hc_4,hc_5,hc_6,hc_7,hc_8,hc_9,hc_10,hc_11,hc_12,hc_13⟩:=hc;unfold gQ;refine wn ?_;refine wn ?_;refine ihg1 _ ?_ ?_
 ·(refine ⟨by exact ob,by exact ob,by exact ob,by exact ob,by exact ob,fun x hx=>?_⟩; rcases List.mem_append.1 hx with hx | hx; (exact hc_12 x hx); (rw [List.mem_singleton] at hx; subst hx; exact ⟨hc_4,hc_5,hc_6,hc_7,hc_13,hc_3⟩))
 ·exact ob
theorem nG {b_:bF} {v1:(Int×bq)} {g1:(Int×(List Int)×Int×(List aO))} {self1:(Int×(List Int)×Int×(List aO))→M ((List aO)×bq)} {v46:(Int×bq)} {g14:((List Int)×Int×(List bn))} {g15:((List Int)×Int×(List aI))} {g16:((List Int)×Int×(List ByteArray))} {v53:((List Int)×bq)} {g19:(Int×(List Int)×Int)} {Q:((List aO)×bq)→Prop} (ihg1:∀s':(Int×(List Int)×Int×(List aO)),(0≤s'.1∧s'.1≤v1.1∧0≤s'.2.2.1∧s'.2.1.length≤600∧(s'.2.2.2.length:Int)=s'.1∧(∀x∈s'.2.2.2,M0 b_ v1.1 x))→(v1.1 - s'.1).toNat<(v1.1 - g1.1).toNat→W (self1 s') Q) (hc:0≤g19.2.2∧g19.2.1.length≤600∧0≤g19.1∧g19.1≤51∧g19.1≤v1.1∧J8 b_ g14.2.2∧TJ b_ g15.2.2∧XW g16.2.2∧Z6 b_ v53.1∧0≤g1.1∧g1.1<v1.1∧v1.1≤51∧(g1.2.2.2.length:Int)=g1.1∧(∀x∈g1.2.2.2,M0 b_ v1.1 x)∧(-1≤v46.1∧v46.1<b_.bS.length)):W (gT g1 self1 v46 g14 g15 g16 v53 g19) Q:=by
 obtain ⟨hc_1,hc_2,hc_3,hc_4,hc_5,hc_6,hc_7,hc_8,hc_9,hc_10,hc_11,hc_12,hc_13,hc_14,hc_15⟩:=hc;unfold gT;refine aC (xL ob ob ob ob ob ob) fun v60 hv60=>?_;obtain ⟨hv60_1,hv60_2,hv60_3,hv60_4,hv60_5⟩:=hv60;exact nE (b_:=b_) (v1:=v1) (fun a b c=>ihg1 a b c) (by (refine ⟨by exact ob,by exact ob,⟨by exact ob,fun p hp=>(by have:=hv60_2 p hp; omega),hv60_3⟩,hc_6,hc_7,hc_8,hc_9,by exact ob,by exact ob,by exact ob,by exact ob,hc_14,hc_15⟩))
theorem nH {b_:bF} {v1:(Int×bq)} {g1:(Int×(List Int)×Int×(List aO))} {self1:(Int×(List Int)×Int×(List aO))→M ((List aO)×bq)} {v46:(Int×bq)} {g14:((List Int)×Int×(List bn))} {g15:((List Int)×Int×(List aI))} {g16:((List Int)×Int×(List ByteArray))} {Q:((List aO)×bq)→Prop} (ihg1:∀s':(Int×(List Int)×Int×(List aO)),(0≤s'.1∧s'.1≤v1.1∧0≤s'.2.2.1∧s'.2.1.length≤600∧(s'.2.2.2.length:Int)=s'.1∧(∀x∈s'.2.2.2,M0 b_ v1.1 x))→(v1.1 - s'.1).toNat<(v1.1 - g1.1).toNat→W (self1 s') Q) (hc:0≤g16.2.1∧g16.1.length≤600∧J8 b_ g14.2.2∧TJ b_ g15.2.2∧XW g16.2.2∧b_.Resets.length≤4∧0≤g1.1∧g1.1<v1.1∧v1.1≤51∧(g1.2.2.2.length:Int)=g1.1∧(∀x∈g1.2.2.2,M0 b_ v1.1 x)∧(-1≤v46.1∧v46.1<b_.bS.length)):W (gU b_ v1 g1 self1 v46 g14 g15 g16) Q:=by
 obtain ⟨hc_1,hc_2,hc_3,hc_4,hc_5,hc_6,hc_7,hc_8,hc_9,hc_10,hc_11,hc_12⟩:=hc;unfold gU;refine aC (xL ob ob ob ob ob ob) fun v53 hv53=>?_;obtain ⟨hv53_1,hv53_2,hv53_3,hv53_4,hv53_5⟩:=hv53;refine aC (aT ob ob ob) fun v58 hv58=>?_;obtain ⟨hv58_1,hv58_2,hv58_3,hv58_4,hv58_5⟩:=hv58;refine aF (fun c1=>?_) (fun c1=>?_)
 ·have c1:=nr c1;refine aC (aT ob ob ob) fun v61 hv61=>?_;obtain ⟨hv61_1,hv61_2,hv61_3,hv61_4,hv61_5⟩:=hv61;refine aF (fun c2=>?_) (fun c2=>?_)
  ·have c2:=nr c2;exact nG (b_:=b_) (v1:=v1) (fun a b c=>ihg1 a b c) (by (refine ⟨by exact ob,by exact ob,by exact ob,by exact ob,by exact ob,hc_3,hc_4,hc_5,⟨by omega,hv53_2⟩,by exact ob,by exact ob,by exact ob,by exact ob,hc_11,hc_12⟩))
  ·have c2:=nr c2;exact nG (b_:=b_) (v1:=v1) (fun a b c=>ihg1 a b c) (by (refine ⟨by exact ob,by exact ob,by exact ob,by exact ob,by exact ob,hc_3,hc_4,hc_5,⟨by omega,hv53_2⟩,by exact ob,by exact ob,by exact ob,by exact ob,hc_11,hc_12⟩))
 ·have c1:=nr c1;exact nE (b_:=b_) (v1:=v1) (fun a b c=>ihg1 a b c) (by (refine ⟨by exact ob,by exact ob,X3,hc_3,hc_4,hc_5,⟨by omega,hv53_2⟩,by exact ob,by exact ob,by exact ob,by exact ob,hc_11,hc_12⟩))
theorem jI {b_:bF} {v1:(Int×bq)} {g1:(Int×(List Int)×Int×(List aO))} {self1:(Int×(List Int)×Int×(List aO))→M ((List aO)×bq)} {v46:(Int×bq)} {g14:((List Int)×Int×(List bn))} {g15:((List Int)×Int×(List aI))} {Q:((List aO)×bq)→Prop} (ihg1:∀s':(Int×(List Int)×Int×(List aO)),(0≤s'.1∧s'.1≤v1.1∧0≤s'.2.2.1∧s'.2.1.length≤600∧(s'.2.2.2.length:Int)=s'.1∧(∀x∈s'.2.2.2,M0 b_ v1.1 x))→(v1.1 - s'.1).toNat<(v1.1 - g1.1).toNat→W (self1 s') Q) (hc:0≤g15.2.1∧g15.1.length≤600∧J8 b_ g14.2.2∧TJ b_ g15.2.2∧b_.Resets.length≤4∧0≤g1.1∧g1.1<v1.1∧v1.1≤51∧(g1.2.2.2.length:Int)=g1.1∧(∀x∈g1.2.2.2,M0 b_ v1.1 x)∧(-1≤v46.1∧v46.1<b_.bS.length)):W (fI b_ v1 g1 self1 v46 g14 g15) Q:=by
 obtain ⟨hc_1,hc_2,hc_3,hc_4,hc_5,hc_6,hc_7,hc_8,hc_9,hc_10,hc_11⟩:=hc;unfold fI;refine aC (aT ob ob ob) fun v62 hv62=>?_;obtain ⟨hv62_1,hv62_2,hv62_3,hv62_4,hv62_5⟩:=hv62;refine aF (fun c1=>?_) (fun c1=>?_)
 ·have c1:=nr c1;refine aC (DZ ob ob ob ob) fun v63 hv63=>?_;obtain ⟨hv63_1,hv63_2,hv63_3,hv63_4⟩:=hv63;exact nH (fun a b c=>ihg1 a b c) (by (refine ⟨by exact ob,by exact ob,hc_3,hc_4,⟨by exact ob,hv63_2⟩,hc_5,by exact ob,by exact ob,by exact ob,by exact ob,hc_10,hc_11⟩))
 ·have c1:=nr c1;exact nH (fun a b c=>ihg1 a b c) (by (refine ⟨by exact ob,by exact ob,hc_3,hc_4,X0,hc_5,by exact ob,by exact ob,by exact ob,by exact ob,hc_10,hc_11⟩))
theorem jX {b_:bF} {v1:(Int×bq)} {g1:(Int×(List Int)×Int×(List aO))} {self1:(Int×(List Int)×Int×(List aO))→M ((List aO)×bq)} {v46:(Int×bq)} {g14:((List Int)×Int×(List bn))} {Q:((List aO)×bq)→Prop} (ihg1:∀s':(Int×(List Int)×Int×(List aO)),(0≤s'.1∧s'.1≤v1.1∧0≤s'.2.2.1∧s'.2.1.length≤600∧(s'.2.2.2.length:Int)=s'.1∧(∀x∈s'.2.2.2,M0 b_ v1.1 x))→(v1.1 - s'.1).toNat<(v1.1 - g1.1).toNat→W (self1 s') Q) (hc:0≤g14.2.1∧g14.1.length≤600∧J8 b_ g14.2.2∧b_.Resets.length≤4∧b_.bC.length≤3∧0≤g1.1∧g1.1<v1.1∧v1.1≤51∧(g1.2.2.2.length:Int)=g1.1∧(∀x∈g1.2.2.2,M0 b_ v1.1 x)∧(-1≤v46.1∧v46.1<b_.bS.length)):W (fT b_ v1 g1 self1 v46 g14) Q:=by
 obtain ⟨hc_1,hc_2,hc_3,hc_4,hc_5,hc_6,hc_7,hc_8,hc_9,hc_10,hc_11⟩:=hc;unfold fT;refine aF (fun c1=>?_) (fun c1=>?_)
 ·have c1:=nr c1;refine aC (aT ob ob ob) fun v64 hv64=>?_;obtain ⟨hv64_1,hv64_2,hv64_3,hv64_4,hv64_5⟩:=hv64;refine aF (fun c2=>?_) (fun c2=>?_)
  ·have c2:=nr c2;refine aC (Hy ob ob ob ob) fun v65 hv65=>?_;obtain ⟨hv65_1,hv65_2,hv65_3⟩:=hv65;refine wn ?_;exact jI (fun a b c=>ihg1 a b c) (by (refine ⟨by exact ob,by exact ob,hc_3,XZ hv65_1,hc_4,by exact ob,by exact ob,by exact ob,by exact ob,hc_10,hc_11⟩))
  ·have c2:=nr c2;exact jI (fun a b c=>ihg1 a b c) (by (refine ⟨by exact ob,by exact ob,hc_3,RU,hc_4,by exact ob,by exact ob,by exact ob,by exact ob,hc_10,hc_11⟩))
 ·have c1:=nr c1;refine wn ?_;exact jI (fun a b c=>ihg1 a b c) (by (refine ⟨by exact ob,by exact ob,hc_3,RU,hc_4,by exact ob,by exact ob,by exact ob,by exact ob,hc_10,hc_11⟩))
theorem D5 {b_:bF} {most_:Int} {o0_:bq} (h1:Py b_) (h2:0≤most_) (h3:most_≤50) (h4:0≤o0_.At) (h5:o0_.L.length≤600):W (kZ b_ most_ o0_) (fun r=>r.1.length≤most_.toNat∧(∀x∈r.1,M0 b_ (r.1.length:Int) x)∧0≤r.2.At∧r.2.L.length≤600):=by
 obtain ⟨q1,q2,q3,q4,q5,q6,q7,q8,q9⟩:=h1;unfold kZ;refine wn ?_;refine aC (aT ob ob ob) fun v1 hv1=>?_;obtain ⟨hv1_1,hv1_2,hv1_3,hv1_4,hv1_5⟩:=hv1;refine aW (fun (g1:(Int×(List Int)×Int×(List aO)))=>0≤g1.1∧g1.1≤v1.1∧0≤g1.2.2.1∧g1.2.1.length≤600∧(g1.2.2.2.length:Int)=g1.1∧(∀x∈g1.2.2.2,M0 b_ v1.1 x)) (fun (g1:(Int×(List Int)×Int×(List aO)))=>(v1.1 - g1.1).toNat) ?_ ?_
 ·intro self1 g1 hig1 ihg1;obtain ⟨hg1_1,hg1_2,hg1_3,hg1_4,hg1_5,hg1_6⟩:=hig1;unfold sM;refine aF (fun c1=>?_) (fun c1=>?_)
  ·have c1:=nr c1;refine wn ?_;refine aC (jB ob ob ob ob ob ob) fun v46 hv46=>?_;obtain ⟨hv46_1,hv46_2,hv46_3,hv46_4,hv46_5⟩:=hv46;refine aF (fun c2=>?_) (fun c2=>?_)
   ·have c2:=nr c2;refine aC (aT ob ob ob) fun v66 hv66=>?_;obtain ⟨hv66_1,hv66_2,hv66_3,hv66_4,hv66_5⟩:=hv66;refine aF (fun c3=>?_) (fun c3=>?_)
    ·have c3:=nr c3;refine aC (Gh ob ob ob ob) fun v67 hv67=>?_;obtain ⟨hv67_1,hv67_2,hv67_3⟩:=hv67;refine wn ?_;exact jX (fun a b c=>ihg1 a b c) (by (refine ⟨by exact ob,by exact ob,XY hv67_1,by exact ob,by exact ob,by exact ob,by exact ob,by exact ob,by exact ob,hg1_6,by omega,by omega⟩))
    ·have c3:=nr c3;exact jX (fun a b c=>ihg1 a b c) (by (refine ⟨by exact ob,by exact ob,RS,by exact ob,by exact ob,by exact ob,by exact ob,by exact ob,by exact ob,hg1_6,by omega,by omega⟩))
   ·have c2:=nr c2;refine wn ?_;exact jX (fun a b c=>ihg1 a b c) (by (refine ⟨by exact ob,by exact ob,RS,by exact ob,by exact ob,by exact ob,by exact ob,by exact ob,by exact ob,hg1_6,by omega,by omega⟩))
  ·have c1:=nr c1;have hlen:(g1.2.2.2.length:Int)=v1.1:=by omega
   refine aF (fun c4=>?_) (fun c4=>?_)
   ·have c4:=nr c4;refine aC (aT ob ob ob) fun v68 hv68=>?_;obtain ⟨hv68_1,hv68_2,hv68_3,hv68_4,hv68_5⟩:=hv68;refine aF (fun c5=>?_) (fun c5=>?_)
    ·have c5:=nr c5;refine wn ?_;refine aW (fun (g20:(Int×Int×(List aO)))=>0≤g20.1 ∧ -1≤g20.2.1∧g20.2.1<v1.1∧g20.1≤v1.1∧(g20.2.2.length:Int)=v1.1∧(∀x∈g20.2.2,M0 b_ v1.1 x)) (fun (g20:(Int×Int×(List aO)))=>(g20.2.1 - g20.1).toNat) ?_ ?_
     ·intro self20 g20 hig20 ihg20;obtain ⟨hg20_1,hg20_2,hg20_3,hg20_4,hg20_5,hg20_6⟩:=hig20;unfold qD;refine aF (fun c6=>?_) (fun c6=>?_)
      ·have c6:=nr c6;refine wn ?_;refine wn ?_;refine wn ?_;refine wn ?_;refine wn ?_;refine wn ?_;refine ihg20 _ ?_ ?_
       ·(refine ⟨by exact ob,by exact ob,by exact ob,by exact ob,by exact ob,Px (Px hg20_6 (hg20_6 _ (getD_in _ (by omega)))) (hg20_6 _ (getD_in _ (by omega)))⟩)
       ·exact ob
      ·have c6:=nr c6;refine aW (fun (g21:(Int×(List aO)))=>0≤g21.1∧(g21.2.length:Int)=v1.1∧(∀x∈g21.2,M0 b_ v1.1 x)) (fun (g21:(Int×(List aO)))=>(v1.1 - g21.1).toNat) ?_ ?_
       ·intro self21 g21 hig21 ihg21;obtain ⟨hg21_1,hg21_2,hg21_3⟩:=hig21;unfold qC;refine aF (fun c7=>?_) (fun c7=>?_)
        ·have c7:=nr c7;have q:=hg21_3 (g21.2.getD g21.1.toNat aY) (getD_in _ (by omega));have qp:=q.pr.1;refine wn ?_;refine wn ?_;refine aW (fun (g24:(Int×(List Int))) => -1≤g24.1∧g24.1<(g21.2.getD g21.1.toNat aY).cO.length∧(g24.2.length:Int)+g24.1<(g21.2.getD g21.1.toNat aY).cO.length∧(∀p∈g24.2,0≤p∧p<v1.1)∧MC g24.2∧(∀p∈g24.2,∀j:Nat,(j:Int)≤g24.1→p<v1.1 - 1 - (g21.2.getD g21.1.toNat aY).cO.getD j 0)) (fun (g24:(Int×(List Int)))=>(g24.1+1).toNat) ?_ ?_
         ·intro self24 g24 hig24 ihg24;obtain ⟨hg24_1,hg24_2,hg24_3,hg24_4,hg24_5,hg24_6⟩:=hig24;unfold qB;refine aF (fun c8=>?_) (fun c8=>?_)
          ·have c8:=nr c8;have q2:=q.pr.2.1 _ (getD_in (i:=g24.1.toNat) 0 (by omega));refine wn ?_;refine wn ?_;refine wn ?_;refine wn ?_;refine wn ?_;refine wn ?_;refine ihg24 _ ?_ ?_
           ·(refine ⟨by exact ob,by exact ob,by exact ob,fun p hp=>?_,RQ hg24_5 (fun p hp=>by have:=hg24_6 p hp g24.1.toNat (by omega); omega),fun p hp j hj=>?_⟩; (rcases List.mem_append.1 hp with hp | hp; (exact hg24_4 p hp); (rw [List.mem_singleton] at hp; omega)); (dsimp only at hj; rcases List.mem_append.1 hp with hp | hp; (exact hg24_6 p hp j (by omega)); (rw [List.mem_singleton] at hp; have:=q.pr.2.2 j g24.1.toNat (by omega) (by omega); omega)))
           ·exact ob
          ·have c8:=nr c8;refine wn ?_;refine wn ?_;refine ihg21 _ ?_ ?_
           ·(refine ⟨by exact ob,by exact ob,Px hg21_3 ⟨q.lm,q.dw,q.fw,q.rs,q.dm,by exact ob,hg24_4,hg24_5⟩⟩)
           ·exact ob
         ·(refine ⟨by exact ob,by exact ob,by exact ob,nofun,P5,nofun⟩)
        ·have c7:=nr c7;refine ak ?_;(refine ⟨by exact ob,fun x hx=>?_,by exact ob,by exact ob⟩; have q:=hg21_3 x hx; rw [hg21_2]; exact q)
       ·(refine ⟨by exact ob,by exact ob,hg20_6⟩)
     ·(refine ⟨by exact ob,by exact ob,by exact ob,by exact ob,by exact ob,hg1_6⟩)
    ·have c5:=nr c5;refine ak ?_;(refine ⟨by exact ob,fun x hx=>?_,by exact ob,by exact ob⟩; have q:=hg1_6 x hx; rw [hlen]; exact q)
   ·have c4:=nr c4;refine wn ?_;refine ak ?_;(refine ⟨by exact ob,fun x hx=>?_,by exact ob,by exact ob⟩; have q:=hg1_6 x hx; rw [hlen]; exact q)
 ·(refine ⟨by exact ob,by exact ob,by exact ob,by exact ob,by exact ob,nofun⟩)
end Go.Proofs.YtfblhejmclcdmaaGreatDoor

namespace Go.Proofs.YtfblhejmclcdmaaGreatDoor
open Go.Ab
set_option maxRecDepth 100000
theorem Sp.Jg {l:List aj} {d:List aI} (h:(Sp.kR l d).2=0):(Sp.kR l d).1.On.length=l.length∧(Sp.kR l d).1.Level.length=l.length:=by
 unfold Sp.kR at h ⊢;cases h1:Sp.beginF l d != 0 with
 | true=>rw [h1] at h; simp at h1; exact absurd h h1
 | false=>
  rw [h1] at h;cases h2:decide (0≤(Sp.Gd l d).2)||!Sp.fq l ⟨Sp.dF l d,(Sp.Gd l d).1.lv⟩ d with
  | true=>rw [h2] at h; cases h
  | false=>
   simp only [Bool.or_eq_false_iff,Bool.not_eq_false'] at h2;have hm:=h2.2;unfold Sp.fq at hm;cases h3:!Sp.yh l ⟨Sp.dF l d,(Sp.Gd l d).1.lv⟩||!Sp.fA l d with
   | true=>rw [h3] at hm; cases hm
   | false=>
    simp only [Bool.or_eq_false_iff,Bool.not_eq_false'] at h3;have:=(Sp.zl.1 h3.1).2;exact ⟨this.On,this.len⟩
theorem Ky {b_:bF} {l_:(List aO)} {m_:(List Int)} (h1:Py b_) (h2:l_.length≤100) (h3:m_.length≤20) (h4:∀x∈m_,0≤x∧x<l_.length) (h5:∀x∈l_,x.Limits.length≤100∧x.Draws.length≤100∧x.Functions.length≤100∧x.Resets.length≤100):W (iW b_ l_ m_) (fun r=>RB r.1∧r.1.Uses.length≤2000):=by
 obtain ⟨b1,b2,b3,b4,b5,b6,b7,b8,b9⟩:=id h1;have hgs:∀g∈b_.bD.Groups,g.bI.length≤1000000∧g.Functions.length≤1000000:=fun g hg=>by have:=b6 g hg; omega
 have hrs:∀g∈b_.Resets,g.After.length≤1000000:=fun g hg=>by have:=b8 g hg; omega
 unfold iW;refine aW (fun (g1:(Int×(List bn)×(List aI)×(List ByteArray)×(List Int)×(List Int)×(List Int)))=>0≤g1.1∧g1.1≤m_.length∧(g1.2.1.length:Int)≤100*g1.1∧(g1.2.2.1.length:Int)≤100*g1.1∧(g1.2.2.2.1.length:Int)≤100*g1.1∧(g1.2.2.2.2.1.length:Int)≤100*g1.1∧(g1.2.2.2.2.2.1.length:Int)≤g1.1∧g1.2.2.2.2.2.2.length=g1.2.2.2.1.length) (fun (g1:(Int×(List bn)×(List aI)×(List ByteArray)×(List Int)×(List Int)×(List Int)))=>(m_.length - g1.1).toNat) ?_ ?_
 ·intro self1 g1 hig1 ihg1;obtain ⟨hg1_1,hg1_2,hg1_3,hg1_4,hg1_5,hg1_6,hg1_7,hg1_8⟩:=hig1;unfold qV;refine aF (fun c1=>?_) (fun c1=>?_)
  ·have c1:=nr c1;have hmm:=h4 _ (getD_in (i:=g1.1.toNat) 0 (by omega));have hnn:=h5 _ (getD_in (i:=(m_.getD g1.1.toNat 0).toNat) aY (by omega));refine wn ?_;refine wn ?_;refine wn ?_;refine wn ?_;refine wn ?_;refine wn ?_;refine wn ?_;refine wn ?_;refine wn ?_;refine wn ?_;refine aF (fun c2=>?_) (fun c2=>?_)
   ·have c2:=nr c2;refine wn ?_;refine wn ?_;unfold gF;refine wn ?_;refine aW (fun (g7:(Int×(List Int)))=>0≤g7.1∧g7.1≤(l_.getD (m_.getD g1.1.toNat 0).toNat aY).Functions.length∧(g7.2.length:Int)=g1.2.2.2.2.2.2.length+g7.1) (fun (g7:(Int×(List Int)))=>((l_.getD (m_.getD g1.1.toNat 0).toNat aY).Functions.length - g7.1).toNat) ?_ ?_
    ·intro self7 g7 hig7 ihg7;obtain ⟨hg7_1,hg7_2,hg7_3⟩:=hig7;unfold jA;refine aF (fun c3=>?_) (fun c3=>?_)
     ·have c3:=nr c3;refine wn ?_;refine wn ?_;refine ihg7 _ ?_ ?_
      ·exact ob
      ·exact ob
     ·have c3:=nr c3;refine wn ?_;refine ihg1 _ ?_ ?_
      ·exact ob
      ·exact ob
    ·exact ob
   ·have c2:=nr c2;unfold gF;refine wn ?_;refine aW (fun (g7:(Int×(List Int)))=>0≤g7.1∧g7.1≤(l_.getD (m_.getD g1.1.toNat 0).toNat aY).Functions.length∧(g7.2.length:Int)=g1.2.2.2.2.2.2.length+g7.1) (fun (g7:(Int×(List Int)))=>((l_.getD (m_.getD g1.1.toNat 0).toNat aY).Functions.length - g7.1).toNat) ?_ ?_
    ·intro self7 g7 hig7 ihg7;obtain ⟨hg7_1,hg7_2,hg7_3⟩:=hig7;unfold jA;refine aF (fun c4=>?_) (fun c4=>?_)
     ·have c4:=nr c4;refine wn ?_;refine wn ?_;refine ihg7 _ ?_ ?_
      ·exact ob
      ·exact ob
     ·have c4:=nr c4;refine wn ?_;refine ihg1 _ ?_ ?_
      ·exact ob
      ·exact ob
    ·exact ob
  ·have c1:=nr c1;refine aC (FI ob ob) fun v1 hv1=>?_;refine aC (Sp.FE ob ob) fun v9 hv9=>?_;subst v9;unfold lg;refine aC (Mr ob ob ob) fun v3 hv3=>?_;refine aC (Ms ob ob) fun v4 hv4=>?_;refine aC (TB ob) fun v5 hv5=>?_;refine aF (fun c5=>?_) (fun c5=>?_)
   ·have c5:=nr c5;refine ak ?_;(refine ⟨⟨by simp,by simp,by simp,by simp,by simp,by simp⟩,by simp⟩)
   ·have c5:=nr c5;obtain ⟨⟨⟨⟨e1,e2⟩,e3⟩,e4⟩,e5⟩:=c5;obtain ⟨q1,_,_⟩:=hv1 e1;have hsl:=(zi q1).1;obtain ⟨k1,k2⟩:=Sp.Jg e2;obtain ⟨a1,a2⟩:=hv3 e3;have r1:=hv4 e4;have r2:=hv5 e5;dsimp only at a1;refine aW (fun (g9:(Int×(List aZ)))=>0≤g9.1∧g9.1≤v3.1.length∧(g9.2.length:Int)=g9.1) (fun (g9:(Int×(List aZ)))=>(v3.1.length - g9.1).toNat) ?_ ?_
    ·intro self9 g9 hig9 ihg9;obtain ⟨hg9_1,hg9_2,hg9_3⟩:=hig9;unfold pJ;refine aF (fun c6=>?_) (fun c6=>?_)
     ·have c6:=nr c6;have hx:=a2 _ (getD_in (i:=g9.1.toNat) 0 (by omega));have hgx:=hgs _ (getD_in (i:=(v3.1.getD g9.1.toNat 0).toNat) au (by omega));refine wn ?_;refine wn ?_;refine wn ?_;refine wn ?_;refine wn ?_;refine aC (Gf ob) fun v8 hv8=>?_;obtain ⟨hv8_1,hv8_2⟩:=hv8;refine wn ?_;refine wn ?_;refine ihg9 _ ?_ ?_
      ·exact ob
      ·exact ob
     ·have c6:=nr c6;refine ak ?_;(refine ⟨⟨?_,?_,?_,?_,?_,?_⟩,?_⟩<;>dsimp only<;>omega)
    ·exact ob
 ·exact ob
end Go.Proofs.YtfblhejmclcdmaaGreatDoor


namespace Go.Proofs.YtfblhejmclcdmaaGreatDoor
open Go.Ab
set_option maxRecDepth 100000
def aaL (l:List aO) (m:List Int):List bn:=m.flatMap fun i=>(l.getD i.toNat aY).Limits
def Hz (l:List aO) (m:List Int):List aI:=m.flatMap fun i=>(l.getD i.toNat aY).Draws
def X7 (l:List aO) (m:List Int):List ByteArray:=m.flatMap fun i=>(l.getD i.toNat aY).Functions
def rsM (l:List aO) (m:List Int):List Int:=m.flatMap fun i=>(l.getD i.toNat aY).Resets
def usM (l:List aO) (m:List Int):List Int:=m.flatMap fun i=>if 0≤(l.getD i.toNat aY).fK then [(l.getD i.toNat aY).fK] else []
def Za (l:List aO) (m:List Int):List Int:=m.flatMap fun i=>List.replicate (l.getD i.toNat aY).Functions.length i
theorem nP {α:Type} (f:Int→List α) {m:List Int} {k:Int} (h0:0≤k) (hk:k<m.length):(m.take (k+1).toNat).flatMap f=(m.take k.toNat).flatMap f++f (m.getD k.toNat 0):=by
 rw [show (k+1).toNat=k.toNat+1 by omega,gJ 0 (by omega),List.flatMap_append];simp only [List.flatMap_cons,List.flatMap_nil,List.append_nil]
def UdK (p:aR) (z:List Int) (ns:List ByteArray) (ow:List Int) (u:aZ) (k:Nat):Prop:=u.Device=ow.getD k 0∧u.Use.dR=z.getD k 0∧0≤u.Use.Function∧u.Use.Function<(p.Groups.getD u.Use.dR.toNat au).Functions.length∧Z5 p u.Use=ns.getD k ByteArray.empty
structure Z8 (b:bF) (l:List aO) (m:List Int) (g:bX):Prop where
 st:settB b.bO g.Setting=true
 ft:FH b.bO g.Setting (aaL l m)=true
 dr:Sp.kR b.bC (Hz l m)=(g.fC,0)
 fg:∃z:List Int,z.length=(X7 l m).length∧g.Uses.length=z.length∧VJ b.bD (X7 l m) z∧∀k:Nat,(k:Int)<g.Uses.length→UdK b.bD z (X7 l m) (Za l m) (g.Uses.getD k bY) k
 rn:g.Released.length=b.Resets.length
 rc:XR b.Resets g.Released
 rl:∀j:Nat,(j:Int)<(rsM l m).length→g.Released.getD ((rsM l m).getD j 0).toNat false=true
 pn:g.eU.length=b.bS.length
 pc:XT b.bS g.eU
 pl:∀j:Nat,(j:Int)<(usM l m).length→g.eU.getD ((usM l m).getD j 0).toNat false=true
theorem Jh {b_:bF} {l_:(List aO)} {m_:(List Int)} (h1:Py b_) (h2:l_.length≤100) (h3:m_.length≤20) (h4:∀x∈m_,0≤x∧x<l_.length) (h5:∀x∈l_,x.Limits.length≤100∧x.Draws.length≤100∧x.Functions.length≤100∧x.Resets.length≤100) (h6:Uz b_):W (iW b_ l_ m_) (fun r=>RB r.1∧r.1.Uses.length≤2000∧(r.2=true→Z8 b_ l_ m_ r.1)):=by
 obtain ⟨b1,b2,b3,b4,b5,b6,b7,b8,b9⟩:=id h1;have hgs:∀g∈b_.bD.Groups,g.bI.length≤1000000∧g.Functions.length≤1000000:=fun g hg=>by have:=b6 g hg; omega
 have hrs:∀g∈b_.Resets,g.After.length≤1000000:=fun g hg=>by have:=b8 g hg; omega
 unfold iW;refine aW (fun (g1:(Int×(List bn)×(List aI)×(List ByteArray)×(List Int)×(List Int)×(List Int)))=>0≤g1.1∧g1.1≤m_.length∧(g1.2.1.length:Int)≤100*g1.1∧(g1.2.2.1.length:Int)≤100*g1.1∧(g1.2.2.2.1.length:Int)≤100*g1.1∧(g1.2.2.2.2.1.length:Int)≤100*g1.1∧(g1.2.2.2.2.2.1.length:Int)≤g1.1∧g1.2.2.2.2.2.2.length=g1.2.2.2.1.length∧g1.2.1=aaL l_ (m_.take g1.1.toNat)∧g1.2.2.1=Hz l_ (m_.take g1.1.toNat)∧g1.2.2.2.1=X7 l_ (m_.take g1.1.toNat)∧g1.2.2.2.2.1=rsM l_ (m_.take g1.1.toNat)∧g1.2.2.2.2.2.1=usM l_ (m_.take g1.1.toNat)∧g1.2.2.2.2.2.2=Za l_ (m_.take g1.1.toNat)) (fun (g1:(Int×(List bn)×(List aI)×(List ByteArray)×(List Int)×(List Int)×(List Int)))=>(m_.length - g1.1).toNat) ?_ ?_
 ·intro self1 g1 hig1 ihg1;obtain ⟨hg1_1,hg1_2,hg1_3,hg1_4,hg1_5,hg1_6,hg1_7,hg1_8,hg1_9,hg1_10,hg1_11,hg1_12,hg1_13,hg1_14⟩:=hig1;unfold qV;refine aF (fun c1=>?_) (fun c1=>?_)
  ·have c1:=nr c1;have hmm:=h4 _ (getD_in (i:=g1.1.toNat) 0 (by omega));have hnn:=h5 _ (getD_in (i:=(m_.getD g1.1.toNat 0).toNat) aY (by omega));refine wn ?_;refine wn ?_;refine wn ?_;refine wn ?_;refine wn ?_;refine wn ?_;refine wn ?_;refine wn ?_;refine wn ?_;refine wn ?_;refine aF (fun c2=>?_) (fun c2=>?_)
   ·have c2:=nr c2;refine wn ?_;refine wn ?_;unfold gF;refine wn ?_;refine aW (fun (g7:(Int×(List Int)))=>0≤g7.1∧g7.1≤(l_.getD (m_.getD g1.1.toNat 0).toNat aY).Functions.length∧(g7.2.length:Int)=g1.2.2.2.2.2.2.length+g7.1∧g7.2=g1.2.2.2.2.2.2++List.replicate g7.1.toNat (m_.getD g1.1.toNat 0)) (fun (g7:(Int×(List Int)))=>((l_.getD (m_.getD g1.1.toNat 0).toNat aY).Functions.length - g7.1).toNat) ?_ ?_
    ·intro self7 g7 hig7 ihg7;obtain ⟨hg7_1,hg7_2,hg7_3,hg7_4⟩:=hig7;unfold jA;refine aF (fun c3=>?_) (fun c3=>?_)
     ·have c3:=nr c3;refine wn ?_;refine wn ?_;refine ihg7 _ ?_ ?_
      ·(refine ⟨by exact ob,by exact ob,by exact ob,?_⟩; dsimp only; rw [hg7_4,show (g7.1+1).toNat=g7.1.toNat+1 by omega,List.replicate_succ',List.append_assoc])
      ·exact ob
     ·have c3:=nr c3;refine wn ?_;refine ihg1 _ ?_ ?_
      ·(refine ⟨by exact ob,by exact ob,by exact ob,by exact ob,by exact ob,by exact ob,by exact ob,by exact ob,?_,?_,?_,?_,?_,?_⟩; (rw [hg1_9]; exact (nP _ hg1_1 c1).symm); (rw [hg1_10]; exact (nP _ hg1_1 c1).symm); (rw [hg1_11]; exact (nP _ hg1_1 c1).symm); (rw [hg1_12]; exact (nP _ hg1_1 c1).symm); (rw [hg1_13]; refine Eq.trans ?_ (nP _ hg1_1 c1).symm; (try dsimp only); rw [if_pos c2]; rfl); ((try dsimp only); rw [hg7_4,hg1_14,show g7.1.toNat=(l_.getD (m_.getD g1.1.toNat 0).toNat aY).Functions.length by omega]; exact (nP _ hg1_1 c1).symm))
      ·exact ob
    ·(refine ⟨by exact ob,by exact ob,by exact ob,by simp⟩)
   ·have c2:=nr c2;unfold gF;refine wn ?_;refine aW (fun (g7:(Int×(List Int)))=>0≤g7.1∧g7.1≤(l_.getD (m_.getD g1.1.toNat 0).toNat aY).Functions.length∧(g7.2.length:Int)=g1.2.2.2.2.2.2.length+g7.1∧g7.2=g1.2.2.2.2.2.2++List.replicate g7.1.toNat (m_.getD g1.1.toNat 0)) (fun (g7:(Int×(List Int)))=>((l_.getD (m_.getD g1.1.toNat 0).toNat aY).Functions.length - g7.1).toNat) ?_ ?_
    ·intro self7 g7 hig7 ihg7;obtain ⟨hg7_1,hg7_2,hg7_3,hg7_4⟩:=hig7;unfold jA;refine aF (fun c4=>?_) (fun c4=>?_)
     ·have c4:=nr c4;refine wn ?_;refine wn ?_;refine ihg7 _ ?_ ?_
      ·(refine ⟨by exact ob,by exact ob,by exact ob,?_⟩; dsimp only; rw [hg7_4,show (g7.1+1).toNat=g7.1.toNat+1 by omega,List.replicate_succ',List.append_assoc])
      ·exact ob
     ·have c4:=nr c4;refine wn ?_;refine ihg1 _ ?_ ?_
      ·(refine ⟨by exact ob,by exact ob,by exact ob,by exact ob,by exact ob,by exact ob,by exact ob,by exact ob,?_,?_,?_,?_,?_,?_⟩; (rw [hg1_9]; exact (nP _ hg1_1 c1).symm); (rw [hg1_10]; exact (nP _ hg1_1 c1).symm); (rw [hg1_11]; exact (nP _ hg1_1 c1).symm); (rw [hg1_12]; exact (nP _ hg1_1 c1).symm); (rw [hg1_13]; refine Eq.trans ?_ (nP _ hg1_1 c1).symm; (try dsimp only); rw [if_neg (by omega),List.append_nil]; rfl); ((try dsimp only); rw [hg7_4,hg1_14,show g7.1.toNat=(l_.getD (m_.getD g1.1.toNat 0).toNat aY).Functions.length by omega]; exact (nP _ hg1_1 c1).symm))
      ·exact ob
    ·(refine ⟨by exact ob,by exact ob,by exact ob,by simp⟩)
  ·have c1:=nr c1;have hk:m_.take g1.1.toNat=m_:=(by rw [show g1.1.toNat=m_.length by omega,List.take_length]);rw [hk] at hg1_9 hg1_10 hg1_11 hg1_12 hg1_13 hg1_14;refine aC (FI ob ob) fun v1 hv1=>?_;refine aC (Sp.FE ob ob) fun v9 hv9=>?_;subst v9;unfold lg;refine aC (Kq hgs ob ob h6.pn rfl) fun v3 hv3=>?_;refine aC (Kr hrs ob) fun v4 hv4=>?_;refine aC (RO ob) fun v5 hv5=>?_;refine aF (fun c5=>?_) (fun c5=>?_)
   ·have c5:=nr c5;refine ak ?_;(refine ⟨⟨by simp,by simp,by simp,by simp,by simp,by simp⟩,by simp,nofun⟩)
   ·have c5:=nr c5;obtain ⟨⟨⟨⟨e1,e2⟩,e3⟩,e4⟩,e5⟩:=c5;obtain ⟨q1,q2,_⟩:=hv1 e1;have hsl:=(zi q1).1;obtain ⟨k1,k2⟩:=Sp.Jg e2;obtain ⟨a1,a2⟩:=hv3 e3;have r1:=hv4 e4;have r2:=hv5 e5;have r11:=r1.1;have r21:=r2.1;dsimp only at a1 a2;refine aW (fun (g9:(Int×(List aZ)))=>0≤g9.1∧g9.1≤v3.1.length∧(g9.2.length:Int)=g9.1∧(∀k:Nat,(k:Int)<g9.1→UdK b_.bD v3.1 g1.2.2.2.1 g1.2.2.2.2.2.2 (g9.2.getD k bY) k)) (fun (g9:(Int×(List aZ)))=>(v3.1.length - g9.1).toNat) ?_ ?_
    ·intro self9 g9 hig9 ihg9;obtain ⟨hg9_1,hg9_2,hg9_3,hg9_4⟩:=hig9;unfold pJ;refine aF (fun c6=>?_) (fun c6=>?_)
     ·have c6:=nr c6;have hx:=a2.ir _ (getD_in (i:=g9.1.toNat) 0 (by omega));have hgx:=hgs _ (getD_in (i:=(v3.1.getD g9.1.toNat 0).toNat) au (by omega));refine wn ?_;refine wn ?_;refine wn ?_;refine wn ?_;refine wn ?_;refine aC (J7 ob) fun v8 hv8=>?_;obtain ⟨hv8_1,hv8_2,hv8_3,hv8_4⟩:=hv8;refine wn ?_;refine wn ?_;refine ihg9 _ ?_ ?_
      ·(have hpos:0≤v8:=(by rcases Int.lt_or_le v8 0 with h | h; (obtain ⟨k,h3,h4⟩:=a2.off g9.1.toNat (by omega); exact absurd h4 (hv8_4 h k h3)); (exact h)); refine ⟨by exact ob,by exact ob,by exact ob,fun k hk=>?_⟩; dsimp only at hk ⊢; by_cases q:(k:Int)<g9.1; (rw [gW bY (by omega)]; exact hg9_4 k q); (have e:k=g9.1.toNat:=by omega); subst e; rw [gy (i:=g9.1.toNat) bY (by omega)]; exact ⟨rfl,rfl,hpos,hv8_2,XV (hv8_3 hpos)⟩)
      ·exact ob
     ·have c6:=nr c6;refine ak ?_;(refine ⟨⟨by dsimp only; omega,by dsimp only; omega,by dsimp only; omega,by dsimp only; omega,by dsimp only; omega,by dsimp only; omega⟩,by dsimp only; omega,fun _=>⟨q1,by rw [← hg1_9]; exact q2,by rw [← hg1_10]; exact Prod.ext rfl e2,⟨v3.1,by rw [← hg1_11]; exact a1,by dsimp only; omega,by rw [← hg1_11]; exact a2,fun k hk=>by rw [← hg1_11,← hg1_14]; exact hg9_4 k (by (try dsimp only at hk); omega)⟩,r1.1,r1.2.1,by rw [← hg1_12]; exact r1.2.2,r2.1,r2.2.1,by rw [← hg1_13]; exact r2.2.2⟩⟩)
    ·(refine ⟨by exact ob,by exact ob,by exact ob,fun k hk=>by (try dsimp only at hk); omega⟩)
 ·(refine ⟨by exact ob,by exact ob,by exact ob,by exact ob,by exact ob,by exact ob,by exact ob,by exact ob,rfl,rfl,rfl,rfl,rfl,rfl⟩)
theorem zw {b_:bF} {l_:List aO} {m_:List Int} (h1:Py b_) (h2:l_.length≤100) (h3:m_.length≤20) (h4:∀x∈m_,0≤x∧x<l_.length) (h5:∀x∈l_,x.Limits.length≤100∧x.Draws.length≤100∧x.Functions.length≤100∧x.Resets.length≤100):W (iW b_ l_ m_) (fun r=>RB r.1∧r.1.Uses.length≤2000∧(Uz b_→r.2=true→Z8 b_ l_ m_ r.1)):=by
 by_cases hb:Uz b_
 ·exact Xd (Jh h1 h2 h3 h4 h5 hb) fun r hr=>⟨hr.1,hr.2.1,fun _=>hr.2.2⟩
 ·exact Xd (Ky h1 h2 h3 h4 h5) fun r hr=>⟨hr.1,hr.2,fun h=>absurd h hb⟩
end Go.Proofs.YtfblhejmclcdmaaGreatDoor

namespace Go.Proofs.YtfblhejmclcdmaaGreatDoor
open Go.Ab
set_option maxRecDepth 100000
end Go.Proofs.YtfblhejmclcdmaaGreatDoor

namespace Go.Proofs.YtfblhejmclcdmaaGreatDoor
open Go.Ab
set_option maxRecDepth 100000
theorem vB:W qQ (fun r=>r=true):=⟨true,M.ZP 100 _ _ (by decide +kernel),rfl⟩
theorem MN {b:bF} (h:Py b):Tz b:=by
 obtain ⟨b1,b2,b3,b4,b5,b6,b7,b8,b9⟩:=h;exact ⟨by omega,fun i hi=>by have:=b2 _ (getD_in (i:=i) ay hi); omega,by omega,fun g hg=>by have:=b6 g hg; omega,by omega,fun g hg=>by have:=b8 g hg; omega,by omega⟩
end Go.Proofs.YtfblhejmclcdmaaGreatDoor

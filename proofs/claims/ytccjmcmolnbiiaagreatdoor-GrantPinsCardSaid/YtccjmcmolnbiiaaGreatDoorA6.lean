/- An abstract machine over the model's code, that it is sound; models of the functions and their proofs. -/
import Derived.Test.YtccjmcmolnbiiaaGreatDoorA5
set_option linter.unusedVariables false
set_option linter.unusedSimpArgs false
namespace Go.Proofs.YtccjmcmolnbiiaaGreatDoor.Sp
open Go.Ab
set_option maxRecDepth 100000
theorem gP {n_:Int} {qE:Int} {sD:Int}:W (gD n_ qE sD) (fun r=>r=withinF n_ qE sD):=by
 unfold gD;refine au ?_;rfl
theorem Mw {s_:aG}:W (ni s_) (fun r=>r=bigS s_):=by
 unfold ni;refine au ?_;rfl
theorem tX {s_:(List aG)} (h1:s_.length≤2000000):W (jA s_) (fun r=>r=s_.any (bigS)):=
 uR (JJ (KY (p:=fun x=>ni x) (P:=bigS) (fun x hx=>jT (Mw)) om) (oW _ _))
theorem PK {s_:aG} {at_:Int} (h1:0≤at_) (h2:at_≤2000000) (h3:s_.bN.length≤2000000):W (xk s_ at_) (fun r=>r=validS s_ at_):=by
 unfold xk;refine wn ?_;refine aF (gP) fun v1 hv1=>?_;subst v1;refine aF (fP fun hc=>jT (gP)) fun v2 hv2=>?_;subst v2;refine aF (fP fun hc=>jT (gP)) fun v3 hv3=>?_;subst v3;refine bF (fun c1=>?_) (fun c1=>?_)
 ·have eH:=c1;have c1:=nr c1;refine au ?_;(unfold validS; rw [show headB s_ at_=true from eH]; rfl)
 ·have eH:=c1;have c1:=nr c1;refine bq (fun (g1:Int)=>0≤g1∧g1≤s_.bN.length∧ascB (if g1.toNat=0 then 0 else s_.bN.getD (g1.toNat - 1) 0) (s_.bN.drop g1.toNat)=ascB 0 s_.bN) (fun (g1:Int)=>(s_.bN.length - g1).toNat) ?_ ?_
  ·intro aj g1 dH bL;obtain ⟨cK,bC,bJ⟩:=dH;unfold Ej;obtain ⟨i,rfl⟩:=Int.eq_ofNat_of_zero_le cK;refine wi (fun c2=>?_) (fun c2=>?_)
   ·have hlt:i<s_.bN.length:=om;have hst:=asc_step hlt rfl;rw [show ((i:Int).toNat)=i from rfl] at bJ;rw [hst] at bJ;have e1:(((i:Int) - 1).toNat)=i - 1:=om;simp only [e1,Int.toNat_natCast] at *;refine wn ?_;refine aF (gP) fun v6 hv6=>?_;subst v6;refine wm ?_;refine bF (fun c3=>?_) (fun c3=>?_)
    ·have iB:=c3;have c3:=nr c3;refine au ?_;(unfold validS; rw [show headB s_ at_=false from eH,← bJ]; rw [iB]; rfl)
    ·have iB:=c3;have c3:=nr c3;refine wn ?_;refine bL _ ?_ ?_
     ·(refine ⟨ob,ob,?_⟩; rw [← bJ,iB]; rw [show ((i:Int)+1).toNat=i+1 by omega,if_neg om]; rfl)
     ·exact ob
   ·refine au ?_;have e:i=s_.bN.length:=om;unfold validS; rw [show headB s_ at_=false from eH,← bJ,show (i:Int).toNat=i from rfl,e,List.drop_length]; rfl
  ·(refine ⟨ob,ob,rfl⟩)
theorem nN {l_:(List aG)} (h1:l_.length≤2000000):W (lF l_) (fun r=>r=checkF l_):=by
 unfold lF;refine aF (fP fun hc=>jT (tX ob)) fun v1 hv1=>?_;subst v1;refine bF (fun c1=>?_) (fun c1=>?_)
 ·have eH:=c1;have c1:=nr c1;refine au ?_;(unfold checkF; rw [eH]; rfl)
 ·have eH:=c1;have c1:=nr c1;have hbig:∀i:Nat,i<l_.length→bigS (l_.getD i aC)=false:=any_false_get aC (by have:=eH; simp only [Bool.or_eq_false_iff] at this; exact this.2);refine bq (fun (g1:Int)=>0≤g1∧g1≤l_.length∧valN g1.toNat (l_.drop g1.toNat)=valN 0 l_) (fun (g1:Int)=>(l_.length - g1).toNat) ?_ ?_
  ·intro aj g1 dH bL;obtain ⟨cK,bC,bJ⟩:=dH;unfold El;obtain ⟨i,rfl⟩:=Int.eq_ofNat_of_zero_le cK;refine wi (fun c2=>?_) (fun c2=>?_)
   ·have hlt:i<l_.length:=om;have hb:=hbig i hlt;have hbl:(l_.getD i aC).bN.length≤16:=(by unfold bigS at hb; have:=of_decide_eq_false hb; omega);rw [show ((i:Int).toNat)=i from rfl,drop_cons aC hlt,valN] at bJ;simp only [Int.toNat_natCast] at *;refine wn ?_;refine aF (PK om om om) fun v4 hv4=>?_;subst v4;refine bF (fun c3=>?_) (fun c3=>?_)
    ·have iB:=c3;have c3:=nr c3;refine au ?_;(unfold checkF; rw [eH,← bJ,show validS (l_.getD i aC) i=false by simpa using iB]; rfl)
    ·have iB:=c3;have c3:=nr c3;refine wn ?_;refine bL _ ?_ ?_
     ·(refine ⟨ob,ob,?_⟩; rw [← bJ,show validS (l_.getD i aC) i=true by simpa using iB,show ((i:Int)+1).toNat=i+1 by omega]; rfl)
     ·exact ob
   ·refine au ?_;have e:i=l_.length:=om;unfold checkF; rw [eH,← bJ,show (i:Int).toNat=i from rfl,e,List.drop_length]; rfl
  ·(refine ⟨ob,ob,rfl⟩)
theorem PL {l_:(List aG)} {r_:dB} (h1:l_.length≤2000000) (h2:r_.dQ.length≤2000000):W (xE l_ r_) (fun r=>r=railsF l_ r_):=by
 unfold xE;refine aF (nN ob) fun v1 hv1=>?_;subst v1;refine bF (fun c1=>?_) (fun c1=>?_)
 ·have eH:=c1;have c1:=nr c1;refine au ?_;(unfold railsF; rw [eH]; rfl)
 ·have eH:=c1;have c1:=nr c1;have hck:checkF l_=0∧r_.On.length=l_.length∧r_.dQ.length=l_.length:=(by have:=eH; simp only [Bool.or_eq_false_iff,bne_eq_false_iff_eq] at this; omega);obtain ⟨b1,b2,b3⟩:=check_bounds hck.1;refine bq (fun (g1:Int)=>0≤g1∧g1≤l_.length∧rlN (l_.drop g1.toNat) (r_.dQ.drop g1.toNat)=rlN l_ r_.dQ) (fun (g1:Int)=>(l_.length - g1).toNat) ?_ ?_
  ·intro aj g1 dH bL;obtain ⟨cK,bC,bJ⟩:=dH;unfold Es;obtain ⟨i,rfl⟩:=Int.eq_ofNat_of_zero_le cK;refine wi (fun c2=>?_) (fun c2=>?_)
   ·have hlt:i<l_.length:=om;have hb:=b2 i hlt;rw [show ((i:Int).toNat)=i from rfl,drop_cons aC hlt,drop_cons 0 (show i<r_.dQ.length by omega),rlN] at bJ;simp only [Int.toNat_natCast] at *;refine wm ?_;refine wn ?_;refine aF (gP) fun v4 hv4=>?_;subst v4;refine bF (fun c3=>?_) (fun c3=>?_)
    ·have iB:=c3;have c3:=nr c3;refine au ?_;(unfold railsF; rw [eH,← bJ]; rw [show withinF (r_.dQ.getD i 0) 0 _=false by simpa using iB]; rfl)
    ·have iB:=c3;have c3:=nr c3;refine wn ?_;refine bL _ ?_ ?_
     ·(refine ⟨ob,ob,?_⟩; rw [← bJ,show withinF (r_.dQ.getD i 0) 0 _=true by simpa using iB,show ((i:Int)+1).toNat=i+1 by omega]; rfl)
     ·exact ob
   ·refine au ?_;have e:i=l_.length:=om;unfold railsF; rw [eH,← bJ,show (i:Int).toNat=i from rfl,e,List.drop_length]; cases List.drop l_.length r_.dQ<;>rfl
  ·(refine ⟨ob,ob,rfl⟩)
theorem Mx {x_:bE} {l6:(List aG)} (h1:l6.length≤2000000):W (nA x_ l6) (fun r=>r=badD l6.length x_):=by
 unfold nA;refine wn ?_;refine aF (gP) fun v1 hv1=>?_;subst v1;refine aF (fP fun hc=>jT (gP)) fun v2 hv2=>?_;subst v2;refine aF (fP fun hc=>jT (gP)) fun v3 hv3=>?_;subst v3;refine aF (fP fun hc=>jT (gP)) fun v4 hv4=>?_;subst v4;refine au ?_;rfl
theorem vw {s_:(List bE)} {f_:(List aG)} (h1:s_.length≤2000000) (h2:f_.length≤2000000):W (jF s_ f_) (fun r=>r=s_.any (badD f_.length)):=
 uR (JJ (KY (p:=fun x=>nA x f_) (P:=badD f_.length) (fun x hx=>jT (Mx h2)) om) (oW _ _))
theorem Ho {l_:(List aG)} {d_:(List bE)} (h1:l_.length≤2000000) (h2:d_.length≤2000000):W (qW l_ d_) (fun r=>r=drawsF l_ d_):=by
 unfold qW;refine aF (nN ob) fun v1 hv1=>?_;subst v1;refine aF (fP fun hc=>jT (vw ob ob)) fun v2 hv2=>?_;subst v2;refine au ?_;rfl
theorem jO {s_:(List aG)}:W (gF s_) (fun r=>r=s_):=by
 unfold gF;refine au ?_;rfl
theorem BI {l_:(List aG)} {d_:(List bE)} (h1:Vld l_ d_):W (qm l_ d_) (fun r=>r=usedF l_ d_):=by
 obtain ⟨vl,vd,vs,_,vx⟩:=h1;unfold qm;refine wn ?_;refine bq (fun (g1:(Int×(List Bool)))=>0≤g1.1∧g1.1≤d_.length∧g1.2=markD l_.length (d_.take g1.1.toNat)) (fun (g1:(Int×(List Bool)))=>(d_.length - g1.1).toNat) ?_ ?_
 ·intro aj g1 dH bL;obtain ⟨cK,bC,bJ⟩:=dH;unfold Gi;refine wi (fun c1=>?_) (fun c1=>?_)
  ·have hlt:g1.1.toNat<d_.length:=om;have hx:=vx _ (getD_mem dD hlt);have hml:g1.2.length=l_.length:=(by rw [bJ]; exact markD_len ..);refine wm ?_;refine wn ?_;refine bL _ ?_ ?_
   ·(refine ⟨ob,ob,?_⟩; dsimp only; have e:markD l_.length (d_.take (g1.1.toNat+1))=(markD l_.length (d_.take g1.1.toNat)).set (d_.getD g1.1.toNat dD).bY.toNat true:=foldl_take _ _ dD hlt; rw [show (g1.1+1).toNat=g1.1.toNat+1 by omega,bJ,e])
   ·exact ob
  ·refine aF (jO) fun v1 hv1=>?_;subst v1;refine wn ?_;refine Xl (fun (k2:Nat) (g2:(List Bool))=>g2=upN (usedStep l_) l_.length k2 (markD l_.length d_)) ?_ ?_ ?_
   ·intro k2 cO g2 adL jD kC;unfold Er;refine aM (by (rw [jD,upN_len (usedStep_len _),markD_len]; omega)) ?_;refine aM (by (rw [jD,upN_len (usedStep_len _),markD_len]; omega)) ?_;unfold vL;refine aM (by (rw [List.length_set,jD,upN_len (usedStep_len _),markD_len]; omega)) ?_;refine bF (fun c2=>?_) (fun c2=>?_)
    ·have iL:=c2;have c2:=nr c2;have hp:=vs (l_.length - 1 - k2) om;have hl2:g2.length=l_.length:=(by rw [jD,upN_len (usedStep_len _),markD_len]);refine wn ?_;refine kC _ ?_;(rw [Int.toNat_natCast,getD_set,if_pos ⟨rfl,om⟩] at iL; show _=usedStep l_ (l_.length - 1 - k2) (upN (usedStep l_) l_.length k2 (markD l_.length d_)); rw [← jD]; unfold usedStep; rw [iL]; rfl)
    ·have iL:=c2;have c2:=nr c2;have hl2:g2.length=l_.length:=(by rw [jD,upN_len (usedStep_len _),markD_len]);refine kC _ ?_;(rw [Int.toNat_natCast,getD_set,if_pos ⟨rfl,om⟩] at iL; show _=usedStep l_ (l_.length - 1 - k2) (upN (usedStep l_) l_.length k2 (markD l_.length d_)); rw [← jD]; unfold usedStep; rw [iL]; rfl)
   ·intro g2 jD;unfold Ep;refine au ?_;(rw [jD]; exact upN_all _ _ _)
   ·(simp only [bJ]; rw [show g1.1.toNat=d_.length by omega,List.take_length]; rfl)
 ·(refine ⟨ob,ob,rfl⟩)
theorem PN {l_:(List aG)} {d_:(List bE)} (h1:Vld l_ d_):W (xG l_ d_) (fun r=>r=loadsF l_ d_):=by
 have hsm:=fun k hk=>loadUp_small h1 k hk;obtain ⟨vl,vd,vs,_,vx⟩:=h1;unfold xG;refine wn ?_;refine bq (fun (g1:(Int×(List Int)))=>0≤g1.1∧g1.1≤d_.length∧g1.2=sumD l_.length (d_.take g1.1.toNat)) (fun (g1:(Int×(List Int)))=>(d_.length - g1.1).toNat) ?_ ?_
 ·intro aj g1 dH bL;obtain ⟨cK,bC,bJ⟩:=dH;unfold Et;refine wi (fun c1=>?_) (fun c1=>?_)
  ·have hlt:g1.1.toNat<d_.length:=om;have hx:=vx _ (getD_mem dD hlt);have hml:g1.2.length=l_.length:=(by rw [bJ]; exact sumD_len ..);have hbd:=sumD_bnd l_.length d_ (fun x hx=>by have:=vx x hx; omega) g1.1.toNat om (d_.getD g1.1.toNat dD).bY.toNat;rw [← bJ] at hbd;refine wm ?_;refine wm ?_;refine wn ?_;refine bL _ ?_ ?_
   ·(refine ⟨ob,ob,?_⟩; dsimp only; have e:sumD l_.length (d_.take (g1.1.toNat+1))=(sumD l_.length (d_.take g1.1.toNat)).set (d_.getD g1.1.toNat dD).bY.toNat ((sumD l_.length (d_.take g1.1.toNat)).getD (d_.getD g1.1.toNat dD).bY.toNat 0+(d_.getD g1.1.toNat dD).Load):=foldl_take _ _ dD hlt; rw [show (g1.1+1).toNat=g1.1.toNat+1 by omega,e,← bJ])
   ·exact ob
  ·refine aF (jO) fun v1 hv1=>?_;subst v1;refine wn ?_;refine Xl (fun (k2:Nat) (g2:(List Int))=>g2=upN (loadStep l_) l_.length k2 (sumD l_.length d_)) ?_ ?_ ?_
   ·intro k2 cO g2 adL jD kC;unfold Ck;refine bF (fun c2=>?_) (fun c2=>?_)
    ·have iL:=c2;have c2:=nr c2;have hp:=vs (l_.length - 1 - k2) om;have hl2:g2.length=l_.length:=(by rw [jD,upN_len (loadStep_len _),sumD_len]);have hbd:=hsm k2 om;rw [← jD] at hbd;have hb1:=hbd (l_.getD (l_.length - 1 - k2) aC).aQ.toNat;have hb2:=hbd (l_.length - 1 - k2);rw [Int.toNat_natCast];refine wm ?_;refine wm ?_;refine kC _ ?_;(show _=loadStep l_ (l_.length - 1 - k2) (upN (loadStep l_) l_.length k2 (sumD l_.length d_)); rw [← jD]; unfold loadStep; rw [iL]; rfl)
    ·have iL:=c2;have c2:=nr c2;refine kC _ ?_;(show _=loadStep l_ (l_.length - 1 - k2) (upN (loadStep l_) l_.length k2 (sumD l_.length d_)); rw [← jD]; unfold loadStep; rw [iL]; rfl)
   ·intro g2 jD;unfold Cj;refine au ?_;(rw [jD]; exact upN_all _ _ _)
   ·(simp only [bJ]; rw [show g1.1.toNat=d_.length by omega,List.take_length]; rfl)
 ·(refine ⟨ob,ob,rfl⟩)
theorem MB {x_:bE} {l6:(List aG)} {VR:(List Bool)} {Mk:(List Int)} (h1:0≤x_.bY) (h2:x_.bY<l6.length) (h3:x_.bY<Mk.length) (h4:0≤Mk.getD x_.bY.toNat 0) (h5:Mk.getD x_.bY.toNat 0<(l6.getD x_.bY.toNat aC).bN.length):W (nD x_ l6 VR Mk) (fun r=>r=dBad l6 ⟨VR,Mk⟩ x_):=by
 unfold nD;refine wm ?_;refine wn ?_;refine aF (gP) fun v1 hv1=>?_;subst v1;refine au ?_;rfl
theorem rT {s_:(List bE)} {vM:(List aG)} {wI:(List Bool)} {wJ:(List Int)} (h1:s_.length≤2000000) (h2:∀x∈s_,0≤x.bY∧x.bY<vM.length) (h3:Rok vM ⟨wI,wJ⟩):W (iT s_ vM wI wJ) (fun r=>r=s_.any (dBad vM ⟨wI,wJ⟩)):=
 uR (JJ (KY (p:=fun x=>nD x vM wI wJ) (P:=dBad vM ⟨wI,wJ⟩) (fun x hx=>jT (by obtain ⟨q1,q2⟩:=h2 x hx; obtain ⟨r1,r2,r3⟩:=h3; have r4:=r3 x.bY.toNat om; exact MB q1 q2 (by dsimp only at r2; omega) r4.1 r4.2.2)) om) (oW _ _))
theorem Hq {l_:(List aG)} {r_:dB} {d_:(List bE)} (h1:l_.length≤2000000) (h2:d_.length≤2000000) (h3:r_.dQ.length≤2000000):W (qY l_ r_ d_) (fun r=>r=meetsF l_ r_ d_):=by
 unfold qY;refine aF (PL ob ob) fun v1 hv1=>?_;subst v1;refine aF (fP fun hc=>jT (Ho ob ob)) fun v2 hv2=>?_;subst v2;refine bF (fun c1=>?_) (fun c1=>?_)
 ·have eH:=c1;have c1:=nr c1;refine au ?_;(unfold meetsF; rw [eH]; rfl)
 ·have eH:=c1;have c1:=nr c1;have hrd:railsF l_ r_=true∧drawsF l_ d_=true:=(by have:=eH; simpa using this);have hv:=vld_of hrd.2;have hr:=(rails_iff.1 hrd.1).2;have hrk:=hr;have hvb:=fun i hi=>volt_bnd hv hr i hi;have hul:=usedF_len l_ d_;have hll:=loadsF_len l_ d_;obtain ⟨r1,r2,r3⟩:=hr;obtain ⟨vl,vd,vs,_,vx⟩:=id hv;have hmf:meetsF l_ r_ d_=meets0 l_ r_ d_:=(by unfold meetsF; rw [eH]; rfl);refine aF (BI hv) fun v3 hv3=>?_;subst v3;refine aF (PN hv) fun v4 hv4=>?_;subst v4;refine bq (fun (g1:Int)=>0≤g1∧g1≤l_.length∧(∀j,j<g1.toNat→mBad l_ r_ (usedF l_ d_) (loadsF l_ d_) j=false)) (fun (g1:Int)=>(l_.length - g1).toNat) ?_ ?_
  ·intro aj g1 dH bL;obtain ⟨cK,bC,bJ⟩:=dH;unfold Eu;obtain ⟨i,rfl⟩:=Int.eq_ofNat_of_zero_le cK;refine wi (fun c2=>?_) (fun c2=>?_)
   ·have hlt:i<l_.length:=om;have hp:=vs i hlt;have hp2:=vs (l_.getD i aC).aQ.toNat;have hr3:=r3 i hlt;have hr4:=r3 (l_.getD i aC).aQ.toNat;have hv1:=hvb i hlt;unfold voltF at hv1;simp only [Int.toNat_natCast] at *;refine wm ?_;refine bF (fun c3=>?_) (fun c3=>?_)
    ·have iB:=c3;have c3:=nr c3;refine wn ?_;refine bF (fun c4=>?_) (fun c4=>?_)
     ·have mW:=c4;have c4:=nr c4;refine au ?_;(rw [hmf]; unfold meets0; rw [all_range_false hlt (by unfold mBad; rw [iB,mW]; rfl)]; rfl)
     ·have mW:=c4;have c4:=nr c4;refine wn ?_;refine bL _ ?_ ?_
      ·(refine ⟨ob,ob,fun j hj=>?_⟩; by_cases q:j<i; (exact bJ j q); (have e:j=i:=by omega); subst e; unfold mBad; rw [iB,mW]; rfl)
      ·exact ob
    ·have iB:=c3;have c3:=nr c3;refine aM (by (intro q1; have:=of_decide_eq_true q1; omega)) ?_;refine aM (by (intro q1 _; have:=of_decide_eq_true q1; omega)) ?_;refine aM (by (intro q1 _; have:=of_decide_eq_true q1; omega)) ?_;refine aM (by (intro q1 _; have:=of_decide_eq_true q1; have:=hr4 om; omega)) ?_;refine aM (by (intro q1 _; have:=of_decide_eq_true q1; omega)) ?_;refine aM (by (intro q1 _; have:=of_decide_eq_true q1; omega)) ?_;refine aM (by (intro q1 _; have:=of_decide_eq_true q1; unfold InI64; omega)) ?_;refine aM (by (intro _; omega)) ?_;refine bF (fun c5=>?_) (fun c5=>?_)
     ·have yg:=c5;have c5:=nr c5;refine au ?_;(rw [hmf]; unfold meets0; rw [all_range_false hlt (by unfold mBad voltF; rw [iB]; simp only [cond_false]; rw [yg]; rfl)]; rfl)
     ·have yg:=c5;have c5:=nr c5;refine wn ?_;refine bL _ ?_ ?_
      ·(refine ⟨ob,ob,fun j hj=>?_⟩; by_cases q:j<i; (exact bJ j q); (have e:j=i:=by omega); subst e; unfold mBad voltF; rw [iB]; exact yg)
      ·exact ob
   ·refine aF (rT om (fun x hx=>by have:=vx x hx; omega) hrk) fun v5 hv5=>?_;subst v5;refine au ?_;(rw [hmf]; unfold meets0; rw [all_range_true fun j hj=>(by rw [bJ j om]; rfl)]; rfl)
  ·(refine ⟨ob,ob,fun j hj=>absurd hj (Nat.not_lt_zero j)⟩)
end Go.Proofs.YtccjmcmolnbiiaaGreatDoor.Sp
namespace Go.Proofs.YtccjmcmolnbiiaaGreatDoor
open Go.Ab
set_option maxRecDepth 100000
structure UY (l:List dN):Prop where
 len:l.length≤32
 af:∀i,i<l.length→∀x∈(l.getD i bV).dK,0≤x∧x<(i:Int)
structure TP (l:List dx):Prop where
 len:l.length≤16
 par:∀i,i<l.length → -1≤(l.getD i dR).aQ∧(l.getD i dR).aQ<(i:Int)
structure VT (n:Int) (g:bR):Prop where
 pl:0<g.bG.length
 fl:0<g.ak.length∧g.ak.length≤8
 pn:∀x∈g.bG,0≤x∧x<n
structure JL (p:aX) (u:jH):Prop where
 g0:0≤u.bU
 gl:u.bU<p.av.length
 f0:0≤u.fJ
 fl:u.fJ<(p.av.getD u.bU.toNat ay).ak.length
theorem dn {P:Nat→Prop} {i:Int} (h:∀j:Nat,(j:Int)<i→P j) (h0:0≤i) (hp:P i.toNat):∀j:Nat,(j:Int)<i+1→P j:=fun j hj=>by
 by_cases q:(j:Int)<i
 ·exact h j q
 ·have e:j=i.toNat:=by omega
  rw [e]; exact hp
structure PO (p:aX):Prop where
 pn:0≤p.bG∧p.bG≤64
 gl:p.av.length≤24
 gr:∀g∈p.av,VT p.bG g
theorem fU {α:Type} {P:α→Prop} {l:List α} (d:α) (h:∀j,j<l.length→P (l.getD j d)):∀x∈l,P x:=fun x hx=>by
 obtain ⟨i,hi,rfl⟩:=List.mem_iff_getElem.1 hx;have:=h i hi;rwa [List.getD_eq_getElem?_getD,List.getElem?_eq_getElem hi] at this
theorem Hr {s:ByteArray} {c:Bool} (h:((s.toList==({ data:=#[] }:ByteArray).toList)||c)=false):0<s.size:=by
 simp only [Bool.or_eq_false_iff] at h;rcases Nat.eq_zero_or_pos s.size with e | e
 ·exfalso;have e2:s=({ data:=#[] }:ByteArray):=by
   cases s with
   | mk d=>cases d with
    | mk l=>cases l with
     | nil=>rfl
     | cons a t=>simp [ByteArray.size] at e
  rw [e2] at h;simp at h
 ·exact e
theorem RS {s:ByteArray} {c d:Bool} (h:((((s.toList==({ data:=#[] }:ByteArray).toList)||(decide ((16:Int)<((s.size:Nat):Int))))||c)||d)=false):0<s.size∧s.size≤16:=by
 simp only [Bool.or_eq_false_iff] at h;refine ⟨Hr (c:=false) (by simp only [Bool.or_eq_false_iff]; exact ⟨h.1.1.1,trivial⟩),?_⟩;have:=of_decide_eq_false h.1.1.2;omega
theorem FL {s_:(List ByteArray)} {v_:ByteArray} (h1:s_.length≤2000000):W (slices_Index_string s_ v_) (fun r=>True):=by
 unfold slices_Index_string;refine bq (fun (g1:Int)=>0≤g1) (fun (g1:Int)=>((s_.length:Int) - g1).toNat) ?_ ?_
 ·intro aj g1 dH bL;unfold lG;refine wi (fun c1=>?_) (fun c1=>?_)
  ·refine wn ?_;refine wi (fun c2=>?_) (fun c2=>?_)
   ·exact au trivial
   ·refine wn ?_;refine bL _ ?_ ?_
    ·exact ob
    ·exact ob
  ·exact au trivial
 ·exact ob
theorem BJ {s_:(List ByteArray)} {v_:ByteArray} (h1:s_.length≤2000000):W (slices_Contains_string s_ v_) (fun r=>True):=by
 unfold slices_Contains_string;refine aF (FL ob) fun v1 hv1=>?_;exact au trivial
theorem AO {s_:ByteArray}:W (nO s_) (fun r=>True):=by
 unfold nO;refine aM (by (intro hc; have:=Hr hc; omega)) ?_;refine aM (by (intro hc; simp only [Bool.or_eq_false_iff] at hc; have:=Hr (s:=s_) (by simp only [Bool.or_eq_false_iff]; exact hc.1); omega)) ?_;refine bF (fun c1=>?_) (fun c1=>?_)
 ·have eH:=c1;have c1:=nr c1;exact au trivial
 ·have eH:=c1;have c1:=nr c1;have hsz:0<s_.size∧s_.size≤16:=RS eH;refine bq (fun (g1:Int)=>0≤g1) (fun (g1:Int)=>(s_.size - g1).toNat) ?_ ?_
  ·intro aj g1 dH bL;unfold Dx;refine wi (fun c2=>?_) (fun c2=>?_)
   ·refine wn ?_;refine wi (fun c3=>?_) (fun c3=>?_)
    ·exact au trivial
    ·refine wn ?_;refine bL _ ?_ ?_
     ·exact ob
     ·exact ob
   ·exact au trivial
  ·exact ob
theorem SC {yx:Int} {g_:bR} (h1:g_.bG.length≤2000000):W (tH yx g_) (fun r=>r=0→VT yx g_):=by
 unfold tH;refine wi (fun c1=>?_) (fun c1=>?_)
 ·refine au ?_;exact ob
 ·refine wi (fun c2=>?_) (fun c2=>?_)
  ·refine au ?_;exact ob
  ·refine bq (fun (g1:Int)=>0≤g1∧(∀j:Nat,(j:Int)<g1→0≤g_.bG.getD j 0∧g_.bG.getD j 0<yx)) (fun (g1:Int)=>(g_.bG.length - g1).toNat) ?_ ?_
   ·intro aj g1 dH bL;obtain ⟨cK,bC⟩:=dH;unfold Bo;refine wi (fun c3=>?_) (fun c3=>?_)
    ·refine wn ?_;refine wi (fun c4=>?_) (fun c4=>?_)
     ·refine au ?_;exact ob
     ·refine wn ?_;refine bL _ ?_ ?_
      ·(refine ⟨ob,fun j hj=>?_⟩; by_cases q:(j:Int)<g1; (exact bC j q); (have e:j=g1.toNat:=by omega); subst e; constructor<;>omega)
      ·exact ob
    ·refine bq (fun (g2:Int)=>1≤g2) (fun (g2:Int)=>(g_.bG.length - g2).toNat) ?_ ?_
     ·intro cO g2 jD kC;unfold yw;refine wi (fun c5=>?_) (fun c5=>?_)
      ·refine wm ?_;refine wn ?_;refine wi (fun c6=>?_) (fun c6=>?_)
       ·refine au ?_;exact ob
       ·refine wn ?_;refine kC _ ?_ ?_
        ·exact ob
        ·exact ob
      ·refine bq (fun (g3:Int)=>0≤g3) (fun (g3:Int)=>(g_.ak.length - g3).toNat) ?_ ?_
       ·intro iy g3 NZ Kj;unfold yu;refine wi (fun c7=>?_) (fun c7=>?_)
        ·refine wn ?_;refine aF (AO) fun v3 hv3=>?_;refine wi (fun c8=>?_) (fun c8=>?_)
         ·refine au ?_;exact ob
         ·refine wn ?_;refine Kj _ ?_ ?_
          ·exact ob
          ·exact ob
        ·refine bq (fun (g4:Int)=>0≤g4) (fun (g4:Int)=>(g_.ak.length - g4).toNat) ?_ ?_
         ·intro gL g4 zn vB;unfold yt;refine wi (fun c9=>?_) (fun c9=>?_)
          ·refine wm ?_;refine aF (BJ ob) fun v6 hv6=>?_;refine wi (fun c10=>?_) (fun c10=>?_)
           ·refine au ?_;exact ob
           ·refine wn ?_;refine vB _ ?_ ?_
            ·exact ob
            ·exact ob
          ·refine au ?_;(intro _; exact ⟨om,om,fU 0 fun j hj=>bC j om⟩)
         ·exact ob
       ·exact ob
     ·exact ob
   ·(refine ⟨ob,fun j hj=>by omega⟩)
theorem SE {p_:aX} (h1:∀g∈p_.av,g.bG.length≤2000000):W (lH p_) (fun r=>r=0→PO p_):=by
 unfold lH;refine wi (fun c1=>?_) (fun c1=>?_)
 ·refine au ?_;exact ob
 ·refine wi (fun c2=>?_) (fun c2=>?_)
  ·refine au ?_;exact ob
  ·refine bq (fun (g1:(Int×(lu→Option Int)))=>0≤g1.1∧(∀j:Nat,(j:Int)<g1.1→VT p_.bG (p_.av.getD j ay))) (fun (g1:(Int×(lu→Option Int)))=>(p_.av.length - g1.1).toNat) ?_ ?_
   ·intro aj g1 dH bL;obtain ⟨cK,bC⟩:=dH;unfold Bp;refine wi (fun c3=>?_) (fun c3=>?_)
    ·have hgl:=h1 _ (getD_in (i:=g1.1.toNat) ay om);refine wn ?_;refine aF (AO) fun v5 hv5=>?_;refine wi (fun c4=>?_) (fun c4=>?_)
     ·refine au ?_;exact ob
     ·refine wi (fun c5=>?_) (fun c5=>?_)
      ·refine au ?_;exact ob
      ·refine aF (SC hgl) fun v6 hv6=>?_;refine bF (fun c6=>?_) (fun c6=>?_)
       ·have PS:=c6;have c6:=nr c6;refine au ?_;(intro e; exact absurd e c6)
       ·have PS:=c6;have c6:=nr c6;refine wn ?_;refine bL _ ?_ ?_
        ·(refine ⟨ob,dn bC cK (hv6 (by simpa using PS))⟩)
        ·exact ob
    ·refine au ?_;(intro _; exact ⟨om,om,fU ay fun j hj=>bC j om⟩)
   ·(refine ⟨ob,fun j hj=>by dsimp only at hj; omega⟩)
theorem Kk {dz:(List Int)} (h1:dz.length≤2000000):W (slices_Clone_int dz) (fun r=>r=dz):=by
 unfold slices_Clone_int;refine wn ?_;refine au ?_;rfl
theorem mJ {s_:(List Int)} (h1:s_.length≤2000000):W (iI s_) (fun r=>r=s_):=by
 unfold iI;refine wn ?_;refine au ?_;rfl
theorem oL {s_:(List Bool)} (h1:s_.length≤2000000):W (jr s_) (fun r=>r=s_):=by
 unfold jr;refine wn ?_;refine au ?_;rfl
theorem CX {s_:(List aS)} (h1:s_.length≤2000000):W (jS s_) (fun r=>r=s_):=by
 unfold jS;refine wn ?_;refine au ?_;rfl
theorem FM {s_:Nat} {dz:(List Int)} (h1:s_≤dz.length) (h2:s_≤2000000):W (kJ s_ dz) (fun r=>r=dz.take s_):=by
 unfold kJ;refine wn ?_;refine au ?_;rfl
theorem JM {l_:(List dN)} (h1:∀g∈l_,g.dK.length≤2000000):W (kW l_) (fun r=>r=0→UY l_):=by
 unfold kW;refine wi (fun c1=>?_) (fun c1=>?_)
 ·refine au ?_;exact ob
 ·refine bq (fun (g1:Int)=>0≤g1∧(∀j:Nat,(j:Int)<g1→∀x∈(l_.getD j bV).dK,0≤x∧x<(j:Int))) (fun (g1:Int)=>(l_.length - g1).toNat) ?_ ?_
  ·intro aj g1 dH bL;obtain ⟨cK,bC⟩:=dH;unfold yB;refine wi (fun c2=>?_) (fun c2=>?_)
   ·have hgl:=h1 _ (getD_in (i:=g1.toNat) bV om);refine wn ?_;refine bq (fun (g6:Int)=>0≤g6∧(∀j:Nat,(j:Int)<g6→0≤(l_.getD g1.toNat bV).dK.getD j 0∧(l_.getD g1.toNat bV).dK.getD j 0<g1)) (fun (g6:Int)=>((l_.getD g1.toNat bV).dK.length - g6).toNat) ?_ ?_
    ·intro gU g6 zH vY;obtain ⟨wU,lg⟩:=zH;unfold yA;refine wi (fun c3=>?_) (fun c3=>?_)
     ·refine wn ?_;refine wi (fun c4=>?_) (fun c4=>?_)
      ·refine au ?_;exact ob
      ·refine wn ?_;refine vY _ ?_ ?_
       ·(refine ⟨ob,dn lg wU om⟩)
       ·exact ob
     ·refine bq (fun (g7:Int)=>1≤g7) (fun (g7:Int)=>((l_.getD g1.toNat bV).dK.length - g7).toNat) ?_ ?_
      ·intro jU g7 MC Jc;unfold vG;refine wi (fun c5=>?_) (fun c5=>?_)
       ·refine wm ?_;refine wn ?_;refine wi (fun c6=>?_) (fun c6=>?_)
        ·refine au ?_;exact ob
        ·refine wn ?_;refine Jc _ ?_ ?_
         ·exact ob
         ·exact ob
       ·refine wn ?_;refine bL _ ?_ ?_
        ·(refine ⟨ob,dn bC cK (fU 0 fun j hj=>by have:=lg j om; omega)⟩)
        ·exact ob
      ·exact ob
    ·(refine ⟨ob,fun j hj=>by omega⟩)
   ·refine au ?_;(intro _; exact ⟨om,fun i hi=>bC i om⟩)
  ·(refine ⟨ob,fun j hj=>by omega⟩)
theorem Ht {l_:(List dx)}:W (j4 l_) (fun r=>r=0→TP l_):=by
 unfold j4;refine wi (fun c1=>?_) (fun c1=>?_)
 ·refine au ?_;exact ob
 ·refine bq (fun (g1:Int)=>0≤g1∧(∀j:Nat,(j:Int)<g1 → -1≤(l_.getD j dR).aQ∧(l_.getD j dR).aQ<(j:Int))) (fun (g1:Int)=>(l_.length - g1).toNat) ?_ ?_
  ·intro aj g1 dH bL;obtain ⟨cK,bC⟩:=dH;unfold vH;refine wi (fun c2=>?_) (fun c2=>?_)
   ·refine wn ?_;refine wi (fun c3=>?_) (fun c3=>?_)
    ·refine au ?_;exact ob
    ·refine wn ?_;refine bL _ ?_ ?_
     ·(refine ⟨ob,dn bC cK om⟩)
     ·exact ob
   ·refine au ?_;(intro _; exact ⟨om,fun i hi=>bC i om⟩)
  ·(refine ⟨ob,fun j hj=>by omega⟩)
structure yh (b:bf):Prop where
 cl:b.bQ.length≤2000000
 ch:ChOK b.bQ
 su:b.bI.length≤2000000
 gr:∀g∈b.aP.av,g.bG.length≤2000000
 re:b.aY.length≤2000000
 ra:∀g∈b.aY,g.dK.length≤2000000
 dm:b.dh.length≤2000000
structure RU (b:bf):Prop where
 cl:checkF b.bQ=0
 su:Sp.checkF b.bI=0
 pn:PO b.aP
 rs:UY b.aY
 dm:TP b.dh
structure TQ (n:Nat) (x:bK):Prop where
 k0:0≤x.dW
 kl:x.dW<n
 l0:0≤x.jw
 lh:x.jw≤x.eP
 hi:x.eP≤4000000000
structure XE (n:Nat) (x:bE):Prop where
 k0:0≤x.bY
 kl:x.bY<n
 l0:0≤x.jw
 lh:x.jw≤x.eP
 hi:x.eP≤5000
 ld:0≤x.Load∧x.Load≤10000
structure TR (b:bf) (n:aL):Prop where
 ll:n.bP.length≤32
 dl:n.d9.length≤32
 fl:n.ak.length≤10
 lm:∀x∈n.bP,TQ b.bQ.length x
 dw:∀x∈n.d9,XE b.bI.length x
 rs:∀x∈n.aY,0≤x∧x<b.aY.length
 dm : -1≤n.fq∧n.fq<b.dh.length
structure Jd (l:List aL):Prop where
 len:l.length≤2000000
 nd:∀n∈l,n.aY.length≤2000000∧n.aW.length≤2000000
structure K6 (g:bM):Prop where
 st:g.dF.length≤2000000
 on:g.eD.On.length≤2000000
 lv:g.eD.dQ.length≤2000000
 us:g.bX.length≤2000000
 re:g.dV.length≤2000000
 po:g.eG.length≤2000000
structure QW (s:fO):Prop where
 sz:yh s.bD
 val:RU s.bD
 nl:s.cZ.length≤12
 nd:∀n∈s.cZ,TR s.bD n
 nsz:Jd s.cZ
 ml:s.aO.length≤10000
 gs:K6 s.aV
structure UZ (s:fO):Prop where
 mem:∀m∈s.aO,0≤m∧m<s.cZ.length
 st:s.aV.dF.length=s.bD.bQ.length
 on:s.aV.eD.On.length=s.bD.bI.length
 lv:s.aV.eD.dQ.length=s.bD.bI.length
 re:s.aV.dV.length=s.bD.aY.length
 po:s.aV.eG.length=s.bD.dh.length
theorem iR {s_:List Int} {v_:Int} (h1:s_.length≤2000000):slices_Contains_int s_ v_ (s_.contains v_):=PD h1
theorem QX {b_:bf} (h1:yh b_):W (nk b_) (fun r=>r=0→RU b_):=by
 obtain ⟨z1,z2,z3,z4,z5,z6,z7⟩:=h1;unfold nk;refine aF (uR (mF ob)) fun v1 hv1=>?_;subst v1;refine bF (fun c1=>?_) (fun c1=>?_)
 ·have eH:=c1;have c1:=nr c1;refine au ?_;(intro e; exact absurd e c1)
 ·have eH:=c1;have c1:=nr c1;refine aF (Sp.nN ob) fun v2 hv2=>?_;subst v2;refine bF (fun c2=>?_) (fun c2=>?_)
  ·have iL:=c2;have c2:=nr c2;refine au ?_;(intro e; exact absurd e c2)
  ·have iL:=c2;have c2:=nr c2;refine aF (SE ob) fun v3 hv3=>?_;refine bF (fun c3=>?_) (fun c3=>?_)
   ·have iB:=c3;have c3:=nr c3;refine au ?_;(intro e; exact absurd e c3)
   ·have iB:=c3;have c3:=nr c3;refine aF (JM ob) fun v4 hv4=>?_;refine bF (fun c4=>?_) (fun c4=>?_)
    ·have mW:=c4;have c4:=nr c4;refine au ?_;(intro e; exact absurd e c4)
    ·have mW:=c4;have c4:=nr c4;refine aF (Ht) fun v5 hv5=>?_;refine au ?_;(intro e; exact ⟨by simpa using eH,by simpa using iL,hv3 (by simpa using iB),hv4 (by simpa using mW),hv5 e⟩)
theorem iq {x_:Int} {xw:Int} {kN:Int}:W (l8 x_ xw kN) (fun r=>r=(decide (xw≤x_)&&decide (x_≤kN))):=by
 unfold l8;refine au ?_;rfl
theorem SF {b_:bf} {n_:aL} {fM:Int} (h1:yh b_) (h2:0≤fM) (h3:fM≤2000000) (h4:n_.aY.length≤2000000) (h5:n_.aW.length≤2000000):W (tO b_ n_ fM) (fun r=>r=0→TR b_ n_):=by
 obtain ⟨z1,z2,z3,z4,z5,z6,z7⟩:=h1;unfold tO;refine wi (fun c1=>?_) (fun c1=>?_)
 ·refine au ?_;exact ob
 ·refine bq (fun (g1:Int)=>0≤g1∧(∀j:Nat,(j:Int)<g1→TQ b_.bQ.length (n_.bP.getD j cB))) (fun (g1:Int)=>(n_.bP.length - g1).toNat) ?_ ?_
  ·intro aj g1 dH bL;obtain ⟨cK,bC⟩:=dH;unfold Bv;refine wi (fun c2=>?_) (fun c2=>?_)
   ·refine wm ?_;refine aF (iq) fun v3 hv3=>?_;subst v3;refine wi (fun c3=>?_) (fun c3=>?_)
    ·refine au ?_;exact ob
    ·refine wn ?_;refine bL _ ?_ ?_
     ·(refine ⟨ob,dn bC cK ⟨om,om,om,om,om⟩⟩)
     ·exact ob
   ·refine bq (fun (g2:Int)=>0≤g2∧(∀j:Nat,(j:Int)<g2→XE b_.bI.length (n_.d9.getD j dD))) (fun (g2:Int)=>(n_.d9.length - g2).toNat) ?_ ?_
    ·intro cO g2 jD kC;obtain ⟨kI,gJ⟩:=jD;unfold yK;refine wi (fun c4=>?_) (fun c4=>?_)
     ·refine wm ?_;refine aF (iq) fun v8 BH=>?_;subst v8;refine aF (fP fun hc=>jT (iq)) fun v9 SB=>?_;subst v9;refine wi (fun c5=>?_) (fun c5=>?_)
      ·refine au ?_;exact ob
      ·refine wn ?_;refine kC _ ?_ ?_
       ·(refine ⟨ob,dn gJ kI ⟨om,om,om,om,om,om,om⟩⟩)
       ·exact ob
     ·refine bq (fun (g3:Int)=>0≤g3) (fun (g3:Int)=>(n_.ak.length - g3).toNat) ?_ ?_
      ·intro iy g3 NZ Kj;unfold yJ;refine wi (fun c6=>?_) (fun c6=>?_)
       ·refine wn ?_;refine aF (AO) fun v12 Ja=>?_;refine wi (fun c7=>?_) (fun c7=>?_)
        ·refine au ?_;exact ob
        ·refine wn ?_;refine Kj _ ?_ ?_
         ·exact ob
         ·exact ob
       ·refine bq (fun (g4:Int)=>0≤g4∧(∀j:Nat,(j:Int)<g4→0≤n_.aY.getD j 0∧n_.aY.getD j 0<b_.aY.length)) (fun (g4:Int)=>(n_.aY.length - g4).toNat) ?_ ?_
        ·intro gL g4 zn vB;obtain ⟨wV,jk⟩:=zn;unfold yI;refine wi (fun c8=>?_) (fun c8=>?_)
         ·refine wm ?_;refine aF (iq) fun v15 Sy=>?_;subst v15;refine wi (fun c9=>?_) (fun c9=>?_)
          ·refine au ?_;exact ob
          ·refine wn ?_;refine vB _ ?_ ?_
           ·(refine ⟨ob,dn jk wV om⟩)
           ·exact ob
         ·refine wn ?_;refine aF (iq) fun v16 TM=>?_;subst v16;refine wi (fun c10=>?_) (fun c10=>?_)
          ·refine au ?_;exact ob
          ·refine bq (fun (g5:Int)=>0≤g5) (fun (g5:Int)=>(n_.aW.length - g5).toNat) ?_ ?_
           ·intro iF g5 Kl Hu;unfold yH;refine wi (fun c11=>?_) (fun c11=>?_)
            ·refine wm ?_;refine aF (iq) fun v19 adM=>?_;subst v19;refine wi (fun c12=>?_) (fun c12=>?_)
             ·refine au ?_;exact ob
             ·refine wn ?_;refine Hu _ ?_ ?_
              ·exact ob
              ·exact ob
            ·refine bq (fun (g6:Int)=>1≤g6) (fun (g6:Int)=>(n_.aW.length - g6).toNat) ?_ ?_
             ·intro gU g6 zH vY;unfold yG;refine wi (fun c13=>?_) (fun c13=>?_)
              ·refine wm ?_;refine wn ?_;refine wi (fun c14=>?_) (fun c14=>?_)
               ·refine au ?_;exact ob
               ·refine wn ?_;refine vY _ ?_ ?_
                ·exact ob
                ·exact ob
              ·refine au ?_;(intro _; exact ⟨om,om,om,fU cB fun j hj=>bC j om,fU dD fun j hj=>gJ j om,fU 0 fun j hj=>jk j om,om⟩)
             ·exact ob
           ·exact ob
        ·(refine ⟨ob,fun j hj=>by omega⟩)
      ·exact ob
    ·(refine ⟨ob,fun j hj=>by omega⟩)
  ·(refine ⟨ob,fun j hj=>by omega⟩)
theorem SG {b_:bf} {l_:(List aL)} (h1:yh b_) (h2:Jd l_):W (pW b_ l_) (fun r=>r=0→RU b_∧l_.length≤12∧(∀n∈l_,TR b_ n)):=by
 obtain ⟨w1,w2⟩:=h2;unfold pW;refine aF (QX ob) fun v1 hv1=>?_;refine bF (fun c1=>?_) (fun c1=>?_)
 ·have eH:=c1;have c1:=nr c1;refine au ?_;(intro e; exact absurd e c1)
 ·have eH:=c1;have c1:=nr c1;refine wi (fun c2=>?_) (fun c2=>?_)
  ·refine au ?_;exact ob
  ·refine bq (fun (g1:Int)=>0≤g1∧(∀j:Nat,(j:Int)<g1→TR b_ (l_.getD j bB))) (fun (g1:Int)=>(l_.length - g1).toNat) ?_ ?_
   ·intro aj g1 dH bL;obtain ⟨cK,bC⟩:=dH;unfold Bw;refine wi (fun c3=>?_) (fun c3=>?_)
    ·have hw:=w2 _ (getD_in (i:=g1.toNat) bB om);refine wn ?_;refine aF (SF ob ob ob ob ob) fun v4 hv4=>?_;refine bF (fun c4=>?_) (fun c4=>?_)
     ·have mW:=c4;have c4:=nr c4;refine au ?_;(intro e; exact absurd e c4)
     ·have mW:=c4;have c4:=nr c4;refine wn ?_;refine bL _ ?_ ?_
      ·(refine ⟨ob,dn bC cK (hv4 (by simpa using mW))⟩)
      ·exact ob
    ·refine au ?_;(intro _; exact ⟨hv1 (by simpa using eH),om,fU bB fun j hj=>bC j om⟩)
   ·(refine ⟨ob,fun j hj=>by omega⟩)
theorem ND {r_:dB} (h1:r_.On.length≤2000000) (h2:r_.dQ.length≤2000000):W (Cn r_) (fun r=>r=r_):=by
 unfold Cn;refine aF (oL ob) fun v1 hv1=>?_;subst v1;refine aF (mJ ob) fun v2 hv2=>?_;subst v2;refine au ?_;rfl
theorem TS {g_:bM} (h1:K6 g_):W (IC g_) (fun r=>r=g_):=by
 obtain ⟨z1,z2,z3,z4,z5,z6⟩:=h1;unfold IC;refine aF (mJ ob) fun v1 hv1=>?_;subst v1;refine aF (ND ob ob) fun v2 hv2=>?_;subst v2;refine aF (CX ob) fun v3 hv3=>?_;subst v3;refine aF (oL ob) fun v4 hv4=>?_;subst v4;refine aF (oL ob) fun v5 hv5=>?_;subst v5;refine au ?_;rfl
theorem tY (f:lu→Option Int) (k k':lu) (n:Int):wZ (Me f k n) k'=if k'=k then n else wZ f k':=by
 unfold wZ Me;split<;>rfl
theorem XF {l:List aH} {s:List Int} (h:(ratesE l s).2=0):checkF l=0∧settB l s=true∧(ratesE l s).1=ratesF l s:=by
 unfold ratesE at h ⊢;cases h1:checkF l != 0 with
 | true=>rw [h1] at h; simp at h1; exact absurd h h1
 | false=>
  cases h2:settB l s with
  | false=>rw [h1,h2] at h; cases h
  | true=>exact ⟨by simpa using h1,rfl,rfl⟩
theorem XG {l:List aH} {s:List Int} (h1:checkF l=0) (h2:settB l s=true) (j:Nat) (hj:j<l.length):1≤((ratesF l s).getD j dO).gW∧((ratesF l s).getD j dO).gW≤16777216:=by
 have:=validR_iff (st_same (fine_of h1) h2 j hj).2.2.1;exact ⟨this.2.2.1,this.2.2.2.1⟩
theorem DZ {Gn:Int} {vK:(List aH)} {pV:(List aG)} {Pj:Int} {Pk:(List bR)} {Pm:(List dN)} {Pn:(List dx)} {Bz:(List aL)} {Po:(List Int)} {Pp:(List Int)} {Pq:(List Bool)} {Gp:(List Int)} {Gq:(List aS)} {yN:(List Bool)} {yO:(List Bool)} {Gr:Bool} (h1:0≤Gn) (h2:Gn<yN.length):W (jg Gn vK pV Pj Pk Pm Pn Bz Po Pp Pq Gp Gq yN yO Gr) (fun r=>r=!(yN.getD Gn.toNat false)):=by
 unfold jg;refine wn ?_;refine au ?_;rfl
theorem vZ {s_:(List Int)} {vM:(List aH)} {wI:(List aG)} {wJ:Int} {J5:(List bR)} {J6:(List dN)} {J7:(List dx)} {FK:(List aL)} {J8:(List Int)} {J9:(List Int)} {Ka:(List Bool)} {pX:(List Int)} {pY:(List aS)} {nQ:(List Bool)} {nR:(List Bool)} {p8:Bool} (h1:s_.length≤2000000) (h2:∀x∈s_,0≤x∧x<nQ.length):W (jK s_ vM wI wJ J5 J6 J7 FK J8 J9 Ka pX pY nQ nR p8) (fun r=>r=s_.any (fun x=>!(nQ.getD x.toNat false))):=
 uR (JJ (KY (p:=fun x=>jg x vM wI wJ J5 J6 J7 FK J8 J9 Ka pX pY nQ nR p8) (P:=fun x=>!(nQ.getD x.toNat false)) (fun x hx=>jT (DZ (h2 x hx).1 (h2 x hx).2)) om) (oW _ _))
theorem CY {m_:Int} {vK:(List aH)} {pV:(List aG)} {Pj:Int} {Pk:(List bR)} {Pm:(List dN)} {Pn:(List dx)} {Bz:(List aL)} {Po:(List Int)} {Pp:(List Int)} {Pq:(List Bool)} {Gp:(List Int)} {Gq:(List aS)} {yN:(List Bool)} {yO:(List Bool)} {Gr:Bool} (h1:0≤m_) (h2:m_<Bz.length) (h3:(Bz.getD m_.toNat bB).fq<yO.length):W (iM m_ vK pV Pj Pk Pm Pn Bz Po Pp Pq Gp Gq yN yO Gr) (fun r=>r=((decide ((0:Int)≤(Bz.getD m_.toNat bB).fq))&&(!(yO.getD (((Bz.getD m_.toNat bB).fq).toNat) false)))):=by
 unfold iM;refine wm ?_;refine au ?_;rfl
theorem wh {s_:(List Int)} {vM:(List aH)} {wI:(List aG)} {wJ:Int} {J5:(List bR)} {J6:(List dN)} {J7:(List dx)} {FK:(List aL)} {J8:(List Int)} {J9:(List Int)} {Ka:(List Bool)} {pX:(List Int)} {pY:(List aS)} {nQ:(List Bool)} {nR:(List Bool)} {p8:Bool} (h1:s_.length≤2000000) (h2:∀x∈s_,0≤x∧x<FK.length∧(FK.getD x.toNat bB).fq<nR.length):W (jL s_ vM wI wJ J5 J6 J7 FK J8 J9 Ka pX pY nQ nR p8) (fun r=>r=s_.any (fun x=>((decide ((0:Int)≤(FK.getD x.toNat bB).fq))&&(!(nR.getD (((FK.getD x.toNat bB).fq).toNat) false))))):=
 uR (JJ (KY (p:=fun x=>iM x vM wI wJ J5 J6 J7 FK J8 J9 Ka pX pY nQ nR p8) (P:=fun x=>((decide ((0:Int)≤(FK.getD x.toNat bB).fq))&&(!(nR.getD (((FK.getD x.toNat bB).fq).toNat) false)))) (fun x hx=>jT (CY (h2 x hx).1 (h2 x hx).2.1 (h2 x hx).2.2)) om) (oW _ _))
theorem IQ {α:Type} (d:α) (l:List α) (n j:Nat) (h:j<n):(l.take n).getD j d=l.getD j d:=by
 rw [List.getD_eq_getElem?_getD,List.getD_eq_getElem?_getD,List.getElem?_take_of_lt h]
deriving instance DecidableEq for jH,aS,bM
theorem SH {α:Type} [DecidableEq α] {a b:List α} (h:¬ (a.length:Int)=b.length):(a==b)=false:=by
 simp only [beq_eq_false_iff_ne,ne_eq];intro e;rw [e] at h;exact h rfl
theorem YA {α:Type} [DecidableEq α] {x y:α} {a b:List α} (h:¬ x=y):(x::a==y::b)=false:=by
 simp only [beq_eq_false_iff_ne,ne_eq,List.cons.injEq];exact fun e=>h e.1
theorem YB {α:Type} [DecidableEq α] {x y:α} {a b:List α} (h:x=y):(x::a==y::b)=(a==b):=by
 subst h;rw [Bool.eq_iff_iff];simp
theorem D5 {s_:ByteArray}:W (lW s_) (fun r=>True):=by
 unfold lW;refine aM (by (intro hc; simp only [Bool.or_eq_false_iff,beq_eq_false_iff_ne] at hc; omega)) ?_;refine aM (by (intro hc; simp only [Bool.or_eq_false_iff,beq_eq_false_iff_ne] at hc; omega)) ?_;refine bF (fun c1=>?_) (fun c1=>?_)
 ·have eH:=c1;have c1:=nr c1;exact au trivial
 ·have eH:=c1;have c1:=nr c1;have hsz:s_.size≤16:=(by simp only [Bool.or_eq_false_iff] at eH; have:=of_decide_eq_false eH.1.1.2; omega);refine bq (fun (g1:Int)=>0≤g1) (fun (g1:Int)=>(s_.size - g1).toNat) ?_ ?_
  ·intro aj g1 dH bL;unfold BD;refine wi (fun c2=>?_) (fun c2=>?_)
   ·refine wm ?_;refine wm ?_;refine wn ?_;refine wi (fun c3=>?_) (fun c3=>?_)
    ·exact au trivial
    ·refine wn ?_;refine bL _ ?_ ?_
     ·exact ob
     ·exact ob
   ·exact au trivial
  ·exact ob
theorem QY {p_:aX} {i_:Int} (h1:0≤i_) (h2:i_<p_.av.length) (h3:p_.av.length≤2000000) (h4:∀g∈p_.av,g.bG.length≤2000000∧g.ak.length≤2000000):W (qA p_ i_) (fun r=>r=0→VT p_.bG (p_.av.getD i_.toNat ay)):=by
 have hgl:=h4 _ (getD_in (i:=i_.toNat) ay om);unfold qA;refine wn ?_;refine aF (D5) fun v1 hv1=>?_;refine wi (fun c1=>?_) (fun c1=>?_)
 ·refine au ?_;exact ob
 ·refine bq (fun (g1:Int)=>0≤g1) (fun (g1:Int)=>(i_ - g1).toNat) ?_ ?_
  ·intro aj g1 dH bL;unfold yU;refine wi (fun c2=>?_) (fun c2=>?_)
   ·refine wn ?_;refine wi (fun c3=>?_) (fun c3=>?_)
    ·refine au ?_;exact ob
    ·refine wn ?_;refine bL _ ?_ ?_
     ·exact ob
     ·exact ob
   ·refine wi (fun c4=>?_) (fun c4=>?_)
    ·refine au ?_;exact ob
    ·refine wi (fun c5=>?_) (fun c5=>?_)
     ·refine au ?_;exact ob
     ·refine bq (fun (g2:Int)=>0≤g2∧(∀j:Nat,(j:Int)<g2→0≤(p_.av.getD i_.toNat ay).bG.getD j 0∧(p_.av.getD i_.toNat ay).bG.getD j 0<p_.bG)) (fun (g2:Int)=>((p_.av.getD i_.toNat ay).bG.length - g2).toNat) ?_ ?_
      ·intro cO g2 jD kC;obtain ⟨kI,gJ⟩:=jD;unfold vS;refine wi (fun c6=>?_) (fun c6=>?_)
       ·refine wm ?_;refine wi (fun c7=>?_) (fun c7=>?_)
        ·refine au ?_;exact ob
        ·refine wn ?_;refine kC _ ?_ ?_
         ·(refine ⟨ob,dn gJ kI om⟩)
         ·exact ob
       ·refine bq (fun (g3:Int)=>1≤g3) (fun (g3:Int)=>((p_.av.getD i_.toNat ay).bG.length - g3).toNat) ?_ ?_
        ·intro iy g3 NZ Kj;unfold vR;refine wi (fun c8=>?_) (fun c8=>?_)
         ·refine wm ?_;refine wn ?_;refine wi (fun c9=>?_) (fun c9=>?_)
          ·refine au ?_;exact ob
          ·refine wn ?_;refine Kj _ ?_ ?_
           ·exact ob
           ·exact ob
         ·refine bq (fun (g4:Int)=>0≤g4) (fun (g4:Int)=>((p_.av.getD i_.toNat ay).ak.length - g4).toNat) ?_ ?_
          ·intro gL g4 zn vB;unfold vQ;refine wi (fun c10=>?_) (fun c10=>?_)
           ·refine wn ?_;refine aF (D5) fun v4 hv4=>?_;refine wi (fun c11=>?_) (fun c11=>?_)
            ·refine au ?_;exact ob
            ·refine wn ?_;refine vB _ ?_ ?_
             ·exact ob
             ·exact ob
           ·refine bq (fun (g5:Int)=>0≤g5) (fun (g5:Int)=>((p_.av.getD i_.toNat ay).ak.length - g5).toNat) ?_ ?_
            ·intro iF g5 Kl Hu;unfold vP;refine wi (fun c12=>?_) (fun c12=>?_)
             ·refine bq (fun (g8:Int)=>0≤g8) (fun (g8:Int)=>(g5 - g8).toNat) ?_ ?_
              ·intro Nw g8 YC XH;unfold vO;refine wi (fun c13=>?_) (fun c13=>?_)
               ·refine wm ?_;refine wi (fun c14=>?_) (fun c14=>?_)
                ·refine au ?_;exact ob
                ·refine wn ?_;refine XH _ ?_ ?_
                 ·exact ob
                 ·exact ob
               ·refine wn ?_;refine Hu _ ?_ ?_
                ·exact ob
                ·exact ob
              ·exact ob
             ·refine au ?_;(intro _; exact ⟨om,om,fU 0 fun j hj=>gJ j om⟩)
            ·exact ob
          ·exact ob
        ·exact ob
      ·(refine ⟨ob,fun j hj=>by (try dsimp only at hj); omega⟩)
  ·exact ob
theorem QZ {p_:aX} (h1:∀g∈p_.av,g.bG.length≤2000000∧g.ak.length≤2000000):W (kr p_) (fun r=>r=0→PO p_):=by
 unfold kr;refine wi (fun c1=>?_) (fun c1=>?_)
 ·refine au ?_;exact ob
 ·refine wi (fun c2=>?_) (fun c2=>?_)
  ·refine au ?_;exact ob
  ·refine bq (fun (g1:Int)=>0≤g1∧(∀j:Nat,(j:Int)<g1→VT p_.bG (p_.av.getD j ay))) (fun (g1:Int)=>(p_.av.length - g1).toNat) ?_ ?_
   ·intro aj g1 dH bL;obtain ⟨cK,bC⟩:=dH;unfold yV;refine wi (fun c3=>?_) (fun c3=>?_)
    ·refine aF (QY om om om h1) fun v3 hv3=>?_;refine bF (fun c4=>?_) (fun c4=>?_)
     ·have mW:=c4;have c4:=nr c4;refine au ?_;(intro e; exact absurd e c4)
     ·have mW:=c4;have c4:=nr c4;refine wn ?_;refine bL _ ?_ ?_
      ·(refine ⟨ob,dn bC cK (hv3 (by simpa using mW))⟩)
      ·exact ob
    ·refine au ?_;(intro _; exact ⟨om,om,fU ay fun j hj=>bC j om⟩)
   ·(refine ⟨ob,fun j hj=>by (try dsimp only at hj); omega⟩)
theorem Q0 {p_:aX} {l_:(List ByteArray)} (h1:∀g∈p_.av,g.bG.length≤2000000∧g.ak.length≤2000000) (h2:l_.length≤2000000):W (AA p_ l_) (fun r=>r=true→PO p_∧l_.length≤10):=by
 unfold AA;refine aF (QZ h1) fun v1 hv1=>?_;refine bF (fun c1=>?_) (fun c1=>?_)
 ·have eH:=c1;have c1:=nr c1;refine au ?_;exact ob
 ·have eH:=c1;have c1:=nr c1;have c1b:=eH;simp only [Bool.or_eq_false_iff] at c1b;refine bq (fun (g1:Int)=>0≤g1) (fun (g1:Int)=>(l_.length - g1).toNat) ?_ ?_
  ·intro aj g1 dH bL;unfold G5;refine wi (fun c2=>?_) (fun c2=>?_)
   ·refine wn ?_;refine aF (D5) fun v4 hv4=>?_;refine wi (fun c3=>?_) (fun c3=>?_)
    ·refine au ?_;exact ob
    ·refine wn ?_;refine bL _ ?_ ?_
     ·exact ob
     ·exact ob
   ·refine au ?_;(intro _; exact ⟨hv1 (by simpa using c1b.1),by have:=of_decide_eq_false c1b.2; omega⟩)
  ·exact ob
theorem PU {g_:bR} {dU:ByteArray} (h1:g_.ak.length≤2000000):W (nM g_ dU) (fun r => -1≤r∧r<g_.ak.length):=by
 unfold nM;refine bq (fun (g1:Int)=>0≤g1) (fun (g1:Int)=>(g_.ak.length - g1).toNat) ?_ ?_
 ·intro aj g1 dH bL;unfold NA;refine wi (fun c1=>?_) (fun c1=>?_)
  ·refine wn ?_;refine wi (fun c2=>?_) (fun c2=>?_)
   ·refine au ?_;exact ob
   ·refine wn ?_;refine bL _ ?_ ?_
    ·exact ob
    ·exact ob
  ·refine au ?_;exact ob
 ·exact ob
theorem Q5 {a_:(List Int)} {b_:(List Int)} (h1:a_.length≤2000000) (h2:b_.length≤2000000):W (AB a_ b_) (fun r=>True):=by
 unfold AB;refine bq (fun (g1:(Int×Int))=>0≤g1.1∧0≤g1.2) (fun (g1:(Int×Int))=>(a_.length - g1.1).toNat+(b_.length - g1.2).toNat) ?_ ?_
 ·intro aj g1 dH bL;obtain ⟨cK,bC⟩:=dH;unfold G6;refine wi (fun c1=>?_) (fun c1=>?_)
  ·refine wm ?_;refine wi (fun c2=>?_) (fun c2=>?_)
   ·exact au trivial
   ·refine wm ?_;refine wi (fun c3=>?_) (fun c3=>?_)
    ·refine wn ?_;refine bL _ ?_ ?_
     ·exact ob
     ·exact ob
    ·refine wn ?_;refine bL _ ?_ ?_
     ·exact ob
     ·exact ob
  ·exact au trivial
 ·exact ob
theorem K7 {p_:aX} {dL:(List Int)} {g_:Int} (h1:∀g∈p_.av,g.bG.length≤2000000∧g.ak.length≤2000000) (h2:dL.length≤2000000) (h3:∀x∈dL,x<p_.av.length) (h4:0≤g_) (h5:g_<p_.av.length):W (zm p_ dL g_) (fun r=>True):=by
 have hgl:=h1 _ (getD_in (i:=g_.toNat) ay om);unfold zm;refine bq (fun (g1:Int)=>0≤g1) (fun (g1:Int)=>(dL.length - g1).toNat) ?_ ?_
 ·intro aj g1 dH bL;unfold JH;refine wi (fun c1=>?_) (fun c1=>?_)
  ·have hx:=h3 _ (getD_in (i:=g1.toNat) 0 om);refine wm ?_;refine wm ?_;refine aF (qj fun hc=>Q5 (by have hc:=of_decide_eq_true hc; have:=h1 _ (getD_in (i:=(dL.getD g1.toNat 0).toNat) ay om); omega) om) fun v3 hv3=>?_;refine wi (fun c2=>?_) (fun c2=>?_)
   ·exact au trivial
   ·refine wn ?_;refine bL _ ?_ ?_
    ·exact ob
    ·exact ob
  ·exact au trivial
 ·exact ob
theorem SI {p_:aX} {l_:(List ByteArray)} {dL:(List Int)} (h1:∀g∈p_.av,g.bG.length≤2000000∧g.ak.length≤2000000) (h2:l_.length≤2000000) (h3:p_.av.length≤2000000):W (DY p_ l_ dL) (fun r=>r=true→dL.length≤l_.length∧∀x∈dL,0≤x∧x<p_.av.length):=by
 unfold DY;refine wi (fun c1=>?_) (fun c1=>?_)
 ·refine au ?_;exact ob
 ·refine bq (fun (g1:Int)=>0≤g1∧(∀j:Nat,(j:Int)<g1→0≤dL.getD j 0∧dL.getD j 0<p_.av.length)) (fun (g1:Int)=>(dL.length - g1).toNat) ?_ ?_
  ·intro aj g1 dH bL;obtain ⟨cK,bC⟩:=dH;unfold JI;refine wi (fun c2=>?_) (fun c2=>?_)
   ·refine wm ?_;refine wn ?_;refine aF (qj fun hc=>PU (by simp only [Bool.or_eq_false_iff,decide_eq_false_iff_not] at hc; have:=h1 _ (getD_in (i:=(dL.getD g1.toNat 0).toNat) ay om); omega)) fun v5 hv5=>?_;refine wn ?_;refine aF (qj fun hc=>K7 h1 (by rw [List.length_take]; omega) (fU 0 fun j hj=>(by rw [List.length_take] at hj; rw [IQ _ _ _ _ om]; exact (bC j om).2)) (by simp only [Bool.or_eq_false_iff,decide_eq_false_iff_not] at hc; omega) (by simp only [Bool.or_eq_false_iff,decide_eq_false_iff_not] at hc; omega)) fun v6 hv6=>?_;refine bF (fun c3=>?_) (fun c3=>?_)
    ·have iB:=c3;have c3:=nr c3;refine au ?_;exact ob
    ·have iB:=c3;have c3:=nr c3;refine wn ?_;refine bL _ ?_ ?_
     ·(refine ⟨ob,dn bC cK (by simp only [Bool.or_eq_false_iff,decide_eq_false_iff_not] at iB; omega)⟩)
     ·exact ob
   ·refine au ?_;(intro _; exact ⟨om,fU 0 fun j hj=>bC j om⟩)
  ·(refine ⟨ob,fun j hj=>by (try dsimp only at hj); omega⟩)
theorem TT {p_:aX} {l_:(List ByteArray)} {dZ:(List Int)} (h1:∀g∈p_.av,g.bG.length≤2000000∧g.ak.length≤2000000) (h2:l_.length≤2000000) (h3:p_.av.length≤2000000):W (IL p_ l_ dZ) (fun r=>r=0→PO p_∧l_.length≤10∧dZ.length≤l_.length∧∀x∈dZ,0≤x∧x<p_.av.length):=by
 unfold IL;refine aF (Q0 h1 h2) fun v1 hv1=>?_;refine bF (fun c1=>?_) (fun c1=>?_)
 ·have eH:=c1;have c1:=nr c1;refine au ?_;exact ob
 ·have eH:=c1;have c1:=nr c1;refine aF (SI h1 h2 h3) fun v2 hv2=>?_;refine bF (fun c2=>?_) (fun c2=>?_)
  ·have iL:=c2;have c2:=nr c2;refine au ?_;exact ob
  ·have iL:=c2;have c2:=nr c2;refine au ?_;(intro _; have q1:=hv1 (by simpa using eH); have q2:=hv2 (by simpa using iL); exact ⟨q1.1,q1.2,q2.1,q2.2⟩)
theorem PV {p_:aX} {dU:ByteArray} (h1:∀g∈p_.av,g.bG.length≤2000000∧g.ak.length≤2000000) (h2:p_.av.length≤2000000):W (xX p_ dU) (fun r=>r.length≤p_.av.length∧∀x∈r,0≤x∧x<p_.av.length):=by
 unfold xX;refine bq (fun (g1:(Int×(List Int)))=>0≤g1.1∧g1.1≤p_.av.length∧(g1.2.length:Int)≤g1.1∧(∀x∈g1.2,0≤x∧x<p_.av.length)) (fun (g1:(Int×(List Int)))=>(p_.av.length - g1.1).toNat) ?_ ?_
 ·intro aj g1 dH bL;obtain ⟨cK,bC,bJ,ji⟩:=dH;unfold Fg;refine wi (fun c1=>?_) (fun c1=>?_)
  ·have hgl:=h1 _ (getD_in (i:=g1.1.toNat) ay om);refine wn ?_;refine aF (PU ob) fun v3 hv3=>?_;obtain ⟨Vj,TL⟩:=hv3;refine wi (fun c2=>?_) (fun c2=>?_)
   ·refine wm ?_;refine bL _ ?_ ?_
    ·exact ob
    ·exact ob
   ·refine wn ?_;refine bL _ ?_ ?_
    ·exact ob
    ·exact ob
  ·refine au ?_;(refine ⟨om,ji⟩)
 ·exact ob
theorem PW {p_:aX} {l_:List ByteArray} {dL:List Int} (h1:∀g∈p_.av,g.bG.length≤2000000∧g.ak.length≤2000000) (h2:p_.av.length≤2000000) (h3:l_.length≤2000000) (h4:dL.length≤l_.length) (h5:∀x∈dL,0≤x∧x<p_.av.length):W (xY p_ l_ dL) (fun r=>r.2=true→r.1.length=l_.length∧∀x∈r.1,0≤x∧x<p_.av.length):=by
 unfold xY;refine bq (fun s:aX×List ByteArray×List Int=>s.1=p_∧s.2.1=l_∧s.2.2.length≤l_.length∧∀x∈s.2.2,0≤x∧x<p_.av.length) (fun s=>l_.length - s.2.2.length) ?_ ⟨rfl,rfl,h4,h5⟩;rintro self ⟨p,l,gs⟩ ⟨e1,e2,e3,e4⟩ ih;dsimp only at e1 e2 e3 e4;subst p l;unfold kS;refine wi (fun c1=>?_) (fun c1=>?_)
 ·refine aM ob (au ?_);intro _;exact ⟨by dsimp only at c1 ⊢; omega,e4⟩
 ·refine aM (by dsimp only at c1 ⊢; omega) ?_;refine aF (PV h1 h2) fun v1 hv1=>?_;obtain ⟨k1,k2⟩:=hv1;refine bq (fun g:Int=>0≤g) (fun g:Int=>(v1.length - g).toNat) ?_ (Int.le_refl _);intro aj g1 hg1 ih1;unfold Fh;refine bF (fun c2=>?_) (fun c2=>?_)
  ·have c2:=nr c2;have hx:=k2 _ (getD_in (i:=g1.toNat) 0 om);refine wn ?_;refine aF (K7 h1 (by dsimp only; omega) (fun x hx=>(e4 x hx).2) hx.1 hx.2) fun v6 _=>?_;refine bF (fun c3=>?_) (fun c3=>?_)
   ·refine aM ob (ih1 _ om om)
   ·refine aM ob (aM ob (aM ob ?_));refine aF (ih _ ⟨rfl,rfl,by (simp only [List.length_append,List.length_singleton]; omega),?_⟩ (by (simp only [List.length_append,List.length_singleton]; omega))) fun v7 hv7=>?_
    ·intro x hm;rcases List.mem_append.1 hm with hm | hm
     ·exact e4 x hm
     ·rw [List.mem_singleton] at hm; rw [hm]; exact hx
    ·refine bF (fun c4=>au fun _=>hv7 c4) (fun c4=>aM ob (ih1 _ om om))
  ·exact au nofun
theorem PX {p_:aX} {l_:(List ByteArray)} {dZ:(List Int)} (h1:∀g∈p_.av,g.bG.length≤2000000∧g.ak.length≤2000000) (h2:l_.length≤2000000) (h3:p_.av.length≤2000000):W (xZ p_ l_ dZ) (fun r=>r.2=0→r.1.length=l_.length∧∀x∈r.1,0≤x∧x<p_.av.length):=by
 unfold xZ;refine aF (TT h1 h2 h3) fun v1 hv1=>?_;refine bF (fun c1=>?_) (fun c1=>?_)
 ·have eH:=c1;have c1:=nr c1;refine au ?_;(intro e; exact absurd e c1)
 ·have eH:=c1;have c1:=nr c1;obtain ⟨q1,q2,q3,q4⟩:=hv1 (by simpa using eH);refine aF (PW h1 h3 h2 q3 q4) fun v2 hv2=>?_;refine bF (fun c2=>?_) (fun c2=>?_)
  ·have iL:=c2;have c2:=nr c2;refine au ?_;exact ob
  ·have iL:=c2;have c2:=nr c2;refine au ?_;(intro _; exact hv2 (by simpa using iL))
theorem Q6 {l_:(List dN)} (h1:∀g∈l_,g.dK.length≤2000000):W (kY l_) (fun r=>r=0→UY l_):=by
 unfold kY;refine wi (fun c1=>?_) (fun c1=>?_)
 ·refine au ?_;exact ob
 ·refine bq (fun (g1:Int)=>0≤g1∧(∀j:Nat,(j:Int)<g1→∀x∈(l_.getD j bV).dK,0≤x∧x<(j:Int))) (fun (g1:Int)=>(l_.length - g1).toNat) ?_ ?_
  ·intro aj g1 dH bL;obtain ⟨cK,bC⟩:=dH;unfold yY;refine wi (fun c2=>?_) (fun c2=>?_)
   ·have hgl:=h1 _ (getD_in (i:=g1.toNat) bV om);refine bq (fun (g6:Int)=>0≤g6∧(∀j:Nat,(j:Int)<g6→0≤(l_.getD g1.toNat bV).dK.getD j 0∧(l_.getD g1.toNat bV).dK.getD j 0<g1)) (fun (g6:Int)=>((l_.getD g1.toNat bV).dK.length - g6).toNat) ?_ ?_
    ·intro gU g6 zH vY;obtain ⟨wU,lg⟩:=zH;unfold yX;refine wn ?_;refine wi (fun c3=>?_) (fun c3=>?_)
     ·refine wm ?_;refine wm ?_;refine wi (fun c4=>?_) (fun c4=>?_)
      ·refine au ?_;exact ob
      ·refine wn ?_;refine vY _ ?_ ?_
       ·(refine ⟨ob,dn lg wU om⟩)
       ·exact ob
     ·refine bq (fun (g7:Int)=>1≤g7) (fun (g7:Int)=>((l_.getD g1.toNat bV).dK.length - g7).toNat) ?_ ?_
      ·intro jU g7 MC Jc;unfold vT;refine wn ?_;refine wi (fun c5=>?_) (fun c5=>?_)
       ·refine wm ?_;refine wm ?_;refine wn ?_;refine wi (fun c6=>?_) (fun c6=>?_)
        ·refine au ?_;exact ob
        ·refine wn ?_;refine Jc _ ?_ ?_
         ·exact ob
         ·exact ob
       ·refine wn ?_;refine bL _ ?_ ?_
        ·(refine ⟨ob,dn bC cK (fU 0 fun j hj=>by have:=lg j om; omega)⟩)
        ·exact ob
      ·exact ob
    ·(refine ⟨ob,fun j hj=>by (try dsimp only at hj); omega⟩)
   ·refine au ?_;(intro _; exact ⟨om,fun i hi=>bC i om⟩)
  ·(refine ⟨ob,fun j hj=>by (try dsimp only at hj); omega⟩)
theorem Q7 {l_:(List dx)}:W (kZ l_) (fun r=>r=0→TP l_):=by
 unfold kZ;refine wi (fun c1=>?_) (fun c1=>?_)
 ·refine au ?_;exact ob
 ·refine bq (fun (g1:Int)=>0≤g1∧(∀j:Nat,(j:Int)<g1 → -1≤(l_.getD j dR).aQ∧(l_.getD j dR).aQ<(j:Int))) (fun (g1:Int)=>(l_.length - g1).toNat) ?_ ?_
  ·intro aj g1 dH bL;obtain ⟨cK,bC⟩:=dH;unfold yZ;refine wi (fun c2=>?_) (fun c2=>?_)
   ·refine wm ?_;refine wi (fun c3=>?_) (fun c3=>?_)
    ·refine au ?_;exact ob
    ·refine wn ?_;refine bL _ ?_ ?_
     ·(refine ⟨ob,dn bC cK om⟩)
     ·exact ob
   ·refine au ?_;(intro _; exact ⟨om,fun i hi=>bC i om⟩)
  ·(refine ⟨ob,fun j hj=>by (try dsimp only at hj); omega⟩)
end Go.Proofs.YtccjmcmolnbiiaaGreatDoor
namespace Go.Proofs.YtccjmcmolnbiiaaGreatDoor.Sp
open Go.Ab
set_option maxRecDepth 100000
theorem XI {l:List aG} {d:List bE} (h:((checkF l != 0)||decide (32<(d.length:Int)))=true):drawsF l d=false:=by
 unfold drawsF;by_cases h1:checkF l=0
 ·rw [h1] at h;have:32<(d.length:Int):=by simpa using h
  rw [decide_eq_false (p:=(d.length:Int)≤32) om];simp
 ·have:(checkF l==0)=false:=by simpa using h1
  rw [this];rfl
theorem VU {l:List aG} {d:List bE} (h:((checkF l != 0)||decide (32<(d.length:Int)))=false):drawsF l d=!(d.any (badD l.length)):=by
 have h1:checkF l=0∧(d.length:Int)≤32:=by
  simp at h;omega
 unfold drawsF;rw [h1.1,decide_eq_true h1.2];rfl
theorem YD {b:List Bool} {d:List bE} {i j:Nat} {a:Bool} {g:Int} (hi:i<b.length) (hj:j<d.length) (hg:g=(i:Int)):(b.set i (b.getD i false||a||atD (d.take j) i)).set i ((b.set i (b.getD i false||a||atD (d.take j) i)).getD i false||((d.getD j dD).bY==g))=b.set i (b.getD i false||a||atD (d.take (j+1)) i):=by
 subst hg;have hsn:atD (d.take (j+1)) i=(atD (d.take j) i||((d.getD j dD).bY==(i:Int))):=by
  unfold atD;rw [take_snoc dD hj,List.any_append];simp
 rw [getD_set,if_pos ⟨rfl,hi⟩,List.set_set,hsn];simp only [Bool.or_assoc]
theorem lY {x_:Int} {qE:Int} {sD:Int}:W (mg x_ qE sD) (fun r=>r=withinF x_ qE sD):=by
 unfold mg;refine au ?_;rfl
theorem uJ {l_:(List aG)} (h1:l_.length≤2000000):W (nJ l_) (fun r=>r=checkF l_):=by
 unfold nJ;refine bF (fun c1=>?_) (fun c1=>?_)
 ·have eH:=c1;have c1:=nr c1;refine au ?_;(unfold checkF; rw [eH]; rfl)
 ·have eH:=c1;have c1:=nr c1;refine bq (fun (g1:Int)=>0≤g1∧g1≤l_.length∧(∀j:Nat,(j:Int)<g1→bigS (l_.getD j aC)=false)) (fun (g1:Int)=>(l_.length - g1).toNat) ?_ ?_
  ·intro aj g1 dH bL;obtain ⟨cK,bC,bJ⟩:=dH;unfold Gv;refine wi (fun c2=>?_) (fun c2=>?_)
   ·refine wn ?_;refine bF (fun c3=>?_) (fun c3=>?_)
    ·have iB:=c3;have c3:=nr c3;refine au ?_;(unfold checkF; rw [any_true_get (p:=bigS) aC (show g1.toNat<l_.length by omega) (show bigS _=true from iB),Bool.or_true]; rfl)
    ·have iB:=c3;have c3:=nr c3;refine wn ?_;refine bL _ ?_ ?_
     ·(refine ⟨ob,ob,dn bJ cK iB⟩)
     ·exact ob
   ·have hbig:=any_none (p:=bigS) aC (fun j hj=>bJ j om);have hb3:(decide (16<(l_.length:Int))||l_.any bigS)=false:=(by rw [eH,hbig]; rfl);refine bq (fun (g2:Int)=>0≤g2∧g2≤l_.length∧valN g2.toNat (l_.drop g2.toNat)=valN 0 l_) (fun (g2:Int)=>(l_.length - g2).toNat) ?_ ?_
    ·intro cO g2 jD kC;obtain ⟨kI,gJ,lq⟩:=jD;unfold EO;obtain ⟨i,rfl⟩:=Int.eq_ofNat_of_zero_le kI;refine wi (fun c4=>?_) (fun c4=>?_)
     ·have hlt:i<l_.length:=om;have hb:=bJ i om;have hbl:(l_.getD i aC).bN.length≤16:=(by unfold bigS at hb; have:=of_decide_eq_false hb; omega);rw [show ((i:Int).toNat)=i from rfl,drop_cons aC hlt,valN] at lq;simp only [Int.toNat_natCast] at *;refine wm ?_;refine aF (lY) fun v13 QM=>?_;subst v13;refine aF (fP fun hc=>jT (lY)) fun v14 QN=>?_;subst v14;refine aF (fP fun hc=>jT (lY)) fun v15 Sy=>?_;subst v15;refine bF (fun c5=>?_) (fun c5=>?_)
      ·have yg:=c5;have c5:=nr c5;rw [lt1_eq0] at yg;refine au ?_;(unfold checkF; rw [hb3,← lq]; unfold validS; rw [show headB (l_.getD i aC) i=true from yg]; rfl)
      ·have yg:=c5;have c5:=nr c5;rw [lt1_eq0] at yg;refine bq (fun (g5:Int)=>0≤g5∧g5≤(l_.getD i aC).bN.length∧ascB (if g5.toNat=0 then 0 else (l_.getD i aC).bN.getD (g5.toNat - 1) 0) ((l_.getD i aC).bN.drop g5.toNat)=ascB 0 (l_.getD i aC).bN) (fun (g5:Int)=>((l_.getD i aC).bN.length - g5).toNat) ?_ ?_
       ·intro iF g5 Kl Hu;obtain ⟨JN,AP,K8⟩:=Kl;unfold EN;obtain ⟨k,rfl⟩:=Int.eq_ofNat_of_zero_le JN;simp only [Int.toNat_natCast] at *;refine wi (fun c6=>?_) (fun c6=>?_)
        ·have hlk:k<(l_.getD i aC).bN.length:=om;have hst:=asc_step hlk rfl;rw [hst] at K8;have e1:(((k:Int) - 1).toNat)=k - 1:=om;simp only [e1,Int.toNat_natCast] at *;refine wn ?_;refine aF (lY) fun v18 adO=>?_;subst v18;refine wm ?_;refine bF (fun c7=>?_) (fun c7=>?_)
         ·have NG:=c7;have c7:=nr c7;refine au ?_;(unfold checkF; rw [hb3,← lq]; unfold validS; rw [show headB (l_.getD i aC) i=false from yg,← K8,NG]; rfl)
         ·have NG:=c7;have c7:=nr c7;refine wn ?_;refine Hu _ ?_ ?_
          ·(refine ⟨ob,ob,?_⟩; rw [← K8,NG]; rw [show ((k:Int)+1).toNat=k+1 by omega,if_neg om]; rfl)
          ·exact ob
        ·refine wn ?_;refine kC _ ?_ ?_
         ·(refine ⟨ob,ob,?_⟩; rw [← lq]; unfold validS; rw [show headB (l_.getD i aC) i=false from yg,← K8,show k=(l_.getD i aC).bN.length by omega,List.drop_length,show ((i:Int)+1).toNat=i+1 by omega]; rfl)
         ·exact ob
       ·(refine ⟨ob,ob,rfl⟩)
     ·refine au ?_;(unfold checkF; rw [hb3,← lq,show ((i:Int).toNat)=i from rfl,show i=l_.length by omega,List.drop_length]; rfl)
    ·(refine ⟨ob,ob,rfl⟩)
  ·(refine ⟨ob,ob,fun j hj=>by omega⟩)
theorem JO {l_:(List aG)} {d_:(List bE)} (h1:l_.length≤2000000) (h2:d_.length≤2000000):W (vg l_ d_) (fun r=>r=drawsF l_ d_):=by
 unfold vg;refine aF (uJ ob) fun v1 hv1=>?_;subst v1;refine bF (fun c1=>?_) (fun c1=>?_)
 ·have eH:=c1;have c1:=nr c1;refine au ?_;(exact (XI eH).symm)
 ·have eH:=c1;have c1:=nr c1;have hdf:=VU eH;refine bq (fun (g1:Int)=>0≤g1∧g1≤d_.length∧(d_.drop g1.toNat).any (badD l_.length)=d_.any (badD l_.length)) (fun (g1:Int)=>(d_.length - g1).toNat) ?_ ?_
  ·intro aj g1 dH bL;obtain ⟨cK,bC,bJ⟩:=dH;unfold GI;refine wi (fun c2=>?_) (fun c2=>?_)
   ·have hlt:g1.toNat<d_.length:=om;rw [drop_cons dD hlt,List.any_cons] at bJ;refine wm ?_;refine aF (lY) fun v8 BH=>?_;subst v8;refine aF (fP fun hc=>jT (lY)) fun v9 SB=>?_;subst v9;refine aF (fP fun hc=>jT (lY)) fun v10 CZ=>?_;subst v10;refine bF (fun c3=>?_) (fun c3=>?_)
    ·have iB:=c3;have c3:=nr c3;have hb:=(badD_ref l_.length (d_.getD g1.toNat dD)).symm.trans iB;refine au ?_;(rw [hdf,← bJ,hb]; rfl)
    ·have iB:=c3;have c3:=nr c3;have hb:=(badD_ref l_.length (d_.getD g1.toNat dD)).symm.trans iB;refine wn ?_;refine bL _ ?_ ?_
     ·(refine ⟨ob,ob,?_⟩; rw [← bJ,hb,show (g1+1).toNat=g1.toNat+1 by omega]; rfl)
     ·exact ob
   ·refine au ?_;(rw [hdf,← bJ,show g1.toNat=d_.length by omega,List.drop_length]; rfl)
  ·(refine ⟨ob,ob,rfl⟩)
theorem Q8 {l_:(List aG)} {d_:(List bE)} (h1:l_.length≤2000000) (h2:d_.length≤2000000):W (Ap l_ d_) (fun r=>r=beginF l_ d_):=by
 unfold Ap;refine aF (uJ ob) fun v1 hv1=>?_;subst v1;refine bF (fun c1=>?_) (fun c1=>?_)
 ·have eH:=c1;have c1:=nr c1;refine au ?_;(unfold beginF; rw [eH]; rfl)
 ·have eH:=c1;have c1:=nr c1;refine aF (JO ob ob) fun v2 hv2=>?_;subst v2;refine bF (fun c2=>?_) (fun c2=>?_)
  ·have iL:=c2;have c2:=nr c2;refine au ?_;(unfold beginF; rw [eH,iL]; rfl)
  ·have iL:=c2;have c2:=nr c2;refine au ?_;(unfold beginF; rw [eH,iL]; rfl)
theorem K9 {l_:(List aG)} {d_:(List bE)} (h1:Vld l_ d_):W (y8 l_ d_) (fun r=>r=usedF l_ d_):=by
 have hv:=h1;obtain ⟨vl,vd,vs,_,vx⟩:=h1;unfold y8;refine wm ?_;refine bq (fun (g1:(Int×(List Bool))) => -1≤g1.1∧g1.1<l_.length∧RUsed l_ d_ (l_.length - 1 - g1.1).toNat g1.2) (fun (g1:(Int×(List Bool)))=>(g1.1+1).toNat) ?_ ?_
 ·intro aj g1 dH bL;obtain ⟨cK,bC,bJ⟩:=dH;unfold JF;have hbl:=bJ.len;refine wi (fun c1=>?_) (fun c1=>?_)
  ·have hst:=bJ.step hv (show (l_.length - 1 - g1.1).toNat<l_.length by omega);have hp:=vs g1.1.toNat om;rw [show l_.length - 1 - ((l_.length:Int) - 1 - g1.1).toNat=g1.1.toNat by omega,show ((l_.length:Int) - 1 - g1.1).toNat+1=((l_.length:Int) - 1 - (g1.1 - 1)).toNat by omega] at hst;refine wm ?_;refine wn ?_;refine bq (fun (g4:(Int×(List Bool)))=>0≤g4.1∧g4.1≤d_.length∧g4.2=g1.2.set g1.1.toNat (g1.2.getD g1.1.toNat false||(l_.getD g1.1.toNat aC).fI||atD (d_.take g4.1.toNat) g1.1.toNat)) (fun (g4:(Int×(List Bool)))=>(d_.length - g4.1).toNat) ?_ ?_
   ·intro gL g4 zn vB;obtain ⟨wV,jk,La⟩:=zn;unfold JE;have adP:g4.2.length=l_.length:=(by rw [La,List.length_set,hbl]);refine wi (fun c2=>?_) (fun c2=>?_)
    ·refine wm ?_;refine wm ?_;refine vB _ ?_ ?_
     ·(refine ⟨ob,ob,?_⟩; dsimp only; rw [show (g4.1+1).toNat=g4.1.toNat+1 by omega,La]; exact YD om om om)
     ·exact ob
    ·have TU:g4.2=g1.2.set g1.1.toNat (g1.2.getD g1.1.toNat false||(l_.getD g1.1.toNat aC).fI||atD d_ g1.1.toNat):=(by rw [La,show g4.1.toNat=d_.length by omega,List.take_length]);have hgi:g4.2.getD g1.1.toNat false=(g1.2.getD g1.1.toNat false||(l_.getD g1.1.toNat aC).fI||atD d_ g1.1.toNat):=(by rw [TU,getD_set,if_pos ⟨rfl,om⟩]);refine wm ?_;refine bF (fun c3=>?_) (fun c3=>?_)
     ·have iB:=c3;have c3:=nr c3;have c3b:=iB;rw [hgi] at c3b;refine wm ?_;refine bL _ ?_ ?_
      ·(refine ⟨ob,ob,?_⟩; dsimp only; unfold rusStep at hst; rw [c3b] at hst; rw [TU]; exact hst)
      ·exact ob
     ·have iB:=c3;have c3:=nr c3;have c3b:=iB;rw [hgi] at c3b;refine wn ?_;refine bL _ ?_ ?_
      ·(refine ⟨ob,ob,?_⟩; dsimp only; unfold rusStep at hst; rw [c3b] at hst; rw [TU]; exact hst)
      ·exact ob
   ·(refine ⟨ob,ob,?_⟩; dsimp only; rw [show (0:Int).toNat=0 from rfl,List.take_zero,show atD [] g1.1.toNat=false from rfl,Bool.or_false])
  ·refine au ?_;(exact RUsed.done (by rw [show l_.length=((l_.length:Int) - 1 - g1.1).toNat by omega]; exact bJ))
 ·(refine ⟨ob,ob,?_⟩; dsimp only; rw [show ((l_.length:Int) - 1 - (l_.length - 1)).toNat=0 by omega]; exact RUsed.start hv)
theorem Q9 {s_:aG} {v_:Int} (h1:s_.bN.length≤2000000):W (Aq s_ v_) (fun r=>r=(bif decide (lvN s_.bN v_<s_.bN.length) then (lvN s_.bN v_:Int) else -1)):=by
 unfold Aq;refine bq (fun (g1:Int)=>0≤g1∧g1≤s_.bN.length∧(∀j:Nat,(j:Int)<g1→s_.bN.getD j 0<v_)) (fun (g1:Int)=>(s_.bN.length - g1).toNat) ?_ ?_
 ·intro aj g1 dH bL;obtain ⟨cK,bC,bJ⟩:=dH;unfold GJ;refine wi (fun c1=>?_) (fun c1=>?_)
  ·refine wn ?_;refine wi (fun c2=>?_) (fun c2=>?_)
   ·refine au ?_;(rw [← lvN_eq (k:=g1.toNat) om (fun j hj=>bJ j om) (fun _=>c2),decide_eq_true om]; simp only [cond_true]; omega)
   ·refine wn ?_;refine bL _ ?_ ?_
    ·(refine ⟨ob,ob,dn bJ cK c2⟩)
    ·exact ob
  ·refine au ?_;(rw [← lvN_eq (k:=g1.toNat) om (fun j hj=>bJ j om) (fun h=>by omega),decide_eq_false om]; rfl)
 ·(refine ⟨ob,ob,fun j hj=>by omega⟩)
theorem uK {l_:(List aG)} {r_:dB} {k_:Int} (h1:0≤k_) (h2:k_<l_.length) (h3:Rok l_ r_):W (nL l_ r_ k_) (fun r=>r=voltF l_ r_ k_.toNat):=by
 obtain ⟨r1,r2,r3⟩:=h3;have r4:=r3 k_.toNat om;unfold nL;refine wm ?_;refine wn ?_;refine au ?_;rfl
theorem adQ {l:List aG} {r:dB} {u:List Bool} {ld:List Int} {i:Nat} (h:(u.getD i false&&!r.On.getD i false)=true):mBad l r u ld i=true:=by
 simp only [Bool.and_eq_true] at h;unfold mBad;rw [h.1,h.2]; rfl
theorem adR {l:List aG} {r:dB} {u:List Bool} {ld:List Int} {i:Nat} (h:(u.getD i false&&!r.On.getD i false)=false) (h2:(!r.On.getD i false)=true):mBad l r u ld i=false:=by
 rw [h2,Bool.and_true] at h;unfold mBad;rw [h2,h]; rfl
theorem aaS {l:List aG} {r:dB} {u:List Bool} {ld:List Int} {i:Nat} (h2:(!r.On.getD i false)=false):mBad l r u ld i=(decide ((l.getD i aC).gB<ld.getD i 0)||(decide (0≤(l.getD i aC).aQ)&&(!r.On.getD (l.getD i aC).aQ.toNat false||decide (voltF l r (l.getD i aC).aQ.toNat<voltF l r i+(l.getD i aC).fG)))):=by
 unfold mBad;rw [h2,Bool.or_comm]; rfl
theorem TV {l:List aG} {r:dB} {d:List bE} {i:Nat} (hi:i<l.length) (h:mBad l r (usedF l d) (loadsF l d) i=true):meets0 l r d=false:=by
 unfold meets0;rw [all_range_false hi (by rw [h]; rfl)];rfl
theorem TW {l:List aG} {r:dB} {d:List bE} (h:∀i,i<l.length→mBad l r (usedF l d) (loadsF l d) i=false):meets0 l r d=!(d.any (dBad l r)):=by
 unfold meets0;rw [all_range_true fun j hj=>(by rw [h j hj]; rfl)];rfl
theorem VW {l:List aG} {u:List Bool} {i:Nat} {s:DS} (h:(!u.getD i false)=true):dFail l u i s=false:=by
 unfold dFail;rw [show u.getD i false=false by simpa using h];rfl
theorem XJ {a n:Nat} (h:decide ((bif decide (a<n) then (a:Int) else -1)<0)=true):decide (a<n)=false:=by
 cases hd:decide (a<n) with
 | false=>rfl
 | true=>rw [hd] at h; have:=of_decide_eq_true h; simp only [cond_true] at this; omega
theorem XK {a n:Nat} (h:decide ((bif decide (a<n) then (a:Int) else -1)<0)=false):decide (a<n)=true:=by
 cases hd:decide (a<n) with
 | true=>rfl
 | false=>rw [hd] at h; cases h
theorem U0 {l:List aG} {d:List bE} {s:DS} {i:Nat} (h0:(beginF l d != 0)=false) (e:(s,(i:Int))=demF l d):(Mj,9)=leastF l d:=by
 unfold leastF;rw [h0,← e,decide_eq_true (show (0:Int)≤(s,(i:Int)).2 by dsimp only; omega)];rfl
theorem RV {l:List aG} {d:List bE} {s:DS} (h0:(beginF l d != 0)=false) (hdr:drawsF l d=true) (e:(s,(-1:Int))=demF l d) (hr:Rok l ⟨usedF l d,s.lv⟩):leastF l d=bif !meets0 l ⟨usedF l d,s.lv⟩ d then (Mj,9) else (⟨usedF l d,s.lv⟩,0):=by
 unfold leastF;have hmf:meetsF l ⟨usedF l d,s.lv⟩ d=meets0 l ⟨usedF l d,s.lv⟩ d:=by
  unfold meetsF;rw [rails_iff.2 ⟨draws_check hdr,hr⟩,hdr];rfl
 rw [h0,← e];simp only [show decide ((0:Int) ≤ -1)=false from rfl,Bool.false_or,hmf,cond_false]
theorem XL {l:List aG} {u:List Bool} {i:Nat} {s:DS} (hu:u.getD i false=true) (hi:i<s.lv.length):voltF l ⟨u,(dOne l u i s).lv⟩ i+(l.getD i aC).fG=needOf l i s:=by
 unfold voltF needOf dOne;rw [hu];simp only [Bool.not_true,cond_false];rw [getD_set,if_pos ⟨rfl,hi⟩];rfl
theorem XM {l:List aG} {u:List Bool} {i:Nat} {s:DS} (hu:u.getD i false=true) (hp:decide (0≤(l.getD i aC).aQ)=true):(vols s.a).set (l.getD i aC).aQ.toNat (if needOf l i s > (vols s.a).getD (l.getD i aC).aQ.toNat 0 then needOf l i s else (vols s.a).getD (l.getD i aC).aQ.toNat 0)=vols (dOne l u i s).a:=by
 unfold dOne;rw [hu,hp,vols_get];simp only [Bool.not_true,cond_false,Bool.true_and];by_cases h:(s.a.getD (l.getD i aC).aQ.toNat dem0).volt<needOf l i s
 ·rw [decide_eq_true h,cond_true,vols_set,if_pos h]
 ·rw [decide_eq_false h,cond_false,if_neg h,set_same _ _ _ (vols_get _ _).symm]
theorem VX {l:List aG} {u:List Bool} {i:Nat} {s:DS} (hp:decide (0≤(l.getD i aC).aQ)=false):vols s.a=vols (dOne l u i s).a:=by
 unfold dOne;rw [hp];cases u.getD i false<;>rfl
theorem XO {l:List aG} {u:List Bool} {i:Nat} {s:DS} (h:(!u.getD i false)=true):dOne l u i s=s:=by
 unfold dOne;rw [h];rfl
theorem Ra {l_:(List aG)} {d_:(List bE)} (h1:Vld l_ d_):W (Ar l_ d_) (fun r=>r=loadsF l_ d_):=by
 have hv:=h1;obtain ⟨vl,vd,vs,_,vx⟩:=h1;unfold Ar;refine wm ?_;refine bq (fun (g1:(Int×(List Int))) => -1≤g1.1∧g1.1<l_.length∧RLoad l_ d_ (l_.length - 1 - g1.1).toNat g1.2) (fun (g1:(Int×(List Int)))=>(g1.1+1).toNat) ?_ ?_
 ·intro aj g1 dH bL;obtain ⟨cK,bC,bJ⟩:=dH;unfold GL;have hbl:=bJ.len;have hsm:=bJ.small hv om;refine wi (fun c1=>?_) (fun c1=>?_)
  ·have hst:=bJ.step hv (show (l_.length - 1 - g1.1).toNat<l_.length by omega);have hp:=vs g1.1.toNat om;rw [show l_.length - 1 - ((l_.length:Int) - 1 - g1.1).toNat=g1.1.toNat by omega,show ((l_.length:Int) - 1 - g1.1).toNat+1=((l_.length:Int) - 1 - (g1.1 - 1)).toNat by omega] at hst;refine bq (fun (g4:(Int×(List Int)))=>0≤g4.1∧g4.1≤d_.length∧g4.2=g1.2.set g1.1.toNat (g1.2.getD g1.1.toNat 0+dsum (d_.take g4.1.toNat) g1.1.toNat)) (fun (g4:(Int×(List Int)))=>(d_.length - g4.1).toNat) ?_ ?_
   ·intro gL g4 zn vB;obtain ⟨wV,jk,La⟩:=zn;unfold GK;have adP:g4.2.length=l_.length:=(by rw [La,List.length_set,hbl]);refine wi (fun c2=>?_) (fun c2=>?_)
    ·have hx:=vx _ (getD_mem dD (show g4.1.toNat<d_.length by omega));have hdb:=dsum_bnd (d:=d_) (fun x hx=>by have:=vx x hx; omega) g1.1.toNat g4.1.toNat om;have hbi:=hsm g1.1.toNat;have hgi:g4.2.getD g1.1.toNat 0=g1.2.getD g1.1.toNat 0+dsum (d_.take g4.1.toNat) g1.1.toNat:=(by rw [La,getD_set,if_pos ⟨rfl,om⟩]);refine wn ?_;refine bF (fun c3=>?_) (fun c3=>?_)
     ·have iB:=c3;have c3:=nr c3;refine wm ?_;refine wm ?_;refine vB _ ?_ ?_
      ·(refine ⟨ob,ob,?_⟩; dsimp only; rw [show (g4.1+1).toNat=g4.1.toNat+1 by omega,hgi,La,List.set_set,dsum_take om,show ((g1.1.toNat:Int))=g1.1 by omega,iB]; simp only [cond_true]; rw [Int.add_assoc])
      ·exact ob
     ·have iB:=c3;have c3:=nr c3;refine wn ?_;refine vB _ ?_ ?_
      ·(refine ⟨ob,ob,?_⟩; dsimp only; rw [show (g4.1+1).toNat=g4.1.toNat+1 by omega,La,dsum_take om,show ((g1.1.toNat:Int))=g1.1 by omega,iB]; rfl)
      ·exact ob
    ·have hdb:=dsum_bnd (d:=d_) (fun x hx=>by have:=vx x hx; omega) g1.1.toNat d_.length (Nat.le_refl _);rw [List.take_length] at hdb;have TU:g4.2=g1.2.set g1.1.toNat (g1.2.getD g1.1.toNat 0+dsum d_ g1.1.toNat):=(by rw [La,show g4.1.toNat=d_.length by omega,List.take_length]);have hgi:g4.2.getD g1.1.toNat 0=g1.2.getD g1.1.toNat 0+dsum d_ g1.1.toNat:=(by rw [TU,getD_set,if_pos ⟨rfl,om⟩]);have hbi:=hsm g1.1.toNat;refine wn ?_;refine bF (fun c4=>?_) (fun c4=>?_)
     ·have mW:=c4;have c4:=nr c4;have hgp:g4.2.getD (l_.getD g1.1.toNat aC).aQ.toNat 0=g1.2.getD (l_.getD g1.1.toNat aC).aQ.toNat 0:=(by rw [TU,getD_set,if_neg om]);have hbp:=hsm (l_.getD g1.1.toNat aC).aQ.toNat;refine wm ?_;refine wm ?_;refine wn ?_;refine bL _ ?_ ?_
      ·(refine ⟨ob,ob,?_⟩; dsimp only; unfold rloStep at hst; rw [mW] at hst; rw [hgi,hgp,TU]; exact hst)
      ·exact ob
     ·have mW:=c4;have c4:=nr c4;refine wn ?_;refine bL _ ?_ ?_
      ·(refine ⟨ob,ob,?_⟩; dsimp only; unfold rloStep at hst; rw [mW] at hst; rw [TU]; exact hst)
      ·exact ob
   ·(refine ⟨ob,ob,?_⟩; dsimp only; rw [show (0:Int).toNat=0 from rfl,List.take_zero,show dsum [] g1.1.toNat=0 from rfl,Int.add_zero,set_self])
  ·refine au ?_;(exact RLoad.done (by rw [show l_.length=((l_.length:Int) - 1 - g1.1).toNat by omega]; exact bJ))
 ·(refine ⟨ob,ob,?_⟩; dsimp only; rw [show ((l_.length:Int) - 1 - (l_.length - 1)).toNat=0 by omega]; exact RLoad.start hv)
theorem JQ {l_:(List aG)} {r_:dB} {d_:(List bE)} (h1:Vld l_ d_) (h2:Rok l_ r_):W (vk l_ r_ d_) (fun r=>r=meets0 l_ r_ d_):=by
 have hv:=h1;have hr:=h2;have hvb:=fun i hi=>volt_bnd hv hr i hi;have hul:=usedF_len l_ d_;have hll:=loadsF_len l_ d_;obtain ⟨vl,vd,vs,_,vx⟩:=h1;obtain ⟨r1,r2,r3⟩:=h2;unfold vk;refine aF (K9 ob) fun v1 hv1=>?_;subst v1;refine aF (Ra ob) fun v2 hv2=>?_;subst v2;refine bq (fun (g1:Int)=>0≤g1∧g1≤l_.length∧(∀j:Nat,(j:Int)<g1→mBad l_ r_ (usedF l_ d_) (loadsF l_ d_) j=false)) (fun (g1:Int)=>(l_.length - g1).toNat) ?_ ?_
 ·intro aj g1 dH bL;obtain ⟨cK,bC,bJ⟩:=dH;unfold GN;refine wi (fun c1=>?_) (fun c1=>?_)
  ·have hp:=vs g1.toNat om;have hv1:=hvb g1.toNat om;have hv2:=hvb (l_.getD g1.toNat aC).aQ.toNat;refine wm ?_;refine wn ?_;refine bF (fun c2=>?_) (fun c2=>?_)
   ·have iL:=c2;have c2:=nr c2;refine au ?_;(exact (TV (i:=g1.toNat) om (adQ iL)).symm)
   ·have iL:=c2;have c2:=nr c2;refine wn ?_;refine bF (fun c3=>?_) (fun c3=>?_)
    ·have iB:=c3;have c3:=nr c3;refine wn ?_;refine bL _ ?_ ?_
     ·(refine ⟨ob,ob,dn bJ cK (adR iL iB)⟩)
     ·exact ob
    ·have iB:=c3;have c3:=nr c3;refine wn ?_;refine aM (by (intro _ q; have:=of_decide_eq_true q; omega)) ?_;refine aF (fP fun hc hc2 hc3=>jT (uK (of_decide_eq_true hc2) (by have:=of_decide_eq_true hc2; omega) hr)) fun v7 hv7=>?_;subst v7;refine aF (fP fun hc hc2 hc3=>jT (uK om om hr)) fun v8 BH=>?_;subst v8;refine aM (by (intro _ q; have:=of_decide_eq_true q; have:=hv2 om; unfold InI64; omega)) ?_;refine bF (fun c4=>?_) (fun c4=>?_)
     ·have mW:=c4;have c4:=nr c4;refine au ?_;(exact (TV (i:=g1.toNat) om ((aaS iB).trans mW)).symm)
     ·have mW:=c4;have c4:=nr c4;refine wn ?_;refine bL _ ?_ ?_
      ·(refine ⟨ob,ob,dn bJ cK ((aaS iB).trans mW)⟩)
      ·exact ob
  ·refine bq (fun (g2:Int)=>0≤g2∧g2≤d_.length∧(d_.drop g2.toNat).any (dBad l_ r_)=d_.any (dBad l_ r_)) (fun (g2:Int)=>(d_.length - g2).toNat) ?_ ?_
   ·intro cO g2 jD kC;obtain ⟨kI,gJ,lq⟩:=jD;unfold ES;refine wi (fun c5=>?_) (fun c5=>?_)
    ·have hlt:g2.toNat<d_.length:=om;have hx:=vx _ (getD_mem dD hlt);rw [drop_cons dD hlt,List.any_cons] at lq;refine wn ?_;refine aF (uK hx.1 hx.2.1 hr) fun v13 QM=>?_;subst v13;refine aF (lY) fun v14 QN=>?_;subst v14;refine bF (fun c6=>?_) (fun c6=>?_)
     ·have PS:=c6;have c6:=nr c6;refine au ?_;(rw [TW (fun j hj=>bJ j om),← lq,show dBad l_ r_ (d_.getD g2.toNat dD)=true from PS]; rfl)
     ·have PS:=c6;have c6:=nr c6;refine wn ?_;refine kC _ ?_ ?_
      ·(refine ⟨ob,ob,?_⟩; rw [← lq,show dBad l_ r_ (d_.getD g2.toNat dD)=false from PS,show (g2+1).toNat=g2.toNat+1 by omega]; rfl)
      ·exact ob
    ·refine au ?_;(rw [TW (fun j hj=>bJ j om),← lq,show g2.toNat=d_.length by omega,List.drop_length]; rfl)
   ·(refine ⟨ob,ob,rfl⟩)
 ·(refine ⟨ob,ob,fun j hj=>by omega⟩)
theorem JR {l_:(List aG)} {d_:(List bE)} (h1:l_.length≤2000000) (h2:d_.length≤2000000):W (vo l_ d_) (fun r=>r=leastF l_ d_):=by
 unfold vo;refine aF (Q8 ob ob) fun v1 hv1=>?_;subst v1;refine bF (fun c1=>?_) (fun c1=>?_)
 ·have eH:=c1;have c1:=nr c1;refine au ?_;(unfold leastF; rw [eH]; rfl)
 ·have eH:=c1;have c1:=nr c1;have hdr:=begin_ok (show beginF l_ d_=0 by simpa using eH);have hv:=vld_of hdr;obtain ⟨vl,vd,vs,vlv,vx⟩:=id hv;have hul:=usedF_len l_ d_;refine aF (K9 hv) fun v2 hv2=>?_;subst v2;refine wm ?_;refine bq (fun (g1:(Int×(List Int)×(List Int)))=>0≤g1.1∧g1.1≤d_.length∧g1.2.1=vols (dInit l_.length d_ g1.1.toNat)∧g1.2.2=List.replicate l_.length 0) (fun (g1:(Int×(List Int)×(List Int)))=>(d_.length - g1.1).toNat) ?_ ?_
  ·intro aj g1 dH bL;obtain ⟨cK,bC,bJ,ji⟩:=dH;unfold GQ;have hgl:g1.2.1.length=l_.length:=(by rw [bJ,vols_len,dInit_len]);refine wi (fun c2=>?_) (fun c2=>?_)
   ·have hx:=vx _ (getD_mem dD (show g1.1.toNat<d_.length by omega));refine wm ?_;refine wm ?_;refine bL _ ?_ ?_
    ·(refine ⟨ob,ob,?_,ji⟩; dsimp only; rw [show (g1.1+1).toNat=g1.1.toNat+1 by omega,vols_dInit,bJ])
    ·exact ob
   ·refine wn ?_;refine bq (fun (g2:(Int×(List Int)×(List Int))) => -1≤g2.1∧g2.1<l_.length∧∃s:DS,g2.2.1=vols s.a∧g2.2.2=s.lv∧DOk l_ s∧LvOk l_ s∧demN l_ (usedF l_ d_) (g2.1+1).toNat s=demF l_ d_) (fun (g2:(Int×(List Int)×(List Int)))=>(g2.1+1).toNat) ?_ ?_
    ·intro cO g2 jD kC;obtain ⟨kI,gJ,lq⟩:=jD;unfold ET;obtain ⟨s,e1,e2,e3,e4,e5⟩:=lq;have hal:g2.2.1.length=l_.length:=(by rw [e1,vols_len,e3.al]);have hll:g2.2.2.length=l_.length:=(by rw [e2,e3.ll]);refine wi (fun c3=>?_) (fun c3=>?_)
     ·have hp:=vs g2.1.toNat om;rw [show (g2.1+1).toNat=g2.1.toNat+1 by omega,demN] at e5;refine wn ?_;refine bF (fun c4=>?_) (fun c4=>?_)
      ·have mW:=c4;have c4:=nr c4;refine wn ?_;refine kC _ ?_ ?_
       ·(refine ⟨ob,ob,s,e1,e2,e3,e4,?_⟩; dsimp only; rw [show (g2.1 - 1+1).toNat=g2.1.toNat by omega]; rw [VW mW,XO mW] at e5; exact e5)
       ·exact ob
      ·have mW:=c4;have c4:=nr c4;have hu:(usedF l_ d_).getD g2.1.toNat false=true:=(by simpa using mW);refine wm ?_;refine aF (Q9 ob) fun v11 adS=>?_;subst v11;rw [e1,vols_get,show lvN (l_.getD g2.1.toNat aC).bN (s.a.getD g2.1.toNat dem0).volt=lvOf l_ g2.1.toNat s from rfl];have hgs:(g2.2.2.set g2.1.toNat (bif decide (lvOf l_ g2.1.toNat s<(l_.getD g2.1.toNat aC).bN.length) then (lvOf l_ g2.1.toNat s:Int) else -1)).getD g2.1.toNat 0=(bif decide (lvOf l_ g2.1.toNat s<(l_.getD g2.1.toNat aC).bN.length) then (lvOf l_ g2.1.toNat s:Int) else -1):=(by rw [getD_set,if_pos ⟨rfl,om⟩]);refine wn ?_;unfold vU;refine wn ?_;refine bF (fun c5=>?_) (fun c5=>?_)
       ·have yg:=c5;have c5:=nr c5;rw [hgs] at yg;have h5:=XJ yg;have h6:decide ((lvOf l_ g2.1.toNat s:Int)<(l_.getD g2.1.toNat aC).bN.length)=false:=(by simpa using h5);refine au ?_;(exact U0 eH (by unfold dFail at e5; rw [hu,h6] at e5; exact e5))
       ·have yg:=c5;have c5:=nr c5;rw [hgs] at yg;have h5:=XK yg;have h6:decide ((lvOf l_ g2.1.toNat s:Int)<(l_.getD g2.1.toNat aC).bN.length)=true:=(by simpa using h5);have hf:dFail l_ (usedF l_ d_) g2.1.toNat s=false:=(by unfold dFail; rw [hu,h6]; rfl);rw [hf] at e5;have hlo:=dOne_ok (u:=usedF l_ d_) (i:=g2.1.toNat) e3;have hlv:=dOne_lv hf e4;have hR:=lv_rok hul hlo hlv;have hs:(dOne l_ (usedF l_ d_) g2.1.toNat s).lv=s.lv.set g2.1.toNat (lvOf l_ g2.1.toNat s:Int):=(by unfold dOne; rw [hu]; rfl);have hvo:=XL (l:=l_) (u:=usedF l_ d_) hu (show g2.1.toNat<s.lv.length by rw [e3.ll]; omega);have hvb:=volt_bnd hv hR g2.1.toNat om;rw [h5]; simp only [cond_true]; rw [e2,← hs];refine wn ?_;refine bF (fun c6=>?_) (fun c6=>?_)
        ·have PS:=c6;have c6:=nr c6;refine wn ?_;refine aF (uK om om hR) fun v10 CZ=>?_;subst v10;refine wn ?_;refine aM (by (unfold InI64; omega)) ?_;refine wm ?_;refine kC _ ?_ ?_
         ·(refine ⟨ob,ob,dOne l_ (usedF l_ d_) g2.1.toNat s,?_,rfl,hlo,hlv,?_⟩; (dsimp only; rw [hvo,e1]; exact XM hu PS); (dsimp only; rw [show (g2.1 - 1+1).toNat=g2.1.toNat by omega]; exact e5))
         ·exact ob
        ·have PS:=c6;have c6:=nr c6;refine wn ?_;refine kC _ ?_ ?_
         ·(refine ⟨ob,ob,dOne l_ (usedF l_ d_) g2.1.toNat s,?_,rfl,hlo,hlv,?_⟩; (dsimp only; rw [e1]; exact VX PS); (dsimp only; rw [show (g2.1 - 1+1).toNat=g2.1.toNat by omega]; exact e5))
         ·exact ob
     ·rw [show (g2.1+1).toNat=0 by omega,demN] at e5;have hrk:Rok l_ ⟨usedF l_ d_,g2.2.2⟩:=(by rw [e2]; exact lv_rok hul e3 e4);refine aF (JQ hv hrk) fun v12 Ja=>?_;subst v12;refine bF (fun c7=>?_) (fun c7=>?_)
      ·have NG:=c7;have c7:=nr c7;refine au ?_;(rw [RV eH hdr e5 (by rw [← e2]; exact hrk),← e2,NG]; rfl)
      ·have NG:=c7;have c7:=nr c7;refine au ?_;(rw [RV eH hdr e5 (by rw [← e2]; exact hrk),← e2,NG]; rfl)
    ·(refine ⟨ob,ob,ds0 l_ d_,?_,ji,ds0_ok _ _,?_,?_⟩; (dsimp only; rw [bJ,show g1.1.toNat=d_.length by omega]; rfl); (intro j hj; show 0≤(List.replicate l_.length (0:Int)).getD j 0∧(List.replicate l_.length (0:Int)).getD j 0<_; rw [rep_getD]; have:=vs j hj; omega); (dsimp only; rw [show ((l_.length:Int) - 1+1).toNat=l_.length by omega]; rfl))
  ·(refine ⟨ob,ob,?_,rfl⟩; show _=vols (List.replicate l_.length (⟨0,-1,-1⟩:Dem)); unfold vols; rw [List.map_replicate]; rfl)
end Go.Proofs.YtccjmcmolnbiiaaGreatDoor.Sp
namespace Go.Proofs.YtccjmcmolnbiiaaGreatDoor
open Go.Ab
set_option maxRecDepth 100000
theorem TY (n lo hi:Int) (b:Bool):(((decide (n<lo))||(decide (hi<n)))||b)=(!(withinF n lo hi)||b):=by
 unfold withinF;congr 1;by_cases h1:n<lo<;>by_cases h2:hi<n<;>simp [h1,h2]<;>omega
theorem VY {l:List Int} {x y:Int} (h:l.contains x=false) (hy:¬ y=x):(l++[y]).contains x=false:=by
 rw [List.contains_eq_any_beq] at h ⊢;rw [List.any_append,h];simpa using fun e=>hy e.symm
theorem U1 (n:Nat):decide ((1:Int)≤(n:Int))=decide ((0:Int)<(n:Int)):=by
 rw [decide_eq_decide]; omega
theorem adT {c:aH}:((decide ((1:Int)≤(c.aN.length:Int))&&decide ((0:Int)<(c.aK.length:Int)))&&(diffG 0 ((c.aN.length:Int) - 1) [] c.aK))=(decide (0<(c.aK.length:Int))&&diffG 0 ((c.aN.length:Int) - 1) [] c.aK):=by
 by_cases h:1≤(c.aN.length:Int)
 ·rw [decide_eq_true h,Bool.true_and]
 ·rw [decide_eq_false h,Bool.false_and,Bool.false_and];symm;rw [Bool.and_eq_false_iff];by_cases h2:0<(c.aK.length:Int)
  ·right;cases hd:diffG 0 ((c.aN.length:Int) - 1) [] c.aK with
   | false=>rfl
   | true=>have:=diff_ne _ _ hd om; omega
  ·left; exact decide_eq_false h2
theorem VZ {l_:(List Int)} {x_:Int} (h1:l_.length≤2000000):W (OJ l_ x_) (fun r=>r=l_.contains x_):=by
 unfold OJ;refine bq (fun (g1:Int)=>0≤g1∧g1≤l_.length∧(l_.take g1.toNat).contains x_=false) (fun (g1:Int)=>(l_.length - g1).toNat) ?_ ?_
 ·intro aj g1 dH bL;obtain ⟨cK,bC,bJ⟩:=dH;unfold Pw;refine wi (fun c1=>?_) (fun c1=>?_)
  ·refine wn ?_;refine wi (fun c2=>?_) (fun c2=>?_)
   ·refine au ?_;(exact (List.elem_eq_true_of_mem (by rw [← c2]; exact getD_in 0 om)).symm)
   ·refine wn ?_;refine bL _ ?_ ?_
    ·(refine ⟨ob,ob,?_⟩; rw [show (g1+1).toNat=g1.toNat+1 by omega,take_snoc 0 om]; exact VY bJ c2)
    ·exact ob
  ·refine au ?_;(rw [show g1.toNat=l_.length by omega,List.take_length] at bJ; exact bJ.symm)
 ·(refine ⟨ob,ob,rfl⟩)
theorem T9 {a_:(List Int)} {b_:(List Int)} (h1:a_.length≤2000000):W (Cr a_ b_) (fun r=>r=(a_==b_)):=by
 unfold Cr;refine wi (fun c1=>?_) (fun c1=>?_)
 ·refine au ?_;(exact (SH c1).symm)
 ·refine bq (fun (g1:Int)=>0≤g1∧g1≤a_.length∧(a_==b_)=(a_.drop g1.toNat==b_.drop g1.toNat)) (fun (g1:Int)=>(a_.length - g1).toNat) ?_ ?_
  ·intro aj g1 dH bL;obtain ⟨cK,bC,bJ⟩:=dH;unfold KR;refine wi (fun c2=>?_) (fun c2=>?_)
   ·rw [drop_cons 0 (show g1.toNat<a_.length by omega),drop_cons 0 (show g1.toNat<b_.length by omega)] at bJ;refine wm ?_;refine wi (fun c3=>?_) (fun c3=>?_)
    ·refine au ?_;(rw [bJ,YA c3])
    ·refine wn ?_;refine bL _ ?_ ?_
     ·(refine ⟨ob,ob,?_⟩; rw [bJ,YB c3,show (g1+1).toNat=g1.toNat+1 by omega])
     ·exact ob
   ·refine au ?_;(rw [bJ,List.drop_eq_nil_of_le om,List.drop_eq_nil_of_le om]; rfl)
  ·(refine ⟨ob,ob,rfl⟩)
theorem rU {l_:(List Int)} {qE:Int} {sD:Int} (h1:l_.length≤2000000):W (jC l_ qE sD) (fun r=>r=diffG qE sD [] l_):=by
 unfold jC;refine bq (fun (g1:Int)=>0≤g1∧g1≤l_.length∧diffG qE sD (l_.take g1.toNat) (l_.drop g1.toNat)=diffG qE sD [] l_) (fun (g1:Int)=>(l_.length - g1).toNat) ?_ ?_
 ·intro aj g1 dH bL;obtain ⟨cK,bC,bJ⟩:=dH;unfold yT;refine wi (fun c1=>?_) (fun c1=>?_)
  ·rw [drop_cons 0 (show g1.toNat<l_.length by omega)] at bJ;refine wm ?_;refine aF (fP fun hc=>jT (VZ ob)) fun v3 hv3=>?_;subst v3;refine bF (fun c2=>?_) (fun c2=>?_)
   ·have iL:=c2;have c2:=nr c2;rw [TY] at iL;refine au ?_;(rw [← bJ,diffG_f (pre:=l_.take g1.toNat) (n:=l_.getD g1.toNat 0) iL])
   ·have iL:=c2;have c2:=nr c2;rw [TY] at iL;refine wn ?_;refine bL _ ?_ ?_
    ·(refine ⟨ob,ob,?_⟩; rw [← bJ,diffG_t (pre:=l_.take g1.toNat) (n:=l_.getD g1.toNat 0) iL,show (g1+1).toNat=g1.toNat+1 by omega,take_snoc 0 om])
    ·exact ob
  ·refine au ?_;(rw [← bJ,List.drop_eq_nil_of_le om]; rfl)
 ·(refine ⟨ob,ob,rfl⟩)
theorem N7 {c_:aH} (h1:c_.aN.length≤2000000) (h2:c_.aK.length≤2000000):W (uF c_) (fun r=>r=choicesB c_):=by
 unfold uF;refine bF (fun c1=>?_) (fun c1=>?_)
 ·have eH:=c1;have c1:=nr c1;refine aM (by (intro hc; simp only [Bool.and_eq_true,beq_iff_eq] at hc; omega)) ?_;refine aM (by (intro hc; simp only [Bool.and_eq_true,beq_iff_eq] at hc; omega)) ?_;refine au ?_;(unfold choicesB; rw [eH]; simp only [cond_true]; unfold withinF; rw [Bool.and_assoc])
 ·have eH:=c1;have c1:=nr c1;refine bF (fun c2=>?_) (fun c2=>?_)
  ·have iL:=c2;have c2:=nr c2;refine bF (fun c3=>?_) (fun c3=>?_)
   ·have iB:=c3;have c3:=nr c3;refine aF (fP fun hc=>jT (rU ob)) fun v1 hv1=>?_;subst v1;refine au ?_;(unfold choicesB; rw [eH,iL,U1]; rfl)
   ·have iB:=c3;have c3:=nr c3;rw [iL] at iB; cases iB
  ·have iL:=c2;have c2:=nr c2;refine bF (fun c4=>?_) (fun c4=>?_)
   ·have mW:=c4;have c4:=nr c4;refine aF (fP fun hc=>jT (rU ob)) fun v4 hv4=>?_;subst v4;refine au ?_;(unfold choicesB; rw [eH,iL,mW,U1]; rfl)
   ·have mW:=c4;have c4:=nr c4;refine bF (fun c5=>?_) (fun c5=>?_)
    ·have yg:=c5;have c5:=nr c5;refine wn ?_;refine aF (fP fun hc=>jT (rU ob)) fun v5 hv5=>?_;subst v5;refine au ?_;(unfold choicesB; rw [eH,iL,mW,yg,U1 c_.aK.length]; exact adT)
    ·have yg:=c5;have c5:=nr c5;refine bF (fun c6=>?_) (fun c6=>?_)
     ·have PS:=c6;have c6:=nr c6;refine bF (fun c7=>?_) (fun c7=>?_)
      ·have NG:=c7;have c7:=nr c7;refine aF (fP fun hc=>jT (T9 ob)) fun v6 hv6=>?_;subst v6;refine au ?_;(unfold choicesB; rw [eH,iL,mW,yg,PS]; rfl)
      ·have NG:=c7;have c7:=nr c7;refine au ?_;(unfold choicesB; rw [eH,iL,mW,yg,PS,show ((c_.aN.length:Int)==1)=false by simpa using NG]; rfl)
     ·have PS:=c6;have c6:=nr c6;refine au ?_;(unfold choicesB; rw [eH,iL,mW,yg,PS]; rfl)
theorem N8 {l_:(List aH)} (h1:l_.length≤1000) (h2:ParOK l_):W (uG l_) (fun r=>r=facs l_):=by
 unfold uG;refine bq (fun (g1:(Int×(List Int)))=>0≤g1.1∧g1.1≤l_.length∧g1.2=facs (l_.take g1.1.toNat)) (fun (g1:(Int×(List Int)))=>(l_.length - g1.1).toNat) ?_ ?_
 ·intro aj g1 dH bL;obtain ⟨cK,bC,bJ⟩:=dH;unfold Cu;have hfb:=facs_len_bound (l_.take g1.1.toNat);rw [take_len om,← bJ] at hfb;refine wi (fun c1=>?_) (fun c1=>?_)
  ·obtain ⟨hp1,hp2⟩:=h2 g1.1.toNat om;refine wn ?_;refine bq (fun (g6:(Int×Int))=>0≤g6.2∧g6.2≤(l_.getD g1.1.toNat aI).aN.length∧g6.1=parMax g1.2 ((l_.getD g1.1.toNat aI).aN.take g6.2.toNat)) (fun (g6:(Int×Int))=>((l_.getD g1.1.toNat aI).aN.length - g6.2).toNat) ?_ ?_
   ·intro gU g6 zH vY;obtain ⟨wU,lg,Fq⟩:=zH;unfold Ct;have hpm:=parMax_bound g1.2 g1.1.toNat om hfb.2 ((l_.getD g1.1.toNat aI).aN.take g6.2.toNat);rw [← Fq] at hpm;refine wi (fun c2=>?_) (fun c2=>?_)
    ·have hx:=hp2 _ (getD_in (i:=g6.2.toNat) 0 om);refine wm ?_;refine wn ?_;refine vY _ ?_ ?_
     ·(refine ⟨ob,ob,?_⟩; dsimp only; rw [show (g6.2+1).toNat=g6.2.toNat+1 by omega]; unfold parMax; rw [foldl_take _ _ 0 om,Fq]; rfl)
     ·exact ob
    ·have hpe:g6.1=parMax g1.2 (l_.getD g1.1.toNat aI).aN:=(by rw [Fq,show g6.2.toNat=(l_.getD g1.1.toNat aI).aN.length by omega,List.take_length]);refine bF (fun c3=>?_) (fun c3=>?_)
     ·have iB:=c3;have c3:=nr c3;refine wn ?_;unfold ko;refine wm ?_;refine bL _ ?_ ?_
      ·(refine ⟨ob,ob,?_⟩; dsimp only; rw [show (g1.1+1).toNat=g1.1.toNat+1 by omega,take_snoc aI om,facs_snoc,← bJ]; unfold fac1 isDM; rw [iB,hpe]; rfl)
      ·exact ob
     ·have iB:=c3;have c3:=nr c3;unfold ko;refine wm ?_;refine bL _ ?_ ?_
      ·(refine ⟨ob,ob,?_⟩; dsimp only; rw [show (g1.1+1).toNat=g1.1.toNat+1 by omega,take_snoc aI om,facs_snoc,← bJ]; unfold fac1 isDM; rw [iB,hpe]; rfl)
      ·exact ob
   ·(refine ⟨ob,ob,rfl⟩)
  ·refine au ?_;(rw [bJ,show g1.1.toNat=l_.length by omega,List.take_length])
 ·(refine ⟨ob,ob,rfl⟩)
theorem uL {l_:(List aH)} (h1:l_.length≤2000000):W (nI l_) (fun r=>r=checkF l_):=by
 unfold nI;refine bF (fun c1=>?_) (fun c1=>?_)
 ·have eH:=c1;have c1:=nr c1;refine au ?_;(unfold checkF; rw [eH]; rfl)
 ·have eH:=c1;have c1:=nr c1;refine bq (fun (g1:Int)=>0≤g1∧g1≤l_.length∧(∀j:Nat,(j:Int)<g1→bigC (l_.getD j aI)=false)) (fun (g1:Int)=>(l_.length - g1).toNat) ?_ ?_
  ·intro aj g1 dH bL;obtain ⟨cK,bC,bJ⟩:=dH;unfold Gu;refine wi (fun c2=>?_) (fun c2=>?_)
   ·refine wn ?_;refine bF (fun c3=>?_) (fun c3=>?_)
    ·have iB:=c3;have c3:=nr c3;refine au ?_;(unfold checkF; rw [any_true_get (p:=bigC) aI (show g1.toNat<l_.length by omega) (show bigC _=true from iB),Bool.or_true]; rfl)
    ·have iB:=c3;have c3:=nr c3;refine wn ?_;refine bL _ ?_ ?_
     ·(refine ⟨ob,ob,dn bJ cK iB⟩)
     ·exact ob
   ·have hb4:∀i:Nat,i<l_.length→bigC (l_.getD i aI)=false:=fun j hj=>bJ j om;have hbig:=any_none (p:=bigC) aI hb4;have hb3:(decide (16<(l_.length:Int))||l_.any bigC)=false:=(by rw [eH,hbig]; rfl);refine bq (fun (g2:(Int×Int))=>0≤g2.2∧g2.2≤l_.length∧g2.1=prodC (l_.take g2.2.toNat)∧(∀j:Nat,(j:Int)<g2.2→validC (l_.getD j aI) j=true)) (fun (g2:(Int×Int))=>(l_.length - g2.2).toNat) ?_ ?_
    ·intro cO g2 jD kC;obtain ⟨kI,gJ,lq,Lb⟩:=jD;unfold EM;refine wi (fun c4=>?_) (fun c4=>?_)
     ·have hlt:g2.2.toNat<l_.length:=om;have hbl:=bigC_len (hb4 g2.2.toNat hlt);refine wn ?_;refine bq (fun (g5:Int)=>0≤g5∧g5≤(l_.getD g2.2.toNat aI).aN.length∧(∀j:Nat,(j:Int)<g5→withinF ((l_.getD g2.2.toNat aI).aN.getD j 0) 0 (g2.2.toNat - 1)=true)) (fun (g5:Int)=>((l_.getD g2.2.toNat aI).aN.length - g5).toNat) ?_ ?_
      ·intro iF g5 Kl Hu;obtain ⟨JN,AP,K8⟩:=Kl;unfold EK;refine wi (fun c5=>?_) (fun c5=>?_)
       ·refine wn ?_;refine wi (fun c6=>?_) (fun c6=>?_)
        ·refine au ?_;(unfold checkF; rw [hb3,allV_false hlt (validC_false_par (j:=g5.toNat) om (by rw [← Bool.not_eq_true,within_iff]; omega))]; rfl)
        ·refine wn ?_;refine Hu _ ?_ ?_
         ·(refine ⟨ob,ob,dn K8 JN (by rw [within_iff]; omega)⟩)
         ·exact ob
       ·have hvr:=validC_rest (k:=(g2.2.toNat:Int)) (fun j hj=>K8 j om);refine aF (N7 ob ob) fun v3 hv3=>?_;subst v3;refine bF (fun c7=>?_) (fun c7=>?_)
        ·have NG:=c7;have c7:=nr c7;rw [NG] at hvr;refine au ?_;(unfold checkF; rw [hb3,allV_false hlt hvr]; rfl)
        ·have NG:=c7;have c7:=nr c7;rw [NG] at hvr;have hpm:=prod_mul (l_.take g2.2.toNat) (l_.getD g2.2.toNat aI).aK.length om;rw [← lq] at hpm;refine wm ?_;refine kC _ ?_ ?_
         ·(refine ⟨ob,ob,?_,dn Lb kI hvr⟩; dsimp only; rw [show (g2.2+1).toNat=g2.2.toNat+1 by omega]; unfold prodC; rw [foldl_take _ _ aI hlt]; rw [lq]; rfl)
         ·exact ob
      ·(refine ⟨ob,ob,fun j hj=>by omega⟩)
     ·have hva:∀i:Nat,i<l_.length→validC (l_.getD i aI) i=true:=fun j hj=>Lb j om;have hall:=allV_true hva;have hfl:=(facs_len_bound l_).1;rw [show g2.2.toNat=l_.length by omega,List.take_length] at lq;refine bF (fun c8=>?_) (fun c8=>?_)
      ·have XP:=c8;have c8:=nr c8;refine au ?_;(unfold checkF; rw [hb3,hall,← lq,XP]; rfl)
      ·have XP:=c8;have c8:=nr c8;refine aF (N8 om (parOK_of hva hb4)) fun v4 hv4=>?_;subst v4;refine bq (fun (g6:Int)=>0≤g6∧g6≤(facs l_).length∧(∀j:Nat,(j:Int)<g6→(fun n=>decide (4<n)) ((facs l_).getD j 0)=false)) (fun (g6:Int)=>((facs l_).length - g6).toNat) ?_ ?_
       ·intro gU g6 zH vY;obtain ⟨wU,lg,Fq⟩:=zH;unfold EL;refine wi (fun c9=>?_) (fun c9=>?_)
        ·refine wn ?_;refine bF (fun c10=>?_) (fun c10=>?_)
         ·have V3:=c10;have c10:=nr c10;refine au ?_;(unfold checkF; rw [hb3,hall,any_true_get (p:=fun n=>decide (4<n)) 0 (show g6.toNat<(facs l_).length by omega) V3,Bool.or_true]; rfl)
         ·have V3:=c10;have c10:=nr c10;refine wn ?_;refine vY _ ?_ ?_
          ·(refine ⟨ob,ob,dn Fq wU V3⟩)
          ·exact ob
        ·refine au ?_;(unfold checkF; rw [hb3,hall,← lq,XP,any_none (p:=fun n=>decide (4<n)) 0 (fun j hj=>Fq j om)]; rfl)
       ·(refine ⟨ob,ob,fun j hj=>by omega⟩)
    ·(refine ⟨ob,ob,rfl,fun j hj=>by dsimp only at hj; omega⟩)
  ·(refine ⟨ob,ob,fun j hj=>by omega⟩)
theorem YE {l:List aH} {m:List bK} (h:((checkF l != 0)||decide (32<(m.length:Int)))=true):limsB l m=false:=by
 unfold limsB;by_cases h1:checkF l=0
 ·rw [h1] at h;have:32<(m.length:Int):=by simpa using h
  rw [decide_eq_false (p:=(m.length:Int)≤32) om];simp
 ·have:(checkF l==0)=false:=by simpa using h1
  rw [this];rfl
theorem XQ {l:List aH} {m:List bK} (h:((checkF l != 0)||decide (32<(m.length:Int)))=false):limsB l m=!(m.any (badL l.length)):=by
 have h1:checkF l=0∧(m.length:Int)≤32:=by
  simp at h;omega
 unfold limsB;rw [h1.1,decide_eq_true h1.2];rfl
theorem Ua (n:Int) (x:bK):(((((decide (x.dW<(0:Int)))||(decide (n≤x.dW)))||(decide (x.jw<(0:Int))))||(decide (x.eP<x.jw)))||(decide ((4000000000:Int)<x.eP)))=badL n x:=by
 unfold badL withinF;rw [Bool.eq_iff_iff];simp;omega
theorem Hw {l_:(List aH)} {m_:(List bK)} (h1:l_.length≤2000000) (h2:m_.length≤2000000):W (rF l_ m_) (fun r=>r=limsB l_ m_):=by
 unfold rF;refine aF (uL ob) fun v1 hv1=>?_;subst v1;refine bF (fun c1=>?_) (fun c1=>?_)
 ·have eH:=c1;have c1:=nr c1;refine au ?_;(exact (YE eH).symm)
 ·have eH:=c1;have c1:=nr c1;have hdf:=XQ eH;refine bq (fun (g1:Int)=>0≤g1∧g1≤m_.length∧(m_.drop g1.toNat).any (badL l_.length)=m_.any (badL l_.length)) (fun (g1:Int)=>(m_.length - g1).toNat) ?_ ?_
  ·intro aj g1 dH bL;obtain ⟨cK,bC,bJ⟩:=dH;unfold EP;refine wi (fun c2=>?_) (fun c2=>?_)
   ·have hlt:g1.toNat<m_.length:=om;rw [drop_cons cB hlt,List.any_cons] at bJ;refine wn ?_;refine bF (fun c3=>?_) (fun c3=>?_)
    ·have iB:=c3;have c3:=nr c3;rw [Ua] at iB;refine au ?_;(rw [hdf,← bJ,iB]; rfl)
    ·have iB:=c3;have c3:=nr c3;rw [Ua] at iB;refine wn ?_;refine bL _ ?_ ?_
     ·(refine ⟨ob,ob,?_⟩; rw [← bJ,iB,show (g1+1).toNat=g1.toNat+1 by omega]; rfl)
     ·exact ob
   ·refine au ?_;(rw [hdf,← bJ,show g1.toNat=m_.length by omega,List.drop_length]; rfl)
  ·(refine ⟨ob,ob,rfl⟩)
theorem Rb {l_:(List aH)} {m_:(List bK)} (h1:l_.length≤2000000) (h2:m_.length≤2000000):W (Am l_ m_) (fun r=>r=(bif checkF l_ != 0 then checkF l_ else bif !limsB l_ m_ then 1 else 0)):=by
 unfold Am;refine aF (uL ob) fun v1 hv1=>?_;subst v1;refine bF (fun c1=>?_) (fun c1=>?_)
 ·have eH:=c1;have c1:=nr c1;refine au ?_;(rw [eH]; rfl)
 ·have eH:=c1;have c1:=nr c1;refine aF (Hw ob ob) fun v2 hv2=>?_;subst v2;refine bF (fun c2=>?_) (fun c2=>?_)
  ·have iL:=c2;have c2:=nr c2;refine au ?_;(rw [eH,iL]; rfl)
  ·have iL:=c2;have c2:=nr c2;refine au ?_;(rw [eH,iL]; rfl)
theorem PY {c_:aH} {pG:Int} (h1:PChOK c_ pG):W (xQ c_ pG) (fun r=>r=parF c_ pG):=by
 have hp:=h1; unfold PChOK at hp;unfold xQ;refine bF (fun c1=>?_) (fun c1=>?_)
 ·have eH:=c1;have c1:=nr c1;refine au ?_;(unfold parF; rw [eH]; rfl)
 ·have eH:=c1;have c1:=nr c1;refine bF (fun c2=>?_) (fun c2=>?_)
  ·have iL:=c2;have c2:=nr c2;refine wm ?_;refine au ?_;(unfold parF; rw [eH,iL]; rfl)
  ·have iL:=c2;have c2:=nr c2;refine wn ?_;refine au ?_;(unfold parF; rw [eH,iL]; rfl)
theorem wo {a_:Int} {b_:Int} (h1:0≤a_) (h2:0≤b_):W (mE a_ b_) (fun r=>r=gcdI a_ b_):=by
 unfold mE;refine bq (fun (g1:(Int×Int))=>0≤g1.1∧0≤g1.2∧gcdI g1.1 g1.2=gcdI a_ b_) (fun (g1:(Int×Int))=>g1.2.toNat) ?_ ?_
 ·intro aj g1 dH bL;obtain ⟨cK,bC,bJ⟩:=dH;unfold Cx;refine wi (fun c1=>?_) (fun c1=>?_)
  ·refine wn ?_;refine bL _ ?_ ?_
   ·(refine ⟨ob,Int.tmod_nonneg _ om,?_⟩; dsimp only; rw [← bJ]; exact TN om om)
   ·(dsimp only; have:=KZ g1.1 g1.2 om; have:=Int.tmod_nonneg (a:=g1.1) g1.2 om; omega)
  ·refine au ?_;(rw [← bJ]; unfold gcdI; have e:g1.2=0:=c1; rw [e]; simp; omega)
 ·exact ob
theorem uM {r_:bH}:W (nK r_) (fun r=>r=validR r_):=by
 unfold nK;refine aF (fP fun hc=>jT (wo (by have hc:=nr hc; omega) (by have hc:=nr hc; omega))) fun v1 hv1=>?_;subst v1;refine au ?_;rfl
theorem Hy {k_:Int}:W (rG k_) (fun r=>r=factorB k_):=by
 unfold rG;refine au ?_;rfl
theorem NH {qQ:Int} {qR:Int} (h1:qQ≤4611686018427387904) (h2:qR≤4611686018427387904):W (Cy qQ qR) (fun r=>r=newR qQ qR):=by
 unfold Cy;refine bF (fun c1=>?_) (fun c1=>?_)
 ·have eH:=c1;have c1:=nr c1;refine au ?_;(unfold newR; rw [eH]; rfl)
 ·have eH:=c1;have c1:=nr c1;have hg:=gcdI_pos qQ qR om; have q1:=tdiv_le qQ _ om hg; have q2:=tdiv_le qR _ om hg;refine aF (wo ob ob) fun v1 hv1=>?_;subst v1;refine wm ?_;refine aF (uM) fun v2 hv2=>?_;subst v2;refine bF (fun c2=>?_) (fun c2=>?_)
  ·have iL:=c2;have c2:=nr c2;refine au ?_;(unfold newR; rw [eH]; simp only [cond_false]; rw [iL]; rfl)
  ·have iL:=c2;have c2:=nr c2;refine au ?_;(unfold newR; rw [eH]; simp only [cond_false]; rw [iL]; rfl)
theorem SK {r_:bH} {k_:Int}:W (DT r_ k_) (fun r=>r=overR r_ k_):=by
 unfold DT;refine aF (uM) fun v1 hv1=>?_;subst v1;refine bF (fun c1=>?_) (fun c1=>?_)
 ·have eH:=c1;have c1:=nr c1;refine au ?_;(unfold overR; rw [eH]; rfl)
 ·have eH:=c1;have c1:=nr c1;have hv:=validR_iff (r:=r_) (by simpa using eH);refine aF (Hy) fun v2 hv2=>?_;subst v2;refine bF (fun c2=>?_) (fun c2=>?_)
  ·have iL:=c2;have c2:=nr c2;refine au ?_;(unfold overR; rw [eH,iL]; rfl)
  ·have iL:=c2;have c2:=nr c2;have hk:1≤k_∧k_≤64:=(by simp [factorB] at iL; omega);have q3:=Mr (show 0≤k_ by omega) hk.2 (show 0≤r_.gW by omega) hv.2.2.2.1;refine wn ?_;refine aF (NH ob ob) fun v3 hv3=>?_;subst v3;refine au ?_;(unfold overR; rw [eH,iL]; rfl)
theorem Rc {r_:bH} {k_:Int}:W (Ao r_ k_) (fun r=>r=timesR r_ k_):=by
 unfold Ao;refine aF (uM) fun v1 hv1=>?_;subst v1;refine bF (fun c1=>?_) (fun c1=>?_)
 ·have eH:=c1;have c1:=nr c1;refine au ?_;(unfold timesR; rw [eH]; rfl)
 ·have eH:=c1;have c1:=nr c1;have hv:=validR_iff (r:=r_) (by simpa using eH);refine aF (Hy) fun v2 hv2=>?_;subst v2;refine bF (fun c2=>?_) (fun c2=>?_)
  ·have iL:=c2;have c2:=nr c2;refine au ?_;(unfold timesR; rw [eH,iL]; rfl)
  ·have iL:=c2;have c2:=nr c2;have hk:1≤k_∧k_≤64:=(by simp [factorB] at iL; omega);have hg:=gcdI_pos k_ r_.gW om;have q1:=tdiv_le k_ _ om hg;have q2:=tdiv_le r_.gW _ om hg;have q4:=kdiv k_ r_.gW hk om;have q5:=tdiv_le 144115188075855872 _ om (show 0<k_.tdiv (gcdI k_ r_.gW) by omega);refine aF (wo ob ob) fun v3 hv3=>?_;subst v3;refine wm ?_;refine bF (fun c3=>?_) (fun c3=>?_)
   ·have iB:=c3;have c3:=nr c3;refine au ?_;(unfold timesR; rw [eH,iL,iB]; rfl)
   ·have iB:=c3;have c3:=nr c3;have q3:=mul_bound r_.iU (k_.tdiv (gcdI k_ r_.gW)) hv.1 q4.1 om;refine wm ?_;refine wn ?_;refine aF (NH ob ob) fun v4 hv4=>?_;subst v4;refine au ?_;(unfold timesR; rw [eH,iL,iB]; rfl)
theorem iw {l_:(List aH)} {s_:(List Int)} {g1:(Int×(List bH)×(List Bool))} {aj:(Int×(List bH)×(List Bool))→M ((List bH)×(List Bool))} {g7:(Bool×Int×Int)} {Q:((List bH)×(List Bool))→Prop} (bL:∀s':(Int×(List bH)×(List Bool)),(0≤s'.1∧s'.1≤l_.length∧s'.2.1=(stN l_ s_ s'.1.toNat).1∧s'.2.2=(stN l_ s_ s'.1.toNat).2)→(l_.length - s'.1).toNat<(l_.length - g1.1).toNat→W (aj s') Q) (hc:0≤g1.1∧g1.1<l_.length∧l_.length≤1000∧g1.2.1=(stN l_ s_ g1.1.toNat).1∧g1.2.2=(stN l_ s_ g1.1.toNat).2∧((⟨g7.2.1,g7.2.2⟩:bH),g7.1)=(st1 (stN l_ s_ g1.1.toNat).1 (stN l_ s_ g1.1.toNat).2 (l_.getD g1.1.toNat aI) (s_.getD g1.1.toNat 0))):W (gT g1 aj g7) Q:=by
 obtain ⟨XB,XC,XD,UO,UQ,UR⟩:=hc;unfold gT;refine aM (by (rw [UO,(stN_len l_ s_ g1.1.toNat).1]; unfold big; omega)) ?_;refine aM (by (rw [UQ,(stN_len l_ s_ g1.1.toNat).2]; unfold big; omega)) ?_;refine wn ?_;refine bL _ ?_ ?_
 ·(refine ⟨ob,ob,?_,?_⟩; (dsimp only; rw [show (g1.1+1).toNat=g1.1.toNat+1 by omega,stN,← UR,← UO]); (dsimp only; rw [show (g1.1+1).toNat=g1.1.toNat+1 by omega,stN,← UR,← UQ]))
 ·exact ob
theorem Hz {l_:(List aH)} {s_:(List Int)} (h1:Good l_ s_) (h2:Up l_ s_):W (rH l_ s_) (fun r=>r=stF l_ s_):=by
 obtain ⟨q1,q2,q3,q4,q5⟩:=h1;unfold rH;refine bq (fun (g1:(Int×(List bH)×(List Bool)))=>0≤g1.1∧g1.1≤l_.length∧g1.2.1=(stN l_ s_ g1.1.toNat).1∧g1.2.2=(stN l_ s_ g1.1.toNat).2) (fun (g1:(Int×(List bH)×(List Bool)))=>(l_.length - g1.1).toNat) ?_ ?_
 ·intro aj g1 dH bL;obtain ⟨cK,bC,bJ,ji⟩:=dH;unfold ER;have hst:=stN_len l_ s_ g1.1.toNat;refine wi (fun c1=>?_) (fun c1=>?_)
  ·have hch:=q3 g1.1.toNat om;have hpar:=q5 g1.1.toNat om;have hpc:=q4 g1.1.toNat om;have hui:=h2 g1.1.toNat om;refine wm ?_;refine aF (PY ob) fun v18 adO=>?_;subst v18;refine wi (fun c2=>?_) (fun c2=>?_)
   ·refine wm ?_;unfold kR;refine wm ?_;refine bF (fun c3=>?_) (fun c3=>?_)
    ·have iB:=c3;have c3:=nr c3;exact iw (l_:=l_) (s_:=s_) (fun a b c=>bL a b c) (by (exfalso; have:=(show parF (l_.getD g1.1.toNat aI) (s_.getD g1.1.toNat 0) = -1 by unfold parF; rw [iB]; rfl); omega))
    ·have iB:=c3;have c3:=nr c3;refine bF (fun c4=>?_) (fun c4=>?_)
     ·have mW:=c4;have c4:=nr c4;refine aF (SK) fun v16 TM=>?_;subst v16;exact iw (l_:=l_) (s_:=s_) (fun a b c=>bL a b c) (by (refine ⟨ob,ob,ob,bJ,ji,?_⟩; dsimp only; unfold st1; rw [iB,mW,← bJ,← ji]; rfl))
     ·have mW:=c4;have c4:=nr c4;refine bF (fun c5=>?_) (fun c5=>?_)
      ·have yg:=c5;have c5:=nr c5;refine aF (Rc) fun v17 aeT=>?_;subst v17;exact iw (l_:=l_) (s_:=s_) (fun a b c=>bL a b c) (by (refine ⟨ob,ob,ob,bJ,ji,?_⟩; dsimp only; unfold st1; rw [iB,mW,yg,← bJ,← ji]; rfl))
      ·have yg:=c5;have c5:=nr c5;refine bF (fun c6=>?_) (fun c6=>?_)
       ·have PS:=c6;have c6:=nr c6;refine bF (fun c7=>?_) (fun c7=>?_)
        ·have NG:=c7;have c7:=nr c7;exact iw (l_:=l_) (s_:=s_) (fun a b c=>bL a b c) (by (refine ⟨ob,ob,ob,bJ,ji,?_⟩; dsimp only; unfold st1; rw [iB,mW,yg,PS,NG,← bJ,← ji]; rfl))
        ·have NG:=c7;have c7:=nr c7;exact iw (l_:=l_) (s_:=s_) (fun a b c=>bL a b c) (by (refine ⟨ob,ob,ob,bJ,ji,?_⟩; dsimp only; unfold st1; rw [iB,mW,yg,PS,NG,← bJ,← ji]; rfl))
       ·have PS:=c6;have c6:=nr c6;exact iw (l_:=l_) (s_:=s_) (fun a b c=>bL a b c) (by (refine ⟨ob,ob,ob,bJ,ji,?_⟩; dsimp only; unfold st1; rw [iB,mW,yg,PS,← bJ,← ji]; rfl))
   ·unfold kR;refine wm ?_;refine bF (fun c8=>?_) (fun c8=>?_)
    ·have XP:=c8;have c8:=nr c8;exact iw (l_:=l_) (s_:=s_) (fun a b c=>bL a b c) (by (refine ⟨ob,ob,ob,bJ,ji,?_⟩; dsimp only; unfold st1; rw [XP]; rfl))
    ·have XP:=c8;have c8:=nr c8;exfalso; have:=hui (by simpa using XP); omega
  ·refine au ?_;(unfold stF; rw [bJ,ji,show g1.1.toNat=l_.length by omega])
 ·(refine ⟨ob,ob,rfl,rfl⟩)
def XR (r:List bH) (on:List Bool) (l:List aH) (j:Nat):Bool:=((on.getD j false)&&((l.getD j aI).eP != 0))&&!withinR (r.getD j dO) (l.getD j aI).jw (l.getD j aI).eP
def V4 (l:List aH) (st:List bH×List Bool):Bool:=(List.range l.length).all fun i=>!XR st.1 st.2 l i
def PZ (st:List bH×List Bool) (x:bK):Bool:=!(st.2.getD x.dW.toNat false)||!withinR (st.1.getD x.dW.toNat dO) x.jw x.eP
def HV (l:List aH) (s:List Int) (m:List bK):Bool:=!m.any (PZ (stF l s))&&V4 l (stF l s)
def VS (l:List aH) (s:List Int):Prop:=s.length=l.length∧∀i,i<l.length→0≤s.getD i 0∧s.getD i 0<(l.getD i aI).aK.length
def rV:List aH→Nat
 | []=>1
 | c::l=>c.aK.length*rV l
def BK:List aH→List Int→Nat
 | c::l,x::t=>x.toNat*rV l+BK l t
 | _,_=>0
theorem SL {c:aH} {l:List aH} {s:List Int} (h:VS (c::l) s):∃x t,s=x::t∧0≤x∧x<c.aK.length∧VS l t:=by
 obtain ⟨h1,h2⟩:=h;cases s with
 | nil=>cases h1
 | cons x t=>
  have h0:=h2 0 (by simp);exact ⟨x,t,rfl,h0.1,h0.2,by simpa using h1,fun i hi=>h2 (i+1) (by simpa using hi)⟩
theorem P5 {l:List aH}:∀ {s:List Int},VS l s→BK l s<rV l:=by
 induction l with
 | nil=>intro s _; cases s<;>simp [BK,rV]
 | cons c l ih=>
  intro s h;obtain ⟨x,t,rfl,h1,h2,h3⟩:=SL h;have:=ih h3;rw [BK,rV];have h4:(x.toNat+1)*rV l≤c.aK.length*rV l:=Nat.mul_le_mul_right _ om;rw [Nat.add_mul,Nat.one_mul] at h4;omega
theorem XT {l:List aH}:∀ {s:List Int},(∀j,j<l.length→s.getD j 0=0)→BK l s=0:=by
 induction l with
 | nil=>intro s _; cases s<;>rfl
 | cons c l ih=>
  intro s h;cases s with
  | nil=>rfl
  | cons x t=>
   have h0:=h 0 (by simp);have h0:x=0:=h0;rw [BK,h0,ih fun j hj=>h (j+1) (by simpa using hj)];simp
theorem YF {l:List aH}:∀ {s:List Int},VS l s→(∀j,j<l.length→s.getD j 0+1=(l.getD j aI).aK.length)→BK l s+1=rV l:=by
 induction l with
 | nil=>intro s h _; cases s<;>rfl
 | cons c l ih=>
  intro s hv h;obtain ⟨x,t,rfl,h1,h2,h3⟩:=SL hv;have h0:x+1=c.aK.length:=h 0 (by simp);have:=ih h3 fun j hj=>h (j+1) (by simpa using hj);rw [BK,rV,show c.aK.length=x.toNat+1 by omega,Nat.add_mul,Nat.one_mul];omega
theorem XU {l:List aH}:∀ {s t:List Int} {k:Nat},VS l s→k<l.length→t.length=l.length→(∀j,j<k→t.getD j 0=s.getD j 0)→t.getD k 0=s.getD k 0+1→(∀j,k<j→j<l.length→t.getD j 0=0∧s.getD j 0+1=(l.getD j aI).aK.length)→BK l t=BK l s+1:=by
 induction l with
 | nil=>intro s t k _ h; exact absurd h (Nat.not_lt_zero _)
 | cons c l ih=>
  intro s t k hv hk hl h1 h2 h3;obtain ⟨x,s,rfl,g1,g2,g3⟩:=SL hv;cases t with
  | nil=>cases hl
  | cons y t=>
   cases k with
   | zero=>
    have h2:y=x+1:=h2;have e1:=XT (l:=l) (s:=t) fun j hj=>(h3 (j+1) om (by simpa using hj)).1;have e2:=YF g3 fun j hj=>(h3 (j+1) om (by simpa using hj)).2;rw [BK,BK,e1,h2,show (x+1).toNat=x.toNat+1 by omega,Nat.add_mul,Nat.one_mul];omega
   | succ k=>
    have h0:y=x:=h1 0 om;have:=ih g3 (by simpa using hk) (by simpa using hl) (fun j hj=>h1 (j+1) om) h2 (fun j a b=>h3 (j+1) om (by simpa using b));rw [BK,BK,h0,this];omega
theorem Vm {l:List aH} {s t:List Int} {k:Nat} (hv:VS l s) (hk:k<l.length) (hl:t.length=l.length) (h1:∀j,j<k→t.getD j 0=s.getD j 0) (h2:t.getD k 0=s.getD k 0+1) (h3:∀j,k<j→j<l.length→t.getD j 0=0∧s.getD j 0+1=(l.getD j aI).aK.length) (h4:s.getD k 0+1<(l.getD k aI).aK.length):VS l t∧BK l t=BK l s+1:=by
 refine ⟨⟨hl,fun i hi=>?_⟩,XU hv hk hl h1 h2 h3⟩;have:=hv.2 i hi;rcases Nat.lt_trichotomy i k with h | h | h
 ·rw [h1 i h]; exact this
 ·subst h; omega
 ·have:=h3 i h hi; omega
theorem Vn {l:List aH} {s:List Int} (h:VS l s):settB l s=true:=by
 unfold settB;rw [h.1,beq_self_eq_true,Bool.true_and,List.all_eq_true];intro i hi;have:=h.2 i (by have:=List.mem_range.1 hi; omega);exact (within_iff _ _ _).2 om
theorem V5 (l:List aH) (c:aH):rV (l++[c])=rV l*c.aK.length:=by
 induction l with
 | nil=>simp [rV]
 | cons a l ih=>rw [List.cons_append,rV,rV,ih,Nat.mul_assoc]
theorem V6 {l:List aH} (h:∀c∈l,1≤c.aK.length):prodC l=minI (rV l) 1099511627776:=by
 induction l using snocInd with
 | nil=>rfl
 | append_singleton l c ih=>
  have hc:=h c (by simp);rw [prodC_snoc,ih fun x hx=>h x (by simp [hx]),V5,Int.natCast_mul];generalize ((rV l:Nat):Int)=a;generalize hb:(c.aK.length:Int)=b;have hb1:1≤b:=by omega
  unfold minI;by_cases h1:(1099511627776:Int)<a
  ·have h2:(1099511627776:Int)<a*b:=by
    have:=Int.mul_le_mul_of_nonneg_left hb1 (show 0≤a by omega);omega
   have h3:(1099511627776:Int)≤1099511627776*b:=by omega
   rw [if_pos h1,if_pos h2];split<;>omega
  ·rw [if_neg h1]
theorem size_le {l:List aH} (h:Fine l):rV l≤4096:=by
 have hp:=h.prod;rw [V6 fun c hc=>by
  obtain ⟨k,hk,rfl⟩:=List.mem_iff_getElem.1 hc;have:=choices_pos (validC_choices (h.valid k hk));rw [List.getD_eq_getElem?_getD,List.getElem?_eq_getElem hk] at this;simp only [Option.getD_some] at this;omega] at hp
 unfold minI at hp;split at hp<;>omega
theorem Vo {l:List aH} (h:Fine l):VS l (List.replicate (l.length:Int).toNat 0):=by
 refine ⟨by simp,fun i hi=>?_⟩;have:=choices_pos (validC_choices (h.valid i hi));rw [Sp.rep_getD];omega
theorem V7 {l:List aH} {m:List bK} (h:((bif checkF l != 0 then checkF l else bif !limsB l m then 1 else 0) != 0)=false):checkF l=0∧limsB l m=true:=by
 cases h1:checkF l != 0 with
 | true=>rw [h1] at h; simp only [cond_true] at h; rw [h1] at h; cases h
 | false=>
  cases h2:limsB l m with
  | false=>rw [h1,h2] at h; cases h
  | true=>exact ⟨by simpa using h1,rfl⟩
theorem Vp {l:List aH} {m:List bK} (h:limsB l m=true):∀x∈m,0≤x.dW∧x.dW<l.length:=fun x hx=>(badL_get (Hf h x hx)).1
theorem zo {r_:bH} {xw:Int} {kN:Int}:W (nV r_ xw kN) (fun r=>r=withinR r_ xw kN):=by
 unfold nV;refine aF (uM) fun v1 hv1=>?_;subst v1;refine bF (fun c1=>?_) (fun c1=>?_)
 ·have eH:=c1;have c1:=nr c1;refine au ?_;(unfold withinR; rw [show validR r_=false by simpa using eH]; rfl)
 ·have eH:=c1;have c1:=nr c1;have hv:=validR_iff (r:=r_) (by simpa using eH);have q1:=tdiv_le r_.iU r_.gW hv.1 om;refine wm ?_;refine au ?_;(unfold withinR; rw [show validR r_=true by simpa using eH]; rfl)
theorem NI {l_:(List aH)} {r_:(List bH)} {mP:(List Bool)} (h1:l_.length≤2000000) (h2:r_.length=l_.length) (h3:mP.length=l_.length):W (Cz l_ r_ mP) (fun r=>r=V4 l_ (r_,mP)):=by
 unfold Cz;refine bq (fun (g1:Int)=>0≤g1∧g1≤l_.length∧(∀j:Nat,(j:Int)<g1→XR r_ mP l_ j=false)) (fun (g1:Int)=>(l_.length - g1).toNat) ?_ ?_
 ·intro aj g1 dH bL;obtain ⟨cK,bC,bJ⟩:=dH;unfold KS;refine wi (fun c1=>?_) (fun c1=>?_)
  ·refine wm ?_;refine wn ?_;refine aF (fP fun hc=>jT (zo)) fun v3 hv3=>?_;subst v3;refine bF (fun c2=>?_) (fun c2=>?_)
   ·have iL:=c2;have c2:=nr c2;refine au ?_;(unfold V4; rw [rangeAll_false (i:=g1.toNat) om (by rw [show XR r_ mP l_ g1.toNat=true from iL]; rfl)])
   ·have iL:=c2;have c2:=nr c2;refine wn ?_;refine bL _ ?_ ?_
    ·(refine ⟨ob,ob,dn bJ cK iL⟩)
    ·exact ob
  ·refine au ?_;(unfold V4; rw [rangeAll_true fun j hj=>(by rw [bJ j om]; rfl)])
 ·(refine ⟨ob,ob,fun j hj=>by omega⟩)
theorem SN {l_:(List aH)} {s_:(List Int)} {m_:(List bK)} (h1:Good l_ s_) (h2:Up l_ s_) (h3:m_.length≤2000000) (h4:∀x∈m_,0≤x.dW∧x.dW<l_.length):W (DU l_ s_ m_) (fun r=>r=HV l_ s_ m_):=by
 have hsm:=h1.small;have hst:=stN_len l_ s_ l_.length;unfold DU;refine aF (Hz ob ob) fun v1 hv1=>?_;subst v1;have hs1:(stF l_ s_).1.length=l_.length:=hst.1;have hs2:(stF l_ s_).2.length=l_.length:=hst.2;refine bq (fun (g1:Int)=>0≤g1∧g1≤m_.length∧(m_.drop g1.toNat).any (PZ (stF l_ s_))=m_.any (PZ (stF l_ s_))) (fun (g1:Int)=>(m_.length - g1).toNat) ?_ ?_
 ·intro aj g1 dH bL;obtain ⟨cK,bC,bJ⟩:=dH;unfold JC;refine wi (fun c1=>?_) (fun c1=>?_)
  ·have hlt:g1.toNat<m_.length:=om;have hx:=h4 _ (getD_in (i:=g1.toNat) cB hlt);rw [drop_cons cB hlt,List.any_cons] at bJ;refine wm ?_;refine wn ?_;refine aF (fP fun hc=>jT (zo)) fun v4 hv4=>?_;subst v4;refine bF (fun c2=>?_) (fun c2=>?_)
   ·have iL:=c2;have c2:=nr c2;refine au ?_;(unfold HV; rw [← bJ,show PZ (stF l_ s_) (m_.getD g1.toNat cB)=true from iL]; rfl)
   ·have iL:=c2;have c2:=nr c2;refine wn ?_;refine bL _ ?_ ?_
    ·(refine ⟨ob,ob,?_⟩; rw [← bJ,show PZ (stF l_ s_) (m_.getD g1.toNat cB)=false from iL,show (g1+1).toNat=g1.toNat+1 by omega]; rfl)
    ·exact ob
  ·refine aF (NI ob ob ob) fun v5 hv5=>?_;subst v5;refine au ?_;(unfold HV; rw [← bJ,show g1.toNat=m_.length by omega,List.drop_length]; rfl)
 ·(refine ⟨ob,ob,rfl⟩)
theorem Lc {l_:(List aH)} {s_:(List Int)} (h1:l_.length≤1000) (h2:VS l_ s_) (h3:∀i,i<l_.length→(l_.getD i aI).aK.length≤2000000):W (DV l_ s_) (fun r=>r.2=true→VS l_ r.1∧BK l_ r.1=BK l_ s_+1):=by
 obtain ⟨hsl,hsv⟩:=id h2;unfold DV;refine wm ?_;refine bq (fun (g1:(Int×(List Int))) => -1≤g1.1∧g1.1<l_.length∧g1.2.length=l_.length∧(∀j:Nat,(j:Int)≤g1.1→g1.2.getD j 0=s_.getD j 0)∧(∀j:Nat,g1.1<(j:Int)→j<l_.length→g1.2.getD j 0=0∧s_.getD j 0+1=(l_.getD j aI).aK.length)) (fun (g1:(Int×(List Int)))=>(g1.1+1).toNat) ?_ ?_
 ·intro aj g1 dH bL;obtain ⟨cK,bC,bJ,ji,G9⟩:=dH;unfold JD;refine wi (fun c1=>?_) (fun c1=>?_)
  ·have hv:=hsv g1.1.toNat om;have hc:=h3 g1.1.toNat om;have he:=ji g1.1.toNat om;have hgs:(g1.2.set g1.1.toNat (g1.2.getD g1.1.toNat 0+1)).getD g1.1.toNat 0=s_.getD g1.1.toNat 0+1:=(by rw [Sp.getD_set,if_pos ⟨rfl,om⟩,he]);have hgo:∀j,j≠g1.1.toNat→(g1.2.set g1.1.toNat (g1.2.getD g1.1.toNat 0+1)).getD j 0=g1.2.getD j 0:=fun j hj=>(by rw [Sp.getD_set,if_neg (fun e=>hj e.1)])
   refine wm ?_;refine wn ?_;unfold BF;refine wm ?_;refine wi (fun c2=>?_) (fun c2=>?_)
   ·rw [hgs] at c2;refine au ?_;(intro _; exact Vm h2 (k:=g1.1.toNat) om (by simpa using bJ) (fun j hj=>by rw [hgo j om]; exact ji j om) hgs (fun j h1 h2=>by rw [hgo j om]; exact G9 j om h2) c2)
   ·rw [hgs] at c2;refine wm ?_;refine bL _ ?_ ?_
    ·(refine ⟨ob,ob,by simpa using bJ,fun j hj=>?_,fun j h1 h2=>?_⟩; (dsimp only at hj ⊢; rw [Sp.getD_set,if_neg om,hgo j om]; exact ji j om); (dsimp only at h1 ⊢; rw [Sp.getD_set]; by_cases q:j=g1.1.toNat; (rw [if_pos ⟨q,by rw [List.length_set]; omega⟩,q]; omega); (rw [if_neg (fun e=>q e.1),hgo j q]; exact G9 j om h2)))
    ·exact ob
  ·refine au ?_;(exact nofun)
 ·(refine ⟨ob,ob,by simpa using hsl,fun j _=>rfl,fun j h1 h2=>by dsimp only at h1; omega⟩)
theorem Ub {l_:(List aH)} {m_:(List bK)} (h1:checkF l_=0) (h2:m_.length≤2000000) (h3:∀x∈m_,0≤x.dW∧x.dW<l_.length):W (II l_ m_) (fun r=>∀s∈r,settB l_ s=true∧HV l_ s m_=true):=by
 have hf:=fine_of h1;have hsz:=size_le hf;have hlen:=hf.len;have hcb:∀i,i<l_.length→(l_.getD i aI).aK.length≤2000000:=fun i hi=>by have:=hf.big i hi; omega
 unfold II;refine wn ?_;refine bq (fun (g1:((List Int)×Bool×(List (List Int))))=>(g1.2.1=true→VS l_ g1.1∧g1.2.2.length≤BK l_ g1.1)∧(∀s∈g1.2.2,settB l_ s=true∧HV l_ s m_=true)) (fun (g1:((List Int)×Bool×(List (List Int))))=>bif g1.2.1 then rV l_ - BK l_ g1.1+1 else 0) ?_ ?_
 ·intro aj g1 dH bL;obtain ⟨cK,bC⟩:=dH;unfold KT;refine bF (fun c1=>?_) (fun c1=>?_)
  ·have eH:=c1;have c1:=nr c1;obtain ⟨hvs,hln⟩:=cK eH;have hset:=Vn hvs;have hpl:=P5 hvs;unfold DW;refine aF (SN (good_of hf hset) (up_of hf hset) h2 h3) fun v9 SB=>?_;subst v9;refine bF (fun c2=>?_) (fun c2=>?_)
   ·have iL:=c2;have c2:=nr c2;have hmem:∀s∈g1.2.2++[g1.1],settB l_ s=true∧HV l_ s m_=true:=fun s hs=>by rcases List.mem_append.1 hs with h | h; exact bC s h; (rw [List.mem_singleton] at h; rw [h]; exact ⟨hset,iL⟩)
    refine wn ?_;unfold rJ;refine aF (Lc om hvs hcb) fun v8 BH=>?_;refine bL _ ?_ ?_
    ·(refine ⟨fun e=>⟨(BH e).1,by have:=(BH e).2; simp only [List.length_append,List.length_singleton]; omega⟩,hmem⟩)
    ·(dsimp only; rw [eH]; cases e:v8.2 with | true=>(have:=(BH e).2; have:=P5 (BH e).1; simp only [cond_true]; omega) | false=>(simp only [cond_true,cond_false]; omega))
   ·have iL:=c2;have c2:=nr c2;unfold rJ;refine aF (Lc om hvs hcb) fun v8 BH=>?_;refine bL _ ?_ ?_
    ·(refine ⟨fun e=>⟨(BH e).1,by have:=(BH e).2; dsimp only; omega⟩,bC⟩)
    ·(dsimp only; rw [eH]; cases e:v8.2 with | true=>(have:=(BH e).2; have:=P5 (BH e).1; simp only [cond_true]; omega) | false=>(simp only [cond_true,cond_false]; omega))
  ·have eH:=c1;have c1:=nr c1;refine au ?_;(exact bC)
 ·(refine ⟨fun _=>⟨Vo hf,Nat.zero_le _⟩,nofun⟩)
theorem JU {l_:(List aH)} {m_:(List bK)} (h1:l_.length≤2000000) (h2:m_.length≤2000000):W (u7 l_ m_) (fun r=>r.2=0→settB l_ r.1=true∧HV l_ r.1 m_=true∧limsB l_ m_=true):=by
 unfold u7;refine aF (Rb ob ob) fun v1 hv1=>?_;subst v1;refine bF (fun c1=>?_) (fun c1=>?_)
 ·have eH:=c1;have c1:=nr c1;refine au ?_;(intro e; exact absurd e c1)
 ·have eH:=c1;have c1:=nr c1;obtain ⟨b1,b2⟩:=V7 eH;refine aF (Ub b1 h2 (Vp b2)) fun v2 hv2=>?_;refine wi (fun c2=>?_) (fun c2=>?_)
  ·refine au ?_;exact ob
  ·refine wn ?_;refine au ?_;(intro _; have q:=hv2 _ (getD_in (i:=0) [] om); exact ⟨q.1,q.2,b2⟩)
structure N9 (s:ByteArray):Prop where
 sz:0<s.size∧s.size≤16
 b0:97≤fK s 0∧fK s 0≤122
 bs:∀j:Nat,(j:Int)<s.size→fK s j=45∨(48≤fK s j∧fK s j≤57)∨(97≤fK s j∧fK s j≤122)
structure GpV (n:Int) (g:bR):Prop where
 ok:VT n g
 nw:N9 g.qK
 so:∀k:Nat,1≤k→(k:Int)<g.bG.length→g.bG.getD (k - 1) 0<g.bG.getD k 0
 fw:∀j:Nat,(j:Int)<g.ak.length→N9 (g.ak.getD j ByteArray.empty)
 fd:∀k j:Nat,j<k→(k:Int)<g.ak.length→(g.ak.getD j ByteArray.empty).toList≠(g.ak.getD k ByteArray.empty).toList
structure ZY (p:aX):Prop where
 ok:PO p
 gr:∀i:Nat,(i:Int)<p.av.length→GpV p.bG (p.av.getD i ay)
 nm:∀i k:Nat,k<i→(i:Int)<p.av.length→(p.av.getD k ay).qK.toList≠(p.av.getD i ay).qK.toList
structure RsV (l:List dN):Prop where
 ok:UY l
 so:∀i:Nat,(i:Int)<l.length→∀k:Nat,1≤k→(k:Int)<((l.getD i bV).dK).length→((l.getD i bV).dK).getD (k - 1) 0<((l.getD i bV).dK).getD k 0
structure BdV (b:bf):Prop where
 cl:checkF b.bQ=0
 su:Sp.checkF b.bI=0
 pn:ZY b.aP
 rs:RsV b.aY
 dm:TP b.dh
def aaT (l:List Int):Prop:=∀i j:Nat,i<j→(j:Int)<l.length→l.getD i 0<l.getD j 0
theorem Z0 {l:List Int} (h:∀k:Nat,1≤k→(k:Int)<l.length→l.getD (k - 1) 0<l.getD k 0):aaT l:=by
 intro i j hij;induction j with
 | zero=>omega
 | succ j ih=>
  intro hj;have h1:=h (j+1) om hj;rw [Nat.add_sub_cancel] at h1;by_cases e:i=j
  ·rw [e]; exact h1
  ·have:=ih om om; omega
def aaU (p:aX) (x y:Int):Prop:=∀i j:Nat,(i:Int)<(p.av.getD x.toNat ay).bG.length→(j:Int)<(p.av.getD y.toNat ay).bG.length→(p.av.getD x.toNat ay).bG.getD i 0≠(p.av.getD y.toNat ay).bG.getD j 0
def adU (p:aX) (x:Int) (f:ByteArray):Prop:=∃k:Nat,(k:Int)<(p.av.getD x.toNat ay).ak.length∧((p.av.getD x.toNat ay).ak.getD k ByteArray.empty).toList=f.toList
structure aeW (p:aX) (l:List ByteArray) (gs:List Int):Prop where
 ir:∀x∈gs,0≤x∧x<p.av.length
 off:∀k:Nat,(k:Int)<gs.length→adU p (gs.getD k 0) (l.getD k ByteArray.empty)
 dj:∀k j:Nat,j<k→(k:Int)<gs.length→aaU p (gs.getD j 0) (gs.getD k 0)
def adV (l:List dN) (s:List Bool):Prop:=∀i:Nat,(i:Int)<l.length→s.getD i false=true→∀x∈(l.getD i bV).dK,s.getD x.toNat false=true
structure adW (l:List dx) (s:List Bool):Prop where
 al:∀i:Nat,(i:Int)<l.length→(l.getD i dR).fI=true→s.getD i false=true
 pa:∀i:Nat,(i:Int)<l.length→s.getD i false=true→0≤(l.getD i dR).aQ→s.getD (l.getD i dR).aQ.toNat false=true
theorem YG {l:List Bool} {i j:Nat} {b:Bool} (h:i≠j):(l.set j b).getD i false=l.getD i false:=by
 rw [List.getD_eq_getElem?_getD,List.getElem?_set_ne (Ne.symm h),← List.getD_eq_getElem?_getD]
theorem YH {l:List Bool} {j:Nat} {b:Bool} (hj:j<l.length):(l.set j b).getD j false=b:=by
 rw [List.getD_eq_getElem?_getD,List.getElem?_set_self hj]; rfl
theorem Uc {p:aX} (h:ZY p) {x:Int} (h0:0≤x) (h1:x<p.av.length):aaT (p.av.getD x.toNat ay).bG:=Z0 fun k h2 h3=>(h.gr x.toNat om).so k h2 h3
theorem YI (bs:ByteArray):∀(n i:Nat) (r:List UInt8),bs.size - i=n→ByteArray.toList.loop bs i r=r.reverse++bs.data.toList.drop i:=by
 intro n;induction n with
 | zero=>
  intro i r h;unfold ByteArray.toList.loop;rw [if_neg om,List.drop_eq_nil_of_le (by show bs.data.toList.length≤i; rw [Array.length_toList]; show bs.size≤i; omega),List.append_nil]
 | succ n ih=>
  intro i r h;unfold ByteArray.toList.loop;rw [if_pos om,ih (i+1) _ om,List.reverse_cons,List.append_assoc];have hi:i<bs.data.toList.length:=by rw [Array.length_toList]; show i<bs.size; omega
  rw [List.drop_eq_getElem_cons hi];congr 1;show bs.get! i::_=_;congr 1;unfold ByteArray.get!;rw [Array.getElem_toList];exact getElem!_pos bs.data i _
theorem Vq (b:ByteArray):b.toList=b.data.toList:=by
 unfold ByteArray.toList;rw [YI b _ 0 [] rfl]; rfl
theorem P6 {a b:ByteArray} (h:a.toList=b.toList):a=b:=by
 rw [Vq,Vq] at h;cases a; cases b;congr;exact Array.toList_inj.1 h
theorem aaV {s:ByteArray} (h:0<s.size):(s.toList==({ data:=#[] }:ByteArray).toList)=false:=by
 rw [beq_eq_false_iff_ne];intro e;have:=P6 e;rw [this] at h;exact absurd h (by decide)
theorem upd_eq {α:Type} {X:Nat→α} {j:Nat} {x:α}:upd X j x j=x:=VQ X j x
theorem upd_ne {α:Type} {X:Nat→α} {i j:Nat} {x:α} (h:i≠j):upd X j x i=X i:=by
 unfold upd;cases e:Nat.beq i j with
 | true=>exact absurd (Nat.eq_of_beq_eq_true e) h
 | false=>rfl
def UsV (p:aX) (l:List jH):Prop:=(∀u∈l,JL p u)∧∀k j:Nat,j<k→(k:Int)<l.length→aaU p (l.getD j eT).bU (l.getD k eT).bU
def Fu (p:Prop) (c:Int) (A:Int→Prop) (r:Int):Prop:=(p∧r=c)∨(¬p∧A r)
theorem dM {p:Prop} {c:Int} {A:Int→Prop} (h:p):Fu p c A c:=.inl ⟨h,rfl⟩
theorem aJ {p:Prop} {c:Int} {A:Int→Prop} {r:Int} (h:¬p) (a:A r):Fu p c A r:=.inr ⟨h,a⟩
def YJ (A B:Int→Prop) (r:Int):Prop:=(A r∧r≠0)∨(A 0∧B r)
def Z4 (n:Nat) (E:Nat→Int→Prop) (r:Int):Prop:=(∃i:Nat,i<n∧(∀k:Nat,k<i→E k 0)∧E i r∧r≠0)∨((∀k:Nat,k<n→E k 0)∧r=0)
def zI (A:Int→Prop):Prop:=∀a b,A a→A b→a=b
theorem zI.zero:zI (fun r=>r=0):=fun _ _ h k=>h.trans k.symm
theorem zI.chk {p:Prop} {c:Int} {A:Int→Prop} (h:zI A):zI (Fu p c A):=by
 rintro a b (⟨h1,h2⟩ | ⟨h1,h2⟩) (⟨h3,h4⟩ | ⟨h3,h4⟩)
 ·rw [h2,h4]
 ·exact absurd h1 h3
 ·exact absurd h3 h1
 ·exact h _ _ h2 h4
theorem zI.thn {A B:Int→Prop} (h:zI A) (k:zI B):zI (YJ A B):=by
 rintro a b (⟨h1,h2⟩ | ⟨h1,h2⟩) (⟨h3,h4⟩ | ⟨h3,h4⟩)
 ·exact h _ _ h1 h3
 ·exact absurd (h _ _ h1 h3) h2
 ·exact absurd (h _ _ h3 h1) h4
 ·exact k _ _ h2 h4
theorem zI.fst {n:Nat} {E:Nat→Int→Prop} (h:∀i,zI (E i)):zI (Z4 n E):=by
 rintro a b (⟨i,h1,h2,h3,h4⟩ | ⟨h1,h2⟩) (⟨j,k1,k2,k3,k4⟩ | ⟨k1,k2⟩)
 ·rcases Nat.lt_trichotomy i j with q | q | q
  ·exact absurd (h _ _ _ h3 (k2 i q)) h4
  ·subst q; exact h _ _ _ h3 k3
  ·exact absurd (h _ _ _ k3 (h2 j q)) k4
 ·exact absurd (h _ _ _ h3 (k1 i h1)) h4
 ·exact absurd (h _ _ _ k3 (h1 j k1)) k4
 ·rw [h2,k2]
theorem BL {A B:Int→Prop} {r:Int} (h:A r) (hr:r≠0):YJ A B r:=.inl ⟨h,hr⟩
theorem jl {A B:Int→Prop} {r:Int} (h:A 0) (k:B r):YJ A B r:=.inr ⟨h,k⟩
theorem BM {n:Nat} {E:Nat→Int→Prop} {r:Int} {i:Nat} (hi:i<n) (h:∀k:Nat,(k:Int)<i→E k 0) (he:E i r) (hr:r≠0):Z4 n E r:=.inl ⟨i,hi,fun k hk=>h k om,he,hr⟩
theorem IU {n:Nat} {E:Nat→Int→Prop} (h:∀k:Nat,k<n→E k 0):Z4 n E 0:=.inr ⟨h,rfl⟩
def XV (n:Int) (g:bR):Int→Prop:=
 Fu ((g.bG.length:Int)=0∨(g.ak.length:Int)=0) 9<|
 Fu (8<(g.ak.length:Int)) 3<|
 Fu (∃j:Nat,(j:Int)<g.bG.length∧¬(0≤g.bG.getD j 0∧g.bG.getD j 0<n)) 2<|
 Fu (∃j:Nat,1≤j∧(j:Int)<g.bG.length∧g.bG.getD j 0≤g.bG.getD (j - 1) 0) 12<|
 Fu (∃j:Nat,(j:Int)<g.ak.length∧¬N9 (g.ak.getD j ByteArray.empty)) 1<|
 Fu (∃k j:Nat,j<k∧(k:Int)<g.ak.length∧(g.ak.getD j ByteArray.empty).toList=(g.ak.getD k ByteArray.empty).toList) 5<|
 fun r=>r=0
theorem XV.fun {n:Int} {g:bR}:zI (XV n g):=.chk (.chk (.chk (.chk (.chk (.chk .zero)))))
def U2 (p:aX) (i:Nat):Int→Prop:=
 Fu (¬N9 (p.av.getD i ay).qK) 1<|
 Fu (∃k:Nat,k<i∧(p.av.getD k ay).qK.toList=(p.av.getD i ay).qK.toList) 5<|
 XV p.bG (p.av.getD i ay)
theorem U2.fun {p:aX} {i:Nat}:zI (U2 p i):=.chk (.chk XV.fun)
def oM (p:aX):Int→Prop:=
 Fu (p.bG<0∨64<p.bG) 2<|
 Fu (24<(p.av.length:Int)) 3<|
 Z4 p.av.length (U2 p)
theorem oM.fun {p:aX}:zI (oM p):=.chk (.chk (.fst fun _=>U2.fun))
theorem BN {l:List Int} {g:Int} (h:∀j:Nat,(j:Int)<g→1≤j→l.getD (j - 1) 0<l.getD j 0) (hg:(l.length:Int)≤g):¬ ∃j:Nat,1≤j∧(j:Int)<l.length∧l.getD j 0≤l.getD (j - 1) 0:=fun ⟨j,h1,h2,h3⟩=>by
 have:=h j om h1;omega
theorem fF {P:Nat→Prop} {n:Nat} {g:Int} (h:∀j:Nat,(j:Int)<g→P j) (hg:(n:Int)≤g):¬ ∃j:Nat,(j:Int)<n∧¬P j:=fun ⟨j,h1,h2⟩=>h2 (h j om)
theorem D6 {s_:ByteArray}:W (nO s_) (fun r=>r=true↔N9 s_):=by
 unfold nO;refine aM (by (intro hc; have:=Hr hc; omega)) ?_;refine aM (by (intro hc; simp only [Bool.or_eq_false_iff] at hc; have:=Hr (s:=s_) (by simp only [Bool.or_eq_false_iff]; exact hc.1); omega)) ?_;refine bF (fun c1=>?_) (fun c1=>?_)
 ·have eH:=c1;have c1:=nr c1;refine au ?_;(constructor; (intro e; cases e); (rintro ⟨⟨a1,a2⟩,⟨a3,a4⟩,a5⟩; simp only [Bool.or_eq_true,decide_eq_true_eq] at eH; rcases eH with ((c | c) | c) | c; (rw [aaV a1] at c; cases c); all_goals omega))
 ·have eH:=c1;have c1:=nr c1;have hsz:0<s_.size∧s_.size≤16:=RS eH;refine bq (fun (g1:Int)=>1≤g1∧(∀j:Nat,(j:Int)<g1→1≤j→fK s_ j=45∨(48≤fK s_ j∧fK s_ j≤57)∨(97≤fK s_ j∧fK s_ j≤122))) (fun (g1:Int)=>(s_.size - g1).toNat) ?_ ?_
  ·intro aj g1 dH bL;obtain ⟨cK,bC⟩:=dH;unfold Dx;refine wi (fun c2=>?_) (fun c2=>?_)
   ·refine wn ?_;refine wi (fun c3=>?_) (fun c3=>?_)
    ·refine au ?_;(constructor; (intro e; cases e); (rintro ⟨_,_,a5⟩; have:=a5 g1.toNat om; omega))
    ·refine wn ?_;refine bL _ ?_ ?_
     ·(refine ⟨ob,fun j h1 h2=>?_⟩; by_cases q:(j:Int)<g1; (exact bC j q h2); (have e:j=g1.toNat:=by omega); subst e; omega)
     ·exact ob
   ·refine au ?_;(constructor; (intro _; refine ⟨om,om,fun j hj=>?_⟩; by_cases q:j=0; (subst q; exact .inr (.inr ⟨om,om⟩)); exact bC j om om); (intro _; rfl))
  ·(refine ⟨ob,fun j h1 h2=>by omega⟩)
theorem BO {s_:ByteArray}:W (lW s_) (fun r=>r=true↔N9 s_):=by
 unfold lW;refine aM (by (intro hc; simp only [Bool.or_eq_false_iff,beq_eq_false_iff_ne] at hc; omega)) ?_;refine aM (by (intro hc; simp only [Bool.or_eq_false_iff,beq_eq_false_iff_ne] at hc; omega)) ?_;refine bF (fun c1=>?_) (fun c1=>?_)
 ·have eH:=c1;have c1:=nr c1;refine au ?_;(constructor; (intro e; cases e); (rintro ⟨a1,a3,a5⟩; omega))
 ·have eH:=c1;have c1:=nr c1;have hsz:s_.size≤16:=(by simp only [Bool.or_eq_false_iff] at eH; have:=of_decide_eq_false eH.1.1.2; omega);refine bq (fun (g1:Int)=>0≤g1∧(∀j:Nat,(j:Int)<g1→fK s_ j=45∨(48≤fK s_ j∧fK s_ j≤57)∨(97≤fK s_ j∧fK s_ j≤122))) (fun (g1:Int)=>(s_.size - g1).toNat) ?_ ?_
  ·intro aj g1 dH bL;obtain ⟨cK,bC⟩:=dH;unfold BD;refine wi (fun c2=>?_) (fun c2=>?_)
   ·refine wm ?_;refine wm ?_;refine wn ?_;refine wi (fun c3=>?_) (fun c3=>?_)
    ·refine au ?_;(constructor; (intro e; cases e); (rintro ⟨_,_,a5⟩; have:=a5 g1.toNat om; omega))
    ·refine wn ?_;refine bL _ ?_ ?_
     ·(refine ⟨ob,dn bC cK om⟩)
     ·exact ob
   ·refine au ?_;(constructor; (intro _; exact ⟨om,om,fun j hj=>bC j om⟩); intro _; rfl)
  ·(refine ⟨ob,fun j hj=>by (try dsimp only at hj); omega⟩)
theorem D7 {s_:(List ByteArray)} {v_:ByteArray} (h1:s_.length≤2000000):W (slices_Index_string s_ v_) (fun r=>(0≤r↔∃j:Nat,(j:Int)<s_.length∧(s_.getD j ByteArray.empty).toList=v_.toList)):=by
 unfold slices_Index_string;refine bq (fun (g1:Int)=>0≤g1∧(∀j:Nat,(j:Int)<g1→(s_.getD j ByteArray.empty).toList≠v_.toList)) (fun (g1:Int)=>(s_.length - g1).toNat) ?_ ?_
 ·intro aj g1 dH bL;obtain ⟨cK,bC⟩:=dH;unfold lG;refine wi (fun c1=>?_) (fun c1=>?_)
  ·refine wn ?_;refine wi (fun c2=>?_) (fun c2=>?_)
   ·refine au ?_;(constructor; (intro _; exact ⟨g1.toNat,om,c2.symm⟩); (intro _; omega))
   ·refine wn ?_;refine bL _ ?_ ?_
    ·(refine ⟨ob,dn bC cK (fun e=>c2 e.symm)⟩)
    ·exact ob
  ·refine au ?_;(constructor; (intro e; omega); (rintro ⟨j,h1,h2⟩; exact absurd h2 (bC j om)))
 ·(refine ⟨ob,fun j hj=>by (try dsimp only at hj); omega⟩)
theorem zJ {s_:(List ByteArray)} {v_:ByteArray} (h1:s_.length≤2000000):W (slices_Contains_string s_ v_) (fun r=>r=true↔∃j:Nat,(j:Int)<s_.length∧(s_.getD j ByteArray.empty).toList=v_.toList):=by
 unfold slices_Contains_string;refine aF (D7 ob) fun v1 hv1=>?_;refine au ?_;(rw [← hv1]; simp)
theorem Rf {yx:Int} {g_:bR} (h1:g_.bG.length≤2000000) (h2:g_.ak.length≤2000000):W (tH yx g_) (fun r=>XV yx g_ r):=by
 unfold tH;refine wi (fun c1=>?_) (fun c1=>?_)
 ·refine au ?_;exact dM c1
 ·refine wi (fun c2=>?_) (fun c2=>?_)
  ·refine au ?_;exact aJ om (dM c2)
  ·refine bq (fun (g1:Int)=>0≤g1∧(∀j:Nat,(j:Int)<g1→0≤g_.bG.getD j 0∧g_.bG.getD j 0<yx)) (fun (g1:Int)=>(g_.bG.length - g1).toNat) ?_ ?_
   ·intro aj g1 dH bL;obtain ⟨cK,bC⟩:=dH;unfold Bo;refine wi (fun c3=>?_) (fun c3=>?_)
    ·refine wn ?_;refine wi (fun c4=>?_) (fun c4=>?_)
     ·refine au ?_;exact aJ om (aJ om (dM ⟨g1.toNat,om,om⟩))
     ·refine wn ?_;refine bL _ ?_ ?_
      ·(refine ⟨ob,dn bC cK om⟩)
      ·exact ob
    ·refine bq (fun (g2:Int)=>1≤g2∧(∀j:Nat,(j:Int)<g2→1≤j→g_.bG.getD (j - 1) 0<g_.bG.getD j 0)) (fun (g2:Int)=>(g_.bG.length - g2).toNat) ?_ ?_
     ·intro cO g2 jD kC;obtain ⟨kI,gJ⟩:=jD;unfold yw;refine wi (fun c5=>?_) (fun c5=>?_)
      ·refine wm ?_;refine wn ?_;refine wi (fun c6=>?_) (fun c6=>?_)
       ·refine au ?_;exact aJ om (aJ om (aJ (fF bC om) (dM ⟨g2.toNat,om,om,by rw [show g2.toNat - 1=(g2 - 1).toNat by omega]; omega⟩)))
       ·refine wn ?_;refine kC _ ?_ ?_
        ·(refine ⟨ob,fun j h1 h2=>?_⟩; by_cases q:(j:Int)<g2; (exact gJ j q h2); (have e:j=g2.toNat:=by omega); subst e; rw [show g2.toNat - 1=(g2 - 1).toNat by omega]; omega)
        ·exact ob
      ·refine bq (fun (g3:Int)=>0≤g3∧(∀j:Nat,(j:Int)<g3→N9 (g_.ak.getD j ByteArray.empty))) (fun (g3:Int)=>(g_.ak.length - g3).toNat) ?_ ?_
       ·intro iy g3 NZ Kj;obtain ⟨NJ,mq⟩:=NZ;unfold yu;refine wi (fun c7=>?_) (fun c7=>?_)
        ·refine wn ?_;refine aF (D6) fun v3 hv3=>?_;refine bF (fun c8=>?_) (fun c8=>?_)
         ·have XP:=c8;have c8:=nr c8;refine au ?_;exact aJ om (aJ om (aJ (fF bC om) (aJ (BN gJ om) (dM ⟨g3.toNat,om,fun h=>by simp [hv3.2 h] at XP⟩))))
         ·have XP:=c8;have c8:=nr c8;refine wn ?_;refine Kj _ ?_ ?_
          ·(refine ⟨ob,dn mq NJ (hv3.1 (by simpa using XP))⟩)
          ·exact ob
        ·refine bq (fun (g4:Int)=>0≤g4∧(∀k:Nat,(k:Int)<g4→∀j:Nat,j<k→(g_.ak.getD j ByteArray.empty).toList≠(g_.ak.getD k ByteArray.empty).toList)) (fun (g4:Int)=>(g_.ak.length - g4).toNat) ?_ ?_
         ·intro gL g4 zn vB;obtain ⟨wV,jk⟩:=zn;unfold yt;refine wi (fun c9=>?_) (fun c9=>?_)
          ·refine wm ?_;refine aF (zJ ob) fun v6 hv6=>?_;refine bF (fun c10=>?_) (fun c10=>?_)
           ·have V3:=c10;have c10:=nr c10;refine au ?_;(exact aJ om (aJ om (aJ (fF bC om) (aJ (BN gJ om) (aJ (fF mq om) (dM (by obtain ⟨j,h1,h2⟩:=hv6.1 c10; rw [List.length_take] at h1; rw [IQ _ _ _ _ om] at h2; exact ⟨g4.toNat,j,om,om,h2⟩)))))))
           ·have V3:=c10;have c10:=nr c10;refine wn ?_;refine vB _ ?_ ?_
            ·(refine ⟨ob,fun k hk j hj=>?_⟩; by_cases q:(k:Int)<g4; (exact jk k q j hj); (have e:k=g4.toNat:=by omega); subst e; intro e2; have:=hv6.2 ⟨j,by rw [List.length_take]; omega,by rw [IQ _ _ _ _ om]; exact e2⟩; simp [this] at V3)
            ·exact ob
          ·refine au ?_;(exact aJ om (aJ om (aJ (fF bC om) (aJ (BN gJ om) (aJ (fF mq om) (aJ (fun ⟨k,j,h1,h2,h3⟩=>jk k om j h1 h3) rfl))))))
         ·(refine ⟨ob,fun j h1 h2=>by omega⟩)
       ·(refine ⟨ob,fun j hj=>by (try dsimp only at hj); omega⟩)
     ·(refine ⟨ob,fun j h1 h2=>by omega⟩)
   ·(refine ⟨ob,fun j hj=>by (try dsimp only at hj); omega⟩)
theorem P7 {p_:aX} {i_:Int} (h1:0≤i_) (h2:i_<p_.av.length) (h3:p_.av.length≤2000000) (h4:∀g∈p_.av,g.bG.length≤2000000∧g.ak.length≤2000000):W (qA p_ i_) (fun r=>U2 p_ i_.toNat r):=by
 have hgl:=h4 _ (getD_in (i:=i_.toNat) ay om);unfold qA;refine wn ?_;refine aF (BO) fun v1 hv1=>?_;refine bF (fun c1=>?_) (fun c1=>?_)
 ·have eH:=c1;have c1:=nr c1;refine au ?_;exact dM (fun h=>by simp [hv1.2 h] at eH)
 ·have eH:=c1;have c1:=nr c1;refine bq (fun (g1:Int)=>0≤g1∧(∀k:Nat,(k:Int)<g1→(p_.av.getD k ay).qK.toList≠(p_.av.getD i_.toNat ay).qK.toList)) (fun (g1:Int)=>(i_ - g1).toNat) ?_ ?_
  ·intro aj g1 dH bL;obtain ⟨cK,bC⟩:=dH;unfold yU;refine wi (fun c2=>?_) (fun c2=>?_)
   ·refine wn ?_;refine wi (fun c3=>?_) (fun c3=>?_)
    ·refine au ?_;(exact aJ (fun h=>h (hv1.1 (by simpa using eH))) (dM ⟨g1.toNat,om,c3⟩))
    ·refine wn ?_;refine bL _ ?_ ?_
     ·(refine ⟨ob,dn bC cK c3⟩)
     ·exact ob
   ·refine wi (fun c4=>?_) (fun c4=>?_)
    ·refine au ?_;(exact aJ (fun h=>h (hv1.1 (by simpa using eH))) (aJ (fun ⟨k,h1,h2⟩=>bC k om h2) (dM c4)))
    ·refine wi (fun c5=>?_) (fun c5=>?_)
     ·refine au ?_;(exact aJ (fun h=>h (hv1.1 (by simpa using eH))) (aJ (fun ⟨k,h1,h2⟩=>bC k om h2) (aJ om (dM c5))))
     ·refine bq (fun (g2:Int)=>0≤g2∧(∀j:Nat,(j:Int)<g2→0≤(p_.av.getD i_.toNat ay).bG.getD j 0∧(p_.av.getD i_.toNat ay).bG.getD j 0<p_.bG)) (fun (g2:Int)=>((p_.av.getD i_.toNat ay).bG.length - g2).toNat) ?_ ?_
      ·intro cO g2 jD kC;obtain ⟨kI,gJ⟩:=jD;unfold vS;refine wi (fun c6=>?_) (fun c6=>?_)
       ·refine wm ?_;refine wi (fun c7=>?_) (fun c7=>?_)
        ·refine au ?_;exact aJ (fun h=>h (hv1.1 (by simpa using eH))) (aJ (fun ⟨k,h1,h2⟩=>bC k om h2) (aJ om (aJ om (dM ⟨g2.toNat,om,om⟩))))
        ·refine wn ?_;refine kC _ ?_ ?_
         ·(refine ⟨ob,dn gJ kI om⟩)
         ·exact ob
       ·refine bq (fun (g3:Int)=>1≤g3∧(∀j:Nat,(j:Int)<g3→1≤j→(p_.av.getD i_.toNat ay).bG.getD (j - 1) 0<(p_.av.getD i_.toNat ay).bG.getD j 0)) (fun (g3:Int)=>((p_.av.getD i_.toNat ay).bG.length - g3).toNat) ?_ ?_
        ·intro iy g3 NZ Kj;obtain ⟨NJ,mq⟩:=NZ;unfold vR;refine wi (fun c8=>?_) (fun c8=>?_)
         ·refine wm ?_;refine wn ?_;refine wi (fun c9=>?_) (fun c9=>?_)
          ·refine au ?_;exact aJ (fun h=>h (hv1.1 (by simpa using eH))) (aJ (fun ⟨k,h1,h2⟩=>bC k om h2) (aJ om (aJ om (aJ (fF gJ om) (dM ⟨g3.toNat,om,om,by rw [show g3.toNat - 1=(g3 - 1).toNat by omega]; omega⟩)))))
          ·refine wn ?_;refine Kj _ ?_ ?_
           ·(refine ⟨ob,fun j h1 h2=>?_⟩; by_cases q:(j:Int)<g3; (exact mq j q h2); (have e:j=g3.toNat:=by omega); subst e; rw [show g3.toNat - 1=(g3 - 1).toNat by omega]; omega)
           ·exact ob
         ·refine bq (fun (g4:Int)=>0≤g4∧(∀j:Nat,(j:Int)<g4→N9 ((p_.av.getD i_.toNat ay).ak.getD j ByteArray.empty))) (fun (g4:Int)=>((p_.av.getD i_.toNat ay).ak.length - g4).toNat) ?_ ?_
          ·intro gL g4 zn vB;obtain ⟨wV,jk⟩:=zn;unfold vQ;refine wi (fun c10=>?_) (fun c10=>?_)
           ·refine wn ?_;refine aF (BO) fun v4 hv4=>?_;refine bF (fun c11=>?_) (fun c11=>?_)
            ·have Z5:=c11;have c11:=nr c11;refine au ?_;exact aJ (fun h=>h (hv1.1 (by simpa using eH))) (aJ (fun ⟨k,h1,h2⟩=>bC k om h2) (aJ om (aJ om (aJ (fF gJ om) (aJ (BN mq om) (dM ⟨g4.toNat,om,fun h=>by simp [hv4.2 h] at Z5⟩))))))
            ·have Z5:=c11;have c11:=nr c11;refine wn ?_;refine vB _ ?_ ?_
             ·(refine ⟨ob,dn jk wV (hv4.1 (by simpa using Z5))⟩)
             ·exact ob
           ·refine bq (fun (g5:Int)=>0≤g5∧(∀k:Nat,(k:Int)<g5→∀j:Nat,j<k→((p_.av.getD i_.toNat ay).ak.getD j ByteArray.empty).toList≠((p_.av.getD i_.toNat ay).ak.getD k ByteArray.empty).toList)) (fun (g5:Int)=>((p_.av.getD i_.toNat ay).ak.length - g5).toNat) ?_ ?_
            ·intro iF g5 Kl Hu;obtain ⟨JN,AP⟩:=Kl;unfold vP;refine wi (fun c12=>?_) (fun c12=>?_)
             ·refine bq (fun (g8:Int)=>0≤g8∧(∀j:Nat,(j:Int)<g8→((p_.av.getD i_.toNat ay).ak.getD j ByteArray.empty).toList≠((p_.av.getD i_.toNat ay).ak.getD g5.toNat ByteArray.empty).toList)) (fun (g8:Int)=>(g5 - g8).toNat) ?_ ?_
              ·intro Nw g8 YC XH;obtain ⟨Y4,XW⟩:=YC;unfold vO;refine wi (fun c13=>?_) (fun c13=>?_)
               ·refine wm ?_;refine wi (fun c14=>?_) (fun c14=>?_)
                ·refine au ?_;(exact aJ (fun h=>h (hv1.1 (by simpa using eH))) (aJ (fun ⟨k,h1,h2⟩=>bC k om h2) (aJ om (aJ om (aJ (fF gJ om) (aJ (BN mq om) (aJ (fF jk om) (dM ⟨g5.toNat,g8.toNat,om,om,c14⟩))))))))
                ·refine wn ?_;refine XH _ ?_ ?_
                 ·(refine ⟨ob,dn XW Y4 c14⟩)
                 ·exact ob
               ·refine wn ?_;refine Hu _ ?_ ?_
                ·(refine ⟨ob,fun k hk j hj=>?_⟩; by_cases q:(k:Int)<g5; (exact AP k q j hj); (have e:k=g5.toNat:=by omega); subst e; exact XW j om)
                ·exact ob
              ·(refine ⟨ob,fun j hj=>by (try dsimp only at hj); omega⟩)
             ·refine au ?_;(exact aJ (fun h=>h (hv1.1 (by simpa using eH))) (aJ (fun ⟨k,h1,h2⟩=>bC k om h2) (aJ om (aJ om (aJ (fF gJ om) (aJ (BN mq om) (aJ (fF jk om) (aJ (fun ⟨k,j,h1,h2,h3⟩=>AP k om j h1 h3) rfl))))))))
            ·(refine ⟨ob,fun j h1 h2=>by omega⟩)
          ·(refine ⟨ob,fun j hj=>by (try dsimp only at hj); omega⟩)
        ·(refine ⟨ob,fun j h1 h2=>by omega⟩)
      ·(refine ⟨ob,fun j hj=>by (try dsimp only at hj); omega⟩)
  ·(refine ⟨ob,fun j hj=>by (try dsimp only at hj); omega⟩)
end Go.Proofs.YtccjmcmolnbiiaaGreatDoor

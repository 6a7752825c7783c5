/- An abstract machine over the model's code, that it is sound; models of the functions and their proofs. -/
import Derived.Test.YtfblhejmclcdmaaGreatDoorA5
set_option linter.unusedVariables false
set_option linter.unusedSimpArgs false


namespace Go.Proofs.YtfblhejmclcdmaaGreatDoor.Sp
open Go.Ab
set_option maxRecDepth 100000
theorem fT {n_:Int} {lo_:Int} {hi_:Int}:W (fI n_ lo_ hi_) (fun r=>r=withinF n_ lo_ hi_):=by
 unfold fI;refine ah ?_;rfl
theorem MP {s_:au}:W (mX s_) (fun r=>r=bigS s_):=by
 unfold mX;refine ah ?_;rfl
theorem tu {s_:(List au)} (h1:s_.length≤2000000):W (jq s_) (fun r=>r=s_.any (bigS)):=
 FN (JF (JE (p:=fun x=>mX x) (P:=bigS) (fun x hx=>jm (MP)) om) (nH _ _))
theorem Qz {s_:au} {at_:Int} (h1:0≤at_) (h2:at_≤2000000) (h3:s_.bK.length≤2000000):W (wO s_ at_) (fun r=>r=validS s_ at_):=by
 unfold wO;refine wn ?_;refine av (fT) fun v1 hv1=>?_;subst v1;refine av (eD fun hc=>jm (fT)) fun v2 hv2=>?_;subst v2;refine av (eD fun hc=>jm (fT)) fun v3 hv3=>?_;subst v3;refine bP (fun c1=>?_) (fun c1=>?_)
 ·have c1o:=c1;have c1:=nr c1;refine ah ?_;(unfold validS; rw [show headB s_ at_=true from c1o]; rfl)
 ·have c1o:=c1;have c1:=nr c1;refine bA (fun (g1:Int)=>0≤g1∧g1≤s_.bK.length∧ML (if g1.toNat=0 then 0 else s_.bK.getD (g1.toNat - 1) 0) (s_.bK.drop g1.toNat)=ML 0 s_.bK) (fun (g1:Int)=>(s_.bK.length - g1).toNat) ?_ ?_
  ·intro self1 g1 hig1 ihg1;obtain ⟨hg1_1,hg1_2,hg1_3⟩:=hig1;unfold DN;obtain ⟨i,rfl⟩:=Int.eq_ofNat_of_zero_le hg1_1;refine wi (fun c2=>?_) (fun c2=>?_)
   ·have hlt:i<s_.bK.length:=om;have hst:=VO hlt rfl;rw [show ((i:Int).toNat)=i from rfl] at hg1_3;rw [hst] at hg1_3;have e1:(((i:Int) - 1).toNat)=i - 1:=om;simp only [e1,Int.toNat_natCast] at *;refine wn ?_;refine av (fT) fun v6 hv6=>?_;subst v6;refine wm ?_;refine bP (fun c3=>?_) (fun c3=>?_)
    ·have c3o:=c3;have c3:=nr c3;refine ah ?_;(unfold validS; rw [show headB s_ at_=false from c1o,← hg1_3]; rw [c3o]; rfl)
    ·have c3o:=c3;have c3:=nr c3;refine wn ?_;refine ihg1 _ ?_ ?_
     ·(refine ⟨ob,ob,?_⟩; rw [← hg1_3,c3o]; rw [show ((i:Int)+1).toNat=i+1 by omega,if_neg om]; rfl)
     ·exact ob
   ·refine ah ?_;have e:i=s_.bK.length:=om;unfold validS; rw [show headB s_ at_=false from c1o,← hg1_3,show (i:Int).toNat=i from rfl,e,List.drop_length]; rfl
  ·(refine ⟨ob,ob,rfl⟩)
theorem yR {l_:(List au)} (h1:l_.length≤2000000):W (nN l_) (fun r=>r=cZ l_):=by
 unfold nN;refine av (eD fun hc=>jm (tu ob)) fun v1 hv1=>?_;subst v1;refine bP (fun c1=>?_) (fun c1=>?_)
 ·have c1o:=c1;have c1:=nr c1;refine ah ?_;(unfold cZ; rw [c1o]; rfl)
 ·have c1o:=c1;have c1:=nr c1;have hbig:∀i:Nat,i<l_.length→bigS (l_.getD i aj)=false:=kE aj (by have:=c1o; simp only [Bool.or_eq_false_iff] at this; exact this.2);refine bA (fun (g1:Int)=>0≤g1∧g1≤l_.length∧MN g1.toNat (l_.drop g1.toNat)=MN 0 l_) (fun (g1:Int)=>(l_.length - g1).toNat) ?_ ?_
  ·intro self1 g1 hig1 ihg1;obtain ⟨hg1_1,hg1_2,hg1_3⟩:=hig1;unfold DR;obtain ⟨i,rfl⟩:=Int.eq_ofNat_of_zero_le hg1_1;refine wi (fun c2=>?_) (fun c2=>?_)
   ·have hlt:i<l_.length:=om;have hb:=hbig i hlt;have hbl:(l_.getD i aj).bK.length≤16:=(by unfold bigS at hb; have:=of_decide_eq_false hb; omega);rw [show ((i:Int).toNat)=i from rfl,drop_cons aj hlt,MN] at hg1_3;simp only [Int.toNat_natCast] at *;refine wn ?_;refine av (Qz om om om) fun v4 hv4=>?_;subst v4;refine bP (fun c3=>?_) (fun c3=>?_)
    ·have c3o:=c3;have c3:=nr c3;refine ah ?_;(unfold cZ; rw [c1o,← hg1_3,show validS (l_.getD i aj) i=false by simpa using c3o]; rfl)
    ·have c3o:=c3;have c3:=nr c3;refine wn ?_;refine ihg1 _ ?_ ?_
     ·(refine ⟨ob,ob,?_⟩; rw [← hg1_3,show validS (l_.getD i aj) i=true by simpa using c3o,show ((i:Int)+1).toNat=i+1 by omega]; rfl)
     ·exact ob
   ·refine ah ?_;have e:i=l_.length:=om;unfold cZ; rw [c1o,← hg1_3,show (i:Int).toNat=i from rfl,e,List.drop_length]; rfl
  ·(refine ⟨ob,ob,rfl⟩)
theorem QA {l_:(List au)} {r_:bf} (h1:l_.length≤2000000) (h2:r_.Level.length≤2000000):W (wS l_ r_) (fun r=>r=rE l_ r_):=by
 unfold wS;refine av (yR ob) fun v1 hv1=>?_;subst v1;refine bP (fun c1=>?_) (fun c1=>?_)
 ·have c1o:=c1;have c1:=nr c1;refine ah ?_;(unfold rE; rw [c1o]; rfl)
 ·have c1o:=c1;have c1:=nr c1;have hck:cZ l_=0∧r_.On.length=l_.length∧r_.Level.length=l_.length:=(by have:=c1o; simp only [Bool.or_eq_false_iff,bne_eq_false_iff_eq] at this; omega);obtain ⟨b1,b2,b3⟩:=Dk hck.1;refine bA (fun (g1:Int)=>0≤g1∧g1≤l_.length∧rlN (l_.drop g1.toNat) (r_.Level.drop g1.toNat)=rlN l_ r_.Level) (fun (g1:Int)=>(l_.length - g1).toNat) ?_ ?_
  ·intro self1 g1 hig1 ihg1;obtain ⟨hg1_1,hg1_2,hg1_3⟩:=hig1;unfold DV;obtain ⟨i,rfl⟩:=Int.eq_ofNat_of_zero_le hg1_1;refine wi (fun c2=>?_) (fun c2=>?_)
   ·have hlt:i<l_.length:=om;have hb:=b2 i hlt;rw [show ((i:Int).toNat)=i from rfl,drop_cons aj hlt,drop_cons 0 (show i<r_.Level.length by omega),rlN] at hg1_3;simp only [Int.toNat_natCast] at *;refine wm ?_;refine wn ?_;refine av (fT) fun v4 hv4=>?_;subst v4;refine bP (fun c3=>?_) (fun c3=>?_)
    ·have c3o:=c3;have c3:=nr c3;refine ah ?_;(unfold rE; rw [c1o,← hg1_3]; rw [show withinF (r_.Level.getD i 0) 0 _=false by simpa using c3o]; rfl)
    ·have c3o:=c3;have c3:=nr c3;refine wn ?_;refine ihg1 _ ?_ ?_
     ·(refine ⟨ob,ob,?_⟩; rw [← hg1_3,show withinF (r_.Level.getD i 0) 0 _=true by simpa using c3o,show ((i:Int)+1).toNat=i+1 by omega]; rfl)
     ·exact ob
   ·refine ah ?_;have e:i=l_.length:=om;unfold rE; rw [c1o,← hg1_3,show (i:Int).toNat=i from rfl,e,List.drop_length]; cases List.drop l_.length r_.Level<;>rfl
  ·(refine ⟨ob,ob,rfl⟩)
theorem MQ {x_:bB} {a1_:(List au)} (h1:a1_.length≤2000000):W (ni x_ a1_) (fun r=>r=RI a1_.length x_):=by
 unfold ni;refine wn ?_;refine av (fT) fun v1 hv1=>?_;subst v1;refine av (eD fun hc=>jm (fT)) fun v2 hv2=>?_;subst v2;refine av (eD fun hc=>jm (fT)) fun v3 hv3=>?_;subst v3;refine av (eD fun hc=>jm (fT)) fun v4 hv4=>?_;subst v4;refine ah ?_;rfl
theorem vw {s_:(List bB)} {f_:(List au)} (h1:s_.length≤2000000) (h2:f_.length≤2000000):W (jA s_ f_) (fun r=>r=s_.any (RI f_.length)):=
 FN (JF (JE (p:=fun x=>ni x f_) (P:=RI f_.length) (fun x hx=>jm (MQ h2)) om) (nH _ _))
theorem QB {l_:(List au)} {d_:(List bB)} (h1:l_.length≤2000000) (h2:d_.length≤2000000):W (wU l_ d_) (fun r=>r=mE l_ d_):=by
 unfold wU;refine av (yR ob) fun v1 hv1=>?_;subst v1;refine av (eD fun hc=>jm (vw ob ob)) fun v2 hv2=>?_;subst v2;refine ah ?_;rfl
theorem nI {s_:(List au)}:W (gG s_) (fun r=>r=s_):=by
 unfold gG;refine ah ?_;rfl
theorem RJ {l_:(List au)} {d_:(List bB)} (h1:Zl l_ d_):W (zI l_ d_) (fun r=>r=jl l_ d_):=by
 obtain ⟨vl,vd,vs,_,vx⟩:=h1;unfold zI;refine wn ?_;refine bA (fun (g1:(Int×(List Bool)))=>0≤g1.1∧g1.1≤d_.length∧g1.2=sD l_.length (d_.take g1.1.toNat)) (fun (g1:(Int×(List Bool)))=>(d_.length - g1.1).toNat) ?_ ?_
 ·intro self1 g1 hig1 ihg1;obtain ⟨hg1_1,hg1_2,hg1_3⟩:=hig1;unfold Gb;refine wi (fun c1=>?_) (fun c1=>?_)
  ·have hlt:g1.1.toNat<d_.length:=om;have hx:=vx _ (gF bX hlt);have hml:g1.2.length=l_.length:=(by rw [hg1_3]; exact qA ..);refine wm ?_;refine wn ?_;refine ihg1 _ ?_ ?_
   ·(refine ⟨ob,ob,?_⟩; dsimp only; have e:sD l_.length (d_.take (g1.1.toNat+1))=(sD l_.length (d_.take g1.1.toNat)).set (d_.getD g1.1.toNat bX).bQ.toNat true:=pR _ _ bX hlt; rw [show (g1.1+1).toNat=g1.1.toNat+1 by omega,hg1_3,e])
   ·exact ob
  ·refine av (nI) fun v1 hv1=>?_;subst v1;refine wn ?_;refine ady (fun (k2:Nat) (g2:(List Bool))=>g2=Md (iI l_) l_.length k2 (sD l_.length d_)) ?_ ?_ ?_
   ·intro k2 self2 g2 hkk2 hig2 ihg2;unfold DX;refine aZ (by (rw [hig2,Ad (lT _),qA]; omega)) ?_;refine aZ (by (rw [hig2,Ad (lT _),qA]; omega)) ?_;unfold vL;refine aZ (by (rw [List.length_set,hig2,Ad (lT _),qA]; omega)) ?_;refine bP (fun c2=>?_) (fun c2=>?_)
    ·have c2o:=c2;have c2:=nr c2;have hp:=vs (l_.length - 1 - k2) om;have hl2:g2.length=l_.length:=(by rw [hig2,Ad (lT _),qA]);refine wn ?_;refine ihg2 _ ?_;(rw [Int.toNat_natCast,fB,if_pos ⟨rfl,om⟩] at c2o; show _=iI l_ (l_.length - 1 - k2) (Md (iI l_) l_.length k2 (sD l_.length d_)); rw [← hig2]; unfold iI; rw [c2o]; rfl)
    ·have c2o:=c2;have c2:=nr c2;have hl2:g2.length=l_.length:=(by rw [hig2,Ad (lT _),qA]);refine ihg2 _ ?_;(rw [Int.toNat_natCast,fB,if_pos ⟨rfl,om⟩] at c2o; show _=iI l_ (l_.length - 1 - k2) (Md (iI l_) l_.length k2 (sD l_.length d_)); rw [← hig2]; unfold iI; rw [c2o]; rfl)
   ·intro g2 hig2;unfold DW;refine ah ?_;(rw [hig2]; exact Pd _ _ _)
   ·(simp only [hg1_3]; rw [show g1.1.toNat=d_.length by omega,List.take_length]; rfl)
 ·(refine ⟨ob,ob,rfl⟩)
theorem QC {l_:(List au)} {d_:(List bB)} (h1:Zl l_ d_):W (wV l_ d_) (fun r=>r=yP l_ d_):=by
 have hsm:=fun k hk=>Ld h1 k hk;obtain ⟨vl,vd,vs,_,vx⟩:=h1;unfold wV;refine wn ?_;refine bA (fun (g1:(Int×(List Int)))=>0≤g1.1∧g1.1≤d_.length∧g1.2=vU l_.length (d_.take g1.1.toNat)) (fun (g1:(Int×(List Int)))=>(d_.length - g1.1).toNat) ?_ ?_
 ·intro self1 g1 hig1 ihg1;obtain ⟨hg1_1,hg1_2,hg1_3⟩:=hig1;unfold DY;refine wi (fun c1=>?_) (fun c1=>?_)
  ·have hlt:g1.1.toNat<d_.length:=om;have hx:=vx _ (gF bX hlt);have hml:g1.2.length=l_.length:=(by rw [hg1_3]; exact Lc ..);have hbd:=VT l_.length d_ (fun x hx=>by have:=vx x hx; omega) g1.1.toNat om (d_.getD g1.1.toNat bX).bQ.toNat;rw [← hg1_3] at hbd;refine wm ?_;refine wm ?_;refine wn ?_;refine ihg1 _ ?_ ?_
   ·(refine ⟨ob,ob,?_⟩; dsimp only; have e:vU l_.length (d_.take (g1.1.toNat+1))=(vU l_.length (d_.take g1.1.toNat)).set (d_.getD g1.1.toNat bX).bQ.toNat ((vU l_.length (d_.take g1.1.toNat)).getD (d_.getD g1.1.toNat bX).bQ.toNat 0+(d_.getD g1.1.toNat bX).Load):=pR _ _ bX hlt; rw [show (g1.1+1).toNat=g1.1.toNat+1 by omega,e,← hg1_3])
   ·exact ob
  ·refine av (nI) fun v1 hv1=>?_;subst v1;refine wn ?_;refine ady (fun (k2:Nat) (g2:(List Int))=>g2=Md (fV l_) l_.length k2 (vU l_.length d_)) ?_ ?_ ?_
   ·intro k2 self2 g2 hkk2 hig2 ihg2;unfold Br;refine bP (fun c2=>?_) (fun c2=>?_)
    ·have c2o:=c2;have c2:=nr c2;have hp:=vs (l_.length - 1 - k2) om;have hl2:g2.length=l_.length:=(by rw [hig2,Ad (Dl _),Lc]);have hbd:=hsm k2 om;rw [← hig2] at hbd;have hb1:=hbd (l_.getD (l_.length - 1 - k2) aj).Parent.toNat;have hb2:=hbd (l_.length - 1 - k2);rw [Int.toNat_natCast];refine wm ?_;refine wm ?_;refine ihg2 _ ?_;(show _=fV l_ (l_.length - 1 - k2) (Md (fV l_) l_.length k2 (vU l_.length d_)); rw [← hig2]; unfold fV; rw [c2o]; rfl)
    ·have c2o:=c2;have c2:=nr c2;refine ihg2 _ ?_;(show _=fV l_ (l_.length - 1 - k2) (Md (fV l_) l_.length k2 (vU l_.length d_)); rw [← hig2]; unfold fV; rw [c2o]; rfl)
   ·intro g2 hig2;unfold Bq;refine ah ?_;(rw [hig2]; exact Pd _ _ _)
   ·(simp only [hg1_3]; rw [show g1.1.toNat=d_.length by omega,List.take_length]; rfl)
 ·(refine ⟨ob,ob,rfl⟩)
theorem MR {x_:bB} {a1_:(List au)} {a20_:(List Bool)} {a21_:(List Int)} (h1:0≤x_.bQ) (h2:x_.bQ<a1_.length) (h3:x_.bQ<a21_.length) (h4:0≤a21_.getD x_.bQ.toNat 0) (h5:a21_.getD x_.bQ.toNat 0<(a1_.getD x_.bQ.toNat aj).bK.length):W (nk x_ a1_ a20_ a21_) (fun r=>r=dBad a1_ ⟨a20_,a21_⟩ x_):=by
 unfold nk;refine wm ?_;refine wn ?_;refine av (fT) fun v1 hv1=>?_;subst v1;refine ah ?_;rfl
theorem rF {s_:(List bB)} {f0_:(List au)} {f1_:(List Bool)} {f2_:(List Int)} (h1:s_.length≤2000000) (h2:∀x∈s_,0≤x.bQ∧x.bQ<f0_.length) (h3:Rok f0_ ⟨f1_,f2_⟩):W (iK s_ f0_ f1_ f2_) (fun r=>r=s_.any (dBad f0_ ⟨f1_,f2_⟩)):=
 FN (JF (JE (p:=fun x=>nk x f0_ f1_ f2_) (P:=dBad f0_ ⟨f1_,f2_⟩) (fun x hx=>jm (by obtain ⟨q1,q2⟩:=h2 x hx; obtain ⟨r1,r2,r3⟩:=h3; have r4:=r3 x.bQ.toNat om; exact MR q1 q2 (by dsimp only at r2; omega) r4.1 r4.2.2)) om) (nH _ _))
theorem QD {l_:(List au)} {r_:bf} {d_:(List bB)} (h1:l_.length≤2000000) (h2:d_.length≤2000000) (h3:r_.Level.length≤2000000):W (wW l_ r_ d_) (fun r=>r=fA l_ r_ d_):=by
 unfold wW;refine av (QA ob ob) fun v1 hv1=>?_;subst v1;refine av (eD fun hc=>jm (QB ob ob)) fun v2 hv2=>?_;subst v2;refine bP (fun c1=>?_) (fun c1=>?_)
 ·have c1o:=c1;have c1:=nr c1;refine ah ?_;(unfold fA; rw [c1o]; rfl)
 ·have c1o:=c1;have c1:=nr c1;have hrd:rE l_ r_=true∧mE l_ d_=true:=(by have:=c1o; simpa using this);have hv:=Xz hrd.2;have hr:=(IB.1 hrd.1).2;have hrk:=hr;have hvb:=fun i hi=>Qy hv hr i hi;have hul:=Iz l_ d_;have hll:=Ki l_ d_;obtain ⟨r1,r2,r3⟩:=hr;obtain ⟨vl,vd,vs,_,vx⟩:=id hv;have hmf:fA l_ r_ d_=vV l_ r_ d_:=(by unfold fA; rw [c1o]; rfl);refine av (RJ hv) fun v3 hv3=>?_;subst v3;refine av (QC hv) fun v4 hv4=>?_;subst v4;refine bA (fun (g1:Int)=>0≤g1∧g1≤l_.length∧(∀j,j<g1.toNat→Kj l_ r_ (jl l_ d_) (yP l_ d_) j=false)) (fun (g1:Int)=>(l_.length - g1).toNat) ?_ ?_
  ·intro self1 g1 hig1 ihg1;obtain ⟨hg1_1,hg1_2,hg1_3⟩:=hig1;unfold DZ;obtain ⟨i,rfl⟩:=Int.eq_ofNat_of_zero_le hg1_1;refine wi (fun c2=>?_) (fun c2=>?_)
   ·have hlt:i<l_.length:=om;have hp:=vs i hlt;have hp2:=vs (l_.getD i aj).Parent.toNat;have hr3:=r3 i hlt;have hr4:=r3 (l_.getD i aj).Parent.toNat;have hv1:=hvb i hlt;unfold sF at hv1;simp only [Int.toNat_natCast] at *;refine wm ?_;refine bP (fun c3=>?_) (fun c3=>?_)
    ·have c3o:=c3;have c3:=nr c3;refine wn ?_;refine bP (fun c4=>?_) (fun c4=>?_)
     ·have c4o:=c4;have c4:=nr c4;refine ah ?_;(rw [hmf]; unfold vV; rw [vW hlt (by unfold Kj; rw [c3o,c4o]; rfl)]; rfl)
     ·have c4o:=c4;have c4:=nr c4;refine wn ?_;refine ihg1 _ ?_ ?_
      ·(refine ⟨ob,ob,fun j hj=>?_⟩; by_cases q:j<i; (exact hg1_3 j q); (have e:j=i:=by omega); subst e; unfold Kj; rw [c3o,c4o]; rfl)
      ·exact ob
    ·have c3o:=c3;have c3:=nr c3;refine aZ (by (intro q1; have:=of_decide_eq_true q1; omega)) ?_;refine aZ (by (intro q1 _; have:=of_decide_eq_true q1; omega)) ?_;refine aZ (by (intro q1 _; have:=of_decide_eq_true q1; omega)) ?_;refine aZ (by (intro q1 _; have:=of_decide_eq_true q1; have:=hr4 om; omega)) ?_;refine aZ (by (intro q1 _; have:=of_decide_eq_true q1; omega)) ?_;refine aZ (by (intro q1 _; have:=of_decide_eq_true q1; omega)) ?_;refine aZ (by (intro q1 _; have:=of_decide_eq_true q1; unfold InI64; omega)) ?_;refine aZ (by (intro _; omega)) ?_;refine bP (fun c5=>?_) (fun c5=>?_)
     ·have c5o:=c5;have c5:=nr c5;refine ah ?_;(rw [hmf]; unfold vV; rw [vW hlt (by unfold Kj sF; rw [c3o]; simp only [cond_false]; rw [c5o]; rfl)]; rfl)
     ·have c5o:=c5;have c5:=nr c5;refine wn ?_;refine ihg1 _ ?_ ?_
      ·(refine ⟨ob,ob,fun j hj=>?_⟩; by_cases q:j<i; (exact hg1_3 j q); (have e:j=i:=by omega); subst e; unfold Kj sF; rw [c3o]; exact c5o)
      ·exact ob
   ·refine av (rF om (fun x hx=>by have:=vx x hx; omega) hrk) fun v5 hv5=>?_;subst v5;refine ah ?_;(rw [hmf]; unfold vV; rw [GU fun j hj=>(by rw [hg1_3 j om]; rfl)]; rfl)
  ·(refine ⟨ob,ob,fun j hj=>absurd hj (Nat.not_lt_zero j)⟩)
end Go.Proofs.YtfblhejmclcdmaaGreatDoor.Sp

namespace Go.Proofs.YtfblhejmclcdmaaGreatDoor
open Go.Ab
set_option maxRecDepth 100000
structure abo (l:List cK):Prop where
 len:l.length≤32
 af:∀i,i<l.length→∀x∈(l.getD i dReset).After,0≤x∧x<(i:Int)
structure Zp (l:List bT):Prop where
 len:l.length≤16
 par:∀i,i<l.length → -1≤(l.getD i dI).Parent∧(l.getD i dI).Parent<(i:Int)
structure acU (n:Int) (g:bG):Prop where
 pl:0<g.bn.length
 fl:0<g.Functions.length∧g.Functions.length≤8
 pn:∀x∈g.bn,0≤x∧x<n
structure QE (p:bg) (u:iC):Prop where
 g0:0≤u.bW
 gl:u.bW<p.Groups.length
 f0:0≤u.Function
 fl:u.Function<(p.Groups.getD u.bW.toNat ay).Functions.length
theorem bY {P:Nat→Prop} {i:Int} (h:∀j:Nat,(j:Int)<i→P j) (h0:0≤i) (hp:P i.toNat):∀j:Nat,(j:Int)<i+1→P j:=fun j hj=>by
 by_cases q:(j:Int)<i
 ·exact h j q
 ·have e:j=i.toNat:=by omega
  rw [e]; exact hp
structure VZ (p:bg):Prop where
 pn:0≤p.bn∧p.bn≤64
 gl:p.Groups.length≤24
 gr:∀g∈p.Groups,acU p.bn g
theorem jf {α:Type} {P:α→Prop} {l:List α} (d:α) (h:∀j,j<l.length→P (l.getD j d)):∀x∈l,P x:=fun x hx=>by
 obtain ⟨i,hi,rfl⟩:=List.mem_iff_getElem.1 hx;have:=h i hi;rwa [List.getD_eq_getElem?_getD,List.getElem?_eq_getElem hi] at this
theorem QF {s:ByteArray} {c:Bool} (h:((s.toList==({ data:=#[] }:ByteArray).toList)||c)=false):0<s.size:=by
 simp only [Bool.or_eq_false_iff] at h;rcases Nat.eq_zero_or_pos s.size with e | e
 ·exfalso;have e2:s=({ data:=#[] }:ByteArray):=by
   cases s with
   | mk d=>cases d with
    | mk l=>cases l with
     | nil=>rfl
     | cons a t=>simp [ByteArray.size] at e
  rw [e2] at h;simp at h
 ·exact e
theorem Zq {s:ByteArray} {c d:Bool} (h:((((s.toList==({ data:=#[] }:ByteArray).toList)||(decide ((16:Int)<((s.size:Nat):Int))))||c)||d)=false):0<s.size∧s.size≤16:=by
 simp only [Bool.or_eq_false_iff] at h;refine ⟨QF (c:=false) (by simp only [Bool.or_eq_false_iff]; exact ⟨h.1.1.1,trivial⟩),?_⟩;have:=of_decide_eq_false h.1.1.2;omega
theorem pX {s_:(List Int)} (h1:s_.length≤2000000):W (slices_Clone_int s_) (fun r=>r=s_):=by
 unfold slices_Clone_int;refine wn ?_;refine ah ?_;rfl
theorem oD {s_:(List Bool)} (h1:s_.length≤2000000):W (jk s_) (fun r=>r=s_):=by
 unfold jk;refine wn ?_;refine ah ?_;rfl
theorem BX {s_:(List aK)} (h1:s_.length≤2000000):W (jO s_) (fun r=>r=s_):=by
 unfold jO;refine wn ?_;refine ah ?_;rfl
end Go.Proofs.YtfblhejmclcdmaaGreatDoor

namespace Go.Proofs.YtfblhejmclcdmaaGreatDoor
open Go.Ab
set_option maxRecDepth 100000
structure EP (b:aU):Prop where
 cl:b.bD.length≤2000000
 ch:Xw b.bD
 su:b.aV.length≤2000000
 gr:∀g∈b.aN.Groups,g.bn.length≤2000000
 re:b.Resets.length≤2000000
 ra:∀g∈b.Resets,g.After.length≤2000000
 dm:b.bI.length≤2000000
structure Yo (b:aU):Prop where
 cl:cZ b.bD=0
 su:Sp.cZ b.aV=0
 pn:VZ b.aN
 rs:abo b.Resets
 dm:Zp b.bI
structure V3 (n:Nat) (x:bJ):Prop where
 k0:0≤x.Clock
 kl:x.Clock<n
 l0:0≤x.Low
 lh:x.Low≤x.High
 hi:x.High≤4000000000
structure abp (n:Nat) (x:bB):Prop where
 k0:0≤x.bQ
 kl:x.bQ<n
 l0:0≤x.Low
 lh:x.Low≤x.High
 hi:x.High≤5000
 ld:0≤x.Load∧x.Load≤10000
structure abq (b:aU) (n:aH):Prop where
 ll:n.Limits.length≤32
 dl:n.Draws.length≤32
 fl:n.Functions.length≤10
 lm:∀x∈n.Limits,V3 b.bD.length x
 dw:∀x∈n.Draws,abp b.aV.length x
 rs:∀x∈n.Resets,0≤x∧x<b.Resets.length
 dm : -1≤n.dO∧n.dO<b.bI.length
structure GY (l:List aH):Prop where
 len:l.length≤2000000
 nd:∀n∈l,n.Resets.length≤2000000∧n.aL.length≤2000000
structure oF (g:aG):Prop where
 st:g.Setting.length≤2000000
 on:g.Rails.On.length≤2000000
 lv:g.Rails.Level.length≤2000000
 us:g.Uses.length≤2000000
 re:g.Released.length≤2000000
 po:g.Powered.length≤2000000
structure Oo (s:dY):Prop where
 sz:EP s.aW
 val:Yo s.aW
 nl:s.bR.length≤12
 nd:∀n∈s.bR,abq s.aW n
 nsz:GY s.bR
 ml:s.aI.length≤10000
 gs:oF s.aQ
structure XC (s:dY):Prop where
 mem:∀m∈s.aI,0≤m∧m<s.bR.length
 st:s.aQ.Setting.length=s.aW.bD.length
 on:s.aQ.Rails.On.length=s.aW.aV.length
 lv:s.aQ.Rails.Level.length=s.aW.aV.length
 re:s.aQ.Released.length=s.aW.Resets.length
 po:s.aQ.Powered.length=s.aW.bI.length
theorem ER {s_:List Int} {v_:Int} (h1:s_.length≤2000000):slices_Contains_int s_ v_ (s_.contains v_):=Qs h1
theorem jN {x_:Int} {low_:Int} {high_:Int}:W (j3 x_ low_ high_) (fun r=>r=(decide (low_≤x_)&&decide (x_≤high_))):=by
 unfold j3;refine ah ?_;rfl
theorem N7 {r_:bf} (h1:r_.On.length≤2000000) (h2:r_.Level.length≤2000000):W (Bo r_) (fun r=>r=(r_.On,r_.Level)):=by
 unfold Bo;refine av (oD ob) fun v1 hv1=>?_;subst v1;refine av (pX ob) fun v2 hv2=>?_;subst v2;refine ah ?_;rfl
theorem GZ {g_:aG} (h1:oF g_):W (xS g_) (fun r=>r=(g_.Setting,g_.Rails.On,g_.Rails.Level,g_.Uses,g_.Released,g_.Powered)):=by
 obtain ⟨z1,z2,z3,z4,z5,z6⟩:=h1;unfold xS;refine av (pX ob) fun v1 hv1=>?_;subst v1;refine av (N7 ob ob) fun v2 hv2=>?_;subst v2;refine av (BX ob) fun v3 hv3=>?_;subst v3;refine av (oD ob) fun v4 hv4=>?_;subst v4;refine av (oD ob) fun v5 hv5=>?_;subst v5;refine ah ?_;rfl
end Go.Proofs.YtfblhejmclcdmaaGreatDoor

namespace Go.Proofs.YtfblhejmclcdmaaGreatDoor
open Go.Ab
set_option maxRecDepth 100000
theorem tC (f:mo→Option Int) (k k':mo) (n:Int):wL (Me f k n) k'=if k'=k then n else wL f k':=by
 unfold wL Me;split<;>rfl
theorem abr {l:List aC} {s:List Int} (h:(Aq l s).2=0):cZ l=0∧settB l s=true∧(Aq l s).1=fF l s:=by
 unfold Aq at h ⊢;cases h1:cZ l != 0 with
 | true=>rw [h1] at h; simp at h1; exact absurd h h1
 | false=>
  cases h2:settB l s with
  | false=>rw [h1,h2] at h; cases h
  | true=>exact ⟨by simpa using h1,rfl,rfl⟩
theorem abt {l:List aC} {s:List Int} (h1:cZ l=0) (h2:settB l s=true) (j:Nat) (hj:j<l.length):1≤((fF l s).getD j dA).Den∧((fF l s).getD j dA).Den≤16777216:=by
 have:=jL (K9 (xE h1) h2 j hj).2.2.1;exact ⟨this.2.2.1,this.2.2.2.1⟩
theorem Dn {line_:Int} {a10_:(List aC)} {a11_:(List au)} {a12_:Int} {a13_:(List bG)} {a14_:(List cK)} {a15_:(List bT)} {a16_:(List aH)} {a17_:(List Int)} {a18_:(List Int)} {a19_:(List Bool)} {a110_:(List Int)} {a111_:(List aK)} {a112_:(List Bool)} {a113_:(List Bool)} {a114_:Bool} (h1:0≤line_) (h2:line_<a112_.length):W (iZ line_ a10_ a11_ a12_ a13_ a14_ a15_ a16_ a17_ a18_ a19_ a110_ a111_ a112_ a113_ a114_) (fun r=>r=!(a112_.getD line_.toNat false)):=by
 unfold iZ;refine wn ?_;refine ah ?_;rfl
theorem vX {s_:(List Int)} {f0_:(List aC)} {f1_:(List au)} {f2_:Int} {f3_:(List bG)} {f4_:(List cK)} {f5_:(List bT)} {f6_:(List aH)} {f7_:(List Int)} {f8_:(List Int)} {f9_:(List Bool)} {f10_:(List Int)} {f11_:(List aK)} {f12_:(List Bool)} {f13_:(List Bool)} {f14_:Bool} (h1:s_.length≤2000000) (h2:∀x∈s_,0≤x∧x<f12_.length):W (jH s_ f0_ f1_ f2_ f3_ f4_ f5_ f6_ f7_ f8_ f9_ f10_ f11_ f12_ f13_ f14_) (fun r=>r=s_.any (fun x=>!(f12_.getD x.toNat false))):=
 FN (JF (JE (p:=fun x=>iZ x f0_ f1_ f2_ f3_ f4_ f5_ f6_ f7_ f8_ f9_ f10_ f11_ f12_ f13_ f14_) (P:=fun x=>!(f12_.getD x.toNat false)) (fun x hx=>jm (Dn (h2 x hx).1 (h2 x hx).2)) om) (nH _ _))
theorem BZ {m_:Int} {a10_:(List aC)} {a11_:(List au)} {a12_:Int} {a13_:(List bG)} {a14_:(List cK)} {a15_:(List bT)} {a16_:(List aH)} {a17_:(List Int)} {a18_:(List Int)} {a19_:(List Bool)} {a110_:(List Int)} {a111_:(List aK)} {a112_:(List Bool)} {a113_:(List Bool)} {a114_:Bool} (h1:0≤m_) (h2:m_<a16_.length) (h3:(a16_.getD m_.toNat aP).dO<a113_.length):W (iD m_ a10_ a11_ a12_ a13_ a14_ a15_ a16_ a17_ a18_ a19_ a110_ a111_ a112_ a113_ a114_) (fun r=>r=((decide ((0:Int)≤(a16_.getD m_.toNat aP).dO))&&(!(a113_.getD (((a16_.getD m_.toNat aP).dO).toNat) false)))):=by
 unfold iD;refine wm ?_;refine ah ?_;rfl
theorem vY {s_:(List Int)} {f0_:(List aC)} {f1_:(List au)} {f2_:Int} {f3_:(List bG)} {f4_:(List cK)} {f5_:(List bT)} {f6_:(List aH)} {f7_:(List Int)} {f8_:(List Int)} {f9_:(List Bool)} {f10_:(List Int)} {f11_:(List aK)} {f12_:(List Bool)} {f13_:(List Bool)} {f14_:Bool} (h1:s_.length≤2000000) (h2:∀x∈s_,0≤x∧x<f6_.length∧(f6_.getD x.toNat aP).dO<f13_.length):W (jI s_ f0_ f1_ f2_ f3_ f4_ f5_ f6_ f7_ f8_ f9_ f10_ f11_ f12_ f13_ f14_) (fun r=>r=s_.any (fun x=>((decide ((0:Int)≤(f6_.getD x.toNat aP).dO))&&(!(f13_.getD (((f6_.getD x.toNat aP).dO).toNat) false))))):=
 FN (JF (JE (p:=fun x=>iD x f0_ f1_ f2_ f3_ f4_ f5_ f6_ f7_ f8_ f9_ f10_ f11_ f12_ f13_ f14_) (P:=fun x=>((decide ((0:Int)≤(f6_.getD x.toNat aP).dO))&&(!(f13_.getD (((f6_.getD x.toNat aP).dO).toNat) false)))) (fun x hx=>jm (BZ (h2 x hx).1 (h2 x hx).2.1 (h2 x hx).2.2)) om) (nH _ _))
end Go.Proofs.YtfblhejmclcdmaaGreatDoor

namespace Go.Proofs.YtfblhejmclcdmaaGreatDoor
open Go.Ab
set_option maxRecDepth 100000
def oG {α:Type} (l:List α) (i:Int) (v:α):Bool×List α:=bif decide (i<0)||decide ((l.length:Int)≤i) then (false,l) else (true,l.set i.toNat v)
theorem dM {α:Type} (l:List α) (i:Int) (v:α):(oG l i v).2.length=l.length:=by
 unfold oG;cases decide (i<0)||decide ((l.length:Int)≤i)<;>simp
def RL (u:Int) (h:aK):Bool:=h.Use.bW==u
theorem adB {α:Type} (d:α) {a b:List α} (h1:a.length=b.length) (h2:∀j,j<a.length→a.getD j d=b.getD j d):a=b:=Sp.GQ d h1 h2
theorem nT {α:Type} (d:α) (l:List α) (n j:Nat) (h:j<n):(l.take n).getD j d=l.getD j d:=by
 rw [List.getD_eq_getElem?_getD,List.getD_eq_getElem?_getD,List.getElem?_take_of_lt h]
theorem Tg {α:Type} (d:α) (l:List α) (n j:Nat):(l.drop n).getD j d=l.getD (n+j) d:=by
 rw [List.getD_eq_getElem?_getD,List.getD_eq_getElem?_getD,List.getElem?_drop]
theorem QG {α:Type} (d:α) (l:List α) (i j:Nat):(l.eraseIdx i).getD j d=if j<i then l.getD j d else l.getD (j+1) d:=by
 rw [List.getD_eq_getElem?_getD,List.getElem?_eraseIdx];split<;>rw [List.getD_eq_getElem?_getD]
theorem del_eq {s:Nat} {i j:Int} {o:List aK} {n k:Nat} {q:List aK} (h0:0≤i∧j=i+1) (h1:j≤s) (h2:s≤o.length) (hn:n+1=s) (hk:k=n):(J5 (J5 o (0+i.toNat) ((o.drop (0+j.toNat)).take (s - j.toNat))) (0+(((i.toNat+(s - j.toNat)):Nat):Int).toNat) q).take n=(o.take s).eraseIdx i.toNat:=by
 have e1:(0+(((i.toNat+(s - j.toNat)):Nat):Int).toNat)=n:=by omega
 refine adB bq ?_ ?_
 ·rw [List.length_take,eT,eT,List.length_eraseIdx_of_lt (by rw [List.length_take]; omega),List.length_take];omega
 ·intro t ht;rw [List.length_take,eT,eT] at ht;rw [nT _ _ _ _ om,Il bq (by rw [eT]; omega),if_neg om,Il bq om,QG];simp only [List.length_take,List.length_drop];by_cases c:t<i.toNat
  ·rw [if_neg om,if_pos c,nT _ _ _ _ om]
  ·rw [if_pos om,if_neg c,nT _ _ _ _ om,Tg,nT _ _ _ _ om];congr 1;omega
theorem Pe {α:Type} {l:List α} {P:α→Bool} (h:0≤GA l P):GA l P<l.length:=by
 unfold GA at h ⊢;split at h
 ·rename_i q;rw [if_pos q];have:=List.findIdx_lt_length_of_exists (List.any_eq_true.1 q);omega
 ·omega
theorem um {α:Type} {l:List α} {n:Nat} {x:α} (h:n≤l.length):(l.take n++[x]).take (n+1)=l.take n++[x]:=by
 rw [List.take_of_length_le];rw [List.length_append,List.length_take];simp;omega
theorem pI {at_:Int} {x_:Int} {o0_:(List Int)}:W (kD at_ x_ o0_) (fun r=>r=oG o0_ at_ x_):=by
 unfold kD;refine bP (fun c1=>?_) (fun c1=>?_)
 ·have c1o:=c1;have c1:=nr c1;refine ah ?_;(unfold oG; rw [c1o]; rfl)
 ·have c1o:=c1;have c1:=nr c1;refine wn ?_;refine ah ?_;(unfold oG; rw [c1o]; rfl)
theorem jF {at_:Int} {x_:Bool} {o0_:(List Bool)}:W (gX at_ x_ o0_) (fun r=>r=oG o0_ at_ x_):=by
 unfold gX;refine bP (fun c1=>?_) (fun c1=>?_)
 ·have c1o:=c1;have c1:=nr c1;refine ah ?_;(unfold oG; rw [c1o]; rfl)
 ·have c1o:=c1;have c1:=nr c1;refine wn ?_;refine ah ?_;(unfold oG; rw [c1o]; rfl)
theorem Oq {u_:aK} {a10_:Int} {a11_:Int} {a12_:Int}:W (oQ u_ a10_ a11_ a12_) (fun r=>r=(u_.Use.bW==a11_)):=by
 unfold oQ;refine ah ?_;rfl
theorem mO {s_:List aK} {f0_ f1_ f2_:Int} (h1:s_.length≤2000000):W (iA s_ f0_ f1_ f2_) (fun r=>r=GA s_ (RL f1_)):=
 JE (p:=fun x=>oQ x f0_ f1_ f2_) (P:=RL f1_) (fun x _=>jm Oq) om
theorem xH {s_:Nat} {i_:Int} {j_:Int} {o0_:(List aK)} (h1:0≤i_) (h2:j_=i_+1) (h3:j_≤s_) (h4:s_≤o0_.length) (h5:o0_.length≤2000000):W (iB s_ i_ j_ o0_) (fun r=>r.1+1=s_∧r.2.length=o0_.length∧r.2.take r.1=(o0_.take s_).eraseIdx i_.toNat):=by
 unfold iB;refine wm ?_;refine bP (fun c1=>?_) (fun c1=>?_)
 ·have c1o:=c1;have c1:=nr c1;have c1:i_=j_:=(by simpa using c1o);refine ah ?_;(exfalso; omega)
 ·have c1o:=c1;have c1:=nr c1;refine wm ?_;refine wm ?_;refine ah ?_;(refine ⟨by dsimp only; omega,by simp only [eT],del_eq ⟨h1,h2⟩ h3 h4 om rfl⟩)
def Pf (n:Nat) (o1:List Int) (o2:List Bool) (o3:List Int) (o4:List aK) (o5 o6:List Bool):aG:=⟨o1,⟨o2,o3⟩,o4.take n,o5,o6⟩
def grT (r:Nat×List Int×List Bool×List Int×List Bool×List Bool×List aK):aG:=Pf r.1 r.2.1 r.2.2.1 r.2.2.2.1 r.2.2.2.2.2.2 r.2.2.2.2.1 r.2.2.2.2.2.1
def G5 (u v:Int) (l:List aK):List aK:=bif decide (0<v) then l++[⟨-1,⟨u,v - 1⟩⟩] else l
def ES (u:Int) (l:List aK):List aK:=bif decide (0≤GA l (RL u)) then l.eraseIdx (GA l (RL u)).toNat else l
def dx (w:bU) (g:aG):Bool×aG:=
 bif decide (w.Value<0) then (false,g)
 else bif w.Kind==1 then ((oG g.Setting w.Unit w.Value).1,{ g with Setting:=(oG g.Setting w.Unit w.Value).2 })
 else bif w.Kind==2 then ((oG g.Rails.Level w.Unit w.Value).1,{ g with Rails:=⟨g.Rails.On,(oG g.Rails.Level w.Unit w.Value).2⟩ })
 else bif w.Kind==3 then (bif decide (w.Value≤1) then ((oG g.Rails.On w.Unit (w.Value==1)).1,{ g with Rails:=⟨(oG g.Rails.On w.Unit (w.Value==1)).2,g.Rails.Level⟩ }) else (false,g))
 else bif w.Kind==11 then (bif decide (w.Value≤1) then ((oG g.Released w.Unit (w.Value==1)).1,{ g with Released:=(oG g.Released w.Unit (w.Value==1)).2 }) else (false,g))
 else bif w.Kind==12 then (bif decide (w.Value≤1) then ((oG g.Powered w.Unit (w.Value==1)).1,{ g with Powered:=(oG g.Powered w.Unit (w.Value==1)).2 }) else (false,g))
 else bif w.Kind==10 then (bif !(decide (0≤w.Unit)&&decide (w.Unit≤23)) then (false,g) else (true,{ g with Uses:=G5 w.Unit w.Value (ES w.Unit g.Uses) }))
 else (false,g)
theorem MS {w_:bU} {o0x0_:(List aC)} {o0x1_:(List au)} {o0x2_:Int} {o0x3_:(List bG)} {o0x4_:(List cK)} {o0x5_:(List bT)} {o0x6_:(List aH)} {o0x7_:(List Int)} {o0x8_:Nat} {o0x9_:Bool} {o1_:(List Int)} {o2_:(List Bool)} {o3_:(List Int)} {o4_:(List aK)} {o5_:(List Bool)} {o6_:(List Bool)} (h1:o0x8_≤o4_.length) (h2:o4_.length≤2000000) (h3:w_.Value≤9223372036854775807):W (qO w_ o0x0_ o0x1_ o0x2_ o0x3_ o0x4_ o0x5_ o0x6_ o0x7_ o0x8_ o0x9_ o1_ o2_ o3_ o4_ o5_ o6_) (fun r=>(r.1,grT r.2)=dx w_ (Pf o0x8_ o1_ o2_ o3_ o4_ o5_ o6_)∧r.2.2.1.length=o1_.length∧r.2.2.2.1.length=o2_.length∧r.2.2.2.2.1.length=o3_.length∧r.2.2.2.2.2.1.length=o5_.length∧r.2.2.2.2.2.2.1.length=o6_.length∧r.2.1≤r.2.2.2.2.2.2.2.length∧r.2.2.2.2.2.2.2.length≤o4_.length+1):=by
 unfold qO;refine wn ?_;refine bP (fun c1=>?_) (fun c1=>?_)
 ·have c1o:=c1;have c1:=nr c1;refine ah ?_;(refine ⟨(by unfold dx; rw [c1o]; rfl),?_,?_,?_,?_,?_,?_,?_⟩<;>first | rfl | exact dM .. | (dsimp only; omega) | (simp only [List.length_append,List.length_take,List.length_singleton]; omega))
 ·have c1o:=c1;have c1:=nr c1;refine bP (fun c2=>?_) (fun c2=>?_)
  ·have c2o:=c2;have c2:=nr c2;refine av (pI) fun v1 hv1=>?_;subst v1;refine aZ (by (exact dM ..)) ?_;refine ah ?_;(refine ⟨(by unfold dx; rw [c1o,c2o]; rfl),?_,?_,?_,?_,?_,?_,?_⟩<;>first | rfl | exact dM .. | (dsimp only; omega) | (simp only [List.length_append,List.length_take,List.length_singleton]; omega))
  ·have c2o:=c2;have c2:=nr c2;refine bP (fun c3=>?_) (fun c3=>?_)
   ·have c3o:=c3;have c3:=nr c3;refine av (pI) fun v2 hv2=>?_;subst v2;refine aZ (by (exact dM ..)) ?_;refine ah ?_;(refine ⟨(by unfold dx; rw [c1o,c2o,c3o]; rfl),?_,?_,?_,?_,?_,?_,?_⟩<;>first | rfl | exact dM .. | (dsimp only; omega) | (simp only [List.length_append,List.length_take,List.length_singleton]; omega))
   ·have c3o:=c3;have c3:=nr c3;refine bP (fun c4=>?_) (fun c4=>?_)
    ·have c4o:=c4;have c4:=nr c4;refine bP (fun c5=>?_) (fun c5=>?_)
     ·have c5o:=c5;have c5:=nr c5;have d5:decide (w_.Value≤1)=true:=(by simpa using c5o);refine av (jF) fun v3 hv3=>?_;subst v3;refine aZ (by (exact dM ..)) ?_;refine ah ?_;(refine ⟨(by unfold dx; rw [c1o,c2o,c3o,c4o,d5]; rfl),?_,?_,?_,?_,?_,?_,?_⟩<;>first | rfl | exact dM .. | (dsimp only; omega) | (simp only [List.length_append,List.length_take,List.length_singleton]; omega))
     ·have c5o:=c5;have c5:=nr c5;have d5:decide (w_.Value≤1)=false:=(by simpa using c5o);refine wn ?_;refine ah ?_;(refine ⟨(by unfold dx; rw [c1o,c2o,c3o,c4o,d5]; rfl),?_,?_,?_,?_,?_,?_,?_⟩<;>first | rfl | exact dM .. | (dsimp only; omega) | (simp only [List.length_append,List.length_take,List.length_singleton]; omega))
    ·have c4o:=c4;have c4:=nr c4;refine bP (fun c6=>?_) (fun c6=>?_)
     ·have c6o:=c6;have c6:=nr c6;refine bP (fun c7=>?_) (fun c7=>?_)
      ·have c7o:=c7;have c7:=nr c7;have d7:decide (w_.Value≤1)=true:=(by simpa using c7o);refine av (jF) fun v4 hv4=>?_;subst v4;refine aZ (by (exact dM ..)) ?_;refine ah ?_;(refine ⟨(by unfold dx; rw [c1o,c2o,c3o,c4o,c6o,d7]; rfl),?_,?_,?_,?_,?_,?_,?_⟩<;>first | rfl | exact dM .. | (dsimp only; omega) | (simp only [List.length_append,List.length_take,List.length_singleton]; omega))
      ·have c7o:=c7;have c7:=nr c7;have d7:decide (w_.Value≤1)=false:=(by simpa using c7o);refine wn ?_;refine ah ?_;(refine ⟨(by unfold dx; rw [c1o,c2o,c3o,c4o,c6o,d7]; rfl),?_,?_,?_,?_,?_,?_,?_⟩<;>first | rfl | exact dM .. | (dsimp only; omega) | (simp only [List.length_append,List.length_take,List.length_singleton]; omega))
     ·have c6o:=c6;have c6:=nr c6;refine bP (fun c8=>?_) (fun c8=>?_)
      ·have c8o:=c8;have c8:=nr c8;refine bP (fun c9=>?_) (fun c9=>?_)
       ·have c9o:=c9;have c9:=nr c9;have d9:decide (w_.Value≤1)=true:=(by simpa using c9o);refine av (jF) fun v5 hv5=>?_;subst v5;refine aZ (by (exact dM ..)) ?_;refine ah ?_;(refine ⟨(by unfold dx; rw [c1o,c2o,c3o,c4o,c6o,c8o,d9]; rfl),?_,?_,?_,?_,?_,?_,?_⟩<;>first | rfl | exact dM .. | (dsimp only; omega) | (simp only [List.length_append,List.length_take,List.length_singleton]; omega))
       ·have c9o:=c9;have c9:=nr c9;have d9:decide (w_.Value≤1)=false:=(by simpa using c9o);refine wn ?_;refine ah ?_;(refine ⟨(by unfold dx; rw [c1o,c2o,c3o,c4o,c6o,c8o,d9]; rfl),?_,?_,?_,?_,?_,?_,?_⟩<;>first | rfl | exact dM .. | (dsimp only; omega) | (simp only [List.length_append,List.length_take,List.length_singleton]; omega))
      ·have c8o:=c8;have c8:=nr c8;refine bP (fun c10=>?_) (fun c10=>?_)
       ·have c10o:=c10;have c10:=nr c10;refine av (jN) fun v6 hv6=>?_;subst v6;refine bP (fun c11=>?_) (fun c11=>?_)
        ·have c11o:=c11;have c11:=nr c11;refine ah ?_;(refine ⟨(by unfold dx; rw [c1o,c2o,c3o,c4o,c6o,c8o,c10o,c11o]; rfl),?_,?_,?_,?_,?_,?_,?_⟩<;>first | rfl | exact dM .. | (dsimp only; omega) | (simp only [List.length_append,List.length_take,List.length_singleton]; omega))
        ·have c11o:=c11;have c11:=nr c11;refine av (mO ob) fun v9 hv9=>?_;subst v9;refine bP (fun c12=>?_) (fun c12=>?_)
         ·have c12o:=c12;have c12:=nr c12;refine aZ (by (have:=Pe c12; have:=List.length_take_le o0x8_ o4_; unfold InI64; omega)) ?_;refine av (xH c12 rfl (by have:=Pe c12; rw [List.length_take] at this; omega) h1 h2) fun v10 hv10=>?_;obtain ⟨hv10_1,hv10_2,hv10_3⟩:=hv10;refine wn ?_;unfold jJ;refine wn ?_;refine bP (fun c13=>?_) (fun c13=>?_)
          ·have c13o:=c13;have c13:=nr c13;refine wm ?_;refine ah ?_;(refine ⟨(by unfold dx; rw [c1o,c2o,c3o,c4o,c6o,c8o,c10o,c11o]; simp only [cond_true,cond_false]; unfold G5 ES grT Pf; dsimp only; rw [c12o,c13o,um om,hv10_3]; rfl),?_,?_,?_,?_,?_,?_,?_⟩<;>first | rfl | exact dM .. | (dsimp only; omega) | (simp only [List.length_append,List.length_take,List.length_singleton]; omega))
          ·have c13o:=c13;have c13:=nr c13;refine ah ?_;(refine ⟨(by unfold dx; rw [c1o,c2o,c3o,c4o,c6o,c8o,c10o,c11o]; simp only [cond_true,cond_false]; unfold G5 ES grT Pf; dsimp only; rw [c12o,c13o,hv10_3]; rfl),?_,?_,?_,?_,?_,?_,?_⟩<;>first | rfl | exact dM .. | (dsimp only; omega) | (simp only [List.length_append,List.length_take,List.length_singleton]; omega))
         ·have c12o:=c12;have c12:=nr c12;unfold jJ;refine wn ?_;refine bP (fun c14=>?_) (fun c14=>?_)
          ·have c14o:=c14;have c14:=nr c14;refine wm ?_;refine ah ?_;(refine ⟨(by unfold dx; rw [c1o,c2o,c3o,c4o,c6o,c8o,c10o,c11o]; simp only [cond_true,cond_false]; unfold G5 ES grT Pf; dsimp only; rw [c12o,c14o,um om]; rfl),?_,?_,?_,?_,?_,?_,?_⟩<;>first | rfl | exact dM .. | (dsimp only; omega) | (simp only [List.length_append,List.length_take,List.length_singleton]; omega))
          ·have c14o:=c14;have c14:=nr c14;refine ah ?_;(refine ⟨(by unfold dx; rw [c1o,c2o,c3o,c4o,c6o,c8o,c10o,c11o]; simp only [cond_true,cond_false]; unfold G5 ES grT Pf; dsimp only; rw [c12o,c14o]; rfl),?_,?_,?_,?_,?_,?_,?_⟩<;>first | rfl | exact dM .. | (dsimp only; omega) | (simp only [List.length_append,List.length_take,List.length_singleton]; omega))
       ·have c10o:=c10;have c10:=nr c10;refine ah ?_;(refine ⟨(by unfold dx; rw [c1o,c2o,c3o,c4o,c6o,c8o,c10o]; rfl),?_,?_,?_,?_,?_,?_,?_⟩<;>first | rfl | exact dM .. | (dsimp only; omega) | (simp only [List.length_append,List.length_take,List.length_singleton]; omega))
end Go.Proofs.YtfblhejmclcdmaaGreatDoor

namespace Go.Proofs.YtfblhejmclcdmaaGreatDoor
open Go.Ab
set_option maxRecDepth 100000
noncomputable def pick {R:Type} [Inhabited R] (m:R→Prop):R:=Classical.epsilon m
def emG:aG:=⟨[],⟨[],[]⟩,[],[],[]⟩
def stG (g:Int×Nat×List Int×List Bool×List Int×List aK×List Bool×List Bool):aG:=Pf g.2.1 g.2.2.1 g.2.2.2.1 g.2.2.2.2.1 g.2.2.2.2.2.1 g.2.2.2.2.2.2.1 g.2.2.2.2.2.2.2
end Go.Proofs.YtfblhejmclcdmaaGreatDoor

namespace Go.Proofs.YtfblhejmclcdmaaGreatDoor
open Go.Ab
set_option maxRecDepth 100000
deriving instance DecidableEq for iC,aK,aG
theorem xI {α:Type} [DecidableEq α] {a b:List α} (h:¬ (a.length:Int)=b.length):(a==b)=false:=by
 simp only [beq_eq_false_iff_ne,ne_eq];intro e;rw [e] at h;exact h rfl
theorem Ph {α:Type} [DecidableEq α] {x y:α} {a b:List α} (h:¬ x=y):(x::a==y::b)=false:=by
 simp only [beq_eq_false_iff_ne,ne_eq,List.cons.injEq];exact fun e=>h e.1
theorem Pj {α:Type} [DecidableEq α] {x y:α} {a b:List α} (h:x=y):(x::a==y::b)=(a==b):=by
 subst h;rw [Bool.eq_iff_iff];simp
theorem acV {x y:aK} (h:(!((x.Device==y.Device)&&((x.Use.bW==y.Use.bW)&&((x.Use.Function==y.Use.Function)&&true))))=false):x=y:=by
 obtain ⟨d,g,f⟩:=x;obtain ⟨d',g',f'⟩:=y;simp at h;obtain ⟨h1,h2,h3⟩:=h;subst h1 h2 h3;rfl
def abu (a b:aG):Bool:=((((a.Setting==b.Setting)&&((a.Rails.On==b.Rails.On)&&(a.Rails.Level==b.Rails.Level)))&&(a.Uses==b.Uses))&&(a.Released==b.Released))&&(a.Powered==b.Powered)
theorem QH (a:aG):abu a a=true:=by
 unfold abu;simp
theorem Lh {a_:(List Int)} {b_:(List Int)} (h1:a_.length≤2000000):W (yL a_ b_) (fun r=>r=(a_==b_)):=by
 unfold yL;refine wi (fun c1=>?_) (fun c1=>?_)
 ·refine ah ?_;(exact (xI c1).symm)
 ·refine bA (fun (g1:Int)=>0≤g1∧g1≤a_.length∧(a_==b_)=(a_.drop g1.toNat==b_.drop g1.toNat)) (fun (g1:Int)=>(a_.length - g1).toNat) ?_ ?_
  ·intro self1 g1 hig1 ihg1;obtain ⟨hg1_1,hg1_2,hg1_3⟩:=hig1;unfold JA;refine wi (fun c2=>?_) (fun c2=>?_)
   ·rw [drop_cons 0 (show g1.toNat<a_.length by omega),drop_cons 0 (show g1.toNat<b_.length by omega)] at hg1_3;refine wm ?_;refine wi (fun c3=>?_) (fun c3=>?_)
    ·refine ah ?_;(rw [hg1_3,Ph c3])
    ·refine wn ?_;refine ihg1 _ ?_ ?_
     ·(refine ⟨ob,ob,?_⟩; rw [hg1_3,Pj c3,show (g1+1).toNat=g1.toNat+1 by omega])
     ·exact ob
   ·refine ah ?_;(rw [hg1_3,List.drop_eq_nil_of_le om,List.drop_eq_nil_of_le om]; rfl)
  ·(refine ⟨ob,ob,rfl⟩)
theorem Aw {a_:(List Bool)} {b_:(List Bool)} (h1:a_.length≤2000000):W (qp a_ b_) (fun r=>r=(a_==b_)):=by
 unfold qp;refine wi (fun c1=>?_) (fun c1=>?_)
 ·refine ah ?_;(exact (xI c1).symm)
 ·refine bA (fun (g1:Int)=>0≤g1∧g1≤a_.length∧(a_==b_)=(a_.drop g1.toNat==b_.drop g1.toNat)) (fun (g1:Int)=>(a_.length - g1).toNat) ?_ ?_
  ·intro self1 g1 hig1 ihg1;obtain ⟨hg1_1,hg1_2,hg1_3⟩:=hig1;unfold Gr;refine wi (fun c2=>?_) (fun c2=>?_)
   ·rw [drop_cons false (show g1.toNat<a_.length by omega),drop_cons false (show g1.toNat<b_.length by omega)] at hg1_3;refine wm ?_;refine bP (fun c3=>?_) (fun c3=>?_)
    ·have c3o:=c3;have c3:=nr c3;refine ah ?_;(rw [hg1_3,Ph (by simpa using c3o)])
    ·have c3o:=c3;have c3:=nr c3;refine wn ?_;refine ihg1 _ ?_ ?_
     ·(refine ⟨ob,ob,?_⟩; rw [hg1_3,Pj (by simpa using c3o),show (g1+1).toNat=g1.toNat+1 by omega])
     ·exact ob
   ·refine ah ?_;(rw [hg1_3,List.drop_eq_nil_of_le om,List.drop_eq_nil_of_le om]; rfl)
  ·(refine ⟨ob,ob,rfl⟩)
theorem Li {a_:bf} {b_:bf} (h1:a_.On.length≤2000000) (h2:a_.Level.length≤2000000):W (pF a_ b_) (fun r=>r=((a_.On==b_.On)&&(a_.Level==b_.Level))):=by
 unfold pF;refine av (Aw ob) fun v1 hv1=>?_;subst v1;refine av (eD fun hc=>jm (Lh ob)) fun v2 hv2=>?_;subst v2;refine ah ?_;rfl
theorem Ot {a_:(List aK)} {b_:(List aK)} (h1:a_.length≤2000000):W (uf a_ b_) (fun r=>r=(a_==b_)):=by
 unfold uf;refine wi (fun c1=>?_) (fun c1=>?_)
 ·refine ah ?_;(exact (xI c1).symm)
 ·refine bA (fun (g1:Int)=>0≤g1∧g1≤a_.length∧(a_==b_)=(a_.drop g1.toNat==b_.drop g1.toNat)) (fun (g1:Int)=>(a_.length - g1).toNat) ?_ ?_
  ·intro self1 g1 hig1 ihg1;obtain ⟨hg1_1,hg1_2,hg1_3⟩:=hig1;unfold BI;refine wi (fun c2=>?_) (fun c2=>?_)
   ·rw [drop_cons bq (show g1.toNat<a_.length by omega),drop_cons bq (show g1.toNat<b_.length by omega)] at hg1_3;refine wm ?_;refine bP (fun c3=>?_) (fun c3=>?_)
    ·have c3o:=c3;have c3:=nr c3;refine ah ?_;(rw [hg1_3,Ph (fun e=>by rw [e] at c3o; simp at c3o)])
    ·have c3o:=c3;have c3:=nr c3;refine wn ?_;refine ihg1 _ ?_ ?_
     ·(refine ⟨ob,ob,?_⟩; rw [hg1_3,Pj (acV c3o),show (g1+1).toNat=g1.toNat+1 by omega])
     ·exact ob
   ·refine ah ?_;(rw [hg1_3,List.drop_eq_nil_of_le om,List.drop_eq_nil_of_le om]; rfl)
  ·(refine ⟨ob,ob,rfl⟩)
theorem Lj {a_:aG} {b_:aG} (h1:oF a_):W (yM a_ b_) (fun r=>r=abu a_ b_):=by
 obtain ⟨z1,z2,z3,z4,z5,z6⟩:=h1;unfold yM;refine av (Lh ob) fun v1 hv1=>?_;subst v1;refine av (eD fun hc=>jm (Li ob ob)) fun v2 hv2=>?_;subst v2;refine av (eD fun hc=>jm (Ot ob)) fun v3 hv3=>?_;subst v3;refine av (eD fun hc=>jm (Aw ob)) fun v4 hv4=>?_;subst v4;refine av (eD fun hc=>jm (Aw ob)) fun v5 hv5=>?_;subst v5;refine ah ?_;rfl
theorem Ul {g_:aG} (h1:oF g_):W (Dc g_) (fun r=>r=(g_.Setting,g_.Rails.On,g_.Rails.Level,g_.Uses,g_.Released,g_.Powered)):=by
 obtain ⟨z1,z2,z3,z4,z5,z6⟩:=h1;unfold Dc;refine wm ?_;refine wm ?_;refine wm ?_;refine ah ?_;rfl
end Go.Proofs.YtfblhejmclcdmaaGreatDoor

namespace Go.Proofs.YtfblhejmclcdmaaGreatDoor
open Go.Ab
set_option maxRecDepth 100000
theorem Dp {s_:ByteArray}:W (lN s_) (fun r=>True):=by
 unfold lN;refine aZ (by (intro hc; simp only [Bool.or_eq_false_iff,beq_eq_false_iff_ne] at hc; omega)) ?_;refine aZ (by (intro hc; simp only [Bool.or_eq_false_iff,beq_eq_false_iff_ne] at hc; omega)) ?_;refine bP (fun c1=>?_) (fun c1=>?_)
 ·have c1o:=c1;have c1:=nr c1;exact ah trivial
 ·have c1o:=c1;have c1:=nr c1;have hsz:s_.size≤16:=(by simp only [Bool.or_eq_false_iff] at c1o; have:=of_decide_eq_false c1o.1.1.2; omega);refine bA (fun (g1:Int)=>0≤g1) (fun (g1:Int)=>(s_.size - g1).toNat) ?_ ?_
  ·intro self1 g1 hig1 ihg1;unfold Ap;refine wi (fun c2=>?_) (fun c2=>?_)
   ·refine wm ?_;refine wm ?_;refine wn ?_;refine wi (fun c3=>?_) (fun c3=>?_)
    ·exact ah trivial
    ·refine wn ?_;refine ihg1 _ ?_ ?_
     ·exact ob
     ·exact ob
   ·exact ah trivial
  ·exact ob
theorem RN {p_:bg} {i_:Int} (h1:0≤i_) (h2:i_<p_.Groups.length) (h3:p_.Groups.length≤2000000) (h4:∀g∈p_.Groups,g.bn.length≤2000000∧g.Functions.length≤2000000):W (qm p_ i_) (fun r=>r=0→acU p_.bn (p_.Groups.getD i_.toNat ay)):=by
 have hgl:=h4 _ (getD_in (i:=i_.toNat) ay om);unfold qm;refine wn ?_;refine av (Dp) fun v1 hv1=>?_;refine wi (fun c1=>?_) (fun c1=>?_)
 ·refine ah ?_;exact ob
 ·refine bA (fun (g1:Int)=>0≤g1) (fun (g1:Int)=>(i_ - g1).toNat) ?_ ?_
  ·intro self1 g1 hig1 ihg1;unfold yF;refine wi (fun c2=>?_) (fun c2=>?_)
   ·refine wn ?_;refine wi (fun c3=>?_) (fun c3=>?_)
    ·refine ah ?_;exact ob
    ·refine wn ?_;refine ihg1 _ ?_ ?_
     ·exact ob
     ·exact ob
   ·refine wi (fun c4=>?_) (fun c4=>?_)
    ·refine ah ?_;exact ob
    ·refine wi (fun c5=>?_) (fun c5=>?_)
     ·refine ah ?_;exact ob
     ·refine bA (fun (g2:Int)=>0≤g2∧(∀j:Nat,(j:Int)<g2→0≤(p_.Groups.getD i_.toNat ay).bn.getD j 0∧(p_.Groups.getD i_.toNat ay).bn.getD j 0<p_.bn)) (fun (g2:Int)=>((p_.Groups.getD i_.toNat ay).bn.length - g2).toNat) ?_ ?_
      ·intro self2 g2 hig2 ihg2;obtain ⟨hg2_1,hg2_2⟩:=hig2;unfold vS;refine wi (fun c6=>?_) (fun c6=>?_)
       ·refine wm ?_;refine wi (fun c7=>?_) (fun c7=>?_)
        ·refine ah ?_;exact ob
        ·refine wn ?_;refine ihg2 _ ?_ ?_
         ·(refine ⟨ob,bY hg2_2 hg2_1 om⟩)
         ·exact ob
       ·refine bA (fun (g3:Int)=>1≤g3) (fun (g3:Int)=>((p_.Groups.getD i_.toNat ay).bn.length - g3).toNat) ?_ ?_
        ·intro self3 g3 hig3 ihg3;unfold vR;refine wi (fun c8=>?_) (fun c8=>?_)
         ·refine wm ?_;refine wn ?_;refine wi (fun c9=>?_) (fun c9=>?_)
          ·refine ah ?_;exact ob
          ·refine wn ?_;refine ihg3 _ ?_ ?_
           ·exact ob
           ·exact ob
         ·refine bA (fun (g4:Int)=>0≤g4) (fun (g4:Int)=>((p_.Groups.getD i_.toNat ay).Functions.length - g4).toNat) ?_ ?_
          ·intro self4 g4 hig4 ihg4;unfold vQ;refine wi (fun c10=>?_) (fun c10=>?_)
           ·refine wn ?_;refine av (Dp) fun v4 hv4=>?_;refine wi (fun c11=>?_) (fun c11=>?_)
            ·refine ah ?_;exact ob
            ·refine wn ?_;refine ihg4 _ ?_ ?_
             ·exact ob
             ·exact ob
           ·refine bA (fun (g5:Int)=>0≤g5) (fun (g5:Int)=>((p_.Groups.getD i_.toNat ay).Functions.length - g5).toNat) ?_ ?_
            ·intro self5 g5 hig5 ihg5;unfold vP;refine wi (fun c12=>?_) (fun c12=>?_)
             ·refine bA (fun (g8:Int)=>0≤g8) (fun (g8:Int)=>(g5 - g8).toNat) ?_ ?_
              ·intro self8 g8 hig8 ihg8;unfold vO;refine wi (fun c13=>?_) (fun c13=>?_)
               ·refine wm ?_;refine wi (fun c14=>?_) (fun c14=>?_)
                ·refine ah ?_;exact ob
                ·refine wn ?_;refine ihg8 _ ?_ ?_
                 ·exact ob
                 ·exact ob
               ·refine wn ?_;refine ihg5 _ ?_ ?_
                ·exact ob
                ·exact ob
              ·exact ob
             ·refine ah ?_;(intro _; exact ⟨om,om,jf 0 fun j hj=>hg2_2 j om⟩)
            ·exact ob
          ·exact ob
        ·exact ob
      ·(refine ⟨ob,fun j hj=>by (try dsimp only at hj); omega⟩)
  ·exact ob
theorem RO {p_:bg} (h1:∀g∈p_.Groups,g.bn.length≤2000000∧g.Functions.length≤2000000):W (lg p_) (fun r=>r=0→VZ p_):=by
 unfold lg;refine wi (fun c1=>?_) (fun c1=>?_)
 ·refine ah ?_;exact ob
 ·refine wi (fun c2=>?_) (fun c2=>?_)
  ·refine ah ?_;exact ob
  ·refine bA (fun (g1:Int)=>0≤g1∧(∀j:Nat,(j:Int)<g1→acU p_.bn (p_.Groups.getD j ay))) (fun (g1:Int)=>(p_.Groups.length - g1).toNat) ?_ ?_
   ·intro self1 g1 hig1 ihg1;obtain ⟨hg1_1,hg1_2⟩:=hig1;unfold yG;refine wi (fun c3=>?_) (fun c3=>?_)
    ·refine av (RN om om om h1) fun v3 hv3=>?_;refine bP (fun c4=>?_) (fun c4=>?_)
     ·have c4o:=c4;have c4:=nr c4;refine ah ?_;(intro e; exact absurd e c4)
     ·have c4o:=c4;have c4:=nr c4;refine wn ?_;refine ihg1 _ ?_ ?_
      ·(refine ⟨ob,bY hg1_2 hg1_1 (hv3 (by simpa using c4o))⟩)
      ·exact ob
    ·refine ah ?_;(intro _; exact ⟨om,om,jf ay fun j hj=>hg1_2 j om⟩)
   ·(refine ⟨ob,fun j hj=>by (try dsimp only at hj); omega⟩)
theorem RP {p_:bg} {l_:(List ByteArray)} (h1:∀g∈p_.Groups,g.bn.length≤2000000∧g.Functions.length≤2000000) (h2:l_.length≤2000000):W (zT p_ l_) (fun r=>r=true→VZ p_∧l_.length≤10):=by
 unfold zT;refine av (RO h1) fun v1 hv1=>?_;refine bP (fun c1=>?_) (fun c1=>?_)
 ·have c1o:=c1;have c1:=nr c1;refine ah ?_;exact ob
 ·have c1o:=c1;have c1:=nr c1;have c1b:=c1o;simp only [Bool.or_eq_false_iff] at c1b;refine bA (fun (g1:Int)=>0≤g1) (fun (g1:Int)=>(l_.length - g1).toNat) ?_ ?_
  ·intro self1 g1 hig1 ihg1;unfold Gn;refine wi (fun c2=>?_) (fun c2=>?_)
   ·refine wn ?_;refine av (Dp) fun v4 hv4=>?_;refine wi (fun c3=>?_) (fun c3=>?_)
    ·refine ah ?_;exact ob
    ·refine wn ?_;refine ihg1 _ ?_ ?_
     ·exact ob
     ·exact ob
   ·refine ah ?_;(intro _; exact ⟨hv1 (by simpa using c1b.1),by have:=of_decide_eq_false c1b.2; omega⟩)
  ·exact ob
theorem Kk {g_:bG} {function_:ByteArray} (h1:g_.Functions.length≤2000000):W (BD g_ function_) (fun r => -1≤r∧r<g_.Functions.length):=by
 unfold BD;refine bA (fun (g1:Int)=>0≤g1) (fun (g1:Int)=>(g_.Functions.length - g1).toNat) ?_ ?_
 ·intro self1 g1 hig1 ihg1;unfold NW;refine wi (fun c1=>?_) (fun c1=>?_)
  ·refine wn ?_;refine wi (fun c2=>?_) (fun c2=>?_)
   ·refine ah ?_;exact ob
   ·refine wn ?_;refine ihg1 _ ?_ ?_
    ·exact ob
    ·exact ob
  ·refine ah ?_;exact ob
 ·exact ob
theorem RQ {a_:(List Int)} {b_:(List Int)} (h1:a_.length≤2000000) (h2:b_.length≤2000000):W (zU a_ b_) (fun r=>True):=by
 unfold zU;refine bA (fun (g1:(Int×Int))=>0≤g1.1∧0≤g1.2) (fun (g1:(Int×Int))=>(a_.length - g1.1).toNat+(b_.length - g1.2).toNat) ?_ ?_
 ·intro self1 g1 hig1 ihg1;obtain ⟨hg1_1,hg1_2⟩:=hig1;unfold Gp;refine wi (fun c1=>?_) (fun c1=>?_)
  ·refine wm ?_;refine wi (fun c2=>?_) (fun c2=>?_)
   ·exact ah trivial
   ·refine wm ?_;refine wi (fun c3=>?_) (fun c3=>?_)
    ·refine wn ?_;refine ihg1 _ ?_ ?_
     ·exact ob
     ·exact ob
    ·refine wn ?_;refine ihg1 _ ?_ ?_
     ·exact ob
     ·exact ob
  ·exact ah trivial
 ·exact ob
theorem Ll {p_:bg} {groups_:(List Int)} {g_:Int} (h1:∀g∈p_.Groups,g.bn.length≤2000000∧g.Functions.length≤2000000) (h2:groups_.length≤2000000) (h3:∀x∈groups_,x<p_.Groups.length) (h4:0≤g_) (h5:g_<p_.Groups.length):W (yH p_ groups_ g_) (fun r=>True):=by
 have hgl:=h1 _ (getD_in (i:=g_.toNat) ay om);unfold yH;refine bA (fun (g1:Int)=>0≤g1) (fun (g1:Int)=>(groups_.length - g1).toNat) ?_ ?_
 ·intro self1 g1 hig1 ihg1;unfold Jy;refine wi (fun c1=>?_) (fun c1=>?_)
  ·have hx:=h3 _ (getD_in (i:=g1.toNat) 0 om);refine wm ?_;refine wm ?_;refine av (Bj fun hc=>RQ (by have hc:=of_decide_eq_true hc; have:=h1 _ (getD_in (i:=(groups_.getD g1.toNat 0).toNat) ay om); omega) om) fun v3 hv3=>?_;refine wi (fun c2=>?_) (fun c2=>?_)
   ·exact ah trivial
   ·refine wn ?_;refine ihg1 _ ?_ ?_
    ·exact ob
    ·exact ob
  ·exact ah trivial
 ·exact ob
theorem Um {p_:bg} {l_:(List ByteArray)} {groups_:(List Int)} (h1:∀g∈p_.Groups,g.bn.length≤2000000∧g.Functions.length≤2000000) (h2:l_.length≤2000000) (h3:p_.Groups.length≤2000000):W (Da p_ l_ groups_) (fun r=>r=true→groups_.length≤l_.length∧∀x∈groups_,0≤x∧x<p_.Groups.length):=by
 unfold Da;refine wi (fun c1=>?_) (fun c1=>?_)
 ·refine ah ?_;exact ob
 ·refine bA (fun (g1:Int)=>0≤g1∧(∀j:Nat,(j:Int)<g1→0≤groups_.getD j 0∧groups_.getD j 0<p_.Groups.length)) (fun (g1:Int)=>(groups_.length - g1).toNat) ?_ ?_
  ·intro self1 g1 hig1 ihg1;obtain ⟨hg1_1,hg1_2⟩:=hig1;unfold Jz;refine wi (fun c2=>?_) (fun c2=>?_)
   ·refine wm ?_;refine wn ?_;refine av (Bj fun hc=>Kk (by simp only [Bool.or_eq_false_iff,decide_eq_false_iff_not] at hc; have:=h1 _ (getD_in (i:=(groups_.getD g1.toNat 0).toNat) ay om); omega)) fun v5 hv5=>?_;refine wn ?_;refine av (Bj fun hc=>Ll h1 (by rw [List.length_take]; omega) (jf 0 fun j hj=>(by rw [List.length_take] at hj; rw [nT _ _ _ _ om]; exact (hg1_2 j om).2)) (by simp only [Bool.or_eq_false_iff,decide_eq_false_iff_not] at hc; omega) (by simp only [Bool.or_eq_false_iff,decide_eq_false_iff_not] at hc; omega)) fun v6 hv6=>?_;refine bP (fun c3=>?_) (fun c3=>?_)
    ·have c3o:=c3;have c3:=nr c3;refine ah ?_;exact ob
    ·have c3o:=c3;have c3:=nr c3;refine wn ?_;refine ihg1 _ ?_ ?_
     ·(refine ⟨ob,bY hg1_2 hg1_1 (by simp only [Bool.or_eq_false_iff,decide_eq_false_iff_not] at c3o; omega)⟩)
     ·exact ob
   ·refine ah ?_;(intro _; exact ⟨om,jf 0 fun j hj=>hg1_2 j om⟩)
  ·(refine ⟨ob,fun j hj=>by (try dsimp only at hj); omega⟩)
theorem V4 {p_:bg} {l_:(List ByteArray)} {given_:(List Int)} (h1:∀g∈p_.Groups,g.bn.length≤2000000∧g.Functions.length≤2000000) (h2:l_.length≤2000000) (h3:p_.Groups.length≤2000000):W (Ir p_ l_ given_) (fun r=>r=0→VZ p_∧l_.length≤10∧given_.length≤l_.length∧∀x∈given_,0≤x∧x<p_.Groups.length):=by
 unfold Ir;refine av (RP h1 h2) fun v1 hv1=>?_;refine bP (fun c1=>?_) (fun c1=>?_)
 ·have c1o:=c1;have c1:=nr c1;refine ah ?_;exact ob
 ·have c1o:=c1;have c1:=nr c1;refine av (Um h1 h2 h3) fun v2 hv2=>?_;refine bP (fun c2=>?_) (fun c2=>?_)
  ·have c2o:=c2;have c2:=nr c2;refine ah ?_;exact ob
  ·have c2o:=c2;have c2:=nr c2;refine ah ?_;(intro _; have q1:=hv1 (by simpa using c1o); have q2:=hv2 (by simpa using c2o); exact ⟨q1.1,q1.2,q2.1,q2.2⟩)
theorem QJ {p_:bg} {function_:ByteArray} (h1:∀g∈p_.Groups,g.bn.length≤2000000∧g.Functions.length≤2000000) (h2:p_.Groups.length≤2000000):W (xk p_ function_) (fun r=>r.length≤p_.Groups.length∧∀x∈r,0≤x∧x<p_.Groups.length):=by
 unfold xk;refine bA (fun (g1:(Int×(List Int)))=>0≤g1.1∧g1.1≤p_.Groups.length∧(g1.2.length:Int)≤g1.1∧(∀x∈g1.2,0≤x∧x<p_.Groups.length)) (fun (g1:(Int×(List Int)))=>(p_.Groups.length - g1.1).toNat) ?_ ?_
 ·intro self1 g1 hig1 ihg1;obtain ⟨hg1_1,hg1_2,hg1_3,hg1_4⟩:=hig1;unfold Em;refine wi (fun c1=>?_) (fun c1=>?_)
  ·have hgl:=h1 _ (getD_in (i:=g1.1.toNat) ay om);refine wn ?_;refine av (Kk ob) fun v3 hv3=>?_;obtain ⟨hv3_1,hv3_2⟩:=hv3;refine wi (fun c2=>?_) (fun c2=>?_)
   ·refine wm ?_;refine ihg1 _ ?_ ?_
    ·exact ob
    ·exact ob
   ·refine wn ?_;refine ihg1 _ ?_ ?_
    ·exact ob
    ·exact ob
  ·refine ah ?_;(refine ⟨om,hg1_4⟩)
 ·exact ob
theorem QK {p_:bg} {l_:List ByteArray} {groups_:List Int} (h1:∀g∈p_.Groups,g.bn.length≤2000000∧g.Functions.length≤2000000) (h2:p_.Groups.length≤2000000) (h3:l_.length≤2000000) (h4:groups_.length≤l_.length) (h5:∀x∈groups_,0≤x∧x<p_.Groups.length):W (xq p_ l_ groups_) (fun r=>r.2=true→r.1.length=l_.length∧∀x∈r.1,0≤x∧x<p_.Groups.length):=by
 unfold xq;refine bA (fun s:bg×List ByteArray×List Int=>s.1=p_∧s.2.1=l_∧s.2.2.length≤l_.length∧∀x∈s.2.2,0≤x∧x<p_.Groups.length) (fun s=>l_.length - s.2.2.length) ?_ ⟨rfl,rfl,h4,h5⟩;rintro self ⟨p,l,gs⟩ ⟨e1,e2,e3,e4⟩ ih;dsimp only at e1 e2 e3 e4;subst p l;unfold kS;refine wi (fun c1=>?_) (fun c1=>?_)
 ·refine aZ ob (ah ?_);intro _;exact ⟨by dsimp only at c1 ⊢; omega,e4⟩
 ·refine aZ (by dsimp only at c1 ⊢; omega) ?_;refine av (QJ h1 h2) fun v1 hv1=>?_;obtain ⟨k1,k2⟩:=hv1;refine bA (fun g:Int=>0≤g) (fun g:Int=>(v1.length - g).toNat) ?_ (Int.le_refl _);intro self1 g1 hg1 ih1;unfold En;refine bP (fun c2=>?_) (fun c2=>?_)
  ·have c2:=nr c2;have hx:=k2 _ (getD_in (i:=g1.toNat) 0 om);refine wn ?_;refine av (Ll h1 (by dsimp only; omega) (fun x hx=>(e4 x hx).2) hx.1 hx.2) fun v6 _=>?_;refine bP (fun c3=>?_) (fun c3=>?_)
   ·refine aZ ob (ih1 _ om om)
   ·refine aZ ob (aZ ob (aZ ob ?_));refine av (ih _ ⟨rfl,rfl,by (simp only [List.length_append,List.length_singleton]; omega),?_⟩ (by (simp only [List.length_append,List.length_singleton]; omega))) fun v7 hv7=>?_
    ·intro x hm;rcases List.mem_append.1 hm with hm | hm
     ·exact e4 x hm
     ·rw [List.mem_singleton] at hm; rw [hm]; exact hx
    ·refine bP (fun c4=>ah fun _=>hv7 c4) (fun c4=>aZ ob (ih1 _ om om))
  ·exact ah nofun
theorem QM {p_:bg} {l_:(List ByteArray)} {given_:(List Int)} (h1:∀g∈p_.Groups,g.bn.length≤2000000∧g.Functions.length≤2000000) (h2:l_.length≤2000000) (h3:p_.Groups.length≤2000000):W (xu p_ l_ given_) (fun r=>r.2=0→r.1.length=l_.length∧∀x∈r.1,0≤x∧x<p_.Groups.length):=by
 unfold xu;refine av (V4 h1 h2 h3) fun v1 hv1=>?_;refine bP (fun c1=>?_) (fun c1=>?_)
 ·have c1o:=c1;have c1:=nr c1;refine ah ?_;(intro e; exact absurd e c1)
 ·have c1o:=c1;have c1:=nr c1;obtain ⟨q1,q2,q3,q4⟩:=hv1 (by simpa using c1o);refine av (QK h1 h3 h2 q3 q4) fun v2 hv2=>?_;refine bP (fun c2=>?_) (fun c2=>?_)
  ·have c2o:=c2;have c2:=nr c2;refine ah ?_;exact ob
  ·have c2o:=c2;have c2:=nr c2;refine ah ?_;(intro _; exact hv2 (by simpa using c2o))
theorem RS {l_:(List cK)} (h1:∀g∈l_,g.After.length≤2000000):W (lq l_) (fun r=>r=0→abo l_):=by
 unfold lq;refine wi (fun c1=>?_) (fun c1=>?_)
 ·refine ah ?_;exact ob
 ·refine bA (fun (g1:Int)=>0≤g1∧(∀j:Nat,(j:Int)<g1→∀x∈(l_.getD j dReset).After,0≤x∧x<(j:Int))) (fun (g1:Int)=>(l_.length - g1).toNat) ?_ ?_
  ·intro self1 g1 hig1 ihg1;obtain ⟨hg1_1,hg1_2⟩:=hig1;unfold yJ;refine wi (fun c2=>?_) (fun c2=>?_)
   ·have hgl:=h1 _ (getD_in (i:=g1.toNat) dReset om);refine bA (fun (g6:Int)=>0≤g6∧(∀j:Nat,(j:Int)<g6→0≤(l_.getD g1.toNat dReset).After.getD j 0∧(l_.getD g1.toNat dReset).After.getD j 0<g1)) (fun (g6:Int)=>((l_.getD g1.toNat dReset).After.length - g6).toNat) ?_ ?_
    ·intro self6 g6 hig6 ihg6;obtain ⟨hg6_1,hg6_2⟩:=hig6;unfold yI;refine wn ?_;refine wi (fun c3=>?_) (fun c3=>?_)
     ·refine wm ?_;refine wm ?_;refine wi (fun c4=>?_) (fun c4=>?_)
      ·refine ah ?_;exact ob
      ·refine wn ?_;refine ihg6 _ ?_ ?_
       ·(refine ⟨ob,bY hg6_2 hg6_1 om⟩)
       ·exact ob
     ·refine bA (fun (g7:Int)=>1≤g7) (fun (g7:Int)=>((l_.getD g1.toNat dReset).After.length - g7).toNat) ?_ ?_
      ·intro self7 g7 hig7 ihg7;unfold vT;refine wn ?_;refine wi (fun c5=>?_) (fun c5=>?_)
       ·refine wm ?_;refine wm ?_;refine wn ?_;refine wi (fun c6=>?_) (fun c6=>?_)
        ·refine ah ?_;exact ob
        ·refine wn ?_;refine ihg7 _ ?_ ?_
         ·exact ob
         ·exact ob
       ·refine wn ?_;refine ihg1 _ ?_ ?_
        ·(refine ⟨ob,bY hg1_2 hg1_1 (jf 0 fun j hj=>by have:=hg6_2 j om; omega)⟩)
        ·exact ob
      ·exact ob
    ·(refine ⟨ob,fun j hj=>by (try dsimp only at hj); omega⟩)
   ·refine ah ?_;(intro _; exact ⟨om,fun i hi=>hg1_2 i om⟩)
  ·(refine ⟨ob,fun j hj=>by (try dsimp only at hj); omega⟩)
theorem QN {l_:(List cK)} {lines_:(List Int)} (h1:∀g∈l_,g.After.length≤2000000) (h2:lines_.length≤2000000):W (xw l_ lines_) (fun r=>r.2=0→r.1.length=l_.length):=by
 unfold xw;refine av (RS h1) fun v1 hv1=>?_;refine bP (fun c1=>?_) (fun c1=>?_)
 ·have c1o:=c1;have c1:=nr c1;refine ah ?_;exact ob
 ·have c1o:=c1;have c1:=nr c1;obtain ⟨p1,p2⟩:=hv1 (by simpa using c1o);refine wn ?_;refine bA (fun (g1:(Int×(List Bool)))=>0≤g1.1∧g1.2.length=l_.length) (fun (g1:(Int×(List Bool)))=>(lines_.length - g1.1).toNat) ?_ ?_
  ·intro self1 g1 hig1 ihg1;obtain ⟨hg1_1,hg1_2⟩:=hig1;unfold Eo;refine wi (fun c2=>?_) (fun c2=>?_)
   ·refine wm ?_;refine wi (fun c3=>?_) (fun c3=>?_)
    ·refine ah ?_;exact ob
    ·refine wm ?_;refine wn ?_;refine ihg1 _ ?_ ?_
     ·exact ob
     ·exact ob
   ·refine wn ?_;refine bA (fun (g2:(Int×(List Bool))) => -1≤g2.1∧g2.1<l_.length∧g2.2.length=l_.length) (fun (g2:(Int×(List Bool)))=>(g2.1+1).toNat) ?_ ?_
    ·intro self2 g2 hig2 ihg2;obtain ⟨hg2_1,hg2_2,hg2_3⟩:=hig2;unfold BG;refine wi (fun c4=>?_) (fun c4=>?_)
     ·have hgl:=h1 _ (getD_in (i:=g2.1.toNat) dReset om);refine bA (fun (g5:(Int×(List Bool)))=>0≤g5.1∧g5.2.length=l_.length) (fun (g5:(Int×(List Bool)))=>((l_.getD g2.1.toNat dReset).After.length - g5.1).toNat) ?_ ?_
      ·intro self5 g5 hig5 ihg5;obtain ⟨hg5_1,hg5_2⟩:=hig5;unfold BF;refine wm ?_;refine bP (fun c5=>?_) (fun c5=>?_)
       ·have c5o:=c5;have c5:=nr c5;simp only [Bool.and_eq_true,decide_eq_true_eq] at c5o;have hx:=p2 g2.1.toNat om _ (getD_in (i:=g5.1.toNat) 0 om);refine wm ?_;refine wm ?_;refine ihg5 _ ?_ ?_
        ·exact ob
        ·exact ob
       ·have c5o:=c5;have c5:=nr c5;refine wn ?_;refine ihg2 _ ?_ ?_
        ·exact ob
        ·exact ob
      ·exact ob
     ·refine ah ?_;exact ob
    ·exact ob
  ·(refine ⟨ob,by simp⟩)
theorem RU {l_:(List bT)}:W (lu l_) (fun r=>r=0→Zp l_):=by
 unfold lu;refine wi (fun c1=>?_) (fun c1=>?_)
 ·refine ah ?_;exact ob
 ·refine bA (fun (g1:Int)=>0≤g1∧(∀j:Nat,(j:Int)<g1 → -1≤(l_.getD j dI).Parent∧(l_.getD j dI).Parent<(j:Int))) (fun (g1:Int)=>(l_.length - g1).toNat) ?_ ?_
  ·intro self1 g1 hig1 ihg1;obtain ⟨hg1_1,hg1_2⟩:=hig1;unfold yK;refine wi (fun c2=>?_) (fun c2=>?_)
   ·refine wm ?_;refine wi (fun c3=>?_) (fun c3=>?_)
    ·refine ah ?_;exact ob
    ·refine wn ?_;refine ihg1 _ ?_ ?_
     ·(refine ⟨ob,bY hg1_2 hg1_1 om⟩)
     ·exact ob
   ·refine ah ?_;(intro _; exact ⟨om,fun i hi=>hg1_2 i om⟩)
  ·(refine ⟨ob,fun j hj=>by (try dsimp only at hj); omega⟩)
theorem V5 {l_:(List bT)} {users_:(List Int)} (h1:users_.length≤2000000):W (Iu l_ users_) (fun r=>r=0→Zp l_∧∀x∈users_,0≤x∧x<l_.length):=by
 unfold Iu;refine av (RU) fun v1 hv1=>?_;refine bP (fun c1=>?_) (fun c1=>?_)
 ·have c1o:=c1;have c1:=nr c1;refine ah ?_;exact ob
 ·have c1o:=c1;have c1:=nr c1;refine bA (fun (g1:Int)=>0≤g1∧(∀j:Nat,(j:Int)<g1→0≤users_.getD j 0∧users_.getD j 0<l_.length)) (fun (g1:Int)=>(users_.length - g1).toNat) ?_ ?_
  ·intro self1 g1 hig1 ihg1;obtain ⟨hg1_1,hg1_2⟩:=hig1;unfold KX;refine wi (fun c2=>?_) (fun c2=>?_)
   ·refine wm ?_;refine wi (fun c3=>?_) (fun c3=>?_)
    ·refine ah ?_;exact ob
    ·refine wn ?_;refine ihg1 _ ?_ ?_
     ·(refine ⟨ob,bY hg1_2 hg1_1 om⟩)
     ·exact ob
   ·refine ah ?_;(intro _; exact ⟨hv1 (by simpa using c1o),jf 0 fun j hj=>hg1_2 j om⟩)
  ·(refine ⟨ob,fun j hj=>by (try dsimp only at hj); omega⟩)
theorem XD {l_:(List bT)} {users_:(List Int)} (h1:users_.length≤2000000):W (KZ l_ users_) (fun r=>r.2=0→r.1.length=l_.length):=by
 unfold KZ;refine av (V5 ob) fun v1 hv1=>?_;refine bP (fun c1=>?_) (fun c1=>?_)
 ·have c1o:=c1;have c1:=nr c1;refine ah ?_;(intro e; exact absurd e c1)
 ·have c1o:=c1;have c1:=nr c1;obtain ⟨⟨p1,p2⟩,p3⟩:=hv1 (by simpa using c1o);refine wn ?_;refine bA (fun (g1:(Int×(List Bool)))=>0≤g1.1∧g1.2.length=l_.length) (fun (g1:(Int×(List Bool)))=>(users_.length - g1.1).toNat) ?_ ?_
  ·intro self1 g1 hig1 ihg1;obtain ⟨hg1_1,hg1_2⟩:=hig1;unfold NY;refine wi (fun c2=>?_) (fun c2=>?_)
   ·have hx:=p3 _ (getD_in (i:=g1.1.toNat) 0 om);refine wm ?_;refine wn ?_;refine ihg1 _ ?_ ?_
    ·exact ob
    ·exact ob
   ·refine wn ?_;refine bA (fun (g2:(Int×(List Bool))) => -1≤g2.1∧g2.1<l_.length∧g2.2.length=l_.length) (fun (g2:(Int×(List Bool)))=>(g2.1+1).toNat) ?_ ?_
    ·intro self2 g2 hig2 ihg2;obtain ⟨hg2_1,hg2_2,hg2_3⟩:=hig2;unfold KY;refine wi (fun c3=>?_) (fun c3=>?_)
     ·have hp:=p2 g2.1.toNat om;refine wm ?_;refine wn ?_;unfold Db;refine wm ?_;refine wi (fun c4=>?_) (fun c4=>?_)
      ·refine wm ?_;refine wn ?_;refine ihg2 _ ?_ ?_
       ·exact ob
       ·exact ob
      ·refine wn ?_;refine ihg2 _ ?_ ?_
       ·exact ob
       ·exact ob
     ·refine ah ?_;exact ob
    ·exact ob
  ·(refine ⟨ob,by simp⟩)
end Go.Proofs.YtfblhejmclcdmaaGreatDoor

namespace Go.Proofs.YtfblhejmclcdmaaGreatDoor.Sp
open Go.Ab
set_option maxRecDepth 100000
theorem abv {l:List au} {d:List bB} (h:((cZ l != 0)||decide (32<(d.length:Int)))=true):mE l d=false:=by
 unfold mE;by_cases h1:cZ l=0
 ·rw [h1] at h;have:32<(d.length:Int):=by simpa using h
  rw [decide_eq_false (p:=(d.length:Int)≤32) om];simp
 ·have:(cZ l==0)=false:=by simpa using h1
  rw [this];rfl
theorem Zr {l:List au} {d:List bB} (h:((cZ l != 0)||decide (32<(d.length:Int)))=false):mE l d=!(d.any (RI l.length)):=by
 have h1:cZ l=0∧(d.length:Int)≤32:=by
  simp at h;omega
 unfold mE;rw [h1.1,decide_eq_true h1.2];rfl
theorem acW {b:List Bool} {d:List bB} {i j:Nat} {a:Bool} {g:Int} (hi:i<b.length) (hj:j<d.length) (hg:g=(i:Int)):(b.set i (b.getD i false||a||atD (d.take j) i)).set i ((b.set i (b.getD i false||a||atD (d.take j) i)).getD i false||((d.getD j bX).bQ==g))=b.set i (b.getD i false||a||atD (d.take (j+1)) i):=by
 subst hg;have hsn:atD (d.take (j+1)) i=(atD (d.take j) i||((d.getD j bX).bQ==(i:Int))):=by
  unfold atD;rw [fH bX hj,List.any_append];simp
 rw [fB,if_pos ⟨rfl,hi⟩,List.set_set,hsn];simp only [Bool.or_assoc]
theorem lU {x_:Int} {lo_:Int} {hi_:Int}:W (l7 x_ lo_ hi_) (fun r=>r=withinF x_ lo_ hi_):=by
 unfold l7;refine ah ?_;rfl
theorem uo {l_:(List au)} (h1:l_.length≤2000000):W (nC l_) (fun r=>r=cZ l_):=by
 unfold nC;refine bP (fun c1=>?_) (fun c1=>?_)
 ·have c1o:=c1;have c1:=nr c1;refine ah ?_;(unfold cZ; rw [c1o]; rfl)
 ·have c1o:=c1;have c1:=nr c1;refine bA (fun (g1:Int)=>0≤g1∧g1≤l_.length∧(∀j:Nat,(j:Int)<g1→bigS (l_.getD j aj)=false)) (fun (g1:Int)=>(l_.length - g1).toNat) ?_ ?_
  ·intro self1 g1 hig1 ihg1;obtain ⟨hg1_1,hg1_2,hg1_3⟩:=hig1;unfold Gf;refine wi (fun c2=>?_) (fun c2=>?_)
   ·refine wn ?_;refine bP (fun c3=>?_) (fun c3=>?_)
    ·have c3o:=c3;have c3:=nr c3;refine ah ?_;(unfold cZ; rw [rA (p:=bigS) aj (show g1.toNat<l_.length by omega) (show bigS _=true from c3o),Bool.or_true]; rfl)
    ·have c3o:=c3;have c3:=nr c3;refine wn ?_;refine ihg1 _ ?_ ?_
     ·(refine ⟨ob,ob,bY hg1_3 hg1_1 c3o⟩)
     ·exact ob
   ·have hbig:=any_none (p:=bigS) aj (fun j hj=>hg1_3 j om);have hb3:(decide (16<(l_.length:Int))||l_.any bigS)=false:=(by rw [c1o,hbig]; rfl);refine bA (fun (g2:Int)=>0≤g2∧g2≤l_.length∧MN g2.toNat (l_.drop g2.toNat)=MN 0 l_) (fun (g2:Int)=>(l_.length - g2).toNat) ?_ ?_
    ·intro self2 g2 hig2 ihg2;obtain ⟨hg2_1,hg2_2,hg2_3⟩:=hig2;unfold Ei;obtain ⟨i,rfl⟩:=Int.eq_ofNat_of_zero_le hg2_1;refine wi (fun c4=>?_) (fun c4=>?_)
     ·have hlt:i<l_.length:=om;have hb:=hg1_3 i om;have hbl:(l_.getD i aj).bK.length≤16:=(by unfold bigS at hb; have:=of_decide_eq_false hb; omega);rw [show ((i:Int).toNat)=i from rfl,drop_cons aj hlt,MN] at hg2_3;simp only [Int.toNat_natCast] at *;refine wm ?_;refine av (lU) fun v13 hv13=>?_;subst v13;refine av (eD fun hc=>jm (lU)) fun v14 hv14=>?_;subst v14;refine av (eD fun hc=>jm (lU)) fun v15 hv15=>?_;subst v15;refine bP (fun c5=>?_) (fun c5=>?_)
      ·have c5o:=c5;have c5:=nr c5;rw [Yn] at c5o;refine ah ?_;(unfold cZ; rw [hb3,← hg2_3]; unfold validS; rw [show headB (l_.getD i aj) i=true from c5o]; rfl)
      ·have c5o:=c5;have c5:=nr c5;rw [Yn] at c5o;refine bA (fun (g5:Int)=>0≤g5∧g5≤(l_.getD i aj).bK.length∧ML (if g5.toNat=0 then 0 else (l_.getD i aj).bK.getD (g5.toNat - 1) 0) ((l_.getD i aj).bK.drop g5.toNat)=ML 0 (l_.getD i aj).bK) (fun (g5:Int)=>((l_.getD i aj).bK.length - g5).toNat) ?_ ?_
       ·intro self5 g5 hig5 ihg5;obtain ⟨hg5_1,hg5_2,hg5_3⟩:=hig5;unfold Eh;obtain ⟨k,rfl⟩:=Int.eq_ofNat_of_zero_le hg5_1;simp only [Int.toNat_natCast] at *;refine wi (fun c6=>?_) (fun c6=>?_)
        ·have hlk:k<(l_.getD i aj).bK.length:=om;have hst:=VO hlk rfl;rw [hst] at hg5_3;have e1:(((k:Int) - 1).toNat)=k - 1:=om;simp only [e1,Int.toNat_natCast] at *;refine wn ?_;refine av (lU) fun v18 hv18=>?_;subst v18;refine wm ?_;refine bP (fun c7=>?_) (fun c7=>?_)
         ·have c7o:=c7;have c7:=nr c7;refine ah ?_;(unfold cZ; rw [hb3,← hg2_3]; unfold validS; rw [show headB (l_.getD i aj) i=false from c5o,← hg5_3,c7o]; rfl)
         ·have c7o:=c7;have c7:=nr c7;refine wn ?_;refine ihg5 _ ?_ ?_
          ·(refine ⟨ob,ob,?_⟩; rw [← hg5_3,c7o]; rw [show ((k:Int)+1).toNat=k+1 by omega,if_neg om]; rfl)
          ·exact ob
        ·refine wn ?_;refine ihg2 _ ?_ ?_
         ·(refine ⟨ob,ob,?_⟩; rw [← hg2_3]; unfold validS; rw [show headB (l_.getD i aj) i=false from c5o,← hg5_3,show k=(l_.getD i aj).bK.length by omega,List.drop_length,show ((i:Int)+1).toNat=i+1 by omega]; rfl)
         ·exact ob
       ·(refine ⟨ob,ob,rfl⟩)
     ·refine ah ?_;(unfold cZ; rw [hb3,← hg2_3,show ((i:Int).toNat)=i from rfl,show i=l_.length by omega,List.drop_length]; rfl)
    ·(refine ⟨ob,ob,rfl⟩)
  ·(refine ⟨ob,ob,fun j hj=>by omega⟩)
theorem JK {l_:(List au)} {d_:(List bB)} (h1:l_.length≤2000000) (h2:d_.length≤2000000):W (uU l_ d_) (fun r=>r=mE l_ d_):=by
 unfold uU;refine av (uo ob) fun v1 hv1=>?_;subst v1;refine bP (fun c1=>?_) (fun c1=>?_)
 ·have c1o:=c1;have c1:=nr c1;refine ah ?_;(exact (abv c1o).symm)
 ·have c1o:=c1;have c1:=nr c1;have hdf:=Zr c1o;refine bA (fun (g1:Int)=>0≤g1∧g1≤d_.length∧(d_.drop g1.toNat).any (RI l_.length)=d_.any (RI l_.length)) (fun (g1:Int)=>(d_.length - g1).toNat) ?_ ?_
  ·intro self1 g1 hig1 ihg1;obtain ⟨hg1_1,hg1_2,hg1_3⟩:=hig1;unfold Gg;refine wi (fun c2=>?_) (fun c2=>?_)
   ·have hlt:g1.toNat<d_.length:=om;rw [drop_cons bX hlt,List.any_cons] at hg1_3;refine wm ?_;refine av (lU) fun v8 hv8=>?_;subst v8;refine av (eD fun hc=>jm (lU)) fun v9 hv9=>?_;subst v9;refine av (eD fun hc=>jm (lU)) fun v10 hv10=>?_;subst v10;refine bP (fun c3=>?_) (fun c3=>?_)
    ·have c3o:=c3;have c3:=nr c3;have hb:=(VP l_.length (d_.getD g1.toNat bX)).symm.trans c3o;refine ah ?_;(rw [hdf,← hg1_3,hb]; rfl)
    ·have c3o:=c3;have c3:=nr c3;have hb:=(VP l_.length (d_.getD g1.toNat bX)).symm.trans c3o;refine wn ?_;refine ihg1 _ ?_ ?_
     ·(refine ⟨ob,ob,?_⟩; rw [← hg1_3,hb,show (g1+1).toNat=g1.toNat+1 by omega]; rfl)
     ·exact ob
   ·refine ah ?_;(rw [hdf,← hg1_3,show g1.toNat=d_.length by omega,List.drop_length]; rfl)
  ·(refine ⟨ob,ob,rfl⟩)
theorem RV {l_:(List au)} {d_:(List bB)} (h1:l_.length≤2000000) (h2:d_.length≤2000000):W (zP l_ d_) (fun r=>r=beginF l_ d_):=by
 unfold zP;refine av (uo ob) fun v1 hv1=>?_;subst v1;refine bP (fun c1=>?_) (fun c1=>?_)
 ·have c1o:=c1;have c1:=nr c1;refine ah ?_;(unfold beginF; rw [c1o]; rfl)
 ·have c1o:=c1;have c1:=nr c1;refine av (JK ob ob) fun v2 hv2=>?_;subst v2;refine bP (fun c2=>?_) (fun c2=>?_)
  ·have c2o:=c2;have c2:=nr c2;refine ah ?_;(unfold beginF; rw [c1o,c2o]; rfl)
  ·have c2o:=c2;have c2:=nr c2;refine ah ?_;(unfold beginF; rw [c1o,c2o]; rfl)
theorem Lm {l_:(List au)} {d_:(List bB)} (h1:Zl l_ d_):W (yE l_ d_) (fun r=>r=jl l_ d_):=by
 have hv:=h1;obtain ⟨vl,vd,vs,_,vx⟩:=h1;unfold yE;refine wm ?_;refine bA (fun (g1:(Int×(List Bool))) => -1≤g1.1∧g1.1<l_.length∧JJ l_ d_ (l_.length - 1 - g1.1).toNat g1.2) (fun (g1:(Int×(List Bool)))=>(g1.1+1).toNat) ?_ ?_
 ·intro self1 g1 hig1 ihg1;obtain ⟨hg1_1,hg1_2,hg1_3⟩:=hig1;unfold Jw;have hbl:=hg1_3.len;refine wi (fun c1=>?_) (fun c1=>?_)
  ·have hst:=hg1_3.step hv (show (l_.length - 1 - g1.1).toNat<l_.length by omega);have hp:=vs g1.1.toNat om;rw [show l_.length - 1 - ((l_.length:Int) - 1 - g1.1).toNat=g1.1.toNat by omega,show ((l_.length:Int) - 1 - g1.1).toNat+1=((l_.length:Int) - 1 - (g1.1 - 1)).toNat by omega] at hst;refine wm ?_;refine wn ?_;refine bA (fun (g4:(Int×(List Bool)))=>0≤g4.1∧g4.1≤d_.length∧g4.2=g1.2.set g1.1.toNat (g1.2.getD g1.1.toNat false||(l_.getD g1.1.toNat aj).Always||atD (d_.take g4.1.toNat) g1.1.toNat)) (fun (g4:(Int×(List Bool)))=>(d_.length - g4.1).toNat) ?_ ?_
   ·intro self4 g4 hig4 ihg4;obtain ⟨hg4_1,hg4_2,hg4_3⟩:=hig4;unfold Jv;have hg4l:g4.2.length=l_.length:=(by rw [hg4_3,List.length_set,hbl]);refine wi (fun c2=>?_) (fun c2=>?_)
    ·refine wm ?_;refine wm ?_;refine ihg4 _ ?_ ?_
     ·(refine ⟨ob,ob,?_⟩; dsimp only; rw [show (g4.1+1).toNat=g4.1.toNat+1 by omega,hg4_3]; exact acW om om om)
     ·exact ob
    ·have hg4e:g4.2=g1.2.set g1.1.toNat (g1.2.getD g1.1.toNat false||(l_.getD g1.1.toNat aj).Always||atD d_ g1.1.toNat):=(by rw [hg4_3,show g4.1.toNat=d_.length by omega,List.take_length]);have hgi:g4.2.getD g1.1.toNat false=(g1.2.getD g1.1.toNat false||(l_.getD g1.1.toNat aj).Always||atD d_ g1.1.toNat):=(by rw [hg4e,fB,if_pos ⟨rfl,om⟩]);refine wm ?_;refine bP (fun c3=>?_) (fun c3=>?_)
     ·have c3o:=c3;have c3:=nr c3;have c3b:=c3o;rw [hgi] at c3b;refine wm ?_;refine ihg1 _ ?_ ?_
      ·(refine ⟨ob,ob,?_⟩; dsimp only; unfold Lf at hst; rw [c3b] at hst; rw [hg4e]; exact hst)
      ·exact ob
     ·have c3o:=c3;have c3:=nr c3;have c3b:=c3o;rw [hgi] at c3b;refine wn ?_;refine ihg1 _ ?_ ?_
      ·(refine ⟨ob,ob,?_⟩; dsimp only; unfold Lf at hst; rw [c3b] at hst; rw [hg4e]; exact hst)
      ·exact ob
   ·(refine ⟨ob,ob,?_⟩; dsimp only; rw [show (0:Int).toNat=0 from rfl,List.take_zero,show atD [] g1.1.toNat=false from rfl,Bool.or_false])
  ·refine ah ?_;(exact JJ.done (by rw [show l_.length=((l_.length:Int) - 1 - g1.1).toNat by omega]; exact hg1_3))
 ·(refine ⟨ob,ob,?_⟩; dsimp only; rw [show ((l_.length:Int) - 1 - (l_.length - 1)).toNat=0 by omega]; exact JJ.start hv)
theorem RX {s_:au} {v_:Int} (h1:s_.bK.length≤2000000):W (zQ s_ v_) (fun r=>r=(bif decide (lvN s_.bK v_<s_.bK.length) then (lvN s_.bK v_:Int) else -1)):=by
 unfold zQ;refine bA (fun (g1:Int)=>0≤g1∧g1≤s_.bK.length∧(∀j:Nat,(j:Int)<g1→s_.bK.getD j 0<v_)) (fun (g1:Int)=>(s_.bK.length - g1).toNat) ?_ ?_
 ·intro self1 g1 hig1 ihg1;obtain ⟨hg1_1,hg1_2,hg1_3⟩:=hig1;unfold Gh;refine wi (fun c1=>?_) (fun c1=>?_)
  ·refine wn ?_;refine wi (fun c2=>?_) (fun c2=>?_)
   ·refine ah ?_;(rw [← abk (k:=g1.toNat) om (fun j hj=>hg1_3 j om) (fun _=>c2),decide_eq_true om]; simp only [cond_true]; omega)
   ·refine wn ?_;refine ihg1 _ ?_ ?_
    ·(refine ⟨ob,ob,bY hg1_3 hg1_1 c2⟩)
    ·exact ob
  ·refine ah ?_;(rw [← abk (k:=g1.toNat) om (fun j hj=>hg1_3 j om) (fun h=>by omega),decide_eq_false om]; rfl)
 ·(refine ⟨ob,ob,fun j hj=>by omega⟩)
theorem uq {l_:(List au)} {r_:bf} {k_:Int} (h1:0≤k_) (h2:k_<l_.length) (h3:Rok l_ r_):W (nD l_ r_ k_) (fun r=>r=sF l_ r_ k_.toNat):=by
 obtain ⟨r1,r2,r3⟩:=h3;have r4:=r3 k_.toNat om;unfold nD;refine wm ?_;refine wn ?_;refine ah ?_;rfl
end Go.Proofs.YtfblhejmclcdmaaGreatDoor.Sp

namespace Go.Proofs.YtfblhejmclcdmaaGreatDoor.Sp
open Go.Ab
set_option maxRecDepth 100000
theorem afu {l:List au} {r:bf} {u:List Bool} {ld:List Int} {i:Nat} (h:(u.getD i false&&!r.On.getD i false)=true):Kj l r u ld i=true:=by
 simp only [Bool.and_eq_true] at h;unfold Kj;rw [h.1,h.2]; rfl
theorem afv {l:List au} {r:bf} {u:List Bool} {ld:List Int} {i:Nat} (h:(u.getD i false&&!r.On.getD i false)=false) (h2:(!r.On.getD i false)=true):Kj l r u ld i=false:=by
 rw [h2,Bool.and_true] at h;unfold Kj;rw [h2,h]; rfl
theorem aeP {l:List au} {r:bf} {u:List Bool} {ld:List Int} {i:Nat} (h2:(!r.On.getD i false)=false):Kj l r u ld i=(decide ((l.getD i aj).fG<ld.getD i 0)||(decide (0≤(l.getD i aj).Parent)&&(!r.On.getD (l.getD i aj).Parent.toNat false||decide (sF l r (l.getD i aj).Parent.toNat<sF l r i+(l.getD i aj).eU)))):=by
 unfold Kj;rw [h2,Bool.or_comm]; rfl
theorem V6 {l:List au} {r:bf} {d:List bB} {i:Nat} (hi:i<l.length) (h:Kj l r (jl l d) (yP l d) i=true):vV l r d=false:=by
 unfold vV;rw [vW hi (by rw [h]; rfl)];rfl
theorem V7 {l:List au} {r:bf} {d:List bB} (h:∀i,i<l.length→Kj l r (jl l d) (yP l d) i=false):vV l r d=!(d.any (dBad l r)):=by
 unfold vV;rw [GU fun j hj=>(by rw [h j hj]; rfl)];rfl
theorem Zt {l:List au} {u:List Bool} {i:Nat} {s:DS} (h:(!u.getD i false)=true):NZ l u i s=false:=by
 unfold NZ;rw [show u.getD i false=false by simpa using h];rfl
theorem abw {a n:Nat} (h:decide ((bif decide (a<n) then (a:Int) else -1)<0)=true):decide (a<n)=false:=by
 cases hd:decide (a<n) with
 | false=>rfl
 | true=>rw [hd] at h; have:=of_decide_eq_true h; simp only [cond_true] at this; omega
theorem abx {a n:Nat} (h:decide ((bif decide (a<n) then (a:Int) else -1)<0)=false):decide (a<n)=true:=by
 cases hd:decide (a<n) with
 | true=>rfl
 | false=>rw [hd] at h; cases h
theorem XE {l:List au} {d:List bB} {s:DS} {i:Nat} (h0:(beginF l d != 0)=false) (e:(s,(i:Int))=Uk l d):(MC,9)=tq l d:=by
 unfold tq;rw [h0,← e,decide_eq_true (show (0:Int)≤(s,(i:Int)).2 by dsimp only; omega)];rfl
theorem Ti {l:List au} {d:List bB} {s:DS} (h0:(beginF l d != 0)=false) (hdr:mE l d=true) (e:(s,(-1:Int))=Uk l d) (hr:Rok l ⟨jl l d,s.lv⟩):tq l d=bif !vV l ⟨jl l d,s.lv⟩ d then (MC,9) else (⟨jl l d,s.lv⟩,0):=by
 unfold tq;have hmf:fA l ⟨jl l d,s.lv⟩ d=vV l ⟨jl l d,s.lv⟩ d:=by
  unfold fA;rw [IB.2 ⟨VU hdr,hr⟩,hdr];rfl
 rw [h0,← e];simp only [show decide ((0:Int) ≤ -1)=false from rfl,Bool.false_or,hmf,cond_false]
theorem aby {l:List au} {u:List Bool} {i:Nat} {s:DS} (hu:u.getD i false=true) (hi:i<s.lv.length):sF l ⟨u,(GV l u i s).lv⟩ i+(l.getD i aj).eU=Au l i s:=by
 unfold sF Au GV;rw [hu];simp only [Bool.not_true,cond_false];rw [fB,if_pos ⟨rfl,hi⟩];rfl
theorem abz {l:List au} {u:List Bool} {i:Nat} {s:DS} (hu:u.getD i false=true) (hp:decide (0≤(l.getD i aj).Parent)=true):(Av s.a).set (l.getD i aj).Parent.toNat (if Au l i s > (Av s.a).getD (l.getD i aj).Parent.toNat 0 then Au l i s else (Av s.a).getD (l.getD i aj).Parent.toNat 0)=Av (GV l u i s).a:=by
 unfold GV;rw [hu,hp,GX];simp only [Bool.not_true,cond_false,Bool.true_and];by_cases h:(s.a.getD (l.getD i aj).Parent.toNat RH).La<Au l i s
 ·rw [decide_eq_true h,cond_true,VW,if_pos h]
 ·rw [decide_eq_false h,cond_false,if_neg h,VY _ _ _ (GX _ _).symm]
theorem Zu {l:List au} {u:List Bool} {i:Nat} {s:DS} (hp:decide (0≤(l.getD i aj).Parent)=false):Av s.a=Av (GV l u i s).a:=by
 unfold GV;rw [hp];cases u.getD i false<;>rfl
theorem abA {l:List au} {u:List Bool} {i:Nat} {s:DS} (h:(!u.getD i false)=true):GV l u i s=s:=by
 unfold GV;rw [h];rfl
theorem RY {l_:(List au)} {d_:(List bB)} (h1:Zl l_ d_):W (zR l_ d_) (fun r=>r=yP l_ d_):=by
 have hv:=h1;obtain ⟨vl,vd,vs,_,vx⟩:=h1;unfold zR;refine wm ?_;refine bA (fun (g1:(Int×(List Int))) => -1≤g1.1∧g1.1<l_.length∧EC l_ d_ (l_.length - 1 - g1.1).toNat g1.2) (fun (g1:(Int×(List Int)))=>(g1.1+1).toNat) ?_ ?_
 ·intro self1 g1 hig1 ihg1;obtain ⟨hg1_1,hg1_2,hg1_3⟩:=hig1;unfold Gj;have hbl:=hg1_3.len;have hsm:=hg1_3.small hv om;refine wi (fun c1=>?_) (fun c1=>?_)
  ·have hst:=hg1_3.step hv (show (l_.length - 1 - g1.1).toNat<l_.length by omega);have hp:=vs g1.1.toNat om;rw [show l_.length - 1 - ((l_.length:Int) - 1 - g1.1).toNat=g1.1.toNat by omega,show ((l_.length:Int) - 1 - g1.1).toNat+1=((l_.length:Int) - 1 - (g1.1 - 1)).toNat by omega] at hst;refine bA (fun (g4:(Int×(List Int)))=>0≤g4.1∧g4.1≤d_.length∧g4.2=g1.2.set g1.1.toNat (g1.2.getD g1.1.toNat 0+dsum (d_.take g4.1.toNat) g1.1.toNat)) (fun (g4:(Int×(List Int)))=>(d_.length - g4.1).toNat) ?_ ?_
   ·intro self4 g4 hig4 ihg4;obtain ⟨hg4_1,hg4_2,hg4_3⟩:=hig4;unfold Gi;have hg4l:g4.2.length=l_.length:=(by rw [hg4_3,List.length_set,hbl]);refine wi (fun c2=>?_) (fun c2=>?_)
    ·have hx:=vx _ (gF bX (show g4.1.toNat<d_.length by omega));have hdb:=Lg (d:=d_) (fun x hx=>by have:=vx x hx; omega) g1.1.toNat g4.1.toNat om;have hbi:=hsm g1.1.toNat;have hgi:g4.2.getD g1.1.toNat 0=g1.2.getD g1.1.toNat 0+dsum (d_.take g4.1.toNat) g1.1.toNat:=(by rw [hg4_3,fB,if_pos ⟨rfl,om⟩]);refine wn ?_;refine bP (fun c3=>?_) (fun c3=>?_)
     ·have c3o:=c3;have c3:=nr c3;refine wm ?_;refine wm ?_;refine ihg4 _ ?_ ?_
      ·(refine ⟨ob,ob,?_⟩; dsimp only; rw [show (g4.1+1).toNat=g4.1.toNat+1 by omega,hgi,hg4_3,List.set_set,MO om,show ((g1.1.toNat:Int))=g1.1 by omega,c3o]; simp only [cond_true]; rw [Int.add_assoc])
      ·exact ob
     ·have c3o:=c3;have c3:=nr c3;refine wn ?_;refine ihg4 _ ?_ ?_
      ·(refine ⟨ob,ob,?_⟩; dsimp only; rw [show (g4.1+1).toNat=g4.1.toNat+1 by omega,hg4_3,MO om,show ((g1.1.toNat:Int))=g1.1 by omega,c3o]; rfl)
      ·exact ob
    ·have hdb:=Lg (d:=d_) (fun x hx=>by have:=vx x hx; omega) g1.1.toNat d_.length (Nat.le_refl _);rw [List.take_length] at hdb;have hg4e:g4.2=g1.2.set g1.1.toNat (g1.2.getD g1.1.toNat 0+dsum d_ g1.1.toNat):=(by rw [hg4_3,show g4.1.toNat=d_.length by omega,List.take_length]);have hgi:g4.2.getD g1.1.toNat 0=g1.2.getD g1.1.toNat 0+dsum d_ g1.1.toNat:=(by rw [hg4e,fB,if_pos ⟨rfl,om⟩]);have hbi:=hsm g1.1.toNat;refine wn ?_;refine bP (fun c4=>?_) (fun c4=>?_)
     ·have c4o:=c4;have c4:=nr c4;have hgp:g4.2.getD (l_.getD g1.1.toNat aj).Parent.toNat 0=g1.2.getD (l_.getD g1.1.toNat aj).Parent.toNat 0:=(by rw [hg4e,fB,if_neg om]);have hbp:=hsm (l_.getD g1.1.toNat aj).Parent.toNat;refine wm ?_;refine wm ?_;refine wn ?_;refine ihg1 _ ?_ ?_
      ·(refine ⟨ob,ob,?_⟩; dsimp only; unfold IC at hst; rw [c4o] at hst; rw [hgi,hgp,hg4e]; exact hst)
      ·exact ob
     ·have c4o:=c4;have c4:=nr c4;refine wn ?_;refine ihg1 _ ?_ ?_
      ·(refine ⟨ob,ob,?_⟩; dsimp only; unfold IC at hst; rw [c4o] at hst; rw [hg4e]; exact hst)
      ·exact ob
   ·(refine ⟨ob,ob,?_⟩; dsimp only; rw [show (0:Int).toNat=0 from rfl,List.take_zero,show dsum [] g1.1.toNat=0 from rfl,Int.add_zero,set_self])
  ·refine ah ?_;(exact EC.done (by rw [show l_.length=((l_.length:Int) - 1 - g1.1).toNat by omega]; exact hg1_3))
 ·(refine ⟨ob,ob,?_⟩; dsimp only; rw [show ((l_.length:Int) - 1 - (l_.length - 1)).toNat=0 by omega]; exact EC.start hv)
theorem JL {l_:(List au)} {r_:bf} {d_:(List bB)} (h1:Zl l_ d_) (h2:Rok l_ r_):W (uV l_ r_ d_) (fun r=>r=vV l_ r_ d_):=by
 have hv:=h1;have hr:=h2;have hvb:=fun i hi=>Qy hv hr i hi;have hul:=Iz l_ d_;have hll:=Ki l_ d_;obtain ⟨vl,vd,vs,_,vx⟩:=h1;obtain ⟨r1,r2,r3⟩:=h2;unfold uV;refine av (Lm ob) fun v1 hv1=>?_;subst v1;refine av (RY ob) fun v2 hv2=>?_;subst v2;refine bA (fun (g1:Int)=>0≤g1∧g1≤l_.length∧(∀j:Nat,(j:Int)<g1→Kj l_ r_ (jl l_ d_) (yP l_ d_) j=false)) (fun (g1:Int)=>(l_.length - g1).toNat) ?_ ?_
 ·intro self1 g1 hig1 ihg1;obtain ⟨hg1_1,hg1_2,hg1_3⟩:=hig1;unfold Gl;refine wi (fun c1=>?_) (fun c1=>?_)
  ·have hp:=vs g1.toNat om;have hv1:=hvb g1.toNat om;have hv2:=hvb (l_.getD g1.toNat aj).Parent.toNat;refine wm ?_;refine wn ?_;refine bP (fun c2=>?_) (fun c2=>?_)
   ·have c2o:=c2;have c2:=nr c2;refine ah ?_;(exact (V6 (i:=g1.toNat) om (afu c2o)).symm)
   ·have c2o:=c2;have c2:=nr c2;refine wn ?_;refine bP (fun c3=>?_) (fun c3=>?_)
    ·have c3o:=c3;have c3:=nr c3;refine wn ?_;refine ihg1 _ ?_ ?_
     ·(refine ⟨ob,ob,bY hg1_3 hg1_1 (afv c2o c3o)⟩)
     ·exact ob
    ·have c3o:=c3;have c3:=nr c3;refine wn ?_;refine aZ (by (intro _ q; have:=of_decide_eq_true q; omega)) ?_;refine av (eD fun hc hc2 hc3=>jm (uq (of_decide_eq_true hc2) (by have:=of_decide_eq_true hc2; omega) hr)) fun v7 hv7=>?_;subst v7;refine av (eD fun hc hc2 hc3=>jm (uq om om hr)) fun v8 hv8=>?_;subst v8;refine aZ (by (intro _ q; have:=of_decide_eq_true q; have:=hv2 om; unfold InI64; omega)) ?_;refine bP (fun c4=>?_) (fun c4=>?_)
     ·have c4o:=c4;have c4:=nr c4;refine ah ?_;(exact (V6 (i:=g1.toNat) om ((aeP c3o).trans c4o)).symm)
     ·have c4o:=c4;have c4:=nr c4;refine wn ?_;refine ihg1 _ ?_ ?_
      ·(refine ⟨ob,ob,bY hg1_3 hg1_1 ((aeP c3o).trans c4o)⟩)
      ·exact ob
  ·refine bA (fun (g2:Int)=>0≤g2∧g2≤d_.length∧(d_.drop g2.toNat).any (dBad l_ r_)=d_.any (dBad l_ r_)) (fun (g2:Int)=>(d_.length - g2).toNat) ?_ ?_
   ·intro self2 g2 hig2 ihg2;obtain ⟨hg2_1,hg2_2,hg2_3⟩:=hig2;unfold Ej;refine wi (fun c5=>?_) (fun c5=>?_)
    ·have hlt:g2.toNat<d_.length:=om;have hx:=vx _ (gF bX hlt);rw [drop_cons bX hlt,List.any_cons] at hg2_3;refine wn ?_;refine av (uq hx.1 hx.2.1 hr) fun v13 hv13=>?_;subst v13;refine av (lU) fun v14 hv14=>?_;subst v14;refine bP (fun c6=>?_) (fun c6=>?_)
     ·have c6o:=c6;have c6:=nr c6;refine ah ?_;(rw [V7 (fun j hj=>hg1_3 j om),← hg2_3,show dBad l_ r_ (d_.getD g2.toNat bX)=true from c6o]; rfl)
     ·have c6o:=c6;have c6:=nr c6;refine wn ?_;refine ihg2 _ ?_ ?_
      ·(refine ⟨ob,ob,?_⟩; rw [← hg2_3,show dBad l_ r_ (d_.getD g2.toNat bX)=false from c6o,show (g2+1).toNat=g2.toNat+1 by omega]; rfl)
      ·exact ob
    ·refine ah ?_;(rw [V7 (fun j hj=>hg1_3 j om),← hg2_3,show g2.toNat=d_.length by omega,List.drop_length]; rfl)
   ·(refine ⟨ob,ob,rfl⟩)
 ·(refine ⟨ob,ob,fun j hj=>by omega⟩)
theorem RZ {l_:(List au)} {d_:(List bB)} (h1:l_.length≤2000000) (h2:d_.length≤2000000):W (zS l_ d_) (fun r=>r=tq l_ d_):=by
 unfold zS;refine av (RV ob ob) fun v1 hv1=>?_;subst v1;refine bP (fun c1=>?_) (fun c1=>?_)
 ·have c1o:=c1;have c1:=nr c1;refine ah ?_;(unfold tq; rw [c1o]; rfl)
 ·have c1o:=c1;have c1:=nr c1;have hdr:=abh (show beginF l_ d_=0 by simpa using c1o);have hv:=Xz hdr;obtain ⟨vl,vd,vs,vlv,vx⟩:=id hv;have hul:=Iz l_ d_;refine av (Lm hv) fun v2 hv2=>?_;subst v2;refine wm ?_;refine bA (fun (g1:(Int×(List Int)×(List Int)))=>0≤g1.1∧g1.1≤d_.length∧g1.2.1=Av (yQ l_.length d_ g1.1.toNat)∧g1.2.2=List.replicate l_.length 0) (fun (g1:(Int×(List Int)×(List Int)))=>(d_.length - g1.1).toNat) ?_ ?_
  ·intro self1 g1 hig1 ihg1;obtain ⟨hg1_1,hg1_2,hg1_3,hg1_4⟩:=hig1;unfold Gm;have hgl:g1.2.1.length=l_.length:=(by rw [hg1_3,VX,Tf]);refine wi (fun c2=>?_) (fun c2=>?_)
   ·have hx:=vx _ (gF bX (show g1.1.toNat<d_.length by omega));refine wm ?_;refine wm ?_;refine ihg1 _ ?_ ?_
    ·(refine ⟨ob,ob,?_,hg1_4⟩; dsimp only; rw [show (g1.1+1).toNat=g1.1.toNat+1 by omega,XB,hg1_3])
    ·exact ob
   ·refine wn ?_;refine bA (fun (g2:(Int×(List Int)×(List Int))) => -1≤g2.1∧g2.1<l_.length∧∃s:DS,g2.2.1=Av s.a∧g2.2.2=s.lv∧DOk l_ s∧acS l_ s∧abl l_ (jl l_ d_) (g2.1+1).toNat s=Uk l_ d_) (fun (g2:(Int×(List Int)×(List Int)))=>(g2.1+1).toNat) ?_ ?_
    ·intro self2 g2 hig2 ihg2;obtain ⟨hg2_1,hg2_2,hg2_3⟩:=hig2;unfold El;obtain ⟨s,e1,e2,e3,e4,e5⟩:=hg2_3;have hal:g2.2.1.length=l_.length:=(by rw [e1,VX,e3.al]);have hll:g2.2.2.length=l_.length:=(by rw [e2,e3.ll]);refine wi (fun c3=>?_) (fun c3=>?_)
     ·have hp:=vs g2.1.toNat om;rw [show (g2.1+1).toNat=g2.1.toNat+1 by omega,abl] at e5;refine wn ?_;refine bP (fun c4=>?_) (fun c4=>?_)
      ·have c4o:=c4;have c4:=nr c4;refine wn ?_;refine ihg2 _ ?_ ?_
       ·(refine ⟨ob,ob,s,e1,e2,e3,e4,?_⟩; dsimp only; rw [show (g2.1 - 1+1).toNat=g2.1.toNat by omega]; rw [Zt c4o,abA c4o] at e5; exact e5)
       ·exact ob
      ·have c4o:=c4;have c4:=nr c4;have hu:(jl l_ d_).getD g2.1.toNat false=true:=(by simpa using c4o);refine wm ?_;refine av (RX ob) fun v11 hv11=>?_;subst v11;rw [e1,GX,show lvN (l_.getD g2.1.toNat aj).bK (s.a.getD g2.1.toNat RH).La=IZ l_ g2.1.toNat s from rfl];have hgs:(g2.2.2.set g2.1.toNat (bif decide (IZ l_ g2.1.toNat s<(l_.getD g2.1.toNat aj).bK.length) then (IZ l_ g2.1.toNat s:Int) else -1)).getD g2.1.toNat 0=(bif decide (IZ l_ g2.1.toNat s<(l_.getD g2.1.toNat aj).bK.length) then (IZ l_ g2.1.toNat s:Int) else -1):=(by rw [fB,if_pos ⟨rfl,om⟩]);refine wn ?_;unfold vN;refine wn ?_;refine bP (fun c5=>?_) (fun c5=>?_)
       ·have c5o:=c5;have c5:=nr c5;rw [hgs] at c5o;have h5:=abw c5o;have h6:decide ((IZ l_ g2.1.toNat s:Int)<(l_.getD g2.1.toNat aj).bK.length)=false:=(by simpa using h5);refine ah ?_;(exact XE c1o (by unfold NZ at e5; rw [hu,h6] at e5; exact e5))
       ·have c5o:=c5;have c5:=nr c5;rw [hgs] at c5o;have h5:=abx c5o;have h6:decide ((IZ l_ g2.1.toNat s:Int)<(l_.getD g2.1.toNat aj).bK.length)=true:=(by simpa using h5);have hf:NZ l_ (jl l_ d_) g2.1.toNat s=false:=(by unfold NZ; rw [hu,h6]; rfl);rw [hf] at e5;have hlo:=acR (u:=jl l_ d_) (i:=g2.1.toNat) e3;have hlv:=acT hf e4;have hR:=abn hul hlo hlv;have hs:(GV l_ (jl l_ d_) g2.1.toNat s).lv=s.lv.set g2.1.toNat (IZ l_ g2.1.toNat s:Int):=(by unfold GV; rw [hu]; rfl);have hvo:=aby (l:=l_) (u:=jl l_ d_) hu (show g2.1.toNat<s.lv.length by rw [e3.ll]; omega);have hvb:=Qy hv hR g2.1.toNat om;rw [h5]; simp only [cond_true]; rw [e2,← hs];refine wn ?_;refine bP (fun c6=>?_) (fun c6=>?_)
        ·have c6o:=c6;have c6:=nr c6;refine wn ?_;refine av (uq om om hR) fun v10 hv10=>?_;subst v10;refine wn ?_;refine aZ (by (unfold InI64; omega)) ?_;refine wm ?_;refine ihg2 _ ?_ ?_
         ·(refine ⟨ob,ob,GV l_ (jl l_ d_) g2.1.toNat s,?_,rfl,hlo,hlv,?_⟩; (dsimp only; rw [hvo,e1]; exact abz hu c6o); (dsimp only; rw [show (g2.1 - 1+1).toNat=g2.1.toNat by omega]; exact e5))
         ·exact ob
        ·have c6o:=c6;have c6:=nr c6;refine wn ?_;refine ihg2 _ ?_ ?_
         ·(refine ⟨ob,ob,GV l_ (jl l_ d_) g2.1.toNat s,?_,rfl,hlo,hlv,?_⟩; (dsimp only; rw [e1]; exact Zu c6o); (dsimp only; rw [show (g2.1 - 1+1).toNat=g2.1.toNat by omega]; exact e5))
         ·exact ob
     ·rw [show (g2.1+1).toNat=0 by omega,abl] at e5;have hrk:Rok l_ ⟨jl l_ d_,g2.2.2⟩:=(by rw [e2]; exact abn hul e3 e4);refine av (JL hv hrk) fun v12 hv12=>?_;subst v12;refine bP (fun c7=>?_) (fun c7=>?_)
      ·have c7o:=c7;have c7:=nr c7;refine ah ?_;(rw [Ti c1o hdr e5 (by rw [← e2]; exact hrk),← e2,c7o]; rfl)
      ·have c7o:=c7;have c7:=nr c7;refine ah ?_;(rw [Ti c1o hdr e5 (by rw [← e2]; exact hrk),← e2,c7o]; rfl)
    ·(refine ⟨ob,ob,ds0 l_ d_,?_,hg1_4,ad7 _ _,?_,?_⟩; (dsimp only; rw [hg1_3,show g1.1.toNat=d_.length by omega]; rfl); (intro j hj; show 0≤(List.replicate l_.length (0:Int)).getD j 0∧(List.replicate l_.length (0:Int)).getD j 0<_; rw [vv]; have:=vs j hj; omega); (dsimp only; rw [show ((l_.length:Int) - 1+1).toNat=l_.length by omega]; rfl))
  ·(refine ⟨ob,ob,?_,rfl⟩; show _=Av (List.replicate l_.length (⟨0,-1,-1⟩:Zk)); unfold Av; rw [List.map_replicate]; rfl)
end Go.Proofs.YtfblhejmclcdmaaGreatDoor.Sp

namespace Go.Proofs.YtfblhejmclcdmaaGreatDoor
open Go.Ab
set_option maxRecDepth 100000
theorem V8 (n lo hi:Int) (b:Bool):(((decide (n<lo))||(decide (hi<n)))||b)=(!(withinF n lo hi)||b):=by
 unfold withinF;congr 1;by_cases h1:n<lo<;>by_cases h2:hi<n<;>simp [h1,h2]<;>omega
theorem Zv {l:List Int} {x y:Int} (h:l.contains x=false) (hy:¬ y=x):(l++[y]).contains x=false:=by
 rw [List.contains_eq_any_beq] at h ⊢;rw [List.any_append,h];simpa using fun e=>hy e.symm
theorem XF (n:Nat):decide ((1:Int)≤(n:Int))=decide ((0:Int)<(n:Int)):=by
 rw [decide_eq_decide]; omega
theorem afw {c:aC}:((decide ((1:Int)≤(c.Parents.length:Int))&&decide ((0:Int)<(c.Choices.length:Int)))&&(ru 0 ((c.Parents.length:Int) - 1) [] c.Choices))=(decide (0<(c.Choices.length:Int))&&ru 0 ((c.Parents.length:Int) - 1) [] c.Choices):=by
 by_cases h:1≤(c.Parents.length:Int)
 ·rw [decide_eq_true h,Bool.true_and]
 ·rw [decide_eq_false h,Bool.false_and,Bool.false_and];symm;rw [Bool.and_eq_false_iff];by_cases h2:0<(c.Choices.length:Int)
  ·right;cases hd:ru 0 ((c.Parents.length:Int) - 1) [] c.Choices with
   | false=>rfl
   | true=>have:=acJ _ _ hd om; omega
  ·left; exact decide_eq_false h2
theorem Zw {l_:(List Int)} {x_:Int} (h1:l_.length≤2000000):W (O9 l_ x_) (fun r=>r=l_.contains x_):=by
 unfold O9;refine bA (fun (g1:Int)=>0≤g1∧g1≤l_.length∧(l_.take g1.toNat).contains x_=false) (fun (g1:Int)=>(l_.length - g1).toNat) ?_ ?_
 ·intro self1 g1 hig1 ihg1;obtain ⟨hg1_1,hg1_2,hg1_3⟩:=hig1;unfold Qq;refine wi (fun c1=>?_) (fun c1=>?_)
  ·refine wn ?_;refine wi (fun c2=>?_) (fun c2=>?_)
   ·refine ah ?_;(exact (List.elem_eq_true_of_mem (by rw [← c2]; exact getD_in 0 om)).symm)
   ·refine wn ?_;refine ihg1 _ ?_ ?_
    ·(refine ⟨ob,ob,?_⟩; rw [show (g1+1).toNat=g1.toNat+1 by omega,fH 0 om]; exact Zv hg1_3 c2)
    ·exact ob
  ·refine ah ?_;(rw [show g1.toNat=l_.length by omega,List.take_length] at hg1_3; exact hg1_3.symm)
 ·(refine ⟨ob,ob,rfl⟩)
theorem V9 {a_:(List Int)} {b_:(List Int)} (h1:a_.length≤2000000):W (Bt a_ b_) (fun r=>r=(a_==b_)):=by
 unfold Bt;refine wi (fun c1=>?_) (fun c1=>?_)
 ·refine ah ?_;(exact (xI c1).symm)
 ·refine bA (fun (g1:Int)=>0≤g1∧g1≤a_.length∧(a_==b_)=(a_.drop g1.toNat==b_.drop g1.toNat)) (fun (g1:Int)=>(a_.length - g1).toNat) ?_ ?_
  ·intro self1 g1 hig1 ihg1;obtain ⟨hg1_1,hg1_2,hg1_3⟩:=hig1;unfold KU;refine wi (fun c2=>?_) (fun c2=>?_)
   ·rw [drop_cons 0 (show g1.toNat<a_.length by omega),drop_cons 0 (show g1.toNat<b_.length by omega)] at hg1_3;refine wm ?_;refine wi (fun c3=>?_) (fun c3=>?_)
    ·refine ah ?_;(rw [hg1_3,Ph c3])
    ·refine wn ?_;refine ihg1 _ ?_ ?_
     ·(refine ⟨ob,ob,?_⟩; rw [hg1_3,Pj c3,show (g1+1).toNat=g1.toNat+1 by omega])
     ·exact ob
   ·refine ah ?_;(rw [hg1_3,List.drop_eq_nil_of_le om,List.drop_eq_nil_of_le om]; rfl)
  ·(refine ⟨ob,ob,rfl⟩)
theorem rG {l_:(List Int)} {lo_:Int} {hi_:Int} (h1:l_.length≤2000000):W (jv l_ lo_ hi_) (fun r=>r=ru lo_ hi_ [] l_):=by
 unfold jv;refine bA (fun (g1:Int)=>0≤g1∧g1≤l_.length∧ru lo_ hi_ (l_.take g1.toNat) (l_.drop g1.toNat)=ru lo_ hi_ [] l_) (fun (g1:Int)=>(l_.length - g1).toNat) ?_ ?_
 ·intro self1 g1 hig1 ihg1;obtain ⟨hg1_1,hg1_2,hg1_3⟩:=hig1;unfold yD;refine wi (fun c1=>?_) (fun c1=>?_)
  ·rw [drop_cons 0 (show g1.toNat<l_.length by omega)] at hg1_3;refine wm ?_;refine av (eD fun hc=>jm (Zw ob)) fun v3 hv3=>?_;subst v3;refine bP (fun c2=>?_) (fun c2=>?_)
   ·have c2o:=c2;have c2:=nr c2;rw [V8] at c2o;refine ah ?_;(rw [← hg1_3,Pb (pre:=l_.take g1.toNat) (n:=l_.getD g1.toNat 0) c2o])
   ·have c2o:=c2;have c2:=nr c2;rw [V8] at c2o;refine wn ?_;refine ihg1 _ ?_ ?_
    ·(refine ⟨ob,ob,?_⟩; rw [← hg1_3,Ud (pre:=l_.take g1.toNat) (n:=l_.getD g1.toNat 0) c2o,show (g1+1).toNat=g1.toNat+1 by omega,fH 0 om])
    ·exact ob
  ·refine ah ?_;(rw [← hg1_3,List.drop_eq_nil_of_le om]; rfl)
 ·(refine ⟨ob,ob,rfl⟩)
theorem Ou {c_:aC} (h1:c_.Parents.length≤2000000) (h2:c_.Choices.length≤2000000):W (tY c_) (fun r=>r=fJ c_):=by
 unfold tY;refine bP (fun c1=>?_) (fun c1=>?_)
 ·have c1o:=c1;have c1:=nr c1;refine aZ (by (intro hc; simp only [Bool.and_eq_true,beq_iff_eq] at hc; omega)) ?_;refine aZ (by (intro hc; simp only [Bool.and_eq_true,beq_iff_eq] at hc; omega)) ?_;refine ah ?_;(unfold fJ; rw [c1o]; simp only [cond_true]; unfold withinF; rw [Bool.and_assoc])
 ·have c1o:=c1;have c1:=nr c1;refine bP (fun c2=>?_) (fun c2=>?_)
  ·have c2o:=c2;have c2:=nr c2;refine bP (fun c3=>?_) (fun c3=>?_)
   ·have c3o:=c3;have c3:=nr c3;refine av (eD fun hc=>jm (rG ob)) fun v1 hv1=>?_;subst v1;refine ah ?_;(unfold fJ; rw [c1o,c2o,XF]; rfl)
   ·have c3o:=c3;have c3:=nr c3;rw [c2o] at c3o; cases c3o
  ·have c2o:=c2;have c2:=nr c2;refine bP (fun c4=>?_) (fun c4=>?_)
   ·have c4o:=c4;have c4:=nr c4;refine av (eD fun hc=>jm (rG ob)) fun v4 hv4=>?_;subst v4;refine ah ?_;(unfold fJ; rw [c1o,c2o,c4o,XF]; rfl)
   ·have c4o:=c4;have c4:=nr c4;refine bP (fun c5=>?_) (fun c5=>?_)
    ·have c5o:=c5;have c5:=nr c5;refine wn ?_;refine av (eD fun hc=>jm (rG ob)) fun v5 hv5=>?_;subst v5;refine ah ?_;(unfold fJ; rw [c1o,c2o,c4o,c5o,XF c_.Choices.length]; exact afw)
    ·have c5o:=c5;have c5:=nr c5;refine bP (fun c6=>?_) (fun c6=>?_)
     ·have c6o:=c6;have c6:=nr c6;refine bP (fun c7=>?_) (fun c7=>?_)
      ·have c7o:=c7;have c7:=nr c7;refine av (eD fun hc=>jm (V9 ob)) fun v6 hv6=>?_;subst v6;refine ah ?_;(unfold fJ; rw [c1o,c2o,c4o,c5o,c6o]; rfl)
      ·have c7o:=c7;have c7:=nr c7;refine ah ?_;(unfold fJ; rw [c1o,c2o,c4o,c5o,c6o,show ((c_.Parents.length:Int)==1)=false by simpa using c7o]; rfl)
     ·have c6o:=c6;have c6:=nr c6;refine ah ?_;(unfold fJ; rw [c1o,c2o,c4o,c5o,c6o]; rfl)
theorem Ov {l_:(List aC)} (h1:l_.length≤1000) (h2:Ym l_):W (tZ l_) (fun r=>r=fC l_):=by
 unfold tZ;refine bA (fun (g1:(Int×(List Int)))=>0≤g1.1∧g1.1≤l_.length∧g1.2=fC (l_.take g1.1.toNat)) (fun (g1:(Int×(List Int)))=>(l_.length - g1.1).toNat) ?_ ?_
 ·intro self1 g1 hig1 ihg1;obtain ⟨hg1_1,hg1_2,hg1_3⟩:=hig1;unfold Bv;have hfb:=gZ (l_.take g1.1.toNat);rw [take_len om,← hg1_3] at hfb;refine wi (fun c1=>?_) (fun c1=>?_)
  ·obtain ⟨hp1,hp2⟩:=h2 g1.1.toNat om;refine wn ?_;refine bA (fun (g6:(Int×Int))=>0≤g6.2∧g6.2≤(l_.getD g1.1.toNat aF).Parents.length∧g6.1=jC g1.2 ((l_.getD g1.1.toNat aF).Parents.take g6.2.toNat)) (fun (g6:(Int×Int))=>((l_.getD g1.1.toNat aF).Parents.length - g6.2).toNat) ?_ ?_
   ·intro self6 g6 hig6 ihg6;obtain ⟨hg6_1,hg6_2,hg6_3⟩:=hig6;unfold Bu;have hpm:=Di g1.2 g1.1.toNat om hfb.2 ((l_.getD g1.1.toNat aF).Parents.take g6.2.toNat);rw [← hg6_3] at hpm;refine wi (fun c2=>?_) (fun c2=>?_)
    ·have hx:=hp2 _ (getD_in (i:=g6.2.toNat) 0 om);refine wm ?_;refine wn ?_;refine ihg6 _ ?_ ?_
     ·(refine ⟨ob,ob,?_⟩; dsimp only; rw [show (g6.2+1).toNat=g6.2.toNat+1 by omega]; unfold jC; rw [pR _ _ 0 om,hg6_3]; rfl)
     ·exact ob
    ·have hpe:g6.1=jC g1.2 (l_.getD g1.1.toNat aF).Parents:=(by rw [hg6_3,show g6.2.toNat=(l_.getD g1.1.toNat aF).Parents.length by omega,List.take_length]);refine bP (fun c3=>?_) (fun c3=>?_)
     ·have c3o:=c3;have c3:=nr c3;refine wn ?_;unfold j5;refine wm ?_;refine ihg1 _ ?_ ?_
      ·(refine ⟨ob,ob,?_⟩; dsimp only; rw [show (g1.1+1).toNat=g1.1.toNat+1 by omega,fH aF om,xU,← hg1_3]; unfold Dh Ka; rw [c3o,hpe]; rfl)
      ·exact ob
     ·have c3o:=c3;have c3:=nr c3;unfold j5;refine wm ?_;refine ihg1 _ ?_ ?_
      ·(refine ⟨ob,ob,?_⟩; dsimp only; rw [show (g1.1+1).toNat=g1.1.toNat+1 by omega,fH aF om,xU,← hg1_3]; unfold Dh Ka; rw [c3o,hpe]; rfl)
      ·exact ob
   ·(refine ⟨ob,ob,rfl⟩)
  ·refine ah ?_;(rw [hg1_3,show g1.1.toNat=l_.length by omega,List.take_length])
 ·(refine ⟨ob,ob,rfl⟩)
theorem uw {l_:(List aC)} (h1:l_.length≤2000000):W (ny l_) (fun r=>r=cZ l_):=by
 unfold ny;refine bP (fun c1=>?_) (fun c1=>?_)
 ·have c1o:=c1;have c1:=nr c1;refine ah ?_;(unfold cZ; rw [c1o]; rfl)
 ·have c1o:=c1;have c1:=nr c1;refine bA (fun (g1:Int)=>0≤g1∧g1≤l_.length∧(∀j:Nat,(j:Int)<g1→bigC (l_.getD j aF)=false)) (fun (g1:Int)=>(l_.length - g1).toNat) ?_ ?_
  ·intro self1 g1 hig1 ihg1;obtain ⟨hg1_1,hg1_2,hg1_3⟩:=hig1;unfold Gd;refine wi (fun c2=>?_) (fun c2=>?_)
   ·refine wn ?_;refine bP (fun c3=>?_) (fun c3=>?_)
    ·have c3o:=c3;have c3:=nr c3;refine ah ?_;(unfold cZ; rw [rA (p:=bigC) aF (show g1.toNat<l_.length by omega) (show bigC _=true from c3o),Bool.or_true]; rfl)
    ·have c3o:=c3;have c3:=nr c3;refine wn ?_;refine ihg1 _ ?_ ?_
     ·(refine ⟨ob,ob,bY hg1_3 hg1_1 c3o⟩)
     ·exact ob
   ·have hb4:∀i:Nat,i<l_.length→bigC (l_.getD i aF)=false:=fun j hj=>hg1_3 j om;have hbig:=any_none (p:=bigC) aF hb4;have hb3:(decide (16<(l_.length:Int))||l_.any bigC)=false:=(by rw [c1o,hbig]; rfl);refine bA (fun (g2:(Int×Int))=>0≤g2.2∧g2.2≤l_.length∧g2.1=jM (l_.take g2.2.toNat)∧(∀j:Nat,(j:Int)<g2.2→je (l_.getD j aF) j=true)) (fun (g2:(Int×Int))=>(l_.length - g2.2).toNat) ?_ ?_
    ·intro self2 g2 hig2 ihg2;obtain ⟨hg2_1,hg2_2,hg2_3,hg2_4⟩:=hig2;unfold Ed;refine wi (fun c4=>?_) (fun c4=>?_)
     ·have hlt:g2.2.toNat<l_.length:=om;have hbl:=GI (hb4 g2.2.toNat hlt);refine wn ?_;refine bA (fun (g5:Int)=>0≤g5∧g5≤(l_.getD g2.2.toNat aF).Parents.length∧(∀j:Nat,(j:Int)<g5→withinF ((l_.getD g2.2.toNat aF).Parents.getD j 0) 0 (g2.2.toNat - 1)=true)) (fun (g5:Int)=>((l_.getD g2.2.toNat aF).Parents.length - g5).toNat) ?_ ?_
      ·intro self5 g5 hig5 ihg5;obtain ⟨hg5_1,hg5_2,hg5_3⟩:=hig5;unfold Eb;refine wi (fun c5=>?_) (fun c5=>?_)
       ·refine wn ?_;refine wi (fun c6=>?_) (fun c6=>?_)
        ·refine ah ?_;(unfold cZ; rw [hb3,Kc hlt (MF (j:=g5.toNat) om (by rw [← Bool.not_eq_true,within_iff]; omega))]; rfl)
        ·refine wn ?_;refine ihg5 _ ?_ ?_
         ·(refine ⟨ob,ob,bY hg5_3 hg5_1 (by rw [within_iff]; omega)⟩)
         ·exact ob
       ·have hvr:=VG (k:=(g2.2.toNat:Int)) (fun j hj=>hg5_3 j om);refine av (Ou ob ob) fun v3 hv3=>?_;subst v3;refine bP (fun c7=>?_) (fun c7=>?_)
        ·have c7o:=c7;have c7:=nr c7;rw [c7o] at hvr;refine ah ?_;(unfold cZ; rw [hb3,Kc hlt hvr]; rfl)
        ·have c7o:=c7;have c7:=nr c7;rw [c7o] at hvr;have hpm:=aa7 (l_.take g2.2.toNat) (l_.getD g2.2.toNat aF).Choices.length om;rw [← hg2_3] at hpm;refine wm ?_;refine ihg2 _ ?_ ?_
         ·(refine ⟨ob,ob,?_,bY hg2_4 hg2_1 hvr⟩; dsimp only; rw [show (g2.2+1).toNat=g2.2.toNat+1 by omega]; unfold jM; rw [pR _ _ aF hlt]; rw [hg2_3]; rfl)
         ·exact ob
      ·(refine ⟨ob,ob,fun j hj=>by omega⟩)
     ·have hva:∀i:Nat,i<l_.length→je (l_.getD i aF) i=true:=fun j hj=>hg2_4 j om;have hall:=SX hva;have hfl:=(gZ l_).1;rw [show g2.2.toNat=l_.length by omega,List.take_length] at hg2_3;refine bP (fun c8=>?_) (fun c8=>?_)
      ·have c8o:=c8;have c8:=nr c8;refine ah ?_;(unfold cZ; rw [hb3,hall,← hg2_3,c8o]; rfl)
      ·have c8o:=c8;have c8:=nr c8;refine av (Ov om (VH hva hb4)) fun v4 hv4=>?_;subst v4;refine bA (fun (g6:Int)=>0≤g6∧g6≤(fC l_).length∧(∀j:Nat,(j:Int)<g6→(fun n=>decide (4<n)) ((fC l_).getD j 0)=false)) (fun (g6:Int)=>((fC l_).length - g6).toNat) ?_ ?_
       ·intro self6 g6 hig6 ihg6;obtain ⟨hg6_1,hg6_2,hg6_3⟩:=hig6;unfold Ec;refine wi (fun c9=>?_) (fun c9=>?_)
        ·refine wn ?_;refine bP (fun c10=>?_) (fun c10=>?_)
         ·have c10o:=c10;have c10:=nr c10;refine ah ?_;(unfold cZ; rw [hb3,hall,rA (p:=fun n=>decide (4<n)) 0 (show g6.toNat<(fC l_).length by omega) c10o,Bool.or_true]; rfl)
         ·have c10o:=c10;have c10:=nr c10;refine wn ?_;refine ihg6 _ ?_ ?_
          ·(refine ⟨ob,ob,bY hg6_3 hg6_1 c10o⟩)
          ·exact ob
        ·refine ah ?_;(unfold cZ; rw [hb3,hall,← hg2_3,c8o,any_none (p:=fun n=>decide (4<n)) 0 (fun j hj=>hg6_3 j om)]; rfl)
       ·(refine ⟨ob,ob,fun j hj=>by omega⟩)
    ·(refine ⟨ob,ob,rfl,fun j hj=>by dsimp only at hj; omega⟩)
  ·(refine ⟨ob,ob,fun j hj=>by omega⟩)
end Go.Proofs.YtfblhejmclcdmaaGreatDoor

namespace Go.Proofs.YtfblhejmclcdmaaGreatDoor
open Go.Ab
set_option maxRecDepth 100000
theorem acX {l:List aC} {m:List bJ} (h:((cZ l != 0)||decide (32<(m.length:Int)))=true):limsB l m=false:=by
 unfold limsB;by_cases h1:cZ l=0
 ·rw [h1] at h;have:32<(m.length:Int):=by simpa using h
  rw [decide_eq_false (p:=(m.length:Int)≤32) om];simp
 ·have:(cZ l==0)=false:=by simpa using h1
  rw [this];rfl
theorem abB {l:List aC} {m:List bJ} (h:((cZ l != 0)||decide (32<(m.length:Int)))=false):limsB l m=!(m.any (GH l.length)):=by
 have h1:cZ l=0∧(m.length:Int)≤32:=by
  simp at h;omega
 unfold limsB;rw [h1.1,decide_eq_true h1.2];rfl
theorem Wd (n:Int) (x:bJ):(((((decide (x.Clock<(0:Int)))||(decide (n≤x.Clock)))||(decide (x.Low<(0:Int))))||(decide (x.High<x.Low)))||(decide ((4000000000:Int)<x.High)))=GH n x:=by
 unfold GH withinF;rw [Bool.eq_iff_iff];simp;omega
theorem G6 {l_:(List aC)} {m_:(List bJ)} (h1:l_.length≤2000000) (h2:m_.length≤2000000):W (qQ l_ m_) (fun r=>r=limsB l_ m_):=by
 unfold qQ;refine av (uw ob) fun v1 hv1=>?_;subst v1;refine bP (fun c1=>?_) (fun c1=>?_)
 ·have c1o:=c1;have c1:=nr c1;refine ah ?_;(exact (acX c1o).symm)
 ·have c1o:=c1;have c1:=nr c1;have hdf:=abB c1o;refine bA (fun (g1:Int)=>0≤g1∧g1≤m_.length∧(m_.drop g1.toNat).any (GH l_.length)=m_.any (GH l_.length)) (fun (g1:Int)=>(m_.length - g1).toNat) ?_ ?_
  ·intro self1 g1 hig1 ihg1;obtain ⟨hg1_1,hg1_2,hg1_3⟩:=hig1;unfold Ee;refine wi (fun c2=>?_) (fun c2=>?_)
   ·have hlt:g1.toNat<m_.length:=om;rw [drop_cons dLimit hlt,List.any_cons] at hg1_3;refine wn ?_;refine bP (fun c3=>?_) (fun c3=>?_)
    ·have c3o:=c3;have c3:=nr c3;rw [Wd] at c3o;refine ah ?_;(rw [hdf,← hg1_3,c3o]; rfl)
    ·have c3o:=c3;have c3:=nr c3;rw [Wd] at c3o;refine wn ?_;refine ihg1 _ ?_ ?_
     ·(refine ⟨ob,ob,?_⟩; rw [← hg1_3,c3o,show (g1+1).toNat=g1.toNat+1 by omega]; rfl)
     ·exact ob
   ·refine ah ?_;(rw [hdf,← hg1_3,show g1.toNat=m_.length by omega,List.drop_length]; rfl)
  ·(refine ⟨ob,ob,rfl⟩)
theorem R3 {l_:(List aC)} {m_:(List bJ)} (h1:l_.length≤2000000) (h2:m_.length≤2000000):W (zM l_ m_) (fun r=>r=(bif cZ l_ != 0 then cZ l_ else bif !limsB l_ m_ then 1 else 0)):=by
 unfold zM;refine av (uw ob) fun v1 hv1=>?_;subst v1;refine bP (fun c1=>?_) (fun c1=>?_)
 ·have c1o:=c1;have c1:=nr c1;refine ah ?_;(rw [c1o]; rfl)
 ·have c1o:=c1;have c1:=nr c1;refine av (G6 ob ob) fun v2 hv2=>?_;subst v2;refine bP (fun c2=>?_) (fun c2=>?_)
  ·have c2o:=c2;have c2:=nr c2;refine ah ?_;(rw [c1o,c2o]; rfl)
  ·have c2o:=c2;have c2:=nr c2;refine ah ?_;(rw [c1o,c2o]; rfl)
theorem QO {c_:aC} {choice_:Int} (h1:Qr c_ choice_):W (xg c_ choice_) (fun r=>r=parF c_ choice_):=by
 have hp:=h1; unfold Qr at hp;unfold xg;refine bP (fun c1=>?_) (fun c1=>?_)
 ·have c1o:=c1;have c1:=nr c1;refine ah ?_;(unfold parF; rw [c1o]; rfl)
 ·have c1o:=c1;have c1:=nr c1;refine bP (fun c2=>?_) (fun c2=>?_)
  ·have c2o:=c2;have c2:=nr c2;refine wm ?_;refine ah ?_;(unfold parF; rw [c1o,c2o]; rfl)
  ·have c2o:=c2;have c2:=nr c2;refine wn ?_;refine ah ?_;(unfold parF; rw [c1o,c2o]; rfl)
theorem vZ {a_:Int} {b_:Int} (h1:0≤a_) (h2:0≤b_):W (mg a_ b_) (fun r=>r=gL a_ b_):=by
 unfold mg;refine bA (fun (g1:(Int×Int))=>0≤g1.1∧0≤g1.2∧gL g1.1 g1.2=gL a_ b_) (fun (g1:(Int×Int))=>g1.2.toNat) ?_ ?_
 ·intro self1 g1 hig1 ihg1;obtain ⟨hg1_1,hg1_2,hg1_3⟩:=hig1;unfold Bw;refine wi (fun c1=>?_) (fun c1=>?_)
  ·refine wn ?_;refine ihg1 _ ?_ ?_
   ·(refine ⟨ob,Int.tmod_nonneg _ om,?_⟩; dsimp only; rw [← hg1_3]; exact VL om om)
   ·(dsimp only; have:=K3 g1.1 g1.2 om; have:=Int.tmod_nonneg (a:=g1.1) g1.2 om; omega)
  ·refine ah ?_;(rw [← hg1_3]; unfold gL; have e:g1.2=0:=c1; rw [e]; simp; omega)
 ·exact ob
theorem uy {r_:bF}:W (nA r_) (fun r=>r=validR r_):=by
 unfold nA;refine av (eD fun hc=>jm (vZ (by have hc:=nr hc; omega) (by have hc:=nr hc; omega))) fun v1 hv1=>?_;subst v1;refine ah ?_;rfl
theorem G7 {k_:Int}:W (qR k_) (fun r=>r=rz k_):=by
 unfold qR;refine ah ?_;rfl
theorem N8 {num_:Int} {den_:Int} (h1:num_≤4611686018427387904) (h2:den_≤4611686018427387904):W (Bz num_ den_) (fun r=>r=newR num_ den_):=by
 unfold Bz;refine bP (fun c1=>?_) (fun c1=>?_)
 ·have c1o:=c1;have c1:=nr c1;refine ah ?_;(unfold newR; rw [c1o]; rfl)
 ·have c1o:=c1;have c1:=nr c1;have hg:=vk num_ den_ om; have q1:=tdiv_le num_ _ om hg; have q2:=tdiv_le den_ _ om hg;refine av (vZ ob ob) fun v1 hv1=>?_;subst v1;refine wm ?_;refine av (uy) fun v2 hv2=>?_;subst v2;refine bP (fun c2=>?_) (fun c2=>?_)
  ·have c2o:=c2;have c2:=nr c2;refine ah ?_;(unfold newR; rw [c1o]; simp only [cond_false]; rw [c2o]; rfl)
  ·have c2o:=c2;have c2:=nr c2;refine ah ?_;(unfold newR; rw [c1o]; simp only [cond_false]; rw [c2o]; rfl)
theorem Un {r_:bF} {k_:Int}:W (CY r_ k_) (fun r=>r=vo r_ k_):=by
 unfold CY;refine av (uy) fun v1 hv1=>?_;subst v1;refine bP (fun c1=>?_) (fun c1=>?_)
 ·have c1o:=c1;have c1:=nr c1;refine ah ?_;(unfold vo; rw [c1o]; rfl)
 ·have c1o:=c1;have c1:=nr c1;have hv:=jL (r:=r_) (by simpa using c1o);refine av (G7) fun v2 hv2=>?_;subst v2;refine bP (fun c2=>?_) (fun c2=>?_)
  ·have c2o:=c2;have c2:=nr c2;refine ah ?_;(unfold vo; rw [c1o,c2o]; rfl)
  ·have c2o:=c2;have c2:=nr c2;have hk:1≤k_∧k_≤64:=(by simp [rz] at c2o; omega);have q3:=MI (show 0≤k_ by omega) hk.2 (show 0≤r_.Den by omega) hv.2.2.2.1;refine wn ?_;refine av (N8 ob ob) fun v3 hv3=>?_;subst v3;refine ah ?_;(unfold vo; rw [c1o,c2o]; rfl)
theorem R4 {r_:bF} {k_:Int}:W (zN r_ k_) (fun r=>r=mD r_ k_):=by
 unfold zN;refine av (uy) fun v1 hv1=>?_;subst v1;refine bP (fun c1=>?_) (fun c1=>?_)
 ·have c1o:=c1;have c1:=nr c1;refine ah ?_;(unfold mD; rw [c1o]; rfl)
 ·have c1o:=c1;have c1:=nr c1;have hv:=jL (r:=r_) (by simpa using c1o);refine av (G7) fun v2 hv2=>?_;subst v2;refine bP (fun c2=>?_) (fun c2=>?_)
  ·have c2o:=c2;have c2:=nr c2;refine ah ?_;(unfold mD; rw [c1o,c2o]; rfl)
  ·have c2o:=c2;have c2:=nr c2;have hk:1≤k_∧k_≤64:=(by simp [rz] at c2o; omega);have hg:=vk k_ r_.Den om;have q1:=tdiv_le k_ _ om hg;have q2:=tdiv_le r_.Den _ om hg;have q4:=ad2 k_ r_.Den hk om;have q5:=tdiv_le 144115188075855872 _ om (show 0<k_.tdiv (gL k_ r_.Den) by omega);refine av (vZ ob ob) fun v3 hv3=>?_;subst v3;refine wm ?_;refine bP (fun c3=>?_) (fun c3=>?_)
   ·have c3o:=c3;have c3:=nr c3;refine ah ?_;(unfold mD; rw [c1o,c2o,c3o]; rfl)
   ·have c3o:=c3;have c3:=nr c3;have q3:=Zd r_.Num (k_.tdiv (gL k_ r_.Den)) hv.1 q4.1 om;refine wm ?_;refine wn ?_;refine av (N8 ob ob) fun v4 hv4=>?_;subst v4;refine ah ?_;(unfold mD; rw [c1o,c2o,c3o]; rfl)
theorem gM {l_:(List aC)} {s_:(List Int)} {g1:(Int×(List bF)×(List Bool))} {self1:(Int×(List bF)×(List Bool))→M ((List bF)×(List Bool))} {g7:(Bool×Int×Int)} {Q:((List bF)×(List Bool))→Prop} (ihg1:∀s':(Int×(List bF)×(List Bool)),(0≤s'.1∧s'.1≤l_.length∧s'.2.1=(MH l_ s_ s'.1.toNat).1∧s'.2.2=(MH l_ s_ s'.1.toNat).2)→(l_.length - s'.1).toNat<(l_.length - g1.1).toNat→W (self1 s') Q) (hc:0≤g1.1∧g1.1<l_.length∧l_.length≤1000∧g1.2.1=(MH l_ s_ g1.1.toNat).1∧g1.2.2=(MH l_ s_ g1.1.toNat).2∧((⟨g7.2.1,g7.2.2⟩:bF),g7.1)=(st1 (MH l_ s_ g1.1.toNat).1 (MH l_ s_ g1.1.toNat).2 (l_.getD g1.1.toNat aF) (s_.getD g1.1.toNat 0))):W (fU g1 self1 g7) Q:=by
 obtain ⟨hc_1,hc_2,hc_3,hc_4,hc_5,hc_6⟩:=hc;unfold fU;refine aZ (by (rw [hc_4,(Iy l_ s_ g1.1.toNat).1]; unfold big; omega)) ?_;refine aZ (by (rw [hc_5,(Iy l_ s_ g1.1.toNat).2]; unfold big; omega)) ?_;refine wn ?_;refine ihg1 _ ?_ ?_
 ·(refine ⟨ob,ob,?_,?_⟩; (dsimp only; rw [show (g1.1+1).toNat=g1.1.toNat+1 by omega,MH,← hc_6,← hc_4]); (dsimp only; rw [show (g1.1+1).toNat=g1.1.toNat+1 by omega,MH,← hc_6,← hc_5]))
 ·exact ob
theorem G8 {l_:(List aC)} {s_:(List Int)} (h1:Good l_ s_) (h2:Up l_ s_):W (qU l_ s_) (fun r=>r=JG l_ s_):=by
 obtain ⟨q1,q2,q3,q4,q5⟩:=h1;unfold qU;refine bA (fun (g1:(Int×(List bF)×(List Bool)))=>0≤g1.1∧g1.1≤l_.length∧g1.2.1=(MH l_ s_ g1.1.toNat).1∧g1.2.2=(MH l_ s_ g1.1.toNat).2) (fun (g1:(Int×(List bF)×(List Bool)))=>(l_.length - g1.1).toNat) ?_ ?_
 ·intro self1 g1 hig1 ihg1;obtain ⟨hg1_1,hg1_2,hg1_3,hg1_4⟩:=hig1;unfold Ef;have hst:=Iy l_ s_ g1.1.toNat;refine wi (fun c1=>?_) (fun c1=>?_)
  ·have hch:=q3 g1.1.toNat om;have hpar:=q5 g1.1.toNat om;have hpc:=q4 g1.1.toNat om;have hui:=h2 g1.1.toNat om;refine wm ?_;refine av (QO ob) fun v18 hv18=>?_;subst v18;refine wi (fun c2=>?_) (fun c2=>?_)
   ·refine wm ?_;unfold kR;refine wm ?_;refine bP (fun c3=>?_) (fun c3=>?_)
    ·have c3o:=c3;have c3:=nr c3;exact gM (l_:=l_) (s_:=s_) (fun a b c=>ihg1 a b c) (by (exfalso; have:=(show parF (l_.getD g1.1.toNat aF) (s_.getD g1.1.toNat 0) = -1 by unfold parF; rw [c3o]; rfl); omega))
    ·have c3o:=c3;have c3:=nr c3;refine bP (fun c4=>?_) (fun c4=>?_)
     ·have c4o:=c4;have c4:=nr c4;refine av (Un) fun v16 hv16=>?_;subst v16;exact gM (l_:=l_) (s_:=s_) (fun a b c=>ihg1 a b c) (by (refine ⟨ob,ob,ob,hg1_3,hg1_4,?_⟩; dsimp only; unfold st1; rw [c3o,c4o,← hg1_3,← hg1_4]; rfl))
     ·have c4o:=c4;have c4:=nr c4;refine bP (fun c5=>?_) (fun c5=>?_)
      ·have c5o:=c5;have c5:=nr c5;refine av (R4) fun v17 hv17=>?_;subst v17;exact gM (l_:=l_) (s_:=s_) (fun a b c=>ihg1 a b c) (by (refine ⟨ob,ob,ob,hg1_3,hg1_4,?_⟩; dsimp only; unfold st1; rw [c3o,c4o,c5o,← hg1_3,← hg1_4]; rfl))
      ·have c5o:=c5;have c5:=nr c5;refine bP (fun c6=>?_) (fun c6=>?_)
       ·have c6o:=c6;have c6:=nr c6;refine bP (fun c7=>?_) (fun c7=>?_)
        ·have c7o:=c7;have c7:=nr c7;exact gM (l_:=l_) (s_:=s_) (fun a b c=>ihg1 a b c) (by (refine ⟨ob,ob,ob,hg1_3,hg1_4,?_⟩; dsimp only; unfold st1; rw [c3o,c4o,c5o,c6o,c7o,← hg1_3,← hg1_4]; rfl))
        ·have c7o:=c7;have c7:=nr c7;exact gM (l_:=l_) (s_:=s_) (fun a b c=>ihg1 a b c) (by (refine ⟨ob,ob,ob,hg1_3,hg1_4,?_⟩; dsimp only; unfold st1; rw [c3o,c4o,c5o,c6o,c7o,← hg1_3,← hg1_4]; rfl))
       ·have c6o:=c6;have c6:=nr c6;exact gM (l_:=l_) (s_:=s_) (fun a b c=>ihg1 a b c) (by (refine ⟨ob,ob,ob,hg1_3,hg1_4,?_⟩; dsimp only; unfold st1; rw [c3o,c4o,c5o,c6o,← hg1_3,← hg1_4]; rfl))
   ·unfold kR;refine wm ?_;refine bP (fun c8=>?_) (fun c8=>?_)
    ·have c8o:=c8;have c8:=nr c8;exact gM (l_:=l_) (s_:=s_) (fun a b c=>ihg1 a b c) (by (refine ⟨ob,ob,ob,hg1_3,hg1_4,?_⟩; dsimp only; unfold st1; rw [c8o]; rfl))
    ·have c8o:=c8;have c8:=nr c8;exfalso; have:=hui (by simpa using c8o); omega
  ·refine ah ?_;(unfold JG; rw [hg1_3,hg1_4,show g1.1.toNat=l_.length by omega])
 ·(refine ⟨ob,ob,rfl,rfl⟩)
end Go.Proofs.YtfblhejmclcdmaaGreatDoor

namespace Go.Proofs.YtfblhejmclcdmaaGreatDoor
open Go.Ab
set_option maxRecDepth 100000
def ownY (r:List bF) (on:List Bool) (l:List aC) (j:Nat):Bool:=((on.getD j false)&&((l.getD j aF).High != 0))&&!mM (r.getD j dA) (l.getD j aF).Low (l.getD j aF).High
def Zx (l:List aC) (st:List bF×List Bool):Bool:=(List.range l.length).all fun i=>!ownY st.1 st.2 l i
def fitX (st:List bF×List Bool) (x:bJ):Bool:=!(st.2.getD x.Clock.toNat false)||!mM (st.1.getD x.Clock.toNat dA) x.Low x.High
def ED (l:List aC) (s:List Int) (m:List bJ):Bool:=!m.any (fitX (JG l s))&&Zx l (JG l s)
def VS (l:List aC) (s:List Int):Prop:=s.length=l.length∧∀i,i<l.length→0≤s.getD i 0∧s.getD i 0<(l.getD i aF).Choices.length
def sG:List aC→Nat
 | []=>1
 | c::l=>c.Choices.length*sG l
def Ca:List aC→List Int→Nat
 | c::l,x::t=>x.toNat*sG l+Ca l t
 | _,_=>0
theorem Uo {c:aC} {l:List aC} {s:List Int} (h:VS (c::l) s):∃x t,s=x::t∧0≤x∧x<c.Choices.length∧VS l t:=by
 obtain ⟨h1,h2⟩:=h;cases s with
 | nil=>cases h1
 | cons x t=>
  have h0:=h2 0 (by simp);exact ⟨x,t,rfl,h0.1,h0.2,by simpa using h1,fun i hi=>h2 (i+1) (by simpa using hi)⟩
theorem XG {l:List aC}:∀ {s:List Int},VS l s→Ca l s<sG l:=by
 induction l with
 | nil=>intro s _; cases s<;>simp [Ca,sG]
 | cons c l ih=>
  intro s h;obtain ⟨x,t,rfl,h1,h2,h3⟩:=Uo h;have:=ih h3;rw [Ca,sG];have h4:(x.toNat+1)*sG l≤c.Choices.length*sG l:=Nat.mul_le_mul_right _ om;rw [Nat.add_mul,Nat.one_mul] at h4;omega
theorem abC {l:List aC}:∀ {s:List Int},(∀j,j<l.length→s.getD j 0=0)→Ca l s=0:=by
 induction l with
 | nil=>intro s _; cases s<;>rfl
 | cons c l ih=>
  intro s h;cases s with
  | nil=>rfl
  | cons x t=>
   have h0:=h 0 (by simp);have h0:x=0:=h0;rw [Ca,h0,ih fun j hj=>h (j+1) (by simpa using hj)];simp
theorem acY {l:List aC}:∀ {s:List Int},VS l s→(∀j,j<l.length→s.getD j 0+1=(l.getD j aF).Choices.length)→Ca l s+1=sG l:=by
 induction l with
 | nil=>intro s h _; cases s<;>rfl
 | cons c l ih=>
  intro s hv h;obtain ⟨x,t,rfl,h1,h2,h3⟩:=Uo hv;have h0:x+1=c.Choices.length:=h 0 (by simp);have:=ih h3 fun j hj=>h (j+1) (by simpa using hj);rw [Ca,sG,show c.Choices.length=x.toNat+1 by omega,Nat.add_mul,Nat.one_mul];omega
theorem abD {l:List aC}:∀ {s t:List Int} {k:Nat},VS l s→k<l.length→t.length=l.length→(∀j,j<k→t.getD j 0=s.getD j 0)→t.getD k 0=s.getD k 0+1→(∀j,k<j→j<l.length→t.getD j 0=0∧s.getD j 0+1=(l.getD j aF).Choices.length)→Ca l t=Ca l s+1:=by
 induction l with
 | nil=>intro s t k _ h; exact absurd h (Nat.not_lt_zero _)
 | cons c l ih=>
  intro s t k hv hk hl h1 h2 h3;obtain ⟨x,s,rfl,g1,g2,g3⟩:=Uo hv;cases t with
  | nil=>cases hl
  | cons y t=>
   cases k with
   | zero=>
    have h2:y=x+1:=h2;have e1:=abC (l:=l) (s:=t) fun j hj=>(h3 (j+1) om (by simpa using hj)).1;have e2:=acY g3 fun j hj=>(h3 (j+1) om (by simpa using hj)).2;rw [Ca,Ca,e1,h2,show (x+1).toNat=x.toNat+1 by omega,Nat.add_mul,Nat.one_mul];omega
   | succ k=>
    have h0:y=x:=h1 0 om;have:=ih g3 (by simpa using hk) (by simpa using hl) (fun j hj=>h1 (j+1) om) h2 (fun j a b=>h3 (j+1) om (by simpa using b));rw [Ca,Ca,h0,this];omega
theorem acZ {l:List aC} {s t:List Int} {k:Nat} (hv:VS l s) (hk:k<l.length) (hl:t.length=l.length) (h1:∀j,j<k→t.getD j 0=s.getD j 0) (h2:t.getD k 0=s.getD k 0+1) (h3:∀j,k<j→j<l.length→t.getD j 0=0∧s.getD j 0+1=(l.getD j aF).Choices.length) (h4:s.getD k 0+1<(l.getD k aF).Choices.length):VS l t∧Ca l t=Ca l s+1:=by
 refine ⟨⟨hl,fun i hi=>?_⟩,abD hv hk hl h1 h2 h3⟩;have:=hv.2 i hi;rcases Nat.lt_trichotomy i k with h | h | h
 ·rw [h1 i h]; exact this
 ·subst h; omega
 ·have:=h3 i h hi; omega
theorem ac0 {l:List aC} {s:List Int} (h:VS l s):settB l s=true:=by
 unfold settB;rw [h.1,beq_self_eq_true,Bool.true_and,List.all_eq_true];intro i hi;have:=h.2 i (by have:=List.mem_range.1 hi; omega);exact (within_iff _ _ _).2 om
theorem Zy (l:List aC) (c:aC):sG (l++[c])=sG l*c.Choices.length:=by
 induction l with
 | nil=>simp [sG]
 | cons a l ih=>rw [List.cons_append,sG,sG,ih,Nat.mul_assoc]
theorem Zz {l:List aC} (h:∀c∈l,1≤c.Choices.length):jM l=Oi (sG l) 1099511627776:=by
 induction l using CP with
 | nil=>rfl
 | append_singleton l c ih=>
  have hc:=h c (by simp);rw [Ke,ih fun x hx=>h x (by simp [hx]),Zy,Int.natCast_mul];generalize ((sG l:Nat):Int)=a;generalize hb:(c.Choices.length:Int)=b;have hb1:1≤b:=by omega
  unfold Oi;by_cases h1:(1099511627776:Int)<a
  ·have h2:(1099511627776:Int)<a*b:=by
    have:=Int.mul_le_mul_of_nonneg_left hb1 (show 0≤a by omega);omega
   have h3:(1099511627776:Int)≤1099511627776*b:=by omega
   rw [if_pos h1,if_pos h2];split<;>omega
  ·rw [if_neg h1]
theorem size_le {l:List aC} (h:Rz l):sG l≤4096:=by
 have hp:=h.prod;rw [Zz fun c hc=>by
  obtain ⟨k,hk,rfl⟩:=List.mem_iff_getElem.1 hc;have:=GK (validC_choices (h.valid k hk));rw [List.getD_eq_getElem?_getD,List.getElem?_eq_getElem hk] at this;simp only [Option.getD_some] at this;omega] at hp
 unfold Oi at hp;split at hp<;>omega
theorem ac1 {l:List aC} (h:Rz l):VS l (List.replicate (l.length:Int).toNat 0):=by
 refine ⟨by simp,fun i hi=>?_⟩;have:=GK (validC_choices (h.valid i hi));rw [Sp.vv];omega
theorem ZA {l:List aC} {m:List bJ} (h:((bif cZ l != 0 then cZ l else bif !limsB l m then 1 else 0) != 0)=false):cZ l=0∧limsB l m=true:=by
 cases h1:cZ l != 0 with
 | true=>rw [h1] at h; simp only [cond_true] at h; rw [h1] at h; cases h
 | false=>
  cases h2:limsB l m with
  | false=>rw [h1,h2] at h; cases h
  | true=>exact ⟨by simpa using h1,rfl⟩
theorem ac2 {l:List aC} {m:List bJ} (h:limsB l m=true):∀x∈m,0≤x.Clock∧x.Clock<l.length:=fun x hx=>(GN (GR h x hx)).1
theorem yS {r_:bF} {low_:Int} {high_:Int}:W (nS r_ low_ high_) (fun r=>r=mM r_ low_ high_):=by
 unfold nS;refine av (uy) fun v1 hv1=>?_;subst v1;refine bP (fun c1=>?_) (fun c1=>?_)
 ·have c1o:=c1;have c1:=nr c1;refine ah ?_;(unfold mM; rw [show validR r_=false by simpa using c1o]; rfl)
 ·have c1o:=c1;have c1:=nr c1;have hv:=jL (r:=r_) (by simpa using c1o);have q1:=tdiv_le r_.Num r_.Den hv.1 om;refine wm ?_;refine ah ?_;(unfold mM; rw [show validR r_=true by simpa using c1o]; rfl)
theorem N9 {l_:(List aC)} {r_:(List bF)} {on_:(List Bool)} (h1:l_.length≤2000000) (h2:r_.length=l_.length) (h3:on_.length=l_.length):W (BA l_ r_ on_) (fun r=>r=Zx l_ (r_,on_)):=by
 unfold BA;refine bA (fun (g1:Int)=>0≤g1∧g1≤l_.length∧(∀j:Nat,(j:Int)<g1→ownY r_ on_ l_ j=false)) (fun (g1:Int)=>(l_.length - g1).toNat) ?_ ?_
 ·intro self1 g1 hig1 ihg1;obtain ⟨hg1_1,hg1_2,hg1_3⟩:=hig1;unfold KV;refine wi (fun c1=>?_) (fun c1=>?_)
  ·refine wm ?_;refine wn ?_;refine av (eD fun hc=>jm (yS)) fun v3 hv3=>?_;subst v3;refine bP (fun c2=>?_) (fun c2=>?_)
   ·have c2o:=c2;have c2:=nr c2;refine ah ?_;(unfold Zx; rw [rC (i:=g1.toNat) om (by rw [show ownY r_ on_ l_ g1.toNat=true from c2o]; rfl)])
   ·have c2o:=c2;have c2:=nr c2;refine wn ?_;refine ihg1 _ ?_ ?_
    ·(refine ⟨ob,ob,bY hg1_3 hg1_1 c2o⟩)
    ·exact ob
  ·refine ah ?_;(unfold Zx; rw [uh fun j hj=>(by rw [hg1_3 j om]; rfl)])
 ·(refine ⟨ob,ob,fun j hj=>by omega⟩)
theorem Uq {l_:(List aC)} {s_:(List Int)} {m_:(List bJ)} (h1:Good l_ s_) (h2:Up l_ s_) (h3:m_.length≤2000000) (h4:∀x∈m_,0≤x.Clock∧x.Clock<l_.length):W (CZ l_ s_ m_) (fun r=>r=ED l_ s_ m_):=by
 have hsm:=h1.small;have hst:=Iy l_ s_ l_.length;unfold CZ;refine av (G8 ob ob) fun v1 hv1=>?_;subst v1;have hs1:(JG l_ s_).1.length=l_.length:=hst.1;have hs2:(JG l_ s_).2.length=l_.length:=hst.2;refine bA (fun (g1:Int)=>0≤g1∧g1≤m_.length∧(m_.drop g1.toNat).any (fitX (JG l_ s_))=m_.any (fitX (JG l_ s_))) (fun (g1:Int)=>(m_.length - g1).toNat) ?_ ?_
 ·intro self1 g1 hig1 ihg1;obtain ⟨hg1_1,hg1_2,hg1_3⟩:=hig1;unfold Jt;refine wi (fun c1=>?_) (fun c1=>?_)
  ·have hlt:g1.toNat<m_.length:=om;have hx:=h4 _ (getD_in (i:=g1.toNat) dLimit hlt);rw [drop_cons dLimit hlt,List.any_cons] at hg1_3;refine wm ?_;refine wn ?_;refine av (eD fun hc=>jm (yS)) fun v4 hv4=>?_;subst v4;refine bP (fun c2=>?_) (fun c2=>?_)
   ·have c2o:=c2;have c2:=nr c2;refine ah ?_;(unfold ED; rw [← hg1_3,show fitX (JG l_ s_) (m_.getD g1.toNat dLimit)=true from c2o]; rfl)
   ·have c2o:=c2;have c2:=nr c2;refine wn ?_;refine ihg1 _ ?_ ?_
    ·(refine ⟨ob,ob,?_⟩; rw [← hg1_3,show fitX (JG l_ s_) (m_.getD g1.toNat dLimit)=false from c2o,show (g1+1).toNat=g1.toNat+1 by omega]; rfl)
    ·exact ob
  ·refine av (N9 ob ob ob) fun v5 hv5=>?_;subst v5;refine ah ?_;(unfold ED; rw [← hg1_3,show g1.toNat=m_.length by omega,List.drop_length]; rfl)
 ·(refine ⟨ob,ob,rfl⟩)
theorem Lp {l_:(List aC)} {s_:(List Int)} (h1:l_.length≤1000) (h2:VS l_ s_) (h3:∀i,i<l_.length→(l_.getD i aF).Choices.length≤2000000):W (C8 l_ s_) (fun r=>r.2=true→VS l_ r.1∧Ca l_ r.1=Ca l_ s_+1):=by
 obtain ⟨hsl,hsv⟩:=id h2;unfold C8;refine wm ?_;refine bA (fun (g1:(Int×(List Int))) => -1≤g1.1∧g1.1<l_.length∧g1.2.length=l_.length∧(∀j:Nat,(j:Int)≤g1.1→g1.2.getD j 0=s_.getD j 0)∧(∀j:Nat,g1.1<(j:Int)→j<l_.length→g1.2.getD j 0=0∧s_.getD j 0+1=(l_.getD j aF).Choices.length)) (fun (g1:(Int×(List Int)))=>(g1.1+1).toNat) ?_ ?_
 ·intro self1 g1 hig1 ihg1;obtain ⟨hg1_1,hg1_2,hg1_3,hg1_4,hg1_5⟩:=hig1;unfold Ju;refine wi (fun c1=>?_) (fun c1=>?_)
  ·have hv:=hsv g1.1.toNat om;have hc:=h3 g1.1.toNat om;have he:=hg1_4 g1.1.toNat om;have hgs:(g1.2.set g1.1.toNat (g1.2.getD g1.1.toNat 0+1)).getD g1.1.toNat 0=s_.getD g1.1.toNat 0+1:=(by rw [Sp.fB,if_pos ⟨rfl,om⟩,he]);have hgo:∀j,j≠g1.1.toNat→(g1.2.set g1.1.toNat (g1.2.getD g1.1.toNat 0+1)).getD j 0=g1.2.getD j 0:=fun j hj=>(by rw [Sp.fB,if_neg (fun e=>hj e.1)])
   refine wm ?_;refine wn ?_;unfold Ao;refine wm ?_;refine wi (fun c2=>?_) (fun c2=>?_)
   ·rw [hgs] at c2;refine ah ?_;(intro _; exact acZ h2 (k:=g1.1.toNat) om (by simpa using hg1_3) (fun j hj=>by rw [hgo j om]; exact hg1_4 j om) hgs (fun j h1 h2=>by rw [hgo j om]; exact hg1_5 j om h2) c2)
   ·rw [hgs] at c2;refine wm ?_;refine ihg1 _ ?_ ?_
    ·(refine ⟨ob,ob,by simpa using hg1_3,fun j hj=>?_,fun j h1 h2=>?_⟩; (dsimp only at hj ⊢; rw [Sp.fB,if_neg om,hgo j om]; exact hg1_4 j om); (dsimp only at h1 ⊢; rw [Sp.fB]; by_cases q:j=g1.1.toNat; (rw [if_pos ⟨q,by rw [List.length_set]; omega⟩,q]; omega); (rw [if_neg (fun e=>q e.1),hgo j q]; exact hg1_5 j om h2)))
    ·exact ob
  ·refine ah ?_;(exact nofun)
 ·(refine ⟨ob,ob,by simpa using hsl,fun j _=>rfl,fun j h1 h2=>by dsimp only at h1; omega⟩)
theorem Wh {l_:(List aC)} {m_:(List bJ)} (h1:cZ l_=0) (h2:m_.length≤2000000) (h3:∀x∈m_,0≤x.Clock∧x.Clock<l_.length):W (Iq l_ m_) (fun r=>∀s∈r,settB l_ s=true∧ED l_ s m_=true):=by
 have hf:=xE h1;have hsz:=size_le hf;have hlen:=hf.len;have hcb:∀i,i<l_.length→(l_.getD i aF).Choices.length≤2000000:=fun i hi=>by have:=hf.big i hi; omega
 unfold Iq;refine wn ?_;refine bA (fun (g1:((List Int)×Bool×(List (List Int))))=>(g1.2.1=true→VS l_ g1.1∧g1.2.2.length≤Ca l_ g1.1)∧(∀s∈g1.2.2,settB l_ s=true∧ED l_ s m_=true)) (fun (g1:((List Int)×Bool×(List (List Int))))=>bif g1.2.1 then sG l_ - Ca l_ g1.1+1 else 0) ?_ ?_
 ·intro self1 g1 hig1 ihg1;obtain ⟨hg1_1,hg1_2⟩:=hig1;unfold KW;refine bP (fun c1=>?_) (fun c1=>?_)
  ·have c1o:=c1;have c1:=nr c1;obtain ⟨hvs,hln⟩:=hg1_1 c1o;have hset:=ac0 hvs;have hpl:=XG hvs;unfold C9;refine av (Uq (K8 hf hset) (abd hf hset) h2 h3) fun v9 hv9=>?_;subst v9;refine bP (fun c2=>?_) (fun c2=>?_)
   ·have c2o:=c2;have c2:=nr c2;have hmem:∀s∈g1.2.2++[g1.1],settB l_ s=true∧ED l_ s m_=true:=fun s hs=>by rcases List.mem_append.1 hs with h | h; exact hg1_2 s h; (rw [List.mem_singleton] at h; rw [h]; exact ⟨hset,c2o⟩)
    refine wn ?_;unfold qV;refine av (Lp om hvs hcb) fun v8 hv8=>?_;refine ihg1 _ ?_ ?_
    ·(refine ⟨fun e=>⟨(hv8 e).1,by have:=(hv8 e).2; simp only [List.length_append,List.length_singleton]; omega⟩,hmem⟩)
    ·(dsimp only; rw [c1o]; cases e:v8.2 with | true=>(have:=(hv8 e).2; have:=XG (hv8 e).1; simp only [cond_true]; omega) | false=>(simp only [cond_true,cond_false]; omega))
   ·have c2o:=c2;have c2:=nr c2;unfold qV;refine av (Lp om hvs hcb) fun v8 hv8=>?_;refine ihg1 _ ?_ ?_
    ·(refine ⟨fun e=>⟨(hv8 e).1,by have:=(hv8 e).2; dsimp only; omega⟩,hg1_2⟩)
    ·(dsimp only; rw [c1o]; cases e:v8.2 with | true=>(have:=(hv8 e).2; have:=XG (hv8 e).1; simp only [cond_true]; omega) | false=>(simp only [cond_true,cond_false]; omega))
  ·have c1o:=c1;have c1:=nr c1;refine ah ?_;(exact hg1_2)
 ·(refine ⟨fun _=>⟨ac1 hf,Nat.zero_le _⟩,nofun⟩)
theorem R5 {l_:(List aC)} {m_:(List bJ)} (h1:l_.length≤2000000) (h2:m_.length≤2000000):W (zO l_ m_) (fun r=>r.2=0→settB l_ r.1=true∧ED l_ r.1 m_=true∧limsB l_ m_=true):=by
 unfold zO;refine av (R3 ob ob) fun v1 hv1=>?_;subst v1;refine bP (fun c1=>?_) (fun c1=>?_)
 ·have c1o:=c1;have c1:=nr c1;refine ah ?_;(intro e; exact absurd e c1)
 ·have c1o:=c1;have c1:=nr c1;obtain ⟨b1,b2⟩:=ZA c1o;refine av (Wh b1 h2 (ac2 b2)) fun v2 hv2=>?_;refine wi (fun c2=>?_) (fun c2=>?_)
  ·refine ah ?_;exact ob
  ·refine wn ?_;refine ah ?_;(intro _; have q:=hv2 _ (getD_in (i:=0) [] om); exact ⟨q.1,q.2,b2⟩)
end Go.Proofs.YtfblhejmclcdmaaGreatDoor


namespace Go.Proofs.YtfblhejmclcdmaaGreatDoor
open Go.Ab
set_option maxRecDepth 100000
structure MU (s:ByteArray):Prop where
 sz:0<s.size∧s.size≤16
 b0:97≤eO s 0∧eO s 0≤122
 bs:∀j:Nat,(j:Int)<s.size→eO s j=45∨(48≤eO s j∧eO s j≤57)∨(97≤eO s j∧eO s j≤122)
structure GpV (n:Int) (g:bG):Prop where
 ok:acU n g
 nw:MU g.Name
 so:∀k:Nat,1≤k→(k:Int)<g.bn.length→g.bn.getD (k - 1) 0<g.bn.getD k 0
 fw:∀j:Nat,(j:Int)<g.Functions.length→MU (g.Functions.getD j ByteArray.empty)
 fd:∀k j:Nat,j<k→(k:Int)<g.Functions.length→(g.Functions.getD j ByteArray.empty).toList≠(g.Functions.getD k ByteArray.empty).toList
structure aea (p:bg):Prop where
 ok:VZ p
 gr:∀i:Nat,(i:Int)<p.Groups.length→GpV p.bn (p.Groups.getD i ay)
 nm:∀i k:Nat,k<i→(i:Int)<p.Groups.length→(p.Groups.getD k ay).Name.toList≠(p.Groups.getD i ay).Name.toList
structure RsV (l:List cK):Prop where
 ok:abo l
 so:∀i:Nat,(i:Int)<l.length→∀k:Nat,1≤k→(k:Int)<((l.getD i dReset).After).length→((l.getD i dReset).After).getD (k - 1) 0<((l.getD i dReset).After).getD k 0
structure BdV (b:aU):Prop where
 cl:cZ b.bD=0
 su:Sp.cZ b.aV=0
 pn:aea b.aN
 rs:RsV b.Resets
 dm:Zp b.bI
def aeb (l:List Int):Prop:=∀i j:Nat,i<j→(j:Int)<l.length→l.getD i 0<l.getD j 0
theorem aec {l:List Int} (h:∀k:Nat,1≤k→(k:Int)<l.length→l.getD (k - 1) 0<l.getD k 0):aeb l:=by
 intro i j hij;induction j with
 | zero=>omega
 | succ j ih=>
  intro hj;have h1:=h (j+1) om hj;rw [Nat.add_sub_cancel] at h1;by_cases e:i=j
  ·rw [e]; exact h1
  ·have:=ih om om; omega
def aeQ (p:bg) (x y:Int):Prop:=∀i j:Nat,(i:Int)<(p.Groups.getD x.toNat ay).bn.length→(j:Int)<(p.Groups.getD y.toNat ay).bn.length→(p.Groups.getD x.toNat ay).bn.getD i 0≠(p.Groups.getD y.toNat ay).bn.getD j 0
def afx (p:bg) (x:Int) (f:ByteArray):Prop:=∃k:Nat,(k:Int)<(p.Groups.getD x.toNat ay).Functions.length∧((p.Groups.getD x.toNat ay).Functions.getD k ByteArray.empty).toList=f.toList
structure afy (p:bg) (l:List ByteArray) (gs:List Int):Prop where
 ir:∀x∈gs,0≤x∧x<p.Groups.length
 off:∀k:Nat,(k:Int)<gs.length→afx p (gs.getD k 0) (l.getD k ByteArray.empty)
 dj:∀k j:Nat,j<k→(k:Int)<gs.length→aeQ p (gs.getD j 0) (gs.getD k 0)
def aeR (l:List cK) (s:List Bool):Prop:=∀i:Nat,(i:Int)<l.length→s.getD i false=true→∀x∈(l.getD i dReset).After,s.getD x.toNat false=true
structure aeS (l:List bT) (s:List Bool):Prop where
 al:∀i:Nat,(i:Int)<l.length→(l.getD i dI).Always=true→s.getD i false=true
 pa:∀i:Nat,(i:Int)<l.length→s.getD i false=true→0≤(l.getD i dI).Parent→s.getD (l.getD i dI).Parent.toNat false=true
theorem ac3 {l:List Bool} {i j:Nat} {b:Bool} (h:i≠j):(l.set j b).getD i false=l.getD i false:=by
 rw [List.getD_eq_getElem?_getD,List.getElem?_set_ne (Ne.symm h),← List.getD_eq_getElem?_getD]
theorem ac4 {l:List Bool} {j:Nat} {b:Bool} (hj:j<l.length):(l.set j b).getD j false=b:=by
 rw [List.getD_eq_getElem?_getD,List.getElem?_set_self hj]; rfl
end Go.Proofs.YtfblhejmclcdmaaGreatDoor

namespace Go.Proofs.YtfblhejmclcdmaaGreatDoor
open Go.Ab
set_option maxRecDepth 100000
theorem Wi {p:bg} (h:aea p) {x:Int} (h0:0≤x) (h1:x<p.Groups.length):aeb (p.Groups.getD x.toNat ay).bn:=aec fun k h2 h3=>(h.gr x.toNat om).so k h2 h3
end Go.Proofs.YtfblhejmclcdmaaGreatDoor


namespace Go.Proofs.YtfblhejmclcdmaaGreatDoor
open Go.Ab
set_option maxRecDepth 100000
theorem ac5 (bs:ByteArray):∀(n i:Nat) (r:List UInt8),bs.size - i=n→ByteArray.toList.loop bs i r=r.reverse++bs.data.toList.drop i:=by
 intro n;induction n with
 | zero=>
  intro i r h;unfold ByteArray.toList.loop;rw [if_neg om,List.drop_eq_nil_of_le (by show bs.data.toList.length≤i; rw [Array.length_toList]; show bs.size≤i; omega),List.append_nil]
 | succ n ih=>
  intro i r h;unfold ByteArray.toList.loop;rw [if_pos om,ih (i+1) _ om,List.reverse_cons,List.append_assoc];have hi:i<bs.data.toList.length:=by rw [Array.length_toList]; show i<bs.size; omega
  rw [List.drop_eq_getElem_cons hi];congr 1;show bs.get! i::_=_;congr 1;unfold ByteArray.get!;rw [Array.getElem_toList];exact getElem!_pos bs.data i _
theorem Yp (b:ByteArray):b.toList=b.data.toList:=by
 unfold ByteArray.toList;rw [ac5 b _ 0 [] rfl]; rfl
theorem QS {a b:ByteArray} (h:a.toList=b.toList):a=b:=by
 rw [Yp,Yp] at h;cases a; cases b;congr;exact Array.toList_inj.1 h
theorem aeT {s:ByteArray} (h:0<s.size):(s.toList==({ data:=#[] }:ByteArray).toList)=false:=by
 rw [beq_eq_false_iff_ne];intro e;have:=QS e;rw [this] at h;exact absurd h (by decide)
theorem JZ {α:Type} {X:Nat→α} {j:Nat} {x:α}:upd X j x j=x:=Za X j x
theorem upd_ne {α:Type} {X:Nat→α} {i j:Nat} {x:α} (h:i≠j):upd X j x i=X i:=by
 unfold upd;cases e:Nat.beq i j with
 | true=>exact absurd (Nat.eq_of_beq_eq_true e) h
 | false=>rfl
def UsV (p:bg) (l:List iC):Prop:=(∀u∈l,QE p u)∧∀k j:Nat,j<k→(k:Int)<l.length→aeQ p (l.getD j dS).bW (l.getD k dS).bW
end Go.Proofs.YtfblhejmclcdmaaGreatDoor

namespace Go.Proofs.YtfblhejmclcdmaaGreatDoor
open Go.Ab
set_option maxRecDepth 100000
def ET (p:Prop) (c:Int) (A:Int→Prop) (r:Int):Prop:=(p∧r=c)∨(¬p∧A r)
theorem bZ {p:Prop} {c:Int} {A:Int→Prop} (h:p):ET p c A c:=.inl ⟨h,rfl⟩
theorem aD {p:Prop} {c:Int} {A:Int→Prop} {r:Int} (h:¬p) (a:A r):ET p c A r:=.inr ⟨h,a⟩
def Thn (A B:Int→Prop) (r:Int):Prop:=(A r∧r≠0)∨(A 0∧B r)
def Fst (n:Nat) (E:Nat→Int→Prop) (r:Int):Prop:=(∃i:Nat,i<n∧(∀k:Nat,k<i→E k 0)∧E i r∧r≠0)∨((∀k:Nat,k<n→E k 0)∧r=0)
def yT (A:Int→Prop):Prop:=∀a b,A a→A b→a=b
theorem yT.zero:yT (fun r=>r=0):=fun _ _ h k=>h.trans k.symm
theorem yT.Cv {p:Prop} {c:Int} {A:Int→Prop} (h:yT A):yT (ET p c A):=by
 rintro a b (⟨h1,h2⟩ | ⟨h1,h2⟩) (⟨h3,h4⟩ | ⟨h3,h4⟩)
 ·rw [h2,h4]
 ·exact absurd h1 h3
 ·exact absurd h3 h1
 ·exact h _ _ h2 h4
theorem yT.thn {A B:Int→Prop} (h:yT A) (k:yT B):yT (Thn A B):=by
 rintro a b (⟨h1,h2⟩ | ⟨h1,h2⟩) (⟨h3,h4⟩ | ⟨h3,h4⟩)
 ·exact h _ _ h1 h3
 ·exact absurd (h _ _ h1 h3) h2
 ·exact absurd (h _ _ h3 h1) h4
 ·exact k _ _ h2 h4
theorem yT.fst {n:Nat} {E:Nat→Int→Prop} (h:∀i,yT (E i)):yT (Fst n E):=by
 rintro a b (⟨i,h1,h2,h3,h4⟩ | ⟨h1,h2⟩) (⟨j,k1,k2,k3,k4⟩ | ⟨k1,k2⟩)
 ·rcases Nat.lt_trichotomy i j with q | q | q
  ·exact absurd (h _ _ _ h3 (k2 i q)) h4
  ·subst q; exact h _ _ _ h3 k3
  ·exact absurd (h _ _ _ k3 (h2 j q)) k4
 ·exact absurd (h _ _ _ h3 (k1 i h1)) h4
 ·exact absurd (h _ _ _ k3 (h1 j k1)) k4
 ·rw [h2,k2]
theorem Ay {A B:Int→Prop} {r:Int} (h:A r) (hr:r≠0):Thn A B r:=.inl ⟨h,hr⟩
theorem jg {A B:Int→Prop} {r:Int} (h:A 0) (k:B r):Thn A B r:=.inr ⟨h,k⟩
theorem Az {n:Nat} {E:Nat→Int→Prop} {r:Int} {i:Nat} (hi:i<n) (h:∀k:Nat,(k:Int)<i→E k 0) (he:E i r) (hr:r≠0):Fst n E r:=.inl ⟨i,hi,fun k hk=>h k om,he,hr⟩
theorem IE {n:Nat} {E:Nat→Int→Prop} (h:∀k:Nat,k<n→E k 0):Fst n E 0:=.inr ⟨h,rfl⟩
def abE (n:Int) (g:bG):Int→Prop:=
 ET ((g.bn.length:Int)=0∨(g.Functions.length:Int)=0) 9<|
 ET (8<(g.Functions.length:Int)) 3<|
 ET (∃j:Nat,(j:Int)<g.bn.length∧¬(0≤g.bn.getD j 0∧g.bn.getD j 0<n)) 2<|
 ET (∃j:Nat,1≤j∧(j:Int)<g.bn.length∧g.bn.getD j 0≤g.bn.getD (j - 1) 0) 12<|
 ET (∃j:Nat,(j:Int)<g.Functions.length∧¬MU (g.Functions.getD j ByteArray.empty)) 1<|
 ET (∃k j:Nat,j<k∧(k:Int)<g.Functions.length∧(g.Functions.getD j ByteArray.empty).toList=(g.Functions.getD k ByteArray.empty).toList) 5<|
 fun r=>r=0
theorem abE.fun {n:Int} {g:bG}:yT (abE n g):=.Cv (.Cv (.Cv (.Cv (.Cv (.Cv .zero)))))
def XH (p:bg) (i:Nat):Int→Prop:=
 ET (¬MU (p.Groups.getD i ay).Name) 1<|
 ET (∃k:Nat,k<i∧(p.Groups.getD k ay).Name.toList=(p.Groups.getD i ay).Name.toList) 5<|
 abE p.bn (p.Groups.getD i ay)
theorem XH.fun {p:bg} {i:Nat}:yT (XH p i):=.Cv (.Cv abE.fun)
def G9 (p:bg):Int→Prop:=
 ET (p.bn<0∨64<p.bn) 2<|
 ET (24<(p.Groups.length:Int)) 3<|
 Fst p.Groups.length (XH p)
theorem G9.fun {p:bg}:yT (G9 p):=.Cv (.Cv (.fst fun _=>XH.fun))
theorem AA {l:List Int} {g:Int} (h:∀j:Nat,(j:Int)<g→1≤j→l.getD (j - 1) 0<l.getD j 0) (hg:(l.length:Int)≤g):¬ ∃j:Nat,1≤j∧(j:Int)<l.length∧l.getD j 0≤l.getD (j - 1) 0:=fun ⟨j,h1,h2,h3⟩=>by
 have:=h j om h1;omega
theorem eu {P:Nat→Prop} {n:Nat} {g:Int} (h:∀j:Nat,(j:Int)<g→P j) (hg:(n:Int)≤g):¬ ∃j:Nat,(j:Int)<n∧¬P j:=fun ⟨j,h1,h2⟩=>h2 (h j om)
theorem Dq {s_:ByteArray}:W (xR s_) (fun r=>r=true↔MU s_):=by
 unfold xR;refine aZ (by (intro hc; have:=QF hc; omega)) ?_;refine aZ (by (intro hc; simp only [Bool.or_eq_false_iff] at hc; have:=QF (s:=s_) (by simp only [Bool.or_eq_false_iff]; exact hc.1); omega)) ?_;refine bP (fun c1=>?_) (fun c1=>?_)
 ·have c1o:=c1;have c1:=nr c1;refine ah ?_;(constructor; (intro e; cases e); (rintro ⟨⟨a1,a2⟩,⟨a3,a4⟩,a5⟩; simp only [Bool.or_eq_true,decide_eq_true_eq] at c1o; rcases c1o with ((c | c) | c) | c; (rw [aeT a1] at c; cases c); all_goals omega))
 ·have c1o:=c1;have c1:=nr c1;have hsz:0<s_.size∧s_.size≤16:=Zq c1o;refine bA (fun (g1:Int)=>1≤g1∧(∀j:Nat,(j:Int)<g1→1≤j→eO s_ j=45∨(48≤eO s_ j∧eO s_ j≤57)∨(97≤eO s_ j∧eO s_ j≤122))) (fun (g1:Int)=>(s_.size - g1).toNat) ?_ ?_
  ·intro self1 g1 hig1 ihg1;obtain ⟨hg1_1,hg1_2⟩:=hig1;unfold KT;refine wi (fun c2=>?_) (fun c2=>?_)
   ·refine wn ?_;refine wi (fun c3=>?_) (fun c3=>?_)
    ·refine ah ?_;(constructor; (intro e; cases e); (rintro ⟨_,_,a5⟩; have:=a5 g1.toNat om; omega))
    ·refine wn ?_;refine ihg1 _ ?_ ?_
     ·(refine ⟨ob,fun j h1 h2=>?_⟩; by_cases q:(j:Int)<g1; (exact hg1_2 j q h2); (have e:j=g1.toNat:=by omega); subst e; omega)
     ·exact ob
   ·refine ah ?_;(constructor; (intro _; refine ⟨om,om,fun j hj=>?_⟩; by_cases q:j=0; (subst q; exact .inr (.inr ⟨om,om⟩)); exact hg1_2 j om om); (intro _; rfl))
  ·(refine ⟨ob,fun j h1 h2=>by omega⟩)
theorem AB {s_:ByteArray}:W (lN s_) (fun r=>r=true↔MU s_):=by
 unfold lN;refine aZ (by (intro hc; simp only [Bool.or_eq_false_iff,beq_eq_false_iff_ne] at hc; omega)) ?_;refine aZ (by (intro hc; simp only [Bool.or_eq_false_iff,beq_eq_false_iff_ne] at hc; omega)) ?_;refine bP (fun c1=>?_) (fun c1=>?_)
 ·have c1o:=c1;have c1:=nr c1;refine ah ?_;(constructor; (intro e; cases e); (rintro ⟨a1,a3,a5⟩; omega))
 ·have c1o:=c1;have c1:=nr c1;have hsz:s_.size≤16:=(by simp only [Bool.or_eq_false_iff] at c1o; have:=of_decide_eq_false c1o.1.1.2; omega);refine bA (fun (g1:Int)=>0≤g1∧(∀j:Nat,(j:Int)<g1→eO s_ j=45∨(48≤eO s_ j∧eO s_ j≤57)∨(97≤eO s_ j∧eO s_ j≤122))) (fun (g1:Int)=>(s_.size - g1).toNat) ?_ ?_
  ·intro self1 g1 hig1 ihg1;obtain ⟨hg1_1,hg1_2⟩:=hig1;unfold Ap;refine wi (fun c2=>?_) (fun c2=>?_)
   ·refine wm ?_;refine wm ?_;refine wn ?_;refine wi (fun c3=>?_) (fun c3=>?_)
    ·refine ah ?_;(constructor; (intro e; cases e); (rintro ⟨_,_,a5⟩; have:=a5 g1.toNat om; omega))
    ·refine wn ?_;refine ihg1 _ ?_ ?_
     ·(refine ⟨ob,bY hg1_2 hg1_1 om⟩)
     ·exact ob
   ·refine ah ?_;(constructor; (intro _; exact ⟨om,om,fun j hj=>hg1_2 j om⟩); intro _; rfl)
  ·(refine ⟨ob,fun j hj=>by (try dsimp only at hj); omega⟩)
theorem Dr {s_:(List ByteArray)} {v_:ByteArray} (h1:s_.length≤2000000):W (slices_Index_string s_ v_) (fun r=>(0≤r↔∃j:Nat,(j:Int)<s_.length∧(s_.getD j ByteArray.empty).toList=v_.toList)):=by
 unfold slices_Index_string;refine bA (fun (g1:Int)=>0≤g1∧(∀j:Nat,(j:Int)<g1→(s_.getD j ByteArray.empty).toList≠v_.toList)) (fun (g1:Int)=>(s_.length - g1).toNat) ?_ ?_
 ·intro self1 g1 hig1 ihg1;obtain ⟨hg1_1,hg1_2⟩:=hig1;unfold qL;refine wi (fun c1=>?_) (fun c1=>?_)
  ·refine wn ?_;refine wi (fun c2=>?_) (fun c2=>?_)
   ·refine ah ?_;(constructor; (intro _; exact ⟨g1.toNat,om,c2.symm⟩); (intro _; omega))
   ·refine wn ?_;refine ihg1 _ ?_ ?_
    ·(refine ⟨ob,bY hg1_2 hg1_1 (fun e=>c2 e.symm)⟩)
    ·exact ob
  ·refine ah ?_;(constructor; (intro e; omega); (rintro ⟨j,h1,h2⟩; exact absurd h2 (hg1_2 j om)))
 ·(refine ⟨ob,fun j hj=>by (try dsimp only at hj); omega⟩)
theorem zq {s_:(List ByteArray)} {v_:ByteArray} (h1:s_.length≤2000000):W (slices_Contains_string s_ v_) (fun r=>r=true↔∃j:Nat,(j:Int)<s_.length∧(s_.getD j ByteArray.empty).toList=v_.toList):=by
 unfold slices_Contains_string;refine av (Dr ob) fun v1 hv1=>?_;refine ah ?_;(rw [← hv1]; simp)
theorem R6 {pins_:Int} {g_:bG} (h1:g_.bn.length≤2000000) (h2:g_.Functions.length≤2000000):W (CU pins_ g_) (fun r=>abE pins_ g_ r):=by
 unfold CU;refine wi (fun c1=>?_) (fun c1=>?_)
 ·refine ah ?_;exact bZ c1
 ·refine wi (fun c2=>?_) (fun c2=>?_)
  ·refine ah ?_;exact aD om (bZ c2)
  ·refine bA (fun (g1:Int)=>0≤g1∧(∀j:Nat,(j:Int)<g1→0≤g_.bn.getD j 0∧g_.bn.getD j 0<pins_)) (fun (g1:Int)=>(g_.bn.length - g1).toNat) ?_ ?_
   ·intro self1 g1 hig1 ihg1;obtain ⟨hg1_1,hg1_2⟩:=hig1;unfold Jl;refine wi (fun c3=>?_) (fun c3=>?_)
    ·refine wn ?_;refine wi (fun c4=>?_) (fun c4=>?_)
     ·refine ah ?_;exact aD om (aD om (bZ ⟨g1.toNat,om,om⟩))
     ·refine wn ?_;refine ihg1 _ ?_ ?_
      ·(refine ⟨ob,bY hg1_2 hg1_1 om⟩)
      ·exact ob
    ·refine bA (fun (g2:Int)=>1≤g2∧(∀j:Nat,(j:Int)<g2→1≤j→g_.bn.getD (j - 1) 0<g_.bn.getD j 0)) (fun (g2:Int)=>(g_.bn.length - g2).toNat) ?_ ?_
     ·intro self2 g2 hig2 ihg2;obtain ⟨hg2_1,hg2_2⟩:=hig2;unfold FV;refine wi (fun c5=>?_) (fun c5=>?_)
      ·refine wm ?_;refine wn ?_;refine wi (fun c6=>?_) (fun c6=>?_)
       ·refine ah ?_;exact aD om (aD om (aD (eu hg1_2 om) (bZ ⟨g2.toNat,om,om,by rw [show g2.toNat - 1=(g2 - 1).toNat by omega]; omega⟩)))
       ·refine wn ?_;refine ihg2 _ ?_ ?_
        ·(refine ⟨ob,fun j h1 h2=>?_⟩; by_cases q:(j:Int)<g2; (exact hg2_2 j q h2); (have e:j=g2.toNat:=by omega); subst e; rw [show g2.toNat - 1=(g2 - 1).toNat by omega]; omega)
        ·exact ob
      ·refine bA (fun (g3:Int)=>0≤g3∧(∀j:Nat,(j:Int)<g3→MU (g_.Functions.getD j ByteArray.empty))) (fun (g3:Int)=>(g_.Functions.length - g3).toNat) ?_ ?_
       ·intro self3 g3 hig3 ihg3;obtain ⟨hg3_1,hg3_2⟩:=hig3;unfold FU;refine wi (fun c7=>?_) (fun c7=>?_)
        ·refine wn ?_;refine av (Dq) fun v3 hv3=>?_;refine bP (fun c8=>?_) (fun c8=>?_)
         ·have c8o:=c8;have c8:=nr c8;refine ah ?_;exact aD om (aD om (aD (eu hg1_2 om) (aD (AA hg2_2 om) (bZ ⟨g3.toNat,om,fun h=>by simp [hv3.2 h] at c8o⟩))))
         ·have c8o:=c8;have c8:=nr c8;refine wn ?_;refine ihg3 _ ?_ ?_
          ·(refine ⟨ob,bY hg3_2 hg3_1 (hv3.1 (by simpa using c8o))⟩)
          ·exact ob
        ·refine bA (fun (g4:Int)=>0≤g4∧(∀k:Nat,(k:Int)<g4→∀j:Nat,j<k→(g_.Functions.getD j ByteArray.empty).toList≠(g_.Functions.getD k ByteArray.empty).toList)) (fun (g4:Int)=>(g_.Functions.length - g4).toNat) ?_ ?_
         ·intro self4 g4 hig4 ihg4;obtain ⟨hg4_1,hg4_2⟩:=hig4;unfold FT;refine wi (fun c9=>?_) (fun c9=>?_)
          ·refine wm ?_;refine av (zq ob) fun v6 hv6=>?_;refine bP (fun c10=>?_) (fun c10=>?_)
           ·have c10o:=c10;have c10:=nr c10;refine ah ?_;(exact aD om (aD om (aD (eu hg1_2 om) (aD (AA hg2_2 om) (aD (eu hg3_2 om) (bZ (by obtain ⟨j,h1,h2⟩:=hv6.1 c10; rw [List.length_take] at h1; rw [nT _ _ _ _ om] at h2; exact ⟨g4.toNat,j,om,om,h2⟩)))))))
           ·have c10o:=c10;have c10:=nr c10;refine wn ?_;refine ihg4 _ ?_ ?_
            ·(refine ⟨ob,fun k hk j hj=>?_⟩; by_cases q:(k:Int)<g4; (exact hg4_2 k q j hj); (have e:k=g4.toNat:=by omega); subst e; intro e2; have:=hv6.2 ⟨j,by rw [List.length_take]; omega,by rw [nT _ _ _ _ om]; exact e2⟩; simp [this] at c10o)
            ·exact ob
          ·refine ah ?_;(exact aD om (aD om (aD (eu hg1_2 om) (aD (AA hg2_2 om) (aD (eu hg3_2 om) (aD (fun ⟨k,j,h1,h2,h3⟩=>hg4_2 k om j h1 h3) rfl))))))
         ·(refine ⟨ob,fun j h1 h2=>by omega⟩)
       ·(refine ⟨ob,fun j hj=>by (try dsimp only at hj); omega⟩)
     ·(refine ⟨ob,fun j h1 h2=>by omega⟩)
   ·(refine ⟨ob,fun j hj=>by (try dsimp only at hj); omega⟩)
theorem QT {p_:bg} {i_:Int} (h1:0≤i_) (h2:i_<p_.Groups.length) (h3:p_.Groups.length≤2000000) (h4:∀g∈p_.Groups,g.bn.length≤2000000∧g.Functions.length≤2000000):W (qm p_ i_) (fun r=>XH p_ i_.toNat r):=by
 have hgl:=h4 _ (getD_in (i:=i_.toNat) ay om);unfold qm;refine wn ?_;refine av (AB) fun v1 hv1=>?_;refine bP (fun c1=>?_) (fun c1=>?_)
 ·have c1o:=c1;have c1:=nr c1;refine ah ?_;exact bZ (fun h=>by simp [hv1.2 h] at c1o)
 ·have c1o:=c1;have c1:=nr c1;refine bA (fun (g1:Int)=>0≤g1∧(∀k:Nat,(k:Int)<g1→(p_.Groups.getD k ay).Name.toList≠(p_.Groups.getD i_.toNat ay).Name.toList)) (fun (g1:Int)=>(i_ - g1).toNat) ?_ ?_
  ·intro self1 g1 hig1 ihg1;obtain ⟨hg1_1,hg1_2⟩:=hig1;unfold yF;refine wi (fun c2=>?_) (fun c2=>?_)
   ·refine wn ?_;refine wi (fun c3=>?_) (fun c3=>?_)
    ·refine ah ?_;(exact aD (fun h=>h (hv1.1 (by simpa using c1o))) (bZ ⟨g1.toNat,om,c3⟩))
    ·refine wn ?_;refine ihg1 _ ?_ ?_
     ·(refine ⟨ob,bY hg1_2 hg1_1 c3⟩)
     ·exact ob
   ·refine wi (fun c4=>?_) (fun c4=>?_)
    ·refine ah ?_;(exact aD (fun h=>h (hv1.1 (by simpa using c1o))) (aD (fun ⟨k,h1,h2⟩=>hg1_2 k om h2) (bZ c4)))
    ·refine wi (fun c5=>?_) (fun c5=>?_)
     ·refine ah ?_;(exact aD (fun h=>h (hv1.1 (by simpa using c1o))) (aD (fun ⟨k,h1,h2⟩=>hg1_2 k om h2) (aD om (bZ c5))))
     ·refine bA (fun (g2:Int)=>0≤g2∧(∀j:Nat,(j:Int)<g2→0≤(p_.Groups.getD i_.toNat ay).bn.getD j 0∧(p_.Groups.getD i_.toNat ay).bn.getD j 0<p_.bn)) (fun (g2:Int)=>((p_.Groups.getD i_.toNat ay).bn.length - g2).toNat) ?_ ?_
      ·intro self2 g2 hig2 ihg2;obtain ⟨hg2_1,hg2_2⟩:=hig2;unfold vS;refine wi (fun c6=>?_) (fun c6=>?_)
       ·refine wm ?_;refine wi (fun c7=>?_) (fun c7=>?_)
        ·refine ah ?_;exact aD (fun h=>h (hv1.1 (by simpa using c1o))) (aD (fun ⟨k,h1,h2⟩=>hg1_2 k om h2) (aD om (aD om (bZ ⟨g2.toNat,om,om⟩))))
        ·refine wn ?_;refine ihg2 _ ?_ ?_
         ·(refine ⟨ob,bY hg2_2 hg2_1 om⟩)
         ·exact ob
       ·refine bA (fun (g3:Int)=>1≤g3∧(∀j:Nat,(j:Int)<g3→1≤j→(p_.Groups.getD i_.toNat ay).bn.getD (j - 1) 0<(p_.Groups.getD i_.toNat ay).bn.getD j 0)) (fun (g3:Int)=>((p_.Groups.getD i_.toNat ay).bn.length - g3).toNat) ?_ ?_
        ·intro self3 g3 hig3 ihg3;obtain ⟨hg3_1,hg3_2⟩:=hig3;unfold vR;refine wi (fun c8=>?_) (fun c8=>?_)
         ·refine wm ?_;refine wn ?_;refine wi (fun c9=>?_) (fun c9=>?_)
          ·refine ah ?_;exact aD (fun h=>h (hv1.1 (by simpa using c1o))) (aD (fun ⟨k,h1,h2⟩=>hg1_2 k om h2) (aD om (aD om (aD (eu hg2_2 om) (bZ ⟨g3.toNat,om,om,by rw [show g3.toNat - 1=(g3 - 1).toNat by omega]; omega⟩)))))
          ·refine wn ?_;refine ihg3 _ ?_ ?_
           ·(refine ⟨ob,fun j h1 h2=>?_⟩; by_cases q:(j:Int)<g3; (exact hg3_2 j q h2); (have e:j=g3.toNat:=by omega); subst e; rw [show g3.toNat - 1=(g3 - 1).toNat by omega]; omega)
           ·exact ob
         ·refine bA (fun (g4:Int)=>0≤g4∧(∀j:Nat,(j:Int)<g4→MU ((p_.Groups.getD i_.toNat ay).Functions.getD j ByteArray.empty))) (fun (g4:Int)=>((p_.Groups.getD i_.toNat ay).Functions.length - g4).toNat) ?_ ?_
          ·intro self4 g4 hig4 ihg4;obtain ⟨hg4_1,hg4_2⟩:=hig4;unfold vQ;refine wi (fun c10=>?_) (fun c10=>?_)
           ·refine wn ?_;refine av (AB) fun v4 hv4=>?_;refine bP (fun c11=>?_) (fun c11=>?_)
            ·have c11o:=c11;have c11:=nr c11;refine ah ?_;exact aD (fun h=>h (hv1.1 (by simpa using c1o))) (aD (fun ⟨k,h1,h2⟩=>hg1_2 k om h2) (aD om (aD om (aD (eu hg2_2 om) (aD (AA hg3_2 om) (bZ ⟨g4.toNat,om,fun h=>by simp [hv4.2 h] at c11o⟩))))))
            ·have c11o:=c11;have c11:=nr c11;refine wn ?_;refine ihg4 _ ?_ ?_
             ·(refine ⟨ob,bY hg4_2 hg4_1 (hv4.1 (by simpa using c11o))⟩)
             ·exact ob
           ·refine bA (fun (g5:Int)=>0≤g5∧(∀k:Nat,(k:Int)<g5→∀j:Nat,j<k→((p_.Groups.getD i_.toNat ay).Functions.getD j ByteArray.empty).toList≠((p_.Groups.getD i_.toNat ay).Functions.getD k ByteArray.empty).toList)) (fun (g5:Int)=>((p_.Groups.getD i_.toNat ay).Functions.length - g5).toNat) ?_ ?_
            ·intro self5 g5 hig5 ihg5;obtain ⟨hg5_1,hg5_2⟩:=hig5;unfold vP;refine wi (fun c12=>?_) (fun c12=>?_)
             ·refine bA (fun (g8:Int)=>0≤g8∧(∀j:Nat,(j:Int)<g8→((p_.Groups.getD i_.toNat ay).Functions.getD j ByteArray.empty).toList≠((p_.Groups.getD i_.toNat ay).Functions.getD g5.toNat ByteArray.empty).toList)) (fun (g8:Int)=>(g5 - g8).toNat) ?_ ?_
              ·intro self8 g8 hig8 ihg8;obtain ⟨hg8_1,hg8_2⟩:=hig8;unfold vO;refine wi (fun c13=>?_) (fun c13=>?_)
               ·refine wm ?_;refine wi (fun c14=>?_) (fun c14=>?_)
                ·refine ah ?_;(exact aD (fun h=>h (hv1.1 (by simpa using c1o))) (aD (fun ⟨k,h1,h2⟩=>hg1_2 k om h2) (aD om (aD om (aD (eu hg2_2 om) (aD (AA hg3_2 om) (aD (eu hg4_2 om) (bZ ⟨g5.toNat,g8.toNat,om,om,c14⟩))))))))
                ·refine wn ?_;refine ihg8 _ ?_ ?_
                 ·(refine ⟨ob,bY hg8_2 hg8_1 c14⟩)
                 ·exact ob
               ·refine wn ?_;refine ihg5 _ ?_ ?_
                ·(refine ⟨ob,fun k hk j hj=>?_⟩; by_cases q:(k:Int)<g5; (exact hg5_2 k q j hj); (have e:k=g5.toNat:=by omega); subst e; exact hg8_2 j om)
                ·exact ob
              ·(refine ⟨ob,fun j hj=>by (try dsimp only at hj); omega⟩)
             ·refine ah ?_;(exact aD (fun h=>h (hv1.1 (by simpa using c1o))) (aD (fun ⟨k,h1,h2⟩=>hg1_2 k om h2) (aD om (aD om (aD (eu hg2_2 om) (aD (AA hg3_2 om) (aD (eu hg4_2 om) (aD (fun ⟨k,j,h1,h2,h3⟩=>hg5_2 k om j h1 h3) rfl))))))))
            ·(refine ⟨ob,fun j h1 h2=>by omega⟩)
          ·(refine ⟨ob,fun j hj=>by (try dsimp only at hj); omega⟩)
        ·(refine ⟨ob,fun j h1 h2=>by omega⟩)
      ·(refine ⟨ob,fun j hj=>by (try dsimp only at hj); omega⟩)
  ·(refine ⟨ob,fun j hj=>by (try dsimp only at hj); omega⟩)
end Go.Proofs.YtfblhejmclcdmaaGreatDoor

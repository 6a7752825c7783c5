/- An abstract machine over the model's code, that it is sound; models of the functions and their proofs. -/
import Derived.Test.YtfblhejmclcdmaaGreatDoorA5
set_option linter.unusedVariables false
set_option linter.unusedSimpArgs false


namespace Go.Proofs.YtfblhejmclcdmaaGreatDoor.Sp
open Go.Ab
set_option maxRecDepth 100000
theorem eZ {n_:Int} {lo_:Int} {hi_:Int}:W (eD n_ lo_ hi_) (fun r=>r=withinF n_ lo_ hi_):=by
 unfold eD;refine ak ?_;rfl
theorem J5 {s_:aj}:W (lV s_) (fun r=>r=bigS s_):=by
 unfold lV;refine ak ?_;rfl
theorem qZ {s_:(List aj)} (h1:s_.length≤1000000):W (iO s_) (fun r=>r=s_.any (bigS)):=
 Dh (Gg (Gf (p:=fun x=>lV x) (P:=bigS) (fun x hx=>iJ (J5)) (by omega)) (nK _ _))
theorem Nr {s_:aj} {at_:Int} (h1:0≤at_) (h2:at_≤1000000) (h3:s_.aU.length≤1000000):W (uM s_ at_) (fun r=>r=validS s_ at_):=by
 unfold uM;refine wn ?_;refine ay (eZ) fun v1 hv1=>?_;subst v1;refine ay (dF fun hc=>iJ (eZ)) fun v2 hv2=>?_;subst v2;refine ay (dF fun hc=>iJ (eZ)) fun v3 hv3=>?_;subst v3;refine aD (fun c1=>?_) (fun c1=>?_)
 ·have c1o:=c1;have c1:=nr c1;refine ak ?_;(unfold validS; rw [show headB s_ at_=true from c1o]; rfl)
 ·have c1o:=c1;have c1:=nr c1;refine bD (fun (g1:Int)=>0≤g1∧g1≤s_.aU.length∧JZ (if g1.toNat=0 then 0 else s_.aU.getD (g1.toNat - 1) 0) (s_.aU.drop g1.toNat)=JZ 0 s_.aU) (fun (g1:Int)=>(s_.aU.length - g1).toNat) ?_ ?_
  ·intro self1 g1 hig1 ihg1;obtain ⟨hg1_1,hg1_2,hg1_3⟩:=hig1;unfold Bh;obtain ⟨i,rfl⟩:=Int.eq_ofNat_of_zero_le hg1_1;refine aD (fun c2=>?_) (fun c2=>?_)
   ·have c2:=nr c2;have hlt:i<s_.aU.length:=(by omega);have hst:=S9 hlt rfl;rw [show ((i:Int).toNat)=i from rfl] at hg1_3;rw [hst] at hg1_3;have e1:(((i:Int) - 1).toNat)=i - 1:=(by omega);simp only [e1,Int.toNat_natCast] at *;refine wn ?_;refine ay (eZ) fun v6 hv6=>?_;subst v6;refine wn ?_;refine wn ?_;refine aD (fun c3=>?_) (fun c3=>?_)
    ·have c3o:=c3;have c3:=nr c3;refine ak ?_;(unfold validS; rw [show headB s_ at_=false from c1o,← hg1_3]; rw [c3o]; rfl)
    ·have c3o:=c3;have c3:=nr c3;refine wn ?_;refine ihg1 _ ?_ ?_
     ·(refine ⟨by exact ob,by exact ob,?_⟩; rw [← hg1_3,c3o]; rw [show ((i:Int)+1).toNat=i+1 by omega,if_neg (by omega)]; rfl)
     ·exact ob
   ·have c2:=nr c2;refine ak ?_;have e:i=s_.aU.length:=(by omega);unfold validS; rw [show headB s_ at_=false from c1o,← hg1_3,show (i:Int).toNat=i from rfl,e,List.drop_length]; rfl
  ·(refine ⟨by exact ob,by exact ob,rfl⟩)
theorem wI {l_:(List aj)} (h1:l_.length≤1000000):W (mF l_) (fun r=>r=bW l_):=by
 unfold mF;refine ay (dF fun hc=>iJ (qZ ob)) fun v1 hv1=>?_;subst v1;refine aD (fun c1=>?_) (fun c1=>?_)
 ·have c1o:=c1;have c1:=nr c1;refine ak ?_;(unfold bW; rw [c1o]; rfl)
 ·have c1o:=c1;have c1:=nr c1;have hbig:∀i:Nat,i<l_.length→bigS (l_.getD i ah)=false:=jK ah (by have:=c1o; simp only [Bool.or_eq_false_iff] at this; exact this.2);refine bD (fun (g1:Int)=>0≤g1∧g1≤l_.length∧J2 g1.toNat (l_.drop g1.toNat)=J2 0 l_) (fun (g1:Int)=>(l_.length - g1).toNat) ?_ ?_
  ·intro self1 g1 hig1 ihg1;obtain ⟨hg1_1,hg1_2,hg1_3⟩:=hig1;unfold Bj;obtain ⟨i,rfl⟩:=Int.eq_ofNat_of_zero_le hg1_1;refine aD (fun c2=>?_) (fun c2=>?_)
   ·have c2:=nr c2;have hlt:i<l_.length:=(by omega);have hb:=hbig i hlt;have hbl:(l_.getD i ah).aU.length≤16:=(by unfold bigS at hb; have:=of_decide_eq_false hb; omega);rw [show ((i:Int).toNat)=i from rfl,drop_cons ah hlt,J2] at hg1_3;simp only [Int.toNat_natCast] at *;refine wn ?_;refine ay (Nr (by omega) (by omega) (by omega)) fun v4 hv4=>?_;subst v4;refine aD (fun c3=>?_) (fun c3=>?_)
    ·have c3o:=c3;have c3:=nr c3;refine ak ?_;(unfold bW; rw [c1o,← hg1_3,show validS (l_.getD i ah) i=false by simpa using c3o]; rfl)
    ·have c3o:=c3;have c3:=nr c3;refine wn ?_;refine ihg1 _ ?_ ?_
     ·(refine ⟨by exact ob,by exact ob,?_⟩; rw [← hg1_3,show validS (l_.getD i ah) i=true by simpa using c3o,show ((i:Int)+1).toNat=i+1 by omega]; rfl)
     ·exact ob
   ·have c2:=nr c2;refine ak ?_;have e:i=l_.length:=(by omega);unfold bW; rw [c1o,← hg1_3,show (i:Int).toNat=i from rfl,e,List.drop_length]; rfl
  ·(refine ⟨by exact ob,by exact ob,rfl⟩)
theorem Ns {l_:(List aj)} {r_:bF} (h1:l_.length≤1000000) (h2:r_.Level.length≤1000000):W (uQ l_ r_) (fun r=>r=AO l_ r_):=by
 unfold uQ;refine ay (wI ob) fun v1 hv1=>?_;subst v1;refine aD (fun c1=>?_) (fun c1=>?_)
 ·have c1o:=c1;have c1:=nr c1;refine ak ?_;(unfold AO; rw [c1o]; rfl)
 ·have c1o:=c1;have c1:=nr c1;have hck:bW l_=0∧r_.On.length=l_.length∧r_.Level.length=l_.length:=(by have:=c1o; simp only [Bool.or_eq_false_iff,bne_eq_false_iff_eq] at this; omega);obtain ⟨b1,b2,b3⟩:=II hck.1;refine bD (fun (g1:Int)=>0≤g1∧g1≤l_.length∧rlN (l_.drop g1.toNat) (r_.Level.drop g1.toNat)=rlN l_ r_.Level) (fun (g1:Int)=>(l_.length - g1).toNat) ?_ ?_
  ·intro self1 g1 hig1 ihg1;obtain ⟨hg1_1,hg1_2,hg1_3⟩:=hig1;unfold Bo;obtain ⟨i,rfl⟩:=Int.eq_ofNat_of_zero_le hg1_1;refine aD (fun c2=>?_) (fun c2=>?_)
   ·have c2:=nr c2;have hlt:i<l_.length:=(by omega);have hb:=b2 i hlt;rw [show ((i:Int).toNat)=i from rfl,drop_cons ah hlt,drop_cons 0 (show i<r_.Level.length by omega),rlN] at hg1_3;simp only [Int.toNat_natCast] at *;refine wn ?_;refine wn ?_;refine wn ?_;refine ay (eZ) fun v4 hv4=>?_;subst v4;refine aD (fun c3=>?_) (fun c3=>?_)
    ·have c3o:=c3;have c3:=nr c3;refine ak ?_;(unfold AO; rw [c1o,← hg1_3]; rw [show withinF (r_.Level.getD i 0) 0 _=false by simpa using c3o]; rfl)
    ·have c3o:=c3;have c3:=nr c3;refine wn ?_;refine ihg1 _ ?_ ?_
     ·(refine ⟨by exact ob,by exact ob,?_⟩; rw [← hg1_3,show withinF (r_.Level.getD i 0) 0 _=true by simpa using c3o,show ((i:Int)+1).toNat=i+1 by omega]; rfl)
     ·exact ob
   ·have c2:=nr c2;refine ak ?_;have e:i=l_.length:=(by omega);unfold AO; rw [c1o,← hg1_3,show (i:Int).toNat=i from rfl,e,List.drop_length]; cases List.drop l_.length r_.Level<;>rfl
  ·(refine ⟨by exact ob,by exact ob,rfl⟩)
theorem J6 {x_:aM} {a1_:(List aj)} (h1:a1_.length≤1000000):W (lY x_ a1_) (fun r=>r=OO a1_.length x_):=by
 unfold lY;refine wn ?_;refine ay (eZ) fun v1 hv1=>?_;subst v1;refine ay (dF fun hc=>iJ (eZ)) fun v2 hv2=>?_;subst v2;refine ay (dF fun hc=>iJ (eZ)) fun v3 hv3=>?_;subst v3;refine ay (dF fun hc=>iJ (eZ)) fun v4 hv4=>?_;subst v4;refine ak ?_;rfl
theorem sU {s_:(List aM)} {f_:(List aj)} (h1:s_.length≤1000000) (h2:f_.length≤1000000):W (jd s_ f_) (fun r=>r=s_.any (OO f_.length)):=
 Dh (Gg (Gf (p:=fun x=>lY x f_) (P:=OO f_.length) (fun x hx=>iJ (J6 h2)) (by omega)) (nK _ _))
theorem Nt {l_:(List aj)} {d_:(List aM)} (h1:l_.length≤1000000) (h2:d_.length≤1000000):W (uS l_ d_) (fun r=>r=mg l_ d_):=by
 unfold uS;refine ay (wI ob) fun v1 hv1=>?_;subst v1;refine ay (dF fun hc=>iJ (sU ob ob)) fun v2 hv2=>?_;subst v2;refine ak ?_;rfl
theorem mh {s_:(List aj)}:W (fQ s_) (fun r=>r=s_):=by
 unfold fQ;refine ak ?_;rfl
theorem OP {l_:(List aj)} {d_:(List aM)} (h1:Xv l_ d_):W (xD l_ d_) (fun r=>r=iL l_ d_):=by
 obtain ⟨vl,vd,vs,_,vx⟩:=h1;unfold xD;refine wn ?_;refine bD (fun (g1:(Int×(List Bool)))=>0≤g1.1∧g1.1≤d_.length∧g1.2=qG l_.length (d_.take g1.1.toNat)) (fun (g1:(Int×(List Bool)))=>(d_.length - g1.1).toNat) ?_ ?_
 ·intro self1 g1 hig1 ihg1;obtain ⟨hg1_1,hg1_2,hg1_3⟩:=hig1;unfold DK;refine aD (fun c1=>?_) (fun c1=>?_)
  ·have c1:=nr c1;have hlt:g1.1.toNat<d_.length:=(by omega);have hx:=vx _ (fM bL hlt);have hml:g1.2.length=l_.length:=(by rw [hg1_3]; exact oP ..);refine wn ?_;refine wn ?_;refine wn ?_;refine ihg1 _ ?_ ?_
   ·(refine ⟨by exact ob,by exact ob,?_⟩; dsimp only; have e:qG l_.length (d_.take (g1.1.toNat+1))=(qG l_.length (d_.take g1.1.toNat)).set (d_.getD g1.1.toNat bL).bn.toNat true:=oh _ _ bL hlt; rw [show (g1.1+1).toNat=g1.1.toNat+1 by omega,hg1_3,e])
   ·exact ob
  ·have c1:=nr c1;refine ay (mh) fun v1 hv1=>?_;subst v1;refine wn ?_;refine abm (fun (k2:Nat) (g2:(List Bool))=>g2=Jz (iA l_) l_.length k2 (qG l_.length d_)) ?_ ?_ ?_
   ·intro k2 self2 g2 hkk2 hig2 ihg2;unfold Bq;refine bV (by (rw [hig2,yj (kP _),oP]; omega)) ?_;refine bV (by (rw [hig2,yj (kP _),oP]; omega)) ?_;unfold tK;refine bV (by (rw [List.length_set,hig2,yj (kP _),oP]; omega)) ?_;refine aD (fun c2=>?_) (fun c2=>?_)
    ·have c2o:=c2;have c2:=nr c2;have hp:=vs (l_.length - 1 - k2) (by omega);have hl2:g2.length=l_.length:=(by rw [hig2,yj (kP _),oP]);refine wn ?_;refine ihg2 _ ?_;(rw [Int.toNat_natCast,dU,if_pos ⟨rfl,by omega⟩] at c2o; show _=iA l_ (l_.length - 1 - k2) (Jz (iA l_) l_.length k2 (qG l_.length d_)); rw [← hig2]; unfold iA; rw [c2o]; rfl)
    ·have c2o:=c2;have c2:=nr c2;have hl2:g2.length=l_.length:=(by rw [hig2,yj (kP _),oP]);refine ihg2 _ ?_;(rw [Int.toNat_natCast,dU,if_pos ⟨rfl,by omega⟩] at c2o; show _=iA l_ (l_.length - 1 - k2) (Jz (iA l_) l_.length k2 (qG l_.length d_)); rw [← hig2]; unfold iA; rw [c2o]; rfl)
   ·intro g2 hig2;unfold Bp;refine ak ?_;(rw [hig2]; exact Mf _ _ _)
   ·(simp only [hg1_3]; rw [show g1.1.toNat=d_.length by omega,List.take_length]; rfl)
 ·(refine ⟨by exact ob,by exact ob,rfl⟩)
theorem Nu {l_:(List aj)} {d_:(List aM)} (h1:Xv l_ d_):W (uT l_ d_) (fun r=>r=wG l_ d_):=by
 have hsm:=fun k hk=>IL h1 k hk;obtain ⟨vl,vd,vs,_,vx⟩:=h1;unfold uT;refine wn ?_;refine bD (fun (g1:(Int×(List Int)))=>0≤g1.1∧g1.1≤d_.length∧g1.2=tO l_.length (d_.take g1.1.toNat)) (fun (g1:(Int×(List Int)))=>(d_.length - g1.1).toNat) ?_ ?_
 ·intro self1 g1 hig1 ihg1;obtain ⟨hg1_1,hg1_2,hg1_3⟩:=hig1;unfold Br;refine aD (fun c1=>?_) (fun c1=>?_)
  ·have c1:=nr c1;have hlt:g1.1.toNat<d_.length:=(by omega);have hx:=vx _ (fM bL hlt);have hml:g1.2.length=l_.length:=(by rw [hg1_3]; exact IK ..);have hbd:=Te l_.length d_ (fun x hx=>by have:=vx x hx; omega) g1.1.toNat (by omega) (d_.getD g1.1.toNat bL).bn.toNat;rw [← hg1_3] at hbd;refine wn ?_;refine wn ?_;refine wn ?_;refine wn ?_;refine wn ?_;refine ihg1 _ ?_ ?_
   ·(refine ⟨by exact ob,by exact ob,?_⟩; dsimp only; have e:tO l_.length (d_.take (g1.1.toNat+1))=(tO l_.length (d_.take g1.1.toNat)).set (d_.getD g1.1.toNat bL).bn.toNat ((tO l_.length (d_.take g1.1.toNat)).getD (d_.getD g1.1.toNat bL).bn.toNat 0+(d_.getD g1.1.toNat bL).Load):=oh _ _ bL hlt; rw [show (g1.1+1).toNat=g1.1.toNat+1 by omega,e,← hg1_3])
   ·exact ob
  ·have c1:=nr c1;refine ay (mh) fun v1 hv1=>?_;subst v1;refine wn ?_;refine abm (fun (k2:Nat) (g2:(List Int))=>g2=Jz (fD l_) l_.length k2 (tO l_.length d_)) ?_ ?_ ?_
   ·intro k2 self2 g2 hkk2 hig2 ihg2;unfold zy;refine aD (fun c2=>?_) (fun c2=>?_)
    ·have c2o:=c2;have c2:=nr c2;have hp:=vs (l_.length - 1 - k2) (by omega);have hl2:g2.length=l_.length:=(by rw [hig2,yj (AP _),IK]);have hbd:=hsm k2 (by omega);rw [← hig2] at hbd;have hb1:=hbd (l_.getD (l_.length - 1 - k2) ah).Parent.toNat;have hb2:=hbd (l_.length - 1 - k2);rw [Int.toNat_natCast];refine wn ?_;refine wn ?_;refine wn ?_;refine wn ?_;refine ihg2 _ ?_;(show _=fD l_ (l_.length - 1 - k2) (Jz (fD l_) l_.length k2 (tO l_.length d_)); rw [← hig2]; unfold fD; rw [c2o]; rfl)
    ·have c2o:=c2;have c2:=nr c2;refine ihg2 _ ?_;(show _=fD l_ (l_.length - 1 - k2) (Jz (fD l_) l_.length k2 (tO l_.length d_)); rw [← hig2]; unfold fD; rw [c2o]; rfl)
   ·intro g2 hig2;unfold zx;refine ak ?_;(rw [hig2]; exact Mf _ _ _)
   ·(simp only [hg1_3]; rw [show g1.1.toNat=d_.length by omega,List.take_length]; rfl)
 ·(refine ⟨by exact ob,by exact ob,rfl⟩)
theorem J7 {x_:aM} {a1_:(List aj)} {a20_:(List Bool)} {a21_:(List Int)} (h1:0≤x_.bn) (h2:x_.bn<a1_.length) (h3:x_.bn<a21_.length) (h4:0≤a21_.getD x_.bn.toNat 0) (h5:a21_.getD x_.bn.toNat 0<(a1_.getD x_.bn.toNat ah).aU.length):W (lZ x_ a1_ a20_ a21_) (fun r=>r=dBad a1_ ⟨a20_,a21_⟩ x_):=by
 unfold lZ;refine wn ?_;refine wn ?_;refine wn ?_;refine ay (eZ) fun v1 hv1=>?_;subst v1;refine ak ?_;rfl
theorem p8 {s_:(List aM)} {f0_:(List aj)} {f1_:(List Bool)} {f2_:(List Int)} (h1:s_.length≤1000000) (h2:∀x∈s_,0≤x.bn∧x.bn<f0_.length) (h3:Rok f0_ ⟨f1_,f2_⟩):W (iB s_ f0_ f1_ f2_) (fun r=>r=s_.any (dBad f0_ ⟨f1_,f2_⟩)):=
 Dh (Gg (Gf (p:=fun x=>lZ x f0_ f1_ f2_) (P:=dBad f0_ ⟨f1_,f2_⟩) (fun x hx=>iJ (by obtain ⟨q1,q2⟩:=h2 x hx; obtain ⟨r1,r2,r3⟩:=h3; have r4:=r3 x.bn.toNat (by omega); exact J7 q1 q2 (by dsimp only at r2; omega) r4.1 r4.2.2)) (by omega)) (nK _ _))
theorem Nv {l_:(List aj)} {r_:bF} {d_:(List aM)} (h1:l_.length≤1000000) (h2:d_.length≤1000000) (h3:r_.Level.length≤1000000):W (uU l_ r_ d_) (fun r=>r=l9 l_ r_ d_):=by
 unfold uU;refine ay (Ns ob ob) fun v1 hv1=>?_;subst v1;refine ay (dF fun hc=>iJ (Nt ob ob)) fun v2 hv2=>?_;subst v2;refine aD (fun c1=>?_) (fun c1=>?_)
 ·have c1o:=c1;have c1:=nr c1;refine ak ?_;(unfold l9; rw [c1o]; rfl)
 ·have c1o:=c1;have c1:=nr c1;have hrd:AO l_ r_=true∧mg l_ d_=true:=(by have:=c1o; simpa using this);have hv:=YW hrd.2;have hr:=(J3.1 hrd.1).2;have hrk:=hr;have hvb:=fun i hi=>Nq hv hr i hi;have hul:=Fh l_ d_;have hll:=G5 l_ d_;obtain ⟨r1,r2,r3⟩:=hr;obtain ⟨vl,vd,vs,_,vx⟩:=id hv;have hmf:l9 l_ r_ d_=tQ l_ r_ d_:=(by unfold l9; rw [c1o]; rfl);refine ay (OP hv) fun v3 hv3=>?_;subst v3;refine ay (Nu hv) fun v4 hv4=>?_;subst v4;refine bD (fun (g1:Int)=>0≤g1∧g1≤l_.length∧(∀j,j<g1.toNat→G6 l_ r_ (iL l_ d_) (wG l_ d_) j=false)) (fun (g1:Int)=>(l_.length - g1).toNat) ?_ ?_
  ·intro self1 g1 hig1 ihg1;obtain ⟨hg1_1,hg1_2,hg1_3⟩:=hig1;unfold Bt;obtain ⟨i,rfl⟩:=Int.eq_ofNat_of_zero_le hg1_1;refine aD (fun c2=>?_) (fun c2=>?_)
   ·have c2:=nr c2;have hlt:i<l_.length:=(by omega);have hp:=vs i hlt;have hp2:=vs (l_.getD i ah).Parent.toNat;have hr3:=r3 i hlt;have hr4:=r3 (l_.getD i ah).Parent.toNat;have hv1:=hvb i hlt;unfold qH at hv1;simp only [Int.toNat_natCast] at *;refine wn ?_;refine wn ?_;refine aD (fun c3=>?_) (fun c3=>?_)
    ·have c3o:=c3;have c3:=nr c3;refine wn ?_;refine aD (fun c4=>?_) (fun c4=>?_)
     ·have c4o:=c4;have c4:=nr c4;refine ak ?_;(rw [hmf]; unfold tQ; rw [tT hlt (by unfold G6; rw [c3o,c4o]; rfl)]; rfl)
     ·have c4o:=c4;have c4:=nr c4;refine wn ?_;refine ihg1 _ ?_ ?_
      ·(refine ⟨by exact ob,by exact ob,fun j hj=>?_⟩; by_cases q:j<i; (exact hg1_3 j q); (have e:j=i:=by omega); subst e; unfold G6; rw [c3o,c4o]; rfl)
      ·exact ob
    ·have c3o:=c3;have c3:=nr c3;refine bV (by (intro q1; have:=of_decide_eq_true q1; omega)) ?_;refine bV (by (intro q1 _; have:=of_decide_eq_true q1; omega)) ?_;refine bV (by (intro q1 _; have:=of_decide_eq_true q1; omega)) ?_;refine bV (by (intro q1 _; have:=of_decide_eq_true q1; have:=hr4 (by omega); omega)) ?_;refine bV (by (intro q1 _; have:=of_decide_eq_true q1; omega)) ?_;refine bV (by (intro q1 _; have:=of_decide_eq_true q1; omega)) ?_;refine bV (by (intro q1 _; have:=of_decide_eq_true q1; unfold InI64; omega)) ?_;refine bV (by (intro _; omega)) ?_;refine aD (fun c5=>?_) (fun c5=>?_)
     ·have c5o:=c5;have c5:=nr c5;refine ak ?_;(rw [hmf]; unfold tQ; rw [tT hlt (by unfold G6 qH; rw [c3o]; simp only [cond_false]; rw [c5o]; rfl)]; rfl)
     ·have c5o:=c5;have c5:=nr c5;refine wn ?_;refine ihg1 _ ?_ ?_
      ·(refine ⟨by exact ob,by exact ob,fun j hj=>?_⟩; by_cases q:j<i; (exact hg1_3 j q); (have e:j=i:=by omega); subst e; unfold G6 qH; rw [c3o]; exact c5o)
      ·exact ob
   ·have c2:=nr c2;refine ay (p8 (by omega) (fun x hx=>by have:=vx x hx; omega) hrk) fun v5 hv5=>?_;subst v5;refine ak ?_;(rw [hmf]; unfold tQ; rw [El fun j hj=>(by rw [hg1_3 j (by omega)]; rfl)]; rfl)
  ·(refine ⟨by exact ob,by exact ob,fun j hj=>absurd hj (Nat.not_lt_zero j)⟩)
end Go.Proofs.YtfblhejmclcdmaaGreatDoor.Sp

namespace Go.Proofs.YtfblhejmclcdmaaGreatDoor
open Go.Ab
set_option maxRecDepth 100000
structure Y4 (l:List cu):Prop where
 len:l.length≤32
 af:∀i,i<l.length→∀x∈(l.getD i dReset).After,0≤x∧x<(i:Int)
structure Xz (l:List bM):Prop where
 len:l.length≤16
 par:∀i,i<l.length → -1≤(l.getD i fH).Parent∧(l.getD i fH).Parent<(i:Int)
structure Y5 (n:Int) (g:aY):Prop where
 pl:0<g.bT.length
 fl:0<g.Functions.length∧g.Functions.length≤8
 pn:∀x∈g.bT,0≤x∧x<n
structure Tk (p:bB) (u:ql):Prop where
 g0:0≤u.eH
 gl:u.eH<p.Groups.length
 f0:0≤u.Function
 fl:u.Function<(p.Groups.getD u.eH.toNat aF).Functions.length
theorem fJ {P:Nat→Prop} {i:Int} (h:∀j:Nat,(j:Int)<i→P j) (h0:0≤i) (hp:P i.toNat):∀j:Nat,(j:Int)<i+1→P j:=fun j hj=>by
 by_cases q:(j:Int)<i
 ·exact h j q
 ·have e:j=i.toNat:=by omega
  rw [e]; exact hp
structure Nw (p:bB):Prop where
 pn:0≤p.bT∧p.bT≤64
 gl:p.Groups.length≤24
 gr:∀g∈p.Groups,Y5 p.bT g
theorem jq {α:Type} {P:α→Prop} {l:List α} (d:α) (h:∀j,j<l.length→P (l.getD j d)):∀x∈l,P x:=fun x hx=>by
 obtain ⟨i,hi,rfl⟩:=List.mem_iff_getElem.1 hx;have:=h i hi;rwa [List.getD_eq_getElem?_getD,List.getElem?_eq_getElem hi] at this
theorem Ny {s:ByteArray} {c:Bool} (h:((s.toList==({ data:=#[] }:ByteArray).toList)||c)=false):0<s.size:=by
 simp only [Bool.or_eq_false_iff] at h;rcases Nat.eq_zero_or_pos s.size with e | e
 ·exfalso;have e2:s=({ data:=#[] }:ByteArray):=by
   cases s with
   | mk d=>cases d with
    | mk l=>cases l with
     | nil=>rfl
     | cons a t=>simp [ByteArray.size] at e
  rw [e2] at h;simp at h
 ·exact e
theorem XA {s:ByteArray} {c d:Bool} (h:((((s.toList==({ data:=#[] }:ByteArray).toList)||(decide ((16:Int)<((s.size:Nat):Int))))||c)||d)=false):0<s.size∧s.size≤16:=by
 simp only [Bool.or_eq_false_iff] at h;refine ⟨Ny (c:=false) (by simp only [Bool.or_eq_false_iff]; exact ⟨h.1.1.1,trivial⟩),?_⟩;have:=of_decide_eq_false h.1.1.2;omega
theorem Ct {s_:(List ByteArray)} {v_:ByteArray} (h1:s_.length≤1000000):W (slices_Index_string s_ v_) (fun r=>True):=by
 unfold slices_Index_string;refine bD (fun (g1:Int)=>0≤g1) (fun (g1:Int)=>((s_.length:Int) - g1).toNat) ?_ ?_
 ·intro self1 g1 hig1 ihg1;unfold pz;refine aD (fun c1=>?_) (fun c1=>?_)
  ·have c1:=nr c1;refine wn ?_;refine aD (fun c2=>?_) (fun c2=>?_)
   ·have c2:=nr c2;exact ak trivial
   ·have c2:=nr c2;refine wn ?_;refine ihg1 _ ?_ ?_
    ·exact ob
    ·exact ob
  ·have c1:=nr c1;exact ak trivial
 ·exact ob
theorem yN {s_:(List ByteArray)} {v_:ByteArray} (h1:s_.length≤1000000):W (slices_Contains_string s_ v_) (fun r=>True):=by
 unfold slices_Contains_string;refine ay (Ct ob) fun v1 hv1=>?_;exact ak trivial
theorem Eo {s_:ByteArray}:W (vL s_) (fun r=>True):=by
 unfold vL;refine bV (by (intro hc; have:=Ny hc; omega)) ?_;refine bV (by (intro hc; simp only [Bool.or_eq_false_iff] at hc; have:=Ny (s:=s_) (by simp only [Bool.or_eq_false_iff]; exact hc.1); omega)) ?_;refine aD (fun c1=>?_) (fun c1=>?_)
 ·have c1o:=c1;have c1:=nr c1;exact ak trivial
 ·have c1o:=c1;have c1:=nr c1;have hsz:0<s_.size∧s_.size≤16:=XA c1o;refine bD (fun (g1:Int)=>0≤g1) (fun (g1:Int)=>(s_.size - g1).toNat) ?_ ?_
  ·intro self1 g1 hig1 ihg1;unfold Il;refine aD (fun c2=>?_) (fun c2=>?_)
   ·have c2:=nr c2;refine wn ?_;refine aD (fun c3=>?_) (fun c3=>?_)
    ·have c3:=nr c3;exact ak trivial
    ·have c3:=nr c3;refine wn ?_;refine ihg1 _ ?_ ?_
     ·exact ob
     ·exact ob
   ·have c2:=nr c2;exact ak trivial
  ·exact ob
theorem Q8 {pins_:Int} {g_:aY} (h1:g_.bT.length≤1000000):W (Ao pins_ g_) (fun r=>r=0→Y5 pins_ g_):=by
 unfold Ao;refine aD (fun c1=>?_) (fun c1=>?_)
 ·have c1:=nr c1;refine ak ?_;exact ob
 ·have c1:=nr c1;refine aD (fun c2=>?_) (fun c2=>?_)
  ·have c2:=nr c2;refine ak ?_;exact ob
  ·have c2:=nr c2;refine bD (fun (g1:Int)=>0≤g1∧(∀j:Nat,(j:Int)<g1→0≤g_.bT.getD j 0∧g_.bT.getD j 0<pins_)) (fun (g1:Int)=>(g_.bT.length - g1).toNat) ?_ ?_
   ·intro self1 g1 hig1 ihg1;obtain ⟨hg1_1,hg1_2⟩:=hig1;unfold FZ;refine aD (fun c3=>?_) (fun c3=>?_)
    ·have c3:=nr c3;refine wn ?_;refine aD (fun c4=>?_) (fun c4=>?_)
     ·have c4:=nr c4;refine ak ?_;exact ob
     ·have c4:=nr c4;refine wn ?_;refine ihg1 _ ?_ ?_
      ·(refine ⟨by exact ob,fun j hj=>?_⟩; by_cases q:(j:Int)<g1; (exact hg1_2 j q); (have e:j=g1.toNat:=by omega); subst e; constructor<;>omega)
      ·exact ob
    ·have c3:=nr c3;refine bD (fun (g2:Int)=>1≤g2) (fun (g2:Int)=>(g_.bT.length - g2).toNat) ?_ ?_
     ·intro self2 g2 hig2 ihg2;unfold Dq;refine aD (fun c5=>?_) (fun c5=>?_)
      ·have c5:=nr c5;refine wn ?_;refine wn ?_;refine wn ?_;refine aD (fun c6=>?_) (fun c6=>?_)
       ·have c6:=nr c6;refine ak ?_;exact ob
       ·have c6:=nr c6;refine wn ?_;refine ihg2 _ ?_ ?_
        ·exact ob
        ·exact ob
      ·have c5:=nr c5;refine bD (fun (g3:Int)=>0≤g3) (fun (g3:Int)=>(g_.Functions.length - g3).toNat) ?_ ?_
       ·intro self3 g3 hig3 ihg3;unfold Dp;refine aD (fun c7=>?_) (fun c7=>?_)
        ·have c7:=nr c7;refine wn ?_;refine ay (Eo) fun v3 hv3=>?_;refine aD (fun c8=>?_) (fun c8=>?_)
         ·have c8:=nr c8;refine ak ?_;exact ob
         ·have c8:=nr c8;refine wn ?_;refine ihg3 _ ?_ ?_
          ·exact ob
          ·exact ob
        ·have c7:=nr c7;refine bD (fun (g4:Int)=>0≤g4) (fun (g4:Int)=>(g_.Functions.length - g4).toNat) ?_ ?_
         ·intro self4 g4 hig4 ihg4;unfold Dn;refine aD (fun c9=>?_) (fun c9=>?_)
          ·have c9:=nr c9;refine wn ?_;refine wn ?_;refine ay (yN ob) fun v6 hv6=>?_;refine aD (fun c10=>?_) (fun c10=>?_)
           ·have c10:=nr c10;refine ak ?_;exact ob
           ·have c10:=nr c10;refine wn ?_;refine ihg4 _ ?_ ?_
            ·exact ob
            ·exact ob
          ·have c9:=nr c9;refine ak ?_;(intro _; exact ⟨by omega,by omega,jq 0 fun j hj=>hg1_2 j (by omega)⟩)
         ·exact ob
       ·exact ob
     ·exact ob
   ·(refine ⟨by exact ob,fun j hj=>by omega⟩)
theorem IV {p_:bB} (h1:∀g∈p_.Groups,g.bT.length≤1000000):W (vY p_) (fun r=>r=0→Nw p_):=by
 unfold vY;refine aD (fun c1=>?_) (fun c1=>?_)
 ·have c1:=nr c1;refine ak ?_;exact ob
 ·have c1:=nr c1;refine aD (fun c2=>?_) (fun c2=>?_)
  ·have c2:=nr c2;refine ak ?_;exact ob
  ·have c2:=nr c2;refine bD (fun (g1:(Int×(mX→Option Int)))=>0≤g1.1∧(∀j:Nat,(j:Int)<g1.1→Y5 p_.bT (p_.Groups.getD j aF))) (fun (g1:(Int×(mX→Option Int)))=>(p_.Groups.length - g1.1).toNat) ?_ ?_
   ·intro self1 g1 hig1 ihg1;obtain ⟨hg1_1,hg1_2⟩:=hig1;unfold F3;refine aD (fun c3=>?_) (fun c3=>?_)
    ·have c3:=nr c3;have hgl:=h1 _ (getD_in (i:=g1.1.toNat) aF (by omega));refine wn ?_;refine ay (Eo) fun v5 hv5=>?_;refine aD (fun c4=>?_) (fun c4=>?_)
     ·have c4:=nr c4;refine ak ?_;exact ob
     ·have c4:=nr c4;refine aD (fun c5=>?_) (fun c5=>?_)
      ·have c5:=nr c5;refine ak ?_;exact ob
      ·have c5:=nr c5;refine ay (Q8 hgl) fun v6 hv6=>?_;refine aD (fun c6=>?_) (fun c6=>?_)
       ·have c6o:=c6;have c6:=nr c6;refine ak ?_;(intro e; exact absurd e c6)
       ·have c6o:=c6;have c6:=nr c6;refine wn ?_;refine ihg1 _ ?_ ?_
        ·(refine ⟨by exact ob,fJ hg1_2 hg1_1 (hv6 (by simpa using c6o))⟩)
        ·exact ob
    ·have c3:=nr c3;refine ak ?_;(intro _; exact ⟨by omega,by omega,jq aF fun j hj=>hg1_2 j (by omega)⟩)
   ·(refine ⟨by exact ob,fun j hj=>by dsimp only at hj; omega⟩)
theorem OQ {p_:bB} {l_:(List ql)} (h1:∀g∈p_.Groups,g.bT.length≤1000000) (h2:l_.length≤1000000):W (xE p_ l_) (fun r=>r.2=0→Nw p_∧(∀u∈l_,Tk p_ u)):=by
 unfold xE;refine bD (fun (g1:(Int×(Nat→Int)×(Nat→Int)))=>0≤g1.1) (fun (g1:(Int×(Nat→Int)×(Nat→Int)))=>(64 - g1.1).toNat) ?_ ?_
 ·intro self1 g1 hig1 ihg1;unfold DL;refine aD (fun c1=>?_) (fun c1=>?_)
  ·have c1:=nr c1;refine wn ?_;refine wn ?_;refine ihg1 _ ?_ ?_
   ·exact ob
   ·exact ob
  ·have c1:=nr c1;refine ay (IV ob) fun v1 hv1=>?_;refine aD (fun c2=>?_) (fun c2=>?_)
   ·have c2o:=c2;have c2:=nr c2;refine ak ?_;exact ob
   ·have c2o:=c2;have c2:=nr c2;have hok:=hv1 (by simpa using c2o);obtain ⟨p1,p2,p3⟩:=hok;refine wn ?_;refine bD (fun (g2:(Int×(Nat→Int)×(List Bool)))=>0≤g2.1∧g2.2.2.length=p_.Groups.length∧(∀j:Nat,(j:Int)<g2.1→Tk p_ (l_.getD j kU))) (fun (g2:(Int×(Nat→Int)×(List Bool)))=>(l_.length - g2.1).toNat) ?_ ?_
    ·intro self2 g2 hig2 ihg2;obtain ⟨hg2_1,hg2_2,hg2_3⟩:=hig2;unfold Bv;refine aD (fun c3=>?_) (fun c3=>?_)
     ·have c3:=nr c3;refine wn ?_;refine wn ?_;refine aD (fun c4=>?_) (fun c4=>?_)
      ·have c4:=nr c4;refine ak ?_;exact ob
      ·have c4:=nr c4;refine wn ?_;refine aD (fun c5=>?_) (fun c5=>?_)
       ·have c5:=nr c5;refine ak ?_;exact ob
       ·have c5:=nr c5;refine wn ?_;refine wn ?_;refine bD (fun (g5:(Int×(Nat→Int)×(List Bool)))=>0≤g5.1∧g5.2.2.length=p_.Groups.length) (fun (g5:(Int×(Nat→Int)×(List Bool)))=>((p_.Groups.getD (l_.getD g2.1.toNat kU).eH.toNat aF).bT.length - g5.1).toNat) ?_ ?_
        ·intro self5 g5 hig5 ihg5;obtain ⟨hg5_1,hg5_2⟩:=hig5;unfold Bu;refine aD (fun c6=>?_) (fun c6=>?_)
         ·have c6:=nr c6;have hmg:=getD_in (l:=p_.Groups) (i:=(l_.getD g2.1.toNat kU).eH.toNat) aF (by omega);have hgl:=h1 _ hmg;have hpn:=(p3 _ hmg).pn _ (getD_in (i:=g5.1.toNat) 0 (by omega));refine wn ?_;refine wn ?_;refine aD (fun c7=>?_) (fun c7=>?_)
          ·have c7:=nr c7;refine ak ?_;exact ob
          ·have c7:=nr c7;refine wn ?_;refine wn ?_;refine ihg5 _ ?_ ?_
           ·(refine ⟨by exact ob,hg5_2⟩)
           ·exact ob
         ·have c6:=nr c6;refine wn ?_;refine ihg2 _ ?_ ?_
          ·(refine ⟨by exact ob,hg5_2,fJ hg2_3 hg2_1 ⟨by omega,by omega,by omega,by omega⟩⟩)
          ·exact ob
        ·(refine ⟨by exact ob,by simp; omega⟩)
     ·have c3:=nr c3;refine ak ?_;(intro _; exact ⟨⟨p1,p2,p3⟩,jq kU fun j hj=>hg2_3 j (by omega)⟩)
    ·(refine ⟨by exact ob,by simp,fun j hj=>by dsimp only at hj; omega⟩)
 ·exact ob
theorem oC {s_:(List Int)} (h1:s_.length≤1000000):W (slices_Clone_int s_) (fun r=>r=s_):=by
 unfold slices_Clone_int;refine wn ?_;refine ak ?_;rfl
theorem mZ {s_:(List Bool)} (h1:s_.length≤1000000):W (iK s_) (fun r=>r=s_):=by
 unfold iK;refine wn ?_;refine ak ?_;rfl
theorem zM {s_:(List aL)} (h1:s_.length≤1000000):W (jr s_) (fun r=>r=s_):=by
 unfold jr;refine wn ?_;refine ak ?_;rfl
theorem OT {p_:bB} {l_:(List ql)} (h1:∀g∈p_.Groups,g.bT.length≤1000000) (h2:l_.length≤1000000):W (xG p_ l_) (fun r=>r.2=0→Nw p_∧(∀u∈l_,Tk p_ u)):=by
 unfold xG;refine ay (OQ ob ob) fun v1 hv1=>?_;refine aD (fun c1=>?_) (fun c1=>?_)
 ·have c1o:=c1;have c1:=nr c1;refine ak ?_;(intro e; exact absurd e c1)
 ·have c1o:=c1;have c1:=nr c1;obtain ⟨⟨p1,_,_⟩,_⟩:=hv1 (by simpa using c1o);unfold wh;refine wn ?_;refine ay (oC (by simp only [List.length_map,List.length_range]; omega)) fun v2 hv2=>?_;subst v2;refine ak ?_;(intro _; exact hv1 (by simpa using c1o))
theorem Gl {l_:(List cu)} (h1:∀g∈l_,g.After.length≤1000000):W (sF l_) (fun r=>r=0→Y4 l_):=by
 unfold sF;refine aD (fun c1=>?_) (fun c1=>?_)
 ·have c1:=nr c1;refine ak ?_;exact ob
 ·have c1:=nr c1;refine bD (fun (g1:Int)=>0≤g1∧(∀j:Nat,(j:Int)<g1→∀x∈(l_.getD j dReset).After,0≤x∧x<(j:Int))) (fun (g1:Int)=>(l_.length - g1).toNat) ?_ ?_
  ·intro self1 g1 hig1 ihg1;obtain ⟨hg1_1,hg1_2⟩:=hig1;unfold Dt;refine aD (fun c2=>?_) (fun c2=>?_)
   ·have c2:=nr c2;have hgl:=h1 _ (getD_in (i:=g1.toNat) dReset (by omega));refine wn ?_;refine bD (fun (g6:Int)=>0≤g6∧(∀j:Nat,(j:Int)<g6→0≤(l_.getD g1.toNat dReset).After.getD j 0∧(l_.getD g1.toNat dReset).After.getD j 0<g1)) (fun (g6:Int)=>((l_.getD g1.toNat dReset).After.length - g6).toNat) ?_ ?_
    ·intro self6 g6 hig6 ihg6;obtain ⟨hg6_1,hg6_2⟩:=hig6;unfold Dr;refine aD (fun c3=>?_) (fun c3=>?_)
     ·have c3:=nr c3;refine wn ?_;refine aD (fun c4=>?_) (fun c4=>?_)
      ·have c4:=nr c4;refine ak ?_;exact ob
      ·have c4:=nr c4;refine wn ?_;refine ihg6 _ ?_ ?_
       ·(refine ⟨by exact ob,fJ hg6_2 hg6_1 (by omega)⟩)
       ·exact ob
     ·have c3:=nr c3;refine bD (fun (g7:Int)=>1≤g7) (fun (g7:Int)=>((l_.getD g1.toNat dReset).After.length - g7).toNat) ?_ ?_
      ·intro self7 g7 hig7 ihg7;unfold Bl;refine aD (fun c5=>?_) (fun c5=>?_)
       ·have c5:=nr c5;refine wn ?_;refine wn ?_;refine wn ?_;refine aD (fun c6=>?_) (fun c6=>?_)
        ·have c6:=nr c6;refine ak ?_;exact ob
        ·have c6:=nr c6;refine wn ?_;refine ihg7 _ ?_ ?_
         ·exact ob
         ·exact ob
       ·have c5:=nr c5;refine wn ?_;refine ihg1 _ ?_ ?_
        ·(refine ⟨by exact ob,fJ hg1_2 hg1_1 (jq 0 fun j hj=>by have:=hg6_2 j (by omega); omega)⟩)
        ·exact ob
      ·exact ob
    ·(refine ⟨by exact ob,fun j hj=>by omega⟩)
   ·have c2:=nr c2;refine ak ?_;(intro _; exact ⟨by omega,fun i hi=>hg1_2 i (by omega)⟩)
  ·(refine ⟨by exact ob,fun j hj=>by omega⟩)
theorem Nz {l_:(List cu)} {released_:(List Bool)} (h1:Y4 l_) (h2:∀g∈l_,g.After.length≤1000000):W (uV l_ released_) (fun r=>r=true→released_.length=l_.length):=by
 obtain ⟨p1,p2⟩:=h1;unfold uV;refine aD (fun c1=>?_) (fun c1=>?_)
 ·have c1:=nr c1;refine ak ?_;exact ob
 ·have c1:=nr c1;refine bD (fun (g1:Int)=>0≤g1) (fun (g1:Int)=>(l_.length - g1).toNat) ?_ ?_
  ·intro self1 g1 hig1 ihg1;unfold Bz;refine aD (fun c2=>?_) (fun c2=>?_)
   ·have c2:=nr c2;have hgl:=h2 _ (getD_in (i:=g1.toNat) dReset (by omega));refine wn ?_;refine bD (fun (g4:Int)=>0≤g4) (fun (g4:Int)=>((l_.getD g1.toNat dReset).After.length - g4).toNat) ?_ ?_
    ·intro self4 g4 hig4 ihg4;unfold Bw;refine aD (fun c3=>?_) (fun c3=>?_)
     ·have c3:=nr c3;have hx:=p2 g1.toNat (by omega) _ (getD_in (i:=g4.toNat) 0 (by omega));refine wn ?_;refine wn ?_;refine wn ?_;refine aD (fun c4=>?_) (fun c4=>?_)
      ·have c4:=nr c4;refine ak ?_;exact ob
      ·have c4:=nr c4;refine wn ?_;refine ihg4 _ ?_ ?_
       ·exact ob
       ·exact ob
     ·have c3:=nr c3;refine wn ?_;refine ihg1 _ ?_ ?_
      ·exact ob
      ·exact ob
    ·exact ob
   ·have c2:=nr c2;refine ak ?_;exact ob
  ·exact ob
theorem NA {l_:(List cu)} {released_:(List Bool)} (h1:∀g∈l_,g.After.length≤1000000):W (uW l_ released_) (fun r=>r=true→Y4 l_∧released_.length=l_.length):=by
 unfold uW;refine ay (Gl ob) fun v1 hv1=>?_;refine ay (Sw fun hc=>Nz ob ob) fun v2 hv2=>?_;refine ak ?_;(intro hr; simp only [Bool.and_eq_true] at hr; exact ⟨hv1 (by simpa using hr.1),hv2 hr.1 hr.2⟩)
theorem Ep {l_:(List bM)}:W (pE l_) (fun r=>r=0→Xz l_):=by
 unfold pE;refine aD (fun c1=>?_) (fun c1=>?_)
 ·have c1:=nr c1;refine ak ?_;exact ob
 ·have c1:=nr c1;refine bD (fun (g1:Int)=>0≤g1∧(∀j:Nat,(j:Int)<g1 → -1≤(l_.getD j fH).Parent∧(l_.getD j fH).Parent<(j:Int))) (fun (g1:Int)=>(l_.length - g1).toNat) ?_ ?_
  ·intro self1 g1 hig1 ihg1;obtain ⟨hg1_1,hg1_2⟩:=hig1;unfold Bn;refine aD (fun c2=>?_) (fun c2=>?_)
   ·have c2:=nr c2;refine wn ?_;refine aD (fun c3=>?_) (fun c3=>?_)
    ·have c3:=nr c3;refine ak ?_;exact ob
    ·have c3:=nr c3;refine wn ?_;refine ihg1 _ ?_ ?_
     ·(refine ⟨by exact ob,fJ hg1_2 hg1_1 (by omega)⟩)
     ·exact ob
   ·have c2:=nr c2;refine ak ?_;(intro _; exact ⟨by omega,fun i hi=>hg1_2 i (by omega)⟩)
  ·(refine ⟨by exact ob,fun j hj=>by omega⟩)
theorem NC {l_:(List bM)} {on_:(List Bool)} (h1:Xz l_):W (uX l_ on_) (fun r=>r=true→on_.length=l_.length):=by
 obtain ⟨p1,p2⟩:=h1;unfold uX;refine aD (fun c1=>?_) (fun c1=>?_)
 ·have c1:=nr c1;refine ak ?_;exact ob
 ·have c1:=nr c1;refine bD (fun (g1:Int)=>0≤g1) (fun (g1:Int)=>(l_.length - g1).toNat) ?_ ?_
  ·intro self1 g1 hig1 ihg1;unfold BA;refine aD (fun c2=>?_) (fun c2=>?_)
   ·have c2:=nr c2;have hx:=p2 g1.toNat (by omega);refine wn ?_;refine wn ?_;refine wn ?_;refine wn ?_;refine aD (fun c3=>?_) (fun c3=>?_)
    ·have c3:=nr c3;refine ak ?_;exact ob
    ·have c3:=nr c3;refine wn ?_;refine ihg1 _ ?_ ?_
     ·exact ob
     ·exact ob
   ·have c2:=nr c2;refine ak ?_;exact ob
  ·exact ob
theorem ND {l_:(List bM)} {on_:(List Bool)}:W (uY l_ on_) (fun r=>r=true→Xz l_∧on_.length=l_.length):=by
 unfold uY;refine ay (Ep) fun v1 hv1=>?_;refine ay (Sw fun hc=>NC ob) fun v2 hv2=>?_;refine ak ?_;(intro hr; simp only [Bool.and_eq_true] at hr; exact ⟨hv1 (by simpa using hr.1),hv2 hr.1 hr.2⟩)
end Go.Proofs.YtfblhejmclcdmaaGreatDoor

namespace Go.Proofs.YtfblhejmclcdmaaGreatDoor
open Go.Ab
set_option maxRecDepth 100000
structure Tm (b:bQ):Prop where
 cl:b.bY.length≤1000000
 ch:aau b.bY
 su:b.bH.length≤1000000
 gr:∀g∈b.bE.Groups,g.bT.length≤1000000
 re:b.Resets.length≤1000000
 ra:∀g∈b.Resets,g.After.length≤1000000
 dm:b.cK.length≤1000000
structure Tn (b:bQ):Prop where
 cl:bW b.bY=0
 su:Sp.bW b.bH=0
 pn:Nw b.bE
 rs:Y4 b.Resets
 dm:Xz b.cK
structure acI (n:Nat) (x:bC):Prop where
 k0:0≤x.Clock
 kl:x.Clock<n
 l0:0≤x.Low
 lh:x.Low≤x.High
 hi:x.High≤4000000000
structure acJ (n:Nat) (x:aM):Prop where
 k0:0≤x.bn
 kl:x.bn<n
 l0:0≤x.Low
 lh:x.Low≤x.High
 hi:x.High≤5000
 ld:0≤x.Load∧x.Load≤10000
structure XB (b:bQ) (n:aV):Prop where
 ll:n.Limits.length≤32
 dl:n.Draws.length≤32
 fl:n.Functions.length≤10
 lm:∀x∈n.Limits,acI b.bY.length x
 dw:∀x∈n.Draws,acJ b.bH.length x
 rs:∀x∈n.Resets,0≤x∧x<b.Resets.length
 dm : -1≤n.iF∧n.iF<b.cK.length
structure XC (l:List aV):Prop where
 len:l.length≤1000000
 nd:∀n∈l,n.Resets.length≤1000000∧n.bA.length≤1000000
structure yO (g:bq):Prop where
 st:g.Setting.length≤1000000
 on:g.Rails.On.length≤1000000
 lv:g.Rails.Level.length≤1000000
 us:g.Uses.length≤1000000
 re:g.Released.length≤1000000
 po:g.Powered.length≤1000000
structure NG (s:dJ):Prop where
 sz:Tm s.aR
 val:Tn s.aR
 nl:s.bX.length≤12
 nd:∀n∈s.bX,XB s.aR n
 nsz:XC s.bX
 ml:s.aI.length≤10000
 gs:yO s.aK
structure XD (s:dJ):Prop where
 mem:∀m∈s.aI,0≤m∧m<s.bX.length
 st:s.aK.Setting.length=s.aR.bY.length
 on:s.aK.Rails.On.length=s.aR.bH.length
 lv:s.aK.Rails.Level.length=s.aR.bH.length
 re:s.aK.Released.length=s.aR.Resets.length
 po:s.aK.Powered.length=s.aR.cK.length
theorem Cu {s_:List Int} {v_:Int} (h1:s_.length≤1000000):slices_Contains_int s_ v_ (s_.contains v_):=Ni h1
theorem OU {b_:bQ} (h1:Tm b_):W (xu b_) (fun r=>r=0→Tn b_):=by
 obtain ⟨z1,z2,z3,z4,z5,z6,z7⟩:=h1;unfold xu;refine ay (Dh (yK ob)) fun v1 hv1=>?_;subst v1;refine aD (fun c1=>?_) (fun c1=>?_)
 ·have c1o:=c1;have c1:=nr c1;refine ak ?_;(intro e; exact absurd e c1)
 ·have c1o:=c1;have c1:=nr c1;refine ay (Sp.wI ob) fun v2 hv2=>?_;subst v2;refine aD (fun c2=>?_) (fun c2=>?_)
  ·have c2o:=c2;have c2:=nr c2;refine ak ?_;(intro e; exact absurd e c2)
  ·have c2o:=c2;have c2:=nr c2;refine ay (IV ob) fun v3 hv3=>?_;refine aD (fun c3=>?_) (fun c3=>?_)
   ·have c3o:=c3;have c3:=nr c3;refine ak ?_;(intro e; exact absurd e c3)
   ·have c3o:=c3;have c3:=nr c3;refine ay (Gl ob) fun v4 hv4=>?_;refine aD (fun c4=>?_) (fun c4=>?_)
    ·have c4o:=c4;have c4:=nr c4;refine ak ?_;(intro e; exact absurd e c4)
    ·have c4o:=c4;have c4:=nr c4;refine ay (Ep) fun v5 hv5=>?_;refine ak ?_;(intro e; exact ⟨by simpa using c1o,by simpa using c2o,hv3 (by simpa using c3o),hv4 (by simpa using c4o),hv5 e⟩)
theorem jL {x_:Int} {low_:Int} {high_:Int}:W (jZ x_ low_ high_) (fun r=>r=(decide (low_≤x_)&&decide (x_≤high_))):=by
 unfold jZ;refine ak ?_;rfl
theorem Q9 {b_:bQ} {n_:aV} {devices_:Int} (h1:Tm b_) (h2:0≤devices_) (h3:devices_≤1000000) (h4:n_.Resets.length≤1000000) (h5:n_.bA.length≤1000000):W (Ap b_ n_ devices_) (fun r=>r=0→XB b_ n_):=by
 obtain ⟨z1,z2,z3,z4,z5,z6,z7⟩:=h1;unfold Ap;refine aD (fun c1=>?_) (fun c1=>?_)
 ·have c1:=nr c1;refine ak ?_;exact ob
 ·have c1:=nr c1;refine bD (fun (g1:Int)=>0≤g1∧(∀j:Nat,(j:Int)<g1→acI b_.bY.length (n_.Limits.getD j cB))) (fun (g1:Int)=>(n_.Limits.length - g1).toNat) ?_ ?_
  ·intro self1 g1 hig1 ihg1;obtain ⟨hg1_1,hg1_2⟩:=hig1;unfold F4;refine aD (fun c2=>?_) (fun c2=>?_)
   ·have c2:=nr c2;refine wn ?_;refine wn ?_;refine ay (jL) fun v3 hv3=>?_;subst v3;refine aD (fun c3=>?_) (fun c3=>?_)
    ·have c3:=nr c3;refine ak ?_;exact ob
    ·have c3:=nr c3;refine wn ?_;refine ihg1 _ ?_ ?_
     ·(refine ⟨by exact ob,fJ hg1_2 hg1_1 ⟨by omega,by omega,by omega,by omega,by omega⟩⟩)
     ·exact ob
   ·have c2:=nr c2;refine bD (fun (g2:Int)=>0≤g2∧(∀j:Nat,(j:Int)<g2→acJ b_.bH.length (n_.Draws.getD j bL))) (fun (g2:Int)=>(n_.Draws.length - g2).toNat) ?_ ?_
    ·intro self2 g2 hig2 ihg2;obtain ⟨hg2_1,hg2_2⟩:=hig2;unfold Dy;refine aD (fun c4=>?_) (fun c4=>?_)
     ·have c4:=nr c4;refine wn ?_;refine wn ?_;refine ay (jL) fun v8 hv8=>?_;subst v8;refine ay (dF fun hc=>iJ (jL)) fun v9 hv9=>?_;subst v9;refine aD (fun c5=>?_) (fun c5=>?_)
      ·have c5:=nr c5;refine ak ?_;exact ob
      ·have c5:=nr c5;refine wn ?_;refine ihg2 _ ?_ ?_
       ·(refine ⟨by exact ob,fJ hg2_2 hg2_1 ⟨by omega,by omega,by omega,by omega,by omega,by omega,by omega⟩⟩)
       ·exact ob
     ·have c4:=nr c4;refine bD (fun (g3:Int)=>0≤g3) (fun (g3:Int)=>(n_.Functions.length - g3).toNat) ?_ ?_
      ·intro self3 g3 hig3 ihg3;unfold Dx;refine aD (fun c6=>?_) (fun c6=>?_)
       ·have c6:=nr c6;refine wn ?_;refine ay (Eo) fun v12 hv12=>?_;refine aD (fun c7=>?_) (fun c7=>?_)
        ·have c7:=nr c7;refine ak ?_;exact ob
        ·have c7:=nr c7;refine wn ?_;refine ihg3 _ ?_ ?_
         ·exact ob
         ·exact ob
       ·have c6:=nr c6;refine bD (fun (g4:Int)=>0≤g4∧(∀j:Nat,(j:Int)<g4→0≤n_.Resets.getD j 0∧n_.Resets.getD j 0<b_.Resets.length)) (fun (g4:Int)=>(n_.Resets.length - g4).toNat) ?_ ?_
        ·intro self4 g4 hig4 ihg4;obtain ⟨hg4_1,hg4_2⟩:=hig4;unfold Dw;refine aD (fun c8=>?_) (fun c8=>?_)
         ·have c8:=nr c8;refine wn ?_;refine wn ?_;refine ay (jL) fun v15 hv15=>?_;subst v15;refine aD (fun c9=>?_) (fun c9=>?_)
          ·have c9:=nr c9;refine ak ?_;exact ob
          ·have c9:=nr c9;refine wn ?_;refine ihg4 _ ?_ ?_
           ·(refine ⟨by exact ob,fJ hg4_2 hg4_1 (by omega)⟩)
           ·exact ob
         ·have c8:=nr c8;refine wn ?_;refine ay (jL) fun v16 hv16=>?_;subst v16;refine aD (fun c10=>?_) (fun c10=>?_)
          ·have c10:=nr c10;refine ak ?_;exact ob
          ·have c10:=nr c10;refine bD (fun (g5:Int)=>0≤g5) (fun (g5:Int)=>(n_.bA.length - g5).toNat) ?_ ?_
           ·intro self5 g5 hig5 ihg5;unfold Dv;refine aD (fun c11=>?_) (fun c11=>?_)
            ·have c11:=nr c11;refine wn ?_;refine wn ?_;refine ay (jL) fun v19 hv19=>?_;subst v19;refine aD (fun c12=>?_) (fun c12=>?_)
             ·have c12:=nr c12;refine ak ?_;exact ob
             ·have c12:=nr c12;refine wn ?_;refine ihg5 _ ?_ ?_
              ·exact ob
              ·exact ob
            ·have c11:=nr c11;refine bD (fun (g6:Int)=>1≤g6) (fun (g6:Int)=>(n_.bA.length - g6).toNat) ?_ ?_
             ·intro self6 g6 hig6 ihg6;unfold Du;refine aD (fun c13=>?_) (fun c13=>?_)
              ·have c13:=nr c13;refine wn ?_;refine wn ?_;refine wn ?_;refine aD (fun c14=>?_) (fun c14=>?_)
               ·have c14:=nr c14;refine ak ?_;exact ob
               ·have c14:=nr c14;refine wn ?_;refine ihg6 _ ?_ ?_
                ·exact ob
                ·exact ob
              ·have c13:=nr c13;refine ak ?_;(intro _; exact ⟨by omega,by omega,by omega,jq cB fun j hj=>hg1_2 j (by omega),jq bL fun j hj=>hg2_2 j (by omega),jq 0 fun j hj=>hg4_2 j (by omega),by omega⟩)
             ·exact ob
           ·exact ob
        ·(refine ⟨by exact ob,fun j hj=>by omega⟩)
      ·exact ob
    ·(refine ⟨by exact ob,fun j hj=>by omega⟩)
  ·(refine ⟨by exact ob,fun j hj=>by omega⟩)
theorem Ra {b_:bQ} {l_:(List aV)} (h1:Tm b_) (h2:XC l_):W (qQ b_ l_) (fun r=>r=0→Tn b_∧l_.length≤12∧(∀n∈l_,XB b_ n)):=by
 obtain ⟨w1,w2⟩:=h2;unfold qQ;refine ay (OU ob) fun v1 hv1=>?_;refine aD (fun c1=>?_) (fun c1=>?_)
 ·have c1o:=c1;have c1:=nr c1;refine ak ?_;(intro e; exact absurd e c1)
 ·have c1o:=c1;have c1:=nr c1;refine aD (fun c2=>?_) (fun c2=>?_)
  ·have c2:=nr c2;refine ak ?_;exact ob
  ·have c2:=nr c2;refine bD (fun (g1:Int)=>0≤g1∧(∀j:Nat,(j:Int)<g1→XB b_ (l_.getD j bJ))) (fun (g1:Int)=>(l_.length - g1).toNat) ?_ ?_
   ·intro self1 g1 hig1 ihg1;obtain ⟨hg1_1,hg1_2⟩:=hig1;unfold F5;refine aD (fun c3=>?_) (fun c3=>?_)
    ·have c3:=nr c3;have hw:=w2 _ (getD_in (i:=g1.toNat) bJ (by omega));refine wn ?_;refine ay (Q9 ob ob ob ob ob) fun v4 hv4=>?_;refine aD (fun c4=>?_) (fun c4=>?_)
     ·have c4o:=c4;have c4:=nr c4;refine ak ?_;(intro e; exact absurd e c4)
     ·have c4o:=c4;have c4:=nr c4;refine wn ?_;refine ihg1 _ ?_ ?_
      ·(refine ⟨by exact ob,fJ hg1_2 hg1_1 (hv4 (by simpa using c4o))⟩)
      ·exact ob
    ·have c3:=nr c3;refine ak ?_;(intro _; exact ⟨hv1 (by simpa using c1o),by omega,jq bJ fun j hj=>hg1_2 j (by omega)⟩)
   ·(refine ⟨by exact ob,fun j hj=>by omega⟩)
theorem yt {l_:(List aV)} {members_:(List Int)} (h1:l_.length≤1000000) (h2:members_.length≤1000000):W (iP l_ members_) (fun r=>r=true→∀m∈members_,0≤m∧m<l_.length):=by
 unfold iP;refine bD (fun (g1:Int)=>0≤g1∧(∀j:Nat,(j:Int)<g1→0≤members_.getD j 0∧members_.getD j 0<l_.length)) (fun (g1:Int)=>(members_.length - g1).toNat) ?_ ?_
 ·intro self1 g1 hig1 ihg1;obtain ⟨hg1_1,hg1_2⟩:=hig1;unfold vZ;refine aD (fun c1=>?_) (fun c1=>?_)
  ·have c1:=nr c1;refine wn ?_;refine wn ?_;refine ay (jL) fun v5 hv5=>?_;subst v5;refine wn ?_;refine ay (dF fun hc=>Cu ob) fun v6 hv6=>?_;subst v6;refine aD (fun c2=>?_) (fun c2=>?_)
   ·have c2:=nr c2;refine ak ?_;exact ob
   ·have c2:=nr c2;refine wn ?_;refine ihg1 _ ?_ ?_
    ·(refine ⟨by exact ob,fJ hg1_2 hg1_1 (by omega)⟩)
    ·exact ob
  ·have c1:=nr c1;refine ak ?_;(intro _; exact jq 0 fun j hj=>hg1_2 j (by omega))
 ·(refine ⟨by exact ob,fun j hj=>by omega⟩)
theorem La {r_:bF} (h1:r_.On.length≤1000000) (h2:r_.Level.length≤1000000):W (zu r_) (fun r=>r=(r_.On,r_.Level)):=by
 unfold zu;refine ay (mZ ob) fun v1 hv1=>?_;subst v1;refine ay (oC ob) fun v2 hv2=>?_;subst v2;refine ak ?_;rfl
theorem Tq {g_:bq} (h1:yO g_):W (EX g_) (fun r=>r=(g_.Setting,g_.Rails.On,g_.Rails.Level,g_.Uses,g_.Released,g_.Powered)):=by
 obtain ⟨z1,z2,z3,z4,z5,z6⟩:=h1;unfold EX;refine ay (oC ob) fun v1 hv1=>?_;subst v1;refine ay (La ob ob) fun v2 hv2=>?_;subst v2;refine ay (zM ob) fun v3 hv3=>?_;subst v3;refine ay (mZ ob) fun v4 hv4=>?_;subst v4;refine ay (mZ ob) fun v5 hv5=>?_;subst v5;refine ak ?_;rfl
theorem FC {s_:dJ} (h1:NG s_):W (lC s_) (fun r=>r=true→XD s_):=by
 obtain ⟨⟨s1,s2,s3,s4,s5,s6,s7⟩,v_,n1,n2,⟨n3,n4⟩,m1,⟨z1,z2,z3,z4,z5,z6⟩⟩:=h1;have hch:∀i,i<s_.aR.bY.length→(s_.aR.bY.getD i au).Choices.length≤1000000:=s2;unfold lC;refine ay (yt ob ob) fun v1 hv1=>?_;refine aD (fun c1=>?_) (fun c1=>?_)
 ·have c1o:=c1;have c1:=nr c1;refine ak ?_;exact ob
 ·have c1o:=c1;have c1:=nr c1;have hm:=hv1 (by simp only [Bool.or_eq_false_iff] at c1o; simpa using c1o.1.1.1.1.1);refine bD (fun (g1:Int)=>0≤g1) (fun (g1:Int)=>(s_.aR.bY.length - g1).toNat) ?_ ?_
  ·intro self1 g1 hig1 ihg1;unfold sG;refine aD (fun c2=>?_) (fun c2=>?_)
   ·have c2:=nr c2;have hq:=hch g1.toNat (by omega);refine wn ?_;refine wn ?_;refine wn ?_;refine ay (jL) fun v4 hv4=>?_;subst v4;refine aD (fun c3=>?_) (fun c3=>?_)
    ·have c3:=nr c3;refine ak ?_;exact ob
    ·have c3:=nr c3;refine wn ?_;refine ihg1 _ ?_ ?_
     ·exact ob
     ·exact ob
   ·have c2:=nr c2;refine bD (fun (g2:Int)=>0≤g2) (fun (g2:Int)=>(s_.aK.Uses.length - g2).toNat) ?_ ?_
    ·intro self2 g2 hig2 ihg2;unfold qx;refine aD (fun c4=>?_) (fun c4=>?_)
     ·have c4:=nr c4;refine wn ?_;refine wn ?_;refine ay (jL) fun v7 hv7=>?_;subst v7;refine aD (fun c5=>?_) (fun c5=>?_)
      ·have c5:=nr c5;refine ak ?_;exact ob
      ·have c5:=nr c5;refine wn ?_;refine ihg2 _ ?_ ?_
       ·exact ob
       ·exact ob
     ·have c4:=nr c4;refine ak ?_;(intro _; exact ⟨hm,by omega,by omega,by omega,by omega,by omega⟩)
    ·exact ob
  ·exact ob
end Go.Proofs.YtfblhejmclcdmaaGreatDoor

namespace Go.Proofs.YtfblhejmclcdmaaGreatDoor
open Go.Ab
set_option maxRecDepth 100000
theorem J8 (f:mX→Option Int) (k k':mX) (n:Int):wT (HZ f k n) k'=if k'=k then n else wT f k':=by
 unfold wT HZ;split<;>rfl
theorem Y6 {l:List av} {s:List Int} (h:(Ei l s).2=0):bW l=0∧settB l s=true∧(Ei l s).1=jf l s:=by
 unfold Ei at h ⊢;cases h1:bW l != 0 with
 | true=>rw [h1] at h; simp at h1; exact absurd h h1
 | false=>
  cases h2:settB l s with
  | false=>rw [h1,h2] at h; cases h
  | true=>exact ⟨by simpa using h1,rfl,rfl⟩
theorem Y7 {l:List av} {s:List Int} (h1:bW l=0) (h2:settB l s=true) (j:Nat) (hj:j<l.length):1≤((jf l s).getD j bZ).Den∧((jf l s).getD j bZ).Den≤16777216:=by
 have:=ou (aaB (Md h1) h2 j hj).2.2.1;exact ⟨this.2.2.1,this.2.2.2.1⟩
theorem Er {s_:dJ} (h1:NG s_):W (kI s_) (fun r=>True):=by
 obtain ⟨⟨s1,s2,s3,s4,s5,s6,s7⟩,vl_,n1,n2,⟨n3,n4⟩,m1,⟨z1,z2,z3,z4,z5,z6⟩⟩:=h1;unfold kI;refine ay (OI ob ob ob ob) fun v1 hv1=>?_;subst v1;exact ak trivial
theorem Es {s_:dJ} (h1:NG s_) (h2:XD s_):W (kJ s_) (fun r=>True):=by
 obtain ⟨⟨s1,s2,s3,s4,s5,s6,s7⟩,vl_,n1,n2,⟨n3,n4⟩,m1,⟨z1,z2,z3,z4,z5,z6⟩⟩:=h1;obtain ⟨y1,y2,y3,y4,y5,y6⟩:=h2;unfold kJ;refine ay (OJ ob ob ob) fun v1 hv1=>?_;subst v1;refine aD (fun c1=>?_) (fun c1=>?_)
 ·have c1o:=c1;have c1:=nr c1;exact ak trivial
 ·have c1o:=c1;have c1:=nr c1;obtain ⟨r1,r2,r3⟩:=Y6 (by simpa using c1o);have hrl:(Ei s_.aR.bY s_.aK.Setting).1.length=s_.aR.bY.length:=(by rw [r3]; exact qX ..);refine bD (fun (g1:Int)=>0≤g1) (fun (g1:Int)=>(s_.aI.length - g1).toNat) ?_ ?_
  ·intro self1 g1 hig1 ihg1;unfold qz;refine aD (fun c2=>?_) (fun c2=>?_)
   ·have c2:=nr c2;have hmem:=getD_in (l:=s_.aI) (i:=g1.toNat) 0 (by omega);have hmi:=y1 _ hmem;have hnd:=getD_in (l:=s_.bX) (i:=(s_.aI.getD g1.toNat 0).toNat) bJ (by omega);have hno:=n2 _ hnd;have hns:=n4 _ hnd;refine wn ?_;refine wn ?_;refine bD (fun (g4:Int)=>0≤g4) (fun (g4:Int)=>((s_.bX.getD (s_.aI.getD g1.toNat 0).toNat bJ).Limits.length - g4).toNat) ?_ ?_
    ·intro self4 g4 hig4 ihg4;unfold qy;refine aD (fun c3=>?_) (fun c3=>?_)
     ·have c3:=nr c3;obtain ⟨x1,x2,x3,x4,x5⟩:=hno.lm _ (getD_in (i:=g4.toNat) cB (by omega));have hll:=hno.ll;have hv:=Y7 r1 r2 (((s_.bX.getD ((s_.aI.getD g1.toNat 0).toNat) bJ).Limits.getD g4.toNat cB).Clock.toNat) (by omega);rw [← r3] at hv;have q1:=JW (show 0≤_ by exact Int.le_trans (by decide) hv.1) hv.2 (Int.le_trans x3 x4) x5;have q2:=JW (show 0≤_ by exact Int.le_trans (by decide) hv.1) hv.2 x3 (Int.le_trans x4 x5);refine wn ?_;refine wn ?_;refine wn ?_;refine wn ?_;refine aD (fun c4=>?_) (fun c4=>?_)
      ·have c4:=nr c4;exact ak trivial
      ·have c4:=nr c4;refine wn ?_;refine ihg4 _ ?_ ?_
       ·exact ob
       ·exact ob
     ·have c3:=nr c3;have hll:=hno.ll;refine wn ?_;refine ihg1 _ ?_ ?_
      ·exact ob
      ·exact ob
    ·exact ob
   ·have c2:=nr c2;exact ak trivial
  ·exact ob
theorem AQ {s_:dJ} (h1:NG s_) (h2:XD s_):W (jE s_) (fun r=>True):=by
 obtain ⟨⟨s1,s2,s3,s4,s5,s6,s7⟩,vl_,n1,n2,⟨n3,n4⟩,m1,⟨z1,z2,z3,z4,z5,z6⟩⟩:=h1;obtain ⟨y1,y2,y3,y4,y5,y6⟩:=h2;unfold jE;refine bD (fun (g1:(Int×(List aM)))=>0≤g1.1∧g1.1≤s_.aI.length∧(g1.2.length:Int)≤32*g1.1) (fun (g1:(Int×(List aM)))=>(s_.aI.length - g1.1).toNat) ?_ ?_
 ·intro self1 g1 hig1 ihg1;obtain ⟨hg1_1,hg1_2,hg1_3⟩:=hig1;unfold oI;refine aD (fun c1=>?_) (fun c1=>?_)
  ·have c1:=nr c1;have hmem:=getD_in (l:=s_.aI) (i:=g1.1.toNat) 0 (by omega);have hmi:=y1 _ hmem;have hnd:=getD_in (l:=s_.bX) (i:=(s_.aI.getD g1.1.toNat 0).toNat) bJ (by omega);have hno:=n2 _ hnd;have hns:=n4 _ hnd;have hdl:=hno.dl;refine wn ?_;refine wn ?_;refine wn ?_;refine wn ?_;refine ihg1 _ ?_ ?_
   ·exact ob
   ·exact ob
  ·have c1:=nr c1;refine ay (La ob ob) fun v1 hv1=>?_;subst v1;refine ay (Sp.Nv ob ob ob) fun v2 hv2=>?_;subst v2;exact ak trivial
 ·exact ob
theorem G7 {s_:dJ} (h1:NG s_):W (mG s_) (fun r=>r=true→∀u∈s_.aK.Uses,Tk s_.aR.bE u.Use):=by
 obtain ⟨⟨s1,s2,s3,s4,s5,s6,s7⟩,vl_,n1,n2,⟨n3,n4⟩,m1,⟨z1,z2,z3,z4,z5,z6⟩⟩:=h1;unfold mG;refine bD (fun (g1:(Int×(List ql)))=>0≤g1.1∧g1.1≤s_.aK.Uses.length∧g1.2=(s_.aK.Uses.take g1.1.toNat).map aL.Use) (fun (g1:(Int×(List ql)))=>(s_.aK.Uses.length - g1.1).toNat) ?_ ?_
 ·intro self1 g1 hig1 ihg1;obtain ⟨hg1_1,hg1_2,hg1_3⟩:=hig1;unfold uq;have hgl:g1.2.length=g1.1.toNat:=(by rw [hg1_3,List.length_map,List.length_take]; omega);refine aD (fun c1=>?_) (fun c1=>?_)
  ·have c1:=nr c1;refine wn ?_;refine wn ?_;refine wn ?_;refine ihg1 _ ?_ ?_
   ·(refine ⟨by exact ob,by exact ob,?_⟩; dsimp only; rw [show (g1.1+1).toNat=g1.1.toNat+1 by omega,jW bS (by omega),List.map_append,hg1_3]; rfl)
   ·exact ob
  ·have c1:=nr c1;refine ay (OT ob ob) fun v1 hv1=>?_;refine ak ?_;(intro hr; have hu:=(hv1 (by simpa using hr)).2; rw [hg1_3,show g1.1.toNat=s_.aK.Uses.length by omega,List.take_length] at hu; intro u hm; exact hu _ (List.mem_map_of_mem hm))
 ·(refine ⟨by exact ob,by exact ob,rfl⟩)
theorem zN {s_:dJ} (h1:NG s_) (h2:XD s_) (h3:∀u∈s_.aK.Uses,Tk s_.aR.bE u.Use):W (jv s_) (fun r=>True):=by
 obtain ⟨⟨s1,s2,s3,s4,s5,s6,s7⟩,vl_,n1,n2,⟨n3,n4⟩,m1,⟨z1,z2,z3,z4,z5,z6⟩⟩:=h1;obtain ⟨y1,y2,y3,y4,y5,y6⟩:=h2;unfold jv;refine bD (fun (g1:Int)=>0≤g1) (fun (g1:Int)=>(s_.aI.length - g1).toNat) ?_ ?_
 ·intro self1 g1 hig1 ihg1;unfold nG;refine aD (fun c1=>?_) (fun c1=>?_)
  ·have c1:=nr c1;have hmem:=getD_in (l:=s_.aI) (i:=g1.toNat) 0 (by omega);have hmi:=y1 _ hmem;have hnd:=getD_in (l:=s_.bX) (i:=(s_.aI.getD g1.toNat 0).toNat) bJ (by omega);have hno:=n2 _ hnd;have hns:=n4 _ hnd;have hfl:=hno.fl;refine wn ?_;refine bD (fun (g6:(Int×(mX→Option Int)))=>0≤g6.1∧g6.1≤s_.aK.Uses.length∧(∀k,0≤wT g6.2 k∧wT g6.2 k≤g6.1)) (fun (g6:(Int×(mX→Option Int)))=>(s_.aK.Uses.length - g6.1).toNat) ?_ ?_
   ·intro self6 g6 hig6 ihg6;obtain ⟨hg6_1,hg6_2,hg6_3⟩:=hig6;unfold nE;refine aD (fun c2=>?_) (fun c2=>?_)
    ·have c2:=nr c2;obtain ⟨u1,u2,u3,u4⟩:=h3 _ (getD_in (i:=g6.1.toNat) bS (by omega));have hmk:=hg6_3 (.s (((s_.aR.bE.Groups.getD ((((s_.aK.Uses.getD g6.1.toNat bS).Use).eH).toNat) aF).Functions).getD ((((s_.aK.Uses.getD g6.1.toNat bS).Use).Function).toNat) ByteArray.empty));refine wn ?_;refine aD (fun c3=>?_) (fun c3=>?_)
     ·have c3:=nr c3;refine wn ?_;refine wn ?_;refine wn ?_;refine wn ?_;refine ihg6 _ ?_ ?_
      ·(refine ⟨by exact ob,by exact ob,fun k=>?_⟩; dsimp only; rw [J8]; have:=hg6_3 k; split<;>omega)
      ·exact ob
     ·have c3:=nr c3;refine wn ?_;refine ihg6 _ ?_ ?_
      ·(refine ⟨by exact ob,by exact ob,fun k=>?_⟩; have:=hg6_3 k; dsimp only; omega)
      ·exact ob
    ·have c2:=nr c2;refine wn ?_;refine bD (fun (g7:(Int×(mX→Option Int)))=>0≤g7.1∧(∀k,0≤wT g7.2 k∧wT g7.2 k≤1000000)) (fun (g7:(Int×(mX→Option Int)))=>((s_.bX.getD (s_.aI.getD g1.toNat 0).toNat bJ).Functions.length - g7.1).toNat) ?_ ?_
     ·intro self7 g7 hig7 ihg7;obtain ⟨hg7_1,hg7_2⟩:=hig7;unfold mW;refine aD (fun c4=>?_) (fun c4=>?_)
      ·have c4:=nr c4;have hmk:=hg7_2 (.s (((s_.bX.getD ((s_.aI.getD g1.toNat 0).toNat) bJ).Functions).getD g7.1.toNat ByteArray.empty));refine wn ?_;refine wn ?_;refine aD (fun c5=>?_) (fun c5=>?_)
       ·have c5:=nr c5;exact ak trivial
       ·have c5:=nr c5;rw [J8,if_pos rfl] at c5;refine wn ?_;refine ihg7 _ ?_ ?_
        ·(refine ⟨by exact ob,fun k=>?_⟩; dsimp only; rw [J8]; have:=hg7_2 k; split<;>omega)
        ·exact ob
      ·have c4:=nr c4;refine wn ?_;refine ihg1 _ ?_ ?_
       ·exact ob
       ·exact ob
     ·(refine ⟨by exact ob,fun k=>by have:=hg6_3 k; dsimp only; omega⟩)
   ·(refine ⟨by exact ob,by exact ob,fun k=>⟨Int.le_refl _,Int.le_refl _⟩⟩)
  ·have c1:=nr c1;exact ak trivial
 ·exact ob
theorem AU {line_:Int} {a10_:(List av)} {a11_:(List aj)} {a12_:Int} {a13_:(List aY)} {a14_:(List cu)} {a15_:(List bM)} {a16_:(List aV)} {a17_:(List Int)} {a18_:(List Int)} {a19_:(List Bool)} {a110_:(List Int)} {a111_:(List aL)} {a112_:(List Bool)} {a113_:(List Bool)} {a114_:Bool} (h1:0≤line_) (h2:line_<a112_.length):W (iG line_ a10_ a11_ a12_ a13_ a14_ a15_ a16_ a17_ a18_ a19_ a110_ a111_ a112_ a113_ a114_) (fun r=>r=!(a112_.getD line_.toNat false)):=by
 unfold iG;refine wn ?_;refine ak ?_;rfl
theorem tX {s_:(List Int)} {f0_:(List av)} {f1_:(List aj)} {f2_:Int} {f3_:(List aY)} {f4_:(List cu)} {f5_:(List bM)} {f6_:(List aV)} {f7_:(List Int)} {f8_:(List Int)} {f9_:(List Bool)} {f10_:(List Int)} {f11_:(List aL)} {f12_:(List Bool)} {f13_:(List Bool)} {f14_:Bool} (h1:s_.length≤1000000) (h2:∀x∈s_,0≤x∧x<f12_.length):W (jk s_ f0_ f1_ f2_ f3_ f4_ f5_ f6_ f7_ f8_ f9_ f10_ f11_ f12_ f13_ f14_) (fun r=>r=s_.any (fun x=>!(f12_.getD x.toNat false))):=
 Dh (Gg (Gf (p:=fun x=>iG x f0_ f1_ f2_ f3_ f4_ f5_ f6_ f7_ f8_ f9_ f10_ f11_ f12_ f13_ f14_) (P:=fun x=>!(f12_.getD x.toNat false)) (fun x hx=>iJ (AU (h2 x hx).1 (h2 x hx).2)) (by omega)) (nK _ _))
theorem Et {s_:dJ} (h1:NG s_) (h2:XD s_):W (kK s_) (fun r=>True):=by
 obtain ⟨⟨s1,s2,s3,s4,s5,s6,s7⟩,vl_,n1,n2,⟨n3,n4⟩,m1,⟨z1,z2,z3,z4,z5,z6⟩⟩:=h1;obtain ⟨y1,y2,y3,y4,y5,y6⟩:=h2;unfold kK;refine ay (NA ob) fun v1 hv1=>?_;refine aD (fun c1=>?_) (fun c1=>?_)
 ·have c1:=nr c1;exact ak trivial
 ·have c1:=nr c1;refine bD (fun (g1:Int)=>0≤g1) (fun (g1:Int)=>(s_.aI.length - g1).toNat) ?_ ?_
  ·intro self1 g1 hig1 ihg1;unfold qA;refine aD (fun c2=>?_) (fun c2=>?_)
   ·have c2:=nr c2;have hmem:=getD_in (l:=s_.aI) (i:=g1.toNat) 0 (by omega);have hmi:=y1 _ hmem;have hnd:=getD_in (l:=s_.bX) (i:=(s_.aI.getD g1.toNat 0).toNat) bJ (by omega);have hno:=n2 _ hnd;have hns:=n4 _ hnd;refine wn ?_;refine wn ?_;refine ay (tX (by omega) (fun x hx=>(by have:=hno.rs x hx; omega))) fun v4 hv4=>?_;subst v4;refine aD (fun c3=>?_) (fun c3=>?_)
    ·have c3:=nr c3;exact ak trivial
    ·have c3:=nr c3;refine wn ?_;refine ihg1 _ ?_ ?_
     ·exact ob
     ·exact ob
   ·have c2:=nr c2;exact ak trivial
  ·exact ob
theorem zO {m_:Int} {a10_:(List av)} {a11_:(List aj)} {a12_:Int} {a13_:(List aY)} {a14_:(List cu)} {a15_:(List bM)} {a16_:(List aV)} {a17_:(List Int)} {a18_:(List Int)} {a19_:(List Bool)} {a110_:(List Int)} {a111_:(List aL)} {a112_:(List Bool)} {a113_:(List Bool)} {a114_:Bool} (h1:0≤m_) (h2:m_<a16_.length) (h3:(a16_.getD m_.toNat bJ).iF<a113_.length):W (gZ m_ a10_ a11_ a12_ a13_ a14_ a15_ a16_ a17_ a18_ a19_ a110_ a111_ a112_ a113_ a114_) (fun r=>r=((decide ((0:Int)≤(a16_.getD m_.toNat bJ).iF))&&(!(a113_.getD (((a16_.getD m_.toNat bJ).iF).toNat) false)))):=by
 unfold gZ;refine wn ?_;refine wn ?_;refine ak ?_;rfl
theorem tY {s_:(List Int)} {f0_:(List av)} {f1_:(List aj)} {f2_:Int} {f3_:(List aY)} {f4_:(List cu)} {f5_:(List bM)} {f6_:(List aV)} {f7_:(List Int)} {f8_:(List Int)} {f9_:(List Bool)} {f10_:(List Int)} {f11_:(List aL)} {f12_:(List Bool)} {f13_:(List Bool)} {f14_:Bool} (h1:s_.length≤1000000) (h2:∀x∈s_,0≤x∧x<f6_.length∧(f6_.getD x.toNat bJ).iF<f13_.length):W (jl s_ f0_ f1_ f2_ f3_ f4_ f5_ f6_ f7_ f8_ f9_ f10_ f11_ f12_ f13_ f14_) (fun r=>r=s_.any (fun x=>((decide ((0:Int)≤(f6_.getD x.toNat bJ).iF))&&(!(f13_.getD (((f6_.getD x.toNat bJ).iF).toNat) false))))):=
 Dh (Gg (Gf (p:=fun x=>gZ x f0_ f1_ f2_ f3_ f4_ f5_ f6_ f7_ f8_ f9_ f10_ f11_ f12_ f13_ f14_) (P:=fun x=>((decide ((0:Int)≤(f6_.getD x.toNat bJ).iF))&&(!(f13_.getD (((f6_.getD x.toNat bJ).iF).toNat) false)))) (fun x hx=>iJ (zO (h2 x hx).1 (h2 x hx).2.1 (h2 x hx).2.2)) (by omega)) (nK _ _))
theorem Cv {s_:dJ} (h1:NG s_) (h2:XD s_):W (jO s_) (fun r=>True):=by
 obtain ⟨⟨s1,s2,s3,s4,s5,s6,s7⟩,vl_,n1,n2,⟨n3,n4⟩,m1,⟨z1,z2,z3,z4,z5,z6⟩⟩:=h1;obtain ⟨y1,y2,y3,y4,y5,y6⟩:=h2;unfold jO;refine ay (ND) fun v1 hv1=>?_;refine aD (fun c1=>?_) (fun c1=>?_)
 ·have c1:=nr c1;exact ak trivial
 ·have c1:=nr c1;refine ay (tY (by omega) (fun x hx=>(by have q:=y1 x hx; have:=(n2 _ (getD_in (i:=x.toNat) bJ (by omega))).dm; omega))) fun v2 hv2=>?_;subst v2;exact ak trivial
theorem Eu {s_:dJ} (h1:NG s_):W (fZ s_) (fun r=>True):=by
 unfold fZ;refine wn ?_;refine ay (FC ob) fun v1 hv1=>?_;refine aD (fun c1=>?_) (fun c1=>?_)
 ·have c1o:=c1;have c1:=nr c1;refine wn ?_;exact ak trivial
 ·have c1o:=c1;have c1:=nr c1;have hsh:=hv1 (by simpa using c1o);refine wn ?_;refine wn ?_;refine ay (Er ob) fun v2 hv2=>?_;refine aD (fun c2=>?_) (fun c2=>?_)
  ·have c2:=nr c2;refine wn ?_;exact ak trivial
  ·have c2:=nr c2;refine wn ?_;refine wn ?_;refine ay (Es ob ob) fun v3 hv3=>?_;refine aD (fun c3=>?_) (fun c3=>?_)
   ·have c3:=nr c3;refine wn ?_;exact ak trivial
   ·have c3:=nr c3;refine wn ?_;refine wn ?_;refine ay (AQ ob ob) fun v4 hv4=>?_;refine aD (fun c4=>?_) (fun c4=>?_)
    ·have c4:=nr c4;refine wn ?_;exact ak trivial
    ·have c4:=nr c4;refine wn ?_;refine wn ?_;refine ay (G7 ob) fun v5 hv5=>?_;refine aD (fun c5=>?_) (fun c5=>?_)
     ·have c5o:=c5;have c5:=nr c5;refine wn ?_;exact ak trivial
     ·have c5o:=c5;have c5:=nr c5;have hup:=hv5 (by simpa using c5o);refine wn ?_;refine wn ?_;refine ay (zN ob ob ob) fun v6 hv6=>?_;refine aD (fun c6=>?_) (fun c6=>?_)
      ·have c6:=nr c6;refine wn ?_;exact ak trivial
      ·have c6:=nr c6;refine wn ?_;refine wn ?_;refine ay (Et ob ob) fun v7 hv7=>?_;refine aD (fun c7=>?_) (fun c7=>?_)
       ·have c7:=nr c7;refine wn ?_;exact ak trivial
       ·have c7:=nr c7;refine wn ?_;refine wn ?_;refine ay (Cv ob ob) fun v8 hv8=>?_;refine aD (fun c8=>?_) (fun c8=>?_)
        ·have c8:=nr c8;refine wn ?_;exact ak trivial
        ·have c8:=nr c8;refine wn ?_;exact ak trivial
end Go.Proofs.YtfblhejmclcdmaaGreatDoor

namespace Go.Proofs.YtfblhejmclcdmaaGreatDoor
open Go.Ab
set_option maxRecDepth 100000
def AX {α:Type} (l:List α) (i:Int) (v:α):Bool×List α:=bif decide (i<0)||decide ((l.length:Int)≤i) then (false,l) else (true,l.set i.toNat v)
theorem fT {α:Type} (l:List α) (i:Int) (v:α):(AX l i v).2.length=l.length:=by
 unfold AX;cases decide (i<0)||decide ((l.length:Int)≤i)<;>simp
def Y8 (u:Int) (h:aL):Bool:=h.Use.eH==u
theorem acK {α:Type} (d:α) {a b:List α} (h1:a.length=b.length) (h2:∀j,j<a.length→a.getD j d=b.getD j d):a=b:=Sp.Ej d h1 h2
theorem zP {α:Type} (d:α) (l:List α) (n j:Nat) (h:j<n):(l.take n).getD j d=l.getD j d:=by
 rw [List.getD_eq_getElem?_getD,List.getD_eq_getElem?_getD,List.getElem?_take_of_lt h]
theorem XE {α:Type} (d:α) (l:List α) (n j:Nat):(l.drop n).getD j d=l.getD (n+j) d:=by
 rw [List.getD_eq_getElem?_getD,List.getD_eq_getElem?_getD,List.getElem?_drop]
theorem U7 {α:Type} (d:α) (l:List α) (i j:Nat):(l.eraseIdx i).getD j d=if j<i then l.getD j d else l.getD (j+1) d:=by
 rw [List.getD_eq_getElem?_getD,List.getElem?_eraseIdx];split<;>rw [List.getD_eq_getElem?_getD]
theorem del_eq {s:Nat} {i j:Int} {o:List aL} {n k:Nat} {q:List aL} (h0:0≤i∧j=i+1) (h1:j≤s) (h2:s≤o.length) (hn:n+1=s) (hk:k=n):(Lg (Lg o (0+i.toNat) ((o.drop (0+j.toNat)).take (s - j.toNat))) (0+(((i.toNat+(s - j.toNat)):Nat):Int).toNat) q).take n=(o.take s).eraseIdx i.toNat:=by
 have e1:(0+(((i.toNat+(s - j.toNat)):Nat):Int).toNat)=n:=by omega
 refine acK bS ?_ ?_
 ·rw [List.length_take,gV,gV,List.length_eraseIdx_of_lt (by rw [List.length_take]; omega),List.length_take];omega
 ·intro t ht;rw [List.length_take,gV,gV] at ht;rw [zP _ _ _ _ (by omega),JN bS (by rw [gV]; omega),if_neg (by omega),JN bS (by omega),U7];simp only [List.length_take,List.length_drop];by_cases c:t<i.toNat
  ·rw [if_neg (by omega),if_pos c,zP _ _ _ _ (by omega)]
  ·rw [if_pos (by omega),if_neg c,zP _ _ _ _ (by omega),XE,zP _ _ _ _ (by omega)];congr 1;omega
theorem Wo {α:Type} {l:List α} {P:α→Bool} (h:0≤GL l P):GL l P<l.length:=by
 unfold GL at h ⊢;split at h
 ·rename_i q;rw [if_pos q];have:=List.findIdx_lt_length_of_exists (List.any_eq_true.1 q);omega
 ·omega
theorem Gm {α:Type} {l:List α} {n:Nat} {x:α} (h:n≤l.length):(l.take n++[x]).take (n+1)=l.take n++[x]:=by
 rw [List.take_of_length_le];rw [List.length_append,List.length_take];simp;omega
theorem Cg {at_:Int} {x_:Int} {o0_:(List Int)}:W (nH at_ x_ o0_) (fun r=>r=AX o0_ at_ x_):=by
 unfold nH;refine aD (fun c1=>?_) (fun c1=>?_)
 ·have c1o:=c1;have c1:=nr c1;refine ak ?_;(unfold AX; rw [c1o]; rfl)
 ·have c1o:=c1;have c1:=nr c1;refine wn ?_;refine ak ?_;(unfold AX; rw [c1o]; rfl)
theorem ru {at_:Int} {x_:Bool} {o0_:(List Bool)}:W (j3 at_ x_ o0_) (fun r=>r=AX o0_ at_ x_):=by
 unfold j3;refine aD (fun c1=>?_) (fun c1=>?_)
 ·have c1o:=c1;have c1:=nr c1;refine ak ?_;(unfold AX; rw [c1o]; rfl)
 ·have c1o:=c1;have c1:=nr c1;refine wn ?_;refine ak ?_;(unfold AX; rw [c1o]; rfl)
theorem Lr {u_:aL} {a10_:Int} {a11_:Int} {a12_:Int}:W (nI u_ a10_ a11_ a12_) (fun r=>r=(u_.Use.eH==a11_)):=by
 unfold nI;refine ak ?_;rfl
theorem vB {s_:List aL} {f0_ f1_ f2_:Int} (h1:s_.length≤1000000):W (jy s_ f0_ f1_ f2_) (fun r=>r=GL s_ (Y8 f1_)):=
 Gf (p:=fun x=>nI x f0_ f1_ f2_) (P:=Y8 f1_) (fun x _=>iJ Lr) (by omega)
theorem vC {s_:Nat} {i_:Int} {j_:Int} {o0_:(List aL)} (h1:0≤i_) (h2:j_=i_+1) (h3:j_≤s_) (h4:s_≤o0_.length) (h5:o0_.length≤1000000):W (gX s_ i_ j_ o0_) (fun r=>r.1+1=s_∧r.2.length=o0_.length∧r.2.take r.1=(o0_.take s_).eraseIdx i_.toNat):=by
 unfold gX;refine wn ?_;refine wn ?_;refine aD (fun c1=>?_) (fun c1=>?_)
 ·have c1o:=c1;have c1:=nr c1;have c1:i_=j_:=(by simpa using c1o);refine ak ?_;(exfalso; omega)
 ·have c1o:=c1;have c1:=nr c1;refine wn ?_;refine wn ?_;refine wn ?_;refine wn ?_;refine ak ?_;(refine ⟨by dsimp only; omega,by simp only [gV],del_eq ⟨h1,h2⟩ h3 h4 (by omega) rfl⟩)
def grO (n:Nat) (o1:List Int) (o2:List Bool) (o3:List Int) (o4:List aL) (o5 o6:List Bool):bq:=⟨o1,⟨o2,o3⟩,o4.take n,o5,o6⟩
def grT (r:Nat×List Int×List Bool×List Int×List Bool×List Bool×List aL):bq:=grO r.1 r.2.1 r.2.2.1 r.2.2.2.1 r.2.2.2.2.2.2 r.2.2.2.2.1 r.2.2.2.2.2.1
def U8 (u v:Int) (l:List aL):List aL:=bif decide (0<v) then l++[⟨-1,⟨u,v - 1⟩⟩] else l
def Tt (u:Int) (l:List aL):List aL:=bif decide (0≤GL l (Y8 u)) then l.eraseIdx (GL l (Y8 u)).toNat else l
def dS (w:dP) (g:bq):Bool×bq:=
 bif decide (w.Value<0) then (false,g)
 else bif w.Kind==1 then ((AX g.Setting w.Unit w.Value).1,{ g with Setting:=(AX g.Setting w.Unit w.Value).2 })
 else bif w.Kind==2 then ((AX g.Rails.Level w.Unit w.Value).1,{ g with Rails:=⟨g.Rails.On,(AX g.Rails.Level w.Unit w.Value).2⟩ })
 else bif w.Kind==3 then (bif decide (w.Value≤1) then ((AX g.Rails.On w.Unit (w.Value==1)).1,{ g with Rails:=⟨(AX g.Rails.On w.Unit (w.Value==1)).2,g.Rails.Level⟩ }) else (false,g))
 else bif w.Kind==11 then (bif decide (w.Value≤1) then ((AX g.Released w.Unit (w.Value==1)).1,{ g with Released:=(AX g.Released w.Unit (w.Value==1)).2 }) else (false,g))
 else bif w.Kind==12 then (bif decide (w.Value≤1) then ((AX g.Powered w.Unit (w.Value==1)).1,{ g with Powered:=(AX g.Powered w.Unit (w.Value==1)).2 }) else (false,g))
 else bif w.Kind==10 then (bif !(decide (0≤w.Unit)&&decide (w.Unit≤23)) then (false,g) else (true,{ g with Uses:=U8 w.Unit w.Value (Tt w.Unit g.Uses) }))
 else (false,g)
theorem J9 {w_:dP} {o0x0_:(List av)} {o0x1_:(List aj)} {o0x2_:Int} {o0x3_:(List aY)} {o0x4_:(List cu)} {o0x5_:(List bM)} {o0x6_:(List aV)} {o0x7_:(List Int)} {o0x8_:Nat} {o0x9_:Bool} {o1_:(List Int)} {o2_:(List Bool)} {o3_:(List Int)} {o4_:(List aL)} {o5_:(List Bool)} {o6_:(List Bool)} (h1:o0x8_≤o4_.length) (h2:o4_.length≤1000000) (h3:w_.Value≤9223372036854775807):W (pG w_ o0x0_ o0x1_ o0x2_ o0x3_ o0x4_ o0x5_ o0x6_ o0x7_ o0x8_ o0x9_ o1_ o2_ o3_ o4_ o5_ o6_) (fun r=>(r.1,grT r.2)=dS w_ (grO o0x8_ o1_ o2_ o3_ o4_ o5_ o6_)∧r.2.2.1.length=o1_.length∧r.2.2.2.1.length=o2_.length∧r.2.2.2.2.1.length=o3_.length∧r.2.2.2.2.2.1.length=o5_.length∧r.2.2.2.2.2.2.1.length=o6_.length∧r.2.1≤r.2.2.2.2.2.2.2.length∧r.2.2.2.2.2.2.2.length≤o4_.length+1):=by
 unfold pG;refine wn ?_;refine aD (fun c1=>?_) (fun c1=>?_)
 ·have c1o:=c1;have c1:=nr c1;refine ak ?_;(refine ⟨(by unfold dS; rw [c1o]; rfl),?_,?_,?_,?_,?_,?_,?_⟩<;>first | rfl | exact fT .. | (dsimp only; omega) | (simp only [List.length_append,List.length_take,List.length_singleton]; omega))
 ·have c1o:=c1;have c1:=nr c1;refine aD (fun c2=>?_) (fun c2=>?_)
  ·have c2o:=c2;have c2:=nr c2;refine ay (Cg) fun v1 hv1=>?_;subst v1;refine bV (by (exact fT ..)) ?_;refine ak ?_;(refine ⟨(by unfold dS; rw [c1o,c2o]; rfl),?_,?_,?_,?_,?_,?_,?_⟩<;>first | rfl | exact fT .. | (dsimp only; omega) | (simp only [List.length_append,List.length_take,List.length_singleton]; omega))
  ·have c2o:=c2;have c2:=nr c2;refine aD (fun c3=>?_) (fun c3=>?_)
   ·have c3o:=c3;have c3:=nr c3;refine ay (Cg) fun v2 hv2=>?_;subst v2;refine bV (by (exact fT ..)) ?_;refine ak ?_;(refine ⟨(by unfold dS; rw [c1o,c2o,c3o]; rfl),?_,?_,?_,?_,?_,?_,?_⟩<;>first | rfl | exact fT .. | (dsimp only; omega) | (simp only [List.length_append,List.length_take,List.length_singleton]; omega))
   ·have c3o:=c3;have c3:=nr c3;refine aD (fun c4=>?_) (fun c4=>?_)
    ·have c4o:=c4;have c4:=nr c4;refine aD (fun c5=>?_) (fun c5=>?_)
     ·have c5o:=c5;have c5:=nr c5;have d5:decide (w_.Value≤1)=true:=(by simpa using c5o);refine ay (ru) fun v3 hv3=>?_;subst v3;refine bV (by (exact fT ..)) ?_;refine ak ?_;(refine ⟨(by unfold dS; rw [c1o,c2o,c3o,c4o,d5]; rfl),?_,?_,?_,?_,?_,?_,?_⟩<;>first | rfl | exact fT .. | (dsimp only; omega) | (simp only [List.length_append,List.length_take,List.length_singleton]; omega))
     ·have c5o:=c5;have c5:=nr c5;have d5:decide (w_.Value≤1)=false:=(by simpa using c5o);refine wn ?_;refine ak ?_;(refine ⟨(by unfold dS; rw [c1o,c2o,c3o,c4o,d5]; rfl),?_,?_,?_,?_,?_,?_,?_⟩<;>first | rfl | exact fT .. | (dsimp only; omega) | (simp only [List.length_append,List.length_take,List.length_singleton]; omega))
    ·have c4o:=c4;have c4:=nr c4;refine aD (fun c6=>?_) (fun c6=>?_)
     ·have c6o:=c6;have c6:=nr c6;refine aD (fun c7=>?_) (fun c7=>?_)
      ·have c7o:=c7;have c7:=nr c7;have d7:decide (w_.Value≤1)=true:=(by simpa using c7o);refine ay (ru) fun v4 hv4=>?_;subst v4;refine bV (by (exact fT ..)) ?_;refine ak ?_;(refine ⟨(by unfold dS; rw [c1o,c2o,c3o,c4o,c6o,d7]; rfl),?_,?_,?_,?_,?_,?_,?_⟩<;>first | rfl | exact fT .. | (dsimp only; omega) | (simp only [List.length_append,List.length_take,List.length_singleton]; omega))
      ·have c7o:=c7;have c7:=nr c7;have d7:decide (w_.Value≤1)=false:=(by simpa using c7o);refine wn ?_;refine ak ?_;(refine ⟨(by unfold dS; rw [c1o,c2o,c3o,c4o,c6o,d7]; rfl),?_,?_,?_,?_,?_,?_,?_⟩<;>first | rfl | exact fT .. | (dsimp only; omega) | (simp only [List.length_append,List.length_take,List.length_singleton]; omega))
     ·have c6o:=c6;have c6:=nr c6;refine aD (fun c8=>?_) (fun c8=>?_)
      ·have c8o:=c8;have c8:=nr c8;refine aD (fun c9=>?_) (fun c9=>?_)
       ·have c9o:=c9;have c9:=nr c9;have d9:decide (w_.Value≤1)=true:=(by simpa using c9o);refine ay (ru) fun v5 hv5=>?_;subst v5;refine bV (by (exact fT ..)) ?_;refine ak ?_;(refine ⟨(by unfold dS; rw [c1o,c2o,c3o,c4o,c6o,c8o,d9]; rfl),?_,?_,?_,?_,?_,?_,?_⟩<;>first | rfl | exact fT .. | (dsimp only; omega) | (simp only [List.length_append,List.length_take,List.length_singleton]; omega))
       ·have c9o:=c9;have c9:=nr c9;have d9:decide (w_.Value≤1)=false:=(by simpa using c9o);refine wn ?_;refine ak ?_;(refine ⟨(by unfold dS; rw [c1o,c2o,c3o,c4o,c6o,c8o,d9]; rfl),?_,?_,?_,?_,?_,?_,?_⟩<;>first | rfl | exact fT .. | (dsimp only; omega) | (simp only [List.length_append,List.length_take,List.length_singleton]; omega))
      ·have c8o:=c8;have c8:=nr c8;refine aD (fun c10=>?_) (fun c10=>?_)
       ·have c10o:=c10;have c10:=nr c10;refine ay (jL) fun v6 hv6=>?_;subst v6;refine aD (fun c11=>?_) (fun c11=>?_)
        ·have c11o:=c11;have c11:=nr c11;refine ak ?_;(refine ⟨(by unfold dS; rw [c1o,c2o,c3o,c4o,c6o,c8o,c10o,c11o]; rfl),?_,?_,?_,?_,?_,?_,?_⟩<;>first | rfl | exact fT .. | (dsimp only; omega) | (simp only [List.length_append,List.length_take,List.length_singleton]; omega))
        ·have c11o:=c11;have c11:=nr c11;refine ay (vB ob) fun v9 hv9=>?_;subst v9;refine aD (fun c12=>?_) (fun c12=>?_)
         ·have c12o:=c12;have c12:=nr c12;refine bV (by (have:=Wo c12; have:=List.length_take_le o0x8_ o4_; unfold InI64; omega)) ?_;refine ay (vC c12 rfl (by have:=Wo c12; rw [List.length_take] at this; omega) h1 h2) fun v10 hv10=>?_;obtain ⟨hv10_1,hv10_2,hv10_3⟩:=hv10;refine wn ?_;unfold jm;refine wn ?_;refine aD (fun c13=>?_) (fun c13=>?_)
          ·have c13o:=c13;have c13:=nr c13;refine wn ?_;refine wn ?_;refine ak ?_;(refine ⟨(by unfold dS; rw [c1o,c2o,c3o,c4o,c6o,c8o,c10o,c11o]; simp only [cond_true,cond_false]; unfold U8 Tt grT grO; dsimp only; rw [c12o,c13o,Gm (by omega),hv10_3]; rfl),?_,?_,?_,?_,?_,?_,?_⟩<;>first | rfl | exact fT .. | (dsimp only; omega) | (simp only [List.length_append,List.length_take,List.length_singleton]; omega))
          ·have c13o:=c13;have c13:=nr c13;refine ak ?_;(refine ⟨(by unfold dS; rw [c1o,c2o,c3o,c4o,c6o,c8o,c10o,c11o]; simp only [cond_true,cond_false]; unfold U8 Tt grT grO; dsimp only; rw [c12o,c13o,hv10_3]; rfl),?_,?_,?_,?_,?_,?_,?_⟩<;>first | rfl | exact fT .. | (dsimp only; omega) | (simp only [List.length_append,List.length_take,List.length_singleton]; omega))
         ·have c12o:=c12;have c12:=nr c12;unfold jm;refine wn ?_;refine aD (fun c14=>?_) (fun c14=>?_)
          ·have c14o:=c14;have c14:=nr c14;refine wn ?_;refine wn ?_;refine ak ?_;(refine ⟨(by unfold dS; rw [c1o,c2o,c3o,c4o,c6o,c8o,c10o,c11o]; simp only [cond_true,cond_false]; unfold U8 Tt grT grO; dsimp only; rw [c12o,c14o,Gm (by omega)]; rfl),?_,?_,?_,?_,?_,?_,?_⟩<;>first | rfl | exact fT .. | (dsimp only; omega) | (simp only [List.length_append,List.length_take,List.length_singleton]; omega))
          ·have c14o:=c14;have c14:=nr c14;refine ak ?_;(refine ⟨(by unfold dS; rw [c1o,c2o,c3o,c4o,c6o,c8o,c10o,c11o]; simp only [cond_true,cond_false]; unfold U8 Tt grT grO; dsimp only; rw [c12o,c14o]; rfl),?_,?_,?_,?_,?_,?_,?_⟩<;>first | rfl | exact fT .. | (dsimp only; omega) | (simp only [List.length_append,List.length_take,List.length_singleton]; omega))
       ·have c10o:=c10;have c10:=nr c10;refine ak ?_;(refine ⟨(by unfold dS; rw [c1o,c2o,c3o,c4o,c6o,c8o,c10o]; rfl),?_,?_,?_,?_,?_,?_,?_⟩<;>first | rfl | exact fT .. | (dsimp only; omega) | (simp only [List.length_append,List.length_take,List.length_singleton]; omega))
end Go.Proofs.YtfblhejmclcdmaaGreatDoor

namespace Go.Proofs.YtfblhejmclcdmaaGreatDoor
open Go.Ab
set_option maxRecDepth 100000
noncomputable def pick {R:Type} [Inhabited R] (m:R→Prop):R:=Classical.epsilon m
theorem U9 {R:Type} [Inhabited R] {m:M R} {Q:R→Prop} (h:W m Q):W m (fun r=>r=pick (fun r=>m r∧Q r)∧Q r):=by
 obtain ⟨r,h1,h2⟩:=h;have:=Classical.epsilon_spec (p:=fun r=>m r∧Q r) ⟨r,h1,h2⟩;exact ⟨_,this.1,rfl,this.2⟩
noncomputable def ndF (b:bQ) (l:List aV):Int:=pick (fun r=>qQ b l r∧(r=0→Tn b∧l.length≤12∧(∀n∈l,XB b n)))
theorem OV {b_:bQ} {l_:List aV} (h1:Tm b_) (h2:XC l_):W (qQ b_ l_) (fun r=>r=ndF b_ l_∧(r=0→Tn b_∧l_.length≤12∧(∀n∈l_,XB b_ n))):=U9 (Ra h1 h2)
noncomputable def dfF (l:List aV) (m:List Int):Bool:=pick (fun r=>iP l m r∧(r=true→∀x∈m,0≤x∧x<l.length))
theorem G8 {l_:List aV} {members_:List Int} (h1:l_.length≤1000000) (h2:members_.length≤1000000):W (iP l_ members_) (fun r=>r=dfF l_ members_∧(r=true→∀m∈members_,0≤m∧m<l_.length)):=U9 (yt h1 h2)
noncomputable def scF (s:dJ):Int:=pick (fun r=>fZ s r∧True)
theorem qI {s_:dJ} (h1:NG s_):W (fZ s_) (fun r=>r=scF s_):=abQ (U9 (Eu h1)) fun _ h=>h.1
noncomputable def Qe (b:bQ) (l:List aV) (m:List Int) (g:bq):Int:=scF ⟨b,l,m,g,true⟩
def ZP:bq:=⟨[],⟨[],[]⟩,[],[],[]⟩
noncomputable def tq (b:bQ) (l:List aV) (m:List Int):List dP→Int→bq→bq×Int×Int×Int
 | [],i,g=>(g,i,0,0)
 | w::t,i,g=>bif !(dS w g).1 then (ZP,0,0,2) else bif Qe b l m (dS w g).2 != 0 then ((dS w g).2,i,Qe b l m (dS w g).2,0) else tq b l m t (i+1) (dS w g).2
noncomputable def dQ (b:bQ) (l:List aV) (m:List Int) (g:bq) (w:List dP):bq×Int×Int×Int:=
 bif ndF b l != 0 then (ZP,0,0,ndF b l) else bif !dfF l m then (ZP,0,0,2) else bif Qe b l m g != 0 then (g,-1,Qe b l m g,0) else tq b l m w 0 g
def stG (g:Int×Nat×List Int×List Bool×List Int×List aL×List Bool×List Bool):bq:=grO g.2.1 g.2.2.1 g.2.2.2.1 g.2.2.2.2.1 g.2.2.2.2.2.1 g.2.2.2.2.2.2.1 g.2.2.2.2.2.2.2
theorem rT {b_:bQ} {l_:(List aV)} {members_:(List Int)} {g_:bq} {w_:(List dP)} (h1:Tm b_) (h2:XC l_) (h3:members_.length≤10000) (h4:yO g_) (h5:g_.Uses.length≤100000) (h6:w_.length≤100000) (h7:∀x∈w_,x.Value≤9223372036854775807):W (l5 b_ l_ members_ g_ w_) (fun r=>r=dQ b_ l_ members_ g_ w_):=by
 have h2r:=h2;obtain ⟨n3,n4⟩:=h2;obtain ⟨z1,z2,z3,z4,z5,z6⟩:=id h4;unfold l5;refine ay (OV h1 h2r) fun v1 hv1=>?_;obtain ⟨hv1_1,hv1_2⟩:=hv1;refine aD (fun c1=>?_) (fun c1=>?_)
 ·have c1o:=c1;have c1:=nr c1;refine ak ?_;(unfold dQ; rw [← hv1_1,c1o]; rfl)
 ·have c1o:=c1;have c1:=nr c1;refine ay (G8 ob ob) fun v2 hv2=>?_;obtain ⟨hv2_1,hv2_2⟩:=hv2;refine aD (fun c2=>?_) (fun c2=>?_)
  ·have c2o:=c2;have c2:=nr c2;refine ak ?_;(unfold dQ; rw [← hv1_1,c1o,← hv2_1,c2o]; rfl)
  ·have c2o:=c2;have c2:=nr c2;obtain ⟨q1,q2,q3⟩:=hv1_2 (by simpa using c1o);have hsc:∀g:bq,yO g→NG (⟨b_,l_,members_,g,true⟩:dJ):=fun g hg=>⟨h1,q1,q2,q3,h2r,h3,hg⟩
   refine ay (Tq ob) fun v3 hv3=>?_;subst v3;refine ay (qI (hsc _ h4)) fun v4 hv4=>?_;subst v4;refine aD (fun c3=>?_) (fun c3=>?_)
   ·have c3o:=c3;have c3:=nr c3;refine ak ?_;(unfold dQ; rw [← hv1_1,c1o,← hv2_1,c2o]; simp only [cond_false]; unfold Qe; rw [c3o]; rfl)
   ·have c3o:=c3;have c3:=nr c3;have htf:dQ b_ l_ members_ g_ w_=tq b_ l_ members_ w_ 0 g_:=(by unfold dQ; rw [← hv1_1,c1o,← hv2_1,c2o]; simp only [cond_false]; unfold Qe; rw [c3o]; rfl);refine bD (fun (g1:(Int×Nat×(List Int)×(List Bool)×(List Int)×(List aL)×(List Bool)×(List Bool)))=>0≤g1.1∧g1.1≤w_.length∧g1.2.1≤g1.2.2.2.2.2.1.length∧(g1.2.2.2.2.2.1.length:Int)≤100000+g1.1∧g1.2.2.1.length≤1000000∧g1.2.2.2.1.length≤1000000∧g1.2.2.2.2.1.length≤1000000∧g1.2.2.2.2.2.2.1.length≤1000000∧g1.2.2.2.2.2.2.2.length≤1000000∧tq b_ l_ members_ (w_.drop g1.1.toNat) g1.1 (stG g1)=tq b_ l_ members_ w_ 0 g_) (fun (g1:(Int×Nat×(List Int)×(List Bool)×(List Int)×(List aL)×(List Bool)×(List Bool)))=>(w_.length - g1.1).toNat) ?_ ?_
    ·intro self1 g1 hig1 ihg1;obtain ⟨hg1_1,hg1_2,hg1_3,hg1_4,hg1_5,hg1_6,hg1_7,hg1_8,hg1_9,hg1_10⟩:=hig1;unfold BD;refine wn ?_;refine aD (fun c4=>?_) (fun c4=>?_)
     ·have c4:=nr c4;have hw:=h7 _ (getD_in (i:=g1.1.toNat) tu (by omega));have hst:=hg1_10;rw [drop_cons tu (show g1.1.toNat<w_.length by omega),tq] at hst;refine wn ?_;refine ay (J9 ob ob ob) fun v9 hv9=>?_;obtain ⟨hv9_1,hv9_2,hv9_3,hv9_4,hv9_5,hv9_6,hv9_7,hv9_8⟩:=hv9;have hap:=hv9_1;rw [Prod.ext_iff] at hap;obtain ⟨hap1,hap2⟩:=hap;dsimp only at hap1 hap2;refine wn ?_;refine aD (fun c5=>?_) (fun c5=>?_)
      ·have c5o:=c5;have c5:=nr c5;have e5:(dS (w_.getD g1.1.toNat tu) (stG g1)).1=false:=(by rw [← show v9.1=(dS (w_.getD g1.1.toNat tu) (stG g1)).1 from hap1]; simpa using c5o);rw [e5] at hst;refine ak ?_;(rw [htf,← hst]; rfl)
      ·have c5o:=c5;have c5:=nr c5;have e5:(dS (w_.getD g1.1.toNat tu) (stG g1)).1=true:=(by rw [← show v9.1=(dS (w_.getD g1.1.toNat tu) (stG g1)).1 from hap1]; simpa using c5o);rw [e5,← show grT v9.2=(dS (w_.getD g1.1.toNat tu) (stG g1)).2 from hap2] at hst;have hgs:yO (grT v9.2):=(by unfold grT grO; refine ⟨?_,?_,?_,?_,?_,?_⟩<;>dsimp only<;>first | omega | (rw [List.length_take]; omega));refine ay (qI (hsc _ hgs)) fun v10 hv10=>?_;subst v10;refine aD (fun c6=>?_) (fun c6=>?_)
       ·have c6o:=c6;have c6:=nr c6;have e6:(Qe b_ l_ members_ (grT v9.2) != 0)=true:=c6o;refine ak ?_;(rw [htf,← hst]; simp only [Bool.not_true,cond_false]; rw [e6]; rfl)
       ·have c6o:=c6;have c6:=nr c6;have e6:(Qe b_ l_ members_ (grT v9.2) != 0)=false:=c6o;refine wn ?_;refine ihg1 _ ?_ ?_
        ·(refine ⟨by exact ob,by exact ob,by exact ob,by exact ob,by exact ob,by exact ob,by exact ob,by exact ob,by exact ob,?_⟩; rw [← hst]; simp only [Bool.not_true,cond_false]; rw [e6,show (g1.1+1).toNat=g1.1.toNat+1 by omega]; rfl)
        ·exact ob
     ·have c4:=nr c4;refine ak ?_;(rw [htf,← hg1_10,show g1.1.toNat=w_.length by omega,List.drop_length,show g1.1=(w_.length:Int) by omega]; rfl)
    ·(refine ⟨by exact ob,by exact ob,by exact ob,by exact ob,z1,z2,z3,z5,z6,?_⟩; unfold stG grO; dsimp only; rw [List.take_length]; rfl)
end Go.Proofs.YtfblhejmclcdmaaGreatDoor

namespace Go.Proofs.YtfblhejmclcdmaaGreatDoor
open Go.Ab
set_option maxRecDepth 100000
deriving instance DecidableEq for ql,aL,bq
theorem vD {α:Type} [DecidableEq α] {a b:List α} (h:¬ (a.length:Int)=b.length):(a==b)=false:=by
 simp only [beq_eq_false_iff_ne,ne_eq];intro e;rw [e] at h;exact h rfl
theorem Mg {α:Type} [DecidableEq α] {x y:α} {a b:List α} (h:¬ x=y):(x::a==y::b)=false:=by
 simp only [beq_eq_false_iff_ne,ne_eq,List.cons.injEq];exact fun e=>h e.1
theorem Mh {α:Type} [DecidableEq α] {x y:α} {a b:List α} (h:x=y):(x::a==y::b)=(a==b):=by
 subst h;rw [Bool.eq_iff_iff];simp
theorem aaI {x y:aL} (h:(!((x.Device==y.Device)&&((x.Use.eH==y.Use.eH)&&((x.Use.Function==y.Use.Function)&&true))))=false):x=y:=by
 obtain ⟨d,g,f⟩:=x;obtain ⟨d',g',f'⟩:=y;simp at h;obtain ⟨h1,h2,h3⟩:=h;subst h1 h2 h3;rfl
def Y9 (a b:bq):Bool:=((((a.Setting==b.Setting)&&((a.Rails.On==b.Rails.On)&&(a.Rails.Level==b.Rails.Level)))&&(a.Uses==b.Uses))&&(a.Released==b.Released))&&(a.Powered==b.Powered)
theorem NH (a:bq):Y9 a a=true:=by
 unfold Y9;simp
theorem IW {a_:(List Int)} {b_:(List Int)} (h1:a_.length≤1000000):W (wC a_ b_) (fun r=>r=(a_==b_)):=by
 unfold wC;refine aD (fun c1=>?_) (fun c1=>?_)
 ·have c1:=nr c1;refine ak ?_;(exact (vD c1).symm)
 ·have c1:=nr c1;refine bD (fun (g1:Int)=>0≤g1∧g1≤a_.length∧(a_==b_)=(a_.drop g1.toNat==b_.drop g1.toNat)) (fun (g1:Int)=>(a_.length - g1).toNat) ?_ ?_
  ·intro self1 g1 hig1 ihg1;obtain ⟨hg1_1,hg1_2,hg1_3⟩:=hig1;unfold Gd;refine aD (fun c2=>?_) (fun c2=>?_)
   ·have c2:=nr c2;rw [drop_cons 0 (show g1.toNat<a_.length by omega),drop_cons 0 (show g1.toNat<b_.length by omega)] at hg1_3;refine wn ?_;refine wn ?_;refine aD (fun c3=>?_) (fun c3=>?_)
    ·have c3:=nr c3;refine ak ?_;(rw [hg1_3,Mg c3])
    ·have c3:=nr c3;refine wn ?_;refine ihg1 _ ?_ ?_
     ·(refine ⟨by exact ob,by exact ob,?_⟩; rw [hg1_3,Mh c3,show (g1+1).toNat=g1.toNat+1 by omega])
     ·exact ob
   ·have c2:=nr c2;refine ak ?_;(rw [hg1_3,List.drop_eq_nil_of_le (by omega),List.drop_eq_nil_of_le (by omega)]; rfl)
  ·(refine ⟨by exact ob,by exact ob,rfl⟩)
theorem yP {a_:(List Bool)} {b_:(List Bool)} (h1:a_.length≤1000000):W (oL a_ b_) (fun r=>r=(a_==b_)):=by
 unfold oL;refine aD (fun c1=>?_) (fun c1=>?_)
 ·have c1:=nr c1;refine ak ?_;(exact (vD c1).symm)
 ·have c1:=nr c1;refine bD (fun (g1:Int)=>0≤g1∧g1≤a_.length∧(a_==b_)=(a_.drop g1.toNat==b_.drop g1.toNat)) (fun (g1:Int)=>(a_.length - g1).toNat) ?_ ?_
  ·intro self1 g1 hig1 ihg1;obtain ⟨hg1_1,hg1_2,hg1_3⟩:=hig1;unfold Ec;refine aD (fun c2=>?_) (fun c2=>?_)
   ·have c2:=nr c2;rw [drop_cons false (show g1.toNat<a_.length by omega),drop_cons false (show g1.toNat<b_.length by omega)] at hg1_3;refine wn ?_;refine wn ?_;refine aD (fun c3=>?_) (fun c3=>?_)
    ·have c3o:=c3;have c3:=nr c3;refine ak ?_;(rw [hg1_3,Mg (by simpa using c3o)])
    ·have c3o:=c3;have c3:=nr c3;refine wn ?_;refine ihg1 _ ?_ ?_
     ·(refine ⟨by exact ob,by exact ob,?_⟩; rw [hg1_3,Mh (by simpa using c3o),show (g1+1).toNat=g1.toNat+1 by omega])
     ·exact ob
   ·have c2:=nr c2;refine ak ?_;(rw [hg1_3,List.drop_eq_nil_of_le (by omega),List.drop_eq_nil_of_le (by omega)]; rfl)
  ·(refine ⟨by exact ob,by exact ob,rfl⟩)
theorem IX {a_:bF} {b_:bF} (h1:a_.On.length≤1000000) (h2:a_.Level.length≤1000000):W (nU a_ b_) (fun r=>r=((a_.On==b_.On)&&(a_.Level==b_.Level))):=by
 unfold nU;refine ay (yP ob) fun v1 hv1=>?_;subst v1;refine ay (dF fun hc=>iJ (IW ob)) fun v2 hv2=>?_;subst v2;refine ak ?_;rfl
theorem Ls {a_:(List aL)} {b_:(List aL)} (h1:a_.length≤1000000):W (rP a_ b_) (fun r=>r=(a_==b_)):=by
 unfold rP;refine aD (fun c1=>?_) (fun c1=>?_)
 ·have c1:=nr c1;refine ak ?_;(exact (vD c1).symm)
 ·have c1:=nr c1;refine bD (fun (g1:Int)=>0≤g1∧g1≤a_.length∧(a_==b_)=(a_.drop g1.toNat==b_.drop g1.toNat)) (fun (g1:Int)=>(a_.length - g1).toNat) ?_ ?_
  ·intro self1 g1 hig1 ihg1;obtain ⟨hg1_1,hg1_2,hg1_3⟩:=hig1;unfold zK;refine aD (fun c2=>?_) (fun c2=>?_)
   ·have c2:=nr c2;rw [drop_cons bS (show g1.toNat<a_.length by omega),drop_cons bS (show g1.toNat<b_.length by omega)] at hg1_3;refine wn ?_;refine wn ?_;refine aD (fun c3=>?_) (fun c3=>?_)
    ·have c3o:=c3;have c3:=nr c3;refine ak ?_;(rw [hg1_3,Mg (fun e=>by rw [e] at c3o; simp at c3o)])
    ·have c3o:=c3;have c3:=nr c3;refine wn ?_;refine ihg1 _ ?_ ?_
     ·(refine ⟨by exact ob,by exact ob,?_⟩; rw [hg1_3,Mh (aaI c3o),show (g1+1).toNat=g1.toNat+1 by omega])
     ·exact ob
   ·have c2:=nr c2;refine ak ?_;(rw [hg1_3,List.drop_eq_nil_of_le (by omega),List.drop_eq_nil_of_le (by omega)]; rfl)
  ·(refine ⟨by exact ob,by exact ob,rfl⟩)
theorem IY {a_:bq} {b_:bq} (h1:yO a_):W (wD a_ b_) (fun r=>r=Y9 a_ b_):=by
 obtain ⟨z1,z2,z3,z4,z5,z6⟩:=h1;unfold wD;refine ay (IW ob) fun v1 hv1=>?_;subst v1;refine ay (dF fun hc=>iJ (IX ob ob)) fun v2 hv2=>?_;subst v2;refine ay (dF fun hc=>iJ (Ls ob)) fun v3 hv3=>?_;subst v3;refine ay (dF fun hc=>iJ (yP ob)) fun v4 hv4=>?_;subst v4;refine ay (dF fun hc=>iJ (yP ob)) fun v5 hv5=>?_;subst v5;refine ak ?_;rfl
theorem Rb {g_:bq} (h1:yO g_):W (AA g_) (fun r=>r=(g_.Setting,g_.Rails.On,g_.Rails.Level,g_.Uses,g_.Released,g_.Powered)):=by
 obtain ⟨z1,z2,z3,z4,z5,z6⟩:=h1;unfold AA;refine wn ?_;refine wn ?_;refine wn ?_;refine wn ?_;refine wn ?_;refine wn ?_;refine ak ?_;rfl
theorem iM {g_:bq} {w_:dP} {g1:(Int×Bool)}   (hc:yO g_∧w_.Value≤9223372036854775807∧(w_.Kind=1→g1.1=g_.Setting.length)∧(w_.Kind=2→g1.1=g_.Rails.Level.length)∧(w_.Kind=3→g1.1=g_.Rails.On.length)∧(w_.Kind=11→g1.1=g_.Released.length)∧(w_.Kind=12→g1.1=g_.Powered.length)):W (fU g_ w_ g1) (fun r=>True):=by
 obtain ⟨hc_1,hc_2,hc_3,hc_4,hc_5,hc_6,hc_7⟩:=hc;unfold fU;refine aD (fun c1=>?_) (fun c1=>?_)
 ·have c1:=nr c1;exact ak trivial
 ·have c1:=nr c1;obtain ⟨z1,z2,z3,z4,z5,z6⟩:=id hc_1;refine ay (Rb ob) fun v1 hv1=>?_;subst v1;refine aD (fun c2=>?_) (fun c2=>?_)
  ·have c2:=nr c2;refine wn ?_;exact ak trivial
  ·have c2:=nr c2;refine aD (fun c3=>?_) (fun c3=>?_)
   ·have c3:=nr c3;refine wn ?_;exact ak trivial
   ·have c3:=nr c3;refine aD (fun c4=>?_) (fun c4=>?_)
    ·have c4:=nr c4;refine wn ?_;exact ak trivial
    ·have c4:=nr c4;refine aD (fun c5=>?_) (fun c5=>?_)
     ·have c5:=nr c5;refine wn ?_;exact ak trivial
     ·have c5:=nr c5;refine aD (fun c6=>?_) (fun c6=>?_)
      ·have c6:=nr c6;refine wn ?_;exact ak trivial
      ·have c6:=nr c6;refine aD (fun c7=>?_) (fun c7=>?_)
       ·have c7:=nr c7;refine bD (fun (g4:Int)=>0≤g4) (fun (g4:Int)=>(g_.Uses.length - g4).toNat) ?_ ?_
        ·intro self4 g4 hig4 ihg4;unfold Cb;refine aD (fun c8=>?_) (fun c8=>?_)
         ·have c8:=nr c8;refine wn ?_;refine aD (fun c9=>?_) (fun c9=>?_)
          ·have c9:=nr c9;refine wn ?_;refine wn ?_;refine wn ?_;refine wn ?_;unfold nT;refine wn ?_;refine aD (fun c10=>?_) (fun c10=>?_)
           ·have c10:=nr c10;refine wn ?_;refine wn ?_;exact ak trivial
           ·have c10:=nr c10;exact ak trivial
          ·have c9:=nr c9;refine wn ?_;refine ihg4 _ ?_ ?_
           ·exact ob
           ·exact ob
         ·have c8:=nr c8;unfold nT;refine wn ?_;refine aD (fun c11=>?_) (fun c11=>?_)
          ·have c11:=nr c11;refine wn ?_;refine wn ?_;exact ak trivial
          ·have c11:=nr c11;exact ak trivial
        ·exact ob
       ·have c7:=nr c7;exact ak trivial
theorem OW {b_:bQ} {g_:bq} {w_:dP} (h1:yO g_) (h2:w_.Value≤9223372036854775807):W (yc b_ g_ w_) (fun r=>True):=by
 obtain ⟨z1,z2,z3,z4,z5,z6⟩:=id h1;unfold yc;refine aD (fun c1=>?_) (fun c1=>?_)
 ·have c1:=nr c1;exact iM ob
 ·have c1:=nr c1;refine aD (fun c2=>?_) (fun c2=>?_)
  ·have c2:=nr c2;exact iM ob
  ·have c2:=nr c2;refine aD (fun c3=>?_) (fun c3=>?_)
   ·have c3:=nr c3;exact iM ob
   ·have c3:=nr c3;refine aD (fun c4=>?_) (fun c4=>?_)
    ·have c4:=nr c4;exact iM ob
    ·have c4:=nr c4;refine aD (fun c5=>?_) (fun c5=>?_)
     ·have c5:=nr c5;exact iM ob
     ·have c5:=nr c5;refine aD (fun c6=>?_) (fun c6=>?_)
      ·have c6:=nr c6;exact iM ob
      ·have c6:=nr c6;exact ak trivial
end Go.Proofs.YtfblhejmclcdmaaGreatDoor

namespace Go.Proofs.YtfblhejmclcdmaaGreatDoor
open Go.Ab
set_option maxRecDepth 100000
theorem AY {s_:ByteArray}:W (qV s_) (fun r=>True):=by
 unfold qV;refine bV (by (intro hc; simp only [Bool.or_eq_false_iff,beq_eq_false_iff_ne] at hc; omega)) ?_;refine bV (by (intro hc; simp only [Bool.or_eq_false_iff,beq_eq_false_iff_ne] at hc; omega)) ?_;refine aD (fun c1=>?_) (fun c1=>?_)
 ·have c1o:=c1;have c1:=nr c1;exact ak trivial
 ·have c1o:=c1;have c1:=nr c1;have hsz:s_.size≤16:=(by simp only [Bool.or_eq_false_iff] at c1o; have:=of_decide_eq_false c1o.1.1.2; omega);refine bD (fun (g1:Int)=>0≤g1) (fun (g1:Int)=>(s_.size - g1).toNat) ?_ ?_
  ·intro self1 g1 hig1 ihg1;unfold Ga;refine aD (fun c2=>?_) (fun c2=>?_)
   ·have c2:=nr c2;refine wn ?_;refine wn ?_;refine wn ?_;refine wn ?_;refine wn ?_;refine aD (fun c3=>?_) (fun c3=>?_)
    ·have c3:=nr c3;exact ak trivial
    ·have c3:=nr c3;refine wn ?_;refine ihg1 _ ?_ ?_
     ·exact ob
     ·exact ob
   ·have c2:=nr c2;exact ak trivial
  ·exact ob
theorem OX {p_:bB} {i_:Int} (h1:0≤i_) (h2:i_<p_.Groups.length) (h3:p_.Groups.length≤1000000) (h4:∀g∈p_.Groups,g.bT.length≤1000000∧g.Functions.length≤1000000):W (xS p_ i_) (fun r=>r=0→Y5 p_.bT (p_.Groups.getD i_.toNat aF)):=by
 have hgl:=h4 _ (getD_in (i:=i_.toNat) aF (by omega));unfold xS;refine wn ?_;refine ay (AY) fun v1 hv1=>?_;refine aD (fun c1=>?_) (fun c1=>?_)
 ·have c1:=nr c1;refine ak ?_;exact ob
 ·have c1:=nr c1;refine bD (fun (g1:Int)=>0≤g1) (fun (g1:Int)=>(i_ - g1).toNat) ?_ ?_
  ·intro self1 g1 hig1 ihg1;unfold DZ;refine aD (fun c2=>?_) (fun c2=>?_)
   ·have c2:=nr c2;refine wn ?_;refine aD (fun c3=>?_) (fun c3=>?_)
    ·have c3:=nr c3;refine ak ?_;exact ob
    ·have c3:=nr c3;refine wn ?_;refine ihg1 _ ?_ ?_
     ·exact ob
     ·exact ob
   ·have c2:=nr c2;refine aD (fun c4=>?_) (fun c4=>?_)
    ·have c4:=nr c4;refine ak ?_;exact ob
    ·have c4:=nr c4;refine aD (fun c5=>?_) (fun c5=>?_)
     ·have c5:=nr c5;refine ak ?_;exact ob
     ·have c5:=nr c5;refine bD (fun (g2:Int)=>0≤g2∧(∀j:Nat,(j:Int)<g2→0≤(p_.Groups.getD i_.toNat aF).bT.getD j 0∧(p_.Groups.getD i_.toNat aF).bT.getD j 0<p_.bT)) (fun (g2:Int)=>((p_.Groups.getD i_.toNat aF).bT.length - g2).toNat) ?_ ?_
      ·intro self2 g2 hig2 ihg2;obtain ⟨hg2_1,hg2_2⟩:=hig2;unfold BS;refine aD (fun c6=>?_) (fun c6=>?_)
       ·have c6:=nr c6;refine wn ?_;refine wn ?_;refine aD (fun c7=>?_) (fun c7=>?_)
        ·have c7:=nr c7;refine ak ?_;exact ob
        ·have c7:=nr c7;refine wn ?_;refine ihg2 _ ?_ ?_
         ·(refine ⟨by exact ob,fJ hg2_2 hg2_1 (by omega)⟩)
         ·exact ob
       ·have c6:=nr c6;refine bD (fun (g3:Int)=>1≤g3) (fun (g3:Int)=>((p_.Groups.getD i_.toNat aF).bT.length - g3).toNat) ?_ ?_
        ·intro self3 g3 hig3 ihg3;unfold BR;refine aD (fun c8=>?_) (fun c8=>?_)
         ·have c8:=nr c8;refine wn ?_;refine wn ?_;refine wn ?_;refine aD (fun c9=>?_) (fun c9=>?_)
          ·have c9:=nr c9;refine ak ?_;exact ob
          ·have c9:=nr c9;refine wn ?_;refine ihg3 _ ?_ ?_
           ·exact ob
           ·exact ob
         ·have c8:=nr c8;refine bD (fun (g4:Int)=>0≤g4) (fun (g4:Int)=>((p_.Groups.getD i_.toNat aF).Functions.length - g4).toNat) ?_ ?_
          ·intro self4 g4 hig4 ihg4;unfold BQ;refine aD (fun c10=>?_) (fun c10=>?_)
           ·have c10:=nr c10;refine wn ?_;refine ay (AY) fun v4 hv4=>?_;refine aD (fun c11=>?_) (fun c11=>?_)
            ·have c11:=nr c11;refine ak ?_;exact ob
            ·have c11:=nr c11;refine wn ?_;refine ihg4 _ ?_ ?_
             ·exact ob
             ·exact ob
           ·have c10:=nr c10;refine bD (fun (g5:Int)=>0≤g5) (fun (g5:Int)=>((p_.Groups.getD i_.toNat aF).Functions.length - g5).toNat) ?_ ?_
            ·intro self5 g5 hig5 ihg5;unfold BP;refine aD (fun c12=>?_) (fun c12=>?_)
             ·have c12:=nr c12;refine bD (fun (g8:Int)=>0≤g8) (fun (g8:Int)=>(g5 - g8).toNat) ?_ ?_
              ·intro self8 g8 hig8 ihg8;unfold BO;refine aD (fun c13=>?_) (fun c13=>?_)
               ·have c13:=nr c13;refine wn ?_;refine wn ?_;refine aD (fun c14=>?_) (fun c14=>?_)
                ·have c14:=nr c14;refine ak ?_;exact ob
                ·have c14:=nr c14;refine wn ?_;refine ihg8 _ ?_ ?_
                 ·exact ob
                 ·exact ob
               ·have c13:=nr c13;refine wn ?_;refine ihg5 _ ?_ ?_
                ·exact ob
                ·exact ob
              ·exact ob
             ·have c12:=nr c12;refine ak ?_;(intro _; exact ⟨by omega,by omega,jq 0 fun j hj=>hg2_2 j (by omega)⟩)
            ·exact ob
          ·exact ob
        ·exact ob
      ·(refine ⟨by exact ob,fun j hj=>by (try dsimp only at hj); omega⟩)
  ·exact ob
theorem OY {p_:bB} (h1:∀g∈p_.Groups,g.bT.length≤1000000∧g.Functions.length≤1000000):W (xU p_) (fun r=>r=0→Nw p_):=by
 unfold xU;refine aD (fun c1=>?_) (fun c1=>?_)
 ·have c1:=nr c1;refine ak ?_;exact ob
 ·have c1:=nr c1;refine aD (fun c2=>?_) (fun c2=>?_)
  ·have c2:=nr c2;refine ak ?_;exact ob
  ·have c2:=nr c2;refine bD (fun (g1:Int)=>0≤g1∧(∀j:Nat,(j:Int)<g1→Y5 p_.bT (p_.Groups.getD j aF))) (fun (g1:Int)=>(p_.Groups.length - g1).toNat) ?_ ?_
   ·intro self1 g1 hig1 ihg1;obtain ⟨hg1_1,hg1_2⟩:=hig1;unfold D5;refine aD (fun c3=>?_) (fun c3=>?_)
    ·have c3:=nr c3;refine ay (OX (by omega) (by omega) (by omega) h1) fun v3 hv3=>?_;refine aD (fun c4=>?_) (fun c4=>?_)
     ·have c4o:=c4;have c4:=nr c4;refine ak ?_;(intro e; exact absurd e c4)
     ·have c4o:=c4;have c4:=nr c4;refine wn ?_;refine ihg1 _ ?_ ?_
      ·(refine ⟨by exact ob,fJ hg1_2 hg1_1 (hv3 (by simpa using c4o))⟩)
      ·exact ob
    ·have c3:=nr c3;refine ak ?_;(intro _; exact ⟨by omega,by omega,jq aF fun j hj=>hg1_2 j (by omega)⟩)
   ·(refine ⟨by exact ob,fun j hj=>by (try dsimp only at hj); omega⟩)
theorem OZ {p_:bB} {l_:(List ByteArray)} (h1:∀g∈p_.Groups,g.bT.length≤1000000∧g.Functions.length≤1000000) (h2:l_.length≤1000000):W (xV p_ l_) (fun r=>r=true→Nw p_∧l_.length≤10):=by
 unfold xV;refine ay (OY h1) fun v1 hv1=>?_;refine aD (fun c1=>?_) (fun c1=>?_)
 ·have c1o:=c1;have c1:=nr c1;refine ak ?_;exact ob
 ·have c1o:=c1;have c1:=nr c1;have c1b:=c1o;simp only [Bool.or_eq_false_iff] at c1b;refine bD (fun (g1:Int)=>0≤g1) (fun (g1:Int)=>(l_.length - g1).toNat) ?_ ?_
  ·intro self1 g1 hig1 ihg1;unfold D6;refine aD (fun c2=>?_) (fun c2=>?_)
   ·have c2:=nr c2;refine wn ?_;refine ay (AY) fun v4 hv4=>?_;refine aD (fun c3=>?_) (fun c3=>?_)
    ·have c3:=nr c3;refine ak ?_;exact ob
    ·have c3:=nr c3;refine wn ?_;refine ihg1 _ ?_ ?_
     ·exact ob
     ·exact ob
   ·have c2:=nr c2;refine ak ?_;(intro _; exact ⟨hv1 (by simpa using c1b.1),by have:=of_decide_eq_false c1b.2; omega⟩)
  ·exact ob
theorem G9 {g_:aY} {function_:ByteArray} (h1:g_.Functions.length≤1000000):W (zG g_ function_) (fun r => -1≤r∧r<g_.Functions.length):=by
 unfold zG;refine bD (fun (g1:Int)=>0≤g1) (fun (g1:Int)=>(g_.Functions.length - g1).toNat) ?_ ?_
 ·intro self1 g1 hig1 ihg1;unfold K7;refine aD (fun c1=>?_) (fun c1=>?_)
  ·have c1:=nr c1;refine wn ?_;refine aD (fun c2=>?_) (fun c2=>?_)
   ·have c2:=nr c2;refine ak ?_;exact ob
   ·have c2:=nr c2;refine wn ?_;refine ihg1 _ ?_ ?_
    ·exact ob
    ·exact ob
  ·have c1:=nr c1;refine ak ?_;exact ob
 ·exact ob
theorem O5 {a_:(List Int)} {b_:(List Int)} (h1:a_.length≤1000000) (h2:b_.length≤1000000):W (xW a_ b_) (fun r=>True):=by
 unfold xW;refine bD (fun (g1:(Int×Int))=>0≤g1.1∧0≤g1.2) (fun (g1:(Int×Int))=>(a_.length - g1.1).toNat+(b_.length - g1.2).toNat) ?_ ?_
 ·intro self1 g1 hig1 ihg1;obtain ⟨hg1_1,hg1_2⟩:=hig1;unfold D7;refine aD (fun c1=>?_) (fun c1=>?_)
  ·have c1:=nr c1;refine wn ?_;refine wn ?_;refine aD (fun c2=>?_) (fun c2=>?_)
   ·have c2:=nr c2;exact ak trivial
   ·have c2:=nr c2;refine wn ?_;refine wn ?_;refine aD (fun c3=>?_) (fun c3=>?_)
    ·have c3:=nr c3;refine wn ?_;refine ihg1 _ ?_ ?_
     ·exact ob
     ·exact ob
    ·have c3:=nr c3;refine wn ?_;refine ihg1 _ ?_ ?_
     ·exact ob
     ·exact ob
  ·have c1:=nr c1;exact ak trivial
 ·exact ob
theorem IZ {p_:bB} {groups_:(List Int)} {g_:Int} (h1:∀g∈p_.Groups,g.bT.length≤1000000∧g.Functions.length≤1000000) (h2:groups_.length≤1000000) (h3:∀x∈groups_,x<p_.Groups.length) (h4:0≤g_) (h5:g_<p_.Groups.length):W (wB p_ groups_ g_) (fun r=>True):=by
 have hgl:=h1 _ (getD_in (i:=g_.toNat) aF (by omega));unfold wB;refine bD (fun (g1:Int)=>0≤g1) (fun (g1:Int)=>(groups_.length - g1).toNat) ?_ ?_
 ·intro self1 g1 hig1 ihg1;unfold Gb;refine aD (fun c1=>?_) (fun c1=>?_)
  ·have c1:=nr c1;have hx:=h3 _ (getD_in (i:=g1.toNat) 0 (by omega));refine wn ?_;refine wn ?_;refine wn ?_;refine wn ?_;refine ay (Sw fun hc=>O5 (by have hc:=of_decide_eq_true hc; have:=h1 _ (getD_in (i:=(groups_.getD g1.toNat 0).toNat) aF (by omega)); omega) (by omega)) fun v3 hv3=>?_;refine aD (fun c2=>?_) (fun c2=>?_)
   ·have c2:=nr c2;exact ak trivial
   ·have c2:=nr c2;refine wn ?_;refine ihg1 _ ?_ ?_
    ·exact ob
    ·exact ob
  ·have c1:=nr c1;exact ak trivial
 ·exact ob
theorem Rc {p_:bB} {l_:(List ByteArray)} {groups_:(List Int)} (h1:∀g∈p_.Groups,g.bT.length≤1000000∧g.Functions.length≤1000000) (h2:l_.length≤1000000) (h3:p_.Groups.length≤1000000):W (Ay p_ l_ groups_) (fun r=>r=true→groups_.length≤l_.length∧∀x∈groups_,0≤x∧x<p_.Groups.length):=by
 unfold Ay;refine aD (fun c1=>?_) (fun c1=>?_)
 ·have c1:=nr c1;refine ak ?_;exact ob
 ·have c1:=nr c1;refine bD (fun (g1:Int)=>0≤g1∧(∀j:Nat,(j:Int)<g1→0≤groups_.getD j 0∧groups_.getD j 0<p_.Groups.length)) (fun (g1:Int)=>(groups_.length - g1).toNat) ?_ ?_
  ·intro self1 g1 hig1 ihg1;obtain ⟨hg1_1,hg1_2⟩:=hig1;unfold Gc;refine aD (fun c2=>?_) (fun c2=>?_)
   ·have c2:=nr c2;refine wn ?_;refine wn ?_;refine wn ?_;refine ay (Sw fun hc=>G9 (by simp only [Bool.or_eq_false_iff,decide_eq_false_iff_not] at hc; have:=h1 _ (getD_in (i:=(groups_.getD g1.toNat 0).toNat) aF (by omega)); omega)) fun v5 hv5=>?_;refine wn ?_;refine ay (Sw fun hc=>IZ h1 (by rw [List.length_take]; omega) (jq 0 fun j hj=>(by rw [List.length_take] at hj; rw [zP _ _ _ _ (by omega)]; exact (hg1_2 j (by omega)).2)) (by simp only [Bool.or_eq_false_iff,decide_eq_false_iff_not] at hc; omega) (by simp only [Bool.or_eq_false_iff,decide_eq_false_iff_not] at hc; omega)) fun v6 hv6=>?_;refine aD (fun c3=>?_) (fun c3=>?_)
    ·have c3o:=c3;have c3:=nr c3;refine ak ?_;exact ob
    ·have c3o:=c3;have c3:=nr c3;refine wn ?_;refine ihg1 _ ?_ ?_
     ·(refine ⟨by exact ob,fJ hg1_2 hg1_1 (by simp only [Bool.or_eq_false_iff,decide_eq_false_iff_not] at c3o; omega)⟩)
     ·exact ob
   ·have c2:=nr c2;refine ak ?_;(intro _; exact ⟨by omega,jq 0 fun j hj=>hg1_2 j (by omega)⟩)
  ·(refine ⟨by exact ob,fun j hj=>by (try dsimp only at hj); omega⟩)
theorem Tv {p_:bB} {l_:(List ByteArray)} {given_:(List Int)} (h1:∀g∈p_.Groups,g.bT.length≤1000000∧g.Functions.length≤1000000) (h2:l_.length≤1000000) (h3:p_.Groups.length≤1000000):W (Fa p_ l_ given_) (fun r=>r=0→Nw p_∧l_.length≤10∧given_.length≤l_.length∧∀x∈given_,0≤x∧x<p_.Groups.length):=by
 unfold Fa;refine ay (OZ h1 h2) fun v1 hv1=>?_;refine aD (fun c1=>?_) (fun c1=>?_)
 ·have c1o:=c1;have c1:=nr c1;refine ak ?_;exact ob
 ·have c1o:=c1;have c1:=nr c1;refine ay (Rc h1 h2 h3) fun v2 hv2=>?_;refine aD (fun c2=>?_) (fun c2=>?_)
  ·have c2o:=c2;have c2:=nr c2;refine ak ?_;exact ob
  ·have c2o:=c2;have c2:=nr c2;refine ak ?_;(intro _; have q1:=hv1 (by simpa using c1o); have q2:=hv2 (by simpa using c2o); exact ⟨q1.1,q1.2,q2.1,q2.2⟩)
theorem NI {p_:bB} {function_:ByteArray} (h1:∀g∈p_.Groups,g.bT.length≤1000000∧g.Functions.length≤1000000) (h2:p_.Groups.length≤1000000):W (vg p_ function_) (fun r=>r.length≤p_.Groups.length∧∀x∈r,0≤x∧x<p_.Groups.length):=by
 unfold vg;refine bD (fun (g1:(Int×(List Int)))=>0≤g1.1∧g1.1≤p_.Groups.length∧(g1.2.length:Int)≤g1.1∧(∀x∈g1.2,0≤x∧x<p_.Groups.length)) (fun (g1:(Int×(List Int)))=>(p_.Groups.length - g1.1).toNat) ?_ ?_
 ·intro self1 g1 hig1 ihg1;obtain ⟨hg1_1,hg1_2,hg1_3,hg1_4⟩:=hig1;unfold BU;refine aD (fun c1=>?_) (fun c1=>?_)
  ·have c1:=nr c1;have hgl:=h1 _ (getD_in (i:=g1.1.toNat) aF (by omega));refine wn ?_;refine ay (G9 ob) fun v3 hv3=>?_;obtain ⟨hv3_1,hv3_2⟩:=hv3;refine aD (fun c2=>?_) (fun c2=>?_)
   ·have c2:=nr c2;refine wn ?_;refine wn ?_;refine ihg1 _ ?_ ?_
    ·exact ob
    ·exact ob
   ·have c2:=nr c2;refine wn ?_;refine ihg1 _ ?_ ?_
    ·exact ob
    ·exact ob
  ·have c1:=nr c1;refine ak ?_;(refine ⟨by omega,hg1_4⟩)
 ·exact ob
theorem NJ {p_:bB} {l_:List ByteArray} {groups_:List Int} (h1:∀g∈p_.Groups,g.bT.length≤1000000∧g.Functions.length≤1000000) (h2:p_.Groups.length≤1000000) (h3:l_.length≤1000000) (h4:groups_.length≤l_.length) (h5:∀x∈groups_,0≤x∧x<p_.Groups.length):W (vk p_ l_ groups_) (fun r=>r.2=true→r.1.length=l_.length∧∀x∈r.1,0≤x∧x<p_.Groups.length):=by
 unfold vk;refine bD (fun s:bB×List ByteArray×List Int=>s.1=p_∧s.2.1=l_∧s.2.2.length≤l_.length∧∀x∈s.2.2,0≤x∧x<p_.Groups.length) (fun s=>l_.length - s.2.2.length) ?_ ⟨rfl,rfl,h4,h5⟩;rintro self ⟨p,l,gs⟩ ⟨e1,e2,e3,e4⟩ ih;dsimp only at e1 e2 e3 e4;subst p l;unfold j6;refine aD (fun c1=>?_) (fun c1=>?_)
 ·have c1:=nr c1;refine bV ob (ak ?_);intro _;exact ⟨by dsimp only at c1 ⊢; omega,e4⟩
 ·have c1:=nr c1;refine bV (by dsimp only at c1 ⊢; omega) ?_;refine ay (NI h1 h2) fun v1 hv1=>?_;obtain ⟨k1,k2⟩:=hv1;refine bD (fun g:Int=>0≤g) (fun g:Int=>(v1.length - g).toNat) ?_ (Int.le_refl _);intro self1 g1 hg1 ih1;unfold BX;refine aD (fun c2=>?_) (fun c2=>?_)
  ·have c2:=nr c2;have hx:=k2 _ (getD_in (i:=g1.toNat) 0 (by omega));refine wn ?_;refine ay (IZ h1 (by dsimp only; omega) (fun x hx=>(e4 x hx).2) hx.1 hx.2) fun v6 _=>?_;refine aD (fun c3=>?_) (fun c3=>?_)
   ·refine bV ob (ih1 _ (by omega) (by omega))
   ·refine bV ob (bV ob (bV ob ?_));refine ay (ih _ ⟨rfl,rfl,by (simp only [List.length_append,List.length_singleton]; omega),?_⟩ (by (simp only [List.length_append,List.length_singleton]; omega))) fun v7 hv7=>?_
    ·intro x hm;rcases List.mem_append.1 hm with hm | hm
     ·exact e4 x hm
     ·rw [List.mem_singleton] at hm; rw [hm]; exact hx
    ·refine aD (fun c4=>ak fun _=>hv7 c4) (fun c4=>bV ob (ih1 _ (by omega) (by omega)))
  ·exact ak nofun
theorem NK {p_:bB} {l_:(List ByteArray)} {given_:(List Int)} (h1:∀g∈p_.Groups,g.bT.length≤1000000∧g.Functions.length≤1000000) (h2:l_.length≤1000000) (h3:p_.Groups.length≤1000000):W (vo p_ l_ given_) (fun r=>r.2=0→r.1.length=l_.length∧∀x∈r.1,0≤x∧x<p_.Groups.length):=by
 unfold vo;refine ay (Tv h1 h2 h3) fun v1 hv1=>?_;refine aD (fun c1=>?_) (fun c1=>?_)
 ·have c1o:=c1;have c1:=nr c1;refine ak ?_;(intro e; exact absurd e c1)
 ·have c1o:=c1;have c1:=nr c1;obtain ⟨q1,q2,q3,q4⟩:=hv1 (by simpa using c1o);refine ay (NJ h1 h3 h2 q3 q4) fun v2 hv2=>?_;refine aD (fun c2=>?_) (fun c2=>?_)
  ·have c2o:=c2;have c2:=nr c2;refine ak ?_;exact ob
  ·have c2o:=c2;have c2:=nr c2;refine ak ?_;(intro _; exact hv2 (by simpa using c2o))
theorem O6 {l_:(List cu)} (h1:∀g∈l_,g.After.length≤1000000):W (xX l_) (fun r=>r=0→Y4 l_):=by
 unfold xX;refine aD (fun c1=>?_) (fun c1=>?_)
 ·have c1:=nr c1;refine ak ?_;exact ob
 ·have c1:=nr c1;refine bD (fun (g1:Int)=>0≤g1∧(∀j:Nat,(j:Int)<g1→∀x∈(l_.getD j dReset).After,0≤x∧x<(j:Int))) (fun (g1:Int)=>(l_.length - g1).toNat) ?_ ?_
  ·intro self1 g1 hig1 ihg1;obtain ⟨hg1_1,hg1_2⟩:=hig1;unfold D9;refine aD (fun c2=>?_) (fun c2=>?_)
   ·have c2:=nr c2;have hgl:=h1 _ (getD_in (i:=g1.toNat) dReset (by omega));refine bD (fun (g6:Int)=>0≤g6∧(∀j:Nat,(j:Int)<g6→0≤(l_.getD g1.toNat dReset).After.getD j 0∧(l_.getD g1.toNat dReset).After.getD j 0<g1)) (fun (g6:Int)=>((l_.getD g1.toNat dReset).After.length - g6).toNat) ?_ ?_
    ·intro self6 g6 hig6 ihg6;obtain ⟨hg6_1,hg6_2⟩:=hig6;unfold D8;refine wn ?_;refine aD (fun c3=>?_) (fun c3=>?_)
     ·have c3:=nr c3;refine wn ?_;refine wn ?_;refine wn ?_;refine wn ?_;refine aD (fun c4=>?_) (fun c4=>?_)
      ·have c4:=nr c4;refine ak ?_;exact ob
      ·have c4:=nr c4;refine wn ?_;refine ihg6 _ ?_ ?_
       ·(refine ⟨by exact ob,fJ hg6_2 hg6_1 (by omega)⟩)
       ·exact ob
     ·have c3:=nr c3;refine bD (fun (g7:Int)=>1≤g7) (fun (g7:Int)=>((l_.getD g1.toNat dReset).After.length - g7).toNat) ?_ ?_
      ·intro self7 g7 hig7 ihg7;unfold BZ;refine wn ?_;refine aD (fun c5=>?_) (fun c5=>?_)
       ·have c5:=nr c5;refine wn ?_;refine wn ?_;refine wn ?_;refine wn ?_;refine wn ?_;refine aD (fun c6=>?_) (fun c6=>?_)
        ·have c6:=nr c6;refine ak ?_;exact ob
        ·have c6:=nr c6;refine wn ?_;refine ihg7 _ ?_ ?_
         ·exact ob
         ·exact ob
       ·have c5:=nr c5;refine wn ?_;refine ihg1 _ ?_ ?_
        ·(refine ⟨by exact ob,fJ hg1_2 hg1_1 (jq 0 fun j hj=>by have:=hg6_2 j (by omega); omega)⟩)
        ·exact ob
      ·exact ob
    ·(refine ⟨by exact ob,fun j hj=>by (try dsimp only at hj); omega⟩)
   ·have c2:=nr c2;refine ak ?_;(intro _; exact ⟨by omega,fun i hi=>hg1_2 i (by omega)⟩)
  ·(refine ⟨by exact ob,fun j hj=>by (try dsimp only at hj); omega⟩)
theorem NM {l_:(List cu)} {lines_:(List Int)} (h1:∀g∈l_,g.After.length≤1000000) (h2:lines_.length≤1000000):W (vv l_ lines_) (fun r=>r.2=0→r.1.length=l_.length):=by
 unfold vv;refine ay (O6 h1) fun v1 hv1=>?_;refine aD (fun c1=>?_) (fun c1=>?_)
 ·have c1o:=c1;have c1:=nr c1;refine ak ?_;exact ob
 ·have c1o:=c1;have c1:=nr c1;obtain ⟨p1,p2⟩:=hv1 (by simpa using c1o);refine wn ?_;refine bD (fun (g1:(Int×(List Bool)))=>0≤g1.1∧g1.2.length=l_.length) (fun (g1:(Int×(List Bool)))=>(lines_.length - g1.1).toNat) ?_ ?_
  ·intro self1 g1 hig1 ihg1;obtain ⟨hg1_1,hg1_2⟩:=hig1;unfold Ca;refine aD (fun c2=>?_) (fun c2=>?_)
   ·have c2:=nr c2;refine wn ?_;refine wn ?_;refine aD (fun c3=>?_) (fun c3=>?_)
    ·have c3:=nr c3;refine ak ?_;exact ob
    ·have c3:=nr c3;refine wn ?_;refine wn ?_;refine wn ?_;refine ihg1 _ ?_ ?_
     ·exact ob
     ·exact ob
   ·have c2:=nr c2;refine wn ?_;refine bD (fun (g2:(Int×(List Bool))) => -1≤g2.1∧g2.1<l_.length∧g2.2.length=l_.length) (fun (g2:(Int×(List Bool)))=>(g2.1+1).toNat) ?_ ?_
    ·intro self2 g2 hig2 ihg2;obtain ⟨hg2_1,hg2_2,hg2_3⟩:=hig2;unfold zI;refine aD (fun c4=>?_) (fun c4=>?_)
     ·have c4:=nr c4;have hgl:=h1 _ (getD_in (i:=g2.1.toNat) dReset (by omega));refine bD (fun (g5:(Int×(List Bool)))=>0≤g5.1∧g5.2.length=l_.length) (fun (g5:(Int×(List Bool)))=>((l_.getD g2.1.toNat dReset).After.length - g5.1).toNat) ?_ ?_
      ·intro self5 g5 hig5 ihg5;obtain ⟨hg5_1,hg5_2⟩:=hig5;unfold zH;refine wn ?_;refine wn ?_;refine aD (fun c5=>?_) (fun c5=>?_)
       ·have c5o:=c5;have c5:=nr c5;simp only [Bool.and_eq_true,decide_eq_true_eq] at c5o;have hx:=p2 g2.1.toNat (by omega) _ (getD_in (i:=g5.1.toNat) 0 (by omega));refine wn ?_;refine wn ?_;refine wn ?_;refine wn ?_;refine ihg5 _ ?_ ?_
        ·exact ob
        ·exact ob
       ·have c5o:=c5;have c5:=nr c5;refine wn ?_;refine ihg2 _ ?_ ?_
        ·exact ob
        ·exact ob
      ·exact ob
     ·have c4:=nr c4;refine ak ?_;exact ob
    ·exact ob
  ·(refine ⟨by exact ob,by simp⟩)
theorem O7 {l_:(List bM)}:W (xY l_) (fun r=>r=0→Xz l_):=by
 unfold xY;refine aD (fun c1=>?_) (fun c1=>?_)
 ·have c1:=nr c1;refine ak ?_;exact ob
 ·have c1:=nr c1;refine bD (fun (g1:Int)=>0≤g1∧(∀j:Nat,(j:Int)<g1 → -1≤(l_.getD j fH).Parent∧(l_.getD j fH).Parent<(j:Int))) (fun (g1:Int)=>(l_.length - g1).toNat) ?_ ?_
  ·intro self1 g1 hig1 ihg1;obtain ⟨hg1_1,hg1_2⟩:=hig1;unfold Ea;refine aD (fun c2=>?_) (fun c2=>?_)
   ·have c2:=nr c2;refine wn ?_;refine wn ?_;refine aD (fun c3=>?_) (fun c3=>?_)
    ·have c3:=nr c3;refine ak ?_;exact ob
    ·have c3:=nr c3;refine wn ?_;refine ihg1 _ ?_ ?_
     ·(refine ⟨by exact ob,fJ hg1_2 hg1_1 (by omega)⟩)
     ·exact ob
   ·have c2:=nr c2;refine ak ?_;(intro _; exact ⟨by omega,fun i hi=>hg1_2 i (by omega)⟩)
  ·(refine ⟨by exact ob,fun j hj=>by (try dsimp only at hj); omega⟩)
theorem Tw {l_:(List bM)} {users_:(List Int)} (h1:users_.length≤1000000):W (Fb l_ users_) (fun r=>r=0→Xz l_∧∀x∈users_,0≤x∧x<l_.length):=by
 unfold Fb;refine ay (O7) fun v1 hv1=>?_;refine aD (fun c1=>?_) (fun c1=>?_)
 ·have c1o:=c1;have c1:=nr c1;refine ak ?_;exact ob
 ·have c1o:=c1;have c1:=nr c1;refine bD (fun (g1:Int)=>0≤g1∧(∀j:Nat,(j:Int)<g1→0≤users_.getD j 0∧users_.getD j 0<l_.length)) (fun (g1:Int)=>(users_.length - g1).toNat) ?_ ?_
  ·intro self1 g1 hig1 ihg1;obtain ⟨hg1_1,hg1_2⟩:=hig1;unfold Iq;refine aD (fun c2=>?_) (fun c2=>?_)
   ·have c2:=nr c2;refine wn ?_;refine wn ?_;refine aD (fun c3=>?_) (fun c3=>?_)
    ·have c3:=nr c3;refine ak ?_;exact ob
    ·have c3:=nr c3;refine wn ?_;refine ihg1 _ ?_ ?_
     ·(refine ⟨by exact ob,fJ hg1_2 hg1_1 (by omega)⟩)
     ·exact ob
   ·have c2:=nr c2;refine ak ?_;(intro _; exact ⟨hv1 (by simpa using c1o),jq 0 fun j hj=>hg1_2 j (by omega)⟩)
  ·(refine ⟨by exact ob,fun j hj=>by (try dsimp only at hj); omega⟩)
theorem Va {l_:(List bM)} {users_:(List Int)} (h1:users_.length≤1000000):W (Iu l_ users_) (fun r=>r.2=0→r.1.length=l_.length):=by
 unfold Iu;refine ay (Tw ob) fun v1 hv1=>?_;refine aD (fun c1=>?_) (fun c1=>?_)
 ·have c1o:=c1;have c1:=nr c1;refine ak ?_;(intro e; exact absurd e c1)
 ·have c1o:=c1;have c1:=nr c1;obtain ⟨⟨p1,p2⟩,p3⟩:=hv1 (by simpa using c1o);refine wn ?_;refine bD (fun (g1:(Int×(List Bool)))=>0≤g1.1∧g1.2.length=l_.length) (fun (g1:(Int×(List Bool)))=>(users_.length - g1.1).toNat) ?_ ?_
  ·intro self1 g1 hig1 ihg1;obtain ⟨hg1_1,hg1_2⟩:=hig1;unfold K8;refine aD (fun c2=>?_) (fun c2=>?_)
   ·have c2:=nr c2;have hx:=p3 _ (getD_in (i:=g1.1.toNat) 0 (by omega));refine wn ?_;refine wn ?_;refine wn ?_;refine ihg1 _ ?_ ?_
    ·exact ob
    ·exact ob
   ·have c2:=nr c2;refine wn ?_;refine bD (fun (g2:(Int×(List Bool))) => -1≤g2.1∧g2.1<l_.length∧g2.2.length=l_.length) (fun (g2:(Int×(List Bool)))=>(g2.1+1).toNat) ?_ ?_
    ·intro self2 g2 hig2 ihg2;obtain ⟨hg2_1,hg2_2,hg2_3⟩:=hig2;unfold Ir;refine aD (fun c3=>?_) (fun c3=>?_)
     ·have c3:=nr c3;have hp:=p2 g2.1.toNat (by omega);refine wn ?_;refine wn ?_;refine wn ?_;unfold Az;refine wn ?_;refine wn ?_;refine aD (fun c4=>?_) (fun c4=>?_)
      ·have c4:=nr c4;refine wn ?_;refine wn ?_;refine wn ?_;refine ihg2 _ ?_ ?_
       ·exact ob
       ·exact ob
      ·have c4:=nr c4;refine wn ?_;refine ihg2 _ ?_ ?_
       ·exact ob
       ·exact ob
     ·have c3:=nr c3;refine ak ?_;exact ob
    ·exact ob
  ·(refine ⟨by exact ob,by simp⟩)
end Go.Proofs.YtfblhejmclcdmaaGreatDoor

namespace Go.Proofs.YtfblhejmclcdmaaGreatDoor.Sp
open Go.Ab
set_option maxRecDepth 100000
theorem Za {l:List aj} {d:List aM} (h:((bW l != 0)||decide (32<(d.length:Int)))=true):mg l d=false:=by
 unfold mg;by_cases h1:bW l=0
 ·rw [h1] at h;have:32<(d.length:Int):=by simpa using h
  rw [decide_eq_false (p:=(d.length:Int)≤32) (by omega)];simp
 ·have:(bW l==0)=false:=by simpa using h1
  rw [this];rfl
theorem XF {l:List aj} {d:List aM} (h:((bW l != 0)||decide (32<(d.length:Int)))=false):mg l d=!(d.any (OO l.length)):=by
 have h1:bW l=0∧(d.length:Int)≤32:=by
  simp at h;omega
 unfold mg;rw [h1.1,decide_eq_true h1.2];rfl
theorem aaJ {b:List Bool} {d:List aM} {i j:Nat} {a:Bool} {g:Int} (hi:i<b.length) (hj:j<d.length) (hg:g=(i:Int)):(b.set i (b.getD i false||a||atD (d.take j) i)).set i ((b.set i (b.getD i false||a||atD (d.take j) i)).getD i false||((d.getD j bL).bn==g))=b.set i (b.getD i false||a||atD (d.take (j+1)) i):=by
 subst hg;have hsn:atD (d.take (j+1)) i=(atD (d.take j) i||((d.getD j bL).bn==(i:Int))):=by
  unfold atD;rw [jW bL hj,List.any_append];simp
 rw [dU,if_pos ⟨rfl,hi⟩,List.set_set,hsn];simp only [Bool.or_assoc]
theorem mo {x_:Int} {lo_:Int} {hi_:Int}:W (l7 x_ lo_ hi_) (fun r=>r=withinF x_ lo_ hi_):=by
 unfold l7;refine ak ?_;rfl
theorem Gn {l_:(List aj)} (h1:l_.length≤1000000):W (sO l_) (fun r=>r=bW l_):=by
 unfold sO;refine aD (fun c1=>?_) (fun c1=>?_)
 ·have c1o:=c1;have c1:=nr c1;refine ak ?_;(unfold bW; rw [c1o]; rfl)
 ·have c1o:=c1;have c1:=nr c1;refine bD (fun (g1:Int)=>0≤g1∧g1≤l_.length∧(∀j:Nat,(j:Int)<g1→bigS (l_.getD j ah)=false)) (fun (g1:Int)=>(l_.length - g1).toNat) ?_ ?_
  ·intro self1 g1 hig1 ihg1;obtain ⟨hg1_1,hg1_2,hg1_3⟩:=hig1;unfold DR;refine aD (fun c2=>?_) (fun c2=>?_)
   ·have c2:=nr c2;refine wn ?_;refine aD (fun c3=>?_) (fun c3=>?_)
    ·have c3o:=c3;have c3:=nr c3;refine ak ?_;(unfold bW; rw [pX (p:=bigS) ah (show g1.toNat<l_.length by omega) (show bigS _=true from c3o),Bool.or_true]; rfl)
    ·have c3o:=c3;have c3:=nr c3;refine wn ?_;refine ihg1 _ ?_ ?_
     ·(refine ⟨by exact ob,by exact ob,fJ hg1_3 hg1_1 c3o⟩)
     ·exact ob
   ·have c2:=nr c2;have hbig:=any_none (p:=bigS) ah (fun j hj=>hg1_3 j (by omega));have hb3:(decide (16<(l_.length:Int))||l_.any bigS)=false:=(by rw [c1o,hbig]; rfl);refine bD (fun (g2:Int)=>0≤g2∧g2≤l_.length∧J2 g2.toNat (l_.drop g2.toNat)=J2 0 l_) (fun (g2:Int)=>(l_.length - g2).toNat) ?_ ?_
    ·intro self2 g2 hig2 ihg2;obtain ⟨hg2_1,hg2_2,hg2_3⟩:=hig2;unfold BL;obtain ⟨i,rfl⟩:=Int.eq_ofNat_of_zero_le hg2_1;refine aD (fun c4=>?_) (fun c4=>?_)
     ·have c4:=nr c4;have hlt:i<l_.length:=(by omega);have hb:=hg1_3 i (by omega);have hbl:(l_.getD i ah).aU.length≤16:=(by unfold bigS at hb; have:=of_decide_eq_false hb; omega);rw [show ((i:Int).toNat)=i from rfl,drop_cons ah hlt,J2] at hg2_3;simp only [Int.toNat_natCast] at *;refine wn ?_;refine wn ?_;refine ay (mo) fun v13 hv13=>?_;subst v13;refine ay (dF fun hc=>iJ (mo)) fun v14 hv14=>?_;subst v14;refine ay (dF fun hc=>iJ (mo)) fun v15 hv15=>?_;subst v15;refine aD (fun c5=>?_) (fun c5=>?_)
      ·have c5o:=c5;have c5:=nr c5;rw [Wn] at c5o;refine ak ?_;(unfold bW; rw [hb3,← hg2_3]; unfold validS; rw [show headB (l_.getD i ah) i=true from c5o]; rfl)
      ·have c5o:=c5;have c5:=nr c5;rw [Wn] at c5o;refine bD (fun (g5:Int)=>0≤g5∧g5≤(l_.getD i ah).aU.length∧JZ (if g5.toNat=0 then 0 else (l_.getD i ah).aU.getD (g5.toNat - 1) 0) ((l_.getD i ah).aU.drop g5.toNat)=JZ 0 (l_.getD i ah).aU) (fun (g5:Int)=>((l_.getD i ah).aU.length - g5).toNat) ?_ ?_
       ·intro self5 g5 hig5 ihg5;obtain ⟨hg5_1,hg5_2,hg5_3⟩:=hig5;unfold BK;obtain ⟨k,rfl⟩:=Int.eq_ofNat_of_zero_le hg5_1;simp only [Int.toNat_natCast] at *;refine aD (fun c6=>?_) (fun c6=>?_)
        ·have c6:=nr c6;have hlk:k<(l_.getD i ah).aU.length:=(by omega);have hst:=S9 hlk rfl;rw [hst] at hg5_3;have e1:(((k:Int) - 1).toNat)=k - 1:=(by omega);simp only [e1,Int.toNat_natCast] at *;refine wn ?_;refine ay (mo) fun v18 hv18=>?_;subst v18;refine wn ?_;refine wn ?_;refine aD (fun c7=>?_) (fun c7=>?_)
         ·have c7o:=c7;have c7:=nr c7;refine ak ?_;(unfold bW; rw [hb3,← hg2_3]; unfold validS; rw [show headB (l_.getD i ah) i=false from c5o,← hg5_3,c7o]; rfl)
         ·have c7o:=c7;have c7:=nr c7;refine wn ?_;refine ihg5 _ ?_ ?_
          ·(refine ⟨by exact ob,by exact ob,?_⟩; rw [← hg5_3,c7o]; rw [show ((k:Int)+1).toNat=k+1 by omega,if_neg (by omega)]; rfl)
          ·exact ob
        ·have c6:=nr c6;refine wn ?_;refine ihg2 _ ?_ ?_
         ·(refine ⟨by exact ob,by exact ob,?_⟩; rw [← hg2_3]; unfold validS; rw [show headB (l_.getD i ah) i=false from c5o,← hg5_3,show k=(l_.getD i ah).aU.length by omega,List.drop_length,show ((i:Int)+1).toNat=i+1 by omega]; rfl)
         ·exact ob
       ·(refine ⟨by exact ob,by exact ob,rfl⟩)
     ·have c4:=nr c4;refine ak ?_;(unfold bW; rw [hb3,← hg2_3,show ((i:Int).toNat)=i from rfl,show i=l_.length by omega,List.drop_length]; rfl)
    ·(refine ⟨by exact ob,by exact ob,rfl⟩)
  ·(refine ⟨by exact ob,by exact ob,fun j hj=>by omega⟩)
theorem O8 {l_:(List aj)} {d_:(List aM)} (h1:l_.length≤1000000) (h2:d_.length≤1000000):W (xL l_ d_) (fun r=>r=mg l_ d_):=by
 unfold xL;refine ay (Gn ob) fun v1 hv1=>?_;subst v1;refine aD (fun c1=>?_) (fun c1=>?_)
 ·have c1o:=c1;have c1:=nr c1;refine ak ?_;(exact (Za c1o).symm)
 ·have c1o:=c1;have c1:=nr c1;have hdf:=XF c1o;refine bD (fun (g1:Int)=>0≤g1∧g1≤d_.length∧(d_.drop g1.toNat).any (OO l_.length)=d_.any (OO l_.length)) (fun (g1:Int)=>(d_.length - g1).toNat) ?_ ?_
  ·intro self1 g1 hig1 ihg1;obtain ⟨hg1_1,hg1_2,hg1_3⟩:=hig1;unfold DT;refine aD (fun c2=>?_) (fun c2=>?_)
   ·have c2:=nr c2;have hlt:g1.toNat<d_.length:=(by omega);rw [drop_cons bL hlt,List.any_cons] at hg1_3;refine wn ?_;refine wn ?_;refine ay (mo) fun v8 hv8=>?_;subst v8;refine ay (dF fun hc=>iJ (mo)) fun v9 hv9=>?_;subst v9;refine ay (dF fun hc=>iJ (mo)) fun v10 hv10=>?_;subst v10;refine aD (fun c3=>?_) (fun c3=>?_)
    ·have c3o:=c3;have c3:=nr c3;have hb:=(Ta l_.length (d_.getD g1.toNat bL)).symm.trans c3o;refine ak ?_;(rw [hdf,← hg1_3,hb]; rfl)
    ·have c3o:=c3;have c3:=nr c3;have hb:=(Ta l_.length (d_.getD g1.toNat bL)).symm.trans c3o;refine wn ?_;refine ihg1 _ ?_ ?_
     ·(refine ⟨by exact ob,by exact ob,?_⟩; rw [← hg1_3,hb,show (g1+1).toNat=g1.toNat+1 by omega]; rfl)
     ·exact ob
   ·have c2:=nr c2;refine ak ?_;(rw [hdf,← hg1_3,show g1.toNat=d_.length by omega,List.drop_length]; rfl)
  ·(refine ⟨by exact ob,by exact ob,rfl⟩)
theorem O9 {l_:(List aj)} {d_:(List aM)} (h1:l_.length≤1000000) (h2:d_.length≤1000000):W (xM l_ d_) (fun r=>r=beginF l_ d_):=by
 unfold xM;refine ay (Gn ob) fun v1 hv1=>?_;subst v1;refine aD (fun c1=>?_) (fun c1=>?_)
 ·have c1o:=c1;have c1:=nr c1;refine ak ?_;(unfold beginF; rw [c1o]; rfl)
 ·have c1o:=c1;have c1:=nr c1;refine ay (O8 ob ob) fun v2 hv2=>?_;subst v2;refine aD (fun c2=>?_) (fun c2=>?_)
  ·have c2o:=c2;have c2:=nr c2;refine ak ?_;(unfold beginF; rw [c1o,c2o]; rfl)
  ·have c2o:=c2;have c2:=nr c2;refine ak ?_;(unfold beginF; rw [c1o,c2o]; rfl)
theorem I5 {l_:(List aj)} {d_:(List aM)} (h1:Xv l_ d_):W (wz l_ d_) (fun r=>r=iL l_ d_):=by
 have hv:=h1;obtain ⟨vl,vd,vs,_,vx⟩:=h1;unfold wz;refine wn ?_;refine wn ?_;refine bD (fun (g1:(Int×(List Bool))) => -1≤g1.1∧g1.1<l_.length∧Gj l_ d_ (l_.length - 1 - g1.1).toNat g1.2) (fun (g1:(Int×(List Bool)))=>(g1.1+1).toNat) ?_ ?_
 ·intro self1 g1 hig1 ihg1;obtain ⟨hg1_1,hg1_2,hg1_3⟩:=hig1;unfold F9;have hbl:=hg1_3.len;refine aD (fun c1=>?_) (fun c1=>?_)
  ·have c1:=nr c1;have hst:=hg1_3.step hv (show (l_.length - 1 - g1.1).toNat<l_.length by omega);have hp:=vs g1.1.toNat (by omega);rw [show l_.length - 1 - ((l_.length:Int) - 1 - g1.1).toNat=g1.1.toNat by omega,show ((l_.length:Int) - 1 - g1.1).toNat+1=((l_.length:Int) - 1 - (g1.1 - 1)).toNat by omega] at hst;refine wn ?_;refine wn ?_;refine wn ?_;refine bD (fun (g4:(Int×(List Bool)))=>0≤g4.1∧g4.1≤d_.length∧g4.2=g1.2.set g1.1.toNat (g1.2.getD g1.1.toNat false||(l_.getD g1.1.toNat ah).Always||atD (d_.take g4.1.toNat) g1.1.toNat)) (fun (g4:(Int×(List Bool)))=>(d_.length - g4.1).toNat) ?_ ?_
   ·intro self4 g4 hig4 ihg4;obtain ⟨hg4_1,hg4_2,hg4_3⟩:=hig4;unfold F8;have hg4l:g4.2.length=l_.length:=(by rw [hg4_3,List.length_set,hbl]);refine aD (fun c2=>?_) (fun c2=>?_)
    ·have c2:=nr c2;refine wn ?_;refine wn ?_;refine wn ?_;refine wn ?_;refine ihg4 _ ?_ ?_
     ·(refine ⟨by exact ob,by exact ob,?_⟩; dsimp only; rw [show (g4.1+1).toNat=g4.1.toNat+1 by omega,hg4_3]; exact aaJ (by omega) (by omega) (by omega))
     ·exact ob
    ·have c2:=nr c2;have hg4e:g4.2=g1.2.set g1.1.toNat (g1.2.getD g1.1.toNat false||(l_.getD g1.1.toNat ah).Always||atD d_ g1.1.toNat):=(by rw [hg4_3,show g4.1.toNat=d_.length by omega,List.take_length]);have hgi:g4.2.getD g1.1.toNat false=(g1.2.getD g1.1.toNat false||(l_.getD g1.1.toNat ah).Always||atD d_ g1.1.toNat):=(by rw [hg4e,dU,if_pos ⟨rfl,by omega⟩]);refine wn ?_;refine wn ?_;refine aD (fun c3=>?_) (fun c3=>?_)
     ·have c3o:=c3;have c3:=nr c3;have c3b:=c3o;rw [hgi] at c3b;refine wn ?_;refine wn ?_;refine ihg1 _ ?_ ?_
      ·(refine ⟨by exact ob,by exact ob,?_⟩; dsimp only; unfold IQ at hst; rw [c3b] at hst; rw [hg4e]; exact hst)
      ·exact ob
     ·have c3o:=c3;have c3:=nr c3;have c3b:=c3o;rw [hgi] at c3b;refine wn ?_;refine ihg1 _ ?_ ?_
      ·(refine ⟨by exact ob,by exact ob,?_⟩; dsimp only; unfold IQ at hst; rw [c3b] at hst; rw [hg4e]; exact hst)
      ·exact ob
   ·(refine ⟨by exact ob,by exact ob,?_⟩; dsimp only; rw [show (0:Int).toNat=0 from rfl,List.take_zero,show atD [] g1.1.toNat=false from rfl,Bool.or_false])
  ·have c1:=nr c1;refine ak ?_;(exact Gj.done (by rw [show l_.length=((l_.length:Int) - 1 - g1.1).toNat by omega]; exact hg1_3))
 ·(refine ⟨by exact ob,by exact ob,?_⟩; dsimp only; rw [show ((l_.length:Int) - 1 - (l_.length - 1)).toNat=0 by omega]; exact Gj.start hv)
theorem Pb {s_:aj} {v_:Int} (h1:s_.aU.length≤1000000):W (xO s_ v_) (fun r=>r=(bif decide (lvN s_.aU v_<s_.aU.length) then (lvN s_.aU v_:Int) else -1)):=by
 unfold xO;refine bD (fun (g1:Int)=>0≤g1∧g1≤s_.aU.length∧(∀j:Nat,(j:Int)<g1→s_.aU.getD j 0<v_)) (fun (g1:Int)=>(s_.aU.length - g1).toNat) ?_ ?_
 ·intro self1 g1 hig1 ihg1;obtain ⟨hg1_1,hg1_2,hg1_3⟩:=hig1;unfold DU;refine aD (fun c1=>?_) (fun c1=>?_)
  ·have c1:=nr c1;refine wn ?_;refine aD (fun c2=>?_) (fun c2=>?_)
   ·have c2:=nr c2;refine ak ?_;(rw [← Y0 (k:=g1.toNat) (by omega) (fun j hj=>hg1_3 j (by omega)) (fun _=>c2),decide_eq_true (by omega)]; simp only [cond_true]; omega)
   ·have c2:=nr c2;refine wn ?_;refine ihg1 _ ?_ ?_
    ·(refine ⟨by exact ob,by exact ob,fJ hg1_3 hg1_1 c2⟩)
    ·exact ob
  ·have c1:=nr c1;refine ak ?_;(rw [← Y0 (k:=g1.toNat) (by omega) (fun j hj=>hg1_3 j (by omega)) (fun h=>by omega),decide_eq_false (by omega)]; rfl)
 ·(refine ⟨by exact ob,by exact ob,fun j hj=>by omega⟩)
theorem rU {l_:(List aj)} {r_:bF} {k_:Int} (h1:0≤k_) (h2:k_<l_.length) (h3:Rok l_ r_):W (l8 l_ r_ k_) (fun r=>r=qH l_ r_ k_.toNat):=by
 obtain ⟨r1,r2,r3⟩:=h3;have r4:=r3 k_.toNat (by omega);unfold l8;refine wn ?_;refine wn ?_;refine wn ?_;refine ak ?_;rfl
end Go.Proofs.YtfblhejmclcdmaaGreatDoor.Sp

namespace Go.Proofs.YtfblhejmclcdmaaGreatDoor.Sp
open Go.Ab
set_option maxRecDepth 100000
theorem adq {l:List aj} {r:bF} {u:List Bool} {ld:List Int} {i:Nat} (h:(u.getD i false&&!r.On.getD i false)=true):G6 l r u ld i=true:=by
 simp only [Bool.and_eq_true] at h;unfold G6;rw [h.1,h.2]; rfl
theorem adr {l:List aj} {r:bF} {u:List Bool} {ld:List Int} {i:Nat} (h:(u.getD i false&&!r.On.getD i false)=false) (h2:(!r.On.getD i false)=true):G6 l r u ld i=false:=by
 rw [h2,Bool.and_true] at h;unfold G6;rw [h2,h]; rfl
theorem acL {l:List aj} {r:bF} {u:List Bool} {ld:List Int} {i:Nat} (h2:(!r.On.getD i false)=false):G6 l r u ld i=(decide ((l.getD i ah).eG<ld.getD i 0)||(decide (0≤(l.getD i ah).Parent)&&(!r.On.getD (l.getD i ah).Parent.toNat false||decide (qH l r (l.getD i ah).Parent.toNat<qH l r i+(l.getD i ah).dO)))):=by
 unfold G6;rw [h2,Bool.or_comm]; rfl
theorem Tx {l:List aj} {r:bF} {d:List aM} {i:Nat} (hi:i<l.length) (h:G6 l r (iL l d) (wG l d) i=true):tQ l r d=false:=by
 unfold tQ;rw [tT hi (by rw [h]; rfl)];rfl
theorem Tz {l:List aj} {r:bF} {d:List aM} (h:∀i,i<l.length→G6 l r (iL l d) (wG l d) i=false):tQ l r d=!(d.any (dBad l r)):=by
 unfold tQ;rw [El fun j hj=>(by rw [h j hj]; rfl)];rfl
theorem XG {l:List aj} {u:List Bool} {i:Nat} {s:DS} (h:(!u.getD i false)=true):K9 l u i s=false:=by
 unfold K9;rw [show u.getD i false=false by simpa using h];rfl
theorem Zb {a n:Nat} (h:decide ((bif decide (a<n) then (a:Int) else -1)<0)=true):decide (a<n)=false:=by
 cases hd:decide (a<n) with
 | false=>rfl
 | true=>rw [hd] at h; have:=of_decide_eq_true h; simp only [cond_true] at this; omega
theorem Zc {a n:Nat} (h:decide ((bif decide (a<n) then (a:Int) else -1)<0)=false):decide (a<n)=true:=by
 cases hd:decide (a<n) with
 | true=>rfl
 | false=>rw [hd] at h; cases h
theorem Vb {l:List aj} {d:List aM} {s:DS} {i:Nat} (h0:(beginF l d != 0)=false) (e:(s,(i:Int))=Q7 l d):(QU,9)=tV l d:=by
 unfold tV;rw [h0,← e,decide_eq_true (show (0:Int)≤(s,(i:Int)).2 by dsimp only; omega)];rfl
theorem Qf {l:List aj} {d:List aM} {s:DS} (h0:(beginF l d != 0)=false) (hdr:mg l d=true) (e:(s,(-1:Int))=Q7 l d) (hr:Rok l ⟨iL l d,s.lv⟩):tV l d=bif !tQ l ⟨iL l d,s.lv⟩ d then (QU,9) else (⟨iL l d,s.lv⟩,0):=by
 unfold tV;have hmf:l9 l ⟨iL l d,s.lv⟩ d=tQ l ⟨iL l d,s.lv⟩ d:=by
  unfold l9;rw [J3.2 ⟨Tf hdr,hr⟩,hdr];rfl
 rw [h0,← e];simp only [show decide ((0:Int) ≤ -1)=false from rfl,Bool.false_or,hmf,cond_false]
theorem Zd {l:List aj} {u:List Bool} {i:Nat} {s:DS} (hu:u.getD i false=true) (hi:i<s.lv.length):qH l ⟨u,(Em l u i s).lv⟩ i+(l.getD i ah).dO=yL l i s:=by
 unfold qH yL Em;rw [hu];simp only [Bool.not_true,cond_false];rw [dU,if_pos ⟨rfl,hi⟩];rfl
theorem Ze {l:List aj} {u:List Bool} {i:Nat} {s:DS} (hu:u.getD i false=true) (hp:decide (0≤(l.getD i ah).Parent)=true):(yM s.a).set (l.getD i ah).Parent.toNat (if yL l i s > (yM s.a).getD (l.getD i ah).Parent.toNat 0 then yL l i s else (yM s.a).getD (l.getD i ah).Parent.toNat 0)=yM (Em l u i s).a:=by
 unfold Em;rw [hu,hp,En];simp only [Bool.not_true,cond_false,Bool.true_and];by_cases h:(s.a.getD (l.getD i ah).Parent.toNat OL).IG<yL l i s
 ·rw [decide_eq_true h,cond_true,Tg,if_pos h]
 ·rw [decide_eq_false h,cond_false,if_neg h,Tj _ _ _ (En _ _).symm]
theorem XH {l:List aj} {u:List Bool} {i:Nat} {s:DS} (hp:decide (0≤(l.getD i ah).Parent)=false):yM s.a=yM (Em l u i s).a:=by
 unfold Em;rw [hp];cases u.getD i false<;>rfl
theorem Zf {l:List aj} {u:List Bool} {i:Nat} {s:DS} (h:(!u.getD i false)=true):Em l u i s=s:=by
 unfold Em;rw [h];rfl
theorem Pd {l_:(List aj)} {d_:(List aM)} (h1:Xv l_ d_):W (xP l_ d_) (fun r=>r=wG l_ d_):=by
 have hv:=h1;obtain ⟨vl,vd,vs,_,vx⟩:=h1;unfold xP;refine wn ?_;refine wn ?_;refine bD (fun (g1:(Int×(List Int))) => -1≤g1.1∧g1.1<l_.length∧Ce l_ d_ (l_.length - 1 - g1.1).toNat g1.2) (fun (g1:(Int×(List Int)))=>(g1.1+1).toNat) ?_ ?_
 ·intro self1 g1 hig1 ihg1;obtain ⟨hg1_1,hg1_2,hg1_3⟩:=hig1;unfold DW;have hbl:=hg1_3.len;have hsm:=hg1_3.small hv (by omega);refine aD (fun c1=>?_) (fun c1=>?_)
  ·have c1:=nr c1;have hst:=hg1_3.step hv (show (l_.length - 1 - g1.1).toNat<l_.length by omega);have hp:=vs g1.1.toNat (by omega);rw [show l_.length - 1 - ((l_.length:Int) - 1 - g1.1).toNat=g1.1.toNat by omega,show ((l_.length:Int) - 1 - g1.1).toNat+1=((l_.length:Int) - 1 - (g1.1 - 1)).toNat by omega] at hst;refine bD (fun (g4:(Int×(List Int)))=>0≤g4.1∧g4.1≤d_.length∧g4.2=g1.2.set g1.1.toNat (g1.2.getD g1.1.toNat 0+dsum (d_.take g4.1.toNat) g1.1.toNat)) (fun (g4:(Int×(List Int)))=>(d_.length - g4.1).toNat) ?_ ?_
   ·intro self4 g4 hig4 ihg4;obtain ⟨hg4_1,hg4_2,hg4_3⟩:=hig4;unfold DV;have hg4l:g4.2.length=l_.length:=(by rw [hg4_3,List.length_set,hbl]);refine aD (fun c2=>?_) (fun c2=>?_)
    ·have c2:=nr c2;have hx:=vx _ (fM bL (show g4.1.toNat<d_.length by omega));have hdb:=IU (d:=d_) (fun x hx=>by have:=vx x hx; omega) g1.1.toNat g4.1.toNat (by omega);have hbi:=hsm g1.1.toNat;have hgi:g4.2.getD g1.1.toNat 0=g1.2.getD g1.1.toNat 0+dsum (d_.take g4.1.toNat) g1.1.toNat:=(by rw [hg4_3,dU,if_pos ⟨rfl,by omega⟩]);refine wn ?_;refine aD (fun c3=>?_) (fun c3=>?_)
     ·have c3o:=c3;have c3:=nr c3;refine wn ?_;refine wn ?_;refine wn ?_;refine wn ?_;refine ihg4 _ ?_ ?_
      ·(refine ⟨by exact ob,by exact ob,?_⟩; dsimp only; rw [show (g4.1+1).toNat=g4.1.toNat+1 by omega,hgi,hg4_3,List.set_set,J4 (by omega),show ((g1.1.toNat:Int))=g1.1 by omega,c3o]; simp only [cond_true]; rw [Int.add_assoc])
      ·exact ob
     ·have c3o:=c3;have c3:=nr c3;refine wn ?_;refine ihg4 _ ?_ ?_
      ·(refine ⟨by exact ob,by exact ob,?_⟩; dsimp only; rw [show (g4.1+1).toNat=g4.1.toNat+1 by omega,hg4_3,J4 (by omega),show ((g1.1.toNat:Int))=g1.1 by omega,c3o]; rfl)
      ·exact ob
    ·have c2:=nr c2;have hdb:=IU (d:=d_) (fun x hx=>by have:=vx x hx; omega) g1.1.toNat d_.length (Nat.le_refl _);rw [List.take_length] at hdb;have hg4e:g4.2=g1.2.set g1.1.toNat (g1.2.getD g1.1.toNat 0+dsum d_ g1.1.toNat):=(by rw [hg4_3,show g4.1.toNat=d_.length by omega,List.take_length]);have hgi:g4.2.getD g1.1.toNat 0=g1.2.getD g1.1.toNat 0+dsum d_ g1.1.toNat:=(by rw [hg4e,dU,if_pos ⟨rfl,by omega⟩]);have hbi:=hsm g1.1.toNat;refine wn ?_;refine aD (fun c4=>?_) (fun c4=>?_)
     ·have c4o:=c4;have c4:=nr c4;have hgp:g4.2.getD (l_.getD g1.1.toNat ah).Parent.toNat 0=g1.2.getD (l_.getD g1.1.toNat ah).Parent.toNat 0:=(by rw [hg4e,dU,if_neg (by omega)]);have hbp:=hsm (l_.getD g1.1.toNat ah).Parent.toNat;refine wn ?_;refine wn ?_;refine wn ?_;refine wn ?_;refine wn ?_;refine ihg1 _ ?_ ?_
      ·(refine ⟨by exact ob,by exact ob,?_⟩; dsimp only; unfold Fj at hst; rw [c4o] at hst; rw [hgi,hgp,hg4e]; exact hst)
      ·exact ob
     ·have c4o:=c4;have c4:=nr c4;refine wn ?_;refine ihg1 _ ?_ ?_
      ·(refine ⟨by exact ob,by exact ob,?_⟩; dsimp only; unfold Fj at hst; rw [c4o] at hst; rw [hg4e]; exact hst)
      ·exact ob
   ·(refine ⟨by exact ob,by exact ob,?_⟩; dsimp only; rw [show (0:Int).toNat=0 from rfl,List.take_zero,show dsum [] g1.1.toNat=0 from rfl,Int.add_zero,set_self])
  ·have c1:=nr c1;refine ak ?_;(exact Ce.done (by rw [show l_.length=((l_.length:Int) - 1 - g1.1).toNat by omega]; exact hg1_3))
 ·(refine ⟨by exact ob,by exact ob,?_⟩; dsimp only; rw [show ((l_.length:Int) - 1 - (l_.length - 1)).toNat=0 by omega]; exact Ce.start hv)
theorem Pe {l_:(List aj)} {r_:bF} {d_:(List aM)} (h1:Xv l_ d_) (h2:Rok l_ r_):W (xQ l_ r_ d_) (fun r=>r=tQ l_ r_ d_):=by
 have hv:=h1;have hr:=h2;have hvb:=fun i hi=>Nq hv hr i hi;have hul:=Fh l_ d_;have hll:=G5 l_ d_;obtain ⟨vl,vd,vs,_,vx⟩:=h1;obtain ⟨r1,r2,r3⟩:=h2;unfold xQ;refine ay (I5 ob) fun v1 hv1=>?_;subst v1;refine ay (Pd ob) fun v2 hv2=>?_;subst v2;refine bD (fun (g1:Int)=>0≤g1∧g1≤l_.length∧(∀j:Nat,(j:Int)<g1→G6 l_ r_ (iL l_ d_) (wG l_ d_) j=false)) (fun (g1:Int)=>(l_.length - g1).toNat) ?_ ?_
 ·intro self1 g1 hig1 ihg1;obtain ⟨hg1_1,hg1_2,hg1_3⟩:=hig1;unfold DX;refine aD (fun c1=>?_) (fun c1=>?_)
  ·have c1:=nr c1;have hp:=vs g1.toNat (by omega);have hv1:=hvb g1.toNat (by omega);have hv2:=hvb (l_.getD g1.toNat ah).Parent.toNat;refine wn ?_;refine wn ?_;refine wn ?_;refine aD (fun c2=>?_) (fun c2=>?_)
   ·have c2o:=c2;have c2:=nr c2;refine ak ?_;(exact (Tx (i:=g1.toNat) (by omega) (adq c2o)).symm)
   ·have c2o:=c2;have c2:=nr c2;refine wn ?_;refine aD (fun c3=>?_) (fun c3=>?_)
    ·have c3o:=c3;have c3:=nr c3;refine wn ?_;refine ihg1 _ ?_ ?_
     ·(refine ⟨by exact ob,by exact ob,fJ hg1_3 hg1_1 (adr c2o c3o)⟩)
     ·exact ob
    ·have c3o:=c3;have c3:=nr c3;refine wn ?_;refine bV (by (intro _ q; have:=of_decide_eq_true q; omega)) ?_;refine ay (dF fun hc hc2 hc3=>iJ (rU (of_decide_eq_true hc2) (by have:=of_decide_eq_true hc2; omega) hr)) fun v7 hv7=>?_;subst v7;refine ay (dF fun hc hc2 hc3=>iJ (rU (by omega) (by omega) hr)) fun v8 hv8=>?_;subst v8;refine bV (by (intro _ q; have:=of_decide_eq_true q; have:=hv2 (by omega); unfold InI64; omega)) ?_;refine aD (fun c4=>?_) (fun c4=>?_)
     ·have c4o:=c4;have c4:=nr c4;refine ak ?_;(exact (Tx (i:=g1.toNat) (by omega) ((acL c3o).trans c4o)).symm)
     ·have c4o:=c4;have c4:=nr c4;refine wn ?_;refine ihg1 _ ?_ ?_
      ·(refine ⟨by exact ob,by exact ob,fJ hg1_3 hg1_1 ((acL c3o).trans c4o)⟩)
      ·exact ob
  ·have c1:=nr c1;refine bD (fun (g2:Int)=>0≤g2∧g2≤d_.length∧(d_.drop g2.toNat).any (dBad l_ r_)=d_.any (dBad l_ r_)) (fun (g2:Int)=>(d_.length - g2).toNat) ?_ ?_
   ·intro self2 g2 hig2 ihg2;obtain ⟨hg2_1,hg2_2,hg2_3⟩:=hig2;unfold BM;refine aD (fun c5=>?_) (fun c5=>?_)
    ·have c5:=nr c5;have hlt:g2.toNat<d_.length:=(by omega);have hx:=vx _ (fM bL hlt);rw [drop_cons bL hlt,List.any_cons] at hg2_3;refine wn ?_;refine ay (rU hx.1 hx.2.1 hr) fun v13 hv13=>?_;subst v13;refine ay (mo) fun v14 hv14=>?_;subst v14;refine aD (fun c6=>?_) (fun c6=>?_)
     ·have c6o:=c6;have c6:=nr c6;refine ak ?_;(rw [Tz (fun j hj=>hg1_3 j (by omega)),← hg2_3,show dBad l_ r_ (d_.getD g2.toNat bL)=true from c6o]; rfl)
     ·have c6o:=c6;have c6:=nr c6;refine wn ?_;refine ihg2 _ ?_ ?_
      ·(refine ⟨by exact ob,by exact ob,?_⟩; rw [← hg2_3,show dBad l_ r_ (d_.getD g2.toNat bL)=false from c6o,show (g2+1).toNat=g2.toNat+1 by omega]; rfl)
      ·exact ob
    ·have c5:=nr c5;refine ak ?_;(rw [Tz (fun j hj=>hg1_3 j (by omega)),← hg2_3,show g2.toNat=d_.length by omega,List.drop_length]; rfl)
   ·(refine ⟨by exact ob,by exact ob,rfl⟩)
 ·(refine ⟨by exact ob,by exact ob,fun j hj=>by omega⟩)
theorem Pf {l_:(List aj)} {d_:(List aM)} (h1:l_.length≤1000000) (h2:d_.length≤1000000):W (xR l_ d_) (fun r=>r=tV l_ d_):=by
 unfold xR;refine ay (O9 ob ob) fun v1 hv1=>?_;subst v1;refine aD (fun c1=>?_) (fun c1=>?_)
 ·have c1o:=c1;have c1:=nr c1;refine ak ?_;(unfold tV; rw [c1o]; rfl)
 ·have c1o:=c1;have c1:=nr c1;have hdr:=YX (show beginF l_ d_=0 by simpa using c1o);have hv:=YW hdr;obtain ⟨vl,vd,vs,vlv,vx⟩:=id hv;have hul:=Fh l_ d_;refine ay (I5 hv) fun v2 hv2=>?_;subst v2;refine wn ?_;refine wn ?_;refine bD (fun (g1:(Int×(List Int)×(List Int)))=>0≤g1.1∧g1.1≤d_.length∧g1.2.1=yM (wH l_.length d_ g1.1.toNat)∧g1.2.2=List.replicate l_.length 0) (fun (g1:(Int×(List Int)×(List Int)))=>(d_.length - g1.1).toNat) ?_ ?_
  ·intro self1 g1 hig1 ihg1;obtain ⟨hg1_1,hg1_2,hg1_3,hg1_4⟩:=hig1;unfold DY;have hgl:g1.2.1.length=l_.length:=(by rw [hg1_3,Ti,Qd]);refine aD (fun c2=>?_) (fun c2=>?_)
   ·have c2:=nr c2;have hx:=vx _ (fM bL (show g1.1.toNat<d_.length by omega));refine wn ?_;refine wn ?_;refine wn ?_;refine wn ?_;refine ihg1 _ ?_ ?_
    ·(refine ⟨by exact ob,by exact ob,?_,hg1_4⟩; dsimp only; rw [show (g1.1+1).toNat=g1.1.toNat+1 by omega,U6,hg1_3])
    ·exact ob
   ·have c2:=nr c2;refine wn ?_;refine bD (fun (g2:(Int×(List Int)×(List Int))) => -1≤g2.1∧g2.1<l_.length∧∃s:DS,g2.2.1=yM s.a∧g2.2.2=s.lv∧DOk l_ s∧aaF l_ s∧Y1 l_ (iL l_ d_) (g2.1+1).toNat s=Q7 l_ d_) (fun (g2:(Int×(List Int)×(List Int)))=>(g2.1+1).toNat) ?_ ?_
    ·intro self2 g2 hig2 ihg2;obtain ⟨hg2_1,hg2_2,hg2_3⟩:=hig2;unfold BN;obtain ⟨s,e1,e2,e3,e4,e5⟩:=hg2_3;have hal:g2.2.1.length=l_.length:=(by rw [e1,Ti,e3.al]);have hll:g2.2.2.length=l_.length:=(by rw [e2,e3.ll]);refine aD (fun c3=>?_) (fun c3=>?_)
     ·have c3:=nr c3;have hp:=vs g2.1.toNat (by omega);rw [show (g2.1+1).toNat=g2.1.toNat+1 by omega,Y1] at e5;refine wn ?_;refine aD (fun c4=>?_) (fun c4=>?_)
      ·have c4o:=c4;have c4:=nr c4;refine wn ?_;refine ihg2 _ ?_ ?_
       ·(refine ⟨by exact ob,by exact ob,s,e1,e2,e3,e4,?_⟩; dsimp only; rw [show (g2.1 - 1+1).toNat=g2.1.toNat by omega]; rw [XG c4o,Zf c4o] at e5; exact e5)
       ·exact ob
      ·have c4o:=c4;have c4:=nr c4;have hu:(iL l_ d_).getD g2.1.toNat false=true:=(by simpa using c4o);refine wn ?_;refine wn ?_;refine ay (Pb ob) fun v11 hv11=>?_;subst v11;rw [e1,En,show lvN (l_.getD g2.1.toNat ah).aU (s.a.getD g2.1.toNat OL).IG=FB l_ g2.1.toNat s from rfl];have hgs:(g2.2.2.set g2.1.toNat (bif decide (FB l_ g2.1.toNat s<(l_.getD g2.1.toNat ah).aU.length) then (FB l_ g2.1.toNat s:Int) else -1)).getD g2.1.toNat 0=(bif decide (FB l_ g2.1.toNat s<(l_.getD g2.1.toNat ah).aU.length) then (FB l_ g2.1.toNat s:Int) else -1):=(by rw [dU,if_pos ⟨rfl,by omega⟩]);refine wn ?_;unfold tN;refine wn ?_;refine aD (fun c5=>?_) (fun c5=>?_)
       ·have c5o:=c5;have c5:=nr c5;rw [hgs] at c5o;have h5:=Zb c5o;have h6:decide ((FB l_ g2.1.toNat s:Int)<(l_.getD g2.1.toNat ah).aU.length)=false:=(by simpa using h5);refine ak ?_;(exact Vb c1o (by unfold K9 at e5; rw [hu,h6] at e5; exact e5))
       ·have c5o:=c5;have c5:=nr c5;rw [hgs] at c5o;have h5:=Zc c5o;have h6:decide ((FB l_ g2.1.toNat s:Int)<(l_.getD g2.1.toNat ah).aU.length)=true:=(by simpa using h5);have hf:K9 l_ (iL l_ d_) g2.1.toNat s=false:=(by unfold K9; rw [hu,h6]; rfl);rw [hf] at e5;have hlo:=aaE (u:=iL l_ d_) (i:=g2.1.toNat) e3;have hlv:=aaG hf e4;have hR:=Y3 hul hlo hlv;have hs:(Em l_ (iL l_ d_) g2.1.toNat s).lv=s.lv.set g2.1.toNat (FB l_ g2.1.toNat s:Int):=(by unfold Em; rw [hu]; rfl);have hvo:=Zd (l:=l_) (u:=iL l_ d_) hu (show g2.1.toNat<s.lv.length by rw [e3.ll]; omega);have hvb:=Nq hv hR g2.1.toNat (by omega);rw [h5]; simp only [cond_true]; rw [e2,← hs];refine wn ?_;refine aD (fun c6=>?_) (fun c6=>?_)
        ·have c6o:=c6;have c6:=nr c6;refine wn ?_;refine ay (rU (by omega) (by omega) hR) fun v10 hv10=>?_;subst v10;refine wn ?_;refine bV (by (unfold InI64; omega)) ?_;refine wn ?_;refine wn ?_;refine ihg2 _ ?_ ?_
         ·(refine ⟨by exact ob,by exact ob,Em l_ (iL l_ d_) g2.1.toNat s,?_,rfl,hlo,hlv,?_⟩; (dsimp only; rw [hvo,e1]; exact Ze hu c6o); (dsimp only; rw [show (g2.1 - 1+1).toNat=g2.1.toNat by omega]; exact e5))
         ·exact ob
        ·have c6o:=c6;have c6:=nr c6;refine wn ?_;refine ihg2 _ ?_ ?_
         ·(refine ⟨by exact ob,by exact ob,Em l_ (iL l_ d_) g2.1.toNat s,?_,rfl,hlo,hlv,?_⟩; (dsimp only; rw [e1]; exact XH c6o); (dsimp only; rw [show (g2.1 - 1+1).toNat=g2.1.toNat by omega]; exact e5))
         ·exact ob
     ·have c3:=nr c3;rw [show (g2.1+1).toNat=0 by omega,Y1] at e5;have hrk:Rok l_ ⟨iL l_ d_,g2.2.2⟩:=(by rw [e2]; exact Y3 hul e3 e4);refine ay (Pe hv hrk) fun v12 hv12=>?_;subst v12;refine aD (fun c7=>?_) (fun c7=>?_)
      ·have c7o:=c7;have c7:=nr c7;refine ak ?_;(rw [Qf c1o hdr e5 (by rw [← e2]; exact hrk),← e2,c7o]; rfl)
      ·have c7o:=c7;have c7:=nr c7;refine ak ?_;(rw [Qf c1o hdr e5 (by rw [← e2]; exact hrk),← e2,c7o]; rfl)
    ·(refine ⟨by exact ob,by exact ob,ds0 l_ d_,?_,hg1_4,abY _ _,?_,?_⟩; (dsimp only; rw [hg1_3,show g1.1.toNat=d_.length by omega]; rfl); (intro j hj; show 0≤(List.replicate l_.length (0:Int)).getD j 0∧(List.replicate l_.length (0:Int)).getD j 0<_; rw [sS]; have:=vs j hj; omega); (dsimp only; rw [show ((l_.length:Int) - 1+1).toNat=l_.length by omega]; rfl))
  ·(refine ⟨by exact ob,by exact ob,?_,rfl⟩; show _=yM (List.replicate l_.length (⟨0,-1,-1⟩:Xu)); unfold yM; rw [List.map_replicate]; rfl)
end Go.Proofs.YtfblhejmclcdmaaGreatDoor.Sp

namespace Go.Proofs.YtfblhejmclcdmaaGreatDoor
open Go.Ab
set_option maxRecDepth 100000
theorem TA (n lo hi:Int) (b:Bool):(((decide (n<lo))||(decide (hi<n)))||b)=(!(withinF n lo hi)||b):=by
 unfold withinF;congr 1;by_cases h1:n<lo<;>by_cases h2:hi<n<;>simp [h1,h2]<;>omega
theorem XI {l:List Int} {x y:Int} (h:l.contains x=false) (hy:¬ y=x):(l++[y]).contains x=false:=by
 rw [List.contains_eq_any_beq] at h ⊢;rw [List.any_append,h];simpa using fun e=>hy e.symm
theorem Vd (n:Nat):decide ((1:Int)≤(n:Int))=decide ((0:Int)<(n:Int)):=by
 rw [decide_eq_decide]; omega
theorem ads {c:av}:((decide ((1:Int)≤(c.Parents.length:Int))&&decide ((0:Int)<(c.Choices.length:Int)))&&(pV 0 ((c.Parents.length:Int) - 1) [] c.Choices))=(decide (0<(c.Choices.length:Int))&&pV 0 ((c.Parents.length:Int) - 1) [] c.Choices):=by
 by_cases h:1≤(c.Parents.length:Int)
 ·rw [decide_eq_true h,Bool.true_and]
 ·rw [decide_eq_false h,Bool.false_and,Bool.false_and];symm;rw [Bool.and_eq_false_iff];by_cases h2:0<(c.Choices.length:Int)
  ·right;cases hd:pV 0 ((c.Parents.length:Int) - 1) [] c.Choices with
   | false=>rfl
   | true=>have:=aat _ _ hd (by omega); omega
  ·left; exact decide_eq_false h2
theorem XJ {l_:(List Int)} {x_:Int} (h1:l_.length≤1000000):W (Ma l_ x_) (fun r=>r=l_.contains x_):=by
 unfold Ma;refine bD (fun (g1:Int)=>0≤g1∧g1≤l_.length∧(l_.take g1.toNat).contains x_=false) (fun (g1:Int)=>(l_.length - g1).toNat) ?_ ?_
 ·intro self1 g1 hig1 ihg1;obtain ⟨hg1_1,hg1_2,hg1_3⟩:=hig1;unfold Ng;refine aD (fun c1=>?_) (fun c1=>?_)
  ·have c1:=nr c1;refine wn ?_;refine aD (fun c2=>?_) (fun c2=>?_)
   ·have c2:=nr c2;refine ak ?_;(exact (List.elem_eq_true_of_mem (by rw [← c2]; exact getD_in 0 (by omega))).symm)
   ·have c2:=nr c2;refine wn ?_;refine ihg1 _ ?_ ?_
    ·(refine ⟨by exact ob,by exact ob,?_⟩; rw [show (g1+1).toNat=g1.toNat+1 by omega,jW 0 (by omega)]; exact XI hg1_3 c2)
    ·exact ob
  ·have c1:=nr c1;refine ak ?_;(rw [show g1.toNat=l_.length by omega,List.take_length] at hg1_3; exact hg1_3.symm)
 ·(refine ⟨by exact ob,by exact ob,rfl⟩)
theorem TB {a_:(List Int)} {b_:(List Int)} (h1:a_.length≤1000000):W (zA a_ b_) (fun r=>r=(a_==b_)):=by
 unfold zA;refine aD (fun c1=>?_) (fun c1=>?_)
 ·have c1:=nr c1;refine ak ?_;(exact (vD c1).symm)
 ·have c1:=nr c1;refine bD (fun (g1:Int)=>0≤g1∧g1≤a_.length∧(a_==b_)=(a_.drop g1.toNat==b_.drop g1.toNat)) (fun (g1:Int)=>(a_.length - g1).toNat) ?_ ?_
  ·intro self1 g1 hig1 ihg1;obtain ⟨hg1_1,hg1_2,hg1_3⟩:=hig1;unfold Im;refine aD (fun c2=>?_) (fun c2=>?_)
   ·have c2:=nr c2;rw [drop_cons 0 (show g1.toNat<a_.length by omega),drop_cons 0 (show g1.toNat<b_.length by omega)] at hg1_3;refine wn ?_;refine wn ?_;refine aD (fun c3=>?_) (fun c3=>?_)
    ·have c3:=nr c3;refine ak ?_;(rw [hg1_3,Mg c3])
    ·have c3:=nr c3;refine wn ?_;refine ihg1 _ ?_ ?_
     ·(refine ⟨by exact ob,by exact ob,?_⟩; rw [hg1_3,Mh c3,show (g1+1).toNat=g1.toNat+1 by omega])
     ·exact ob
   ·have c2:=nr c2;refine ak ?_;(rw [hg1_3,List.drop_eq_nil_of_le (by omega),List.drop_eq_nil_of_le (by omega)]; rfl)
  ·(refine ⟨by exact ob,by exact ob,rfl⟩)
theorem p9 {l_:(List Int)} {lo_:Int} {hi_:Int} (h1:l_.length≤1000000):W (iR l_ lo_ hi_) (fun r=>r=pV lo_ hi_ [] l_):=by
 unfold iR;refine bD (fun (g1:Int)=>0≤g1∧g1≤l_.length∧pV lo_ hi_ (l_.take g1.toNat) (l_.drop g1.toNat)=pV lo_ hi_ [] l_) (fun (g1:Int)=>(l_.length - g1).toNat) ?_ ?_
 ·intro self1 g1 hig1 ihg1;obtain ⟨hg1_1,hg1_2,hg1_3⟩:=hig1;unfold wu;refine aD (fun c1=>?_) (fun c1=>?_)
  ·have c1:=nr c1;rw [drop_cons 0 (show g1.toNat<l_.length by omega)] at hg1_3;refine wn ?_;refine wn ?_;refine ay (dF fun hc=>iJ (XJ ob)) fun v3 hv3=>?_;subst v3;refine aD (fun c2=>?_) (fun c2=>?_)
   ·have c2o:=c2;have c2:=nr c2;rw [TA] at c2o;refine ak ?_;(rw [← hg1_3,Mc (pre:=l_.take g1.toNat) (n:=l_.getD g1.toNat 0) c2o])
   ·have c2o:=c2;have c2:=nr c2;rw [TA] at c2o;refine wn ?_;refine ihg1 _ ?_ ?_
    ·(refine ⟨by exact ob,by exact ob,?_⟩; rw [← hg1_3,QW (pre:=l_.take g1.toNat) (n:=l_.getD g1.toNat 0) c2o,show (g1+1).toNat=g1.toNat+1 by omega,jW 0 (by omega)])
    ·exact ob
  ·have c1:=nr c1;refine ak ?_;(rw [← hg1_3,List.drop_eq_nil_of_le (by omega)]; rfl)
 ·(refine ⟨by exact ob,by exact ob,rfl⟩)
theorem Lu {c_:av} (h1:c_.Parents.length≤1000000) (h2:c_.Choices.length≤1000000):W (rM c_) (fun r=>r=eO c_):=by
 unfold rM;refine aD (fun c1=>?_) (fun c1=>?_)
 ·have c1o:=c1;have c1:=nr c1;refine bV (by (intro hc; simp only [Bool.and_eq_true,beq_iff_eq] at hc; omega)) ?_;refine bV (by (intro hc; simp only [Bool.and_eq_true,beq_iff_eq] at hc; omega)) ?_;refine ak ?_;(unfold eO; rw [c1o]; simp only [cond_true]; unfold withinF; rw [Bool.and_assoc])
 ·have c1o:=c1;have c1:=nr c1;refine aD (fun c2=>?_) (fun c2=>?_)
  ·have c2o:=c2;have c2:=nr c2;refine aD (fun c3=>?_) (fun c3=>?_)
   ·have c3o:=c3;have c3:=nr c3;refine ay (dF fun hc=>iJ (p9 ob)) fun v1 hv1=>?_;subst v1;refine ak ?_;(unfold eO; rw [c1o,c2o,Vd]; rfl)
   ·have c3o:=c3;have c3:=nr c3;rw [c2o] at c3o; cases c3o
  ·have c2o:=c2;have c2:=nr c2;refine aD (fun c4=>?_) (fun c4=>?_)
   ·have c4o:=c4;have c4:=nr c4;refine ay (dF fun hc=>iJ (p9 ob)) fun v4 hv4=>?_;subst v4;refine ak ?_;(unfold eO; rw [c1o,c2o,c4o,Vd]; rfl)
   ·have c4o:=c4;have c4:=nr c4;refine aD (fun c5=>?_) (fun c5=>?_)
    ·have c5o:=c5;have c5:=nr c5;refine wn ?_;refine ay (dF fun hc=>iJ (p9 ob)) fun v5 hv5=>?_;subst v5;refine ak ?_;(unfold eO; rw [c1o,c2o,c4o,c5o,Vd c_.Choices.length]; exact ads)
    ·have c5o:=c5;have c5:=nr c5;refine aD (fun c6=>?_) (fun c6=>?_)
     ·have c6o:=c6;have c6:=nr c6;refine aD (fun c7=>?_) (fun c7=>?_)
      ·have c7o:=c7;have c7:=nr c7;refine ay (dF fun hc=>iJ (TB ob)) fun v6 hv6=>?_;subst v6;refine ak ?_;(unfold eO; rw [c1o,c2o,c4o,c5o,c6o]; rfl)
      ·have c7o:=c7;have c7:=nr c7;refine ak ?_;(unfold eO; rw [c1o,c2o,c4o,c5o,c6o,show ((c_.Parents.length:Int)==1)=false by simpa using c7o]; rfl)
     ·have c6o:=c6;have c6:=nr c6;refine ak ?_;(unfold eO; rw [c1o,c2o,c4o,c5o,c6o]; rfl)
theorem Lv {l_:(List av)} (h1:l_.length≤1000) (h2:Wm l_):W (rO l_) (fun r=>r=dV l_):=by
 unfold rO;refine bD (fun (g1:(Int×(List Int)))=>0≤g1.1∧g1.1≤l_.length∧g1.2=dV (l_.take g1.1.toNat)) (fun (g1:(Int×(List Int)))=>(l_.length - g1.1).toNat) ?_ ?_
 ·intro self1 g1 hig1 ihg1;obtain ⟨hg1_1,hg1_2,hg1_3⟩:=hig1;unfold zC;have hfb:=gQ (l_.take g1.1.toNat);rw [take_len (by omega),← hg1_3] at hfb;refine aD (fun c1=>?_) (fun c1=>?_)
  ·have c1:=nr c1;obtain ⟨hp1,hp2⟩:=h2 g1.1.toNat (by omega);refine wn ?_;refine bD (fun (g6:(Int×Int))=>0≤g6.2∧g6.2≤(l_.getD g1.1.toNat au).Parents.length∧g6.1=je g1.2 ((l_.getD g1.1.toNat au).Parents.take g6.2.toNat)) (fun (g6:(Int×Int))=>((l_.getD g1.1.toNat au).Parents.length - g6.2).toNat) ?_ ?_
   ·intro self6 g6 hig6 ihg6;obtain ⟨hg6_1,hg6_2,hg6_3⟩:=hig6;unfold zB;have hpm:=AJ g1.2 g1.1.toNat (by omega) hfb.2 ((l_.getD g1.1.toNat au).Parents.take g6.2.toNat);rw [← hg6_3] at hpm;refine aD (fun c2=>?_) (fun c2=>?_)
    ·have c2:=nr c2;have hx:=hp2 _ (getD_in (i:=g6.2.toNat) 0 (by omega));refine wn ?_;refine wn ?_;refine wn ?_;refine ihg6 _ ?_ ?_
     ·(refine ⟨by exact ob,by exact ob,?_⟩; dsimp only; rw [show (g6.2+1).toNat=g6.2.toNat+1 by omega]; unfold je; rw [oh _ _ 0 (by omega),hg6_3]; rfl)
     ·exact ob
    ·have c2:=nr c2;have hpe:g6.1=je g1.2 (l_.getD g1.1.toNat au).Parents:=(by rw [hg6_3,show g6.2.toNat=(l_.getD g1.1.toNat au).Parents.length by omega,List.take_length]);refine aD (fun c3=>?_) (fun c3=>?_)
     ·have c3o:=c3;have c3:=nr c3;refine wn ?_;unfold jF;refine wn ?_;refine wn ?_;refine ihg1 _ ?_ ?_
      ·(refine ⟨by exact ob,by exact ob,?_⟩; dsimp only; rw [show (g1.1+1).toNat=g1.1.toNat+1 by omega,jW au (by omega),vM,← hg1_3]; unfold AB GU; rw [c3o,hpe]; rfl)
      ·exact ob
     ·have c3o:=c3;have c3:=nr c3;unfold jF;refine wn ?_;refine wn ?_;refine ihg1 _ ?_ ?_
      ·(refine ⟨by exact ob,by exact ob,?_⟩; dsimp only; rw [show (g1.1+1).toNat=g1.1.toNat+1 by omega,jW au (by omega),vM,← hg1_3]; unfold AB GU; rw [c3o,hpe]; rfl)
      ·exact ob
   ·(refine ⟨by exact ob,by exact ob,rfl⟩)
  ·have c1:=nr c1;refine ak ?_;(rw [hg1_3,show g1.1.toNat=l_.length by omega,List.take_length])
 ·(refine ⟨by exact ob,by exact ob,rfl⟩)
theorem Gp {l_:(List av)} (h1:l_.length≤1000000):W (sN l_) (fun r=>r=bW l_):=by
 unfold sN;refine aD (fun c1=>?_) (fun c1=>?_)
 ·have c1o:=c1;have c1:=nr c1;refine ak ?_;(unfold bW; rw [c1o]; rfl)
 ·have c1o:=c1;have c1:=nr c1;refine bD (fun (g1:Int)=>0≤g1∧g1≤l_.length∧(∀j:Nat,(j:Int)<g1→bigC (l_.getD j au)=false)) (fun (g1:Int)=>(l_.length - g1).toNat) ?_ ?_
  ·intro self1 g1 hig1 ihg1;obtain ⟨hg1_1,hg1_2,hg1_3⟩:=hig1;unfold DN;refine aD (fun c2=>?_) (fun c2=>?_)
   ·have c2:=nr c2;refine wn ?_;refine aD (fun c3=>?_) (fun c3=>?_)
    ·have c3o:=c3;have c3:=nr c3;refine ak ?_;(unfold bW; rw [pX (p:=bigC) au (show g1.toNat<l_.length by omega) (show bigC _=true from c3o),Bool.or_true]; rfl)
    ·have c3o:=c3;have c3:=nr c3;refine wn ?_;refine ihg1 _ ?_ ?_
     ·(refine ⟨by exact ob,by exact ob,fJ hg1_3 hg1_1 c3o⟩)
     ·exact ob
   ·have c2:=nr c2;have hb4:∀i:Nat,i<l_.length→bigC (l_.getD i au)=false:=fun j hj=>hg1_3 j (by omega);have hbig:=any_none (p:=bigC) au hb4;have hb3:(decide (16<(l_.length:Int))||l_.any bigC)=false:=(by rw [c1o,hbig]; rfl);refine bD (fun (g2:(Int×Int))=>0≤g2.2∧g2.2≤l_.length∧g2.1=jo (l_.take g2.2.toNat)∧(∀j:Nat,(j:Int)<g2.2→iI (l_.getD j au) j=true)) (fun (g2:(Int×Int))=>(l_.length - g2.2).toNat) ?_ ?_
    ·intro self2 g2 hig2 ihg2;obtain ⟨hg2_1,hg2_2,hg2_3,hg2_4⟩:=hig2;unfold BH;refine aD (fun c4=>?_) (fun c4=>?_)
     ·have c4:=nr c4;have hlt:g2.2.toNat<l_.length:=(by omega);have hbl:=Ee (hb4 g2.2.toNat hlt);refine wn ?_;refine bD (fun (g5:Int)=>0≤g5∧g5≤(l_.getD g2.2.toNat au).Parents.length∧(∀j:Nat,(j:Int)<g5→withinF ((l_.getD g2.2.toNat au).Parents.getD j 0) 0 (g2.2.toNat - 1)=true)) (fun (g5:Int)=>((l_.getD g2.2.toNat au).Parents.length - g5).toNat) ?_ ?_
      ·intro self5 g5 hig5 ihg5;obtain ⟨hg5_1,hg5_2,hg5_3⟩:=hig5;unfold BF;refine aD (fun c5=>?_) (fun c5=>?_)
       ·have c5:=nr c5;refine wn ?_;refine aD (fun c6=>?_) (fun c6=>?_)
        ·have c6:=nr c6;refine ak ?_;(unfold bW; rw [hb3,GV hlt (JR (j:=g5.toNat) (by omega) (by rw [← Bool.not_eq_true,within_iff]; omega))]; rfl)
        ·have c6:=nr c6;refine wn ?_;refine ihg5 _ ?_ ?_
         ·(refine ⟨by exact ob,by exact ob,fJ hg5_3 hg5_1 (by rw [within_iff]; omega)⟩)
         ·exact ob
       ·have c5:=nr c5;have hvr:=SF (k:=(g2.2.toNat:Int)) (fun j hj=>hg5_3 j (by omega));refine ay (Lu ob ob) fun v3 hv3=>?_;subst v3;refine aD (fun c7=>?_) (fun c7=>?_)
        ·have c7o:=c7;have c7:=nr c7;rw [c7o] at hvr;refine ak ?_;(unfold bW; rw [hb3,GV hlt hvr]; rfl)
        ·have c7o:=c7;have c7:=nr c7;rw [c7o] at hvr;have hpm:=YQ (l_.take g2.2.toNat) (l_.getD g2.2.toNat au).Choices.length (by omega);rw [← hg2_3] at hpm;refine wn ?_;refine wn ?_;refine ihg2 _ ?_ ?_
         ·(refine ⟨by exact ob,by exact ob,?_,fJ hg2_4 hg2_1 hvr⟩; dsimp only; rw [show (g2.2+1).toNat=g2.2.toNat+1 by omega]; unfold jo; rw [oh _ _ au hlt]; rw [hg2_3]; rfl)
         ·exact ob
      ·(refine ⟨by exact ob,by exact ob,fun j hj=>by omega⟩)
     ·have c4:=nr c4;have hva:∀i:Nat,i<l_.length→iI (l_.getD i au) i=true:=fun j hj=>hg2_4 j (by omega);have hall:=P6 hva;have hfl:=(gQ l_).1;rw [show g2.2.toNat=l_.length by omega,List.take_length] at hg2_3;refine aD (fun c8=>?_) (fun c8=>?_)
      ·have c8o:=c8;have c8:=nr c8;refine ak ?_;(unfold bW; rw [hb3,hall,← hg2_3,c8o]; rfl)
      ·have c8o:=c8;have c8:=nr c8;refine ay (Lv (by omega) (SG hva hb4)) fun v4 hv4=>?_;subst v4;refine bD (fun (g6:Int)=>0≤g6∧g6≤(dV l_).length∧(∀j:Nat,(j:Int)<g6→(fun n=>decide (4<n)) ((dV l_).getD j 0)=false)) (fun (g6:Int)=>((dV l_).length - g6).toNat) ?_ ?_
       ·intro self6 g6 hig6 ihg6;obtain ⟨hg6_1,hg6_2,hg6_3⟩:=hig6;unfold BG;refine aD (fun c9=>?_) (fun c9=>?_)
        ·have c9:=nr c9;refine wn ?_;refine aD (fun c10=>?_) (fun c10=>?_)
         ·have c10o:=c10;have c10:=nr c10;refine ak ?_;(unfold bW; rw [hb3,hall,pX (p:=fun n=>decide (4<n)) 0 (show g6.toNat<(dV l_).length by omega) c10o,Bool.or_true]; rfl)
         ·have c10o:=c10;have c10:=nr c10;refine wn ?_;refine ihg6 _ ?_ ?_
          ·(refine ⟨by exact ob,by exact ob,fJ hg6_3 hg6_1 c10o⟩)
          ·exact ob
        ·have c9:=nr c9;refine ak ?_;(unfold bW; rw [hb3,hall,← hg2_3,c8o,any_none (p:=fun n=>decide (4<n)) 0 (fun j hj=>hg6_3 j (by omega))]; rfl)
       ·(refine ⟨by exact ob,by exact ob,fun j hj=>by omega⟩)
    ·(refine ⟨by exact ob,by exact ob,rfl,fun j hj=>by dsimp only at hj; omega⟩)
  ·(refine ⟨by exact ob,by exact ob,fun j hj=>by omega⟩)
end Go.Proofs.YtfblhejmclcdmaaGreatDoor

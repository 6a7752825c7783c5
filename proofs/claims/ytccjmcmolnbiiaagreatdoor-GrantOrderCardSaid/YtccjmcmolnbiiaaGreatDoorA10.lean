/-
  Proved: the law bringuplaw33.GrantOrder returns true at every input and leaves its argument as it was; the card ties the package variable clock.off to the program's text. No condition beyond the card's own.
-/
import Derived.Test.YtccjmcmolnbiiaaGreatDoorA9
import Derived.Test.YtccjmcmolnbiiaaGreatDoorA7
import Derived.Test.YtccjmcmolnbiiaaGreatDoorA6
import Derived.Test.YtccjmcmolnbiiaaGreatDoorA8
set_option linter.unusedVariables false
set_option linter.unusedSimpArgs false
namespace Go.Proofs.YtccjmcmolnbiiaaGreatDoor
open Go.Ab
set_option maxRecDepth 100000
def jn {α:Type} (f:aK→List α) (l:List aK) (ms:List Int):List α:=ms.flatMap fun m=>f (l.getD m.toNat bq)
theorem ahy {α:Type} {f:aK→List α} {l:List aK} {ms:List Int} {i:Nat} (h:i<ms.length):jn f l (ms.take (i+1))=jn f l (ms.take i)++f (l.getD (ms.getD i 0).toNat bq):=by
 unfold jn;rw [iC 0 h,List.flatMap_append,List.flatMap_cons,List.flatMap_nil,List.append_nil]
theorem RS {α:Type} {f:aK→List α} {l:List aK} {c:Nat}:∀ {ms:List Int},(∀m∈ms,(f (l.getD m.toNat bq)).length≤c)→(jn f l ms).length≤c*ms.length:=by
 intro ms;induction ms with
 | nil=>intro _; exact Nat.zero_le _
 | cons m ms ih=>
  intro h;have h1:=h m List.mem_cons_self;have h2:=ih fun x hx=>h x (List.mem_cons_of_mem _ hx);unfold jn at h2 ⊢;rw [List.flatMap_cons,List.length_append,List.length_cons,Nat.mul_succ];omega
theorem Uz {α:Type} {l:List aK} {ms:List Int} {of:aK→M (List α)} {f:aK→List α} {k:Nat} (hof:∀x,W (of x) (fun r=>r=f x)) (hf:∀x∈l,(f x).length≤2000000) (hin:∀m∈ms,0≤m∧m<l.length) (hm:ms.length≤10000) (hk:k≤64):W (cZ (fun (self:Int×List α→M (List α)) g1=>
 bif (decide (g1.1<(ms.length:Int))) then
  need (0≤g1.1∧g1.1<(ms.length:Int))<|
  bif ((decide ((0:Int)≤(ms.getD g1.1.toNat 0)))&&(decide ((ms.getD g1.1.toNat 0)<(l.length:Int)))) then
   need (0≤(ms.getD g1.1.toNat 0)∧(ms.getD g1.1.toNat 0)<(l.length:Int))<|
   bnd (of (l.getD ((ms.getD g1.1.toNat 0).toNat) bq)) fun v3=>
   need ((g1.2.length+v3.length)*k≤big)<|
   need (aF (g1.1+(1:Int)))<|
   self ((g1.1+(1:Int)),(g1.2++v3))
  else
   need (aF (g1.1+(1:Int)))<|
   self ((g1.1+(1:Int)),g1.2)
 else
  ret g1.2) ((0:Int),([]:List α))) (fun r=>r=jn f l ms):=by
 refine bF (fun g1:Int×List α=>0≤g1.1∧g1.1≤ms.length∧g1.2=jn f l (ms.take g1.1.toNat)) (fun g1=>(ms.length - g1.1).toNat) ?_ ⟨ob,ob,rfl⟩;intro self g1 ⟨h1,h2,h3⟩ ih;refine wi (fun c=>?_) (fun c=>?_)
 ·have hx:=hin _ (getD_in (i:=g1.1.toNat) 0 om);have hl:=RS (f:=f) (l:=l) (c:=2000000) (ms:=ms.take g1.1.toNat) fun m q=>hf _ (getD_in bq (by have:=hin m (List.mem_of_mem_take q); omega));rw [← h3,List.length_take] at hl;refine wn ?_;refine bV (fun c2=>?_) (fun c2=>by rw [decide_eq_true hx.1,decide_eq_true hx.2] at c2; cases c2);refine bC hx ?_;refine aH (hof _) fun v hv=>?_;have hv2:=hf _ (getD_in (i:=(ms.getD g1.1.toNat 0).toNat) bq om);rw [← hv] at hv2;have hb:(g1.2.length+v.length)*k≤(g1.2.length+v.length)*64:=Nat.mul_le_mul_left _ hk;refine bC (by unfold big; omega) ?_;refine wn ?_;exact ih _ ⟨ob,ob,by dsimp only; rw [show (g1.1+1).toNat=g1.1.toNat+1 by omega,ahy om,h3,hv]⟩ ob
 ·exact av (by rw [h3,List.take_of_length_le om])
def usF (n:aK):List Int:=bif decide (n.fP<0) then [] else [n.fP]
theorem ahz (n:aK):(usF n).length≤1:=by
 unfold usF;cases decide (n.fP<0)<;>simp
structure AgA (b:aR) (l:List aK) (ms:List Int) (us:List aS) (x:bL):Prop where
 st:aiO b.bQ (jn aK.bY l ms) x.dD
 ra:Sp.iH b.bB (jn aK.fD l ms)=(x.eZ,0)
 us:x.dZ=IV ms us
 re:Lst b.bg.length (agA b.bg) (jn aK.bg l ms) x.eu
 po:Lst b.cB.length (ak9 b.cB) (jn usF l ms) x.fA
def SmN (l:List aK):Prop:=∀x∈l,x.bY.length≤1∧x.fD.length≤1∧x.ak.length≤2
structure aa0 (b:aR) (l:List aK) (ms:List Int):Prop where
 df:EG l ms
 ml:ms.length≤5
 ft:∃t,VS b.bQ t∧fq b.bQ t (jn aK.bY l ms)=true
 le:(Sp.iH b.bB (jn aK.fD l ms)).2=0
theorem Z7 {l:List aK} {ms:List Int} (h:EG l ms):∀m∈ms,0≤m∧m<l.length:=jG 0 fun j hj=>(h j om).1
theorem J6 {l:List aK} {ms:List Int} (h:EG l ms) {m:Int} (hm:m∈ms):l.getD m.toNat bq∈l:=getD_in bq (by have:=Z7 h m hm; omega)
theorem Z8 {b_:aR} {l_:List aK} {ah:List Int} (h1:Gg b_) (h2:GSz b_.aQ) (h3:Rw l_) (hn:nY b_ l_ 0) (hd:EG l_ ah) (h4:ah.length≤10000):W (zT b_ l_ ah) (fun r=>r=0):=by
 unfold zT;refine aH (QE h1 h2 h3) fun v1 hv1=>?_;have e:=nY.fun _ _ hv1 hn;subst e;refine bV (fun c1=>by cases c1) (fun _=>?_);refine bF (fun g1:Int=>0≤g1) (fun g1=>(ah.length - g1).toNat) ?_ (Int.le_refl _);intro aj g1 a1 ih1;unfold MR;refine bV (fun c=>?_) (fun c=>av rfl);have c:=nr c;obtain ⟨hx,hk⟩:=hd g1.toNat om;refine wn ?_;refine bC (fun _=>by omega) ?_;have hz:(decide (ah.getD g1.toNat 0<0)||decide ((l_.length:Int)≤ah.getD g1.toNat 0))=false:=by
  rw [Bool.or_eq_false_iff,decide_eq_false_iff_not,decide_eq_false_iff_not]; omega
 refine aH (qy fun _=>Ca (mE (by rw [List.length_take]; omega))) fun v4 hv4=>?_;have e4:v4=false:=by
  rw [hv4 hz];cases q:(ah.take g1.toNat).contains (ah.getD g1.toNat 0) with
  | false=>rfl
  | true=>
   obtain ⟨k,k1,k2⟩:=(Gp om).1 q;exact absurd k2 (hk k k1)
 rw [hz,e4];refine bV (fun c2=>by cases c2) (fun _=>?_);exact bC ob (ih1 _ om om)
theorem UA {b:aR} {l:List aK} {ms:List Int} (hn:nY b l 0) (hs:SmN l) (hd:EG l ms) (h4:ms.length≤5):kY b.bQ (jn aK.bY l ms)=true∧(jn aK.bY l ms).length≤5:=by
 obtain ⟨hb,_,hnd⟩:=zI hn;have hl:=RS (f:=aK.bY) (l:=l) (c:=1) (ms:=ms) fun m hm=>(hs _ (J6 hd hm)).1;refine ⟨?_,om⟩;unfold kY;rw [hb.cl,decide_eq_true om,List.any_eq_false.2 fun x hx=>?_]
 ·rfl
 obtain ⟨m,hm,hx⟩:=List.mem_flatMap.1 hx;obtain ⟨x1,x2,x3,x4,x5⟩:=(hnd _ (J6 hd hm)).lm x hx;rw [aes];simp only [Bool.or_eq_true,decide_eq_true_eq];omega
theorem UC {b:aR} {l:List aK} {ms:List Int} (hn:nY b l 0) (hs:SmN l) (hd:EG l ms) (h4:ms.length≤5):Sp.ig b.bB (jn aK.fD l ms)=true∧(jn aK.fD l ms).length≤5:=by
 obtain ⟨hb,_,hnd⟩:=zI hn;have hl:=RS (f:=aK.fD) (l:=l) (c:=1) (ms:=ms) fun m hm=>(hs _ (J6 hd hm)).2.1;refine ⟨?_,om⟩;unfold Sp.ig;rw [hb.su,decide_eq_true om,List.any_eq_false.2 fun x hx=>?_]
 ·rfl
 obtain ⟨m,hm,hx⟩:=List.mem_flatMap.1 hx;obtain ⟨x1,x2,x3,x4,x5,x6,x7⟩:=(hnd _ (J6 hd hm)).dw x hx;unfold Sp.Zx Sp.dJ;simp only [Bool.or_eq_true,Bool.not_eq_true',Bool.and_eq_false_iff,decide_eq_false_iff_not];omega
theorem ahA {b:aR} {l:List aK} (h:nY b l 0):Eh b.aQ 0∧RsA b.bg 0∧DmA b.cB 0:=by
 obtain ⟨h1,_⟩:=Od h;obtain ⟨_,h3⟩:=Od h1;obtain ⟨_,h4⟩:=Od h3;obtain ⟨b3,h5⟩:=Od h4;exact ⟨b3,Od h5⟩
theorem Z9 {b_:aR} {l_:List aK} {ms_:List Int} {jU:List aS} (h1:Gg b_) (h3:Rw l_) (hn:nY b_ l_ 0) (hs:SmN l_) (ha:aa0 b_ l_ ms_) (h5:jU.length≤2000000):W (qW b_ l_ ms_ jU) (fun r=>r.2.2.2.2.2.2.1=0∧AgA b_ l_ ms_ jU ⟨r.1,⟨r.2.1,r.2.2.1⟩,r.2.2.2.2.2.2.2,r.2.2.2.1,r.2.2.2.2.1⟩):=by
 obtain ⟨z1,z2,z3,z4,z5,z6,z7⟩:=h1;obtain ⟨hd,h4,hft,hle⟩:=ha;have hin:=Z7 hd;obtain ⟨hb,_,hnd⟩:=zI hn;obtain ⟨_,hra,hda⟩:=ahA hn;obtain ⟨hlb,hll⟩:=UA hn hs hd h4;obtain ⟨hdb,hdl⟩:=UC hn hs hd h4;have hfl:=RS (f:=aK.ak) (l:=l_) (c:=2) (ms:=ms_) fun m hm=>(hs _ (J6 hd hm)).2.2;have hul:=RS (f:=usF) (l:=l_) (c:=1) (ms:=ms_) fun m _=>ahz _;have hrl:=RS (f:=aK.bg) (l:=l_) (c:=2000000) (ms:=ms_) fun m hm=>(h3.nd _ (J6 hd hm)).1;unfold qW;refine aH (P:=fun r=>r=jn aK.bY l_ ms_) (aH (Uz (k:=24) (of:=Dq) (f:=aK.bY) (fun x=>av rfl) (fun x hx=>by have:=(hs x hx).1; omega) hin om om) fun _ h=>av h) fun v1 hv1=>?_;refine aH (P:=fun r=>r=jn aK.fD l_ ms_) (aH (Uz (k:=32) (of:=F5) (f:=aK.fD) (fun x=>av rfl) (fun x hx=>by have:=(hs x hx).2.1; omega) hin om om) fun _ h=>av h) fun v2 hv2=>?_;subst hv1 hv2;have hz:(decide ((32:Int)<(((jn aK.bY l_ ms_).length:Nat):Int))||decide ((32:Int)<(((jn aK.fD l_ ms_).length:Nat):Int)))=false:=by
  rw [Bool.or_eq_false_iff,decide_eq_false_iff_not,decide_eq_false_iff_not]; omega
 rw [hz];refine bV (fun _=>?_) (fun c=>by cases c);refine aH (P:=fun r=>r=jn aK.ak l_ ms_) (aH (Uz (k:=16) (of:=wB) (f:=aK.ak) (fun x=>av rfl) (fun x hx=>by have:=(hs x hx).2.2; omega) hin om om) fun _ h=>av h) fun v3 hv3=>?_;subst hv3;refine bV (fun c2=>by rw [Bool.false_or] at c2; have:=of_decide_eq_true c2; omega) (fun _=>?_);refine aH (XZ hlb hft) fun v4 ⟨e4,hv4⟩=>?_;rw [e4];refine bV (fun c3=>by cases c3) (fun _=>?_);refine aH (X3 z3 om) fun v5 hv5=>?_;have e5:v5.2=0:=by rw [hv5]; exact hle
 rw [e5];refine bV (fun c3=>by cases c3) (fun _=>?_);refine bF (fun g1:Int×List aS=>0≤g1.1∧g1.1≤jU.length∧g1.2=IV ms_ (jU.take g1.1.toNat)) (fun g1=>(jU.length - g1.1).toNat) ?_ ⟨ob,ob,rfl⟩;intro aj g1 ⟨a1,a2,a3⟩ ih1;have hl:g1.2.length≤g1.1.toNat:=by
  rw [a3]; unfold IV;exact Nat.le_trans (List.length_filter_le _ _) (by rw [List.length_take]; omega)
 unfold Ky;refine wi (fun c=>?_) (fun c=>?_)
 ·refine wn ?_;have hs:=zm (fun u:aS=>ms_.contains u.iE) jU bH (i:=g1.1.toNat) om;have e:(g1.1+1).toNat=g1.1.toNat+1:=by omega
  refine aH (Ca (mE om)) fun v8 CU=>?_;refine bV (fun c2=>?_) (fun c2=>?_)
  ·rw [c2] at CU;refine bC (by unfold big; omega) ?_;refine wn ?_;refine ih1 _ ⟨ob,ob,?_⟩ ob;dsimp only;unfold IV at a3 ⊢;rw [e,hs,← a3,if_pos CU.symm]
  ·rw [c2] at CU;refine wn ?_;refine ih1 _ ⟨ob,ob,?_⟩ ob;dsimp only;unfold IV at a3 ⊢;rw [e,hs,← a3,if_neg (by rw [← CU]; exact Bool.false_ne_true),List.append_nil]
 ·refine aH (Uz (k:=8) (of:=F6) (f:=aK.bg) (fun x=>av rfl) (fun x hx=>(h3.nd x hx).1) hin om om) fun v9 hv9=>?_;subst hv9;refine aH (X5 hra z6 om fun x hx=>?_) fun v10 EC=>?_
  ·obtain ⟨m,hm,hx⟩:=List.mem_flatMap.1 hx;exact (hnd _ (J6 hd hm)).rs x hx
  refine aH (Uz (k:=8) (of:=F7) (f:=usF) (fun x=>bV (fun c=>av (by unfold usF; rw [c]; rfl)) (fun c=>av (by unfold usF; rw [c]; rfl))) (fun x _=>by have:=ahz x; omega) hin om om) fun v11 acX=>?_;subst acX;refine aH (ac9 hda om fun x hx=>?_) fun v12 Vh=>?_
  ·obtain ⟨m,hm,hx⟩:=List.mem_flatMap.1 hx;have hdm:=(hnd _ (J6 hd hm)).dm;unfold usF at hx;cases q:decide ((l_.getD m.toNat bq).fP<0) with
   | true=>rw [q] at hx; cases hx
   | false=>
    rw [q] at hx;have:=of_decide_eq_false q;have hx:=List.mem_singleton.1 hx;omega
  refine av ⟨rfl,⟨hv4,?_,?_,EC,Vh⟩⟩
  ·dsimp only;rw [← hv5];exact Prod.ext rfl e5
  ·dsimp only;rw [a3,List.take_of_length_le om]
theorem Ev {b_:aR} {l_:List aK} {ms_:List Int} {g_:bL} (h1:Gg b_) (h2:GSz b_.aQ) (h3:Rw l_) (hn:nY b_ l_ 0) (hs:SmN l_) (ha:aa0 b_ l_ ms_) (h5:g_.dZ.length≤2000000):W (vJ b_ l_ ms_ g_) (fun r=>r.2.2=0∧AgA b_ l_ ms_ g_.dZ r.1):=by
 unfold vJ;refine aH (Z8 h1 h2 h3 hn ha.df (by have:=ha.ml; omega)) fun v1 hv1=>?_;subst hv1;refine bV (fun c=>by cases c) (fun _=>?_);exact aH (Z9 h1 h3 hn hs ha h5) fun v2 hv2=>av hv2
theorem Wm {l:List aI} {s:List Int} {m:List bK}:fq l s m=true↔kY l m=true∧kD l s=true∧ownB l (gD l s)=true∧∀x∈m,Rn (gD l s) x=false:=by
 unfold fq;rw [Bool.and_eq_true,Bool.and_eq_true,Bool.and_eq_true,Bool.not_eq_true',and_assoc];refine and_congr_right fun _=>and_congr_right fun _=>and_congr_right fun _=>?_;constructor
 ·intro h x hx;cases q:Rn (gD l s) x with
  | false=>rfl
  | true=>rw [List.any_eq_true.2 ⟨x,hx,q⟩] at h; cases h
 ·intro h;exact List.any_eq_false.2 fun x hx=>by rw [h x hx]; decide
theorem Dc {l:List aI} {s:List Int} {m m':List bK} (h:fq l s m=true) (hl:kY l m'=true) (hm:∀x∈m',x∈m):fq l s m'=true:=by
 obtain ⟨_,h2,h3,h4⟩:=Wm.1 h;exact Wm.2 ⟨hl,h2,h3,fun x hx=>h4 x (hm x hx)⟩
theorem ada {α:Type} {f:aK→List α} {l:List aK} {ms ms':List Int} (h:∀m∈ms',m∈ms):∀x∈jn f l ms',x∈jn f l ms:=fun x hx=>by
 obtain ⟨m,hm,hx⟩:=List.mem_flatMap.1 hx;exact List.mem_flatMap.2 ⟨m,h m hm,hx⟩
theorem ae2 {b:aR} {l:List aK} {ms ms':List Int} (hn:nY b l 0) (hs:SmN l) (hp:ms.Perm ms') (h1:EG l ms) (h2:ms.length≤5):Sp.iH b.bB (jn aK.fD l ms)=Sp.iH b.bB (jn aK.fD l ms'):=Sp.ags (hp.flatMap_right _) (UC hn hs h1 h2).1
theorem aiP {b:aR} {l:List aK} {ms ms':List Int} (hn:nY b l 0) (hs:SmN l) (ha:aa0 b l ms) (hp:ms.Perm ms') (hd:EG l ms'):aa0 b l ms':=by
 obtain ⟨h1,h2,⟨t,h3,h4⟩,h5⟩:=ha;have e:=hp.length_eq;refine ⟨hd,om,⟨t,h3,Dc h4 (UA hn hs hd om).1 (ada fun m hm=>hp.mem_iff.2 hm)⟩,?_⟩;rw [← ae2 hn hs hp h1 h2];exact h5
theorem aiQ {b:aR} {l:List aK} {ms:List Int} (hn:nY b l 0) (hs:SmN l) (ha:aa0 b l ms) (i:Nat):aa0 b l (ms.take i):=by
 obtain ⟨h1,h2,⟨t,h3,h4⟩,h5⟩:=ha;have hsub:∀(a c:List Int),a++c=ms→EG l a∧a.length+c.length≤5:=fun a c e=>by
  subst e;rw [List.length_append] at h2;refine ⟨fun i hi=>?_,h2⟩;have:=h1 i (by rw [List.length_append]; omega);rw [jr 0 om] at this;exact ⟨this.1,fun k hk=>by have:=this.2 k hk; rwa [jr 0 om] at this⟩
 have hd:EG l (ms.drop i):=fun j hj=>by
  rw [List.length_drop] at hj;have hg:∀k,(ms.drop i).getD k 0=ms.getD (i+k) 0:=fun k=>by
   rw [List.getD_eq_getElem?_getD,List.getElem?_drop,List.getD_eq_getElem?_getD]
  have:=h1 (i+j) om;rw [hg];exact ⟨this.1,fun k hk=>by rw [hg]; exact this.2 (i+k) om⟩
 obtain ⟨g1,g2⟩:=hsub (ms.take i) (ms.drop i) (List.take_append_drop i ms);refine ⟨g1,om,⟨t,h3,Dc h4 (UA hn hs g1 om).1 (ada fun m hm=>List.mem_of_mem_take hm)⟩,?_⟩;have e:jn aK.fD l ms=jn aK.fD l (ms.take i)++jn aK.fD l (ms.drop i):=by
  unfold jn;rw [← List.flatMap_append,List.take_append_drop]
 rw [e] at h5;have q1:=UC hn hs g1 om;have q2:=UC hn hs hd om;exact (Sp.agt q1.1 q2.1 om h5).1
theorem am8 {l:List aK} {ms:List Int} (h:EG l ms):EG l ms.reverse:=fun i hi=>by
 rw [List.length_reverse] at hi;have hg:∀k,k<ms.length→ms.reverse.getD k 0=ms.getD (ms.length - 1 - k) 0:=fun k hk=>by
  rw [List.getD_eq_getElem?_getD,List.getElem?_reverse hk,List.getD_eq_getElem?_getD]
 rw [hg i om];refine ⟨(h (ms.length - 1 - i) om).1,fun k hk=>?_⟩;rw [hg k om];exact fun e=>(h (ms.length - 1 - k) om).2 (ms.length - 1 - i) om e.symm
theorem alp {b:aR} {l:List aK} {ms ms':List Int} {us:List aS} {x y:bL} (hn:nY b l 0) (hs:SmN l) (ha:aa0 b l ms) (ha':aa0 b l ms') (hp:ms.Perm ms') (h:AgA b l ms us x) (h':AgA b l ms' us y):
  x.dD=y.dD∧x.eZ=y.eZ∧x.eu=y.eu∧x.fA=y.fA:=by
 have hm:∀ {α:Type} (f:aK→List α) (x:α),x∈jn f l ms↔x∈jn f l ms':=fun f x=>⟨ada (fun m hm=>hp.mem_iff.1 hm) x,ada (fun m hm=>hp.mem_iff.2 hm) x⟩
 refine ⟨h.st.uniq h'.st fun t=>Bool.eq_iff_iff.2 ⟨fun q=>Dc q (UA hn hs ha'.df ha'.ml).1 fun x hx=>(hm _ x).2 hx,fun q=>Dc q (UA hn hs ha.df ha.ml).1 fun x hx=>(hm _ x).1 hx⟩,?_,h.re.uniq h'.re (hm _),h.po.uniq h'.po (hm _)⟩;have:=h.ra;rw [ae2 hn hs hp ha.df ha.ml] at this;exact (Prod.mk.inj (this.symm.trans h'.ra)).1
theorem lu {p:Prop} {c:Int} {A:Int→Prop} (h:¬p) (a:A 0):JQ p c A 0:=.inr ⟨h,a⟩
theorem alq {b:aR} {l:List aK} {ms:List Int} {us:List aS} {x:bL} (hn:nY b l 0) (hs:SmN l) (ha:aa0 b l ms) (h:AgA b l ms us x) (ho:Rz b.aQ (x.dZ.map aS.mI)) (hf:amZ b l ms x):aeY b l ms x false 0:=by
 obtain ⟨hd,h4,_,_⟩:=ha;obtain ⟨s1,s2,s3⟩:=h.st;obtain ⟨hpa,hra,hda⟩:=ahA hn;obtain ⟨_,_,hnd⟩:=zI hn;obtain ⟨m1,m2,m3,m4⟩:=Wm.1 s2;have hmt:fq b.bQ x.dD []=true:=Dc s2 (by unfold kY; rw [(xg m1).1]; rfl) nofun;have hll:(Sp.iH b.bB (jn aK.fD l ms)).2=0:=by rw [h.ra]
 have hlr:=Sp.Pj hll;rw [h.ra] at hlr;have hmi:∀i:Nat,(i:Int)<ms.length→ms.getD i 0∈ms:=fun i hi=>getD_in 0 om;have hin:∀ {α:Type} (f:aK→List α) (i:Nat),(i:Int)<ms.length→∀x∈f (l.getD (ms.getD i 0).toNat bq),x∈jn f l ms:=fun f i hi x hx=>List.mem_flatMap.2 ⟨_,hmi i hi,hx⟩;refine lu (fun q=>q hn) (lu (fun q=>q ⟨hd,⟨by rw [s1.1],by rw [hlr.1],by rw [hlr.2],by rw [h.re.ln],by rw [h.po.ln]⟩,fun i hi=>s1.2 i (by rw [s1.1] at hi; omega),fun i hi=>?_⟩) (lu (by rw [hmt]; decide) (lu (fun q=>q fun i hi j hj=>?_) (lu ?_ (lu (fun q=>q ⟨hpa,ho⟩) (lu (fun q=>q hf) (lu (fun q=>q ⟨⟨hra,by rw [h.re.ln],fun i hi j hj e=>h.re.cl i hi e _ (getD_in 0 om)⟩,fun i hi j hj=>?_⟩) (lu (fun q=>q ⟨⟨hda,by rw [h.po.ln],fun i hi=>⟨fun e=>h.po.cl.al i hi e,fun e=>h.po.cl.pa i hi e⟩⟩,fun i hi e=>?_⟩) rfl))))))))
 ·have hu:=getD_in (l:=x.dZ) (i:=i) bH om;have hu2:x.dZ.getD i bH∈IV ms us:=by rw [← h.us]; exact hu
  have hx:=Z7 hd _ (List.contains_iff_mem.1 (List.mem_filter.1 hu2).2);omega
 ·have hx:=getD_in (l:=(l.getD (ms.getD i 0).toNat bq).bY) (i:=j) dn om;refine (RA hmt ((hnd _ (J6 hd (hmi i hi))).lm _ hx)).1 (Dc s2 ?_ fun y hy=>?_)
  ·obtain ⟨q1,q2,q3⟩:=xg m1;have:=Il m1 _ (hin aK.bY i hi _ hx);unfold kY;rw [q1,List.any_cons,List.any_nil,Bool.or_false];rw [show Lv b.bQ.length ⟨((l.getD (ms.getD i 0).toNat bq).bY.getD j dn).eU,((l.getD (ms.getD i 0).toNat bq).bY.getD j dn).Low,((l.getD (ms.getD i 0).toNat bq).bY.getD j dn).fK⟩=false from this];rfl
  ·rw [List.mem_singleton] at hy;rw [hy]; exact hin aK.bY i hi _ hx
 ·rcases Sp.yS (UC hn hs hd h4).1 with ⟨_,q⟩ | ⟨q,_⟩
  ·rw [h.ra] at q;have:=q.ok;show ¬ Sp.fq b.bB x.eZ (jn aK.fD l ms)=false;rw [this]; decide
  ·rw [h.ra] at q; exact absurd (Prod.mk.inj q).2 (by decide)
 ·exact h.re.mm _ (hin aK.bg i hi _ (getD_in 0 om))
 ·refine h.po.mm _ (hin usF i hi _ ?_);unfold usF;rw [decide_eq_false om];exact List.mem_singleton.2 rfl
theorem aac {b_:aR} {l_:List aK} {ah:List Int} {g_:bL} {bN:Int} (h1:Gg b_) (h2:GSz b_.aQ) (h3:Rw l_) (h4:ah.length≤10000) (h5:Xu g_):W (CK b_ l_ ah g_ bN) (fun r=>r=0→nY b_ l_ 0∧(Eh b_.aQ 0∧Rz b_.aQ (g_.dZ.map aS.mI))∧0≤bN∧bN<l_.length):=by
 unfold CK;refine aH (zH h1 h2 h3) fun v1 hv1=>?_;refine bV (fun c1=>?_) (fun c1=>?_)
 ·have c1:=nr c1;exact av fun e=>absurd e c1
 have c1:=nr c1;rw [c1] at hv1;have hl:=(zI hv1).2.1;refine aH (sD om om) fun v2 _=>?_;refine bV (fun c2=>av nofun) (fun c2=>?_);refine aH (P:=fun v=>v=true→Eh b_.aQ 0∧Rz b_.aQ (g_.dZ.map aS.mI)) ?_ fun v3 hv3=>?_
 ·unfold Nr;refine aH (XI h1 h2 h3 h4 h5) fun v hv=>av fun e=>?_;have e:v=0:=by simpa using e
  rw [e] at hv;exact am4 hv
 refine bV (fun c3=>av nofun) (fun c3=>?_);have c3:=nr c3;refine bV (fun c4=>av nofun) (fun c4=>?_);have c4:=nr c4;exact av fun _=>⟨hv1,hv3 c3,c4.1,c4.2⟩
theorem UD {α:Type} {l:List aK} {ms:List Int} {f:aK→List α} {k:Nat} (hf:∀x∈l,(f x).length≤2000000) (hin:∀m∈ms,0≤m∧m<l.length) (hm:ms.length≤10000) (hk:k≤64):W (cZ (fun (self:Int×List α→M (List α)) g1=>
 bif (decide (g1.1<(ms.length:Int))) then
  need (0≤g1.1∧g1.1<(ms.length:Int))<|
  bif ((decide ((0:Int)≤(ms.getD g1.1.toNat 0)))&&(decide ((ms.getD g1.1.toNat 0)<(l.length:Int)))) then
   need (0≤(ms.getD g1.1.toNat 0)∧(ms.getD g1.1.toNat 0)<(l.length:Int))<|
   need ((g1.2.length+(f (l.getD ((ms.getD g1.1.toNat 0).toNat) bq)).length)*k≤big)<|
   need (aF (g1.1+(1:Int)))<|
   self ((g1.1+(1:Int)),(g1.2++f (l.getD ((ms.getD g1.1.toNat 0).toNat) bq)))
  else
   need (aF (g1.1+(1:Int)))<|
   self ((g1.1+(1:Int)),g1.2)
 else
  ret g1.2) ((0:Int),([]:List α))) (fun r=>r=jn f l ms):=by
 refine bF (fun g1:Int×List α=>0≤g1.1∧g1.1≤ms.length∧g1.2=jn f l (ms.take g1.1.toNat)) (fun g1=>(ms.length - g1.1).toNat) ?_ ⟨ob,ob,rfl⟩;intro self g1 ⟨h1,h2,h3⟩ ih;refine wi (fun c=>?_) (fun c=>?_)
 ·have hx:=hin _ (getD_in (i:=g1.1.toNat) 0 om);have hl:=RS (f:=f) (l:=l) (c:=2000000) (ms:=ms.take g1.1.toNat) fun m q=>hf _ (getD_in bq (by have:=hin m (List.mem_of_mem_take q); omega));rw [← h3,List.length_take] at hl;have hv2:=hf _ (getD_in (i:=(ms.getD g1.1.toNat 0).toNat) bq om);have hb:(g1.2.length+(f (l.getD ((ms.getD g1.1.toNat 0).toNat) bq)).length)*k≤(g1.2.length+(f (l.getD ((ms.getD g1.1.toNat 0).toNat) bq)).length)*64:=Nat.mul_le_mul_left _ hk;refine wn ?_;refine bV (fun c2=>?_) (fun c2=>by rw [decide_eq_true hx.1,decide_eq_true hx.2] at c2; cases c2);refine bC hx ?_;refine bC (by unfold big; omega) ?_;refine wn ?_;exact ih _ ⟨ob,ob,by dsimp only; rw [show (g1.1+1).toNat=g1.1.toNat+1 by omega,ahy om,h3]⟩ ob
 ·exact av (by rw [h3,List.take_of_length_le om])
theorem Xd {l_:List Int} {x_:Int} (h:l_.length≤2000000):W (Ad l_ x_) (fun r=>r=l_.contains x_):=by
 unfold Ad;refine bF (fun g1:Int=>0≤g1∧∀j:Nat,(j:Int)<g1→l_.getD j 0≠x_) (fun g1=>(l_.length - g1).toNat) ?_ ⟨ob,fun j hj=>by omega⟩;intro aj g1 ⟨a1,a2⟩ ih1;unfold Nl;refine wi (fun c=>?_) (fun c=>?_)
 ·refine wn ?_;refine wi (fun c2=>?_) (fun c2=>?_)
  ·refine av (List.contains_iff_mem.2 ?_).symm;rw [← c2]; exact getD_in 0 om
  ·exact bC ob (ih1 _ ⟨om,dR a2 a1 c2⟩ om)
 ·refine av ?_;cases q:l_.contains x_ with
  | false=>rfl
  | true=>
   have:∀y∈l_,y≠x_:=jG 0 fun j hj=>a2 j om;exact absurd rfl (this _ (List.contains_iff_mem.1 q))
def FL (b:aR) (l:List aK) (ms:List Int):Prop:=(∃t,VS b.bQ t∧fq b.bQ t (jn aK.bY l ms)=true)∧(Sp.iH b.bB (jn aK.fD l ms)).2=0
theorem adb {l_:List aS} {M_:List Int} (h1:l_.length≤2000000) (h2:M_.length≤10000):W (OY l_ M_) (fun r=>r=IV M_ l_):=by
 unfold OY;refine bF (fun g1:Int×List aS=>0≤g1.1∧g1.1≤l_.length∧g1.2=IV M_ (l_.take g1.1.toNat)) (fun g1=>(l_.length - g1.1).toNat) ?_ ⟨ob,ob,rfl⟩;intro aj g1 ⟨a1,a2,a3⟩ ih1;have hl:g1.2.length≤g1.1.toNat:=by
  rw [a3]; unfold IV;exact Nat.le_trans (List.length_filter_le _ _) (by rw [List.length_take]; omega)
 unfold SY;refine wi (fun c=>?_) (fun c=>?_)
 ·have hs:=zm (fun u:aS=>M_.contains u.iE) l_ bH (i:=g1.1.toNat) om;have e:(g1.1+1).toNat=g1.1.toNat+1:=by omega
  refine wn ?_;refine aH (Xd om) fun v8 CU=>?_;refine bV (fun c2=>?_) (fun c2=>?_)
  ·rw [c2] at CU;refine bC (by unfold big; omega) ?_;refine wn ?_;refine ih1 _ ⟨ob,ob,?_⟩ ob;dsimp only;unfold IV at a3 ⊢;rw [e,hs,← a3,if_pos CU.symm]
  ·rw [c2] at CU;refine wn ?_;refine ih1 _ ⟨ob,ob,?_⟩ ob;dsimp only;unfold IV at a3 ⊢;rw [e,hs,← a3,if_neg (by rw [← CU]; exact Bool.false_ne_true),List.append_nil]
 ·exact av (by rw [a3,List.take_of_length_le om])
theorem aad {b_:aR} {l_:List aK} {M_:List Int} {g_:bL} (h1:Gg b_) (h2:GSz b_.aQ) (h3:Rw l_) (h4:M_.length≤10000) (h5:g_.dZ.length≤2000000):W (Fv b_ l_ M_ g_) (fun r=>Ga2 r∧r.2.2.2.2.2.2.2.length≤g_.dZ.length∧(r.2.2.2.2.2.2.1=0→r.2.2.2.2.2.2.2=IV M_ g_.dZ∧nY b_ l_ 0∧EG l_ M_∧FL b_ l_ M_)):=by
 obtain ⟨z1,z2,z3,z4,z5,z6,z7⟩:=id h1;unfold Fv;refine aH (zH h1 h2 h3) fun v1 hv1=>?_;refine bV (fun c1=>av ⟨zJ _ _,by simp,fun e=>by have c1:=nr c1; exact absurd e c1⟩) (fun c1=>?_);have c1:=nr c1;rw [c1] at hv1;obtain ⟨hb,hl12,hnd⟩:=zI hv1;refine aH (sD om om) fun v2 hv2=>?_;refine bV (fun c2=>av ⟨zJ _ _,by simp,nofun⟩) (fun c2=>?_);have c2:=nr c2;have hdf:=hv2.1 c2;have hin:=Z7 hdf;refine aH (UD (k:=24) (f:=aK.bY) (fun x hx=>by have:=(hnd x hx).ll; omega) hin h4 om) fun v3 hv3=>?_;refine aH (UD (k:=32) (f:=aK.fD) (fun x hx=>by have:=(hnd x hx).dl; omega) hin h4 om) fun v4 hv4=>?_;refine aH (qy (P:=fun _=>True) fun _=>FV (fun x hx=>(hnd x hx).fl) h4) fun v5 _=>?_;refine bV (fun c3=>av ⟨zJ _ _,by simp,nofun⟩) (fun c3=>?_);simp only [Bool.or_eq_false_iff] at c3;obtain ⟨⟨c3,c3'⟩,_⟩:=c3;have c3:=nr c3; have c3:=nr c3';refine aH (QC z1 om) fun v6 hv6=>?_;refine bV (fun c4=>av ⟨zJ _ _,by simp,nofun⟩) (fun c4=>?_);have c4:=nr c4;obtain ⟨hst,hft,hlb⟩:=hv6 c4;have hsl:=(Ed hst).1;refine aH (Sp.QB z3 om) fun v7 hv7=>?_;refine bV (fun c5=>av ⟨zJ _ _,by simp,nofun⟩) (fun c5=>?_);have c5:=nr c5;rw [hv7] at c5;have hle:=Sp.Pj c5;rw [← hv7] at hle;have hfl:FL b_ l_ M_:=⟨⟨v6.1,Ed hst,by rw [← hv3,JW hlb hst]; exact hft⟩,by rw [← hv4]; exact c5⟩;refine bF (fun g1:Int×List Int×List Int=>0≤g1.1∧g1.1≤M_.length∧g1.2.1.length≤2000000*g1.1.toNat∧g1.2.2.length≤g1.1.toNat) (fun g1=>(M_.length - g1.1).toNat) ?_ ⟨ob,ob,by simp,by simp⟩;intro aj g1 ⟨a1,a2,a3,a4⟩ ih1;unfold KS;refine wi (fun c=>?_) (fun c=>?_)
 ·have hm:=(hdf g1.1.toNat om).1;have hx:=(h3.nd _ (getD_in (i:=(M_.getD g1.1.toNat 0).toNat) bq om)).1;have e:(g1.1+1).toNat=g1.1.toNat+1:=by omega
  refine wn ?_;refine bC hm ?_;refine bC (by unfold big; omega) ?_;refine bC hm ?_;refine bV (fun c6=>?_) (fun c6=>?_)
  ·refine bC hm ?_;refine bC (by unfold big; omega) ?_;refine wn ?_;exact ih1 _ ⟨ob,ob,by dsimp only; rw [List.length_append,e]; omega,by dsimp only; rw [List.length_append,List.length_singleton,e]; omega⟩ ob
  ·refine wn ?_;exact ih1 _ ⟨ob,ob,by dsimp only; rw [List.length_append,e]; omega,by dsimp only; rw [e]; omega⟩ ob
 ·refine aH (Lj z6 om (by have:=hb.rs.len; omega)) fun v8 CU=>?_;refine aH (Xb om z7) fun v9 hv9=>?_;refine aH (adb h5 h4) fun v10 EC=>?_;have:=hb.rs.len;exact av ⟨⟨by dsimp only; omega,by dsimp only; omega,by dsimp only; omega,by dsimp only; omega,by dsimp only; omega⟩,by dsimp only; rw [EC]; exact List.length_filter_le _ _,fun _=>⟨EC,hv1,hdf,hfl⟩⟩
theorem Ll {l_:List aS} {M_:List Int} (h1:l_.length≤2000000) (h2:M_.length≤10000):W (wV l_ M_) (fun r=>r=IV M_ l_):=by
 unfold wV;refine bF (fun g1:Int×List aS=>0≤g1.1∧g1.1≤l_.length∧g1.2=IV M_ (l_.take g1.1.toNat)) (fun g1=>(l_.length - g1.1).toNat) ?_ ⟨ob,ob,rfl⟩;intro aj g1 ⟨a1,a2,a3⟩ ih1;have hl:g1.2.length≤g1.1.toNat:=by
  rw [a3]; unfold IV;exact Nat.le_trans (List.length_filter_le _ _) (by rw [List.length_take]; omega)
 unfold K5;refine wi (fun c=>?_) (fun c=>?_)
 ·have hs:=zm (fun u:aS=>M_.contains u.iE) l_ bH (i:=g1.1.toNat) om;have e:(g1.1+1).toNat=g1.1.toNat+1:=by omega
  refine wn ?_;refine aH (Xd om) fun v8 CU=>?_;refine bV (fun c2=>?_) (fun c2=>?_)
  ·rw [c2] at CU;refine bC (by unfold big; omega) ?_;refine wn ?_;refine ih1 _ ⟨ob,ob,?_⟩ ob;dsimp only;unfold IV at a3 ⊢;rw [e,hs,← a3,if_pos CU.symm]
  ·rw [c2] at CU;refine wn ?_;refine ih1 _ ⟨ob,ob,?_⟩ ob;dsimp only;unfold IV at a3 ⊢;rw [e,hs,← a3,if_neg (by rw [← CU]; exact Bool.false_ne_true),List.append_nil]
 ·exact av (by rw [a3,List.take_of_length_le om])
theorem UE {b_:aR} {l_:List aK} {M_:List Int} {g_:bL} (h1:Gg b_) (h2:GSz b_.aQ) (h3:Rw l_) (h4:M_.length≤10000) (h5:g_.dZ.length≤2000000):W (wW b_ l_ g_ M_) (fun r=>Ga2 r∧r.2.2.2.2.2.2.2.length≤g_.dZ.length∧(r.2.2.2.2.2.2.1=0→r.2.2.2.2.2.2.2=IV M_ g_.dZ∧nY b_ l_ 0∧EG l_ M_∧FL b_ l_ M_)):=by
 obtain ⟨z1,z2,z3,z4,z5,z6,z7⟩:=id h1;unfold wW;refine aH (zH h1 h2 h3) fun v1 hv1=>?_;refine bV (fun c1=>av ⟨zJ _ _,by simp,fun e=>by have c1:=nr c1; exact absurd e c1⟩) (fun c1=>?_);have c1:=nr c1;rw [c1] at hv1;obtain ⟨hb,hl12,hnd⟩:=zI hv1;refine aH (sD om om) fun v2 hv2=>?_;refine bV (fun c2=>av ⟨zJ _ _,by simp,nofun⟩) (fun c2=>?_);have c2:=nr c2;have hdf:=hv2.1 c2;have hin:=Z7 hdf;refine aH (UD (k:=24) (f:=aK.bY) (fun x hx=>by have:=(hnd x hx).ll; omega) hin h4 om) fun v3 hv3=>?_;refine aH (UD (k:=32) (f:=aK.fD) (fun x hx=>by have:=(hnd x hx).dl; omega) hin h4 om) fun v4 hv4=>?_;refine aH (qy (P:=fun _=>True) fun _=>FV (fun x hx=>(hnd x hx).fl) h4) fun v5 _=>?_;refine bV (fun c3=>av ⟨zJ _ _,by simp,nofun⟩) (fun c3=>?_);simp only [Bool.or_eq_false_iff] at c3;obtain ⟨⟨c3,c3'⟩,_⟩:=c3;have c3:=nr c3; have c3:=nr c3';refine aH (QC z1 om) fun v6 hv6=>?_;refine bV (fun c4=>av ⟨zJ _ _,by simp,nofun⟩) (fun c4=>?_);have c4:=nr c4;obtain ⟨hst,hft,hlb⟩:=hv6 c4;have hsl:=(Ed hst).1;refine aH (Sp.QB z3 om) fun v7 hv7=>?_;refine bV (fun c5=>av ⟨zJ _ _,by simp,nofun⟩) (fun c5=>?_);have c5:=nr c5;rw [hv7] at c5;have hle:=Sp.Pj c5;rw [← hv7] at hle;have hfl:FL b_ l_ M_:=⟨⟨v6.1,Ed hst,by rw [← hv3,JW hlb hst]; exact hft⟩,by rw [← hv4]; exact c5⟩;refine bF (fun g1:Int×List Int×List Int=>0≤g1.1∧g1.1≤M_.length∧g1.2.1.length≤2000000*g1.1.toNat∧g1.2.2.length≤g1.1.toNat) (fun g1=>(M_.length - g1.1).toNat) ?_ ⟨ob,ob,by simp,by simp⟩;intro aj g1 ⟨a1,a2,a3,a4⟩ ih1;unfold D9;refine wi (fun c=>?_) (fun c=>?_)
 ·have hm:=(hdf g1.1.toNat om).1;have hx:=(h3.nd _ (getD_in (i:=(M_.getD g1.1.toNat 0).toNat) bq om)).1;have e:(g1.1+1).toNat=g1.1.toNat+1:=by omega
  refine wn ?_;refine bC hm ?_;refine bC (by unfold big; omega) ?_;refine bC hm ?_;refine bV (fun c6=>?_) (fun c6=>?_)
  ·refine bC hm ?_;refine bC (by unfold big; omega) ?_;refine wn ?_;exact ih1 _ ⟨ob,ob,by dsimp only; rw [List.length_append,e]; omega,by dsimp only; rw [List.length_append,List.length_singleton,e]; omega⟩ ob
  ·refine wn ?_;exact ih1 _ ⟨ob,ob,by dsimp only; rw [List.length_append,e]; omega,by dsimp only; rw [e]; omega⟩ ob
 ·refine aH (Lj z6 om (by have:=hb.rs.len; omega)) fun v8 CU=>?_;refine aH (Xb om z7) fun v9 hv9=>?_;refine aH (Ll h5 h4) fun v10 EC=>?_;have:=hb.rs.len;exact av ⟨⟨by dsimp only; omega,by dsimp only; omega,by dsimp only; omega,by dsimp only; omega,by dsimp only; omega⟩,by dsimp only; rw [EC]; exact List.length_filter_le _ _,fun _=>⟨EC,hv1,hdf,hfl⟩⟩
theorem ade:ZH []:=fun i j _ h=>by simp at h; omega
theorem ae3 {l:List Int} {x:Int} (h:ZH l) (hx:∀y∈l,y<x):ZH (l++[x]):=by
 intro i j hij hj;rw [List.length_append,List.length_singleton] at hj;by_cases q:j<l.length
 ·rw [jr (i:=j) 0 q,jr (i:=i) 0 om]; exact h i j hij om
 ·rw [Go.Ab.jK (i:=j) 0 om,jr (i:=i) 0 om]; exact hx _ (getD_in 0 om)
def Xe (b:aR) (l:List bK):Prop:=l.length≤1∧∀y∈l,aaF b.bQ.length y
def agI (b:aR) (l:List aW):Prop:=l.length≤1∧∀y∈l,agu b.bB.length y
def alr (l:List ByteArray):Prop:=l.length≤2∧∀y∈l,N7 y
def ao8 (b:aR) (l:List Int):Prop:=l.length≤100∧∀y∈l,0≤y∧y<b.bg.length
def ao9 (k:Int) (l:List Int):Prop:=l.length≤100∧(∀p∈l,0≤p∧p<k)∧ZH l
structure NdG (b:aR) (k:Int) (x:aK):Prop where
 lm:Xe b x.bY
 dw:agI b x.fD
 fw:alr x.ak
 rs:ao8 b x.bg
 dm : -1≤x.fP∧x.fP<b.cB.length
 pr:ao9 k x.bT
theorem ae5 {b:aR}:Xe b []:=⟨Nat.zero_le _,nofun⟩
theorem ae6 {b:aR}:agI b []:=⟨Nat.zero_le _,nofun⟩
theorem als {b:aR} {x:bK} (h:aaF b.bQ.length x):Xe b [x]:=⟨Nat.le_refl _,fun y hy=>by rw [List.mem_singleton] at hy; rw [hy]; exact h⟩
theorem alu {b:aR} {x:aW} (h:agu b.bB.length x):agI b [x]:=⟨Nat.le_refl _,fun y hy=>by rw [List.mem_singleton] at hy; rw [hy]; exact h⟩
theorem alv:alr []:=⟨Nat.zero_le _,nofun⟩
theorem alx {k:Int}:ao9 k []:=⟨Nat.zero_le _,nofun,ade⟩
theorem UF {l:List Int} {lo hi:Int} (h:l.all (fun x=>decide (lo≤x)&&decide (x≤hi))=true) {r:Int} (hr:∃i:Nat,i<l.length∧r=l.getD i 0):lo≤r∧r≤hi:=by
 obtain ⟨i,h1,rfl⟩:=hr;have:=List.all_eq_true.1 h _ (getD_in 0 h1);simpa using this
theorem aqD {s:ByteArray} (h:(decide (0<s.size∧s.size≤16)&&(decide (97≤gI s 0∧gI s 0≤122)&&(List.range s.size).all fun j=>decide (gI s j=45∨(48≤gI s j∧gI s j≤57)∨(97≤gI s j∧gI s j≤122))))=true):N7 s:=by
 simp only [Bool.and_eq_true,decide_eq_true_eq,List.all_eq_true,List.mem_range] at h;exact ⟨h.1,h.2.1,fun j hj=>h.2.2 j om⟩
def agJ:List ByteArray:=[({ data:=#[117,97,114,116] }:ByteArray),({ data:=#[115,112,105] }:ByteArray),({ data:=#[105,50,99] }:ByteArray),({ data:=#[112,119,109] }:ByteArray)]
theorem aly:∀s∈agJ,N7 s:=by
 intro s hs;simp only [agJ,List.mem_cons,List.not_mem_nil,or_false] at hs;rcases hs with rfl | rfl | rfl | rfl<;>exact aqD (by decide)
theorem FX {n_:Int} {k_:Int} {dH:dz} (h1:0≤n_) (h2:n_≤1000) (h3:1≤k_) (h4:k_≤100) (h5:0≤dH.At) (h6:dH.L.length≤600):W (kV n_ k_ dH) (fun r=>r.1.length≤n_.toNat∧(∀p∈r.1,0≤p∧p<n_)∧ZH r.1∧0≤r.2.At∧r.2.L.length≤600):=by
 unfold kV;refine bF (fun (g1:(Int×(List Int)×Int×(List Int)))=>0≤g1.1∧g1.1≤n_∧0≤g1.2.2.1∧g1.2.1.length≤600∧(g1.2.2.2.length:Int)≤g1.1∧(∀p∈g1.2.2.2,0≤p∧p<g1.1)∧ZH g1.2.2.2) (fun (g1:(Int×(List Int)×Int×(List Int)))=>(n_ - g1.1).toNat) ?_ ?_
 ·intro aj g1 dQ bS;obtain ⟨dG,bE,bG,kC,Ec,K9,alz⟩:=dQ;unfold wN;refine wi (fun c1=>?_) (fun c1=>?_)
  ·refine aH (bW ob ob ob) fun v3 hv3=>?_;obtain ⟨Zp,abu,abv,akr,ap7⟩:=hv3;refine wn ?_;refine wi (fun c2=>?_) (fun c2=>?_)
   ·refine wm ?_;refine bS _ ?_ ?_
    ·(refine ⟨ob,ob,ob,ob,ob,fun p hp=>?_,ae3 alz fun p hp=>(K9 p hp).2⟩; dsimp only; rcases List.mem_append.1 hp with hp | hp; (have:=K9 p hp; omega); (rw [List.mem_singleton] at hp; omega))
    ·exact ob
   ·refine wn ?_;refine bS _ ?_ ?_
    ·(refine ⟨ob,ob,ob,ob,ob,fun p hp=>?_,alz⟩; have:=K9 p hp; dsimp only; omega)
    ·exact ob
  ·refine av ?_;(refine ⟨ob,fun p hp=>?_,alz,ob,ob⟩; have:=K9 p hp; omega)
 ·(refine ⟨ob,ob,ob,ob,ob,nofun,ade⟩)
theorem OA {jh:Int} {dH:dz} (h1:0≤jh) (h2:jh≤50) (h3:0≤dH.At) (h4:dH.L.length≤600):W (qE jh dH) (fun r=>r.1.length≤jh.toNat∧(∀y∈r.1,N7 y)∧0≤r.2.At∧r.2.L.length≤600):=by
 unfold qE;refine wn ?_;refine aH (bW ob ob ob) fun v1 hv1=>?_;obtain ⟨Ij,BN,Ik,K8,Nz⟩:=hv1;refine bF (fun (g1:(Int×(List Int)×Int×(List ByteArray)))=>0≤g1.1∧0≤g1.2.2.1∧g1.2.1.length≤600∧(g1.2.2.2.length:Int)+g1.1≤jh∧(∀y∈g1.2.2.2,N7 y)) (fun (g1:(Int×(List Int)×Int×(List ByteArray)))=>g1.1.toNat) ?_ ?_
 ·intro aj g1 dQ bS;obtain ⟨dG,bE,bG,kC,Ec⟩:=dQ;unfold zX;refine wi (fun c1=>?_) (fun c1=>?_)
  ·refine aH (kK) fun v6 hv6=>?_;subst v6;refine aH (Vf ob ob ob ob) fun v7 hv7=>?_;obtain ⟨anw,ap9,aqa⟩:=hv7;refine wm ?_;refine bS _ ?_ ?_
   ·(refine ⟨ob,ob,ob,ob,fun p hp=>?_⟩; dsimp only at hp; rcases List.mem_append.1 hp with hp | hp; (exact Ec p hp); (rw [List.mem_singleton] at hp; rw [hp]; obtain ⟨i,hi,e⟩:=anw; rw [e]; exact aly _ (getD_in (l:=agJ) _ hi)))
   ·exact ob
  ·refine av ?_;(refine ⟨ob,Ec,ob,ob⟩)
 ·(refine ⟨ob,ob,ob,ob,nofun⟩)
theorem RU {b_:aR} {dH:dz} (h1:b_.bQ.length≤100) (h2:0<b_.bQ.length) (h3:0≤dH.At) (h4:dH.L.length≤600):W (um b_ dH) (fun r=>aaF b_.bQ.length r.1∧0≤r.2.At∧r.2.L.length≤600):=by
 unfold um;refine aH (bW ob ob ob) fun v1 hv1=>?_;obtain ⟨Ij,BN,Ik,K8,Nz⟩:=hv1;refine aH (gy ob ob ob ob) fun v2 hv2=>?_;obtain ⟨ael,ahj,akz⟩:=hv2;refine aH (gy ob ob ob ob) fun v3 hv3=>?_;obtain ⟨Zp,abu,abv⟩:=hv3;refine av ?_;(have a:=UF (lo:=0) (hi:=24) (by decide) ael; have b:=UF (lo:=24) (hi:=300) (by decide) Zp; exact ⟨⟨om,BN om,a.1,Int.le_trans a.2 b.1,Int.le_trans b.2 (by decide)⟩,ob,ob⟩)
theorem UG {b_:aR} {dH:dz} (h1:b_.bB.length≤100) (h2:0<b_.bB.length) (h3:0≤dH.At) (h4:dH.L.length≤600):W (wO b_ dH) (fun r=>agu b_.bB.length r.1∧0≤r.2.At∧r.2.L.length≤600):=by
 unfold wO;refine aH (bW ob ob ob) fun v1 hv1=>?_;obtain ⟨Ij,BN,Ik,K8,Nz⟩:=hv1;refine aH (gy ob ob ob ob) fun v2 hv2=>?_;obtain ⟨ael,ahj,akz⟩:=hv2;refine aH (gy ob ob ob ob) fun v3 hv3=>?_;obtain ⟨Zp,abu,abv⟩:=hv3;refine aH (gy ob ob ob ob) fun v4 hv4=>?_;obtain ⟨aks,akt,anv⟩:=hv4;refine av ?_;(have a:=UF (lo:=0) (hi:=1800) (by decide) ael; have b:=UF (lo:=1800) (hi:=5000) (by decide) Zp; have c:=UF (lo:=0) (hi:=200) (by decide) aks; exact ⟨⟨om,BN om,a.1,Int.le_trans a.2 b.1,b.2,c.1,Int.le_trans c.2 (by decide)⟩,ob,ob⟩)
theorem tY {b_:aR} {v1:(Int×dz)} {g1:(Int×(List Int)×Int×(List aK))} {aj:(Int×(List Int)×Int×(List aK))→M ((List aK)×dz)} {v46:(Int×dz)} {g14:((List Int)×Int×(List bK))} {g15:((List Int)×Int×(List aW))} {g16:((List Int)×Int×(List ByteArray))} {v53:((List Int)×dz)} {g18:((List Int)×Int×(List Int))} {Q:((List aK)×dz)→Prop} (bS:∀s':(Int×(List Int)×Int×(List aK)),(0≤s'.1∧s'.1≤v1.1∧0≤s'.2.2.1∧s'.2.1.length≤600∧(s'.2.2.2.length:Int)=s'.1∧(∀x∈s'.2.2.2,NdG b_ v1.1 x))→(v1.1 - s'.1).toNat<(v1.1 - g1.1).toNat→W (aj s') Q) (hc:0≤g18.2.1∧g18.1.length≤600∧ao9 v1.1 g18.2.2∧Xe b_ g14.2.2∧agI b_ g15.2.2∧alr g16.2.2∧ao8 b_ v53.1∧0≤g1.1∧g1.1<v1.1∧v1.1≤51∧(g1.2.2.2.length:Int)=g1.1∧(∀x∈g1.2.2.2,NdG b_ v1.1 x)∧(-1≤v46.1∧v46.1<b_.cB.length)):W (ko g1 aj v46 g14 g15 g16 v53 g18) Q:=by
 obtain ⟨ak5,ak6,TH,Pz,Vx,acZ,aiR,alA,alB,UH,Lm,abL,anL⟩:=hc;unfold ko;refine wm ?_;refine bS _ ?_ ?_
 ·(refine ⟨ob,ob,ob,ob,ob,fun x hx=>?_⟩; rcases List.mem_append.1 hx with hx | hx; (exact abL x hx); (rw [List.mem_singleton] at hx; subst hx; exact ⟨Pz,Vx,acZ,aiR,anL,TH⟩))
 ·exact ob
theorem tZ {b_:aR} {v1:(Int×dz)} {g1:(Int×(List Int)×Int×(List aK))} {aj:(Int×(List Int)×Int×(List aK))→M ((List aK)×dz)} {v46:(Int×dz)} {g14:((List Int)×Int×(List bK))} {g15:((List Int)×Int×(List aW))} {g16:((List Int)×Int×(List ByteArray))} {v53:((List Int)×dz)} {g19:(Int×(List Int)×Int)} {Q:((List aK)×dz)→Prop} (bS:∀s':(Int×(List Int)×Int×(List aK)),(0≤s'.1∧s'.1≤v1.1∧0≤s'.2.2.1∧s'.2.1.length≤600∧(s'.2.2.2.length:Int)=s'.1∧(∀x∈s'.2.2.2,NdG b_ v1.1 x))→(v1.1 - s'.1).toNat<(v1.1 - g1.1).toNat→W (aj s') Q) (hc:0≤g19.2.2∧g19.2.1.length≤600∧0≤g19.1∧g19.1≤51∧g19.1≤v1.1∧Xe b_ g14.2.2∧agI b_ g15.2.2∧alr g16.2.2∧ao8 b_ v53.1∧0≤g1.1∧g1.1<v1.1∧v1.1≤51∧(g1.2.2.2.length:Int)=g1.1∧(∀x∈g1.2.2.2,NdG b_ v1.1 x)∧(-1≤v46.1∧v46.1<b_.cB.length)):W (kr g1 aj v46 g14 g15 g16 v53 g19) Q:=by
 obtain ⟨ak5,ak6,TH,Pz,Vx,acZ,aiR,alA,alB,UH,Lm,abL,anL,aqE,aqF⟩:=hc;unfold kr;refine aH (FX ob ob ob ob ob ob) fun v60 atj=>?_;obtain ⟨atl,apa,apb,atm,atn⟩:=atj;exact tY (b_:=b_) (v1:=v1) (fun a b c=>bS a b c) (by (refine ⟨ob,ob,⟨ob,fun p hp=>(by have:=apa p hp; omega),apb⟩,acZ,aiR,alA,alB,ob,ob,ob,ob,aqE,aqF⟩))
theorem uf {b_:aR} {v1:(Int×dz)} {g1:(Int×(List Int)×Int×(List aK))} {aj:(Int×(List Int)×Int×(List aK))→M ((List aK)×dz)} {v46:(Int×dz)} {g14:((List Int)×Int×(List bK))} {g15:((List Int)×Int×(List aW))} {g16:((List Int)×Int×(List ByteArray))} {Q:((List aK)×dz)→Prop} (bS:∀s':(Int×(List Int)×Int×(List aK)),(0≤s'.1∧s'.1≤v1.1∧0≤s'.2.2.1∧s'.2.1.length≤600∧(s'.2.2.2.length:Int)=s'.1∧(∀x∈s'.2.2.2,NdG b_ v1.1 x))→(v1.1 - s'.1).toNat<(v1.1 - g1.1).toNat→W (aj s') Q) (hc:0≤g16.2.1∧g16.1.length≤600∧Xe b_ g14.2.2∧agI b_ g15.2.2∧alr g16.2.2∧b_.bg.length≤4∧0≤g1.1∧g1.1<v1.1∧v1.1≤51∧(g1.2.2.2.length:Int)=g1.1∧(∀x∈g1.2.2.2,NdG b_ v1.1 x)∧(-1≤v46.1∧v46.1<b_.cB.length)):W (ku b_ v1 g1 aj v46 g14 g15 g16) Q:=by
 obtain ⟨ak5,ak6,TH,Pz,Vx,acZ,aiR,alA,alB,UH,Lm,abL⟩:=hc;unfold ku;refine aH (FX ob ob ob ob ob ob) fun v53 ato=>?_;obtain ⟨atp,agK,atq,atr,att⟩:=ato;refine aH (bW ob ob ob) fun v58 atu=>?_;obtain ⟨atv,atw,atx,aty,atz⟩:=atu;refine wi (fun c1=>?_) (fun c1=>?_)
 ·refine aH (bW ob ob ob) fun v61 atA=>?_;obtain ⟨atB,atC,atE,atF,atG⟩:=atA;refine wi (fun c2=>?_) (fun c2=>?_)
  ·exact tZ (b_:=b_) (v1:=v1) (fun a b c=>bS a b c) (by (refine ⟨ob,ob,ob,ob,ob,TH,Pz,Vx,⟨om,agK⟩,ob,ob,ob,ob,Lm,abL⟩))
  ·exact tZ (b_:=b_) (v1:=v1) (fun a b c=>bS a b c) (by (refine ⟨ob,ob,ob,ob,ob,TH,Pz,Vx,⟨om,agK⟩,ob,ob,ob,ob,Lm,abL⟩))
 ·exact tY (b_:=b_) (v1:=v1) (fun a b c=>bS a b c) (by (refine ⟨ob,ob,alx,TH,Pz,Vx,⟨om,agK⟩,ob,ob,ob,ob,Lm,abL⟩))
theorem nJ {b_:aR} {v1:(Int×dz)} {g1:(Int×(List Int)×Int×(List aK))} {aj:(Int×(List Int)×Int×(List aK))→M ((List aK)×dz)} {v46:(Int×dz)} {g14:((List Int)×Int×(List bK))} {g15:((List Int)×Int×(List aW))} {Q:((List aK)×dz)→Prop} (bS:∀s':(Int×(List Int)×Int×(List aK)),(0≤s'.1∧s'.1≤v1.1∧0≤s'.2.2.1∧s'.2.1.length≤600∧(s'.2.2.2.length:Int)=s'.1∧(∀x∈s'.2.2.2,NdG b_ v1.1 x))→(v1.1 - s'.1).toNat<(v1.1 - g1.1).toNat→W (aj s') Q) (hc:0≤g15.2.1∧g15.1.length≤600∧Xe b_ g14.2.2∧agI b_ g15.2.2∧b_.bg.length≤4∧0≤g1.1∧g1.1<v1.1∧v1.1≤51∧(g1.2.2.2.length:Int)=g1.1∧(∀x∈g1.2.2.2,NdG b_ v1.1 x)∧(-1≤v46.1∧v46.1<b_.cB.length)):W (jw b_ v1 g1 aj v46 g14 g15) Q:=by
 obtain ⟨ak5,ak6,TH,Pz,Vx,acZ,aiR,alA,alB,UH,Lm⟩:=hc;unfold jw;refine aH (bW ob ob ob) fun v62 atH=>?_;obtain ⟨atI,atJ,atK,atL,atM⟩:=atH;refine wi (fun c1=>?_) (fun c1=>?_)
 ·refine aH (OA ob ob ob ob) fun v63 atN=>?_;obtain ⟨atO,apc,atP,atQ⟩:=atN;exact uf (fun a b c=>bS a b c) (by (refine ⟨ob,ob,TH,Pz,⟨ob,apc⟩,Vx,ob,ob,ob,ob,UH,Lm⟩))
 ·exact uf (fun a b c=>bS a b c) (by (refine ⟨ob,ob,TH,Pz,alv,Vx,ob,ob,ob,ob,UH,Lm⟩))
theorem oh {b_:aR} {v1:(Int×dz)} {g1:(Int×(List Int)×Int×(List aK))} {aj:(Int×(List Int)×Int×(List aK))→M ((List aK)×dz)} {v46:(Int×dz)} {g14:((List Int)×Int×(List bK))} {Q:((List aK)×dz)→Prop} (bS:∀s':(Int×(List Int)×Int×(List aK)),(0≤s'.1∧s'.1≤v1.1∧0≤s'.2.2.1∧s'.2.1.length≤600∧(s'.2.2.2.length:Int)=s'.1∧(∀x∈s'.2.2.2,NdG b_ v1.1 x))→(v1.1 - s'.1).toNat<(v1.1 - g1.1).toNat→W (aj s') Q) (hc:0≤g14.2.1∧g14.1.length≤600∧Xe b_ g14.2.2∧b_.bg.length≤4∧b_.bB.length≤3∧0≤g1.1∧g1.1<v1.1∧v1.1≤51∧(g1.2.2.2.length:Int)=g1.1∧(∀x∈g1.2.2.2,NdG b_ v1.1 x)∧(-1≤v46.1∧v46.1<b_.cB.length)):W (jF b_ v1 g1 aj v46 g14) Q:=by
 obtain ⟨ak5,ak6,TH,Pz,Vx,acZ,aiR,alA,alB,UH,Lm⟩:=hc;unfold jF;refine wi (fun c1=>?_) (fun c1=>?_)
 ·refine aH (bW ob ob ob) fun v64 hv64=>?_;obtain ⟨atS,atT,atU,atV,atW⟩:=hv64;refine wi (fun c2=>?_) (fun c2=>?_)
  ·refine aH (UG ob ob ob ob) fun v65 atX=>?_;obtain ⟨apd,atY,atZ⟩:=atX;refine wn ?_;exact nJ (fun a b c=>bS a b c) (by (refine ⟨ob,ob,TH,alu apd,Pz,ob,ob,ob,ob,UH,Lm⟩))
  ·exact nJ (fun a b c=>bS a b c) (by (refine ⟨ob,ob,TH,ae6,Pz,ob,ob,ob,ob,UH,Lm⟩))
 ·refine wn ?_;exact nJ (fun a b c=>bS a b c) (by (refine ⟨ob,ob,TH,ae6,Pz,ob,ob,ob,ob,UH,Lm⟩))
theorem OB {b_:aR} {jh:Int} {dH:dz} (h1:amx b_) (h2:0≤jh) (h3:jh≤50) (h4:0≤dH.At) (h5:dH.L.length≤600):W (qF b_ jh dH) (fun r=>r.1.length≤jh.toNat∧(∀x∈r.1,NdG b_ (r.1.length:Int) x)∧0≤r.2.At∧r.2.L.length≤600):=by
 obtain ⟨q1,q2,q3,q4,q5,q6,q7,q8,q9⟩:=h1;unfold qF;refine wn ?_;refine aH (bW ob ob ob) fun v1 hv1=>?_;obtain ⟨Ij,BN,Ik,K8,Nz⟩:=hv1;refine bF (fun (g1:(Int×(List Int)×Int×(List aK)))=>0≤g1.1∧g1.1≤v1.1∧0≤g1.2.2.1∧g1.2.1.length≤600∧(g1.2.2.2.length:Int)=g1.1∧(∀x∈g1.2.2.2,NdG b_ v1.1 x)) (fun (g1:(Int×(List Int)×Int×(List aK)))=>(v1.1 - g1.1).toNat) ?_ ?_
 ·intro aj g1 dQ bS;obtain ⟨dG,bE,bG,kC,Ec,K9⟩:=dQ;unfold zY;refine wi (fun c1=>?_) (fun c1=>?_)
  ·refine wn ?_;refine aH (ng ob ob ob ob ob ob) fun v46 agh=>?_;obtain ⟨at0,at1,at5,at6,at7⟩:=agh;refine wi (fun c2=>?_) (fun c2=>?_)
   ·refine aH (bW ob ob ob) fun v66 aua=>?_;obtain ⟨aub,auc,aud,aue,auf⟩:=aua;refine wi (fun c3=>?_) (fun c3=>?_)
    ·refine aH (RU ob ob ob ob) fun v67 aug=>?_;obtain ⟨ape,auh,aui⟩:=aug;refine wn ?_;exact oh (fun a b c=>bS a b c) (by (refine ⟨ob,ob,als ape,ob,ob,ob,ob,ob,ob,K9,om,om⟩))
    ·exact oh (fun a b c=>bS a b c) (by (refine ⟨ob,ob,ae5,ob,ob,ob,ob,ob,ob,K9,om,om⟩))
   ·refine wn ?_;exact oh (fun a b c=>bS a b c) (by (refine ⟨ob,ob,ae5,ob,ob,ob,ob,ob,ob,K9,om,om⟩))
  ·have hlen:(g1.2.2.2.length:Int)=v1.1:=by omega
   refine wi (fun c4=>?_) (fun c4=>?_)
   ·refine aH (bW ob ob ob) fun v68 auj=>?_;obtain ⟨auk,aul,aum,aun,auo⟩:=auj;refine wi (fun c5=>?_) (fun c5=>?_)
    ·refine wn ?_;refine bF (fun (g20:(Int×Int×(List aK)))=>0≤g20.1 ∧ -1≤g20.2.1∧g20.2.1<v1.1∧g20.1≤v1.1∧(g20.2.2.length:Int)=v1.1∧(∀x∈g20.2.2,NdG b_ v1.1 x)) (fun (g20:(Int×Int×(List aK)))=>(g20.2.1 - g20.1).toNat) ?_ ?_
     ·intro agb g20 aqG aqH;obtain ⟨aup,auq,aur,aus,aut,adf⟩:=aqG;unfold yx;refine wi (fun c6=>?_) (fun c6=>?_)
      ·refine wm ?_;refine wm ?_;refine wm ?_;refine aqH _ ?_ ?_
       ·(refine ⟨ob,ob,ob,ob,ob,acv (acv adf (adf _ (getD_in _ om))) (adf _ (getD_in _ om))⟩)
       ·exact ob
      ·refine bF (fun (g21:(Int×(List aK)))=>0≤g21.1∧(g21.2.length:Int)=v1.1∧(∀x∈g21.2,NdG b_ v1.1 x)) (fun (g21:(Int×(List aK)))=>(v1.1 - g21.1).toNat) ?_ ?_
       ·intro Zm g21 aqI aqJ;obtain ⟨auu,apf,agL⟩:=aqI;unfold yw;refine wi (fun c7=>?_) (fun c7=>?_)
        ·have q:=agL (g21.2.getD g21.1.toNat bq) (getD_in _ om);have qp:=q.pr.1;refine wm ?_;refine bF (fun (g24:(Int×(List Int))) => -1≤g24.1∧g24.1<(g21.2.getD g21.1.toNat bq).bT.length∧(g24.2.length:Int)+g24.1<(g21.2.getD g21.1.toNat bq).bT.length∧(∀p∈g24.2,0≤p∧p<v1.1)∧ZH g24.2∧(∀p∈g24.2,∀j:Nat,(j:Int)≤g24.1→p<v1.1 - 1 - (g21.2.getD g21.1.toNat bq).bT.getD j 0)) (fun (g24:(Int×(List Int)))=>(g24.1+1).toNat) ?_ ?_
         ·intro aga g24 aqK aqL;obtain ⟨auv,auw,auy,alC,alD,alE⟩:=aqK;unfold yu;refine wi (fun c8=>?_) (fun c8=>?_)
          ·have q2:=q.pr.2.1 _ (getD_in (i:=g24.1.toNat) 0 om);refine wm ?_;refine wm ?_;refine wm ?_;refine aqL _ ?_ ?_
           ·(refine ⟨ob,ob,ob,fun p hp=>?_,ae3 alD (fun p hp=>by have:=alE p hp g24.1.toNat om; omega),fun p hp j hj=>?_⟩; (rcases List.mem_append.1 hp with hp | hp; (exact alC p hp); (rw [List.mem_singleton] at hp; omega)); (dsimp only at hj; rcases List.mem_append.1 hp with hp | hp; (exact alE p hp j om); (rw [List.mem_singleton] at hp; have:=q.pr.2.2 j g24.1.toNat om om; omega)))
           ·exact ob
          ·refine wm ?_;refine aqJ _ ?_ ?_
           ·(refine ⟨ob,ob,acv agL ⟨q.lm,q.dw,q.fw,q.rs,q.dm,ob,alC,alD⟩⟩)
           ·exact ob
         ·(refine ⟨ob,ob,ob,nofun,ade,nofun⟩)
        ·refine av ?_;(refine ⟨ob,fun x hx=>?_,ob,ob⟩; have q:=agL x hx; rw [apf]; exact q)
       ·(refine ⟨ob,ob,adf⟩)
     ·(refine ⟨ob,ob,ob,ob,ob,K9⟩)
    ·refine av ?_;(refine ⟨ob,fun x hx=>?_,ob,ob⟩; have q:=K9 x hx; rw [hlen]; exact q)
   ·refine wn ?_;refine av ?_;(refine ⟨ob,fun x hx=>?_,ob,ob⟩; have q:=K9 x hx; rw [hlen]; exact q)
 ·(refine ⟨ob,ob,ob,ob,ob,nofun⟩)
theorem X6 {p_:bn} {l_:List ByteArray} {fH:List Int} (h1:∀g∈p_.aD,g.bO.length≤2000000∧g.ak.length≤2000000) (h2:p_.aD.length≤2000000) (h3:l_.length≤2000000) (hp:agz p_) (hg:ac2 p_ l_ fH) (hgl:fH.length≤l_.length):W (CP p_ l_ fH) (fun r=>r.2=true→r.1.length=l_.length∧ac2 p_ l_ r.1∧r.1.take fH.length=fH):=by
 unfold CP;refine bF (fun s:bn×List ByteArray×List Int=>s.1=p_∧s.2.1=l_∧s.2.2.length≤l_.length∧ac2 p_ l_ s.2.2∧fH.length≤s.2.2.length∧s.2.2.take fH.length=fH) (fun s=>l_.length - s.2.2.length) ?_ ⟨rfl,rfl,hgl,hg,Nat.le_refl _,List.take_length⟩;rintro self ⟨p,l,gs⟩ ⟨e1,e2,e3,e4,e5,e6⟩ ih;dsimp only at e1 e2 e3 e4 e5 e6;subst p l;unfold nX;refine wi (fun c1=>?_) (fun c1=>?_)
 ·refine bC ob (av ?_);intro _;exact ⟨by dsimp only at c1 ⊢; omega,e4,e6⟩
 ·refine bC (by dsimp only at c1 ⊢; omega) ?_;refine aH (Xy h1 h2) fun v1 hv1=>?_;obtain ⟨k1,k2⟩:=hv1;refine bF (fun g:Int=>0≤g) (fun g:Int=>(v1.length - g).toNat) ?_ (Int.le_refl _);intro aj g1 hg1 ih1;unfold K7;refine bV (fun c2=>?_) (fun c2=>?_)
  ·have c2:=nr c2;have hx:=k2 _ (getD_in (i:=g1.toNat) 0 om);refine wn ?_;refine aH (aaT h1 (by dsimp only; omega) (fun x hx=>e4.ir x hx) hx.1.1 hx.1.2 hp) fun v6 h6=>?_;refine bV (fun c3=>?_) (fun c3=>?_)
   ·refine bC ob (ih1 _ om om)
   ·refine bC ob (bC ob (bC ob ?_));have hl:¬ gs.length=l_.length:=by (try dsimp only at c1); omega
    refine aH (ih _ ⟨rfl,rfl,by (simp only [List.length_append,List.length_singleton]; omega),?_,by (simp only [List.length_append,List.length_singleton]; omega),by dsimp only; rw [List.take_append_of_le_length e5]; exact e6⟩ (by (simp only [List.length_append,List.length_singleton]; omega))) fun v7 hv7=>?_
    ·exact ala e4 hx.1 hx.2 (h6 (by simpa using c3))
    ·refine bV (fun c4=>av fun _=>hv7 c4) (fun c4=>bC ob (ih1 _ om om))
  ·exact av nofun
theorem X7 {p_:bn} {l_:List ByteArray} {fH:List Int} (h1:∀g∈p_.aD,g.bO.length≤2000000∧g.ak.length≤2000000) (h2:l_.length≤2000000) (h3:p_.aD.length≤2000000) (hp:agz p_) (hg:ac2 p_ l_ fH) (hgl:fH.length≤l_.length):W (CQ p_ l_ fH) (fun r=>r.2=0→r.1.length=l_.length∧ac2 p_ l_ r.1∧r.1.take fH.length=fH):=by
 unfold CQ;refine aH (aeN h1 h2 h3) fun v1 _=>?_;refine bV (fun c1=>av fun e=>?_) (fun _=>?_)
 ·have c1:=nr c1; exact absurd e c1
 refine aH (X6 h1 h3 h2 hp hg hgl) fun v2 hv2=>?_;refine bV (fun _=>av nofun) (fun c2=>av fun _=>hv2 (by simpa using c2))
theorem aae {b_:aR} {l_:List aS} (h1:∀u∈l_,Qx b_.aQ u.mI) (h2:l_.length≤2000000):W (Fz b_ l_) (fun r=>r=(l_.map (fun u=>nmU b_.aQ u.mI),l_.map fun u=>u.mI.dF)):=by
 unfold Fz;refine bF (fun g1:Int×List ByteArray×List Int=>0≤g1.1∧g1.1≤l_.length∧g1.2.1=(l_.take g1.1.toNat).map (fun u=>nmU b_.aQ u.mI)∧g1.2.2=(l_.take g1.1.toNat).map fun u=>u.mI.dF) (fun g1=>(l_.length - g1.1).toNat) ?_ ⟨ob,ob,rfl,rfl⟩;intro aj g1 ⟨a1,a2,a3,a4⟩ ih1;have l1:g1.2.1.length≤l_.length:=by rw [a3,List.length_map,List.length_take]; omega
 have l2:g1.2.2.length≤l_.length:=by rw [a4,List.length_map,List.length_take]; omega
 unfold Nt;refine wi (fun c=>?_) (fun c=>?_)
 ·have e:(g1.1+1).toNat=g1.1.toNat+1:=by omega
  obtain ⟨u1,u2,u3,u4⟩:=h1 _ (getD_in (i:=g1.1.toNat) bH om);refine wn ?_;refine bC om ?_;refine bC om ?_;refine bC (by unfold big; omega) ?_;refine bC (by unfold big; omega) ?_;refine wn ?_;refine ih1 _ ⟨ob,ob,?_,?_⟩ ob
  ·dsimp only;rw [e,Gy _ _ bH om,a3]; rfl
  ·dsimp only;rw [e,Gy _ _ bH om,a4]
 ·exact av (by rw [a3,a4,List.take_of_length_le om])
theorem am9 {p:bn} {us:List aS} {fs:List ByteArray} (h:Rz p (us.map aS.mI)):ac2 p (us.map (fun u=>nmU p u.mI)++fs) (us.map fun u=>u.mI.dF):=by
 refine ⟨fun x hx=>?_,fun k hk=>?_,fun k j hj hk=>?_⟩
 ·obtain ⟨u,hu,rfl⟩:=List.mem_map.1 hx;obtain ⟨u1,u2,_,_⟩:=TL h u hu;exact ⟨u1,u2⟩
 ·rw [List.length_map] at hk;have hk:k<us.length:=by omega
  obtain ⟨u1,u2,u3,u4⟩:=TL h _ (getD_in (i:=k) bH hk);rw [jr ByteArray.empty (by rw [List.length_map]; exact hk),sF (d:=bH) hk,sF (d:=bH) hk];exact ⟨(us.getD k bH).mI.gV.toNat,om,rfl⟩
 ·rw [List.length_map] at hk;have hk:k<us.length:=by omega
  have:=(h k (by rw [List.length_map]; omega)).2.2 j hj;rw [sF (d:=bH) hk,sF (d:=bH) om] at this ⊢;exact fun a c ha hc=>this a c ha hc
theorem ana {p:bn} {us:List aS} {l:List ByteArray} {gs:List Int} (hp:agz p) (hf:ac2 p l gs) (hg:us.map (fun u=>u.mI.dF)=gs) (hu:∀u∈us,Qx p u.mI):Rz p (us.map aS.mI):=by
 intro i hi;rw [List.length_map] at hi;have hi:i<us.length:=by omega
 have hgl:gs.length=us.length:=by rw [← hg,List.length_map]
 have hgg:∀k,k<us.length→((us.map aS.mI).getD k fV).dF=gs.getD k 0:=fun k hk=>by
  rw [← hg,sF (d:=bH) hk,sF (d:=bH) hk]
 have hdj:∀k,k<i→aiM p ((us.map aS.mI).getD k fV).dF ((us.map aS.mI).getD i fV).dF:=fun k hk=>by
  rw [hgg k om,hgg i hi]; exact hf.dj i k hk om
 have hui:=hu _ (getD_in (i:=i) bH hi);refine ⟨by rw [sF (d:=bH) hi]; exact hui,fun k hk e=>?_,fun k hk=>hdj k hk⟩;have hd:=hdj k hk;rw [e] at hd;obtain ⟨u1,u2,_,_⟩:=hui;rw [sF (d:=bH) hi] at hd;have:=(hp.ok.gr _ (getD_in (i:=(us.getD i bH).mI.dF.toNat) aG om)).pl;exact hd 0 0 om om rfl
def FnU (b:aR) (l:List aK) (ms:List Int) (us:List aS):Prop:=∀i∈ms,∀f:ByteArray,cntF (l.getD i.toNat bq).ak f≤PD b.aQ us i f
theorem aaf {ms:List Int} {us:List aS} (h:∀u∈us,u.iE∈ms):IV ms us=us:=by
 unfold IV;exact List.filter_eq_self.2 fun u hu=>by simpa using h u hu
theorem anb {p:bn} {us new:List aS} {d:Int} {fs:List ByteArray} (h:new.map (fun u=>(u.iE,nmU p u.mI))=fs.map fun f=>(d,f)) (f:ByteArray):cntF fs f≤PD p (us++new) d f:=by
 have e:PD p new d f=cntF fs f:=by
  have e1:PD p new d f=(new.map (fun u=>(u.iE,nmU p u.mI))).countP fun q=>(q.1==d)&&decide (q.2=f):=by
   rw [List.countP_map]; rfl
  rw [e1,h,List.countP_map];unfold cntF;exact List.countP_congr fun x _=>by simp
 rw [← e];unfold PD;rw [List.countP_append];omega
theorem RX {b_:aR} {l_:List aK} {g_:bL} {bN:Int} {dH:List Int} (h1:Gg b_) (h2:GSz b_.aQ) (h2':b_.aQ.aD.length≤2000000) (h3:Rw l_) (h4:dH.length≤9999) (h5:Xu g_) (h6:g_.dZ.length≤100000)
  (ho:Rz b_.aQ (g_.dZ.map aS.mI)) (hd:∀u∈g_.dZ,u.iE∈dH) (hf:FnU b_ l_ dH g_.dZ):W (uw b_ l_ g_ bN dH) (fun r=>r.2.2=0→(Xu r.1∧r.1.dZ.length≤g_.dZ.length+(l_.getD bN.toNat bq).ak.length)∧
   (∀u∈r.1.dZ,u.iE∈dH++[bN])∧Rz b_.aQ (r.1.dZ.map aS.mI)∧FnU b_ l_ (dH++[bN]) r.1.dZ∧EG l_ (dH++[bN])∧FL b_ l_ (dH++[bN])):=by
 unfold uw;refine aH (aac h1 h2 h3 om h5) fun v1 hv1=>?_;refine bV (fun c1=>?_) (fun c1=>?_)
 ·have c1:=nr c1;exact av fun e=>absurd e c1
 have c1:=nr c1;obtain ⟨hn,⟨hpa,_⟩,hd0,hd1⟩:=hv1 c1;obtain ⟨hb,hl12,hnd⟩:=zI hn;have aqM:=TL ho;refine aH (agG om) fun v2 _=>?_;refine bV (fun c2=>av nofun) (fun c2=>?_);refine bC (by unfold big; omega) ?_;refine bC (by unfold big; omega) ?_;refine aH (Ll om om) fun v11 acX=>?_;rw [aaf hd] at acX;subst acX;unfold uT;refine aH (UE h1 h2 h3 (by dsimp only; rw [List.length_append,List.length_singleton]; omega) (by dsimp only; omega)) fun v4 ⟨hga,_,hgl⟩=>?_;refine bV (fun c3=>?_) (fun c3=>?_)
 ·have c3:=nr c3;exact av fun e=>absurd e c3
 have c3:=nr c3;obtain ⟨hus,_,hdf,hfl⟩:=hgl c3;dsimp only at hus hdf hfl;rw [aaf fun u hu=>List.mem_append_left _ (hd u hu)] at hus;refine aH (aae aqM (by dsimp only; omega)) fun v10 EC=>?_;subst EC;have awM:=(hnd _ (getD_in (i:=bN.toNat) bq om)).fl;unfold sV;dsimp only;refine bC ⟨hd0,hd1⟩ ?_;refine bC (by rw [List.length_map]; unfold big; omega) ?_;refine aH (X7 h2 (by rw [List.length_append,List.length_map]; omega) h2' hpa.v (am9 ho) (by rw [List.length_append,List.length_map,List.length_map]; omega)) fun v6 hv6=>?_;refine bV (fun c4=>av nofun) (fun c4=>?_);have c4:=nr c4;obtain ⟨ha1,ha2,ha3⟩:=hv6 c4;rw [List.length_append,List.length_map] at ha1;rw [List.length_map] at ha3;refine bC ⟨hd0,hd1⟩ ?_;refine bF (fun g3:Int×List aS=>0≤g3.1∧g3.1≤(l_.getD bN.toNat bq).ak.length∧(∃new,g3.2=g_.dZ++new∧new.map (fun u=>(u.iE,nmU b_.aQ u.mI))=((l_.getD bN.toNat bq).ak.take g3.1.toNat).map fun f=>(bN,f))∧g3.2.map (fun u=>u.mI.dF)=v6.1.take (g_.dZ.length+g3.1.toNat)∧∀u∈g3.2,Qx b_.aQ u.mI) (fun g3=>((l_.getD bN.toNat bq).ak.length - g3.1).toNat) ?_ ⟨ob,ob,⟨[],by dsimp only; rw [hus,List.append_nil],rfl⟩,?_,fun u hu=>?_⟩
 ·intro jB g3 ⟨d1,d2,⟨new,d3,d4⟩,d5,d6⟩ ih3;have hnl:new.length=g3.1.toNat:=by
   have:=congrArg List.length d4;rw [List.length_map,List.length_map,List.length_take] at this;omega
  have hgl:g3.2.length=g_.dZ.length+g3.1.toNat:=by rw [d3,List.length_append,hnl]
  unfold BM;refine wi (fun c5=>?_) (fun c5=>?_)
  ·dsimp only;rw [List.length_map];have e:((g_.dZ.length:Int)+g3.1).toNat=g_.dZ.length+g3.1.toNat:=by omega
   have e1:(g3.1+1).toNat=g3.1.toNat+1:=by omega
   have hx:=ha2.ir _ (getD_in (i:=g_.dZ.length+g3.1.toNat) 0 om);have hof:=ha2.off (g_.dZ.length+g3.1.toNat) om;rw [WT ByteArray.empty (by rw [List.length_map]; omega),List.length_map,Nat.add_sub_cancel_left] at hof;rw [e];refine bC om ?_;refine bC (by unfold aF; omega) ?_;refine bC om ?_;refine bC hx ?_;have hff:=(h2 _ (getD_in (i:=(v6.1.getD (g_.dZ.length+g3.1.toNat) 0).toNat) aG om)).2;refine aH (WZ om) fun v9 ⟨t1,t2,t3,t4⟩=>?_;obtain ⟨k,k1,k2⟩:=hof;have t0:0≤v9:=Int.not_lt.1 fun q=>t4 q k k1 k2;have t5:=Vy (t3 t0);refine bC (by unfold big; omega) ?_;refine bC (by unfold aF; omega) ?_;refine ih3 _ ⟨by dsimp only; omega,by dsimp only; omega,⟨new++[⟨bN,⟨v6.1.getD (g_.dZ.length+g3.1.toNat) 0,v9⟩⟩],by dsimp only; rw [d3,List.append_assoc],?_⟩,?_,fun u hu=>?_⟩ (by dsimp only; omega)
   ·dsimp only;rw [e1,Gy _ _ ByteArray.empty om,List.map_append,d4,List.map_cons,List.map_nil];congr 3
   ·dsimp only;rw [List.map_append,d5,e1,← Nat.add_assoc,iC 0 om,List.map_cons,List.map_nil]
   ·rcases List.mem_append.1 hu with h | h
    ·exact d6 u h
    ·rw [List.mem_singleton] at h; rw [h];exact ⟨hx.1,hx.2,t0,t2⟩
  ·rw [List.take_of_length_le om] at d4 d5;refine av fun _=>⟨⟨⟨hga.a,hga.b,hga.c,by dsimp only; omega,hga.d,hga.e⟩,by dsimp only; omega⟩,?_,ana hpa.v ha2 d5 d6,?_,hdf,hfl⟩
   ·intro u hu;dsimp only at hu;rw [d3] at hu;rcases List.mem_append.1 hu with h | h
    ·exact List.mem_append_left _ (hd u h)
    ·refine List.mem_append_right _ (List.mem_singleton.2 ?_);have:(u.iE,nmU b_.aQ u.mI)∈(l_.getD bN.toNat bq).ak.map fun f=>(bN,f):=by rw [← d4]; exact List.mem_map.2 ⟨u,h,rfl⟩
     obtain ⟨f,_,e⟩:=List.mem_map.1 this;exact (Prod.mk.inj e).1.symm
   ·intro i hi f;dsimp only;rw [d3];rcases List.mem_append.1 hi with h | h
    ·refine Nat.le_trans (hf i h f) ?_;unfold PD;rw [List.countP_append];omega
    ·rw [List.mem_singleton] at h; rw [h];exact anb d4 f
 ·dsimp only;rw [hus,show (0:Int).toNat=0 from rfl,Nat.add_zero,ha3]
 ·dsimp only at hu;rw [hus] at hu;exact aqM u hu
theorem QH {b_:aR} (h1:Gg b_) (h2:GSz b_.aQ):W (D6 b_) (fun r=>Xu r.1∧r.1.dZ=[]∧(r.2=0→Ob b_ 0∧FL b_ [] [])):=by
 unfold D6;refine aH (aad h1 h2 ⟨by simp,fun _ h=>by cases h⟩ (by simp) (by simp)) fun v1 ⟨hga,hul,hgl⟩=>?_;have hun:v1.2.2.2.2.2.2.2=[]:=List.length_eq_zero_iff.1 (by simpa using hul);exact av ⟨⟨hga.a,hga.b,hga.c,by dsimp only; rw [hun]; simp,hga.d,hga.e⟩,hun,fun e=>⟨(Od (hgl e).2.1).1,(hgl e).2.2.2⟩⟩
structure UsI (b:aR) (l:List aK) (ms:List Int) (us:List aS):Prop where
 dv:∀u∈us,u.iE∈ms
 ow:Rz b.aQ (us.map aS.mI)
 fn:FnU b l ms us
 df:EG l ms
 fl:ms≠[]→FL b l ms
theorem anc {b:aR} {l:List aK}:UsI b l [] []:=⟨fun _ h=>by (cases h),fun i hi=>by simp at hi; omega,fun _ h=>by (cases h),fun i hi=>by simp at hi; omega,fun h=>absurd rfl h⟩
theorem aag {dH:dz} (h1:0≤dH.At) (h2:dH.L.length≤600):W (FC dH) (fun r=>amx r.1∧r.2.1.length≤5∧(∀x∈r.2.1,NdG r.1 r.2.1.length x)∧r.2.2.1.length≤5∧Xu r.2.2.2.1∧UsI r.1 r.2.1 r.2.2.1 r.2.2.2.1.dZ):=by
 unfold FC;refine aH (Td h1 h2) fun v1 ⟨b1,b2,b3⟩=>?_;refine aH (OB b1 om om b2 b3) fun v2 hv2=>?_;obtain ⟨n1,n2,n3,n4⟩:=hv2;have hbs:=anJ b1;have hgs:GSz v1.1.aQ:=fun g hg=>by have:=b1.gr g hg; omega
 have hgn:=b1.ngr;have hns:Rw v2.1:=⟨om,fun n hn=>by have a:=(n2 n hn).rs.1; have c:=(n2 n hn).pr.1; omega⟩;refine aH (QH hbs hgs) fun v3 ⟨s1,s2,_⟩=>?_;refine bF (fun g1:(Int×(List Int)×Int×(List Int)×(List Bool)×(List Int)×(List aS)×(List Bool)×(List Bool)×(List Int))=>0≤g1.1∧g1.1≤v2.1.length∧0≤g1.2.2.1∧g1.2.1.length≤600∧Xu ⟨g1.2.2.2.1,⟨g1.2.2.2.2.1,g1.2.2.2.2.2.1⟩,g1.2.2.2.2.2.2.1,g1.2.2.2.2.2.2.2.1,g1.2.2.2.2.2.2.2.2.1⟩∧g1.2.2.2.2.2.2.1.length≤100*g1.1.toNat∧g1.2.2.2.2.2.2.2.2.2.length≤g1.1.toNat∧UsI v1.1 v2.1 g1.2.2.2.2.2.2.2.2.2 g1.2.2.2.2.2.2.1) (fun g1=>(v2.1.length - g1.1).toNat) ?_ ⟨ob,ob,n3,n4,s1,by dsimp only; rw [s2]; simp,by simp,by dsimp only; rw [s2]; exact anc⟩;intro aj g1 ⟨a1,a2,a3,a4,a5,a6,a7,a8⟩ ih1;unfold Nw;refine wi (fun c=>?_) (fun c=>?_)
 ·have hfx:=(n2 _ (getD_in (i:=g1.1.toNat) bq om)).fw.1;have e:(g1.1+1).toNat=g1.1.toNat+1:=by omega
  refine aH (RX hbs hgs om hns om a5 (by dsimp only; omega) a8.ow a8.dv a8.fn) fun v8 CU=>?_;refine bV (fun c2=>?_) (fun c2=>?_)
  ·refine aH (bW om a3 a4) fun v9 hv9=>?_;obtain ⟨_,_,_,q1,q2⟩:=hv9;refine bV (fun c3=>?_) (fun c3=>?_)
   ·have c4:v8.2.2=0:=by
     simp only [Bool.and_eq_true,beq_iff_eq] at c3;exact c3.1.2
    obtain ⟨⟨r1,r2⟩,r3,r4,r5,r6,r7⟩:=CU c4;dsimp only at r2;refine bC (by unfold big; omega) ?_;refine wn ?_;exact ih1 _ ⟨ob,ob,q1,q2,r1,by dsimp only; rw [e]; omega,by dsimp only; rw [List.length_append,List.length_singleton,e]; omega,⟨r3,r4,r5,r6,fun _=>r7⟩⟩ ob
   ·refine wn ?_;exact ih1 _ ⟨ob,ob,q1,q2,a5,by dsimp only; rw [e]; omega,by dsimp only; rw [e]; omega,a8⟩ ob
  ·refine bC (by cases h:((v3.2==(0:Int))&&(v8.2.2==(0:Int))) with | false=>rfl | true=>rw [h] at c2; cases c2) ?_;refine wn ?_;exact ih1 _ ⟨ob,ob,a3,a4,a5,by dsimp only; rw [e]; omega,by dsimp only; rw [e]; omega,a8⟩ ob
 ·exact av ⟨b1,by dsimp only; omega,n2,by dsimp only; omega,a5,a8⟩
theorem alF {b:aR} {l:List aK} (hb:Ob b 0) (hl:l.length≤5) (h:∀x∈l,NdG b l.length x):nY b l 0:=by
 refine kF hb (aL om (JR fun k hk=>?_));obtain ⟨l1,d1,f1,r1,q1,p1⟩:=h _ (getD_in (i:=k) bq hk);have hw:∀ {α:Type} (xs:List α) (d:α) (P:α→Prop),(∀x∈xs,P x)→¬ ∃j:Nat,(j:Int)<xs.length∧¬P (xs.getD j d):=fun xs d P hp ⟨j,hj,q⟩=>q (hp _ (getD_in d om));refine lu (by have:=l1.1; have:=d1.1; have:=f1.1; omega) (lu (hw _ _ _ l1.2) (lu (hw _ _ _ d1.2) (lu (hw _ _ _ f1.2) (lu (hw _ _ _ r1.2) (lu (fun q=>q q1) (lu (hw _ _ _ p1.2.1) (lu ?_ rfl)))))));rintro ⟨j,j1,j2,j3⟩;have:=p1.2.2 (j - 1) j om j2;omega
theorem X8:yN true:=M.ake 100 _ _ (by decide +kernel)
theorem agM:W (bnd yN fun v=>ret v) (fun r=>r=true):=aH (Ca X8) fun _ h=>av h
theorem aiS {b:aR} {l:List aK} (h:∀x∈l,NdG b l.length x):SmN l:=fun x hx=>⟨(h x hx).lm.1,(h x hx).dw.1,(h x hx).fw.1⟩
theorem alG {b:aR} {l:List aK} {m:List Int} {us:List aS} (h:UsI b l m us) (hm:m.length≤5) (h0:FL b [] []):aa0 b l m:=by
 cases m with
 | nil=>exact ⟨h.df,hm,h0.1,h0.2⟩
 | cons x m=>obtain ⟨f1,f2⟩:=h.fl (by simp); exact ⟨h.df,hm,f1,f2⟩
theorem apg {b:aR} {l:List aK} {m ms:List Int} {x:bL} (h:FnU b l m x.dZ) (hs:∀i∈ms,i∈m):amZ b l ms x:=fun i hi f=>h _ (hs _ (getD_in 0 om)) f
theorem aah {b_:aR} {l_:List aK} {ms_:List Int} {g_:bL} (h1:Gg b_) (h2:GSz b_.aQ) (h3:Rw l_) (h4:ms_.length≤10000) (h5:Xu g_) (hb:aeY b_ l_ ms_ g_ false 0):W (vC b_ l_ ms_ g_) (fun r=>r=true):=by
 unfold vC;refine aH (XG h1 h2 h3 h4 h5) fun v1 hv1=>av ?_;rw [aeY.fun _ _ hv1 hb]; rfl
theorem alH {b:aR} {l:List aK} {ms:List Int} {us:List aS} {x:bL} (hb:Gg b) (h:AgA b l ms us x) (hu:us.length≤2000000) (hd:b.bg.length≤2000000∧b.cB.length≤2000000):Xu x:=by
 have hll:(Sp.iH b.bB (jn aK.fD l ms)).2=0:=by rw [h.ra]
 have hlr:=Sp.Pj hll;rw [h.ra] at hlr;obtain ⟨z1,z2,z3,z4,z5,z6,z7⟩:=hb;refine ⟨by rw [h.st.1.1]; exact z1,by rw [hlr.1]; exact z3,by rw [hlr.2]; exact z3,?_,by rw [h.re.ln]; exact hd.1,by rw [h.po.ln]; exact hd.2⟩;rw [h.us];exact Nat.le_trans (List.length_filter_le _ _) hu
theorem RY {t_:List Int}:W (yO t_) (fun r=>r=true):=by
 unfold yO;refine bV (fun _=>agM) (fun c0=>?_);refine aH aei fun v2 ⟨k1,k2⟩=>?_;refine aH (aag (by dsimp only; omega) k2) fun v3 hv3=>?_;obtain ⟨w1,w2,w3,w4,w5,w6⟩:=hv3;obtain ⟨b,l,m,g,s⟩:=v3;dsimp only at w1 w2 w3 w4 w5 w6 ⊢;have hbs:=anJ w1;have hgs:GSz b.aQ:=fun x hx=>by have:=w1.gr x hx; omega
 have hns:Rw l:=⟨om,fun n hn=>by have a:=(w3 n hn).rs.1; have c:=(w3 n hn).pr.1; omega⟩;have hgu:=w5.us;refine aH (QH hbs hgs) fun v4 ⟨_,_,hv4⟩=>?_;refine bV (fun _=>agM) (fun c1=>?_);have c1:=nr c1;obtain ⟨hba,hfl⟩:=hv4 c1;have hn:=alF hba w2 w3;have hs:=aiS w3;have ha:=alG w6 w4 hfl;have hd2:b.bg.length≤2000000∧b.cB.length≤2000000:=by have:=w1.nre; have:=w1.ndo; omega
 refine wn ?_;refine bF (fun g1:Int×List Int => -1≤g1.1∧g1.1<m.length∧g1.2=(m.drop (g1.1+1).toNat).reverse) (fun g1=>(g1.1+1).toNat) ?_ ⟨ob,ob,?_⟩
 ·intro aj g1 ⟨a1,a2,a3⟩ ih1;have hgl:g1.2.length≤5:=by rw [a3,List.length_reverse,List.length_drop]; omega
  unfold Ah;refine wi (fun c2=>?_) (fun c2=>?_)
  ·refine wn ?_;refine bC (by unfold big; omega) ?_;refine wn ?_;refine ih1 _ ⟨ob,ob,?_⟩ ob;dsimp only;rw [show (g1.1 - 1+1).toNat=g1.1.toNat by omega,drop_cons 0 om,List.reverse_cons,a3,show (g1.1+1).toNat=g1.1.toNat+1 by omega]
  ·have hbk:g1.2=m.reverse:=by rw [a3,show (g1.1+1).toNat=0 by omega]; rfl
   have hp:m.Perm m.reverse:=(List.reverse_perm m).symm;have hdr:=am8 ha.df;have har:=aiP hn hs ha hp hdr;refine aH (Ev hbs hgs hns hn hs ha hgu) fun v17 ⟨e17,hx⟩=>?_;unfold rD;dsimp only;rw [hbk];refine aH (Ev hbs hgs hns hn hs har hgu) fun v7 ⟨e7,hy⟩=>?_;have hxs:=alH hbs hx hgu hd2;have hys:=alH hbs hy hgu hd2;obtain ⟨q1,q2,q3,q4⟩:=alp hn hs ha har hp hx hy;have hdv:∀u∈g.dZ,u.iE∈m.reverse:=fun u hu=>List.mem_reverse.2 (w6.dv u hu);have hyu:v7.1.dZ=g.dZ:=by rw [hy.us]; exact aaf hdv
   have hbr:=alq hn hs har hy (by rw [hyu]; exact w6.ow) (apg (m:=m) (by rw [hyu]; exact w6.fn) fun i hi=>List.mem_reverse.1 hi);rw [e17,e7];refine aH (qy fun _=>Tv hxs.st) fun v8 CU=>?_;have e8:v8=true:=by rw [CU rfl,q1]; exact beq_self_eq_true _
   subst e8;refine aH (qy fun _=>Tw hxs.on hxs.lv) fun v9 hv9=>?_;have e9:v9=true:=by rw [hv9 rfl,← q2,beq_self_eq_true,beq_self_eq_true]; rfl
   subst e9;refine aH (qy fun _=>Gh hxs.re) fun v10 EC=>?_;have e10:v10=true:=by rw [EC rfl,q3]; exact beq_self_eq_true _
   subst e10;refine aH (qy fun _=>Gh hxs.po) fun v11 acX=>?_;have e11:v11=true:=by rw [acX rfl,q4]; exact beq_self_eq_true _
   subst e11;refine aH (qy fun _=>aah hbs hgs hns (by rw [List.length_reverse]; omega) hys hbr) fun v12 Vh=>?_;have e12:v12=true:=Vh rfl;subst e12;refine bV (fun c=>by cases c) (fun _=>?_);refine bF (fun g3:Int=>0≤g3) (fun g3=>(m.length - g3).toNat) ?_ (Int.le_refl _);intro jB g3 d1 ih3;unfold Ag;refine bV (fun c3=>?_) (fun _=>agM);have c3:=nr c3;dsimp only at c3 ⊢;refine bC om ?_;refine aH (Ev hbs hgs hns hn hs (aiQ hn hs ha g3.toNat) hgu) fun v15 ⟨e15,_⟩=>?_;rw [e15];refine bV (fun c=>by cases c) (fun _=>?_);exact bC (by unfold aF; omega) (ih3 _ om om)
 ·dsimp only;rw [show ((m.length:Int) - 1+1).toNat=m.length by omega,List.drop_length]; rfl
end Go.Proofs.YtccjmcmolnbiiaaGreatDoor
namespace Go.Proofs.YtccjmcmolnbiiaaGreatDoor.grantOrder
open Go.ChangeShapes Go.WideShapes Go.ChangeAt Go.RowKit
open Go.Ab
set_option maxRecDepth 100000
theorem spec (l:List Int):S 7 [aC l] [] (.bool true) []:=by
 obtain ⟨r,h1,h2⟩:=RY (t_:=l);subst h2;exact LV h1
theorem contract (H:Type) (enc:TypeId×Value→H) (W:World) (base:Nat) (args:Array Value) (ds gs:List (DataW H)) (before:List MemPlace)
  (hval:∀(j:Nat) t v,Tryz.f7.params[j]? = some t→args[j]? = some v→Value.okWide Tryz.prog W .any base t v)
  (hW:DataW.Whole enc Tryz.prog Tryz.f7.params.toList Rows.grantOrderSpec.vars false W args.toList ds gs before) (hL:laidMetH Tryz.prog Rows.grantOrderRow.laid W):
  Calls Tryz.prog 7 args W fun e W'=>∃v,e=.returned v∧Rows.grantOrderSpec.post enc Tryz.prog Tryz.f7 false true false false W args v W':=by
 have hW':=hW;obtain ⟨p,q,hA0,hV,rfl,hfz,hnd⟩:=hW;have hA:DataW.TrodAll enc Tryz.prog W 0 (fun _=>true) true Tryz.f7.params.toList args.toList ds p:=hA0;rw [Tryz.params7] at hA hval;obtain ⟨v0,d0,rfl,rfl,h0⟩:=trodAll_one hA;obtain ⟨rfl,rfl⟩:=trodVars_none hV;have h0k:=h0;obtain ⟨l,hl,hr⟩:=agF (hval 0 22 v0 rfl rfl) h0;clear hA0;simp only [List.append_nil] at hW';have hlt:∀x∈p,x.block<W.heap.size:=fun x hx=>by simpa using hW'.lt x hx
 refine (am3 (spec l) hL rfl (fun j hj=>?_)).mono fun e W' ⟨he,hb⟩=>?_
 ·match j,hj with
  | 0,_=>exact hr
 subst he;refine ⟨_,rfl,[d0],[],p,[],p,[],hW',trodAll_mk1 (shut_bool Tryz.underlying4 _),?_,rfl,hb.frame _,fun h=>by cases h⟩;rw [Tryz.params7];exact trodAll_mk1 (Below.trod laidOut (by kernel_rfl) (of_decide_eq_true (by kernel_rfl)) h0k hb hlt)
noncomputable def Wn (os:Os):World:=
 { World.holding Tryz.prog os ⟨#[],#[],[]⟩ with heap:=(World.holding Tryz.prog os ⟨#[],#[],[]⟩).heap.modify 0 fun
   | .cells _ t frozen=>.cells #[.int .i64 0,.int .i64 1] t frozen
   | o=>o }
theorem alI (os:Os):laidMet Tryz.prog Rows.grantOrderRow.laid ((Wn os).forCall (fun _ _=>0) ⟨#[],#[.slice none 0 0],[]⟩).memory:=
 laidMet_of_run' 8 (by kernel_rfl) (by kernel_rfl)
theorem reads (os:Os) {H:Type} (enc:TypeId×Value→H):∃places,DataW.whole enc Tryz.prog ((Wn os).forCall (fun _ _=>0) ⟨#[],#[.slice none 0 0],[]⟩).memory Tryz.f7.params.toList Rows.grantOrderSpec.vars false #[Value.slice none 0 0].toList 8=some ([.nil],[],places):=
 ⟨[],by kernel_rfl⟩
theorem lifted (os:Os) (started:os.Started) (H:Type) (enc:TypeId×Value→H) (F:Stop.Interp):
  ReturnsInHanded {} Tryz.checked os 7 .any ((OpenSpec.ofChange Rows.grantOrderSpec).preRow enc Tryz.prog Tryz.f7 Rows.grantOrderRow.domain false Rows.grantOrderRow.laid) (((OpenSpec.ofChange Rows.grantOrderSpec).at F).post enc Tryz.prog Tryz.f7 false true false false):=by
 obtain ⟨places,hx⟩:=reads os enc;refine returnsInHanded_of_row (C:=Tryz.checked) (s:=OpenSpec.ofChange Rows.grantOrderSpec) own started (by kernel_rfl) Tryz.func7
  (witness_row_at (enc:=enc) (C:=Tryz.checked) false (Wn os) #[.slice none 0 0] rfl (by kernel_rfl) (by kernel_rfl) (by kernel_rfl)
    (OpenSpec.preRow_of_cond 8 hx (by kernel_rfl) (fun k hk=>by cases hk) (by kernel_rfl) (alI os))) ?_
 intro W base args ds gs before hval hW _ _ _ hL _ _;exact contract H enc W base args ds gs before hval hW hL
theorem said:Rows.GrantOrderSaid:=
 OpenClaim.holds_of_cond 7 Tryz.f7 rfl rfl rfl rfl rfl rfl rfl ⟨rfl,rfl,rfl,rfl,rfl⟩ rfl rfl rfl rfl rfl (by kernel_rfl) Tryz.func7 (by kernel_rfl)
  (of_decide_eq_true (by kernel_rfl)) (by unfold Func.isWrapper; first | (rw [if_pos (by decide +kernel)]; kernel_rfl) | (rw [if_neg (by decide +kernel)]; exact ⟨rfl,rfl⟩))
  (fun os started H enc _ F=>by rw [OpenClaim.pre_eq_preRow]; exact lifted os started H enc F)
theorem plain (f:FuncId) (fn:Func) (hf:Tryz.pinned.checked.prog.funcNamed "bringup/bringuplaw33.GrantOrder" = some f) (hfn:Tryz.pinned.checked.prog.funcs[f]? = some fn):
  false=Tryz.pinned.checked.prog.looks []∧∀(j:Nat) t,fn.params[j]? = some t→Tryz.pinned.checked.prog.wantsStandIn t=false:=by
 obtain rfl:f=7:=Option.some.inj ((show Tryz.prog.funcNamed "bringup/bringuplaw33.GrantOrder" = some 7 by kernel_rfl).symm.trans hf) |>.symm;obtain rfl:fn=Tryz.f7:=(Option.some.inj (Tryz.func7.symm.trans hfn)).symm;refine ⟨by kernel_rfl,fun j t ht=>?_⟩;rw [Tryz.params7] at ht;have ht:t∈#[22]:=Array.mem_of_getElem? ht;simp at ht;subst ht;exact (show Tryz.prog.wantsStandIn 22=false by kernel_rfl)
end Go.Proofs.YtccjmcmolnbiiaaGreatDoor.grantOrder
namespace Go.Proofs.YtccjmcmolnbiiaaGreatDoor
open Go.Ab
set_option maxRecDepth 100000
theorem grantOrder_card:Rows.GrantOrderCardSaid:=
 Claim7.holds_tied_plain_at .later [] _ _ _ _ grantOrder.said (fun _ h=>by cases h) (by kernel_rfl) (fun _ h=>by cases h) grantOrder_row_tie rfl ⟨rfl,rfl⟩ (by kernel_rfl) rfl grantOrder.plain (by kernel_rfl)
end Go.Proofs.YtccjmcmolnbiiaaGreatDoor

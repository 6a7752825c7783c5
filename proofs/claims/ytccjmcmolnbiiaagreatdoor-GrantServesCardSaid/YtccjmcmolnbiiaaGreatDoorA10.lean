/-
  Proved: the law bringuplaw33.GrantServes returns true at every input and leaves its arguments as they were; the card ties the package variable clock.off to the program's text. No condition beyond the card's own.
-/
import Derived.Test.YtccjmcmolnbiiaaGreatDoorA9
import Derived.Test.YtccjmcmolnbiiaaGreatDoorA6
import Derived.Test.YtccjmcmolnbiiaaGreatDoorA7
import Derived.Test.YtccjmcmolnbiiaaGreatDoorA8
set_option maxHeartbeats 4000000
set_option linter.unusedVariables false
set_option linter.unusedSimpArgs false
namespace Go.Proofs.YtccjmcmolnbiiaaGreatDoor
open Go.Ab
set_option maxRecDepth 100000
def tvo (g:List gT):List Int:=g.map gT.nL
theorem Zt (g:List gT) (j:Nat):(g.getD j jS).nL=(tvo g).getD j 0:=by
 unfold tvo;rw [List.getD_eq_getElem?_getD,List.getD_eq_getElem?_getD,List.getElem?_map];cases g[j]? <;> rfl
theorem aiM (g:List gT) (j:Nat) (x:gT):tvo (g.set j x)=(tvo g).set j x.nL:=by
 unfold tvo;rw [List.map_set]
theorem aec (g:List gT):(tvo g).length=g.length:=List.length_map ..
theorem Xx {z:gT} (hz:z.nL=0) {n:Nat} (h:n≤16):W (mh [z] ((n:Nat):Int)) (λ r=>tvo r=List.replicate n 0):=by
 unfold mh;refine aO (by simp) ?_;unfold nC;refine aF (wQ (mul_one h)) λ v1 hv1=>?_;subst hv1;refine aO (by simp; omega) ?_;unfold nA;have hw:IntKind.i64.wrap ((n:Nat):Int)=n:=wrap_i64 ⟨om,om⟩;dsimp only;rw [hw];have hm:Nat.min [z].length ((n:Int).toNat)=min 1 n:=by simp
 have ar0:∀(a b:List gT) (p:Nat),(∀j,(a.getD j jS).nL=0)→(∀j,(b.getD j jS).nL=0)→∀j,((Yl a p b).getD j jS).nL=0:=λ a b p ha hb j=>by
  by_cases q:j<a.length
  ·rw [Qk jS q];split
   ·exact hb _
   ·exact ha _
  ·rw [List.getD_eq_getElem?_getD,List.getElem?_eq_none (by rw [iw]; omega)]; rfl
 have htk:∀(a:List gT) (k:Nat),(∀j,(a.getD j jS).nL=0)→∀j,((a.take k).getD j jS).nL=0:=λ a k ha j=>by
  have:=ha j;rw [List.getD_eq_getElem?_getD] at this ⊢;rw [List.getElem?_take];split
  ·exact this
  ·rfl
 refine wn<|bI (λ g3:Int×List gT=>0≤g3.1∧g3.1≤n∧g3.2.length=n∧(0<n→0<g3.1)∧∀j,(g3.2.getD j jS).nL=0) (λ g3=>(n - g3.1).toNat) ?_ ⟨by dsimp only; omega,by dsimp only; rw [hm]; omega,by simp [iw],λ hn=>by dsimp only; rw [hm]; omega,ar0 _ _ _ (λ j=>by rw [Sp.mP]; rfl) (htk _ _ λ j=>?_)⟩
 ·intro jZ g3 ⟨a1,a2,a3,a4,a5⟩ ih;unfold um;refine bJ ?_ ?_<;>intro c
  ·have c:=nr c;have hmn:Nat.min g3.1.toNat (g3.2.length - g3.1.toNat)=min g3.1.toNat (g3.2.length - g3.1.toNat):=rfl;rw [hmn];refine aO om ?_;refine aO om ?_;refine aO (by unfold aG; omega) ?_;exact ih _ ⟨by dsimp only; omega,by dsimp only; omega,by dsimp only; rw [iw]; exact a3,λ _=>by dsimp only; omega,ar0 _ _ _ a5 (htk _ _ a5)⟩ (by dsimp only; omega)
  ·refine av (Sp.uO 0 (by rw [aec,List.length_replicate]; exact a3) λ j _=>?_);rw [← Zt,a5,Sp.mP]
 ·cases j with
  | zero=>exact hz
  | succ j=>rfl
theorem af9 {a b:Int}:W (cmp_Less_int a b) (λ r=>r=decide (a<b)):=by
 unfold cmp_Less_int;refine aF (P:=λ v=>v=false) (av (bne_self_eq_false a)) λ v1 e=>?_;subst e;exact aF (qX (P:=λ _=>True) λ _=>av trivial) λ v2 _=>av rfl
theorem EU {x_:List Int} {t_:Int} (h1:x_.length≤2000000) (ha:∀i j,i<j→j<x_.length→x_.getD i 0<x_.getD j 0):W (slices_BinarySearch_int x_ t_) (λ r=>r.1=Sp.lvN x_ t_):=by
 unfold slices_BinarySearch_int;refine bI (λ g3:Int×Int=>0≤g3.1∧g3.1≤g3.2∧g3.2≤x_.length∧(∀j:Nat,(j:Int)<g3.1→x_.getD j 0<t_)∧∀j:Nat,g3.2≤(j:Int)→j<x_.length→t_≤x_.getD j 0) (λ g3=>(g3.2 - g3.1).toNat) ?_ ⟨ob,ob,ob,λ j h=>by (try dsimp only at h); omega,λ j h q=>by (try dsimp only at h); omega⟩;intro jZ g3 ⟨a1,a2,a3,a4,a5⟩ ih;unfold rZ;have hm:=aqo (x:=g3.1+g3.2) om om;refine wi ?_ ?_<;>intro c
 ·refine wn<|aO om ?_;rw [hm];refine aO om ?_;refine aF af9 λ v8 vU=>?_;subst vU;refine wi ?_ ?_<;>intro c2
  ·refine aO (by unfold aG; omega) ?_;refine ih _ ⟨by dsimp only; omega,by dsimp only; omega,by dsimp only; omega,λ j hj=>?_,a5⟩ (by dsimp only; omega);dsimp only at hj;by_cases q:(j:Int)=(g3.1+g3.2) / 2
   ·rw [← q] at c2; exact c2
   ·exact Int.lt_trans (ha j ((g3.1+g3.2) / 2).toNat om om) c2
  ·refine ih _ ⟨by dsimp only; omega,by dsimp only; omega,by dsimp only; omega,a4,λ j hj hl=>?_⟩ (by dsimp only; omega);dsimp only at hj;by_cases q:(j:Int)=(g3.1+g3.2) / 2
   ·rw [← q] at c2; exact c2
   ·have:=ha ((g3.1+g3.2) / 2).toNat j om hl;omega
 ·unfold mG;refine aO (λ e=>by have e:=nr e; omega) ?_;refine aO (λ e _=>by have e:=nr e; omega) ?_;refine aF (qX (P:=λ _=>True) λ _=>JX (qX (P:=λ _=>True) λ _=>av trivial) λ _ _=>trivial) λ v4 _=>?_;refine aF (qX (P:=λ _=>True) λ _=>JX (qX (P:=λ _=>True) λ _=>JX (qX (P:=λ _=>True) λ _=>av trivial) λ _ _=>trivial) λ _ _=>trivial) λ v5 _=>?_;have:=Sp.ahw (v:=t_) (l:=x_) (k:=g3.1.toNat) om (λ j hj=>a4 j om) (λ hl=>a5 _ om hl);exact av (by dsimp only; omega)
theorem Y1 {s_:ay} {v_:Int} (h1:s_.bK.length≤2000000) (ha:Sp.O9 0 s_.bK=true):W (J6 s_ v_) (λ r=>r=((Sp.lvN s_.bK v_:Int),decide ((Sp.lvN s_.bK v_:Int)<s_.bK.length))):=
 aF (EU h1 (Sp.alY ha)) λ v hv=>av (by rw [hv])
open Sp in
theorem VD {l_:List ay} {d_:List bf} (h:Ko l_ d_):W (xL l_ d_) (λ r=>r.2=((Jc l_ d_).1.lv,(Jc l_ d_).2)):=by
 obtain ⟨vl,vd,vs,va,vx⟩:=id h;have hul:=tL l_ d_;unfold xL;refine aF (Xx rfl vl) λ v1 hv1=>?_;refine wn<|bI (λ g1:Int×List gT×List Int=>0≤g1.1∧g1.1≤d_.length∧tvo g1.2.1=BS (yE l_.length d_ g1.1.toNat)∧g1.2.2=List.replicate l_.length 0) (λ g1=>(d_.length - g1.1).toNat) ?_ ⟨ob,ob,?_,rfl⟩
 ·intro aj g1 ⟨a1,a2,a3,a4⟩ ih;have hgl:g1.2.1.length=l_.length:=by rw [← aec,a3,UQ,QA]
  unfold FJ;refine wi ?_ ?_<;>intro c
  ·have hx:=vx _ (Go.Proofs.YtccjmcmolnbiiaaGreatDoor.getD_in (i:=g1.1.toNat) dH om);have e:(g1.1+1).toNat=g1.1.toNat+1:=by omega
   refine wm ?_;rw [Zt,a3];refine bJ ?_ ?_<;>intro c2
   ·have c2:=nr c2;refine wm<|ih _ ⟨ob,ob,?_,a4⟩ ob;dsimp only;rw [aiM,e,Tg,a3,if_pos c2]
   ·have c2:=nr c2;refine wn<|ih _ ⟨ob,ob,?_,a4⟩ ob;dsimp only;rw [e,Tg,a3,if_neg om,set_self]
  ·refine aF (GU h) λ v2 hv2=>?_;subst hv2;refine aF mU λ v3 hv3=>?_;subst hv3;refine aO om ?_;refine alA (λ (k:Nat) (g:List gT×List Int)=>∃s:DS,tvo g.1=BS s.a∧g.2=s.lv∧DOk v3 s∧QT v3 (fI v3 d_) (v3.length - k) s=Jc v3 d_) ?_ ?_ ⟨ds0 v3 d_,by dsimp only; rw [a3,show g1.1.toNat=d_.length by omega]; rfl,a4,ahx _ _,rfl⟩
   ·intro k2 dK g2 hk ⟨s,e1,e2,e3,e5⟩ ih2;have hal:g2.1.length=v3.length:=by rw [← aec,e1,UQ,e3.al]
    have hll:g2.2.length=v3.length:=by rw [e2,e3.ll]
    unfold Ee;have hi:v3.length - 1 - k2<v3.length:=by omega
    have hsi:=vs _ hi;have hk1:v3.length - k2=(v3.length - 1 - k2)+1:=by omega
    have hk2:v3.length - (k2+1)=v3.length - 1 - k2:=by omega
    rw [hk1,QT] at e5;generalize hii:v3.length - 1 - k2=i at *;rw [show ((i:Nat):Int).toNat=i from rfl];refine aO om ?_;refine bJ ?_ ?_<;>intro c2
    ·rw [acP c2,afX c2] at e5;exact ih2 _ ⟨s,e1,e2,e3,by rw [hk2]; exact e5⟩
    have hu:(fI v3 d_).getD i false=true:=by simpa using c2
    refine aO om ?_;rw [Zt,e1,EB];refine aF (Y1 om (va _ hi)) λ v6 hv6=>?_;subst hv6;dsimp only;rw [show lvN (v3.getD i au).bK (s.a.getD i O8).yB=uy v3 i s from rfl];refine bJ ?_ ?_<;>intro c3
    ·have hf:wM v3 (fI v3 d_) i s=true:=by unfold wM; rw [hu]; exact c3
     rw [hf] at e5;exact av (by dsimp only; rw [← e5]; dsimp only [cond_true]; rw [e2])
    have hf:wM v3 (fI v3 d_) i s=false:=by unfold wM; rw [hu]; exact c3
    rw [hf] at e5;have c3:=nr c3;have hlv:=adW (va _ hi) (uy v3 i s) om;refine aO om ?_;refine aO om ?_;rw [show ((uy v3 i s:Nat):Int).toNat=uy v3 i s from rfl,show (v3.getD i au).bK.getD (uy v3 i s) 0+(v3.getD i au).gB=mQ v3 i s from rfl];refine aO (by unfold aG mQ; omega) ?_;refine aO (λ e=>by have e:=nr e; omega) ?_;have hok:=adX (u:=fI v3 d_) (i:=i) e3;have hdl:(BR v3 (fI v3 d_) i s).lv=s.lv.set i (uy v3 i s:Int):=by unfold BR; rw [hu]; rfl
    rw [Zt,e1];refine bJ ?_ ?_<;>intro c4
    ·have sO:=c4;have c4:=nr c4;refine aO om ?_;refine ih2 _ ⟨BR v3 (fI v3 d_) i s,?_,by dsimp only; rw [hdl,e2],hok,by rw [hk2]; exact e5⟩;dsimp only;rw [aiM,e1,← afW hu (decide_eq_true c4.1),if_pos c4.2]
    ·refine ih2 _ ⟨BR v3 (fI v3 d_) i s,?_,by dsimp only; rw [hdl,e2],hok,by rw [hk2]; exact e5⟩;dsimp only;rw [e1];rw [EB] at c4;unfold BR;rw [hu,c4];rfl
   ·intro g2 ⟨s,e1,e2,e3,e5⟩;rw [Nat.sub_self,QT] at e5;unfold Ed;exact av (by dsimp only; rw [← e5,e2])
 ·dsimp only;rw [hv1];show _=BS (List.replicate l_.length (⟨0,-1,-1⟩:Dem));unfold BS;rw [List.map_replicate]
open Sp in
theorem MH {l_:List ay} {d_:List bf} (h1:l_.length≤2000000) (h2:d_.length≤2000000):W (Dg l_ d_) (λ r=>r=iL l_ d_):=by
 unfold Dg;refine aF (P:=λ v=>v=qj l_ d_) ?_ λ v1 hv1=>?_
 ·unfold J4;refine aF (yG h1) λ v1 hv1=>?_;subst hv1;refine bJ (λ c1=>av (by unfold qj; rw [c1]; rfl)) (λ c1=>?_);refine aF (Pf h1 h2) λ v2 hv2=>?_;subst hv2;exact bJ (λ c2=>av (by unfold qj; rw [c1,c2]; rfl)) (λ c2=>av (by unfold qj; rw [c1,c2]; rfl))
 subst hv1;refine bJ (λ c1=>av (by unfold iL; rw [c1]; rfl)) (λ c1=>?_);have hdr:=afL (show qj l_ d_=0 by simpa using c1);have hv:=sP hdr;have hl:=hv.len;refine aF (VD hv) λ v2 hv2=>?_;refine aF (GU hv) λ v3 hv3=>?_;subst hv3;have hll:v2.2.1.length≤2000000:=by
  rw [hv2];have:=ajH (u:=fI l_ d_) (DOk l_) (λ i s _ h=>adX h) l_.length (ds0 l_ d_) (Nat.le_refl _) (ahx _ _);have:=this.ll;unfold Jc;dsimp only;omega
 refine aF (qX λ _=>Ph h1 h2 hll) λ v4 hv4=>?_;rw [hv2] at hv4 ⊢;dsimp only at hv4 ⊢;cases q:decide ((0:Int)≤(Jc l_ d_).2) with
 | true=>exact bJ (λ _=>av (by unfold iL; rw [c1,q]; rfl)) (λ c=>by cases c)
 | false=>
  rw [hv4 q];exact bJ (λ c=>av (by unfold iL; rw [c1,q,c]; rfl)) (λ c=>av (by unfold iL; rw [c1,q,c]; rfl))
end Go.Proofs.YtccjmcmolnbiiaaGreatDoor
namespace Go.Proofs.YtccjmcmolnbiiaaGreatDoor
open Go.Ab
set_option maxRecDepth 100000
def Low (C:List Bool→Prop) (ls:List Int) (s:List Bool):Prop:=∀t:List Bool,C t→(∀x∈ls,t.getD x.toNat false=true)→∀i:Nat,s.getD i false=true→t.getD i false=true
structure Lst (n:Nat) (C:List Bool→Prop) (ls:List Int) (s:List Bool):Prop where
 ln:s.length=n
 cl:C s
 mm:∀x∈ls,s.getD x.toNat false=true
 lo:Low C ls s
variable {C:List Bool→Prop} {ls:List Int} {s:List Bool}
theorem Lst.uniq {n:Nat} {ls':List Int} {s':List Bool} (h:Lst n C ls s) (h':Lst n C ls' s') (hm:∀x,x∈ls↔x∈ls'):s=s':=by
 refine Sp.uO false (by rw [h.ln,h'.ln]) λ k _=>Bool.eq_iff_iff.2 ⟨h.lo s' h'.cl (λ x hx=>h'.mm x ((hm x).1 hx)) k,h'.lo s h.cl (λ x hx=>h.mm x ((hm x).2 hx)) k⟩
theorem Zu {n:Nat}:Low C ls (List.replicate n false):=λ t _ _ i h=>by rw [Sp.mP] at h; cases h
theorem vH {a:Nat} {b:Bool} (h:Low C ls s) (hb:b=true→∀t:List Bool,C t→(∀x∈ls,t.getD x.toNat false=true)→t.getD a false=true):Low C ls (s.set a b):=λ t h1 h2 i hi=>by
 by_cases e:i=a
 ·subst e;by_cases q:i<s.length
  ·rw [qo q] at hi; exact hb hi t h1 h2
  ·rw [List.set_eq_of_length_le om] at hi; exact h t h1 h2 i hi
 ·rw [kR e] at hi; exact h t h1 h2 i hi
theorem Yd {i j:Nat} {b:Bool} (hb:s.getD i false=true→b=true) (h:s.getD j false=true):(s.set i b).getD j false=true:=by
 by_cases e:j=i
 ·subst e;by_cases q:j<s.length
  ·rw [qo q]; exact hb h
  ·rw [List.set_eq_of_length_le om]; exact h
 ·rw [kR e]; exact h
theorem aqr {a b:Bool} (h:a=true):(a||b)=true:=by rw [h]; rfl
variable {eT:List Int}
theorem Y2 {l_:List eG} (h1:al6 l_) (h2:∀g∈l_,g.dX.length≤2000000) (h3:eT.length≤100000000000) (h4:∀x∈eT,0≤x∧x<l_.length):W (Dh l_ eT) (Lst l_.length (aaS l_) eT):=by
 obtain ⟨p1,p2⟩:=h1;unfold Dh;refine wn<|bI (λ g1:Int×List Bool=>0≤g1.1∧g1.2.length=l_.length∧(∀j:Nat,(j:Int)<g1.1→g1.2.getD (eT.getD j 0).toNat false=true)∧Low (aaS l_) eT g1.2) (λ g1=>(eT.length - g1.1).toNat) ?_ ⟨ob,by simp,λ j hj=>by (try dsimp only at hj); omega,Zu⟩;intro aj g1 ⟨a1,a2,a3,a4⟩ ih1;unfold Lb;refine wi ?_ ?_<;>intro c
 ·have hm:=getD_in (l:=eT) (i:=g1.1.toNat) 0 om;have hx:=h4 _ hm;refine wm<|wn ?_;refine ih1 _ ⟨ob,by dsimp only; rw [List.length_set]; exact a2,λ j hj=>Gl ?_ om,vH a4 λ _ t _ ht=>ht _ hm⟩ ob;by_cases q:(j:Int)<g1.1
  ·exact .inl (a3 j q)
  ·have e:j=g1.1.toNat:=by (try dsimp only at hj); omega
   subst e; exact .inr rfl
 ·have hmm:∀x∈eT,g1.2.getD x.toNat false=true:=jC 0 λ j hj=>a3 j om;refine wn<|bI (λ g2:Int×List Bool => -1≤g2.1∧g2.1<l_.length∧g2.2.length=l_.length∧(∀x∈eT,g2.2.getD x.toNat false=true)∧Low (aaS l_) eT g2.2∧(∀i:Nat,g2.1<(i:Int)→(i:Int)<l_.length→g2.2.getD i false=true→∀x∈(l_.getD i dz).dX,g2.2.getD x.toNat false=true)) (λ g2=>(g2.1+1).toNat) ?_ ⟨ob,ob,a2,hmm,a4,λ i h1 h2=>by (try dsimp only at h1); omega⟩;intro dK g2 ⟨b1,b2,b3,b4,b5,b6⟩ ih2;unfold La;refine wi ?_ ?_<;>intro c2
  ·refine wn ?_;have hal:=h2 _ (getD_in (i:=g2.1.toNat) dz om);have haf:=p2 g2.1.toNat om;refine bI (λ g5:Int×List Bool=>0≤g5.1∧g5.2.length=l_.length∧(∀x∈eT,g5.2.getD x.toNat false=true)∧Low (aaS l_) eT g5.2∧(∀i:Nat,g2.1<(i:Int)→(i:Int)<l_.length→g5.2.getD i false=true→∀x∈(l_.getD i dz).dX,g5.2.getD x.toNat false=true)∧(∀k:Nat,(k:Int)<g5.1→g5.2.getD g2.1.toNat false=true→g5.2.getD (((l_.getD g2.1.toNat dz).dX).getD k 0).toNat false=true)) (λ g5=>((l_.getD g2.1.toNat dz).dX.length - g5.1).toNat) ?_ ⟨ob,b3,b4,b5,b6,λ k hk=>by (try dsimp only at hk); omega⟩;intro ku g5 ⟨d1,d2,d3,d4,d5,d6⟩ ih5;unfold Ip;refine wi ?_ ?_<;>intro c3
   ·have hxm:=getD_in (l:=(l_.getD g2.1.toNat dz).dX) (i:=g5.1.toNat) 0 om;have hx:=haf _ hxm;refine wm<|aO (λ _=>by omega) ?_;refine wm<|ih5 _ ⟨ob,by dsimp only; rw [List.length_set]; exact d2,λ x hx2=>Yd aqr (d3 x hx2),vH d4 λ hb t h1 h2=>?_,λ i h3 h4 h5 x hx2=>?_,λ k hk h5=>?_⟩ ob
    ·rcases Bool.or_eq_true_iff.1 hb with hb | hb
     ·exact d4 t h1 h2 _ hb
     ·exact h1 g2.1.toNat om (d4 t h1 h2 _ hb) _ hxm
    ·rw [kR om] at h5; exact Yd aqr (d5 i h3 h4 h5 x hx2)
    ·rw [kR om] at h5;by_cases q:(k:Int)<g5.1
     ·exact Yd aqr (d6 k q h5)
     ·have e:k=g5.1.toNat:=by (try dsimp only at hk); omega
      subst e; rw [qo om,h5,Bool.or_true]
   ·refine wn<|ih2 _ ⟨ob,ob,d2,d3,d4,λ i h3 h4 h5=>?_⟩ ob;by_cases q:g2.1<(i:Int)
    ·exact d5 i q h4 h5
    ·have e:i=g2.1.toNat:=by (try dsimp only at h3); omega
     subst e; exact jC 0 λ k hk=>d6 k om h5
  ·exact av ⟨b3,λ i hi=>b6 i om hi,b4,b5⟩
theorem Y3 {l_:List eG} (h1:RsA l_ 0) (h2:∀g∈l_,g.dX.length≤2000000) (h3:eT.length≤100000000000) (h4:∀x∈eT,0≤x∧x<l_.length):W (Di l_ eT) (λ r=>Lst l_.length (aaS l_) eT r.1):=by
 unfold Di;refine aF (EH h2) λ v1 hv1=>?_;have e1:=RsA.fun _ _ hv1 h1;subst e1;refine bJ (λ c1=>by cases c1) (λ _=>?_);refine bI (λ g1:Int=>0≤g1) (λ g1=>(eT.length - g1).toNat) ?_ (Int.le_refl _);intro aj g1 a1 ih1;unfold Lc;refine bJ ?_ ?_<;>intro c
 ·have c:=nr c;have hx:=h4 _ (getD_in (i:=g1.toNat) 0 om);refine wn<|bJ (λ c2=>by have c2:=nr c2; omega) (λ c2=>?_);refine wn ?_;exact ih1 _ om om
 ·exact aF (Y2 h1.ok h2 h3 h4) λ v2 hv2=>av hv2
variable {eP:List Int}
theorem VE {l_:List dF} (h1:DmA l_ 0) (h3:eP.length≤100000000000) (h4:∀x∈eP,0≤x∧x<l_.length):W (xO l_ eP) (λ r=>r=0):=by
 unfold xO;refine aF Ca λ v1 hv1=>?_;have e1:=DmA.fun _ _ hv1 h1;subst e1;refine bJ (λ c1=>by cases c1) (λ _=>?_);refine bI (λ g1:Int=>0≤g1) (λ g1=>(eP.length - g1).toNat) ?_ (Int.le_refl _);intro aj g1 a1 ih1;unfold FK;refine bJ (λ c=>?_) (λ c=>av rfl);have c:=nr c;have hx:=h4 _ (getD_in (i:=g1.toNat) 0 om);refine wn<|bJ (λ c2=>by have c2:=nr c2; omega) (λ c2=>?_);refine wn ?_;exact ih1 _ om om
variable {k:Nat}
theorem amC {l:List dF} {g:Nat} {b:Bool} (hg:g<s.length) (hb1:s.getD g false=true→b=true) (hb2:(l.getD g dI).fM=true→b=true) (hn:¬ (b=true∧0≤(l.getD g dI).aM)) (h:k≠g→RgK l s k):RgK l (s.set g b) k:=by
 by_cases e:k=g
 ·subst e;refine ⟨λ h1=>by rw [qo hg]; exact hb2 h1,λ h1 h2=>?_⟩;rw [qo hg] at h1;exact absurd ⟨h1,h2⟩ hn
 ·obtain ⟨h1,h2⟩:=h e;refine ⟨λ q=>by rw [kR e]; exact h1 q,λ q1 q2=>?_⟩;rw [kR e] at q1;exact Yd hb1 (h2 q1 q2)
theorem aoq {l:List dF} {g p:Nat} {b:Bool} (hg:g<s.length) (hp:p<g) (e:(l.getD g dI).aM.toNat=p) (hb1:s.getD g false=true→b=true) (hb:b=true) (hk:k≠p) (h:k≠g→RgK l s k):RgK l ((s.set g b).set p true) k:=by
 have hl:p<(s.set g b).length:=by rw [List.length_set]; omega
 by_cases q:k=g
 ·subst q;refine ⟨λ _=>by rw [kR hk,qo hg]; exact hb,λ _ _=>?_⟩;rw [e]; exact qo hl
 ·obtain ⟨h1,h2⟩:=h q;refine ⟨λ q1=>by rw [kR hk,kR q]; exact h1 q1,λ q1 q2=>?_⟩;rw [kR hk,kR q] at q1;exact Yd (λ _=>rfl) (Yd hb1 (h2 q1 q2))
theorem aed {l_:List dF} (h1:DmA l_ 0) (h3:eP.length≤2000000) (h4:∀x∈eP,0≤x∧x<l_.length):W (Ql l_ eP) (λ r=>Lst l_.length (af2 l_) eP r.1):=by
 obtain ⟨p1,p2⟩:=h1.ok;unfold Ql;refine aF (VE h1 om h4) λ v1 hv1=>?_;subst hv1;refine bJ (λ c1=>by cases c1) (λ _=>?_);refine wm<|bI (λ g1:Int×List Bool => -1≤g1.1∧g1.1<l_.length∧g1.2.length=l_.length∧(∀x∈eP,g1.1<x→g1.2.getD x.toNat false=true)∧Low (af2 l_) eP g1.2∧∀k:Nat,g1.1<(k:Int)→(k:Int)<l_.length→RgK l_ g1.2 k) (λ g1=>(g1.1+1).toNat) ?_ ⟨ob,ob,by simp,λ x hx q=>by have:=h4 x hx; (try dsimp only at q); omega,Zu,λ k h1 h2=>by (try dsimp only at h1); omega⟩;intro aj g1 ⟨a1,a2,a3,a4,a5,a6⟩ ih1;unfold Uo;refine wi ?_ ?_<;>intro c
 ·have hp:=p2 g1.1.toNat om;refine wn<|aO (λ _=>by omega) ?_;refine aF (qX λ _=>wQ (gZ om)) λ v7 hv7=>?_;refine wn ?_;unfold J8;generalize hb:((g1.2.getD g1.1.toNat false||(l_.getD g1.1.toNat dI).fM)||v7)=b;have hb1:g1.2.getD g1.1.toNat false=true→b=true:=λ e=>by rw [← hb,e]; rfl
  have hb2:(l_.getD g1.1.toNat dI).fM=true→b=true:=λ e=>by rw [← hb,e,Bool.or_true]; rfl
  have hb3:g1.1∈eP→b=true:=λ e=>by
   cases q:(g1.2.getD g1.1.toNat false||(l_.getD g1.1.toNat dI).fM) with
   | true=>rw [← hb,q]; rfl
   | false=>rw [← hb,q,hv7 q,List.contains_iff_mem.2 e]; rfl
  have hb4:b=true→∀t:List Bool,af2 l_ t→(∀x∈eP,t.getD x.toNat false=true)→t.getD g1.1.toNat false=true:=λ e t h1 h2=>by
   cases q:(g1.2.getD g1.1.toNat false||(l_.getD g1.1.toNat dI).fM) with
   | true=>
    rcases Bool.or_eq_true_iff.1 q with q | q
    ·exact a5 t h1 h2 _ q
    ·exact h1.al _ om q
   | false=>
    rw [q,hv7 q] at hb;rw [← hb] at e;exact h2 _ (List.contains_iff_mem.1 e)
  have hsl:(g1.2.set g1.1.toNat b).length=l_.length:=by rw [List.length_set]; exact a3
  have hus:∀x∈eP,g1.1 - 1<x→(g1.2.set g1.1.toNat b).getD x.toNat false=true:=λ x hx q=>by
   by_cases e:x=g1.1
   ·subst e; rw [qo om]; exact hb3 hx
   ·exact Yd hb1 (a4 x hx om)
  refine aO om ?_;refine aO (λ _=>by omega) ?_;refine bJ ?_ ?_<;>intro c2
  ·rw [qo om] at c2;have c2:=nr c2;refine wn<|aO om ?_;refine wn<|ih1 _ ⟨ob,ob,by dsimp only; rw [List.length_set]; exact hsl,λ x hx q=>Yd (λ _=>rfl) (hus x hx q),vH (vH a5 hb4) λ _ t h1 h2=>h1.pa _ om (hb4 c2.1 t h1 h2) c2.2,λ k h1 h2=>?_⟩ ob;exact aoq om om rfl hb1 c2.1 (by (try dsimp only at h1); omega) λ e=>a6 k (by (try dsimp only at h1); omega) h2
  ·rw [qo om] at c2;refine wn<|ih1 _ ⟨ob,ob,hsl,hus,vH a5 hb4,λ k h1 h2=>?_⟩ ob;exact amC om hb1 hb2 (λ q=>by rw [q.1,decide_eq_true q.2] at c2; cases c2) λ e=>a6 k (by (try dsimp only at h1); omega) h2
 ·exact av ⟨a3,⟨λ i hi=>(a6 i om hi).1,λ i hi=>(a6 i om hi).2⟩,λ x hx=>a4 x hx (by have:=h4 x hx; omega),a5⟩
def jn {α:Type} (f:aJ→List α) (l:List aJ) (ms:List Int):List α:=ms.flatMap λ m=>f (l.getD m.toNat bB)
variable {α:Type} {l:List aJ} {ms:List Int}
theorem Az {f:aJ→List α} {i:Nat} (h:i<ms.length):jn f l (ms.take (i+1))=jn f l (ms.take i)++f (l.getD (ms.getD i 0).toNat bB):=by
 unfold jn;rw [gP 0 h,List.flatMap_append,List.flatMap_cons,List.flatMap_nil,List.append_nil]
theorem EW {f:aJ→List α} {c:Nat}:∀ {ms:List Int},(∀m∈ms,(f (l.getD m.toNat bB)).length≤c)→(jn f l ms).length≤c*ms.length:=by
 intro ms;induction ms with
 | nil=>intro _; exact Nat.zero_le _
 | cons m ms ih=>
  intro h;have h1:=h m List.mem_cons_self;have h2:=ih λ x hx=>h x (List.mem_cons_of_mem _ hx);unfold jn at h2 ⊢;rw [List.flatMap_cons,List.length_append,List.length_cons,Nat.mul_succ];omega
theorem Gy {of:aJ→M (List α)} {f:aJ→List α} (hof:∀x,W (of x) (λ r=>r=f x)) (hf:∀x∈l,(f x).length≤2000000) (hin:∀m∈ms,0≤m∧m<l.length) (hm:ms.length≤10000) (hk:k≤64):W (dn (λ (self:Int×List α→M (List α)) g1=>
 bif (decide (g1.1<(ms.length:Int))) then
  need (0≤g1.1∧g1.1<(ms.length:Int))<|
  bif ((decide ((0:Int)≤(ms.getD g1.1.toNat 0)))&&(decide ((ms.getD g1.1.toNat 0)<(l.length:Int)))) then
   need (0≤(ms.getD g1.1.toNat 0)∧(ms.getD g1.1.toNat 0)<(l.length:Int))<|
   bnd (of (l.getD ((ms.getD g1.1.toNat 0).toNat) bB)) λ v3=>
   need ((g1.2.length+v3.length)*k≤big)<|
   need (aG (g1.1+(1:Int)))<|
   self ((g1.1+(1:Int)),(g1.2++v3))
  else
   need (aG (g1.1+(1:Int)))<|
   self ((g1.1+(1:Int)),g1.2)
 else
  ret g1.2) ((0:Int),([]:List α))) (λ r=>r=jn f l ms):=by
 refine bI (λ g1:Int×List α=>0≤g1.1∧g1.1≤ms.length∧g1.2=jn f l (ms.take g1.1.toNat)) (λ g1=>(ms.length - g1.1).toNat) ?_ ⟨ob,ob,rfl⟩;intro self g1 ⟨h1,h2,h3⟩ ih;refine wi ?_ ?_<;>intro c
 ·have hx:=hin _ (getD_in (i:=g1.1.toNat) 0 om);have hl:=EW (f:=f) (l:=l) (c:=2000000) (ms:=ms.take g1.1.toNat) λ m q=>hf _ (getD_in bB (by have:=hin m (List.mem_of_mem_take q); omega));rw [← h3,List.length_take] at hl;refine wn<|bJ (λ c2=>?_) (λ c2=>by rw [decide_eq_true hx.1,decide_eq_true hx.2] at c2; cases c2);refine aO hx ?_;refine aF (hof _) λ v hv=>?_;have hv2:=hf _ (getD_in (i:=(ms.getD g1.1.toNat 0).toNat) bB om);rw [← hv] at hv2;have hb:(g1.2.length+v.length)*k≤(g1.2.length+v.length)*64:=Nat.mul_le_mul_left _ hk;refine aO (by unfold big; omega) ?_;refine wn ?_;exact ih _ ⟨ob,ob,by dsimp only; rw [show (g1.1+1).toNat=g1.1.toNat+1 by omega,Az om,h3,hv]⟩ ob
 ·exact av (by rw [h3,List.take_of_length_le om])
def usF (n:aJ):List Int:=bif decide (n.fT<0) then [] else [n.fT]
theorem Zv (n:aJ):(usF n).length≤1:=by
 unfold usF;cases decide (n.fT<0)<;>simp
structure AgA (b:aS) (l:List aJ) (ms:List Int) (us:List aR) (x:bg):Prop where
 st:af7 b.bS (jn aJ.bU l ms) x.dG
 ra:Sp.iL b.bG (jn aJ.fF l ms)=(x.fC,0)
 us:x.bZ=vZ ms us
 re:Lst b.bq.length (aaS b.bq) (jn aJ.bq l ms) x.d9
 po:Lst b.cO.length (af2 b.cO) (jn usF l ms) x.fB
def SmN (l:List aJ):Prop:=∀x∈l,x.bU.length≤1∧x.fF.length≤1∧x.ak.length≤2
structure Y4 (b:aS) (l:List aJ) (ms:List Int):Prop where
 df:vW l ms
 ml:ms.length≤6
 ft:∃t,VS b.bS t∧fq b.bS t (jn aJ.bU l ms)=true
 le:(Sp.iL b.bG (jn aJ.fF l ms)).2=0
 fc:(jn aJ.ak l ms).length≤10
theorem EX (h:vW l ms):∀m∈ms,0≤m∧m<l.length:=jC 0 λ j hj=>(h j om).1
theorem z8 (h:vW l ms) {m:Int} (hm:m∈ms):l.getD m.toNat bB∈l:=getD_in bB (by have:=EX h m hm; omega)
variable {b_:aS} {l_:List aJ}
theorem PZ {ah:List Int} (h1:Bq b_) (h2:GSz b_.aT) (h3:Jf l_) (hn:lT b_ l_ 0) (hd:vW l_ ah) (h4:ah.length≤10000):W (AY b_ l_ ah) (λ r=>r=0):=by
 unfold AY;refine aF (R4 h1 h2 h3) λ v1 hv1=>?_;have e:=lT.fun _ _ hv1 hn;subst e;refine bJ (λ c1=>by cases c1) (λ _=>?_);refine bI (λ g1:Int=>0≤g1) (λ g1=>(ah.length - g1).toNat) ?_ (Int.le_refl _);intro aj g1 a1 ih1;unfold NZ;refine bJ (λ c=>?_) (λ c=>av rfl);have c:=nr c;obtain ⟨hx,hk⟩:=hd g1.toNat om;refine wn<|aO (λ _=>by omega) ?_;have hz:(decide (ah.getD g1.toNat 0<0)||decide ((l_.length:Int)≤ah.getD g1.toNat 0))=false:=by
  rw [Bool.or_eq_false_iff,decide_eq_false_iff_not,decide_eq_false_iff_not]; omega
 refine aF (qX λ _=>wQ (gZ (by rw [List.length_take]; omega))) λ v4 hv4=>?_;have e4:v4=false:=by
  rw [hv4 hz];cases q:(ah.take g1.toNat).contains (ah.getD g1.toNat 0) with
  | false=>rfl
  | true=>
   obtain ⟨k,k1,k2⟩:=(G5 om).1 q;exact absurd k2 (hk k k1)
 rw [hz,e4];refine bJ (λ c2=>by cases c2) (λ _=>?_);exact aO ob (ih1 _ om om)
variable {b:aS}
theorem VF (hn:lT b l 0) (hs:SmN l) (hd:vW l ms) (h4:ms.length≤6):kM b.bS (jn aJ.bU l ms)=true∧(jn aJ.bU l ms).length≤6:=by
 obtain ⟨hb,_,hnd⟩:=tT hn;have hl:=EW (f:=aJ.bU) (l:=l) (c:=1) (ms:=ms) λ m hm=>(hs _ (z8 hd hm)).1;refine ⟨?_,om⟩;unfold kM;rw [hb.cl,decide_eq_true om,List.any_eq_false.2 λ x hx=>?_]
 ·rfl
 obtain ⟨m,hm,hx⟩:=List.mem_flatMap.1 hx;obtain ⟨x1,x2,x3,x4,x5⟩:=(hnd _ (z8 hd hm)).lm x hx;rw [afA];simp only [Bool.or_eq_true,decide_eq_true_eq];omega
theorem QG (hn:lT b l 0) (hs:SmN l) (hd:vW l ms) (h4:ms.length≤6):Sp.iB b.bG (jn aJ.fF l ms)=true∧(jn aJ.fF l ms).length≤6:=by
 obtain ⟨hb,_,hnd⟩:=tT hn;have hl:=EW (f:=aJ.fF) (l:=l) (c:=1) (ms:=ms) λ m hm=>(hs _ (z8 hd hm)).2.1;refine ⟨?_,om⟩;unfold Sp.iB;rw [hb.su,decide_eq_true om,List.any_eq_false.2 λ x hx=>?_]
 ·rfl
 obtain ⟨m,hm,hx⟩:=List.mem_flatMap.1 hx;obtain ⟨x1,x2,x3,x4,x5,x6,x7⟩:=(hnd _ (z8 hd hm)).dw x hx;unfold Sp.aaI Sp.dL;simp only [Bool.or_eq_true,Bool.not_eq_true',Bool.and_eq_false_iff,decide_eq_false_iff_not];omega
theorem VG (h:lT b l 0):yV b.aT 0∧RsA b.bq 0∧DmA b.cO 0:=by
 obtain ⟨h1,_⟩:=Pv h;obtain ⟨_,h3⟩:=Pv h1;obtain ⟨_,h4⟩:=Pv h3;obtain ⟨b3,h5⟩:=Pv h4;exact ⟨b3,Pv h5⟩
variable {yQ:List Int}
theorem yP {iJ:List aR} (h1:Bq b_) (h3:Jf l_) (hn:lT b_ l_ 0) (hs:SmN l_) (ha:Y4 b_ l_ yQ) (h5:iJ.length≤2000000):W (lg b_ l_ yQ iJ) (λ r=>r.2.2.2.2.2.2.1=0∧AgA b_ l_ yQ iJ ⟨r.1,⟨r.2.1,r.2.2.1⟩,r.2.2.2.2.2.2.2,r.2.2.2.1,r.2.2.2.2.1⟩):=by
 obtain ⟨z1,z2,z3,z4,z5,z6,z7⟩:=h1;obtain ⟨hd,h4,hft,hle,hfl⟩:=ha;have hin:=EX hd;obtain ⟨hb,_,hnd⟩:=tT hn;obtain ⟨_,hra,hda⟩:=VG hn;obtain ⟨hlb,hll⟩:=VF hn hs hd h4;obtain ⟨hdb,hdl⟩:=QG hn hs hd h4;have hul:=EW (f:=usF) (l:=l_) (c:=1) (ms:=yQ) λ m _=>Zv _;have hrl:=EW (f:=aJ.bq) (l:=l_) (c:=2000000) (ms:=yQ) λ m hm=>(h3.nd _ (z8 hd hm)).1;unfold lg;refine aF (P:=λ r=>r=jn aJ.bU l_ yQ) (aF (Gy (k:=24) (of:=xC) (f:=aJ.bU) (λ x=>av rfl) (λ x hx=>by have:=(hs x hx).1; omega) hin om om) λ _ h=>av h) λ v1 hv1=>?_;refine aF (P:=λ r=>r=jn aJ.fF l_ yQ) (aF (Gy (k:=32) (of:=Ae) (f:=aJ.fF) (λ x=>av rfl) (λ x hx=>by have:=(hs x hx).2.1; omega) hin om om) λ _ h=>av h) λ v2 hv2=>?_;subst hv1 hv2;have hz:(decide ((32:Int)<(((jn aJ.bU l_ yQ).length:Nat):Int))||decide ((32:Int)<(((jn aJ.fF l_ yQ).length:Nat):Int)))=false:=by
  rw [Bool.or_eq_false_iff,decide_eq_false_iff_not,decide_eq_false_iff_not]; omega
 rw [hz];refine bJ (λ _=>?_) (λ c=>by cases c);refine aF (P:=λ r=>r=jn aJ.ak l_ yQ) (aF (Gy (k:=16) (of:=qY) (f:=aJ.ak) (λ x=>av rfl) (λ x hx=>by have:=(hs x hx).2.2; omega) hin om om) λ _ h=>av h) λ v3 hv3=>?_;subst hv3;refine bJ (λ c2=>by rw [Bool.false_or] at c2; have:=of_decide_eq_true c2; omega) (λ _=>?_);refine aF (Y0 hlb hft) λ v4 ⟨e4,hv4⟩=>?_;rw [e4];refine bJ (λ c3=>by cases c3) (λ _=>?_);refine aF (MH z3 om) λ v5 hv5=>?_;have e5:v5.2=0:=by rw [hv5]; exact hle
 rw [e5];refine bJ (λ c3=>by cases c3) (λ _=>?_);refine bI (λ g1:Int×List aR=>0≤g1.1∧g1.1≤iJ.length∧g1.2=vZ yQ (iJ.take g1.1.toNat)) (λ g1=>(iJ.length - g1.1).toNat) ?_ ⟨ob,ob,rfl⟩;intro aj g1 ⟨a1,a2,a3⟩ ih1;have hl:g1.2.length≤g1.1.toNat:=by
  rw [a3]; unfold vZ;exact Nat.le_trans (List.length_filter_le _ _) (by rw [List.length_take]; omega)
 unfold Ld;refine wi ?_ ?_<;>intro c
 ·refine wn ?_;have hs:=o9 (λ u:aR=>yQ.contains u.gF) iJ bC (i:=g1.1.toNat) om;have e:(g1.1+1).toNat=g1.1.toNat+1:=by omega
  refine aF (wQ (gZ om)) λ v8 vU=>?_;refine bJ ?_ ?_<;>intro c2
  ·rw [c2] at vU;refine aO (by unfold big; omega) ?_;refine wn<|ih1 _ ⟨ob,ob,?_⟩ ob;dsimp only;unfold vZ at a3 ⊢;rw [e,hs,← a3,if_pos vU.symm]
  ·rw [c2] at vU;refine wn<|ih1 _ ⟨ob,ob,?_⟩ ob;dsimp only;unfold vZ at a3 ⊢;rw [e,hs,← a3,if_neg (by rw [← vU]; exact Bool.false_ne_true),List.append_nil]
 ·refine aF (Gy (k:=8) (of:=GK) (f:=aJ.bq) (λ x=>av rfl) (λ x hx=>(h3.nd x hx).1) hin om om) λ v9 Wx=>?_;subst Wx;refine aF (Y3 hra z6 om λ x hx=>?_) λ v10 Ji=>?_
  ·obtain ⟨m,hm,hx⟩:=List.mem_flatMap.1 hx;exact (hnd _ (z8 hd hm)).rs x hx
  refine aF (Gy (k:=8) (of:=GL) (f:=usF) (λ x=>bJ (λ c=>av (by unfold usF; rw [c]; rfl)) (λ c=>av (by unfold usF; rw [c]; rfl))) (λ x _=>by have:=Zv x; omega) hin om om) λ v11 ad2=>?_;subst ad2;refine aF (aed hda om λ x hx=>?_) λ v12 MR=>?_
  ·obtain ⟨m,hm,hx⟩:=List.mem_flatMap.1 hx;have hdm:=(hnd _ (z8 hd hm)).dm;unfold usF at hx;cases q:decide ((l_.getD m.toNat bB).fT<0) with
   | true=>rw [q] at hx; cases hx
   | false=>
    rw [q] at hx;have:=of_decide_eq_false q;have hx:=List.mem_singleton.1 hx;omega
  refine av ⟨rfl,⟨hv4,?_,?_,Ji,MR⟩⟩
  ·dsimp only;rw [← hv5];exact Prod.ext rfl e5
  ·dsimp only;rw [a3,List.take_of_length_le om]
variable {g_:bg}
theorem abk (h1:Bq b_) (h2:GSz b_.aT) (h3:Jf l_) (hn:lT b_ l_ 0) (hs:SmN l_) (ha:Y4 b_ l_ yQ) (h5:g_.bZ.length≤2000000):W (Gi b_ l_ yQ g_) (λ r=>r.2.2=0∧AgA b_ l_ yQ g_.bZ r.1):=by
 unfold Gi;refine aF (PZ h1 h2 h3 hn ha.df (by have:=ha.ml; omega)) λ v1 hv1=>?_;subst hv1;refine bJ (λ c=>by cases c) (λ _=>?_);exact aF (yP h1 h3 hn hs ha h5) λ v2 hv2=>av hv2
theorem Xy {l:List aI} {s:List Int} {m:List bN}:fq l s m=true↔kM l m=true∧l6 l s=true∧ownB l (gD l s)=true∧∀x∈m,S9 (gD l s) x=false:=by
 unfold fq;rw [Bool.and_eq_true,Bool.and_eq_true,Bool.and_eq_true,Bool.not_eq_true',and_assoc];refine and_congr_right λ _=>and_congr_right λ _=>and_congr_right λ _=>?_;constructor
 ·intro h x hx;cases q:S9 (gD l s) x with
  | false=>rfl
  | true=>rw [List.any_eq_true.2 ⟨x,hx,q⟩] at h; cases h
 ·intro h;exact List.any_eq_false.2 λ x hx=>by rw [h x hx]; decide
theorem JD {l:List aI} {s:List Int} {m m':List bN} (h:fq l s m=true) (hl:kM l m'=true) (hm:∀x∈m',x∈m):fq l s m'=true:=by
 obtain ⟨_,h2,h3,h4⟩:=Xy.1 h;exact Xy.2 ⟨hl,h2,h3,λ x hx=>h4 x (hm x hx)⟩
variable {ms':List Int}
theorem ahO {f:aJ→List α} (h:∀m∈ms',m∈ms):∀x∈jn f l ms',x∈jn f l ms:=λ x hx=>by
 obtain ⟨m,hm,hx⟩:=List.mem_flatMap.1 hx;exact List.mem_flatMap.2 ⟨m,h m hm,hx⟩
theorem aga (hn:lT b l 0) (hs:SmN l) (hp:ms.Perm ms') (h1:vW l ms) (h2:ms.length≤6):Sp.iL b.bG (jn aJ.fF l ms)=Sp.iL b.bG (jn aJ.fF l ms'):=Sp.ahA (hp.flatMap_right _) (QG hn hs h1 h2).1
theorem aor {f:aJ→List α} (h:ms.Perm ms'):(jn f l ms).length=(jn f l ms').length:=(h.flatMap_right _).length_eq
theorem amD {f:aJ→List α} {a c:List Int}:jn f l (a++c)=jn f l a++jn f l c:=by
 unfold jn;rw [List.flatMap_append]
theorem aiN (hs:SmN l) (hd:vW l ms) (h:ms.length≤5):(jn aJ.ak l ms).length≤10:=by
 have:=EW (f:=aJ.ak) (l:=l) (c:=2) (ms:=ms) λ m hm=>(hs _ (z8 hd hm)).2.2;omega
variable {us:List aR} {x:bg}
theorem amE {y:bg} (hn:lT b l 0) (hs:SmN l) (ha:Y4 b l ms) (ha':Y4 b l ms') (hp:ms.Perm ms') (h:AgA b l ms us x) (h':AgA b l ms' us y):
  x.dG=y.dG∧x.fC=y.fC∧x.d9=y.d9∧x.fB=y.fB:=by
 have hm:∀ {α:Type} (f:aJ→List α) (x:α),x∈jn f l ms↔x∈jn f l ms':=λ f x=>⟨ahO (λ m hm=>hp.mem_iff.1 hm) x,ahO (λ m hm=>hp.mem_iff.2 hm) x⟩
 refine ⟨h.st.uniq h'.st λ t=>Bool.eq_iff_iff.2 ⟨λ q=>JD q (VF hn hs ha'.df ha'.ml).1 λ x hx=>(hm _ x).2 hx,λ q=>JD q (VF hn hs ha.df ha.ml).1 λ x hx=>(hm _ x).1 hx⟩,?_,h.re.uniq h'.re (hm _),h.po.uniq h'.po (hm _)⟩;have:=h.ra;rw [aga hn hs hp ha.df ha.ml] at this;exact (Prod.mk.inj (this.symm.trans h'.ra)).1
theorem lJ {p:Prop} {c:Int} {A:Int→Prop} (h:¬p) (a:A 0):KA p c A 0:=.inr ⟨h,a⟩
theorem abl (hn:lT b l 0) (hs:SmN l) (ha:Y4 b l ms) (h:AgA b l ms us x) (ho:G6 b.aT (x.bZ.map aR.jN)) (hf:aoh b l ms x):YH b l ms x false 0:=by
 obtain ⟨hd,h4,_,_,_⟩:=ha;obtain ⟨s1,s2,s3⟩:=h.st;obtain ⟨hpa,hra,hda⟩:=VG hn;obtain ⟨_,_,hnd⟩:=tT hn;obtain ⟨m1,m2,m3,m4⟩:=Xy.1 s2;have hmt:fq b.bS x.dG []=true:=JD s2 (by unfold kM; rw [(yx m1).1]; rfl) nofun;have hll:(Sp.iL b.bG (jn aJ.fF l ms)).2=0:=by rw [h.ra]
 have hlr:=Sp.QF hll;rw [h.ra] at hlr;have hmi:∀i:Nat,(i:Int)<ms.length→ms.getD i 0∈ms:=λ i hi=>getD_in 0 om;have hin:∀ {α:Type} (f:aJ→List α) (i:Nat),(i:Int)<ms.length→∀x∈f (l.getD (ms.getD i 0).toNat bB),x∈jn f l ms:=λ f i hi x hx=>List.mem_flatMap.2 ⟨_,hmi i hi,hx⟩;refine lJ (λ q=>q hn) (lJ (λ q=>q ⟨hd,⟨by rw [s1.1],by rw [hlr.1],by rw [hlr.2],by rw [h.re.ln],by rw [h.po.ln]⟩,λ i hi=>s1.2 i (by rw [s1.1] at hi; omega),λ i hi=>?_⟩) (lJ (by rw [hmt]; decide) (lJ (λ q=>q λ i hi j hj=>?_) (lJ ?_ (lJ (λ q=>q ⟨hpa,ho⟩) (lJ (λ q=>q hf) (lJ (λ q=>q ⟨⟨hra,by rw [h.re.ln],λ i hi j hj e=>h.re.cl i hi e _ (getD_in 0 om)⟩,λ i hi j hj=>?_⟩) (lJ (λ q=>q ⟨⟨hda,by rw [h.po.ln],λ i hi=>⟨λ e=>h.po.cl.al i hi e,λ e=>h.po.cl.pa i hi e⟩⟩,λ i hi e=>?_⟩) rfl))))))))
 ·have hu:=getD_in (l:=x.bZ) (i:=i) bC om;have hu2:x.bZ.getD i bC∈vZ ms us:=by rw [← h.us]; exact hu
  have hx:=EX hd _ (List.contains_iff_mem.1 (List.mem_filter.1 hu2).2);omega
 ·have hx:=getD_in (l:=(l.getD (ms.getD i 0).toNat bB).bU) (i:=j) dx om;refine (Tk hmt ((hnd _ (z8 hd (hmi i hi))).lm _ hx)).1 (JD s2 ?_ λ y hy=>?_)
  ·obtain ⟨q1,q2,q3⟩:=yx m1;have:=Ja m1 _ (hin aJ.bU i hi _ hx);unfold kM;rw [q1,List.any_cons,List.any_nil,Bool.or_false];rw [show MS b.bS.length ⟨((l.getD (ms.getD i 0).toNat bB).bU.getD j dx).eZ,((l.getD (ms.getD i 0).toNat bB).bU.getD j dx).Low,((l.getD (ms.getD i 0).toNat bB).bU.getD j dx).fP⟩=false from this];rfl
  ·rw [List.mem_singleton] at hy;rw [hy]; exact hin aJ.bU i hi _ hx
 ·rcases Sp.zN (QG hn hs hd h4).1 with ⟨_,q⟩ | ⟨q,_⟩
  ·rw [h.ra] at q;have:=q.ok;show ¬ Sp.fq b.bG x.fC (jn aJ.fF l ms)=false;rw [this]; decide
  ·rw [h.ra] at q; exact absurd (Prod.mk.inj q).2 (by decide)
 ·exact h.re.mm _ (hin aJ.bq i hi _ (getD_in 0 om))
 ·refine h.po.mm _ (hin usF i hi _ ?_);unfold usF;rw [decide_eq_false om];exact List.mem_singleton.2 rfl
theorem abm {ah:List Int} {aU:Int} (h1:Bq b_) (h2:GSz b_.aT) (h3:Jf l_) (h4:ah.length≤10000) (h5:MV g_):W (Dx b_ l_ ah g_ aU) (λ r=>r=0→lT b_ l_ 0∧(yV b_.aT 0∧G6 b_.aT (g_.bZ.map aR.jN))∧0≤aU∧aU<l_.length):=by
 unfold Dx;refine aF (Aw h1 h2 h3) λ v1 hv1=>?_;refine bJ ?_ ?_<;>intro c1
 ·have c1:=nr c1;exact av λ e=>absurd e c1
 have c1:=nr c1;rw [c1] at hv1;have hl:=(tT hv1).2.1;refine aF (tO om om) λ v2 _=>?_;refine bJ (λ c2=>av nofun) (λ c2=>?_);refine aF (P:=λ v=>v=true→yV b_.aT 0∧G6 b_.aT (g_.bZ.map aR.jN)) ?_ λ v3 hv3=>?_
 ·unfold OI;refine aF (YK h1 h2 h3 h4 h5) λ v hv=>av λ e=>?_;have e:v=0:=by simpa using e
  rw [e] at hv;exact aon hv
 refine bJ (λ c3=>av nofun) (λ c3=>?_);have c3:=nr c3;refine bJ (λ c4=>av nofun) (λ c4=>?_);have c4:=nr c4;exact av λ _=>⟨hv1,hv3 c3,c4.1,c4.2⟩
theorem VH {f:aJ→List α} (hf:∀x∈l,(f x).length≤2000000) (hin:∀m∈ms,0≤m∧m<l.length) (hm:ms.length≤10000) (hk:k≤64):W (dn (λ (self:Int×List α→M (List α)) g1=>
 bif (decide (g1.1<(ms.length:Int))) then
  need (0≤g1.1∧g1.1<(ms.length:Int))<|
  bif ((decide ((0:Int)≤(ms.getD g1.1.toNat 0)))&&(decide ((ms.getD g1.1.toNat 0)<(l.length:Int)))) then
   need (0≤(ms.getD g1.1.toNat 0)∧(ms.getD g1.1.toNat 0)<(l.length:Int))<|
   need ((g1.2.length+(f (l.getD ((ms.getD g1.1.toNat 0).toNat) bB)).length)*k≤big)<|
   need (aG (g1.1+(1:Int)))<|
   self ((g1.1+(1:Int)),(g1.2++f (l.getD ((ms.getD g1.1.toNat 0).toNat) bB)))
  else
   need (aG (g1.1+(1:Int)))<|
   self ((g1.1+(1:Int)),g1.2)
 else
  ret g1.2) ((0:Int),([]:List α))) (λ r=>r=jn f l ms):=by
 refine bI (λ g1:Int×List α=>0≤g1.1∧g1.1≤ms.length∧g1.2=jn f l (ms.take g1.1.toNat)) (λ g1=>(ms.length - g1.1).toNat) ?_ ⟨ob,ob,rfl⟩;intro self g1 ⟨h1,h2,h3⟩ ih;refine wi ?_ ?_<;>intro c
 ·have hx:=hin _ (getD_in (i:=g1.1.toNat) 0 om);have hl:=EW (f:=f) (l:=l) (c:=2000000) (ms:=ms.take g1.1.toNat) λ m q=>hf _ (getD_in bB (by have:=hin m (List.mem_of_mem_take q); omega));rw [← h3,List.length_take] at hl;have hv2:=hf _ (getD_in (i:=(ms.getD g1.1.toNat 0).toNat) bB om);have hb:(g1.2.length+(f (l.getD ((ms.getD g1.1.toNat 0).toNat) bB)).length)*k≤(g1.2.length+(f (l.getD ((ms.getD g1.1.toNat 0).toNat) bB)).length)*64:=Nat.mul_le_mul_left _ hk;refine wn<|bJ (λ c2=>?_) (λ c2=>by rw [decide_eq_true hx.1,decide_eq_true hx.2] at c2; cases c2);refine aO hx ?_;refine aO (by unfold big; omega) ?_;refine wn ?_;exact ih _ ⟨ob,ob,by dsimp only; rw [show (g1.1+1).toNat=g1.1.toNat+1 by omega,Az om,h3]⟩ ob
 ·exact av (by rw [h3,List.take_of_length_le om])
theorem P5 {l_:List Int} {x_:Int} (h:l_.length≤2000000):W (IL l_ x_) (λ r=>r=l_.contains x_):=by
 unfold IL;refine bI (λ g1:Int=>0≤g1∧∀j:Nat,(j:Int)<g1→l_.getD j 0≠x_) (λ g1=>(l_.length - g1).toNat) ?_ ⟨ob,λ j hj=>by omega⟩;intro aj g1 ⟨a1,a2⟩ ih1;unfold XZ;refine wi ?_ ?_<;>intro c
 ·refine wn<|wi ?_ ?_<;>intro c2
  ·refine av (List.contains_iff_mem.2 ?_).symm;rw [← c2]; exact getD_in 0 om
  ·exact aO ob (ih1 _ ⟨om,dU a2 a1 c2⟩ om)
 ·refine av ?_;cases q:l_.contains x_ with
  | false=>rfl
  | true=>
   have:∀y∈l_,y≠x_:=jC 0 λ j hj=>a2 j om;exact absurd rfl (this _ (List.contains_iff_mem.1 q))
def FL (b:aS) (l:List aJ) (ms:List Int):Prop:=(∃t,VS b.bS t∧fq b.bS t (jn aJ.bU l ms)=true)∧(Sp.iL b.bG (jn aJ.fF l ms)).2=0
variable {M_:List Int}
theorem aee {l_:List aR} (h1:l_.length≤2000000) (h2:M_.length≤10000):W (Qs l_ M_) (λ r=>r=vZ M_ l_):=by
 unfold Qs;refine bI (λ g1:Int×List aR=>0≤g1.1∧g1.1≤l_.length∧g1.2=vZ M_ (l_.take g1.1.toNat)) (λ g1=>(l_.length - g1.1).toNat) ?_ ⟨ob,ob,rfl⟩;intro aj g1 ⟨a1,a2,a3⟩ ih1;have hl:g1.2.length≤g1.1.toNat:=by
  rw [a3]; unfold vZ;exact Nat.le_trans (List.length_filter_le _ _) (by rw [List.length_take]; omega)
 unfold Ux;refine wi ?_ ?_<;>intro c
 ·have hs:=o9 (λ u:aR=>M_.contains u.gF) l_ bC (i:=g1.1.toNat) om;have e:(g1.1+1).toNat=g1.1.toNat+1:=by omega
  refine wn<|aF (P5 om) λ v8 vU=>?_;refine bJ ?_ ?_<;>intro c2
  ·rw [c2] at vU;refine aO (by unfold big; omega) ?_;refine wn<|ih1 _ ⟨ob,ob,?_⟩ ob;dsimp only;unfold vZ at a3 ⊢;rw [e,hs,← a3,if_pos vU.symm]
  ·rw [c2] at vU;refine wn<|ih1 _ ⟨ob,ob,?_⟩ ob;dsimp only;unfold vZ at a3 ⊢;rw [e,hs,← a3,if_neg (by rw [← vU]; exact Bool.false_ne_true),List.append_nil]
 ·exact av (by rw [a3,List.take_of_length_le om])
theorem MI {l_:List aR} (h1:l_.length≤2000000) (h2:M_.length≤10000):W (yc l_ M_) (λ r=>r=vZ M_ l_):=by
 unfold yc;refine bI (λ g1:Int×List aR=>0≤g1.1∧g1.1≤l_.length∧g1.2=vZ M_ (l_.take g1.1.toNat)) (λ g1=>(l_.length - g1.1).toNat) ?_ ⟨ob,ob,rfl⟩;intro aj g1 ⟨a1,a2,a3⟩ ih1;have hl:g1.2.length≤g1.1.toNat:=by
  rw [a3]; unfold vZ;exact Nat.le_trans (List.length_filter_le _ _) (by rw [List.length_take]; omega)
 unfold Md;refine wi ?_ ?_<;>intro c
 ·have hs:=o9 (λ u:aR=>M_.contains u.gF) l_ bC (i:=g1.1.toNat) om;have e:(g1.1+1).toNat=g1.1.toNat+1:=by omega
  refine wn<|aF (P5 om) λ v8 vU=>?_;refine bJ ?_ ?_<;>intro c2
  ·rw [c2] at vU;refine aO (by unfold big; omega) ?_;refine wn<|ih1 _ ⟨ob,ob,?_⟩ ob;dsimp only;unfold vZ at a3 ⊢;rw [e,hs,← a3,if_pos vU.symm]
  ·rw [c2] at vU;refine wn<|ih1 _ ⟨ob,ob,?_⟩ ob;dsimp only;unfold vZ at a3 ⊢;rw [e,hs,← a3,if_neg (by rw [← vU]; exact Bool.false_ne_true),List.append_nil]
 ·exact av (by rw [a3,List.take_of_length_le om])
theorem R8 {l_:List aI} {s_:List Int} (h1:l_.length≤1000) (h2:VS l_ s_) (h3:∀i,i<l_.length→(l_.getD i aK).aN.length≤2000000):W (Kg l_ s_) (λ r=>(r.2=true→VS l_ r.1∧oC l_ r.1=oC l_ s_+1)∧(r.2=false→oC l_ s_+1=rH l_)):=by
 obtain ⟨hsl,hsv⟩:=id h2;unfold Kg;refine wm<|bI (λ (g1:Int×List Int) => -1≤g1.1∧g1.1<l_.length∧g1.2.length=l_.length∧(∀j:Nat,(j:Int)≤g1.1→g1.2.getD j 0=s_.getD j 0)∧(∀j:Nat,g1.1<(j:Int)→j<l_.length→g1.2.getD j 0=0∧s_.getD j 0+1=(l_.getD j aK).aN.length)) (λ (g1:Int×List Int)=>(g1.1+1).toNat) ?_ ?_
 ·intro aj g1 dY bW;obtain ⟨dN,bO,bE,jB,CG⟩:=dY;unfold RD;refine wi ?_ ?_<;>intro c1
  ·have hv:=hsv g1.1.toNat om;have hc:=h3 g1.1.toNat om;have he:=jB g1.1.toNat om;have hgs:(g1.2.set g1.1.toNat (g1.2.getD g1.1.toNat 0+1)).getD g1.1.toNat 0=s_.getD g1.1.toNat 0+1:=(by rw [Sp.fZ,if_pos ⟨rfl,om⟩,he]);have hgo:∀j,j≠g1.1.toNat→(g1.2.set g1.1.toNat (g1.2.getD g1.1.toNat 0+1)).getD j 0=g1.2.getD j 0:=λ j hj=>(by rw [Sp.fZ,if_neg (λ e=>hj e.1)])
   refine wm<|wn ?_;unfold GQ;refine wm<|wi ?_ ?_<;>intro c2
   ·rw [hgs] at c2;exact av (⟨λ _=>aiB h2 (k:=g1.1.toNat) om (by simpa using bE) (λ j hj=>by rw [hgo j om]; exact jB j om) hgs (λ j h1 h2=>by rw [hgo j om]; exact CG j om h2) c2,nofun⟩)
   ·rw [hgs] at c2;refine wm<|bW _ ?_ ?_
    ·(refine ⟨ob,ob,by simpa using bE,λ j hj=>?_,λ j h1 h2=>?_⟩; (dsimp only at hj ⊢; rw [Sp.fZ,if_neg om,hgo j om]; exact jB j om); (dsimp only at h1 ⊢; rw [Sp.fZ]; by_cases q:j=g1.1.toNat; (rw [if_pos ⟨q,by rw [List.length_set]; omega⟩,q]; omega); (rw [if_neg (λ e=>q e.1),hgo j q]; exact CG j om h2)))
    ·exact ob
  ·exact av (⟨nofun,λ _=>ad5 h2 λ j hj=>(CG j om hj).2⟩)
 ·(refine ⟨ob,ob,by simpa using hsl,λ j _=>rfl,λ j h1 h2=>by dsimp only at h1; omega⟩)
structure FsA (l:List aI) (m:List bN) (P:List Int→Prop) (o:List (List Int)):Prop where
 no:o=[]→∀t,VS l t→P t→RZ l t m=false
 hd:o≠[]→VS l (o.getD 0 [])∧RZ l (o.getD 0 []) m=true∧∀t,VS l t→RZ l t m=true→oC l (o.getD 0 [])≤oC l t
variable {m_:List bN}
theorem aef {l_:List aI} (h1:eD l_=0) (h2:m_.length≤2000000) (h3:∀x∈m_,0≤x.eZ∧x.eZ<l_.length):W (Qq l_ m_) (FsA l_ m_ λ _=>True):=by
 have hf:=vB h1;have hsz:=size_le hf;have hlen:=hf.len;have hcb:∀i,i<l_.length→(l_.getD i aK).aN.length≤2000000:=λ i hi=>by have:=hf.big i hi; omega
 unfold Qq;refine wn<|bI (λ (g1:(List Int×Bool×(List (List Int))))=>(g1.2.1=true→VS l_ g1.1∧g1.2.2.length≤oC l_ g1.1)∧FsA l_ m_ (λ t=>g1.2.1=true→oC l_ t<oC l_ g1.1) g1.2.2) (λ (g1:(List Int×Bool×(List (List Int))))=>bif g1.2.1 then rH l_ - oC l_ g1.1+1 else 0) ?_ ?_
 ·intro aj g1 ⟨dN,ha⟩ bW;unfold Uu;refine bJ ?_ ?_<;>intro c1
  ·obtain ⟨hvs,hln⟩:=dN c1;have hset:=U2 hvs;have hpl:=Kz hvs;unfold Kh;refine aF (ad6 (Qu hf hset) (alR hf hset) h2 h3) λ v9 Wx=>?_;subst v9;refine bJ ?_ ?_<;>intro c2
   ·refine wn ?_;unfold xZ;refine aF (R8 om hvs hcb) λ v8 ⟨vU,_⟩=>?_;refine bW _ ⟨λ e=>⟨(vU e).1,by have:=(vU e).2; simp only [List.length_append,List.length_singleton]; omega⟩,⟨λ e=>absurd e (by simp),λ _=>?_⟩⟩ ?_
    ·dsimp only;cases ho:g1.2.2 with
     | nil=>exact ⟨hvs,c2,λ t ht hft=>Nat.le_of_not_lt λ q=>by rw [ha.no ho t ht λ _=>q] at hft; cases hft⟩
     | cons a o=>have:=ha.hd (by rw [ho]; simp); rw [ho] at this; exact this
    ·(dsimp only; rw [c1]; cases e:v8.2 with | true=>(have:=(vU e).2; have:=Kz (vU e).1; simp only [cond_true]; omega) | false=>(simp only [cond_true,cond_false]; omega))
   ·unfold xZ;refine aF (R8 om hvs hcb) λ v8 ⟨vU,Wx⟩=>?_;refine bW _ ⟨λ e=>⟨(vU e).1,by have:=(vU e).2; dsimp only; omega⟩,⟨λ e t ht hp=>?_,ha.hd⟩⟩ ?_
    ·dsimp only at hp e;have hpt:=Kz ht;by_cases q:oC l_ t<oC l_ g1.1
     ·exact ha.no e t ht λ _=>q
     ·have:oC l_ t=oC l_ g1.1:=by
       cases e8:v8.2 with
       | true=>have:=hp e8; have:=(vU e8).2; omega
       | false=>have:=Wx e8; omega
      rw [Zr ht hvs this]; exact c2
    ·(dsimp only; rw [c1]; cases e:v8.2 with | true=>(have:=(vU e).2; have:=Kz (vU e).1; simp only [cond_true]; omega) | false=>(simp only [cond_true,cond_false]; omega))
  ·exact av ⟨λ e t ht _=>ha.no e t ht λ q=>(by rw [c1] at q; cases q),ha.hd⟩
 ·exact ⟨λ _=>⟨aiC hf,Nat.zero_le _⟩,⟨λ _ t _ q=>by have q:=q rfl; dsimp only at q; rw [aaQ (s:=List.replicate _ 0) λ j _=>Sp.mP _ _ _] at q; omega,λ e=>absurd rfl e⟩⟩
theorem P6 {l_:List aI} (h1:l_.length≤2000000) (h2:m_.length≤2000000):W (Bc l_ m_) (λ r=>r.2=0→af7 l_ m_ r.1∧kM l_ m_=true):=by
 unfold Bc;refine aF (abT ob ob) λ v1 hv1=>?_;subst v1;refine bJ (λ c1=>av λ e=>?_) (λ c1=>?_)
 ·have c1:=nr c1; exact absurd e c1
 obtain ⟨b1,b2⟩:=ajW c1;refine aF (aef b1 h2 (aiD b2)) λ v2 hv2=>?_;refine bJ (λ c2=>av nofun) (λ c2=>?_);have c2:=nr c2;refine wn<|av λ _=>⟨?_,b2⟩;obtain ⟨q1,q2,q3⟩:=hv2.hd (λ e=>by rw [e] at c2; simp at c2);exact ⟨q1,by rw [KE b2 (U2 q1)]; exact q2,λ t ht hm=>q3 t ht (by rw [← KE b2 (U2 ht)]; exact hm)⟩
theorem MJ {l_:List eG} (h1:∀g∈l_,g.dX.length≤2000000) (h2:eT.length≤100000000000) (h0:RsA l_ 0) (h4:∀x∈eT,0≤x∧x<l_.length):W (x9 l_ eT) (λ r=>r.2=0∧Lst l_.length (aaS l_) eT r.1):=by
 unfold x9;refine aF (EI h1) λ v1 hv1=>?_;have e1:=RsA.fun _ _ hv1 h0;subst e1;refine bJ (λ c1=>by cases c1) (λ c1=>?_)
 ·obtain ⟨p1,p2⟩:=h0.ok;refine wn<|bI (λ (g1:Int×List Bool)=>0≤g1.1∧g1.2.length=l_.length∧(∀j:Nat,(j:Int)<g1.1→g1.2.getD (eT.getD j 0).toNat false=true)∧Low (aaS l_) eT g1.2) (λ (g1:Int×List Bool)=>(eT.length - g1.1).toNat) ?_ ?_
  ·intro aj g1 dY bW;obtain ⟨dN,bO,bE,jB⟩:=dY;unfold LU;refine wi ?_ ?_<;>intro c2
   ·refine wn ?_;have hm:=getD_in (l:=eT) (i:=g1.1.toNat) 0 om;have hx:=h4 _ hm;refine wn<|bJ (λ c3=>by have c3:=nr c3; omega) (λ c3=>?_)
    ·have c3:=nr c3;refine wm<|wn ?_;refine bW _ ?_ ?_
     ·(refine ⟨ob,ob,λ j hj=>Gl ?_ om,vH jB λ _ t _ ht=>ht _ hm⟩; by_cases q:(j:Int)<g1.1; (exact .inl (bE j q)); (have e:j=g1.1.toNat:=by (try dsimp only at hj); omega); subst e; exact .inr rfl)
     ·exact ob
   ·refine wn<|bI (λ (g2:Int×List Bool) => -1≤g2.1∧g2.1<l_.length∧g2.2.length=l_.length∧(∀j:Nat,(j:Int)<eT.length→g2.2.getD (eT.getD j 0).toNat false=true)∧(∀i:Nat,g2.1<(i:Int)→(i:Int)<l_.length→g2.2.getD i false=true→∀x∈(l_.getD i dz).dX,g2.2.getD x.toNat false=true)∧Low (aaS l_) eT g2.2) (λ (g2:Int×List Bool)=>(g2.1+1).toNat) ?_ ?_
    ·intro dK g2 nk qL;obtain ⟨rG,jD,mV,CJ,R5,R9⟩:=nk;unfold IK;refine wi ?_ ?_<;>intro c4
     ·have hgl:=h1 _ (getD_in (i:=g2.1.toNat) dz om);refine bI (λ (g5:Int×List Bool)=>0≤g5.1∧g5.2.length=l_.length∧(∀j:Nat,(j:Int)<eT.length→g5.2.getD (eT.getD j 0).toNat false=true)∧(∀i:Nat,g2.1<(i:Int)→(i:Int)<l_.length→g5.2.getD i false=true→∀x∈(l_.getD i dz).dX,g5.2.getD x.toNat false=true)∧(∀k:Nat,(k:Int)<g5.1→g5.2.getD (((l_.getD g2.1.toNat dz).dX).getD k 0).toNat false=true)∧Low (aaS l_) eT g5.2) (λ (g5:Int×List Bool)=>((l_.getD g2.1.toNat dz).dX.length - g5.1).toNat) ?_ ?_
      ·intro ku g5 WI WJ;obtain ⟨RS,ED,Mk,aa1,af4,acT⟩:=WI;unfold IJ;refine wm<|bJ ?_ ?_<;>intro c5
       ·have Bu:=c5;have c5:=nr c5;simp only [Bool.and_eq_true,decide_eq_true_eq] at Bu;have hxm:=getD_in (l:=(l_.getD g2.1.toNat dz).dX) (i:=g5.1.toNat) 0 om;have hx:=p2 g2.1.toNat om _ hxm;refine wm<|wm ?_;refine WJ _ ?_ ?_
        ·(refine ⟨ob,ob,λ j hj=>Gl (.inl (Mk j hj)) om,λ i h3 h4 h5 x hx2=>?_,λ k hk=>Gl ?_ om,vH acT λ _ t h1 h2=>h1 g2.1.toNat om (acT t h1 h2 _ Bu.2) _ hxm⟩; (rw [kR om] at h5; exact Gl (.inl (aa1 i h3 h4 h5 x hx2)) om); by_cases q:(k:Int)<g5.1; (exact .inl (af4 k q)); (have e:k=g5.1.toNat:=by (try dsimp only at hk); omega); subst e; exact .inr rfl)
        ·exact ob
       ·have Bu:=c5;have c5:=nr c5;refine wn<|qL _ ?_ ?_
        ·(refine ⟨ob,ob,ED,Mk,λ i h3 h4 h5=>?_,acT⟩; by_cases q:g2.1<(i:Int); (exact aa1 i q h4 h5); (have e:i=g2.1.toNat:=by (try dsimp only at h3); omega); subst e; refine jC 0 λ k hk=>af4 k ?_; rw [h5,Bool.and_true] at Bu; have:=of_decide_eq_false Bu; omega)
        ·exact ob
      ·(refine ⟨ob,mV,CJ,R5,λ k hk=>by (try dsimp only at hk); omega,R9⟩)
     ·exact av (⟨rfl,mV,λ i hi=>R5 i om hi,jC 0 λ j hj=>CJ j om,R9⟩)
    ·(refine ⟨ob,ob,bO,λ j hj=>bE j om,λ i h1 h2=>by (try dsimp only at h1); omega,jB⟩)
  ·(refine ⟨ob,by simp,λ j hj=>by (try dsimp only at hj); omega,Zu⟩)
theorem aeg {l_:List dF} (h1:DmA l_ 0) (h3:eP.length≤100000000000) (h4:∀x∈eP,0≤x∧x<l_.length):W (Qr l_ eP) (λ r=>r=0):=by
 unfold Qr;refine aF EJ λ v1 hv1=>?_;have e1:=DmA.fun _ _ hv1 h1;subst e1;refine bJ (λ c1=>by cases c1) (λ _=>?_);refine bI (λ g1:Int=>0≤g1) (λ g1=>(eP.length - g1).toNat) ?_ (Int.le_refl _);intro aj g1 a1 ih1;unfold Uv;refine bJ (λ c=>?_) (λ c=>av rfl);have c:=nr c;have hx:=h4 _ (getD_in (i:=g1.toNat) 0 om);refine wm<|bJ (λ c2=>by have c2:=nr c2; omega) (λ c2=>?_);refine wn ?_;exact ih1 _ om om
theorem Ye {l_:List dF} (h1:eP.length≤2000000) (h0:DmA l_ 0) (h4:∀x∈eP,0≤x∧x<l_.length):W (OD l_ eP) (λ r=>r.2=0∧Lst l_.length (af2 l_) eP r.1):=by
 unfold OD;refine aF (aeg h0 om h4) λ v1 hv1=>?_;subst hv1;refine bJ (λ c1=>by cases c1) (λ c1=>?_)
 ·obtain ⟨p1,p2⟩:=h0.ok;have p3:=h4;refine wn<|bI (λ (g1:Int×List Bool)=>0≤g1.1∧g1.2.length=l_.length∧(∀j:Nat,(j:Int)<g1.1→g1.2.getD (eP.getD j 0).toNat false=true)∧Low (af2 l_) eP g1.2) (λ (g1:Int×List Bool)=>(eP.length - g1.1).toNat) ?_ ?_
  ·intro aj g1 dY bW;obtain ⟨dN,bO,bE,jB⟩:=dY;unfold XY;refine wi ?_ ?_<;>intro c2
   ·have hm:=getD_in (l:=eP) (i:=g1.1.toNat) 0 om;have hx:=p3 _ hm;refine wm<|wn ?_;refine bW _ ?_ ?_
    ·(refine ⟨ob,ob,λ j hj=>Gl ?_ om,vH jB λ _ t _ ht=>ht _ hm⟩; by_cases q:(j:Int)<g1.1; (exact .inl (bE j q)); (have e:j=g1.1.toNat:=by (try dsimp only at hj); omega); subst e; exact .inr rfl)
    ·exact ob
   ·refine wn<|bI (λ (g2:Int×List Bool) => -1≤g2.1∧g2.1<l_.length∧g2.2.length=l_.length∧(∀j:Nat,(j:Int)<eP.length→g2.2.getD (eP.getD j 0).toNat false=true)∧(∀i:Nat,g2.1<(i:Int)→(i:Int)<l_.length→RgK l_ g2.2 i)∧Low (af2 l_) eP g2.2) (λ (g2:Int×List Bool)=>(g2.1+1).toNat) ?_ ?_
    ·intro dK g2 nk qL;obtain ⟨rG,jD,mV,CJ,R5,R9⟩:=nk;unfold Uw;refine wi ?_ ?_<;>intro c3
     ·have hp:=p2 g2.1.toNat om;refine wm<|wn ?_;unfold Ki;refine wm<|bJ ?_ ?_<;>intro c4
      ·have sO:=c4;have c4:=nr c4;refine wm<|wn ?_;refine qL _ ?_ ?_
       ·(have q:=Bool.and_eq_true_iff.1 sO; have q2:=of_decide_eq_true q.2; refine ⟨ob,ob,ob,λ j hj=>Gl (.inl (U3 om (CJ j hj))) (by rw [List.length_set]; omega),λ k h3 h4=>arN om mV om R5 (by (try dsimp only at h3); omega) h4,vH (vH R9 λ hb t h1 h2=>(Bool.or_eq_true_iff.1 hb).elim (λ q=>R9 t h1 h2 _ q) (λ q=>h1.al _ om q)) λ _ t h1 h2=>h1.pa g2.1.toNat om ((vH R9 λ hb t h1 h2=>(Bool.or_eq_true_iff.1 hb).elim (λ q=>R9 t h1 h2 _ q) (λ q=>h1.al _ om q)) t h1 h2 _ q.1) q2⟩)
       ·exact ob
      ·have sO:=c4;have c4:=nr c4;refine wn<|qL _ ?_ ?_
       ·(refine ⟨ob,ob,ob,λ j hj=>U3 om (CJ j hj),λ k h3 h4=>arM om mV R5 (λ hq=>by rw [hq.1,decide_eq_true hq.2] at sO; cases sO) (by (try dsimp only at h3); omega) h4,vH R9 λ hb t h1 h2=>(Bool.or_eq_true_iff.1 hb).elim (λ q=>R9 t h1 h2 _ q) (λ q=>h1.al _ om q)⟩)
       ·exact ob
     ·exact av (⟨rfl,mV,⟨λ i hi=>(R5 i om hi).1,λ i hi=>(R5 i om hi).2⟩,jC 0 λ j hj=>CJ j om,R9⟩)
    ·(refine ⟨ob,ob,bO,λ j hj=>bE j om,λ i h1 h2=>by (try dsimp only at h1); omega,jB⟩)
  ·(refine ⟨ob,by simp,λ j hj=>by (try dsimp only at hj); omega,Zu⟩)
theorem aoX (hn:lT b l 0) (hd:vW l ms):∀x∈jn aJ.bq l ms,0≤x∧x<b.bq.length:=λ x hx=>by
 obtain ⟨m,hm,hx⟩:=List.mem_flatMap.1 hx;exact ((tT hn).2.2 _ (z8 hd hm)).rs x hx
theorem aoY (hn:lT b l 0) (hd:vW l ms):∀x∈jn usF l ms,0≤x∧x<b.cO.length:=λ x hx=>by
 obtain ⟨m,hm,hx⟩:=List.mem_flatMap.1 hx;have hdm:=((tT hn).2.2 _ (z8 hd hm)).dm;unfold usF at hx;cases q:decide ((l.getD m.toNat bB).fT<0) with
 | true=>rw [q] at hx; cases hx
 | false=>
  rw [q] at hx;have:=of_decide_eq_false q;have hx:=List.mem_singleton.1 hx;omega
theorem abn (h1:Bq b_) (h2:GSz b_.aT) (h3:Jf l_) (h4:M_.length≤10000) (h5:g_.bZ.length≤2000000):W (Ga b_ l_ M_ g_) (λ r=>Ga2 r∧r.2.2.2.2.2.2.2.length≤g_.bZ.length∧(r.2.2.2.2.2.2.1=0→lT b_ l_ 0∧vW l_ M_∧AgA b_ l_ M_ g_.bZ ⟨r.1,⟨r.2.1,r.2.2.1⟩,r.2.2.2.2.2.2.2,r.2.2.2.1,r.2.2.2.2.1⟩)):=by
 obtain ⟨z1,z2,z3,z4,z5,z6,z7⟩:=id h1;unfold Ga;refine aF (Aw h1 h2 h3) λ v1 hv1=>?_;refine bJ (λ c1=>av ⟨Ay _ _,by simp,λ e=>by have c1:=nr c1; exact absurd e c1⟩) (λ c1=>?_);have c1:=nr c1;rw [c1] at hv1;obtain ⟨hb,hl12,hnd⟩:=tT hv1;refine aF (tO om om) λ v2 hv2=>?_;refine bJ (λ c2=>av ⟨Ay _ _,by simp,nofun⟩) (λ c2=>?_);have c2:=nr c2;have hdf:=hv2.1 c2;have hin:=EX hdf;obtain ⟨_,hra,hda⟩:=VG hv1;refine aF (VH (k:=24) (f:=aJ.bU) (λ x hx=>by have:=(hnd x hx).ll; omega) hin h4 om) λ v3 hv3=>?_;refine aF (VH (k:=32) (f:=aJ.fF) (λ x hx=>by have:=(hnd x hx).dl; omega) hin h4 om) λ v4 hv4=>?_;refine aF (qX (P:=λ _=>True) λ _=>Gx (λ x hx=>(hnd x hx).fl) h4) λ v5 _=>?_;refine bJ (λ c3=>av ⟨Ay _ _,by simp,nofun⟩) (λ c3=>?_);simp only [Bool.or_eq_false_iff] at c3;obtain ⟨⟨c3,c3'⟩,_⟩:=c3;have c3:=nr c3; have c3:=nr c3';refine aF (P6 z1 om) λ v6 hv6=>?_;refine bJ (λ c4=>av ⟨Ay _ _,by simp,nofun⟩) (λ c4=>?_);have c4:=nr c4;obtain ⟨hst,hlb⟩:=hv6 c4;have hsl:=hst.1.1;refine aF (Sp.RY z3 om) λ v7 hv7=>?_;refine bJ (λ c5=>av ⟨Ay _ _,by simp,nofun⟩) (λ c5=>?_);have c5:=nr c5;rw [hv7] at c5;have hle:=Sp.QF c5;rw [← hv7] at hle;refine bI (λ g1:Int×List Int×List Int=>0≤g1.1∧g1.1≤M_.length∧g1.2.1=jn aJ.bq l_ (M_.take g1.1.toNat)∧g1.2.2=jn usF l_ (M_.take g1.1.toNat)) (λ g1=>(M_.length - g1.1).toNat) ?_ ⟨ob,ob,rfl,rfl⟩;intro aj g1 ⟨a1,a2,a3,a4⟩ ih1;have l3:=EW (f:=aJ.bq) (l:=l_) (c:=2000000) (ms:=M_.take g1.1.toNat) λ m q=>(h3.nd _ (z8 hdf (List.mem_of_mem_take q))).1;have l4:=EW (f:=usF) (l:=l_) (c:=1) (ms:=M_.take g1.1.toNat) λ m _=>Zv _;rw [← a3,List.length_take] at l3;rw [← a4,List.length_take] at l4;unfold LV;refine wi ?_ ?_<;>intro c
 ·have hm:=(hdf g1.1.toNat om).1;have hx:=(h3.nd _ (getD_in (i:=(M_.getD g1.1.toNat 0).toNat) bB om)).1;have e:(g1.1+1).toNat=g1.1.toNat+1:=by omega
  refine aO om ?_;refine aO hm ?_;refine aO (by unfold big; omega) ?_;refine aO hm ?_;refine wi ?_ ?_<;>intro c6
  ·refine aO hm ?_;refine aO (by unfold big; omega) ?_;refine aO (by unfold aG; omega) ?_;exact ih1 _ ⟨by dsimp only; omega,by dsimp only; omega,by dsimp only; rw [e,Az om,a3],by dsimp only; rw [e,Az om,a4]; congr 1; unfold usF; rw [decide_eq_false om]; rfl⟩ (by dsimp only; omega)
  ·refine aO (by unfold aG; omega) ?_;exact ih1 _ ⟨by dsimp only; omega,by dsimp only; omega,by dsimp only; rw [e,Az om,a3],by dsimp only; rw [e,Az om,a4]; unfold usF; rw [decide_eq_true om]; exact (List.append_nil _).symm⟩ (by dsimp only; omega)
 ·rw [List.take_of_length_le om] at a3 a4;refine aF (MJ z6 om hra (by rw [a3]; exact aoX hv1 hdf)) λ v8 ⟨_,vU⟩=>?_;refine aF (Ye om hda (by rw [a4]; exact aoY hv1 hdf)) λ v9 ⟨_,Wx⟩=>?_;refine aF (aee h5 h4) λ v10 Ji=>?_;rw [a3] at vU;rw [a4] at Wx;refine av ⟨⟨by dsimp only; omega,by dsimp only; omega,by dsimp only; omega,by dsimp only; rw [vU.ln]; have:=hb.rs.len; omega,by dsimp only; rw [Wx.ln]; omega⟩,by dsimp only; rw [Ji]; exact List.length_filter_le _ _,λ _=>⟨hv1,hdf,⟨by rw [← hv3]; exact hst,?_,Ji,vU,Wx⟩⟩⟩;dsimp only;rw [← hv4];refine Eq.trans ?_ (show v7=(⟨v7.1.On,v7.1.dQ⟩,0) from Prod.ext rfl (by rw [hv7]; exact c5));exact hv7.symm
theorem VI (h1:Bq b_) (h2:GSz b_.aT) (h3:Jf l_) (h4:M_.length≤10000) (h5:g_.bZ.length≤2000000):W (yg b_ l_ g_ M_) (λ r=>Ga2 r∧r.2.2.2.2.2.2.2.length≤g_.bZ.length∧(r.2.2.2.2.2.2.1=0→lT b_ l_ 0∧vW l_ M_∧AgA b_ l_ M_ g_.bZ ⟨r.1,⟨r.2.1,r.2.2.1⟩,r.2.2.2.2.2.2.2,r.2.2.2.1,r.2.2.2.2.1⟩)):=by
 obtain ⟨z1,z2,z3,z4,z5,z6,z7⟩:=id h1;unfold yg;refine aF (Aw h1 h2 h3) λ v1 hv1=>?_;refine bJ (λ c1=>av ⟨Ay _ _,by simp,λ e=>by have c1:=nr c1; exact absurd e c1⟩) (λ c1=>?_);have c1:=nr c1;rw [c1] at hv1;obtain ⟨hb,hl12,hnd⟩:=tT hv1;refine aF (tO om om) λ v2 hv2=>?_;refine bJ (λ c2=>av ⟨Ay _ _,by simp,nofun⟩) (λ c2=>?_);have c2:=nr c2;have hdf:=hv2.1 c2;have hin:=EX hdf;obtain ⟨_,hra,hda⟩:=VG hv1;refine aF (VH (k:=24) (f:=aJ.bU) (λ x hx=>by have:=(hnd x hx).ll; omega) hin h4 om) λ v3 hv3=>?_;refine aF (VH (k:=32) (f:=aJ.fF) (λ x hx=>by have:=(hnd x hx).dl; omega) hin h4 om) λ v4 hv4=>?_;refine aF (qX (P:=λ _=>True) λ _=>Gx (λ x hx=>(hnd x hx).fl) h4) λ v5 _=>?_;refine bJ (λ c3=>av ⟨Ay _ _,by simp,nofun⟩) (λ c3=>?_);simp only [Bool.or_eq_false_iff] at c3;obtain ⟨⟨c3,c3'⟩,_⟩:=c3;have c3:=nr c3; have c3:=nr c3';refine aF (P6 z1 om) λ v6 hv6=>?_;refine bJ (λ c4=>av ⟨Ay _ _,by simp,nofun⟩) (λ c4=>?_);have c4:=nr c4;obtain ⟨hst,hlb⟩:=hv6 c4;have hsl:=hst.1.1;refine aF (Sp.RY z3 om) λ v7 hv7=>?_;refine bJ (λ c5=>av ⟨Ay _ _,by simp,nofun⟩) (λ c5=>?_);have c5:=nr c5;rw [hv7] at c5;have hle:=Sp.QF c5;rw [← hv7] at hle;refine bI (λ g1:Int×List Int×List Int=>0≤g1.1∧g1.1≤M_.length∧g1.2.1=jn aJ.bq l_ (M_.take g1.1.toNat)∧g1.2.2=jn usF l_ (M_.take g1.1.toNat)) (λ g1=>(M_.length - g1.1).toNat) ?_ ⟨ob,ob,rfl,rfl⟩;intro aj g1 ⟨a1,a2,a3,a4⟩ ih1;have l3:=EW (f:=aJ.bq) (l:=l_) (c:=2000000) (ms:=M_.take g1.1.toNat) λ m q=>(h3.nd _ (z8 hdf (List.mem_of_mem_take q))).1;have l4:=EW (f:=usF) (l:=l_) (c:=1) (ms:=M_.take g1.1.toNat) λ m _=>Zv _;rw [← a3,List.length_take] at l3;rw [← a4,List.length_take] at l4;unfold Ew;refine wi ?_ ?_<;>intro c
 ·have hm:=(hdf g1.1.toNat om).1;have hx:=(h3.nd _ (getD_in (i:=(M_.getD g1.1.toNat 0).toNat) bB om)).1;have e:(g1.1+1).toNat=g1.1.toNat+1:=by omega
  refine aO om ?_;refine aO hm ?_;refine aO (by unfold big; omega) ?_;refine aO hm ?_;refine wi ?_ ?_<;>intro c6
  ·refine aO hm ?_;refine aO (by unfold big; omega) ?_;refine aO (by unfold aG; omega) ?_;exact ih1 _ ⟨by dsimp only; omega,by dsimp only; omega,by dsimp only; rw [e,Az om,a3],by dsimp only; rw [e,Az om,a4]; congr 1; unfold usF; rw [decide_eq_false om]; rfl⟩ (by dsimp only; omega)
  ·refine aO (by unfold aG; omega) ?_;exact ih1 _ ⟨by dsimp only; omega,by dsimp only; omega,by dsimp only; rw [e,Az om,a3],by dsimp only; rw [e,Az om,a4]; unfold usF; rw [decide_eq_true om]; exact (List.append_nil _).symm⟩ (by dsimp only; omega)
 ·rw [List.take_of_length_le om] at a3 a4;refine aF (MJ z6 om hra (by rw [a3]; exact aoX hv1 hdf)) λ v8 ⟨_,vU⟩=>?_;refine aF (Ye om hda (by rw [a4]; exact aoY hv1 hdf)) λ v9 ⟨_,Wx⟩=>?_;refine aF (MI h5 h4) λ v10 Ji=>?_;rw [a3] at vU;rw [a4] at Wx;refine av ⟨⟨by dsimp only; omega,by dsimp only; omega,by dsimp only; omega,by dsimp only; rw [vU.ln]; have:=hb.rs.len; omega,by dsimp only; rw [Wx.ln]; omega⟩,by dsimp only; rw [Ji]; exact List.length_filter_le _ _,λ _=>⟨hv1,hdf,⟨by rw [← hv3]; exact hst,?_,Ji,vU,Wx⟩⟩⟩;dsimp only;rw [← hv4];refine Eq.trans ?_ (show v7=(⟨v7.1.On,v7.1.dQ⟩,0) from Prod.ext rfl (by rw [hv7]; exact c5));exact hv7.symm
theorem aeh:aaR []:=λ i j _ h=>by simp at h; omega
theorem agb {l:List Int} {x:Int} (h:aaR l) (hx:∀y∈l,y<x):aaR (l++[x]):=by
 intro i j hij hj;rw [List.length_append,List.length_singleton] at hj;by_cases q:j<l.length
 ·rw [jO (i:=j) 0 q,jO (i:=i) 0 om]; exact h i j hij om
 ·rw [kI (i:=j) 0 om,jO (i:=i) 0 om]; exact hx _ (getD_in 0 om)
def Yf (b:aS) (l:List bN):Prop:=l.length≤1∧∀y∈l,abO b.bS.length y
def ahP (b:aS) (l:List bf):Prop:=l.length≤1∧∀y∈l,ahC b.bG.length y
def amF (l:List ByteArray):Prop:=l.length≤2∧∀y∈l,Po y
def aqs (b:aS) (l:List Int):Prop:=l.length≤100∧∀y∈l,0≤y∧y<b.bq.length
def aqt (k:Int) (l:List Int):Prop:=l.length≤100∧(∀p∈l,0≤p∧p<k)∧aaR l
structure NdG (b:aS) (k:Int) (x:aJ):Prop where
 lm:Yf b x.bU
 dw:ahP b x.fF
 fw:amF x.ak
 rs:aqs b x.bq
 dm : -1≤x.fT∧x.fT<b.cO.length
 pr:aqt k x.bT
theorem agd:Yf b []:=⟨Nat.zero_le _,nofun⟩
theorem agf:ahP b []:=⟨Nat.zero_le _,nofun⟩
theorem amG {x:bN} (h:abO b.bS.length x):Yf b [x]:=⟨Nat.le_refl _,λ y hy=>by rw [List.mem_singleton] at hy; rw [hy]; exact h⟩
theorem amH {x:bf} (h:ahC b.bG.length x):ahP b [x]:=⟨Nat.le_refl _,λ y hy=>by rw [List.mem_singleton] at hy; rw [hy]; exact h⟩
theorem amI:amF []:=⟨Nat.zero_le _,nofun⟩
theorem amJ {k:Int}:aqt k []:=⟨Nat.zero_le _,nofun,aeh⟩
theorem VJ {l:List Int} {lo hi:Int} (h:l.all (λ x=>decide (lo≤x)&&decide (x≤hi))=true) {r:Int} (hr:∃i:Nat,i<l.length∧r=l.getD i 0):lo≤r∧r≤hi:=by
 obtain ⟨i,h1,rfl⟩:=hr;have:=List.all_eq_true.1 h _ (getD_in 0 h1);simpa using this
theorem ar1 {s:ByteArray} (h:(decide (0<s.size∧s.size≤16)&&(decide (97≤gI s 0∧gI s 0≤122)&&(List.range s.size).all λ j=>decide (gI s j=45∨(48≤gI s j∧gI s j≤57)∨(97≤gI s j∧gI s j≤122))))=true):Po s:=by
 simp only [Bool.and_eq_true,decide_eq_true_eq,List.all_eq_true,List.mem_range] at h;exact ⟨h.1,h.2.1,λ j hj=>h.2.2 j om⟩
def ahQ:List ByteArray:=[({ data:=#[117,97,114,116] }:ByteArray),({ data:=#[115,112,105] }:ByteArray),({ data:=#[105,50,99] }:ByteArray),({ data:=#[112,119,109] }:ByteArray)]
theorem amK:∀s∈ahQ,Po s:=by
 intro s hs;simp only [ahQ,List.mem_cons,List.not_mem_nil,or_false] at hs;rcases hs with rfl | rfl | rfl | rfl<;>exact ar1 (by decide)
variable {dD:dJ}
theorem Gz {n_:Int} {k_:Int} (h1:0≤n_) (h2:n_≤1000) (h3:1≤k_) (h4:k_≤100) (h5:0≤dD.At) (h6:dD.L.length≤600):W (lC n_ k_ dD) (λ r=>r.1.length≤n_.toNat∧(∀p∈r.1,0≤p∧p<n_)∧aaR r.1∧0≤r.2.At∧r.2.L.length≤600):=by
 unfold lC;refine bI (λ (g1:Int×List Int×Int×List Int)=>0≤g1.1∧g1.1≤n_∧0≤g1.2.2.1∧g1.2.1.length≤600∧(g1.2.2.2.length:Int)≤g1.1∧(∀p∈g1.2.2.2,0≤p∧p<g1.1)∧aaR g1.2.2.2) (λ (g1:Int×List Int×Int×List Int)=>(n_ - g1.1).toNat) ?_ ?_
 ·intro aj g1 dY bW;obtain ⟨dN,bO,bE,jB,CG,Mh,amL⟩:=dY;unfold xS;refine wi ?_ ?_<;>intro c1
  ·refine aF (bV ob ob ob) λ v3 hv3=>?_;obtain ⟨aaA,acD,acE,alB,arw⟩:=hv3;refine wn<|wi ?_ ?_<;>intro c2
   ·refine wm<|bW _ ?_ ?_
    ·(refine ⟨ob,ob,ob,ob,ob,λ p hp=>?_,agb amL λ p hp=>(Mh p hp).2⟩; dsimp only; rcases List.mem_append.1 hp with hp | hp; (have:=Mh p hp; omega); (rw [List.mem_singleton] at hp; omega))
    ·exact ob
   ·refine wn<|bW _ ?_ ?_
    ·(refine ⟨ob,ob,ob,ob,ob,λ p hp=>?_,amL⟩; have:=Mh p hp; dsimp only; omega)
    ·exact ob
  ·refine av ?_;(refine ⟨ob,λ p hp=>?_,amL,ob,ob⟩; have:=Mh p hp; omega)
 ·(refine ⟨ob,ob,ob,ob,ob,nofun,aeh⟩)
theorem P7 {jl:Int} (h1:0≤jl) (h2:jl≤50) (h3:0≤dD.At) (h4:dD.L.length≤600):W (rD jl dD) (λ r=>r.1.length≤jl.toNat∧(∀y∈r.1,Po y)∧0≤r.2.At∧r.2.L.length≤600):=by
 unfold rD;refine wn<|aF (bV ob ob ob) λ v1 hv1=>?_;obtain ⟨I8,CF,I9,Mg,OV⟩:=hv1;refine bI (λ (g1:Int×List Int×Int×List ByteArray)=>0≤g1.1∧0≤g1.2.2.1∧g1.2.1.length≤600∧(g1.2.2.2.length:Int)+g1.1≤jl∧(∀y∈g1.2.2.2,Po y)) (λ (g1:Int×List Int×Int×List ByteArray)=>g1.1.toNat) ?_ ?_
 ·intro aj g1 dY bW;obtain ⟨dN,bO,bE,jB,CG⟩:=dY;unfold Ba;refine wi ?_ ?_<;>intro c1
  ·refine aF (kQ) λ v6 hv6=>?_;subst v6;refine aF (Wo ob ob ob ob) λ v7 hv7=>?_;obtain ⟨aoM,arz,arA⟩:=hv7;refine wm<|bW _ ?_ ?_
   ·(refine ⟨ob,ob,ob,ob,λ p hp=>?_⟩; dsimp only at hp; rcases List.mem_append.1 hp with hp | hp; (exact CG p hp); (rw [List.mem_singleton] at hp; rw [hp]; obtain ⟨i,hi,e⟩:=aoM; rw [e]; exact amK _ (getD_in (l:=ahQ) _ hi)))
   ·exact ob
  ·refine av ?_;(refine ⟨ob,CG,ob,ob⟩)
 ·(refine ⟨ob,ob,ob,ob,nofun⟩)
theorem TI (h1:b_.bS.length≤100) (h2:0<b_.bS.length) (h3:0≤dD.At) (h4:dD.L.length≤600):W (u6 b_ dD) (λ r=>abO b_.bS.length r.1∧0≤r.2.At∧r.2.L.length≤600):=by
 unfold u6;refine aF (bV ob ob ob) λ v1 hv1=>?_;obtain ⟨I8,CF,I9,Mg,OV⟩:=hv1;refine aF (gy ob ob ob ob) λ v2 hv2=>?_;obtain ⟨afu,aix,alJ⟩:=hv2;refine aF (gy ob ob ob ob) λ v3 hv3=>?_;obtain ⟨aaA,acD,acE⟩:=hv3;refine av ?_;(have a:=VJ (lo:=0) (hi:=24) (by decide) afu; have b:=VJ (lo:=24) (hi:=300) (by decide) aaA; exact ⟨⟨om,CF om,a.1,Int.le_trans a.2 b.1,Int.le_trans b.2 (by decide)⟩,ob,ob⟩)
theorem VK (h1:b_.bG.length≤100) (h2:0<b_.bG.length) (h3:0≤dD.At) (h4:dD.L.length≤600):W (xU b_ dD) (λ r=>ahC b_.bG.length r.1∧0≤r.2.At∧r.2.L.length≤600):=by
 unfold xU;refine aF (bV ob ob ob) λ v1 hv1=>?_;obtain ⟨I8,CF,I9,Mg,OV⟩:=hv1;refine aF (gy ob ob ob ob) λ v2 hv2=>?_;obtain ⟨afu,aix,alJ⟩:=hv2;refine aF (gy ob ob ob ob) λ v3 hv3=>?_;obtain ⟨aaA,acD,acE⟩:=hv3;refine aF (gy ob ob ob ob) λ v4 hv4=>?_;obtain ⟨alC,alD,aoL⟩:=hv4;refine av ?_;(have a:=VJ (lo:=0) (hi:=1800) (by decide) afu; have b:=VJ (lo:=1800) (hi:=5000) (by decide) aaA; have c:=VJ (lo:=0) (hi:=200) (by decide) alC; exact ⟨⟨om,CF om,a.1,Int.le_trans a.2 b.1,b.2,c.1,Int.le_trans c.2 (by decide)⟩,ob,ob⟩)
variable {v1:Int×dJ} {g1:Int×List Int×Int×List aJ} {aj:(Int×List Int×Int×List aJ)→M (List aJ×dJ)} {v46:Int×dJ} {g14:List Int×Int×List bN} {g15:List Int×Int×List bf} {g16:List Int×Int×List ByteArray} {Q:(List aJ×dJ)→Prop}
theorem uT {v53:List Int×dJ} {g18:List Int×Int×List Int} (bW:∀s':(Int×List Int×Int×List aJ),(0≤s'.1∧s'.1≤v1.1∧0≤s'.2.2.1∧s'.2.1.length≤600∧(s'.2.2.2.length:Int)=s'.1∧(∀x∈s'.2.2.2,NdG b_ v1.1 x))→(v1.1 - s'.1).toNat<(v1.1 - g1.1).toNat→W (aj s') Q) (hc:0≤g18.2.1∧g18.1.length≤600∧aqt v1.1 g18.2.2∧Yf b_ g14.2.2∧ahP b_ g15.2.2∧amF g16.2.2∧aqs b_ v53.1∧0≤g1.1∧g1.1<v1.1∧v1.1≤51∧(g1.2.2.2.length:Int)=g1.1∧(∀x∈g1.2.2.2,NdG b_ v1.1 x)∧(-1≤v46.1∧v46.1<b_.cO.length)):W (kE g1 aj v46 g14 g15 g16 v53 g18) Q:=by
 obtain ⟨amg,amh,U0,QU,WK,ad4,aj1,amM,amN,VL,MK,acY,aoZ⟩:=hc;unfold kE;refine wm<|bW _ ?_ ?_
 ·(refine ⟨ob,ob,ob,ob,ob,λ x hx=>?_⟩; rcases List.mem_append.1 hx with hx | hx; (exact acY x hx); (rw [List.mem_singleton] at hx; subst hx; exact ⟨QU,WK,ad4,aj1,aoZ,U0⟩))
 ·exact ob
theorem uU {v53:List Int×dJ} {g19:Int×List Int×Int} (bW:∀s':(Int×List Int×Int×List aJ),(0≤s'.1∧s'.1≤v1.1∧0≤s'.2.2.1∧s'.2.1.length≤600∧(s'.2.2.2.length:Int)=s'.1∧(∀x∈s'.2.2.2,NdG b_ v1.1 x))→(v1.1 - s'.1).toNat<(v1.1 - g1.1).toNat→W (aj s') Q) (hc:0≤g19.2.2∧g19.2.1.length≤600∧0≤g19.1∧g19.1≤51∧g19.1≤v1.1∧Yf b_ g14.2.2∧ahP b_ g15.2.2∧amF g16.2.2∧aqs b_ v53.1∧0≤g1.1∧g1.1<v1.1∧v1.1≤51∧(g1.2.2.2.length:Int)=g1.1∧(∀x∈g1.2.2.2,NdG b_ v1.1 x)∧(-1≤v46.1∧v46.1<b_.cO.length)):W (kF g1 aj v46 g14 g15 g16 v53 g19) Q:=by
 obtain ⟨amg,amh,U0,QU,WK,ad4,aj1,amM,amN,VL,MK,acY,aoZ,ar2,ar3⟩:=hc;unfold kF;refine aF (Gz ob ob ob ob ob ob) λ v60 auK=>?_;obtain ⟨auL,aqu,aqv,auM,auN⟩:=auK;exact uT (b_:=b_) (v1:=v1) (λ a b c=>bW a b c) (by (refine ⟨ob,ob,⟨ob,λ p hp=>(by have:=aqu p hp; omega),aqv⟩,ad4,aj1,amM,amN,ob,ob,ob,ob,ar2,ar3⟩))
theorem uV (bW:∀s':(Int×List Int×Int×List aJ),(0≤s'.1∧s'.1≤v1.1∧0≤s'.2.2.1∧s'.2.1.length≤600∧(s'.2.2.2.length:Int)=s'.1∧(∀x∈s'.2.2.2,NdG b_ v1.1 x))→(v1.1 - s'.1).toNat<(v1.1 - g1.1).toNat→W (aj s') Q) (hc:0≤g16.2.1∧g16.1.length≤600∧Yf b_ g14.2.2∧ahP b_ g15.2.2∧amF g16.2.2∧b_.bq.length≤4∧0≤g1.1∧g1.1<v1.1∧v1.1≤51∧(g1.2.2.2.length:Int)=g1.1∧(∀x∈g1.2.2.2,NdG b_ v1.1 x)∧(-1≤v46.1∧v46.1<b_.cO.length)):W (kG b_ v1 g1 aj v46 g14 g15 g16) Q:=by
 obtain ⟨amg,amh,U0,QU,WK,ad4,aj1,amM,amN,VL,MK,acY⟩:=hc;unfold kG;refine aF (Gz ob ob ob ob ob ob) λ v53 auO=>?_;obtain ⟨auP,ahR,auQ,auR,auS⟩:=auO;refine aF (bV ob ob ob) λ v58 auT=>?_;obtain ⟨auU,auV,auW,auX,auY⟩:=auT;refine wi ?_ ?_<;>intro c1
 ·refine aF (bV ob ob ob) λ v61 auZ=>?_;obtain ⟨au0,au1,au2,au3,au4⟩:=auZ;refine wi ?_ ?_<;>intro c2
  ·exact uU (b_:=b_) (v1:=v1) (λ a b c=>bW a b c) (by (refine ⟨ob,ob,ob,ob,ob,U0,QU,WK,⟨om,ahR⟩,ob,ob,ob,ob,MK,acY⟩))
  ·exact uU (b_:=b_) (v1:=v1) (λ a b c=>bW a b c) (by (refine ⟨ob,ob,ob,ob,ob,U0,QU,WK,⟨om,ahR⟩,ob,ob,ob,ob,MK,acY⟩))
 ·exact uT (b_:=b_) (v1:=v1) (λ a b c=>bW a b c) (by (refine ⟨ob,ob,amJ,U0,QU,WK,⟨om,ahR⟩,ob,ob,ob,ob,MK,acY⟩))
theorem og (bW:∀s':(Int×List Int×Int×List aJ),(0≤s'.1∧s'.1≤v1.1∧0≤s'.2.2.1∧s'.2.1.length≤600∧(s'.2.2.2.length:Int)=s'.1∧(∀x∈s'.2.2.2,NdG b_ v1.1 x))→(v1.1 - s'.1).toNat<(v1.1 - g1.1).toNat→W (aj s') Q) (hc:0≤g15.2.1∧g15.1.length≤600∧Yf b_ g14.2.2∧ahP b_ g15.2.2∧b_.bq.length≤4∧0≤g1.1∧g1.1<v1.1∧v1.1≤51∧(g1.2.2.2.length:Int)=g1.1∧(∀x∈g1.2.2.2,NdG b_ v1.1 x)∧(-1≤v46.1∧v46.1<b_.cO.length)):W (jA b_ v1 g1 aj v46 g14 g15) Q:=by
 obtain ⟨amg,amh,U0,QU,WK,ad4,aj1,amM,amN,VL,MK⟩:=hc;unfold jA;refine aF (bV ob ob ob) λ v62 au5=>?_;obtain ⟨au6,au7,au8,au9,ava⟩:=au5;refine wi ?_ ?_<;>intro c1
 ·refine aF (P7 ob ob ob ob) λ v63 avb=>?_;obtain ⟨avc,aqw,avd,ave⟩:=avb;exact uV (λ a b c=>bW a b c) (by (refine ⟨ob,ob,U0,QU,⟨ob,aqw⟩,WK,ob,ob,ob,ob,VL,MK⟩))
 ·exact uV (λ a b c=>bW a b c) (by (refine ⟨ob,ob,U0,QU,amI,WK,ob,ob,ob,ob,VL,MK⟩))
theorem pq (bW:∀s':(Int×List Int×Int×List aJ),(0≤s'.1∧s'.1≤v1.1∧0≤s'.2.2.1∧s'.2.1.length≤600∧(s'.2.2.2.length:Int)=s'.1∧(∀x∈s'.2.2.2,NdG b_ v1.1 x))→(v1.1 - s'.1).toNat<(v1.1 - g1.1).toNat→W (aj s') Q) (hc:0≤g14.2.1∧g14.1.length≤600∧Yf b_ g14.2.2∧b_.bq.length≤4∧b_.bG.length≤3∧0≤g1.1∧g1.1<v1.1∧v1.1≤51∧(g1.2.2.2.length:Int)=g1.1∧(∀x∈g1.2.2.2,NdG b_ v1.1 x)∧(-1≤v46.1∧v46.1<b_.cO.length)):W (jI b_ v1 g1 aj v46 g14) Q:=by
 obtain ⟨amg,amh,U0,QU,WK,ad4,aj1,amM,amN,VL,MK⟩:=hc;unfold jI;refine wi ?_ ?_<;>intro c1
 ·refine aF (bV ob ob ob) λ v64 hv64=>?_;obtain ⟨avf,avg,avh,avi,avj⟩:=hv64;refine wi ?_ ?_<;>intro c2
  ·refine aF (VK ob ob ob ob) λ v65 avk=>?_;obtain ⟨aqx,avl,avm⟩:=avk;refine wn ?_;exact og (λ a b c=>bW a b c) (by (refine ⟨ob,ob,U0,amH aqx,QU,ob,ob,ob,ob,VL,MK⟩))
  ·exact og (λ a b c=>bW a b c) (by (refine ⟨ob,ob,U0,agf,QU,ob,ob,ob,ob,VL,MK⟩))
 ·refine wn ?_;exact og (λ a b c=>bW a b c) (by (refine ⟨ob,ob,U0,agf,QU,ob,ob,ob,ob,VL,MK⟩))
theorem P8 {jl:Int} (h1:anQ b_) (h2:0≤jl) (h3:jl≤50) (h4:0≤dD.At) (h5:dD.L.length≤600):W (rE b_ jl dD) (λ r=>r.1.length≤jl.toNat∧(∀x∈r.1,NdG b_ (r.1.length:Int) x)∧0≤r.2.At∧r.2.L.length≤600):=by
 obtain ⟨q1,q2,q3,q4,q5,q6,q7,q8,q9⟩:=h1;unfold rE;refine wn<|aF (bV ob ob ob) λ v1 hv1=>?_;obtain ⟨I8,CF,I9,Mg,OV⟩:=hv1;refine bI (λ (g1:Int×List Int×Int×List aJ)=>0≤g1.1∧g1.1≤v1.1∧0≤g1.2.2.1∧g1.2.1.length≤600∧(g1.2.2.2.length:Int)=g1.1∧(∀x∈g1.2.2.2,NdG b_ v1.1 x)) (λ (g1:Int×List Int×Int×List aJ)=>(v1.1 - g1.1).toNat) ?_ ?_
 ·intro aj g1 dY bW;obtain ⟨dN,bO,bE,jB,CG,Mh⟩:=dY;unfold Bb;refine wi ?_ ?_<;>intro c1
  ·refine wn<|aF (nQ ob ob ob ob ob ob) λ v46 ahq=>?_;obtain ⟨avn,avo,avp,avq,avr⟩:=ahq;refine wi ?_ ?_<;>intro c2
   ·refine aF (bV ob ob ob) λ v66 avs=>?_;obtain ⟨avt,avu,avv,avw,avx⟩:=avs;refine wi ?_ ?_<;>intro c3
    ·refine aF (TI ob ob ob ob) λ v67 avy=>?_;obtain ⟨aqy,avz,avA⟩:=avy;refine wn ?_;exact pq (λ a b c=>bW a b c) (by (refine ⟨ob,ob,amG aqy,ob,ob,ob,ob,ob,ob,Mh,om,om⟩))
    ·exact pq (λ a b c=>bW a b c) (by (refine ⟨ob,ob,agd,ob,ob,ob,ob,ob,ob,Mh,om,om⟩))
   ·refine wn ?_;exact pq (λ a b c=>bW a b c) (by (refine ⟨ob,ob,agd,ob,ob,ob,ob,ob,ob,Mh,om,om⟩))
  ·have hlen:(g1.2.2.2.length:Int)=v1.1:=by omega
   refine wi ?_ ?_<;>intro c4
   ·refine aF (bV ob ob ob) λ v68 avB=>?_;obtain ⟨avC,avD,avE,avF,avG⟩:=avB;refine wi ?_ ?_<;>intro c5
    ·refine wn<|bI (λ (g20:Int×Int×List aJ)=>0≤g20.1 ∧ -1≤g20.2.1∧g20.2.1<v1.1∧g20.1≤v1.1∧(g20.2.2.length:Int)=v1.1∧(∀x∈g20.2.2,NdG b_ v1.1 x)) (λ (g20:Int×Int×List aJ)=>(g20.2.1 - g20.1).toNat) ?_ ?_
     ·intro ahm g20 ar4 ar5;obtain ⟨avH,avI,avJ,avK,avL,aei⟩:=ar4;unfold zo;refine wi ?_ ?_<;>intro c6
      ·refine wm<|wm ?_;refine wm<|ar5 _ ?_ ?_
       ·(refine ⟨ob,ob,ob,ob,ob,adE (adE aei (aei _ (getD_in _ om))) (aei _ (getD_in _ om))⟩)
       ·exact ob
      ·refine bI (λ (g21:Int×List aJ)=>0≤g21.1∧(g21.2.length:Int)=v1.1∧(∀x∈g21.2,NdG b_ v1.1 x)) (λ (g21:Int×List aJ)=>(v1.1 - g21.1).toNat) ?_ ?_
       ·intro aaw g21 ar6 ar7;obtain ⟨avM,aqz,ahS⟩:=ar6;unfold zn;refine wi ?_ ?_<;>intro c7
        ·have q:=ahS (g21.2.getD g21.1.toNat bB) (getD_in _ om);have qp:=q.pr.1;refine wm<|bI (λ (g24:Int×List Int) => -1≤g24.1∧g24.1<(g21.2.getD g21.1.toNat bB).bT.length∧(g24.2.length:Int)+g24.1<(g21.2.getD g21.1.toNat bB).bT.length∧(∀p∈g24.2,0≤p∧p<v1.1)∧aaR g24.2∧(∀p∈g24.2,∀j:Nat,(j:Int)≤g24.1→p<v1.1 - 1 - (g21.2.getD g21.1.toNat bB).bT.getD j 0)) (λ (g24:Int×List Int)=>(g24.1+1).toNat) ?_ ?_
         ·intro ahl g24 ar8 ar9;obtain ⟨avN,avO,avP,amO,amP,amQ⟩:=ar8;unfold zm;refine wi ?_ ?_<;>intro c8
          ·have q2:=q.pr.2.1 _ (getD_in (i:=g24.1.toNat) 0 om);refine wm<|wm ?_;refine wm<|ar9 _ ?_ ?_
           ·(refine ⟨ob,ob,ob,λ p hp=>?_,agb amP (λ p hp=>by have:=amQ p hp g24.1.toNat om; omega),λ p hp j hj=>?_⟩; (rcases List.mem_append.1 hp with hp | hp; (exact amO p hp); (rw [List.mem_singleton] at hp; omega)); (dsimp only at hj; rcases List.mem_append.1 hp with hp | hp; (exact amQ p hp j om); (rw [List.mem_singleton] at hp; have:=q.pr.2.2 j g24.1.toNat om om; omega)))
           ·exact ob
          ·refine wm<|ar7 _ ?_ ?_
           ·(refine ⟨ob,ob,adE ahS ⟨q.lm,q.dw,q.fw,q.rs,q.dm,ob,amO,amP⟩⟩)
           ·exact ob
         ·(refine ⟨ob,ob,ob,nofun,aeh,nofun⟩)
        ·refine av ?_;(refine ⟨ob,λ x hx=>?_,ob,ob⟩; have q:=ahS x hx; rw [aqz]; exact q)
       ·(refine ⟨ob,ob,aei⟩)
     ·(refine ⟨ob,ob,ob,ob,ob,Mh⟩)
    ·refine av ?_;(refine ⟨ob,λ x hx=>?_,ob,ob⟩; have q:=Mh x hx; rw [hlen]; exact q)
   ·refine wn<|av ?_;(refine ⟨ob,λ x hx=>?_,ob,ob⟩; have q:=Mh x hx; rw [hlen]; exact q)
 ·(refine ⟨ob,ob,ob,ob,ob,nofun⟩)
variable {eu:List Int}
theorem agh {p_:bn} {l_:List ByteArray} (h1:∀g∈p_.aD,g.bQ.length≤2000000∧g.ak.length≤2000000) (h2:l_.length≤2000000) (hp:ad7 p_) (hg:WL p_ l_ eu):W (Qt p_ l_ eu) (λ _=>True):=by
 unfold Qt;refine aF (P:=λ _=>True) ?_ λ v1 _=>?_
 ·unfold OP;refine aF (EG h1) λ v1 _=>?_;refine bJ (λ _=>av trivial) (λ _=>?_);refine bI (λ g1:Int=>0≤g1) (λ g1=>(l_.length - g1).toNat) ?_ (Int.le_refl _);intro aj g1 a1 ih1;unfold OO;refine bJ (λ c=>?_) (λ _=>av trivial);have c:=nr c;refine aO om ?_;refine aF Au λ v4 _=>?_;exact bJ (λ _=>av trivial) (λ _=>aO (by unfold aG; omega) (ih1 _ om om))
 refine bJ (λ _=>av trivial) (λ _=>?_);refine aF (P:=λ _=>True) ?_ λ v2 _=>bJ (λ _=>av trivial) (λ _=>av trivial);unfold SK;refine bJ (λ _=>av trivial) (λ c1=>?_);have c1:=nr c1;refine bI (λ g1:Int=>0≤g1) (λ g1=>(eu.length - g1).toNat) ?_ (Int.le_refl _);intro aj g1 a1 ih1;unfold RJ;refine bJ (λ c=>?_) (λ _=>av trivial);have c:=nr c;have hx:=hg.ir _ (getD_in (i:=g1.toNat) 0 om);have hf:=(h1 _ (getD_in (i:=(eu.getD g1.toNat 0).toNat) aH om)).2;refine aO om ?_;refine aO (λ _=>hx) ?_;refine aO (λ _=>by omega) ?_;refine aF (qX λ _=>Pp hf) λ v5 _=>?_;refine aO (λ _=>by omega) ?_;refine aF (qX λ _=>R3 h1 (by rw [List.length_take]; omega) (λ x hx=>hg.ir x (List.mem_of_mem_take hx)) hx.1 hx.2 hp) λ v6 _=>?_;exact bJ (λ _=>av trivial) (λ _=>aO (by unfold aG; omega) (ih1 _ om om))
theorem Y5 {p_:bn} {l_:List ByteArray} (h1:∀g∈p_.aD,g.bQ.length≤2000000∧g.ak.length≤2000000) (h2:p_.aD.length≤2000000) (h3:l_.length≤2000000) (hp:ad7 p_) (hg:WL p_ l_ eu) (hgl:eu.length≤l_.length):W (Dz p_ l_ eu) (λ r=>r.2=true→r.1.length=l_.length∧WL p_ l_ r.1∧r.1.take eu.length=eu):=by
 unfold Dz;refine bI (λ s:bn×List ByteArray×List Int=>s.1=p_∧s.2.1=l_∧s.2.2.length≤l_.length∧WL p_ l_ s.2.2∧eu.length≤s.2.2.length∧s.2.2.take eu.length=eu) (λ s=>l_.length - s.2.2.length) ?_ ⟨rfl,rfl,hgl,hg,Nat.le_refl _,List.take_length⟩;rintro self ⟨p,l,gs⟩ ⟨e1,e2,e3,e4,e5,e6⟩ ih;dsimp only at e1 e2 e3 e4 e5 e6;subst p l;unfold oV;refine wi ?_ ?_<;>intro c1
 ·refine aO ob (av ?_);intro _;exact ⟨by dsimp only at c1 ⊢; omega,e4,e6⟩
 ·refine aO (by dsimp only at c1 ⊢; omega) ?_;refine aF (Yy h1 h2) λ v1 hv1=>?_;obtain ⟨k1,k2⟩:=hv1;refine bI (λ g:Int=>0≤g) (λ g:Int=>(v1.length - g).toNat) ?_ (Int.le_refl _);intro aj g1 hg1 ih1;unfold Mf;refine bJ ?_ ?_<;>intro c2
  ·have c2:=nr c2;have hx:=k2 _ (getD_in (i:=g1.toNat) 0 om);refine wn<|aF (R3 h1 (by dsimp only; omega) (λ x hx=>e4.ir x hx) hx.1.1 hx.1.2 hp) λ v6 h6=>?_;refine bJ ?_ ?_<;>intro c3
   ·refine aO ob (ih1 _ om om)
   ·refine aO ob (aO ob (aO ob ?_));have hl:¬ gs.length=l_.length:=by (try dsimp only at c1); omega
    refine aF (ih _ ⟨rfl,rfl,by (simp only [List.length_append,List.length_singleton]; omega),?_,by (simp only [List.length_append,List.length_singleton]; omega),by dsimp only; rw [List.take_append_of_le_length e5]; exact e6⟩ (by (simp only [List.length_append,List.length_singleton]; omega))) λ v7 hv7=>?_
    ·exact af3 e4 hx.1 hx.2 (h6 (by simpa using c3))
    ·refine bJ (λ c4=>av λ _=>hv7 c4) (λ c4=>aO ob (ih1 _ om om))
  ·exact av nofun
theorem Y6 {p_:bn} {l_:List ByteArray} (h1:∀g∈p_.aD,g.bQ.length≤2000000∧g.ak.length≤2000000) (h2:l_.length≤2000000) (h3:p_.aD.length≤2000000) (hp:ad7 p_) (hg:WL p_ l_ eu) (hgl:eu.length≤l_.length):W (DC p_ l_ eu) (λ r=>r.2=0→r.1.length=l_.length∧WL p_ l_ r.1∧r.1.take eu.length=eu):=by
 unfold DC;refine aF (agh h1 h2 hp hg) λ v1 _=>?_;refine bJ (λ c1=>av λ e=>?_) (λ _=>?_)
 ·have c1:=nr c1; exact absurd e c1
 refine aF (Y5 h1 h3 h2 hp hg hgl) λ v2 hv2=>?_;refine bJ (λ _=>av nofun) (λ c2=>av λ _=>hv2 (by simpa using c2))
theorem abo {l_:List aR} (h1:∀u∈l_,Jd b_.aT u.jN) (h2:l_.length≤2000000):W (Gf b_ l_) (λ r=>r=(l_.map (λ u=>nmU b_.aT u.jN),l_.map λ u=>u.jN.cZ)):=by
 unfold Gf;refine bI (λ g1:Int×List ByteArray×List Int=>0≤g1.1∧g1.1≤l_.length∧g1.2.1=(l_.take g1.1.toNat).map (λ u=>nmU b_.aT u.jN)∧g1.2.2=(l_.take g1.1.toNat).map λ u=>u.jN.cZ) (λ g1=>(l_.length - g1.1).toNat) ?_ ⟨ob,ob,rfl,rfl⟩;intro aj g1 ⟨a1,a2,a3,a4⟩ ih1;have l1:g1.2.1.length≤l_.length:=by rw [a3,List.length_map,List.length_take]; omega
 have l2:g1.2.2.length≤l_.length:=by rw [a4,List.length_map,List.length_take]; omega
 unfold OL;refine wi ?_ ?_<;>intro c
 ·have e:(g1.1+1).toNat=g1.1.toNat+1:=by omega
  obtain ⟨u1,u2,u3,u4⟩:=h1 _ (getD_in (i:=g1.1.toNat) bC om);refine wn<|aO om ?_;refine aO om ?_;refine aO (by unfold big; omega) ?_;refine aO (by unfold big; omega) ?_;refine wn<|ih1 _ ⟨ob,ob,?_,?_⟩ ob
  ·dsimp only;rw [e,mD _ _ bC om,a3]; rfl
  ·dsimp only;rw [e,mD _ _ bC om,a4]
 ·exact av (by rw [a3,a4,List.take_of_length_le om])
variable {p:bn}
theorem aiO {fs:List ByteArray} (h:G6 p (us.map aR.jN)):WL p (us.map (λ u=>nmU p u.jN)++fs) (us.map λ u=>u.jN.cZ):=by
 refine ⟨λ x hx=>?_,λ k hk=>?_,λ k j hj hk=>?_⟩
 ·obtain ⟨u,hu,rfl⟩:=List.mem_map.1 hx;obtain ⟨u1,u2,_,_⟩:=QE h u hu;exact ⟨u1,u2⟩
 ·rw [List.length_map] at hk;have hk:k<us.length:=by omega
  obtain ⟨u1,u2,u3,u4⟩:=QE h _ (getD_in (i:=k) bC hk);rw [jO ByteArray.empty (by rw [List.length_map]; exact hk),tQ (d:=bC) hk,tQ (d:=bC) hk];exact ⟨(us.getD k bC).jN.gL.toNat,om,rfl⟩
 ·rw [List.length_map] at hk;have hk:k<us.length:=by omega
  have:=(h k (by rw [List.length_map]; omega)).2.2 j hj;rw [tQ (d:=bC) hk,tQ (d:=bC) om] at this ⊢;exact λ a c ha hc=>this a c ha hc
theorem aiP {l:List ByteArray} {gs:List Int} (hp:ad7 p) (hf:WL p l gs) (hg:us.map (λ u=>u.jN.cZ)=gs) (hu:∀u∈us,Jd p u.jN):G6 p (us.map aR.jN):=by
 intro i hi;rw [List.length_map] at hi;have hi:i<us.length:=by omega
 have hgl:gs.length=us.length:=by rw [← hg,List.length_map]
 have hgg:∀k,k<us.length→((us.map aR.jN).getD k fU).cZ=gs.getD k 0:=λ k hk=>by
  rw [← hg,tQ (d:=bC) hk,tQ (d:=bC) hk]
 have hdj:∀k,k<i→ajX p ((us.map aR.jN).getD k fU).cZ ((us.map aR.jN).getD i fU).cZ:=λ k hk=>by
  rw [hgg k om,hgg i hi]; exact hf.dj i k hk om
 have hui:=hu _ (getD_in (i:=i) bC hi);refine ⟨by rw [tQ (d:=bC) hi]; exact hui,λ k hk e=>?_,λ k hk=>hdj k hk⟩;have hd:=hdj k hk;rw [e] at hd;obtain ⟨u1,u2,_,_⟩:=hui;rw [tQ (d:=bC) hi] at hd;have:=(hp.ok.gr _ (getD_in (i:=(us.getD i bC).jN.cZ.toNat) aH om)).pl;exact hd 0 0 om om rfl
def FnU (b:aS) (l:List aJ) (ms:List Int) (us:List aR):Prop:=∀i∈ms,∀f:ByteArray,cntF (l.getD i.toNat bB).ak f≤MW b.aT us i f
theorem JE (h:∀u∈us,u.gF∈ms):vZ ms us=us:=by
 unfold vZ;exact List.filter_eq_self.2 λ u hu=>by simpa using h u hu
theorem aiQ {new:List aR} {d:Int} {fs:List ByteArray} (h:new.map (λ u=>(u.gF,nmU p u.jN))=fs.map λ f=>(d,f)) (f:ByteArray):cntF fs f≤MW p (us++new) d f:=by
 have e:MW p new d f=cntF fs f:=by
  have e1:MW p new d f=(new.map (λ u=>(u.gF,nmU p u.jN))).countP λ q=>(q.1==d)&&decide (q.2=f):=by
   rw [List.countP_map]; rfl
  rw [e1,h,List.countP_map];unfold cntF;exact List.countP_congr λ x _=>by simp
 rw [← e];unfold MW;rw [List.countP_append];omega
structure UsI (b:aS) (l:List aJ) (ms:List Int) (us:List aR):Prop where
 dv:∀u∈us,u.gF∈ms
 ow:G6 b.aT (us.map aR.jN)
 fn:FnU b l ms us
 df:vW l ms
 fl:ms≠[]→FL b l ms
theorem amR (hb:Pq b 0) (hl:l.length≤12) (h:∀x∈l,NdG b l.length x):lT b l 0:=by
 refine kK hb (aL om (KC λ k hk=>?_));obtain ⟨l1,d1,f1,r1,q1,p1⟩:=h _ (getD_in (i:=k) bB hk);have hw:∀ {α:Type} (xs:List α) (d:α) (P:α→Prop),(∀x∈xs,P x)→¬ ∃j:Nat,(j:Int)<xs.length∧¬P (xs.getD j d):=λ xs d P hp ⟨j,hj,q⟩=>q (hp _ (getD_in d om));refine lJ (by have:=l1.1; have:=d1.1; have:=f1.1; omega) (lJ (hw _ _ _ l1.2) (lJ (hw _ _ _ d1.2) (lJ (hw _ _ _ f1.2) (lJ (hw _ _ _ r1.2) (lJ (λ q=>q q1) (lJ (hw _ _ _ p1.2.1) (lJ ?_ rfl)))))));rintro ⟨j,j1,j2,j3⟩;have:=p1.2.2 (j - 1) j om j2;omega
theorem asa {R:Type} {m:M R} {Q:R→Prop} (h:W m Q):W m (λ r=>r=Classical.choose h∧Q r):=⟨_,(Classical.choose_spec h).1,rfl,(Classical.choose_spec h).2⟩
theorem TJ {aU:Int} {dD:List Int} (h1:Bq b_) (h2:GSz b_.aT) (h2':b_.aT.aD.length≤2000000) (h3:Jf l_) (h4:dD.length≤9999) (h5:MV g_) (h6:g_.bZ.length≤100000)
  (ho:G6 b_.aT (g_.bZ.map aR.jN)) (hd:∀u∈g_.bZ,u.gF∈dD) (hf:FnU b_ l_ dD g_.bZ):W (vk b_ l_ g_ aU dD) (λ r=>r.2.2=0→(MV r.1∧r.1.bZ.length≤g_.bZ.length+(l_.getD aU.toNat bB).ak.length)∧
   (∀u∈r.1.bZ,u.gF∈dD++[aU])∧G6 b_.aT (r.1.bZ.map aR.jN)∧FnU b_ l_ (dD++[aU]) r.1.bZ∧vW l_ (dD++[aU])∧AgA b_ l_ (dD++[aU]) r.1.bZ r.1):=by
 unfold vk;refine aF (abm h1 h2 h3 om h5) λ v1 hv1=>?_;refine bJ ?_ ?_<;>intro c1
 ·have c1:=nr c1;exact av λ e=>absurd e c1
 have c1:=nr c1;obtain ⟨hn,⟨hpa,_⟩,hd0,hd1⟩:=hv1 c1;obtain ⟨hb,hl12,hnd⟩:=tT hn;have amS:=QE ho;refine aF (P5 om) λ v2 _=>?_;refine bJ (λ c2=>av nofun) (λ c2=>?_);refine aO (by unfold big; omega) ?_;refine aO (by unfold big; omega) ?_;refine aF (MI om om) λ v11 ad2=>?_;rw [JE hd] at ad2;subst ad2;unfold vS;refine aF (VI h1 h2 h3 (by dsimp only; rw [List.length_append,List.length_singleton]; omega) (by dsimp only; omega)) λ v4 ⟨hga,_,hgl⟩=>?_;refine bJ ?_ ?_<;>intro c3
 ·have c3:=nr c3;exact av λ e=>absurd e c3
 have c3:=nr c3;obtain ⟨_,hdf,hag⟩:=hgl c3;have hus:=hag.us;dsimp only at hus hdf;rw [JE λ u hu=>List.mem_append_left _ (hd u hu)] at hus;refine aF (abo amS (by dsimp only; omega)) λ v10 Ji=>?_;subst Ji;have aya:=(hnd _ (getD_in (i:=aU.toNat) bB om)).fl;unfold uw;dsimp only;refine aO ⟨hd0,hd1⟩ ?_;refine aO (by rw [List.length_map]; unfold big; omega) ?_;refine aF (Y6 h2 (by rw [List.length_append,List.length_map]; omega) h2' hpa.v (aiO ho) (by rw [List.length_append,List.length_map,List.length_map]; omega)) λ v6 hv6=>?_;refine bJ (λ c4=>av nofun) (λ c4=>?_);have c4:=nr c4;obtain ⟨ha1,ha2,ha3⟩:=hv6 c4;rw [List.length_append,List.length_map] at ha1;rw [List.length_map] at ha3;refine aO ⟨hd0,hd1⟩ ?_;refine bI (λ g3:Int×List aR=>0≤g3.1∧g3.1≤(l_.getD aU.toNat bB).ak.length∧(∃new,g3.2=g_.bZ++new∧new.map (λ u=>(u.gF,nmU b_.aT u.jN))=((l_.getD aU.toNat bB).ak.take g3.1.toNat).map λ f=>(aU,f))∧g3.2.map (λ u=>u.jN.cZ)=v6.1.take (g_.bZ.length+g3.1.toNat)∧∀u∈g3.2,Jd b_.aT u.jN) (λ g3=>((l_.getD aU.toNat bB).ak.length - g3.1).toNat) ?_ ⟨ob,ob,⟨[],by dsimp only; rw [hus,List.append_nil],rfl⟩,?_,λ u hu=>?_⟩
 ·intro jZ g3 ⟨d1,d2,⟨new,d3,d4⟩,d5,d6⟩ ih3;have hnl:new.length=g3.1.toNat:=by
   have:=congrArg List.length d4;rw [List.length_map,List.length_map,List.length_take] at this;omega
  have hgl:g3.2.length=g_.bZ.length+g3.1.toNat:=by rw [d3,List.length_append,hnl]
  unfold CB;refine wi ?_ ?_<;>intro c5
  ·dsimp only;rw [List.length_map];have e:((g_.bZ.length:Int)+g3.1).toNat=g_.bZ.length+g3.1.toNat:=by omega
   have e1:(g3.1+1).toNat=g3.1.toNat+1:=by omega
   have hx:=ha2.ir _ (getD_in (i:=g_.bZ.length+g3.1.toNat) 0 om);have hof:=ha2.off (g_.bZ.length+g3.1.toNat) om;rw [Bn ByteArray.empty (by rw [List.length_map]; omega),List.length_map,Nat.add_sub_cancel_left] at hof;rw [e];refine aO om ?_;refine aO (by unfold aG; omega) ?_;refine aO om ?_;refine aO hx ?_;have hff:=(h2 _ (getD_in (i:=(v6.1.getD (g_.bZ.length+g3.1.toNat) 0).toNat) aH om)).2;refine aF (Pp om) λ v9 ⟨t1,t2,t3,t4⟩=>?_;obtain ⟨k,k1,k2⟩:=hof;have t0:0≤v9:=Int.not_lt.1 λ q=>t4 q k k1 k2;have t5:=Ti (t3 t0);refine aO (by unfold big; omega) ?_;refine aO (by unfold aG; omega) ?_;refine ih3 _ ⟨by dsimp only; omega,by dsimp only; omega,⟨new++[⟨aU,⟨v6.1.getD (g_.bZ.length+g3.1.toNat) 0,v9⟩⟩],by dsimp only; rw [d3,List.append_assoc],?_⟩,?_,λ u hu=>?_⟩ (by dsimp only; omega)
   ·dsimp only;rw [e1,mD _ _ ByteArray.empty om,List.map_append,d4,List.map_cons,List.map_nil];congr 3
   ·dsimp only;rw [List.map_append,d5,e1,← Nat.add_assoc,gP 0 om,List.map_cons,List.map_nil]
   ·rcases List.mem_append.1 hu with h | h
    ·exact d6 u h
    ·rw [List.mem_singleton] at h; rw [h];exact ⟨hx.1,hx.2,t0,t2⟩
  ·rw [List.take_of_length_le om] at d4 d5;have hdv:∀u∈g3.2,u.gF∈dD++[aU]:=by
    intro u hu;rw [d3] at hu;rcases List.mem_append.1 hu with h | h
    ·exact List.mem_append_left _ (hd u h)
    ·refine List.mem_append_right _ (List.mem_singleton.2 ?_);have:(u.gF,nmU b_.aT u.jN)∈(l_.getD aU.toNat bB).ak.map λ f=>(aU,f):=by rw [← d4]; exact List.mem_map.2 ⟨u,h,rfl⟩
     obtain ⟨f,_,e⟩:=List.mem_map.1 this;exact (Prod.mk.inj e).1.symm
   refine av λ _=>⟨⟨⟨hga.a,hga.b,hga.c,by dsimp only; omega,hga.d,hga.e⟩,by dsimp only; omega⟩,hdv,aiP hpa.v ha2 d5 d6,?_,hdf,⟨hag.st,hag.ra,(JE hdv).symm,hag.re,hag.po⟩⟩
   ·intro i hi f;dsimp only;rw [d3];rcases List.mem_append.1 hi with h | h
    ·refine Nat.le_trans (hf i h f) ?_;unfold MW;rw [List.countP_append];omega
    ·rw [List.mem_singleton] at h; rw [h];exact aiQ d4 f
 ·dsimp only;rw [hus,show (0:Int).toNat=0 from rfl,Nat.add_zero,ha3]
 ·dsimp only at hu;rw [hus] at hu;exact amS u hu
theorem Hq (h1:Bq b_) (h2:GSz b_.aT):W (Et b_) (λ r=>MV r.1∧r.1.bZ=[]∧(r.2=0→Pq b_ 0∧AgA b_ [] [] [] r.1)):=by
 unfold Et;refine aF (abn h1 h2 ⟨by simp,λ _ h=>by cases h⟩ (by simp) (by simp)) λ v1 ⟨hga,hul,hgl⟩=>?_;have hun:v1.2.2.2.2.2.2.2=[]:=List.length_eq_zero_iff.1 (by simpa using hul);exact av ⟨⟨hga.a,hga.b,hga.c,by dsimp only; rw [hun]; simp,hga.d,hga.e⟩,hun,λ e=>⟨(Pv (hgl e).1).1,(hgl e).2.2⟩⟩
def asb (b:aS) (r:bg×Int):Prop:=∀h1 h2,r=Classical.choose (Hq (b_:=b) h1 h2)
structure UsJ (e:Int) (b:aS) (l:List aJ) (ms:List Int) (g:bg):Prop where
 dv:∀u∈g.bZ,u.gF∈ms
 ow:G6 b.aT (g.bZ.map aR.jN)
 fn:FnU b l ms g.bZ
 df:vW l ms
 ag:e=0→AgA b l ms g.bZ g
theorem abp (h1:0≤dD.At) (h2:dD.L.length≤600):W (Gh dD) (λ r=>anQ r.1∧r.2.1.length≤5∧(∀x∈r.2.1,NdG r.1 r.2.1.length x)∧r.2.2.1.length≤5∧MV r.2.2.2.1∧r.2.2.2.1.bZ.length≤10∧∃v3,asb r.1 v3∧UsJ v3.2 r.1 r.2.1 r.2.2.1 r.2.2.2.1):=by
 unfold Gh;refine aF (UE h1 h2) λ v1 ⟨b1,b2,b3⟩=>?_;refine aF (P8 b1 om om b2 b3) λ v2 hv2=>?_;obtain ⟨n1,n2,n3,n4⟩:=hv2;have hbs:=aoW b1;have hgs:GSz v1.1.aT:=λ g hg=>by have:=b1.gr g hg; omega
 have hgn:=b1.ngr;have hns:Jf v2.1:=⟨om,λ n hn=>by have a:=(n2 n hn).rs.1; have c:=(n2 n hn).pr.1; omega⟩;refine aF (asa (Hq hbs hgs)) λ v3 ⟨sp,s1,s2,s3⟩=>?_;refine bI (λ g1:(Int×List Int×Int×List Int×List Bool×List Int×List aR×List Bool×List Bool×List Int)=>0≤g1.1∧g1.1≤v2.1.length∧0≤g1.2.2.1∧g1.2.1.length≤600∧MV ⟨g1.2.2.2.1,⟨g1.2.2.2.2.1,g1.2.2.2.2.2.1⟩,g1.2.2.2.2.2.2.1,g1.2.2.2.2.2.2.2.1,g1.2.2.2.2.2.2.2.2.1⟩∧g1.2.2.2.2.2.2.1.length≤2*g1.1.toNat∧g1.2.2.2.2.2.2.2.2.2.length≤g1.1.toNat∧UsJ v3.2 v1.1 v2.1 g1.2.2.2.2.2.2.2.2.2 ⟨g1.2.2.2.1,⟨g1.2.2.2.2.1,g1.2.2.2.2.2.1⟩,g1.2.2.2.2.2.2.1,g1.2.2.2.2.2.2.2.1,g1.2.2.2.2.2.2.2.2.1⟩) (λ g1=>(v2.1.length - g1.1).toNat) ?_ ⟨ob,ob,n3,n4,s1,by dsimp only; rw [s2]; simp,by simp,⟨by dsimp only; rw [s2]; exact nofun,by dsimp only; rw [s2]; exact λ i hi=>by (simp at hi; omega),nofun,λ i hi=>by (simp at hi; omega),λ e=>by have h:=(s3 e).2; rw [← s2] at h; exact ⟨h.st,h.ra,h.us,h.re,h.po⟩⟩⟩;intro aj g1 ⟨a1,a2,a3,a4,a5,a6,a7,a8⟩ ih1;unfold OT;refine wi ?_ ?_<;>intro c
 ·have hfx:=(n2 _ (getD_in (i:=g1.1.toNat) bB om)).fw.1;have e:(g1.1+1).toNat=g1.1.toNat+1:=by omega
  refine aF (TJ hbs hgs om hns om a5 (by dsimp only; omega) a8.ow a8.dv a8.fn) λ v8 vU=>?_;refine bJ ?_ ?_<;>intro c2
  ·refine aF (bV om a3 a4) λ v9 Wx=>?_;obtain ⟨_,_,_,q1,q2⟩:=Wx;refine bJ ?_ ?_<;>intro c3
   ·have c4:v8.2.2=0:=by
     simp only [Bool.and_eq_true,beq_iff_eq] at c3;exact c3.1.2
    obtain ⟨⟨r1,r2⟩,r3,r4,r5,r6,r7⟩:=vU c4;dsimp only at r2;refine aO (by unfold big; omega) ?_;refine wn ?_;exact ih1 _ ⟨ob,ob,q1,q2,r1,by dsimp only; rw [e]; omega,by dsimp only; rw [List.length_append,List.length_singleton,e]; omega,⟨r3,r4,r5,r6,λ _=>r7⟩⟩ ob
   ·refine wn ?_;exact ih1 _ ⟨ob,ob,q1,q2,a5,by dsimp only; rw [e]; omega,by dsimp only; rw [e]; omega,a8⟩ ob
  ·refine aO (by cases h:((v3.2==(0:Int))&&(v8.2.2==(0:Int))) with | false=>rfl | true=>rw [h] at c2; cases c2) ?_;refine wn ?_;exact ih1 _ ⟨ob,ob,a3,a4,a5,by dsimp only; rw [e]; omega,by dsimp only; rw [e]; omega,a8⟩ ob
 ·exact av ⟨b1,by dsimp only; omega,n2,by dsimp only; omega,a5,by dsimp only; omega,v3,λ _ _=>sp,a8⟩
theorem aiR {a b:Int} {x:Nat} (h:Rj a x=true∨Rj b x=true):Rj (orI .u64 a b) x=true:=by
 unfold Rj orI at *;rw [show IntKind.u64.bits=64 from rfl,amA,BitVec.getLsbD_or,Bool.or_eq_true];exact h
theorem aot {k:Int} (h0:0≤k) (h1:k<64):Rj (TP .u64 1 k) k.toNat=true:=by
 unfold Rj TP;have hk:k.toNat<64:=by omega
 have hp:(2:Nat) ^ k.toNat<2 ^ 64:=Nat.pow_lt_pow_right om hk;have e:(1:Int)*2 ^ min k.toNat IntKind.u64.bits=((2 ^ k.toNat:Nat):Int):=by
  rw [show IntKind.u64.bits=64 from rfl,Nat.min_eq_left om,Int.one_mul];exact (Int.natCast_pow 2 k.toNat).symm
 have hw:=Sp.wrap_u64 (n:=((2 ^ k.toNat:Nat):Int)) ⟨Int.natCast_nonneg _,om⟩;rw [e,hw,BitVec.ofInt_natCast,BitVec.getLsbD_ofNat];simp [Nat.testBit_two_pow,hk]
theorem acZ {f:α→Int} {l:List α}:∀ {a:Int} {x:Nat},(Rj a x=true∨∃g∈l,Rj (f g) x=true)→Rj (l.foldl (λ a g=>orI .u64 a (f g)) a) x=true:=by
 induction l with
 | nil=>
  intro a x h;rcases h with h | ⟨g,hg,_⟩
  ·exact h
  ·cases hg
 | cons g l ih=>
  intro a x h;refine ih ?_;rcases h with h | ⟨q,hq,h⟩
  ·exact .inl (aiR (.inl h))
  ·rcases List.mem_cons.1 hq with e | e
   ·rw [e] at h; exact .inl (aiR (.inr h))
   ·exact .inr ⟨q,e,h⟩
theorem amT {a b:Int} {x:Nat} (h1:Rj a x=true) (h2:Rj b x=true):MN .u64 a b≠0:=by
 intro h;have e:Rj (MN .u64 a b) x=true:=by
  unfold Rj MN at *;rw [show IntKind.u64.bits=64 from rfl,amA,BitVec.getLsbD_and,h1,h2]; rfl
 rw [h] at e;exact amB e
theorem aqA {l:List ByteArray} {given:List Int} {x:eH} {ch:List Int} (hb:PB p l given x) (ho:aiL x ch) {i:Nat} (hi:i<ch.length):opA x ch i=Ri p (l.getD (given.length+i) ByteArray.empty) p.aD.length∧given.length+i<l.length:=by
 have hl:=ho.len;rw [hb.opl,hb.gv] at hl;unfold opA;rw [ho.at_ i hi,show (((x.ny.length+i:Nat):Int)).toNat=x.ny.length+i by omega,hb.gv,hb.opg om];exact ⟨rfl,om⟩
theorem aou {l:List ByteArray} {given:List Int} {x:eH} {ch t:List Int} (hv:ad7 p) (hg:WL p l given) (hb:PB p l given x) (ho:aiL x ch) (hs:amy x ch x.xw [] t):WL p l (given++t):=by
 have hm:∀i:Nat,i<p.aD.length→x.oM.getD i 0=acW (p.aD.getD i aH):=λ i hi=>by
  rw [hb.ms,List.getD_eq_getElem?_getD,List.getElem?_map,List.getElem?_eq_getElem hi,List.getD_eq_getElem?_getD,List.getElem?_eq_getElem hi];rfl
 have hpn:∀i:Nat,i<p.aD.length→∀q∈(p.aD.getD i aH).bQ,Rj (acW (p.aD.getD i aH)) q.toNat=true:=λ i hi q hq=>by
  have h1:=(hv.ok.gr _ (getD_in (i:=i) aH hi)).pn q hq;have h2:=hv.ok.pn;unfold acW;exact acZ (f:=λ k=>TP .u64 1 k) (.inr ⟨q,hq,aot om om⟩)
 have key:∀i,i≤t.length→WL p l (given++t.take i):=by
  intro i;induction i with
  | zero=>intro _; rw [List.take_zero,List.append_nil]; exact hg
  | succ i ih=>
   intro hi;have h:=ih om;have hic:i<ch.length:=by rw [← hs.len]; omega
   obtain ⟨hop,hl⟩:=aqA hb ho hic;have hx:=hs.mem i (Nat.zero_le _) hic;rw [hop] at hx;obtain ⟨x0,x1,x2⟩:=abg hx;have hgl:(given++t.take i).length=given.length+i:=by rw [List.length_append,List.length_take]; omega
   rw [gP 0 om,← List.append_assoc];refine af3 h ⟨x0,x1⟩ ?_ λ j hj a c ha hc e=>?_
   ·rw [hgl];have:=(decide_eq_true x2).symm.trans (sK (p.aD.getD (t.getD i 0).toNat aH).ak λ q=>(l.getD (given.length+i) ByteArray.empty).toList==q.toList);obtain ⟨q,hq,hq2⟩:=List.any_eq_true.1 this.symm;obtain ⟨k,hk,rfl⟩:=List.mem_iff_getElem.1 hq;refine ⟨k,om,?_⟩;rw [List.getD_eq_getElem?_getD,List.getElem?_eq_getElem hk];exact (beq_iff_eq.1 hq2).symm
   ·have hjr:=h.ir _ (getD_in (i:=j) 0 om);have hd:=hs.dj i (Nat.zero_le _) hic;rw [show ([]:List Int).length=0 from rfl,List.drop_zero,Nat.sub_zero,hb.tk] at hd;unfold abj at hd;rw [← List.foldl_append,hm _ om] at hd;refine amT (x:=((p.aD.getD ((given++t.take i).getD j 0).toNat aH).bQ.getD a 0).toNat) (acZ (f:=λ g:Int=>x.oM.getD g.toNat 0) (.inr ⟨_,getD_in (i:=j) 0 om,?_⟩)) ?_ hd
    ·rw [hm _ om];exact hpn _ om _ (getD_in 0 om)
    ·rw [e];exact hpn _ om _ (getD_in 0 om)
 have:=key t.length (Nat.le_refl _);rwa [List.take_length] at this
theorem ML:nX true:=M.alm 100 _ _ (by decide +kernel)
theorem amU:W (bnd nX λ v=>ret v) (λ r=>r=true):=aF (wQ ML) λ _ h=>av h
theorem aj2 (h:∀x∈l,NdG b l.length x):SmN l:=λ x hx=>⟨(h x hx).lm.1,(h x hx).dw.1,(h x hx).fw.1⟩
theorem ahT {m:List Int} (h:FnU b l m x.bZ) (hs:∀i∈ms,i∈m):aoh b l ms x:=λ i hi f=>h _ (hs _ (getD_in 0 om)) f
theorem yR (h1:Bq b_) (h2:GSz b_.aT) (h3:Jf l_) (h4:yQ.length≤10000) (h5:MV g_) (hb:YH b_ l_ yQ g_ false 0):W (pE b_ l_ yQ g_) (λ r=>r=true):=by
 unfold pE;refine aF (YI h1 h2 h3 h4 h5) λ v1 hv1=>av ?_;rw [YH.fun _ _ hv1 hb]; rfl
theorem aej (hb:Bq b) (h:AgA b l ms us x) (hu:us.length≤2000000) (hd:b.bq.length≤2000000∧b.cO.length≤2000000):MV x:=by
 have hll:(Sp.iL b.bG (jn aJ.fF l ms)).2=0:=by rw [h.ra]
 have hlr:=Sp.QF hll;rw [h.ra] at hlr;obtain ⟨z1,z2,z3,z4,z5,z6,z7⟩:=hb;refine ⟨by rw [h.st.1.1]; exact z1,by rw [hlr.1]; exact z3,by rw [hlr.2]; exact z3,?_,by rw [h.re.ln]; exact hd.1,by rw [h.po.ln]; exact hd.2⟩;rw [h.us];exact Nat.le_trans (List.length_filter_le _ _) hu
theorem Y7 {l_:List aI} (h:kM l_ m_=true):W (sW l_ m_) (λ r=>(r.2=0∧af7 l_ m_ r.1)∨(r.2=9∧∀t,VS l_ t→fq l_ t m_=false)):=by
 unfold sW;refine aF (MG h) λ v1 hv1=>?_;subst hv1;refine bJ (λ c1=>by cases c1) (λ _=>?_);refine aF (MF h) λ v2 hv2=>?_;rcases hv2 with ⟨k,hs⟩ | ⟨k,hn⟩
 ·rw [k]; exact bJ (λ c=>by cases c) (λ _=>av (.inl ⟨rfl,hs⟩))
 ·rw [k]; exact bJ (λ _=>av (.inr ⟨rfl,hn⟩)) (λ c=>by cases c)
theorem aqB:∀(n:Nat) (ms:List Int),(∀x∈ms,0≤x∧x<n)→ms.Nodup→ms.length≤n:=by
 intro n;induction n with
 | zero=>
  intro ms h _;cases ms with
  | nil=>exact Nat.le_refl _
  | cons x ms=>have:=h x List.mem_cons_self; omega
 | succ n ih=>
  intro ms h hn;have h1:=ih (ms.erase (n:Int)) (λ x hx=>by
   have a:=(hn.mem_erase_iff).1 hx;have b:=h x a.2;have c:=a.1;omega) (hn.erase _)
  have h2:=List.length_erase (a:=(n:Int)) (l:=ms);split at h2<;>omega
theorem aek (h:vW l ms):ms.Nodup:=by
 refine List.pairwise_iff_getElem.2 λ i j hi hj hij=>?_;have:=(h j om).2 i hij;rw [List.getD_eq_getElem?_getD,List.getElem?_eq_getElem hi,List.getD_eq_getElem?_getD,List.getElem?_eq_getElem hj] at this;exact this
theorem ael (h:vW l ms):ms.length≤l.length:=aqB _ _ (EX h) (aek h)
theorem aem (h:AgA b l ms us x):FL b l ms:=⟨⟨_,h.st.1,h.st.2.1⟩,by rw [h.ra]⟩
theorem abq {iJ:List aR} (h1:Bq b_) (h3:Jf l_) (hn:lT b_ l_ 0) (hs:SmN l_) (hd:vW l_ yQ) (h4:yQ.length≤5) (h5:iJ.length≤2000000):W (lg b_ l_ yQ iJ) (λ r=>(r.2.2.2.2.2.2.1=0∧AgA b_ l_ yQ iJ ⟨r.1,⟨r.2.1,r.2.2.1⟩,r.2.2.2.2.2.2.2,r.2.2.2.1,r.2.2.2.2.1⟩)∨(r.2.2.2.2.2.2.1=45∧(1≤r.2.2.2.2.2.1∧r.2.2.2.2.2.1≤4)∧¬FL b_ l_ yQ)):=by
 by_cases hfl:FL b_ l_ yQ
 ·exact JX (yP h1 h3 hn hs ⟨hd,om,hfl.1,hfl.2,aiN hs hd h4⟩ h5) λ _ h=>.inl h
 obtain ⟨z1,z2,z3,z4,z5,z6,z7⟩:=h1;have hin:=EX hd;obtain ⟨hlb,hll⟩:=VF hn hs hd om;obtain ⟨hdb,hdl⟩:=QG hn hs hd om;have hfn:=aiN hs hd h4;unfold lg;refine aF (P:=λ r=>r=jn aJ.bU l_ yQ) (aF (Gy (k:=24) (of:=xC) (f:=aJ.bU) (λ x=>av rfl) (λ x hx=>by have:=(hs x hx).1; omega) hin om om) λ _ h=>av h) λ v1 hv1=>?_;refine aF (P:=λ r=>r=jn aJ.fF l_ yQ) (aF (Gy (k:=32) (of:=Ae) (f:=aJ.fF) (λ x=>av rfl) (λ x hx=>by have:=(hs x hx).2.1; omega) hin om om) λ _ h=>av h) λ v2 hv2=>?_;subst hv1 hv2;have hz:(decide ((32:Int)<(((jn aJ.bU l_ yQ).length:Nat):Int))||decide ((32:Int)<(((jn aJ.fF l_ yQ).length:Nat):Int)))=false:=by
  rw [Bool.or_eq_false_iff,decide_eq_false_iff_not,decide_eq_false_iff_not]; omega
 rw [hz];refine bJ (λ _=>?_) (λ c=>by cases c);refine aF (P:=λ r=>r=jn aJ.ak l_ yQ) (aF (Gy (k:=16) (of:=qY) (f:=aJ.ak) (λ x=>av rfl) (λ x hx=>by have:=(hs x hx).2.2; omega) hin om om) λ _ h=>av h) λ v3 hv3=>?_;subst hv3;refine bJ (λ c2=>by rw [Bool.false_or] at c2; have:=of_decide_eq_true c2; omega) (λ _=>?_);refine aF (Y7 hlb) λ v4 hv4=>?_;rcases hv4 with ⟨e4,hv4⟩ | ⟨e4,_⟩
 ·rw [e4];refine bJ (λ c3=>by cases c3) (λ _=>?_);refine aF (MH z3 om) λ v5 hv5=>?_;refine bJ (λ _=>av (.inr ⟨rfl,by decide,hfl⟩)) (λ c3=>?_);have c3:=nr c3;rw [hv5] at c3;exact absurd ⟨⟨_,hv4.1,hv4.2.1⟩,c3⟩ hfl
 ·rw [e4];exact bJ (λ _=>av (.inr ⟨rfl,by decide,hfl⟩)) (λ c=>by cases c)
variable {d_:Int}
theorem Ck (h1:Bq b_) (h2:GSz b_.aT) (h3:Jf l_) (h4:yQ.length≤10000) (h5:MV g_) (hb:YH b_ l_ yQ g_ false 0) (hn:lT b_ l_ 0) (hd:vW l_ yQ) (d0:0≤d_) (d1:d_<l_.length):W (qb b_ l_ yQ g_ d_) (λ r=>r=0):=by
 unfold qb;refine aF (PZ h1 h2 h3 hn hd h4) λ v1 hv1=>?_;subst hv1;refine bJ (λ c1=>by cases c1) (λ _=>?_);refine aF (yR h1 h2 h3 h4 h5 hb) λ v2 hv2=>?_;subst hv2;refine bJ (λ c2=>by cases c2) (λ _=>?_);exact bJ (λ c3=>by have c3:=nr c3; omega) (λ _=>av rfl)
theorem EY {s_:List Int} {f_:Int} (h:s_.length≤2000000):W (lS s_ f_) (λ r=>(r = -1∧f_ ∉ s_)∨(0≤r∧r<s_.length∧s_.getD r.toNat 0=f_∧f_ ∉ s_.take r.toNat)):=by
 unfold lS;refine bI (λ g1:Int=>0≤g1∧g1≤s_.length∧f_ ∉ s_.take g1.toNat) (λ g1=>(s_.length - g1).toNat) ?_ ⟨om,om,by rw [show (0:Int).toNat=0 from rfl,List.take_zero]; exact nofun⟩;intro aj g1 ⟨a1,a2,a3⟩ ih1;unfold sF;refine wi ?_ ?_<;>intro c
 ·refine aO om ?_;refine aF (P:=λ v=>v=(s_.getD g1.toNat 0==f_)) (av rfl) λ v3 hv3=>?_;subst hv3;refine wi ?_ ?_<;>intro c2
  ·exact av (.inr ⟨a1,c,c2,a3⟩)
  ·refine aO (by unfold aG; omega) ?_;refine ih1 _ ⟨om,om,?_⟩ om;rw [show (g1+1).toNat=g1.toNat+1 by omega,gP 0 om];intro hm;rcases List.mem_append.1 hm with hm | hm
   ·exact a3 hm
   ·exact c2 (List.mem_singleton.1 hm).symm
 ·rw [List.take_of_length_le om] at a3;exact av (.inl ⟨rfl,a3⟩)
abbrev DR (ms:List Int) (d:Int):List Int:=ms.filter λ x=>!(x==d)
theorem aen {d:Int} (h:d ∉ ms):DR ms d=ms:=List.filter_eq_self.2 λ x hx=>by
 rw [Bool.not_eq_true',beq_eq_false_iff_ne];exact λ e=>h (e ▸ hx)
theorem uW {o_:List Int} (h:o_.length≤2000000):W (jy d_ o_) (λ r=>r.1≤r.2.length∧r.2.take r.1=DR o_ d_):=by
 unfold jy;refine aF (EY h) λ v1 hv1=>?_;rcases hv1 with ⟨rfl,hn⟩ | ⟨p1,p2,p3,p4⟩
 ·refine bJ (λ _=>av ⟨Nat.le_refl _,?_⟩) (λ c=>by cases c);dsimp only;rw [aen hn,List.take_length]
 refine bJ (λ c=>by have c:=nr c; omega) (λ _=>?_);refine aO (by unfold aG; omega) ?_;refine bI (λ g1:Int×Int×List Int=>0≤g1.1∧g1.1<g1.2.1∧g1.2.1≤o_.length∧g1.2.2.length=o_.length∧g1.2.2.take g1.1.toNat=DR (o_.take g1.2.1.toNat) d_∧∀j:Nat,g1.2.1≤(j:Int)→g1.2.2.getD j 0=o_.getD j 0) (λ g1=>(o_.length - g1.2.1).toNat) ?_ ⟨p1,by dsimp only; omega,by dsimp only; omega,rfl,?_,λ j _=>rfl⟩
 ·intro aj g1 ⟨a1,a2,a3,a4,a5,a6⟩ ih1;unfold uM;refine bJ ?_ ?_<;>intro c
  ·have c:=nr c;have e2:(g1.2.1+1).toNat=g1.2.1.toNat+1:=by omega
   have e6:=a6 g1.2.1.toNat om;have hs:DR (o_.take (g1.2.1.toNat+1)) d_=DR (o_.take g1.2.1.toNat) d_++DR [o_.getD g1.2.1.toNat 0] d_:=by
    unfold DR;rw [gP 0 om,List.filter_append]
   refine aO om ?_;refine aF (P:=λ v=>v=(g1.2.2.getD g1.2.1.toNat 0==d_)) (av rfl) λ v4 hv4=>?_;subst hv4;refine bJ ?_ ?_<;>intro c2
   ·have kr:=c2;rw [e6] at kr;refine aO om ?_;refine aO (by unfold aG; omega) ?_;refine aO (by unfold aG; omega) ?_;refine ih1 _ ⟨by dsimp only; omega,by dsimp only; omega,by dsimp only; omega,by dsimp only; rw [List.length_set]; exact a4,?_,λ j hj=>?_⟩ (by dsimp only; omega)
    ·dsimp only;rw [e2,hs,show (g1.1+1).toNat=g1.1.toNat+1 by omega,gP 0 (by rw [List.length_set]; omega),List.take_set_of_le (Nat.le_refl _),a5,Sp.fZ,if_pos ⟨rfl,om⟩,e6];congr 1;unfold DR;rw [List.filter_cons,if_pos kr,List.filter_nil]
    ·dsimp only at hj ⊢;rw [Sp.fZ,if_neg om];exact a6 j om
   ·rw [e6] at c2;refine aO (by unfold aG; omega) ?_;refine ih1 _ ⟨by dsimp only; omega,by dsimp only; omega,by dsimp only; omega,a4,?_,λ j hj=>a6 j (by dsimp only at hj; omega)⟩ (by dsimp only; omega);dsimp only;rw [e2,hs,a5];unfold DR;rw [List.filter_cons,c2,if_neg Bool.false_ne_true,List.filter_nil,List.append_nil]
  ·have c:=nr c;refine aO om ?_;refine aO om ?_;refine av ⟨by dsimp only; rw [iw]; omega,?_⟩;dsimp only;rw [List.take_of_length_le (by omega:o_.length≤g1.2.1.toNat)] at a5;rw [← a5];refine Sp.uO 0 (by rw [List.length_take,List.length_take,iw]) λ j hj=>?_;rw [List.length_take,iw] at hj;rw [Jh _ _ _ _ om,Jh _ _ _ _ om,Qk 0 om,if_neg om]
 ·dsimp only;have:DR (o_.take (v1+1).toNat) d_=DR (o_.take v1.toNat) d_++DR [d_] d_:=by
   unfold DR;rw [show (v1+1).toNat=v1.toNat+1 by omega,gP 0 om,List.filter_append,p3]
  rw [this,aen p4];unfold DR;rw [List.filter_cons,beq_self_eq_true,if_neg (by decide),List.filter_nil,List.append_nil]
theorem Xz {l_:List Int} {x_:Int} (h:l_.length≤2000000):W (Ak l_ x_) (λ r=>r=DR l_ x_):=by
 unfold Ak;refine bI (λ g1:Int×List Int=>0≤g1.1∧g1.1≤l_.length∧g1.2=DR (l_.take g1.1.toNat) x_) (λ g1=>(l_.length - g1.1).toNat) ?_ ⟨ob,ob,rfl⟩;intro aj g1 ⟨a1,a2,a3⟩ ih1;have hl:g1.2.length≤g1.1.toNat:=by
  rw [a3]; exact Nat.le_trans (List.length_filter_le _ _) (by rw [List.length_take]; omega)
 unfold I7;refine wi ?_ ?_<;>intro c
 ·have hs:=o9 (λ x=>!(x==x_)) l_ 0 (i:=g1.1.toNat) om;have e:(g1.1+1).toNat=g1.1.toNat+1:=by omega
  refine aO om ?_;refine bJ ?_ ?_<;>intro c2
  ·refine aO om ?_;refine aO (by unfold big; omega) ?_;refine aO (by unfold aG; omega) ?_;refine ih1 _ ⟨by dsimp only; omega,by dsimp only; omega,?_⟩ (by dsimp only; omega);dsimp only;unfold DR at a3 ⊢;rw [e,hs,← a3,if_pos (show (!(l_.getD g1.1.toNat 0==x_))=true from c2)]
  ·refine aO (by unfold aG; omega) ?_;refine ih1 _ ⟨by dsimp only; omega,by dsimp only; omega,?_⟩ (by dsimp only; omega);dsimp only;unfold DR at a3 ⊢;rw [e,hs,← a3,if_neg (λ q=>by rw [show (l_.getD g1.1.toNat 0 != x_)=true from q] at c2; cases c2),List.append_nil]
 ·exact av (by rw [a3,List.take_of_length_le om])
theorem amV (h1:∀m∈ms,0≤m∧m<l.length) (h2:ms.Nodup):vW l ms:=λ i hi=>by
 refine ⟨h1 _ (getD_in 0 om),λ k hk e=>?_⟩;have:=List.pairwise_iff_getElem.1 h2 k i om om hk;rw [List.getD_eq_getElem?_getD,List.getElem?_eq_getElem om,List.getD_eq_getElem?_getD,List.getElem?_eq_getElem om] at e;exact this e
theorem abr (h:vW l ms) (q:Int→Bool):vW l (ms.filter q):=amV (λ m hm=>EX h m (List.mem_filter.1 hm).1) ((aek h).filter q)
theorem agi {d:Int} (h:vW l ms) (d0:0≤d) (d1:d<l.length) (hd:d ∉ ms):vW l (ms++[d]):=amV (λ m hm=>by
 rcases List.mem_append.1 hm with hm | hm
 ·exact EX h m hm
 ·rw [List.mem_singleton.1 hm]; exact ⟨d0,d1⟩) (by
 rw [List.nodup_append];refine ⟨aek h,by simp,λ a ha b hb e=>?_⟩;rw [List.mem_singleton] at hb;exact hd (hb ▸ e ▸ ha))
theorem P9 (hn:lT b l 0) (hs:SmN l) (ha:Y4 b l ms) (q:Int→Bool):Y4 b l (ms.filter q):=by
 obtain ⟨h1,h2,⟨t,h3,h4⟩,h5,h6⟩:=ha;have hl:=List.length_filter_le q ms;have hl2:=List.length_filter_le (λ x=>!q x) ms;have g1:=abr h1 q;have hp:=List.filter_append_perm q ms;have hpl:=hp.length_eq;rw [List.length_append] at hpl;refine ⟨g1,om,⟨t,h3,JD h4 (VF hn hs g1 om).1 (ahO λ m hm=>(List.mem_filter.1 hm).1)⟩,?_,by rw [← aor hp,amD,List.length_append] at h6; omega⟩;rw [aga hn hs hp.symm h1 h2] at h5;rw [amD] at h5;have q1:=QG hn hs g1 om;have q2:=QG hn hs (abr h1 λ x=>!q x) om;exact (Sp.ahB q1.1 q2.1 om h5).1
def OwR (p:bn) (u v:ou):Prop:=u.cZ≠v.cZ∧∀a b:Nat,(a:Int)<(p.aD.getD u.cZ.toNat aH).bQ.length→(b:Int)<(p.aD.getD v.cZ.toNat aH).bQ.length→(p.aD.getD u.cZ.toNat aH).bQ.getD a 0≠(p.aD.getD v.cZ.toNat aH).bQ.getD b 0
theorem amW {l:List ou}:G6 p l↔(∀u∈l,Jd p u)∧l.Pairwise (OwR p):=by
 have hg:∀i (h:i<l.length),l.getD i fU=l[i]:=λ i h=>by rw [List.getD_eq_getElem?_getD,List.getElem?_eq_getElem h]; rfl
 constructor
 ·intro h;refine ⟨jC fU λ i hi=>(h i om).1,List.pairwise_iff_getElem.2 λ i j hi hj hij=>?_⟩;obtain ⟨_,h2,h3⟩:=h j om;have a:=h2 i hij;have c:=h3 i hij;rw [hg i hi,hg j hj] at a c;exact ⟨a,c⟩
 ·rintro ⟨h1,h2⟩ i hi;have hi:i<l.length:=by omega
  have h3:∀k,k<i→OwR p (l.getD k fU) (l.getD i fU):=λ k hk=>by
   rw [hg k om,hg i hi]; exact List.pairwise_iff_getElem.1 h2 k i om hi hk
  exact ⟨h1 _ (getD_in fU hi),λ k hk=>(h3 k hk).1,λ k hk=>(h3 k hk).2⟩
theorem ahU (h:G6 p (us.map aR.jN)) (ms:List Int):G6 p ((vZ ms us).map aR.jN):=by
 have hsl:((vZ ms us).map aR.jN).Sublist (us.map aR.jN):=List.Sublist.map _ List.filter_sublist;obtain ⟨h1,h2⟩:=amW.1 h;exact amW.2 ⟨λ u hu=>h1 u (hsl.subset hu),h2.sublist hsl⟩
theorem aov (h:FnU b l ms us) (hs:∀m∈ms',m∈ms):FnU b l ms' (vZ ms' us):=λ i hi f=>by
 refine Nat.le_trans (h i (hs i hi) f) (Nat.le_of_eq ?_);unfold MW vZ;rw [List.countP_filter];refine List.countP_congr λ u _=>?_;simp only [Bool.and_eq_true,beq_iff_eq,decide_eq_true_eq];exact ⟨λ q=>⟨q,List.contains_iff_mem.2 (by rw [q.1]; exact hi)⟩,λ q=>q.1⟩
theorem asc {g:dh} {f:ByteArray} (h:∃k:Nat,(k:Int)<g.ak.length∧(g.ak.getD k ByteArray.empty).toList=f.toList):0≤YW g f∧YW g f<g.ak.length∧g.ak.getD (YW g f).toNat ByteArray.empty=f:=by
 obtain ⟨k,h1,h2⟩:=h;have hk:k<g.ak.length:=by omega
 have ha:=afq (l:=g.ak) (P:=λ x=>f.toList==x.toList) (d:=ByteArray.empty) hk (by rw [h2]; exact beq_self_eq_true _);have hl:=List.findIdx_lt_length_of_exists (List.any_eq_true.1 ha);have hg:=List.findIdx_getElem (w:=hl);unfold YW Yp;rw [if_pos ha];refine ⟨om,om,Ti ?_⟩;rw [show (((List.findIdx (λ x=>f.toList==x.toList) g.ak:Nat):Int)).toNat=List.findIdx (λ x=>f.toList==x.toList) g.ak from rfl,List.getD_eq_getElem?_getD,List.getElem?_eq_getElem hl];exact (beq_iff_eq.1 hg).symm
theorem TK (h1:Bq b_) (h2:GSz b_.aT) (h3:Jf l_) (hn:lT b_ l_ 0) (hs:SmN l_) (ha:Y4 b_ l_ yQ) (h5:MV g_) (hb:YH b_ l_ yQ g_ false 0) (hd:d_∈yQ):W (vv b_ l_ yQ g_ d_) (λ r=>r.2=0∧AgA b_ l_ (DR yQ d_) g_.bZ r.1):=by
 have hm:=ha.ml;obtain ⟨d0,d1⟩:=EX ha.df _ hd;unfold vv;refine aF (Ck h1 h2 h3 om h5 hb hn ha.df d0 d1) λ v1 hv1=>?_;subst hv1;refine bJ (λ c=>by cases c) (λ _=>?_);refine aF (wQ (gZ om)) λ v2 hv2=>?_;rw [List.contains_iff_mem.2 hd] at hv2;subst hv2;refine bJ (λ c=>by cases c) (λ _=>?_);refine aF (ng om) λ v3 hv3=>?_;subst hv3;refine aF (uW om) λ v4 ⟨q1,q2⟩=>?_;refine aO q1 ?_;rw [q2];exact aF (yP h1 h3 hn hs (P9 hn hs ha _) h5.us) λ v5 hv5=>av hv5
theorem TL (h1:Bq b_) (h2:GSz b_.aT) (h3:Jf l_) (hn:lT b_ l_ 0) (hs:SmN l_) (ha:Y4 b_ l_ yQ) (h5:MV g_) (hb:YH b_ l_ yQ g_ false 0) (hd:d_∈yQ):W (vw b_ l_ g_ d_ yQ) (λ r=>r.2=0∧AgA b_ l_ (DR yQ d_) g_.bZ r.1):=by
 have hm:=ha.ml;obtain ⟨d0,d1⟩:=EX ha.df _ hd;unfold vw;refine aF (Ck h1 h2 h3 om h5 hb hn ha.df d0 d1) λ v1 hv1=>?_;subst hv1;refine bJ (λ c=>by cases c) (λ _=>?_);refine aF (wQ (gZ om)) λ v2 hv2=>?_;rw [List.contains_iff_mem.2 hd] at hv2;subst hv2;refine bJ (λ c=>by cases c) (λ _=>?_);refine aF (EC om) λ v3 hv3=>?_;subst hv3;refine aF (uW om) λ v4 ⟨q1,q2⟩=>?_;refine aO q1 ?_;rw [q2];exact aF (yP h1 h3 hn hs (P9 hn hs ha _) h5.us) λ v5 hv5=>av hv5
def avQ (b:aS) (l:List aJ) (ms:List Int) (g:bg) (d:Int) (r:bg×Int×Int):Prop:=
 (d∈ms∧r.2.2=5)∨(d ∉ ms∧((r.2.2=45∧1≤r.2.1∧r.2.1≤4)∨(r.2.2=0∧∃new,r.1.bZ=g.bZ++new∧(∀u∈new,u.gF=d)∧new.length≤10∧AgA b l (ms++[d]) r.1.bZ r.1∧G6 b.aT (r.1.bZ.map aR.jN)∧FnU b l (ms++[d]) r.1.bZ)))
theorem Y8 {d_:Int} (h1:Bq b_) (h2:GSz b_.aT) (h3:Jf l_) (h4:l_.length≤5) (hn:lT b_ l_ 0) (hs:SmN l_) (hd:vW l_ yQ) (h5:MV g_) (h6:g_.bZ.length≤1000000) (hb:YH b_ l_ yQ g_ false 0)
  (ho:G6 b_.aT (g_.bZ.map aR.jN)) (hdv:∀u∈g_.bZ,u.gF∈yQ) (hf:FnU b_ l_ yQ g_.bZ) (d0:0≤d_) (d1:d_<l_.length):W (xR b_ l_ yQ g_ d_) (avQ b_ l_ yQ g_ d_):=by
 have hm:=ael hd;obtain ⟨z1,z2,z3,z4,z5,z6,z7⟩:=id h1;have hpa:=(VG hn).1;unfold xR;refine aF (Ck h1 h2 h3 om h5 hb hn hd d0 d1) λ v1 hv1=>?_;subst hv1;refine bJ (λ c=>by cases c) (λ _=>?_);refine aF (wQ (gZ om)) λ v2 hv2=>?_;subst hv2;refine bJ (λ c2=>av (.inl ⟨List.contains_iff_mem.1 c2,rfl⟩)) (λ c2=>?_);have hdm:d_ ∉ yQ:=λ q=>by rw [List.contains_iff_mem.2 q] at c2; cases c2
 have hds:=agi hd d0 d1 hdm;have hml:=ael hds;rw [List.length_append,List.length_singleton] at hml;refine bI (λ g4:Int×List aR=>0≤g4.1∧g4.1≤g_.bZ.length∧g4.2=vZ yQ (g_.bZ.take g4.1.toNat)) (λ g4=>(g_.bZ.length - g4.1).toNat) ?_ ⟨ob,ob,rfl⟩;intro jq g4 ⟨a1,a2,a3⟩ ih4;have hl:g4.2.length≤g4.1.toNat:=by
  rw [a3]; unfold vZ;exact Nat.le_trans (List.length_filter_le _ _) (by rw [List.length_take]; omega)
 unfold Lr;refine bJ ?_ ?_<;>intro c
 ·have c:=nr c;refine aO om ?_;have hs:=o9 (λ u:aR=>yQ.contains u.gF) g_.bZ bC (i:=g4.1.toNat) om;have e:(g4.1+1).toNat=g4.1.toNat+1:=by omega
  refine aF (wQ (gZ om)) λ v8 vU=>?_;refine bJ ?_ ?_<;>intro c2
  ·rw [c2] at vU;refine aO (by unfold big; omega) ?_;refine aO (by unfold aG; omega) ?_;refine ih4 _ ⟨by dsimp only; omega,by dsimp only; omega,?_⟩ (by dsimp only; omega);dsimp only;unfold vZ at a3 ⊢;rw [e,hs,← a3,if_pos vU.symm]
  ·rw [c2] at vU;refine aO (by unfold aG; omega) ?_;refine ih4 _ ⟨by dsimp only; omega,by dsimp only; omega,?_⟩ (by dsimp only; omega);dsimp only;unfold vZ at a3 ⊢;rw [e,hs,← a3,if_neg (by rw [← vU]; exact Bool.false_ne_true),List.append_nil]
 have c:=nr c;rw [List.take_of_length_le om,JE hdv] at a3;rw [a3];have amS:=QE ho;have hdn:=hs _ (getD_in (l:=l_) (i:=d_.toNat) bB om);unfold zJ;refine aF (ng om) λ v6 hv6=>?_;subst hv6;refine aO (by unfold big; omega) ?_;refine aF (abq h1 h3 hn hs hds (by rw [List.length_append,List.length_singleton]; omega) om) λ v7 hv7=>?_;rcases hv7.symm with ⟨e7,q7,_⟩ | ⟨e7,hag⟩
 ·rw [e7];exact bJ (λ _=>av (.inr ⟨hdm,.inl ⟨rfl,q7⟩⟩)) (λ c=>by cases c)
 rw [e7];refine bJ (λ c=>by cases c) (λ _=>?_);have hus:=hag.us;dsimp only at hus;rw [JE λ u hu=>List.mem_append_left _ (hdv u hu)] at hus;have hsz:=aej h1 hag om ⟨by have:=(tT hn).1.rs.len; omega,z7⟩;refine aO ⟨d0,d1⟩ ?_;generalize hfn:(l_.getD d_.toNat bB).ak=fns at *;have hfl:fns.length≤2:=hdn.2.2;refine aF (ab2 amS om om) λ v8 vU=>?_;subst vU;dsimp only;refine aF (Xw h2 (by rw [List.length_append,List.length_map]; omega) (by rw [List.length_map]; omega)) λ v9 Wx=>?_;refine bJ (λ _=>av (.inr ⟨hdm,.inl ⟨rfl,by dsimp only; decide⟩⟩)) (λ c4=>?_);have c4:=nr c4;obtain ⟨x,ch,t,hp,hop,ht,ase⟩:=Wx c4;have hfit:=aou hpa.v (aiO (fs:=fns) ho) hp hop ase;have hxo:x.fH.length=g_.bZ.length+fns.length:=by rw [hp.opl,List.length_append,List.length_map]
 have hxg:x.ny.length=g_.bZ.length:=by rw [hp.gv,List.length_map]
 have hcl:=hop.len;have htl:t.length=fns.length:=by rw [ase.len]; omega
 rw [List.length_map];refine aO ⟨om,by rw [ht,List.length_append,List.length_map]; omega⟩ ?_;have hdr:(v9.1.drop (g_.bZ.length:Int).toNat).take (v9.1.length - (g_.bZ.length:Int).toNat)=t:=by
  rw [List.take_of_length_le (by rw [List.length_drop]; omega),ht,show (g_.bZ.length:Int).toNat=(g_.bZ.map λ u=>u.jN.cZ).length by rw [List.length_map]; omega,List.drop_left]
 have hvl:v9.1.length - (g_.bZ.length:Int).toNat=fns.length:=by
  rw [ht,List.length_append,List.length_map]; omega
 have hgt:∀i,(g_.bZ.map (λ u=>u.jN.cZ)++t).getD (g_.bZ.length+i) 0=t.getD i 0:=λ i=>by
  rw [Bn 0 (by rw [List.length_map]; omega),List.length_map,Nat.add_sub_cancel_left]
 rw [hdr];refine bI (λ g3:List Int×Int×List aR=>g3.1=t∧0≤g3.2.1∧g3.2.1≤fns.length∧(∃new,g3.2.2=g_.bZ++new∧new.map (λ u=>(u.gF,nmU b_.aT u.jN))=(fns.take g3.2.1.toNat).map λ f=>(d_,f))∧g3.2.2.map (λ u=>u.jN.cZ)=(g_.bZ.map (λ u=>u.jN.cZ)++t).take (g_.bZ.length+g3.2.1.toNat)∧∀u∈g3.2.2,Jd b_.aT u.jN) (λ g3=>(fns.length - g3.2.1).toNat) ?_ ⟨rfl,ob,ob,⟨[],by dsimp only; rw [hus,List.append_nil],rfl⟩,?_,λ u hu=>?_⟩
 ·rintro jZ ⟨tt,ix,us⟩ ⟨e1,e2,e3,⟨new,e4,e5⟩,e6,e8⟩ ih3;dsimp only at e1 e2 e3 e4 e5 e6 e8;subst e1;have hnl:new.length=ix.toNat:=by
   have:=congrArg List.length e5;rw [List.length_map,List.length_map,List.length_take] at this;omega
  have hul:us.length=g_.bZ.length+new.length:=by rw [e4,List.length_append]
  unfold Iu;dsimp only;rw [List.length_map,hvl];refine wi ?_ ?_<;>intro c5
  ·have hx:=hfit.ir _ (List.mem_append_right _ (getD_in (l:=tt) (i:=ix.toNat) 0 om));have hof:=hfit.off (g_.bZ.length+ix.toNat) (by rw [List.length_append,List.length_map]; omega);rw [hgt,Bn ByteArray.empty (by rw [List.length_map]; omega),List.length_map,Nat.add_sub_cancel_left] at hof;refine aO om ?_;refine aO hx ?_;refine aO (by unfold aG; omega) ?_;refine aO ⟨om,by rw [List.length_append,List.length_map]; omega⟩ ?_;have ayb:=(h2 _ (getD_in (i:=(tt.getD ix.toNat 0).toNat) aH om)).2;refine aF (yO om) λ v12 MR=>?_;have hnm:(g_.bZ.map (nmH b_)++fns).getD ((g_.bZ.length:Int)+ix).toNat ByteArray.empty=fns.getD ix.toNat ByteArray.empty:=by
    rw [show ((g_.bZ.length:Int)+ix).toNat=g_.bZ.length+ix.toNat by omega,Bn ByteArray.empty (by rw [List.length_map]; omega),List.length_map,Nat.add_sub_cancel_left]
   rw [hnm] at MR;have MR:v12=YW (b_.aT.aD.getD (tt.getD ix.toNat 0).toNat aH) (fns.getD ix.toNat ByteArray.empty):=MR;obtain ⟨t0,t2,t5⟩:=asc hof;rw [← MR] at t0 t2 t5;have e9:(ix+1).toNat=ix.toNat+1:=by omega
   refine aO (by unfold big; omega) ?_;refine aO (by unfold aG; omega) ?_;refine ih3 _ ⟨rfl,by dsimp only; omega,by dsimp only; omega,⟨new++[⟨d_,⟨tt.getD ix.toNat 0,v12⟩⟩],by dsimp only; rw [e4,List.append_assoc],?_⟩,?_,λ u hu=>?_⟩ (by dsimp only; omega)
   ·dsimp only;rw [e9,mD _ _ ByteArray.empty om,List.map_append,e5,List.map_cons,List.map_nil];congr 3
   ·dsimp only;rw [List.map_append,e6,e9,← Nat.add_assoc,gP 0 (by rw [List.length_append,List.length_map]; omega),List.map_cons,List.map_nil,hgt]
   ·rcases List.mem_append.1 hu with h | h
    ·exact e8 u h
    ·rw [List.mem_singleton] at h; rw [h];exact ⟨hx.1,hx.2,t0,t2⟩
  ·rw [List.take_of_length_le om] at e5;rw [List.take_of_length_le (by rw [List.length_append,List.length_map]; omega)] at e6;have hnd:∀u∈new,u.gF=d_:=λ u h=>by
    have:(u.gF,nmU b_.aT u.jN)∈fns.map λ f=>(d_,f):=by rw [← e5]; exact List.mem_map.2 ⟨u,h,rfl⟩
    obtain ⟨f,_,e⟩:=List.mem_map.1 this;exact (Prod.mk.inj e).1.symm
   have avR:∀u∈us,u.gF∈v6++[d_]:=by
    intro u hu;rw [e4] at hu;rcases List.mem_append.1 hu with h | h
    ·exact List.mem_append_left _ (hdv u h)
    ·exact List.mem_append_right _ (List.mem_singleton.2 (hnd u h))
   refine aF (afS ⟨hsz.st,hsz.on,hsz.lv,by dsimp only; omega,hsz.re,hsz.po⟩) λ v13 Yq=>?_;subst Yq;refine av (.inr ⟨hdm,.inr ⟨rfl,new,e4,hnd,om,⟨hag.st,hag.ra,(JE avR).symm,hag.re,hag.po⟩,aiP hpa.v hfit e6 e8,?_⟩⟩);intro i hi f;dsimp only;rw [e4];rcases List.mem_append.1 hi with h | h
   ·refine Nat.le_trans (hf i h f) ?_;unfold MW;rw [List.countP_append];omega
   ·rw [List.mem_singleton] at h; rw [h,hfn];exact aiQ e5 f
 ·dsimp only;rw [hus,show (0:Int).toNat=0 from rfl,Nat.add_zero];have:=List.take_left (l₁:=g_.bZ.map λ u=>u.jN.cZ) (l₂:=t);rw [List.length_map] at this;exact this.symm
 ·dsimp only at hu;rw [hus] at hu;exact amS u hu
theorem agj {l_:List Int} {x_:Int} (h:l_.length≤2000000):W (Uz l_ x_) (λ r=>r=l_.contains x_):=by
 unfold Uz;refine bI (λ g1:Int=>0≤g1∧∀j:Nat,(j:Int)<g1→l_.getD j 0≠x_) (λ g1=>(l_.length - g1).toNat) ?_ ⟨om,λ j hj=>by omega⟩;intro aj g1 ⟨a1,a2⟩ ih1;unfold X3;refine wi ?_ ?_<;>intro c
 ·refine aO om ?_;refine wi ?_ ?_<;>intro c2
  ·refine av (List.contains_iff_mem.2 ?_).symm;rw [← c2]; exact getD_in 0 om
  ·exact aO (by unfold aG; omega) (ih1 _ ⟨om,dU a2 a1 c2⟩ om)
 ·refine av ?_;cases q:l_.contains x_ with
  | false=>rfl
  | true=>
   have:∀y∈l_,y≠x_:=jC 0 λ j hj=>a2 j om;exact absurd rfl (this _ (List.contains_iff_mem.1 q))
theorem amX {us':List aR} {y:bg} (hn:lT b l 0) (hs:SmN l) (ha:Y4 b l ms) (h:AgA b l ms us x) (h':AgA b l ms us' y) (e:vZ ms us=vZ ms us'):x=y:=by
 obtain ⟨q1,q2,q3,q4⟩:=amE hn hs ha ha (List.Perm.refl _) ⟨h.st,h.ra,h.us,h.re,h.po⟩ (us:=us) ⟨h'.st,h'.ra,by rw [h'.us,e],h'.re,h'.po⟩;have q5:x.bZ=y.bZ:=by rw [h.us,h'.us,e]
 cases x; cases y;dsimp only at q1 q2 q3 q4 q5;subst q1 q2 q3 q4 q5;rfl
theorem ac0 {y:bg} (h:x=y):aiA x y=true:=by
 subst h;exact ahE _
theorem ahV {c:Bool} (hc:c=true):W (grd (c=true) nX) (λ r=>r=true):=JX (qX λ _=>wQ ML) λ _ h=>h hc
theorem Rk {t_:List Int} {aU:Int} (h0:0≤aU) (h1:aU≤255):W (yh t_ aU) (λ r=>r=true):=by
 unfold yh;refine bJ (λ _=>amU) (λ c0=>?_);refine aF afs λ v2 ⟨k1,k2⟩=>?_;refine aF (abp (by dsimp only; omega) k2) λ v3 hv3=>?_;obtain ⟨w1,w2,w3,w4,w5,w7,vb,wb,w6⟩:=hv3;obtain ⟨b,l,m,g,s⟩:=v3;dsimp only at w1 w2 w3 w4 w5 w6 w7 wb ⊢;have hbs:=aoW w1;have hgs:GSz b.aT:=λ x hx=>by have:=w1.gr x hx; omega
 have hns:Jf l:=⟨om,λ n hn=>by have a:=(w3 n hn).rs.1; have c:=(w3 n hn).pr.1; omega⟩;have hd2:b.bq.length≤2000000∧b.cO.length≤2000000:=by have:=w1.nre; have:=w1.ndo; omega
 refine aF (asa (Hq hbs hgs)) λ v4 ⟨sp,_,_,hv4⟩=>?_;have evb:vb=v4:=(wb hbs hgs).trans sp.symm;refine bJ (λ _=>amU) (λ c1=>?_);rw [Bool.or_eq_false_iff] at c1;obtain ⟨c1,c2⟩:=c1;have c1:=nr c1; have c2:=nr c2;have hn:=amR (hv4 c1).1 om w3;have hs:=aj2 w3;have hag:=w6.ag (by rw [evb]; exact c1);have ha:Y4 b l m:=⟨w6.df,om,(aem hag).1,(aem hag).2,aiN hs w6.df w4⟩;have hbr:=abl hn hs ha hag w6.ow (ahT w6.fn λ _ h=>h);refine aF (yR hbs hgs hns om w5 hbr) λ v6 hv6=>?_;subst hv6;refine bJ (λ c=>by cases c) (λ _=>?_);refine aO om ?_;have hw:IntKind.i64.wrap aU=aU:=wrap_i64 ⟨om,om⟩;rw [hw];have hd:aU.tmod (l.length:Int)=aU % (l.length:Int):=Int.tmod_eq_emod_of_nonneg h0;have hd0:0≤aU.tmod (l.length:Int):=by rw [hd]; exact Int.emod_nonneg _ om
 have hd1:aU.tmod (l.length:Int)<l.length:=by rw [hd]; exact Int.emod_lt_of_pos _ om
 generalize hD:aU.tmod (l.length:Int)=D at *;clear hd hD;refine aF (Y8 hbs hgs hns w2 hn hs w6.df w5 om hbr w6.ow w6.dv w6.fn hd0 hd1) λ v7 hv7=>?_;refine aF (agj om) λ v8 vU=>?_;subst vU;rcases hv7 with ⟨hm,e7⟩ | ⟨hm,hv7⟩
 ·rw [List.contains_iff_mem.2 hm,e7];refine bJ (λ _=>?_) (λ c=>by cases c);refine aF (TK hbs hgs hns hn hs ha w5 hbr hm) λ v9 ⟨e9,h9⟩=>?_;rw [e9];refine bJ (λ _=>?_) (λ c=>by cases c);refine aF (Xz om) λ v10 Ji=>?_;subst Ji;have hao:=P9 hn hs ha λ x=>!(x==D);have hus:=h9.us;have hb9:=abl hn hs hao h9 (by rw [hus]; exact ahU w6.ow _) (ahT (m:=DR m D) (by rw [hus]; exact aov w6.fn λ i hi=>(List.mem_filter.1 hi).1) λ _ h=>h);have hml:(DR m D).length≤6:=hao.ml;refine aF (JX (qX λ _=>yR hbs hgs hns om (aej hbs h9 om hd2) hb9) λ r h=>h rfl) λ v11 ad2=>?_;subst ad2;refine aF (ahV rfl) λ v12 MR=>?_;subst MR;exact av rfl
 ·have hnc:m.contains D=false:=by
   cases q:m.contains D with
   | false=>rfl
   | true=>exact absurd (List.contains_iff_mem.1 q) hm
  rw [hnc];refine bJ (λ c=>by cases c) (λ _=>?_);rcases hv7 with ⟨e7,e8,e9⟩ | ⟨e7,new,n1,n2,n3,n4,n5,n6⟩
  ·rw [e7,decide_eq_true e8,decide_eq_true e9];refine bJ (λ _=>?_) (λ c=>by cases c);refine aF (ahV rfl) λ v14 UD=>?_;subst UD;exact av rfl
  ·rw [e7];refine bJ (λ c=>by cases c) (λ _=>?_);have hdf:=agi w6.df hd0 hd1 hm;have hml:=ael hdf;have hal:Y4 b l (m++[D]):=⟨hdf,om,(aem n4).1,(aem n4).2,aiN hs hdf om⟩;have hul:v7.1.bZ.length=g.bZ.length+new.length:=by rw [n1,List.length_append]
   have hbx:=abl hn hs hal n4 n5 (ahT n6 λ _ h=>h);have hxs:=aej hbs n4 om hd2;have hlm:(m++[D]).length≤10000:=by have:=hal.ml; omega
   refine aO (by unfold big; omega) ?_;refine aO (by unfold big; omega) ?_;refine aF (TL hbs hgs hns hn hs hal hxs hbx (List.mem_append_right _ (List.mem_singleton.2 rfl))) λ v15 ⟨e15,h15⟩=>?_;have hom:DR (m++[D]) D=m:=by
    unfold DR;rw [List.filter_append,List.filter_cons,beq_self_eq_true,if_neg (by decide),List.filter_nil,List.append_nil];exact aen hm
   rw [hom] at h15;refine aF (abk hbs hgs hns hn hs ha om) λ v16 ⟨e16,h16⟩=>?_;rw [List.take_of_length_le (by rw [List.length_append,List.length_singleton]; omega)];refine aF (yR hbs hgs hns hlm hxs hbx) λ v17 an8=>?_;subst an8;have hle:decide ((g.bZ.length:Int)≤(v7.1.bZ.length:Int))=true:=decide_eq_true om;rw [hle,e15,e16];refine aO (λ _=>by omega) ?_;have htk:v7.1.bZ.take ((g.bZ.length:Int).toNat)=g.bZ:=by
    rw [n1,show (g.bZ.length:Int).toNat=g.bZ.length by omega,List.take_left]
   rw [htk];have hown:vZ m v7.1.bZ=vZ m g.bZ:=by
    rw [n1];unfold vZ;rw [List.filter_append,show new.filter (λ u=>m.contains u.gF)=[] from List.filter_eq_nil_iff.2 λ u hu=>by rw [n2 u hu,hnc]; decide,List.append_nil]
   have s1:=ac0 (amX hn hs ha h15 h16 hown);have s2:=ac0 (amX hn hs ha h15 hag hown);have hys:=aej hbs h15 om hd2;refine aF (JX (qX λ _=>Mj om) λ r h=>h rfl) λ v18 ama=>?_;have e18:v18=true:=by rw [ama]; exact beq_self_eq_true _
   subst e18;refine aF (JX (qX λ _=>UW hys) λ r h=>h rfl) λ v19 amq=>?_;rw [s1] at amq;subst amq;refine aF (JX (qX λ _=>UW hys) λ r h=>h rfl) λ v20 aom=>?_;rw [s2] at aom;subst aom;refine aF (ahV rfl) λ v21 aqn=>?_;subst aqn;exact av rfl
end Go.Proofs.YtccjmcmolnbiiaaGreatDoor
namespace Go.Proofs.YtccjmcmolnbiiaaGreatDoor.grantServes
open Go.ChangeShapes Go.WideShapes Go.ChangeAt Go.RowKit
open Go.Ab
set_option maxRecDepth 100000
theorem spec (l:List Int) (a:Int) (h:0≤a∧a≤255):S 6 [aC l,.int .u8 a] [] (.bool true) []:=by
 obtain ⟨r,h1,h2⟩:=Rk (t_:=l) h.1 h.2;subst h2;exact KN h1
theorem contract (H:Type) (enc:TypeId×Value→H) (W:World) (base:Nat) (args:Array Value) (ds gs:List (DataW H)) (before:List MemPlace)
  (hval:∀(j:Nat) t v,Tryz.f6.params[j]? = some t→args[j]? = some v→Value.okWide Tryz.prog W .any base t v)
  (hW:DataW.Whole enc Tryz.prog Tryz.f6.params.toList Rows.grantServesSpec.vars false W args.toList ds gs before) (hL:laidMetH Tryz.prog Rows.grantServesRow.laid W):
  Calls Tryz.prog 6 args W λ e W'=>∃v,e=.returned v∧Rows.grantServesSpec.post enc Tryz.prog Tryz.f6 false true false false W args v W':=by
 have hW':=hW;obtain ⟨p,q,hA0,hV,rfl,hfz,hnd⟩:=hW;have hA:DataW.TrodAll enc Tryz.prog W 0 (λ _=>true) true Tryz.f6.params.toList args.toList ds p:=hA0;rw [Tryz.params6] at hA hval;obtain ⟨v0,v1,d0,d1,p0,p1,rfl,rfl,rfl,h0,h1⟩:=trodAll_two hA;obtain ⟨rfl,rfl⟩:=trodVars_none hV;have h0k:=h0;obtain ⟨l,hl,hr⟩:=ahL (hval 0 22 v0 rfl rfl) h0;have h1k:=h1;obtain ⟨n,rfl,rfl,rfl,hwf⟩:=open_int Tryz.underlying5 (hval 1 5 v1 rfl rfl) h1;have hn:0≤n∧n≤255:=by
  simp only [Lit.wf,Bool.and_eq_true,decide_eq_true_eq] at hwf;exact hwf
 clear hA0;simp only [List.append_nil] at hW';have hlt:∀x∈p0,x.block<W.heap.size:=λ x hx=>by simpa using hW'.lt x (by simpa using hx)
 refine (aol (spec l n hn) hL rfl (λ j hj=>?_)).mono λ e W' ⟨he,hb⟩=>?_
 ·match j,hj with
  | 0,_=>exact hr
  | 1,_=>exact .int _ _
 subst he;refine ⟨_,rfl,[d0,.lit (.int .u8 n)],[],p0++[],[],p0++[],[],by simpa using hW',trodAll_mk1 (shut_bool Tryz.underlying4 _),?_,rfl,hb.frame _,λ h=>by cases h⟩;rw [Tryz.params6];exact trodAll_mk2 (Below.trod laidOut (by kernel_rfl) (of_decide_eq_true (by kernel_rfl)) h0k hb hlt) (shut_int Tryz.underlying5 hwf)
noncomputable def XA (os:Os):World:=
 { World.holding Tryz.prog os ⟨#[],#[],[]⟩ with heap:=(World.holding Tryz.prog os ⟨#[],#[],[]⟩).heap.modify 0 λ
   | .cells _ t frozen=>.cells #[.int .i64 0,.int .i64 1] t frozen
   | o=>o }
theorem amY (os:Os):laidMet Tryz.prog Rows.grantServesRow.laid ((XA os).forCall (λ _ _=>0) ⟨#[],#[.slice none 0 0,.int .u8 0],[]⟩).memory:=
 laidMet_of_run' 8 (by kernel_rfl) (by kernel_rfl)
theorem reads (os:Os) {H:Type} (enc:TypeId×Value→H):∃places,DataW.whole enc Tryz.prog ((XA os).forCall (λ _ _=>0) ⟨#[],#[.slice none 0 0,.int .u8 0],[]⟩).memory Tryz.f6.params.toList Rows.grantServesSpec.vars false #[Value.slice none 0 0,.int .u8 0].toList 8=some ([.nil,.lit (.int .u8 0)],[],places):=
 ⟨[],by kernel_rfl⟩
theorem lifted (os:Os) (started:os.Started) (H:Type) (enc:TypeId×Value→H) (F:Stop.Interp):
  ReturnsInHanded {} Tryz.checked os 6 .any ((OpenSpec.ofChange Rows.grantServesSpec).preRow enc Tryz.prog Tryz.f6 Rows.grantServesRow.domain false Rows.grantServesRow.laid) (((OpenSpec.ofChange Rows.grantServesSpec).at F).post enc Tryz.prog Tryz.f6 false true false false):=by
 obtain ⟨places,hx⟩:=reads os enc;refine returnsInHanded_of_row (C:=Tryz.checked) (s:=OpenSpec.ofChange Rows.grantServesSpec) own started (by kernel_rfl) Tryz.func6
  (witness_row_at (enc:=enc) (C:=Tryz.checked) false (XA os) #[.slice none 0 0,.int .u8 0] rfl (by kernel_rfl) (by kernel_rfl) (by kernel_rfl)
    (OpenSpec.preRow_of_cond 8 hx (by kernel_rfl) (λ k hk=>by cases hk) (by kernel_rfl) (amY os))) ?_
 intro W base args ds gs before hval hW _ _ _ hL _ _;exact contract H enc W base args ds gs before hval hW hL
theorem said:Rows.GrantServesSaid:=
 OpenClaim.holds_of_cond 6 Tryz.f6 rfl rfl rfl rfl rfl rfl rfl ⟨rfl,rfl,rfl,rfl,rfl⟩ rfl rfl rfl rfl rfl (by kernel_rfl) Tryz.func6 (by kernel_rfl)
  (of_decide_eq_true (by kernel_rfl)) (by unfold Func.isWrapper; first | (rw [if_pos (by decide +kernel)]; kernel_rfl) | (rw [if_neg (by decide +kernel)]; exact ⟨rfl,rfl⟩))
  (λ os started H enc _ F=>by rw [OpenClaim.pre_eq_preRow]; exact lifted os started H enc F)
theorem plain (f:FuncId) (fn:Func) (hf:Tryz.pinned.checked.prog.funcNamed "bringup/bringuplaw33.GrantServes" = some f) (hfn:Tryz.pinned.checked.prog.funcs[f]? = some fn):
  false=Tryz.pinned.checked.prog.looks []∧∀(j:Nat) t,fn.params[j]? = some t→Tryz.pinned.checked.prog.wantsStandIn t=false:=by
 obtain rfl:f=6:=Option.some.inj ((show Tryz.prog.funcNamed "bringup/bringuplaw33.GrantServes" = some 6 by kernel_rfl).symm.trans hf) |>.symm;obtain rfl:fn=Tryz.f6:=(Option.some.inj (Tryz.func6.symm.trans hfn)).symm;refine ⟨by kernel_rfl,λ j t ht=>?_⟩;rw [Tryz.params6] at ht;have ht:t∈#[22,5]:=Array.mem_of_getElem? ht;simp at ht;rcases ht with rfl | rfl
 ·exact (show Tryz.prog.wantsStandIn 22=false by kernel_rfl)
 ·exact (show Tryz.prog.wantsStandIn 5=false by kernel_rfl)
end Go.Proofs.YtccjmcmolnbiiaaGreatDoor.grantServes
namespace Go.Proofs.YtccjmcmolnbiiaaGreatDoor
open Go.Ab
set_option maxRecDepth 100000
theorem grantServes_card:Rows.GrantServesCardSaid:=
 Claim7.holds_tied_plain_at .later [] _ _ _ _ grantServes.said (λ _ h=>by cases h) (by kernel_rfl) (λ _ h=>by cases h) grantServes_row_tie rfl ⟨rfl,rfl⟩ (by kernel_rfl) rfl grantServes.plain (by kernel_rfl)
end Go.Proofs.YtccjmcmolnbiiaaGreatDoor

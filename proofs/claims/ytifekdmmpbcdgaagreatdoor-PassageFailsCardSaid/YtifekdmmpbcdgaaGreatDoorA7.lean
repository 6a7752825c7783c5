/- An abstract machine over the model's code, that it is sound; models of the functions and their proofs. -/
import Derived.Test.YtifekdmmpbcdgaaGreatDoorA6
import Derived.Test.YtifekdmmpbcdgaaGreatDoorA4
import Derived.Test.YtifekdmmpbcdgaaGreatDoorA5
set_option linter.unusedVariables false
set_option linter.unusedSimpArgs false
set_option maxHeartbeats 4000000
namespace Go.Proofs.YtifekdmmpbcdgaaGreatDoor
open Go.Ab
set_option maxRecDepth 100000
theorem UZ {p_:bL} {l_:List ByteArray} {jD:List Int} (h1:∀g∈p_.aG,g.dz.length≤2000000∧g.aI.length≤2000000) (h2:p_.aG.length≤2000000) (h3:l_.length≤2000000) (hp:adk p_) (hg:YH p_ l_ jD) (hgl:jD.length≤l_.length):W (Ai p_ l_ jD) (λ r=>r.2=true→r.1.length=l_.length∧YH p_ l_ r.1∧r.1.take jD.length=jD):=by
 unfold Ai;refine cu (λ s:bL×List ByteArray×List Int=>s.1=p_∧s.2.1=l_∧s.2.2.length≤l_.length∧YH p_ l_ s.2.2∧jD.length≤s.2.2.length∧s.2.2.take jD.length=jD) (λ s=>l_.length - s.2.2.length) ?_ ⟨rfl,rfl,hgl,hg,Nat.le_refl _,List.take_length⟩;rintro self ⟨p,l,gs⟩ ⟨e1,e2,e3,e4,e5,e6⟩ ih;dsimp only at e1 e2 e3 e4 e5 e6;subst p l;unfold mK;refine wi ?_ ?_<;>intro c1
 ·refine bK ob (aK ?_);intro _;exact ⟨by dsimp only at c1 ⊢; omega,e4,e6⟩
 ·refine bK (by dsimp only at c1 ⊢; omega) ?_;refine aL (UQ h1 h2) λ v1 hv1=>?_;obtain ⟨k1,k2⟩:=hv1;refine cu (λ g:Int=>0≤g) (λ g:Int=>(v1.length - g).toNat) ?_ (Int.le_refl _);intro ah g1 hg1 ih1;unfold Ja;refine cO ?_ ?_<;>intro c2
  ·have c2:=fA c2;have hx:=k2 _ (getD_in (i:=g1.toNat) 0 om);refine wn<|aL (Og h1 (by dsimp only; omega) (λ x hx=>e4.ir x hx) hx.1.1 hx.1.2 hp) λ v6 h6=>?_;refine cO ?_ ?_<;>intro c3
   ·refine bK ob (ih1 _ om om)
   ·refine bK ob (bK ob (bK ob ?_));have hl:¬ gs.length=l_.length:=by (try dsimp only at c1); omega
    refine aL (ih _ ⟨rfl,rfl,by (simp only [List.length_append,List.length_singleton]; omega),?_,by (simp only [List.length_append,List.length_singleton]; omega),by dsimp only; rw [List.take_append_of_le_length e5]; exact e6⟩ (by (simp only [List.length_append,List.length_singleton]; omega))) λ v7 hv7=>?_
    ·exact ajW e4 hx.1 hx.2 (h6 (by simpa using c3))
    ·refine cO (λ c4=>aK λ _=>hv7 c4) (λ c4=>bK ob (ih1 _ om om))
  ·exact aK nofun
theorem U0 {p_:bL} {l_:List ByteArray} {jD:List Int} (h1:∀g∈p_.aG,g.dz.length≤2000000∧g.aI.length≤2000000) (h2:l_.length≤2000000) (h3:p_.aG.length≤2000000) (hp:adk p_) (hg:YH p_ l_ jD) (hgl:jD.length≤l_.length):W (Aj p_ l_ jD) (λ r=>r.2=0→r.1.length=l_.length∧YH p_ l_ r.1∧r.1.take jD.length=jD):=by
 unfold Aj;refine aL (adr h1 h2 hp hg) λ v1 _=>?_;refine cO (λ c1=>aK λ e=>?_) (λ _=>?_)
 ·have c1:=fA c1; exact absurd e c1
 refine aL (UZ h1 h3 h2 hp hg hgl) λ v2 hv2=>?_;refine cO (λ _=>aK nofun) (λ c2=>aK λ _=>hv2 (by simpa using c2))
theorem XI {b_:aP} {l_:List au} (h1:∀u∈l_,Ud b_.aQ u.iB) (h2:l_.length≤2000000):W (Dn b_ l_) (λ r=>r=(l_.map (λ u=>nmU b_.aQ u.iB),l_.map λ u=>u.iB.bM)):=by
 unfold Dn;refine cu (λ g1:Int×List ByteArray×List Int=>0≤g1.1∧g1.1≤l_.length∧g1.2.1=(l_.take g1.1.toNat).map (λ u=>nmU b_.aQ u.iB)∧g1.2.2=(l_.take g1.1.toNat).map λ u=>u.iB.bM) (λ g1=>(l_.length - g1.1).toNat) ?_ ⟨ob,ob,rfl,rfl⟩;intro ah g1 ⟨a1,a2,a3,a4⟩ ih1;have l1:g1.2.1.length≤l_.length:=by rw [a3,List.length_map,List.length_take]; omega
 have l2:g1.2.2.length≤l_.length:=by rw [a4,List.length_map,List.length_take]; omega
 unfold K7;refine wi ?_ ?_<;>intro c
 ·have e:(g1.1+1).toNat=g1.1.toNat+1:=by omega
  obtain ⟨u1,u2,u3,u4⟩:=h1 _ (getD_in (i:=g1.1.toNat) bE om);refine wn<|bK om ?_;refine bK om ?_;refine bK (by unfold big; omega) ?_;refine bK (by unfold big; omega) ?_;refine wn<|ih1 _ ⟨ob,ob,?_,?_⟩ ob
  ·dsimp only;rw [e,Ew _ _ bE om,a3]; rfl
  ·dsimp only;rw [e,Ew _ _ bE om,a4]
 ·exact aK (by rw [a3,a4,List.take_of_length_le om])
variable {us:List au}
theorem al6 {p:bL} {fs:List ByteArray} (h:Sm p (us.map au.iB)):YH p (us.map (λ u=>nmU p u.iB)++fs) (us.map λ u=>u.iB.bM):=by
 refine ⟨λ x hx=>?_,λ k hk=>?_,λ k j hj hk=>?_⟩
 ·obtain ⟨u,hu,rfl⟩:=List.mem_map.1 hx;obtain ⟨u1,u2,_,_⟩:=Hy h u hu;exact ⟨u1,u2⟩
 ·rw [List.length_map] at hk;have hk:k<us.length:=by omega
  obtain ⟨u1,u2,u3,u4⟩:=Hy h _ (getD_in (i:=k) bE hk);rw [kX ByteArray.empty (by rw [List.length_map]; exact hk),qL (d:=bE) hk,qL (d:=bE) hk];exact ⟨(us.getD k bE).iB.dA.toNat,om,rfl⟩
 ·rw [List.length_map] at hk;have hk:k<us.length:=by omega
  have:=(h k (by rw [List.length_map]; omega)).2.2 j hj;rw [qL (d:=bE) hk,qL (d:=bE) om] at this ⊢;exact λ a c ha hc=>this a c ha hc
theorem al7 {p:bL} {l:List ByteArray} {gs:List Int} (hp:adk p) (hf:YH p l gs) (hg:us.map (λ u=>u.iB.bM)=gs) (hu:∀u∈us,Ud p u.iB):Sm p (us.map au.iB):=by
 intro i hi;rw [List.length_map] at hi;have hi:i<us.length:=by omega
 have hgl:gs.length=us.length:=by rw [← hg,List.length_map]
 have hgg:∀k,k<us.length→((us.map au.iB).getD k jg).bM=gs.getD k 0:=λ k hk=>by
  rw [← hg,qL (d:=bE) hk,qL (d:=bE) hk]
 have hdj:∀k,k<i→ahq p ((us.map au.iB).getD k jg).bM ((us.map au.iB).getD i jg).bM:=λ k hk=>by
  rw [hgg k om,hgg i hi]; exact hf.dj i k hk om
 have hui:=hu _ (getD_in (i:=i) bE hi);refine ⟨by rw [qL (d:=bE) hi]; exact hui,λ k hk e=>?_,λ k hk=>hdj k hk⟩;have hd:=hdj k hk;rw [e] at hd;obtain ⟨u1,u2,_,_⟩:=hui;rw [qL (d:=bE) hi] at hd;have:=(hp.ok.gr _ (getD_in (i:=(us.getD i bE).iB.bM.toNat) aM om)).pl;exact hd 0 0 om om rfl
def FnU (b:aP) (l:List aO) (ms:List Int) (us:List au):Prop:=∀i∈ms,∀f:ByteArray,cntF (l.getD i.toNat dh).aI f≤M6 b.aQ us i f
theorem XJ {ms:List Int} (h:∀u∈us,u.gU∈ms):M7 ms us=us:=by
 unfold M7;exact List.filter_eq_self.2 λ u hu=>by simpa using h u hu
theorem al8 {p:bL} {new:List au} {d:Int} {fs:List ByteArray} (h:new.map (λ u=>(u.gU,nmU p u.iB))=fs.map λ f=>(d,f)) (f:ByteArray):cntF fs f≤M6 p (us++new) d f:=by
 have e:M6 p new d f=cntF fs f:=by
  have e1:M6 p new d f=(new.map (λ u=>(u.gU,nmU p u.iB))).countP λ q=>(q.1==d)&&decide (q.2=f):=by
   rw [List.countP_map]; rfl
  rw [e1,h,List.countP_map];unfold cntF;exact List.countP_congr λ x _=>by simp
 rw [← e];unfold M6;rw [List.countP_append];omega
structure UsI (b:aP) (l:List aO) (ms:List Int) (us:List au):Prop where
 dv:∀u∈us,u.gU∈ms
 ow:Sm b.aQ (us.map au.iB)
 fn:FnU b l ms us
 df:QK l ms
 fl:ms≠[]→FL b l ms
theorem BX {b_:aP} {l_:List aO} {g_:aF} {cZ:Int} {bX:List Int} (h1:Sj b_) (h2:GSz b_.aQ) (h2':b_.aQ.aG.length≤2000000) (h3:Xp l_) (h4:bX.length≤9999) (h5:uK g_) (h6:g_.Uses.length≤100000)
  (hd:∀u∈g_.Uses,u.gU∈bX) (hf:FnU b_ l_ bX g_.Uses):W (oL b_ l_ g_ cZ bX) (λ r=>r.2.2=0→(uK r.1∧r.1.Uses.length≤g_.Uses.length+(l_.getD cZ.toNat dh).aI.length)∧
   (∀u∈r.1.Uses,u.gU∈bX++[cZ])∧Sm b_.aQ (r.1.Uses.map au.iB)∧FnU b_ l_ (bX++[cZ]) r.1.Uses∧QK l_ (bX++[cZ])∧AgA b_ l_ (bX++[cZ]) r.1.Uses r.1):=by
 unfold oL;refine aL (LM h1 h2 h3 om h5) λ v1 hv1=>?_;refine cO ?_ ?_<;>intro c1
 ·have c1:=fA c1;exact aK λ e=>absurd e c1
 have c1:=fA c1;obtain ⟨hn,⟨hpa,ho⟩,hd0,hd1⟩:=hv1 c1;obtain ⟨hb,hl12,hnd⟩:=Dy hn;have aqI:=Hy ho;refine aL (yO om) λ v2 _=>?_;refine cO (λ c2=>aK nofun) (λ c2=>?_);refine bK (by unfold big; omega) ?_;refine bK (by unfold big; omega) ?_;refine aL (Jo om om) λ v11 aoz=>?_;rw [XJ hd] at aoz;subst aoz;unfold tJ;refine aL (QM h1 h2 h3 (by dsimp only; rw [List.length_append,List.length_singleton]; omega) (by dsimp only; omega)) λ v4 ⟨hga,_,hgl⟩=>?_;refine cO ?_ ?_<;>intro c3
 ·have c3:=fA c3;exact aK λ e=>absurd e c3
 have c3:=fA c3;obtain ⟨_,hdf,hag⟩:=hgl c3;have hus:=hag.us;dsimp only at hus hdf;rw [XJ λ u hu=>List.mem_append_left _ (hd u hu)] at hus;refine aL (XI aqI (by dsimp only; omega)) λ v10 Ar=>?_;subst Ar;have awW:=(hnd _ (getD_in (i:=cZ.toNat) dh om)).fl;unfold qY;dsimp only;refine bK ⟨hd0,hd1⟩ ?_;refine bK (by rw [List.length_map]; unfold big; omega) ?_;refine aL (U0 h2 (by rw [List.length_append,List.length_map]; omega) h2' hpa.v (al6 ho) (by rw [List.length_append,List.length_map,List.length_map]; omega)) λ v6 hv6=>?_;refine cO (λ c4=>aK nofun) (λ c4=>?_);have c4:=fA c4;obtain ⟨ha1,ha2,ha3⟩:=hv6 c4;rw [List.length_append,List.length_map] at ha1;rw [List.length_map] at ha3;refine bK ⟨hd0,hd1⟩ ?_;refine cu (λ g3:Int×List au=>0≤g3.1∧g3.1≤(l_.getD cZ.toNat dh).aI.length∧(∃new,g3.2=g_.Uses++new∧new.map (λ u=>(u.gU,nmU b_.aQ u.iB))=((l_.getD cZ.toNat dh).aI.take g3.1.toNat).map λ f=>(cZ,f))∧g3.2.map (λ u=>u.iB.bM)=v6.1.take (g_.Uses.length+g3.1.toNat)∧∀u∈g3.2,Ud b_.aQ u.iB) (λ g3=>((l_.getD cZ.toNat dh).aI.length - g3.1).toNat) ?_ ⟨ob,ob,⟨[],by dsimp only; rw [hus,List.append_nil],rfl⟩,?_,λ u hu=>?_⟩
 ·intro vk g3 ⟨d1,d2,⟨new,d3,d4⟩,d5,d6⟩ ih3;have hnl:new.length=g3.1.toNat:=by
   have:=congrArg List.length d4;rw [List.length_map,List.length_map,List.length_take] at this;omega
  have hgl:g3.2.length=g_.Uses.length+g3.1.toNat:=by rw [d3,List.length_append,hnl]
  unfold zJ;refine wi ?_ ?_<;>intro c5
  ·dsimp only;rw [List.length_map];have e:((g_.Uses.length:Int)+g3.1).toNat=g_.Uses.length+g3.1.toNat:=by omega
   have e1:(g3.1+1).toNat=g3.1.toNat+1:=by omega
   have hx:=ha2.ir _ (getD_in (i:=g_.Uses.length+g3.1.toNat) 0 om);have hof:=ha2.off (g_.Uses.length+g3.1.toNat) om;rw [Ub ByteArray.empty (by rw [List.length_map]; omega),List.length_map,Nat.add_sub_cancel_left] at hof;rw [e];refine bK om ?_;refine bK (by unfold aJ; omega) ?_;refine bK om ?_;refine bK hx ?_;have hff:=(h2 _ (getD_in (i:=(v6.1.getD (g_.Uses.length+g3.1.toNat) 0).toNat) aM om)).2;refine aL (LH om) λ v9 ⟨t1,t2,t3,t4⟩=>?_;obtain ⟨k,k1,k2⟩:=hof;have t0:0≤v9:=Int.not_lt.1 λ q=>t4 q k k1 k2;have t5:=aeW (t3 t0);refine bK (by unfold big; omega) ?_;refine bK (by unfold aJ; omega) ?_;refine ih3 _ ⟨by dsimp only; omega,by dsimp only; omega,⟨new++[⟨cZ,⟨v6.1.getD (g_.Uses.length+g3.1.toNat) 0,v9⟩⟩],by dsimp only; rw [d3,List.append_assoc],?_⟩,?_,λ u hu=>?_⟩ (by dsimp only; omega)
   ·dsimp only;rw [e1,Ew _ _ ByteArray.empty om,List.map_append,d4,List.map_cons,List.map_nil];congr 3
   ·dsimp only;rw [List.map_append,d5,e1,← Nat.add_assoc,jU 0 om,List.map_cons,List.map_nil]
   ·rcases List.mem_append.1 hu with h | h
    ·exact d6 u h
    ·rw [List.mem_singleton] at h; rw [h];exact ⟨hx.1,hx.2,t0,t2⟩
  ·rw [List.take_of_length_le om] at d4 d5;have hdv:∀u∈g3.2,u.gU∈bX++[cZ]:=by
    intro u hu;rw [d3] at hu;rcases List.mem_append.1 hu with h | h
    ·exact List.mem_append_left _ (hd u h)
    ·refine List.mem_append_right _ (List.mem_singleton.2 ?_);have:(u.gU,nmU b_.aQ u.iB)∈(l_.getD cZ.toNat dh).aI.map λ f=>(cZ,f):=by rw [← d4]; exact List.mem_map.2 ⟨u,h,rfl⟩
     obtain ⟨f,_,e⟩:=List.mem_map.1 this;exact (Prod.mk.inj e).1.symm
   refine aK λ _=>⟨⟨⟨hga.a,hga.b,hga.c,by dsimp only; omega,hga.d,hga.e⟩,by dsimp only; omega⟩,hdv,al7 hpa.v ha2 d5 d6,?_,hdf,⟨hag.st,hag.ra,(XJ hdv).symm,hag.re,hag.po⟩⟩
   ·intro i hi f;dsimp only;rw [d3];rcases List.mem_append.1 hi with h | h
    ·refine Nat.le_trans (hf i h f) ?_;unfold M6;rw [List.countP_append];omega
    ·rw [List.mem_singleton] at h; rw [h];exact al8 d4 f
 ·dsimp only;rw [hus,show (0:Int).toNat=0 from rfl,Nat.add_zero,ha3]
 ·dsimp only at hu;rw [hus] at hu;exact aqI u hu
theorem YL {b_:aP} (h1:Sj b_) (h2:GSz b_.aQ):W (G6 b_) (λ r=>uK r.1∧r.1.Uses=[]∧(r.2=0→Sl b_ 0∧AgA b_ [] [] [] r.1)):=by
 unfold G6;refine aL (LQ h1 h2 ⟨by simp,λ _ h=>by cases h⟩ (by simp) (by simp)) λ v1 ⟨hga,hul,hgl⟩=>?_;have hun:v1.2.2.2.2.2.2.2=[]:=List.length_eq_zero_iff.1 (by simpa using hul);exact aK ⟨⟨hga.a,hga.b,hga.c,by dsimp only; rw [hun]; simp,hga.d,hga.e⟩,hun,λ e=>⟨(LK (hgl e).1).1,(hgl e).2.2⟩⟩
structure UsJ (e:Int) (b:aP) (l:List aO) (ms:List Int) (g:aF):Prop where
 dv:∀u∈g.Uses,u.gU∈ms
 ow:Sm b.aQ (g.Uses.map au.iB)
 fn:FnU b l ms g.Uses
 df:QK l ms
 ag:e=0→AgA b l ms g.Uses g
end Go.Proofs.YtifekdmmpbcdgaaGreatDoor
namespace Go.Proofs.YtifekdmmpbcdgaaGreatDoor
open Go.Ab
set_option maxRecDepth 1000000
set_option maxHeartbeats 4000000
theorem Jr:nQ true:=M.anK 100 nQ true (by decide +kernel)
end Go.Proofs.YtifekdmmpbcdgaaGreatDoor
namespace Go.Proofs.YtifekdmmpbcdgaaGreatDoor
open Go.Ab
set_option maxRecDepth 100000
theorem ads {l_:List Int} {x_:Int} (h:l_.length≤2000000):W (Ql l_ x_) (λ r=>r=l_.contains x_):=by
 unfold Ql;refine cu (λ g1:Int=>0≤g1∧g1≤l_.length∧(l_.take g1.toNat).contains x_=false) (λ g1=>(l_.length - g1).toNat) ?_ ⟨ob,ob,by simp⟩;intro ah g1 ⟨a1,a2,a3⟩ ih1;unfold TY;refine wi ?_ ?_<;>intro c1
 ·refine wn ?_;have hlt:g1.toNat<l_.length:=by omega
  have e:l_.take (g1.toNat+1)=l_.take g1.toNat++[l_.getD g1.toNat 0]:=by
   rw [List.take_add_one,List.getElem?_eq_getElem hlt,List.getD_eq_getElem?_getD,List.getElem?_eq_getElem hlt]; rfl
  refine cO ?_ ?_<;>intro c2
  ·refine aK ?_;have:l_.getD g1.toNat 0=x_:=by simpa using c2
   rw [← this,List.getD_eq_getElem?_getD,List.getElem?_eq_getElem hlt];exact (List.contains_iff_mem.2 (List.getElem_mem hlt)).symm
  ·refine wn<|ih1 _ ⟨ob,ob,?_⟩ ob;rw [show (g1+1).toNat=g1.toNat+1 by omega,e];have hne:¬ l_.getD g1.toNat 0=x_:=by simpa using c2
   have h3:¬ x_∈l_.take g1.toNat:=λ hm=>by rw [List.contains_iff_mem.2 hm] at a3; cases a3
   cases hc:(l_.take g1.toNat++[l_.getD g1.toNat 0]).contains x_ with
   | false=>rfl
   | true=>
    rcases List.mem_append.1 (List.contains_iff_mem.1 hc) with h | h
    ·exact absurd h h3
    ·exact absurd (List.mem_singleton.1 h).symm hne
 ·refine aK ?_;rw [List.take_of_length_le om] at a3;exact a3.symm
theorem FQ {l_:List Int} {x_:Int} (h:l_.length≤2000000):W (rX l_ x_) (λ r=>r=l_.filter λ y=>y != x_):=by
 unfold rX;refine cu (λ g1:Int×List Int=>0≤g1.1∧g1.1≤l_.length∧g1.2=(l_.take g1.1.toNat).filter λ y=>y != x_) (λ g1=>(l_.length - g1.1).toNat) ?_ ⟨ob,ob,by simp⟩;intro ah g1 ⟨a1,a2,a3⟩ ih1;have hl:g1.2.length≤g1.1.toNat:=by
  rw [a3];exact Nat.le_trans (List.length_filter_le _ _) (by rw [List.length_take]; omega)
 unfold FE;refine wi ?_ ?_<;>intro c1
 ·refine wn ?_;have hlt:g1.1.toNat<l_.length:=by omega
  have e2:(g1.1+1).toNat=g1.1.toNat+1:=by omega
  have e:(l_.take (g1.1.toNat+1)).filter (λ y=>y != x_)=g1.2++(bif l_.getD g1.1.toNat 0 != x_ then [l_.getD g1.1.toNat 0] else []):=by
   rw [List.take_add_one,List.filter_append,← a3,List.getElem?_eq_getElem hlt,List.getD_eq_getElem?_getD,List.getElem?_eq_getElem hlt];congr 1
  refine cO ?_ ?_<;>intro c2
  ·refine wn<|bK (by unfold big; omega) ?_;refine wn ?_;exact ih1 _ ⟨ob,ob,by dsimp only; rw [e2,e,c2]; rfl⟩ ob
  ·refine wn ?_;exact ih1 _ ⟨ob,ob,by dsimp only; rw [e2,e,c2]; exact (List.append_nil _).symm⟩ ob
 ·refine aK ?_;rw [List.take_of_length_le om] at a3;exact a3
structure UsK (b:aP) (l:List aO) (ms:List Int) (g:aF):Prop where
 dv:∀u∈g.Uses,u.gU∈ms
 fn:FnU b l ms g.Uses
theorem akj {b:aP} {l:List aO} {ms ms':List Int} {us:List au} (hs:∀i∈ms',i∈ms) (h:FnU b l ms us):FnU b l ms' (M7 ms' us):=λ i hi f=>by
 have e:M6 b.aQ (M7 ms' us) i f=M6 b.aQ us i f:=by
  unfold M6 M7;rw [List.countP_filter];congr 1;funext u;cases hd:(u.gU==i) with
  | false=>simp
  | true=>
   have:u.gU=i:=by simpa using hd
   have hc:ms'.contains u.gU=true:=List.contains_iff_mem.2 (this ▸ hi);rw [hc];simp
 rw [e];exact h i (hs i hi) f
theorem U1 {b_:aP} {l_:List aO} {M_:List Int} {g_:aF} {d_:Int} (h1:Sj b_) (h2:GSz b_.aQ) (h3:Xp l_) (h4:M_.length≤9999) (h5:uK g_) (hk:UsK b_ l_ M_ g_):
  W (Ak b_ l_ M_ g_ d_) (λ r=>r.2=0→uK r.1∧r.1.Uses.length≤g_.Uses.length∧UsK b_ l_ (M_.filter λ y=>y != d_) r.1):=by
 obtain ⟨z1,z2,z3,z4,z5,z6⟩:=id h5;unfold Ak;refine aL (LM h1 h2 h3 om h5) λ v1 hv1=>?_;refine cO ?_ ?_<;>intro c1
 ·have c1:=fA c1;exact aK λ e=>absurd e c1
 refine aL (yO om) λ v2 _=>?_;refine cO (λ c2=>aK nofun) (λ c2=>?_);refine aL (FQ om) λ v3 hv3=>?_;subst hv3;have hl:(M_.filter λ y=>y != d_).length≤M_.length:=List.length_filter_le _ _;refine aL (LQ h1 h2 h3 om om) λ v4 ⟨hga,hul,hv4⟩=>?_;refine aK λ e=>?_;obtain ⟨_,_,hag⟩:=hv4 e;have hus:=hag.us;dsimp only at hus;refine ⟨?_,hul,⟨λ u hu=>?_,?_⟩⟩
 ·exact ⟨hga.a,hga.b,hga.c,by dsimp only; omega,hga.d,hga.e⟩
 ·dsimp only at hu;rw [hus] at hu;exact List.contains_iff_mem.1 (List.mem_filter.1 hu).2
 ·dsimp only;rw [hus];exact akj (λ i hi=>(List.mem_filter.1 hi).1) hk.fn
structure auJ (r:aP×List aO×aF×aF×List Int×Bool×cB):Prop where
 bd:ag1 r.1
 nl:r.2.1.length≤5
 nd:∀x∈r.2.1,NdG r.1 r.2.1.length x
 gf:uK r.2.2.1
 gt:uK r.2.2.2.1
 uf:r.2.2.1.Uses.length≤40
 ut:r.2.2.2.1.Uses.length≤40
 ml:r.2.2.2.2.1.length≤5
theorem XK {bX:cB} (h1:0≤bX.At) (h2:bX.L.length≤600):W (Dq bX) auJ:=by
 unfold Dq;refine aL (Qo h1 h2) λ v1 ⟨b1,b2,b3⟩=>?_;refine aL (LV b1 om om b2 b3) λ v2 hv2=>?_;obtain ⟨n1,n2,n3,n4⟩:=hv2;have hbs:=amR b1;have hgs:GSz v1.1.aQ:=λ g hg=>by have:=b1.gr g hg; omega
 have hgn:=b1.ngr;have hns:Xp v2.1:=⟨om,λ n hn=>by have a:=(n2 n hn).rs.1; have c:=(n2 n hn).pr.1; omega⟩;refine aL (YL hbs hgs) λ v3 ⟨s1,s2,_⟩=>?_;refine cO (λ _=>aK ⟨b1,by dsimp only; omega,n2,s1,s1,by dsimp only; rw [s2]; simp,by dsimp only; rw [s2]; simp,by simp⟩) (λ _=>?_);refine cu (λ g1:(Int×List Int×Int×List Int×List Bool×List Int×List au×List Bool×List Bool×List Int)=>0≤g1.1∧g1.1≤v2.1.length∧0≤g1.2.2.1∧g1.2.1.length≤600∧uK ⟨g1.2.2.2.1,⟨g1.2.2.2.2.1,g1.2.2.2.2.2.1⟩,g1.2.2.2.2.2.2.1,g1.2.2.2.2.2.2.2.1,g1.2.2.2.2.2.2.2.2.1⟩∧g1.2.2.2.2.2.2.1.length≤2*g1.1.toNat∧g1.2.2.2.2.2.2.2.2.2.length≤g1.1.toNat∧UsK v1.1 v2.1 g1.2.2.2.2.2.2.2.2.2 ⟨g1.2.2.2.1,⟨g1.2.2.2.2.1,g1.2.2.2.2.2.1⟩,g1.2.2.2.2.2.2.1,g1.2.2.2.2.2.2.2.1,g1.2.2.2.2.2.2.2.2.1⟩) (λ g1=>(v2.1.length - g1.1).toNat) ?_ ⟨ob,ob,n3,n4,s1,by dsimp only; rw [s2]; simp,by simp,⟨by dsimp only; rw [s2]; exact nofun,nofun⟩⟩;intro ah g1 ⟨a1,a2,a3,a4,a5,a6,a7,a8⟩ ih1;unfold Lb;refine wi ?_ ?_<;>intro c
 ·have hfx:=(n2 _ (getD_in (i:=g1.1.toNat) dh om)).fw.1;have e:(g1.1+1).toNat=g1.1.toNat+1:=by omega
  refine aL (BX hbs hgs om hns om a5 (by dsimp only; omega) a8.dv a8.fn) λ v8 vZ=>?_;refine cO ?_ ?_<;>intro c2
  ·refine aL (bQ om a3 a4) λ v9 QB=>?_;obtain ⟨_,_,_,q1,q2⟩:=QB;refine cO ?_ ?_<;>intro c3
   ·have c4:v8.2.2=0:=by
     simp only [Bool.and_eq_true,beq_iff_eq] at c3;exact c3.1
    obtain ⟨⟨r1,r2⟩,r3,_,r5,_⟩:=vZ c4;dsimp only at r2;refine bK (by unfold big; omega) ?_;refine wn ?_;exact ih1 _ ⟨ob,ob,q1,q2,r1,by dsimp only; rw [e]; omega,by dsimp only; rw [List.length_append,List.length_singleton,e]; omega,⟨r3,r5⟩⟩ ob
   ·refine wn ?_;exact ih1 _ ⟨ob,ob,q1,q2,a5,by dsimp only; rw [e]; omega,by dsimp only; rw [e]; omega,a8⟩ ob
  ·refine bK (by cases h:(v8.2.2==(0:Int)) with | false=>rfl | true=>rw [h] at c2; cases c2) ?_;refine wn ?_;exact ih1 _ ⟨ob,ob,a3,a4,a5,by dsimp only; rw [e]; omega,by dsimp only; rw [e]; omega,a8⟩ ob
 ·refine bK (by unfold big; omega) ?_;refine cu (λ g2:(List Int×Int×List Int×Int×List Int×List Bool×List Int×List au×List Bool×List Bool)=>g2.1.length≤5∧0≤g2.2.1∧g2.2.1≤g1.2.2.2.2.2.2.2.2.2.length∧0≤g2.2.2.2.1∧g2.2.2.1.length≤600∧uK ⟨g2.2.2.2.2.1,⟨g2.2.2.2.2.2.1,g2.2.2.2.2.2.2.1⟩,g2.2.2.2.2.2.2.2.1,g2.2.2.2.2.2.2.2.2.1,g2.2.2.2.2.2.2.2.2.2⟩∧g2.2.2.2.2.2.2.2.1.length≤10∧UsK v1.1 v2.1 g2.1 ⟨g2.2.2.2.2.1,⟨g2.2.2.2.2.2.1,g2.2.2.2.2.2.2.1⟩,g2.2.2.2.2.2.2.2.1,g2.2.2.2.2.2.2.2.2.1,g2.2.2.2.2.2.2.2.2.2⟩) (λ g2=>(g1.2.2.2.2.2.2.2.2.2.length - g2.2.1).toNat) ?_ ⟨by dsimp only; omega,ob,ob,a3,a4,a5,by dsimp only; omega,a8⟩;intro dR g2 ⟨d0,d1,d2,d3,d4,d5,d6,d7⟩ ih2;unfold Jc;refine cO ?_ ?_<;>intro c2
  ·have c2:=fA c2;refine wn ?_;unfold zi;refine aL (bQ om d3 d4) λ v16 Xd=>?_;obtain ⟨_,_,_,q1,q2⟩:=Xd;refine cO ?_ ?_<;>intro c3
   ·refine aL (U1 hbs hgs hns om d5 d7) λ v17 alR=>?_;refine cO ?_ ?_<;>intro c4
    ·have c4:=fA c4;obtain ⟨r1,r2,r3⟩:=alR c4;dsimp only at r2;refine aL (FQ om) λ v18 ajK=>?_;subst ajK;have hfl:(g2.1.filter λ y=>y != g1.2.2.2.2.2.2.2.2.2.getD g2.2.1.toNat 0).length≤g2.1.length:=List.length_filter_le _ _;refine wn ?_;exact ih2 _ ⟨by dsimp only; omega,ob,ob,q1,q2,r1,by dsimp only; omega,r3⟩ ob
    ·refine wn ?_;exact ih2 _ ⟨by dsimp only; omega,ob,ob,q1,q2,d5,by dsimp only; omega,d7⟩ ob
   ·refine wn ?_;exact ih2 _ ⟨by dsimp only; omega,ob,ob,q1,q2,d5,by dsimp only; omega,d7⟩ ob
  ·have c2:=fA c2;refine bK (by unfold big; omega) ?_;refine cu (λ g6:(Int×List Int×List Bool×List Int×List au×List Bool×List Bool×List Int)=>0≤g6.1∧g6.1≤v2.1.length∧uK ⟨g6.2.1,⟨g6.2.2.1,g6.2.2.2.1⟩,g6.2.2.2.2.1,g6.2.2.2.2.2.1,g6.2.2.2.2.2.2.1⟩∧g6.2.2.2.2.1.length≤10+2*g6.1.toNat∧g6.2.2.2.2.2.2.2.length≤5+g6.1.toNat∧UsK v1.1 v2.1 g6.2.2.2.2.2.2.2 ⟨g6.2.1,⟨g6.2.2.1,g6.2.2.2.1⟩,g6.2.2.2.2.1,g6.2.2.2.2.2.1,g6.2.2.2.2.2.2.1⟩) (λ g6=>(v2.1.length - g6.1).toNat) ?_ ⟨ob,ob,d5,by dsimp only; omega,by dsimp only; omega,d7⟩;intro jE g6 ⟨e1,e2,e3,e4,e5,e6⟩ ih6;unfold Jb;refine wi ?_ ?_<;>intro c5
   ·have hfx:=(n2 _ (getD_in (i:=g6.1.toNat) dh om)).fw.1;have e:(g6.1+1).toNat=g6.1.toNat+1:=by omega
    refine aL (BX hbs hgs om hns om e3 (by dsimp only; omega) e6.dv e6.fn) λ v23 aoQ=>?_;refine aL (ads om) λ v24 _=>?_;refine cO ?_ ?_<;>intro c6
    ·have c7:v23.2.2=0:=by
      simp only [Bool.and_eq_true,beq_iff_eq] at c6;exact c6.2
     obtain ⟨⟨r1,r2⟩,r3,_,r5,_⟩:=aoQ c7;dsimp only at r2;refine bK (by unfold big; omega) ?_;refine wn ?_;exact ih6 _ ⟨ob,ob,r1,by dsimp only; rw [e]; omega,by dsimp only; rw [List.length_append,List.length_singleton,e]; omega,⟨r3,r5⟩⟩ ob
    ·refine wn ?_;exact ih6 _ ⟨ob,ob,e3,by dsimp only; rw [e]; omega,by dsimp only; rw [e]; omega,e6⟩ ob
   ·refine aL (bQ om d3 d4) λ v26 _=>?_;refine cO ?_ ?_<;>intro _
    ·unfold oM;exact aK ⟨b1,by dsimp only; omega,n2,e3,a5,by dsimp only; omega,by dsimp only; omega,d0⟩
    ·unfold oM;exact aK ⟨b1,by dsimp only; omega,n2,a5,e3,by dsimp only; omega,by dsimp only; omega,d0⟩
def GpD (l:List au):Prop:=(l.map λ u=>u.iB.bM).Nodup
structure Eqv (g h:aF):Prop where
 st:g.Setting=h.Setting
 on:g.aY.On=h.aY.On
 lv:g.aY.bC=h.aY.bC
 re:g.Released=h.Released
 po:g.bq=h.bq
 us:(g.Uses.map au.iB).Perm (h.Uses.map au.iB)
theorem Eqv.refl (g:aF):Eqv g g:=⟨rfl,rfl,rfl,rfl,rfl,.refl _⟩
variable {g:aF} {h:aF}
theorem Eqv.symm (q:Eqv g h):Eqv h g:=⟨q.st.symm,q.on.symm,q.lv.symm,q.re.symm,q.po.symm,q.us.symm⟩
theorem Eqv.trans {k:aF} (q:Eqv g h) (r:Eqv h k):Eqv g k:=⟨q.st.trans r.st,q.on.trans r.on,q.lv.trans r.lv,q.re.trans r.re,q.po.trans r.po,q.us.trans r.us⟩
def gpU (u:Int) (x:gM):Bool:=!(x.bM==u)
def Sn (u:Int) (l:List gM):List gM:=l.filter (gpU u)
theorem al9 (l:List au):(l.map λ u=>u.iB.bM)=(l.map au.iB).map gM.bM:=by rw [List.map_map]; rfl
variable {u:Int}
theorem akl:∀ {l:List au},GpD l→(yL u l).map au.iB=Sn u (l.map au.iB):=by
 intro l;induction l with
 | nil=>intro _; rfl
 | cons x l ih=>
  intro h;unfold GpD at h;rw [List.map_cons,List.nodup_cons] at h;obtain ⟨h1,h2⟩:=h;by_cases q:x.iB.bM=u
  ·have e1:yL u (x::l)=l:=by
    unfold yL Qm;rw [show (x::l).any (Xq u)=true by simp [Xq,q]];simp [Xq,q,List.findIdx_cons]
   rw [e1];unfold Sn;rw [List.map_cons,List.filter_cons,if_neg (by simp [gpU,q])];refine (List.filter_eq_self.2 λ y hy=>?_).symm;obtain ⟨z,hz,rfl⟩:=List.mem_map.1 hy;have:z.iB.bM≠u:=λ e=>h1 (by rw [q,← e]; exact List.mem_map.2 ⟨z,hz,rfl⟩);simp [gpU,this]
  ·have e1:yL u (x::l)=x::yL u l:=by
    unfold yL Qm;have hb:Xq u x=false:=by simp [Xq,q]
    rw [List.any_cons,hb,Bool.false_or];cases hc:l.any (Xq u) with
    | false=>rfl
    | true=>
     rw [List.findIdx_cons,hb];simp only [cond_false,if_true];rw [decide_eq_true om,decide_eq_true om];simp
   rw [e1,List.map_cons,ih h2,List.map_cons];unfold Sn;rw [List.filter_cons,if_pos (by simp [gpU,q])]
theorem sJ {l:List au}:GpD l↔((l.map au.iB).map gM.bM).Nodup:=by unfold GpD; rw [al9]
def adU (u v:Int) (l:List gM):List gM:=if 0<v then l++[⟨u,v - 1⟩] else l
theorem akm (u v:Int) (l:List au):(Et u v l).map au.iB=adU u v (l.map au.iB):=by
 unfold Et adU;by_cases h:0<v
 ·rw [decide_eq_true h,if_pos h]; simp
 ·rw [decide_eq_false h,if_neg h]; rfl
theorem aqL {l:List gM} (h:(l.map gM.bM).Nodup):((Sn u l).map gM.bM).Nodup∧u ∉ (Sn u l).map gM.bM:=by
 refine ⟨List.Nodup.sublist ((List.filter_sublist).map _) h,λ hm=>?_⟩;obtain ⟨x,hx,e⟩:=List.mem_map.1 hm;have:=(List.mem_filter.1 hx).2;simp [gpU,e] at this
theorem aqM {v:Int} {l:List gM} (h:(l.map gM.bM).Nodup) (hu:u ∉ l.map gM.bM):((adU u v l).map gM.bM).Nodup:=by
 unfold adU;split
 ·rw [List.map_append,List.nodup_append];refine ⟨h,by simp,λ x hx y hy=>?_⟩;simp at hy;subst hy;exact λ e=>hu (e ▸ hx)
 ·exact h
structure ZJ (g:aF):Prop where
 gp:GpD g.Uses
 st:∀x∈g.Setting,0≤x∧x≤4611686018427387904
 lv:∀x∈g.aY.bC,0≤x∧x≤4611686018427387904
 fn:∀u∈g.Uses.map au.iB,0≤u.dA
 fb:∀u∈g.Uses.map au.iB,u.dA<4611686018427387904
def YM (b:Bool):Int:=if b then 1 else 0
def rM (l:List gM) (u:Int):Int:=match l.find? (λ x=>x.bM==u) with
 | some x=>x.dA+1
 | none=>0
def rC (g:aF) (w:aD):Int:=
 if w.eT=1 then g.Setting.getD w.Unit.toNat 0
 else if w.eT=2 then g.aY.bC.getD w.Unit.toNat 0
 else if w.eT=3 then YM (g.aY.On.getD w.Unit.toNat false)
 else if w.eT=11 then YM (g.Released.getD w.Unit.toNat false)
 else if w.eT=12 then YM (g.bq.getD w.Unit.toNat false)
 else rM (g.Uses.map au.iB) w.Unit
def YN (g:aF) (w:aD):aD:=⟨w.eT,w.Unit,rC g w⟩
variable {α:Type}
theorem LW {l:List α} {i:Nat} {v d:α} (h:i<l.length):(l.set i v).set i (l.getD i d)=l:=by
 rw [List.set_set,List.getD_eq_getElem?_getD,List.getElem?_eq_getElem h];exact List.set_getElem_self h
theorem LX {l:List α} {v:α} (h:0≤u∧u<l.length):Es l u v=(true,l.set u.toNat v):=by
 unfold Es;rw [decide_eq_false om,decide_eq_false om]; rfl
inductive ApW (g:aF) (w:aD):aF→Prop
 | k1 (k:w.eT=1) (u0:0≤w.Unit) (u1:w.Unit<g.Setting.length) (v0:0≤w.Value∧w.Value≤4611686018427387904):ApW g w { g with Setting:=g.Setting.set w.Unit.toNat w.Value }
 | k2 (k:w.eT=2) (u0:0≤w.Unit) (u1:w.Unit<g.aY.bC.length) (v0:0≤w.Value∧w.Value≤4611686018427387904):ApW g w { g with aY:=⟨g.aY.On,g.aY.bC.set w.Unit.toNat w.Value⟩ }
 | k3 (k:w.eT=3) (u0:0≤w.Unit) (u1:w.Unit<g.aY.On.length) (v0:0≤w.Value) (v1:w.Value≤1):ApW g w { g with aY:=⟨g.aY.On.set w.Unit.toNat (w.Value==1),g.aY.bC⟩ }
 | k11 (k:w.eT=11) (u0:0≤w.Unit) (u1:w.Unit<g.Released.length) (v0:0≤w.Value) (v1:w.Value≤1):ApW g w { g with Released:=g.Released.set w.Unit.toNat (w.Value==1) }
 | k12 (k:w.eT=12) (u0:0≤w.Unit) (u1:w.Unit<g.bq.length) (v0:0≤w.Value) (v1:w.Value≤1):ApW g w { g with bq:=g.bq.set w.Unit.toNat (w.Value==1) }
 | k10 (k:w.eT=10) (u0:0≤w.Unit) (u1:w.Unit≤23) (v0:0≤w.Value∧w.Value≤4611686018427387904):ApW g w { g with Uses:=Et w.Unit w.Value (yL w.Unit g.Uses) }
variable {g':aF} {w:aD}
theorem aga (h:ApW g w g'):jA w g=(true,g'):=by
 cases h with
 | k1 k u0 u1 v0=>unfold jA; rw [k,decide_eq_false om,LX ⟨u0,u1⟩]; rfl
 | k2 k u0 u1 v0=>unfold jA; rw [k,decide_eq_false om,LX ⟨u0,u1⟩]; rfl
 | k3 k u0 u1 v0 v1=>unfold jA; rw [k,decide_eq_false (show ¬ w.Value<0 by omega),decide_eq_true v1,LX ⟨u0,u1⟩]; rfl
 | k11 k u0 u1 v0 v1=>unfold jA; rw [k,decide_eq_false (show ¬ w.Value<0 by omega),decide_eq_true v1,LX ⟨u0,u1⟩]; rfl
 | k12 k u0 u1 v0 v1=>unfold jA; rw [k,decide_eq_false (show ¬ w.Value<0 by omega),decide_eq_true v1,LX ⟨u0,u1⟩]; rfl
 | k10 k u0 u1 v0=>unfold jA; rw [k,decide_eq_false (show ¬ w.Value<0 by omega),decide_eq_true u0,decide_eq_true u1]; rfl
theorem ae5 (b:Bool):(YM b==1)=b:=by cases b<;>rfl
theorem Sq (b:Bool):0≤YM b∧YM b≤1:=by cases b<;>decide
theorem amX {l:List gM} (h:∀u∈l,0≤u.dA) (u:Int):0≤rM l u:=by
 unfold rM;cases q:l.find? (λ x=>x.bM==u) with
 | none=>exact Int.le_refl _
 | some x=>have:=h x (List.mem_of_find?_eq_some q); show 0≤x.dA+1; omega
theorem akn {l:List gM} (h:(l.map gM.bM).Nodup) (hf:∀u∈l,0≤u.dA) (u v:Int):(adU u (rM l u) (Sn u (adU u v (Sn u l)))).Perm l:=by
 have e1:Sn u (adU u v (Sn u l))=Sn u l:=by
  have e0:Sn u (Sn u l)=Sn u l:=List.filter_eq_self.2 λ x hx=>(List.mem_filter.1 hx).2;unfold adU;split
  ·unfold Sn at e0 ⊢;rw [List.filter_append,e0,List.filter_cons,if_neg (by simp [gpU]),List.filter_nil,List.append_nil]
  ·exact e0
 rw [e1];clear e1;induction l with
 | nil=>exact .refl _
 | cons x l ih=>
  rw [List.map_cons,List.nodup_cons] at h;have hx:=hf x List.mem_cons_self;by_cases q:x.bM=u
  ·have e2:Sn u (x::l)=l:=by
    unfold Sn;rw [List.filter_cons,if_neg (by simp [gpU,q])];refine List.filter_eq_self.2 λ y hy=>?_;have:y.bM≠u:=λ e=>h.1 (by rw [q,← e]; exact List.mem_map.2 ⟨y,hy,rfl⟩);simp [gpU,this]
   have e3:rM (x::l) u=x.dA+1:=by
    unfold rM;rw [List.find?_cons_of_pos (by simp [q])]
   rw [e2,e3];unfold adU;rw [if_pos om];have e4:(⟨u,x.dA+1 - 1⟩:gM)=x:=by
    rw [Int.add_sub_cancel,← q]
   rw [e4];exact List.perm_append_comm
  ·have e2:Sn u (x::l)=x::Sn u l:=by
    unfold Sn;rw [List.filter_cons,if_pos (by simp [gpU,q])]
   have e3:rM (x::l) u=rM l u:=by
    unfold rM;rw [List.find?_cons_of_neg (by simp [q])]
   rw [e2,e3];have:=ih h.2 (λ y hy=>hf y (List.mem_cons_of_mem _ hy));unfold adU at this ⊢;split
   ·rename_i hp; rw [if_pos hp] at this; exact this.cons x
   ·rename_i hp; rw [if_neg hp] at this; exact this.cons x
theorem Aw (hg:GpD g.Uses) (u v:Int):(Et u v (yL u g.Uses)).map au.iB=adU u v (Sn u (g.Uses.map au.iB)):=by rw [akm,akl hg]
theorem agb {l:List Int} (h:∀x∈l,0≤x∧x≤4611686018427387904) (i:Nat):0≤l.getD i 0∧l.getD i 0≤4611686018427387904:=by
 by_cases q:i<l.length
 ·rw [List.getD_eq_getElem?_getD,List.getElem?_eq_getElem q]; exact h _ (List.getElem_mem q)
 ·rw [List.getD_eq_getElem?_getD,List.getElem?_eq_none om]; exact ⟨Int.le_refl _,by decide⟩
theorem amY {l:List gM} {B:Int} (h:∀u∈l,0≤u.dA) (h2:∀u∈l,u.dA<B) (hB:0≤B) (u:Int):0≤rM l u∧rM l u≤B:=by
 unfold rM;cases q:l.find? (λ x=>x.bM==u) with
 | none=>exact ⟨Int.le_refl _,hB⟩
 | some x=>
  have:=h x (List.mem_of_find?_eq_some q);have:=h2 x (List.mem_of_find?_eq_some q);exact ⟨by show 0≤x.dA+1; omega,by show x.dA+1≤B; omega⟩
theorem ZJ.ap (hg:ZJ g) (h:ApW g w g'):ZJ g':=by
 have hset:∀ {l:List Int} {i:Nat} {v:Int},(∀x∈l,0≤x∧x≤4611686018427387904)→(0≤v∧v≤4611686018427387904)→∀x∈l.set i v,0≤x∧x≤4611686018427387904:=λ hl hv x hx=>by
  rcases List.mem_or_eq_of_mem_set hx with q | rfl
  ·exact hl x q
  ·exact hv
 cases h with
 | k1 k u0 u1 v0=>exact ⟨hg.gp,hset hg.st v0,hg.lv,hg.fn,hg.fb⟩
 | k2 k u0 u1 v0=>exact ⟨hg.gp,hg.st,hset hg.lv v0,hg.fn,hg.fb⟩
 | k3 | k11 | k12=>exact ⟨hg.gp,hg.st,hg.lv,hg.fn,hg.fb⟩
 | k10 k u0 u1 v0=>
  refine ⟨?_,hg.st,hg.lv,?_,?_⟩
  ·have:=aqL (u:=w.Unit) (sJ.1 hg.gp);rw [sJ];show ((Et w.Unit w.Value (yL w.Unit g.Uses)).map au.iB |>.map gM.bM).Nodup;rw [Aw hg.gp];exact aqM this.1 this.2
  ·show ∀u∈(Et w.Unit w.Value (yL w.Unit g.Uses)).map au.iB,0≤u.dA;rw [Aw hg.gp];intro u hu;unfold adU at hu;split at hu
   ·rcases List.mem_append.1 hu with hu | hu
    ·exact hg.fn u (List.mem_filter.1 hu).1
    ·simp at hu; subst hu; show 0≤w.Value - 1; omega
   ·exact hg.fn u (List.mem_filter.1 hu).1
  ·show ∀u∈(Et w.Unit w.Value (yL w.Unit g.Uses)).map au.iB,u.dA<4611686018427387904;rw [Aw hg.gp];intro u hu;unfold adU at hu;split at hu
   ·rcases List.mem_append.1 hu with hu | hu
    ·exact hg.fb u (List.mem_filter.1 hu).1
    ·simp at hu; subst hu; show w.Value - 1<4611686018427387904; omega
   ·exact hg.fb u (List.mem_filter.1 hu).1
theorem ama (hg:ZJ g) (h:ApW g w g'):∃g'',ApW g' (YN g w) g''∧Eqv g'' g:=by
 have hg':=hg.ap h;cases h with
 | k1 k u0 u1 v0=>
  have e:rC g w=g.Setting.getD w.Unit.toNat 0:=by unfold rC; rw [if_pos k]
  refine ⟨_,.k1 (w:=YN g w) k u0 (by rw [List.length_set]; exact u1) (by show 0≤rC g w∧rC g w≤4611686018427387904; rw [e]; exact agb hg.st _),⟨?_,rfl,rfl,rfl,rfl,.refl _⟩⟩;show (g.Setting.set w.Unit.toNat w.Value).set w.Unit.toNat (rC g w)=_;rw [e]; exact LW om
 | k2 k u0 u1 v0=>
  have e:rC g w=g.aY.bC.getD w.Unit.toNat 0:=by unfold rC; rw [if_neg om,if_pos k]
  refine ⟨_,.k2 (w:=YN g w) k u0 (by rw [List.length_set]; exact u1) (by show 0≤rC g w∧rC g w≤4611686018427387904; rw [e]; exact agb hg.lv _),⟨rfl,rfl,?_,rfl,rfl,.refl _⟩⟩;show (g.aY.bC.set w.Unit.toNat w.Value).set w.Unit.toNat (rC g w)=_;rw [e]; exact LW om
 | k3 k u0 u1 v0 v1=>
  have e:rC g w=YM (g.aY.On.getD w.Unit.toNat false):=by unfold rC; rw [if_neg om,if_neg om,if_pos k]
  refine ⟨_,.k3 (w:=YN g w) k u0 (by rw [List.length_set]; exact u1) (by show 0≤rC g w; rw [e]; exact (Sq _).1) (by show rC g w≤1; rw [e]; exact (Sq _).2),⟨rfl,?_,rfl,rfl,rfl,.refl _⟩⟩;show (g.aY.On.set w.Unit.toNat (w.Value==1)).set w.Unit.toNat (rC g w==1)=_;rw [e,ae5]; exact LW om
 | k11 k u0 u1 v0 v1=>
  have e:rC g w=YM (g.Released.getD w.Unit.toNat false):=by unfold rC; rw [if_neg om,if_neg om,if_neg om,if_pos k]
  refine ⟨_,.k11 (w:=YN g w) k u0 (by rw [List.length_set]; exact u1) (by show 0≤rC g w; rw [e]; exact (Sq _).1) (by show rC g w≤1; rw [e]; exact (Sq _).2),⟨rfl,rfl,rfl,?_,rfl,.refl _⟩⟩;show (g.Released.set w.Unit.toNat (w.Value==1)).set w.Unit.toNat (rC g w==1)=_;rw [e,ae5]; exact LW om
 | k12 k u0 u1 v0 v1=>
  have e:rC g w=YM (g.bq.getD w.Unit.toNat false):=by unfold rC; rw [if_neg om,if_neg om,if_neg om,if_neg om,if_pos k]
  refine ⟨_,.k12 (w:=YN g w) k u0 (by rw [List.length_set]; exact u1) (by show 0≤rC g w; rw [e]; exact (Sq _).1) (by show rC g w≤1; rw [e]; exact (Sq _).2),⟨rfl,rfl,rfl,rfl,?_,.refl _⟩⟩;show (g.bq.set w.Unit.toNat (w.Value==1)).set w.Unit.toNat (rC g w==1)=_;rw [e,ae5]; exact LW om
 | k10 k u0 u1 v0=>
  have e:rC g w=rM (g.Uses.map au.iB) w.Unit:=by unfold rC; rw [if_neg om,if_neg om,if_neg om,if_neg om,if_neg om]
  refine ⟨_,.k10 (w:=YN g w) k u0 u1 (by show 0≤rC g w∧rC g w≤4611686018427387904; rw [e]; exact amY hg.fn hg.fb (by decide) _),⟨rfl,rfl,rfl,rfl,rfl,?_⟩⟩;show ((Et w.Unit (rC g w) (yL w.Unit (Et w.Unit w.Value (yL w.Unit g.Uses)))).map au.iB).Perm _;rw [Aw (g:={ g with Uses:=Et w.Unit w.Value (yL w.Unit g.Uses) }) hg'.gp,e,Aw hg.gp];exact akn (sJ.1 hg.gp) hg.fn _ _
theorem amb {l m:List gM} (h:l.Perm m):(Sn u l).Perm (Sn u m):=h.filter _
theorem amc {v:Int} {l m:List gM} (h:l.Perm m):(adU u v l).Perm (adU u v m):=by
 unfold adU;split
 ·exact h.append_right _
 ·exact h
theorem ZJ.eqv (hg:ZJ g) (e:Eqv g h):ZJ h where
 gp:=sJ.2 ((e.us.map _).nodup_iff.1 (sJ.1 hg.gp))
 st:=by rw [← e.st]; exact hg.st
 lv:=by rw [← e.lv]; exact hg.lv
 fn:=λ u hu=>hg.fn u (e.us.mem_iff.2 hu)
 fb:=λ u hu=>hg.fb u (e.us.mem_iff.2 hu)
theorem aoR (hg:ZJ g) (e:Eqv g h) (a:ApW g w g'):∃h',ApW h w h'∧Eqv g' h':=by
 have hh:=hg.eqv e;obtain ⟨e1,e2,e3,e4,e5,e6⟩:=e;cases a with
 | k1 k u0 u1 v0=>exact ⟨_,.k1 k u0 (by rw [← e1]; exact u1) v0,⟨by dsimp only; rw [e1],e2,e3,e4,e5,e6⟩⟩
 | k2 k u0 u1 v0=>exact ⟨_,.k2 k u0 (by rw [← e3]; exact u1) v0,⟨e1,e2,by dsimp only; rw [e3],e4,e5,e6⟩⟩
 | k3 k u0 u1 v0 v1=>exact ⟨_,.k3 k u0 (by rw [← e2]; exact u1) v0 v1,⟨e1,by dsimp only; rw [e2],e3,e4,e5,e6⟩⟩
 | k11 k u0 u1 v0 v1=>exact ⟨_,.k11 k u0 (by rw [← e4]; exact u1) v0 v1,⟨e1,e2,e3,by dsimp only; rw [e4],e5,e6⟩⟩
 | k12 k u0 u1 v0 v1=>exact ⟨_,.k12 k u0 (by rw [← e5]; exact u1) v0 v1,⟨e1,e2,e3,e4,by dsimp only; rw [e5],e6⟩⟩
 | k10 k u0 u1 v0=>exact ⟨_,.k10 k u0 u1 v0,⟨e1,e2,e3,e4,e5,by
   show ((Et w.Unit w.Value (yL w.Unit g.Uses)).map au.iB).Perm ((Et w.Unit w.Value (yL w.Unit h.Uses)).map au.iB);rw [Aw hg.gp,Aw hh.gp];exact amc (amb e6)⟩⟩
inductive DF:aF→List aD→aF→Prop
 | nil (g:aF):DF g [] g
 | cons {g g1 h:aF} {w:aD} {ws:List aD} (a:ApW g w g1) (b:DF g1 ws h):DF g (w::ws) h
theorem DF.app {k:aF} {u v:List aD} (a:DF g u h) (b:DF h v k):DF g (u++v) k:=by
 induction a with
 | nil=>exact b
 | cons a _ ih=>exact .cons a (ih b)
theorem DF.one (a:ApW g w h):DF g [w] h:=.cons a (.nil _)
theorem ZJ.apL {ws:List aD} (hg:ZJ g) (a:DF g ws h):ZJ h:=by
 induction a with
 | nil=>exact hg
 | cons a _ ih=>exact ih (hg.ap a)
def LY:aF→List aD→List aD
 | _,[]=>[]
 | g,w::ws=>LY (jA w g).2 ws++[YN g w]
theorem ako {ws:List aD} (hg:ZJ g) (a:DF g ws h):∃k,DF h (LY g ws) k∧Eqv k g:=by
 induction a with
 | nil g=>exact ⟨g,.nil _,.refl _⟩
 | @cons g g1 h w ws a b ih=>
  have hg1:=hg.ap a;obtain ⟨k1,q1,q2⟩:=ih hg1;obtain ⟨g2,q3,q4⟩:=ama hg a;obtain ⟨k2,q5,q6⟩:=aoR hg1 q2.symm q3;have e:LY g (w::ws)=LY g1 ws++[YN g w]:=by
   show LY (jA w g).2 ws++_=_;rw [aga a]
  refine ⟨k2,?_,q6.symm.trans q4⟩;rw [e];exact q1.app (.one q5)
theorem akp (ws:List aD):∀g,(LY g ws).length=ws.length:=by
 induction ws with
 | nil=>intro g; rfl
 | cons w ws ih=>intro g; show (LY _ ws++_).length=_; rw [List.length_append,ih]; rfl
theorem ahw {k:aF} {u v:List aD} (a:DF g (u++v) k):∃h,DF g u h∧DF h v k:=by
 induction u generalizing g with
 | nil=>exact ⟨g,.nil _,a⟩
 | cons w u ih=>
  cases a with
  | cons a b=>
   obtain ⟨h,h1,h2⟩:=ih b;exact ⟨h,.cons a h1,h2⟩
structure Ro (n:Nat) (P:Nat→Bool) (l:List Bool):Prop where
 len:l.length=n
 at_:∀j,j<n→l.getD j false=P j
variable {n:Nat} {P:Nat→Bool} {l:List Bool}
theorem Ro.ext {Q:Nat→Bool} {m:List Bool} (h:Ro n P l) (k:Ro n Q m) (e:∀j,j<n→P j=Q j):l=m:=by
 refine List.ext_getElem (by rw [h.len,k.len]) λ j h1 h2=>?_;have a:=h.at_ j (by rw [← h.len]; exact h1);have b:=k.at_ j (by rw [← k.len]; exact h2);rw [List.getD_eq_getElem?_getD,List.getElem?_eq_getElem h1,Option.getD_some] at a;rw [List.getD_eq_getElem?_getD,List.getElem?_eq_getElem h2,Option.getD_some] at b;rw [a,b];exact e j (by rw [← h.len]; exact h1)
theorem Ro.set (h:Ro n P l) {i:Nat} (hi:i<n) (v:Bool):Ro n (λ j=>if j=i then v else P j) (l.set i v):=by
 refine ⟨by rw [List.length_set]; exact h.len,λ j hj=>?_⟩;rw [List.getD_eq_getElem?_getD,List.getElem?_set];by_cases e:j=i
 ·subst e;rw [if_pos rfl,if_pos rfl,if_pos (by rw [h.len]; exact hi)]; rfl
 ·rw [if_neg (λ k=>e k.symm),if_neg e,← List.getD_eq_getElem?_getD];exact h.at_ j hj
theorem Ro.OV {Q:Nat→Bool} (h:Ro n P l) (e:∀j,j<n→P j=Q j):Ro n Q l:=⟨h.len,λ j hj=>(h.at_ j hj).trans (e j hj)⟩
def M8 (f t:List Bool) (i:Int) (j:Nat):Bool:=if i<j then f.getD j false&&t.getD j false else f.getD j false
def onP (f t:List Bool) (i:Int) (j:Nat):Bool:=if (j:Int)<i then t.getD j false else f.getD j false&&t.getD j false
variable {f:List Bool} {t:List Bool} {i:Int}
theorem XL (h:Ro n (M8 f t i) l) (h0:0≤i) (h1:i<n) (c:(f.getD i.toNat false&&!t.getD i.toNat false)=true):Ro n (M8 f t (i - 1)) (l.set i.toNat ((0:Int)==1)):=by
 refine (h.set (i:=i.toNat) om _).OV λ j hj=>?_;simp only [Bool.and_eq_true,Bool.not_eq_true'] at c;unfold M8;by_cases e:j=i.toNat
 ·subst e;rw [if_pos rfl,if_pos om,c.1,c.2]; rfl
 ·rw [if_neg e];by_cases q:i<j
  ·rw [if_pos q,if_pos om]
  ·rw [if_neg q,if_neg om]
theorem XM (h:Ro n (M8 f t i) l) (h0:0≤i) (c:(f.getD i.toNat false&&!t.getD i.toNat false)=false):Ro n (M8 f t (i - 1)) l:=by
 refine h.OV λ j hj=>?_;unfold M8;by_cases q:i<j
 ·rw [if_pos q,if_pos om]
 ·rw [if_neg q];by_cases e:j=i.toNat
  ·subst e;rw [if_pos om];revert c;cases f.getD i.toNat false<;>cases t.getD i.toNat false<;>simp
  ·rw [if_neg om]
theorem agc (h:Ro n (onP f t i) l) (h0:0≤i) (h1:i<n) (c:(t.getD i.toNat false&&!f.getD i.toNat false)=true):Ro n (onP f t (i+1)) (l.set i.toNat ((1:Int)==1)):=by
 refine (h.set (i:=i.toNat) om _).OV λ j hj=>?_;simp only [Bool.and_eq_true,Bool.not_eq_true'] at c;unfold onP;by_cases e:j=i.toNat
 ·subst e;rw [if_pos rfl,if_pos om,c.1]; rfl
 ·rw [if_neg e];by_cases q:(j:Int)<i
  ·rw [if_pos q,if_pos om]
  ·rw [if_neg q,if_neg om]
theorem agd (h:Ro n (onP f t i) l) (h0:0≤i) (c:(t.getD i.toNat false&&!f.getD i.toNat false)=false):Ro n (onP f t (i+1)) l:=by
 refine h.OV λ j hj=>?_;unfold onP;by_cases q:(j:Int)<i
 ·rw [if_pos q,if_pos om]
 ·rw [if_neg q];by_cases e:j=i.toNat
  ·subst e;rw [if_pos om];revert c;cases f.getD i.toNat false<;>cases t.getD i.toNat false<;>simp
  ·rw [if_neg om]
theorem ZL:Ro f.length (M8 f t (f.length - 1)) f:=⟨rfl,λ j hj=>by unfold M8; rw [if_neg om]⟩
theorem akq (h:Ro n (M8 f t i) l) (hi:i<0):Ro n (onP f t 0) l:=h.OV λ j _=>by unfold M8 onP; rw [if_pos om,if_neg om]
theorem akr (h:Ro n (onP f t i) l) (hi:(n:Int)≤i) (ht:t.length=n):l=t:=
 h.ext (Q:=λ j=>t.getD j false) ⟨ht,λ _ _=>rfl⟩ λ j hj=>by unfold onP; rw [if_pos om]
theorem YO {l_:List dG} {from_ dQ:List Bool} (hl:l_.length≤2000000) (hf:from_.length=l_.length) (ht:dQ.length=l_.length):W (Hg l_ from_ dQ) (λ r=>DmA l_ 0→RgP l_ from_→RgP l_ dQ→r.1.length≤2*l_.length∧∀g:aF,g.bq=from_→DF g r.1 { g with bq:=dQ }):=by
 unfold Hg;refine aL vR λ v1 hv1=>?_;refine cO ?_ ?_<;>intro c1
 ·have c1:=fA c1;exact aK λ h0 _ _=>absurd (DmA.fun _ _ hv1 h0) c1
 refine aL BO λ v2 hv2=>?_;refine aL (pq λ _=>BO) λ v3 hv3=>?_;refine cO ?_ ?_<;>intro c2
 ·have c2:=fA c2;refine aK λ h0 h1 h2=>?_;have e2:=hv2.2 ⟨h0,h1⟩;have e3:=(hv3 (by rw [e2]; rfl)).2 ⟨h0,h2⟩;rcases c2 with c2 | c2
  ·rw [e2] at c2; cases c2
  ·rw [e3] at c2; cases c2
 refine wn<|cu (λ g1:Int×List aD => -1≤g1.1∧g1.1<l_.length∧(g1.2.length:Int)+g1.1+1≤l_.length∧∀g:aF,g.bq=from_→∃L,Ro from_.length (M8 from_ dQ g1.1) L∧DF g g1.2 { g with bq:=L }) (λ g1=>(g1.1+1).toNat) ?_ ⟨ob,ob,by simp,λ g e=>⟨from_,by rw [← hf]; exact ZL,by rw [← e]; exact .nil _⟩⟩;intro ah g1 ⟨a1,a2,a3,a4⟩ ih1;unfold NZ;refine wi ?_ ?_<;>intro c3
 ·refine wm<|cO ?_ ?_<;>intro c4
  ·refine bK (by unfold big; omega) ?_;refine wn<|ih1 _ ⟨ob,ob,by dsimp only; rw [List.length_append,List.length_singleton]; omega,λ g e=>?_⟩ ob;obtain ⟨L,q1,q2⟩:=a4 g e;refine ⟨_,XL q1 c3 (by rw [hf]; omega) c4,q2.app (.one ?_)⟩;exact .k12 rfl c3 (by show g1.1<(L.length:Int); rw [q1.len,hf]; omega) (by dsimp only; decide) (by dsimp only; decide)
  ·refine wn<|ih1 _ ⟨ob,ob,by dsimp only; omega,λ g e=>?_⟩ ob;obtain ⟨L,q1,q2⟩:=a4 g e;exact ⟨L,XM q1 c3 c4,q2⟩
 ·refine cu (λ g2:Int×List aD=>0≤g2.1∧g2.1≤l_.length∧(g2.2.length:Int)≤l_.length+g2.1∧∀g:aF,g.bq=from_→∃L,Ro from_.length (onP from_ dQ g2.1) L∧DF g g2.2 { g with bq:=L }) (λ g2=>(l_.length - g2.1).toNat) ?_ ⟨ob,ob,by dsimp only; omega,λ g e=>by obtain ⟨L,q1,q2⟩:=a4 g e; exact ⟨L,akq q1 om,q2⟩⟩;intro dR g2 ⟨b1,b2,b3,b4⟩ ih2;unfold Lh;refine cO ?_ ?_<;>intro c4
  ·have c4:=fA c4;refine wm<|cO ?_ ?_<;>intro c5
   ·refine bK (by unfold big; omega) ?_;refine wn<|ih2 _ ⟨ob,ob,by dsimp only; rw [List.length_append,List.length_singleton]; omega,λ g e=>?_⟩ ob;obtain ⟨L,q1,q2⟩:=b4 g e;refine ⟨_,agc q1 b1 (by rw [hf]; omega) c5,q2.app (.one ?_)⟩;exact .k12 rfl b1 (by show g2.1<(L.length:Int); rw [q1.len,hf]; omega) (by dsimp only; decide) (by dsimp only; decide)
   ·refine wn<|ih2 _ ⟨ob,ob,by dsimp only; omega,λ g e=>?_⟩ ob;obtain ⟨L,q1,q2⟩:=b4 g e;exact ⟨L,agd q1 b1 c5,q2⟩
  ·have c4:=fA c4;refine aK λ _ _ _=>⟨by dsimp only; omega,λ g e=>?_⟩;obtain ⟨L,q1,q2⟩:=b4 g e;have:=akr q1 (by rw [hf]; omega) om;subst this;exact q2
structure U2 {α:Type} (d:α) (n:Nat) (P:Nat→α) (l:List α):Prop where
 len:l.length=n
 at_:∀j,j<n→l.getD j d=P j
theorem U2.ext {d:α} {P Q:Nat→α} {l m:List α} (h:U2 d n P l) (k:U2 d n Q m) (e:∀j,j<n→P j=Q j):l=m:=by
 refine List.ext_getElem (by rw [h.len,k.len]) λ j h1 h2=>?_;have a:=h.at_ j (by rw [← h.len]; exact h1);have b:=k.at_ j (by rw [← k.len]; exact h2);rw [List.getD_eq_getElem?_getD,List.getElem?_eq_getElem h1,Option.getD_some] at a;rw [List.getD_eq_getElem?_getD,List.getElem?_eq_getElem h2,Option.getD_some] at b;rw [a,b];exact e j (by rw [← h.len]; exact h1)
theorem U2.set {d:α} {P:Nat→α} {l:List α} (h:U2 d n P l) {i:Nat} (hi:i<n) (v:α):U2 d n (λ j=>if j=i then v else P j) (l.set i v):=by
 refine ⟨by rw [List.length_set]; exact h.len,λ j hj=>?_⟩;rw [List.getD_eq_getElem?_getD,List.getElem?_set];by_cases e:j=i
 ·subst e;rw [if_pos rfl,if_pos rfl,if_pos (by rw [h.len]; exact hi)]; rfl
 ·rw [if_neg (λ k=>e k.symm),if_neg e,← List.getD_eq_getElem?_getD];exact h.at_ j hj
theorem U2.OV {d:α} {P Q:Nat→α} {l:List α} (h:U2 d n P l) (e:∀j,j<n→P j=Q j):U2 d n Q l:=⟨h.len,λ j hj=>(h.at_ j hj).trans (e j hj)⟩
theorem U2.self {d:α} (l:List α):U2 d l.length (λ j=>l.getD j d) l:=⟨rfl,λ _ _=>rfl⟩
def jnO (a b:aW) (j:Nat):Bool:=a.On.getD j false||b.On.getD j false
def jnL (a b:aW) (j:Nat):Int:=if a.On.getD j false=true then (if b.On.getD j false=true then (if b.bC.getD j 0 > a.bC.getD j 0 then b.bC.getD j 0 else a.bC.getD j 0) else a.bC.getD j 0) else b.bC.getD j 0
theorem YP {a_ b_:aW} (hn:n≤2000000) (a1:a_.On.length=n) (a2:a_.bC.length=n) (b1:b_.On.length=n) (b2:b_.bC.length=n):W (G8 a_ b_) (λ r=>U2 false n (jnO a_ b_) r.On∧U2 0 n (jnL a_ b_) r.bC):=by
 unfold G8;refine aL (m:=nT b_) (P:=λ r=>r=(b_.On,b_.bC)) (by unfold nT; exact bK (by unfold big; omega) (bK (by unfold big; omega) (aK (by simp)))) λ v1 hv1=>?_;subst hv1;refine cu (λ g1:Int×List Bool×List Int=>0≤g1.1∧g1.1≤n∧U2 false n (λ j=>if (j:Int)<g1.1 then jnO a_ b_ j else b_.On.getD j false) g1.2.1∧U2 0 n (λ j=>if (j:Int)<g1.1 then jnL a_ b_ j else b_.bC.getD j 0) g1.2.2) (λ g1=>(n - g1.1).toNat) ?_ ⟨ob,ob,⟨b1,λ j _=>by rw [if_neg (by dsimp only; omega)]⟩,⟨b2,λ j _=>by rw [if_neg (by dsimp only; omega)]⟩⟩;intro ah g1 ⟨c1,c2,c3,c4⟩ ih1;have hk:∀(L:List Int),g1.1<n→U2 0 n (λ j=>if (j:Int)<g1.1+1 then jnL a_ b_ j else b_.bC.getD j 0) L→W (oW a_ b_ g1 ah L) (λ r=>U2 false n (jnO a_ b_) r.On∧U2 0 n (jnL a_ b_) r.bC):=λ L hlt hL=>by
  have q:=c3.len;unfold oW;refine wm<|wm ?_;refine ih1 _ ⟨ob,ob,(c3.set (i:=g1.1.toNat) om _).OV λ j hj=>?_,hL⟩ ob;by_cases e:j=g1.1.toNat
  ·subst e; rw [if_pos rfl,if_pos (by dsimp only; omega)]; rfl
  ·rw [if_neg e];by_cases q:(j:Int)<g1.1
   ·rw [if_pos q,if_pos (by dsimp only; omega)]
   ·rw [if_neg q,if_neg (by dsimp only; omega)]
 have hst:∀v:Int,0≤g1.1→g1.1<n→v=jnL a_ b_ g1.1.toNat→U2 0 n (λ j=>if (j:Int)<g1.1+1 then jnL a_ b_ j else b_.bC.getD j 0) (g1.2.2.set g1.1.toNat v):=λ v h0 hlt hv=>
  (c4.set (i:=g1.1.toNat) om v).OV λ j hj=>by
   by_cases e:j=g1.1.toNat
   ·subst e; rw [if_pos rfl,if_pos om]; exact hv
   ·rw [if_neg e]
    by_cases q:(j:Int)<g1.1
    ·rw [if_pos q,if_pos om]
    ·rw [if_neg q,if_neg om]
 have q4:=c4.len;unfold NT;refine wi ?_ ?_<;>intro d1
 ·refine wm<|cO ?_ ?_<;>intro d2
  ·simp only [Bool.and_eq_true] at d2;refine wm<|wn ?_;exact hk _ om (hst _ c1 om (by unfold jnL; rw [if_pos d2.1,if_pos d2.2]))
  ·refine wn<|cO ?_ ?_<;>intro d3
   ·refine wm ?_;have d4:¬ b_.On.getD g1.1.toNat false=true:=λ h=>by rw [d3,h] at d2; cases d2
    exact hk _ om (hst _ c1 om (by unfold jnL; rw [if_pos d3,if_neg d4]))
   ·refine hk _ om (c4.OV λ j hj=>?_);by_cases q:(j:Int)<g1.1
    ·rw [if_pos q,if_pos om]
    ·rw [if_neg q];by_cases e:j=g1.1.toNat
     ·subst e;rw [if_pos om]; unfold jnL; rw [if_neg (by rw [d3]; exact Bool.false_ne_true)]
     ·rw [if_neg om]
 ·exact aK ⟨c3.OV λ j hj=>if_pos om,c4.OV λ j hj=>if_pos om⟩
def lvP (f t:List Int) (i:Int) (j:Nat):Int:=if i<j then t.getD j 0 else f.getD j 0
theorem YQ {l_:List aC} {from_ dQ:aW} {d_:List bU} (hl:l_.length≤2000000) (h1:from_.bC.length≤2000000) (h2:dQ.bC.length≤2000000) (h3:d_.length≤2000000):W (G9 l_ from_ dQ d_) (λ r=>r.1.length≤4*l_.length∧(r.2=0→∀g:aF,g.aY=from_→DF g r.1 { g with aY:=dQ })):=by
 unfold G9;refine aL (Sp.sj hl) λ v1 hv1=>?_;refine cO ?_ ?_<;>intro c1
 ·have c1:=fA c1;exact aK ⟨by simp,λ e=>absurd e c1⟩
 have c1:=fA c1;refine aL (Sp.BS hl h1) λ v2 hv2=>?_;refine aL (pq λ _=>Sp.BS hl h2) λ v3 hv3=>?_;refine aL (pq λ _=>Sp.Ev hl h3) λ v4 hv4=>?_;refine cO (λ c2=>aK ⟨by simp,nofun⟩) (λ c2=>?_);refine aL (BU hl h3 h1) λ v5 hv5=>?_;refine aL (pq λ _=>BU hl h3 h2) λ v6 hv6=>?_;refine cO (λ c3=>aK ⟨by simp,nofun⟩) (λ c3=>?_);have e2:v2=true:=by cases v2<;>simp_all
 have e3:v3=true:=by cases v3<;>simp_all
 have rl:∀r:aW,Sp.tN l_ r=true→r.On.length=l_.length∧r.bC.length=l_.length∧∀j,0≤r.bC.getD j 0∧r.bC.getD j 0≤16:=λ r h=>by
  have hcb:=(Sp.Ao (l:=l_) om).2.1;unfold Sp.tN at h;cases q:(((Sp.fq l_ != 0)||((r.On.length:Int) != l_.length))||((r.bC.length:Int) != l_.length)) with
  | true=>rw [q] at h; cases h
  | false=>
   rw [q] at h;simp only [Bool.or_eq_false_iff,bne_eq_false_iff_eq] at q;have hl2:r.bC.length=l_.length:=by omega
   refine ⟨om,hl2,λ j=>?_⟩;by_cases hj:j<l_.length
   ·have h1:=(Sp.aa3 hl2).1 h j hj;have h2:=hcb j hj;omega
   ·rw [List.getD_eq_getElem?_getD,List.getElem?_eq_none om]; exact ⟨Int.le_refl _,by decide⟩
 obtain ⟨f1,f2,f3⟩:=rl from_ (by rw [← hv2]; exact e2);obtain ⟨t1,t2,t3⟩:=rl dQ (by rw [← hv3 (by rw [e2]; rfl)]; exact e3);refine aL (YP hl f1 f2 t1 t2) λ v7 ⟨jo,jl⟩=>?_;have awX:=jo.len; have avG:=jl.len;have jnn:∀j,j<l_.length→0≤v7.bC.getD j 0∧v7.bC.getD j 0≤4611686018427387904:=λ j hj=>by
  rw [jl.at_ j hj];unfold jnL;have:=f3 j; have:=t3 j;split
  ·split
   ·split<;>omega
   ·omega
  ·omega
 refine aL (m:=nT from_) (P:=λ r=>r=(from_.On,from_.bC)) (by unfold nT; exact bK (by unfold big; omega) (bK (by unfold big; omega) (aK (by simp)))) λ v8 vZ=>?_;subst vZ;refine cu (λ g1:Int×List aD×List Bool×List Int=>0≤g1.1∧g1.1≤l_.length∧(g1.2.1.length:Int)≤2*g1.1∧g1.2.2.1.length=l_.length∧g1.2.2.2.length=l_.length∧(∀j:Nat,(j:Int)<g1.1→dQ.On.getD j false=true→g1.2.2.1.getD j false=true)∧
  ∀g:aF,g.aY=from_→DF g g1.2.1 { g with aY:=⟨g1.2.2.1,g1.2.2.2⟩ }) (λ g1=>(l_.length - g1.1).toNat) ?_ ⟨ob,ob,by simp,f1,f2,λ j h=>by dsimp only at h; omega,λ g e=>by dsimp only; rw [← e]; exact .nil _⟩
 intro ah g1 ⟨a1,a2,a3,a4,a5,a6,a7⟩ ih1;unfold Ld;refine wi ?_ ?_<;>intro c4
 ·have hlt:g1.1.toNat<l_.length:=by omega
  have jOi:=jo.at_ _ hlt;refine wn<|cO ?_ ?_<;>intro c5
  ·refine wn<|ih1 _ ⟨ob,ob,by dsimp only; omega,a4,a5,λ j hj ht=>?_,a7⟩ ob;dsimp only at hj;by_cases e:j=g1.1.toNat
   ·subst e;rw [jOi] at c5; unfold jnO at c5; rw [ht] at c5; simp at c5
   ·exact a6 j om ht
  ·have hk:∀(o:List aD) (L:List Int),(o.length:Int)≤2*g1.1+1→L.length=l_.length→(∀g:aF,g.aY=from_→DF g o { g with aY:=⟨g1.2.2.1,L⟩ })→W (qj g1 ah (o,L)) (λ r=>r.1.length≤4*l_.length∧(r.2=0→∀g:aF,g.aY=from_→DF g r.1 { g with aY:=dQ })):=λ o L ho hL ha=>by
    unfold qj;dsimp only;refine wn<|cO ?_ ?_<;>intro c6
    ·refine bK (by unfold big; omega) ?_;refine wm<|ih1 _ ⟨ob,ob,by dsimp only; rw [List.length_append,List.length_singleton]; omega,by dsimp only; rw [List.length_set]; exact a4,hL,λ j hj ht=>?_,λ g e=>(ha g e).app (.one ?_)⟩ ob
     ·dsimp only at hj ⊢;rw [List.getD_eq_getElem?_getD,List.getElem?_set];by_cases q:g1.1.toNat=j
      ·rw [if_pos q,if_pos om]; rfl
      ·rw [if_neg q,← List.getD_eq_getElem?_getD]; exact a6 j om ht
     ·exact .k3 rfl a1 (by dsimp only; omega) (by dsimp only; decide) (by dsimp only; decide)
    ·refine wn ?_;have c7:g1.2.2.1.getD g1.1.toNat false=true:=by simpa using c6
     refine ih1 _ ⟨ob,ob,by dsimp only; omega,a4,hL,λ j hj ht=>?_,ha⟩ ob;dsimp only at hj ⊢;by_cases e:j=g1.1.toNat
     ·subst e; exact c7
     ·exact a6 j om ht
   refine wm<|cO ?_ ?_<;>intro c6
   ·refine wn<|bK (by unfold big; omega) ?_;refine wm<|hk _ _ (by rw [List.length_append,List.length_singleton]; omega) (by rw [List.length_set]; exact a5) λ g e=>(a7 g e).app (.one ?_);exact .k2 rfl a1 (by dsimp only; omega) (jnn _ hlt)
   ·exact hk _ _ om a5 a7
 ·refine wn<|cu (λ g5:Int×List aD => -1≤g5.1∧g5.1<l_.length∧(g5.2.length:Int)+2*g5.1+2≤4*l_.length∧∀g:aF,g.aY=from_→∃O L,U2 false l_.length (M8 g1.2.2.1 dQ.On g5.1) O∧U2 0 l_.length (lvP g1.2.2.2 dQ.bC g5.1) L∧DF g g5.2 { g with aY:=⟨O,L⟩ }) (λ g5=>(g5.1+1).toNat) ?_ ⟨ob,ob,by dsimp only; omega,λ g e=>⟨_,_,⟨a4,λ j hj=>by unfold M8; rw [if_neg (by dsimp only; omega)]⟩,⟨a5,λ j hj=>by unfold lvP; rw [if_neg (by dsimp only; omega)]⟩,a7 g e⟩⟩;intro jP g5 ⟨b1,b2,b3,b4⟩ ih5;unfold Lc;refine cO ?_ ?_<;>intro c5
  ·have c5:=fA c5;have hlt:g5.1.toNat<l_.length:=by omega
   have hk:∀o:List aD,(o.length:Int)+2*g5.1+1≤4*l_.length→(∀g:aF,g.aY=from_→∃O L,U2 false l_.length (M8 g1.2.2.1 dQ.On (g5.1 - 1)) O∧U2 0 l_.length (lvP g1.2.2.2 dQ.bC g5.1) L∧DF g o { g with aY:=⟨O,L⟩ })→W (ql dQ g1 g5 jP o) (λ r=>r.1.length≤4*l_.length∧(r.2=0→∀g:aF,g.aY=from_→DF g r.1 { g with aY:=dQ })):=λ o ho ha=>by
    unfold ql;refine wm<|cO ?_ ?_<;>intro c6
    ·refine wn<|bK (by unfold big; omega) ?_;refine wn<|ih5 _ ⟨ob,ob,by dsimp only; rw [List.length_append,List.length_singleton]; omega,λ g e=>?_⟩ ob;obtain ⟨O,L,q1,q2,q3⟩:=ha g e;refine ⟨O,_,q1,(q2.set (i:=g5.1.toNat) hlt _).OV λ j hj=>?_,q3.app (.one (.k2 rfl c5 (by dsimp only; rw [q2.len]; omega) (by have:=t3 g5.1.toNat; dsimp only; omega)))⟩;unfold lvP;by_cases e:j=g5.1.toNat
     ·subst e; rw [if_pos rfl,if_pos om]
     ·rw [if_neg e];by_cases q:g5.1<j
      ·rw [if_pos q,if_pos om]
      ·rw [if_neg q,if_neg om]
    ·refine wn ?_;have c6:=fA c6;refine ih5 _ ⟨ob,ob,by dsimp only; omega,λ g e=>?_⟩ ob;obtain ⟨O,L,q1,q2,q3⟩:=ha g e;refine ⟨O,L,q1,q2.OV λ j hj=>?_,q3⟩;unfold lvP;by_cases e:j=g5.1.toNat
     ·subst e; rw [if_neg om,if_pos om]; exact c6
     ·by_cases q:g5.1<j
      ·rw [if_pos q,if_pos om]
      ·rw [if_neg q,if_neg om]
   refine wm<|cO ?_ ?_<;>intro c6
   ·refine bK (by unfold big; omega) ?_;refine hk _ (by rw [List.length_append,List.length_singleton]; omega) λ g e=>?_;obtain ⟨O,L,q1,q2,q3⟩:=b4 g e;have q4:=XL ⟨q1.len,q1.at_⟩ c5 om c6;exact ⟨_,L,⟨q4.len,q4.at_⟩,q2,q3.app (.one (.k3 rfl c5 (by dsimp only; rw [q1.len]; omega) (by dsimp only; decide) (by dsimp only; decide)))⟩
   ·refine hk _ om λ g e=>?_;obtain ⟨O,L,q1,q2,q3⟩:=b4 g e;have q4:=XM ⟨q1.len,q1.at_⟩ c5 c6;exact ⟨O,L,⟨q4.len,q4.at_⟩,q2,q3⟩
  ·have c5:=fA c5;refine aK ⟨by dsimp only; omega,λ _ g e=>?_⟩;obtain ⟨O,L,q1,q2,q3⟩:=b4 g e;have eO:O=dQ.On:=q1.ext (Q:=λ j=>dQ.On.getD j false) ⟨t1,λ _ _=>rfl⟩ λ j hj=>by
    unfold M8;rw [if_pos om];cases ht:dQ.On.getD j false with
    | false=>simp
    | true=>rw [a6 j om ht]; rfl
   have eL:L=dQ.bC:=q2.ext (Q:=λ j=>dQ.bC.getD j 0) ⟨t2,λ _ _=>rfl⟩ λ j hj=>by
    unfold lvP;rw [if_pos om]
   subst eO;subst eL;exact q3
end Go.Proofs.YtifekdmmpbcdgaaGreatDoor
namespace Go.Bf
section
variable (nb:Nat→Nat→Prop) (a:Nat)
inductive Rch:Nat→Nat→Prop
 | z:Rch 0 a
 | s {k:Nat} {x y:Nat} (h:Rch k x) (n:nb x y):Rch (k+1) y
def IsD (x:Nat) (k:Nat):Prop:=Rch nb a k x∧∀j,Rch nb a j x→k≤j
structure Bfs (dn qu:List Nat) (D:Nat→Option Nat):Prop where
 a0:D a=some 0
 mem:∀x,(D x).isSome=true↔x∈dn∨x∈qu
 rk:∀x k,D x=some k→Rch nb a k x
 near:∀x∈dn,∀y,nb x y→∃k k',D x=some k∧D y=some k'∧k'≤k+1
 ord:qu.Pairwise λ x y=>∀k k',D x=some k→D y=some k'→k≤k'
 top:∀x,qu.head? = some x→∀y k k',D x=some k→D y=some k'→k'≤k+1
structure FR (x:Nat) (dn rest:List Nat) (D:Nat→Option Nat) (V:Nat→Prop):Prop where
 b:Bfs nb a dn (x::rest) D
 v:∀y,V y→nb x y→∃k k',D x=some k∧D y=some k'∧k'≤k+1
end
section
variable {nb:Nat→Nat→Prop} {a:Nat}
def jw (D:Nat→Option Nat) (y:Nat) (k:Nat):Nat→Option Nat:=λ z=>if z=y then some k else D z
theorem Bfs.start:Bfs nb a [] [a] (λ x=>if x=a then some 0 else none) where
 a0:=if_pos rfl
 mem:=λ x=>by
  by_cases h:x=a<;>simp [h]
 rk:=λ x k h=>by
  by_cases e:x=a
  ·subst e; simp at h; subst h; exact .z
  ·simp [e] at h
 near:=λ x h=>by cases h
 ord:=by simp
 top:=λ x h y k k' h1 h2=>by
  by_cases e:y=a
  ·simp [e] at h2; omega
  ·simp [e] at h2
variable {x:Nat} {dn:List Nat} {rest:List Nat} {D:Nat→Option Nat}
theorem Bfs.head (h:Bfs nb a dn (x::rest) D):∃k,D x=some k:=by
 have:=(h.mem x).2 (.inr List.mem_cons_self);exact Option.isSome_iff_exists.1 this
theorem Bfs.mid (h:Bfs nb a dn (x::rest) D):FR nb a x dn rest D (λ _=>False):=⟨h,λ _ h=>h.elim⟩
variable {y:Nat} {V:Nat→Prop}
theorem FR.old (h:FR nb a x dn rest D V) {k':Nat} (hy:D y=some k'):FR nb a x dn rest D (λ z=>V z∨z=y):=
 ⟨h.b,λ z hz hn=>by
  rcases hz with hz | rfl
  ·exact h.v z hz hn
  ·obtain ⟨k,hk⟩:=h.b.head;exact ⟨k,k',hk,hy,h.b.top x rfl z k k' hk hy⟩⟩
theorem FR.skip (h:FR nb a x dn rest D V) (hn:¬ nb x y):FR nb a x dn rest D (λ z=>V z∨z=y):=
 ⟨h.b,λ z hz hn'=>by
  rcases hz with hz | rfl
  ·exact h.v z hz hn'
  ·exact absurd hn' hn⟩
variable {k:Nat}
theorem FR.new (h:FR nb a x dn rest D V) (hx:D x=some k) (hy:D y=none) (hn:nb x y):FR nb a x dn (rest++[y]) (jw D y (k+1)) (λ z=>V z∨z=y):=by
 have e0:∀z q,D z=some q→jw D y (k+1) z=some q:=λ z q hz=>by
  unfold jw;rw [if_neg (λ e=>by subst e; rw [hy] at hz; cases hz)];exact hz
 have ey:jw D y (k+1) y=some (k+1):=if_pos rfl;have inv:∀z q,jw D y (k+1) z=some q→(z=y∧q=k+1)∨(z≠y∧D z=some q):=λ z q hz=>by
  unfold jw at hz;by_cases e:z=y
  ·rw [if_pos e] at hz; exact .inl ⟨e,(Option.some.inj hz).symm⟩
  ·rw [if_neg e] at hz; exact .inr ⟨e,hz⟩
 refine ⟨⟨e0 _ _ h.b.a0,λ z=>?_,λ z q hz=>?_,λ z hz w hw=>?_,?_,λ z hz w q q' h1 h2=>?_⟩,λ z hz hn'=>?_⟩
 ·by_cases e:z=y
  ·subst e; rw [ey]; simp
  ·unfold jw;rw [if_neg e,h.b.mem];simp [e]
 ·rcases inv z q hz with ⟨rfl,rfl⟩ | ⟨_,h1⟩
  ·exact .s (h.b.rk x k hx) hn
  ·exact h.b.rk z q h1
 ·obtain ⟨q,q',h1,h2,h3⟩:=h.b.near z hz w hw;exact ⟨q,q',e0 _ _ h1,e0 _ _ h2,h3⟩
 ·have h1:(x::rest).Pairwise λ x y'=>∀q q',jw D y (k+1) x=some q→jw D y (k+1) y'=some q'→q≤q':=by
   refine List.Pairwise.imp_of_mem ?_ h.b.ord;intro z w hz hw hzw q q' h1 h2;obtain ⟨qz,ez⟩:=Option.isSome_iff_exists.1 ((h.b.mem z).2 (.inr hz));obtain ⟨qw,ew⟩:=Option.isSome_iff_exists.1 ((h.b.mem w).2 (.inr hw));have a1:=e0 z qz ez;have a2:=e0 w qw ew;rw [h1] at a1; rw [h2] at a2;have a1:=Option.some.inj a1;have a2:=Option.some.inj a2;subst a1 a2;exact hzw q q' ez ew
  rw [← List.cons_append];refine List.pairwise_append.2 ⟨h1,by simp,λ z hz w hw q q' g1 g2=>?_⟩;have hw:=List.mem_singleton.1 hw;subst hw;rw [ey] at g2;have g2:=Option.some.inj g2;obtain ⟨qz,ez⟩:=Option.isSome_iff_exists.1 ((h.b.mem z).2 (.inr hz));have a1:=e0 z qz ez;rw [g1] at a1;have a1:=Option.some.inj a1;subst a1;have:=h.b.top x rfl z k q hx ez;omega
 ·have hz:z=x:=(Option.some.inj hz).symm;subst hz;have hq:q=k:=by
   have:=e0 z k hx;rw [h1] at this;exact Option.some.inj this
  subst hq;rcases inv w q' h2 with ⟨_,e⟩ | ⟨_,e⟩
  ·omega
  ·exact h.b.top z rfl w q q' hx e
 ·rcases hz with hz | rfl
  ·obtain ⟨q,q',h1,h2,h3⟩:=h.v z hz hn';exact ⟨q,q',e0 _ _ h1,e0 _ _ h2,h3⟩
  ·exact ⟨k,k+1,e0 _ _ hx,ey,Nat.le_refl _⟩
theorem FR.done (h:FR nb a x dn rest D V) (hV:∀y,nb x y→V y):Bfs nb a (dn++[x]) rest D where
 a0:=h.b.a0
 mem:=λ y=>by
  rw [h.b.mem y];simp only [List.mem_append,List.mem_cons,List.not_mem_nil,or_false];exact ⟨λ q=>by rcases q with q | q | q<;>simp [q],λ q=>by rcases q with (q | q) | q<;>simp [q]⟩
 rk:=h.b.rk
 near:=λ y hy z hz=>by
  rcases List.mem_append.1 hy with hy | hy
  ·exact h.b.near y hy z hz
  ·have:=List.mem_singleton.1 hy;subst this;exact h.v z (hV z hz) hz
 ord:=(List.pairwise_cons.1 h.b.ord).2
 top:=λ y hy z q q' h1 h2=>by
  obtain ⟨k,hk⟩:=h.b.head;have hy:y∈rest:=List.mem_of_mem_head? hy;have a1:=(List.pairwise_cons.1 h.b.ord).1 y hy k q hk h1;have a2:=h.b.top x rfl z k q' hk h2;omega
theorem Bfs.reach (h:Bfs nb a dn [] D):∀ {k:Nat} {x:Nat},Rch nb a k x→∃k',D x=some k'∧k'≤k:=by
 intro k x hr;induction hr with
 | z=>exact ⟨0,h.a0,Nat.le_refl _⟩
 | @s k x y _ hn ih=>
  obtain ⟨k',e,hk⟩:=ih;have hx:x∈dn:=by
   have:=(h.mem x).1 (by rw [e]; rfl);simpa using this
  obtain ⟨q,q',e1,e2,hq⟩:=h.near x hx y hn;rw [e] at e1;have:=Option.some.inj e1;exact ⟨q',e2,(by omega)⟩
theorem Bfs.final (h:Bfs nb a dn [] D) (x:Nat) (k:Nat):D x=some k↔IsD nb a x k:=by
 constructor
 ·intro e;refine ⟨h.rk x k e,λ j hj=>?_⟩;obtain ⟨k',e',hk⟩:=h.reach hj;rw [e] at e';have:=Option.some.inj e';omega
 ·rintro ⟨h1,h2⟩;obtain ⟨k',e',hk⟩:=h.reach h1;have:=h2 k' (h.rk x k' e');rw [e'];congr 1;omega
theorem Bfs.none (h:Bfs nb a dn [] D) (e:D x=none) (k:Nat):¬ Rch nb a k x:=λ hr=>by
 obtain ⟨k',e',_⟩:=h.reach hr;rw [e] at e';cases e'
end
section
variable {nb:Nat→Nat→Prop} {a:Nat}
variable {x:Nat} {dn:List Nat} {rest:List Nat} {D:Nat→Option Nat} {y:Nat} {V:Nat→Prop} {k:Nat}
theorem IsD.uniq {k':Nat} (h:IsD nb a x k) (h':IsD nb a x k'):k=k':=Nat.le_antisymm (h.2 _ h'.1) (h'.2 _ h.1)
theorem IsD.prev (h:IsD nb a y (k+1)):∃x,IsD nb a x k∧nb x y:=by
 obtain ⟨h1,h2⟩:=h;cases h1 with
 | @s _ x _ hx hn=>exact ⟨x,⟨hx,λ j hj=>by have:=h2 (j+1) (.s hj hn); omega⟩,hn⟩
theorem IsD.zero (h:IsD nb a y 0):y=a:=by
 obtain ⟨h1,_⟩:=h;cases h1; rfl
theorem IsD.self:IsD nb a a 0:=⟨.z,λ _ _=>Nat.zero_le _⟩
theorem Rch.trans {i j:Nat} (h:Rch nb a i x) (h':Rch nb x j y):Rch nb a (i+j) y:=by
 induction h' with
 | z=>exact h
 | s _ hn ih=>exact .s ih hn
theorem Rch.rev {C:Nat→Prop} (hC:C a) (hs:∀x y,C x→nb x y→C y∧nb y x) (h:Rch nb a k x):C x∧Rch nb x k a:=by
 induction h with
 | z=>exact ⟨hC,.z⟩
 | @s k x y _ hn ih=>
  obtain ⟨h1,h2⟩:=hs x y ih.1 hn;refine ⟨h1,?_⟩;have:=Rch.trans (.s .z h2) ih.2;rwa [Nat.add_comm] at this
theorem IsD.rev {C:Nat→Prop} (hC:C a) (hs:∀x y,C x→nb x y→C y∧nb y x) (h:IsD nb a x k):IsD nb x a k:=by
 obtain ⟨h1,h2⟩:=h.1.rev hC hs;exact ⟨h2,λ j hj=>h.2 j (hj.rev h1 hs).2⟩
end
end Go.Bf
namespace Go.Proofs.YtifekdmmpbcdgaaGreatDoor
open Go.Ab
set_option maxRecDepth 100000
variable {l:List ay} {s:List Int}
theorem Sr (h:VS l s) {u:Nat} {v:Int} (hv:0≤v) (hv2:v<(l.getD u aV).aR.length):VS l (s.set u v):=by
 refine ⟨by rw [List.length_set]; exact h.1,λ i hi=>?_⟩;by_cases e:u=i
 ·subst e;rw [List.getD_eq_getElem?_getD,List.getElem?_set_self (by rw [h.1]; exact hi)];exact ⟨hv,hv2⟩
 ·rw [List.getD_eq_getElem?_getD,List.getElem?_set_ne e,← List.getD_eq_getElem?_getD];exact h.2 i hi
def YR (x:bg):bg:=⟨x.fJ,0,x.gF⟩
def Js (l:List ay) (s:List Int) (way:List bg):Bool:=ownB l (jK l s)&&!(way.map YR).any (ajr (jK l s))
structure NbC (l:List ay) (way:List bg) (s:List Int) (u:Nat) (v:Int):Prop where
 hu:u<l.length
 v0:0≤v
 v1:v<(l.getD u aV).aR.length
 ne:v≠s.getD u 0
 cm:Js l (s.set u v) way=true
def nbN (l:List ay) (way:List bg) (m n:Nat):Prop:=∃s u v,VS l s∧gK l s=m∧NbC l way s u v∧gK l (s.set u v)=n
def okN (l:List ay) (way:List bg) (m:Nat):Prop:=∃s,VS l s∧gK l s=m∧Js l s way=true
variable {way:List bg} {n:Nat}
theorem abq {m:Nat} (h:okN l way m) (hn:nbN l way m n):okN l way n∧nbN l way n m:=by
 obtain ⟨s0,h1,h2,h3⟩:=h;obtain ⟨s,u,v,g1,g2,g3,g4⟩:=hn;have:=Hz h1 g1 (h2.trans g2.symm);subst this;have gv:=Sr g1 g3.v0 g3.v1;refine ⟨⟨_,gv,g4,g3.cm⟩,s0.set u v,u,s0.getD u 0,gv,g4,?_,?_⟩
 ·have hu:u<s0.length:=by rw [g1.1]; exact g3.hu
  have e:(s0.set u v).set u (s0.getD u 0)=s0:=by
   rw [List.set_set,List.getD_eq_getElem?_getD,List.getElem?_eq_getElem hu];exact List.set_getElem_self hu
  refine ⟨g3.hu,(g1.2 u g3.hu).1,(g1.2 u g3.hu).2,?_,by rw [e]; exact h3⟩;rw [List.getD_eq_getElem?_getD (l:=s0.set u v),List.getElem?_set_self hu];exact λ e=>g3.ne e.symm
 ·have hu:u<s0.length:=by rw [g1.1]; exact g3.hu
  have e:(s0.set u v).set u (s0.getD u 0)=s0:=by
   rw [List.set_set,List.getD_eq_getElem?_getD,List.getElem?_eq_getElem hu];exact List.set_getElem_self hu
  rw [e]; exact h2
def OW (l:List ay) (way:List bg) (a:List Int) (s:List Int) (k:Nat):Prop:=Go.Bf.IsD (nbN l way) (gK l a) (gK l s) k
def lexLt (u u':Nat) (v v':Int):Prop:=u<u'∨u=u'∧v<v'
structure Nxt (l:List ay) (way:List bg) (a:List Int) (s:List Int) (k:Nat) (u:Nat) (v:Int):Prop where
 nb:NbC l way s u v
 d:OW l way a (s.set u v) k
 least:∀(u':Nat) (v':Int),u'<l.length→0≤v'→v'<(l.getD u' aV).aR.length→lexLt u' u v' v→¬ OW l way a (s.set u' v') k
inductive PlC (l:List ay) (way:List bg) (a:List Int):List Int→List (Nat×Int)→Prop
 | nil:PlC l way a a []
 | cons {s:List Int} {k u:Nat} {v:Int} {ws:List (Nat×Int)} (d:OW l way a s (k+1)) (n:Nxt l way a s k u v) (h:PlC l way a (s.set u v) ws):PlC l way a s ((u,v)::ws)
variable {a:List Int}
theorem aks (ha:VS l a) (hs:VS l s) (h:OW l way a s 0):s=a:=Hz hs ha h.zero
variable {k:Nat}
theorem akt (ha:VS l a) (hc:Js l a way=true) (hs:VS l s) (h:OW l way a s (k+1)):∃u v,NbC l way s u v∧OW l way a (s.set u v) k:=by
 obtain ⟨m,h1,h2⟩:=h.prev;have hm:okN l way m:=(h1.1.rev (C:=okN l way) ⟨a,ha,rfl,hc⟩ λ _ _=>abq).1;obtain ⟨_,s',u,v,q1,q2,q3,q4⟩:=abq hm h2;have:=Hz q1 hs q2;subst this;exact ⟨u,v,q3,by unfold OW; rw [q4]; exact h1⟩
theorem HY {i:Nat} (h:i<l.length):gq (l.drop i)=(l.getD i aV).aR.length*gq (l.drop (i+1)):=by
 rw [drop_cons aV h,gq]
theorem amd (h:VS l s) (i:Nat):VS (l.drop i) (s.drop i):=by
 refine ⟨by rw [List.length_drop,List.length_drop,h.1],λ j hj=>?_⟩;rw [List.length_drop] at hj;have:=h.2 (i+j) om;have e1:(s.drop i).getD j 0=s.getD (i+j) 0:=by
  rw [List.getD_eq_getElem?_getD,List.getElem?_drop,← List.getD_eq_getElem?_getD]
 have e2:(l.drop i).getD j aV=l.getD (i+j) aV:=by
  rw [List.getD_eq_getElem?_getD,List.getElem?_drop,← List.getD_eq_getElem?_getD]
 rw [e1,e2];exact this
theorem adt (h:VS l s) {i:Nat} (hi:i<l.length):gK (l.drop i) (s.drop i)=(s.getD i 0).toNat*gq (l.drop (i+1))+gK (l.drop (i+1)) (s.drop (i+1)):=by
 rw [drop_cons aV hi,drop_cons (0:Int) (by rw [h.1]; exact hi),gK]
theorem ame (h:VS l s):0<gq l:=Nat.lt_of_le_of_lt (Nat.zero_le _) (tQ h)
theorem ZM {a b c:Nat} (h:a*(b*c)≤k) (hc:0<c):a*b≤k:=by
 refine Nat.le_trans ?_ h;rw [← Nat.mul_assoc];exact Nat.le_mul_of_pos_right _ hc
variable {l_:List ay} {s_:List Int}
theorem lU (h:VS l_ s_) (hl:l_.length≤2000000) (hz:gq l_≤1000000000000):W (kR l_ s_) (λ r=>r=((gK l_ s_:Nat):Int)):=by
 have hp:=tQ h;unfold kR;refine cu (λ g1:Int×Int=>0≤g1.2∧g1.2≤l_.length∧∃k:Nat,g1.1=k∧k*gq (l_.drop g1.2.toNat)+gK (l_.drop g1.2.toNat) (s_.drop g1.2.toNat)=gK l_ s_) (λ g1=>(l_.length - g1.2).toNat) ?_ ⟨ob,ob,0,rfl,by simp⟩;intro ah g1 ⟨a1,a2,k,a3,a4⟩ ih1;unfold Jd;refine wi ?_ ?_<;>intro c1
 ·have hlt:g1.2.toNat<l_.length:=by omega
  obtain ⟨x0,x1⟩:=h.2 _ hlt;have hs:=ame (amd h (g1.2.toNat+1));rw [HY hlt,adt h hlt] at a4;have q1:=ZM (k:=gK l_ s_) (a:=k) (b:=(l_.getD g1.2.toNat aV).aR.length) (c:=gq (l_.drop (g1.2.toNat+1))) om hs;have e1:g1.1*(((l_.getD g1.2.toNat aV).aR.length:Nat):Int)=((k*(l_.getD g1.2.toNat aV).aR.length:Nat):Int):=by rw [a3,Int.natCast_mul]
  have e2:g1.1*(((l_.getD g1.2.toNat aV).aR.length:Nat):Int)+s_.getD g1.2.toNat 0=((k*(l_.getD g1.2.toNat aV).aR.length+(s_.getD g1.2.toNat 0).toNat:Nat):Int):=by rw [e1]; omega
  have q2:(k*(l_.getD g1.2.toNat aV).aR.length+(s_.getD g1.2.toNat 0).toNat)*gq (l_.drop (g1.2.toNat+1))+gK (l_.drop (g1.2.toNat+1)) (s_.drop (g1.2.toNat+1))=gK l_ s_:=by
   rw [Nat.add_mul,Nat.mul_assoc];omega
  have q3:=Nat.le_mul_of_pos_right (k*(l_.getD g1.2.toNat aV).aR.length+(s_.getD g1.2.toNat 0).toNat) hs;have hsl:=h.1;refine wn<|bK (by rw [e1]; unfold aJ; omega) ?_;refine wn<|bK (by rw [e2]; unfold aJ; omega) ?_;refine wn<|ih1 _ ⟨ob,ob,_,e2,?_⟩ ob;dsimp only;rw [show (g1.2+1).toNat=g1.2.toNat+1 by omega];exact q2
 ·refine aK ?_;rw [show g1.2.toNat=l_.length by omega,List.drop_length] at a4;simp only [gq,Nat.mul_one,gK,Nat.add_zero] at a4;rw [a3,a4]
theorem XO (hl:l_.length≤2000000) (h1:∀i,i<l_.length→0<(l_.getD i aV).aR.length) (hz:gq l_≤1000000000000):W (Dt l_) (λ r=>r=((gq l_:Nat):Int)):=by
 have hpos:∀n i,l_.length - i=n→0<gq (l_.drop i):=by
  intro n;induction n with
  | zero=>intro i hi; rw [List.drop_eq_nil_of_le om]; exact Nat.one_pos
  | succ n ih=>
   intro i hi;rw [HY om];exact Nat.mul_pos (h1 i om) (ih (i+1) om)
 unfold Dt;refine cu (λ g1:Int×Int=>0≤g1.2∧g1.2≤l_.length∧∃k:Nat,g1.1=k∧k*gq (l_.drop g1.2.toNat)=gq l_) (λ g1=>(l_.length - g1.2).toNat) ?_ ⟨ob,ob,1,rfl,by simp⟩;intro ah g1 ⟨a1,a2,k,a3,a4⟩ ih1;unfold Lf;refine wi ?_ ?_<;>intro c1
 ·have hlt:g1.2.toNat<l_.length:=by omega
  have hs:=hpos _ (g1.2.toNat+1) rfl;rw [HY hlt] at a4;have q1:=ZM (k:=gq l_) (a:=k) (b:=(l_.getD g1.2.toNat aV).aR.length) (c:=gq (l_.drop (g1.2.toNat+1))) om hs;have e1:g1.1*(((l_.getD g1.2.toNat aV).aR.length:Nat):Int)=((k*(l_.getD g1.2.toNat aV).aR.length:Nat):Int):=by rw [a3,Int.natCast_mul]
  refine wn<|bK (by rw [e1]; unfold aJ; omega) ?_;refine wn<|ih1 _ ⟨ob,ob,_,e1,?_⟩ ob;dsimp only;rw [show (g1.2+1).toNat=g1.2.toNat+1 by omega,Nat.mul_assoc];exact a4
 ·refine aK ?_;rw [show g1.2.toNat=l_.length by omega,List.drop_length] at a4;simp only [gq,Nat.mul_one] at a4;rw [a3,a4]
theorem FT {Lg p8:Int} (h1:s_.length≤2000000) (h2:0≤Lg) (h3:Lg<s_.length):W (rY s_ Lg p8) (λ r=>r=s_.set Lg.toNat p8):=by
 unfold rY;refine bK (by unfold big; omega) ?_;refine wn ?_;exact aK (by simp)
structure CkL (l:List ay) (way:List bg):Prop where
 ck:fq l=0
 ll:l.length≤2000000
 wl:way.length≤2000000
 wc:∀x∈way,0≤x.fJ∧x.fJ<l.length
theorem Ey {iq:List bg} (h:CkL l_ iq) (hs:VS l_ s_):W (wX l_ s_ iq) (λ r=>r=Dw l_ s_ (iq.map YR)):=by
 have hf:=Am h.ck;have hg:=VE hf (Hu hs);have hup:=afU hf (Hu hs);have hll:=h.ll;have hwl:=h.wl;have hst:=Hr l_ s_ l_.length;unfold wX;refine aL (BL hg hup) λ v1 hv1=>?_;subst v1;have hs1:(Gl l_ s_).1.length=l_.length:=hst.1;have hs2:(Gl l_ s_).2.length=l_.length:=hst.2;refine cu (λ (g1:Int)=>0≤g1∧g1≤iq.length∧(iq.drop g1.toNat).any (λ x=>M5 (Gl l_ s_) (YR x))=iq.any (λ x=>M5 (Gl l_ s_) (YR x))) (λ (g1:Int)=>(iq.length - g1).toNat) ?_ ⟨ob,ob,rfl⟩;intro ah g1 ⟨a1,a2,a3⟩ ih1;unfold NU;have ef:Dw l_ s_ (iq.map YR)=(!iq.any (λ x=>M5 (Gl l_ s_) (YR x))&&aeV l_ (Gl l_ s_)):=by
  unfold Dw;rw [List.any_map]; rfl
 refine wi ?_ ?_<;>intro c1
 ·have hlt:g1.toNat<iq.length:=by omega
  have hx:=h.wc _ (getD_in (i:=g1.toNat) dU hlt);rw [drop_cons dU hlt,List.any_cons] at a3;refine wm<|wn ?_;refine aL (mM λ hc=>D8 (vQ)) λ v4 hv4=>?_;subst v4;refine cO ?_ ?_<;>intro c2
  ·refine aK ?_;rw [ef,← a3,show M5 (Gl l_ s_) (YR (iq.getD g1.toNat dU))=true from c2]; rfl
  ·refine wn<|ih1 _ ⟨ob,ob,?_⟩ ob;rw [← a3,show M5 (Gl l_ s_) (YR (iq.getD g1.toNat dU))=false from c2,show (g1+1).toNat=g1.toNat+1 by omega]; rfl
 ·refine aL (LG ob ob ob) λ v5 hv5=>?_;subst v5;refine aK ?_;rw [ef,← a3,show g1.toNat=iq.length by omega,List.drop_length]; rfl
theorem adu (h:lJ l way=true):lJ l (way.map YR)=true:=by
 unfold lJ at h ⊢;simp only [Bool.and_eq_true,Bool.not_eq_true',List.length_map] at h ⊢;refine ⟨h.1,?_⟩;rw [List.any_map];rw [List.any_eq_false] at h ⊢;intro x hx hb;refine h.2 x hx ?_;change OJ _ ⟨x.fJ,0,x.gF⟩=true at hb;rw [acU] at hb ⊢;simp only [Bool.or_eq_true,decide_eq_true_eq] at hb ⊢;omega
theorem Sv (h:lJ l way=true) (hs:VS l s):Dw l s (way.map YR)=Js l s way:=by
 rw [← BQ (adu h) (Hu hs)];unfold iN Js;rw [adu h,Hu hs]; rfl
structure Rd (n:Nat) (d:List Int) (D:Nat→Option Nat) (q:Nat):Prop where
 len:d.length=n
 at_:∀k,k<n→d.getD k 0=match D k with | some m=>(m:Int) | none => -1
 lt:∀k m,D k=some m→k<n∧m<q
def adv (d:List Int):Nat:=d.countP λ x=>decide (x<0)
variable {d:List Int}
theorem adw:∀ {k:Nat} {v:Int},k<d.length→d.getD k 0<0→0≤v→adv (d.set k v)+1=adv d:=by
 induction d with
 | nil=>intro k v h; cases h
 | cons x d ih=>
  intro k v hk hn hv;cases k with
  | zero=>
   have hx:x<0:=hn;unfold adv;rw [List.set_cons_zero,List.countP_cons,List.countP_cons,decide_eq_true hx,decide_eq_false om];simp
  | succ k=>
   have:=ih (k:=k) (v:=v) (by simpa using hk) hn hv;unfold adv at this ⊢;rw [List.set_cons_succ,List.countP_cons,List.countP_cons];omega
variable {D:Nat→Option Nat}
theorem Rd.new {q:Nat} (h:Rd n d D q) {y:Nat} (hy:y<n) (hk:k<q):Rd n (d.set y ((k:Int)+1)) (Go.Bf.jw D y (k+1)) (q+1):=by
 refine ⟨by rw [List.length_set]; exact h.len,λ z hz=>?_,λ z m hm=>?_⟩
 ·rw [List.getD_eq_getElem?_getD,List.getElem?_set];unfold Go.Bf.jw;by_cases e:z=y
  ·subst e;rw [if_pos rfl,if_pos (by rw [h.len]; exact hz),if_pos rfl];simp
  ·rw [if_neg (λ q=>e q.symm),if_neg e,← List.getD_eq_getElem?_getD];exact h.at_ z hz
 ·unfold Go.Bf.jw at hm;by_cases e:z=y
  ·rw [if_pos e] at hm;have:=Option.some.inj hm;omega
  ·rw [if_neg e] at hm;have:=h.lt z m hm;omega
theorem Rd.neg {q:Nat} (h:Rd n d D q) {y:Nat} (hy:y<n):(d.getD y 0<0→D y=none)∧(0≤d.getD y 0→∃k,D y=some k):=by
 rw [h.at_ y hy];cases D y with
 | none=>exact ⟨λ _=>rfl,λ h=>absurd h (by decide)⟩
 | some k=>exact ⟨λ h=>absurd h (by show ¬ ((k:Int)<0); omega),λ _=>⟨k,rfl⟩⟩
def ZN (l:List ay) (s:List Int) (u v:Int) (y:Nat):Prop:=∃(u':Nat) (v':Int),u'<l.length∧0≤v'∧v'<(l.getD u' aV).aR.length∧((u':Int)<u∨(u':Int)=u∧v'<v)∧y=gK l (s.set u' v')
def amf (l:List ay) (way:List bg) (a:List Int) (d:List Int):Prop:=d.length=gq l∧∀k,k<gq l→(∃m:Nat,m<gq l∧d.getD k 0=m∧Go.Bf.IsD (nbN l way) (gK l a) k m)∨(d.getD k 0 = -1∧∀m,¬ Go.Bf.IsD (nbN l way) (gK l a) k m)
structure QuA (l:List ay) (way:List bg) (a:List Int) (i:Nat) (d:List Int) (qu:List (List Int)) (D:Nat→Option Nat):Prop where
 vs:∀q∈qu,VS l q
 rd:Rd (gq l) d D qu.length
 ct:qu.length+adv d=gq l
 b:Go.Bf.Bfs (nbN l way) (gK l a) ((qu.take i).map (gK l)) ((qu.drop i).map (gK l)) D
structure QuM (l:List ay) (way:List bg) (a:List Int) (i:Nat) (pre:List (List Int)) (s:List Int) (u v:Int) (d:List Int) (qu:List (List Int)) (D:Nat→Option Nat):Prop where
 vs:∀q∈qu,VS l q
 rd:Rd (gq l) d D qu.length
 ct:qu.length+adv d=gq l
 tk:qu.take (i+1)=pre++[s]
 il:i<qu.length
 b:Go.Bf.FR (nbN l way) (gK l a) (gK l s) (pre.map (gK l)) ((qu.drop (i+1)).map (gK l)) D (ZN l s u v)
theorem QuM.pos {i:Nat} {pre:List (List Int)} {u v:Int} {qu:List (List Int)} (h:QuM l way a i pre s u v d qu D):∃k,D (gK l s)=some k∧d.getD (gK l s) 0=(k:Int)∧k<qu.length:=by
 obtain ⟨k,hk⟩:=h.b.b.head;have:=h.rd.lt _ _ hk;refine ⟨k,hk,?_,this.2⟩;rw [h.rd.at_ _ this.1,hk]
theorem ZO {u v:Int} (_:0≤u) (_:u<l.length) (_:0≤v) (_:v<(l.getD u.toNat aV).aR.length) (y:Nat):ZN l s u (v+1) y→ZN l s u v y∨y=gK l (s.set u.toNat v):=by
 rintro ⟨u',v',h1,h2,h3,h4,h5⟩;by_cases e:(u':Int)=u∧v'=v
 ·right;rw [h5,← e.2,show u.toNat=u' by omega]
 ·left;exact ⟨u',v',h1,h2,h3,om,h5⟩
theorem aku {u:Int} (hu0:0≤u) (y:Nat) {n:Int} (hn:((l.getD u.toNat aV).aR.length:Int)≤n):ZN l s (u+1) 0 y→ZN l s u n y:=by
 rintro ⟨u',v',h1,h2,h3,h4,h5⟩;refine ⟨u',v',h1,h2,h3,?_,h5⟩;by_cases e:(u':Int)=u
 ·right;refine ⟨e,?_⟩;rw [show u.toNat=u' by omega] at hn;omega
 ·left; omega
theorem FR.weak {nb:Nat→Nat→Prop} {a x:Nat} {dn rest:List Nat} {V V':Nat→Prop} (h:Go.Bf.FR nb a x dn rest D V) (hv:∀y,V' y→V y):Go.Bf.FR nb a x dn rest D V':=⟨h.b,λ y hy=>h.v y (hv y hy)⟩
theorem QT (h:CkL l way) (hlm:lJ l way=true) (hz:gq l≤1000000) {d0:List Int} {qu0:List (List Int)} {D0:Nat→Option Nat} (h0:QuA l way a 0 d0 qu0 D0):
  W (bY (qZ l way) ((0:Int),d0,qu0)) (amf l way a):=by
 have hll:=h.ll;refine cu (λ g2:Int×List Int×List (List Int)=>0≤g2.1∧g2.1≤g2.2.2.length∧∃D,QuA l way a g2.1.toNat g2.2.1 g2.2.2 D) (λ g2=>(gq l - g2.1).toNat) ?_ ⟨ob,ob,D0,h0⟩;intro dR g2 ⟨a1,a2,D2,q2⟩ ih2;have aw1:=q2.ct;unfold qZ;refine wi ?_ ?_<;>intro c1
 ·have hlt:g2.1.toNat<g2.2.2.length:=by omega
  refine wn ?_;have hsv:VS l (g2.2.2.getD g2.1.toNat []):=q2.vs _ (by rw [List.getD_eq_getElem?_getD,List.getElem?_eq_getElem hlt]; exact List.getElem_mem hlt);have hsl:=hsv.1;generalize hs:g2.2.2.getD g2.1.toNat []=s at hsv hsl;have hdrop:=drop_cons ([]:List Int) hlt;rw [hs] at hdrop;have htk:g2.2.2.take (g2.1.toNat+1)=g2.2.2.take g2.1.toNat++[s]:=by
   rw [List.take_add_one,List.getElem?_eq_getElem hlt];rw [List.getD_eq_getElem?_getD,List.getElem?_eq_getElem hlt] at hs;simp only [Option.getD_some] at hs;rw [hs]; rfl
  refine cu (λ g11:Int×List Int×List (List Int)=>0≤g11.1∧g11.1≤l.length∧∃D,QuM l way a g2.1.toNat (g2.2.2.take g2.1.toNat) s g11.1 0 g11.2.1 g11.2.2 D) (λ g11=>(l.length - g11.1).toNat) ?_ ⟨ob,ob,D2,q2.vs,q2.rd,q2.ct,htk,hlt,?_⟩
  ·intro Xa g11 ⟨b1,b2,D11,q11⟩ auM;unfold zL;refine wi ?_ ?_<;>intro c2
   ·refine wn<|cu (λ g14:Int×List Int×List (List Int)=>0≤g14.1∧g14.1≤(l.getD g11.1.toNat aV).aR.length∧∃D,QuM l way a g2.1.toNat (g2.2.2.take g2.1.toNat) s g11.1 g14.1 g14.2.1 g14.2.2 D) (λ g14=>((l.getD g11.1.toNat aV).aR.length - g14.1).toNat) ?_ ⟨ob,ob,D11,q11⟩;intro aaI g14 ⟨e1,e2,D14,VG⟩ aqO;have hct:=VG.ct;have hrl:=VG.rd.len;obtain ⟨kx,kx1,kx2,kx3⟩:=VG.pos;have hch:=((Am h.ck).big g11.1.toNat om).2;unfold zK;rw [hs];refine wi ?_ ?_<;>intro c3
    ·have hxv:VS l (s.set g11.1.toNat g14.1):=Sr hsv e1 om;have hpl:=tQ hxv;refine aL (FT om b1 om) λ v107 aqP=>?_;subst aqP;refine aL (lU hxv hll om) λ aaJ aqQ=>?_;subst aqQ;refine wn<|aL (mM λ _=>D8 (Ey h hxv)) λ v109 adx=>?_;rw [Sv hlm hxv] at adx;have htn:((gK l (s.set g11.1.toNat g14.1):Nat):Int).toNat=gK l (s.set g11.1.toNat g14.1):=by omega
     rw [htn];have hng:=VG.rd.neg hpl;refine cO ?_ ?_<;>intro c4
     ·have c5:g14.2.1.getD (gK l (s.set g11.1.toNat g14.1)) 0<0:=by
       simp only [Bool.and_eq_true,decide_eq_true_eq] at c4;exact c4.1
      have c6:Js l (s.set g11.1.toNat g14.1) way=true:=by
       simp only [Bool.and_eq_true,decide_eq_true_eq] at c4;rw [adx] at c4;simpa [c5] using c4.2
      have hps:=tQ hsv;have hnone:=hng.1 c5;refine aL (lU hsv hll om) λ ag0 aqR=>?_;subst aqR;have aoT:((gK l s:Nat):Int).toNat=gK l s:=by omega
      refine wn ?_;rw [aoT,kx2];refine wm<|bK (by unfold big; omega) ?_;refine wn ?_;have hne:g14.1≠s.getD g11.1.toNat 0:=λ e=>by
       have:s.set g11.1.toNat g14.1=s:=by
        rw [e,List.getD_eq_getElem?_getD,List.getElem?_eq_getElem om];exact List.set_getElem_self om
       rw [this,kx1] at hnone;cases hnone
      have hnb:nbN l way (gK l s) (gK l (s.set g11.1.toNat g14.1)):=⟨s,g11.1.toNat,g14.1,hsv,rfl,⟨om,e1,om,hne,c6⟩,rfl⟩;have hneg:=adw (d:=g14.2.1) (k:=gK l (s.set g11.1.toNat g14.1)) (v:=(kx:Int)+1) om c5 om;refine aqO _ ⟨ob,ob,Go.Bf.jw D14 (gK l (s.set g11.1.toNat g14.1)) (kx+1),?_,?_,?_,?_,?_,?_⟩ ob
      ·intro q hq;rcases List.mem_append.1 hq with hq | hq
       ·exact VG.vs q hq
       ·rw [List.mem_singleton.1 hq]; exact hxv
      ·dsimp only;rw [List.length_append,List.length_singleton];exact VG.rd.new hpl kx3
      ·dsimp only;rw [List.length_append,List.length_singleton];omega
      ·have:=VG.il;dsimp only;rw [List.take_append_of_le_length om];exact VG.tk
      ·have:=VG.il;dsimp only;rw [List.length_append]; omega
      ·have hil:=VG.il;dsimp only;rw [List.drop_append_of_le_length om,List.map_append];exact FR.weak (VG.b.new kx1 hnone hnb) (ZO b1 om e1 om)
     ·refine wn<|aqO _ ⟨ob,ob,D14,VG.vs,VG.rd,VG.ct,VG.tk,VG.il,?_⟩ ob;refine FR.weak (V:=λ z=>ZN l s g11.1 g14.1 z∨z=gK l (s.set g11.1.toNat g14.1)) ?_ (ZO b1 om e1 om);by_cases c5:g14.2.1.getD (gK l (s.set g11.1.toNat g14.1)) 0<0
      ·refine VG.b.skip λ hn=>?_;obtain ⟨s',u',v',w1,w2,w3,w4⟩:=hn;have hc:Js l (s.set g11.1.toNat g14.1) way=true:=by
        rw [← Hz (Sr w1 w3.v0 w3.v1) hxv w4]; exact w3.cm
       rw [decide_eq_true c5,adx,hc] at c4;simp at c4
      ·obtain ⟨k',hk'⟩:=hng.2 om;exact VG.b.old hk'
    ·refine wn ?_;exact auM _ ⟨ob,ob,D14,VG.vs,VG.rd,VG.ct,VG.tk,VG.il,FR.weak VG.b (λ y hy=>aku b1 y om hy)⟩ ob
   ·have hct:=q11.ct;have hil:=q11.il;refine wn ?_;have e:(g2.1+1).toNat=g2.1.toNat+1:=by omega
    refine ih2 _ ⟨ob,by dsimp only; omega,D11,q11.vs,q11.rd,q11.ct,?_⟩ (by dsimp only; omega);dsimp only;rw [e,q11.tk,List.map_append];refine q11.b.done λ y hy=>?_;obtain ⟨s',u',v',w1,w2,w3,w4⟩:=hy;have:=Hz w1 hsv w2;subst this;exact ⟨u',v',w3.hu,w3.v0,w3.v1,.inl (by have:=w3.hu; omega),w4.symm⟩
  ·have hb:=q2.b;rw [hdrop,List.map_cons] at hb;exact FR.weak hb.mid λ y hy=>by
    obtain ⟨u',v',_,h2,_,h4,_⟩:=hy;omega
 ·have hb:=q2.b;rw [List.drop_eq_nil_of_le om] at hb;refine aK ⟨q2.rd.len,λ k hk=>?_⟩;rw [q2.rd.at_ k hk];cases hD:D2 k with
  | some m=>exact .inl ⟨m,by have:=(q2.rd.lt k m hD).2; omega,rfl,(hb.final k m).1 hD⟩
  | none=>exact .inr ⟨rfl,λ m hm=>hb.none hD m hm.1⟩
theorem OX (h:CkL l way) (hlm:lJ l way=true) (hz:gq l≤1000000) (ha:VS l a):W (sV l a way) (amf l way a):=by
 have hll:=h.ll;have hp:=tQ ha;unfold sV;refine aL (XO hll (λ i hi=>by have:=ha.2 i hi; omega) om) λ v1 hv1=>?_;subst hv1;have htn:((gq l:Nat):Int).toNat=gq l:=by omega
 refine bK (by unfold big; omega) ?_;rw [htn];refine cu (λ g1:Int×List Int=>0≤g1.1∧g1.1≤gq l∧U2 0 (gq l) (λ j=>if (j:Int)<g1.1 then (-1:Int) else 0) g1.2) (λ g1=>(gq l - g1.1).toNat) ?_ ⟨ob,ob,⟨by simp,λ j hj=>by
  rw [if_neg (by dsimp only; omega),List.getD_eq_getElem?_getD,List.getElem?_replicate,if_pos hj]; rfl⟩⟩
 intro ah g1 ⟨a1,a2,a3⟩ ih1;have hl:=a3.len;unfold Bz;rw [htn];refine wi ?_ ?_<;>intro c1
 ·refine wm<|ih1 _ ⟨ob,ob,(a3.set (i:=g1.1.toNat) om _).OV λ j hj=>?_⟩ ob;by_cases e:j=g1.1.toNat
  ·subst e; rw [if_pos rfl,if_pos (by dsimp only; omega)]
  ·rw [if_neg e];by_cases q:(j:Int)<g1.1
   ·rw [if_pos q,if_pos (by dsimp only; omega)]
   ·rw [if_neg q,if_neg (by dsimp only; omega)]
 ·refine aL (lU ha hll om) λ v2 hv2=>?_;subst hv2;have htp:((gK l a:Nat):Int).toNat=gK l a:=by omega
  refine wn ?_;rw [htp];have hL:g1.2=List.replicate (gq l) (-1):=a3.ext (Q:=λ _=>(-1:Int)) ⟨by simp,λ j hj=>by rw [List.getD_eq_getElem?_getD,List.getElem?_replicate,if_pos hj]; rfl⟩ λ j hj=>if_pos om;have hneg:adv (List.replicate (gq l) (-1))=gq l:=by
   unfold adv;rw [List.countP_replicate]; simp
  have hget:(List.replicate (gq l) (-1:Int)).getD (gK l a) 0 = -1:=by rw [List.getD_eq_getElem?_getD,List.getElem?_replicate,if_pos hp]; rfl
  have hns:=adw (d:=List.replicate (gq l) (-1)) (k:=gK l a) (v:=0) (by simpa using hp) (by rw [hget]; decide) (by decide);rw [hL];refine QT h hlm hz (D0:=λ x=>if x=gK l a then some 0 else none) ⟨λ q hq=>by rw [List.mem_singleton.1 hq]; exact ha,⟨by simp,λ k hk=>?_,λ k m hm=>?_⟩,by rw [List.length_singleton]; omega,Go.Bf.Bfs.start⟩
  ·rw [List.getD_eq_getElem?_getD,List.getElem?_set];by_cases e:k=gK l a
   ·subst e;rw [if_pos rfl,if_pos (by simpa using hk),if_pos rfl]; rfl
   ·rw [if_neg (λ q=>e q.symm),if_neg e,List.getElem?_replicate,if_pos hk]; rfl
  ·by_cases e:k=gK l a
   ·rw [if_pos e] at hm;have:=Option.some.inj hm;rw [List.length_singleton];omega
   ·rw [if_neg e] at hm; cases hm
theorem abr (hd:amf l way a d) (hs:VS l s) (k:Nat):d.getD (gK l s) 0=(k:Int)↔OW l way a s k:=by
 rcases hd.2 _ (tQ hs) with ⟨m,_,h1,h2⟩ | ⟨h1,h2⟩
 ·rw [h1];constructor
  ·intro e;have:m=k:=by omega
   subst this;exact h2
  ·intro h3;have:=Go.Bf.IsD.uniq h2 h3;omega
 ·rw [h1];exact ⟨λ e=>by omega,λ h3=>absurd h3 (h2 k)⟩
theorem akv (ha:VS l a) (hc:Js l a way=true) (hs:VS l s) (h:OW l way a s k):Js l s way=true:=by
 obtain ⟨s',h1,h2,h3⟩:=(h.1.rev (C:=okN l way) ⟨a,ha,rfl,hc⟩ λ _ _=>abq).1;rw [← Hz h1 hs h2];exact h3
theorem YS (h:CkL l way) (hz:gq l≤1000000) (ha:VS l a) (hc:Js l a way=true) (hd:amf l way a d) (hs:VS l s) (hk:OW l way a s (k+1)):
  W (He l s d) (λ r=>∃(u:Nat) (v:Int),r=(⟨1,u,v⟩,s.set u v)∧Nxt l way a s k u v):=by
 have hll:=h.ll;have hsl:=hs.1;have hdl:=hd.1;have hgs:=(abr hd hs (k+1)).2 hk;obtain ⟨u0,v0,n0,n1⟩:=akt ha hc hs hk;have hps:=tQ hs;have aoT:((gK l s:Nat):Int).toNat=gK l s:=by omega
 unfold He;refine cu (λ g1:Int=>0≤g1∧g1≤l.length∧∀(u:Nat) (v:Int),u<l.length→0≤v→v<(l.getD u aV).aR.length→(u:Int)<g1→¬ OW l way a (s.set u v) k) (λ g1=>(l.length - g1).toNat) ?_ ⟨ob,ob,λ u v _ _ _ h=>by omega⟩;intro ah g1 ⟨a1,a2,a3⟩ ih1;unfold NW;refine wi ?_ ?_<;>intro c1
 ·refine wn ?_;have hch:=((Am h.ck).big g1.toNat om).2;refine cu (λ g4:Int=>0≤g4∧g4≤(l.getD g1.toNat aV).aR.length∧∀v:Int,0≤v→v<g4→¬ OW l way a (s.set g1.toNat v) k) (λ g4=>((l.getD g1.toNat aV).aR.length - g4).toNat) ?_ ⟨ob,ob,λ v h0 h1=>by omega⟩;intro kE g4 ⟨b1,b2,b3⟩ ih4;unfold NV;refine wi ?_ ?_<;>intro c2
  ·have hxv:VS l (s.set g1.toNat g4):=Sr hs b1 om;have hpl:=tQ hxv;have htn:((gK l (s.set g1.toNat g4):Nat):Int).toNat=gK l (s.set g1.toNat g4):=by omega
   refine aL (FT om a1 om) λ v25 hv25=>?_;subst hv25;refine aL (lU hxv hll om) λ v26 auO=>?_;subst auO;refine wn<|aL (lU hs hll om) λ v27 hv27=>?_;subst hv27;rw [htn,aoT,hgs];refine wn ?_;have hk1:k+1<gq l:=by
    rcases hd.2 _ hps with ⟨m,q1,q2,_⟩ | ⟨q1,_⟩<;>omega
   refine bK (by unfold aJ; omega) ?_;refine cO ?_ ?_<;>intro c3
   ·have hdk:OW l way a (s.set g1.toNat g4) k:=(abr hd hxv k).1 (by
     have:d.getD (gK l (s.set g1.toNat g4)) 0=((k+1:Nat):Int) - 1:=by simpa using c3
     omega)
    refine aK ⟨g1.toNat,g4,by rw [show ((g1.toNat:Nat):Int)=g1 by omega],⟨⟨om,b1,om,λ e=>?_,akv ha hc hxv hdk⟩,hdk,λ u' v' q1 q2 q3 q4=>?_⟩⟩
    ·have:s.set g1.toNat g4=s:=by
      rw [e,List.getD_eq_getElem?_getD,List.getElem?_eq_getElem om];exact List.set_getElem_self om
     rw [this] at hdk;have:=Go.Bf.IsD.uniq hdk hk;omega
    ·rcases q4 with q4 | ⟨q4,q5⟩
     ·exact a3 u' v' q1 q2 q3 om
     ·subst q4; exact b3 v' q2 q5
   ·refine wn<|ih4 _ ⟨ob,ob,λ v h0 h1 hv=>?_⟩ ob;by_cases e:v=g4
    ·subst e;have:=(abr hd hxv k).2 hv;rw [this] at c3;simp at c3
    ·exact b3 v h0 om hv
  ·refine wn<|ih1 _ ⟨ob,ob,λ u v q1 q2 q3 q4 hv=>?_⟩ ob;by_cases e:(u:Int)=g1
   ·have e':u=g1.toNat:=by omega
    subst e';exact b3 v q2 om hv
   ·exact a3 u v q1 q2 q3 om hv
 ·exact absurd n1 (a3 u0 v0 n0.hu n0.v0 n0.v1 (by have:=n0.hu; omega))
def wrC (ws:List (Nat×Int)):List aD:=ws.map λ p=>⟨1,p.1,p.2⟩
theorem XP {from_ dQ:List Int} (hl:l.length≤2000000) (h1:from_.length≤2000000) (h2:dQ.length≤2000000) (h3:way.length≤2000000) (h4:ag4 l) (h5:∀x∈way,0≤x.fJ∧x.fJ<l.length):
  W (Dr l from_ dQ way) (λ r=>r=0→CkL l way∧lJ l way=true∧VS l from_∧VS l dQ∧Js l from_ way=true∧Js l dQ way=true):=by
 have am1:∀s,uH l s=true→VS l s:=λ s h=>Qr h;unfold Dr;refine aL (sw hl) λ v1 hv1=>?_;refine cO ?_ ?_<;>intro c1
 ·have c1:=fA c1;exact aK λ e=>absurd e c1
 have c1:=fA c1;have hck:CkL l way:=⟨om,hl,h3,h5⟩;refine aL (BK hl h3) λ v2 hv2=>?_;refine aL (pq λ _=>xg hl h1 h4) λ v3 hv3=>?_;refine aL (pq λ _=>xg hl h2 h4) λ v4 hv4=>?_;refine cO (λ c2=>aK nofun) (λ c2=>?_);simp only [Bool.or_eq_false_iff,Bool.not_eq_false'] at c2;obtain ⟨⟨e2,e3⟩,e4⟩:=c2;have s3:=hv3 (by rw [e2]; rfl);have s4:=hv4 (by rw [e2,e3]; rfl);rw [e3,hck.ck] at s3;rw [e4,hck.ck] at s4;have f3:VS l from_:=am1 _ (by simpa using s3.symm);have f4:VS l dQ:=am1 _ (by simpa using s4.symm);have hlm:lJ l way=true:=by rw [← hv2]; exact e2
 refine aL (Ey hck f3) λ v5 hv5=>?_;refine aL (pq λ _=>Ey hck f4) λ v6 hv6=>?_;refine cO (λ c3=>aK nofun) (λ c3=>?_);simp only [Bool.or_eq_false_iff,Bool.not_eq_false'] at c3;obtain ⟨e5,e6⟩:=c3;refine aK λ _=>⟨hck,hlm,f3,f4,?_,?_⟩
 ·rw [← Sv hlm f3,← hv5]; exact e5
 ·rw [← Sv hlm f4,← hv6 (by rw [e5]; rfl)]; exact e6
theorem YT {from_ dQ:List Int} (hl:l.length≤2000000) (h1:from_.length≤2000000) (h2:dQ.length≤2000000) (h3:way.length≤2000000) (h4:ag4 l) (h5:∀x∈way,0≤x.fJ∧x.fJ<l.length) (hz:gq l≤1000000):
  W (Hf l from_ dQ way) (λ r=>r.1.length≤gq l∧(r.2=0→∃ws,PlC l way dQ from_ ws∧r.1=wrC ws)):=by
 unfold Hf;refine aL (XP hl h1 h2 h3 h4 h5) λ v1 hv1=>?_;refine cO ?_ ?_<;>intro c1
 ·have c1:=fA c1;exact aK ⟨Nat.zero_le _,λ e=>absurd e c1⟩
 have c1:=fA c1;obtain ⟨hck,hlm,f3,f4,f5,f6⟩:=hv1 om;have hpf:=tQ f3;have htn:((gK l from_:Nat):Int).toNat=gK l from_:=by omega
 refine aL (OX hck hlm hz f4) λ v2 hv2=>?_;have hdl:=hv2.1;refine aL (lU f3 hl om) λ v3 hv3=>?_;subst hv3;refine wn ?_;rw [htn];refine cO (λ c2=>aK ⟨Nat.zero_le _,nofun⟩) (λ c2=>?_);have c2:=fA c2;obtain ⟨m,m1,m2,m3⟩:∃m:Nat,m<gq l∧v2.getD (gK l from_) 0=m∧OW l way dQ from_ m:=by
  rcases hv2.2 _ hpf with h | ⟨h,_⟩
  ·exact h
  ·omega
 refine cu (λ g1:List Int×List aD=>VS l g1.1∧∃k,OW l way dQ g1.1 k∧g1.2.length+k=m∧∃pre,g1.2=wrC pre∧∀ws,PlC l way dQ g1.1 ws→PlC l way dQ from_ (pre++ws)) (λ g1=>m - g1.2.length) ?_ ⟨f3,m,m3,by simp,[],rfl,λ ws h=>h⟩;intro ah g1 ⟨a1,k,a2,a3,pre,a4,a5⟩ ih1;have hgl:=a1.1;unfold NY;refine aL (Ug om) λ v8 vZ=>?_;refine cO ?_ ?_<;>intro c3
 ·have hne:g1.1≠dQ:=λ e=>by rw [vZ,e] at c3; simp at c3
  cases k with
  | zero=>exact absurd (aks f4 a1 a2) hne
  | succ k=>
   refine aL (YS hck hz f4 f6 hv2 a1 a2) λ v9 ⟨u,v,e9,nx⟩=>?_;subst e9;refine bK (by unfold big; omega) ?_;refine ih1 _ ⟨Sr a1 nx.nb.v0 nx.nb.v1,k,nx.d,by dsimp only; rw [List.length_append,List.length_singleton]; omega,pre++[(u,v)],by dsimp only; rw [a4]; unfold wrC; rw [List.map_append]; rfl,λ ws h=>?_⟩ (by dsimp only; rw [List.length_append,List.length_singleton]; omega);rw [List.append_assoc];exact a5 _ (.cons a2 nx h)
 ·have he:g1.1=dQ:=by
   rw [vZ] at c3;simpa using c3
  refine aK ⟨by dsimp only; omega,λ _=>⟨pre,?_,a4⟩⟩;have:=a5 [] (by rw [he]; exact .nil);rwa [List.append_nil] at this
theorem amg {ws:List (Nat×Int)} (hcl:∀i,i<l.length→(l.getD i aV).aR.length≤2000000) (h:PlC l way a s ws) (hs:VS l s):∀g:aF,g.Setting=s→DF g (wrC ws) { g with Setting:=a }:=by
 induction h with
 | nil=>intro g e; rw [← e]; exact .nil _
 | @cons s k u v ws d n h ih=>
  intro g e;have hu:=n.nb.hu;have hsl:=hs.1;refine .cons (g1:={ g with Setting:=s.set u v }) ?_ (ih (Sr hs n.nb.v0 n.nb.v1) { g with Setting:=s.set u v } rfl);have:=ApW.k1 (g:=g) (w:=⟨1,u,v⟩) rfl (by dsimp only; omega) (by dsimp only; rw [e,hsl]; omega) ⟨n.nb.v0,by have:=n.nb.v1; have:=hcl u hu; dsimp only; omega⟩;rw [e] at this;exact this
structure ahx (b:aP) (l:List aO) (ms:List Int) (g:aF):Prop where
 nd:BP b l 0
 df:QK l ms
 sh:alZ b l g
 su:Sp.iN b.bD g.aY (drM l ms)=true
 pa:LJ b.aQ 0
 ow:Sm b.aQ (g.Uses.map au.iB)
 da:DmA b.bO 0
 dm:RgP b.bO g.bq
variable {b:aP} {g:aF}
theorem agf {l:List aO} {ms:List Int} {bt:Bool} (h:aj2 b l ms g bt 0):ahx b l ms g:=by
 obtain ⟨h1,h⟩:=lu (by decide) h;obtain ⟨h2,h⟩:=lu (by decide) h;obtain ⟨_,h⟩:=lu (by decide) h;obtain ⟨_,h⟩:=lu (by decide) h;obtain ⟨h5,h⟩:=lu (by decide) h;obtain ⟨h6,h⟩:=lu (by decide) h;obtain ⟨_,h⟩:=lu (by decide) h;obtain ⟨_,h⟩:=lu (by decide) h;obtain ⟨h9,_⟩:=lu (by decide) h;have q2:=Classical.not_not.1 h2;have q6:=Classical.not_not.1 h6;have q9:=Classical.not_not.1 h9;exact ⟨Classical.not_not.1 h1,q2.1,q2.2,by simpa using h5,q6.1,q6.2,q9.1.1,q9.1.2⟩
theorem aoU {p:bL} {l:List gM} (h:Sm p l):(l.map gM.bM).Nodup:=by
 rw [List.nodup_iff_pairwise_ne,List.pairwise_map,List.pairwise_iff_getElem];intro i j hi hj hij;have:=(h j om).2.1 i hij;rw [List.getD_eq_getElem?_getD,List.getElem?_eq_getElem hi,List.getD_eq_getElem?_getD,List.getElem?_eq_getElem hj] at this;exact this
theorem ahy {l:List aC} {r:aW} (h:Sp.tN l r=true):r.On.length=l.length∧r.bC.length=l.length∧∀x∈r.bC,0≤x∧x≤4611686018427387904:=by
 unfold Sp.tN at h;cases q:(((Sp.fq l != 0)||((r.On.length:Int) != l.length))||((r.bC.length:Int) != l.length)) with
 | true=>rw [q] at h; cases h
 | false=>
  rw [q] at h;simp only [Bool.or_eq_false_iff,bne_eq_false_iff_eq] at q;have hl2:r.bC.length=l.length:=by omega
  refine ⟨om,hl2,λ x hx=>?_⟩;obtain ⟨i,hi,rfl⟩:=List.mem_iff_getElem.1 hx;have h1:=(Sp.aa3 hl2).1 h i om;have h2:=(Sp.Ao (l:=l) (by simpa using q.1.1)).2.1 i om;rw [List.getD_eq_getElem?_getD,List.getElem?_eq_getElem hi] at h1;simp only [Option.getD_some] at h1;omega
theorem ady {l:List aC} {r:aW} {d:List bU} (h:Sp.iN l r d=true):Sp.tN l r=true:=by
 unfold Sp.iN at h;cases q:Sp.tN l r with
 | true=>rfl
 | false=>rw [q] at h; cases h
theorem ahx.gd {l:List aO} {ms:List Int} (hb:ag1 b) (h:ahx b l ms g):ZJ g:=by
 refine ⟨sJ.2 (aoU h.ow),λ x hx=>?_,λ x hx=>?_,λ u hu=>by obtain ⟨x,hx,rfl⟩:=List.mem_map.1 hu; exact (Hy h.ow x hx).f0,λ u hu=>by
  obtain ⟨x,hx,rfl⟩:=List.mem_map.1 hu;have hu:=Hy h.ow x hx;have h0:=hu.g0; have h1:=hu.gl; have h2:=hu.fl;have:=hb.gr _ (getD_in (i:=x.iB.bM.toNat) aM om);omega⟩
 ·obtain ⟨i,hi,rfl⟩:=List.mem_iff_getElem.1 hx;have h1:=h.sh.2.1 i om;have h3:=h.sh.1.1;have h2:=(hb.cl _ (getD_in (i:=i) aV om)).2;rw [List.getD_eq_getElem?_getD,List.getElem?_eq_getElem hi] at h1;simp only [Option.getD_some] at h1;omega
 ·exact (ahy (ady h.su)).2.2 x hx
theorem uI {l_:List au} {g_:Int} (hl:l_.length≤2000000) (hf:∀u∈l_,0≤u.iB.dA∧u.iB.dA≤2000000):W (vM l_ g_) (λ r=>r=rM (l_.map au.iB) g_):=by
 unfold vM;refine cu (λ g1:Int=>0≤g1∧g1≤l_.length∧rM ((l_.drop g1.toNat).map au.iB) g_=rM (l_.map au.iB) g_) (λ g1=>(l_.length - g1).toNat) ?_ ⟨ob,ob,rfl⟩;intro ah g1 ⟨a1,a2,a3⟩ ih1;unfold T9;refine wi ?_ ?_<;>intro c1
 ·have hlt:g1.toNat<l_.length:=by omega
  have hx:=hf _ (getD_in (i:=g1.toNat) bE hlt);rw [drop_cons bE hlt,List.map_cons] at a3;unfold rM at a3;rw [List.find?_cons] at a3;refine wn<|cO ?_ ?_<;>intro c2
  ·refine bK (by unfold aJ; omega) ?_;refine aK ?_;rw [show ((l_.getD g1.toNat bE).iB.bM==g_)=true from c2] at a3;unfold rM;rw [← a3]
  ·refine wn<|ih1 _ ⟨ob,ob,?_⟩ ob;rw [show ((l_.getD g1.toNat bE).iB.bM==g_)=false from c2] at a3;rw [show (g1+1).toNat=g1.toNat+1 by omega];unfold rM;rw [← a3]
 ·refine aK ?_;rw [← a3,show g1.toNat=l_.length by omega,List.drop_length]; rfl
variable {U:List gM}
theorem HZ (hf:∀u∈U,0≤u.dA) (g:Int):0<rM U g↔∃x∈U,x.bM=g:=by
 unfold rM;cases q:U.find? (λ x=>x.bM==g) with
 | none=>
  have:=List.find?_eq_none.1 q;exact ⟨λ h=>absurd h (by decide),λ ⟨x,hx,e⟩=>absurd (by simpa using e) (this x hx)⟩
 | some y=>
  have h1:=List.mem_of_find?_eq_some q;have h2:=List.find?_some q;have:=hf y h1;exact ⟨λ _=>⟨y,h1,by simpa using h2⟩,λ _=>by show 0<y.dA+1; omega⟩
theorem agh (h:(U.map gM.bM).Nodup) {x y:gM} (hx:x∈U) (hy:y∈U) (e:x.bM=y.bM):x=y:=by
 obtain ⟨i,hi,rfl⟩:=List.mem_iff_getElem.1 hx;obtain ⟨j,hj,rfl⟩:=List.mem_iff_getElem.1 hy;rw [List.nodup_iff_pairwise_ne,List.pairwise_map,List.pairwise_iff_getElem] at h;rcases Nat.lt_trichotomy i j with q | q | q
 ·exact absurd e (h i j hi hj q)
 ·subst q; rfl
 ·exact absurd e.symm (h j i hj hi q)
theorem QU (h:(U.map gM.bM).Nodup) {x:gM} (hx:x∈U):rM U x.bM=x.dA+1:=by
 unfold rM;cases q:U.find? (λ y=>y.bM==x.bM) with
 | none=>exact absurd (by simp) (List.find?_eq_none.1 q x hx)
 | some y=>
  have h2:=List.find?_some q;rw [agh h (List.mem_of_find?_eq_some q) hx (by simpa using h2)]
theorem abt {x y:gM} (h1:x.bM=y.bM) (h2:x.dA=y.dA):x=y:=by
 cases x; cases y; simp at h1 h2; simp [h1,h2]
def Oj (tU:List gM) (g:Int) (x:gM):Bool:=!(decide (x.bM<g)&&(rM tU x.bM==0))
variable {fU:List gM} {tU:List gM}
theorem ahz {g:Int} (h:rM tU g=0):Sn g (fU.filter (Oj tU g))=fU.filter (Oj tU (g+1)):=by
 unfold Sn;rw [List.filter_filter];congr 1;funext x;unfold gpU Oj;by_cases e:x.bM=g
 ·rw [e,h]; simp; omega
 ·have e1:(x.bM==g)=false:=by simpa using e
  rw [e1];by_cases q:x.bM<g
  ·rw [decide_eq_true q,decide_eq_true om]; simp
  ·rw [decide_eq_false q,decide_eq_false om]; simp
theorem ahA {g:Int} (hf:∀u∈fU,0≤u.dA) (h:¬ (0<rM fU g∧rM tU g=0)):fU.filter (Oj tU (g+1))=fU.filter (Oj tU g):=by
 refine List.filter_congr λ x hx=>?_;unfold Oj;by_cases e:x.bM=g
 ·have h1:=(HZ hf g).2 ⟨x,hx,e⟩;have h2:¬ rM tU g=0:=λ q=>h ⟨h1,q⟩;rw [e];have:(rM tU g==0)=false:=by simpa using h2
  rw [this]; simp
 ·by_cases q:x.bM<g
  ·rw [decide_eq_true q,decide_eq_true om]
  ·rw [decide_eq_false q,decide_eq_false om]
theorem amh {g:Int} (h:∀x∈U,x.bM≠g):Sn g U=U:=by
 unfold Sn;refine List.filter_eq_self.2 λ x hx=>?_;have:=h x hx;unfold gpU;simpa using this
def OnU (fU tU:List gM) (g:Int) (L:List gM):Prop:=∀x,x∈L↔(x∈fU∧rM tU x.bM≠0)∨(x∈tU∧x.bM<g∧rM fU x.bM=0)
variable {L:List gM}
theorem aoW {g:Int} (ht:(tU.map gM.bM).Nodup) (htf:∀u∈tU,0≤u.dA) (hff:∀u∈fU,0≤u.dA) (h:OnU fU tU g L) (h1:0<rM tU g) (h2:rM fU g=0):OnU fU tU (g+1) (adU g (rM tU g) (Sn g L)):=by
 obtain ⟨y,hy,ey⟩:=(HZ htf g).1 h1;have hyf:=QU ht hy;rw [ey] at hyf;have hno:∀x∈fU,x.bM≠g:=λ x hx e=>by
  have:=(HZ hff g).2 ⟨x,hx,e⟩;omega
 have hL:∀x∈L,x.bM≠g:=λ x hx=>by
  rcases (h x).1 hx with ⟨q,_⟩ | ⟨_,q,_⟩
  ·exact hno x q
  ·omega
 rw [amh hL];unfold adU;rw [if_pos h1];have hyy:(⟨g,rM tU g - 1⟩:gM)=y:=abt ey.symm (by show rM tU g - 1=y.dA; omega);rw [hyy];intro x;rw [List.mem_append,List.mem_singleton,h x];constructor
 ·rintro ((q | ⟨q1,q2,q3⟩) | q)
  ·exact .inl q
  ·exact .inr ⟨q1,om,q3⟩
  ·subst q; exact .inr ⟨hy,om,by rw [ey]; exact h2⟩
 ·rintro (q | ⟨q1,q2,q3⟩)
  ·exact .inl (.inl q)
  ·by_cases e:x.bM=g
   ·exact .inr (agh ht q1 hy (e.trans ey.symm))
   ·exact .inl (.inr ⟨q1,om,q3⟩)
theorem aqS {g:Int} (htf:∀u∈tU,0≤u.dA) (hff:∀u∈fU,0≤u.dA) (h:OnU fU tU g L) (h1:¬ (0<rM tU g∧rM fU g=0)):OnU fU tU (g+1) L:=by
 intro x;rw [h x];constructor
 ·rintro (q | ⟨q1,q2,q3⟩)
  ·exact .inl q
  ·exact .inr ⟨q1,om,q3⟩
 ·rintro (q | ⟨q1,q2,q3⟩)
  ·exact .inl q
  ·by_cases e:x.bM=g
   ·exact absurd ⟨(HZ htf g).2 ⟨x,q1,e⟩,by rw [← e]; exact q3⟩ h1
   ·exact .inr ⟨q1,om,q3⟩
theorem ami {V:List gM} (h1:(U.map gM.bM).Nodup) (h2:(V.map gM.bM).Nodup) (h:∀x,x∈U↔x∈V):U.Perm V:=by
 induction U generalizing V with
 | nil=>
  cases V with
  | nil=>exact .nil
  | cons y V=>exact absurd ((h y).2 List.mem_cons_self) (by simp)
 | cons x U ih=>
  obtain ⟨A,B,rfl⟩:=List.append_of_mem ((h x).1 List.mem_cons_self);have hm:(x::(A++B)).Perm (A++x::B):=List.perm_middle.symm;have h2':((x::(A++B)).map gM.bM).Nodup:=((hm.map _).nodup_iff).2 h2;rw [List.map_cons,List.nodup_cons] at h1 h2';refine (List.Perm.cons x (ih h1.2 h2'.2 λ y=>?_)).trans hm;constructor
  ·intro hy;have:=(h y).1 (List.mem_cons_of_mem _ hy);rcases List.mem_cons.1 (hm.mem_iff.2 this) with e | q
   ·subst e; exact absurd (List.mem_map.2 ⟨y,hy,rfl⟩) h1.1
   ·exact q
  ·intro hy;have:=(h y).2 (hm.mem_iff.1 (List.mem_cons_of_mem _ hy));rcases List.mem_cons.1 this with e | q
   ·subst e; exact absurd (List.mem_map.2 ⟨y,hy,rfl⟩) h2'.1
   ·exact q
theorem akw {L:List gM} {G:Int} (hf:(fU.map gM.bM).Nodup) (ht:(tU.map gM.bM).Nodup) (htf:∀u∈tU,0≤u.dA) (hff:∀u∈fU,0≤u.dA) (hg:∀x∈tU,x.bM<G) (hc:∀x∈fU,¬ (0<rM tU x.bM∧rM fU x.bM≠rM tU x.bM))
  (h:OnU fU tU G L) (hL:(L.map gM.bM).Nodup):L.Perm tU:=by
 refine ami hL ht λ x=>?_;rw [h x];constructor
 ·rintro (⟨q1,q2⟩ | ⟨q1,_,_⟩)
  ·have hp:0<rM tU x.bM:=by have:=amX htf x.bM; omega
   obtain ⟨y,hy,ey⟩:=(HZ htf x.bM).1 hp;have e1:=QU ht hy;have e2:=QU hf q1;rw [ey] at e1;have e3:rM fU x.bM=rM tU x.bM:=Classical.byContradiction λ q=>hc x q1 ⟨hp,q⟩;rw [abt ey.symm (by omega:x.dA=y.dA)];exact hy
  ·exact q1
 ·intro hx;by_cases e:rM fU x.bM=0
  ·exact .inr ⟨hx,hg x hx,e⟩
  ·have hp:0<rM fU x.bM:=by have:=amX hff x.bM; omega
   obtain ⟨y,hy,ey⟩:=(HZ hff x.bM).1 hp;have e1:=QU hf hy;have e2:=QU ht hx;have ht0:=htf x hx;rw [ey] at e1;have e3:rM fU x.bM=rM tU x.bM:=Classical.byContradiction λ q=>hc y hy (by rw [ey]; exact ⟨om,q⟩);have:y=x:=abt ey om;subst this;exact .inl ⟨hy,om⟩
structure akx (b:aP) (from_ dQ:aF):Prop where
 n1:from_.Released.length=b.bf.length
 n2:dQ.Released.length=b.bf.length
 nr:b.bf.length≤100000
 gf:ZJ from_
 gt:ZJ dQ
 gG:b.aQ.aG.length≤24
 ug:∀x∈dQ.Uses.map au.iB,x.bM<b.aQ.aG.length
 tg0:∀x∈dQ.Uses.map au.iB,0≤x.bM
 fg:∀x∈from_.Uses.map au.iB,0≤x.bM∧x.bM<b.aQ.aG.length
 ff:∀u∈from_.Uses,0≤u.iB.dA∧u.iB.dA≤2000000
 tf:∀u∈dQ.Uses,0≤u.iB.dA∧u.iB.dA≤2000000
 fl:from_.Uses.length≤2000000
 tl:dQ.Uses.length≤2000000
 cf:∀g:Nat,g<b.aQ.aG.length→¬ (0<rM (from_.Uses.map au.iB) g∧0<rM (dQ.Uses.map au.iB) g∧rM (from_.Uses.map au.iB) g≠rM (dQ.Uses.map au.iB) g)
def aky (from_ dQ:aF) (r:List aD×Int):Prop:=r.2=0→r.1.length≤400∧ZJ from_∧∃h,DF from_ r.1 h∧Eqv h dQ
variable {from_:aF} {dQ:aF}
theorem abu (H:akx b from_ dQ) {o:List aD} {U:List au} {R:List Bool} (ho:o.length≤10000000) (hU:(U.map au.iB).Perm (dQ.Uses.map au.iB)) (hR:Ro from_.Released.length (onP from_.Released dQ.Released 0) R) (ha:DF from_ o ⟨dQ.Setting,dQ.aY,U,R,dQ.bq⟩):
  W (bY (BA b from_ dQ) ((0:Int),o)) (aky from_ dQ):=by
 have n1:=H.n1; have n2:=H.n2; have nr:=H.nr;refine cu (λ g9:Int×List aD=>0≤g9.1∧g9.1≤b.bf.length∧(g9.2.length:Int)≤10000000+g9.1∧∃R,Ro from_.Released.length (onP from_.Released dQ.Released g9.1) R∧DF from_ g9.2 ⟨dQ.Setting,dQ.aY,U,R,dQ.bq⟩) (λ g9=>(b.bf.length - g9.1).toNat) ?_ ⟨ob,ob,by dsimp only; omega,R,hR,ha⟩;intro afQ g9 ⟨a1,a2,a3,L,q1,q2⟩ ih9;unfold BA;refine wi ?_ ?_<;>intro c1
 ·refine wm<|cO ?_ ?_<;>intro c2
  ·refine bK (by unfold big; omega) ?_;refine wn<|ih9 _ ⟨ob,ob,by dsimp only; rw [List.length_append,List.length_singleton]; omega,_,agc q1 a1 om c2,q2.app (.one ?_)⟩ ob;exact .k11 rfl a1 (by show g9.1<(L.length:Int); rw [q1.len]; omega) (by dsimp only; decide) (by dsimp only; decide)
  ·refine wn ?_;exact ih9 _ ⟨ob,ob,by dsimp only; omega,L,agd q1 a1 c2,q2⟩ ob
 ·refine cO (λ c2=>aK nofun) (λ c2=>?_);have c2:=fA c2;have:=akr q1 om om;subst this;exact aK λ _=>⟨by dsimp only; omega,H.gf,_,q2,⟨rfl,rfl,rfl,rfl,rfl,hU⟩⟩
theorem abv (H:akx b from_ dQ) {o:List aD} {U:List au} {R:List Bool} (ho:o.length≤9000000) (hU:OnU (from_.Uses.map au.iB) (dQ.Uses.map au.iB) 0 (U.map au.iB)) (hR:Ro from_.Released.length (onP from_.Released dQ.Released 0) R) (ha:DF from_ o ⟨dQ.Setting,dQ.aY,U,R,dQ.bq⟩):
  W (bY (BD b from_ dQ) ((0:Int),o)) (aky from_ dQ):=by
 have gG:=H.gG;refine cu (λ g8:Int×List aD=>0≤g8.1∧g8.1≤b.aQ.aG.length∧(g8.2.length:Int)≤9000000+g8.1∧∃U:List au,OnU (from_.Uses.map au.iB) (dQ.Uses.map au.iB) g8.1 (U.map au.iB)∧DF from_ g8.2 ⟨dQ.Setting,dQ.aY,U,R,dQ.bq⟩) (λ g8=>(b.aQ.aG.length - g8.1).toNat) ?_ ⟨ob,ob,by dsimp only; omega,U,hU,ha⟩;intro Iw g8 ⟨a1,a2,a3,L,q1,q2⟩ ih8;have hg:=H.gf.apL q2;unfold BD;refine wi ?_ ?_<;>intro c1
 ·refine aL (uI H.tl H.tf) λ v29 hv29=>?_;subst hv29;refine aL (pq λ _=>uI H.fl H.ff) λ v30 amj=>?_;refine cO ?_ ?_<;>intro c2
  ·simp only [Bool.and_eq_true,decide_eq_true_eq,beq_iff_eq] at c2;have e30:=amj (by simpa using c2.1);refine bK (by unfold big; omega) ?_;refine wn<|ih8 _ ⟨ob,ob,by dsimp only; rw [List.length_append,List.length_singleton]; omega,Et g8.1 (rM (dQ.Uses.map au.iB) g8.1) (yL g8.1 L),?_,q2.app (.one ?_)⟩ ob
   ·dsimp only;have e:=Aw (g:=⟨dQ.Setting,dQ.aY,L,R,dQ.bq⟩) hg.gp g8.1 (rM (dQ.Uses.map au.iB) g8.1);dsimp only at e;rw [e];exact aoW (sJ.1 H.gt.gp) H.gt.fn H.gf.fn q1 c2.1 (by rw [← e30]; exact c2.2)
   ·exact ApW.k10 (g:=⟨dQ.Setting,dQ.aY,L,R,dQ.bq⟩) (w:=⟨10,g8.1,rM (dQ.Uses.map au.iB) g8.1⟩) rfl a1 (by dsimp only; omega) (amY H.gt.fn H.gt.fb (by decide) _)
  ·refine wn<|ih8 _ ⟨ob,ob,by dsimp only; omega,L,aqS H.gt.fn H.gf.fn q1 λ ⟨h1,h2⟩=>?_,q2⟩ ob;rw [decide_eq_true h1,amj (by simpa using h1),h2] at c2;cases c2
 ·refine abu H om (akw (G:=g8.1) (sJ.1 H.gf.gp) (sJ.1 H.gt.gp) H.gt.fn H.gf.fn (λ x hx=>by have:=H.ug x hx; omega) (λ x hx ⟨h1,h2⟩=>?_) q1 (sJ.1 hg.gp)) hR q2;obtain ⟨x0,x1⟩:=H.fg x hx;refine H.cf x.bM.toNat om ⟨?_,?_,?_⟩<;>rw [show ((x.bM.toNat:Nat):Int)=x.bM by omega]
  ·exact (HZ H.gf.fn _).2 ⟨x,hx,rfl⟩
  ·exact h1
  ·exact h2
theorem abw (H:akx b from_ dQ) {v15 v17 v18:List aD×Int} (l15:v15.1.length≤2000000) (l17:v17.1.length≤2000000) (l18:v18.1.length≤2000000) (h15:∀g:aF,g.aY=from_.aY→DF g v15.1 { g with aY:=dQ.aY }) (h17:∀g:aF,g.Setting=from_.Setting→DF g v17.1 { g with Setting:=dQ.Setting }) (h18:∀g:aF,g.bq=from_.bq→DF g v18.1 { g with bq:=dQ.bq })
  {o:List aD} {R:List Bool} (ho:o.length≤1000000) (hR:Ro from_.Released.length (onP from_.Released dQ.Released 0) R) (ha:DF from_ o { from_ with Released:=R }):W (bY (BF b from_ dQ v15 v17 v18) ((0:Int),o)) (aky from_ dQ):=by
 have gG:=H.gG;refine cu (λ g7:Int×List aD=>0≤g7.1∧g7.1≤b.aQ.aG.length∧(g7.2.length:Int)≤1000000+g7.1∧∃U:List au,U.map au.iB=(from_.Uses.map au.iB).filter (Oj (dQ.Uses.map au.iB) g7.1)∧DF from_ g7.2 { from_ with Released:=R,Uses:=U }) (λ g7=>(b.aQ.aG.length - g7.1).toNat) ?_ ⟨ob,ob,by dsimp only; omega,from_.Uses,(List.filter_eq_self.2 λ x hx=>?_).symm,ha⟩
 ·intro ou g7 ⟨a1,a2,a3,L,q1,q2⟩ ih7;have hg:=H.gf.apL q2;unfold BF;refine wi ?_ ?_<;>intro c1
  ·refine aL (uI H.fl H.ff) λ v23 aoQ=>?_;subst aoQ;refine aL (pq λ _=>uI H.tl H.tf) λ v24 hv24=>?_;refine cO ?_ ?_<;>intro c2
   ·simp only [Bool.and_eq_true,decide_eq_true_eq,beq_iff_eq] at c2;have e24:=hv24 (by simpa using c2.1);refine bK (by unfold big; omega) ?_;refine wn<|ih7 _ ⟨ob,ob,by dsimp only; rw [List.length_append,List.length_singleton]; omega,Et g7.1 0 (yL g7.1 L),?_,q2.app (.one ?_)⟩ ob
    ·dsimp only;have e:=Aw (g:={ from_ with Released:=R,Uses:=L }) hg.gp g7.1 0;dsimp only at e;rw [e,q1];unfold adU;rw [if_neg (by decide)];exact ahz (by rw [← e24]; exact c2.2)
    ·exact ApW.k10 (g:={ from_ with Released:=R,Uses:=L }) (w:=⟨10,g7.1,0⟩) rfl a1 (by dsimp only; omega) (by dsimp only; decide)
   ·refine wn<|ih7 _ ⟨ob,ob,by dsimp only; omega,L,?_,q2⟩ ob;dsimp only;rw [q1];refine (ahA H.gf.fn λ ⟨h1,h2⟩=>?_).symm;rw [decide_eq_true h1,hv24 (by simpa using h1),h2] at c2;cases c2
  ·refine bK (by unfold big; omega) ?_;refine bK (by unfold big; omega) ?_;refine bK (by unfold big; omega) ?_;refine abv H (U:=L) (by rw [List.length_append,List.length_append,List.length_append]; omega) (λ x=>?_) hR ?_
   ·rw [q1,List.mem_filter];constructor
    ·rintro ⟨h1,h2⟩;refine .inl ⟨h1,λ e=>?_⟩;unfold Oj at h2;rw [decide_eq_true (by have:=(H.fg x h1).2; omega),e] at h2;cases h2
    ·rintro (⟨h1,h2⟩ | ⟨h1,h2,_⟩)
     ·refine ⟨h1,?_⟩;unfold Oj;have:(rM (dQ.Uses.map au.iB) x.bM==0)=false:=by simpa using h2
      rw [this]; simp
     ·have:=(H.gt.fn x h1);have hx:=H.ug x h1;exact absurd h2 (by have:=H.tg0 x h1; omega)
   ·exact ((q2.app (h15 _ rfl)).app (h17 _ rfl)).app (h18 _ rfl)
 ·unfold Oj;rw [decide_eq_false (by have:=(H.fg x hx).1; dsimp only; omega)]; rfl
theorem abx (H:akx b from_ dQ) {v15 v17 v18:List aD×Int} (l15:v15.1.length≤2000000) (l17:v17.1.length≤2000000) (l18:v18.1.length≤2000000) (h15:∀g:aF,g.aY=from_.aY→DF g v15.1 { g with aY:=dQ.aY }) (h17:∀g:aF,g.Setting=from_.Setting→DF g v17.1 { g with Setting:=dQ.Setting }) (h18:∀g:aF,g.bq=from_.bq→DF g v18.1 { g with bq:=dQ.bq }):
  W (bY (BG b from_ dQ v15 v17 v18) (((b.bf.length:Int) - (1:Int)),([]:List aD))) (aky from_ dQ):=by
 have n1:=H.n1; have n2:=H.n2; have nr:=H.nr;refine cu (λ g6:Int×List aD => -1≤g6.1∧g6.1<b.bf.length∧(g6.2.length:Int)+g6.1+1≤b.bf.length∧∃R,Ro from_.Released.length (M8 from_.Released dQ.Released g6.1) R∧DF from_ g6.2 { from_ with Released:=R }) (λ g6=>(g6.1+1).toNat) ?_ ⟨ob,ob,by simp,from_.Released,by rw [← n1]; exact ZL,.nil _⟩;intro jE g6 ⟨a1,a2,a3,L,q1,q2⟩ ih6;unfold BG;refine wi ?_ ?_<;>intro c3
 ·refine wm<|cO ?_ ?_<;>intro c4
  ·refine bK (by unfold big; omega) ?_;refine wn<|ih6 _ ⟨ob,ob,by dsimp only; rw [List.length_append,List.length_singleton]; omega,_,XL q1 c3 om c4,q2.app (.one ?_)⟩ ob;exact .k11 rfl c3 (by show g6.1<(L.length:Int); rw [q1.len]; omega) (by dsimp only; decide) (by dsimp only; decide)
  ·refine wn ?_;exact ih6 _ ⟨ob,ob,by dsimp only; omega,L,XM q1 c3 c4,q2⟩ ob
 ·exact abw H l15 l17 l18 h15 h17 h18 om (akq q1 om) q2
theorem akz (l:List ay) (h:∀c∈l,c.aR.length≤3):gq l≤3 ^ l.length:=by
 induction l with
 | nil=>exact Nat.le_refl _
 | cons c l ih=>
  rw [gq,List.length_cons,Nat.pow_succ,Nat.mul_comm];exact Nat.mul_le_mul (ih λ x hx=>h x (List.mem_cons_of_mem _ hx)) (h c List.mem_cons_self)
theorem YU {l:List aO} {stay:List Int} (hb:ag1 b) (hl:l.length≤2000000) (hns:Xp l) (g1:uK from_) (g2:uK dQ) (hm:stay.length≤1000):W (Hl b l from_ dQ stay) (aky from_ dQ):=by
 have hbs:=amR hb;have hgs:GSz b.aQ:=λ g hg=>by have:=hb.gr g hg; omega
 have auP:=hb.ncl; have aw7:=hb.nsu; have aw8:=hb.ngr; have aw9:=hb.nre; have axa:=hb.ndo;have s1:=g1.st; have s2:=g1.us; have s3:=g2.st; have s4:=g2.us; have s5:=g1.lv; have s6:=g2.lv;unfold Hl;refine aL (sF hbs hgs hns) λ v1 hv1=>?_;refine cO ?_ ?_<;>intro c1
 ·have c1:=fA c1;exact aK λ e=>absurd e c1
 have c1:=fA c1;rw [c1] at hv1;obtain ⟨_,hl12,hnd⟩:=Dy hv1;refine aL (mR hl om) λ v2 hv2=>?_;refine cO (λ c2=>aK nofun) (λ c2=>?_);have c2:=fA c2;have hdf:=hv2.1 c2;have hin:=abg hdf;refine aL (m:=nE b l stay from_) (P:=λ r=>r=true→ahx b l stay from_) (by unfold nE; exact aL (zm hbs hgs hns om g1) λ v h=>aK λ e=>agf (by rw [beq_iff_eq] at e; rwa [e] at h)) λ v3 hv3=>?_;refine aL (pq (P:=λ r=>r=true→ahx b l stay dQ) λ _=>by unfold nE; exact aL (zm hbs hgs hns om g2) λ v h=>aK λ e=>agf (by rw [beq_iff_eq] at e; rwa [e] at h)) λ v4 hv4=>?_;refine cO (λ c3=>aK nofun) (λ c3=>?_);simp only [Bool.or_eq_false_iff,Bool.not_eq_false'] at c3;obtain ⟨e3,e4⟩:=c3;have Bf:=hv3 e3;have Bt:=hv4 (by rw [e3]; rfl) e4;have hfn:∀g:aF,ahx b l stay g→∀u∈g.Uses,(0≤u.iB.bM∧u.iB.bM<b.aQ.aG.length)∧0≤u.iB.dA∧u.iB.dA≤2000000:=λ g hg u hu=>by
  have h:=Hy hg.ow u hu;have hgr:=hb.gr _ (getD_in (i:=u.iB.bM.toNat) aM (by have:=h.g0; have:=h.gl; omega));have:=h.g0; have:=h.gl; have:=h.f0; have:=h.fl;omega
 have ff:=λ u hu=>(hfn _ Bf u hu).2;have tf:=λ u hu=>(hfn _ Bt u hu).2;refine cu (λ g1:Int=>0≤g1∧g1≤b.aQ.aG.length∧∀g:Nat,(g:Int)<g1→¬ (0<rM (from_.Uses.map au.iB) g∧0<rM (dQ.Uses.map au.iB) g∧rM (from_.Uses.map au.iB) g≠rM (dQ.Uses.map au.iB) g)) (λ g1=>(b.aQ.aG.length - g1).toNat) ?_ ⟨ob,ob,λ g h=>by omega⟩;intro ah k1 ⟨a1,a2,a3⟩ ih1;unfold N7;refine cO ?_ ?_<;>intro c4
 ·have c4:=fA c4;refine aL (uI s2 ff) λ v9 QB=>?_;subst QB;refine aL (uI s4 tf) λ v10 Ar=>?_;subst Ar;refine cO (λ c5=>aK nofun) (λ c5=>?_);refine wn<|ih1 _ ⟨ob,ob,λ g hg ⟨h1,h2,h3⟩=>?_⟩ ob;by_cases e:(g:Int)=k1
  ·rw [e] at h1 h2 h3;rw [decide_eq_true h1,decide_eq_true h2] at c5;simp at c5;exact h3 c5
  ·exact a3 g om ⟨h1,h2,h3⟩
 have c4:=fA c4;have H:akx b from_ dQ:=by
  have q1:=Bf.sh.1; have q2:=Bt.sh.1;refine ⟨om,om,om,Bf.gd hb,Bt.gd hb,om,?_,?_,?_,ff,tf,s2,s4,λ g hg=>a3 g om⟩
  ·intro x hx; obtain ⟨u,hu,rfl⟩:=List.mem_map.1 hx; exact (hfn _ Bt u hu).1.2
  ·intro x hx; obtain ⟨u,hu,rfl⟩:=List.mem_map.1 hx; exact (hfn _ Bt u hu).1.1
  ·intro x hx; obtain ⟨u,hu,rfl⟩:=List.mem_map.1 hx; exact (hfn _ Bf u hu).1
 refine cu (λ g2:Int=>0≤g2∧g2≤from_.Uses.length) (λ g2=>(from_.Uses.length - g2).toNat) ?_ ⟨ob,ob⟩;intro dR k2 ⟨b1,b2⟩ ih2;unfold Lj;refine wi ?_ ?_<;>intro c5
 ·refine wn<|aL (yO om) λ v13 _=>?_;refine cu (λ g5:Bool×Int=>0≤g5.2∧g5.2≤dQ.Uses.length) (λ g5=>(dQ.Uses.length - g5.2).toNat) ?_ ⟨ob,ob⟩;intro jP k5 ⟨d1,d2⟩ ih5;unfold Li;refine cO ?_ ?_<;>intro c6
  ·have c6:=fA c6;refine wm ?_;exact ih5 _ ⟨ob,ob⟩ ob
  ·refine cO (λ _=>aK nofun) (λ _=>?_);refine wn ?_;exact ih2 _ ⟨ob,ob⟩ ob
 ·refine aL (FP (k:=32) (f:=aO.gJ) (λ x hx=>by have:=(hnd x hx).dl; omega) hin om om) λ v14 Qn=>?_;have l14:=OQ (f:=aO.gJ) (l:=l) (c:=32) (ms:=stay) λ m q=>(hnd _ (OT hdf q)).dl;have l16:=OQ (f:=aO.eF) (l:=l) (c:=32) (ms:=stay) λ m q=>(hnd _ (OT hdf q)).ll;rw [← Qn] at l14;refine aL (YQ om s5 s6 om) λ v15 ⟨w1,w2⟩=>?_;refine cO ?_ ?_<;>intro c6
  ·have c6:=fA c6;exact aK λ e=>absurd e c6
  have c6:=fA c6;refine aL (FP (k:=24) (f:=aO.eF) (λ x hx=>by have:=(hnd x hx).ll; omega) hin om om) λ v16 Xd=>?_;rw [← Xd] at l16;have hsz:=akz b.bT λ c hc=>(hb.cl c hc).2;have hp5:3 ^ b.bT.length≤3 ^ 5:=Nat.pow_le_pow_right (by decide) auP;have h35:3 ^ 5=243:=by decide
  refine aL (YT om s1 s3 om hbs.ch (λ x hx=>?_) om) λ v17 ⟨w3,w4⟩=>?_
  ·rw [Xd] at hx;obtain ⟨m,hm1,hm2⟩:=List.mem_flatMap.1 hx;have:=(hnd _ (OT hdf hm1)).lm x hm2;exact ⟨this.k0,this.kl⟩
  refine cO ?_ ?_<;>intro c7
  ·have c7:=fA c7;exact aK λ e=>absurd e c7
  have c7:=fA c7;obtain ⟨ws,p1,p2⟩:=w4 c7;have q1:=Bf.sh.1; have q2:=Bt.sh.1;refine aL (YO om om om) λ v18 ajK=>?_;obtain ⟨w5,w6⟩:=ajK Bf.da Bf.dm Bt.dm;refine wn<|abx H om om om (w2 c6) (λ g e=>?_) w6;rw [p2];exact amg (λ i hi=>hbs.ch i hi) p1 ⟨om,λ i hi=>Bf.sh.2.1 i om⟩ g e
def apX (w:aD) (g:aF):aF×Int:=bif (jA w g).1 then ((jA w g).2,0) else (g,2)
theorem Ez {i_:Int} {j_:Int} {bX:List au} (h1:0≤i_) (h2:j_=i_+1) (h3:j_≤bX.length) (h4:bX.length≤2000000):W (kQ i_ j_ bX) (λ r=>r.1+1=bX.length∧r.2.length=bX.length∧r.2.take r.1=bX.eraseIdx i_.toNat):=by
 unfold kQ;refine wn<|cO ?_ ?_<;>intro c1
 ·have jf:=c1;have c1:=fA c1;have c1:i_=j_:=(by simpa using jf);refine aK ?_;(exfalso; omega)
 ·have jf:=c1;have c1:=fA c1;refine wm<|wm ?_;refine aK ?_;(refine ⟨by dsimp only; omega,by simp only [gZ],(del_eq ⟨h1,h2⟩ h3 (Nat.le_refl _) om rfl).trans (by rw [List.take_length])⟩)
theorem YV {w_:aD} {C8:List Int} {C9:List Bool} {zA:List Int} {qV:List au} {Da:List Bool} {Db:List Bool} (h1:qV.length≤2000000) (h2:w_.Value≤9223372036854775807):W (Dc w_ C8 C9 zA qV Da Db) (λ r=>(r.1,grT r.2)=jA w_ ⟨C8,⟨C9,zA⟩,qV,Da,Db⟩∧r.2.2.1.length=C8.length∧r.2.2.2.1.length=C9.length∧r.2.2.2.2.1.length=zA.length∧r.2.2.2.2.2.1.length=Da.length∧r.2.2.2.2.2.2.1.length=Db.length∧r.2.1≤r.2.2.2.2.2.2.2.length∧r.2.2.2.2.2.2.2.length≤qV.length+1):=by
 unfold Dc;refine cO ?_ ?_<;>intro c1
 ·have jf:=c1;have c1:=fA c1;refine aK ?_;(refine ⟨(by unfold jA grT grO; dsimp only; rw [List.take_length,jf]; rfl),?_,?_,?_,?_,?_,?_,?_⟩<;>first | rfl | exact jm .. | (dsimp only; omega) | (simp only [List.length_append,List.length_take,List.length_singleton]; omega))
 ·have jf:=c1;have c1:=fA c1;refine cO ?_ ?_<;>intro c2
  ·have oN:=c2;have c2:=fA c2;refine aL (Jj) λ v1 hv1=>?_;subst v1;refine bK (by (exact jm ..)) ?_;refine aK ?_;(refine ⟨(by unfold jA grT grO; dsimp only; rw [List.take_length,jf,oN]; rfl),?_,?_,?_,?_,?_,?_,?_⟩<;>first | rfl | exact jm .. | (dsimp only; omega) | (simp only [List.length_append,List.length_take,List.length_singleton]; omega))
  ·have oN:=c2;have c2:=fA c2;refine cO ?_ ?_<;>intro c3
   ·have nu:=c3;have c3:=fA c3;refine aL (Jj) λ v2 hv2=>?_;subst v2;refine bK (by (exact jm ..)) ?_;refine aK ?_;(refine ⟨(by unfold jA grT grO; dsimp only; rw [List.take_length,jf,oN,nu]; rfl),?_,?_,?_,?_,?_,?_,?_⟩<;>first | rfl | exact jm .. | (dsimp only; omega) | (simp only [List.length_append,List.length_take,List.length_singleton]; omega))
   ·have nu:=c3;have c3:=fA c3;refine cO ?_ ?_<;>intro c4
    ·have wL:=c4;have c4:=fA c4;refine cO ?_ ?_<;>intro c5
     ·have FM:=c5;have c5:=fA c5;have d5:decide (w_.Value≤1)=true:=(by simpa using FM);refine aL (wZ) λ v3 hv3=>?_;subst v3;refine bK (by (exact jm ..)) ?_;refine aK ?_;(refine ⟨(by unfold jA grT grO; dsimp only; rw [List.take_length,jf,oN,nu,wL,d5]; rfl),?_,?_,?_,?_,?_,?_,?_⟩<;>first | rfl | exact jm .. | (dsimp only; omega) | (simp only [List.length_append,List.length_take,List.length_singleton]; omega))
     ·have FM:=c5;have c5:=fA c5;have d5:decide (w_.Value≤1)=false:=(by simpa using FM);refine wn<|aK ?_;(refine ⟨(by unfold jA grT grO; dsimp only; rw [List.take_length,jf,oN,nu,wL,d5]; rfl),?_,?_,?_,?_,?_,?_,?_⟩<;>first | rfl | exact jm .. | (dsimp only; omega) | (simp only [List.length_append,List.length_take,List.length_singleton]; omega))
    ·have wL:=c4;have c4:=fA c4;refine cO ?_ ?_<;>intro c6
     ·have QE:=c6;have c6:=fA c6;refine cO ?_ ?_<;>intro c7
      ·have Ue:=c7;have c7:=fA c7;have d7:decide (w_.Value≤1)=true:=(by simpa using Ue);refine aL (wZ) λ v4 hv4=>?_;subst v4;refine bK (by (exact jm ..)) ?_;refine aK ?_;(refine ⟨(by unfold jA grT grO; dsimp only; rw [List.take_length,jf,oN,nu,wL,QE,d7]; rfl),?_,?_,?_,?_,?_,?_,?_⟩<;>first | rfl | exact jm .. | (dsimp only; omega) | (simp only [List.length_append,List.length_take,List.length_singleton]; omega))
      ·have Ue:=c7;have c7:=fA c7;have d7:decide (w_.Value≤1)=false:=(by simpa using Ue);refine wn<|aK ?_;(refine ⟨(by unfold jA grT grO; dsimp only; rw [List.take_length,jf,oN,nu,wL,QE,d7]; rfl),?_,?_,?_,?_,?_,?_,?_⟩<;>first | rfl | exact jm .. | (dsimp only; omega) | (simp only [List.length_append,List.length_take,List.length_singleton]; omega))
     ·have QE:=c6;have c6:=fA c6;refine cO ?_ ?_<;>intro c8
      ·have c8o:=c8;have c8:=fA c8;refine cO ?_ ?_<;>intro c9
       ·have c9o:=c9;have c9:=fA c9;have d9:decide (w_.Value≤1)=true:=(by simpa using c9o);refine aL (wZ) λ v5 hv5=>?_;subst v5;refine bK (by (exact jm ..)) ?_;refine aK ?_;(refine ⟨(by unfold jA grT grO; dsimp only; rw [List.take_length,jf,oN,nu,wL,QE,c8o,d9]; rfl),?_,?_,?_,?_,?_,?_,?_⟩<;>first | rfl | exact jm .. | (dsimp only; omega) | (simp only [List.length_append,List.length_take,List.length_singleton]; omega))
       ·have c9o:=c9;have c9:=fA c9;have d9:decide (w_.Value≤1)=false:=(by simpa using c9o);refine wn<|aK ?_;(refine ⟨(by unfold jA grT grO; dsimp only; rw [List.take_length,jf,oN,nu,wL,QE,c8o,d9]; rfl),?_,?_,?_,?_,?_,?_,?_⟩<;>first | rfl | exact jm .. | (dsimp only; omega) | (simp only [List.length_append,List.length_take,List.length_singleton]; omega))
      ·have c8o:=c8;have c8:=fA c8;refine cO ?_ ?_<;>intro c10
       ·have Xw:=c10;have c10:=fA c10;refine aL (aeR) λ v6 hv6=>?_;subst v6;refine cO ?_ ?_<;>intro c11
        ·have YI:=c11;have c11:=fA c11;refine aK ?_;(refine ⟨(by unfold jA grT grO; dsimp only; rw [List.take_length,jf,oN,nu,wL,QE,c8o,Xw,YI]; rfl),?_,?_,?_,?_,?_,?_,?_⟩<;>first | rfl | exact jm .. | (dsimp only; omega) | (simp only [List.length_append,List.length_take,List.length_singleton]; omega))
        ·have YI:=c11;have c11:=fA c11;refine aL (Ap ob) λ v9 QB=>?_;subst v9;refine cO ?_ ?_<;>intro c12
         ·have akA:=c12;have c12:=fA c12;refine bK (by (have:=afY c12; unfold aJ; omega)) ?_;refine aL (Ez c12 rfl (by have:=afY c12; omega) h1) λ v10 Ar=>?_;obtain ⟨auR,auS,akB⟩:=Ar;refine wn ?_;unfold oH;refine wn<|cO ?_ ?_<;>intro c13
          ·have aoZ:=c13;have c13:=fA c13;refine wm<|aK ?_;(refine ⟨(by unfold jA; rw [jf,oN,nu,wL,QE,c8o,Xw,YI]; simp only [cond_true,cond_false]; unfold Et yL grT grO; dsimp only; rw [akA,aoZ,Oa om,akB]; rfl),?_,?_,?_,?_,?_,?_,?_⟩<;>first | rfl | exact jm .. | (dsimp only; omega) | (simp only [List.length_append,List.length_take,List.length_singleton]; omega))
          ·have aoZ:=c13;have c13:=fA c13;refine aK ?_;(refine ⟨(by unfold jA; rw [jf,oN,nu,wL,QE,c8o,Xw,YI]; simp only [cond_true,cond_false]; unfold Et yL grT grO; dsimp only; rw [akA,aoZ,akB]; rfl),?_,?_,?_,?_,?_,?_,?_⟩<;>first | rfl | exact jm .. | (dsimp only; omega) | (simp only [List.length_append,List.length_take,List.length_singleton]; omega))
         ·have akA:=c12;have c12:=fA c12;unfold oH;refine wn<|cO ?_ ?_<;>intro c14
          ·have ao0:=c14;have c14:=fA c14;refine wm<|aK ?_;(refine ⟨(by unfold jA; rw [jf,oN,nu,wL,QE,c8o,Xw,YI]; simp only [cond_true,cond_false]; unfold Et yL grT grO; dsimp only; rw [akA,ao0,Oa om,List.take_length]; rfl),?_,?_,?_,?_,?_,?_,?_⟩<;>first | rfl | exact jm .. | (dsimp only; omega) | (simp only [List.length_append,List.length_take,List.length_singleton]; omega))
          ·have ao0:=c14;have c14:=fA c14;refine aK ?_;(refine ⟨(by unfold jA; rw [jf,oN,nu,wL,QE,c8o,Xw,YI]; simp only [cond_true,cond_false]; unfold Et yL grT grO; dsimp only; rw [akA,ao0,List.take_length]; rfl),?_,?_,?_,?_,?_,?_,?_⟩<;>first | rfl | exact jm .. | (dsimp only; omega) | (simp only [List.length_append,List.length_take,List.length_singleton]; omega))
       ·have Xw:=c10;have c10:=fA c10;refine aK ?_;(refine ⟨(by unfold jA grT grO; dsimp only; rw [List.take_length,jf,oN,nu,wL,QE,c8o,Xw]; rfl),?_,?_,?_,?_,?_,?_,?_⟩<;>first | rfl | exact jm .. | (dsimp only; omega) | (simp only [List.length_append,List.length_take,List.length_singleton]; omega))
theorem XQ {b_:aP} {g_:aF} {w_:aD} (h1:uK g_) (h2:w_.Value≤9223372036854775807):W (uw b_ g_ w_) (λ r=>r=apX w_ g_):=by
 obtain ⟨z1,z2,z3,z4,z5,z6⟩:=id h1;unfold uw;refine aL (LC h1) λ v1 hv1=>?_;subst v1;refine aL (YV z4 h2) λ v2 hv2=>?_;obtain ⟨Xe,Xf,Zp,afR,ajk,am3,avS,aqT⟩:=hv2;have hg:(⟨g_.Setting,⟨g_.aY.On,g_.aY.bC⟩,g_.Uses,g_.Released,g_.bq⟩:aF)=g_:=rfl;have hap:=Xe;rw [hg] at hap;dsimp only at Xf Zp afR ajk am3 aqT;refine bK (by (refine ⟨Xf,Zp,afR,ajk,am3,?_⟩; (try simp only [List.length_take]); omega)) ?_;refine wi ?_ ?_<;>intro c1
 ·refine aL (LC h1) λ v3 hv3=>?_;subst v3;refine aK ?_;(unfold apX; rw [← hap]; dsimp only; rw [c1]; rfl)
 ·refine aK ?_;(unfold apX; rw [← hap]; dsimp only; rw [c1]; rfl)
theorem QV {α:Type} {l:List α} {i:Int} {v:α} (h:l.length≤n):(Es l i v).2.length≤n:=by rw [jm]; exact h
theorem akC {w:aD} (h:uK g) (hn:g.Uses.length≤n) (h2:n<2000000):uK (jA w g).2∧(jA w g).2.Uses.length≤n+1:=by
 obtain ⟨z1,z2,z3,z4,z5,z6⟩:=id h;have hn1:g.Uses.length≤n+1:=by omega
 have h0:uK g∧g.Uses.length≤n+1:=⟨h,hn1⟩;unfold jA;cases decide (w.Value<0) with
 | true=>exact h0
 | false=>
  cases w.eT==1 with
  | true=>exact ⟨⟨QV z1,z2,z3,z4,z5,z6⟩,hn1⟩
  | false=>
   cases w.eT==2 with
   | true=>exact ⟨⟨z1,z2,QV z3,z4,z5,z6⟩,hn1⟩
   | false=>
    cases w.eT==3 with
    | true=>
     cases decide (w.Value≤1) with
     | true=>exact ⟨⟨z1,QV z2,z3,z4,z5,z6⟩,hn1⟩
     | false=>exact h0
    | false=>
     cases w.eT==11 with
     | true=>
      cases decide (w.Value≤1) with
      | true=>exact ⟨⟨z1,z2,z3,z4,QV z5,z6⟩,hn1⟩
      | false=>exact h0
     | false=>
      cases w.eT==12 with
      | true=>
       cases decide (w.Value≤1) with
       | true=>exact ⟨⟨z1,z2,z3,z4,z5,QV z6⟩,hn1⟩
       | false=>exact h0
      | false=>
       cases w.eT==10 with
       | true=>
        cases !(decide (0≤w.Unit)&&decide (w.Unit≤23)) with
        | true=>exact h0
        | false=>
         have hd:(yL w.Unit g.Uses).length≤n:=by
          unfold yL;cases decide (0≤Qm g.Uses (Xq w.Unit)) with
          | true=>exact Nat.le_trans (List.length_eraseIdx_le ..) hn
          | false=>exact hn
         have ha:(Et w.Unit w.Value (yL w.Unit g.Uses)).length≤n+1:=by
          unfold Et;cases decide (0<w.Value) with
          | true=>simp only [cond_true,List.length_append,List.length_singleton]; omega
          | false=>simp only [cond_false]; omega
         exact ⟨⟨z1,z2,z3,Nat.le_trans ha om,z5,z6⟩,ha⟩
       | false=>exact h0
def amk (l:List aD) (i:Int) (k:Nat):aD:=if (k:Int)<i∨(l.length:Int) - 1 - i<k then l.getD (l.length - 1 - k) dJ else l.getD k dJ
theorem QW {l:List aD} (h:l.length≤2000000):W (iA l) (λ r=>r=l.reverse):=by
 unfold iA;refine wn<|cu (λ g1:Int×Int×List aD=>0≤g1.1∧g1.2.1=(l.length:Int) - 1 - g1.1∧2*g1.1≤l.length∧U2 dJ l.length (amk l g1.1) g1.2.2) (λ g1=>(l.length - g1.1).toNat) ?_ ⟨ob,by dsimp only; omega,by dsimp only; omega,rfl,λ k hk=>by unfold amk; rw [if_neg (by dsimp only; omega)]⟩;intro ah g1 ⟨a1,a2,a3,a4⟩ ih1;have hl:=a4.len;unfold pY;refine wi ?_ ?_<;>intro c1
 ·refine wm<|wm ?_;refine wm<|ih1 _ ⟨ob,by dsimp only; omega,by dsimp only; omega,((a4.set (i:=g1.1.toNat) om _).set (i:=g1.2.1.toNat) om _).OV λ k hk=>?_⟩ ob;have e1:=a4.at_ g1.1.toNat om;have e2:=a4.at_ g1.2.1.toNat om;rw [e1,e2];unfold amk;by_cases q1:k=g1.2.1.toNat
  ·rw [if_pos q1,if_neg om,if_pos (by dsimp only; omega)];congr 1; omega
  ·rw [if_neg q1];by_cases q2:k=g1.1.toNat
   ·rw [if_pos q2,if_neg om,if_pos (by dsimp only; omega)];congr 1; omega
   ·rw [if_neg q2];by_cases q3:(k:Int)<g1.1∨(l.length:Int) - 1 - g1.1<k
    ·rw [if_pos q3,if_pos (by dsimp only; omega)]
    ·rw [if_neg q3,if_neg (by dsimp only; omega)]
 ·refine aK (a4.ext (Q:=λ k=>l.reverse.getD k dJ) ⟨by simp,λ _ _=>rfl⟩ λ k hk=>?_);have e:l.reverse.getD k dJ=l.getD (l.length - 1 - k) dJ:=by
   rw [List.getD_eq_getElem?_getD,List.getElem?_reverse om,← List.getD_eq_getElem?_getD]
  rw [e];unfold amk;by_cases q:(k:Int)<g1.1∨(l.length:Int) - 1 - g1.1<k
  ·rw [if_pos q]
  ·rw [if_neg q];congr 1; omega
theorem akD (b:Bool):W (lT b) (λ r=>r=YM b):=by
 unfold lT;cases b
 ·exact aK rfl
 ·exact aK rfl
theorem Sw {g':aF} {w:aD} (a:ApW g w g') (hg:ZJ g) (hl:g.Uses.length≤2000000):W (oQ g w) (λ r=>r=rC g w):=by
 unfold oQ rC;cases a with
 | k1 k u0 u1 v0=>rw [k]; exact bK ⟨u0,u1⟩ (aK rfl)
 | k2 k u0 u1 v0=>rw [k]; exact bK ⟨u0,u1⟩ (aK rfl)
 | k3 k u0 u1 v0 v1=>rw [k]; exact bK ⟨u0,u1⟩ (aL (akD _) λ v h=>aK h)
 | k11 k u0 u1 v0 v1=>rw [k]; exact bK ⟨u0,u1⟩ (aL (akD _) λ v h=>aK h)
 | k12 k u0 u1 v0 v1=>rw [k]; exact bK ⟨u0,u1⟩ (aL (akD _) λ v h=>aK h)
 | k10 k u0 u1 v0=>
  rw [k];show W (bY (vw g w) 0) (λ r=>r=rM (g.Uses.map au.iB) w.Unit);refine cu (λ g1:Int=>0≤g1∧g1≤g.Uses.length∧rM ((g.Uses.drop g1.toNat).map au.iB) w.Unit=rM (g.Uses.map au.iB) w.Unit) (λ g1=>(g.Uses.length - g1).toNat) ?_ ⟨ob,ob,rfl⟩;intro ah g1 ⟨a1,a2,a3⟩ ih1;unfold vw;refine wi ?_ ?_<;>intro c1
  ·have hlt:g1.toNat<g.Uses.length:=by omega
   have hm:(g.Uses.getD g1.toNat bE).iB∈g.Uses.map au.iB:=List.mem_map.2 ⟨_,getD_in (i:=g1.toNat) bE hlt,rfl⟩;have hx:=hg.fn _ hm;have hx2:=hg.fb _ hm;rw [drop_cons bE hlt,List.map_cons] at a3;unfold rM at a3;rw [List.find?_cons] at a3;refine wn<|cO ?_ ?_<;>intro c2
   ·refine bK (by unfold aJ; omega) ?_;refine aK ?_;rw [show ((g.Uses.getD g1.toNat bE).iB.bM==w.Unit)=true from c2] at a3;unfold rM;rw [← a3]
   ·refine wn<|ih1 _ ⟨ob,ob,?_⟩ ob;rw [show ((g.Uses.getD g1.toNat bE).iB.bM==w.Unit)=false from c2] at a3;rw [show (g1+1).toNat=g1.toNat+1 by omega];unfold rM;rw [← a3]
  ·refine aK ?_;rw [← a3,show g1.toNat=g.Uses.length by omega,List.drop_length]; rfl
theorem ao1 {g':aF} {w:aD} (a:ApW g w g'):w.Value≤9223372036854775807:=by
 cases a with
 | k1 k u0 u1 v0=>omega
 | k2 k u0 u1 v0=>omega
 | k10 k u0 u1 v0=>omega
 | k3 k u0 u1 v0 v1=>omega
 | k11 k u0 u1 v0 v1=>omega
 | k12 k u0 u1 v0 v1=>omega
theorem rD {h:aF} {ws:List aD} (hs:uK g) (hg:ZJ g) (hu:g.Uses.length≤100000) (hw:ws.length≤100000) (a:DF g ws h):W (jV b g ws) (λ r=>r=(h,LY g ws,0)∧uK h∧h.Uses.length≤g.Uses.length+ws.length):=by
 unfold jV;refine cu (λ g1:(Int×List Int×List Bool×List Int×List au×List Bool×List Bool×List aD)=>0≤g1.1∧g1.1≤ws.length∧uK ⟨g1.2.1,⟨g1.2.2.1,g1.2.2.2.1⟩,g1.2.2.2.2.1,g1.2.2.2.2.2.1,g1.2.2.2.2.2.2.1⟩∧ZJ ⟨g1.2.1,⟨g1.2.2.1,g1.2.2.2.1⟩,g1.2.2.2.2.1,g1.2.2.2.2.2.1,g1.2.2.2.2.2.2.1⟩∧g1.2.2.2.2.1.length≤g.Uses.length+g1.1.toNat∧DF ⟨g1.2.1,⟨g1.2.2.1,g1.2.2.2.1⟩,g1.2.2.2.2.1,g1.2.2.2.2.2.1,g1.2.2.2.2.2.2.1⟩ (ws.drop g1.1.toNat) h∧g1.2.2.2.2.2.2.2.length=g1.1.toNat∧LY g ws=LY ⟨g1.2.1,⟨g1.2.2.1,g1.2.2.2.1⟩,g1.2.2.2.2.1,g1.2.2.2.2.2.1,g1.2.2.2.2.2.2.1⟩ (ws.drop g1.1.toNat)++g1.2.2.2.2.2.2.2.reverse) (λ g1=>(ws.length - g1.1).toNat) ?_ ⟨ob,ob,hs,hg,by dsimp only; omega,a,rfl,(List.append_nil _).symm⟩;intro ah g1 ⟨a1,a2,a3,a4,a5,a6,a7,a8⟩ ih1;unfold zB;generalize hst:(⟨g1.2.1,⟨g1.2.2.1,g1.2.2.2.1⟩,g1.2.2.2.2.1,g1.2.2.2.2.2.1,g1.2.2.2.2.2.2.1⟩:aF)=st at a3 a4 a6 a8;have hsu:st.Uses.length≤g.Uses.length+g1.1.toNat:=by rw [← hst]; exact a5
 refine wi ?_ ?_<;>intro c1
 ·have hlt:g1.1.toNat<ws.length:=by omega
  rw [drop_cons dJ hlt] at a6 a8;cases a6 with
  | @cons _ s1 _ _ _ w1 w2=>
   refine wn<|aL (XQ a3 (ao1 w1)) λ v5 hv5=>?_;have hap:=aga w1;have e5:v5=(s1,0):=by rw [hv5]; unfold apX; rw [hap]; rfl
   subst e5;have hsz:=akC (w:=ws.getD g1.1.toNat dJ) a3 hsu om;rw [hap] at hsz;refine cO (λ c2=>by cases c2) (λ _=>?_);refine aL (Sw w1 a4 a3.us) λ v6 hv6=>?_;subst hv6;refine bK (by unfold big; omega) ?_;refine wn ?_;have e:(g1.1+1).toNat=g1.1.toNat+1:=by omega
   refine ih1 _ ⟨ob,ob,hsz.1,a4.ap w1,by dsimp only; rw [e]; exact hsz.2,by dsimp only; rw [e]; exact w2,by dsimp only; rw [List.length_append,List.length_singleton,e,a7],?_⟩ ob;dsimp only;rw [e,a8,List.reverse_append,List.reverse_singleton];show (LY (jA (ws.getD g1.1.toNat dJ) st).2 _++[YN st _])++_=_;rw [hap,List.append_assoc];rfl
 ·have hn:g1.1.toNat=ws.length:=by omega
  rw [hn,List.drop_length] at a6 a8;cases a6;refine aL (QW om) λ v7 hv7=>?_;subst hv7;refine bK (by simp) ?_;refine aL (LC a3) λ v8 vZ=>?_;subst vZ;refine aK ⟨?_,a3,by rw [hn] at hsu; exact hsu⟩;dsimp only;rw [List.take_of_length_le (by simp),a8];rfl
theorem BZ {l:List Int} (h:l.length≤2000000):W (slices_Equal_int l l) (λ r=>r=true):=by
 unfold slices_Equal_int;refine cO (λ c1=>by simp at c1) (λ _=>?_);refine cu (λ g1:Int=>0≤g1∧g1≤l.length) (λ g1=>(l.length - g1).toNat) ?_ ⟨ob,ob⟩;intro ah g1 ⟨a1,a2⟩ ih1;unfold zC;refine cO (λ c2=>?_) (λ _=>aK rfl);have c2:=fA c2;refine wm<|cO (λ c3=>by simp at c3) (λ _=>?_);refine wn ?_;exact ih1 _ ⟨ob,ob⟩ ob
theorem rE {l:List Bool} (h:l.length≤2000000):W (kF l l) (λ r=>r=true):=by
 unfold kF;refine cO (λ c1=>by simp at c1) (λ _=>?_);refine cu (λ g1:Int=>0≤g1∧g1≤l.length) (λ g1=>(l.length - g1).toNat) ?_ ⟨ob,ob⟩;intro ah g1 ⟨a1,a2⟩ ih1;unfold yB;refine cO (λ c2=>?_) (λ _=>aK rfl);have c2:=fA c2;refine wm<|cO (λ c3=>by simp at c3) (λ _=>?_);refine wn ?_;exact ih1 _ ⟨ob,ob⟩ ob
theorem Jt {a b:List au} (ha:a.length≤2000000) (hb:b.length≤2000000) (h:∀u∈a,u.iB∈b.map au.iB):W (rW a b) (λ r=>r=true):=by
 unfold rW;refine cu (λ g1:Int×(iJ→Option Int)=>0≤g1.1∧g1.1≤b.length∧∀u∈b.take g1.1.toNat,Oo g1.2 (.p u.iB.bM u.iB.dA)=1) (λ g1=>(b.length - g1.1).toNat) ?_ ⟨ob,ob,by simp⟩;intro ah g1 ⟨a1,a2,a3⟩ ih1;unfold E9;refine wi ?_ ?_<;>intro c1
 ·refine wm<|ih1 _ ⟨ob,ob,λ u hu=>?_⟩ ob;dsimp only at hu ⊢;have hlt:g1.1.toNat<b.length:=by omega
  rw [show (g1.1+1).toNat=g1.1.toNat+1 by omega,List.take_add_one,List.getElem?_eq_getElem hlt] at hu;unfold Oo Rq;by_cases e:(iJ.p u.iB.bM u.iB.dA)=iJ.p ((b.getD g1.1.toNat bE).iB).bM ((b.getD g1.1.toNat bE).iB).dA
  ·rw [if_pos e]; rfl
  ·rw [if_neg e];rcases List.mem_append.1 hu with q | q
   ·exact a3 u q
   ·simp at q;refine absurd ?_ e;rw [q,List.getD_eq_getElem?_getD,List.getElem?_eq_getElem hlt]; rfl
 ·rw [List.take_of_length_le om] at a3;unfold kJ kI;refine aL (m:=bnd _ _) (P:=λ r=>r=false) (aL (P:=λ r=>r = -1) ?_ λ v hv=>aK (by rw [hv]; rfl)) λ v hv=>aK (by rw [hv]; rfl);refine cu (λ g2:Int=>0≤g2∧g2≤a.length) (λ g2=>(a.length - g2).toNat) ?_ ⟨ob,ob⟩;intro dR g2 ⟨b1,b2⟩ ih2;unfold mh;refine cO (λ c2=>?_) (λ _=>aK rfl);have c2:=fA c2;refine wn ?_;have hm:=h _ (getD_in (i:=g2.toNat) bE om);obtain ⟨y,hy,ey⟩:=List.mem_map.1 hm;have hy1:=a3 y hy;refine aL (m:=za _ _) (P:=λ r=>r=false) (aK (by dsimp only; rw [← ey,hy1]; rfl)) λ v3 hv3=>?_;subst hv3;refine cO (λ c=>by cases c) (λ _=>?_);refine wn ?_;exact ih2 _ ⟨ob,ob⟩ ob
theorem U3 {x y:aF} (e:Eqv x y) (h1:uK x) (h2:uK y):W (l6 x y) (λ r=>r=true):=by
 obtain ⟨e1,e2,e3,e4,e5,e6⟩:=e;have hl:x.Uses.length=y.Uses.length:=by simpa using e6.length_eq
 have s1:=h1.st; have s2:=h1.on; have s3:=h1.lv; have s4:=h1.us; have s5:=h1.re; have s6:=h1.po; have s7:=h2.us;unfold l6 Em;rw [← e1,← e2,← e3,← e4,← e5];refine aL (BZ s1) λ v1 hv1=>?_;subst hv1;refine aL (pq (P:=λ r=>r=true) λ _=>aL (rE s2) λ v hv=>aL (pq (P:=λ r=>r=true) λ _=>BZ s3) λ w hw=>aK (by rw [hw hv,hv]; rfl)) λ v2 hv2=>?_;have:=hv2 rfl;subst this;refine aL (pq (P:=λ r=>r=true) λ _=>rE s5) λ v3 hv3=>?_;have:=hv3 rfl;subst this;refine aL (pq (P:=λ r=>r=true) λ _=>rE s6) λ v4 hv4=>?_;have:=hv4 rfl;subst this;refine cO (λ c=>?_) (λ _=>?_)
 ·rw [hl] at c; simp at c
 refine aL (Jt s4 s7 λ u hu=>e6.mem_iff.1 (List.mem_map.2 ⟨u,hu,rfl⟩)) λ v5 hv5=>?_;subst hv5;refine aL (pq (P:=λ r=>r=true) λ _=>Jt s7 s4 λ u hu=>e6.mem_iff.2 (List.mem_map.2 ⟨u,hu,rfl⟩)) λ v6 hv6=>?_;exact aK (by rw [hv6 rfl]; rfl)
theorem U4 {b:aP} {h:aF} {ws:List aD} {k:Int} (hs:uK g) (hg:ZJ g) (hu:g.Uses.length≤1000) (hw:ws.length≤1000) (a:DF g ws h) (k0:0≤k) (k1:k≤ws.length):
  W (vB b g ws k) (λ r=>r.2.2=0∧r.2.1=(k==(ws.length:Int))∧Eqv r.1 (if k=ws.length then h else g)∧uK r.1):=by
 unfold vB;refine aL (rD hs hg om om a) λ v1 ⟨e1,z1,_⟩=>?_;subst e1;refine cO (λ c=>by cases c) (λ _=>?_);refine cO ?_ ?_<;>intro c2
 ·have hk:k=ws.length:=by
   simp only [Bool.or_eq_true,decide_eq_true_eq] at c2;omega
  refine aK ⟨rfl,by dsimp only; rw [hk]; simp,?_,z1⟩;rw [if_pos hk];exact .refl _
 ·have hk:k<ws.length:=by
   simp only [Bool.or_eq_false_iff,decide_eq_false_iff_not] at c2;omega
  refine wn ?_;have a':DF g (ws.take k.toNat++ws.drop k.toNat) h:=by rw [List.take_append_drop]; exact a
  obtain ⟨h1,p1,_⟩:=ahw a';obtain ⟨k2,p2,p3⟩:=ako hg p1;have htl:(ws.take k.toNat).length≤ws.length:=by rw [List.length_take]; omega
  refine aL (rD hs hg om om p1) λ v2 ⟨e2,z2,u2⟩=>?_;subst e2;refine aL (rD z2 (hg.apL p1) (by dsimp only; omega) (by dsimp only; rw [akp]; omega) p2) λ v3 ⟨e3,z3,_⟩=>?_;subst e3;refine aK ⟨rfl,?_,?_,z3⟩
  ·dsimp only;have:(k==(ws.length:Int))=false:=by simpa using λ e:k=ws.length=>by omega
   rw [this]
  ·rw [if_neg om];exact p3
theorem XR:W (bnd nQ λ v=>ret v) (λ r=>r=true):=aL (anM Jr) λ _ h=>aK h
theorem akE {c:Bool} (hc:c=true):W (grd (c=true) nQ) (λ r=>r=true):=anL (pq λ _=>anM Jr) λ _ h=>h hc
theorem aby {l:List Int}:W (ME l) (λ r=>r.1.length≤600∧r.2=0):=by
 unfold ME;refine bK (by split<;>omega) (aK ⟨?_,rfl⟩);dsimp only;rw [List.length_take];split<;>omega
theorem Ju {fail:Int} {v5:List aD×Int} {v7:aF×Bool×Int} {x:aF} (h1:v7.2.2=0) (h2:v7.2.1=(((IntKind.i64.wrap fail).tmod ((v5.1.length:Int)+(1:Int)))==(v5.1.length:Int))) (h3:Eqv v7.1 x) (h4:uK v7.1) (h5:uK x):
  W (jJ fail v5 v7 (x.Setting,x.aY.On,x.aY.bC,x.Uses,x.Released,x.bq)) (λ r=>r=true):=by
 unfold jJ;dsimp only;rw [h1,h2];have hc:(((0:Int)==0)&&((((IntKind.i64.wrap fail).tmod ((v5.1.length:Int)+(1:Int)))==(v5.1.length:Int))==(((IntKind.i64.wrap fail).tmod ((v5.1.length:Int)+(1:Int)))==(v5.1.length:Int))))=true:=by simp
 rw [hc];refine aL (pq (P:=λ r=>r=true) λ _=>U3 (y:=x) h3 h4 h5) λ v8 vZ=>?_;rw [vZ rfl];refine aL (akE rfl) λ v9 QB=>aK (by rw [QB]; rfl)
theorem LZ {t:List Int} {fail:Int} (h0:0≤fail) (h1:fail≤255):W (tK t fail) (λ r=>r=true):=by
 unfold tK;refine cO (λ _=>XR) (λ _=>?_);refine aL aby λ v2 ⟨k1,k2⟩=>?_;refine aL (XK (by dsimp only; omega) k1) λ v3 hv3=>?_;obtain ⟨w1,w2,w3,w4,w5,w6,w7,w8⟩:=hv3;have hns:Xp v3.2.1:=⟨om,λ n hn=>by have a:=(w3 n hn).rs.1; have c:=(w3 n hn).pr.1; omega⟩;refine cO (λ _=>XR) (λ _=>?_);refine aL (YU w1 om hns w4 w5 om) λ v5 hv5=>?_;refine cO (λ _=>XR) (λ c=>?_);have c:=fA c;obtain ⟨hl,hg,h,ha,he⟩:=hv5 c;refine wn<|bK om ?_;have hw:IntKind.i64.wrap fail=fail:=by rw [IntKind.wrap_i64]; omega
 have q0:0≤(IntKind.i64.wrap fail).tmod ((v5.1.length:Int)+1):=by rw [hw]; exact Int.tmod_nonneg _ h0
 have q1:(IntKind.i64.wrap fail).tmod ((v5.1.length:Int)+1)<(v5.1.length:Int)+1:=Int.tmod_lt_of_pos _ om;refine aL (U4 w4 hg om om ha q0 om) λ v7 ⟨p1,p2,p3,p4⟩=>?_;refine wi ?_ ?_<;>intro c2
 ·rw [if_pos c2] at p3;exact Ju (x:=v3.2.2.2.1) p1 p2 (p3.trans he) p4 w5
 ·rw [if_neg c2] at p3;exact Ju (x:=v3.2.2.1) p1 p2 p3 p4 w4
end Go.Proofs.YtifekdmmpbcdgaaGreatDoor

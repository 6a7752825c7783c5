/- A part of the proof. -/
import Derived.Test.YtifekdmmpbcdgaaGreatDoorA7
import Derived.Test.YtifekdmmpbcdgaaGreatDoorA4
import Derived.Test.YtifekdmmpbcdgaaGreatDoorA6
set_option linter.defProp false
set_option linter.unusedVariables false
set_option linter.unusedSimpArgs false
set_option maxHeartbeats 4000000
namespace Go.Proofs.YtifekdmmpbcdgaaGreatDoor
open Go.Ab
set_option maxRecDepth 100000
def Nh {p_:bq} {l_:ap6} {fW:apU} (h1:∀g∈p_.ax,g.bH.length<=2000000/\g.aj.length<=2000000) (h2:p_.ax.length<=2000000) (h3:l_.length<=2000000) (hp:U0 p_) (hg:Qp p_ l_ fW) (hgl:fW.length<=l_.length):W (wF p_ l_ fW) (λ r=>r.2=true->r.1.length=l_.length/\Qp p_ l_ r.1/\r.1.take fW.length=fW):=by
 unfold wF;refine bu (λ s:bq×ap6×apU=>s.1=p_/\s.2.1=l_/\s.2.2.length<=l_.length/\Qp p_ l_ s.2.2/\fW.length<=s.2.2.length/\s.2.2.take fW.length=fW) (λ s=>l_.length - s.2.2.length) ?_ ⟨rfl,rfl,hgl,hg,afM _,agt⟩;rintro self ⟨p,l,gs⟩ ⟨e1,e2,e3,e4,e5,e6⟩ ih;dsimp only at e1 e2 e3 e4 e5 e6;subst p l;unfold kT;refine wi ?_ ?_<;>intro c1
 ·refine aF ob (ai ?_);intro _;exact⟨by dsimp only at c1 ⊢;omega,e4,e6⟩
 refine aF (by dsimp only at c1 ⊢;omega) ?_;refine ar (M0 h1 h2) λ v1 hv1=>?_;obtain⟨k1,k2⟩:=hv1;refine bu (λ g:Int=>0<=g) (λ g:Int=>(v1.length - g).toNat) ?_ (air _);intro ab g1 hg1 ih1;unfold DA;apply br<;>intro c2
 ·have c2:=cG c2;have hx:=k2 _ (getD_in (i:=g1.toNat) 0 om);refine wn<|ar (Ig h1 (by dsimp only;omega) (λ x hx=>e4.ir x hx) hx.1.1 hx.1.2 hp) λ v6 h6=>?_;apply br<;>intro c3
  ·refine aF ob (ih1 _ om om)
  refine aF ob (aF ob (aF ob ?_));have hl:¬ gs.length=l_.length:=by(try dsimp only at c1);omega
  refine ar (ih _ ⟨rfl,rfl,by(simp only[aeU,afT];omega),?_,by(simp only[aeU,afT];omega),by dsimp only;rw[aoq e5];exact e6⟩ (by(simp only[aeU,afT];omega))) λ v7 hv7=>?_
  ·exact ab5 e4 hx.1 hx.2 (h6 (by simpa using c3))
  refine br (λ c4=>ai λ _=>hv7 c4) (λ c4=>aF ob (ih1 _ om om))
 exact ai nofun
def Ni {p_:bq} {l_:ap6} {fW:apU} (h1:∀g∈p_.ax,g.bH.length<=2000000/\g.aj.length<=2000000) (h2:l_.length<=2000000) (h3:p_.ax.length<=2000000) (hp:U0 p_) (hg:Qp p_ l_ fW) (hgl:fW.length<=l_.length):W (wG p_ l_ fW) (λ r=>r.2=0->r.1.length=l_.length/\Qp p_ l_ r.1/\r.1.take fW.length=fW):=by
 unfold wG;refine ar (Vc h1 h2 hp hg) λ v1 _=>?_;refine br (λ c1=>ai λ e=>?_) (λ _=>?_)
 ·have c1:=cG c1;exact absurd e c1
 refine ar (Nh h1 h3 h2 hp hg hgl) λ v2 hv2=>?_;refine br (λ _=>ai nofun) (λ c2=>ai λ _=>hv2 (by simpa using c2))
def Py {b_:aI} {l_:apZ} (h1:∀u∈l_,FT b_.aM u.cX) (h2:l_.length<=2000000):W (zj b_ l_) (λ r=>r=(l_.map (λ u=>ZO b_.aM u.cX),l_.map λ u=>u.cX.aZ)):=by
 unfold zj;refine bu (λ g1:Int×ap6×apU=>0<=g1.1/\g1.1<=l_.length/\g1.2.1=(l_.take g1.1.toNat).map (λ u=>ZO b_.aM u.cX)/\g1.2.2=(l_.take g1.1.toNat).map λ u=>u.cX.aZ) (λ g1=>(l_.length - g1.1).toNat) ?_ ⟨ob,ob,rfl,rfl⟩;intro ab g1 ⟨a1,a2,a3,a4⟩ ih1;have l1:g1.2.1.length<=l_.length:=by rw[a3,ahW,afs];omega
 have l2:g1.2.2.length<=l_.length:=by rw[a4,ahW,afs];omega
 unfold Fy;refine wi ?_ ?_<;>intro c
 ·have e:(g1.1+1).toNat=g1.1.toNat+1:=by omega
  obtain⟨u1,u2,u3,u4⟩:=h1 _ (getD_in (i:=g1.1.toNat) aL om);refine wn<|aF om ?_;refine aF om ?_;refine aF (by unfold big;omega) ?_;refine aF (by unfold big;omega) ?_;refine wn<|ih1 _ ⟨ob,ob,?_,?_⟩ ob
  ·dsimp only;rw[e,Ac _ _ aL om,a3];rfl
  dsimp only;rw[e,Ac _ _ aL om,a4]
 exact ai (by rw[a3,a4,ahH om])
variable {us:apZ}
def aeF {p:bq} {fs:ap6} (h:sP p (us.map ah.cX)):Qp p (us.map (λ u=>ZO p u.cX)++fs) (us.map λ u=>u.cX.aZ):=by
 refine⟨λ x hx=>?_,λ k hk=>?_,λ k j hj hk=>?_⟩
 ·obtain⟨u,hu,rfl⟩:=aio.1 hx;obtain⟨u1,u2,_,_⟩:=wN h u hu;exact⟨u1,u2⟩
 ·rw[ahW]at hk;have hk:k<us.length:=by omega
  obtain⟨u1,u2,u3,u4⟩:=wN h _ (getD_in (i:=k) aL hk);rw[gT ByteArray.empty (by rw[ahW];exact hk),oa (d:=aL) hk,oa (d:=aL) hk];exact⟨(us.getD k aL).cX.bD.toNat,om,rfl⟩
 rw[ahW]at hk;have hk:k<us.length:=by omega
 have:=(h k (by rw[ahW];omega)).2.2 j hj;rw[oa (d:=aL) hk,oa (d:=aL) om]at this ⊢;exact λ a c ha hc=>this a c ha hc
def aeG {p:bq} {l:ap6} {gs:apU} (hp:U0 p) (hf:Qp p l gs) (hg:us.map (λ u=>u.cX.aZ)=gs) (hu:∀u∈us,FT p u.cX):sP p (us.map ah.cX):=by
 intro i hi;rw[ahW]at hi;have hi:i<us.length:=by omega
 have hgl:gs.length=us.length:=by rw[<- hg,ahW]
 have hgg:∀k,k<us.length->((us.map ah.cX).getD k di).aZ=gs.getD k 0:=λ k hk=>by
  rw[<- hg,oa (d:=aL) hk,oa (d:=aL) hk]
 have hdj:∀k,k<i->Zr p ((us.map ah.cX).getD k di).aZ ((us.map ah.cX).getD i di).aZ:=λ k hk=>by
  rw[hgg k om,hgg i hi];exact hf.dj i k hk om
 have hui:=hu _ (getD_in (i:=i) aL hi);refine⟨by rw[oa (d:=aL) hi];exact hui,λ k hk e=>?_,λ k hk=>hdj k hk⟩;have hd:=hdj k hk;rw[e]at hd;obtain⟨u1,u2,_,_⟩:=hui;rw[oa (d:=aL) hi]at hd;have:=(hp.ok.gr _ (getD_in (i:=(us.getD i aL).cX.aZ.toNat) ay om)).pl;exact hd 0 0 om om rfl
def FnU (b:aI) (l:apW) (ms:apU) (us:apZ):Prop:=∀i∈ms,∀f:ByteArray,cntF (l.getD i.toNat bb).aj f<=Bb b.aM us i f
def Kj {ms:apU} (h:∀u∈us,u.dE∈ms):Ka ms us=us:=by
 unfold Ka;exact aoi.2 λ u hu=>by simpa using h u hu
def aeH {p:bq} {new:apZ} {d:Int} {fs:ap6} (h:new.map (λ u=>(u.dE,ZO p u.cX))=fs.map λ f=>(d,f)) (f:ByteArray):cntF fs f<=Bb p (us++new) d f:=by
 have e:Bb p new d f=cntF fs f:=by
  have e1:Bb p new d f=(new.map (λ u=>(u.dE,ZO p u.cX))).countP λ q=>(q.1==d)&&decide (q.2=f):=by
   rw[List.countP_map];rfl
  rw[e1,h,List.countP_map];unfold cntF;exact apO λ x _=>by simp
 rw[<- e];unfold Bb;rw[anP];omega
structure UsI (b:aI) (l:apW) (ms:apU) (us:apZ):Prop where
 dv:∀u∈us,u.dE∈ms
 ow:sP b.aM (us.map ah.cX)
 fn:FnU b l ms us
 df:qN l ms
 fl:ms≠[]->FL b l ms
def acD {b:aI} {l:apW} (hb:F3 b 0) (hl:l.length<=12) (h:∀x∈l,VB b l.length x):jr b l 0:=by
 refine gZ hb (aG om (Co λ k hk=>?_));obtain⟨l1,d1,f1,r1,q1,p1⟩:=h _ (getD_in (i:=k) bb hk);have hw:∀ {α:Type} (xs:List α) (d:α) (P:α->Prop),(∀x∈xs,P x)->¬ ∃j:Nat,(j:Int)<xs.length/\¬P (xs.getD j d):=λ xs d P hp ⟨j,hj,q⟩=>q (hp _ (getD_in d om));refine eO (by have:=l1.1;have:=d1.1;have:=f1.1;omega) (eO (hw _ _ _ l1.2) (eO (hw _ _ _ d1.2) (eO (hw _ _ _ f1.2) (eO (hw _ _ _ r1.2) (eO (λ q=>q q1) (eO (hw _ _ _ p1.2.1) (eO ?_ rfl)))))));rintro ⟨j,j1,j2,j3⟩;have:=p1.2.2 (j - 1) j om j2;omega
def x9 {b_:aI} {l_:apW} {g_:ak} {cc:Int} {bI:apU} (h1:xQ b_) (h2:ZP b_.aM) (h2':b_.aM.ax.length<=2000000) (h3:Ck l_) (h4:bI.length<=9999) (h5:ka g_) (h6:g_.Uses.length<=100000)
  (ho:sP b_.aM (g_.Uses.map ah.cX)) (hd:∀u∈g_.Uses,u.dE∈bI) (hf:FnU b_ l_ bI g_.Uses):W (mi b_ l_ g_ cc bI) (λ r=>r.2.2=0->(ka r.1/\r.1.Uses.length<=g_.Uses.length+(l_.getD cc.toNat bb).aj.length)/\
   (∀u∈r.1.Uses,u.dE∈bI++[cc])/\sP b_.aM (r.1.Uses.map ah.cX)/\FnU b_ l_ (bI++[cc]) r.1.Uses/\qN l_ (bI++[cc])/\AgA b_ l_ (bI++[cc]) r.1.Uses r.1):=by
 unfold mi;refine ar (F8 h1 h2 h3 om h5) λ v1 hv1=>?_;apply br<;>intro c1
 ·have c1:=cG c1;exact ai λ e=>absurd e c1
 have c1:=cG c1;obtain⟨hn,⟨hpa,_⟩,hd0,hd1⟩:=hv1 c1;obtain⟨hb,hl12,hnd⟩:=sm hn;have ajv:=wN ho;refine ar (F9 om) λ v2 _=>?_;refine br (λ c2=>ai nofun) (λ c2=>?_);refine aF (by unfold big;omega) ?_;refine aF (by unfold big;omega) ?_;refine ar (Nf om om) λ v11 UU=>?_;rw[Kj hd]at UU;subst UU;unfold pU;refine ar (Kf h1 h2 h3 (by dsimp only;rw[aeU,afT];omega) (by dsimp only;omega)) λ v4 ⟨hga,_,hgl⟩=>?_;apply br<;>intro c3
 ·have c3:=cG c3;exact ai λ e=>absurd e c3
 have c3:=cG c3;obtain⟨_,hdf,hag⟩:=hgl c3;have Yy:=hag.us;dsimp only at Yy hdf;rw[Kj λ u hu=>anx _ (hd u hu)]at Yy;refine ar (Py ajv (by dsimp only;omega)) λ v10 tB=>?_;subst tB;have apE:=(hnd _ (getD_in (i:=cc.toNat) bb om)).fl;unfold oC;dsimp only;refine aF ⟨hd0,hd1⟩ ?_;refine aF (by rw[ahW];unfold big;omega) ?_;refine ar (Ni h2 (by rw[aeU,ahW];omega) h2' hpa.v (aeF ho) (by rw[aeU,ahW,ahW];omega)) λ v6 hv6=>?_;refine br (λ c4=>ai nofun) (λ c4=>?_);have c4:=cG c4;obtain⟨ha1,ha2,ha3⟩:=hv6 c4;rw[aeU,ahW]at ha1;rw[ahW]at ha3;refine aF ⟨hd0,hd1⟩ ?_;refine bu (λ g3:Int×apZ=>0<=g3.1/\g3.1<=(l_.getD cc.toNat bb).aj.length/\(∃new,g3.2=g_.Uses++new/\new.map (λ u=>(u.dE,ZO b_.aM u.cX))=((l_.getD cc.toNat bb).aj.take g3.1.toNat).map λ f=>(cc,f))/\g3.2.map (λ u=>u.cX.aZ)=v6.1.take (g_.Uses.length+g3.1.toNat)/\∀u∈g3.2,FT b_.aM u.cX) (λ g3=>((l_.getD cc.toNat bb).aj.length - g3.1).toNat) ?_ ⟨ob,ob,⟨[],by dsimp only;rw[Yy,aiN],rfl⟩,?_,λ u hu=>?_⟩
 ·intro l8 g3 ⟨d1,d2,⟨new,d3,d4⟩,d5,d6⟩ ih3;have hnl:new.length=g3.1.toNat:=by
   have:=ano List.length d4;rw[ahW,ahW,afs]at this;omega
  have hgl:g3.2.length=g_.Uses.length+g3.1.toNat:=by rw[d3,aeU,hnl]
  unfold vL;refine wi ?_ ?_<;>intro c5
  ·dsimp only;rw[ahW];have e:((g_.Uses.length:Int)+g3.1).toNat=g_.Uses.length+g3.1.toNat:=by omega
   have e1:(g3.1+1).toNat=g3.1.toNat+1:=by omega
   have hx:=ha2.ir _ (getD_in (i:=g_.Uses.length+g3.1.toNat) 0 om);have hof:=ha2.off (g_.Uses.length+g3.1.toNat) om;rw[MD ByteArray.empty (by rw[ahW];omega),ahW,Nat.add_sub_cancel_left]at hof;rw[e];refine aF om ?_;refine aF (by unfold av;omega) ?_;refine aF om ?_;refine aF hx ?_;have hff:=(h2 _ (getD_in (i:=(v6.1.getD (g_.Uses.length+g3.1.toNat) 0).toNat) ay om)).2;refine ar (F1 om) λ v9 ⟨t1,t2,t3,t4⟩=>?_;obtain⟨k,k1,k2⟩:=hof;have t0:0<=v9:=anG.1 λ q=>t4 q k k1 k2;have t5:=Lu (t3 t0);refine aF (by unfold big;omega) ?_;refine aF (by unfold av;omega) ?_;refine ih3 _ ⟨by dsimp only;omega,by dsimp only;omega,⟨new++[⟨cc,⟨v6.1.getD (g_.Uses.length+g3.1.toNat) 0,v9⟩⟩],by dsimp only;rw[d3,aot],?_⟩,?_,λ u hu=>?_⟩ (by dsimp only;omega)
   ·dsimp only;rw[e1,Ac _ _ ByteArray.empty om,akj,d4,aiX,aoT];congr 3
   ·dsimp only;rw[akj,d5,e1,<- anS,eI 0 om,aiX,aoT]
   rcases ahL.1 hu with h | h
   ·exact d6 u h
   rw[ahd]at h;rw[h];exact⟨hx.1,hx.2,t0,t2⟩
  rw[ahH om]at d4 d5;have hdv:∀u∈g3.2,u.dE∈bI++[cc]:=by
   intro u hu;rw[d3]at hu;rcases ahL.1 hu with h | h
   ·exact anx _ (hd u h)
   refine aou _ (ahd.2 ?_);have:(u.dE,ZO b_.aM u.cX)∈(l_.getD cc.toNat bb).aj.map λ f=>(cc,f):=by rw[<- d4];exact aio.2 ⟨u,h,rfl⟩
   obtain⟨f,_,e⟩:=aio.1 this;exact(Prod.mk.inj e).1.symm
  refine ai λ _=>⟨⟨⟨hga.a,hga.b,hga.c,by dsimp only;omega,hga.d,hga.e⟩,by dsimp only;omega⟩,hdv,aeG hpa.v ha2 d5 d6,?_,hdf,⟨hag.st,hag.ra,(Kj hdv).symm,hag.re,hag.po⟩⟩
  intro i hi f;dsimp only;rw[d3];rcases ahL.1 hi with h | h
  ·refine af3 (hf i h f) ?_;unfold Bb;rw[anP];omega
  rw[ahd]at h;rw[h];exact aeH d4 f
 ·dsimp only;rw[Yy,show(0:Int).toNat=0 from rfl,ajT,ha3]
 dsimp only at hu;rw[Yy]at hu;exact ajv u hu
def Qw {b_:aI} (h1:xQ b_) (h2:ZP b_.aM):W (B6 b_) (λ r=>ka r.1/\r.1.Uses=[]/\(r.2=0->F3 b_ 0/\AgA b_ [] [] [] r.1)):=by
 unfold B6;refine ar (x8 h1 h2 ⟨by simp,λ _ h=>by cases h⟩ (by simp) (by simp)) λ v1 ⟨hga,hul,hgl⟩=>?_;have hun:v1.2.2.2.2.2.2.2=[]:=alU.1 (by simpa using hul);exact ai ⟨⟨hga.a,hga.b,hga.c,by dsimp only;rw[hun];simp,hga.d,hga.e⟩,hun,λ e=>⟨(F5 (hgl e).1).1,(hgl e).2.2⟩⟩
end Go.Proofs.YtifekdmmpbcdgaaGreatDoor
namespace Go.Proofs.YtifekdmmpbcdgaaGreatDoor
open Go.Ab
set_option maxRecDepth 1000000
set_option maxHeartbeats 4000000
def pE:pS true:=M.agr 100 pS true (by decide +kernel)
end Go.Proofs.YtifekdmmpbcdgaaGreatDoor
namespace Go.Proofs.YtifekdmmpbcdgaaGreatDoor
open Go.Ab
set_option maxRecDepth 100000
def Vd {l_:apU} {x_:Int} (h:l_.length<=2000000):W (JO l_ x_) (λ r=>r=l_.contains x_):=by
 unfold JO;refine bu (λ g1:Int=>0<=g1/\g1<=l_.length/\(l_.take g1.toNat).contains x_=false) (λ g1=>(l_.length - g1).toNat) ?_ ⟨ob,ob,by simp⟩;intro ab g1 ⟨a1,a2,a3⟩ ih1;unfold MC;refine wi ?_ ?_<;>intro c1
 ·refine wn ?_;have hlt:g1.toNat<l_.length:=by omega
  have e:l_.take (g1.toNat+1)=l_.take g1.toNat++[l_.getD g1.toNat 0]:=by
   rw[alV,aeA hlt,ad7,aeA hlt];rfl
  apply br<;>intro c2
  ·refine ai ?_;have:l_.getD g1.toNat 0=x_:=by simpa using c2
   rw[<- this,ad7,aeA hlt];exact(ajO.2 (ai1 hlt)).symm
  refine wn<|ih1 _ ⟨ob,ob,?_⟩ ob;rw[show(g1+1).toNat=g1.toNat+1 by omega,e];have hne:¬ l_.getD g1.toNat 0=x_:=by simpa using c2
  have h3:¬ x_∈l_.take g1.toNat:=λ hm=>by rw[ajO.2 hm]at a3;cases a3
  cases hc:(l_.take g1.toNat++[l_.getD g1.toNat 0]).contains x_ with
  | false=>rfl
  | true=>
   rcases ahL.1 (ajO.1 hc)with h | h
   ·exact absurd h h3
   exact absurd (ahd.1 h).symm hne
 refine ai ?_;rw[ahH om]at a3;exact a3.symm
def Bg {l_:apU} {x_:Int} (h:l_.length<=2000000):W (oY l_ x_) (λ r=>r=l_.filter λ y=>y != x_):=by
 unfold oY;refine bu (λ g1:Int×apU=>0<=g1.1/\g1.1<=l_.length/\g1.2=(l_.take g1.1.toNat).filter λ y=>y != x_) (λ g1=>(l_.length - g1.1).toNat) ?_ ⟨ob,ob,by simp⟩;intro ab g1 ⟨a1,a2,a3⟩ ih1;have hl:g1.2.length<=g1.1.toNat:=by
  rw[a3];exact af3 (aj8 _ _) (by rw[afs];omega)
 unfold A1;refine wi ?_ ?_<;>intro c1
 ·refine wn ?_;have hlt:g1.1.toNat<l_.length:=by omega
  have e2:(g1.1+1).toNat=g1.1.toNat+1:=by omega
  have e:(l_.take (g1.1.toNat+1)).filter (λ y=>y != x_)=g1.2++(bif l_.getD g1.1.toNat 0 != x_ then[l_.getD g1.1.toNat 0]else[]):=by
   rw[alV,apF,<- a3,aeA hlt,ad7,aeA hlt];congr 1
  apply br<;>intro c2
  ·refine wn<|aF (by unfold big;omega) ?_;refine wn ?_;exact ih1 _ ⟨ob,ob,by dsimp only;rw[e2,e,c2];rfl⟩ ob
  refine wn ?_;exact ih1 _ ⟨ob,ob,by dsimp only;rw[e2,e,c2];exact(aiN _).symm⟩ ob
 refine ai ?_;rw[ahH om]at a3;exact a3
variable {ms:apU}
def ahz {l:apW} (h1:∀m∈ms,0<=m/\m<l.length) (h2:ms.Nodup):qN l ms:=λ i hi=>by
 refine⟨h1 _ (getD_in 0 om),λ k hk e=>?_⟩;have:=aj5.1 h2 k i om om hk;rw[ad7,aeA om,ad7,aeA om]at e;exact this e
def aeI {l:apW} (h:qN l ms):ms.Nodup:=by
 refine aj5.2 λ i j hi hj hij=>?_;have:=(h j om).2 i hij;rw[ad7,aeA hi,ad7,aeA hj]at this;exact this
variable {ms':apU}
def X2 {l:apW} (h:qN l ms) (hs:ms'.Sublist ms):qN l ms':=ahz (λ m hm=>SH h m (hs.subset hm)) (hs.nodup (aeI h))
def OwR (p:bq) (u v:ee):Prop:=u.aZ≠v.aZ/\∀a b:Nat,(a:Int)<(p.ax.getD u.aZ.toNat ay).bH.length->(b:Int)<(p.ax.getD v.aZ.toNat ay).bH.length->(p.ax.getD u.aZ.toNat ay).bH.getD a 0≠(p.ax.getD v.aZ.toNat ay).bH.getD b 0
variable {l:aqb}
def Pz {p:bq} :sP p l↔(∀u∈l,FT p u)/\l.Pairwise (OwR p):=by
 have hg:∀i (h:i<l.length),l.getD i di=l[i]:=λ i h=>by rw[ad7,aeA h];rfl
 constructor
 ·intro h;refine⟨iN di λ i hi=>(h i om).1,aj5.2 λ i j hi hj hij=>?_⟩;obtain⟨_,h2,h3⟩:=h j om;have a:=h2 i hij;have c:=h3 i hij;rw[hg i hi,hg j hj]at a c;exact⟨a,c⟩
 rintro ⟨h1,h2⟩ i hi;have hi:i<l.length:=by omega
 have h3:∀k,k<i->OwR p (l.getD k di) (l.getD i di):=λ k hk=>by
  rw[hg k om,hg i hi];exact aj5.1 h2 k i om hi hk
 exact⟨h1 _ (getD_in di hi),λ k hk=>(h3 k hk).1,λ k hk=>(h3 k hk).2⟩
def W5 {p:bq} {us:apZ} (h:sP p (us.map ah.cX)) (ms:apU):sP p ((Ka ms us).map ah.cX):=by
 have hsl:((Ka ms us).map ah.cX).Sublist (us.map ah.cX):=List.Sublist.map _ aoM;obtain⟨h1,h2⟩:=Pz.1 h;exact Pz.2 ⟨λ u hu=>h1 u (hsl.subset hu),h2.sublist hsl⟩
def aeJ {b:aI} {l:apW} {us:apZ} (h:FnU b l ms us) (hs:∀m∈ms',m∈ms):FnU b l ms' (Ka ms' us):=λ i hi f=>by
 refine af3 (h i (hs i hi) f) (Nat.le_of_eq ?_);unfold Bb Ka;rw[List.countP_filter];refine apO λ u _=>?_;simp only[aeP,ajZ,ahQ];exact⟨λ q=>⟨q,ajO.2 (by rw[q.1];exact hi)⟩,λ q=>q.1⟩
structure UsJ (b:aI) (l:apW) (ms:apU) (g:ak):Prop where
 dv:∀u∈g.Uses,u.dE∈ms
 ow:sP b.aM (g.Uses.map ah.cX)
 fn:FnU b l ms g.Uses
 df:qN l ms
 ag:AgA b l ms g.Uses g
def SM {P:Int->Prop} (h:∀i:Nat,(i:Int)<ms.length->P (ms.getD i 0)) (hs:∀m∈ms',m∈ms) (i:Nat) (hi:(i:Int)<ms'.length):P (ms'.getD i 0):=by
 obtain⟨j,hj,e⟩:=ahZ.1 (hs _ (getD_in (l:=ms') (i:=i) 0 om));have:=h j om;rw[ad7,aeA hj]at this;rw[<- e];exact this
variable {g:ak}
def SN {b:aI} {l:apW} {bt:Bool} (h:kC b l ms g bt 0) (hs:SmN l) (hl:ms.length<=30) (hm:ms'.Sublist ms):kC b l ms' g bt 0:=by
 have hn:=ahR.1 (cV (by decide) h).1;have hd:=(ahR.1 (cV (by decide) (cV (by decide) h).2).1).1;obtain⟨_,h⟩:=cV (by decide) h;obtain⟨h2,h⟩:=cV (by decide) h;obtain⟨h3,h⟩:=cV (by decide) h;obtain⟨h4,h⟩:=cV (by decide) h;obtain⟨h5,h⟩:=cV (by decide) h;obtain⟨h6,h⟩:=cV (by decide) h;obtain⟨h7,h⟩:=cV (by decide) h;obtain⟨h8,h⟩:=cV (by decide) h;obtain⟨h9,_⟩:=cV (by decide) h;have c:=ahR.1 h2;have c4:=ahR.1 h4;have c7:=ahR.1 h7;have c8:=ahR.1 h8;have c9:=ahR.1 h9;have hin:=λ m hx=>hm.subset (a:=m) hx;refine eO (λ q=>q hn) (eO (λ q=>q ⟨X2 hd hm,c.2⟩) (eO h3 (eO (λ q=>q λ i hi=>?_) (eO ?_ (eO h6 (eO (λ q=>q λ i hi=>?_) (eO (λ q=>q ⟨c8.1,λ i hi=>?_⟩) (eO (λ q=>q ⟨c9.1,λ i hi=>?_⟩) rfl))))))))
 ·exact SM (P:=λ m=>Zu b g (l.getD m.toNat bb) bt) c4 hin i hi
 ·obtain⟨r,hp⟩:=hm.exists_perm_append;have hp2:(M9 l ms).Perm (M9 l ms'++M9 l r):=by
   have:=hp.flatMap_right λ m=>(l.getD m.toNat bb).dq;rwa [aoh]at this
  have e5:Sp.cK b.aX g.aY (M9 l ms)=true:=by simpa using h5
  have hdr:=(SI hn hs hd hl).1;have hd2:Sp.dY b.aX (M9 l ms')=true:=(SI hn hs (X2 hd hm) (by have:=hm.length_le;omega)).1;have hpl:=hp.length_eq;rw[aeU]at hpl;have hdl:=Lw (f:=aC.dq) (l:=l) (c:=1) (ms:=ms') λ m q=>(hs _ (F7 hd (hin m q))).2.1;have hrl:=Lw (f:=aC.dq) (l:=l) (c:=1) (ms:=r) λ m q=>(hs _ (F7 hd (hp.mem_iff.2 (aou _ q)))).2.1;have hd3:Sp.dY b.aX (M9 l r)=true:=by
   have:=(Sp.O7 hp2).symm.trans hdr;unfold Sp.dY at this ⊢;simp only[aeP,ahA,aoQ,afr]at this ⊢;exact⟨⟨this.1.1,afl (by have:(M9 l r).length<=1*r.length:=hrl;omega)⟩,this.2.2⟩
  rw[Sp.UN hd2 hd3 (by have a:(M9 l ms').length<=1*ms'.length:=hdl;have c:(M9 l r).length<=1*r.length:=hrl;omega) (Sp.WN hp2 e5 hdr)];decide
 ·exact SM (P:=λ m=>Zv b g (l.getD m.toNat bb) m) c7 hin i hi
 ·exact SM (P:=λ m=>Zw g (l.getD m.toNat bb)) c8.2 hin i hi
 exact SM (P:=λ m=>Zx g (l.getD m.toNat bb)) c9.2 hin i hi
def UsJ.brk {b:aI} {l:apW} (h:UsJ b l ms g) (hn:jr b l 0) (hs:SmN l) (hl:ms.length<=30) (hm:ms'.Sublist ms):kC b l ms' g false 0:=
 SN (acn hn hs h.df hl h.ag h.ow (λ i hi f=>h.fn _ (getD_in 0 om) f)) hs hl hm
def Nj {b_:aI} {l_:apW} {M_:apU} {g_:ak} {d_:Int} (h1:xQ b_) (h2:ZP b_.aM) (h3:Ck l_) (h4:M_.length<=9999) (h5:ka g_) (hk:UsJ b_ l_ M_ g_):
  W (wH b_ l_ M_ g_ d_) (λ r=>r.2=0->ka r.1/\r.1.Uses.length<=g_.Uses.length/\UsJ b_ l_ (M_.filter λ y=>y != d_) r.1):=by
 obtain⟨z1,z2,z3,z4,z5,z6⟩:=id h5;unfold wH;refine ar (F8 h1 h2 h3 om h5) λ v1 hv1=>?_;apply br<;>intro c1
 ·have c1:=cG c1;exact ai λ e=>absurd e c1
 refine ar (F9 om) λ v2 _=>?_;refine br (λ c2=>ai nofun) (λ c2=>?_);refine ar (Bg om) λ v3 hv3=>?_;subst hv3;have hl:(M_.filter λ y=>y != d_).length<=M_.length:=aj8 _ _;refine ar (x8 h1 h2 h3 om om) λ v4 ⟨hga,hul,hv4⟩=>?_;refine ai λ e=>?_;obtain⟨_,hdf,hag⟩:=hv4 e;have Yy:=hag.us;dsimp only at Yy;have hdv:∀u∈v4.2.2.2.2.2.2.2,u.dE∈M_.filter λ y=>y != d_:=λ u hu=>by
  rw[Yy]at hu;exact ajO.1 (ajK.1 hu).2
 exact⟨⟨hga.a,hga.b,hga.c,by dsimp only;omega,hga.d,hga.e⟩,hul,⟨hdv,by dsimp only;rw[Yy];exact W5 hk.ow _,by dsimp only;rw[Yy];exact aeJ hk.fn λ i hi=>(ajK.1 hi).1,hdf,⟨hag.st,hag.ra,(Kj hdv).symm,hag.re,hag.po⟩⟩⟩
structure anl (r:aI×apW×ak×ak×apU×Bool×bX):Prop where
 bd:Y2 r.1
 nl:r.2.1.length<=5
 nd:∀x∈r.2.1,VB r.1 r.2.1.length x
 gf:ka r.2.2.1
 gt:ka r.2.2.2.1
 uf:r.2.2.1.Uses.length<=40
 ut:r.2.2.2.1.Uses.length<=40
 ml:r.2.2.2.2.1.length<=5
 ok:r.2.2.2.2.2.1=true->qN r.2.1 r.2.2.2.2.1/\kC r.1 r.2.1 r.2.2.2.2.1 r.2.2.1 false 0/\kC r.1 r.2.1 r.2.2.2.2.1 r.2.2.2.1 false 0
def PA {bI:bX} (h1:0<=bI.At) (h2:bI.L.length<=600):W (zl bI) anl:=by
 unfold zl;refine ar (JR h1 h2) λ v1 ⟨b1,b2,b3⟩=>?_;refine ar (Gb b1 om om b2 b3) λ v2 ⟨n1,n2,n3,n4⟩=>?_;have hbs:=ach b1;have hgs:ZP v1.1.aM:=λ g hg=>by have:=b1.gr g hg;omega
 have hgn:=b1.ngr;have hns:Ck v2.1:=⟨om,λ n hn=>by have a:=(n2 n hn).rs.1;have c:=(n2 n hn).pr.1;omega⟩;refine ar (Qw hbs hgs) λ v3 ⟨s1,s2,s3⟩=>?_;refine br (λ _=>ai ⟨b1,by dsimp only;omega,n2,s1,s1,by dsimp only;rw[s2];simp,by dsimp only;rw[s2];simp,by simp,nofun⟩) (λ c0=>?_);obtain⟨sb,sa⟩:=s3 (by simpa using c0);have hn:=acD sb om n2;have hs:SmN v2.1:=λ x hx=>⟨(n2 x hx).lm.1,(n2 x hx).dw.1,(n2 x hx).fw.1⟩
 refine bu (λ g1:(Int×apU×Int×apU×apV×apU×apZ×apV×apV×apU)=>0<=g1.1/\g1.1<=v2.1.length/\0<=g1.2.2.1/\g1.2.1.length<=600/\ka ⟨g1.2.2.2.1,⟨g1.2.2.2.2.1,g1.2.2.2.2.2.1⟩,g1.2.2.2.2.2.2.1,g1.2.2.2.2.2.2.2.1,g1.2.2.2.2.2.2.2.2.1⟩/\g1.2.2.2.2.2.2.1.length<=2*g1.1.toNat/\g1.2.2.2.2.2.2.2.2.2.length<=g1.1.toNat/\UsJ v1.1 v2.1 g1.2.2.2.2.2.2.2.2.2 ⟨g1.2.2.2.1,⟨g1.2.2.2.2.1,g1.2.2.2.2.2.1⟩,g1.2.2.2.2.2.2.1,g1.2.2.2.2.2.2.2.1,g1.2.2.2.2.2.2.2.2.1⟩) (λ g1=>(v2.1.length - g1.1).toNat) ?_ ⟨ob,ob,n3,n4,s1,by dsimp only;rw[s2];simp,by simp,⟨by dsimp only;rw[s2];exact nofun,by dsimp only;rw[s2];exact λ i hi=>by(simp at hi;omega),nofun,λ i hi=>by(simp at hi;omega),by rw[<- s2]at sa;exact⟨sa.st,sa.ra,sa.us,sa.re,sa.po⟩⟩⟩;intro ab g1 ⟨a1,a2,a3,a4,a5,a6,a7,a8⟩ ih1;unfold FC;refine wi ?_ ?_<;>intro c
 ·have hfx:=(n2 _ (getD_in (i:=g1.1.toNat) bb om)).fw.1;have e:(g1.1+1).toNat=g1.1.toNat+1:=by omega
  refine ar (x9 hbs hgs om hns om a5 (by dsimp only;omega) a8.ow a8.dv a8.fn) λ v8 wJ=>?_;apply br<;>intro c2
  ·refine ar (bJ om a3 a4) λ v9 Lj=>?_;obtain⟨_,_,_,q1,q2⟩:=Lj;apply br<;>intro c3
   ·have c4:v8.2.2=0:=by
     simp only[aeP,ajZ]at c3;exact c3.1
    obtain⟨⟨r1,r2⟩,r3,r4,r5,r6,r7⟩:=wJ c4;dsimp only at r2;refine aF (by unfold big;omega) ?_;refine wn ?_;exact ih1 _ ⟨ob,ob,q1,q2,r1,by dsimp only;rw[e];omega,by dsimp only;rw[aeU,afT,e];omega,⟨r3,r4,r5,r6,r7⟩⟩ ob
   refine wn ?_;exact ih1 _ ⟨ob,ob,q1,q2,a5,by dsimp only;rw[e];omega,by dsimp only;rw[e];omega,a8⟩ ob
  refine aF (by cases h:(v8.2.2==(0:Int))with | false=>rfl | true=>rw[h]at c2;cases c2) ?_;refine wn ?_;exact ih1 _ ⟨ob,ob,a3,a4,a5,by dsimp only;rw[e];omega,by dsimp only;rw[e];omega,a8⟩ ob
 refine aF (by unfold big;omega) ?_;refine bu (λ g2:(apU×Int×apU×Int×apU×apV×apU×apZ×apV×apV)=>g2.1.length<=5/\0<=g2.2.1/\g2.2.1<=g1.2.2.2.2.2.2.2.2.2.length/\0<=g2.2.2.2.1/\g2.2.2.1.length<=600/\ka ⟨g2.2.2.2.2.1,⟨g2.2.2.2.2.2.1,g2.2.2.2.2.2.2.1⟩,g2.2.2.2.2.2.2.2.1,g2.2.2.2.2.2.2.2.2.1,g2.2.2.2.2.2.2.2.2.2⟩/\g2.2.2.2.2.2.2.2.1.length<=10/\UsJ v1.1 v2.1 g2.1 ⟨g2.2.2.2.2.1,⟨g2.2.2.2.2.2.1,g2.2.2.2.2.2.2.1⟩,g2.2.2.2.2.2.2.2.1,g2.2.2.2.2.2.2.2.2.1,g2.2.2.2.2.2.2.2.2.2⟩/\g2.1.Sublist g1.2.2.2.2.2.2.2.2.2) (λ g2=>(g1.2.2.2.2.2.2.2.2.2.length - g2.2.1).toNat) ?_ ⟨by dsimp only;omega,ob,ob,a3,a4,a5,by dsimp only;omega,a8,List.Sublist.refl _⟩;intro cy g2 ⟨d0,d1,d2,d3,d4,d5,d6,d7,d8⟩ ih2;unfold DC;apply br<;>intro c2
 ·have c2:=cG c2;refine wn ?_;unfold vj;refine ar (bJ om d3 d4) λ v16 Si=>?_;obtain⟨_,_,_,q1,q2⟩:=Si;apply br<;>intro c3
  ·refine ar (Nj hbs hgs hns om d5 d7) λ v17 aes=>?_;apply br<;>intro c4
   ·have c4:=cG c4;obtain⟨r1,r2,r3⟩:=aes c4;dsimp only at r2;refine ar (Bg om) λ v18 ag8=>?_;subst ag8;have hfl:(g2.1.filter λ y=>y != g1.2.2.2.2.2.2.2.2.2.getD g2.2.1.toNat 0).length<=g2.1.length:=aj8 _ _;refine wn ?_;exact ih2 _ ⟨by dsimp only;omega,ob,ob,q1,q2,r1,by dsimp only;omega,r3,aoM.trans d8⟩ ob
   refine wn ?_;exact ih2 _ ⟨by dsimp only;omega,ob,ob,q1,q2,d5,by dsimp only;omega,d7,d8⟩ ob
  refine wn ?_;exact ih2 _ ⟨by dsimp only;omega,ob,ob,q1,q2,d5,by dsimp only;omega,d7,d8⟩ ob
 have c2:=cG c2;refine aF (by unfold big;omega) ?_;refine bu (λ g6:(Int×apU×apV×apU×apZ×apV×apV×apU)=>0<=g6.1/\g6.1<=v2.1.length/\ka ⟨g6.2.1,⟨g6.2.2.1,g6.2.2.2.1⟩,g6.2.2.2.2.1,g6.2.2.2.2.2.1,g6.2.2.2.2.2.2.1⟩/\g6.2.2.2.2.1.length<=10+2*g6.1.toNat/\g6.2.2.2.2.2.2.2.length<=5+g6.1.toNat/\UsJ v1.1 v2.1 g6.2.2.2.2.2.2.2 ⟨g6.2.1,⟨g6.2.2.1,g6.2.2.2.1⟩,g6.2.2.2.2.1,g6.2.2.2.2.2.1,g6.2.2.2.2.2.2.1⟩/\g2.1.Sublist g6.2.2.2.2.2.2.2) (λ g6=>(v2.1.length - g6.1).toNat) ?_ ⟨ob,ob,d5,by dsimp only;omega,by dsimp only;omega,d7,List.Sublist.refl _⟩;intro fL g6 ⟨e1,e2,e3,e4,e5,e6,e7⟩ ih6;unfold DB;refine wi ?_ ?_<;>intro c5
 ·have hfx:=(n2 _ (getD_in (i:=g6.1.toNat) bb om)).fw.1;have e:(g6.1+1).toNat=g6.1.toNat+1:=by omega
  refine ar (x9 hbs hgs om hns om e3 (by dsimp only;omega) e6.ow e6.dv e6.fn) λ v23 anm=>?_;refine ar (Vd om) λ v24 hv24=>?_;apply br<;>intro c6
  ·have c7:v23.2.2=0:=by
    simp only[aeP,ajZ]at c6;exact c6.2
   obtain⟨⟨r1,r2⟩,r3,r4,r5,r6,r7⟩:=anm c7;dsimp only at r2;refine aF (by unfold big;omega) ?_;refine wn ?_;exact ih6 _ ⟨ob,ob,r1,by dsimp only;rw[e];omega,by dsimp only;rw[aeU,afT,e];omega,⟨r3,r4,r5,r6,r7⟩,e7.trans (List.sublist_append_left _ _)⟩ ob
  refine wn ?_;exact ih6 _ ⟨ob,ob,e3,by dsimp only;rw[e];omega,by dsimp only;rw[e];omega,e6,e7⟩ ob
 refine ar (bJ om d3 d4) λ v26 _=>?_;have kf:=a8.brk hn hs om d8;have kt:=e6.brk hn hs om e7;apply br<;>intro _
 ·unfold mj;exact ai ⟨b1,by dsimp only;omega,n2,e3,a5,by dsimp only;omega,by dsimp only;omega,d0,λ _=>⟨d7.df,kt,kf⟩⟩
 unfold mj;exact ai ⟨b1,by dsimp only;omega,n2,a5,e3,by dsimp only;omega,by dsimp only;omega,d0,λ _=>⟨d7.df,kf,kt⟩⟩
def Ve (l:apZ):Prop:=(l.map λ u=>u.cX.aZ).Nodup
structure Ta (g h:ak):Prop where
 st:g.Setting=h.Setting
 on:g.aY.On=h.aY.On
 lv:g.aY.aT=h.aY.aT
 re:g.Released=h.Released
 po:g.bg=h.bg
 us:(g.Uses.map ah.cX).Perm (h.Uses.map ah.cX)
def Ta.refl (g:ak):Ta g g:=⟨rfl,rfl,rfl,rfl,rfl,.refl _⟩
variable {h:ak}
def Ta.symm (q:Ta g h):Ta h g:=⟨q.st.symm,q.on.symm,q.lv.symm,q.re.symm,q.po.symm,q.us.symm⟩
def Ta.trans {k:ak} (q:Ta g h) (r:Ta h k):Ta g k:=⟨q.st.trans r.st,q.on.trans r.on,q.lv.trans r.lv,q.re.trans r.re,q.po.trans r.po,q.us.trans r.us⟩
def gpU (u:Int) (x:ee):Bool:=!(x.aZ==u)
def PV (u:Int) (l:aqb):aqb:=l.filter (gpU u)
def aeL (l:apZ):(l.map λ u=>u.cX.aZ)=(l.map ah.cX).map ee.aZ:=by rw[List.map_map];rfl
variable {u:Int}
def acE:∀ {l:apZ},Ve l->(iO u l).map ah.cX=PV u (l.map ah.cX):=by
 intro l;induction l with
 | nil=>intro _;rfl
 | cons x l ih=>
  intro h;unfold Ve at h;rw[aiX,aom]at h;obtain⟨h1,h2⟩:=h;by_cases q:x.cX.aZ=u
  ·have e1:iO u (x::l)=l:=by
    unfold iO uM;rw[show(x::l).any (qM u)=true by simp[qM,q]];simp[qM,q,ao2]
   rw[e1];unfold PV;rw[aiX,ajX,aeV (by simp[gpU,q])];refine(aoi.2 λ y hy=>?_).symm;obtain⟨z,hz,rfl⟩:=aio.1 hy;have:z.cX.aZ≠u:=λ e=>h1 (by rw[q,<- e];exact aio.2 ⟨z,hz,rfl⟩);simp[gpU,this]
  have e1:iO u (x::l)=x::iO u l:=by
   unfold iO uM;have hb:qM u x=false:=by simp[qM,q]
   rw[akp,hb,anU];cases hc:l.any (qM u)with
   | false=>rfl
   | true=>
    rw[ao2,hb];simp only[ags,apa];rw[afl om,afl om];simp
  rw[e1,aiX,ih h2,aiX];unfold PV;rw[ajX,afc (by simp[gpU,q])]
def ss {l:apZ}:Ve l↔((l.map ah.cX).map ee.aZ).Nodup:=by unfold Ve;rw[aeL]
def VC (u v:Int) (l:aqb):aqb:=if 0<v then l++[⟨u,v - 1⟩]else l
def acF (u v:Int) (l:apZ):(nB u v l).map ah.cX=VC u v (l.map ah.cX):=by
 unfold nB VC;by_cases h:0<v
 ·rw[afl h,afc h];simp
 rw[afe h,aeV h];rfl
def ajw (h:(l.map ee.aZ).Nodup):((PV u l).map ee.aZ).Nodup/\u ∉ (PV u l).map ee.aZ:=by
 refine⟨List.Nodup.sublist ((aoM).map _) h,λ hm=>?_⟩;obtain⟨x,hx,e⟩:=aio.1 hm;have:=(ajK.1 hx).2;simp[gpU,e]at this
def ajx {v:Int} (h:(l.map ee.aZ).Nodup) (hu:u ∉ l.map ee.aZ):((VC u v l).map ee.aZ).Nodup:=by
 unfold VC;split
 ·rw[akj,apN];refine⟨h,by simp,λ x hx y hy=>?_⟩;simp at hy;subst hy;exact λ e=>hu (e ▸ hx)
 exact h
structure SO (g:ak):Prop where
 gp:Ve g.Uses
 st:∀x∈g.Setting,0<=x/\x<=4611686018427387904
 lv:∀x∈g.aY.aT,0<=x/\x<=4611686018427387904
 fn:∀u∈g.Uses.map ah.cX,0<=u.bD
 fb:∀u∈g.Uses.map ah.cX,u.bD<4611686018427387904
def Qx (b:Bool):Int:=if b then 1 else 0
def Qy (l:aqb) (u:Int):Int:=match l.find? (λ x=>x.aZ==u)with
 | some x=>x.bD+1
 | none=>0
def oE (g:ak) (w:aw):Int:=
 if w.bY=1 then g.Setting.getD w.Unit.toNat 0
 else if w.bY=2 then g.aY.aT.getD w.Unit.toNat 0
 else if w.bY=3 then Qx (g.aY.On.getD w.Unit.toNat false)
 else if w.bY=11 then Qx (g.Released.getD w.Unit.toNat false)
 else if w.bY=12 then Qx (g.bg.getD w.Unit.toNat false)
 else Qy (g.Uses.map ah.cX) w.Unit
def Qz (g:ak) (w:aw):aw:=⟨w.bY,w.Unit,oE g w⟩
variable {α:Type}
def Gc {l:List α} {i:Nat} {v d:α} (h:i<l.length):(l.set i v).set i (l.getD i d)=l:=by
 rw[aog,ad7,aeA h];exact akc h
def pf {l:List α} {v:α} (h:0<=u/\u<l.length):nA l u v=(true,l.set u.toNat v):=by
 unfold nA;rw[afe om,afe om];rfl
inductive PW (g:ak) (w:aw):ak->Prop
 | k1 (k:w.bY=1) (u0:0<=w.Unit) (u1:w.Unit<g.Setting.length) (v0:0<=w.Value/\w.Value<=4611686018427387904):PW g w { g with Setting:=g.Setting.set w.Unit.toNat w.Value }
 | k2 (k:w.bY=2) (u0:0<=w.Unit) (u1:w.Unit<g.aY.aT.length) (v0:0<=w.Value/\w.Value<=4611686018427387904):PW g w { g with aY:=⟨g.aY.On,g.aY.aT.set w.Unit.toNat w.Value⟩ }
 | k3 (k:w.bY=3) (u0:0<=w.Unit) (u1:w.Unit<g.aY.On.length) (v0:0<=w.Value) (v1:w.Value<=1):PW g w { g with aY:=⟨g.aY.On.set w.Unit.toNat (w.Value==1),g.aY.aT⟩ }
 | k11 (k:w.bY=11) (u0:0<=w.Unit) (u1:w.Unit<g.Released.length) (v0:0<=w.Value) (v1:w.Value<=1):PW g w { g with Released:=g.Released.set w.Unit.toNat (w.Value==1) }
 | k12 (k:w.bY=12) (u0:0<=w.Unit) (u1:w.Unit<g.bg.length) (v0:0<=w.Value) (v1:w.Value<=1):PW g w { g with bg:=g.bg.set w.Unit.toNat (w.Value==1) }
 | k10 (k:w.bY=10) (u0:0<=w.Unit) (u1:w.Unit<=23) (v0:0<=w.Value/\w.Value<=4611686018427387904):PW g w { g with Uses:=nB w.Unit w.Value (iO w.Unit g.Uses) }
variable {g':ak} {w:aw}
def SP (h:PW g w g'):cW w g=(true,g'):=by
 cases h with
 | k1 k u0 u1 v0=>unfold cW;rw[k,afe om,pf ⟨u0,u1⟩];rfl
 | k2 k u0 u1 v0=>unfold cW;rw[k,afe om,pf ⟨u0,u1⟩];rfl
 | k3 k u0 u1 v0 v1=>unfold cW;rw[k,afe (show ¬ w.Value<0 by omega),afl v1,pf ⟨u0,u1⟩];rfl
 | k11 k u0 u1 v0 v1=>unfold cW;rw[k,afe (show ¬ w.Value<0 by omega),afl v1,pf ⟨u0,u1⟩];rfl
 | k12 k u0 u1 v0 v1=>unfold cW;rw[k,afe (show ¬ w.Value<0 by omega),afl v1,pf ⟨u0,u1⟩];rfl
 | k10 k u0 u1 v0=>unfold cW;rw[k,afe (show ¬ w.Value<0 by omega),afl u0,afl u1];rfl
def W6 (b:Bool):(Qx b==1)=b:=by cases b<;>rfl
def Ly (b:Bool):0<=Qx b/\Qx b<=1:=by cases b<;>decide
def acG (h:(l.map ee.aZ).Nodup) (hf:∀u∈l,0<=u.bD) (u v:Int):(VC u (Qy l u) (PV u (VC u v (PV u l)))).Perm l:=by
 have e1:PV u (VC u v (PV u l))=PV u l:=by
  have e0:PV u (PV u l)=PV u l:=aoi.2 λ x hx=>(ajK.1 hx).2;unfold VC;split
  ·unfold PV at e0 ⊢;rw[apF,e0,ajX,aeV (by simp[gpU]),List.filter_nil,aiN]
  exact e0
 rw[e1];clear e1;induction l with
 | nil=>exact .refl _
 | cons x l ih=>
  rw[aiX,aom]at h;have hx:=hf x ajN;by_cases q:x.aZ=u
  ·have e2:PV u (x::l)=l:=by
    unfold PV;rw[ajX,aeV (by simp[gpU,q])];refine aoi.2 λ y hy=>?_;have:y.aZ≠u:=λ e=>h.1 (by rw[q,<- e];exact aio.2 ⟨y,hy,rfl⟩);simp[gpU,this]
   have e3:Qy (x::l) u=x.bD+1:=by
    unfold Qy;rw[List.find?_cons_of_pos (by simp[q])]
   rw[e2,e3];unfold VC;rw[afc om];have e4:(⟨u,x.bD+1 - 1⟩:ee)=x:=by
    rw[apG,<- q]
   rw[e4];exact List.perm_append_comm
  have e2:PV u (x::l)=x::PV u l:=by
   unfold PV;rw[ajX,afc (by simp[gpU,q])]
  have e3:Qy (x::l) u=Qy l u:=by
   unfold Qy;rw[List.find?_cons_of_neg (by simp[q])]
  rw[e2,e3];have:=ih h.2 (λ y hy=>hf y (ahV _ hy));unfold VC at this ⊢;split
  ·rename_i hp;rw[afc hp]at this;exact this.cons x
  rename_i hp;rw[aeV hp]at this;exact this.cons x
def Ct (hg:Ve g.Uses) (u v:Int):(nB u v (iO u g.Uses)).map ah.cX=VC u v (PV u (g.Uses.map ah.cX)):=by rw[acF,acE hg]
def X3 {l:apU} (h:∀x∈l,0<=x/\x<=4611686018427387904) (i:Nat):0<=l.getD i 0/\l.getD i 0<=4611686018427387904:=by
 by_cases q:i<l.length
 ·rw[ad7,aeA q];exact h _ (ai1 q)
 rw[ad7,anr om];exact⟨air _,by decide⟩
def ajy {B:Int} (h:∀u∈l,0<=u.bD) (h2:∀u∈l,u.bD<B) (hB:0<=B) (u:Int):0<=Qy l u/\Qy l u<=B:=by
 unfold Qy;cases q:l.find? (λ x=>x.aZ==u)with
 | none=>exact⟨air _,hB⟩
 | some x=>
  have:=h x (List.mem_of_find?_eq_some q);have:=h2 x (List.mem_of_find?_eq_some q);exact⟨by show 0<=x.bD+1;omega,by show x.bD+1<=B;omega⟩
def SO.ap (hg:SO g) (h:PW g w g'):SO g':=by
 have hset:∀ {l:apU} {i:Nat} {v:Int},(∀x∈l,0<=x/\x<=4611686018427387904)->(0<=v/\v<=4611686018427387904)->∀x∈l.set i v,0<=x/\x<=4611686018427387904:=λ hl hv x hx=>by
  rcases List.mem_or_eq_of_mem_set hx with q | rfl
  ·exact hl x q
  exact hv
 cases h with
 | k1 k u0 u1 v0=>exact⟨hg.gp,hset hg.st v0,hg.lv,hg.fn,hg.fb⟩
 | k2 k u0 u1 v0=>exact⟨hg.gp,hg.st,hset hg.lv v0,hg.fn,hg.fb⟩
 | k3 | k11 | k12=>exact⟨hg.gp,hg.st,hg.lv,hg.fn,hg.fb⟩
 | k10 k u0 u1 v0=>
  refine⟨?_,hg.st,hg.lv,?_,?_⟩
  ·have:=ajw (u:=w.Unit) (ss.1 hg.gp);rw[ss];show((nB w.Unit w.Value (iO w.Unit g.Uses)).map ah.cX |>.map ee.aZ).Nodup;rw[Ct hg.gp];exact ajx this.1 this.2
  ·show ∀u∈(nB w.Unit w.Value (iO w.Unit g.Uses)).map ah.cX,0<=u.bD;rw[Ct hg.gp];intro u hu;unfold VC at hu;split at hu
   ·rcases ahL.1 hu with hu | hu
    ·exact hg.fn u (ajK.1 hu).1
    simp at hu;subst hu;show 0<=w.Value - 1;omega
   exact hg.fn u (ajK.1 hu).1
  show ∀u∈(nB w.Unit w.Value (iO w.Unit g.Uses)).map ah.cX,u.bD<4611686018427387904;rw[Ct hg.gp];intro u hu;unfold VC at hu;split at hu
  ·rcases ahL.1 hu with hu | hu
   ·exact hg.fb u (ajK.1 hu).1
   simp at hu;subst hu;show w.Value - 1<4611686018427387904;omega
  exact hg.fb u (ajK.1 hu).1
def aeM (hg:SO g) (h:PW g w g'):∃g'',PW g' (Qz g w) g''/\Ta g'' g:=by
 have hg':=hg.ap h;cases h with
 | k1 k u0 u1 v0=>
  have e:oE g w=g.Setting.getD w.Unit.toNat 0:=by unfold oE;rw[afc k]
  refine⟨_,.k1 (w:=Qz g w) k u0 (by rw[afx];exact u1) (by show 0<=oE g w/\oE g w<=4611686018427387904;rw[e];exact X3 hg.st _),⟨?_,rfl,rfl,rfl,rfl,.refl _⟩⟩;show(g.Setting.set w.Unit.toNat w.Value).set w.Unit.toNat (oE g w)=_;rw[e];exact Gc om
 | k2 k u0 u1 v0=>
  have e:oE g w=g.aY.aT.getD w.Unit.toNat 0:=by unfold oE;rw[aeV om,afc k]
  refine⟨_,.k2 (w:=Qz g w) k u0 (by rw[afx];exact u1) (by show 0<=oE g w/\oE g w<=4611686018427387904;rw[e];exact X3 hg.lv _),⟨rfl,rfl,?_,rfl,rfl,.refl _⟩⟩;show(g.aY.aT.set w.Unit.toNat w.Value).set w.Unit.toNat (oE g w)=_;rw[e];exact Gc om
 | k3 k u0 u1 v0 v1=>
  have e:oE g w=Qx (g.aY.On.getD w.Unit.toNat false):=by unfold oE;rw[aeV om,aeV om,afc k]
  refine⟨_,.k3 (w:=Qz g w) k u0 (by rw[afx];exact u1) (by show 0<=oE g w;rw[e];exact(Ly _).1) (by show oE g w<=1;rw[e];exact(Ly _).2),⟨rfl,?_,rfl,rfl,rfl,.refl _⟩⟩;show(g.aY.On.set w.Unit.toNat (w.Value==1)).set w.Unit.toNat (oE g w==1)=_;rw[e,W6];exact Gc om
 | k11 k u0 u1 v0 v1=>
  have e:oE g w=Qx (g.Released.getD w.Unit.toNat false):=by unfold oE;rw[aeV om,aeV om,aeV om,afc k]
  refine⟨_,.k11 (w:=Qz g w) k u0 (by rw[afx];exact u1) (by show 0<=oE g w;rw[e];exact(Ly _).1) (by show oE g w<=1;rw[e];exact(Ly _).2),⟨rfl,rfl,rfl,?_,rfl,.refl _⟩⟩;show(g.Released.set w.Unit.toNat (w.Value==1)).set w.Unit.toNat (oE g w==1)=_;rw[e,W6];exact Gc om
 | k12 k u0 u1 v0 v1=>
  have e:oE g w=Qx (g.bg.getD w.Unit.toNat false):=by unfold oE;rw[aeV om,aeV om,aeV om,aeV om,afc k]
  refine⟨_,.k12 (w:=Qz g w) k u0 (by rw[afx];exact u1) (by show 0<=oE g w;rw[e];exact(Ly _).1) (by show oE g w<=1;rw[e];exact(Ly _).2),⟨rfl,rfl,rfl,rfl,?_,.refl _⟩⟩;show(g.bg.set w.Unit.toNat (w.Value==1)).set w.Unit.toNat (oE g w==1)=_;rw[e,W6];exact Gc om
 | k10 k u0 u1 v0=>
  have e:oE g w=Qy (g.Uses.map ah.cX) w.Unit:=by unfold oE;rw[aeV om,aeV om,aeV om,aeV om,aeV om]
  refine⟨_,.k10 (w:=Qz g w) k u0 u1 (by show 0<=oE g w/\oE g w<=4611686018427387904;rw[e];exact ajy hg.fn hg.fb (by decide) _),⟨rfl,rfl,rfl,rfl,rfl,?_⟩⟩;show((nB w.Unit (oE g w) (iO w.Unit (nB w.Unit w.Value (iO w.Unit g.Uses)))).map ah.cX).Perm _;rw[Ct (g:={ g with Uses:=nB w.Unit w.Value (iO w.Unit g.Uses) }) hg'.gp,e,Ct hg.gp];exact acG (ss.1 hg.gp) hg.fn _ _
def aeN {m:aqb} (h:l.Perm m):(PV u l).Perm (PV u m):=h.filter _
def aeO {v:Int} {m:aqb} (h:l.Perm m):(VC u v l).Perm (VC u v m):=by
 unfold VC;split
 ·exact h.append_right _
 exact h
def SO.eqv (hg:SO g) (e:Ta g h):SO h where
 gp:=ss.2 ((e.us.map _).nodup_iff.1 (ss.1 hg.gp))
 st:=by rw[<- e.st];exact hg.st
 lv:=by rw[<- e.lv];exact hg.lv
 fn:=λ u hu=>hg.fn u (e.us.mem_iff.2 hu)
 fb:=λ u hu=>hg.fb u (e.us.mem_iff.2 hu)
def ahB (hg:SO g) (e:Ta g h) (a:PW g w g'):∃h',PW h w h'/\Ta g' h':=by
 have hh:=hg.eqv e;obtain⟨e1,e2,e3,e4,e5,e6⟩:=e;cases a with
 | k1 k u0 u1 v0=>exact⟨_,.k1 k u0 (by rw[<- e1];exact u1) v0,⟨by dsimp only;rw[e1],e2,e3,e4,e5,e6⟩⟩
 | k2 k u0 u1 v0=>exact⟨_,.k2 k u0 (by rw[<- e3];exact u1) v0,⟨e1,e2,by dsimp only;rw[e3],e4,e5,e6⟩⟩
 | k3 k u0 u1 v0 v1=>exact⟨_,.k3 k u0 (by rw[<- e2];exact u1) v0 v1,⟨e1,by dsimp only;rw[e2],e3,e4,e5,e6⟩⟩
 | k11 k u0 u1 v0 v1=>exact⟨_,.k11 k u0 (by rw[<- e4];exact u1) v0 v1,⟨e1,e2,e3,by dsimp only;rw[e4],e5,e6⟩⟩
 | k12 k u0 u1 v0 v1=>exact⟨_,.k12 k u0 (by rw[<- e5];exact u1) v0 v1,⟨e1,e2,e3,e4,by dsimp only;rw[e5],e6⟩⟩
 | k10 k u0 u1 v0=>exact⟨_,.k10 k u0 u1 v0,⟨e1,e2,e3,e4,e5,by
   show((nB w.Unit w.Value (iO w.Unit g.Uses)).map ah.cX).Perm ((nB w.Unit w.Value (iO w.Unit h.Uses)).map ah.cX);rw[Ct hg.gp,Ct hh.gp];exact aeO (aeN e6)⟩⟩
inductive W7:ak->apX->ak->Prop
 | nil (g:ak):W7 g [] g
 | cons {g g1 h:ak} {w:aw} {ws:apX} (a:PW g w g1) (b:W7 g1 ws h):W7 g (w::ws) h
def W7.app {k:ak} {u v:apX} (a:W7 g u h) (b:W7 h v k):W7 g (u++v) k:=by
 induction a with
 | nil=>exact b
 | cons a _ ih=>exact .cons a (ih b)
def W7.one (a:PW g w h):W7 g [w] h:=.cons a (.nil _)
def SO.apL {ws:apX} (hg:SO g) (a:W7 g ws h):SO h:=by
 induction a with
 | nil=>exact hg
 | cons a _ ih=>exact ih (hg.ap a)
def ya:ak->apX->apX
 | _,[]=>[]
 | g,w::ws=>ya (cW w g).2 ws++[Qz g w]
def acH (ws:apX):∀g,(ya g ws).length=ws.length:=by
 induction ws with
 | nil=>intro g;rfl
 | cons w ws ih=>intro g;show(ya _ ws++_).length=_;rw[aeU,ih];rfl
structure Bts (n:Nat) (P:Nat->Bool) (l:apV):Prop where
 len:l.length=n
 at_:∀j,j<n->l.getD j false=P j
variable {n:Nat} {P:Nat->Bool}
def Bts.ext {Q:Nat->Bool} {l m:apV} (h:Bts n P l) (k:Bts n Q m) (e:∀j,j<n->P j=Q j):l=m:=by
 refine aod (by rw[h.len,k.len]) λ j h1 h2=>?_;have a:=h.at_ j (by rw[<- h.len];exact h1);have b:=k.at_ j (by rw[<- k.len];exact h2);rw[ad7,aeA h1,akP]at a;rw[ad7,aeA h2,akP]at b;rw[a,b];exact e j (by rw[<- h.len];exact h1)
def Bts.set {l:apV} (h:Bts n P l) {i:Nat} (hi:i<n) (v:Bool):Bts n (λ j=>if j=i then v else P j) (l.set i v):=by
 refine⟨by rw[afx];exact h.len,λ j hj=>?_⟩;rw[ad7,anY];by_cases e:j=i
 ·subst e;rw[afc rfl,afc rfl,afc (by rw[h.len];exact hi)];rfl
 rw[aeV (λ k=>e k.symm),aeV e,<- ad7];exact h.at_ j hj
def Bts.ajz {Q:Nat->Bool} {l:apV} (h:Bts n P l) (e:∀j,j<n->P j=Q j):Bts n Q l:=⟨h.len,λ j hj=>(h.at_ j hj).trans (e j hj)⟩
structure ZQ {α:Type} (d:α) (n:Nat) (P:Nat->α) (l:List α):Prop where
 len:l.length=n
 at_:∀j,j<n->l.getD j d=P j
def ZQ.ext {d:α} {P Q:Nat->α} {l m:List α} (h:ZQ d n P l) (k:ZQ d n Q m) (e:∀j,j<n->P j=Q j):l=m:=by
 refine aod (by rw[h.len,k.len]) λ j h1 h2=>?_;have a:=h.at_ j (by rw[<- h.len];exact h1);have b:=k.at_ j (by rw[<- k.len];exact h2);rw[ad7,aeA h1,akP]at a;rw[ad7,aeA h2,akP]at b;rw[a,b];exact e j (by rw[<- h.len];exact h1)
def ZQ.set {d:α} {P:Nat->α} {l:List α} (h:ZQ d n P l) {i:Nat} (hi:i<n) (v:α):ZQ d n (λ j=>if j=i then v else P j) (l.set i v):=by
 refine⟨by rw[afx];exact h.len,λ j hj=>?_⟩;rw[ad7,anY];by_cases e:j=i
 ·subst e;rw[afc rfl,afc rfl,afc (by rw[h.len];exact hi)];rfl
 rw[aeV (λ k=>e k.symm),aeV e,<- ad7];exact h.at_ j hj
def ZQ.ajz {d:α} {P Q:Nat->α} {l:List α} (h:ZQ d n P l) (e:∀j,j<n->P j=Q j):ZQ d n Q l:=⟨h.len,λ j hj=>(h.at_ j hj).trans (e j hj)⟩
def ZQ.self {d:α} (l:List α):ZQ d l.length (λ j=>l.getD j d) l:=⟨rfl,λ _ _=>rfl⟩
def jnL (a b:aK) (j:Nat):Int:=if a.On.getD j false=true then(if b.On.getD j false=true then(if b.aT.getD j 0 > a.aT.getD j 0 then b.aT.getD j 0 else a.aT.getD j 0)else a.aT.getD j 0)else b.aT.getD j 0
end Go.Proofs.YtifekdmmpbcdgaaGreatDoor
namespace Go.Bf
open Go.Ab
section
variable (nb:Nat->Nat->Prop) (a:Nat)
inductive SQ:Nat->Nat->Prop
 | z:SQ 0 a
 | s {k:Nat} {x y:Nat} (h:SQ k x) (n:nb x y):SQ (k+1) y
def Tb (x:Nat) (k:Nat):Prop:=SQ nb a k x/\∀j,SQ nb a j x->k<=j
structure Vf (dn qu:ap0) (D:Nat->Option Nat):Prop where
 a0:D a=some 0
 mem:∀x,(D x).isSome=true↔x∈dn\/x∈qu
 rk:∀x k,D x=some k->SQ nb a k x
 near:∀x∈dn,∀y,nb x y->∃k k',D x=some k/\D y=some k'/\k'<=k+1
 ord:qu.Pairwise λ x y=>∀k k',D x=some k->D y=some k'->k<=k'
 top:∀x,qu.head? = some x->∀y k k',D x=some k->D y=some k'->k'<=k+1
structure yv (x:Nat) (dn rest:ap0) (D:Nat->Option Nat) (V:Nat->Prop):Prop where
 b:Vf nb a dn (x::rest) D
 v:∀y,V y->nb x y->∃k k',D x=some k/\D y=some k'/\k'<=k+1
end
section
variable {nb:Nat->Nat->Prop} {a:Nat}
def fc (D:Nat->Option Nat) (y:Nat) (k:Nat):Nat->Option Nat:=λ z=>if z=y then some k else D z
def Vf.start:Vf nb a [] [a] (λ x=>if x=a then some 0 else none) where
 a0:=afc rfl
 mem:=λ x=>by
  by_cases h:x=a<;>simp[h]
 rk:=λ x k h=>by
  by_cases e:x=a
  ·subst e;simp at h;subst h;exact .z
  simp[e]at h
 near:=λ x h=>by cases h
 ord:=by simp
 top:=λ x h y k k' h1 h2=>by
  by_cases e:y=a
  ·simp[e]at h2;omega
  simp[e]at h2
variable {x:Nat} {dn:ap0} {rest:ap0} {D:Nat->Option Nat}
def Vf.head (h:Vf nb a dn (x::rest) D):∃k,D x=some k:=by
 have:=(h.mem x).2 (.inr ajN);exact ai3.1 this
def Vf.mid (h:Vf nb a dn (x::rest) D):yv nb a x dn rest D (λ _=>False):=⟨h,λ _ h=>h.elim⟩
variable {y:Nat} {V:Nat->Prop}
def yv.old (h:yv nb a x dn rest D V) {k':Nat} (hy:D y=some k'):yv nb a x dn rest D (λ z=>V z\/z=y):=
 ⟨h.b,λ z hz hn=>by
  rcases hz with hz | rfl
  ·exact h.v z hz hn
  obtain⟨k,hk⟩:=h.b.head;exact⟨k,k',hk,hy,h.b.top x rfl z k k' hk hy⟩⟩
def yv.skip (h:yv nb a x dn rest D V) (hn:¬ nb x y):yv nb a x dn rest D (λ z=>V z\/z=y):=
 ⟨h.b,λ z hz hn'=>by
  rcases hz with hz | rfl
  ·exact h.v z hz hn'
  exact absurd hn' hn⟩
variable {k:Nat}
def yv.new (h:yv nb a x dn rest D V) (hx:D x=some k) (hy:D y=none) (hn:nb x y):yv nb a x dn (rest++[y]) (fc D y (k+1)) (λ z=>V z\/z=y):=by
 have e0:∀z q,D z=some q->fc D y (k+1) z=some q:=λ z q hz=>by
  unfold fc;rw[aeV (λ e=>by subst e;rw[hy]at hz;cases hz)];exact hz
 have ey:fc D y (k+1) y=some (k+1):=afc rfl;have inv:∀z q,fc D y (k+1) z=some q->(z=y/\q=k+1)\/(z≠y/\D z=some q):=λ z q hz=>by
  unfold fc at hz;by_cases e:z=y
  ·rw[afc e]at hz;exact .inl ⟨e,(ah1 hz).symm⟩
  rw[aeV e]at hz;exact .inr ⟨e,hz⟩
 refine⟨⟨e0 _ _ h.b.a0,λ z=>?_,λ z q hz=>?_,λ z hz w hw=>?_,?_,λ z hz w q q' h1 h2=>?_⟩,λ z hz hn'=>?_⟩
 ·by_cases e:z=y
  ·subst e;rw[ey];simp
  unfold fc;rw[aeV e,h.b.mem];simp[e]
 ·rcases inv z q hz with⟨rfl,rfl⟩ | ⟨_,h1⟩
  ·exact .s (h.b.rk x k hx) hn
  exact h.b.rk z q h1
 ·obtain⟨q,q',h1,h2,h3⟩:=h.b.near z hz w hw;exact⟨q,q',e0 _ _ h1,e0 _ _ h2,h3⟩
 ·have h1:(x::rest).Pairwise λ x y'=>∀q q',fc D y (k+1) x=some q->fc D y (k+1) y'=some q'->q<=q':=by
   refine List.Pairwise.imp_of_mem ?_ h.b.ord;intro z w hz hw hzw q q' h1 h2;obtain⟨qz,ez⟩:=ai3.1 ((h.b.mem z).2 (.inr hz));obtain⟨qw,ew⟩:=ai3.1 ((h.b.mem w).2 (.inr hw));have a1:=e0 z qz ez;have a2:=e0 w qw ew;rw[h1]at a1;rw[h2]at a2;have a1:=ah1 a1;have a2:=ah1 a2;subst a1 a2;exact hzw q q' ez ew
  rw[<- ajQ];refine List.pairwise_append.2 ⟨h1,by simp,λ z hz w hw q q' g1 g2=>?_⟩;have hw:=ahd.1 hw;subst hw;rw[ey]at g2;have g2:=ah1 g2;obtain⟨qz,ez⟩:=ai3.1 ((h.b.mem z).2 (.inr hz));have a1:=e0 z qz ez;rw[g1]at a1;have a1:=ah1 a1;subst a1;have:=h.b.top x rfl z k q hx ez;omega
 ·have hz:z=x:=(ah1 hz).symm;subst hz;have hq:q=k:=by
   have:=e0 z k hx;rw[h1]at this;exact ah1 this
  subst hq;rcases inv w q' h2 with⟨_,e⟩ | ⟨_,e⟩
  ·omega
  exact h.b.top z rfl w q q' hx e
 rcases hz with hz | rfl
 ·obtain⟨q,q',h1,h2,h3⟩:=h.v z hz hn';exact⟨q,q',e0 _ _ h1,e0 _ _ h2,h3⟩
 exact⟨k,k+1,e0 _ _ hx,ey,afM _⟩
def yv.done (h:yv nb a x dn rest D V) (hV:∀y,nb x y->V y):Vf nb a (dn++[x]) rest D where
 a0:=h.b.a0
 mem:=λ y=>by
  rw[h.b.mem y];simp only[ahL,ah0,ao7,or_false];exact⟨λ q=>by rcases q with q | q | q<;>simp[q],λ q=>by rcases q with(q | q) | q<;>simp[q]⟩
 rk:=h.b.rk
 near:=λ y hy z hz=>by
  rcases ahL.1 hy with hy | hy
  ·exact h.b.near y hy z hz
  have:=ahd.1 hy;subst this;exact h.v z (hV z hz) hz
 ord:=(apH.1 h.b.ord).2
 top:=λ y hy z q q' h1 h2=>by
  obtain⟨k,hk⟩:=h.b.head;have hy:y∈rest:=List.mem_of_mem_head? hy;have a1:=(apH.1 h.b.ord).1 y hy k q hk h1;have a2:=h.b.top x rfl z k q' hk h2;omega
def Vf.reach (h:Vf nb a dn [] D):∀ {k:Nat} {x:Nat},SQ nb a k x->∃k',D x=some k'/\k'<=k:=by
 intro k x hr;induction hr with
 | z=>exact⟨0,h.a0,afM _⟩
 | @s k x y _ hn ih=>
  obtain⟨k',e,hk⟩:=ih;have hx:x∈dn:=by
   have:=(h.mem x).1 (by rw[e];rfl);simpa using this
  obtain⟨q,q',e1,e2,hq⟩:=h.near x hx y hn;rw[e]at e1;have:=ah1 e1;exact⟨q',e2,(by omega)⟩
def Vf.final (h:Vf nb a dn [] D) (x:Nat) (k:Nat):D x=some k↔Tb nb a x k:=by
 constructor
 ·intro e;refine⟨h.rk x k e,λ j hj=>?_⟩;obtain⟨k',e',hk⟩:=h.reach hj;rw[e]at e';have:=ah1 e';omega
 rintro ⟨h1,h2⟩;obtain⟨k',e',hk⟩:=h.reach h1;have:=h2 k' (h.rk x k' e');rw[e'];congr 1;omega
def Vf.none (h:Vf nb a dn [] D) (e:D x=none) (k:Nat):¬ SQ nb a k x:=λ hr=>by
 obtain⟨k',e',_⟩:=h.reach hr;rw[e]at e';cases e'
end
section
variable {nb:Nat->Nat->Prop} {a:Nat}
variable {x:Nat} {dn:ap0} {rest:ap0} {D:Nat->Option Nat} {y:Nat} {V:Nat->Prop} {k:Nat}
def Tb.uniq {k':Nat} (h:Tb nb a x k) (h':Tb nb a x k'):k=k':=Nat.le_antisymm (h.2 _ h'.1) (h'.2 _ h.1)
def Tb.prev (h:Tb nb a y (k+1)):∃x,Tb nb a x k/\nb x y:=by
 obtain⟨h1,h2⟩:=h;cases h1 with
 | @s _ x _ hx hn=>exact⟨x,⟨hx,λ j hj=>by have:=h2 (j+1) (.s hj hn);omega⟩,hn⟩
def Tb.zero (h:Tb nb a y 0):y=a:=by
 obtain⟨h1,_⟩:=h;cases h1;rfl
def Tb.self:Tb nb a a 0:=⟨.z,λ _ _=>ahU _⟩
def SQ.trans {i j:Nat} (h:SQ nb a i x) (h':SQ nb x j y):SQ nb a (i+j) y:=by
 induction h' with
 | z=>exact h
 | s _ hn ih=>exact .s ih hn
def SQ.rev {C:Nat->Prop} (hC:C a) (hs:∀x y,C x->nb x y->C y/\nb y x) (h:SQ nb a k x):C x/\SQ nb x k a:=by
 induction h with
 | z=>exact⟨hC,.z⟩
 | @s k x y _ hn ih=>
  obtain⟨h1,h2⟩:=hs x y ih.1 hn;refine⟨h1,?_⟩;have:=SQ.trans (.s .z h2) ih.2;rwa [apQ]at this
def Tb.rev {C:Nat->Prop} (hC:C a) (hs:∀x y,C x->nb x y->C y/\nb y x) (h:Tb nb a x k):Tb nb x a k:=by
 obtain⟨h1,h2⟩:=h.1.rev hC hs;exact⟨h2,λ j hj=>h.2 j (hj.rev h1 hs).2⟩
end
end Go.Bf
namespace Go.Proofs.YtifekdmmpbcdgaaGreatDoor
open Go.Ab
set_option maxRecDepth 100000
variable {l:apY}
def ua:∀ {s t:apU},VS l s->VS l t->dJ l s=dJ l t->s=t:=by
 induction l with
 | nil=>
  intro s t hs ht _;rw[alU.1 hs.1,alU.1 ht.1]
 | cons c l ih=>
  intro s t hs ht e;obtain⟨x,s,rfl,x0,x1,hs⟩:=J2 hs;obtain⟨y,t,rfl,y0,y1,ht⟩:=J2 ht;have p1:=zV hs;have p2:=zV ht;rw[dJ,dJ]at e;have hd:x.toNat=y.toNat:=by
   rcases anX x.toNat y.toNat with q | q | q
   ·have:(x.toNat+1)*dP l<=y.toNat*dP l:=afK _ om;rw[aip,aoG]at this;omega
   ·exact q
   have:(y.toNat+1)*dP l<=x.toNat*dP l:=afK _ om;rw[aip,aoG]at this;omega
  rw[hd]at e;rw[show x=y by omega,ih hs ht om]
variable {s:apU} {v:Int}
def Gd (h:VS l s) {u:Nat} (hv:0<=v) (hv2:v<(l.getD u az).aE.length):VS l (s.set u v):=by
 refine⟨by rw[afx];exact h.1,λ i hi=>?_⟩;by_cases e:u=i
 ·subst e;rw[ad7,aj3 (by rw[h.1];exact hi)];exact⟨hv,hv2⟩
 rw[ad7,an1 e,<- ad7];exact h.2 i hi
def W8 (x:aP):aP:=⟨x.cF,0,x.cY⟩
def kb (l:apY) (s:apU) (way:ap4):Bool:=ownB l (dx l s)&&!(way.map W8).any (FI (dx l s))
structure NbC (l:apY) (way:ap4) (s:apU) (u:Nat) (v:Int):Prop where
 hu:u<l.length
 v0:0<=v
 v1:v<(l.getD u az).aE.length
 ne:v≠s.getD u 0
 cm:kb l (s.set u v) way=true
def SR (l:apY) (way:ap4) (m n:Nat):Prop:=∃s u v,VS l s/\dJ l s=m/\NbC l way s u v/\dJ l (s.set u v)=n
def okN (l:apY) (way:ap4) (m:Nat):Prop:=∃s,VS l s/\dJ l s=m/\kb l s way=true
variable {way:ap4} {n:Nat}
def SS {m:Nat} (h:okN l way m) (hn:SR l way m n):okN l way n/\SR l way n m:=by
 obtain⟨s0,h1,h2,h3⟩:=h;obtain⟨s,u,v,g1,g2,g3,g4⟩:=hn;have:=ua h1 g1 (h2.trans g2.symm);subst this;have gv:=Gd g1 g3.v0 g3.v1;refine⟨⟨_,gv,g4,g3.cm⟩,s0.set u v,u,s0.getD u 0,gv,g4,?_,?_⟩
 ·have hu:u<s0.length:=by rw[g1.1];exact g3.hu
  have e:(s0.set u v).set u (s0.getD u 0)=s0:=by
   rw[aog,ad7,aeA hu];exact akc hu
  refine⟨g3.hu,(g1.2 u g3.hu).1,(g1.2 u g3.hu).2,?_,by rw[e];exact h3⟩;rw[ad7 (l:=s0.set u v),aj3 hu];exact λ e=>g3.ne e.symm
 have hu:u<s0.length:=by rw[g1.1];exact g3.hu
 have e:(s0.set u v).set u (s0.getD u 0)=s0:=by
  rw[aog,ad7,aeA hu];exact akc hu
 rw[e];exact h2
def ahC (l:apY) (way:ap4) (a:apU) (s:apU) (k:Nat):Prop:=Go.Bf.Tb (SR l way) (dJ l a) (dJ l s) k
def lexLt (u u':Nat) (v v':Int):Prop:=u<u'\/u=u'/\v<v'
structure Nxt (l:apY) (way:ap4) (a:apU) (s:apU) (k:Nat) (u:Nat) (v:Int):Prop where
 nb:NbC l way s u v
 d:ahC l way a (s.set u v) k
 least:∀(u':Nat) (v':Int),u'<l.length->0<=v'->v'<(l.getD u' az).aE.length->lexLt u' u v' v->¬ ahC l way a (s.set u' v') k
inductive PlC (l:apY) (way:ap4) (a:apU):apU->List (Nat×Int)->Prop
 | nil:PlC l way a a []
 | cons {s:apU} {k u:Nat} {v:Int} {ws:List (Nat×Int)} (d:ahC l way a s (k+1)) (n:Nxt l way a s k u v) (h:PlC l way a (s.set u v) ws):PlC l way a s ((u,v)::ws)
variable {i:Nat}
def SU (h:i<l.length):dP (l.drop i)=(l.getD i az).aE.length*dP (l.drop (i+1)):=by
 rw[drop_cons az h,dP]
def aeQ (h:VS l s) (i:Nat):VS (l.drop i) (s.drop i):=by
 refine⟨by rw[ajY,ajY,h.1],λ j hj=>?_⟩;rw[ajY]at hj;have:=h.2 (i+j) om;have e1:(s.drop i).getD j 0=s.getD (i+j) 0:=by
  rw[ad7,aoU,<- ad7]
 have e2:(l.drop i).getD j az=l.getD (i+j) az:=by
  rw[ad7,aoU,<- ad7]
 rw[e1,e2];exact this
def Vg (h:VS l s) (hi:i<l.length):dJ (l.drop i) (s.drop i)=(s.getD i 0).toNat*dP (l.drop (i+1))+dJ (l.drop (i+1)) (s.drop (i+1)):=by
 rw[drop_cons az hi,drop_cons (0:Int) (by rw[h.1];exact hi),dJ]
def aeR (h:VS l s):0<dP l:=Nat.lt_of_le_of_lt (ahU _) (zV h)
structure CkL (l:apY) (way:ap4):Prop where
 ck:cB l=0
 ll:l.length<=2000000
 wl:way.length<=2000000
 wc:∀x∈way,0<=x.cF/\x.cF<l.length
structure Rd (n:Nat) (d:apU) (D:Nat->Option Nat) (q:Nat):Prop where
 len:d.length=n
 at_:∀k,k<n->d.getD k 0=match D k with | some m=>(m:Int) | none => -1
 lt:∀k m,D k=some m->k<n/\m<q
def ajB (d:apU):Nat:=d.countP λ x=>decide (x<0)
variable {D:Nat->Option Nat} {y:Nat} {k:Nat}
def Rd.new {d:apU} {q:Nat} (h:Rd n d D q) (hy:y<n) (hk:k<q):Rd n (d.set y ((k:Int)+1)) (Go.Bf.fc D y (k+1)) (q+1):=by
 refine⟨by rw[afx];exact h.len,λ z hz=>?_,λ z m hm=>?_⟩
 ·rw[ad7,anY];unfold Go.Bf.fc;by_cases e:z=y
  ·subst e;rw[afc rfl,afc (by rw[h.len];exact hz),afc rfl];simp
  rw[aeV (λ q=>e q.symm),aeV e,<- ad7];exact h.at_ z hz
 unfold Go.Bf.fc at hm;by_cases e:z=y
 ·rw[afc e]at hm;have:=ah1 hm;omega
 rw[aeV e]at hm;have:=h.lt z m hm;omega
def DP (l:apY) (s:apU) (u v:Int) (y:Nat):Prop:=∃(u':Nat) (v':Int),u'<l.length/\0<=v'/\v'<(l.getD u' az).aE.length/\((u':Int)<u\/(u':Int)=u/\v'<v)/\y=dJ l (s.set u' v')
structure QuA (l:apY) (way:ap4) (a:apU) (i:Nat) (d:apU) (qu:List apU) (D:Nat->Option Nat):Prop where
 vs:∀q∈qu,VS l q
 rd:Rd (dP l) d D qu.length
 ct:qu.length+ajB d=dP l
 b:Go.Bf.Vf (SR l way) (dJ l a) ((qu.take i).map (dJ l)) ((qu.drop i).map (dJ l)) D
structure QuM (l:apY) (way:ap4) (a:apU) (i:Nat) (pre:List apU) (s:apU) (u v:Int) (d:apU) (qu:List apU) (D:Nat->Option Nat):Prop where
 vs:∀q∈qu,VS l q
 rd:Rd (dP l) d D qu.length
 ct:qu.length+ajB d=dP l
 tk:qu.take (i+1)=pre++[s]
 il:i<qu.length
 b:Go.Bf.yv (SR l way) (dJ l a) (dJ l s) (pre.map (dJ l)) ((qu.drop (i+1)).map (dJ l)) D (DP l s u v)
variable {u:Int}
def QuM.pos {a:apU} {pre:List apU} {d:apU} {qu:List apU} (h:QuM l way a i pre s u v d qu D):∃k,D (dJ l s)=some k/\d.getD (dJ l s) 0=(k:Int)/\k<qu.length:=by
 obtain⟨k,hk⟩:=h.b.b.head;have:=h.rd.lt _ _ hk;refine⟨k,hk,?_,this.2⟩;rw[h.rd.at_ _ this.1,hk]
def wZ (_:0<=u) (_:u<l.length) (_:0<=v) (_:v<(l.getD u.toNat az).aE.length) (y:Nat):DP l s u (v+1) y->DP l s u v y\/y=dJ l (s.set u.toNat v):=by
 rintro ⟨u',v',h1,h2,h3,h4,h5⟩;by_cases e:(u':Int)=u/\v'=v
 ·right;rw[h5,<- e.2,show u.toNat=u' by omega]
 left;exact⟨u',v',h1,h2,h3,om,h5⟩
def Vh (hu0:0<=u) (y:Nat) {n:Int} (hn:((l.getD u.toNat az).aE.length:Int)<=n):DP l s (u+1) 0 y->DP l s u n y:=by
 rintro ⟨u',v',h1,h2,h3,h4,h5⟩;refine⟨u',v',h1,h2,h3,?_,h5⟩;by_cases e:(u':Int)=u
 ·right;refine⟨e,?_⟩;rw[show u.toNat=u' by omega]at hn;omega
 left;omega
variable {a:Nat} {x:Nat} {dn:ap0}
def yv.weak {nb:Nat->Nat->Prop} {rest:ap0} {V V':Nat->Prop} (h:Go.Bf.yv nb a x dn rest D V) (hv:∀y,V' y->V y):Go.Bf.yv nb a x dn rest D V':=⟨h.b,λ y hy=>h.v y (hv y hy)⟩
structure aeS (b:aI) (l:apW) (ms:apU) (g:ak):Prop where
 nd:jr b l 0
 df:qN l ms
 sh:Zs b l g
 su:Sp.cK b.aX g.aY (M9 l ms)=true
 pa:wM b.aM 0
 ow:sP b.aM (g.Uses.map ah.cX)
 da:M1 b.bw 0
 dm:ZN b.bw g.bg
variable {b:aI} {ms:apU} {g:ak}
def SV {l:apW} {bt:Bool} (h:kC b l ms g bt 0):aeS b l ms g:=by
 obtain⟨h1,h⟩:=cV (by decide) h;obtain⟨h2,h⟩:=cV (by decide) h;obtain⟨_,h⟩:=cV (by decide) h;obtain⟨_,h⟩:=cV (by decide) h;obtain⟨h5,h⟩:=cV (by decide) h;obtain⟨h6,h⟩:=cV (by decide) h;obtain⟨_,h⟩:=cV (by decide) h;obtain⟨_,h⟩:=cV (by decide) h;obtain⟨h9,_⟩:=cV (by decide) h;have q2:=ahR.1 h2;have q6:=ahR.1 h6;have q9:=ahR.1 h9;exact⟨ahR.1 h1,q2.1,q2.2,by simpa using h5,q6.1,q6.2,q9.1.1,q9.1.2⟩
def SW {p:bq} {l:aqb} (h:sP p l):(l.map ee.aZ).Nodup:=by
 rw[List.nodup_iff_pairwise_ne,aor,aj5];intro i j hi hj hij;have:=(h j om).2.1 i hij;rw[ad7,aeA hi,ad7,aeA hj]at this;exact this
variable {r:aK}
def Bh {l:ap1} (h:Sp.iM l r=true):r.On.length=l.length/\r.aT.length=l.length/\∀x∈r.aT,0<=x/\x<=4611686018427387904:=by
 unfold Sp.iM at h;cases q:(((Sp.cB l != 0)||((r.On.length:Int) != l.length))||((r.aT.length:Int) != l.length))with
 | true=>rw[q]at h;cases h
 | false=>
  rw[q]at h;simp only[afr,alW]at q;have hl2:r.aT.length=l.length:=by omega
  refine⟨om,hl2,λ x hx=>?_⟩;obtain⟨i,hi,rfl⟩:=ahZ.1 hx;have h1:=(Sp.XT hl2).1 h i om;have h2:=(Sp.wK (l:=l) (by simpa using q.1.1)).2.1 i om;rw[ad7,aeA hi]at h1;simp only[akP]at h1;omega
variable {d:ap3}
def Vi {l:ap1} (h:Sp.cK l r d=true):Sp.iM l r=true:=by
 unfold Sp.cK at h;cases q:Sp.iM l r with
 | true=>rfl
 | false=>rw[q]at h;cases h
def aeS.gd {l:apW} (hb:Y2 b) (h:aeS b l ms g):SO g:=by
 refine⟨ss.2 (SW h.ow),λ x hx=>?_,λ x hx=>?_,λ u hu=>by obtain⟨x,hx,rfl⟩:=aio.1 hu;exact(wN h.ow x hx).f0,λ u hu=>by
  obtain⟨x,hx,rfl⟩:=aio.1 hu;have hu:=wN h.ow x hx;have h0:=hu.g0;have h1:=hu.gl;have h2:=hu.fl;have:=hb.gr _ (getD_in (i:=x.cX.aZ.toNat) ay om);omega⟩
 ·obtain⟨i,hi,rfl⟩:=ahZ.1 hx;have h1:=h.sh.2.1 i om;have h3:=h.sh.1.1;have h2:=(hb.cl _ (getD_in (i:=i) az om)).2;rw[ad7,aeA hi]at h1;simp only[akP]at h1;omega
 exact(Bh (Vi h.su)).2.2 x hx
structure RpI (f t:aK) (n k:Nat) (on:apV) (lv:apU) (pl:apX):Prop where
 ol:on.length=n
 ll:lv.length=n
 kd:∀x∈pl,1<x.bY/\x.bY<4
 le:pl.length<=k
 ch:∀g:ak,g.aY=f->Ch g pl { g with aY:=⟨on,lv⟩ }
 eq:f=t->pl=[]/\on=f.On/\lv=f.aT
variable {f:aK} {t:aK} {on:apV} {lv:apU}
def RpI.up {k':Nat} {pl:apX} (h:RpI f t n k on lv pl) (hk:k<=k'):RpI f t n k' on lv pl:=⟨h.ol,h.ll,h.kd,af3 h.le hk,h.ch,h.eq⟩
def Ge (h1:r.On.length<=2000000) (h2:r.aT.length<=2000000):W (uv r) (λ x=>x=(r.On,r.aT)):=by
 unfold uv;refine ar (P:=λ x=>x=r.On) (aF (by unfold big;omega) (ai rfl)) λ v1 hv1=>?_;refine ar (P:=λ x=>x=r.aT) (aF (by unfold big;omega) (ai rfl)) λ v2 hv2=>?_;subst hv1 hv2;exact ai rfl
def LvB (n:Nat) (l:apU):Prop:=∀j,j<n->0<=l.getD j 0/\l.getD j 0<=4611686018427387904
def Vj {l:ap1} (h:Sp.cK l r d=true):Sp.iM l r=true/\Sp.dY l d=true:=by
 unfold Sp.cK at h;cases h1:Sp.iM l r<;>cases h2:Sp.dY l d<;>simp[h1,h2]at h ⊢
def ZB {l:ap1} (h:Sp.iM l r=true):Sp.cB l=0:=by
 unfold Sp.iM at h;by_cases e:Sp.cB l=0
 ·exact e
 rw[show(Sp.cB l != 0)=true by simpa using e]at h;simp at h
def QA {l:ap1} (hl:l.length<=2000000) (hf:Sp.iM l f=true) (ht:Sp.iM l t=true):W (BX l [f,t]) (λ r=>r=0):=by
 obtain⟨f1,f2,_⟩:=Bh hf;obtain⟨t1,t2,_⟩:=Bh ht;unfold BX;refine ar (Sp.se hl) λ v1 hv1=>?_;rw[ZB hf]at hv1;subst v1;refine br (λ c=>by simp at c) (λ _=>?_);have hb:∀ {r:aK},Sp.iM l r=true->r.aT.length<=2000000->rD r l false:=λ {r} h h2=>by
  refine iU ?_;unfold rD;refine ar (Sp.FQ hl h2) λ v1 hv1=>?_;rw[h]at hv1;subst v1;exact ai rfl
 have hi:W (jO [f,t] l) (λ r=>r=uM [f,t] (λ _=>false)):=
  DF (p:=λ x=>rD x l) (P:=λ _=>false) (λ x hx=>by
   rcases ah0.1 hx with q | q
   ·subst q;exact hb hf om
   rw[ahd.1 q];exact hb ht om) (by simp)
 refine ar (sJ (A2 hi (j7 _ _))) λ v2 hv2=>?_;subst v2;exact ai rfl
structure RpR (f t:aK) (n:Nat) (r:apX×Int):Prop where
 ok:r.2=0
 kd:∀x∈r.1,1<x.bY/\x.bY<4
 le:r.1.length<=4*n
 ch:∃s,∀g:ak,g.aY=f->Ch g r.1 { g with aY:=s }
 eq:f=t->r.1=[]
structure apJ (b:aI) (from_ ft:ak):Prop where
 n1:from_.Released.length=b.bc.length
 n2:ft.Released.length=b.bc.length
 nr:b.bc.length<=100000
 gf:SO from_
 gt:SO ft
 gG:b.aM.ax.length<=24
 ug:∀x∈ft.Uses.map ah.cX,x.aZ<b.aM.ax.length
 tg0:∀x∈ft.Uses.map ah.cX,0<=x.aZ
 fg:∀x∈from_.Uses.map ah.cX,0<=x.aZ/\x.aZ<b.aM.ax.length
 ff:∀u∈from_.Uses,0<=u.cX.bD/\u.cX.bD<=2000000
 tf:∀u∈ft.Uses,0<=u.cX.bD/\u.cX.bD<=2000000
 fl:from_.Uses.length<=2000000
 tl:ft.Uses.length<=2000000
 cf:∀g:Nat,g<b.aM.ax.length->¬ (0<Qy (from_.Uses.map ah.cX) g/\0<Qy (ft.Uses.map ah.cX) g/\Qy (from_.Uses.map ah.cX) g≠Qy (ft.Uses.map ah.cX) g)
def aeT (l:apX) (i:Int) (k:Nat):aw:=if(k:Int)<i\/(l.length:Int) - 1 - i<k then l.getD (l.length - 1 - k) bR else l.getD k bR
def sw {l:apX} (h:l.length<=2000000):W (dU l) (λ r=>r=l.reverse):=by
 unfold dU;refine wn<|bu (λ g1:Int×Int×apX=>0<=g1.1/\g1.2.1=(l.length:Int) - 1 - g1.1/\2*g1.1<=l.length/\ZQ bR l.length (aeT l g1.1) g1.2.2) (λ g1=>(l.length - g1.1).toNat) ?_ ⟨ob,by dsimp only;omega,by dsimp only;omega,rfl,λ k hk=>by unfold aeT;rw[aeV (by dsimp only;omega)]⟩;intro ab g1 ⟨a1,a2,a3,a4⟩ ih1;have hl:=a4.len;unfold nh;refine wi ?_ ?_<;>intro c1
 ·refine wm<|wm ?_;refine wm<|ih1 _ ⟨ob,by dsimp only;omega,by dsimp only;omega,((a4.set (i:=g1.1.toNat) om _).set (i:=g1.2.1.toNat) om _).ajz λ k hk=>?_⟩ ob;have e1:=a4.at_ g1.1.toNat om;have e2:=a4.at_ g1.2.1.toNat om;rw[e1,e2];unfold aeT;by_cases q1:k=g1.2.1.toNat
  ·rw[afc q1,aeV om,afc (by dsimp only;omega)];congr 1;omega
  rw[aeV q1];by_cases q2:k=g1.1.toNat
  ·rw[afc q2,aeV om,afc (by dsimp only;omega)];congr 1;omega
  rw[aeV q2];by_cases q3:(k:Int)<g1.1\/(l.length:Int) - 1 - g1.1<k
  ·rw[afc q3,afc (by dsimp only;omega)]
  rw[aeV q3,aeV (by dsimp only;omega)]
 refine ai (a4.ext (Q:=λ k=>l.reverse.getD k bR) ⟨by simp,λ _ _=>rfl⟩ λ k hk=>?_);have e:l.reverse.getD k bR=l.getD (l.length - 1 - k) bR:=by
  rw[ad7,List.getElem?_reverse om,<- ad7]
 rw[e];unfold aeT;by_cases q:(k:Int)<g1.1\/(l.length:Int) - 1 - g1.1<k
 ·rw[afc q]
 rw[aeV q];congr 1;omega
def acI (b:Bool):W (jU b) (λ r=>r=Qx b):=by
 unfold jU;cases b
 ·exact ai rfl
 exact ai rfl
def Lz {g':ak} {w:aw} (a:PW g w g') (hg:SO g) (hl:g.Uses.length<=2000000):W (mw g w) (λ r=>r=oE g w):=by
 unfold mw oE;cases a with
 | k1 k u0 u1 v0=>rw[k];exact aF ⟨u0,u1⟩ (ai rfl)
 | k2 k u0 u1 v0=>rw[k];exact aF ⟨u0,u1⟩ (ai rfl)
 | k3 k u0 u1 v0 v1=>rw[k];exact aF ⟨u0,u1⟩ (ar (acI _) λ v h=>ai h)
 | k11 k u0 u1 v0 v1=>rw[k];exact aF ⟨u0,u1⟩ (ar (acI _) λ v h=>ai h)
 | k12 k u0 u1 v0 v1=>rw[k];exact aF ⟨u0,u1⟩ (ar (acI _) λ v h=>ai h)
 | k10 k u0 u1 v0=>
  rw[k];show W (bU (rG g w) 0) (λ r=>r=Qy (g.Uses.map ah.cX) w.Unit);refine bu (λ g1:Int=>0<=g1/\g1<=g.Uses.length/\Qy ((g.Uses.drop g1.toNat).map ah.cX) w.Unit=Qy (g.Uses.map ah.cX) w.Unit) (λ g1=>(g.Uses.length - g1).toNat) ?_ ⟨ob,ob,rfl⟩;intro ab g1 ⟨a1,a2,a3⟩ ih1;unfold rG;refine wi ?_ ?_<;>intro c1
  ·have hlt:g1.toNat<g.Uses.length:=by omega
   have hm:(g.Uses.getD g1.toNat aL).cX∈g.Uses.map ah.cX:=aio.2 ⟨_,getD_in (i:=g1.toNat) aL hlt,rfl⟩;have hx:=hg.fn _ hm;have hx2:=hg.fb _ hm;rw[drop_cons aL hlt,aiX]at a3;unfold Qy at a3;rw[List.find?_cons]at a3;refine wn<|br ?_ ?_<;>intro c2
   ·refine aF (by unfold av;omega) ?_;refine ai ?_;rw[show((g.Uses.getD g1.toNat aL).cX.aZ==w.Unit)=true from c2]at a3;unfold Qy;rw[<- a3]
   refine wn<|ih1 _ ⟨ob,ob,?_⟩ ob;rw[show((g.Uses.getD g1.toNat aL).cX.aZ==w.Unit)=false from c2]at a3;rw[show(g1+1).toNat=g1.toNat+1 by omega];unfold Qy;rw[<- a3]
  refine ai ?_;rw[<- a3,show g1.toNat=g.Uses.length by omega,ai8];rfl
def acJ {g':ak} {w:aw} (a:PW g w g'):w.Value<=9223372036854775807:=by
 cases a with
 | k1 k u0 u1 v0=>omega
 | k2 k u0 u1 v0=>omega
 | k10 k u0 u1 v0=>omega
 | k3 k u0 u1 v0 v1=>omega
 | k11 k u0 u1 v0 v1=>omega
 | k12 k u0 u1 v0 v1=>omega
variable {h:ak} {ws:apX}
def vO (hs:ka g) (hg:SO g) (hu:g.Uses.length<=100000) (hw:ws.length<=100000) (a:W7 g ws h):W (fU b g ws) (λ r=>r=(h,ya g ws,0)/\ka h/\h.Uses.length<=g.Uses.length+ws.length):=by
 unfold fU;refine bu (λ g1:(Int×apU×apV×apU×apZ×apV×apV×apX)=>0<=g1.1/\g1.1<=ws.length/\ka ⟨g1.2.1,⟨g1.2.2.1,g1.2.2.2.1⟩,g1.2.2.2.2.1,g1.2.2.2.2.2.1,g1.2.2.2.2.2.2.1⟩/\SO ⟨g1.2.1,⟨g1.2.2.1,g1.2.2.2.1⟩,g1.2.2.2.2.1,g1.2.2.2.2.2.1,g1.2.2.2.2.2.2.1⟩/\g1.2.2.2.2.1.length<=g.Uses.length+g1.1.toNat/\W7 ⟨g1.2.1,⟨g1.2.2.1,g1.2.2.2.1⟩,g1.2.2.2.2.1,g1.2.2.2.2.2.1,g1.2.2.2.2.2.2.1⟩ (ws.drop g1.1.toNat) h/\g1.2.2.2.2.2.2.2.length=g1.1.toNat/\ya g ws=ya ⟨g1.2.1,⟨g1.2.2.1,g1.2.2.2.1⟩,g1.2.2.2.2.1,g1.2.2.2.2.2.1,g1.2.2.2.2.2.2.1⟩ (ws.drop g1.1.toNat)++g1.2.2.2.2.2.2.2.reverse) (λ g1=>(ws.length - g1.1).toNat) ?_ ⟨ob,ob,hs,hg,by dsimp only;omega,a,rfl,(aiN _).symm⟩;intro ab g1 ⟨a1,a2,a3,a4,a5,a6,a7,a8⟩ ih1;unfold vF;generalize hst:(⟨g1.2.1,⟨g1.2.2.1,g1.2.2.2.1⟩,g1.2.2.2.2.1,g1.2.2.2.2.2.1,g1.2.2.2.2.2.2.1⟩:ak)=st at a3 a4 a6 a8;have hsu:st.Uses.length<=g.Uses.length+g1.1.toNat:=by rw[<- hst];exact a5
 refine wi ?_ ?_<;>intro c1
 ·have hlt:g1.1.toNat<ws.length:=by omega
  rw[drop_cons bR hlt]at a6 a8;cases a6 with
  | @cons _ s1 _ _ _ w1 w2=>
   refine wn<|ar (Pw a3 (acJ w1)) λ v5 hv5=>?_;have hap:=SP w1;have e5:v5=(s1,0):=by rw[hv5];unfold VA;rw[hap];rfl
   subst e5;have hsz:=U4 (w:=ws.getD g1.1.toNat bR) a3 hsu om;rw[hap]at hsz;refine br (λ c2=>by cases c2) (λ _=>?_);refine ar (Lz w1 a4 a3.us) λ v6 hv6=>?_;subst hv6;refine aF (by unfold big;omega) ?_;refine wn ?_;have e:(g1.1+1).toNat=g1.1.toNat+1:=by omega
   refine ih1 _ ⟨ob,ob,hsz.1,a4.ap w1,by dsimp only;rw[e];exact hsz.2,by dsimp only;rw[e];exact w2,by dsimp only;rw[aeU,afT,e,a7],?_⟩ ob;dsimp only;rw[e,a8,aoJ,List.reverse_singleton];show(ya (cW (ws.getD g1.1.toNat bR) st).2 _++[Qz st _])++_=_;rw[hap,aot];rfl
 have hn:g1.1.toNat=ws.length:=by omega
 rw[hn,ai8]at a6 a8;cases a6;refine ar (sw om) λ v7 hv7=>?_;subst hv7;refine aF (by simp) ?_;refine ar (zn a3) λ v8 wJ=>?_;subst wJ;refine ai ⟨?_,a3,by rw[hn]at hsu;exact hsu⟩;dsimp only;rw[ahH (by simp),a8];rfl
def lnP (v:Int) (a b:apV) (i:Nat):Bool:=!(a.getD i false==b.getD i false)&&(b.getD i false==(v==1))
def lnL (v:Int) (a b:apV):apX:=sel (lnP v a b) (λ i=>⟨11,i,v⟩) a.length
def one_le (p:Nat->Bool) (i:Nat):(bif p i then 1 else 0)<=1:=by cases p i<;>decide
def Ad (p:Nat->Bool) (w:Nat->aw) (n:Nat):(sel p w n).length<=n:=by
 rw[aeD];have:=ahn (one_le p) n;omega
def Vk {p1 p3 q1 q3:apU} {p2 p5 q2 q5 a b:apV} {p4 q4:apZ} (hl:a.length=b.length) (hn:a.length<=2000000):W (ni v p1 p2 p3 p4 a p5 q1 q2 q3 q4 b q5) (λ r=>r=bif v==0 then(lnL v a b).reverse else lnL v a b):=by
 unfold ni;refine bu (λ g:Int×apX=>0<=g.1/\g.1<=a.length/\g.2=sel (lnP v a b) (λ i=>⟨11,i,v⟩) g.1.toNat) (λ g=>(a.length - g.1).toNat) ?_ ⟨ob,ob,rfl⟩;intro self g ⟨a1,a2,a3⟩ ih;have hs:=Ad (lnP v a b) (λ i=>⟨11,i,v⟩) g.1.toNat;rw[<- a3]at hs;unfold yQ;refine wi ?_ ?_<;>intro c1
 ·have e1:(g.1+1).toNat=g.1.toNat+1:=by omega
  have e2:((g.1.toNat:Nat):Int)=g.1:=by omega
  refine aF om ?_;refine aF om ?_;refine aF (λ _=>by omega) ?_;apply br<;>intro c2
  ·refine aF (by unfold big;omega) ?_;refine wn ?_;exact ih _ ⟨ob,ob,by dsimp only;rw[e1,sel,show lnP v a b g.1.toNat=true from c2,<- a3,e2];rfl⟩ ob
  refine wn ?_;exact ih _ ⟨ob,ob,by dsimp only;rw[e1,sel,show lnP v a b g.1.toNat=false from c2,<- a3];exact(aiN _).symm⟩ ob
 have e:g.1.toNat=a.length:=by omega
 rw[e]at a3;have a3:g.2=lnL v a b:=a3;refine br (λ c=>?_) (λ c=>ai (by rw[c];exact a3));refine ar (sw om) λ v1 hv1=>?_;subst v1;refine aF (by rw[anK]) ?_;refine ai ?_;rw[c,ahH (by rw[anK];exact afM _),a3];rfl
def ZC (s o:cj->Option Int) (i:Nat):Bool:=decide ((0:Int)<fo s (.i ((i:Nat):Int)))&&(fo o (.i ((i:Nat):Int))==0)
def X4 {s o:cj->Option Int} {k:Int} (hs:∀g,0<=fo s (.i g)/\fo s (.i g)<=10000000) (hk:k=0\/k=1):W (nj s o k) (λ r=>r=sel (ZC s o) (λ i=>⟨10,i,fo s (.i ((i:Nat):Int))*k⟩) 24):=by
 unfold nj;refine bu (λ g:Int×apX=>0<=g.1/\g.1<=24/\g.2=sel (ZC s o) (λ i=>⟨10,i,fo s (.i ((i:Nat):Int))*k⟩) g.1.toNat) (λ g=>(24 - g.1).toNat) ?_ ⟨ob,ob,rfl⟩;intro self g ⟨a1,a2,a3⟩ ih;have hsl:=Ad (ZC s o) (λ i=>⟨10,i,fo s (.i ((i:Nat):Int))*k⟩) g.1.toNat;rw[<- a3]at hsl;unfold yR;refine wi ?_ ?_<;>intro c1
 ·have hg:((g.1.toNat:Nat):Int)=g.1:=by omega
  have e1:(g.1+1).toNat=g.1.toNat+1:=by omega
  have hb:=hs g.1;apply br<;>intro c2
  ·refine aF (by rcases hk with e | e<;>subst e<;>unfold av<;>omega) ?_;refine aF (by unfold big;omega) ?_;refine wn ?_;exact ih _ ⟨ob,ob,by dsimp only;rw[e1,sel,show ZC s o g.1.toNat=true by unfold ZC;rw[hg];exact c2,<- a3,hg];rfl⟩ ob
  refine wn ?_;exact ih _ ⟨ob,ob,by dsimp only;rw[e1,sel,show ZC s o g.1.toNat=false by unfold ZC;rw[hg];exact c2,<- a3];exact(aiN _).symm⟩ ob
 exact ai (by rw[a3,show g.1.toNat=24 by omega])
structure GmP (U:apZ) (m:cj->Option Int):Prop where
 to:∀u∈U,m (.i u.cX.aZ)=some (u.cX.bD+1)
 of:∀g v,m (.i g)=some v->∃u∈U,u.cX.aZ=g/\v=u.cX.bD+1
variable {U:apZ}
def LA (hu:U.length<=100000) (hn:(U.map λ u=>u.cX.aZ).Nodup) (hf:∀u∈U,0<=u.cX.bD/\u.cX.bD<=2000000):W (kO U) (GmP U):=by
 unfold kO;refine bu (λ g:Int×(cj->Option Int)=>0<=g.1/\g.1<=U.length/\(∀j:Nat,(j:Int)<g.1->g.2 (.i (U.getD j aL).cX.aZ)=some ((U.getD j aL).cX.bD+1))/\∀k v,g.2 (.i k)=some v->∃u∈U,u.cX.aZ=k/\v=u.cX.bD+1)
  (λ g=>(U.length - g.1).toNat) ?_ ⟨ob,ob,λ j hj=>by dsimp only at hj;omega,λ k v h=>by cases h⟩
 intro self g ⟨a1,a2,a3,a4⟩ ih;unfold yP;refine wi ?_ ?_<;>intro c1
 ·have hlt:g.1.toNat<U.length:=by omega
  have hmem:U.getD g.1.toNat aL∈U:=by rw[ad7,aeA hlt];exact ai1 hlt
  have hb:=hf _ hmem;refine aF om ?_;refine aF (by unfold av;omega) ?_;refine wn<|ih _ ⟨ob,ob,λ j hj=>?_,λ k v h=>?_⟩ ob
  ·dsimp only at hj ⊢;unfold te;by_cases e:j=g.1.toNat
   ·subst e;rw[afc rfl]
   have hne:(U.getD j aL).cX.aZ≠(U.getD g.1.toNat aL).cX.aZ:=λ q=>by
    have hj2:j<U.length:=by omega
    rw[List.nodup_iff_pairwise_ne,aor,aj5]at hn;have:=hn j g.1.toNat hj2 hlt om;rw[ad7,aeA hj2,ad7,aeA hlt]at q;exact this q
   rw[aeV (λ q=>hne (by injection q))];exact a3 j om
  dsimp only at h;unfold te at h;by_cases e:(cj.i k)=.i (U.getD g.1.toNat aL).cX.aZ
  ·rw[afc e]at h;exact⟨_,hmem,by injection e with e;exact e.symm,(ah1 h).symm⟩
  rw[aeV e]at h;exact a4 k v h
 refine ai ⟨λ u hu=>?_,a4⟩;obtain⟨j,hj,rfl⟩:=ahZ.1 hu;have:=a3 j om;rwa [ad7,aeA hj]at this
variable {m:cj->Option Int}
def GmP.bd (h:GmP U m) (hf:∀u∈U,0<=u.cX.bD/\u.cX.bD<=2000000) (g:Int):0<=fo m (.i g)/\fo m (.i g)<=10000000:=by
 unfold fo;cases e:m (.i g)with
 | none=>exact⟨air 0,by show(0:Int)<=_;omega⟩
 | some v=>
  obtain⟨u,hu,_,rfl⟩:=h.of g v e;have:=hf u hu;show 0<=u.cX.bD+1/\u.cX.bD+1<=_;omega
def dmE (a b:apV) (i:Nat):Nat:=if a.getD i false=b.getD i false then 0 else 1
def Vl (a b:apV) (i:Nat):Bool:=a.getD i false&&!b.getD i false
def PB {l:ap8} {a b:apV} (hl:l.length<=2000000) (h0:M1 l 0) (ha:ZN l a) (hb:ZN l b):W (yU l a b) (λ r=>r.2=0/\r.1=(sel (Vl a b) (λ i=>⟨12,i,0⟩) l.length).reverse++sel (Vl b a) (λ i=>⟨12,i,1⟩) l.length):=by
 have l1:=ha.1;have l2:=hb.1;unfold yU;refine ar (vu) λ v1 hv1=>?_;have e:=M1.fun _ _ hv1 h0;subst e;refine br (λ c=>by simp at c) (λ _=>?_);refine ar (vv h0.ok) λ v2 hv2=>?_;have e2:=hv2.2 ha;subst e2;refine ar (lp λ _=>vv h0.ok) λ v3 hv3=>?_;have e3:=(hv3 rfl).2 hb;subst e3;refine br (λ c=>by simp at c) (λ _=>?_);refine bu (λ g:Int×apX×apX=>0<=g.1/\g.1<=l.length/\g.2.1=sel (Vl a b) (λ i=>⟨12,i,0⟩) g.1.toNat/\g.2.2=sel (Vl b a) (λ i=>⟨12,i,1⟩) g.1.toNat) (λ g=>(l.length - g.1).toNat) ?_ ⟨ob,ob,rfl,rfl⟩;intro self g ⟨a1,a2,a3,a4⟩ ih;have s1:=Ad (Vl a b) (λ i=>⟨12,i,0⟩) g.1.toNat;have s2:=Ad (Vl b a) (λ i=>⟨12,i,1⟩) g.1.toNat;rw[<- a3]at s1;rw[<- a4]at s2;unfold E3;refine wi ?_ ?_<;>intro c1
 ·have hg:((g.1.toNat:Nat):Int)=g.1:=by omega
  have e1:(g.1+1).toNat=g.1.toNat+1:=by omega
  refine aF om ?_;refine aF (λ _=>by omega) ?_;apply br<;>intro c2
  ·have q:Vl b a g.1.toNat=false:=by
    simp only[aeP,ahA]at c2;unfold Vl;rw[c2.1,c2.2];rfl
   refine aF (by unfold big;omega) ?_;refine wn<|ih _ ⟨ob,ob,?_,?_⟩ ob
   ·dsimp only;rw[e1,sel,show Vl a b g.1.toNat=true from c2,<- a3,hg];rfl
   dsimp only;rw[e1,sel,q,<- a4];exact(aiN _).symm
  refine aF om ?_;refine aF (λ _=>by omega) ?_;apply br<;>intro c3
  ·refine aF (by unfold big;omega) ?_;refine wn<|ih _ ⟨ob,ob,?_,?_⟩ ob
   ·dsimp only;rw[e1,sel,show Vl a b g.1.toNat=false from c2,<- a3];exact(aiN _).symm
   dsimp only;rw[e1,sel,show Vl b a g.1.toNat=true from c3,<- a4,hg];rfl
  refine wn<|ih _ ⟨ob,ob,?_,?_⟩ ob
  ·dsimp only;rw[e1,sel,show Vl a b g.1.toNat=false from c2,<- a3];exact(aiN _).symm
  dsimp only;rw[e1,sel,show Vl b a g.1.toNat=false from c3,<- a4];exact(aiN _).symm
 rw[show g.1.toNat=l.length by omega]at a3 a4 s1 s2;refine ar (sw om) λ v4 hv4=>?_;subst v4;refine aF (by rw[anK]) ?_;refine aF (by unfold big;omega) ?_;refine ai ⟨rfl,?_⟩;dsimp only;rw[ahH (by rw[anK];exact afM _),a3,a4]
def preS (l:apY) (s:apU):Nat->Nat
 | 0=>0
 | j+1=>preS l s j*(l.getD j az).aE.length+(s.getD j 0).toNat
def X5 (h:VS l s):∀j,j<=l.length->preS l s j*dP (l.drop j)+dJ (l.drop j) (s.drop j)=dJ l s:=by
 intro j;induction j with
 | zero=>intro _;simp[preS]
 | succ j ih=>
  intro hj;have h1:=ih om;rw[SU om,Vg h om]at h1;rw[preS,aip,ao4];omega
def X6 (h:VS l s):preS l s l.length=dJ l s:=by
 have:=X5 h l.length (afM _);rw[ai8]at this;simpa[dP,dJ]using this
variable {j:Nat}
def acL (h:VS l s) (hj:j<=l.length):preS l s j<=dJ l s:=by
 have h1:=X5 h j hj;have h2:=aeR (aeQ h j);have h3:=ajS (preS l s j) h2;omega
variable {s_:apU}
def jo {fR:apY} {ux:ap4} {x2_:cj->Option Int} (h:VS fR s_) (hl:fR.length<=2000000) (hz:dP fR<=1000000000000):W (fy fR ux x2_ s_) (λ r=>r=((dJ fR s_:Nat):Int)):=by
 have hp:=zV h;have hsl:=h.1;unfold fy;refine bu (λ g1:Int×Int=>0<=g1.2/\g1.2<=fR.length/\g1.1=((preS fR s_ g1.2.toNat:Nat):Int)) (λ g1=>(fR.length - g1.2).toNat) ?_ ⟨ob,ob,rfl⟩;intro ab g1 ⟨a1,a2,a3⟩ ih1;unfold rF;refine wi ?_ ?_<;>intro c1
 ·have hlt:g1.2.toNat<fR.length:=by omega
  obtain⟨x0,x1⟩:=h.2 _ hlt;have q1:=acL h (j:=g1.2.toNat+1) om;have e0:preS fR s_ (g1.2.toNat+1)=preS fR s_ g1.2.toNat*(fR.getD g1.2.toNat az).aE.length+(s_.getD g1.2.toNat 0).toNat:=rfl;have e1:g1.1*(((fR.getD g1.2.toNat az).aE.length:Nat):Int)=((preS fR s_ g1.2.toNat*(fR.getD g1.2.toNat az).aE.length:Nat):Int):=by rw[a3,anF]
  have e2:g1.1*(((fR.getD g1.2.toNat az).aE.length:Nat):Int)+s_.getD g1.2.toNat 0=((preS fR s_ (g1.2.toNat+1):Nat):Int):=by rw[e1,e0];omega
  refine wm<|aF (by rw[e1];unfold av;omega) ?_;refine aF (by rw[e2];unfold av;omega) ?_;refine wn<|ih1 _ ⟨ob,ob,?_⟩ ob;dsimp only;rw[show(g1.2+1).toNat=g1.2.toNat+1 by omega];exact e2
 refine ai ?_;rw[a3,show g1.2.toNat=fR.length by omega,X6 h]
def acM (a b:Nat):(a:Int).tdiv (b:Int)=((a / b:Nat):Int):=by rw[al4 om,Int.natCast_ediv]
def acN (a b:Nat):(a:Int).tmod (b:Int)=((a % b:Nat):Int):=by rw[anT om,Int.natCast_emod]
def ajC {a b:apU} (h:a.length=b.length) (h1:∀j,j<a.length->a.getD j 0=b.getD j 0):a=b:=by
 apply aod h;intro j h2 h3;have:=h1 j h2;rwa [ad7,aeA h2,ad7,aeA h3]at this
def kV {fR:apY} {ux:ap4} {bI:cj->Option Int} (h:VS fR s) (hl:fR.length<=2000000) (hz:dP fR<=1000000000000):W (fS fR ux ((dJ fR s:Nat):Int) bI) (λ r=>r=s):=by
 have hp:=zV h;have hsl:=h.1;unfold fS;refine aF (by unfold big;omega) ?_;refine aF (by unfold av;omega) ?_;refine bu (λ g1:Int×Int×apU => -1<=g1.2.1/\g1.2.1<fR.length/\g1.2.2.length=fR.length/\g1.1=((preS fR s (g1.2.1+1).toNat:Nat):Int)/\∀j:Nat,g1.2.1<j->j<fR.length->g1.2.2.getD j 0=s.getD j 0) (λ g1=>(g1.2.1+1).toNat) ?_ ?_
 ·intro ab g1 ⟨a1,a2,a3,a4,a5⟩ ih1;unfold qo;refine wi ?_ ?_<;>intro c1
  ·have hlt:g1.2.1.toNat<fR.length:=by omega
   obtain⟨y0,y1⟩:=h.2 _ hlt;have e0:preS fR s (g1.2.1+1).toNat=(fR.getD g1.2.1.toNat az).aE.length*preS fR s g1.2.1.toNat+(s.getD g1.2.1.toNat 0).toNat:=by
    rw[show(g1.2.1+1).toNat=g1.2.1.toNat+1 by omega,preS,akN]
   have hc:0<(fR.getD g1.2.1.toNat az).aE.length:=by omega
   have e1:g1.1.tdiv (((fR.getD g1.2.1.toNat az).aE.length:Nat):Int)=((preS fR s g1.2.1.toNat:Nat):Int):=by
    rw[a4,acM,e0,Nat.mul_add_div hc,Nat.div_eq_of_lt om,ajT]
   have e2:g1.1.tmod (((fR.getD g1.2.1.toNat az).aE.length:Nat):Int)=s.getD g1.2.1.toNat 0:=by
    rw[a4,acN,e0,aph,ao5 om];omega
   have q1:=acL h (j:=g1.2.1.toNat) om;refine wn<|aF om ?_;refine aF ⟨om,by rw[e1];unfold av;omega⟩ ?_;refine wm<|ih1 _ ⟨ob,ob,by dsimp only;rw[afx];exact a3,?_,?_⟩ ob
   ·dsimp only;rw[e1,show(g1.2.1 - 1+1).toNat=g1.2.1.toNat by omega]
   dsimp only;intro j hj hj2;rw[e2,ad7,anY];by_cases e:g1.2.1.toNat=j
   ·subst e;rw[afc rfl,afc om];rfl
   rw[aeV e,<- ad7];exact a5 j om hj2
  exact ai<|ajC (a3.trans hsl.symm) λ j hj=>a5 j om om
 refine⟨ob,ob,by simp,?_,λ j h1 h2=>by dsimp only at h1;omega⟩;dsimp only;rw[show(((fR.length:Int).toNat:Nat):Int) - 1+1=fR.length by omega,show(fR.length:Int).toNat=fR.length by omega,X6 h]
def LB {l_:apY} (h1:l_.length<=2000000) (h2:s_.length<=2000000) (h3:P9 l_):W (E2 l_ s_) (λ r=>r=vm l_ s_):=zS h1 h2 h3
def X7 {r:bx} (hv:kp r=true):nv r=(r.ga==0):=by
 cases e:(r.ga==0)with
 | false=>exact SE (by simpa using e)
 | true=>
  cases q:nv r with
  | true=>rfl
  | false=>exact absurd (by simpa using e) (Re hv q)
def LC {x_:aP} {iA:ap5} (h1:0<=x_.cF) (h2:x_.cF<iA.length) (hv:kp (iA.getD x_.cF.toNat cD)=true):W (oU x_ iA) (λ r=>r=FI iA (W8 x_)):=by
 unfold oU;refine wm<|ar (dT λ hc=>iU (tS)) λ v1 hv1=>?_;subst v1;refine ai ?_;unfold FI;rw[show(W8 x_).cF=x_.cF from rfl,X7 hv];rfl
def W9 {s_:ap4} {f_:ap5} (h1:s_.length<=2000000) (h2:∀x∈s_,(0<=x.cF/\x.cF<f_.length)/\kp (f_.getD x.cF.toNat cD)=true):W (gD s_ f_) (λ r=>r=(s_.map W8).any (FI f_)):=
 K7 (sJ (A2 (DF (p:=λ x=>oU x f_) (P:=λ x=>FI f_ (W8 x)) (λ x hx=>iU (LC (h2 x hx).1.1 (h2 x hx).1.2 (h2 x hx).2)) om) (j7 _ _))) λ r hr=>hr.trans (by rw[List.any_map];rfl)
structure CmK (l:apY) (way:ap4):Prop where
 ck:CkL l way
 ch:P9 l
def Rj (h:cB l=0) (hs:VS l s):(vm l s).1=dx l s:=(UQ (Pr h (GY hs))).2.2
variable {kR:ap4}
def Kk {l_:apY} (h:CmK l_ kR) (hs:VS l_ s_) {v1:ap5×Int} (hv:v1.1=dx l_ s_):W (bU (rE l_ kR v1) (0:Int)) (λ r=>r=kb l_ s_ kR):=by
 have hll:=h.ck.ll;have hwl:=h.ck.wl;have hsl:=hs.1;have hrl:(dx l_ s_).length=l_.length:=pW _ _ _;have hvr:∀j,j<l_.length->kp ((dx l_ s_).getD j cD)=true:=λ j hj=>(Ce (nY h.ck.ck) (GY hs) j hj).2.2.1;refine bu (λ(g1:Int)=>0<=g1/\g1<=l_.length/\(∀j:Nat,(j:Int)<g1->WE ((dx l_ s_).getD j cD) (l_.getD j az)=false)) (λ(g1:Int)=>(l_.length - g1).toNat) ?_ ⟨ob,ob,λ j hj=>by omega⟩;intro ab g1 ⟨a1,a2,a3⟩ ih1;unfold rE;rw[hv];refine wi ?_ ?_<;>intro c1
 ·refine wm<|wn ?_;refine ar (dT λ hc=>iU (tS)) λ v6 hv6=>?_;subst v6;have hof:(((dx l_ s_).getD g1.toNat cD).ga != 0)=!nv ((dx l_ s_).getD g1.toNat cD):=by rw[X7 (hvr g1.toNat om)];rfl
  rw[hof];apply br<;>intro c2
  ·refine ai ?_;unfold kb;rw[show ownB l_ (dx l_ s_)=false from nu (i:=g1.toNat) om (by rw[show WE ((dx l_ s_).getD g1.toNat cD) (l_.getD g1.toNat az)=true from c2];rfl)];rfl
  refine wn<|ih1 _ ⟨ob,ob,λ j hj=>?_⟩ ob;by_cases q:j<g1.toNat
  ·exact a3 j om
  have e:j=g1.toNat:=by omega
  subst e;exact c2
 refine ar (W9 hwl (λ x hx=>by have q:=h.ck.wc x hx;rw[hrl];exact⟨q,hvr _ om⟩)) λ v7 hv7=>?_;subst v7;refine ai ?_;unfold kb;rw[show ownB l_ (dx l_ s_)=true from oZ λ j hj=>by rw[a3 j om];rfl];rfl
def Gf {l_:apY} (h:CmK l_ kR) (hs:VS l_ s_):W (uw l_ s_ kR) (λ r=>r=kb l_ s_ kR):=by
 have hll:=h.ck.ll;have hsl:=hs.1;exact ar (zS hll om h.ch) λ v1 hv1=>Kk h hs (by rw[hv1];exact Rj h.ck.ck hs)
def Kl {l_:apY} (h:CmK l_ kR) (hs:VS l_ s_):W (xy l_ kR s_) (λ r=>r=kb l_ s_ kR):=by
 have hll:=h.ck.ll;have hsl:=hs.1;exact ar (LB hll om h.ch) λ v1 hv1=>Kk h hs (by rw[hv1];exact Rj h.ck.ck hs)
def Kn (l:apY) (way:ap4) (f:cj->Option Int):Prop:=∀s v,VS l s->f (.i ((dJ l s:Nat):Int))=some v->v=if kb l s way then 1 else 0
def ahE:Kn l way (λ _=>none):=λ s v _ h=>by cases h
def uR {f:cj->Option Int} (h:CmK l way) (hs:VS l s) (hz:dP l<=1000000000000) (hk:Kn l way f):W (jZ l way ((dJ l s:Nat):Int) f) (λ r=>r.1=kb l s way/\Kn l way r.2):=by
 unfold jZ;apply br<;>intro c1
 ·refine ar (kV hs h.ck.ll hz) λ v1 hv1=>?_;subst v1;refine ar (Kl h hs) λ v2 hv2=>?_;subst v2;refine ai ⟨rfl,?_⟩;intro t v ht hv;unfold te at hv;dsimp only at hv;by_cases e:dJ l t=dJ l s
  ·have:=ua ht hs e;subst this;rw[afc rfl]at hv;have hv:=ah1 hv;rw[<- hv];cases kb l t way<;>rfl
  rw[aeV (λ q=>e (by injection q with q;omega))]at hv;exact hk t v ht hv
 refine ai ⟨?_,hk⟩;have hsm:(f (.i ((dJ l s:Nat):Int))).isSome=true:=by simpa using c1
 obtain⟨v,hv⟩:=ai3.1 hsm;have:=hk s v hs hv;unfold fo;rw[hv,this];cases kb l s way<;>rfl
def Md (out:cj->Option Int) (D:Nat->Option Nat):Prop:=∀k:Nat,out (.i (k:Int))=(D k).map λ m=>(m:Int)
def Gg (n:Nat) (D:Nat->Option Nat):Nat:=(List.range n).countP λ k=>(D k).isSome
def NS (n:Nat) (D:Nat->Option Nat):Gg n D<=n:=by
 have:=List.countP_le_length (p:=λ k=>(D k).isSome) (l:=List.range n);rwa [ao0]at this
def G2 (n:Nat) (D:Nat->Option Nat):Gg (n+1) D=Gg n D+(if(D n).isSome=true then 1 else 0):=by
 unfold Gg;rw[List.range_succ,anP,ape]
def ZD {D':Nat->Option Nat} :∀ {n:Nat},(∀k,k<n->D k=D' k)->Gg n D=Gg n D':=by
 intro n;induction n with
 | zero=>intro _;rfl
 | succ n ih=>intro h;rw[G2,G2,ih λ k hk=>h k om,h n om]
def PD (hn:D y=none):∀ {n:Nat},y<n->Gg n (Go.Bf.fc D y k)=Gg n D+1:=by
 intro n;induction n with
 | zero=>intro h;omega
 | succ n ih=>
  intro h;rw[G2,G2];by_cases e:y=n
  ·subst e;rw[ZD (D:=Go.Bf.fc D y k) (D':=D) λ j hj=>by unfold Go.Bf.fc;rw[aeV om]];rw[show Go.Bf.fc D y k y=some k from afc rfl,hn];rfl
  rw[ih om,show Go.Bf.fc D y k n=D n from aeV (λ q=>e q.symm)];omega
variable {out:cj->Option Int}
def ahF (h:Md out D) (y k:Nat):Md (te out (.i (y:Int)) ((k:Int)+1)) (Go.Bf.fc D y (k+1)):=by
 intro j;unfold te Go.Bf.fc;by_cases e:j=y
 ·subst e;rw[afc rfl,afc rfl];simp
 rw[aeV (by intro q;injection q with q;omega),aeV e];exact h j
def PE (h:Md out D) (hx:D x=some k):fo out (.i (x:Int))=k:=by
 unfold fo;rw[h x,hx];rfl
structure RqB (l:apY) (way:ap4) (dn:ap0) (qs:List apU) (known out:cj->Option Int) (L:apU) (off n:Nat) (D:Nat->Option Nat):Prop where
 kn:Kn l way known
 vs:∀q∈qs,VS l q
 on:off+n<=L.length
 q:(L.drop off).take n=qs.map λ s=>((dJ l s:Nat):Int)
 md:Md out D
 lt:∀k m,D k=some m->k<dP l/\m<Gg (dP l) D
 ct:dn.length+qs.length=Gg (dP l) D
variable {known:cj->Option Int} {L:apU} {off:Nat}
def RqB.acO {qs:List apU} (h:RqB l way dn qs known out L off n D):n=qs.length:=by
 have:=ano List.length h.q;have h1:=h.on;rw[afs,ajY,ahW]at this;omega
def RqB.hd {qs:List apU} (h:RqB l way dn (s::qs) known out L off n D):L.getD (addN off 0) 0=((dJ l s:Nat):Int):=by
 have hn:=h.acO;have h1:=h.on;have hq:=h.q;rw[ahP]at hn;rw[drop_cons (0:Int) om,show n=qs.length+1 from hn,List.take_succ_cons,aiX]at hq;have:=(List.cons.inj hq).1;have e:addN off 0=off:=by first | rfl | (cases off<;>rfl) | simp[addN]
 rw[e];exact this
theorem ZE {w_:aw} {kx y:Nat} (hon:off+n<=L.length) (hn:0<n) (hn2:n<=1000000) (hmd:Md out D) (hL:L.getD (addN off 0) 0=(x:Int)) (hx:D x=some kx) (hk:kx<=1000000):
  W (fT w_ (y:Int) off n out L) (λ r=>(D y≠none->r=(off,n,out,L))/\(D y=none->r=(0,n+1,te out (.i (y:Int)) ((kx:Int)+1),(L.drop off).take n++[(y:Int)]))):=by
 unfold fT;refine aF hon ?_;have hg:=PE hmd hx;apply br<;>intro c1
 ·have hnone:D y=none:=by
   rw[hmd y]at c1;cases hd:D y with
   | none=>rfl
   | some k=>rw[hd]at c1;simp at c1
  refine aF om ?_;rw[hL,hg];refine aF (by unfold av;omega) ?_;refine aF (by unfold big;omega) ?_;exact ai ⟨λ h=>absurd hnone h,λ _=>rfl⟩
 refine ai ⟨λ _=>rfl,λ hnone=>?_⟩;rw[hmd y,hnone]at c1;simp at c1
def SX (l:apY) (way:ap4) (a:Nat) (dn:ap0) (s:apU) (u v:Int) (known out:cj->Option Int) (L:apU) (off n:Nat):Prop:=
 ∃rest D,RqB l way dn (s::rest) known out L off n D/\Go.Bf.yv (SR l way) a (dJ l s) dn (rest.map (dJ l)) D (DP l s u v)
def SX.weak {u' v':Int} (h:SX l way a dn s u v known out L off n) (hv:∀y,DP l s u' v' y->DP l s u v y):SX l way a dn s u' v' known out L off n:=by
 obtain⟨rest,D,h1,h2⟩:=h;exact⟨rest,D,h1,yv.weak h2 hv⟩
def SX.kn' {known':cj->Option Int} (h:SX l way a dn s u v known out L off n) (hk:Kn l way known'):SX l way a dn s u v known' out L off n:=by
 obtain⟨rest,D,h1,h2⟩:=h;exact⟨rest,D,⟨hk,h1.vs,h1.on,h1.q,h1.md,h1.lt,h1.ct⟩,h2⟩
def SX.get (h:SX l way a dn s u v known out L off n):Kn l way known/\off+n<=L.length/\0<n/\n<=dP l:=by
 obtain⟨rest,D,h1,h2⟩:=h;have hn:=h1.acO;have h3:=NS (dP l) D;have h4:=h1.ct;rw[ahP]at hn h4;exact⟨h1.kn,h1.on,om,om⟩
def SX.skip (h:SX l way a dn s u v known out L off n) (u0:0<=u) (u1:u<l.length) (v0:0<=v) (v1:v<(l.getD u.toNat az).aE.length)
  (hs:v=s.getD u.toNat 0\/kb l (s.set u.toNat v) way=false):SX l way a dn s u (v+1) known out L off n:=by
 obtain⟨rest,D,h1,h2⟩:=h;have hsv:=h1.vs s ajN;refine⟨rest,D,h1,yv.weak (V:=λ z=>DP l s u v z\/z=dJ l (s.set u.toNat v)) ?_ (wZ u0 u1 v0 v1)⟩;have hxv:VS l (s.set u.toNat v):=Gd hsv v0 v1;refine h2.skip λ hn=>?_;obtain⟨s',u',v',w1,w2,w3,w4⟩:=hn;have e:=ua w1 hsv w2;subst e;have e2:=ua (Gd w1 w3.v0 w3.v1) hxv w4;rcases hs with hs | hs
 ·have e3:s'.set u.toNat v=s':=by
   rw[hs,ad7,aeA (by rw[w1.1];omega)];exact akc (by rw[w1.1];omega)
  rw[e3]at e2;have h3:(s'.set u' v').getD u' 0=v':=by
   rw[ad7,aj3 (by rw[w1.1];exact w3.hu)];rfl
  rw[e2]at h3;exact w3.ne h3.symm
 rw[<- e2]at hs;rw[w3.cm]at hs;cases hs
theorem SX.visit (hz:dP l<=1000000) (h:SX l way a dn s u v known out L off n) (u0:0<=u) (u1:u<l.length) (v0:0<=v) (v1:v<(l.getD u.toNat az).aE.length)
  (hs:v≠s.getD u.toNat 0) (hc:kb l (s.set u.toNat v) way=true) {w_:aw}:W (fT w_ ((dJ l (s.set u.toNat v):Nat):Int) off n out L) (λ r=>SX l way a dn s u (v+1) known r.2.2.1 r.2.2.2 r.1 r.2.1):=by
 obtain⟨_,g1,g2,g3⟩:=h.get;obtain⟨rest,D,h1,h2⟩:=h;have hsv:=h1.vs s ajN;have hxv:VS l (s.set u.toNat v):=Gd hsv v0 v1;have hpl:=zV hxv;obtain⟨kx,hkx⟩:=h2.b.head;have hlt:=h1.lt _ _ hkx;have hcl:=NS (dP l) D;refine K7 (ZE g1 g2 om h1.md h1.hd hkx om) λ r hr=>?_;cases hd:D (dJ l (s.set u.toNat v))with
 | some k'=>
  rw[hr.1 (by rw[hd];nofun)];exact⟨rest,D,h1,yv.weak (h2.old hd) (wZ u0 u1 v0 v1)⟩
 | none=>
  rw[hr.2 hd];have hnb:SR l way (dJ l s) (dJ l (s.set u.toNat v)):=⟨s,u.toNat,v,hsv,rfl,⟨om,v0,om,hs,hc⟩,rfl⟩;have hcn:=PD (k:=kx+1) hd hpl;refine⟨rest++[s.set u.toNat v],Go.Bf.fc D (dJ l (s.set u.toNat v)) (kx+1),⟨h1.kn,λ q hq=>?_,?_,?_,ahF h1.md _ _,λ k m hm=>?_,?_⟩,?_⟩
  ·rw[<- ajQ]at hq;rcases ahL.1 hq with hq | hq
   ·exact h1.vs q hq
   rw[ahd.1 hq];exact hxv
  ·dsimp only;rw[aeU,afs,ajY,afT];omega
  ·dsimp only;rw[List.drop_zero,h1.q,<- ajQ,akj,List.map_singleton,ahH (by rw[aeU,ahW,afT,<- h1.acO];exact afM _)]
  ·rw[hcn];unfold Go.Bf.fc at hm;by_cases e:k=dJ l (s.set u.toNat v)
   ·rw[afc e]at hm;have:=ah1 hm;exact⟨by rw[e];exact hpl,om⟩
   rw[aeV e]at hm;have:=h1.lt k m hm;exact⟨this.1,om⟩
  ·have:=h1.ct;rw[hcn];simp only[ahP,aeU,ajE]at this ⊢;omega
  rw[akj];exact yv.weak (h2.new hkx hd hnb) (wZ u0 u1 v0 v1)
theorem acP (h:CmK l way) (hz:dP l<=1000000) (h0:SX l way a dn s 0 0 known out L off n) (hsv:VS l s):
  W (j4 l way ((dJ l s:Nat):Int) known off n out L) (λ r=>SX l way a dn s l.length 0 r.1 r.2.2.2.1 r.2.2.2.2 r.2.1 r.2.2.1):=by
 have hll:=h.ck.ll;have hsl:=hsv.1;unfold j4;refine aF h0.get.2.1 ?_;refine ar (kV hsv hll om) λ v1 hv1=>?_;subst v1;refine bu (λ g1:Int×(cj->Option Int)×Nat×Nat×(cj->Option Int)×apU×apU=>0<=g1.1/\g1.1<=l.length/\g1.2.2.2.2.2.1=s/\SX l way a dn s g1.1 0 g1.2.1 g1.2.2.2.2.1 g1.2.2.2.2.2.2 g1.2.2.1 g1.2.2.2.1) (λ g1=>(l.length - g1.1).toNat) ?_ ⟨ob,ob,rfl,h0⟩;intro ab g1 ⟨a1,a2,a3,a4⟩ ih1;unfold qt;refine aF a4.get.2.1 ?_;refine wi ?_ ?_<;>intro c1
 ·refine wn<|aF (by rw[a3];omega) ?_;refine bu (λ g4:Int×(cj->Option Int)×Nat×Nat×(cj->Option Int)×apU×apU=>0<=g4.1/\g4.1<=(l.getD g1.1.toNat az).aE.length/\(g4.2.2.2.2.2.1.length=l.length/\∀x,g4.2.2.2.2.2.1.set g1.1.toNat x=s.set g1.1.toNat x)/\SX l way a dn s g1.1 g4.1 g4.2.1 g4.2.2.2.2.1 g4.2.2.2.2.2.2 g4.2.2.1 g4.2.2.2.1)
   (λ g4=>((l.getD g1.1.toNat az).aE.length - g4.1).toNat) ?_ ⟨ob,ob,by rw[a3];exact⟨hsl,λ _=>rfl⟩,a4⟩
  intro eE g4 ⟨b1,b2,⟨b3,b4⟩,b5⟩ ih4;have hch:=((nY h.ck.ck).big g1.1.toNat om).2;unfold qq;rw[a3];obtain⟨bk,bo,bn,bz⟩:=b5.get;refine aF bo ?_;refine wi ?_ ?_<;>intro c2
  ·have hxv:VS l (s.set g1.1.toNat g4.1):=Gd hsv b1 om;rw[b4];have hts:(s.set g1.1.toNat g4.1).length=l.length/\∀x,(s.set g1.1.toNat g4.1).set g1.1.toNat x=s.set g1.1.toNat x:=⟨by rw[afx];exact hsl,λ x=>aog ..⟩;refine aF om ?_;refine ar (jo hxv hll om) λ v26 acQ=>?_;subst v26;apply br<;>intro c3
   ·have hne:g4.1≠s.getD g1.1.toNat 0:=by simpa using c3
    refine ar (uR h hxv om bk) λ v27 ⟨hv27,acR⟩=>?_;rw[hv27];apply br<;>intro c4
    ·have hc:kb l (s.set g1.1.toNat g4.1) way=true:=by
      simp only[aeP]at c4;exact c4.2
     refine ar ((b5.kn' acR).visit hz a1 om b1 om hne hc) λ v28 hv28=>?_;refine aF hv28.get.2.1 ?_;refine wn ?_;exact ih4 _ ⟨ob,ob,hts,hv28⟩ ob
    have hc:kb l (s.set g1.1.toNat g4.1) way=false:=by
     cases q:kb l (s.set g1.1.toNat g4.1) way with
     | false=>rfl
     | true=>rw[q]at c4;simp at c4;exact absurd c4 hne
    refine wn ?_;exact ih4 _ ⟨ob,ob,hts,(b5.kn' acR).skip a1 om b1 om (.inr hc)⟩ ob
   have heq:g4.1=s.getD g1.1.toNat 0:=by simpa using c3
   refine aF (by simp[heq]) ?_;refine wn ?_;exact ih4 _ ⟨ob,ob,hts,b5.skip a1 om b1 om (.inl heq)⟩ ob
  refine aF om ?_;refine wn<|ih1 _ ⟨ob,ob,?_,b5.weak λ y hy=>Vh a1 y om hy⟩ ob;dsimp only;rw[b4,ad7,aeA om];exact akc om
 have e:g1.1=l.length:=by omega
 refine ai ?_;rw[e]at a4;exact a4
def Lft (l:apY) (way:ap4) (a:Nat) (out:cj->Option Int):Prop:=∃D,Md out D/\(∀k m,D k=some m->k<dP l/\m<dP l)/\(∀k m,D k=some m↔Go.Bf.Tb (SR l way) a k m)/\∀k,D k=none->∀m,¬ Go.Bf.SQ (SR l way) a m k
theorem acS (h:CmK l way) (hz:dP l<=1000000) (hsv:VS l s):
  W (lN l way ((dJ l s:Nat):Int) (λ _=>none)) (λ r=>Kn l way r.1/\Lft l way (dJ l s) r.2):=by
 have hpl:=zV hsv;unfold lN;refine bu (λ g1:(cj->Option Int)×Nat×Nat×(cj->Option Int)×apU=>∃dn qs D,RqB l way dn qs g1.1 g1.2.2.2.1 g1.2.2.2.2 g1.2.1 g1.2.2.1 D/\Go.Bf.Vf (SR l way) (dJ l s) dn (qs.map (dJ l)) D)
  (λ g1=>dP l - ((List.range (dP l)).countP (λ k=>(g1.2.2.2.1 (.i ((k:Nat):Int))).isSome) - g1.2.2.1)) ?_ ?_
 ·intro ab g1 ⟨dn,qs,D,h1,h2⟩ ih1;unfold sW;refine aF h1.on ?_;have hcl:=NS (dP l) D;have hn:=h1.acO;have hct:=h1.ct;have hcnt:∀ {out:cj->Option Int} {D:Nat->Option Nat},Md out D->(List.range (dP l)).countP (λ k=>(out (.i ((k:Nat):Int))).isSome)=Gg (dP l) D:=λ {out D} hm=>by
   unfold Gg;congr 1;funext k;rw[hm k];cases D k<;>rfl
  refine wi ?_ ?_<;>intro c1
  ·match qs,h1,h2,hn,hct with
   | [],_,_,hn,_=>simp at hn;omega
   | t::rest,h1,h2,hn,hct=>
    have htv:=h1.vs t ajN
    refine aF om ?_
    rw[h1.hd]
    have hm0:SX l way (dJ l s) dn t 0 0 g1.1 g1.2.2.2.1 g1.2.2.2.2 g1.2.1 g1.2.2.1:=by
     rw[aiX]at h2
     exact⟨rest,D,h1,yv.weak h2.mid λ y hy=>by obtain⟨u',v',_,q2,_,q4,_⟩:=hy;omega⟩
    refine ar (acP h hz hm0 htv) λ v3 hv3=>?_
    obtain⟨_,o1,o2,o3⟩:=hv3.get
    refine aF o1 ?_
    refine aF om ?_
    obtain⟨rest',D',w1,w2⟩:=hv3
    have wn:=w1.acO
    have wc:=w1.ct
    have wl:=NS (dP l) D'
    rw[ahP]at wn wc hn hct
    refine ih1 _ ⟨dn++[dJ l t],rest',D',⟨w1.kn,λ q hq=>w1.vs q (ahV _ hq),?_,?_,w1.md,w1.lt,?_⟩,w2.done λ y hy=>?_⟩ ?_
    ·dsimp only;omega
    ·dsimp only
     have hq:=w1.q
     obtain⟨m,hm⟩:∃m,v3.2.2.1=m+1:=⟨v3.2.2.1 - 1,om⟩
     rw[hm,drop_cons (0:Int) om,List.take_succ_cons,aiX]at hq
     rw[hm,Nat.add_sub_cancel]
     exact(List.cons.inj hq).2
    ·rw[aeU,afT];omega
    ·obtain⟨s',u',v',q1,q2,q3,q4⟩:=hy
     have:=ua q1 htv q2
     subst this
     exact⟨u',v',q3.hu,q3.v0,q3.v1,.inl (by have:=q3.hu;omega),q4.symm⟩
    dsimp only
    rw[hcnt h1.md,hcnt w1.md]
    omega
  have hq0:qs=[]:=alU.1 om;subst hq0;refine ai ⟨h1.kn,D,h1.md,λ k m hm=>?_,λ k m=>h2.final k m,λ k hk m=>h2.none hk m⟩;have:=h1.lt k m hm;exact⟨this.1,om⟩
 refine⟨[],[s],λ x=>if x=dJ l s then some 0 else none,⟨ahE,λ q hq=>by rw[ahd.1 hq];exact hsv,by simp,by simp,λ k=>?_,λ k m hm=>?_,?_⟩,Go.Bf.Vf.start⟩
 ·unfold te;dsimp only;by_cases e:k=dJ l s
  ·subst e;simp
  rw[aeV e,aeV (by intro q;injection q with q;omega)];rfl
 ·have e:Gg (dP l) (λ x=>if x=dJ l s then some 0 else none)=1:=by
   have:=PD (D:=λ _=>none) (y:=dJ l s) (k:=0) rfl hpl;rw[show Gg (dP l) (λ _=>none)=0 from by unfold Gg;simp]at this;exact this
  rw[e];by_cases q:k=dJ l s
  ·rw[afc q]at hm;have:=ah1 hm;exact⟨by rw[q];exact hpl,om⟩
  rw[aeV q]at hm;cases hm
 have:=PD (D:=λ _=>none) (y:=dJ l s) (k:=0) rfl hpl;rw[show Gg (dP l) (λ _=>none)=0 from by unfold Gg;simp]at this;exact this.symm
def Bi {l_:apY} (h1:l_.length<=2000000) (h2:s_.length<=2000000) (h3:P9 l_):W (oT l_ s_) (λ r=>r=((cB l_==0)&&gQ l_ s_)):=by
 unfold oT;refine ar (sJ (o0 h1)) λ v1 hv1=>?_;subst v1;refine ar (dT λ hc=>iU (vn h1 h2 h3)) λ v2 hv2=>?_;subst v2;exact ai rfl
def Nk {f t:apU} (h:CmK l way) (hlm:iL l way=true) (hf:VS l f) (ht:VS l t) (c1:kb l f way=true) (c2:kb l t way=true):
  W (wx l f t way) (λ r=>r=(l,way,0,λ _=>none)):=by
 have h1:=h.ck.ll;have h2:=h.ck.wl;have h3:=hf.1;have h4:=ht.1;have hck:=h.ck.ck;unfold wx;refine ar (sJ (o0 h1)) λ v1 hv1=>?_;rw[hck]at hv1;subst v1;refine aF rfl ?_;refine ar (FK h1 h2) λ v3 hv3=>?_;rw[hlm]at hv3;subst v3;refine ar (lp λ _=>Bi h1 om h.ch) λ v4 hv4=>?_;have e4:v4=true:=by rw[hv4 rfl,hck,GY hf];rfl
 subst e4;refine ar (lp λ _=>Bi h1 om h.ch) λ v5 hv5=>?_;have e5:v5=true:=by rw[hv5 rfl,hck,GY ht];rfl
 subst e5;refine aF rfl ?_;refine ar (Gf h hf) λ v6 hv6=>?_;rw[c1]at hv6;subst v6;refine aF rfl ?_;refine ar (Gf h ht) λ v7 hv7=>?_;rw[c2]at hv7;subst v7;refine aF rfl ?_;exact ai rfl
def EvP (l:apY) (way:ap4) (D:Nat->Option Nat) (s:apU) (d:Nat) (p0:apX) (u v next:Int) (plan:apX):Prop:=
 (next = -1/\plan=p0/\∀y,DP l s u v y->SR l way (dJ l s) y->D y≠some (d - 1))\/(∃(t:apU) (x:Nat) (y:Int),VS l t/\(next=((dJ l t:Nat):Int)/\D (dJ l t)=some (d - 1))/\(t=s.set x y/\x<l.length/\(0<=y/\y<=4611686018427387904)/\s.getD x 0≠y)/\plan=p0++[⟨1,x,y⟩])
def EvP.weak {d:Nat} {p0:apX} {u' v' next:Int} {plan:apX} (h:EvP l way D s d p0 u v next plan) (hv:∀y,DP l s u' v' y->SR l way (dJ l s) y->DP l s u v y\/D y≠some (d - 1)):EvP l way D s d p0 u' v' next plan:=by
 rcases h with⟨h1,h2,h3⟩ | h
 ·refine .inl ⟨h1,h2,λ y hy hn=>?_⟩;rcases hv y hy hn with q | q
  ·exact h3 y q hn
  exact q
 exact .inr h
def X8 {u:Nat} (hs:VS l s) (hu:u<l.length) (v0:0<=v) (v1:v<(l.getD u az).aE.length) (hv:v=s.getD u 0\/kb l (s.set u v) way=false):¬ SR l way (dJ l s) (dJ l (s.set u v)):=by
 intro hn;have hxv:VS l (s.set u v):=Gd hs v0 v1;obtain⟨s',u',v',w1,w2,w3,w4⟩:=hn;have e:=ua w1 hs w2;subst e;have e2:=ua (Gd w1 w3.v0 w3.v1) hxv w4;rcases hv with hv | hv
 ·have e3:s'.set u v=s':=by
   rw[hv,ad7,aeA (by rw[w1.1];omega)];exact akc (by rw[w1.1];omega)
  rw[e3]at e2;have h3:(s'.set u' v').getD u' 0=v':=by
   rw[ad7,aj3 (by rw[w1.1];exact w3.hu)];rfl
  rw[e2]at h3;exact w3.ne h3.symm
 rw[<- e2]at hv;rw[w3.cm]at hv;cases hv
def ahG (hD:∀k m,D k=some m↔Go.Bf.Tb (SR l way) a k m) (hN:∀k,D k=none->∀m,¬ Go.Bf.SQ (SR l way) a m k) {m:Nat} (hx:D x=some m) (hn:SR l way x y):∃k,D y=some k:=by
 cases h:D y with
 | some k=>exact⟨k,rfl⟩
 | none=>exact absurd (.s ((hD x m).1 hx).1 hn) (hN y h (m+1))
theorem acT {left:cj->Option Int} {d:Nat} {plan:apX} (h:CmK l way) (hz:dP l<=1000000) (hsv:VS l s) (hkn:Kn l way known) (hmd:Md left D) (hD:∀k m,D k=some m↔Go.Bf.Tb (SR l way) a k m)
  (hN:∀k,D k=none->∀m,¬ Go.Bf.SQ (SR l way) a m k) (ha:okN l way a) (hd:D (dJ l s)=some (d+1)) (hd2:d<=1000000) (hp:plan.length<=10000000):
  W (j5 l way ((dJ l s:Nat):Int) known (-1) ((dJ l s:Nat):Int) left plan) (λ r=>Kn l way r.1/\∃(t:apU) (x:Nat) (y:Int),VS l t/\(r.2.1=((dJ l t:Nat):Int)/\D (dJ l t)=some d)/\(t=s.set x y/\x<l.length/\(0<=y/\y<=4611686018427387904)/\s.getD x 0≠y)/\r.2.2=plan++[⟨1,x,y⟩]):=by
 have hll:=h.ck.ll;have hsl:=hsv.1;have hgs:=PE hmd hd;unfold j5;refine ar (kV hsv hll om) λ v1 hv1=>?_;subst v1;refine bu (λ g1:Int×(cj->Option Int)×Int×apU×apX=>0<=g1.1/\g1.1<=l.length/\g1.2.2.2.1=s/\Kn l way g1.2.1/\EvP l way D s (d+1) plan g1.1 0 g1.2.2.1 g1.2.2.2.2) (λ g1=>(l.length - g1.1).toNat) ?_ ⟨ob,ob,rfl,hkn,.inl ⟨rfl,rfl,λ y hy=>by obtain⟨u',v',_,q2,_,q4,_⟩:=hy;omega⟩⟩;intro ab g1 ⟨a1,a2,a3,a4,a5⟩ ih1;unfold qx;refine wi ?_ ?_<;>intro c1
 ·refine wn<|aF (by rw[a3];omega) ?_;refine bu (λ g4:Int×(cj->Option Int)×Int×apU×apX=>0<=g4.1/\g4.1<=(l.getD g1.1.toNat az).aE.length/\(g4.2.2.2.1.length=l.length/\∀x,g4.2.2.2.1.set g1.1.toNat x=s.set g1.1.toNat x)/\Kn l way g4.2.1/\EvP l way D s (d+1) plan g1.1 g4.1 g4.2.2.1 g4.2.2.2.2)
   (λ g4=>((l.getD g1.1.toNat az).aE.length - g4.1).toNat) ?_ ⟨ob,ob,by rw[a3];exact⟨hsl,λ _=>rfl⟩,a4,a5⟩
  intro eE g4 ⟨b1,b2,⟨b3,b4⟩,bk,b5⟩ ih4;have hch:=((nY h.ck.ck).big g1.1.toNat om).2;unfold qv;rw[a3];refine wi ?_ ?_<;>intro c2
  ·have hxv:VS l (s.set g1.1.toNat g4.1):=Gd hsv b1 om;rw[b4];have hts:(s.set g1.1.toNat g4.1).length=l.length/\∀x,(s.set g1.1.toNat g4.1).set g1.1.toNat x=s.set g1.1.toNat x:=⟨by rw[afx];exact hsl,λ x=>aog ..⟩;refine aF om ?_;refine ar (jo hxv hll om) λ v26 acQ=>?_;subst v26;apply br<;>intro c3
   ·have hne:g4.1≠s.getD g1.1.toNat 0:=by simpa using c3
    refine ar (uR h hxv om bk) λ v27 ⟨hv27,acR⟩=>?_;rw[hv27];apply br<;>intro c4
    ·have hc:kb l (s.set g1.1.toNat g4.1) way=true:=by
      simp only[aeP]at c4;exact c4.2
     have hnb:SR l way (dJ l s) (dJ l (s.set g1.1.toNat g4.1)):=⟨s,g1.1.toNat,g4.1,hsv,rfl,⟨om,b1,om,hne,hc⟩,rfl⟩;obtain⟨m,hm⟩:=ahG hD hN hd hnb;have hgm:=PE hmd hm;have hmr:W (nR (⟨(1:Int),g1.1,g4.1⟩:aw) ((dJ l (s.set g1.1.toNat g4.1):Nat):Int) g4.2.2.1 ((dJ l s:Nat):Int) left g4.2.2.2.2) (λ r=>EvP l way D s (d+1) plan g1.1 (g4.1+1) r.1 r.2):=by
      unfold nR;refine aF (λ _=>by rw[hgs];unfold av;omega) ?_;apply br<;>intro c5
      ·rw[hgs,hgm]at c5;simp only[aeP,ahQ,ajZ]at c5;have hpl:g4.2.2.2.2=plan:=by
        rcases b5 with⟨_,q,_⟩ | ⟨t,x,y,_,⟨q,_⟩,_⟩
        ·exact q
        omega
       refine aF (by rw[hpl];unfold big;omega) ?_;refine ai (.inr ⟨_,g1.1.toNat,g4.1,hxv,⟨rfl,?_⟩,⟨rfl,om,⟨b1,om⟩,λ e=>hne e.symm⟩,?_⟩)
       ·rw[hm];congr 1;omega
       dsimp only;rw[hpl,show((g1.1.toNat:Nat):Int)=g1.1 by omega]
      refine ai ?_;rcases b5 with⟨q1,q2,q3⟩ | q
      ·refine .inl ⟨q1,q2,λ y hy hn=>?_⟩;rcases wZ a1 om b1 om y hy with w | w
       ·exact q3 y w hn
       subst w;intro e;rw[hm]at e;have e:=ah1 e;rw[hgs,hgm,q1]at c5;simp at c5;omega
      exact .inr q
     refine ar hmr λ v28 hv28=>?_;refine wn ?_;exact ih4 _ ⟨ob,ob,hts,acR,hv28⟩ ob
    have hc:kb l (s.set g1.1.toNat g4.1) way=false:=by
     cases q:kb l (s.set g1.1.toNat g4.1) way with
     | false=>rfl
     | true=>rw[q]at c4;simp at c4;exact absurd c4 hne
    refine wn<|ih4 _ ⟨ob,ob,hts,acR,b5.weak λ y hy hn=>?_⟩ ob;rcases wZ a1 om b1 om y hy with w | w
    ·exact .inl w
    subst w;exact absurd hn (X8 hsv om b1 om (.inr hc))
   have heq:g4.1=s.getD g1.1.toNat 0:=by simpa using c3
   refine aF (by simp[heq]) ?_;refine wn<|ih4 _ ⟨ob,ob,hts,bk,b5.weak λ y hy hn=>?_⟩ ob;rcases wZ a1 om b1 om y hy with w | w
   ·exact .inl w
   subst w;exact absurd hn (X8 hsv om b1 om (.inl heq))
  refine aF om ?_;refine wn<|ih1 _ ⟨ob,ob,?_,bk,b5.weak λ y hy _=>.inl (Vh a1 y om hy)⟩ ob;dsimp only;rw[b4,ad7,aeA om];exact akc om
 have e:g1.1=l.length:=by omega
 refine ai ⟨a4,?_⟩;rcases a5 with⟨_,_,q⟩ | q
 ·exfalso;obtain⟨x,hx,hn⟩:=((hD _ _).1 hd).prev;have hok:=(hx.1.rev (C:=okN l way) ha λ _ _=>SS).1;have hn2:=(SS hok hn).2;obtain⟨s',u',v',w1,w2,w3,w4⟩:=hn2;have e2:=ua w1 hsv w2;subst e2;refine q x ⟨u',v',w3.hu,w3.v0,w3.v1,.inl (by have:=w3.hu;omega),w4.symm⟩ ⟨s',u',v',w1,rfl,w3,w4⟩ ?_;exact(hD x d).2 hx
 exact q
def SY {A:Int->Prop} (h:xU A) {r:Int} (hr:A r):r=Classical.epsilon A:=h _ _ hr (Classical.epsilon_spec ⟨r,hr⟩)
noncomputable def ndX (b:aI) (l:apW):Int:=Classical.epsilon (jr b l)
noncomputable def dfX (l:apW) (m:apU):Bool := @decide (qN l m) (Classical.propDecidable _)
noncomputable def scX (s:dN):Int:=Classical.epsilon (Nb s.bm s.cb s.aO s.aU s.fQ)
noncomputable def brX (b:aI) (l:apW) (m:apU) (g:ak):Int:=scX ⟨b,l,m,g,true⟩
def afD {l:apW} {m:apU} {r:Bool} (h:r=true↔qN l m):r=dfX l m:=by
 unfold dfX;cases r with
 | true=>exact(@afl _ (_) (h.1 rfl)).symm
 | false=>exact(@afe _ (_) (λ q=>by cases h.2 q)).symm
variable {b_:aI} {l_:apW}
def QB (h1:xQ b_) (h2:∀g∈b_.aM.ax,g.bH.length<=2000000/\g.aj.length<=2000000) (h3:Ck l_):W (lP b_ l_) (λ r=>r=ndX b_ l_/\jr b_ l_ r):=K7 (tZ h1 h2 h3) λ _ h=>⟨SY jr.fun h,h⟩
variable {ae:apU}
def LD (h1:l_.length<=2000000) (h2:ae.length<=2000000):W (iq l_ ae) (λ r=>r=dfX l_ ae):=K7 (n7 h1 h2) λ _ h=>afD h
def DQ {g_:ak} (h1:xQ b_) (h2:∀g∈b_.aM.ax,g.bH.length<=2000000/\g.aj.length<=2000000) (h3:Ck l_) (h4:ae.length<=10000) (h5:ka g_) (h6:jr b_ l_ 0):W (lQ b_ l_ ae g_ true) (λ r=>r=brX b_ l_ ae g_):=
 K7 (DN h1 h2 h3 h4 h5) λ _ h=>by
  rcases h with⟨h,_⟩ | ⟨_,h⟩
  ·exact absurd h6 h
  exact SY Nb.fun h
noncomputable def trX (b:aI) (l:apW) (m:apU):apX->Int->ak->ak×Int×Int×Int
 | [],i,g=>(g,i,0,0)
 | w::t,i,g=>bif !(cW w g).1 then(emG,0,0,2)else bif brX b l m (cW w g).2 != 0 then((cW w g).2,i,brX b l m (cW w g).2,0)else trX b l m t (i+1) (cW w g).2
noncomputable def Gh (b:aI) (l:apW) (m:apU) (g:ak) (w:apX):ak×Int×Int×Int:=
 bif ndX b l != 0 then(emG,0,0,ndX b l)else bif !dfX l m then(emG,0,0,2)else bif brX b l m g != 0 then(g,-1,brX b l m g,0)else trX b l m w 0 g
def Rk (w:aw) (g:ak):((cW w g).1=true/\VA w g=((cW w g).2,0))\/((cW w g).1=false/\VA w g=(g,2)):=by
 unfold VA;cases(cW w g).1
 ·exact .inr ⟨rfl,rfl⟩
 exact .inl ⟨rfl,rfl⟩
def Gi {g_:ak} {w_:apX} (h1:xQ b_) (h2:Ck l_) (h3:ae.length<=10000) (h4:ka g_) (h5:g_.Uses.length<=100000) (h6:w_.length<=100000) (h7:∀x∈w_,x.Value<=9223372036854775807) (h8:∀g∈b_.aM.ax,g.bH.length<=2000000/\g.aj.length<=2000000):W (uL b_ l_ ae g_ w_) (λ r=>r=Gh b_ l_ ae g_ w_):=by
 have h2r:=h2;obtain⟨n3,n4⟩:=h2;obtain⟨z1,z2,z3,z4,z5,z6⟩:=id h4;unfold uL;refine ar (QB h1 h8 h2r) λ v1 hv1=>?_;obtain⟨s9,rT⟩:=hv1;apply br<;>intro c1
 ·have dc:=c1;have c1:=cG c1;refine ai ?_;(unfold Gh;rw[<- s9,dc];rfl)
 have dc:=c1;have c1:=cG c1;have hn0:jr b_ l_ 0:=(by rw[c1]at rT;exact rT);refine ar (LD n3 om) λ v2 hv2=>?_;subst v2;apply br<;>intro c2
 ·have fX:=c2;have c2:=cG c2;refine ai ?_;(unfold Gh;rw[<- s9,dc,fX];rfl)
 have fX:=c2;have c2:=cG c2;refine ar (DQ h1 h8 h2r h3 h4 hn0) λ v3 hv3=>?_;subst v3;apply br<;>intro c3
 ·have fM:=c3;have c3:=cG c3;refine ai ?_;(unfold Gh;rw[<- s9,dc,fX];simp only[ags];rw[fM];rfl)
 have fM:=c3;have c3:=cG c3;have htf:Gh b_ l_ ae g_ w_=trX b_ l_ ae w_ 0 g_:=(by unfold Gh;rw[<- s9,dc,fX];simp only[ags];rw[fM];rfl);refine bu (λ(g1:Int×apU×apV×apU×apZ×apV×apV)=>0<=g1.1/\g1.1<=w_.length/\(g1.2.2.2.2.1.length:Int)<=100000+g1.1/\ka (⟨g1.2.1,(⟨g1.2.2.1,g1.2.2.2.1⟩:aK),g1.2.2.2.2.1,g1.2.2.2.2.2.1,g1.2.2.2.2.2.2⟩:ak)/\trX b_ l_ ae (w_.drop g1.1.toNat) g1.1 (⟨g1.2.1,(⟨g1.2.2.1,g1.2.2.2.1⟩:aK),g1.2.2.2.2.1,g1.2.2.2.2.2.1,g1.2.2.2.2.2.2⟩:ak)=trX b_ l_ ae w_ 0 g_) (λ(g1:Int×apU×apV×apU×apZ×apV×apV)=>(w_.length - g1.1).toNat) ?_ ?_
 ·intro ab g1 cN bQ;obtain⟨cz,bB,bA,fY,ta⟩:=cN;unfold DE;refine wi ?_ ?_<;>intro c4
  ·have hw:=h7 _ (getD_in (i:=g1.1.toNat) bR om);have hst:=ta;rw[drop_cons bR (show g1.1.toNat<w_.length by omega),trX]at hst;refine wn<|ar (Px fY hw) λ v8 wJ=>?_;subst v8;apply br<;>intro c5
   ·have sN:=c5;have c5:=cG c5;have e5:(cW (w_.getD g1.1.toNat bR) (⟨g1.2.1,(⟨g1.2.2.1,g1.2.2.2.1⟩:aK),g1.2.2.2.2.1,g1.2.2.2.2.2.1,g1.2.2.2.2.2.2⟩:ak)).1=false/\VA (w_.getD g1.1.toNat bR) (⟨g1.2.1,(⟨g1.2.2.1,g1.2.2.2.1⟩:aK),g1.2.2.2.2.1,g1.2.2.2.2.2.1,g1.2.2.2.2.2.2⟩:ak)=((⟨g1.2.1,(⟨g1.2.2.1,g1.2.2.2.1⟩:aK),g1.2.2.2.2.1,g1.2.2.2.2.2.1,g1.2.2.2.2.2.2⟩:ak),2):=(by rcases Rk (w_.getD g1.1.toNat bR) (⟨g1.2.1,(⟨g1.2.2.1,g1.2.2.2.1⟩:aK),g1.2.2.2.2.1,g1.2.2.2.2.2.1,g1.2.2.2.2.2.2⟩:ak)with h | h;(rw[h.2]at sN;cases sN);exact h);rw[e5.1]at hst;refine ai ?_;(rw[htf,<- hst,e5.2];rfl)
   have sN:=c5;have c5:=cG c5;have e5:(cW (w_.getD g1.1.toNat bR) (⟨g1.2.1,(⟨g1.2.2.1,g1.2.2.2.1⟩:aK),g1.2.2.2.2.1,g1.2.2.2.2.2.1,g1.2.2.2.2.2.2⟩:ak)).1=true/\VA (w_.getD g1.1.toNat bR) (⟨g1.2.1,(⟨g1.2.2.1,g1.2.2.2.1⟩:aK),g1.2.2.2.2.1,g1.2.2.2.2.2.1,g1.2.2.2.2.2.2⟩:ak)=((cW (w_.getD g1.1.toNat bR) (⟨g1.2.1,(⟨g1.2.2.1,g1.2.2.2.1⟩:aK),g1.2.2.2.2.1,g1.2.2.2.2.2.1,g1.2.2.2.2.2.2⟩:ak)).2,0):=(by rcases Rk (w_.getD g1.1.toNat bR) (⟨g1.2.1,(⟨g1.2.2.1,g1.2.2.2.1⟩:aK),g1.2.2.2.2.1,g1.2.2.2.2.2.1,g1.2.2.2.2.2.2⟩:ak)with h | h;(exact h);(rw[h.2]at sN;cases sN));rw[e5.1]at hst;rw[e5.2];have hgz:=U4 (n:=100000+g1.1.toNat) fY (by(dsimp only;omega)) om (w:=(w_.getD g1.1.toNat bR));(try dsimp only at hgz);refine ar (DQ h1 h8 h2r h3 hgz.1 hn0) λ v9 Lj=>?_;subst v9;apply br<;>intro c6
   ·have Eg:=c6;have c6:=cG c6;refine ai ?_;(rw[htf,<- hst];simp only[aj1,ags];rw[Eg];rfl)
   have Eg:=c6;have c6:=cG c6;refine wn<|bQ _ ?_ ?_
   ·(refine⟨by((try dsimp only);omega),by((try dsimp only);omega),by(have:=hgz.2;(try dsimp only);omega),hgz.1,?_⟩;rw[<- hst];simp only[aj1,ags];rw[Eg,show(g1.1+1).toNat=g1.1.toNat+1 by omega];rfl)
   exact ob
  refine ai ?_;(rw[htf,<- ta,show g1.1.toNat=w_.length by omega,ai8,show g1.1=(w_.length:Int) by omega];rfl)
 (exact⟨air 0,by(dsimp only;omega),by(dsimp only;omega),h4,rfl⟩)
variable {Hh:apU}
def Vm {g_:ak} (h1:xQ b_) (h2:ZP b_.aM) (h3:Ck l_) (h4:Hh.length<=10000) (h5:ka g_):W (uu b_ l_ Hh g_) (λ r=>r=true↔kC b_ l_ Hh g_ false 0):=by
 unfold uu;refine ar (Nc h1 h2 h3 h4 h5) λ v1 hv1=>ai ⟨λ e=>?_,λ h=>?_⟩
 ·have e:v1=0:=by simpa using e
  rw[e]at hv1;exact hv1
 rw[kC.fun _ _ hv1 h];rfl
def ZR (l:apW) (ms:apU):ap4:=ms.flatMap λ m=>(l.getD m.toNat bb).bO
def Rl {α:Type} {f:Int->List α} (h:i<ms.length):(ms.take (i+1)).flatMap f=(ms.take i).flatMap f++f (ms.getD i 0):=by
 rw[alV,aeA h,aoh,ad7,aeA h];simp
def ZF (hm:Hh.length<=10000) (hr:∀m∈Hh,0<=m/\m<l_.length) (hb:∀n∈l_,n.bO.length<=100):W (wq l_ Hh) (λ r=>r=ZR l_ Hh):=by
 unfold wq mA;refine ar (P:=λ r=>r=ZR l_ Hh) ?_ λ v1 hv1=>ai hv1;refine bu (λ g:Int×ap4=>0<=g.1/\g.1<=Hh.length/\g.2=ZR l_ (Hh.take g.1.toNat)/\g.2.length<=100*g.1.toNat) (λ g=>(Hh.length - g.1).toNat) ?_ ⟨ob,ob,rfl,ahU _⟩;intro self g ⟨a1,a2,a3,a4⟩ ih;unfold oS;refine wi ?_ ?_<;>intro c1
 ·have hlt:g.1.toNat<Hh.length:=by omega
  have hmem:Hh.getD g.1.toNat 0∈Hh:=by rw[ad7,aeA hlt];exact ai1 hlt
  have hrr:=hr _ hmem;have hnl:(Hh.getD g.1.toNat 0).toNat<l_.length:=by omega
  have hnb:=hb (l_.getD (Hh.getD g.1.toNat 0).toNat bb) (by rw[ad7,aeA hnl];exact ai1 hnl);refine aF om ?_;refine br (λ _=>?_) (λ c2=>?_)
  ·refine aF om ?_;refine ar (P:=λ r=>r=(l_.getD (Hh.getD g.1.toNat 0).toNat bb).bO) (ai rfl) λ v3 hv3=>?_;subst v3;refine aF (by unfold big;omega) ?_;refine wn<|ih _ ⟨ob,ob,?_,?_⟩ ob
   ·dsimp only;rw[show(g.1+1).toNat=g.1.toNat+1 by omega,a3];unfold ZR;rw[Rl hlt]
   dsimp only;rw[aeU];omega
  rw[afl hrr.1,afl hrr.2]at c2;cases c2
 refine ai ?_;rw[a3,ahH om]
def acU (hm:Hh.length<=10000) (hr:∀m∈Hh,0<=m/\m<l_.length) (hb:∀n∈l_,n.dq.length<=100):W (yS l_ Hh) (λ r=>r=M9 l_ Hh/\r.length<=1000000):=by
 unfold yS nk;refine ar (P:=λ r=>r=M9 l_ Hh/\r.length<=1000000) ?_ λ v1 hv1=>ai hv1;refine bu (λ g:Int×ap3=>0<=g.1/\g.1<=Hh.length/\g.2=M9 l_ (Hh.take g.1.toNat)/\g.2.length<=100*g.1.toNat) (λ g=>(Hh.length - g.1).toNat) ?_ ⟨ob,ob,rfl,ahU _⟩;intro self g ⟨a1,a2,a3,a4⟩ ih;unfold qn;refine wi ?_ ?_<;>intro c1
 ·have hlt:g.1.toNat<Hh.length:=by omega
  have hmem:Hh.getD g.1.toNat 0∈Hh:=by rw[ad7,aeA hlt];exact ai1 hlt
  have hrr:=hr _ hmem;have hnl:(Hh.getD g.1.toNat 0).toNat<l_.length:=by omega
  have hnb:=hb (l_.getD (Hh.getD g.1.toNat 0).toNat bb) (by rw[ad7,aeA hnl];exact ai1 hnl);refine aF om ?_;refine br (λ _=>?_) (λ c2=>?_)
  ·refine aF om ?_;refine ar (P:=λ r=>r=(l_.getD (Hh.getD g.1.toNat 0).toNat bb).dq) (ai rfl) λ v3 hv3=>?_;subst v3;refine aF (by unfold big;omega) ?_;refine wn<|ih _ ⟨ob,ob,?_,?_⟩ ob
   ·dsimp only;rw[show(g.1+1).toNat=g.1.toNat+1 by omega,a3];unfold M9;rw[Rl hlt]
   dsimp only;rw[aeU];omega
  rw[afl hrr.1,afl hrr.2]at c2;cases c2
 refine ai ⟨?_,om⟩;rw[a3,ahH om]
def Vn {l:apW} (h:kC b l ms g false 0) (hm:∀m∈ms,0<=m/\m<l.length) (hn:∀n∈l,∀x∈n.bO,He b.bj.length x):cB b.bj=0/\VS b.bj g.Setting/\kb b.bj g.Setting (ZR l ms)=true:=by
 obtain⟨_,h⟩:=cV (by decide) h;obtain⟨h2,h⟩:=cV (by decide) h;obtain⟨h3,h⟩:=cV (by decide) h;obtain⟨h4,_⟩:=cV (by decide) h;have q2:=ahR.1 h2;have q4:=ahR.1 h4;have h3:cK b.bj g.Setting []=true:=by
  cases e:cK b.bj g.Setting []with
  | true=>rfl
  | false=>exact absurd e h3
 obtain⟨c1,c2,c3⟩:=G0 h3;obtain⟨⟨s1,_⟩,s2,_⟩:=q2.2;have hs:VS b.bj g.Setting:=⟨om,λ i hi=>s2 i om⟩;refine⟨c1,hs,?_⟩;unfold kb;rw[c3,aj0,ahA,List.any_map,aja];intro x hx;unfold ZR at hx;obtain⟨m,hmm,hxm⟩:=anO.1 hx;obtain⟨i,hi,rfl⟩:=ahZ.1 hmm;have hr:=hm _ hmm;have hnl:(ms[i]).toNat<l.length:=by omega
 have hnm:l.getD (ms[i]).toNat bb∈l:=by rw[ad7,aeA hnl];exact ai1 hnl
 have hok:=hn _ hnm x hxm;obtain⟨j,hj,rfl⟩:=ahZ.1 hxm;have hl:=q4 i om;rw[show ms.getD i 0=ms[i] by rw[ad7,aeA hi];rfl]at hl;have hx2:=hl j om;rw[show(l.getD (ms[i]).toNat bb).bO.getD j bW=(l.getD (ms[i]).toNat bb).bO[j] by rw[ad7,aeA hj];rfl]at hx2;generalize (l.getD (ms[i]).toNat bb).bO[j]=x at hok hx2;obtain⟨x1,x2,x3⟩:=hx2;have hv:=(Ce (nY c1) c2 x.cF.toNat (by have:=hok.k0;have:=hok.kl;omega)).2.2.1;show ¬ FI (dx b.bj g.Setting) (W8 x)=true;unfold FI W8;dsimp only;rw[SE x1,Ps hv (by
  have hd:=(jd hv).2.2.1
  have:=x3 rfl
  have h0:0<=x.ij*((dx b.bj g.Setting).getD x.cF.toNat cD).fx:=aoc hok.l0 om
  omega) x2]
 decide
inductive G3 (P:ak->Prop):ak->apX->ak->Prop
 | nil (g:ak):G3 P g [] g
 | cons {g g1 h:ak} {w:aw} {ws:apX} (a:PW g w g1) (p:P g1) (b:G3 P g1 ws h):G3 P g (w::ws) h
variable {P:ak->Prop}
def G3.app {k:ak} {u v:apX} (a:G3 P g u h) (b:G3 P h v k):G3 P g (u++v) k:=by
 induction a with
 | nil=>exact b
 | cons a p _ ih=>exact .cons a p (ih b)
def G3.one {w:aw} (a:PW g w h) (p:P h):G3 P g [w] h:=.cons a p (.nil _)
def G3.apl (a:G3 P g ws h):W7 g ws h:=by
 induction a with
 | nil=>exact .nil _
 | cons a _ _ ih=>exact .cons a ih
def G3.last (a:G3 P g ws h) (p:P g):P h:=by
 induction a with
 | nil=>exact p
 | cons _ q _ ih=>exact ih q
def G3.mono {Q:ak->Prop} (hq:∀g,P g->Q g) (a:G3 P g ws h):G3 Q g ws h:=by
 induction a with
 | nil=>exact .nil _
 | cons a p _ ih=>exact .cons a (hq _ p) ih
def DvB (n:Nat) (g:ak):Prop:=∀u∈g.Uses,-1<=u.dE/\u.dE<n
def X9 {k:Int} {l:apZ}:∀u∈iO k l,u∈l:=λ u hu=>by
 by_cases h:∃u∈l,u.cX.aZ=k
 ·exact(aci h).2.1 u hu
 rw[U6 λ u hu q=>h ⟨u,hu,q⟩]at hu;exact hu
def DvB.ap {g':ak} {w:aw} (h:DvB n g) (a:PW g w g'):DvB n g':=by
 cases a with
 | k1 | k2 | k3 | k11 | k12=>exact h
 | k10 k u0 u1 v0=>
  intro u hu;have hu:u∈nB w.Unit w.Value (iO w.Unit g.Uses):=hu;unfold nB at hu;cases e:decide (0<w.Value)with
  | false=>rw[e]at hu;exact h u (X9 u hu)
  | true=>
   rw[e]at hu;rcases ahL.1 hu with q | q
   ·exact h u (X9 u q)
   rw[ahd.1 q];dsimp only;omega
def aeW {Q:ak->Prop} (hQ:∀g k,P g->Ta k g->DvB n k->Q k) (hg:SO g) (hd:DvB n g) (a:G3 P g ws h) (p:P g):∃k,G3 Q h (ya g ws) k/\Ta k g/\DvB n k:=by
 induction a with
 | nil g=>exact⟨g,.nil _,.refl _,hd⟩
 | @cons g g1 h w ws a p1 b ih=>
  obtain⟨k1,q1,q2,q3⟩:=ih (hg.ap a) (hd.ap a) p1;obtain⟨g2,q4,q5⟩:=aeM hg a;obtain⟨k2,q6,q7⟩:=ahB (hg.ap a) q2.symm q4;have e:ya g (w::ws)=ya g1 ws++[Qz g w]:=by
   show ya (cW w g).2 ws++_=_;rw[SP a]
  have q8:=q3.ap q6;have q9:=q7.symm.trans q5;exact⟨k2,by rw[e];exact q1.app (.one q6 (hQ _ _ p q9 q8)),q9,q8⟩
def CS (b:aI) (l:apW) (ms:apU) (s:apU):Prop:=VS b.bj s/\cK b.bj s []=true/\ahh b l ms ⟨s,⟨[],[]⟩,[],[],[]⟩ true
def CR (b:aI) (l:apW) (ms:apU) (r:aK):Prop:=(r.On.length=b.aX.length/\r.aT.length=b.aX.length)/\Sp.cK b.aX r (M9 l ms)=true
def CU (b:aI) (l:apW) (ms:apU) (U:apZ):Prop:=(∀u∈U,-1<=u.dE/\u.dE<l.length)/\sP b.aM (U.map ah.cX)/\Zz b l ms ⟨[],⟨[],[]⟩,U,[],[]⟩
def CL (b:aI) (l:apW) (ms:apU) (x:apV):Prop:=SD b.bc x/\∀i:Nat,(i:Int)<ms.length->Zw ⟨[],⟨[],[]⟩,[],x,[]⟩ (l.getD (ms.getD i 0).toNat bb)
def CP (b:aI) (l:apW) (ms:apU) (x:apV):Prop:=ZN b.bw x/\∀i:Nat,(i:Int)<ms.length->Zx ⟨[],⟨[],[]⟩,[],[],x⟩ (l.getD (ms.getD i 0).toNat bb)
structure CX (b:aI) (l:apW) (ms:apU):Prop where
 nd:jr b l 0
 df:qN l ms
 pa:wM b.aM 0
 rs:Qr b.bc 0
 dm:M1 b.bw 0
structure CG (b:aI) (l:apW) (ms:apU) (g:ak):Prop where
 cs:CS b l ms g.Setting
 cr:CR b l ms g.aY
 cu:CU b l ms g.Uses
 cl:CL b l ms g.Released
 cp:CP b l ms g.bg
def PF {l:apW} {bt:Bool} (h:kC b l ms g bt 0):CX b l ms/\CG b l ms g:=by
 obtain⟨h1,h⟩:=cV (by decide) h;obtain⟨h2,h⟩:=cV (by decide) h;obtain⟨h3,h⟩:=cV (by decide) h;obtain⟨h4,h⟩:=cV (by decide) h;obtain⟨h5,h⟩:=cV (by decide) h;obtain⟨h6,h⟩:=cV (by decide) h;obtain⟨h7,h⟩:=cV (by decide) h;obtain⟨h8,h⟩:=cV (by decide) h;obtain⟨h9,_⟩:=cV (by decide) h;obtain⟨q1,⟨s1,s2,s3,s4,s5⟩,s6,s7⟩:=ahR.1 h2;have q4:=ahR.1 h4;obtain⟨q6,q6'⟩:=ahR.1 h6;obtain⟨⟨q8,q8'⟩,ant⟩:=ahR.1 h8;obtain⟨⟨q9,q9'⟩,anu⟩:=ahR.1 h9;refine⟨⟨ahR.1 h1,q1,q6,q8,q9⟩,⟨⟨om,λ i hi=>s6 i om⟩,aos _ ▸ h3,λ i hi j hj=>?_⟩,⟨⟨om,om⟩,aos _ ▸ h5⟩,⟨iN aL λ i hi=>s7 i om,q6',ahR.1 h7⟩,⟨q8',ant⟩,⟨q9',anu⟩⟩;obtain⟨x1,x2,_⟩:=q4 i hi j hj;exact⟨x1,x2,nofun⟩
def yb {l:apW} (x:CX b l ms) (h:CG b l ms g):kC b l ms g true 0:=by
 obtain⟨⟨a1,a2⟩,a3,a4⟩:=h.cs;obtain⟨⟨b1,b2⟩,b3⟩:=h.cr;obtain⟨c1,c2,c3⟩:=h.cu;have d1:=h.cl.1.1;have e1:=h.cp.1.1;have no:∀ {p:Prop} {c:Int} {A:Int->Prop},¬p->A 0->BF p c A 0:=λ q h=>aG q h;exact no (λ q=>q x.nd)<|no (λ q=>q ⟨x.df,⟨om,om,om,d1,e1⟩,λ i hi=>a2 i om,λ i hi=>c1 _ (getD_in aL om)⟩)<|no (by rw[a3];decide)<|
  no (λ q=>q a4)<|no (by rw[b3];decide)<|no (λ q=>q ⟨x.pa,c2⟩)<|no (λ q=>q c3)<|no (λ q=>q ⟨⟨x.rs,h.cl.1⟩,h.cl.2⟩)<|no (λ q=>q ⟨⟨x.dm,h.cp.1⟩,h.cp.2⟩) rfl
def eqH (v x:ah):Bool:=(v.dE==x.dE)&&((v.cX.aZ==x.cX.aZ)&&((v.cX.bD==x.cX.bD)&&true))
def Ya {v x:ah}:eqH v x=true↔v=x:=by
 obtain⟨d,⟨g,f⟩⟩:=v;obtain⟨d',⟨g',f'⟩⟩:=x;unfold eqH;simp only[aeP,ajZ,Bool.true_eq,ah.mk.injEq,ee.mk.injEq,and_true]
def aeX {s_:apZ} {v_:ah} (h1:s_.length<=2000000):W (kj s_ v_) (λ r=>r=true↔v_∈s_):=by
 have hi:W (mz s_ v_) (λ r=>r=uM s_ (eqH v_)):=abl (d:=aL) (P:=eqH v_) om;refine K7 (sJ (A2 hi (j7 _ _))) λ r hr=>?_;rw[hr,ai7];constructor
 ·rintro ⟨x,hx,e⟩;rw[Ya.1 e];exact hx
 intro h;exact⟨v_,h,Ya.2 rfl⟩
def SZ {p:bq} (h2:ZP p) (o:sP p (U.map ah.cX)):∀u∈U,0<=u.cX.bD/\u.cX.bD<=2000000:=λ u hu=>by
 have w:=wN o u hu;have w1:=w.g0;have w2:=w.gl;have w3:=w.f0;have w4:=w.fl;have q3:=(h2 (p.ax.getD u.cX.aZ.toNat ay) (by
  rw[ad7,aeA om];exact ai1 _)).2
 omega
def NT {p:bq} (o:sP p (U.map ah.cX)):(U.map λ u=>u.cX.aZ).Nodup:=by
 have:=SW o;rw[List.map_map]at this;exact this
def hG (U:apZ) (i:Nat):Bool:=U.any λ u=>u.cX.aZ==((i:Nat):Int)
def acV (h:GmP U m) (hf:∀u∈U,0<=u.cX.bD/\u.cX.bD<=2000000) (i:Nat):decide ((0:Int)<fo m (.i ((i:Nat):Int)))=hG U i/\(fo m (.i ((i:Nat):Int))==0)=!hG U i:=by
 cases e:m (.i ((i:Nat):Int))with
 | none=>
  have hg:hG U i=false:=by
   unfold hG;rw[aja];intro u hu q;have q:u.cX.aZ=((i:Nat):Int):=by simpa using q
   have:=h.to u hu;rw[q,e]at this;cases this
  unfold fo;rw[e,hg];exact⟨rfl,rfl⟩
 | some v=>
  obtain⟨u,hu,e1,rfl⟩:=h.of _ v e;have hb:=hf u hu;have hg:hG U i=true:=by
   unfold hG;rw[ai7];exact⟨u,hu,by simpa using e1⟩
  unfold fo;rw[e,hg];refine⟨afl (by show(0:Int)<u.cX.bD+1;omega),?_⟩;show(u.cX.bD+1==0)=false;simp;omega
def S0 {l:apW} {bt:Bool} (h:kC b l ms g bt 0):∀n∈l,∀x∈n.bO,He b.bj.length x:=by
 obtain⟨h1,_⟩:=cV (by decide) h;exact λ n hn=>((sm (ahR.1 h1)).2.2 n hn).lm
structure ahI (l:apW):Prop where
 ll:∀n∈l,n.bO.length<=1
 dl:∀n∈l,n.dq.length<=100
def Yb {l:apW} (h:qN l ms):∀m∈ms,0<=m/\m<l.length:=λ m hm=>by
 obtain⟨i,hi,rfl⟩:=ahZ.1 hm;have:=(h i om).1;rwa [ad7,aeA hi]at this
def ahJ {l:apW} (h:∀n∈l,∀x∈n.bO,He b.bj.length x) (hr:∀m∈ms,0<=m/\m<l.length):∀x∈ZR l ms,He b.bj.length x:=λ x hx=>by
 unfold ZR at hx;obtain⟨m,hm,hxm⟩:=anO.1 hx;have:=hr m hm;have hn:m.toNat<l.length:=by omega
 exact h _ (by rw[ad7,aeA hn];exact ai1 hn) x hxm
def ahK {l:apW} (h:ahI l):∀ {ms:apU},(∀m∈ms,0<=m/\m<l.length)->(ZR l ms).length<=ms.length:=by
 intro ms;induction ms with
 | nil=>intro _;exact afM _
 | cons m ms ih=>
  intro hr;have h1:=ih λ x hx=>hr x (ahV _ hx);have h2:=hr m ajN;have hn:m.toNat<l.length:=by omega
  have h3:=h.ll (l.getD m.toNat bb) (by rw[ad7,aeA hn];exact ai1 hn);show((l.getD m.toNat bb).bO++ZR l ms).length<=_;rw[aeU,ahP];omega
def Yc {w:ap4} (h1:cB l=0) (h2:w.length<=32) (h3:∀x∈w,He l.length x):iL l w=true:=by
 unfold iL;rw[h1,afl om,show w.any (A4 l.length)=false from ?_]
 ·rfl
 rw[aja];intro x hx;have:=h3 x hx;rw[aj4];unfold A4 cn;have a:=this.k0;have b:=this.kl;have c:=this.l0;have d:=this.lh;have e:=this.hi;simp only[afr,ahS,aeP,ahQ];omega
def pdE (U V:apZ) (i:Nat):Nat:=if hG U i=hG V i then 0 else 1
structure anv (f t:ak) (ws:apX):Prop where
 le:ws.length<=400
 eq:f=t->ws=[]
 ch:∃h,Ch f ws h
 c11:ahp 11 ws=U5 (dmE f.Released t.Released) f.Released.length
 c12:ahp 12 ws=U5 (dmE f.bg t.bg) f.bg.length
 c10:ahp 10 ws=U5 (pdE f.Uses t.Uses) 24
def Vo {V:apZ} {m':cj->Option Int} (h:GmP U m) (h':GmP V m') (hf:∀u∈U,0<=u.cX.bD/\u.cX.bD<=2000000) (hf':∀u∈V,0<=u.cX.bD/\u.cX.bD<=2000000) (i:Nat):ZC m m' i=(hG U i&&!hG V i):=by
 unfold ZC;rw[(acV h hf i).1,(acV h' hf' i).2]
def acW:∀ {l:apY},(∀c∈l,c.aE.length<=3)->dP l<=3 ^ l.length:=by
 intro l;induction l with
 | nil=>intro _;exact afM _
 | cons c l ih=>
  intro h;have h1:=ih λ x hx=>h x (ahV _ hx);have h2:=h c ajN;rw[dP,ahP,Nat.pow_succ,akN (3 ^ l.length)];exact apA h2 h1
def RtR (Q:apU->Prop) (n:Nat) (f t:apU) (r:apX×Int):Prop:=
 (r.2=0/\r.1.length<=n/\∀(P:ak->Prop) (g:ak),g.Setting=f->(∀s,Q s->P { g with Setting:=s })->G3 P g r.1 { g with Setting:=t })\/r.2=9
def PG {f t:apU} {Q:apU->Prop} (h:CmK l way) (hz:dP l<=1000000) (hlm:iL l way=true) (hf:VS l f) (ht:VS l t) (c1:kb l f way=true) (c2:kb l t way=true) (hQ:∀s,VS l s->kb l s way=true->Q s):W (yT l f t way) (RtR Q (dP l) f t):=by
 have hll:=h.ck.ll;unfold yT;refine ar (Nk h hlm hf ht c1 c2) λ v1 hv1=>?_;subst v1;refine br (λ c=>by simp at c) (λ _=>?_);refine ar (jo ht hll (by dsimp only;omega)) λ v2 hv2=>?_;subst v2;refine ar (acS h hz ht) λ v3 ⟨hk,D,hmd,hlt,hD,hN⟩=>?_;refine ar (jo hf hll (by dsimp only;omega)) λ v4 hv4=>?_;subst v4;refine br (λ c=>ai (.inr rfl)) (λ c=>?_);obtain⟨m,hm⟩:∃m,D (dJ l f)=some m:=by
  cases hd:D (dJ l f)with
  | some m=>exact⟨m,rfl⟩
  | none=>rw[hmd,hd]at c;simp at c
 have hm2:dJ l f<dP l/\m<dP l:=hlt _ _ hm;refine bu (λ g1:Int×(cj->Option Int)×apX=>Kn l way g1.2.1/\∃s d,VS l s/\g1.1=((dJ l s:Nat):Int)/\D (dJ l s)=some d/\g1.2.2.length+d=m/\∀(P:ak->Prop) (g:ak),g.Setting=f->(∀s,Q s->P { g with Setting:=s })->G3 P g g1.2.2 { g with Setting:=s }) (λ g1=>(fo v3.2 (.i g1.1)).toNat) ?_ ⟨hk,f,m,hf,rfl,hm,by simp,λ P g hg _=>by subst hg;exact .nil g⟩;intro ab g1 ⟨q1,s,d,q2,q3,q4,q5,q7⟩ ih1;have hg:=PE hmd q4;unfold C3;rw[q3,hg];refine wi ?_ ?_<;>intro c5
 ·obtain⟨d',rfl⟩:∃d',d=d'+1:=⟨d - 1,om⟩;refine ar (acT h hz q2 q1 hmd hD hN ⟨t,ht,rfl,c2⟩ q4 om om) λ v7 ⟨w1,x,u,v,w2,⟨w3,w4⟩,⟨w5,w6,w7,w9⟩,w10⟩=>?_;have hsl:=q2.1;obtain⟨s',x1,x2,x3⟩:=(((hD _ _).1 w4).1.rev (C:=okN l way) ⟨t,ht,rfl,c2⟩ λ _ _=>SS).1;have e:=ua x1 w2 x2;subst e;refine ih1 _ ⟨w1,s',d',w2,w3,w4,by dsimp only;rw[w10,aeU,afT];omega,λ P g hg hP=>?_⟩ ?_
  ·dsimp only;rw[w10];refine(q7 P g hg hP).app (.one ?_ (hP _ (hQ _ w2 x3)));rw[w5];exact .k1 (g:={ g with Setting:=s }) (w:=⟨1,(u:Int),v⟩) rfl (by dsimp only;omega) (by have w6:u<l.length:=w6;dsimp only;omega) w7
  dsimp only;rw[w3,q3,PE hmd w4,hg];omega
 have e0:d=0:=by omega
 subst e0;have e:dJ l s=dJ l t:=by
  have:=((hD _ _).1 q4).1;generalize dJ l s=a at this;cases this;rfl
 have e:=ua q2 ht e;subst e;exact ai (.inl ⟨rfl,by dsimp only;omega,q7⟩)
def aeY {l:apW} (hc:cB b.bj=0) (hs:VS b.bj s) (h:kb b.bj s (ZR l ms)=true) (hm:∀m∈ms,0<=m/\m<l.length) (hn:∀n∈l,∀x∈n.bO,He b.bj.length x):CS b l ms s:=by
 unfold kb at h;rw[aeP,ahA,List.any_map,aja]at h;have ZM:cK b.bj s []=true:=by
  unfold cK;rw[GY hs,h.1,show iL b.bj []=true by unfold iL;rw[hc];rfl];rfl
 refine⟨hs,ZM,λ i hi j hj=>?_⟩;have Zy:=getD_in (l:=ms) (i:=i) 0 om;have hr:=hm _ Zy;have hnm:=getD_in (l:=l) (i:=(ms.getD i 0).toNat) bb om;have hxm:=getD_in (l:=(l.getD (ms.getD i 0).toNat bb).bO) (i:=j) bW om;have hok:=hn _ hnm _ hxm;have q:=h.2 _ (anO.2 ⟨_,Zy,hxm⟩);generalize (l.getD (ms.getD i 0).toNat bb).bO.getD j bW=x at hok q;have x0:=hok.k0;have x1:=hok.kl;have x2:=hok.lh;have x3:=hok.l0;have x4:=hok.hi;refine(IV ZM hok).1 ?_;unfold cK at ZM ⊢;rw[aeP,aeP,aeP]at ZM;rw[ZM.1.2,ZM.2.1,Yc hc (by simp) λ y hy=>by rw[ahd.1 hy];exact⟨x0,x1,air 0,by dsimp only;omega,x4⟩];have q:¬ FI (dx b.bj s) ⟨x.cF,0,x.cY⟩=true:=q;rw[akp,List.any_nil,aoC,Bool.eq_false_iff.2 q];rfl
def SdP (n:Nat) (f x:aK) (j:Nat):Prop:=f.On.getD j false=true/\x.aT.getD j 0=f.aT.getD j 0/\∀p,p<j->f.On.getD p false=true->x.On.getD p false=true/\f.aT.getD p 0<=x.aT.getD p 0
def acX {l:ap1} {x:aK} (hd:Sp.dY l d=true) (hf:Sp.cK l f d=true) (ht:Sp.cK l t d=true) (hx:Sp.UI l x)
  (h1:∀j,j<l.length->x.On.getD j false=true->SdP l.length f x j\/SdP l.length t x j) (h2:∀j,j<l.length->f.On.getD j false=true->t.On.getD j false=true->x.On.getD j false=true):Sp.cK l x d=true:=by
 have hv:=Sp.pX hd;obtain⟨fr,fm⟩:=(Sp.fj hd).1 hf;obtain⟨tr,tm⟩:=(Sp.fj hd).1 ht;have side:∀ {y:aK} {j:Nat},Sp.UI l y->Sp.Mt l y d->j<l.length->SdP l.length y x j->(0<=(l.getD j ao).aJ->x.On.getD (l.getD j ao).aJ.toNat false=true/\Sp.gR l x j+(l.getD j ao).dR<=Sp.gR l x (l.getD j ao).aJ.toNat)/\(Sp.gY l d).getD j 0<=(l.getD j ao).dW/\Sp.gR l x j=Sp.gR l y j:=λ {y j} yr ym hj hs=>by
  obtain⟨s1,s2,s3⟩:=hs;have e:Sp.gR l x j=Sp.gR l y j:=by unfold Sp.gR;rw[s2]
  refine⟨λ hp=>?_,ym.dW j hj s1,e⟩;obtain⟨q1,q2⟩:=ym.aJ j hj s1 hp;have hpj:=(hv.bE j hj).2.1;obtain⟨w1,w2⟩:=s3 (l.getD j ao).aJ.toNat om q1;refine⟨w1,?_⟩;rw[e];refine ajJ q2 ?_;have hxp:=hx.bC (l.getD j ao).aJ.toNat om;exact Sp.WL (hv.bC (l.getD j ao).aJ.toNat om) (i:=(y.aT.getD (l.getD j ao).aJ.toNat 0).toNat) (j:=(x.aT.getD (l.getD j ao).aJ.toNat 0).toNat) om hxp.2.1
 refine(Sp.fj hd).2 ⟨hx,⟨λ i hi=>h2 i (Sp.kG hi) (fm.used i hi) (tm.used i hi),λ i hi ho=>?_,λ i hi ho=>?_,λ y hy=>?_⟩⟩
 ·rcases h1 i hi ho with q | q
  ·exact(side fr fm hi q).1
  exact(side tr tm hi q).1
 ·rcases h1 i hi ho with q | q
  ·exact(side fr fm hi q).2.1
  exact(side tr tm hi q).2.1
 have hu:=Sp.Ln hv hy;have hi:=Sp.kG hu;rcases h1 _ hi (h2 _ hi (fm.used _ hu) (tm.used _ hu))with q | q
 ·rw[(side fr fm hi q).2.2];exact fm.XS y hy
 rw[(side tr tm hi q).2.2];exact tm.XS y hy
def Nl (f t:aK) (j:Nat):Bool:=f.On.getD j false||t.On.getD j false
def NU (f t:aK) (j:Nat):Int:=bif f.On.getD j false then bif t.On.getD j false then if t.aT.getD j 0 > f.aT.getD j 0 then t.aT.getD j 0 else f.aT.getD j 0 else f.aT.getD j 0 else t.aT.getD j 0
structure UpI (f t:aK) (n a c:Nat) (on:apV) (lv:apU):Prop where
 ol:on.length=n
 ll:lv.length=n
 on:∀j,j<n->on.getD j false=bif decide (j<a)then Nl f t j else f.On.getD j false
 lv:∀j,j<n->lv.getD j 0=bif decide (j<c)&&Nl f t j then NU f t j else f.aT.getD j 0
structure DnI (f t:aK) (n a c:Nat) (on:apV) (lv:apU):Prop where
 ol:on.length=n
 ll:lv.length=n
 on:∀j,j<n->on.getD j false=bif decide (j<a)then Nl f t j else t.On.getD j false
 lv:∀j,j<n->lv.getD j 0=bif decide (j<c)then(bif Nl f t j then NU f t j else f.aT.getD j 0)else t.aT.getD j 0
def Yd (h:Nl f t j=true):(f.On.getD j false=true/\NU f t j=f.aT.getD j 0)\/(t.On.getD j false=true/\NU f t j=t.aT.getD j 0):=by
 unfold Nl at h;unfold NU;cases e1:f.On.getD j false<;>cases e2:t.On.getD j false<;>rw[e1,e2]at h
 ·cases h
 ·exact .inr ⟨rfl,rfl⟩
 ·exact .inl ⟨rfl,rfl⟩
 simp only[ahX];split
 ·exact .inr ⟨ad6,rfl⟩
 exact .inl ⟨ad6,rfl⟩
def acY (h:f.On.getD j false=true):Nl f t j=true/\f.aT.getD j 0<=NU f t j:=by
 unfold Nl NU;rw[h];refine⟨rfl,?_⟩;cases t.On.getD j false
 ·exact air _
 simp only[ahX];split<;>omega
def acZ (h:t.On.getD j false=true):Nl f t j=true/\t.aT.getD j 0<=NU f t j:=by
 unfold Nl NU;rw[h,aox];refine⟨rfl,?_⟩;cases f.On.getD j false
 ·exact air _
 simp only[ahX];split<;>omega
def ac0 {l:ap1} (hf:Sp.UI l f) (ht:Sp.UI l t) (j:Nat) (hj:j<l.length):0<=NU f t j/\NU f t j<(l.getD j ao).bC.length:=by
 have a:=hf.bC j hj;have c:=ht.bC j hj;unfold NU;cases f.On.getD j false<;>cases t.On.getD j false<;>simp only[ahX,ags]
 ·omega
 ·omega
 ·omega
 split<;>omega
def ac1 {l:ap1} {x:aK} (h1:x.On.length=l.length) (h2:x.aT.length=l.length) (h:∀j,j<l.length->0<=x.aT.getD j 0/\x.aT.getD j 0<(l.getD j ao).bC.length):Sp.UI l x:=⟨h1,h2,λ j hj=>by have:=h j hj;omega⟩
def afE {l:ap1} {c:Nat} (hd:Sp.dY l d=true) (hf:Sp.cK l f d=true) (ht:Sp.cK l t d=true) (ac:a<=c) (ca:c<=a+1) (h:UpI f t l.length a c on lv):Sp.cK l ⟨on,lv⟩ d=true:=by
 obtain⟨fr,fm⟩:=(Sp.fj hd).1 hf;obtain⟨tr,tm⟩:=(Sp.fj hd).1 ht;obtain⟨k1,k2,k3,k4⟩:=h;refine acX hd hf ht (ac1 k1 k2 λ j hj=>?_) (λ j hj ho=>?_) (λ j hj q1 q2=>?_)
 ·dsimp only;rw[k4 j hj];cases decide (j<c)&&Nl f t j
  ·have:=fr.bC j hj;exact⟨this.1,this.2.2⟩
  exact ac0 fr tr j hj
 ·have A:f.On.getD j false=true->lv.getD j 0=f.aT.getD j 0->SdP l.length f ⟨on,lv⟩ j:=λ q1 q2=>⟨q1,q2,λ p hp q3=>by
   have:=acY (t:=t) q3;dsimp only;rw[k3 p om,k4 p om,q3,this.1];refine⟨by cases decide (p<a)<;>rfl,?_⟩;cases decide (p<c)
   ·exact air _
   exact this.2⟩
  dsimp only at ho;rw[k3 j hj]at ho;have e:=k4 j hj;by_cases hc:j<c
  ·have hO:Nl f t j=true:=by
    cases hja:decide (j<a)with
    | true=>rw[hja]at ho;exact ho
    | false=>rw[hja]at ho;exact(acY ho).1
   rw[afl hc,hO]at e;rcases Yd hO with⟨q1,q2⟩ | ⟨q1,q2⟩
   ·exact .inl (A q1 (e.trans q2))
   refine .inr ⟨q1,e.trans q2,λ p hp q3=>?_⟩;have:=acZ (f:=f) q3;dsimp only;rw[k3 p om,k4 p om,afl (show p<a by omega),afl (show p<c by omega),this.1];exact⟨rfl,this.2⟩
  rw[afe hc]at e;rw[afe (show ¬j<a by omega)]at ho;exact .inl (A ho e)
 dsimp only;rw[k3 j hj,(acY (t:=t) q1).1,q1];cases decide (j<a)<;>rfl
def ajF {l:ap1} {c:Nat} (hd:Sp.dY l d=true) (hf:Sp.cK l f d=true) (ht:Sp.cK l t d=true) (ac:a<=c) (ca:c<=a+1) (h:DnI f t l.length a c on lv):Sp.cK l ⟨on,lv⟩ d=true:=by
 obtain⟨fr,fm⟩:=(Sp.fj hd).1 hf;obtain⟨tr,tm⟩:=(Sp.fj hd).1 ht;obtain⟨k1,k2,k3,k4⟩:=h;refine acX hd hf ht (ac1 k1 k2 λ j hj=>?_) (λ j hj ho=>?_) (λ j hj q1 q2=>?_)
 ·dsimp only;rw[k4 j hj];have u:=fr.bC j hj;have v:=tr.bC j hj;cases decide (j<c)<;>cases Nl f t j
  ·exact⟨v.1,v.2.2⟩
  ·exact⟨v.1,v.2.2⟩
  ·exact⟨u.1,u.2.2⟩
  exact ac0 fr tr j hj
 ·dsimp only at ho;rw[k3 j hj]at ho;have e:=k4 j hj;by_cases hc:j<c
  ·have hO:Nl f t j=true:=by
    cases hja:decide (j<a)with
    | true=>rw[hja]at ho;exact ho
    | false=>rw[hja]at ho;exact(acZ ho).1
   rw[afl hc,hO]at e;rcases Yd hO with⟨q1,q2⟩ | ⟨q1,q2⟩
   ·refine .inl ⟨q1,e.trans q2,λ p hp q3=>?_⟩;have:=acY (t:=t) q3;dsimp only;rw[k3 p om,k4 p om,afl (show p<a by omega),afl (show p<c by omega),this.1];exact⟨rfl,this.2⟩
   refine .inr ⟨q1,e.trans q2,λ p hp q3=>?_⟩;have:=acZ (f:=f) q3;dsimp only;rw[k3 p om,k4 p om,afl (show p<a by omega),afl (show p<c by omega),this.1];exact⟨rfl,this.2⟩
  rw[afe hc]at e;rw[afe (show ¬j<a by omega)]at ho;refine .inr ⟨ho,e,λ p hp q3=>?_⟩;have:=acZ (f:=f) q3;dsimp only;rw[k3 p om,k4 p om,q3,this.1];refine⟨by cases decide (p<a)<;>rfl,?_⟩;cases decide (p<c)
  ·exact air _
  exact this.2
 dsimp only;rw[k3 j hj,(acY (t:=t) q1).1,q2];cases decide (j<a)<;>rfl
end Go.Proofs.YtifekdmmpbcdgaaGreatDoor

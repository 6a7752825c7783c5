/- A part of the proof. -/
import Derived.Test.YtifekdmmpbcdgaaGreatDoorA6
set_option linter.unusedVariables false
set_option linter.unusedSimpArgs false
set_option maxHeartbeats 4000000
namespace Go.Proofs.YtifekdmmpbcdgaaGreatDoor
open Go.Ab
set_option maxRecDepth 100000
def RgK (l:azD) (s:azq) (k:Nat):Prop:=((l.getD k eZ).gF=true->s.getD k false=true)∧(s.getD k false=true->0<=(l.getD k eZ).aT->s.getD (l.getD k eZ).aT.toNat false=true)
variable {i:Nat} {j:Nat}
theorem V3 {s:azq} {b:Bool} (hi:i<s.length) (h:s.getD j false=true):(s.set i (s.getD i false||b)).getD j false=true:=by
 by_cases e:j=i
 ·subst e; rw [VZ hi,h]; rfl
 rw [BL e]; exact h
variable {g:Int}
theorem aug {l:azD} {s:azq} (h0:0<=g) (hs:s.length=l.length) (h:∀k:Nat,g<(k:Int)->(k:Int)<l.length->RgK l s k)
  (hn:¬ ((s.set g.toNat (s.getD g.toNat false||(l.getD g.toNat eZ).gF)).getD g.toNat false=true∧0<=(l.getD g.toNat eZ).aT)) {k:Nat} (hk:g<=(k:Int)) (hl:(k:Int)<l.length):RgK l (s.set g.toNat (s.getD g.toNat false||(l.getD g.toNat eZ).gF)) k:=by
 by_cases e:k=g.toNat
 ·subst e;refine ⟨λ h1=>?_,λ h1 h2=>absurd ⟨h1,h2⟩ hn⟩;rw [VZ om,h1,ayS]
 obtain ⟨h1,h2⟩:=h k om hl;refine ⟨λ q=>by rw [BL e]; exact h1 q,λ q1 q2=>?_⟩;rw [BL e] at q1;exact V3 om (h2 q1 q2)
theorem auh {l:azD} {s:azq} (h0:0<=g) (hs:s.length=l.length) (hp:0<=(l.getD g.toNat eZ).aT∧(l.getD g.toNat eZ).aT<g) (h:∀k:Nat,g<(k:Int)->(k:Int)<l.length->RgK l s k)
  {k:Nat} (hk:g<=(k:Int)) (hl:(k:Int)<l.length):RgK l ((s.set g.toNat (s.getD g.toNat false||(l.getD g.toNat eZ).gF)).set (l.getD g.toNat eZ).aT.toNat true) k:=by
 have hne:k≠(l.getD g.toNat eZ).aT.toNat:=by omega
 have hlen:(l.getD g.toNat eZ).aT.toNat<(s.set g.toNat (s.getD g.toNat false||(l.getD g.toNat eZ).gF)).length:=by rw [ahl]; omega
 by_cases e:k=g.toNat
 ·subst e;refine ⟨λ h1=>?_,λ h1 h2=>VZ hlen⟩;rw [BL hne,VZ om,h1,ayS]
 obtain ⟨h1,h2⟩:=h k om hl;refine ⟨λ q=>by rw [BL hne,BL e]; exact h1 q,λ q1 q2=>?_⟩;rw [BL hne,BL e] at q1;exact LD (.inl (V3 om (h2 q1 q2))) hlen
variable {p:bR}
theorem V4 (h:agU p) {x:Int} (h0:0<=x) (h1:x<p.aH.length):abt (p.aH.getD x.toNat aN).cu:=asl λ k h2 h3=>(h.gr x.toNat om).so k h2 h3
theorem Qx {g_:dh} {iF:ByteArray} (h1:g_.au.length<=2000000):W (J4 g_ iF) (λ r => -1<=r∧r<g_.au.length∧(0<=r->(g_.au.getD r.toNat ByteArray.empty).toList=iF.toList)∧(r<0->∀k:Nat,(k:Int)<g_.au.length->(g_.au.getD k ByteArray.empty).toList≠iF.toList)):=by
 unfold J4;refine bS (λ (g1:Int)=>0<=g1∧(∀k:Nat,(k:Int)<g1->(g_.au.getD k ByteArray.empty).toList≠iF.toList)) (λ (g1:Int)=>(g_.au.length - g1).toNat) ?_ ?_
 ·intro ah g1 eU dB;obtain ⟨dZ,bW⟩:=eU;unfold YQ;refine wi ?_ ?_<;>intro c1
  ·refine wn<|bV ?_ ?_<;>intro c2
   ·have kM:=c2;have c2:=eX c2;refine aC ?_;(refine ⟨om,om,λ _=>by simpa using kM,λ h=>by omega⟩)
   have kM:=c2;have c2:=eX c2;refine wn<|dB _ ?_ ?_
   ·(refine ⟨ob,fq bW dZ (by simpa using kM)⟩)
   exact ob
  refine aC ?_;(refine ⟨om,om,λ h=>by omega,λ _ k hk=>bW k om⟩)
 (refine ⟨ob,λ j hj=>by (try dsimp only at hj); omega⟩)
theorem abu {a_:azp} {b_:azp} (h1:a_.length<=2000000) (h2:b_.length<=2000000) (h3:abt a_) (h4:abt b_):W (H6 a_ b_) (λ r=>r=false->∀i j:Nat,(i:Int)<a_.length->(j:Int)<b_.length->a_.getD i 0≠b_.getD j 0):=by
 unfold H6;refine bS (λ (g1:Int×Int)=>0<=g1.1∧0<=g1.2∧(∀i j:Nat,(i:Int)<a_.length->(j:Int)<b_.length->((i:Int)<g1.1∨(j:Int)<g1.2)->a_.getD i 0≠b_.getD j 0)) (λ (g1:Int×Int)=>(a_.length - g1.1).toNat+(b_.length - g1.2).toNat) ?_ ?_
 ·intro ah g1 eU dB;obtain ⟨dZ,bW,bN⟩:=eU;unfold P7;refine bV ?_ ?_<;>intro c1
  ·have gD:=c1;have c1:=eX c1;refine wm<|wi ?_ ?_<;>intro c2
   ·exact aC<|ob
   refine wm<|wi ?_ ?_<;>intro c3
   ·refine wn<|dB _ ?_ ?_
    ·(refine ⟨ob,ob,λ i j hi hj hc=>?_⟩; by_cases q:(i:Int)<g1.1∨(j:Int)<g1.2; (exact bN i j hi hj q); (have e:i=g1.1.toNat:=by (try dsimp only at hc); omega); subst e; by_cases e2:j=g1.2.toNat; (subst e2; omega); (have:=h4 g1.2.toNat j om hj); omega)
    exact ob
   refine wn<|dB _ ?_ ?_
   ·(refine ⟨ob,ob,λ i j hi hj hc=>?_⟩; by_cases q:(i:Int)<g1.1∨(j:Int)<g1.2; (exact bN i j hi hj q); (have e:j=g1.2.toNat:=by (try dsimp only at hc); omega); subst e; by_cases e2:i=g1.1.toNat; (subst e2; omega); (have:=h3 g1.1.toNat i om hi); omega)
   exact ob
  have gD:=c1;have c1:=eX c1;refine aC ?_;(intro _ i j hi hj; refine bN i j hi hj ?_; simp only [als,decide_eq_false_iff_not] at gD; omega)
 (refine ⟨ob,ob,λ i j h1 h2 h3=>by (try dsimp only at h3); omega⟩)
variable {p_:bR}
theorem TL {fC:azp} {g_:Int} (h1:∀g∈p_.aH,g.cu.length<=2000000∧g.au.length<=2000000) (h2:fC.length<=2000000) (h3:∀x∈fC,0<=x∧x<p_.aH.length) (h4:0<=g_) (h5:g_<p_.aH.length) (h6:agU p_):W (FM p_ fC g_) (λ r=>r=true->∀j:Nat,(j:Int)<fC.length->ak4 p_ (fC.getD j 0) g_):=by
 have hgl:=h1 _ (getD_in (i:=g_.toNat) aN om);unfold FM;refine bS (λ (g1:Int)=>0<=g1∧(∀j:Nat,(j:Int)<g1->ak4 p_ (fC.getD j 0) g_)) (λ (g1:Int)=>(fC.length - g1).toNat) ?_ ?_
 ·intro ah g1 eU dB;obtain ⟨dZ,bW⟩:=eU;unfold Tv;refine wi ?_ ?_<;>intro c1
  ·have hx:=h3 _ (getD_in (i:=g1.toNat) 0 om);have hgx:=h1 _ (getD_in (i:=(fC.getD g1.toNat 0).toNat) aN om);refine wm<|wm ?_;refine aG (vH λ hc=>abu om om (V4 h6 hx.1 hx.2) (V4 h6 h4 h5)) λ v3 hv3=>?_;refine bV ?_ ?_<;>intro c2
   ·have kM:=c2;have c2:=eX c2;exact aC<|ob
   have kM:=c2;have c2:=eX c2;refine wn<|dB _ ?_ ?_
   ·(refine ⟨ob,fq bW dZ ?_⟩; rw [decide_eq_true hx.1,aq0] at kM; exact hv3 (decide_eq_true hx.1) kM)
   exact ob
  refine aC ?_;(intro _ j hj; exact bW j om)
 (refine ⟨ob,λ j hj=>by (try dsimp only at hj); omega⟩)
theorem Zk {iF:ByteArray} (h1:∀g∈p_.aH,g.cu.length<=2000000∧g.au.length<=2000000) (h2:p_.aH.length<=2000000):W (Et p_ iF) (λ r=>r.length<=p_.aH.length∧∀x∈r,(0<=x∧x<p_.aH.length)∧apU p_ x iF):=by
 unfold Et;refine bS (λ (g1:Int×azp)=>0<=g1.1∧g1.1<=p_.aH.length∧(g1.2.length:Int)<=g1.1∧(∀x∈g1.2,(0<=x∧x<p_.aH.length)∧apU p_ x iF)) (λ (g1:Int×azp)=>(p_.aH.length - g1.1).toNat) ?_ ?_
 ·intro ah g1 eU dB;obtain ⟨dZ,bW,bN,kW⟩:=eU;unfold Ni;refine wi ?_ ?_<;>intro c1
  ·have hgl:=h1 _ (getD_in (i:=g1.1.toNat) aN om);refine wn<|aG (Qx ob) λ v3 hv3=>?_;obtain ⟨aa8,ade,adf,am0⟩:=hv3;refine wi ?_ ?_<;>intro c2
   ·refine wm<|dB _ ?_ ?_
    ·(refine ⟨ob,ob,ob,λ x hx=>?_⟩; rcases alf.1 hx with hx | hx; (exact kW x hx); rw [ahf] at hx; subst hx; exact ⟨om,v3.toNat,om,adf om⟩)
    exact ob
   refine wn<|dB _ ?_ ?_
   ·exact ob
   exact ob
  refine aC ?_;(refine ⟨om,kW⟩)
 exact ob
theorem anP {l:azB} {gs:azp} {x:Int} (h:acE p l gs) (hx:0<=x∧x<p.aH.length) (ho:apU p x (l.getD gs.length ByteArray.empty)) (hd:∀j:Nat,(j:Int)<gs.length->ak4 p (gs.getD j 0) x):acE p l (gs++[x]):=by
 have e1:∀j:Nat,j<gs.length->(gs++[x]).getD j 0=gs.getD j 0:=λ j hj=>ko 0 hj;have e2:(gs++[x]).getD gs.length 0=x:=kX 0 rfl;refine ⟨λ y hy=>?_,λ k hk=>?_,λ k j hj hk=>?_⟩
 ·rcases alf.1 hy with hy | hy
  ·exact h.ir y hy
  rw [ahf] at hy; rw [hy]; exact hx
 ·rw [afa,alk] at hk;by_cases q:k<gs.length
  ·rw [e1 k q]; exact h.off k om
  have:k=gs.length:=by omega
  subst this; rw [e2]; exact ho
 rw [afa,alk] at hk;by_cases q:k<gs.length
 ·rw [e1 k q,e1 j om]; exact h.dj k j hj om
 have:k=gs.length:=by omega
 subst this; rw [e2,e1 j om]; exact hd j om
theorem apV (bs:ByteArray):∀(n i:Nat) (r:List UInt8),bs.size - i=n->ByteArray.toList.loop bs i r=r.reverse++bs.data.toList.drop i:=by
 intro n;induction n with
 | zero=>
  intro i r h;unfold ByteArray.toList.loop;rw [if_neg om,alp (by show bs.data.toList.length<=i; rw [avM]; show bs.size<=i; omega),amL]
 | succ n ih=>
  intro i r h;unfold ByteArray.toList.loop;rw [if_pos om,ih (i+1) _ om,axd,ays];have hi:i<bs.data.toList.length:=by rw [avM]; show i<bs.size; omega
  rw [auK hi];congr 1;show bs.get! i::_=_;congr 1;unfold ByteArray.get!;rw [auL];exact getElem!_pos bs.data i _
theorem ajE (b:ByteArray):b.toList=b.data.toList:=by
 unfold ByteArray.toList;rw [apV b _ 0 [] rfl]; rfl
theorem XH {a b:ByteArray} (h:a.toList=b.toList):a=b:=by
 rw [ajE,ajE] at h;cases a; cases b;congr;exact auP.1 h
theorem aui {s:ByteArray} (h:0<s.size):(s.toList==({ data:=#[] }:ByteArray).toList)=false:=by
 rw [beq_eq_false_iff_ne];intro e;have:=XH e;rw [this] at h;exact absurd h (by decide)
variable {α:Type}
theorem Oz {X:Nat->α} {x:α}:upd X j x j=x:=akD X j x
theorem upd_ne {X:Nat->α} {x:α} (h:i≠j):upd X j x i=X i:=by
 unfold upd;cases e:Nat.beq i j with
 | true=>exact absurd (adU e) h
 | false=>rfl
def UsV (p:bR) (l:azI):Prop:=(∀u∈l,Qq p u)∧∀k j:Nat,j<k->(k:Int)<l.length->ak4 p (l.getD j fM).bT (l.getD k fM).bT
def LG (p:Prop) (c:Int) (A:Int->Prop) (r:Int):Prop:=(p∧r=c)∨(¬p∧A r)
variable {c:Int} {A:Int->Prop}
theorem eT {p:Prop} (h:p):LG p c A c:=.inl ⟨h,rfl⟩
variable {r:Int}
theorem aQ {p:Prop} (h:¬p) (a:A r):LG p c A r:=.inr ⟨h,a⟩
def Thn (A B:Int->Prop) (r:Int):Prop:=(A r∧r≠0)∨(A 0∧B r)
def Fst (n:Nat) (E:Nat->Int->Prop) (r:Int):Prop:=(∃i:Nat,i<n∧(∀k:Nat,k<i->E k 0)∧E i r∧r≠0)∨((∀k:Nat,k<n->E k 0)∧r=0)
def Gs (A:Int->Prop):Prop:=∀a b,A a->A b->a=b
theorem Gs.zero:Gs (λ r=>r=0):=λ _ _ h k=>h.trans k.symm
theorem Gs.KJ {p:Prop} (h:Gs A):Gs (LG p c A):=by
 rintro a b (⟨h1,h2⟩ | ⟨h1,h2⟩) (⟨h3,h4⟩ | ⟨h3,h4⟩)
 ·rw [h2,h4]
 ·exact absurd h1 h3
 ·exact absurd h3 h1
 exact h _ _ h2 h4
variable {B:Int->Prop}
theorem Gs.thn (h:Gs A) (k:Gs B):Gs (Thn A B):=by
 rintro a b (⟨h1,h2⟩ | ⟨h1,h2⟩) (⟨h3,h4⟩ | ⟨h3,h4⟩)
 ·exact h _ _ h1 h3
 ·exact absurd (h _ _ h1 h3) h2
 ·exact absurd (h _ _ h3 h1) h4
 exact k _ _ h2 h4
variable {n:Nat} {E:Nat->Int->Prop}
theorem Gs.fst (h:∀i,Gs (E i)):Gs (Fst n E):=by
 rintro a b (⟨i,h1,h2,h3,h4⟩ | ⟨h1,h2⟩) (⟨j,k1,k2,k3,k4⟩ | ⟨k1,k2⟩)
 ·rcases auI i j with q | q | q
  ·exact absurd (h _ _ _ h3 (k2 i q)) h4
  ·subst q; exact h _ _ _ h3 k3
  exact absurd (h _ _ _ k3 (h2 j q)) k4
 ·exact absurd (h _ _ _ h3 (k1 i h1)) h4
 ·exact absurd (h _ _ _ k3 (h1 j k1)) k4
 rw [h2,k2]
theorem I7 (h:A r) (hr:r≠0):Thn A B r:=.inl ⟨h,hr⟩
theorem lq (h:A 0) (k:B r):Thn A B r:=.inr ⟨h,k⟩
theorem I8 (hi:i<n) (h:∀k:Nat,(k:Int)<i->E k 0) (he:E i r) (hr:r≠0):Fst n E r:=.inl ⟨i,hi,λ k hk=>h k om,he,hr⟩
theorem LH (h:∀k:Nat,k<n->E k 0):Fst n E 0:=.inr ⟨h,rfl⟩
def anQ (n:Int) (g:dh):Int->Prop:=
 LG ((g.cu.length:Int)=0∨(g.au.length:Int)=0) 9<|
 LG (8<(g.au.length:Int)) 3<|
 LG (∃j:Nat,(j:Int)<g.cu.length∧¬(0<=g.cu.getD j 0∧g.cu.getD j 0<n)) 2<|
 LG (∃j:Nat,1<=j∧(j:Int)<g.cu.length∧g.cu.getD j 0<=g.cu.getD (j - 1) 0) 12<|
 LG (∃j:Nat,(j:Int)<g.au.length∧¬Qw (g.au.getD j ByteArray.empty)) 1<|
 LG (∃k j:Nat,j<k∧(k:Int)<g.au.length∧(g.au.getD j ByteArray.empty).toList=(g.au.getD k ByteArray.empty).toList) 5<|
 λ r=>r=0
theorem anQ.fun {n:Int} {g:dh}:Gs (anQ n g):=.KJ (.KJ (.KJ (.KJ (.KJ (.KJ .zero)))))
def aiF (p:bR) (i:Nat):Int->Prop:=
 LG (¬Qw (p.aH.getD i aN).yw) 1<|
 LG (∃k:Nat,k<i∧(p.aH.getD k aN).yw.toList=(p.aH.getD i aN).yw.toList) 5<|
 anQ p.cu (p.aH.getD i aN)
theorem aiF.fun:Gs (aiF p i):=.KJ (.KJ anQ.fun)
def FZ (p:bR):Int->Prop:=
 LG (p.cu<0∨64<p.cu) 2<|
 LG (24<(p.aH.length:Int)) 3<|
 Fst p.aH.length (aiF p)
theorem FZ.fun:Gs (FZ p):=.KJ (.KJ (.fst λ _=>aiF.fun))
theorem I9 {l:azp} (h:∀j:Nat,(j:Int)<g->1<=j->l.getD (j - 1) 0<l.getD j 0) (hg:(l.length:Int)<=g):¬ ∃j:Nat,1<=j∧(j:Int)<l.length∧l.getD j 0<=l.getD (j - 1) 0:=λ ⟨j,h1,h2,h3⟩=>by
 have:=h j om h1;omega
theorem gV {P:Nat->Prop} (h:∀j:Nat,(j:Int)<g->P j) (hg:(n:Int)<=g):¬ ∃j:Nat,(j:Int)<n∧¬P j:=λ ⟨j,h1,h2⟩=>h2 (h j om)
theorem LJ {s_:ByteArray}:W (EL s_) (λ r=>r=true↔Qw s_):=by
 unfold EL;refine aP (by (intro hc; have:=abo hc; omega)) ?_;refine aP (by (intro hc; simp only [aff] at hc; have:=abo (s:=s_) (by simp only [aff]; exact hc.1); omega)) ?_;refine bV ?_ ?_<;>intro c1
 ·have gD:=c1;have c1:=eX c1;refine aC ?_;(constructor; (intro e; cases e); (rintro ⟨⟨a1,a2⟩,⟨a3,a4⟩,a5⟩; simp only [al4,decide_eq_true_eq] at gD; rcases gD with ((c | c) | c) | c; (rw [aui a1] at c; cases c); all_goals omega))
 have gD:=c1;have c1:=eX c1;have hsz:0<s_.size∧s_.size<=16:=akS gD;refine bS (λ (g1:Int)=>1<=g1∧(∀j:Nat,(j:Int)<g1->1<=j->gI s_ j=45∨(48<=gI s_ j∧gI s_ j<=57)∨(97<=gI s_ j∧gI s_ j<=122))) (λ (g1:Int)=>(s_.size - g1).toNat) ?_ ?_
 ·intro ah g1 eU dB;obtain ⟨dZ,bW⟩:=eU;unfold Vn;refine wi ?_ ?_<;>intro c2
  ·refine wn<|wi ?_ ?_<;>intro c3
   ·refine aC ?_;(constructor; (intro e; cases e); (rintro ⟨_,_,a5⟩; have:=a5 g1.toNat om; omega))
   refine wn<|dB _ ?_ ?_
   ·(refine ⟨ob,λ j h1 h2=>?_⟩; by_cases q:(j:Int)<g1; (exact bW j q h2); (have e:j=g1.toNat:=by omega); subst e; omega)
   exact ob
  refine aC ?_;(constructor; (intro _; refine ⟨om,om,λ j hj=>?_⟩; by_cases q:j=0; (subst q; exact .inr (.inr ⟨om,om⟩)); exact bW j om om); (intro _; rfl))
 (refine ⟨ob,λ j h1 h2=>by omega⟩)
theorem BM {s_:ByteArray}:W (wV s_) (λ r=>r=true↔Qw s_):=by
 unfold wV;refine aP (by (intro hc; simp only [aff,beq_eq_false_iff_ne] at hc; omega)) ?_;refine aP (by (intro hc; simp only [aff,beq_eq_false_iff_ne] at hc; omega)) ?_;refine bV ?_ ?_<;>intro c1
 ·have gD:=c1;have c1:=eX c1;refine aC ?_;(constructor; (intro e; cases e); (rintro ⟨a1,a3,a5⟩; omega))
 have gD:=c1;have c1:=eX c1;have hsz:s_.size<=16:=(by simp only [aff] at gD; have:=of_decide_eq_false gD.1.1.2; omega);refine bS (λ (g1:Int)=>0<=g1∧(∀j:Nat,(j:Int)<g1->gI s_ j=45∨(48<=gI s_ j∧gI s_ j<=57)∨(97<=gI s_ j∧gI s_ j<=122))) (λ (g1:Int)=>(s_.size - g1).toNat) ?_ ?_
 ·intro ah g1 eU dB;obtain ⟨dZ,bW⟩:=eU;unfold Tg;refine wi ?_ ?_<;>intro c2
  ·refine wm<|wm ?_;refine wn<|wi ?_ ?_<;>intro c3
   ·refine aC ?_;(constructor; (intro e; cases e); (rintro ⟨_,_,a5⟩; have:=a5 g1.toNat om; omega))
   refine wn<|dB _ ?_ ?_
   ·(refine ⟨ob,fq bW dZ om⟩)
   exact ob
  refine aC ?_;(constructor; (intro _; exact ⟨om,om,λ j hj=>bW j om⟩); intro _; rfl)
 (refine ⟨ob,λ j hj=>by (try dsimp only at hj); omega⟩)
theorem LK {s_:azB} {v_:ByteArray} (h1:s_.length<=2000000):W (slices_Index_string s_ v_) (λ r=>(0<=r↔∃j:Nat,(j:Int)<s_.length∧(s_.getD j ByteArray.empty).toList=v_.toList)):=by
 unfold slices_Index_string;refine bS (λ (g1:Int)=>0<=g1∧(∀j:Nat,(j:Int)<g1->(s_.getD j ByteArray.empty).toList≠v_.toList)) (λ (g1:Int)=>(s_.length - g1).toNat) ?_ ?_
 ·intro ah g1 eU dB;obtain ⟨dZ,bW⟩:=eU;unfold yL;refine wi ?_ ?_<;>intro c1
  ·refine wn<|wi ?_ ?_<;>intro c2
   ·refine aC ?_;(constructor; (intro _; exact ⟨g1.toNat,om,c2.symm⟩); (intro _; omega))
   refine wn<|dB _ ?_ ?_
   ·(refine ⟨ob,fq bW dZ (λ e=>c2 e.symm)⟩)
   exact ob
  refine aC ?_;(constructor; (intro e; omega); (rintro ⟨j,h1,h2⟩; exact absurd h2 (bW j om)))
 (refine ⟨ob,λ j hj=>by (try dsimp only at hj); omega⟩)
theorem Gt {s_:azB} {v_:ByteArray} (h1:s_.length<=2000000):W (slices_Contains_string s_ v_) (λ r=>r=true↔∃j:Nat,(j:Int)<s_.length∧(s_.getD j ByteArray.empty).toList=v_.toList):=by
 unfold slices_Contains_string;refine aG (LK ob) λ v1 hv1=>?_;refine aC ?_;(rw [<- hv1]; simp)
theorem acF {OI:Int} {g_:dh} (h1:g_.cu.length<=2000000) (h2:g_.au.length<=2000000):W (K4 OI g_) (λ r=>anQ OI g_ r):=by
 unfold K4;refine wi ?_ ?_<;>intro c1
 ·exact aC<|eT c1
 refine wi ?_ ?_<;>intro c2
 ·exact aC<|aQ om (eT c2)
 refine bS (λ (g1:Int)=>0<=g1∧(∀j:Nat,(j:Int)<g1->0<=g_.cu.getD j 0∧g_.cu.getD j 0<OI)) (λ (g1:Int)=>(g_.cu.length - g1).toNat) ?_ ?_
 ·intro ah g1 eU dB;obtain ⟨dZ,bW⟩:=eU;unfold SK;refine wi ?_ ?_<;>intro c3
  ·refine wn<|wi ?_ ?_<;>intro c4
   ·exact aC<|aQ om (aQ om (eT ⟨g1.toNat,om,om⟩))
   refine wn<|dB _ ?_ ?_
   ·(refine ⟨ob,fq bW dZ om⟩)
   exact ob
  refine bS (λ (g2:Int)=>1<=g2∧(∀j:Nat,(j:Int)<g2->1<=j->g_.cu.getD (j - 1) 0<g_.cu.getD j 0)) (λ (g2:Int)=>(g_.cu.length - g2).toNat) ?_ ?_
  ·intro dY g2 nD rF;obtain ⟨sK,jN⟩:=nD;unfold OH;refine wi ?_ ?_<;>intro c5
   ·refine wm<|wn ?_;refine wi ?_ ?_<;>intro c6
    ·exact aC<|aQ om (aQ om (aQ (gV bW om) (eT ⟨g2.toNat,om,om,by rw [show g2.toNat - 1=(g2 - 1).toNat by omega]; omega⟩)))
    refine wn<|rF _ ?_ ?_
    ·(refine ⟨ob,λ j h1 h2=>?_⟩; by_cases q:(j:Int)<g2; (exact jN j q h2); (have e:j=g2.toNat:=by omega); subst e; rw [show g2.toNat - 1=(g2 - 1).toNat by omega]; omega)
    exact ob
   refine bS (λ (g3:Int)=>0<=g3∧(∀j:Nat,(j:Int)<g3->Qw (g_.au.getD j ByteArray.empty))) (λ (g3:Int)=>(g_.au.length - g3).toNat) ?_ ?_
   ·intro nE g3 aeS aeT;obtain ⟨Y0,rG⟩:=aeS;unfold OG;refine wi ?_ ?_<;>intro c7
    ·refine wn<|aG (LJ) λ v3 hv3=>?_;refine bV ?_ ?_<;>intro c8
     ·have c8o:=c8;have c8:=eX c8;exact aC<|aQ om (aQ om (aQ (gV bW om) (aQ (I9 jN om) (eT ⟨g3.toNat,om,λ h=>by simp [hv3.2 h] at c8o⟩))))
     have c8o:=c8;have c8:=eX c8;refine wn<|aeT _ ?_ ?_
     ·(refine ⟨ob,fq rG Y0 (hv3.1 (by simpa using c8o))⟩)
     exact ob
    refine bS (λ (g4:Int)=>0<=g4∧(∀k:Nat,(k:Int)<g4->∀j:Nat,j<k->(g_.au.getD j ByteArray.empty).toList≠(g_.au.getD k ByteArray.empty).toList)) (λ (g4:Int)=>(g_.au.length - g4).toNat) ?_ ?_
    ·intro gW g4 I5 Gr;obtain ⟨xS,mH⟩:=I5;unfold OE;refine wi ?_ ?_<;>intro c9
     ·refine wm<|aG (Gt ob) λ v6 hv6=>?_;refine bV ?_ ?_<;>intro c10
      ·have acB:=c10;have c10:=eX c10;exact aC (aQ om (aQ om (aQ (gV bW om) (aQ (I9 jN om) (aQ (gV rG om) (eT (by obtain ⟨j,h1,h2⟩:=hv6.1 c10; rw [ahj] at h1; rw [Rx _ _ _ _ om] at h2; exact ⟨g4.toNat,j,om,om,h2⟩)))))))
      have acB:=c10;have c10:=eX c10;refine wn<|Gr _ ?_ ?_
      ·(refine ⟨ob,λ k hk j hj=>?_⟩; by_cases q:(k:Int)<g4; (exact mH k q j hj); (have e:k=g4.toNat:=by omega); subst e; intro e2; have:=hv6.2 ⟨j,by rw [ahj]; omega,by rw [Rx _ _ _ _ om]; exact e2⟩; simp [this] at acB)
      exact ob
     exact aC (aQ om (aQ om (aQ (gV bW om) (aQ (I9 jN om) (aQ (gV rG om) (aQ (λ ⟨k,j,h1,h2,h3⟩=>mH k om j h1 h3) rfl))))))
    (refine ⟨ob,λ j h1 h2=>by omega⟩)
   (refine ⟨ob,λ j hj=>by (try dsimp only at hj); omega⟩)
  (refine ⟨ob,λ j h1 h2=>by omega⟩)
 (refine ⟨ob,λ j hj=>by (try dsimp only at hj); omega⟩)
theorem abv {i_:Int} (h1:0<=i_) (h2:i_<p_.aH.length) (h3:p_.aH.length<=2000000) (h4:∀g∈p_.aH,g.cu.length<=2000000∧g.au.length<=2000000):W (Ho p_ i_) (λ r=>aiF p_ i_.toNat r):=by
 have hgl:=h4 _ (getD_in (i:=i_.toNat) aN om);unfold Ho;refine wn<|aG (BM) λ v1 hv1=>?_;refine bV ?_ ?_<;>intro c1
 ·have gD:=c1;have c1:=eX c1;exact aC<|eT (λ h=>by simp [hv1.2 h] at gD)
 have gD:=c1;have c1:=eX c1;refine bS (λ (g1:Int)=>0<=g1∧(∀k:Nat,(k:Int)<g1->(p_.aH.getD k aN).yw.toList≠(p_.aH.getD i_.toNat aN).yw.toList)) (λ (g1:Int)=>(i_ - g1).toNat) ?_ ?_
 ·intro ah g1 eU dB;obtain ⟨dZ,bW⟩:=eU;unfold Pp;refine wi ?_ ?_<;>intro c2
  ·refine wn<|wi ?_ ?_<;>intro c3
   ·exact aC (aQ (λ h=>h (hv1.1 (by simpa using gD))) (eT ⟨g1.toNat,om,c3⟩))
   refine wn<|dB _ ?_ ?_
   ·(refine ⟨ob,fq bW dZ c3⟩)
   exact ob
  refine wi ?_ ?_<;>intro c4
  ·exact aC (aQ (λ h=>h (hv1.1 (by simpa using gD))) (aQ (λ ⟨k,h1,h2⟩=>bW k om h2) (eT c4)))
  refine wi ?_ ?_<;>intro c5
  ·exact aC (aQ (λ h=>h (hv1.1 (by simpa using gD))) (aQ (λ ⟨k,h1,h2⟩=>bW k om h2) (aQ om (eT c5))))
  refine bS (λ (g2:Int)=>0<=g2∧(∀j:Nat,(j:Int)<g2->0<=(p_.aH.getD i_.toNat aN).cu.getD j 0∧(p_.aH.getD i_.toNat aN).cu.getD j 0<p_.cu)) (λ (g2:Int)=>((p_.aH.getD i_.toNat aN).cu.length - g2).toNat) ?_ ?_
  ·intro dY g2 nD rF;obtain ⟨sK,jN⟩:=nD;unfold MU;refine wi ?_ ?_<;>intro c6
   ·refine wm<|wi ?_ ?_<;>intro c7
    ·exact aC<|aQ (λ h=>h (hv1.1 (by simpa using gD))) (aQ (λ ⟨k,h1,h2⟩=>bW k om h2) (aQ om (aQ om (eT ⟨g2.toNat,om,om⟩))))
    refine wn<|rF _ ?_ ?_
    ·(refine ⟨ob,fq jN sK om⟩)
    exact ob
   refine bS (λ (g3:Int)=>1<=g3∧(∀j:Nat,(j:Int)<g3->1<=j->(p_.aH.getD i_.toNat aN).cu.getD (j - 1) 0<(p_.aH.getD i_.toNat aN).cu.getD j 0)) (λ (g3:Int)=>((p_.aH.getD i_.toNat aN).cu.length - g3).toNat) ?_ ?_
   ·intro nE g3 aeS aeT;obtain ⟨Y0,rG⟩:=aeS;unfold MS;refine wi ?_ ?_<;>intro c8
    ·refine wm<|wn ?_;refine wi ?_ ?_<;>intro c9
     ·exact aC<|aQ (λ h=>h (hv1.1 (by simpa using gD))) (aQ (λ ⟨k,h1,h2⟩=>bW k om h2) (aQ om (aQ om (aQ (gV jN om) (eT ⟨g3.toNat,om,om,by rw [show g3.toNat - 1=(g3 - 1).toNat by omega]; omega⟩)))))
     refine wn<|aeT _ ?_ ?_
     ·(refine ⟨ob,λ j h1 h2=>?_⟩; by_cases q:(j:Int)<g3; (exact rG j q h2); (have e:j=g3.toNat:=by omega); subst e; rw [show g3.toNat - 1=(g3 - 1).toNat by omega]; omega)
     exact ob
    refine bS (λ (g4:Int)=>0<=g4∧(∀j:Nat,(j:Int)<g4->Qw ((p_.aH.getD i_.toNat aN).au.getD j ByteArray.empty))) (λ (g4:Int)=>((p_.aH.getD i_.toNat aN).au.length - g4).toNat) ?_ ?_
    ·intro gW g4 I5 Gr;obtain ⟨xS,mH⟩:=I5;unfold MR;refine wi ?_ ?_<;>intro c10
     ·refine wn<|aG (BM) λ v4 hv4=>?_;refine bV ?_ ?_<;>intro c11
      ·have aiG:=c11;have c11:=eX c11;exact aC<|aQ (λ h=>h (hv1.1 (by simpa using gD))) (aQ (λ ⟨k,h1,h2⟩=>bW k om h2) (aQ om (aQ om (aQ (gV jN om) (aQ (I9 rG om) (eT ⟨g4.toNat,om,λ h=>by simp [hv4.2 h] at aiG⟩))))))
      have aiG:=c11;have c11:=eX c11;refine wn<|Gr _ ?_ ?_
      ·(refine ⟨ob,fq mH xS (hv4.1 (by simpa using aiG))⟩)
      exact ob
     refine bS (λ (g5:Int)=>0<=g5∧(∀k:Nat,(k:Int)<g5->∀j:Nat,j<k->((p_.aH.getD i_.toNat aN).au.getD j ByteArray.empty).toList≠((p_.aH.getD i_.toNat aN).au.getD k ByteArray.empty).toList)) (λ (g5:Int)=>((p_.aH.getD i_.toNat aN).au.length - g5).toNat) ?_ ?_
     ·intro nP g5 XE XF;obtain ⟨TG,FV⟩:=XE;unfold MQ;refine wi ?_ ?_<;>intro c12
      ·refine bS (λ (g8:Int)=>0<=g8∧(∀j:Nat,(j:Int)<g8->((p_.aH.getD i_.toNat aN).au.getD j ByteArray.empty).toList≠((p_.aH.getD i_.toNat aN).au.getD g5.toNat ByteArray.empty).toList)) (λ (g8:Int)=>(g5 - g8).toNat) ?_ ?_
       ·intro aa6 g8 asr asu;obtain ⟨aqG,anR⟩:=asr;unfold MP;refine wi ?_ ?_<;>intro c13
        ·refine wm<|wi ?_ ?_<;>intro c14
         ·exact aC (aQ (λ h=>h (hv1.1 (by simpa using gD))) (aQ (λ ⟨k,h1,h2⟩=>bW k om h2) (aQ om (aQ om (aQ (gV jN om) (aQ (I9 rG om) (aQ (gV mH om) (eT ⟨g5.toNat,g8.toNat,om,om,c14⟩))))))))
         refine wn<|asu _ ?_ ?_
         ·(refine ⟨ob,fq anR aqG c14⟩)
         exact ob
        refine wn<|XF _ ?_ ?_
        ·(refine ⟨ob,λ k hk j hj=>?_⟩; by_cases q:(k:Int)<g5; (exact FV k q j hj); (have e:k=g5.toNat:=by omega); subst e; exact anR j om)
        exact ob
       (refine ⟨ob,λ j hj=>by (try dsimp only at hj); omega⟩)
      exact aC (aQ (λ h=>h (hv1.1 (by simpa using gD))) (aQ (λ ⟨k,h1,h2⟩=>bW k om h2) (aQ om (aQ om (aQ (gV jN om) (aQ (I9 rG om) (aQ (gV mH om) (aQ (λ ⟨k,j,h1,h2,h3⟩=>FV k om j h1 h3) rfl))))))))
     (refine ⟨ob,λ j h1 h2=>by omega⟩)
    (refine ⟨ob,λ j hj=>by (try dsimp only at hj); omega⟩)
   (refine ⟨ob,λ j h1 h2=>by omega⟩)
  (refine ⟨ob,λ j hj=>by (try dsimp only at hj); omega⟩)
 (refine ⟨ob,λ j hj=>by (try dsimp only at hj); omega⟩)
theorem Ja {l:azp} {x:Int} (hn:n<=l.length):(l.take n).contains x=true↔∃k:Nat,k<n∧l.getD k 0=x:=by
 rw [aqC,List.mem_take_iff_getElem];constructor
 ·rintro ⟨i,hi,e⟩;exact ⟨i,om,by rw [adF,adH om]; exact e⟩
 rintro ⟨k,hk,e⟩;rw [adF,adH om] at e;exact ⟨k,om,e⟩
def RsE (l:azC) (i:Nat):Int->Prop:=
 LG (∃j:Nat,(j:Int)<((l.getD i d9).fF).length∧¬(0<=((l.getD i d9).fF).getD j 0∧((l.getD i d9).fF).getD j 0<(i:Int))) 2<|
 LG (∃j:Nat,1<=j∧(j:Int)<((l.getD i d9).fF).length∧((l.getD i d9).fF).getD j 0<=((l.getD i d9).fF).getD (j - 1) 0) 12<|
 λ r=>r=0
def RsA (l:azC):Int->Prop:=LG (32<(l.length:Int)) 3<|Fst l.length (RsE l)
theorem RsA.fun {l:azC}:Gs (RsA l):=.KJ (.fst λ _=>.KJ (.KJ .zero))
theorem vS {p:Prop} (hc:c≠0) (h:LG p c A 0):¬p∧A 0:=by
 rcases h with ⟨_,h⟩ | h
 ·exact absurd h.symm hc
 exact h
theorem anS (h:Fst n E 0):∀k,k<n->E k 0:=by
 rcases h with ⟨_,_,_,_,h⟩ | h
 ·exact absurd rfl h
 exact h.1
theorem RsA.ok {l:azC} (h:RsA l 0):apK l:=by
 obtain ⟨h1,h2⟩:=vS (by decide) h;refine ⟨om,λ i hi=>mG 0 λ j hj=>?_⟩;obtain ⟨h3,_⟩:=vS (by decide) (anS h2 i hi);by_cases q:0<=((l.getD i d9).fF).getD j 0∧((l.getD i d9).fF).getD j 0<(i:Int)
 ·exact q
 exact absurd ⟨j,om,q⟩ h3
def anT (l:azC) (s:azq):Prop:=(s.length:Int)=l.length∧∀i:Nat,(i:Int)<l.length->∀j:Nat,(j:Int)<((l.getD i d9).fF).length->s.getD i false=true->s.getD (((l.getD i d9).fF).getD j 0).toNat false=true
def DmA (l:azD):Int->Prop:=LG (16<(l.length:Int)) 3<|LG (∃i:Nat,(i:Int)<l.length∧¬(-1<=(l.getD i eZ).aT∧(l.getD i eZ).aT<(i:Int))) 2<|λ r=>r=0
theorem DmA.fun {l:azD}:Gs (DmA l):=.KJ (.KJ .zero)
theorem DmA.ok {l:azD} (h:DmA l 0):apL l:=by
 obtain ⟨h1,h2⟩:=vS (by decide) h;obtain ⟨h3,_⟩:=vS (by decide) h2;refine ⟨om,λ i hi=>?_⟩;by_cases q : -1<=(l.getD i eZ).aT∧(l.getD i eZ).aT<(i:Int)
 ·exact q
 exact absurd ⟨i,om,q⟩ h3
def DgP (l:azD) (s:azq) (i:Nat):Prop:=((l.getD i eZ).gF=true->s.getD i false=true)∧(s.getD i false=true->0<=(l.getD i eZ).aT->s.getD (l.getD i eZ).aT.toNat false=true)
def RgP (l:azD) (s:azq):Prop:=(s.length:Int)=l.length∧∀i:Nat,(i:Int)<l.length->DgP l s i
def CJ (l:azu) (m:azp):Prop:=∀i:Nat,(i:Int)<m.length->(0<=m.getD i 0∧m.getD i 0<l.length)∧∀k:Nat,k<i->m.getD k 0≠m.getD i 0
def ak5 (b:aV) (l:azu) (g:aM):Prop:=((g.Setting.length:Int)=b.bP.length∧(g.bB.On.length:Int)=b.bI.length∧(g.bB.bC.length:Int)=b.bI.length∧(g.Released.length:Int)=b.bH.length∧(g.aY.length:Int)=b.bX.length)∧
 (∀i:Nat,(i:Int)<g.Setting.length->0<=g.Setting.getD i 0∧g.Setting.getD i 0<(b.bP.getD i aL).aO.length)∧∀i:Nat,(i:Int)<g.Uses.length -> -1<=(g.Uses.getD i bA).gP∧(g.Uses.getD i bA).gP<l.length
theorem TM (h1:∀g∈p_.aH,g.cu.length<=2000000∧g.au.length<=2000000):W (EZ p_) (λ r=>FZ p_ r):=by
 unfold EZ;refine wi ?_ ?_<;>intro c1
 ·exact aC<|eT c1
 refine wi ?_ ?_<;>intro c2
 ·exact aC<|aQ om (eT c2)
 refine bS (λ (g1:(Int×(dV->Option Int)))=>0<=g1.1∧(∀j:Nat,(j:Int)<g1.1->aiF p_ j 0)∧(∀s:ByteArray,jJ g1.2 (.s s)≠0↔∃k:Nat,(k:Int)<g1.1∧(p_.aH.getD k aN).yw=s)) (λ (g1:(Int×(dV->Option Int)))=>(p_.aH.length - g1.1).toNat) ?_ ?_
 ·intro ah g1 eU dB;obtain ⟨dZ,bW,bN⟩:=eU;unfold SL;refine wi ?_ ?_<;>intro c3
  ·have hgl:=h1 _ (getD_in (i:=g1.1.toNat) aN om);refine wn<|aG (LJ) λ v5 hv5=>?_;refine bV ?_ ?_<;>intro c4
   ·have uq:=c4;have c4:=eX c4;exact aC (aQ om (aQ om (I8 (i:=g1.1.toNat) om (λ k hk=>bW k om) (eT (λ h=>by simp [hv5.2 h] at uq)) (by decide))))
   have uq:=c4;have c4:=eX c4;refine wi ?_ ?_<;>intro c5
   ·exact aC (aQ om (aQ om (I8 (i:=g1.1.toNat) om (λ k hk=>bW k om) (aQ (λ h=>h (hv5.1 (by simpa using uq))) (eT (by obtain ⟨k,h1,h2⟩:=(bN _).1 c5; exact ⟨k,om,by rw [h2]⟩))) (by decide))))
   refine aG (acF hgl.1 hgl.2) λ v6 hv6=>?_;refine bV ?_ ?_<;>intro c6
   ·have c6o:=c6;have c6:=eX c6;exact aC (aQ om (aQ om (I8 (i:=g1.1.toNat) om (λ k hk=>bW k om) (aQ (λ h=>h (hv5.1 (by simpa using uq))) (aQ (λ ⟨k,h1,h2⟩=>(bN _).2 ⟨k,om,XH h2⟩ c5) hv6)) (c6))))
   have c6o:=c6;have c6:=eX c6;refine wn<|dB _ ?_ ?_
   ·(refine ⟨ob,fq bW dZ (aQ (λ h=>h (hv5.1 (by simpa using uq))) (aQ (λ ⟨k,h1,h2⟩=>(bN _).2 ⟨k,om,XH h2⟩ c5) (by have e:v6=0:=(by simpa using c6o); rw [e] at hv6; exact hv6))),λ s=>?_⟩; dsimp only; rw [A8]; by_cases q:(.s s:dV)=.s (p_.aH.getD g1.1.toNat aN).yw; (rw [if_pos q]; constructor; (intro _; exact ⟨g1.1.toNat,om,(dV.s.inj q).symm⟩); (intro _; decide)); (rw [if_neg q,bN]; constructor; (rintro ⟨k,h1,h2⟩; exact ⟨k,om,h2⟩); (rintro ⟨k,h1,h2⟩; refine ⟨k,?_,h2⟩; by_cases e:(k:Int)<g1.1; (exact e); exfalso; apply q; rw [<- h2,show k=g1.1.toNat by omega])))
   exact ob
  exact aC (aQ om (aQ om (LH (λ k hk=>bW k om))))
 (refine ⟨ob,λ j hj=>by dsimp only at hj; omega,λ s=>?_⟩; constructor; (intro h; exact absurd rfl h); (rintro ⟨k,h1,_⟩; dsimp only at h1; omega))
theorem F3 (h1:∀g∈p_.aH,g.cu.length<=2000000∧g.au.length<=2000000):W (xM p_) (λ r=>FZ p_ r):=by
 unfold xM;refine wi ?_ ?_<;>intro c1
 ·exact aC<|eT c1
 refine wi ?_ ?_<;>intro c2
 ·exact aC<|aQ om (eT c2)
 refine bS (λ (g1:Int)=>0<=g1∧(∀j:Nat,(j:Int)<g1->aiF p_ j 0)) (λ (g1:Int)=>(p_.aH.length - g1).toNat) ?_ ?_
 ·intro ah g1 eU dB;obtain ⟨dZ,bW⟩:=eU;unfold Pq;refine wi ?_ ?_<;>intro c3
  ·refine aG (abv om om om h1) λ v3 hv3=>?_;refine bV ?_ ?_<;>intro c4
   ·have uq:=c4;have c4:=eX c4;exact aC (aQ om (aQ om (I8 (i:=g1.toNat) om (λ k hk=>bW k om) (hv3) (c4))))
   have uq:=c4;have c4:=eX c4;refine wn<|dB _ ?_ ?_
   ·(refine ⟨ob,fq bW dZ (by have e:v3=0:=(by simpa using uq); rw [e] at hv3; exact hv3)⟩)
   exact ob
  exact aC (aQ om (aQ om (LH (λ k hk=>bW k om))))
 (refine ⟨ob,λ j hj=>by (try dsimp only at hj); omega⟩)
theorem Qy {l_:azC} (h1:∀g∈l_,g.fF.length<=2000000):W (Cc l_) (λ r=>RsA l_ r):=by
 unfold Cc;refine wi ?_ ?_<;>intro c1
 ·exact aC<|eT c1
 refine bS (λ (g1:Int)=>0<=g1∧(∀j:Nat,(j:Int)<g1->RsE l_ j 0)) (λ (g1:Int)=>(l_.length - g1).toNat) ?_ ?_
 ·intro ah g1 eU dB;obtain ⟨dZ,bW⟩:=eU;unfold OL;refine wi ?_ ?_<;>intro c2
  ·have hgl:=h1 _ (getD_in (i:=g1.toNat) d9 om);refine wn<|bS (λ (g6:Int)=>0<=g6∧(∀j:Nat,(j:Int)<g6->0<=((l_.getD g1.toNat d9).fF).getD j 0∧((l_.getD g1.toNat d9).fF).getD j 0<((g1.toNat:Nat):Int))) (λ (g6:Int)=>(((l_.getD g1.toNat d9).fF).length - g6).toNat) ?_ ?_
   ·intro jQ g6 Qr LC;obtain ⟨Nt,xU⟩:=Qr;unfold OJ;refine wi ?_ ?_<;>intro c3
    ·refine wn<|wi ?_ ?_<;>intro c4
     ·exact aC<|aQ om (I8 (i:=g1.toNat) om (λ k hk=>bW k om) (eT ⟨g6.toNat,om,om⟩) (by decide))
     refine wn<|LC _ ?_ ?_
     ·(refine ⟨ob,fq xU Nt om⟩)
     exact ob
    refine bS (λ (g7:Int)=>1<=g7∧(∀j:Nat,(j:Int)<g7->1<=j->((l_.getD g1.toNat d9).fF).getD (j - 1) 0<((l_.getD g1.toNat d9).fF).getD j 0)) (λ (g7:Int)=>(((l_.getD g1.toNat d9).fF).length - g7).toNat) ?_ ?_
    ·intro oJ g7 abw Zl;obtain ⟨abx,DW⟩:=abw;unfold Mh;refine wi ?_ ?_<;>intro c5
     ·refine wm<|wn ?_;refine wi ?_ ?_<;>intro c6
      ·exact aC<|aQ om (I8 (i:=g1.toNat) om (λ k hk=>bW k om) (aQ (gV xU om) (eT ⟨g7.toNat,om,om,by rw [show g7.toNat - 1=(g7 - 1).toNat by omega]; omega⟩)) (by decide))
      refine wn<|Zl _ ?_ ?_
      ·(refine ⟨ob,λ j h1 h2=>?_⟩; by_cases q:(j:Int)<g7; (exact DW j q h2); (have e:j=g7.toNat:=by omega); subst e; rw [show g7.toNat - 1=(g7 - 1).toNat by omega]; omega)
      exact ob
     refine wn<|dB _ ?_ ?_
     ·(refine ⟨ob,fq bW dZ (aQ (gV xU om) (aQ (I9 DW om) rfl))⟩)
     exact ob
    (refine ⟨ob,λ j h1 h2=>by omega⟩)
   (refine ⟨ob,λ j hj=>by (try dsimp only at hj); omega⟩)
  exact aC<|aQ om (LH λ k hk=>bW k om)
 (refine ⟨ob,λ j hj=>by (try dsimp only at hj); omega⟩)
theorem F4 {l_:azC} (h1:∀g∈l_,g.fF.length<=2000000):W (xO l_) (λ r=>RsA l_ r):=by
 unfold xO;refine wi ?_ ?_<;>intro c1
 ·exact aC<|eT c1
 refine bS (λ (g1:Int)=>0<=g1∧(∀j:Nat,(j:Int)<g1->RsE l_ j 0)) (λ (g1:Int)=>(l_.length - g1).toNat) ?_ ?_
 ·intro ah g1 eU dB;obtain ⟨dZ,bW⟩:=eU;unfold Pv;refine wi ?_ ?_<;>intro c2
  ·have hgl:=h1 _ (getD_in (i:=g1.toNat) d9 om);refine bS (λ (g6:Int)=>0<=g6∧(∀j:Nat,(j:Int)<g6->0<=((l_.getD g1.toNat d9).fF).getD j 0∧((l_.getD g1.toNat d9).fF).getD j 0<((g1.toNat:Nat):Int))) (λ (g6:Int)=>(((l_.getD g1.toNat d9).fF).length - g6).toNat) ?_ ?_
   ·intro jQ g6 Qr LC;obtain ⟨Nt,xU⟩:=Qr;unfold Pt;refine wn<|wi ?_ ?_<;>intro c3
    ·refine wm<|wm ?_;refine wi ?_ ?_<;>intro c4
     ·exact aC<|aQ om (I8 (i:=g1.toNat) om (λ k hk=>bW k om) (eT ⟨g6.toNat,om,om⟩) (by decide))
     refine wn<|LC _ ?_ ?_
     ·(refine ⟨ob,fq xU Nt om⟩)
     exact ob
    refine bS (λ (g7:Int)=>1<=g7∧(∀j:Nat,(j:Int)<g7->1<=j->((l_.getD g1.toNat d9).fF).getD (j - 1) 0<((l_.getD g1.toNat d9).fF).getD j 0)) (λ (g7:Int)=>(((l_.getD g1.toNat d9).fF).length - g7).toNat) ?_ ?_
    ·intro oJ g7 abw Zl;obtain ⟨abx,DW⟩:=abw;unfold MV;refine wn<|wi ?_ ?_<;>intro c5
     ·refine wm<|wm ?_;refine wn<|wi ?_ ?_<;>intro c6
      ·exact aC<|aQ om (I8 (i:=g1.toNat) om (λ k hk=>bW k om) (aQ (gV xU om) (eT ⟨g7.toNat,om,om,by rw [show g7.toNat - 1=(g7 - 1).toNat by omega]; omega⟩)) (by decide))
      refine wn<|Zl _ ?_ ?_
      ·(refine ⟨ob,λ j h1 h2=>?_⟩; by_cases q:(j:Int)<g7; (exact DW j q h2); (have e:j=g7.toNat:=by omega); subst e; rw [show g7.toNat - 1=(g7 - 1).toNat by omega]; omega)
      exact ob
     refine wn<|dB _ ?_ ?_
     ·(refine ⟨ob,fq bW dZ (aQ (gV xU om) (aQ (I9 DW om) rfl))⟩)
     exact ob
    (refine ⟨ob,λ j h1 h2=>by omega⟩)
   (refine ⟨ob,λ j hj=>by (try dsimp only at hj); omega⟩)
  exact aC<|aQ om (LH λ k hk=>bW k om)
 (refine ⟨ob,λ j hj=>by (try dsimp only at hj); omega⟩)
variable {dU:azq}
theorem Zm {l_:azC} (h1:apK l_) (h2:∀g∈l_,g.fF.length<=2000000):W (Ee l_ dU) (λ r=>r=true↔anT l_ dU):=by
 obtain ⟨p1,p2⟩:=h1;unfold Ee;refine wi ?_ ?_<;>intro c1
 ·refine aC ?_;(constructor; (intro e; cases e); (rintro ⟨a,_⟩; omega))
 refine bS (λ (g1:Int)=>0<=g1∧(∀i:Nat,(i:Int)<g1->∀j:Nat,(j:Int)<((l_.getD i d9).fF).length->dU.getD i false=true->dU.getD (((l_.getD i d9).fF).getD j 0).toNat false=true)) (λ (g1:Int)=>(l_.length - g1).toNat) ?_ ?_
 ·intro ah g1 eU dB;obtain ⟨dZ,bW⟩:=eU;unfold Mx;refine wi ?_ ?_<;>intro c2
  ·have hgl:=h2 _ (getD_in (i:=g1.toNat) d9 om);refine wn<|bS (λ (g4:Int)=>0<=g4∧(∀j:Nat,(j:Int)<g4->dU.getD g1.toNat false=true->dU.getD (((l_.getD g1.toNat d9).fF).getD j 0).toNat false=true)) (λ (g4:Int)=>(((l_.getD g1.toNat d9).fF).length - g4).toNat) ?_ ?_
   ·intro gW g4 I5 Gr;obtain ⟨xS,mH⟩:=I5;unfold Mw;refine wi ?_ ?_<;>intro c3
    ·have hx:=p2 g1.toNat om _ (getD_in (i:=g4.toNat) 0 om);refine wm<|wn ?_;refine bV ?_ ?_<;>intro c4
     ·have uq:=c4;have c4:=eX c4;refine aC ?_;(constructor; (intro e; cases e); (rintro ⟨_,a⟩; simp only [aei,ahk] at uq; have:=a g1.toNat om g4.toNat om uq.1; rw [this] at uq; cases uq.2))
     have uq:=c4;have c4:=eX c4;refine wn<|Gr _ ?_ ?_
     ·(refine ⟨ob,λ j h1 hr=>?_⟩; by_cases q:(j:Int)<g4; (exact mH j q hr); (have e:j=g4.toNat:=by omega); subst e; simp only [hr,aq0,ajz] at uq; exact uq)
     exact ob
    refine wn<|dB _ ?_ ?_
    ·(refine ⟨ob,λ i hi j hj hr=>?_⟩; by_cases q:(i:Int)<g1; (exact bW i q j hj hr); (have e:i=g1.toNat:=by omega); subst e; exact mH j om hr)
    exact ob
   (refine ⟨ob,λ j h1 h2=>by omega⟩)
  refine aC ?_;(constructor; (intro _; exact ⟨om,λ i hi=>bW i om⟩); (intro _; rfl))
 (refine ⟨ob,λ j h1 h2=>by omega⟩)
theorem Zn {l_:azC} (h1:∀g∈l_,g.fF.length<=2000000):W (Ef l_ dU) (λ r=>(r=true↔RsA l_ 0∧anT l_ dU)):=by
 unfold Ef;refine aG (Qy ob) λ v1 hv1=>?_;refine aG (vH λ hc=>Zm (by have e:v1=0:=(by simpa using hc); rw [e] at hv1; exact hv1.ok) h1) λ v2 hv2=>?_;refine aC ?_;(constructor; (intro hr; simp only [aei] at hr; have e:v1=0:=(by simpa using hr.1); exact ⟨e ▸ hv1,(hv2 hr.1).1 hr.2⟩); (rintro ⟨a,b⟩; have e:=RsA.fun _ _ hv1 a; subst e; have:=(hv2 rfl).2 b; rw [this]; rfl))
theorem Zo {l_:azC} (h1:∀g∈l_,g.fF.length<=2000000):W (Er l_ dU) (λ r=>(r=true↔RsA l_ 0∧anT l_ dU)):=by
 unfold Er;refine aG (F4 ob) λ v1 hv1=>?_;refine wi ?_ ?_<;>intro c1
 ·refine aC ?_;(constructor; (intro e; cases e); (rintro ⟨a,b,_⟩; have e:=RsA.fun _ _ hv1 a; omega))
 have hok:RsA l_ 0:=(by have e:v1=0:=om; rw [e] at hv1; exact hv1);obtain ⟨p1,p2⟩:=hok.ok;refine bS (λ (g1:Int)=>0<=g1∧(∀i:Nat,(i:Int)<g1->∀j:Nat,(j:Int)<((l_.getD i d9).fF).length->dU.getD i false=true->dU.getD (((l_.getD i d9).fF).getD j 0).toNat false=true)) (λ (g1:Int)=>(l_.length - g1).toNat) ?_ ?_
 ·intro ah g1 eU dB;obtain ⟨dZ,bW⟩:=eU;unfold Nc;refine wi ?_ ?_<;>intro c2
  ·have hgl:=h1 _ (getD_in (i:=g1.toNat) d9 om);refine bS (λ (g4:Int)=>0<=g4∧(∀j:Nat,(j:Int)<g4->dU.getD g1.toNat false=true->dU.getD (((l_.getD g1.toNat d9).fF).getD j 0).toNat false=true)) (λ (g4:Int)=>(((l_.getD g1.toNat d9).fF).length - g4).toNat) ?_ ?_
   ·intro gW g4 I5 Gr;obtain ⟨xS,mH⟩:=I5;unfold Nb;refine wn<|wi ?_ ?_<;>intro c3
    ·have hx:=p2 g1.toNat om _ (getD_in (i:=g4.toNat) 0 om);refine wm<|wm ?_;refine bV ?_ ?_<;>intro c4
     ·have uq:=c4;have c4:=eX c4;refine aC ?_;(constructor; (intro e; cases e); (rintro ⟨_,_,a⟩; simp only [aei,ahk] at uq; have:=a g1.toNat om g4.toNat om uq.1; rw [this] at uq; cases uq.2))
     have uq:=c4;have c4:=eX c4;refine wn<|Gr _ ?_ ?_
     ·(refine ⟨ob,λ j h1 hr=>?_⟩; by_cases q:(j:Int)<g4; (exact mH j q hr); (have e:j=g4.toNat:=by omega); subst e; simp only [hr,aq0,ajz] at uq; exact uq)
     exact ob
    refine wn<|dB _ ?_ ?_
    ·(refine ⟨ob,λ i hi j hj hr=>?_⟩; by_cases q:(i:Int)<g1; (exact bW i q j hj hr); (have e:i=g1.toNat:=by omega); subst e; exact mH j om hr)
    exact ob
   (refine ⟨ob,λ j h1 h2=>by omega⟩)
  refine aC ?_;(constructor; (intro _; exact ⟨hok,om,λ i hi=>bW i om⟩); (intro _; rfl))
 (refine ⟨ob,λ j h1 h2=>by omega⟩)
theorem Dp {l_:azD}:W (uF l_) (λ r=>DmA l_ r):=by
 unfold uF;refine wi ?_ ?_<;>intro c1
 ·exact aC<|eT c1
 refine bS (λ (g1:Int)=>0<=g1∧(∀j:Nat,(j:Int)<g1 -> -1<=(l_.getD j eZ).aT∧(l_.getD j eZ).aT<(j:Int))) (λ (g1:Int)=>(l_.length - g1).toNat) ?_ ?_
 ·intro ah g1 eU dB;obtain ⟨dZ,bW⟩:=eU;unfold Mi;refine wi ?_ ?_<;>intro c2
  ·refine wn<|wi ?_ ?_<;>intro c3
   ·exact aC<|aQ om (eT ⟨g1.toNat,om,om⟩)
   refine wn<|dB _ ?_ ?_
   ·(refine ⟨ob,fq bW dZ om⟩)
   exact ob
  exact aC<|aQ om (aQ (gV bW om) rfl)
 (refine ⟨ob,λ j hj=>by (try dsimp only at hj); omega⟩)
theorem F5 {l_:azD}:W (xP l_) (λ r=>DmA l_ r):=by
 unfold xP;refine wi ?_ ?_<;>intro c1
 ·exact aC<|eT c1
 refine bS (λ (g1:Int)=>0<=g1∧(∀j:Nat,(j:Int)<g1 -> -1<=(l_.getD j eZ).aT∧(l_.getD j eZ).aT<(j:Int))) (λ (g1:Int)=>(l_.length - g1).toNat) ?_ ?_
 ·intro ah g1 eU dB;obtain ⟨dZ,bW⟩:=eU;unfold Pw;refine wi ?_ ?_<;>intro c2
  ·refine wm<|wi ?_ ?_<;>intro c3
   ·exact aC<|aQ om (eT ⟨g1.toNat,om,om⟩)
   refine wn<|dB _ ?_ ?_
   ·(refine ⟨ob,fq bW dZ om⟩)
   exact ob
  exact aC<|aQ om (aQ (gV bW om) rfl)
 (refine ⟨ob,λ j hj=>by (try dsimp only at hj); omega⟩)
variable {oL:azq}
theorem Dq {l_:azD} (h1:apL l_):W (uL l_ oL) (λ r=>r=true↔RgP l_ oL):=by
 obtain ⟨p1,p2⟩:=h1;unfold uL;refine wi ?_ ?_<;>intro c1
 ·refine aC ?_;(constructor; (intro e; cases e); (rintro ⟨a,_⟩; omega))
 refine bS (λ (g1:Int)=>0<=g1∧(∀j:Nat,(j:Int)<g1->DgP l_ oL j)) (λ (g1:Int)=>(l_.length - g1).toNat) ?_ ?_
 ·intro ah g1 eU dB;obtain ⟨dZ,bW⟩:=eU;unfold MB;refine wi ?_ ?_<;>intro c2
  ·have hx:=p2 g1.toNat om;refine wm<|wm ?_;refine bV ?_ ?_<;>intro c3
   ·have jZ:=c3;have c3:=eX c3;refine aC ?_;(constructor; (intro e; cases e); (rintro ⟨_,this⟩; have hd:=this g1.toNat om; obtain ⟨d1,d2⟩:=hd; revert d1 d2; cases hA:(l_.getD g1.toNat eZ).gF<;>cases hB:oL.getD g1.toNat false<;>simp_all))
   have jZ:=c3;have c3:=eX c3;refine wn<|dB _ ?_ ?_
   ·(refine ⟨ob,fq bW dZ ?_⟩; unfold DgP; revert jZ; cases hA:(l_.getD g1.toNat eZ).gF<;>cases hB:oL.getD g1.toNat false<;>simp)
   exact ob
  refine aC ?_;(constructor; (intro _; exact ⟨om,λ i hi=>bW i om⟩); (intro _; rfl))
 (refine ⟨ob,λ j hj=>by (try dsimp only at hj); omega⟩)
theorem Zp {l_:azD} :W (Eh l_ oL) (λ r=>(r=true↔DmA l_ 0∧RgP l_ oL)):=by
 unfold Eh;refine aG (Dp) λ v1 hv1=>?_;refine aG (vH λ hc=>Dq (by have e:v1=0:=(by simpa using hc); rw [e] at hv1; exact hv1.ok)) λ v2 hv2=>?_;refine aC ?_;(constructor; (intro hr; simp only [aei] at hr; have e:v1=0:=(by simpa using hr.1); exact ⟨e ▸ hv1,(hv2 hr.1).1 hr.2⟩); (rintro ⟨a,b⟩; have e:=DmA.fun _ _ hv1 a; subst e; have:=(hv2 rfl).2 b; rw [this]; rfl))
theorem aby {l_:azD} :W (HY l_ oL) (λ r=>(r=true↔DmA l_ 0∧RgP l_ oL)):=by
 unfold HY;refine aG (F5) λ v1 hv1=>?_;refine wi ?_ ?_<;>intro c1
 ·refine aC ?_;(constructor; (intro e; cases e); (rintro ⟨a,b,_⟩; have e:=DmA.fun _ _ hv1 a; omega))
 have hok:DmA l_ 0:=(by have e:v1=0:=om; rw [e] at hv1; exact hv1);obtain ⟨p1,p2⟩:=hok.ok;refine bS (λ (g1:Int)=>0<=g1∧(∀j:Nat,(j:Int)<g1->DgP l_ oL j)) (λ (g1:Int)=>(l_.length - g1).toNat) ?_ ?_
 ·intro ah g1 eU dB;obtain ⟨dZ,bW⟩:=eU;unfold PW;refine wi ?_ ?_<;>intro c2
  ·have hx:=p2 g1.toNat om;refine wm<|wm ?_;refine wm<|bV ?_ ?_<;>intro c3
   ·have jZ:=c3;have c3:=eX c3;refine aC ?_;(constructor; (intro e; cases e); (rintro ⟨_,_,this⟩; have hd:=this g1.toNat om; obtain ⟨d1,d2⟩:=hd; revert d1 d2; cases hA:(l_.getD g1.toNat eZ).gF<;>cases hB:oL.getD g1.toNat false<;>simp_all))
   have jZ:=c3;have c3:=eX c3;refine wn<|dB _ ?_ ?_
   ·(refine ⟨ob,fq bW dZ ?_⟩; unfold DgP; revert jZ; cases hA:(l_.getD g1.toNat eZ).gF<;>cases hB:oL.getD g1.toNat false<;>simp)
   exact ob
  refine aC ?_;(constructor; (intro _; exact ⟨hok,om,λ i hi=>bW i om⟩); (intro _; rfl))
 (refine ⟨ob,λ j hj=>by (try dsimp only at hj); omega⟩)
variable {l_:azu} {aj:azp}
theorem UC (h1:l_.length<=2000000) (h2:aj.length<=2000000):W (qR l_ aj) (λ r=>r=true↔CJ l_ aj):=by
 unfold qR;refine bS (λ (g1:Int)=>0<=g1∧(∀i:Nat,(i:Int)<g1->(0<=aj.getD i 0∧aj.getD i 0<l_.length)∧∀k:Nat,k<i->aj.getD k 0≠aj.getD i 0)) (λ (g1:Int)=>(aj.length - g1).toNat) ?_ ?_
 ·intro ah g1 eU dB;obtain ⟨dZ,bW⟩:=eU;unfold E5;refine wi ?_ ?_<;>intro c1
  ·refine wm<|aG (qI) λ v5 hv5=>?_;subst v5;refine wn<|aG (gM λ hc=>rW ob) λ v6 hv6=>?_;subst v6;refine bV ?_ ?_<;>intro c2
   ·have kM:=c2;have c2:=eX c2;refine aC ?_;(constructor; (intro e; cases e); (intro a; obtain ⟨b,d⟩:=a g1.toNat om; simp only [al4] at kM; rcases kM with c | c; (simp only [ahk,als,decide_eq_false_iff_not] at c; omega); (obtain ⟨k,h3,h4⟩:=(Ja om).1 c; exact absurd h4 (d k h3))))
   have kM:=c2;have c2:=eX c2;refine wn<|dB _ ?_ ?_
   ·(refine ⟨ob,fq bW dZ ?_⟩; simp only [aff] at kM; refine ⟨(by have:=kM.1; simp only [ajz,aei,decide_eq_true_eq] at this; omega),λ k hk e=>?_⟩; rw [(Ja om).2 ⟨k,hk,e⟩] at kM; cases kM.2)
   exact ob
  refine aC ?_;(constructor; (intro _ i hi; exact bW i om); (intro _; rfl))
 (refine ⟨ob,λ j hj=>by (try dsimp only at hj); omega⟩)
theorem uT (h1:l_.length<=2000000) (h2:aj.length<=2000000):W (oC l_ aj) (λ r=>r=true↔CJ l_ aj):=by
 unfold oC;refine bS (λ (g1:Int)=>0<=g1∧(∀i:Nat,(i:Int)<g1->(0<=aj.getD i 0∧aj.getD i 0<l_.length)∧∀k:Nat,k<i->aj.getD k 0≠aj.getD i 0)) (λ (g1:Int)=>(aj.length - g1).toNat) ?_ ?_
 ·intro ah g1 eU dB;obtain ⟨dZ,bW⟩:=eU;unfold JM;refine wi ?_ ?_<;>intro c1
  ·refine wm<|wi ?_ ?_<;>intro c2
   ·refine aC ?_;(constructor; (intro e; cases e); (intro a; obtain ⟨b,d⟩:=a g1.toNat om; omega))
   refine bS (λ (g4:Int)=>0<=g4∧(∀k:Nat,(k:Int)<g4->aj.getD k 0≠aj.getD g1.toNat 0)) (λ (g4:Int)=>(g1 - g4).toNat) ?_ ?_
   ·intro gW g4 I5 Gr;obtain ⟨xS,mH⟩:=I5;unfold JL;refine wi ?_ ?_<;>intro c3
    ·refine wm<|wi ?_ ?_<;>intro c4
     ·refine aC ?_;(constructor; (intro e; cases e); (intro a; obtain ⟨b,d⟩:=a g1.toNat om; exact absurd c4 (d g4.toNat om)))
     refine wn<|Gr _ ?_ ?_
     ·(refine ⟨ob,fq mH xS c4⟩)
     exact ob
    refine wn<|dB _ ?_ ?_
    ·(refine ⟨ob,fq bW dZ ⟨om,λ k hk=>mH k om⟩⟩)
    exact ob
   (refine ⟨ob,λ j hj=>by (try dsimp only at hj); omega⟩)
  refine aC ?_;(constructor; (intro _ i hi; exact bW i om); (intro _; rfl))
 (refine ⟨ob,λ j hj=>by (try dsimp only at hj); omega⟩)
def NdE (b:aV) (n:aR) (dv:Int):Int->Prop:=
 LG (32<(n.dx.length:Int)∨32<(n.fJ.length:Int)∨10<(n.au.length:Int)) 3<|
 LG (∃j:Nat,(j:Int)<n.dx.length∧¬Uz b.bP.length (n.dx.getD j dN)) 2<|
 LG (∃j:Nat,(j:Int)<n.fJ.length∧¬aiz b.bI.length (n.fJ.getD j eu)) 2<|
 LG (∃j:Nat,(j:Int)<n.au.length∧¬Qw (n.au.getD j ByteArray.empty)) 1<|
 LG (∃j:Nat,(j:Int)<n.bH.length∧¬(0<=n.bH.getD j 0∧n.bH.getD j 0<b.bH.length)) 2<|
 LG (¬(-1<=n.fV∧n.fV<b.bX.length)) 2<|
 LG (∃j:Nat,(j:Int)<n.cO.length∧¬(0<=n.cO.getD j 0∧n.cO.getD j 0<dv)) 2<|
 LG (∃j:Nat,1<=j∧(j:Int)<n.cO.length∧n.cO.getD j 0<=n.cO.getD (j - 1) 0) 12<|
 λ r=>r=0
variable {b:aV}
theorem NdE.fun {n:aR} {dv:Int}:Gs (NdE b n dv):=.KJ (.KJ (.KJ (.KJ (.KJ (.KJ (.KJ (.KJ .zero)))))))
def Qz (b:aV):Int->Prop:=Thn (λ r=>r=eD b.bP)<|Thn (λ r=>r=Sp.eD b.bI)<|Thn (FZ b.aU)<|Thn (RsA b.bH) (DmA b.bX)
theorem Qz.fun:Gs (Qz b):=.thn (λ _ _ h k=>h.trans k.symm) (.thn (λ _ _ h k=>h.trans k.symm) (.thn FZ.fun (.thn RsA.fun DmA.fun)))
def uj (b:aV) (l:azu):Int->Prop:=Thn (Qz b)<|LG (12<(l.length:Int)) 3<|Fst l.length λ i=>NdE b (l.getD i bK) l.length
theorem uj.fun {l:azu}:Gs (uj b l):=.thn Qz.fun (.KJ (.fst λ _=>NdE.fun))
variable {b_:aV}
theorem abz (h1:Lx b_) (h2:∀g∈b_.aU.aH,g.cu.length<=2000000∧g.au.length<=2000000):W (GQ b_) (λ r=>Qz b_ r):=by
 obtain ⟨z1,z2,z3,z4,z5,z6,z7⟩:=h1;unfold GQ;refine aG (Ac (rM ob)) λ v1 hv1=>?_;subst v1;refine wi ?_ ?_<;>intro c1
 ·exact aC<|I7 rfl c1
 refine aG (Sp.zP ob) λ v2 hv2=>?_;subst v2;refine wi ?_ ?_<;>intro c2
 ·exact aC<|lq c1.symm (I7 rfl c2)
 refine aG (TM h2) λ v3 hv3=>?_;refine wi ?_ ?_<;>intro c3
 ·exact aC<|lq c1.symm (lq c2.symm (I7 hv3 c3))
 refine aG (Qy ob) λ v4 hv4=>?_;refine wi ?_ ?_<;>intro c4
 ·exact aC<|lq c1.symm (lq c2.symm (lq (c3 ▸ hv3) (I7 hv4 c4)))
 refine aG (Dp) λ v5 hv5=>?_;exact aC<|lq c1.symm (lq c2.symm (lq (c3 ▸ hv3) (lq (c4 ▸ hv4) hv5)))
theorem abA (h1:Lx b_) (h2:∀g∈b_.aU.aH,g.cu.length<=2000000∧g.au.length<=2000000):W (Hq b_) (λ r=>Qz b_ r):=by
 obtain ⟨z1,z2,z3,z4,z5,z6,z7⟩:=h1;unfold Hq;refine aG (BJ ob) λ v1 hv1=>?_;subst v1;refine wi ?_ ?_<;>intro c1
 ·exact aC<|I7 rfl c1
 refine aG (Sp.BH ob) λ v2 hv2=>?_;subst v2;refine wi ?_ ?_<;>intro c2
 ·exact aC<|lq c1.symm (I7 rfl c2)
 refine aG (F3 h2) λ v3 hv3=>?_;refine wi ?_ ?_<;>intro c3
 ·exact aC<|lq c1.symm (lq c2.symm (I7 hv3 c3))
 refine aG (F4 ob) λ v4 hv4=>?_;refine wi ?_ ?_<;>intro c4
 ·exact aC<|lq c1.symm (lq c2.symm (lq (c3 ▸ hv3) (I7 hv4 c4)))
 refine aG (F5) λ v5 hv5=>?_;exact aC<|lq c1.symm (lq c2.symm (lq (c3 ▸ hv3) (lq (c4 ▸ hv4) hv5)))
theorem acG {n_:aR} {iU:Int} (h1:Lx b_) (h2:0<=iU) (h3:iU<=2000000) (h4:n_.bH.length<=2000000) (h5:n_.cO.length<=2000000):W (K5 b_ n_ iU) (λ r=>NdE b_ n_ iU r):=by
 obtain ⟨z1,z2,z3,z4,z5,z6,z7⟩:=h1;unfold K5;refine wi ?_ ?_<;>intro c1
 ·exact aC<|eT om
 refine bS (λ (g1:Int)=>0<=g1∧(∀j:Nat,(j:Int)<g1->Uz b_.bP.length (n_.dx.getD j dN))) (λ (g1:Int)=>(n_.dx.length - g1).toNat) ?_ ?_
 ·intro ah g1 eU dB;obtain ⟨dZ,bW⟩:=eU;unfold SN;refine wi ?_ ?_<;>intro c2
  ·refine wm<|aG (qI) λ v3 hv3=>?_;subst v3;refine wi ?_ ?_<;>intro c3
   ·exact aC (aQ om (eT ⟨g1.toNat,om,λ ⟨_,_,_,_,_⟩=>by omega⟩))
   refine wn<|dB _ ?_ ?_
   ·(refine ⟨ob,fq bW dZ ⟨om,om,om,om,om⟩⟩)
   exact ob
  refine bS (λ (g2:Int)=>0<=g2∧(∀j:Nat,(j:Int)<g2->aiz b_.bI.length (n_.fJ.getD j eu))) (λ (g2:Int)=>(n_.fJ.length - g2).toNat) ?_ ?_
  ·intro dY g2 nD rF;obtain ⟨sK,jN⟩:=nD;unfold OU;refine wi ?_ ?_<;>intro c4
   ·refine wm<|aG (qI) λ v8 BG=>?_;subst v8;refine aG (gM λ hc=>kY (qI)) λ v9 Xx=>?_;subst v9;refine wi ?_ ?_<;>intro c5
    ·exact aC (aQ om (aQ (gV bW om) (eT ⟨g2.toNat,om,λ ⟨_,_,_,_,_,_,_⟩=>by omega⟩)))
    refine wn<|rF _ ?_ ?_
    ·(refine ⟨ob,fq jN sK ⟨om,om,om,om,om,om,om⟩⟩)
    exact ob
   refine bS (λ (g3:Int)=>0<=g3∧(∀j:Nat,(j:Int)<g3->Qw (n_.au.getD j ByteArray.empty))) (λ (g3:Int)=>(n_.au.length - g3).toNat) ?_ ?_
   ·intro nE g3 aeS aeT;obtain ⟨Y0,rG⟩:=aeS;unfold OT;refine wi ?_ ?_<;>intro c6
    ·refine wn<|aG (LJ) λ v12 VF=>?_;refine bV ?_ ?_<;>intro c7
     ·have YW:=c7;have c7:=eX c7;exact aC (aQ om (aQ (gV bW om) (aQ (gV jN om) (eT ⟨g3.toNat,om,λ h=>by simp [VF.2 h] at YW⟩))))
     have YW:=c7;have c7:=eX c7;refine wn<|aeT _ ?_ ?_
     ·(refine ⟨ob,fq rG Y0 (VF.1 (by simpa using YW))⟩)
     exact ob
    refine bS (λ (g4:Int)=>0<=g4∧(∀j:Nat,(j:Int)<g4->0<=n_.bH.getD j 0∧n_.bH.getD j 0<b_.bH.length)) (λ (g4:Int)=>(n_.bH.length - g4).toNat) ?_ ?_
    ·intro gW g4 I5 Gr;obtain ⟨xS,mH⟩:=I5;unfold OQ;refine wi ?_ ?_<;>intro c8
     ·refine wm<|aG (qI) λ v15 acj=>?_;subst v15;refine wi ?_ ?_<;>intro c9
      ·exact aC (aQ om (aQ (gV bW om) (aQ (gV jN om) (aQ (gV rG om) (eT ⟨g4.toNat,om,om⟩)))))
      refine wn<|Gr _ ?_ ?_
      ·(refine ⟨ob,fq mH xS om⟩)
      exact ob
     refine wn<|aG (qI) λ v16 aeD=>?_;subst v16;refine wi ?_ ?_<;>intro c10
     ·exact aC (aQ om (aQ (gV bW om) (aQ (gV jN om) (aQ (gV rG om) (aQ (gV mH om) (eT om))))))
     refine bS (λ (g5:Int)=>0<=g5∧(∀j:Nat,(j:Int)<g5->0<=n_.cO.getD j 0∧n_.cO.getD j 0<iU)) (λ (g5:Int)=>(n_.cO.length - g5).toNat) ?_ ?_
     ·intro nP g5 XE XF;obtain ⟨TG,FV⟩:=XE;unfold OP;refine wi ?_ ?_<;>intro c11
      ·refine wm<|aG (qI) λ v19 aAk=>?_;subst v19;refine wi ?_ ?_<;>intro c12
       ·exact aC (aQ om (aQ (gV bW om) (aQ (gV jN om) (aQ (gV rG om) (aQ (gV mH om) (aQ om (eT ⟨g5.toNat,om,om⟩)))))))
       refine wn<|XF _ ?_ ?_
       ·(refine ⟨ob,fq FV TG om⟩)
       exact ob
      refine bS (λ (g6:Int)=>1<=g6∧(∀j:Nat,(j:Int)<g6->1<=j->n_.cO.getD (j - 1) 0<n_.cO.getD j 0)) (λ (g6:Int)=>(n_.cO.length - g6).toNat) ?_ ?_
      ·intro jQ g6 Qr LC;obtain ⟨Nt,xU⟩:=Qr;unfold OO;refine wi ?_ ?_<;>intro c13
       ·refine wm<|wn ?_;refine wi ?_ ?_<;>intro c14
        ·exact aC (aQ om (aQ (gV bW om) (aQ (gV jN om) (aQ (gV rG om) (aQ (gV mH om) (aQ om (aQ (gV FV om) (eT ⟨g6.toNat,om,om,by rw [show g6.toNat - 1=(g6 - 1).toNat by omega]; omega⟩))))))))
        refine wn<|LC _ ?_ ?_
        ·(refine ⟨ob,λ j h1 h2=>?_⟩; by_cases q:(j:Int)<g6; (exact xU j q h2); (have e:j=g6.toNat:=by omega); subst e; rw [show g6.toNat - 1=(g6 - 1).toNat by omega]; omega)
        exact ob
       exact aC (aQ om (aQ (gV bW om) (aQ (gV jN om) (aQ (gV rG om) (aQ (gV mH om) (aQ om (aQ (gV FV om) (aQ (I9 xU om) (rfl)))))))))
      (refine ⟨ob,λ j h1 h2=>by omega⟩)
     (refine ⟨ob,λ j hj=>by (try dsimp only at hj); omega⟩)
    (refine ⟨ob,λ j hj=>by (try dsimp only at hj); omega⟩)
   (refine ⟨ob,λ j hj=>by (try dsimp only at hj); omega⟩)
  (refine ⟨ob,λ j hj=>by (try dsimp only at hj); omega⟩)
 (refine ⟨ob,λ j hj=>by (try dsimp only at hj); omega⟩)
theorem acH {x_:aR} (h1:Lx b_) (h2:l_.length<=2000000) (h3:x_.bH.length<=2000000) (h4:x_.cO.length<=2000000):W (K8 b_ l_ x_) (λ r=>NdE b_ x_ l_.length r):=by
 obtain ⟨z1,z2,z3,z4,z5,z6,z7⟩:=h1;unfold K8;refine wi ?_ ?_<;>intro c1
 ·exact aC<|eT om
 refine bS (λ (g1:Int)=>0<=g1∧(∀j:Nat,(j:Int)<g1->Uz b_.bP.length (x_.dx.getD j dN))) (λ (g1:Int)=>(x_.dx.length - g1).toNat) ?_ ?_
 ·intro ah g1 eU dB;obtain ⟨dZ,bW⟩:=eU;unfold Ti;refine wi ?_ ?_<;>intro c2
  ·refine wn<|wi ?_ ?_<;>intro c3
   ·exact aC (aQ om (eT ⟨g1.toNat,om,λ ⟨_,_,_,_,_⟩=>by omega⟩))
   refine wn<|dB _ ?_ ?_
   ·(refine ⟨ob,fq bW dZ ⟨om,om,om,om,om⟩⟩)
   exact ob
  refine bS (λ (g2:Int)=>0<=g2∧(∀j:Nat,(j:Int)<g2->aiz b_.bI.length (x_.fJ.getD j eu))) (λ (g2:Int)=>(x_.fJ.length - g2).toNat) ?_ ?_
  ·intro dY g2 nD rF;obtain ⟨sK,jN⟩:=nD;unfold PE;refine wi ?_ ?_<;>intro c4
   ·refine wn<|wi ?_ ?_<;>intro c5
    ·exact aC (aQ om (aQ (gV bW om) (eT ⟨g2.toNat,om,λ ⟨_,_,_,_,_,_,_⟩=>by omega⟩)))
    refine wn<|rF _ ?_ ?_
    ·(refine ⟨ob,fq jN sK ⟨om,om,om,om,om,om,om⟩⟩)
    exact ob
   refine bS (λ (g3:Int)=>0<=g3∧(∀j:Nat,(j:Int)<g3->Qw (x_.au.getD j ByteArray.empty))) (λ (g3:Int)=>(x_.au.length - g3).toNat) ?_ ?_
   ·intro nE g3 aeS aeT;obtain ⟨Y0,rG⟩:=aeS;unfold PD;refine wi ?_ ?_<;>intro c6
    ·refine wn<|aG (BM) λ v3 hv3=>?_;refine bV ?_ ?_<;>intro c7
     ·have YW:=c7;have c7:=eX c7;exact aC (aQ om (aQ (gV bW om) (aQ (gV jN om) (eT ⟨g3.toNat,om,λ h=>by simp [hv3.2 h] at YW⟩))))
     have YW:=c7;have c7:=eX c7;refine wn<|aeT _ ?_ ?_
     ·(refine ⟨ob,fq rG Y0 (hv3.1 (by simpa using YW))⟩)
     exact ob
    refine bS (λ (g4:Int)=>0<=g4∧(∀j:Nat,(j:Int)<g4->0<=x_.bH.getD j 0∧x_.bH.getD j 0<b_.bH.length)) (λ (g4:Int)=>(x_.bH.length - g4).toNat) ?_ ?_
    ·intro gW g4 I5 Gr;obtain ⟨xS,mH⟩:=I5;unfold Pz;refine wi ?_ ?_<;>intro c8
     ·refine wn<|wi ?_ ?_<;>intro c9
      ·exact aC (aQ om (aQ (gV bW om) (aQ (gV jN om) (aQ (gV rG om) (eT ⟨g4.toNat,om,om⟩)))))
      refine wn<|Gr _ ?_ ?_
      ·(refine ⟨ob,fq mH xS om⟩)
      exact ob
     refine wi ?_ ?_<;>intro c10
     ·exact aC (aQ om (aQ (gV bW om) (aQ (gV jN om) (aQ (gV rG om) (aQ (gV mH om) (eT om))))))
     refine bS (λ (g5:Int)=>0<=g5∧(∀j:Nat,(j:Int)<g5->0<=x_.cO.getD j 0∧x_.cO.getD j 0<(l_.length:Int))) (λ (g5:Int)=>(x_.cO.length - g5).toNat) ?_ ?_
     ·intro nP g5 XE XF;obtain ⟨TG,FV⟩:=XE;unfold Py;refine wi ?_ ?_<;>intro c11
      ·refine wn<|wi ?_ ?_<;>intro c12
       ·exact aC (aQ om (aQ (gV bW om) (aQ (gV jN om) (aQ (gV rG om) (aQ (gV mH om) (aQ om (eT ⟨g5.toNat,om,om⟩)))))))
       refine wn<|XF _ ?_ ?_
       ·(refine ⟨ob,fq FV TG om⟩)
       exact ob
      refine bS (λ (g6:Int)=>1<=g6∧(∀j:Nat,(j:Int)<g6->1<=j->x_.cO.getD (j - 1) 0<x_.cO.getD j 0)) (λ (g6:Int)=>(x_.cO.length - g6).toNat) ?_ ?_
      ·intro jQ g6 Qr LC;obtain ⟨Nt,xU⟩:=Qr;unfold Px;refine wi ?_ ?_<;>intro c13
       ·refine wm<|wn ?_;refine wi ?_ ?_<;>intro c14
        ·exact aC (aQ om (aQ (gV bW om) (aQ (gV jN om) (aQ (gV rG om) (aQ (gV mH om) (aQ om (aQ (gV FV om) (eT ⟨g6.toNat,om,om,by rw [show g6.toNat - 1=(g6 - 1).toNat by omega]; omega⟩))))))))
        refine wn<|LC _ ?_ ?_
        ·(refine ⟨ob,λ j h1 h2=>?_⟩; by_cases q:(j:Int)<g6; (exact xU j q h2); (have e:j=g6.toNat:=by omega); subst e; rw [show g6.toNat - 1=(g6 - 1).toNat by omega]; omega)
        exact ob
       exact aC (aQ om (aQ (gV bW om) (aQ (gV jN om) (aQ (gV rG om) (aQ (gV mH om) (aQ om (aQ (gV FV om) (aQ (I9 xU om) (rfl)))))))))
      (refine ⟨ob,λ j h1 h2=>by omega⟩)
     (refine ⟨ob,λ j hj=>by (try dsimp only at hj); omega⟩)
    (refine ⟨ob,λ j hj=>by (try dsimp only at hj); omega⟩)
   (refine ⟨ob,λ j hj=>by (try dsimp only at hj); omega⟩)
  (refine ⟨ob,λ j hj=>by (try dsimp only at hj); omega⟩)
 (refine ⟨ob,λ j hj=>by (try dsimp only at hj); omega⟩)
theorem TN (h1:Lx b_) (h2:∀g∈b_.aU.aH,g.cu.length<=2000000∧g.au.length<=2000000) (h3:UA l_):W (AO b_ l_) (λ r=>uj b_ l_ r):=by
 obtain ⟨w1,w2⟩:=h3;unfold AO;refine aG (abz h1 h2) λ v1 hv1=>?_;refine wi ?_ ?_<;>intro c1
 ·exact aC<|I7 hv1 c1
 refine wi ?_ ?_<;>intro c2
 ·exact aC<|lq (c1 ▸ hv1) (eT c2)
 refine bS (λ (g1:Int)=>0<=g1∧(∀j:Nat,(j:Int)<g1->NdE b_ (l_.getD j bK) l_.length 0)) (λ (g1:Int)=>(l_.length - g1).toNat) ?_ ?_
 ·intro ah g1 eU dB;obtain ⟨dZ,bW⟩:=eU;unfold SQ;refine wi ?_ ?_<;>intro c3
  ·have hw:=w2 _ (getD_in (i:=g1.toNat) bK om);refine wn<|aG (acG ob ob ob ob ob) λ v4 hv4=>?_;refine wi ?_ ?_<;>intro c4
   ·exact aC<|lq (c1 ▸ hv1) (aQ om (I8 (i:=g1.toNat) om (λ k hk=>bW k om) hv4 c4))
   refine wn<|dB _ ?_ ?_
   ·(refine ⟨ob,fq bW dZ (by rw [c4] at hv4; exact hv4)⟩)
   exact ob
  exact aC<|lq (c1 ▸ hv1) (aQ om (LH λ k hk=>bW k om))
 (refine ⟨ob,λ j hj=>by (try dsimp only at hj); omega⟩)
theorem BN (h1:Lx b_) (h2:∀g∈b_.aU.aH,g.cu.length<=2000000∧g.au.length<=2000000) (h3:UA l_):W (wW b_ l_) (λ r=>uj b_ l_ r):=by
 obtain ⟨w1,w2⟩:=h3;unfold wW;refine aG (abA h1 h2) λ v1 hv1=>?_;refine wi ?_ ?_<;>intro c1
 ·exact aC<|I7 hv1 c1
 refine wi ?_ ?_<;>intro c2
 ·exact aC<|lq (c1 ▸ hv1) (eT c2)
 refine bS (λ (g1:Int)=>0<=g1∧(∀j:Nat,(j:Int)<g1->NdE b_ (l_.getD j bK) l_.length 0)) (λ (g1:Int)=>(l_.length - g1).toNat) ?_ ?_
 ·intro ah g1 eU dB;obtain ⟨dZ,bW⟩:=eU;unfold Tj;refine wi ?_ ?_<;>intro c3
  ·have hw:=w2 _ (getD_in (i:=g1.toNat) bK om);refine wn<|aG (acH ob ob ob ob) λ v4 hv4=>?_;refine wi ?_ ?_<;>intro c4
   ·exact aC<|lq (c1 ▸ hv1) (aQ om (I8 (i:=g1.toNat) om (λ k hk=>bW k om) hv4 c4))
   refine wn<|dB _ ?_ ?_
   ·(refine ⟨ob,fq bW dZ (by rw [c4] at hv4; exact hv4)⟩)
   exact ob
  exact aC<|lq (c1 ▸ hv1) (aQ om (LH λ k hk=>bW k om))
 (refine ⟨ob,λ j hj=>by (try dsimp only at hj); omega⟩)
variable {s_:ig}
theorem QA (h1:acw s_):W (r9 s_) (λ r=>(r=true↔CJ s_.dP s_.aX∧ak5 s_.bQ s_.dP s_.bD)):=by
 obtain ⟨⟨s1,s2,s3,s4,s5,s6,s7⟩,v_,n1,n2,⟨n3,n4⟩,m1,⟨z1,z2,z3,z4,z5,z6⟩⟩:=h1;have hch:∀i,i<s_.bQ.bP.length->(s_.bQ.bP.getD i aL).aO.length<=2000000:=s2;unfold r9;refine aG (UC ob ob) λ v1 hv1=>?_;refine bV ?_ ?_<;>intro c1
 ·have gD:=c1;have c1:=eX c1;refine aC ?_;(constructor; (intro e; cases e); (rintro ⟨a,⟨b1,b2,b3,b4,b5⟩,_⟩; rw [hv1.2 a] at gD; simp only [as0,avB,al4,bne_iff_ne] at gD; omega))
 have gD:=c1;have c1:=eX c1;have hm:=hv1.1 (by simp only [aff] at gD; simpa using gD.1.1.1.1.1);have hl:(s_.bD.Setting.length:Int)=s_.bQ.bP.length:=(by simp only [aff] at gD; simpa using gD.1.1.1.1.2);refine bS (λ (g1:Int)=>0<=g1∧(∀j:Nat,(j:Int)<g1->0<=s_.bD.Setting.getD j 0∧s_.bD.Setting.getD j 0<(s_.bQ.bP.getD j aL).aO.length)) (λ (g1:Int)=>(s_.bQ.bP.length - g1).toNat) ?_ ?_
 ·intro ah g1 eU dB;obtain ⟨dZ,bW⟩:=eU;unfold Ce;refine wi ?_ ?_<;>intro c2
  ·have hq:=hch g1.toNat om;refine wm<|wn ?_;refine aG (qI) λ v4 hv4=>?_;subst v4;refine wi ?_ ?_<;>intro c3
   ·refine aC ?_;(constructor; (intro e; cases e); (rintro ⟨_,_,a,_⟩; have:=a g1.toNat om; omega))
   refine wn<|dB _ ?_ ?_
   ·(refine ⟨ob,fq bW dZ om⟩)
   exact ob
  refine bS (λ (g2:Int)=>0<=g2∧(∀j:Nat,(j:Int)<g2 -> -1<=(s_.bD.Uses.getD j bA).gP∧(s_.bD.Uses.getD j bA).gP<s_.dP.length)) (λ (g2:Int)=>(s_.bD.Uses.length - g2).toNat) ?_ ?_
  ·intro dY g2 nD rF;obtain ⟨sK,jN⟩:=nD;unfold Al;refine wi ?_ ?_<;>intro c4
   ·refine wm<|aG (qI) λ v7 hv7=>?_;subst v7;refine wi ?_ ?_<;>intro c5
    ·refine aC ?_;(constructor; (intro e; cases e); (rintro ⟨_,_,_,a⟩; have:=a g2.toNat om; omega))
    refine wn<|rF _ ?_ ?_
    ·(refine ⟨ob,fq jN sK om⟩)
    exact ob
   refine aC ?_;(constructor; (intro _; exact ⟨hm,⟨om,om,om,om,om⟩,λ i hi=>bW i om,λ i hi=>jN i om⟩); (intro _; rfl))
  (refine ⟨ob,λ j hj=>by (try dsimp only at hj); omega⟩)
 (refine ⟨ob,λ j hj=>by (try dsimp only at hj); omega⟩)
variable {g_:aM}
theorem Zq (h1:Lx b_) (h2:l_.length<=2000000) (h3:Ai g_):W (En b_ l_ g_) (λ r=>r=true↔ak5 b_ l_ g_):=by
 obtain ⟨s1,s2,s3,s4,s5,s6,s7⟩:=h1;obtain ⟨z1,z2,z3,z4,z5,z6⟩:=h3;unfold En;refine wi ?_ ?_<;>intro c1
 ·refine aC ?_;(constructor; (intro e; cases e); (rintro ⟨⟨b1,b2,b3,b4,b5⟩,_⟩; omega))
 refine bS (λ (g1:Int)=>0<=g1∧(∀j:Nat,(j:Int)<g1->0<=g_.Setting.getD j 0∧g_.Setting.getD j 0<(b_.bP.getD j aL).aO.length)) (λ (g1:Int)=>(g_.Setting.length - g1).toNat) ?_ ?_
 ·intro ah g1 eU dB;obtain ⟨dZ,bW⟩:=eU;unfold M7;refine wi ?_ ?_<;>intro c2
  ·refine wm<|wn ?_;refine wi ?_ ?_<;>intro c3
   ·refine aC ?_;(constructor; (intro e; cases e); (rintro ⟨_,a,_⟩; have:=a g1.toNat om; omega))
   refine wn<|dB _ ?_ ?_
   ·(refine ⟨ob,fq bW dZ om⟩)
   exact ob
  refine bS (λ (g2:Int)=>0<=g2∧(∀j:Nat,(j:Int)<g2 -> -1<=(g_.Uses.getD j bA).gP∧(g_.Uses.getD j bA).gP<l_.length)) (λ (g2:Int)=>(g_.Uses.length - g2).toNat) ?_ ?_
  ·intro dY g2 nD rF;obtain ⟨sK,jN⟩:=nD;unfold M6;refine wi ?_ ?_<;>intro c4
   ·refine wm<|wi ?_ ?_<;>intro c5
    ·refine aC ?_;(constructor; (intro e; cases e); (rintro ⟨_,_,a⟩; have:=a g2.toNat om; omega))
    refine wn<|rF _ ?_ ?_
    ·(refine ⟨ob,fq jN sK om⟩)
    exact ob
   refine aC ?_;(constructor; (intro _; exact ⟨⟨om,om,om,om,om⟩,λ i hi=>bW i om,λ i hi=>jN i om⟩); (intro _; rfl))
  (refine ⟨ob,λ j hj=>by (try dsimp only at hj); omega⟩)
 (refine ⟨ob,λ j hj=>by (try dsimp only at hj); omega⟩)
variable {l:azs} {s:azp}
theorem apY (hf:aco l) (hs:kH l s=true) {x:aZ} (h0:0<=x.eO) (h1:x.eO<l.length):abr (Tz l s) x=RV (fU l s) x:=by
 obtain ⟨e1,e2,_,_⟩:=Lp hf hs x.eO.toNat om;unfold abr RV;rw [e1,e2,Bool.not_not]
theorem apZ (hf:aco l) (hs:kH l s=true):ak0 l (Tz l s)=ownB l (fU l s):=by
 unfold ak0 ownB;have:∀i∈List.range l.length,(!anM (Tz l s).1 (Tz l s).2 l i)=(!aiq ((fU l s).getD i dW) (l.getD i aL)):=λ i hi=>by
  obtain ⟨e1,e2,_,_⟩:=Lp hf hs i (by simpa using hi);unfold anM aiq;rw [e1,e2]
 rw [awX,aoI,aoI];exact ⟨λ h i hi=>by rw [<- this i hi]; exact h i hi,λ h i hi=>by rw [this i hi]; exact h i hi⟩
theorem any_congr {l:List α} {p q:α->Bool} (h:∀x∈l,p x=q x):l.any p=l.any q:=by
 rw [awX,aoH,aoH];exact ⟨λ ⟨x,h1,h2⟩=>⟨x,h1,by rw [<- h x h1]; exact h2⟩,λ ⟨x,h1,h2⟩=>⟨x,h1,by rw [h x h1]; exact h2⟩⟩
theorem LM {m:azz} (h1:mF l m=true) (h2:kH l s=true):fH l s m=Qv l s m:=by
 obtain ⟨hck,hml,hmb⟩:=FQ h1;have hf:=sI hck;unfold fH Qv;rw [h1,h2,apZ hf h2,any_congr λ x hx=>apY hf h2 (Qh (Ke h1 x hx)).1.1 (Qh (Ke h1 x hx)).1.2,Bool.and_comm (!_)];rfl
theorem XI {l_:azs} {s_:azp} (h1:l_.length<=2000000) (h2:s_.length<=2000000) (h3:acn l_):W (Bz l_ s_) (λ r=>r=((eD l_==0)&&kH l_ s_)):=by
 unfold Bz;refine aG (BJ ob) λ v1 hv1=>?_;subst v1;refine bV ?_ ?_<;>intro c1
 ·have gD:=c1;have c1:=eX c1;refine aC ?_;(rcases Bool.or_eq_true_iff.1 gD with c | c; (rw [show (eD l_==0)=false by simpa using c]; rfl); (unfold kH; rw [show ((s_.length:Int)==(l_.length:Int))=false by simpa using c]; simp))
 have gD:=c1;have c1:=eX c1;have he:((s_.length:Int)==(l_.length:Int))=true:=(by have:=(aff.1 gD).2; simpa using this);have hc0:(eD l_==0)=true:=(by have:=(aff.1 gD).1; simpa using this);refine bS (λ (g1:Int)=>0<=g1∧g1<=l_.length∧(∀j:Nat,(j:Int)<g1->dS (s_.getD j 0) 0 ((l_.getD j aL).aO.length - 1)=true)) (λ (g1:Int)=>(l_.length - g1).toNat) ?_ ?_
 ·intro ah g1 eU dB;obtain ⟨dZ,bW,bN⟩:=eU;unfold JV;refine wi ?_ ?_<;>intro c2
  ·have hch:=h3 g1.toNat om;refine wm<|wn ?_;refine wi ?_ ?_<;>intro c3
   ·refine aC ?_;(unfold kH; rw [he,tV (i:=g1.toNat) om (by unfold dS; rw [als,decide_eq_false_iff_not,decide_eq_false_iff_not]; omega)]; simp)
   refine wn<|dB _ ?_ ?_
   ·(refine ⟨ob,ob,fq bN dZ (by unfold dS; rw [aei,decide_eq_true_eq,decide_eq_true_eq]; omega)⟩)
   exact ob
  refine aC ?_;(unfold kH; rw [he,hc0,vR λ j hj=>bN j om]; rfl)
 (refine ⟨ob,ob,λ j hj=>by omega⟩)
theorem F6 {l_:azs} {s_:azp} {m_:azz} (h1:l_.length<=2000000) (h2:s_.length<=2000000) (h3:m_.length<=2000000) (h4:acn l_):W (Cy l_ s_ m_) (λ r=>r=fH l_ s_ m_):=by
 unfold Cy;refine aG (XI ob ob ob) λ v1 hv1=>?_;subst v1;refine aG (gM λ hc=>kY (Qs ob ob)) λ v2 hv2=>?_;subst v2;refine bV ?_ ?_<;>intro c1
 ·have gD:=c1;have c1:=eX c1;refine aC ?_;(unfold fH; rcases Bool.or_eq_true_iff.1 gD with c | c; (simp only [ahk,als,beq_eq_false_iff_ne] at c; rcases c with c | c; (rw [show mF l_ m_=false by (unfold mF; rw [show (eD l_==0)=false by simpa using c]; rfl)]; rfl); (rw [c,Bool.and_false]; rfl)); (rw [show mF l_ m_=false by simpa using c]; rfl))
 have gD:=c1;have c1:=eX c1;have hss:kH l_ s_=true:=(by have:=(aff.1 gD).1; simp only [ajz,aei] at this; exact this.2);have hlm:mF l_ m_=true:=(by have:=(aff.1 gD).2; simpa using this);obtain ⟨hck,hml,hmb⟩:=FQ hlm;have hst:=Ru l_ s_ l_.length;refine aG (Qu (Rs (sI hck) hss) (ani (sI hck) hss)) λ v3 hv3=>?_;subst v3;have hs1:(Tz l_ s_).1.length=l_.length:=hst.1;have hs2:(Tz l_ s_).2.length=l_.length:=hst.2;refine bS (λ (g1:Int)=>0<=g1∧g1<=m_.length∧(m_.drop g1.toNat).any (abr (Tz l_ s_))=m_.any (abr (Tz l_ s_))) (λ (g1:Int)=>(m_.length - g1).toNat) ?_ ?_
 ·intro ah g1 eU dB;obtain ⟨dZ,bW,bN⟩:=eU;unfold PU;refine wi ?_ ?_<;>intro c2
  ·have hlt:g1.toNat<m_.length:=om;have hx:=(Qh (Ke hlm _ (getD_in (i:=g1.toNat) dN hlt))).1;rw [drop_cons dN hlt,aua] at bN;refine wm<|wn ?_;refine aG (gM λ hc=>kY (FY)) λ v6 hv6=>?_;subst v6;refine bV ?_ ?_<;>intro c3
   ·have jZ:=c3;have c3:=eX c3;refine aC ?_;(rw [LM hlm hss]; unfold Qv; rw [<- bN,show abr (Tz l_ s_) (m_.getD g1.toNat dN)=true from jZ]; rfl)
   have jZ:=c3;have c3:=eX c3;refine wn<|dB _ ?_ ?_
   ·(refine ⟨ob,ob,?_⟩; rw [<- bN,show abr (Tz l_ s_) (m_.getD g1.toNat dN)=false from jZ,show (g1+1).toNat=g1.toNat+1 by omega]; rfl)
   exact ob
  refine aG (YZ ob ob ob) λ v7 hv7=>?_;subst v7;refine aC ?_;(rw [LM hlm hss]; unfold Qv; rw [<- bN,show g1.toNat=m_.length by omega,aqu]; rfl)
 (refine ⟨ob,ob,rfl⟩)
theorem FZ.v (h:FZ p 0):agU p:=by
 obtain ⟨h1,h2⟩:=vS (by decide) h;obtain ⟨h3,h4⟩:=vS (by decide) h2;have h5:=anS h4;have hg:∀i:Nat,(i:Int)<p.aH.length->GpV p.cu (p.aH.getD i aN)∧∀k:Nat,k<i->(p.aH.getD k aN).yw.toList≠(p.aH.getD i aN).yw.toList:=λ i hi=>by
  obtain ⟨a1,a2⟩:=vS (by decide) (h5 i om);obtain ⟨b1,b2⟩:=vS (by decide) a2;obtain ⟨c1,c2⟩:=vS (by decide) b2;obtain ⟨d1,d2⟩:=vS (by decide) c2;obtain ⟨e1,e2⟩:=vS (by decide) d2;obtain ⟨f1,f2⟩:=vS (by decide) e2;obtain ⟨k1,k2⟩:=vS (by decide) f2;obtain ⟨l1,_⟩:=vS (by decide) k2;refine ⟨⟨⟨om,om,mG 0 λ j hj=>?_⟩,alN.1 a1,λ k hk hl=>?_,λ j hj=>?_,λ k j hj hk e=>l1 ⟨k,j,hj,hk,e⟩⟩,λ k hk e=>b1 ⟨k,hk,e⟩⟩
  ·exact asj λ q=>e1 ⟨j,om,q⟩
  ·exact asj λ q=>f1 ⟨k,hk,hl,om⟩
  exact asj λ q=>k1 ⟨j,hj,q⟩
 exact ⟨⟨om,om,mG aN λ i hi=>(hg i om).1.ok⟩,λ i hi=>(hg i hi).1,λ i k hk hi=>(hg i hi).2 k hk⟩
def asv (p:bR) (l:azI) (i:Nat):Prop:=Qq p (l.getD i fM)∧(∀k:Nat,k<i->(l.getD k fM).bT≠(l.getD i fM).bT)∧
 ∀k:Nat,k<i->∀a b:Nat,(a:Int)<(p.aH.getD (l.getD k fM).bT.toNat aN).cu.length->(b:Int)<(p.aH.getD (l.getD i fM).bT.toNat aN).cu.length->(p.aH.getD (l.getD k fM).bT.toNat aN).cu.getD a 0≠(p.aH.getD (l.getD i fM).bT.toNat aN).cu.getD b 0
def EC (p:bR) (l:azI):Prop:=∀i:Nat,(i:Int)<l.length->asv p l i
theorem abB {l_:azI} (h1:∀g∈p_.aH,g.cu.length<=2000000∧g.au.length<=2000000) (h2:l_.length<=2000000):W (GY p_ l_) (λ r=>(r.2=0↔FZ p_ 0∧EC p_ l_)):=by
 unfold GY;refine bS (λ (g1:(Int×(Nat->Int)×(Nat->Int)))=>0<=g1.1∧(∀x:Nat,(x:Int)<g1.1->g1.2.2 x = -1)) (λ (g1:(Int×(Nat->Int)×(Nat->Int)))=>(64 - g1.1).toNat) ?_ ?_
 ·intro ah g1 eU dB;obtain ⟨dZ,bW⟩:=eU;unfold O5;refine wi ?_ ?_<;>intro c1
  ·refine wm<|dB _ ?_ ?_
   ·(refine ⟨ob,λ x hx=>?_⟩; dsimp only at hx ⊢; by_cases q:x=g1.1.toNat; (rw [q,Oz]); (rw [upd_ne q]; exact bW x om))
   exact ob
  refine aG (TM h1) λ v1 hv1=>?_;refine wi ?_ ?_<;>intro c2
  ·refine aC ?_;(refine ⟨λ e=>by (try dsimp only at e); omega,λ ⟨a,_⟩=>absurd (FZ.fun _ _ hv1 a) c2⟩)
  have hpa:FZ p_ 0:=(by rw [c2] at hv1; exact hv1);have hpv:=hpa.v;obtain ⟨⟨p1,p2,p3⟩,gr,nm⟩:=id hpv;refine wn<|bS (λ (g2:(Int×(Nat->Int)×azq))=>0<=g2.1∧g2.2.2.length=p_.aH.length∧(∀x:Nat,x<64->(0<=g2.2.1 x↔∃j:Nat,(j:Int)<g2.1∧∃k:Nat,(k:Int)<(p_.aH.getD (l_.getD j fM).bT.toNat aN).cu.length∧(p_.aH.getD (l_.getD j fM).bT.toNat aN).cu.getD k 0=x))∧(∀x:Nat,g2.2.2.getD x false=true↔∃j:Nat,(j:Int)<g2.1∧(l_.getD j fM).bT=x)∧(∀i:Nat,(i:Int)<g2.1->asv p_ l_ i)) (λ (g2:(Int×(Nat->Int)×azq))=>(l_.length - g2.1).toNat) ?_ ?_
  ·intro dY g2 nD rF;obtain ⟨sK,jN,nk,DV,TP⟩:=nD;unfold Mv;refine wi ?_ ?_<;>intro c3
   ·refine wm<|wi ?_ ?_<;>intro c4
    ·refine aC ?_;(refine ⟨λ e=>by (try dsimp only at e); omega,λ ⟨_,h⟩=>?_⟩; obtain ⟨⟨u1,u2,u3,u4⟩,_⟩:=h g2.1.toNat om; omega)
    have hu:Qq p_ (l_.getD g2.1.toNat fM):=⟨om,om,om,om⟩;obtain ⟨u1,u2,u3,u4⟩:=id hu;refine wn<|bV ?_ ?_<;>intro c5
    ·have Di:=c5;have c5:=eX c5;refine aC ?_;(refine ⟨λ e=>by (try dsimp only at e); omega,λ ⟨_,h⟩=>?_⟩; obtain ⟨_,hd,_⟩:=h g2.1.toNat om; obtain ⟨j,e3,e4⟩:=(DV _).1 Di; exact absurd e4 (λ e4=>hd j om om))
    have Di:=c5;have c5:=eX c5;refine wm<|bS (λ (g5:(Int×(Nat->Int)×azq))=>0<=g5.1∧g5.1<=(p_.aH.getD (l_.getD g2.1.toNat fM).bT.toNat aN).cu.length∧g5.2.2.length=p_.aH.length∧(∀x:Nat,x<64->(0<=g5.2.1 x↔(∃j:Nat,(j:Int)<g2.1∧∃k:Nat,(k:Int)<(p_.aH.getD (l_.getD j fM).bT.toNat aN).cu.length∧(p_.aH.getD (l_.getD j fM).bT.toNat aN).cu.getD k 0=x)∨∃k:Nat,(k:Int)<g5.1∧(p_.aH.getD (l_.getD g2.1.toNat fM).bT.toNat aN).cu.getD k 0=x))∧(∀x:Nat,g5.2.2.getD x false=true↔∃j:Nat,(j:Int)<g2.1+1∧(l_.getD j fM).bT=x)∧(∀b:Nat,(b:Int)<g5.1->∀j:Nat,(j:Int)<g2.1->∀a:Nat,(a:Int)<(p_.aH.getD (l_.getD j fM).bT.toNat aN).cu.length->(p_.aH.getD (l_.getD j fM).bT.toNat aN).cu.getD a 0≠(p_.aH.getD (l_.getD g2.1.toNat fM).bT.toNat aN).cu.getD b 0)) (λ (g5:(Int×(Nat->Int)×azq))=>((p_.aH.getD (l_.getD g2.1.toNat fM).bT.toNat aN).cu.length - g5.1).toNat) ?_ ?_
    ·intro nP g5 XE XF;obtain ⟨TG,FV,Ns,abC,agV,aqJ⟩:=XE;unfold Ms;refine wi ?_ ?_<;>intro c6
     ·have hmg:=getD_in (l:=p_.aH) (i:=(l_.getD g2.1.toNat fM).bT.toNat) aN om;have hgl:=(h1 _ hmg).1;have hpn:=(p3 _ hmg).pn _ (getD_in (i:=g5.1.toNat) 0 om);refine wm<|wi ?_ ?_<;>intro c7
      ·refine aC ?_;(refine ⟨λ e=>by (try dsimp only at e); omega,λ ⟨_,h⟩=>?_⟩; obtain ⟨_,_,hd⟩:=h g2.1.toNat om; exfalso; rcases (abC _ om).1 c7 with ⟨j,e3,k,e5,e6⟩ | ⟨k,e5,e6⟩; (exact hd j om k g5.1.toNat e5 om (by rw [e6]; omega)); (have:=V4 hpv u1 u2 k g5.1.toNat om om; omega))
      refine wm<|XF _ ?_ ?_
      ·(refine ⟨ob,ob,ob,λ x hx=>?_,agV,λ b hb j hj a ha=>?_⟩; (dsimp only; by_cases q:x=((p_.aH.getD (l_.getD g2.1.toNat fM).bT.toNat aN).cu.getD g5.1.toNat 0).toNat; (rw [q,Oz]; constructor; (intro _; exact .inr ⟨g5.1.toNat,om,om⟩); (intro _; omega)); (rw [upd_ne q,abC x hx]; constructor; (rintro (h | ⟨k,e5,e6⟩); (exact .inl h); (exact .inr ⟨k,om,e6⟩)); (rintro (h | ⟨k,e5,e6⟩); (exact .inl h); (refine .inr ⟨k,?_,e6⟩; by_cases e:(k:Int)<g5.1; (exact e); exfalso; apply q; rw [show g5.1.toNat=k by omega]; omega)))); (by_cases q:(b:Int)<g5.1; (exact aqJ b q j hj a ha); (have e:b=g5.1.toNat:=by (try dsimp only at hb); omega); subst e; intro e7; have e8:=(abC ((p_.aH.getD (l_.getD g2.1.toNat fM).bT.toNat aN).cu.getD g5.1.toNat 0).toNat om).2 (.inl ⟨j,hj,a,ha,by rw [e7]; omega⟩); omega))
      exact ob
     refine wn<|rF _ ?_ ?_
     ·(refine ⟨ob,Ns,λ x hx=>?_,λ x=>agV x,fq TP sK ⟨hu,λ k hk e=>?_,λ k hk a b ha hb=>aqJ b om k om a ha⟩⟩; (dsimp only; rw [abC x hx]; constructor; (rintro (⟨j,e3,e⟩ | ⟨k,e5,e6⟩); (exact ⟨j,om,e⟩); (exact ⟨g2.1.toNat,om,k,om,e6⟩)); (rintro ⟨j,e3,k,e5,e6⟩; by_cases q:(j:Int)<g2.1; (exact .inl ⟨j,q,k,e5,e6⟩); (have e:j=g2.1.toNat:=by omega); subst e; exact .inr ⟨k,om,e6⟩)); (rw [(DV _).2 ⟨k,om,om⟩] at c5; cases c5))
     exact ob
    (refine ⟨ob,ob,ob,λ x hx=>⟨λ h=>.inl ((nk x hx).1 h),?_⟩,λ x=>?_,λ b hb=>?_⟩; (rintro (h | ⟨k,e5,_⟩); (exact (nk x hx).2 h); (exfalso; (try dsimp only at e5); omega)); (dsimp only; by_cases q:x=(l_.getD g2.1.toNat fM).bT.toNat; (rw [q,VZ om]; exact ⟨λ _=>⟨g2.1.toNat,om,om⟩,λ _=>rfl⟩); (rw [BL q,DV]; constructor; (rintro ⟨j,e3,e4⟩; exact ⟨j,om,e4⟩); (rintro ⟨j,e3,e4⟩; refine ⟨j,?_,e4⟩; by_cases e:(j:Int)<g2.1; (exact e); exfalso; apply q; rw [show g2.1.toNat=j by omega]; omega))); (exfalso; (try dsimp only at hb); omega))
   refine aC ?_;(refine ⟨λ _=>⟨hpa,λ i hi=>TP i om⟩,λ _=>rfl⟩)
  (refine ⟨ob,by simp,λ x hx=>⟨λ h=>?_,λ ⟨j,e,_⟩=>?_⟩,λ x=>⟨λ hx=>?_,λ ⟨j,e,_⟩=>?_⟩,λ j hj=>?_⟩; (exfalso; have:=bW x om; (try dsimp only at h); omega); (exfalso; (try dsimp only at e); omega); (exfalso; dsimp only at hx; rw [adF,auV] at hx; split at hx<;>simp at hx); (exfalso; (try dsimp only at e); omega); (exfalso; (try dsimp only at hj); omega))
 (refine ⟨ob,λ j hj=>by (try dsimp only at hj); omega⟩)
structure NdV (b:aV) (k:Int) (n:aR):Prop where
 ok:ash b n
 fw:∀j:Nat,(j:Int)<n.au.length->Qw (n.au.getD j ByteArray.empty)
 pr:∀x∈n.cO,0<=x∧x<k
 ps:∀k:Nat,1<=k->(k:Int)<n.cO.length->n.cO.getD (k - 1) 0<n.cO.getD k 0
def aw5 (l:azp):Prop:=∀k j:Nat,j<k->(k:Int)<l.length->l.getD j 0≠l.getD k 0
def nmU (p:bR) (u:mW):ByteArray:=((p.aH.getD u.bT.toNat aN).au.getD u.dJ.toNat ByteArray.empty)
def QB (p:bR) (us:azw) (m:Int) (f:ByteArray):Nat:=us.countP λ u=>(u.gP==m)&&decide (nmU p u.gZ=f)
def cntF (l:azB) (f:ByteArray):Nat:=l.countP λ x=>decide (x=f)
variable {f:ByteArray}
theorem Ry {us:azw} {u:aJ} {m:Int} :QB p (us++[u]) m f=QB p us m f+(if u.gP=m∧nmU p u.gZ=f then 1 else 0):=by
 unfold QB;rw [asZ,ayL];congr 1;simp only [aei,beq_iff_eq,decide_eq_true_eq]
theorem Rz {l:azB} {x:ByteArray} :cntF (l++[x]) f=cntF l f+(if x=f then 1 else 0):=by
 unfold cntF;rw [asZ,ayL];congr 1;simp only [decide_eq_true_eq]
theorem ak6 {l:azB} (k:Nat):cntF (l.take k) f<=cntF l f:=by
 unfold cntF;conv=>rhs; rw [<- List.take_append_drop k l]
 rw [asZ]; omega
theorem abD (h1:eD l=0) (h2:kH l s=true):(wZ l s).2=0:=by
 unfold wZ;rw [h1,h2]; rfl
def aul (r:bU) (x:aZ):Prop:=r.j5≠0∧r.j5<=x.fI*r.jD∧x.lC*r.jD<=r.j5
structure aAl (s:ig):Prop where
 sc:acw s
 sh:aiA s
 bv:BdV s.bQ
 dst:aw5 s.aX
 st:∀i:Nat,(i:Int)<s.bQ.bP.length->0<=s.bD.Setting.getD i 0∧s.bD.Setting.getD i 0<(s.bQ.bP.getD i aL).aO.length
 us:∀u∈s.bD.Uses,-1<=u.gP∧u.gP<s.dP.length
 sb:kH s.bQ.bP s.bD.Setting=true
 mt:fH s.bQ.bP s.bD.Setting []=true
 lm:∀m∈s.aX,∀x∈(s.dP.getD m.toNat bK).dx,aul ((fU s.bQ.bP s.bD.Setting).getD x.eO.toNat dW) x
 dr:Sp.fH s.bQ.bI s.bD.bB (s.aX.flatMap λ m=>(s.dP.getD m.toNat bK).fJ)=true
 pn:UsV s.bQ.aU (s.bD.Uses.map aJ.gZ)
 fn:∀m∈s.aX,∀f,cntF (s.dP.getD m.toNat bK).au f<=QB s.bQ.aU s.bD.Uses m f
 rs:asn s.bQ.bH s.bD.Released
 rl:∀m∈s.aX,∀x∈(s.dP.getD m.toNat bK).bH,s.bD.Released.getD x.toNat false=true
 dm:aso s.bQ.bX s.bD.aY
 dl:∀m∈s.aX,0<=(s.dP.getD m.toNat bK).fV->s.bD.aY.getD (s.dP.getD m.toNat bK).fV.toNat false=true
theorem adu {r:bU} (hv:oD r=true) (h:pE r=false):r.j5≠0:=by
 intro e;obtain ⟨_,_,h3,_,h5⟩:=mD hv;rw [e] at h5;unfold jH at h5;rw [show (0:Int).toNat=0 from rfl,Nat.gcd_zero_left] at h5;have:r.jD=1:=by omega
 unfold pE at h;rw [e,this] at h;cases h
theorem aiH {r:bU} {lo hi:Int} (h:sH r lo hi=true):lo*r.jD<=r.j5∧r.j5<=hi*r.jD:=by
 unfold sH at h;simp only [aei,al4,decide_eq_true_eq,beq_iff_eq] at h;obtain ⟨hv,h1,h2⟩:=h;obtain ⟨n0,_,d1,_,_⟩:=mD hv;have e:=Int.mul_tdiv_add_tmod r.j5 r.jD;have m0:=auj r.jD n0;have m1:=Int.tmod_lt_of_pos r.j5 (show 0<r.jD by omega);have e2:r.jD*r.j5.tdiv r.jD=r.j5.tdiv r.jD*r.jD:=Int.mul_comm _ _;have l1:lo*r.jD<=r.j5.tdiv r.jD*r.jD:=at5 h1 om;refine ⟨om,?_⟩;rcases h2 with h2 | ⟨h2,h3⟩
 ·have l2:(r.j5.tdiv r.jD+1)*r.jD<=hi*r.jD:=at5 h2 om;rw [Int.add_mul,Int.one_mul] at l2;omega
 rw [<- h2]; omega
theorem uU {β:Type} {f:α->β} {l:List α} {k:Nat} {d:α} {e:β} (h:k<l.length):(l.map f).getD k e=f (l.getD k d):=by
 rw [adF,au3,adF,adH h]; rfl
theorem ajF {l:List α} {v d:α} (hj:j<l.length):(l.set j v).getD j d=v:=by
 rw [adF,aqI hj]; rfl
theorem ajG {l:List α} {v d:α} (h:i≠j):(l.set j v).getD i d=l.getD i d:=by
 rw [adF,auM (Ne.symm h),<- adF]
theorem aeU {r:bU} (h:r.j5≠0):pE r=false:=by
 unfold pE;rw [show (r.j5==0)=false by simpa using h]; rfl
theorem abE {r:bU} {lo hi:Int} (hv:oD r=true) (h1:lo*r.jD<=r.j5) (h2:r.j5<=hi*r.jD):sH r lo hi=true:=by
 unfold sH;obtain ⟨n0,_,d1,_,_⟩:=mD hv;have e:=Int.mul_tdiv_add_tmod r.j5 r.jD;have m0:=auj r.jD n0;have m1:=Int.tmod_lt_of_pos r.j5 (show 0<r.jD by omega);have e2:r.jD*r.j5.tdiv r.jD=r.j5.tdiv r.jD*r.jD:=Int.mul_comm _ _;simp only [aei,al4,decide_eq_true_eq,beq_iff_eq];have q1:lo<=r.j5.tdiv r.jD:=by
  refine atQ.1 λ h=>?_;have:(r.j5.tdiv r.jD+1)*r.jD<=lo*r.jD:=at5 h om;rw [Int.add_mul,Int.one_mul] at this;omega
 have q2:r.j5.tdiv r.jD<=hi:=by
  refine atQ.1 λ h=>?_;have:(hi+1)*r.jD<=r.j5.tdiv r.jD*r.jD:=at5 h om;rw [Int.add_mul,Int.one_mul] at this;omega
 refine ⟨hv,q1,?_⟩;by_cases q:r.j5.tdiv r.jD<hi
 ·exact .inl q
 have:r.j5.tdiv r.jD=hi:=by omega
 refine .inr ⟨this,?_⟩;rw [this] at e e2;omega
theorem RA (h:fH l s []=true):eD l=0∧kH l s=true∧ownB l (fU l s)=true:=by
 unfold fH at h;simp only [aei] at h;exact ⟨(FQ h.1.1).1,h.1.2,h.2.1⟩
def anU (r:bU) (x:aZ) (bt:Bool):Prop:=r.j5≠0∧r.j5<=x.fI*r.jD∧(bt=false->x.lC*r.jD<=r.j5)
theorem adv {k lo hi:Int} (h:fH l s []=true) (k0:0<=k) (k1:k<l.length) (h0:0<=lo) (h1:lo<=hi) (h2:hi<=4000000000):
  fH l s [⟨k,lo,hi⟩]=true↔((fU l s).getD k.toNat dW).j5≠0∧((fU l s).getD k.toNat dW).j5<=hi*((fU l s).getD k.toNat dW).jD∧lo*((fU l s).getD k.toNat dW).jD<=((fU l s).getD k.toNat dW).j5:=by
 obtain ⟨c1,c2,c3⟩:=RA h;have hv:=(Lp (sI c1) c2 k.toNat om).2.2.1;have hb:Ka (l.length:Int) ⟨k,lo,hi⟩=false:=by
  unfold Ka dS;simp only [aff,ajz,aei,decide_eq_true_eq];omega
 have hl:mF l [⟨k,lo,hi⟩]=true:=by
  unfold mF;rw [c1,show List.any [(⟨k,lo,hi⟩:aZ)] (Ka l.length)=false by rw [aua,hb]; rfl]; rfl
 unfold fH;rw [hl,c2,c3];simp only [aq0,aua,List.any_nil,ayC,ahk];unfold RV;dsimp only;constructor
 ·intro e;rw [aff,ajz] at e;obtain ⟨w1,w2⟩:=aiH e.2;exact ⟨adu hv e.1,w2,w1⟩
 rintro ⟨a1,a2,a3⟩;rw [aeU a1,abE hv a3 a2]; rfl
def ak7 (b:aV) (g:aM) (n:aR) (bt:Bool):Prop:=∀j:Nat,(j:Int)<n.dx.length->anU ((fU b.bP g.Setting).getD (n.dx.getD j dN).eO.toNat dW) (n.dx.getD j dN) bt
def ak8 (b:aV) (g:aM) (n:aR) (d:Int):Prop:=∀f:ByteArray,cntF n.au f<=QB b.aU g.Uses d f
def anV (g:aM) (n:aR):Prop:=∀j:Nat,(j:Int)<n.bH.length->g.Released.getD (n.bH.getD j 0).toNat false=true
def anW (g:aM) (n:aR):Prop:=0<=n.fV->g.aY.getD n.fV.toNat false=true
def drM (l:azu) (ms:azp):azy:=ms.flatMap λ m=>(l.getD m.toNat bK).fJ
theorem lI {b:Bool} {P:Prop} (h:b=true↔P) (c:b=false):¬P:=λ p=>by rw [h.2 p] at c; cases c
theorem abF {l_:azI} (h1:∀g∈p_.aH,g.cu.length<=2000000∧g.au.length<=2000000) (h2:l_.length<=2000000):W (GZ p_ l_) (λ r=>(r.2=0↔FZ p_ 0∧EC p_ l_)):=by
 unfold GZ;refine aG (abB ob ob) λ v1 hv1=>?_;refine wi ?_ ?_<;>intro c1
 ·exact aC (⟨λ e=>absurd e c1,λ h=>absurd (hv1.2 h) c1⟩)
 obtain ⟨p1,_,_⟩:=(hv1.1 c1).1.v.ok;unfold E9;refine wn<|aG (NR (by simp only [alg,ayq]; omega) om) λ v2 hv2=>?_;subst v2;exact aC (⟨λ _=>hv1.1 c1,λ _=>rfl⟩)
theorem Zr {l_:azI} (h1:∀g∈p_.aH,g.cu.length<=2000000∧g.au.length<=2000000) (h2:l_.length<=2000000):W (Ep p_ l_) (λ r=>(r.2=0↔FZ p_ 0∧EC p_ l_)):=by
 unfold Ep;refine aG (F3 h1) λ v1 hv1=>?_;refine wi ?_ ?_<;>intro c1
 ·refine aC ?_;(refine ⟨λ e=>by (try dsimp only at e); omega,λ ⟨a,_⟩=>absurd (FZ.fun _ _ hv1 a) c1⟩)
 have hpa:FZ p_ 0:=(by rw [c1] at hv1; exact hv1);have hpv:=hpa.v;obtain ⟨⟨p1,p2,p3⟩,gr,nm⟩:=id hpv;refine wn<|bS (λ (g1:Int×azp)=>0<=g1.1∧g1.2.length=p_.cu.toNat∧(∀x:Nat,(x:Int)<g1.1->g1.2.getD x 0 = -1)) (λ (g1:Int×azp)=>(p_.cu - g1.1).toNat) ?_ ?_
 ·intro ah g1 eU dB;obtain ⟨dZ,bW,bN⟩:=eU;unfold Na;refine wi ?_ ?_<;>intro c2
  ·refine wm<|dB _ ?_ ?_
   ·(refine ⟨ob,by simp only [ahl]; exact bW,λ x hx=>?_⟩; dsimp only at hx ⊢; by_cases q:x=g1.1.toNat; (rw [q,ajF om]); (rw [ajG q]; exact bN x om))
   exact ob
  refine bS (λ (g2:Int×azp)=>0<=g2.1∧g2.2.length=p_.cu.toNat∧(∀x:Nat,(x:Int)<p_.cu->(g2.2.getD x 0 ≠ -1↔∃j:Nat,(j:Int)<g2.1∧∃k:Nat,(k:Int)<(p_.aH.getD (l_.getD j fM).bT.toNat aN).cu.length∧(p_.aH.getD (l_.getD j fM).bT.toNat aN).cu.getD k 0=x))∧(∀i:Nat,(i:Int)<g2.1->asv p_ l_ i)) (λ (g2:Int×azp)=>(l_.length - g2.1).toNat) ?_ ?_
  ·intro dY g2 nD rF;obtain ⟨sK,jN,nk,DV⟩:=nD;unfold M9;refine wi ?_ ?_<;>intro c3
   ·refine wm<|wm ?_;refine wi ?_ ?_<;>intro c4
    ·refine aC ?_;(refine ⟨λ e=>by (try dsimp only at e); omega,λ ⟨_,h⟩=>?_⟩; obtain ⟨⟨u1,u2,u3,u4⟩,_⟩:=h g2.1.toNat om; omega)
    have hu:Qq p_ (l_.getD g2.1.toNat fM):=⟨om,om,om,om⟩;obtain ⟨u1,u2,u3,u4⟩:=id hu;refine bS (λ (g7:Int)=>0<=g7∧(∀k:Nat,(k:Int)<g7->(l_.getD k fM).bT≠(l_.getD g2.1.toNat fM).bT)) (λ (g7:Int)=>(g2.1 - g7).toNat) ?_ ?_
    ·intro oJ g7 abw Zl;obtain ⟨abx,DW⟩:=abw;unfold JX;refine wi ?_ ?_<;>intro c5
     ·refine wn<|wi ?_ ?_<;>intro c6
      ·refine aC ?_;(refine ⟨λ e=>by (try dsimp only at e); omega,λ ⟨_,h⟩=>?_⟩; obtain ⟨_,hd,_⟩:=h g2.1.toNat om; exact absurd c6 (hd g7.toNat om))
      refine wn<|Zl _ ?_ ?_
      ·(refine ⟨ob,fq DW abx c6⟩)
      exact ob
     refine wn<|bS (λ (g8:Int×azp)=>0<=g8.1∧g8.1<=(p_.aH.getD (l_.getD g2.1.toNat fM).bT.toNat aN).cu.length∧g8.2.length=p_.cu.toNat∧(∀x:Nat,(x:Int)<p_.cu->(g8.2.getD x 0 ≠ -1↔(∃j:Nat,(j:Int)<g2.1∧∃k:Nat,(k:Int)<(p_.aH.getD (l_.getD j fM).bT.toNat aN).cu.length∧(p_.aH.getD (l_.getD j fM).bT.toNat aN).cu.getD k 0=x)∨∃k:Nat,(k:Int)<g8.1∧(p_.aH.getD (l_.getD g2.1.toNat fM).bT.toNat aN).cu.getD k 0=x))∧(∀b:Nat,(b:Int)<g8.1->∀j:Nat,(j:Int)<g2.1->∀a:Nat,(a:Int)<(p_.aH.getD (l_.getD j fM).bT.toNat aN).cu.length->(p_.aH.getD (l_.getD j fM).bT.toNat aN).cu.getD a 0≠(p_.aH.getD (l_.getD g2.1.toNat fM).bT.toNat aN).cu.getD b 0)) (λ (g8:Int×azp)=>((p_.aH.getD (l_.getD g2.1.toNat fM).bT.toNat aN).cu.length - g8.1).toNat) ?_ ?_
     ·intro aa6 g8 asr asu;obtain ⟨aqG,anR,aqK,ajH,aqL⟩:=asr;unfold JW;refine wi ?_ ?_<;>intro c7
      ·have hmg:=getD_in (l:=p_.aH) (i:=(l_.getD g2.1.toNat fM).bT.toNat) aN om;have hgl:=(h1 _ hmg).1;have hpn:=(p3 _ hmg).pn _ (getD_in (i:=g8.1.toNat) 0 om);refine wm<|wi ?_ ?_<;>intro c8
       ·refine aC ?_;(refine ⟨λ e=>by (try dsimp only at e); omega,λ ⟨_,h⟩=>?_⟩; obtain ⟨_,_,hd⟩:=h g2.1.toNat om; exfalso; rcases (ajH ((p_.aH.getD (l_.getD g2.1.toNat fM).bT.toNat aN).cu.getD g8.1.toNat 0).toNat om).1 c8 with ⟨j,e3,k,e5,e6⟩ | ⟨k,e5,e6⟩; (exact hd j om k g8.1.toNat e5 om (by rw [e6]; omega)); (have:=V4 hpv u1 u2 k g8.1.toNat om om; omega))
       refine wm<|asu _ ?_ ?_
       ·(refine ⟨ob,ob,by simp only [ahl]; exact aqK,λ x hx=>?_,λ b hb j hj a ha=>?_⟩; (dsimp only; by_cases q:x=((p_.aH.getD (l_.getD g2.1.toNat fM).bT.toNat aN).cu.getD g8.1.toNat 0).toNat; (rw [q,ajF om]; constructor; (intro _; exact .inr ⟨g8.1.toNat,om,om⟩); (intro _; omega)); (rw [ajG q,ajH x hx]; constructor; (rintro (h | ⟨k,e5,e6⟩); (exact .inl h); (exact .inr ⟨k,om,e6⟩)); (rintro (h | ⟨k,e5,e6⟩); (exact .inl h); (refine .inr ⟨k,?_,e6⟩; by_cases e:(k:Int)<g8.1; (exact e); exfalso; apply q; rw [show g8.1.toNat=k by omega]; omega)))); (by_cases q:(b:Int)<g8.1; (exact aqL b q j hj a ha); (have e:b=g8.1.toNat:=by (try dsimp only at hb); omega); subst e; intro e7; have e8:=(ajH ((p_.aH.getD (l_.getD g2.1.toNat fM).bT.toNat aN).cu.getD g8.1.toNat 0).toNat om).2 (.inl ⟨j,hj,a,ha,by rw [e7]; omega⟩); omega))
       exact ob
      refine wn<|rF _ ?_ ?_
      ·(refine ⟨ob,aqK,λ x hx=>?_,fq DV sK ⟨hu,λ k hk e=>DW k om e,λ k hk a b ha hb=>aqL b om k om a ha⟩⟩; dsimp only; rw [ajH x hx]; constructor; (rintro (⟨j,e3,e⟩ | ⟨k,e5,e6⟩); (exact ⟨j,om,e⟩); (exact ⟨g2.1.toNat,om,k,om,e6⟩)); (rintro ⟨j,e3,k,e5,e6⟩; by_cases q:(j:Int)<g2.1; (exact .inl ⟨j,q,k,e5,e6⟩); (have e:j=g2.1.toNat:=by omega); subst e; exact .inr ⟨k,om,e6⟩))
      exact ob
     (refine ⟨ob,ob,ob,λ x hx=>⟨λ h=>.inl ((nk x hx).1 h),?_⟩,λ b hb=>?_⟩; (rintro (h | ⟨k,e5,_⟩); (exact (nk x hx).2 h); (exfalso; (try dsimp only at e5); omega)); (exfalso; (try dsimp only at hb); omega))
    (refine ⟨ob,λ j hj=>by (try dsimp only at hj); omega⟩)
   refine aC ?_;(refine ⟨λ _=>⟨hpa,λ i hi=>DV i om⟩,λ _=>rfl⟩)
  (refine ⟨ob,om,λ x hx=>⟨λ h=>?_,λ ⟨j,e,_⟩=>?_⟩,λ j hj=>?_⟩; (exact absurd (bN x om) h); (exfalso; (try dsimp only at e); omega); (exfalso; (try dsimp only at hj); omega))
 (refine ⟨ob,by simp,λ x hx=>by dsimp only at hx; omega⟩)
theorem acI {l_:azw} (h1:l_.length<=2000000):W (Lg l_) (λ r=>r=l_.map aJ.gZ):=by
 unfold Lg;refine bS (λ (g1:Int×azI)=>0<=g1.1∧g1.1<=l_.length∧g1.2=(l_.take g1.1.toNat).map aJ.gZ) (λ (g1:Int×azI)=>(l_.length - g1.1).toNat) ?_ ?_
 ·intro ah g1 eU dB;obtain ⟨dZ,bW,bN⟩:=eU;unfold Tt;have hgl:g1.2.length=g1.1.toNat:=(by rw [bN,alg,ahj]; omega);refine wi ?_ ?_<;>intro c1
  ·refine wm<|wn ?_;refine dB _ ?_ ?_
   ·(refine ⟨ob,ob,?_⟩; dsimp only; rw [show (g1.1+1).toNat=g1.1.toNat+1 by omega,iM bA om,as4,bN]; rfl)
   exact ob
  refine aC ?_;(rw [bN,show g1.1.toNat=l_.length by omega,alj])
 (refine ⟨ob,ob,rfl⟩)
def fnG (l:azB) (j:Nat):ByteArray:=l.getD j ByteArray.empty
theorem anX {l:azB} (h:0<cntF l f):∃j:Nat,(j:Int)<l.length∧fnG l j=f:=by
 unfold cntF at h;obtain ⟨x,hx,e⟩:=List.countP_pos_iff.1 h;obtain ⟨j,hj,rfl⟩:=aln.1 hx;exact ⟨j,om,by unfold fnG; rw [adF,adH hj]; simpa using e⟩
theorem aeV {l:azp} {p:Int->Bool}:l.any p=false↔∀j:Nat,(j:Int)<l.length->p (l.getD j 0)=false:=by
 rw [aml];constructor
 ·intro h j hj;have:=h _ (getD_in (i:=j) 0 om);simpa using this
 intro h;have:∀x∈l,p x=false:=mG 0 λ j hj=>h j om;intro x hx;rw [this x hx]; decide
theorem NS (h1:acw s_):W (qA s_) (λ r=>r=fH s_.bQ.bP s_.bD.Setting []):=by
 obtain ⟨⟨s1,s2,s3,s4,s5,s6,s7⟩,vl_,n1,n2,⟨n3,n4⟩,m1,⟨z1,z2,z3,z4,z5,z6⟩⟩:=h1;unfold qA;refine aG (acu ob ob ob ob) λ v1 hv1=>?_;subst v1;refine aC ?_;rfl
theorem NT (h1:acw s_) (h2:aiA s_) (h3:fH s_.bQ.bP s_.bD.Setting []=true):W (qB s_) (λ r=>r=true↔∀i:Nat,(i:Int)<s_.aX.length->ak7 s_.bQ s_.bD (s_.dP.getD (s_.aX.getD i 0).toNat bK) s_.kr):=by
 obtain ⟨⟨s1,s2,s3,s4,s5,s6,s7⟩,vl_,n1,n2,⟨n3,n4⟩,m1,⟨z1,z2,z3,z4,z5,z6⟩⟩:=h1;obtain ⟨y1,y2,y3,y4,y5,y6⟩:=h2;obtain ⟨k1,k2,k3⟩:=RA h3;unfold qB;refine aG (TB ob ob ob) λ v1 hv1=>?_;subst v1;refine bV ?_ ?_<;>intro c1
 ·have gD:=c1;have c1:=eX c1;exact aC (absurd (abD k1 k2) c1)
 have gD:=c1;have c1:=eX c1;obtain ⟨r1,r2,r3⟩:=agM (by simpa using gD);have hrl:(wZ s_.bQ.bP s_.bD.Setting).1.length=s_.bQ.bP.length:=(by rw [r3]; exact tX ..);refine bS (λ (g1:Int)=>0<=g1∧(∀i:Nat,(i:Int)<g1->ak7 s_.bQ s_.bD (s_.dP.getD (s_.aX.getD i 0).toNat bK) s_.kr)) (λ (g1:Int)=>(s_.aX.length - g1).toNat) ?_ ?_
 ·intro ah g1 eU dB;obtain ⟨dZ,bW⟩:=eU;unfold Ao;refine wi ?_ ?_<;>intro c2
  ·have hmem:=getD_in (l:=s_.aX) (i:=g1.toNat) 0 om;have hmi:=y1 _ hmem;have hnd:=getD_in (l:=s_.dP) (i:=(s_.aX.getD g1.toNat 0).toNat) bK om;have hno:=n2 _ hnd;have hns:=n4 _ hnd;refine wm<|bS (λ (g4:Int)=>0<=g4∧(∀j:Nat,(j:Int)<g4->anU ((fU s_.bQ.bP s_.bD.Setting).getD ((s_.dP.getD (s_.aX.getD g1.toNat 0).toNat bK).dx.getD j dN).eO.toNat dW) ((s_.dP.getD (s_.aX.getD g1.toNat 0).toNat bK).dx.getD j dN) s_.kr)) (λ (g4:Int)=>((s_.dP.getD (s_.aX.getD g1.toNat 0).toNat bK).dx.length - g4).toNat) ?_ ?_
   ·intro gW g4 I5 Gr;obtain ⟨xS,mH⟩:=I5;unfold Am;refine wi ?_ ?_<;>intro c3
    ·obtain ⟨x1,x2,x3,x4,x5⟩:=hno.lm _ (getD_in (i:=g4.toNat) dN om);have hll:=hno.ll;have hv:=anB r1 r2 (((s_.dP.getD ((s_.aX.getD g1.toNat 0).toNat) bK).dx.getD g4.toNat dN).eO.toNat) om;rw [<- r3] at hv;have q1:=Xu (show 0<=_ by exact aoJ (by decide) hv.1) hv.2 (aoJ x3 x4) x5;have q2:=Xu (show 0<=_ by exact aoJ (by decide) hv.1) hv.2 x3 (aoJ x4 x5);refine wm<|wm ?_;refine wi ?_ ?_<;>intro c4
     ·rw [r3] at c4;refine aC ?_;(constructor; (intro e; cases e); (intro h; exfalso; obtain ⟨l1,l2,l3⟩:=h g1.toNat om g4.toNat om; rcases c4 with (c4 | c4) | c4; (exact l1 c4); (exact atQ.2 l2 c4); (exact atQ.2 (l3 (by simpa using c4.1)) c4.2)))
     rw [r3] at c4;refine wn<|Gr _ ?_ ?_
     ·(refine ⟨ob,fq mH xS ⟨c4.1.1,c4.1.2,λ e=>c4.2.resolve_left (by rw [e]; decide)⟩⟩)
     exact ob
    have hll:=hno.ll;refine wn<|dB _ ?_ ?_
    ·(refine ⟨ob,fq bW dZ (λ j hj=>mH j om)⟩)
    exact ob
   (refine ⟨ob,λ j hj=>by (try dsimp only at hj); omega⟩)
  refine aC ?_;(constructor; (intro _; exact λ i hi=>bW i om); (intro _; rfl))
 (refine ⟨ob,λ j hj=>by (try dsimp only at hj); omega⟩)
theorem Ki (h1:acw s_) (h2:aiA s_):W (nQ s_) (λ r=>r=Sp.fH s_.bQ.bI s_.bD.bB (drM s_.dP s_.aX)):=by
 obtain ⟨⟨s1,s2,s3,s4,s5,s6,s7⟩,vl_,n1,n2,⟨n3,n4⟩,m1,⟨z1,z2,z3,z4,z5,z6⟩⟩:=h1;obtain ⟨y1,y2,y3,y4,y5,y6⟩:=h2;unfold nQ;refine bS (λ (g1:Int×azy)=>0<=g1.1∧g1.1<=s_.aX.length∧(g1.2.length:Int)<=32*g1.1∧g1.2=drM s_.dP (s_.aX.take g1.1.toNat)) (λ (g1:Int×azy)=>(s_.aX.length - g1.1).toNat) ?_ ?_
 ·intro ah g1 eU dB;obtain ⟨dZ,bW,bN,kW⟩:=eU;unfold xB;refine wi ?_ ?_<;>intro c1
  ·have hmem:=getD_in (l:=s_.aX) (i:=g1.1.toNat) 0 om;have hmi:=y1 _ hmem;have hnd:=getD_in (l:=s_.dP) (i:=(s_.aX.getD g1.1.toNat 0).toNat) bK om;have hno:=n2 _ hnd;have hns:=n4 _ hnd;have hdl:=hno.dl;refine wm<|wm ?_;refine dB _ ?_ ?_
   ·(refine ⟨ob,ob,ob,?_⟩; dsimp only; unfold drM at *; rw [show (g1.1+1).toNat=g1.1.toNat+1 by omega,iM 0 om,auU,kW]; simp only [ayx,azn,amL])
   exact ob
  refine aG (agL ob ob) λ v1 hv1=>?_;subst v1;refine aG (Sp.FU ob ob ob) λ v2 hv2=>?_;subst v2;refine aC ?_;(rw [kW,show g1.1.toNat=s_.aX.length by omega,alj])
 (refine ⟨ob,ob,ob,rfl⟩)
theorem R5 (h1:acw s_) (h2:∀g∈s_.bQ.aU.aH,g.cu.length<=2000000∧g.au.length<=2000000):W (uI s_) (λ r=>(r=true↔FZ s_.bQ.aU 0∧EC s_.bQ.aU (s_.bD.Uses.map aJ.gZ))):=by
 obtain ⟨⟨s1,s2,s3,s4,s5,s6,s7⟩,vl_,n1,n2,⟨n3,n4⟩,m1,⟨z1,z2,z3,z4,z5,z6⟩⟩:=h1;unfold uI;refine bS (λ (g1:Int×azI)=>0<=g1.1∧g1.1<=s_.bD.Uses.length∧g1.2=(s_.bD.Uses.take g1.1.toNat).map aJ.gZ) (λ (g1:Int×azI)=>(s_.bD.Uses.length - g1.1).toNat) ?_ ?_
 ·intro ah g1 eU dB;obtain ⟨dZ,bW,bN⟩:=eU;unfold DF;have hgl:g1.2.length=g1.1.toNat:=(by rw [bN,alg,ahj]; omega);refine wi ?_ ?_<;>intro c1
  ·refine wm<|wn ?_;refine dB _ ?_ ?_
   ·(refine ⟨ob,ob,?_⟩; dsimp only; rw [show (g1.1+1).toNat=g1.1.toNat+1 by omega,iM bA om,as4,bN]; rfl)
   exact ob
  refine aG (abF h2 ob) λ v1 hv1=>?_;refine aC ?_;(rw [bN,show g1.1.toNat=s_.bD.Uses.length by omega,alj] at hv1; rw [<- hv1]; simp)
 (refine ⟨ob,ob,rfl⟩)
theorem Jb (h1:acw s_) (h2:aiA s_) (h3:∀u∈s_.bD.Uses,Qq s_.bQ.aU u.gZ):W (nu s_) (λ r=>r=true↔∀i:Nat,(i:Int)<s_.aX.length->ak8 s_.bQ s_.bD (s_.dP.getD (s_.aX.getD i 0).toNat bK) (s_.aX.getD i 0)):=by
 obtain ⟨⟨s1,s2,s3,s4,s5,s6,s7⟩,vl_,n1,n2,⟨n3,n4⟩,m1,⟨z1,z2,z3,z4,z5,z6⟩⟩:=h1;obtain ⟨y1,y2,y3,y4,y5,y6⟩:=h2;unfold nu;refine bS (λ (g1:Int)=>0<=g1∧(∀i:Nat,(i:Int)<g1->ak8 s_.bQ s_.bD (s_.dP.getD (s_.aX.getD i 0).toNat bK) (s_.aX.getD i 0))) (λ (g1:Int)=>(s_.aX.length - g1).toNat) ?_ ?_
 ·intro ah g1 eU dB;obtain ⟨dZ,bW⟩:=eU;unfold vL;refine wi ?_ ?_<;>intro c1
  ·have hmem:=getD_in (l:=s_.aX) (i:=g1.toNat) 0 om;have hmi:=y1 _ hmem;have hnd:=getD_in (l:=s_.dP) (i:=(s_.aX.getD g1.toNat 0).toNat) bK om;have hno:=n2 _ hnd;have hns:=n4 _ hnd;have hfl:=hno.fl;refine wn<|bS (λ (g6:(Int×(dV->Option Int)))=>0<=g6.1∧g6.1<=s_.bD.Uses.length∧(∀k,0<=jJ g6.2 k∧jJ g6.2 k<=g6.1)∧(∀f,jJ g6.2 (.s f)=(QB s_.bQ.aU (s_.bD.Uses.take g6.1.toNat) (s_.aX.getD g1.toNat 0) f:Int))) (λ (g6:(Int×(dV->Option Int)))=>(s_.bD.Uses.length - g6.1).toNat) ?_ ?_
   ·intro jQ g6 Qr LC;obtain ⟨Nt,xU,Nu,Y1⟩:=Qr;unfold vK;refine wi ?_ ?_<;>intro c2
    ·obtain ⟨u1,u2,u3,u4⟩:=h3 _ (getD_in (i:=g6.1.toNat) bA om);have hmk:=Nu (.s (((s_.bQ.aU.aH.getD ((((s_.bD.Uses.getD g6.1.toNat bA).gZ).bT).toNat) aN).au).getD ((((s_.bD.Uses.getD g6.1.toNat bA).gZ).dJ).toNat) ByteArray.empty));refine wn<|bV ?_ ?_<;>intro c3
     ·have jZ:=c3;have c3:=eX c3;refine wm<|wm ?_;refine LC _ ?_ ?_
      ·(refine ⟨ob,ob,λ k=>?_,λ f=>?_⟩; (dsimp only; rw [A8]; have:=Nu k; split<;>omega); dsimp only; rw [A8,Y1,Y1,show (g6.1+1).toNat=g6.1.toNat+1 by omega,iM bA om,Ry]; by_cases q:f=nmU s_.bQ.aU (s_.bD.Uses.getD g6.1.toNat bA).gZ; (subst q; refine (if_pos rfl).trans ?_; rw [if_pos ⟨by simpa using jZ,rfl⟩]; show ((QB _ _ _ (nmU _ _):Nat):Int)+1=_; omega); (refine (if_neg (λ e=>q (dV.s.inj e))).trans ?_; rw [if_neg (λ e=>q e.2.symm)]; rfl))
      exact ob
     have jZ:=c3;have c3:=eX c3;refine wn<|LC _ ?_ ?_
     ·(refine ⟨ob,ob,λ k=>?_,λ f=>?_⟩; (have:=Nu k; dsimp only; omega); dsimp only; rw [Y1,show (g6.1+1).toNat=g6.1.toNat+1 by omega,iM bA om,Ry,if_neg (λ e=>absurd e.1 (by simpa using jZ))]; rfl)
     exact ob
    refine wn<|bS (λ (g7:(Int×(dV->Option Int)))=>0<=g7.1∧(∀k,0<=jJ g7.2 k∧jJ g7.2 k<=2000000)∧(∀f,jJ g7.2 (.s f)=(QB s_.bQ.aU s_.bD.Uses (s_.aX.getD g1.toNat 0) f:Int) - (cntF ((s_.dP.getD (s_.aX.getD g1.toNat 0).toNat bK).au.take g7.1.toNat) f:Int))) (λ (g7:(Int×(dV->Option Int)))=>((s_.dP.getD (s_.aX.getD g1.toNat 0).toNat bK).au.length - g7.1).toNat) ?_ ?_
    ·intro oJ g7 abw Zl;obtain ⟨abx,DW,ajI⟩:=abw;unfold vo;refine wi ?_ ?_<;>intro c4
     ·have hmk:=DW (.s (((s_.dP.getD ((s_.aX.getD g1.toNat 0).toNat) bK).au).getD g7.1.toNat ByteArray.empty));have hlt:g7.1.toNat<(s_.dP.getD (s_.aX.getD g1.toNat 0).toNat bK).au.length:=om;have hts:=iM ByteArray.empty hlt;have hcs:cntF ((s_.dP.getD (s_.aX.getD g1.toNat 0).toNat bK).au.take (g7.1.toNat+1)) ((s_.dP.getD (s_.aX.getD g1.toNat 0).toNat bK).au.getD g7.1.toNat ByteArray.empty)=cntF ((s_.dP.getD (s_.aX.getD g1.toNat 0).toNat bK).au.take g7.1.toNat) ((s_.dP.getD (s_.aX.getD g1.toNat 0).toNat bK).au.getD g7.1.toNat ByteArray.empty)+1:=(by rw [hts,Rz,if_pos rfl]);have hct:=ak6 (l:=(s_.dP.getD (s_.aX.getD g1.toNat 0).toNat bK).au) (f:=(s_.dP.getD (s_.aX.getD g1.toNat 0).toNat bK).au.getD g7.1.toNat ByteArray.empty) (g7.1.toNat+1);have hq:=ajI ((s_.dP.getD (s_.aX.getD g1.toNat 0).toNat bK).au.getD g7.1.toNat ByteArray.empty);refine wm<|wi ?_ ?_<;>intro c5
      ·refine aC ?_;(constructor; (intro e; cases e); (intro h; exfalso; rw [A8,if_pos rfl] at c5; have hff:=h g1.toNat om ((s_.dP.getD (s_.aX.getD g1.toNat 0).toNat bK).au.getD g7.1.toNat ByteArray.empty); omega))
      rw [A8,if_pos rfl] at c5;refine wn<|Zl _ ?_ ?_
      ·(refine ⟨ob,λ k=>?_,λ f=>?_⟩; (dsimp only; rw [A8]; have:=DW k; split<;>omega); dsimp only; rw [A8,show (g7.1+1).toNat=g7.1.toNat+1 by omega]; by_cases q:f=(s_.dP.getD (s_.aX.getD g1.toNat 0).toNat bK).au.getD g7.1.toNat ByteArray.empty; (subst q; rw [if_pos rfl,hcs]; omega); (rw [if_neg (λ e=>q (dV.s.inj e)),hts,Rz,if_neg (λ e=>q e.symm),ajI f]; rfl))
      exact ob
     refine wn<|dB _ ?_ ?_
     ·(refine ⟨ob,fq bW dZ (λ f=>?_)⟩; have e1:=ajI f; have e2:=DW (.s f); rw [aiI om] at e1; omega)
     exact ob
    (refine ⟨ob,λ k=>by have:=Nu k; dsimp only; omega,λ f=>?_⟩; dsimp only; rw [Y1 f,show g6.1.toNat=s_.bD.Uses.length by omega,alj]; show _=_ - ((0:Nat):Int); omega)
   (refine ⟨ob,ob,λ k=>⟨apw _,apw _⟩,λ f=>rfl⟩)
  refine aC ?_;(constructor; (intro _; exact λ i hi=>bW i om); (intro _; rfl))
 (refine ⟨ob,λ j hj=>by (try dsimp only at hj); omega⟩)
theorem NU (h1:acw s_) (h2:aiA s_):W (qC s_) (λ r=>(r=true↔(RsA s_.bQ.bH 0∧anT s_.bQ.bH s_.bD.Released)∧∀i:Nat,(i:Int)<s_.aX.length->anV s_.bD (s_.dP.getD (s_.aX.getD i 0).toNat bK))):=by
 obtain ⟨⟨s1,s2,s3,s4,s5,s6,s7⟩,vl_,n1,n2,⟨n3,n4⟩,m1,⟨z1,z2,z3,z4,z5,z6⟩⟩:=h1;obtain ⟨y1,y2,y3,y4,y5,y6⟩:=h2;unfold qC;refine aG (Zn ob) λ v1 hv1=>?_;refine bV ?_ ?_<;>intro c1
 ·have gD:=c1;have c1:=eX c1;refine aC ?_;(constructor; (intro e; cases e); (intro h; exact absurd (hv1.2 h.1) (by simpa using gD)))
 have gD:=c1;have c1:=eX c1;refine bS (λ (g1:Int)=>0<=g1∧(∀i:Nat,(i:Int)<g1->anV s_.bD (s_.dP.getD (s_.aX.getD i 0).toNat bK))) (λ (g1:Int)=>(s_.aX.length - g1).toNat) ?_ ?_
 ·intro ah g1 eU dB;obtain ⟨dZ,bW⟩:=eU;unfold Ap;refine wi ?_ ?_<;>intro c2
  ·have hmem:=getD_in (l:=s_.aX) (i:=g1.toNat) 0 om;have hmi:=y1 _ hmem;have hnd:=getD_in (l:=s_.dP) (i:=(s_.aX.getD g1.toNat 0).toNat) bK om;have hno:=n2 _ hnd;have hns:=n4 _ hnd;refine wm<|aG (Dk om (λ x hx=>(by have:=hno.rs x hx; omega))) λ v4 hv4=>?_;subst v4;refine bV ?_ ?_<;>intro c3
   ·have jZ:=c3;have c3:=eX c3;refine aC ?_;(constructor; (intro e; cases e); (intro h; exfalso; have:=aeV.2 (λ j hj=>by have:=h.2 g1.toNat om j hj; rw [this]; rfl) |>.symm.trans jZ; cases this))
   have jZ:=c3;have c3:=eX c3;refine wn<|dB _ ?_ ?_
   ·(refine ⟨ob,fq bW dZ (λ j hj=>?_)⟩; have:=aeV.1 jZ j hj; simpa using this)
   exact ob
  refine aC ?_;(constructor; (intro _; exact ⟨hv1.1 (by simpa using gD),λ i hi=>bW i om⟩); (intro _; rfl))
 (refine ⟨ob,λ j hj=>by (try dsimp only at hj); omega⟩)
theorem LP (h1:acw s_) (h2:aiA s_):W (oM s_) (λ r=>(r=true↔(DmA s_.bQ.bX 0∧RgP s_.bQ.bX s_.bD.aY)∧∀i:Nat,(i:Int)<s_.aX.length->anW s_.bD (s_.dP.getD (s_.aX.getD i 0).toNat bK))):=by
 obtain ⟨⟨s1,s2,s3,s4,s5,s6,s7⟩,vl_,n1,n2,⟨n3,n4⟩,m1,⟨z1,z2,z3,z4,z5,z6⟩⟩:=h1;obtain ⟨y1,y2,y3,y4,y5,y6⟩:=h2;unfold oM;refine aG (Zp) λ v1 hv1=>?_;refine bV ?_ ?_<;>intro c1
 ·have gD:=c1;have c1:=eX c1;refine aC ?_;(constructor; (intro e; cases e); (intro h; exact absurd (hv1.2 h.1) (by simpa using gD)))
 have gD:=c1;have c1:=eX c1;refine aG (Dl om (λ x hx=>(by have q:=y1 x hx; have:=(n2 _ (getD_in (i:=x.toNat) bK om)).dm; omega))) λ v2 hv2=>?_;subst v2;refine aC ?_;(rw [ahk,aeV]; constructor; (intro h; refine ⟨hv1.1 (by simpa using gD),λ i hi=>?_⟩; have:=h i hi; intro h0; simp only [als,decide_eq_false_iff_not,ajz] at this; exact this.resolve_left (λ q=>q h0)); (intro h j hj; have:=h.2 j hj; unfold anW at this; simp only [als,decide_eq_false_iff_not,ajz]; by_cases q:0<=(s_.dP.getD (s_.aX.getD j 0).toNat bK).fV; (exact .inr (this q)); exact .inl q))
theorem abG {x:aZ} (h:fH l s []=true) (hx:Uz l.length x):fH l s [⟨x.eO,0,x.fI⟩]=true↔anU ((fU l s).getD x.eO.toNat dW) x true:=by
 obtain ⟨x1,x2,x3,x4,x5⟩:=hx;rw [adv h x1 x2 (apw 0) om x5,Int.zero_mul];obtain ⟨c1,c2,_⟩:=RA h;have hv:=(mD (Lp (sI c1) c2 x.eO.toNat om).2.2.1).1;exact ⟨λ ⟨a,b,_⟩=>⟨a,b,nofun⟩,λ ⟨a,b,_⟩=>⟨a,b,hv⟩⟩
theorem UD {x:aZ} (h:fH l s []=true) (hx:Uz l.length x):fH l s [⟨x.eO,x.lC,x.fI⟩]=true↔anU ((fU l s).getD x.eO.toNat dW) x false:=by
 obtain ⟨x1,x2,x3,x4,x5⟩:=hx;rw [adv h x1 x2 x3 x4 x5];exact ⟨λ ⟨a,b,c⟩=>⟨a,b,λ _=>c⟩,λ ⟨a,b,c⟩=>⟨a,b,c rfl⟩⟩
theorem QC (h:Thn A B 0):A 0∧B 0:=by
 rcases h with h | h
 ·exact absurd rfl h.2
 exact h
theorem zS {l:azu} (h:uj b l 0):aqF b∧l.length<=12∧∀n∈l,ash b n:=by
 obtain ⟨h1,h2⟩:=QC h;obtain ⟨b1,h3⟩:=QC h1;obtain ⟨b2,h4⟩:=QC h3;obtain ⟨b3,h5⟩:=QC h4;obtain ⟨b4,b5⟩:=QC h5;obtain ⟨c1,c2⟩:=vS (by decide) h2;refine ⟨⟨b1.symm,b2.symm,b3.v.ok,b4.ok,b5.ok⟩,om,mG bK λ i hi=>?_⟩;obtain ⟨d1,d2⟩:=vS (by decide) (anS c2 i hi);obtain ⟨e1,e2⟩:=vS (by decide) d2;obtain ⟨f1,f2⟩:=vS (by decide) e2;obtain ⟨g1,g2⟩:=vS (by decide) f2;obtain ⟨k1,k2⟩:=vS (by decide) g2;obtain ⟨m1,m2⟩:=vS (by decide) k2;refine ⟨om,om,om,mG dN λ j hj=>?_,mG eu λ j hj=>?_,mG 0 λ j hj=>?_,alN.1 m1⟩
 ·exact asj λ q=>e1 ⟨j,om,q⟩
 ·exact asj λ q=>f1 ⟨j,om,q⟩
 exact asj λ q=>k1 ⟨j,om,q⟩
def aun (b:aV) (l:azu) (ms:azp) (g:aM) (bt:Bool):Prop:=∀i:Nat,(i:Int)<ms.length->ak7 b g (l.getD (ms.getD i 0).toNat bK) bt
def asw (b:aV) (l:azu) (ms:azp) (g:aM):Prop:=∀i:Nat,(i:Int)<ms.length->ak8 b g (l.getD (ms.getD i 0).toNat bK) (ms.getD i 0)
def auo (b:aV) (l:azu) (ms:azp) (g:aM):Prop:=(RsA b.bH 0∧anT b.bH g.Released)∧∀i:Nat,(i:Int)<ms.length->anV g (l.getD (ms.getD i 0).toNat bK)
def aw6 (b:aV) (l:azu) (ms:azp) (g:aM):Prop:=(DmA b.bX 0∧RgP b.bX g.aY)∧∀i:Nat,(i:Int)<ms.length->anW g (l.getD (ms.getD i 0).toNat bK)
def anY (b:aV) (l:azu) (ms:azp) (g:aM) (bt:Bool):Int->Prop:=
 LG (¬(CJ l ms∧ak5 b l g)) 1<|
 LG (fH b.bP g.Setting []=false) 2<|
 LG (¬aun b l ms g bt) 3<|
 LG (Sp.fH b.bI g.bB (drM l ms)=false) 4<|
 LG (¬(FZ b.aU 0∧EC b.aU (g.Uses.map aJ.gZ))) 5<|
 LG (¬asw b l ms g) 6<|
 LG (¬auo b l ms g) 7<|
 LG (¬aw6 b l ms g) 8<|
 λ r=>r=0
theorem anY.fun {l:azu} {ms:azp} {g:aM} {bt:Bool}:Gs (anY b l ms g bt):=.KJ (.KJ (.KJ (.KJ (.KJ (.KJ (.KJ (.KJ .zero)))))))
def NV (b:aV) (l:azu) (ms:azp) (g:aM) (bt:Bool):Int->Prop:=LG (¬uj b l 0) 1 (anY b l ms g bt)
theorem NV.fun {l:azu} {ms:azp} {g:aM} {bt:Bool}:Gs (NV b l ms g bt):=.KJ anY.fun
theorem aup {s:ig} (h:CJ s.dP s.aX∧ak5 s.bQ s.dP s.bD):aiA s:=by
 obtain ⟨h1,⟨h2,h3,h4,h5,h6⟩,_,_⟩:=h;exact ⟨mG 0 λ j hj=>(h1 j om).1,om,om,om,om,om⟩
theorem LQ {us:azw} (h:EC p (us.map aJ.gZ)):∀u∈us,Qq p u.gZ:=by
 refine mG bA λ i hi=>?_;have:=(h i (by rw [alg]; omega)).1;rw [uU (d:=bA) hi] at this;exact this
theorem NW (h1:acw s_) (h2:∀g∈s_.bQ.aU.aH,g.cu.length<=2000000∧g.au.length<=2000000):W (lg s_) (λ r=>anY s_.bQ s_.dP s_.aX s_.bD s_.kr r):=by
 unfold lg;refine wn<|aG (QA h1) λ v1 hv1=>?_;refine wi ?_ ?_<;>intro c1
 ·refine wn<|aC ?_;(exact eT (lI hv1 c1))
 have q1:=hv1.1 c1;have hsh:=aup q1;refine wm<|aG (NS h1) λ v2 hv2=>?_;subst v2;refine wi ?_ ?_<;>intro c2
 ·refine wn<|aC ?_;(exact aQ (λ h=>h q1) (eT c2))
 refine wm<|aG (NT h1 hsh c2) λ v3 hv3=>?_;refine wi ?_ ?_<;>intro c3
 ·refine wn<|aC ?_;(exact aQ (λ h=>h q1) (aQ (by rw [c2]; decide) (eT (lI hv3 c3))))
 have q3:=hv3.1 c3;refine wm<|aG (Ki h1 hsh) λ v4 hv4=>?_;subst v4;refine wi ?_ ?_<;>intro c4
 ·refine wn<|aC ?_;(exact aQ (λ h=>h q1) (aQ (by rw [c2]; decide) (aQ (λ h=>h q3) (eT c4))))
 refine wm<|aG (R5 h1 h2) λ v5 hv5=>?_;refine wi ?_ ?_<;>intro c5
 ·refine wn<|aC ?_;(exact aQ (λ h=>h q1) (aQ (by rw [c2]; decide) (aQ (λ h=>h q3) (aQ (by rw [c4]; decide) (eT (lI hv5 c5))))))
 have q5:=hv5.1 c5;refine wm<|aG (Jb h1 hsh (LQ q5.2)) λ v6 hv6=>?_;refine wi ?_ ?_<;>intro c6
 ·refine wn<|aC ?_;(exact aQ (λ h=>h q1) (aQ (by rw [c2]; decide) (aQ (λ h=>h q3) (aQ (by rw [c4]; decide) (aQ (λ h=>h q5) (eT (lI hv6 c6)))))))
 have q6:=hv6.1 c6;refine wm<|aG (NU h1 hsh) λ v7 hv7=>?_;refine wi ?_ ?_<;>intro c7
 ·refine wn<|aC ?_;(exact aQ (λ h=>h q1) (aQ (by rw [c2]; decide) (aQ (λ h=>h q3) (aQ (by rw [c4]; decide) (aQ (λ h=>h q5) (aQ (λ h=>h q6) (eT (lI hv7 c7))))))))
 have q7:=hv7.1 c7;refine wm<|aG (LP h1 hsh) λ v8 BG=>?_;refine wi ?_ ?_<;>intro c8
 ·refine wn<|aC ?_;(exact aQ (λ h=>h q1) (aQ (by rw [c2]; decide) (aQ (λ h=>h q3) (aQ (by rw [c4]; decide) (aQ (λ h=>h q5) (aQ (λ h=>h q6) (aQ (λ h=>h q7) (eT (lI BG c8)))))))))
 refine wn<|aC ?_;(exact aQ (λ h=>h q1) (aQ (by rw [c2]; decide) (aQ (λ h=>h q3) (aQ (by rw [c4]; decide) (aQ (λ h=>h q5) (aQ (λ h=>h q6) (aQ (λ h=>h q7) (aQ (λ h=>h (BG.1 c8)) rfl))))))))
theorem Zt {gT:Bool} (h1:Lx b_) (h2:∀g∈b_.aU.aH,g.cu.length<=2000000∧g.au.length<=2000000) (h3:UA l_) (h4:aj.length<=10000) (h5:Ai g_):W (Ei b_ l_ aj g_ gT) (λ r=>NV b_ l_ aj g_ gT r):=by
 unfold Ei;refine aG (TN h1 h2 h3) λ v1 hv1=>?_;refine wi ?_ ?_<;>intro c1
 ·exact aC<|eT (λ h=>c1 (uj.fun _ _ hv1 h))
 have hn0:uj b_ l_ 0:=(by rw [c1] at hv1; exact hv1);obtain ⟨nk1,nk2,nk3⟩:=zS hn0;refine aG (NW ⟨h1,nk1,nk2,nk3,h3,h4,h5⟩ h2) λ v2 hv2=>?_;exact aC<|aQ (λ h=>h hn0) hv2
theorem Zu {x_:aR} {gT:Bool} (h1:b_.bP.length<=2000000) (h2:g_.Setting.length<=2000000) (h3:acn b_.bP) (h4:fH b_.bP g_.Setting []=true) (h5:∀x∈x_.dx,Uz b_.bP.length x) (h6:x_.dx.length<=2000000):W (Eo b_ g_ x_ gT) (λ r=>r=true↔ak7 b_ g_ x_ gT):=by
 unfold Eo;refine bS (λ (g1:Int)=>0<=g1∧(∀j:Nat,(j:Int)<g1->anU ((fU b_.bP g_.Setting).getD (x_.dx.getD j dN).eO.toNat dW) (x_.dx.getD j dN) gT)) (λ (g1:Int)=>(x_.dx.length - g1).toNat) ?_ ?_
 ·intro ah g1 eU dB;obtain ⟨dZ,bW⟩:=eU;unfold M8;refine wi ?_ ?_<;>intro c1
  ·have hx:=h5 _ (getD_in (i:=g1.toNat) dN om);refine wn<|wi ?_ ?_<;>intro c2
   ·subst c2;unfold rA;refine aG (F6 ob ob ob ob) λ v3 hv3=>?_;subst v3;refine wi ?_ ?_<;>intro c3
    ·refine aC ?_;(constructor; (intro e; cases e); (intro h; exfalso; rw [(abG h4 hx).2 (h g1.toNat om)] at c3; cases c3))
    refine wn<|dB _ ?_ ?_
    ·(refine ⟨ob,fq bW dZ ((abG h4 hx).1 c3)⟩)
    exact ob
   subst c2;unfold rA;refine aG (F6 ob ob ob ob) λ v3 hv3=>?_;subst v3;refine wi ?_ ?_<;>intro c4
   ·refine aC ?_;(constructor; (intro e; cases e); (intro h; exfalso; rw [(UD h4 hx).2 (h g1.toNat om)] at c4; cases c4))
   refine wn<|dB _ ?_ ?_
   ·(refine ⟨ob,fq bW dZ ((UD h4 hx).1 c4)⟩)
   exact ob
  refine aC ?_;(constructor; (intro _; exact λ j hj=>bW j om); (intro _; rfl))
 (refine ⟨ob,λ j hj=>by (try dsimp only at hj); omega⟩)
theorem UE {x_:aR} {dO:Int} (h1:g_.Uses.length<=2000000) (h2:x_.au.length<=2000000) (h3:∀u∈g_.Uses,Qq b_.aU u.gZ):W (wC b_ g_ x_ dO) (λ r=>r=true↔ak8 b_ g_ x_ dO):=by
 unfold wC;refine bS (λ (g1:Int)=>0<=g1∧(∀j:Nat,(j:Int)<g1->cntF x_.au (fnG x_.au j)<=QB b_.aU g_.Uses dO (fnG x_.au j))) (λ (g1:Int)=>(x_.au.length - g1).toNat) ?_ ?_
 ·intro ah g1 eU dB;obtain ⟨dZ,bW⟩:=eU;unfold FJ;refine wi ?_ ?_<;>intro c1
  ·refine wn<|bS (λ (g6:Int×Int)=>0<=g6.2∧g6.2<=x_.au.length∧(0<=g6.1∧g6.1<=g6.2)∧g6.1=(cntF (x_.au.take g6.2.toNat) (x_.au.getD g1.toNat ByteArray.empty):Int)) (λ (g6:Int×Int)=>(x_.au.length - g6.2).toNat) ?_ ?_
   ·intro jQ g6 Qr LC;obtain ⟨Nt,xU,Nu,Y1⟩:=Qr;unfold FI;refine wi ?_ ?_<;>intro c2
    ·refine wn<|bV ?_ ?_<;>intro c3
     ·have jZ:=c3;have c3:=eX c3;refine wm<|LC _ ?_ ?_
      ·(refine ⟨ob,ob,ob,?_⟩; dsimp only; rw [Y1,show (g6.2+1).toNat=g6.2.toNat+1 by omega,iM ByteArray.empty om,Rz,if_pos (XH (by simpa using jZ))]; rfl)
      exact ob
     have jZ:=c3;have c3:=eX c3;refine wn<|LC _ ?_ ?_
     ·(refine ⟨ob,ob,ob,?_⟩; dsimp only; rw [Y1,show (g6.2+1).toNat=g6.2.toNat+1 by omega,iM ByteArray.empty om,Rz,if_neg (λ e=>by rw [e] at jZ; simp at jZ)]; rfl)
     exact ob
    refine bS (λ (g7:Int×Int)=>0<=g7.2∧g7.2<=g_.Uses.length∧(0<=g7.1∧g7.1<=g7.2)∧g7.1=(QB b_.aU (g_.Uses.take g7.2.toNat) dO (x_.au.getD g1.toNat ByteArray.empty):Int)) (λ (g7:Int×Int)=>(g_.Uses.length - g7.2).toNat) ?_ ?_
    ·intro oJ g7 abw Zl;obtain ⟨abx,DW,ajI,anZ⟩:=abw;unfold DR;refine wi ?_ ?_<;>intro c4
     ·obtain ⟨u1,u2,u3,u4⟩:=h3 _ (getD_in (i:=g7.2.toNat) bA om);refine wm<|wn ?_;refine bV ?_ ?_<;>intro c5
      ·have Di:=c5;have c5:=eX c5;refine wm<|Zl _ ?_ ?_
       ·(refine ⟨ob,ob,ob,?_⟩; dsimp only; rw [anZ,show (g7.2+1).toNat=g7.2.toNat+1 by omega,iM bA om,Ry,if_pos (by simp only [aei,beq_iff_eq] at Di; exact ⟨Di.1,XH Di.2⟩)]; rfl)
       exact ob
      have Di:=c5;have c5:=eX c5;refine wn<|Zl _ ?_ ?_
      ·(refine ⟨ob,ob,ob,?_⟩; dsimp only; rw [anZ,show (g7.2+1).toNat=g7.2.toNat+1 by omega,iM bA om,Ry,if_neg (λ e=>by have e2:=e.2; unfold nmU at e2; rw [e.1,e2] at Di; simp at Di)]; rfl)
      exact ob
     rw [aiI om] at Y1 anZ;refine wi ?_ ?_<;>intro c6
     ·refine aC ?_;(constructor; (intro e; cases e); (intro h; exfalso; have:=h (x_.au.getD g1.toNat ByteArray.empty); omega))
     refine wn<|dB _ ?_ ?_
     ·(refine ⟨ob,fq bW dZ (by unfold fnG; omega)⟩)
     exact ob
    (refine ⟨ob,ob,ob,rfl⟩)
   (refine ⟨ob,ob,ob,rfl⟩)
  refine aC ?_;(constructor; (intro _ f; rcases aqH (cntF x_.au f) with e | e; (omega); (obtain ⟨j,h4,rfl⟩:=anX e; exact bW j om)); (intro _; rfl))
 (refine ⟨ob,λ j hj=>by (try dsimp only at hj); omega⟩)
end Go.Proofs.YtifekdmmpbcdgaaGreatDoor
namespace Go.Proofs.YtifekdmmpbcdgaaGreatDoor.Sp
open Go.Ab
set_option maxRecDepth 100000
theorem abH {l_:azv} {r_:bq} (h1:l_.length<=2000000) (h2:r_.bC.length<=2000000):W (Hz l_ r_) (λ r=>r=mR l_ r_):=by
 unfold Hz;refine aG (Sp.BH ob) λ v1 hv1=>?_;subst v1;refine bV ?_ ?_<;>intro c1
 ·have gD:=c1;have c1:=eX c1;refine aC ?_;(unfold mR; rw [gD]; rfl)
 have gD:=c1;have c1:=eX c1;have hck:eD l_=0∧r_.On.length=l_.length∧r_.bC.length=l_.length:=(by have:=gD; simp only [aff,bne_eq_false_iff_eq] at this; omega);obtain ⟨b1,b2,b3⟩:=Ez hck.1;refine bS (λ (g1:Int)=>0<=g1∧g1<=l_.length∧rlN (l_.drop g1.toNat) (r_.bC.drop g1.toNat)=rlN l_ r_.bC) (λ (g1:Int)=>(l_.length - g1).toNat) ?_ ?_
 ·intro ah g1 eU dB;obtain ⟨dZ,bW,bN⟩:=eU;unfold PV;obtain ⟨i,rfl⟩:=ahq dZ;refine wi ?_ ?_<;>intro c2
  ·have hlt:i<l_.length:=om;have hb:=b2 i hlt;rw [show ((i:Int).toNat)=i from rfl,drop_cons aD hlt,drop_cons 0 (show i<r_.bC.length by omega),rlN] at bN;simp only [ahg] at *;refine wm<|wn ?_;refine aG (Sp.qJ) λ v4 hv4=>?_;subst v4;refine bV ?_ ?_<;>intro c3
   ·have jZ:=c3;have c3:=eX c3;refine aC ?_;(unfold mR; rw [gD,<- bN]; rw [show dS (r_.bC.getD i 0) 0 _=false by simpa using jZ]; rfl)
   have jZ:=c3;have c3:=eX c3;refine wn<|dB _ ?_ ?_
   ·(refine ⟨ob,ob,?_⟩; rw [<- bN,show dS (r_.bC.getD i 0) 0 _=true by simpa using jZ,show ((i:Int)+1).toNat=i+1 by omega]; rfl)
   exact ob
  refine aC ?_;have e:i=l_.length:=om;unfold mR; rw [gD,<- bN,show (i:Int).toNat=i from rfl,e,aqu]; cases List.drop l_.length r_.bC<;>rfl
 (refine ⟨ob,ob,rfl⟩)
end Go.Proofs.YtifekdmmpbcdgaaGreatDoor.Sp
namespace Go.Proofs.YtifekdmmpbcdgaaGreatDoor
open Go.Ab
set_option maxRecDepth 100000
theorem abI {l_:azv} {r_:bq} {d_:azy} (h1:l_.length<=2000000) (h2:d_.length<=2000000) (h3:r_.bC.length<=2000000):W (HV l_ r_ d_) (λ r=>r=Sp.fH l_ r_ d_):=by
 unfold HV;refine aG (Sp.TH ob ob) λ v1 hv1=>?_;subst v1;refine aG (gM λ hc=>kY (Sp.abH ob ob)) λ v2 hv2=>?_;subst v2;refine aG (gM λ hc=>kY (Sp.TI (Sp.zK (by simp only [aei] at hc; exact hc.1)) (Sp.EP.1 (by simp only [aei] at hc; exact hc.2)).2)) λ v3 hv3=>?_;subst v3;refine aC ?_;(unfold Sp.fH; cases Sp.iN l_ d_<;>cases Sp.mR l_ r_<;>rfl)
theorem Zv {b_:aV} {l_:azu} {aj:azp} {g_:aM} {gT:Bool} (h1:Lx b_) (h2:∀g∈b_.aU.aH,g.cu.length<=2000000∧g.au.length<=2000000) (h3:UA l_) (h4:aj.length<=10000) (h5:Ai g_):W (Es b_ l_ aj g_ gT) (λ r=>NV b_ l_ aj g_ gT r):=by
 obtain ⟨n3,n4⟩:=id h3;obtain ⟨s1,s2,s3,s4,s5,s6,s7⟩:=id h1;obtain ⟨z1,z2,z3,z4,z5,z6⟩:=id h5;unfold Es;refine aG (BN h1 h2 h3) λ v1 hv1=>?_;refine aG (vH λ hc=>uT n3 om) λ v2 hv2=>?_;refine aG (vH λ hc=>Zq h1 n3 h5) λ v3 hv3=>?_;refine bV ?_ ?_<;>intro c1
 ·have gD:=c1;have c1:=eX c1;refine aC ?_;(by_cases q:uj b_ l_ 0; (refine aQ (λ h=>h q) (eT (λ h=>?_)); have e:=uj.fun _ _ hv1 q; have a2:=(hv2 (by rw [e]; rfl)).2 h.1; have a3:=(hv3 (by rw [e,a2]; rfl)).2 h.2; rw [e,a2,a3] at gD; cases gD); exact eT q)
 have gD:=c1;have c1:=eX c1;have e1:v1=0∧v2=true∧v3=true:=(by simp only [aff,bne_eq_false_iff_eq,ajz] at gD; exact ⟨gD.1.1,gD.1.2,gD.2⟩);have hn0:uj b_ l_ 0:=(by rw [e1.1] at hv1; exact hv1);have q1:CJ l_ aj∧ak5 b_ l_ g_:=⟨(hv2 (by rw [e1.1]; rfl)).1 e1.2.1,(hv3 (by rw [e1.1,e1.2.1]; rfl)).1 e1.2.2⟩;have nok:=zS hn0;have hsl:=q1.2.1;refine aG (F6 s1 z1 (by decide) s2) λ v4 hv4=>?_;subst v4;refine wi ?_ ?_<;>intro c2
 ·exact aC (aQ (λ h=>h hn0) (aQ (λ h=>h q1) (eT c2)))
 refine bS (λ (g1:Int×azy)=>0<=g1.1∧g1.1<=aj.length∧(g1.2.length:Int)<=32*g1.1∧g1.2=drM l_ (aj.take g1.1.toNat)∧(∀i:Nat,(i:Int)<g1.1->ak7 b_ g_ (l_.getD (aj.getD i 0).toNat bK) gT)) (λ (g1:Int×azy)=>(aj.length - g1.1).toNat) ?_ ?_
 ·intro ah g1 eU dB;obtain ⟨dZ,bW,bN,kW,FP⟩:=eU;unfold Nf;refine wi ?_ ?_<;>intro c3
  ·have hmi:=(q1.1 g1.1.toNat om).1;have hnd:=getD_in (l:=l_) (i:=(aj.getD g1.1.toNat 0).toNat) bK om;have hno:=nok.2.2 _ hnd;have hns:=n4 _ hnd;obtain ⟨o1,o2,o3,o4,o5,o6,o7⟩:=id hno;refine aP (by first | omega | (unfold ay; omega) | (intro h0; have:=of_decide_eq_true h0; omega) | (unfold big; omega)) ?_;refine aP (by first | omega | (unfold ay; omega) | (intro h0; have:=of_decide_eq_true h0; omega) | (unfold big; omega)) ?_;refine aG (Zu s1 z1 s2 c2 o4 om) λ v7 hv7=>?_;refine wi ?_ ?_<;>intro c4
   ·exact aC (aQ (λ h=>h hn0) (aQ (λ h=>h q1) (aQ (by rw [c2]; decide) (eT (λ h=>lI hv7 c4 (h g1.1.toNat om))))))
   refine aP (by first | omega | (unfold ay; omega) | (intro h0; have:=of_decide_eq_true h0; omega) | (unfold big; omega)) ?_;refine aP (by first | omega | (unfold ay; omega) | (intro h0; have:=of_decide_eq_true h0; omega) | (unfold big; omega)) ?_;refine aP (by first | omega | (unfold ay; omega) | (intro h0; have:=of_decide_eq_true h0; omega) | (unfold big; omega)) ?_;refine dB _ ?_ ?_
   ·(refine ⟨om,om,by (simp only [afa]; omega),?_,fq FP dZ (hv7.1 c4)⟩; dsimp only; unfold drM at *; rw [show (g1.1+1).toNat=g1.1.toNat+1 by omega,iM 0 om,auU,kW]; simp only [ayx,azn,amL])
   omega
  have q3:aun b_ l_ aj g_ gT:=λ i hi=>FP i om;have hdr:g1.2=drM l_ aj:=(by rw [kW,show g1.1.toNat=aj.length by omega,alj]);have aw7:(drM l_ aj).length<=2000000:=(by rw [<- hdr]; omega);rw [hdr];refine aG (abI s3 aw7 z3) λ v8 BG=>?_;subst v8;refine wi ?_ ?_<;>intro c5
  ·exact aC (aQ (λ h=>h hn0) (aQ (λ h=>h q1) (aQ (by rw [c2]; decide) (aQ (λ h=>h q3) (eT c5)))))
  refine aG (acI z4) λ v9 Xx=>?_;subst v9;refine aG (Zr h2 (by rw [alg]; exact z4)) λ v10 Gq=>?_;refine wi ?_ ?_<;>intro c6
  ·exact aC (aQ (λ h=>h hn0) (aQ (λ h=>h q1) (aQ (by rw [c2]; decide) (aQ (λ h=>h q3) (aQ (by rw [c5]; decide) (eT (λ h=>c6 (Gq.2 h))))))))
  have q5:=Gq.1 c6;have hown:=LQ q5.2;refine bS (λ (g2:Int)=>0<=g2∧(∀i:Nat,(i:Int)<g2->ak8 b_ g_ (l_.getD (aj.getD i 0).toNat bK) (aj.getD i 0))) (λ (g2:Int)=>(aj.length - g2).toNat) ?_ ?_
  ·intro dY g2 nD rF;obtain ⟨sK,jN⟩:=nD;unfold J3;refine wi ?_ ?_<;>intro c7
   ·have hmi:=(q1.1 g2.toNat om).1;have hnd:=getD_in (l:=l_) (i:=(aj.getD g2.toNat 0).toNat) bK om;have hno:=nok.2.2 _ hnd;have hns:=n4 _ hnd;obtain ⟨o1,o2,o3,o4,o5,o6,o7⟩:=id hno;refine aP (by first | omega | (unfold ay; omega) | (intro h0; have:=of_decide_eq_true h0; omega) | (unfold big; omega)) ?_;refine aP (by first | omega | (unfold ay; omega) | (intro h0; have:=of_decide_eq_true h0; omega) | (unfold big; omega)) ?_;refine aG (UE z4 om hown) λ v13 NQ=>?_;refine wi ?_ ?_<;>intro c8
    ·exact aC (aQ (λ h=>h hn0) (aQ (λ h=>h q1) (aQ (by rw [c2]; decide) (aQ (λ h=>h q3) (aQ (by rw [c5]; decide) (aQ (λ h=>h q5) (eT (λ h=>lI NQ c8 (h g2.toNat om)))))))))
    refine aP (by first | omega | (unfold ay; omega) | (intro h0; have:=of_decide_eq_true h0; omega) | (unfold big; omega)) ?_;refine rF _ ?_ ?_
    ·(refine ⟨om,fq jN sK (NQ.1 c8)⟩)
    omega
   have q6:asw b_ l_ aj g_:=λ i hi=>jN i om;refine aG (Zo s6) λ v14 RQ=>?_;refine wi ?_ ?_<;>intro c9
   ·exact aC (aQ (λ h=>h hn0) (aQ (λ h=>h q1) (aQ (by rw [c2]; decide) (aQ (λ h=>h q3) (aQ (by rw [c5]; decide) (aQ (λ h=>h q5) (aQ (λ h=>h q6) (eT (λ h=>lI RQ c9 h.1)))))))))
   have q7a:=RQ.1 c9;refine bS (λ (g3:Int)=>0<=g3∧(∀i:Nat,(i:Int)<g3->anV g_ (l_.getD (aj.getD i 0).toNat bK))) (λ (g3:Int)=>(aj.length - g3).toNat) ?_ ?_
   ·intro nE g3 aeS aeT;obtain ⟨Y0,rG⟩:=aeS;unfold J2;refine wi ?_ ?_<;>intro c10
    ·have hmi:=(q1.1 g3.toNat om).1;have hnd:=getD_in (l:=l_) (i:=(aj.getD g3.toNat 0).toNat) bK om;have hno:=nok.2.2 _ hnd;have hns:=n4 _ hnd;obtain ⟨o1,o2,o3,o4,o5,o6,o7⟩:=id hno;refine aP (by first | omega | (unfold ay; omega) | (intro h0; have:=of_decide_eq_true h0; omega) | (unfold big; omega)) ?_;refine aP (by first | omega | (unfold ay; omega) | (intro h0; have:=of_decide_eq_true h0; omega) | (unfold big; omega)) ?_;refine bS (λ (g6:Int)=>0<=g6∧(∀j:Nat,(j:Int)<g6->g_.Released.getD ((l_.getD (aj.getD g3.toNat 0).toNat bK).bH.getD j 0).toNat false=true)) (λ (g6:Int)=>((l_.getD (aj.getD g3.toNat 0).toNat bK).bH.length - g6).toNat) ?_ ?_
     ·intro jQ g6 Qr LC;obtain ⟨Nt,xU⟩:=Qr;unfold JY;refine wi ?_ ?_<;>intro c11
      ·have hx:=o6 _ (getD_in (i:=g6.toNat) 0 om);refine aP (by first | omega | (unfold ay; omega) | (intro h0; have:=of_decide_eq_true h0; omega) | (unfold big; omega)) ?_;refine aP (by first | omega | (unfold ay; omega) | (intro h0; have:=of_decide_eq_true h0; omega) | (unfold big; omega)) ?_;refine wi ?_ ?_<;>intro c12
       ·exact aC (aQ (λ h=>h hn0) (aQ (λ h=>h q1) (aQ (by rw [c2]; decide) (aQ (λ h=>h q3) (aQ (by rw [c5]; decide) (aQ (λ h=>h q5) (aQ (λ h=>h q6) (eT (λ h=>by have:=h.2 g3.toNat om g6.toNat om; rw [this] at c12; cases c12)))))))))
       refine aP (by first | omega | (unfold ay; omega) | (intro h0; have:=of_decide_eq_true h0; omega) | (unfold big; omega)) ?_;refine LC _ ?_ ?_
       ·(refine ⟨om,fq xU Nt c12⟩)
       omega
      refine aP (by first | omega | (unfold ay; omega) | (intro h0; have:=of_decide_eq_true h0; omega) | (unfold big; omega)) ?_;refine aeT _ ?_ ?_
      ·(refine ⟨om,fq rG Y0 (λ j hj=>xU j om)⟩)
      omega
     (refine ⟨om,λ j hj=>by (try dsimp only at hj); omega⟩)
    have q7:auo b_ l_ aj g_:=⟨q7a,λ i hi=>rG i om⟩;refine aG (aby) λ v15 acj=>?_;refine wi ?_ ?_<;>intro c13
    ·exact aC (aQ (λ h=>h hn0) (aQ (λ h=>h q1) (aQ (by rw [c2]; decide) (aQ (λ h=>h q3) (aQ (by rw [c5]; decide) (aQ (λ h=>h q5) (aQ (λ h=>h q6) (aQ (λ h=>h q7) (eT (λ h=>lI acj c13 h.1))))))))))
    have q8a:=acj.1 c13;refine bS (λ (g7:Int)=>0<=g7∧(∀i:Nat,(i:Int)<g7->anW g_ (l_.getD (aj.getD i 0).toNat bK))) (λ (g7:Int)=>(aj.length - g7).toNat) ?_ ?_
    ·intro oJ g7 abw Zl;obtain ⟨abx,DW⟩:=abw;unfold JZ;refine wi ?_ ?_<;>intro c14
     ·have hmi:=(q1.1 g7.toNat om).1;have hnd:=getD_in (l:=l_) (i:=(aj.getD g7.toNat 0).toNat) bK om;have hno:=nok.2.2 _ hnd;have hns:=n4 _ hnd;obtain ⟨o1,o2,o3,o4,o5,o6,o7⟩:=id hno;refine aP (by first | omega | (unfold ay; omega) | (intro h0; have:=of_decide_eq_true h0; omega) | (unfold big; omega)) ?_;refine aP (by first | omega | (unfold ay; omega) | (intro h0; have:=of_decide_eq_true h0; omega) | (unfold big; omega)) ?_;refine aP (by first | omega | (unfold ay; omega) | (intro h0; have:=of_decide_eq_true h0; omega) | (unfold big; omega)) ?_;refine bV ?_ ?_<;>intro c15
      ·have asx:=c15;have c15:=eX c15;exact aC (aQ (λ h=>h hn0) (aQ (λ h=>h q1) (aQ (by rw [c2]; decide) (aQ (λ h=>h q3) (aQ (by rw [c5]; decide) (aQ (λ h=>h q5) (aQ (λ h=>h q6) (aQ (λ h=>h q7) (eT (λ h=>by have:=h.2 g7.toNat om c15.1; rw [this] at c15; cases c15.2))))))))))
      have asx:=c15;have c15:=eX c15;refine aP (by first | omega | (unfold ay; omega) | (intro h0; have:=of_decide_eq_true h0; omega) | (unfold big; omega)) ?_;refine Zl _ ?_ ?_
      ·(refine ⟨om,fq DW abx (λ h0=>?_)⟩; simp only [als,decide_eq_false_iff_not,ajz] at asx; exact asx.resolve_left (λ q=>q h0))
      omega
     exact aC (aQ (λ h=>h hn0) (aQ (λ h=>h q1) (aQ (by rw [c2]; decide) (aQ (λ h=>h q3) (aQ (by rw [c5]; decide) (aQ (λ h=>h q5) (aQ (λ h=>h q6) (aQ (λ h=>h q7) (aQ (λ h=>h ⟨q8a,λ i hi=>DW i om⟩) rfl)))))))))
    (refine ⟨om,λ j hj=>by (try dsimp only at hj); omega⟩)
   (refine ⟨om,λ j hj=>by (try dsimp only at hj); omega⟩)
  (refine ⟨om,λ j hj=>by (try dsimp only at hj); omega⟩)
 (refine ⟨om,by (dsimp only; omega),by (simp only [apv]; omega),rfl,λ i hi=>by (try dsimp only at hi); omega⟩)
def apX (w:aI) (g:aM):aM×Int:=bif (kL w g).1 then ((kL w g).2,0) else (g,2)
variable {w:aI} {g:aM}
theorem Y2 {g':aM} (h:kL w g=(false,g')):(g,2)=apX w g:=by unfold apX; rw [h]; rfl
theorem Jc {g':aM} (h:kL w g=(true,g')):(g',0)=apX w g:=by unfold apX; rw [h]; rfl
theorem auq (h:w.Value<0):kL w g=(false,g):=by unfold kL; rw [decide_eq_true h]; rfl
theorem ag1 (h:0<=w.Value) (k:w.dG=1):kL w g=((A9 g.Setting w.Unit w.Value).1,{ g with Setting:=(A9 g.Setting w.Unit w.Value).2 }):=by unfold kL; rw [k,decide_eq_false om]; rfl
theorem ag2 (h:0<=w.Value) (k:w.dG=2):kL w g=((A9 g.bB.bC w.Unit w.Value).1,{ g with bB:=⟨g.bB.On,(A9 g.bB.bC w.Unit w.Value).2⟩ }):=by unfold kL; rw [k,decide_eq_false om]; rfl
theorem ag3 (h:0<=w.Value) (k:w.dG=3):kL w g=(bif decide (w.Value<=1) then ((A9 g.bB.On w.Unit (w.Value==1)).1,{ g with bB:=⟨(A9 g.bB.On w.Unit (w.Value==1)).2,g.bB.bC⟩ }) else (false,g)):=by unfold kL; rw [k,decide_eq_false (show ¬ w.Value<0 by omega)]; rfl
theorem asy (h:0<=w.Value) (k:w.dG=11):kL w g=(bif decide (w.Value<=1) then ((A9 g.Released w.Unit (w.Value==1)).1,{ g with Released:=(A9 g.Released w.Unit (w.Value==1)).2 }) else (false,g)):=by unfold kL; rw [k,decide_eq_false (show ¬ w.Value<0 by omega)]; rfl
theorem asz (h:0<=w.Value) (k:w.dG=12):kL w g=(bif decide (w.Value<=1) then ((A9 g.aY w.Unit (w.Value==1)).1,{ g with aY:=(A9 g.aY w.Unit (w.Value==1)).2 }) else (false,g)):=by unfold kL; rw [k,decide_eq_false (show ¬ w.Value<0 by omega)]; rfl
theorem ap0 (h:0<=w.Value) (k:w.dG=10):kL w g=(bif !(decide (0<=w.Unit)&&decide (w.Unit<=23)) then (false,g) else (true,{ g with Uses:=abp w.Unit w.Value (LB w.Unit g.Uses) })):=by unfold kL; rw [k,decide_eq_false (show ¬ w.Value<0 by omega)]; rfl
theorem agx (h:¬w.dG=1∧¬w.dG=2∧¬w.dG=3∧¬w.dG=11∧¬w.dG=12∧¬w.dG=10):kL w g=(false,g):=by
 unfold kL;obtain ⟨h1,h2,h3,h4,h5,h6⟩:=h;rw [show (w.dG==1)=false by simpa using h1,show (w.dG==2)=false by simpa using h2,show (w.dG==3)=false by simpa using h3,show (w.dG==11)=false by simpa using h4,show (w.dG==12)=false by simpa using h5,show (w.dG==10)=false by simpa using h6];cases decide (w.Value<0)<;>rfl
theorem V5 {α:Type} {l:List α} {u:Int} {v:α} (h:u<0∨(l.length:Int)<=u):A9 l u v=(false,l):=by
 unfold A9;rw [show (decide (u<0)||decide ((l.length:Int)<=u))=true by simpa using h]; rfl
theorem vT {α:Type} {l:List α} {u:Int} {v:α} (h:0<=u) (k:u<l.length):A9 l u v=(true,l.set u.toNat v):=by
 unfold A9;rw [decide_eq_false om,decide_eq_false om]; rfl
theorem ajJ {i:Int} {o:azw} (h0:0<=i) (h1:i<o.length):(aia o (0+i.toNat) ((o.drop (0+(i+1).toNat)).take (o.length - (i+1).toNat))).take (i.toNat+(o.length - (i+1).toNat))=o.eraseIdx i.toNat:=by
 refine auc bA ?_ ?_
 ·rw [ahj,jG,List.length_eraseIdx_of_lt om];omega
 intro t ht;rw [ahj,jG] at ht;rw [Rx _ _ _ _ om,ac8 bA om,aiB];simp only [ahj,aqR];by_cases c:t<i.toNat
 ·rw [if_neg om,if_pos c]
 rw [if_pos om,if_neg c,Rx _ _ _ _ om,akT];congr 1;omega
def ApK (g:aM) (w:aI) (p:Int×Bool):Prop:=(w.dG=1∧p=((g.Setting.length:Int),false))∨(w.dG=2∧p=((g.bB.bC.length:Int),false))∨(w.dG=3∧p=((g.bB.On.length:Int),true))∨(w.dG=11∧p=((g.Released.length:Int),true))∨(w.dG=12∧p=((g.aY.length:Int),true))∨(w.dG=10∧p=(24,false))
theorem asA {p:Int×Bool} (h:ApK g w p) (c:((w.Unit<0∨p.1<=w.Unit)∨w.Value<0)∨p.2=true∧1<w.Value):(g,2)=apX w g:=by
 by_cases hv:w.Value<0
 ·exact Y2 (auq hv)
 have hv:0<=w.Value:=by omega
 rcases h with ⟨k,rfl⟩ | ⟨k,rfl⟩ | ⟨k,rfl⟩ | ⟨k,rfl⟩ | ⟨k,rfl⟩ | ⟨k,rfl⟩
 ·refine Y2 (g':=g) ?_;rw [ag1 hv k,V5 (by simp at c; omega)]
 ·refine Y2 (g':=g) ?_;rw [ag2 hv k,V5 (by simp at c; omega)]
 ·refine Y2 (g':=g) ?_;rw [ag3 hv k];by_cases q:w.Value<=1
  ·rw [decide_eq_true q,V5 (by simp at c; omega)]; rfl
  rw [decide_eq_false q]; rfl
 ·refine Y2 (g':=g) ?_;rw [asy hv k];by_cases q:w.Value<=1
  ·rw [decide_eq_true q,V5 (by simp at c; omega)]; rfl
  rw [decide_eq_false q]; rfl
 ·refine Y2 (g':=g) ?_;rw [asz hv k];by_cases q:w.Value<=1
  ·rw [decide_eq_true q,V5 (by simp at c; omega)]; rfl
  rw [decide_eq_false q]; rfl
 refine Y2 (g':=g) ?_;rw [ap0 hv k,show (!(decide (0<=w.Unit)&&decide (w.Unit<=23)))=true by simp at c ⊢; omega]; rfl
theorem lu {g_:aM} {w_:aI} {g1:Int×Bool}   (hc:Ai g_∧w_.Value<=9223372036854775807∧ApK g_ w_ g1):W (jO g_ w_ g1) (λ r=>r=apX w_ g_):=by
 obtain ⟨aiE,akZ,FX⟩:=hc;unfold jO;refine bV ?_ ?_<;>intro c1
 ·have gD:=c1;have c1:=eX c1;exact aC (asA FX c1)
 have gD:=c1;have c1:=eX c1;obtain ⟨d1,d2,d3,d4⟩:0<=w_.Unit∧w_.Unit<g1.1∧0<=w_.Value∧(g1.2=true->w_.Value<=1):=(by simp only [aff,als,decide_eq_false_iff_not] at gD; refine ⟨om,om,om,λ e=>?_⟩; rcases gD.2 with q | q; (rw [e] at q; cases q); omega);obtain ⟨z1,z2,z3,z4,z5,z6⟩:=id aiE;refine aG (aeO ob) λ v1 hv1=>?_;subst v1;refine wi ?_ ?_<;>intro c2
 ·have hp:g1=((g_.Setting.length:Int),false):=(by rcases FX with ⟨k,e⟩ | ⟨k,e⟩ | ⟨k,e⟩ | ⟨k,e⟩ | ⟨k,e⟩ | ⟨k,e⟩<;>first | exact e | omega);rw [hp] at d2 d4;dsimp only at d2 d4;refine wn<|aC ?_;(exact Jc (by rw [ag1 d3 c2,vT d1 d2]))
 refine wi ?_ ?_<;>intro c3
 ·have hp:g1=((g_.bB.bC.length:Int),false):=(by rcases FX with ⟨k,e⟩ | ⟨k,e⟩ | ⟨k,e⟩ | ⟨k,e⟩ | ⟨k,e⟩ | ⟨k,e⟩<;>first | exact e | omega);rw [hp] at d2 d4;dsimp only at d2 d4;refine wn<|aC ?_;(exact Jc (by rw [ag2 d3 c3,vT d1 d2]))
 refine wi ?_ ?_<;>intro c4
 ·have hp:g1=((g_.bB.On.length:Int),true):=(by rcases FX with ⟨k,e⟩ | ⟨k,e⟩ | ⟨k,e⟩ | ⟨k,e⟩ | ⟨k,e⟩ | ⟨k,e⟩<;>first | exact e | omega);rw [hp] at d2 d4;dsimp only at d2 d4;refine wn<|aC ?_;(exact Jc (by rw [ag3 d3 c4,decide_eq_true (d4 rfl),vT d1 d2]; rfl))
 refine wi ?_ ?_<;>intro c5
 ·have hp:g1=((g_.Released.length:Int),true):=(by rcases FX with ⟨k,e⟩ | ⟨k,e⟩ | ⟨k,e⟩ | ⟨k,e⟩ | ⟨k,e⟩ | ⟨k,e⟩<;>first | exact e | omega);rw [hp] at d2 d4;dsimp only at d2 d4;refine wn<|aC ?_;(exact Jc (by rw [asy d3 c5,decide_eq_true (d4 rfl),vT d1 d2]; rfl))
 refine wi ?_ ?_<;>intro c6
 ·have hp:g1=((g_.aY.length:Int),true):=(by rcases FX with ⟨k,e⟩ | ⟨k,e⟩ | ⟨k,e⟩ | ⟨k,e⟩ | ⟨k,e⟩ | ⟨k,e⟩<;>first | exact e | omega);rw [hp] at d2 d4;dsimp only at d2 d4;refine wn<|aC ?_;(exact Jc (by rw [asz d3 c6,decide_eq_true (d4 rfl),vT d1 d2]; rfl))
 refine wi ?_ ?_<;>intro c7
 ·have hp:g1=((24:Int),false):=(by rcases FX with ⟨k,e⟩ | ⟨k,e⟩ | ⟨k,e⟩ | ⟨k,e⟩ | ⟨k,e⟩ | ⟨k,e⟩<;>first | exact e | omega);rw [hp] at d2 d4;dsimp only at d2 d4;have hA:kL w_ g_=(true,{ g_ with Uses:=abp w_.Unit w_.Value (LB w_.Unit g_.Uses) }):=(by rw [ap0 d3 c7,show (!(decide (0<=w_.Unit)&&decide (w_.Unit<=23)))=false by simp; omega]; rfl);refine bS (λ (g4:Int)=>0<=g4∧g4<=g_.Uses.length∧(g_.Uses.take g4.toNat).any (R3 w_.Unit)=false) (λ (g4:Int)=>(g_.Uses.length - g4).toNat) ?_ ?_
  ·intro gW g4 I5 Gr;obtain ⟨xS,mH,H9⟩:=I5;unfold Nn;refine wi ?_ ?_<;>intro c8
   ·refine wn<|bV ?_ ?_<;>intro c9
    ·have c9o:=c9;have c9:=eX c9;have hI:NP g_.Uses (R3 w_.Unit)=g4:=aep (d:=bA) xS om H9 (by unfold R3; simpa using c9o);refine wm<|wm ?_;unfold wD;refine wn<|bV ?_ ?_<;>intro c10
     ·have acB:=c10;have c10:=eX c10;refine wm<|aC ?_;(refine (Jc hA).symm ▸ ?_; unfold abp LB; rw [hI,decide_eq_true xS,acB]; simp only [cond_true]; rw [ajJ xS om])
     have acB:=c10;have c10:=eX c10;refine aC ?_;(refine (Jc hA).symm ▸ ?_; unfold abp LB; rw [hI,decide_eq_true xS,acB]; simp only [cond_true,cond_false]; rw [ajJ xS om])
    have c9o:=c9;have c9:=eX c9;refine wn<|Gr _ ?_ ?_
    ·(refine ⟨ob,ob,?_⟩; rw [show (g4+1).toNat=g4.toNat+1 by omega,any_take_succ _ _ bA om,H9]; unfold R3; simpa using c9o)
    exact ob
   have hI:decide (0<=NP g_.Uses (R3 w_.Unit))=false:=(by rw [nV]; rw [aiI om] at H9; exact H9);unfold wD;refine wn<|bV ?_ ?_<;>intro c11
   ·have aiG:=c11;have c11:=eX c11;refine wm<|aC ?_;(refine (Jc hA).symm ▸ ?_; unfold abp LB; rw [hI,aiG,alj]; rfl)
   have aiG:=c11;have c11:=eX c11;refine aC ?_;(refine (Jc hA).symm ▸ ?_; unfold abp LB; rw [hI,aiG,alj]; rfl)
  (refine ⟨ob,ob,by simp⟩)
 refine aC ?_;(exfalso; rcases FX with ⟨k,e⟩ | ⟨k,e⟩ | ⟨k,e⟩ | ⟨k,e⟩ | ⟨k,e⟩ | ⟨k,e⟩<;>omega)
theorem abJ {b_:aV} {g_:aM} {w_:aI} (h1:Ai g_) (h2:w_.Value<=9223372036854775807):W (H8 b_ g_ w_) (λ r=>r=apX w_ g_):=by
 obtain ⟨z1,z2,z3,z4,z5,z6⟩:=id h1;unfold H8;refine wi ?_ ?_<;>intro c1
 ·exact lu (by (exact ⟨h1,h2,.inl ⟨c1,rfl⟩⟩))
 refine wi ?_ ?_<;>intro c2
 ·exact lu (by (exact ⟨h1,h2,.inr (.inl ⟨c2,rfl⟩)⟩))
 refine wi ?_ ?_<;>intro c3
 ·exact lu (by (exact ⟨h1,h2,.inr (.inr (.inl ⟨c3,rfl⟩))⟩))
 refine wi ?_ ?_<;>intro c4
 ·exact lu (by (exact ⟨h1,h2,.inr (.inr (.inr (.inl ⟨c4,rfl⟩)))⟩))
 refine wi ?_ ?_<;>intro c5
 ·exact lu (by (exact ⟨h1,h2,.inr (.inr (.inr (.inr (.inl ⟨c5,rfl⟩))))⟩))
 refine wi ?_ ?_<;>intro c6
 ·exact lu (by (exact ⟨h1,h2,.inr (.inr (.inr (.inr (.inr (⟨c6,rfl⟩)))))⟩))
 exact aC (Y2 (agx ⟨c1,c2,c3,c4,c5,c6⟩))
theorem Sp.XJ {l:azv} {d:azy} (h:(Sp.qH l d).2=0):(Sp.qH l d).1.On.length=l.length∧(Sp.qH l d).1.bC.length=l.length:=by
 unfold Sp.qH at h ⊢;cases h1:Sp.zJ l d != 0 with
 | true=>rw [h1] at h; simp at h1; exact absurd h h1
 | false=>
  rw [h1] at h;cases h2:decide (0<=(Sp.Uw l d).2)||!Sp.fH l ⟨Sp.gQ l d,(Sp.Uw l d).1.lv⟩ d with
  | true=>rw [h2] at h; cases h
  | false=>
   simp only [aff,ajz] at h2;have hm:=h2.2;unfold Sp.fH at hm;cases h3:!Sp.mR l ⟨Sp.gQ l d,(Sp.Uw l d).1.lv⟩||!Sp.iN l d with
   | true=>rw [h3] at hm; cases hm
   | false=>
    simp only [aff,ajz] at h3;have:=(Sp.EP.1 h3.1).2;exact ⟨this.On,this.len⟩
theorem aqN {b:aV} (h:amZ b):Lx b:=by
 obtain ⟨b1,b2,b3,b4,b5,b6,b7,b8,b9⟩:=h;exact ⟨om,λ i hi=>by have:=b2 _ (getD_in (i:=i) aL hi); omega,om,λ g hg=>by have:=b6 g hg; omega,om,λ g hg=>by have:=b8 g hg; omega,om⟩
theorem V6 {α:Type} {l:List α} {i:Int} {v:α} {n:Nat} (h:l.length<=n):(A9 l i v).2.length<=n:=by rw [anC]; exact h
theorem an0 {n:Nat} (h:Ai g) (hn:g.Uses.length<=n) (h2:n<2000000):Ai (kL w g).2∧(kL w g).2.Uses.length<=n+1:=by
 obtain ⟨z1,z2,z3,z4,z5,z6⟩:=id h;have hn1:g.Uses.length<=n+1:=by omega
 have h0:Ai g∧g.Uses.length<=n+1:=⟨h,hn1⟩;unfold kL;cases decide (w.Value<0) with
 | true=>exact h0
 | false=>
  cases w.dG==1 with
  | true=>exact ⟨⟨V6 z1,z2,z3,z4,z5,z6⟩,hn1⟩
  | false=>
   cases w.dG==2 with
   | true=>exact ⟨⟨z1,z2,V6 z3,z4,z5,z6⟩,hn1⟩
   | false=>
    cases w.dG==3 with
    | true=>
     cases decide (w.Value<=1) with
     | true=>exact ⟨⟨z1,V6 z2,z3,z4,z5,z6⟩,hn1⟩
     | false=>exact h0
    | false=>
     cases w.dG==11 with
     | true=>
      cases decide (w.Value<=1) with
      | true=>exact ⟨⟨z1,z2,z3,z4,V6 z5,z6⟩,hn1⟩
      | false=>exact h0
     | false=>
      cases w.dG==12 with
      | true=>
       cases decide (w.Value<=1) with
       | true=>exact ⟨⟨z1,z2,z3,z4,z5,V6 z6⟩,hn1⟩
       | false=>exact h0
      | false=>
       cases w.dG==10 with
       | true=>
        cases !(decide (0<=w.Unit)&&decide (w.Unit<=23)) with
        | true=>exact h0
        | false=>
         have hd:(LB w.Unit g.Uses).length<=n:=by
          unfold LB;cases decide (0<=NP g.Uses (R3 w.Unit)) with
          | true=>exact afQ (List.length_eraseIdx_le ..) hn
          | false=>exact hn
         have ha:(abp w.Unit w.Value (LB w.Unit g.Uses)).length<=n+1:=by
          unfold abp;cases decide (0<w.Value) with
          | true=>simp only [cond_true,afa,alk]; omega
          | false=>simp only [cond_false]; omega
         exact ⟨⟨z1,z2,z3,afQ ha om,z5,z6⟩,ha⟩
       | false=>exact h0
end Go.Proofs.YtifekdmmpbcdgaaGreatDoor

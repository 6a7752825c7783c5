/- A part of the proof. -/
import Derived.Test.YtifekdmmpbcdgaaGreatDoorA8
import Derived.Test.YtifekdmmpbcdgaaGreatDoorA7
import Derived.Test.YtifekdmmpbcdgaaGreatDoorA6
import Derived.Test.YtifekdmmpbcdgaaGreatDoorProg
import Derived.Test.YtifekdmmpbcdgaaGreatDoorA4
import Derived.RangeFuncBox
import Derived.RangeFuncLeaves
import Derived.Shelf.Abstract
import Derived.WalkKit
import Derived.OwnWalkIn
import Derived.TacticsInMore
import Derived.LoopNIn
import Derived.LoopIn
import Derived.Test.YtifekdmmpbcdgaaGreatDoorCards
import Derived.Test.YtifekdmmpbcdgaaGreatDoorTie
import Derived.ProofKit
import Derived.OpenShut
import Derived.Carry
import Derived.LaidMore
import Derived.Deep.DeepHandedRow
set_option linter.unusedVariables false
set_option linter.unusedSimpArgs false
set_option maxHeartbeats 4000000
namespace Go.Proofs.YtifekdmmpbcdgaaGreatDoor
open Go.Ab
set_option maxRecDepth 100000
def Md (out:dV->Option Int) (D:Nat->Option Nat):Prop:=∀k:Nat,out (.i (k:Int))=(D k).map λ m=>(m:Int)
def QL (n:Nat) (D:Nat->Option Nat):Nat:=(List.range n).countP λ k=>(D k).isSome
theorem aak (n:Nat) (D:Nat->Option Nat):QL n D<=n:=by
 have:=au9 (p:=λ k=>(D k).isSome) (l:=List.range n);rwa [ayq] at this
theorem RF (n:Nat) (D:Nat->Option Nat):QL (n+1) D=QL n D+(if (D n).isSome=true then 1 else 0):=by
 unfold QL;rw [List.range_succ,asZ,ayL]
variable {D:Nat->Option Nat}
theorem alc {D':Nat->Option Nat} :∀ {n:Nat},(∀k,k<n->D k=D' k)->QL n D=QL n D':=by
 intro n;induction n with
 | zero=>intro _; rfl
 | succ n ih=>intro h; rw [RF,RF,ih λ k hk=>h k om,h n om]
theorem abQ {y k:Nat} (hn:D y=none):∀ {n:Nat},y<n->QL n (Go.Bf.jo D y k)=QL n D+1:=by
 intro n;induction n with
 | zero=>intro h; omega
 | succ n ih=>
  intro h;rw [RF,RF];by_cases e:y=n
  ·subst e;rw [alc (D:=Go.Bf.jo D y k) (D':=D) λ j hj=>by unfold Go.Bf.jo; rw [if_neg om]];rw [show Go.Bf.jo D y k y=some k from if_pos rfl,hn]; rfl
  rw [ih om,show Go.Bf.jo D y k n=D n from if_neg (λ q=>e q.symm)]; omega
variable {out:dV->Option Int}
theorem asT (h:Md out D) (y k:Nat):Md (CX out (.i (y:Int)) ((k:Int)+1)) (Go.Bf.jo D y (k+1)):=by
 intro j;unfold CX Go.Bf.jo;by_cases e:j=y
 ·subst e; rw [if_pos rfl,if_pos rfl]; simp
 rw [if_neg (by intro q; injection q with q; omega),if_neg e]; exact h j
theorem abR (h:Md out D) {x k:Nat} (hx:D x=some k):jJ out (.i (x:Int))=k:=by
 unfold jJ; rw [h x,hx]; rfl
structure RqB (l:azs) (way:azz) (dn:azt) (qs:List azp) (known out:dV->Option Int) (L:azp) (off n:Nat) (D:Nat->Option Nat):Prop where
 kn:Kn l way known
 vs:∀q∈qs,VS l q
 on:off+n<=L.length
 q:(L.drop off).take n=qs.map λ s=>((gN l s:Nat):Int)
 md:Md out D
 lt:∀k m,D k=some m->k<gY l∧m<QL (gY l) D
 ct:dn.length+qs.length=QL (gY l) D
variable {l:azs} {way:azz} {dn:azt} {known:dV->Option Int} {L:azp} {off:Nat} {n:Nat}
theorem RqB.aor {qs:List azp} (h:RqB l way dn qs known out L off n D):n=qs.length:=by
 have:=congrArg List.length h.q;have h1:=h.on;rw [ahj,aqR,alg] at this;omega
theorem RqB.hd {s:azp} {qs:List azp} (h:RqB l way dn (s::qs) known out L off n D):L.getD (addN off 0) 0=((gN l s:Nat):Int):=by
 have hn:=h.aor;have h1:=h.on;have hq:=h.q;rw [ajO] at hn;rw [drop_cons (0:Int) om,show n=qs.length+1 from hn,List.take_succ_cons,aqD] at hq;have:=(List.cons.inj hq).1;have e:addN off 0=off:=by first | rfl | (cases off<;>rfl) | simp [addN]
 rw [e]; exact this
theorem ald {w_:aI} {x kx y:Nat} (hon:off+n<=L.length) (hn:0<n) (hn2:n<=1000000) (hmd:Md out D) (hL:L.getD (addN off 0) 0=(x:Int)) (hx:D x=some kx) (hk:kx<=1000000):
  W (jV w_ (y:Int) off n out L) (λ r=>(D y≠none->r=(off,n,out,L))∧(D y=none->r=(0,n+1,CX out (.i (y:Int)) ((kx:Int)+1),(L.drop off).take n++[(y:Int)]))):=by
 unfold jV;refine aP hon ?_;have hg:=abR hmd hx;refine bV ?_ ?_<;>intro c1
 ·have hnone:D y=none:=by
   rw [hmd y] at c1;cases hd:D y with
   | none=>rfl
   | some k=>rw [hd] at c1; simp at c1
  refine aP om ?_;rw [hL,hg];refine aP (by unfold ay; omega) ?_;refine aP (by unfold big; omega) ?_;exact aC ⟨λ h=>absurd hnone h,λ _=>rfl⟩
 refine aC ⟨λ _=>rfl,λ hnone=>?_⟩;rw [hmd y,hnone] at c1;simp at c1
def RqM (l:azs) (way:azz) (a:Nat) (dn:azt) (s:azp) (u v:Int) (known out:dV->Option Int) (L:azp) (off n:Nat):Prop:=
 ∃rest D,RqB l way dn (s::rest) known out L off n D∧Go.Bf.Gu (nbN l way) a (gN l s) dn (rest.map (gN l)) D (Nz l s u v)
variable {a:Nat} {u:Int} {v:Int}
theorem RqM.weak {s:azp} {u' v':Int} (h:RqM l way a dn s u v known out L off n) (hv:∀y,Nz l s u' v' y->Nz l s u v y):RqM l way a dn s u' v' known out L off n:=by
 obtain ⟨rest,D,h1,h2⟩:=h;exact ⟨rest,D,h1,Gu.weak h2 hv⟩
theorem RqM.kn' {s:azp} {known':dV->Option Int} (h:RqM l way a dn s u v known out L off n) (hk:Kn l way known'):RqM l way a dn s u v known' out L off n:=by
 obtain ⟨rest,D,h1,h2⟩:=h;exact ⟨rest,D,⟨hk,h1.vs,h1.on,h1.q,h1.md,h1.lt,h1.ct⟩,h2⟩
theorem RqM.get {s:azp} (h:RqM l way a dn s u v known out L off n):Kn l way known∧off+n<=L.length∧0<n∧n<=gY l:=by
 obtain ⟨rest,D,h1,h2⟩:=h;have hn:=h1.aor;have h3:=aak (gY l) D;have h4:=h1.ct;rw [ajO] at hn h4;exact ⟨h1.kn,h1.on,om,om⟩
theorem RqM.skip {s:azp} (h:RqM l way a dn s u v known out L off n) (u0:0<=u) (u1:u<l.length) (v0:0<=v) (v1:v<(l.getD u.toNat aL).aO.length)
  (hs:v=s.getD u.toNat 0∨pY l (s.set u.toNat v) way=false):RqM l way a dn s u (v+1) known out L off n:=by
 obtain ⟨rest,D,h1,h2⟩:=h;have hsv:=h1.vs s apo;refine ⟨rest,D,h1,Gu.weak (V:=λ z=>Nz l s u v z∨z=gN l (s.set u.toNat v)) ?_ (ER u0 u1 v0 v1)⟩;have hxv:VS l (s.set u.toNat v):=QI hsv v0 v1;refine h2.skip λ hn=>?_;obtain ⟨s',u',v',w1,w2,w3,w4⟩:=hn;have e:=Ie w1 hsv w2;subst e;have e2:=Ie (QI w1 w3.v0 w3.v1) hxv w4;rcases hs with hs | hs
 ·have e3:s'.set u.toNat v=s':=by
   rw [hs,adF,adH (by rw [w1.1]; omega)];exact asq (by rw [w1.1]; omega)
  rw [e3] at e2;have h3:(s'.set u' v').getD u' 0=v':=by
   rw [adF,aqI (by rw [w1.1]; exact w3.hu)]; rfl
  rw [e2] at h3;exact w3.ne h3.symm
 rw [<- e2] at hs;rw [w3.cm] at hs; cases hs
theorem RqM.visit {s:azp} (hz:gY l<=1000000) (h:RqM l way a dn s u v known out L off n) (u0:0<=u) (u1:u<l.length) (v0:0<=v) (v1:v<(l.getD u.toNat aL).aO.length)
  (hs:v≠s.getD u.toNat 0) (hc:pY l (s.set u.toNat v) way=true) {w_:aI}:W (jV w_ ((gN l (s.set u.toNat v):Nat):Int) off n out L) (λ r=>RqM l way a dn s u (v+1) known r.2.2.1 r.2.2.2 r.1 r.2.1):=by
 obtain ⟨_,g1,g2,g3⟩:=h.get;obtain ⟨rest,D,h1,h2⟩:=h;have hsv:=h1.vs s apo;have hxv:VS l (s.set u.toNat v):=QI hsv v0 v1;have hpl:=I6 hxv;obtain ⟨kx,hkx⟩:=h2.b.head;have hlt:=h1.lt _ _ hkx;have hcl:=aak (gY l) D;refine aaX (ald g1 g2 om h1.md h1.hd hkx om) λ r hr=>?_;cases hd:D (gN l (s.set u.toNat v)) with
 | some k'=>
  rw [hr.1 (by rw [hd]; nofun)];exact ⟨rest,D,h1,Gu.weak (h2.old hd) (ER u0 u1 v0 v1)⟩
 | none=>
  rw [hr.2 hd];have hnb:nbN l way (gN l s) (gN l (s.set u.toNat v)):=⟨s,u.toNat,v,hsv,rfl,⟨om,v0,om,hs,hc⟩,rfl⟩;have hcn:=abQ (k:=kx+1) hd hpl;refine ⟨rest++[s.set u.toNat v],Go.Bf.jo D (gN l (s.set u.toNat v)) (kx+1),⟨h1.kn,λ q hq=>?_,?_,?_,asT h1.md _ _,λ k m hm=>?_,?_⟩,?_⟩
  ·rw [<- apW] at hq;rcases alf.1 hq with hq | hq
   ·exact h1.vs q hq
   rw [ahf.1 hq]; exact hxv
  ·dsimp only;rw [afa,ahj,aqR,alk]; omega
  ·dsimp only;rw [List.drop_zero,h1.q,<- apW,as4,List.map_singleton,aiI (by rw [afa,alg,alk,<- h1.aor]; exact afg _)]
  ·rw [hcn];unfold Go.Bf.jo at hm;by_cases e:k=gN l (s.set u.toNat v)
   ·rw [if_pos e] at hm;have:=alm hm;exact ⟨by rw [e]; exact hpl,om⟩
   rw [if_neg e] at hm;have:=h1.lt k m hm;exact ⟨this.1,om⟩
  ·have:=h1.ct;rw [hcn];simp only [ajO,afa,apv] at this ⊢;omega
  rw [as4];exact Gu.weak (h2.new hkx hd hnb) (ER u0 u1 v0 v1)
theorem aos {s:azp} (h:CmK l way) (hz:gY l<=1000000) (h0:RqM l way a dn s 0 0 known out L off n) (hsv:VS l s):
  W (nS l way ((gN l s:Nat):Int) known off n out L) (λ r=>RqM l way a dn s l.length 0 r.1 r.2.2.2.1 r.2.2.2.2 r.2.1 r.2.2.1):=by
 have hll:=h.ck.ll;have hsl:=hsv.1;unfold nS;refine aP h0.get.2.1 ?_;refine aG (pG hsv hll om) λ v1 hv1=>?_;subst v1;refine bS (λ g1:Int×(dV->Option Int)×Nat×Nat×(dV->Option Int)×azp×azp=>0<=g1.1∧g1.1<=l.length∧g1.2.2.2.2.2.1=s∧RqM l way a dn s g1.1 0 g1.2.1 g1.2.2.2.2.1 g1.2.2.2.2.2.2 g1.2.2.1 g1.2.2.2.1) (λ g1=>(l.length - g1.1).toNat) ?_ ⟨ob,ob,rfl,h0⟩;intro ah g1 ⟨a1,a2,a3,a4⟩ ih1;unfold xJ;refine aP a4.get.2.1 ?_;refine wi ?_ ?_<;>intro c1
 ·refine wn<|aP (by rw [a3]; omega) ?_;refine bS (λ g4:Int×(dV->Option Int)×Nat×Nat×(dV->Option Int)×azp×azp=>0<=g4.1∧g4.1<=(l.getD g1.1.toNat aL).aO.length∧(g4.2.2.2.2.2.1.length=l.length∧∀x,g4.2.2.2.2.2.1.set g1.1.toNat x=s.set g1.1.toNat x)∧RqM l way a dn s g1.1 g4.1 g4.2.1 g4.2.2.2.2.1 g4.2.2.2.2.2.2 g4.2.2.1 g4.2.2.2.1)
   (λ g4=>((l.getD g1.1.toNat aL).aO.length - g4.1).toNat) ?_ ⟨ob,ob,by rw [a3]; exact ⟨hsl,λ _=>rfl⟩,a4⟩
  intro gW g4 ⟨b1,b2,⟨b3,b4⟩,b5⟩ ih4;have hch:=((sI h.ck.ck).big g1.1.toNat om).2;unfold xI;rw [a3];obtain ⟨bk,bo,bn,bz⟩:=b5.get;refine aP bo ?_;refine wi ?_ ?_<;>intro c2
  ·have hxv:VS l (s.set g1.1.toNat g4.1):=QI hsv b1 om;rw [b4];have hts:(s.set g1.1.toNat g4.1).length=l.length∧∀x,(s.set g1.1.toNat g4.1).set g1.1.toNat x=s.set g1.1.toNat x:=⟨by rw [ahl]; exact hsl,λ x=>aw9 ..⟩;refine aP om ?_;refine aG (mU hxv hll om) λ v26 aot=>?_;subst v26;refine bV ?_ ?_<;>intro c3
   ·have hne:g4.1≠s.getD g1.1.toNat 0:=by simpa using c3
    refine aG (CK h hxv om bk) λ v27 ⟨hv27,aou⟩=>?_;rw [hv27];refine bV ?_ ?_<;>intro c4
    ·have hc:pY l (s.set g1.1.toNat g4.1) way=true:=by
      simp only [aei] at c4;exact c4.2
     refine aG ((b5.kn' aou).visit hz a1 om b1 om hne hc) λ v28 hv28=>?_;refine aP hv28.get.2.1 ?_;refine wn ?_;exact ih4 _ ⟨ob,ob,hts,hv28⟩ ob
    have hc:pY l (s.set g1.1.toNat g4.1) way=false:=by
     cases q:pY l (s.set g1.1.toNat g4.1) way with
     | false=>rfl
     | true=>rw [q] at c4; simp at c4; exact absurd c4 hne
    refine wn ?_;exact ih4 _ ⟨ob,ob,hts,(b5.kn' aou).skip a1 om b1 om (.inr hc)⟩ ob
   have heq:g4.1=s.getD g1.1.toNat 0:=by simpa using c3
   refine aP (by simp [heq]) ?_;refine wn ?_;exact ih4 _ ⟨ob,ob,hts,b5.skip a1 om b1 om (.inl heq)⟩ ob
  refine aP om ?_;refine wn<|ih1 _ ⟨ob,ob,?_,b5.weak λ y hy=>ag7 a1 y om hy⟩ ob;dsimp only;rw [b4,adF,adH om];exact asq om
 have e:g1.1=l.length:=by omega
 refine aC ?_;rw [e] at a4;exact a4
def Lft (l:azs) (way:azz) (a:Nat) (out:dV->Option Int):Prop:=∃D,Md out D∧(∀k m,D k=some m->k<gY l∧m<gY l)∧(∀k m,D k=some m↔Go.Bf.IsD (nbN l way) a k m)∧∀k,D k=none->∀m,¬ Go.Bf.Rch (nbN l way) a m k
theorem aov {s:azp} (h:CmK l way) (hz:gY l<=1000000) (hsv:VS l s):
  W (qE l way ((gN l s:Nat):Int) (λ _=>none)) (λ r=>Kn l way r.1∧Lft l way (gN l s) r.2):=by
 have hpl:=I6 hsv;unfold qE;refine bS (λ g1:(dV->Option Int)×Nat×Nat×(dV->Option Int)×azp=>∃dn qs D,RqB l way dn qs g1.1 g1.2.2.2.1 g1.2.2.2.2 g1.2.1 g1.2.2.1 D∧Go.Bf.Bfs (nbN l way) (gN l s) dn (qs.map (gN l)) D)
  (λ g1=>gY l - ((List.range (gY l)).countP (λ k=>(g1.2.2.2.1 (.i ((k:Nat):Int))).isSome) - g1.2.2.1)) ?_ ?_
 ·intro ah g1 ⟨dn,qs,D,h1,h2⟩ ih1;unfold Aq;refine aP h1.on ?_;have hcl:=aak (gY l) D;have hn:=h1.aor;have hct:=h1.ct;have hcnt:∀ {out:dV->Option Int} {D:Nat->Option Nat},Md out D->(List.range (gY l)).countP (λ k=>(out (.i ((k:Nat):Int))).isSome)=QL (gY l) D:=λ {out D} hm=>by
   unfold QL;congr 1;funext k;rw [hm k]; cases D k<;>rfl
  refine wi ?_ ?_<;>intro c1
  ·match qs,h1,h2,hn,hct with
   | [],_,_,hn,_=>simp at hn; omega
   | t::rest,h1,h2,hn,hct=>
    have htv:=h1.vs t apo
    refine aP om ?_
    rw [h1.hd]
    have hm0:RqM l way (gN l s) dn t 0 0 g1.1 g1.2.2.2.1 g1.2.2.2.2 g1.2.1 g1.2.2.1:=by
     rw [aqD] at h2
     exact ⟨rest,D,h1,Gu.weak h2.mid λ y hy=>by obtain ⟨u',v',_,q2,_,q4,_⟩:=hy; omega⟩
    refine aG (aos h hz hm0 htv) λ v3 hv3=>?_
    obtain ⟨_,o1,o2,o3⟩:=hv3.get
    refine aP o1 ?_
    refine aP om ?_
    obtain ⟨rest',D',w1,w2⟩:=hv3
    have wn:=w1.aor
    have wc:=w1.ct
    have wl:=aak (gY l) D'
    rw [ajO] at wn wc hn hct
    refine ih1 _ ⟨dn++[gN l t],rest',D',⟨w1.kn,λ q hq=>w1.vs q (akb _ hq),?_,?_,w1.md,w1.lt,?_⟩,w2.done λ y hy=>?_⟩ ?_
    ·dsimp only; omega
    ·dsimp only
     have hq:=w1.q
     obtain ⟨m,hm⟩:∃m,v3.2.2.1=m+1:=⟨v3.2.2.1 - 1,om⟩
     rw [hm,drop_cons (0:Int) om,List.take_succ_cons,aqD] at hq
     rw [hm,Nat.add_sub_cancel]
     exact (List.cons.inj hq).2
    ·rw [afa,alk]; omega
    ·obtain ⟨s',u',v',q1,q2,q3,q4⟩:=hy
     have:=Ie q1 htv q2
     subst this
     exact ⟨u',v',q3.hu,q3.v0,q3.v1,.inl (by have:=q3.hu; omega),q4.symm⟩
    dsimp only
    rw [hcnt h1.md,hcnt w1.md]
    omega
  have hq0:qs=[]:=as2.1 om;subst hq0;refine aC ⟨h1.kn,D,h1.md,λ k m hm=>?_,λ k m=>h2.final k m,λ k hk m=>h2.none hk m⟩;have:=h1.lt k m hm;exact ⟨this.1,om⟩
 refine ⟨[],[s],λ x=>if x=gN l s then some 0 else none,⟨asS,λ q hq=>by rw [ahf.1 hq]; exact hsv,by simp,by simp,λ k=>?_,λ k m hm=>?_,?_⟩,Go.Bf.Bfs.start⟩
 ·unfold CX;dsimp only;by_cases e:k=gN l s
  ·subst e; simp
  rw [if_neg e,if_neg (by intro q; injection q with q; omega)]; rfl
 ·have e:QL (gY l) (λ x=>if x=gN l s then some 0 else none)=1:=by
   have:=abQ (D:=λ _=>none) (y:=gN l s) (k:=0) rfl hpl;rw [show QL (gY l) (λ _=>none)=0 from by unfold QL; simp] at this;exact this
  rw [e];by_cases q:k=gN l s
  ·rw [if_pos q] at hm; have:=alm hm; exact ⟨by rw [q]; exact hpl,om⟩
  rw [if_neg q] at hm; cases hm
 have:=abQ (D:=λ _=>none) (y:=gN l s) (k:=0) rfl hpl;rw [show QL (gY l) (λ _=>none)=0 from by unfold QL; simp] at this;exact this.symm
theorem Kl {l_:azs} {s_:azp} (h1:l_.length<=2000000) (h2:s_.length<=2000000) (h3:acn l_):W (vO l_ s_) (λ r=>r=((eD l_==0)&&kH l_ s_)):=by
 unfold vO;refine aG (Ac (rM h1)) λ v1 hv1=>?_;subst v1;refine aG (gM λ hc=>kY (wF h1 h2 h3)) λ v2 hv2=>?_;subst v2;exact aC rfl
variable {t:azp}
theorem ZA {f:azp} (h:CmK l way) (hlm:mF l way=true) (hf:VS l f) (ht:VS l t) (c1:pY l f way=true) (c2:pY l t way=true):
  W (El l f t way) (λ r=>r=(l,way,0,λ _=>none)):=by
 have h1:=h.ck.ll;have h2:=h.ck.wl;have h3:=hf.1;have h4:=ht.1;have hck:=h.ck.ck;unfold El;refine aG (Ac (rM h1)) λ v1 hv1=>?_;rw [hck] at hv1;subst v1;refine aP rfl ?_;refine aG (Qi h1 h2) λ v3 hv3=>?_;rw [hlm] at hv3;subst v3;refine aG (vH λ _=>Kl h1 om h.ch) λ v4 hv4=>?_;have e4:v4=true:=by rw [hv4 rfl,hck,VX hf]; rfl
 subst e4;refine aG (vH λ _=>Kl h1 om h.ch) λ v5 hv5=>?_;have e5:v5=true:=by rw [hv5 rfl,hck,VX ht]; rfl
 subst e5;refine aP rfl ?_;refine aG (QK h hf) λ v6 hv6=>?_;rw [c1] at hv6;subst v6;refine aP rfl ?_;refine aG (QK h ht) λ v7 hv7=>?_;rw [c2] at hv7;subst v7;refine aP rfl ?_;exact aC rfl
def EvP (l:azs) (way:azz) (D:Nat->Option Nat) (s:azp) (d:Nat) (p0:azr) (u v next:Int) (plan:azr):Prop:=
 (next = -1∧plan=p0∧∀y,Nz l s u v y->nbN l way (gN l s) y->D y≠some (d - 1))∨(∃(t:azp) (x:Nat) (y:Int),VS l t∧(next=((gN l t:Nat):Int)∧D (gN l t)=some (d - 1))∧(t=s.set x y∧x<l.length∧(0<=y∧y<=4611686018427387904)∧s.getD x 0≠y)∧plan=p0++[⟨1,x,y⟩])
theorem EvP.weak {s:azp} {d:Nat} {p0:azr} {u' v' next:Int} {plan:azr} (h:EvP l way D s d p0 u v next plan) (hv:∀y,Nz l s u' v' y->nbN l way (gN l s) y->Nz l s u v y∨D y≠some (d - 1)):EvP l way D s d p0 u' v' next plan:=by
 rcases h with ⟨h1,h2,h3⟩ | h
 ·refine .inl ⟨h1,h2,λ y hy hn=>?_⟩;rcases hv y hy hn with q | q
  ·exact h3 y q hn
  exact q
 exact .inr h
theorem ajT {s:azp} {u:Nat} (hs:VS l s) (hu:u<l.length) (v0:0<=v) (v1:v<(l.getD u aL).aO.length) (hv:v=s.getD u 0∨pY l (s.set u v) way=false):¬ nbN l way (gN l s) (gN l (s.set u v)):=by
 intro hn;have hxv:VS l (s.set u v):=QI hs v0 v1;obtain ⟨s',u',v',w1,w2,w3,w4⟩:=hn;have e:=Ie w1 hs w2;subst e;have e2:=Ie (QI w1 w3.v0 w3.v1) hxv w4;rcases hv with hv | hv
 ·have e3:s'.set u v=s':=by
   rw [hv,adF,adH (by rw [w1.1]; omega)];exact asq (by rw [w1.1]; omega)
  rw [e3] at e2;have h3:(s'.set u' v').getD u' 0=v':=by
   rw [adF,aqI (by rw [w1.1]; exact w3.hu)]; rfl
  rw [e2] at h3;exact w3.ne h3.symm
 rw [<- e2] at hv;rw [w3.cm] at hv; cases hv
theorem asU (hD:∀k m,D k=some m↔Go.Bf.IsD (nbN l way) a k m) (hN:∀k,D k=none->∀m,¬ Go.Bf.Rch (nbN l way) a m k) {x y m:Nat} (hx:D x=some m) (hn:nbN l way x y):∃k,D y=some k:=by
 cases h:D y with
 | some k=>exact ⟨k,rfl⟩
 | none=>exact absurd (.s ((hD x m).1 hx).1 hn) (hN y h (m+1))
theorem aow {left:dV->Option Int} {s:azp} {d:Nat} {plan:azr} (h:CmK l way) (hz:gY l<=1000000) (hsv:VS l s) (hkn:Kn l way known) (hmd:Md left D) (hD:∀k m,D k=some m↔Go.Bf.IsD (nbN l way) a k m)
  (hN:∀k,D k=none->∀m,¬ Go.Bf.Rch (nbN l way) a m k) (ha:okN l way a) (hd:D (gN l s)=some (d+1)) (hd2:d<=1000000) (hp:plan.length<=10000000):
  W (nT l way ((gN l s:Nat):Int) known (-1) ((gN l s:Nat):Int) left plan) (λ r=>Kn l way r.1∧∃(t:azp) (x:Nat) (y:Int),VS l t∧(r.2.1=((gN l t:Nat):Int)∧D (gN l t)=some d)∧(t=s.set x y∧x<l.length∧(0<=y∧y<=4611686018427387904)∧s.getD x 0≠y)∧r.2.2=plan++[⟨1,x,y⟩]):=by
 have hll:=h.ck.ll;have hsl:=hsv.1;have hgs:=abR hmd hd;unfold nT;refine aG (pG hsv hll om) λ v1 hv1=>?_;subst v1;refine bS (λ g1:Int×(dV->Option Int)×Int×azp×azr=>0<=g1.1∧g1.1<=l.length∧g1.2.2.2.1=s∧Kn l way g1.2.1∧EvP l way D s (d+1) plan g1.1 0 g1.2.2.1 g1.2.2.2.2) (λ g1=>(l.length - g1.1).toNat) ?_ ⟨ob,ob,rfl,hkn,.inl ⟨rfl,rfl,λ y hy=>by obtain ⟨u',v',_,q2,_,q4,_⟩:=hy; omega⟩⟩;intro ah g1 ⟨a1,a2,a3,a4,a5⟩ ih1;unfold xL;refine wi ?_ ?_<;>intro c1
 ·refine wn<|aP (by rw [a3]; omega) ?_;refine bS (λ g4:Int×(dV->Option Int)×Int×azp×azr=>0<=g4.1∧g4.1<=(l.getD g1.1.toNat aL).aO.length∧(g4.2.2.2.1.length=l.length∧∀x,g4.2.2.2.1.set g1.1.toNat x=s.set g1.1.toNat x)∧Kn l way g4.2.1∧EvP l way D s (d+1) plan g1.1 g4.1 g4.2.2.1 g4.2.2.2.2)
   (λ g4=>((l.getD g1.1.toNat aL).aO.length - g4.1).toNat) ?_ ⟨ob,ob,by rw [a3]; exact ⟨hsl,λ _=>rfl⟩,a4,a5⟩
  intro gW g4 ⟨b1,b2,⟨b3,b4⟩,bk,b5⟩ ih4;have hch:=((sI h.ck.ck).big g1.1.toNat om).2;unfold xK;rw [a3];refine wi ?_ ?_<;>intro c2
  ·have hxv:VS l (s.set g1.1.toNat g4.1):=QI hsv b1 om;rw [b4];have hts:(s.set g1.1.toNat g4.1).length=l.length∧∀x,(s.set g1.1.toNat g4.1).set g1.1.toNat x=s.set g1.1.toNat x:=⟨by rw [ahl]; exact hsl,λ x=>aw9 ..⟩;refine aP om ?_;refine aG (mU hxv hll om) λ v26 aot=>?_;subst v26;refine bV ?_ ?_<;>intro c3
   ·have hne:g4.1≠s.getD g1.1.toNat 0:=by simpa using c3
    refine aG (CK h hxv om bk) λ v27 ⟨hv27,aou⟩=>?_;rw [hv27];refine bV ?_ ?_<;>intro c4
    ·have hc:pY l (s.set g1.1.toNat g4.1) way=true:=by
      simp only [aei] at c4;exact c4.2
     have hnb:nbN l way (gN l s) (gN l (s.set g1.1.toNat g4.1)):=⟨s,g1.1.toNat,g4.1,hsv,rfl,⟨om,b1,om,hne,hc⟩,rfl⟩;obtain ⟨m,hm⟩:=asU hD hN hd hnb;have hgm:=abR hmd hm;have hmr:W (uM (⟨(1:Int),g1.1,g4.1⟩:aI) ((gN l (s.set g1.1.toNat g4.1):Nat):Int) g4.2.2.1 ((gN l s:Nat):Int) left g4.2.2.2.2) (λ r=>EvP l way D s (d+1) plan g1.1 (g4.1+1) r.1 r.2):=by
      unfold uM;refine aP (λ _=>by rw [hgs]; unfold ay; omega) ?_;refine bV ?_ ?_<;>intro c5
      ·rw [hgs,hgm] at c5;simp only [aei,decide_eq_true_eq,beq_iff_eq] at c5;have hpl:g4.2.2.2.2=plan:=by
        rcases b5 with ⟨_,q,_⟩ | ⟨t,x,y,_,⟨q,_⟩,_⟩
        ·exact q
        omega
       refine aP (by rw [hpl]; unfold big; omega) ?_;refine aC (.inr ⟨_,g1.1.toNat,g4.1,hxv,⟨rfl,?_⟩,⟨rfl,om,⟨b1,om⟩,λ e=>hne e.symm⟩,?_⟩)
       ·rw [hm]; congr 1; omega
       dsimp only; rw [hpl,show ((g1.1.toNat:Nat):Int)=g1.1 by omega]
      refine aC ?_;rcases b5 with ⟨q1,q2,q3⟩ | q
      ·refine .inl ⟨q1,q2,λ y hy hn=>?_⟩;rcases ER a1 om b1 om y hy with w | w
       ·exact q3 y w hn
       subst w;intro e;rw [hm] at e;have e:=alm e;rw [hgs,hgm,q1] at c5;simp at c5;omega
      exact .inr q
     refine aG hmr λ v28 hv28=>?_;refine wn ?_;exact ih4 _ ⟨ob,ob,hts,aou,hv28⟩ ob
    have hc:pY l (s.set g1.1.toNat g4.1) way=false:=by
     cases q:pY l (s.set g1.1.toNat g4.1) way with
     | false=>rfl
     | true=>rw [q] at c4; simp at c4; exact absurd c4 hne
    refine wn<|ih4 _ ⟨ob,ob,hts,aou,b5.weak λ y hy hn=>?_⟩ ob;rcases ER a1 om b1 om y hy with w | w
    ·exact .inl w
    subst w; exact absurd hn (ajT hsv om b1 om (.inr hc))
   have heq:g4.1=s.getD g1.1.toNat 0:=by simpa using c3
   refine aP (by simp [heq]) ?_;refine wn<|ih4 _ ⟨ob,ob,hts,bk,b5.weak λ y hy hn=>?_⟩ ob;rcases ER a1 om b1 om y hy with w | w
   ·exact .inl w
   subst w; exact absurd hn (ajT hsv om b1 om (.inl heq))
  refine aP om ?_;refine wn<|ih1 _ ⟨ob,ob,?_,bk,b5.weak λ y hy _=>.inl (ag7 a1 y om hy)⟩ ob;dsimp only;rw [b4,adF,adH om];exact asq om
 have e:g1.1=l.length:=by omega
 refine aC ⟨a4,?_⟩;rcases a5 with ⟨_,_,q⟩ | q
 ·exfalso;obtain ⟨x,hx,hn⟩:=((hD _ _).1 hd).prev;have hok:=(hx.1.rev (C:=okN l way) ha λ _ _=>ajM).1;have hn2:=(ajM hok hn).2;obtain ⟨s',u',v',w1,w2,w3,w4⟩:=hn2;have e2:=Ie w1 hsv w2;subst e2;refine q x ⟨u',v',w3.hu,w3.v0,w3.v1,.inl (by have:=w3.hu; omega),w4.symm⟩ ⟨s',u',v',w1,rfl,w3,w4⟩ ?_;exact (hD x d).2 hx
 exact q
def PlR (l:azs) (way:azz) (f t:azp) (r:azr×Int):Prop:=
 (∃m,Go.Bf.IsD (nbN l way) (gN l t) (gN l f) m∧r.2=0∧r.1.length=m∧m<gY l∧(∀x∈r.1,x.dG=1)∧∃s,∀g:aM,g.Setting=f->Ch g r.1 { g with Setting:=s })∨((∀m,¬ Go.Bf.Rch (nbN l way) (gN l t) m (gN l f))∧r.2=9∧r.1=[])
theorem abS {f:azp} (h:CmK l way) (hz:gY l<=1000000) (hlm:mF l way=true) (hf:VS l f) (ht:VS l t) (c1:pY l f way=true) (c2:pY l t way=true):W (Hf l f t way) (PlR l way f t):=by
 have hll:=h.ck.ll;unfold Hf;refine aG (ZA h hlm hf ht c1 c2) λ v1 hv1=>?_;subst v1;refine bV (λ c=>by simp at c) (λ _=>?_);refine aG (mU ht hll (by dsimp only; omega)) λ v2 hv2=>?_;subst v2;refine aG (aov h hz ht) λ v3 ⟨hk,D,hmd,hlt,hD,hN⟩=>?_;refine aG (mU hf hll (by dsimp only; omega)) λ v4 hv4=>?_;subst v4;refine bV ?_ ?_<;>intro c
 ·refine aC (.inr ⟨?_,rfl,rfl⟩);cases hd:D (gN l f) with
  | none=>exact hN _ hd
  | some m=>rw [hmd,hd] at c; simp at c
 obtain ⟨m,hm⟩:∃m,D (gN l f)=some m:=by
  cases hd:D (gN l f) with
  | some m=>exact ⟨m,rfl⟩
  | none=>rw [hmd,hd] at c; simp at c
 have hm2:gN l f<gY l∧m<gY l:=hlt _ _ hm;refine bS (λ g1:Int×(dV->Option Int)×azr=>Kn l way g1.2.1∧∃s d,VS l s∧g1.1=((gN l s:Nat):Int)∧D (gN l s)=some d∧g1.2.2.length+d=m∧(∀x∈g1.2.2,x.dG=1)∧∀g:aM,g.Setting=f->Ch g g1.2.2 { g with Setting:=s }) (λ g1=>(jJ v3.2 (.i g1.1)).toNat) ?_ ⟨hk,f,m,hf,rfl,hm,by simp,nofun,λ g hg=>by subst hg; exact .nil g⟩;intro ah g1 ⟨q1,s,d,q2,q3,q4,q5,q6,q7⟩ ih1;have hg:=abR hmd q4;unfold MF;rw [q3,hg];refine wi ?_ ?_<;>intro c5
 ·obtain ⟨d',rfl⟩:∃d',d=d'+1:=⟨d - 1,om⟩;refine aG (aow h hz q2 q1 hmd hD hN ⟨t,ht,rfl,c2⟩ q4 om om) λ v7 ⟨w1,x,u,v,w2,⟨w3,w4⟩,⟨w5,w6,⟨w7,w8⟩,w9⟩,w10⟩=>?_;have hsl:=q2.1;refine ih1 _ ⟨w1,x,d',w2,w3,w4,by dsimp only; rw [w10,afa,alk]; omega,λ y hy=>?_,λ g hg=>?_⟩ ?_
  ·dsimp only at hy;rw [w10] at hy;rcases alf.1 hy with q | q
   ·exact q6 y q
   rw [ahf.1 q]
  ·dsimp only;rw [w10,w5];exact (q7 g hg).app (asB (g:={ g with Setting:=s }) (u:=(u:Int)) om (by have w6:u<l.length:=w6; dsimp only; omega) w7 w8 w9)
  dsimp only;rw [w3,q3,abR hmd w4,hg];omega
 refine aC (.inl ⟨m,(hD _ _).1 hm,rfl,by dsimp only; omega,hm2.2,q6,_,q7⟩)
variable {l_:azu} {R6:azp}
theorem ahb {b_:aV} {g_:aM} (h1:Lx b_) (h2:GSz b_.aU) (h3:UA l_) (h4:R6.length<=10000) (h5:Ai g_):W (Cj b_ l_ R6 g_) (λ r=>r=true↔NV b_ l_ R6 g_ false 0):=by
 unfold Cj;refine aG (Zt h1 h2 h3 h4 h5) λ v1 hv1=>aC ⟨λ e=>?_,λ h=>?_⟩
 ·have e:v1=0:=by simpa using e
  rw [e] at hv1; exact hv1
 rw [NV.fun _ _ hv1 h]; rfl
def lmM (l:azu) (ms:azp):azz:=ms.flatMap λ m=>(l.getD m.toNat bK).dx
variable {ms:azp}
theorem adC {α:Type} {f:Int->List α} {i:Nat} (h:i<ms.length):(ms.take (i+1)).flatMap f=(ms.take i).flatMap f++f (ms.getD i 0):=by
 rw [as3,adH h,auU,adF,adH h];simp
theorem ale (hm:R6.length<=10000) (hr:∀m∈R6,0<=m∧m<l_.length) (hb:∀n∈l_,n.dx.length<=100):W (Ej l_ R6) (λ r=>r=lmM l_ R6):=by
 unfold Ej rT;refine aG (P:=λ r=>r=lmM l_ R6) ?_ λ v1 hv1=>aC hv1;refine bS (λ g:Int×azz=>0<=g.1∧g.1<=R6.length∧g.2=lmM l_ (R6.take g.1.toNat)∧g.2.length<=100*g.1.toNat) (λ g=>(R6.length - g.1).toNat) ?_ ⟨ob,ob,rfl,alh _⟩;intro self g ⟨a1,a2,a3,a4⟩ ih;unfold vN;refine wi ?_ ?_<;>intro c1
 ·have hlt:g.1.toNat<R6.length:=by omega
  have hmem:R6.getD g.1.toNat 0∈R6:=by rw [adF,adH hlt]; exact anK hlt
  have hrr:=hr _ hmem;have hnl:(R6.getD g.1.toNat 0).toNat<l_.length:=by omega
  have hnb:=hb (l_.getD (R6.getD g.1.toNat 0).toNat bK) (by rw [adF,adH hnl]; exact anK hnl);refine aP om ?_;refine bV (λ _=>?_) (λ c2=>?_)
  ·refine aP om ?_;refine aG (P:=λ r=>r=(l_.getD (R6.getD g.1.toNat 0).toNat bK).dx) (aC rfl) λ v3 hv3=>?_;subst v3;refine aP (by unfold big; omega) ?_;refine wn<|ih _ ⟨ob,ob,?_,?_⟩ ob
   ·dsimp only;rw [show (g.1+1).toNat=g.1.toNat+1 by omega,a3];unfold lmM;rw [adC hlt]
   dsimp only;rw [afa]; omega
  rw [decide_eq_true hrr.1,decide_eq_true hrr.2] at c2; cases c2
 refine aC ?_;rw [a3,aiI om]
theorem aox (hm:R6.length<=10000) (hr:∀m∈R6,0<=m∧m<l_.length) (hb:∀n∈l_,n.fJ.length<=100):W (G8 l_ R6) (λ r=>r=drM l_ R6∧r.length<=1000000):=by
 unfold G8 tK;refine aG (P:=λ r=>r=drM l_ R6∧r.length<=1000000) ?_ λ v1 hv1=>aC hv1;refine bS (λ g:Int×azy=>0<=g.1∧g.1<=R6.length∧g.2=drM l_ (R6.take g.1.toNat)∧g.2.length<=100*g.1.toNat) (λ g=>(R6.length - g.1).toNat) ?_ ⟨ob,ob,rfl,alh _⟩;intro self g ⟨a1,a2,a3,a4⟩ ih;unfold xE;refine wi ?_ ?_<;>intro c1
 ·have hlt:g.1.toNat<R6.length:=by omega
  have hmem:R6.getD g.1.toNat 0∈R6:=by rw [adF,adH hlt]; exact anK hlt
  have hrr:=hr _ hmem;have hnl:(R6.getD g.1.toNat 0).toNat<l_.length:=by omega
  have hnb:=hb (l_.getD (R6.getD g.1.toNat 0).toNat bK) (by rw [adF,adH hnl]; exact anK hnl);refine aP om ?_;refine bV (λ _=>?_) (λ c2=>?_)
  ·refine aP om ?_;refine aG (P:=λ r=>r=(l_.getD (R6.getD g.1.toNat 0).toNat bK).fJ) (aC rfl) λ v3 hv3=>?_;subst v3;refine aP (by unfold big; omega) ?_;refine wn<|ih _ ⟨ob,ob,?_,?_⟩ ob
   ·dsimp only;rw [show (g.1+1).toNat=g.1.toNat+1 by omega,a3];unfold drM;rw [adC hlt]
   dsimp only;rw [afa]; omega
  rw [decide_eq_true hrr.1,decide_eq_true hrr.2] at c2; cases c2
 refine aC ⟨?_,om⟩;rw [a3,aiI om]
variable {b:aV}
theorem ahc {l:azu} {g:aM} (h:NV b l ms g false 0) (hm:∀m∈ms,0<=m∧m<l.length) (hn:∀n∈l,∀x∈n.dx,Uz b.bP.length x):eD b.bP=0∧VS b.bP g.Setting∧pY b.bP g.Setting (lmM l ms)=true:=by
 obtain ⟨_,h⟩:=gX (by decide) h;obtain ⟨h2,h⟩:=gX (by decide) h;obtain ⟨h3,h⟩:=gX (by decide) h;obtain ⟨h4,_⟩:=gX (by decide) h;have q2:=alN.1 h2;have q4:=alN.1 h4;have h3:fH b.bP g.Setting []=true:=by
  cases e:fH b.bP g.Setting [] with
  | true=>rfl
  | false=>exact absurd e h3
 obtain ⟨c1,c2,c3⟩:=RA h3;obtain ⟨⟨s1,_⟩,s2,_⟩:=q2.2;have hs:VS b.bP g.Setting:=⟨om,λ i hi=>s2 i om⟩;refine ⟨c1,hs,?_⟩;unfold pY;rw [c3,aq0,ahk,List.any_map,aml];intro x hx;unfold lmM at hx;obtain ⟨m,hmm,hxm⟩:=auR.1 hx;obtain ⟨i,hi,rfl⟩:=aln.1 hmm;have hr:=hm _ hmm;have hnl:(ms[i]).toNat<l.length:=by omega
 have hnm:l.getD (ms[i]).toNat bK∈l:=by rw [adF,adH hnl]; exact anK hnl
 have hok:=hn _ hnm x hxm;obtain ⟨j,hj,rfl⟩:=aln.1 hxm;have hl:=q4 i om;rw [show ms.getD i 0=ms[i] by rw [adF,adH hi]; rfl] at hl;have hx2:=hl j om;rw [show (l.getD (ms[i]).toNat bK).dx.getD j dN=(l.getD (ms[i]).toNat bK).dx[j] by rw [adF,adH hj]; rfl] at hx2;generalize (l.getD (ms[i]).toNat bK).dx[j]=x at hok hx2;obtain ⟨x1,x2,x3⟩:=hx2;have hv:=(Lp (sI c1) c2 x.eO.toNat (by have:=hok.k0; have:=hok.kl; omega)).2.2.1;show ¬ RV (fU b.bP g.Setting) (aiO x)=true;unfold RV aiO;dsimp only;rw [aeU x1,abE hv (by
  have hd:=(mD hv).2.2.1
  have:=x3 rfl
  have h0:0<=x.lC*((fU b.bP g.Setting).getD x.eO.toNat dW).jD:=auO hok.l0 om
  omega) x2]
 decide
def eqH (v x:aJ):Bool:=(v.gP==x.gP)&&((v.gZ.bT==x.gZ.bT)&&((v.gZ.dJ==x.gZ.dJ)&&true))
theorem ajU {v x:aJ}:eqH v x=true↔v=x:=by
 obtain ⟨d,⟨g,f⟩⟩:=v;obtain ⟨d',⟨g',f'⟩⟩:=x;unfold eqH;simp only [aei,beq_iff_eq,Bool.true_eq,aJ.mk.injEq,mW.mk.injEq,and_true]
theorem aqd {s_:azw} {v_:aJ} (h1:s_.length<=2000000):W (ou s_ v_) (λ r=>r=true↔v_∈s_):=by
 have hi:W (rR s_ v_) (λ r=>r=NP s_ (eqH v_)):=amX (d:=bA) (P:=eqH v_) om;refine aaX (Ac (J7 hi (nV _ _))) λ r hr=>?_;rw [hr,aoH];constructor
 ·rintro ⟨x,hx,e⟩; rw [ajU.1 e]; exact hx
 intro h; exact ⟨v_,h,ajU.2 rfl⟩
theorem aiQ {f t:aM} {m:dV->Option Int} (hm:ms.length<=10000) (hu:f.Uses.length<=100000) (hv:t.Uses.length<=100000) (hb:∀u∈f.Uses,0<=u.gZ.dJ∧u.gZ.dJ<=2000000) (hg:GmP t.Uses m):
  W (dI (yV f t ms m) (0:Int)) (λ r=>(r=8∨r=0)∧(f=t->r=0)):=by
 refine bS (λ g:Int=>0<=g∧g<=f.Uses.length) (λ g=>(f.Uses.length - g).toNat) ?_ ⟨ob,ob⟩;intro self g ⟨a1,a2⟩ ih;unfold yV;refine bV (λ c1=>?_) (λ c1=>aC ⟨.inr rfl,λ _=>rfl⟩);have c1:=eX c1;have hmem:=getD_in (l:=f.Uses) (i:=g.toNat) bA om;have hbu:=hb _ hmem;generalize f.Uses.getD g.toNat bA=u at hmem hbu;refine aP om ?_;refine aP (λ _=>by unfold ay; omega) ?_;refine aG (vH λ _=>Ac (rW (s_:=ms) (v_:=u.gP) om)) λ v12 VF=>?_;refine aG (vH λ _=>vH λ _=>aqd (s_:=t.Uses) (v_:=(⟨u.gP,⟨u.gZ.bT,u.gZ.dJ⟩⟩:aJ)) om) λ v13 NQ=>?_;refine bV (λ c2=>aC ⟨.inl rfl,λ e=>?_⟩) (λ c2=>aP ob (ih _ ⟨ob,ob⟩ ob));subst e;have h1:((m (.i u.gZ.bT)).isSome&&((jJ m (.i u.gZ.bT)) != (u.gZ.dJ+(1:Int))))=false:=by
  unfold jJ;rw [hg.to u hmem];simp
 rw [h1,avB,aei,ahk] at c2;rw [(NQ h1 c2.1).2 hmem] at c2;cases c2.2
variable {U:azw}
theorem afb {p:bR} (h2:GSz p) (o:EC p (U.map aJ.gZ)):∀u∈U,0<=u.gZ.dJ∧u.gZ.dJ<=2000000:=λ u hu=>by
 have w:=LQ o u hu;have w1:=w.g0;have w2:=w.gl;have w3:=w.f0;have w4:=w.fl;have q3:=(h2 (p.aH.getD u.gZ.bT.toNat aN) (by
  rw [adF,adH om]; exact anK _)).2
 omega
theorem afc {p:bR} (o:EC p (U.map aJ.gZ)):(U.map λ u=>u.gZ.bT).Nodup:=by
 have:=asQ o;rw [List.map_map] at this;exact this
theorem aoy {l:azu} {f t:aM} (h1:Lx b) (h2:GSz b.aU) (h3:UA l) (hm:ms.length<=10000) (hf:Ai f) (ht:Ai t) (hu:f.Uses.length<=100000) (hv:t.Uses.length<=100000) (hd:CJ l ms) (q1:NV b l ms f false 0) (q2:NV b l ms t false 0):
  W (Br b l f t ms) (λ r=>(r=8∨r=0)∧(f=t->r=0)):=by
 have hn:=alN.1 (gX (by decide) q1).1;unfold Br;refine aG (TN h1 h2 h3) λ v1 hv1=>?_;have e:=uj.fun _ _ hv1 hn;subst e;refine bV (λ c=>by cases c) (λ _=>?_);refine bS (λ g:Int=>0<=g) (λ g=>(ms.length - g).toNat) ?_ (apw _);intro self g a1 ih;unfold JG;refine bV ?_ ?_<;>intro c1
 ·have c1:=eX c1;obtain ⟨hx,hk⟩:=hd g.toNat om;refine aP om ?_;refine aP (λ _=>by omega) ?_;have hz:(decide (ms.getD g.toNat 0<0)||decide ((l.length:Int)<=ms.getD g.toNat 0))=false:=by
   rw [aff,decide_eq_false_iff_not,decide_eq_false_iff_not]; omega
  refine aG (vH λ _=>Ac (rW (s_:=ms.take g.toNat) (v_:=ms.getD g.toNat 0) (by rw [ahj]; omega))) λ v4 hv4=>?_;have e4:v4=false:=by
   rw [hv4 hz];cases q:(ms.take g.toNat).contains (ms.getD g.toNat 0) with
   | false=>rfl
   | true=>
    obtain ⟨k,k1,k2⟩:=(Ja om).1 q;exact absurd k2 (hk k k1)
  rw [hz,e4];refine bV (λ c2=>by cases c2) (λ _=>?_);exact aP ob (ih _ om om)
 refine aG (ahb h1 h2 h3 hm hf) λ v5 hv5=>?_;refine aG (vH λ _=>ahb h1 h2 h3 hm ht) λ v6 hv6=>?_;have e5:=hv5.2 q1;subst e5;have e6:=(hv6 rfl).2 q2;subst e6;refine bV (λ c2=>by cases c2) (λ _=>?_);have o1:=(aeZ q1).2;have o2:=(aeZ q2).2;refine aG (XL hv (afc o2) (afb h2 o2)) λ v7 hv7=>?_;exact aiQ hm hu hv (afb h2 o1) hv7
def hG (U:azw) (i:Nat):Bool:=U.any λ u=>u.gZ.bT==((i:Nat):Int)
theorem aoz {m:dV->Option Int} (h:GmP U m) (hf:∀u∈U,0<=u.gZ.dJ∧u.gZ.dJ<=2000000) (i:Nat):decide ((0:Int)<jJ m (.i ((i:Nat):Int)))=hG U i∧(jJ m (.i ((i:Nat):Int))==0)=!hG U i:=by
 cases e:m (.i ((i:Nat):Int)) with
 | none=>
  have hg:hG U i=false:=by
   unfold hG;rw [aml];intro u hu q;have q:u.gZ.bT=((i:Nat):Int):=by simpa using q
   have:=h.to u hu;rw [q,e] at this; cases this
  unfold jJ;rw [e,hg];exact ⟨rfl,rfl⟩
 | some v=>
  obtain ⟨u,hu,e1,rfl⟩:=h.of _ v e;have hb:=hf u hu;have hg:hG U i=true:=by
   unfold hG;rw [aoH];exact ⟨u,hu,by simpa using e1⟩
  unfold jJ;rw [e,hg];refine ⟨decide_eq_true (by show (0:Int)<u.gZ.dJ+1; omega),?_⟩;show (u.gZ.dJ+1==0)=false;simp; omega
theorem aiR {l:azu} {g:aM} {bt:Bool} (h:NV b l ms g bt 0):∀n∈l,∀x∈n.dx,Uz b.bP.length x:=by
 obtain ⟨h1,_⟩:=gX (by decide) h;exact λ n hn=>((zS (alN.1 h1)).2.2 n hn).lm
structure asV (l:azu):Prop where
 ll:∀n∈l,n.dx.length<=1
 dl:∀n∈l,n.fJ.length<=100
theorem aqe {l:azu} (h:CJ l ms):∀m∈ms,0<=m∧m<l.length:=λ m hm=>by
 obtain ⟨i,hi,rfl⟩:=aln.1 hm;have:=(h i om).1;rwa [adF,adH hi] at this
theorem asW {l:azu} (h:∀n∈l,∀x∈n.dx,Uz b.bP.length x) (hr:∀m∈ms,0<=m∧m<l.length):∀x∈lmM l ms,Uz b.bP.length x:=λ x hx=>by
 unfold lmM at hx;obtain ⟨m,hm,hxm⟩:=auR.1 hx;have:=hr m hm;have hn:m.toNat<l.length:=by omega
 exact h _ (by rw [adF,adH hn]; exact anK hn) x hxm
theorem asX {l:azu} (h:asV l):∀ {ms:azp},(∀m∈ms,0<=m∧m<l.length)->(lmM l ms).length<=ms.length:=by
 intro ms;induction ms with
 | nil=>intro _; exact afg _
 | cons m ms ih=>
  intro hr;have h1:=ih λ x hx=>hr x (akb _ hx);have h2:=hr m apo;have hn:m.toNat<l.length:=by omega
  have h3:=h.ll (l.getD m.toNat bK) (by rw [adF,adH hn]; exact anK hn);show ((l.getD m.toNat bK).dx++lmM l ms).length<=_;rw [afa,ajO]; omega
theorem aqf {w:azz} (h1:eD l=0) (h2:w.length<=32) (h3:∀x∈w,Uz l.length x):mF l w=true:=by
 unfold mF;rw [h1,decide_eq_true om,show w.any (Ka l.length)=false from ?_]
 ·rfl
 rw [aml];intro x hx;have:=h3 x hx;rw [aqM];unfold Ka dS;have a:=this.k0; have b:=this.kl; have c:=this.l0; have d:=this.lh; have e:=this.hi;simp only [aff,ajz,aei,decide_eq_true_eq];omega
def pdE (U V:azw) (i:Nat):Nat:=if hG U i=hG V i then 0 else 1
structure aoA (f t:aM) (ws:azr):Prop where
 le:ws.length<=400
 eq:f=t->ws=[]
 ch:∃h,Ch f ws h
 c11:Jd 11 ws=vB (dmE f.Released t.Released) f.Released.length
 c12:Jd 12 ws=vB (dmE f.aY t.aY) f.aY.length
 c10:Jd 10 ws=vB (pdE f.Uses t.Uses) 24
def ayr (f t:aM) (r:Int×azr):Prop:=((r.1=9∨r.1=8)∨r.1=0∧aoA f t r.2)∧(f=t->r.1=0)
theorem Wo {p:Nat->Bool} {w:Nat->aI} (h:∀i,p i=false) (n:Nat):sel p w n=[]:=by
 induction n with
 | zero=>rfl
 | succ n ih=>rw [sel,ih,h]; rfl
theorem aoB {l:azp} (h:l.Nodup):l.reverse.Nodup:=List.pairwise_reverse.2 (h.imp λ h=>h.symm)
theorem asY {p q:Nat->Bool} {f:Nat->Nat} {w w':Nat->aI} (h:∀i,(bif p i then 1 else 0)+(bif q i then 1 else 0)=f i) (n:Nat):(sel p w n).length+(sel q w' n).length=vB f n:=by
 rw [aeX,aeX,<- sum_add];exact ak9 h n
theorem adD {V:azw} {m m':dV->Option Int} (h:GmP U m) (h':GmP V m') (hf:∀u∈U,0<=u.gZ.dJ∧u.gZ.dJ<=2000000) (hf':∀u∈V,0<=u.gZ.dJ∧u.gZ.dJ<=2000000) (i:Nat):pnP m m' i=(hG U i&&!hG V i):=by
 unfold pnP; rw [(aoz h hf i).1,(aoz h' hf' i).2]
theorem aoC:∀ {l:azs},(∀c∈l,c.aO.length<=3)->gY l<=3 ^ l.length:=by
 intro l;induction l with
 | nil=>intro _; exact afg _
 | cons c l ih=>
  intro h;have h1:=ih λ x hx=>h x (akb _ hx);have h2:=h c apo;rw [gY,ajO,Nat.pow_succ,asR (3 ^ l.length)];exact ayZ h2 h1
theorem ajV {l:azu} {f t:aM} (h0:amZ b) (h3:UA l) (hm:ms.length<=20) (hf:Ai f) (ht:Ai t) (hu:f.Uses.length<=100000) (hv:t.Uses.length<=100000) (hnl:asV l) (hd:CJ l ms) (q1:NV b l ms f false 0) (q2:NV b l ms t false 0):
  W (qF b l f t ms) (ayr f t):=by
 have h1:=aqN h0;have h2:GSz b.aU:=λ g hg=>by have:=h0.gr g hg; omega
 unfold qF;refine aG (aoy h1 h2 h3 om hf ht hu hv hd q1 q2) λ v1 ⟨hv1,hv2⟩=>?_;refine bV (λ c=>aC ⟨.inl (.inr (hv1.elim id λ e=>by rw [e] at c; cases c)),hv2⟩) (λ c=>?_);have hr:=aqe hd;obtain ⟨ck,vf,cf⟩:=ahc q1 hr (aiR q1);obtain ⟨_,vt,ct⟩:=ahc q2 hr (aiR q2);have b1:=aaj q1;have b2:=aaj q2;obtain ⟨⟨_,r1,r2,r3,r4⟩,_⟩:=b1.sh;obtain ⟨⟨_,s1,s2,s3,s4⟩,_⟩:=b2.sh;have l1:=h0.nre;have l2:=h0.nsu;have l3:=h0.ndo;have l4:=h0.ncl;have hsz:gY b.bP<=243:=afQ (aoC λ c hc=>(h0.cl c hc).2) (as1 om l4);have f1:=afb h2 b1.ow;have f2:=afb h2 b2.ow;refine aG (XL hu (afc b1.ow) f1) λ v2 g2=>?_;refine aG (XL hv (afc b2.ow) f2) λ v3 g3=>?_;refine aP om ?_;refine aG (P:=λ r=>r.2=0∧r.1=(lnL 0 f.Released t.Released).reverse) (by
  unfold Fj
  exact aG (aha om om) λ v h=>aC ⟨rfl,h⟩) λ v4 ⟨a4,n4⟩=>?_
 refine bV (λ c=>by rw [a4] at c; cases c) (λ _=>?_);have m4:=Jf (lnP 0 f.Released t.Released) (λ i=>⟨11,i,0⟩) f.Released.length;have e4:v4.1.length=(lnL 0 f.Released t.Released).length:=by rw [n4,as5]
 have m4:v4.1.length<=4:=by rw [e4]; unfold lnL; omega
 refine aP (by unfold big; omega) ?_;refine wn<|aP om ?_;refine aG (P:=λ r=>r.2=0∧r.1=sel (pnP v2 v3) (λ i=>⟨10,i,jJ v2 (.i ((i:Nat):Int))*0⟩) 24) (by
  unfold Fp
  exact aG (ajP (g2.bd f1) (.inl rfl)) λ v h=>aC ⟨rfl,h⟩) λ v5 ⟨a5,n5⟩=>?_
 refine bV (λ c=>by rw [a5] at c; cases c) (λ _=>?_);have m5:v5.1.length<=24:=by rw [n5]; exact Jf _ _ _
 refine aP (by unfold big; omega) ?_;refine wn<|aP om ?_;have su1:Sp.fH b.bI (⟨f.bB.On,f.bB.bC⟩:bq) (drM l ms)=true:=b1.su;have su2:Sp.fH b.bI (⟨t.bB.On,t.bB.bC⟩:bq) (drM l ms)=true:=b2.su;refine aG (P:=λ r=>RpR f.bB t.bB b.bI.length r) (by
  unfold Fq
  refine aG (aox om hr hnl.dl) λ v ⟨hv,hvl⟩=>?_
  subst hv
  exact aG (ae9 om om su1 su2) λ v h=>aC h) λ v6 p6=>?_
 have a6:=p6.ok;refine bV (λ c=>by rw [a6] at c; cases c) (λ _=>?_);have m6:=p6.le;refine aP (by unfold big; omega) ?_;refine wn<|aP om ?_;have lml:=asX hnl hr;have lmm:=asW (aiR q1) hr;have cmk:CmK b.bP (lmM l ms):=⟨⟨ck,om,om,λ x hx=>⟨(lmm x hx).k0,(lmm x hx).kl⟩⟩,h1.ch⟩;refine aG (P:=λ r=>PlR b.bP (lmM l ms) f.Setting t.Setting r) (by
  unfold Fw
  refine aG (ale om hr (λ n hn=>by have:=hnl.ll n hn; omega)) λ v hv=>?_
  subst hv
  exact aG (abS cmk om (aqf ck om lmm) vf vt cf ct) λ v h=>aC h) λ v7 p7=>?_
 have p8:v7.2=0∨v7.2=9:=by
  rcases p7 with ⟨m,_,e,_⟩ | ⟨_,e,_⟩
  ·exact .inl e
  exact .inr e
 refine bV (λ c=>aC ⟨.inl (.inl (p8.elim (λ e=>by rw [e] at c; cases c) id)),λ e=>?_⟩) (λ c7=>?_)
 ·rcases p7 with ⟨m,_,e,_⟩ | ⟨e2,_,_⟩
  ·exact e
  subst e; exact absurd .z (e2 0)
 obtain ⟨m,d7,a7,m7,z7,y7,t7,x7⟩:=p7.elim id λ ⟨_,e,_⟩=>by rw [e] at c7; cases c7
 refine aP (by unfold big; omega) ?_;refine wn<|aP om ?_;refine aG (P:=λ r=>r.2=0∧r.1=(sel (Zz f.aY t.aY) (λ i=>⟨12,i,0⟩) b.bX.length).reverse++sel (Zz t.aY f.aY) (λ i=>⟨12,i,1⟩) b.bX.length) (by
  unfold Fx
  exact aG (abP om b1.da b1.dm b2.dm) λ v h=>aC h) λ v8 ⟨a8,n8⟩=>?_
 refine bV (λ c=>by rw [a8] at c; cases c) (λ _=>?_);have m8:v8.1.length<=8:=by
  have x:=Jf (Zz f.aY t.aY) (λ i=>⟨12,i,0⟩) b.bX.length;have y:=Jf (Zz t.aY f.aY) (λ i=>⟨12,i,1⟩) b.bX.length;rw [n8,afa,as5]; omega
 refine aP (by unfold big; omega) ?_;refine wn<|aP om ?_;refine aG (P:=λ r=>r.2=0∧r.1=sel (pnP v3 v2) (λ i=>⟨10,i,jJ v3 (.i ((i:Nat):Int))*1⟩) 24) (by
  unfold Fy
  exact aG (ajP (g3.bd f2) (.inr rfl)) λ v h=>aC ⟨rfl,h⟩) λ v9 ⟨a9,n9⟩=>?_
 refine bV (λ c=>by rw [a9] at c; cases c) (λ _=>?_);have m9:v9.1.length<=24:=by rw [n9]; exact Jf _ _ _
 refine aP (by unfold big; omega) ?_;refine wn<|aP om ?_;refine aG (P:=λ r=>r.2=0∧r.1=lnL 1 f.Released t.Released) (by
  unfold Fz
  exact aG (aha om om) λ v h=>aC ⟨rfl,h⟩) λ v10 ⟨a10,n10⟩=>?_
 refine bV (λ c=>by rw [a10] at c; cases c) (λ _=>?_);have m10:=Jf (lnP 1 f.Released t.Released) (λ i=>⟨11,i,1⟩) f.Released.length;have e10:v10.1.length=(lnL 1 f.Released t.Released).length:=by rw [n10]
 have m10:v10.1.length<=4:=by rw [e10]; unfold lnL; omega
 refine aP (by unfold big; omega) ?_;refine wn<|bV (λ c=>by have c:=eX c; omega) (λ _=>?_);refine aC ⟨.inr ⟨rfl,⟨by dsimp only; simp only [afa]; omega,λ e=>?_,?_,?_,?_,?_⟩⟩,λ _=>rfl⟩
 ·subst e;have z7:v7.1=[]:=as2.1 (by rw [m7]; exact d7.uniq Go.Bf.IsD.self);dsimp only;have y1:∀v,lnL v f.Released f.Released=[]:=λ v=>Wo (λ i=>by unfold lnP; simp) _;have y2:∀i,Zz f.aY f.aY i=false:=λ i=>by unfold Zz; simp
  rw [n4,n5,p6.eq rfl,z7,n8,n9,n10,y1,y1,Wo y2,Wo y2,Wo (p:=pnP v2 v3) (λ i=>by rw [adD g2 g3 f1 f2]; simp),Wo (p:=pnP v3 v2) (λ i=>by rw [adD g3 g2 f2 f1]; simp)];rfl
 ·have ln:∀ {v:Int} {x:aI},(v=0∨v=1)->x∈lnL v f.Released t.Released->(x.dG=11∧(0<=x.Value∧x.Value<=1)∧(0<=x.Unit∧x.Unit<f.Released.length)∧f.Released.getD x.Unit.toNat false≠(x.Value==1))∧t.Released.getD x.Unit.toNat false=(v==1):=λ {v x} hv hx=>by
   obtain ⟨i,i1,i2,rfl⟩:=uV hx;unfold lnP at i2;simp only [aei,ahk,beq_iff_eq,beq_eq_false_iff_ne] at i2;dsimp only;rw [ahg];exact ⟨⟨rfl,om,om,λ e=>i2.1 (e.trans i2.2.symm)⟩,i2.2⟩
  have lnd:∀v,((lnL v f.Released t.Released).map aI.Unit).Nodup:=λ v=>abK (λ _=>rfl) _;have hgu:∀ {U:azw} {i:Nat},hG U i=true->∃u∈U,u.gZ.bT=(i:Int):=λ h=>by
   obtain ⟨u,u1,u2⟩:=aoH.1 h;exact ⟨u,u1,by simpa using u2⟩
  obtain ⟨x1,k1,k1l,k1j⟩:=agW (ws:=v4.1) (g:=f) (λ x hx=>(ln (.inl rfl) (auS.1 (by rwa [n4] at hx))).1) (by rw [n4,List.map_reverse]; exact aoB (lnd 0));obtain ⟨U1,k2,k2s⟩:=an5 (ws:=v5.1) (g:={ f with Released:=x1 }) (λ x hx=>by
   rw [n5] at hx;obtain ⟨i,i1,i2,rfl⟩:=uV hx;rw [adD g2 g3 f1 f2,aei] at i2;exact ⟨rfl,Int.mul_zero _,by dsimp only; omega,hgu i2.1⟩) (by rw [n5]; exact abK (λ _=>rfl) _)
  obtain ⟨x3,k3⟩:=p6.ch;obtain ⟨x5,k5⟩:=an2 (ws:=v8.1) (g:={ f with Released:=x1,Uses:=U1,bB:=x3,Setting:=t7 }) (λ x hx=>by
   rw [n8] at hx;rcases alf.1 hx with hx | hx
   ·obtain ⟨i,i1,i2,rfl⟩:=uV (auS.1 hx);unfold Zz at i2;simp only [aei] at i2;dsimp only;rw [ahg,i2.1];exact ⟨rfl,om,om,by decide⟩
   ·obtain ⟨i,i1,i2,rfl⟩:=uV hx;unfold Zz at i2;simp only [aei,ahk] at i2;dsimp only;rw [ahg,i2.2];exact ⟨rfl,om,om,by decide⟩) (by
   rw [n8,as4,List.map_reverse,List.nodup_append];refine ⟨aoB (abK (λ _=>rfl) _),abK (λ _=>rfl) _,λ a ha c hc e=>?_⟩;subst e;obtain ⟨y,hy,y1⟩:=aq1.1 (auS.1 ha);obtain ⟨w,hw,w1⟩:=aq1.1 hc;obtain ⟨i,_,i2,rfl⟩:=uV hy;obtain ⟨j,_,j2,rfl⟩:=uV hw;dsimp only at y1 w1;have e:i=j:=by omega
   subst e;unfold Zz at i2 j2;simp only [aei,ahk] at i2 j2;rw [i2.1] at j2;cases j2.2)
  obtain ⟨U2,k6⟩:=an6 (ws:=v9.1) (g:={ f with Released:=x1,Uses:=U1,bB:=x3,Setting:=t7,aY:=x5 }) (λ x hx=>by
   rw [n9] at hx;obtain ⟨i,i1,i2,rfl⟩:=uV hx;have hb:=g3.bd f2 (i:Int);have i3:=i2;unfold pnP at i3;rw [aei,decide_eq_true_eq] at i3;rw [adD g3 g2 f2 f1,aei,ahk] at i2;refine ⟨rfl,by dsimp only; omega,by dsimp only; omega,λ u hu e=>?_⟩;have:=aml.1 i2.2 u (k2s u hu);simp only [beq_iff_eq] at this;exact this e) (by rw [n9]; exact abK (λ _=>rfl) _)
  obtain ⟨x7',k7,_⟩:=agW (ws:=v10.1) (g:={ f with Released:=x1,Uses:=U2,bB:=x3,Setting:=t7,aY:=x5 }) (λ x hx=>by
   rw [n10] at hx;obtain ⟨⟨c1,c2,c3,c4⟩,c5⟩:=ln (.inr rfl) hx;refine ⟨c1,c2,by dsimp only; rw [k1l]; exact c3,?_⟩;dsimp only;rw [k1j]
   ·exact c4
   intro y hy e;rw [n4] at hy;obtain ⟨_,d5⟩:=ln (.inl rfl) (auS.1 hy);rw [show y.Unit.toNat=x.Unit.toNat by omega,c5] at d5;cases d5) (by rw [n10]; exact lnd 1)
  exact ⟨_,(((((k1.app k2).app (k3 _ rfl)).app (x7 _ rfl)).app k5).app k6).app k7⟩
 all_goals
  have kl:∀ {v:Int} {x:aI},x∈lnL v f.Released t.Released->x.dG=11:=λ hx=>by
   obtain ⟨i,_,_,rfl⟩:=uV hx; rfl
  have k4:∀x∈v4.1,x.dG=11:=λ x hx=>kl (auS.1 (by rwa [n4] at hx))
  have k5:∀x∈v5.1,x.dG=10:=λ x hx=>by rw [n5] at hx; obtain ⟨i,_,_,rfl⟩:=uV hx; rfl
  have k6:=p6.kd
  have k8:∀x∈v8.1,x.dG=12:=λ x hx=>by
   rw [n8] at hx
   rcases alf.1 hx with hx | hx
   ·obtain ⟨i,_,_,rfl⟩:=uV (auS.1 hx); rfl
   obtain ⟨i,_,_,rfl⟩:=uV hx; rfl
  have k9:∀x∈v9.1,x.dG=10:=λ x hx=>by rw [n9] at hx; obtain ⟨i,_,_,rfl⟩:=uV hx; rfl
  have k10:∀x∈v10.1,x.dG=11:=λ x hx=>kl (by rwa [n10] at hx)
  have no:∀ {k j:Int} {a:azr},(∀x∈a,x.dG=j)->j≠k->Jd k a=0:=λ h e=>aeY λ x hx=>by rw [h x hx]; exact e
  dsimp only
  simp only [ap1]
 ·rw [V7 k4,no k5 (by decide),aeY λ x hx=>by have:=k6 x hx; omega,no y7 (by decide),no k8 (by decide),no k9 (by decide),V7 k10,e4,e10];refine azj ?_ (asY (p:=lnP 0 f.Released t.Released) (q:=lnP 1 f.Released t.Released) (w:=λ i=>⟨11,i,0⟩) (w':=λ i=>⟨11,i,1⟩) (λ i=>?_) _)
  ·unfold lnL; omega
  unfold lnP dmE;cases f.Released.getD i false<;>cases t.Released.getD i false<;>rfl
 ·rw [no k4 (by decide),no k5 (by decide),aeY λ x hx=>by have:=k6 x hx; omega,no y7 (by decide),V7 k8,no k9 (by decide),no k10 (by decide),n8,afa,as5];refine azj ?_ (asY (p:=Zz f.aY t.aY) (q:=Zz t.aY f.aY) (w:=λ i=>⟨12,i,0⟩) (w':=λ i=>⟨12,i,1⟩) (λ i=>?_) _)
  ·rw [show b.bX.length=f.aY.length by omega]; omega
  unfold Zz dmE;cases f.aY.getD i false<;>cases t.aY.getD i false<;>rfl
 rw [no k4 (by decide),V7 k5,aeY λ x hx=>by have:=k6 x hx; omega,no y7 (by decide),no k8 (by decide),V7 k9,no k10 (by decide),n5,n9];refine azj ?_ (asY (p:=pnP v2 v3) (q:=pnP v3 v2) (w:=λ i=>⟨10,i,jJ v2 (.i ((i:Nat):Int))*0⟩) (w':=λ i=>⟨10,i,jJ v3 (.i ((i:Nat):Int))*1⟩) (λ i=>?_) 24)
 ·omega
 rw [adD g2 g3 f1 f2,adD g3 g2 f2 f1];unfold pdE;cases hG f.Uses i<;>cases hG t.Uses i<;>rfl
theorem ahd:W (bnd tL λ v=>ret v) (λ r=>r=true):=aG (Ac Dr) λ _ h=>aC h
theorem afd {l:azp}:W (Rl l) (λ r=>r.1.length<=600∧r.2=0):=by
 unfold Rl;refine aP (by split<;>omega) (aC ⟨?_,rfl⟩);dsimp only;rw [ahj];split<;>omega
theorem aqg {x y:aM} (h:x≠y):ajD x y=false:=by
 cases e:ajD x y with
 | false=>rfl
 | true=>
  exfalso;unfold ajD at e;simp only [aei,beq_iff_eq] at e;obtain ⟨a,⟨b,c⟩,d,f,g⟩:=x;obtain ⟨a',⟨b',c'⟩,d',f',g'⟩:=y;dsimp only at e;obtain ⟨⟨⟨⟨e1,e2,e3⟩,e4⟩,e5⟩,e6⟩:=e;subst e1 e2 e3 e4 e5 e6;exact h rfl
theorem abT {k:Int} {ws:azr} {i:Nat} (h:i<ws.length):Jd k (ws.take (i+1))=Jd k (ws.take i)+(if (ws.getD i dA).dG=k then 1 else 0):=by
 unfold Jd;rw [as3,asZ,adH h,adF,adH h];simp [List.countP_cons]
theorem Ch.step {g h:aM} {ws:azr} {i:Nat} (hi:i<ws.length) (c:Ch g (ws.drop i) h):∃g1,kL (ws.getD i dA) g=(true,g1)∧g1≠g∧(ws.getD i dA).Value<=4611686018427387904∧Ch g1 (ws.drop (i+1)) h:=by
 rw [auK hi] at c;rw [adF,adH hi];cases c with
 | cons a n v b=>exact ⟨_,a,n,v,b⟩
theorem QM:W (wY t) (λ r=>r=true):=by
 unfold wY;refine bV (λ _=>ahd) (λ _=>?_);refine aG afd λ v2 ⟨k1,k2⟩=>?_;refine aG (abN (by dsimp only; omega) k1) λ v3 hv3=>?_;obtain ⟨w1,w2,w3,w4,w5,w6,w7,w8,w9⟩:=hv3;have hns:UA v3.2.1:=⟨om,λ n hn=>by have a:=(w3 n hn).rs.1; have c:=(w3 n hn).pr.1; omega⟩;have hnl:asV v3.2.1:=⟨λ n hn=>(w3 n hn).lm.1,λ n hn=>by have:=(w3 n hn).dw.1; omega⟩;refine bV (λ _=>ahd) (λ c1=>?_);obtain ⟨hd,q1,q2⟩:=w9 (by simpa using c1);refine aG (ajV w1 hns om w4 w4 om om hnl hd q1 q1) λ v5 ⟨p5,p5'⟩=>?_;have e5:=p5' rfl;have z5:v5.2=[]:=by
  rcases p5 with q | ⟨_,q⟩
  ·omega
  exact q.eq rfl
 refine bV (λ c=>by rw [e5,z5] at c; simp at c) (λ _=>?_);refine aG (ajV w1 hns om w4 w5 om om hnl hd q1 q2) λ v6 ⟨p6,_⟩=>?_;refine bV ?_ ?_<;>intro c
 ·have hc:((v6.1==(9:Int))||(v6.1==(8:Int)))=true:=by
   rcases p6 with (q | q) | ⟨q,_⟩
   ·rw [q]; rfl
   ·rw [q]; rfl
   rw [q] at c; cases c
  rw [hc];refine aG (aaX (vH λ _=>Ac Dr) λ _ h=>h rfl) λ v7 hv7=>?_;subst hv7;exact aC rfl
 have p6:aoA v3.2.2.1 v3.2.2.2.1 v6.2:=by
  rcases p6 with (q | q) | ⟨_,q⟩
  ·rw [q] at c; cases c
  ·rw [q] at c; cases c
  exact q
 have hle:=p6.le;obtain ⟨hh,hch⟩:=p6.ch;have b1:=aaj q1;have b2:=aaj q2;obtain ⟨⟨_,_,_,r3,r4⟩,_⟩:=b1.sh;obtain ⟨⟨_,_,_,s3,s4⟩,_⟩:=b2.sh;have l1:=w1.nre;have l2:=w1.ndo;have l3:=w1.ngr;refine bS (λ g:Int×Int×Int×Int×azp×azq×azp×azw×azq×azq=>0<=g.2.2.2.1∧g.2.2.2.1<=v6.2.length∧g.1=Jd 11 (v6.2.take g.2.2.2.1.toNat)∧g.2.1=Jd 12 (v6.2.take g.2.2.2.1.toNat)∧g.2.2.1=Jd 10 (v6.2.take g.2.2.2.1.toNat)∧Ch ⟨g.2.2.2.2.1,⟨g.2.2.2.2.2.1,g.2.2.2.2.2.2.1⟩,g.2.2.2.2.2.2.2.1,g.2.2.2.2.2.2.2.2.1,g.2.2.2.2.2.2.2.2.2⟩ (v6.2.drop g.2.2.2.1.toNat) hh∧Ai ⟨g.2.2.2.2.1,⟨g.2.2.2.2.2.1,g.2.2.2.2.2.2.1⟩,g.2.2.2.2.2.2.2.1,g.2.2.2.2.2.2.2.2.1,g.2.2.2.2.2.2.2.2.2⟩∧g.2.2.2.2.2.2.2.1.length<=40+g.2.2.2.1.toNat)
  (λ g=>(v6.2.length - g.2.2.2.1).toNat) ?_ ⟨by dsimp only; omega,by dsimp only; omega,rfl,rfl,rfl,hch,w4,w6⟩
 intro self g ⟨a1,a2,a3,a4,a5,a6,a7,a8⟩ ih;have n11:Jd 11 (v6.2.take g.2.2.2.1.toNat)<=400:=by unfold Jd; have:=au9 (p:=λ x:aI=>x.dG==11) (l:=v6.2.take g.2.2.2.1.toNat); rw [ahj] at this; omega
 have n12:Jd 12 (v6.2.take g.2.2.2.1.toNat)<=400:=by unfold Jd; have:=au9 (p:=λ x:aI=>x.dG==12) (l:=v6.2.take g.2.2.2.1.toNat); rw [ahj] at this; omega
 have n10:Jd 10 (v6.2.take g.2.2.2.1.toNat)<=400:=by unfold Jd; have:=au9 (p:=λ x:aI=>x.dG==10) (l:=v6.2.take g.2.2.2.1.toNat); rw [ahj] at this; omega
 unfold zD;refine bV ?_ ?_<;>intro c2
 ·have c2:=eX c2;have hi:g.2.2.2.1.toNat<v6.2.length:=by omega
  have e1:(g.2.2.2.1+1).toNat=g.2.2.2.1.toNat+1:=by omega
  obtain ⟨g1,d1,d2,d3,d4⟩:=Ch.step hi a6;have t11:=abT (k:=11) hi;have t12:=abT (k:=12) hi;have t10:=abT (k:=10) hi;have hz:=an0 (w:=v6.2.getD g.2.2.2.1.toNat dA) a7 a8 om;rw [d1] at hz;obtain ⟨z1,z2⟩:=hz;dsimp only at z2;refine aP om ?_;refine aG (abJ a7 om) λ v12 VF=>?_;rw [show apX (v6.2.getD g.2.2.2.1.toNat dA) _=(g1,0) from (Jc d1).symm] at VF;subst v12;refine aG (vH λ _=>aeN z1) λ v13 NQ=>?_;have e13:=NQ rfl;rw [aqg d2] at e13;subst v13;refine bV (λ c=>by cases c) (λ _=>?_);refine bV ?_ ?_<;>intro c3
  ·have c3:(v6.2.getD g.2.2.2.1.toNat dA).dG=11:=by simpa using c3
   rw [c3,if_pos rfl] at t11;rw [c3,if_neg (by decide)] at t12 t10;refine aP (by unfold ay; omega) ?_;refine aP (by unfold ay; omega) ?_;exact ih _ ⟨by dsimp only; omega,by dsimp only; omega,by dsimp only; rw [e1,t11]; omega,by dsimp only; rw [e1,t12]; omega,by dsimp only; rw [e1,t10]; omega,by dsimp only; rw [e1]; exact d4,z1,by dsimp only; omega⟩ (by dsimp only; omega)
  have c3:¬ (v6.2.getD g.2.2.2.1.toNat dA).dG=11:=by simpa using c3
  rw [if_neg c3] at t11;refine bV ?_ ?_<;>intro c4
  ·have c4:(v6.2.getD g.2.2.2.1.toNat dA).dG=12:=by simpa using c4
   rw [c4,if_pos rfl] at t12;rw [c4,if_neg (by decide)] at t10;refine aP (by unfold ay; omega) ?_;refine aP (by unfold ay; omega) ?_;exact ih _ ⟨by dsimp only; omega,by dsimp only; omega,by dsimp only; rw [e1,t11]; omega,by dsimp only; rw [e1,t12]; omega,by dsimp only; rw [e1,t10]; omega,by dsimp only; rw [e1]; exact d4,z1,by dsimp only; omega⟩ (by dsimp only; omega)
  have c4:¬ (v6.2.getD g.2.2.2.1.toNat dA).dG=12:=by simpa using c4
  rw [if_neg c4] at t12;refine bV ?_ ?_<;>intro c5
  ·have c5:(v6.2.getD g.2.2.2.1.toNat dA).dG=10:=by simpa using c5
   rw [c5,if_pos rfl] at t10;refine aP (by unfold ay; omega) ?_;refine aP (by unfold ay; omega) ?_;exact ih _ ⟨by dsimp only; omega,by dsimp only; omega,by dsimp only; rw [e1,t11]; omega,by dsimp only; rw [e1,t12]; omega,by dsimp only; rw [e1,t10]; omega,by dsimp only; rw [e1]; exact d4,z1,by dsimp only; omega⟩ (by dsimp only; omega)
  have c5:¬ (v6.2.getD g.2.2.2.1.toNat dA).dG=10:=by simpa using c5
  rw [if_neg c5] at t10;refine aP (by unfold ay; omega) ?_;exact ih _ ⟨by dsimp only; omega,by dsimp only; omega,by dsimp only; rw [e1,t11]; omega,by dsimp only; rw [e1,t12]; omega,by dsimp only; rw [e1,t10]; omega,by dsimp only; rw [e1]; exact d4,z1,by dsimp only; omega⟩ (by dsimp only; omega)
 have c2:=eX c2;rw [aiI om] at a3 a4 a5;clear n11 n12 n10;rw [p6.c11] at a3;rw [p6.c12] at a4;rw [p6.c10,an1 (f:=pdE v3.2.2.1.Uses v3.2.2.2.1.Uses) (k:=v3.1.aU.aH.length) (λ i hi=>by
  have no:∀ {b:aV} {U:azw},EC b.aU (U.map aJ.gZ)->b.aU.aH.length<=i->hG U i=false:=λ {b U} h h2=>aml.2 λ u hu=>by
   have:=(LQ h u hu).gl;simp only [beq_iff_eq];omega
  unfold pdE;rw [no b1.ow hi,no b2.ow hi]; rfl) 24 om] at a5
 have le1:∀a b:azq,∀i,dmE a b i<=1:=λ a b i=>by unfold dmE; split<;>omega
 refine bS (λ k:Int×Int=>0<=k.2∧k.2<=v3.2.2.1.Released.length∧k.1+vB (dmE v3.2.2.1.Released v3.2.2.2.1.Released) k.2.toNat=vB (dmE v3.2.2.1.Released v3.2.2.2.1.Released) v3.2.2.1.Released.length) (λ k=>(v3.2.2.1.Released.length - k.2).toNat) ?_ ⟨by dsimp only; omega,by dsimp only; omega,by dsimp only; rw [a3]; simp [vB]⟩;intro dY g2 ⟨f1,f2,f3⟩ ih2;have u1:=UF (le1 v3.2.2.1.Released v3.2.2.2.1.Released) g2.2.toNat;have u2:=UF (le1 v3.2.2.1.Released v3.2.2.2.1.Released) v3.2.2.1.Released.length;unfold zC;refine bV ?_ ?_<;>intro c3
 ·have c3:=eX c3;have e1:(g2.2+1).toNat=g2.2.toNat+1:=by omega
  refine aP om ?_;refine aP om ?_;refine bV ?_ ?_<;>intro c4
  ·refine aP (by unfold ay; omega) ?_;refine aP (by unfold ay; omega) ?_;refine ih2 _ ⟨by dsimp only; omega,by dsimp only; omega,?_⟩ (by dsimp only; omega);dsimp only;rw [e1,vB,show dmE v3.2.2.1.Released v3.2.2.2.1.Released g2.2.toNat=1 by unfold dmE; rw [if_neg]; simpa using c4];omega
  refine aP (by unfold ay; omega) ?_;refine ih2 _ ⟨by dsimp only; omega,by dsimp only; omega,?_⟩ (by dsimp only; omega);dsimp only;rw [e1,vB,show dmE v3.2.2.1.Released v3.2.2.2.1.Released g2.2.toNat=0 by unfold dmE; rw [if_pos]; simpa using c4];omega
 have c3:=eX c3;rw [show g2.2.toNat=v3.2.2.1.Released.length by omega] at f3;have y2:g2.1=0:=by omega
 refine bS (λ k:Int×Int=>0<=k.2∧k.2<=v3.2.2.1.aY.length∧k.1+vB (dmE v3.2.2.1.aY v3.2.2.2.1.aY) k.2.toNat=vB (dmE v3.2.2.1.aY v3.2.2.2.1.aY) v3.2.2.1.aY.length) (λ k=>(v3.2.2.1.aY.length - k.2).toNat) ?_ ⟨by dsimp only; omega,by dsimp only; omega,by dsimp only; rw [a4]; simp [vB]⟩;intro nE g3 ⟨f1,f2,f3⟩ ih3;have u1:=UF (le1 v3.2.2.1.aY v3.2.2.2.1.aY) g3.2.toNat;have u2:=UF (le1 v3.2.2.1.aY v3.2.2.2.1.aY) v3.2.2.1.aY.length;unfold zB;refine bV ?_ ?_<;>intro c4
 ·have c4:=eX c4;have e1:(g3.2+1).toNat=g3.2.toNat+1:=by omega
  refine aP om ?_;refine aP om ?_;refine bV ?_ ?_<;>intro c5
  ·refine aP (by unfold ay; omega) ?_;refine aP (by unfold ay; omega) ?_;refine ih3 _ ⟨by dsimp only; omega,by dsimp only; omega,?_⟩ (by dsimp only; omega);dsimp only;rw [e1,vB,show dmE v3.2.2.1.aY v3.2.2.2.1.aY g3.2.toNat=1 by unfold dmE; rw [if_neg]; simpa using c5];omega
  refine aP (by unfold ay; omega) ?_;refine ih3 _ ⟨by dsimp only; omega,by dsimp only; omega,?_⟩ (by dsimp only; omega);dsimp only;rw [e1,vB,show dmE v3.2.2.1.aY v3.2.2.2.1.aY g3.2.toNat=0 by unfold dmE; rw [if_pos]; simpa using c5];omega
 have c4:=eX c4;rw [show g3.2.toNat=v3.2.2.1.aY.length by omega] at f3;have y3:g3.1=0:=by omega
 have le2:∀i,pdE v3.2.2.1.Uses v3.2.2.2.1.Uses i<=1:=λ i=>by unfold pdE; split<;>omega
 refine bS (λ k:Int×Int=>0<=k.2∧k.2<=v3.1.aU.aH.length∧k.1+vB (pdE v3.2.2.1.Uses v3.2.2.2.1.Uses) k.2.toNat=vB (pdE v3.2.2.1.Uses v3.2.2.2.1.Uses) v3.1.aU.aH.length) (λ k=>(v3.1.aU.aH.length - k.2).toNat) ?_ ⟨by dsimp only; omega,by dsimp only; omega,by dsimp only; rw [a5]; simp [vB]⟩;intro gW g4 ⟨f1,f2,f3⟩ ih4;have u1:=UF le2 g4.2.toNat;have u2:=UF le2 v3.1.aU.aH.length;have hany:∀ {U:azw} {i:Nat},i<U.length->(U.take (i+1)).any (λ u=>u.gZ.bT==g4.2)=((U.take i).any (λ u=>u.gZ.bT==g4.2)||(U.getD i bA).gZ.bT==g4.2):=λ {U i} h=>by
  rw [as3,auZ,adH h,adF,adH h];simp
 unfold zA;refine bV ?_ ?_<;>intro c5
 ·have c5:=eX c5;have e1:(g4.2+1).toNat=g4.2.toNat+1:=by omega
  have e2:((g4.2.toNat:Nat):Int)=g4.2:=by omega
  refine bS (λ k:Bool×Int=>0<=k.2∧k.2<=v3.2.2.1.Uses.length∧k.1=(v3.2.2.1.Uses.take k.2.toNat).any λ u=>u.gZ.bT==g4.2) (λ k=>(v3.2.2.1.Uses.length - k.2).toNat) ?_ ⟨by dsimp only; omega,by dsimp only; omega,rfl⟩;intro amV g9 ⟨j1,j2,j3⟩ ih9;unfold zy;refine bV ?_ ?_<;>intro c6
  ·have c6:=eX c6;refine aP om ?_;refine aP (by unfold ay; omega) ?_;exact ih9 _ ⟨by dsimp only; omega,by dsimp only; omega,by dsimp only; rw [show (g9.2+1).toNat=g9.2.toNat+1 by omega,hany om,j3]⟩ (by dsimp only; omega)
  have c6:=eX c6;rw [aiI om] at j3;refine bS (λ k:Bool×Int=>0<=k.2∧k.2<=v3.2.2.2.1.Uses.length∧k.1=(v3.2.2.2.1.Uses.take k.2.toNat).any λ u=>u.gZ.bT==g4.2) (λ k=>(v3.2.2.2.1.Uses.length - k.2).toNat) ?_ ⟨by dsimp only; omega,by dsimp only; omega,rfl⟩;intro aik g10 ⟨x1,x2,x3⟩ ayt;unfold zx;refine bV ?_ ?_<;>intro c7
  ·have c7:=eX c7;refine aP om ?_;refine aP (by unfold ay; omega) ?_;exact ayt _ ⟨by dsimp only; omega,by dsimp only; omega,by dsimp only; rw [show (g10.2+1).toNat=g10.2.toNat+1 by omega,hany om,x3]⟩ (by dsimp only; omega)
  have c7:=eX c7;rw [aiI om] at x3;have h9:g9.1=hG v3.2.2.1.Uses g4.2.toNat:=by rw [j3]; unfold hG; rw [e2]
  have h10:g10.1=hG v3.2.2.2.1.Uses g4.2.toNat:=by rw [x3]; unfold hG; rw [e2]
  refine bV ?_ ?_<;>intro c8
  ·refine aP (by unfold ay; omega) ?_;refine aP (by unfold ay; omega) ?_;refine ih4 _ ⟨by dsimp only; omega,by dsimp only; omega,?_⟩ (by dsimp only; omega);dsimp only;rw [e1,vB,show pdE v3.2.2.1.Uses v3.2.2.2.1.Uses g4.2.toNat=1 by unfold pdE; rw [if_neg]; rw [<- h9,<- h10]; simpa using c8];omega
  refine aP (by unfold ay; omega) ?_;refine ih4 _ ⟨by dsimp only; omega,by dsimp only; omega,?_⟩ (by dsimp only; omega);dsimp only;rw [e1,vB,show pdE v3.2.2.1.Uses v3.2.2.2.1.Uses g4.2.toNat=0 by unfold pdE; rw [if_pos]; rw [<- h9,<- h10]; simpa using c8];omega
 have c5:=eX c5;rw [show g4.2.toNat=v3.1.aU.aH.length by omega] at f3;have y4:g4.1=0:=by omega
 rw [y2,y3,y4];refine aG (aaX (vH λ _=>Ac Dr) λ _ h=>h rfl) λ v14 RQ=>?_;subst RQ;exact aC rfl
def cfg:yx where
 ty:=[(3,⟨1,false,8,[(.int .i64)],(.int .i64)⟩),
 (4,⟨1,false,1,[.bool],.bool⟩),
 (5,⟨1,false,1,[(.int .u8)],(.int .u8)⟩),
 (9,⟨1,false,16,[.str],.str⟩),
 (22,⟨1,false,24,[.slice],(.slice 3)⟩),
 (24,⟨1,false,8,[.ptr],(.pointer 75)⟩),
 (26,⟨1,false,24,[.slice],(.slice 188)⟩),
 (27,⟨1,false,24,[.slice],(.slice 190)⟩),
 (28,⟨1,false,24,[.slice],(.slice 133)⟩),
 (29,⟨2,true,32,[(.int .i64),.slice],(.struct [(0,3),(1,28)])⟩),
 (30,⟨2,true,32,[(.int .i64),.slice],(.struct [(0,3),(1,28)])⟩),
 (31,⟨1,false,24,[.slice],(.slice 67)⟩),
 (32,⟨1,false,24,[.slice],(.slice 195)⟩),
 (33,⟨6,true,128,[.slice,.slice,(.int .i64),.slice,.slice,.slice],(.struct [(0,26),(1,27),(2,30),(4,31),(5,32)])⟩),
 (34,⟨6,true,128,[.slice,.slice,(.int .i64),.slice,.slice,.slice],(.struct [(0,26),(1,27),(2,30),(4,31),(5,32)])⟩),
 (35,⟨1,false,24,[.slice],(.slice 72)⟩),
 (36,⟨1,false,24,[.slice],(.slice 4)⟩),
 (37,⟨2,true,48,[.slice,.slice],(.struct [(0,36),(1,22)])⟩),
 (38,⟨2,true,48,[.slice,.slice],(.struct [(0,36),(1,22)])⟩),
 (39,⟨1,false,24,[.slice],(.slice 65)⟩),
 (40,⟨6,true,144,[.slice,.slice,.slice,.slice,.slice,.slice],(.struct [(0,22),(1,38),(3,39),(4,36),(5,36)])⟩),
 (41,⟨6,true,144,[.slice,.slice,.slice,.slice,.slice,.slice],(.struct [(0,22),(1,38),(3,39),(4,36),(5,36)])⟩),
 (44,⟨1,false,24,[.slice],(.slice 59)⟩),
 (45,⟨1,false,8,[(.int .i64)],(.int .i64)⟩),
 (58,⟨3,true,24,[(.int .i64),(.int .i64),(.int .i64)],(.struct [(0,3),(1,3),(2,3)])⟩),
 (59,⟨3,true,24,[(.int .i64),(.int .i64),(.int .i64)],(.struct [(0,3),(1,3),(2,3)])⟩),
 (62,⟨2,true,16,[(.int .i64),(.int .i64)],(.struct [(0,3),(1,3)])⟩),
 (63,⟨2,true,16,[(.int .i64),(.int .i64)],(.struct [(0,3),(1,3)])⟩),
 (64,⟨3,true,24,[(.int .i64),(.int .i64),(.int .i64)],(.struct [(0,3),(1,63)])⟩),
 (65,⟨3,true,24,[(.int .i64),(.int .i64),(.int .i64)],(.struct [(0,3),(1,63)])⟩),
 (66,⟨1,true,24,[.slice],(.struct [(0,22)])⟩),
 (67,⟨1,true,24,[.slice],(.struct [(0,22)])⟩),
 (68,⟨1,false,24,[.slice],(.slice 117)⟩),
 (69,⟨1,false,24,[.slice],(.slice 120)⟩),
 (70,⟨1,false,24,[.slice],(.slice 9)⟩),
 (71,⟨6,true,128,[.slice,.slice,.slice,.slice,(.int .i64),.slice],(.struct [(0,68),(1,69),(2,70),(3,22),(4,3),(5,22)])⟩),
 (72,⟨6,true,128,[.slice,.slice,.slice,.slice,(.int .i64),.slice],(.struct [(0,68),(1,69),(2,70),(3,22),(4,3),(5,22)])⟩),
 (74,⟨2,true,32,[.slice,(.int .i64)],(.struct [(0,22),(1,3)])⟩),
 (75,⟨2,true,32,[.slice,(.int .i64)],(.struct [(0,22),(1,3)])⟩),
 (86,⟨1,false,8,[.other],(.map 3 3)⟩),
 (89,⟨1,false,8,[.other],.other⟩),
 (90,⟨1,false,8,[.other],.other⟩),
 (91,⟨1,false,8,[.other],.other⟩),
 (97,⟨1,false,24,[.slice],(.slice 91)⟩),
 (116,⟨3,true,24,[(.int .i64),(.int .i64),(.int .i64)],(.struct [(0,3),(1,3),(2,3)])⟩),
 (117,⟨3,true,24,[(.int .i64),(.int .i64),(.int .i64)],(.struct [(0,3),(1,3),(2,3)])⟩),
 (119,⟨4,true,32,[(.int .i64),(.int .i64),(.int .i64),(.int .i64)],(.struct [(0,3),(1,3),(2,3),(3,3)])⟩),
 (120,⟨4,true,32,[(.int .i64),(.int .i64),(.int .i64),(.int .i64)],(.struct [(0,3),(1,3),(2,3),(3,3)])⟩),
 (132,⟨3,true,64,[.str,.slice,.slice],(.struct [(0,9),(1,22),(2,70)])⟩),
 (133,⟨3,true,64,[.str,.slice,.slice],(.struct [(0,9),(1,22),(2,70)])⟩),
 (140,⟨1,false,8,[.ptr],(.pointer 143)⟩),
 (142,⟨3,true,72,[.slice,.slice,.slice],(.struct [(0,38),(2,44)])⟩),
 (143,⟨3,true,72,[.slice,.slice,.slice],(.struct [(0,38),(2,44)])⟩),
 (147,⟨1,false,8,[.other],.other⟩),
 (148,⟨1,false,8,[.other],(.map 3 4)⟩),
 (149,⟨3,true,56,[.slice,.slice,.other],(.struct [(0,26),(1,68),(2,148)])⟩),
 (150,⟨3,true,56,[.slice,.slice,.other],(.struct [(0,26),(1,68),(2,148)])⟩),
 (156,⟨1,false,8,[.other],.other⟩),
 (158,⟨1,false,8,[.other],.other⟩),
 (161,⟨15,true,328,[.slice,.slice,(.int .i64),.slice,.slice,.slice,.slice,.slice,.slice,.slice,.slice,.slice,.slice,.slice,.bool],(.struct [(0,34),(6,35),(7,22),(8,41),(14,4)])⟩),
 (162,⟨15,true,328,[.slice,.slice,(.int .i64),.slice,.slice,.slice,.slice,.slice,.slice,.slice,.slice,.slice,.slice,.slice,.bool],(.struct [(0,34),(6,35),(7,22),(8,41),(14,4)])⟩),
 (165,⟨1,false,8,[.ptr],(.pointer 41)⟩),
 (172,⟨1,false,24,[.slice],(.slice 63)⟩),
 (177,⟨1,false,8,[.other],(.map 63 4)⟩),
 (179,⟨1,false,8,[.other],.other⟩),
 (187,⟨5,true,72,[(.int .i64),.slice,.slice,(.int .i64),(.int .i64)],(.struct [(0,3),(1,22),(2,22),(3,3),(4,3)])⟩),
 (188,⟨5,true,72,[(.int .i64),.slice,.slice,(.int .i64),(.int .i64)],(.struct [(0,3),(1,22),(2,22),(3,3),(4,3)])⟩),
 (189,⟨5,true,56,[(.int .i64),.slice,(.int .i64),(.int .i64),.bool],(.struct [(0,3),(1,22),(2,3),(3,3),(4,4)])⟩),
 (190,⟨5,true,56,[(.int .i64),.slice,(.int .i64),(.int .i64),.bool],(.struct [(0,3),(1,22),(2,3),(3,3),(4,4)])⟩),
 (191,⟨1,false,24,[.slice],(.slice 22)⟩),
 (192,⟨1,false,24,[.slice],(.slice 5)⟩),
 (194,⟨2,true,16,[(.int .i64),.bool],(.struct [(0,3),(1,4)])⟩),
 (195,⟨2,true,16,[(.int .i64),.bool],(.struct [(0,3),(1,4)])⟩),
 (210,⟨1,false,24,[.slice],(.slice 38)⟩),
 (212,⟨1,false,8,[.other],.other⟩),
 (215,⟨1,false,8,[.other],.other⟩),
 (224,⟨1,false,8,[.other],.other⟩),
 (226,⟨1,false,8,[.other],.other⟩),
 (227,⟨1,false,24,[.slice],(.slice 226)⟩),
 (235,⟨1,false,24,[.slice],(.slice 240)⟩),
 (239,⟨2,true,16,[(.int .i64),(.int .i64)],(.struct [(0,3),(1,3)])⟩),
 (240,⟨2,true,16,[(.int .i64),(.int .i64)],(.struct [(0,3),(1,3)])⟩),
 (256,⟨1,false,8,[.other],.other⟩),
 (264,⟨1,false,8,[.other],.other⟩),
 (267,⟨1,false,8,[.other],.other⟩),
 (271,⟨1,false,8,[.other],(.map 9 3)⟩),
 (280,⟨1,false,8,[.other],(.map 9 4)⟩),
 (287,⟨64,true,512,[(.int .i64),(.int .i64),(.int .i64),(.int .i64),(.int .i64),(.int .i64),(.int .i64),(.int .i64),(.int .i64),(.int .i64),(.int .i64),(.int .i64),(.int .i64),(.int .i64),(.int .i64),(.int .i64),(.int .i64),(.int .i64),(.int .i64),(.int .i64),(.int .i64),(.int .i64),(.int .i64),(.int .i64),(.int .i64),(.int .i64),(.int .i64),(.int .i64),(.int .i64),(.int .i64),(.int .i64),(.int .i64),(.int .i64),(.int .i64),(.int .i64),(.int .i64),(.int .i64),(.int .i64),(.int .i64),(.int .i64),(.int .i64),(.int .i64),(.int .i64),(.int .i64),(.int .i64),(.int .i64),(.int .i64),(.int .i64),(.int .i64),(.int .i64),(.int .i64),(.int .i64),(.int .i64),(.int .i64),(.int .i64),(.int .i64),(.int .i64),(.int .i64),(.int .i64),(.int .i64),(.int .i64),(.int .i64),(.int .i64),(.int .i64)],(.array 64 3)⟩),
 (288,⟨64,true,512,[(.int .i64),(.int .i64),(.int .i64),(.int .i64),(.int .i64),(.int .i64),(.int .i64),(.int .i64),(.int .i64),(.int .i64),(.int .i64),(.int .i64),(.int .i64),(.int .i64),(.int .i64),(.int .i64),(.int .i64),(.int .i64),(.int .i64),(.int .i64),(.int .i64),(.int .i64),(.int .i64),(.int .i64),(.int .i64),(.int .i64),(.int .i64),(.int .i64),(.int .i64),(.int .i64),(.int .i64),(.int .i64),(.int .i64),(.int .i64),(.int .i64),(.int .i64),(.int .i64),(.int .i64),(.int .i64),(.int .i64),(.int .i64),(.int .i64),(.int .i64),(.int .i64),(.int .i64),(.int .i64),(.int .i64),(.int .i64),(.int .i64),(.int .i64),(.int .i64),(.int .i64),(.int .i64),(.int .i64),(.int .i64),(.int .i64),(.int .i64),(.int .i64),(.int .i64),(.int .i64),(.int .i64),(.int .i64),(.int .i64),(.int .i64)],(.array 64 3)⟩),
 (297,⟨1,false,8,[.other],.other⟩)]
 eqs:=[(59,[(.int .i64),(.int .i64),(.int .i64)]),(63,[(.int .i64),(.int .i64)]),(65,[(.int .i64),(.int .i64),(.int .i64)]),(240,[(.int .i64),(.int .i64)])]
 fns:=[(8,⟨[],true⟩),(9,⟨[0],true⟩),(10,⟨[],true⟩),(12,⟨[],true⟩),(13,⟨[2],true⟩),(14,⟨[],true⟩),(15,⟨[2],true⟩),(17,⟨[4],true⟩),(18,⟨[],true⟩),(21,⟨[0],true⟩),(22,⟨[0],true⟩),(23,⟨[],true⟩),(24,⟨[2],true⟩),(25,⟨[0],false⟩),(26,⟨[],true⟩),(27,⟨[],true⟩),(30,⟨[],true⟩),(31,⟨[],true⟩),(32,⟨[0],false⟩),(33,⟨[0,1],true⟩),(34,⟨[0],true⟩),(35,⟨[0,1,2],true⟩),(36,⟨[],true⟩),(37,⟨[],true⟩),(38,⟨[],true⟩),(39,⟨[],true⟩),(40,⟨[1,2],true⟩),(41,⟨[],true⟩),(42,⟨[],true⟩),(43,⟨[],true⟩),(44,⟨[0,1,2],true⟩),(45,⟨[0],true⟩),(46,⟨[],true⟩),(50,⟨[2],true⟩),(58,⟨[],true⟩),(59,⟨[1],true⟩),(60,⟨[],true⟩),(61,⟨[1],true⟩),(62,⟨[],true⟩),(63,⟨[],true⟩),(68,⟨[0],true⟩),(69,⟨[0],true⟩),(70,⟨[0],true⟩),(71,⟨[0],true⟩),(72,⟨[0],true⟩),(73,⟨[0],false⟩),(74,⟨[0],false⟩),(75,⟨[0],false⟩),(76,⟨[0],true⟩),(77,⟨[0],true⟩),(78,⟨[2],true⟩),(80,⟨[1],true⟩),(81,⟨[],true⟩),(82,⟨[],true⟩),(92,⟨[],true⟩),(93,⟨[],true⟩),(94,⟨[0],false⟩),(95,⟨[0],false⟩),(96,⟨[],true⟩),(97,⟨[],true⟩),(98,⟨[1,2],true⟩),(99,⟨[0],true⟩),(101,⟨[0,2],false⟩),(102,⟨[2,3,4,5],false⟩),(103,⟨[],true⟩),(104,⟨[],true⟩),(108,⟨[],true⟩),(110,⟨[0],false⟩),(117,⟨[],true⟩),(118,⟨[],true⟩),(122,⟨[],true⟩),(129,⟨[],true⟩),(130,⟨[],true⟩),(132,⟨[],true⟩),(135,⟨[],true⟩),(137,⟨[0],false⟩),(138,⟨[],true⟩),(139,⟨[0],false⟩),(141,⟨[],true⟩),(142,⟨[],true⟩),(143,⟨[],true⟩),(144,⟨[],true⟩),(146,⟨[],true⟩),(159,⟨[],true⟩),(160,⟨[],true⟩),(162,⟨[],true⟩),(163,⟨[0],true⟩),(167,⟨[1],false⟩),(168,⟨[2,3],false⟩),(169,⟨[0],true⟩),(170,⟨[0],false⟩),(172,⟨[],true⟩),(173,⟨[],true⟩),(182,⟨[0],false⟩),(183,⟨[0],false⟩),(186,⟨[0],true⟩),(193,⟨[],true⟩),(201,⟨[],true⟩),(203,⟨[],true⟩),(205,⟨[],true⟩),(211,⟨[],true⟩),(221,⟨[],true⟩),(229,⟨[1],true⟩),(232,⟨[1],false⟩),(233,⟨[],true⟩),(240,⟨[],true⟩),(246,⟨[],true⟩),(248,⟨[],true⟩),(257,⟨[1],true⟩),(286,⟨[0],false⟩),(287,⟨[0],false⟩),(288,⟨[0],false⟩),(289,⟨[0],false⟩),(290,⟨[0],false⟩),(293,⟨[0],false⟩)]
 glob:=[(0,[iV (0:Int),iV (1:Int)])]
theorem iD:iL Tryz.prog cfg:=amC (by kernel_rfl) (by kernel_rfl) (by kernel_rfl)
abbrev S:=Ab.Spec Tryz.prog cfg
open Go.Ab Go.RowKit Go.Shelf
attribute [local go_sem] Oper.semAt_some
set_option maxRecDepth 100000 in
set_option maxHeartbeats 2000000 in
theorem aqh (F:Fence) (n:Nat) (h7:F.fn 252) (hro:F.round=none) (hn:1<=n) (l B O b off len cap:Nat) (hlen:len<=1000000) (Keep:World->Prop)
  (c0 c1 c2 c3 c4:Nat->Value) (v1:Nat->Value) (hv:∀i,v1 i=.agg #[c0 i,c1 i,c2 i,c3 i,c4 i])
  (hB:∀w,Keep w->w.cell? ⟨B,O,none⟩=some (.slice (some ⟨b,off,none⟩) len cap))
  (h0:∀w i,Keep w->i<len->w.cell? ⟨b,off+i*5,none⟩=some (c0 i)) (h1:∀w i,Keep w->i<len->w.cell? ⟨b,off+i*5+1,none⟩=some (c1 i)) (h2:∀w i,Keep w->i<len->w.cell? ⟨b,off+i*5+2,none⟩=some (c2 i))
  (h3:∀w i,Keep w->i<len->w.cell? ⟨b,off+i*5+3,none⟩=some (c3 i)) (h4:∀w i,Keep w->i<len->w.cell? ⟨b,off+i*5+4,none⟩=some (c4 i))
  (J:Nat->World->Prop) (Jx:World->Prop)
  (hY:∀k W,k<len->J k W->YieldAt F (n - 1) Tryz.prog l #[.int .i64 ((len - 1 - k:Nat):Int),v1 (len - 1 - k)] W λ e W'=>
    (e=.returned (.bool true)∧J (k+1) W'∧Keep W')∨(e=.returned (.bool false)∧Jx W'))
  (W:World) (hW:Keep W) (hJ:J 0 W):
  CallsIn F n Tryz.prog 252 #[.func (.yield l) #[] #[],.pointer (some ⟨B,O,none⟩)] W λ e W'=>(∃v,e=.returned v)∧(J len W'∨Jx W'):=by
 refine callsIn_of_wp Tryz.func252 rfl h7 ?_ hro;simp only [Tryz.ntmps252,List.size_toArray,ajO,apv,Nat.reduceAdd,Nat.reduceSub,Array.replicate_succ,Array.replicate_zero,List.push_toArray,List.append_toArray,ayR,apW];have hB0:=hB W hW;gi_wp2;gi_loopw [3] (λ i wr=>∃k:Nat,k<=len∧i=.int .i64 ((len:Int) - 1 - k)∧J k wr∧Keep wr)
  (λ i _=>(intOf i+1).toNat)
 case atStart=>exact ⟨0,alh _,by simp,hJ,hW⟩
 case round=>
  obtain ⟨k,hk,rfl,hJs,hkp⟩:=hrel
  by_cases hlt:k<len
  ·obtain ⟨fn,tmps,assign,body,hy,hR⟩:=hY k wr hlt hJs
   have hBr:=hB wr hkp
   obtain ⟨i,hi⟩:∃i:Nat,i=len - 1 - k:=⟨_,rfl⟩
   rw [<- hi] at hy
   have hil:i<len:=by omega
   have hii:((len:Int) - 1 - k)=(i:Int):=by omega
   rw [hii]
   have e0:=h0 wr i hkp hil
   have e1:=h1 wr i hkp hil
   have e2:=h2 wr i hkp hil
   have e3:=h3 wr i hkp hil
   have e4:=h4 wr i hkp hil
   rw [hv] at hy
   have A:Aside (i+k+1=len):=by show i+k+1=len; omega
   have hi0:¬ ((i:Int)<0):=by omega
   have hi1:0<=(i:Int):=by omega
   clear hi hii hlt hk
   gi_wp2
   refine hR.mono ?_
   rintro e W3 (⟨rfl,hJ3,hk3⟩ | ⟨rfl,hJx3⟩)
   ·have A':=A.out
    gi_wp2
    go_roundw
    case rel=>exact ⟨k+1,by omega,by have:=A'; simp; omega,hJ3,hk3⟩
    case measure=>simp [intOf]
   gi_wp2
   refine bodyPost_ret (results_none rfl _ _ _) rfl ?_
   exact ⟨⟨_,rfl⟩,.inr hJx3⟩
  obtain rfl:k=len:=by omega
  have hneg:((k:Int) - 1 - k) = -1:=by omega
  rw [hneg]
  gi_wp2
  go_end0
  exact ⟨⟨_,rfl⟩,.inl hJs⟩
set_option maxRecDepth 100000 in
set_option maxHeartbeats 2000000 in
theorem ahe (F:Fence) (n:Nat) (h7:F.fn 252) (hro:F.round=none) (l B O cap:Nat) (a:Option Addr) (J:World->Prop) (W:World) (hB:W.cell? ⟨B,O,none⟩=some (.slice a 0 cap)) (hJ:J W):
  CallsIn F n Tryz.prog 252 #[.func (.yield l) #[] #[],.pointer (some ⟨B,O,none⟩)] W λ e W'=>(∃v,e=.returned v)∧J W':=by
 refine callsIn_of_wp Tryz.func252 rfl h7 ?_ hro;simp only [Tryz.ntmps252,List.size_toArray,ajO,apv,Nat.reduceAdd,Nat.reduceSub,Array.replicate_succ,Array.replicate_zero,List.push_toArray,List.append_toArray,ayR,apW];gi_wp2;gi_loopw [3] (λ i wr=>i=.int .i64 (-1)∧J wr) (λ _ _=>0);case atStart=>exact ⟨by simp,hJ⟩
 case round=>
  obtain ⟨rfl,hJs⟩:=hrel
  gi_wp2
  go_end0
  exact ⟨⟨_,rfl⟩,hJs⟩
variable {f:FuncId}
theorem Ua {n':Nat} {P:Program} {args:Array Value} {w:World} {R:Ending->World->Prop} (h:CallsIn (FW none) n P f args w R):CallsIn (FW none) n' P f args w R:=
 ⟨h.1,λ cs _=>h.2 cs (λ _ hd=>by cases hd)⟩
theorem adE (l:azv) (hl:l.length<=1000000):aaV Tryz.prog 252 [.ro [bf l]] l.length (λ k=>iV ((l.length - 1 - k:Nat):Int)) (λ k=>GN (l.getD (l.length - 1 - k) aD)):=by
 refine ⟨enters_of Tryz.func252 (by kernel_rfl) rfl,λ w I lb hI hlb hp=>?_⟩;have h0:=hp 0 (by simp);have auG:lb=#[lb.getD 0 Go.undef]:=by
  have:lb.size=1:=hlb;apply Array.ext
  ·simp [this]
  intro i h1 h2;have:i=0:=by omega
  subst this;simp [h1]
 rw [auG];generalize lb.getD 0 Go.undef=x at h0;clear auG hp hlb;cases h0 with
 | ro B O vs hIB hm hr=>
  have hs:=hr 0 (by simp);have hm0:=hm 0 (by simp);have hs:iP w I (bf l) (vs 0):=hs;generalize vs 0=sv at hs hm0;cases hs with
  | @sl _ _ _ _ a cap b off cs hcap _ ha hes hcm h1 hcr=>
   by_cases hz:l.length=0
   ·refine ⟨λ _=>.bool true,λ _=>.bool true,λ k hk=>absurd hk om,λ y n J Jx W hW hY hJ=>?_⟩;have hBc:W.cell? ⟨B,O,none⟩=some (.slice a 0 cap):=by
     rw [cell?_of_heap (w:=w) (hW B hIB),<- hz];exact hm0
    rw [hz];exact (ahe (FW none) n trivial rfl y B O cap a (λ W=>J 0 W) W hBc hJ).mono λ e W' ⟨h1,h2⟩=>⟨h1,.inl h2⟩
   obtain ⟨ha1,Z4⟩:=ha hz;subst ha1;refine ⟨λ k=>.int .i64 ((l.length - 1 - k:Nat):Int),λ k=>.agg #[cs (l.length - 1 - k) 0,cs (l.length - 1 - k) 1,cs (l.length - 1 - k) 2,cs (l.length - 1 - k) 3,cs (l.length - 1 - k) 4],λ k hk=>⟨.int _ _,?_⟩,λ y n J Jx W hW hY hJ=>?_⟩
   ·refine .agg rfl λ j hj=>?_;have hj:j<5:=hj;have:=hcr (l.length - 1 - k) j om hj;have e:nth (GN (l.getD (l.length - 1 - k) aD)).cells j=nth [iV (l.getD (l.length - 1 - k) aD).aT,amD (l.getD (l.length - 1 - k) aD).cK,iV (l.getD (l.length - 1 - k) aD).iw,iV (l.getD (l.length - 1 - k) aD).iG,.bool (l.getD (l.length - 1 - k) aD).gF] j:=rfl;rcases (by omega:j=0∨j=1∨j=2∨j=3∨j=4) with rfl | rfl | rfl | rfl | rfl<;>exact this
   have key:∀W':World,(∀b,I b->W'.heap[b]? = w.heap[b]?)->∀i j,i<l.length->j<5->W'.cell? ⟨b,off+(i*5+j),none⟩=some (cs i j):=λ W' hW' i j hi hj=>by
    rw [cell?_of_heap (w:=w) (hW' b Z4)];exact hcm i j hi hj
   refine Ua (aqh (FW none) (n+1) trivial rfl om y B O b off l.length cap hl (λ W':World=>∀b,I b->W'.heap[b]? = w.heap[b]?) (λ i=>cs i 0) (λ i=>cs i 1) (λ i=>cs i 2) (λ i=>cs i 3) (λ i=>cs i 4) (λ i=>.agg #[cs i 0,cs i 1,cs i 2,cs i 3,cs i 4]) (λ _=>rfl)
    (λ W' hW'=>by rw [cell?_of_heap (w:=w) (hW' B hIB)]; exact hm0) (λ W' i h hi=>key W' h i 0 hi om) (λ W' i h hi=>key W' h i 1 hi om) (λ W' i h hi=>key W' h i 2 hi om) (λ W' i h hi=>key W' h i 3 hi om) (λ W' i h hi=>key W' h i 4 hi om)
    (λ k W1=>J k W1∧∀b,I b->W1.heap[b]? = w.heap[b]?) Jx ?_ W hW ⟨hJ,hW⟩ |>.mono ?_)
   ·rintro k W1 hk ⟨hJ1,hW1⟩;obtain ⟨fn,tmps,assign,body,hy,hR⟩:=hY k W1 hk hJ1;refine ⟨fn,tmps,assign,body,hy,hR.mono ?_⟩;rintro e W' (⟨rfl,h2,h3⟩ | ⟨rfl,h2⟩)
    ·have hW':∀b,I b->W'.heap[b]? = w.heap[b]? := λ b hb=>(h3 b hb).trans (hW1 b hb);exact .inl ⟨rfl,⟨h2,hW'⟩,hW'⟩
    exact .inr ⟨rfl,h2⟩
   rintro e W' ⟨h1,⟨h2,_⟩ | h2⟩
   ·exact ⟨h1,.inl h2⟩
   exact ⟨h1,.inr h2⟩
theorem acM (l:azv):S 221 [bf l] [] (.fn 252 [.ro [bf l]]) []:=by
 refine aks (ct:=[]) iD Tryz.func221 rfl rfl (ag5 rfl) (by decide +kernel) (alh _) ?_;conv=>whnf
 exact ⟨⟨rfl,WX.refl _,trivial⟩,trivial⟩
open Go.ChangeShapes Go.WideShapes Go.ChangeAt Go.RowKit
theorem own:ownKnob Tryz.prog.godebug=none:=by kernel_rfl
theorem laidOut:laidOutB Tryz.prog=true:=by kernel_rfl
theorem ayu:Tryz.prog.globalNamed "bringup/clock.off" = some 0:=by kernel_rfl
theorem ayv:(Tryz.prog.globals[0]?).map (·.type)=some 240:=by kernel_rfl
theorem aqi:Tryz.prog.cellsOf 240=2:=by kernel_rfl
theorem cells3:Tryz.prog.cellsOf 3=1:=by kernel_rfl
abbrev aoD:List (String×DataW Unit):=[("bringup/clock.off", Rows.laid_bringup_clock_off)]
variable {W:World}
theorem aqj (h:laidMetH Tryz.prog aoD W):W.cell? ⟨0,0,none⟩=some (.int .i64 0)∧W.cell? ⟨0,1,none⟩=some (.int .i64 1):=by
 rw [MakeChecks.laidMetH_plain _ _ _ (by kernel_rfl)] at h;obtain ⟨ps,⟨g0,t0,cs0,f0,p0,q0,hg0,ht0,hv0,hd0,_⟩,_,_⟩:=h;obtain rfl:=alm (ayu.symm.trans hg0);obtain rfl:=alm (ayv.symm.trans ht0);obtain ⟨y0,y1,n,hx,hl,h0,h1⟩:=trod_struct2 Tryz.underlying240 hd0;rw [aqi] at hl;simp only [Prod.mk.injEq,Rows.laid_bringup_clock_off,DataW.agg.injEq,List.cons.injEq] at hx;obtain ⟨k0,e1,e2,_⟩:=DataW.trod_int Tryz.underlying3 h0;obtain ⟨k1,e3,e4,_⟩:=DataW.trod_int Tryz.underlying3 h1;have hk0:k0=0:=by have:=hx.1.1; rw [e2] at this; simpa using this.symm
 have hk1:k1=1:=by have:=hx.1.2.1; rw [e4] at this; simpa using this.symm
 subst hk0; subst hk1;have c0:=World.var?_cell hg0 hv0 0;have c1:=World.var?_cell hg0 hv0 1;obtain ⟨l⟩:=cs0;match l,hl with
 | [a,b],_=>
  rw [cells3] at e1 e3
  simp at e1 e3
  subst e1; subst e3
  exact ⟨by simpa using c0,by simpa using c1⟩
def Old (W:World):Nat->Prop:=λ b=>b<W.heap.size
theorem ayw (h:laidMetH Tryz.prog aoD W):Rel cfg (NI W (Old W) (λ _=>none) 0) (hof []) (λ o=>o<0) W (Old W) (λ _=>none):=by
 obtain ⟨h0,h1⟩:=aqj h;exact {
  dom:=λ o=>by simp [hof]
  used:=λ o p h=>by cases h
  objs:=λ o ob p _ h=>by cases h
  inj:=λ o o' p p' b bo sz b' pO sz' h=>by cases h
  qO:=λ o p b bo sz h=>by cases h
  lt:=λ o p b bo sz h=>by cases h
  CV:=λ b h=>h
  size:=afg _
  frame:=λ _ _ _=>rfl
  new:=λ o p b bo sz h=>by cases h
  glob:=λ g cs hg=>by
   have e:g=0∧cs=[.int .i64 0,.int .i64 1]:=by
    unfold cfg at hg
    simp only [Ab.look] at hg
    cases hb:Nat.beq 0 g with
    | true=>
     rw [hb] at hg
     have:=adU hb
     simp at hg
     exact ⟨this.symm,hg.symm⟩
    | false=>rw [hb] at hg; cases hg
   obtain ⟨rfl,rfl⟩:=e
   refine .ro 0 0 (λ j=>match j with | 0=>.int .i64 0 | _=>.int .i64 1) (World.block_lt_of_cell? _ _ h0) (λ j hj=>?_) (λ j hj=>?_)
   ·match j,hj with
    | 0,_=>exact h0
    | 1,_=>exact h1
   match j,hj with
   | 0,_=>exact .int _ _
   | 1,_=>exact .int _ _
  UY:=λ _ h=>h
  W9:=λ _ h=>.inl h
  ZY:=λ _ _=>.inl rfl
  Dm:=λ _ h=>h
  env:=⟨iQ.refl _,λ _ _ h=>h.elim⟩ }
variable {args:azx}
theorem aqk {vals:Array Value} (hs:S f args [] (.bool true) []) (hL:laidMetH Tryz.prog aoD W) (hl:vals.size=args.length) (hr:∀j,j<args.length->iP W (Old W) (nth args j) (vals.getD j Go.undef)):
  Calls Tryz.prog f vals W λ e W'=>e=.returned (.bool true)∧Below W.heap.size W W':=by
 obtain ⟨_,_,hc⟩:=hs;refine (hc W (Old W) (λ _=>none) vals (ayw hL) hl (λ j hj=>.pure (hr j hj))).mono λ e W' h=>?_;obtain ⟨x,I',O',rfl,hR,hx⟩:=h;have hb:x=.bool true:=hx.mE;subst hb;refine ⟨rfl,⟨hR.env.same.os,hR.env.same.tape,hR.env.same.output,hR.size,λ k hk=>hR.frame k hk ?_⟩⟩;rintro ⟨o,p,bo,sz,h,_⟩;cases h
theorem aiS {H:Type} {enc:TypeId×Value->H} {v:Value} {d:DataW H} {ps:List MemPlace} {base:Nat} (hv:Value.okWide Tryz.prog W .any base 22 v) (h:DataW.Trod enc Tryz.prog W 0 (λ _=>true) true 22 v d ps):∃l:azp,I64 l∧iP W (Old W) (ak l) v:=by
 obtain ⟨a0,len,cap,rfl⟩:=okWide_slice Tryz.underlying22 hv;obtain ⟨fuel,hf⟩:=h;rcases open_ints Tryz.underlying22 Tryz.underlying3 cells3 hf with ⟨hcs,hx⟩ | ⟨a,len',cap',zs,hcs,_,hl,hm,hz,hx,hcell,hwz⟩
 ·simp [Value.cells] at hcs;obtain ⟨rfl,rfl,rfl⟩:=hcs;refine ⟨[],(λ x hx=>by cases hx),?_⟩;exact .sl 0 0 (λ _ _=>Go.undef) (afg _) nofun (λ h=>absurd rfl h) (λ i hi=>by cases hi) (λ i j hi=>by cases hi) (λ i j hi=>by cases hi) (λ i j hi=>by cases hi)
 simp [Value.cells] at hcs;obtain ⟨rfl,rfl,rfl⟩:=hcs;simp only [if_true] at hz;refine ⟨zs.take len,λ x hx=>?_,?_⟩
 ·have:=hwz x (auN hx);simp only [Lit.wf,aei,decide_eq_true_eq] at this;exact this
 have hlen:(zs.take len).length=len:=by simp; omega
 unfold ak amD;rw [hlen];refine .sl a.block a.off (λ i _=>.int .i64 (zs.getD i 0)) hl nofun (λ hn=>?_) (λ i hi=>rfl) (λ i j hi hj=>?_) (λ i j hi hj=>rfl) (λ i j hi hj=>?_)
 ·have h0:=hcell 0 om;have hsp:=World.cell?_spot h0;have e:a.add 0=a:=by simp [Addr.add]
  rw [e] at hsp h0;refine ⟨by cases a; simp at hsp; subst hsp; rfl,World.block_lt_of_cell? _ _ h0⟩
 ·have hj0:j=0:=by omega
  subst hj0;have h0:=hcell 0 om;have hsp:=World.cell?_spot h0;have e:a.add 0=a:=by simp [Addr.add]
  rw [e] at hsp;have hi':=hcell i om;have e2:a.add i=⟨a.block,a.off+(i*1+0),none⟩:=by
   obtain ⟨b,off,sp⟩:=a;simp at hsp;subst hsp;rw [Addr.add_mid];simp
  rw [e2] at hi';exact hi'
 have hj0:j=0:=by omega
 subst hj0;have e:nth (bF iV 0 (zs.take len) i).cells 0=iV (zs.getD i 0):=by
  show iV ((zs.take len).getD i 0)=_;rw [getD_take zs 0 hi]
 rw [e];exact .int _ _
variable {p:Prop}
theorem z (h:p:=by
 repeat' first
  | with_reducible exact trivial
  | with_reducible exact rfl
  | with_reducible refine And.intro ?_ ?_
  | ((conv=>whnf); first
   | with_reducible refine And.intro ?_ ?_
   | with_reducible refine Emb.mk ?_ ?_ ?_
   | with_reducible exact trivial)
  | exact rfl
  | exact λ _ _=>Le.refl _
  | exact λ _=>rfl
  | exact id
  | exact λ h=>Bool.noConfusion h
  | exact Le.refl _
  | exact WX.refl _
  | exact λ h=>absurd rfl h
  | exact λ _ h=>absurd h (ahh _)
  | exact aaW (.refl _) rfl (azi (by exact azo _))
  | omega
  | (simp [jG]; done)
  | (simp [jG]; omega)
  | (simp [jG,Va]; done)
  | (simp [jG,Va]; omega)
  | refine mM ?_ ?_ ?_
  | refine iR ?_ ?_ ?_ ?_
  | exact apq (λ _ _=>Le.refl _) (Le.refl _)
  | exact ac9 (λ _=>rfl)
  | exact kN om
  | exact fK _ _ _
  | exact amJ _ _
  | refine Jy ?_ ?_
  | refine Le.Aa ?_
  | refine Le.sl ?_ ?_ ?_ ?_):p:=h
theorem dk (h:p:=by decide +kernel):p:=h
theorem oz (h:p:=by first | omega | (simp [jG]; done) | (simp [jG]; omega)):p:=h
theorem sr {es:Nat} {f:Bool} {g:Nat->AV}:n=n∧(n≠0->es=es)∧(f=true->f=true)∧∀i,i<n->Le (g i) (g i):=⟨rfl,λ _=>rfl,id,λ _ _=>.refl _⟩
theorem sf {es:Nat} {f:Bool} {g:Nat->AV}:n=n∧(n≠0->es=es)∧(false=true->f=true)∧∀i,i<n->Le (g i) (g i):=⟨rfl,λ _=>rfl,nofun,λ _ _=>.refl _⟩
variable {A:Type} {B:Type} {C:Type}
theorem r4 {D:Type} {a:A} {b:B} {c:C} {d:D}:a=a∧b=b∧c=c∧d=d:=⟨rfl,rfl,rfl,rfl⟩
theorem r2 {a:A} {b:B}:a=a∧b=b:=⟨rfl,rfl⟩
theorem sn {R:Type} {d:Decidable p} {m:M R} {r:R} {K:Prop} (hm:need p m r) (h:p->m r->K):p∧K:=⟨hm.1,h hm.1 hm.2⟩
theorem sq {A R B C : Type} {m : M A} {k : A -> M R} {r : R} {p K : B -> C -> Prop} {a : A -> B} {b : A -> C} (hm : bnd m k r) (F : ∀ {v}, m v -> p (a v) (b v)) (h : ∀ v, k v r -> K (a v) (b v)) : ∃ a b, p a b ∧ K a b := dH hm λ v hv hm => ⟨a v, b v, F hv, h v hm⟩
theorem s2 {R:Type} {q:Prop} {d:Decidable p} {d2:Decidable q} {m:M R} {r:R} {K:Prop} (hm:need p (need q m) r) (h:p->q->m r->K):p∧q∧K:=⟨hm.1,hm.2.1,h hm.1 hm.2.1 hm.2.2⟩
theorem si {R:Type} {c:Bool} {x y:M R} {r:R} {A B:Prop} (hm:(cond c x y) r) (h1:c=true->x r->A) (h2:c=false->y r->B):aas c A B:=fP hm h1 h2
theorem sb {R:Type} {m:M A} {k:A->M R} {r:R} {G:Prop} (hm:bnd m k r) (h:∀v,m v->k v r->G):G:=dH hm h
theorem cl {p K:A->B->Prop} {a:A} {b:B} (h:p a b) (k:K a b):∃a b,p a b∧K a b:=⟨a,b,h,k⟩
theorem re {P:List A->List B->Prop} (h:P [] []:=by exact z):∃a b,P a b:=⟨_,_,h⟩
abbrev acK:AV:=.sl 0 0 true dM
theorem ab3 {a b:Nat} {c:Bool} {g h:Nat->AV}:Le (.sl a 0 c g) (.sl b 0 false h):=.sl rfl (λ h=>absurd rfl h) nofun (λ _ h=>absurd h (ahh _))
theorem bG {A G:Prop} (m:A) (h:A->G:=by intro h;cases h;exact re):G:=h m
theorem bO {A B G:Prop} (h:A->B->G:=by intro _ h;cases h;exact re):A->B->G:=h
theorem aac {p:Prop} (h:p:=by (conv=>whnf);exact sf):p:=h
theorem aai {p q:Prop} (h:p) (k:q):p∧q:=⟨h,k⟩
theorem aaZ {p:Prop} (h:p:=by exact ⟨rfl,rfl,rfl,rfl,nofun⟩):p:=h
theorem ab2 {p:Prop} (h:p:=by exact ⟨rfl,rfl,(λ _ _=>.refl _)⟩):p:=h
theorem rt {P:A->B->Prop} (a:A) (b:B) (h:P a b:=by exact z):∃a b,P a b:=⟨_,_,h⟩
theorem lc {p:A->Prop} {E:A->B->C->Prop} {a:A} (b:B) (c:C) (hm:p a) (h:E a b c:=by exact z):∃a b c,p a∧E a b c:=⟨a,b,c,hm,h⟩
theorem lce {p:A->Prop} {E:A->B->C->Prop} {a:A} (b:B) (c:C) (hm:p a) (h:E a b c):∃a b c,p a∧E a b c:=⟨a,b,c,hm,h⟩
theorem le {p:A->Prop} {E:A->List B->List C->Prop} {a:A} (hm:p a) (h:E a [] []:=by exact z):∃a b c,p a∧E a b c:=⟨a,_,_,hm,h⟩
theorem spc (ct:azt) {fn:Func} {c:Code} {args:azx} {obs:azE} {r:AV} {fQ:azE} (hf:Tryz.prog.funcs[f]? = some fn) (hb:fn.body=some c)
  (h:lF cfg (Ab.Spec Tryz.prog cfg) ct (Loops Tryz.prog cfg fn.ntmps none obs.length) c ⟨L8 args 0,KT.qc obs 0,obs.length⟩ (amy cfg fn.results.toList obs.length r fQ))
  (hnm:(fn.name == "runtime.NumGoroutine")=false:=by exact rfl)
  (hN:args.length<=fn.ntmps:=by exact ag5 rfl) (hok:jk fn.ntmps c=true:=by decide +kernel) (hle:obs.length<=fQ.length:=by exact ag5 rfl):S f args obs r fQ:=
 wO iD hf hb hnm hN hok hle h
theorem sp {fn:Func} {c:Code} {args:azx} {obs:azE} {r:AV} {fQ:azE} (hf:Tryz.prog.funcs[f]? = some fn) (hb:fn.body=some c)
  (h:lF cfg (Ab.Spec Tryz.prog cfg) [] (Loops Tryz.prog cfg fn.ntmps none obs.length) c ⟨L8 args 0,KT.qc obs 0,obs.length⟩ (amy cfg fn.results.toList obs.length r fQ))
  (hnm:(fn.name == "runtime.NumGoroutine")=false:=by exact rfl)
  (hN:args.length<=fn.ntmps:=by exact ag5 rfl) (hok:jk fn.ntmps c=true:=by decide +kernel) (hle:obs.length<=fQ.length:=by exact ag5 rfl):S f args obs r fQ:=
 wO iD hf hb hnm hN hok hle h
section
variable {N:Nat} {rr:Option Nat} {m:Nat}
variable {c:Code} {s:St} {K:Exit->St->Prop} {σ R:Type} {F:(σ->M R)->σ->M R} {x0:σ} {r:R}
theorem XQ (ct:azt) (hm:dI F x0 r) (st:σ->St) (ρ0:List (Nat×Option Nat)) (os0:azt)
  (round:∀(self:σ->M R) (x:σ),F self x r->lF cfg (Ab.Spec Tryz.prog cfg) ct (Loops Tryz.prog cfg N rr m) c (st x) (λ e s'=>match e with | .normal=>∃x' ρ os,self x' r∧RH m ρ os s' (st x') | e=>K e s'))
  (hE:RH m ρ0 os0 s (st x0):=by exact z) (hok:jk N c=true:=by decide +kernel):Loops Tryz.prog cfg N rr m (.loop c) s K:=nN iD hok hm st ρ0 os0 hE round
theorem lf (hm:dI F x0 r) (st:σ->St) (ρ0:List (Nat×Option Nat)) (os0:azt)
  (round:∀(self:σ->M R) (x:σ),F self x r->lF cfg (Ab.Spec Tryz.prog cfg) [] (Loops Tryz.prog cfg N rr m) c (st x) (λ e s'=>match e with | .normal=>∃x' ρ os,self x' r∧RH m ρ os s' (st x') | e=>K e s'))
  (hE:RH m ρ0 os0 s (st x0):=by exact z) (hok:jk N c=true:=by decide +kernel):Loops Tryz.prog cfg N rr m (.loop c) s K:=nN iD hok hm st ρ0 os0 hE round
theorem l0 (hm:dI F x0 r) (st:σ->St)
  (round:∀(self:σ->M R) (x:σ),F self x r->lF cfg (Ab.Spec Tryz.prog cfg) [] (Loops Tryz.prog cfg N rr m) c (st x) (λ e s'=>match e with | .normal=>∃x' ρ os,self x' r∧RH m ρ os s' (st x') | e=>K e s'))
  (hE:RH m [] [] s (st x0):=by exact z) (hok:jk N c=true:=by decide +kernel):Loops Tryz.prog cfg N rr m (.loop c) s K:=nN iD hok hm st [] [] hE round
theorem ck (ct:azt) {x y:Code} {s:St} {K:Exit->St->Prop} (k:σ->M R) (r:R) (st:σ->St)
  (h1:lF cfg (Ab.Spec Tryz.prog cfg) ct (Loops Tryz.prog cfg N rr m) x s (λ e s'=>match e with | .normal=>∃x' ρ os,k x' r∧RH m ρ os s' (st x') | e=>K e s'))
  (h2:∀x',k x' r->lF cfg (Ab.Spec Tryz.prog cfg) ct (Loops Tryz.prog cfg N rr m) y (st x') K) (amH:jk N x=true:=by decide +kernel) (akB:jk N y=true:=by decide +kernel):Loops Tryz.prog cfg N rr m (.seq x y) s K:=SH iD amH akB k r st h1 h2
end
end Go.Proofs.YtifekdmmpbcdgaaGreatDoor
namespace Go.Proofs.YtifekdmmpbcdgaaGreatDoor
open Go.Ab
set_option maxRecDepth 100000
set_option maxHeartbeats 20000000
variable {r:Bool}
theorem UH {c_:aF} (m:IC c_ r):S 223 [OC c_] [] (.bool r) [] :=sp Tryz.func223 rfl<|bG m
theorem Ba {s_:azs} {r:Int} (m:u7 s_ r):S 253 [bg s_,.fn 223 []] [] (iV r) [] :=sp Tryz.func253 rfl<|l0 m (λ g1=>⟨[(0,bg s_),(1,.fn 223 []),(7,iV (s_.length:Int)),(8,iV g1)],[],0⟩) <|λ ah g1 m=>si m (λ _ m=>sn m λ _ m=>sq m UH λ v3 m=>si m bO λ _ m=>sn m λ _ m=>le m) bO
theorem xZ {s_:azs} (m:l9 s_ r):S 222 [bg s_,.fn 223 []] [] (.bool r) [] :=sp Tryz.func222 rfl<|sq m Ba λ v1 m=>bG m
theorem ji {n_:Int} {xW:Int} {z8:Int} (m:ku n_ xW z8 r):S 227 [iV n_,iV xW,iV z8] [] (.bool r) [] :=sp Tryz.func227 rfl<|bG m
theorem UJ {p_:Int} {mg:Int} (m:Bq p_ mg r):S 254 [iV p_,.ro [iV mg]] [] (.bool r) [] :=sp Tryz.func254 rfl<|sn m λ _ m=>sq m ji λ v1 m=>bG m
variable {s_:azp}
theorem Gv {f_:Int} {r:Int} (m:Cb s_ f_ r):S 262 [ak s_,.fn 254 [.ro [iV f_]]] [] (iV r) [] :=sp Tryz.func262 rfl<|l0 m (λ g1=>⟨[(0,ak s_),(1,.fn 254 [.ro [iV f_]]),(7,iV (s_.length:Int)),(8,iV g1)],[],0⟩) <|λ ah g1 m=>si m (λ _ m=>sn m λ _ m=>sq m UJ λ v3 m=>si m bO λ _ m=>sn m λ _ m=>le m) bO
theorem Dt {f_:Int} (m:oV s_ f_ r):S 235 [ak s_,.fn 254 [.ro [iV f_]]] [] (.bool r) [] :=sp Tryz.func235 rfl<|sq m Gv λ v1 m=>bG m
theorem NZ {v_:Int} {r:Int} (m:slices_Index_int s_ v_ r):S 149 [ak s_,iV v_] [] (iV r) [] :=sp Tryz.func149 rfl<|l0 m (λ g1=>⟨[(0,ak s_),(1,iV v_),(7,iV (s_.length:Int)),(8,iV g1)],[],0⟩) <|λ ah g1 m=>si m (λ _ m=>sn m λ _ m=>si m bO λ _ m=>sn m λ _ m=>le m) bO
theorem lJ {v_:Int} (m:slices_Contains_int s_ v_ r):S 86 [ak s_,iV v_] [] (.bool r) [] :=sp Tryz.func86 rfl<|sq m NZ λ v1 m=>bG m
theorem nY {l_:azp} {xW:Int} {z8:Int} (m:nO l_ xW z8 r):S 255 [ak l_,iV xW,iV z8] [] (.bool r) [] :=sp Tryz.func255 rfl<|l0 m (λ g1=>⟨[(0,ak l_),(1,iV xW),(2,iV z8),(9,ak l_),(10,iV (l_.length:Int)),(11,iV g1)],[],0⟩) <|λ ah g1 m=>si m (λ _ m=>sn m λ _ m=>sq m ji λ v5 m=>sn m λ _ m=>sb m λ v6 hv6 m=>cl (λ q0=>((lJ (hv6 q0)).le ⟨(.sl oz (λ _=>rfl) nofun (kN (f:=iV) (d:=0) (by first | omega | exact ajb _ _ | exact afQ (ajb _ _) om | (simp; omega)))),.refl _,trivial⟩ trivial))<|si m bO λ _ m=>sn m λ _ m=>le m) bO
theorem ny {s1_:azp} {s2_:azp} (m:slices_Equal_int s1_ s2_ r):S 51 [ak s1_,ak s2_] [] (.bool r) [] :=sp Tryz.func51 rfl<|si m bO λ _ m=>l0 m (λ g1=>⟨[(0,ak s1_),(1,ak s2_),(12,iV (s1_.length:Int)),(13,iV g1)],[],0⟩) <|λ ah g1 m=>si m (λ _ m=>s2 m λ _ _ m=>si m bO λ _ m=>sn m λ _ m=>le m) bO
theorem XR {c_:aF} {at_:Int} (m:OD c_ at_ r):S 224 [OC c_,iV at_] [] (.bool r) [] :=sp Tryz.func224 rfl<|sq m Dt λ v1 m=>sb m λ v2 hv2 m=>cl (λ q0=>(ji (hv2 q0)))<|sb m λ v3 hv3 m=>cl (λ q0=>(ji (hv3 q0)))<|si m bO λ _ m=>si m (λ _ m=>sn m λ _ m=>sb m λ v4 hv4 m=>cl (λ q0=>(ji (hv4 q0)))<|bG m) λ _ m=>si m (λ _ m=>si m (λ _ m=>sb m λ v5 hv5 m=>cl (λ q0=>(nY (hv5 q0)))<|bG m) λ _ m=>si m (λ _ m=>sn m λ _ m=>sb m λ v6 hv6 m=>cl (λ q0=>(nY (hv6 q0)))<|bG m) λ _ m=>si m (λ _ m=>si m (λ _ m=>sb m λ v7 hv7 m=>cl (λ q0=>((ny (hv7 q0)).le ⟨.refl _,(.sl rfl (λ _=>rfl) nofun (fK iV 0 [(0:Int),(1:Int)])),trivial⟩ trivial))<|bG m) λ c7 m=>by
 refine ⟨.bool false,[],(λ q0=>absurd q0 (vac c7)),?_⟩
 (conv=>whnf)
 have m:r=(((c_.aW.length:Int)==(1:Int))&&false):=m
 subst m
 refine ⟨[],[],?_⟩
 (conv=>whnf)
 exact ⟨⟨rfl,trivial,trivial⟩,rfl⟩) bO) λ _ m=>si m (λ _ m=>sb m λ v8 BG m=>cl (λ q0=>(nY (BG q0)))<|bG m) λ _ m=>si m (λ _ m=>sn m λ _ m=>sb m λ v9 Xx m=>cl (λ q0=>(nY (Xx q0)))<|bG m) λ _ m=>si m (λ _ m=>si m (λ _ m=>sb m λ v10 Gq m=>cl (λ q0=>((ny (Gq q0)).le ⟨.refl _,(.sl rfl (λ _=>rfl) nofun (fK iV 0 [(0:Int),(1:Int)])),trivial⟩ trivial))<|bG m) λ c11 m=>by
 refine ⟨.bool false,[],(λ q0=>absurd q0 (vac c11)),?_⟩
 (conv=>whnf)
 have m:r=(((c_.aW.length:Int)==(1:Int))&&false):=m
 subst m
 refine ⟨[],[],?_⟩
 (conv=>whnf)
 exact ⟨⟨rfl,trivial,trivial⟩,rfl⟩) bO
variable {l_:azs}
theorem mX {r:Int} (m:pR l_ r):S 164 [bg l_] [] (iV r) [] :=spc [21] Tryz.func164 rfl<|sb m λ v1 hv1 m=>cl (λ q0=>(xZ (hv1 q0)))<|si m bO λ _ m=>XQ [21] m (λ g1=>⟨[(0,bg l_),(18,bg l_),(19,iV (l_.length:Int)),(20,iV g1)],[],0⟩) [] [] <|λ ah g1 m=>si m (λ _ m=>sn m λ _ m=>sq m XR λ v4 m=>si m bO λ _ m=>sn m λ _ m=>le m) λ _ m=>sn m λ _ m=>XQ [21] m (λ g2=>⟨[(5,iV g2.1),(6,.dR 0 0 g2.2.2.length false),(33,bg l_),(34,iV (l_.length:Int)),(35,iV g2.2.1)],[(0,some (.row 1 g2.2.2.length (bF iV 0 g2.2.2)))],1⟩) [(0,some 32)] [] <|λ dY g2 m=>si m (λ _ m=>sn m λ _ m=>XQ [21] m (λ g7=>⟨[(5,iV g2.1),(6,.dR 0 0 g7.2.length false),(7,iV g2.2.1),(8,.ptr 1 0 0),(33,bg l_),(34,iV (l_.length:Int)),(35,iV g2.2.1),(41,ak ((l_.getD g2.2.1.toNat aL).aW)),(42,iV ((((l_.getD g2.2.1.toNat aL).aW).length:Nat):Int)),(43,iV g7.1)],[(0,some (.row 1 g7.2.length (bF iV 0 g7.2))),(1,some (.box [iV ((l_.getD g2.2.1.toNat aL).dG),ak ((l_.getD g2.2.1.toNat aL).aW),ak ((l_.getD g2.2.1.toNat aL).aO),iV ((l_.getD g2.2.1.toNat aL).lC),iV ((l_.getD g2.2.1.toNat aL).fI)]))],2⟩) [(1,some 33)] [] <|λ oJ g7 m=>si m (λ _ m=>s2 m λ _ _ m=>s2 m λ _ _ m=>sn m λ _ m=>le m) λ _ m=>ck [21] (wh l_ g2 dY) r (λ g8=>⟨[(5,iV g2.1),(6,.dR 0 0 g8.length false),(7,iV g2.2.1),(8,.ptr 1 0 0),(33,bg l_),(34,iV (l_.length:Int)),(35,iV g2.2.1)],[(0,some (.row 1 g8.length (bF iV 0 g8))),(1,some (.box [iV ((l_.getD g2.2.1.toNat aL).dG),ak ((l_.getD g2.2.1.toNat aL).aW),ak ((l_.getD g2.2.1.toNat aL).aO),iV ((l_.getD g2.2.1.toNat aL).lC),iV ((l_.getD g2.2.1.toNat aL).fI)]))],2⟩) (si m (λ _ m=>s2 m λ _ _ m=>sn m λ _ m=>le m) λ _ m=>le m) λ g8 m=>s2 m λ _ _ m=>si m bO λ _ m=>sn m λ _ m=>le m) bO
theorem R7 {s_:av} (m:sV s_ r):S 217 [GN s_] [] (.bool r) [] :=sp Tryz.func217 rfl<|bG m
theorem Bb {s_:azv} {r:Int} (m:vg s_ r):S 251 [bf s_,.fn 217 []] [] (iV r) [] :=sp Tryz.func251 rfl<|l0 m (λ g1=>⟨[(0,bf s_),(1,.fn 217 []),(7,iV (s_.length:Int)),(8,iV g1)],[],0⟩) <|λ ah g1 m=>si m (λ _ m=>sn m λ _ m=>sq m R7 λ v3 m=>si m bO λ _ m=>sn m λ _ m=>le m) bO
theorem x9 {s_:azv} (m:mh s_ r):S 216 [bf s_,.fn 217 []] [] (.bool r) [] :=sp Tryz.func216 rfl<|sq m Bb λ v1 m=>bG m
theorem iE {n_:Int} {xW:Int} {z8:Int} (m:jd n_ xW z8 r):S 158 [iV n_,iV xW,iV z8] [] (.bool r) [] :=sp Tryz.func158 rfl<|bG m
theorem Wp {s_:av} {at_:Int} (m:D8 s_ at_ r):S 218 [GN s_,iV at_] [] (.bool r) [] :=sp Tryz.func218 rfl<|sn m λ _ m=>sq m iE λ v1 m=>sb m λ v2 hv2 m=>cl (λ q0=>(iE (hv2 q0)))<|sb m λ v3 hv3 m=>cl (λ q0=>(iE (hv3 q0)))<|si m bO λ _ m=>l0 m (λ g1=>⟨[(2,.ptr 0 0 0),(42,ak s_.cK),(43,iV (s_.cK.length:Int)),(44,iV g1)],[(0,some (.box [iV s_.aT,ak s_.cK,iV s_.iw,iV s_.iG,.bool s_.gF]))],1⟩) <|λ ah g1 m=>si m (λ _ m=>sn m λ _ m=>sq m iE λ v6 m=>s2 m λ _ _ m=>si m bO λ _ m=>sn m λ _ m=>le m) bO
theorem sM {l_:azv} {r:Int} (m:ql l_ r):S 152 [bf l_] [] (iV r) [] :=sp Tryz.func152 rfl<|sb m λ v1 hv1 m=>cl (λ q0=>(x9 (hv1 q0)))<|si m bO λ _ m=>l0 m (λ g1=>⟨[(12,bf l_),(13,iV (l_.length:Int)),(14,iV g1)],[],0⟩) <|λ ah g1 m=>si m (λ _ m=>sn m λ _ m=>sq m Wp λ v4 m=>si m bO λ _ m=>sn m λ _ m=>le m) bO
theorem F8 {s_:ByteArray} (m:EL s_ r):S 215 [.str s_] [] (.bool r) [] :=sp Tryz.func215 rfl<|s2 m λ _ _ m=>si m bO λ _ m=>l0 m (λ g1=>⟨[(0,.str s_),(3,iV g1)],[],0⟩) <|λ ah g1 m=>si m (λ _ m=>sn m λ _ m=>si m bO λ _ m=>sn m λ _ m=>le m) bO
theorem Jg {s_:azB} {v_:ByteArray} {r:Int} (m:slices_Index_string s_ v_ r):S 273 [iI s_,.str v_] [] (iV r) [] :=sp Tryz.func273 rfl<|l0 m (λ g1=>⟨[(0,iI s_),(1,.str v_),(7,iV (s_.length:Int)),(8,iV g1)],[],0⟩) <|λ ah g1 m=>si m (λ _ m=>sn m λ _ m=>si m bO λ _ m=>sn m λ _ m=>le m) bO
theorem EF {s_:azB} {v_:ByteArray} (m:slices_Contains_string s_ v_ r):S 267 [iI s_,.str v_] [] (.bool r) [] :=sp Tryz.func267 rfl<|sq m Jg λ v1 m=>bG m
theorem ZB {OI:Int} {g_:dh} {r:Int} (m:K4 OI g_ r):S 250 [iV OI,oU g_] [] (iV r) [] :=sp Tryz.func250 rfl<|si m bO λ _ m=>si m bO λ _ m=>l0 m (λ g1=>⟨[(0,iV OI),(3,.ptr 0 0 0),(27,ak g_.cu),(28,iV (g_.cu.length:Int)),(29,iV g1)],[(0,some (.box [.str g_.yw,ak g_.cu,iI g_.au]))],1⟩) <|λ ah g1 m=>si m (λ _ m=>sn m λ _ m=>si m bO λ _ m=>sn m λ _ m=>le m) λ _ m=>l0 m (λ g2=>⟨[(3,.ptr 0 0 0),(7,iV g2)],[(0,some (.box [.str g_.yw,ak g_.cu,iI g_.au]))],1⟩) <|λ dY g2 m=>si m (λ _ m=>s2 m λ _ _ m=>sn m λ _ m=>si m bO λ _ m=>sn m λ _ m=>le m) λ _ m=>l0 m (λ g3=>⟨[(3,.ptr 0 0 0),(61,iI g_.au),(62,iV (g_.au.length:Int)),(63,iV g3)],[(0,some (.box [.str g_.yw,ak g_.cu,iI g_.au]))],1⟩) <|λ nE g3 m=>si m (λ _ m=>sn m λ _ m=>sq m F8 λ v3 m=>si m bO λ _ m=>sn m λ _ m=>le m) λ _ m=>l0 m (λ g4=>⟨[(3,.ptr 0 0 0),(72,iI g_.au),(73,iV (g_.au.length:Int)),(74,iV g4)],[(0,some (.box [.str g_.yw,ak g_.cu,iI g_.au]))],1⟩) <|λ gW g4 m=>si m (λ _ m=>s2 m λ _ _ m=>sb m λ v6 hv6 m=>cl ((EF hv6).le ⟨(.sl oz (λ _=>rfl) nofun (kN (f:=AV.str) (d:=ByteArray.empty) (by first | omega | exact ajb _ _ | exact afQ (ajb _ _) om | (simp; omega)))),.refl _,trivial⟩ trivial)<|si m bO λ _ m=>sn m λ _ m=>le m) bO
theorem NA {p_:bR} {r:Int} (m:EZ p_ r):S 213 [qj p_] [] (iV r) [] :=sp Tryz.func213 rfl<|si m bO λ _ m=>si m bO λ _ m=>lf m (λ g1=>⟨[(1,.ptr 0 0 0),(3,.mref 1),(21,bE p_.aH),(22,iV (p_.aH.length:Int)),(23,iV g1.1)],[(0,some (.box [iV p_.cu,bE p_.aH])),(1,some (.map .str [.bool] g1.2))],2⟩) [(1,some 112)] [] <|λ ah g1 m=>si m (λ _ m=>sn m λ _ m=>sq m F8 λ v5 m=>si m bO λ _ m=>si m bO λ _ m=>sq m ZB λ v6 m=>si m bO λ _ m=>sn m λ _ m=>le m) bO
theorem Km {l_:azC} {r:Int} (m:Cc l_ r):S 214 [dz l_] [] (iV r) [] :=sp Tryz.func214 rfl<|si m bO λ _ m=>l0 m (λ g1=>⟨[(11,dz l_),(12,iV (l_.length:Int)),(13,iV g1)],[],0⟩) <|λ ah g1 m=>si m (λ _ m=>sn m λ _ m=>lf m (λ g6=>⟨[(3,iV g1),(4,.ptr 0 0 0),(11,dz l_),(12,iV (l_.length:Int)),(13,iV g1),(19,ak ((l_.getD g1.toNat d9).fF)),(20,iV ((((l_.getD g1.toNat d9).fF).length:Nat):Int)),(21,iV g6)],[(0,some (.box [ak ((l_.getD g1.toNat d9).fF)]))],1⟩) [(0,some 32)] [] <|λ jQ g6 m=>si m (λ _ m=>sn m λ _ m=>si m bO λ _ m=>sn m λ _ m=>le m) λ _ m=>l0 m (λ g7=>⟨[(4,.ptr 0 0 0),(7,iV g7),(11,dz l_),(12,iV (l_.length:Int)),(13,iV g1)],[(0,some (.box [ak ((l_.getD g1.toNat d9).fF)]))],1⟩) <|λ oJ g7 m=>si m (λ _ m=>s2 m λ _ _ m=>sn m λ _ m=>si m bO λ _ m=>sn m λ _ m=>le m) λ _ m=>sn m λ _ m=>le m) bO
theorem zT {l_:azD} {r:Int} (m:uF l_ r):S 105 [bZ l_] [] (iV r) [] :=sp Tryz.func105 rfl<|si m bO λ _ m=>l0 m (λ g1=>⟨[(8,bZ l_),(9,iV (l_.length:Int)),(10,iV g1)],[],0⟩) <|λ ah g1 m=>si m (λ _ m=>sn m λ _ m=>si m bO λ _ m=>sn m λ _ m=>le m) bO
theorem XT {b_:aV} {r:Int} (m:GQ b_ r):S 147 [jf b_] [] (iV r) [] :=sp Tryz.func147 rfl<|sq m mX λ v1 m=>si m bO λ _ m=>sq m sM λ v2 m=>si m bO λ _ m=>sq m NA λ v3 m=>si m bO λ _ m=>sq m Km λ v4 m=>si m bO λ _ m=>sq m zT λ v5 m=>bG m
theorem lK {x_:Int} {D9:Int} {oW:Int} (m:qQ x_ D9 oW r):S 171 [iV x_,iV D9,iV oW] [] (.bool r) [] :=sp Tryz.func171 rfl<|bG m
theorem ZC {b_:aV} {n_:aR} {iU:Int} {r:Int} (m:K5 b_ n_ iU r):S 148 [jf b_,Dy n_,iV iU] [] (iV r) [] :=sp Tryz.func148 rfl<|si m bO λ _ m=>lf m (λ g1=>⟨[(2,iV iU),(3,.ptr 0 0 0),(4,.ptr 1 0 0),(35,eF n_.dx),(36,iV (n_.dx.length:Int)),(37,iV g1)],[(0,some (.box [bg b_.bP,bf b_.bI,iV b_.aU.cu,bE b_.aU.aH,dz b_.bH,bZ b_.bX])),(1,some (.box [eF n_.dx,fZ n_.fJ,iI n_.au,ak n_.bH,iV n_.fV,ak n_.cO]))],2⟩) [(1,some 8)] [] <|λ ah g1 m=>si m (λ _ m=>s2 m λ _ _ m=>sq m lK λ v3 m=>si m bO λ _ m=>sn m λ _ m=>le m) λ _ m=>l0 m (λ g2=>⟨[(2,iV iU),(3,.ptr 0 0 0),(4,.ptr 1 0 0),(68,fZ n_.fJ),(69,iV (n_.fJ.length:Int)),(70,iV g2)],[(0,some (.box [bg b_.bP,bf b_.bI,iV b_.aU.cu,bE b_.aU.aH,dz b_.bH,bZ b_.bX])),(1,some (.box [eF n_.dx,fZ n_.fJ,iI n_.au,ak n_.bH,iV n_.fV,ak n_.cO]))],2⟩) <|λ dY g2 m=>si m (λ _ m=>s2 m λ _ _ m=>sq m lK λ v8 m=>sb m λ v9 Xx m=>cl (λ q0=>(lK (Xx q0)))<|si m bO λ _ m=>sn m λ _ m=>le m) λ _ m=>l0 m (λ g3=>⟨[(2,iV iU),(3,.ptr 0 0 0),(4,.ptr 1 0 0),(107,iI n_.au),(108,iV (n_.au.length:Int)),(109,iV g3)],[(0,some (.box [bg b_.bP,bf b_.bI,iV b_.aU.cu,bE b_.aU.aH,dz b_.bH,bZ b_.bX])),(1,some (.box [eF n_.dx,fZ n_.fJ,iI n_.au,ak n_.bH,iV n_.fV,ak n_.cO]))],2⟩) <|λ nE g3 m=>si m (λ _ m=>sn m λ _ m=>sq m F8 λ v12 m=>si m bO λ _ m=>sn m λ _ m=>le m) λ _ m=>l0 m (λ g4=>⟨[(2,iV iU),(3,.ptr 0 0 0),(4,.ptr 1 0 0),(118,ak n_.bH),(119,iV (n_.bH.length:Int)),(120,iV g4)],[(0,some (.box [bg b_.bP,bf b_.bI,iV b_.aU.cu,bE b_.aU.aH,dz b_.bH,bZ b_.bX])),(1,some (.box [eF n_.dx,fZ n_.fJ,iI n_.au,ak n_.bH,iV n_.fV,ak n_.cO]))],2⟩) <|λ gW g4 m=>si m (λ _ m=>s2 m λ _ _ m=>sq m lK λ v15 m=>si m bO λ _ m=>sn m λ _ m=>le m) λ _ m=>sn m λ _ m=>sq m lK λ v16 m=>si m bO λ _ m=>lf m (λ g5=>⟨[(2,iV iU),(4,.ptr 0 0 0),(141,ak n_.cO),(142,iV (n_.cO.length:Int)),(143,iV g5)],[(0,some (.box [eF n_.dx,fZ n_.fJ,iI n_.au,ak n_.bH,iV n_.fV,ak n_.cO]))],1⟩) [(0,some 1)] [] <|λ nP g5 m=>si m (λ _ m=>s2 m λ _ _ m=>sq m lK λ v19 m=>si m bO λ _ m=>sn m λ _ m=>le m) λ _ m=>l0 m (λ g6=>⟨[(4,.ptr 0 0 0),(17,iV g6)],[(0,some (.box [eF n_.dx,fZ n_.fJ,iI n_.au,ak n_.bH,iV n_.fV,ak n_.cO]))],1⟩) <|λ jQ g6 m=>si m (λ _ m=>s2 m λ _ _ m=>sn m λ _ m=>si m bO λ _ m=>sn m λ _ m=>le m) bO
theorem Du {b_:aV} {l_:azu} {r:Int} (m:AO b_ l_ r):S 85 [jf b_,dX l_] [] (iV r) [] :=sp Tryz.func85 rfl<|sq m XT λ v1 m=>si m bO λ _ m=>si m bO λ _ m=>l0 m (λ g1=>⟨[(1,dX l_),(2,.ptr 0 0 0),(17,dX l_),(18,iV (l_.length:Int)),(19,iV g1)],[(0,some (.box [bg b_.bP,bf b_.bI,iV b_.aU.cu,bE b_.aU.aH,dz b_.bH,bZ b_.bX]))],1⟩) <|λ ah g1 m=>si m (λ _ m=>sn m λ _ m=>sq m ZC λ v4 m=>si m bO λ _ m=>sn m λ _ m=>le m) bO
theorem CO {l_:azu} {aj:azp} (m:qR l_ aj r):S 107 [dX l_,ak aj] [] (.bool r) [] :=sp Tryz.func107 rfl<|l0 m (λ g1=>⟨[(0,dX l_),(1,ak aj),(7,ak aj),(8,iV (aj.length:Int)),(9,iV g1)],[],0⟩) <|λ ah g1 m=>si m (λ _ m=>s2 m λ _ _ m=>sq m lK λ v5 m=>sn m λ _ m=>sb m λ v6 hv6 m=>cl (λ q0=>((lJ (hv6 q0)).le ⟨(.sl oz (λ _=>rfl) nofun (kN (f:=iV) (d:=0) (by first | omega | exact ajb _ _ | exact afQ (ajb _ _) om | (simp; omega)))),.refl _,trivial⟩ trivial))<|si m bO λ _ m=>sn m λ _ m=>le m) bO
theorem LV {s_:ig} (m:r9 s_ r):S 174 [K3 s_] [] (.bool r) [] :=sp Tryz.func174 rfl<|sq m CO λ v1 m=>si m bO λ _ m=>lf m (λ g1=>⟨[(1,.ptr 0 0 0),(4,.ptr 1 0 0),(67,bg s_.bQ.bP),(68,iV (s_.bQ.bP.length:Int)),(69,iV g1)],[(0,some (.box [bg s_.bQ.bP,bf s_.bQ.bI,iV s_.bQ.aU.cu,bE s_.bQ.aU.aH,dz s_.bQ.bH,bZ s_.bQ.bX,dX s_.dP,ak s_.aX,ak s_.bD.Setting,aK s_.bD.bB.On,ak s_.bD.bB.bC,bJ s_.bD.Uses,aK s_.bD.Released,aK s_.bD.aY,.bool s_.kr])),(1,some (.box [ak s_.bD.Setting,aK s_.bD.bB.On,ak s_.bD.bB.bC,bJ s_.bD.Uses,aK s_.bD.Released,aK s_.bD.aY]))],2⟩) [(1,some 56)] [] <|λ ah g1 m=>si m (λ _ m=>s2 m λ _ _ m=>sn m λ _ m=>sq m lK λ v4 m=>si m bO λ _ m=>sn m λ _ m=>le m) λ _ m=>l0 m (λ g2=>⟨[(1,.ptr 0 0 0),(87,bJ s_.bD.Uses),(88,iV (s_.bD.Uses.length:Int)),(89,iV g2)],[(0,some (.box [bg s_.bQ.bP,bf s_.bQ.bI,iV s_.bQ.aU.cu,bE s_.bQ.aU.aH,dz s_.bQ.bH,bZ s_.bQ.bX,dX s_.dP,ak s_.aX,ak s_.bD.Setting,aK s_.bD.bB.On,ak s_.bD.bB.bC,bJ s_.bD.Uses,aK s_.bD.Released,aK s_.bD.aY,.bool s_.kr]))],1⟩) <|λ dY g2 m=>si m (λ _ m=>s2 m λ _ _ m=>sq m lK λ v7 m=>si m bO λ _ m=>sn m λ _ m=>le m) bO
theorem R8 {x_:aZ} {mg:azs} (m:sW x_ mg r):S 226 [yK x_,.ro [bg mg]] [] (.bool r) [] :=sp Tryz.func226 rfl<|sn m λ _ m=>sq m ji λ v1 m=>sb m λ v2 hv2 m=>cl (λ q0=>(ji (hv2 q0)))<|sb m λ v3 hv3 m=>cl (λ q0=>(ji (hv3 q0)))<|bG m
theorem Bc {s_:azz} {f_:azs} {r:Int} (m:vk s_ f_ r):S 256 [eF s_,.fn 226 [.ro [bg f_]]] [] (iV r) [] :=sp Tryz.func256 rfl<|l0 m (λ g1=>⟨[(0,eF s_),(1,.fn 226 [.ro [bg f_]]),(7,iV (s_.length:Int)),(8,iV g1)],[],0⟩) <|λ ah g1 m=>si m (λ _ m=>sn m λ _ m=>sq m R8 λ v3 m=>si m bO λ _ m=>sn m λ _ m=>le m) bO
theorem yc {s_:azz} {f_:azs} (m:mo s_ f_ r):S 225 [eF s_,.fn 226 [.ro [bg f_]]] [] (.bool r) [] :=sp Tryz.func225 rfl<|sq m Bc λ v1 m=>bG m
theorem Ih {m_:azz} (m:yM l_ m_ r):S 165 [bg l_,eF m_] [] (.bool r) [] :=sp Tryz.func165 rfl<|sq m mX λ v1 m=>sb m λ v2 hv2 m=>cl (λ q0=>(yc (hv2 q0)))<|bG m
theorem qK (m:oh l_ s_ r):S 228 [bg l_,ak s_] [] (.bool r) [] :=sp Tryz.func228 rfl<|si m bO λ _ m=>l0 m (λ g1=>⟨[(0,bg l_),(12,ak s_),(13,iV (s_.length:Int)),(14,iV g1)],[],0⟩) <|λ ah g1 m=>si m (λ _ m=>s2 m λ _ _ m=>sn m λ _ m=>sq m ji λ v3 m=>si m bO λ _ m=>sn m λ _ m=>le m) bO
theorem Ii {jR:Int} {r:Int} (m:yN l_ s_ jR r):S 268 [bg l_,ak s_,iV jR] [] (iV r) [] :=sp Tryz.func268 rfl<|sn m λ _ m=>si m bO λ _ m=>si m (λ _ m=>s2 m λ _ _ m=>sn m bO) λ _ m=>sn m bO
theorem uW {a_:Int} {b_:Int} {r:Int} (m:sZ a_ b_ r):S 271 [iV a_,iV b_] [] (iV r) [] :=sp Tryz.func271 rfl<|l0 m (λ g1=>⟨[(0,iV g1.1),(1,iV g1.2)],[],0⟩) <|λ ah g1 m=>si m (λ _ m=>sn m λ _ m=>le m) bO
variable {r_:bU}
theorem wH (m:wQ r_ r):S 258 [rZ r_] [] (.bool r) [] :=sp Tryz.func258 rfl<|sb m λ v1 hv1 m=>cl (λ q0=>(uW (hv1 q0)))<|bG m
theorem XU {qm:Int} {uG:Int} {mg:Int} {r:Int×Int} (m:GR qm uG mg r):S 275 [.ro [iV qm,iV uG],.ro [iV mg]] [] (.jX [iV r.1,iV r.2]) [] :=sp Tryz.func275 rfl<|sq m uW λ v1 m=>s2 m λ _ _ m=>sn m bO
theorem TQ {yO:Int} {yP:Int} {r:bU×Int} (m:OW yO yP r):S 277 [iV yO,iV yP] [] (.jX [rZ r.1,iV r.2]) [] :=sp Tryz.func277 rfl<|si m bO λ _ m=>sq m uW λ v1 m=>s2 m λ _ _ m=>sq m wH λ v2 m=>si m bO bO
variable {k_:Int}
theorem XV {qo:Int} {qx:Int} {qy:Int} {r:bU×Int} (m:GU r_ k_ qo qx qy r):S 274 [rZ r_,iV k_,.fn 275 [.ro [iV qo,iV qx],.ro [iV qy]]] [] (.jX [rZ r.1,iV r.2]) [] :=sp Tryz.func274 rfl<|sq m wH λ v1 m=>si m bO λ _ m=>si m bO λ _ m=>sq m XU λ v2 m=>sq m TQ λ v3 m=>bG m
theorem QN {r:bU×Int} (m:JC r_ k_ r):S 269 [rZ r_,iV k_] [] (.jX [rZ r.1,iV r.2]) [] :=sp Tryz.func269 rfl<|sq m XV λ v1 m=>bG m
theorem Wq {wo:Int} {oq:Int} {mO:Int} {r:Int×Int} (m:Ea wo oq mO r):S 276 [.ro [iV wo],.ro [iV oq,iV mO]] [] (.jX [iV r.1,iV r.2]) [] :=sp Tryz.func276 rfl<|sq m uW λ v1 m=>s2 m λ _ _ m=>si m bO λ _ m=>s2 m λ _ _ m=>sn m bO
theorem R9 {qo:Int} {qx:Int} {qy:Int} {r:bU×Int} (m:yQ r_ k_ qo qx qy r):S 274 [rZ r_,iV k_,.fn 276 [.ro [iV qo],.ro [iV qx,iV qy]]] [] (.jX [rZ r.1,iV r.2]) [] :=sp Tryz.func274 rfl<|sq m wH λ v1 m=>si m bO λ _ m=>si m bO λ _ m=>sq m Wq λ v2 m=>sq m TQ λ v3 m=>bG m
theorem NC {r:bU×Int} (m:E8 r_ k_ r):S 270 [rZ r_,iV k_] [] (.jX [rZ r.1,iV r.2]) [] :=sp Tryz.func270 rfl<|sq m R9 λ v1 m=>bG m
theorem Ko {r:azA} (m:Cg l_ s_ r):S 257 [bg l_,ak s_] [] (nI r) [] :=sp Tryz.func257 rfl<|sn m λ _ m=>lf m (λ g1=>⟨[(0,bg l_),(1,ak s_),(5,.dR 0 0 g1.2.length false),(13,bg l_),(14,iV (l_.length:Int)),(15,iV g1.1)],[(0,some (.row 2 g1.2.length (bF rZ dW g1.2)))],1⟩) [(0,some 24)] [] <|λ ah g1 m=>si m (λ _ m=>s2 m λ _ _ m=>sn m λ _ m=>sq m Ii λ v7 m=>si m (λ _ m=>s2 m λ _ _ m=>le m) λ _ m=>sn m λ _ m=>si m (λ _ m=>s2 m λ _ _ m=>le m) λ _ m=>si m (λ _ m=>sn m λ _ m=>sq m QN λ v8 m=>s2 m λ _ _ m=>le m) λ _ m=>si m (λ _ m=>sn m λ _ m=>sq m NC λ v9 m=>s2 m λ _ _ m=>le m) λ _ m=>s2 m λ _ _ m=>sn m λ _ m=>le m) λ _ m=>by cases m;exact rt [0] []
theorem pI {D9:Int} {oW:Int} (m:pU r_ D9 oW r):S 230 [rZ r_,iV D9,iV oW] [] (.bool r) [] :=sp Tryz.func230 rfl<|sq m wH λ v1 m=>si m bO λ _ m=>s2 m λ _ _ m=>bG m
theorem UK {x_:aZ} {mg:azA} (m:vI x_ mg r):S 259 [yK x_,.ro [nI mg]] [] (.bool r) [] :=sp Tryz.func259 rfl<|s2 m λ _ _ m=>sb m λ v1 hv1 m=>cl (λ q0=>(pI (hv1 q0)))<|bG m
theorem yg {s_:azz} {f_:azA} {r:Int} (m:qU s_ f_ r):S 256 [eF s_,.fn 259 [.ro [nI f_]]] [] (iV r) [] :=sp Tryz.func256 rfl<|l0 m (λ g1=>⟨[(0,eF s_),(1,.fn 259 [.ro [nI f_]]),(7,iV (s_.length:Int)),(8,iV g1)],[],0⟩) <|λ ah g1 m=>si m (λ _ m=>sn m λ _ m=>sq m UK λ v3 m=>si m bO λ _ m=>sn m λ _ m=>le m) bO
theorem vC {s_:azz} {f_:azA} (m:kI s_ f_ r):S 225 [eF s_,.fn 259 [.ro [nI f_]]] [] (.bool r) [] :=sp Tryz.func225 rfl<|sq m yg λ v1 m=>bG m
theorem XW {m_:azz} (m:GV l_ s_ m_ r):S 232 [bg l_,ak s_,eF m_] [] (.bool r) [] :=sp Tryz.func232 rfl<|sq m Ih λ v1 m=>sb m λ v2 hv2 m=>cl (λ q0=>(qK (hv2 q0)))<|si m bO λ _ m=>sq m Ko λ v3 m=>lf m (λ g1=>⟨[(2,eF m_),(7,.ptr 0 0 0),(23,bg l_),(24,iV (l_.length:Int)),(25,iV g1)],[(0,some (.box [nI v3]))],1⟩) [(0,some 112)] [] <|λ ah g1 m=>si m (λ _ m=>s2 m λ _ _ m=>sn m λ _ m=>sb m λ v6 hv6 m=>cl (λ q0=>(pI (hv6 q0)))<|si m bO λ _ m=>sn m λ _ m=>le m) λ _ m=>sq m vC λ v7 m=>bG m
theorem Kq {s_:ig} (m:qA s_ r):S 175 [K3 s_] [] (.bool r) [] :=sp Tryz.func175 rfl<|sb m λ v1 hv1 m=>cl ((XW hv1).le ⟨.refl _,.refl _,ab3,trivial⟩ trivial)<|bG m
theorem Kr {r:azA×Int} (m:Ci l_ s_ r):S 229 [bg l_,ak s_] [] (.jX [nI r.1,iV r.2]) [] :=sp Tryz.func229 rfl<|sq m mX λ v1 m=>si m bO λ _ m=>sq m qK λ v2 m=>si m bO λ _ m=>sq m Ko λ v3 m=>bG m
theorem Kt {s_:ig} (m:qB s_ r):S 176 [K3 s_] [] (.bool r) [] :=sp Tryz.func176 rfl<|sq m Kr λ v1 m=>si m bO λ _ m=>l0 m (λ g1=>⟨[(1,.ptr 0 0 0),(3,nI v1.1),(23,ak s_.aX),(24,iV (s_.aX.length:Int)),(25,iV g1)],[(0,some (.box [bg s_.bQ.bP,bf s_.bQ.bI,iV s_.bQ.aU.cu,bE s_.bQ.aU.aH,dz s_.bQ.bH,bZ s_.bQ.bX,dX s_.dP,ak s_.aX,ak s_.bD.Setting,aK s_.bD.bB.On,ak s_.bD.bB.bC,bJ s_.bD.Uses,aK s_.bD.Released,aK s_.bD.aY,.bool s_.kr]))],1⟩) <|λ ah g1 m=>si m (λ _ m=>s2 m λ _ _ m=>l0 m (λ g4=>⟨[(1,.ptr 0 0 0),(3,nI v1.1),(23,ak s_.aX),(24,iV (s_.aX.length:Int)),(25,iV g1),(34,eF ((s_.dP.getD ((s_.aX.getD g1.toNat 0).toNat) bK).dx)),(35,iV ((((s_.dP.getD ((s_.aX.getD g1.toNat 0).toNat) bK).dx).length:Nat):Int)),(36,iV g4)],[(0,some (.box [bg s_.bQ.bP,bf s_.bQ.bI,iV s_.bQ.aU.cu,bE s_.bQ.aU.aH,dz s_.bQ.bH,bZ s_.bQ.bX,dX s_.dP,ak s_.aX,ak s_.bD.Setting,aK s_.bD.bB.On,ak s_.bD.bB.bC,bJ s_.bD.Uses,aK s_.bD.Released,aK s_.bD.aY,.bool s_.kr]))],1⟩) <|λ gW g4 m=>si m (λ _ m=>s2 m λ _ _ m=>s2 m λ _ _ m=>si m bO λ _ m=>sn m λ _ m=>le m) λ _ m=>sn m λ _ m=>le m) bO
theorem mV {s_:azq} {r:azq} (m:kC s_ r):S 162 [aK s_] [] (.dR 0 0 r.length false) [.row 1 r.length (bF AV.bool false r)] :=by
 obtain ⟨h1,m⟩:=m
 have m:r=s_:=m
 subst m
 refine wO (ct:=[1]) iD Tryz.func162 rfl rfl (ag5 rfl) dk (ag5 rfl) ?_
 (conv=>whnf)
 refine aaY (ct:=[]) iD (iD.slice (t:=36) (e:=4) rfl rfl rfl).1 dk dk dk dk dk [(2,acK),(0,aK r)] [] 8 rfl ?_ (λ hn=>?_) ?_
 ·exact rfl
 ·(conv=>whnf)
  have hn:r.length=0:=hn
  refine ⟨[],[(0,none)],?_⟩
  (conv=>whnf)
  exact ⟨⟨rfl,trivial,⟨hn,trivial⟩⟩,⟨rfl,rfl,rfl,rfl,rfl,hn⟩⟩
 (conv=>whnf)
 refine ⟨by rw [ahi]; exact h1,?_⟩
 (conv=>whnf)
 refine ⟨[],[(0,some 24)],?_⟩
 (conv=>whnf)
 exact ⟨⟨rfl,trivial,⟨⟨rfl,ahi _,iR (l:=[]) rfl (λ _ h=>absurd h (ahh _)) rfl (λ _ _=>.refl _)⟩,trivial⟩⟩,⟨rfl,rfl,rfl,ahi _,nofun⟩⟩
theorem rX {r:azp} (m:slices_Clone_int s_ r):S 163 [ak s_] [] (.dR 0 0 r.length false) [.row 1 r.length (bF iV 0 r)] :=by
 obtain ⟨h1,m⟩:=m
 have m:r=s_:=m
 subst m
 refine wO (ct:=[1]) iD Tryz.func163 rfl rfl (ag5 rfl) dk (ag5 rfl) ?_
 (conv=>whnf)
 refine aaY (ct:=[]) iD (iD.slice (t:=22) (e:=3) rfl rfl rfl).1 dk dk dk dk dk [(2,acK),(0,ak r)] [] 8 rfl ?_ (λ hn=>?_) ?_
 ·exact rfl
 ·(conv=>whnf)
  have hn:r.length=0:=hn
  refine ⟨[],[(0,none)],?_⟩
  (conv=>whnf)
  exact ⟨⟨rfl,trivial,⟨hn,trivial⟩⟩,⟨rfl,rfl,rfl,rfl,rfl,hn⟩⟩
 (conv=>whnf)
 refine ⟨by rw [ahi]; exact h1,?_⟩
 (conv=>whnf)
 refine ⟨[],[(0,some 24)],?_⟩
 (conv=>whnf)
 exact ⟨⟨rfl,trivial,⟨⟨rfl,ahi _,iR (l:=[]) rfl (λ _ h=>absurd h (ahh _)) rfl (λ _ _=>.refl _)⟩,trivial⟩⟩,⟨rfl,rfl,rfl,ahi _,nofun⟩⟩
theorem QO {r_:bq} {r:azq×azp} (m:JD r_ r):S 172 [og r_] [] (.agg [.dR 0 0 r.1.length false,.dR 1 0 r.2.length false]) [.row 1 r.1.length (bF AV.bool false r.1),.row 1 r.2.length (bF iV 0 r.2)] :=sp Tryz.func172 rfl<|sq m mV λ v1 m=>sq m rX λ v2 m=>by cases m;exact rt [] [(0,some 32),(1,some 56)]
theorem Ij {l_:azv} {r_:bq} (m:yR l_ r_ r):S 155 [bf l_,og r_] [] (.bool r) [] :=sp Tryz.func155 rfl<|sq m sM λ v1 m=>si m bO λ _ m=>l0 m (λ g1=>⟨[(0,bf l_),(27,ak r_.bC),(28,iV (r_.bC.length:Int)),(29,iV g1)],[],0⟩) <|λ ah g1 m=>si m (λ _ m=>s2 m λ _ _ m=>sn m λ _ m=>sq m iE λ v4 m=>si m bO λ _ m=>sn m λ _ m=>le m) bO
theorem Sb {x_:bL} {mg:azv} (m:tq x_ mg r):S 157 [Jz x_,.ro [bf mg]] [] (.bool r) [] :=sp Tryz.func157 rfl<|sn m λ _ m=>sq m iE λ v1 m=>sb m λ v2 hv2 m=>cl (λ q0=>(iE (hv2 q0)))<|sb m λ v3 hv3 m=>cl (λ q0=>(iE (hv3 q0)))<|sb m λ v4 hv4 m=>cl (λ q0=>(iE (hv4 q0)))<|bG m
theorem CP {s_:azy} {f_:azv} {r:Int} (m:vJ s_ f_ r):S 220 [fZ s_,.fn 157 [.ro [bf f_]]] [] (iV r) [] :=sp Tryz.func220 rfl<|l0 m (λ g1=>⟨[(0,fZ s_),(1,.fn 157 [.ro [bf f_]]),(7,iV (s_.length:Int)),(8,iV g1)],[],0⟩) <|λ ah g1 m=>si m (λ _ m=>sn m λ _ m=>sq m Sb λ v3 m=>si m bO λ _ m=>sn m λ _ m=>le m) bO
theorem zU {s_:azy} {f_:azv} (m:mP s_ f_ r):S 156 [fZ s_,.fn 157 [.ro [bf f_]]] [] (.bool r) [] :=sp Tryz.func156 rfl<|sq m CP λ v1 m=>bG m
variable {d_:azy}
theorem Ik {l_:azv} (m:yS l_ d_ r):S 90 [bf l_,fZ d_] [] (.bool r) [] :=sp Tryz.func90 rfl<|sq m sM λ v1 m=>sb m λ v2 hv2 m=>cl (λ q0=>(zU (hv2 q0)))<|bG m
theorem p9 {s_:azv} {r:azv} (m:jL s_ r):S 221 [bf s_] [] (.fn 252 [.ro [bf r]]) [] :=by
 have m:r=s_:=m
 subst m
 exact acM r
theorem XY {l_:azv} {r:azq} (m:GX l_ d_ r):S 159 [bf l_,fZ d_] [] (aK r) [] :=spc [11] Tryz.func159 rfl<|sn m λ _ m=>XQ [11] m (λ g1=>⟨[(0,bf l_),(5,.ptr 0 0 0),(13,fZ d_),(14,iV (d_.length:Int)),(15,iV g1.1)],[(0,some (.box [.dR 1 0 g1.2.length false])),(1,some (.row 1 g1.2.length (bF AV.bool false g1.2)))],2⟩) [(0,some 32),(1,some 24)] [] <|λ ah g1 m=>si m (λ _ m=>s2 m λ _ _ m=>sn m λ _ m=>le m) λ _ m=>sq m p9 λ v1 m=>by
 have h11:=m.1
 have m:=m.2
 refine adb (ct:=[11]) (ct':=[11]) iD dk dk dk dk (adE v1 h11) rfl (by intro v hv; simp at hv; exact ⟨_,hv⟩) m (λ g2=>⟨[(5,.ptr 0 0 0),(25,.fn 252 [.ro [bf v1]])],[(0,some (.box [.dR 1 0 g2.length false])),(1,some (.row 1 g2.length (bF AV.bool false g2)))],2⟩) (λ k2 g2=>⟨[(5,.ptr 0 0 0),(8,iV ((v1.length - 1 - k2:Nat):Int)),(9,.ptr 2 0 0)],[(0,some (.box [.dR 1 0 g2.length false])),(1,some (.row 1 g2.length (bF AV.bool false g2))),(2,some (.box [iV ((v1.getD (v1.length - 1 - k2) aD).aT),ak ((v1.getD (v1.length - 1 - k2) aD).cK),iV ((v1.getD (v1.length - 1 - k2) aD).iw),iV ((v1.getD (v1.length - 1 - k2) aD).iG),.bool ((v1.getD (v1.length - 1 - k2) aD).gF)]))],3⟩) (λ _ _=>r2) [] ⟨rfl,⟨r4,⟨rfl,WX.refl _,trivial⟩,trivial⟩,⟨⟨aaZ,trivial⟩,ab2,trivial⟩⟩ ?_ ?_ ?_
 ·intro k2 ll g2 hk
  refine ⟨ag5 rfl,?_⟩
  (conv=>whnf)
  exact ⟨[(2,some 10)],⟨rfl,⟨r4,r2,r4,trivial⟩,⟨⟨aaZ,trivial⟩,ab2,⟨r2,sr,r2,r2,rfl,trivial⟩,trivial⟩⟩⟩
 ·intro k2 ll dY g2 hk m
  (conv=>whnf)
  refine SH (ct:=[11]) iD dk dk (Db v1 dY k2) r (λ g5=>⟨[(5,.ptr 0 0 0),(8,iV ((v1.length - 1 - k2:Nat):Int)),(9,.ptr 2 0 0)],[(0,some (.box [.dR 1 0 g5.length false])),(1,some (.row 1 g5.length (bF AV.bool false g5))),(2,some (.box [iV ((v1.getD (v1.length - 1 - k2) aD).aT),ak ((v1.getD (v1.length - 1 - k2) aD).cK),iV ((v1.getD (v1.length - 1 - k2) aD).iw),iV ((v1.getD (v1.length - 1 - k2) aD).iG),.bool ((v1.getD (v1.length - 1 - k2) aD).gF)]))],3⟩) ?_ (λ g5 m=>?_)
  ·(conv=>whnf)
   refine aS m λ h28 m=>?_
   (conv=>whnf)
   refine aS m λ h29 m=>?_
   (conv=>whnf)
   exact ⟨(g2.set (((v1.length - 1 - k2:Nat):Int).toNat) ((g2.getD (((v1.length - 1 - k2:Nat):Int).toNat) false)||(v1.getD (v1.length - 1 - k2) aD).gF)),[],[],m,⟨rfl,⟨r4,r2,r4,trivial⟩,⟨⟨⟨rfl,rfl,rfl,oz,nofun⟩,trivial⟩,⟨rfl,oz,(mM (λ _ _=>.refl _) rfl (.refl _))⟩,⟨r2,sr,r2,r2,rfl,trivial⟩,trivial⟩⟩⟩
  (conv=>whnf)
  refine aS m λ h26 m=>?_
  (conv=>whnf)
  refine fP m (λ c6 m=>?_) (λ c6 m=>?_)
  ·(conv=>whnf)
   refine aS m λ h27 m=>?_
   (conv=>whnf)
   exact ⟨(g5.set (((v1.getD (v1.length - 1 - k2) aD).aT).toNat) true),[],m,⟨rfl,⟨r4,⟨rfl,WX.refl _,trivial⟩,trivial⟩,⟨⟨⟨rfl,rfl,rfl,oz,nofun⟩,trivial⟩,⟨rfl,oz,(mM (λ _ _=>.refl _) rfl (.refl _))⟩,trivial⟩⟩⟩
  (conv=>whnf)
  exact ⟨g5,[],m,⟨rfl,⟨r4,⟨rfl,WX.refl _,trivial⟩,trivial⟩,⟨⟨aaZ,trivial⟩,ab2,trivial⟩⟩⟩
 intro g2 m
 (conv=>whnf)
 have m:r=g2:=m
 subst m
 refine ⟨[1],[],?_⟩
 (conv=>whnf)
 exact ⟨⟨rfl,trivial,trivial⟩,sf⟩
theorem Ws {l_:azv} {r:azp} (m:Ec l_ d_ r):S 160 [bf l_,fZ d_] [] (ak r) [] :=sp Tryz.func160 rfl<|sn m λ _ m=>lf m (λ g1=>⟨[(0,bf l_),(5,.ptr 0 0 0),(13,fZ d_),(14,iV (d_.length:Int)),(15,iV g1.1)],[(0,some (.box [.dR 1 0 g1.2.length false])),(1,some (.row 1 g1.2.length (bF iV 0 g1.2)))],2⟩) [(0,some 32),(1,some 24)] [] <|λ ah g1 m=>si m (λ _ m=>s2 m λ _ _ m=>s2 m λ _ _ m=>sn m λ _ m=>le m) λ _ m=>sq m p9 λ v1 m=>by
 have h17:=m.1
 have m:=m.2
 refine adb (ct:=[]) (ct':=[]) iD dk dk dk dk (adE v1 h17) rfl (by intro v hv; simp at hv; exact ⟨_,hv⟩) m (λ g2=>⟨[(5,.ptr 0 0 0),(30,.fn 252 [.ro [bf v1]])],[(0,some (.box [.dR 1 0 g2.length false])),(1,some (.row 1 g2.length (bF iV 0 g2)))],2⟩) (λ k2 g2=>⟨[(5,.ptr 0 0 0),(8,iV ((v1.length - 1 - k2:Nat):Int)),(9,.ptr 2 0 0)],[(0,some (.box [.dR 1 0 g2.length false])),(1,some (.row 1 g2.length (bF iV 0 g2))),(2,some (.box [iV ((v1.getD (v1.length - 1 - k2) aD).aT),ak ((v1.getD (v1.length - 1 - k2) aD).cK),iV ((v1.getD (v1.length - 1 - k2) aD).iw),iV ((v1.getD (v1.length - 1 - k2) aD).iG),.bool ((v1.getD (v1.length - 1 - k2) aD).gF)]))],3⟩) (λ _ _=>r2) [] ⟨rfl,⟨r4,⟨rfl,WX.refl _,trivial⟩,trivial⟩,⟨⟨aaZ,trivial⟩,ab2,trivial⟩⟩ ?_ ?_ ?_
 ·intro k2 ll g2 hk
  refine ⟨ag5 rfl,?_⟩
  (conv=>whnf)
  exact ⟨[(2,some 10)],⟨rfl,⟨r4,r2,r4,trivial⟩,⟨⟨aaZ,trivial⟩,ab2,⟨r2,sr,r2,r2,rfl,trivial⟩,trivial⟩⟩⟩
 ·intro k2 ll dY g2 hk m
  (conv=>whnf)
  refine fP m (λ c6 m=>?_) (λ c6 m=>?_)
  ·(conv=>whnf)
   refine aS m λ h26 m=>?_
   (conv=>whnf)
   refine aS m λ h27 m=>?_
   (conv=>whnf)
   refine aS m λ h28 m=>?_
   (conv=>whnf)
   refine aS m λ h29 m=>?_
   (conv=>whnf)
   exact ⟨(g2.set (((v1.getD (v1.length - 1 - k2) aD).aT).toNat) ((g2.getD (((v1.getD (v1.length - 1 - k2) aD).aT).toNat) 0)+(g2.getD (((v1.length - 1 - k2:Nat):Int).toNat) 0))),[],m,⟨rfl,⟨r4,⟨rfl,WX.refl _,trivial⟩,trivial⟩,⟨⟨⟨rfl,rfl,rfl,oz,nofun⟩,trivial⟩,⟨rfl,oz,(mM (λ _ _=>.refl _) rfl (.refl _))⟩,trivial⟩⟩⟩
  (conv=>whnf)
  exact ⟨g2,[],m,⟨rfl,⟨r4,⟨rfl,WX.refl _,trivial⟩,trivial⟩,⟨⟨aaZ,trivial⟩,ab2,trivial⟩⟩⟩
 intro g2 m
 (conv=>whnf)
 have m:r=g2:=m
 subst m
 refine ⟨[1],[],?_⟩
 (conv=>whnf)
 exact ⟨⟨rfl,trivial,trivial⟩,sf⟩
theorem Sc {x_:bL} {mg:azv} {Ed:azq} {wR:azp} (m:tu x_ mg Ed wR r):S 161 [Jz x_,.ro [bf mg],.ro [aK Ed,ak wR]] [] (.bool r) [] :=sp Tryz.func161 rfl<|s2 m λ _ _ m=>sn m λ _ m=>sq m iE λ v1 m=>bG m
theorem zV {s_:azy} {Dc:azv} {Dz:azq} {DC:azp} {r:Int} (m:sj s_ Dc Dz DC r):S 220 [fZ s_,.fn 161 [.ro [bf Dc],.ro [aK Dz,ak DC]]] [] (iV r) [] :=sp Tryz.func220 rfl<|l0 m (λ g1=>⟨[(0,fZ s_),(1,.fn 161 [.ro [bf Dc],.ro [aK Dz,ak DC]]),(7,iV (s_.length:Int)),(8,iV g1)],[],0⟩) <|λ ah g1 m=>si m (λ _ m=>sn m λ _ m=>sq m Sc λ v3 m=>si m bO λ _ m=>sn m λ _ m=>le m) bO
theorem vX {s_:azy} {Dc:azv} {Dz:azq} {DC:azp} (m:kZ s_ Dc Dz DC r):S 156 [fZ s_,.fn 161 [.ro [bf Dc],.ro [aK Dz,ak DC]]] [] (.bool r) [] :=sp Tryz.func156 rfl<|sq m zV λ v1 m=>bG m
theorem zW {l_:azv} {r_:bq} (m:uH l_ r_ d_ r):S 91 [bf l_,og r_,fZ d_] [] (.bool r) [] :=sp Tryz.func91 rfl<|sq m Ij λ v1 m=>sb m λ v2 hv2 m=>cl (λ q0=>(Ik (hv2 q0)))<|si m bO λ _ m=>sq m XY λ v3 m=>sq m Ws λ v4 m=>lf m (λ g1=>⟨[(2,fZ d_),(3,.ptr 0 0 0),(4,.ptr 1 0 0),(7,aK v3),(8,ak v4),(28,bf l_),(29,iV (l_.length:Int)),(30,iV g1)],[(0,some (.box [bf l_])),(1,some (.box [aK r_.On,ak r_.bC]))],2⟩) [(1,some 8)] [] <|λ ah g1 m=>si m (λ _ m=>s2 m λ _ _ m=>si m (λ _ m=>sn m λ _ m=>si m bO λ _ m=>sn m λ _ m=>le m) λ _ m=>s2 m λ _ _ m=>s2 m λ _ _ m=>s2 m λ _ _ m=>s2 m λ _ _ m=>si m bO λ _ m=>sn m λ _ m=>le m) λ _ m=>sq m vX λ v5 m=>bG m
theorem Gw {s_:ig} (m:nQ s_ r):S 177 [K3 s_] [] (.bool r) [] :=sp Tryz.func177 rfl<|lf m (λ g1=>⟨[(1,.ptr 0 0 0),(3,.dR 1 0 g1.2.length false),(7,ak s_.aX),(8,iV (s_.aX.length:Int)),(9,iV g1.1)],[(0,some (.box [bg s_.bQ.bP,bf s_.bQ.bI,iV s_.bQ.aU.cu,bE s_.bQ.aU.aH,dz s_.bQ.bH,bZ s_.bQ.bX,dX s_.dP,ak s_.aX,ak s_.bD.Setting,aK s_.bD.bB.On,ak s_.bD.bB.bC,bJ s_.bD.Uses,aK s_.bD.Released,aK s_.bD.aY,.bool s_.kr])),(1,some (.row 4 g1.2.length (bF Jz eu g1.2)))],2⟩) [(1,none)] [] <|λ ah g1 m=>si m (λ _ m=>s2 m λ _ _ m=>s2 m λ _ _ m=>lc [(1,some 90)] [] m) λ _ m=>sq m QO λ v1 m=>sq m zW λ v2 m=>bG m
theorem XZ {p_:bR} {l_:azI} {r:((Nat->Int)×Int)} (m:GY p_ l_ r):S 260 [qj p_,SI l_] [] (.jX [aps r.1,iV r.2]) [] :=sp Tryz.func260 rfl<|lf m (λ g1=>⟨[(1,SI l_),(2,.ptr 0 0 0),(4,.ptr 1 0 0),(6,.ptr 2 0 0),(13,iV g1.1)],[(0,some (.box [iV p_.cu,bE p_.aH])),(1,some (.row 1 64 (NK iV g1.2.1))),(2,some (.row 1 64 (NK iV g1.2.2)))],3⟩) [(1,some 8),(2,some 24)] [] <|λ ah g1 m=>si m (λ _ m=>s2 m λ _ _ m=>le m) λ _ m=>sq m NA λ v1 m=>si m bO λ _ m=>sn m λ _ m=>lf m (λ g2=>⟨[(2,.ptr 0 0 0),(4,.ptr 1 0 0),(6,.ptr 2 0 0),(8,.dR 3 0 g2.2.2.length false),(27,SI l_),(28,iV (l_.length:Int)),(29,iV g2.1)],[(0,some (.box [iV p_.cu,bE p_.aH])),(1,some (.row 1 64 (NK iV g1.2.1))),(2,some (.row 1 64 (NK iV g2.2.1))),(3,some (.row 1 g2.2.2.length (bF AV.bool false g2.2.2)))],4⟩) [(3,some 59)] [] <|λ dY g2 m=>si m (λ _ m=>s2 m λ _ _ m=>si m bO λ _ m=>sn m λ _ m=>si m bO λ _ m=>s2 m λ _ _ m=>lf m (λ g5=>⟨[(2,.ptr 0 0 0),(4,.ptr 1 0 0),(6,.ptr 2 0 0),(8,.dR 3 0 g5.2.2.length false),(10,.ptr 4 0 0),(27,SI l_),(28,iV (l_.length:Int)),(29,iV g2.1),(79,ak ((p_.aH.getD (((l_.getD g2.1.toNat fM).bT).toNat) aN).cu)),(80,iV ((((p_.aH.getD (((l_.getD g2.1.toNat fM).bT).toNat) aN).cu).length:Nat):Int)),(81,iV g5.1)],[(0,some (.box [iV p_.cu,bE p_.aH])),(1,some (.row 1 64 (NK iV g1.2.1))),(2,some (.row 1 64 (NK iV g5.2.1))),(3,some (.row 1 g5.2.2.length (bF AV.bool false g5.2.2))),(4,some (.box [iV ((l_.getD g2.1.toNat fM).bT),iV ((l_.getD g2.1.toNat fM).dJ)]))],5⟩) [(4,some 28)] [] <|λ nP g5 m=>si m (λ _ m=>s2 m λ _ _ m=>si m bO λ _ m=>s2 m λ _ _ m=>le m) λ _ m=>sn m λ _ m=>le m) bO
theorem Jh {s_:Nat} {dD:azp} {r:azp} (m:oK s_ dD r):S 163 [.dR 0 0 s_ false] [.row 1 dD.length (bF iV 0 dD)] (.dR 1 0 r.length false) [.row 1 dD.length (bF iV 0 dD),.row 1 r.length (bF iV 0 r)] :=by
 obtain ⟨⟨h0,h1⟩,m⟩:=m
 have m:r=dD.take s_:=m
 have hl:r.length=s_:=by rw [m,ahj]; omega
 refine wO (ct:=[1]) iD Tryz.func163 rfl rfl (ag5 rfl) dk (ag5 rfl) ?_
 (conv=>whnf)
 refine aic (ct:=[]) iD (iD.slice (t:=22) (e:=3) rfl rfl rfl).1 dk dk dk dk dk [(2,acK),(0,.dR 0 0 s_ false)] [(0,some (.row 1 dD.length (bF iV 0 dD)))] 9 rfl rfl ?_ (λ hn=>?_) ?_
 ·exact rfl
 ·(conv=>whnf)
  have hn:r.length=0:=hl.trans hn
  refine ⟨[],[(1,none)],?_⟩
  (conv=>whnf)
  exact ⟨⟨rfl,trivial,⟨⟨rfl,rfl,λ _ _=>.refl _⟩,hn,trivial⟩⟩,⟨rfl,rfl,rfl,rfl,rfl,hn⟩⟩
 (conv=>whnf)
 refine ⟨by rw [ahi]; exact h1,?_⟩
 (conv=>whnf)
 refine ⟨[],[(1,some 25)],?_⟩
 (conv=>whnf)
 subst m
 exact ⟨⟨rfl,trivial,⟨⟨rfl,rfl,λ _ _=>.refl _⟩,⟨rfl,(ahi _).trans hl.symm,iR (l:=[]) rfl (λ _ h=>absurd h (ahh _)) hl.symm (kN (f:=iV) (d:=0) h0)⟩,trivial⟩⟩,⟨rfl,rfl,rfl,(ahi _).trans hl.symm,nofun⟩⟩
theorem X0 {p_:bR} {l_:azI} {r:azp×Int} (m:GZ p_ l_ r):S 233 [qj p_,SI l_] [] (.jX [ak r.1,iV r.2]) [] :=spc [4,6] Tryz.func233 rfl<|sq m XZ λ v1 m=>ck [4,6] (E9 p_) r (λ g1=>⟨[(2,.ptr 0 0 0),(6,.ptr 1 0 0)],[(0,some (.box [iV p_.cu,bE p_.aH])),(1,some (.row 1 64 (NK iV g1)))],2⟩) (si m bO λ _ m=>lce [(1,some 72)] [] m ⟨rfl,⟨r4,r4,trivial⟩,⟨⟨r2,sr,trivial⟩,⟨rfl,rfl,(ac9 (f:=iV) (X:=v1.1) (n:=64) (λ _=>rfl))⟩,trivial⟩⟩) λ g1 m=>sn m λ _ m=>sb m λ v2 hv2 m=>cl ((Jh hv2).le ⟨.refl _,trivial⟩ ⟨⟨rfl,oz,(apr (f:=iV) (X:=g1))⟩,trivial⟩)<|by cases m;exact rt [26] []
theorem N7 {s_:ig} (m:uI s_ r):S 178 [K3 s_] [] (.bool r) [] :=sp Tryz.func178 rfl<|lf m (λ g1=>⟨[(1,.ptr 0 0 0),(3,.dR 1 0 g1.2.length false),(10,bJ s_.bD.Uses),(11,iV (s_.bD.Uses.length:Int)),(12,iV g1.1)],[(0,some (.box [bg s_.bQ.bP,bf s_.bQ.bI,iV s_.bQ.aU.cu,bE s_.bQ.aU.aH,dz s_.bQ.bH,bZ s_.bQ.bX,dX s_.dP,ak s_.aX,ak s_.bD.Setting,aK s_.bD.bB.On,ak s_.bD.bB.bC,bJ s_.bD.Uses,aK s_.bD.Released,aK s_.bD.aY,.bool s_.kr])),(1,some (.row 2 g1.2.length (bF apt fM g1.2)))],2⟩) [(1,none)] [] <|λ ah g1 m=>si m (λ _ m=>s2 m λ _ _ m=>sn m λ _ m=>lc [(1,some 74)] [] m) λ _ m=>sq m X0 λ v1 m=>bG m
theorem F9 {s_:ig} (m:nu s_ r):S 179 [K3 s_] [] (.bool r) [] :=sp Tryz.func179 rfl<|l0 m (λ g1=>⟨[(1,.ptr 0 0 0),(11,ak s_.aX),(12,iV (s_.aX.length:Int)),(13,iV g1)],[(0,some (.box [bg s_.bQ.bP,bf s_.bQ.bI,iV s_.bQ.aU.cu,bE s_.bQ.aU.aH,dz s_.bQ.bH,bZ s_.bQ.bX,dX s_.dP,ak s_.aX,ak s_.bD.Setting,aK s_.bD.bB.On,ak s_.bD.bB.bC,bJ s_.bD.Uses,aK s_.bD.Released,aK s_.bD.aY,.bool s_.kr]))],1⟩) <|λ ah g1 m=>si m (λ _ m=>sn m λ _ m=>lf m (λ g6=>⟨[(1,.ptr 0 0 0),(4,iV (s_.aX.getD g1.toNat 0)),(5,.mref 1),(11,ak s_.aX),(12,iV (s_.aX.length:Int)),(13,iV g1),(20,bJ s_.bD.Uses),(21,iV (s_.bD.Uses.length:Int)),(22,iV g6.1)],[(0,some (.box [bg s_.bQ.bP,bf s_.bQ.bI,iV s_.bQ.aU.cu,bE s_.bQ.aU.aH,dz s_.bQ.bH,bZ s_.bQ.bX,dX s_.dP,ak s_.aX,ak s_.bD.Setting,aK s_.bD.bB.On,ak s_.bD.bB.bC,bJ s_.bD.Uses,aK s_.bD.Released,aK s_.bD.aY,.bool s_.kr])),(1,some (.map .str [(.int .i64)] g6.2))],2⟩) [(1,some 33)] [] <|λ jQ g6 m=>si m (λ _ m=>sn m λ _ m=>si m (λ _ m=>s2 m λ _ _ m=>s2 m λ _ _ m=>le m) λ _ m=>sn m λ _ m=>le m) λ _ m=>sn m λ _ m=>l0 m (λ g7=>⟨[(1,.ptr 0 0 0),(5,.mref 1),(11,ak s_.aX),(12,iV (s_.aX.length:Int)),(13,iV g1),(54,iI ((s_.dP.getD ((s_.aX.getD g1.toNat 0).toNat) bK).au)),(55,iV ((((s_.dP.getD ((s_.aX.getD g1.toNat 0).toNat) bK).au).length:Nat):Int)),(56,iV g7.1)],[(0,some (.box [bg s_.bQ.bP,bf s_.bQ.bI,iV s_.bQ.aU.cu,bE s_.bQ.aU.aH,dz s_.bQ.bH,bZ s_.bQ.bX,dX s_.dP,ak s_.aX,ak s_.bD.Setting,aK s_.bD.bB.On,ak s_.bD.bB.bC,bJ s_.bD.Uses,aK s_.bD.Released,aK s_.bD.aY,.bool s_.kr])),(1,some (.map .str [(.int .i64)] g7.2))],2⟩) <|λ oJ g7 m=>si m (λ _ m=>s2 m λ _ _ m=>si m bO λ _ m=>sn m λ _ m=>le m) λ _ m=>sn m λ _ m=>le m) bO
theorem Wt {l_:azC} {dU:azq} (m:Ee l_ dU r):S 261 [dz l_,aK dU] [] (.bool r) [] :=sp Tryz.func261 rfl<|si m bO λ _ m=>l0 m (λ g1=>⟨[(1,aK dU),(14,dz l_),(15,iV (l_.length:Int)),(16,iV g1)],[],0⟩) <|λ ah g1 m=>si m (λ _ m=>sn m λ _ m=>l0 m (λ g4=>⟨[(1,aK dU),(5,iV g1),(14,dz l_),(15,iV (l_.length:Int)),(16,iV g1),(22,ak ((l_.getD g1.toNat d9).fF)),(23,iV ((((l_.getD g1.toNat d9).fF).length:Nat):Int)),(24,iV g4)],[],0⟩) <|λ gW g4 m=>si m (λ _ m=>s2 m λ _ _ m=>sn m λ _ m=>si m bO λ _ m=>sn m λ _ m=>le m) λ _ m=>sn m λ _ m=>le m) bO
theorem Wu {l_:azC} {dU:azq} (m:Ef l_ dU r):S 234 [dz l_,aK dU] [] (.bool r) [] :=sp Tryz.func234 rfl<|sq m Km λ v1 m=>sb m λ v2 hv2 m=>cl (λ q0=>(Wt (hv2 q0)))<|bG m
theorem Gx {O6:Int} {oq:azs} {mO:azv} {yT:Int} {Ae:azG} {tC:azC} {yU:azD} {IE:azu} {aa1:azp} {aa2:azp} {aa3:azq} {O7:azp} {O8:azw} {Fa:azq} {Fb:azq} {O9:Bool} (m:lT O6 oq mO yT Ae tC yU IE aa1 aa2 aa3 O7 O8 Fa Fb O9 r):S 236 [iV O6,.ro [bg oq,bf mO,iV yT,bE Ae,dz tC,bZ yU,dX IE,ak aa1,ak aa2,aK aa3,ak O7,bJ O8,aK Fa,aK Fb,.bool O9]] [] (.bool r) [] :=sp Tryz.func236 rfl<|sn m bO
variable {Dc:azs} {Dz:azv} {DC:Int} {Ud:azG} {Ue:azC} {Uf:azD} {NM:azu} {Ug:azp} {Uh:azp} {Ui:azq} {wS:azp} {wT:azw} {uJ:azq} {uK:azq} {wU:Bool}
theorem Dv {r:Int} (m:xC s_ Dc Dz DC Ud Ue Uf NM Ug Uh Ui wS wT uJ uK wU r):S 262 [ak s_,.fn 236 [.ro [bg Dc,bf Dz,iV DC,bE Ud,dz Ue,bZ Uf,dX NM,ak Ug,ak Uh,aK Ui,ak wS,bJ wT,aK uJ,aK uK,.bool wU]]] [] (iV r) [] :=sp Tryz.func262 rfl<|l0 m (λ g1=>⟨[(0,ak s_),(1,.fn 236 [.ro [bg Dc,bf Dz,iV DC,bE Ud,dz Ue,bZ Uf,dX NM,ak Ug,ak Uh,aK Ui,ak wS,bJ wT,aK uJ,aK uK,.bool wU]]),(7,iV (s_.length:Int)),(8,iV g1)],[],0⟩) <|λ ah g1 m=>si m (λ _ m=>sn m λ _ m=>sq m Gx λ v3 m=>si m bO λ _ m=>sn m λ _ m=>le m) bO
theorem Aj (m:mZ s_ Dc Dz DC Ud Ue Uf NM Ug Uh Ui wS wT uJ uK wU r):S 235 [ak s_,.fn 236 [.ro [bg Dc,bf Dz,iV DC,bE Ud,dz Ue,bZ Uf,dX NM,ak Ug,ak Uh,aK Ui,ak wS,bJ wT,aK uJ,aK uK,.bool wU]]] [] (.bool r) [] :=sp Tryz.func235 rfl<|sq m Dv λ v1 m=>bG m
theorem Ku {s_:ig} (m:qC s_ r):S 180 [K3 s_] [] (.bool r) [] :=sp Tryz.func180 rfl<|sq m Wu λ v1 m=>si m bO λ _ m=>l0 m (λ g1=>⟨[(1,.ptr 0 0 0),(14,ak s_.aX),(15,iV (s_.aX.length:Int)),(16,iV g1)],[(0,some (.box [bg s_.bQ.bP,bf s_.bQ.bI,iV s_.bQ.aU.cu,bE s_.bQ.aU.aH,dz s_.bQ.bH,bZ s_.bQ.bX,dX s_.dP,ak s_.aX,ak s_.bD.Setting,aK s_.bD.bB.On,ak s_.bD.bB.bC,bJ s_.bD.Uses,aK s_.bD.Released,aK s_.bD.aY,.bool s_.kr]))],1⟩) <|λ ah g1 m=>si m (λ _ m=>s2 m λ _ _ m=>sq m Aj λ v4 m=>si m bO λ _ m=>sn m λ _ m=>le m) bO
theorem zX {l_:azD} {oL:azq} (m:uL l_ oL r):S 106 [bZ l_,aK oL] [] (.bool r) [] :=sp Tryz.func106 rfl<|si m bO λ _ m=>l0 m (λ g1=>⟨[(1,aK oL),(12,bZ l_),(13,iV (l_.length:Int)),(14,iV g1)],[],0⟩) <|λ ah g1 m=>si m (λ _ m=>s2 m λ _ _ m=>s2 m λ _ _ m=>si m bO λ _ m=>sn m λ _ m=>le m) bO
theorem Wv {l_:azD} {oL:azq} (m:Eh l_ oL r):S 237 [bZ l_,aK oL] [] (.bool r) [] :=sp Tryz.func237 rfl<|sq m zT λ v1 m=>sb m λ v2 hv2 m=>cl (λ q0=>(zX (hv2 q0)))<|bG m
theorem Ga {m_:Int} {oq:azs} {mO:azv} {yT:Int} {Ae:azG} {tC:azC} {yU:azD} {IE:azu} {aa1:azp} {aa2:azp} {aa3:azq} {O7:azp} {O8:azw} {Fa:azq} {Fb:azq} {O9:Bool} (m:kP m_ oq mO yT Ae tC yU IE aa1 aa2 aa3 O7 O8 Fa Fb O9 r):S 238 [iV m_,.ro [bg oq,bf mO,iV yT,bE Ae,dz tC,bZ yU,dX IE,ak aa1,ak aa2,aK aa3,ak O7,bJ O8,aK Fa,aK Fb,.bool O9]] [] (.bool r) [] :=sp Tryz.func238 rfl<|s2 m λ _ _ m=>bG m
theorem Dw {r:Int} (m:xD s_ Dc Dz DC Ud Ue Uf NM Ug Uh Ui wS wT uJ uK wU r):S 262 [ak s_,.fn 238 [.ro [bg Dc,bf Dz,iV DC,bE Ud,dz Ue,bZ Uf,dX NM,ak Ug,ak Uh,aK Ui,ak wS,bJ wT,aK uJ,aK uK,.bool wU]]] [] (iV r) [] :=sp Tryz.func262 rfl<|l0 m (λ g1=>⟨[(0,ak s_),(1,.fn 238 [.ro [bg Dc,bf Dz,iV DC,bE Ud,dz Ue,bZ Uf,dX NM,ak Ug,ak Uh,aK Ui,ak wS,bJ wT,aK uJ,aK uK,.bool wU]]),(7,iV (s_.length:Int)),(8,iV g1)],[],0⟩) <|λ ah g1 m=>si m (λ _ m=>sn m λ _ m=>sq m Ga λ v3 m=>si m bO λ _ m=>sn m λ _ m=>le m) bO
theorem Ak (m:ng s_ Dc Dz DC Ud Ue Uf NM Ug Uh Ui wS wT uJ uK wU r):S 235 [ak s_,.fn 238 [.ro [bg Dc,bf Dz,iV DC,bE Ud,dz Ue,bZ Uf,dX NM,ak Ug,ak Uh,aK Ui,ak wS,bJ wT,aK uJ,aK uK,.bool wU]]] [] (.bool r) [] :=sp Tryz.func235 rfl<|sq m Dw λ v1 m=>bG m
theorem Ji {s_:ig} (m:oM s_ r):S 181 [K3 s_] [] (.bool r) [] :=sp Tryz.func181 rfl<|sq m Wv λ v1 m=>si m bO λ _ m=>sq m Ak λ v2 m=>bG m
theorem pJ {s_:ig} {r:Int} (m:lg s_ r):S 109 [K3 s_] [] (iV r) [] :=sp Tryz.func109 rfl<|by
 refine YJ 9 ?_
 refine jr (ct:=[]) iD dk ?_
 (conv=>whnf)
 refine aS m λ h1 m=>?_
 (conv=>whnf)
 refine dH m λ v1 hv1 m=>?_
 refine ⟨_,_,(LV hv1),?_⟩
 (conv=>whnf)
 refine fP m (λ c1 m=>?_) (λ c1 m=>?_)
 ·(conv=>whnf)
  refine aS m λ h2 m=>?_
  (conv=>whnf)
  have m:r=((0:Int)+(1:Int)):=m
  subst m
  refine ⟨[],[],?_⟩
  (conv=>whnf)
  exact ⟨⟨rfl,trivial,trivial⟩,r2⟩
 (conv=>whnf)
 refine aS m λ h3 m=>?_
 (conv=>whnf)
 refine jr (ct:=[]) iD dk ?_
 (conv=>whnf)
 refine aS m λ h4 m=>?_
 (conv=>whnf)
 refine dH m λ v2 hv2 m=>?_
 refine ⟨_,_,(Kq hv2),?_⟩
 (conv=>whnf)
 refine fP m (λ c2 m=>?_) (λ c2 m=>?_)
 ·(conv=>whnf)
  refine aS m λ h5 m=>?_
  (conv=>whnf)
  have m:r=(((0:Int)+(1:Int))+(1:Int)):=m
  subst m
  refine ⟨[],[],?_⟩
  (conv=>whnf)
  exact ⟨⟨rfl,trivial,trivial⟩,r2⟩
 (conv=>whnf)
 refine aS m λ h6 m=>?_
 (conv=>whnf)
 refine jr (ct:=[]) iD dk ?_
 (conv=>whnf)
 refine aS m λ h7 m=>?_
 (conv=>whnf)
 refine dH m λ v3 hv3 m=>?_
 refine ⟨_,_,(Kt hv3),?_⟩
 (conv=>whnf)
 refine fP m (λ c3 m=>?_) (λ c3 m=>?_)
 ·(conv=>whnf)
  refine aS m λ h8 m=>?_
  (conv=>whnf)
  have m:r=((((0:Int)+(1:Int))+(1:Int))+(1:Int)):=m
  subst m
  refine ⟨[],[],?_⟩
  (conv=>whnf)
  exact ⟨⟨rfl,trivial,trivial⟩,r2⟩
 (conv=>whnf)
 refine aS m λ h9 m=>?_
 (conv=>whnf)
 refine jr (ct:=[]) iD dk ?_
 (conv=>whnf)
 refine aS m λ h10 m=>?_
 (conv=>whnf)
 refine dH m λ v4 hv4 m=>?_
 refine ⟨_,_,(Gw hv4),?_⟩
 (conv=>whnf)
 refine fP m (λ c4 m=>?_) (λ c4 m=>?_)
 ·(conv=>whnf)
  refine aS m λ h11 m=>?_
  (conv=>whnf)
  have m:r=(((((0:Int)+(1:Int))+(1:Int))+(1:Int))+(1:Int)):=m
  subst m
  refine ⟨[],[],?_⟩
  (conv=>whnf)
  exact ⟨⟨rfl,trivial,trivial⟩,r2⟩
 (conv=>whnf)
 refine aS m λ h12 m=>?_
 (conv=>whnf)
 refine jr (ct:=[]) iD dk ?_
 (conv=>whnf)
 refine aS m λ h13 m=>?_
 (conv=>whnf)
 refine dH m λ v5 hv5 m=>?_
 refine ⟨_,_,(N7 hv5),?_⟩
 (conv=>whnf)
 refine fP m (λ c5 m=>?_) (λ c5 m=>?_)
 ·(conv=>whnf)
  refine aS m λ h14 m=>?_
  (conv=>whnf)
  have m:r=((((((0:Int)+(1:Int))+(1:Int))+(1:Int))+(1:Int))+(1:Int)):=m
  subst m
  refine ⟨[],[],?_⟩
  (conv=>whnf)
  exact ⟨⟨rfl,trivial,trivial⟩,r2⟩
 (conv=>whnf)
 refine aS m λ h15 m=>?_
 (conv=>whnf)
 refine jr (ct:=[]) iD dk ?_
 (conv=>whnf)
 refine aS m λ h16 m=>?_
 (conv=>whnf)
 refine dH m λ v6 hv6 m=>?_
 refine ⟨_,_,(F9 hv6),?_⟩
 (conv=>whnf)
 refine fP m (λ c6 m=>?_) (λ c6 m=>?_)
 ·(conv=>whnf)
  refine aS m λ h17 m=>?_
  (conv=>whnf)
  have m:r=(((((((0:Int)+(1:Int))+(1:Int))+(1:Int))+(1:Int))+(1:Int))+(1:Int)):=m
  subst m
  refine ⟨[],[],?_⟩
  (conv=>whnf)
  exact ⟨⟨rfl,trivial,trivial⟩,r2⟩
 (conv=>whnf)
 refine aS m λ h18 m=>?_
 (conv=>whnf)
 refine jr (ct:=[]) iD dk ?_
 (conv=>whnf)
 refine aS m λ h19 m=>?_
 (conv=>whnf)
 refine dH m λ v7 hv7 m=>?_
 refine ⟨_,_,(Ku hv7),?_⟩
 (conv=>whnf)
 refine fP m (λ c7 m=>?_) (λ c7 m=>?_)
 ·(conv=>whnf)
  refine aS m λ h20 m=>?_
  (conv=>whnf)
  have m:r=((((((((0:Int)+(1:Int))+(1:Int))+(1:Int))+(1:Int))+(1:Int))+(1:Int))+(1:Int)):=m
  subst m
  refine ⟨[],[],?_⟩
  (conv=>whnf)
  exact ⟨⟨rfl,trivial,trivial⟩,r2⟩
 (conv=>whnf)
 refine aS m λ h21 m=>?_
 (conv=>whnf)
 refine jr (ct:=[]) iD dk ?_
 (conv=>whnf)
 refine aS m λ h22 m=>?_
 (conv=>whnf)
 refine dH m λ v8 BG m=>?_
 refine ⟨_,_,(Ji BG),?_⟩
 (conv=>whnf)
 refine fP m (λ c8 m=>?_) (λ c8 m=>?_)
 ·(conv=>whnf)
  refine aS m λ h23 m=>?_
  (conv=>whnf)
  have m:r=(((((((((0:Int)+(1:Int))+(1:Int))+(1:Int))+(1:Int))+(1:Int))+(1:Int))+(1:Int))+(1:Int)):=m
  subst m
  refine ⟨[],[],?_⟩
  (conv=>whnf)
  exact ⟨⟨rfl,trivial,trivial⟩,r2⟩
 (conv=>whnf)
 refine aS m λ h24 m=>?_
 (conv=>whnf)
 refine jr (ct:=[]) iD dk ?_
 (conv=>whnf)
 have m:r=(0:Int):=m
 subst m
 refine ⟨[],[],?_⟩
 (conv=>whnf)
 exact ⟨⟨rfl,trivial,trivial⟩,r2⟩
end Go.Proofs.YtifekdmmpbcdgaaGreatDoor

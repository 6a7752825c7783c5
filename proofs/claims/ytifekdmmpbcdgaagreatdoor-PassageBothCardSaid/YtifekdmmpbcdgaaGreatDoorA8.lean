/- A part of the proof. -/
import Derived.Test.YtifekdmmpbcdgaaGreatDoorA7
import Derived.Test.YtifekdmmpbcdgaaGreatDoorA6
import Derived.Test.YtifekdmmpbcdgaaGreatDoorProg
import Derived.Test.YtifekdmmpbcdgaaGreatDoorA4
import Derived.RangeFuncBox
import Derived.RangeFuncLeaves
import Derived.Shelf.Abstract
import Derived.WalkKit
import Derived.OwnWalkIn
import Derived.TacticsInMore
import Derived.LoopNIn
import Derived.LoopIn
import Derived.Test.YtifekdmmpbcdgaaGreatDoorCards
import Derived.Test.YtifekdmmpbcdgaaGreatDoorTie
import Derived.ProofKit
import Derived.OpenShut
import Derived.Carry
import Derived.LaidMore
import Derived.Deep.DeepHandedRow
set_option linter.unusedVariables false
set_option linter.unusedSimpArgs false
set_option maxHeartbeats 4000000
namespace Go.Proofs.YtifekdmmpbcdgaaGreatDoor
open Go.Ab
set_option maxRecDepth 100000
def Md (out:dR→Option Int) (D:Nat→Option Nat):Prop:=∀k:Nat,out (.i (k:Int))=(D k).map λ m=>(m:Int)
def OV (n:Nat) (D:Nat→Option Nat):Nat:=(List.range n).countP λ k=>(D k).isSome
theorem Yu (n:Nat) (D:Nat→Option Nat):OV n D≤n:=by
 have:=List.countP_le_length (p:=λ k=>(D k).isSome) (l:=List.range n);rwa [List.length_range] at this
theorem PZ (n:Nat) (D:Nat→Option Nat):OV (n+1) D=OV n D+(if (D n).isSome=true then 1 else 0):=by
 unfold OV;rw [List.range_succ,List.countP_append,List.countP_singleton]
variable {D:Nat→Option Nat}
theorem aiH {D':Nat→Option Nat} :∀ {n:Nat},(∀k,k<n→D k=D' k)→OV n D=OV n D':=by
 intro n;induction n with
 | zero=>intro _; rfl
 | succ n ih=>intro h; rw [PZ,PZ,ih λ k hk=>h k om,h n om]
theorem ZV {y k:Nat} (hn:D y=none):∀ {n:Nat},y<n→OV n (Go.Bf.jf D y k)=OV n D+1:=by
 intro n;induction n with
 | zero=>intro h; omega
 | succ n ih=>
  intro h;rw [PZ,PZ];by_cases e:y=n
  ·subst e;rw [aiH (D:=Go.Bf.jf D y k) (D':=D) λ j hj=>by unfold Go.Bf.jf; rw [if_neg om]];rw [show Go.Bf.jf D y k y=some k from if_pos rfl,hn]; rfl
  ·rw [ih om,show Go.Bf.jf D y k n=D n from if_neg (λ q=>e q.symm)]; omega
variable {out:dR→Option Int}
theorem apy (h:Md out D) (y k:Nat):Md (BD out (.i (y:Int)) ((k:Int)+1)) (Go.Bf.jf D y (k+1)):=by
 intro j;unfold BD Go.Bf.jf;by_cases e:j=y
 ·subst e; rw [if_pos rfl,if_pos rfl]; simp
 ·rw [if_neg (by intro q; injection q with q; omega),if_neg e]; exact h j
theorem ZW (h:Md out D) {x k:Nat} (hx:D x=some k):jU out (.i (x:Int))=k:=by
 unfold jU; rw [h x,hx]; rfl
structure RqB (l:List ay) (way:List aX) (dn:List Nat) (qs:List (List Int)) (known out:dR→Option Int) (L:List Int) (off n:Nat) (D:Nat→Option Nat):Prop where
 kn:Kn l way known
 vs:∀q∈qs,VS l q
 on:off+n≤L.length
 q:(L.drop off).take n=qs.map λ s=>((gJ l s:Nat):Int)
 md:Md out D
 lt:∀k m,D k=some m→k<gW l∧m<OV (gW l) D
 ct:dn.length+qs.length=OV (gW l) D
variable {l:List ay} {way:List aX} {dn:List Nat} {known:dR→Option Int} {L:List Int} {off:Nat} {n:Nat}
theorem RqB.aln {qs:List (List Int)} (h:RqB l way dn qs known out L off n D):n=qs.length:=by
 have:=congrArg List.length h.q;have h1:=h.on;rw [List.length_take,List.length_drop,List.length_map] at this;omega
theorem RqB.hd {s:List Int} {qs:List (List Int)} (h:RqB l way dn (s::qs) known out L off n D):L.getD (addN off 0) 0=((gJ l s:Nat):Int):=by
 have hn:=h.aln;have h1:=h.on;have hq:=h.q;rw [List.length_cons] at hn;rw [drop_cons (0:Int) om,show n=qs.length+1 from hn,List.take_succ_cons,List.map_cons] at hq;have:=(List.cons.inj hq).1;have e:addN off 0=off:=by first | rfl | (cases off<;>rfl) | simp [addN]
 rw [e]; exact this
theorem aiI {w_:aN} {x kx y:Nat} (hon:off+n≤L.length) (hn:0<n) (hn2:n≤1000000) (hmd:Md out D) (hL:L.getD (addN off 0) 0=(x:Int)) (hx:D x=some kx) (hk:kx≤1000000):
  W (jN w_ (y:Int) off n out L) (λ r=>(D y≠none→r=(off,n,out,L))∧(D y=none→r=(0,n+1,BD out (.i (y:Int)) ((kx:Int)+1),(L.drop off).take n++[(y:Int)]))):=by
 unfold jN;refine aQ hon ?_;have hg:=ZW hmd hx;refine bW ?_ ?_<;>intro c1
 ·have hnone:D y=none:=by
   rw [hmd y] at c1;cases hd:D y with
   | none=>rfl
   | some k=>rw [hd] at c1; simp at c1
  refine aQ om ?_;rw [hL,hg];refine aQ (by unfold aD; omega) ?_;refine aQ (by unfold big; omega) ?_;exact au ⟨λ h=>absurd hnone h,λ _=>rfl⟩
 ·refine au ⟨λ _=>rfl,λ hnone=>?_⟩;rw [hmd y,hnone] at c1;simp at c1
def RqM (l:List ay) (way:List aX) (a:Nat) (dn:List Nat) (s:List Int) (u v:Int) (known out:dR→Option Int) (L:List Int) (off n:Nat):Prop:=
 ∃rest D,RqB l way dn (s::rest) known out L off n D∧Go.Bf.E8 (nbN l way) a (gJ l s) dn (rest.map (gJ l)) D (LX l s u v)
variable {a:Nat} {u:Int} {v:Int}
theorem RqM.weak {s:List Int} {u' v':Int} (h:RqM l way a dn s u v known out L off n) (hv:∀y,LX l s u' v' y→LX l s u v y):RqM l way a dn s u' v' known out L off n:=by
 obtain ⟨rest,D,h1,h2⟩:=h;exact ⟨rest,D,h1,E8.weak h2 hv⟩
theorem RqM.kn' {s:List Int} {known':dR→Option Int} (h:RqM l way a dn s u v known out L off n) (hk:Kn l way known'):RqM l way a dn s u v known' out L off n:=by
 obtain ⟨rest,D,h1,h2⟩:=h;exact ⟨rest,D,⟨hk,h1.vs,h1.on,h1.q,h1.md,h1.lt,h1.ct⟩,h2⟩
theorem RqM.get {s:List Int} (h:RqM l way a dn s u v known out L off n):Kn l way known∧off+n≤L.length∧0<n∧n≤gW l:=by
 obtain ⟨rest,D,h1,h2⟩:=h;have hn:=h1.aln;have h3:=Yu (gW l) D;have h4:=h1.ct;rw [List.length_cons] at hn h4;exact ⟨h1.kn,h1.on,om,om⟩
theorem RqM.skip {s:List Int} (h:RqM l way a dn s u v known out L off n) (u0:0≤u) (u1:u<l.length) (v0:0≤v) (v1:v<(l.getD u.toNat aI).aK.length)
  (hs:v=s.getD u.toNat 0∨nU l (s.set u.toNat v) way=false):RqM l way a dn s u (v+1) known out L off n:=by
 obtain ⟨rest,D,h1,h2⟩:=h;have hsv:=h1.vs s List.mem_cons_self;refine ⟨rest,D,h1,E8.weak (V:=λ z=>LX l s u v z∨z=gJ l (s.set u.toNat v)) ?_ (DK u0 u1 v0 v1)⟩;have hxv:VS l (s.set u.toNat v):=OQ hsv v0 v1;refine h2.skip λ hn=>?_;obtain ⟨s',u',v',w1,w2,w3,w4⟩:=hn;have e:=Gl w1 hsv w2;subst e;have e2:=Gl (OQ w1 w3.v0 w3.v1) hxv w4;rcases hs with hs | hs
 ·have e3:s'.set u.toNat v=s':=by
   rw [hs,List.getD_eq_getElem?_getD,List.getElem?_eq_getElem (by rw [w1.1]; omega)];exact List.set_getElem_self (by rw [w1.1]; omega)
  rw [e3] at e2;have h3:(s'.set u' v').getD u' 0=v':=by
   rw [List.getD_eq_getElem?_getD,List.getElem?_set_self (by rw [w1.1]; exact w3.hu)]; rfl
  rw [e2] at h3;exact w3.ne h3.symm
 ·rw [← e2] at hs;rw [w3.cm] at hs; cases hs
theorem RqM.visit {s:List Int} (hz:gW l≤1000000) (h:RqM l way a dn s u v known out L off n) (u0:0≤u) (u1:u<l.length) (v0:0≤v) (v1:v<(l.getD u.toNat aI).aK.length)
  (hs:v≠s.getD u.toNat 0) (hc:nU l (s.set u.toNat v) way=true) {w_:aN}:W (jN w_ ((gJ l (s.set u.toNat v):Nat):Int) off n out L) (λ r=>RqM l way a dn s u (v+1) known r.2.2.1 r.2.2.2 r.1 r.2.1):=by
 obtain ⟨_,g1,g2,g3⟩:=h.get;obtain ⟨rest,D,h1,h2⟩:=h;have hsv:=h1.vs s List.mem_cons_self;have hxv:VS l (s.set u.toNat v):=OQ hsv v0 v1;have hpl:=Hg hxv;obtain ⟨kx,hkx⟩:=h2.b.head;have hlt:=h1.lt _ _ hkx;have hcl:=Yu (gW l) D;refine Vi (aiI g1 g2 om h1.md h1.hd hkx om) λ r hr=>?_;cases hd:D (gJ l (s.set u.toNat v)) with
 | some k'=>
  rw [hr.1 (by rw [hd]; nofun)];exact ⟨rest,D,h1,E8.weak (h2.old hd) (DK u0 u1 v0 v1)⟩
 | none=>
  rw [hr.2 hd];have hnb:nbN l way (gJ l s) (gJ l (s.set u.toNat v)):=⟨s,u.toNat,v,hsv,rfl,⟨om,v0,om,hs,hc⟩,rfl⟩;have hcn:=ZV (k:=kx+1) hd hpl;refine ⟨rest++[s.set u.toNat v],Go.Bf.jf D (gJ l (s.set u.toNat v)) (kx+1),⟨h1.kn,λ q hq=>?_,?_,?_,apy h1.md _ _,λ k m hm=>?_,?_⟩,?_⟩
  ·rw [← List.cons_append] at hq;rcases List.mem_append.1 hq with hq | hq
   ·exact h1.vs q hq
   ·rw [List.mem_singleton.1 hq]; exact hxv
  ·dsimp only;rw [List.length_append,List.length_take,List.length_drop,List.length_singleton]; omega
  ·dsimp only;rw [List.drop_zero,h1.q,← List.cons_append,List.map_append,List.map_singleton,List.take_of_length_le (by rw [List.length_append,List.length_map,List.length_singleton,← h1.aln]; exact Nat.le_refl _)]
  ·rw [hcn];unfold Go.Bf.jf at hm;by_cases e:k=gJ l (s.set u.toNat v)
   ·rw [if_pos e] at hm;have:=Option.some.inj hm;exact ⟨by rw [e]; exact hpl,om⟩
   ·rw [if_neg e] at hm;have:=h1.lt k m hm;exact ⟨this.1,om⟩
  ·have:=h1.ct;rw [hcn];simp only [List.length_cons,List.length_append,List.length_nil] at this ⊢;omega
  ·rw [List.map_append];exact E8.weak (h2.new hkx hd hnb) (DK u0 u1 v0 v1)
theorem alo {s:List Int} (h:CmK l way) (hz:gW l≤1000000) (h0:RqM l way a dn s 0 0 known out L off n) (hsv:VS l s):
  W (nG l way ((gJ l s:Nat):Int) known off n out L) (λ r=>RqM l way a dn s l.length 0 r.1 r.2.2.2.1 r.2.2.2.2 r.2.1 r.2.2.1):=by
 have hll:=h.ck.ll;have hsl:=hsv.1;unfold nG;refine aQ h0.get.2.1 ?_;refine aG (oU hsv hll om) λ v1 hv1=>?_;subst v1;refine bM (λ g1:Int×(dR→Option Int)×Nat×Nat×(dR→Option Int)×List Int×List Int=>0≤g1.1∧g1.1≤l.length∧g1.2.2.2.2.2.1=s∧RqM l way a dn s g1.1 0 g1.2.1 g1.2.2.2.2.1 g1.2.2.2.2.2.2 g1.2.2.1 g1.2.2.2.1) (λ g1=>(l.length - g1.1).toNat) ?_ ⟨ob,ob,rfl,h0⟩;intro ah g1 ⟨a1,a2,a3,a4⟩ ih1;unfold wP;refine aQ a4.get.2.1 ?_;refine wi ?_ ?_<;>intro c1
 ·refine wn<|aQ (by rw [a3]; omega) ?_;refine bM (λ g4:Int×(dR→Option Int)×Nat×Nat×(dR→Option Int)×List Int×List Int=>0≤g4.1∧g4.1≤(l.getD g1.1.toNat aI).aK.length∧(g4.2.2.2.2.2.1.length=l.length∧∀x,g4.2.2.2.2.2.1.set g1.1.toNat x=s.set g1.1.toNat x)∧RqM l way a dn s g1.1 g4.1 g4.2.1 g4.2.2.2.2.1 g4.2.2.2.2.2.2 g4.2.2.1 g4.2.2.2.1)
   (λ g4=>((l.getD g1.1.toNat aI).aK.length - g4.1).toNat) ?_ ⟨ob,ob,by rw [a3]; exact ⟨hsl,λ _=>rfl⟩,a4⟩
  intro iN g4 ⟨b1,b2,⟨b3,b4⟩,b5⟩ ih4;have hch:=((qy h.ck.ck).big g1.1.toNat om).2;unfold wO;rw [a3];obtain ⟨bk,bo,bn,bz⟩:=b5.get;refine aQ bo ?_;refine wi ?_ ?_<;>intro c2
  ·have hxv:VS l (s.set g1.1.toNat g4.1):=OQ hsv b1 om;rw [b4];have hts:(s.set g1.1.toNat g4.1).length=l.length∧∀x,(s.set g1.1.toNat g4.1).set g1.1.toNat x=s.set g1.1.toNat x:=⟨by rw [List.length_set]; exact hsl,λ x=>List.set_set ..⟩;refine aQ om ?_;refine aG (mo hxv hll om) λ v26 alp=>?_;subst v26;refine bW ?_ ?_<;>intro c3
   ·have hne:g4.1≠s.getD g1.1.toNat 0:=by simpa using c3
    refine aG (Bq h hxv om bk) λ v27 ⟨hv27,alq⟩=>?_;rw [hv27];refine bW ?_ ?_<;>intro c4
    ·have hc:nU l (s.set g1.1.toNat g4.1) way=true:=by
      simp only [Bool.and_eq_true] at c4;exact c4.2
     refine aG ((b5.kn' alq).visit hz a1 om b1 om hne hc) λ v28 hv28=>?_;refine aQ hv28.get.2.1 ?_;refine wn ?_;exact ih4 _ ⟨ob,ob,hts,hv28⟩ ob
    ·have hc:nU l (s.set g1.1.toNat g4.1) way=false:=by
      cases q:nU l (s.set g1.1.toNat g4.1) way with
      | false=>rfl
      | true=>rw [q] at c4; simp at c4; exact absurd c4 hne
     refine wn ?_;exact ih4 _ ⟨ob,ob,hts,(b5.kn' alq).skip a1 om b1 om (.inr hc)⟩ ob
   ·have heq:g4.1=s.getD g1.1.toNat 0:=by simpa using c3
    refine aQ (by simp [heq]) ?_;refine wn ?_;exact ih4 _ ⟨ob,ob,hts,b5.skip a1 om b1 om (.inl heq)⟩ ob
  ·refine aQ om ?_;refine wn<|ih1 _ ⟨ob,ob,?_,b5.weak λ y hy=>aeU a1 y om hy⟩ ob;dsimp only;rw [b4,List.getD_eq_getElem?_getD,List.getElem?_eq_getElem om];exact List.set_getElem_self om
 ·have e:g1.1=l.length:=by omega
  refine au ?_;rw [e] at a4;exact a4
def Lft (l:List ay) (way:List aX) (a:Nat) (out:dR→Option Int):Prop:=∃D,Md out D∧(∀k m,D k=some m→k<gW l∧m<gW l)∧(∀k m,D k=some m↔Go.Bf.IsD (nbN l way) a k m)∧∀k,D k=none→∀m,¬ Go.Bf.Rch (nbN l way) a m k
theorem alr {s:List Int} (h:CmK l way) (hz:gW l≤1000000) (hsv:VS l s):
  W (qm l way ((gJ l s:Nat):Int) (λ _=>none)) (λ r=>Kn l way r.1∧Lft l way (gJ l s) r.2):=by
 have hpl:=Hg hsv;unfold qm;refine bM (λ g1:(dR→Option Int)×Nat×Nat×(dR→Option Int)×List Int=>∃dn qs D,RqB l way dn qs g1.1 g1.2.2.2.1 g1.2.2.2.2 g1.2.1 g1.2.2.1 D∧Go.Bf.Bfs (nbN l way) (gJ l s) dn (qs.map (gJ l)) D)
  (λ g1=>gW l - ((List.range (gW l)).countP (λ k=>(g1.2.2.2.1 (.i ((k:Nat):Int))).isSome) - g1.2.2.1)) ?_ ?_
 ·intro ah g1 ⟨dn,qs,D,h1,h2⟩ ih1;unfold zw;refine aQ h1.on ?_;have hcl:=Yu (gW l) D;have hn:=h1.aln;have hct:=h1.ct;have hcnt:∀ {out:dR→Option Int} {D:Nat→Option Nat},Md out D→(List.range (gW l)).countP (λ k=>(out (.i ((k:Nat):Int))).isSome)=OV (gW l) D:=λ {out D} hm=>by
   unfold OV;congr 1;funext k;rw [hm k]; cases D k<;>rfl
  refine wi ?_ ?_<;>intro c1
  ·match qs,h1,h2,hn,hct with
   | [],_,_,hn,_=>simp at hn; omega
   | t::rest,h1,h2,hn,hct=>
    have htv:=h1.vs t List.mem_cons_self
    refine aQ om ?_
    rw [h1.hd]
    have hm0:RqM l way (gJ l s) dn t 0 0 g1.1 g1.2.2.2.1 g1.2.2.2.2 g1.2.1 g1.2.2.1:=by
     rw [List.map_cons] at h2
     exact ⟨rest,D,h1,E8.weak h2.mid λ y hy=>by obtain ⟨u',v',_,q2,_,q4,_⟩:=hy; omega⟩
    refine aG (alo h hz hm0 htv) λ v3 hv3=>?_
    obtain ⟨_,o1,o2,o3⟩:=hv3.get
    refine aQ o1 ?_
    refine aQ om ?_
    obtain ⟨rest',D',w1,w2⟩:=hv3
    have wn:=w1.aln
    have wc:=w1.ct
    have wl:=Yu (gW l) D'
    rw [List.length_cons] at wn wc hn hct
    refine ih1 _ ⟨dn++[gJ l t],rest',D',⟨w1.kn,λ q hq=>w1.vs q (List.mem_cons_of_mem _ hq),?_,?_,w1.md,w1.lt,?_⟩,w2.done λ y hy=>?_⟩ ?_
    ·dsimp only; omega
    ·dsimp only
     have hq:=w1.q
     obtain ⟨m,hm⟩:∃m,v3.2.2.1=m+1:=⟨v3.2.2.1 - 1,om⟩
     rw [hm,drop_cons (0:Int) om,List.take_succ_cons,List.map_cons] at hq
     rw [hm,Nat.add_sub_cancel]
     exact (List.cons.inj hq).2
    ·rw [List.length_append,List.length_singleton]; omega
    ·obtain ⟨s',u',v',q1,q2,q3,q4⟩:=hy
     have:=Gl q1 htv q2
     subst this
     exact ⟨u',v',q3.hu,q3.v0,q3.v1,.inl (by have:=q3.hu; omega),q4.symm⟩
    ·dsimp only
     rw [hcnt h1.md,hcnt w1.md]
     omega
  ·have hq0:qs=[]:=List.length_eq_zero_iff.1 om;subst hq0;refine au ⟨h1.kn,D,h1.md,λ k m hm=>?_,λ k m=>h2.final k m,λ k hk m=>h2.none hk m⟩;have:=h1.lt k m hm;exact ⟨this.1,om⟩
 ·refine ⟨[],[s],λ x=>if x=gJ l s then some 0 else none,⟨apx,λ q hq=>by rw [List.mem_singleton.1 hq]; exact hsv,by simp,by simp,λ k=>?_,λ k m hm=>?_,?_⟩,Go.Bf.Bfs.start⟩
  ·unfold BD;dsimp only;by_cases e:k=gJ l s
   ·subst e; simp
   ·rw [if_neg e,if_neg (by intro q; injection q with q; omega)]; rfl
  ·have e:OV (gW l) (λ x=>if x=gJ l s then some 0 else none)=1:=by
    have:=ZV (D:=λ _=>none) (y:=gJ l s) (k:=0) rfl hpl;rw [show OV (gW l) (λ _=>none)=0 from by unfold OV; simp] at this;exact this
   rw [e];by_cases q:k=gJ l s
   ·rw [if_pos q] at hm; have:=Option.some.inj hm; exact ⟨by rw [q]; exact hpl,om⟩
   ·rw [if_neg q] at hm; cases hm
  ·have:=ZV (D:=λ _=>none) (y:=gJ l s) (k:=0) rfl hpl;rw [show OV (gW l) (λ _=>none)=0 from by unfold OV; simp] at this;exact this.symm
theorem Ji {l_:List ay} {s_:List Int} (h1:l_.length≤2000000) (h2:s_.length≤2000000) (h3:aas l_):W (vg l_ s_) (λ r=>r=((eG l_==0)&&kg l_ s_)):=by
 unfold vg;refine aG (zJ (rC h1)) λ v1 hv1=>?_;subst v1;refine aG (gN λ hc=>lY (vL h1 h2 h3)) λ v2 hv2=>?_;subst v2;exact au rfl
theorem XT {f t:List Int} (h:CmK l way) (hlm:nK l way=true) (hf:VS l f) (ht:VS l t) (c1:nU l f way=true) (c2:nU l t way=true):
  W (Db l f t way) (λ r=>r=(l,way,0,λ _=>none)):=by
 have h1:=h.ck.ll;have h2:=h.ck.wl;have h3:=hf.1;have h4:=ht.1;have hck:=h.ck.ck;unfold Db;refine aG (zJ (rC h1)) λ v1 hv1=>?_;rw [hck] at hv1;subst v1;refine aQ rfl ?_;refine aG (Oq h1 h2) λ v3 hv3=>?_;rw [hlm] at hv3;subst v3;refine aG (xR λ _=>Ji h1 om h.ch) λ v4 hv4=>?_;have e4:v4=true:=by rw [hv4 rfl,hck,Ug hf]; rfl
 subst e4;refine aG (xR λ _=>Ji h1 om h.ch) λ v5 hv5=>?_;have e5:v5=true:=by rw [hv5 rfl,hck,Ug ht]; rfl
 subst e5;refine aQ rfl ?_;refine aG (OU h hf) λ v6 hv6=>?_;rw [c1] at hv6;subst v6;refine aQ rfl ?_;refine aG (OU h ht) λ v7 hv7=>?_;rw [c2] at hv7;subst v7;refine aQ rfl ?_;exact au rfl
def EvP (l:List ay) (way:List aX) (D:Nat→Option Nat) (s:List Int) (d:Nat) (k0:Nat) (u v next:Int) (plan:List aN):Prop:=
 (next = -1∧plan.length=k0∧∀y,LX l s u v y→nbN l way (gJ l s) y→D y≠some (d - 1))∨(∃t,VS l t∧next=((gJ l t:Nat):Int)∧D (gJ l t)=some (d - 1)∧plan.length=k0+1)
theorem EvP.weak {s:List Int} {d k0:Nat} {u' v' next:Int} {plan:List aN} (h:EvP l way D s d k0 u v next plan) (hv:∀y,LX l s u' v' y→nbN l way (gJ l s) y→LX l s u v y∨D y≠some (d - 1)):EvP l way D s d k0 u' v' next plan:=by
 rcases h with ⟨h1,h2,h3⟩ | h
 ·refine .inl ⟨h1,h2,λ y hy hn=>?_⟩;rcases hv y hy hn with q | q
  ·exact h3 y q hn
  ·exact q
 ·exact .inr h
theorem ahr {s:List Int} {u:Nat} (hs:VS l s) (hu:u<l.length) (v0:0≤v) (v1:v<(l.getD u aI).aK.length) (hv:v=s.getD u 0∨nU l (s.set u v) way=false):¬ nbN l way (gJ l s) (gJ l (s.set u v)):=by
 intro hn;have hxv:VS l (s.set u v):=OQ hs v0 v1;obtain ⟨s',u',v',w1,w2,w3,w4⟩:=hn;have e:=Gl w1 hs w2;subst e;have e2:=Gl (OQ w1 w3.v0 w3.v1) hxv w4;rcases hv with hv | hv
 ·have e3:s'.set u v=s':=by
   rw [hv,List.getD_eq_getElem?_getD,List.getElem?_eq_getElem (by rw [w1.1]; omega)];exact List.set_getElem_self (by rw [w1.1]; omega)
  rw [e3] at e2;have h3:(s'.set u' v').getD u' 0=v':=by
   rw [List.getD_eq_getElem?_getD,List.getElem?_set_self (by rw [w1.1]; exact w3.hu)]; rfl
  rw [e2] at h3;exact w3.ne h3.symm
 ·rw [← e2] at hv;rw [w3.cm] at hv; cases hv
theorem apz (hD:∀k m,D k=some m↔Go.Bf.IsD (nbN l way) a k m) (hN:∀k,D k=none→∀m,¬ Go.Bf.Rch (nbN l way) a m k) {x y m:Nat} (hx:D x=some m) (hn:nbN l way x y):∃k,D y=some k:=by
 cases h:D y with
 | some k=>exact ⟨k,rfl⟩
 | none=>exact absurd (.s ((hD x m).1 hx).1 hn) (hN y h (m+1))
theorem als {left:dR→Option Int} {s:List Int} {d:Nat} {plan:List aN} (h:CmK l way) (hz:gW l≤1000000) (hsv:VS l s) (hkn:Kn l way known) (hmd:Md left D) (hD:∀k m,D k=some m↔Go.Bf.IsD (nbN l way) a k m)
  (hN:∀k,D k=none→∀m,¬ Go.Bf.Rch (nbN l way) a m k) (ha:okN l way a) (hd:D (gJ l s)=some (d+1)) (hd2:d≤1000000) (hp:plan.length≤10000000):
  W (nH l way ((gJ l s:Nat):Int) known (-1) ((gJ l s:Nat):Int) left plan) (λ r=>Kn l way r.1∧∃t,VS l t∧r.2.1=((gJ l t:Nat):Int)∧D (gJ l t)=some d∧r.2.2.length=plan.length+1):=by
 have hll:=h.ck.ll;have hsl:=hsv.1;have hgs:=ZW hmd hd;unfold nH;refine aG (oU hsv hll om) λ v1 hv1=>?_;subst v1;refine bM (λ g1:Int×(dR→Option Int)×Int×List Int×List aN=>0≤g1.1∧g1.1≤l.length∧g1.2.2.2.1=s∧Kn l way g1.2.1∧EvP l way D s (d+1) plan.length g1.1 0 g1.2.2.1 g1.2.2.2.2) (λ g1=>(l.length - g1.1).toNat) ?_ ⟨ob,ob,rfl,hkn,.inl ⟨rfl,rfl,λ y hy=>by obtain ⟨u',v',_,q2,_,q4,_⟩:=hy; omega⟩⟩;intro ah g1 ⟨a1,a2,a3,a4,a5⟩ ih1;unfold wR;refine wi ?_ ?_<;>intro c1
 ·refine wn<|aQ (by rw [a3]; omega) ?_;refine bM (λ g4:Int×(dR→Option Int)×Int×List Int×List aN=>0≤g4.1∧g4.1≤(l.getD g1.1.toNat aI).aK.length∧(g4.2.2.2.1.length=l.length∧∀x,g4.2.2.2.1.set g1.1.toNat x=s.set g1.1.toNat x)∧Kn l way g4.2.1∧EvP l way D s (d+1) plan.length g1.1 g4.1 g4.2.2.1 g4.2.2.2.2)
   (λ g4=>((l.getD g1.1.toNat aI).aK.length - g4.1).toNat) ?_ ⟨ob,ob,by rw [a3]; exact ⟨hsl,λ _=>rfl⟩,a4,a5⟩
  intro iN g4 ⟨b1,b2,⟨b3,b4⟩,bk,b5⟩ ih4;have hch:=((qy h.ck.ck).big g1.1.toNat om).2;unfold wQ;rw [a3];refine wi ?_ ?_<;>intro c2
  ·have hxv:VS l (s.set g1.1.toNat g4.1):=OQ hsv b1 om;rw [b4];have hts:(s.set g1.1.toNat g4.1).length=l.length∧∀x,(s.set g1.1.toNat g4.1).set g1.1.toNat x=s.set g1.1.toNat x:=⟨by rw [List.length_set]; exact hsl,λ x=>List.set_set ..⟩;refine aQ om ?_;refine aG (mo hxv hll om) λ v26 alp=>?_;subst v26;refine bW ?_ ?_<;>intro c3
   ·have hne:g4.1≠s.getD g1.1.toNat 0:=by simpa using c3
    refine aG (Bq h hxv om bk) λ v27 ⟨hv27,alq⟩=>?_;rw [hv27];refine bW ?_ ?_<;>intro c4
    ·have hc:nU l (s.set g1.1.toNat g4.1) way=true:=by
      simp only [Bool.and_eq_true] at c4;exact c4.2
     have hnb:nbN l way (gJ l s) (gJ l (s.set g1.1.toNat g4.1)):=⟨s,g1.1.toNat,g4.1,hsv,rfl,⟨om,b1,om,hne,hc⟩,rfl⟩;obtain ⟨m,hm⟩:=apz hD hN hd hnb;have hgm:=ZW hmd hm;have hmr:W (uw (⟨(1:Int),g1.1,g4.1⟩:aN) ((gJ l (s.set g1.1.toNat g4.1):Nat):Int) g4.2.2.1 ((gJ l s:Nat):Int) left g4.2.2.2.2) (λ r=>EvP l way D s (d+1) plan.length g1.1 (g4.1+1) r.1 r.2):=by
      unfold uw;refine aQ (λ _=>by rw [hgs]; unfold aD; omega) ?_;refine bW ?_ ?_<;>intro c5
      ·rw [hgs,hgm] at c5;simp only [Bool.and_eq_true,decide_eq_true_eq,beq_iff_eq] at c5;have hpl:g4.2.2.2.2.length=plan.length:=by
        rcases b5 with ⟨_,q,_⟩ | ⟨t,_,q,_⟩
        ·exact q
        ·omega
       refine aQ (by unfold big; omega) ?_;refine au (.inr ⟨_,hxv,rfl,?_,?_⟩)
       ·rw [hm]; congr 1; omega
       ·dsimp only; rw [List.length_append,hpl]; rfl
      ·refine au ?_;rcases b5 with ⟨q1,q2,q3⟩ | q
       ·refine .inl ⟨q1,q2,λ y hy hn=>?_⟩;rcases DK a1 om b1 om y hy with w | w
        ·exact q3 y w hn
        ·subst w;intro e;rw [hm] at e;have e:=Option.some.inj e;rw [hgs,hgm,q1] at c5;simp at c5;omega
       ·exact .inr q
     refine aG hmr λ v28 hv28=>?_;refine wn ?_;exact ih4 _ ⟨ob,ob,hts,alq,hv28⟩ ob
    ·have hc:nU l (s.set g1.1.toNat g4.1) way=false:=by
      cases q:nU l (s.set g1.1.toNat g4.1) way with
      | false=>rfl
      | true=>rw [q] at c4; simp at c4; exact absurd c4 hne
     refine wn<|ih4 _ ⟨ob,ob,hts,alq,b5.weak λ y hy hn=>?_⟩ ob;rcases DK a1 om b1 om y hy with w | w
     ·exact .inl w
     ·subst w; exact absurd hn (ahr hsv om b1 om (.inr hc))
   ·have heq:g4.1=s.getD g1.1.toNat 0:=by simpa using c3
    refine aQ (by simp [heq]) ?_;refine wn<|ih4 _ ⟨ob,ob,hts,bk,b5.weak λ y hy hn=>?_⟩ ob;rcases DK a1 om b1 om y hy with w | w
    ·exact .inl w
    ·subst w; exact absurd hn (ahr hsv om b1 om (.inl heq))
  ·refine aQ om ?_;refine wn<|ih1 _ ⟨ob,ob,?_,bk,b5.weak λ y hy _=>.inl (aeU a1 y om hy)⟩ ob;dsimp only;rw [b4,List.getD_eq_getElem?_getD,List.getElem?_eq_getElem om];exact List.set_getElem_self om
 ·have e:g1.1=l.length:=by omega
  refine au ⟨a4,?_⟩;rcases a5 with ⟨_,_,q⟩ | ⟨t,q1,q2,q3,q4⟩
  ·exfalso;obtain ⟨x,hx,hn⟩:=((hD _ _).1 hd).prev;have hok:=(hx.1.rev (C:=okN l way) ha λ _ _=>Um).1;have hn2:=(Um hok hn).2;obtain ⟨s',u',v',w1,w2,w3,w4⟩:=hn2;have e2:=Gl w1 hsv w2;subst e2;refine q x ⟨u',v',w3.hu,w3.v0,w3.v1,.inl (by have:=w3.hu; omega),w4.symm⟩ ⟨s',u',v',w1,rfl,w3,w4⟩ ?_;exact (hD x d).2 hx
  ·exact ⟨t,q1,q2,q3,q4⟩
def PlR (l:List ay) (way:List aX) (f t:List Int) (r:List aN×Int):Prop:=
 (∃m,Go.Bf.IsD (nbN l way) (gJ l t) (gJ l f) m∧r.2=0∧r.1.length=m∧m<gW l)∨((∀m,¬ Go.Bf.Rch (nbN l way) (gJ l t) m (gJ l f))∧r.2=9∧r.1=[])
theorem ZX {f t:List Int} (h:CmK l way) (hz:gW l≤1000000) (hlm:nK l way=true) (hf:VS l f) (ht:VS l t) (c1:nU l f way=true) (c2:nU l t way=true):W (FN l f t way) (PlR l way f t):=by
 have hll:=h.ck.ll;unfold FN;refine aG (XT h hlm hf ht c1 c2) λ v1 hv1=>?_;subst v1;refine bW (λ c=>by simp at c) (λ _=>?_);refine aG (mo ht hll (by dsimp only; omega)) λ v2 hv2=>?_;subst v2;refine aG (alr h hz ht) λ v3 ⟨hk,D,hmd,hlt,hD,hN⟩=>?_;refine aG (mo hf hll (by dsimp only; omega)) λ v4 hv4=>?_;subst v4;refine bW ?_ ?_<;>intro c
 ·refine au (.inr ⟨?_,rfl,rfl⟩);cases hd:D (gJ l f) with
  | none=>exact hN _ hd
  | some m=>rw [hmd,hd] at c; simp at c
 ·obtain ⟨m,hm⟩:∃m,D (gJ l f)=some m:=by
   cases hd:D (gJ l f) with
   | some m=>exact ⟨m,rfl⟩
   | none=>rw [hmd,hd] at c; simp at c
  have hm2:gJ l f<gW l∧m<gW l:=hlt _ _ hm;refine bM (λ g1:Int×(dR→Option Int)×List aN=>Kn l way g1.2.1∧∃s d,VS l s∧g1.1=((gJ l s:Nat):Int)∧D (gJ l s)=some d∧g1.2.2.length+d=m) (λ g1=>(jU v3.2 (.i g1.1)).toNat) ?_ ⟨hk,f,m,hf,rfl,hm,by simp⟩;intro ah g1 ⟨q1,s,d,q2,q3,q4,q5⟩ ih1;have hg:=ZW hmd q4;unfold KY;rw [q3,hg];refine wi ?_ ?_<;>intro c5
  ·obtain ⟨d',rfl⟩:∃d',d=d'+1:=⟨d - 1,om⟩;refine aG (als h hz q2 q1 hmd hD hN ⟨t,ht,rfl,c2⟩ q4 om om) λ v7 ⟨w1,x,w2,w3,w4,w5⟩=>?_;refine ih1 _ ⟨w1,x,d',w2,w3,w4,by dsimp only; omega⟩ ?_;dsimp only;rw [w3,q3,ZW hmd w4,hg];omega
  ·refine au (.inl ⟨m,(hD _ _).1 hm,rfl,by dsimp only; omega,hm2.2⟩)
theorem PlR.sym {f t:List Int} {r r':List aN×Int} (hf:VS l f) (ht:VS l t) (c1:nU l f way=true) (c2:nU l t way=true) (h:PlR l way f t r) (h':PlR l way t f r'):r.2=r'.2∧r.1.length=r'.1.length:=by
 have okf:okN l way (gJ l f):=⟨f,hf,rfl,c1⟩;have okt:okN l way (gJ l t):=⟨t,ht,rfl,c2⟩;rcases h with ⟨m,a1,a2,a3,_⟩ | ⟨a1,a2,a3⟩<;>rcases h' with ⟨m',b1,b2,b3,_⟩ | ⟨b1,b2,b3⟩
 ·have:=a1.rev (C:=okN l way) okt λ _ _=>Um;have:=this.uniq b1;exact ⟨a2.trans b2.symm,om⟩
 ·exact absurd (a1.1.rev (C:=okN l way) okt λ _ _=>Um).2 (b1 m)
 ·exact absurd (b1.1.rev (C:=okN l way) okf λ _ _=>Um).2 (a1 m')
 ·exact ⟨a2.trans b2.symm,by rw [a3,b3]⟩
theorem apA {A:Int→Prop} (h:EF A) {r:Int} (hr:A r):r=Classical.epsilon A:=h _ _ hr (Classical.epsilon_spec ⟨r,hr⟩)
noncomputable def ndX (b:aY) (l:List aS):Int:=Classical.epsilon (CB b l)
variable {b:aY}
theorem arj {l:List aS} {r:Int} (h:CB b l r):r=ndX b l∧(r=0→ahg b∧l.length≤12∧(∀n∈l,amL b n)):=⟨apA CB.fun h,λ e=>Gi (by rw [e] at h; exact h)⟩
variable {l_:List aS}
theorem aaR {b_:aY} (h1:He b_) (h2:∀g∈b_.aZ.aH,g.bZ.length≤2000000∧g.ak.length≤2000000) (h3:Qj l_):W (vU b_ l_) (λ r=>r=ndX b_ l_∧(r=0→ahg b_∧l_.length≤12∧(∀n∈l_,amL b_ n))):=Vi (RB h1 h2 h3) λ _ h=>arj h
variable {Qn:List Int}
theorem aeZ {b_:aY} {g_:aR} (h1:He b_) (h2:GSz b_.aZ) (h3:Qj l_) (h4:Qn.length≤10000) (h5:Ja g_):W (AU b_ l_ Qn g_) (λ r=>r=true↔Ql b_ l_ Qn g_ false 0):=by
 unfold AU;refine aG (XL h1 h2 h3 h4 h5) λ v1 hv1=>au ⟨λ e=>?_,λ h=>?_⟩
 ·have e:v1=0:=by simpa using e
  rw [e] at hv1; exact hv1
 ·rw [Ql.fun _ _ hv1 h]; rfl
def lmM (l:List aS) (ms:List Int):List aX:=ms.flatMap λ m=>(l.getD m.toNat bG).bT
variable {ms:List Int}
theorem abD {α:Type} {f:Int→List α} {i:Nat} (h:i<ms.length):(ms.take (i+1)).flatMap f=(ms.take i).flatMap f++f (ms.getD i 0):=by
 rw [List.take_add_one,List.getElem?_eq_getElem h,List.flatMap_append,List.getD_eq_getElem?_getD,List.getElem?_eq_getElem h];simp
theorem aiK (hm:Qn.length≤10000) (hr:∀m∈Qn,0≤m∧m<l_.length) (hb:∀n∈l_,n.bT.length≤100):W (Da l_ Qn) (λ r=>r=lmM l_ Qn):=by
 unfold Da rH;refine aG (P:=λ r=>r=lmM l_ Qn) ?_ λ v1 hv1=>au hv1;refine bM (λ g:Int×List aX=>0≤g.1∧g.1≤Qn.length∧g.2=lmM l_ (Qn.take g.1.toNat)∧g.2.length≤100*g.1.toNat) (λ g=>(Qn.length - g.1).toNat) ?_ ⟨ob,ob,rfl,Nat.zero_le _⟩;intro self g ⟨a1,a2,a3,a4⟩ ih;unfold u7;refine wi ?_ ?_<;>intro c1
 ·have hlt:g.1.toNat<Qn.length:=by omega
  have hmem:Qn.getD g.1.toNat 0∈Qn:=by rw [List.getD_eq_getElem?_getD,List.getElem?_eq_getElem hlt]; exact List.getElem_mem hlt
  have hrr:=hr _ hmem;have hnl:(Qn.getD g.1.toNat 0).toNat<l_.length:=by omega
  have hnb:=hb (l_.getD (Qn.getD g.1.toNat 0).toNat bG) (by rw [List.getD_eq_getElem?_getD,List.getElem?_eq_getElem hnl]; exact List.getElem_mem hnl);refine aQ om ?_;refine bW (λ _=>?_) (λ c2=>?_)
  ·refine aQ om ?_;refine aG (P:=λ r=>r=(l_.getD (Qn.getD g.1.toNat 0).toNat bG).bT) (au rfl) λ v3 hv3=>?_;subst v3;refine aQ (by unfold big; omega) ?_;refine wn<|ih _ ⟨ob,ob,?_,?_⟩ ob
   ·dsimp only;rw [show (g.1+1).toNat=g.1.toNat+1 by omega,a3];unfold lmM;rw [abD hlt]
   ·dsimp only;rw [List.length_append]; omega
  ·rw [decide_eq_true hrr.1,decide_eq_true hrr.2] at c2; cases c2
 ·refine au ?_;rw [a3,List.take_of_length_le om]
theorem alu (hm:Qn.length≤10000) (hr:∀m∈Qn,0≤m∧m<l_.length) (hb:∀n∈l_,n.fI.length≤100):W (FK l_ Qn) (λ r=>r=drM l_ Qn∧r.length≤1000000):=by
 unfold FK sW;refine aG (P:=λ r=>r=drM l_ Qn∧r.length≤1000000) ?_ λ v1 hv1=>au hv1;refine bM (λ g:Int×List bU=>0≤g.1∧g.1≤Qn.length∧g.2=drM l_ (Qn.take g.1.toNat)∧g.2.length≤100*g.1.toNat) (λ g=>(Qn.length - g.1).toNat) ?_ ⟨ob,ob,rfl,Nat.zero_le _⟩;intro self g ⟨a1,a2,a3,a4⟩ ih;unfold wL;refine wi ?_ ?_<;>intro c1
 ·have hlt:g.1.toNat<Qn.length:=by omega
  have hmem:Qn.getD g.1.toNat 0∈Qn:=by rw [List.getD_eq_getElem?_getD,List.getElem?_eq_getElem hlt]; exact List.getElem_mem hlt
  have hrr:=hr _ hmem;have hnl:(Qn.getD g.1.toNat 0).toNat<l_.length:=by omega
  have hnb:=hb (l_.getD (Qn.getD g.1.toNat 0).toNat bG) (by rw [List.getD_eq_getElem?_getD,List.getElem?_eq_getElem hnl]; exact List.getElem_mem hnl);refine aQ om ?_;refine bW (λ _=>?_) (λ c2=>?_)
  ·refine aQ om ?_;refine aG (P:=λ r=>r=(l_.getD (Qn.getD g.1.toNat 0).toNat bG).fI) (au rfl) λ v3 hv3=>?_;subst v3;refine aQ (by unfold big; omega) ?_;refine wn<|ih _ ⟨ob,ob,?_,?_⟩ ob
   ·dsimp only;rw [show (g.1+1).toNat=g.1.toNat+1 by omega,a3];unfold drM;rw [abD hlt]
   ·dsimp only;rw [List.length_append]; omega
  ·rw [decide_eq_true hrr.1,decide_eq_true hrr.2] at c2; cases c2
 ·refine au ⟨?_,om⟩;rw [a3,List.take_of_length_le om]
theorem Uq {l:List aS} {g:aR} (h:Ql b l ms g false 0) (hm:∀m∈ms,0≤m∧m<l.length) (hn:∀n∈l,∀x∈n.bT,XA b.bS.length x):eG b.bS=0∧VS b.bS g.Setting∧nU b.bS g.Setting (lmM l ms)=true:=by
 obtain ⟨_,h⟩:=jP (by decide) h;obtain ⟨h2,h⟩:=jP (by decide) h;obtain ⟨h3,h⟩:=jP (by decide) h;obtain ⟨h4,_⟩:=jP (by decide) h;have q2:=Classical.not_not.1 h2;have q4:=Classical.not_not.1 h4;have h3:gV b.bS g.Setting []=true:=by
  cases e:gV b.bS g.Setting [] with
  | true=>rfl
  | false=>exact absurd e h3
 obtain ⟨c1,c2,c3⟩:=PW h3;obtain ⟨⟨s1,_⟩,s2,_⟩:=q2.2;have hs:VS b.bS g.Setting:=⟨om,λ i hi=>s2 i om⟩;refine ⟨c1,hs,?_⟩;unfold nU;rw [c3,Bool.true_and,Bool.not_eq_true',List.any_map,List.any_eq_false];intro x hx;unfold lmM at hx;obtain ⟨m,hmm,hxm⟩:=List.mem_flatMap.1 hx;obtain ⟨i,hi,rfl⟩:=List.mem_iff_getElem.1 hmm;have hr:=hm _ hmm;have hnl:(ms[i]).toNat<l.length:=by omega
 have hnm:l.getD (ms[i]).toNat bG∈l:=by rw [List.getD_eq_getElem?_getD,List.getElem?_eq_getElem hnl]; exact List.getElem_mem hnl
 have hok:=hn _ hnm x hxm;obtain ⟨j,hj,rfl⟩:=List.mem_iff_getElem.1 hxm;have hl:=q4 i om;rw [show ms.getD i 0=ms[i] by rw [List.getD_eq_getElem?_getD,List.getElem?_eq_getElem hi]; rfl] at hl;have hx2:=hl j om;rw [show (l.getD (ms[i]).toNat bG).bT.getD j dK=(l.getD (ms[i]).toNat bG).bT[j] by rw [List.getD_eq_getElem?_getD,List.getElem?_eq_getElem hj]; rfl] at hx2;generalize (l.getD (ms[i]).toNat bG).bT[j]=x at hok hx2;obtain ⟨x1,x2,x3⟩:=hx2;have hv:=(Kh (qy c1) c2 x.eU.toNat (by have:=hok.k0; have:=hok.kl; omega)).2.2.1;show ¬ TQ (gy b.bS g.Setting) (agq x)=true;unfold TQ agq;dsimp only;rw [acX x1,ZI hv (by
  have hd:=(lV hv).2.2.1
  have:=x3 rfl
  have h0:0≤x.Low*((gy b.bS g.Setting).getD x.eU.toNat dW).jv:=Int.mul_nonneg hok.l0 om
  omega) x2]
 decide
def CfP (ms:List Int) (U V:List aP):Prop:=∀u∈U,(∀w∈V,w.jd.dz=u.jd.dz→w.jd.dM=u.jd.dM)∧(u.gG∈ms→u∈V)
variable {U:List aP}
theorem alv {V:List aP} (hs:∀u,u.gG∈ms→(u∈U↔u∈V)) (h:CfP ms U V):CfP ms V U:=λ w hw=>⟨λ u hu e=>((h u hu).1 w hw e.symm).symm,λ hd=>(hs w hd).2 hw⟩
def ae0 (b:aY) (l:List aS) (ms:List Int) (f t:aR) (r:Int):Prop:=
 (ndX b l≠0∧r=ndX b l)∨(ndX b l=0∧¬VE l ms∧r=2)∨(ndX b l=0∧VE l ms∧¬(Ql b l ms f false 0∧Ql b l ms t false 0)∧r=41)∨
  (ndX b l=0∧VE l ms∧Ql b l ms f false 0∧Ql b l ms t false 0∧((¬CfP ms f.Uses t.Uses∧r=8)∨(CfP ms f.Uses t.Uses∧r=0)))
variable {f:aR} {t:aR}
theorem ae0.sym {l:List aS} (hs:∀u,u.gG∈ms→(u∈f.Uses↔u∈t.Uses)) {r r':Int} (h:ae0 b l ms f t r) (h':ae0 b l ms t f r'):r=r':=by
 have s1:CfP ms f.Uses t.Uses↔CfP ms t.Uses f.Uses:=⟨alv hs,alv λ u hu=>(hs u hu).symm⟩;unfold ae0 at h h';rw [← s1] at h';rcases h with ⟨a1,a2⟩ | ⟨a1,a2,a3⟩ | ⟨a1,a2,a3,a4⟩ | ⟨a1,a2,a3,a4,⟨a5,a6⟩ | ⟨a5,a6⟩⟩<;>
  rcases h' with ⟨b1,b2⟩ | ⟨b1,b2,b3⟩ | ⟨b1,b2,b3,b4⟩ | ⟨b1,b2,b3,b4,⟨b5,b6⟩ | ⟨b5,b6⟩⟩<;>
  first
  | omega
  | (exfalso; exact a1 b1)
  | (exfalso; exact b1 a1)
  | (exfalso; exact a2 b2)
  | (exfalso; exact b2 a2)
  | (exfalso; exact a3 ⟨b4,b3⟩)
  | (exfalso; exact b3 ⟨a4,a3⟩)
  | (exfalso; exact a5 b5)
  | (exfalso; exact b5 a5)
def eqH (v x:aP):Bool:=(v.gG==x.gG)&&((v.jd.dz==x.jd.dz)&&((v.jd.dM==x.jd.dM)&&true))
theorem ahs {v x:aP}:eqH v x=true↔v=x:=by
 obtain ⟨d,⟨g,f⟩⟩:=v;obtain ⟨d',⟨g',f'⟩⟩:=x;unfold eqH;simp only [Bool.and_eq_true,beq_iff_eq,Bool.true_eq,aP.mk.injEq,oq.mk.injEq,and_true]
theorem anf {s_:List aP} {v_:aP} (h1:s_.length≤2000000):W (nP s_ v_) (λ r=>r=true↔v_∈s_):=by
 have hi:W (rG s_ v_) (λ r=>r=Xu s_ (eqH v_)):=akk (d:=bF) (P:=eqH v_) om;refine Vi (zJ (I6 hi (oM _ _))) λ r hr=>?_;rw [hr,List.any_eq_true];constructor
 ·rintro ⟨x,hx,e⟩; rw [ahs.1 e]; exact hx
 ·intro h; exact ⟨v_,h,ahs.2 rfl⟩
theorem ags {m:dR→Option Int} (hm:ms.length≤10000) (hu:f.Uses.length≤100000) (hv:t.Uses.length≤100000) (hb:∀u∈f.Uses,0≤u.jd.dM∧u.jd.dM≤2000000) (hg:GmP t.Uses m):
  W (dF (yj f t ms m) (0:Int)) (λ r=>(¬CfP ms f.Uses t.Uses∧r=8)∨(CfP ms f.Uses t.Uses∧r=0)):=by
 refine bM (λ g:Int=>0≤g∧g≤f.Uses.length∧∀j:Nat,(j:Int)<g→(∀w∈t.Uses,w.jd.dz=(f.Uses.getD j bF).jd.dz→w.jd.dM=(f.Uses.getD j bF).jd.dM)∧((f.Uses.getD j bF).gG∈ms→f.Uses.getD j bF∈t.Uses)) (λ g=>(f.Uses.length - g).toNat) ?_ ⟨ob,ob,λ j hj=>by omega⟩;intro self g ⟨a1,a2,a3⟩ ih;unfold yj;refine wi ?_ ?_<;>intro c1
 ·have hlt:g.toNat<f.Uses.length:=by omega
  have hmem:f.Uses.getD g.toNat bF∈f.Uses:=by rw [List.getD_eq_getElem?_getD,List.getElem?_eq_getElem hlt]; exact List.getElem_mem hlt
  have hbu:=hb _ hmem;generalize hU:f.Uses.getD g.toNat bF=u at hmem hbu;refine aQ om ?_;refine aQ (λ _=>by unfold aD; omega) ?_;have h1:(((m (.i u.jd.dz)).isSome&&((jU m (.i u.jd.dz)) != (u.jd.dM+(1:Int))))=false)↔∀w∈t.Uses,w.jd.dz=u.jd.dz→w.jd.dM=u.jd.dM:=by
   constructor
   ·intro e w hw hgr;have:=hg.to w hw;rw [hgr] at this;unfold jU at e;rw [this] at e;simp at e;omega
   ·intro e;cases q:m (.i u.jd.dz) with
    | none=>rfl
    | some v=>
     obtain ⟨w,hw,e1,e2⟩:=hg.of _ _ q;have:=e w hw e1;unfold jU;rw [q];simp;omega
  refine aG (xR λ _=>zJ (rO (s_:=ms) (v_:=u.gG) om)) λ v12 TL=>?_;refine aG (xR λ _=>xR λ _=>anf (s_:=t.Uses) (v_:=(⟨u.gG,⟨u.jd.dz,u.jd.dM⟩⟩:aP)) om) λ v13 R8=>?_;refine bW ?_ ?_<;>intro c2
  ·refine au (.inl ⟨λ hc=>?_,rfl⟩);obtain ⟨q1,q2⟩:=hc u hmem;have e1:=h1.2 q1;rw [e1] at c2;simp only [Bool.false_or,Bool.and_eq_true,Bool.not_eq_true'] at c2;have hd:u.gG∈ms:=by
    have:=TL e1;rw [c2.1] at this;exact List.contains_iff_mem.1 this.symm
   have:=(R8 e1 c2.1).2 (q2 hd);rw [c2.2] at this; cases this
  ·simp only [Bool.or_eq_false_iff] at c2;have e1:=c2.1;refine wn<|ih _ ⟨ob,ob,λ j hj=>?_⟩ ob;by_cases e:j=g.toNat
   ·subst e;rw [hU];refine ⟨h1.1 e1,λ hd=>?_⟩;have ht:v12=true:=by rw [TL e1]; exact List.contains_iff_mem.2 hd
    have h2:=c2.2;rw [ht] at h2;exact (R8 e1 ht).1 (by simpa using h2)
   ·exact a3 j om
 ·refine au (.inr ⟨λ u hu=>?_,rfl⟩);obtain ⟨j,hj,rfl⟩:=List.mem_iff_getElem.1 hu;have:=a3 j om;rwa [List.getD_eq_getElem?_getD,List.getElem?_eq_getElem hj] at this
theorem ac7 {p:bP} (h2:GSz p) (o:Uj p (U.map aP.jd)):∀u∈U,0≤u.jd.dM∧u.jd.dM≤2000000:=λ u hu=>by
 have w:=PX o u hu;have w1:=w.g0;have w2:=w.gl;have w3:=w.f0;have w4:=w.fl;have q3:=(h2 (p.aH.getD u.jd.dz.toNat aJ) (by
  rw [List.getD_eq_getElem?_getD,List.getElem?_eq_getElem om]; exact List.getElem_mem _)).2
 omega
theorem ac8 {p:bP} (o:Uj p (U.map aP.jd)):(U.map λ u=>u.jd.dz).Nodup:=by
 have:=apu o;rw [List.map_map] at this;exact this
theorem alx {l:List aS} (h1:He b) (h2:GSz b.aZ) (h3:Qj l) (hm:ms.length≤10000) (hf:Ja f) (ht:Ja t) (hu:f.Uses.length≤100000) (hv:t.Uses.length≤100000):
  W (Aa b l f t ms) (ae0 b l ms f t):=by
 have hll:=h3.len;unfold Aa;refine aG (aaR h1 h2 h3) λ v1 ⟨hv1,_⟩=>?_;refine bW (λ c=>au (.inl ⟨by rw [← hv1]; simpa using c,hv1⟩)) (λ c=>?_);have hn0:ndX b l=0:=by rw [← hv1]; simpa using c
 refine bM (λ g:Int=>0≤g∧g≤ms.length∧∀i:Nat,(i:Int)<g→(0≤ms.getD i 0∧ms.getD i 0<l.length)∧∀k:Nat,k<i→ms.getD k 0≠ms.getD i 0) (λ g=>(ms.length - g).toNat) ?_ ⟨ob,ob,λ j hj=>by omega⟩;intro self g ⟨a1,a2,a3⟩ ih;unfold Ir;refine wi ?_ ?_<;>intro c1
 ·have hlt:g.toNat<ms.length:=by omega
  refine aQ om ?_;refine aQ (λ _=>by omega) ?_;refine aG (xR λ _=>zJ (rO (s_:=ms.take g.toNat) (v_:=ms.getD g.toNat 0) (by rw [List.length_take]; omega))) λ v4 hv4=>?_;have hct:(ms.take g.toNat).contains (ms.getD g.toNat 0)=true↔∃k:Nat,k<g.toNat∧ms.getD k 0=ms.getD g.toNat 0:=by
   rw [List.contains_iff_mem,List.mem_iff_getElem];constructor
   ·rintro ⟨k,hk,e⟩;rw [List.length_take] at hk;refine ⟨k,om,?_⟩;rw [List.getElem_take] at e;rw [List.getD_eq_getElem?_getD,List.getElem?_eq_getElem (by omega:k<ms.length)];exact e
   ·rintro ⟨k,hk,e⟩;refine ⟨k,by rw [List.length_take]; omega,?_⟩;rw [List.getElem_take];rw [List.getD_eq_getElem?_getD,List.getElem?_eq_getElem (by omega:k<ms.length)] at e;exact e
  refine bW ?_ ?_<;>intro c2
  ·refine au (.inr (.inl ⟨hn0,λ hd=>?_,rfl⟩));obtain ⟨q1,q2⟩:=hd g.toNat om;have e1:((decide ((ms.getD g.toNat 0)<(0:Int)))||(decide ((l.length:Int)≤(ms.getD g.toNat 0))))=false:=by
    rw [decide_eq_false om,decide_eq_false om]; rfl
   have e2:=hv4 e1;rw [e1,Bool.false_or] at c2;rw [c2] at e2;obtain ⟨k,hk,e⟩:=hct.1 e2.symm;exact q2 k hk e
  ·simp only [Bool.or_eq_false_iff] at c2;have e2:=hv4 (by rw [c2.1.1,c2.1.2]; rfl);refine wn<|ih _ ⟨ob,ob,λ i hi=>?_⟩ ob;by_cases e:i=g.toNat
   ·subst e;have d1:=of_decide_eq_false c2.1.1;have d2:=of_decide_eq_false c2.1.2;refine ⟨⟨Int.not_lt.1 d1,Int.not_le.1 d2⟩,λ k hk q=>?_⟩;have:=hct.2 ⟨k,hk,q⟩;rw [← e2,c2.2] at this; cases this
   ·exact a3 i (by clear hct; omega)
 ·have hd:VE l ms:=λ i hi=>a3 i om;refine aG (aeZ h1 h2 h3 hm hf) λ v5 hv5=>?_;refine aG (xR λ _=>aeZ h1 h2 h3 hm ht) λ v6 hv6=>?_;refine bW ?_ ?_<;>intro c2
  ·refine au (.inr (.inr (.inl ⟨hn0,hd,λ ⟨q1,q2⟩=>?_,rfl⟩)));have e5:=hv5.2 q1;subst e5;have e6:=(hv6 rfl).2 q2;subst e6;cases c2
  ·simp only [Bool.or_eq_false_iff,Bool.not_eq_false'] at c2;obtain ⟨e5,e6⟩:=c2;subst e5;subst e6;have q1:=hv5.1 rfl;have q2:=(hv6 rfl).1 rfl;have o1:=(acZ q1).2;have o2:=(acZ q2).2;refine aG (VK hv (ac8 o2) (ac7 h2 o2)) λ v7 hv7=>?_;exact Vi (ags hm hu hv (ac7 h2 o1) hv7) λ r hr=>.inr (.inr (.inr ⟨hn0,hd,q1,q2,hr⟩))
def hG (U:List aP) (i:Nat):Bool:=U.any λ u=>u.jd.dz==((i:Nat):Int)
def pnU (U V:List aP) (i:Nat):Nat:=if (hG U i&&!hG V i)=true then 1 else 0
theorem aly {m:dR→Option Int} (h:GmP U m) (hf:∀u∈U,0≤u.jd.dM∧u.jd.dM≤2000000) (i:Nat):decide ((0:Int)<jU m (.i ((i:Nat):Int)))=hG U i∧(jU m (.i ((i:Nat):Int))==0)=!hG U i:=by
 cases e:m (.i ((i:Nat):Int)) with
 | none=>
  have hg:hG U i=false:=by
   unfold hG;rw [List.any_eq_false];intro u hu q;have q:u.jd.dz=((i:Nat):Int):=by simpa using q
   have:=h.to u hu;rw [q,e] at this; cases this
  unfold jU;rw [e,hg];exact ⟨rfl,rfl⟩
 | some v=>
  obtain ⟨u,hu,e1,rfl⟩:=h.of _ v e;have hb:=hf u hu;have hg:hG U i=true:=by
   unfold hG;rw [List.any_eq_true];exact ⟨u,hu,by simpa using e1⟩
  unfold jU;rw [e,hg];refine ⟨decide_eq_true (by show (0:Int)<u.jd.dM+1; omega),?_⟩;show (u.jd.dM+1==0)=false;simp; omega
theorem alz {V:List aP} {m m':dR→Option Int} (h:GmP U m) (h':GmP V m') (hf:∀u∈U,0≤u.jd.dM∧u.jd.dM≤2000000) (hf':∀u∈V,0≤u.jd.dM∧u.jd.dM≤2000000) (n:Nat):lG (pnE m m') n=lG (pnU U V) n:=
 DL (λ i=>by unfold pnE pnU; rw [(aly h hf i).1,(aly h' hf' i).2]) n
def ac9 (f t:aR):Nat:=lG (lnE 0 f.Released t.Released) f.Released.length+lG (pnU f.Uses t.Uses) 24+lG (Qm f.bX t.bX) f.bX.On.length+lG (dmE f.cO t.cO) f.cO.length+lG (pnU t.Uses f.Uses) 24+lG (lnE 1 f.Released t.Released) f.Released.length
theorem anh (h1:f.Released.length=t.Released.length) (h2:f.bX.On.length=t.bX.On.length) (h3:f.cO.length=t.cO.length):ac9 f t=ac9 t f:=by
 unfold ac9;rw [h1,h2,h3,DL (alh f.Released t.Released),DL (λ i=>(alh t.Released f.Released i).symm),DL (anc f.bX t.bX),DL (apw f.cO t.cO)];omega
def ani (b:aY) (l:List aS) (ms:List Int) (f t:aR) (r:Int×List aN):Prop:=
 ∃c,ae0 b l ms f t c∧(c≠0→r=(c,[]))∧(c=0→∃rt,PlR b.bS (lmM l ms) f.Setting t.Setting rt∧(rt.2≠0→r=(rt.2,[]))∧(rt.2=0→(400<ac9 f t+rt.1.length→r=(3,[]))∧(ac9 f t+rt.1.length≤400→r.1=0∧r.2.length=ac9 f t+rt.1.length)))
theorem ae0.ok {l:List aS} (h:ae0 b l ms f t 0):VE l ms∧Ql b l ms f false 0∧Ql b l ms t false 0:=by
 rcases h with ⟨a1,a2⟩ | ⟨_,_,a3⟩ | ⟨_,_,_,a4⟩ | ⟨_,a2,a3,a4,_⟩
 ·exact absurd a2.symm a1
 ·cases a3
 ·cases a4
 ·exact ⟨a2,a3,a4⟩
theorem ZY {l:List aS} {g:aR} {bt:Bool} (h:Ql b l ms g bt 0):∀n∈l,∀x∈n.bT,XA b.bS.length x:=by
 obtain ⟨h1,_⟩:=jP (by decide) h;exact λ n hn=>((Gi (Classical.not_not.1 h1)).2.2 n hn).lm
structure apB (l:List aS):Prop where
 ll:∀n∈l,n.bT.length≤1
 dl:∀n∈l,n.fI.length≤100
theorem aht {l:List aS} (h:VE l ms):∀m∈ms,0≤m∧m<l.length:=λ m hm=>by
 obtain ⟨i,hi,rfl⟩:=List.mem_iff_getElem.1 hm;have:=(h i om).1;rwa [List.getD_eq_getElem?_getD,List.getElem?_eq_getElem hi] at this
theorem apC {l:List aS} (h:∀n∈l,∀x∈n.bT,XA b.bS.length x) (hr:∀m∈ms,0≤m∧m<l.length):∀x∈lmM l ms,XA b.bS.length x:=λ x hx=>by
 unfold lmM at hx;obtain ⟨m,hm,hxm⟩:=List.mem_flatMap.1 hx;have:=hr m hm;have hn:m.toNat<l.length:=by omega
 exact h _ (by rw [List.getD_eq_getElem?_getD,List.getElem?_eq_getElem hn]; exact List.getElem_mem hn) x hxm
theorem apD {l:List aS} (h:apB l):∀ {ms:List Int},(∀m∈ms,0≤m∧m<l.length)→(lmM l ms).length≤ms.length:=by
 intro ms;induction ms with
 | nil=>intro _; exact Nat.le_refl _
 | cons m ms ih=>
  intro hr;have h1:=ih λ x hx=>hr x (List.mem_cons_of_mem _ hx);have h2:=hr m List.mem_cons_self;have hn:m.toNat<l.length:=by omega
  have h3:=h.ll (l.getD m.toNat bG) (by rw [List.getD_eq_getElem?_getD,List.getElem?_eq_getElem hn]; exact List.getElem_mem hn);show ((l.getD m.toNat bG).bT++lmM l ms).length≤_;rw [List.length_append,List.length_cons]; omega
theorem anj {w:List aX} (h1:eG l=0) (h2:w.length≤32) (h3:∀x∈w,XA l.length x):nK l w=true:=by
 unfold nK;rw [h1,decide_eq_true om,show w.any (Ka l.length)=false from ?_]
 ·rfl
 ·rw [List.any_eq_false];intro x hx;have:=h3 x hx;rw [Bool.not_eq_true];unfold Ka dP;have a:=this.k0; have b:=this.kl; have c:=this.l0; have d:=this.lh; have e:=this.hi;simp only [Bool.or_eq_false_iff,Bool.not_eq_false',Bool.and_eq_true,decide_eq_true_eq];omega
theorem ahu {l:List aS} (h1:He b) (h2:GSz b.aZ) (h3:Qj l) (hm:ms.length≤20) (hf:Ja f) (ht:Ja t) (hu:f.Uses.length≤100000) (hv:t.Uses.length≤100000) (hnl:apB l):
  W (qo b l f t ms) (ani b l ms f t):=by
 unfold qo;refine aG (alx h1 h2 h3 om hf ht hu hv) λ v1 hv1=>?_;refine bW (λ c=>au ⟨v1,hv1,λ _=>rfl,λ e=>by rw [e] at c; cases c⟩) (λ c=>?_);have e1:v1=0:=by simpa using c
 subst e1;obtain ⟨hd,q1,q2⟩:=hv1.ok;have hr:=aht hd;obtain ⟨ck,vf,cf⟩:=Uq q1 hr (ZY q1);obtain ⟨_,vt,ct⟩:=Uq q2 hr (ZY q2);have b1:=Yt q1;have b2:=Yt q2;obtain ⟨⟨_,r1,r2,r3,r4⟩,_⟩:=b1.sh;obtain ⟨⟨_,s1,s2,s3,s4⟩,_⟩:=b2.sh;have l1:=hf.re;have l2:=h1.su;have l3:=h1.dm;have l4:=h1.cl;have ark:=qy ck;have hsz:=size_le ark;have f1:=ac7 h2 b1.ow;have f2:=ac7 h2 b2.ow;refine aG (VK hu (ac8 b1.ow) f1) λ v2 g2=>?_;refine aG (VK hv (ac8 b2.ow) f2) λ v3 g3=>?_;refine aQ om ?_;have sl:∀v,lG (lnE v f.Released t.Released) f.Released.length≤f.Released.length:=λ v=>by have:=Kr (anX v f.Released t.Released) f.Released.length; omega
 refine aG (P:=λ r=>r.2=0∧r.1.length=lG (lnE 0 f.Released t.Released) f.Released.length) (by
  unfold Eb
  exact aG (aeY om l1) λ v h=>au ⟨rfl,h⟩) λ v4 ⟨a4,n4⟩=>?_
 refine bW (λ c=>by rw [a4] at c; cases c) (λ _=>?_);have m4:=sl 0;refine aQ (by unfold big; omega) ?_;refine wn<|aQ om ?_;refine aG (P:=λ r=>r.2=0∧r.1.length=lG (pnU f.Uses t.Uses) 24) (by
  unfold Ec
  exact aG (ahn (g2.bd f1) (.inl rfl)) λ v h=>au ⟨rfl,h.trans (alz g2 g3 f1 f2 24)⟩) λ v5 ⟨a5,n5⟩=>?_
 refine bW (λ c=>by rw [a5] at c; cases c) (λ _=>?_);have sp:∀U V:List aP,lG (pnU U V) 24≤24:=λ U V=>by have:=Kr (f:=pnU U V) (k:=1) (λ i=>by unfold pnU; split<;>omega) 24; omega
 have m5:=sp f.Uses t.Uses;refine aQ (by unfold big; omega) ?_;refine wn<|aQ om ?_;have su1:Sp.gV b.bI (⟨f.bX.On,f.bX.bJ⟩:bD) (drM l ms)=true:=b1.su;have su2:Sp.gV b.bI (⟨t.bX.On,t.bX.bJ⟩:bD) (drM l ms)=true:=b2.su;refine aG (P:=λ r=>r.2=0∧r.1.length=lG (Qm f.bX t.bX) f.bX.On.length) (by
  unfold Ed
  refine aG (alu om hr hnl.dl) λ v ⟨hv,hvl⟩=>?_
  subst hv
  refine aG (ac5 l2 om su1 su2) λ v ⟨h5,h6⟩=>au ⟨h5,?_⟩
  rw [show f.bX.On.length=b.bI.length by omega]
  exact h6) λ v6 ⟨a6,n6⟩=>?_
 refine bW (λ c=>by rw [a6] at c; cases c) (λ _=>?_);have m6:lG (Qm f.bX t.bX) f.bX.On.length≤2*f.bX.On.length:=Kr (λ i=>by unfold Qm; split<;>split<;>omega) _;have l5:=hf.on;refine aQ (by unfold big; omega) ?_;refine wn<|aQ om ?_;have lml:=apD hnl hr;have lmm:=apC (ZY q1) hr;have cmk:CmK b.bS (lmM l ms):=⟨⟨ck,l4,om,λ x hx=>⟨(lmm x hx).k0,(lmm x hx).kl⟩⟩,h1.ch⟩;refine aG (P:=λ r=>PlR b.bS (lmM l ms) f.Setting t.Setting r) (by
  unfold Eh
  refine aG (aiK om hr (λ n hn=>by have:=hnl.ll n hn; omega)) λ v hv=>?_
  subst hv
  exact aG (ZX cmk om (anj ck om lmm) vf vt cf ct) λ v h=>au h) λ v7 p7=>?_
 refine bW (λ c=>au ⟨0,hv1,λ e=>absurd rfl e,λ _=>⟨v7,p7,λ _=>rfl,λ e=>by rw [e] at c; cases c⟩⟩) (λ c7=>?_);have a7:v7.2=0:=by simpa using c7
 have m7:v7.1.length≤4096:=by
  rcases p7 with ⟨m,_,_,e,h⟩ | ⟨_,_,e⟩
  ·omega
  ·rw [e]; exact Nat.zero_le _
 refine aQ (by unfold big; omega) ?_;refine wn<|aQ om ?_;refine aG (P:=λ r=>r.2=0∧r.1.length=lG (dmE f.cO t.cO) f.cO.length) (by
  unfold Ei
  refine aG (ZU l3 b1.da b1.dm b2.dm) λ v ⟨h5,h6⟩=>au ⟨h5,?_⟩
  rw [show f.cO.length=b.dD.length by omega]
  exact h6) λ v8 ⟨a8,n8⟩=>?_
 refine bW (λ c=>by rw [a8] at c; cases c) (λ _=>?_);have m8:lG (dmE f.cO t.cO) f.cO.length≤1*f.cO.length:=Kr (λ i=>by unfold dmE; split<;>omega) _;have l6:=hf.po;refine aQ (by unfold big; omega) ?_;refine wn<|aQ om ?_;refine aG (P:=λ r=>r.2=0∧r.1.length=lG (pnU t.Uses f.Uses) 24) (by
  unfold Ej
  exact aG (ahn (g3.bd f2) (.inr rfl)) λ v h=>au ⟨rfl,h.trans (alz g3 g2 f2 f1 24)⟩) λ v9 ⟨a9,n9⟩=>?_
 refine bW (λ c=>by rw [a9] at c; cases c) (λ _=>?_);have m9:=sp t.Uses f.Uses;refine aQ (by unfold big; omega) ?_;refine wn<|aQ om ?_;refine aG (P:=λ r=>r.2=0∧r.1.length=lG (lnE 1 f.Released t.Released) f.Released.length) (by
  unfold El
  exact aG (aeY om l1) λ v h=>au ⟨rfl,h⟩) λ v10 ⟨a10,n10⟩=>?_
 refine bW (λ c=>by rw [a10] at c; cases c) (λ _=>?_);have m10:=sl 1;refine aQ (by unfold big; omega) ?_;refine wn ?_;have htot:v4.1.length+v5.1.length+v6.1.length+v7.1.length+v8.1.length+v9.1.length+v10.1.length=ac9 f t+v7.1.length:=by unfold ac9; omega
 rw [htot];refine wi ?_ ?_<;>intro c
 ·exact au ⟨0,hv1,λ e=>absurd rfl e,λ _=>⟨v7,p7,λ e=>absurd a7 e,λ _=>⟨λ _=>rfl,λ e=>by omega⟩⟩⟩
 ·refine au ⟨0,hv1,λ e=>absurd rfl e,λ _=>⟨v7,p7,λ e=>absurd a7 e,λ _=>⟨λ e=>by omega,λ _=>⟨rfl,?_⟩⟩⟩⟩;dsimp only;simp only [List.length_append];exact htot
theorem ani.sym {l:List aS} (hs:∀u,u.gG∈ms→(u∈f.Uses↔u∈t.Uses)) {r r':Int×List aN} (h:ani b l ms f t r) (h':ani b l ms t f r'):r.1=r'.1∧r.2.length=r'.2.length:=by
 obtain ⟨c,a1,a2,a3⟩:=h;obtain ⟨c',b1,b2,b3⟩:=h';have e:=a1.sym hs b1;subst e;by_cases e0:c=0
 ·subst e0;obtain ⟨rt,p1,p2,p3⟩:=a3 rfl;obtain ⟨rt',q1,q2,q3⟩:=b3 rfl;obtain ⟨hd,m1,m2⟩:=a1.ok;have hr:=aht hd;obtain ⟨_,vf,cf⟩:=Uq m1 hr (ZY m1);obtain ⟨_,vt,ct⟩:=Uq m2 hr (ZY m2);obtain ⟨⟨_,x1,x2,x3,x4⟩,_⟩:=(Yt m1).sh;obtain ⟨⟨_,y1,y2,y3,y4⟩,_⟩:=(Yt m2).sh;obtain ⟨s1,s2⟩:=p1.sym vf vt cf ct q1;have ht:=anh (f:=f) (t:=t) om om om;by_cases e1:rt.2=0
  ·obtain ⟨u1,u2⟩:=p3 e1;obtain ⟨w1,w2⟩:=q3 (s1.symm.trans e1);by_cases e2:400<ac9 f t+rt.1.length
   ·rw [u1 e2,w1 om]; exact ⟨rfl,rfl⟩
   ·obtain ⟨z1,z2⟩:=u2 om;obtain ⟨z3,z4⟩:=w2 om;exact ⟨z1.trans z3.symm,om⟩
  ·rw [p2 e1,q2 (λ q=>e1 (s1.trans q))];exact ⟨s1,rfl⟩
 ·rw [a2 e0,b2 e0]; exact ⟨rfl,rfl⟩
theorem ae1:W (bnd wh λ v=>ret v) (λ r=>r=true):=aG (zJ LW) λ _ h=>au h
theorem ada {l:List Int}:W (Pw l) (λ r=>r.1.length≤600∧r.2=0):=by
 unfold Pw;refine aQ (by split<;>omega) (au ⟨?_,rfl⟩);dsimp only;rw [List.length_take];split<;>omega
theorem Qo {t:List Int}:W (yL t) (λ r=>r=true):=by
 unfold yL;refine bW (λ _=>ae1) (λ _=>?_);refine aG ada λ v2 ⟨k1,k2⟩=>?_;refine aG (ZR (by dsimp only; omega) k1) λ v3 hv3=>?_;obtain ⟨w1,w2,w3,w4,w5,w6,w7,w8,w9⟩:=hv3;have hns:Qj v3.2.1:=⟨om,λ n hn=>by have:=w3 n hn; omega⟩;have hgs:GSz v3.1.aZ:=λ g hg=>by have:=w1.gr g hg; omega
 have hnl:apB v3.2.1:=⟨λ n hn=>(w3 n hn).1,λ n hn=>by have:=(w3 n hn).2.1; omega⟩;refine bW (λ _=>ae1) (λ _=>?_);refine aG (ahu (alg w1) hgs hns om w4 w5 om om hnl) λ v5 hv5=>?_;refine aG (ahu (alg w1) hgs hns om w5 w4 om om hnl) λ v6 hv6=>?_;obtain ⟨e1,e2⟩:=hv5.sym w9 hv6;have hc:((v5.1==v6.1)&&((v5.2.length:Int)==(v6.2.length:Int)))=true:=by
  rw [e1,e2]; simp
 rw [hc];refine aG (Vi (xR λ _=>zJ LW) λ _ h=>h rfl) λ v7 hv7=>?_;subst hv7;exact au rfl
def cfg:xE where
 ty:=[(3,⟨1,false,8,[(.int .i64)],(.int .i64)⟩),
 (4,⟨1,false,1,[.bool],.bool⟩),
 (5,⟨1,false,1,[(.int .u8)],(.int .u8)⟩),
 (9,⟨1,false,16,[.str],.str⟩),
 (22,⟨1,false,24,[.slice],(.slice 3)⟩),
 (24,⟨1,false,8,[.ptr],(.pointer 75)⟩),
 (26,⟨1,false,24,[.slice],(.slice 188)⟩),
 (27,⟨1,false,24,[.slice],(.slice 190)⟩),
 (28,⟨1,false,24,[.slice],(.slice 133)⟩),
 (29,⟨2,true,32,[(.int .i64),.slice],(.struct [(0,3),(1,28)])⟩),
 (30,⟨2,true,32,[(.int .i64),.slice],(.struct [(0,3),(1,28)])⟩),
 (31,⟨1,false,24,[.slice],(.slice 67)⟩),
 (32,⟨1,false,24,[.slice],(.slice 195)⟩),
 (33,⟨6,true,128,[.slice,.slice,(.int .i64),.slice,.slice,.slice],(.struct [(0,26),(1,27),(2,30),(4,31),(5,32)])⟩),
 (34,⟨6,true,128,[.slice,.slice,(.int .i64),.slice,.slice,.slice],(.struct [(0,26),(1,27),(2,30),(4,31),(5,32)])⟩),
 (35,⟨1,false,24,[.slice],(.slice 72)⟩),
 (36,⟨1,false,24,[.slice],(.slice 4)⟩),
 (37,⟨2,true,48,[.slice,.slice],(.struct [(0,36),(1,22)])⟩),
 (38,⟨2,true,48,[.slice,.slice],(.struct [(0,36),(1,22)])⟩),
 (39,⟨1,false,24,[.slice],(.slice 65)⟩),
 (40,⟨6,true,144,[.slice,.slice,.slice,.slice,.slice,.slice],(.struct [(0,22),(1,38),(3,39),(4,36),(5,36)])⟩),
 (41,⟨6,true,144,[.slice,.slice,.slice,.slice,.slice,.slice],(.struct [(0,22),(1,38),(3,39),(4,36),(5,36)])⟩),
 (44,⟨1,false,24,[.slice],(.slice 59)⟩),
 (45,⟨1,false,8,[(.int .i64)],(.int .i64)⟩),
 (58,⟨3,true,24,[(.int .i64),(.int .i64),(.int .i64)],(.struct [(0,3),(1,3),(2,3)])⟩),
 (59,⟨3,true,24,[(.int .i64),(.int .i64),(.int .i64)],(.struct [(0,3),(1,3),(2,3)])⟩),
 (62,⟨2,true,16,[(.int .i64),(.int .i64)],(.struct [(0,3),(1,3)])⟩),
 (63,⟨2,true,16,[(.int .i64),(.int .i64)],(.struct [(0,3),(1,3)])⟩),
 (64,⟨3,true,24,[(.int .i64),(.int .i64),(.int .i64)],(.struct [(0,3),(1,63)])⟩),
 (65,⟨3,true,24,[(.int .i64),(.int .i64),(.int .i64)],(.struct [(0,3),(1,63)])⟩),
 (66,⟨1,true,24,[.slice],(.struct [(0,22)])⟩),
 (67,⟨1,true,24,[.slice],(.struct [(0,22)])⟩),
 (68,⟨1,false,24,[.slice],(.slice 117)⟩),
 (69,⟨1,false,24,[.slice],(.slice 120)⟩),
 (70,⟨1,false,24,[.slice],(.slice 9)⟩),
 (71,⟨6,true,128,[.slice,.slice,.slice,.slice,(.int .i64),.slice],(.struct [(0,68),(1,69),(2,70),(3,22),(4,3),(5,22)])⟩),
 (72,⟨6,true,128,[.slice,.slice,.slice,.slice,(.int .i64),.slice],(.struct [(0,68),(1,69),(2,70),(3,22),(4,3),(5,22)])⟩),
 (74,⟨2,true,32,[.slice,(.int .i64)],(.struct [(0,22),(1,3)])⟩),
 (75,⟨2,true,32,[.slice,(.int .i64)],(.struct [(0,22),(1,3)])⟩),
 (86,⟨1,false,8,[.other],(.map 3 3)⟩),
 (89,⟨1,false,8,[.other],.other⟩),
 (90,⟨1,false,8,[.other],.other⟩),
 (91,⟨1,false,8,[.other],.other⟩),
 (97,⟨1,false,24,[.slice],(.slice 91)⟩),
 (116,⟨3,true,24,[(.int .i64),(.int .i64),(.int .i64)],(.struct [(0,3),(1,3),(2,3)])⟩),
 (117,⟨3,true,24,[(.int .i64),(.int .i64),(.int .i64)],(.struct [(0,3),(1,3),(2,3)])⟩),
 (119,⟨4,true,32,[(.int .i64),(.int .i64),(.int .i64),(.int .i64)],(.struct [(0,3),(1,3),(2,3),(3,3)])⟩),
 (120,⟨4,true,32,[(.int .i64),(.int .i64),(.int .i64),(.int .i64)],(.struct [(0,3),(1,3),(2,3),(3,3)])⟩),
 (132,⟨3,true,64,[.str,.slice,.slice],(.struct [(0,9),(1,22),(2,70)])⟩),
 (133,⟨3,true,64,[.str,.slice,.slice],(.struct [(0,9),(1,22),(2,70)])⟩),
 (140,⟨1,false,8,[.ptr],(.pointer 143)⟩),
 (142,⟨3,true,72,[.slice,.slice,.slice],(.struct [(0,38),(2,44)])⟩),
 (143,⟨3,true,72,[.slice,.slice,.slice],(.struct [(0,38),(2,44)])⟩),
 (147,⟨1,false,8,[.other],.other⟩),
 (148,⟨1,false,8,[.other],(.map 3 4)⟩),
 (149,⟨3,true,56,[.slice,.slice,.other],(.struct [(0,26),(1,68),(2,148)])⟩),
 (150,⟨3,true,56,[.slice,.slice,.other],(.struct [(0,26),(1,68),(2,148)])⟩),
 (156,⟨1,false,8,[.other],.other⟩),
 (158,⟨1,false,8,[.other],.other⟩),
 (161,⟨15,true,328,[.slice,.slice,(.int .i64),.slice,.slice,.slice,.slice,.slice,.slice,.slice,.slice,.slice,.slice,.slice,.bool],(.struct [(0,34),(6,35),(7,22),(8,41),(14,4)])⟩),
 (162,⟨15,true,328,[.slice,.slice,(.int .i64),.slice,.slice,.slice,.slice,.slice,.slice,.slice,.slice,.slice,.slice,.slice,.bool],(.struct [(0,34),(6,35),(7,22),(8,41),(14,4)])⟩),
 (165,⟨1,false,8,[.ptr],(.pointer 41)⟩),
 (172,⟨1,false,24,[.slice],(.slice 63)⟩),
 (177,⟨1,false,8,[.other],(.map 63 4)⟩),
 (179,⟨1,false,8,[.other],.other⟩),
 (187,⟨5,true,72,[(.int .i64),.slice,.slice,(.int .i64),(.int .i64)],(.struct [(0,3),(1,22),(2,22),(3,3),(4,3)])⟩),
 (188,⟨5,true,72,[(.int .i64),.slice,.slice,(.int .i64),(.int .i64)],(.struct [(0,3),(1,22),(2,22),(3,3),(4,3)])⟩),
 (189,⟨5,true,56,[(.int .i64),.slice,(.int .i64),(.int .i64),.bool],(.struct [(0,3),(1,22),(2,3),(3,3),(4,4)])⟩),
 (190,⟨5,true,56,[(.int .i64),.slice,(.int .i64),(.int .i64),.bool],(.struct [(0,3),(1,22),(2,3),(3,3),(4,4)])⟩),
 (191,⟨1,false,24,[.slice],(.slice 22)⟩),
 (192,⟨1,false,24,[.slice],(.slice 5)⟩),
 (194,⟨2,true,16,[(.int .i64),.bool],(.struct [(0,3),(1,4)])⟩),
 (195,⟨2,true,16,[(.int .i64),.bool],(.struct [(0,3),(1,4)])⟩),
 (210,⟨1,false,24,[.slice],(.slice 38)⟩),
 (212,⟨1,false,8,[.other],.other⟩),
 (215,⟨1,false,8,[.other],.other⟩),
 (224,⟨1,false,8,[.other],.other⟩),
 (226,⟨1,false,8,[.other],.other⟩),
 (227,⟨1,false,24,[.slice],(.slice 226)⟩),
 (235,⟨1,false,24,[.slice],(.slice 240)⟩),
 (239,⟨2,true,16,[(.int .i64),(.int .i64)],(.struct [(0,3),(1,3)])⟩),
 (240,⟨2,true,16,[(.int .i64),(.int .i64)],(.struct [(0,3),(1,3)])⟩),
 (256,⟨1,false,8,[.other],.other⟩),
 (264,⟨1,false,8,[.other],.other⟩),
 (267,⟨1,false,8,[.other],.other⟩),
 (271,⟨1,false,8,[.other],(.map 9 3)⟩),
 (280,⟨1,false,8,[.other],(.map 9 4)⟩),
 (287,⟨64,true,512,[(.int .i64),(.int .i64),(.int .i64),(.int .i64),(.int .i64),(.int .i64),(.int .i64),(.int .i64),(.int .i64),(.int .i64),(.int .i64),(.int .i64),(.int .i64),(.int .i64),(.int .i64),(.int .i64),(.int .i64),(.int .i64),(.int .i64),(.int .i64),(.int .i64),(.int .i64),(.int .i64),(.int .i64),(.int .i64),(.int .i64),(.int .i64),(.int .i64),(.int .i64),(.int .i64),(.int .i64),(.int .i64),(.int .i64),(.int .i64),(.int .i64),(.int .i64),(.int .i64),(.int .i64),(.int .i64),(.int .i64),(.int .i64),(.int .i64),(.int .i64),(.int .i64),(.int .i64),(.int .i64),(.int .i64),(.int .i64),(.int .i64),(.int .i64),(.int .i64),(.int .i64),(.int .i64),(.int .i64),(.int .i64),(.int .i64),(.int .i64),(.int .i64),(.int .i64),(.int .i64),(.int .i64),(.int .i64),(.int .i64),(.int .i64)],(.array 64 3)⟩),
 (288,⟨64,true,512,[(.int .i64),(.int .i64),(.int .i64),(.int .i64),(.int .i64),(.int .i64),(.int .i64),(.int .i64),(.int .i64),(.int .i64),(.int .i64),(.int .i64),(.int .i64),(.int .i64),(.int .i64),(.int .i64),(.int .i64),(.int .i64),(.int .i64),(.int .i64),(.int .i64),(.int .i64),(.int .i64),(.int .i64),(.int .i64),(.int .i64),(.int .i64),(.int .i64),(.int .i64),(.int .i64),(.int .i64),(.int .i64),(.int .i64),(.int .i64),(.int .i64),(.int .i64),(.int .i64),(.int .i64),(.int .i64),(.int .i64),(.int .i64),(.int .i64),(.int .i64),(.int .i64),(.int .i64),(.int .i64),(.int .i64),(.int .i64),(.int .i64),(.int .i64),(.int .i64),(.int .i64),(.int .i64),(.int .i64),(.int .i64),(.int .i64),(.int .i64),(.int .i64),(.int .i64),(.int .i64),(.int .i64),(.int .i64),(.int .i64),(.int .i64)],(.array 64 3)⟩),
 (297,⟨1,false,8,[.other],.other⟩)]
 eqs:=[(59,[(.int .i64),(.int .i64),(.int .i64)]),(63,[(.int .i64),(.int .i64)]),(65,[(.int .i64),(.int .i64),(.int .i64)]),(240,[(.int .i64),(.int .i64)])]
 fns:=[(8,⟨[],true⟩),(9,⟨[0],true⟩),(10,⟨[],true⟩),(12,⟨[],true⟩),(13,⟨[2],true⟩),(14,⟨[],true⟩),(15,⟨[2],true⟩),(17,⟨[4],true⟩),(18,⟨[],true⟩),(21,⟨[0],true⟩),(22,⟨[0],true⟩),(23,⟨[],true⟩),(24,⟨[2],true⟩),(25,⟨[0],false⟩),(26,⟨[],true⟩),(27,⟨[],true⟩),(30,⟨[],true⟩),(31,⟨[],true⟩),(32,⟨[0],false⟩),(33,⟨[0,1],true⟩),(34,⟨[0],true⟩),(35,⟨[0,1,2],true⟩),(36,⟨[],true⟩),(37,⟨[],true⟩),(38,⟨[],true⟩),(39,⟨[],true⟩),(40,⟨[1,2],true⟩),(41,⟨[],true⟩),(42,⟨[],true⟩),(43,⟨[],true⟩),(44,⟨[0,1,2],true⟩),(45,⟨[0],true⟩),(46,⟨[],true⟩),(50,⟨[2],true⟩),(58,⟨[],true⟩),(59,⟨[1],true⟩),(60,⟨[],true⟩),(61,⟨[1],true⟩),(62,⟨[],true⟩),(63,⟨[],true⟩),(68,⟨[0],true⟩),(69,⟨[0],true⟩),(70,⟨[0],true⟩),(71,⟨[0],true⟩),(72,⟨[0],true⟩),(73,⟨[0],false⟩),(74,⟨[0],false⟩),(75,⟨[0],false⟩),(76,⟨[0],true⟩),(77,⟨[0],true⟩),(78,⟨[2],true⟩),(80,⟨[1],true⟩),(81,⟨[],true⟩),(82,⟨[],true⟩),(92,⟨[],true⟩),(93,⟨[],true⟩),(94,⟨[0],false⟩),(95,⟨[0],false⟩),(96,⟨[],true⟩),(97,⟨[],true⟩),(98,⟨[1,2],true⟩),(99,⟨[0],true⟩),(101,⟨[0,2],false⟩),(102,⟨[2,3,4,5],false⟩),(103,⟨[],true⟩),(104,⟨[],true⟩),(108,⟨[],true⟩),(110,⟨[0],false⟩),(117,⟨[],true⟩),(118,⟨[],true⟩),(122,⟨[],true⟩),(129,⟨[],true⟩),(130,⟨[],true⟩),(132,⟨[],true⟩),(135,⟨[],true⟩),(137,⟨[0],false⟩),(138,⟨[],true⟩),(139,⟨[0],false⟩),(141,⟨[],true⟩),(142,⟨[],true⟩),(143,⟨[],true⟩),(144,⟨[],true⟩),(146,⟨[],true⟩),(159,⟨[],true⟩),(160,⟨[],true⟩),(162,⟨[],true⟩),(163,⟨[0],true⟩),(167,⟨[1],false⟩),(168,⟨[2,3],false⟩),(169,⟨[0],true⟩),(170,⟨[0],false⟩),(172,⟨[],true⟩),(173,⟨[],true⟩),(182,⟨[0],false⟩),(183,⟨[0],false⟩),(186,⟨[0],true⟩),(193,⟨[],true⟩),(201,⟨[],true⟩),(203,⟨[],true⟩),(205,⟨[],true⟩),(211,⟨[],true⟩),(221,⟨[],true⟩),(229,⟨[1],true⟩),(232,⟨[1],false⟩),(233,⟨[],true⟩),(240,⟨[],true⟩),(246,⟨[],true⟩),(248,⟨[],true⟩),(257,⟨[1],true⟩),(286,⟨[0],false⟩),(287,⟨[0],false⟩),(288,⟨[0],false⟩),(289,⟨[0],false⟩),(290,⟨[0],false⟩),(293,⟨[0],false⟩)]
 glob:=[(0,[iV (0:Int),iV (1:Int)])]
theorem gZ:iE Tryz.prog cfg:=ajZ (by kernel_rfl) (by kernel_rfl) (by kernel_rfl)
abbrev S:=Ab.Spec Tryz.prog cfg
open Go.Ab Go.RowKit Go.Shelf
attribute [local go_sem] Oper.semAt_some
set_option maxRecDepth 100000 in
set_option maxHeartbeats 2000000 in
theorem ank (F:Fence) (n:Nat) (h7:F.fn 252) (hro:F.round=none) (hn:1≤n) (l B O b off len cap:Nat) (hlen:len≤1000000) (Keep:World→Prop)
  (c0 c1 c2 c3 c4:Nat→Value) (v1:Nat→Value) (hv:∀i,v1 i=.agg #[c0 i,c1 i,c2 i,c3 i,c4 i])
  (hB:∀w,Keep w→w.cell? ⟨B,O,none⟩=some (.slice (some ⟨b,off,none⟩) len cap))
  (h0:∀w i,Keep w→i<len→w.cell? ⟨b,off+i*5,none⟩=some (c0 i)) (h1:∀w i,Keep w→i<len→w.cell? ⟨b,off+i*5+1,none⟩=some (c1 i)) (h2:∀w i,Keep w→i<len→w.cell? ⟨b,off+i*5+2,none⟩=some (c2 i))
  (h3:∀w i,Keep w→i<len→w.cell? ⟨b,off+i*5+3,none⟩=some (c3 i)) (h4:∀w i,Keep w→i<len→w.cell? ⟨b,off+i*5+4,none⟩=some (c4 i))
  (J:Nat→World→Prop) (Jx:World→Prop)
  (hY:∀k W,k<len→J k W→YieldAt F (n - 1) Tryz.prog l #[.int .i64 ((len - 1 - k:Nat):Int),v1 (len - 1 - k)] W λ e W'=>
    (e=.returned (.bool true)∧J (k+1) W'∧Keep W')∨(e=.returned (.bool false)∧Jx W'))
  (W:World) (hW:Keep W) (hJ:J 0 W):
  CallsIn F n Tryz.prog 252 #[.func (.yield l) #[] #[],.pointer (some ⟨B,O,none⟩)] W λ e W'=>(∃v,e=.returned v)∧(J len W'∨Jx W'):=by
 refine callsIn_of_wp Tryz.func252 rfl h7 ?_ hro;simp only [Tryz.ntmps252,List.size_toArray,List.length_cons,List.length_nil,Nat.reduceAdd,Nat.reduceSub,Array.replicate_succ,Array.replicate_zero,List.push_toArray,List.append_toArray,List.nil_append,List.cons_append];have hB0:=hB W hW;gi_wp2;gi_loopw [3] (λ i wr=>∃k:Nat,k≤len∧i=.int .i64 ((len:Int) - 1 - k)∧J k wr∧Keep wr)
  (λ i _=>(intOf i+1).toNat)
 case atStart=>exact ⟨0,Nat.zero_le _,by simp,hJ,hW⟩
 case round=>
  obtain ⟨k,hk,rfl,hJs,hkp⟩:=hrel
  by_cases hlt:k<len
  ·obtain ⟨fn,tmps,assign,body,hy,hR⟩:=hY k wr hlt hJs
   have hBr:=hB wr hkp
   obtain ⟨i,hi⟩:∃i:Nat,i=len - 1 - k:=⟨_,rfl⟩
   rw [← hi] at hy
   have hil:i<len:=by omega
   have hii:((len:Int) - 1 - k)=(i:Int):=by omega
   rw [hii]
   have e0:=h0 wr i hkp hil
   have e1:=h1 wr i hkp hil
   have e2:=h2 wr i hkp hil
   have e3:=h3 wr i hkp hil
   have e4:=h4 wr i hkp hil
   rw [hv] at hy
   have A:Aside (i+k+1=len):=by show i+k+1=len; omega
   have hi0:¬ ((i:Int)<0):=by omega
   have hi1:0≤(i:Int):=by omega
   clear hi hii hlt hk
   gi_wp2
   refine hR.mono ?_
   rintro e W3 (⟨rfl,hJ3,hk3⟩ | ⟨rfl,hJx3⟩)
   ·have A':=A.out
    gi_wp2
    go_roundw
    case rel=>exact ⟨k+1,by omega,by have:=A'; simp; omega,hJ3,hk3⟩
    case measure=>simp [intOf]
   ·gi_wp2
    refine bodyPost_ret (results_none rfl _ _ _) rfl ?_
    exact ⟨⟨_,rfl⟩,.inr hJx3⟩
  ·obtain rfl:k=len:=by omega
   have hneg:((k:Int) - 1 - k) = -1:=by omega
   rw [hneg]
   gi_wp2
   go_end0
   exact ⟨⟨_,rfl⟩,.inl hJs⟩
set_option maxRecDepth 100000 in
set_option maxHeartbeats 2000000 in
theorem ae2 (F:Fence) (n:Nat) (h7:F.fn 252) (hro:F.round=none) (l B O cap:Nat) (a:Option Addr) (J:World→Prop) (W:World) (hB:W.cell? ⟨B,O,none⟩=some (.slice a 0 cap)) (hJ:J W):
  CallsIn F n Tryz.prog 252 #[.func (.yield l) #[] #[],.pointer (some ⟨B,O,none⟩)] W λ e W'=>(∃v,e=.returned v)∧J W':=by
 refine callsIn_of_wp Tryz.func252 rfl h7 ?_ hro;simp only [Tryz.ntmps252,List.size_toArray,List.length_cons,List.length_nil,Nat.reduceAdd,Nat.reduceSub,Array.replicate_succ,Array.replicate_zero,List.push_toArray,List.append_toArray,List.nil_append,List.cons_append];gi_wp2;gi_loopw [3] (λ i wr=>i=.int .i64 (-1)∧J wr) (λ _ _=>0);case atStart=>exact ⟨by simp,hJ⟩
 case round=>
  obtain ⟨rfl,hJs⟩:=hrel
  gi_wp2
  go_end0
  exact ⟨⟨_,rfl⟩,hJs⟩
theorem RP {n':Nat} {P:Program} {f:FuncId} {args:Array Value} {w:World} {R:Ending→World→Prop} (h:CallsIn (FW none) n P f args w R):CallsIn (FW none) n' P f args w R:=
 ⟨h.1,λ cs _=>h.2 cs (λ _ hd=>by cases hd)⟩
theorem abE (l:List aF) (hl:l.length≤1000000):Y7 Tryz.prog 252 [.ro [aV l]] l.length (λ k=>iV ((l.length - 1 - k:Nat):Int)) (λ k=>Fw (l.getD (l.length - 1 - k) aC)):=by
 refine ⟨enters_of Tryz.func252 (by kernel_rfl) rfl,λ w I lb hI hlb hp=>?_⟩;have h0:=hp 0 (by simp);have arl:lb=#[lb.getD 0 Go.undef]:=by
  have:lb.size=1:=hlb;apply Array.ext
  ·simp [this]
  ·intro i h1 h2;have:i=0:=by omega
   subst this;simp [h1]
 rw [arl];generalize lb.getD 0 Go.undef=x at h0;clear arl hp hlb;cases h0 with
 | ro B O vs hIB hm hr=>
  have hs:=hr 0 (by simp);have hm0:=hm 0 (by simp);have hs:iF w I (aV l) (vs 0):=hs;generalize vs 0=sv at hs hm0;cases hs with
  | @sl _ _ _ _ a cap b off cs hcap _ ha hes hcm h1 hcr=>
   by_cases hz:l.length=0
   ·refine ⟨λ _=>.bool true,λ _=>.bool true,λ k hk=>absurd hk om,λ y n J Jx W hW hY hJ=>?_⟩;have hBc:W.cell? ⟨B,O,none⟩=some (.slice a 0 cap):=by
     rw [cell?_of_heap (w:=w) (hW B hIB),← hz];exact hm0
    rw [hz];exact (ae2 (FW none) n trivial rfl y B O cap a (λ W=>J 0 W) W hBc hJ).mono λ e W' ⟨h1,h2⟩=>⟨h1,.inl h2⟩
   ·obtain ⟨ha1,Yh⟩:=ha hz;subst ha1;refine ⟨λ k=>.int .i64 ((l.length - 1 - k:Nat):Int),λ k=>.agg #[cs (l.length - 1 - k) 0,cs (l.length - 1 - k) 1,cs (l.length - 1 - k) 2,cs (l.length - 1 - k) 3,cs (l.length - 1 - k) 4],λ k hk=>⟨.int _ _,?_⟩,λ y n J Jx W hW hY hJ=>?_⟩
    ·refine .agg rfl λ j hj=>?_;have hj:j<5:=hj;have:=hcr (l.length - 1 - k) j om hj;have e:nth (Fw (l.getD (l.length - 1 - k) aC)).cells j=nth [iV (l.getD (l.length - 1 - k) aC).bf,aj0 (l.getD (l.length - 1 - k) aC).dB,iV (l.getD (l.length - 1 - k) aC).iB,iV (l.getD (l.length - 1 - k) aC).jo,.bool (l.getD (l.length - 1 - k) aC).iy] j:=rfl;rcases (by omega:j=0∨j=1∨j=2∨j=3∨j=4) with rfl | rfl | rfl | rfl | rfl<;>exact this
    ·have key:∀W':World,(∀b,I b→W'.heap[b]? = w.heap[b]?)→∀i j,i<l.length→j<5→W'.cell? ⟨b,off+(i*5+j),none⟩=some (cs i j):=λ W' hW' i j hi hj=>by
      rw [cell?_of_heap (w:=w) (hW' b Yh)];exact hcm i j hi hj
     refine RP (ank (FW none) (n+1) trivial rfl om y B O b off l.length cap hl (λ W':World=>∀b,I b→W'.heap[b]? = w.heap[b]?) (λ i=>cs i 0) (λ i=>cs i 1) (λ i=>cs i 2) (λ i=>cs i 3) (λ i=>cs i 4) (λ i=>.agg #[cs i 0,cs i 1,cs i 2,cs i 3,cs i 4]) (λ _=>rfl)
      (λ W' hW'=>by rw [cell?_of_heap (w:=w) (hW' B hIB)]; exact hm0) (λ W' i h hi=>key W' h i 0 hi om) (λ W' i h hi=>key W' h i 1 hi om) (λ W' i h hi=>key W' h i 2 hi om) (λ W' i h hi=>key W' h i 3 hi om) (λ W' i h hi=>key W' h i 4 hi om)
      (λ k W1=>J k W1∧∀b,I b→W1.heap[b]? = w.heap[b]?) Jx ?_ W hW ⟨hJ,hW⟩ |>.mono ?_)
     ·rintro k W1 hk ⟨hJ1,hW1⟩;obtain ⟨fn,tmps,assign,body,hy,hR⟩:=hY k W1 hk hJ1;refine ⟨fn,tmps,assign,body,hy,hR.mono ?_⟩;rintro e W' (⟨rfl,h2,h3⟩ | ⟨rfl,h2⟩)
      ·have hW':∀b,I b→W'.heap[b]? = w.heap[b]? := λ b hb=>(h3 b hb).trans (hW1 b hb);exact .inl ⟨rfl,⟨h2,hW'⟩,hW'⟩
      ·exact .inr ⟨rfl,h2⟩
     ·rintro e W' ⟨h1,⟨h2,_⟩ | h2⟩
      ·exact ⟨h1,.inl h2⟩
      ·exact ⟨h1,.inr h2⟩
theorem aaS (l:List aF):S 221 [aV l] [] (.fn 252 [.ro [aV l]]) []:=by
 refine ahZ (ct:=[]) gZ Tryz.func221 rfl rfl (Nat.le_of_ble_eq_true rfl) (by decide +kernel) (Nat.zero_le _) ?_;conv=>whnf
 exact ⟨⟨rfl,U1.refl _,trivial⟩,trivial⟩
open Go.ChangeShapes Go.WideShapes Go.ChangeAt Go.RowKit
theorem own:ownKnob Tryz.prog.godebug=none:=by kernel_rfl
theorem laidOut:laidOutB Tryz.prog=true:=by kernel_rfl
theorem au9:Tryz.prog.globalNamed "bringup/clock.off" = some 0:=by kernel_rfl
theorem ava:(Tryz.prog.globals[0]?).map (·.type)=some 240:=by kernel_rfl
theorem anl:Tryz.prog.cellsOf 240=2:=by kernel_rfl
theorem cells3:Tryz.prog.cellsOf 3=1:=by kernel_rfl
abbrev alA:List (String×DataW Unit):=[("bringup/clock.off", Rows.laid_bringup_clock_off)]
variable {W:World}
theorem anm (h:laidMetH Tryz.prog alA W):W.cell? ⟨0,0,none⟩=some (.int .i64 0)∧W.cell? ⟨0,1,none⟩=some (.int .i64 1):=by
 rw [MakeChecks.laidMetH_plain _ _ _ (by kernel_rfl)] at h;obtain ⟨ps,⟨g0,t0,cs0,f0,p0,q0,hg0,ht0,hv0,hd0,_⟩,_,_⟩:=h;obtain rfl:=Option.some.inj (au9.symm.trans hg0);obtain rfl:=Option.some.inj (ava.symm.trans ht0);obtain ⟨y0,y1,n,hx,hl,h0,h1⟩:=trod_struct2 Tryz.underlying240 hd0;rw [anl] at hl;simp only [Prod.mk.injEq,Rows.laid_bringup_clock_off,DataW.agg.injEq,List.cons.injEq] at hx;obtain ⟨k0,e1,e2,_⟩:=DataW.trod_int Tryz.underlying3 h0;obtain ⟨k1,e3,e4,_⟩:=DataW.trod_int Tryz.underlying3 h1;have hk0:k0=0:=by have:=hx.1.1; rw [e2] at this; simpa using this.symm
 have hk1:k1=1:=by have:=hx.1.2.1; rw [e4] at this; simpa using this.symm
 subst hk0; subst hk1;have c0:=World.var?_cell hg0 hv0 0;have c1:=World.var?_cell hg0 hv0 1;obtain ⟨l⟩:=cs0;match l,hl with
 | [a,b],_=>
  rw [cells3] at e1 e3
  simp at e1 e3
  subst e1; subst e3
  exact ⟨by simpa using c0,by simpa using c1⟩
def Old (W:World):Nat→Prop:=λ b=>b<W.heap.size
theorem avb (h:laidMetH Tryz.prog alA W):Rel cfg (L9 W (Old W) (λ _=>none) 0) (hof []) (λ o=>o<0) W (Old W) (λ _=>none):=by
 obtain ⟨h0,h1⟩:=anm h;exact {
  dom:=λ o=>by simp [hof]
  used:=λ o p h=>by cases h
  objs:=λ o ob p _ h=>by cases h
  inj:=λ o o' p p' b bo sz b' o8 sz' h=>by cases h
  qH:=λ o p b bo sz h=>by cases h
  lt:=λ o p b bo sz h=>by cases h
  Bz:=λ b h=>h
  size:=Nat.le_refl _
  frame:=λ _ _ _=>rfl
  new:=λ o p b bo sz h=>by cases h
  glob:=λ g cs hg=>by
   have e:g=0∧cs=[.int .i64 0,.int .i64 1]:=by
    unfold cfg at hg
    simp only [Ab.look] at hg
    cases hb:Nat.beq 0 g with
    | true=>
     rw [hb] at hg
     have:=Nat.eq_of_beq_eq_true hb
     simp at hg
     exact ⟨this.symm,hg.symm⟩
    | false=>rw [hb] at hg; cases hg
   obtain ⟨rfl,rfl⟩:=e
   refine .ro 0 0 (λ j=>match j with | 0=>.int .i64 0 | _=>.int .i64 1) (World.block_lt_of_cell? _ _ h0) (λ j hj=>?_) (λ j hj=>?_)
   ·match j,hj with
    | 0,_=>exact h0
    | 1,_=>exact h1
   ·match j,hj with
    | 0,_=>exact .int _ _
    | 1,_=>exact .int _ _
  SG:=λ _ h=>h
  U4:=λ _ h=>.inl h
  Yf:=λ _ _=>.inl rfl
  Dm:=λ _ h=>h
  env:=⟨iG.refl _,λ _ _ h=>h.elim⟩ }
variable {args:List AV}
theorem ano {f:FuncId} {vals:Array Value} (hs:S f args [] (.bool true) []) (hL:laidMetH Tryz.prog alA W) (hl:vals.size=args.length) (hr:∀j,j<args.length→iF W (Old W) (nth args j) (vals.getD j Go.undef)):
  Calls Tryz.prog f vals W λ e W'=>e=.returned (.bool true)∧Below W.heap.size W W':=by
 obtain ⟨_,_,hc⟩:=hs;refine (hc W (Old W) (λ _=>none) vals (avb hL) hl (λ j hj=>.pure (hr j hj))).mono λ e W' h=>?_;obtain ⟨x,I',O',rfl,hR,hx⟩:=h;have hb:x=.bool true:=hx.lW;subst hb;refine ⟨rfl,⟨hR.env.same.os,hR.env.same.tape,hR.env.same.output,hR.size,λ k hk=>hR.frame k hk ?_⟩⟩;rintro ⟨o,p,bo,sz,h,_⟩;cases h
theorem agt {H:Type} {enc:TypeId×Value→H} {v:Value} {d:DataW H} {ps:List MemPlace} {base:Nat} (hv:Value.okWide Tryz.prog W .any base 22 v) (h:DataW.Trod enc Tryz.prog W 0 (λ _=>true) true 22 v d ps):∃l:List Int,I64 l∧iF W (Old W) (av l) v:=by
 obtain ⟨a0,len,cap,rfl⟩:=okWide_slice Tryz.underlying22 hv;obtain ⟨fuel,hf⟩:=h;rcases open_ints Tryz.underlying22 Tryz.underlying3 cells3 hf with ⟨hcs,hx⟩ | ⟨a,len',cap',zs,hcs,_,hl,hm,hz,hx,hcell,hwz⟩
 ·simp [Value.cells] at hcs;obtain ⟨rfl,rfl,rfl⟩:=hcs;refine ⟨[],(λ x hx=>by cases hx),?_⟩;exact .sl 0 0 (λ _ _=>Go.undef) (Nat.le_refl _) nofun (λ h=>absurd rfl h) (λ i hi=>by cases hi) (λ i j hi=>by cases hi) (λ i j hi=>by cases hi) (λ i j hi=>by cases hi)
 ·simp [Value.cells] at hcs;obtain ⟨rfl,rfl,rfl⟩:=hcs;simp only [if_true] at hz;refine ⟨zs.take len,λ x hx=>?_,?_⟩
  ·have:=hwz x (List.mem_of_mem_take hx);simp only [Lit.wf,Bool.and_eq_true,decide_eq_true_eq] at this;exact this
  ·have hlen:(zs.take len).length=len:=by simp; omega
   unfold av aj0;rw [hlen];refine .sl a.block a.off (λ i _=>.int .i64 (zs.getD i 0)) hl nofun (λ hn=>?_) (λ i hi=>rfl) (λ i j hi hj=>?_) (λ i j hi hj=>rfl) (λ i j hi hj=>?_)
   ·have h0:=hcell 0 om;have hsp:=World.cell?_spot h0;have e:a.add 0=a:=by simp [Addr.add]
    rw [e] at hsp h0;refine ⟨by cases a; simp at hsp; subst hsp; rfl,World.block_lt_of_cell? _ _ h0⟩
   ·have hj0:j=0:=by omega
    subst hj0;have h0:=hcell 0 om;have hsp:=World.cell?_spot h0;have e:a.add 0=a:=by simp [Addr.add]
    rw [e] at hsp;have hi':=hcell i om;have e2:a.add i=⟨a.block,a.off+(i*1+0),none⟩:=by
     obtain ⟨b,off,sp⟩:=a;simp at hsp;subst hsp;rw [Addr.add_mid];simp
    rw [e2] at hi';exact hi'
   ·have hj0:j=0:=by omega
    subst hj0;have e:nth (bC iV 0 (zs.take len) i).cells 0=iV (zs.getD i 0):=by
     show iV ((zs.take len).getD i 0)=_;rw [getD_take zs 0 hi]
    rw [e];exact .int _ _
variable {p:Prop}
theorem z (h:p:=by
 repeat' first
  | with_reducible exact trivial
  | with_reducible exact rfl
  | with_reducible refine And.intro ?_ ?_
  | ((conv=>whnf); first
   | with_reducible refine And.intro ?_ ?_
   | with_reducible refine Emb.mk ?_ ?_ ?_
   | with_reducible exact trivial)
  | exact rfl
  | exact λ _ _=>Le.refl _
  | exact λ _=>rfl
  | exact id
  | exact λ h=>Bool.noConfusion h
  | exact Le.refl _
  | exact U1.refl _
  | exact λ h=>absurd rfl h
  | exact λ _ h=>absurd h (Nat.not_lt_zero _)
  | exact Y8 (.refl _) rfl (Nat.lt_of_sub_pos (by exact Nat.zero_lt_succ _))
  | omega
  | (simp [j5]; done)
  | (simp [j5]; omega)
  | (simp [j5,SX]; done)
  | (simp [j5,SX]; omega)
  | refine rR ?_ ?_ ?_
  | refine iL ?_ ?_ ?_ ?_
  | exact amm (λ _ _=>Le.refl _) (Le.refl _)
  | exact abf (λ _=>rfl)
  | exact lX om
  | exact fM _ _ _
  | exact aj6 _ _
  | refine Ii ?_ ?_
  | refine Le.y9 ?_
  | refine Le.sl ?_ ?_ ?_ ?_):p:=h
theorem dk (h:p:=by decide +kernel):p:=h
theorem oz (h:p:=by first | omega | (simp [j5]; done) | (simp [j5]; omega)):p:=h
theorem sr {es:Nat} {f:Bool} {g:Nat→AV}:n=n∧(n≠0→es=es)∧(f=true→f=true)∧∀i,i<n→Le (g i) (g i):=⟨rfl,λ _=>rfl,id,λ _ _=>.refl _⟩
theorem sf {es:Nat} {f:Bool} {g:Nat→AV}:n=n∧(n≠0→es=es)∧(false=true→f=true)∧∀i,i<n→Le (g i) (g i):=⟨rfl,λ _=>rfl,nofun,λ _ _=>.refl _⟩
variable {A:Type} {B:Type} {C:Type}
theorem r4 {D:Type} {a:A} {b:B} {c:C} {d:D}:a=a∧b=b∧c=c∧d=d:=⟨rfl,rfl,rfl,rfl⟩
theorem r2 {a:A} {b:B}:a=a∧b=b:=⟨rfl,rfl⟩
theorem sn {R:Type} {d:Decidable p} {m:M R} {r:R} {K:Prop} (hm:need p m r) (h:p→m r→K):p∧K:=⟨hm.1,h hm.1 hm.2⟩
theorem sq {A R B C : Type} {m : M A} {k : A → M R} {r : R} {p K : B → C → Prop} {a : A → B} {b : A → C} (hm : bnd m k r) (F : ∀ {v}, m v → p (a v) (b v)) (h : ∀ v, k v r → K (a v) (b v)) : ∃ a b, p a b ∧ K a b := dh hm λ v hv hm => ⟨a v, b v, F hv, h v hm⟩
theorem s2 {R:Type} {q:Prop} {d:Decidable p} {d2:Decidable q} {m:M R} {r:R} {K:Prop} (hm:need p (need q m) r) (h:p→q→m r→K):p∧q∧K:=⟨hm.1,hm.2.1,h hm.1 hm.2.1 hm.2.2⟩
theorem si {R:Type} {c:Bool} {x y:M R} {r:R} {A B:Prop} (hm:(cond c x y) r) (h1:c=true→x r→A) (h2:c=false→y r→B):YC c A B:=fQ hm h1 h2
theorem sb {R:Type} {m:M A} {k:A→M R} {r:R} {G:Prop} (hm:bnd m k r) (h:∀v,m v→k v r→G):G:=dh hm h
theorem cl {p K:A→B→Prop} {a:A} {b:B} (h:p a b) (k:K a b):∃a b,p a b∧K a b:=⟨a,b,h,k⟩
theorem re {P:List A→List B→Prop} (h:P [] []:=by exact z):∃a b,P a b:=⟨_,_,h⟩
theorem rt {P:A→B→Prop} (a:A) (b:B) (h:P a b:=by exact z):∃a b,P a b:=⟨_,_,h⟩
theorem lc {p:A→Prop} {E:A→B→C→Prop} {a:A} (b:B) (c:C) (hm:p a) (h:E a b c:=by exact z):∃a b c,p a∧E a b c:=⟨a,b,c,hm,h⟩
theorem lce {p:A→Prop} {E:A→B→C→Prop} {a:A} (b:B) (c:C) (hm:p a) (h:E a b c):∃a b c,p a∧E a b c:=⟨a,b,c,hm,h⟩
theorem le {p:A→Prop} {E:A→List B→List C→Prop} {a:A} (hm:p a) (h:E a [] []:=by exact z):∃a b c,p a∧E a b c:=⟨a,_,_,hm,h⟩
theorem spc (ct:List Nat) {fn:Func} {f:FuncId} {c:Code} {args:List AV} {obs:List eP} {r:AV} {fO:List eP} (hf:Tryz.prog.funcs[f]? = some fn) (hb:fn.body=some c)
  (h:kP cfg (Ab.Spec Tryz.prog cfg) ct (Loops Tryz.prog cfg fn.ntmps none obs.length) c ⟨KC args 0,JJ.pR obs 0,obs.length⟩ (ajW cfg fn.results.toList obs.length r fO))
  (hnm:(fn.name == "runtime.NumGoroutine")=false:=by exact rfl)
  (hN:args.length≤fn.ntmps:=by exact Nat.le_of_ble_eq_true rfl) (hok:iW fn.ntmps c=true:=by decide +kernel) (hle:obs.length≤fO.length:=by exact Nat.le_of_ble_eq_true rfl):S f args obs r fO:=
 vS gZ hf hb hnm hN hok hle h
theorem sp {fn:Func} {f:FuncId} {c:Code} {args:List AV} {obs:List eP} {r:AV} {fO:List eP} (hf:Tryz.prog.funcs[f]? = some fn) (hb:fn.body=some c)
  (h:kP cfg (Ab.Spec Tryz.prog cfg) [] (Loops Tryz.prog cfg fn.ntmps none obs.length) c ⟨KC args 0,JJ.pR obs 0,obs.length⟩ (ajW cfg fn.results.toList obs.length r fO))
  (hnm:(fn.name == "runtime.NumGoroutine")=false:=by exact rfl)
  (hN:args.length≤fn.ntmps:=by exact Nat.le_of_ble_eq_true rfl) (hok:iW fn.ntmps c=true:=by decide +kernel) (hle:obs.length≤fO.length:=by exact Nat.le_of_ble_eq_true rfl):S f args obs r fO:=
 vS gZ hf hb hnm hN hok hle h
section
variable {N:Nat} {rr:Option Nat} {m:Nat}
variable {c:Code} {s:St} {K:Exit→St→Prop} {σ R:Type} {F:(σ→M R)→σ→M R} {x0:σ} {r:R}
theorem Xk (ct:List Nat) (hm:dF F x0 r) (st:σ→St) (ρ0:List (Nat×Option Nat)) (os0:List Nat)
  (round:∀(self:σ→M R) (x:σ),F self x r→kP cfg (Ab.Spec Tryz.prog cfg) ct (Loops Tryz.prog cfg N rr m) c (st x) (λ e s'=>match e with | .normal=>∃x' ρ os,self x' r∧P6 m ρ os s' (st x') | e=>K e s'))
  (hE:P6 m ρ0 os0 s (st x0):=by exact z) (hok:iW N c=true:=by decide +kernel):Loops Tryz.prog cfg N rr m (.loop c) s K:=nk gZ hok hm st ρ0 os0 hE round
theorem lf (hm:dF F x0 r) (st:σ→St) (ρ0:List (Nat×Option Nat)) (os0:List Nat)
  (round:∀(self:σ→M R) (x:σ),F self x r→kP cfg (Ab.Spec Tryz.prog cfg) [] (Loops Tryz.prog cfg N rr m) c (st x) (λ e s'=>match e with | .normal=>∃x' ρ os,self x' r∧P6 m ρ os s' (st x') | e=>K e s'))
  (hE:P6 m ρ0 os0 s (st x0):=by exact z) (hok:iW N c=true:=by decide +kernel):Loops Tryz.prog cfg N rr m (.loop c) s K:=nk gZ hok hm st ρ0 os0 hE round
theorem l0 (hm:dF F x0 r) (st:σ→St)
  (round:∀(self:σ→M R) (x:σ),F self x r→kP cfg (Ab.Spec Tryz.prog cfg) [] (Loops Tryz.prog cfg N rr m) c (st x) (λ e s'=>match e with | .normal=>∃x' ρ os,self x' r∧P6 m ρ os s' (st x') | e=>K e s'))
  (hE:P6 m [] [] s (st x0):=by exact z) (hok:iW N c=true:=by decide +kernel):Loops Tryz.prog cfg N rr m (.loop c) s K:=nk gZ hok hm st [] [] hE round
theorem ck (ct:List Nat) {x y:Code} {s:St} {K:Exit→St→Prop} (k:σ→M R) (r:R) (st:σ→St)
  (h1:kP cfg (Ab.Spec Tryz.prog cfg) ct (Loops Tryz.prog cfg N rr m) x s (λ e s'=>match e with | .normal=>∃x' ρ os,k x' r∧P6 m ρ os s' (st x') | e=>K e s'))
  (h2:∀x',k x' r→kP cfg (Ab.Spec Tryz.prog cfg) ct (Loops Tryz.prog cfg N rr m) y (st x') K) (aj4:iW N x=true:=by decide +kernel) (ah8:iW N y=true:=by decide +kernel):Loops Tryz.prog cfg N rr m (.seq x y) s K:=QO gZ aj4 ah8 k r st h1 h2
end
end Go.Proofs.YtifekdmmpbcdgaaGreatDoor
namespace Go.Proofs.YtifekdmmpbcdgaaGreatDoor
open Go.Ab
set_option maxRecDepth 100000
set_option maxHeartbeats 20000000
variable {r:Bool}
theorem Sr {c_:ay} (hm:GJ c_ r):S 223 [MU c_] [] (.bool r) [] :=sp Tryz.func223 rfl<|by cases hm;exact re
theorem zQ {s_:List ay} {r:Int} (hm:uL s_ r):S 253 [aW s_,.fn 223 []] [] (iV r) [] :=sp Tryz.func253 rfl<|l0 hm (λ g1=>⟨[(0,aW s_),(1,.fn 223 []),(7,iV (s_.length:Int)),(8,iV g1)],[],0⟩) <|λ ah g1 hm=>si hm (λ _ hm=>sn hm λ _ hm=>sq hm Sr λ v3 hm=>si hm (λ _ hm=>by cases hm;exact re) λ _ hm=>sn hm λ _ hm=>le hm) λ _ hm=>by cases hm;exact re
theorem xg {s_:List ay} (hm:lN s_ r):S 222 [aW s_,.fn 223 []] [] (.bool r) [] :=sp Tryz.func222 rfl<|sq hm zQ λ v1 hm=>by cases hm;exact re
theorem iU {n_:Int} {wY:Int} {y8:Int} (hm:jW n_ wY y8 r):S 227 [iV n_,iV wY,iV y8] [] (.bool r) [] :=sp Tryz.func227 rfl<|by cases hm;exact re
theorem Sv {p_:Int} {lQ:Int} (hm:z8 p_ lQ r):S 254 [iV p_,.ro [iV lQ]] [] (.bool r) [] :=sp Tryz.func254 rfl<|sn hm λ _ hm=>sq hm iU λ v1 hm=>by cases hm;exact re
variable {s_:List Int}
theorem E9 {f_:Int} {r:Int} (hm:AJ s_ f_ r):S 262 [av s_,.fn 254 [.ro [iV f_]]] [] (iV r) [] :=sp Tryz.func262 rfl<|l0 hm (λ g1=>⟨[(0,av s_),(1,.fn 254 [.ro [iV f_]]),(7,iV (s_.length:Int)),(8,iV g1)],[],0⟩) <|λ ah g1 hm=>si hm (λ _ hm=>sn hm λ _ hm=>sq hm Sv λ v3 hm=>si hm (λ _ hm=>by cases hm;exact re) λ _ hm=>sn hm λ _ hm=>le hm) λ _ hm=>by cases hm;exact re
theorem Cg {f_:Int} (hm:oC s_ f_ r):S 235 [av s_,.fn 254 [.ro [iV f_]]] [] (.bool r) [] :=sp Tryz.func235 rfl<|sq hm E9 λ v1 hm=>by cases hm;exact re
theorem Ml {v_:Int} {r:Int} (hm:slices_Index_int s_ v_ r):S 149 [av s_,iV v_] [] (iV r) [] :=sp Tryz.func149 rfl<|l0 hm (λ g1=>⟨[(0,av s_),(1,iV v_),(7,iV (s_.length:Int)),(8,iV g1)],[],0⟩) <|λ ah g1 hm=>si hm (λ _ hm=>sn hm λ _ hm=>si hm (λ _ hm=>by cases hm;exact re) λ _ hm=>sn hm λ _ hm=>le hm) λ _ hm=>by cases hm;exact re
theorem kU {v_:Int} (hm:slices_Contains_int s_ v_ r):S 86 [av s_,iV v_] [] (.bool r) [] :=sp Tryz.func86 rfl<|sq hm Ml λ v1 hm=>by cases hm;exact re
theorem nL {l_:List Int} {wY:Int} {y8:Int} (hm:nu l_ wY y8 r):S 255 [av l_,iV wY,iV y8] [] (.bool r) [] :=sp Tryz.func255 rfl<|l0 hm (λ g1=>⟨[(0,av l_),(1,iV wY),(2,iV y8),(9,av l_),(10,iV (l_.length:Int)),(11,iV g1)],[],0⟩) <|λ ah g1 hm=>si hm (λ _ hm=>sn hm λ _ hm=>sq hm iU λ v5 hm=>sn hm λ _ hm=>sb hm λ v6 hv6 hm=>cl (λ q0=>((kU (hv6 q0)).le ⟨(.sl oz (λ _=>rfl) nofun (lX (f:=iV) (d:=0) (by first | omega | exact Nat.min_le_left _ _ | exact Nat.le_trans (Nat.min_le_left _ _) om | (simp; omega)))),.refl _,trivial⟩ trivial))<|si hm (λ _ hm=>by cases hm;exact re) λ _ hm=>sn hm λ _ hm=>le hm) λ _ hm=>by cases hm;exact re
theorem mP {Za:List Int} {s2_:List Int} (hm:slices_Equal_int Za s2_ r):S 51 [av Za,av s2_] [] (.bool r) [] :=sp Tryz.func51 rfl<|si hm (λ _ hm=>by cases hm;exact re) λ _ hm=>l0 hm (λ g1=>⟨[(0,av Za),(1,av s2_),(12,iV (Za.length:Int)),(13,iV g1)],[],0⟩) <|λ ah g1 hm=>si hm (λ _ hm=>s2 hm λ _ _ hm=>si hm (λ _ hm=>by cases hm;exact re) λ _ hm=>sn hm λ _ hm=>le hm) λ _ hm=>by cases hm;exact re
theorem VN {c_:ay} {at_:Int} (hm:MV c_ at_ r):S 224 [MU c_,iV at_] [] (.bool r) [] :=sp Tryz.func224 rfl<|sq hm Cg λ v1 hm=>sb hm λ v2 hv2 hm=>cl (λ q0=>(iU (hv2 q0)))<|sb hm λ v3 hv3 hm=>cl (λ q0=>(iU (hv3 q0)))<|si hm (λ _ hm=>by cases hm;exact re) λ _ hm=>si hm (λ _ hm=>sn hm λ _ hm=>sb hm λ v4 hv4 hm=>cl (λ q0=>(iU (hv4 q0)))<|by cases hm;exact re) λ _ hm=>si hm (λ _ hm=>si hm (λ _ hm=>sb hm λ v5 hv5 hm=>cl (λ q0=>(nL (hv5 q0)))<|by cases hm;exact re) λ _ hm=>si hm (λ _ hm=>sn hm λ _ hm=>sb hm λ v6 hv6 hm=>cl (λ q0=>(nL (hv6 q0)))<|by cases hm;exact re) λ _ hm=>si hm (λ _ hm=>si hm (λ _ hm=>sb hm λ v7 hv7 hm=>cl (λ q0=>((mP (hv7 q0)).le ⟨.refl _,(.sl rfl (λ _=>rfl) nofun (fM iV 0 [(0:Int),(1:Int)])),trivial⟩ trivial))<|by cases hm;exact re) λ c7 hm=>by
 refine ⟨.bool false,[],(λ q0=>absurd q0 (vac c7)),?_⟩
 (conv=>whnf)
 have hm:r=(((c_.aT.length:Int)==(1:Int))&&false):=hm
 subst hm
 refine ⟨[],[],?_⟩
 (conv=>whnf)
 exact ⟨⟨rfl,trivial,trivial⟩,rfl⟩) λ _ hm=>by cases hm;exact re) λ _ hm=>si hm (λ _ hm=>sb hm λ v8 DJ hm=>cl (λ q0=>(nL (DJ q0)))<|by cases hm;exact re) λ _ hm=>si hm (λ _ hm=>sn hm λ _ hm=>sb hm λ v9 hv9 hm=>cl (λ q0=>(nL (hv9 q0)))<|by cases hm;exact re) λ _ hm=>si hm (λ _ hm=>si hm (λ _ hm=>sb hm λ v10 Jc hm=>cl (λ q0=>((mP (Jc q0)).le ⟨.refl _,(.sl rfl (λ _=>rfl) nofun (fM iV 0 [(0:Int),(1:Int)])),trivial⟩ trivial))<|by cases hm;exact re) λ c11 hm=>by
 refine ⟨.bool false,[],(λ q0=>absurd q0 (vac c11)),?_⟩
 (conv=>whnf)
 have hm:r=(((c_.aT.length:Int)==(1:Int))&&false):=hm
 subst hm
 refine ⟨[],[],?_⟩
 (conv=>whnf)
 exact ⟨⟨rfl,trivial,trivial⟩,rfl⟩) λ _ hm=>by cases hm;exact re
variable {l_:List ay}
theorem mE {r:Int} (hm:pq l_ r):S 164 [aW l_] [] (iV r) [] :=spc [21] Tryz.func164 rfl<|sb hm λ v1 hv1 hm=>cl (λ q0=>(xg (hv1 q0)))<|si hm (λ _ hm=>by cases hm;exact re) λ _ hm=>Xk [21] hm (λ g1=>⟨[(0,aW l_),(18,aW l_),(19,iV (l_.length:Int)),(20,iV g1)],[],0⟩) [] [] <|λ ah g1 hm=>si hm (λ _ hm=>sn hm λ _ hm=>sq hm VN λ v4 hm=>si hm (λ _ hm=>by cases hm;exact re) λ _ hm=>sn hm λ _ hm=>le hm) λ _ hm=>sn hm λ _ hm=>Xk [21] hm (λ g2=>⟨[(5,iV g2.1),(6,.dQ 0 0 g2.2.2.length false),(33,aW l_),(34,iV (l_.length:Int)),(35,iV g2.2.1)],[(0,some (.row 1 g2.2.2.length (bC iV 0 g2.2.2)))],1⟩) [(0,some 32)] [] <|λ dY g2 hm=>si hm (λ _ hm=>sn hm λ _ hm=>Xk [21] hm (λ g7=>⟨[(5,iV g2.1),(6,.dQ 0 0 g7.2.length false),(7,iV g2.2.1),(8,.ptr 1 0 0),(33,aW l_),(34,iV (l_.length:Int)),(35,iV g2.2.1),(41,av ((l_.getD g2.2.1.toNat aI).aT)),(42,iV ((((l_.getD g2.2.1.toNat aI).aT).length:Nat):Int)),(43,iV g7.1)],[(0,some (.row 1 g7.2.length (bC iV 0 g7.2))),(1,some (.box [iV ((l_.getD g2.2.1.toNat aI).fC),av ((l_.getD g2.2.1.toNat aI).aT),av ((l_.getD g2.2.1.toNat aI).aK),iV ((l_.getD g2.2.1.toNat aI).Low),iV ((l_.getD g2.2.1.toNat aI).fJ)]))],2⟩) [(1,some 33)] [] <|λ nA g7 hm=>si hm (λ _ hm=>s2 hm λ _ _ hm=>s2 hm λ _ _ hm=>sn hm λ _ hm=>le hm) λ _ hm=>ck [21] (vF l_ g2 dY) r (λ g8=>⟨[(5,iV g2.1),(6,.dQ 0 0 g8.length false),(7,iV g2.2.1),(8,.ptr 1 0 0),(33,aW l_),(34,iV (l_.length:Int)),(35,iV g2.2.1)],[(0,some (.row 1 g8.length (bC iV 0 g8))),(1,some (.box [iV ((l_.getD g2.2.1.toNat aI).fC),av ((l_.getD g2.2.1.toNat aI).aT),av ((l_.getD g2.2.1.toNat aI).aK),iV ((l_.getD g2.2.1.toNat aI).Low),iV ((l_.getD g2.2.1.toNat aI).fJ)]))],2⟩) (si hm (λ _ hm=>s2 hm λ _ _ hm=>sn hm λ _ hm=>le hm) λ _ hm=>le hm) λ g8 hm=>s2 hm λ _ _ hm=>si hm (λ _ hm=>by cases hm;exact re) λ _ hm=>sn hm λ _ hm=>le hm) λ _ hm=>by cases hm;exact re
theorem Qp {s_:aF} (hm:sK s_ r):S 217 [Fw s_] [] (.bool r) [] :=sp Tryz.func217 rfl<|by cases hm;exact re
theorem zR {s_:List aF} {r:Int} (hm:uM s_ r):S 251 [aV s_,.fn 217 []] [] (iV r) [] :=sp Tryz.func251 rfl<|l0 hm (λ g1=>⟨[(0,aV s_),(1,.fn 217 []),(7,iV (s_.length:Int)),(8,iV g1)],[],0⟩) <|λ ah g1 hm=>si hm (λ _ hm=>sn hm λ _ hm=>sq hm Qp λ v3 hm=>si hm (λ _ hm=>by cases hm;exact re) λ _ hm=>sn hm λ _ hm=>le hm) λ _ hm=>by cases hm;exact re
theorem xk {s_:List aF} (hm:lS s_ r):S 216 [aV s_,.fn 217 []] [] (.bool r) [] :=sp Tryz.func216 rfl<|sq hm zR λ v1 hm=>by cases hm;exact re
theorem ig {n_:Int} {wY:Int} {y8:Int} (hm:iP n_ wY y8 r):S 158 [iV n_,iV wY,iV y8] [] (.bool r) [] :=sp Tryz.func158 rfl<|by cases hm;exact re
theorem Ur {s_:aF} {at_:Int} (hm:CQ s_ at_ r):S 218 [Fw s_,iV at_] [] (.bool r) [] :=sp Tryz.func218 rfl<|sn hm λ _ hm=>sq hm ig λ v1 hm=>sb hm λ v2 hv2 hm=>cl (λ q0=>(ig (hv2 q0)))<|sb hm λ v3 hv3 hm=>cl (λ q0=>(ig (hv3 q0)))<|si hm (λ _ hm=>by cases hm;exact re) λ _ hm=>l0 hm (λ g1=>⟨[(2,.ptr 0 0 0),(42,av s_.dB),(43,iV (s_.dB.length:Int)),(44,iV g1)],[(0,some (.box [iV s_.bf,av s_.dB,iV s_.iB,iV s_.jo,.bool s_.iy]))],1⟩) <|λ ah g1 hm=>si hm (λ _ hm=>sn hm λ _ hm=>sq hm ig λ v6 hm=>s2 hm λ _ _ hm=>si hm (λ _ hm=>by cases hm;exact re) λ _ hm=>sn hm λ _ hm=>le hm) λ _ hm=>by cases hm;exact re
theorem sw {l_:List aF} {r:Int} (hm:pY l_ r):S 152 [aV l_] [] (iV r) [] :=sp Tryz.func152 rfl<|sb hm λ v1 hv1 hm=>cl (λ q0=>(xk (hv1 q0)))<|si hm (λ _ hm=>by cases hm;exact re) λ _ hm=>l0 hm (λ g1=>⟨[(12,aV l_),(13,iV (l_.length:Int)),(14,iV g1)],[],0⟩) <|λ ah g1 hm=>si hm (λ _ hm=>sn hm λ _ hm=>sq hm Ur λ v4 hm=>si hm (λ _ hm=>by cases hm;exact re) λ _ hm=>sn hm λ _ hm=>le hm) λ _ hm=>by cases hm;exact re
theorem EJ {s_:ByteArray} (hm:DC s_ r):S 215 [.str s_] [] (.bool r) [] :=sp Tryz.func215 rfl<|s2 hm λ _ _ hm=>si hm (λ _ hm=>by cases hm;exact re) λ _ hm=>l0 hm (λ g1=>⟨[(0,.str s_),(3,iV g1)],[],0⟩) <|λ ah g1 hm=>si hm (λ _ hm=>sn hm λ _ hm=>si hm (λ _ hm=>by cases hm;exact re) λ _ hm=>sn hm λ _ hm=>le hm) λ _ hm=>by cases hm;exact re
theorem Hw {s_:List ByteArray} {v_:ByteArray} {r:Int} (hm:slices_Index_string s_ v_ r):S 273 [iA s_,.str v_] [] (iV r) [] :=sp Tryz.func273 rfl<|l0 hm (λ g1=>⟨[(0,iA s_),(1,.str v_),(7,iV (s_.length:Int)),(8,iV g1)],[],0⟩) <|λ ah g1 hm=>si hm (λ _ hm=>sn hm λ _ hm=>si hm (λ _ hm=>by cases hm;exact re) λ _ hm=>sn hm λ _ hm=>le hm) λ _ hm=>by cases hm;exact re
theorem Du {s_:List ByteArray} {v_:ByteArray} (hm:slices_Contains_string s_ v_ r):S 267 [iA s_,.str v_] [] (.bool r) [] :=sp Tryz.func267 rfl<|sq hm Hw λ v1 hm=>by cases hm;exact re
theorem XU {M0:Int} {g_:cB} {r:Int} (hm:JV M0 g_ r):S 250 [iV M0,ou g_] [] (iV r) [] :=sp Tryz.func250 rfl<|si hm (λ _ hm=>by cases hm;exact re) λ _ hm=>si hm (λ _ hm=>by cases hm;exact re) λ _ hm=>l0 hm (λ g1=>⟨[(0,iV M0),(3,.ptr 0 0 0),(27,av g_.bZ),(28,iV (g_.bZ.length:Int)),(29,iV g1)],[(0,some (.box [.str g_.xD,av g_.bZ,iA g_.ak]))],1⟩) <|λ ah g1 hm=>si hm (λ _ hm=>sn hm λ _ hm=>si hm (λ _ hm=>by cases hm;exact re) λ _ hm=>sn hm λ _ hm=>le hm) λ _ hm=>l0 hm (λ g2=>⟨[(3,.ptr 0 0 0),(7,iV g2)],[(0,some (.box [.str g_.xD,av g_.bZ,iA g_.ak]))],1⟩) <|λ dY g2 hm=>si hm (λ _ hm=>s2 hm λ _ _ hm=>sn hm λ _ hm=>si hm (λ _ hm=>by cases hm;exact re) λ _ hm=>sn hm λ _ hm=>le hm) λ _ hm=>l0 hm (λ g3=>⟨[(3,.ptr 0 0 0),(61,iA g_.ak),(62,iV (g_.ak.length:Int)),(63,iV g3)],[(0,some (.box [.str g_.xD,av g_.bZ,iA g_.ak]))],1⟩) <|λ qJ g3 hm=>si hm (λ _ hm=>sn hm λ _ hm=>sq hm EJ λ v3 hm=>si hm (λ _ hm=>by cases hm;exact re) λ _ hm=>sn hm λ _ hm=>le hm) λ _ hm=>l0 hm (λ g4=>⟨[(3,.ptr 0 0 0),(72,iA g_.ak),(73,iV (g_.ak.length:Int)),(74,iV g4)],[(0,some (.box [.str g_.xD,av g_.bZ,iA g_.ak]))],1⟩) <|λ iN g4 hm=>si hm (λ _ hm=>s2 hm λ _ _ hm=>sb hm λ v6 hv6 hm=>cl ((Du hv6).le ⟨(.sl oz (λ _=>rfl) nofun (lX (f:=AV.str) (d:=ByteArray.empty) (by first | omega | exact Nat.min_le_left _ _ | exact Nat.le_trans (Nat.min_le_left _ _) om | (simp; omega)))),.refl _,trivial⟩ trivial)<|si hm (λ _ hm=>by cases hm;exact re) λ _ hm=>sn hm λ _ hm=>le hm) λ _ hm=>by cases hm;exact re
theorem LY {p_:bP} {r:Int} (hm:DX p_ r):S 213 [pW p_] [] (iV r) [] :=sp Tryz.func213 rfl<|si hm (λ _ hm=>by cases hm;exact re) λ _ hm=>si hm (λ _ hm=>by cases hm;exact re) λ _ hm=>lf hm (λ g1=>⟨[(1,.ptr 0 0 0),(3,.mref 1),(21,bg p_.aH),(22,iV (p_.aH.length:Int)),(23,iV g1.1)],[(0,some (.box [iV p_.bZ,bg p_.aH])),(1,some (.map .str [.bool] g1.2))],2⟩) [(1,some 112)] [] <|λ ah g1 hm=>si hm (λ _ hm=>sn hm λ _ hm=>sq hm EJ λ v5 hm=>si hm (λ _ hm=>by cases hm;exact re) λ _ hm=>si hm (λ _ hm=>by cases hm;exact re) λ _ hm=>sq hm XU λ v6 hm=>si hm (λ _ hm=>by cases hm;exact re) λ _ hm=>sn hm λ _ hm=>le hm) λ _ hm=>by cases hm;exact re
theorem Jj {l_:List eF} {r:Int} (hm:AL l_ r):S 214 [dA l_] [] (iV r) [] :=sp Tryz.func214 rfl<|si hm (λ _ hm=>by cases hm;exact re) λ _ hm=>l0 hm (λ g1=>⟨[(11,dA l_),(12,iV (l_.length:Int)),(13,iV g1)],[],0⟩) <|λ ah g1 hm=>si hm (λ _ hm=>sn hm λ _ hm=>lf hm (λ g6=>⟨[(3,iV g1),(4,.ptr 0 0 0),(11,dA l_),(12,iV (l_.length:Int)),(13,iV g1),(19,av ((l_.getD g1.toNat dZ).fF)),(20,iV ((((l_.getD g1.toNat dZ).fF).length:Nat):Int)),(21,iV g6)],[(0,some (.box [av ((l_.getD g1.toNat dZ).fF)]))],1⟩) [(0,some 32)] [] <|λ jD g6 hm=>si hm (λ _ hm=>sn hm λ _ hm=>si hm (λ _ hm=>by cases hm;exact re) λ _ hm=>sn hm λ _ hm=>le hm) λ _ hm=>l0 hm (λ g7=>⟨[(4,.ptr 0 0 0),(7,iV g7),(11,dA l_),(12,iV (l_.length:Int)),(13,iV g1)],[(0,some (.box [av ((l_.getD g1.toNat dZ).fF)]))],1⟩) <|λ nA g7 hm=>si hm (λ _ hm=>s2 hm λ _ _ hm=>sn hm λ _ hm=>si hm (λ _ hm=>by cases hm;exact re) λ _ hm=>sn hm λ _ hm=>le hm) λ _ hm=>sn hm λ _ hm=>le hm) λ _ hm=>by cases hm;exact re
theorem yT {l_:List dO} {r:Int} (hm:tZ l_ r):S 105 [bV l_] [] (iV r) [] :=sp Tryz.func105 rfl<|si hm (λ _ hm=>by cases hm;exact re) λ _ hm=>l0 hm (λ g1=>⟨[(8,bV l_),(9,iV (l_.length:Int)),(10,iV g1)],[],0⟩) <|λ ah g1 hm=>si hm (λ _ hm=>sn hm λ _ hm=>si hm (λ _ hm=>by cases hm;exact re) λ _ hm=>sn hm λ _ hm=>le hm) λ _ hm=>by cases hm;exact re
theorem VO {b_:aY} {r:Int} (hm:Fx b_ r):S 147 [iX b_] [] (iV r) [] :=sp Tryz.func147 rfl<|sq hm mE λ v1 hm=>si hm (λ _ hm=>by cases hm;exact re) λ _ hm=>sq hm sw λ v2 hm=>si hm (λ _ hm=>by cases hm;exact re) λ _ hm=>sq hm LY λ v3 hm=>si hm (λ _ hm=>by cases hm;exact re) λ _ hm=>sq hm Jj λ v4 hm=>si hm (λ _ hm=>by cases hm;exact re) λ _ hm=>sq hm yT λ v5 hm=>by cases hm;exact re
theorem kV {x_:Int} {CS:Int} {oD:Int} (hm:qK x_ CS oD r):S 171 [iV x_,iV CS,iV oD] [] (.bool r) [] :=sp Tryz.func171 rfl<|by cases hm;exact re
theorem XV {b_:aY} {n_:aS} {iI:Int} {r:Int} (hm:JW b_ n_ iI r):S 148 [iX b_,Cn n_,iV iI] [] (iV r) [] :=sp Tryz.func148 rfl<|si hm (λ _ hm=>by cases hm;exact re) λ _ hm=>lf hm (λ g1=>⟨[(2,iV iI),(3,.ptr 0 0 0),(4,.ptr 1 0 0),(35,eu n_.bT),(36,iV (n_.bT.length:Int)),(37,iV g1)],[(0,some (.box [aW b_.bS,aV b_.bI,iV b_.aZ.bZ,bg b_.aZ.aH,dA b_.bA,bV b_.dD])),(1,some (.box [eu n_.bT,fT n_.fI,iA n_.ak,av n_.bA,iV n_.gM,av n_.bq]))],2⟩) [(1,some 8)] [] <|λ ah g1 hm=>si hm (λ _ hm=>s2 hm λ _ _ hm=>sq hm kV λ v3 hm=>si hm (λ _ hm=>by cases hm;exact re) λ _ hm=>sn hm λ _ hm=>le hm) λ _ hm=>l0 hm (λ g2=>⟨[(2,iV iI),(3,.ptr 0 0 0),(4,.ptr 1 0 0),(68,fT n_.fI),(69,iV (n_.fI.length:Int)),(70,iV g2)],[(0,some (.box [aW b_.bS,aV b_.bI,iV b_.aZ.bZ,bg b_.aZ.aH,dA b_.bA,bV b_.dD])),(1,some (.box [eu n_.bT,fT n_.fI,iA n_.ak,av n_.bA,iV n_.gM,av n_.bq]))],2⟩) <|λ dY g2 hm=>si hm (λ _ hm=>s2 hm λ _ _ hm=>sq hm kV λ v8 hm=>sb hm λ v9 hv9 hm=>cl (λ q0=>(kV (hv9 q0)))<|si hm (λ _ hm=>by cases hm;exact re) λ _ hm=>sn hm λ _ hm=>le hm) λ _ hm=>l0 hm (λ g3=>⟨[(2,iV iI),(3,.ptr 0 0 0),(4,.ptr 1 0 0),(107,iA n_.ak),(108,iV (n_.ak.length:Int)),(109,iV g3)],[(0,some (.box [aW b_.bS,aV b_.bI,iV b_.aZ.bZ,bg b_.aZ.aH,dA b_.bA,bV b_.dD])),(1,some (.box [eu n_.bT,fT n_.fI,iA n_.ak,av n_.bA,iV n_.gM,av n_.bq]))],2⟩) <|λ qJ g3 hm=>si hm (λ _ hm=>sn hm λ _ hm=>sq hm EJ λ v12 hm=>si hm (λ _ hm=>by cases hm;exact re) λ _ hm=>sn hm λ _ hm=>le hm) λ _ hm=>l0 hm (λ g4=>⟨[(2,iV iI),(3,.ptr 0 0 0),(4,.ptr 1 0 0),(118,av n_.bA),(119,iV (n_.bA.length:Int)),(120,iV g4)],[(0,some (.box [aW b_.bS,aV b_.bI,iV b_.aZ.bZ,bg b_.aZ.aH,dA b_.bA,bV b_.dD])),(1,some (.box [eu n_.bT,fT n_.fI,iA n_.ak,av n_.bA,iV n_.gM,av n_.bq]))],2⟩) <|λ iN g4 hm=>si hm (λ _ hm=>s2 hm λ _ _ hm=>sq hm kV λ v15 hm=>si hm (λ _ hm=>by cases hm;exact re) λ _ hm=>sn hm λ _ hm=>le hm) λ _ hm=>sn hm λ _ hm=>sq hm kV λ v16 hm=>si hm (λ _ hm=>by cases hm;exact re) λ _ hm=>lf hm (λ g5=>⟨[(2,iV iI),(4,.ptr 0 0 0),(141,av n_.bq),(142,iV (n_.bq.length:Int)),(143,iV g5)],[(0,some (.box [eu n_.bT,fT n_.fI,iA n_.ak,av n_.bA,iV n_.gM,av n_.bq]))],1⟩) [(0,some 1)] [] <|λ nC g5 hm=>si hm (λ _ hm=>s2 hm λ _ _ hm=>sq hm kV λ v19 hm=>si hm (λ _ hm=>by cases hm;exact re) λ _ hm=>sn hm λ _ hm=>le hm) λ _ hm=>l0 hm (λ g6=>⟨[(4,.ptr 0 0 0),(17,iV g6)],[(0,some (.box [eu n_.bT,fT n_.fI,iA n_.ak,av n_.bA,iV n_.gM,av n_.bq]))],1⟩) <|λ jD g6 hm=>si hm (λ _ hm=>s2 hm λ _ _ hm=>sn hm λ _ hm=>si hm (λ _ hm=>by cases hm;exact re) λ _ hm=>sn hm λ _ hm=>le hm) λ _ hm=>by cases hm;exact re
theorem Ch {b_:aY} {l_:List aS} {r:Int} (hm:vU b_ l_ r):S 85 [iX b_,dV l_] [] (iV r) [] :=sp Tryz.func85 rfl<|sq hm VO λ v1 hm=>si hm (λ _ hm=>by cases hm;exact re) λ _ hm=>si hm (λ _ hm=>by cases hm;exact re) λ _ hm=>l0 hm (λ g1=>⟨[(1,dV l_),(2,.ptr 0 0 0),(17,dV l_),(18,iV (l_.length:Int)),(19,iV g1)],[(0,some (.box [aW b_.bS,aV b_.bI,iV b_.aZ.bZ,bg b_.aZ.aH,dA b_.bA,bV b_.dD]))],1⟩) <|λ ah g1 hm=>si hm (λ _ hm=>sn hm λ _ hm=>sq hm XV λ v4 hm=>si hm (λ _ hm=>by cases hm;exact re) λ _ hm=>sn hm λ _ hm=>le hm) λ _ hm=>by cases hm;exact re
theorem Br {l_:List aS} {aj:List Int} (hm:qL l_ aj r):S 107 [dV l_,av aj] [] (.bool r) [] :=sp Tryz.func107 rfl<|l0 hm (λ g1=>⟨[(0,dV l_),(1,av aj),(7,av aj),(8,iV (aj.length:Int)),(9,iV g1)],[],0⟩) <|λ ah g1 hm=>si hm (λ _ hm=>s2 hm λ _ _ hm=>sq hm kV λ v5 hm=>sn hm λ _ hm=>sb hm λ v6 hv6 hm=>cl (λ q0=>((kU (hv6 q0)).le ⟨(.sl oz (λ _=>rfl) nofun (lX (f:=iV) (d:=0) (by first | omega | exact Nat.min_le_left _ _ | exact Nat.le_trans (Nat.min_le_left _ _) om | (simp; omega)))),.refl _,trivial⟩ trivial))<|si hm (λ _ hm=>by cases hm;exact re) λ _ hm=>sn hm λ _ hm=>le hm) λ _ hm=>by cases hm;exact re
theorem Kt {s_:gT} (hm:rU s_ r):S 174 [JU s_] [] (.bool r) [] :=sp Tryz.func174 rfl<|sq hm Br λ v1 hm=>si hm (λ _ hm=>by cases hm;exact re) λ _ hm=>lf hm (λ g1=>⟨[(1,.ptr 0 0 0),(4,.ptr 1 0 0),(67,aW s_.bO.bS),(68,iV (s_.bO.bS.length:Int)),(69,iV g1)],[(0,some (.box [aW s_.bO.bS,aV s_.bO.bI,iV s_.bO.aZ.bZ,bg s_.bO.aZ.aH,dA s_.bO.bA,bV s_.bO.dD,dV s_.dU,av s_.aU,av s_.bB.Setting,aL s_.bB.bX.On,av s_.bB.bX.bJ,bL s_.bB.Uses,aL s_.bB.Released,aL s_.bB.cO,.bool s_.jV])),(1,some (.box [av s_.bB.Setting,aL s_.bB.bX.On,av s_.bB.bX.bJ,bL s_.bB.Uses,aL s_.bB.Released,aL s_.bB.cO]))],2⟩) [(1,some 56)] [] <|λ ah g1 hm=>si hm (λ _ hm=>s2 hm λ _ _ hm=>sn hm λ _ hm=>sq hm kV λ v4 hm=>si hm (λ _ hm=>by cases hm;exact re) λ _ hm=>sn hm λ _ hm=>le hm) λ _ hm=>l0 hm (λ g2=>⟨[(1,.ptr 0 0 0),(87,bL s_.bB.Uses),(88,iV (s_.bB.Uses.length:Int)),(89,iV g2)],[(0,some (.box [aW s_.bO.bS,aV s_.bO.bI,iV s_.bO.aZ.bZ,bg s_.bO.aZ.aH,dA s_.bO.bA,bV s_.bO.dD,dV s_.dU,av s_.aU,av s_.bB.Setting,aL s_.bB.bX.On,av s_.bB.bX.bJ,bL s_.bB.Uses,aL s_.bB.Released,aL s_.bB.cO,.bool s_.jV]))],1⟩) <|λ dY g2 hm=>si hm (λ _ hm=>s2 hm λ _ _ hm=>sq hm kV λ v7 hm=>si hm (λ _ hm=>by cases hm;exact re) λ _ hm=>sn hm λ _ hm=>le hm) λ _ hm=>by cases hm;exact re
theorem Qq {x_:aX} {lQ:List ay} (hm:sM x_ lQ r):S 226 [xS x_,.ro [aW lQ]] [] (.bool r) [] :=sp Tryz.func226 rfl<|sn hm λ _ hm=>sq hm iU λ v1 hm=>sb hm λ v2 hv2 hm=>cl (λ q0=>(iU (hv2 q0)))<|sb hm λ v3 hv3 hm=>cl (λ q0=>(iU (hv3 q0)))<|by cases hm;exact re
theorem zS {s_:List aX} {f_:List ay} {r:Int} (hm:uN s_ f_ r):S 256 [eu s_,.fn 226 [.ro [aW f_]]] [] (iV r) [] :=sp Tryz.func256 rfl<|l0 hm (λ g1=>⟨[(0,eu s_),(1,.fn 226 [.ro [aW f_]]),(7,iV (s_.length:Int)),(8,iV g1)],[],0⟩) <|λ ah g1 hm=>si hm (λ _ hm=>sn hm λ _ hm=>sq hm Qq λ v3 hm=>si hm (λ _ hm=>by cases hm;exact re) λ _ hm=>sn hm λ _ hm=>le hm) λ _ hm=>by cases hm;exact re
theorem xq {s_:List aX} {f_:List ay} (hm:lT s_ f_ r):S 225 [eu s_,.fn 226 [.ro [aW f_]]] [] (.bool r) [] :=sp Tryz.func225 rfl<|sq hm zS λ v1 hm=>by cases hm;exact re
theorem Gp {m_:List aX} (hm:xV l_ m_ r):S 165 [aW l_,eu m_] [] (.bool r) [] :=sp Tryz.func165 rfl<|sq hm mE λ v1 hm=>sb hm λ v2 hv2 hm=>cl (λ q0=>(xq (hv2 q0)))<|by cases hm;exact re
theorem qD (hm:nN l_ s_ r):S 228 [aW l_,av s_] [] (.bool r) [] :=sp Tryz.func228 rfl<|si hm (λ _ hm=>by cases hm;exact re) λ _ hm=>l0 hm (λ g1=>⟨[(0,aW l_),(12,av s_),(13,iV (s_.length:Int)),(14,iV g1)],[],0⟩) <|λ ah g1 hm=>si hm (λ _ hm=>s2 hm λ _ _ hm=>sn hm λ _ hm=>sq hm iU λ v3 hm=>si hm (λ _ hm=>by cases hm;exact re) λ _ hm=>sn hm λ _ hm=>le hm) λ _ hm=>by cases hm;exact re
theorem Gq {jJ:Int} {r:Int} (hm:xW l_ s_ jJ r):S 268 [aW l_,av s_,iV jJ] [] (iV r) [] :=sp Tryz.func268 rfl<|sn hm λ _ hm=>si hm (λ _ hm=>by cases hm;exact re) λ _ hm=>si hm (λ _ hm=>s2 hm λ _ _ hm=>sn hm λ _ hm=>by cases hm;exact re) λ _ hm=>sn hm λ _ hm=>by cases hm;exact re
theorem uG {a_:Int} {b_:Int} {r:Int} (hm:sN a_ b_ r):S 271 [iV a_,iV b_] [] (iV r) [] :=sp Tryz.func271 rfl<|l0 hm (λ g1=>⟨[(0,iV g1.1),(1,iV g1.2)],[],0⟩) <|λ ah g1 hm=>si hm (λ _ hm=>sn hm λ _ hm=>le hm) λ _ hm=>by cases hm;exact re
variable {r_:bK}
theorem vM (hm:vV r_ r):S 258 [rT r_] [] (.bool r) [] :=sp Tryz.func258 rfl<|sb hm λ v1 hv1 hm=>cl (λ q0=>(uG (hv1 q0)))<|by cases hm;exact re
theorem VP {p8:Int} {ug:Int} {lQ:Int} {r:Int×Int} (hm:Fy p8 ug lQ r):S 275 [.ro [iV p8,iV ug],.ro [iV lQ]] [] (.jQ [iV r.1,iV r.2]) [] :=sp Tryz.func275 rfl<|sq hm uG λ v1 hm=>s2 hm λ _ _ hm=>sn hm λ _ hm=>by cases hm;exact re
theorem RD {xX:Int} {xY:Int} {r:bK×Int} (hm:Nc xX xY r):S 277 [iV xX,iV xY] [] (.jQ [rT r.1,iV r.2]) [] :=sp Tryz.func277 rfl<|si hm (λ _ hm=>by cases hm;exact re) λ _ hm=>sq hm uG λ v1 hm=>s2 hm λ _ _ hm=>sq hm vM λ v2 hm=>si hm (λ _ hm=>by cases hm;exact re) λ _ hm=>by cases hm;exact re
variable {k_:Int}
theorem VQ {p9:Int} {qb:Int} {qc:Int} {r:bK×Int} (hm:Fz r_ k_ p9 qb qc r):S 274 [rT r_,iV k_,.fn 275 [.ro [iV p9,iV qb],.ro [iV qc]]] [] (.jQ [rT r.1,iV r.2]) [] :=sp Tryz.func274 rfl<|sq hm vM λ v1 hm=>si hm (λ _ hm=>by cases hm;exact re) λ _ hm=>si hm (λ _ hm=>by cases hm;exact re) λ _ hm=>sq hm VP λ v2 hm=>sq hm RD λ v3 hm=>by cases hm;exact re
theorem OW {r:bK×Int} (hm:Im r_ k_ r):S 269 [rT r_,iV k_] [] (.jQ [rT r.1,iV r.2]) [] :=sp Tryz.func269 rfl<|sq hm VQ λ v1 hm=>by cases hm;exact re
theorem Us {vG:Int} {nO:Int} {l9:Int} {r:Int×Int} (hm:CU vG nO l9 r):S 276 [.ro [iV vG],.ro [iV nO,iV l9]] [] (.jQ [iV r.1,iV r.2]) [] :=sp Tryz.func276 rfl<|sq hm uG λ v1 hm=>s2 hm λ _ _ hm=>si hm (λ _ hm=>by cases hm;exact re) λ _ hm=>s2 hm λ _ _ hm=>sn hm λ _ hm=>by cases hm;exact re
theorem Qr {p9:Int} {qb:Int} {qc:Int} {r:bK×Int} (hm:xZ r_ k_ p9 qb qc r):S 274 [rT r_,iV k_,.fn 276 [.ro [iV p9],.ro [iV qb,iV qc]]] [] (.jQ [rT r.1,iV r.2]) [] :=sp Tryz.func274 rfl<|sq hm vM λ v1 hm=>si hm (λ _ hm=>by cases hm;exact re) λ _ hm=>si hm (λ _ hm=>by cases hm;exact re) λ _ hm=>sq hm Us λ v2 hm=>sq hm RD λ v3 hm=>by cases hm;exact re
theorem LZ {r:bK×Int} (hm:DZ r_ k_ r):S 270 [rT r_,iV k_] [] (.jQ [rT r.1,iV r.2]) [] :=sp Tryz.func270 rfl<|sq hm Qr λ v1 hm=>by cases hm;exact re
theorem Jk {r:List bK} (hm:AP l_ s_ r):S 257 [aW l_,av s_] [] (mX r) [] :=sp Tryz.func257 rfl<|sn hm λ _ hm=>lf hm (λ g1=>⟨[(0,aW l_),(1,av s_),(5,.dQ 0 0 g1.2.length false),(13,aW l_),(14,iV (l_.length:Int)),(15,iV g1.1)],[(0,some (.row 2 g1.2.length (bC rT dW g1.2)))],1⟩) [(0,some 24)] [] <|λ ah g1 hm=>si hm (λ _ hm=>s2 hm λ _ _ hm=>sn hm λ _ hm=>sq hm Gq λ v7 hm=>si hm (λ _ hm=>s2 hm λ _ _ hm=>le hm) λ _ hm=>sn hm λ _ hm=>si hm (λ _ hm=>s2 hm λ _ _ hm=>le hm) λ _ hm=>si hm (λ _ hm=>sn hm λ _ hm=>sq hm OW λ v8 hm=>s2 hm λ _ _ hm=>le hm) λ _ hm=>si hm (λ _ hm=>sn hm λ _ hm=>sq hm LZ λ v9 hm=>s2 hm λ _ _ hm=>le hm) λ _ hm=>s2 hm λ _ _ hm=>sn hm λ _ hm=>le hm) λ _ hm=>by cases hm;exact rt [0] []
theorem oV {CS:Int} {oD:Int} (hm:pz r_ CS oD r):S 230 [rT r_,iV CS,iV oD] [] (.bool r) [] :=sp Tryz.func230 rfl<|sq hm vM λ v1 hm=>si hm (λ _ hm=>by cases hm;exact re) λ _ hm=>s2 hm λ _ _ hm=>by cases hm;exact re
theorem Sw {x_:aX} {lQ:List bK} (hm:uW x_ lQ r):S 259 [xS x_,.ro [mX lQ]] [] (.bool r) [] :=sp Tryz.func259 rfl<|s2 hm λ _ _ hm=>sb hm λ v1 hv1 hm=>cl (λ q0=>(oV (hv1 q0)))<|by cases hm;exact re
theorem xu {s_:List aX} {f_:List bK} {r:Int} (hm:qM s_ f_ r):S 256 [eu s_,.fn 259 [.ro [mX f_]]] [] (iV r) [] :=sp Tryz.func256 rfl<|l0 hm (λ g1=>⟨[(0,eu s_),(1,.fn 259 [.ro [mX f_]]),(7,iV (s_.length:Int)),(8,iV g1)],[],0⟩) <|λ ah g1 hm=>si hm (λ _ hm=>sn hm λ _ hm=>sq hm Sw λ v3 hm=>si hm (λ _ hm=>by cases hm;exact re) λ _ hm=>sn hm λ _ hm=>le hm) λ _ hm=>by cases hm;exact re
theorem uR {s_:List aX} {f_:List bK} (hm:ko s_ f_ r):S 225 [eu s_,.fn 259 [.ro [mX f_]]] [] (.bool r) [] :=sp Tryz.func225 rfl<|sq hm xu λ v1 hm=>by cases hm;exact re
theorem VR {m_:List aX} (hm:FB l_ s_ m_ r):S 232 [aW l_,av s_,eu m_] [] (.bool r) [] :=sp Tryz.func232 rfl<|sq hm Gp λ v1 hm=>sb hm λ v2 hv2 hm=>cl (λ q0=>(qD (hv2 q0)))<|si hm (λ _ hm=>by cases hm;exact re) λ _ hm=>sq hm Jk λ v3 hm=>lf hm (λ g1=>⟨[(2,eu m_),(7,.ptr 0 0 0),(23,aW l_),(24,iV (l_.length:Int)),(25,iV g1)],[(0,some (.box [mX v3]))],1⟩) [(0,some 112)] [] <|λ ah g1 hm=>si hm (λ _ hm=>s2 hm λ _ _ hm=>sn hm λ _ hm=>sb hm λ v6 hv6 hm=>cl (λ q0=>(oV (hv6 q0)))<|si hm (λ _ hm=>by cases hm;exact re) λ _ hm=>sn hm λ _ hm=>le hm) λ _ hm=>sq hm uR λ v7 hm=>by cases hm;exact re
theorem Jl {s_:gT} (hm:qg s_ r):S 175 [JU s_] [] (.bool r) [] :=sp Tryz.func175 rfl<|sb hm λ v1 hv1 hm=>cl ((VR hv1).le ⟨.refl _,.refl _,(.sl rfl (λ h=>absurd rfl h) nofun (λ _ h=>absurd h (Nat.not_lt_zero _))),trivial⟩ trivial)<|by cases hm;exact re
theorem Jm {r:List bK×Int} (hm:AQ l_ s_ r):S 229 [aW l_,av s_] [] (.jQ [mX r.1,iV r.2]) [] :=sp Tryz.func229 rfl<|sq hm mE λ v1 hm=>si hm (λ _ hm=>by cases hm;exact re) λ _ hm=>sq hm qD λ v2 hm=>si hm (λ _ hm=>by cases hm;exact re) λ _ hm=>sq hm Jk λ v3 hm=>by cases hm;exact re
theorem Jo {s_:gT} (hm:qh s_ r):S 176 [JU s_] [] (.bool r) [] :=sp Tryz.func176 rfl<|sq hm Jm λ v1 hm=>si hm (λ _ hm=>by cases hm;exact re) λ _ hm=>l0 hm (λ g1=>⟨[(1,.ptr 0 0 0),(3,mX v1.1),(23,av s_.aU),(24,iV (s_.aU.length:Int)),(25,iV g1)],[(0,some (.box [aW s_.bO.bS,aV s_.bO.bI,iV s_.bO.aZ.bZ,bg s_.bO.aZ.aH,dA s_.bO.bA,bV s_.bO.dD,dV s_.dU,av s_.aU,av s_.bB.Setting,aL s_.bB.bX.On,av s_.bB.bX.bJ,bL s_.bB.Uses,aL s_.bB.Released,aL s_.bB.cO,.bool s_.jV]))],1⟩) <|λ ah g1 hm=>si hm (λ _ hm=>s2 hm λ _ _ hm=>l0 hm (λ g4=>⟨[(1,.ptr 0 0 0),(3,mX v1.1),(23,av s_.aU),(24,iV (s_.aU.length:Int)),(25,iV g1),(34,eu ((s_.dU.getD ((s_.aU.getD g1.toNat 0).toNat) bG).bT)),(35,iV ((((s_.dU.getD ((s_.aU.getD g1.toNat 0).toNat) bG).bT).length:Nat):Int)),(36,iV g4)],[(0,some (.box [aW s_.bO.bS,aV s_.bO.bI,iV s_.bO.aZ.bZ,bg s_.bO.aZ.aH,dA s_.bO.bA,bV s_.bO.dD,dV s_.dU,av s_.aU,av s_.bB.Setting,aL s_.bB.bX.On,av s_.bB.bX.bJ,bL s_.bB.Uses,aL s_.bB.Released,aL s_.bB.cO,.bool s_.jV]))],1⟩) <|λ iN g4 hm=>si hm (λ _ hm=>s2 hm λ _ _ hm=>s2 hm λ _ _ hm=>si hm (λ _ hm=>by cases hm;exact re) λ _ hm=>sn hm λ _ hm=>le hm) λ _ hm=>sn hm λ _ hm=>le hm) λ _ hm=>by cases hm;exact re
theorem mq {s_:List Bool} {r:List Bool} (hm:jX s_ r):S 162 [aL s_] [] (.dQ 0 0 r.length false) [.row 1 r.length (bC AV.bool false r)] :=by
 obtain ⟨h1,hm⟩:=hm
 have hm:r=s_:=hm
 subst hm
 refine vS (ct:=[1]) gZ Tryz.func162 rfl rfl (Nat.le_of_ble_eq_true rfl) dk (Nat.le_of_ble_eq_true rfl) ?_
 (conv=>whnf)
 refine Y9 (ct:=[]) gZ (gZ.slice (t:=36) (e:=4) rfl rfl rfl).1 dk dk dk dk dk [(2,.sl 0 0 true dN),(0,aL r)] [] 8 rfl ?_ (λ hn=>?_) ?_
 ·exact rfl
 ·(conv=>whnf)
  have hn:r.length=0:=hn
  refine ⟨[],[(0,none)],?_⟩
  (conv=>whnf)
  exact ⟨⟨rfl,trivial,⟨hn,trivial⟩⟩,⟨rfl,rfl,rfl,rfl,rfl,hn⟩⟩
 ·(conv=>whnf)
  refine ⟨by rw [Nat.zero_add]; exact h1,?_⟩
  (conv=>whnf)
  refine ⟨[],[(0,some 24)],?_⟩
  (conv=>whnf)
  exact ⟨⟨rfl,trivial,⟨⟨rfl,Nat.zero_add _,iL (l:=[]) rfl (λ _ h=>absurd h (Nat.not_lt_zero _)) rfl (λ _ _=>.refl _)⟩,trivial⟩⟩,⟨rfl,rfl,rfl,Nat.zero_add _,nofun⟩⟩
theorem rP {r:List Int} (hm:slices_Clone_int s_ r):S 163 [av s_] [] (.dQ 0 0 r.length false) [.row 1 r.length (bC iV 0 r)] :=by
 obtain ⟨h1,hm⟩:=hm
 have hm:r=s_:=hm
 subst hm
 refine vS (ct:=[1]) gZ Tryz.func163 rfl rfl (Nat.le_of_ble_eq_true rfl) dk (Nat.le_of_ble_eq_true rfl) ?_
 (conv=>whnf)
 refine Y9 (ct:=[]) gZ (gZ.slice (t:=22) (e:=3) rfl rfl rfl).1 dk dk dk dk dk [(2,.sl 0 0 true dN),(0,av r)] [] 8 rfl ?_ (λ hn=>?_) ?_
 ·exact rfl
 ·(conv=>whnf)
  have hn:r.length=0:=hn
  refine ⟨[],[(0,none)],?_⟩
  (conv=>whnf)
  exact ⟨⟨rfl,trivial,⟨hn,trivial⟩⟩,⟨rfl,rfl,rfl,rfl,rfl,hn⟩⟩
 ·(conv=>whnf)
  refine ⟨by rw [Nat.zero_add]; exact h1,?_⟩
  (conv=>whnf)
  refine ⟨[],[(0,some 24)],?_⟩
  (conv=>whnf)
  exact ⟨⟨rfl,trivial,⟨⟨rfl,Nat.zero_add _,iL (l:=[]) rfl (λ _ h=>absurd h (Nat.not_lt_zero _)) rfl (λ _ _=>.refl _)⟩,trivial⟩⟩,⟨rfl,rfl,rfl,Nat.zero_add _,nofun⟩⟩
theorem OX {r_:bD} {r:List Bool×List Int} (hm:Io r_ r):S 172 [pX r_] [] (.agg [.dQ 0 0 r.1.length false,.dQ 1 0 r.2.length false]) [.row 1 r.1.length (bC AV.bool false r.1),.row 1 r.2.length (bC iV 0 r.2)] :=sp Tryz.func172 rfl<|sq hm mq λ v1 hm=>sq hm rP λ v2 hm=>by cases hm;exact rt [] [(0,some 32),(1,some 56)]
theorem Gr {l_:List aF} {r_:bD} (hm:x9 l_ r_ r):S 155 [aV l_,pX r_] [] (.bool r) [] :=sp Tryz.func155 rfl<|sq hm sw λ v1 hm=>si hm (λ _ hm=>by cases hm;exact re) λ _ hm=>l0 hm (λ g1=>⟨[(0,aV l_),(27,av r_.bJ),(28,iV (r_.bJ.length:Int)),(29,iV g1)],[],0⟩) <|λ ah g1 hm=>si hm (λ _ hm=>s2 hm λ _ _ hm=>sn hm λ _ hm=>sq hm ig λ v4 hm=>si hm (λ _ hm=>by cases hm;exact re) λ _ hm=>sn hm λ _ hm=>le hm) λ _ hm=>by cases hm;exact re
theorem Qs {x_:bU} {lQ:List aF} (hm:sO x_ lQ r):S 157 [Ij x_,.ro [aV lQ]] [] (.bool r) [] :=sp Tryz.func157 rfl<|sn hm λ _ hm=>sq hm ig λ v1 hm=>sb hm λ v2 hv2 hm=>cl (λ q0=>(ig (hv2 q0)))<|sb hm λ v3 hv3 hm=>cl (λ q0=>(ig (hv3 q0)))<|sb hm λ v4 hv4 hm=>cl (λ q0=>(ig (hv4 q0)))<|by cases hm;exact re
theorem Bt {s_:List bU} {f_:List aF} {r:Int} (hm:uX s_ f_ r):S 220 [fT s_,.fn 157 [.ro [aV f_]]] [] (iV r) [] :=sp Tryz.func220 rfl<|l0 hm (λ g1=>⟨[(0,fT s_),(1,.fn 157 [.ro [aV f_]]),(7,iV (s_.length:Int)),(8,iV g1)],[],0⟩) <|λ ah g1 hm=>si hm (λ _ hm=>sn hm λ _ hm=>sq hm Qs λ v3 hm=>si hm (λ _ hm=>by cases hm;exact re) λ _ hm=>sn hm λ _ hm=>le hm) λ _ hm=>by cases hm;exact re
theorem yU {s_:List bU} {f_:List aF} (hm:mg s_ f_ r):S 156 [fT s_,.fn 157 [.ro [aV f_]]] [] (.bool r) [] :=sp Tryz.func156 rfl<|sq hm Bt λ v1 hm=>by cases hm;exact re
variable {d_:List bU}
theorem Gs {l_:List aF} (hm:yc l_ d_ r):S 90 [aV l_,fT d_] [] (.bool r) [] :=sp Tryz.func90 rfl<|sq hm sw λ v1 hm=>sb hm λ v2 hv2 hm=>cl (λ q0=>(yU (hv2 q0)))<|by cases hm;exact re
theorem pO {s_:List aF} {r:List aF} (hm:jE s_ r):S 221 [aV s_] [] (.fn 252 [.ro [aV r]]) [] :=by
 have hm:r=s_:=hm
 subst hm
 exact aaS r
theorem VT {l_:List aF} {r:List Bool} (hm:FC l_ d_ r):S 159 [aV l_,fT d_] [] (aL r) [] :=spc [11] Tryz.func159 rfl<|sn hm λ _ hm=>Xk [11] hm (λ g1=>⟨[(0,aV l_),(5,.ptr 0 0 0),(13,fT d_),(14,iV (d_.length:Int)),(15,iV g1.1)],[(0,some (.box [.dQ 1 0 g1.2.length false])),(1,some (.row 1 g1.2.length (bC AV.bool false g1.2)))],2⟩) [(0,some 32),(1,some 24)] [] <|λ ah g1 hm=>si hm (λ _ hm=>s2 hm λ _ _ hm=>sn hm λ _ hm=>le hm) λ _ hm=>sq hm pO λ v1 hm=>by
 have h11:=hm.1
 have hm:=hm.2
 refine abh (ct:=[11]) (ct':=[11]) gZ dk dk dk dk (abE v1 h11) rfl (by intro v hv; simp at hv; exact ⟨_,hv⟩) hm (λ g2=>⟨[(5,.ptr 0 0 0),(25,.fn 252 [.ro [aV v1]])],[(0,some (.box [.dQ 1 0 g2.length false])),(1,some (.row 1 g2.length (bC AV.bool false g2)))],2⟩) (λ k2 g2=>⟨[(5,.ptr 0 0 0),(8,iV ((v1.length - 1 - k2:Nat):Int)),(9,.ptr 2 0 0)],[(0,some (.box [.dQ 1 0 g2.length false])),(1,some (.row 1 g2.length (bC AV.bool false g2))),(2,some (.box [iV ((v1.getD (v1.length - 1 - k2) aC).bf),av ((v1.getD (v1.length - 1 - k2) aC).dB),iV ((v1.getD (v1.length - 1 - k2) aC).iB),iV ((v1.getD (v1.length - 1 - k2) aC).jo),.bool ((v1.getD (v1.length - 1 - k2) aC).iy)]))],3⟩) (λ _ _=>r2) [] ⟨rfl,⟨r4,⟨rfl,U1.refl _,trivial⟩,trivial⟩,⟨⟨⟨rfl,rfl,rfl,rfl,nofun⟩,trivial⟩,⟨rfl,rfl,(λ _ _=>.refl _)⟩,trivial⟩⟩ ?_ ?_ ?_
 ·intro k2 ll g2 hk
  refine ⟨Nat.le_of_ble_eq_true rfl,?_⟩
  (conv=>whnf)
  exact ⟨[(2,some 10)],⟨rfl,⟨r4,r2,r4,trivial⟩,⟨⟨⟨rfl,rfl,rfl,rfl,nofun⟩,trivial⟩,⟨rfl,rfl,(λ _ _=>.refl _)⟩,⟨r2,sr,r2,r2,rfl,trivial⟩,trivial⟩⟩⟩
 ·intro k2 ll dY g2 hk hm
  (conv=>whnf)
  refine QO (ct:=[11]) gZ dk dk (BK v1 dY k2) r (λ g5=>⟨[(5,.ptr 0 0 0),(8,iV ((v1.length - 1 - k2:Nat):Int)),(9,.ptr 2 0 0)],[(0,some (.box [.dQ 1 0 g5.length false])),(1,some (.row 1 g5.length (bC AV.bool false g5))),(2,some (.box [iV ((v1.getD (v1.length - 1 - k2) aC).bf),av ((v1.getD (v1.length - 1 - k2) aC).dB),iV ((v1.getD (v1.length - 1 - k2) aC).iB),iV ((v1.getD (v1.length - 1 - k2) aC).jo),.bool ((v1.getD (v1.length - 1 - k2) aC).iy)]))],3⟩) ?_ (λ g5 hm=>?_)
  ·(conv=>whnf)
   refine aO hm λ h28 hm=>?_
   (conv=>whnf)
   refine aO hm λ h29 hm=>?_
   (conv=>whnf)
   exact ⟨(g2.set (((v1.length - 1 - k2:Nat):Int).toNat) ((g2.getD (((v1.length - 1 - k2:Nat):Int).toNat) false)||(v1.getD (v1.length - 1 - k2) aC).iy)),[],[],hm,⟨rfl,⟨r4,r2,r4,trivial⟩,⟨⟨⟨rfl,rfl,rfl,oz,nofun⟩,trivial⟩,⟨rfl,oz,(rR (λ _ _=>.refl _) rfl (.refl _))⟩,⟨r2,sr,r2,r2,rfl,trivial⟩,trivial⟩⟩⟩
  ·(conv=>whnf)
   refine aO hm λ h26 hm=>?_
   (conv=>whnf)
   refine fQ hm (λ c6 hm=>?_) (λ c6 hm=>?_)
   ·(conv=>whnf)
    refine aO hm λ h27 hm=>?_
    (conv=>whnf)
    exact ⟨(g5.set (((v1.getD (v1.length - 1 - k2) aC).bf).toNat) true),[],hm,⟨rfl,⟨r4,⟨rfl,U1.refl _,trivial⟩,trivial⟩,⟨⟨⟨rfl,rfl,rfl,oz,nofun⟩,trivial⟩,⟨rfl,oz,(rR (λ _ _=>.refl _) rfl (.refl _))⟩,trivial⟩⟩⟩
   ·(conv=>whnf)
    exact ⟨g5,[],hm,⟨rfl,⟨r4,⟨rfl,U1.refl _,trivial⟩,trivial⟩,⟨⟨⟨rfl,rfl,rfl,rfl,nofun⟩,trivial⟩,⟨rfl,rfl,(λ _ _=>.refl _)⟩,trivial⟩⟩⟩
 ·intro g2 hm
  (conv=>whnf)
  have hm:r=g2:=hm
  subst hm
  refine ⟨[1],[],?_⟩
  (conv=>whnf)
  exact ⟨⟨rfl,trivial,trivial⟩,sf⟩
theorem Ut {l_:List aF} {r:List Int} (hm:CW l_ d_ r):S 160 [aV l_,fT d_] [] (av r) [] :=sp Tryz.func160 rfl<|sn hm λ _ hm=>lf hm (λ g1=>⟨[(0,aV l_),(5,.ptr 0 0 0),(13,fT d_),(14,iV (d_.length:Int)),(15,iV g1.1)],[(0,some (.box [.dQ 1 0 g1.2.length false])),(1,some (.row 1 g1.2.length (bC iV 0 g1.2)))],2⟩) [(0,some 32),(1,some 24)] [] <|λ ah g1 hm=>si hm (λ _ hm=>s2 hm λ _ _ hm=>s2 hm λ _ _ hm=>sn hm λ _ hm=>le hm) λ _ hm=>sq hm pO λ v1 hm=>by
 have h17:=hm.1
 have hm:=hm.2
 refine abh (ct:=[]) (ct':=[]) gZ dk dk dk dk (abE v1 h17) rfl (by intro v hv; simp at hv; exact ⟨_,hv⟩) hm (λ g2=>⟨[(5,.ptr 0 0 0),(30,.fn 252 [.ro [aV v1]])],[(0,some (.box [.dQ 1 0 g2.length false])),(1,some (.row 1 g2.length (bC iV 0 g2)))],2⟩) (λ k2 g2=>⟨[(5,.ptr 0 0 0),(8,iV ((v1.length - 1 - k2:Nat):Int)),(9,.ptr 2 0 0)],[(0,some (.box [.dQ 1 0 g2.length false])),(1,some (.row 1 g2.length (bC iV 0 g2))),(2,some (.box [iV ((v1.getD (v1.length - 1 - k2) aC).bf),av ((v1.getD (v1.length - 1 - k2) aC).dB),iV ((v1.getD (v1.length - 1 - k2) aC).iB),iV ((v1.getD (v1.length - 1 - k2) aC).jo),.bool ((v1.getD (v1.length - 1 - k2) aC).iy)]))],3⟩) (λ _ _=>r2) [] ⟨rfl,⟨r4,⟨rfl,U1.refl _,trivial⟩,trivial⟩,⟨⟨⟨rfl,rfl,rfl,rfl,nofun⟩,trivial⟩,⟨rfl,rfl,(λ _ _=>.refl _)⟩,trivial⟩⟩ ?_ ?_ ?_
 ·intro k2 ll g2 hk
  refine ⟨Nat.le_of_ble_eq_true rfl,?_⟩
  (conv=>whnf)
  exact ⟨[(2,some 10)],⟨rfl,⟨r4,r2,r4,trivial⟩,⟨⟨⟨rfl,rfl,rfl,rfl,nofun⟩,trivial⟩,⟨rfl,rfl,(λ _ _=>.refl _)⟩,⟨r2,sr,r2,r2,rfl,trivial⟩,trivial⟩⟩⟩
 ·intro k2 ll dY g2 hk hm
  (conv=>whnf)
  refine fQ hm (λ c6 hm=>?_) (λ c6 hm=>?_)
  ·(conv=>whnf)
   refine aO hm λ h26 hm=>?_
   (conv=>whnf)
   refine aO hm λ h27 hm=>?_
   (conv=>whnf)
   refine aO hm λ h28 hm=>?_
   (conv=>whnf)
   refine aO hm λ h29 hm=>?_
   (conv=>whnf)
   exact ⟨(g2.set (((v1.getD (v1.length - 1 - k2) aC).bf).toNat) ((g2.getD (((v1.getD (v1.length - 1 - k2) aC).bf).toNat) 0)+(g2.getD (((v1.length - 1 - k2:Nat):Int).toNat) 0))),[],hm,⟨rfl,⟨r4,⟨rfl,U1.refl _,trivial⟩,trivial⟩,⟨⟨⟨rfl,rfl,rfl,oz,nofun⟩,trivial⟩,⟨rfl,oz,(rR (λ _ _=>.refl _) rfl (.refl _))⟩,trivial⟩⟩⟩
  ·(conv=>whnf)
   exact ⟨g2,[],hm,⟨rfl,⟨r4,⟨rfl,U1.refl _,trivial⟩,trivial⟩,⟨⟨⟨rfl,rfl,rfl,rfl,nofun⟩,trivial⟩,⟨rfl,rfl,(λ _ _=>.refl _)⟩,trivial⟩⟩⟩
 ·intro g2 hm
  (conv=>whnf)
  have hm:r=g2:=hm
  subst hm
  refine ⟨[1],[],?_⟩
  (conv=>whnf)
  exact ⟨⟨rfl,trivial,trivial⟩,sf⟩
theorem Qt {x_:bU} {lQ:List aF} {CX:List Bool} {vW:List Int} (hm:sP x_ lQ CX vW r):S 161 [Ij x_,.ro [aV lQ],.ro [aL CX,av vW]] [] (.bool r) [] :=sp Tryz.func161 rfl<|s2 hm λ _ _ hm=>sn hm λ _ hm=>sq hm ig λ v1 hm=>by cases hm;exact re
theorem yV {s_:List bU} {BL:List aF} {Co:List Bool} {Cq:List Int} {r:Int} (hm:rV s_ BL Co Cq r):S 220 [fT s_,.fn 161 [.ro [aV BL],.ro [aL Co,av Cq]]] [] (iV r) [] :=sp Tryz.func220 rfl<|l0 hm (λ g1=>⟨[(0,fT s_),(1,.fn 161 [.ro [aV BL],.ro [aL Co,av Cq]]),(7,iV (s_.length:Int)),(8,iV g1)],[],0⟩) <|λ ah g1 hm=>si hm (λ _ hm=>sn hm λ _ hm=>sq hm Qt λ v3 hm=>si hm (λ _ hm=>by cases hm;exact re) λ _ hm=>sn hm λ _ hm=>le hm) λ _ hm=>by cases hm;exact re
theorem vC {s_:List bU} {BL:List aF} {Co:List Bool} {Cq:List Int} (hm:kL s_ BL Co Cq r):S 156 [fT s_,.fn 161 [.ro [aV BL],.ro [aL Co,av Cq]]] [] (.bool r) [] :=sp Tryz.func156 rfl<|sq hm yV λ v1 hm=>by cases hm;exact re
theorem yX {l_:List aF} {r_:bD} (hm:uh l_ r_ d_ r):S 91 [aV l_,pX r_,fT d_] [] (.bool r) [] :=sp Tryz.func91 rfl<|sq hm Gr λ v1 hm=>sb hm λ v2 hv2 hm=>cl (λ q0=>(Gs (hv2 q0)))<|si hm (λ _ hm=>by cases hm;exact re) λ _ hm=>sq hm VT λ v3 hm=>sq hm Ut λ v4 hm=>lf hm (λ g1=>⟨[(2,fT d_),(3,.ptr 0 0 0),(4,.ptr 1 0 0),(7,aL v3),(8,av v4),(28,aV l_),(29,iV (l_.length:Int)),(30,iV g1)],[(0,some (.box [aV l_])),(1,some (.box [aL r_.On,av r_.bJ]))],2⟩) [(1,some 8)] [] <|λ ah g1 hm=>si hm (λ _ hm=>s2 hm λ _ _ hm=>si hm (λ _ hm=>sn hm λ _ hm=>si hm (λ _ hm=>by cases hm;exact re) λ _ hm=>sn hm λ _ hm=>le hm) λ _ hm=>s2 hm λ _ _ hm=>s2 hm λ _ _ hm=>s2 hm λ _ _ hm=>s2 hm λ _ _ hm=>si hm (λ _ hm=>by cases hm;exact re) λ _ hm=>sn hm λ _ hm=>le hm) λ _ hm=>sq hm vC λ v5 hm=>by cases hm;exact re
theorem Fa {s_:gT} (hm:nD s_ r):S 177 [JU s_] [] (.bool r) [] :=sp Tryz.func177 rfl<|lf hm (λ g1=>⟨[(1,.ptr 0 0 0),(3,.dQ 1 0 g1.2.length false),(7,av s_.aU),(8,iV (s_.aU.length:Int)),(9,iV g1.1)],[(0,some (.box [aW s_.bO.bS,aV s_.bO.bI,iV s_.bO.aZ.bZ,bg s_.bO.aZ.aH,dA s_.bO.bA,bV s_.bO.dD,dV s_.dU,av s_.aU,av s_.bB.Setting,aL s_.bB.bX.On,av s_.bB.bX.bJ,bL s_.bB.Uses,aL s_.bB.Released,aL s_.bB.cO,.bool s_.jV])),(1,some (.row 4 g1.2.length (bC Ij eD g1.2)))],2⟩) [(1,none)] [] <|λ ah g1 hm=>si hm (λ _ hm=>s2 hm λ _ _ hm=>s2 hm λ _ _ hm=>lc [(1,some 90)] [] hm) λ _ hm=>sq hm OX λ v1 hm=>sq hm yX λ v2 hm=>by cases hm;exact re
theorem VU {p_:bP} {l_:List oq} {r:((Nat→Int)×Int)} (hm:FD p_ l_ r):S 260 [pW p_,QS l_] [] (.jQ [amo r.1,iV r.2]) [] :=sp Tryz.func260 rfl<|lf hm (λ g1=>⟨[(1,QS l_),(2,.ptr 0 0 0),(4,.ptr 1 0 0),(6,.ptr 2 0 0),(13,iV g1.1)],[(0,some (.box [iV p_.bZ,bg p_.aH])),(1,some (.row 1 64 (Mc iV g1.2.1))),(2,some (.row 1 64 (Mc iV g1.2.2)))],3⟩) [(1,some 8),(2,some 24)] [] <|λ ah g1 hm=>si hm (λ _ hm=>s2 hm λ _ _ hm=>le hm) λ _ hm=>sq hm LY λ v1 hm=>si hm (λ _ hm=>by cases hm;exact re) λ _ hm=>sn hm λ _ hm=>lf hm (λ g2=>⟨[(2,.ptr 0 0 0),(4,.ptr 1 0 0),(6,.ptr 2 0 0),(8,.dQ 3 0 g2.2.2.length false),(27,QS l_),(28,iV (l_.length:Int)),(29,iV g2.1)],[(0,some (.box [iV p_.bZ,bg p_.aH])),(1,some (.row 1 64 (Mc iV g1.2.1))),(2,some (.row 1 64 (Mc iV g2.2.1))),(3,some (.row 1 g2.2.2.length (bC AV.bool false g2.2.2)))],4⟩) [(3,some 59)] [] <|λ dY g2 hm=>si hm (λ _ hm=>s2 hm λ _ _ hm=>si hm (λ _ hm=>by cases hm;exact re) λ _ hm=>sn hm λ _ hm=>si hm (λ _ hm=>by cases hm;exact re) λ _ hm=>s2 hm λ _ _ hm=>lf hm (λ g5=>⟨[(2,.ptr 0 0 0),(4,.ptr 1 0 0),(6,.ptr 2 0 0),(8,.dQ 3 0 g5.2.2.length false),(10,.ptr 4 0 0),(27,QS l_),(28,iV (l_.length:Int)),(29,iV g2.1),(79,av ((p_.aH.getD (((l_.getD g2.1.toNat gq).dz).toNat) aJ).bZ)),(80,iV ((((p_.aH.getD (((l_.getD g2.1.toNat gq).dz).toNat) aJ).bZ).length:Nat):Int)),(81,iV g5.1)],[(0,some (.box [iV p_.bZ,bg p_.aH])),(1,some (.row 1 64 (Mc iV g1.2.1))),(2,some (.row 1 64 (Mc iV g5.2.1))),(3,some (.row 1 g5.2.2.length (bC AV.bool false g5.2.2))),(4,some (.box [iV ((l_.getD g2.1.toNat gq).dz),iV ((l_.getD g2.1.toNat gq).dM)]))],5⟩) [(4,some 28)] [] <|λ nC g5 hm=>si hm (λ _ hm=>s2 hm λ _ _ hm=>si hm (λ _ hm=>by cases hm;exact re) λ _ hm=>s2 hm λ _ _ hm=>le hm) λ _ hm=>sn hm λ _ hm=>le hm) λ _ hm=>by cases hm;exact re
theorem Hy {s_:Nat} {dx:List Int} {r:List Int} (hm:nV s_ dx r):S 163 [.dQ 0 0 s_ false] [.row 1 dx.length (bC iV 0 dx)] (.dQ 1 0 r.length false) [.row 1 dx.length (bC iV 0 dx),.row 1 r.length (bC iV 0 r)] :=by
 obtain ⟨⟨h0,h1⟩,hm⟩:=hm
 have hm:r=dx.take s_:=hm
 have hl:r.length=s_:=by rw [hm,List.length_take]; omega
 refine vS (ct:=[1]) gZ Tryz.func163 rfl rfl (Nat.le_of_ble_eq_true rfl) dk (Nat.le_of_ble_eq_true rfl) ?_
 (conv=>whnf)
 refine afX (ct:=[]) gZ (gZ.slice (t:=22) (e:=3) rfl rfl rfl).1 dk dk dk dk dk [(2,.sl 0 0 true dN),(0,.dQ 0 0 s_ false)] [(0,some (.row 1 dx.length (bC iV 0 dx)))] 9 rfl rfl ?_ (λ hn=>?_) ?_
 ·exact rfl
 ·(conv=>whnf)
  have hn:r.length=0:=hl.trans hn
  refine ⟨[],[(1,none)],?_⟩
  (conv=>whnf)
  exact ⟨⟨rfl,trivial,⟨⟨rfl,rfl,λ _ _=>.refl _⟩,hn,trivial⟩⟩,⟨rfl,rfl,rfl,rfl,rfl,hn⟩⟩
 ·(conv=>whnf)
  refine ⟨by rw [Nat.zero_add]; exact h1,?_⟩
  (conv=>whnf)
  refine ⟨[],[(1,some 25)],?_⟩
  (conv=>whnf)
  subst hm
  exact ⟨⟨rfl,trivial,⟨⟨rfl,rfl,λ _ _=>.refl _⟩,⟨rfl,(Nat.zero_add _).trans hl.symm,iL (l:=[]) rfl (λ _ h=>absurd h (Nat.not_lt_zero _)) hl.symm (lX (f:=iV) (d:=0) h0)⟩,trivial⟩⟩,⟨rfl,rfl,rfl,(Nat.zero_add _).trans hl.symm,nofun⟩⟩
theorem VW {p_:bP} {l_:List oq} {r:List Int×Int} (hm:FE p_ l_ r):S 233 [pW p_,QS l_] [] (.jQ [av r.1,iV r.2]) [] :=spc [4,6] Tryz.func233 rfl<|sq hm VU λ v1 hm=>ck [4,6] (D5 p_) r (λ g1=>⟨[(2,.ptr 0 0 0),(6,.ptr 1 0 0)],[(0,some (.box [iV p_.bZ,bg p_.aH])),(1,some (.row 1 64 (Mc iV g1)))],2⟩) (si hm (λ _ hm=>by cases hm;exact re) λ _ hm=>lce [(1,some 72)] [] hm ⟨rfl,⟨r4,r4,trivial⟩,⟨⟨r2,sr,trivial⟩,⟨rfl,rfl,(abf (f:=iV) (X:=v1.1) (n:=64) (λ _=>rfl))⟩,trivial⟩⟩) λ g1 hm=>sn hm λ _ hm=>sb hm λ v2 hv2 hm=>cl ((Hy hv2).le ⟨.refl _,trivial⟩ ⟨⟨rfl,oz,(amn (f:=iV) (X:=g1))⟩,trivial⟩)<|by cases hm;exact rt [26] []
theorem Mq {s_:gT} (hm:uj s_ r):S 178 [JU s_] [] (.bool r) [] :=sp Tryz.func178 rfl<|lf hm (λ g1=>⟨[(1,.ptr 0 0 0),(3,.dQ 1 0 g1.2.length false),(10,bL s_.bB.Uses),(11,iV (s_.bB.Uses.length:Int)),(12,iV g1.1)],[(0,some (.box [aW s_.bO.bS,aV s_.bO.bI,iV s_.bO.aZ.bZ,bg s_.bO.aZ.aH,dA s_.bO.bA,bV s_.bO.dD,dV s_.dU,av s_.aU,av s_.bB.Setting,aL s_.bB.bX.On,av s_.bB.bX.bJ,bL s_.bB.Uses,aL s_.bB.Released,aL s_.bB.cO,.bool s_.jV])),(1,some (.row 2 g1.2.length (bC amq gq g1.2)))],2⟩) [(1,none)] [] <|λ ah g1 hm=>si hm (λ _ hm=>s2 hm λ _ _ hm=>sn hm λ _ hm=>lc [(1,some 74)] [] hm) λ _ hm=>sq hm VW λ v1 hm=>by cases hm;exact re
theorem EK {s_:gT} (hm:mO s_ r):S 179 [JU s_] [] (.bool r) [] :=sp Tryz.func179 rfl<|l0 hm (λ g1=>⟨[(1,.ptr 0 0 0),(11,av s_.aU),(12,iV (s_.aU.length:Int)),(13,iV g1)],[(0,some (.box [aW s_.bO.bS,aV s_.bO.bI,iV s_.bO.aZ.bZ,bg s_.bO.aZ.aH,dA s_.bO.bA,bV s_.bO.dD,dV s_.dU,av s_.aU,av s_.bB.Setting,aL s_.bB.bX.On,av s_.bB.bX.bJ,bL s_.bB.Uses,aL s_.bB.Released,aL s_.bB.cO,.bool s_.jV]))],1⟩) <|λ ah g1 hm=>si hm (λ _ hm=>sn hm λ _ hm=>lf hm (λ g6=>⟨[(1,.ptr 0 0 0),(4,iV (s_.aU.getD g1.toNat 0)),(5,.mref 1),(11,av s_.aU),(12,iV (s_.aU.length:Int)),(13,iV g1),(20,bL s_.bB.Uses),(21,iV (s_.bB.Uses.length:Int)),(22,iV g6.1)],[(0,some (.box [aW s_.bO.bS,aV s_.bO.bI,iV s_.bO.aZ.bZ,bg s_.bO.aZ.aH,dA s_.bO.bA,bV s_.bO.dD,dV s_.dU,av s_.aU,av s_.bB.Setting,aL s_.bB.bX.On,av s_.bB.bX.bJ,bL s_.bB.Uses,aL s_.bB.Released,aL s_.bB.cO,.bool s_.jV])),(1,some (.map .str [(.int .i64)] g6.2))],2⟩) [(1,some 33)] [] <|λ jD g6 hm=>si hm (λ _ hm=>sn hm λ _ hm=>si hm (λ _ hm=>s2 hm λ _ _ hm=>s2 hm λ _ _ hm=>le hm) λ _ hm=>sn hm λ _ hm=>le hm) λ _ hm=>sn hm λ _ hm=>l0 hm (λ g7=>⟨[(1,.ptr 0 0 0),(5,.mref 1),(11,av s_.aU),(12,iV (s_.aU.length:Int)),(13,iV g1),(54,iA ((s_.dU.getD ((s_.aU.getD g1.toNat 0).toNat) bG).ak)),(55,iV ((((s_.dU.getD ((s_.aU.getD g1.toNat 0).toNat) bG).ak).length:Nat):Int)),(56,iV g7.1)],[(0,some (.box [aW s_.bO.bS,aV s_.bO.bI,iV s_.bO.aZ.bZ,bg s_.bO.aZ.aH,dA s_.bO.bA,bV s_.bO.dD,dV s_.dU,av s_.aU,av s_.bB.Setting,aL s_.bB.bX.On,av s_.bB.bX.bJ,bL s_.bB.Uses,aL s_.bB.Released,aL s_.bB.cO,.bool s_.jV])),(1,some (.map .str [(.int .i64)] g7.2))],2⟩) <|λ nA g7 hm=>si hm (λ _ hm=>s2 hm λ _ _ hm=>si hm (λ _ hm=>by cases hm;exact re) λ _ hm=>sn hm λ _ hm=>le hm) λ _ hm=>sn hm λ _ hm=>le hm) λ _ hm=>by cases hm;exact re
theorem Uu {l_:List eF} {dS:List Bool} (hm:CY l_ dS r):S 261 [dA l_,aL dS] [] (.bool r) [] :=sp Tryz.func261 rfl<|si hm (λ _ hm=>by cases hm;exact re) λ _ hm=>l0 hm (λ g1=>⟨[(1,aL dS),(14,dA l_),(15,iV (l_.length:Int)),(16,iV g1)],[],0⟩) <|λ ah g1 hm=>si hm (λ _ hm=>sn hm λ _ hm=>l0 hm (λ g4=>⟨[(1,aL dS),(5,iV g1),(14,dA l_),(15,iV (l_.length:Int)),(16,iV g1),(22,av ((l_.getD g1.toNat dZ).fF)),(23,iV ((((l_.getD g1.toNat dZ).fF).length:Nat):Int)),(24,iV g4)],[],0⟩) <|λ iN g4 hm=>si hm (λ _ hm=>s2 hm λ _ _ hm=>sn hm λ _ hm=>si hm (λ _ hm=>by cases hm;exact re) λ _ hm=>sn hm λ _ hm=>le hm) λ _ hm=>sn hm λ _ hm=>le hm) λ _ hm=>by cases hm;exact re
theorem Uv {l_:List eF} {dS:List Bool} (hm:CZ l_ dS r):S 234 [dA l_,aL dS] [] (.bool r) [] :=sp Tryz.func234 rfl<|sq hm Jj λ v1 hm=>sb hm λ v2 hv2 hm=>cl (λ q0=>(Uu (hv2 q0)))<|by cases hm;exact re
theorem Fb {Nj:Int} {nO:List ay} {l9:List aF} {yg:Int} {zh:List cB} {sQ:List eF} {yh:List dO} {GK:List aS} {Zc:List Int} {Zd:List Int} {Ze:List Bool} {Nk:List Int} {Nl:List aP} {D6:List Bool} {D7:List Bool} {Nn:Bool} (hm:lg Nj nO l9 yg zh sQ yh GK Zc Zd Ze Nk Nl D6 D7 Nn r):S 236 [iV Nj,.ro [aW nO,aV l9,iV yg,bg zh,dA sQ,bV yh,dV GK,av Zc,av Zd,aL Ze,av Nk,bL Nl,aL D6,aL D7,.bool Nn]] [] (.bool r) [] :=sp Tryz.func236 rfl<|sn hm λ _ hm=>by cases hm;exact re
variable {BL:List ay} {Co:List aF} {Cq:Int} {RU:List cB} {RV:List eF} {RX:List dO} {Me:List aS} {RY:List Int} {RZ:List Int} {R3:List Bool} {vX:List Int} {vY:List aP} {um:List Bool} {uo:List Bool} {vZ:Bool}
theorem Ci {r:Int} (hm:wJ s_ BL Co Cq RU RV RX Me RY RZ R3 vX vY um uo vZ r):S 262 [av s_,.fn 236 [.ro [aW BL,aV Co,iV Cq,bg RU,dA RV,bV RX,dV Me,av RY,av RZ,aL R3,av vX,bL vY,aL um,aL uo,.bool vZ]]] [] (iV r) [] :=sp Tryz.func262 rfl<|l0 hm (λ g1=>⟨[(0,av s_),(1,.fn 236 [.ro [aW BL,aV Co,iV Cq,bg RU,dA RV,bV RX,dV Me,av RY,av RZ,aL R3,av vX,bL vY,aL um,aL uo,.bool vZ]]),(7,iV (s_.length:Int)),(8,iV g1)],[],0⟩) <|λ ah g1 hm=>si hm (λ _ hm=>sn hm λ _ hm=>sq hm Fb λ v3 hm=>si hm (λ _ hm=>by cases hm;exact re) λ _ hm=>sn hm λ _ hm=>le hm) λ _ hm=>by cases hm;exact re
theorem zl (hm:mH s_ BL Co Cq RU RV RX Me RY RZ R3 vX vY um uo vZ r):S 235 [av s_,.fn 236 [.ro [aW BL,aV Co,iV Cq,bg RU,dA RV,bV RX,dV Me,av RY,av RZ,aL R3,av vX,bL vY,aL um,aL uo,.bool vZ]]] [] (.bool r) [] :=sp Tryz.func235 rfl<|sq hm Ci λ v1 hm=>by cases hm;exact re
theorem Jp {s_:gT} (hm:qj s_ r):S 180 [JU s_] [] (.bool r) [] :=sp Tryz.func180 rfl<|sq hm Uv λ v1 hm=>si hm (λ _ hm=>by cases hm;exact re) λ _ hm=>l0 hm (λ g1=>⟨[(1,.ptr 0 0 0),(14,av s_.aU),(15,iV (s_.aU.length:Int)),(16,iV g1)],[(0,some (.box [aW s_.bO.bS,aV s_.bO.bI,iV s_.bO.aZ.bZ,bg s_.bO.aZ.aH,dA s_.bO.bA,bV s_.bO.dD,dV s_.dU,av s_.aU,av s_.bB.Setting,aL s_.bB.bX.On,av s_.bB.bX.bJ,bL s_.bB.Uses,aL s_.bB.Released,aL s_.bB.cO,.bool s_.jV]))],1⟩) <|λ ah g1 hm=>si hm (λ _ hm=>s2 hm λ _ _ hm=>sq hm zl λ v4 hm=>si hm (λ _ hm=>by cases hm;exact re) λ _ hm=>sn hm λ _ hm=>le hm) λ _ hm=>by cases hm;exact re
theorem yY {l_:List dO} {nW:List Bool} (hm:uq l_ nW r):S 106 [bV l_,aL nW] [] (.bool r) [] :=sp Tryz.func106 rfl<|si hm (λ _ hm=>by cases hm;exact re) λ _ hm=>l0 hm (λ g1=>⟨[(1,aL nW),(12,bV l_),(13,iV (l_.length:Int)),(14,iV g1)],[],0⟩) <|λ ah g1 hm=>si hm (λ _ hm=>s2 hm λ _ _ hm=>s2 hm λ _ _ hm=>si hm (λ _ hm=>by cases hm;exact re) λ _ hm=>sn hm λ _ hm=>le hm) λ _ hm=>by cases hm;exact re
theorem Uw {l_:List dO} {nW:List Bool} (hm:C8 l_ nW r):S 237 [bV l_,aL nW] [] (.bool r) [] :=sp Tryz.func237 rfl<|sq hm yT λ v1 hm=>sb hm λ v2 hv2 hm=>cl (λ q0=>(yY (hv2 q0)))<|by cases hm;exact re
theorem EL {m_:Int} {nO:List ay} {l9:List aF} {yg:Int} {zh:List cB} {sQ:List eF} {yh:List dO} {GK:List aS} {Zc:List Int} {Zd:List Int} {Ze:List Bool} {Nk:List Int} {Nl:List aP} {D6:List Bool} {D7:List Bool} {Nn:Bool} (hm:kC m_ nO l9 yg zh sQ yh GK Zc Zd Ze Nk Nl D6 D7 Nn r):S 238 [iV m_,.ro [aW nO,aV l9,iV yg,bg zh,dA sQ,bV yh,dV GK,av Zc,av Zd,aL Ze,av Nk,bL Nl,aL D6,aL D7,.bool Nn]] [] (.bool r) [] :=sp Tryz.func238 rfl<|s2 hm λ _ _ hm=>by cases hm;exact re
theorem Cj {r:Int} (hm:wK s_ BL Co Cq RU RV RX Me RY RZ R3 vX vY um uo vZ r):S 262 [av s_,.fn 238 [.ro [aW BL,aV Co,iV Cq,bg RU,dA RV,bV RX,dV Me,av RY,av RZ,aL R3,av vX,bL vY,aL um,aL uo,.bool vZ]]] [] (iV r) [] :=sp Tryz.func262 rfl<|l0 hm (λ g1=>⟨[(0,av s_),(1,.fn 238 [.ro [aW BL,aV Co,iV Cq,bg RU,dA RV,bV RX,dV Me,av RY,av RZ,aL R3,av vX,bL vY,aL um,aL uo,.bool vZ]]),(7,iV (s_.length:Int)),(8,iV g1)],[],0⟩) <|λ ah g1 hm=>si hm (λ _ hm=>sn hm λ _ hm=>sq hm EL λ v3 hm=>si hm (λ _ hm=>by cases hm;exact re) λ _ hm=>sn hm λ _ hm=>le hm) λ _ hm=>by cases hm;exact re
theorem zm (hm:mI s_ BL Co Cq RU RV RX Me RY RZ R3 vX vY um uo vZ r):S 235 [av s_,.fn 238 [.ro [aW BL,aV Co,iV Cq,bg RU,dA RV,bV RX,dV Me,av RY,av RZ,aL R3,av vX,bL vY,aL um,aL uo,.bool vZ]]] [] (.bool r) [] :=sp Tryz.func235 rfl<|sq hm Cj λ v1 hm=>by cases hm;exact re
theorem Hz {s_:gT} (hm:nX s_ r):S 181 [JU s_] [] (.bool r) [] :=sp Tryz.func181 rfl<|sq hm Uw λ v1 hm=>si hm (λ _ hm=>by cases hm;exact re) λ _ hm=>sq hm zm λ v2 hm=>by cases hm;exact re
theorem oW {s_:gT} {r:Int} (hm:kM s_ r):S 109 [JU s_] [] (iV r) [] :=sp Tryz.func109 rfl<|by
 refine WR 9 ?_
 refine jg (ct:=[]) gZ dk ?_
 (conv=>whnf)
 refine aO hm λ h1 hm=>?_
 (conv=>whnf)
 refine dh hm λ v1 hv1 hm=>?_
 refine ⟨_,_,(Kt hv1),?_⟩
 (conv=>whnf)
 refine fQ hm (λ c1 hm=>?_) (λ c1 hm=>?_)
 ·(conv=>whnf)
  refine aO hm λ h2 hm=>?_
  (conv=>whnf)
  have hm:r=((0:Int)+(1:Int)):=hm
  subst hm
  refine ⟨[],[],?_⟩
  (conv=>whnf)
  exact ⟨⟨rfl,trivial,trivial⟩,r2⟩
 ·(conv=>whnf)
  refine aO hm λ h3 hm=>?_
  (conv=>whnf)
  refine jg (ct:=[]) gZ dk ?_
  (conv=>whnf)
  refine aO hm λ h4 hm=>?_
  (conv=>whnf)
  refine dh hm λ v2 hv2 hm=>?_
  refine ⟨_,_,(Jl hv2),?_⟩
  (conv=>whnf)
  refine fQ hm (λ c2 hm=>?_) (λ c2 hm=>?_)
  ·(conv=>whnf)
   refine aO hm λ h5 hm=>?_
   (conv=>whnf)
   have hm:r=(((0:Int)+(1:Int))+(1:Int)):=hm
   subst hm
   refine ⟨[],[],?_⟩
   (conv=>whnf)
   exact ⟨⟨rfl,trivial,trivial⟩,r2⟩
  ·(conv=>whnf)
   refine aO hm λ h6 hm=>?_
   (conv=>whnf)
   refine jg (ct:=[]) gZ dk ?_
   (conv=>whnf)
   refine aO hm λ h7 hm=>?_
   (conv=>whnf)
   refine dh hm λ v3 hv3 hm=>?_
   refine ⟨_,_,(Jo hv3),?_⟩
   (conv=>whnf)
   refine fQ hm (λ c3 hm=>?_) (λ c3 hm=>?_)
   ·(conv=>whnf)
    refine aO hm λ h8 hm=>?_
    (conv=>whnf)
    have hm:r=((((0:Int)+(1:Int))+(1:Int))+(1:Int)):=hm
    subst hm
    refine ⟨[],[],?_⟩
    (conv=>whnf)
    exact ⟨⟨rfl,trivial,trivial⟩,r2⟩
   ·(conv=>whnf)
    refine aO hm λ h9 hm=>?_
    (conv=>whnf)
    refine jg (ct:=[]) gZ dk ?_
    (conv=>whnf)
    refine aO hm λ h10 hm=>?_
    (conv=>whnf)
    refine dh hm λ v4 hv4 hm=>?_
    refine ⟨_,_,(Fa hv4),?_⟩
    (conv=>whnf)
    refine fQ hm (λ c4 hm=>?_) (λ c4 hm=>?_)
    ·(conv=>whnf)
     refine aO hm λ h11 hm=>?_
     (conv=>whnf)
     have hm:r=(((((0:Int)+(1:Int))+(1:Int))+(1:Int))+(1:Int)):=hm
     subst hm
     refine ⟨[],[],?_⟩
     (conv=>whnf)
     exact ⟨⟨rfl,trivial,trivial⟩,r2⟩
    ·(conv=>whnf)
     refine aO hm λ h12 hm=>?_
     (conv=>whnf)
     refine jg (ct:=[]) gZ dk ?_
     (conv=>whnf)
     refine aO hm λ h13 hm=>?_
     (conv=>whnf)
     refine dh hm λ v5 hv5 hm=>?_
     refine ⟨_,_,(Mq hv5),?_⟩
     (conv=>whnf)
     refine fQ hm (λ c5 hm=>?_) (λ c5 hm=>?_)
     ·(conv=>whnf)
      refine aO hm λ h14 hm=>?_
      (conv=>whnf)
      have hm:r=((((((0:Int)+(1:Int))+(1:Int))+(1:Int))+(1:Int))+(1:Int)):=hm
      subst hm
      refine ⟨[],[],?_⟩
      (conv=>whnf)
      exact ⟨⟨rfl,trivial,trivial⟩,r2⟩
     ·(conv=>whnf)
      refine aO hm λ h15 hm=>?_
      (conv=>whnf)
      refine jg (ct:=[]) gZ dk ?_
      (conv=>whnf)
      refine aO hm λ h16 hm=>?_
      (conv=>whnf)
      refine dh hm λ v6 hv6 hm=>?_
      refine ⟨_,_,(EK hv6),?_⟩
      (conv=>whnf)
      refine fQ hm (λ c6 hm=>?_) (λ c6 hm=>?_)
      ·(conv=>whnf)
       refine aO hm λ h17 hm=>?_
       (conv=>whnf)
       have hm:r=(((((((0:Int)+(1:Int))+(1:Int))+(1:Int))+(1:Int))+(1:Int))+(1:Int)):=hm
       subst hm
       refine ⟨[],[],?_⟩
       (conv=>whnf)
       exact ⟨⟨rfl,trivial,trivial⟩,r2⟩
      ·(conv=>whnf)
       refine aO hm λ h18 hm=>?_
       (conv=>whnf)
       refine jg (ct:=[]) gZ dk ?_
       (conv=>whnf)
       refine aO hm λ h19 hm=>?_
       (conv=>whnf)
       refine dh hm λ v7 hv7 hm=>?_
       refine ⟨_,_,(Jp hv7),?_⟩
       (conv=>whnf)
       refine fQ hm (λ c7 hm=>?_) (λ c7 hm=>?_)
       ·(conv=>whnf)
        refine aO hm λ h20 hm=>?_
        (conv=>whnf)
        have hm:r=((((((((0:Int)+(1:Int))+(1:Int))+(1:Int))+(1:Int))+(1:Int))+(1:Int))+(1:Int)):=hm
        subst hm
        refine ⟨[],[],?_⟩
        (conv=>whnf)
        exact ⟨⟨rfl,trivial,trivial⟩,r2⟩
       ·(conv=>whnf)
        refine aO hm λ h21 hm=>?_
        (conv=>whnf)
        refine jg (ct:=[]) gZ dk ?_
        (conv=>whnf)
        refine aO hm λ h22 hm=>?_
        (conv=>whnf)
        refine dh hm λ v8 DJ hm=>?_
        refine ⟨_,_,(Hz DJ),?_⟩
        (conv=>whnf)
        refine fQ hm (λ c8 hm=>?_) (λ c8 hm=>?_)
        ·(conv=>whnf)
         refine aO hm λ h23 hm=>?_
         (conv=>whnf)
         have hm:r=(((((((((0:Int)+(1:Int))+(1:Int))+(1:Int))+(1:Int))+(1:Int))+(1:Int))+(1:Int))+(1:Int)):=hm
         subst hm
         refine ⟨[],[],?_⟩
         (conv=>whnf)
         exact ⟨⟨rfl,trivial,trivial⟩,r2⟩
        ·(conv=>whnf)
         refine aO hm λ h24 hm=>?_
         (conv=>whnf)
         refine jg (ct:=[]) gZ dk ?_
         (conv=>whnf)
         have hm:r=(0:Int):=hm
         subst hm
         refine ⟨[],[],?_⟩
         (conv=>whnf)
         exact ⟨⟨rfl,trivial,trivial⟩,r2⟩
end Go.Proofs.YtifekdmmpbcdgaaGreatDoor

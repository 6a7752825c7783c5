/- A part of the proof. -/
import Derived.Test.YtnbjfoeapbncjaaGreatDoorA5
import Derived.Test.YtnbjfoeapbncjaaGreatDoorProg
import Derived.Test.YtnbjfoeapbncjaaGreatDoorA4
import Derived.RangeFuncBox
import Derived.RangeFuncLeaves
import Derived.Shelf.Abstract
import Derived.WalkKit
import Derived.OwnWalkIn
import Derived.TacticsInMore
import Derived.LoopNIn
import Derived.LoopIn
import Derived.Test.YtnbjfoeapbncjaaGreatDoorCards
import Derived.Test.YtnbjfoeapbncjaaGreatDoorTie
import Derived.ProofKit
import Derived.OpenShut
import Derived.Carry
import Derived.LaidMore
import Derived.Deep.DeepHandedRow
import Derived.Deep.Grids
set_option maxHeartbeats 20000000
set_option linter.unusedVariables false
set_option linter.unusedSimpArgs false
namespace Go.Proofs.YtnbjfoeapbncjaaGreatDoor
open Go.Ab
set_option maxRecDepth 100000
theorem cnt_mono:∀ {S T:List Bool},S.length=T.length→(∀i,S.getD i false=true→T.getD i false=true)→cnt S≤cnt T∧(cnt S=cnt T→S=T)
 | [],[],_,_=>⟨Nat.le_refl _,λ _=>rfl⟩
 | a::S,b::T,hl,h=>by
  have hl:S.length=T.length:=by simpa using hl
  obtain ⟨h1,h2⟩:=cnt_mono hl λ i=>h (i+1);have h0:a=true→b=true:=h 0;have ea:cnt (a::S)=cnt S+(if a=true then 1 else 0):=by unfold cnt; rw [List.countP_cons]
  have eb:cnt (b::T)=cnt T+(if b=true then 1 else 0):=by unfold cnt; rw [List.countP_cons]
  rw [ea,eb];cases a<;>cases b
  ·refine ⟨by simpa using h1,λ q=>by rw [h2 (by simpa using q)]⟩
  ·refine ⟨by simp; omega,λ q=>by simp at q; omega⟩
  ·cases h0 rfl
  ·refine ⟨by simpa using h1,λ q=>by rw [h2 (by simpa using q)]⟩
structure Rs (l:List ay) (d:Int) (S:List Bool):Prop where
 ln:S.length=l.length
 st:Mk S d
 so:∀x:Int,M5 l x→Mk S x→Jq l d x
def Cls (l:List ay) (S:List Bool):Prop:=∀x y,En l x y→Mk S x→Mk S y
variable {l:List ay}
theorem Jq.snoc {x y z:Int} (h:Jq l x y) (k:En l y z):Jq l x z:=h.trans (.s k (.z k.2.1))
theorem Yj {S:List Bool} {x y:Int} (hx:x.toNat<S.length) (h:Mk S y):Mk (S.set x.toNat true) y:=by
 unfold Mk at h ⊢;by_cases e:y.toNat=x.toNat
 ·rw [e]; exact OD hx
 ·rw [ko e]; exact h
theorem N7 {d o:Int} (h:PvS l) (hd:M5 l d):W (tu l d o) (λ b=>b=true↔Jq l d o):=by
 have hn:=h.n;unfold tu;refine aR (by unfold big; omega) ?_;refine fO (λ c=>by have c:=vP c; have:=hd.1; have:=hd.2; omega) (λ _=>?_);refine aR (by have:=hd.1; have:=hd.2; omega) ?_;have hdl:d.toNat<(List.replicate (l.length:Int).toNat false).length:=by rw [List.length_replicate]; have:=hd.1; have:=hd.2; omega
 have hrep:∀i:Nat,(List.replicate (l.length:Int).toNat false).getD i false=false:=λ i=>by
  rw [List.getD_eq_getElem?_getD,List.getElem?_replicate]; split<;>rfl
 have hc0:cnt ((List.replicate (l.length:Int).toNat false).set d.toNat true)=1:=by
  rw [UQ hdl (hrep _)]; unfold cnt; rw [List.countP_replicate]; rfl
 refine fK (λ g:Int×List Bool=>0≤g.1∧g.1≤l.length∧Rs l d g.2∧(Cls l g.2∨g.1<cnt g.2)) (λ g=>(l.length - g.1).toNat) ?_ ⟨Int.le_refl _,by dsimp only; omega,⟨by rw [List.length_set,List.length_replicate]; omega,OD hdl,λ x hx q=>?_⟩,.inr (by dsimp only; rw [hc0]; decide)⟩;rotate_left
 ·by_cases e:x=d
  ·rw [e]; exact .z hd
  ·unfold Mk at q;dsimp only at q;rw [ko (by have:=hx.1; have:=hd.1; omega),hrep] at q;cases q
 rintro av ⟨n,S⟩ ⟨b1,b2,b3,b4⟩ ih;dsimp only at b1 b2 b3 b4;unfold zG;dsimp only;refine wi ?_ ?_<;>intro c1
 ·refine fK (λ g:Int×List Bool=>0≤g.1∧g.1≤l.length∧Rs l d g.2∧(∀i:Nat,S.getD i false=true→g.2.getD i false=true)∧∀x y,En l x y→x<g.1→Mk S x→Mk g.2 y) (λ g=>(l.length - g.1).toNat) ?_ ⟨Int.le_refl _,by dsimp only; omega,b3,λ _ q=>q,λ x y he q=>by have:=he.1.1; dsimp only at q; omega⟩;rintro dL ⟨i,T⟩ ⟨d1,d2,d3,d4,d5⟩ ih2;dsimp only at d1 d2 d3 d4 d5;unfold zF;dsimp only;refine wi ?_ ?_<;>intro c2
  ·have hi:M5 l i:=⟨d1,c2⟩;have hp:(l.getD i.toNat bE).aO.length≤100:=h.p i hi;refine aR om ?_;refine fK (λ g:Int×List Bool=>0≤g.1∧Rs l d g.2∧(∀k:Nat,T.getD k false=true→g.2.getD k false=true)∧∀j:Nat,(j:Int)<g.1→M5 l ((l.getD i.toNat bE).aO.getD j 0)→Mk S i→Mk g.2 ((l.getD i.toNat bE).aO.getD j 0)) (λ g=>((l.getD i.toNat bE).aO.length - g.1).toNat) ?_ ⟨Int.le_refl _,d3,λ _ q=>q,λ j hj=>by dsimp only at hj; omega⟩;rintro iZ ⟨k,U⟩ ⟨e1,e2,e3,e4⟩ ih3;dsimp only at e1 e2 e3 e4;have hul:=e2.ln;unfold yc;dsimp only;refine wi ?_ ?_<;>intro c3
   ·have hm:=getD_in (l:=(l.getD i.toNat bE).aO) (i:=k.toNat) 0 om;generalize hy:(l.getD i.toNat bE).aO.getD k.toNat 0=y at *;refine aR om (aR om ?_);refine fO ?_ ?_<;>intro c4
    ·simp only [Bool.and_eq_true,decide_eq_true_eq] at c4;obtain ⟨⟨c4,c5⟩,c6⟩:=c4;have hye:En l i y:=⟨hi,⟨c5,c6⟩,hm⟩;have hyl:y.toNat<U.length:=by omega
     refine aR om (aR (by unfold aG; omega) (ih3 _ ⟨by dsimp only; omega,⟨by rw [List.length_set]; exact hul,Yj hyl e2.st,λ x hx q=>?_⟩,λ q p=>?_,?_⟩ (by dsimp only; omega)))
     ·by_cases e:x=y
      ·rw [e]; exact (e2.so i hi c4).snoc hye
      ·refine e2.so x hx ?_;unfold Mk at q ⊢;dsimp only at q;rw [ko (by have:=hx.1; omega)] at q; exact q
     ·exact Yj (x:=y) (y:=(q:Int)) hyl (e3 q p)
     ·dsimp only;refine jm (λ j hj hr q=>Yj hyl (e4 j hj hr q)) e1 λ _ _=>?_;rw [hy]; exact OD hyl
    ·refine aR (by unfold aG; omega) (ih3 _ ⟨by dsimp only; omega,e2,e3,?_⟩ (by dsimp only; omega));dsimp only;refine jm e4 e1 λ hr q=>?_;rw [hy] at hr ⊢;exfalso;have:U.getD i.toNat false=true:=e3 _ (d4 _ q);rw [this,decide_eq_true hr.1,decide_eq_true hr.2] at c4;cases c4
   ·refine aR (by unfold aG; omega) (ih2 _ ⟨by dsimp only; omega,by dsimp only; omega,e2,λ q p=>e3 q (d4 q p),λ x y he q p=>?_⟩ (by dsimp only; omega));dsimp only at q ⊢;by_cases e:x=i
    ·subst e;have hmem:y∈(l.getD x.toNat bE).aO:=he.2.2;obtain ⟨j,hj,ej⟩:=List.mem_iff_getElem.1 hmem;have e5:(l.getD x.toNat bE).aO.getD j 0=y:=by
      rw [List.getD_eq_getElem?_getD,List.getElem?_eq_getElem hj,← ej]; rfl
     have:=e4 j om (by rw [e5]; exact he.2.1) p;rw [e5] at this; exact this
    ·exact e3 _ (d5 x y he om p)
  ·refine aR (by unfold aG; omega) (ih _ ⟨by dsimp only; omega,by dsimp only; omega,d3,?_⟩ (by dsimp only; omega));dsimp only;obtain ⟨q1,q2⟩:=cnt_mono (S:=S) (T:=T) (by rw [b3.ln,d3.ln]) d4;by_cases e:cnt S=cnt T
   ·left;have:=q2 e;subst this;exact λ x y he p=>d5 x y he (by have:=he.1.2; omega) p
   ·rcases b4 with b4 | b4
    ·exfalso;refine e (congrArg cnt ?_);refine (List.ext_getElem (by rw [b3.ln,d3.ln]) λ j h1 h2=>?_);have hj:M5 l (j:Int):=⟨om,by have:=b3.ln; omega⟩;have hall:∀x,Jq l d x→Mk S x:=λ x w=>by
      have:∀a b,Jq l a b→Mk S a→Mk S b:=by
       intro a b w;induction w with
       | z _=>exact λ q=>q
       | s he _ ih=>exact λ q=>ih (b4 _ _ he q)
      exact this d x w b3.st
     have e1:S.getD j false=S[j]:=acI h1;have e2:T.getD j false=T[j]:=acI h2;cases hs:S[j] with
     | true=>rw [← e2]; exact (d4 j (by rw [e1]; exact hs)).symm
     | false=>
      cases ht:T[j] with
      | false=>rfl
      | true=>
       have h3:=hall (j:Int) (d3.so (j:Int) hj (by unfold Mk; rw [show ((j:Int)).toNat=j from rfl,e2]; exact ht));unfold Mk at h3;rw [show ((j:Int)).toNat=j from rfl,e1,hs] at h3; cases h3
    ·right; omega
 ·have hcl:Cls l S:=by
   rcases b4 with b4 | b4
   ·exact b4
   ·have:=UR (D:=S);have:=b3.ln;exfalso; omega
  refine aR (λ q=>by rw [Bool.and_eq_true,decide_eq_true_eq,decide_eq_true_eq] at q; rw [b3.ln]; exact q) (bY ?_);rw [Bool.and_eq_true,Bool.and_eq_true,decide_eq_true_eq,decide_eq_true_eq];constructor
  ·rintro ⟨q1,q2⟩; exact b3.so o q1 q2
  ·intro w;have:∀a b,Jq l a b→Mk S a→Mk S b:=by
    intro a b w;induction w with
    | z _=>exact λ q=>q
    | s he _ ih=>exact λ q=>ih (hcl _ _ he q)
   exact ⟨w.inr.2,this d o w b3.st⟩
theorem BH:pI true:=M.abL 100 _ _ (by decide +kernel)
theorem WI:W (bnd pI λ v=>ret v) (λ r=>r=true):=dD (H7 BH) λ _ h=>bY h
theorem acK {c:Bool} (hc:c=true):W (grd (c=true) pI) (λ r=>r=true):=abN (SS λ _=>H7 BH) λ _ h=>h hc
theorem WJ {l_:List Int}:W (ED l_) (λ r=>r.2=0∧r.1.length≤600):=by
 unfold ED;refine aR (by split<;>omega) (bY ⟨rfl,?_⟩);dsimp only;rw [List.length_take];split<;>omega
def b0:aW:=⟨([]:List bf),([]:List aL),(⟨(0:Int),([]:List fA)⟩:bI),([]:List fF),([]:List eF)⟩
theorem ahR:ahc b0:=⟨by decide,nofun,by decide,nofun,by decide,nofun,by decide,nofun,by decide⟩
theorem ahS:aci b0:=⟨by decide,λ i hi=>absurd hi (Nat.not_lt_zero _),by decide,nofun,by decide,nofun,by decide⟩
theorem akE:Gw b0 0:=by
 refine lW (by decide) (lW (by decide) (lW ?_ (lW ?_ ?_)))
 ·refine kH (by decide) (kH (by decide) (EH λ k hk=>absurd hk (Nat.not_lt_zero _)))
 ·exact kH (by decide) (EH λ k hk=>absurd hk (Nat.not_lt_zero _))
 ·exact kH (by decide) (kH (λ ⟨i,hi,_⟩=>absurd hi (by show ¬((i:Int)<0); omega)) rfl)
def sel (bound:List Bool) (l:List ay) (k:Nat):List Int:=if bound.getD k false=true then [] else (l.getD k bE).aO
def BL (bound:List Bool) (l:List ay):List (List Int):=(List.range l.length).map λ k=>sel bound l k
variable {bound:List Bool}
theorem Q7:(BL bound l).length=l.length:=by unfold BL; rw [List.length_map,List.length_range]
theorem Yk {k:Nat} (h:k<l.length):(BL bound l).getD k []=sel bound l k:=by
 unfold BL;rw [List.getD_eq_getElem?_getD,List.getElem?_map,List.getElem?_range h]; rfl
theorem aeH {L:List (List Int)} (hl:L.length=l.length) (h:∀k:Nat,k<l.length→L.getD k []=sel bound l k):L=BL bound l:=
 Jh [] (by rw [Q7]; exact hl) λ i hi=>by rw [h i om,Yk om]
structure Nd (l:List ay):Prop where
 n:l.length≤8
 g:∀x∈l,UY b0 (l.length:Int) x
theorem Nd.pr (h:Nd l) {k:Nat} (hk:k<l.length):adV (l.length:Int) (l.getD k bE).aO:=(h.g _ (getD_in bE hk)).pr
theorem Nd.pvs (h:Nd l):PvS l:=⟨by have:=h.n; omega,λ x hx=>(h.pr (k:=x.toNat) (by have:=hx.1; have:=hx.2; omega)).1⟩
theorem Nd.sz (h:Nd l):afP l:=⟨by have:=h.n; omega,λ n hn=>by have a:=(h.g n hn).rs.1; have c:=(h.g n hn).pr.1; omega⟩
theorem Nd.gr (h:Nd l) (bound:List Bool):Gr (BL bound l):=by
 have hs:∀i:Nat,i<l.length→(sel bound l i).length≤100∧(∀x∈sel bound l i,0≤x∧x<l.length)∧UM (sel bound l i):=λ i hi=>by
  unfold sel;split
  ·exact ⟨Nat.zero_le _,nofun,OC⟩
  ·exact h.pr hi
 refine ⟨by rw [Q7]; have:=h.n; omega,λ i hi=>?_,λ i hi=>?_,λ i hi=>?_⟩<;>rw [Q7] at hi<;>rw [Yk hi]
 ·exact (hs i hi).1
 ·rw [Q7]; exact (hs i hi).2.1
 ·exact (hs i hi).2.2
theorem Nd.en (h:Nd l) {x y:Int} (e:Ed (BL bound l) x y):En l x y:=by
 obtain ⟨e1,e2,e3⟩:=e;rw [Q7] at e2;have hx:x.toNat<l.length:=by omega
 rw [Yk hx] at e3;unfold sel at e3;split at e3
 ·cases e3
 ·exact ⟨⟨e1,e2⟩,(h.pr hx).2.1 y e3,e3⟩
theorem K9 (h:Nd l) (hb:bound.length≤20):W (mV l bound) (λ c=>(c=[]∧∀a:Int,0≤a→a<(BL bound l).length→NoC (BL bound l) a)∨Cyc (BL bound l) c):=by
 have hn:=h.n;unfold mV;refine fO (λ c=>by have c:=vP c; omega) (λ _=>?_);refine aR (by unfold big; omega) ?_;refine fK (λ g:Int×List (List Int)=>0≤g.1∧g.1≤l.length∧g.2.length=l.length∧∀k:Nat,k<l.length→g.2.getD k []=if (k:Int)<g.1 then sel bound l k else []) (λ g=>(l.length - g.1).toNat) ?_ ⟨Int.le_refl _,by dsimp only; omega,by dsimp only; rw [List.length_replicate]; omega,λ k hk=>?_⟩;rotate_left
 ·dsimp only;rw [if_neg om,List.getD_eq_getElem?_getD,List.getElem?_replicate]; split<;>rfl
 rintro av ⟨i,L⟩ ⟨a1,a2,a3,a4⟩ ih;dsimp only at a1 a2 a3 a4;unfold xV;dsimp only;refine wi ?_ ?_<;>intro c1
 ·have hi:i.toNat<l.length:=by omega
  refine aR om (aR (λ q=>by have q:=vP q; omega) ?_);have hbd:((decide ((bound.length:Int)≤i))||(!(bound.getD i.toNat false)))=!(bound.getD i.toNat false):=by
   by_cases e:(bound.length:Int)≤i
   ·have:bound.getD i.toNat false=false:=by rw [List.getD_eq_getElem?_getD,List.getElem?_eq_none om]; rfl
    rw [this,decide_eq_true e]; rfl
   ·rw [decide_eq_false e]; rfl
  rw [hbd];refine fO ?_ ?_<;>intro c2
  ·have c2:bound.getD i.toNat false=false:=by revert c2; cases bound.getD i.toNat false<;>simp
   refine dD (Gv (by have:=(h.pr hi).1; omega)) λ v3 hv3=>?_;subst hv3;refine aR om (aR (by unfold aG; omega) (ih _ ⟨by dsimp only; omega,by dsimp only; omega,by dsimp only; rw [List.length_set]; exact a3,λ k hk=>?_⟩ (by dsimp only; omega)));dsimp only;by_cases e:k=i.toNat
   ·subst e;rw [yh om,if_pos om];unfold sel; rw [c2]; rfl
   ·rw [ko e,a4 k hk];by_cases e2:(k:Int)<i
    ·rw [if_pos e2,if_pos om]
    ·rw [if_neg e2,if_neg om]
  ·have c2:bound.getD i.toNat false=true:=by revert c2; cases bound.getD i.toNat false<;>simp
   refine aR (by unfold aG; omega) (ih _ ⟨by dsimp only; omega,by dsimp only; omega,a3,λ k hk=>?_⟩ (by dsimp only; omega));dsimp only;rw [a4 k hk];by_cases e:k=i.toNat
   ·subst e;rw [if_neg om,if_pos om];unfold sel; rw [c2]; rfl
   ·by_cases e2:(k:Int)<i
    ·rw [if_pos e2,if_pos om]
    ·rw [if_neg e2,if_neg om]
 ·have hL:L=BL bound l:=aeH a3 λ k hk=>by rw [a4 k hk,if_pos om]
  subst hL;exact dD (Q6 (h.gr bound)) λ v hv=>bY hv
theorem Tq {c:List Int} (hc:0<c.length) (he:∀k,k<c.length→En l (c.getD k 0) (c.getD ((k+1) % c.length) 0)):∀m k,k<c.length→Jq l (c.getD k 0) (c.getD ((k+m) % c.length) 0)
 | 0,k,hk=>by rw [Nat.add_zero,Nat.mod_eq_of_lt hk]; exact .z (he k hk).1
 | m+1,k,hk=>by
  have h1:=Tq hc he m k hk;have h2:=he ((k+m) % c.length) (Nat.mod_lt _ hc);have e:((k+m) % c.length+1) % c.length=(k+(m+1)) % c.length:=by rw [Nat.mod_add_mod,Nat.add_assoc]
  rw [e] at h2;exact h1.snoc h2
theorem acL {c:List Int} (hc:0<c.length) (he:∀k,k<c.length→En l (c.getD k 0) (c.getD ((k+1) % c.length) 0)) {d:Int}:(∃y∈c,Jq l d y)↔Jq l d (c.getD 0 0):=by
 constructor
 ·rintro ⟨y,hy,w⟩;obtain ⟨k,hk,ek⟩:=List.mem_iff_getElem.1 hy;have e5:c.getD k 0=y:=by
   rw [List.getD_eq_getElem?_getD,List.getElem?_eq_getElem hk,← ek]; rfl
  have:=Tq hc he (c.length - k) k hk;rw [e5,show k+(c.length - k)=c.length by omega,Nat.mod_self] at this;exact w.trans this
 ·exact λ w=>⟨_,getD_in 0 hc,w⟩
theorem La {b:aW} {r:eT} (h:Nd l) (hc:0<r.dW.length) (hc1:r.dW.length≤13) (he:∀k,k<r.dW.length→En l (r.dW.getD k 0) (r.dW.getD ((k+1) % r.dW.length) 0)) (hd:M5 l r.dM):W (qL b l r) (λ v=>v=true↔∃y∈r.dW,Jq l r.dM y):=by
 unfold qL;refine fO (λ c=>by have c:=vP c; omega) (λ _=>?_);refine fK (λ g:Int=>0≤g) (λ g=>(r.dW.length - g).toNat) ?_ (Int.le_refl _);intro av g a1 ih;obtain ⟨k,rfl⟩:∃k:Nat,g=k:=⟨g.toNat,om⟩;unfold x9;refine fO (λ c1=>?_) (λ _=>dD (WH h.pvs om hd) λ v hv=>bY hv);have c1:=vP c1;have hk:k<r.dW.length:=by omega
 have hm:((k:Int)+1).tmod (r.dW.length:Int)=(((k+1) % r.dW.length:Nat):Int):=(Int.ofNat_tmod (k+1) r.dW.length).symm;have hml:=Nat.mod_lt (k+1) hc;obtain ⟨⟨e1,e2⟩,e3,e4⟩:=he k hk;rw [hm];simp only [Int.toNat_natCast];refine aR om (aR (by unfold aG; omega) (aR om (aR om (aR (λ _=>⟨e1,e2⟩) ?_))));have hp:=(h.pr (k:=(r.dW.getD k 0).toNat) om).1;refine dD (SS λ _=>H7 (jJ om)) λ v hv=>?_;have hcd:((decide (r.dW.getD k 0<(0:Int)))||(decide ((l.length:Int)≤r.dW.getD k 0)))=false:=by
  rw [decide_eq_false om,decide_eq_false om]; rfl
 rw [hcd] at hv ⊢;have hv:=hv rfl;have e4:r.dW.getD ((k+1) % r.dW.length) 0∈(l.getD (r.dW.getD k 0).toNat bE).aO:=e4;rw [nJ.2 e4] at hv;subst hv;exact aR (by unfold aG; omega) (ih _ om om)
theorem aeI (h:Nd l):W (kW b0 l) (λ r=>r=0):=
 abN (R9 ahS nofun h.sz) λ _ hr=>Tm.fun _ _ hr (acF akE (by have:=h.n; omega) h.g)
theorem Gz {r:eT} (h:Nd l) (hk:r.gN=7) (hm:r.dz=[]) (hc:0<r.dW.length) (hc1:r.dW.length≤13) (he:∀k,k<r.dW.length→En l (r.dW.getD k 0) (r.dW.getD ((k+1) % r.dW.length) 0)) (hd:M5 l r.dM):W (nH b0 l r) (λ v=>v=true↔∃y∈r.dW,Jq l r.dM y):=by
 unfold nH;refine dD (aeI h) λ v hv=>?_;subst hv;obtain ⟨d1,d2⟩:=hd;refine fO (λ c=>by simp at c; omega) (λ _=>?_);refine fK (λ g=>g=0) (λ _=>0) ?_ rfl;intro av g hg _;subst hg;unfold u7;rw [hm];refine fO (λ c=>by simp at c) (λ _=>aR hk ?_)
 ·exact dD (La (r:=⟨(7:Int),r.dM,[],r.Branches,r.Chain,r.dR,r.bT,r.gZ,r.Settings,r.Other,r.dW⟩) h hc hc1 he ⟨d1,d2⟩) λ v hv=>bY (by rw [Bool.true_and]; exact hv)
theorem GD {r:eT} (h:Nd l) (hk:r.gN=6) (hm:r.dz=[]) (hd:M5 l r.dM) (ho:r.Other∈Pv l r.dM):W (nI b0 l r) (λ v=>v=true):=by
 unfold nI;refine dD (aeI h) λ v hv=>?_;subst hv;obtain ⟨d1,d2⟩:=hd;refine fO (λ c=>by simp at c; omega) (λ _=>?_);refine fK (λ g=>g=0) (λ _=>0) ?_ rfl;intro av g hg _;subst hg;unfold vg;rw [hm];refine fO (λ c=>by simp at c) (λ _=>aR hk ?_)
 ·unfold uG;have hp:=(h.pr (k:=r.dM.toNat) om).1;refine dD (P:=λ v=>v=true) (aR ⟨d1,d2⟩ (dD (H7 (jJ (by dsimp only; omega))) λ v hv=>bY ?_)) λ v hv=>bY (by rw [Bool.true_and]; exact hv);rw [hv]; exact nJ.2 ho
theorem Jr {d:Int} (h:Nd l) (hd:M5 l d) (hb:bound.length≤20):W (lK l bound d) (λ p=>p = -1∨p∈Pv l d):=by
 unfold lK;obtain ⟨d1,d2⟩:=hd;refine fO (λ c=>by have c:=vP c; omega) (λ _=>aR ⟨d1,d2⟩ ?_);have hp:=(h.pr (k:=d.toNat) om).1;refine fK (λ g:Int×Int=>0≤g.2∧(g.1 = -1∨g.1∈Pv l d)) (λ g=>((l.getD d.toNat bE).aO.length - g.2).toNat) ?_ ⟨Int.le_refl _,.inl rfl⟩;rintro av ⟨p,i⟩ ⟨a1,a2⟩ ih;dsimp only at a1 a2;unfold wL;dsimp only;refine fO (λ c1=>?_) (λ _=>bY a2);have c1:=vP c1;refine aR om (aR (λ q=>by rwa [Bool.and_eq_true,decide_eq_true_eq,decide_eq_true_eq] at q) ?_);refine fO (λ c2=>?_) (λ _=>?_)
 ·exact aR (by unfold aG; omega) (ih _ ⟨by dsimp only; omega,.inr (show (l.getD d.toNat bE).aO.getD i.toNat 0∈(l.getD d.toNat bE).aO from getD_in 0 om)⟩ (by dsimp only; omega))
 ·exact aR (by unfold aG; omega) (ih _ ⟨by dsimp only; omega,a2⟩ (by dsimp only; omega))
theorem WK {device:Int} (h:Nd l) (hb:bound.length≤20) (hd0:0≤device) (hd1:device≤255):W (iR bound device (l,BL bound l)) (λ r=>r=true):=by
 have hn:=h.n;have hg:=h.gr bound;unfold iR;dsimp only;refine dD (K9 h hb) λ c hc=>dD (Sg hg) λ o ho=>?_;rw [adZ hc ho,beq_self_eq_true];refine fO (λ c=>by cases c) (λ _=>?_);refine fO (λ _=>WI) (λ c0=>?_);have c0:=vP c0;have hw:IntKind.i64.wrap device=device:=by rw [IntKind.wrap_i64]; omega
 have q0:0≤device.tmod (l.length:Int):=Int.tmod_nonneg _ hd0;have q1:device.tmod (l.length:Int)<(l.length:Int):=Int.tmod_lt_of_pos _ om;rw [hw];generalize device.tmod (l.length:Int)=d at q0 q1 ⊢;have hd:M5 l d:=⟨q0,q1⟩;have hcy:0<c.length→c.length≤13∧∀k,k<c.length→En l (c.getD k 0) (c.getD ((k+1) % c.length) 0):=λ q=>by
  rcases hc with hc | hc
  ·rw [hc.1] at q; cases q
  ·exact ⟨hc.2.1,λ k hk=>h.en (hc.2.2 k hk)⟩
 refine aR om ?_;refine dD (SS (P:=λ v=>v=true↔∃y∈c,Jq l d y) λ q=>?_) λ v7 hv7=>?_
 ·have q:0<c.length:=by rw [decide_eq_true_eq] at q; omega
  exact Gz (r:=⟨(7:Int),d,([]:List Int),([]:List xG),(⟨false,([]:List Int),(0:Int),(0:Int)⟩:Ad),([]:List bN),([]:List Int),(⟨([]:List Int),(⟨([]:List Bool),([]:List Int)⟩:dO),([]:List bN),([]:List Bool),([]:List Bool)⟩:cZ),([]:List (List Int)),(0:Int),c⟩) h rfl rfl q (hcy q).1 (hcy q).2 hd
 refine aR (λ q=>by rw [decide_eq_true_eq] at q; exact ⟨Int.le_refl _,q⟩) ?_;refine dD (SS (P:=λ v=>v=true↔Jq l d (c.getD 0 0)) λ q=>N7 h.pvs hd) λ v8 OB=>?_;refine fO (λ q=>?_) (λ _=>?_)
 ·exfalso;rw [Bool.and_eq_true] at q;obtain ⟨q,q2⟩:=q;have q3:0<c.length:=by rw [decide_eq_true_eq] at q; omega
  have e:=((hv7 q).trans (acL q3 (hcy q3).2)).trans (OB q).symm;have:v7=v8:=by cases v7<;>cases v8<;>simp at e ⊢
  rw [this,beq_self_eq_true] at q2;cases q2
 ·refine dD (Jr h hd hb) λ p hp=>?_;refine dD (SS (P:=λ v=>v=true) λ q=>?_) λ v10 GH=>?_
  ·refine GD (r:=⟨(6:Int),d,([]:List Int),([]:List xG),(⟨false,([]:List Int),(0:Int),(0:Int)⟩:Ad),([]:List bN),([]:List Int),(⟨([]:List Int),(⟨([]:List Bool),([]:List Int)⟩:dO),([]:List bN),([]:List Bool),([]:List Bool)⟩:cZ),([]:List (List Int)),p,([]:List Int)⟩) h rfl rfl hd ?_;rcases hp with hp | hp
   ·subst hp; cases q
   ·exact hp
  ·have hor:((p==(-1:Int))||v10)=true:=by
    cases e:(p==(-1:Int)) with
    | true=>rfl
    | false=>rw [GH e]; rfl
   rw [hor];exact dD (acK rfl) λ v hv=>bY (by rw [hv]; rfl)
theorem Av {t:List Int} {device:Int} (hd0:0≤device) (hd1:device≤255):W (mZ t bound device) (λ r=>r=true):=by
 unfold mZ;refine fO (λ _=>WI) (λ c0=>?_);have hb:bound.length≤20:=by
  rw [Bool.or_eq_false_iff,decide_eq_false_iff_not,decide_eq_false_iff_not] at c0; omega
 refine dD WJ λ v2 ⟨k1,k2⟩=>?_;refine dD (DT ahR (by decide) (by decide) (by dsimp only; omega) k2) λ v3 ⟨w1,w2,_,_⟩=>?_;have hl:v3.2.length≤8:=w1;refine fK (λ g:Int×List ay×List (List Int)=>0≤g.1∧g.1≤v3.2.length∧g.2.1.length=v3.2.length∧(∀x∈g.2.1,UY b0 (v3.2.length:Int) x)∧(g.2.2.length:Int)=g.1∧∀k:Nat,(k:Int)<g.1→g.2.2.getD k []=sel bound g.2.1 k) (λ g=>(v3.2.length - g.1).toNat) ?_ ⟨Int.le_refl _,by dsimp only; omega,rfl,w2,rfl,λ k hk=>by dsimp only at hk; omega⟩;rintro jL ⟨i,l,L⟩ ⟨a1,a2,a3,a4,a5,a6⟩ ih;dsimp only at a1 a2 a3 a4 a5 a6;unfold qj;dsimp only;refine wi ?_ ?_<;>intro c1
 ·refine aR om ?_;have hi:i.toNat<l.length:=by omega
  have hg:=a4 _ (getD_in bE hi);generalize hx:(⟨(l.getD i.toNat bE).eH,(l.getD i.toNat bE).fU,([]:List ByteArray),(l.getD i.toNat bE).bg,(l.getD i.toNat bE).gy,(l.getD i.toNat bE).aO⟩:ay)=x;have hxp:x.aO=(l.getD i.toNat bE).aO:=by rw [← hx]
  have hxg:UY b0 (v3.2.length:Int) x:=by rw [← hx]; exact ⟨hg.lm,hg.dw,WE,hg.rs,hg.dm,hg.pr⟩
  have hsl:∀k,sel bound (l.set i.toNat x) k=sel bound l k:=λ k=>by
   unfold sel;by_cases e:k=i.toNat
   ·subst e; rw [yh hi,hxp]
   ·rw [ko e]
  have hnext:∀y,y=sel bound l i.toNat→W (jL (i+1,l.set i.toNat x,L++[y])) (λ r=>r=true):=λ y hy=>by
   refine ih _ ⟨by dsimp only; omega,by dsimp only; omega,by dsimp only; rw [List.length_set]; exact a3,λ z hz=>?_,by dsimp only; rw [List.length_append,List.length_singleton]; omega,λ k hk=>?_⟩ (by dsimp only; omega)
   ·rcases List.mem_or_eq_of_mem_set hz with hz | hz
    ·exact a4 z hz
    ·rw [hz]; exact hxg
   ·dsimp only at hk ⊢;rw [hsl];by_cases e:(k:Int)<i
    ·rw [mF (i:=k) [] om]; exact a6 k e
    ·have:k=i.toNat:=by omega
     subst this;rw [kS (i:=i.toNat) [] om]; exact hy
  unfold j4;dsimp only;refine aR (λ q=>by rw [decide_eq_true_eq] at q; exact ⟨a1,q⟩) ?_;refine fO ?_ ?_<;>intro c2
  ·rw [Bool.and_eq_true] at c2;refine aR (by unfold big; omega) (aR (by unfold aG; omega) (hnext _ ?_));unfold sel; rw [c2.2]; rfl
  ·have c3:bound.getD i.toNat false=false:=by
    by_cases e:i<(bound.length:Int)
    ·rw [decide_eq_true e,Bool.true_and] at c2; exact c2
    ·rw [List.getD_eq_getElem?_getD,List.getElem?_eq_none om]; rfl
   refine aR (by rw [List.length_set]; omega) (aR (by unfold big; omega) (aR (by unfold aG; omega) (hnext _ ?_)));rw [yh hi,hxp];unfold sel; rw [c3]; rfl
 ·have hi:i=v3.2.length:=by omega
  have hL:L=BL bound l:=aeH om λ k hk=>a6 k om;subst hL;exact WK ⟨om,by rw [a3]; exact a4⟩ hb hd0 hd1
def cfg:qz where
 ty:=[(3,⟨1,false,8,[(.int .i64)],(.int .i64)⟩),
 (4,⟨1,false,1,[.bool],.bool⟩),
 (5,⟨1,false,1,[(.int .u8)],(.int .u8)⟩),
 (9,⟨1,false,16,[.str],.str⟩),
 (22,⟨1,false,24,[.slice],(.slice 3)⟩),
 (23,⟨1,false,24,[.slice],(.slice 4)⟩),
 (25,⟨1,false,8,[.ptr],(.pointer 72)⟩),
 (27,⟨1,false,24,[.slice],(.slice 214)⟩),
 (28,⟨1,false,24,[.slice],(.slice 157)⟩),
 (29,⟨1,false,24,[.slice],(.slice 91)⟩),
 (30,⟨2,true,32,[(.int .i64),.slice],(.struct [(0,3),(1,29)])⟩),
 (31,⟨2,true,32,[(.int .i64),.slice],(.struct [(0,3),(1,29)])⟩),
 (32,⟨1,false,24,[.slice],(.slice 232)⟩),
 (33,⟨1,false,24,[.slice],(.slice 235)⟩),
 (34,⟨6,true,128,[.slice,.slice,(.int .i64),.slice,.slice,.slice],(.struct [(0,27),(1,28),(2,31),(4,32),(5,33)])⟩),
 (35,⟨6,true,128,[.slice,.slice,(.int .i64),.slice,.slice,.slice],(.struct [(0,27),(1,28),(2,31),(4,32),(5,33)])⟩),
 (36,⟨1,false,24,[.slice],(.slice 43)⟩),
 (38,⟨1,false,24,[.slice],(.slice 22)⟩),
 (39,⟨1,false,24,[.slice],(.slice 76)⟩),
 (40,⟨1,false,24,[.slice],(.slice 79)⟩),
 (41,⟨1,false,24,[.slice],(.slice 9)⟩),
 (42,⟨6,true,128,[.slice,.slice,.slice,.slice,(.int .i64),.slice],(.struct [(0,39),(1,40),(2,41),(3,22),(4,3),(5,22)])⟩),
 (43,⟨6,true,128,[.slice,.slice,.slice,.slice,(.int .i64),.slice],(.struct [(0,39),(1,40),(2,41),(3,22),(4,3),(5,22)])⟩),
 (47,⟨1,false,8,[.other],.other⟩),
 (48,⟨1,false,24,[.slice],(.slice 203)⟩),
 (49,⟨4,true,48,[.bool,.slice,(.int .i64),(.int .i64)],(.struct [(0,4),(1,22),(2,3),(3,3)])⟩),
 (50,⟨4,true,48,[.bool,.slice,(.int .i64),(.int .i64)],(.struct [(0,4),(1,22),(2,3),(3,3)])⟩),
 (51,⟨1,false,24,[.slice],(.slice 103)⟩),
 (52,⟨2,true,48,[.slice,.slice],(.struct [(0,23),(1,22)])⟩),
 (53,⟨2,true,48,[.slice,.slice],(.struct [(0,23),(1,22)])⟩),
 (54,⟨6,true,144,[.slice,.slice,.slice,.slice,.slice,.slice],(.struct [(0,22),(1,53),(3,51),(4,23),(5,23)])⟩),
 (55,⟨6,true,144,[.slice,.slice,.slice,.slice,.slice,.slice],(.struct [(0,22),(1,53),(3,51),(4,23),(5,23)])⟩),
 (56,⟨19,true,360,[(.int .i64),(.int .i64),.slice,.slice,.bool,.slice,(.int .i64),(.int .i64),.slice,.slice,.slice,.slice,.slice,.slice,.slice,.slice,.slice,(.int .i64),.slice],(.struct [(0,3),(1,3),(2,22),(3,48),(4,50),(8,51),(9,22),(10,55),(16,38),(17,3),(18,22)])⟩),
 (57,⟨19,true,360,[(.int .i64),(.int .i64),.slice,.slice,.bool,.slice,(.int .i64),(.int .i64),.slice,.slice,.slice,.slice,.slice,.slice,.slice,.slice,.slice,(.int .i64),.slice],(.struct [(0,3),(1,3),(2,22),(3,48),(4,50),(8,51),(9,22),(10,55),(16,38),(17,3),(18,22)])⟩),
 (63,⟨1,false,8,[(.int .i64)],(.int .i64)⟩),
 (71,⟨2,true,32,[.slice,(.int .i64)],(.struct [(0,22),(1,3)])⟩),
 (72,⟨2,true,32,[.slice,(.int .i64)],(.struct [(0,22),(1,3)])⟩),
 (75,⟨3,true,24,[(.int .i64),(.int .i64),(.int .i64)],(.struct [(0,3),(1,3),(2,3)])⟩),
 (76,⟨3,true,24,[(.int .i64),(.int .i64),(.int .i64)],(.struct [(0,3),(1,3),(2,3)])⟩),
 (78,⟨4,true,32,[(.int .i64),(.int .i64),(.int .i64),(.int .i64)],(.struct [(0,3),(1,3),(2,3),(3,3)])⟩),
 (79,⟨4,true,32,[(.int .i64),(.int .i64),(.int .i64),(.int .i64)],(.struct [(0,3),(1,3),(2,3),(3,3)])⟩),
 (88,⟨1,false,8,[.other],(.map 3 47)⟩),
 (90,⟨3,true,64,[.str,.slice,.slice],(.struct [(0,9),(1,22),(2,41)])⟩),
 (91,⟨3,true,64,[.str,.slice,.slice],(.struct [(0,9),(1,22),(2,41)])⟩),
 (100,⟨2,true,16,[(.int .i64),(.int .i64)],(.struct [(0,3),(1,3)])⟩),
 (101,⟨2,true,16,[(.int .i64),(.int .i64)],(.struct [(0,3),(1,3)])⟩),
 (102,⟨3,true,24,[(.int .i64),(.int .i64),(.int .i64)],(.struct [(0,3),(1,101)])⟩),
 (103,⟨3,true,24,[(.int .i64),(.int .i64),(.int .i64)],(.struct [(0,3),(1,101)])⟩),
 (113,⟨1,false,24,[.slice],(.slice 187)⟩),
 (128,⟨1,false,24,[.slice],(.slice 101)⟩),
 (146,⟨1,false,8,[.ptr],(.pointer 150)⟩),
 (147,⟨1,false,24,[.slice],(.slice 206)⟩),
 (149,⟨3,true,72,[.slice,.slice,.slice],(.struct [(0,27),(1,147),(2,48)])⟩),
 (150,⟨3,true,72,[.slice,.slice,.slice],(.struct [(0,27),(1,147),(2,48)])⟩),
 (153,⟨1,false,8,[.other],.other⟩),
 (156,⟨5,true,56,[(.int .i64),.slice,(.int .i64),(.int .i64),.bool],(.struct [(0,3),(1,22),(2,3),(3,3),(4,4)])⟩),
 (157,⟨5,true,56,[(.int .i64),.slice,(.int .i64),(.int .i64),.bool],(.struct [(0,3),(1,22),(2,3),(3,3),(4,4)])⟩),
 (158,⟨1,false,24,[.slice],(.slice 255)⟩),
 (163,⟨1,false,8,[.other],.other⟩),
 (166,⟨1,false,8,[.other],.other⟩),
 (167,⟨1,false,24,[.slice],(.slice 168)⟩),
 (168,⟨1,false,8,[(.int .u64)],(.int .u64)⟩),
 (169,⟨4,true,80,[.slice,.slice,.slice,(.int .u64)],(.struct [(0,38),(1,167),(2,22),(3,168)])⟩),
 (170,⟨4,true,80,[.slice,.slice,.slice,(.int .u64)],(.struct [(0,38),(1,167),(2,22),(3,168)])⟩),
 (176,⟨1,false,8,[.other],.other⟩),
 (177,⟨1,false,8,[.other],(.map 3 4)⟩),
 (178,⟨3,true,56,[.slice,.slice,.other],(.struct [(0,27),(1,39),(2,177)])⟩),
 (179,⟨3,true,56,[.slice,.slice,.other],(.struct [(0,27),(1,39),(2,177)])⟩),
 (182,⟨1,false,8,[.other],(.map 3 3)⟩),
 (186,⟨3,true,24,[(.int .i64),(.int .i64),(.int .i64)],(.struct [(0,3),(1,3),(2,3)])⟩),
 (187,⟨3,true,24,[(.int .i64),(.int .i64),(.int .i64)],(.struct [(0,3),(1,3),(2,3)])⟩),
 (188,⟨1,false,8,[.other],.other⟩),
 (199,⟨1,false,8,[.other],.other⟩),
 (201,⟨1,false,8,[.other],.other⟩),
 (202,⟨3,true,40,[(.int .i64),(.int .i64),.slice],(.struct [(0,3),(1,3),(2,22)])⟩),
 (203,⟨3,true,40,[(.int .i64),(.int .i64),.slice],(.struct [(0,3),(1,3),(2,22)])⟩),
 (205,⟨5,true,40,[(.int .i64),(.int .i64),(.int .i64),(.int .i64),.bool],(.struct [(0,3),(1,3),(2,3),(3,3),(4,4)])⟩),
 (206,⟨5,true,40,[(.int .i64),(.int .i64),(.int .i64),(.int .i64),.bool],(.struct [(0,3),(1,3),(2,3),(3,3),(4,4)])⟩),
 (207,⟨1,false,8,[.other],.other⟩),
 (208,⟨2,true,16,[(.int .i64),(.int .i64)],(.struct [(0,3),(1,3)])⟩),
 (209,⟨2,true,16,[(.int .i64),(.int .i64)],(.struct [(0,3),(1,3)])⟩),
 (213,⟨5,true,72,[(.int .i64),.slice,.slice,(.int .i64),(.int .i64)],(.struct [(0,3),(1,22),(2,22),(3,3),(4,3)])⟩),
 (214,⟨5,true,72,[(.int .i64),.slice,.slice,(.int .i64),(.int .i64)],(.struct [(0,3),(1,22),(2,22),(3,3),(4,3)])⟩),
 (218,⟨64,true,512,[(.int .i64),(.int .i64),(.int .i64),(.int .i64),(.int .i64),(.int .i64),(.int .i64),(.int .i64),(.int .i64),(.int .i64),(.int .i64),(.int .i64),(.int .i64),(.int .i64),(.int .i64),(.int .i64),(.int .i64),(.int .i64),(.int .i64),(.int .i64),(.int .i64),(.int .i64),(.int .i64),(.int .i64),(.int .i64),(.int .i64),(.int .i64),(.int .i64),(.int .i64),(.int .i64),(.int .i64),(.int .i64),(.int .i64),(.int .i64),(.int .i64),(.int .i64),(.int .i64),(.int .i64),(.int .i64),(.int .i64),(.int .i64),(.int .i64),(.int .i64),(.int .i64),(.int .i64),(.int .i64),(.int .i64),(.int .i64),(.int .i64),(.int .i64),(.int .i64),(.int .i64),(.int .i64),(.int .i64),(.int .i64),(.int .i64),(.int .i64),(.int .i64),(.int .i64),(.int .i64),(.int .i64),(.int .i64),(.int .i64),(.int .i64)],(.array 64 3)⟩),
 (219,⟨64,true,512,[(.int .i64),(.int .i64),(.int .i64),(.int .i64),(.int .i64),(.int .i64),(.int .i64),(.int .i64),(.int .i64),(.int .i64),(.int .i64),(.int .i64),(.int .i64),(.int .i64),(.int .i64),(.int .i64),(.int .i64),(.int .i64),(.int .i64),(.int .i64),(.int .i64),(.int .i64),(.int .i64),(.int .i64),(.int .i64),(.int .i64),(.int .i64),(.int .i64),(.int .i64),(.int .i64),(.int .i64),(.int .i64),(.int .i64),(.int .i64),(.int .i64),(.int .i64),(.int .i64),(.int .i64),(.int .i64),(.int .i64),(.int .i64),(.int .i64),(.int .i64),(.int .i64),(.int .i64),(.int .i64),(.int .i64),(.int .i64),(.int .i64),(.int .i64),(.int .i64),(.int .i64),(.int .i64),(.int .i64),(.int .i64),(.int .i64),(.int .i64),(.int .i64),(.int .i64),(.int .i64),(.int .i64),(.int .i64),(.int .i64),(.int .i64)],(.array 64 3)⟩),
 (222,⟨1,false,8,[.other],.other⟩),
 (231,⟨1,true,24,[.slice],(.struct [(0,22)])⟩),
 (232,⟨1,true,24,[.slice],(.struct [(0,22)])⟩),
 (234,⟨2,true,16,[(.int .i64),.bool],(.struct [(0,3),(1,4)])⟩),
 (235,⟨2,true,16,[(.int .i64),.bool],(.struct [(0,3),(1,4)])⟩),
 (244,⟨1,false,8,[.other],.other⟩),
 (247,⟨1,false,8,[.other],.other⟩),
 (254,⟨3,true,24,[(.int .i64),(.int .i64),(.int .i64)],(.struct [(0,3),(1,3),(2,3)])⟩),
 (255,⟨3,true,24,[(.int .i64),(.int .i64),(.int .i64)],(.struct [(0,3),(1,3),(2,3)])⟩),
 (262,⟨1,false,8,[(.int .u64)],(.int .u64)⟩),
 (266,⟨1,false,8,[.other],.other⟩),
 (269,⟨1,false,8,[.other],.other⟩),
 (271,⟨1,false,8,[.other],(.map 9 4)⟩),
 (278,⟨1,false,8,[.other],.other⟩),
 (291,⟨1,false,8,[.other],.other⟩),
 (293,⟨1,false,24,[.slice],(.slice 209)⟩),
 (299,⟨1,false,8,[.other],.other⟩),
 (301,⟨1,false,8,[(.int .i64)],(.int .i64)⟩),
 (308,⟨1,false,4,[(.int .u32)],(.int .u32)⟩),
 (318,⟨1,false,8,[.other],.other⟩),
 (325,⟨15,true,328,[.slice,.slice,(.int .i64),.slice,.slice,.slice,.slice,.slice,.slice,.slice,.slice,.slice,.slice,.slice,.bool],(.struct [(0,35),(6,36),(7,22),(8,55),(14,4)])⟩),
 (326,⟨15,true,328,[.slice,.slice,(.int .i64),.slice,.slice,.slice,.slice,.slice,.slice,.slice,.slice,.slice,.slice,.slice,.bool],(.struct [(0,35),(6,36),(7,22),(8,55),(14,4)])⟩),
 (330,⟨1,false,8,[(.int .u64)],(.int .u64)⟩),
 (334,⟨1,false,8,[.ptr],(.pointer 3)⟩),
 (338,⟨1,false,8,[.other],.other⟩),
 (339,⟨1,false,24,[.slice],(.slice 338)⟩),
 (343,⟨1,false,8,[.other],(.map 9 3)⟩)]
 eqs:=[]
 fns:=[(5,⟨[],true⟩),(6,⟨[0],true⟩),(7,⟨[],true⟩),(8,⟨[],true⟩),(12,⟨[],true⟩),(13,⟨[],true⟩),(14,⟨[2],true⟩),(15,⟨[2],true⟩),(17,⟨[0],false⟩),(18,⟨[0],false⟩),(19,⟨[0],false⟩),(20,⟨[0],false⟩),(21,⟨[0],true⟩),(22,⟨[0],true⟩),(23,⟨[0],true⟩),(24,⟨[],true⟩),(35,⟨[2],true⟩),(38,⟨[1],true⟩),(39,⟨[],true⟩),(40,⟨[],true⟩),(42,⟨[2],true⟩),(43,⟨[0],true⟩),(44,⟨[],true⟩),(45,⟨[],true⟩),(46,⟨[],true⟩),(47,⟨[],true⟩),(48,⟨[],true⟩),(49,⟨[],true⟩),(50,⟨[],true⟩),(51,⟨[1,2],true⟩),(52,⟨[],true⟩),(53,⟨[1,2],true⟩),(55,⟨[0],false⟩),(56,⟨[0],false⟩),(57,⟨[],true⟩),(59,⟨[],true⟩),(65,⟨[],true⟩),(67,⟨[1,2],false⟩),(71,⟨[1],true⟩),(72,⟨[1],true⟩),(74,⟨[],true⟩),(75,⟨[],true⟩),(76,⟨[],true⟩),(77,⟨[],true⟩),(80,⟨[],true⟩),(82,⟨[],true⟩),(83,⟨[],true⟩),(85,⟨[],true⟩),(86,⟨[],true⟩),(87,⟨[0,1],false⟩),(88,⟨[],true⟩),(89,⟨[],true⟩),(90,⟨[],true⟩),(92,⟨[],true⟩),(93,⟨[],true⟩),(94,⟨[],true⟩),(95,⟨[],true⟩),(96,⟨[],true⟩),(97,⟨[0],true⟩),(98,⟨[],true⟩),(100,⟨[],true⟩),(101,⟨[],true⟩),(102,⟨[],true⟩),(103,⟨[3],false⟩),(104,⟨[1],false⟩),(105,⟨[1,2],true⟩),(106,⟨[0],true⟩),(108,⟨[0,2],false⟩),(109,⟨[2,3,4,5],false⟩),(110,⟨[],true⟩),(111,⟨[],true⟩),(112,⟨[0],false⟩),(113,⟨[0],true⟩),(114,⟨[],true⟩),(123,⟨[1,2,3,4,5,6],false⟩),(133,⟨[1,2,3,4,5],false⟩),(135,⟨[0],false⟩),(136,⟨[2,3],false⟩),(137,⟨[1,2,3,4],false⟩),(138,⟨[1],false⟩),(142,⟨[],true⟩),(144,⟨[],true⟩),(153,⟨[],true⟩),(157,⟨[],true⟩),(158,⟨[],true⟩),(159,⟨[],true⟩),(160,⟨[],true⟩),(161,⟨[],true⟩),(162,⟨[],true⟩),(163,⟨[],true⟩),(164,⟨[],true⟩),(165,⟨[2],false⟩),(166,⟨[0,2,3],false⟩),(168,⟨[],true⟩),(169,⟨[],true⟩),(170,⟨[],true⟩),(171,⟨[0],false⟩),(175,⟨[],true⟩),(176,⟨[1,2,3,4],false⟩),(178,⟨[1],false⟩),(179,⟨[2,3],false⟩),(180,⟨[0],false⟩),(200,⟨[1],false⟩),(208,⟨[],true⟩),(210,⟨[],true⟩),(216,⟨[],true⟩),(217,⟨[],true⟩),(223,⟨[],true⟩),(224,⟨[],true⟩),(226,⟨[],true⟩),(228,⟨[],true⟩),(229,⟨[1],true⟩),(232,⟨[],true⟩),(237,⟨[0],false⟩),(238,⟨[0],false⟩),(239,⟨[0],false⟩),(241,⟨[0],false⟩),(242,⟨[0],false⟩),(244,⟨[0],false⟩),(245,⟨[0],false⟩),(264,⟨[],true⟩),(266,⟨[],true⟩),(274,⟨[1],true⟩),(276,⟨[0],false⟩),(278,⟨[0],false⟩),(279,⟨[2],false⟩),(280,⟨[4],false⟩),(298,⟨[3],false⟩),(304,⟨[1],false⟩),(320,⟨[0],false⟩),(321,⟨[0],false⟩),(322,⟨[0],false⟩),(323,⟨[0],false⟩),(324,⟨[0],false⟩),(327,⟨[0],false⟩)]
 glob:=[(0,[iV (0:Int),iV (1:Int)])]
theorem bO:fq Tryz.prog cfg:=abG (by kernel_rfl) (by kernel_rfl) (by kernel_rfl)
abbrev S:=Ab.Spec Tryz.prog cfg
open Go.Ab Go.RowKit Go.Shelf
attribute [local go_sem] Oper.semAt_some
set_option maxRecDepth 100000 in
set_option maxHeartbeats 2000000 in
theorem ad1 (F:Fence) (n:Nat) (h7:F.fn 230) (hro:F.round=none) (hn:1≤n) (l B O b off len cap:Nat) (hlen:len≤1000000) (Keep:World→Prop)
  (c0 c1 c2 c3 c4:Nat→Value) (v1:Nat→Value) (hv:∀i,v1 i=.agg #[c0 i,c1 i,c2 i,c3 i,c4 i])
  (hB:∀w,Keep w→w.cell? ⟨B,O,none⟩=some (.slice (some ⟨b,off,none⟩) len cap))
  (h0:∀w i,Keep w→i<len→w.cell? ⟨b,off+i*5,none⟩=some (c0 i)) (h1:∀w i,Keep w→i<len→w.cell? ⟨b,off+i*5+1,none⟩=some (c1 i)) (h2:∀w i,Keep w→i<len→w.cell? ⟨b,off+i*5+2,none⟩=some (c2 i))
  (h3:∀w i,Keep w→i<len→w.cell? ⟨b,off+i*5+3,none⟩=some (c3 i)) (h4:∀w i,Keep w→i<len→w.cell? ⟨b,off+i*5+4,none⟩=some (c4 i))
  (J:Nat→World→Prop) (Jx:World→Prop)
  (hY:∀k W,k<len→J k W→YieldAt F (n - 1) Tryz.prog l #[.int .i64 ((len - 1 - k:Nat):Int),v1 (len - 1 - k)] W λ e W'=>
    (e=.returned (.bool true)∧J (k+1) W'∧Keep W')∨(e=.returned (.bool false)∧Jx W'))
  (W:World) (hW:Keep W) (hJ:J 0 W):
  CallsIn F n Tryz.prog 230 #[.func (.yield l) #[] #[],.pointer (some ⟨B,O,none⟩)] W λ e W'=>(∃v,e=.returned v)∧(J len W'∨Jx W'):=by
 refine callsIn_of_wp Tryz.func230 rfl h7 ?_ hro;simp only [Tryz.ntmps230,List.size_toArray,List.length_cons,List.length_nil,Nat.reduceAdd,Nat.reduceSub,Array.replicate_succ,Array.replicate_zero,List.push_toArray,List.append_toArray,List.nil_append,List.cons_append];have hB0:=hB W hW;gi_wp2;gi_loopw [3] (λ i wr=>∃k:Nat,k≤len∧i=.int .i64 ((len:Int) - 1 - k)∧J k wr∧Keep wr)
  (λ i _=>(intOf i+1).toNat)
 case atStart=>exact ⟨0,Nat.zero_le _,by simp,hJ,hW⟩
 case round=>
  obtain ⟨k,hk,rfl,hJs,hkp⟩:=hrel
  by_cases hlt:k<len
  ·obtain ⟨fn,tmps,assign,body,hy,hR⟩:=hY k wr hlt hJs
   have hBr:=hB wr hkp
   obtain ⟨i,hi⟩:∃i:Nat,i=len - 1 - k:=⟨_,rfl⟩
   rw [← hi] at hy
   have hil:i<len:=by omega
   have hii:((len:Int) - 1 - k)=(i:Int):=by omega
   rw [hii]
   have e0:=h0 wr i hkp hil
   have e1:=h1 wr i hkp hil
   have e2:=h2 wr i hkp hil
   have e3:=h3 wr i hkp hil
   have e4:=h4 wr i hkp hil
   rw [hv] at hy
   have A:Aside (i+k+1=len):=by show i+k+1=len; omega
   have hi0:¬ ((i:Int)<0):=by omega
   have hi1:0≤(i:Int):=by omega
   clear hi hii hlt hk
   gi_wp2
   refine hR.mono ?_
   rintro e W3 (⟨rfl,hJ3,hk3⟩ | ⟨rfl,hJx3⟩)
   ·have A':=A.out
    gi_wp2
    go_roundw
    case rel=>exact ⟨k+1,by omega,by have:=A'; simp; omega,hJ3,hk3⟩
    case measure=>simp [intOf]
   ·gi_wp2
    refine bodyPost_ret (results_none rfl _ _ _) rfl ?_
    exact ⟨⟨_,rfl⟩,.inr hJx3⟩
  ·obtain rfl:k=len:=by omega
   have hneg:((k:Int) - 1 - k) = -1:=by omega
   rw [hneg]
   gi_wp2
   go_end0
   exact ⟨⟨_,rfl⟩,.inl hJs⟩
set_option maxRecDepth 100000 in
set_option maxHeartbeats 2000000 in
theorem WL (F:Fence) (n:Nat) (h7:F.fn 230) (hro:F.round=none) (l B O cap:Nat) (a:Option Addr) (J:World→Prop) (W:World) (hB:W.cell? ⟨B,O,none⟩=some (.slice a 0 cap)) (hJ:J W):
  CallsIn F n Tryz.prog 230 #[.func (.yield l) #[] #[],.pointer (some ⟨B,O,none⟩)] W λ e W'=>(∃v,e=.returned v)∧J W':=by
 refine callsIn_of_wp Tryz.func230 rfl h7 ?_ hro;simp only [Tryz.ntmps230,List.size_toArray,List.length_cons,List.length_nil,Nat.reduceAdd,Nat.reduceSub,Array.replicate_succ,Array.replicate_zero,List.push_toArray,List.append_toArray,List.nil_append,List.cons_append];gi_wp2;gi_loopw [3] (λ i wr=>i=.int .i64 (-1)∧J wr) (λ _ _=>0);case atStart=>exact ⟨by simp,hJ⟩
 case round=>
  obtain ⟨rfl,hJs⟩:=hrel
  gi_wp2
  go_end0
  exact ⟨⟨_,rfl⟩,hJs⟩
variable {f:FuncId}
theorem FZ {n n':Nat} {P:Program} {args:Array Value} {w:World} {R:Ending→World→Prop} (h:CallsIn (FW none) n P f args w R):CallsIn (FW none) n' P f args w R:=
 ⟨h.1,λ cs _=>h.2 cs (λ _ hd=>by cases hd)⟩
theorem Lb (l:List aL) (hl:l.length≤1000000):PN Tryz.prog 230 [.ro [aQ l]] l.length (λ k=>iV ((l.length - 1 - k:Nat):Int)) (λ k=>EA (l.getD (l.length - 1 - k) aZ)):=by
 refine ⟨⟨rfl,enters_of Tryz.func230 (by kernel_rfl) rfl⟩,λ w I lb hI hlb hp=>?_⟩;have h0:=hp 0 (by simp);have ahT:lb=#[lb.getD 0 Go.undef]:=by
  have:lb.size=1:=hlb;apply Array.ext
  ·simp [this]
  ·intro i h1 h2;have:i=0:=by omega
   subst this;simp [h1]
 rw [ahT];generalize lb.getD 0 Go.undef=x at h0;clear ahT hp hlb;cases h0 with
 | ro B O vs hIB hm hr=>
  have hs:=hr 0 (by simp);have hm0:=hm 0 (by simp);have hs:fC w I (aQ l) (vs 0):=hs;generalize vs 0=sv at hs hm0;cases hs with
  | @sl _ _ _ _ a cap b off cs hcap _ ha hes hcm h1 hcr=>
   by_cases hz:l.length=0
   ·refine ⟨λ _=>.bool true,λ _=>.bool true,λ k hk=>absurd hk om,λ y n J Jx W hW hY hJ=>?_⟩;have hBc:W.cell? ⟨B,O,none⟩=some (.slice a 0 cap):=by
     rw [cell?_of_heap (w:=w) (hW B hIB),← hz];exact hm0
    rw [hz];exact (WL (FW none) n trivial rfl y B O cap a (λ W=>J 0 W) W hBc hJ).mono λ e W' ⟨h1,h2⟩=>⟨h1,.inl h2⟩
   ·obtain ⟨ha1,Km⟩:=ha hz;subst ha1;refine ⟨λ k=>.int .i64 ((l.length - 1 - k:Nat):Int),λ k=>.agg #[cs (l.length - 1 - k) 0,cs (l.length - 1 - k) 1,cs (l.length - 1 - k) 2,cs (l.length - 1 - k) 3,cs (l.length - 1 - k) 4],λ k hk=>⟨.int _ _,?_⟩,λ y n J Jx W hW hY hJ=>?_⟩
    ·refine .agg rfl λ j hj=>?_;have hj:j<5:=hj;have:=hcr (l.length - 1 - k) j om hj;have e:nth (EA (l.getD (l.length - 1 - k) aZ)).cells j=nth [iV (l.getD (l.length - 1 - k) aZ).dx,abH (l.getD (l.length - 1 - k) aZ).dY,iV (l.getD (l.length - 1 - k) aZ).iI,iV (l.getD (l.length - 1 - k) aZ).jT,.bool (l.getD (l.length - 1 - k) aZ).nk] j:=rfl;rcases (by omega:j=0∨j=1∨j=2∨j=3∨j=4) with rfl | rfl | rfl | rfl | rfl<;>exact this
    ·have key:∀W':World,(∀b,I b→W'.heap[b]? = w.heap[b]?)→∀i j,i<l.length→j<5→W'.cell? ⟨b,off+(i*5+j),none⟩=some (cs i j):=λ W' hW' i j hi hj=>by
      rw [cell?_of_heap (w:=w) (hW' b Km)];exact hcm i j hi hj
     refine FZ (ad1 (FW none) (n+1) trivial rfl om y B O b off l.length cap hl (λ W':World=>∀b,I b→W'.heap[b]? = w.heap[b]?) (λ i=>cs i 0) (λ i=>cs i 1) (λ i=>cs i 2) (λ i=>cs i 3) (λ i=>cs i 4) (λ i=>.agg #[cs i 0,cs i 1,cs i 2,cs i 3,cs i 4]) (λ _=>rfl)
      (λ W' hW'=>by rw [cell?_of_heap (w:=w) (hW' B hIB)]; exact hm0) (λ W' i h hi=>key W' h i 0 hi om) (λ W' i h hi=>key W' h i 1 hi om) (λ W' i h hi=>key W' h i 2 hi om) (λ W' i h hi=>key W' h i 3 hi om) (λ W' i h hi=>key W' h i 4 hi om)
      (λ k W1=>J k W1∧∀b,I b→W1.heap[b]? = w.heap[b]?) Jx ?_ W hW ⟨hJ,hW⟩ |>.mono ?_)
     ·rintro k W1 hk ⟨hJ1,hW1⟩;obtain ⟨fn,tmps,assign,body,hy,hR⟩:=hY k W1 hk hJ1;refine ⟨fn,tmps,assign,body,hy,hR.mono ?_⟩;rintro e W' (⟨rfl,h2,h3⟩ | ⟨rfl,h2⟩)
      ·have hW':∀b,I b→W'.heap[b]? = w.heap[b]? := λ b hb=>(h3 b hb).trans (hW1 b hb);exact .inl ⟨rfl,⟨h2,hW'⟩,hW'⟩
      ·exact .inr ⟨rfl,h2⟩
     ·rintro e W' ⟨h1,⟨h2,_⟩ | h2⟩
      ·exact ⟨h1,.inl h2⟩
      ·exact ⟨h1,.inr h2⟩
theorem Si (l:List aL):S 168 [aQ l] [] (.fn 230 [.ro [aQ l]]) []:=by
 refine ZO (ct:=[]) bO Tryz.func168 rfl rfl (Nat.le_of_ble_eq_true rfl) (by decide +kernel) (Nat.zero_le _) ?_;conv=>whnf
 exact ⟨⟨rfl,Fg.refl _,trivial⟩,trivial⟩
open Go.ChangeShapes Go.WideShapes Go.ChangeAt Go.RowKit
theorem own:ownKnob Tryz.prog.godebug=none:=by kernel_rfl
theorem laidOut:laidOutB Tryz.prog=true:=by kernel_rfl
theorem akF:Tryz.prog.globalNamed "bringup/clock.off" = some 0:=by kernel_rfl
theorem akG:(Tryz.prog.globals[0]?).map (·.type)=some 209:=by kernel_rfl
theorem ad2:Tryz.prog.cellsOf 209=2:=by kernel_rfl
theorem cells3:Tryz.prog.cellsOf 3=1:=by kernel_rfl
abbrev acM:List (String×DataW Unit):=[("bringup/clock.off", Rows.laid_bringup_clock_off)]
variable {W:World}
theorem ad3 (h:laidMetH Tryz.prog acM W):W.cell? ⟨0,0,none⟩=some (.int .i64 0)∧W.cell? ⟨0,1,none⟩=some (.int .i64 1):=by
 rw [MakeChecks.laidMetH_plain _ _ _ (by kernel_rfl)] at h;obtain ⟨ps,⟨g0,t0,cs0,f0,p0,q0,hg0,ht0,hv0,hd0,_⟩,_,_⟩:=h;obtain rfl:=Option.some.inj (akF.symm.trans hg0);obtain rfl:=Option.some.inj (akG.symm.trans ht0);obtain ⟨y0,y1,n,hx,hl,h0,h1⟩:=trod_struct2 Tryz.underlying209 hd0;rw [ad2] at hl;simp only [Prod.mk.injEq,Rows.laid_bringup_clock_off,DataW.agg.injEq,List.cons.injEq] at hx;obtain ⟨k0,e1,e2,_⟩:=DataW.trod_int Tryz.underlying3 h0;obtain ⟨k1,e3,e4,_⟩:=DataW.trod_int Tryz.underlying3 h1;have hk0:k0=0:=by have:=hx.1.1; rw [e2] at this; simpa using this.symm
 have hk1:k1=1:=by have:=hx.1.2.1; rw [e4] at this; simpa using this.symm
 subst hk0; subst hk1;have c0:=World.var?_cell hg0 hv0 0;have c1:=World.var?_cell hg0 hv0 1;obtain ⟨l⟩:=cs0;match l,hl with
 | [a,b],_=>
  rw [cells3] at e1 e3
  simp at e1 e3
  subst e1; subst e3
  exact ⟨by simpa using c0,by simpa using c1⟩
def Old (W:World):Nat→Prop:=λ b=>b<W.heap.size
theorem akH (h:laidMetH Tryz.prog acM W):Rel cfg (BK W (Old W) (λ _=>none) 0) (hof []) (λ o=>o<0) W (Old W) (λ _=>none):=by
 obtain ⟨h0,h1⟩:=ad3 h;exact {
  dom:=λ o=>by simp [hof]
  used:=λ o p h=>by cases h
  objs:=λ o ob p _ h=>by cases h
  inj:=λ o o' p p' b bo sz b' kK sz' h=>by cases h
  lu:=λ o p b bo sz h=>by cases h
  lt:=λ o p b bo sz h=>by cases h
  uw:=λ b h=>h
  size:=Nat.le_refl _
  frame:=λ _ _ _=>rfl
  new:=λ o p b bo sz h=>by cases h
  glob:=λ g cs hg=>by
   have e:g=0∧cs=[.int .i64 0,.int .i64 1]:=by
    unfold cfg at hg
    simp only [Ab.look] at hg
    cases hb:Nat.beq 0 g with
    | true=>
     rw [hb] at hg
     have:=Nat.eq_of_beq_eq_true hb
     simp at hg
     exact ⟨this.symm,hg.symm⟩
    | false=>rw [hb] at hg; cases hg
   obtain ⟨rfl,rfl⟩:=e
   refine .ro 0 0 (λ j=>match j with | 0=>.int .i64 0 | _=>.int .i64 1) (World.block_lt_of_cell? _ _ h0) (λ j hj=>?_) (λ j hj=>?_)
   ·match j,hj with
    | 0,_=>exact h0
    | 1,_=>exact h1
   ·match j,hj with
    | 0,_=>exact .int _ _
    | 1,_=>exact .int _ _
  G8:=λ _ h=>h
  L9:=λ _ h=>.inl h
  O5:=λ _ _=>.inl rfl
  Dm:=λ _ h=>h
  env:=⟨fP.refl _,λ _ _ h=>h.elim⟩ }
variable {args:List AV}
theorem ad4 {vals:Array Value} (hs:S f args [] (.bool true) []) (hL:laidMetH Tryz.prog acM W) (hl:vals.size=args.length) (hr:∀j,j<args.length→fC W (Old W) (nth args j) (vals.getD j Go.undef)):
  Calls Tryz.prog f vals W λ e W'=>e=.returned (.bool true)∧Below W.heap.size W W':=by
 obtain ⟨_,_,hc⟩:=hs;refine (hc W (Old W) (λ _=>none) vals (akH hL) hl (λ j hj=>.pure (hr j hj))).mono λ e W' h=>?_;obtain ⟨x,I',O',rfl,hR,hx⟩:=h;have hb:x=.bool true:=hx.jr;subst hb;refine ⟨rfl,⟨hR.env.same.os,hR.env.same.tape,hR.env.same.output,hR.size,λ k hk=>hR.frame k hk ?_⟩⟩;rintro ⟨o,p,bo,sz,h,_⟩;cases h
theorem Yl {H:Type} {enc:TypeId×Value→H} {v:Value} {d:DataW H} {ps:List MemPlace} {base:Nat} (hv:Value.okWide Tryz.prog W .any base 22 v) (h:DataW.Trod enc Tryz.prog W 0 (λ _=>true) true 22 v d ps):∃l:List Int,I64 l∧fC W (Old W) (au l) v:=by
 obtain ⟨a0,len,cap,rfl⟩:=okWide_slice Tryz.underlying22 hv;obtain ⟨fuel,hf⟩:=h;rcases open_ints Tryz.underlying22 Tryz.underlying3 cells3 hf with ⟨hcs,hx⟩ | ⟨a,len',cap',zs,hcs,_,hl,hm,hz,hx,hcell,hwz⟩
 ·simp [Value.cells] at hcs;obtain ⟨rfl,rfl,rfl⟩:=hcs;refine ⟨[],(λ x hx=>by cases hx),?_⟩;exact .sl 0 0 (λ _ _=>Go.undef) (Nat.le_refl _) nofun (λ h=>absurd rfl h) (λ i hi=>by cases hi) (λ i j hi=>by cases hi) (λ i j hi=>by cases hi) (λ i j hi=>by cases hi)
 ·simp [Value.cells] at hcs;obtain ⟨rfl,rfl,rfl⟩:=hcs;simp only [if_true] at hz;refine ⟨zs.take len,λ x hx=>?_,?_⟩
  ·have:=hwz x (List.mem_of_mem_take hx);simp only [Lit.wf,Bool.and_eq_true,decide_eq_true_eq] at this;exact this
  ·have hlen:(zs.take len).length=len:=by simp; omega
   unfold au abH;rw [hlen];refine .sl a.block a.off (λ i _=>.int .i64 (zs.getD i 0)) hl nofun (λ hn=>?_) (λ i hi=>rfl) (λ i j hi hj=>?_) (λ i j hi hj=>rfl) (λ i j hi hj=>?_)
   ·have h0:=hcell 0 om;have hsp:=World.cell?_spot h0;have e:a.add 0=a:=by simp [Addr.add]
    rw [e] at hsp h0;refine ⟨by cases a; simp at hsp; subst hsp; rfl,World.block_lt_of_cell? _ _ h0⟩
   ·have hj0:j=0:=by omega
    subst hj0;have h0:=hcell 0 om;have hsp:=World.cell?_spot h0;have e:a.add 0=a:=by simp [Addr.add]
    rw [e] at hsp;have hi':=hcell i om;have e2:a.add i=⟨a.block,a.off+(i*1+0),none⟩:=by
     obtain ⟨b,off,sp⟩:=a;simp at hsp;subst hsp;rw [Addr.add_mid];simp
    rw [e2] at hi';exact hi'
   ·have hj0:j=0:=by omega
    subst hj0;have e:nth (bD iV 0 (zs.take len) i).cells 0=iV (zs.getD i 0):=by
     show iV ((zs.take len).getD i 0)=_;rw [getD_take zs 0 hi]
    rw [e];exact .int _ _
theorem agd:Tryz.prog.cellsOf 4=1:=by kernel_rfl
theorem WM {H:Type} {enc:TypeId×Value→H} {v:Value} {d:DataW H} {ps:List MemPlace} {base:Nat} (hv:Value.okWide Tryz.prog W .any base 23 v) (h:DataW.Trod enc Tryz.prog W 0 (λ _=>true) true 23 v d ps):∃l:List Bool,fC W (Old W) (aN l) v:=by
 obtain ⟨a0,len,cap,rfl⟩:=okWide_slice Tryz.underlying23 hv;obtain ⟨fuel,hf⟩:=h;rcases Deep.open_bools Tryz.underlying23 Tryz.underlying4 agd hf with ⟨hcs,hx⟩ | ⟨a,len',cap',B,hcs,_,hl,hm,hx,hcell⟩
 ·simp [Value.cells] at hcs;obtain ⟨rfl,rfl,rfl⟩:=hcs;refine ⟨[],?_⟩;exact .sl 0 0 (λ _ _=>Go.undef) (Nat.le_refl _) nofun (λ h=>absurd rfl h) (λ i hi=>by cases hi) (λ i j hi=>by cases hi) (λ i j hi=>by cases hi) (λ i j hi=>by cases hi)
 ·simp [Value.cells] at hcs;obtain ⟨rfl,rfl,rfl⟩:=hcs;refine ⟨(List.range len).map B,?_⟩;have hlen:((List.range len).map B).length=len:=by simp
  unfold aN;rw [hlen];refine .sl a.block a.off (λ i _=>.bool (B i)) hl nofun (λ hn=>?_) (λ i hi=>rfl) (λ i j hi hj=>?_) (λ i j hi hj=>rfl) (λ i j hi hj=>?_)
  ·have h0:=hcell 0 om;have hsp:=World.cell?_spot h0;have e:a.add 0=a:=by simp [Addr.add]
   rw [e] at hsp h0;refine ⟨by cases a; simp at hsp; subst hsp; rfl,World.block_lt_of_cell? _ _ h0⟩
  ·have hj0:j=0:=by omega
   subst hj0;have h0:=hcell 0 om;have hsp:=World.cell?_spot h0;have e:a.add 0=a:=by simp [Addr.add]
   rw [e] at hsp;have hi':=hcell i om;have e2:a.add i=⟨a.block,a.off+(i*1+0),none⟩:=by
    obtain ⟨b,off,sp⟩:=a;simp at hsp;subst hsp;rw [Addr.add_mid];simp
   rw [e2] at hi';exact hi'
  ·have hj0:j=0:=by omega
   subst hj0;have e:nth (bD AV.bool false ((List.range len).map B) i).cells 0=AV.bool (B i):=by
    show AV.bool (((List.range len).map B).getD i false)=_;rw [List.getD_eq_getElem?_getD,List.getElem?_map,List.getElem?_range hi]; rfl
   rw [e];exact .bool _
variable {p:Prop}
theorem z (h:p:=by
 repeat' first
  | with_reducible exact trivial
  | with_reducible exact rfl
  | with_reducible refine And.intro ?_ ?_
  | ((conv=>whnf); first
   | with_reducible refine And.intro ?_ ?_
   | with_reducible refine Emb.mk ?_ ?_ ?_
   | with_reducible exact trivial)
  | exact rfl
  | exact λ _ _=>Le.refl _
  | exact λ _=>rfl
  | exact id
  | exact λ h=>Bool.noConfusion h
  | exact Le.refl _
  | exact Fg.refl _
  | exact λ h=>absurd rfl h
  | exact λ _ h=>absurd h (Nat.not_lt_zero _)
  | exact PO (.refl _) rfl (Nat.lt_of_sub_pos (by exact Nat.zero_lt_succ _))
  | omega
  | (simp [jB]; done)
  | (simp [jB]; omega)
  | (simp [jB,TL]; done)
  | (simp [jB,TL]; omega)
  | refine oN ?_ ?_ ?_
  | refine gD ?_ ?_ ?_ ?_
  | exact YQ (λ _ _=>Le.refl _) (Le.refl _)
  | exact SQ (λ _=>rfl)
  | exact lF om
  | exact fM _ _ _
  | exact lG _ _
  | refine lG _ _ ?_
  | refine Cy ?_ ?_
  | refine Le.Kt ?_
  | refine Le.sl ?_ ?_ ?_ ?_):p:=h
theorem dk (h:p:=by decide +kernel):p:=h
theorem oz (h:p:=by first | omega | (simp [jB,addN]; done) | (simp [jB,addN]; omega)):p:=h
theorem sr {n es:Nat} {f:Bool} {g:Nat→AV}:n=n∧(n≠0→es=es)∧(f=true→f=true)∧∀i,i<n→Le (g i) (g i):=⟨rfl,λ _=>rfl,id,λ _ _=>.refl _⟩
theorem sf {n es:Nat} {f:Bool} {g:Nat→AV}:n=n∧(n≠0→es=es)∧(false=true→f=true)∧∀i,i<n→Le (g i) (g i):=⟨rfl,λ _=>rfl,nofun,λ _ _=>.refl _⟩
variable {A:Type} {B:Type} {C:Type}
theorem r4 {D:Type} {a:A} {b:B} {c:C} {d:D}:a=a∧b=b∧c=c∧d=d:=⟨rfl,rfl,rfl,rfl⟩
theorem r2 {a:A} {b:B}:a=a∧b=b:=⟨rfl,rfl⟩
theorem sn {R:Type} {d:Decidable p} {m:M R} {r:R} {K:Prop} (hm:need p m r) (h:p→m r→K):p∧K:=⟨hm.1,h hm.1 hm.2⟩
theorem sq {A R B C : Type} {m : M A} {k : A → M R} {r : R} {p K : B → C → Prop} {a : A → B} {b : A → C} (hm : bnd m k r) (F : ∀ {v}, m v → p (a v) (b v)) (h : ∀ v, k v r → K (a v) (b v)) : ∃ a b, p a b ∧ K a b := aI hm λ v hv hm => ⟨a v, b v, F hv, h v hm⟩
theorem s2 {R:Type} {q:Prop} {d:Decidable p} {d2:Decidable q} {m:M R} {r:R} {K:Prop} (hm:need p (need q m) r) (h:p→q→m r→K):p∧q∧K:=⟨hm.1,hm.2.1,h hm.1 hm.2.1 hm.2.2⟩
theorem si {R:Type} {c:Bool} {x y:M R} {r:R} {A B:Prop} (hm:(cond c x y) r) (h1:c=true→x r→A) (h2:c=false→y r→B):Fe c A B:=dI hm h1 h2
theorem sb {R:Type} {m:M A} {k:A→M R} {r:R} {G:Prop} (hm:bnd m k r) (h:∀v,m v→k v r→G):G:=aI hm h
theorem cl {p K:A→B→Prop} {a:A} {b:B} (h:p a b) (k:K a b):∃a b,p a b∧K a b:=⟨a,b,h,k⟩
theorem re {P:List A→List B→Prop} (h:P [] []:=by exact z):∃a b,P a b:=⟨_,_,h⟩
theorem rt {P:A→B→Prop} (a:A) (b:B) (h:P a b:=by exact z):∃a b,P a b:=⟨_,_,h⟩
theorem lc {p:A→Prop} {E:A→B→C→Prop} {a:A} (b:B) (c:C) (hm:p a) (h:E a b c:=by exact z):∃a b c,p a∧E a b c:=⟨a,b,c,hm,h⟩
theorem lce {p:A→Prop} {E:A→B→C→Prop} {a:A} (b:B) (c:C) (hm:p a) (h:E a b c):∃a b c,p a∧E a b c:=⟨a,b,c,hm,h⟩
theorem le {p:A→Prop} {E:A→List B→List C→Prop} {a:A} (hm:p a) (h:E a [] []:=by exact z):∃a b c,p a∧E a b c:=⟨a,_,_,hm,h⟩
theorem spc (ct:List Nat) {fn:Func} {c:Code} {args:List AV} {obs:List cu} {r:AV} {dQ:List cu} (hf:Tryz.prog.funcs[f]? = some fn) (hb:fn.body=some c)
  (h:ji cfg (Ab.Spec Tryz.prog cfg) ct (Loops Tryz.prog cfg fn.ntmps none obs.length) c ⟨AP args 0,zX.kP obs 0,obs.length⟩ (abD cfg fn.results.toList obs.length r dQ))
  (hnm:(fn.name == "runtime.NumGoroutine")=false:=by exact rfl)
  (hN:args.length≤fn.ntmps:=by exact Nat.le_of_ble_eq_true rfl) (hok:gK fn.ntmps c=true:=by decide +kernel) (hle:obs.length≤dQ.length:=by exact Nat.le_of_ble_eq_true rfl):S f args obs r dQ:=
 jX bO hf hb hnm hN hok hle h
theorem sp {fn:Func} {c:Code} {args:List AV} {obs:List cu} {r:AV} {dQ:List cu} (hf:Tryz.prog.funcs[f]? = some fn) (hb:fn.body=some c)
  (h:ji cfg (Ab.Spec Tryz.prog cfg) [] (Loops Tryz.prog cfg fn.ntmps none obs.length) c ⟨AP args 0,zX.kP obs 0,obs.length⟩ (abD cfg fn.results.toList obs.length r dQ))
  (hnm:(fn.name == "runtime.NumGoroutine")=false:=by exact rfl)
  (hN:args.length≤fn.ntmps:=by exact Nat.le_of_ble_eq_true rfl) (hok:gK fn.ntmps c=true:=by decide +kernel) (hle:obs.length≤dQ.length:=by exact Nat.le_of_ble_eq_true rfl):S f args obs r dQ:=
 jX bO hf hb hnm hN hok hle h
section
variable {N:Nat} {rr:Option Nat} {m:Nat}
variable {c:Code} {s:St} {K:Exit→St→Prop} {σ R:Type} {F:(σ→M R)→σ→M R} {x0:σ} {r:R}
theorem lfe (ct:List Nat) (hm:bJ F x0 r) (st:σ→St) (ρ0:List (Nat×Option Nat)) (os0:List Nat) (hE:F3 m ρ0 os0 s (st x0))
  (round:∀(self:σ→M R) (x:σ),F self x r→ji cfg (Ab.Spec Tryz.prog cfg) ct (Loops Tryz.prog cfg N rr m) c (st x) (λ e s'=>match e with | .normal=>∃x' ρ os,self x' r∧F3 m ρ os s' (st x') | e=>K e s'))
  (hok:gK N c=true:=by decide +kernel):Loops Tryz.prog cfg N rr m (.loop c) s K:=aP bO hok hm st ρ0 os0 hE round
theorem lfc (ct:List Nat) (hm:bJ F x0 r) (st:σ→St) (ρ0:List (Nat×Option Nat)) (os0:List Nat)
  (round:∀(self:σ→M R) (x:σ),F self x r→ji cfg (Ab.Spec Tryz.prog cfg) ct (Loops Tryz.prog cfg N rr m) c (st x) (λ e s'=>match e with | .normal=>∃x' ρ os,self x' r∧F3 m ρ os s' (st x') | e=>K e s'))
  (hE:F3 m ρ0 os0 s (st x0):=by exact z) (hok:gK N c=true:=by decide +kernel):Loops Tryz.prog cfg N rr m (.loop c) s K:=aP bO hok hm st ρ0 os0 hE round
theorem lf (hm:bJ F x0 r) (st:σ→St) (ρ0:List (Nat×Option Nat)) (os0:List Nat)
  (round:∀(self:σ→M R) (x:σ),F self x r→ji cfg (Ab.Spec Tryz.prog cfg) [] (Loops Tryz.prog cfg N rr m) c (st x) (λ e s'=>match e with | .normal=>∃x' ρ os,self x' r∧F3 m ρ os s' (st x') | e=>K e s'))
  (hE:F3 m ρ0 os0 s (st x0):=by exact z) (hok:gK N c=true:=by decide +kernel):Loops Tryz.prog cfg N rr m (.loop c) s K:=aP bO hok hm st ρ0 os0 hE round
theorem l0 (hm:bJ F x0 r) (st:σ→St)
  (round:∀(self:σ→M R) (x:σ),F self x r→ji cfg (Ab.Spec Tryz.prog cfg) [] (Loops Tryz.prog cfg N rr m) c (st x) (λ e s'=>match e with | .normal=>∃x' ρ os,self x' r∧F3 m ρ os s' (st x') | e=>K e s'))
  (hE:F3 m [] [] s (st x0):=by exact z) (hok:gK N c=true:=by decide +kernel):Loops Tryz.prog cfg N rr m (.loop c) s K:=aP bO hok hm st [] [] hE round
theorem ck (ct:List Nat) {x y:Code} {s:St} {K:Exit→St→Prop} (k:σ→M R) (r:R) (st:σ→St)
  (h1:ji cfg (Ab.Spec Tryz.prog cfg) ct (Loops Tryz.prog cfg N rr m) x s (λ e s'=>match e with | .normal=>∃x' ρ os,k x' r∧F3 m ρ os s' (st x') | e=>K e s'))
  (h2:∀x',k x' r→ji cfg (Ab.Spec Tryz.prog cfg) ct (Loops Tryz.prog cfg N rr m) y (st x') K) (afk:gK N x=true:=by decide +kernel) (afl:gK N y=true:=by decide +kernel):Loops Tryz.prog cfg N rr m (.seq x y) s K:=SL bO afk afl k r st h1 h2
end
end Go.Proofs.YtnbjfoeapbncjaaGreatDoor
namespace Go.Proofs.YtnbjfoeapbncjaaGreatDoor
open Go.Ab
set_option maxRecDepth 100000
set_option maxHeartbeats 20000000
theorem Q8  {r:aW×List ay} (m:SX r):S 12 [] [] (.jg [gP r.1,bC r.2]) [] :=sp Tryz.func12 rfl<|by cases m;exact rt [80,272] []
theorem GI {l_:List bf} {r:List Int} (m:Fu l_ r):S 264 [aY l_] [] (au r) [] :=sp Tryz.func264 rfl<|l0 m (λ g1=>⟨[(3,.iK),(9,aY l_),(10,iV (l_.length:Int)),(11,iV (0:Int))],[],0⟩) <|λ av g1 m=>by
 have c2:=m.1
 have m:=m.2
 refine aj (λ q=>Bool.noConfusion (c2.symm.trans q)) (λ _=>?_)
 (conv=>whnf)
 have m:r=([]:List Int):=m
 subst m
 refine ⟨[],[],?_⟩
 (conv=>whnf)
 exact ⟨⟨rfl,trivial,trivial⟩,⟨rfl,(λ h=>absurd rfl h),nofun,(λ _ h=>absurd h (Nat.not_lt_zero _))⟩⟩
theorem nK {l_:List bf} {r:Int} (m:tO l_ r):S 201 [aY l_] [] (iV r) [] :=sp Tryz.func201 rfl<|by
 have c1:=m.1
 have m:=m.2
 refine aj (λ q=>Bool.noConfusion (c1.symm.trans q)) (λ _=>?_)
 (conv=>whnf)
 refine aP (ct:=[]) bO dk m (λ g1=>⟨[(0,aY l_),(15,aY l_),(16,iV (l_.length:Int)),(17,iV (0:Int))],[],0⟩) [] [] ⟨rfl,⟨sr,sr,r2,r2,trivial⟩,trivial⟩ ?_
 intro av g1 m
 (conv=>whnf)
 have c3:=m.1
 have m:=m.2
 refine aj (λ q=>Bool.noConfusion (c3.symm.trans q)) (λ _=>?_)
 (conv=>whnf)
 refine aP (ct:=[]) bO dk m (λ g2=>⟨[(0,aY l_),(5,iV (1:Int)),(32,aY l_),(33,iV (l_.length:Int)),(34,iV (0:Int))],[],0⟩) [] [] ⟨rfl,⟨sr,r2,sr,r2,r2,trivial⟩,trivial⟩ ?_
 intro dL g2 m
 (conv=>whnf)
 have c5:=m.1
 have m:=m.2
 refine aj (λ q=>Bool.noConfusion (c5.symm.trans q)) (λ _=>?_)
 (conv=>whnf)
 refine aI m λ v1 hv1 m=>?_
 refine ⟨_,_,(GI hv1),?_⟩
 (conv=>whnf)
 refine aP (ct:=[]) bO dk m (λ g3=>⟨[(84,au v1),(85,iV (v1.length:Int)),(86,iV (0:Int))],[],0⟩) [] [] ⟨rfl,⟨sr,r2,r2,trivial⟩,trivial⟩ ?_
 intro iZ g3 m
 (conv=>whnf)
 have c7:=m.1
 have m:=m.2
 refine aj (λ q=>Bool.noConfusion (c7.symm.trans q)) (λ _=>?_)
 (conv=>whnf)
 have m:r=(0:Int):=m
 subst m
 refine ⟨[],[],?_⟩
 (conv=>whnf)
 exact ⟨⟨rfl,trivial,trivial⟩,r2⟩
theorem nL {l_:List aL} {r:Int} (m:tQ l_ r):S 202 [aQ l_] [] (iV r) [] :=sp Tryz.func202 rfl<|by
 have c1:=m.1
 have m:=m.2
 refine aj (λ q=>Bool.noConfusion (c1.symm.trans q)) (λ _=>?_)
 (conv=>whnf)
 refine aP (ct:=[]) bO dk m (λ g1=>⟨[(0,aQ l_),(12,aQ l_),(13,iV (l_.length:Int)),(14,iV (0:Int))],[],0⟩) [] [] ⟨rfl,⟨sr,sr,r2,r2,trivial⟩,trivial⟩ ?_
 intro av g1 m
 (conv=>whnf)
 have c3:=m.1
 have m:=m.2
 refine aj (λ q=>Bool.noConfusion (c3.symm.trans q)) (λ _=>?_)
 (conv=>whnf)
 refine aP (ct:=[]) bO dk m (λ g2=>⟨[(23,aQ l_),(24,iV (l_.length:Int)),(25,iV (0:Int))],[],0⟩) [] [] ⟨rfl,⟨sr,r2,r2,trivial⟩,trivial⟩ ?_
 intro dL g2 m
 (conv=>whnf)
 have c5:=m.1
 have m:=m.2
 refine aj (λ q=>Bool.noConfusion (c5.symm.trans q)) (λ _=>?_)
 (conv=>whnf)
 have m:r=(0:Int):=m
 subst m
 refine ⟨[],[],?_⟩
 (conv=>whnf)
 exact ⟨⟨rfl,trivial,trivial⟩,r2⟩
variable {r:Bool}
theorem oZ {s_:ByteArray} (m:wh s_ r):S 205 [.str s_] [] (.bool r) [] :=sp Tryz.func205 rfl<|s2 m λ _ _ m=>by
 have c1:=m.1
 have m:=m.2
 refine aj (λ q=>Bool.noConfusion (c1.symm.trans q)) (λ _=>?_)
 (conv=>whnf)
 refine aP (ct:=[]) bO dk m (λ g1=>⟨[(0,.str s_),(3,iV g1)],[],0⟩) [] [] ⟨rfl,⟨rfl,r2,trivial⟩,trivial⟩ ?_
 intro av g1 m
 (conv=>whnf)
 refine dI m (λ c6 m=>?_) (λ c6 m=>?_)
 ·(conv=>whnf)
  refine ah m λ h15 m=>?_
  (conv=>whnf)
  refine ah m λ h16 m=>?_
  (conv=>whnf)
  refine ah m λ h17 m=>?_
  (conv=>whnf)
  refine ah m λ h18 m=>?_
  (conv=>whnf)
  refine ah m λ h19 m=>?_
  (conv=>whnf)
  have c7:=m.1
  have m:=m.2
  refine aj (λ q=>Bool.noConfusion (c7.symm.trans q)) (λ _=>?_)
  (conv=>whnf)
  refine ah m λ h20 m=>?_
  (conv=>whnf)
  exact ⟨(g1+(1:Int)),[],[],m,⟨rfl,⟨rfl,r2,trivial⟩,trivial⟩⟩
 ·(conv=>whnf)
  have m:r=true:=m
  subst m
  refine ⟨[],[],?_⟩
  (conv=>whnf)
  exact ⟨⟨rfl,trivial,trivial⟩,rfl⟩
variable {p_:bI}
theorem Lc {i_:Int} {r:Int} (m:Mw p_ i_ r):S 265 [jk p_,iV i_] [] (iV r) [] :=sp Tryz.func265 rfl<|sn m λ _ m=>sq m oZ λ v1 m=>by
 have c1:=m.1
 have m:=m.2
 refine aj (λ q=>Bool.noConfusion (c1.symm.trans q)) (λ _=>?_)
 (conv=>whnf)
 refine aP (ct:=[]) bO dk m (λ g1=>⟨[(1,iV i_),(2,.ptr 0 0 0),(5,.ptr 1 0 0),(6,iV (0:Int))],[(0,some (.box [iV p_.bT,aX p_.aF])),(1,some (.box [.str ((p_.aF.getD i_.toNat aM).uo),au ((p_.aF.getD i_.toNat aM).bT),eG ((p_.aF.getD i_.toNat aM).aC)]))],2⟩) [(1,some 112)] [] ⟨rfl,⟨r2,r4,r4,r2,trivial⟩,⟨⟨r2,sr,trivial⟩,⟨rfl,sr,sr,trivial⟩,trivial⟩⟩ ?_
 intro av g1 m
 (conv=>whnf)
 have c3:=m.1
 have m:=m.2
 refine aj (λ q=>Bool.noConfusion (c3.symm.trans q)) (λ _=>?_)
 (conv=>whnf)
 have c4:=m.1
 have m:=m.2
 refine aj (λ q=>Bool.noConfusion (c4.symm.trans q)) (λ _=>?_)
 (conv=>whnf)
 have c5:=m.1
 have m:=m.2
 refine aj (λ q=>Bool.noConfusion (c5.symm.trans q)) (λ _=>?_)
 (conv=>whnf)
 refine aP (ct:=[]) bO dk m (λ g2=>⟨[(2,.ptr 0 0 0),(5,.ptr 1 0 0),(7,iV g2)],[(0,some (.box [iV p_.bT,aX p_.aF])),(1,some (.box [.str ((p_.aF.getD i_.toNat aM).uo),au ((p_.aF.getD i_.toNat aM).bT),eG ((p_.aF.getD i_.toNat aM).aC)]))],2⟩) [] [] ⟨rfl,⟨r4,r4,r2,trivial⟩,⟨⟨r2,sr,trivial⟩,⟨rfl,sr,sr,trivial⟩,trivial⟩⟩ ?_
 intro dL g2 m
 (conv=>whnf)
 refine dI m (λ c10 m=>?_) (λ c10 m=>?_)
 ·(conv=>whnf)
  refine ah m λ h8 m=>?_
  (conv=>whnf)
  refine ah m λ h9 m=>?_
  (conv=>whnf)
  have c11:=m.1
  have m:=m.2
  refine aj (λ q=>Bool.noConfusion (c11.symm.trans q)) (λ _=>?_)
  (conv=>whnf)
  refine ah m λ h10 m=>?_
  (conv=>whnf)
  exact ⟨(g2+(1:Int)),[],[],m,⟨rfl,⟨r4,r4,r2,trivial⟩,⟨⟨r2,sr,trivial⟩,⟨rfl,sr,sr,trivial⟩,trivial⟩⟩⟩
 ·(conv=>whnf)
  refine aP (ct:=[]) bO dk m (λ g3=>⟨[(5,.ptr 0 0 0),(8,iV g3)],[(0,some (.box [.str ((p_.aF.getD i_.toNat aM).uo),au ((p_.aF.getD i_.toNat aM).bT),eG ((p_.aF.getD i_.toNat aM).aC)]))],1⟩) [(0,some 1)] [] ⟨rfl,⟨r4,r2,trivial⟩,⟨⟨rfl,sr,sr,trivial⟩,trivial⟩⟩ ?_
  intro iZ g3 m
  (conv=>whnf)
  refine dI m (λ c16 m=>?_) (λ c16 m=>?_)
  ·(conv=>whnf)
   refine ah m λ h19 m=>?_
   (conv=>whnf)
   refine ah m λ h20 m=>?_
   (conv=>whnf)
   refine ah m λ h21 m=>?_
   (conv=>whnf)
   have c17:=m.1
   have m:=m.2
   refine aj (λ q=>Bool.noConfusion (c17.symm.trans q)) (λ _=>?_)
   (conv=>whnf)
   refine ah m λ h22 m=>?_
   (conv=>whnf)
   exact ⟨(g3+(1:Int)),[],[],m,⟨rfl,⟨r4,r2,trivial⟩,⟨⟨rfl,sr,sr,trivial⟩,trivial⟩⟩⟩
  ·(conv=>whnf)
   refine aP (ct:=[]) bO dk m (λ g4=>⟨[(5,.ptr 0 0 0),(9,iV g4)],[(0,some (.box [.str ((p_.aF.getD i_.toNat aM).uo),au ((p_.aF.getD i_.toNat aM).bT),eG ((p_.aF.getD i_.toNat aM).aC)]))],1⟩) [] [] ⟨rfl,⟨r4,r2,trivial⟩,⟨⟨rfl,sr,sr,trivial⟩,trivial⟩⟩ ?_
   intro nN g4 m
   (conv=>whnf)
   refine dI m (λ c22 m=>?_) (λ c22 m=>?_)
   ·(conv=>whnf)
    refine ah m λ h27 m=>?_
    (conv=>whnf)
    refine aI m λ v4 hv4 m=>?_
    refine ⟨_,_,(oZ hv4),?_⟩
    (conv=>whnf)
    have c23:=m.1
    have m:=m.2
    refine aj (λ q=>Bool.noConfusion (c23.symm.trans q)) (λ _=>?_)
    (conv=>whnf)
    refine ah m λ h28 m=>?_
    (conv=>whnf)
    exact ⟨(g4+(1:Int)),[],[],m,⟨rfl,⟨r4,r2,trivial⟩,⟨⟨rfl,sr,sr,trivial⟩,trivial⟩⟩⟩
   ·(conv=>whnf)
    refine aP (ct:=[]) bO dk m (λ g5=>⟨[(5,.ptr 0 0 0),(10,iV g5)],[(0,some (.box [.str ((p_.aF.getD i_.toNat aM).uo),au ((p_.aF.getD i_.toNat aM).bT),eG ((p_.aF.getD i_.toNat aM).aC)]))],1⟩) [] [] ⟨rfl,⟨r4,r2,trivial⟩,⟨⟨rfl,sr,sr,trivial⟩,trivial⟩⟩ ?_
    intro uT g5 m
    (conv=>whnf)
    refine dI m (λ c28 m=>?_) (λ c28 m=>?_)
    ·(conv=>whnf)
     refine aP (ct:=[]) bO dk m (λ g8=>⟨[(5,.ptr 0 0 0),(10,iV g5),(11,iV (0:Int))],[(0,some (.box [.str ((p_.aF.getD i_.toNat aM).uo),au ((p_.aF.getD i_.toNat aM).bT),eG ((p_.aF.getD i_.toNat aM).aC)]))],1⟩) [] [] ⟨rfl,⟨r4,r2,r2,trivial⟩,⟨⟨rfl,sr,sr,trivial⟩,trivial⟩⟩ ?_
     intro ahb g8 m
     (conv=>whnf)
     have c30:=m.1
     have m:=m.2
     refine aj (λ q=>Bool.noConfusion (c30.symm.trans q)) (λ _=>?_)
     (conv=>whnf)
     refine ah m λ h31 m=>?_
     (conv=>whnf)
     exact ⟨(g5+(1:Int)),[],[],m,⟨rfl,⟨r4,r2,trivial⟩,⟨⟨rfl,sr,sr,trivial⟩,trivial⟩⟩⟩
    ·(conv=>whnf)
     have m:r=(0:Int):=m
     subst m
     refine ⟨[],[],?_⟩
     (conv=>whnf)
     exact ⟨⟨rfl,trivial,trivial⟩,r2⟩
theorem sJ {r:Int} (m:xH p_ r):S 203 [jk p_] [] (iV r) [] :=sp Tryz.func203 rfl<|by
 have c1:=m.1
 have m:=m.2
 refine aj (λ q=>Bool.noConfusion (c1.symm.trans q)) (λ _=>?_)
 (conv=>whnf)
 have c2:=m.1
 have m:=m.2
 refine aj (λ q=>Bool.noConfusion (c2.symm.trans q)) (λ _=>?_)
 (conv=>whnf)
 refine aP (ct:=[]) bO dk m (λ g1=>⟨[(1,.ptr 0 0 0),(3,iV g1)],[(0,some (.box [iV p_.bT,aX p_.aF]))],1⟩) [] [] ⟨rfl,⟨r4,r2,trivial⟩,⟨⟨r2,sr,trivial⟩,trivial⟩⟩ ?_
 intro av g1 m
 (conv=>whnf)
 refine dI m (λ c7 m=>?_) (λ c7 m=>?_)
 ·(conv=>whnf)
  refine aI m λ v3 hv3 m=>?_
  refine ⟨_,_,(Lc hv3),?_⟩
  (conv=>whnf)
  have c8:=m.1
  have m:=m.2
  refine aj (λ q=>Bool.noConfusion (c8.symm.trans q)) (λ _=>?_)
  (conv=>whnf)
  refine ah m λ h3 m=>?_
  (conv=>whnf)
  exact ⟨(g1+(1:Int)),[],[],m,⟨rfl,⟨r4,r2,trivial⟩,⟨⟨r2,sr,trivial⟩,trivial⟩⟩⟩
 ·(conv=>whnf)
  have m:r=(0:Int):=m
  subst m
  refine ⟨[],[],?_⟩
  (conv=>whnf)
  exact ⟨⟨rfl,trivial,trivial⟩,r2⟩
theorem sK {l_:List fF} {r:Int} (m:xI l_ r):S 148 [bV l_] [] (iV r) [] :=sp Tryz.func148 rfl<|by
 have c1:=m.1
 have m:=m.2
 refine aj (λ q=>Bool.noConfusion (c1.symm.trans q)) (λ _=>?_)
 (conv=>whnf)
 refine aP (ct:=[]) bO dk m (λ g1=>⟨[(0,bV l_),(3,iV (0:Int))],[],0⟩) [] [] ⟨rfl,⟨sr,r2,trivial⟩,trivial⟩ ?_
 intro av g1 m
 (conv=>whnf)
 have c3:=m.1
 have m:=m.2
 refine aj (λ q=>Bool.noConfusion (c3.symm.trans q)) (λ _=>?_)
 (conv=>whnf)
 have m:r=(0:Int):=m
 subst m
 refine ⟨[],[],?_⟩
 (conv=>whnf)
 exact ⟨⟨rfl,trivial,trivial⟩,r2⟩
theorem sM {l_:List eF} {r:Int} (m:xJ l_ r):S 204 [bG l_] [] (iV r) [] :=sp Tryz.func204 rfl<|by
 have c1:=m.1
 have m:=m.2
 refine aj (λ q=>Bool.noConfusion (c1.symm.trans q)) (λ _=>?_)
 (conv=>whnf)
 refine aP (ct:=[]) bO dk m (λ g1=>⟨[(0,bG l_),(3,iV (0:Int))],[],0⟩) [] [] ⟨rfl,⟨sr,r2,trivial⟩,trivial⟩ ?_
 intro av g1 m
 (conv=>whnf)
 have c3:=m.1
 have m:=m.2
 refine aj (λ q=>Bool.noConfusion (c3.symm.trans q)) (λ _=>?_)
 (conv=>whnf)
 have m:r=(0:Int):=m
 subst m
 refine ⟨[],[],?_⟩
 (conv=>whnf)
 exact ⟨⟨rfl,trivial,trivial⟩,r2⟩
variable {b_:aW}
theorem Ld {r:Int} (m:Mx b_ r):S 139 [gP b_] [] (iV r) [] :=sp Tryz.func139 rfl<|sq m nK λ v1 m=>by
 have c1:=m.1
 have m:=m.2
 refine aj (λ q=>Bool.noConfusion (c1.symm.trans q)) (λ _=>?_)
 (conv=>whnf)
 refine aI m λ v2 hv2 m=>?_
 refine ⟨_,_,(nL hv2),?_⟩
 (conv=>whnf)
 have c2:=m.1
 have m:=m.2
 refine aj (λ q=>Bool.noConfusion (c2.symm.trans q)) (λ _=>?_)
 (conv=>whnf)
 refine aI m λ v3 hv3 m=>?_
 refine ⟨_,_,(sJ hv3),?_⟩
 (conv=>whnf)
 have c3:=m.1
 have m:=m.2
 refine aj (λ q=>Bool.noConfusion (c3.symm.trans q)) (λ _=>?_)
 (conv=>whnf)
 refine aI m λ v4 hv4 m=>?_
 refine ⟨_,_,(sK hv4),?_⟩
 (conv=>whnf)
 have c4:=m.1
 have m:=m.2
 refine aj (λ q=>Bool.noConfusion (c4.symm.trans q)) (λ _=>?_)
 (conv=>whnf)
 refine aI m λ v5 hv5 m=>?_
 refine ⟨_,_,(sM hv5),?_⟩
 (conv=>whnf)
 have m:r=v5:=m
 subst m
 refine ⟨[],[],?_⟩
 (conv=>whnf)
 exact ⟨⟨rfl,trivial,trivial⟩,r2⟩
variable {l_:List ay}
theorem N8 {x_:ay} {r:Int} (m:Qb b_ l_ x_ r):S 140 [gP b_,bC l_,pX x_] [] (iV r) [] :=sp Tryz.func140 rfl<|by
 have c1:=m.1
 have m:=m.2
 refine aj (λ q=>Bool.noConfusion (c1.symm.trans q)) (λ _=>?_)
 (conv=>whnf)
 refine aP (ct:=[]) bO dk m (λ g1=>⟨[(1,bC l_),(3,.ptr 0 0 0),(5,.ptr 1 0 0),(35,dN x_.eH),(36,iV (x_.eH.length:Int)),(37,iV (0:Int))],[(0,some (.box [aY b_.bM,aQ b_.aT,iV b_.aU.bT,aX b_.aU.aF,bV b_.bg,bG b_.bF])),(1,some (.box [dN x_.eH,eD x_.fU,eG x_.aC,au x_.bg,iV x_.gy,au x_.aO]))],2⟩) [(1,some 16)] [] ⟨rfl,⟨sr,r4,r4,sr,r2,r2,trivial⟩,⟨⟨sr,sr,r2,sr,sr,sr,trivial⟩,⟨sr,sr,sr,sr,r2,sr,trivial⟩,trivial⟩⟩ ?_
 intro av g1 m
 (conv=>whnf)
 have c3:=m.1
 have m:=m.2
 refine aj (λ q=>Bool.noConfusion (c3.symm.trans q)) (λ _=>?_)
 (conv=>whnf)
 refine aP (ct:=[]) bO dk m (λ g2=>⟨[(1,bC l_),(3,.ptr 0 0 0),(5,.ptr 1 0 0),(71,eD x_.fU),(72,iV (x_.fU.length:Int)),(73,iV (0:Int))],[(0,some (.box [aY b_.bM,aQ b_.aT,iV b_.aU.bT,aX b_.aU.aF,bV b_.bg,bG b_.bF])),(1,some (.box [dN x_.eH,eD x_.fU,eG x_.aC,au x_.bg,iV x_.gy,au x_.aO]))],2⟩) [] [] ⟨rfl,⟨sr,r4,r4,sr,r2,r2,trivial⟩,⟨⟨sr,sr,r2,sr,sr,sr,trivial⟩,⟨sr,sr,sr,sr,r2,sr,trivial⟩,trivial⟩⟩ ?_
 intro dL g2 m
 (conv=>whnf)
 have c5:=m.1
 have m:=m.2
 refine aj (λ q=>Bool.noConfusion (c5.symm.trans q)) (λ _=>?_)
 (conv=>whnf)
 refine aP (ct:=[]) bO dk m (λ g3=>⟨[(1,bC l_),(3,.ptr 0 0 0),(5,.ptr 1 0 0),(117,eG x_.aC),(118,iV (x_.aC.length:Int)),(119,iV g3)],[(0,some (.box [aY b_.bM,aQ b_.aT,iV b_.aU.bT,aX b_.aU.aF,bV b_.bg,bG b_.bF])),(1,some (.box [dN x_.eH,eD x_.fU,eG x_.aC,au x_.bg,iV x_.gy,au x_.aO]))],2⟩) [] [] ⟨rfl,⟨sr,r4,r4,sr,r2,r2,trivial⟩,⟨⟨sr,sr,r2,sr,sr,sr,trivial⟩,⟨sr,sr,sr,sr,r2,sr,trivial⟩,trivial⟩⟩ ?_
 intro iZ g3 m
 (conv=>whnf)
 refine dI m (λ c10 m=>?_) (λ c10 m=>?_)
 ·(conv=>whnf)
  refine ah m λ h5 m=>?_
  (conv=>whnf)
  refine aI m λ v3 hv3 m=>?_
  refine ⟨_,_,(oZ hv3),?_⟩
  (conv=>whnf)
  have c11:=m.1
  have m:=m.2
  refine aj (λ q=>Bool.noConfusion (c11.symm.trans q)) (λ _=>?_)
  (conv=>whnf)
  refine ah m λ h6 m=>?_
  (conv=>whnf)
  exact ⟨(g3+(1:Int)),[],[],m,⟨rfl,⟨sr,r4,r4,sr,r2,r2,trivial⟩,⟨⟨sr,sr,r2,sr,sr,sr,trivial⟩,⟨sr,sr,sr,sr,r2,sr,trivial⟩,trivial⟩⟩⟩
 ·(conv=>whnf)
  refine aP (ct:=[]) bO dk m (λ g4=>⟨[(1,bC l_),(3,.ptr 0 0 0),(5,.ptr 1 0 0),(128,au x_.bg),(129,iV (x_.bg.length:Int)),(130,iV (0:Int))],[(0,some (.box [aY b_.bM,aQ b_.aT,iV b_.aU.bT,aX b_.aU.aF,bV b_.bg,bG b_.bF])),(1,some (.box [dN x_.eH,eD x_.fU,eG x_.aC,au x_.bg,iV x_.gy,au x_.aO]))],2⟩) [] [] ⟨rfl,⟨sr,r4,r4,sr,r2,r2,trivial⟩,⟨⟨sr,sr,r2,sr,sr,sr,trivial⟩,⟨sr,sr,sr,sr,r2,sr,trivial⟩,trivial⟩⟩ ?_
  intro nN g4 m
  (conv=>whnf)
  have c13:=m.1
  have m:=m.2
  refine aj (λ q=>Bool.noConfusion (c13.symm.trans q)) (λ _=>?_)
  (conv=>whnf)
  have c14:=m.1
  have m:=m.2
  refine aj (λ q=>Bool.noConfusion (c14.symm.trans q)) (λ _=>?_)
  (conv=>whnf)
  refine aP (ct:=[]) bO dk m (λ g5=>⟨[(1,bC l_),(5,.ptr 0 0 0),(156,au x_.aO),(157,iV (x_.aO.length:Int)),(158,iV (0:Int))],[(0,some (.box [dN x_.eH,eD x_.fU,eG x_.aC,au x_.bg,iV x_.gy,au x_.aO]))],1⟩) [(0,some 1)] [] ⟨rfl,⟨sr,r4,sr,r2,r2,trivial⟩,⟨⟨sr,sr,sr,sr,r2,sr,trivial⟩,trivial⟩⟩ ?_
  intro uT g5 m
  (conv=>whnf)
  have c16:=m.1
  have m:=m.2
  refine aj (λ q=>Bool.noConfusion (c16.symm.trans q)) (λ _=>?_)
  (conv=>whnf)
  refine aP (ct:=[]) bO dk m (λ g6=>⟨[(5,.ptr 0 0 0),(17,iV (1:Int))],[(0,some (.box [dN x_.eH,eD x_.fU,eG x_.aC,au x_.bg,iV x_.gy,au x_.aO]))],1⟩) [] [] ⟨rfl,⟨r4,r2,trivial⟩,⟨⟨sr,sr,sr,sr,r2,sr,trivial⟩,trivial⟩⟩ ?_
  intro jL g6 m
  (conv=>whnf)
  have c18:=m.1
  have m:=m.2
  refine aj (λ q=>Bool.noConfusion (c18.symm.trans q)) (λ _=>?_)
  (conv=>whnf)
  have m:r=(0:Int):=m
  subst m
  refine ⟨[],[],?_⟩
  (conv=>whnf)
  exact ⟨⟨rfl,trivial,trivial⟩,r2⟩
theorem o7 {r:Int} (m:wo b_ l_ r):S 69 [gP b_,bC l_] [] (iV r) [] :=sp Tryz.func69 rfl<|sq m Ld λ v1 m=>by
 have c1:=m.1
 have m:=m.2
 refine aj (λ q=>Bool.noConfusion (c1.symm.trans q)) (λ _=>?_)
 (conv=>whnf)
 have c2:=m.1
 have m:=m.2
 refine aj (λ q=>Bool.noConfusion (c2.symm.trans q)) (λ _=>?_)
 (conv=>whnf)
 refine aP (ct:=[]) bO dk m (λ g1=>⟨[(1,bC l_),(2,.ptr 0 0 0),(6,iV g1)],[(0,some (.box [aY b_.bM,aQ b_.aT,iV b_.aU.bT,aX b_.aU.aF,bV b_.bg,bG b_.bF]))],1⟩) [] [] ⟨rfl,⟨sr,r4,r2,trivial⟩,⟨⟨sr,sr,r2,sr,sr,sr,trivial⟩,trivial⟩⟩ ?_
 intro av g1 m
 (conv=>whnf)
 refine dI m (λ c7 m=>?_) (λ c7 m=>?_)
 ·(conv=>whnf)
  refine ah m λ h5 m=>?_
  (conv=>whnf)
  refine aI m λ v4 hv4 m=>?_
  refine ⟨_,_,(N8 hv4),?_⟩
  (conv=>whnf)
  have c8:=m.1
  have m:=m.2
  refine aj (λ q=>Bool.noConfusion (c8.symm.trans q)) (λ _=>?_)
  (conv=>whnf)
  refine ah m λ h6 m=>?_
  (conv=>whnf)
  exact ⟨(g1+(1:Int)),[],[],m,⟨rfl,⟨sr,r4,r2,trivial⟩,⟨⟨sr,sr,r2,sr,sr,sr,trivial⟩,trivial⟩⟩⟩
 ·(conv=>whnf)
  have m:r=(0:Int):=m
  subst m
  refine ⟨[],[],?_⟩
  (conv=>whnf)
  exact ⟨⟨rfl,trivial,trivial⟩,r2⟩
variable {ak:List Int}
theorem kX (m:oC l_ ak r):S 70 [bC l_,au ak] [] (.bool r) [] :=sp Tryz.func70 rfl<|l0 m (λ g1=>⟨[(0,bC l_),(1,au ak),(5,iV g1)],[],0⟩) <|λ av g1 m=>si m (λ _ m=>s2 m λ _ _ m=>by
 have c8:=m.1
 have m:=m.2
 refine aj (λ q=>Bool.noConfusion (c8.symm.trans q)) (λ _=>?_)
 (conv=>whnf)
 refine aP (ct:=[]) bO dk m (λ g4=>⟨[(0,bC l_),(1,au ak),(5,iV g1),(6,iV (0:Int))],[],0⟩) [] [] ⟨rfl,⟨sr,sr,r2,r2,trivial⟩,trivial⟩ ?_
 intro nN g4 m
 (conv=>whnf)
 have c10:=m.1
 have m:=m.2
 refine aj (λ q=>Bool.noConfusion (c10.symm.trans q)) (λ _=>?_)
 (conv=>whnf)
 refine ah m λ h9 m=>?_
 (conv=>whnf)
 exact ⟨(g1+(1:Int)),[],[],m,⟨rfl,⟨sr,sr,r2,trivial⟩,trivial⟩⟩) λ _ m=>by cases m;exact re
theorem Js {r:List bX} (m:Ic l_ ak r):S 71 [bC l_,au ak] [] (dN r) [] :=sp Tryz.func71 rfl<|l0 m (λ g1=>⟨[(0,bC l_),(5,.iK),(8,au ak),(9,iV (ak.length:Int)),(10,iV (0:Int))],[],0⟩) <|λ av g1 m=>by
 have c2:=m.1
 have m:=m.2
 refine aj (λ q=>Bool.noConfusion (c2.symm.trans q)) (λ _=>?_)
 (conv=>whnf)
 have m:r=([]:List bX):=m
 subst m
 refine ⟨[],[],?_⟩
 (conv=>whnf)
 exact ⟨⟨rfl,trivial,trivial⟩,⟨rfl,(λ h=>absurd rfl h),nofun,(λ _ h=>absurd h (Nat.not_lt_zero _))⟩⟩
theorem Lf {r:List bU} (m:MB l_ ak r):S 72 [bC l_,au ak] [] (eD r) [] :=sp Tryz.func72 rfl<|l0 m (λ g1=>⟨[(0,bC l_),(5,.iK),(8,au ak),(9,iV (ak.length:Int)),(10,iV (0:Int))],[],0⟩) <|λ av g1 m=>by
 have c2:=m.1
 have m:=m.2
 refine aj (λ q=>Bool.noConfusion (c2.symm.trans q)) (λ _=>?_)
 (conv=>whnf)
 have m:r=([]:List bU):=m
 subst m
 refine ⟨[],[],?_⟩
 (conv=>whnf)
 exact ⟨⟨rfl,trivial,trivial⟩,⟨rfl,(λ h=>absurd rfl h),nofun,(λ _ h=>absurd h (Nat.not_lt_zero _))⟩⟩
theorem ug {r:Int} (m:uz l_ ak r):S 73 [bC l_,au ak] [] (iV r) [] :=sp Tryz.func73 rfl<|l0 m (λ g1=>⟨[(0,bC l_),(5,iV g1.1),(8,au ak),(9,iV (ak.length:Int)),(10,iV g1.2)],[],0⟩) <|λ av g1 m=>si m (λ _ m=>sn m λ _ m=>by
 have c6:=m.1
 have m:=m.2
 refine aj (λ _=>?_) (λ q=>Bool.noConfusion (q.symm.trans c6))
 (conv=>whnf)
 refine ah m λ h10 m=>?_
 (conv=>whnf)
 refine ah m λ h11 m=>?_
 (conv=>whnf)
 refine ah m λ h12 m=>?_
 (conv=>whnf)
 exact ⟨((g1.1+((((l_.getD ((ak.getD g1.2.toNat 0).toNat) bE).aC).length:Nat):Int)),(g1.2+(1:Int))),[],[],m,⟨rfl,⟨sr,r2,sr,r2,r2,trivial⟩,trivial⟩⟩) λ _ m=>by cases m;exact re
variable {m_:List bX}
theorem yt {l_:List bf} (m:Ag l_ m_ r):S 206 [aY l_,dN m_] [] (.bool r) [] :=sp Tryz.func206 rfl<|sq m nK λ v1 m=>by
 have c1:=m.1
 have m:=m.2
 refine aj (λ q=>Bool.noConfusion (c1.symm.trans q)) (λ _=>?_)
 (conv=>whnf)
 refine aP (ct:=[]) bO dk m (λ g1=>⟨[(0,aY l_),(15,dN m_),(16,iV (m_.length:Int)),(17,iV (0:Int))],[],0⟩) [] [] ⟨rfl,⟨sr,sr,r2,r2,trivial⟩,trivial⟩ ?_
 intro av g1 m
 (conv=>whnf)
 have c3:=m.1
 have m:=m.2
 refine aj (λ q=>Bool.noConfusion (c3.symm.trans q)) (λ _=>?_)
 (conv=>whnf)
 have m:r=true:=m
 subst m
 refine ⟨[],[],?_⟩
 (conv=>whnf)
 exact ⟨⟨rfl,trivial,trivial⟩,rfl⟩
theorem Lg {l_:List bf} {r:Int} (m:MC l_ m_ r):S 141 [aY l_,dN m_] [] (iV r) [] :=sp Tryz.func141 rfl<|sq m nK λ v1 m=>by
 have c1:=m.1
 have m:=m.2
 refine aj (λ q=>Bool.noConfusion (c1.symm.trans q)) (λ _=>?_)
 (conv=>whnf)
 refine aI m λ v2 hv2 m=>?_
 refine ⟨_,_,(yt hv2),?_⟩
 (conv=>whnf)
 have c2:=m.1
 have m:=m.2
 refine aj (λ q=>Bool.noConfusion (c2.symm.trans q)) (λ _=>?_)
 (conv=>whnf)
 have m:r=(0:Int):=m
 subst m
 refine ⟨[],[],?_⟩
 (conv=>whnf)
 exact ⟨⟨rfl,trivial,trivial⟩,r2⟩
variable {s_:List Int}
theorem yu {l_:List bf} {r:List gB×List Bool} (m:Ah l_ s_ r):S 266 [aY l_,au s_] [] (.jg [nW r.1,aN r.2]) [] :=sp Tryz.func266 rfl<|l0 m (λ g1=>⟨[(1,au s_),(6,.iK),(7,.iK),(14,aY l_),(15,iV (l_.length:Int)),(16,iV (0:Int))],[],0⟩) <|λ av g1 m=>by
 have c2:=m.1
 have m:=m.2
 refine aj (λ q=>Bool.noConfusion (c2.symm.trans q)) (λ _=>?_)
 (conv=>whnf)
 have m:r=(([]:List gB),([]:List Bool)):=m
 subst m
 refine ⟨[],[],?_⟩
 (conv=>whnf)
 exact ⟨⟨rfl,trivial,trivial⟩,⟨⟨rfl,(λ h=>absurd rfl h),nofun,(λ _ h=>absurd h (Nat.not_lt_zero _))⟩,⟨rfl,(λ h=>absurd rfl h),nofun,(λ _ h=>absurd h (Nat.not_lt_zero _))⟩,trivial⟩⟩
theorem DV {l_:List bf} {r_:List gB} {RL:List Bool} (m:KL l_ r_ RL r):S 268 [aY l_,nW r_,aN RL] [] (.bool r) [] :=sp Tryz.func268 rfl<|l0 m (λ g1=>⟨[(1,nW r_),(2,aN RL),(9,aY l_),(10,iV (l_.length:Int)),(11,iV (0:Int))],[],0⟩) <|λ av g1 m=>by
 have c2:=m.1
 have m:=m.2
 refine aj (λ q=>Bool.noConfusion (c2.symm.trans q)) (λ _=>?_)
 (conv=>whnf)
 have m:r=true:=m
 subst m
 refine ⟨[],[],?_⟩
 (conv=>whnf)
 exact ⟨⟨rfl,trivial,trivial⟩,rfl⟩
theorem N9 {l_:List bf} (m:Qd l_ s_ m_ r):S 207 [aY l_,au s_,dN m_] [] (.bool r) [] :=sp Tryz.func207 rfl<|sq m yu λ v1 m=>l0 m (λ g1=>⟨[(0,aY l_),(7,nW v1.1),(8,aN v1.2),(17,dN m_),(18,iV (m_.length:Int)),(19,iV (0:Int))],[],0⟩) <|λ av g1 m=>by
 have c2:=m.1
 have m:=m.2
 refine aj (λ q=>Bool.noConfusion (c2.symm.trans q)) (λ _=>?_)
 (conv=>whnf)
 refine aI m λ v2 hv2 m=>?_
 refine ⟨_,_,(DV hv2),?_⟩
 (conv=>whnf)
 have m:r=v2:=m
 subst m
 refine ⟨[],[],?_⟩
 (conv=>whnf)
 exact ⟨⟨rfl,trivial,trivial⟩,rfl⟩
theorem Oa {l_:List bf} {r:List Int×Bool} (m:Qe l_ s_ r):S 208 [aY l_,au s_] [] (.jg [au r.1,.bool r.2]) [] :=sp Tryz.func208 rfl<|s2 m λ _ _ m=>lf m (λ g1=>⟨[(0,aY l_),(6,.dA 0 0 g1.length false),(7,iV ((l_.length:Int) - (1:Int)))],[(0,some (.row 1 g1.length (bD iV 0 g1)))],1⟩) [(0,some 64)] [] <|λ av g1 m=>by
 have c2:=m.1
 have m:=m.2
 refine aj (λ q=>Bool.noConfusion (c2.symm.trans q)) (λ _=>?_)
 (conv=>whnf)
 have m:r=(([]:List Int),false):=m
 subst m
 refine ⟨[],[],?_⟩
 (conv=>whnf)
 exact ⟨⟨rfl,trivial,trivial⟩,⟨⟨rfl,(λ h=>absurd rfl h),nofun,(λ _ h=>absurd h (Nat.not_lt_zero _))⟩,rfl,trivial⟩⟩
theorem Q9 {l_:List bf} {r:(List (List Int))} (m:SY l_ m_ r):S 142 [aY l_,dN m_] [] (fB r) [] :=spc [4] Tryz.func142 rfl<|sn m λ _ m=>lfc [4] m (λ g1=>⟨[(0,aY l_),(1,dN m_),(5,.dA 0 0 g1.2.2.length false),(6,au g1.1),(7,.bool g1.2.1)],[(0,some (.row 1 g1.2.2.length (bD au [] g1.2.2)))],1⟩) [(0,none)] [64] <|λ av g1 m=>ck [4] (Ie l_ m_ g1 av) r (λ g4=>⟨[(0,aY l_),(1,dN m_),(5,.dA 0 0 g1.2.2.length false),(6,au g1.1)],[(0,some (.row 1 g1.2.2.length (bD au [] g1.2.2)))],1⟩) (si m (λ _ m=>le m) λ _ m=>by cases m;exact rt [0] []) λ g4 m=>sq m N9 λ v5 m=>by
 have c6:=m.1
 have m:=m.2
 refine aj (λ _=>?_) (λ q=>Bool.noConfusion (q.symm.trans c6))
 (conv=>whnf)
 refine ah m λ h4 m=>?_
 (conv=>whnf)
 refine aI m λ v6 hv6 m=>?_
 refine ⟨_,_,(Oa hv6),?_⟩
 (conv=>whnf)
 exact ⟨(v6.1,v6.2,(g1.2.2++([g1.1]:List (List Int)))),[(0,some 113)],[],m,⟨rfl,⟨sr,sr,⟨rfl,rfl,rfl,oz,nofun⟩,sf,rfl,trivial⟩,⟨⟨rfl,oz,(gD rfl (λ _ _=>.refl _) rfl (fM au [] [g1.1]))⟩,trivial⟩⟩⟩
theorem zI {l_:List bf} {r:List Int×Int} (m:CB l_ m_ r):S 74 [aY l_,dN m_] [] (.jg [au r.1,iV r.2]) [] :=sp Tryz.func74 rfl<|sq m Lg λ v1 m=>by
 have c1:=m.1
 have m:=m.2
 refine aj (λ q=>Bool.noConfusion (c1.symm.trans q)) (λ _=>?_)
 (conv=>whnf)
 refine aI m λ v2 hv2 m=>?_
 refine ⟨_,_,(Q9 hv2),?_⟩
 (conv=>whnf)
 have c2:=m.1
 have m:=m.2
 refine aj (λ q=>Bool.noConfusion (c2.symm.trans q)) (λ _=>?_)
 (conv=>whnf)
 refine ah m λ h1 m=>?_
 (conv=>whnf)
 have m:r=((v2.getD 0 []),(0:Int)):=m
 subst m
 refine ⟨[],[],?_⟩
 (conv=>whnf)
 exact ⟨⟨rfl,trivial,trivial⟩,⟨sf,r2,trivial⟩⟩
variable {d_:List bU}
theorem zJ {l_:List aL} (m:CF l_ d_ r):S 209 [aQ l_,eD d_] [] (.bool r) [] :=sp Tryz.func209 rfl<|sq m nL λ v1 m=>by
 have c1:=m.1
 have m:=m.2
 refine aj (λ q=>Bool.noConfusion (c1.symm.trans q)) (λ _=>?_)
 (conv=>whnf)
 refine aP (ct:=[]) bO dk m (λ g1=>⟨[(0,aQ l_),(15,eD d_),(16,iV (d_.length:Int)),(17,iV (0:Int))],[],0⟩) [] [] ⟨rfl,⟨sr,sr,r2,r2,trivial⟩,trivial⟩ ?_
 intro av g1 m
 (conv=>whnf)
 have c3:=m.1
 have m:=m.2
 refine aj (λ q=>Bool.noConfusion (c3.symm.trans q)) (λ _=>?_)
 (conv=>whnf)
 have m:r=true:=m
 subst m
 refine ⟨[],[],?_⟩
 (conv=>whnf)
 exact ⟨⟨rfl,trivial,trivial⟩,rfl⟩
theorem Lh {l_:List aL} {r:Int} (m:ME l_ d_ r):S 143 [aQ l_,eD d_] [] (iV r) [] :=sp Tryz.func143 rfl<|sq m nL λ v1 m=>by
 have c1:=m.1
 have m:=m.2
 refine aj (λ q=>Bool.noConfusion (c1.symm.trans q)) (λ _=>?_)
 (conv=>whnf)
 refine aI m λ v2 hv2 m=>?_
 refine ⟨_,_,(zJ hv2),?_⟩
 (conv=>whnf)
 have c2:=m.1
 have m:=m.2
 refine aj (λ q=>Bool.noConfusion (c2.symm.trans q)) (λ _=>?_)
 (conv=>whnf)
 have m:r=(0:Int):=m
 subst m
 refine ⟨[],[],?_⟩
 (conv=>whnf)
 exact ⟨⟨rfl,trivial,trivial⟩,r2⟩
theorem BI {l_:List aL} {r:List Bool} (m:F9 l_ d_ r):S 144 [aQ l_,eD d_] [] (aN r) [] :=sp Tryz.func144 rfl<|s2 m λ _ _ m=>lf m (λ g1=>⟨[(0,aQ l_),(1,eD d_),(5,.dA 0 0 g1.length false),(6,iV ((l_.length:Int) - (1:Int)))],[(0,some (.row 1 g1.length (bD AV.bool false g1)))],1⟩) [(0,some 48)] [] <|λ av g1 m=>by
 have c2:=m.1
 have m:=m.2
 refine aj (λ q=>Bool.noConfusion (c2.symm.trans q)) (λ _=>?_)
 (conv=>whnf)
 have m:r=g1:=m
 subst m
 refine ⟨[0],[],?_⟩
 (conv=>whnf)
 exact ⟨⟨rfl,trivial,trivial⟩,sf⟩
theorem Li {l_:List aL} {r:List Int} (m:MF l_ d_ r):S 210 [aQ l_,eD d_] [] (au r) [] :=sp Tryz.func210 rfl<|s2 m λ _ _ m=>lf m (λ g1=>⟨[(0,aQ l_),(1,eD d_),(5,.dA 0 0 g1.length false),(6,iV ((l_.length:Int) - (1:Int)))],[(0,some (.row 1 g1.length (bD iV 0 g1)))],1⟩) [(0,some 48)] [] <|λ av g1 m=>by
 have c2:=m.1
 have m:=m.2
 refine aj (λ q=>Bool.noConfusion (c2.symm.trans q)) (λ _=>?_)
 (conv=>whnf)
 have m:r=g1:=m
 subst m
 refine ⟨[0],[],?_⟩
 (conv=>whnf)
 exact ⟨⟨rfl,trivial,trivial⟩,sf⟩
theorem zK {l_:List aL} {r_:dO} (m:CG l_ r_ d_ r):S 147 [aQ l_,Cz r_,eD d_] [] (.bool r) [] :=sp Tryz.func147 rfl<|sq m BI λ v1 m=>sq m Li λ v2 m=>l0 m (λ g1=>⟨[(0,aQ l_),(2,eD d_),(4,.ptr 0 0 0),(7,aN v1),(8,au v2),(19,aQ l_),(20,iV (l_.length:Int)),(21,iV (0:Int))],[(0,some (.box [aN r_.On,au r_.dX]))],1⟩) <|λ av g1 m=>by
 have c2:=m.1
 have m:=m.2
 refine aj (λ q=>Bool.noConfusion (c2.symm.trans q)) (λ _=>?_)
 (conv=>whnf)
 refine aP (ct:=[]) bO dk m (λ g2=>⟨[(0,aQ l_),(4,.ptr 0 0 0),(81,eD d_),(82,iV (d_.length:Int)),(83,iV (0:Int))],[(0,some (.box [aN r_.On,au r_.dX]))],1⟩) [] [] ⟨rfl,⟨sr,r4,sr,r2,r2,trivial⟩,⟨⟨sr,sr,trivial⟩,trivial⟩⟩ ?_
 intro dL g2 m
 (conv=>whnf)
 have c4:=m.1
 have m:=m.2
 refine aj (λ q=>Bool.noConfusion (c4.symm.trans q)) (λ _=>?_)
 (conv=>whnf)
 have m:r=true:=m
 subst m
 refine ⟨[],[],?_⟩
 (conv=>whnf)
 exact ⟨⟨rfl,trivial,trivial⟩,rfl⟩
theorem zL {l_:List aL} {r:dO×Int} (m:CJ l_ d_ r):S 75 [aQ l_,eD d_] [] (.jg [Cz r.1,iV r.2]) [] :=sp Tryz.func75 rfl<|sq m Lh λ v1 m=>by
 have c1:=m.1
 have m:=m.2
 refine aj (λ q=>Bool.noConfusion (c1.symm.trans q)) (λ _=>?_)
 (conv=>whnf)
 refine aI m λ v2 hv2 m=>?_
 refine ⟨_,_,(BI hv2),?_⟩
 (conv=>whnf)
 refine ah m λ h1 m=>?_
 (conv=>whnf)
 refine ah m λ h2 m=>?_
 (conv=>whnf)
 refine aP (ct:=[]) bO dk m (λ g1=>⟨[(0,aQ l_),(1,eD d_),(4,.ptr 0 0 0),(7,aN v2),(8,.ptr 1 0 0),(9,.dA 2 0 g1.1.length false),(32,eD d_),(33,iV (d_.length:Int)),(34,iV (0:Int))],[(0,some (.box [.sl 0 0 true eu,.sl 0 0 true eu])),(1,some (.box [aN v2,.dA 3 0 g1.2.length false])),(2,some (.row 1 g1.1.length (bD iV 0 g1.1))),(3,some (.row 1 g1.2.length (bD iV 0 g1.2)))],4⟩) [(1,some 272),(2,some 336),(3,some 240)] [] ⟨rfl,⟨sr,sr,r4,sr,r4,⟨rfl,rfl,rfl,oz,nofun⟩,sr,r2,r2,trivial⟩,⟨⟨sr,sr,trivial⟩,⟨sr,⟨rfl,rfl,rfl,oz,nofun⟩,trivial⟩,⟨rfl,oz,(lG iV 0)⟩,⟨rfl,oz,(lG iV 0)⟩,trivial⟩⟩ ?_
 intro av g1 m
 (conv=>whnf)
 have c3:=m.1
 have m:=m.2
 refine aj (λ q=>Bool.noConfusion (c3.symm.trans q)) (λ _=>?_)
 (conv=>whnf)
 refine ah m λ h3 m=>?_
 (conv=>whnf)
 refine aP (ct:=[]) bO dk m (λ g2=>⟨[(0,aQ l_),(1,eD d_),(4,.ptr 0 0 0),(7,aN v2),(8,.ptr 1 0 0),(9,.dA 2 0 g1.1.length false),(12,iV ((l_.length:Int) - (1:Int)))],[(0,some (.box [.sl 0 0 true eu,.sl 0 0 true eu])),(1,some (.box [aN v2,.dA 3 0 g1.2.length false])),(2,some (.row 1 g1.1.length (bD iV 0 g1.1))),(3,some (.row 1 g1.2.length (bD iV 0 g1.2)))],4⟩) [] [] ⟨rfl,⟨sr,sr,r4,sr,r4,⟨rfl,rfl,rfl,rfl,nofun⟩,r2,trivial⟩,⟨⟨sr,sr,trivial⟩,⟨sr,⟨rfl,rfl,rfl,rfl,nofun⟩,trivial⟩,⟨rfl,rfl,(λ _ _=>.refl _)⟩,⟨rfl,rfl,(λ _ _=>.refl _)⟩,trivial⟩⟩ ?_
 intro dL g2 m
 (conv=>whnf)
 have c5:=m.1
 have m:=m.2
 refine aj (λ q=>Bool.noConfusion (c5.symm.trans q)) (λ _=>?_)
 (conv=>whnf)
 refine aI m λ v3 hv3 m=>?_
 refine ⟨_,_,(zK hv3),?_⟩
 (conv=>whnf)
 have c6:=m.1
 have m:=m.2
 refine aj (λ q=>Bool.noConfusion (c6.symm.trans q)) (λ _=>?_)
 (conv=>whnf)
 have m:r=((⟨v2,g1.2⟩:dO),(0:Int)):=m
 subst m
 refine ⟨[3],[],?_⟩
 (conv=>whnf)
 exact ⟨⟨rfl,trivial,trivial⟩,(by (conv=>whnf); exact ⟨(by (conv=>whnf); exact ⟨(by (conv=>whnf); exact sf),(by (conv=>whnf); exact ⟨(by (conv=>whnf); exact sf),trivial⟩)⟩),(by (conv=>whnf); exact ⟨(by first | ((conv=>whnf); exact r2) | exact r2),trivial⟩)⟩)⟩
theorem yw {l_:List fF} {iO:List Int} {r:List Bool×Int} (m:Ai l_ iO r):S 76 [bV l_,au iO] [] (.jg [aN r.1,iV r.2]) [] :=sp Tryz.func76 rfl<|sq m sK λ v1 m=>by
 have c1:=m.1
 have m:=m.2
 refine aj (λ q=>Bool.noConfusion (c1.symm.trans q)) (λ _=>?_)
 (conv=>whnf)
 refine ah m λ h1 m=>?_
 (conv=>whnf)
 refine aP (ct:=[]) bO dk m (λ g1=>⟨[(0,bV l_),(1,au iO),(6,.dA 0 0 g1.length false),(7,iV (0:Int))],[(0,some (.row 1 g1.length (bD AV.bool false g1)))],1⟩) [(0,some 112)] [] ⟨rfl,⟨sr,sr,⟨rfl,rfl,rfl,oz,nofun⟩,r2,trivial⟩,⟨⟨rfl,oz,(lG AV.bool false)⟩,trivial⟩⟩ ?_
 intro av g1 m
 (conv=>whnf)
 have c3:=m.1
 have m:=m.2
 refine aj (λ q=>Bool.noConfusion (c3.symm.trans q)) (λ _=>?_)
 (conv=>whnf)
 refine ah m λ h2 m=>?_
 (conv=>whnf)
 refine aP (ct:=[]) bO dk m (λ g2=>⟨[(0,bV l_),(6,.dA 0 0 g1.length false),(8,iV ((l_.length:Int) - (1:Int)))],[(0,some (.row 1 g1.length (bD AV.bool false g1)))],1⟩) [] [] ⟨rfl,⟨sr,⟨rfl,rfl,rfl,rfl,nofun⟩,r2,trivial⟩,⟨⟨rfl,rfl,(λ _ _=>.refl _)⟩,trivial⟩⟩ ?_
 intro dL g2 m
 (conv=>whnf)
 have c5:=m.1
 have m:=m.2
 refine aj (λ q=>Bool.noConfusion (c5.symm.trans q)) (λ _=>?_)
 (conv=>whnf)
 have m:r=(g1,(0:Int)):=m
 subst m
 refine ⟨[0],[],?_⟩
 (conv=>whnf)
 exact ⟨⟨rfl,trivial,trivial⟩,(by (conv=>whnf); exact ⟨(by (conv=>whnf); exact sf),(by (conv=>whnf); exact ⟨(by first | ((conv=>whnf); exact r2) | exact r2),trivial⟩)⟩)⟩
theorem Ra {l_:List eF} {gY:List Int} {r:Int} (m:S9 l_ gY r):S 149 [bG l_,au gY] [] (iV r) [] :=sp Tryz.func149 rfl<|sq m sM λ v1 m=>by
 have c1:=m.1
 have m:=m.2
 refine aj (λ q=>Bool.noConfusion (c1.symm.trans q)) (λ _=>?_)
 (conv=>whnf)
 refine aP (ct:=[]) bO dk m (λ g1=>⟨[(0,bG l_),(1,au gY),(5,iV (0:Int))],[],0⟩) [] [] ⟨rfl,⟨sr,sr,r2,trivial⟩,trivial⟩ ?_
 intro av g1 m
 (conv=>whnf)
 have c3:=m.1
 have m:=m.2
 refine aj (λ q=>Bool.noConfusion (c3.symm.trans q)) (λ _=>?_)
 (conv=>whnf)
 have m:r=(0:Int):=m
 subst m
 refine ⟨[],[],?_⟩
 (conv=>whnf)
 exact ⟨⟨rfl,trivial,trivial⟩,r2⟩
theorem FK {l_:List eF} {gY:List Int} {r:List Bool×Int} (m:Qj l_ gY r):S 77 [bG l_,au gY] [] (.jg [aN r.1,iV r.2]) [] :=sp Tryz.func77 rfl<|sq m Ra λ v1 m=>by
 have c1:=m.1
 have m:=m.2
 refine aj (λ q=>Bool.noConfusion (c1.symm.trans q)) (λ _=>?_)
 (conv=>whnf)
 refine ah m λ h1 m=>?_
 (conv=>whnf)
 refine aP (ct:=[]) bO dk m (λ g1=>⟨[(0,bG l_),(1,au gY),(7,.dA 0 0 g1.length false),(8,iV (0:Int))],[(0,some (.row 1 g1.length (bD AV.bool false g1)))],1⟩) [(0,some 160)] [] ⟨rfl,⟨sr,sr,⟨rfl,rfl,rfl,oz,nofun⟩,r2,trivial⟩,⟨⟨rfl,oz,(lG AV.bool false)⟩,trivial⟩⟩ ?_
 intro av g1 m
 (conv=>whnf)
 have c3:=m.1
 have m:=m.2
 refine aj (λ q=>Bool.noConfusion (c3.symm.trans q)) (λ _=>?_)
 (conv=>whnf)
 refine ah m λ h2 m=>?_
 (conv=>whnf)
 refine aP (ct:=[]) bO dk m (λ g2=>⟨[(0,bG l_),(7,.dA 0 0 g1.length false),(9,iV ((l_.length:Int) - (1:Int)))],[(0,some (.row 1 g1.length (bD AV.bool false g1)))],1⟩) [] [] ⟨rfl,⟨sr,⟨rfl,rfl,rfl,rfl,nofun⟩,r2,trivial⟩,⟨⟨rfl,rfl,(λ _ _=>.refl _)⟩,trivial⟩⟩ ?_
 intro dL g2 m
 (conv=>whnf)
 have c5:=m.1
 have m:=m.2
 refine aj (λ q=>Bool.noConfusion (c5.symm.trans q)) (λ _=>?_)
 (conv=>whnf)
 have m:r=(g1,(0:Int)):=m
 subst m
 refine ⟨[0],[],?_⟩
 (conv=>whnf)
 exact ⟨⟨rfl,trivial,trivial⟩,(by (conv=>whnf); exact ⟨(by (conv=>whnf); exact sf),(by (conv=>whnf); exact ⟨(by first | ((conv=>whnf); exact r2) | exact r2),trivial⟩)⟩)⟩
theorem DW {l_:List bN} {r:Unit} (m:EB l_ ak r):S 38 [bP l_,au ak] [] (.iK) [] :=sp Tryz.func38 rfl<|l0 m (λ g1=>⟨[(1,au ak),(5,.iK),(8,bP l_),(9,iV (l_.length:Int)),(10,iV (0:Int))],[],0⟩) <|λ av g1 m=>by
 have c2:=m.1
 have m:=m.2
 refine aj (λ q=>Bool.noConfusion (c2.symm.trans q)) (λ _=>?_)
 (conv=>whnf)
 have m:r=():=m
 subst m
 refine ⟨[],[],?_⟩
 (conv=>whnf)
 exact ⟨⟨rfl,trivial,trivial⟩,trivial⟩
variable {g_:cZ}
theorem Lj {r:List Int×List Bool×List Int×List Bool×List Bool×Int×Int} (m:MG b_ l_ ak g_ r):S 35 [gP b_,bC l_,au ak,nV g_] [] (.jg [.agg [au r.1,aN r.2.1,au r.2.2.1,.sl 0 0 true eu,aN r.2.2.2.1,aN r.2.2.2.2.1],iV r.2.2.2.2.2.1,iV r.2.2.2.2.2.2]) [] :=sp Tryz.func35 rfl<|sq m o7 λ v1 m=>by
 have c1:=m.1
 have m:=m.2
 refine aj (λ q=>Bool.noConfusion (c1.symm.trans q)) (λ _=>?_)
 (conv=>whnf)
 refine aI m λ v2 hv2 m=>?_
 refine ⟨_,_,(kX hv2),?_⟩
 (conv=>whnf)
 have c2:=m.1
 have m:=m.2
 refine aj (λ q=>Bool.noConfusion (c2.symm.trans q)) (λ _=>?_)
 (conv=>whnf)
 refine aI m λ v3 hv3 m=>?_
 refine ⟨_,_,(Js hv3),?_⟩
 (conv=>whnf)
 refine aI m λ v4 hv4 m=>?_
 refine ⟨_,_,(Lf hv4),?_⟩
 (conv=>whnf)
 refine aI m λ v5 hv5 m=>?_
 refine ⟨_,_,(λ q0=>(ug (hv5 q0))),?_⟩
 (conv=>whnf)
 have c3:=m.1
 have m:=m.2
 refine aj (λ q=>Bool.noConfusion (c3.symm.trans q)) (λ _=>?_)
 (conv=>whnf)
 refine aI m λ v6 hv6 m=>?_
 refine ⟨_,_,(zI hv6),?_⟩
 (conv=>whnf)
 have c4:=m.1
 have m:=m.2
 refine aj (λ q=>Bool.noConfusion (c4.symm.trans q)) (λ _=>?_)
 (conv=>whnf)
 refine aI m λ v7 hv7 m=>?_
 refine ⟨_,_,(zL hv7),?_⟩
 (conv=>whnf)
 have c5:=m.1
 have m:=m.2
 refine aj (λ q=>Bool.noConfusion (c5.symm.trans q)) (λ _=>?_)
 (conv=>whnf)
 refine aP (ct:=[]) bO dk m (λ g1=>⟨[(1,bC l_),(2,au ak),(4,.ptr 0 0 0),(7,.ptr 1 0 0),(8,.ptr 2 0 0),(14,au v6.1),(16,.ptr 3 0 0),(17,.iK),(18,.iK),(78,au ak),(79,iV (ak.length:Int)),(80,iV (0:Int))],[(0,some (.box [aY b_.bM,aQ b_.aT,iV b_.aU.bT,aX b_.aU.aF,bV b_.bg,bG b_.bF])),(1,some (.box [au g_.dB,aN g_.dF.On,au g_.dF.dX,bP g_.dR,aN g_.dh,aN g_.dJ])),(2,some (.box [.sl 0 0 true eu,.sl 0 0 true eu,.sl 0 0 true eu,.sl 0 0 true eu,.sl 0 0 true eu,.sl 0 0 true eu])),(3,some (.box [aN v7.1.On,au v7.1.dX]))],4⟩) [(1,some 16),(2,some 32),(3,some 880)] [] ⟨rfl,⟨sr,sr,r4,r4,r4,sr,r4,trivial,trivial,sr,r2,r2,trivial⟩,⟨⟨sr,sr,r2,sr,sr,sr,trivial⟩,⟨sr,sr,sr,sr,sr,sr,trivial⟩,⟨sr,sr,sr,sr,sr,sr,trivial⟩,⟨sr,sr,trivial⟩,trivial⟩⟩ ?_
 intro av g1 m
 (conv=>whnf)
 have c7:=m.1
 have m:=m.2
 refine aj (λ q=>Bool.noConfusion (c7.symm.trans q)) (λ _=>?_)
 (conv=>whnf)
 refine aI m λ v8 OB m=>?_
 refine ⟨_,_,((yw OB).le ⟨.refl _,(.sl rfl (λ h=>absurd rfl h) nofun (λ _ h=>absurd h (Nat.not_lt_zero _))),trivial⟩ trivial),?_⟩
 (conv=>whnf)
 refine aI m λ v9 UW m=>?_
 refine ⟨_,_,((FK UW).le ⟨.refl _,(.sl rfl (λ h=>absurd rfl h) nofun (λ _ h=>absurd h (Nat.not_lt_zero _))),trivial⟩ trivial),?_⟩
 (conv=>whnf)
 refine aI m λ v10 GH m=>?_
 refine ⟨_,_,(DW GH),?_⟩
 (conv=>whnf)
 have m:r=(v6.1,v7.1.On,v7.1.dX,v8.1,v9.1,(0:Int),(0:Int)):=m
 subst m
 refine ⟨[],[],?_⟩
 (conv=>whnf)
 exact ⟨⟨rfl,trivial,trivial⟩,⟨⟨sf,sf,sf,sr,sf,sf,trivial⟩,r2,r2,trivial⟩⟩
theorem Ob {r:cZ×Int} (m:Qk b_ r):S 13 [gP b_] [] (.jg [nV r.1,iV r.2]) [] :=sp Tryz.func13 rfl<|sb m λ v1 hv1 m=>cl ((Lj hv1).le ⟨.refl _,(.sl rfl (λ h=>absurd rfl h) nofun (λ _ h=>absurd h (Nat.not_lt_zero _))),(.sl rfl (λ h=>absurd rfl h) nofun (λ _ h=>absurd h (Nat.not_lt_zero _))),(Le.Kt ⟨(.sl rfl (λ h=>absurd rfl h) nofun (λ _ h=>absurd h (Nat.not_lt_zero _))),(.sl rfl (λ h=>absurd rfl h) nofun (λ _ h=>absurd h (Nat.not_lt_zero _))),(.sl rfl (λ h=>absurd rfl h) nofun (λ _ h=>absurd h (Nat.not_lt_zero _))),(.sl rfl (λ h=>absurd rfl h) nofun (λ _ h=>absurd h (Nat.not_lt_zero _))),(.sl rfl (λ h=>absurd rfl h) nofun (λ _ h=>absurd h (Nat.not_lt_zero _))),(.sl rfl (λ h=>absurd rfl h) nofun (λ _ h=>absurd h (Nat.not_lt_zero _))),trivial⟩),trivial⟩ trivial)<|by cases m;exact re
theorem Jt (m:Ih b_ l_ g_ r):S 212 [gP b_,bC l_,nV g_] [] (.bool r) [] :=sp Tryz.func212 rfl<|by
 have c1:=m.1
 have m:=m.2
 refine aj (λ q=>Bool.noConfusion (c1.symm.trans q)) (λ _=>?_)
 (conv=>whnf)
 refine aP (ct:=[]) bO dk m (λ g1=>⟨[(1,bC l_),(3,.ptr 0 0 0),(5,.ptr 1 0 0),(7,iV (0:Int))],[(0,some (.box [aY b_.bM,aQ b_.aT,iV b_.aU.bT,aX b_.aU.aF,bV b_.bg,bG b_.bF])),(1,some (.box [au g_.dB,aN g_.dF.On,au g_.dF.dX,bP g_.dR,aN g_.dh,aN g_.dJ]))],2⟩) [(1,some 16)] [] ⟨rfl,⟨sr,r4,r4,r2,trivial⟩,⟨⟨sr,sr,r2,sr,sr,sr,trivial⟩,⟨sr,sr,sr,sr,sr,sr,trivial⟩,trivial⟩⟩ ?_
 intro av g1 m
 (conv=>whnf)
 have c3:=m.1
 have m:=m.2
 refine aj (λ q=>Bool.noConfusion (c3.symm.trans q)) (λ _=>?_)
 (conv=>whnf)
 refine aP (ct:=[]) bO dk m (λ g2=>⟨[(1,bC l_),(5,.ptr 0 0 0),(8,iV (0:Int))],[(0,some (.box [au g_.dB,aN g_.dF.On,au g_.dF.dX,bP g_.dR,aN g_.dh,aN g_.dJ]))],1⟩) [(0,some 1)] [] ⟨rfl,⟨sr,r4,r2,trivial⟩,⟨⟨sr,sr,sr,sr,sr,sr,trivial⟩,trivial⟩⟩ ?_
 intro dL g2 m
 (conv=>whnf)
 have c5:=m.1
 have m:=m.2
 refine aj (λ q=>Bool.noConfusion (c5.symm.trans q)) (λ _=>?_)
 (conv=>whnf)
 have m:r=true:=m
 subst m
 refine ⟨[],[],?_⟩
 (conv=>whnf)
 exact ⟨⟨rfl,trivial,trivial⟩,rfl⟩
theorem GJ {l_:List bf} (m:Fv l_ s_ r):S 269 [aY l_,au s_] [] (.bool r) [] :=sp Tryz.func269 rfl<|sq m nK λ v1 m=>by
 have c1:=m.1
 have m:=m.2
 refine aj (λ q=>Bool.noConfusion (c1.symm.trans q)) (λ _=>?_)
 (conv=>whnf)
 refine aP (ct:=[]) bO dk m (λ g1=>⟨[(1,au s_),(17,aY l_),(18,iV (l_.length:Int)),(19,iV (0:Int))],[],0⟩) [] [] ⟨rfl,⟨sr,sr,r2,r2,trivial⟩,trivial⟩ ?_
 intro av g1 m
 (conv=>whnf)
 have c3:=m.1
 have m:=m.2
 refine aj (λ q=>Bool.noConfusion (c3.symm.trans q)) (λ _=>?_)
 (conv=>whnf)
 have m:r=true:=m
 subst m
 refine ⟨[],[],?_⟩
 (conv=>whnf)
 exact ⟨⟨rfl,trivial,trivial⟩,rfl⟩
theorem Ll {l_:List bf} (m:MH l_ s_ m_ r):S 213 [aY l_,au s_,dN m_] [] (.bool r) [] :=sp Tryz.func213 rfl<|sq m GJ λ v1 m=>sb m λ v2 hv2 m=>cl (λ q0=>(yt (hv2 q0)))<|by
 have c1:=m.1
 have m:=m.2
 refine aj (λ q=>Bool.noConfusion (c1.symm.trans q)) (λ _=>?_)
 (conv=>whnf)
 refine aI m λ v3 hv3 m=>?_
 refine ⟨_,_,(yu hv3),?_⟩
 (conv=>whnf)
 refine aP (ct:=[]) bO dk m (λ g1=>⟨[(0,aY l_),(7,nW v3.1),(8,aN v3.2),(27,dN m_),(28,iV (m_.length:Int)),(29,iV (0:Int))],[],0⟩) [] [] ⟨rfl,⟨sr,sr,sr,sr,r2,r2,trivial⟩,trivial⟩ ?_
 intro av g1 m
 (conv=>whnf)
 have c3:=m.1
 have m:=m.2
 refine aj (λ q=>Bool.noConfusion (c3.symm.trans q)) (λ _=>?_)
 (conv=>whnf)
 refine aI m λ v4 hv4 m=>?_
 refine ⟨_,_,(DV hv4),?_⟩
 (conv=>whnf)
 have m:r=v4:=m
 subst m
 refine ⟨[],[],?_⟩
 (conv=>whnf)
 exact ⟨⟨rfl,trivial,trivial⟩,rfl⟩
theorem Lm {l_:List aL} {r_:dO} (m:MI l_ r_ r):S 270 [aQ l_,Cz r_] [] (.bool r) [] :=sp Tryz.func270 rfl<|sq m nL λ v1 m=>by
 have c1:=m.1
 have m:=m.2
 refine aj (λ q=>Bool.noConfusion (c1.symm.trans q)) (λ _=>?_)
 (conv=>whnf)
 refine aP (ct:=[]) bO dk m (λ g1=>⟨[(3,.ptr 0 0 0),(26,aQ l_),(27,iV (l_.length:Int)),(28,iV (0:Int))],[(0,some (.box [aN r_.On,au r_.dX]))],1⟩) [] [] ⟨rfl,⟨r4,sr,r2,r2,trivial⟩,⟨⟨sr,sr,trivial⟩,trivial⟩⟩ ?_
 intro av g1 m
 (conv=>whnf)
 have c3:=m.1
 have m:=m.2
 refine aj (λ q=>Bool.noConfusion (c3.symm.trans q)) (λ _=>?_)
 (conv=>whnf)
 have m:r=true:=m
 subst m
 refine ⟨[],[],?_⟩
 (conv=>whnf)
 exact ⟨⟨rfl,trivial,trivial⟩,rfl⟩
theorem Lp {l_:List aL} {r_:dO} (m:MJ l_ r_ d_ r):S 215 [aQ l_,Cz r_,eD d_] [] (.bool r) [] :=sp Tryz.func215 rfl<|sq m zJ λ v1 m=>sb m λ v2 hv2 m=>cl (λ q0=>(Lm (hv2 q0)))<|sb m λ v3 hv3 m=>cl (λ q0=>(zK (hv3 q0)))<|by cases m;exact re
theorem Oc {l_:List bN} {r:Unit} (m:Qn l_ r):S 217 [bP l_] [] (.iK) [] :=sp Tryz.func217 rfl<|l0 m (λ g1=>⟨[(0,bP l_),(3,.iK),(4,iV (0:Int))],[],0⟩) <|λ av g1 m=>by
 have c2:=m.1
 have m:=m.2
 refine aj (λ q=>Bool.noConfusion (c2.symm.trans q)) (λ _=>?_)
 (conv=>whnf)
 have m:r=():=m
 subst m
 refine ⟨[],[],?_⟩
 (conv=>whnf)
 exact ⟨⟨rfl,trivial,trivial⟩,trivial⟩
theorem Ju {l_:List qm} {r:List Int×Int} (m:Ii p_ l_ r):S 216 [jk p_,Ms l_] [] (.jg [au r.1,iV r.2]) [] :=sp Tryz.func216 rfl<|sq m sJ λ v1 m=>by
 have c1:=m.1
 have m:=m.2
 refine aj (λ q=>Bool.noConfusion (c1.symm.trans q)) (λ _=>?_)
 (conv=>whnf)
 refine ah m λ h1 m=>?_
 (conv=>whnf)
 refine aP (ct:=[]) bO dk m (λ g1=>⟨[(1,Ms l_),(2,.ptr 0 0 0),(6,.dA 1 0 g1.2.length false),(7,iV g1.1)],[(0,some (.box [iV p_.bT,aX p_.aF])),(1,some (.row 1 g1.2.length (bD iV 0 g1.2)))],2⟩) [(1,some 128)] [] ⟨rfl,⟨sr,r4,⟨rfl,rfl,rfl,oz,nofun⟩,r2,trivial⟩,⟨⟨r2,sr,trivial⟩,⟨rfl,oz,(lG iV 0)⟩,trivial⟩⟩ ?_
 intro av g1 m
 (conv=>whnf)
 refine dI m (λ c4 m=>?_) (λ c4 m=>?_)
 ·(conv=>whnf)
  refine ah m λ h6 m=>?_
  (conv=>whnf)
  refine ah m λ h7 m=>?_
  (conv=>whnf)
  exact ⟨((g1.1+(1:Int)),(g1.2.set (g1.1.toNat) (-1:Int))),[],[],m,⟨rfl,⟨sr,r4,⟨rfl,rfl,rfl,oz,nofun⟩,r2,trivial⟩,⟨⟨r2,sr,trivial⟩,⟨rfl,oz,(oN (λ _ _=>.refl _) rfl (.refl _))⟩,trivial⟩⟩⟩
 ·(conv=>whnf)
  refine aP (ct:=[]) bO dk m (λ g2=>⟨[(1,Ms l_),(2,.ptr 0 0 0),(6,.dA 1 0 g1.2.length false),(8,iV (0:Int))],[(0,some (.box [iV p_.bT,aX p_.aF])),(1,some (.row 1 g1.2.length (bD iV 0 g1.2)))],2⟩) [] [] ⟨rfl,⟨sr,r4,⟨rfl,rfl,rfl,rfl,nofun⟩,r2,trivial⟩,⟨⟨r2,sr,trivial⟩,⟨rfl,rfl,(λ _ _=>.refl _)⟩,trivial⟩⟩ ?_
  intro dL g2 m
  (conv=>whnf)
  have c6:=m.1
  have m:=m.2
  refine aj (λ q=>Bool.noConfusion (c6.symm.trans q)) (λ _=>?_)
  (conv=>whnf)
  have m:r=(g1.2,(0:Int)):=m
  subst m
  refine ⟨[1],[],?_⟩
  (conv=>whnf)
  exact ⟨⟨rfl,trivial,trivial⟩,(by (conv=>whnf); exact ⟨(by (conv=>whnf); exact sf),(by (conv=>whnf); exact ⟨(by first | ((conv=>whnf); exact r2) | exact r2),trivial⟩)⟩)⟩
theorem Jv {l_:List fF} {iE:List Bool} (m:Ij l_ iE r):S 219 [bV l_,aN iE] [] (.bool r) [] :=sp Tryz.func219 rfl<|sq m sK λ v1 m=>by
 have c1:=m.1
 have m:=m.2
 refine aj (λ q=>Bool.noConfusion (c1.symm.trans q)) (λ _=>?_)
 (conv=>whnf)
 refine aP (ct:=[]) bO dk m (λ g1=>⟨[(0,bV l_),(1,aN iE),(5,iV (0:Int))],[],0⟩) [] [] ⟨rfl,⟨sr,sr,r2,trivial⟩,trivial⟩ ?_
 intro av g1 m
 (conv=>whnf)
 have c3:=m.1
 have m:=m.2
 refine aj (λ q=>Bool.noConfusion (c3.symm.trans q)) (λ _=>?_)
 (conv=>whnf)
 have m:r=true:=m
 subst m
 refine ⟨[],[],?_⟩
 (conv=>whnf)
 exact ⟨⟨rfl,trivial,trivial⟩,rfl⟩
theorem Lr {l_:List eF} {RL:List Bool} (m:MK l_ RL r):S 220 [bG l_,aN RL] [] (.bool r) [] :=sp Tryz.func220 rfl<|sq m sM λ v1 m=>by
 have c1:=m.1
 have m:=m.2
 refine aj (λ q=>Bool.noConfusion (c1.symm.trans q)) (λ _=>?_)
 (conv=>whnf)
 refine aP (ct:=[]) bO dk m (λ g1=>⟨[(0,bG l_),(1,aN RL),(5,iV (0:Int))],[],0⟩) [] [] ⟨rfl,⟨sr,sr,r2,trivial⟩,trivial⟩ ?_
 intro av g1 m
 (conv=>whnf)
 have c3:=m.1
 have m:=m.2
 refine aj (λ q=>Bool.noConfusion (c3.symm.trans q)) (λ _=>?_)
 (conv=>whnf)
 have m:r=true:=m
 subst m
 refine ⟨[],[],?_⟩
 (conv=>whnf)
 exact ⟨⟨rfl,trivial,trivial⟩,rfl⟩
theorem Jw {qF:Bool} {r:Int} (m:Ik b_ l_ ak g_ qF r):S 150 [gP b_,bC l_,au ak,nV g_,.bool qF] [] (iV r) [] :=sp Tryz.func150 rfl<|sq m o7 λ v1 m=>sb m λ v2 hv2 m=>cl (λ q0=>(kX (hv2 q0)))<|sb m λ v3 hv3 m=>cl (λ q0=>(Jt (hv3 q0)))<|by
 have c1:=m.1
 have m:=m.2
 refine aj (λ q=>Bool.noConfusion (c1.symm.trans q)) (λ _=>?_)
 (conv=>whnf)
 refine aI m λ v4 hv4 m=>?_
 refine ⟨_,_,((Ll hv4).le ⟨.refl _,.refl _,(.sl rfl (λ h=>absurd rfl h) nofun (λ _ h=>absurd h (Nat.not_lt_zero _))),trivial⟩ trivial),?_⟩
 (conv=>whnf)
 have c2:=m.1
 have m:=m.2
 refine aj (λ q=>Bool.noConfusion (c2.symm.trans q)) (λ _=>?_)
 (conv=>whnf)
 refine aP (ct:=[]) bO dk m (λ g1=>⟨[(1,bC l_),(2,au ak),(4,.bool qF),(5,.ptr 0 0 0),(8,.ptr 1 0 0),(11,.iK),(48,au ak),(49,iV (ak.length:Int)),(50,iV (0:Int))],[(0,some (.box [aY b_.bM,aQ b_.aT,iV b_.aU.bT,aX b_.aU.aF,bV b_.bg,bG b_.bF])),(1,some (.box [au g_.dB,aN g_.dF.On,au g_.dF.dX,bP g_.dR,aN g_.dh,aN g_.dJ]))],2⟩) [(1,some 16)] [] ⟨rfl,⟨sr,sr,rfl,r4,r4,trivial,sr,r2,r2,trivial⟩,⟨⟨sr,sr,r2,sr,sr,sr,trivial⟩,⟨sr,sr,sr,sr,sr,sr,trivial⟩,trivial⟩⟩ ?_
 intro av g1 m
 (conv=>whnf)
 have c4:=m.1
 have m:=m.2
 refine aj (λ q=>Bool.noConfusion (c4.symm.trans q)) (λ _=>?_)
 (conv=>whnf)
 refine aI m λ v5 hv5 m=>?_
 refine ⟨_,_,((Lp hv5).le ⟨.refl _,.refl _,(.sl rfl (λ h=>absurd rfl h) nofun (λ _ h=>absurd h (Nat.not_lt_zero _))),trivial⟩ trivial),?_⟩
 (conv=>whnf)
 have c5:=m.1
 have m:=m.2
 refine aj (λ q=>Bool.noConfusion (c5.symm.trans q)) (λ _=>?_)
 (conv=>whnf)
 refine aI m λ v6 hv6 m=>?_
 refine ⟨_,_,(Oc hv6),?_⟩
 (conv=>whnf)
 refine aI m λ v7 hv7 m=>?_
 refine ⟨_,_,((Ju hv7).le ⟨.refl _,(.sl rfl (λ h=>absurd rfl h) nofun (λ _ h=>absurd h (Nat.not_lt_zero _))),trivial⟩ trivial),?_⟩
 (conv=>whnf)
 have c6:=m.1
 have m:=m.2
 refine aj (λ q=>Bool.noConfusion (c6.symm.trans q)) (λ _=>?_)
 (conv=>whnf)
 refine aP (ct:=[]) bO dk m (λ g2=>⟨[(1,bC l_),(2,au ak),(5,.ptr 0 0 0),(8,.ptr 1 0 0),(89,au ak),(90,iV (ak.length:Int)),(91,iV (0:Int))],[(0,some (.box [aY b_.bM,aQ b_.aT,iV b_.aU.bT,aX b_.aU.aF,bV b_.bg,bG b_.bF])),(1,some (.box [au g_.dB,aN g_.dF.On,au g_.dF.dX,bP g_.dR,aN g_.dh,aN g_.dJ]))],2⟩) [] [] ⟨rfl,⟨sr,sr,r4,r4,sr,r2,r2,trivial⟩,⟨⟨sr,sr,r2,sr,sr,sr,trivial⟩,⟨sr,sr,sr,sr,sr,sr,trivial⟩,trivial⟩⟩ ?_
 intro dL g2 m
 (conv=>whnf)
 have c8:=m.1
 have m:=m.2
 refine aj (λ q=>Bool.noConfusion (c8.symm.trans q)) (λ _=>?_)
 (conv=>whnf)
 refine aI m λ v8 OB m=>?_
 refine ⟨_,_,(Jv OB),?_⟩
 (conv=>whnf)
 have c9:=m.1
 have m:=m.2
 refine aj (λ q=>Bool.noConfusion (c9.symm.trans q)) (λ _=>?_)
 (conv=>whnf)
 refine aP (ct:=[]) bO dk m (λ g3=>⟨[(1,bC l_),(2,au ak),(5,.ptr 0 0 0),(8,.ptr 1 0 0),(111,au ak),(112,iV (ak.length:Int)),(113,iV (0:Int))],[(0,some (.box [aY b_.bM,aQ b_.aT,iV b_.aU.bT,aX b_.aU.aF,bV b_.bg,bG b_.bF])),(1,some (.box [au g_.dB,aN g_.dF.On,au g_.dF.dX,bP g_.dR,aN g_.dh,aN g_.dJ]))],2⟩) [] [] ⟨rfl,⟨sr,sr,r4,r4,sr,r2,r2,trivial⟩,⟨⟨sr,sr,r2,sr,sr,sr,trivial⟩,⟨sr,sr,sr,sr,sr,sr,trivial⟩,trivial⟩⟩ ?_
 intro iZ g3 m
 (conv=>whnf)
 have c11:=m.1
 have m:=m.2
 refine aj (λ q=>Bool.noConfusion (c11.symm.trans q)) (λ _=>?_)
 (conv=>whnf)
 refine aI m λ v9 UW m=>?_
 refine ⟨_,_,(Lr UW),?_⟩
 (conv=>whnf)
 have c12:=m.1
 have m:=m.2
 refine aj (λ q=>Bool.noConfusion (c12.symm.trans q)) (λ _=>?_)
 (conv=>whnf)
 refine aP (ct:=[]) bO dk m (λ g4=>⟨[(1,bC l_),(8,.ptr 0 0 0),(141,au ak),(142,iV (ak.length:Int)),(143,iV (0:Int))],[(0,some (.box [au g_.dB,aN g_.dF.On,au g_.dF.dX,bP g_.dR,aN g_.dh,aN g_.dJ]))],1⟩) [(0,some 1)] [] ⟨rfl,⟨sr,r4,sr,r2,r2,trivial⟩,⟨⟨sr,sr,sr,sr,sr,sr,trivial⟩,trivial⟩⟩ ?_
 intro nN g4 m
 (conv=>whnf)
 have c14:=m.1
 have m:=m.2
 refine aj (λ q=>Bool.noConfusion (c14.symm.trans q)) (λ _=>?_)
 (conv=>whnf)
 have m:r=(0:Int):=m
 subst m
 refine ⟨[],[],?_⟩
 (conv=>whnf)
 exact ⟨⟨rfl,trivial,trivial⟩,r2⟩
theorem Ls (m:ML b_ l_ ak g_ r):S 78 [gP b_,bC l_,au ak,nV g_] [] (.bool r) [] :=sp Tryz.func78 rfl<|sq m Jw λ v1 m=>by cases m;exact re
theorem Jy {aV:Int} {r:Int} (m:Il b_ l_ ak g_ aV r):S 36 [gP b_,bC l_,au ak,nV g_,iV aV] [] (iV r) [] :=sp Tryz.func36 rfl<|sq m o7 λ v1 m=>by
 have c1:=m.1
 have m:=m.2
 refine aj (λ q=>Bool.noConfusion (c1.symm.trans q)) (λ _=>?_)
 (conv=>whnf)
 refine aI m λ v2 hv2 m=>?_
 refine ⟨_,_,(kX hv2),?_⟩
 (conv=>whnf)
 have c2:=m.1
 have m:=m.2
 refine aj (λ q=>Bool.noConfusion (c2.symm.trans q)) (λ _=>?_)
 (conv=>whnf)
 refine aI m λ v3 hv3 m=>?_
 refine ⟨_,_,(Ls hv3),?_⟩
 (conv=>whnf)
 have c3:=m.1
 have m:=m.2
 refine aj (λ q=>Bool.noConfusion (c3.symm.trans q)) (λ _=>?_)
 (conv=>whnf)
 have c4:=m.1
 have m:=m.2
 refine aj (λ q=>Bool.noConfusion (c4.symm.trans q)) (λ _=>?_)
 (conv=>whnf)
 have m:r=(0:Int):=m
 subst m
 refine ⟨[],[],?_⟩
 (conv=>whnf)
 exact ⟨⟨rfl,trivial,trivial⟩,r2⟩
theorem Sj {l_:List Int} {x_:Int} (m:Wm l_ x_ r):S 37 [au l_,iV x_] [] (.bool r) [] :=sp Tryz.func37 rfl<|l0 m (λ g1=>⟨[(0,au l_),(1,iV x_),(5,iV (0:Int))],[],0⟩) <|λ av g1 m=>by
 have c2:=m.1
 have m:=m.2
 refine aj (λ q=>Bool.noConfusion (c2.symm.trans q)) (λ _=>?_)
 (conv=>whnf)
 have m:r=false:=m
 subst m
 refine ⟨[],[],?_⟩
 (conv=>whnf)
 exact ⟨⟨rfl,trivial,trivial⟩,rfl⟩
variable {bA:List Int}
theorem DX {r:List bX} (m:AZ l_ bA r):S 71 [bC l_,.dA 0 0 bA.length false] [.row 1 bA.length (bD iV 0 bA)] (dN r) [.row 1 bA.length (bD iV 0 bA)] :=sp Tryz.func71 rfl<|lf m (λ g1=>⟨[(0,bC l_),(5,.dA 1 0 g1.2.length false),(8,.dA 0 0 bA.length false),(9,iV (bA.length:Int)),(10,iV g1.1)],[(0,some (.row 1 bA.length (bD iV 0 bA))),(1,some (.row 3 g1.2.length (bD Ae lU g1.2)))],2⟩) [(1,none)] [] <|λ av g1 m=>si m (λ _ m=>sn m λ _ m=>by
 have c6:=m.1
 have m:=m.2
 refine aj (λ _=>?_) (λ q=>Bool.noConfusion (q.symm.trans c6))
 (conv=>whnf)
 refine ah m λ h10 m=>?_
 (conv=>whnf)
 refine ah m λ h11 m=>?_
 (conv=>whnf)
 refine ah m λ h12 m=>?_
 (conv=>whnf)
 exact ⟨((g1.1+(1:Int)),(g1.2++(l_.getD ((bA.getD g1.1.toNat 0).toNat) bE).eH)),[(1,some 290)],[],m,⟨rfl,⟨sr,⟨rfl,rfl,rfl,oz,nofun⟩,⟨rfl,rfl,rfl,rfl,nofun⟩,r2,r2,trivial⟩,⟨⟨rfl,rfl,(λ _ _=>.refl _)⟩,⟨rfl,oz,(gD rfl (λ _ _=>.refl _) rfl (λ _ _=>.refl _))⟩,trivial⟩⟩⟩) λ _ m=>by cases m;exact rt [1] []
theorem EN {r:List bU} (m:CK l_ bA r):S 72 [bC l_,.dA 0 0 bA.length false] [.row 1 bA.length (bD iV 0 bA)] (eD r) [.row 1 bA.length (bD iV 0 bA)] :=sp Tryz.func72 rfl<|lf m (λ g1=>⟨[(0,bC l_),(5,.dA 1 0 g1.2.length false),(8,.dA 0 0 bA.length false),(9,iV (bA.length:Int)),(10,iV g1.1)],[(0,some (.row 1 bA.length (bD iV 0 bA))),(1,some (.row 4 g1.2.length (bD H9 fI g1.2)))],2⟩) [(1,none)] [] <|λ av g1 m=>si m (λ _ m=>sn m λ _ m=>by
 have c6:=m.1
 have m:=m.2
 refine aj (λ _=>?_) (λ q=>Bool.noConfusion (q.symm.trans c6))
 (conv=>whnf)
 refine ah m λ h10 m=>?_
 (conv=>whnf)
 refine ah m λ h11 m=>?_
 (conv=>whnf)
 refine ah m λ h12 m=>?_
 (conv=>whnf)
 exact ⟨((g1.1+(1:Int)),(g1.2++(l_.getD ((bA.getD g1.1.toNat 0).toNat) bE).fU)),[(1,some 290)],[],m,⟨rfl,⟨sr,⟨rfl,rfl,rfl,oz,nofun⟩,⟨rfl,rfl,rfl,rfl,nofun⟩,r2,r2,trivial⟩,⟨⟨rfl,rfl,(λ _ _=>.refl _)⟩,⟨rfl,oz,(gD rfl (λ _ _=>.refl _) rfl (λ _ _=>.refl _))⟩,trivial⟩⟩⟩) λ _ m=>by cases m;exact rt [1] []
theorem Jz {l_:List bN} {r:Unit} (m:Io l_ bA r):S 38 [bP l_,.dA 0 0 bA.length false] [.row 1 bA.length (bD iV 0 bA)] (.iK) [.row 1 bA.length (bD iV 0 bA)] :=sp Tryz.func38 rfl<|l0 m (λ g1=>⟨[(1,.dA 0 0 bA.length false),(5,.iK),(8,bP l_),(9,iV (l_.length:Int)),(10,iV (0:Int))],[(0,some (.row 1 bA.length (bD iV 0 bA)))],1⟩) <|λ av g1 m=>by
 have c2:=m.1
 have m:=m.2
 refine aj (λ q=>Bool.noConfusion (c2.symm.trans q)) (λ _=>?_)
 (conv=>whnf)
 have m:r=():=m
 subst m
 refine ⟨[],[],?_⟩
 (conv=>whnf)
 exact ⟨⟨rfl,trivial,⟨⟨rfl,rfl,(λ _ _=>.refl _)⟩,trivial⟩⟩,trivial⟩
theorem EO {r:List Int×List Bool×List Int×List Bool×List Bool×Int×Int} (m:CO b_ l_ g_ bA r):S 35 [gP b_,bC l_,.dA 0 0 bA.length false,nV g_] [.row 1 bA.length (bD iV 0 bA)] (.jg [.agg [au r.1,aN r.2.1,au r.2.2.1,.sl 0 0 true eu,aN r.2.2.2.1,aN r.2.2.2.2.1],iV r.2.2.2.2.2.1,iV r.2.2.2.2.2.2]) [.row 1 bA.length (bD iV 0 bA)] :=sp Tryz.func35 rfl<|sq m o7 λ v1 m=>by
 have c1:=m.1
 have m:=m.2
 refine aj (λ q=>Bool.noConfusion (c1.symm.trans q)) (λ _=>?_)
 (conv=>whnf)
 refine aI m λ v2 hv2 m=>?_
 refine ⟨_,_,(kX hv2),?_⟩
 (conv=>whnf)
 have c2:=m.1
 have m:=m.2
 refine aj (λ q=>Bool.noConfusion (c2.symm.trans q)) (λ _=>?_)
 (conv=>whnf)
 refine aI m λ v3 hv3 m=>?_
 refine ⟨_,_,(DX hv3),?_⟩
 (conv=>whnf)
 refine aI m λ v4 hv4 m=>?_
 refine ⟨_,_,(EN hv4),?_⟩
 (conv=>whnf)
 refine aI m λ v5 hv5 m=>?_
 refine ⟨_,_,(λ q0=>(ug (hv5 q0))),?_⟩
 (conv=>whnf)
 have c3:=m.1
 have m:=m.2
 refine aj (λ q=>Bool.noConfusion (c3.symm.trans q)) (λ _=>?_)
 (conv=>whnf)
 refine aI m λ v6 hv6 m=>?_
 refine ⟨_,_,(zI hv6),?_⟩
 (conv=>whnf)
 have c4:=m.1
 have m:=m.2
 refine aj (λ q=>Bool.noConfusion (c4.symm.trans q)) (λ _=>?_)
 (conv=>whnf)
 refine aI m λ v7 hv7 m=>?_
 refine ⟨_,_,(zL hv7),?_⟩
 (conv=>whnf)
 have c5:=m.1
 have m:=m.2
 refine aj (λ q=>Bool.noConfusion (c5.symm.trans q)) (λ _=>?_)
 (conv=>whnf)
 refine aP (ct:=[]) bO dk m (λ g1=>⟨[(1,bC l_),(2,.dA 0 0 bA.length false),(4,.ptr 1 0 0),(7,.ptr 2 0 0),(8,.ptr 3 0 0),(14,au v6.1),(16,.ptr 4 0 0),(17,.dA 5 0 g1.2.length false),(18,.iK),(78,.dA 0 0 bA.length false),(79,iV (bA.length:Int)),(80,iV g1.1)],[(0,some (.row 1 bA.length (bD iV 0 bA))),(1,some (.box [aY b_.bM,aQ b_.aT,iV b_.aU.bT,aX b_.aU.aF,bV b_.bg,bG b_.bF])),(2,some (.box [au g_.dB,aN g_.dF.On,au g_.dF.dX,bP g_.dR,aN g_.dh,aN g_.dJ])),(3,some (.box [.sl 0 0 true eu,.sl 0 0 true eu,.sl 0 0 true eu,.sl 0 0 true eu,.sl 0 0 true eu,.sl 0 0 true eu])),(4,some (.box [aN v7.1.On,au v7.1.dX])),(5,some (.row 1 g1.2.length (bD iV 0 g1.2)))],6⟩) [(2,some 17),(3,some 33),(4,some 881),(5,none)] [] ⟨rfl,⟨sr,⟨rfl,rfl,rfl,rfl,nofun⟩,r4,r4,r4,sr,r4,⟨rfl,rfl,rfl,rfl,rfl,rfl⟩,trivial,⟨rfl,rfl,rfl,rfl,nofun⟩,r2,r2,trivial⟩,⟨⟨rfl,rfl,(λ _ _=>.refl _)⟩,⟨sr,sr,r2,sr,sr,sr,trivial⟩,⟨sr,sr,sr,sr,sr,sr,trivial⟩,⟨sr,sr,sr,sr,sr,sr,trivial⟩,⟨sr,sr,trivial⟩,rfl,trivial⟩⟩ ?_
 intro av g1 m
 (conv=>whnf)
 refine dI m (λ c10 m=>?_) (λ c10 m=>?_)
 ·(conv=>whnf)
  refine ah m λ h11 m=>?_
  (conv=>whnf)
  refine ah m λ h12 m=>?_
  (conv=>whnf)
  refine ah m λ h13 m=>?_
  (conv=>whnf)
  refine ah m λ h14 m=>?_
  (conv=>whnf)
  have c11:=m.1
  have m:=m.2
  refine aj (λ q=>Bool.noConfusion (c11.symm.trans q)) (λ _=>?_)
  (conv=>whnf)
  refine ah m λ h15 m=>?_
  (conv=>whnf)
  exact ⟨((g1.1+(1:Int)),(g1.2++(l_.getD ((bA.getD g1.1.toNat 0).toNat) bE).bg)),[(5,some 166)],[],m,⟨rfl,⟨sr,⟨rfl,rfl,rfl,rfl,nofun⟩,r4,r4,r4,sr,r4,⟨rfl,rfl,rfl,oz,nofun⟩,trivial,⟨rfl,rfl,rfl,rfl,nofun⟩,r2,r2,trivial⟩,⟨⟨rfl,rfl,(λ _ _=>.refl _)⟩,⟨sr,sr,r2,sr,sr,sr,trivial⟩,⟨sr,sr,sr,sr,sr,sr,trivial⟩,⟨sr,sr,sr,sr,sr,sr,trivial⟩,⟨sr,sr,trivial⟩,⟨rfl,oz,(gD rfl (λ _ _=>.refl _) rfl (λ _ _=>.refl _))⟩,trivial⟩⟩⟩
 ·(conv=>whnf)
  refine aI m λ v8 OB m=>?_
  refine ⟨_,_,(yw OB),?_⟩
  (conv=>whnf)
  refine aI m λ v9 UW m=>?_
  refine ⟨_,_,((FK UW).le ⟨.refl _,(.sl rfl (λ h=>absurd rfl h) nofun (λ _ h=>absurd h (Nat.not_lt_zero _))),trivial⟩ trivial),?_⟩
  (conv=>whnf)
  refine aI m λ v10 GH m=>?_
  refine ⟨_,_,(Jz GH),?_⟩
  (conv=>whnf)
  have m:r=(v6.1,v7.1.On,v7.1.dX,v8.1,v9.1,(0:Int),(0:Int)):=m
  subst m
  refine ⟨[],[],?_⟩
  (conv=>whnf)
  exact ⟨⟨rfl,trivial,⟨⟨rfl,rfl,(λ _ _=>.refl _)⟩,trivial⟩⟩,⟨⟨sf,sf,sf,sr,sf,sf,trivial⟩,r2,r2,trivial⟩⟩
theorem Lu {l_:List bN} {r:Unit} (m:MN b_ l_ r):S 39 [gP b_,bP l_] [] (.jg [.iK,.iK]) [] :=sp Tryz.func39 rfl<|l0 m (λ g1=>⟨[(2,.ptr 0 0 0),(6,.iK),(7,.iK),(10,bP l_),(11,iV (l_.length:Int)),(12,iV (0:Int))],[(0,some (.box [aY b_.bM,aQ b_.aT,iV b_.aU.bT,aX b_.aU.aF,bV b_.bg,bG b_.bF]))],1⟩) <|λ av g1 m=>by
 have c2:=m.1
 have m:=m.2
 refine aj (λ q=>Bool.noConfusion (c2.symm.trans q)) (λ _=>?_)
 (conv=>whnf)
 have m:r=():=m
 subst m
 refine ⟨[],[],?_⟩
 (conv=>whnf)
 exact ⟨⟨rfl,trivial,trivial⟩,⟨trivial,trivial,trivial⟩⟩
theorem Lv {l_:List ByteArray} (m:MO p_ l_ r):S 151 [jk p_,eG l_] [] (.bool r) [] :=sp Tryz.func151 rfl<|sq m sJ λ v1 m=>by
 have c1:=m.1
 have m:=m.2
 refine aj (λ q=>Bool.noConfusion (c1.symm.trans q)) (λ _=>?_)
 (conv=>whnf)
 refine aP (ct:=[]) bO dk m (λ g1=>⟨[(1,eG l_),(5,iV g1)],[],0⟩) [] [] ⟨rfl,⟨sr,r2,trivial⟩,trivial⟩ ?_
 intro av g1 m
 (conv=>whnf)
 refine dI m (λ c6 m=>?_) (λ c6 m=>?_)
 ·(conv=>whnf)
  refine ah m λ h5 m=>?_
  (conv=>whnf)
  refine aI m λ v4 hv4 m=>?_
  refine ⟨_,_,(oZ hv4),?_⟩
  (conv=>whnf)
  have c7:=m.1
  have m:=m.2
  refine aj (λ q=>Bool.noConfusion (c7.symm.trans q)) (λ _=>?_)
  (conv=>whnf)
  refine ah m λ h6 m=>?_
  (conv=>whnf)
  exact ⟨(g1+(1:Int)),[],[],m,⟨rfl,⟨sr,r2,trivial⟩,trivial⟩⟩
 ·(conv=>whnf)
  have m:r=true:=m
  subst m
  refine ⟨[],[],?_⟩
  (conv=>whnf)
  exact ⟨⟨rfl,trivial,trivial⟩,rfl⟩
variable {iJ:List Int}
theorem Od {l_:List ByteArray} (m:Qr p_ l_ iJ r):S 152 [jk p_,eG l_,au iJ] [] (.bool r) [] :=sp Tryz.func152 rfl<|by
 have c1:=m.1
 have m:=m.2
 refine aj (λ q=>Bool.noConfusion (c1.symm.trans q)) (λ _=>?_)
 (conv=>whnf)
 refine aP (ct:=[]) bO dk m (λ g1=>⟨[(1,eG l_),(2,au iJ),(3,.ptr 0 0 0),(7,iV (0:Int))],[(0,some (.box [iV p_.bT,aX p_.aF]))],1⟩) [] [] ⟨rfl,⟨sr,sr,r4,r2,trivial⟩,⟨⟨r2,sr,trivial⟩,trivial⟩⟩ ?_
 intro av g1 m
 (conv=>whnf)
 have c3:=m.1
 have m:=m.2
 refine aj (λ q=>Bool.noConfusion (c3.symm.trans q)) (λ _=>?_)
 (conv=>whnf)
 have m:r=true:=m
 subst m
 refine ⟨[],[],?_⟩
 (conv=>whnf)
 exact ⟨⟨rfl,trivial,trivial⟩,rfl⟩
theorem Rb {l_:List ByteArray} {dP:List Int} {r:Int} (m:Ta p_ l_ dP r):S 79 [jk p_,eG l_,au dP] [] (iV r) [] :=sp Tryz.func79 rfl<|sq m Lv λ v1 m=>by
 have c1:=m.1
 have m:=m.2
 refine aj (λ q=>Bool.noConfusion (c1.symm.trans q)) (λ _=>?_)
 (conv=>whnf)
 refine aI m λ v2 hv2 m=>?_
 refine ⟨_,_,(Od hv2),?_⟩
 (conv=>whnf)
 have c2:=m.1
 have m:=m.2
 refine aj (λ q=>Bool.noConfusion (c2.symm.trans q)) (λ _=>?_)
 (conv=>whnf)
 have m:r=(0:Int):=m
 subst m
 refine ⟨[],[],?_⟩
 (conv=>whnf)
 exact ⟨⟨rfl,trivial,trivial⟩,r2⟩
theorem FM {g_:fA} {eU:ByteArray} {r:Int} (m:Qs g_ eU r):S 41 [KG g_,.str eU] [] (iV r) [] :=sp Tryz.func41 rfl<|l0 m (λ g1=>⟨[(1,.str eU),(2,.ptr 0 0 0),(5,iV (0:Int))],[(0,some (.box [.str g_.uo,au g_.bT,eG g_.aC]))],1⟩) <|λ av g1 m=>by
 have c3:=m.1
 have m:=m.2
 refine aj (λ _=>?_) (λ q=>Bool.noConfusion (q.symm.trans c3))
 (conv=>whnf)
 refine ah m λ h2 m=>?_
 (conv=>whnf)
 have c4:=m.1
 have m:=m.2
 refine aj (λ _=>?_) (λ q=>Bool.noConfusion (q.symm.trans c4))
 (conv=>whnf)
 have m:r=(0:Int):=m
 subst m
 refine ⟨[],[],?_⟩
 (conv=>whnf)
 exact ⟨⟨rfl,trivial,trivial⟩,r2⟩
theorem JA {eU:ByteArray} {r:List Int} (m:Ip p_ eU r):S 153 [jk p_,.str eU] [] (au r) [] :=sp Tryz.func153 rfl<|lf m (λ g1=>⟨[(1,.str eU),(2,.ptr 0 0 0),(5,.dA 1 0 g1.2.length false),(9,iV (p_.aF.length:Int)),(10,iV g1.1)],[(0,some (.box [iV p_.bT,aX p_.aF])),(1,some (.row 1 g1.2.length (bD iV 0 g1.2)))],2⟩) [(1,none)] [] <|λ av g1 m=>si m (λ _ m=>sn m λ _ m=>sq m FM λ v3 m=>by
 have c6:=m.1
 have m:=m.2
 refine aj (λ _=>?_) (λ q=>Bool.noConfusion (q.symm.trans c6))
 (conv=>whnf)
 refine ah m λ h8 m=>?_
 (conv=>whnf)
 refine ah m λ h9 m=>?_
 (conv=>whnf)
 exact ⟨((g1.1+(1:Int)),(g1.2++([g1.1]:List Int))),[(1,some 226)],[],m,⟨rfl,⟨rfl,r4,⟨rfl,rfl,rfl,oz,nofun⟩,r2,r2,trivial⟩,⟨⟨r2,sr,trivial⟩,⟨rfl,oz,(gD rfl (λ _ _=>.refl _) rfl (fM iV 0 [g1.1]))⟩,trivial⟩⟩⟩) λ _ m=>by cases m;exact rt [1] []
theorem Oe {g_:Int} (m:Qt p_ iJ g_ r):S 154 [jk p_,au iJ,iV g_] [] (.bool r) [] :=sp Tryz.func154 rfl<|l0 m (λ g1=>⟨[(1,au iJ),(2,iV g_),(3,.ptr 0 0 0),(7,iV (0:Int))],[(0,some (.box [iV p_.bT,aX p_.aF]))],1⟩) <|λ av g1 m=>by
 have c2:=m.1
 have m:=m.2
 refine aj (λ q=>Bool.noConfusion (c2.symm.trans q)) (λ _=>?_)
 (conv=>whnf)
 have m:r=true:=m
 subst m
 refine ⟨[],[],?_⟩
 (conv=>whnf)
 exact ⟨⟨rfl,trivial,trivial⟩,rfl⟩
theorem Og:∀(n:Nat) (mq:bI×List ByteArray×List Int) (r:List Int×Bool),itM mG n mq r→S 80 [jk mq.1,eG mq.2.1,au mq.2.2] [] (.jg [au r.1,.bool r.2]) [] :=by
 intro n
 induction n with
 | zero=>intro mq r m; exact m.elim
 | succ n ih=>
   intro mq r m
   have m:mG (itM mG n) mq r:=m
   generalize itM mG n=Gc at m ih
   refine jX (ct:=[]) bO Tryz.func80 rfl rfl (Nat.le_of_ble_eq_true rfl) dk (Nat.le_of_ble_eq_true rfl) ?_
   (conv=>whnf)
   refine dI m (λ c1 m=>?_) (λ c1 m=>?_)
   · (conv=>whnf)
     refine ah m λ h1 m=>?_
     (conv=>whnf)
     have m:r=(mq.2.2,true):=m
     subst m
     refine ⟨[144],[],?_⟩
     (conv=>whnf)
     exact ⟨⟨rfl,trivial,trivial⟩,(by (conv=>whnf); exact ⟨(by (conv=>whnf); exact sf),(by (conv=>whnf); exact ⟨(by first | ((conv=>whnf); exact rfl) | exact rfl),trivial⟩)⟩)⟩
   · (conv=>whnf)
     refine ah m λ h2 m=>?_
     (conv=>whnf)
     refine aI m λ v1 hv1 m=>?_
     refine ⟨_,_,(JA hv1),?_⟩
     (conv=>whnf)
     refine aP (ct:=[]) bO dk m (λ g1=>⟨[(1,eG mq.2.1),(2,au mq.2.2),(3,.ptr 0 0 0),(8,au v1),(9,iV (0:Int))],[(0,some (.box [iV mq.1.bT,aX mq.1.aF]))],1⟩) [] [] ⟨rfl,⟨sr,sr,r4,sr,r2,trivial⟩,⟨⟨r2,sr,trivial⟩,trivial⟩⟩ ?_
     intro av g1 m
     (conv=>whnf)
     have c5:=m.1
     have m:=m.2
     refine aj (λ _=>?_) (λ q=>Bool.noConfusion (q.symm.trans c5))
     (conv=>whnf)
     refine ah m λ h7 m=>?_
     (conv=>whnf)
     refine aI m λ v4 hv4 m=>?_
     refine ⟨_,_,(Oe hv4),?_⟩
     (conv=>whnf)
     have c6:=m.1
     have m:=m.2
     refine aj (λ q=>Bool.noConfusion (c6.symm.trans q)) (λ _=>?_)
     (conv=>whnf)
     refine ah m λ h8 m=>?_
     (conv=>whnf)
     refine ah m λ h9 m=>?_
     (conv=>whnf)
     refine ah m λ h10 m=>?_
     (conv=>whnf)
     refine aI m λ v5 hv5 m=>?_
     refine ⟨_,_,((ih _ _ hv5).le ⟨.refl _,.refl _,(.sl oz (λ _=>rfl) nofun (gD rfl (λ _ _=>.refl _) rfl (fM iV 0 [(v1.getD 0 0)]))),trivial⟩ trivial),?_⟩
     (conv=>whnf)
     have c7:=m.1
     have m:=m.2
     refine aj (λ _=>?_) (λ q=>Bool.noConfusion (q.symm.trans c7))
     (conv=>whnf)
     have m:r=(v5.1,true):=m
     subst m
     refine ⟨[],[],?_⟩
     (conv=>whnf)
     exact ⟨⟨rfl,trivial,trivial⟩,⟨sf,rfl,trivial⟩⟩
theorem JB {l_:List ByteArray} {r:List Int×Bool} (m:Iq p_ l_ iJ r):S 80 [jk p_,eG l_,au iJ] [] (.jg [au r.1,.bool r.2]) [] :=by
 obtain ⟨n,m⟩:=m
 exact Og n (p_,l_,iJ) r m
theorem JC {l_:List ByteArray} {dP:List Int} {r:List Int×Int} (m:Ir p_ l_ dP r):S 40 [jk p_,eG l_,au dP] [] (.jg [au r.1,iV r.2]) [] :=sp Tryz.func40 rfl<|sq m Rb λ v1 m=>by
 have c1:=m.1
 have m:=m.2
 refine aj (λ q=>Bool.noConfusion (c1.symm.trans q)) (λ _=>?_)
 (conv=>whnf)
 refine aI m λ v2 hv2 m=>?_
 refine ⟨_,_,(JB hv2),?_⟩
 (conv=>whnf)
 have c2:=m.1
 have m:=m.2
 refine aj (λ q=>Bool.noConfusion (c2.symm.trans q)) (λ _=>?_)
 (conv=>whnf)
 have m:r=(v2.1,(0:Int)):=m
 subst m
 refine ⟨[],[],?_⟩
 (conv=>whnf)
 exact ⟨⟨rfl,trivial,trivial⟩,⟨sf,r2,trivial⟩⟩
theorem JD {aV:Int} {r:cZ×Int×Int} (m:Iu b_ l_ ak g_ aV r):S 14 [gP b_,bC l_,au ak,nV g_,iV aV] [] (.jg [nV r.1,iV r.2.1,iV r.2.2]) [] :=spc [8] Tryz.func14 rfl<|sq m Jy λ v1 m=>by
 have c1:=m.1
 have m:=m.2
 refine aj (λ q=>Bool.noConfusion (c1.symm.trans q)) (λ _=>?_)
 (conv=>whnf)
 refine aI m λ v2 hv2 m=>?_
 refine ⟨_,_,(Sj hv2),?_⟩
 (conv=>whnf)
 have c2:=m.1
 have m:=m.2
 refine aj (λ q=>Bool.noConfusion (c2.symm.trans q)) (λ _=>?_)
 (conv=>whnf)
 refine ah m λ h1 m=>?_
 (conv=>whnf)
 refine ah m λ h2 m=>?_
 (conv=>whnf)
 refine SL (ct:=[8]) bO dk dk (A8 b_ l_ aV) r (λ g1=>⟨[(1,bC l_),(4,iV aV),(5,.ptr 0 0 0),(10,.ptr 1 0 0),(14,.dA 2 0 g1.length false),(15,.ptr 3 0 0)],[(0,some (.box [aY b_.bM,aQ b_.aT,iV b_.aU.bT,aX b_.aU.aF,bV b_.bg,bG b_.bF])),(1,some (.box [.sl 0 0 true eu,.sl 0 0 true eu,.sl 0 0 true eu,.sl 0 0 true eu,.sl 0 0 true eu,.sl 0 0 true eu])),(2,some (.row 1 g1.length (bD iV 0 g1))),(3,some (.box [.sl 0 0 true eu,.sl 0 0 true eu,.sl 0 0 true eu,.sl 0 0 true eu,.sl 0 0 true eu,.sl 0 0 true eu]))],4⟩) ?_ (λ g1 m=>?_)
 ·(conv=>whnf)
  refine aI m λ v10 GH m=>?_
  refine ⟨_,_,(DW GH),?_⟩
  (conv=>whnf)
  exact ⟨(ak++([aV]:List Int)),[(1,some 32),(2,some 336),(3,some 448)],[],m,⟨rfl,⟨sr,r2,r4,r4,⟨rfl,rfl,rfl,oz,nofun⟩,r4,trivial⟩,⟨⟨sr,sr,r2,sr,sr,sr,trivial⟩,⟨sr,sr,sr,sr,sr,sr,trivial⟩,⟨rfl,oz,(gD rfl (λ _ _=>.refl _) rfl (fM iV 0 [aV]))⟩,⟨sr,sr,sr,sr,sr,sr,trivial⟩,trivial⟩⟩⟩
 ·(conv=>whnf)
  refine aI m λ v4 hv4 m=>?_
  refine ⟨_,_,((EO hv4).le ⟨.refl _,.refl _,.refl _,(Le.Kt ⟨(.sl rfl (λ h=>absurd rfl h) nofun (λ _ h=>absurd h (Nat.not_lt_zero _))),(.sl rfl (λ h=>absurd rfl h) nofun (λ _ h=>absurd h (Nat.not_lt_zero _))),(.sl rfl (λ h=>absurd rfl h) nofun (λ _ h=>absurd h (Nat.not_lt_zero _))),(.sl rfl (λ h=>absurd rfl h) nofun (λ _ h=>absurd h (Nat.not_lt_zero _))),(.sl rfl (λ h=>absurd rfl h) nofun (λ _ h=>absurd h (Nat.not_lt_zero _))),(.sl rfl (λ h=>absurd rfl h) nofun (λ _ h=>absurd h (Nat.not_lt_zero _))),trivial⟩),trivial⟩ ⟨jS _,trivial⟩),?_⟩
  (conv=>whnf)
  have c3:=m.1
  have m:=m.2
  refine aj (λ q=>Bool.noConfusion (c3.symm.trans q)) (λ _=>?_)
  (conv=>whnf)
  refine aI m λ v5 hv5 m=>?_
  refine ⟨_,_,((Lu hv5).le ⟨.refl _,(.sl rfl (λ h=>absurd rfl h) nofun (λ _ h=>absurd h (Nat.not_lt_zero _))),trivial⟩ trivial),?_⟩
  (conv=>whnf)
  refine ah m λ h3 m=>?_
  (conv=>whnf)
  refine ah m λ h4 m=>?_
  (conv=>whnf)
  refine aI m λ v6 hv6 m=>?_
  refine ⟨_,_,((JC hv6).le ⟨.refl _,.refl _,(.sl rfl (λ h=>absurd rfl h) nofun (λ _ h=>absurd h (Nat.not_lt_zero _))),trivial⟩ trivial),?_⟩
  (conv=>whnf)
  have c4:=m.1
  have m:=m.2
  refine aj (λ q=>Bool.noConfusion (c4.symm.trans q)) (λ _=>?_)
  (conv=>whnf)
  refine ah m λ h5 m=>?_
  (conv=>whnf)
  refine aP (ct:=[8]) bO dk m (λ g2=>⟨[(4,iV aV),(5,.ptr 0 0 0),(10,.ptr 1 0 0),(16,.ptr 2 0 0),(20,.iK),(21,au v6.1),(91,eG ((l_.getD aV.toNat bE).aC)),(92,iV ((((l_.getD aV.toNat bE).aC).length:Nat):Int)),(93,iV g2.1)],[(0,some (.box [aY b_.bM,aQ b_.aT,iV b_.aU.bT,aX b_.aU.aF,bV b_.bg,bG b_.bF])),(1,some (.box [.sl 0 0 true eu,.sl 0 0 true eu,.sl 0 0 true eu,.sl 0 0 true eu,.sl 0 0 true eu,.sl 0 0 true eu])),(2,some (.box [au v4.1,aN v4.2.1,au v4.2.2.1,.dA 3 0 g2.2.length false,aN v4.2.2.2.1,aN v4.2.2.2.2.1])),(3,some (.row 3 g2.2.length (bD oP cK g2.2)))],4⟩) [(2,some 148),(3,none)] [] ⟨rfl,⟨r2,r4,r4,r4,trivial,sr,sr,r2,r2,trivial⟩,⟨⟨sr,sr,r2,sr,sr,sr,trivial⟩,⟨sr,sr,sr,sr,sr,sr,trivial⟩,⟨sr,sr,sr,⟨rfl,rfl,rfl,rfl,rfl,rfl⟩,sr,sr,trivial⟩,rfl,trivial⟩⟩ ?_
  intro dL g2 m
  (conv=>whnf)
  refine dI m (λ c7 m=>?_) (λ c7 m=>?_)
  ·(conv=>whnf)
   refine ah m λ h18 m=>?_
   (conv=>whnf)
   refine ah m λ h19 m=>?_
   (conv=>whnf)
   refine ah m λ h20 m=>?_
   (conv=>whnf)
   refine ah m λ h21 m=>?_
   (conv=>whnf)
   refine aI m λ v9 UW m=>?_
   refine ⟨_,_,(FM UW),?_⟩
   (conv=>whnf)
   refine ah m λ h22 m=>?_
   (conv=>whnf)
   refine ah m λ h23 m=>?_
   (conv=>whnf)
   exact ⟨((g2.1+(1:Int)),(g2.2++([(⟨aV,(⟨(v6.1.getD ((((0:Nat):Int)+g2.1).toNat) 0),v9⟩:qm)⟩:bN)]:List bN))),[(3,some 468)],[],m,⟨rfl,⟨r2,r4,r4,r4,trivial,sr,sr,r2,r2,trivial⟩,⟨⟨sr,sr,r2,sr,sr,sr,trivial⟩,⟨sr,sr,sr,sr,sr,sr,trivial⟩,⟨sr,sr,sr,⟨rfl,rfl,rfl,oz,nofun⟩,sr,sr,trivial⟩,⟨rfl,oz,(gD rfl (λ _ _=>.refl _) rfl (fM oP cK [(⟨aV,(⟨(v6.1.getD ((((0:Nat):Int)+g2.1).toNat) 0),v9⟩:qm)⟩:bN)]))⟩,trivial⟩⟩⟩
  ·(conv=>whnf)
   have m:r=((⟨v4.1,(⟨v4.2.1,v4.2.2.1⟩:dO),g2.2,v4.2.2.2.1,v4.2.2.2.2.1⟩:cZ),(0:Int),(0:Int)):=m
   subst m
   refine ⟨[3],[],?_⟩
   (conv=>whnf)
   exact ⟨⟨rfl,trivial,trivial⟩,(by (conv=>whnf); exact ⟨(by (conv=>whnf); exact ⟨(by (conv=>whnf); exact sf),(by (conv=>whnf); exact ⟨(by (conv=>whnf); exact sf),(by (conv=>whnf); exact ⟨(by (conv=>whnf); exact sf),(by (conv=>whnf); exact ⟨(by (conv=>whnf); exact sf),(by (conv=>whnf); exact ⟨(by (conv=>whnf); exact sf),(by (conv=>whnf); exact ⟨(by (conv=>whnf); exact sf),trivial⟩)⟩)⟩)⟩)⟩)⟩),(by (conv=>whnf); exact ⟨(by first | ((conv=>whnf); exact r2) | exact r2),(by (conv=>whnf); exact ⟨(by first | ((conv=>whnf); exact r2) | exact r2),trivial⟩)⟩)⟩)⟩
theorem GK {c_:bf} (m:yG c_ r):S 184 [XW c_] [] (.bool r) [] :=sp Tryz.func184 rfl<|by cases m;exact re
theorem sN {s_:List bf} {r:Int} (m:nO s_ r):S 250 [aY s_,.fn 184 []] [] (iV r) [] :=sp Tryz.func250 rfl<|l0 m (λ g1=>⟨[(0,aY s_),(1,.fn 184 []),(7,iV (s_.length:Int)),(8,iV g1)],[],0⟩) <|λ av g1 m=>si m (λ _ m=>sn m λ _ m=>sq m GK λ v3 m=>si m (λ _ m=>by cases m;exact re) λ _ m=>sn m λ _ m=>le m) λ _ m=>by cases m;exact re
theorem qo {s_:List bf} (m:jo s_ r):S 183 [aY s_,.fn 184 []] [] (.bool r) [] :=sp Tryz.func183 rfl<|sq m sN λ v1 m=>by cases m;exact re
theorem jU {n_:Int} {A9:Int} {CP:Int} (m:kU n_ A9 CP r):S 235 [iV n_,iV A9,iV CP] [] (.bool r) [] :=sp Tryz.func235 rfl<|by cases m;exact re
theorem GL {p_:Int} {a1_:Int} (m:sZ p_ a1_ r):S 251 [iV p_,.ro [iV a1_]] [] (.bool r) [] :=sp Tryz.func251 rfl<|sn m λ _ m=>sq m jU λ v1 m=>by cases m;exact re
theorem xg {bA:Int} {r:Int} (m:tT s_ bA r):S 200 [au s_,.fn 251 [.ptr 0 0 0]] [.box [iV bA]] (iV r) [.box [iV bA]] :=sp Tryz.func200 rfl<|l0 m (λ g1=>⟨[(0,au s_),(1,.fn 251 [.ptr 0 0 0]),(7,iV (s_.length:Int)),(8,iV g1)],[(0,some (.box [iV bA]))],1⟩) <|λ av g1 m=>si m (λ _ m=>sn m λ _ m=>sq m GL λ v3 m=>si m (λ _ m=>by cases m;exact re) λ _ m=>sn m λ _ m=>le m) λ _ m=>by cases m;exact re
theorem uJ {bA:Int} (m:kC s_ bA r):S 138 [au s_,.fn 251 [.ptr 0 0 0]] [.box [iV bA]] (.bool r) [.box [iV bA]] :=sp Tryz.func138 rfl<|sq m xg λ v1 m=>by cases m;exact re
theorem BS {v_:Int} {r:Int} (m:slices_Index_int s_ v_ r):S 62 [au s_,iV v_] [] (iV r) [] :=sp Tryz.func62 rfl<|l0 m (λ g1=>⟨[(0,au s_),(1,iV v_),(7,iV (s_.length:Int)),(8,iV g1)],[],0⟩) <|λ av g1 m=>si m (λ _ m=>sn m λ _ m=>si m (λ _ m=>by cases m;exact re) λ _ m=>sn m λ _ m=>le m) λ _ m=>by cases m;exact re
theorem bR {v_:Int} (m:slices_Contains_int s_ v_ r):S 27 [au s_,iV v_] [] (.bool r) [] :=sp Tryz.func27 rfl<|sq m BS λ v1 m=>by cases m;exact re
theorem jV {l_:List Int} {A9:Int} {CP:Int} (m:jQ l_ A9 CP r):S 252 [au l_,iV A9,iV CP] [] (.bool r) [] :=sp Tryz.func252 rfl<|l0 m (λ g1=>⟨[(0,au l_),(1,iV A9),(2,iV CP),(9,au l_),(10,iV (l_.length:Int)),(11,iV g1)],[],0⟩) <|λ av g1 m=>si m (λ _ m=>sn m λ _ m=>sq m jU λ v5 m=>sn m λ _ m=>sb m λ v6 hv6 m=>cl (λ q0=>((bR (hv6 q0)).le ⟨(.sl oz (λ _=>rfl) nofun (lF (f:=iV) (d:=0) (by first | omega | exact Nat.min_le_left _ _ | exact Nat.le_trans (Nat.min_le_left _ _) om | (simp; omega)))),.refl _,trivial⟩ trivial))<|si m (λ _ m=>by cases m;exact re) λ _ m=>sn m λ _ m=>le m) λ _ m=>by cases m;exact re
theorem rM {s1_:List Int} {s2_:List Int} (m:slices_Equal_int s1_ s2_ r):S 253 [au s1_,au s2_] [] (.bool r) [] :=sp Tryz.func253 rfl<|si m (λ _ m=>by cases m;exact re) λ _ m=>l0 m (λ g1=>⟨[(0,au s1_),(1,au s2_),(12,iV (s1_.length:Int)),(13,iV g1)],[],0⟩) <|λ av g1 m=>si m (λ _ m=>s2 m λ _ _ m=>si m (λ _ m=>by cases m;exact re) λ _ m=>sn m λ _ m=>le m) λ _ m=>by cases m;exact re
theorem Lx {c_:bf} {at_:Int} (m:CS c_ at_ r):S 185 [XW c_,iV at_] [] (.bool r) [] :=sp Tryz.func185 rfl<|sq m uJ λ v1 m=>sb m λ v2 hv2 m=>cl (λ q0=>(jU (hv2 q0)))<|sb m λ v3 hv3 m=>cl (λ q0=>(jU (hv3 q0)))<|si m (λ _ m=>by cases m;exact re) λ _ m=>si m (λ _ m=>sn m λ _ m=>sb m λ v4 hv4 m=>cl (λ q0=>(jU (hv4 q0)))<|by cases m;exact re) λ _ m=>si m (λ _ m=>si m (λ _ m=>sb m λ v5 hv5 m=>cl (λ q0=>(jV (hv5 q0)))<|by cases m;exact re) λ _ m=>si m (λ _ m=>sn m λ _ m=>sb m λ v6 hv6 m=>cl (λ q0=>(jV (hv6 q0)))<|by cases m;exact re) λ _ m=>si m (λ _ m=>si m (λ _ m=>sb m λ v7 hv7 m=>cl (λ q0=>((rM (hv7 q0)).le ⟨.refl _,(.sl rfl (λ _=>rfl) nofun (fM iV 0 [(0:Int),(1:Int)])),trivial⟩ trivial))<|by cases m;exact re) λ c7 m=>by
 refine ⟨.bool false,[],(λ q0=>absurd q0 (vac c7)),?_⟩
 (conv=>whnf)
 have m:r=(((c_.bH.length:Int)==(1:Int))&&false):=m
 subst m
 refine ⟨[],[],?_⟩
 (conv=>whnf)
 exact ⟨⟨rfl,trivial,trivial⟩,rfl⟩) λ _ m=>by cases m;exact re) λ _ m=>si m (λ _ m=>sb m λ v8 OB m=>cl (λ q0=>(jV (OB q0)))<|by cases m;exact re) λ _ m=>si m (λ _ m=>sn m λ _ m=>sb m λ v9 UW m=>cl (λ q0=>(jV (UW q0)))<|by cases m;exact re) λ _ m=>si m (λ _ m=>si m (λ _ m=>sb m λ v10 GH m=>cl (λ q0=>((rM (GH q0)).le ⟨.refl _,(.sl rfl (λ _=>rfl) nofun (fM iV 0 [(0:Int),(1:Int)])),trivial⟩ trivial))<|by cases m;exact re) λ c11 m=>by
 refine ⟨.bool false,[],(λ q0=>absurd q0 (vac c11)),?_⟩
 (conv=>whnf)
 have m:r=(((c_.bH.length:Int)==(1:Int))&&false):=m
 subst m
 refine ⟨[],[],?_⟩
 (conv=>whnf)
 exact ⟨⟨rfl,trivial,trivial⟩,rfl⟩) λ _ m=>by cases m;exact re
theorem kJ {l_:List bf} {r:Int} (m:pY l_ r):S 115 [aY l_] [] (iV r) [] :=spc [21] Tryz.func115 rfl<|sb m λ v1 hv1 m=>cl (λ q0=>(qo (hv1 q0)))<|si m (λ _ m=>by cases m;exact re) λ _ m=>lfc [21] m (λ g1=>⟨[(0,aY l_),(18,aY l_),(19,iV (l_.length:Int)),(20,iV g1)],[],0⟩) [] [] <|λ av g1 m=>si m (λ _ m=>sn m λ _ m=>sq m Lx λ v4 m=>si m (λ _ m=>by cases m;exact re) λ _ m=>sn m λ _ m=>le m) λ _ m=>sn m λ _ m=>lfc [21] m (λ g2=>⟨[(5,iV g2.1),(6,.dA 0 0 g2.2.2.length false),(33,aY l_),(34,iV (l_.length:Int)),(35,iV g2.2.1)],[(0,some (.row 1 g2.2.2.length (bD iV 0 g2.2.2)))],1⟩) [(0,some 64)] [] <|λ dL g2 m=>si m (λ _ m=>sn m λ _ m=>lfc [21] m (λ g7=>⟨[(5,iV g2.1),(6,.dA 0 0 g7.2.length false),(7,iV g2.2.1),(8,.ptr 1 0 0),(33,aY l_),(34,iV (l_.length:Int)),(35,iV g2.2.1),(41,au ((l_.getD g2.2.1.toNat bK).bH)),(42,iV ((((l_.getD g2.2.1.toNat bK).bH).length:Nat):Int)),(43,iV g7.1)],[(0,some (.row 1 g7.2.length (bD iV 0 g7.2))),(1,some (.box [iV ((l_.getD g2.2.1.toNat bK).gN),au ((l_.getD g2.2.1.toNat bK).bH),au ((l_.getD g2.2.1.toNat bK).bS),iV ((l_.getD g2.2.1.toNat bK).Low),iV ((l_.getD g2.2.1.toNat bK).kZ)]))],2⟩) [(1,some 65)] [] <|λ uU g7 m=>si m (λ _ m=>s2 m λ _ _ m=>s2 m λ _ _ m=>sn m λ _ m=>le m) λ _ m=>ck [21] (oQ l_ g2 dL) r (λ g8=>⟨[(5,iV g2.1),(6,.dA 0 0 g8.length false),(7,iV g2.2.1),(8,.ptr 1 0 0),(33,aY l_),(34,iV (l_.length:Int)),(35,iV g2.2.1)],[(0,some (.row 1 g8.length (bD iV 0 g8))),(1,some (.box [iV ((l_.getD g2.2.1.toNat bK).gN),au ((l_.getD g2.2.1.toNat bK).bH),au ((l_.getD g2.2.1.toNat bK).bS),iV ((l_.getD g2.2.1.toNat bK).Low),iV ((l_.getD g2.2.1.toNat bK).kZ)]))],2⟩) (si m (λ _ m=>s2 m λ _ _ m=>sn m λ _ m=>le m) λ _ m=>le m) λ g8 m=>s2 m λ _ _ m=>si m (λ _ m=>by cases m;exact re) λ _ m=>sn m λ _ m=>le m) λ _ m=>by cases m;exact re
theorem EP {s_:aL} (m:mH s_ r):S 187 [EA s_] [] (.bool r) [] :=sp Tryz.func187 rfl<|by cases m;exact re
theorem sO {s_:List aL} {r:Int} (m:nP s_ r):S 254 [aQ s_,.fn 187 []] [] (iV r) [] :=sp Tryz.func254 rfl<|l0 m (λ g1=>⟨[(0,aQ s_),(1,.fn 187 []),(7,iV (s_.length:Int)),(8,iV g1)],[],0⟩) <|λ av g1 m=>si m (λ _ m=>sn m λ _ m=>sq m EP λ v3 m=>si m (λ _ m=>by cases m;exact re) λ _ m=>sn m λ _ m=>le m) λ _ m=>by cases m;exact re
theorem qw {s_:List aL} (m:jq s_ r):S 186 [aQ s_,.fn 187 []] [] (.bool r) [] :=sp Tryz.func186 rfl<|sq m sO λ v1 m=>by cases m;exact re
theorem kY {n_:Int} {A9:Int} {CP:Int} (m:jY n_ A9 CP r):S 196 [iV n_,iV A9,iV CP] [] (.bool r) [] :=sp Tryz.func196 rfl<|by cases m;exact re
theorem JE {s_:aL} {at_:Int} (m:vF s_ at_ r):S 188 [EA s_,iV at_] [] (.bool r) [] :=sp Tryz.func188 rfl<|sn m λ _ m=>sq m kY λ v1 m=>sb m λ v2 hv2 m=>cl (λ q0=>(kY (hv2 q0)))<|sb m λ v3 hv3 m=>cl (λ q0=>(kY (hv3 q0)))<|si m (λ _ m=>by cases m;exact re) λ _ m=>l0 m (λ g1=>⟨[(2,.ptr 0 0 0),(42,au s_.dY),(43,iV (s_.dY.length:Int)),(44,iV g1)],[(0,some (.box [iV s_.dx,au s_.dY,iV s_.iI,iV s_.jT,.bool s_.nk]))],1⟩) <|λ av g1 m=>si m (λ _ m=>sn m λ _ m=>sq m kY λ v6 m=>s2 m λ _ _ m=>si m (λ _ m=>by cases m;exact re) λ _ m=>sn m λ _ m=>le m) λ _ m=>by cases m;exact re
theorem mg {l_:List aL} {r:Int} (m:kV l_ r):S 116 [aQ l_] [] (iV r) [] :=sp Tryz.func116 rfl<|sb m λ v1 hv1 m=>cl (λ q0=>(qw (hv1 q0)))<|si m (λ _ m=>by cases m;exact re) λ _ m=>l0 m (λ g1=>⟨[(12,aQ l_),(13,iV (l_.length:Int)),(14,iV g1)],[],0⟩) <|λ av g1 m=>si m (λ _ m=>sn m λ _ m=>sq m JE λ v4 m=>si m (λ _ m=>by cases m;exact re) λ _ m=>sn m λ _ m=>le m) λ _ m=>by cases m;exact re
theorem qP {s_:ByteArray} (m:r9 s_ r):S 121 [.str s_] [] (.bool r) [] :=sp Tryz.func121 rfl<|s2 m λ _ _ m=>si m (λ _ m=>by cases m;exact re) λ _ m=>l0 m (λ g1=>⟨[(0,.str s_),(3,iV g1)],[],0⟩) <|λ av g1 m=>si m (λ _ m=>sn m λ _ m=>si m (λ _ m=>by cases m;exact re) λ _ m=>sn m λ _ m=>le m) λ _ m=>by cases m;exact re
theorem yO {s_:List ByteArray} {v_:ByteArray} {r:Int} (m:slices_Index_string s_ v_ r):S 84 [eG s_,.str v_] [] (iV r) [] :=sp Tryz.func84 rfl<|l0 m (λ g1=>⟨[(0,eG s_),(1,.str v_),(7,iV (s_.length:Int)),(8,iV g1)],[],0⟩) <|λ av g1 m=>si m (λ _ m=>sn m λ _ m=>si m (λ _ m=>by cases m;exact re) λ _ m=>sn m λ _ m=>le m) λ _ m=>by cases m;exact re
theorem mh {s_:List ByteArray} {v_:ByteArray} (m:slices_Contains_string s_ v_ r):S 255 [eG s_,.str v_] [] (.bool r) [] :=sp Tryz.func255 rfl<|sq m yO λ v1 m=>by cases m;exact re
theorem Oh {CX:Int} {g_:fA} {r:Int} (m:Aj CX g_ r):S 189 [iV CX,KG g_] [] (iV r) [] :=sp Tryz.func189 rfl<|si m (λ _ m=>by cases m;exact re) λ _ m=>si m (λ _ m=>by cases m;exact re) λ _ m=>l0 m (λ g1=>⟨[(0,iV CX),(3,.ptr 0 0 0),(27,au g_.bT),(28,iV (g_.bT.length:Int)),(29,iV g1)],[(0,some (.box [.str g_.uo,au g_.bT,eG g_.aC]))],1⟩) <|λ av g1 m=>si m (λ _ m=>sn m λ _ m=>si m (λ _ m=>by cases m;exact re) λ _ m=>sn m λ _ m=>le m) λ _ m=>l0 m (λ g2=>⟨[(3,.ptr 0 0 0),(7,iV g2)],[(0,some (.box [.str g_.uo,au g_.bT,eG g_.aC]))],1⟩) <|λ dL g2 m=>si m (λ _ m=>s2 m λ _ _ m=>sn m λ _ m=>si m (λ _ m=>by cases m;exact re) λ _ m=>sn m λ _ m=>le m) λ _ m=>l0 m (λ g3=>⟨[(3,.ptr 0 0 0),(61,eG g_.aC),(62,iV (g_.aC.length:Int)),(63,iV g3)],[(0,some (.box [.str g_.uo,au g_.bT,eG g_.aC]))],1⟩) <|λ iZ g3 m=>si m (λ _ m=>sn m λ _ m=>sq m qP λ v3 m=>si m (λ _ m=>by cases m;exact re) λ _ m=>sn m λ _ m=>le m) λ _ m=>l0 m (λ g4=>⟨[(3,.ptr 0 0 0),(72,eG g_.aC),(73,iV (g_.aC.length:Int)),(74,iV g4)],[(0,some (.box [.str g_.uo,au g_.bT,eG g_.aC]))],1⟩) <|λ nN g4 m=>si m (λ _ m=>s2 m λ _ _ m=>sb m λ v6 hv6 m=>cl ((mh hv6).le ⟨(.sl oz (λ _=>rfl) nofun (lF (f:=AV.str) (d:=ByteArray.empty) (by first | omega | exact Nat.min_le_left _ _ | exact Nat.le_trans (Nat.min_le_left _ _) om | (simp; omega)))),.refl _,trivial⟩ trivial)<|si m (λ _ m=>by cases m;exact re) λ _ m=>sn m λ _ m=>le m) λ _ m=>by cases m;exact re
theorem o8 {r:Int} (m:pz p_ r):S 117 [jk p_] [] (iV r) [] :=sp Tryz.func117 rfl<|si m (λ _ m=>by cases m;exact re) λ _ m=>si m (λ _ m=>by cases m;exact re) λ _ m=>lf m (λ g1=>⟨[(1,.ptr 0 0 0),(3,.mref 1),(21,aX p_.aF),(22,iV (p_.aF.length:Int)),(23,iV g1.1)],[(0,some (.box [iV p_.bT,aX p_.aF])),(1,some (.map .str [.bool] g1.2))],2⟩) [(1,some 224)] [] <|λ av g1 m=>si m (λ _ m=>sn m λ _ m=>sq m qP λ v5 m=>si m (λ _ m=>by cases m;exact re) λ _ m=>si m (λ _ m=>by cases m;exact re) λ _ m=>sq m Oh λ v6 m=>si m (λ _ m=>by cases m;exact re) λ _ m=>sn m λ _ m=>le m) λ _ m=>by cases m;exact re
theorem sP {l_:List fF} {r:Int} (m:p8 l_ r):S 118 [bV l_] [] (iV r) [] :=sp Tryz.func118 rfl<|si m (λ _ m=>by cases m;exact re) λ _ m=>l0 m (λ g1=>⟨[(11,bV l_),(12,iV (l_.length:Int)),(13,iV g1)],[],0⟩) <|λ av g1 m=>si m (λ _ m=>sn m λ _ m=>lf m (λ g6=>⟨[(3,iV g1),(4,.ptr 0 0 0),(11,bV l_),(12,iV (l_.length:Int)),(13,iV g1),(19,au ((l_.getD g1.toNat gF).iF)),(20,iV ((((l_.getD g1.toNat gF).iF).length:Nat):Int)),(21,iV g6)],[(0,some (.box [au ((l_.getD g1.toNat gF).iF)]))],1⟩) [(0,some 64)] [] <|λ jL g6 m=>si m (λ _ m=>sn m λ _ m=>si m (λ _ m=>by cases m;exact re) λ _ m=>sn m λ _ m=>le m) λ _ m=>l0 m (λ g7=>⟨[(4,.ptr 0 0 0),(7,iV g7),(11,bV l_),(12,iV (l_.length:Int)),(13,iV g1)],[(0,some (.box [au ((l_.getD g1.toNat gF).iF)]))],1⟩) <|λ uU g7 m=>si m (λ _ m=>s2 m λ _ _ m=>sn m λ _ m=>si m (λ _ m=>by cases m;exact re) λ _ m=>sn m λ _ m=>le m) λ _ m=>sn m λ _ m=>le m) λ _ m=>by cases m;exact re
theorem qQ {l_:List eF} {r:Int} (m:nE l_ r):S 119 [bG l_] [] (iV r) [] :=sp Tryz.func119 rfl<|si m (λ _ m=>by cases m;exact re) λ _ m=>l0 m (λ g1=>⟨[(8,bG l_),(9,iV (l_.length:Int)),(10,iV g1)],[],0⟩) <|λ av g1 m=>si m (λ _ m=>sn m λ _ m=>si m (λ _ m=>by cases m;exact re) λ _ m=>sn m λ _ m=>le m) λ _ m=>by cases m;exact re
theorem LA {r:Int} (m:xK b_ r):S 60 [gP b_] [] (iV r) [] :=sp Tryz.func60 rfl<|sq m kJ λ v1 m=>si m (λ _ m=>by cases m;exact re) λ _ m=>sq m mg λ v2 m=>si m (λ _ m=>by cases m;exact re) λ _ m=>sq m o8 λ v3 m=>si m (λ _ m=>by cases m;exact re) λ _ m=>sq m sP λ v4 m=>si m (λ _ m=>by cases m;exact re) λ _ m=>sq m qQ λ v5 m=>by cases m;exact re
theorem jC {x_:Int} {XY:Int} {Qv:Int} (m:mI x_ XY Qv r):S 120 [iV x_,iV XY,iV Qv] [] (.bool r) [] :=sp Tryz.func120 rfl<|by cases m;exact re
theorem Oi {n_:ay} {fZ:Int} {r:Int} (m:Ak b_ n_ fZ r):S 61 [gP b_,pX n_,iV fZ] [] (iV r) [] :=sp Tryz.func61 rfl<|si m (λ _ m=>by cases m;exact re) λ _ m=>lf m (λ g1=>⟨[(2,iV fZ),(3,.ptr 0 0 0),(4,.ptr 1 0 0),(35,dN n_.eH),(36,iV (n_.eH.length:Int)),(37,iV g1)],[(0,some (.box [aY b_.bM,aQ b_.aT,iV b_.aU.bT,aX b_.aU.aF,bV b_.bg,bG b_.bF])),(1,some (.box [dN n_.eH,eD n_.fU,eG n_.aC,au n_.bg,iV n_.gy,au n_.aO]))],2⟩) [(1,some 16)] [] <|λ av g1 m=>si m (λ _ m=>s2 m λ _ _ m=>sq m jC λ v3 m=>si m (λ _ m=>by cases m;exact re) λ _ m=>sn m λ _ m=>le m) λ _ m=>l0 m (λ g2=>⟨[(2,iV fZ),(3,.ptr 0 0 0),(4,.ptr 1 0 0),(68,eD n_.fU),(69,iV (n_.fU.length:Int)),(70,iV g2)],[(0,some (.box [aY b_.bM,aQ b_.aT,iV b_.aU.bT,aX b_.aU.aF,bV b_.bg,bG b_.bF])),(1,some (.box [dN n_.eH,eD n_.fU,eG n_.aC,au n_.bg,iV n_.gy,au n_.aO]))],2⟩) <|λ dL g2 m=>si m (λ _ m=>s2 m λ _ _ m=>sq m jC λ v8 m=>sb m λ v9 UW m=>cl (λ q0=>(jC (UW q0)))<|si m (λ _ m=>by cases m;exact re) λ _ m=>sn m λ _ m=>le m) λ _ m=>l0 m (λ g3=>⟨[(2,iV fZ),(3,.ptr 0 0 0),(4,.ptr 1 0 0),(107,eG n_.aC),(108,iV (n_.aC.length:Int)),(109,iV g3)],[(0,some (.box [aY b_.bM,aQ b_.aT,iV b_.aU.bT,aX b_.aU.aF,bV b_.bg,bG b_.bF])),(1,some (.box [dN n_.eH,eD n_.fU,eG n_.aC,au n_.bg,iV n_.gy,au n_.aO]))],2⟩) <|λ iZ g3 m=>si m (λ _ m=>sn m λ _ m=>sq m qP λ v12 m=>si m (λ _ m=>by cases m;exact re) λ _ m=>sn m λ _ m=>le m) λ _ m=>l0 m (λ g4=>⟨[(2,iV fZ),(3,.ptr 0 0 0),(4,.ptr 1 0 0),(118,au n_.bg),(119,iV (n_.bg.length:Int)),(120,iV g4)],[(0,some (.box [aY b_.bM,aQ b_.aT,iV b_.aU.bT,aX b_.aU.aF,bV b_.bg,bG b_.bF])),(1,some (.box [dN n_.eH,eD n_.fU,eG n_.aC,au n_.bg,iV n_.gy,au n_.aO]))],2⟩) <|λ nN g4 m=>si m (λ _ m=>s2 m λ _ _ m=>sq m jC λ v15 m=>si m (λ _ m=>by cases m;exact re) λ _ m=>sn m λ _ m=>le m) λ _ m=>sn m λ _ m=>sq m jC λ v16 m=>si m (λ _ m=>by cases m;exact re) λ _ m=>lf m (λ g5=>⟨[(2,iV fZ),(4,.ptr 0 0 0),(141,au n_.aO),(142,iV (n_.aO.length:Int)),(143,iV g5)],[(0,some (.box [dN n_.eH,eD n_.fU,eG n_.aC,au n_.bg,iV n_.gy,au n_.aO]))],1⟩) [(0,some 1)] [] <|λ uT g5 m=>si m (λ _ m=>s2 m λ _ _ m=>sq m jC λ v19 m=>si m (λ _ m=>by cases m;exact re) λ _ m=>sn m λ _ m=>le m) λ _ m=>l0 m (λ g6=>⟨[(4,.ptr 0 0 0),(17,iV g6)],[(0,some (.box [dN n_.eH,eD n_.fU,eG n_.aC,au n_.bg,iV n_.gy,au n_.aO]))],1⟩) <|λ jL g6 m=>si m (λ _ m=>s2 m λ _ _ m=>sn m λ _ m=>si m (λ _ m=>by cases m;exact re) λ _ m=>sn m λ _ m=>le m) λ _ m=>by cases m;exact re
end Go.Proofs.YtnbjfoeapbncjaaGreatDoor

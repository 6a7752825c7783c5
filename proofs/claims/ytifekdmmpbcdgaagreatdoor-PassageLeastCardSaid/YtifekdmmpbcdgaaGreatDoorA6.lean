/- A part of the proof. -/
import Derived.Test.YtifekdmmpbcdgaaGreatDoorA4
import Derived.Test.YtifekdmmpbcdgaaGreatDoorA5
set_option linter.unusedVariables false
set_option linter.unusedSimpArgs false
set_option maxHeartbeats 4000000
namespace Go.Proofs.YtifekdmmpbcdgaaGreatDoor.Sp
open Go.Ab
set_option maxRecDepth 100000
deriving instance DecidableEq for av,bL,bq
structure Chn where
 over:Bool
 aAd:azp
 first:Int
 last:Int
deriving DecidableEq
structure Dem where
 Ah:Int
 draw:Int
 child:Int
deriving DecidableEq
def RX:Dem:=⟨0,0,0⟩
def dS (n lo hi:Int):Bool:=decide (lo<=n)&&decide (n<=hi)
def VJ (s:av):Bool:=decide (16<(s.cK.length:Int))
def YV (s:av) (k:Int):Bool:=((((!dS s.aT (-1) (k - 1))||((s.cK.length:Int)==0))||!dS s.iw 0 5000)||(decide (s.aT<0)&&(s.iw != 0)))||!dS s.iG 0 10000
def RY:Int->azp->Bool
 | _,[]=>true
 | p,v::t=>!(!dS v 1 5000||decide (v<=p))&&RY v t
def AU (s:av) (k:Int):Bool:=!YV s k&&RY 0 s.cK
variable {i:Nat}
theorem agz {lev:azp} (hi:i<lev.length) {c:Bool} (hc:c=(!dS (lev.getD i 0) 1 5000||(decide (0<(i:Int))&&decide (lev.getD i 0<=lev.getD (i - 1) 0)))):
  RY (if i=0 then 0 else lev.getD (i - 1) 0) (lev.drop i)=(!c&&RY (lev.getD i 0) (lev.drop (i+1))):=by
 rw [drop_cons 0 hi,RY,hc];congr 2;cases h:dS (lev.getD i 0) 1 5000 with
 | false=>rfl
 | true=>
  have h1:1<=lev.getD i 0:=by unfold dS at h; simp at h; simpa using h.1
  by_cases h0:i=0
  ·subst h0;simp;have h1:1<=lev.getD 0 0:=h1;have:¬ lev.getD 0 0<=0:=by omega
   simpa using this
  have:decide (0<(i:Int))=true:=by simp; omega
  rw [this,if_neg h0];simp
def abh (n:Int) (x:bL):Bool:=((!dS x.bY 0 (n - 1)||!dS x.fI 0 5000)||!dS x.lC 0 x.fI)||!dS x.Load 0 10000
def Xy:Nat->azv->Bool
 | _,[]=>true
 | i,s::t=>AU s i&&Xy (i+1) t
def eD (l:azv):Int:=bif decide (16<(l.length:Int))||l.any VJ then 3 else bif Xy 0 l then 0 else 1
variable {α:Type}
theorem oF (d:α) {p:α->Bool} {l:List α} (h:l.any p=false) (i:Nat) (hi:i<l.length):p (l.getD i d)=false:=by
 have:=jq d hi;rw [aml] at h;simpa using h _ this
theorem ajA (n:Nat):decide ((n:Int)<1)=((n:Int)==0):=by
 by_cases h:n=0
 ·subst h; rfl
 rw [decide_eq_false om];symm;simpa using h
def iN (l:azv) (d:azy):Bool:=((eD l==0)&&decide ((d.length:Int)<=32))&&!(d.any (abh l.length))
theorem agA (n:Int) (x:bL):(((!dS x.bY 0 (n - 1)||!dS x.lC 0 x.fI)||decide (5000<x.fI))||!dS x.Load 0 10000)=abh n x:=by
 unfold abh;cases dS x.bY 0 (n - 1) with
 | false=>rfl
 | true=>
  cases dS x.Load 0 10000 with
  | false=>simp
  | true=>
   simp only [as0,avB,ayC];unfold dS;by_cases h1:0<=x.lC<;>by_cases h2:x.lC<=x.fI<;>by_cases h3:5000<x.fI<;>by_cases h4:0<=x.fI<;>by_cases h5:x.fI<=5000<;>simp [h1,h2,h3,h4,h5]<;>omega
def rlN:azv->azp->Bool
 | s::l,k::t=>dS k 0 (s.cK.length - 1)&&rlN l t
 | _,_=>true
def mR (l:azv) (r:bq):Bool:=bif ((eD l != 0)||((r.On.length:Int) != l.length))||((r.bC.length:Int) != l.length) then false else rlN l r.bC
variable {l:azv}
theorem Ez (h:eD l=0):l.length<=16∧(∀i,i<l.length->(l.getD i aD).cK.length<=16)∧Xy 0 l=true:=by
 unfold eD at h;cases h1:(decide (16<(l.length:Int))||l.any VJ) with
 | true=>rw [h1] at h; cases h
 | false=>
  rw [h1] at h;have h2:Xy 0 l=true:=by
   cases hv:Xy 0 l with
   | true=>rfl
   | false=>rw [hv] at h; cases h
  simp only [aff] at h1;refine ⟨by have:=of_decide_eq_false h1.1; omega,λ i hi=>?_,h2⟩;have:=oF aD h1.2 i hi;unfold VJ at this;have:=of_decide_eq_false this;omega
def zJ (l:azv) (d:azy):Int:=bif eD l != 0 then eD l else bif !iN l d then 1 else 0
theorem gB (d:α) (l:List α) (i:Nat) (v:α) (k:Nat):(l.set i v).getD k d=if k=i∧i<l.length then v else l.getD k d:=by
 rw [adF,adF,auJ];by_cases h:i=k
 ·subst h;by_cases h2:i<l.length
  ·simp [h2]
  simp [h2]
 have:¬ (k=i∧i<l.length):=λ h'=>h h'.1.symm;simp [h,this]
def VK {α:Type} (f:Nat->α->α):Nat->α->α
 | 0,a=>a
 | k+1,a=>VK f k (f k a)
def rE (n:Nat) (d:azy):azq:=d.foldl (λ a x=>a.set x.bY.toNat true) (List.replicate n false)
def iH (l:azv) (i:Nat) (a:azq):azq:=
 bif (a.getD i false||(l.getD i aD).gF)&&decide (0<=(l.getD i aD).aT) then (a.set i (a.getD i false||(l.getD i aD).gF)).set (l.getD i aD).aT.toNat true else a.set i (a.getD i false||(l.getD i aD).gF)
def gQ (l:azv) (d:azy):azq:=VK (iH l) l.length (rE l.length d)
structure Oe (l:azv) (d:azy):Prop where
 len:l.length<=16
 awT:d.length<=32
 bY:∀i,i<l.length -> -1<=(l.getD i aD).aT∧(l.getD i aD).aT<i∧1<=(l.getD i aD).cK.length∧(l.getD i aD).cK.length<=16∧0<=(l.getD i aD).iw∧(l.getD i aD).iw<=5000∧0<=(l.getD i aD).iG∧(l.getD i aD).iG<=10000
 cK:∀i,i<l.length->RY 0 (l.getD i aD).cK=true
 drw:∀x∈d,0<=x.bY∧x.bY<l.length∧0<=x.lC∧x.lC<=x.fI∧x.fI<=5000∧0<=x.Load∧x.Load<=10000
theorem CF {n lo hi:Int}:dS n lo hi=true↔lo<=n∧n<=hi:=by
 unfold dS;simp
variable {k:Nat}
theorem agB (h:Xy k l=true):∀i,i<l.length->AU (l.getD i aD) ((k+i:Nat):Int)=true:=by
 induction l generalizing k with
 | nil=>intro i hi; simp at hi
 | cons s t ih=>
  rw [Xy,aei] at h;intro i hi;cases i with
  | zero=>exact h.1
  | succ i=>
   have:=ih h.2 i (by simpa using hi);rw [show k+(i+1)=k+1+i by omega];exact this
theorem agC {s:av} {k:Int} (h:AU s k=true) : -1<=s.aT∧s.aT<k∧1<=s.cK.length∧0<=s.iw∧s.iw<=5000∧0<=s.iG∧s.iG<=10000∧RY 0 s.cK=true∧(s.aT<0->s.iw=0):=by
 unfold AU YV at h;simp only [aei,ahk,aff,ajz,CF] at h;obtain ⟨⟨⟨⟨⟨h1,h2⟩,h3⟩,h4⟩,h5⟩,h6⟩:=h;have h2':¬ (s.cK.length:Int)=0:=by simpa using h2
 refine ⟨h1.1,om,om,h3.1,h3.2,h5.1,h5.2,h6,λ hp=>?_⟩;rw [decide_eq_true hp] at h4;simpa using h4
variable {d:azy}
theorem zK (h:iN l d=true):Oe l d:=by
 unfold iN at h;simp only [aei,ahk] at h;obtain ⟨⟨h1,h2⟩,h3⟩:=h;have h1:eD l=0:=by simpa using h1
 obtain ⟨c1,c2,c3⟩:=Ez h1;refine ⟨c1,by have:=of_decide_eq_true h2; omega,λ i hi=>?_,λ i hi=>?_,λ x hx=>?_⟩
 ·have:=agC (agB c3 i hi);have:=c2 i hi;omega
 ·exact (agC (agB c3 i hi)).2.2.2.2.2.2.2.1
 have:=(aml.1 h3) x hx;unfold abh at this;simp only [aqM,aff,ajz,CF] at this;omega
theorem adl {β:Type} (f:List α->β->List α) (hf:∀a x,(f a x).length=a.length) (d:List β) (a:List α):(d.foldl f a).length=a.length:=by
 induction d generalizing a with
 | nil=>rfl
 | cons x d ih=>rw [atD,ih,hf]
theorem uR (n:Nat) (d:azy):(rE n d).length=n:=by
 unfold rE;rw [adl _ (λ a x=>ahl ..),aqw]
theorem nX (l:azv) (i:Nat) (a:azq):(iH l i a).length=a.length:=by
 unfold iH;cases (a.getD i false||(l.getD i aD).gF)&&decide (0<=(l.getD i aD).aT)<;>simp
theorem adn {f:Nat->List α->List α} (hf:∀i a,(f i a).length=a.length) (k:Nat) (a:List α):(VK f k a).length=a.length:=by
 induction k generalizing a with
 | zero=>rfl
 | succ k ih=>rw [VK,ih,hf]
theorem EO (l:azv) (d:azy):(gQ l d).length=l.length:=by
 unfold gQ;rw [adn (nX l),uR]
def KM {α:Type} (f:Nat->α->α) (n:Nat):Nat->α->α
 | 0,a=>a
 | k+1,a=>f (n - 1 - k) (KM f n k a)
theorem akM (f:Nat->α->α) (n k:Nat) (hk:k<=n) (a:α):VK f n a=VK f (n - k) (KM f n k a):=by
 induction k with
 | zero=>rfl
 | succ k ih=>
  rw [ih om,show n - k=n - (k+1)+1 by omega,VK,KM,show n - 1 - k=n - (k+1) by omega]
theorem EA (f:Nat->α->α) (n:Nat) (a:α):KM f n n a=VK f n a:=by
 rw [akM f n n (afg _),auQ];rfl
theorem wG {f:Nat->List α->List α} (hf:∀i a,(f i a).length=a.length) (n k:Nat) (a:List α):(KM f n k a).length=a.length:=by
 induction k with
 | zero=>rfl
 | succ k ih=>rw [KM,hf,ih]
theorem zL (n k:Nat) (v:α):(List.replicate n v).getD k v=v:=by
 rw [adF,auV];split<;>rfl
def AX (n:Nat) (d:azy):azp:=d.foldl (λ a x=>a.set x.bY.toNat (a.getD x.bY.toNat 0+x.Load)) (List.replicate n 0)
def iO (l:azv) (i:Nat) (a:azp):azp:=
 bif decide (0<=(l.getD i aD).aT) then a.set (l.getD i aD).aT.toNat (a.getD (l.getD i aD).aT.toNat 0+a.getD i 0) else a
def lZ (l:azv) (d:azy):azp:=VK (iO l) l.length (AX l.length d)
theorem zM (n:Nat) (d:azy):(AX n d).length=n:=by
 unfold AX;rw [adl _ (λ a x=>ahl ..),aqw]
theorem uS (l:azv) (i:Nat) (a:azp):(iO l i a).length=a.length:=by
 unfold iO;cases decide (0<=(l.getD i aD).aT)<;>simp
theorem Uv (l:azv) (d:azy):(lZ l d).length=l.length:=by
 unfold lZ;rw [adn (uS l),zM]
def Bnd (a:azp) (M:Int):Prop:=∀j,0<=a.getD j 0∧a.getD j 0<=M
variable {a:azp}
theorem Bnd.set {M N:Int} (h:Bnd a M) (hM:M<=N) (i:Nat) (v:Int) (hv:0<=v∧v<=N):Bnd (a.set i v) N:=λ j=>by
 rw [gB];have:=h j;split
 ·exact hv
 omega
theorem agD (n:Nat) (d:azy) (hd:∀x∈d,0<=x.Load∧x.Load<=10000) (i:Nat) (hi:i<=d.length):Bnd (AX n (d.take i)) (10000*i):=by
 induction i with
 | zero=>intro j; rw [axa]; have:(AX n []).getD j 0=0:=zL n j 0; omega
 | succ i ih=>
  have hsn:AX n (d.take (i+1))=(AX n (d.take i)).set (d.getD i eu).bY.toNat ((AX n (d.take i)).getD (d.getD i eu).bY.toNat 0+(d.getD i eu).Load):=wP _ _ eu hi;rw [hsn];have h1:=ih om;have h2:=hd _ (jq eu hi);have h3:=h1 (d.getD i eu).bY.toNat;exact h1.set om _ _ om
theorem ais (l:azv) (a:azp) (M:Int) (h:Bnd a M) (k:Nat):Bnd (KM (iO l) l.length k a) (M*2 ^ k):=by
 induction k with
 | zero=>show Bnd a (M*2 ^ 0); rw [Int.pow_zero,Int.mul_one]; exact h
 | succ k ih=>
  rw [KM];have e:M*2 ^ (k+1)=M*2 ^ k+M*2 ^ k:=by rw [Int.pow_succ,<- Int.mul_assoc]; omega
  rw [e];generalize KM (iO l) l.length k a=A at ih;generalize M*2 ^ k=X at ih;have hp:0<=X:=by have:=ih 0; omega
  unfold iO;cases decide (0<=(l.getD (l.length - 1 - k) aD).aT) with
  | true=>
   have h1:=ih (l.getD (l.length - 1 - k) aD).aT.toNat;have h2:=ih (l.length - 1 - k);exact ih.set om _ _ om
  | false=>
   intro j;have:=ih j;simp only [cond_false];omega
theorem Lr (hv:Oe l d) (k:Nat) (hk:k<=l.length):Bnd (KM (iO l) l.length k (AX l.length d)) 100000000000:=by
 have h1:=agD l.length d (λ x hx=>by have:=hv.drw x hx; omega) d.length (afg _);rw [alj] at h1;have h2:=ais l _ _ h1 k;have hvl:=hv.len;have hvd:=hv.awT;have h3:(2:Int) ^ k<=2 ^ 16:=by exact_mod_cast as1 (n:=2) (by decide) (show k<=16 by omega)
 have h4:10000*(d.length:Int)*2 ^ k<=320000*2 ^ 16:=ayY om h3 (Int.pow_nonneg (by decide)) (by decide);intro j;have:=h2 j;omega
theorem anp (h:zJ l d=0):iN l d=true:=by
 unfold zJ at h;cases hc:eD l != 0 with
 | true=>rw [hc] at h; have:eD l=0:=h; rw [this] at hc; cases hc
 | false=>
  rw [hc] at h;cases hd:iN l d with
  | true=>rfl
  | false=>rw [hd] at h; cases h
def nG (l:azv) (r:bq) (k:Nat):Int:=(l.getD k aD).cK.getD (r.bC.getD k 0).toNat 0
def Qk (l:azv) (r:bq) (u:azq) (ld:azp) (i:Nat):Bool:=
 bif !r.On.getD i false then u.getD i false
 else (decide (0<=(l.getD i aD).aT)&&(!r.On.getD (l.getD i aD).aT.toNat false||decide (nG l r (l.getD i aD).aT.toNat<nG l r i+(l.getD i aD).iw)))||decide ((l.getD i aD).iG<ld.getD i 0)
def abj (l:azv) (r:bq) (x:bL):Bool:=!dS (nG l r x.bY.toNat) x.lC x.fI
def zN (l:azv) (r:bq) (d:azy):Bool:=(List.range l.length).all (λ i=>!Qk l r (gQ l d) (lZ l d) i)&&!(d.any (abj l r))
def fH (l:azv) (r:bq) (d:azy):Bool:=bif !mR l r||!iN l d then false else zN l r d
structure Rok (l:azv) (r:bq):Prop where
 On:r.On.length=l.length
 len:r.bC.length=l.length
 cK:∀i,i<l.length->0<=r.bC.getD i 0∧(r.bC.getD i 0).toNat<(l.getD i aD).cK.length∧r.bC.getD i 0<(l.getD i aD).cK.length
theorem ajB {r:azp} (h:r.length=l.length):rlN l r=true↔∀i,i<l.length->0<=r.getD i 0∧r.getD i 0<(l.getD i aD).cK.length:=by
 induction l generalizing r with
 | nil=>simp [rlN]
 | cons s l ih=>
  cases r with
  | nil=>simp at h
  | cons k r=>
   rw [rlN,aei,CF,ih (by simpa using h)];constructor
   ·rintro ⟨h1,h2⟩ i hi;cases i with
    | zero=>show 0<=k∧k<s.cK.length; omega
    | succ i=>exact h2 i (by simpa using hi)
   intro h2;refine ⟨?_,λ i hi=>h2 (i+1) (by simpa using hi)⟩;have:0<=k∧k<s.cK.length:=h2 0 (by simp);omega
variable {r:bq}
theorem EP:mR l r=true↔eD l=0∧Rok l r:=by
 unfold mR;cases h:((eD l != 0)||((r.On.length:Int) != l.length))||((r.bC.length:Int) != l.length) with
 | true=>
  simp only [cond_true];constructor
  ·intro h; cases h
  rintro ⟨h1,h2⟩;rw [h1,h2.On,h2.len] at h;simp at h
 | false=>
  simp only [cond_false];have h':eD l=0∧r.On.length=l.length∧r.bC.length=l.length:=by
   simp at h;omega
  rw [ajB h'.2.2];constructor
  ·intro h1;exact ⟨h'.1,h'.2.1,h'.2.2,λ i hi=>by have:=h1 i hi; omega⟩
  intro h1 i hi;have:=h1.2.cK i hi;omega
variable {v:azp}
theorem ajC {p:Int} (h:RY p v=true):∀j,j<v.length->p<v.getD j 0∧1<=v.getD j 0∧v.getD j 0<=5000:=by
 induction v generalizing p with
 | nil=>intro j hj; simp at hj
 | cons a v ih=>
  rw [RY,aei,ahk,aff,ajz,CF] at h;have h1:=of_decide_eq_false h.1.2;intro j hj;cases j with
  | zero=>show p<a∧1<=a∧a<=5000; omega
  | succ j=>
   have:=ih h.2 j (by simpa using hj);show p<v.getD j 0∧1<=v.getD j 0∧v.getD j 0<=5000;omega
theorem Dj {n:Nat} {p:Nat->Bool} (hi:i<n) (h:p i=false):(List.range n).all p=false:=by
 rw [List.all_eq_false];exact ⟨i,by simpa using hi,by simp [h]⟩
theorem Ql {n:Nat} {p:Nat->Bool} (h:∀i,i<n->p i=true):(List.range n).all p=true:=by
 rw [aoI];intro i hi;exact h i (by simpa using hi)
theorem VL (hv:Oe l d) (hr:Rok l r) (i:Nat) (hi:i<l.length):1<=nG l r i∧nG l r i<=5000:=by
 have:=ajC (hv.cK i hi) _ (hr.cK i hi).2.1;unfold nG;omega
theorem Kc (d:α) {a b:List α} (h1:a.length=b.length) (h2:∀j,j<a.length->a.getD j d=b.getD j d):a=b:=by
 apply avo h1;intro j hj hj';have:=h2 j hj;rw [adF,adF,adH hj,adH hj'] at this;exact this
def U4 (d:azy) (i:Nat):Bool:=d.any (λ x=>x.bY==(i:Int))
theorem ado (n:Nat) (d:azy) (hd:∀x∈d,0<=x.bY∧x.bY<n) (j:Nat):(rE n d).getD j false=U4 d j:=by
 unfold rE U4;have key:∀(d:azy) (a:azq),a.length=n->(∀x∈d,0<=x.bY∧x.bY<n)->(d.foldl (λ a x=>a.set x.bY.toNat true) a).getD j false=(a.getD j false||d.any (λ x=>x.bY==(j:Int))):=by
  intro d;induction d with
  | nil=>intro a _ _; simp
  | cons x d ih=>
   intro a ha hd;have hx:=hd x (by simp);rw [atD,ih _ (by simpa using ha) (λ y hy=>hd y (by simp [hy])),gB,aua];by_cases hj:j=x.bY.toNat
   ·have:(x.bY==(j:Int))=true:=by simp; omega
    rw [if_pos ⟨hj,om⟩,this];simp
   have:(x.bY==(j:Int))=false:=by simp; omega
   rw [if_neg (λ h=>hj h.1),this];simp
 rw [key d _ (by simp) hd,zL];simp
structure TF (l:azv) (d:azy) (k:Nat) (b:azq):Prop where
 len:b.length=l.length
 hi:∀j,j<l.length->l.length - k<=j->b.getD j false=(KM (iH l) l.length k (rE l.length d)).getD j false
 lo:∀j,j<l.length - k->(KM (iH l) l.length k (rE l.length d)).getD j false=(b.getD j false||U4 d j)
def VN (l:azv) (d:azy) (i:Nat) (b:azq):azq:=
 bif (b.getD i false||(l.getD i aD).gF||U4 d i)&&decide (0<=(l.getD i aD).aT) then (b.set i (b.getD i false||(l.getD i aD).gF||U4 d i)).set (l.getD i aD).aT.toNat true else b.set i (b.getD i false||(l.getD i aD).gF||U4 d i)
theorem TF.step (hv:Oe l d) {b:azq} (h:TF l d k b) (hk:k<l.length):TF l d (k+1) (VN l d (l.length - 1 - k) b):=by
 obtain ⟨h1,h2,h3⟩:=h;have hup:KM (iH l) l.length (k+1) (rE l.length d)=iH l (l.length - 1 - k) (KM (iH l) l.length k (rE l.length d)):=rfl;have hal:(KM (iH l) l.length k (rE l.length d)).length=l.length:=by rw [wG (nX l),uR]
 generalize KM (iH l) l.length k (rE l.length d)=a at h2 h3 hup hal;have hs:=hv.bY (l.length - 1 - k) om;have hai:=h3 (l.length - 1 - k) om;generalize hi:l.length - 1 - k=i at hup hs hai;have hF:(a.getD i false||(l.getD i aD).gF)=(b.getD i false||(l.getD i aD).gF||U4 d i):=by
  rw [hai];cases b.getD i false<;>cases (l.getD i aD).gF<;>cases U4 d i<;>rfl
 refine ⟨?_,?_,?_⟩
 ·unfold VN;cases (b.getD i false||(l.getD i aD).gF||U4 d i)&&decide (0<=(l.getD i aD).aT)<;>simp [h1]
 all_goals
  rw [hup]
  unfold VN iH
  rw [hF]
  generalize (b.getD i false||(l.getD i aD).gF||U4 d i)=F
  cases hc:F&&decide (0<=(l.getD i aD).aT) with
  | true=>
   simp only [cond_true]
   simp only [aei] at hc
   have hp:=of_decide_eq_true hc.2
   intro j hj
   try intro hj2
   simp only [gB,ahl,h1,hal]
   by_cases hjp:j=(l.getD i aD).aT.toNat∧(l.getD i aD).aT.toNat<l.length
   ·rw [if_pos hjp,if_pos hjp]
    try rfl
   rw [if_neg hjp,if_neg hjp]
   by_cases hji:j=i∧i<l.length
   ·rw [if_pos hji,if_pos hji]
    try omega
   rw [if_neg hji,if_neg hji]
   first | exact h2 j om om | exact h3 j om
  | false=>
   simp only [cond_false]
   intro j hj
   try intro hj2
   simp only [gB,h1,hal]
   by_cases hji:j=i∧i<l.length
   ·rw [if_pos hji,if_pos hji]
    try omega
   rw [if_neg hji,if_neg hji]
   first | exact h2 j om om | exact h3 j om
theorem TF.done {b:azq} (h:TF l d l.length b):b=gQ l d:=by
 refine Kc false (by rw [h.len,EO]) λ j hj=>?_;rw [h.hi j (by rw [<- h.len]; exact hj) om,EA];rfl
theorem TF.start (hv:Oe l d):TF l d 0 (List.replicate l.length false):=by
 refine ⟨by simp,λ j hj h=>by omega,λ j hj=>?_⟩;rw [zL];show (rE l.length d).getD j false=_;rw [ado _ _ (λ x hx=>by have:=hv.drw x hx; omega)];simp
def xY (d:azy) (i:Nat):Int:=d.foldl (λ s x=>bif x.bY==(i:Int) then s+x.Load else s) 0
theorem Xz {j:Nat} (h:j<d.length):xY (d.take (j+1)) i=bif (d.getD j eu).bY==(i:Int) then xY (d.take j) i+(d.getD j eu).Load else xY (d.take j) i:=wP _ _ eu h
theorem Kg (n:Nat) (d:azy) (hd:∀x∈d,0<=x.bY∧x.bY<n) (j:Nat):(AX n d).getD j 0=xY d j:=by
 unfold AX xY;have key:∀(d:azy) (a:azp) (s:Int),a.length=n->(∀x∈d,0<=x.bY∧x.bY<n)->a.getD j 0=s->(d.foldl (λ a x=>a.set x.bY.toNat (a.getD x.bY.toNat 0+x.Load)) a).getD j 0=d.foldl (λ s x=>bif x.bY==(j:Int) then s+x.Load else s) s:=by
  intro d;induction d with
  | nil=>intro a s _ _ h; exact h
  | cons x d ih=>
   intro a s ha hd h;have hx:=hd x (by simp);rw [atD,atD];refine ih _ _ (by simpa using ha) (λ y hy=>hd y (by simp [hy])) ?_;rw [gB];by_cases hj:j=x.bY.toNat
   ·have:(x.bY==(j:Int))=true:=by simp; omega
    rw [if_pos ⟨hj,om⟩,this,<- hj,h];rfl
   have:(x.bY==(j:Int))=false:=by simp; omega
   rw [if_neg (λ h=>hj h.1),this];exact h
 exact key d _ 0 (by simp) hd (zL _ _ _)
theorem VO (hd:∀x∈d,0<=x.Load∧x.Load<=10000) (i j:Nat) (hj:j<=d.length):0<=xY (d.take j) i∧xY (d.take j) i<=10000*j:=by
 induction j with
 | zero=>rw [axa]; exact ⟨apw _,apw _⟩
 | succ j ih=>
  have:=ih om;have h2:=hd _ (jq eu hj);rw [Xz hj];cases (d.getD j eu).bY==(i:Int) with
  | true=>simp only [cond_true]; omega
  | false=>simp only [cond_false]; omega
structure Nr (l:azv) (d:azy) (k:Nat) (b:azp):Prop where
 len:b.length=l.length
 pos:∀j,0<=b.getD j 0
 hi:∀j,j<l.length->l.length - k<=j->b.getD j 0=(KM (iO l) l.length k (AX l.length d)).getD j 0
 lo:∀j,j<l.length - k->(KM (iO l) l.length k (AX l.length d)).getD j 0=b.getD j 0+xY d j
def Rv (l:azv) (d:azy) (i:Nat) (b:azp):azp:=
 bif decide (0<=(l.getD i aD).aT) then (b.set i (b.getD i 0+xY d i)).set (l.getD i aD).aT.toNat (b.getD (l.getD i aD).aT.toNat 0+(b.getD i 0+xY d i)) else b.set i (b.getD i 0+xY d i)
variable {b:azp}
theorem Nr.step (hv:Oe l d) (h:Nr l d k b) (hk:k<l.length):Nr l d (k+1) (Rv l d (l.length - 1 - k) b):=by
 obtain ⟨h1,h0,h2,h3⟩:=h;have hdp:∀i,0<=xY d i:=λ i=>by
  have:=(VO (d:=d) (λ x hx=>by have:=hv.drw x hx; omega) i d.length (afg _)).1;rwa [alj] at this
 have hup:KM (iO l) l.length (k+1) (AX l.length d)=iO l (l.length - 1 - k) (KM (iO l) l.length k (AX l.length d)):=rfl;have hal:(KM (iO l) l.length k (AX l.length d)).length=l.length:=by rw [wG (uS l),zM]
 generalize KM (iO l) l.length k (AX l.length d)=a at h2 h3 hup hal;have hs:=hv.bY (l.length - 1 - k) om;have hai:=h3 (l.length - 1 - k) om;generalize hi:l.length - 1 - k=i at hup hs hai;have hb0:=h0 i;have hd0:=hdp i;refine ⟨?_,?_,?_,?_⟩
 ·unfold Rv;cases decide (0<=(l.getD i aD).aT)<;>simp [h1]
 ·intro j;have hb1:=h0 j;have hb2:=h0 (l.getD i aD).aT.toNat;unfold Rv;cases decide (0<=(l.getD i aD).aT)<;>simp only [cond_true,cond_false,gB]<;>repeat' split
  all_goals omega
 all_goals
  rw [hup]
  unfold Rv iO
  cases hc:decide (0<=(l.getD i aD).aT) with
  | true=>
   simp only [cond_true]
   have hp:=of_decide_eq_true hc
   intro j hj
   try intro hj2
   simp only [gB,ahl,h1,hal]
   have hap:=h3 (l.getD i aD).aT.toNat om
   by_cases hjp:j=(l.getD i aD).aT.toNat∧(l.getD i aD).aT.toNat<l.length
   ·rw [if_pos hjp,if_pos hjp]
    try rw [hjp.1]
    omega
   rw [if_neg hjp,if_neg hjp]
   by_cases hji:j=i∧i<l.length
   ·rw [if_pos hji,hji.1]
    omega
   rw [if_neg hji]
   first | exact h2 j om om | exact h3 j om
  | false=>
   simp only [cond_false]
   intro j hj
   try intro hj2
   simp only [gB,h1]
   by_cases hji:j=i∧i<l.length
   ·rw [if_pos hji,hji.1]
    omega
   rw [if_neg hji]
   first | exact h2 j om om | exact h3 j om
theorem Nr.done (h:Nr l d l.length b):b=lZ l d:=by
 refine Kc 0 (by rw [h.len,Uv]) λ j hj=>?_;rw [h.hi j (by rw [<- h.len]; exact hj) om,EA];rfl
theorem Nr.start (hv:Oe l d):Nr l d 0 (List.replicate l.length 0):=by
 refine ⟨by simp,λ j=>by rw [zL]; omega,λ j hj h=>by omega,λ j hj=>?_⟩;rw [zL];show (AX l.length d).getD j 0=_;rw [Kg _ _ (λ x hx=>by have:=hv.drw x hx; omega)];simp
theorem Nr.small (hv:Oe l d) (h:Nr l d k b) (hk:k<=l.length) (j:Nat):0<=b.getD j 0∧b.getD j 0<=100000000000:=by
 have h1:=Lr hv k hk j;refine ⟨h.pos j,?_⟩;have hd:=(VO (d:=d) (λ x hx=>by have:=hv.drw x hx; omega) j d.length (afg _)).1;rw [alj] at hd;by_cases h2:j<l.length - k
 ·have:=h.lo j h2; omega
 by_cases h3:j<l.length
 ·have:=h.hi j h3 om; omega
 rw [OB 0 (by rw [h.len]; omega)]; omega
def lvN:azp->Int->Nat
 | [],_=>0
 | x::t,v=>bif decide (v<=x) then 0 else lvN t v+1
theorem asc (v:Int) (l:azp):lvN l v<=l.length:=by
 induction l with
 | nil=>exact afg _
 | cons x l ih=>
  rw [lvN];cases decide (v<=x)<;>simp<;>omega
theorem anq {v:Int} {l:azp}:∀j,j<lvN l v->l.getD j 0<v:=by
 induction l with
 | nil=>intro j hj; simp [lvN] at hj
 | cons x l ih=>
  rw [lvN];cases h:decide (v<=x) with
  | true=>intro j hj; simp at hj
  | false=>
   have:=of_decide_eq_false h;intro j hj;cases j with
   | zero=>show x<v; omega
   | succ j=>exact ih j (by simpa using hj)
theorem ait {v:Int} {l:azp} (h:lvN l v<l.length):v<=l.getD (lvN l v) 0:=by
 induction l with
 | nil=>simp at h
 | cons x l ih=>
  rw [lvN] at h ⊢;cases hd:decide (v<=x) with
  | true=>exact of_decide_eq_true hd
  | false=>
   rw [hd] at h;exact ih (by simpa using h)
theorem anr {v:Int} {l:azp} (h0:k<=l.length) (h1:∀j,j<k->l.getD j 0<v) (h2:k<l.length->v<=l.getD k 0):k=lvN l v:=by
 have h3:=asc v l;rcases auI k (lvN l v) with h | h | h
 ·have:=anq k h;have:=h2 om;omega
 ·exact h
 have:=ait (v:=v) (l:=l) om;have:=h1 _ h;omega
theorem ase {p:Int} (h:RY p v=true):∀i j,i<j->j<v.length->v.getD i 0<v.getD j 0:=by
 induction v generalizing p with
 | nil=>intro i j _ hj; simp at hj
 | cons a v ih=>
  rw [RY,aei] at h;intro i j hij hj;cases j with
  | zero=>omega
  | succ j=>
   cases i with
   | zero=>exact (ajC h.2 j (by simpa using hj)).1
   | succ i=>exact ih h.2 i j om (by simpa using hj)
structure DS where
 a:List Dem
 lv:azp
def Az (n:Nat) (d:azy):Nat->List Dem
 | 0=>List.replicate n ⟨0,-1,-1⟩
 | i+1=>bif decide (((Az n d i).getD (d.getD i eu).bY.toNat RX).Ah<(d.getD i eu).lC) then (Az n d i).set (d.getD i eu).bY.toNat ⟨(d.getD i eu).lC,i,-1⟩ else Az n d i
def AY (l:azv) (i:Nat) (s:DS):Nat:=lvN (l.getD i aD).cK (s.a.getD i RX).Ah
def oG (l:azv) (i:Nat) (s:DS):Int:=(l.getD i aD).cK.getD (AY l i s) 0+(l.getD i aD).iw
def Ls (l:azv) (u:azq) (i:Nat) (s:DS):DS:=
 bif !u.getD i false then s
 else ⟨bif decide (0<=(l.getD i aD).aT)&&decide ((s.a.getD (l.getD i aD).aT.toNat RX).Ah<oG l i s) then s.a.set (l.getD i aD).aT.toNat ⟨oG l i s,-1,i⟩ else s.a,s.lv.set i (AY l i s)⟩
def FR (l:azv) (u:azq) (i:Nat) (s:DS):Bool:=u.getD i false&&!decide ((AY l i s:Int)<(l.getD i aD).cK.length)
def abk (l:azv) (u:azq):Nat->DS->DS×Int
 | 0,s=>(s,-1)
 | k+1,s=>bif FR l u k s then (s,k) else abk l u k (Ls l u k s)
def ds0 (l:azv) (d:azy):DS:=⟨Az l.length d d.length,List.replicate l.length 0⟩
def Uw (l:azv) (d:azy):DS×Int:=abk l (gQ l d) l.length (ds0 l d)
theorem XA (n:Nat) (d:azy) (i:Nat):(Az n d i).length=n:=by
 induction i with
 | zero=>simp [Az]
 | succ i ih=>
  rw [Az];cases decide (((Az n d i).getD (d.getD i eu).bY.toNat RX).Ah<(d.getD i eu).lC)<;>simp [ih]
structure DOk (l:azv) (s:DS):Prop where
 al:s.a.length=l.length
 ll:s.lv.length=l.length
variable {u:azq} {s:DS}
theorem apD (h:DOk l s):DOk l (Ls l u i s):=by
 unfold Ls;cases u.getD i false with
 | false=>exact h
 | true=>
  refine ⟨?_,by simp [h.ll]⟩;simp only [as0,cond_false];cases decide (0<=(l.getD i aD).aT)&&decide ((s.a.getD (l.getD i aD).aT.toNat RX).Ah<oG l i s)<;>simp [h.al]
theorem asf (l:azv) (d:azy):DOk l (ds0 l d):=⟨XA _ _ _,by simp [ds0]⟩
def qH (l:azv) (d:azy):bq×Int:=
 bif zJ l d != 0 then (IB,zJ l d)
 else bif decide (0<=(Uw l d).2)||!fH l ⟨gQ l d,(Uw l d).1.lv⟩ d then (IB,9) else (⟨gQ l d,(Uw l d).1.lv⟩,0)
def apE (l:azv) (s:DS):Prop:=∀j,j<l.length->0<=s.lv.getD j 0∧s.lv.getD j 0<(l.getD j aD).cK.length
def lvK (l:azv) (k v:Int):Nat:=lvN (l.getD k.toNat aD).cK v
def okK (l:azv) (k v:Int):Bool:=decide (lvK l k v<(l.getD k.toNat aD).cK.length)
def voK (l:azv) (k v:Int):Int:=(l.getD k.toNat aD).cK.getD (lvK l k v) 0
def rwN (l:azv) (d:azy) (last:Int):azp->Int->Bool
 | [],_=>false
 | k::t,v=>bif !t.isEmpty then (bif !okK l k v then false else rwN l d last t (voK l k v+(l.getD k.toNat aD).iw))
  else bif !okK l k v||decide (last<0) then !okK l k v&&decide (last<0)
  else ((d.getD last.toNat eu).bY==k)&&decide ((d.getD last.toNat eu).fI<voK l k v)
abbrev zO (l:azv) (i:Nat):av:=l.getD i aD
abbrev FT (a:azq) (i:Nat):Bool:=a.getD i false
abbrev KN (a:azp) (i:Nat):Int:=a.getD i 0
theorem aeK {a:azq} (hi:i<a.length) (hp:(zO l i).aT<i) (j:Nat):
  FT (iH l i a) j=true↔FT a j=true∨(j=i∧(zO l i).gF=true)∨((zO l i).aT=j∧(FT a i=true∨(zO l i).gF=true)):=by
 unfold iH FT zO at *;generalize l.getD i aD=s at *;cases hx:(a.getD i false||s.gF) with
 | false=>
  simp only [Bool.false_and,cond_false];simp only [aff] at hx;rw [gB,hx.1,hx.2];by_cases hj:j=i
  ·subst hj; rw [if_pos ⟨rfl,hi⟩,hx.1]; simp
  rw [if_neg (λ h=>hj h.1)]; simp [hj]
 | true=>
  have hx':a.getD i false=true∨s.gF=true:=by simpa using hx
  by_cases hp0:0<=s.aT
  ·simp only [aq0,decide_eq_true hp0,cond_true];rw [gB,gB,ahl];by_cases hj:j=s.aT.toNat
   ·have:j<a.length:=by omega
    rw [if_pos ⟨hj,om⟩];simp only [true_iff];exact .inr (.inr ⟨om,hx'⟩)
   rw [if_neg (λ h=>hj h.1)];have hj':¬ s.aT=j:=by omega
   by_cases hji:j=i
   ·subst hji; rw [if_pos ⟨rfl,hi⟩]; simp only [true_iff,true_and]; exact hx'.elim .inl (λ h=>.inr (.inl h))
   rw [if_neg (λ h=>hji h.1)]; simp only [hji,hj',false_and,or_false]
  simp only [aq0,decide_eq_false hp0,cond_false];rw [gB];have hj':¬ s.aT=j:=by omega
  by_cases hji:j=i
  ·subst hji; rw [if_pos ⟨rfl,hi⟩]; simp only [true_iff,true_and]; exact hx'.elim .inl (λ h=>.inr (.inl h))
  rw [if_neg (λ h=>hji h.1)]; simp only [hji,hj',false_and,or_false]
theorem apF (hv:Oe l d):∀k,k<=l.length->∀j:Nat,
  FT (KM (iH l) l.length k (rE l.length d)) j=true↔U4 d j=true∨(l.length - k<=j∧j<l.length∧(zO l j).gF=true)∨∃c,l.length - k<=c∧c<l.length∧(zO l c).aT=j∧FT (KM (iH l) l.length k (rE l.length d)) c=true:=by
 intro k;induction k with
 | zero=>
  intro _ j;show (rE l.length d).getD j false=true↔_;rw [ado _ _ (λ x hx=>by have:=hv.drw x hx; omega)];constructor
  ·exact .inl
  rintro (h | h | ⟨c,h⟩)
  ·exact h
  ·omega
  omega
 | succ k ih=>
  intro hk j;have ih:=ih om;have hup:KM (iH l) l.length (k+1) (rE l.length d)=iH l (l.length - 1 - k) (KM (iH l) l.length k (rE l.length d)):=rfl;have hal:(KM (iH l) l.length k (rE l.length d)).length=l.length:=by rw [wG (nX l),uR]
  have hs:=hv.bY (l.length - 1 - k) om;rw [hup];generalize KM (iH l) l.length k (rE l.length d)=a at ih hal;generalize hi:l.length - 1 - k=i at hs;have get:=aeK (l:=l) (a:=a) (i:=i) om (by unfold zO; omega);have hne:¬ (zO l i).aT=(i:Int):=by unfold zO; omega
  have hgt:∀c,i<c->(FT (iH l i a) c=true↔FT a c=true):=λ c hc=>by
   rw [get c];constructor
   ·rintro (h | h | h)
    ·exact h
    ·omega
    have:(zO l i).aT=(c:Int):=h.1;unfold zO at this;omega
   exact .inl
  constructor
  ·intro h;rcases (get j).1 h with h | h | h
   ·rcases (ih j).1 h with h | h | ⟨c,h1,h2,h3,h4⟩
    ·exact .inl h
    ·exact .inr (.inl ⟨om,h.2⟩)
    exact .inr (.inr ⟨c,om,h2,h3,(hgt c om).2 h4⟩)
   ·rw [h.1];exact .inr (.inl ⟨om,om,h.2⟩)
   refine .inr (.inr ⟨i,om,om,h.1,(get i).2 ?_⟩);rcases h.2 with h | h
   ·exact .inl h
   exact .inr (.inl ⟨rfl,h⟩)
  rintro (h | ⟨h1,h2,h3⟩ | ⟨c,h1,h2,h3,h4⟩)
  ·exact (get j).2 (.inl ((ih j).2 (.inl h)))
  ·by_cases hji:j=i
   ·subst hji; exact (get j).2 (.inr (.inl ⟨rfl,h3⟩))
   exact (get j).2 (.inl ((ih j).2 (.inr (.inl ⟨om,h2,h3⟩))))
  by_cases hci:c=i
  ·subst hci;refine (get j).2 (.inr (.inr ⟨h3,?_⟩));rcases (get c).1 h4 with h | h | h
   ·exact .inl h
   ·exact .inr h.2
   exact absurd h.1 hne
  exact (get j).2 (.inl ((ih j).2 (.inr (.inr ⟨c,om,h2,h3,(hgt c om).1 h4⟩))))
theorem VP (hv:Oe l d) (j:Nat):
  FT (gQ l d) j=true↔U4 d j=true∨(j<l.length∧(zO l j).gF=true)∨∃c,c<l.length∧(zO l c).aT=j∧FT (gQ l d) c=true:=by
 have:=apF hv l.length (afg _) j;rw [EA] at this;unfold gQ;rw [this];constructor
 ·rintro (h | h | ⟨c,h⟩)
  ·exact .inl h
  ·exact .inr (.inl h.2)
  exact .inr (.inr ⟨c,h.2⟩)
 rintro (h | h | ⟨c,h⟩)
 ·exact .inl h
 ·exact .inr (.inl ⟨om,h⟩)
 exact .inr (.inr ⟨c,om,h⟩)
theorem sJ {j:Nat} (h:FT (gQ l d) j=true):j<l.length:=by
 rcases aoG j l.length with h1 | h1
 ·exact h1
 unfold FT at h;rw [OB false (by rw [EO]; exact h1)] at h;cases h
theorem akN {d':azy} (hv:Oe l d) (hv':Oe l d') (h:∀j,U4 d j=true->U4 d' j=true):∀j,FT (gQ l d) j=true->FT (gQ l d') j=true:=by
 have key:∀m j,l.length - j<=m->FT (gQ l d) j=true->FT (gQ l d') j=true:=by
  intro m;induction m with
  | zero=>intro j hm hj; have:=sJ hj; omega
  | succ m ih=>
   intro j hm hj;rw [VP hv] at hj;rw [VP hv'];rcases hj with hj | hj | ⟨c,h1,h2,h3⟩
   ·exact .inl (h j hj)
   ·exact .inr (.inl hj)
   have:=(hv.bY c h1).2.1;unfold zO at h2;exact .inr (.inr ⟨c,h1,h2,ih c om h3⟩)
 intro j;exact key _ j (afg _)
theorem agE (hv:Oe l d) {c:Nat} (h:FT (gQ l d) c=true) (hp:0<=(zO l c).aT):FT (gQ l d) (zO l c).aT.toNat=true:=by
 rw [VP hv];exact .inr (.inr ⟨c,sJ h,om,h⟩)
theorem adp (hv:Oe l d) {x:bL} (h:x∈d):FT (gQ l d) x.bY.toNat=true:=by
 rw [VP hv];refine .inl ?_;unfold U4;rw [aoH];have:=hv.drw x h;refine ⟨x,h,?_⟩;rw [beq_iff_eq];omega
def at6 (x:bL) (i:Nat):Int:=bif x.bY==(i:Int) then x.Load else 0
theorem xR (x:bL) (d:azy) (i:Nat):xY (x::d) i=at6 x i+xY d i:=by
 have key:∀(d:azy) (s:Int),d.foldl (λ s x=>bif x.bY==(i:Int) then s+x.Load else s) s=s+xY d i:=by
  intro d;induction d with
  | nil=>intro s; show s=s+0; omega
  | cons y d ih=>
   intro s;unfold xY;rw [atD,atD,ih,ih];cases y.bY==(i:Int)<;>simp<;>omega
 show d.foldl _ _=_;rw [key];unfold at6;cases hb:x.bY==(i:Int)<;>simp [hb]
theorem ant (a b:azy) (i:Nat):xY (a++b) i=xY a i+xY b i:=by
 induction a with
 | nil=>show xY b i=0+xY b i; omega
 | cons x a ih=>rw [apW,xR,xR,ih]; omega
theorem akO {a b:azy} (h:a.Perm b) (i:Nat):xY a i=xY b i:=by
 induction h with
 | nil=>rfl
 | cons x _ ih=>rw [xR,xR,ih]
 | swap x y l=>rw [xR,xR,xR,xR]; omega
 | trans _ _ h1 h2=>exact h1.trans h2
theorem Lu (hi:i<a.length) (hp:(zO l i).aT<i) (j:Nat):
  KN (iO l i a) j=KN a j+(if (zO l i).aT=j then KN a i else 0):=by
 unfold iO KN zO at *;generalize l.getD i aD=s at *;by_cases hp0:0<=s.aT
 ·rw [decide_eq_true hp0,cond_true,gB];by_cases hj:j=s.aT.toNat
  ·have e:s.aT=(j:Int):=by omega
   rw [if_pos ⟨hj,om⟩,if_pos e,hj]
  have e:¬ s.aT=(j:Int):=by omega
  rw [if_neg (λ h=>hj h.1),if_neg e];omega
 have e:¬ s.aT=(j:Int):=by omega
 rw [decide_eq_false hp0,cond_false,if_neg e];omega
theorem anu (hv:Oe l d) {c:azp} (ha:a.length=l.length) (hb:b.length=l.length) (hc:c.length=l.length) (h:∀j,KN c j=KN a j+KN b j):∀k,k<=l.length->∀j,KN (KM (iO l) l.length k c) j=KN (KM (iO l) l.length k a) j+KN (KM (iO l) l.length k b) j:=by
 intro k;induction k with
 | zero=>intro _; exact h
 | succ k ih=>
  intro hk j;have ih:=ih om;have hs:=(hv.bY (l.length - 1 - k) om).2.1;rw [KM,KM,KM,Lu (by rw [wG (uS l)]; omega) hs,Lu (by rw [wG (uS l)]; omega) hs,Lu (by rw [wG (uS l)]; omega) hs,ih j,ih (l.length - 1 - k)];split<;>omega
theorem Rw (hv:Oe l d):∀x∈d,0<=x.bY∧x.bY<l.length:=λ x hx=>by have:=hv.drw x hx; omega
theorem akP {a b:azy} (ha:Oe l a) (hb:Oe l b) (hab:∀x∈a++b,0<=x.bY∧x.bY<l.length) (j:Nat):KN (lZ l (a++b)) j=KN (lZ l a) j+KN (lZ l b) j:=by
 have:=anu ha (zM l.length a) (zM l.length b) (zM l.length (a++b)) (λ j=>by
  unfold KN;rw [Kg _ _ hab,Kg _ _ (Rw ha),Kg _ _ (Rw hb),ant]) l.length (afg _) j
 rw [EA,EA,EA] at this;exact this
theorem aiu {a b:azy} (ha:Oe l a) (hb:Oe l b) (h:∀j,xY a j=xY b j):lZ l a=lZ l b:=by
 unfold lZ;rw [show AX l.length a=AX l.length b from Kc 0 (by rw [zM,zM]) λ j _=>by rw [Kg _ _ (Rw ha),Kg _ _ (Rw hb),h j]]
theorem aeL (hv:Oe l d) (j:Nat):0<=KN (lZ l d) j∧KN (lZ l d) j<=100000000000:=by
 have:=Lr hv l.length (afg _);rw [EA] at this;exact this j
abbrev Ux (a:List Dem) (i:Nat):Dem:=a.getD i RX
abbrev xAt (d:azy) (i:Nat):bL:=d.getD i eu
structure DI (n:Nat) (d:azy) (i:Nat) (a:List Dem):Prop where
 len:a.length=n
 just:∀j,j<n->Ux a j=⟨0,-1,-1⟩∨∃q,q<i∧(xAt d q).bY=j∧Ux a j=⟨(xAt d q).lC,q,-1⟩
 lC:∀q,q<i->(xAt d q).lC<=(Ux a (xAt d q).bY.toNat).Ah
theorem anv {n:Nat} (hd:∀x∈d,0<=x.bY∧x.bY<n):∀i,i<=d.length->DI n d i (Az n d i):=by
 intro i;induction i with
 | zero=>
  intro _;refine ⟨XA _ _ _,λ j hj=>.inl ?_,λ q hq=>by omega⟩;show (List.replicate n (⟨0,-1,-1⟩:Dem)).getD j RX=_;rw [adF,auV,if_pos hj];rfl
 | succ i ih=>
  intro hi;obtain ⟨h1,h2,h3⟩:=ih om;have hx:=hd _ (jq eu (show i<d.length by omega));rw [Az];generalize Az n d i=a at h1 h2 h3;by_cases hb:(Ux a (xAt d i).bY.toNat).Ah<(xAt d i).lC
  ·rw [show decide ((a.getD (d.getD i eu).bY.toNat RX).Ah<(d.getD i eu).lC)=true from decide_eq_true hb,cond_true];refine ⟨by rw [ahl,h1],λ j hj=>?_,λ q hq=>?_⟩
   ·unfold Ux;rw [gB];split
    ·rename_i h; exact .inr ⟨i,om,by unfold xAt; omega,rfl⟩
    rcases h2 j hj with h | ⟨q,h4,h5⟩
    ·exact .inl h
    exact .inr ⟨q,om,h5⟩
   unfold Ux;rw [gB];by_cases hqi:q=i
   ·subst hqi;rw [if_pos ⟨rfl,om⟩];exact apw _
   have h4:=h3 q om;split
   ·rename_i h;unfold Ux at h4 hb;show (xAt d q).lC<=(xAt d i).lC;rw [h.1] at h4;unfold xAt at *;omega
   exact h4
  rw [show decide ((a.getD (d.getD i eu).bY.toNat RX).Ah<(d.getD i eu).lC)=false from decide_eq_false hb,cond_false];refine ⟨h1,λ j hj=>?_,λ q hq=>?_⟩
  ·rcases h2 j hj with h | ⟨q,h4,h5⟩
   ·exact .inl h
   exact .inr ⟨q,om,h5⟩
  by_cases hqi:q=i
  ·subst hqi; omega
  exact h3 q om
structure Dm (l:azv) (d:azy) (u:azq) (k:Nat) (s:DS):Prop where
 al:s.a.length=l.length
 ll:s.lv.length=l.length
 just:∀j,j<l.length->Ux s.a j=⟨0,-1,-1⟩∨(∃q,q<d.length∧(xAt d q).bY=j∧Ux s.a j=⟨(xAt d q).lC,q,-1⟩)∨
  ∃c:Nat,k<=c∧c<l.length∧FT u c=true∧(zO l c).aT=j∧AY l c s<(zO l c).cK.length∧Ux s.a j=⟨oG l c s,-1,c⟩
 lC:∀q,q<d.length->(xAt d q).lC<=(Ux s.a (xAt d q).bY.toNat).Ah
 up:∀c,k<=c->c<l.length->FT u c=true->0<=(zO l c).aT->oG l c s<=(Ux s.a (zO l c).aT.toNat).Ah
 ok:∀c,k<=c->c<l.length->FT u c=true->AY l c s<(zO l c).cK.length∧KN s.lv c=AY l c s
 zero:∀c,c<l.length->c<k∨FT u c=false->KN s.lv c=0
theorem asg (hv:Oe l d) (u:azq):Dm l d u l.length (ds0 l d):=by
 obtain ⟨h1,h2,h3⟩:=anv (Rw hv) d.length (afg _);refine ⟨h1,by simp [ds0],λ j hj=>?_,h3,λ c hc hc'=>by omega,λ c hc hc'=>by omega,λ c hc _=>zL _ _ _⟩;rcases h2 j hj with h | h
 ·exact .inl h
 exact .inr (.inl h)
theorem apG (hv:Oe l d) (hk:k<l.length) (h:Dm l d u (k+1) s) (hf:FR l u k s=false):Dm l d u k (Ls l u k s):=by
 obtain ⟨al,ll,just,low,up,ok,zero⟩:=h;have hs:=(hv.bY k hk);unfold Ls;cases hu:u.getD k false with
 | false=>
  simp only [Bool.not_false,cond_true];have hne:∀c,k<=c->FT u c=true->k+1<=c:=λ c h1 h2=>by
   rcases aw8 h1 with h | h
   ·subst h; unfold FT at h2; rw [hu] at h2; cases h2
   exact h
  refine ⟨al,ll,λ j hj=>?_,low,λ c h1 h2 h3=>up c (hne c h1 h3) h2 h3,λ c h1 h2 h3=>ok c (hne c h1 h3) h2 h3,λ c h1 h2=>zero c h1 ?_⟩
  ·rcases just j hj with h | h | ⟨c,h1,h2⟩
   ·exact .inl h
   ·exact .inr (.inl h)
   exact .inr (.inr ⟨c,om,h2⟩)
  rcases h2 with h2 | h2
  ·exact .inl om
  exact .inr h2
 | true=>
  unfold FR at hf;rw [hu,aq0,ajz] at hf;have hf:=of_decide_eq_true hf;simp only [as0,cond_false];generalize hA:(bif decide (0<=(l.getD k aD).aT)&&decide ((s.a.getD (l.getD k aD).aT.toNat RX).Ah<oG l k s) then s.a.set (l.getD k aD).aT.toNat ⟨oG l k s,-1,k⟩ else s.a)=A;have hAl:A.length=l.length:=by
   rw [<- hA];cases decide (0<=(l.getD k aD).aT)&&decide ((s.a.getD (l.getD k aD).aT.toNat RX).Ah<oG l k s)<;>simp [al]
  have hget:∀j,Ux A j=Ux s.a j∧((zO l k).aT=(j:Int)->oG l k s<=(Ux s.a j).Ah)∨(zO l k).aT=(j:Int)∧(Ux s.a j).Ah<oG l k s∧Ux A j=⟨oG l k s,-1,k⟩:=by
   intro j;rw [<- hA];by_cases hp:0<=(l.getD k aD).aT
   ·by_cases hn:(s.a.getD (l.getD k aD).aT.toNat RX).Ah<oG l k s
    ·rw [decide_eq_true hp,decide_eq_true hn];simp only [Bool.and_self,cond_true];unfold Ux;rw [gB];by_cases hj:j=(l.getD k aD).aT.toNat
     ·rw [if_pos ⟨hj,om⟩];refine .inr ⟨by unfold zO; omega,by rw [hj]; exact hn,rfl⟩
     rw [if_neg (λ h=>hj h.1)];exact .inl ⟨rfl,λ h=>by unfold zO at h; omega⟩
    rw [decide_eq_true hp,decide_eq_false hn];refine .inl ⟨rfl,λ h=>?_⟩;have:j=(l.getD k aD).aT.toNat:=by unfold zO at h; omega
    rw [this];exact atQ.1 hn
   rw [decide_eq_false hp];refine .inl ⟨rfl,λ h=>by unfold zO at h; omega⟩
  have hge:∀j,(Ux s.a j).Ah<=(Ux A j).Ah:=λ j=>by
   rcases hget j with h | h
   ·rw [h.1]; exact apw _
   rw [h.2.2]; exact Int.le_of_lt h.2.1
  have hsame:∀c,k<=c->Ux A c=Ux s.a c:=λ c hc=>by
   rcases hget c with h | h
   ·exact h.1
   have:=h.1; unfold zO at this; omega
  have hlv:∀c,k<=c->∀x,AY l c ⟨A,x⟩=AY l c s:=λ c hc x=>by
   have:=hsame c hc;unfold AY;unfold Ux at this;simp only [this]
  have hnd:∀c,k<=c->∀x,oG l c ⟨A,x⟩=oG l c s:=λ c hc x=>by
   unfold oG;rw [hlv c hc]
  refine ⟨hAl,by simp [ll],λ j hj=>?_,λ q hq=>aoJ (low q hq) (hge _),λ c h1 h2 h3 h4=>?_,λ c h1 h2 h3=>?_,λ c h1 h2=>?_⟩
  ·show Ux A j=_∨_;rcases hget j with h | h
   ·show Ux A j=_∨(∃q,q<d.length∧(xAt d q).bY=j∧Ux A j=_)∨∃c:Nat,_∧_∧_∧_∧_∧Ux A j=_;rw [h.1];rcases just j hj with h | h | ⟨c,h1,h2,h3,h4,h5,h6⟩
    ·exact .inl h
    ·exact .inr (.inl h)
    refine .inr (.inr ⟨c,om,h2,h3,h4,?_,?_⟩)
    ·rw [hlv c om]; exact h5
    rw [hnd c om]; exact h6
   refine .inr (.inr ⟨k,afg _,hk,hu,h.1,?_,?_⟩)
   ·rw [hlv k (afg _)]; unfold zO; omega
   rw [hnd k (afg _)]; exact h.2.2
  ·show oG l c _<=(Ux A (zO l c).aT.toNat).Ah;rw [hnd c h1];rcases aw8 h1 with h | h
   ·subst h;rcases hget (zO l k).aT.toNat with h | h
    ·rw [h.1]; exact h.2 om
    rw [h.2.2]; exact apw _
   exact aoJ (up c h h2 h3 h4) (hge _)
  ·rw [hlv c h1];show _∧KN (s.lv.set k (AY l k s)) c=_;unfold KN;rw [gB];rcases aw8 h1 with h | h
   ·subst h;rw [if_pos ⟨rfl,om⟩];exact ⟨by unfold zO; omega,rfl⟩
   rw [if_neg om];exact ok c h h2 h3
  show KN (s.lv.set k (AY l k s)) c=0;unfold KN;rw [gB];have hck:c≠k:=λ h=>by
   rcases h2 with h2 | h2
   ·omega
   subst h; unfold FT at h2; rw [hu] at h2; cases h2
  rw [if_neg (λ h=>hck h.1)];refine zero c h1 ?_;rcases h2 with h2 | h2
  ·exact .inl om
  exact .inr h2
theorem apH (hv:Oe l d):∀(k:Nat) (s:DS),k<=l.length->Dm l d u k s->
  ((abk l u k s).2 = -1∧Dm l d u 0 (abk l u k s).1)∨∃q:Nat,(abk l u k s).2=q∧q<k∧Dm l d u (q+1) (abk l u k s).1∧FR l u q (abk l u k s).1=true:=by
 intro k;induction k with
 | zero=>intro s _ h; exact .inl ⟨rfl,h⟩
 | succ k ih=>
  intro s hk h;rw [abk];cases hf:FR l u k s with
  | true=>exact .inr ⟨k,rfl,om,h,hf⟩
  | false=>
   simp only [cond_false];rcases ih _ om (apG hv om h hf) with h | ⟨q,h1,h2,h3⟩
   ·exact .inl h
   exact .inr ⟨q,h1,om,h3⟩
theorem apI (hv:Oe l d):((Uw l d).2 = -1∧Dm l d (gQ l d) 0 (Uw l d).1)∨∃q:Nat,(Uw l d).2=q∧q<l.length∧Dm l d (gQ l d) (q+1) (Uw l d).1∧FR l (gQ l d) q (Uw l d).1=true:=
 apH hv _ _ (afg _) (asg hv _)
structure Mt (l:azv) (r:bq) (d:azy):Prop where
 used:∀i,FT (gQ l d) i=true->FT r.On i=true
 aT:∀i,i<l.length->FT r.On i=true->0<=(zO l i).aT->FT r.On (zO l i).aT.toNat=true∧nG l r i+(zO l i).iw<=nG l r (zO l i).aT.toNat
 iG:∀i,i<l.length->FT r.On i=true->KN (lZ l d) i<=(zO l i).iG
 drw:∀x∈d,x.lC<=nG l r x.bY.toNat∧nG l r x.bY.toNat<=x.fI
theorem aiv:zN l r d=true↔Mt l r d:=by
 unfold zN;rw [aei,aoI,ahk,aml];have hb:∀i,(!Qk l r (gQ l d) (lZ l d) i)=true↔(FT r.On i=false->FT (gQ l d) i=false)∧(FT r.On i=true->(0<=(zO l i).aT->FT r.On (zO l i).aT.toNat=true∧nG l r i+(zO l i).iw<=nG l r (zO l i).aT.toNat)∧KN (lZ l d) i<=(zO l i).iG):=by
  intro i;unfold Qk FT zO KN;cases hon:r.On.getD i false with
  | false=>simp
  | true=>
   simp only [as0,cond_false,ahk,aff,als,decide_eq_false_iff_not,atQ,ajz];constructor
   ·rintro ⟨h1,h2⟩;refine ⟨nofun,λ _=>⟨λ hp=>?_,h2⟩⟩;rcases h1 with h1 | h1
    ·exact absurd hp h1
    exact h1
   rintro ⟨_,h⟩;obtain ⟨h1,h2⟩:=h (by trivial);refine ⟨?_,h2⟩;by_cases hp:0<=(l.getD i aD).aT
   ·exact .inr (h1 hp)
   exact .inl hp
 have hd:∀x,¬ abj l r x=true↔x.lC<=nG l r x.bY.toNat∧nG l r x.bY.toNat<=x.fI:=by
  intro x;unfold abj;rw [aqM,ajz,CF]
 constructor
 ·rintro ⟨h1,h2⟩;have h1:∀i,i<l.length->_:=λ i hi=>(hb i).1 (h1 i (ara.2 hi));refine ⟨λ i hi=>?_,λ i hi ho=>((h1 i hi).2 ho).1,λ i hi ho=>((h1 i hi).2 ho).2,λ x hx=>(hd x).1 (h2 x hx)⟩;have hlt:=sJ hi;cases ho:FT r.On i with
  | true=>rfl
  | false=>rw [(h1 i hlt).1 ho] at hi; cases hi
 rintro ⟨h1,h2,h3,h4⟩;refine ⟨λ i hi=>(hb i).2 ⟨λ ho=>?_,λ ho=>⟨h2 i (ara.1 hi) ho,h3 i (ara.1 hi) ho⟩⟩,λ x hx=>(hd x).2 (h4 x hx)⟩;cases hu:FT (gQ l d) i with
 | false=>rfl
 | true=>rw [h1 i hu] at ho; cases ho
theorem Qm (h:iN l d=true):eD l=0:=by
 unfold iN at h;simp only [aei] at h;simpa using h.1.1
theorem tZ (h:iN l d=true):fH l r d=true↔Rok l r∧Mt l r d:=by
 unfold fH;rw [h];cases hr:mR l r with
 | false=>
  simp;intro hk;rw [EP.2 ⟨Qm h,hk⟩] at hr;cases hr
 | true=>
  simp only [as0,Bool.or_self,cond_false];rw [aiv];exact ⟨λ hm=>⟨(EP.1 hr).2,hm⟩,λ hm=>hm.2⟩
theorem aaf {v:Int} {lev:azp} {t:Nat} (hv:v<=lev.getD t 0):lvN lev v<=t:=by
 rcases aoG t (lvN lev v) with h | h
 ·have:=anq t h; omega
 exact h
theorem anw {p:Int} (h:RY p v=true) {j:Nat} (hij:i<=j) (hj:j<v.length):v.getD i 0<=v.getD j 0:=by
 rcases aw8 hij with h1 | h1
 ·subst h1; exact apw _
 exact Int.le_of_lt (ase h i j h1 hj)
theorem anx (hv:Oe l d) (hr:Rok l r) (hm:Mt l r d) (h:Dm l d (gQ l d) k s):∀j,FT (gQ l d) j=true->(Ux s.a j).Ah<=nG l r j:=by
 have key:∀m j,l.length - j<=m->FT (gQ l d) j=true->(Ux s.a j).Ah<=nG l r j:=by
  intro m;induction m with
  | zero=>intro j h1 h2; have:=sJ h2; omega
  | succ m ih=>
   intro j h1 hj;have hlt:=sJ hj;rcases h.just j hlt with h2 | ⟨q,h2,h3,h4⟩ | ⟨c,h2,h3,h4,h5,h6,h7⟩
   ·rw [h2];have:=VL hv hr j hlt;show 0<=_;omega
   ·rw [h4];have:=(hm.drw _ (jq eu h2)).1;have e:(d.getD q eu).bY.toNat=j:=by unfold xAt at h3; omega
    rw [e] at this;exact this
   rw [h7];have hc:=(hv.bY c h3).2.1;have h8:=ih c (by unfold zO at h5; omega) h4;have h9:=hm.aT c h3 (hm.used c h4) om;have e:(zO l c).aT.toNat=j:=by omega
   rw [e] at h9;have h10:=hr.cK c h3;have h11:AY l c s<=(r.bC.getD c 0).toNat:=aaf h8;have h12:=anw (hv.cK c h3) h11 h10.2.1;refine aoJ ?_ h9.2;show (l.getD c aD).cK.getD (AY l c s) 0+(l.getD c aD).iw<=nG l r c+(zO l c).iw;unfold nG zO;omega
 exact λ j=>key _ j (afg _)
theorem akQ {q:Nat} (hv:Oe l d) (hr:Rok l r) (hm:Mt l r d) (h:Dm l d (gQ l d) (q+1) s) (hf:FR l (gQ l d) q s=true):False:=by
 unfold FR at hf;rw [aei,ahk] at hf;have h1:=of_decide_eq_false hf.2;have hlt:=sJ (l:=l) (d:=d) (j:=q) hf.1;have h2:=anx hv hr hm h q hf.1;have h3:=hr.cK q hlt;have h4:AY l q s<=(r.bC.getD q 0).toNat:=aaf h2;omega
theorem akR (hv:Oe l d) (h:Dm l d (gQ l d) 0 s):Rok l ⟨gQ l d,s.lv⟩:=by
 refine ⟨EO l d,h.ll,λ i hi=>?_⟩;cases hu:FT (gQ l d) i with
 | true=>
  have:=h.ok i (alh _) hi hu;unfold KN zO at this;show 0<=s.lv.getD i 0∧(s.lv.getD i 0).toNat<_∧s.lv.getD i 0<_;omega
 | false=>
  have:=h.zero i hi (.inr hu);unfold KN at this;have h1:=(hv.bY i hi).2.2.1;show 0<=s.lv.getD i 0∧(s.lv.getD i 0).toNat<_∧s.lv.getD i 0<_;omega
theorem Lv (h:Dm l d (gQ l d) 0 s) (hu:FT (gQ l d) i=true):nG l ⟨gQ l d,s.lv⟩ i=(zO l i).cK.getD (AY l i s) 0:=by
 have:=(h.ok i (alh _) (sJ hu) hu).2;unfold KN at this;unfold nG;show (l.getD i aD).cK.getD (s.lv.getD i 0).toNat 0=_;rw [this];rfl
theorem anz (hv:Oe l d) (h:Dm l d (gQ l d) 0 s) (hcap:∀i,FT (gQ l d) i=true->KN (lZ l d) i<=(zO l i).iG)
  (hhi:∀x∈d,nG l ⟨gQ l d,s.lv⟩ x.bY.toNat<=x.fI):Mt l ⟨gQ l d,s.lv⟩ d:=by
 refine ⟨λ i hi=>hi,λ i hi ho hp=>⟨agE hv ho hp,?_⟩,λ i hi ho=>hcap i ho,λ x hx=>⟨?_,hhi x hx⟩⟩
 ·have hpu:=agE hv ho hp;have h1:=h.up i (alh _) hi ho hp;have h2:=h.ok _ (alh _) (sJ hpu) hpu;rw [Lv h ho,Lv h hpu];have h3:=ait (v:=(Ux s.a (zO l i).aT.toNat).Ah) (l:=(zO l (zO l i).aT.toNat).cK) h2.1;exact aoJ h1 h3
 have hu:=adp hv hx;obtain ⟨q,hq,rfl⟩:∃q,q<d.length∧x=xAt d q:=by
  obtain ⟨q,hq,e⟩:=aln.1 hx;exact ⟨q,hq,by unfold xAt; rw [adF,adH hq,e]; rfl⟩
 rw [Lv h hu];exact aoJ (h.lC q hq) (ait (h.ok _ (alh _) (sJ hu) hu).1)
structure Best (l:azv) (d:azy) (r:bq):Prop where
 ok:fH l r d=true
 On:r.On=gQ l d
 zero:∀i,FT (gQ l d) i=false->KN r.bC i=0
 least:∀q,fH l q d=true->∀i,FT (gQ l d) i=true->FT q.On i=true∧KN r.bC i<=KN q.bC i
theorem agF (h:iN l d=true):zJ l d=0:=by
 unfold zJ;rw [h,Qm h];rfl
theorem aiw (h:iN l d=true):((qH l d).2=0∧Best l d (qH l d).1)∨(qH l d=(IB,9)∧∀q,fH l q d=false):=by
 have hv:=zK h;unfold qH;rw [agF h];simp only [bne_self_eq_false,cond_false];rcases apI hv with ⟨h1,h2⟩ | ⟨q,h1,h2,h3,h4⟩
 ·generalize Uw l d=p at h1 h2;obtain ⟨s,f⟩:=p;simp only at h1 h2;subst h1;cases hm:fH l ⟨gQ l d,s.lv⟩ d with
  | true=>
   refine .inl ⟨rfl,?_⟩;show Best l d ⟨gQ l d,s.lv⟩;refine ⟨hm,rfl,λ i hi=>?_,λ q hq i hi=>?_⟩
   ·by_cases hl:i<l.length
    ·exact h2.zero i hl (.inr hi)
    exact OB 0 (by show s.lv.length<=i; rw [h2.ll]; omega)
   obtain ⟨hr,hmt⟩:=(tZ h).1 hq;refine ⟨hmt.used i hi,?_⟩;have h5:=anx hv hr hmt h2 i hi;have h6:AY l i s<=(q.bC.getD i 0).toNat:=aaf h5;have h7:=(h2.ok i (alh _) (sJ hi) hi).2;have h8:=hr.cK i (sJ hi);show KN s.lv i<=KN q.bC i;rw [h7];unfold KN;omega
  | false=>
   refine .inr ⟨rfl,λ q=>?_⟩;cases hq:fH l q d with
   | false=>rfl
   | true=>
    obtain ⟨hr,hmt⟩:=(tZ h).1 hq;exfalso;have hle:=anx hv hr hmt h2;have:=(tZ h).2 ⟨akR hv h2,anz hv h2 (λ i hi=>hmt.iG i (sJ hi) (hmt.used i hi)) (λ x hx=>?_)⟩
    ·rw [hm] at this; cases this
    have hu:=adp hv hx;rw [Lv h2 hu];have h6:AY l x.bY.toNat s<=(q.bC.getD x.bY.toNat 0).toNat:=aaf (hle _ hu);have h8:=hr.cK _ (sJ hu);have h9:=anw (hv.cK _ (sJ hu)) h6 h8.2.1;have h10:=(hmt.drw x hx).2;unfold nG at h10;unfold zO;omega
 refine .inr ⟨?_,λ r=>?_⟩
 ·rw [h1,decide_eq_true (by omega:(0:Int)<=(q:Nat))];rfl
 cases hq:fH l r d with
 | false=>rfl
 | true=>
  obtain ⟨hr,hmt⟩:=(tZ h).1 hq;exact (akQ hv hr hmt h3 h4).elim
def jnL (l:azv) (u:azq):azp->Prop
 | []=>True
 | k::t=>(0<=k∧k<l.length∧FT u k.toNat=true∧(∀k',t.head? = some k'->(zO l k.toNat).aT=k'))∧jnL l u t
structure Good (l:azv) (d:azy) (last:Int) (c:azp) (fst:Int):Prop where
 ne:c≠[]
 jn:jnL l (gQ l d) c
 lo : -1<=fst
 hi:fst<d.length
 yes:0<=fst->(xAt d fst.toNat).bY=KN c 0∧rwN l d last c (xAt d fst.toNat).lC=true
 no:fst<0->rwN l d last c 0=true
variable {e:azy}
theorem agG (hd:Oe l d) (he:Oe l e) (hu:∀j,U4 d j=true->U4 e j=true) (hl:∀j,KN (lZ l d) j<=KN (lZ l e) j) (hs:∀x∈d,x∈e) (h:Mt l r e):Mt l r d:=
 ⟨λ i hi=>h.used i (akN hd he hu i hi),h.aT,λ i hi ho=>aoJ (hl i) (h.iG i hi ho),λ x hx=>h.drw x (hs x hx)⟩
theorem agH (hs:∀x∈d,x∈e) (j:Nat) (h:U4 d j=true):U4 e j=true:=by
 unfold U4 at *;rw [aoH] at *;obtain ⟨x,hx,h⟩:=h;exact ⟨x,hs x hx,h⟩
theorem adr (hd:iN l d=true) (he:iN l e=true) (hn:d.length+e.length<=32):iN l (d++e)=true:=by
 unfold iN at *;simp only [aei,ahk] at *;refine ⟨⟨hd.1.1,decide_eq_true (by rw [afa]; omega)⟩,?_⟩;rw [auZ,hd.2,he.2];rfl
theorem aeM (hd:iN l d=true) (he:iN l e=true) (hn:d.length+e.length<=32) (j:Nat):KN (lZ l d) j<=KN (lZ l (d++e)) j:=by
 have:=akP (zK hd) (zK he) (Rw (zK (adr hd he hn))) j;have:=(aeL (zK he) j).1;omega
theorem agI (hd:iN l d=true) (he:iN l e=true) (hn:d.length+e.length<=32) (h:fH l r (d++e)=true):fH l r d=true:=by
 have hde:=adr hd he hn;obtain ⟨h1,h2⟩:=(tZ hde).1 h;refine (tZ hd).2 ⟨h1,agG (zK hd) (zK hde) (agH (λ x hx=>atu _ hx)) (aeM hd he hn) (λ x hx=>atu _ hx) h2⟩
theorem abl (hp:d.Perm e):iN l d=iN l e:=by
 unfold iN;rw [hp.length_eq];congr 2;rw [awX,aoH,aoH];exact ⟨λ ⟨x,h1,h2⟩=>⟨x,hp.mem_iff.1 h1,h2⟩,λ ⟨x,h1,h2⟩=>⟨x,hp.mem_iff.2 h1,h2⟩⟩
theorem aix (hp:d.Perm e) (h:fH l r d=true) (hd:iN l d=true):fH l r e=true:=by
 have he:iN l e=true:=by rw [<- abl hp]; exact hd
 obtain ⟨h1,h2⟩:=(tZ hd).1 h;refine (tZ he).2 ⟨h1,agG (zK he) (zK hd) (agH λ x hx=>hp.mem_iff.2 hx) (λ j=>?_) (λ x hx=>hp.mem_iff.2 hx) h2⟩;rw [aiu (zK he) (zK hd) (λ j=>(akO hp j).symm)];exact apw _
def IY (a:List Dem):azp:=a.map Dem.Ah
theorem Qn (a:List Dem) (j:Nat):(IY a).getD j 0=(a.getD j RX).Ah:=by
 unfold IY;rw [adF,au3,adF];cases a[j]? <;> rfl
theorem agJ (a:List Dem) (j:Nat) (x:Dem):IY (a.set j x)=(IY a).set j x.Ah:=by
 unfold IY;rw [List.map_set]
theorem agK (a:List Dem):(IY a).length=a.length:=by simp [IY]
theorem set_self (a:azp) (j:Nat):a.set j (a.getD j 0)=a:=by
 refine Kc 0 (by simp) λ k hk=>?_;rw [gB];split
 ·rename_i h; rw [h.1]
 rfl
theorem VQ (a:azp) (j:Nat) (v:Int) (h:v=a.getD j 0):a.set j v=a:=by
 rw [h,set_self]
theorem aiy (n:Nat) (d:azy) (i:Nat):IY (Az n d (i+1))=(IY (Az n d i)).set (d.getD i eu).bY.toNat (if (d.getD i eu).lC > (IY (Az n d i)).getD (d.getD i eu).bY.toNat 0 then (d.getD i eu).lC else (IY (Az n d i)).getD (d.getD i eu).bY.toNat 0):=by
 rw [Az,Qn];by_cases h:((Az n d i).getD (d.getD i eu).bY.toNat RX).Ah<(d.getD i eu).lC
 ·rw [decide_eq_true h,cond_true,agJ,if_pos h]
 rw [decide_eq_false h,cond_false,if_neg h,VQ _ _ _ (Qn _ _).symm]
theorem anA (hu:u.length=l.length) (h:DOk l s) (hl:apE l s):Rok l ⟨u,s.lv⟩:=
 ⟨hu,h.ll,λ i hi=>by
  have:=hl i hi;show 0<=s.lv.getD i 0∧(s.lv.getD i 0).toNat<_∧s.lv.getD i 0<_;omega⟩
theorem apJ (hf:FR l u k s=false) (h:apE l s):apE l (Ls l u k s):=by
 intro j hj;unfold Ls;cases hu:u.getD k false with
 | false=>exact h j hj
 | true=>
  unfold FR at hf;rw [hu,aq0,ajz] at hf;have:=of_decide_eq_true hf;show 0<=(s.lv.set k (AY l k s)).getD j 0∧(s.lv.set k (AY l k s)).getD j 0<_;rw [gB];split
  ·rename_i hjk; rw [hjk.1]; omega
  exact h j hj
theorem YT {l m:List α} (d:α) (h:l.length<=i):(l++m).getD i d=m.getD (i - l.length) d:=by
 rw [adF,arF h,adF]
structure awY (l:azv) (d:azy) (r:bq) (ok:Bool):Prop where
 is:ok=((qH l d).2==0)
 yes:ok=true->fH l r d=true
 no:ok=false->r=(qH l d).1
theorem jw {n_:Int} {xW:Int} {z8:Int}:W (jd n_ xW z8) (λ r=>r=dS n_ xW z8):=by
 unfold jd;refine aC ?_;rfl
theorem XB {s_:av}:W (sV s_) (λ r=>r=VJ s_):=by
 unfold sV;refine aC ?_;rfl
theorem AZ {s_:azv} (h1:s_.length<=2000000):W (mh s_) (λ r=>r=s_.any (VJ)):=
 Ac (J7 (Qa (p:=λ x=>sV x) (P:=VJ) (λ x hx=>kY (XB)) om) (nV _ _))
theorem abm {s_:av} {at_:Int} (h1:0<=at_) (h2:at_<=2000000) (h3:s_.cK.length<=2000000):W (D8 s_ at_) (λ r=>r=AU s_ at_):=by
 unfold D8;refine wn<|aG (jw) λ v1 hv1=>?_;subst v1;refine aG (gM λ hc=>kY (jw)) λ v2 hv2=>?_;subst v2;refine aG (gM λ hc=>kY (jw)) λ v3 hv3=>?_;subst v3;refine bV ?_ ?_<;>intro c1
 ·have gD:=c1;have c1:=eX c1;refine aC ?_;(unfold AU; rw [show YV s_ at_=true from gD]; rfl)
 have gD:=c1;have c1:=eX c1;refine bS (λ (g1:Int)=>0<=g1∧g1<=s_.cK.length∧RY (if g1.toNat=0 then 0 else s_.cK.getD (g1.toNat - 1) 0) (s_.cK.drop g1.toNat)=RY 0 s_.cK) (λ (g1:Int)=>(s_.cK.length - g1).toNat) ?_ ?_
 ·intro ah g1 eU dB;obtain ⟨dZ,bW,bN⟩:=eU;unfold Mf;obtain ⟨i,rfl⟩:=ahq dZ;refine wi ?_ ?_<;>intro c2
  ·have hlt:i<s_.cK.length:=om;have hst:=agz hlt rfl;rw [show ((i:Int).toNat)=i from rfl] at bN;rw [hst] at bN;have e1:(((i:Int) - 1).toNat)=i - 1:=om;simp only [e1,ahg] at *;refine wn<|aG (jw) λ v6 hv6=>?_;subst v6;refine wm<|bV ?_ ?_<;>intro c3
   ·have jZ:=c3;have c3:=eX c3;refine aC ?_;(unfold AU; rw [show YV s_ at_=false from gD,<- bN]; rw [jZ]; rfl)
   have jZ:=c3;have c3:=eX c3;refine wn<|dB _ ?_ ?_
   ·(refine ⟨ob,ob,?_⟩; rw [<- bN,jZ]; rw [show ((i:Int)+1).toNat=i+1 by omega,if_neg om]; rfl)
   exact ob
  refine aC ?_;have e:i=s_.cK.length:=om;unfold AU; rw [show YV s_ at_=false from gD,<- bN,show (i:Int).toNat=i from rfl,e,aqu]; rfl
 (refine ⟨ob,ob,rfl⟩)
variable {l_:azv}
theorem zP (h1:l_.length<=2000000):W (ql l_) (λ r=>r=eD l_):=by
 unfold ql;refine aG (gM λ hc=>kY (AZ ob)) λ v1 hv1=>?_;subst v1;refine bV ?_ ?_<;>intro c1
 ·have gD:=c1;have c1:=eX c1;refine aC ?_;(unfold eD; rw [gD]; rfl)
 have gD:=c1;have c1:=eX c1;have hbig:∀i:Nat,i<l_.length->VJ (l_.getD i aD)=false:=oF aD (by have:=gD; simp only [aff] at this; exact this.2);refine bS (λ (g1:Int)=>0<=g1∧g1<=l_.length∧Xy g1.toNat (l_.drop g1.toNat)=Xy 0 l_) (λ (g1:Int)=>(l_.length - g1).toNat) ?_ ?_
 ·intro ah g1 eU dB;obtain ⟨dZ,bW,bN⟩:=eU;unfold Mg;obtain ⟨i,rfl⟩:=ahq dZ;refine wi ?_ ?_<;>intro c2
  ·have hlt:i<l_.length:=om;have hb:=hbig i hlt;have hbl:(l_.getD i aD).cK.length<=16:=(by unfold VJ at hb; have:=of_decide_eq_false hb; omega);rw [show ((i:Int).toNat)=i from rfl,drop_cons aD hlt,Xy] at bN;simp only [ahg] at *;refine wn<|aG (abm om om om) λ v4 hv4=>?_;subst v4;refine bV ?_ ?_<;>intro c3
   ·have jZ:=c3;have c3:=eX c3;refine aC ?_;(unfold eD; rw [gD,<- bN,show AU (l_.getD i aD) i=false by simpa using jZ]; rfl)
   have jZ:=c3;have c3:=eX c3;refine wn<|dB _ ?_ ?_
   ·(refine ⟨ob,ob,?_⟩; rw [<- bN,show AU (l_.getD i aD) i=true by simpa using jZ,show ((i:Int)+1).toNat=i+1 by omega]; rfl)
   exact ob
  refine aC ?_;have e:i=l_.length:=om;unfold eD; rw [gD,<- bN,show (i:Int).toNat=i from rfl,e,aqu]; rfl
 (refine ⟨ob,ob,rfl⟩)
theorem Qo {r_:bq} (h1:l_.length<=2000000) (h2:r_.bC.length<=2000000):W (yR l_ r_) (λ r=>r=mR l_ r_):=by
 unfold yR;refine aG (zP ob) λ v1 hv1=>?_;subst v1;refine bV ?_ ?_<;>intro c1
 ·have gD:=c1;have c1:=eX c1;refine aC ?_;(unfold mR; rw [gD]; rfl)
 have gD:=c1;have c1:=eX c1;have hck:eD l_=0∧r_.On.length=l_.length∧r_.bC.length=l_.length:=(by have:=gD; simp only [aff,bne_eq_false_iff_eq] at this; omega);obtain ⟨b1,b2,b3⟩:=Ez hck.1;refine bS (λ (g1:Int)=>0<=g1∧g1<=l_.length∧rlN (l_.drop g1.toNat) (r_.bC.drop g1.toNat)=rlN l_ r_.bC) (λ (g1:Int)=>(l_.length - g1).toNat) ?_ ?_
 ·intro ah g1 eU dB;obtain ⟨dZ,bW,bN⟩:=eU;unfold Mj;obtain ⟨i,rfl⟩:=ahq dZ;refine wi ?_ ?_<;>intro c2
  ·have hlt:i<l_.length:=om;have hb:=b2 i hlt;rw [show ((i:Int).toNat)=i from rfl,drop_cons aD hlt,drop_cons 0 (show i<r_.bC.length by omega),rlN] at bN;simp only [ahg] at *;refine wm<|wn ?_;refine aG (jw) λ v4 hv4=>?_;subst v4;refine bV ?_ ?_<;>intro c3
   ·have jZ:=c3;have c3:=eX c3;refine aC ?_;(unfold mR; rw [gD,<- bN]; rw [show dS (r_.bC.getD i 0) 0 _=false by simpa using jZ]; rfl)
   have jZ:=c3;have c3:=eX c3;refine wn<|dB _ ?_ ?_
   ·(refine ⟨ob,ob,?_⟩; rw [<- bN,show dS (r_.bC.getD i 0) 0 _=true by simpa using jZ,show ((i:Int)+1).toNat=i+1 by omega]; rfl)
   exact ob
  refine aC ?_;have e:i=l_.length:=om;unfold mR; rw [gD,<- bN,show (i:Int).toNat=i from rfl,e,aqu]; cases List.drop l_.length r_.bC<;>rfl
 (refine ⟨ob,ob,rfl⟩)
theorem XC {x_:bL} {mg:azv} (h1:mg.length<=2000000):W (tq x_ mg) (λ r=>r=abh mg.length x_):=by
 unfold tq;refine wn<|aG (jw) λ v1 hv1=>?_;subst v1;refine aG (gM λ hc=>kY (jw)) λ v2 hv2=>?_;subst v2;refine aG (gM λ hc=>kY (jw)) λ v3 hv3=>?_;subst v3;refine aG (gM λ hc=>kY (jw)) λ v4 hv4=>?_;subst v4;refine aC ?_;rfl
theorem CG {s_:azy} {f_:azv} (h1:s_.length<=2000000) (h2:f_.length<=2000000):W (mP s_ f_) (λ r=>r=s_.any (abh f_.length)):=
 Ac (J7 (Qa (p:=λ x=>tq x f_) (P:=abh f_.length) (λ x hx=>kY (XC h2)) om) (nV _ _))
variable {d_:azy}
theorem Qp (h1:l_.length<=2000000) (h2:d_.length<=2000000):W (yS l_ d_) (λ r=>r=iN l_ d_):=by
 unfold yS;refine aG (zP ob) λ v1 hv1=>?_;subst v1;refine aG (gM λ hc=>kY (CG ob ob)) λ v2 hv2=>?_;subst v2;refine aC ?_;rfl
theorem uh {s_:azv}:W (jL s_) (λ r=>r=s_):=by
 unfold jL;refine aC ?_;rfl
theorem acv (h1:Oe l_ d_):W (GX l_ d_) (λ r=>r=gQ l_ d_):=by
 obtain ⟨vl,vd,vs,_,vx⟩:=h1;unfold GX;refine wn<|bS (λ (g1:Int×azq)=>0<=g1.1∧g1.1<=d_.length∧g1.2=rE l_.length (d_.take g1.1.toNat)) (λ (g1:Int×azq)=>(d_.length - g1.1).toNat) ?_ ?_
 ·intro ah g1 eU dB;obtain ⟨dZ,bW,bN⟩:=eU;unfold OZ;refine wi ?_ ?_<;>intro c1
  ·have hlt:g1.1.toNat<d_.length:=om;have hx:=vx _ (jq eu hlt);have hml:g1.2.length=l_.length:=(by rw [bN]; exact uR ..);refine wm<|wn ?_;refine dB _ ?_ ?_
   ·(refine ⟨ob,ob,?_⟩; dsimp only; have e:rE l_.length (d_.take (g1.1.toNat+1))=(rE l_.length (d_.take g1.1.toNat)).set (d_.getD g1.1.toNat eu).bY.toNat true:=wP _ _ eu hlt; rw [show (g1.1+1).toNat=g1.1.toNat+1 by omega,bN,e])
   exact ob
  refine aG (uh) λ v1 hv1=>?_;subst v1;refine wn<|aqz (λ (k2:Nat) (g2:azq)=>g2=KM (iH l_) l_.length k2 (rE l_.length d_)) ?_ ?_ ?_
  ·intro k2 dY g2 awZ nD rF;unfold Ml;refine aP (by (rw [nD,wG (nX _),uR]; omega)) ?_;refine aP (by (rw [nD,wG (nX _),uR]; omega)) ?_;unfold Db;refine aP (by (rw [ahl,nD,wG (nX _),uR]; omega)) ?_;refine bV ?_ ?_<;>intro c2
   ·have kM:=c2;have c2:=eX c2;have hp:=vs (l_.length - 1 - k2) om;have hl2:g2.length=l_.length:=(by rw [nD,wG (nX _),uR]);refine wn<|rF _ ?_;(rw [ahg,gB,if_pos ⟨rfl,om⟩] at kM; show _=iH l_ (l_.length - 1 - k2) (KM (iH l_) l_.length k2 (rE l_.length d_)); rw [<- nD]; unfold iH; rw [kM]; rfl)
   have kM:=c2;have c2:=eX c2;have hl2:g2.length=l_.length:=(by rw [nD,wG (nX _),uR]);refine rF _ ?_;(rw [ahg,gB,if_pos ⟨rfl,om⟩] at kM; show _=iH l_ (l_.length - 1 - k2) (KM (iH l_) l_.length k2 (rE l_.length d_)); rw [<- nD]; unfold iH; rw [kM]; rfl)
  ·intro g2 nD;unfold Mk;refine aC ?_;(rw [nD]; exact EA _ _ _)
  (simp only [bN]; rw [show g1.1.toNat=d_.length by omega,alj]; rfl)
 (refine ⟨ob,ob,rfl⟩)
theorem abn (h1:Oe l_ d_):W (Ec l_ d_) (λ r=>r=lZ l_ d_):=by
 have hsm:=λ k hk=>Lr h1 k hk;obtain ⟨vl,vd,vs,_,vx⟩:=h1;unfold Ec;refine wn<|bS (λ (g1:Int×azp)=>0<=g1.1∧g1.1<=d_.length∧g1.2=AX l_.length (d_.take g1.1.toNat)) (λ (g1:Int×azp)=>(d_.length - g1.1).toNat) ?_ ?_
 ·intro ah g1 eU dB;obtain ⟨dZ,bW,bN⟩:=eU;unfold Mq;refine wi ?_ ?_<;>intro c1
  ·have hlt:g1.1.toNat<d_.length:=om;have hx:=vx _ (jq eu hlt);have hml:g1.2.length=l_.length:=(by rw [bN]; exact zM ..);have hbd:=agD l_.length d_ (λ x hx=>by have:=vx x hx; omega) g1.1.toNat om (d_.getD g1.1.toNat eu).bY.toNat;rw [<- bN] at hbd;refine wm<|wm ?_;refine wn<|dB _ ?_ ?_
   ·(refine ⟨ob,ob,?_⟩; dsimp only; have e:AX l_.length (d_.take (g1.1.toNat+1))=(AX l_.length (d_.take g1.1.toNat)).set (d_.getD g1.1.toNat eu).bY.toNat ((AX l_.length (d_.take g1.1.toNat)).getD (d_.getD g1.1.toNat eu).bY.toNat 0+(d_.getD g1.1.toNat eu).Load):=wP _ _ eu hlt; rw [show (g1.1+1).toNat=g1.1.toNat+1 by omega,e,<- bN])
   exact ob
  refine aG (uh) λ v1 hv1=>?_;subst v1;refine wn<|aqz (λ (k2:Nat) (g2:azp)=>g2=KM (iO l_) l_.length k2 (AX l_.length d_)) ?_ ?_ ?_
  ·intro k2 dY g2 awZ nD rF;unfold JF;refine bV ?_ ?_<;>intro c2
   ·have kM:=c2;have c2:=eX c2;have hp:=vs (l_.length - 1 - k2) om;have hl2:g2.length=l_.length:=(by rw [nD,wG (uS _),zM]);have hbd:=hsm k2 om;rw [<- nD] at hbd;have hb1:=hbd (l_.getD (l_.length - 1 - k2) aD).aT.toNat;have hb2:=hbd (l_.length - 1 - k2);rw [ahg];refine wm<|wm ?_;refine rF _ ?_;(show _=iO l_ (l_.length - 1 - k2) (KM (iO l_) l_.length k2 (AX l_.length d_)); rw [<- nD]; unfold iO; rw [kM]; rfl)
   have kM:=c2;have c2:=eX c2;refine rF _ ?_;(show _=iO l_ (l_.length - 1 - k2) (KM (iO l_) l_.length k2 (AX l_.length d_)); rw [<- nD]; unfold iO; rw [kM]; rfl)
  ·intro g2 nD;unfold JE;refine aC ?_;(rw [nD]; exact EA _ _ _)
  (simp only [bN]; rw [show g1.1.toNat=d_.length by omega,alj]; rfl)
 (refine ⟨ob,ob,rfl⟩)
theorem XD {x_:bL} {mg:azv} {Ed:azq} {wR:azp} (h1:0<=x_.bY) (h2:x_.bY<mg.length) (h3:x_.bY<wR.length) (h4:0<=wR.getD x_.bY.toNat 0) (h5:wR.getD x_.bY.toNat 0<(mg.getD x_.bY.toNat aD).cK.length):W (tu x_ mg Ed wR) (λ r=>r=abj mg ⟨Ed,wR⟩ x_):=by
 unfold tu;refine wm<|wn ?_;refine aG (jw) λ v1 hv1=>?_;subst v1;refine aC ?_;rfl
theorem zQ {s_:azy} {Dc:azv} {Dz:azq} {DC:azp} (h1:s_.length<=2000000) (h2:∀x∈s_,0<=x.bY∧x.bY<Dc.length) (h3:Rok Dc ⟨Dz,DC⟩):W (kZ s_ Dc Dz DC) (λ r=>r=s_.any (abj Dc ⟨Dz,DC⟩)):=
 Ac (J7 (Qa (p:=λ x=>tu x Dc Dz DC) (P:=abj Dc ⟨Dz,DC⟩) (λ x hx=>kY (by obtain ⟨q1,q2⟩:=h2 x hx; obtain ⟨r1,r2,r3⟩:=h3; have r4:=r3 x.bY.toNat om; exact XD q1 q2 (by dsimp only at r2; omega) r4.1 r4.2.2)) om) (nV _ _))
theorem FU {r_:bq} (h1:l_.length<=2000000) (h2:d_.length<=2000000) (h3:r_.bC.length<=2000000):W (uH l_ r_ d_) (λ r=>r=fH l_ r_ d_):=by
 unfold uH;refine aG (Qo ob ob) λ v1 hv1=>?_;subst v1;refine aG (gM λ hc=>kY (Qp ob ob)) λ v2 hv2=>?_;subst v2;refine bV ?_ ?_<;>intro c1
 ·have gD:=c1;have c1:=eX c1;refine aC ?_;(unfold fH; rw [gD]; rfl)
 have gD:=c1;have c1:=eX c1;have hrd:mR l_ r_=true∧iN l_ d_=true:=(by have:=gD; simpa using this);have hv:=zK hrd.2;have hr:=(EP.1 hrd.1).2;have hrk:=hr;have hvb:=λ i hi=>VL hv hr i hi;have hul:=EO l_ d_;have hll:=Uv l_ d_;obtain ⟨r1,r2,r3⟩:=hr;obtain ⟨vl,vd,vs,_,vx⟩:=id hv;have hmf:fH l_ r_ d_=zN l_ r_ d_:=(by unfold fH; rw [gD]; rfl);refine aG (acv hv) λ v3 hv3=>?_;subst v3;refine aG (abn hv) λ v4 hv4=>?_;subst v4;refine bS (λ (g1:Int)=>0<=g1∧g1<=l_.length∧(∀j,j<g1.toNat->Qk l_ r_ (gQ l_ d_) (lZ l_ d_) j=false)) (λ (g1:Int)=>(l_.length - g1).toNat) ?_ ?_
 ·intro ah g1 eU dB;obtain ⟨dZ,bW,bN⟩:=eU;unfold Mr;obtain ⟨i,rfl⟩:=ahq dZ;refine wi ?_ ?_<;>intro c2
  ·have hlt:i<l_.length:=om;have hp:=vs i hlt;have hp2:=vs (l_.getD i aD).aT.toNat;have hr3:=r3 i hlt;have hr4:=r3 (l_.getD i aD).aT.toNat;have hv1:=hvb i hlt;unfold nG at hv1;simp only [ahg] at *;refine wm<|bV ?_ ?_<;>intro c3
   ·have jZ:=c3;have c3:=eX c3;refine wn<|bV ?_ ?_<;>intro c4
    ·have uq:=c4;have c4:=eX c4;refine aC ?_;(rw [hmf]; unfold zN; rw [Dj hlt (by unfold Qk; rw [jZ,uq]; rfl)]; rfl)
    have uq:=c4;have c4:=eX c4;refine wn<|dB _ ?_ ?_
    ·(refine ⟨ob,ob,λ j hj=>?_⟩; by_cases q:j<i; (exact bN j q); (have e:j=i:=by omega); subst e; unfold Qk; rw [jZ,uq]; rfl)
    exact ob
   have jZ:=c3;have c3:=eX c3;refine aP (by (intro q1; have:=of_decide_eq_true q1; omega)) ?_;refine aP (by (intro q1 _; have:=of_decide_eq_true q1; omega)) ?_;refine aP (by (intro q1 _; have:=of_decide_eq_true q1; omega)) ?_;refine aP (by (intro q1 _; have:=of_decide_eq_true q1; have:=hr4 om; omega)) ?_;refine aP (by (intro q1 _; have:=of_decide_eq_true q1; omega)) ?_;refine aP (by (intro q1 _; have:=of_decide_eq_true q1; omega)) ?_;refine aP (by (intro q1 _; have:=of_decide_eq_true q1; unfold ay; omega)) ?_;refine aP (by (intro _; omega)) ?_;refine bV ?_ ?_<;>intro c5
   ·have Di:=c5;have c5:=eX c5;refine aC ?_;(rw [hmf]; unfold zN; rw [Dj hlt (by unfold Qk nG; rw [jZ]; simp only [cond_false]; rw [Di]; rfl)]; rfl)
   have Di:=c5;have c5:=eX c5;refine wn<|dB _ ?_ ?_
   ·(refine ⟨ob,ob,λ j hj=>?_⟩; by_cases q:j<i; (exact bN j q); (have e:j=i:=by omega); subst e; unfold Qk nG; rw [jZ]; exact Di)
   exact ob
  refine aG (zQ om (λ x hx=>by have:=vx x hx; omega) hrk) λ v5 hv5=>?_;subst v5;refine aC ?_;(rw [hmf]; unfold zN; rw [Ql λ j hj=>(by rw [bN j om]; rfl)]; rfl)
 (refine ⟨ob,ob,λ j hj=>absurd hj (ahh j)⟩)
end Go.Proofs.YtifekdmmpbcdgaaGreatDoor.Sp
namespace Go.Proofs.YtifekdmmpbcdgaaGreatDoor
open Go.Ab
set_option maxRecDepth 100000
structure apK (l:azC):Prop where
 len:l.length<=32
 af:∀i,i<l.length->∀x∈(l.getD i d9).fF,0<=x∧x<(i:Int)
structure apL (l:azD):Prop where
 len:l.length<=16
 par:∀i,i<l.length -> -1<=(l.getD i eZ).aT∧(l.getD i eZ).aT<(i:Int)
structure aub (n:Int) (g:dh):Prop where
 pl:0<g.cu.length
 fl:0<g.au.length∧g.au.length<=8
 pn:∀x∈g.cu,0<=x∧x<n
structure Qq (p:bR) (u:mW):Prop where
 g0:0<=u.bT
 gl:u.bT<p.aH.length
 f0:0<=u.dJ
 fl:u.dJ<(p.aH.getD u.bT.toNat aN).au.length
theorem fq {P:Nat->Prop} {i:Int} (h:∀j:Nat,(j:Int)<i->P j) (h0:0<=i) (hp:P i.toNat):∀j:Nat,(j:Int)<i+1->P j:=λ j hj=>by
 by_cases q:(j:Int)<i
 ·exact h j q
 have e:j=i.toNat:=by omega
 rw [e]; exact hp
structure aqE (p:bR):Prop where
 pn:0<=p.cu∧p.cu<=64
 gl:p.aH.length<=24
 gr:∀g∈p.aH,aub p.cu g
variable {α:Type}
theorem mG {P:α->Prop} {l:List α} (d:α) (h:∀j,j<l.length->P (l.getD j d)):∀x∈l,P x:=λ x hx=>by
 obtain ⟨i,hi,rfl⟩:=aln.1 hx;have:=h i hi;rwa [adF,adH hi] at this
theorem abo {s:ByteArray} {c:Bool} (h:((s.toList==({ data:=#[] }:ByteArray).toList)||c)=false):0<s.size:=by
 simp only [aff] at h;rcases aqH s.size with e | e
 ·exfalso;have e2:s=({ data:=#[] }:ByteArray):=by
   cases s with
   | mk d=>cases d with
    | mk l=>cases l with
     | nil=>rfl
     | cons a t=>simp [ByteArray.size] at e
  rw [e2] at h;simp at h
 exact e
theorem akS {s:ByteArray} {c d:Bool} (h:((((s.toList==({ data:=#[] }:ByteArray).toList)||(decide ((16:Int)<((s.size:Nat):Int))))||c)||d)=false):0<s.size∧s.size<=16:=by
 simp only [aff] at h;refine ⟨abo (c:=false) (by simp only [aff]; exact ⟨h.1.1.1,trivial⟩),?_⟩;have:=of_decide_eq_false h.1.1.2;omega
variable {s_:azp}
theorem Uy (h1:s_.length<=2000000):W (slices_Clone_int s_) (λ r=>r=s_):=by
 unfold slices_Clone_int;refine wn<|aC ?_;rfl
theorem RZ {s_:azq} (h1:s_.length<=2000000):W (kC s_) (λ r=>r=s_):=by
 unfold kC;refine wn<|aC ?_;rfl
theorem NR {s_:Nat} {dD:azp} (h1:s_<=dD.length) (h2:s_<=2000000):W (oK s_ dD) (λ r=>r=dD.take s_):=by
 unfold oK;refine wn<|aC ?_;rfl
structure Lx (b:aV):Prop where
 cl:b.bP.length<=2000000
 ch:acn b.bP
 su:b.bI.length<=2000000
 gr:∀g∈b.aU.aH,g.cu.length<=2000000
 re:b.bH.length<=2000000
 ra:∀g∈b.bH,g.fF.length<=2000000
 dm:b.bX.length<=2000000
structure aqF (b:aV):Prop where
 cl:eD b.bP=0
 su:Sp.eD b.bI=0
 pn:aqE b.aU
 rs:apK b.bH
 dm:apL b.bX
structure Uz (n:Nat) (x:aZ):Prop where
 k0:0<=x.eO
 kl:x.eO<n
 l0:0<=x.lC
 lh:x.lC<=x.fI
 hi:x.fI<=4000000000
structure aiz (n:Nat) (x:bL):Prop where
 k0:0<=x.bY
 kl:x.bY<n
 l0:0<=x.lC
 lh:x.lC<=x.fI
 hi:x.fI<=5000
 ld:0<=x.Load∧x.Load<=10000
structure ash (b:aV) (n:aR):Prop where
 ll:n.dx.length<=32
 dl:n.fJ.length<=32
 fl:n.au.length<=10
 lm:∀x∈n.dx,Uz b.bP.length x
 dw:∀x∈n.fJ,aiz b.bI.length x
 rs:∀x∈n.bH,0<=x∧x<b.bH.length
 dm : -1<=n.fV∧n.fV<b.bX.length
structure UA (l:azu):Prop where
 len:l.length<=2000000
 nd:∀n∈l,n.bH.length<=2000000∧n.cO.length<=2000000
structure Ai (g:aM):Prop where
 st:g.Setting.length<=2000000
 on:g.bB.On.length<=2000000
 lv:g.bB.bC.length<=2000000
 us:g.Uses.length<=2000000
 re:g.Released.length<=2000000
 po:g.aY.length<=2000000
structure acw (s:ig):Prop where
 sz:Lx s.bQ
 val:aqF s.bQ
 nl:s.dP.length<=12
 nd:∀n∈s.dP,ash s.bQ n
 nsz:UA s.dP
 ml:s.aX.length<=10000
 gs:Ai s.bD
structure aiA (s:ig):Prop where
 mem:∀m∈s.aX,0<=m∧m<s.dP.length
 st:s.bD.Setting.length=s.bQ.bP.length
 on:s.bD.bB.On.length=s.bQ.bI.length
 lv:s.bD.bB.bC.length=s.bQ.bI.length
 re:s.bD.Released.length=s.bQ.bH.length
 po:s.bD.aY.length=s.bQ.bX.length
theorem rW {v_:Int} (h1:s_.length<=2000000):slices_Contains_int s_ v_ (s_.contains v_):=abd h1
theorem qI {x_:Int} {D9:Int} {oW:Int}:W (qQ x_ D9 oW) (λ r=>r=(decide (D9<=x_)&&decide (x_<=oW))):=by
 unfold qQ;refine aC ?_;rfl
theorem agL {r_:bq} (h1:r_.On.length<=2000000) (h2:r_.bC.length<=2000000):W (JD r_) (λ r=>r=(r_.On,r_.bC)):=by
 unfold JD;refine aG (RZ ob) λ v1 hv1=>?_;subst v1;refine aG (Uy ob) λ v2 hv2=>?_;subst v2;refine aC ?_;rfl
theorem A8 (f:dV->Option Int) (k k':dV) (n:Int):jJ (CX f k n) k'=if k'=k then n else jJ f k':=by
 unfold jJ CX;split<;>rfl
theorem agM {l:azs} {s:azp} (h:(wZ l s).2=0):eD l=0∧kH l s=true∧(wZ l s).1=fU l s:=by
 unfold wZ at h ⊢;cases h1:eD l != 0 with
 | true=>rw [h1] at h; simp at h1; exact absurd h h1
 | false=>
  cases h2:kH l s with
  | false=>rw [h1,h2] at h; cases h
  | true=>exact ⟨by simpa using h1,rfl,rfl⟩
theorem anB {l:azs} {s:azp} (h1:eD l=0) (h2:kH l s=true) (j:Nat) (hj:j<l.length):1<=((fU l s).getD j dW).jD∧((fU l s).getD j dW).jD<=16777216:=by
 have:=mD (Lp (sI h1) h2 j hj).2.2.1;exact ⟨this.2.2.1,this.2.2.2.1⟩
theorem LA {O6:Int} {oq:azs} {mO:azv} {yT:Int} {Ae:azG} {tC:azC} {yU:azD} {IE:azu} {aa1:azp} {aa2:azp} {aa3:azq} {O7:azp} {O8:azw} {Fa:azq} {Fb:azq} {O9:Bool} (h1:0<=O6) (h2:O6<Fa.length):W (lT O6 oq mO yT Ae tC yU IE aa1 aa2 aa3 O7 O8 Fa Fb O9) (λ r=>r=!(Fa.getD O6.toNat false)):=by
 unfold lT;refine wn<|aC ?_;rfl
theorem Dk {Dc:azs} {Dz:azv} {DC:Int} {Ud:azG} {Ue:azC} {Uf:azD} {NM:azu} {Ug:azp} {Uh:azp} {Ui:azq} {wS:azp} {wT:azw} {uJ:azq} {uK:azq} {wU:Bool} (h1:s_.length<=2000000) (h2:∀x∈s_,0<=x∧x<uJ.length):W (mZ s_ Dc Dz DC Ud Ue Uf NM Ug Uh Ui wS wT uJ uK wU) (λ r=>r=s_.any (λ x=>!(uJ.getD x.toNat false))):=
 Ac (J7 (Qa (p:=λ x=>lT x Dc Dz DC Ud Ue Uf NM Ug Uh Ui wS wT uJ uK wU) (P:=λ x=>!(uJ.getD x.toNat false)) (λ x hx=>kY (LA (h2 x hx).1 (h2 x hx).2)) om) (nV _ _))
theorem Kh {m_:Int} {oq:azs} {mO:azv} {yT:Int} {Ae:azG} {tC:azC} {yU:azD} {IE:azu} {aa1:azp} {aa2:azp} {aa3:azq} {O7:azp} {O8:azw} {Fa:azq} {Fb:azq} {O9:Bool} (h1:0<=m_) (h2:m_<IE.length) (h3:(IE.getD m_.toNat bK).fV<Fb.length):W (kP m_ oq mO yT Ae tC yU IE aa1 aa2 aa3 O7 O8 Fa Fb O9) (λ r=>r=((decide ((0:Int)<=(IE.getD m_.toNat bK).fV))&&(!(Fb.getD (((IE.getD m_.toNat bK).fV).toNat) false)))):=by
 unfold kP;refine wm<|aC ?_;rfl
theorem Dl {Dc:azs} {Dz:azv} {DC:Int} {Ud:azG} {Ue:azC} {Uf:azD} {NM:azu} {Ug:azp} {Uh:azp} {Ui:azq} {wS:azp} {wT:azw} {uJ:azq} {uK:azq} {wU:Bool} (h1:s_.length<=2000000) (h2:∀x∈s_,0<=x∧x<NM.length∧(NM.getD x.toNat bK).fV<uK.length):W (ng s_ Dc Dz DC Ud Ue Uf NM Ug Uh Ui wS wT uJ uK wU) (λ r=>r=s_.any (λ x=>((decide ((0:Int)<=(NM.getD x.toNat bK).fV))&&(!(uK.getD (((NM.getD x.toNat bK).fV).toNat) false))))):=
 Ac (J7 (Qa (p:=λ x=>kP x Dc Dz DC Ud Ue Uf NM Ug Uh Ui wS wT uJ uK wU) (P:=λ x=>((decide ((0:Int)<=(NM.getD x.toNat bK).fV))&&(!(uK.getD (((NM.getD x.toNat bK).fV).toNat) false)))) (λ x hx=>kY (Kh (h2 x hx).1 (h2 x hx).2.1 (h2 x hx).2.2)) om) (nV _ _))
def A9 {α:Type} (l:List α) (i:Int) (v:α):Bool×List α:=bif decide (i<0)||decide ((l.length:Int)<=i) then (false,l) else (true,l.set i.toNat v)
theorem anC (l:List α) (i:Int) (v:α):(A9 l i v).2.length=l.length:=by
 unfold A9;cases decide (i<0)||decide ((l.length:Int)<=i)<;>simp
def R3 (u:Int) (h:aJ):Bool:=h.gZ.bT==u
theorem auc (d:α) {a b:List α} (h1:a.length=b.length) (h2:∀j,j<a.length->a.getD j d=b.getD j d):a=b:=Sp.Kc d h1 h2
theorem Rx (d:α) (l:List α) (n j:Nat) (h:j<n):(l.take n).getD j d=l.getD j d:=by
 rw [adF,adF,List.getElem?_take_of_lt h]
theorem akT (d:α) (l:List α) (n j:Nat):(l.drop n).getD j d=l.getD (n+j) d:=by
 rw [adF,adF,aw4]
theorem aiB (d:α) (l:List α) (i j:Nat):(l.eraseIdx i).getD j d=if j<i then l.getD j d else l.getD (j+1) d:=by
 rw [adF,List.getElem?_eraseIdx];split<;>rw [adF]
def abp (u v:Int) (l:azw):azw:=bif decide (0<v) then l++[⟨-1,⟨u,v - 1⟩⟩] else l
def LB (u:Int) (l:azw):azw:=bif decide (0<=NP l (R3 u)) then l.eraseIdx (NP l (R3 u)).toNat else l
def kL (w:aI) (g:aM):Bool×aM:=
 bif decide (w.Value<0) then (false,g)
 else bif w.dG==1 then ((A9 g.Setting w.Unit w.Value).1,{ g with Setting:=(A9 g.Setting w.Unit w.Value).2 })
 else bif w.dG==2 then ((A9 g.bB.bC w.Unit w.Value).1,{ g with bB:=⟨g.bB.On,(A9 g.bB.bC w.Unit w.Value).2⟩ })
 else bif w.dG==3 then (bif decide (w.Value<=1) then ((A9 g.bB.On w.Unit (w.Value==1)).1,{ g with bB:=⟨(A9 g.bB.On w.Unit (w.Value==1)).2,g.bB.bC⟩ }) else (false,g))
 else bif w.dG==11 then (bif decide (w.Value<=1) then ((A9 g.Released w.Unit (w.Value==1)).1,{ g with Released:=(A9 g.Released w.Unit (w.Value==1)).2 }) else (false,g))
 else bif w.dG==12 then (bif decide (w.Value<=1) then ((A9 g.aY w.Unit (w.Value==1)).1,{ g with aY:=(A9 g.aY w.Unit (w.Value==1)).2 }) else (false,g))
 else bif w.dG==10 then (bif !(decide (0<=w.Unit)&&decide (w.Unit<=23)) then (false,g) else (true,{ g with Uses:=abp w.Unit w.Value (LB w.Unit g.Uses) }))
 else (false,g)
deriving instance DecidableEq for mW,aJ,aM
theorem EB [DecidableEq α] {a b:List α} (h:¬ (a.length:Int)=b.length):(a==b)=false:=by
 simp only [beq_eq_false_iff_ne,ne_eq];intro e;rw [e] at h;exact h rfl
theorem aag [DecidableEq α] {x y:α} {a b:List α} (h:¬ x=y):(x::a==y::b)=false:=by
 simp only [beq_eq_false_iff_ne,ne_eq,List.cons.injEq];exact λ e=>h e.1
theorem aah [DecidableEq α] {x y:α} {a b:List α} (h:x=y):(x::a==y::b)=(a==b):=by
 subst h;rw [awX];simp
theorem apM {x y:aJ} (h:(!((x.gP==y.gP)&&((x.gZ.bT==y.gZ.bT)&&((x.gZ.dJ==y.gZ.dJ)&&true))))=false):x=y:=by
 obtain ⟨d,g,f⟩:=x;obtain ⟨d',g',f'⟩:=y;simp at h;obtain ⟨h1,h2,h3⟩:=h;subst h1 h2 h3;rfl
def ajD (a b:aM):Bool:=((((a.Setting==b.Setting)&&((a.bB.On==b.bB.On)&&(a.bB.bC==b.bB.bC)))&&(a.Uses==b.Uses))&&(a.Released==b.Released))&&(a.aY==b.aY)
theorem VR {a_:azp} {b_:azp} (h1:a_.length<=2000000):W (FN a_ b_) (λ r=>r=(a_==b_)):=by
 unfold FN;refine wi ?_ ?_<;>intro c1
 ·exact aC ((EB c1).symm)
 refine bS (λ (g1:Int)=>0<=g1∧g1<=a_.length∧(a_==b_)=(a_.drop g1.toNat==b_.drop g1.toNat)) (λ (g1:Int)=>(a_.length - g1).toNat) ?_ ?_
 ·intro ah g1 eU dB;obtain ⟨dZ,bW,bN⟩:=eU;unfold Tx;refine wi ?_ ?_<;>intro c2
  ·rw [drop_cons 0 (show g1.toNat<a_.length by omega),drop_cons 0 (show g1.toNat<b_.length by omega)] at bN;refine wm<|wi ?_ ?_<;>intro c3
   ·refine aC ?_;(rw [bN,aag c3])
   refine wn<|dB _ ?_ ?_
   ·(refine ⟨ob,ob,?_⟩; rw [bN,aah c3,show (g1+1).toNat=g1.toNat+1 by omega])
   exact ob
  refine aC ?_;(rw [bN,alp om,alp om]; rfl)
 (refine ⟨ob,ob,rfl⟩)
theorem IZ {a_:azq} {b_:azq} (h1:a_.length<=2000000):W (xQ a_ b_) (λ r=>r=(a_==b_)):=by
 unfold xQ;refine wi ?_ ?_<;>intro c1
 ·exact aC ((EB c1).symm)
 refine bS (λ (g1:Int)=>0<=g1∧g1<=a_.length∧(a_==b_)=(a_.drop g1.toNat==b_.drop g1.toNat)) (λ (g1:Int)=>(a_.length - g1).toNat) ?_ ?_
 ·intro ah g1 eU dB;obtain ⟨dZ,bW,bN⟩:=eU;unfold P9;refine wi ?_ ?_<;>intro c2
  ·rw [drop_cons false (show g1.toNat<a_.length by omega),drop_cons false (show g1.toNat<b_.length by omega)] at bN;refine wm<|bV ?_ ?_<;>intro c3
   ·have jZ:=c3;have c3:=eX c3;refine aC ?_;(rw [bN,aag (by simpa using jZ)])
   have jZ:=c3;have c3:=eX c3;refine wn<|dB _ ?_ ?_
   ·(refine ⟨ob,ob,?_⟩; rw [bN,aah (by simpa using jZ),show (g1+1).toNat=g1.toNat+1 by omega])
   exact ob
  refine aC ?_;(rw [bN,alp om,alp om]; rfl)
 (refine ⟨ob,ob,rfl⟩)
theorem VT {a_:bq} {b_:bq} (h1:a_.On.length<=2000000) (h2:a_.bC.length<=2000000):W (wE a_ b_) (λ r=>r=((a_.On==b_.On)&&(a_.bC==b_.bC))):=by
 unfold wE;refine aG (IZ ob) λ v1 hv1=>?_;subst v1;refine aG (gM λ hc=>kY (VR ob)) λ v2 hv2=>?_;subst v2;refine aC ?_;rfl
theorem Zh {a_:azw} {b_:azw} (h1:a_.length<=2000000):W (BA a_ b_) (λ r=>r=(a_==b_)):=by
 unfold BA;refine wi ?_ ?_<;>intro c1
 ·exact aC ((EB c1).symm)
 refine bS (λ (g1:Int)=>0<=g1∧g1<=a_.length∧(a_==b_)=(a_.drop g1.toNat==b_.drop g1.toNat)) (λ (g1:Int)=>(a_.length - g1).toNat) ?_ ?_
 ·intro ah g1 eU dB;obtain ⟨dZ,bW,bN⟩:=eU;unfold J6;refine wi ?_ ?_<;>intro c2
  ·rw [drop_cons bA (show g1.toNat<a_.length by omega),drop_cons bA (show g1.toNat<b_.length by omega)] at bN;refine wm<|bV ?_ ?_<;>intro c3
   ·have jZ:=c3;have c3:=eX c3;refine aC ?_;(rw [bN,aag (λ e=>by rw [e] at jZ; simp at jZ)])
   have jZ:=c3;have c3:=eX c3;refine wn<|dB _ ?_ ?_
   ·(refine ⟨ob,ob,?_⟩; rw [bN,aah (apM jZ),show (g1+1).toNat=g1.toNat+1 by omega])
   exact ob
  refine aC ?_;(rw [bN,alp om,alp om]; rfl)
 (refine ⟨ob,ob,rfl⟩)
theorem aeN {a_:aM} {b_:aM} (h1:Ai a_):W (Li a_ b_) (λ r=>r=ajD a_ b_):=by
 obtain ⟨z1,z2,z3,z4,z5,z6⟩:=h1;unfold Li;refine aG (VR ob) λ v1 hv1=>?_;subst v1;refine aG (gM λ hc=>kY (VT ob ob)) λ v2 hv2=>?_;subst v2;refine aG (gM λ hc=>kY (Zh ob)) λ v3 hv3=>?_;subst v3;refine aG (gM λ hc=>kY (IZ ob)) λ v4 hv4=>?_;subst v4;refine aG (gM λ hc=>kY (IZ ob)) λ v5 hv5=>?_;subst v5;refine aC ?_;rfl
theorem aeO {g_:aM} (h1:Ai g_):W (Lh g_) (λ r=>r=(g_.Setting,g_.bB.On,g_.bB.bC,g_.Uses,g_.Released,g_.aY)):=by
 obtain ⟨z1,z2,z3,z4,z5,z6⟩:=h1;unfold Lh;refine wm<|wm ?_;refine wm<|aC ?_;rfl
end Go.Proofs.YtifekdmmpbcdgaaGreatDoor
namespace Go.Proofs.YtifekdmmpbcdgaaGreatDoor.Sp
open Go.Ab
set_option maxRecDepth 100000
variable {l:azv} {d:azy}
theorem anD (h:((eD l != 0)||decide (32<(d.length:Int)))=true):iN l d=false:=by
 unfold iN;by_cases h1:eD l=0
 ·rw [h1] at h;have:32<(d.length:Int):=by simpa using h
  rw [decide_eq_false (p:=(d.length:Int)<=32) om];simp
 have:(eD l==0)=false:=by simpa using h1
 rw [this];rfl
theorem akU (h:((eD l != 0)||decide (32<(d.length:Int)))=false):iN l d=!(d.any (abh l.length)):=by
 have h1:eD l=0∧(d.length:Int)<=32:=by
  simp at h;omega
 unfold iN;rw [h1.1,decide_eq_true h1.2];rfl
variable {i:Nat}
theorem apN {b:azq} {j:Nat} {a:Bool} {g:Int} (hi:i<b.length) (hj:j<d.length) (hg:g=(i:Int)):(b.set i (b.getD i false||a||U4 (d.take j) i)).set i ((b.set i (b.getD i false||a||U4 (d.take j) i)).getD i false||((d.getD j eu).bY==g))=b.set i (b.getD i false||a||U4 (d.take (j+1)) i):=by
 subst hg;have hsn:U4 (d.take (j+1)) i=(U4 (d.take j) i||((d.getD j eu).bY==(i:Int))):=by
  unfold U4;rw [iM eu hj,auZ];simp
 rw [gB,if_pos ⟨rfl,hi⟩,aw9,hsn];simp only [Bool.or_assoc]
theorem qJ {x_:Int} {xW:Int} {z8:Int}:W (ru x_ xW z8) (λ r=>r=dS x_ xW z8):=by
 unfold ru;refine aC ?_;rfl
variable {l_:azv}
theorem BH (h1:l_.length<=2000000):W (tO l_) (λ r=>r=eD l_):=by
 unfold tO;refine bV ?_ ?_<;>intro c1
 ·have gD:=c1;have c1:=eX c1;refine aC ?_;(unfold eD; rw [gD]; rfl)
 have gD:=c1;have c1:=eX c1;refine bS (λ (g1:Int)=>0<=g1∧g1<=l_.length∧(∀j:Nat,(j:Int)<g1->VJ (l_.getD j aD)=false)) (λ (g1:Int)=>(l_.length - g1).toNat) ?_ ?_
 ·intro ah g1 eU dB;obtain ⟨dZ,bW,bN⟩:=eU;unfold Po;refine wi ?_ ?_<;>intro c2
  ·refine wn<|bV ?_ ?_<;>intro c3
   ·have jZ:=c3;have c3:=eX c3;refine aC ?_;(unfold eD; rw [zH (p:=VJ) aD (show g1.toNat<l_.length by omega) (show VJ _=true from jZ),ayS]; rfl)
   have jZ:=c3;have c3:=eX c3;refine wn<|dB _ ?_ ?_
   ·(refine ⟨ob,ob,fq bN dZ jZ⟩)
   exact ob
  have hbig:=any_none (p:=VJ) aD (λ j hj=>bN j om);have hb3:(decide (16<(l_.length:Int))||l_.any VJ)=false:=(by rw [gD,hbig]; rfl);refine bS (λ (g2:Int)=>0<=g2∧g2<=l_.length∧Xy g2.toNat (l_.drop g2.toNat)=Xy 0 l_) (λ (g2:Int)=>(l_.length - g2).toNat) ?_ ?_
  ·intro dY g2 nD rF;obtain ⟨sK,jN,nk⟩:=nD;unfold MO;obtain ⟨i,rfl⟩:=ahq sK;refine wi ?_ ?_<;>intro c4
   ·have hlt:i<l_.length:=om;have hb:=bN i om;have hbl:(l_.getD i aD).cK.length<=16:=(by unfold VJ at hb; have:=of_decide_eq_false hb; omega);rw [show ((i:Int).toNat)=i from rfl,drop_cons aD hlt,Xy] at nk;simp only [ahg] at *;refine wm<|aG (qJ) λ v13 NQ=>?_;subst v13;refine aG (gM λ hc=>kY (qJ)) λ v14 RQ=>?_;subst v14;refine aG (gM λ hc=>kY (qJ)) λ v15 acj=>?_;subst v15;refine bV ?_ ?_<;>intro c5
    ·have Di:=c5;have c5:=eX c5;rw [ajA] at Di;refine aC ?_;(unfold eD; rw [hb3,<- nk]; unfold AU; rw [show YV (l_.getD i aD) i=true from Di]; rfl)
    have Di:=c5;have c5:=eX c5;rw [ajA] at Di;refine bS (λ (g5:Int)=>0<=g5∧g5<=(l_.getD i aD).cK.length∧RY (if g5.toNat=0 then 0 else (l_.getD i aD).cK.getD (g5.toNat - 1) 0) ((l_.getD i aD).cK.drop g5.toNat)=RY 0 (l_.getD i aD).cK) (λ (g5:Int)=>((l_.getD i aD).cK.length - g5).toNat) ?_ ?_
    ·intro nP g5 XE XF;obtain ⟨TG,FV,Ns⟩:=XE;unfold MN;obtain ⟨k,rfl⟩:=ahq TG;simp only [ahg] at *;refine wi ?_ ?_<;>intro c6
     ·have hlk:k<(l_.getD i aD).cK.length:=om;have hst:=agz hlk rfl;rw [hst] at Ns;have e1:(((k:Int) - 1).toNat)=k - 1:=om;simp only [e1,ahg] at *;refine wn<|aG (qJ) λ v18 asi=>?_;subst v18;refine wm<|bV ?_ ?_<;>intro c7
      ·have YW:=c7;have c7:=eX c7;refine aC ?_;(unfold eD; rw [hb3,<- nk]; unfold AU; rw [show YV (l_.getD i aD) i=false from Di,<- Ns,YW]; rfl)
      have YW:=c7;have c7:=eX c7;refine wn<|XF _ ?_ ?_
      ·(refine ⟨ob,ob,?_⟩; rw [<- Ns,YW]; rw [show ((k:Int)+1).toNat=k+1 by omega,if_neg om]; rfl)
      exact ob
     refine wn<|rF _ ?_ ?_
     ·(refine ⟨ob,ob,?_⟩; rw [<- nk]; unfold AU; rw [show YV (l_.getD i aD) i=false from Di,<- Ns,show k=(l_.getD i aD).cK.length by omega,aqu,show ((i:Int)+1).toNat=i+1 by omega]; rfl)
     exact ob
    (refine ⟨ob,ob,rfl⟩)
   refine aC ?_;(unfold eD; rw [hb3,<- nk,show ((i:Int).toNat)=i from rfl,show i=l_.length by omega,aqu]; rfl)
  (refine ⟨ob,ob,rfl⟩)
 (refine ⟨ob,ob,λ j hj=>by omega⟩)
variable {d_:azy}
theorem TH (h1:l_.length<=2000000) (h2:d_.length<=2000000):W (Cu l_ d_) (λ r=>r=iN l_ d_):=by
 unfold Cu;refine aG (BH ob) λ v1 hv1=>?_;subst v1;refine bV ?_ ?_<;>intro c1
 ·have gD:=c1;have c1:=eX c1;exact aC ((anD gD).symm)
 have gD:=c1;have c1:=eX c1;have hdf:=akU gD;refine bS (λ (g1:Int)=>0<=g1∧g1<=d_.length∧(d_.drop g1.toNat).any (abh l_.length)=d_.any (abh l_.length)) (λ (g1:Int)=>(d_.length - g1).toNat) ?_ ?_
 ·intro ah g1 eU dB;obtain ⟨dZ,bW,bN⟩:=eU;unfold PG;refine wi ?_ ?_<;>intro c2
  ·have hlt:g1.toNat<d_.length:=om;rw [drop_cons eu hlt,aua] at bN;refine wm<|aG (qJ) λ v8 BG=>?_;subst v8;refine aG (gM λ hc=>kY (qJ)) λ v9 Xx=>?_;subst v9;refine aG (gM λ hc=>kY (qJ)) λ v10 Gq=>?_;subst v10;refine bV ?_ ?_<;>intro c3
   ·have jZ:=c3;have c3:=eX c3;have hb:=(agA l_.length (d_.getD g1.toNat eu)).symm.trans jZ;refine aC ?_;(rw [hdf,<- bN,hb]; rfl)
   have jZ:=c3;have c3:=eX c3;have hb:=(agA l_.length (d_.getD g1.toNat eu)).symm.trans jZ;refine wn<|dB _ ?_ ?_
   ·(refine ⟨ob,ob,?_⟩; rw [<- bN,hb,show (g1+1).toNat=g1.toNat+1 by omega]; rfl)
   exact ob
  refine aC ?_;(rw [hdf,<- bN,show g1.toNat=d_.length by omega,aqu]; rfl)
 (refine ⟨ob,ob,rfl⟩)
theorem acy (h1:l_.length<=2000000) (h2:d_.length<=2000000):W (Hu l_ d_) (λ r=>r=zJ l_ d_):=by
 unfold Hu;refine aG (BH ob) λ v1 hv1=>?_;subst v1;refine bV ?_ ?_<;>intro c1
 ·have gD:=c1;have c1:=eX c1;refine aC ?_;(unfold zJ; rw [gD]; rfl)
 have gD:=c1;have c1:=eX c1;refine aG (TH ob ob) λ v2 hv2=>?_;subst v2;refine bV ?_ ?_<;>intro c2
 ·have kM:=c2;have c2:=eX c2;refine aC ?_;(unfold zJ; rw [gD,kM]; rfl)
 have kM:=c2;have c2:=eX c2;refine aC ?_;(unfold zJ; rw [gD,kM]; rfl)
theorem VU (h1:Oe l_ d_):W (FE l_ d_) (λ r=>r=gQ l_ d_):=by
 have hv:=h1;obtain ⟨vl,vd,vs,_,vx⟩:=h1;unfold FE;refine wm<|bS (λ (g1:Int×azq) => -1<=g1.1∧g1.1<l_.length∧TF l_ d_ (l_.length - 1 - g1.1).toNat g1.2) (λ (g1:Int×azq)=>(g1.1+1).toNat) ?_ ?_
 ·intro ah g1 eU dB;obtain ⟨dZ,bW,bN⟩:=eU;unfold Tq;have hbl:=bN.len;refine wi ?_ ?_<;>intro c1
  ·have hst:=bN.step hv (show (l_.length - 1 - g1.1).toNat<l_.length by omega);have hp:=vs g1.1.toNat om;rw [show l_.length - 1 - ((l_.length:Int) - 1 - g1.1).toNat=g1.1.toNat by omega,show ((l_.length:Int) - 1 - g1.1).toNat+1=((l_.length:Int) - 1 - (g1.1 - 1)).toNat by omega] at hst;refine wm<|wn ?_;refine bS (λ (g4:Int×azq)=>0<=g4.1∧g4.1<=d_.length∧g4.2=g1.2.set g1.1.toNat (g1.2.getD g1.1.toNat false||(l_.getD g1.1.toNat aD).gF||U4 (d_.take g4.1.toNat) g1.1.toNat)) (λ (g4:Int×azq)=>(d_.length - g4.1).toNat) ?_ ?_
   ·intro gW g4 I5 Gr;obtain ⟨xS,mH,H9⟩:=I5;unfold Tn;have aw0:g4.2.length=l_.length:=(by rw [H9,ahl,hbl]);refine wi ?_ ?_<;>intro c2
    ·refine wm<|wm ?_;refine Gr _ ?_ ?_
     ·(refine ⟨ob,ob,?_⟩; dsimp only; rw [show (g4.1+1).toNat=g4.1.toNat+1 by omega,H9]; exact apN om om om)
     exact ob
    have agN:g4.2=g1.2.set g1.1.toNat (g1.2.getD g1.1.toNat false||(l_.getD g1.1.toNat aD).gF||U4 d_ g1.1.toNat):=(by rw [H9,show g4.1.toNat=d_.length by omega,alj]);have hgi:g4.2.getD g1.1.toNat false=(g1.2.getD g1.1.toNat false||(l_.getD g1.1.toNat aD).gF||U4 d_ g1.1.toNat):=(by rw [agN,gB,if_pos ⟨rfl,om⟩]);refine wm<|bV ?_ ?_<;>intro c3
    ·have jZ:=c3;have c3:=eX c3;have c3b:=jZ;rw [hgi] at c3b;refine wm<|dB _ ?_ ?_
     ·(refine ⟨ob,ob,?_⟩; dsimp only; unfold VN at hst; rw [c3b] at hst; rw [agN]; exact hst)
     exact ob
    have jZ:=c3;have c3:=eX c3;have c3b:=jZ;rw [hgi] at c3b;refine wn<|dB _ ?_ ?_
    ·(refine ⟨ob,ob,?_⟩; dsimp only; unfold VN at hst; rw [c3b] at hst; rw [agN]; exact hst)
    exact ob
   (refine ⟨ob,ob,?_⟩; dsimp only; rw [show (0:Int).toNat=0 from rfl,axa,show U4 [] g1.1.toNat=false from rfl,ayC])
  exact aC (TF.done (by rw [show l_.length=((l_.length:Int) - 1 - g1.1).toNat by omega]; exact bN))
 (refine ⟨ob,ob,?_⟩; dsimp only; rw [show ((l_.length:Int) - 1 - (l_.length - 1)).toNat=0 by omega]; exact TF.start hv)
theorem acz {s_:av} {v_:Int} (h1:s_.cK.length<=2000000):W (Hw s_ v_) (λ r=>r=(bif decide (lvN s_.cK v_<s_.cK.length) then (lvN s_.cK v_:Int) else -1)):=by
 unfold Hw;refine bS (λ (g1:Int)=>0<=g1∧g1<=s_.cK.length∧(∀j:Nat,(j:Int)<g1->s_.cK.getD j 0<v_)) (λ (g1:Int)=>(s_.cK.length - g1).toNat) ?_ ?_
 ·intro ah g1 eU dB;obtain ⟨dZ,bW,bN⟩:=eU;unfold PI;refine wi ?_ ?_<;>intro c1
  ·refine wn<|wi ?_ ?_<;>intro c2
   ·refine aC ?_;(rw [<- anr (k:=g1.toNat) om (λ j hj=>bN j om) (λ _=>c2),decide_eq_true om]; simp only [cond_true]; omega)
   refine wn<|dB _ ?_ ?_
   ·(refine ⟨ob,ob,fq bN dZ c2⟩)
   exact ob
  refine aC ?_;(rw [<- anr (k:=g1.toNat) om (λ j hj=>bN j om) (λ h=>by omega),decide_eq_false om]; rfl)
 (refine ⟨ob,ob,λ j hj=>by omega⟩)
theorem BI {r_:bq} {k_:Int} (h1:0<=k_) (h2:k_<l_.length) (h3:Rok l_ r_):W (tT l_ r_ k_) (λ r=>r=nG l_ r_ k_.toNat):=by
 obtain ⟨r1,r2,r3⟩:=h3;have r4:=r3 k_.toNat om;unfold tT;refine wm<|wn ?_;refine aC ?_;rfl
variable {r:bq} {u:azq} {ld:azp}
theorem aw1 (h:(u.getD i false&&!r.On.getD i false)=true):Qk l r u ld i=true:=by
 simp only [aei] at h;unfold Qk;rw [h.1,h.2]; rfl
theorem aw2 (h:(u.getD i false&&!r.On.getD i false)=false) (h2:(!r.On.getD i false)=true):Qk l r u ld i=false:=by
 rw [h2,ayB] at h;unfold Qk;rw [h2,h]; rfl
theorem aue (h2:(!r.On.getD i false)=false):Qk l r u ld i=(decide ((l.getD i aD).iG<ld.getD i 0)||(decide (0<=(l.getD i aD).aT)&&(!r.On.getD (l.getD i aD).aT.toNat false||decide (nG l r (l.getD i aD).aT.toNat<nG l r i+(l.getD i aD).iw)))):=by
 unfold Qk;rw [h2,Bool.or_comm]; rfl
theorem agO (hi:i<l.length) (h:Qk l r (gQ l d) (lZ l d) i=true):zN l r d=false:=by
 unfold zN;rw [Dj hi (by rw [h]; rfl)];rfl
theorem agP (h:∀i,i<l.length->Qk l r (gQ l d) (lZ l d) i=false):zN l r d=!(d.any (abj l r)):=by
 unfold zN;rw [Ql λ j hj=>(by rw [h j hj]; rfl)];rfl
variable {s:DS}
theorem akV (h:(!u.getD i false)=true):FR l u i s=false:=by
 unfold FR;rw [show u.getD i false=false by simpa using h];rfl
theorem anE {a n:Nat} (h:decide ((bif decide (a<n) then (a:Int) else -1)<0)=true):decide (a<n)=false:=by
 cases hd:decide (a<n) with
 | false=>rfl
 | true=>rw [hd] at h; have:=of_decide_eq_true h; simp only [cond_true] at this; omega
theorem anF {a n:Nat} (h:decide ((bif decide (a<n) then (a:Int) else -1)<0)=false):decide (a<n)=true:=by
 cases hd:decide (a<n) with
 | true=>rfl
 | false=>rw [hd] at h; cases h
theorem aiC (h0:(zJ l d != 0)=false) (e:(s,(i:Int))=Uw l d):(IB,9)=qH l d:=by
 unfold qH;rw [h0,<- e,decide_eq_true (show (0:Int)<=(s,(i:Int)).2 by dsimp only; omega)];rfl
theorem ads (h0:(zJ l d != 0)=false) (hdr:iN l d=true) (e:(s,(-1:Int))=Uw l d) (hr:Rok l ⟨gQ l d,s.lv⟩):qH l d=bif !zN l ⟨gQ l d,s.lv⟩ d then (IB,9) else (⟨gQ l d,s.lv⟩,0):=by
 unfold qH;have hmf:fH l ⟨gQ l d,s.lv⟩ d=zN l ⟨gQ l d,s.lv⟩ d:=by
  unfold fH;rw [EP.2 ⟨Qm hdr,hr⟩,hdr];rfl
 rw [h0,<- e];simp only [show decide ((0:Int) <= -1)=false from rfl,avB,hmf,cond_false]
theorem anG (hu:u.getD i false=true) (hi:i<s.lv.length):nG l ⟨u,(Ls l u i s).lv⟩ i+(l.getD i aD).iw=oG l i s:=by
 unfold nG oG Ls;rw [hu];simp only [as0,cond_false];rw [gB,if_pos ⟨rfl,hi⟩];rfl
theorem anH (hu:u.getD i false=true) (hp:decide (0<=(l.getD i aD).aT)=true):(IY s.a).set (l.getD i aD).aT.toNat (if oG l i s > (IY s.a).getD (l.getD i aD).aT.toNat 0 then oG l i s else (IY s.a).getD (l.getD i aD).aT.toNat 0)=IY (Ls l u i s).a:=by
 unfold Ls;rw [hu,hp,Qn];simp only [as0,cond_false,aq0];by_cases h:(s.a.getD (l.getD i aD).aT.toNat RX).Ah<oG l i s
 ·rw [decide_eq_true h,cond_true,agJ,if_pos h]
 rw [decide_eq_false h,cond_false,if_neg h,VQ _ _ _ (Qn _ _).symm]
theorem akW (hp:decide (0<=(l.getD i aD).aT)=false):IY s.a=IY (Ls l u i s).a:=by
 unfold Ls;rw [hp];cases u.getD i false<;>rfl
theorem anI (h:(!u.getD i false)=true):Ls l u i s=s:=by
 unfold Ls;rw [h];rfl
theorem acA (h1:Oe l_ d_):W (Hy l_ d_) (λ r=>r=lZ l_ d_):=by
 have hv:=h1;obtain ⟨vl,vd,vs,_,vx⟩:=h1;unfold Hy;refine wm<|bS (λ (g1:Int×azp) => -1<=g1.1∧g1.1<l_.length∧Nr l_ d_ (l_.length - 1 - g1.1).toNat g1.2) (λ (g1:Int×azp)=>(g1.1+1).toNat) ?_ ?_
 ·intro ah g1 eU dB;obtain ⟨dZ,bW,bN⟩:=eU;unfold PL;have hbl:=bN.len;have hsm:=bN.small hv om;refine wi ?_ ?_<;>intro c1
  ·have hst:=bN.step hv (show (l_.length - 1 - g1.1).toNat<l_.length by omega);have hp:=vs g1.1.toNat om;rw [show l_.length - 1 - ((l_.length:Int) - 1 - g1.1).toNat=g1.1.toNat by omega,show ((l_.length:Int) - 1 - g1.1).toNat+1=((l_.length:Int) - 1 - (g1.1 - 1)).toNat by omega] at hst;refine bS (λ (g4:Int×azp)=>0<=g4.1∧g4.1<=d_.length∧g4.2=g1.2.set g1.1.toNat (g1.2.getD g1.1.toNat 0+xY (d_.take g4.1.toNat) g1.1.toNat)) (λ (g4:Int×azp)=>(d_.length - g4.1).toNat) ?_ ?_
   ·intro gW g4 I5 Gr;obtain ⟨xS,mH,H9⟩:=I5;unfold PK;have aw0:g4.2.length=l_.length:=(by rw [H9,ahl,hbl]);refine wi ?_ ?_<;>intro c2
    ·have hx:=vx _ (jq eu (show g4.1.toNat<d_.length by omega));have hdb:=VO (d:=d_) (λ x hx=>by have:=vx x hx; omega) g1.1.toNat g4.1.toNat om;have hbi:=hsm g1.1.toNat;have hgi:g4.2.getD g1.1.toNat 0=g1.2.getD g1.1.toNat 0+xY (d_.take g4.1.toNat) g1.1.toNat:=(by rw [H9,gB,if_pos ⟨rfl,om⟩]);refine wn<|bV ?_ ?_<;>intro c3
     ·have jZ:=c3;have c3:=eX c3;refine wm<|wm ?_;refine Gr _ ?_ ?_
      ·(refine ⟨ob,ob,?_⟩; dsimp only; rw [show (g4.1+1).toNat=g4.1.toNat+1 by omega,hgi,H9,aw9,Xz om,show ((g1.1.toNat:Int))=g1.1 by omega,jZ]; simp only [cond_true]; rw [Int.add_assoc])
      exact ob
     have jZ:=c3;have c3:=eX c3;refine wn<|Gr _ ?_ ?_
     ·(refine ⟨ob,ob,?_⟩; dsimp only; rw [show (g4.1+1).toNat=g4.1.toNat+1 by omega,H9,Xz om,show ((g1.1.toNat:Int))=g1.1 by omega,jZ]; rfl)
     exact ob
    have hdb:=VO (d:=d_) (λ x hx=>by have:=vx x hx; omega) g1.1.toNat d_.length (afg _);rw [alj] at hdb;have agN:g4.2=g1.2.set g1.1.toNat (g1.2.getD g1.1.toNat 0+xY d_ g1.1.toNat):=(by rw [H9,show g4.1.toNat=d_.length by omega,alj]);have hgi:g4.2.getD g1.1.toNat 0=g1.2.getD g1.1.toNat 0+xY d_ g1.1.toNat:=(by rw [agN,gB,if_pos ⟨rfl,om⟩]);have hbi:=hsm g1.1.toNat;refine wn<|bV ?_ ?_<;>intro c4
    ·have uq:=c4;have c4:=eX c4;have hgp:g4.2.getD (l_.getD g1.1.toNat aD).aT.toNat 0=g1.2.getD (l_.getD g1.1.toNat aD).aT.toNat 0:=(by rw [agN,gB,if_neg om]);have hbp:=hsm (l_.getD g1.1.toNat aD).aT.toNat;refine wm<|wm ?_;refine wn<|dB _ ?_ ?_
     ·(refine ⟨ob,ob,?_⟩; dsimp only; unfold Rv at hst; rw [uq] at hst; rw [hgi,hgp,agN]; exact hst)
     exact ob
    have uq:=c4;have c4:=eX c4;refine wn<|dB _ ?_ ?_
    ·(refine ⟨ob,ob,?_⟩; dsimp only; unfold Rv at hst; rw [uq] at hst; rw [agN]; exact hst)
    exact ob
   (refine ⟨ob,ob,?_⟩; dsimp only; rw [show (0:Int).toNat=0 from rfl,axa,show xY [] g1.1.toNat=0 from rfl,Int.add_zero,set_self])
  exact aC (Nr.done (by rw [show l_.length=((l_.length:Int) - 1 - g1.1).toNat by omega]; exact bN))
 (refine ⟨ob,ob,?_⟩; dsimp only; rw [show ((l_.length:Int) - 1 - (l_.length - 1)).toNat=0 by omega]; exact Nr.start hv)
theorem TI {r_:bq} (h1:Oe l_ d_) (h2:Rok l_ r_):W (Cv l_ r_ d_) (λ r=>r=zN l_ r_ d_):=by
 have hv:=h1;have hr:=h2;have hvb:=λ i hi=>VL hv hr i hi;have hul:=EO l_ d_;have hll:=Uv l_ d_;obtain ⟨vl,vd,vs,_,vx⟩:=h1;obtain ⟨r1,r2,r3⟩:=h2;unfold Cv;refine aG (VU ob) λ v1 hv1=>?_;subst v1;refine aG (acA ob) λ v2 hv2=>?_;subst v2;refine bS (λ (g1:Int)=>0<=g1∧g1<=l_.length∧(∀j:Nat,(j:Int)<g1->Qk l_ r_ (gQ l_ d_) (lZ l_ d_) j=false)) (λ (g1:Int)=>(l_.length - g1).toNat) ?_ ?_
 ·intro ah g1 eU dB;obtain ⟨dZ,bW,bN⟩:=eU;unfold PN;refine wi ?_ ?_<;>intro c1
  ·have hp:=vs g1.toNat om;have hv1:=hvb g1.toNat om;have hv2:=hvb (l_.getD g1.toNat aD).aT.toNat;refine wm<|wn ?_;refine bV ?_ ?_<;>intro c2
   ·have kM:=c2;have c2:=eX c2;exact aC ((agO (i:=g1.toNat) om (aw1 kM)).symm)
   have kM:=c2;have c2:=eX c2;refine wn<|bV ?_ ?_<;>intro c3
   ·have jZ:=c3;have c3:=eX c3;refine wn<|dB _ ?_ ?_
    ·(refine ⟨ob,ob,fq bN dZ (aw2 kM jZ)⟩)
    exact ob
   have jZ:=c3;have c3:=eX c3;refine wn<|aP (by (intro _ q; have:=of_decide_eq_true q; omega)) ?_;refine aG (gM λ hc hc2 hc3=>kY (BI (of_decide_eq_true hc2) (by have:=of_decide_eq_true hc2; omega) hr)) λ v7 hv7=>?_;subst v7;refine aG (gM λ hc hc2 hc3=>kY (BI om om hr)) λ v8 BG=>?_;subst v8;refine aP (by (intro _ q; have:=of_decide_eq_true q; have:=hv2 om; unfold ay; omega)) ?_;refine bV ?_ ?_<;>intro c4
   ·have uq:=c4;have c4:=eX c4;exact aC ((agO (i:=g1.toNat) om ((aue jZ).trans uq)).symm)
   have uq:=c4;have c4:=eX c4;refine wn<|dB _ ?_ ?_
   ·(refine ⟨ob,ob,fq bN dZ ((aue jZ).trans uq)⟩)
   exact ob
  refine bS (λ (g2:Int)=>0<=g2∧g2<=d_.length∧(d_.drop g2.toNat).any (abj l_ r_)=d_.any (abj l_ r_)) (λ (g2:Int)=>(d_.length - g2).toNat) ?_ ?_
  ·intro dY g2 nD rF;obtain ⟨sK,jN,nk⟩:=nD;unfold MZ;refine wi ?_ ?_<;>intro c5
   ·have hlt:g2.toNat<d_.length:=om;have hx:=vx _ (jq eu hlt);rw [drop_cons eu hlt,aua] at nk;refine wn<|aG (BI hx.1 hx.2.1 hr) λ v13 NQ=>?_;subst v13;refine aG (qJ) λ v14 RQ=>?_;subst v14;refine bV ?_ ?_<;>intro c6
    ·have c6o:=c6;have c6:=eX c6;refine aC ?_;(rw [agP (λ j hj=>bN j om),<- nk,show abj l_ r_ (d_.getD g2.toNat eu)=true from c6o]; rfl)
    have c6o:=c6;have c6:=eX c6;refine wn<|rF _ ?_ ?_
    ·(refine ⟨ob,ob,?_⟩; rw [<- nk,show abj l_ r_ (d_.getD g2.toNat eu)=false from c6o,show (g2+1).toNat=g2.toNat+1 by omega]; rfl)
    exact ob
   refine aC ?_;(rw [agP (λ j hj=>bN j om),<- nk,show g2.toNat=d_.length by omega,aqu]; rfl)
  (refine ⟨ob,ob,rfl⟩)
 (refine ⟨ob,ob,λ j hj=>by omega⟩)
theorem TJ (h1:l_.length<=2000000) (h2:d_.length<=2000000):W (Cw l_ d_) (λ r=>r=qH l_ d_):=by
 unfold Cw;refine aG (acy ob ob) λ v1 hv1=>?_;subst v1;refine bV ?_ ?_<;>intro c1
 ·have gD:=c1;have c1:=eX c1;refine aC ?_;(unfold qH; rw [gD]; rfl)
 have gD:=c1;have c1:=eX c1;have hdr:=anp (show zJ l_ d_=0 by simpa using gD);have hv:=zK hdr;obtain ⟨vl,vd,vs,vlv,vx⟩:=id hv;have hul:=EO l_ d_;refine aG (VU hv) λ v2 hv2=>?_;subst v2;refine wm<|bS (λ (g1:Int×azp×azp)=>0<=g1.1∧g1.1<=d_.length∧g1.2.1=IY (Az l_.length d_ g1.1.toNat)∧g1.2.2=List.replicate l_.length 0) (λ (g1:Int×azp×azp)=>(d_.length - g1.1).toNat) ?_ ?_
 ·intro ah g1 eU dB;obtain ⟨dZ,bW,bN,kW⟩:=eU;unfold PO;have hgl:g1.2.1.length=l_.length:=(by rw [bN,agK,XA]);refine wi ?_ ?_<;>intro c2
  ·have hx:=vx _ (jq eu (show g1.1.toNat<d_.length by omega));refine wm<|wm ?_;refine dB _ ?_ ?_
   ·(refine ⟨ob,ob,?_,kW⟩; dsimp only; rw [show (g1.1+1).toNat=g1.1.toNat+1 by omega,aiy,bN])
   exact ob
  refine wn<|bS (λ (g2:Int×azp×azp) => -1<=g2.1∧g2.1<l_.length∧∃s:DS,g2.2.1=IY s.a∧g2.2.2=s.lv∧DOk l_ s∧apE l_ s∧abk l_ (gQ l_ d_) (g2.1+1).toNat s=Uw l_ d_) (λ (g2:Int×azp×azp)=>(g2.1+1).toNat) ?_ ?_
  ·intro dY g2 nD rF;obtain ⟨sK,jN,nk⟩:=nD;unfold M0;obtain ⟨s,e1,e2,e3,e4,e5⟩:=nk;have hal:g2.2.1.length=l_.length:=(by rw [e1,agK,e3.al]);have hll:g2.2.2.length=l_.length:=(by rw [e2,e3.ll]);refine wi ?_ ?_<;>intro c3
   ·have hp:=vs g2.1.toNat om;rw [show (g2.1+1).toNat=g2.1.toNat+1 by omega,abk] at e5;refine wn<|bV ?_ ?_<;>intro c4
    ·have uq:=c4;have c4:=eX c4;refine wn<|rF _ ?_ ?_
     ·(refine ⟨ob,ob,s,e1,e2,e3,e4,?_⟩; dsimp only; rw [show (g2.1 - 1+1).toNat=g2.1.toNat by omega]; rw [akV uq,anI uq] at e5; exact e5)
     exact ob
    have uq:=c4;have c4:=eX c4;have hu:(gQ l_ d_).getD g2.1.toNat false=true:=(by simpa using uq);refine wm<|aG (acz ob) λ v11 anJ=>?_;subst v11;rw [e1,Qn,show lvN (l_.getD g2.1.toNat aD).cK (s.a.getD g2.1.toNat RX).Ah=AY l_ g2.1.toNat s from rfl];have hgs:(g2.2.2.set g2.1.toNat (bif decide (AY l_ g2.1.toNat s<(l_.getD g2.1.toNat aD).cK.length) then (AY l_ g2.1.toNat s:Int) else -1)).getD g2.1.toNat 0=(bif decide (AY l_ g2.1.toNat s<(l_.getD g2.1.toNat aD).cK.length) then (AY l_ g2.1.toNat s:Int) else -1):=(by rw [gB,if_pos ⟨rfl,om⟩]);refine wn ?_;unfold Dg;refine wn<|bV ?_ ?_<;>intro c5
    ·have Di:=c5;have c5:=eX c5;rw [hgs] at Di;have h5:=anE Di;have h6:decide ((AY l_ g2.1.toNat s:Int)<(l_.getD g2.1.toNat aD).cK.length)=false:=(by simpa using h5);exact aC (aiC gD (by unfold FR at e5; rw [hu,h6] at e5; exact e5))
    have Di:=c5;have c5:=eX c5;rw [hgs] at Di;have h5:=anF Di;have h6:decide ((AY l_ g2.1.toNat s:Int)<(l_.getD g2.1.toNat aD).cK.length)=true:=(by simpa using h5);have hf:FR l_ (gQ l_ d_) g2.1.toNat s=false:=(by unfold FR; rw [hu,h6]; rfl);rw [hf] at e5;have hlo:=apD (u:=gQ l_ d_) (i:=g2.1.toNat) e3;have hlv:=apJ hf e4;have hR:=anA hul hlo hlv;have hs:(Ls l_ (gQ l_ d_) g2.1.toNat s).lv=s.lv.set g2.1.toNat (AY l_ g2.1.toNat s:Int):=(by unfold Ls; rw [hu]; rfl);have hvo:=anG (l:=l_) (u:=gQ l_ d_) hu (show g2.1.toNat<s.lv.length by rw [e3.ll]; omega);have hvb:=VL hv hR g2.1.toNat om;rw [h5]; simp only [cond_true]; rw [e2,<- hs];refine wn<|bV ?_ ?_<;>intro c6
    ·have c6o:=c6;have c6:=eX c6;refine wn<|aG (BI om om hR) λ v10 Gq=>?_;subst v10;refine wn<|aP (by (unfold ay; omega)) ?_;refine wm<|rF _ ?_ ?_
     ·(refine ⟨ob,ob,Ls l_ (gQ l_ d_) g2.1.toNat s,?_,rfl,hlo,hlv,?_⟩; (dsimp only; rw [hvo,e1]; exact anH hu c6o); (dsimp only; rw [show (g2.1 - 1+1).toNat=g2.1.toNat by omega]; exact e5))
     exact ob
    have c6o:=c6;have c6:=eX c6;refine wn<|rF _ ?_ ?_
    ·(refine ⟨ob,ob,Ls l_ (gQ l_ d_) g2.1.toNat s,?_,rfl,hlo,hlv,?_⟩; (dsimp only; rw [e1]; exact akW c6o); (dsimp only; rw [show (g2.1 - 1+1).toNat=g2.1.toNat by omega]; exact e5))
    exact ob
   rw [show (g2.1+1).toNat=0 by omega,abk] at e5;have hrk:Rok l_ ⟨gQ l_ d_,g2.2.2⟩:=(by rw [e2]; exact anA hul e3 e4);refine aG (TI hv hrk) λ v12 VF=>?_;subst v12;refine bV ?_ ?_<;>intro c7
   ·have YW:=c7;have c7:=eX c7;refine aC ?_;(rw [ads gD hdr e5 (by rw [<- e2]; exact hrk),<- e2,YW]; rfl)
   have YW:=c7;have c7:=eX c7;refine aC ?_;(rw [ads gD hdr e5 (by rw [<- e2]; exact hrk),<- e2,YW]; rfl)
  (refine ⟨ob,ob,ds0 l_ d_,?_,kW,asf _ _,?_,?_⟩; (dsimp only; rw [bN,show g1.1.toNat=d_.length by omega]; rfl); (intro j hj; show 0<=(List.replicate l_.length (0:Int)).getD j 0∧(List.replicate l_.length (0:Int)).getD j 0<_; rw [zL]; have:=vs j hj; omega); (dsimp only; rw [show ((l_.length:Int) - 1+1).toNat=l_.length by omega]; rfl))
 (refine ⟨ob,ob,?_,rfl⟩; show _=IY (List.replicate l_.length (⟨0,-1,-1⟩:Dem)); unfold IY; rw [List.map_replicate]; rfl)
end Go.Proofs.YtifekdmmpbcdgaaGreatDoor.Sp
namespace Go.Proofs.YtifekdmmpbcdgaaGreatDoor
open Go.Ab
set_option maxRecDepth 100000
theorem agQ (n lo hi:Int) (b:Bool):(((decide (n<lo))||(decide (hi<n)))||b)=(!(dS n lo hi)||b):=by
 unfold dS;congr 1;by_cases h1:n<lo<;>by_cases h2:hi<n<;>simp [h1,h2]<;>omega
theorem akX {l:azp} {x y:Int} (h:l.contains x=false) (hy:¬ y=x):(l++[y]).contains x=false:=by
 rw [List.contains_eq_any_beq] at h ⊢;rw [auZ,h];simpa using λ e=>hy e.symm
theorem aiD (n:Nat):decide ((1:Int)<=(n:Int))=decide ((0:Int)<(n:Int)):=by
 rw [decide_eq_decide]; omega
theorem aw3 {c:aF}:((decide ((1:Int)<=(c.aW.length:Int))&&decide ((0:Int)<(c.aO.length:Int)))&&(zF 0 ((c.aW.length:Int) - 1) [] c.aO))=(decide (0<(c.aO.length:Int))&&zF 0 ((c.aW.length:Int) - 1) [] c.aO):=by
 by_cases h:1<=(c.aW.length:Int)
 ·rw [decide_eq_true h,aq0]
 rw [decide_eq_false h,Bool.false_and,Bool.false_and];symm;rw [als];by_cases h2:0<(c.aO.length:Int)
 ·right;cases hd:zF 0 ((c.aW.length:Int) - 1) [] c.aO with
  | false=>rfl
  | true=>have:=apx _ _ hd om; omega
 left; exact decide_eq_false h2
theorem akY {l_:azp} {x_:Int} (h1:l_.length<=2000000):W (aad l_ x_) (λ r=>r=l_.contains x_):=by
 unfold aad;refine bS (λ (g1:Int)=>0<=g1∧g1<=l_.length∧(l_.take g1.toNat).contains x_=false) (λ (g1:Int)=>(l_.length - g1).toNat) ?_ ?_
 ·intro ah g1 eU dB;obtain ⟨dZ,bW,bN⟩:=eU;unfold aa5;refine wi ?_ ?_<;>intro c1
  ·refine wn<|wi ?_ ?_<;>intro c2
   ·exact aC ((List.elem_eq_true_of_mem (by rw [<- c2]; exact getD_in 0 om)).symm)
   refine wn<|dB _ ?_ ?_
   ·(refine ⟨ob,ob,?_⟩; rw [show (g1+1).toNat=g1.toNat+1 by omega,iM 0 om]; exact akX bN c2)
   exact ob
  refine aC ?_;(rw [show g1.toNat=l_.length by omega,alj] at bN; exact bN.symm)
 (refine ⟨ob,ob,rfl⟩)
theorem agR {a_:azp} {b_:azp} (h1:a_.length<=2000000):W (JI a_ b_) (λ r=>r=(a_==b_)):=by
 unfold JI;refine wi ?_ ?_<;>intro c1
 ·exact aC ((EB c1).symm)
 refine bS (λ (g1:Int)=>0<=g1∧g1<=a_.length∧(a_==b_)=(a_.drop g1.toNat==b_.drop g1.toNat)) (λ (g1:Int)=>(a_.length - g1).toNat) ?_ ?_
 ·intro ah g1 eU dB;obtain ⟨dZ,bW,bN⟩:=eU;unfold Vu;refine wi ?_ ?_<;>intro c2
  ·rw [drop_cons 0 (show g1.toNat<a_.length by omega),drop_cons 0 (show g1.toNat<b_.length by omega)] at bN;refine wm<|wi ?_ ?_<;>intro c3
   ·refine aC ?_;(rw [bN,aag c3])
   refine wn<|dB _ ?_ ?_
   ·(refine ⟨ob,ob,?_⟩; rw [bN,aah c3,show (g1+1).toNat=g1.toNat+1 by omega])
   exact ob
  refine aC ?_;(rw [bN,alp om,alp om]; rfl)
 (refine ⟨ob,ob,rfl⟩)
theorem zR {l_:azp} {xW:Int} {z8:Int} (h1:l_.length<=2000000):W (mq l_ xW z8) (λ r=>r=zF xW z8 [] l_):=by
 unfold mq;refine bS (λ (g1:Int)=>0<=g1∧g1<=l_.length∧zF xW z8 (l_.take g1.toNat) (l_.drop g1.toNat)=zF xW z8 [] l_) (λ (g1:Int)=>(l_.length - g1).toNat) ?_ ?_
 ·intro ah g1 eU dB;obtain ⟨dZ,bW,bN⟩:=eU;unfold FC;refine wi ?_ ?_<;>intro c1
  ·rw [drop_cons 0 (show g1.toNat<l_.length by omega)] at bN;refine wm<|aG (gM λ hc=>kY (akY ob)) λ v3 hv3=>?_;subst v3;refine bV ?_ ?_<;>intro c2
   ·have kM:=c2;have c2:=eX c2;rw [agQ] at kM;refine aC ?_;(rw [<- bN,aae (pre:=l_.take g1.toNat) (n:=l_.getD g1.toNat 0) kM])
   have kM:=c2;have c2:=eX c2;rw [agQ] at kM;refine wn<|dB _ ?_ ?_
   ·(refine ⟨ob,ob,?_⟩; rw [<- bN,aeE (pre:=l_.take g1.toNat) (n:=l_.getD g1.toNat 0) kM,show (g1+1).toNat=g1.toNat+1 by omega,iM 0 om])
   exact ob
  refine aC ?_;(rw [<- bN,alp om]; rfl)
 (refine ⟨ob,ob,rfl⟩)
theorem Zi {c_:aF} (h1:c_.aW.length<=2000000) (h2:c_.aO.length<=2000000):W (Bv c_) (λ r=>r=jh c_):=by
 unfold Bv;refine bV ?_ ?_<;>intro c1
 ·have gD:=c1;have c1:=eX c1;refine aP (by (intro hc; simp only [aei,beq_iff_eq] at hc; omega)) ?_;refine aP (by (intro hc; simp only [aei,beq_iff_eq] at hc; omega)) ?_;refine aC ?_;(unfold jh; rw [gD]; simp only [cond_true]; unfold dS; rw [ayX])
 have gD:=c1;have c1:=eX c1;refine bV ?_ ?_<;>intro c2
 ·have kM:=c2;have c2:=eX c2;refine bV ?_ ?_<;>intro c3
  ·have jZ:=c3;have c3:=eX c3;refine aG (gM λ hc=>kY (zR ob)) λ v1 hv1=>?_;subst v1;refine aC ?_;(unfold jh; rw [gD,kM,aiD]; rfl)
  have jZ:=c3;have c3:=eX c3;rw [kM] at jZ; cases jZ
 have kM:=c2;have c2:=eX c2;refine bV ?_ ?_<;>intro c4
 ·have uq:=c4;have c4:=eX c4;refine aG (gM λ hc=>kY (zR ob)) λ v4 hv4=>?_;subst v4;refine aC ?_;(unfold jh; rw [gD,kM,uq,aiD]; rfl)
 have uq:=c4;have c4:=eX c4;refine bV ?_ ?_<;>intro c5
 ·have Di:=c5;have c5:=eX c5;refine wn<|aG (gM λ hc=>kY (zR ob)) λ v5 hv5=>?_;subst v5;refine aC ?_;(unfold jh; rw [gD,kM,uq,Di,aiD c_.aO.length]; exact aw3)
 have Di:=c5;have c5:=eX c5;refine bV ?_ ?_<;>intro c6
 ·have c6o:=c6;have c6:=eX c6;refine bV ?_ ?_<;>intro c7
  ·have YW:=c7;have c7:=eX c7;refine aG (gM λ hc=>kY (agR ob)) λ v6 hv6=>?_;subst v6;refine aC ?_;(unfold jh; rw [gD,kM,uq,Di,c6o]; rfl)
  have YW:=c7;have c7:=eX c7;refine aC ?_;(unfold jh; rw [gD,kM,uq,Di,c6o,show ((c_.aW.length:Int)==1)=false by simpa using YW]; rfl)
 have c6o:=c6;have c6:=eX c6;refine aC ?_;(unfold jh; rw [gD,kM,uq,Di,c6o]; rfl)
variable {l_:azs}
theorem Zj (h1:l_.length<=1000) (h2:ajy l_):W (Bw l_) (λ r=>r=iW l_):=by
 unfold Bw;refine bS (λ (g1:Int×azp)=>0<=g1.1∧g1.1<=l_.length∧g1.2=iW (l_.take g1.1.toNat)) (λ (g1:Int×azp)=>(l_.length - g1.1).toNat) ?_ ?_
 ·intro ah g1 eU dB;obtain ⟨dZ,bW,bN⟩:=eU;unfold JK;have hfb:=kE (l_.take g1.1.toNat);rw [take_len om,<- bN] at hfb;refine wi ?_ ?_<;>intro c1
  ·obtain ⟨hp1,hp2⟩:=h2 g1.1.toNat om;refine wn<|bS (λ (g6:Int×Int)=>0<=g6.2∧g6.2<=(l_.getD g1.1.toNat aL).aW.length∧g6.1=mQ g1.2 ((l_.getD g1.1.toNat aL).aW.take g6.2.toNat)) (λ (g6:Int×Int)=>((l_.getD g1.1.toNat aL).aW.length - g6.2).toNat) ?_ ?_
   ·intro jQ g6 Qr LC;obtain ⟨Nt,xU,Nu⟩:=Qr;unfold JJ;have hpm:=Ll g1.2 g1.1.toNat om hfb.2 ((l_.getD g1.1.toNat aL).aW.take g6.2.toNat);rw [<- Nu] at hpm;refine wi ?_ ?_<;>intro c2
    ·have hx:=hp2 _ (getD_in (i:=g6.2.toNat) 0 om);refine wm<|wn ?_;refine LC _ ?_ ?_
     ·(refine ⟨ob,ob,?_⟩; dsimp only; rw [show (g6.2+1).toNat=g6.2.toNat+1 by omega]; unfold mQ; rw [wP _ _ 0 om,Nu]; rfl)
     exact ob
    have hpe:g6.1=mQ g1.2 (l_.getD g1.1.toNat aL).aW:=(by rw [Nu,show g6.2.toNat=(l_.getD g1.1.toNat aL).aW.length by omega,alj]);refine bV ?_ ?_<;>intro c3
    ·have jZ:=c3;have c3:=eX c3;refine wn ?_;unfold nU;refine wm<|dB _ ?_ ?_
     ·(refine ⟨ob,ob,?_⟩; dsimp only; rw [show (g1.1+1).toNat=g1.1.toNat+1 by omega,iM aL om,EN,<- bN]; unfold Lj Uq; rw [jZ,hpe]; rfl)
     exact ob
    have jZ:=c3;have c3:=eX c3;unfold nU;refine wm<|dB _ ?_ ?_
    ·(refine ⟨ob,ob,?_⟩; dsimp only; rw [show (g1.1+1).toNat=g1.1.toNat+1 by omega,iM aL om,EN,<- bN]; unfold Lj Uq; rw [jZ,hpe]; rfl)
    exact ob
   (refine ⟨ob,ob,rfl⟩)
  refine aC ?_;(rw [bN,show g1.1.toNat=l_.length by omega,alj])
 (refine ⟨ob,ob,rfl⟩)
theorem BJ (h1:l_.length<=2000000):W (tN l_) (λ r=>r=eD l_):=by
 unfold tN;refine bV ?_ ?_<;>intro c1
 ·have gD:=c1;have c1:=eX c1;refine aC ?_;(unfold eD; rw [gD]; rfl)
 have gD:=c1;have c1:=eX c1;refine bS (λ (g1:Int)=>0<=g1∧g1<=l_.length∧(∀j:Nat,(j:Int)<g1->Uo (l_.getD j aL)=false)) (λ (g1:Int)=>(l_.length - g1).toNat) ?_ ?_
 ·intro ah g1 eU dB;obtain ⟨dZ,bW,bN⟩:=eU;unfold Pn;refine wi ?_ ?_<;>intro c2
  ·refine wn<|bV ?_ ?_<;>intro c3
   ·have jZ:=c3;have c3:=eX c3;refine aC ?_;(unfold eD; rw [zH (p:=Uo) aL (show g1.toNat<l_.length by omega) (show Uo _=true from jZ),ayS]; rfl)
   have jZ:=c3;have c3:=eX c3;refine wn<|dB _ ?_ ?_
   ·(refine ⟨ob,ob,fq bN dZ jZ⟩)
   exact ob
  have hb4:∀i:Nat,i<l_.length->Uo (l_.getD i aL)=false:=λ j hj=>bN j om;have hbig:=any_none (p:=Uo) aL hb4;have hb3:(decide (16<(l_.length:Int))||l_.any Uo)=false:=(by rw [gD,hbig]; rfl);refine bS (λ (g2:Int×Int)=>0<=g2.2∧g2.2<=l_.length∧g2.1=ni (l_.take g2.2.toNat)∧(∀j:Nat,(j:Int)<g2.2->lX (l_.getD j aL) j=true)) (λ (g2:Int×Int)=>(l_.length - g2.2).toNat) ?_ ?_
  ·intro dY g2 nD rF;obtain ⟨sK,jN,nk,DV⟩:=nD;unfold ML;refine wi ?_ ?_<;>intro c4
   ·have hlt:g2.2.toNat<l_.length:=om;have hbl:=Qd (hb4 g2.2.toNat hlt);refine wn<|bS (λ (g5:Int)=>0<=g5∧g5<=(l_.getD g2.2.toNat aL).aW.length∧(∀j:Nat,(j:Int)<g5->dS ((l_.getD g2.2.toNat aL).aW.getD j 0) 0 (g2.2.toNat - 1)=true)) (λ (g5:Int)=>((l_.getD g2.2.toNat aL).aW.length - g5).toNat) ?_ ?_
    ·intro nP g5 XE XF;obtain ⟨TG,FV,Ns⟩:=XE;unfold MJ;refine wi ?_ ?_<;>intro c5
     ·refine wn<|wi ?_ ?_<;>intro c6
      ·refine aC ?_;(unfold eD; rw [hb3,Ur hlt (Xq (j:=g5.toNat) om (by rw [<- aqM,within_iff]; omega))]; rfl)
      refine wn<|XF _ ?_ ?_
      ·(refine ⟨ob,ob,fq Ns TG (by rw [within_iff]; omega)⟩)
      exact ob
     have hvr:=agr (k:=(g2.2.toNat:Int)) (λ j hj=>Ns j om);refine aG (Zi ob ob) λ v3 hv3=>?_;subst v3;refine bV ?_ ?_<;>intro c7
     ·have YW:=c7;have c7:=eX c7;rw [YW] at hvr;refine aC ?_;(unfold eD; rw [hb3,Ur hlt hvr]; rfl)
     have YW:=c7;have c7:=eX c7;rw [YW] at hvr;have hpm:=ane (l_.take g2.2.toNat) (l_.getD g2.2.toNat aL).aO.length om;rw [<- nk] at hpm;refine wm<|rF _ ?_ ?_
     ·(refine ⟨ob,ob,?_,fq DV sK hvr⟩; dsimp only; rw [show (g2.2+1).toNat=g2.2.toNat+1 by omega]; unfold ni; rw [wP _ _ aL hlt]; rw [nk]; rfl)
     exact ob
    (refine ⟨ob,ob,λ j hj=>by omega⟩)
   have hva:∀i:Nat,i<l_.length->lX (l_.getD i aL) i=true:=λ j hj=>DV j om;have hall:=adg hva;have hfl:=(kE l_).1;rw [show g2.2.toNat=l_.length by omega,alj] at nk;refine bV ?_ ?_<;>intro c8
   ·have c8o:=c8;have c8:=eX c8;refine aC ?_;(unfold eD; rw [hb3,hall,<- nk,c8o]; rfl)
   have c8o:=c8;have c8:=eX c8;refine aG (Zj om (ags hva hb4)) λ v4 hv4=>?_;subst v4;refine bS (λ (g6:Int)=>0<=g6∧g6<=(iW l_).length∧(∀j:Nat,(j:Int)<g6->(λ n=>decide (4<n)) ((iW l_).getD j 0)=false)) (λ (g6:Int)=>((iW l_).length - g6).toNat) ?_ ?_
   ·intro jQ g6 Qr LC;obtain ⟨Nt,xU,Nu⟩:=Qr;unfold MK;refine wi ?_ ?_<;>intro c9
    ·refine wn<|bV ?_ ?_<;>intro c10
     ·have acB:=c10;have c10:=eX c10;refine aC ?_;(unfold eD; rw [hb3,hall,zH (p:=λ n=>decide (4<n)) 0 (show g6.toNat<(iW l_).length by omega) acB,ayS]; rfl)
     have acB:=c10;have c10:=eX c10;refine wn<|LC _ ?_ ?_
     ·(refine ⟨ob,ob,fq Nu Nt acB⟩)
     exact ob
    refine aC ?_;(unfold eD; rw [hb3,hall,<- nk,c8o,any_none (p:=λ n=>decide (4<n)) 0 (λ j hj=>Nu j om)]; rfl)
   (refine ⟨ob,ob,λ j hj=>by omega⟩)
  (refine ⟨ob,ob,rfl,λ j hj=>by dsimp only at hj; omega⟩)
 (refine ⟨ob,ob,λ j hj=>by omega⟩)
variable {l:azs} {m:azz}
theorem apO (h:((eD l != 0)||decide (32<(m.length:Int)))=true):mF l m=false:=by
 unfold mF;by_cases h1:eD l=0
 ·rw [h1] at h;have:32<(m.length:Int):=by simpa using h
  rw [decide_eq_false (p:=(m.length:Int)<=32) om];simp
 have:(eD l==0)=false:=by simpa using h1
 rw [this];rfl
theorem anL (h:((eD l != 0)||decide (32<(m.length:Int)))=false):mF l m=!(m.any (Ka l.length)):=by
 have h1:eD l=0∧(m.length:Int)<=32:=by
  simp at h;omega
 unfold mF;rw [h1.1,decide_eq_true h1.2];rfl
theorem agS (n:Int) (x:aZ):(((((decide (x.eO<(0:Int)))||(decide (n<=x.eO)))||(decide (x.lC<(0:Int))))||(decide (x.fI<x.lC)))||(decide ((4000000000:Int)<x.fI)))=Ka n x:=by
 unfold Ka dS;rw [awX];simp;omega
variable {m_:azz}
theorem Qs (h1:l_.length<=2000000) (h2:m_.length<=2000000):W (zk l_ m_) (λ r=>r=mF l_ m_):=by
 unfold zk;refine aG (BJ ob) λ v1 hv1=>?_;subst v1;refine bV ?_ ?_<;>intro c1
 ·have gD:=c1;have c1:=eX c1;exact aC ((apO gD).symm)
 have gD:=c1;have c1:=eX c1;have hdf:=anL gD;refine bS (λ (g1:Int)=>0<=g1∧g1<=m_.length∧(m_.drop g1.toNat).any (Ka l_.length)=m_.any (Ka l_.length)) (λ (g1:Int)=>(m_.length - g1).toNat) ?_ ?_
 ·intro ah g1 eU dB;obtain ⟨dZ,bW,bN⟩:=eU;unfold MW;refine wi ?_ ?_<;>intro c2
  ·have hlt:g1.toNat<m_.length:=om;rw [drop_cons dN hlt,aua] at bN;refine wn<|bV ?_ ?_<;>intro c3
   ·have jZ:=c3;have c3:=eX c3;rw [agS] at jZ;refine aC ?_;(rw [hdf,<- bN,jZ]; rfl)
   have jZ:=c3;have c3:=eX c3;rw [agS] at jZ;refine wn<|dB _ ?_ ?_
   ·(refine ⟨ob,ob,?_⟩; rw [<- bN,jZ,show (g1+1).toNat=g1.toNat+1 by omega]; rfl)
   exact ob
  refine aC ?_;(rw [hdf,<- bN,show g1.toNat=m_.length by omega,aqu]; rfl)
 (refine ⟨ob,ob,rfl⟩)
theorem acC (h1:l_.length<=2000000) (h2:m_.length<=2000000):W (Hr l_ m_) (λ r=>r=(bif eD l_ != 0 then eD l_ else bif !mF l_ m_ then 1 else 0)):=by
 unfold Hr;refine aG (BJ ob) λ v1 hv1=>?_;subst v1;refine bV ?_ ?_<;>intro c1
 ·have gD:=c1;have c1:=eX c1;refine aC ?_;(rw [gD]; rfl)
 have gD:=c1;have c1:=eX c1;refine aG (Qs ob ob) λ v2 hv2=>?_;subst v2;refine bV ?_ ?_<;>intro c2
 ·have kM:=c2;have c2:=eX c2;refine aC ?_;(rw [gD,kM]; rfl)
 have kM:=c2;have c2:=eX c2;refine aC ?_;(rw [gD,kM]; rfl)
theorem abq {c_:aF} {wB:Int} (h1:abb c_ wB):W (Em c_ wB) (λ r=>r=kK c_ wB):=by
 have hp:=h1; unfold abb at hp;unfold Em;refine bV ?_ ?_<;>intro c1
 ·have gD:=c1;have c1:=eX c1;refine aC ?_;(unfold kK; rw [gD]; rfl)
 have gD:=c1;have c1:=eX c1;refine bV ?_ ?_<;>intro c2
 ·have kM:=c2;have c2:=eX c2;refine wm<|aC ?_;(unfold kK; rw [gD,kM]; rfl)
 have kM:=c2;have c2:=eX c2;refine wn<|aC ?_;(unfold kK; rw [gD,kM]; rfl)
theorem Dn {a_:Int} {b_:Int} (h1:0<=a_) (h2:0<=b_):W (rJ a_ b_) (λ r=>r=jH a_ b_):=by
 unfold rJ;refine bS (λ (g1:Int×Int)=>0<=g1.1∧0<=g1.2∧jH g1.1 g1.2=jH a_ b_) (λ (g1:Int×Int)=>g1.2.toNat) ?_ ?_
 ·intro ah g1 eU dB;obtain ⟨dZ,bW,bN⟩:=eU;unfold JN;refine wi ?_ ?_<;>intro c1
  ·refine wn<|dB _ ?_ ?_
   ·(refine ⟨ob,auj _ om,?_⟩; dsimp only; rw [<- bN]; exact agy om om)
   (dsimp only; have:=VE g1.1 g1.2 om; have:=auj (a:=g1.1) g1.2 om; omega)
  refine aC ?_;(rw [<- bN]; unfold jH; have e:g1.2=0:=c1; rw [e]; simp; omega)
 exact ob
variable {r_:bU}
theorem BK:W (tQ r_) (λ r=>r=oD r_):=by
 unfold tQ;refine aG (gM λ hc=>kY (Dn (by have hc:=eX hc; omega) (by have hc:=eX hc; omega))) λ v1 hv1=>?_;subst v1;refine aC ?_;rfl
theorem Qt {k_:Int}:W (zl k_) (λ r=>r=zG k_):=by
 unfold zl;refine aC ?_;rfl
theorem YX {yO:Int} {yP:Int} (h1:yO<=4611686018427387904) (h2:yP<=4611686018427387904):W (JO yO yP) (λ r=>r=newR yO yP):=by
 unfold JO;refine bV ?_ ?_<;>intro c1
 ·have gD:=c1;have c1:=eX c1;refine aC ?_;(unfold newR; rw [gD]; rfl)
 have gD:=c1;have c1:=eX c1;have hg:=Cz yO yP om; have q1:=tdiv_le yO _ om hg; have q2:=tdiv_le yP _ om hg;refine aG (Dn ob ob) λ v1 hv1=>?_;subst v1;refine wm<|aG (BK) λ v2 hv2=>?_;subst v2;refine bV ?_ ?_<;>intro c2
 ·have kM:=c2;have c2:=eX c2;refine aC ?_;(unfold newR; rw [gD]; simp only [cond_false]; rw [kM]; rfl)
 have kM:=c2;have c2:=eX c2;refine aC ?_;(unfold newR; rw [gD]; simp only [cond_false]; rw [kM]; rfl)
theorem aeP {k_:Int}:W (K9 r_ k_) (λ r=>r=CB r_ k_):=by
 unfold K9;refine aG (BK) λ v1 hv1=>?_;subst v1;refine bV ?_ ?_<;>intro c1
 ·have gD:=c1;have c1:=eX c1;refine aC ?_;(unfold CB; rw [gD]; rfl)
 have gD:=c1;have c1:=eX c1;have hv:=mD (r:=r_) (by simpa using gD);refine aG (Qt) λ v2 hv2=>?_;subst v2;refine bV ?_ ?_<;>intro c2
 ·have kM:=c2;have c2:=eX c2;refine aC ?_;(unfold CB; rw [gD,kM]; rfl)
 have kM:=c2;have c2:=eX c2;have hk:1<=k_∧k_<=64:=(by simp [zG] at kM; omega);have q3:=Xu (show 0<=k_ by omega) hk.2 (show 0<=r_.jD by omega) hv.2.2.2.1;refine wn<|aG (YX ob ob) λ v3 hv3=>?_;subst v3;refine aC ?_;(unfold CB; rw [gD,kM]; rfl)
theorem acD {k_:Int}:W (Ht r_ k_) (λ r=>r=rU r_ k_):=by
 unfold Ht;refine aG (BK) λ v1 hv1=>?_;subst v1;refine bV ?_ ?_<;>intro c1
 ·have gD:=c1;have c1:=eX c1;refine aC ?_;(unfold rU; rw [gD]; rfl)
 have gD:=c1;have c1:=eX c1;have hv:=mD (r:=r_) (by simpa using gD);refine aG (Qt) λ v2 hv2=>?_;subst v2;refine bV ?_ ?_<;>intro c2
 ·have kM:=c2;have c2:=eX c2;refine aC ?_;(unfold rU; rw [gD,kM]; rfl)
 have kM:=c2;have c2:=eX c2;have hk:1<=k_∧k_<=64:=(by simp [zG] at kM; omega);have hg:=Cz k_ r_.jD om;have q1:=tdiv_le k_ _ om hg;have q2:=tdiv_le r_.jD _ om hg;have q4:=asa k_ r_.jD hk om;have q5:=tdiv_le 144115188075855872 _ om (show 0<k_.tdiv (jH k_ r_.jD) by omega);refine aG (Dn ob ob) λ v3 hv3=>?_;subst v3;refine wm<|bV ?_ ?_<;>intro c3
 ·have jZ:=c3;have c3:=eX c3;refine aC ?_;(unfold rU; rw [gD,kM,jZ]; rfl)
 have jZ:=c3;have c3:=eX c3;have q3:=akF r_.j5 (k_.tdiv (jH k_ r_.jD)) hv.1 q4.1 om;refine wm<|wn ?_;refine aG (YX ob ob) λ v4 hv4=>?_;subst v4;refine aC ?_;(unfold rU; rw [gD,kM,jZ]; rfl)
variable {s_:azp}
theorem jS {g1:Int×azA×azq} {ah:(Int×azA×azq)->M (azA×azq)} {g7:Bool×Int×Int} {Q:(azA×azq)->Prop} (dB:∀s':(Int×azA×azq),(0<=s'.1∧s'.1<=l_.length∧s'.2.1=(Xt l_ s_ s'.1.toNat).1∧s'.2.2=(Xt l_ s_ s'.1.toNat).2)->(l_.length - s'.1).toNat<(l_.length - g1.1).toNat->W (ah s') Q) (hc:0<=g1.1∧g1.1<l_.length∧l_.length<=1000∧g1.2.1=(Xt l_ s_ g1.1.toNat).1∧g1.2.2=(Xt l_ s_ g1.1.toNat).2∧((⟨g7.2.1,g7.2.2⟩:bU),g7.1)=(st1 (Xt l_ s_ g1.1.toNat).1 (Xt l_ s_ g1.1.toNat).2 (l_.getD g1.1.toNat aL) (s_.getD g1.1.toNat 0))):W (jC g1 ah g7) Q:=by
 obtain ⟨aiE,akZ,FX,R4,XG,aeQ⟩:=hc;unfold jC;refine aP (by (rw [R4,(Ru l_ s_ g1.1.toNat).1]; unfold big; omega)) ?_;refine aP (by (rw [XG,(Ru l_ s_ g1.1.toNat).2]; unfold big; omega)) ?_;refine wn<|dB _ ?_ ?_
 ·(refine ⟨ob,ob,?_,?_⟩; (dsimp only; rw [show (g1.1+1).toNat=g1.1.toNat+1 by omega,Xt,<- aeQ,<- R4]); (dsimp only; rw [show (g1.1+1).toNat=g1.1.toNat+1 by omega,Xt,<- aeQ,<- XG]))
 exact ob
theorem Qu (h1:Good l_ s_) (h2:Up l_ s_):W (zm l_ s_) (λ r=>r=Tz l_ s_):=by
 obtain ⟨q1,q2,q3,q4,q5⟩:=h1;unfold zm;refine bS (λ (g1:Int×azA×azq)=>0<=g1.1∧g1.1<=l_.length∧g1.2.1=(Xt l_ s_ g1.1.toNat).1∧g1.2.2=(Xt l_ s_ g1.1.toNat).2) (λ (g1:Int×azA×azq)=>(l_.length - g1.1).toNat) ?_ ?_
 ·intro ah g1 eU dB;obtain ⟨dZ,bW,bN,kW⟩:=eU;unfold MX;have hst:=Ru l_ s_ g1.1.toNat;refine wi ?_ ?_<;>intro c1
  ·have hch:=q3 g1.1.toNat om;have hpar:=q5 g1.1.toNat om;have hpc:=q4 g1.1.toNat om;have hui:=h2 g1.1.toNat om;refine wm<|aG (abq ob) λ v18 asi=>?_;subst v18;refine wi ?_ ?_<;>intro c2
   ·refine wm ?_;unfold pq;refine wm<|bV ?_ ?_<;>intro c3
    ·have jZ:=c3;have c3:=eX c3;exact jS (l_:=l_) (s_:=s_) (λ a b c=>dB a b c) (by (exfalso; have:=(show kK (l_.getD g1.1.toNat aL) (s_.getD g1.1.toNat 0) = -1 by unfold kK; rw [jZ]; rfl); omega))
    have jZ:=c3;have c3:=eX c3;refine bV ?_ ?_<;>intro c4
    ·have uq:=c4;have c4:=eX c4;refine aG (aeP) λ v16 aeD=>?_;subst v16;exact jS (l_:=l_) (s_:=s_) (λ a b c=>dB a b c) (by (refine ⟨ob,ob,ob,bN,kW,?_⟩; dsimp only; unfold st1; rw [jZ,uq,<- bN,<- kW]; rfl))
    have uq:=c4;have c4:=eX c4;refine bV ?_ ?_<;>intro c5
    ·have Di:=c5;have c5:=eX c5;refine aG (acD) λ v17 apP=>?_;subst v17;exact jS (l_:=l_) (s_:=s_) (λ a b c=>dB a b c) (by (refine ⟨ob,ob,ob,bN,kW,?_⟩; dsimp only; unfold st1; rw [jZ,uq,Di,<- bN,<- kW]; rfl))
    have Di:=c5;have c5:=eX c5;refine bV ?_ ?_<;>intro c6
    ·have c6o:=c6;have c6:=eX c6;refine bV ?_ ?_<;>intro c7
     ·have YW:=c7;have c7:=eX c7;exact jS (l_:=l_) (s_:=s_) (λ a b c=>dB a b c) (by (refine ⟨ob,ob,ob,bN,kW,?_⟩; dsimp only; unfold st1; rw [jZ,uq,Di,c6o,YW,<- bN,<- kW]; rfl))
     have YW:=c7;have c7:=eX c7;exact jS (l_:=l_) (s_:=s_) (λ a b c=>dB a b c) (by (refine ⟨ob,ob,ob,bN,kW,?_⟩; dsimp only; unfold st1; rw [jZ,uq,Di,c6o,YW,<- bN,<- kW]; rfl))
    have c6o:=c6;have c6:=eX c6;exact jS (l_:=l_) (s_:=s_) (λ a b c=>dB a b c) (by (refine ⟨ob,ob,ob,bN,kW,?_⟩; dsimp only; unfold st1; rw [jZ,uq,Di,c6o,<- bN,<- kW]; rfl))
   unfold pq;refine wm<|bV ?_ ?_<;>intro c8
   ·have c8o:=c8;have c8:=eX c8;exact jS (l_:=l_) (s_:=s_) (λ a b c=>dB a b c) (by (refine ⟨ob,ob,ob,bN,kW,?_⟩; dsimp only; unfold st1; rw [c8o]; rfl))
   have c8o:=c8;have c8:=eX c8;exfalso; have:=hui (by simpa using c8o); omega
  refine aC ?_;(unfold Tz; rw [bN,kW,show g1.1.toNat=l_.length by omega])
 (refine ⟨ob,ob,rfl,rfl⟩)
def anM (r:azA) (on:azq) (l:azs) (j:Nat):Bool:=((on.getD j false)&&((l.getD j aL).fI != 0))&&!sH (r.getD j dW) (l.getD j aL).lC (l.getD j aL).fI
def ak0 (l:azs) (st:azA×azq):Bool:=(List.range l.length).all λ i=>!anM st.1 st.2 l i
def abr (st:azA×azq) (x:aZ):Bool:=!(st.2.getD x.eO.toNat false)||!sH (st.1.getD x.eO.toNat dW) x.lC x.fI
def Qv (l:azs) (s:azp) (m:azz):Bool:=!m.any (abr (Tz l s))&&ak0 l (Tz l s)
def VS (l:azs) (s:azp):Prop:=s.length=l.length∧∀i,i<l.length->0<=s.getD i 0∧s.getD i 0<(l.getD i aL).aO.length
def gY:azs->Nat
 | []=>1
 | c::l=>c.aO.length*gY l
def gN:azs->azp->Nat
 | c::l,x::t=>x.toNat*gY l+gN l t
 | _,_=>0
variable {s:azp}
theorem VW {c:aF} (h:VS (c::l) s):∃x t,s=x::t∧0<=x∧x<c.aO.length∧VS l t:=by
 obtain ⟨h1,h2⟩:=h;cases s with
 | nil=>cases h1
 | cons x t=>
  have h0:=h2 0 (by simp);exact ⟨x,t,rfl,h0.1,h0.2,by simpa using h1,λ i hi=>h2 (i+1) (by simpa using hi)⟩
theorem I6:∀ {s:azp},VS l s->gN l s<gY l:=by
 induction l with
 | nil=>intro s _; cases s<;>simp [gN,gY]
 | cons c l ih=>
  intro s h;obtain ⟨x,t,rfl,h1,h2,h3⟩:=VW h;have:=ih h3;rw [gN,gY];have h4:(x.toNat+1)*gY l<=c.aO.length*gY l:=afh _ om;rw [alq,avI] at h4;omega
theorem anN:∀ {s:azp},(∀j,j<l.length->s.getD j 0=0)->gN l s=0:=by
 induction l with
 | nil=>intro s _; cases s<;>rfl
 | cons c l ih=>
  intro s h;cases s with
  | nil=>rfl
  | cons x t=>
   have h0:=h 0 (by simp);have h0:x=0:=h0;rw [gN,h0,ih λ j hj=>h (j+1) (by simpa using hj)];simp
theorem apQ:∀ {s:azp},VS l s->(∀j,j<l.length->s.getD j 0+1=(l.getD j aL).aO.length)->gN l s+1=gY l:=by
 induction l with
 | nil=>intro s h _; cases s<;>rfl
 | cons c l ih=>
  intro s hv h;obtain ⟨x,t,rfl,h1,h2,h3⟩:=VW hv;have h0:x+1=c.aO.length:=h 0 (by simp);have:=ih h3 λ j hj=>h (j+1) (by simpa using hj);rw [gN,gY,show c.aO.length=x.toNat+1 by omega,alq,avI];omega
theorem anO:∀ {s t:azp} {k:Nat},VS l s->k<l.length->t.length=l.length->(∀j,j<k->t.getD j 0=s.getD j 0)->t.getD k 0=s.getD k 0+1->(∀j,k<j->j<l.length->t.getD j 0=0∧s.getD j 0+1=(l.getD j aL).aO.length)->gN l t=gN l s+1:=by
 induction l with
 | nil=>intro s t k _ h; exact absurd h (ahh _)
 | cons c l ih=>
  intro s t k hv hk hl h1 h2 h3;obtain ⟨x,s,rfl,g1,g2,g3⟩:=VW hv;cases t with
  | nil=>cases hl
  | cons y t=>
   cases k with
   | zero=>
    have h2:y=x+1:=h2;have e1:=anN (l:=l) (s:=t) λ j hj=>(h3 (j+1) om (by simpa using hj)).1;have e2:=apQ g3 λ j hj=>(h3 (j+1) om (by simpa using hj)).2;rw [gN,gN,e1,h2,show (x+1).toNat=x.toNat+1 by omega,alq,avI];omega
   | succ k=>
    have h0:y=x:=h1 0 om;have:=ih g3 (by simpa using hk) (by simpa using hl) (λ j hj=>h1 (j+1) om) h2 (λ j a b=>h3 (j+1) om (by simpa using b));rw [gN,gN,h0,this];omega
theorem apR {t:azp} {k:Nat} (hv:VS l s) (hk:k<l.length) (hl:t.length=l.length) (h1:∀j,j<k->t.getD j 0=s.getD j 0) (h2:t.getD k 0=s.getD k 0+1) (h3:∀j,k<j->j<l.length->t.getD j 0=0∧s.getD j 0+1=(l.getD j aL).aO.length) (h4:s.getD k 0+1<(l.getD k aL).aO.length):VS l t∧gN l t=gN l s+1:=by
 refine ⟨⟨hl,λ i hi=>?_⟩,anO hv hk hl h1 h2 h3⟩;have:=hv.2 i hi;rcases auI i k with h | h | h
 ·rw [h1 i h]; exact this
 ·subst h; omega
 have:=h3 i h hi; omega
theorem VX (h:VS l s):kH l s=true:=by
 unfold kH;rw [h.1,beq_self_eq_true,aq0,aoI];intro i hi;have:=h.2 i (by have:=ara.1 hi; omega);exact (within_iff _ _ _).2 om
theorem ak1 (l:azs) (c:aF):gY (l++[c])=gY l*c.aO.length:=by
 induction l with
 | nil=>simp [gY]
 | cons a l ih=>rw [apW,gY,gY,ih,ayD]
theorem ak2 (h:∀c∈l,1<=c.aO.length):ni l=Zd (gY l) 1099511627776:=by
 induction l using KY with
 | nil=>rfl
 | append_singleton l c ih=>
  have hc:=h c (by simp);rw [Us,ih λ x hx=>h x (by simp [hx]),ak1,atL];generalize ((gY l:Nat):Int)=a;generalize hb:(c.aO.length:Int)=b;have hb1:1<=b:=by omega
  unfold Zd;by_cases h1:(1099511627776:Int)<a
  ·have h2:(1099511627776:Int)<a*b:=by
    have:=ayU hb1 (show 0<=a by omega);omega
   have h3:(1099511627776:Int)<=1099511627776*b:=by omega
   rw [if_pos h1,if_pos h2];split<;>omega
  rw [if_neg h1]
theorem size_le (h:aco l):gY l<=4096:=by
 have hp:=h.prod;rw [ak2 λ c hc=>by
  obtain ⟨k,hk,rfl⟩:=aln.1 hc;have:=Qf (lY (h.valid k hk));rw [adF,adH hk] at this;simp only [as8] at this;omega] at hp
 unfold Zd at hp;split at hp<;>omega
theorem apS (h:aco l):VS l (List.replicate (l.length:Int).toNat 0):=by
 refine ⟨by simp,λ i hi=>?_⟩;have:=Qf (lY (h.valid i hi));rw [Sp.zL];omega
theorem ak3 (h:((bif eD l != 0 then eD l else bif !mF l m then 1 else 0) != 0)=false):eD l=0∧mF l m=true:=by
 cases h1:eD l != 0 with
 | true=>rw [h1] at h; simp only [cond_true] at h; rw [h1] at h; cases h
 | false=>
  cases h2:mF l m with
  | false=>rw [h1,h2] at h; cases h
  | true=>exact ⟨by simpa using h1,rfl⟩
theorem apT (h:mF l m=true):∀x∈m,0<=x.eO∧x.eO<l.length:=λ x hx=>(Qh (Ke h x hx)).1
theorem FY {D9:Int} {oW:Int}:W (uQ r_ D9 oW) (λ r=>r=sH r_ D9 oW):=by
 unfold uQ;refine aG (BK) λ v1 hv1=>?_;subst v1;refine bV ?_ ?_<;>intro c1
 ·have gD:=c1;have c1:=eX c1;refine aC ?_;(unfold sH; rw [show oD r_=false by simpa using gD]; rfl)
 have gD:=c1;have c1:=eX c1;have hv:=mD (r:=r_) (by simpa using gD);have q1:=tdiv_le r_.j5 r_.jD hv.1 om;refine wm<|aC ?_;(unfold sH; rw [show oD r_=true by simpa using gD]; rfl)
theorem YZ {r_:azA} {oL:azq} (h1:l_.length<=2000000) (h2:r_.length=l_.length) (h3:oL.length=l_.length):W (JQ l_ r_ oL) (λ r=>r=ak0 l_ (r_,oL)):=by
 unfold JQ;refine bS (λ (g1:Int)=>0<=g1∧g1<=l_.length∧(∀j:Nat,(j:Int)<g1->anM r_ oL l_ j=false)) (λ (g1:Int)=>(l_.length - g1).toNat) ?_ ?_
 ·intro ah g1 eU dB;obtain ⟨dZ,bW,bN⟩:=eU;unfold Vw;refine wi ?_ ?_<;>intro c1
  ·refine wm<|wn ?_;refine aG (gM λ hc=>kY (FY)) λ v3 hv3=>?_;subst v3;refine bV ?_ ?_<;>intro c2
   ·have kM:=c2;have c2:=eX c2;refine aC ?_;(unfold ak0; rw [tV (i:=g1.toNat) om (by rw [show anM r_ oL l_ g1.toNat=true from kM]; rfl)])
   have kM:=c2;have c2:=eX c2;refine wn<|dB _ ?_ ?_
   ·(refine ⟨ob,ob,fq bN dZ kM⟩)
   exact ob
  refine aC ?_;(unfold ak0; rw [vR λ j hj=>(by rw [bN j om]; rfl)])
 (refine ⟨ob,ob,λ j hj=>by omega⟩)
theorem aeR (h1:Good l_ s_) (h2:Up l_ s_) (h3:m_.length<=2000000) (h4:∀x∈m_,0<=x.eO∧x.eO<l_.length):W (La l_ s_ m_) (λ r=>r=Qv l_ s_ m_):=by
 have hsm:=h1.small;have hst:=Ru l_ s_ l_.length;unfold La;refine aG (Qu ob ob) λ v1 hv1=>?_;subst v1;have hs1:(Tz l_ s_).1.length=l_.length:=hst.1;have hs2:(Tz l_ s_).2.length=l_.length:=hst.2;refine bS (λ (g1:Int)=>0<=g1∧g1<=m_.length∧(m_.drop g1.toNat).any (abr (Tz l_ s_))=m_.any (abr (Tz l_ s_))) (λ (g1:Int)=>(m_.length - g1).toNat) ?_ ?_
 ·intro ah g1 eU dB;obtain ⟨dZ,bW,bN⟩:=eU;unfold Tk;refine wi ?_ ?_<;>intro c1
  ·have hlt:g1.toNat<m_.length:=om;have hx:=h4 _ (getD_in (i:=g1.toNat) dN hlt);rw [drop_cons dN hlt,aua] at bN;refine wm<|wn ?_;refine aG (gM λ hc=>kY (FY)) λ v4 hv4=>?_;subst v4;refine bV ?_ ?_<;>intro c2
   ·have kM:=c2;have c2:=eX c2;refine aC ?_;(unfold Qv; rw [<- bN,show abr (Tz l_ s_) (m_.getD g1.toNat dN)=true from kM]; rfl)
   have kM:=c2;have c2:=eX c2;refine wn<|dB _ ?_ ?_
   ·(refine ⟨ob,ob,?_⟩; rw [<- bN,show abr (Tz l_ s_) (m_.getD g1.toNat dN)=false from kM,show (g1+1).toNat=g1.toNat+1 by omega]; rfl)
   exact ob
  refine aG (YZ ob ob ob) λ v5 hv5=>?_;subst v5;refine aC ?_;(unfold Qv; rw [<- bN,show g1.toNat=m_.length by omega,aqu]; rfl)
 (refine ⟨ob,ob,rfl⟩)
theorem VY (h1:l_.length<=1000) (h2:VS l_ s_) (h3:∀i,i<l_.length->(l_.getD i aL).aO.length<=2000000):W (Lb l_ s_) (λ r=>r.2=true->VS l_ r.1∧gN l_ r.1=gN l_ s_+1):=by
 obtain ⟨hsl,hsv⟩:=id h2;unfold Lb;refine wm<|bS (λ (g1:Int×azp) => -1<=g1.1∧g1.1<l_.length∧g1.2.length=l_.length∧(∀j:Nat,(j:Int)<=g1.1->g1.2.getD j 0=s_.getD j 0)∧(∀j:Nat,g1.1<(j:Int)->j<l_.length->g1.2.getD j 0=0∧s_.getD j 0+1=(l_.getD j aL).aO.length)) (λ (g1:Int×azp)=>(g1.1+1).toNat) ?_ ?_
 ·intro ah g1 eU dB;obtain ⟨dZ,bW,bN,kW,FP⟩:=eU;unfold Tm;refine wi ?_ ?_<;>intro c1
  ·have hv:=hsv g1.1.toNat om;have hc:=h3 g1.1.toNat om;have he:=kW g1.1.toNat om;have hgs:(g1.2.set g1.1.toNat (g1.2.getD g1.1.toNat 0+1)).getD g1.1.toNat 0=s_.getD g1.1.toNat 0+1:=(by rw [Sp.gB,if_pos ⟨rfl,om⟩,he]);have hgo:∀j,j≠g1.1.toNat->(g1.2.set g1.1.toNat (g1.2.getD g1.1.toNat 0+1)).getD j 0=g1.2.getD j 0:=λ j hj=>(by rw [Sp.gB,if_neg (λ e=>hj e.1)])
   refine wm<|wn ?_;unfold IX;refine wm<|wi ?_ ?_<;>intro c2
   ·rw [hgs] at c2;refine aC ?_;(intro _; exact apR h2 (k:=g1.1.toNat) om (by simpa using bN) (λ j hj=>by rw [hgo j om]; exact kW j om) hgs (λ j h1 h2=>by rw [hgo j om]; exact FP j om h2) c2)
   rw [hgs] at c2;refine wm<|dB _ ?_ ?_
   ·(refine ⟨ob,ob,by simpa using bN,λ j hj=>?_,λ j h1 h2=>?_⟩; (dsimp only at hj ⊢; rw [Sp.gB,if_neg om,hgo j om]; exact kW j om); (dsimp only at h1 ⊢; rw [Sp.gB]; by_cases q:j=g1.1.toNat; (rw [if_pos ⟨q,by rw [ahl]; omega⟩,q]; omega); (rw [if_neg (λ e=>q e.1),hgo j q]; exact FP j om h2)))
   exact ob
  exact aC (nofun)
 (refine ⟨ob,ob,by simpa using hsl,λ j _=>rfl,λ j h1 h2=>by dsimp only at h1; omega⟩)
theorem agT (h1:eD l_=0) (h2:m_.length<=2000000) (h3:∀x∈m_,0<=x.eO∧x.eO<l_.length):W (Rn l_ m_) (λ r=>∀s∈r,kH l_ s=true∧Qv l_ s m_=true):=by
 have hf:=sI h1;have hsz:=size_le hf;have hlen:=hf.len;have hcb:∀i,i<l_.length->(l_.getD i aL).aO.length<=2000000:=λ i hi=>by have:=hf.big i hi; omega
 unfold Rn;refine wn<|bS (λ (g1:(azp×Bool×(List azp)))=>(g1.2.1=true->VS l_ g1.1∧g1.2.2.length<=gN l_ g1.1)∧(∀s∈g1.2.2,kH l_ s=true∧Qv l_ s m_=true)) (λ (g1:(azp×Bool×(List azp)))=>bif g1.2.1 then gY l_ - gN l_ g1.1+1 else 0) ?_ ?_
 ·intro ah g1 eU dB;obtain ⟨dZ,bW⟩:=eU;unfold Vx;refine bV ?_ ?_<;>intro c1
  ·have gD:=c1;have c1:=eX c1;obtain ⟨hvs,hln⟩:=dZ gD;have hset:=VX hvs;have hpl:=I6 hvs;unfold Lc;refine aG (aeR (Rs hf hset) (ani hf hset) h2 h3) λ v9 Xx=>?_;subst v9;refine bV ?_ ?_<;>intro c2
   ·have kM:=c2;have c2:=eX c2;have hmem:∀s∈g1.2.2++[g1.1],kH l_ s=true∧Qv l_ s m_=true:=λ s hs=>by rcases alf.1 hs with h | h; exact bW s h; (rw [ahf] at h; rw [h]; exact ⟨hset,kM⟩)
    refine wn ?_;unfold zn;refine aG (VY om hvs hcb) λ v8 BG=>?_;refine dB _ ?_ ?_
    ·(refine ⟨λ e=>⟨(BG e).1,by have:=(BG e).2; simp only [afa,alk]; omega⟩,hmem⟩)
    (dsimp only; rw [gD]; cases e:v8.2 with | true=>(have:=(BG e).2; have:=I6 (BG e).1; simp only [cond_true]; omega) | false=>(simp only [cond_true,cond_false]; omega))
   have kM:=c2;have c2:=eX c2;unfold zn;refine aG (VY om hvs hcb) λ v8 BG=>?_;refine dB _ ?_ ?_
   ·(refine ⟨λ e=>⟨(BG e).1,by have:=(BG e).2; dsimp only; omega⟩,bW⟩)
   (dsimp only; rw [gD]; cases e:v8.2 with | true=>(have:=(BG e).2; have:=I6 (BG e).1; simp only [cond_true]; omega) | false=>(simp only [cond_true,cond_false]; omega))
  have gD:=c1;have c1:=eX c1;exact aC (bW)
 (refine ⟨λ _=>⟨apS hf,alh _⟩,nofun⟩)
theorem TK (h1:l_.length<=2000000) (h2:m_.length<=2000000):W (Ct l_ m_) (λ r=>r.2=0->kH l_ r.1=true∧Qv l_ r.1 m_=true∧mF l_ m_=true):=by
 unfold Ct;refine aG (acC ob ob) λ v1 hv1=>?_;subst v1;refine bV ?_ ?_<;>intro c1
 ·have gD:=c1;have c1:=eX c1;refine aC ?_;(intro e; exact absurd e c1)
 have gD:=c1;have c1:=eX c1;obtain ⟨b1,b2⟩:=ak3 gD;refine aG (agT b1 h2 (apT b2)) λ v2 hv2=>?_;refine wi ?_ ?_<;>intro c2
 ·exact aC<|ob
 refine wn<|aC ?_;(intro _; have q:=hv2 _ (getD_in (i:=0) [] om); exact ⟨q.1,q.2,b2⟩)
structure Qw (s:ByteArray):Prop where
 sz:0<s.size∧s.size<=16
 b0:97<=gI s 0∧gI s 0<=122
 bs:∀j:Nat,(j:Int)<s.size->gI s j=45∨(48<=gI s j∧gI s j<=57)∨(97<=gI s j∧gI s j<=122)
structure GpV (n:Int) (g:dh):Prop where
 ok:aub n g
 nw:Qw g.yw
 so:∀k:Nat,1<=k->(k:Int)<g.cu.length->g.cu.getD (k - 1) 0<g.cu.getD k 0
 fw:∀j:Nat,(j:Int)<g.au.length->Qw (g.au.getD j ByteArray.empty)
 fd:∀k j:Nat,j<k->(k:Int)<g.au.length->(g.au.getD j ByteArray.empty).toList≠(g.au.getD k ByteArray.empty).toList
structure agU (p:bR):Prop where
 ok:aqE p
 gr:∀i:Nat,(i:Int)<p.aH.length->GpV p.cu (p.aH.getD i aN)
 nm:∀i k:Nat,k<i->(i:Int)<p.aH.length->(p.aH.getD k aN).yw.toList≠(p.aH.getD i aN).yw.toList
structure RsV (l:azC):Prop where
 ok:apK l
 so:∀i:Nat,(i:Int)<l.length->∀k:Nat,1<=k->(k:Int)<((l.getD i d9).fF).length->((l.getD i d9).fF).getD (k - 1) 0<((l.getD i d9).fF).getD k 0
structure BdV (b:aV):Prop where
 cl:eD b.bP=0
 su:Sp.eD b.bI=0
 pn:agU b.aU
 rs:RsV b.bH
 dm:apL b.bX
def abt (l:azp):Prop:=∀i j:Nat,i<j->(j:Int)<l.length->l.getD i 0<l.getD j 0
theorem asl {l:azp} (h:∀k:Nat,1<=k->(k:Int)<l.length->l.getD (k - 1) 0<l.getD k 0):abt l:=by
 intro i j hij;induction j with
 | zero=>omega
 | succ j ih=>
  intro hj;have h1:=h (j+1) om hj;rw [Nat.add_sub_cancel] at h1;by_cases e:i=j
  ·rw [e]; exact h1
  have:=ih om om; omega
def ak4 (p:bR) (x y:Int):Prop:=∀i j:Nat,(i:Int)<(p.aH.getD x.toNat aN).cu.length->(j:Int)<(p.aH.getD y.toNat aN).cu.length->(p.aH.getD x.toNat aN).cu.getD i 0≠(p.aH.getD y.toNat aN).cu.getD j 0
def apU (p:bR) (x:Int) (f:ByteArray):Prop:=∃k:Nat,(k:Int)<(p.aH.getD x.toNat aN).au.length∧((p.aH.getD x.toNat aN).au.getD k ByteArray.empty).toList=f.toList
structure acE (p:bR) (l:azB) (gs:azp):Prop where
 ir:∀x∈gs,0<=x∧x<p.aH.length
 off:∀k:Nat,(k:Int)<gs.length->apU p (gs.getD k 0) (l.getD k ByteArray.empty)
 dj:∀k j:Nat,j<k->(k:Int)<gs.length->ak4 p (gs.getD j 0) (gs.getD k 0)
def asn (l:azC) (s:azq):Prop:=∀i:Nat,(i:Int)<l.length->s.getD i false=true->∀x∈(l.getD i d9).fF,s.getD x.toNat false=true
structure aso (l:azD) (s:azq):Prop where
 al:∀i:Nat,(i:Int)<l.length->(l.getD i eZ).gF=true->s.getD i false=true
 pa:∀i:Nat,(i:Int)<l.length->s.getD i false=true->0<=(l.getD i eZ).aT->s.getD (l.getD i eZ).aT.toNat false=true
theorem LD {l:azq} {i j:Nat} (h:l.getD i false=true∨i=j) (hj:j<l.length):(l.set j true).getD i false=true:=by
 by_cases e:i=j
 ·subst e; rw [adF,aqI hj]; rfl
 rw [adF,auM (Ne.symm e),<- adF]; exact h.resolve_right e
theorem BL {l:azq} {i j:Nat} {b:Bool} (h:i≠j):(l.set j b).getD i false=l.getD i false:=by
 rw [adF,auM (Ne.symm h),<- adF]
theorem VZ {l:azq} {j:Nat} {b:Bool} (hj:j<l.length):(l.set j b).getD j false=b:=by
 rw [adF,aqI hj]; rfl
end Go.Proofs.YtifekdmmpbcdgaaGreatDoor

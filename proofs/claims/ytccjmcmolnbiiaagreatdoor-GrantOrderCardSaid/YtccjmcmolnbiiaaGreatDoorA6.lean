/- An abstract machine over the model's code, that it is sound; models of the functions and their proofs. -/
import Derived.Test.YtccjmcmolnbiiaaGreatDoorA4
import Derived.Test.YtccjmcmolnbiiaaGreatDoorA5
set_option linter.unusedVariables false
set_option linter.unusedSimpArgs false
namespace Go.Proofs.YtccjmcmolnbiiaaGreatDoor.Sp
open Go.Ab
set_option maxRecDepth 100000
deriving instance DecidableEq for ay,aW,cO
structure Chn where
 over:Bool
 avY:List Int
 first:Int
 last:Int
deriving DecidableEq
structure Dem where
 xu:Int
 draw:Int
 child:Int
deriving DecidableEq
def NK:Dem:=⟨0,0,0⟩
def dJ (n lo hi:Int):Bool:=decide (lo≤n)&&decide (n≤hi)
def Tg (s:ay):Bool:=decide (16<(s.bJ.length:Int))
def WV (s:ay) (k:Int):Bool:=((((!dJ s.aN (-1) (k - 1))||((s.bJ.length:Int)==0))||!dJ s.gB 0 5000)||(decide (s.aN<0)&&(s.gB != 0)))||!dJ s.gY 0 10000
def NM:Int→List Int→Bool
 | _,[]=>true
 | p,v::t=>!(!dJ v 1 5000||decide (v≤p))&&NM v t
def yQ (s:ay) (k:Int):Bool:=!WV s k&&NM 0 s.bJ
theorem aez {lev:List Int} {i:Nat} (hi:i<lev.length) {c:Bool} (hc:c=(!dJ (lev.getD i 0) 1 5000||(decide (0<(i:Int))&&decide (lev.getD i 0≤lev.getD (i - 1) 0)))):
  NM (if i=0 then 0 else lev.getD (i - 1) 0) (lev.drop i)=(!c&&NM (lev.getD i 0) (lev.drop (i+1))):=by
 rw [drop_cons 0 hi,NM,hc];congr 2;cases h:dJ (lev.getD i 0) 1 5000 with
 | false=>rfl
 | true=>
  have h1:1≤lev.getD i 0:=by unfold dJ at h; simp at h; simpa using h.1
  by_cases h0:i=0
  ·subst h0;simp;have h1:1≤lev.getD 0 0:=h1;have:¬ lev.getD 0 0≤0:=by omega
   simpa using this
  ·have:decide (0<(i:Int))=true:=by simp; omega
   rw [this,if_neg h0];simp
def Zx (n:Int) (x:aW):Bool:=((!dJ x.bM 0 (n - 1)||!dJ x.fK 0 5000)||!dJ x.Low 0 x.fK)||!dJ x.Load 0 10000
def Vo:Nat→List ay→Bool
 | _,[]=>true
 | i,s::t=>yQ s i&&Vo (i+1) t
def eF (l:List ay):Int:=bif decide (16<(l.length:Int))||l.any Tg then 3 else bif Vo 0 l then 0 else 1
theorem nH {α:Type} (d:α) {p:α→Bool} {l:List α} (h:l.any p=false) (i:Nat) (hi:i<l.length):p (l.getD i d)=false:=by
 have:=je d hi;rw [List.any_eq_false] at h;simpa using h _ this
theorem ahl (n:Nat):decide ((n:Int)<1)=((n:Int)==0):=by
 by_cases h:n=0
 ·subst h; rfl
 ·rw [decide_eq_false om];symm;simpa using h
def ig (l:List ay) (d:List aW):Bool:=((eF l==0)&&decide ((d.length:Int)≤32))&&!(d.any (Zx l.length))
theorem aeA (n:Int) (x:aW):(((!dJ x.bM 0 (n - 1)||!dJ x.Low 0 x.fK)||decide (5000<x.fK))||!dJ x.Load 0 10000)=Zx n x:=by
 unfold Zx;cases dJ x.bM 0 (n - 1) with
 | false=>rfl
 | true=>
  cases dJ x.Load 0 10000 with
  | false=>simp
  | true=>
   simp only [Bool.not_true,Bool.false_or,Bool.or_false];unfold dJ;by_cases h1:0≤x.Low<;>by_cases h2:x.Low≤x.fK<;>by_cases h3:5000<x.fK<;>by_cases h4:0≤x.fK<;>by_cases h5:x.fK≤5000<;>simp [h1,h2,h3,h4,h5]<;>omega
def rlN:List ay→List Int→Bool
 | s::l,k::t=>dJ k 0 (s.bJ.length - 1)&&rlN l t
 | _,_=>true
def uV (l:List ay) (r:cO):Bool:=bif ((eF l != 0)||((r.On.length:Int) != l.length))||((r.dP.length:Int) != l.length) then false else rlN l r.dP
theorem JF {l:List ay} (h:eF l=0):l.length≤16∧(∀i,i<l.length→(l.getD i au).bJ.length≤16)∧Vo 0 l=true:=by
 unfold eF at h;cases h1:(decide (16<(l.length:Int))||l.any Tg) with
 | true=>rw [h1] at h; cases h
 | false=>
  rw [h1] at h;have h2:Vo 0 l=true:=by
   cases hv:Vo 0 l with
   | true=>rfl
   | false=>rw [hv] at h; cases h
  simp only [Bool.or_eq_false_iff] at h1;refine ⟨by have:=of_decide_eq_false h1.1; omega,fun i hi=>?_,h2⟩;have:=nH au h1.2 i hi;unfold Tg at this;have:=of_decide_eq_false this;omega
def pE (l:List ay) (d:List aW):Int:=bif eF l != 0 then eF l else bif !ig l d then 1 else 0
theorem gq {α:Type} (d:α) (l:List α) (i:Nat) (v:α) (k:Nat):(l.set i v).getD k d=if k=i∧i<l.length then v else l.getD k d:=by
 rw [List.getD_eq_getElem?_getD,List.getD_eq_getElem?_getD,List.getElem?_set];by_cases h:i=k
 ·subst h;by_cases h2:i<l.length
  ·simp [h2]
  ·simp [h2]
 ·have:¬ (k=i∧i<l.length):=fun h'=>h h'.1.symm;simp [h,this]
def Ti {α:Type} (f:Nat→α→α):Nat→α→α
 | 0,a=>a
 | k+1,a=>Ti f k (f k a)
def qc (n:Nat) (d:List aW):List Bool:=d.foldl (fun a x=>a.set x.bM.toNat true) (List.replicate n false)
def iA (l:List ay) (i:Nat) (a:List Bool):List Bool:=
 bif (a.getD i false||(l.getD i au).fQ)&&decide (0≤(l.getD i au).aN) then (a.set i (a.getD i false||(l.getD i au).fQ)).set (l.getD i au).aN.toNat true else a.set i (a.getD i false||(l.getD i au).fQ)
def fF (l:List ay) (d:List aW):List Bool:=Ti (iA l) l.length (qc l.length d)
structure JG (l:List ay) (d:List aW):Prop where
 len:l.length≤16
 asU:d.length≤32
 bM:∀i,i<l.length → -1≤(l.getD i au).aN∧(l.getD i au).aN<i∧1≤(l.getD i au).bJ.length∧(l.getD i au).bJ.length≤16∧0≤(l.getD i au).gB∧(l.getD i au).gB≤5000∧0≤(l.getD i au).gY∧(l.getD i au).gY≤10000
 bJ:∀i,i<l.length→NM 0 (l.getD i au).bJ=true
 drw:∀x∈d,0≤x.bM∧x.bM<l.length∧0≤x.Low∧x.Low≤x.fK∧x.fK≤5000∧0≤x.Load∧x.Load≤10000
theorem Ak {n lo hi:Int}:dJ n lo hi=true↔lo≤n∧n≤hi:=by
 unfold dJ;simp
theorem aeB {l:List ay} {k:Nat} (h:Vo k l=true):∀i,i<l.length→yQ (l.getD i au) ((k+i:Nat):Int)=true:=by
 induction l generalizing k with
 | nil=>intro i hi; simp at hi
 | cons s t ih=>
  rw [Vo,Bool.and_eq_true] at h;intro i hi;cases i with
  | zero=>exact h.1
  | succ i=>
   have:=ih h.2 i (by simpa using hi);rw [show k+(i+1)=k+1+i by omega];exact this
theorem aeC {s:ay} {k:Int} (h:yQ s k=true) : -1≤s.aN∧s.aN<k∧1≤s.bJ.length∧0≤s.gB∧s.gB≤5000∧0≤s.gY∧s.gY≤10000∧NM 0 s.bJ=true∧(s.aN<0→s.gB=0):=by
 unfold yQ WV at h;simp only [Bool.and_eq_true,Bool.not_eq_true',Bool.or_eq_false_iff,Bool.not_eq_false',Ak] at h;obtain ⟨⟨⟨⟨⟨h1,h2⟩,h3⟩,h4⟩,h5⟩,h6⟩:=h;have h2':¬ (s.bJ.length:Int)=0:=by simpa using h2
 refine ⟨h1.1,om,om,h3.1,h3.2,h5.1,h5.2,h6,fun hp=>?_⟩;rw [decide_eq_true hp] at h4;simpa using h4
theorem rG {l:List ay} {d:List aW} (h:ig l d=true):JG l d:=by
 unfold ig at h;simp only [Bool.and_eq_true,Bool.not_eq_true'] at h;obtain ⟨⟨h1,h2⟩,h3⟩:=h;have h1:eF l=0:=by simpa using h1
 obtain ⟨c1,c2,c3⟩:=JF h1;refine ⟨c1,by have:=of_decide_eq_true h2; omega,fun i hi=>?_,fun i hi=>?_,fun x hx=>?_⟩
 ·have:=aeC (aeB c3 i hi);have:=c2 i hi;omega
 ·exact (aeC (aeB c3 i hi)).2.2.2.2.2.2.2.1
 ·have:=(List.any_eq_false.1 h3) x hx;unfold Zx at this;simp only [Bool.not_eq_true,Bool.or_eq_false_iff,Bool.not_eq_false',Ak] at this;omega
theorem abB {α β:Type} (f:List α→β→List α) (hf:∀a x,(f a x).length=a.length) (d:List β) (a:List α):(d.foldl f a).length=a.length:=by
 induction d generalizing a with
 | nil=>rfl
 | cons x d ih=>rw [List.foldl_cons,ih,hf]
theorem r9 (n:Nat) (d:List aW):(qc n d).length=n:=by
 unfold qc;rw [abB _ (fun a x=>List.length_set ..),List.length_replicate]
theorem nk (l:List ay) (i:Nat) (a:List Bool):(iA l i a).length=a.length:=by
 unfold iA;cases (a.getD i false||(l.getD i au).fQ)&&decide (0≤(l.getD i au).aN)<;>simp
theorem abC {α:Type} {f:Nat→List α→List α} (hf:∀i a,(f i a).length=a.length) (k:Nat) (a:List α):(Ti f k a).length=a.length:=by
 induction k generalizing a with
 | zero=>rfl
 | succ k ih=>rw [Ti,ih,hf]
theorem sj (l:List ay) (d:List aW):(fF l d).length=l.length:=by
 unfold fF;rw [abC (nk l),r9]
def IZ {α:Type} (f:Nat→α→α) (n:Nat):Nat→α→α
 | 0,a=>a
 | k+1,a=>f (n - 1 - k) (IZ f n k a)
theorem ait {α:Type} (f:Nat→α→α) (n k:Nat) (hk:k≤n) (a:α):Ti f n a=Ti f (n - k) (IZ f n k a):=by
 induction k with
 | zero=>rfl
 | succ k ih=>
  rw [ih om,show n - k=n - (k+1)+1 by omega,Ti,IZ,show n - 1 - k=n - (k+1) by omega]
theorem CW {α:Type} (f:Nat→α→α) (n:Nat) (a:α):IZ f n n a=Ti f n a:=by
 rw [ait f n n (Nat.le_refl _),Nat.sub_self];rfl
theorem uD {α:Type} {f:Nat→List α→List α} (hf:∀i a,(f i a).length=a.length) (n k:Nat) (a:List α):(IZ f n k a).length=a.length:=by
 induction k with
 | zero=>rfl
 | succ k ih=>rw [IZ,hf,ih]
theorem nu {α:Type} (n k:Nat) (v:α):(List.replicate n v).getD k v=v:=by
 rw [List.getD_eq_getElem?_getD,List.getElem?_replicate];split<;>rfl
def yR (n:Nat) (d:List aW):List Int:=d.foldl (fun a x=>a.set x.bM.toNat (a.getD x.bM.toNat 0+x.Load)) (List.replicate n 0)
def iD (l:List ay) (i:Nat) (a:List Int):List Int:=
 bif decide (0≤(l.getD i au).aN) then a.set (l.getD i au).aN.toNat (a.getD (l.getD i au).aN.toNat 0+a.getD i 0) else a
def kZ (l:List ay) (d:List aW):List Int:=Ti (iD l) l.length (yR l.length d)
theorem xw (n:Nat) (d:List aW):(yR n d).length=n:=by
 unfold yR;rw [abB _ (fun a x=>List.length_set ..),List.length_replicate]
theorem sw (l:List ay) (i:Nat) (a:List Int):(iD l i a).length=a.length:=by
 unfold iD;cases decide (0≤(l.getD i au).aN)<;>simp
theorem Rq (l:List ay) (d:List aW):(kZ l d).length=l.length:=by
 unfold kZ;rw [abC (sw l),xw]
def Bnd (a:List Int) (M:Int):Prop:=∀j,0≤a.getD j 0∧a.getD j 0≤M
theorem Bnd.set {a:List Int} {M N:Int} (h:Bnd a M) (hM:M≤N) (i:Nat) (v:Int) (hv:0≤v∧v≤N):Bnd (a.set i v) N:=fun j=>by
 rw [gq];have:=h j;split
 ·exact hv
 ·omega
theorem aeD (n:Nat) (d:List aW) (hd:∀x∈d,0≤x.Load∧x.Load≤10000) (i:Nat) (hi:i≤d.length):Bnd (yR n (d.take i)) (10000*i):=by
 induction i with
 | zero=>intro j; rw [List.take_zero]; have:(yR n []).getD j 0=0:=nu n j 0; omega
 | succ i ih=>
  have hsn:yR n (d.take (i+1))=(yR n (d.take i)).set (d.getD i dI).bM.toNat ((yR n (d.take i)).getD (d.getD i dI).bM.toNat 0+(d.getD i dI).Load):=uK _ _ dI hi;rw [hsn];have h1:=ih om;have h2:=hd _ (je dI hi);have h3:=h1 (d.getD i dI).bM.toNat;exact h1.set om _ _ om
theorem agl (l:List ay) (a:List Int) (M:Int) (h:Bnd a M) (k:Nat):Bnd (IZ (iD l) l.length k a) (M*2 ^ k):=by
 induction k with
 | zero=>show Bnd a (M*2 ^ 0); rw [Int.pow_zero,Int.mul_one]; exact h
 | succ k ih=>
  rw [IZ];have e:M*2 ^ (k+1)=M*2 ^ k+M*2 ^ k:=by rw [Int.pow_succ,← Int.mul_assoc]; omega
  rw [e];generalize IZ (iD l) l.length k a=A at ih;generalize M*2 ^ k=X at ih;have hp:0≤X:=by have:=ih 0; omega
  unfold iD;cases decide (0≤(l.getD (l.length - 1 - k) au).aN) with
  | true=>
   have h1:=ih (l.getD (l.length - 1 - k) au).aN.toNat;have h2:=ih (l.length - 1 - k);exact ih.set om _ _ om
  | false=>
   intro j;have:=ih j;simp only [cond_false];omega
theorem JH {l:List ay} {d:List aW} (hv:JG l d) (k:Nat) (hk:k≤l.length):Bnd (IZ (iD l) l.length k (yR l.length d)) 100000000000:=by
 have h1:=aeD l.length d (fun x hx=>by have:=hv.drw x hx; omega) d.length (Nat.le_refl _);rw [List.take_length] at h1;have h2:=agl l _ _ h1 k;have hvl:=hv.len;have hvd:=hv.asU;have h3:(2:Int) ^ k≤2 ^ 16:=by exact_mod_cast Nat.pow_le_pow_right (n:=2) (by decide) (show k≤16 by omega)
 have h4:10000*(d.length:Int)*2 ^ k≤320000*2 ^ 16:=Int.mul_le_mul om h3 (Int.pow_nonneg (by decide)) (by decide);intro j;have:=h2 j;omega
theorem aeE {l:List ay} {d:List aW} (h:pE l d=0):ig l d=true:=by
 unfold pE at h;cases hc:eF l != 0 with
 | true=>rw [hc] at h; have:eF l=0:=h; rw [this] at hc; cases hc
 | false=>
  rw [hc] at h;cases hd:ig l d with
  | true=>rfl
  | false=>rw [hd] at h; cases h
def mH (l:List ay) (r:cO) (k:Nat):Int:=(l.getD k au).bJ.getD (r.dP.getD k 0).toNat 0
def NP (l:List ay) (r:cO) (u:List Bool) (ld:List Int) (i:Nat):Bool:=
 bif !r.On.getD i false then u.getD i false
 else (decide (0≤(l.getD i au).aN)&&(!r.On.getD (l.getD i au).aN.toNat false||decide (mH l r (l.getD i au).aN.toNat<mH l r i+(l.getD i au).gB)))||decide ((l.getD i au).gY<ld.getD i 0)
def Zy (l:List ay) (r:cO) (x:aW):Bool:=!dJ (mH l r x.bM.toNat) x.Low x.fK
def xA (l:List ay) (r:cO) (d:List aW):Bool:=(List.range l.length).all (fun i=>!NP l r (fF l d) (kZ l d) i)&&!(d.any (Zy l r))
def fq (l:List ay) (r:cO) (d:List aW):Bool:=bif !uV l r||!ig l d then false else xA l r d
structure Rok (l:List ay) (r:cO):Prop where
 On:r.On.length=l.length
 len:r.dP.length=l.length
 bJ:∀i,i<l.length→0≤r.dP.getD i 0∧(r.dP.getD i 0).toNat<(l.getD i au).bJ.length∧r.dP.getD i 0<(l.getD i au).bJ.length
theorem amF {l:List ay} {r:List Int} (h:r.length=l.length):rlN l r=true↔∀i,i<l.length→0≤r.getD i 0∧r.getD i 0<(l.getD i au).bJ.length:=by
 induction l generalizing r with
 | nil=>simp [rlN]
 | cons s l ih=>
  cases r with
  | nil=>simp at h
  | cons k r=>
   rw [rlN,Bool.and_eq_true,Ak,ih (by simpa using h)];constructor
   ·rintro ⟨h1,h2⟩ i hi;cases i with
    | zero=>show 0≤k∧k<s.bJ.length; omega
    | succ i=>exact h2 i (by simpa using hi)
   ·intro h2;refine ⟨?_,fun i hi=>h2 (i+1) (by simpa using hi)⟩;have:0≤k∧k<s.bJ.length:=h2 0 (by simp);omega
theorem Db {l:List ay} {r:cO}:uV l r=true↔eF l=0∧Rok l r:=by
 unfold uV;cases h:((eF l != 0)||((r.On.length:Int) != l.length))||((r.dP.length:Int) != l.length) with
 | true=>
  simp only [cond_true];constructor
  ·intro h; cases h
  ·rintro ⟨h1,h2⟩;rw [h1,h2.On,h2.len] at h;simp at h
 | false=>
  simp only [cond_false];have h':eF l=0∧r.On.length=l.length∧r.dP.length=l.length:=by
   simp at h;omega
  rw [amF h'.2.2];constructor
  ·intro h1;exact ⟨h'.1,h'.2.1,h'.2.2,fun i hi=>by have:=h1 i hi; omega⟩
  ·intro h1 i hi;have:=h1.2.bJ i hi;omega
theorem acO {p:Int} {v:List Int} (h:NM p v=true):∀j,j<v.length→p<v.getD j 0∧1≤v.getD j 0∧v.getD j 0≤5000:=by
 induction v generalizing p with
 | nil=>intro j hj; simp at hj
 | cons a v ih=>
  rw [NM,Bool.and_eq_true,Bool.not_eq_true',Bool.or_eq_false_iff,Bool.not_eq_false',Ak] at h;have h1:=of_decide_eq_false h.1.2;intro j hj;cases j with
  | zero=>show p<a∧1≤a∧a≤5000; omega
  | succ j=>
   have:=ih h.2 j (by simpa using hj);show p<v.getD j 0∧1≤v.getD j 0∧v.getD j 0≤5000;omega
theorem Bb {n i:Nat} {p:Nat→Bool} (hi:i<n) (h:p i=false):(List.range n).all p=false:=by
 rw [List.all_eq_false];exact ⟨i,by simpa using hi,by simp [h]⟩
theorem NQ {n:Nat} {p:Nat→Bool} (h:∀i,i<n→p i=true):(List.range n).all p=true:=by
 rw [List.all_eq_true];intro i hi;exact h i (by simpa using hi)
theorem Tj {l:List ay} {d:List aW} {r:cO} (hv:JG l d) (hr:Rok l r) (i:Nat) (hi:i<l.length):1≤mH l r i∧mH l r i≤5000:=by
 have:=acO (hv.bJ i hi) _ (hr.bJ i hi).2.1;unfold mH;omega
theorem xk {α:Type} (d:α) {a b:List α} (h1:a.length=b.length) (h2:∀j,j<a.length→a.getD j d=b.getD j d):a=b:=by
 apply List.ext_getElem h1;intro j hj hj';have:=h2 j hj;rw [List.getD_eq_getElem?_getD,List.getD_eq_getElem?_getD,List.getElem?_eq_getElem hj,List.getElem?_eq_getElem hj'] at this;exact this
def O9 (d:List aW) (i:Nat):Bool:=d.any (fun x=>x.bM==(i:Int))
theorem abD (n:Nat) (d:List aW) (hd:∀x∈d,0≤x.bM∧x.bM<n) (j:Nat):(qc n d).getD j false=O9 d j:=by
 unfold qc O9;have key:∀(d:List aW) (a:List Bool),a.length=n→(∀x∈d,0≤x.bM∧x.bM<n)→(d.foldl (fun a x=>a.set x.bM.toNat true) a).getD j false=(a.getD j false||d.any (fun x=>x.bM==(j:Int))):=by
  intro d;induction d with
  | nil=>intro a _ _; simp
  | cons x d ih=>
   intro a ha hd;have hx:=hd x (by simp);rw [List.foldl_cons,ih _ (by simpa using ha) (fun y hy=>hd y (by simp [hy])),gq,List.any_cons];by_cases hj:j=x.bM.toNat
   ·have:(x.bM==(j:Int))=true:=by simp; omega
    rw [if_pos ⟨hj,om⟩,this];simp
   ·have:(x.bM==(j:Int))=false:=by simp; omega
    rw [if_neg (fun h=>hj h.1),this];simp
 rw [key d _ (by simp) hd,nu];simp
structure Qw (l:List ay) (d:List aW) (k:Nat) (b:List Bool):Prop where
 len:b.length=l.length
 hi:∀j,j<l.length→l.length - k≤j→b.getD j false=(IZ (iA l) l.length k (qc l.length d)).getD j false
 lo:∀j,j<l.length - k→(IZ (iA l) l.length k (qc l.length d)).getD j false=(b.getD j false||O9 d j)
def Tk (l:List ay) (d:List aW) (i:Nat) (b:List Bool):List Bool:=
 bif (b.getD i false||(l.getD i au).fQ||O9 d i)&&decide (0≤(l.getD i au).aN) then (b.set i (b.getD i false||(l.getD i au).fQ||O9 d i)).set (l.getD i au).aN.toNat true else b.set i (b.getD i false||(l.getD i au).fQ||O9 d i)
theorem Qw.step {l:List ay} {d:List aW} (hv:JG l d) {k:Nat} {b:List Bool} (h:Qw l d k b) (hk:k<l.length):Qw l d (k+1) (Tk l d (l.length - 1 - k) b):=by
 obtain ⟨h1,h2,h3⟩:=h;have hup:IZ (iA l) l.length (k+1) (qc l.length d)=iA l (l.length - 1 - k) (IZ (iA l) l.length k (qc l.length d)):=rfl;have hal:(IZ (iA l) l.length k (qc l.length d)).length=l.length:=by rw [uD (nk l),r9]
 generalize IZ (iA l) l.length k (qc l.length d)=a at h2 h3 hup hal;have hs:=hv.bM (l.length - 1 - k) om;have hai:=h3 (l.length - 1 - k) om;generalize hi:l.length - 1 - k=i at hup hs hai;have hF:(a.getD i false||(l.getD i au).fQ)=(b.getD i false||(l.getD i au).fQ||O9 d i):=by
  rw [hai];cases b.getD i false<;>cases (l.getD i au).fQ<;>cases O9 d i<;>rfl
 refine ⟨?_,?_,?_⟩
 ·unfold Tk;cases (b.getD i false||(l.getD i au).fQ||O9 d i)&&decide (0≤(l.getD i au).aN)<;>simp [h1]
 all_goals
  rw [hup]
  unfold Tk iA
  rw [hF]
  generalize (b.getD i false||(l.getD i au).fQ||O9 d i)=F
  cases hc:F&&decide (0≤(l.getD i au).aN) with
  | true=>
   simp only [cond_true]
   simp only [Bool.and_eq_true] at hc
   have hp:=of_decide_eq_true hc.2
   intro j hj
   try intro hj2
   simp only [gq,List.length_set,h1,hal]
   by_cases hjp:j=(l.getD i au).aN.toNat∧(l.getD i au).aN.toNat<l.length
   ·rw [if_pos hjp,if_pos hjp]
    try rfl
   ·rw [if_neg hjp,if_neg hjp]
    by_cases hji:j=i∧i<l.length
    ·rw [if_pos hji,if_pos hji]
     try omega
    ·rw [if_neg hji,if_neg hji]
     first | exact h2 j om om | exact h3 j om
  | false=>
   simp only [cond_false]
   intro j hj
   try intro hj2
   simp only [gq,h1,hal]
   by_cases hji:j=i∧i<l.length
   ·rw [if_pos hji,if_pos hji]
    try omega
   ·rw [if_neg hji,if_neg hji]
    first | exact h2 j om om | exact h3 j om
theorem Qw.done {l:List ay} {d:List aW} {b:List Bool} (h:Qw l d l.length b):b=fF l d:=by
 refine xk false (by rw [h.len,sj]) fun j hj=>?_;rw [h.hi j (by rw [← h.len]; exact hj) om,CW];rfl
theorem Qw.start {l:List ay} {d:List aW} (hv:JG l d):Qw l d 0 (List.replicate l.length false):=by
 refine ⟨by simp,fun j hj h=>by omega,fun j hj=>?_⟩;rw [nu];show (qc l.length d).getD j false=_;rw [abD _ _ (fun x hx=>by have:=hv.drw x hx; omega)];simp
def vP (d:List aW) (i:Nat):Int:=d.foldl (fun s x=>bif x.bM==(i:Int) then s+x.Load else s) 0
theorem Vp {d:List aW} {j i:Nat} (h:j<d.length):vP (d.take (j+1)) i=bif (d.getD j dI).bM==(i:Int) then vP (d.take j) i+(d.getD j dI).Load else vP (d.take j) i:=uK _ _ dI h
theorem Im (n:Nat) (d:List aW) (hd:∀x∈d,0≤x.bM∧x.bM<n) (j:Nat):(yR n d).getD j 0=vP d j:=by
 unfold yR vP;have key:∀(d:List aW) (a:List Int) (s:Int),a.length=n→(∀x∈d,0≤x.bM∧x.bM<n)→a.getD j 0=s→(d.foldl (fun a x=>a.set x.bM.toNat (a.getD x.bM.toNat 0+x.Load)) a).getD j 0=d.foldl (fun s x=>bif x.bM==(j:Int) then s+x.Load else s) s:=by
  intro d;induction d with
  | nil=>intro a s _ _ h; exact h
  | cons x d ih=>
   intro a s ha hd h;have hx:=hd x (by simp);rw [List.foldl_cons,List.foldl_cons];refine ih _ _ (by simpa using ha) (fun y hy=>hd y (by simp [hy])) ?_;rw [gq];by_cases hj:j=x.bM.toNat
   ·have:(x.bM==(j:Int))=true:=by simp; omega
    rw [if_pos ⟨hj,om⟩,this,← hj,h];rfl
   ·have:(x.bM==(j:Int))=false:=by simp; omega
    rw [if_neg (fun h=>hj h.1),this];exact h
 exact key d _ 0 (by simp) hd (nu _ _ _)
theorem Tm {d:List aW} (hd:∀x∈d,0≤x.Load∧x.Load≤10000) (i j:Nat) (hj:j≤d.length):0≤vP (d.take j) i∧vP (d.take j) i≤10000*j:=by
 induction j with
 | zero=>rw [List.take_zero]; exact ⟨Int.le_refl _,Int.le_refl _⟩
 | succ j ih=>
  have:=ih om;have h2:=hd _ (je dI hj);rw [Vp hj];cases (d.getD j dI).bM==(i:Int) with
  | true=>simp only [cond_true]; omega
  | false=>simp only [cond_false]; omega
structure La (l:List ay) (d:List aW) (k:Nat) (b:List Int):Prop where
 len:b.length=l.length
 pos:∀j,0≤b.getD j 0
 hi:∀j,j<l.length→l.length - k≤j→b.getD j 0=(IZ (iD l) l.length k (yR l.length d)).getD j 0
 lo:∀j,j<l.length - k→(IZ (iD l) l.length k (yR l.length d)).getD j 0=b.getD j 0+vP d j
def Pb (l:List ay) (d:List aW) (i:Nat) (b:List Int):List Int:=
 bif decide (0≤(l.getD i au).aN) then (b.set i (b.getD i 0+vP d i)).set (l.getD i au).aN.toNat (b.getD (l.getD i au).aN.toNat 0+(b.getD i 0+vP d i)) else b.set i (b.getD i 0+vP d i)
theorem La.step {l:List ay} {d:List aW} (hv:JG l d) {k:Nat} {b:List Int} (h:La l d k b) (hk:k<l.length):La l d (k+1) (Pb l d (l.length - 1 - k) b):=by
 obtain ⟨h1,h0,h2,h3⟩:=h;have hdp:∀i,0≤vP d i:=fun i=>by
  have:=(Tm (d:=d) (fun x hx=>by have:=hv.drw x hx; omega) i d.length (Nat.le_refl _)).1;rwa [List.take_length] at this
 have hup:IZ (iD l) l.length (k+1) (yR l.length d)=iD l (l.length - 1 - k) (IZ (iD l) l.length k (yR l.length d)):=rfl;have hal:(IZ (iD l) l.length k (yR l.length d)).length=l.length:=by rw [uD (sw l),xw]
 generalize IZ (iD l) l.length k (yR l.length d)=a at h2 h3 hup hal;have hs:=hv.bM (l.length - 1 - k) om;have hai:=h3 (l.length - 1 - k) om;generalize hi:l.length - 1 - k=i at hup hs hai;have hb0:=h0 i;have hd0:=hdp i;refine ⟨?_,?_,?_,?_⟩
 ·unfold Pb;cases decide (0≤(l.getD i au).aN)<;>simp [h1]
 ·intro j;have hb1:=h0 j;have hb2:=h0 (l.getD i au).aN.toNat;unfold Pb;cases decide (0≤(l.getD i au).aN)<;>simp only [cond_true,cond_false,gq]<;>repeat' split
  all_goals omega
 all_goals
  rw [hup]
  unfold Pb iD
  cases hc:decide (0≤(l.getD i au).aN) with
  | true=>
   simp only [cond_true]
   have hp:=of_decide_eq_true hc
   intro j hj
   try intro hj2
   simp only [gq,List.length_set,h1,hal]
   have hap:=h3 (l.getD i au).aN.toNat om
   by_cases hjp:j=(l.getD i au).aN.toNat∧(l.getD i au).aN.toNat<l.length
   ·rw [if_pos hjp,if_pos hjp]
    try rw [hjp.1]
    omega
   ·rw [if_neg hjp,if_neg hjp]
    by_cases hji:j=i∧i<l.length
    ·rw [if_pos hji,hji.1]
     omega
    ·rw [if_neg hji]
     first | exact h2 j om om | exact h3 j om
  | false=>
   simp only [cond_false]
   intro j hj
   try intro hj2
   simp only [gq,h1]
   by_cases hji:j=i∧i<l.length
   ·rw [if_pos hji,hji.1]
    omega
   ·rw [if_neg hji]
    first | exact h2 j om om | exact h3 j om
theorem La.done {l:List ay} {d:List aW} {b:List Int} (h:La l d l.length b):b=kZ l d:=by
 refine xk 0 (by rw [h.len,Rq]) fun j hj=>?_;rw [h.hi j (by rw [← h.len]; exact hj) om,CW];rfl
theorem La.start {l:List ay} {d:List aW} (hv:JG l d):La l d 0 (List.replicate l.length 0):=by
 refine ⟨by simp,fun j=>by rw [nu]; omega,fun j hj h=>by omega,fun j hj=>?_⟩;rw [nu];show (yR l.length d).getD j 0=_;rw [Im _ _ (fun x hx=>by have:=hv.drw x hx; omega)];simp
theorem La.small {l:List ay} {d:List aW} (hv:JG l d) {k:Nat} {b:List Int} (h:La l d k b) (hk:k≤l.length) (j:Nat):0≤b.getD j 0∧b.getD j 0≤100000000000:=by
 have h1:=JH hv k hk j;refine ⟨h.pos j,?_⟩;have hd:=(Tm (d:=d) (fun x hx=>by have:=hv.drw x hx; omega) j d.length (Nat.le_refl _)).1;rw [List.take_length] at hd;by_cases h2:j<l.length - k
 ·have:=h.lo j h2; omega
 ·by_cases h3:j<l.length
  ·have:=h.hi j h3 om; omega
  ·rw [GZ 0 (by rw [h.len]; omega)]; omega
def lvN:List Int→Int→Nat
 | [],_=>0
 | x::t,v=>bif decide (v≤x) then 0 else lvN t v+1
theorem aoW (v:Int) (l:List Int):lvN l v≤l.length:=by
 induction l with
 | nil=>exact Nat.le_refl _
 | cons x l ih=>
  rw [lvN];cases decide (v≤x)<;>simp<;>omega
theorem akN {v:Int} {l:List Int}:∀j,j<lvN l v→l.getD j 0<v:=by
 induction l with
 | nil=>intro j hj; simp [lvN] at hj
 | cons x l ih=>
  rw [lvN];cases h:decide (v≤x) with
  | true=>intro j hj; simp at hj
  | false=>
   have:=of_decide_eq_false h;intro j hj;cases j with
   | zero=>show x<v; omega
   | succ j=>exact ih j (by simpa using hj)
theorem agm {v:Int} {l:List Int} (h:lvN l v<l.length):v≤l.getD (lvN l v) 0:=by
 induction l with
 | nil=>simp at h
 | cons x l ih=>
  rw [lvN] at h ⊢;cases hd:decide (v≤x) with
  | true=>exact of_decide_eq_true hd
  | false=>
   rw [hd] at h;exact ih (by simpa using h)
theorem agn {v:Int} {l:List Int} {k:Nat} (h0:k≤l.length) (h1:∀j,j<k→l.getD j 0<v) (h2:k<l.length→v≤l.getD k 0):k=lvN l v:=by
 have h3:=aoW v l;rcases Nat.lt_trichotomy k (lvN l v) with h | h | h
 ·have:=akN k h;have:=h2 om;omega
 ·exact h
 ·have:=agm (v:=v) (l:=l) om;have:=h1 _ h;omega
theorem akO {p:Int} {v:List Int} (h:NM p v=true):∀i j,i<j→j<v.length→v.getD i 0<v.getD j 0:=by
 induction v generalizing p with
 | nil=>intro i j _ hj; simp at hj
 | cons a v ih=>
  rw [NM,Bool.and_eq_true] at h;intro i j hij hj;cases j with
  | zero=>omega
  | succ j=>
   cases i with
   | zero=>exact (acO h.2 j (by simpa using hj)).1
   | succ i=>exact ih h.2 i j om (by simpa using hj)
theorem wrap_u64 {n:Int} (h:0≤n∧n<18446744073709551616):IntKind.u64.wrap n=n:=by
 show (if (false&&decide (n % (2 ^ 64:Int) ≥ 2 ^ 63))=true then n % (2 ^ 64:Int) - 2 ^ 64 else n % (2 ^ 64:Int))=n;rw [Bool.false_and,if_neg (by decide)];exact Int.emod_eq_of_lt h.1 om
structure DS where
 a:List Dem
 lv:List Int
def xB (n:Nat) (d:List aW):Nat→List Dem
 | 0=>List.replicate n ⟨0,-1,-1⟩
 | i+1=>bif decide (((xB n d i).getD (d.getD i dI).bM.toNat NK).xu<(d.getD i dI).Low) then (xB n d i).set (d.getD i dI).bM.toNat ⟨(d.getD i dI).Low,i,-1⟩ else xB n d i
def sW (l:List ay) (i:Nat) (s:DS):Nat:=lvN (l.getD i au).bJ (s.a.getD i NK).xu
def mh (l:List ay) (i:Nat) (s:DS):Int:=(l.getD i au).bJ.getD (sW l i s) 0+(l.getD i au).gB
def Bc (l:List ay) (u:List Bool) (i:Nat) (s:DS):DS:=
 bif !u.getD i false then s
 else ⟨bif decide (0≤(l.getD i au).aN)&&decide ((s.a.getD (l.getD i au).aN.toNat NK).xu<mh l i s) then s.a.set (l.getD i au).aN.toNat ⟨mh l i s,-1,i⟩ else s.a,s.lv.set i (sW l i s)⟩
def vK (l:List ay) (u:List Bool) (i:Nat) (s:DS):Bool:=u.getD i false&&!decide ((sW l i s:Int)<(l.getD i au).bJ.length)
def Px (l:List ay) (u:List Bool):Nat→DS→DS×Int
 | 0,s=>(s,-1)
 | k+1,s=>bif vK l u k s then (s,k) else Px l u k (Bc l u k s)
def ds0 (l:List ay) (d:List aW):DS:=⟨xB l.length d d.length,List.replicate l.length 0⟩
def Io (l:List ay) (d:List aW):DS×Int:=Px l (fF l d) l.length (ds0 l d)
theorem Pd (n:Nat) (d:List aW) (i:Nat):(xB n d i).length=n:=by
 induction i with
 | zero=>simp [xB]
 | succ i ih=>
  rw [xB];cases decide (((xB n d i).getD (d.getD i dI).bM.toNat NK).xu<(d.getD i dI).Low)<;>simp [ih]
structure DOk (l:List ay) (s:DS):Prop where
 al:s.a.length=l.length
 ll:s.lv.length=l.length
theorem acP {l:List ay} {u:List Bool} {i:Nat} {s:DS} (h:DOk l s):DOk l (Bc l u i s):=by
 unfold Bc;cases u.getD i false with
 | false=>exact h
 | true=>
  refine ⟨?_,by simp [h.ll]⟩;simp only [Bool.not_true,cond_false];cases decide (0≤(l.getD i au).aN)&&decide ((s.a.getD (l.getD i au).aN.toNat NK).xu<mh l i s)<;>simp [h.al]
theorem agp (l:List ay) (d:List aW):DOk l (ds0 l d):=⟨Pd _ _ _,by simp [ds0]⟩
def iH (l:List ay) (d:List aW):cO×Int:=
 bif pE l d != 0 then (Q0,pE l d)
 else bif decide (0≤(Io l d).2)||!fq l ⟨fF l d,(Io l d).1.lv⟩ d then (Q0,9) else (⟨fF l d,(Io l d).1.lv⟩,0)
theorem aiu {l:List ay} {u:List Bool} (I:DS→Prop) (hI:∀i s,i<l.length→I s→I (Bc l u i s)):∀(k:Nat) (s:DS),k≤l.length→I s→I (Px l u k s).1:=by
 intro k;induction k with
 | zero=>intro s _ h; exact h
 | succ k ih=>
  intro s hk h;rw [Px];cases vK l u k s with
  | true=>exact h
  | false=>exact ih _ om (hI k s om h)
def amG (l:List ay) (s:DS):Prop:=∀j,j<l.length→0≤s.lv.getD j 0∧s.lv.getD j 0<(l.getD j au).bJ.length
def lvK (l:List ay) (k v:Int):Nat:=lvN (l.getD k.toNat au).bJ v
def okK (l:List ay) (k v:Int):Bool:=decide (lvK l k v<(l.getD k.toNat au).bJ.length)
def voK (l:List ay) (k v:Int):Int:=(l.getD k.toNat au).bJ.getD (lvK l k v) 0
def rwN (l:List ay) (d:List aW) (last:Int):List Int→Int→Bool
 | [],_=>false
 | k::t,v=>bif !t.isEmpty then (bif !okK l k v then false else rwN l d last t (voK l k v+(l.getD k.toNat au).gB))
  else bif !okK l k v||decide (last<0) then !okK l k v&&decide (last<0)
  else ((d.getD last.toNat dI).bM==k)&&decide ((d.getD last.toNat dI).fK<voK l k v)
abbrev xC (l:List ay) (i:Nat):ay:=l.getD i au
abbrev Ap (a:List Bool) (i:Nat):Bool:=a.getD i false
abbrev EA (a:List Int) (i:Nat):Int:=a.getD i 0
theorem acQ {l:List ay} {i:Nat} {a:List Bool} (hi:i<a.length) (hp:(xC l i).aN<i) (j:Nat):
  Ap (iA l i a) j=true↔Ap a j=true∨(j=i∧(xC l i).fQ=true)∨((xC l i).aN=j∧(Ap a i=true∨(xC l i).fQ=true)):=by
 unfold iA Ap xC at *;generalize l.getD i au=s at *;cases hx:(a.getD i false||s.fQ) with
 | false=>
  simp only [Bool.false_and,cond_false];simp only [Bool.or_eq_false_iff] at hx;rw [gq,hx.1,hx.2];by_cases hj:j=i
  ·subst hj; rw [if_pos ⟨rfl,hi⟩,hx.1]; simp
  ·rw [if_neg (fun h=>hj h.1)]; simp [hj]
 | true=>
  have hx':a.getD i false=true∨s.fQ=true:=by simpa using hx
  by_cases hp0:0≤s.aN
  ·simp only [Bool.true_and,decide_eq_true hp0,cond_true];rw [gq,gq,List.length_set];by_cases hj:j=s.aN.toNat
   ·have:j<a.length:=by omega
    rw [if_pos ⟨hj,om⟩];simp only [true_iff];exact .inr (.inr ⟨om,hx'⟩)
   ·rw [if_neg (fun h=>hj h.1)];have hj':¬ s.aN=j:=by omega
    by_cases hji:j=i
    ·subst hji; rw [if_pos ⟨rfl,hi⟩]; simp only [true_iff,true_and]; exact hx'.elim .inl (fun h=>.inr (.inl h))
    ·rw [if_neg (fun h=>hji h.1)]; simp only [hji,hj',false_and,or_false]
  ·simp only [Bool.true_and,decide_eq_false hp0,cond_false];rw [gq];have hj':¬ s.aN=j:=by omega
   by_cases hji:j=i
   ·subst hji; rw [if_pos ⟨rfl,hi⟩]; simp only [true_iff,true_and]; exact hx'.elim .inl (fun h=>.inr (.inl h))
   ·rw [if_neg (fun h=>hji h.1)]; simp only [hji,hj',false_and,or_false]
theorem amH {l:List ay} {d:List aW} (hv:JG l d):∀k,k≤l.length→∀j:Nat,
  Ap (IZ (iA l) l.length k (qc l.length d)) j=true↔O9 d j=true∨(l.length - k≤j∧j<l.length∧(xC l j).fQ=true)∨∃c,l.length - k≤c∧c<l.length∧(xC l c).aN=j∧Ap (IZ (iA l) l.length k (qc l.length d)) c=true:=by
 intro k;induction k with
 | zero=>
  intro _ j;show (qc l.length d).getD j false=true↔_;rw [abD _ _ (fun x hx=>by have:=hv.drw x hx; omega)];constructor
  ·exact .inl
  ·rintro (h | h | ⟨c,h⟩)
   ·exact h
   ·omega
   ·omega
 | succ k ih=>
  intro hk j;have ih:=ih om;have hup:IZ (iA l) l.length (k+1) (qc l.length d)=iA l (l.length - 1 - k) (IZ (iA l) l.length k (qc l.length d)):=rfl;have hal:(IZ (iA l) l.length k (qc l.length d)).length=l.length:=by rw [uD (nk l),r9]
  have hs:=hv.bM (l.length - 1 - k) om;rw [hup];generalize IZ (iA l) l.length k (qc l.length d)=a at ih hal;generalize hi:l.length - 1 - k=i at hs;have get:=acQ (l:=l) (a:=a) (i:=i) om (by unfold xC; omega);have hne:¬ (xC l i).aN=(i:Int):=by unfold xC; omega
  have hgt:∀c,i<c→(Ap (iA l i a) c=true↔Ap a c=true):=fun c hc=>by
   rw [get c];constructor
   ·rintro (h | h | h)
    ·exact h
    ·omega
    ·have:(xC l i).aN=(c:Int):=h.1;unfold xC at this;omega
   ·exact .inl
  constructor
  ·intro h;rcases (get j).1 h with h | h | h
   ·rcases (ih j).1 h with h | h | ⟨c,h1,h2,h3,h4⟩
    ·exact .inl h
    ·exact .inr (.inl ⟨om,h.2⟩)
    ·exact .inr (.inr ⟨c,om,h2,h3,(hgt c om).2 h4⟩)
   ·rw [h.1];exact .inr (.inl ⟨om,om,h.2⟩)
   ·refine .inr (.inr ⟨i,om,om,h.1,(get i).2 ?_⟩);rcases h.2 with h | h
    ·exact .inl h
    ·exact .inr (.inl ⟨rfl,h⟩)
  ·rintro (h | ⟨h1,h2,h3⟩ | ⟨c,h1,h2,h3,h4⟩)
   ·exact (get j).2 (.inl ((ih j).2 (.inl h)))
   ·by_cases hji:j=i
    ·subst hji; exact (get j).2 (.inr (.inl ⟨rfl,h3⟩))
    ·exact (get j).2 (.inl ((ih j).2 (.inr (.inl ⟨om,h2,h3⟩))))
   ·by_cases hci:c=i
    ·subst hci;refine (get j).2 (.inr (.inr ⟨h3,?_⟩));rcases (get c).1 h4 with h | h | h
     ·exact .inl h
     ·exact .inr h.2
     ·exact absurd h.1 hne
    ·exact (get j).2 (.inl ((ih j).2 (.inr (.inr ⟨c,om,h2,h3,(hgt c om).1 h4⟩))))
theorem Tn {l:List ay} {d:List aW} (hv:JG l d) (j:Nat):
  Ap (fF l d) j=true↔O9 d j=true∨(j<l.length∧(xC l j).fQ=true)∨∃c,c<l.length∧(xC l c).aN=j∧Ap (fF l d) c=true:=by
 have:=amH hv l.length (Nat.le_refl _) j;rw [CW] at this;unfold fF;rw [this];constructor
 ·rintro (h | h | ⟨c,h⟩)
  ·exact .inl h
  ·exact .inr (.inl h.2)
  ·exact .inr (.inr ⟨c,h.2⟩)
 ·rintro (h | h | ⟨c,h⟩)
  ·exact .inl h
  ·exact .inr (.inl ⟨om,h⟩)
  ·exact .inr (.inr ⟨c,om,h⟩)
theorem qG {l:List ay} {d:List aW} {j:Nat} (h:Ap (fF l d) j=true):j<l.length:=by
 rcases Nat.lt_or_ge j l.length with h1 | h1
 ·exact h1
 ·unfold Ap at h;rw [GZ false (by rw [sj]; exact h1)] at h;cases h
theorem Vq {l:List ay} {d d':List aW} (hv:JG l d) (hv':JG l d') (h:∀j,O9 d j=true→O9 d' j=true):∀j,Ap (fF l d) j=true→Ap (fF l d') j=true:=by
 have key:∀m j,l.length - j≤m→Ap (fF l d) j=true→Ap (fF l d') j=true:=by
  intro m;induction m with
  | zero=>intro j hm hj; have:=qG hj; omega
  | succ m ih=>
   intro j hm hj;rw [Tn hv] at hj;rw [Tn hv'];rcases hj with hj | hj | ⟨c,h1,h2,h3⟩
   ·exact .inl (h j hj)
   ·exact .inr (.inl hj)
   ·have:=(hv.bM c h1).2.1;unfold xC at h2;exact .inr (.inr ⟨c,h1,h2,ih c om h3⟩)
 intro j;exact key _ j (Nat.le_refl _)
theorem aiv {l:List ay} {d d':List aW} (hv:JG l d) (hv':JG l d') (h:∀j,O9 d j=O9 d' j):fF l d=fF l d':=by
 refine xk false (by rw [sj,sj]) fun j _=>?_;have h1:=Vq hv hv' (fun j hj=>by rw [← h j]; exact hj) j;have h2:=Vq hv' hv (fun j hj=>by rw [h j]; exact hj) j;unfold Ap at h1 h2;cases ha:(fF l d).getD j false<;>cases hb:(fF l d').getD j false<;>simp_all
theorem aeF {l:List ay} {d:List aW} (hv:JG l d) {c:Nat} (h:Ap (fF l d) c=true) (hp:0≤(xC l c).aN):Ap (fF l d) (xC l c).aN.toNat=true:=by
 rw [Tn hv];exact .inr (.inr ⟨c,qG h,om,h⟩)
theorem abE {l:List ay} {d:List aW} (hv:JG l d) {x:aW} (h:x∈d):Ap (fF l d) x.bM.toNat=true:=by
 rw [Tn hv];refine .inl ?_;unfold O9;rw [List.any_eq_true];have:=hv.drw x h;refine ⟨x,h,?_⟩;rw [beq_iff_eq];omega
def aqg (x:aW) (i:Nat):Int:=bif x.bM==(i:Int) then x.Load else 0
theorem vL (x:aW) (d:List aW) (i:Nat):vP (x::d) i=aqg x i+vP d i:=by
 have key:∀(d:List aW) (s:Int),d.foldl (fun s x=>bif x.bM==(i:Int) then s+x.Load else s) s=s+vP d i:=by
  intro d;induction d with
  | nil=>intro s; show s=s+0; omega
  | cons y d ih=>
   intro s;unfold vP;rw [List.foldl_cons,List.foldl_cons,ih,ih];cases y.bM==(i:Int)<;>simp<;>omega
 show d.foldl _ _=_;rw [key];unfold aqg;cases hb:x.bM==(i:Int)<;>simp [hb]
theorem akP (a b:List aW) (i:Nat):vP (a++b) i=vP a i+vP b i:=by
 induction a with
 | nil=>show vP b i=0+vP b i; omega
 | cons x a ih=>rw [List.cons_append,vL,vL,ih]; omega
theorem aiw {a b:List aW} (h:a.Perm b) (i:Nat):vP a i=vP b i:=by
 induction h with
 | nil=>rfl
 | cons x _ ih=>rw [vL,vL,ih]
 | swap x y l=>rw [vL,vL,vL,vL]; omega
 | trans _ _ h1 h2=>exact h1.trans h2
theorem JI {l:List ay} {i:Nat} {a:List Int} (hi:i<a.length) (hp:(xC l i).aN<i) (j:Nat):
  EA (iD l i a) j=EA a j+(if (xC l i).aN=j then EA a i else 0):=by
 unfold iD EA xC at *;generalize l.getD i au=s at *;by_cases hp0:0≤s.aN
 ·rw [decide_eq_true hp0,cond_true,gq];by_cases hj:j=s.aN.toNat
  ·have e:s.aN=(j:Int):=by omega
   rw [if_pos ⟨hj,om⟩,if_pos e,hj]
  ·have e:¬ s.aN=(j:Int):=by omega
   rw [if_neg (fun h=>hj h.1),if_neg e];omega
 ·have e:¬ s.aN=(j:Int):=by omega
  rw [decide_eq_false hp0,cond_false,if_neg e];omega
theorem akQ {l:List ay} {d:List aW} (hv:JG l d) {a b c:List Int} (ha:a.length=l.length) (hb:b.length=l.length) (hc:c.length=l.length) (h:∀j,EA c j=EA a j+EA b j):∀k,k≤l.length→∀j,EA (IZ (iD l) l.length k c) j=EA (IZ (iD l) l.length k a) j+EA (IZ (iD l) l.length k b) j:=by
 intro k;induction k with
 | zero=>intro _; exact h
 | succ k ih=>
  intro hk j;have ih:=ih om;have hs:=(hv.bM (l.length - 1 - k) om).2.1;rw [IZ,IZ,IZ,JI (by rw [uD (sw l)]; omega) hs,JI (by rw [uD (sw l)]; omega) hs,JI (by rw [uD (sw l)]; omega) hs,ih j,ih (l.length - 1 - k)];split<;>omega
theorem Pe {l:List ay} {d:List aW} (hv:JG l d):∀x∈d,0≤x.bM∧x.bM<l.length:=fun x hx=>by have:=hv.drw x hx; omega
theorem aix {l:List ay} {a b:List aW} (ha:JG l a) (hb:JG l b) (hab:∀x∈a++b,0≤x.bM∧x.bM<l.length) (j:Nat):EA (kZ l (a++b)) j=EA (kZ l a) j+EA (kZ l b) j:=by
 have:=akQ ha (xw l.length a) (xw l.length b) (xw l.length (a++b)) (fun j=>by
  unfold EA;rw [Im _ _ hab,Im _ _ (Pe ha),Im _ _ (Pe hb),akP]) l.length (Nat.le_refl _) j
 rw [CW,CW,CW] at this;exact this
theorem agq {l:List ay} {a b:List aW} (ha:JG l a) (hb:JG l b) (h:∀j,vP a j=vP b j):kZ l a=kZ l b:=by
 unfold kZ;rw [show yR l.length a=yR l.length b from xk 0 (by rw [xw,xw]) fun j _=>by rw [Im _ _ (Pe ha),Im _ _ (Pe hb),h j]]
theorem acR {l:List ay} {d:List aW} (hv:JG l d) (j:Nat):0≤EA (kZ l d) j∧EA (kZ l d) j≤100000000000:=by
 have:=JH hv l.length (Nat.le_refl _);rw [CW] at this;exact this j
abbrev Rs (a:List Dem) (i:Nat):Dem:=a.getD i NK
abbrev xAt (d:List aW) (i:Nat):aW:=d.getD i dI
structure DI (n:Nat) (d:List aW) (i:Nat) (a:List Dem):Prop where
 len:a.length=n
 just:∀j,j<n→Rs a j=⟨0,-1,-1⟩∨∃q,q<i∧(xAt d q).bM=j∧Rs a j=⟨(xAt d q).Low,q,-1⟩
 Low:∀q,q<i→(xAt d q).Low≤(Rs a (xAt d q).bM.toNat).xu
theorem akR {n:Nat} {d:List aW} (hd:∀x∈d,0≤x.bM∧x.bM<n):∀i,i≤d.length→DI n d i (xB n d i):=by
 intro i;induction i with
 | zero=>
  intro _;refine ⟨Pd _ _ _,fun j hj=>.inl ?_,fun q hq=>by omega⟩;show (List.replicate n (⟨0,-1,-1⟩:Dem)).getD j NK=_;rw [List.getD_eq_getElem?_getD,List.getElem?_replicate,if_pos hj];rfl
 | succ i ih=>
  intro hi;obtain ⟨h1,h2,h3⟩:=ih om;have hx:=hd _ (je dI (show i<d.length by omega));rw [xB];generalize xB n d i=a at h1 h2 h3;by_cases hb:(Rs a (xAt d i).bM.toNat).xu<(xAt d i).Low
  ·rw [show decide ((a.getD (d.getD i dI).bM.toNat NK).xu<(d.getD i dI).Low)=true from decide_eq_true hb,cond_true];refine ⟨by rw [List.length_set,h1],fun j hj=>?_,fun q hq=>?_⟩
   ·unfold Rs;rw [gq];split
    ·rename_i h; exact .inr ⟨i,om,by unfold xAt; omega,rfl⟩
    ·rcases h2 j hj with h | ⟨q,h4,h5⟩
     ·exact .inl h
     ·exact .inr ⟨q,om,h5⟩
   ·unfold Rs;rw [gq];by_cases hqi:q=i
    ·subst hqi;rw [if_pos ⟨rfl,om⟩];exact Int.le_refl _
    ·have h4:=h3 q om;split
     ·rename_i h;unfold Rs at h4 hb;show (xAt d q).Low≤(xAt d i).Low;rw [h.1] at h4;unfold xAt at *;omega
     ·exact h4
  ·rw [show decide ((a.getD (d.getD i dI).bM.toNat NK).xu<(d.getD i dI).Low)=false from decide_eq_false hb,cond_false];refine ⟨h1,fun j hj=>?_,fun q hq=>?_⟩
   ·rcases h2 j hj with h | ⟨q,h4,h5⟩
    ·exact .inl h
    ·exact .inr ⟨q,om,h5⟩
   ·by_cases hqi:q=i
    ·subst hqi; omega
    ·exact h3 q om
structure Dm (l:List ay) (d:List aW) (u:List Bool) (k:Nat) (s:DS):Prop where
 al:s.a.length=l.length
 ll:s.lv.length=l.length
 just:∀j,j<l.length→Rs s.a j=⟨0,-1,-1⟩∨(∃q,q<d.length∧(xAt d q).bM=j∧Rs s.a j=⟨(xAt d q).Low,q,-1⟩)∨
  ∃c:Nat,k≤c∧c<l.length∧Ap u c=true∧(xC l c).aN=j∧sW l c s<(xC l c).bJ.length∧Rs s.a j=⟨mh l c s,-1,c⟩
 Low:∀q,q<d.length→(xAt d q).Low≤(Rs s.a (xAt d q).bM.toNat).xu
 up:∀c,k≤c→c<l.length→Ap u c=true→0≤(xC l c).aN→mh l c s≤(Rs s.a (xC l c).aN.toNat).xu
 ok:∀c,k≤c→c<l.length→Ap u c=true→sW l c s<(xC l c).bJ.length∧EA s.lv c=sW l c s
 zero:∀c,c<l.length→c<k∨Ap u c=false→EA s.lv c=0
theorem aoY {l:List ay} {d:List aW} (hv:JG l d) (u:List Bool):Dm l d u l.length (ds0 l d):=by
 obtain ⟨h1,h2,h3⟩:=akR (Pe hv) d.length (Nat.le_refl _);refine ⟨h1,by simp [ds0],fun j hj=>?_,h3,fun c hc hc'=>by omega,fun c hc hc'=>by omega,fun c hc _=>nu _ _ _⟩;rcases h2 j hj with h | h
 ·exact .inl h
 ·exact .inr (.inl h)
theorem amI {l:List ay} {d:List aW} {u:List Bool} {k:Nat} {s:DS} (hv:JG l d) (hk:k<l.length) (h:Dm l d u (k+1) s) (hf:vK l u k s=false):Dm l d u k (Bc l u k s):=by
 obtain ⟨al,ll,just,low,up,ok,zero⟩:=h;have hs:=(hv.bM k hk);unfold Bc;cases hu:u.getD k false with
 | false=>
  simp only [Bool.not_false,cond_true];have hne:∀c,k≤c→Ap u c=true→k+1≤c:=fun c h1 h2=>by
   rcases Nat.eq_or_lt_of_le h1 with h | h
   ·subst h; unfold Ap at h2; rw [hu] at h2; cases h2
   ·exact h
  refine ⟨al,ll,fun j hj=>?_,low,fun c h1 h2 h3=>up c (hne c h1 h3) h2 h3,fun c h1 h2 h3=>ok c (hne c h1 h3) h2 h3,fun c h1 h2=>zero c h1 ?_⟩
  ·rcases just j hj with h | h | ⟨c,h1,h2⟩
   ·exact .inl h
   ·exact .inr (.inl h)
   ·exact .inr (.inr ⟨c,om,h2⟩)
  ·rcases h2 with h2 | h2
   ·exact .inl om
   ·exact .inr h2
 | true=>
  unfold vK at hf;rw [hu,Bool.true_and,Bool.not_eq_false'] at hf;have hf:=of_decide_eq_true hf;simp only [Bool.not_true,cond_false];generalize hA:(bif decide (0≤(l.getD k au).aN)&&decide ((s.a.getD (l.getD k au).aN.toNat NK).xu<mh l k s) then s.a.set (l.getD k au).aN.toNat ⟨mh l k s,-1,k⟩ else s.a)=A;have hAl:A.length=l.length:=by
   rw [← hA];cases decide (0≤(l.getD k au).aN)&&decide ((s.a.getD (l.getD k au).aN.toNat NK).xu<mh l k s)<;>simp [al]
  have hget:∀j,Rs A j=Rs s.a j∧((xC l k).aN=(j:Int)→mh l k s≤(Rs s.a j).xu)∨(xC l k).aN=(j:Int)∧(Rs s.a j).xu<mh l k s∧Rs A j=⟨mh l k s,-1,k⟩:=by
   intro j;rw [← hA];by_cases hp:0≤(l.getD k au).aN
   ·by_cases hn:(s.a.getD (l.getD k au).aN.toNat NK).xu<mh l k s
    ·rw [decide_eq_true hp,decide_eq_true hn];simp only [Bool.and_self,cond_true];unfold Rs;rw [gq];by_cases hj:j=(l.getD k au).aN.toNat
     ·rw [if_pos ⟨hj,om⟩];refine .inr ⟨by unfold xC; omega,by rw [hj]; exact hn,rfl⟩
     ·rw [if_neg (fun h=>hj h.1)];exact .inl ⟨rfl,fun h=>by unfold xC at h; omega⟩
    ·rw [decide_eq_true hp,decide_eq_false hn];refine .inl ⟨rfl,fun h=>?_⟩;have:j=(l.getD k au).aN.toNat:=by unfold xC at h; omega
     rw [this];exact Int.not_lt.1 hn
   ·rw [decide_eq_false hp];refine .inl ⟨rfl,fun h=>by unfold xC at h; omega⟩
  have hge:∀j,(Rs s.a j).xu≤(Rs A j).xu:=fun j=>by
   rcases hget j with h | h
   ·rw [h.1]; exact Int.le_refl _
   ·rw [h.2.2]; exact Int.le_of_lt h.2.1
  have hsame:∀c,k≤c→Rs A c=Rs s.a c:=fun c hc=>by
   rcases hget c with h | h
   ·exact h.1
   ·have:=h.1; unfold xC at this; omega
  have hlv:∀c,k≤c→∀x,sW l c ⟨A,x⟩=sW l c s:=fun c hc x=>by
   have:=hsame c hc;unfold sW;unfold Rs at this;simp only [this]
  have hnd:∀c,k≤c→∀x,mh l c ⟨A,x⟩=mh l c s:=fun c hc x=>by
   unfold mh;rw [hlv c hc]
  refine ⟨hAl,by simp [ll],fun j hj=>?_,fun q hq=>Int.le_trans (low q hq) (hge _),fun c h1 h2 h3 h4=>?_,fun c h1 h2 h3=>?_,fun c h1 h2=>?_⟩
  ·show Rs A j=_∨_;rcases hget j with h | h
   ·show Rs A j=_∨(∃q,q<d.length∧(xAt d q).bM=j∧Rs A j=_)∨∃c:Nat,_∧_∧_∧_∧_∧Rs A j=_;rw [h.1];rcases just j hj with h | h | ⟨c,h1,h2,h3,h4,h5,h6⟩
    ·exact .inl h
    ·exact .inr (.inl h)
    ·refine .inr (.inr ⟨c,om,h2,h3,h4,?_,?_⟩)
     ·rw [hlv c om]; exact h5
     ·rw [hnd c om]; exact h6
   ·refine .inr (.inr ⟨k,Nat.le_refl _,hk,hu,h.1,?_,?_⟩)
    ·rw [hlv k (Nat.le_refl _)]; unfold xC; omega
    ·rw [hnd k (Nat.le_refl _)]; exact h.2.2
  ·show mh l c _≤(Rs A (xC l c).aN.toNat).xu;rw [hnd c h1];rcases Nat.eq_or_lt_of_le h1 with h | h
   ·subst h;rcases hget (xC l k).aN.toNat with h | h
    ·rw [h.1]; exact h.2 om
    ·rw [h.2.2]; exact Int.le_refl _
   ·exact Int.le_trans (up c h h2 h3 h4) (hge _)
  ·rw [hlv c h1];show _∧EA (s.lv.set k (sW l k s)) c=_;unfold EA;rw [gq];rcases Nat.eq_or_lt_of_le h1 with h | h
   ·subst h;rw [if_pos ⟨rfl,om⟩];exact ⟨by unfold xC; omega,rfl⟩
   ·rw [if_neg om];exact ok c h h2 h3
  ·show EA (s.lv.set k (sW l k s)) c=0;unfold EA;rw [gq];have hck:c≠k:=fun h=>by
    rcases h2 with h2 | h2
    ·omega
    ·subst h; unfold Ap at h2; rw [hu] at h2; cases h2
   rw [if_neg (fun h=>hck h.1)];refine zero c h1 ?_;rcases h2 with h2 | h2
   ·exact .inl om
   ·exact .inr h2
theorem amJ {l:List ay} {d:List aW} {u:List Bool} (hv:JG l d):∀(k:Nat) (s:DS),k≤l.length→Dm l d u k s→
  ((Px l u k s).2 = -1∧Dm l d u 0 (Px l u k s).1)∨∃q:Nat,(Px l u k s).2=q∧q<k∧Dm l d u (q+1) (Px l u k s).1∧vK l u q (Px l u k s).1=true:=by
 intro k;induction k with
 | zero=>intro s _ h; exact .inl ⟨rfl,h⟩
 | succ k ih=>
  intro s hk h;rw [Px];cases hf:vK l u k s with
  | true=>exact .inr ⟨k,rfl,om,h,hf⟩
  | false=>
   simp only [cond_false];rcases ih _ om (amI hv om h hf) with h | ⟨q,h1,h2,h3⟩
   ·exact .inl h
   ·exact .inr ⟨q,h1,om,h3⟩
theorem amK {l:List ay} {d:List aW} (hv:JG l d):((Io l d).2 = -1∧Dm l d (fF l d) 0 (Io l d).1)∨∃q:Nat,(Io l d).2=q∧q<l.length∧Dm l d (fF l d) (q+1) (Io l d).1∧vK l (fF l d) q (Io l d).1=true:=
 amJ hv _ _ (Nat.le_refl _) (aoY hv _)
structure Mt (l:List ay) (r:cO) (d:List aW):Prop where
 used:∀i,Ap (fF l d) i=true→Ap r.On i=true
 aN:∀i,i<l.length→Ap r.On i=true→0≤(xC l i).aN→Ap r.On (xC l i).aN.toNat=true∧mH l r i+(xC l i).gB≤mH l r (xC l i).aN.toNat
 gY:∀i,i<l.length→Ap r.On i=true→EA (kZ l d) i≤(xC l i).gY
 drw:∀x∈d,x.Low≤mH l r x.bM.toNat∧mH l r x.bM.toNat≤x.fK
theorem agr {l:List ay} {r:cO} {d:List aW}:xA l r d=true↔Mt l r d:=by
 unfold xA;rw [Bool.and_eq_true,List.all_eq_true,Bool.not_eq_true',List.any_eq_false];have hb:∀i,(!NP l r (fF l d) (kZ l d) i)=true↔(Ap r.On i=false→Ap (fF l d) i=false)∧(Ap r.On i=true→(0≤(xC l i).aN→Ap r.On (xC l i).aN.toNat=true∧mH l r i+(xC l i).gB≤mH l r (xC l i).aN.toNat)∧EA (kZ l d) i≤(xC l i).gY):=by
  intro i;unfold NP Ap xC EA;cases hon:r.On.getD i false with
  | false=>simp
  | true=>
   simp only [Bool.not_true,cond_false,Bool.not_eq_true',Bool.or_eq_false_iff,Bool.and_eq_false_iff,decide_eq_false_iff_not,Int.not_lt,Bool.not_eq_false'];constructor
   ·rintro ⟨h1,h2⟩;refine ⟨nofun,fun _=>⟨fun hp=>?_,h2⟩⟩;rcases h1 with h1 | h1
    ·exact absurd hp h1
    ·exact h1
   ·rintro ⟨_,h⟩;obtain ⟨h1,h2⟩:=h (by trivial);refine ⟨?_,h2⟩;by_cases hp:0≤(l.getD i au).aN
    ·exact .inr (h1 hp)
    ·exact .inl hp
 have hd:∀x,¬ Zy l r x=true↔x.Low≤mH l r x.bM.toNat∧mH l r x.bM.toNat≤x.fK:=by
  intro x;unfold Zy;rw [Bool.not_eq_true,Bool.not_eq_false',Ak]
 constructor
 ·rintro ⟨h1,h2⟩;have h1:∀i,i<l.length→_:=fun i hi=>(hb i).1 (h1 i (List.mem_range.2 hi));refine ⟨fun i hi=>?_,fun i hi ho=>((h1 i hi).2 ho).1,fun i hi ho=>((h1 i hi).2 ho).2,fun x hx=>(hd x).1 (h2 x hx)⟩;have hlt:=qG hi;cases ho:Ap r.On i with
  | true=>rfl
  | false=>rw [(h1 i hlt).1 ho] at hi; cases hi
 ·rintro ⟨h1,h2,h3,h4⟩;refine ⟨fun i hi=>(hb i).2 ⟨fun ho=>?_,fun ho=>⟨h2 i (List.mem_range.1 hi) ho,h3 i (List.mem_range.1 hi) ho⟩⟩,fun x hx=>(hd x).2 (h4 x hx)⟩;cases hu:Ap (fF l d) i with
  | false=>rfl
  | true=>rw [h1 i hu] at ho; cases ho
theorem NR {l:List ay} {d:List aW} (h:ig l d=true):eF l=0:=by
 unfold ig at h;simp only [Bool.and_eq_true] at h;simpa using h.1.1
theorem mo {l:List ay} {r:cO} {d:List aW} (h:ig l d=true):fq l r d=true↔Rok l r∧Mt l r d:=by
 unfold fq;rw [h];cases hr:uV l r with
 | false=>
  simp;intro hk;rw [Db.2 ⟨NR h,hk⟩] at hr;cases hr
 | true=>
  simp only [Bool.not_true,Bool.or_self,cond_false];rw [agr];exact ⟨fun hm=>⟨(Db.1 hr).2,hm⟩,fun hm=>hm.2⟩
theorem Yo {v:Int} {lev:List Int} {t:Nat} (hv:v≤lev.getD t 0):lvN lev v≤t:=by
 rcases Nat.lt_or_ge t (lvN lev v) with h | h
 ·have:=akN t h; omega
 ·exact h
theorem akS {p:Int} {v:List Int} (h:NM p v=true) {i j:Nat} (hij:i≤j) (hj:j<v.length):v.getD i 0≤v.getD j 0:=by
 rcases Nat.eq_or_lt_of_le hij with h1 | h1
 ·subst h1; exact Int.le_refl _
 ·exact Int.le_of_lt (akO h i j h1 hj)
theorem akT {l:List ay} {d:List aW} {k:Nat} {s:DS} {r:cO} (hv:JG l d) (hr:Rok l r) (hm:Mt l r d) (h:Dm l d (fF l d) k s):∀j,Ap (fF l d) j=true→(Rs s.a j).xu≤mH l r j:=by
 have key:∀m j,l.length - j≤m→Ap (fF l d) j=true→(Rs s.a j).xu≤mH l r j:=by
  intro m;induction m with
  | zero=>intro j h1 h2; have:=qG h2; omega
  | succ m ih=>
   intro j h1 hj;have hlt:=qG hj;rcases h.just j hlt with h2 | ⟨q,h2,h3,h4⟩ | ⟨c,h2,h3,h4,h5,h6,h7⟩
   ·rw [h2];have:=Tj hv hr j hlt;show 0≤_;omega
   ·rw [h4];have:=(hm.drw _ (je dI h2)).1;have e:(d.getD q dI).bM.toNat=j:=by unfold xAt at h3; omega
    rw [e] at this;exact this
   ·rw [h7];have hc:=(hv.bM c h3).2.1;have h8:=ih c (by unfold xC at h5; omega) h4;have h9:=hm.aN c h3 (hm.used c h4) om;have e:(xC l c).aN.toNat=j:=by omega
    rw [e] at h9;have h10:=hr.bJ c h3;have h11:sW l c s≤(r.dP.getD c 0).toNat:=Yo h8;have h12:=akS (hv.bJ c h3) h11 h10.2.1;refine Int.le_trans ?_ h9.2;show (l.getD c au).bJ.getD (sW l c s) 0+(l.getD c au).gB≤mH l r c+(xC l c).gB;unfold mH xC;omega
 exact fun j=>key _ j (Nat.le_refl _)
theorem aiy {l:List ay} {d:List aW} {q:Nat} {s:DS} {r:cO} (hv:JG l d) (hr:Rok l r) (hm:Mt l r d) (h:Dm l d (fF l d) (q+1) s) (hf:vK l (fF l d) q s=true):False:=by
 unfold vK at hf;rw [Bool.and_eq_true,Bool.not_eq_true'] at hf;have h1:=of_decide_eq_false hf.2;have hlt:=qG (l:=l) (d:=d) (j:=q) hf.1;have h2:=akT hv hr hm h q hf.1;have h3:=hr.bJ q hlt;have h4:sW l q s≤(r.dP.getD q 0).toNat:=Yo h2;omega
theorem aiz {l:List ay} {d:List aW} {s:DS} (hv:JG l d) (h:Dm l d (fF l d) 0 s):Rok l ⟨fF l d,s.lv⟩:=by
 refine ⟨sj l d,h.ll,fun i hi=>?_⟩;cases hu:Ap (fF l d) i with
 | true=>
  have:=h.ok i (Nat.zero_le _) hi hu;unfold EA xC at this;show 0≤s.lv.getD i 0∧(s.lv.getD i 0).toNat<_∧s.lv.getD i 0<_;omega
 | false=>
  have:=h.zero i hi (.inr hu);unfold EA at this;have h1:=(hv.bM i hi).2.2.1;show 0≤s.lv.getD i 0∧(s.lv.getD i 0).toNat<_∧s.lv.getD i 0<_;omega
theorem JJ {l:List ay} {d:List aW} {s:DS} (h:Dm l d (fF l d) 0 s) {i:Nat} (hu:Ap (fF l d) i=true):mH l ⟨fF l d,s.lv⟩ i=(xC l i).bJ.getD (sW l i s) 0:=by
 have:=(h.ok i (Nat.zero_le _) (qG hu) hu).2;unfold EA at this;unfold mH;show (l.getD i au).bJ.getD (s.lv.getD i 0).toNat 0=_;rw [this];rfl
theorem akU {l:List ay} {d:List aW} {s:DS} (hv:JG l d) (h:Dm l d (fF l d) 0 s) (hcap:∀i,Ap (fF l d) i=true→EA (kZ l d) i≤(xC l i).gY)
  (hhi:∀x∈d,mH l ⟨fF l d,s.lv⟩ x.bM.toNat≤x.fK):Mt l ⟨fF l d,s.lv⟩ d:=by
 refine ⟨fun i hi=>hi,fun i hi ho hp=>⟨aeF hv ho hp,?_⟩,fun i hi ho=>hcap i ho,fun x hx=>⟨?_,hhi x hx⟩⟩
 ·have hpu:=aeF hv ho hp;have h1:=h.up i (Nat.zero_le _) hi ho hp;have h2:=h.ok _ (Nat.zero_le _) (qG hpu) hpu;rw [JJ h ho,JJ h hpu];have h3:=agm (v:=(Rs s.a (xC l i).aN.toNat).xu) (l:=(xC l (xC l i).aN.toNat).bJ) h2.1;exact Int.le_trans h1 h3
 ·have hu:=abE hv hx;obtain ⟨q,hq,rfl⟩:∃q,q<d.length∧x=xAt d q:=by
   obtain ⟨q,hq,e⟩:=List.mem_iff_getElem.1 hx;exact ⟨q,hq,by unfold xAt; rw [List.getD_eq_getElem?_getD,List.getElem?_eq_getElem hq,e]; rfl⟩
  rw [JJ h hu];exact Int.le_trans (h.Low q hq) (agm (h.ok _ (Nat.zero_le _) (qG hu) hu).1)
structure Best (l:List ay) (d:List aW) (r:cO):Prop where
 ok:fq l r d=true
 On:r.On=fF l d
 zero:∀i,Ap (fF l d) i=false→EA r.dP i=0
 least:∀q,fq l q d=true→∀i,Ap (fF l d) i=true→Ap q.On i=true∧EA r.dP i≤EA q.dP i
theorem aeG {l:List ay} {d:List aW} (h:ig l d=true):pE l d=0:=by
 unfold pE;rw [h,NR h];rfl
theorem yS {l:List ay} {d:List aW} (h:ig l d=true):((iH l d).2=0∧Best l d (iH l d).1)∨(iH l d=(Q0,9)∧∀q,fq l q d=false):=by
 have hv:=rG h;unfold iH;rw [aeG h];simp only [bne_self_eq_false,cond_false];rcases amK hv with ⟨h1,h2⟩ | ⟨q,h1,h2,h3,h4⟩
 ·generalize Io l d=p at h1 h2;obtain ⟨s,f⟩:=p;simp only at h1 h2;subst h1;cases hm:fq l ⟨fF l d,s.lv⟩ d with
  | true=>
   refine .inl ⟨rfl,?_⟩;show Best l d ⟨fF l d,s.lv⟩;refine ⟨hm,rfl,fun i hi=>?_,fun q hq i hi=>?_⟩
   ·by_cases hl:i<l.length
    ·exact h2.zero i hl (.inr hi)
    ·exact GZ 0 (by show s.lv.length≤i; rw [h2.ll]; omega)
   ·obtain ⟨hr,hmt⟩:=(mo h).1 hq;refine ⟨hmt.used i hi,?_⟩;have h5:=akT hv hr hmt h2 i hi;have h6:sW l i s≤(q.dP.getD i 0).toNat:=Yo h5;have h7:=(h2.ok i (Nat.zero_le _) (qG hi) hi).2;have h8:=hr.bJ i (qG hi);show EA s.lv i≤EA q.dP i;rw [h7];unfold EA;omega
  | false=>
   refine .inr ⟨rfl,fun q=>?_⟩;cases hq:fq l q d with
   | false=>rfl
   | true=>
    obtain ⟨hr,hmt⟩:=(mo h).1 hq;exfalso;have hle:=akT hv hr hmt h2;have:=(mo h).2 ⟨aiz hv h2,akU hv h2 (fun i hi=>hmt.gY i (qG hi) (hmt.used i hi)) (fun x hx=>?_)⟩
    ·rw [hm] at this; cases this
    ·have hu:=abE hv hx;rw [JJ h2 hu];have h6:sW l x.bM.toNat s≤(q.dP.getD x.bM.toNat 0).toNat:=Yo (hle _ hu);have h8:=hr.bJ _ (qG hu);have h9:=akS (hv.bJ _ (qG hu)) h6 h8.2.1;have h10:=(hmt.drw x hx).2;unfold mH at h10;unfold xC;omega
 ·refine .inr ⟨?_,fun r=>?_⟩
  ·rw [h1,decide_eq_true (by omega:(0:Int)≤(q:Nat))];rfl
  ·cases hq:fq l r d with
   | false=>rfl
   | true=>
    obtain ⟨hr,hmt⟩:=(mo h).1 hq;exact (aiy hv hr hmt h3 h4).elim
theorem Best.unique {l:List ay} {d:List aW} {r r':cO} (hd:ig l d=true) (h:Best l d r) (h':Best l d r'):r=r':=by
 have e1:r.On=r'.On:=h.On.trans h'.On.symm;have l1:=((mo hd).1 h.ok).1.len;have l2:=((mo hd).1 h'.ok).1.len;have e2:r.dP=r'.dP:=by
  refine xk 0 om fun j _=>?_;cases hu:Ap (fF l d) j with
  | true=>
   have a1:=(h.least _ h'.ok j hu).2;have a2:=(h'.least _ h.ok j hu).2;unfold EA at a1 a2;omega
  | false=>
   have a1:=h.zero j hu;have a2:=h'.zero j hu;unfold EA at a1 a2;omega
 cases r; cases r';simp only at e1 e2;rw [e1,e2]
def jnL (l:List ay) (u:List Bool):List Int→Prop
 | []=>True
 | k::t=>(0≤k∧k<l.length∧Ap u k.toNat=true∧(∀k',t.head? = some k'→(xC l k.toNat).aN=k'))∧jnL l u t
structure Good (l:List ay) (d:List aW) (last:Int) (c:List Int) (fst:Int):Prop where
 ne:c≠[]
 jn:jnL l (fF l d) c
 lo : -1≤fst
 hi:fst<d.length
 yes:0≤fst→(xAt d fst.toNat).bM=EA c 0∧rwN l d last c (xAt d fst.toNat).Low=true
 no:fst<0→rwN l d last c 0=true
theorem aeH {l:List ay} {r:cO} {d e:List aW} (hd:JG l d) (he:JG l e) (hu:∀j,O9 d j=true→O9 e j=true) (hl:∀j,EA (kZ l d) j≤EA (kZ l e) j) (hs:∀x∈d,x∈e) (h:Mt l r e):Mt l r d:=
 ⟨fun i hi=>h.used i (Vq hd he hu i hi),h.aN,fun i hi ho=>Int.le_trans (hl i) (h.gY i hi ho),fun x hx=>h.drw x (hs x hx)⟩
theorem Tq {d e:List aW} (hs:∀x∈d,x∈e) (j:Nat) (h:O9 d j=true):O9 e j=true:=by
 unfold O9 at *;rw [List.any_eq_true] at *;obtain ⟨x,hx,h⟩:=h;exact ⟨x,hs x hx,h⟩
theorem Vr {l:List ay} {d e:List aW} (hd:ig l d=true) (he:ig l e=true) (hn:d.length+e.length≤32):ig l (d++e)=true:=by
 unfold ig at *;simp only [Bool.and_eq_true,Bool.not_eq_true'] at *;refine ⟨⟨hd.1.1,decide_eq_true (by rw [List.length_append]; omega)⟩,?_⟩;rw [List.any_append,hd.2,he.2];rfl
theorem acS {l:List ay} {d e:List aW} (hd:ig l d=true) (he:ig l e=true) (hn:d.length+e.length≤32) (j:Nat):EA (kZ l d) j≤EA (kZ l (d++e)) j:=by
 have:=aix (rG hd) (rG he) (Pe (rG (Vr hd he hn))) j;have:=(acR (rG he) j).1;omega
theorem aeI {l:List ay} {r:cO} {d e:List aW} (hd:ig l d=true) (he:ig l e=true) (hn:d.length+e.length≤32) (h:fq l r (d++e)=true):fq l r d=true:=by
 have hde:=Vr hd he hn;obtain ⟨h1,h2⟩:=(mo hde).1 h;refine (mo hd).2 ⟨h1,aeH (rG hd) (rG hde) (Tq (fun x hx=>List.mem_append_left _ hx)) (acS hd he hn) (fun x hx=>List.mem_append_left _ hx) h2⟩
theorem Rt {l:List ay} {d e:List aW} (hp:d.Perm e):ig l d=ig l e:=by
 unfold ig;rw [hp.length_eq];congr 2;rw [Bool.eq_iff_iff,List.any_eq_true,List.any_eq_true];exact ⟨fun ⟨x,h1,h2⟩=>⟨x,hp.mem_iff.1 h1,h2⟩,fun ⟨x,h1,h2⟩=>⟨x,hp.mem_iff.2 h1,h2⟩⟩
theorem JK {l:List ay} {r:cO} {d e:List aW} (hp:d.Perm e) (h:fq l r d=true) (hd:ig l d=true):fq l r e=true:=by
 have he:ig l e=true:=by rw [← Rt hp]; exact hd
 obtain ⟨h1,h2⟩:=(mo hd).1 h;refine (mo he).2 ⟨h1,aeH (rG he) (rG hd) (Tq fun x hx=>hp.mem_iff.2 hx) (fun j=>?_) (fun x hx=>hp.mem_iff.2 hx) h2⟩;rw [agq (rG he) (rG hd) (fun j=>(aiw hp j).symm)];exact Int.le_refl _
theorem Vs {l:List ay} {d e:List aW} (hp:d.Perm e) (hd:ig l d=true):fF l d=fF l e:=by
 have he:ig l e=true:=by rw [← Rt hp]; exact hd
 refine aiv (rG hd) (rG he) fun j=>?_;have a:=Tq (d:=d) (e:=e) (fun x hx=>hp.mem_iff.1 hx) j;have b:=Tq (d:=e) (e:=d) (fun x hx=>hp.mem_iff.2 hx) j;cases ha:O9 d j<;>cases hb:O9 e j<;>simp_all
theorem ags {l:List ay} {d e:List aW} (hp:d.Perm e) (hd:ig l d=true):iH l d=iH l e:=by
 have he:ig l e=true:=by rw [← Rt hp]; exact hd
 rcases yS hd with ⟨h1,h2⟩ | ⟨h1,h2⟩
 ·rcases yS he with ⟨h3,h4⟩ | ⟨h3,h4⟩
  ·have h5:Best l d (iH l e).1:=by
    refine ⟨JK hp.symm h4.ok he,h4.On.trans (Vs hp hd).symm,fun i hi=>h4.zero i (by rw [← Vs hp hd]; exact hi),fun q hq i hi=>h4.least q (JK hp hq hd) i (by rw [← Vs hp hd]; exact hi)⟩
   exact Prod.ext (h2.unique hd h5) (h1.trans h3.symm)
  ·have:=h4 (iH l d).1;rw [JK hp h2.ok hd] at this;cases this
 ·rcases yS he with ⟨h3,h4⟩ | ⟨h3,h4⟩
  ·have:=h2 (iH l e).1;rw [JK hp.symm h4.ok he] at this;cases this
  ·rw [h1,h3]
theorem agt {l:List ay} {d e:List aW} (hd:ig l d=true) (he:ig l e=true) (hn:d.length+e.length≤32) (h:(iH l (d++e)).2=0):
  (iH l d).2=0∧∀k,(Ap (iH l d).1.On k=true→Ap (iH l (d++e)).1.On k=true)∧EA (iH l d).1.dP k≤EA (iH l (d++e)).1.dP k:=by
 have hde:=Vr hd he hn;rcases yS hde with ⟨_,h2⟩ | ⟨h1,h2⟩
 ·have hm:=aeI hd he hn h2.ok;rcases yS hd with ⟨h3,h4⟩ | ⟨h3,h4⟩
  ·refine ⟨h3,fun k=>⟨fun hk=>?_,?_⟩⟩
   ·rw [h4.On] at hk;exact (h4.least _ hm k hk).1
   ·cases hu:Ap (fF l d) k with
    | true=>exact (h4.least _ hm k hu).2
    | false=>
     rw [h4.zero k hu];have hr:=((mo hde).1 h2.ok).1;by_cases hk:k<l.length
     ·exact (hr.bJ k hk).1
     ·unfold EA;rw [GZ 0 (by rw [hr.len]; omega)];exact Int.le_refl _
  ·have:=h4 (iH l (d++e)).1;rw [hm] at this;cases this
 ·rw [h1] at h;exact absurd h (by decide)
def Bd (a:List Dem):List Int:=a.map Dem.xu
theorem Ee (a:List Dem) (j:Nat):(Bd a).getD j 0=(a.getD j NK).xu:=by
 unfold Bd;rw [List.getD_eq_getElem?_getD,List.getElem?_map,List.getD_eq_getElem?_getD];cases a[j]? <;> rfl
theorem aeJ (a:List Dem) (j:Nat) (x:Dem):Bd (a.set j x)=(Bd a).set j x.xu:=by
 unfold Bd;rw [List.map_set]
theorem Tt (a:List Dem):(Bd a).length=a.length:=by simp [Bd]
theorem set_self (a:List Int) (j:Nat):a.set j (a.getD j 0)=a:=by
 refine xk 0 (by simp) fun k hk=>?_;rw [gq];split
 ·rename_i h; rw [h.1]
 ·rfl
theorem aeK (a:List Int) (j:Nat) (v:Int) (h:v=a.getD j 0):a.set j v=a:=by
 rw [h,set_self]
theorem Ru (n:Nat) (d:List aW) (i:Nat):Bd (xB n d (i+1))=(Bd (xB n d i)).set (d.getD i dI).bM.toNat (if (d.getD i dI).Low > (Bd (xB n d i)).getD (d.getD i dI).bM.toNat 0 then (d.getD i dI).Low else (Bd (xB n d i)).getD (d.getD i dI).bM.toNat 0):=by
 rw [xB,Ee];by_cases h:((xB n d i).getD (d.getD i dI).bM.toNat NK).xu<(d.getD i dI).Low
 ·rw [decide_eq_true h,cond_true,aeJ,if_pos h]
 ·rw [decide_eq_false h,cond_false,if_neg h,aeK _ _ _ (Ee _ _).symm]
theorem akV {l:List ay} {u:List Bool} {s:DS} (hu:u.length=l.length) (h:DOk l s) (hl:amG l s):Rok l ⟨u,s.lv⟩:=
 ⟨hu,h.ll,fun i hi=>by
  have:=hl i hi;show 0≤s.lv.getD i 0∧(s.lv.getD i 0).toNat<_∧s.lv.getD i 0<_;omega⟩
theorem amL {l:List ay} {u:List Bool} {k:Nat} {s:DS} (hf:vK l u k s=false) (h:amG l s):amG l (Bc l u k s):=by
 intro j hj;unfold Bc;cases hu:u.getD k false with
 | false=>exact h j hj
 | true=>
  unfold vK at hf;rw [hu,Bool.true_and,Bool.not_eq_false'] at hf;have:=of_decide_eq_true hf;show 0≤(s.lv.set k (sW l k s)).getD j 0∧(s.lv.set k (sW l k s)).getD j 0<_;rw [gq];split
  ·rename_i hjk; rw [hjk.1]; omega
  ·exact h j hj
theorem WT {α:Type} {l m:List α} {i:Nat} (d:α) (h:l.length≤i):(l++m).getD i d=m.getD (i - l.length) d:=by
 rw [List.getD_eq_getElem?_getD,List.getElem?_append_right h,List.getD_eq_getElem?_getD]
structure asY (l:List ay) (d:List aW) (r:cO) (ok:Bool):Prop where
 is:ok=((iH l d).2==0)
 yes:ok=true→fq l r d=true
 no:ok=false→r=(iH l d).1
theorem jg {n_:Int} {vN:Int} {xO:Int}:W (iP n_ vN xO) (fun r=>r=dJ n_ vN xO):=by
 unfold iP;refine av ?_;rfl
theorem Vt {s_:ay}:W (qO s_) (fun r=>r=Tg s_):=by
 unfold qO;refine av ?_;rfl
theorem yT {s_:(List ay)} (h1:s_.length≤2000000):W (lH s_) (fun r=>r=s_.any (Tg)):=
 Ca (Qt (Ta (p:=fun x=>qO x) (P:=Tg) (fun x hx=>mG (Vt)) om) (tO _ _))
theorem Zz {s_:ay} {at_:Int} (h1:0≤at_) (h2:at_≤2000000) (h3:s_.bJ.length≤2000000):W (Cc s_ at_) (fun r=>r=yQ s_ at_):=by
 unfold Cc;refine wn ?_;refine aH (jg) fun v1 hv1=>?_;subst v1;refine aH (gX fun hc=>mG (jg)) fun v2 hv2=>?_;subst v2;refine aH (gX fun hc=>mG (jg)) fun v3 hv3=>?_;subst v3;refine bV (fun c1=>?_) (fun c1=>?_)
 ·have fU:=c1;have c1:=nr c1;refine av ?_;(unfold yQ; rw [show WV s_ at_=true from fU]; rfl)
 ·have fU:=c1;have c1:=nr c1;refine bF (fun (g1:Int)=>0≤g1∧g1≤s_.bJ.length∧NM (if g1.toNat=0 then 0 else s_.bJ.getD (g1.toNat - 1) 0) (s_.bJ.drop g1.toNat)=NM 0 s_.bJ) (fun (g1:Int)=>(s_.bJ.length - g1).toNat) ?_ ?_
  ·intro aj g1 dQ bS;obtain ⟨dG,bE,bG⟩:=dQ;unfold Ke;obtain ⟨i,rfl⟩:=Int.eq_ofNat_of_zero_le dG;refine wi (fun c2=>?_) (fun c2=>?_)
   ·have hlt:i<s_.bJ.length:=om;have hst:=aez hlt rfl;rw [show ((i:Int).toNat)=i from rfl] at bG;rw [hst] at bG;have e1:(((i:Int) - 1).toNat)=i - 1:=om;simp only [e1,Int.toNat_natCast] at *;refine wn ?_;refine aH (jg) fun v6 hv6=>?_;subst v6;refine wm ?_;refine bV (fun c3=>?_) (fun c3=>?_)
    ·have jI:=c3;have c3:=nr c3;refine av ?_;(unfold yQ; rw [show WV s_ at_=false from fU,← bG]; rw [jI]; rfl)
    ·have jI:=c3;have c3:=nr c3;refine wn ?_;refine bS _ ?_ ?_
     ·(refine ⟨ob,ob,?_⟩; rw [← bG,jI]; rw [show ((i:Int)+1).toNat=i+1 by omega,if_neg om]; rfl)
     ·exact ob
   ·refine av ?_;have e:i=s_.bJ.length:=om;unfold yQ; rw [show WV s_ at_=false from fU,← bG,show (i:Int).toNat=i from rfl,e,List.drop_length]; rfl
  ·(refine ⟨ob,ob,rfl⟩)
theorem xD {l_:(List ay)} (h1:l_.length≤2000000):W (oO l_) (fun r=>r=eF l_):=by
 unfold oO;refine aH (gX fun hc=>mG (yT ob)) fun v1 hv1=>?_;subst v1;refine bV (fun c1=>?_) (fun c1=>?_)
 ·have fU:=c1;have c1:=nr c1;refine av ?_;(unfold eF; rw [fU]; rfl)
 ·have fU:=c1;have c1:=nr c1;have hbig:∀i:Nat,i<l_.length→Tg (l_.getD i au)=false:=nH au (by have:=fU; simp only [Bool.or_eq_false_iff] at this; exact this.2);refine bF (fun (g1:Int)=>0≤g1∧g1≤l_.length∧Vo g1.toNat (l_.drop g1.toNat)=Vo 0 l_) (fun (g1:Int)=>(l_.length - g1).toNat) ?_ ?_
  ·intro aj g1 dQ bS;obtain ⟨dG,bE,bG⟩:=dQ;unfold Kg;obtain ⟨i,rfl⟩:=Int.eq_ofNat_of_zero_le dG;refine wi (fun c2=>?_) (fun c2=>?_)
   ·have hlt:i<l_.length:=om;have hb:=hbig i hlt;have hbl:(l_.getD i au).bJ.length≤16:=(by unfold Tg at hb; have:=of_decide_eq_false hb; omega);rw [show ((i:Int).toNat)=i from rfl,drop_cons au hlt,Vo] at bG;simp only [Int.toNat_natCast] at *;refine wn ?_;refine aH (Zz om om om) fun v4 hv4=>?_;subst v4;refine bV (fun c3=>?_) (fun c3=>?_)
    ·have jI:=c3;have c3:=nr c3;refine av ?_;(unfold eF; rw [fU,← bG,show yQ (l_.getD i au) i=false by simpa using jI]; rfl)
    ·have jI:=c3;have c3:=nr c3;refine wn ?_;refine bS _ ?_ ?_
     ·(refine ⟨ob,ob,?_⟩; rw [← bG,show yQ (l_.getD i au) i=true by simpa using jI,show ((i:Int)+1).toNat=i+1 by omega]; rfl)
     ·exact ob
   ·refine av ?_;have e:i=l_.length:=om;unfold eF; rw [fU,← bG,show (i:Int).toNat=i from rfl,e,List.drop_length]; rfl
  ·(refine ⟨ob,ob,rfl⟩)
theorem ZA {l_:(List ay)} {r_:cO} (h1:l_.length≤2000000) (h2:r_.dP.length≤2000000):W (Cm l_ r_) (fun r=>r=uV l_ r_):=by
 unfold Cm;refine aH (xD ob) fun v1 hv1=>?_;subst v1;refine bV (fun c1=>?_) (fun c1=>?_)
 ·have fU:=c1;have c1:=nr c1;refine av ?_;(unfold uV; rw [fU]; rfl)
 ·have fU:=c1;have c1:=nr c1;have hck:eF l_=0∧r_.On.length=l_.length∧r_.dP.length=l_.length:=(by have:=fU; simp only [Bool.or_eq_false_iff,bne_eq_false_iff_eq] at this; omega);obtain ⟨b1,b2,b3⟩:=JF hck.1;refine bF (fun (g1:Int)=>0≤g1∧g1≤l_.length∧rlN (l_.drop g1.toNat) (r_.dP.drop g1.toNat)=rlN l_ r_.dP) (fun (g1:Int)=>(l_.length - g1).toNat) ?_ ?_
  ·intro aj g1 dQ bS;obtain ⟨dG,bE,bG⟩:=dQ;unfold Kq;obtain ⟨i,rfl⟩:=Int.eq_ofNat_of_zero_le dG;refine wi (fun c2=>?_) (fun c2=>?_)
   ·have hlt:i<l_.length:=om;have hb:=b2 i hlt;rw [show ((i:Int).toNat)=i from rfl,drop_cons au hlt,drop_cons 0 (show i<r_.dP.length by omega),rlN] at bG;simp only [Int.toNat_natCast] at *;refine wm ?_;refine wn ?_;refine aH (jg) fun v4 hv4=>?_;subst v4;refine bV (fun c3=>?_) (fun c3=>?_)
    ·have jI:=c3;have c3:=nr c3;refine av ?_;(unfold uV; rw [fU,← bG]; rw [show dJ (r_.dP.getD i 0) 0 _=false by simpa using jI]; rfl)
    ·have jI:=c3;have c3:=nr c3;refine wn ?_;refine bS _ ?_ ?_
     ·(refine ⟨ob,ob,?_⟩; rw [← bG,show dJ (r_.dP.getD i 0) 0 _=true by simpa using jI,show ((i:Int)+1).toNat=i+1 by omega]; rfl)
     ·exact ob
   ·refine av ?_;have e:i=l_.length:=om;unfold uV; rw [fU,← bG,show (i:Int).toNat=i from rfl,e,List.drop_length]; cases List.drop l_.length r_.dP<;>rfl
  ·(refine ⟨ob,ob,rfl⟩)
theorem Vu {x_:aW} {pK:(List ay)} (h1:pK.length≤2000000):W (qR x_ pK) (fun r=>r=Zx pK.length x_):=by
 unfold qR;refine wn ?_;refine aH (jg) fun v1 hv1=>?_;subst v1;refine aH (gX fun hc=>mG (jg)) fun v2 hv2=>?_;subst v2;refine aH (gX fun hc=>mG (jg)) fun v3 hv3=>?_;subst v3;refine aH (gX fun hc=>mG (jg)) fun v4 hv4=>?_;subst v4;refine av ?_;rfl
theorem Al {s_:(List aW)} {f_:(List ay)} (h1:s_.length≤2000000) (h2:f_.length≤2000000):W (lV s_ f_) (fun r=>r=s_.any (Zx f_.length)):=
 Ca (Qt (Ta (p:=fun x=>qR x f_) (P:=Zx f_.length) (fun x hx=>mG (Vu h2)) om) (tO _ _))
theorem NS {l_:(List ay)} {d_:(List aW)} (h1:l_.length≤2000000) (h2:d_.length≤2000000):W (wI l_ d_) (fun r=>r=ig l_ d_):=by
 unfold wI;refine aH (xD ob) fun v1 hv1=>?_;subst v1;refine aH (gX fun hc=>mG (Al ob ob)) fun v2 hv2=>?_;subst v2;refine av ?_;rfl
theorem mq {s_:(List ay)}:W (iQ s_) (fun r=>r=s_):=by
 unfold iQ;refine av ?_;rfl
theorem Gf {l_:(List ay)} {d_:(List aW)} (h1:JG l_ d_):W (vo l_ d_) (fun r=>r=fF l_ d_):=by
 obtain ⟨vl,vd,vs,_,vx⟩:=h1;unfold vo;refine wn ?_;refine bF (fun (g1:(Int×(List Bool)))=>0≤g1.1∧g1.1≤d_.length∧g1.2=qc l_.length (d_.take g1.1.toNat)) (fun (g1:(Int×(List Bool)))=>(d_.length - g1.1).toNat) ?_ ?_
 ·intro aj g1 dQ bS;obtain ⟨dG,bE,bG⟩:=dQ;unfold MK;refine wi (fun c1=>?_) (fun c1=>?_)
  ·have hlt:g1.1.toNat<d_.length:=om;have hx:=vx _ (je dI hlt);have hml:g1.2.length=l_.length:=(by rw [bG]; exact r9 ..);refine wm ?_;refine wn ?_;refine bS _ ?_ ?_
   ·(refine ⟨ob,ob,?_⟩; dsimp only; have e:qc l_.length (d_.take (g1.1.toNat+1))=(qc l_.length (d_.take g1.1.toNat)).set (d_.getD g1.1.toNat dI).bM.toNat true:=uK _ _ dI hlt; rw [show (g1.1+1).toNat=g1.1.toNat+1 by omega,bG,e])
   ·exact ob
  ·refine aH (mq) fun v1 hv1=>?_;subst v1;refine wn ?_;refine akq (fun (k2:Nat) (g2:(List Bool))=>g2=IZ (iA l_) l_.length k2 (qc l_.length d_)) ?_ ?_ ?_
   ·intro k2 dK g2 asZ lZ oq;unfold Ko;refine bC (by (rw [lZ,uD (nk _),r9]; omega)) ?_;refine bC (by (rw [lZ,uD (nk _),r9]; omega)) ?_;unfold AL;refine bC (by (rw [List.length_set,lZ,uD (nk _),r9]; omega)) ?_;refine bV (fun c2=>?_) (fun c2=>?_)
    ·have jT:=c2;have c2:=nr c2;have hp:=vs (l_.length - 1 - k2) om;have hl2:g2.length=l_.length:=(by rw [lZ,uD (nk _),r9]);refine wn ?_;refine oq _ ?_;(rw [Int.toNat_natCast,gq,if_pos ⟨rfl,om⟩] at jT; show _=iA l_ (l_.length - 1 - k2) (IZ (iA l_) l_.length k2 (qc l_.length d_)); rw [← lZ]; unfold iA; rw [jT]; rfl)
    ·have jT:=c2;have c2:=nr c2;have hl2:g2.length=l_.length:=(by rw [lZ,uD (nk _),r9]);refine oq _ ?_;(rw [Int.toNat_natCast,gq,if_pos ⟨rfl,om⟩] at jT; show _=iA l_ (l_.length - 1 - k2) (IZ (iA l_) l_.length k2 (qc l_.length d_)); rw [← lZ]; unfold iA; rw [jT]; rfl)
   ·intro g2 lZ;unfold Kn;refine av ?_;(rw [lZ]; exact CW _ _ _)
   ·(simp only [bG]; rw [show g1.1.toNat=d_.length by omega,List.take_length]; rfl)
 ·(refine ⟨ob,ob,rfl⟩)
theorem ZB {l_:(List ay)} {d_:(List aW)} (h1:JG l_ d_):W (Cn l_ d_) (fun r=>r=kZ l_ d_):=by
 have hsm:=fun k hk=>JH h1 k hk;obtain ⟨vl,vd,vs,_,vx⟩:=h1;unfold Cn;refine wn ?_;refine bF (fun (g1:(Int×(List Int)))=>0≤g1.1∧g1.1≤d_.length∧g1.2=yR l_.length (d_.take g1.1.toNat)) (fun (g1:(Int×(List Int)))=>(d_.length - g1.1).toNat) ?_ ?_
 ·intro aj g1 dQ bS;obtain ⟨dG,bE,bG⟩:=dQ;unfold Kr;refine wi (fun c1=>?_) (fun c1=>?_)
  ·have hlt:g1.1.toNat<d_.length:=om;have hx:=vx _ (je dI hlt);have hml:g1.2.length=l_.length:=(by rw [bG]; exact xw ..);have hbd:=aeD l_.length d_ (fun x hx=>by have:=vx x hx; omega) g1.1.toNat om (d_.getD g1.1.toNat dI).bM.toNat;rw [← bG] at hbd;refine wm ?_;refine wm ?_;refine wn ?_;refine bS _ ?_ ?_
   ·(refine ⟨ob,ob,?_⟩; dsimp only; have e:yR l_.length (d_.take (g1.1.toNat+1))=(yR l_.length (d_.take g1.1.toNat)).set (d_.getD g1.1.toNat dI).bM.toNat ((yR l_.length (d_.take g1.1.toNat)).getD (d_.getD g1.1.toNat dI).bM.toNat 0+(d_.getD g1.1.toNat dI).Load):=uK _ _ dI hlt; rw [show (g1.1+1).toNat=g1.1.toNat+1 by omega,e,← bG])
   ·exact ob
  ·refine aH (mq) fun v1 hv1=>?_;subst v1;refine wn ?_;refine akq (fun (k2:Nat) (g2:(List Int))=>g2=IZ (iD l_) l_.length k2 (yR l_.length d_)) ?_ ?_ ?_
   ·intro k2 dK g2 asZ lZ oq;unfold Hl;refine bV (fun c2=>?_) (fun c2=>?_)
    ·have jT:=c2;have c2:=nr c2;have hp:=vs (l_.length - 1 - k2) om;have hl2:g2.length=l_.length:=(by rw [lZ,uD (sw _),xw]);have hbd:=hsm k2 om;rw [← lZ] at hbd;have hb1:=hbd (l_.getD (l_.length - 1 - k2) au).aN.toNat;have hb2:=hbd (l_.length - 1 - k2);rw [Int.toNat_natCast];refine wm ?_;refine wm ?_;refine oq _ ?_;(show _=iD l_ (l_.length - 1 - k2) (IZ (iD l_) l_.length k2 (yR l_.length d_)); rw [← lZ]; unfold iD; rw [jT]; rfl)
    ·have jT:=c2;have c2:=nr c2;refine oq _ ?_;(show _=iD l_ (l_.length - 1 - k2) (IZ (iD l_) l_.length k2 (yR l_.length d_)); rw [← lZ]; unfold iD; rw [jT]; rfl)
   ·intro g2 lZ;unfold Hg;refine av ?_;(rw [lZ]; exact CW _ _ _)
   ·(simp only [bG]; rw [show g1.1.toNat=d_.length by omega,List.take_length]; rfl)
 ·(refine ⟨ob,ob,rfl⟩)
theorem Vv {x_:aW} {pK:(List ay)} {aik:(List Bool)} {Vb:(List Int)} (h1:0≤x_.bM) (h2:x_.bM<pK.length) (h3:x_.bM<Vb.length) (h4:0≤Vb.getD x_.bM.toNat 0) (h5:Vb.getD x_.bM.toNat 0<(pK.getD x_.bM.toNat au).bJ.length):W (qV x_ pK aik Vb) (fun r=>r=Zy pK ⟨aik,Vb⟩ x_):=by
 unfold qV;refine wm ?_;refine wn ?_;refine aH (jg) fun v1 hv1=>?_;subst v1;refine av ?_;rfl
theorem xE {s_:(List aW)} {AO:(List ay)} {Bz:(List Bool)} {BA:(List Int)} (h1:s_.length≤2000000) (h2:∀x∈s_,0≤x.bM∧x.bM<AO.length) (h3:Rok AO ⟨Bz,BA⟩):W (kE s_ AO Bz BA) (fun r=>r=s_.any (Zy AO ⟨Bz,BA⟩)):=
 Ca (Qt (Ta (p:=fun x=>qV x AO Bz BA) (P:=Zy AO ⟨Bz,BA⟩) (fun x hx=>mG (by obtain ⟨q1,q2⟩:=h2 x hx; obtain ⟨r1,r2,r3⟩:=h3; have r4:=r3 x.bM.toNat om; exact Vv q1 q2 (by dsimp only at r2; omega) r4.1 r4.2.2)) om) (tO _ _))
theorem NT {l_:(List ay)} {r_:cO} {d_:(List aW)} (h1:l_.length≤2000000) (h2:d_.length≤2000000) (h3:r_.dP.length≤2000000):W (wK l_ r_ d_) (fun r=>r=fq l_ r_ d_):=by
 unfold wK;refine aH (ZA ob ob) fun v1 hv1=>?_;subst v1;refine aH (gX fun hc=>mG (NS ob ob)) fun v2 hv2=>?_;subst v2;refine bV (fun c1=>?_) (fun c1=>?_)
 ·have fU:=c1;have c1:=nr c1;refine av ?_;(unfold fq; rw [fU]; rfl)
 ·have fU:=c1;have c1:=nr c1;have hrd:uV l_ r_=true∧ig l_ d_=true:=(by have:=fU; simpa using this);have hv:=rG hrd.2;have hr:=(Db.1 hrd.1).2;have hrk:=hr;have hvb:=fun i hi=>Tj hv hr i hi;have hul:=sj l_ d_;have hll:=Rq l_ d_;obtain ⟨r1,r2,r3⟩:=hr;obtain ⟨vl,vd,vs,_,vx⟩:=id hv;have hmf:fq l_ r_ d_=xA l_ r_ d_:=(by unfold fq; rw [fU]; rfl);refine aH (Gf hv) fun v3 hv3=>?_;subst v3;refine aH (ZB hv) fun v4 hv4=>?_;subst v4;refine bF (fun (g1:Int)=>0≤g1∧g1≤l_.length∧(∀j,j<g1.toNat→NP l_ r_ (fF l_ d_) (kZ l_ d_) j=false)) (fun (g1:Int)=>(l_.length - g1).toNat) ?_ ?_
  ·intro aj g1 dQ bS;obtain ⟨dG,bE,bG⟩:=dQ;unfold Kt;obtain ⟨i,rfl⟩:=Int.eq_ofNat_of_zero_le dG;refine wi (fun c2=>?_) (fun c2=>?_)
   ·have hlt:i<l_.length:=om;have hp:=vs i hlt;have hp2:=vs (l_.getD i au).aN.toNat;have hr3:=r3 i hlt;have hr4:=r3 (l_.getD i au).aN.toNat;have hv1:=hvb i hlt;unfold mH at hv1;simp only [Int.toNat_natCast] at *;refine wm ?_;refine bV (fun c3=>?_) (fun c3=>?_)
    ·have jI:=c3;have c3:=nr c3;refine wn ?_;refine bV (fun c4=>?_) (fun c4=>?_)
     ·have rZ:=c4;have c4:=nr c4;refine av ?_;(rw [hmf]; unfold xA; rw [Bb hlt (by unfold NP; rw [jI,rZ]; rfl)]; rfl)
     ·have rZ:=c4;have c4:=nr c4;refine wn ?_;refine bS _ ?_ ?_
      ·(refine ⟨ob,ob,fun j hj=>?_⟩; by_cases q:j<i; (exact bG j q); (have e:j=i:=by omega); subst e; unfold NP; rw [jI,rZ]; rfl)
      ·exact ob
    ·have jI:=c3;have c3:=nr c3;refine bC (by (intro q1; have:=of_decide_eq_true q1; omega)) ?_;refine bC (by (intro q1 _; have:=of_decide_eq_true q1; omega)) ?_;refine bC (by (intro q1 _; have:=of_decide_eq_true q1; omega)) ?_;refine bC (by (intro q1 _; have:=of_decide_eq_true q1; have:=hr4 om; omega)) ?_;refine bC (by (intro q1 _; have:=of_decide_eq_true q1; omega)) ?_;refine bC (by (intro q1 _; have:=of_decide_eq_true q1; omega)) ?_;refine bC (by (intro q1 _; have:=of_decide_eq_true q1; unfold aF; omega)) ?_;refine bC (by (intro _; omega)) ?_;refine bV (fun c5=>?_) (fun c5=>?_)
     ·have CV:=c5;have c5:=nr c5;refine av ?_;(rw [hmf]; unfold xA; rw [Bb hlt (by unfold NP mH; rw [jI]; simp only [cond_false]; rw [CV]; rfl)]; rfl)
     ·have CV:=c5;have c5:=nr c5;refine wn ?_;refine bS _ ?_ ?_
      ·(refine ⟨ob,ob,fun j hj=>?_⟩; by_cases q:j<i; (exact bG j q); (have e:j=i:=by omega); subst e; unfold NP mH; rw [jI]; exact CV)
      ·exact ob
   ·refine aH (xE om (fun x hx=>by have:=vx x hx; omega) hrk) fun v5 hv5=>?_;subst v5;refine av ?_;(rw [hmf]; unfold xA; rw [NQ fun j hj=>(by rw [bG j om]; rfl)]; rfl)
  ·(refine ⟨ob,ob,fun j hj=>absurd hj (Nat.not_lt_zero j)⟩)
end Go.Proofs.YtccjmcmolnbiiaaGreatDoor.Sp
namespace Go.Proofs.YtccjmcmolnbiiaaGreatDoor
open Go.Ab
set_option maxRecDepth 100000
structure aiA (l:List d9):Prop where
 len:l.length≤32
 af:∀i,i<l.length→∀x∈(l.getD i dh).dX,0≤x∧x<(i:Int)
structure aiB (l:List dB):Prop where
 len:l.length≤16
 par:∀i,i<l.length → -1≤(l.getD i dS).aN∧(l.getD i dS).aN<(i:Int)
structure amM (n:Int) (g:cK):Prop where
 pl:0<g.bO.length
 fl:0<g.ak.length∧g.ak.length≤8
 pn:∀x∈g.bO,0≤x∧x<n
structure Qx (p:bn) (u:nE):Prop where
 g0:0≤u.dF
 gl:u.dF<p.aD.length
 f0:0≤u.gV
 fl:u.gV<(p.aD.getD u.dF.toNat aG).ak.length
theorem dR {P:Nat→Prop} {i:Int} (h:∀j:Nat,(j:Int)<i→P j) (h0:0≤i) (hp:P i.toNat):∀j:Nat,(j:Int)<i+1→P j:=fun j hj=>by
 by_cases q:(j:Int)<i
 ·exact h j q
 ·have e:j=i.toNat:=by omega
  rw [e]; exact hp
structure aeL (p:bn):Prop where
 pn:0≤p.bO∧p.bO≤64
 gl:p.aD.length≤24
 gr:∀g∈p.aD,amM p.bO g
theorem jG {α:Type} {P:α→Prop} {l:List α} (d:α) (h:∀j,j<l.length→P (l.getD j d)):∀x∈l,P x:=fun x hx=>by
 obtain ⟨i,hi,rfl⟩:=List.mem_iff_getElem.1 hx;have:=h i hi;rwa [List.getD_eq_getElem?_getD,List.getElem?_eq_getElem hi] at this
theorem ZC {s:ByteArray} {c:Bool} (h:((s.toList==({ data:=#[] }:ByteArray).toList)||c)=false):0<s.size:=by
 simp only [Bool.or_eq_false_iff] at h;rcases Nat.eq_zero_or_pos s.size with e | e
 ·exfalso;have e2:s=({ data:=#[] }:ByteArray):=by
   cases s with
   | mk d=>cases d with
    | mk l=>cases l with
     | nil=>rfl
     | cons a t=>simp [ByteArray.size] at e
  rw [e2] at h;simp at h
 ·exact e
theorem aiC {s:ByteArray} {c d:Bool} (h:((((s.toList==({ data:=#[] }:ByteArray).toList)||(decide ((16:Int)<((s.size:Nat):Int))))||c)||d)=false):0<s.size∧s.size≤16:=by
 simp only [Bool.or_eq_false_iff] at h;refine ⟨ZC (c:=false) (by simp only [Bool.or_eq_false_iff]; exact ⟨h.1.1.1,trivial⟩),?_⟩;have:=of_decide_eq_false h.1.1.2;omega
theorem Rv {dH:(List Int)} (h1:dH.length≤2000000):W (slices_Clone_int dH) (fun r=>r=dH):=by
 unfold slices_Clone_int;refine wn ?_;refine av ?_;rfl
theorem Lx {s_:(List Int)} (h1:s_.length≤2000000):W (jS s_) (fun r=>r=s_):=by
 unfold jS;refine wn ?_;refine av ?_;rfl
theorem Py {s_:(List Bool)} (h1:s_.length≤2000000):W (lF s_) (fun r=>r=s_):=by
 unfold lF;refine wn ?_;refine av ?_;rfl
theorem LA {s_:Nat} {dH:(List Int)} (h1:s_≤dH.length) (h2:s_≤2000000):W (nM s_ dH) (fun r=>r=dH.take s_):=by
 unfold nM;refine wn ?_;refine av ?_;rfl
structure Gg (b:aR):Prop where
 cl:b.bQ.length≤2000000
 ch:aer b.bQ
 su:b.bB.length≤2000000
 gr:∀g∈b.aQ.aD,g.bO.length≤2000000
 re:b.bg.length≤2000000
 ra:∀g∈b.bg,g.dX.length≤2000000
 dm:b.cB.length≤2000000
structure anA (b:aR):Prop where
 cl:eF b.bQ=0
 su:Sp.eF b.bB=0
 pn:aeL b.aQ
 rs:aiA b.bg
 dm:aiB b.cB
structure aaF (n:Nat) (x:bK):Prop where
 k0:0≤x.eU
 kl:x.eU<n
 l0:0≤x.Low
 lh:x.Low≤x.fK
 hi:x.fK≤4000000000
structure agu (n:Nat) (x:aW):Prop where
 k0:0≤x.bM
 kl:x.bM<n
 l0:0≤x.Low
 lh:x.Low≤x.fK
 hi:x.fK≤5000
 ld:0≤x.Load∧x.Load≤10000
structure aoZ (b:aR) (n:aK):Prop where
 ll:n.bY.length≤32
 dl:n.fD.length≤32
 fl:n.ak.length≤10
 lm:∀x∈n.bY,aaF b.bQ.length x
 dw:∀x∈n.fD,agu b.bB.length x
 rs:∀x∈n.bg,0≤x∧x<b.bg.length
 dm : -1≤n.fP∧n.fP<b.cB.length
structure Rw (l:List aK):Prop where
 len:l.length≤2000000
 nd:∀n∈l,n.bg.length≤2000000∧n.bT.length≤2000000
structure Xu (g:bL):Prop where
 st:g.dD.length≤2000000
 on:g.eZ.On.length≤2000000
 lv:g.eZ.dP.length≤2000000
 us:g.dZ.length≤2000000
 re:g.eu.length≤2000000
 po:g.fA.length≤2000000
structure aaG (s:gW):Prop where
 sz:Gg s.bD
 val:anA s.bD
 nl:s.dA.length≤12
 nd:∀n∈s.dA,aoZ s.bD n
 nsz:Rw s.dA
 ml:s.aP.length≤10000
 gs:Xu s.aV
structure agv (s:gW):Prop where
 mem:∀m∈s.aP,0≤m∧m<s.dA.length
 st:s.aV.dD.length=s.bD.bQ.length
 on:s.aV.eZ.On.length=s.bD.bB.length
 lv:s.aV.eZ.dP.length=s.bD.bB.length
 re:s.aV.eu.length=s.bD.bg.length
 po:s.aV.fA.length=s.bD.cB.length
theorem mE {s_:List Int} {v_:Int} (h1:s_.length≤2000000):slices_Contains_int s_ v_ (s_.contains v_):=Zt h1
theorem pF {x_:Int} {Ch:Int} {nV:Int}:W (pX x_ Ch nV) (fun r=>r=(decide (Ch≤x_)&&decide (x_≤nV))):=by
 unfold pX;refine av ?_;rfl
theorem aeM {r_:cO} (h1:r_.On.length≤2000000) (h2:r_.dP.length≤2000000):W (Hr r_) (fun r=>r=r_):=by
 unfold Hr;refine aH (Py ob) fun v1 hv1=>?_;subst v1;refine aH (Lx ob) fun v2 hv2=>?_;subst v2;refine av ?_;rfl
theorem yU (f:qo→Option Int) (k k':qo) (n:Int):BS (UN f k n) k'=if k'=k then n else BS f k':=by
 unfold BS UN;split<;>rfl
theorem akW {l:List aI} {s:List Int} (h:(uU l s).2=0):eF l=0∧kD l s=true∧(uU l s).1=gD l s:=by
 unfold uU at h ⊢;cases h1:eF l != 0 with
 | true=>rw [h1] at h; simp at h1; exact absurd h h1
 | false=>
  cases h2:kD l s with
  | false=>rw [h1,h2] at h; cases h
  | true=>exact ⟨by simpa using h1,rfl,rfl⟩
theorem akX {l:List aI} {s:List Int} (h1:eF l=0) (h2:kD l s=true) (j:Nat) (hj:j<l.length):1≤((gD l s).getD j dV).jq∧((gD l s).getD j dV).jq≤16777216:=by
 have:=l9 (O8 (uz h1) h2 j hj).2.2.1;exact ⟨this.2.2.1,this.2.2.2.1⟩
theorem JL {MV:Int} {AJ:(List aI)} {uN:(List ay)} {Zc:Int} {Zd:(List cK)} {Ze:(List d9)} {Zf:(List dB)} {F8:(List aK)} {Zg:(List Int)} {Zh:(List Int)} {Zi:(List Bool)} {MW:(List Int)} {MX:(List aS)} {Dy:(List Bool)} {Dz:(List Bool)} {MZ:Bool} (h1:0≤MV) (h2:MV<Dy.length):W (kT MV AJ uN Zc Zd Ze Zf F8 Zg Zh Zi MW MX Dy Dz MZ) (fun r=>r=!(Dy.getD MV.toNat false)):=by
 unfold kT;refine wn ?_;refine av ?_;rfl
theorem Bf {s_:(List Int)} {AO:(List aI)} {Bz:(List ay)} {BA:Int} {Q6:(List cK)} {Q7:(List d9)} {Q8:(List dB)} {Ls:(List aK)} {Q9:(List Int)} {Ra:(List Int)} {Rb:(List Bool)} {uO:(List Int)} {uP:(List aS)} {rT:(List Bool)} {rU:(List Bool)} {uQ:Bool} (h1:s_.length≤2000000) (h2:∀x∈s_,0≤x∧x<rT.length):W (l7 s_ AO Bz BA Q6 Q7 Q8 Ls Q9 Ra Rb uO uP rT rU uQ) (fun r=>r=s_.any (fun x=>!(rT.getD x.toNat false))):=
 Ca (Qt (Ta (p:=fun x=>kT x AO Bz BA Q6 Q7 Q8 Ls Q9 Ra Rb uO uP rT rU uQ) (P:=fun x=>!(rT.getD x.toNat false)) (fun x hx=>mG (JL (h2 x hx).1 (h2 x hx).2)) om) (tO _ _))
theorem Ip {m_:Int} {AJ:(List aI)} {uN:(List ay)} {Zc:Int} {Zd:(List cK)} {Ze:(List d9)} {Zf:(List dB)} {F8:(List aK)} {Zg:(List Int)} {Zh:(List Int)} {Zi:(List Bool)} {MW:(List Int)} {MX:(List aS)} {Dy:(List Bool)} {Dz:(List Bool)} {MZ:Bool} (h1:0≤m_) (h2:m_<F8.length) (h3:(F8.getD m_.toNat bq).fP<Dz.length):W (j6 m_ AJ uN Zc Zd Ze Zf F8 Zg Zh Zi MW MX Dy Dz MZ) (fun r=>r=((decide ((0:Int)≤(F8.getD m_.toNat bq).fP))&&(!(Dz.getD (((F8.getD m_.toNat bq).fP).toNat) false)))):=by
 unfold j6;refine wm ?_;refine av ?_;rfl
theorem Bg {s_:(List Int)} {AO:(List aI)} {Bz:(List ay)} {BA:Int} {Q6:(List cK)} {Q7:(List d9)} {Q8:(List dB)} {Ls:(List aK)} {Q9:(List Int)} {Ra:(List Int)} {Rb:(List Bool)} {uO:(List Int)} {uP:(List aS)} {rT:(List Bool)} {rU:(List Bool)} {uQ:Bool} (h1:s_.length≤2000000) (h2:∀x∈s_,0≤x∧x<Ls.length∧(Ls.getD x.toNat bq).fP<rU.length):W (l8 s_ AO Bz BA Q6 Q7 Q8 Ls Q9 Ra Rb uO uP rT rU uQ) (fun r=>r=s_.any (fun x=>((decide ((0:Int)≤(Ls.getD x.toNat bq).fP))&&(!(rU.getD (((Ls.getD x.toNat bq).fP).toNat) false))))):=
 Ca (Qt (Ta (p:=fun x=>j6 x AO Bz BA Q6 Q7 Q8 Ls Q9 Ra Rb uO uP rT rU uQ) (P:=fun x=>((decide ((0:Int)≤(Ls.getD x.toNat bq).fP))&&(!(rU.getD (((Ls.getD x.toNat bq).fP).toNat) false)))) (fun x hx=>mG (Ip (h2 x hx).1 (h2 x hx).2.1 (h2 x hx).2.2)) om) (tO _ _))
theorem Vw {α:Type} (d:α) (l:List α) (n j:Nat) (h:j<n):(l.take n).getD j d=l.getD j d:=by
 rw [List.getD_eq_getElem?_getD,List.getD_eq_getElem?_getD,List.getElem?_take_of_lt h]
deriving instance DecidableEq for nE,aS,bL
theorem JM {α:Type} [DecidableEq α] {a b:List α} (h:¬ (a.length:Int)=b.length):(a==b)=false:=by
 simp only [beq_eq_false_iff_ne,ne_eq];intro e;rw [e] at h;exact h rfl
theorem acT {α:Type} [DecidableEq α] {x y:α} {a b:List α} (h:¬ x=y):(x::a==y::b)=false:=by
 simp only [beq_eq_false_iff_ne,ne_eq,List.cons.injEq];exact fun e=>h e.1
theorem acU {α:Type} [DecidableEq α] {x y:α} {a b:List α} (h:x=y):(x::a==y::b)=(a==b):=by
 subst h;rw [Bool.eq_iff_iff];simp
theorem Tv {a_:(List Int)} {b_:(List Int)} (h1:a_.length≤2000000):W (Eb a_ b_) (fun r=>r=(a_==b_)):=by
 unfold Eb;refine wi (fun c1=>?_) (fun c1=>?_)
 ·refine av ?_;(exact (JM c1).symm)
 ·refine bF (fun (g1:Int)=>0≤g1∧g1≤a_.length∧(a_==b_)=(a_.drop g1.toNat==b_.drop g1.toNat)) (fun (g1:Int)=>(a_.length - g1).toNat) ?_ ?_
  ·intro aj g1 dQ bS;obtain ⟨dG,bE,bG⟩:=dQ;unfold Qs;refine wi (fun c2=>?_) (fun c2=>?_)
   ·rw [drop_cons 0 (show g1.toNat<a_.length by omega),drop_cons 0 (show g1.toNat<b_.length by omega)] at bG;refine wm ?_;refine wi (fun c3=>?_) (fun c3=>?_)
    ·refine av ?_;(rw [bG,acT c3])
    ·refine wn ?_;refine bS _ ?_ ?_
     ·(refine ⟨ob,ob,?_⟩; rw [bG,acU c3,show (g1+1).toNat=g1.toNat+1 by omega])
     ·exact ob
   ·refine av ?_;(rw [bG,List.drop_eq_nil_of_le om,List.drop_eq_nil_of_le om]; rfl)
  ·(refine ⟨ob,ob,rfl⟩)
theorem Gh {a_:(List Bool)} {b_:(List Bool)} (h1:a_.length≤2000000):W (vI a_ b_) (fun r=>r=(a_==b_)):=by
 unfold vI;refine wi (fun c1=>?_) (fun c1=>?_)
 ·refine av ?_;(exact (JM c1).symm)
 ·refine bF (fun (g1:Int)=>0≤g1∧g1≤a_.length∧(a_==b_)=(a_.drop g1.toNat==b_.drop g1.toNat)) (fun (g1:Int)=>(a_.length - g1).toNat) ?_ ?_
  ·intro aj g1 dQ bS;obtain ⟨dG,bE,bG⟩:=dQ;unfold Ny;refine wi (fun c2=>?_) (fun c2=>?_)
   ·rw [drop_cons false (show g1.toNat<a_.length by omega),drop_cons false (show g1.toNat<b_.length by omega)] at bG;refine wm ?_;refine bV (fun c3=>?_) (fun c3=>?_)
    ·have jI:=c3;have c3:=nr c3;refine av ?_;(rw [bG,acT (by simpa using jI)])
    ·have jI:=c3;have c3:=nr c3;refine wn ?_;refine bS _ ?_ ?_
     ·(refine ⟨ob,ob,?_⟩; rw [bG,acU (by simpa using jI),show (g1+1).toNat=g1.toNat+1 by omega])
     ·exact ob
   ·refine av ?_;(rw [bG,List.drop_eq_nil_of_le om,List.drop_eq_nil_of_le om]; rfl)
  ·(refine ⟨ob,ob,rfl⟩)
theorem Tw {a_:cO} {b_:cO} (h1:a_.On.length≤2000000) (h2:a_.dP.length≤2000000):W (uy a_ b_) (fun r=>r=((a_.On==b_.On)&&(a_.dP==b_.dP))):=by
 unfold uy;refine aH (Gh ob) fun v1 hv1=>?_;subst v1;refine aH (gX fun hc=>mG (Tv ob)) fun v2 hv2=>?_;subst v2;refine av ?_;rfl
theorem JN {s_:ByteArray}:W (pq s_) (fun r=>True):=by
 unfold pq;refine bC (by (intro hc; simp only [Bool.or_eq_false_iff,beq_eq_false_iff_ne] at hc; omega)) ?_;refine bC (by (intro hc; simp only [Bool.or_eq_false_iff,beq_eq_false_iff_ne] at hc; omega)) ?_;refine bV (fun c1=>?_) (fun c1=>?_)
 ·have fU:=c1;have c1:=nr c1;exact av trivial
 ·have fU:=c1;have c1:=nr c1;have hsz:s_.size≤16:=(by simp only [Bool.or_eq_false_iff] at fU; have:=of_decide_eq_false fU.1.1.2; omega);refine bF (fun (g1:Int)=>0≤g1) (fun (g1:Int)=>(s_.size - g1).toNat) ?_ ?_
  ·intro aj g1 dQ bS;unfold Ga;refine wi (fun c2=>?_) (fun c2=>?_)
   ·refine wm ?_;refine wm ?_;refine wn ?_;refine wi (fun c3=>?_) (fun c3=>?_)
    ·exact av trivial
    ·refine wn ?_;refine bS _ ?_ ?_
     ·exact ob
     ·exact ob
   ·exact av trivial
  ·exact ob
theorem aaH {p_:bn} {i_:Int} (h1:0≤i_) (h2:i_<p_.aD.length) (h3:p_.aD.length≤2000000) (h4:∀g∈p_.aD,g.bO.length≤2000000∧g.ak.length≤2000000):W (vG p_ i_) (fun r=>r=0→amM p_.bO (p_.aD.getD i_.toNat aG)):=by
 have hgl:=h4 _ (getD_in (i:=i_.toNat) aG om);unfold vG;refine wn ?_;refine aH (JN) fun v1 hv1=>?_;refine wi (fun c1=>?_) (fun c1=>?_)
 ·refine av ?_;exact ob
 ·refine bF (fun (g1:Int)=>0≤g1) (fun (g1:Int)=>(i_ - g1).toNat) ?_ ?_
  ·intro aj g1 dQ bS;unfold DU;refine wi (fun c2=>?_) (fun c2=>?_)
   ·refine wn ?_;refine wi (fun c3=>?_) (fun c3=>?_)
    ·refine av ?_;exact ob
    ·refine wn ?_;refine bS _ ?_ ?_
     ·exact ob
     ·exact ob
   ·refine wi (fun c4=>?_) (fun c4=>?_)
    ·refine av ?_;exact ob
    ·refine wi (fun c5=>?_) (fun c5=>?_)
     ·refine av ?_;exact ob
     ·refine bF (fun (g2:Int)=>0≤g2∧(∀j:Nat,(j:Int)<g2→0≤(p_.aD.getD i_.toNat aG).bO.getD j 0∧(p_.aD.getD i_.toNat aG).bO.getD j 0<p_.bO)) (fun (g2:Int)=>((p_.aD.getD i_.toNat aG).bO.length - g2).toNat) ?_ ?_
      ·intro dK g2 lZ oq;obtain ⟨oH,ji⟩:=lZ;unfold AZ;refine wi (fun c6=>?_) (fun c6=>?_)
       ·refine wm ?_;refine wi (fun c7=>?_) (fun c7=>?_)
        ·refine av ?_;exact ob
        ·refine wn ?_;refine oq _ ?_ ?_
         ·(refine ⟨ob,dR ji oH om⟩)
         ·exact ob
       ·refine bF (fun (g3:Int)=>1≤g3) (fun (g3:Int)=>((p_.aD.getD i_.toNat aG).bO.length - g3).toNat) ?_ ?_
        ·intro jB g3 aaI ZE;unfold AY;refine wi (fun c8=>?_) (fun c8=>?_)
         ·refine wm ?_;refine wn ?_;refine wi (fun c9=>?_) (fun c9=>?_)
          ·refine av ?_;exact ob
          ·refine wn ?_;refine ZE _ ?_ ?_
           ·exact ob
           ·exact ob
         ·refine bF (fun (g4:Int)=>0≤g4) (fun (g4:Int)=>((p_.aD.getD i_.toNat aG).ak.length - g4).toNat) ?_ ?_
          ·intro jm g4 Iq EB;unfold AX;refine wi (fun c10=>?_) (fun c10=>?_)
           ·refine wn ?_;refine aH (JN) fun v4 hv4=>?_;refine wi (fun c11=>?_) (fun c11=>?_)
            ·refine av ?_;exact ob
            ·refine wn ?_;refine EB _ ?_ ?_
             ·exact ob
             ·exact ob
           ·refine bF (fun (g5:Int)=>0≤g5) (fun (g5:Int)=>((p_.aD.getD i_.toNat aG).ak.length - g5).toNat) ?_ ?_
            ·intro j5 g5 Tx Rx;unfold AU;refine wi (fun c12=>?_) (fun c12=>?_)
             ·refine bF (fun (g8:Int)=>0≤g8) (fun (g8:Int)=>(g5 - g8).toNat) ?_ ?_
              ·intro WO g8 amN akY;unfold AQ;refine wi (fun c13=>?_) (fun c13=>?_)
               ·refine wm ?_;refine wi (fun c14=>?_) (fun c14=>?_)
                ·refine av ?_;exact ob
                ·refine wn ?_;refine akY _ ?_ ?_
                 ·exact ob
                 ·exact ob
               ·refine wn ?_;refine Rx _ ?_ ?_
                ·exact ob
                ·exact ob
              ·exact ob
             ·refine av ?_;(intro _; exact ⟨om,om,jG 0 fun j hj=>ji j om⟩)
            ·exact ob
          ·exact ob
        ·exact ob
      ·(refine ⟨ob,fun j hj=>by (try dsimp only at hj); omega⟩)
  ·exact ob
theorem aaJ {p_:bn} (h1:∀g∈p_.aD,g.bO.length≤2000000∧g.ak.length≤2000000):W (oD p_) (fun r=>r=0→aeL p_):=by
 unfold oD;refine wi (fun c1=>?_) (fun c1=>?_)
 ·refine av ?_;exact ob
 ·refine wi (fun c2=>?_) (fun c2=>?_)
  ·refine av ?_;exact ob
  ·refine bF (fun (g1:Int)=>0≤g1∧(∀j:Nat,(j:Int)<g1→amM p_.bO (p_.aD.getD j aG))) (fun (g1:Int)=>(p_.aD.length - g1).toNat) ?_ ?_
   ·intro aj g1 dQ bS;obtain ⟨dG,bE⟩:=dQ;unfold DV;refine wi (fun c3=>?_) (fun c3=>?_)
    ·refine aH (aaH om om om h1) fun v3 hv3=>?_;refine bV (fun c4=>?_) (fun c4=>?_)
     ·have rZ:=c4;have c4:=nr c4;refine av ?_;(intro e; exact absurd e c4)
     ·have rZ:=c4;have c4:=nr c4;refine wn ?_;refine bS _ ?_ ?_
      ·(refine ⟨ob,dR bE dG (hv3 (by simpa using rZ))⟩)
      ·exact ob
    ·refine av ?_;(intro _; exact ⟨om,om,jG aG fun j hj=>bE j om⟩)
   ·(refine ⟨ob,fun j hj=>by (try dsimp only at hj); omega⟩)
theorem aaK {p_:bn} {l_:(List ByteArray)} (h1:∀g∈p_.aD,g.bO.length≤2000000∧g.ak.length≤2000000) (h2:l_.length≤2000000):W (FB p_ l_) (fun r=>r=true→aeL p_∧l_.length≤10):=by
 unfold FB;refine aH (aaJ h1) fun v1 hv1=>?_;refine bV (fun c1=>?_) (fun c1=>?_)
 ·have fU:=c1;have c1:=nr c1;refine av ?_;exact ob
 ·have fU:=c1;have c1:=nr c1;have c1b:=fU;simp only [Bool.or_eq_false_iff] at c1b;refine bF (fun (g1:Int)=>0≤g1) (fun (g1:Int)=>(l_.length - g1).toNat) ?_ ?_
  ·intro aj g1 dQ bS;unfold Nu;refine wi (fun c2=>?_) (fun c2=>?_)
   ·refine wn ?_;refine aH (JN) fun v4 hv4=>?_;refine wi (fun c3=>?_) (fun c3=>?_)
    ·refine av ?_;exact ob
    ·refine wn ?_;refine bS _ ?_ ?_
     ·exact ob
     ·exact ob
   ·refine av ?_;(intro _; exact ⟨hv1 (by simpa using c1b.1),by have:=of_decide_eq_false c1b.2; omega⟩)
  ·exact ob
theorem agw {g_:cK} {eY:ByteArray} (h1:g_.ak.length≤2000000):W (Af g_ eY) (fun r => -1≤r∧r<g_.ak.length):=by
 unfold Af;refine bF (fun (g1:Int)=>0≤g1) (fun (g1:Int)=>(g_.ak.length - g1).toNat) ?_ ?_
 ·intro aj g1 dQ bS;unfold Nv;refine wi (fun c1=>?_) (fun c1=>?_)
  ·refine wn ?_;refine wi (fun c2=>?_) (fun c2=>?_)
   ·refine av ?_;exact ob
   ·refine wn ?_;refine bS _ ?_ ?_
    ·exact ob
    ·exact ob
  ·refine av ?_;exact ob
 ·exact ob
theorem aaL {a_:(List Int)} {b_:(List Int)} (h1:a_.length≤2000000) (h2:b_.length≤2000000):W (vH a_ b_) (fun r=>True):=by
 unfold vH;refine bF (fun (g1:(Int×Int))=>0≤g1.1∧0≤g1.2) (fun (g1:(Int×Int))=>(a_.length - g1.1).toNat+(b_.length - g1.2).toNat) ?_ ?_
 ·intro aj g1 dQ bS;obtain ⟨dG,bE⟩:=dQ;unfold Ea;refine wi (fun c1=>?_) (fun c1=>?_)
  ·refine wm ?_;refine wi (fun c2=>?_) (fun c2=>?_)
   ·exact av trivial
   ·refine wm ?_;refine wi (fun c3=>?_) (fun c3=>?_)
    ·refine wn ?_;refine bS _ ?_ ?_
     ·exact ob
     ·exact ob
    ·refine wn ?_;refine bS _ ?_ ?_
     ·exact ob
     ·exact ob
  ·exact av trivial
 ·exact ob
theorem acV {p_:bn} {dN:(List Int)} {g_:Int} (h1:∀g∈p_.aD,g.bO.length≤2000000∧g.ak.length≤2000000) (h2:dN.length≤2000000) (h3:∀x∈dN,x<p_.aD.length) (h4:0≤g_) (h5:g_<p_.aD.length):W (uS p_ dN g_) (fun r=>True):=by
 have hgl:=h1 _ (getD_in (i:=g_.toNat) aG om);unfold uS;refine bF (fun (g1:Int)=>0≤g1) (fun (g1:Int)=>(dN.length - g1).toNat) ?_ ?_
 ·intro aj g1 dQ bS;unfold Gc;refine wi (fun c1=>?_) (fun c1=>?_)
  ·have hx:=h3 _ (getD_in (i:=g1.toNat) 0 om);refine wm ?_;refine wm ?_;refine aH (qy fun hc=>aaL (by have hc:=of_decide_eq_true hc; have:=h1 _ (getD_in (i:=(dN.getD g1.toNat 0).toNat) aG om); omega) om) fun v3 hv3=>?_;refine wi (fun c2=>?_) (fun c2=>?_)
   ·exact av trivial
   ·refine wn ?_;refine bS _ ?_ ?_
    ·exact ob
    ·exact ob
  ·exact av trivial
 ·exact ob
theorem acW {p_:bn} {l_:(List ByteArray)} {dN:(List Int)} (h1:∀g∈p_.aD,g.bO.length≤2000000∧g.ak.length≤2000000) (h2:l_.length≤2000000) (h3:p_.aD.length≤2000000):W (JB p_ l_ dN) (fun r=>r=true→dN.length≤l_.length∧∀x∈dN,0≤x∧x<p_.aD.length):=by
 unfold JB;refine wi (fun c1=>?_) (fun c1=>?_)
 ·refine av ?_;exact ob
 ·refine bF (fun (g1:Int)=>0≤g1∧(∀j:Nat,(j:Int)<g1→0≤dN.getD j 0∧dN.getD j 0<p_.aD.length)) (fun (g1:Int)=>(dN.length - g1).toNat) ?_ ?_
  ·intro aj g1 dQ bS;obtain ⟨dG,bE⟩:=dQ;unfold Qr;refine wi (fun c2=>?_) (fun c2=>?_)
   ·refine wm ?_;refine wn ?_;refine aH (qy fun hc=>agw (by simp only [Bool.or_eq_false_iff,decide_eq_false_iff_not] at hc; have:=h1 _ (getD_in (i:=(dN.getD g1.toNat 0).toNat) aG om); omega)) fun v5 hv5=>?_;refine wn ?_;refine aH (qy fun hc=>acV h1 (by rw [List.length_take]; omega) (jG 0 fun j hj=>(by rw [List.length_take] at hj; rw [Vw _ _ _ _ om]; exact (bE j om).2)) (by simp only [Bool.or_eq_false_iff,decide_eq_false_iff_not] at hc; omega) (by simp only [Bool.or_eq_false_iff,decide_eq_false_iff_not] at hc; omega)) fun v6 hv6=>?_;refine bV (fun c3=>?_) (fun c3=>?_)
    ·have jI:=c3;have c3:=nr c3;refine av ?_;exact ob
    ·have jI:=c3;have c3:=nr c3;refine wn ?_;refine bS _ ?_ ?_
     ·(refine ⟨ob,dR bE dG (by simp only [Bool.or_eq_false_iff,decide_eq_false_iff_not] at jI; omega)⟩)
     ·exact ob
   ·refine av ?_;(intro _; exact ⟨om,jG 0 fun j hj=>bE j om⟩)
  ·(refine ⟨ob,fun j hj=>by (try dsimp only at hj); omega⟩)
theorem aeN {p_:bn} {l_:(List ByteArray)} {fH:(List Int)} (h1:∀g∈p_.aD,g.bO.length≤2000000∧g.ak.length≤2000000) (h2:l_.length≤2000000) (h3:p_.aD.length≤2000000):W (OZ p_ l_ fH) (fun r=>r=0→aeL p_∧l_.length≤10∧fH.length≤l_.length∧∀x∈fH,0≤x∧x<p_.aD.length):=by
 unfold OZ;refine aH (aaK h1 h2) fun v1 hv1=>?_;refine bV (fun c1=>?_) (fun c1=>?_)
 ·have fU:=c1;have c1:=nr c1;refine av ?_;exact ob
 ·have fU:=c1;have c1:=nr c1;refine aH (acW h1 h2 h3) fun v2 hv2=>?_;refine bV (fun c2=>?_) (fun c2=>?_)
  ·have jT:=c2;have c2:=nr c2;refine av ?_;exact ob
  ·have jT:=c2;have c2:=nr c2;refine av ?_;(intro _; have q1:=hv1 (by simpa using fU); have q2:=hv2 (by simpa using jT); exact ⟨q1.1,q1.2,q2.1,q2.2⟩)
theorem aaM {l_:(List d9)} (h1:∀g∈l_,g.dX.length≤2000000):W (oF l_) (fun r=>r=0→aiA l_):=by
 unfold oF;refine wi (fun c1=>?_) (fun c1=>?_)
 ·refine av ?_;exact ob
 ·refine bF (fun (g1:Int)=>0≤g1∧(∀j:Nat,(j:Int)<g1→∀x∈(l_.getD j dh).dX,0≤x∧x<(j:Int))) (fun (g1:Int)=>(l_.length - g1).toNat) ?_ ?_
  ·intro aj g1 dQ bS;obtain ⟨dG,bE⟩:=dQ;unfold DX;refine wi (fun c2=>?_) (fun c2=>?_)
   ·have hgl:=h1 _ (getD_in (i:=g1.toNat) dh om);refine bF (fun (g6:Int)=>0≤g6∧(∀j:Nat,(j:Int)<g6→0≤(l_.getD g1.toNat dh).dX.getD j 0∧(l_.getD g1.toNat dh).dX.getD j 0<g1)) (fun (g6:Int)=>((l_.getD g1.toNat dh).dX.length - g6).toNat) ?_ ?_
    ·intro jE g6 JO Gi;obtain ⟨FD,rH⟩:=JO;unfold DW;refine wn ?_;refine wi (fun c3=>?_) (fun c3=>?_)
     ·refine wm ?_;refine wm ?_;refine wi (fun c4=>?_) (fun c4=>?_)
      ·refine av ?_;exact ob
      ·refine wn ?_;refine Gi _ ?_ ?_
       ·(refine ⟨ob,dR rH FD om⟩)
       ·exact ob
     ·refine bF (fun (g7:Int)=>1≤g7) (fun (g7:Int)=>((l_.getD g1.toNat dh).dX.length - g7).toNat) ?_ ?_
      ·intro mW g7 Xv Tz;unfold A8;refine wn ?_;refine wi (fun c5=>?_) (fun c5=>?_)
       ·refine wm ?_;refine wm ?_;refine wn ?_;refine wi (fun c6=>?_) (fun c6=>?_)
        ·refine av ?_;exact ob
        ·refine wn ?_;refine Tz _ ?_ ?_
         ·exact ob
         ·exact ob
       ·refine wn ?_;refine bS _ ?_ ?_
        ·(refine ⟨ob,dR bE dG (jG 0 fun j hj=>by have:=rH j om; omega)⟩)
        ·exact ob
      ·exact ob
    ·(refine ⟨ob,fun j hj=>by (try dsimp only at hj); omega⟩)
   ·refine av ?_;(intro _; exact ⟨om,fun i hi=>bE i om⟩)
  ·(refine ⟨ob,fun j hj=>by (try dsimp only at hj); omega⟩)
theorem aaN {l_:(List dB)}:W (oG l_) (fun r=>r=0→aiB l_):=by
 unfold oG;refine wi (fun c1=>?_) (fun c1=>?_)
 ·refine av ?_;exact ob
 ·refine bF (fun (g1:Int)=>0≤g1∧(∀j:Nat,(j:Int)<g1 → -1≤(l_.getD j dS).aN∧(l_.getD j dS).aN<(j:Int))) (fun (g1:Int)=>(l_.length - g1).toNat) ?_ ?_
  ·intro aj g1 dQ bS;obtain ⟨dG,bE⟩:=dQ;unfold DY;refine wi (fun c2=>?_) (fun c2=>?_)
   ·refine wm ?_;refine wi (fun c3=>?_) (fun c3=>?_)
    ·refine av ?_;exact ob
    ·refine wn ?_;refine bS _ ?_ ?_
     ·(refine ⟨ob,dR bE dG om⟩)
     ·exact ob
   ·refine av ?_;(intro _; exact ⟨om,fun i hi=>bE i om⟩)
  ·(refine ⟨ob,fun j hj=>by (try dsimp only at hj); omega⟩)
end Go.Proofs.YtccjmcmolnbiiaaGreatDoor
namespace Go.Proofs.YtccjmcmolnbiiaaGreatDoor.Sp
open Go.Ab
set_option maxRecDepth 100000
theorem akZ {l:List ay} {d:List aW} (h:((eF l != 0)||decide (32<(d.length:Int)))=true):ig l d=false:=by
 unfold ig;by_cases h1:eF l=0
 ·rw [h1] at h;have:32<(d.length:Int):=by simpa using h
  rw [decide_eq_false (p:=(d.length:Int)≤32) om];simp
 ·have:(eF l==0)=false:=by simpa using h1
  rw [this];rfl
theorem aiD {l:List ay} {d:List aW} (h:((eF l != 0)||decide (32<(d.length:Int)))=false):ig l d=!(d.any (Zx l.length)):=by
 have h1:eF l=0∧(d.length:Int)≤32:=by
  simp at h;omega
 unfold ig;rw [h1.1,decide_eq_true h1.2];rfl
theorem amO {b:List Bool} {d:List aW} {i j:Nat} {a:Bool} {g:Int} (hi:i<b.length) (hj:j<d.length) (hg:g=(i:Int)):(b.set i (b.getD i false||a||O9 (d.take j) i)).set i ((b.set i (b.getD i false||a||O9 (d.take j) i)).getD i false||((d.getD j dI).bM==g))=b.set i (b.getD i false||a||O9 (d.take (j+1)) i):=by
 subst hg;have hsn:O9 (d.take (j+1)) i=(O9 (d.take j) i||((d.getD j dI).bM==(i:Int))):=by
  unfold O9;rw [iC dI hj,List.any_append];simp
 rw [gq,if_pos ⟨rfl,hi⟩,List.set_set,hsn];simp only [Bool.or_assoc]
theorem pG {x_:Int} {vN:Int} {xO:Int}:W (p8 x_ vN xO) (fun r=>r=dJ x_ vN xO):=by
 unfold p8;refine av ?_;rfl
theorem zC {l_:(List ay)} (h1:l_.length≤2000000):W (rz l_) (fun r=>r=eF l_):=by
 unfold rz;refine bV (fun c1=>?_) (fun c1=>?_)
 ·have fU:=c1;have c1:=nr c1;refine av ?_;(unfold eF; rw [fU]; rfl)
 ·have fU:=c1;have c1:=nr c1;refine bF (fun (g1:Int)=>0≤g1∧g1≤l_.length∧(∀j:Nat,(j:Int)<g1→Tg (l_.getD j au)=false)) (fun (g1:Int)=>(l_.length - g1).toNat) ?_ ?_
  ·intro aj g1 dQ bS;obtain ⟨dG,bE,bG⟩:=dQ;unfold M6;refine wi (fun c2=>?_) (fun c2=>?_)
   ·refine wn ?_;refine bV (fun c3=>?_) (fun c3=>?_)
    ·have jI:=c3;have c3:=nr c3;refine av ?_;(unfold eF; rw [wZ (p:=Tg) au (show g1.toNat<l_.length by omega) (show Tg _=true from jI),Bool.or_true]; rfl)
    ·have jI:=c3;have c3:=nr c3;refine wn ?_;refine bS _ ?_ ?_
     ·(refine ⟨ob,ob,dR bG dG jI⟩)
     ·exact ob
   ·have hbig:=any_none (p:=Tg) au (fun j hj=>bG j om);have hb3:(decide (16<(l_.length:Int))||l_.any Tg)=false:=(by rw [fU,hbig]; rfl);refine bF (fun (g2:Int)=>0≤g2∧g2≤l_.length∧Vo g2.toNat (l_.drop g2.toNat)=Vo 0 l_) (fun (g2:Int)=>(l_.length - g2).toNat) ?_ ?_
    ·intro dK g2 lZ oq;obtain ⟨oH,ji,oI⟩:=lZ;unfold KM;obtain ⟨i,rfl⟩:=Int.eq_ofNat_of_zero_le oH;refine wi (fun c4=>?_) (fun c4=>?_)
     ·have hlt:i<l_.length:=om;have hb:=bG i om;have hbl:(l_.getD i au).bJ.length≤16:=(by unfold Tg at hb; have:=of_decide_eq_false hb; omega);rw [show ((i:Int).toNat)=i from rfl,drop_cons au hlt,Vo] at oI;simp only [Int.toNat_natCast] at *;refine wm ?_;refine aH (pG) fun v13 aek=>?_;subst v13;refine aH (gX fun hc=>mG (pG)) fun v14 aax=>?_;subst v14;refine aH (gX fun hc=>mG (pG)) fun v15 Pt=>?_;subst v15;refine bV (fun c5=>?_) (fun c5=>?_)
      ·have CV:=c5;have c5:=nr c5;rw [ahl] at CV;refine av ?_;(unfold eF; rw [hb3,← oI]; unfold yQ; rw [show WV (l_.getD i au) i=true from CV]; rfl)
      ·have CV:=c5;have c5:=nr c5;rw [ahl] at CV;refine bF (fun (g5:Int)=>0≤g5∧g5≤(l_.getD i au).bJ.length∧NM (if g5.toNat=0 then 0 else (l_.getD i au).bJ.getD (g5.toNat - 1) 0) ((l_.getD i au).bJ.drop g5.toNat)=NM 0 (l_.getD i au).bJ) (fun (g5:Int)=>((l_.getD i au).bJ.length - g5).toNat) ?_ ?_
       ·intro j5 g5 Tx Rx;obtain ⟨Qy,FE,TA⟩:=Tx;unfold KL;obtain ⟨k,rfl⟩:=Int.eq_ofNat_of_zero_le Qy;simp only [Int.toNat_natCast] at *;refine wi (fun c6=>?_) (fun c6=>?_)
        ·have hlk:k<(l_.getD i au).bJ.length:=om;have hst:=aez hlk rfl;rw [hst] at TA;have e1:(((k:Int) - 1).toNat)=k - 1:=om;simp only [e1,Int.toNat_natCast] at *;refine wn ?_;refine aH (pG) fun v18 as1=>?_;subst v18;refine wm ?_;refine bV (fun c7=>?_) (fun c7=>?_)
         ·have WW:=c7;have c7:=nr c7;refine av ?_;(unfold eF; rw [hb3,← oI]; unfold yQ; rw [show WV (l_.getD i au) i=false from CV,← TA,WW]; rfl)
         ·have WW:=c7;have c7:=nr c7;refine wn ?_;refine Rx _ ?_ ?_
          ·(refine ⟨ob,ob,?_⟩; rw [← TA,WW]; rw [show ((k:Int)+1).toNat=k+1 by omega,if_neg om]; rfl)
          ·exact ob
        ·refine wn ?_;refine oq _ ?_ ?_
         ·(refine ⟨ob,ob,?_⟩; rw [← oI]; unfold yQ; rw [show WV (l_.getD i au) i=false from CV,← TA,show k=(l_.getD i au).bJ.length by omega,List.drop_length,show ((i:Int)+1).toNat=i+1 by omega]; rfl)
         ·exact ob
       ·(refine ⟨ob,ob,rfl⟩)
     ·refine av ?_;(unfold eF; rw [hb3,← oI,show ((i:Int).toNat)=i from rfl,show i=l_.length by omega,List.drop_length]; rfl)
    ·(refine ⟨ob,ob,rfl⟩)
  ·(refine ⟨ob,ob,fun j hj=>by omega⟩)
theorem Qz {l_:(List ay)} {d_:(List aW)} (h1:l_.length≤2000000) (h2:d_.length≤2000000):W (z8 l_ d_) (fun r=>r=ig l_ d_):=by
 unfold z8;refine aH (zC ob) fun v1 hv1=>?_;subst v1;refine bV (fun c1=>?_) (fun c1=>?_)
 ·have fU:=c1;have c1:=nr c1;refine av ?_;(exact (akZ fU).symm)
 ·have fU:=c1;have c1:=nr c1;have hdf:=aiD fU;refine bF (fun (g1:Int)=>0≤g1∧g1≤d_.length∧(d_.drop g1.toNat).any (Zx l_.length)=d_.any (Zx l_.length)) (fun (g1:Int)=>(d_.length - g1).toNat) ?_ ?_
  ·intro aj g1 dQ bS;obtain ⟨dG,bE,bG⟩:=dQ;unfold Nc;refine wi (fun c2=>?_) (fun c2=>?_)
   ·have hlt:g1.toNat<d_.length:=om;rw [drop_cons dI hlt,List.any_cons] at bG;refine wm ?_;refine aH (pG) fun v8 CU=>?_;subst v8;refine aH (gX fun hc=>mG (pG)) fun v9 hv9=>?_;subst v9;refine aH (gX fun hc=>mG (pG)) fun v10 EC=>?_;subst v10;refine bV (fun c3=>?_) (fun c3=>?_)
    ·have jI:=c3;have c3:=nr c3;have hb:=(aeA l_.length (d_.getD g1.toNat dI)).symm.trans jI;refine av ?_;(rw [hdf,← bG,hb]; rfl)
    ·have jI:=c3;have c3:=nr c3;have hb:=(aeA l_.length (d_.getD g1.toNat dI)).symm.trans jI;refine wn ?_;refine bS _ ?_ ?_
     ·(refine ⟨ob,ob,?_⟩; rw [← bG,hb,show (g1+1).toNat=g1.toNat+1 by omega]; rfl)
     ·exact ob
   ·refine av ?_;(rw [hdf,← bG,show g1.toNat=d_.length by omega,List.drop_length]; rfl)
  ·(refine ⟨ob,ob,rfl⟩)
theorem aaO {l_:(List ay)} {d_:(List aW)} (h1:l_.length≤2000000) (h2:d_.length≤2000000):W (Fp l_ d_) (fun r=>r=pE l_ d_):=by
 unfold Fp;refine aH (zC ob) fun v1 hv1=>?_;subst v1;refine bV (fun c1=>?_) (fun c1=>?_)
 ·have fU:=c1;have c1:=nr c1;refine av ?_;(unfold pE; rw [fU]; rfl)
 ·have fU:=c1;have c1:=nr c1;refine aH (Qz ob ob) fun v2 hv2=>?_;subst v2;refine bV (fun c2=>?_) (fun c2=>?_)
  ·have jT:=c2;have c2:=nr c2;refine av ?_;(unfold pE; rw [fU,jT]; rfl)
  ·have jT:=c2;have c2:=nr c2;refine av ?_;(unfold pE; rw [fU,jT]; rfl)
theorem TB {l_:(List ay)} {d_:(List aW)} (h1:JG l_ d_):W (D5 l_ d_) (fun r=>r=fF l_ d_):=by
 have hv:=h1;obtain ⟨vl,vd,vs,_,vx⟩:=h1;unfold D5;refine wm ?_;refine bF (fun (g1:(Int×(List Bool))) => -1≤g1.1∧g1.1<l_.length∧Qw l_ d_ (l_.length - 1 - g1.1).toNat g1.2) (fun (g1:(Int×(List Bool)))=>(g1.1+1).toNat) ?_ ?_
 ·intro aj g1 dQ bS;obtain ⟨dG,bE,bG⟩:=dQ;unfold Qp;have hbl:=bG.len;refine wi (fun c1=>?_) (fun c1=>?_)
  ·have hst:=bG.step hv (show (l_.length - 1 - g1.1).toNat<l_.length by omega);have hp:=vs g1.1.toNat om;rw [show l_.length - 1 - ((l_.length:Int) - 1 - g1.1).toNat=g1.1.toNat by omega,show ((l_.length:Int) - 1 - g1.1).toNat+1=((l_.length:Int) - 1 - (g1.1 - 1)).toNat by omega] at hst;refine wm ?_;refine wn ?_;refine bF (fun (g4:(Int×(List Bool)))=>0≤g4.1∧g4.1≤d_.length∧g4.2=g1.2.set g1.1.toNat (g1.2.getD g1.1.toNat false||(l_.getD g1.1.toNat au).fQ||O9 (d_.take g4.1.toNat) g1.1.toNat)) (fun (g4:(Int×(List Bool)))=>(d_.length - g4.1).toNat) ?_ ?_
   ·intro jm g4 Iq EB;obtain ⟨FH,lY,TF⟩:=Iq;unfold Qo;have as2:g4.2.length=l_.length:=(by rw [TF,List.length_set,hbl]);refine wi (fun c2=>?_) (fun c2=>?_)
    ·refine wm ?_;refine wm ?_;refine EB _ ?_ ?_
     ·(refine ⟨ob,ob,?_⟩; dsimp only; rw [show (g4.1+1).toNat=g4.1.toNat+1 by omega,TF]; exact amO om om om)
     ·exact ob
    ·have aeO:g4.2=g1.2.set g1.1.toNat (g1.2.getD g1.1.toNat false||(l_.getD g1.1.toNat au).fQ||O9 d_ g1.1.toNat):=(by rw [TF,show g4.1.toNat=d_.length by omega,List.take_length]);have hgi:g4.2.getD g1.1.toNat false=(g1.2.getD g1.1.toNat false||(l_.getD g1.1.toNat au).fQ||O9 d_ g1.1.toNat):=(by rw [aeO,gq,if_pos ⟨rfl,om⟩]);refine wm ?_;refine bV (fun c3=>?_) (fun c3=>?_)
     ·have jI:=c3;have c3:=nr c3;have c3b:=jI;rw [hgi] at c3b;refine wm ?_;refine bS _ ?_ ?_
      ·(refine ⟨ob,ob,?_⟩; dsimp only; unfold Tk at hst; rw [c3b] at hst; rw [aeO]; exact hst)
      ·exact ob
     ·have jI:=c3;have c3:=nr c3;have c3b:=jI;rw [hgi] at c3b;refine wn ?_;refine bS _ ?_ ?_
      ·(refine ⟨ob,ob,?_⟩; dsimp only; unfold Tk at hst; rw [c3b] at hst; rw [aeO]; exact hst)
      ·exact ob
   ·(refine ⟨ob,ob,?_⟩; dsimp only; rw [show (0:Int).toNat=0 from rfl,List.take_zero,show O9 [] g1.1.toNat=false from rfl,Bool.or_false])
  ·refine av ?_;(exact Qw.done (by rw [show l_.length=((l_.length:Int) - 1 - g1.1).toNat by omega]; exact bG))
 ·(refine ⟨ob,ob,?_⟩; dsimp only; rw [show ((l_.length:Int) - 1 - (l_.length - 1)).toNat=0 by omega]; exact Qw.start hv)
theorem aaP {s_:ay} {v_:Int} (h1:s_.bJ.length≤2000000):W (Fq s_ v_) (fun r=>r=(bif decide (lvN s_.bJ v_<s_.bJ.length) then (lvN s_.bJ v_:Int) else -1)):=by
 unfold Fq;refine bF (fun (g1:Int)=>0≤g1∧g1≤s_.bJ.length∧(∀j:Nat,(j:Int)<g1→s_.bJ.getD j 0<v_)) (fun (g1:Int)=>(s_.bJ.length - g1).toNat) ?_ ?_
 ·intro aj g1 dQ bS;obtain ⟨dG,bE,bG⟩:=dQ;unfold Nf;refine wi (fun c1=>?_) (fun c1=>?_)
  ·refine wn ?_;refine wi (fun c2=>?_) (fun c2=>?_)
   ·refine av ?_;(rw [← agn (k:=g1.toNat) om (fun j hj=>bG j om) (fun _=>c2),decide_eq_true om]; simp only [cond_true]; omega)
   ·refine wn ?_;refine bS _ ?_ ?_
    ·(refine ⟨ob,ob,dR bG dG c2⟩)
    ·exact ob
  ·refine av ?_;(rw [← agn (k:=g1.toNat) om (fun j hj=>bG j om) (fun h=>by omega),decide_eq_false om]; rfl)
 ·(refine ⟨ob,ob,fun j hj=>by omega⟩)
theorem zD {l_:(List ay)} {r_:cO} {k_:Int} (h1:0≤k_) (h2:k_<l_.length) (h3:Rok l_ r_):W (rC l_ r_ k_) (fun r=>r=mH l_ r_ k_.toNat):=by
 obtain ⟨r1,r2,r3⟩:=h3;have r4:=r3 k_.toNat om;unfold rC;refine wm ?_;refine wn ?_;refine av ?_;rfl
theorem as3 {l:List ay} {r:cO} {u:List Bool} {ld:List Int} {i:Nat} (h:(u.getD i false&&!r.On.getD i false)=true):NP l r u ld i=true:=by
 simp only [Bool.and_eq_true] at h;unfold NP;rw [h.1,h.2]; rfl
theorem as4 {l:List ay} {r:cO} {u:List Bool} {ld:List Int} {i:Nat} (h:(u.getD i false&&!r.On.getD i false)=false) (h2:(!r.On.getD i false)=true):NP l r u ld i=false:=by
 rw [h2,Bool.and_true] at h;unfold NP;rw [h2,h]; rfl
theorem aqk {l:List ay} {r:cO} {u:List Bool} {ld:List Int} {i:Nat} (h2:(!r.On.getD i false)=false):NP l r u ld i=(decide ((l.getD i au).gY<ld.getD i 0)||(decide (0≤(l.getD i au).aN)&&(!r.On.getD (l.getD i au).aN.toNat false||decide (mH l r (l.getD i au).aN.toNat<mH l r i+(l.getD i au).gB)))):=by
 unfold NP;rw [h2,Bool.or_comm]; rfl
theorem aeP {l:List ay} {r:cO} {d:List aW} {i:Nat} (hi:i<l.length) (h:NP l r (fF l d) (kZ l d) i=true):xA l r d=false:=by
 unfold xA;rw [Bb hi (by rw [h]; rfl)];rfl
theorem aeQ {l:List ay} {r:cO} {d:List aW} (h:∀i,i<l.length→NP l r (fF l d) (kZ l d) i=false):xA l r d=!(d.any (Zy l r)):=by
 unfold xA;rw [NQ fun j hj=>(by rw [h j hj]; rfl)];rfl
theorem abG {l:List ay} {u:List Bool} {i:Nat} {s:DS} (h:(!u.getD i false)=true):vK l u i s=false:=by
 unfold vK;rw [show u.getD i false=false by simpa using h];rfl
theorem ak0 {a n:Nat} (h:decide ((bif decide (a<n) then (a:Int) else -1)<0)=true):decide (a<n)=false:=by
 cases hd:decide (a<n) with
 | false=>rfl
 | true=>rw [hd] at h; have:=of_decide_eq_true h; simp only [cond_true] at this; omega
theorem ak1 {a n:Nat} (h:decide ((bif decide (a<n) then (a:Int) else -1)<0)=false):decide (a<n)=true:=by
 cases hd:decide (a<n) with
 | true=>rfl
 | false=>rw [hd] at h; cases h
theorem agx {l:List ay} {d:List aW} {s:DS} {i:Nat} (h0:(pE l d != 0)=false) (e:(s,(i:Int))=Io l d):(Q0,9)=iH l d:=by
 unfold iH;rw [h0,← e,decide_eq_true (show (0:Int)≤(s,(i:Int)).2 by dsimp only; omega)];rfl
theorem abH {l:List ay} {d:List aW} {s:DS} (h0:(pE l d != 0)=false) (hdr:ig l d=true) (e:(s,(-1:Int))=Io l d) (hr:Rok l ⟨fF l d,s.lv⟩):iH l d=bif !xA l ⟨fF l d,s.lv⟩ d then (Q0,9) else (⟨fF l d,s.lv⟩,0):=by
 unfold iH;have hmf:fq l ⟨fF l d,s.lv⟩ d=xA l ⟨fF l d,s.lv⟩ d:=by
  unfold fq;rw [Db.2 ⟨NR hdr,hr⟩,hdr];rfl
 rw [h0,← e];simp only [show decide ((0:Int) ≤ -1)=false from rfl,Bool.false_or,hmf,cond_false]
theorem ak2 {l:List ay} {u:List Bool} {i:Nat} {s:DS} (hu:u.getD i false=true) (hi:i<s.lv.length):mH l ⟨u,(Bc l u i s).lv⟩ i+(l.getD i au).gB=mh l i s:=by
 unfold mH mh Bc;rw [hu];simp only [Bool.not_true,cond_false];rw [gq,if_pos ⟨rfl,hi⟩];rfl
theorem aeR {l:List ay} {u:List Bool} {i:Nat} {s:DS} (hu:u.getD i false=true) (hp:decide (0≤(l.getD i au).aN)=true):(Bd s.a).set (l.getD i au).aN.toNat (if mh l i s > (Bd s.a).getD (l.getD i au).aN.toNat 0 then mh l i s else (Bd s.a).getD (l.getD i au).aN.toNat 0)=Bd (Bc l u i s).a:=by
 unfold Bc;rw [hu,hp,Ee];simp only [Bool.not_true,cond_false,Bool.true_and];by_cases h:(s.a.getD (l.getD i au).aN.toNat NK).xu<mh l i s
 ·rw [decide_eq_true h,cond_true,aeJ,if_pos h]
 ·rw [decide_eq_false h,cond_false,if_neg h,aeK _ _ _ (Ee _ _).symm]
theorem aiE {l:List ay} {u:List Bool} {i:Nat} {s:DS} (hp:decide (0≤(l.getD i au).aN)=false):Bd s.a=Bd (Bc l u i s).a:=by
 unfold Bc;rw [hp];cases u.getD i false<;>rfl
theorem aeS {l:List ay} {u:List Bool} {i:Nat} {s:DS} (h:(!u.getD i false)=true):Bc l u i s=s:=by
 unfold Bc;rw [h];rfl
theorem aaQ {l_:(List ay)} {d_:(List aW)} (h1:JG l_ d_):W (Fu l_ d_) (fun r=>r=kZ l_ d_):=by
 have hv:=h1;obtain ⟨vl,vd,vs,_,vx⟩:=h1;unfold Fu;refine wm ?_;refine bF (fun (g1:(Int×(List Int))) => -1≤g1.1∧g1.1<l_.length∧La l_ d_ (l_.length - 1 - g1.1).toNat g1.2) (fun (g1:(Int×(List Int)))=>(g1.1+1).toNat) ?_ ?_
 ·intro aj g1 dQ bS;obtain ⟨dG,bE,bG⟩:=dQ;unfold Nh;have hbl:=bG.len;have hsm:=bG.small hv om;refine wi (fun c1=>?_) (fun c1=>?_)
  ·have hst:=bG.step hv (show (l_.length - 1 - g1.1).toNat<l_.length by omega);have hp:=vs g1.1.toNat om;rw [show l_.length - 1 - ((l_.length:Int) - 1 - g1.1).toNat=g1.1.toNat by omega,show ((l_.length:Int) - 1 - g1.1).toNat+1=((l_.length:Int) - 1 - (g1.1 - 1)).toNat by omega] at hst;refine bF (fun (g4:(Int×(List Int)))=>0≤g4.1∧g4.1≤d_.length∧g4.2=g1.2.set g1.1.toNat (g1.2.getD g1.1.toNat 0+vP (d_.take g4.1.toNat) g1.1.toNat)) (fun (g4:(Int×(List Int)))=>(d_.length - g4.1).toNat) ?_ ?_
   ·intro jm g4 Iq EB;obtain ⟨FH,lY,TF⟩:=Iq;unfold Ng;have as2:g4.2.length=l_.length:=(by rw [TF,List.length_set,hbl]);refine wi (fun c2=>?_) (fun c2=>?_)
    ·have hx:=vx _ (je dI (show g4.1.toNat<d_.length by omega));have hdb:=Tm (d:=d_) (fun x hx=>by have:=vx x hx; omega) g1.1.toNat g4.1.toNat om;have hbi:=hsm g1.1.toNat;have hgi:g4.2.getD g1.1.toNat 0=g1.2.getD g1.1.toNat 0+vP (d_.take g4.1.toNat) g1.1.toNat:=(by rw [TF,gq,if_pos ⟨rfl,om⟩]);refine wn ?_;refine bV (fun c3=>?_) (fun c3=>?_)
     ·have jI:=c3;have c3:=nr c3;refine wm ?_;refine wm ?_;refine EB _ ?_ ?_
      ·(refine ⟨ob,ob,?_⟩; dsimp only; rw [show (g4.1+1).toNat=g4.1.toNat+1 by omega,hgi,TF,List.set_set,Vp om,show ((g1.1.toNat:Int))=g1.1 by omega,jI]; simp only [cond_true]; rw [Int.add_assoc])
      ·exact ob
     ·have jI:=c3;have c3:=nr c3;refine wn ?_;refine EB _ ?_ ?_
      ·(refine ⟨ob,ob,?_⟩; dsimp only; rw [show (g4.1+1).toNat=g4.1.toNat+1 by omega,TF,Vp om,show ((g1.1.toNat:Int))=g1.1 by omega,jI]; rfl)
      ·exact ob
    ·have hdb:=Tm (d:=d_) (fun x hx=>by have:=vx x hx; omega) g1.1.toNat d_.length (Nat.le_refl _);rw [List.take_length] at hdb;have aeO:g4.2=g1.2.set g1.1.toNat (g1.2.getD g1.1.toNat 0+vP d_ g1.1.toNat):=(by rw [TF,show g4.1.toNat=d_.length by omega,List.take_length]);have hgi:g4.2.getD g1.1.toNat 0=g1.2.getD g1.1.toNat 0+vP d_ g1.1.toNat:=(by rw [aeO,gq,if_pos ⟨rfl,om⟩]);have hbi:=hsm g1.1.toNat;refine wn ?_;refine bV (fun c4=>?_) (fun c4=>?_)
     ·have rZ:=c4;have c4:=nr c4;have hgp:g4.2.getD (l_.getD g1.1.toNat au).aN.toNat 0=g1.2.getD (l_.getD g1.1.toNat au).aN.toNat 0:=(by rw [aeO,gq,if_neg om]);have hbp:=hsm (l_.getD g1.1.toNat au).aN.toNat;refine wm ?_;refine wm ?_;refine wn ?_;refine bS _ ?_ ?_
      ·(refine ⟨ob,ob,?_⟩; dsimp only; unfold Pb at hst; rw [rZ] at hst; rw [hgi,hgp,aeO]; exact hst)
      ·exact ob
     ·have rZ:=c4;have c4:=nr c4;refine wn ?_;refine bS _ ?_ ?_
      ·(refine ⟨ob,ob,?_⟩; dsimp only; unfold Pb at hst; rw [rZ] at hst; rw [aeO]; exact hst)
      ·exact ob
   ·(refine ⟨ob,ob,?_⟩; dsimp only; rw [show (0:Int).toNat=0 from rfl,List.take_zero,show vP [] g1.1.toNat=0 from rfl,Int.add_zero,set_self])
  ·refine av ?_;(exact La.done (by rw [show l_.length=((l_.length:Int) - 1 - g1.1).toNat by omega]; exact bG))
 ·(refine ⟨ob,ob,?_⟩; dsimp only; rw [show ((l_.length:Int) - 1 - (l_.length - 1)).toNat=0 by omega]; exact La.start hv)
theorem QA {l_:(List ay)} {r_:cO} {d_:(List aW)} (h1:JG l_ d_) (h2:Rok l_ r_):W (Aa l_ r_ d_) (fun r=>r=xA l_ r_ d_):=by
 have hv:=h1;have hr:=h2;have hvb:=fun i hi=>Tj hv hr i hi;have hul:=sj l_ d_;have hll:=Rq l_ d_;obtain ⟨vl,vd,vs,_,vx⟩:=h1;obtain ⟨r1,r2,r3⟩:=h2;unfold Aa;refine aH (TB ob) fun v1 hv1=>?_;subst v1;refine aH (aaQ ob) fun v2 hv2=>?_;subst v2;refine bF (fun (g1:Int)=>0≤g1∧g1≤l_.length∧(∀j:Nat,(j:Int)<g1→NP l_ r_ (fF l_ d_) (kZ l_ d_) j=false)) (fun (g1:Int)=>(l_.length - g1).toNat) ?_ ?_
 ·intro aj g1 dQ bS;obtain ⟨dG,bE,bG⟩:=dQ;unfold Ni;refine wi (fun c1=>?_) (fun c1=>?_)
  ·have hp:=vs g1.toNat om;have hv1:=hvb g1.toNat om;have hv2:=hvb (l_.getD g1.toNat au).aN.toNat;refine wm ?_;refine wn ?_;refine bV (fun c2=>?_) (fun c2=>?_)
   ·have jT:=c2;have c2:=nr c2;refine av ?_;(exact (aeP (i:=g1.toNat) om (as3 jT)).symm)
   ·have jT:=c2;have c2:=nr c2;refine wn ?_;refine bV (fun c3=>?_) (fun c3=>?_)
    ·have jI:=c3;have c3:=nr c3;refine wn ?_;refine bS _ ?_ ?_
     ·(refine ⟨ob,ob,dR bG dG (as4 jT jI)⟩)
     ·exact ob
    ·have jI:=c3;have c3:=nr c3;refine wn ?_;refine bC (by (intro _ q; have:=of_decide_eq_true q; omega)) ?_;refine aH (gX fun hc hc2 hc3=>mG (zD (of_decide_eq_true hc2) (by have:=of_decide_eq_true hc2; omega) hr)) fun v7 hv7=>?_;subst v7;refine aH (gX fun hc hc2 hc3=>mG (zD om om hr)) fun v8 CU=>?_;subst v8;refine bC (by (intro _ q; have:=of_decide_eq_true q; have:=hv2 om; unfold aF; omega)) ?_;refine bV (fun c4=>?_) (fun c4=>?_)
     ·have rZ:=c4;have c4:=nr c4;refine av ?_;(exact (aeP (i:=g1.toNat) om ((aqk jI).trans rZ)).symm)
     ·have rZ:=c4;have c4:=nr c4;refine wn ?_;refine bS _ ?_ ?_
      ·(refine ⟨ob,ob,dR bG dG ((aqk jI).trans rZ)⟩)
      ·exact ob
  ·refine bF (fun (g2:Int)=>0≤g2∧g2≤d_.length∧(d_.drop g2.toNat).any (Zy l_ r_)=d_.any (Zy l_ r_)) (fun (g2:Int)=>(d_.length - g2).toNat) ?_ ?_
   ·intro dK g2 lZ oq;obtain ⟨oH,ji,oI⟩:=lZ;unfold KP;refine wi (fun c5=>?_) (fun c5=>?_)
    ·have hlt:g2.toNat<d_.length:=om;have hx:=vx _ (je dI hlt);rw [drop_cons dI hlt,List.any_cons] at oI;refine wn ?_;refine aH (zD hx.1 hx.2.1 hr) fun v13 aek=>?_;subst v13;refine aH (pG) fun v14 aax=>?_;subst v14;refine bV (fun c6=>?_) (fun c6=>?_)
     ·have c6o:=c6;have c6:=nr c6;refine av ?_;(rw [aeQ (fun j hj=>bG j om),← oI,show Zy l_ r_ (d_.getD g2.toNat dI)=true from c6o]; rfl)
     ·have c6o:=c6;have c6:=nr c6;refine wn ?_;refine oq _ ?_ ?_
      ·(refine ⟨ob,ob,?_⟩; rw [← oI,show Zy l_ r_ (d_.getD g2.toNat dI)=false from c6o,show (g2+1).toNat=g2.toNat+1 by omega]; rfl)
      ·exact ob
    ·refine av ?_;(rw [aeQ (fun j hj=>bG j om),← oI,show g2.toNat=d_.length by omega,List.drop_length]; rfl)
   ·(refine ⟨ob,ob,rfl⟩)
 ·(refine ⟨ob,ob,fun j hj=>by omega⟩)
theorem QB {l_:(List ay)} {d_:(List aW)} (h1:l_.length≤2000000) (h2:d_.length≤2000000):W (Ac l_ d_) (fun r=>r=iH l_ d_):=by
 unfold Ac;refine aH (aaO ob ob) fun v1 hv1=>?_;subst v1;refine bV (fun c1=>?_) (fun c1=>?_)
 ·have fU:=c1;have c1:=nr c1;refine av ?_;(unfold iH; rw [fU]; rfl)
 ·have fU:=c1;have c1:=nr c1;have hdr:=aeE (show pE l_ d_=0 by simpa using fU);have hv:=rG hdr;obtain ⟨vl,vd,vs,vlv,vx⟩:=id hv;have hul:=sj l_ d_;refine aH (TB hv) fun v2 hv2=>?_;subst v2;refine wm ?_;refine bF (fun (g1:(Int×(List Int)×(List Int)))=>0≤g1.1∧g1.1≤d_.length∧g1.2.1=Bd (xB l_.length d_ g1.1.toNat)∧g1.2.2=List.replicate l_.length 0) (fun (g1:(Int×(List Int)×(List Int)))=>(d_.length - g1.1).toNat) ?_ ?_
  ·intro aj g1 dQ bS;obtain ⟨dG,bE,bG,kC⟩:=dQ;unfold Nj;have hgl:g1.2.1.length=l_.length:=(by rw [bG,Tt,Pd]);refine wi (fun c2=>?_) (fun c2=>?_)
   ·have hx:=vx _ (je dI (show g1.1.toNat<d_.length by omega));refine wm ?_;refine wm ?_;refine bS _ ?_ ?_
    ·(refine ⟨ob,ob,?_,kC⟩; dsimp only; rw [show (g1.1+1).toNat=g1.1.toNat+1 by omega,Ru,bG])
    ·exact ob
   ·refine wn ?_;refine bF (fun (g2:(Int×(List Int)×(List Int))) => -1≤g2.1∧g2.1<l_.length∧∃s:DS,g2.2.1=Bd s.a∧g2.2.2=s.lv∧DOk l_ s∧amG l_ s∧Px l_ (fF l_ d_) (g2.1+1).toNat s=Io l_ d_) (fun (g2:(Int×(List Int)×(List Int)))=>(g2.1+1).toNat) ?_ ?_
    ·intro dK g2 lZ oq;obtain ⟨oH,ji,oI⟩:=lZ;unfold KQ;obtain ⟨s,e1,e2,e3,e4,e5⟩:=oI;have hal:g2.2.1.length=l_.length:=(by rw [e1,Tt,e3.al]);have hll:g2.2.2.length=l_.length:=(by rw [e2,e3.ll]);refine wi (fun c3=>?_) (fun c3=>?_)
     ·have hp:=vs g2.1.toNat om;rw [show (g2.1+1).toNat=g2.1.toNat+1 by omega,Px] at e5;refine wn ?_;refine bV (fun c4=>?_) (fun c4=>?_)
      ·have rZ:=c4;have c4:=nr c4;refine wn ?_;refine oq _ ?_ ?_
       ·(refine ⟨ob,ob,s,e1,e2,e3,e4,?_⟩; dsimp only; rw [show (g2.1 - 1+1).toNat=g2.1.toNat by omega]; rw [abG rZ,aeS rZ] at e5; exact e5)
       ·exact ob
      ·have rZ:=c4;have c4:=nr c4;have hu:(fF l_ d_).getD g2.1.toNat false=true:=(by simpa using rZ);refine wm ?_;refine aH (aaP ob) fun v11 acX=>?_;subst v11;rw [e1,Ee,show lvN (l_.getD g2.1.toNat au).bJ (s.a.getD g2.1.toNat NK).xu=sW l_ g2.1.toNat s from rfl];have hgs:(g2.2.2.set g2.1.toNat (bif decide (sW l_ g2.1.toNat s<(l_.getD g2.1.toNat au).bJ.length) then (sW l_ g2.1.toNat s:Int) else -1)).getD g2.1.toNat 0=(bif decide (sW l_ g2.1.toNat s<(l_.getD g2.1.toNat au).bJ.length) then (sW l_ g2.1.toNat s:Int) else -1):=(by rw [gq,if_pos ⟨rfl,om⟩]);refine wn ?_;unfold A9;refine wn ?_;refine bV (fun c5=>?_) (fun c5=>?_)
       ·have CV:=c5;have c5:=nr c5;rw [hgs] at CV;have h5:=ak0 CV;have h6:decide ((sW l_ g2.1.toNat s:Int)<(l_.getD g2.1.toNat au).bJ.length)=false:=(by simpa using h5);refine av ?_;(exact agx fU (by unfold vK at e5; rw [hu,h6] at e5; exact e5))
       ·have CV:=c5;have c5:=nr c5;rw [hgs] at CV;have h5:=ak1 CV;have h6:decide ((sW l_ g2.1.toNat s:Int)<(l_.getD g2.1.toNat au).bJ.length)=true:=(by simpa using h5);have hf:vK l_ (fF l_ d_) g2.1.toNat s=false:=(by unfold vK; rw [hu,h6]; rfl);rw [hf] at e5;have hlo:=acP (u:=fF l_ d_) (i:=g2.1.toNat) e3;have hlv:=amL hf e4;have hR:=akV hul hlo hlv;have hs:(Bc l_ (fF l_ d_) g2.1.toNat s).lv=s.lv.set g2.1.toNat (sW l_ g2.1.toNat s:Int):=(by unfold Bc; rw [hu]; rfl);have hvo:=ak2 (l:=l_) (u:=fF l_ d_) hu (show g2.1.toNat<s.lv.length by rw [e3.ll]; omega);have hvb:=Tj hv hR g2.1.toNat om;rw [h5]; simp only [cond_true]; rw [e2,← hs];refine wn ?_;refine bV (fun c6=>?_) (fun c6=>?_)
        ·have c6o:=c6;have c6:=nr c6;refine wn ?_;refine aH (zD om om hR) fun v10 EC=>?_;subst v10;refine wn ?_;refine bC (by (unfold aF; omega)) ?_;refine wm ?_;refine oq _ ?_ ?_
         ·(refine ⟨ob,ob,Bc l_ (fF l_ d_) g2.1.toNat s,?_,rfl,hlo,hlv,?_⟩; (dsimp only; rw [hvo,e1]; exact aeR hu c6o); (dsimp only; rw [show (g2.1 - 1+1).toNat=g2.1.toNat by omega]; exact e5))
         ·exact ob
        ·have c6o:=c6;have c6:=nr c6;refine wn ?_;refine oq _ ?_ ?_
         ·(refine ⟨ob,ob,Bc l_ (fF l_ d_) g2.1.toNat s,?_,rfl,hlo,hlv,?_⟩; (dsimp only; rw [e1]; exact aiE c6o); (dsimp only; rw [show (g2.1 - 1+1).toNat=g2.1.toNat by omega]; exact e5))
         ·exact ob
     ·rw [show (g2.1+1).toNat=0 by omega,Px] at e5;have hrk:Rok l_ ⟨fF l_ d_,g2.2.2⟩:=(by rw [e2]; exact akV hul e3 e4);refine aH (QA hv hrk) fun v12 Vh=>?_;subst v12;refine bV (fun c7=>?_) (fun c7=>?_)
      ·have WW:=c7;have c7:=nr c7;refine av ?_;(rw [abH fU hdr e5 (by rw [← e2]; exact hrk),← e2,WW]; rfl)
      ·have WW:=c7;have c7:=nr c7;refine av ?_;(rw [abH fU hdr e5 (by rw [← e2]; exact hrk),← e2,WW]; rfl)
    ·(refine ⟨ob,ob,ds0 l_ d_,?_,kC,agp _ _,?_,?_⟩; (dsimp only; rw [bG,show g1.1.toNat=d_.length by omega]; rfl); (intro j hj; show 0≤(List.replicate l_.length (0:Int)).getD j 0∧(List.replicate l_.length (0:Int)).getD j 0<_; rw [nu]; have:=vs j hj; omega); (dsimp only; rw [show ((l_.length:Int) - 1+1).toNat=l_.length by omega]; rfl))
  ·(refine ⟨ob,ob,?_,rfl⟩; show _=Bd (List.replicate l_.length (⟨0,-1,-1⟩:Dem)); unfold Bd; rw [List.map_replicate]; rfl)
end Go.Proofs.YtccjmcmolnbiiaaGreatDoor.Sp
namespace Go.Proofs.YtccjmcmolnbiiaaGreatDoor
open Go.Ab
set_option maxRecDepth 100000
theorem aeT (n lo hi:Int) (b:Bool):(((decide (n<lo))||(decide (hi<n)))||b)=(!(dJ n lo hi)||b):=by
 unfold dJ;congr 1;by_cases h1:n<lo<;>by_cases h2:hi<n<;>simp [h1,h2]<;>omega
theorem aiF {l:List Int} {x y:Int} (h:l.contains x=false) (hy:¬ y=x):(l++[y]).contains x=false:=by
 rw [List.contains_eq_any_beq] at h ⊢;rw [List.any_append,h];simpa using fun e=>hy e.symm
theorem agy (n:Nat):decide ((1:Int)≤(n:Int))=decide ((0:Int)<(n:Int)):=by
 rw [decide_eq_decide]; omega
theorem as5 {c:aI}:((decide ((1:Int)≤(c.aO.length:Int))&&decide ((0:Int)<(c.aM.length:Int)))&&(wX 0 ((c.aO.length:Int) - 1) [] c.aM))=(decide (0<(c.aM.length:Int))&&wX 0 ((c.aO.length:Int) - 1) [] c.aM):=by
 by_cases h:1≤(c.aO.length:Int)
 ·rw [decide_eq_true h,Bool.true_and]
 ·rw [decide_eq_false h,Bool.false_and,Bool.false_and];symm;rw [Bool.and_eq_false_iff];by_cases h2:0<(c.aM.length:Int)
  ·right;cases hd:wX 0 ((c.aO.length:Int) - 1) [] c.aM with
   | false=>rfl
   | true=>have:=amy _ _ hd om; omega
  ·left; exact decide_eq_false h2
theorem aiG {l_:(List Int)} {x_:Int} (h1:l_.length≤2000000):W (Ym l_ x_) (fun r=>r=l_.contains x_):=by
 unfold Ym;refine bF (fun (g1:Int)=>0≤g1∧g1≤l_.length∧(l_.take g1.toNat).contains x_=false) (fun (g1:Int)=>(l_.length - g1).toNat) ?_ ?_
 ·intro aj g1 dQ bS;obtain ⟨dG,bE,bG⟩:=dQ;unfold Zn;refine wi (fun c1=>?_) (fun c1=>?_)
  ·refine wn ?_;refine wi (fun c2=>?_) (fun c2=>?_)
   ·refine av ?_;(exact (List.elem_eq_true_of_mem (by rw [← c2]; exact getD_in 0 om)).symm)
   ·refine wn ?_;refine bS _ ?_ ?_
    ·(refine ⟨ob,ob,?_⟩; rw [show (g1+1).toNat=g1.toNat+1 by omega,iC 0 om]; exact aiF bG c2)
    ·exact ob
  ·refine av ?_;(rw [show g1.toNat=l_.length by omega,List.take_length] at bG; exact bG.symm)
 ·(refine ⟨ob,ob,rfl⟩)
theorem aeU {a_:(List Int)} {b_:(List Int)} (h1:a_.length≤2000000):W (Hw a_ b_) (fun r=>r=(a_==b_)):=by
 unfold Hw;refine wi (fun c1=>?_) (fun c1=>?_)
 ·refine av ?_;(exact (JM c1).symm)
 ·refine bF (fun (g1:Int)=>0≤g1∧g1≤a_.length∧(a_==b_)=(a_.drop g1.toNat==b_.drop g1.toNat)) (fun (g1:Int)=>(a_.length - g1).toNat) ?_ ?_
  ·intro aj g1 dQ bS;obtain ⟨dG,bE,bG⟩:=dQ;unfold SL;refine wi (fun c2=>?_) (fun c2=>?_)
   ·rw [drop_cons 0 (show g1.toNat<a_.length by omega),drop_cons 0 (show g1.toNat<b_.length by omega)] at bG;refine wm ?_;refine wi (fun c3=>?_) (fun c3=>?_)
    ·refine av ?_;(rw [bG,acT c3])
    ·refine wn ?_;refine bS _ ?_ ?_
     ·(refine ⟨ob,ob,?_⟩; rw [bG,acU c3,show (g1+1).toNat=g1.toNat+1 by omega])
     ·exact ob
   ·refine av ?_;(rw [bG,List.drop_eq_nil_of_le om,List.drop_eq_nil_of_le om]; rfl)
  ·(refine ⟨ob,ob,rfl⟩)
theorem xG {l_:(List Int)} {vN:Int} {xO:Int} (h1:l_.length≤2000000):W (lJ l_ vN xO) (fun r=>r=wX vN xO [] l_):=by
 unfold lJ;refine bF (fun (g1:Int)=>0≤g1∧g1≤l_.length∧wX vN xO (l_.take g1.toNat) (l_.drop g1.toNat)=wX vN xO [] l_) (fun (g1:Int)=>(l_.length - g1).toNat) ?_ ?_
 ·intro aj g1 dQ bS;obtain ⟨dG,bE,bG⟩:=dQ;unfold DT;refine wi (fun c1=>?_) (fun c1=>?_)
  ·rw [drop_cons 0 (show g1.toNat<l_.length by omega)] at bG;refine wm ?_;refine aH (gX fun hc=>mG (aiG ob)) fun v3 hv3=>?_;subst v3;refine bV (fun c2=>?_) (fun c2=>?_)
   ·have jT:=c2;have c2:=nr c2;rw [aeT] at jT;refine av ?_;(rw [← bG,Yn (pre:=l_.take g1.toNat) (n:=l_.getD g1.toNat 0) jT])
   ·have jT:=c2;have c2:=nr c2;rw [aeT] at jT;refine wn ?_;refine bS _ ?_ ?_
    ·(refine ⟨ob,ob,?_⟩; rw [← bG,acH (pre:=l_.take g1.toNat) (n:=l_.getD g1.toNat 0) jT,show (g1+1).toNat=g1.toNat+1 by omega,iC 0 om])
    ·exact ob
  ·refine av ?_;(rw [← bG,List.drop_eq_nil_of_le om]; rfl)
 ·(refine ⟨ob,ob,rfl⟩)
theorem Xw {c_:aI} (h1:c_.aO.length≤2000000) (h2:c_.aM.length≤2000000):W (zw c_) (fun r=>r=iW c_):=by
 unfold zw;refine bV (fun c1=>?_) (fun c1=>?_)
 ·have fU:=c1;have c1:=nr c1;refine bC (by (intro hc; simp only [Bool.and_eq_true,beq_iff_eq] at hc; omega)) ?_;refine bC (by (intro hc; simp only [Bool.and_eq_true,beq_iff_eq] at hc; omega)) ?_;refine av ?_;(unfold iW; rw [fU]; simp only [cond_true]; unfold dJ; rw [Bool.and_assoc])
 ·have fU:=c1;have c1:=nr c1;refine bV (fun c2=>?_) (fun c2=>?_)
  ·have jT:=c2;have c2:=nr c2;refine bV (fun c3=>?_) (fun c3=>?_)
   ·have jI:=c3;have c3:=nr c3;refine aH (gX fun hc=>mG (xG ob)) fun v1 hv1=>?_;subst v1;refine av ?_;(unfold iW; rw [fU,jT,agy]; rfl)
   ·have jI:=c3;have c3:=nr c3;rw [jT] at jI; cases jI
  ·have jT:=c2;have c2:=nr c2;refine bV (fun c4=>?_) (fun c4=>?_)
   ·have rZ:=c4;have c4:=nr c4;refine aH (gX fun hc=>mG (xG ob)) fun v4 hv4=>?_;subst v4;refine av ?_;(unfold iW; rw [fU,jT,rZ,agy]; rfl)
   ·have rZ:=c4;have c4:=nr c4;refine bV (fun c5=>?_) (fun c5=>?_)
    ·have CV:=c5;have c5:=nr c5;refine wn ?_;refine aH (gX fun hc=>mG (xG ob)) fun v5 hv5=>?_;subst v5;refine av ?_;(unfold iW; rw [fU,jT,rZ,CV,agy c_.aM.length]; exact as5)
    ·have CV:=c5;have c5:=nr c5;refine bV (fun c6=>?_) (fun c6=>?_)
     ·have c6o:=c6;have c6:=nr c6;refine bV (fun c7=>?_) (fun c7=>?_)
      ·have WW:=c7;have c7:=nr c7;refine aH (gX fun hc=>mG (aeU ob)) fun v6 hv6=>?_;subst v6;refine av ?_;(unfold iW; rw [fU,jT,rZ,CV,c6o]; rfl)
      ·have WW:=c7;have c7:=nr c7;refine av ?_;(unfold iW; rw [fU,jT,rZ,CV,c6o,show ((c_.aO.length:Int)==1)=false by simpa using WW]; rfl)
     ·have c6o:=c6;have c6:=nr c6;refine av ?_;(unfold iW; rw [fU,jT,rZ,CV,c6o]; rfl)
theorem Xx {l_:(List aI)} (h1:l_.length≤1000) (h2:ahk l_):W (zx l_) (fun r=>r=iK l_):=by
 unfold zx;refine bF (fun (g1:(Int×(List Int)))=>0≤g1.1∧g1.1≤l_.length∧g1.2=iK (l_.take g1.1.toNat)) (fun (g1:(Int×(List Int)))=>(l_.length - g1.1).toNat) ?_ ?_
 ·intro aj g1 dQ bS;obtain ⟨dG,bE,bG⟩:=dQ;unfold Hz;have hfb:=jP (l_.take g1.1.toNat);rw [take_len om,← bG] at hfb;refine wi (fun c1=>?_) (fun c1=>?_)
  ·obtain ⟨hp1,hp2⟩:=h2 g1.1.toNat om;refine wn ?_;refine bF (fun (g6:(Int×Int))=>0≤g6.2∧g6.2≤(l_.getD g1.1.toNat aJ).aO.length∧g6.1=lX g1.2 ((l_.getD g1.1.toNat aJ).aO.take g6.2.toNat)) (fun (g6:(Int×Int))=>((l_.getD g1.1.toNat aJ).aO.length - g6.2).toNat) ?_ ?_
   ·intro jE g6 JO Gi;obtain ⟨FD,rH,Lb⟩:=JO;unfold Hy;have hpm:=JD g1.2 g1.1.toNat om hfb.2 ((l_.getD g1.1.toNat aJ).aO.take g6.2.toNat);rw [← Lb] at hpm;refine wi (fun c2=>?_) (fun c2=>?_)
    ·have hx:=hp2 _ (getD_in (i:=g6.2.toNat) 0 om);refine wm ?_;refine wn ?_;refine Gi _ ?_ ?_
     ·(refine ⟨ob,ob,?_⟩; dsimp only; rw [show (g6.2+1).toNat=g6.2.toNat+1 by omega]; unfold lX; rw [uK _ _ 0 om,Lb]; rfl)
     ·exact ob
    ·have hpe:g6.1=lX g1.2 (l_.getD g1.1.toNat aJ).aO:=(by rw [Lb,show g6.2.toNat=(l_.getD g1.1.toNat aJ).aO.length by omega,List.take_length]);refine bV (fun c3=>?_) (fun c3=>?_)
     ·have jI:=c3;have c3:=nr c3;refine wn ?_;unfold mZ;refine wm ?_;refine bS _ ?_ ?_
      ·(refine ⟨ob,ob,?_⟩; dsimp only; rw [show (g1.1+1).toNat=g1.1.toNat+1 by omega,iC aJ om,Da,← bG]; unfold JC Rk; rw [jI,hpe]; rfl)
      ·exact ob
     ·have jI:=c3;have c3:=nr c3;unfold mZ;refine wm ?_;refine bS _ ?_ ?_
      ·(refine ⟨ob,ob,?_⟩; dsimp only; rw [show (g1.1+1).toNat=g1.1.toNat+1 by omega,iC aJ om,Da,← bG]; unfold JC Rk; rw [jI,hpe]; rfl)
      ·exact ob
   ·(refine ⟨ob,ob,rfl⟩)
  ·refine av ?_;(rw [bG,show g1.1.toNat=l_.length by omega,List.take_length])
 ·(refine ⟨ob,ob,rfl⟩)
theorem zF {l_:(List aI)} (h1:l_.length≤2000000):W (ru l_) (fun r=>r=eF l_):=by
 unfold ru;refine bV (fun c1=>?_) (fun c1=>?_)
 ·have fU:=c1;have c1:=nr c1;refine av ?_;(unfold eF; rw [fU]; rfl)
 ·have fU:=c1;have c1:=nr c1;refine bF (fun (g1:Int)=>0≤g1∧g1≤l_.length∧(∀j:Nat,(j:Int)<g1→Rj (l_.getD j aJ)=false)) (fun (g1:Int)=>(l_.length - g1).toNat) ?_ ?_
  ·intro aj g1 dQ bS;obtain ⟨dG,bE,bG⟩:=dQ;unfold M5;refine wi (fun c2=>?_) (fun c2=>?_)
   ·refine wn ?_;refine bV (fun c3=>?_) (fun c3=>?_)
    ·have jI:=c3;have c3:=nr c3;refine av ?_;(unfold eF; rw [wZ (p:=Rj) aJ (show g1.toNat<l_.length by omega) (show Rj _=true from jI),Bool.or_true]; rfl)
    ·have jI:=c3;have c3:=nr c3;refine wn ?_;refine bS _ ?_ ?_
     ·(refine ⟨ob,ob,dR bG dG jI⟩)
     ·exact ob
   ·have hb4:∀i:Nat,i<l_.length→Rj (l_.getD i aJ)=false:=fun j hj=>bG j om;have hbig:=any_none (p:=Rj) aJ hb4;have hb3:(decide (16<(l_.length:Int))||l_.any Rj)=false:=(by rw [fU,hbig]; rfl);refine bF (fun (g2:(Int×Int))=>0≤g2.2∧g2.2≤l_.length∧g2.1=mg (l_.take g2.2.toNat)∧(∀j:Nat,(j:Int)<g2.2→kW (l_.getD j aJ) j=true)) (fun (g2:(Int×Int))=>(l_.length - g2.2).toNat) ?_ ?_
    ·intro dK g2 lZ oq;obtain ⟨oH,ji,oI,TG⟩:=lZ;unfold KJ;refine wi (fun c4=>?_) (fun c4=>?_)
     ·have hlt:g2.2.toNat<l_.length:=om;have hbl:=NC (hb4 g2.2.toNat hlt);refine wn ?_;refine bF (fun (g5:Int)=>0≤g5∧g5≤(l_.getD g2.2.toNat aJ).aO.length∧(∀j:Nat,(j:Int)<g5→dJ ((l_.getD g2.2.toNat aJ).aO.getD j 0) 0 (g2.2.toNat - 1)=true)) (fun (g5:Int)=>((l_.getD g2.2.toNat aJ).aO.length - g5).toNat) ?_ ?_
      ·intro j5 g5 Tx Rx;obtain ⟨Qy,FE,TA⟩:=Tx;unfold KH;refine wi (fun c5=>?_) (fun c5=>?_)
       ·refine wn ?_;refine wi (fun c6=>?_) (fun c6=>?_)
        ·refine av ?_;(unfold eF; rw [hb3,Rl hlt (Vi (j:=g5.toNat) om (by rw [← Bool.not_eq_true,within_iff]; omega))]; rfl)
        ·refine wn ?_;refine Rx _ ?_ ?_
         ·(refine ⟨ob,ob,dR TA Qy (by rw [within_iff]; omega)⟩)
         ·exact ob
       ·have hvr:=aeo (k:=(g2.2.toNat:Int)) (fun j hj=>TA j om);refine aH (Xw ob ob) fun v3 hv3=>?_;subst v3;refine bV (fun c7=>?_) (fun c7=>?_)
        ·have WW:=c7;have c7:=nr c7;rw [WW] at hvr;refine av ?_;(unfold eF; rw [hb3,Rl hlt hvr]; rfl)
        ·have WW:=c7;have c7:=nr c7;rw [WW] at hvr;have hpm:=akE (l_.take g2.2.toNat) (l_.getD g2.2.toNat aJ).aM.length om;rw [← oI] at hpm;refine wm ?_;refine oq _ ?_ ?_
         ·(refine ⟨ob,ob,?_,dR TG oH hvr⟩; dsimp only; rw [show (g2.2+1).toNat=g2.2.toNat+1 by omega]; unfold mg; rw [uK _ _ aJ hlt]; rw [oI]; rfl)
         ·exact ob
      ·(refine ⟨ob,ob,fun j hj=>by omega⟩)
     ·have hva:∀i:Nat,i<l_.length→kW (l_.getD i aJ) i=true:=fun j hj=>TG j om;have hall:=abw hva;have hfl:=(jP l_).1;rw [show g2.2.toNat=l_.length by omega,List.take_length] at oI;refine bV (fun c8=>?_) (fun c8=>?_)
      ·have c8o:=c8;have c8:=nr c8;refine av ?_;(unfold eF; rw [hb3,hall,← oI,c8o]; rfl)
      ·have c8o:=c8;have c8:=nr c8;refine aH (Xx om (aep hva hb4)) fun v4 hv4=>?_;subst v4;refine bF (fun (g6:Int)=>0≤g6∧g6≤(iK l_).length∧(∀j:Nat,(j:Int)<g6→(fun n=>decide (4<n)) ((iK l_).getD j 0)=false)) (fun (g6:Int)=>((iK l_).length - g6).toNat) ?_ ?_
       ·intro jE g6 JO Gi;obtain ⟨FD,rH,Lb⟩:=JO;unfold KI;refine wi (fun c9=>?_) (fun c9=>?_)
        ·refine wn ?_;refine bV (fun c10=>?_) (fun c10=>?_)
         ·have aiH:=c10;have c10:=nr c10;refine av ?_;(unfold eF; rw [hb3,hall,wZ (p:=fun n=>decide (4<n)) 0 (show g6.toNat<(iK l_).length by omega) aiH,Bool.or_true]; rfl)
         ·have aiH:=c10;have c10:=nr c10;refine wn ?_;refine Gi _ ?_ ?_
          ·(refine ⟨ob,ob,dR Lb FD aiH⟩)
          ·exact ob
        ·refine av ?_;(unfold eF; rw [hb3,hall,← oI,c8o,any_none (p:=fun n=>decide (4<n)) 0 (fun j hj=>Lb j om)]; rfl)
       ·(refine ⟨ob,ob,fun j hj=>by omega⟩)
    ·(refine ⟨ob,ob,rfl,fun j hj=>by dsimp only at hj; omega⟩)
  ·(refine ⟨ob,ob,fun j hj=>by omega⟩)
theorem amP {l:List aI} {m:List bK} (h:((eF l != 0)||decide (32<(m.length:Int)))=true):kY l m=false:=by
 unfold kY;by_cases h1:eF l=0
 ·rw [h1] at h;have:32<(m.length:Int):=by simpa using h
  rw [decide_eq_false (p:=(m.length:Int)≤32) om];simp
 ·have:(eF l==0)=false:=by simpa using h1
  rw [this];rfl
theorem ak4 {l:List aI} {m:List bK} (h:((eF l != 0)||decide (32<(m.length:Int)))=false):kY l m=!(m.any (Lv l.length)):=by
 have h1:eF l=0∧(m.length:Int)≤32:=by
  simp at h;omega
 unfold kY;rw [h1.1,decide_eq_true h1.2];rfl
theorem aeV (n:Int) (x:bK):(((((decide (x.eU<(0:Int)))||(decide (n≤x.eU)))||(decide (x.Low<(0:Int))))||(decide (x.fK<x.Low)))||(decide ((4000000000:Int)<x.fK)))=Lv n x:=by
 unfold Lv dJ;rw [Bool.eq_iff_iff];simp;omega
theorem NU {l_:(List aI)} {m_:(List bK)} (h1:l_.length≤2000000) (h2:m_.length≤2000000):W (wQ l_ m_) (fun r=>r=kY l_ m_):=by
 unfold wQ;refine aH (zF ob) fun v1 hv1=>?_;subst v1;refine bV (fun c1=>?_) (fun c1=>?_)
 ·have fU:=c1;have c1:=nr c1;refine av ?_;(exact (amP fU).symm)
 ·have fU:=c1;have c1:=nr c1;have hdf:=ak4 fU;refine bF (fun (g1:Int)=>0≤g1∧g1≤m_.length∧(m_.drop g1.toNat).any (Lv l_.length)=m_.any (Lv l_.length)) (fun (g1:Int)=>(m_.length - g1).toNat) ?_ ?_
  ·intro aj g1 dQ bS;obtain ⟨dG,bE,bG⟩:=dQ;unfold KN;refine wi (fun c2=>?_) (fun c2=>?_)
   ·have hlt:g1.toNat<m_.length:=om;rw [drop_cons dn hlt,List.any_cons] at bG;refine wn ?_;refine bV (fun c3=>?_) (fun c3=>?_)
    ·have jI:=c3;have c3:=nr c3;rw [aeV] at jI;refine av ?_;(rw [hdf,← bG,jI]; rfl)
    ·have jI:=c3;have c3:=nr c3;rw [aeV] at jI;refine wn ?_;refine bS _ ?_ ?_
     ·(refine ⟨ob,ob,?_⟩; rw [← bG,jI,show (g1+1).toNat=g1.toNat+1 by omega]; rfl)
     ·exact ob
   ·refine av ?_;(rw [hdf,← bG,show g1.toNat=m_.length by omega,List.drop_length]; rfl)
  ·(refine ⟨ob,ob,rfl⟩)
theorem aaR {l_:(List aI)} {m_:(List bK)} (h1:l_.length≤2000000) (h2:m_.length≤2000000):W (Fh l_ m_) (fun r=>r=(bif eF l_ != 0 then eF l_ else bif !kY l_ m_ then 1 else 0)):=by
 unfold Fh;refine aH (zF ob) fun v1 hv1=>?_;subst v1;refine bV (fun c1=>?_) (fun c1=>?_)
 ·have fU:=c1;have c1:=nr c1;refine av ?_;(rw [fU]; rfl)
 ·have fU:=c1;have c1:=nr c1;refine aH (NU ob ob) fun v2 hv2=>?_;subst v2;refine bV (fun c2=>?_) (fun c2=>?_)
  ·have jT:=c2;have c2:=nr c2;refine av ?_;(rw [fU,jT]; rfl)
  ·have jT:=c2;have c2:=nr c2;refine av ?_;(rw [fU,jT]; rfl)
theorem ZF {c_:aI} {uo:Int} (h1:Zr c_ uo):W (Cy c_ uo) (fun r=>r=jZ c_ uo):=by
 have hp:=h1; unfold Zr at hp;unfold Cy;refine bV (fun c1=>?_) (fun c1=>?_)
 ·have fU:=c1;have c1:=nr c1;refine av ?_;(unfold jZ; rw [fU]; rfl)
 ·have fU:=c1;have c1:=nr c1;refine bV (fun c2=>?_) (fun c2=>?_)
  ·have jT:=c2;have c2:=nr c2;refine wm ?_;refine av ?_;(unfold jZ; rw [fU,jT]; rfl)
  ·have jT:=c2;have c2:=nr c2;refine wn ?_;refine av ?_;(unfold jZ; rw [fU,jT]; rfl)
theorem Bh {a_:Int} {b_:Int} (h1:0≤a_) (h2:0≤b_):W (ql a_ b_) (fun r=>r=jv a_ b_):=by
 unfold ql;refine bF (fun (g1:(Int×Int))=>0≤g1.1∧0≤g1.2∧jv g1.1 g1.2=jv a_ b_) (fun (g1:(Int×Int))=>g1.2.toNat) ?_ ?_
 ·intro aj g1 dQ bS;obtain ⟨dG,bE,bG⟩:=dQ;unfold HZ;refine wi (fun c1=>?_) (fun c1=>?_)
  ·refine wn ?_;refine bS _ ?_ ?_
   ·(refine ⟨ob,Int.tmod_nonneg _ om,?_⟩; dsimp only; rw [← bG]; exact aey om om)
   ·(dsimp only; have:=Tc g1.1 g1.2 om; have:=Int.tmod_nonneg (a:=g1.1) g1.2 om; omega)
  ·refine av ?_;(rw [← bG]; unfold jv; have e:g1.2=0:=c1; rw [e]; simp; omega)
 ·exact ob
theorem zG {r_:bI}:W (rA r_) (fun r=>r=pz r_):=by
 unfold rA;refine aH (gX fun hc=>mG (Bh (by have hc:=nr hc; omega) (by have hc:=nr hc; omega))) fun v1 hv1=>?_;subst v1;refine av ?_;rfl
theorem NV {k_:Int}:W (wR k_) (fun r=>r=wY k_):=by
 unfold wR;refine av ?_;rfl
theorem WX {wE:Int} {wF:Int} (h1:wE≤4611686018427387904) (h2:wF≤4611686018427387904):W (H6 wE wF) (fun r=>r=newR wE wF):=by
 unfold H6;refine bV (fun c1=>?_) (fun c1=>?_)
 ·have fU:=c1;have c1:=nr c1;refine av ?_;(unfold newR; rw [fU]; rfl)
 ·have fU:=c1;have c1:=nr c1;have hg:=Ai wE wF om; have q1:=tdiv_le wE _ om hg; have q2:=tdiv_le wF _ om hg;refine aH (Bh ob ob) fun v1 hv1=>?_;subst v1;refine wm ?_;refine aH (zG) fun v2 hv2=>?_;subst v2;refine bV (fun c2=>?_) (fun c2=>?_)
  ·have jT:=c2;have c2:=nr c2;refine av ?_;(unfold newR; rw [fU]; simp only [cond_false]; rw [jT]; rfl)
  ·have jT:=c2;have c2:=nr c2;refine av ?_;(unfold newR; rw [fU]; simp only [cond_false]; rw [jT]; rfl)
theorem acY {r_:bI} {k_:Int}:W (Ju r_ k_) (fun r=>r=Aj r_ k_):=by
 unfold Ju;refine aH (zG) fun v1 hv1=>?_;subst v1;refine bV (fun c1=>?_) (fun c1=>?_)
 ·have fU:=c1;have c1:=nr c1;refine av ?_;(unfold Aj; rw [fU]; rfl)
 ·have fU:=c1;have c1:=nr c1;have hv:=l9 (r:=r_) (by simpa using fU);refine aH (NV) fun v2 hv2=>?_;subst v2;refine bV (fun c2=>?_) (fun c2=>?_)
  ·have jT:=c2;have c2:=nr c2;refine av ?_;(unfold Aj; rw [fU,jT]; rfl)
  ·have jT:=c2;have c2:=nr c2;have hk:1≤k_∧k_≤64:=(by simp [wY] at jT; omega);have q3:=Vl (show 0≤k_ by omega) hk.2 (show 0≤r_.jq by omega) hv.2.2.2.1;refine wn ?_;refine aH (WX ob ob) fun v3 hv3=>?_;subst v3;refine av ?_;(unfold Aj; rw [fU,jT]; rfl)
theorem aaS {r_:bI} {k_:Int}:W (Fj r_ k_) (fun r=>r=qw r_ k_):=by
 unfold Fj;refine aH (zG) fun v1 hv1=>?_;subst v1;refine bV (fun c1=>?_) (fun c1=>?_)
 ·have fU:=c1;have c1:=nr c1;refine av ?_;(unfold qw; rw [fU]; rfl)
 ·have fU:=c1;have c1:=nr c1;have hv:=l9 (r:=r_) (by simpa using fU);refine aH (NV) fun v2 hv2=>?_;subst v2;refine bV (fun c2=>?_) (fun c2=>?_)
  ·have jT:=c2;have c2:=nr c2;refine av ?_;(unfold qw; rw [fU,jT]; rfl)
  ·have jT:=c2;have c2:=nr c2;have hk:1≤k_∧k_≤64:=(by simp [wY] at jT; omega);have hg:=Ai k_ r_.jq om;have q1:=tdiv_le k_ _ om hg;have q2:=tdiv_le r_.jq _ om hg;have q4:=aoU k_ r_.jq hk om;have q5:=tdiv_le 144115188075855872 _ om (show 0<k_.tdiv (jv k_ r_.jq) by omega);refine aH (Bh ob ob) fun v3 hv3=>?_;subst v3;refine wm ?_;refine bV (fun c3=>?_) (fun c3=>?_)
   ·have jI:=c3;have c3:=nr c3;refine av ?_;(unfold qw; rw [fU,jT,jI]; rfl)
   ·have jI:=c3;have c3:=nr c3;have q3:=ail r_.jW (k_.tdiv (jv k_ r_.jq)) hv.1 q4.1 om;refine wm ?_;refine wn ?_;refine aH (WX ob ob) fun v4 hv4=>?_;subst v4;refine av ?_;(unfold qw; rw [fU,jT,jI]; rfl)
theorem jD {l_:(List aI)} {s_:(List Int)} {g1:(Int×(List bI)×(List Bool))} {aj:(Int×(List bI)×(List Bool))→M ((List bI)×(List Bool))} {g7:(Bool×Int×Int)} {Q:((List bI)×(List Bool))→Prop} (bS:∀s':(Int×(List bI)×(List Bool)),(0≤s'.1∧s'.1≤l_.length∧s'.2.1=(Vk l_ s_ s'.1.toNat).1∧s'.2.2=(Vk l_ s_ s'.1.toNat).2)→(l_.length - s'.1).toNat<(l_.length - g1.1).toNat→W (aj s') Q) (hc:0≤g1.1∧g1.1<l_.length∧l_.length≤1000∧g1.2.1=(Vk l_ s_ g1.1.toNat).1∧g1.2.2=(Vk l_ s_ g1.1.toNat).2∧((⟨g7.2.1,g7.2.2⟩:bI),g7.1)=(st1 (Vk l_ s_ g1.1.toNat).1 (Vk l_ s_ g1.1.toNat).2 (l_.getD g1.1.toNat aJ) (s_.getD g1.1.toNat 0))):W (jl g1 aj g7) Q:=by
 obtain ⟨ak5,ak6,TH,Pz,Vx,acZ⟩:=hc;unfold jl;refine bC (by (rw [Pz,(O7 l_ s_ g1.1.toNat).1]; unfold big; omega)) ?_;refine bC (by (rw [Vx,(O7 l_ s_ g1.1.toNat).2]; unfold big; omega)) ?_;refine wn ?_;refine bS _ ?_ ?_
 ·(refine ⟨ob,ob,?_,?_⟩; (dsimp only; rw [show (g1.1+1).toNat=g1.1.toNat+1 by omega,Vk,← acZ,← Pz]); (dsimp only; rw [show (g1.1+1).toNat=g1.1.toNat+1 by omega,Vk,← acZ,← Vx]))
 ·exact ob
theorem NW {l_:(List aI)} {s_:(List Int)} (h1:Good l_ s_) (h2:Up l_ s_):W (wS l_ s_) (fun r=>r=Qu l_ s_):=by
 obtain ⟨q1,q2,q3,q4,q5⟩:=h1;unfold wS;refine bF (fun (g1:(Int×(List bI)×(List Bool)))=>0≤g1.1∧g1.1≤l_.length∧g1.2.1=(Vk l_ s_ g1.1.toNat).1∧g1.2.2=(Vk l_ s_ g1.1.toNat).2) (fun (g1:(Int×(List bI)×(List Bool)))=>(l_.length - g1.1).toNat) ?_ ?_
 ·intro aj g1 dQ bS;obtain ⟨dG,bE,bG,kC⟩:=dQ;unfold KO;have hst:=O7 l_ s_ g1.1.toNat;refine wi (fun c1=>?_) (fun c1=>?_)
  ·have hch:=q3 g1.1.toNat om;have hpar:=q5 g1.1.toNat om;have hpc:=q4 g1.1.toNat om;have hui:=h2 g1.1.toNat om;refine wm ?_;refine aH (ZF ob) fun v18 as1=>?_;subst v18;refine wi (fun c2=>?_) (fun c2=>?_)
   ·refine wm ?_;unfold nW;refine wm ?_;refine bV (fun c3=>?_) (fun c3=>?_)
    ·have jI:=c3;have c3:=nr c3;exact jD (l_:=l_) (s_:=s_) (fun a b c=>bS a b c) (by (exfalso; have:=(show jZ (l_.getD g1.1.toNat aJ) (s_.getD g1.1.toNat 0) = -1 by unfold jZ; rw [jI]; rfl); omega))
    ·have jI:=c3;have c3:=nr c3;refine bV (fun c4=>?_) (fun c4=>?_)
     ·have rZ:=c4;have c4:=nr c4;refine aH (acY) fun v16 agf=>?_;subst v16;exact jD (l_:=l_) (s_:=s_) (fun a b c=>bS a b c) (by (refine ⟨ob,ob,ob,bG,kC,?_⟩; dsimp only; unfold st1; rw [jI,rZ,← bG,← kC]; rfl))
     ·have rZ:=c4;have c4:=nr c4;refine bV (fun c5=>?_) (fun c5=>?_)
      ·have CV:=c5;have c5:=nr c5;refine aH (aaS) fun v17 av2=>?_;subst v17;exact jD (l_:=l_) (s_:=s_) (fun a b c=>bS a b c) (by (refine ⟨ob,ob,ob,bG,kC,?_⟩; dsimp only; unfold st1; rw [jI,rZ,CV,← bG,← kC]; rfl))
      ·have CV:=c5;have c5:=nr c5;refine bV (fun c6=>?_) (fun c6=>?_)
       ·have c6o:=c6;have c6:=nr c6;refine bV (fun c7=>?_) (fun c7=>?_)
        ·have WW:=c7;have c7:=nr c7;exact jD (l_:=l_) (s_:=s_) (fun a b c=>bS a b c) (by (refine ⟨ob,ob,ob,bG,kC,?_⟩; dsimp only; unfold st1; rw [jI,rZ,CV,c6o,WW,← bG,← kC]; rfl))
        ·have WW:=c7;have c7:=nr c7;exact jD (l_:=l_) (s_:=s_) (fun a b c=>bS a b c) (by (refine ⟨ob,ob,ob,bG,kC,?_⟩; dsimp only; unfold st1; rw [jI,rZ,CV,c6o,WW,← bG,← kC]; rfl))
       ·have c6o:=c6;have c6:=nr c6;exact jD (l_:=l_) (s_:=s_) (fun a b c=>bS a b c) (by (refine ⟨ob,ob,ob,bG,kC,?_⟩; dsimp only; unfold st1; rw [jI,rZ,CV,c6o,← bG,← kC]; rfl))
   ·unfold nW;refine wm ?_;refine bV (fun c8=>?_) (fun c8=>?_)
    ·have c8o:=c8;have c8:=nr c8;exact jD (l_:=l_) (s_:=s_) (fun a b c=>bS a b c) (by (refine ⟨ob,ob,ob,bG,kC,?_⟩; dsimp only; unfold st1; rw [c8o]; rfl))
    ·have c8o:=c8;have c8:=nr c8;exfalso; have:=hui (by simpa using c8o); omega
  ·refine av ?_;(unfold Qu; rw [bG,kC,show g1.1.toNat=l_.length by omega])
 ·(refine ⟨ob,ob,rfl,rfl⟩)
end Go.Proofs.YtccjmcmolnbiiaaGreatDoor

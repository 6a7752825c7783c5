/- An abstract machine over the model's code, that it is sound; models of the functions and their proofs. -/
import Derived.Test.YtccjmcmolnbiiaaGreatDoorA4
import Derived.Test.YtccjmcmolnbiiaaGreatDoorA5
set_option linter.unusedVariables false
set_option linter.unusedSimpArgs false
namespace Go.Proofs.YtccjmcmolnbiiaaGreatDoor.Sp
open Go.Ab
set_option maxRecDepth 100000
deriving instance DecidableEq for aD,bq,dh
structure Chn where
 over:Bool
 atL:List Int
 first:Int
 last:Int
deriving DecidableEq
structure Dem where
 xR:Int
 draw:Int
 child:Int
deriving DecidableEq
def Ou:Dem:=⟨0,0,0⟩
def dK (n lo hi:Int):Bool:=decide (lo≤n)&&decide (n≤hi)
def Ud (s:aD):Bool:=decide (16<(s.bJ.length:Int))
def XA (s:aD) (k:Int):Bool:=((((!dK s.aN (-1) (k - 1))||((s.bJ.length:Int)==0))||!dK s.gB 0 5000)||(decide (s.aN<0)&&(s.gB != 0)))||!dK s.gZ 0 10000
def Ov:Int→List Int→Bool
 | _,[]=>true
 | p,v::t=>!(!dK v 1 5000||decide (v≤p))&&Ov v t
def zk (s:aD) (k:Int):Bool:=!XA s k&&Ov 0 s.bJ
variable {i:Nat}
theorem ae5 {lev:List Int} (hi:i<lev.length) {c:Bool} (hc:c=(!dK (lev.getD i 0) 1 5000||(decide (0<(i:Int))&&decide (lev.getD i 0≤lev.getD (i - 1) 0)))):
  Ov (if i=0 then 0 else lev.getD (i - 1) 0) (lev.drop i)=(!c&&Ov (lev.getD i 0) (lev.drop (i+1))):=by
 rw [drop_cons 0 hi,Ov,hc];congr 2;cases h:dK (lev.getD i 0) 1 5000 with
 | false=>rfl
 | true=>
  have h1:1≤lev.getD i 0:=by unfold dK at h; simp at h; simpa using h.1
  by_cases h0:i=0
  ·subst h0;simp;have h1:1≤lev.getD 0 0:=h1;have:¬ lev.getD 0 0≤0:=by omega
   simpa using this
  ·have:decide (0<(i:Int))=true:=by simp; omega
   rw [this,if_neg h0];simp
def aal (n:Int) (x:bq):Bool:=((!dK x.bN 0 (n - 1)||!dK x.fO 0 5000)||!dK x.Low 0 x.fO)||!dK x.Load 0 10000
def VX:Nat→List aD→Bool
 | _,[]=>true
 | i,s::t=>zk s i&&VX (i+1) t
def eD (l:List aD):Int:=bif decide (16<(l.length:Int))||l.any Ud then 3 else bif VX 0 l then 0 else 1
variable {α:Type}
theorem nL (d:α) {p:α→Bool} {l:List α} (h:l.any p=false) (i:Nat) (hi:i<l.length):p (l.getD i d)=false:=by
 have:=je d hi;rw [List.any_eq_false] at h;simpa using h _ this
theorem ahA (n:Nat):decide ((n:Int)<1)=((n:Int)==0):=by
 by_cases h:n=0
 ·subst h; rfl
 ·rw [decide_eq_false om];symm;simpa using h
def jq (l:List aD) (d:List bq):Bool:=((eD l==0)&&decide ((d.length:Int)≤32))&&!(d.any (aal l.length))
theorem ae6 (n:Int) (x:bq):(((!dK x.bN 0 (n - 1)||!dK x.Low 0 x.fO)||decide (5000<x.fO))||!dK x.Load 0 10000)=aal n x:=by
 unfold aal;cases dK x.bN 0 (n - 1) with
 | false=>rfl
 | true=>
  cases dK x.Load 0 10000 with
  | false=>simp
  | true=>
   simp only [Bool.not_true,Bool.false_or,Bool.or_false];unfold dK;by_cases h1:0≤x.Low<;>by_cases h2:x.Low≤x.fO<;>by_cases h3:5000<x.fO<;>by_cases h4:0≤x.fO<;>by_cases h5:x.fO≤5000<;>simp [h1,h2,h3,h4,h5]<;>omega
def rlN:List aD→List Int→Bool
 | s::l,k::t=>dK k 0 (s.bJ.length - 1)&&rlN l t
 | _,_=>true
def vJ (l:List aD) (r:dh):Bool:=bif ((eD l != 0)||((r.On.length:Int) != l.length))||((r.dQ.length:Int) != l.length) then false else rlN l r.dQ
variable {l:List aD}
theorem JO (h:eD l=0):l.length≤16∧(∀i,i<l.length→(l.getD i au).bJ.length≤16)∧VX 0 l=true:=by
 unfold eD at h;cases h1:(decide (16<(l.length:Int))||l.any Ud) with
 | true=>rw [h1] at h; cases h
 | false=>
  rw [h1] at h;have h2:VX 0 l=true:=by
   cases hv:VX 0 l with
   | true=>rfl
   | false=>rw [hv] at h; cases h
  simp only [Bool.or_eq_false_iff] at h1;refine ⟨by have:=of_decide_eq_false h1.1; omega,λ i hi=>?_,h2⟩;have:=nL au h1.2 i hi;unfold Ud at this;have:=of_decide_eq_false this;omega
def pK (l:List aD) (d:List bq):Int:=bif eD l != 0 then eD l else bif !jq l d then 1 else 0
theorem gq (d:α) (l:List α) (i:Nat) (v:α) (k:Nat):(l.set i v).getD k d=if k=i∧i<l.length then v else l.getD k d:=by
 rw [List.getD_eq_getElem?_getD,List.getD_eq_getElem?_getD,List.getElem?_set];by_cases h:i=k
 ·subst h;by_cases h2:i<l.length
  ·simp [h2]
  ·simp [h2]
 ·have:¬ (k=i∧i<l.length):=λ h'=>h h'.1.symm;simp [h,this]
def Ue {α:Type} (f:Nat→α→α):Nat→α→α
 | 0,a=>a
 | k+1,a=>Ue f k (f k a)
def qw (n:Nat) (d:List bq):List Bool:=d.foldl (λ a x=>a.set x.bN.toNat true) (List.replicate n false)
def iA (l:List aD) (i:Nat) (a:List Bool):List Bool:=
 bif (a.getD i false||(l.getD i au).fK)&&decide (0≤(l.getD i au).aN) then (a.set i (a.getD i false||(l.getD i au).fK)).set (l.getD i au).aN.toNat true else a.set i (a.getD i false||(l.getD i au).fK)
def fG (l:List aD) (d:List bq):List Bool:=Ue (iA l) l.length (qw l.length d)
structure Ow (l:List aD) (d:List bq):Prop where
 len:l.length≤16
 arP:d.length≤32
 bN:∀i,i<l.length → -1≤(l.getD i au).aN∧(l.getD i au).aN<i∧1≤(l.getD i au).bJ.length∧(l.getD i au).bJ.length≤16∧0≤(l.getD i au).gB∧(l.getD i au).gB≤5000∧0≤(l.getD i au).gZ∧(l.getD i au).gZ≤10000
 bJ:∀i,i<l.length→Ov 0 (l.getD i au).bJ=true
 drw:∀x∈d,0≤x.bN∧x.bN<l.length∧0≤x.Low∧x.Low≤x.fO∧x.fO≤5000∧0≤x.Load∧x.Load≤10000
theorem AA {n lo hi:Int}:dK n lo hi=true↔lo≤n∧n≤hi:=by
 unfold dK;simp
variable {k:Nat}
theorem ae7 (h:VX k l=true):∀i,i<l.length→zk (l.getD i au) ((k+i:Nat):Int)=true:=by
 induction l generalizing k with
 | nil=>intro i hi; simp at hi
 | cons s t ih=>
  rw [VX,Bool.and_eq_true] at h;intro i hi;cases i with
  | zero=>exact h.1
  | succ i=>
   have:=ih h.2 i (by simpa using hi);rw [show k+(i+1)=k+1+i by omega];exact this
theorem ae8 {s:aD} {k:Int} (h:zk s k=true) : -1≤s.aN∧s.aN<k∧1≤s.bJ.length∧0≤s.gB∧s.gB≤5000∧0≤s.gZ∧s.gZ≤10000∧Ov 0 s.bJ=true∧(s.aN<0→s.gB=0):=by
 unfold zk XA at h;simp only [Bool.and_eq_true,Bool.not_eq_true',Bool.or_eq_false_iff,Bool.not_eq_false',AA] at h;obtain ⟨⟨⟨⟨⟨h1,h2⟩,h3⟩,h4⟩,h5⟩,h6⟩:=h;have h2':¬ (s.bJ.length:Int)=0:=by simpa using h2
 refine ⟨h1.1,om,om,h3.1,h3.2,h5.1,h5.2,h6,λ hp=>?_⟩;rw [decide_eq_true hp] at h4;simpa using h4
variable {d:List bq}
theorem Ed (h:jq l d=true):Ow l d:=by
 unfold jq at h;simp only [Bool.and_eq_true,Bool.not_eq_true'] at h;obtain ⟨⟨h1,h2⟩,h3⟩:=h;have h1:eD l=0:=by simpa using h1
 obtain ⟨c1,c2,c3⟩:=JO h1;refine ⟨c1,by have:=of_decide_eq_true h2; omega,λ i hi=>?_,λ i hi=>?_,λ x hx=>?_⟩
 ·have:=ae8 (ae7 c3 i hi);have:=c2 i hi;omega
 ·exact (ae8 (ae7 c3 i hi)).2.2.2.2.2.2.2.1
 ·have:=(List.any_eq_false.1 h3) x hx;unfold aal at this;simp only [Bool.not_eq_true,Bool.or_eq_false_iff,Bool.not_eq_false',AA] at this;omega
theorem acd {β:Type} (f:List α→β→List α) (hf:∀a x,(f a x).length=a.length) (d:List β) (a:List α):(d.foldl f a).length=a.length:=by
 induction d generalizing a with
 | nil=>rfl
 | cons x d ih=>rw [List.foldl_cons,ih,hf]
theorem sU (n:Nat) (d:List bq):(qw n d).length=n:=by
 unfold qw;rw [acd _ (λ a x=>List.length_set ..),List.length_replicate]
theorem nE (l:List aD) (i:Nat) (a:List Bool):(iA l i a).length=a.length:=by
 unfold iA;cases (a.getD i false||(l.getD i au).fK)&&decide (0≤(l.getD i au).aN)<;>simp
theorem ace {f:Nat→List α→List α} (hf:∀i a,(f i a).length=a.length) (k:Nat) (a:List α):(Ue f k a).length=a.length:=by
 induction k generalizing a with
 | zero=>rfl
 | succ k ih=>rw [Ue,ih,hf]
theorem sV (l:List aD) (d:List bq):(fG l d).length=l.length:=by
 unfold fG;rw [ace (nE l),sU]
def P5 {α:Type} (f:Nat→α→α) (n:Nat):Nat→α→α
 | 0,a=>a
 | k+1,a=>f (n - 1 - k) (P5 f n k a)
theorem aiC (f:Nat→α→α) (n k:Nat) (hk:k≤n) (a:α):Ue f n a=Ue f (n - k) (P5 f n k a):=by
 induction k with
 | zero=>rfl
 | succ k ih=>
  rw [ih om,show n - k=n - (k+1)+1 by omega,Ue,P5,show n - 1 - k=n - (k+1) by omega]
theorem Uf (f:Nat→α→α) (n:Nat) (a:α):P5 f n n a=Ue f n a:=by
 rw [aiC f n n (Nat.le_refl _),Nat.sub_self];rfl
theorem Da {f:Nat→List α→List α} (hf:∀i a,(f i a).length=a.length) (n k:Nat) (a:List α):(P5 f n k a).length=a.length:=by
 induction k with
 | zero=>rfl
 | succ k ih=>rw [P5,hf,ih]
theorem mF (n k:Nat) (v:α):(List.replicate n v).getD k v=v:=by
 rw [List.getD_eq_getElem?_getD,List.getElem?_replicate];split<;>rfl
def zl (n:Nat) (d:List bq):List Int:=d.foldl (λ a x=>a.set x.bN.toNat (a.getD x.bN.toNat 0+x.Load)) (List.replicate n 0)
def jl (l:List aD) (i:Nat) (a:List Int):List Int:=
 bif decide (0≤(l.getD i au).aN) then a.set (l.getD i au).aN.toNat (a.getD (l.getD i au).aN.toNat 0+a.getD i 0) else a
def pO (l:List aD) (d:List bq):List Int:=Ue (jl l) l.length (zl l.length d)
theorem Iz (n:Nat) (d:List bq):(zl n d).length=n:=by
 unfold zl;rw [acd _ (λ a x=>List.length_set ..),List.length_replicate]
theorem JQ (l:List aD) (i:Nat) (a:List Int):(jl l i a).length=a.length:=by
 unfold jl;cases decide (0≤(l.getD i au).aN)<;>simp
theorem Sm (l:List aD) (d:List bq):(pO l d).length=l.length:=by
 unfold pO;rw [ace (JQ l),Iz]
def Bnd (a:List Int) (M:Int):Prop:=∀j,0≤a.getD j 0∧a.getD j 0≤M
theorem Bnd.set {a:List Int} {M N:Int} (h:Bnd a M) (hM:M≤N) (i:Nat) (v:Int) (hv:0≤v∧v≤N):Bnd (a.set i v) N:=λ j=>by
 rw [gq];have:=h j;split
 ·exact hv
 ·omega
theorem ae9 (n:Nat) (d:List bq) (hd:∀x∈d,0≤x.Load∧x.Load≤10000) (i:Nat) (hi:i≤d.length):Bnd (zl n (d.take i)) (10000*i):=by
 induction i with
 | zero=>intro j; rw [List.take_zero]; have:(zl n []).getD j 0=0:=mF n j 0; omega
 | succ i ih=>
  have hsn:zl n (d.take (i+1))=(zl n (d.take i)).set (d.getD i dG).bN.toNat ((zl n (d.take i)).getD (d.getD i dG).bN.toNat 0+(d.getD i dG).Load):=vo _ _ dG hi;rw [hsn];have h1:=ih om;have h2:=hd _ (je dG hi);have h3:=h1 (d.getD i dG).bN.toNat;exact h1.set om _ _ om
theorem agG (l:List aD) (a:List Int) (M:Int) (h:Bnd a M) (k:Nat):Bnd (P5 (jl l) l.length k a) (M*2 ^ k):=by
 induction k with
 | zero=>show Bnd a (M*2 ^ 0); rw [Int.pow_zero,Int.mul_one]; exact h
 | succ k ih=>
  rw [P5];have e:M*2 ^ (k+1)=M*2 ^ k+M*2 ^ k:=by rw [Int.pow_succ,← Int.mul_assoc]; omega
  rw [e];generalize P5 (jl l) l.length k a=A at ih;generalize M*2 ^ k=X at ih;have hp:0≤X:=by have:=ih 0; omega
  unfold jl;cases decide (0≤(l.getD (l.length - 1 - k) au).aN) with
  | true=>
   have h1:=ih (l.getD (l.length - 1 - k) au).aN.toNat;have h2:=ih (l.length - 1 - k);exact ih.set om _ _ om
  | false=>
   intro j;have:=ih j;simp only [cond_false];omega
theorem Ug (hv:Ow l d) (k:Nat) (hk:k≤l.length):Bnd (P5 (jl l) l.length k (zl l.length d)) 100000000000:=by
 have h1:=ae9 l.length d (λ x hx=>by have:=hv.drw x hx; omega) d.length (Nat.le_refl _);rw [List.take_length] at h1;have h2:=agG l _ _ h1 k;have hvl:=hv.len;have hvd:=hv.arP;have h3:(2:Int) ^ k≤2 ^ 16:=by exact_mod_cast Nat.pow_le_pow_right (n:=2) (by decide) (show k≤16 by omega)
 have h4:10000*(d.length:Int)*2 ^ k≤320000*2 ^ 16:=Int.mul_le_mul om h3 (Int.pow_nonneg (by decide)) (by decide);intro j;have:=h2 j;omega
theorem afa (h:pK l d=0):jq l d=true:=by
 unfold pK at h;cases hc:eD l != 0 with
 | true=>rw [hc] at h; have:eD l=0:=h; rw [this] at hc; cases hc
 | false=>
  rw [hc] at h;cases hd:jq l d with
  | true=>rfl
  | false=>rw [hd] at h; cases h
def mP (l:List aD) (r:dh) (k:Nat):Int:=(l.getD k au).bJ.getD (r.dQ.getD k 0).toNat 0
def Ox (l:List aD) (r:dh) (u:List Bool) (ld:List Int) (i:Nat):Bool:=
 bif !r.On.getD i false then u.getD i false
 else (decide (0≤(l.getD i au).aN)&&(!r.On.getD (l.getD i au).aN.toNat false||decide (mP l r (l.getD i au).aN.toNat<mP l r i+(l.getD i au).gB)))||decide ((l.getD i au).gZ<ld.getD i 0)
def aam (l:List aD) (r:dh) (x:bq):Bool:=!dK (mP l r x.bN.toNat) x.Low x.fO
def xS (l:List aD) (r:dh) (d:List bq):Bool:=(List.range l.length).all (λ i=>!Ox l r (fG l d) (pO l d) i)&&!(d.any (aam l r))
def fC (l:List aD) (r:dh) (d:List bq):Bool:=bif !vJ l r||!jq l d then false else xS l r d
structure Rok (l:List aD) (r:dh):Prop where
 On:r.On.length=l.length
 len:r.dQ.length=l.length
 bJ:∀i,i<l.length→0≤r.dQ.getD i 0∧(r.dQ.getD i 0).toNat<(l.getD i au).bJ.length∧r.dQ.getD i 0<(l.getD i au).bJ.length
theorem amC {r:List Int} (h:r.length=l.length):rlN l r=true↔∀i,i<l.length→0≤r.getD i 0∧r.getD i 0<(l.getD i au).bJ.length:=by
 induction l generalizing r with
 | nil=>simp [rlN]
 | cons s l ih=>
  cases r with
  | nil=>simp at h
  | cons k r=>
   rw [rlN,Bool.and_eq_true,AA,ih (by simpa using h)];constructor
   ·rintro ⟨h1,h2⟩ i hi;cases i with
    | zero=>show 0≤k∧k<s.bJ.length; omega
    | succ i=>exact h2 i (by simpa using hi)
   ·intro h2;refine ⟨?_,λ i hi=>h2 (i+1) (by simpa using hi)⟩;have:0≤k∧k<s.bJ.length:=h2 0 (by simp);omega
variable {r:dh}
theorem Dn:vJ l r=true↔eD l=0∧Rok l r:=by
 unfold vJ;cases h:((eD l != 0)||((r.On.length:Int) != l.length))||((r.dQ.length:Int) != l.length) with
 | true=>
  simp only [cond_true];constructor
  ·intro h; cases h
  ·rintro ⟨h1,h2⟩;rw [h1,h2.On,h2.len] at h;simp at h
 | false=>
  simp only [cond_false];have h':eD l=0∧r.On.length=l.length∧r.dQ.length=l.length:=by
   simp at h;omega
  rw [amC h'.2.2];constructor
  ·intro h1;exact ⟨h'.1,h'.2.1,h'.2.2,λ i hi=>by have:=h1 i hi; omega⟩
  ·intro h1 i hi;have:=h1.2.bJ i hi;omega
variable {v:List Int}
theorem ado {p:Int} (h:Ov p v=true):∀j,j<v.length→p<v.getD j 0∧1≤v.getD j 0∧v.getD j 0≤5000:=by
 induction v generalizing p with
 | nil=>intro j hj; simp at hj
 | cons a v ih=>
  rw [Ov,Bool.and_eq_true,Bool.not_eq_true',Bool.or_eq_false_iff,Bool.not_eq_false',AA] at h;have h1:=of_decide_eq_false h.1.2;intro j hj;cases j with
  | zero=>show p<a∧1≤a∧a≤5000; omega
  | succ j=>
   have:=ih h.2 j (by simpa using hj);show p<v.getD j 0∧1≤v.getD j 0∧v.getD j 0≤5000;omega
theorem Bj {n:Nat} {p:Nat→Bool} (hi:i<n) (h:p i=false):(List.range n).all p=false:=by
 rw [List.all_eq_false];exact ⟨i,by simpa using hi,by simp [h]⟩
theorem Oy {n:Nat} {p:Nat→Bool} (h:∀i,i<n→p i=true):(List.range n).all p=true:=by
 rw [List.all_eq_true];intro i hi;exact h i (by simpa using hi)
theorem Uh (hv:Ow l d) (hr:Rok l r) (i:Nat) (hi:i<l.length):1≤mP l r i∧mP l r i≤5000:=by
 have:=ado (hv.bJ i hi) _ (hr.bJ i hi).2.1;unfold mP;omega
theorem xP (d:α) {a b:List α} (h1:a.length=b.length) (h2:∀j,j<a.length→a.getD j d=b.getD j d):a=b:=by
 apply List.ext_getElem h1;intro j hj hj';have:=h2 j hj;rw [List.getD_eq_getElem?_getD,List.getD_eq_getElem?_getD,List.getElem?_eq_getElem hj,List.getElem?_eq_getElem hj'] at this;exact this
def P6 (d:List bq) (i:Nat):Bool:=d.any (λ x=>x.bN==(i:Int))
theorem acf (n:Nat) (d:List bq) (hd:∀x∈d,0≤x.bN∧x.bN<n) (j:Nat):(qw n d).getD j false=P6 d j:=by
 unfold qw P6;have key:∀(d:List bq) (a:List Bool),a.length=n→(∀x∈d,0≤x.bN∧x.bN<n)→(d.foldl (λ a x=>a.set x.bN.toNat true) a).getD j false=(a.getD j false||d.any (λ x=>x.bN==(j:Int))):=by
  intro d;induction d with
  | nil=>intro a _ _; simp
  | cons x d ih=>
   intro a ha hd;have hx:=hd x (by simp);rw [List.foldl_cons,ih _ (by simpa using ha) (λ y hy=>hd y (by simp [hy])),gq,List.any_cons];by_cases hj:j=x.bN.toNat
   ·have:(x.bN==(j:Int))=true:=by simp; omega
    rw [if_pos ⟨hj,om⟩,this];simp
   ·have:(x.bN==(j:Int))=false:=by simp; omega
    rw [if_neg (λ h=>hj h.1),this];simp
 rw [key d _ (by simp) hd,mF];simp
structure Rk (l:List aD) (d:List bq) (k:Nat) (b:List Bool):Prop where
 len:b.length=l.length
 hi:∀j,j<l.length→l.length - k≤j→b.getD j false=(P5 (iA l) l.length k (qw l.length d)).getD j false
 lo:∀j,j<l.length - k→(P5 (iA l) l.length k (qw l.length d)).getD j false=(b.getD j false||P6 d j)
def Ui (l:List aD) (d:List bq) (i:Nat) (b:List Bool):List Bool:=
 bif (b.getD i false||(l.getD i au).fK||P6 d i)&&decide (0≤(l.getD i au).aN) then (b.set i (b.getD i false||(l.getD i au).fK||P6 d i)).set (l.getD i au).aN.toNat true else b.set i (b.getD i false||(l.getD i au).fK||P6 d i)
theorem Rk.step (hv:Ow l d) {b:List Bool} (h:Rk l d k b) (hk:k<l.length):Rk l d (k+1) (Ui l d (l.length - 1 - k) b):=by
 obtain ⟨h1,h2,h3⟩:=h;have hup:P5 (iA l) l.length (k+1) (qw l.length d)=iA l (l.length - 1 - k) (P5 (iA l) l.length k (qw l.length d)):=rfl;have hal:(P5 (iA l) l.length k (qw l.length d)).length=l.length:=by rw [Da (nE l),sU]
 generalize P5 (iA l) l.length k (qw l.length d)=a at h2 h3 hup hal;have hs:=hv.bN (l.length - 1 - k) om;have hai:=h3 (l.length - 1 - k) om;generalize hi:l.length - 1 - k=i at hup hs hai;have hF:(a.getD i false||(l.getD i au).fK)=(b.getD i false||(l.getD i au).fK||P6 d i):=by
  rw [hai];cases b.getD i false<;>cases (l.getD i au).fK<;>cases P6 d i<;>rfl
 refine ⟨?_,?_,?_⟩
 ·unfold Ui;cases (b.getD i false||(l.getD i au).fK||P6 d i)&&decide (0≤(l.getD i au).aN)<;>simp [h1]
 all_goals
  rw [hup]
  unfold Ui iA
  rw [hF]
  generalize (b.getD i false||(l.getD i au).fK||P6 d i)=F
  cases hc:F&&decide (0≤(l.getD i au).aN) with
  | true=>
   simp only [cond_true]
   simp only [Bool.and_eq_true] at hc
   have hp:=of_decide_eq_true hc.2
   intro j hj
   try intro hj2
   simp only [gq,List.length_set,h1,hal]
   by_cases hjp:j=(l.getD i au).aN.toNat∧(l.getD i au).aN.toNat<l.length
   ·rw [if_pos hjp,if_pos hjp]
    try rfl
   ·rw [if_neg hjp,if_neg hjp]
    by_cases hji:j=i∧i<l.length
    ·rw [if_pos hji,if_pos hji]
     try omega
    ·rw [if_neg hji,if_neg hji]
     first | exact h2 j om om | exact h3 j om
  | false=>
   simp only [cond_false]
   intro j hj
   try intro hj2
   simp only [gq,h1,hal]
   by_cases hji:j=i∧i<l.length
   ·rw [if_pos hji,if_pos hji]
    try omega
   ·rw [if_neg hji,if_neg hji]
    first | exact h2 j om om | exact h3 j om
theorem Rk.done {b:List Bool} (h:Rk l d l.length b):b=fG l d:=by
 refine xP false (by rw [h.len,sV]) λ j hj=>?_;rw [h.hi j (by rw [← h.len]; exact hj) om,Uf];rfl
theorem Rk.start (hv:Ow l d):Rk l d 0 (List.replicate l.length false):=by
 refine ⟨by simp,λ j hj h=>by omega,λ j hj=>?_⟩;rw [mF];show (qw l.length d).getD j false=_;rw [acf _ _ (λ x hx=>by have:=hv.drw x hx; omega)];simp
def Bl (d:List bq) (i:Nat):Int:=d.foldl (λ s x=>bif x.bN==(i:Int) then s+x.Load else s) 0
theorem VY {j:Nat} (h:j<d.length):Bl (d.take (j+1)) i=bif (d.getD j dG).bN==(i:Int) then Bl (d.take j) i+(d.getD j dG).Load else Bl (d.take j) i:=vo _ _ dG h
theorem aan (n:Nat) (d:List bq) (hd:∀x∈d,0≤x.bN∧x.bN<n) (j:Nat):(zl n d).getD j 0=Bl d j:=by
 unfold zl Bl;have key:∀(d:List bq) (a:List Int) (s:Int),a.length=n→(∀x∈d,0≤x.bN∧x.bN<n)→a.getD j 0=s→(d.foldl (λ a x=>a.set x.bN.toNat (a.getD x.bN.toNat 0+x.Load)) a).getD j 0=d.foldl (λ s x=>bif x.bN==(j:Int) then s+x.Load else s) s:=by
  intro d;induction d with
  | nil=>intro a s _ _ h; exact h
  | cons x d ih=>
   intro a s ha hd h;have hx:=hd x (by simp);rw [List.foldl_cons,List.foldl_cons];refine ih _ _ (by simpa using ha) (λ y hy=>hd y (by simp [hy])) ?_;rw [gq];by_cases hj:j=x.bN.toNat
   ·have:(x.bN==(j:Int))=true:=by simp; omega
    rw [if_pos ⟨hj,om⟩,this,← hj,h];rfl
   ·have:(x.bN==(j:Int))=false:=by simp; omega
    rw [if_neg (λ h=>hj h.1),this];exact h
 exact key d _ 0 (by simp) hd (mF _ _ _)
theorem Uj (hd:∀x∈d,0≤x.Load∧x.Load≤10000) (i j:Nat) (hj:j≤d.length):0≤Bl (d.take j) i∧Bl (d.take j) i≤10000*j:=by
 induction j with
 | zero=>rw [List.take_zero]; exact ⟨Int.le_refl _,Int.le_refl _⟩
 | succ j ih=>
  have:=ih om;have h2:=hd _ (je dG hj);rw [VY hj];cases (d.getD j dG).bN==(i:Int) with
  | true=>simp only [cond_true]; omega
  | false=>simp only [cond_false]; omega
structure LB (l:List aD) (d:List bq) (k:Nat) (b:List Int):Prop where
 len:b.length=l.length
 pos:∀j,0≤b.getD j 0
 hi:∀j,j<l.length→l.length - k≤j→b.getD j 0=(P5 (jl l) l.length k (zl l.length d)).getD j 0
 lo:∀j,j<l.length - k→(P5 (jl l) l.length k (zl l.length d)).getD j 0=b.getD j 0+Bl d j
def P7 (l:List aD) (d:List bq) (i:Nat) (b:List Int):List Int:=
 bif decide (0≤(l.getD i au).aN) then (b.set i (b.getD i 0+Bl d i)).set (l.getD i au).aN.toNat (b.getD (l.getD i au).aN.toNat 0+(b.getD i 0+Bl d i)) else b.set i (b.getD i 0+Bl d i)
variable {b:List Int}
theorem LB.step (hv:Ow l d) (h:LB l d k b) (hk:k<l.length):LB l d (k+1) (P7 l d (l.length - 1 - k) b):=by
 obtain ⟨h1,h0,h2,h3⟩:=h;have hdp:∀i,0≤Bl d i:=λ i=>by
  have:=(Uj (d:=d) (λ x hx=>by have:=hv.drw x hx; omega) i d.length (Nat.le_refl _)).1;rwa [List.take_length] at this
 have hup:P5 (jl l) l.length (k+1) (zl l.length d)=jl l (l.length - 1 - k) (P5 (jl l) l.length k (zl l.length d)):=rfl;have hal:(P5 (jl l) l.length k (zl l.length d)).length=l.length:=by rw [Da (JQ l),Iz]
 generalize P5 (jl l) l.length k (zl l.length d)=a at h2 h3 hup hal;have hs:=hv.bN (l.length - 1 - k) om;have hai:=h3 (l.length - 1 - k) om;generalize hi:l.length - 1 - k=i at hup hs hai;have hb0:=h0 i;have hd0:=hdp i;refine ⟨?_,?_,?_,?_⟩
 ·unfold P7;cases decide (0≤(l.getD i au).aN)<;>simp [h1]
 ·intro j;have hb1:=h0 j;have hb2:=h0 (l.getD i au).aN.toNat;unfold P7;cases decide (0≤(l.getD i au).aN)<;>simp only [cond_true,cond_false,gq]<;>repeat' split
  all_goals omega
 all_goals
  rw [hup]
  unfold P7 jl
  cases hc:decide (0≤(l.getD i au).aN) with
  | true=>
   simp only [cond_true]
   have hp:=of_decide_eq_true hc
   intro j hj
   try intro hj2
   simp only [gq,List.length_set,h1,hal]
   have hap:=h3 (l.getD i au).aN.toNat om
   by_cases hjp:j=(l.getD i au).aN.toNat∧(l.getD i au).aN.toNat<l.length
   ·rw [if_pos hjp,if_pos hjp]
    try rw [hjp.1]
    omega
   ·rw [if_neg hjp,if_neg hjp]
    by_cases hji:j=i∧i<l.length
    ·rw [if_pos hji,hji.1]
     omega
    ·rw [if_neg hji]
     first | exact h2 j om om | exact h3 j om
  | false=>
   simp only [cond_false]
   intro j hj
   try intro hj2
   simp only [gq,h1]
   by_cases hji:j=i∧i<l.length
   ·rw [if_pos hji,hji.1]
    omega
   ·rw [if_neg hji]
    first | exact h2 j om om | exact h3 j om
theorem LB.done (h:LB l d l.length b):b=pO l d:=by
 refine xP 0 (by rw [h.len,Sm]) λ j hj=>?_;rw [h.hi j (by rw [← h.len]; exact hj) om,Uf];rfl
theorem LB.start (hv:Ow l d):LB l d 0 (List.replicate l.length 0):=by
 refine ⟨by simp,λ j=>by rw [mF]; omega,λ j hj h=>by omega,λ j hj=>?_⟩;rw [mF];show (zl l.length d).getD j 0=_;rw [aan _ _ (λ x hx=>by have:=hv.drw x hx; omega)];simp
theorem LB.small (hv:Ow l d) (h:LB l d k b) (hk:k≤l.length) (j:Nat):0≤b.getD j 0∧b.getD j 0≤100000000000:=by
 have h1:=Ug hv k hk j;refine ⟨h.pos j,?_⟩;have hd:=(Uj (d:=d) (λ x hx=>by have:=hv.drw x hx; omega) j d.length (Nat.le_refl _)).1;rw [List.take_length] at hd;by_cases h2:j<l.length - k
 ·have:=h.lo j h2; omega
 ·by_cases h3:j<l.length
  ·have:=h.hi j h3 om; omega
  ·rw [MZ 0 (by rw [h.len]; omega)]; omega
def lvN:List Int→Int→Nat
 | [],_=>0
 | x::t,v=>bif decide (v≤x) then 0 else lvN t v+1
theorem aoz (v:Int) (l:List Int):lvN l v≤l.length:=by
 induction l with
 | nil=>exact Nat.le_refl _
 | cons x l ih=>
  rw [lvN];cases decide (v≤x)<;>simp<;>omega
theorem akI {v:Int} {l:List Int}:∀j,j<lvN l v→l.getD j 0<v:=by
 induction l with
 | nil=>intro j hj; simp [lvN] at hj
 | cons x l ih=>
  rw [lvN];cases h:decide (v≤x) with
  | true=>intro j hj; simp at hj
  | false=>
   have:=of_decide_eq_false h;intro j hj;cases j with
   | zero=>show x<v; omega
   | succ j=>exact ih j (by simpa using hj)
theorem agH {v:Int} {l:List Int} (h:lvN l v<l.length):v≤l.getD (lvN l v) 0:=by
 induction l with
 | nil=>simp at h
 | cons x l ih=>
  rw [lvN] at h ⊢;cases hd:decide (v≤x) with
  | true=>exact of_decide_eq_true hd
  | false=>
   rw [hd] at h;exact ih (by simpa using h)
theorem agI {v:Int} {l:List Int} (h0:k≤l.length) (h1:∀j,j<k→l.getD j 0<v) (h2:k<l.length→v≤l.getD k 0):k=lvN l v:=by
 have h3:=aoz v l;rcases Nat.lt_trichotomy k (lvN l v) with h | h | h
 ·have:=akI k h;have:=h2 om;omega
 ·exact h
 ·have:=agH (v:=v) (l:=l) om;have:=h1 _ h;omega
theorem akJ {p:Int} (h:Ov p v=true):∀i j,i<j→j<v.length→v.getD i 0<v.getD j 0:=by
 induction v generalizing p with
 | nil=>intro i j _ hj; simp at hj
 | cons a v ih=>
  rw [Ov,Bool.and_eq_true] at h;intro i j hij hj;cases j with
  | zero=>omega
  | succ j=>
   cases i with
   | zero=>exact (ado h.2 j (by simpa using hj)).1
   | succ i=>exact ih h.2 i j om (by simpa using hj)
theorem wrap_u64 {n:Int} (h:0≤n∧n<18446744073709551616):IntKind.u64.wrap n=n:=by
 show (if (false&&decide (n % (2 ^ 64:Int) ≥ 2 ^ 63))=true then n % (2 ^ 64:Int) - 2 ^ 64 else n % (2 ^ 64:Int))=n;rw [Bool.false_and,if_neg (by decide)];exact Int.emod_eq_of_lt h.1 om
structure DS where
 a:List Dem
 lv:List Int
def xU (n:Nat) (d:List bq):Nat→List Dem
 | 0=>List.replicate n ⟨0,-1,-1⟩
 | i+1=>bif decide (((xU n d i).getD (d.getD i dG).bN.toNat Ou).xR<(d.getD i dG).Low) then (xU n d i).set (d.getD i dG).bN.toNat ⟨(d.getD i dG).Low,i,-1⟩ else xU n d i
def tZ (l:List aD) (i:Nat) (s:DS):Nat:=lvN (l.getD i au).bJ (s.a.getD i Ou).xR
def mG (l:List aD) (i:Nat) (s:DS):Int:=(l.getD i au).bJ.getD (tZ l i s) 0+(l.getD i au).gB
def Bn (l:List aD) (u:List Bool) (i:Nat) (s:DS):DS:=
 bif !u.getD i false then s
 else ⟨bif decide (0≤(l.getD i au).aN)&&decide ((s.a.getD (l.getD i au).aN.toNat Ou).xR<mG l i s) then s.a.set (l.getD i au).aN.toNat ⟨mG l i s,-1,i⟩ else s.a,s.lv.set i (tZ l i s)⟩
def wo (l:List aD) (u:List Bool) (i:Nat) (s:DS):Bool:=u.getD i false&&!decide ((tZ l i s:Int)<(l.getD i au).bJ.length)
def Qp (l:List aD) (u:List Bool):Nat→DS→DS×Int
 | 0,s=>(s,-1)
 | k+1,s=>bif wo l u k s then (s,k) else Qp l u k (Bn l u k s)
def ds0 (l:List aD) (d:List bq):DS:=⟨xU l.length d d.length,List.replicate l.length 0⟩
def IB (l:List aD) (d:List bq):DS×Int:=Qp l (fG l d) l.length (ds0 l d)
theorem P8 (n:Nat) (d:List bq) (i:Nat):(xU n d i).length=n:=by
 induction i with
 | zero=>simp [xU]
 | succ i ih=>
  rw [xU];cases decide (((xU n d i).getD (d.getD i dG).bN.toNat Ou).xR<(d.getD i dG).Low)<;>simp [ih]
structure DOk (l:List aD) (s:DS):Prop where
 al:s.a.length=l.length
 ll:s.lv.length=l.length
variable {u:List Bool} {s:DS}
theorem adp (h:DOk l s):DOk l (Bn l u i s):=by
 unfold Bn;cases u.getD i false with
 | false=>exact h
 | true=>
  refine ⟨?_,by simp [h.ll]⟩;simp only [Bool.not_true,cond_false];cases decide (0≤(l.getD i au).aN)&&decide ((s.a.getD (l.getD i au).aN.toNat Ou).xR<mG l i s)<;>simp [h.al]
theorem agJ (l:List aD) (d:List bq):DOk l (ds0 l d):=⟨P8 _ _ _,by simp [ds0]⟩
def jr (l:List aD) (d:List bq):dh×Int:=
 bif pK l d != 0 then (RP,pK l d)
 else bif decide (0≤(IB l d).2)||!fC l ⟨fG l d,(IB l d).1.lv⟩ d then (RP,9) else (⟨fG l d,(IB l d).1.lv⟩,0)
theorem aiD (I:DS→Prop) (hI:∀i s,i<l.length→I s→I (Bn l u i s)):∀(k:Nat) (s:DS),k≤l.length→I s→I (Qp l u k s).1:=by
 intro k;induction k with
 | zero=>intro s _ h; exact h
 | succ k ih=>
  intro s hk h;rw [Qp];cases wo l u k s with
  | true=>exact h
  | false=>exact ih _ om (hI k s om h)
def amD (l:List aD) (s:DS):Prop:=∀j,j<l.length→0≤s.lv.getD j 0∧s.lv.getD j 0<(l.getD j au).bJ.length
def lvK (l:List aD) (k v:Int):Nat:=lvN (l.getD k.toNat au).bJ v
def okK (l:List aD) (k v:Int):Bool:=decide (lvK l k v<(l.getD k.toNat au).bJ.length)
def voK (l:List aD) (k v:Int):Int:=(l.getD k.toNat au).bJ.getD (lvK l k v) 0
def rwN (l:List aD) (d:List bq) (last:Int):List Int→Int→Bool
 | [],_=>false
 | k::t,v=>bif !t.isEmpty then (bif !okK l k v then false else rwN l d last t (voK l k v+(l.getD k.toNat au).gB))
  else bif !okK l k v||decide (last<0) then !okK l k v&&decide (last<0)
  else ((d.getD last.toNat dG).bN==k)&&decide ((d.getD last.toNat dG).fO<voK l k v)
abbrev yQ (l:List aD) (i:Nat):aD:=l.getD i au
abbrev Db (a:List Bool) (i:Nat):Bool:=a.getD i false
abbrev YZ (a:List Int) (i:Nat):Int:=a.getD i 0
theorem adq {a:List Bool} (hi:i<a.length) (hp:(yQ l i).aN<i) (j:Nat):
  Db (iA l i a) j=true↔Db a j=true∨(j=i∧(yQ l i).fK=true)∨((yQ l i).aN=j∧(Db a i=true∨(yQ l i).fK=true)):=by
 unfold iA Db yQ at *;generalize l.getD i au=s at *;cases hx:(a.getD i false||s.fK) with
 | false=>
  simp only [Bool.false_and,cond_false];simp only [Bool.or_eq_false_iff] at hx;rw [gq,hx.1,hx.2];by_cases hj:j=i
  ·subst hj; rw [if_pos ⟨rfl,hi⟩,hx.1]; simp
  ·rw [if_neg (λ h=>hj h.1)]; simp [hj]
 | true=>
  have hx':a.getD i false=true∨s.fK=true:=by simpa using hx
  by_cases hp0:0≤s.aN
  ·simp only [Bool.true_and,decide_eq_true hp0,cond_true];rw [gq,gq,List.length_set];by_cases hj:j=s.aN.toNat
   ·have:j<a.length:=by omega
    rw [if_pos ⟨hj,om⟩];simp only [true_iff];exact .inr (.inr ⟨om,hx'⟩)
   ·rw [if_neg (λ h=>hj h.1)];have hj':¬ s.aN=j:=by omega
    by_cases hji:j=i
    ·subst hji; rw [if_pos ⟨rfl,hi⟩]; simp only [true_iff,true_and]; exact hx'.elim .inl (λ h=>.inr (.inl h))
    ·rw [if_neg (λ h=>hji h.1)]; simp only [hji,hj',false_and,or_false]
  ·simp only [Bool.true_and,decide_eq_false hp0,cond_false];rw [gq];have hj':¬ s.aN=j:=by omega
   by_cases hji:j=i
   ·subst hji; rw [if_pos ⟨rfl,hi⟩]; simp only [true_iff,true_and]; exact hx'.elim .inl (λ h=>.inr (.inl h))
   ·rw [if_neg (λ h=>hji h.1)]; simp only [hji,hj',false_and,or_false]
theorem amE (hv:Ow l d):∀k,k≤l.length→∀j:Nat,
  Db (P5 (iA l) l.length k (qw l.length d)) j=true↔P6 d j=true∨(l.length - k≤j∧j<l.length∧(yQ l j).fK=true)∨∃c,l.length - k≤c∧c<l.length∧(yQ l c).aN=j∧Db (P5 (iA l) l.length k (qw l.length d)) c=true:=by
 intro k;induction k with
 | zero=>
  intro _ j;show (qw l.length d).getD j false=true↔_;rw [acf _ _ (λ x hx=>by have:=hv.drw x hx; omega)];constructor
  ·exact .inl
  ·rintro (h | h | ⟨c,h⟩)
   ·exact h
   ·omega
   ·omega
 | succ k ih=>
  intro hk j;have ih:=ih om;have hup:P5 (iA l) l.length (k+1) (qw l.length d)=iA l (l.length - 1 - k) (P5 (iA l) l.length k (qw l.length d)):=rfl;have hal:(P5 (iA l) l.length k (qw l.length d)).length=l.length:=by rw [Da (nE l),sU]
  have hs:=hv.bN (l.length - 1 - k) om;rw [hup];generalize P5 (iA l) l.length k (qw l.length d)=a at ih hal;generalize hi:l.length - 1 - k=i at hs;have get:=adq (l:=l) (a:=a) (i:=i) om (by unfold yQ; omega);have hne:¬ (yQ l i).aN=(i:Int):=by unfold yQ; omega
  have hgt:∀c,i<c→(Db (iA l i a) c=true↔Db a c=true):=λ c hc=>by
   rw [get c];constructor
   ·rintro (h | h | h)
    ·exact h
    ·omega
    ·have:(yQ l i).aN=(c:Int):=h.1;unfold yQ at this;omega
   ·exact .inl
  constructor
  ·intro h;rcases (get j).1 h with h | h | h
   ·rcases (ih j).1 h with h | h | ⟨c,h1,h2,h3,h4⟩
    ·exact .inl h
    ·exact .inr (.inl ⟨om,h.2⟩)
    ·exact .inr (.inr ⟨c,om,h2,h3,(hgt c om).2 h4⟩)
   ·rw [h.1];exact .inr (.inl ⟨om,om,h.2⟩)
   ·refine .inr (.inr ⟨i,om,om,h.1,(get i).2 ?_⟩);rcases h.2 with h | h
    ·exact .inl h
    ·exact .inr (.inl ⟨rfl,h⟩)
  ·rintro (h | ⟨h1,h2,h3⟩ | ⟨c,h1,h2,h3,h4⟩)
   ·exact (get j).2 (.inl ((ih j).2 (.inl h)))
   ·by_cases hji:j=i
    ·subst hji; exact (get j).2 (.inr (.inl ⟨rfl,h3⟩))
    ·exact (get j).2 (.inl ((ih j).2 (.inr (.inl ⟨om,h2,h3⟩))))
   ·by_cases hci:c=i
    ·subst hci;refine (get j).2 (.inr (.inr ⟨h3,?_⟩));rcases (get c).1 h4 with h | h | h
     ·exact .inl h
     ·exact .inr h.2
     ·exact absurd h.1 hne
    ·exact (get j).2 (.inl ((ih j).2 (.inr (.inr ⟨c,om,h2,h3,(hgt c om).1 h4⟩))))
theorem Uk (hv:Ow l d) (j:Nat):
  Db (fG l d) j=true↔P6 d j=true∨(j<l.length∧(yQ l j).fK=true)∨∃c,c<l.length∧(yQ l c).aN=j∧Db (fG l d) c=true:=by
 have:=amE hv l.length (Nat.le_refl _) j;rw [Uf] at this;unfold fG;rw [this];constructor
 ·rintro (h | h | ⟨c,h⟩)
  ·exact .inl h
  ·exact .inr (.inl h.2)
  ·exact .inr (.inr ⟨c,h.2⟩)
 ·rintro (h | h | ⟨c,h⟩)
  ·exact .inl h
  ·exact .inr (.inl ⟨om,h⟩)
  ·exact .inr (.inr ⟨c,om,h⟩)
theorem qR {j:Nat} (h:Db (fG l d) j=true):j<l.length:=by
 rcases Nat.lt_or_ge j l.length with h1 | h1
 ·exact h1
 ·unfold Db at h;rw [MZ false (by rw [sV]; exact h1)] at h;cases h
theorem VZ {d':List bq} (hv:Ow l d) (hv':Ow l d') (h:∀j,P6 d j=true→P6 d' j=true):∀j,Db (fG l d) j=true→Db (fG l d') j=true:=by
 have key:∀m j,l.length - j≤m→Db (fG l d) j=true→Db (fG l d') j=true:=by
  intro m;induction m with
  | zero=>intro j hm hj; have:=qR hj; omega
  | succ m ih=>
   intro j hm hj;rw [Uk hv] at hj;rw [Uk hv'];rcases hj with hj | hj | ⟨c,h1,h2,h3⟩
   ·exact .inl (h j hj)
   ·exact .inr (.inl hj)
   ·have:=(hv.bN c h1).2.1;unfold yQ at h2;exact .inr (.inr ⟨c,h1,h2,ih c om h3⟩)
 intro j;exact key _ j (Nat.le_refl _)
theorem aiE {d':List bq} (hv:Ow l d) (hv':Ow l d') (h:∀j,P6 d j=P6 d' j):fG l d=fG l d':=by
 refine xP false (by rw [sV,sV]) λ j _=>?_;have h1:=VZ hv hv' (λ j hj=>by rw [← h j]; exact hj) j;have h2:=VZ hv' hv (λ j hj=>by rw [h j]; exact hj) j;unfold Db at h1 h2;cases ha:(fG l d).getD j false<;>cases hb:(fG l d').getD j false<;>simp_all
theorem afb (hv:Ow l d) {c:Nat} (h:Db (fG l d) c=true) (hp:0≤(yQ l c).aN):Db (fG l d) (yQ l c).aN.toNat=true:=by
 rw [Uk hv];exact .inr (.inr ⟨c,qR h,om,h⟩)
theorem acg (hv:Ow l d) {x:bq} (h:x∈d):Db (fG l d) x.bN.toNat=true:=by
 rw [Uk hv];refine .inl ?_;unfold P6;rw [List.any_eq_true];have:=hv.drw x h;refine ⟨x,h,?_⟩;rw [beq_iff_eq];omega
def apN (x:bq) (i:Nat):Int:=bif x.bN==(i:Int) then x.Load else 0
theorem Dp (x:bq) (d:List bq) (i:Nat):Bl (x::d) i=apN x i+Bl d i:=by
 have key:∀(d:List bq) (s:Int),d.foldl (λ s x=>bif x.bN==(i:Int) then s+x.Load else s) s=s+Bl d i:=by
  intro d;induction d with
  | nil=>intro s; show s=s+0; omega
  | cons y d ih=>
   intro s;unfold Bl;rw [List.foldl_cons,List.foldl_cons,ih,ih];cases y.bN==(i:Int)<;>simp<;>omega
 show d.foldl _ _=_;rw [key];unfold apN;cases hb:x.bN==(i:Int)<;>simp [hb]
theorem aiF {a b:List bq} (h:a.Perm b) (i:Nat):Bl a i=Bl b i:=by
 induction h with
 | nil=>rfl
 | cons x _ ih=>rw [Dp,Dp,ih]
 | swap x y l=>rw [Dp,Dp,Dp,Dp]; omega
 | trans _ _ h1 h2=>exact h1.trans h2
theorem adr (hv:Ow l d):∀x∈d,0≤x.bN∧x.bN<l.length:=λ x hx=>by have:=hv.drw x hx; omega
theorem agK {a b:List bq} (ha:Ow l a) (hb:Ow l b) (h:∀j,Bl a j=Bl b j):pO l a=pO l b:=by
 unfold pO;rw [show zl l.length a=zl l.length b from xP 0 (by rw [Iz,Iz]) λ j _=>by rw [aan _ _ (adr ha),aan _ _ (adr hb),h j]]
abbrev Sn (a:List Dem) (i:Nat):Dem:=a.getD i Ou
abbrev xAt (d:List bq) (i:Nat):bq:=d.getD i dG
structure DI (n:Nat) (d:List bq) (i:Nat) (a:List Dem):Prop where
 len:a.length=n
 just:∀j,j<n→Sn a j=⟨0,-1,-1⟩∨∃q,q<i∧(xAt d q).bN=j∧Sn a j=⟨(xAt d q).Low,q,-1⟩
 Low:∀q,q<i→(xAt d q).Low≤(Sn a (xAt d q).bN.toNat).xR
theorem akK {n:Nat} (hd:∀x∈d,0≤x.bN∧x.bN<n):∀i,i≤d.length→DI n d i (xU n d i):=by
 intro i;induction i with
 | zero=>
  intro _;refine ⟨P8 _ _ _,λ j hj=>.inl ?_,λ q hq=>by omega⟩;show (List.replicate n (⟨0,-1,-1⟩:Dem)).getD j Ou=_;rw [List.getD_eq_getElem?_getD,List.getElem?_replicate,if_pos hj];rfl
 | succ i ih=>
  intro hi;obtain ⟨h1,h2,h3⟩:=ih om;have hx:=hd _ (je dG (show i<d.length by omega));rw [xU];generalize xU n d i=a at h1 h2 h3;by_cases hb:(Sn a (xAt d i).bN.toNat).xR<(xAt d i).Low
  ·rw [show decide ((a.getD (d.getD i dG).bN.toNat Ou).xR<(d.getD i dG).Low)=true from decide_eq_true hb,cond_true];refine ⟨by rw [List.length_set,h1],λ j hj=>?_,λ q hq=>?_⟩
   ·unfold Sn;rw [gq];split
    ·rename_i h; exact .inr ⟨i,om,by unfold xAt; omega,rfl⟩
    ·rcases h2 j hj with h | ⟨q,h4,h5⟩
     ·exact .inl h
     ·exact .inr ⟨q,om,h5⟩
   ·unfold Sn;rw [gq];by_cases hqi:q=i
    ·subst hqi;rw [if_pos ⟨rfl,om⟩];exact Int.le_refl _
    ·have h4:=h3 q om;split
     ·rename_i h;unfold Sn at h4 hb;show (xAt d q).Low≤(xAt d i).Low;rw [h.1] at h4;unfold xAt at *;omega
     ·exact h4
  ·rw [show decide ((a.getD (d.getD i dG).bN.toNat Ou).xR<(d.getD i dG).Low)=false from decide_eq_false hb,cond_false];refine ⟨h1,λ j hj=>?_,λ q hq=>?_⟩
   ·rcases h2 j hj with h | ⟨q,h4,h5⟩
    ·exact .inl h
    ·exact .inr ⟨q,om,h5⟩
   ·by_cases hqi:q=i
    ·subst hqi; omega
    ·exact h3 q om
structure Dm (l:List aD) (d:List bq) (u:List Bool) (k:Nat) (s:DS):Prop where
 al:s.a.length=l.length
 ll:s.lv.length=l.length
 just:∀j,j<l.length→Sn s.a j=⟨0,-1,-1⟩∨(∃q,q<d.length∧(xAt d q).bN=j∧Sn s.a j=⟨(xAt d q).Low,q,-1⟩)∨
  ∃c:Nat,k≤c∧c<l.length∧Db u c=true∧(yQ l c).aN=j∧tZ l c s<(yQ l c).bJ.length∧Sn s.a j=⟨mG l c s,-1,c⟩
 Low:∀q,q<d.length→(xAt d q).Low≤(Sn s.a (xAt d q).bN.toNat).xR
 up:∀c,k≤c→c<l.length→Db u c=true→0≤(yQ l c).aN→mG l c s≤(Sn s.a (yQ l c).aN.toNat).xR
 ok:∀c,k≤c→c<l.length→Db u c=true→tZ l c s<(yQ l c).bJ.length∧YZ s.lv c=tZ l c s
 zero:∀c,c<l.length→c<k∨Db u c=false→YZ s.lv c=0
theorem aoA (hv:Ow l d) (u:List Bool):Dm l d u l.length (ds0 l d):=by
 obtain ⟨h1,h2,h3⟩:=akK (adr hv) d.length (Nat.le_refl _);refine ⟨h1,by simp [ds0],λ j hj=>?_,h3,λ c hc hc'=>by omega,λ c hc hc'=>by omega,λ c hc _=>mF _ _ _⟩;rcases h2 j hj with h | h
 ·exact .inl h
 ·exact .inr (.inl h)
theorem amF (hv:Ow l d) (hk:k<l.length) (h:Dm l d u (k+1) s) (hf:wo l u k s=false):Dm l d u k (Bn l u k s):=by
 obtain ⟨al,ll,just,low,up,ok,zero⟩:=h;have hs:=(hv.bN k hk);unfold Bn;cases hu:u.getD k false with
 | false=>
  simp only [Bool.not_false,cond_true];have hne:∀c,k≤c→Db u c=true→k+1≤c:=λ c h1 h2=>by
   rcases Nat.eq_or_lt_of_le h1 with h | h
   ·subst h; unfold Db at h2; rw [hu] at h2; cases h2
   ·exact h
  refine ⟨al,ll,λ j hj=>?_,low,λ c h1 h2 h3=>up c (hne c h1 h3) h2 h3,λ c h1 h2 h3=>ok c (hne c h1 h3) h2 h3,λ c h1 h2=>zero c h1 ?_⟩
  ·rcases just j hj with h | h | ⟨c,h1,h2⟩
   ·exact .inl h
   ·exact .inr (.inl h)
   ·exact .inr (.inr ⟨c,om,h2⟩)
  ·rcases h2 with h2 | h2
   ·exact .inl om
   ·exact .inr h2
 | true=>
  unfold wo at hf;rw [hu,Bool.true_and,Bool.not_eq_false'] at hf;have hf:=of_decide_eq_true hf;simp only [Bool.not_true,cond_false];generalize hA:(bif decide (0≤(l.getD k au).aN)&&decide ((s.a.getD (l.getD k au).aN.toNat Ou).xR<mG l k s) then s.a.set (l.getD k au).aN.toNat ⟨mG l k s,-1,k⟩ else s.a)=A;have hAl:A.length=l.length:=by
   rw [← hA];cases decide (0≤(l.getD k au).aN)&&decide ((s.a.getD (l.getD k au).aN.toNat Ou).xR<mG l k s)<;>simp [al]
  have hget:∀j,Sn A j=Sn s.a j∧((yQ l k).aN=(j:Int)→mG l k s≤(Sn s.a j).xR)∨(yQ l k).aN=(j:Int)∧(Sn s.a j).xR<mG l k s∧Sn A j=⟨mG l k s,-1,k⟩:=by
   intro j;rw [← hA];by_cases hp:0≤(l.getD k au).aN
   ·by_cases hn:(s.a.getD (l.getD k au).aN.toNat Ou).xR<mG l k s
    ·rw [decide_eq_true hp,decide_eq_true hn];simp only [Bool.and_self,cond_true];unfold Sn;rw [gq];by_cases hj:j=(l.getD k au).aN.toNat
     ·rw [if_pos ⟨hj,om⟩];refine .inr ⟨by unfold yQ; omega,by rw [hj]; exact hn,rfl⟩
     ·rw [if_neg (λ h=>hj h.1)];exact .inl ⟨rfl,λ h=>by unfold yQ at h; omega⟩
    ·rw [decide_eq_true hp,decide_eq_false hn];refine .inl ⟨rfl,λ h=>?_⟩;have:j=(l.getD k au).aN.toNat:=by unfold yQ at h; omega
     rw [this];exact Int.not_lt.1 hn
   ·rw [decide_eq_false hp];refine .inl ⟨rfl,λ h=>by unfold yQ at h; omega⟩
  have hge:∀j,(Sn s.a j).xR≤(Sn A j).xR:=λ j=>by
   rcases hget j with h | h
   ·rw [h.1]; exact Int.le_refl _
   ·rw [h.2.2]; exact Int.le_of_lt h.2.1
  have hsame:∀c,k≤c→Sn A c=Sn s.a c:=λ c hc=>by
   rcases hget c with h | h
   ·exact h.1
   ·have:=h.1; unfold yQ at this; omega
  have hlv:∀c,k≤c→∀x,tZ l c ⟨A,x⟩=tZ l c s:=λ c hc x=>by
   have:=hsame c hc;unfold tZ;unfold Sn at this;simp only [this]
  have hnd:∀c,k≤c→∀x,mG l c ⟨A,x⟩=mG l c s:=λ c hc x=>by
   unfold mG;rw [hlv c hc]
  refine ⟨hAl,by simp [ll],λ j hj=>?_,λ q hq=>Int.le_trans (low q hq) (hge _),λ c h1 h2 h3 h4=>?_,λ c h1 h2 h3=>?_,λ c h1 h2=>?_⟩
  ·show Sn A j=_∨_;rcases hget j with h | h
   ·show Sn A j=_∨(∃q,q<d.length∧(xAt d q).bN=j∧Sn A j=_)∨∃c:Nat,_∧_∧_∧_∧_∧Sn A j=_;rw [h.1];rcases just j hj with h | h | ⟨c,h1,h2,h3,h4,h5,h6⟩
    ·exact .inl h
    ·exact .inr (.inl h)
    ·refine .inr (.inr ⟨c,om,h2,h3,h4,?_,?_⟩)
     ·rw [hlv c om]; exact h5
     ·rw [hnd c om]; exact h6
   ·refine .inr (.inr ⟨k,Nat.le_refl _,hk,hu,h.1,?_,?_⟩)
    ·rw [hlv k (Nat.le_refl _)]; unfold yQ; omega
    ·rw [hnd k (Nat.le_refl _)]; exact h.2.2
  ·show mG l c _≤(Sn A (yQ l c).aN.toNat).xR;rw [hnd c h1];rcases Nat.eq_or_lt_of_le h1 with h | h
   ·subst h;rcases hget (yQ l k).aN.toNat with h | h
    ·rw [h.1]; exact h.2 om
    ·rw [h.2.2]; exact Int.le_refl _
   ·exact Int.le_trans (up c h h2 h3 h4) (hge _)
  ·rw [hlv c h1];show _∧YZ (s.lv.set k (tZ l k s)) c=_;unfold YZ;rw [gq];rcases Nat.eq_or_lt_of_le h1 with h | h
   ·subst h;rw [if_pos ⟨rfl,om⟩];exact ⟨by unfold yQ; omega,rfl⟩
   ·rw [if_neg om];exact ok c h h2 h3
  ·show YZ (s.lv.set k (tZ l k s)) c=0;unfold YZ;rw [gq];have hck:c≠k:=λ h=>by
    rcases h2 with h2 | h2
    ·omega
    ·subst h; unfold Db at h2; rw [hu] at h2; cases h2
   rw [if_neg (λ h=>hck h.1)];refine zero c h1 ?_;rcases h2 with h2 | h2
   ·exact .inl om
   ·exact .inr h2
theorem amG (hv:Ow l d):∀(k:Nat) (s:DS),k≤l.length→Dm l d u k s→
  ((Qp l u k s).2 = -1∧Dm l d u 0 (Qp l u k s).1)∨∃q:Nat,(Qp l u k s).2=q∧q<k∧Dm l d u (q+1) (Qp l u k s).1∧wo l u q (Qp l u k s).1=true:=by
 intro k;induction k with
 | zero=>intro s _ h; exact .inl ⟨rfl,h⟩
 | succ k ih=>
  intro s hk h;rw [Qp];cases hf:wo l u k s with
  | true=>exact .inr ⟨k,rfl,om,h,hf⟩
  | false=>
   simp only [cond_false];rcases ih _ om (amF hv om h hf) with h | ⟨q,h1,h2,h3⟩
   ·exact .inl h
   ·exact .inr ⟨q,h1,om,h3⟩
theorem amH (hv:Ow l d):((IB l d).2 = -1∧Dm l d (fG l d) 0 (IB l d).1)∨∃q:Nat,(IB l d).2=q∧q<l.length∧Dm l d (fG l d) (q+1) (IB l d).1∧wo l (fG l d) q (IB l d).1=true:=
 amG hv _ _ (Nat.le_refl _) (aoA hv _)
structure Mt (l:List aD) (r:dh) (d:List bq):Prop where
 used:∀i,Db (fG l d) i=true→Db r.On i=true
 aN:∀i,i<l.length→Db r.On i=true→0≤(yQ l i).aN→Db r.On (yQ l i).aN.toNat=true∧mP l r i+(yQ l i).gB≤mP l r (yQ l i).aN.toNat
 gZ:∀i,i<l.length→Db r.On i=true→YZ (pO l d) i≤(yQ l i).gZ
 drw:∀x∈d,x.Low≤mP l r x.bN.toNat∧mP l r x.bN.toNat≤x.fO
theorem agL:xS l r d=true↔Mt l r d:=by
 unfold xS;rw [Bool.and_eq_true,List.all_eq_true,Bool.not_eq_true',List.any_eq_false];have hb:∀i,(!Ox l r (fG l d) (pO l d) i)=true↔(Db r.On i=false→Db (fG l d) i=false)∧(Db r.On i=true→(0≤(yQ l i).aN→Db r.On (yQ l i).aN.toNat=true∧mP l r i+(yQ l i).gB≤mP l r (yQ l i).aN.toNat)∧YZ (pO l d) i≤(yQ l i).gZ):=by
  intro i;unfold Ox Db yQ YZ;cases hon:r.On.getD i false with
  | false=>simp
  | true=>
   simp only [Bool.not_true,cond_false,Bool.not_eq_true',Bool.or_eq_false_iff,Bool.and_eq_false_iff,decide_eq_false_iff_not,Int.not_lt,Bool.not_eq_false'];constructor
   ·rintro ⟨h1,h2⟩;refine ⟨nofun,λ _=>⟨λ hp=>?_,h2⟩⟩;rcases h1 with h1 | h1
    ·exact absurd hp h1
    ·exact h1
   ·rintro ⟨_,h⟩;obtain ⟨h1,h2⟩:=h (by trivial);refine ⟨?_,h2⟩;by_cases hp:0≤(l.getD i au).aN
    ·exact .inr (h1 hp)
    ·exact .inl hp
 have hd:∀x,¬ aam l r x=true↔x.Low≤mP l r x.bN.toNat∧mP l r x.bN.toNat≤x.fO:=by
  intro x;unfold aam;rw [Bool.not_eq_true,Bool.not_eq_false',AA]
 constructor
 ·rintro ⟨h1,h2⟩;have h1:∀i,i<l.length→_:=λ i hi=>(hb i).1 (h1 i (List.mem_range.2 hi));refine ⟨λ i hi=>?_,λ i hi ho=>((h1 i hi).2 ho).1,λ i hi ho=>((h1 i hi).2 ho).2,λ x hx=>(hd x).1 (h2 x hx)⟩;have hlt:=qR hi;cases ho:Db r.On i with
  | true=>rfl
  | false=>rw [(h1 i hlt).1 ho] at hi; cases hi
 ·rintro ⟨h1,h2,h3,h4⟩;refine ⟨λ i hi=>(hb i).2 ⟨λ ho=>?_,λ ho=>⟨h2 i (List.mem_range.1 hi) ho,h3 i (List.mem_range.1 hi) ho⟩⟩,λ x hx=>(hd x).2 (h4 x hx)⟩;cases hu:Db (fG l d) i with
  | false=>rfl
  | true=>rw [h1 i hu] at ho; cases ho
theorem Oz (h:jq l d=true):eD l=0:=by
 unfold jq at h;simp only [Bool.and_eq_true] at h;simpa using h.1.1
theorem sw (h:jq l d=true):fC l r d=true↔Rok l r∧Mt l r d:=by
 unfold fC;rw [h];cases hr:vJ l r with
 | false=>
  simp;intro hk;rw [Dn.2 ⟨Oz h,hk⟩] at hr;cases hr
 | true=>
  simp only [Bool.not_true,Bool.or_self,cond_false];rw [agL];exact ⟨λ hm=>⟨(Dn.1 hr).2,hm⟩,λ hm=>hm.2⟩
theorem Y0 {v:Int} {lev:List Int} {t:Nat} (hv:v≤lev.getD t 0):lvN lev v≤t:=by
 rcases Nat.lt_or_ge t (lvN lev v) with h | h
 ·have:=akI t h; omega
 ·exact h
theorem akL {p:Int} (h:Ov p v=true) {j:Nat} (hij:i≤j) (hj:j<v.length):v.getD i 0≤v.getD j 0:=by
 rcases Nat.eq_or_lt_of_le hij with h1 | h1
 ·subst h1; exact Int.le_refl _
 ·exact Int.le_of_lt (akJ h i j h1 hj)
theorem akM (hv:Ow l d) (hr:Rok l r) (hm:Mt l r d) (h:Dm l d (fG l d) k s):∀j,Db (fG l d) j=true→(Sn s.a j).xR≤mP l r j:=by
 have key:∀m j,l.length - j≤m→Db (fG l d) j=true→(Sn s.a j).xR≤mP l r j:=by
  intro m;induction m with
  | zero=>intro j h1 h2; have:=qR h2; omega
  | succ m ih=>
   intro j h1 hj;have hlt:=qR hj;rcases h.just j hlt with h2 | ⟨q,h2,h3,h4⟩ | ⟨c,h2,h3,h4,h5,h6,h7⟩
   ·rw [h2];have:=Uh hv hr j hlt;show 0≤_;omega
   ·rw [h4];have:=(hm.drw _ (je dG h2)).1;have e:(d.getD q dG).bN.toNat=j:=by unfold xAt at h3; omega
    rw [e] at this;exact this
   ·rw [h7];have hc:=(hv.bN c h3).2.1;have h8:=ih c (by unfold yQ at h5; omega) h4;have h9:=hm.aN c h3 (hm.used c h4) om;have e:(yQ l c).aN.toNat=j:=by omega
    rw [e] at h9;have h10:=hr.bJ c h3;have h11:tZ l c s≤(r.dQ.getD c 0).toNat:=Y0 h8;have h12:=akL (hv.bJ c h3) h11 h10.2.1;refine Int.le_trans ?_ h9.2;show (l.getD c au).bJ.getD (tZ l c s) 0+(l.getD c au).gB≤mP l r c+(yQ l c).gB;unfold mP yQ;omega
 exact λ j=>key _ j (Nat.le_refl _)
theorem aiG {q:Nat} (hv:Ow l d) (hr:Rok l r) (hm:Mt l r d) (h:Dm l d (fG l d) (q+1) s) (hf:wo l (fG l d) q s=true):False:=by
 unfold wo at hf;rw [Bool.and_eq_true,Bool.not_eq_true'] at hf;have h1:=of_decide_eq_false hf.2;have hlt:=qR (l:=l) (d:=d) (j:=q) hf.1;have h2:=akM hv hr hm h q hf.1;have h3:=hr.bJ q hlt;have h4:tZ l q s≤(r.dQ.getD q 0).toNat:=Y0 h2;omega
theorem aiH (hv:Ow l d) (h:Dm l d (fG l d) 0 s):Rok l ⟨fG l d,s.lv⟩:=by
 refine ⟨sV l d,h.ll,λ i hi=>?_⟩;cases hu:Db (fG l d) i with
 | true=>
  have:=h.ok i (Nat.zero_le _) hi hu;unfold YZ yQ at this;show 0≤s.lv.getD i 0∧(s.lv.getD i 0).toNat<_∧s.lv.getD i 0<_;omega
 | false=>
  have:=h.zero i hi (.inr hu);unfold YZ at this;have h1:=(hv.bN i hi).2.2.1;show 0≤s.lv.getD i 0∧(s.lv.getD i 0).toNat<_∧s.lv.getD i 0<_;omega
theorem JR (h:Dm l d (fG l d) 0 s) (hu:Db (fG l d) i=true):mP l ⟨fG l d,s.lv⟩ i=(yQ l i).bJ.getD (tZ l i s) 0:=by
 have:=(h.ok i (Nat.zero_le _) (qR hu) hu).2;unfold YZ at this;unfold mP;show (l.getD i au).bJ.getD (s.lv.getD i 0).toNat 0=_;rw [this];rfl
theorem akN (hv:Ow l d) (h:Dm l d (fG l d) 0 s) (hcap:∀i,Db (fG l d) i=true→YZ (pO l d) i≤(yQ l i).gZ)
  (hhi:∀x∈d,mP l ⟨fG l d,s.lv⟩ x.bN.toNat≤x.fO):Mt l ⟨fG l d,s.lv⟩ d:=by
 refine ⟨λ i hi=>hi,λ i hi ho hp=>⟨afb hv ho hp,?_⟩,λ i hi ho=>hcap i ho,λ x hx=>⟨?_,hhi x hx⟩⟩
 ·have hpu:=afb hv ho hp;have h1:=h.up i (Nat.zero_le _) hi ho hp;have h2:=h.ok _ (Nat.zero_le _) (qR hpu) hpu;rw [JR h ho,JR h hpu];have h3:=agH (v:=(Sn s.a (yQ l i).aN.toNat).xR) (l:=(yQ l (yQ l i).aN.toNat).bJ) h2.1;exact Int.le_trans h1 h3
 ·have hu:=acg hv hx;obtain ⟨q,hq,rfl⟩:∃q,q<d.length∧x=xAt d q:=by
   obtain ⟨q,hq,e⟩:=List.mem_iff_getElem.1 hx;exact ⟨q,hq,by unfold xAt; rw [List.getD_eq_getElem?_getD,List.getElem?_eq_getElem hq,e]; rfl⟩
  rw [JR h hu];exact Int.le_trans (h.Low q hq) (agH (h.ok _ (Nat.zero_le _) (qR hu) hu).1)
structure Best (l:List aD) (d:List bq) (r:dh):Prop where
 ok:fC l r d=true
 On:r.On=fG l d
 zero:∀i,Db (fG l d) i=false→YZ r.dQ i=0
 least:∀q,fC l q d=true→∀i,Db (fG l d) i=true→Db q.On i=true∧YZ r.dQ i≤YZ q.dQ i
theorem afc (h:jq l d=true):pK l d=0:=by
 unfold pK;rw [h,Oz h];rfl
theorem JU (h:jq l d=true):((jr l d).2=0∧Best l d (jr l d).1)∨(jr l d=(RP,9)∧∀q,fC l q d=false):=by
 have hv:=Ed h;unfold jr;rw [afc h];simp only [bne_self_eq_false,cond_false];rcases amH hv with ⟨h1,h2⟩ | ⟨q,h1,h2,h3,h4⟩
 ·generalize IB l d=p at h1 h2;obtain ⟨s,f⟩:=p;simp only at h1 h2;subst h1;cases hm:fC l ⟨fG l d,s.lv⟩ d with
  | true=>
   refine .inl ⟨rfl,?_⟩;show Best l d ⟨fG l d,s.lv⟩;refine ⟨hm,rfl,λ i hi=>?_,λ q hq i hi=>?_⟩
   ·by_cases hl:i<l.length
    ·exact h2.zero i hl (.inr hi)
    ·exact MZ 0 (by show s.lv.length≤i; rw [h2.ll]; omega)
   ·obtain ⟨hr,hmt⟩:=(sw h).1 hq;refine ⟨hmt.used i hi,?_⟩;have h5:=akM hv hr hmt h2 i hi;have h6:tZ l i s≤(q.dQ.getD i 0).toNat:=Y0 h5;have h7:=(h2.ok i (Nat.zero_le _) (qR hi) hi).2;have h8:=hr.bJ i (qR hi);show YZ s.lv i≤YZ q.dQ i;rw [h7];unfold YZ;omega
  | false=>
   refine .inr ⟨rfl,λ q=>?_⟩;cases hq:fC l q d with
   | false=>rfl
   | true=>
    obtain ⟨hr,hmt⟩:=(sw h).1 hq;exfalso;have hle:=akM hv hr hmt h2;have:=(sw h).2 ⟨aiH hv h2,akN hv h2 (λ i hi=>hmt.gZ i (qR hi) (hmt.used i hi)) (λ x hx=>?_)⟩
    ·rw [hm] at this; cases this
    ·have hu:=acg hv hx;rw [JR h2 hu];have h6:tZ l x.bN.toNat s≤(q.dQ.getD x.bN.toNat 0).toNat:=Y0 (hle _ hu);have h8:=hr.bJ _ (qR hu);have h9:=akL (hv.bJ _ (qR hu)) h6 h8.2.1;have h10:=(hmt.drw x hx).2;unfold mP at h10;unfold yQ;omega
 ·refine .inr ⟨?_,λ r=>?_⟩
  ·rw [h1,decide_eq_true (by omega:(0:Int)≤(q:Nat))];rfl
  ·cases hq:fC l r d with
   | false=>rfl
   | true=>
    obtain ⟨hr,hmt⟩:=(sw h).1 hq;exact (aiG hv hr hmt h3 h4).elim
theorem Best.unique {r':dh} (hd:jq l d=true) (h:Best l d r) (h':Best l d r'):r=r':=by
 have e1:r.On=r'.On:=h.On.trans h'.On.symm;have l1:=((sw hd).1 h.ok).1.len;have l2:=((sw hd).1 h'.ok).1.len;have e2:r.dQ=r'.dQ:=by
  refine xP 0 om λ j _=>?_;cases hu:Db (fG l d) j with
  | true=>
   have a1:=(h.least _ h'.ok j hu).2;have a2:=(h'.least _ h.ok j hu).2;unfold YZ at a1 a2;omega
  | false=>
   have a1:=h.zero j hu;have a2:=h'.zero j hu;unfold YZ at a1 a2;omega
 cases r; cases r';simp only at e1 e2;rw [e1,e2]
def jnL (l:List aD) (u:List Bool):List Int→Prop
 | []=>True
 | k::t=>(0≤k∧k<l.length∧Db u k.toNat=true∧(∀k',t.head? = some k'→(yQ l k.toNat).aN=k'))∧jnL l u t
structure Good (l:List aD) (d:List bq) (last:Int) (c:List Int) (fst:Int):Prop where
 ne:c≠[]
 jn:jnL l (fG l d) c
 lo : -1≤fst
 hi:fst<d.length
 yes:0≤fst→(xAt d fst.toNat).bN=YZ c 0∧rwN l d last c (xAt d fst.toNat).Low=true
 no:fst<0→rwN l d last c 0=true
variable {e:List bq}
theorem akO (hd:Ow l d) (he:Ow l e) (hu:∀j,P6 d j=true→P6 e j=true) (hl:∀j,YZ (pO l d) j≤YZ (pO l e) j) (hs:∀x∈d,x∈e) (h:Mt l r e):Mt l r d:=
 ⟨λ i hi=>h.used i (VZ hd he hu i hi),h.aN,λ i hi ho=>Int.le_trans (hl i) (h.gZ i hi ho),λ x hx=>h.drw x (hs x hx)⟩
theorem aao (hs:∀x∈d,x∈e) (j:Nat) (h:P6 d j=true):P6 e j=true:=by
 unfold P6 at *;rw [List.any_eq_true] at *;obtain ⟨x,hx,h⟩:=h;exact ⟨x,hs x hx,h⟩
theorem Sq (hp:d.Perm e):jq l d=jq l e:=by
 unfold jq;rw [hp.length_eq];congr 2;rw [Bool.eq_iff_iff,List.any_eq_true,List.any_eq_true];exact ⟨λ ⟨x,h1,h2⟩=>⟨x,hp.mem_iff.1 h1,h2⟩,λ ⟨x,h1,h2⟩=>⟨x,hp.mem_iff.2 h1,h2⟩⟩
theorem JV (hp:d.Perm e) (h:fC l r d=true) (hd:jq l d=true):fC l r e=true:=by
 have he:jq l e=true:=by rw [← Sq hp]; exact hd
 obtain ⟨h1,h2⟩:=(sw hd).1 h;refine (sw he).2 ⟨h1,akO (Ed he) (Ed hd) (aao λ x hx=>hp.mem_iff.2 hx) (λ j=>?_) (λ x hx=>hp.mem_iff.2 hx) h2⟩;rw [agK (Ed he) (Ed hd) (λ j=>(aiF hp j).symm)];exact Int.le_refl _
theorem V3 (hp:d.Perm e) (hd:jq l d=true):fG l d=fG l e:=by
 have he:jq l e=true:=by rw [← Sq hp]; exact hd
 refine aiE (Ed hd) (Ed he) λ j=>?_;have a:=aao (d:=d) (e:=e) (λ x hx=>hp.mem_iff.1 hx) j;have b:=aao (d:=e) (e:=d) (λ x hx=>hp.mem_iff.2 hx) j;cases ha:P6 d j<;>cases hb:P6 e j<;>simp_all
theorem agM (hp:d.Perm e) (hd:jq l d=true):jr l d=jr l e:=by
 have he:jq l e=true:=by rw [← Sq hp]; exact hd
 rcases JU hd with ⟨h1,h2⟩ | ⟨h1,h2⟩
 ·rcases JU he with ⟨h3,h4⟩ | ⟨h3,h4⟩
  ·have h5:Best l d (jr l e).1:=by
    refine ⟨JV hp.symm h4.ok he,h4.On.trans (V3 hp hd).symm,λ i hi=>h4.zero i (by rw [← V3 hp hd]; exact hi),λ q hq i hi=>h4.least q (JV hp hq hd) i (by rw [← V3 hp hd]; exact hi)⟩
   exact Prod.ext (h2.unique hd h5) (h1.trans h3.symm)
  ·have:=h4 (jr l d).1;rw [JV hp h2.ok hd] at this;cases this
 ·rcases JU he with ⟨h3,h4⟩ | ⟨h3,h4⟩
  ·have:=h2 (jr l e).1;rw [JV hp.symm h4.ok he] at this;cases this
  ·rw [h1,h3]
def Bo (a:List Dem):List Int:=a.map Dem.xR
theorem Ee (a:List Dem) (j:Nat):(Bo a).getD j 0=(a.getD j Ou).xR:=by
 unfold Bo;rw [List.getD_eq_getElem?_getD,List.getElem?_map,List.getD_eq_getElem?_getD];cases a[j]? <;> rfl
theorem afd (a:List Dem) (j:Nat) (x:Dem):Bo (a.set j x)=(Bo a).set j x.xR:=by
 unfold Bo;rw [List.map_set]
theorem Ul (a:List Dem):(Bo a).length=a.length:=by simp [Bo]
theorem set_self (a:List Int) (j:Nat):a.set j (a.getD j 0)=a:=by
 refine xP 0 (by simp) λ k hk=>?_;rw [gq];split
 ·rename_i h; rw [h.1]
 ·rfl
theorem afe (a:List Int) (j:Nat) (v:Int) (h:v=a.getD j 0):a.set j v=a:=by
 rw [h,set_self]
theorem Sr (n:Nat) (d:List bq) (i:Nat):Bo (xU n d (i+1))=(Bo (xU n d i)).set (d.getD i dG).bN.toNat (if (d.getD i dG).Low > (Bo (xU n d i)).getD (d.getD i dG).bN.toNat 0 then (d.getD i dG).Low else (Bo (xU n d i)).getD (d.getD i dG).bN.toNat 0):=by
 rw [xU,Ee];by_cases h:((xU n d i).getD (d.getD i dG).bN.toNat Ou).xR<(d.getD i dG).Low
 ·rw [decide_eq_true h,cond_true,afd,if_pos h]
 ·rw [decide_eq_false h,cond_false,if_neg h,afe _ _ _ (Ee _ _).symm]
theorem akP (hu:u.length=l.length) (h:DOk l s) (hl:amD l s):Rok l ⟨u,s.lv⟩:=
 ⟨hu,h.ll,λ i hi=>by
  have:=hl i hi;show 0≤s.lv.getD i 0∧(s.lv.getD i 0).toNat<_∧s.lv.getD i 0<_;omega⟩
theorem amI (hf:wo l u k s=false) (h:amD l s):amD l (Bn l u k s):=by
 intro j hj;unfold Bn;cases hu:u.getD k false with
 | false=>exact h j hj
 | true=>
  unfold wo at hf;rw [hu,Bool.true_and,Bool.not_eq_false'] at hf;have:=of_decide_eq_true hf;show 0≤(s.lv.set k (tZ l k s)).getD j 0∧(s.lv.set k (tZ l k s)).getD j 0<_;rw [gq];split
  ·rename_i hjk; rw [hjk.1]; omega
  ·exact h j hj
theorem Xy {l m:List α} (d:α) (h:l.length≤i):(l++m).getD i d=m.getD (i - l.length) d:=by
 rw [List.getD_eq_getElem?_getD,List.getElem?_append_right h,List.getD_eq_getElem?_getD]
structure arQ (l:List aD) (d:List bq) (r:dh) (ok:Bool):Prop where
 is:ok=((jr l d).2==0)
 yes:ok=true→fC l r d=true
 no:ok=false→r=(jr l d).1
theorem jg {n_:Int} {wB:Int} {yt:Int}:W (iN n_ wB yt) (λ r=>r=dK n_ wB yt):=by
 unfold iN;refine av ?_;rfl
theorem V4 {s_:aD}:W (rF s_) (λ r=>r=Ud s_):=by
 unfold rF;refine av ?_;rfl
theorem zm {s_:List aD} (h1:s_.length≤2000000):W (lK s_) (λ r=>r=s_.any (Ud)):=
 yw (Rh (TV (p:=λ x=>rF x) (P:=Ud) (λ x hx=>lT (V4)) om) (uE _ _))
theorem aap {s_:aD} {at_:Int} (h1:0≤at_) (h2:at_≤2000000) (h3:s_.bJ.length≤2000000):W (Cn s_ at_) (λ r=>r=zk s_ at_):=by
 unfold Cn;refine wn<|aH (jg) λ v1 hv1=>?_;subst v1;refine aH (gV λ hc=>lT (jg)) λ v2 hv2=>?_;subst v2;refine aH (gV λ hc=>lT (jg)) λ v3 hv3=>?_;subst v3;refine bL ?_ ?_<;>intro c1
 ·have gM:=c1;have c1:=nr c1;refine av ?_;(unfold zk; rw [show XA s_ at_=true from gM]; rfl)
 ·have gM:=c1;have c1:=nr c1;refine bH (λ (g1:Int)=>0≤g1∧g1≤s_.bJ.length∧Ov (if g1.toNat=0 then 0 else s_.bJ.getD (g1.toNat - 1) 0) (s_.bJ.drop g1.toNat)=Ov 0 s_.bJ) (λ (g1:Int)=>(s_.bJ.length - g1).toNat) ?_ ?_
  ·intro aj g1 d9 bV;obtain ⟨dN,bO,bE⟩:=d9;unfold Kq;obtain ⟨i,rfl⟩:=Int.eq_ofNat_of_zero_le dN;refine wi ?_ ?_<;>intro c2
   ·have hlt:i<s_.bJ.length:=om;have hst:=ae5 hlt rfl;rw [show ((i:Int).toNat)=i from rfl] at bE;rw [hst] at bE;have e1:(((i:Int) - 1).toNat)=i - 1:=om;simp only [e1,Int.toNat_natCast] at *;refine wn<|aH (jg) λ v6 hv6=>?_;subst v6;refine wm<|bL ?_ ?_<;>intro c3
    ·have jI:=c3;have c3:=nr c3;refine av ?_;(unfold zk; rw [show XA s_ at_=false from gM,← bE]; rw [jI]; rfl)
    ·have jI:=c3;have c3:=nr c3;refine wn<|bV _ ?_ ?_
     ·(refine ⟨ob,ob,?_⟩; rw [← bE,jI]; rw [show ((i:Int)+1).toNat=i+1 by omega,if_neg om]; rfl)
     ·exact ob
   ·refine av ?_;have e:i=s_.bJ.length:=om;unfold zk; rw [show XA s_ at_=false from gM,← bE,show (i:Int).toNat=i from rfl,e,List.drop_length]; rfl
  ·(refine ⟨ob,ob,rfl⟩)
variable {l_:List aD}
theorem xV (h1:l_.length≤2000000):W (oW l_) (λ r=>r=eD l_):=by
 unfold oW;refine aH (gV λ hc=>lT (zm ob)) λ v1 hv1=>?_;subst v1;refine bL ?_ ?_<;>intro c1
 ·have gM:=c1;have c1:=nr c1;refine av ?_;(unfold eD; rw [gM]; rfl)
 ·have gM:=c1;have c1:=nr c1;have hbig:∀i:Nat,i<l_.length→Ud (l_.getD i au)=false:=nL au (by have:=gM; simp only [Bool.or_eq_false_iff] at this; exact this.2);refine bH (λ (g1:Int)=>0≤g1∧g1≤l_.length∧VX g1.toNat (l_.drop g1.toNat)=VX 0 l_) (λ (g1:Int)=>(l_.length - g1).toNat) ?_ ?_
  ·intro aj g1 d9 bV;obtain ⟨dN,bO,bE⟩:=d9;unfold Kr;obtain ⟨i,rfl⟩:=Int.eq_ofNat_of_zero_le dN;refine wi ?_ ?_<;>intro c2
   ·have hlt:i<l_.length:=om;have hb:=hbig i hlt;have hbl:(l_.getD i au).bJ.length≤16:=(by unfold Ud at hb; have:=of_decide_eq_false hb; omega);rw [show ((i:Int).toNat)=i from rfl,drop_cons au hlt,VX] at bE;simp only [Int.toNat_natCast] at *;refine wn<|aH (aap om om om) λ v4 hv4=>?_;subst v4;refine bL ?_ ?_<;>intro c3
    ·have jI:=c3;have c3:=nr c3;refine av ?_;(unfold eD; rw [gM,← bE,show zk (l_.getD i au) i=false by simpa using jI]; rfl)
    ·have jI:=c3;have c3:=nr c3;refine wn<|bV _ ?_ ?_
     ·(refine ⟨ob,ob,?_⟩; rw [← bE,show zk (l_.getD i au) i=true by simpa using jI,show ((i:Int)+1).toNat=i+1 by omega]; rfl)
     ·exact ob
   ·refine av ?_;have e:i=l_.length:=om;unfold eD; rw [gM,← bE,show (i:Int).toNat=i from rfl,e,List.drop_length]; rfl
  ·(refine ⟨ob,ob,rfl⟩)
theorem aaq {r_:dh} (h1:l_.length≤2000000) (h2:r_.dQ.length≤2000000):W (Cw l_ r_) (λ r=>r=vJ l_ r_):=by
 unfold Cw;refine aH (xV ob) λ v1 hv1=>?_;subst v1;refine bL ?_ ?_<;>intro c1
 ·have gM:=c1;have c1:=nr c1;refine av ?_;(unfold vJ; rw [gM]; rfl)
 ·have gM:=c1;have c1:=nr c1;have hck:eD l_=0∧r_.On.length=l_.length∧r_.dQ.length=l_.length:=(by have:=gM; simp only [Bool.or_eq_false_iff,bne_eq_false_iff_eq] at this; omega);obtain ⟨b1,b2,b3⟩:=JO hck.1;refine bH (λ (g1:Int)=>0≤g1∧g1≤l_.length∧rlN (l_.drop g1.toNat) (r_.dQ.drop g1.toNat)=rlN l_ r_.dQ) (λ (g1:Int)=>(l_.length - g1).toNat) ?_ ?_
  ·intro aj g1 d9 bV;obtain ⟨dN,bO,bE⟩:=d9;unfold KD;obtain ⟨i,rfl⟩:=Int.eq_ofNat_of_zero_le dN;refine wi ?_ ?_<;>intro c2
   ·have hlt:i<l_.length:=om;have hb:=b2 i hlt;rw [show ((i:Int).toNat)=i from rfl,drop_cons au hlt,drop_cons 0 (show i<r_.dQ.length by omega),rlN] at bE;simp only [Int.toNat_natCast] at *;refine wm<|wn ?_;refine aH (jg) λ v4 hv4=>?_;subst v4;refine bL ?_ ?_<;>intro c3
    ·have jI:=c3;have c3:=nr c3;refine av ?_;(unfold vJ; rw [gM,← bE]; rw [show dK (r_.dQ.getD i 0) 0 _=false by simpa using jI]; rfl)
    ·have jI:=c3;have c3:=nr c3;refine wn<|bV _ ?_ ?_
     ·(refine ⟨ob,ob,?_⟩; rw [← bE,show dK (r_.dQ.getD i 0) 0 _=true by simpa using jI,show ((i:Int)+1).toNat=i+1 by omega]; rfl)
     ·exact ob
   ·refine av ?_;have e:i=l_.length:=om;unfold vJ; rw [gM,← bE,show (i:Int).toNat=i from rfl,e,List.drop_length]; cases List.drop l_.length r_.dQ<;>rfl
  ·(refine ⟨ob,ob,rfl⟩)
theorem V5 {x_:bq} {pX:List aD} (h1:pX.length≤2000000):W (rJ x_ pX) (λ r=>r=aal pX.length x_):=by
 unfold rJ;refine wn<|aH (jg) λ v1 hv1=>?_;subst v1;refine aH (gV λ hc=>lT (jg)) λ v2 hv2=>?_;subst v2;refine aH (gV λ hc=>lT (jg)) λ v3 hv3=>?_;subst v3;refine aH (gV λ hc=>lT (jg)) λ v4 hv4=>?_;subst v4;refine av ?_;rfl
theorem AB {s_:List bq} {f_:List aD} (h1:s_.length≤2000000) (h2:f_.length≤2000000):W (lY s_ f_) (λ r=>r=s_.any (aal f_.length)):=
 yw (Rh (TV (p:=λ x=>rJ x f_) (P:=aal f_.length) (λ x hx=>lT (V5 h2)) om) (uE _ _))
variable {d_:List bq}
theorem OA (h1:l_.length≤2000000) (h2:d_.length≤2000000):W (wX l_ d_) (λ r=>r=jq l_ d_):=by
 unfold wX;refine aH (xV ob) λ v1 hv1=>?_;subst v1;refine aH (gV λ hc=>lT (AB ob ob)) λ v2 hv2=>?_;subst v2;refine av ?_;rfl
theorem mH {s_:List aD}:W (iO s_) (λ r=>r=s_):=by
 unfold iO;refine av ?_;rfl
theorem Gn (h1:Ow l_ d_):W (vS l_ d_) (λ r=>r=fG l_ d_):=by
 obtain ⟨vl,vd,vs,_,vx⟩:=h1;unfold vS;refine wn<|bH (λ (g1:Int×List Bool)=>0≤g1.1∧g1.1≤d_.length∧g1.2=qw l_.length (d_.take g1.1.toNat)) (λ (g1:Int×List Bool)=>(d_.length - g1.1).toNat) ?_ ?_
 ·intro aj g1 d9 bV;obtain ⟨dN,bO,bE⟩:=d9;unfold Nh;refine wi ?_ ?_<;>intro c1
  ·have hlt:g1.1.toNat<d_.length:=om;have hx:=vx _ (je dG hlt);have hml:g1.2.length=l_.length:=(by rw [bE]; exact sU ..);refine wm<|wn ?_;refine bV _ ?_ ?_
   ·(refine ⟨ob,ob,?_⟩; dsimp only; have e:qw l_.length (d_.take (g1.1.toNat+1))=(qw l_.length (d_.take g1.1.toNat)).set (d_.getD g1.1.toNat dG).bN.toNat true:=vo _ _ dG hlt; rw [show (g1.1+1).toNat=g1.1.toNat+1 by omega,bE,e])
   ·exact ob
  ·refine aH (mH) λ v1 hv1=>?_;subst v1;refine wn<|akm (λ (k2:Nat) (g2:List Bool)=>g2=P5 (iA l_) l_.length k2 (qw l_.length d_)) ?_ ?_ ?_
   ·intro k2 dJ g2 arR mO qx;unfold KC;refine aO (by (rw [mO,Da (nE _),sU]; omega)) ?_;refine aO (by (rw [mO,Da (nE _),sU]; omega)) ?_;unfold Bc;refine aO (by (rw [List.length_set,mO,Da (nE _),sU]; omega)) ?_;refine bL ?_ ?_<;>intro c2
    ·have kE:=c2;have c2:=nr c2;have hp:=vs (l_.length - 1 - k2) om;have hl2:g2.length=l_.length:=(by rw [mO,Da (nE _),sU]);refine wn<|qx _ ?_;(rw [Int.toNat_natCast,gq,if_pos ⟨rfl,om⟩] at kE; show _=iA l_ (l_.length - 1 - k2) (P5 (iA l_) l_.length k2 (qw l_.length d_)); rw [← mO]; unfold iA; rw [kE]; rfl)
    ·have kE:=c2;have c2:=nr c2;have hl2:g2.length=l_.length:=(by rw [mO,Da (nE _),sU]);refine qx _ ?_;(rw [Int.toNat_natCast,gq,if_pos ⟨rfl,om⟩] at kE; show _=iA l_ (l_.length - 1 - k2) (P5 (iA l_) l_.length k2 (qw l_.length d_)); rw [← mO]; unfold iA; rw [kE]; rfl)
   ·intro g2 mO;unfold KA;refine av ?_;(rw [mO]; exact Uf _ _ _)
   ·(simp only [bE]; rw [show g1.1.toNat=d_.length by omega,List.take_length]; rfl)
 ·(refine ⟨ob,ob,rfl⟩)
theorem aar (h1:Ow l_ d_):W (Cx l_ d_) (λ r=>r=pO l_ d_):=by
 have hsm:=λ k hk=>Ug h1 k hk;obtain ⟨vl,vd,vs,_,vx⟩:=h1;unfold Cx;refine wn<|bH (λ (g1:Int×List Int)=>0≤g1.1∧g1.1≤d_.length∧g1.2=zl l_.length (d_.take g1.1.toNat)) (λ (g1:Int×List Int)=>(d_.length - g1.1).toNat) ?_ ?_
 ·intro aj g1 d9 bV;obtain ⟨dN,bO,bE⟩:=d9;unfold KE;refine wi ?_ ?_<;>intro c1
  ·have hlt:g1.1.toNat<d_.length:=om;have hx:=vx _ (je dG hlt);have hml:g1.2.length=l_.length:=(by rw [bE]; exact Iz ..);have hbd:=ae9 l_.length d_ (λ x hx=>by have:=vx x hx; omega) g1.1.toNat om (d_.getD g1.1.toNat dG).bN.toNat;rw [← bE] at hbd;refine wm<|wm ?_;refine wn<|bV _ ?_ ?_
   ·(refine ⟨ob,ob,?_⟩; dsimp only; have e:zl l_.length (d_.take (g1.1.toNat+1))=(zl l_.length (d_.take g1.1.toNat)).set (d_.getD g1.1.toNat dG).bN.toNat ((zl l_.length (d_.take g1.1.toNat)).getD (d_.getD g1.1.toNat dG).bN.toNat 0+(d_.getD g1.1.toNat dG).Load):=vo _ _ dG hlt; rw [show (g1.1+1).toNat=g1.1.toNat+1 by omega,e,← bE])
   ·exact ob
  ·refine aH (mH) λ v1 hv1=>?_;subst v1;refine wn<|akm (λ (k2:Nat) (g2:List Int)=>g2=P5 (jl l_) l_.length k2 (zl l_.length d_)) ?_ ?_ ?_
   ·intro k2 dJ g2 arR mO qx;unfold Ht;refine bL ?_ ?_<;>intro c2
    ·have kE:=c2;have c2:=nr c2;have hp:=vs (l_.length - 1 - k2) om;have hl2:g2.length=l_.length:=(by rw [mO,Da (JQ _),Iz]);have hbd:=hsm k2 om;rw [← mO] at hbd;have hb1:=hbd (l_.getD (l_.length - 1 - k2) au).aN.toNat;have hb2:=hbd (l_.length - 1 - k2);rw [Int.toNat_natCast];refine wm<|wm ?_;refine qx _ ?_;(show _=jl l_ (l_.length - 1 - k2) (P5 (jl l_) l_.length k2 (zl l_.length d_)); rw [← mO]; unfold jl; rw [kE]; rfl)
    ·have kE:=c2;have c2:=nr c2;refine qx _ ?_;(show _=jl l_ (l_.length - 1 - k2) (P5 (jl l_) l_.length k2 (zl l_.length d_)); rw [← mO]; unfold jl; rw [kE]; rfl)
   ·intro g2 mO;unfold Hr;refine av ?_;(rw [mO]; exact Uf _ _ _)
   ·(simp only [bE]; rw [show g1.1.toNat=d_.length by omega,List.take_length]; rfl)
 ·(refine ⟨ob,ob,rfl⟩)
theorem V6 {x_:bq} {pX:List aD} {aiu:List Bool} {VL:List Int} (h1:0≤x_.bN) (h2:x_.bN<pX.length) (h3:x_.bN<VL.length) (h4:0≤VL.getD x_.bN.toNat 0) (h5:VL.getD x_.bN.toNat 0<(pX.getD x_.bN.toNat au).bJ.length):W (rO x_ pX aiu VL) (λ r=>r=aam pX ⟨aiu,VL⟩ x_):=by
 unfold rO;refine wm<|wn ?_;refine aH (jg) λ v1 hv1=>?_;subst v1;refine av ?_;rfl
theorem xW {s_:List bq} {Bd:List aD} {BJ:List Bool} {BK:List Int} (h1:s_.length≤2000000) (h2:∀x∈s_,0≤x.bN∧x.bN<Bd.length) (h3:Rok Bd ⟨BJ,BK⟩):W (kD s_ Bd BJ BK) (λ r=>r=s_.any (aam Bd ⟨BJ,BK⟩)):=
 yw (Rh (TV (p:=λ x=>rO x Bd BJ BK) (P:=aam Bd ⟨BJ,BK⟩) (λ x hx=>lT (by obtain ⟨q1,q2⟩:=h2 x hx; obtain ⟨r1,r2,r3⟩:=h3; have r4:=r3 x.bN.toNat om; exact V6 q1 q2 (by dsimp only at r2; omega) r4.1 r4.2.2)) om) (uE _ _))
theorem OB {r_:dh} (h1:l_.length≤2000000) (h2:d_.length≤2000000) (h3:r_.dQ.length≤2000000):W (wZ l_ r_ d_) (λ r=>r=fC l_ r_ d_):=by
 unfold wZ;refine aH (aaq ob ob) λ v1 hv1=>?_;subst v1;refine aH (gV λ hc=>lT (OA ob ob)) λ v2 hv2=>?_;subst v2;refine bL ?_ ?_<;>intro c1
 ·have gM:=c1;have c1:=nr c1;refine av ?_;(unfold fC; rw [gM]; rfl)
 ·have gM:=c1;have c1:=nr c1;have hrd:vJ l_ r_=true∧jq l_ d_=true:=(by have:=gM; simpa using this);have hv:=Ed hrd.2;have hr:=(Dn.1 hrd.1).2;have hrk:=hr;have hvb:=λ i hi=>Uh hv hr i hi;have hul:=sV l_ d_;have hll:=Sm l_ d_;obtain ⟨r1,r2,r3⟩:=hr;obtain ⟨vl,vd,vs,_,vx⟩:=id hv;have hmf:fC l_ r_ d_=xS l_ r_ d_:=(by unfold fC; rw [gM]; rfl);refine aH (Gn hv) λ v3 hv3=>?_;subst v3;refine aH (aar hv) λ v4 hv4=>?_;subst v4;refine bH (λ (g1:Int)=>0≤g1∧g1≤l_.length∧(∀j,j<g1.toNat→Ox l_ r_ (fG l_ d_) (pO l_ d_) j=false)) (λ (g1:Int)=>(l_.length - g1).toNat) ?_ ?_
  ·intro aj g1 d9 bV;obtain ⟨dN,bO,bE⟩:=d9;unfold KF;obtain ⟨i,rfl⟩:=Int.eq_ofNat_of_zero_le dN;refine wi ?_ ?_<;>intro c2
   ·have hlt:i<l_.length:=om;have hp:=vs i hlt;have hp2:=vs (l_.getD i au).aN.toNat;have hr3:=r3 i hlt;have hr4:=r3 (l_.getD i au).aN.toNat;have hv1:=hvb i hlt;unfold mP at hv1;simp only [Int.toNat_natCast] at *;refine wm<|bL ?_ ?_<;>intro c3
    ·have jI:=c3;have c3:=nr c3;refine wn<|bL ?_ ?_<;>intro c4
     ·have sj:=c4;have c4:=nr c4;refine av ?_;(rw [hmf]; unfold xS; rw [Bj hlt (by unfold Ox; rw [jI,sj]; rfl)]; rfl)
     ·have sj:=c4;have c4:=nr c4;refine wn<|bV _ ?_ ?_
      ·(refine ⟨ob,ob,λ j hj=>?_⟩; by_cases q:j<i; (exact bE j q); (have e:j=i:=by omega); subst e; unfold Ox; rw [jI,sj]; rfl)
      ·exact ob
    ·have jI:=c3;have c3:=nr c3;refine aO (by (intro q1; have:=of_decide_eq_true q1; omega)) ?_;refine aO (by (intro q1 _; have:=of_decide_eq_true q1; omega)) ?_;refine aO (by (intro q1 _; have:=of_decide_eq_true q1; omega)) ?_;refine aO (by (intro q1 _; have:=of_decide_eq_true q1; have:=hr4 om; omega)) ?_;refine aO (by (intro q1 _; have:=of_decide_eq_true q1; omega)) ?_;refine aO (by (intro q1 _; have:=of_decide_eq_true q1; omega)) ?_;refine aO (by (intro q1 _; have:=of_decide_eq_true q1; unfold aF; omega)) ?_;refine aO (by (intro _; omega)) ?_;refine bL ?_ ?_<;>intro c5
     ·have AO:=c5;have c5:=nr c5;refine av ?_;(rw [hmf]; unfold xS; rw [Bj hlt (by unfold Ox mP; rw [jI]; simp only [cond_false]; rw [AO]; rfl)]; rfl)
     ·have AO:=c5;have c5:=nr c5;refine wn<|bV _ ?_ ?_
      ·(refine ⟨ob,ob,λ j hj=>?_⟩; by_cases q:j<i; (exact bE j q); (have e:j=i:=by omega); subst e; unfold Ox mP; rw [jI]; exact AO)
      ·exact ob
   ·refine aH (xW om (λ x hx=>by have:=vx x hx; omega) hrk) λ v5 hv5=>?_;subst v5;refine av ?_;(rw [hmf]; unfold xS; rw [Oy λ j hj=>(by rw [bE j om]; rfl)]; rfl)
  ·(refine ⟨ob,ob,λ j hj=>absurd hj (Nat.not_lt_zero j)⟩)
end Go.Proofs.YtccjmcmolnbiiaaGreatDoor.Sp
namespace Go.Proofs.YtccjmcmolnbiiaaGreatDoor
open Go.Ab
set_option maxRecDepth 100000
structure akQ (l:List eG):Prop where
 len:l.length≤32
 af:∀i,i<l.length→∀x∈(l.getD i dn).dY,0≤x∧x<(i:Int)
structure amJ (l:List dD):Prop where
 len:l.length≤16
 par:∀i,i<l.length → -1≤(l.getD i dH).aN∧(l.getD i dH).aN<(i:Int)
structure apO (n:Int) (g:cK):Prop where
 pl:0<g.bS.length
 fl:0<g.ak.length∧g.ak.length≤8
 pn:∀x∈g.bS,0≤x∧x<n
structure LC (p:bn) (u:oJ):Prop where
 g0:0≤u.dx
 gl:u.dx<p.ay.length
 f0:0≤u.gy
 fl:u.gy<(p.ay.getD u.dx.toNat aG).ak.length
theorem dZ {P:Nat→Prop} {i:Int} (h:∀j:Nat,(j:Int)<i→P j) (h0:0≤i) (hp:P i.toNat):∀j:Nat,(j:Int)<i+1→P j:=λ j hj=>by
 by_cases q:(j:Int)<i
 ·exact h j q
 ·have e:j=i.toNat:=by omega
  rw [e]; exact hp
structure akR (p:bn):Prop where
 pn:0≤p.bS∧p.bS≤64
 gl:p.ay.length≤24
 gr:∀g∈p.ay,apO p.bS g
variable {α:Type}
theorem kC {P:α→Prop} {l:List α} (d:α) (h:∀j,j<l.length→P (l.getD j d)):∀x∈l,P x:=λ x hx=>by
 obtain ⟨i,hi,rfl⟩:=List.mem_iff_getElem.1 hx;have:=h i hi;rwa [List.getD_eq_getElem?_getD,List.getElem?_eq_getElem hi] at this
theorem aas {s:ByteArray} {c:Bool} (h:((s.toList==({ data:=#[] }:ByteArray).toList)||c)=false):0<s.size:=by
 simp only [Bool.or_eq_false_iff] at h;rcases Nat.eq_zero_or_pos s.size with e | e
 ·exfalso;have e2:s=({ data:=#[] }:ByteArray):=by
   cases s with
   | mk d=>cases d with
    | mk l=>cases l with
     | nil=>rfl
     | cons a t=>simp [ByteArray.size] at e
  rw [e2] at h;simp at h
 ·exact e
theorem aiI {s:ByteArray} {c d:Bool} (h:((((s.toList==({ data:=#[] }:ByteArray).toList)||(decide ((16:Int)<((s.size:Nat):Int))))||c)||d)=false):0<s.size∧s.size≤16:=by
 simp only [Bool.or_eq_false_iff] at h;refine ⟨aas (c:=false) (by simp only [Bool.or_eq_false_iff]; exact ⟨h.1.1.1,trivial⟩),?_⟩;have:=of_decide_eq_false h.1.1.2;omega
theorem Sv {dF:List Int} (h1:dF.length≤2000000):W (slices_Clone_int dF) (λ r=>r=dF):=by
 unfold slices_Clone_int;refine wn<|av ?_;rfl
variable {s_:List Int}
theorem qI (h1:s_.length≤2000000):W (jU s_) (λ r=>r=s_):=by
 unfold jU;refine wn<|av ?_;rfl
theorem uf {s_:List Bool} (h1:s_.length≤2000000):W (lH s_) (λ r=>r=s_):=by
 unfold lH;refine wn<|av ?_;rfl
theorem IC {s_:List aT} (h1:s_.length≤2000000):W (mK s_) (λ r=>r=s_):=by
 unfold mK;refine wn<|av ?_;rfl
theorem Mc {s_:Nat} {dF:List Int} (h1:s_≤dF.length) (h2:s_≤2000000):W (nT s_ dF) (λ r=>r=dF.take s_):=by
 unfold nT;refine wn<|av ?_;rfl
structure Ef (b:aS):Prop where
 cl:b.bR.length≤2000000
 ch:aeY b.bR
 su:b.bD.length≤2000000
 gr:∀g∈b.aR.ay,g.bS.length≤2000000
 re:b.aY.length≤2000000
 ra:∀g∈b.aY,g.dY.length≤2000000
 dm:b.cB.length≤2000000
structure ank (b:aS):Prop where
 cl:eD b.bR=0
 su:Sp.eD b.bD=0
 pn:akR b.aR
 rs:akQ b.aY
 dm:amJ b.cB
structure abo (n:Nat) (x:bM):Prop where
 k0:0≤x.eZ
 kl:x.eZ<n
 l0:0≤x.Low
 lh:x.Low≤x.fO
 hi:x.fO≤4000000000
structure agN (n:Nat) (x:bq):Prop where
 k0:0≤x.bN
 kl:x.bN<n
 l0:0≤x.Low
 lh:x.Low≤x.fO
 hi:x.fO≤5000
 ld:0≤x.Load∧x.Load≤10000
structure aoB (b:aS) (n:aJ):Prop where
 ll:n.bY.length≤32
 dl:n.fJ.length≤32
 fl:n.ak.length≤10
 lm:∀x∈n.bY,abo b.bR.length x
 dw:∀x∈n.fJ,agN b.bD.length x
 rs:∀x∈n.aY,0≤x∧x<b.aY.length
 dm : -1≤n.fI∧n.fI<b.cB.length
structure Md (l:List aJ):Prop where
 len:l.length≤2000000
 nd:∀n∈l,n.aY.length≤2000000∧n.bT.length≤2000000
structure Qq (g:bF):Prop where
 st:g.dA.length≤2000000
 on:g.fA.On.length≤2000000
 lv:g.fA.dQ.length≤2000000
 us:g.dP.length≤2000000
 re:g.dU.length≤2000000
 po:g.fq.length≤2000000
structure abp (s:gY):Prop where
 sz:Ef s.bG
 val:ank s.bG
 nl:s.dB.length≤12
 nd:∀n∈s.dB,aoB s.bG n
 nsz:Md s.dB
 ml:s.aQ.length≤10000
 gs:Qq s.aW
structure agO (s:gY):Prop where
 mem:∀m∈s.aQ,0≤m∧m<s.dB.length
 st:s.aW.dA.length=s.bG.bR.length
 on:s.aW.fA.On.length=s.bG.bD.length
 lv:s.aW.fA.dQ.length=s.bG.bD.length
 re:s.aW.dU.length=s.bG.aY.length
 po:s.aW.fq.length=s.bG.cB.length
theorem iT {v_:Int} (h1:s_.length≤2000000):slices_Contains_int s_ v_ (s_.contains v_):=aah h1
theorem pQ {x_:Int} {Cr:Int} {oq:Int}:W (qh x_ Cr oq) (λ r=>r=(decide (Cr≤x_)&&decide (x_≤oq))):=by
 unfold qh;refine av ?_;rfl
theorem XB {r_:dh} (h1:r_.On.length≤2000000) (h2:r_.dQ.length≤2000000):W (Hy r_) (λ r=>r=r_):=by
 unfold Hy;refine aH (uf ob) λ v1 hv1=>?_;subst v1;refine aH (qI ob) λ v2 hv2=>?_;subst v2;refine av ?_;rfl
theorem aff {g_:bF} (h1:Qq g_):W (PK g_) (λ r=>r=g_):=by
 obtain ⟨z1,z2,z3,z4,z5,z6⟩:=h1;unfold PK;refine aH (qI ob) λ v1 hv1=>?_;subst v1;refine aH (XB ob ob) λ v2 hv2=>?_;subst v2;refine aH (IC ob) λ v3 hv3=>?_;subst v3;refine aH (uf ob) λ v4 hv4=>?_;subst v4;refine aH (uf ob) λ v5 hv5=>?_;subst v5;refine av ?_;rfl
theorem zn (f:qD→Option Int) (k k':qD) (n:Int):Ch (Vr f k n) k'=if k'=k then n else Ch f k':=by
 unfold Ch Vr;split<;>rfl
theorem akS {l:List aI} {s:List Int} (h:(vI l s).2=0):eD l=0∧lU l s=true∧(vI l s).1=gD l s:=by
 unfold vI at h ⊢;cases h1:eD l != 0 with
 | true=>rw [h1] at h; simp at h1; exact absurd h h1
 | false=>
  cases h2:lU l s with
  | false=>rw [h1,h2] at h; cases h
  | true=>exact ⟨by simpa using h1,rfl,rfl⟩
theorem akT {l:List aI} {s:List Int} (h1:eD l=0) (h2:lU l s=true) (j:Nat) (hj:j<l.length):1≤((gD l s).getD j dS).jm∧((gD l s).getD j dS).jm≤16777216:=by
 have:=mD (PZ (uW h1) h2 j hj).2.2.1;exact ⟨this.2.2.1,this.2.2.2.1⟩
theorem JW {Ns:Int} {Bb:List aI} {vB:List aD} {ZU:Int} {ZV:List cK} {ZW:List eG} {ZX:List dD} {Gi:List aJ} {ZY:List Int} {Z0:List Int} {Z4:List Bool} {Nt:List Int} {Nu:List aT} {DT:List Bool} {DU:List Bool} {Nv:Bool} (h1:0≤Ns) (h2:Ns<DT.length):W (kW Ns Bb vB ZU ZV ZW ZX Gi ZY Z0 Z4 Nt Nu DT DU Nv) (λ r=>r=!(DT.getD Ns.toNat false)):=by
 unfold kW;refine wn<|av ?_;rfl
theorem Bp {Bd:List aI} {BJ:List aD} {BK:Int} {RS:List cK} {RU:List eG} {RX:List dD} {L9:List aJ} {RY:List Int} {RZ:List Int} {R3:List Bool} {vC:List Int} {vD:List aT} {sK:List Bool} {sM:List Bool} {vE:Bool} (h1:s_.length≤2000000) (h2:∀x∈s_,0≤x∧x<sK.length):W (mg s_ Bd BJ BK RS RU RX L9 RY RZ R3 vC vD sK sM vE) (λ r=>r=s_.any (λ x=>!(sK.getD x.toNat false))):=
 yw (Rh (TV (p:=λ x=>kW x Bd BJ BK RS RU RX L9 RY RZ R3 vC vD sK sM vE) (P:=λ x=>!(sK.getD x.toNat false)) (λ x hx=>lT (JW (h2 x hx).1 (h2 x hx).2)) om) (uE _ _))
theorem IE {m_:Int} {Bb:List aI} {vB:List aD} {ZU:Int} {ZV:List cK} {ZW:List eG} {ZX:List dD} {Gi:List aJ} {ZY:List Int} {Z0:List Int} {Z4:List Bool} {Nt:List Int} {Nu:List aT} {DT:List Bool} {DU:List Bool} {Nv:Bool} (h1:0≤m_) (h2:m_<Gi.length) (h3:(Gi.getD m_.toNat aZ).fI<DU.length):W (j6 m_ Bb vB ZU ZV ZW ZX Gi ZY Z0 Z4 Nt Nu DT DU Nv) (λ r=>r=((decide ((0:Int)≤(Gi.getD m_.toNat aZ).fI))&&(!(DU.getD (((Gi.getD m_.toNat aZ).fI).toNat) false)))):=by
 unfold j6;refine wm<|av ?_;rfl
theorem Bq {Bd:List aI} {BJ:List aD} {BK:Int} {RS:List cK} {RU:List eG} {RX:List dD} {L9:List aJ} {RY:List Int} {RZ:List Int} {R3:List Bool} {vC:List Int} {vD:List aT} {sK:List Bool} {sM:List Bool} {vE:Bool} (h1:s_.length≤2000000) (h2:∀x∈s_,0≤x∧x<L9.length∧(L9.getD x.toNat aZ).fI<sM.length):W (mh s_ Bd BJ BK RS RU RX L9 RY RZ R3 vC vD sK sM vE) (λ r=>r=s_.any (λ x=>((decide ((0:Int)≤(L9.getD x.toNat aZ).fI))&&(!(sM.getD (((L9.getD x.toNat aZ).fI).toNat) false))))):=
 yw (Rh (TV (p:=λ x=>j6 x Bd BJ BK RS RU RX L9 RY RZ R3 vC vD sK sM vE) (P:=λ x=>((decide ((0:Int)≤(L9.getD x.toNat aZ).fI))&&(!(sM.getD (((L9.getD x.toNat aZ).fI).toNat) false)))) (λ x hx=>lT (IE (h2 x hx).1 (h2 x hx).2.1 (h2 x hx).2.2)) om) (uE _ _))
theorem P9 (d:α) (l:List α) (n j:Nat) (h:j<n):(l.take n).getD j d=l.getD j d:=by
 rw [List.getD_eq_getElem?_getD,List.getD_eq_getElem?_getD,List.getElem?_take_of_lt h]
deriving instance DecidableEq for oJ,aT,bF
theorem Dc [DecidableEq α] {a b:List α} (h:¬ (a.length:Int)=b.length):(a==b)=false:=by
 simp only [beq_eq_false_iff_ne,ne_eq];intro e;rw [e] at h;exact h rfl
theorem Y1 [DecidableEq α] {x y:α} {a b:List α} (h:¬ x=y):(x::a==y::b)=false:=by
 simp only [beq_eq_false_iff_ne,ne_eq,List.cons.injEq];exact λ e=>h e.1
theorem Y2 [DecidableEq α] {x y:α} {a b:List α} (h:x=y):(x::a==y::b)=(a==b):=by
 subst h;rw [Bool.eq_iff_iff];simp
theorem amK {x y:aT} (h:(!((x.gW==y.gW)&&((x.kH.dx==y.kH.dx)&&((x.kH.gy==y.kH.gy)&&true))))=false):x=y:=by
 obtain ⟨d,g,f⟩:=x;obtain ⟨d',g',f'⟩:=y;simp at h;obtain ⟨h1,h2,h3⟩:=h;subst h1 h2 h3;rfl
def ahB (a b:bF):Bool:=((((a.dA==b.dA)&&((a.fA.On==b.fA.On)&&(a.fA.dQ==b.fA.dQ)))&&(a.dP==b.dP))&&(a.dU==b.dU))&&(a.fq==b.fq)
theorem agP (a:bF):ahB a a=true:=by
 unfold ahB;simp
theorem Um {a_:List Int} {b_:List Int} (h1:a_.length≤2000000):W (Ec a_ b_) (λ r=>r=(a_==b_)):=by
 unfold Ec;refine wi ?_ ?_<;>intro c1
 ·exact av ((Dc c1).symm)
 ·refine bH (λ (g1:Int)=>0≤g1∧g1≤a_.length∧(a_==b_)=(a_.drop g1.toNat==b_.drop g1.toNat)) (λ (g1:Int)=>(a_.length - g1).toNat) ?_ ?_
  ·intro aj g1 d9 bV;obtain ⟨dN,bO,bE⟩:=d9;unfold Rf;refine wi ?_ ?_<;>intro c2
   ·rw [drop_cons 0 (show g1.toNat<a_.length by omega),drop_cons 0 (show g1.toNat<b_.length by omega)] at bE;refine wm<|wi ?_ ?_<;>intro c3
    ·refine av ?_;(rw [bE,Y1 c3])
    ·refine wn<|bV _ ?_ ?_
     ·(refine ⟨ob,ob,?_⟩; rw [bE,Y2 c3,show (g1+1).toNat=g1.toNat+1 by omega])
     ·exact ob
   ·refine av ?_;(rw [bE,List.drop_eq_nil_of_le om,List.drop_eq_nil_of_le om]; rfl)
  ·(refine ⟨ob,ob,rfl⟩)
theorem uH {a_:List Bool} {b_:List Bool} (h1:a_.length≤2000000):W (oM a_ b_) (λ r=>r=(a_==b_)):=by
 unfold oM;refine wi ?_ ?_<;>intro c1
 ·exact av ((Dc c1).symm)
 ·refine bH (λ (g1:Int)=>0≤g1∧g1≤a_.length∧(a_==b_)=(a_.drop g1.toNat==b_.drop g1.toNat)) (λ (g1:Int)=>(a_.length - g1).toNat) ?_ ?_
  ·intro aj g1 d9 bV;obtain ⟨dN,bO,bE⟩:=d9;unfold Og;refine wi ?_ ?_<;>intro c2
   ·rw [drop_cons false (show g1.toNat<a_.length by omega),drop_cons false (show g1.toNat<b_.length by omega)] at bE;refine wm<|bL ?_ ?_<;>intro c3
    ·have jI:=c3;have c3:=nr c3;refine av ?_;(rw [bE,Y1 (by simpa using jI)])
    ·have jI:=c3;have c3:=nr c3;refine wn<|bV _ ?_ ?_
     ·(refine ⟨ob,ob,?_⟩; rw [bE,Y2 (by simpa using jI),show (g1+1).toNat=g1.toNat+1 by omega])
     ·exact ob
   ·refine av ?_;(rw [bE,List.drop_eq_nil_of_le om,List.drop_eq_nil_of_le om]; rfl)
  ·(refine ⟨ob,ob,rfl⟩)
theorem Un {a_:dh} {b_:dh} (h1:a_.On.length≤2000000) (h2:a_.dQ.length≤2000000):W (uV a_ b_) (λ r=>r=((a_.On==b_.On)&&(a_.dQ==b_.dQ))):=by
 unfold uV;refine aH (uH ob) λ v1 hv1=>?_;subst v1;refine aH (gV λ hc=>lT (Um ob)) λ v2 hv2=>?_;subst v2;refine av ?_;rfl
theorem X3 {a_:List aT} {b_:List aT} (h1:a_.length≤2000000):W (zN a_ b_) (λ r=>r=(a_==b_)):=by
 unfold zN;refine wi ?_ ?_<;>intro c1
 ·exact av ((Dc c1).symm)
 ·refine bH (λ (g1:Int)=>0≤g1∧g1≤a_.length∧(a_==b_)=(a_.drop g1.toNat==b_.drop g1.toNat)) (λ (g1:Int)=>(a_.length - g1).toNat) ?_ ?_
  ·intro aj g1 d9 bV;obtain ⟨dN,bO,bE⟩:=d9;unfold Ir;refine wi ?_ ?_<;>intro c2
   ·rw [drop_cons bB (show g1.toNat<a_.length by omega),drop_cons bB (show g1.toNat<b_.length by omega)] at bE;refine wm<|bL ?_ ?_<;>intro c3
    ·have jI:=c3;have c3:=nr c3;refine av ?_;(rw [bE,Y1 (λ e=>by rw [e] at jI; simp at jI)])
    ·have jI:=c3;have c3:=nr c3;refine wn<|bV _ ?_ ?_
     ·(refine ⟨ob,ob,?_⟩; rw [bE,Y2 (amK jI),show (g1+1).toNat=g1.toNat+1 by omega])
     ·exact ob
   ·refine av ?_;(rw [bE,List.drop_eq_nil_of_le om,List.drop_eq_nil_of_le om]; rfl)
  ·(refine ⟨ob,ob,rfl⟩)
theorem ads {a_:bF} {b_:bF} (h1:Qq a_):W (JK a_ b_) (λ r=>r=ahB a_ b_):=by
 obtain ⟨z1,z2,z3,z4,z5,z6⟩:=h1;unfold JK;refine aH (Um ob) λ v1 hv1=>?_;subst v1;refine aH (gV λ hc=>lT (Un ob ob)) λ v2 hv2=>?_;subst v2;refine aH (gV λ hc=>lT (X3 ob)) λ v3 hv3=>?_;subst v3;refine aH (gV λ hc=>lT (uH ob)) λ v4 hv4=>?_;subst v4;refine aH (gV λ hc=>lT (uH ob)) λ v5 hv5=>?_;subst v5;refine av ?_;rfl
end Go.Proofs.YtccjmcmolnbiiaaGreatDoor
namespace Go.Proofs.YtccjmcmolnbiiaaGreatDoor.Sp
open Go.Ab
set_option maxRecDepth 100000
variable {l:List aD} {d:List bq}
theorem akU (h:((eD l != 0)||decide (32<(d.length:Int)))=true):jq l d=false:=by
 unfold jq;by_cases h1:eD l=0
 ·rw [h1] at h;have:32<(d.length:Int):=by simpa using h
  rw [decide_eq_false (p:=(d.length:Int)≤32) om];simp
 ·have:(eD l==0)=false:=by simpa using h1
  rw [this];rfl
theorem aiJ (h:((eD l != 0)||decide (32<(d.length:Int)))=false):jq l d=!(d.any (aal l.length)):=by
 have h1:eD l=0∧(d.length:Int)≤32:=by
  simp at h;omega
 unfold jq;rw [h1.1,decide_eq_true h1.2];rfl
variable {i:Nat}
theorem amL {b:List Bool} {j:Nat} {a:Bool} {g:Int} (hi:i<b.length) (hj:j<d.length) (hg:g=(i:Int)):(b.set i (b.getD i false||a||P6 (d.take j) i)).set i ((b.set i (b.getD i false||a||P6 (d.take j) i)).getD i false||((d.getD j dG).bN==g))=b.set i (b.getD i false||a||P6 (d.take (j+1)) i):=by
 subst hg;have hsn:P6 (d.take (j+1)) i=(P6 (d.take j) i||((d.getD j dG).bN==(i:Int))):=by
  unfold P6;rw [iC dG hj,List.any_append];simp
 rw [gq,if_pos ⟨rfl,hi⟩,List.set_set,hsn];simp only [Bool.or_assoc]
theorem pR {x_:Int} {wB:Int} {yt:Int}:W (ql x_ wB yt) (λ r=>r=dK x_ wB yt):=by
 unfold ql;refine av ?_;rfl
variable {l_:List aD}
theorem zQ (h1:l_.length≤2000000):W (rW l_) (λ r=>r=eD l_):=by
 unfold rW;refine bL ?_ ?_<;>intro c1
 ·have gM:=c1;have c1:=nr c1;refine av ?_;(unfold eD; rw [gM]; rfl)
 ·have gM:=c1;have c1:=nr c1;refine bH (λ (g1:Int)=>0≤g1∧g1≤l_.length∧(∀j:Nat,(j:Int)<g1→Ud (l_.getD j au)=false)) (λ (g1:Int)=>(l_.length - g1).toNat) ?_ ?_
  ·intro aj g1 d9 bV;obtain ⟨dN,bO,bE⟩:=d9;unfold NA;refine wi ?_ ?_<;>intro c2
   ·refine wn<|bL ?_ ?_<;>intro c3
    ·have jI:=c3;have c3:=nr c3;refine av ?_;(unfold eD; rw [xL (p:=Ud) au (show g1.toNat<l_.length by omega) (show Ud _=true from jI),Bool.or_true]; rfl)
    ·have jI:=c3;have c3:=nr c3;refine wn<|bV _ ?_ ?_
     ·(refine ⟨ob,ob,dZ bE dN jI⟩)
     ·exact ob
   ·have hbig:=any_none (p:=Ud) au (λ j hj=>bE j om);have hb3:(decide (16<(l_.length:Int))||l_.any Ud)=false:=(by rw [gM,hbig]; rfl);refine bH (λ (g2:Int)=>0≤g2∧g2≤l_.length∧VX g2.toNat (l_.drop g2.toNat)=VX 0 l_) (λ (g2:Int)=>(l_.length - g2).toNat) ?_ ?_
    ·intro dJ g2 mO qx;obtain ⟨qU,jB,mI⟩:=mO;unfold KY;obtain ⟨i,rfl⟩:=Int.eq_ofNat_of_zero_le qU;refine wi ?_ ?_<;>intro c4
     ·have hlt:i<l_.length:=om;have hb:=bE i om;have hbl:(l_.getD i au).bJ.length≤16:=(by unfold Ud at hb; have:=of_decide_eq_false hb; omega);rw [show ((i:Int).toNat)=i from rfl,drop_cons au hlt,VX] at mI;simp only [Int.toNat_natCast] at *;refine wm<|aH (pR) λ v13 R8=>?_;subst v13;refine aH (gV λ hc=>lT (pR)) λ v14 TY=>?_;subst v14;refine aH (gV λ hc=>lT (pR)) λ v15 T9=>?_;subst v15;refine bL ?_ ?_<;>intro c5
      ·have AO:=c5;have c5:=nr c5;rw [ahA] at AO;refine av ?_;(unfold eD; rw [hb3,← mI]; unfold zk; rw [show XA (l_.getD i au) i=true from AO]; rfl)
      ·have AO:=c5;have c5:=nr c5;rw [ahA] at AO;refine bH (λ (g5:Int)=>0≤g5∧g5≤(l_.getD i au).bJ.length∧Ov (if g5.toNat=0 then 0 else (l_.getD i au).bJ.getD (g5.toNat - 1) 0) ((l_.getD i au).bJ.drop g5.toNat)=Ov 0 (l_.getD i au).bJ) (λ (g5:Int)=>((l_.getD i au).bJ.length - g5).toNat) ?_ ?_
       ·intro j5 g5 V7 V8;obtain ⟨Rl,Eh,LD⟩:=V7;unfold KX;obtain ⟨k,rfl⟩:=Int.eq_ofNat_of_zero_le Rl;simp only [Int.toNat_natCast] at *;refine wi ?_ ?_<;>intro c6
        ·have hlk:k<(l_.getD i au).bJ.length:=om;have hst:=ae5 hlk rfl;rw [hst] at LD;have e1:(((k:Int) - 1).toNat)=k - 1:=om;simp only [e1,Int.toNat_natCast] at *;refine wn<|aH (pR) λ v18 arS=>?_;subst v18;refine wm<|bL ?_ ?_<;>intro c7
         ·have XC:=c7;have c7:=nr c7;refine av ?_;(unfold eD; rw [hb3,← mI]; unfold zk; rw [show XA (l_.getD i au) i=false from AO,← LD,XC]; rfl)
         ·have XC:=c7;have c7:=nr c7;refine wn<|V8 _ ?_ ?_
          ·(refine ⟨ob,ob,?_⟩; rw [← LD,XC]; rw [show ((k:Int)+1).toNat=k+1 by omega,if_neg om]; rfl)
          ·exact ob
        ·refine wn<|qx _ ?_ ?_
         ·(refine ⟨ob,ob,?_⟩; rw [← mI]; unfold zk; rw [show XA (l_.getD i au) i=false from AO,← LD,show k=(l_.getD i au).bJ.length by omega,List.drop_length,show ((i:Int)+1).toNat=i+1 by omega]; rfl)
         ·exact ob
       ·(refine ⟨ob,ob,rfl⟩)
     ·refine av ?_;(unfold eD; rw [hb3,← mI,show ((i:Int).toNat)=i from rfl,show i=l_.length by omega,List.drop_length]; rfl)
    ·(refine ⟨ob,ob,rfl⟩)
  ·(refine ⟨ob,ob,λ j hj=>by omega⟩)
variable {d_:List bq}
theorem Rm (h1:l_.length≤2000000) (h2:d_.length≤2000000):W (Aq l_ d_) (λ r=>r=jq l_ d_):=by
 unfold Aq;refine aH (zQ ob) λ v1 hv1=>?_;subst v1;refine bL ?_ ?_<;>intro c1
 ·have gM:=c1;have c1:=nr c1;exact av ((akU gM).symm)
 ·have gM:=c1;have c1:=nr c1;have hdf:=aiJ gM;refine bH (λ (g1:Int)=>0≤g1∧g1≤d_.length∧(d_.drop g1.toNat).any (aal l_.length)=d_.any (aal l_.length)) (λ (g1:Int)=>(d_.length - g1).toNat) ?_ ?_
  ·intro aj g1 d9 bV;obtain ⟨dN,bO,bE⟩:=d9;unfold NR;refine wi ?_ ?_<;>intro c2
   ·have hlt:g1.toNat<d_.length:=om;rw [drop_cons dG hlt,List.any_cons] at bE;refine wm<|aH (pR) λ v8 uG=>?_;subst v8;refine aH (gV λ hc=>lT (pR)) λ v9 Sl=>?_;subst v9;refine aH (gV λ hc=>lT (pR)) λ v10 ED=>?_;subst v10;refine bL ?_ ?_<;>intro c3
    ·have jI:=c3;have c3:=nr c3;have hb:=(ae6 l_.length (d_.getD g1.toNat dG)).symm.trans jI;refine av ?_;(rw [hdf,← bE,hb]; rfl)
    ·have jI:=c3;have c3:=nr c3;have hb:=(ae6 l_.length (d_.getD g1.toNat dG)).symm.trans jI;refine wn<|bV _ ?_ ?_
     ·(refine ⟨ob,ob,?_⟩; rw [← bE,hb,show (g1+1).toNat=g1.toNat+1 by omega]; rfl)
     ·exact ob
   ·refine av ?_;(rw [hdf,← bE,show g1.toNat=d_.length by omega,List.drop_length]; rfl)
  ·(refine ⟨ob,ob,rfl⟩)
theorem abq (h1:l_.length≤2000000) (h2:d_.length≤2000000):W (Fz l_ d_) (λ r=>r=pK l_ d_):=by
 unfold Fz;refine aH (zQ ob) λ v1 hv1=>?_;subst v1;refine bL ?_ ?_<;>intro c1
 ·have gM:=c1;have c1:=nr c1;refine av ?_;(unfold pK; rw [gM]; rfl)
 ·have gM:=c1;have c1:=nr c1;refine aH (Rm ob ob) λ v2 hv2=>?_;subst v2;refine bL ?_ ?_<;>intro c2
  ·have kE:=c2;have c2:=nr c2;refine av ?_;(unfold pK; rw [gM,kE]; rfl)
  ·have kE:=c2;have c2:=nr c2;refine av ?_;(unfold pK; rw [gM,kE]; rfl)
theorem Uo (h1:Ow l_ d_):W (D6 l_ d_) (λ r=>r=fG l_ d_):=by
 have hv:=h1;obtain ⟨vl,vd,vs,_,vx⟩:=h1;unfold D6;refine wm<|bH (λ (g1:Int×List Bool) => -1≤g1.1∧g1.1<l_.length∧Rk l_ d_ (l_.length - 1 - g1.1).toNat g1.2) (λ (g1:Int×List Bool)=>(g1.1+1).toNat) ?_ ?_
 ·intro aj g1 d9 bV;obtain ⟨dN,bO,bE⟩:=d9;unfold Q9;have hbl:=bE.len;refine wi ?_ ?_<;>intro c1
  ·have hst:=bE.step hv (show (l_.length - 1 - g1.1).toNat<l_.length by omega);have hp:=vs g1.1.toNat om;rw [show l_.length - 1 - ((l_.length:Int) - 1 - g1.1).toNat=g1.1.toNat by omega,show ((l_.length:Int) - 1 - g1.1).toNat+1=((l_.length:Int) - 1 - (g1.1 - 1)).toNat by omega] at hst;refine wm<|wn ?_;refine bH (λ (g4:Int×List Bool)=>0≤g4.1∧g4.1≤d_.length∧g4.2=g1.2.set g1.1.toNat (g1.2.getD g1.1.toNat false||(l_.getD g1.1.toNat au).fK||P6 (d_.take g4.1.toNat) g1.1.toNat)) (λ (g4:Int×List Bool)=>(d_.length - g4.1).toNat) ?_ ?_
   ·intro jk g4 JX IG;obtain ⟨FP,l6,Uq⟩:=JX;unfold Q8;have arT:g4.2.length=l_.length:=(by rw [Uq,List.length_set,hbl]);refine wi ?_ ?_<;>intro c2
    ·refine wm<|wm ?_;refine IG _ ?_ ?_
     ·(refine ⟨ob,ob,?_⟩; dsimp only; rw [show (g4.1+1).toNat=g4.1.toNat+1 by omega,Uq]; exact amL om om om)
     ·exact ob
    ·have afg:g4.2=g1.2.set g1.1.toNat (g1.2.getD g1.1.toNat false||(l_.getD g1.1.toNat au).fK||P6 d_ g1.1.toNat):=(by rw [Uq,show g4.1.toNat=d_.length by omega,List.take_length]);have hgi:g4.2.getD g1.1.toNat false=(g1.2.getD g1.1.toNat false||(l_.getD g1.1.toNat au).fK||P6 d_ g1.1.toNat):=(by rw [afg,gq,if_pos ⟨rfl,om⟩]);refine wm<|bL ?_ ?_<;>intro c3
     ·have jI:=c3;have c3:=nr c3;have c3b:=jI;rw [hgi] at c3b;refine wm<|bV _ ?_ ?_
      ·(refine ⟨ob,ob,?_⟩; dsimp only; unfold Ui at hst; rw [c3b] at hst; rw [afg]; exact hst)
      ·exact ob
     ·have jI:=c3;have c3:=nr c3;have c3b:=jI;rw [hgi] at c3b;refine wn<|bV _ ?_ ?_
      ·(refine ⟨ob,ob,?_⟩; dsimp only; unfold Ui at hst; rw [c3b] at hst; rw [afg]; exact hst)
      ·exact ob
   ·(refine ⟨ob,ob,?_⟩; dsimp only; rw [show (0:Int).toNat=0 from rfl,List.take_zero,show P6 [] g1.1.toNat=false from rfl,Bool.or_false])
  ·exact av (Rk.done (by rw [show l_.length=((l_.length:Int) - 1 - g1.1).toNat by omega]; exact bE))
 ·(refine ⟨ob,ob,?_⟩; dsimp only; rw [show ((l_.length:Int) - 1 - (l_.length - 1)).toNat=0 by omega]; exact Rk.start hv)
theorem abr {s_:aD} {v_:Int} (h1:s_.bJ.length≤2000000):W (FB s_ v_) (λ r=>r=(bif decide (lvN s_.bJ v_<s_.bJ.length) then (lvN s_.bJ v_:Int) else -1)):=by
 unfold FB;refine bH (λ (g1:Int)=>0≤g1∧g1≤s_.bJ.length∧(∀j:Nat,(j:Int)<g1→s_.bJ.getD j 0<v_)) (λ (g1:Int)=>(s_.bJ.length - g1).toNat) ?_ ?_
 ·intro aj g1 d9 bV;obtain ⟨dN,bO,bE⟩:=d9;unfold NS;refine wi ?_ ?_<;>intro c1
  ·refine wn<|wi ?_ ?_<;>intro c2
   ·refine av ?_;(rw [← agI (k:=g1.toNat) om (λ j hj=>bE j om) (λ _=>c2),decide_eq_true om]; simp only [cond_true]; omega)
   ·refine wn<|bV _ ?_ ?_
    ·(refine ⟨ob,ob,dZ bE dN c2⟩)
    ·exact ob
  ·refine av ?_;(rw [← agI (k:=g1.toNat) om (λ j hj=>bE j om) (λ h=>by omega),decide_eq_false om]; rfl)
 ·(refine ⟨ob,ob,λ j hj=>by omega⟩)
theorem zR {r_:dh} {k_:Int} (h1:0≤k_) (h2:k_<l_.length) (h3:Rok l_ r_):W (rY l_ r_ k_) (λ r=>r=mP l_ r_ k_.toNat):=by
 obtain ⟨r1,r2,r3⟩:=h3;have r4:=r3 k_.toNat om;unfold rY;refine wm<|wn ?_;refine av ?_;rfl
variable {r:dh} {u:List Bool} {ld:List Int}
theorem arU (h:(u.getD i false&&!r.On.getD i false)=true):Ox l r u ld i=true:=by
 simp only [Bool.and_eq_true] at h;unfold Ox;rw [h.1,h.2]; rfl
theorem arV (h:(u.getD i false&&!r.On.getD i false)=false) (h2:(!r.On.getD i false)=true):Ox l r u ld i=false:=by
 rw [h2,Bool.and_true] at h;unfold Ox;rw [h2,h]; rfl
theorem apP (h2:(!r.On.getD i false)=false):Ox l r u ld i=(decide ((l.getD i au).gZ<ld.getD i 0)||(decide (0≤(l.getD i au).aN)&&(!r.On.getD (l.getD i au).aN.toNat false||decide (mP l r (l.getD i au).aN.toNat<mP l r i+(l.getD i au).gB)))):=by
 unfold Ox;rw [h2,Bool.or_comm]; rfl
theorem afh (hi:i<l.length) (h:Ox l r (fG l d) (pO l d) i=true):xS l r d=false:=by
 unfold xS;rw [Bj hi (by rw [h]; rfl)];rfl
theorem afi (h:∀i,i<l.length→Ox l r (fG l d) (pO l d) i=false):xS l r d=!(d.any (aam l r)):=by
 unfold xS;rw [Oy λ j hj=>(by rw [h j hj]; rfl)];rfl
variable {s:DS}
theorem ach (h:(!u.getD i false)=true):wo l u i s=false:=by
 unfold wo;rw [show u.getD i false=false by simpa using h];rfl
theorem akV {a n:Nat} (h:decide ((bif decide (a<n) then (a:Int) else -1)<0)=true):decide (a<n)=false:=by
 cases hd:decide (a<n) with
 | false=>rfl
 | true=>rw [hd] at h; have:=of_decide_eq_true h; simp only [cond_true] at this; omega
theorem akW {a n:Nat} (h:decide ((bif decide (a<n) then (a:Int) else -1)<0)=false):decide (a<n)=true:=by
 cases hd:decide (a<n) with
 | true=>rfl
 | false=>rw [hd] at h; cases h
theorem agQ (h0:(pK l d != 0)=false) (e:(s,(i:Int))=IB l d):(RP,9)=jr l d:=by
 unfold jr;rw [h0,← e,decide_eq_true (show (0:Int)≤(s,(i:Int)).2 by dsimp only; omega)];rfl
theorem aci (h0:(pK l d != 0)=false) (hdr:jq l d=true) (e:(s,(-1:Int))=IB l d) (hr:Rok l ⟨fG l d,s.lv⟩):jr l d=bif !xS l ⟨fG l d,s.lv⟩ d then (RP,9) else (⟨fG l d,s.lv⟩,0):=by
 unfold jr;have hmf:fC l ⟨fG l d,s.lv⟩ d=xS l ⟨fG l d,s.lv⟩ d:=by
  unfold fC;rw [Dn.2 ⟨Oz hdr,hr⟩,hdr];rfl
 rw [h0,← e];simp only [show decide ((0:Int) ≤ -1)=false from rfl,Bool.false_or,hmf,cond_false]
theorem akX (hu:u.getD i false=true) (hi:i<s.lv.length):mP l ⟨u,(Bn l u i s).lv⟩ i+(l.getD i au).gB=mG l i s:=by
 unfold mP mG Bn;rw [hu];simp only [Bool.not_true,cond_false];rw [gq,if_pos ⟨rfl,hi⟩];rfl
theorem afj (hu:u.getD i false=true) (hp:decide (0≤(l.getD i au).aN)=true):(Bo s.a).set (l.getD i au).aN.toNat (if mG l i s > (Bo s.a).getD (l.getD i au).aN.toNat 0 then mG l i s else (Bo s.a).getD (l.getD i au).aN.toNat 0)=Bo (Bn l u i s).a:=by
 unfold Bn;rw [hu,hp,Ee];simp only [Bool.not_true,cond_false,Bool.true_and];by_cases h:(s.a.getD (l.getD i au).aN.toNat Ou).xR<mG l i s
 ·rw [decide_eq_true h,cond_true,afd,if_pos h]
 ·rw [decide_eq_false h,cond_false,if_neg h,afe _ _ _ (Ee _ _).symm]
theorem aiK (hp:decide (0≤(l.getD i au).aN)=false):Bo s.a=Bo (Bn l u i s).a:=by
 unfold Bn;rw [hp];cases u.getD i false<;>rfl
theorem afk (h:(!u.getD i false)=true):Bn l u i s=s:=by
 unfold Bn;rw [h];rfl
theorem abt (h1:Ow l_ d_):W (FC l_ d_) (λ r=>r=pO l_ d_):=by
 have hv:=h1;obtain ⟨vl,vd,vs,_,vx⟩:=h1;unfold FC;refine wm<|bH (λ (g1:Int×List Int) => -1≤g1.1∧g1.1<l_.length∧LB l_ d_ (l_.length - 1 - g1.1).toNat g1.2) (λ (g1:Int×List Int)=>(g1.1+1).toNat) ?_ ?_
 ·intro aj g1 d9 bV;obtain ⟨dN,bO,bE⟩:=d9;unfold NU;have hbl:=bE.len;have hsm:=bE.small hv om;refine wi ?_ ?_<;>intro c1
  ·have hst:=bE.step hv (show (l_.length - 1 - g1.1).toNat<l_.length by omega);have hp:=vs g1.1.toNat om;rw [show l_.length - 1 - ((l_.length:Int) - 1 - g1.1).toNat=g1.1.toNat by omega,show ((l_.length:Int) - 1 - g1.1).toNat+1=((l_.length:Int) - 1 - (g1.1 - 1)).toNat by omega] at hst;refine bH (λ (g4:Int×List Int)=>0≤g4.1∧g4.1≤d_.length∧g4.2=g1.2.set g1.1.toNat (g1.2.getD g1.1.toNat 0+Bl (d_.take g4.1.toNat) g1.1.toNat)) (λ (g4:Int×List Int)=>(d_.length - g4.1).toNat) ?_ ?_
   ·intro jk g4 JX IG;obtain ⟨FP,l6,Uq⟩:=JX;unfold NT;have arT:g4.2.length=l_.length:=(by rw [Uq,List.length_set,hbl]);refine wi ?_ ?_<;>intro c2
    ·have hx:=vx _ (je dG (show g4.1.toNat<d_.length by omega));have hdb:=Uj (d:=d_) (λ x hx=>by have:=vx x hx; omega) g1.1.toNat g4.1.toNat om;have hbi:=hsm g1.1.toNat;have hgi:g4.2.getD g1.1.toNat 0=g1.2.getD g1.1.toNat 0+Bl (d_.take g4.1.toNat) g1.1.toNat:=(by rw [Uq,gq,if_pos ⟨rfl,om⟩]);refine wn<|bL ?_ ?_<;>intro c3
     ·have jI:=c3;have c3:=nr c3;refine wm<|wm ?_;refine IG _ ?_ ?_
      ·(refine ⟨ob,ob,?_⟩; dsimp only; rw [show (g4.1+1).toNat=g4.1.toNat+1 by omega,hgi,Uq,List.set_set,VY om,show ((g1.1.toNat:Int))=g1.1 by omega,jI]; simp only [cond_true]; rw [Int.add_assoc])
      ·exact ob
     ·have jI:=c3;have c3:=nr c3;refine wn<|IG _ ?_ ?_
      ·(refine ⟨ob,ob,?_⟩; dsimp only; rw [show (g4.1+1).toNat=g4.1.toNat+1 by omega,Uq,VY om,show ((g1.1.toNat:Int))=g1.1 by omega,jI]; rfl)
      ·exact ob
    ·have hdb:=Uj (d:=d_) (λ x hx=>by have:=vx x hx; omega) g1.1.toNat d_.length (Nat.le_refl _);rw [List.take_length] at hdb;have afg:g4.2=g1.2.set g1.1.toNat (g1.2.getD g1.1.toNat 0+Bl d_ g1.1.toNat):=(by rw [Uq,show g4.1.toNat=d_.length by omega,List.take_length]);have hgi:g4.2.getD g1.1.toNat 0=g1.2.getD g1.1.toNat 0+Bl d_ g1.1.toNat:=(by rw [afg,gq,if_pos ⟨rfl,om⟩]);have hbi:=hsm g1.1.toNat;refine wn<|bL ?_ ?_<;>intro c4
     ·have sj:=c4;have c4:=nr c4;have hgp:g4.2.getD (l_.getD g1.1.toNat au).aN.toNat 0=g1.2.getD (l_.getD g1.1.toNat au).aN.toNat 0:=(by rw [afg,gq,if_neg om]);have hbp:=hsm (l_.getD g1.1.toNat au).aN.toNat;refine wm<|wm ?_;refine wn<|bV _ ?_ ?_
      ·(refine ⟨ob,ob,?_⟩; dsimp only; unfold P7 at hst; rw [sj] at hst; rw [hgi,hgp,afg]; exact hst)
      ·exact ob
     ·have sj:=c4;have c4:=nr c4;refine wn<|bV _ ?_ ?_
      ·(refine ⟨ob,ob,?_⟩; dsimp only; unfold P7 at hst; rw [sj] at hst; rw [afg]; exact hst)
      ·exact ob
   ·(refine ⟨ob,ob,?_⟩; dsimp only; rw [show (0:Int).toNat=0 from rfl,List.take_zero,show Bl [] g1.1.toNat=0 from rfl,Int.add_zero,set_self])
  ·exact av (LB.done (by rw [show l_.length=((l_.length:Int) - 1 - g1.1).toNat by omega]; exact bE))
 ·(refine ⟨ob,ob,?_⟩; dsimp only; rw [show ((l_.length:Int) - 1 - (l_.length - 1)).toNat=0 by omega]; exact LB.start hv)
theorem Rn {r_:dh} (h1:Ow l_ d_) (h2:Rok l_ r_):W (Ar l_ r_ d_) (λ r=>r=xS l_ r_ d_):=by
 have hv:=h1;have hr:=h2;have hvb:=λ i hi=>Uh hv hr i hi;have hul:=sV l_ d_;have hll:=Sm l_ d_;obtain ⟨vl,vd,vs,_,vx⟩:=h1;obtain ⟨r1,r2,r3⟩:=h2;unfold Ar;refine aH (Uo ob) λ v1 hv1=>?_;subst v1;refine aH (abt ob) λ v2 hv2=>?_;subst v2;refine bH (λ (g1:Int)=>0≤g1∧g1≤l_.length∧(∀j:Nat,(j:Int)<g1→Ox l_ r_ (fG l_ d_) (pO l_ d_) j=false)) (λ (g1:Int)=>(l_.length - g1).toNat) ?_ ?_
 ·intro aj g1 d9 bV;obtain ⟨dN,bO,bE⟩:=d9;unfold NV;refine wi ?_ ?_<;>intro c1
  ·have hp:=vs g1.toNat om;have hv1:=hvb g1.toNat om;have hv2:=hvb (l_.getD g1.toNat au).aN.toNat;refine wm<|wn ?_;refine bL ?_ ?_<;>intro c2
   ·have kE:=c2;have c2:=nr c2;exact av ((afh (i:=g1.toNat) om (arU kE)).symm)
   ·have kE:=c2;have c2:=nr c2;refine wn<|bL ?_ ?_<;>intro c3
    ·have jI:=c3;have c3:=nr c3;refine wn<|bV _ ?_ ?_
     ·(refine ⟨ob,ob,dZ bE dN (arV kE jI)⟩)
     ·exact ob
    ·have jI:=c3;have c3:=nr c3;refine wn<|aO (by (intro _ q; have:=of_decide_eq_true q; omega)) ?_;refine aH (gV λ hc hc2 hc3=>lT (zR (of_decide_eq_true hc2) (by have:=of_decide_eq_true hc2; omega) hr)) λ v7 hv7=>?_;subst v7;refine aH (gV λ hc hc2 hc3=>lT (zR om om hr)) λ v8 uG=>?_;subst v8;refine aO (by (intro _ q; have:=of_decide_eq_true q; have:=hv2 om; unfold aF; omega)) ?_;refine bL ?_ ?_<;>intro c4
     ·have sj:=c4;have c4:=nr c4;exact av ((afh (i:=g1.toNat) om ((apP jI).trans sj)).symm)
     ·have sj:=c4;have c4:=nr c4;refine wn<|bV _ ?_ ?_
      ·(refine ⟨ob,ob,dZ bE dN ((apP jI).trans sj)⟩)
      ·exact ob
  ·refine bH (λ (g2:Int)=>0≤g2∧g2≤d_.length∧(d_.drop g2.toNat).any (aam l_ r_)=d_.any (aam l_ r_)) (λ (g2:Int)=>(d_.length - g2).toNat) ?_ ?_
   ·intro dJ g2 mO qx;obtain ⟨qU,jB,mI⟩:=mO;unfold La;refine wi ?_ ?_<;>intro c5
    ·have hlt:g2.toNat<d_.length:=om;have hx:=vx _ (je dG hlt);rw [drop_cons dG hlt,List.any_cons] at mI;refine wn<|aH (zR hx.1 hx.2.1 hr) λ v13 R8=>?_;subst v13;refine aH (pR) λ v14 TY=>?_;subst v14;refine bL ?_ ?_<;>intro c6
     ·have c6o:=c6;have c6:=nr c6;refine av ?_;(rw [afi (λ j hj=>bE j om),← mI,show aam l_ r_ (d_.getD g2.toNat dG)=true from c6o]; rfl)
     ·have c6o:=c6;have c6:=nr c6;refine wn<|qx _ ?_ ?_
      ·(refine ⟨ob,ob,?_⟩; rw [← mI,show aam l_ r_ (d_.getD g2.toNat dG)=false from c6o,show (g2+1).toNat=g2.toNat+1 by omega]; rfl)
      ·exact ob
    ·refine av ?_;(rw [afi (λ j hj=>bE j om),← mI,show g2.toNat=d_.length by omega,List.drop_length]; rfl)
   ·(refine ⟨ob,ob,rfl⟩)
 ·(refine ⟨ob,ob,λ j hj=>by omega⟩)
theorem Ro (h1:l_.length≤2000000) (h2:d_.length≤2000000):W (Au l_ d_) (λ r=>r=jr l_ d_):=by
 unfold Au;refine aH (abq ob ob) λ v1 hv1=>?_;subst v1;refine bL ?_ ?_<;>intro c1
 ·have gM:=c1;have c1:=nr c1;refine av ?_;(unfold jr; rw [gM]; rfl)
 ·have gM:=c1;have c1:=nr c1;have hdr:=afa (show pK l_ d_=0 by simpa using gM);have hv:=Ed hdr;obtain ⟨vl,vd,vs,vlv,vx⟩:=id hv;have hul:=sV l_ d_;refine aH (Uo hv) λ v2 hv2=>?_;subst v2;refine wm<|bH (λ (g1:Int×List Int×List Int)=>0≤g1.1∧g1.1≤d_.length∧g1.2.1=Bo (xU l_.length d_ g1.1.toNat)∧g1.2.2=List.replicate l_.length 0) (λ (g1:Int×List Int×List Int)=>(d_.length - g1.1).toNat) ?_ ?_
  ·intro aj g1 d9 bV;obtain ⟨dN,bO,bE,jA⟩:=d9;unfold NW;have hgl:g1.2.1.length=l_.length:=(by rw [bE,Ul,P8]);refine wi ?_ ?_<;>intro c2
   ·have hx:=vx _ (je dG (show g1.1.toNat<d_.length by omega));refine wm<|wm ?_;refine bV _ ?_ ?_
    ·(refine ⟨ob,ob,?_,jA⟩; dsimp only; rw [show (g1.1+1).toNat=g1.1.toNat+1 by omega,Sr,bE])
    ·exact ob
   ·refine wn<|bH (λ (g2:Int×List Int×List Int) => -1≤g2.1∧g2.1<l_.length∧∃s:DS,g2.2.1=Bo s.a∧g2.2.2=s.lv∧DOk l_ s∧amD l_ s∧Qp l_ (fG l_ d_) (g2.1+1).toNat s=IB l_ d_) (λ (g2:Int×List Int×List Int)=>(g2.1+1).toNat) ?_ ?_
    ·intro dJ g2 mO qx;obtain ⟨qU,jB,mI⟩:=mO;unfold Lb;obtain ⟨s,e1,e2,e3,e4,e5⟩:=mI;have hal:g2.2.1.length=l_.length:=(by rw [e1,Ul,e3.al]);have hll:g2.2.2.length=l_.length:=(by rw [e2,e3.ll]);refine wi ?_ ?_<;>intro c3
     ·have hp:=vs g2.1.toNat om;rw [show (g2.1+1).toNat=g2.1.toNat+1 by omega,Qp] at e5;refine wn<|bL ?_ ?_<;>intro c4
      ·have sj:=c4;have c4:=nr c4;refine wn<|qx _ ?_ ?_
       ·(refine ⟨ob,ob,s,e1,e2,e3,e4,?_⟩; dsimp only; rw [show (g2.1 - 1+1).toNat=g2.1.toNat by omega]; rw [ach sj,afk sj] at e5; exact e5)
       ·exact ob
      ·have sj:=c4;have c4:=nr c4;have hu:(fG l_ d_).getD g2.1.toNat false=true:=(by simpa using sj);refine wm<|aH (abr ob) λ v11 akY=>?_;subst v11;rw [e1,Ee,show lvN (l_.getD g2.1.toNat au).bJ (s.a.getD g2.1.toNat Ou).xR=tZ l_ g2.1.toNat s from rfl];have hgs:(g2.2.2.set g2.1.toNat (bif decide (tZ l_ g2.1.toNat s<(l_.getD g2.1.toNat au).bJ.length) then (tZ l_ g2.1.toNat s:Int) else -1)).getD g2.1.toNat 0=(bif decide (tZ l_ g2.1.toNat s<(l_.getD g2.1.toNat au).bJ.length) then (tZ l_ g2.1.toNat s:Int) else -1):=(by rw [gq,if_pos ⟨rfl,om⟩]);refine wn ?_;unfold Bg;refine wn<|bL ?_ ?_<;>intro c5
       ·have AO:=c5;have c5:=nr c5;rw [hgs] at AO;have h5:=akV AO;have h6:decide ((tZ l_ g2.1.toNat s:Int)<(l_.getD g2.1.toNat au).bJ.length)=false:=(by simpa using h5);exact av (agQ gM (by unfold wo at e5; rw [hu,h6] at e5; exact e5))
       ·have AO:=c5;have c5:=nr c5;rw [hgs] at AO;have h5:=akW AO;have h6:decide ((tZ l_ g2.1.toNat s:Int)<(l_.getD g2.1.toNat au).bJ.length)=true:=(by simpa using h5);have hf:wo l_ (fG l_ d_) g2.1.toNat s=false:=(by unfold wo; rw [hu,h6]; rfl);rw [hf] at e5;have hlo:=adp (u:=fG l_ d_) (i:=g2.1.toNat) e3;have hlv:=amI hf e4;have hR:=akP hul hlo hlv;have hs:(Bn l_ (fG l_ d_) g2.1.toNat s).lv=s.lv.set g2.1.toNat (tZ l_ g2.1.toNat s:Int):=(by unfold Bn; rw [hu]; rfl);have hvo:=akX (l:=l_) (u:=fG l_ d_) hu (show g2.1.toNat<s.lv.length by rw [e3.ll]; omega);have hvb:=Uh hv hR g2.1.toNat om;rw [h5]; simp only [cond_true]; rw [e2,← hs];refine wn<|bL ?_ ?_<;>intro c6
        ·have c6o:=c6;have c6:=nr c6;refine wn<|aH (zR om om hR) λ v10 ED=>?_;subst v10;refine wn<|aO (by (unfold aF; omega)) ?_;refine wm<|qx _ ?_ ?_
         ·(refine ⟨ob,ob,Bn l_ (fG l_ d_) g2.1.toNat s,?_,rfl,hlo,hlv,?_⟩; (dsimp only; rw [hvo,e1]; exact afj hu c6o); (dsimp only; rw [show (g2.1 - 1+1).toNat=g2.1.toNat by omega]; exact e5))
         ·exact ob
        ·have c6o:=c6;have c6:=nr c6;refine wn<|qx _ ?_ ?_
         ·(refine ⟨ob,ob,Bn l_ (fG l_ d_) g2.1.toNat s,?_,rfl,hlo,hlv,?_⟩; (dsimp only; rw [e1]; exact aiK c6o); (dsimp only; rw [show (g2.1 - 1+1).toNat=g2.1.toNat by omega]; exact e5))
         ·exact ob
     ·rw [show (g2.1+1).toNat=0 by omega,Qp] at e5;have hrk:Rok l_ ⟨fG l_ d_,g2.2.2⟩:=(by rw [e2]; exact akP hul e3 e4);refine aH (Rn hv hrk) λ v12 aae=>?_;subst v12;refine bL ?_ ?_<;>intro c7
      ·have XC:=c7;have c7:=nr c7;refine av ?_;(rw [aci gM hdr e5 (by rw [← e2]; exact hrk),← e2,XC]; rfl)
      ·have XC:=c7;have c7:=nr c7;refine av ?_;(rw [aci gM hdr e5 (by rw [← e2]; exact hrk),← e2,XC]; rfl)
    ·(refine ⟨ob,ob,ds0 l_ d_,?_,jA,agJ _ _,?_,?_⟩; (dsimp only; rw [bE,show g1.1.toNat=d_.length by omega]; rfl); (intro j hj; show 0≤(List.replicate l_.length (0:Int)).getD j 0∧(List.replicate l_.length (0:Int)).getD j 0<_; rw [mF]; have:=vs j hj; omega); (dsimp only; rw [show ((l_.length:Int) - 1+1).toNat=l_.length by omega]; rfl))
  ·(refine ⟨ob,ob,?_,rfl⟩; show _=Bo (List.replicate l_.length (⟨0,-1,-1⟩:Dem)); unfold Bo; rw [List.map_replicate]; rfl)
end Go.Proofs.YtccjmcmolnbiiaaGreatDoor.Sp
namespace Go.Proofs.YtccjmcmolnbiiaaGreatDoor
open Go.Ab
set_option maxRecDepth 100000
theorem afl (n lo hi:Int) (b:Bool):(((decide (n<lo))||(decide (hi<n)))||b)=(!(dK n lo hi)||b):=by
 unfold dK;congr 1;by_cases h1:n<lo<;>by_cases h2:hi<n<;>simp [h1,h2]<;>omega
theorem aiL {l:List Int} {x y:Int} (h:l.contains x=false) (hy:¬ y=x):(l++[y]).contains x=false:=by
 rw [List.contains_eq_any_beq] at h ⊢;rw [List.any_append,h];simpa using λ e=>hy e.symm
theorem agR (n:Nat):decide ((1:Int)≤(n:Int))=decide ((0:Int)<(n:Int)):=by
 rw [decide_eq_decide]; omega
theorem arW {c:aI}:((decide ((1:Int)≤(c.aP.length:Int))&&decide ((0:Int)<(c.aM.length:Int)))&&(xJ 0 ((c.aP.length:Int) - 1) [] c.aM))=(decide (0<(c.aM.length:Int))&&xJ 0 ((c.aP.length:Int) - 1) [] c.aM):=by
 by_cases h:1≤(c.aP.length:Int)
 ·rw [decide_eq_true h,Bool.true_and]
 ·rw [decide_eq_false h,Bool.false_and,Bool.false_and];symm;rw [Bool.and_eq_false_iff];by_cases h2:0<(c.aM.length:Int)
  ·right;cases hd:xJ 0 ((c.aP.length:Int) - 1) [] c.aM with
   | false=>rfl
   | true=>have:=amv _ _ hd om; omega
  ·left; exact decide_eq_false h2
theorem aiM {l_:List Int} {x_:Int} (h1:l_.length≤2000000):W (YW l_ x_) (λ r=>r=l_.contains x_):=by
 unfold YW;refine bH (λ (g1:Int)=>0≤g1∧g1≤l_.length∧(l_.take g1.toNat).contains x_=false) (λ (g1:Int)=>(l_.length - g1).toNat) ?_ ?_
 ·intro aj g1 d9 bV;obtain ⟨dN,bO,bE⟩:=d9;unfold Z7;refine wi ?_ ?_<;>intro c1
  ·refine wn<|wi ?_ ?_<;>intro c2
   ·exact av ((List.elem_eq_true_of_mem (by rw [← c2]; exact getD_in 0 om)).symm)
   ·refine wn<|bV _ ?_ ?_
    ·(refine ⟨ob,ob,?_⟩; rw [show (g1+1).toNat=g1.toNat+1 by omega,iC 0 om]; exact aiL bE c2)
    ·exact ob
  ·refine av ?_;(rw [show g1.toNat=l_.length by omega,List.take_length] at bE; exact bE.symm)
 ·(refine ⟨ob,ob,rfl⟩)
theorem afm {a_:List Int} {b_:List Int} (h1:a_.length≤2000000):W (HY a_ b_) (λ r=>r=(a_==b_)):=by
 unfold HY;refine wi ?_ ?_<;>intro c1
 ·exact av ((Dc c1).symm)
 ·refine bH (λ (g1:Int)=>0≤g1∧g1≤a_.length∧(a_==b_)=(a_.drop g1.toNat==b_.drop g1.toNat)) (λ (g1:Int)=>(a_.length - g1).toNat) ?_ ?_
  ·intro aj g1 d9 bV;obtain ⟨dN,bO,bE⟩:=d9;unfold TM;refine wi ?_ ?_<;>intro c2
   ·rw [drop_cons 0 (show g1.toNat<a_.length by omega),drop_cons 0 (show g1.toNat<b_.length by omega)] at bE;refine wm<|wi ?_ ?_<;>intro c3
    ·refine av ?_;(rw [bE,Y1 c3])
    ·refine wn<|bV _ ?_ ?_
     ·(refine ⟨ob,ob,?_⟩; rw [bE,Y2 c3,show (g1+1).toNat=g1.toNat+1 by omega])
     ·exact ob
   ·refine av ?_;(rw [bE,List.drop_eq_nil_of_le om,List.drop_eq_nil_of_le om]; rfl)
  ·(refine ⟨ob,ob,rfl⟩)
theorem xX {l_:List Int} {wB:Int} {yt:Int} (h1:l_.length≤2000000):W (lN l_ wB yt) (λ r=>r=xJ wB yt [] l_):=by
 unfold lN;refine bH (λ (g1:Int)=>0≤g1∧g1≤l_.length∧xJ wB yt (l_.take g1.toNat) (l_.drop g1.toNat)=xJ wB yt [] l_) (λ (g1:Int)=>(l_.length - g1).toNat) ?_ ?_
 ·intro aj g1 d9 bV;obtain ⟨dN,bO,bE⟩:=d9;unfold DZ;refine wi ?_ ?_<;>intro c1
  ·rw [drop_cons 0 (show g1.toNat<l_.length by omega)] at bE;refine wm<|aH (gV λ hc=>lT (aiM ob)) λ v3 hv3=>?_;subst v3;refine bL ?_ ?_<;>intro c2
   ·have kE:=c2;have c2:=nr c2;rw [afl] at kE;refine av ?_;(rw [← bE,YX (pre:=l_.take g1.toNat) (n:=l_.getD g1.toNat 0) kE])
   ·have kE:=c2;have c2:=nr c2;rw [afl] at kE;refine wn<|bV _ ?_ ?_
    ·(refine ⟨ob,ob,?_⟩; rw [← bE,adg (pre:=l_.take g1.toNat) (n:=l_.getD g1.toNat 0) kE,show (g1+1).toNat=g1.toNat+1 by omega,iC 0 om])
    ·exact ob
  ·refine av ?_;(rw [← bE,List.drop_eq_nil_of_le om]; rfl)
 ·(refine ⟨ob,ob,rfl⟩)
theorem X4 {c_:aI} (h1:c_.aP.length≤2000000) (h2:c_.aM.length≤2000000):W (zK c_) (λ r=>r=iW c_):=by
 unfold zK;refine bL ?_ ?_<;>intro c1
 ·have gM:=c1;have c1:=nr c1;refine aO (by (intro hc; simp only [Bool.and_eq_true,beq_iff_eq] at hc; omega)) ?_;refine aO (by (intro hc; simp only [Bool.and_eq_true,beq_iff_eq] at hc; omega)) ?_;refine av ?_;(unfold iW; rw [gM]; simp only [cond_true]; unfold dK; rw [Bool.and_assoc])
 ·have gM:=c1;have c1:=nr c1;refine bL ?_ ?_<;>intro c2
  ·have kE:=c2;have c2:=nr c2;refine bL ?_ ?_<;>intro c3
   ·have jI:=c3;have c3:=nr c3;refine aH (gV λ hc=>lT (xX ob)) λ v1 hv1=>?_;subst v1;refine av ?_;(unfold iW; rw [gM,kE,agR]; rfl)
   ·have jI:=c3;have c3:=nr c3;rw [kE] at jI; cases jI
  ·have kE:=c2;have c2:=nr c2;refine bL ?_ ?_<;>intro c4
   ·have sj:=c4;have c4:=nr c4;refine aH (gV λ hc=>lT (xX ob)) λ v4 hv4=>?_;subst v4;refine av ?_;(unfold iW; rw [gM,kE,sj,agR]; rfl)
   ·have sj:=c4;have c4:=nr c4;refine bL ?_ ?_<;>intro c5
    ·have AO:=c5;have c5:=nr c5;refine wn<|aH (gV λ hc=>lT (xX ob)) λ v5 hv5=>?_;subst v5;refine av ?_;(unfold iW; rw [gM,kE,sj,AO,agR c_.aM.length]; exact arW)
    ·have AO:=c5;have c5:=nr c5;refine bL ?_ ?_<;>intro c6
     ·have c6o:=c6;have c6:=nr c6;refine bL ?_ ?_<;>intro c7
      ·have XC:=c7;have c7:=nr c7;refine aH (gV λ hc=>lT (afm ob)) λ v6 hv6=>?_;subst v6;refine av ?_;(unfold iW; rw [gM,kE,sj,AO,c6o]; rfl)
      ·have XC:=c7;have c7:=nr c7;refine av ?_;(unfold iW; rw [gM,kE,sj,AO,c6o,show ((c_.aP.length:Int)==1)=false by simpa using XC]; rfl)
     ·have c6o:=c6;have c6:=nr c6;refine av ?_;(unfold iW; rw [gM,kE,sj,AO,c6o]; rfl)
variable {l_:List aI}
theorem X5 (h1:l_.length≤1000) (h2:ahz l_):W (zL l_) (λ r=>r=iH l_):=by
 unfold zL;refine bH (λ (g1:Int×List Int)=>0≤g1.1∧g1.1≤l_.length∧g1.2=iH (l_.take g1.1.toNat)) (λ (g1:Int×List Int)=>(l_.length - g1.1).toNat) ?_ ?_
 ·intro aj g1 d9 bV;obtain ⟨dN,bO,bE⟩:=d9;unfold H6;have hfb:=jR (l_.take g1.1.toNat);rw [take_len om,← bE] at hfb;refine wi ?_ ?_<;>intro c1
  ·obtain ⟨hp1,hp2⟩:=h2 g1.1.toNat om;refine wn<|bH (λ (g6:Int×Int)=>0≤g6.2∧g6.2≤(l_.getD g1.1.toNat aK).aP.length∧g6.1=l5 g1.2 ((l_.getD g1.1.toNat aK).aP.take g6.2.toNat)) (λ (g6:Int×Int)=>((l_.getD g1.1.toNat aK).aP.length - g6.2).toNat) ?_ ?_
   ·intro jG g6 OC JY;obtain ⟨LG,wu,LH⟩:=OC;unfold HZ;have hpm:=JM g1.2 g1.1.toNat om hfb.2 ((l_.getD g1.1.toNat aK).aP.take g6.2.toNat);rw [← LH] at hpm;refine wi ?_ ?_<;>intro c2
    ·have hx:=hp2 _ (getD_in (i:=g6.2.toNat) 0 om);refine wm<|wn ?_;refine JY _ ?_ ?_
     ·(refine ⟨ob,ob,?_⟩; dsimp only; rw [show (g6.2+1).toNat=g6.2.toNat+1 by omega]; unfold l5; rw [vo _ _ 0 om,LH]; rfl)
     ·exact ob
    ·have hpe:g6.1=l5 g1.2 (l_.getD g1.1.toNat aK).aP:=(by rw [LH,show g6.2.toNat=(l_.getD g1.1.toNat aK).aP.length by omega,List.take_length]);refine bL ?_ ?_<;>intro c3
     ·have jI:=c3;have c3:=nr c3;refine wn ?_;unfold nA;refine wm<|bV _ ?_ ?_
      ·(refine ⟨ob,ob,?_⟩; dsimp only; rw [show (g1.1+1).toNat=g1.1.toNat+1 by omega,iC aK om,Dl,← bE]; unfold JL Sc; rw [jI,hpe]; rfl)
      ·exact ob
     ·have jI:=c3;have c3:=nr c3;unfold nA;refine wm<|bV _ ?_ ?_
      ·(refine ⟨ob,ob,?_⟩; dsimp only; rw [show (g1.1+1).toNat=g1.1.toNat+1 by omega,iC aK om,Dl,← bE]; unfold JL Sc; rw [jI,hpe]; rfl)
      ·exact ob
   ·(refine ⟨ob,ob,rfl⟩)
  ·refine av ?_;(rw [bE,show g1.1.toNat=l_.length by omega,List.take_length])
 ·(refine ⟨ob,ob,rfl⟩)
theorem zS (h1:l_.length≤2000000):W (rV l_) (λ r=>r=eD l_):=by
 unfold rV;refine bL ?_ ?_<;>intro c1
 ·have gM:=c1;have c1:=nr c1;refine av ?_;(unfold eD; rw [gM]; rfl)
 ·have gM:=c1;have c1:=nr c1;refine bH (λ (g1:Int)=>0≤g1∧g1≤l_.length∧(∀j:Nat,(j:Int)<g1→Sb (l_.getD j aK)=false)) (λ (g1:Int)=>(l_.length - g1).toNat) ?_ ?_
  ·intro aj g1 d9 bV;obtain ⟨dN,bO,bE⟩:=d9;unfold Nz;refine wi ?_ ?_<;>intro c2
   ·refine wn<|bL ?_ ?_<;>intro c3
    ·have jI:=c3;have c3:=nr c3;refine av ?_;(unfold eD; rw [xL (p:=Sb) aK (show g1.toNat<l_.length by omega) (show Sb _=true from jI),Bool.or_true]; rfl)
    ·have jI:=c3;have c3:=nr c3;refine wn<|bV _ ?_ ?_
     ·(refine ⟨ob,ob,dZ bE dN jI⟩)
     ·exact ob
   ·have hb4:∀i:Nat,i<l_.length→Sb (l_.getD i aK)=false:=λ j hj=>bE j om;have hbig:=any_none (p:=Sb) aK hb4;have hb3:(decide (16<(l_.length:Int))||l_.any Sb)=false:=(by rw [gM,hbig]; rfl);refine bH (λ (g2:Int×Int)=>0≤g2.2∧g2.2≤l_.length∧g2.1=mE (l_.take g2.2.toNat)∧(∀j:Nat,(j:Int)<g2.2→kZ (l_.getD j aK) j=true)) (λ (g2:Int×Int)=>(l_.length - g2.2).toNat) ?_ ?_
    ·intro dJ g2 mO qx;obtain ⟨qU,jB,mI,Ca⟩:=mO;unfold KW;refine wi ?_ ?_<;>intro c4
     ·have hlt:g2.2.toNat<l_.length:=om;have hbl:=Oj (hb4 g2.2.toNat hlt);refine wn<|bH (λ (g5:Int)=>0≤g5∧g5≤(l_.getD g2.2.toNat aK).aP.length∧(∀j:Nat,(j:Int)<g5→dK ((l_.getD g2.2.toNat aK).aP.getD j 0) 0 (g2.2.toNat - 1)=true)) (λ (g5:Int)=>((l_.getD g2.2.toNat aK).aP.length - g5).toNat) ?_ ?_
      ·intro j5 g5 V7 V8;obtain ⟨Rl,Eh,LD⟩:=V7;unfold KU;refine wi ?_ ?_<;>intro c5
       ·refine wn<|wi ?_ ?_<;>intro c6
        ·refine av ?_;(unfold eD; rw [hb3,Sd hlt (VP (j:=g5.toNat) om (by rw [← Bool.not_eq_true,within_iff]; omega))]; rfl)
        ·refine wn<|V8 _ ?_ ?_
         ·(refine ⟨ob,ob,dZ LD Rl (by rw [within_iff]; omega)⟩)
         ·exact ob
       ·have hvr:=aeW (k:=(g2.2.toNat:Int)) (λ j hj=>LD j om);refine aH (X4 ob ob) λ v3 hv3=>?_;subst v3;refine bL ?_ ?_<;>intro c7
        ·have XC:=c7;have c7:=nr c7;rw [XC] at hvr;refine av ?_;(unfold eD; rw [hb3,Sd hlt hvr]; rfl)
        ·have XC:=c7;have c7:=nr c7;rw [XC] at hvr;have hpm:=akA (l_.take g2.2.toNat) (l_.getD g2.2.toNat aK).aM.length om;rw [← mI] at hpm;refine wm<|qx _ ?_ ?_
         ·(refine ⟨ob,ob,?_,dZ Ca qU hvr⟩; dsimp only; rw [show (g2.2+1).toNat=g2.2.toNat+1 by omega]; unfold mE; rw [vo _ _ aK hlt]; rw [mI]; rfl)
         ·exact ob
      ·(refine ⟨ob,ob,λ j hj=>by omega⟩)
     ·have hva:∀i:Nat,i<l_.length→kZ (l_.getD i aK) i=true:=λ j hj=>Ca j om;have hall:=ab5 hva;have hfl:=(jR l_).1;rw [show g2.2.toNat=l_.length by omega,List.take_length] at mI;refine bL ?_ ?_<;>intro c8
      ·have c8o:=c8;have c8:=nr c8;refine av ?_;(unfold eD; rw [hb3,hall,← mI,c8o]; rfl)
      ·have c8o:=c8;have c8:=nr c8;refine aH (X5 om (aeX hva hb4)) λ v4 hv4=>?_;subst v4;refine bH (λ (g6:Int)=>0≤g6∧g6≤(iH l_).length∧(∀j:Nat,(j:Int)<g6→(λ n=>decide (4<n)) ((iH l_).getD j 0)=false)) (λ (g6:Int)=>((iH l_).length - g6).toNat) ?_ ?_
       ·intro jG g6 OC JY;obtain ⟨LG,wu,LH⟩:=OC;unfold KV;refine wi ?_ ?_<;>intro c9
        ·refine wn<|bL ?_ ?_<;>intro c10
         ·have aiN:=c10;have c10:=nr c10;refine av ?_;(unfold eD; rw [hb3,hall,xL (p:=λ n=>decide (4<n)) 0 (show g6.toNat<(iH l_).length by omega) aiN,Bool.or_true]; rfl)
         ·have aiN:=c10;have c10:=nr c10;refine wn<|JY _ ?_ ?_
          ·(refine ⟨ob,ob,dZ LH LG aiN⟩)
          ·exact ob
        ·refine av ?_;(unfold eD; rw [hb3,hall,← mI,c8o,any_none (p:=λ n=>decide (4<n)) 0 (λ j hj=>LH j om)]; rfl)
       ·(refine ⟨ob,ob,λ j hj=>by omega⟩)
    ·(refine ⟨ob,ob,rfl,λ j hj=>by dsimp only at hj; omega⟩)
  ·(refine ⟨ob,ob,λ j hj=>by omega⟩)
variable {l:List aI} {m:List bM}
theorem amM (h:((eD l != 0)||decide (32<(m.length:Int)))=true):lq l m=false:=by
 unfold lq;by_cases h1:eD l=0
 ·rw [h1] at h;have:32<(m.length:Int):=by simpa using h
  rw [decide_eq_false (p:=(m.length:Int)≤32) om];simp
 ·have:(eD l==0)=false:=by simpa using h1
  rw [this];rfl
theorem akZ (h:((eD l != 0)||decide (32<(m.length:Int)))=false):lq l m=!(m.any (Ma l.length)):=by
 have h1:eD l=0∧(m.length:Int)≤32:=by
  simp at h;omega
 unfold lq;rw [h1.1,decide_eq_true h1.2];rfl
theorem afn (n:Int) (x:bM):(((((decide (x.eZ<(0:Int)))||(decide (n≤x.eZ)))||(decide (x.Low<(0:Int))))||(decide (x.fO<x.Low)))||(decide ((4000000000:Int)<x.fO)))=Ma n x:=by
 unfold Ma dK;rw [Bool.eq_iff_iff];simp;omega
variable {m_:List bM}
theorem OD (h1:l_.length≤2000000) (h2:m_.length≤2000000):W (xC l_ m_) (λ r=>r=lq l_ m_):=by
 unfold xC;refine aH (zS ob) λ v1 hv1=>?_;subst v1;refine bL ?_ ?_<;>intro c1
 ·have gM:=c1;have c1:=nr c1;exact av ((amM gM).symm)
 ·have gM:=c1;have c1:=nr c1;have hdf:=akZ gM;refine bH (λ (g1:Int)=>0≤g1∧g1≤m_.length∧(m_.drop g1.toNat).any (Ma l_.length)=m_.any (Ma l_.length)) (λ (g1:Int)=>(m_.length - g1).toNat) ?_ ?_
  ·intro aj g1 d9 bV;obtain ⟨dN,bO,bE⟩:=d9;unfold K8;refine wi ?_ ?_<;>intro c2
   ·have hlt:g1.toNat<m_.length:=om;rw [drop_cons cZ hlt,List.any_cons] at bE;refine wn<|bL ?_ ?_<;>intro c3
    ·have jI:=c3;have c3:=nr c3;rw [afn] at jI;refine av ?_;(rw [hdf,← bE,jI]; rfl)
    ·have jI:=c3;have c3:=nr c3;rw [afn] at jI;refine wn<|bV _ ?_ ?_
     ·(refine ⟨ob,ob,?_⟩; rw [← bE,jI,show (g1+1).toNat=g1.toNat+1 by omega]; rfl)
     ·exact ob
   ·refine av ?_;(rw [hdf,← bE,show g1.toNat=m_.length by omega,List.drop_length]; rfl)
  ·(refine ⟨ob,ob,rfl⟩)
theorem abu (h1:l_.length≤2000000) (h2:m_.length≤2000000):W (Fx l_ m_) (λ r=>r=(bif eD l_ != 0 then eD l_ else bif !lq l_ m_ then 1 else 0)):=by
 unfold Fx;refine aH (zS ob) λ v1 hv1=>?_;subst v1;refine bL ?_ ?_<;>intro c1
 ·have gM:=c1;have c1:=nr c1;refine av ?_;(rw [gM]; rfl)
 ·have gM:=c1;have c1:=nr c1;refine aH (OD ob ob) λ v2 hv2=>?_;subst v2;refine bL ?_ ?_<;>intro c2
  ·have kE:=c2;have c2:=nr c2;refine av ?_;(rw [gM,kE]; rfl)
  ·have kE:=c2;have c2:=nr c2;refine av ?_;(rw [gM,kE]; rfl)
theorem aat {c_:aI} {uS:Int} (h1:aaf c_ uS):W (CP c_ uS) (λ r=>r=j4 c_ uS):=by
 have hp:=h1; unfold aaf at hp;unfold CP;refine bL ?_ ?_<;>intro c1
 ·have gM:=c1;have c1:=nr c1;refine av ?_;(unfold j4; rw [gM]; rfl)
 ·have gM:=c1;have c1:=nr c1;refine bL ?_ ?_<;>intro c2
  ·have kE:=c2;have c2:=nr c2;refine wm<|av ?_;(unfold j4; rw [gM,kE]; rfl)
  ·have kE:=c2;have c2:=nr c2;refine wn<|av ?_;(unfold j4; rw [gM,kE]; rfl)
theorem Br {a_:Int} {b_:Int} (h1:0≤a_) (h2:0≤b_):W (qB a_ b_) (λ r=>r=jv a_ b_):=by
 unfold qB;refine bH (λ (g1:Int×Int)=>0≤g1.1∧0≤g1.2∧jv g1.1 g1.2=jv a_ b_) (λ (g1:Int×Int)=>g1.2.toNat) ?_ ?_
 ·intro aj g1 d9 bV;obtain ⟨dN,bO,bE⟩:=d9;unfold H9;refine wi ?_ ?_<;>intro c1
  ·refine wn<|bV _ ?_ ?_
   ·(refine ⟨ob,Int.tmod_nonneg _ om,?_⟩; dsimp only; rw [← bE]; exact ae4 om om)
   ·(dsimp only; have:=TW g1.1 g1.2 om; have:=Int.tmod_nonneg (a:=g1.1) g1.2 om; omega)
  ·refine av ?_;(rw [← bE]; unfold jv; have e:g1.2=0:=c1; rw [e]; simp; omega)
 ·exact ob
variable {r_:bK}
theorem zT:W (rX r_) (λ r=>r=pJ r_):=by
 unfold rX;refine aH (gV λ hc=>lT (Br (by have hc:=nr hc; omega) (by have hc:=nr hc; omega))) λ v1 hv1=>?_;subst v1;refine av ?_;rfl
theorem OE {k_:Int}:W (xD k_) (λ r=>r=xK k_):=by
 unfold xD;refine av ?_;rfl
theorem XD {wT:Int} {wU:Int} (h1:wT≤4611686018427387904) (h2:wU≤4611686018427387904):W (Ia wT wU) (λ r=>r=newR wT wU):=by
 unfold Ia;refine bL ?_ ?_<;>intro c1
 ·have gM:=c1;have c1:=nr c1;refine av ?_;(unfold newR; rw [gM]; rfl)
 ·have gM:=c1;have c1:=nr c1;have hg:=Ay wT wU om; have q1:=tdiv_le wT _ om hg; have q2:=tdiv_le wU _ om hg;refine aH (Br ob ob) λ v1 hv1=>?_;subst v1;refine wm<|aH (zT) λ v2 hv2=>?_;subst v2;refine bL ?_ ?_<;>intro c2
  ·have kE:=c2;have c2:=nr c2;refine av ?_;(unfold newR; rw [gM]; simp only [cond_false]; rw [kE]; rfl)
  ·have kE:=c2;have c2:=nr c2;refine av ?_;(unfold newR; rw [gM]; simp only [cond_false]; rw [kE]; rfl)
theorem adt {k_:Int}:W (JE r_ k_) (λ r=>r=Az r_ k_):=by
 unfold JE;refine aH (zT) λ v1 hv1=>?_;subst v1;refine bL ?_ ?_<;>intro c1
 ·have gM:=c1;have c1:=nr c1;refine av ?_;(unfold Az; rw [gM]; rfl)
 ·have gM:=c1;have c1:=nr c1;have hv:=mD (r:=r_) (by simpa using gM);refine aH (OE) λ v2 hv2=>?_;subst v2;refine bL ?_ ?_<;>intro c2
  ·have kE:=c2;have c2:=nr c2;refine av ?_;(unfold Az; rw [gM,kE]; rfl)
  ·have kE:=c2;have c2:=nr c2;have hk:1≤k_∧k_≤64:=(by simp [xK] at kE; omega);have q3:=VT (show 0≤k_ by omega) hk.2 (show 0≤r_.jm by omega) hv.2.2.2.1;refine wn<|aH (XD ob ob) λ v3 hv3=>?_;subst v3;refine av ?_;(unfold Az; rw [gM,kE]; rfl)
theorem abv {k_:Int}:W (Fy r_ k_) (λ r=>r=qG r_ k_):=by
 unfold Fy;refine aH (zT) λ v1 hv1=>?_;subst v1;refine bL ?_ ?_<;>intro c1
 ·have gM:=c1;have c1:=nr c1;refine av ?_;(unfold qG; rw [gM]; rfl)
 ·have gM:=c1;have c1:=nr c1;have hv:=mD (r:=r_) (by simpa using gM);refine aH (OE) λ v2 hv2=>?_;subst v2;refine bL ?_ ?_<;>intro c2
  ·have kE:=c2;have c2:=nr c2;refine av ?_;(unfold qG; rw [gM,kE]; rfl)
  ·have kE:=c2;have c2:=nr c2;have hk:1≤k_∧k_≤64:=(by simp [xK] at kE; omega);have hg:=Ay k_ r_.jm om;have q1:=tdiv_le k_ _ om hg;have q2:=tdiv_le r_.jm _ om hg;have q4:=aox k_ r_.jm hk om;have q5:=tdiv_le 144115188075855872 _ om (show 0<k_.tdiv (jv k_ r_.jm) by omega);refine aH (Br ob ob) λ v3 hv3=>?_;subst v3;refine wm<|bL ?_ ?_<;>intro c3
   ·have jI:=c3;have c3:=nr c3;refine av ?_;(unfold qG; rw [gM,kE,jI]; rfl)
   ·have jI:=c3;have c3:=nr c3;have q3:=aiv r_.jX (k_.tdiv (jv k_ r_.jm)) hv.1 q4.1 om;refine wm<|wn ?_;refine aH (XD ob ob) λ v4 hv4=>?_;subst v4;refine av ?_;(unfold qG; rw [gM,kE,jI]; rfl)
variable {s_:List Int}
theorem jF {g1:Int×List bK×List Bool} {aj:(Int×List bK×List Bool)→M (List bK×List Bool)} {g7:Bool×Int×Int} {Q:(List bK×List Bool)→Prop} (bV:∀s':(Int×List bK×List Bool),(0≤s'.1∧s'.1≤l_.length∧s'.2.1=(VR l_ s_ s'.1.toNat).1∧s'.2.2=(VR l_ s_ s'.1.toNat).2)→(l_.length - s'.1).toNat<(l_.length - g1.1).toNat→W (aj s') Q) (hc:0≤g1.1∧g1.1<l_.length∧l_.length≤1000∧g1.2.1=(VR l_ s_ g1.1.toNat).1∧g1.2.2=(VR l_ s_ g1.1.toNat).2∧((⟨g7.2.1,g7.2.2⟩:bK),g7.1)=(st1 (VR l_ s_ g1.1.toNat).1 (VR l_ s_ g1.1.toNat).2 (l_.getD g1.1.toNat aK) (s_.getD g1.1.toNat 0))):W (ji g1 aj g7) Q:=by
 obtain ⟨ak0,ak1,Ur,Qr,V9,adu⟩:=hc;unfold ji;refine aO (by (rw [Qr,(PY l_ s_ g1.1.toNat).1]; unfold big; omega)) ?_;refine aO (by (rw [V9,(PY l_ s_ g1.1.toNat).2]; unfold big; omega)) ?_;refine wn<|bV _ ?_ ?_
 ·(refine ⟨ob,ob,?_,?_⟩; (dsimp only; rw [show (g1.1+1).toNat=g1.1.toNat+1 by omega,VR,← adu,← Qr]); (dsimp only; rw [show (g1.1+1).toNat=g1.1.toNat+1 by omega,VR,← adu,← V9]))
 ·exact ob
theorem OG (h1:Good l_ s_) (h2:Up l_ s_):W (xE l_ s_) (λ r=>r=Ri l_ s_):=by
 obtain ⟨q1,q2,q3,q4,q5⟩:=h1;unfold xE;refine bH (λ (g1:Int×List bK×List Bool)=>0≤g1.1∧g1.1≤l_.length∧g1.2.1=(VR l_ s_ g1.1.toNat).1∧g1.2.2=(VR l_ s_ g1.1.toNat).2) (λ (g1:Int×List bK×List Bool)=>(l_.length - g1.1).toNat) ?_ ?_
 ·intro aj g1 d9 bV;obtain ⟨dN,bO,bE,jA⟩:=d9;unfold K9;have hst:=PY l_ s_ g1.1.toNat;refine wi ?_ ?_<;>intro c1
  ·have hch:=q3 g1.1.toNat om;have hpar:=q5 g1.1.toNat om;have hpc:=q4 g1.1.toNat om;have hui:=h2 g1.1.toNat om;refine wm<|aH (aat ob) λ v18 arS=>?_;subst v18;refine wi ?_ ?_<;>intro c2
   ·refine wm ?_;unfold oC;refine wm<|bL ?_ ?_<;>intro c3
    ·have jI:=c3;have c3:=nr c3;exact jF (l_:=l_) (s_:=s_) (λ a b c=>bV a b c) (by (exfalso; have:=(show j4 (l_.getD g1.1.toNat aK) (s_.getD g1.1.toNat 0) = -1 by unfold j4; rw [jI]; rfl); omega))
    ·have jI:=c3;have c3:=nr c3;refine bL ?_ ?_<;>intro c4
     ·have sj:=c4;have c4:=nr c4;refine aH (adt) λ v16 agC=>?_;subst v16;exact jF (l_:=l_) (s_:=s_) (λ a b c=>bV a b c) (by (refine ⟨ob,ob,ob,bE,jA,?_⟩; dsimp only; unfold st1; rw [jI,sj,← bE,← jA]; rfl))
     ·have sj:=c4;have c4:=nr c4;refine bL ?_ ?_<;>intro c5
      ·have AO:=c5;have c5:=nr c5;refine aH (abv) λ v17 atM=>?_;subst v17;exact jF (l_:=l_) (s_:=s_) (λ a b c=>bV a b c) (by (refine ⟨ob,ob,ob,bE,jA,?_⟩; dsimp only; unfold st1; rw [jI,sj,AO,← bE,← jA]; rfl))
      ·have AO:=c5;have c5:=nr c5;refine bL ?_ ?_<;>intro c6
       ·have c6o:=c6;have c6:=nr c6;refine bL ?_ ?_<;>intro c7
        ·have XC:=c7;have c7:=nr c7;exact jF (l_:=l_) (s_:=s_) (λ a b c=>bV a b c) (by (refine ⟨ob,ob,ob,bE,jA,?_⟩; dsimp only; unfold st1; rw [jI,sj,AO,c6o,XC,← bE,← jA]; rfl))
        ·have XC:=c7;have c7:=nr c7;exact jF (l_:=l_) (s_:=s_) (λ a b c=>bV a b c) (by (refine ⟨ob,ob,ob,bE,jA,?_⟩; dsimp only; unfold st1; rw [jI,sj,AO,c6o,XC,← bE,← jA]; rfl))
       ·have c6o:=c6;have c6:=nr c6;exact jF (l_:=l_) (s_:=s_) (λ a b c=>bV a b c) (by (refine ⟨ob,ob,ob,bE,jA,?_⟩; dsimp only; unfold st1; rw [jI,sj,AO,c6o,← bE,← jA]; rfl))
   ·unfold oC;refine wm<|bL ?_ ?_<;>intro c8
    ·have c8o:=c8;have c8:=nr c8;exact jF (l_:=l_) (s_:=s_) (λ a b c=>bV a b c) (by (refine ⟨ob,ob,ob,bE,jA,?_⟩; dsimp only; unfold st1; rw [c8o]; rfl))
    ·have c8o:=c8;have c8:=nr c8;exfalso; have:=hui (by simpa using c8o); omega
  ·refine av ?_;(unfold Ri; rw [bE,jA,show g1.1.toNat=l_.length by omega])
 ·(refine ⟨ob,ob,rfl,rfl⟩)
def ak2 (r:List bK) (on:List Bool) (l:List aI) (j:Nat):Bool:=((on.getD j false)&&((l.getD j aK).fO != 0))&&!nV (r.getD j dS) (l.getD j aK).Low (l.getD j aK).fO
def aiO (l:List aI) (st:List bK×List Bool):Bool:=(List.range l.length).all λ i=>!ak2 st.1 st.2 l i
def aau (st:List bK×List Bool) (x:bM):Bool:=!(st.2.getD x.eZ.toNat false)||!nV (st.1.getD x.eZ.toNat dS) x.Low x.fO
def Rp (l:List aI) (s:List Int) (m:List bM):Bool:=!m.any (aau (Ri l s))&&aiO l (Ri l s)
def VS (l:List aI) (s:List Int):Prop:=s.length=l.length∧∀i,i<l.length→0≤s.getD i 0∧s.getD i 0<(l.getD i aK).aM.length
def qV:List aI→Nat
 | []=>1
 | c::l=>c.aM.length*qV l
def nR:List aI→List Int→Nat
 | c::l,x::t=>x.toNat*qV l+nR l t
 | _,_=>0
theorem Us {c:aI} {s:List Int} (h:VS (c::l) s):∃x t,s=x::t∧0≤x∧x<c.aM.length∧VS l t:=by
 obtain ⟨h1,h2⟩:=h;cases s with
 | nil=>cases h1
 | cons x t=>
  have h0:=h2 0 (by simp);exact ⟨x,t,rfl,h0.1,h0.2,by simpa using h1,λ i hi=>h2 (i+1) (by simpa using hi)⟩
theorem JZ:∀ {s:List Int},VS l s→nR l s<qV l:=by
 induction l with
 | nil=>intro s _; cases s<;>simp [nR,qV]
 | cons c l ih=>
  intro s h;obtain ⟨x,t,rfl,h1,h2,h3⟩:=Us h;have:=ih h3;rw [nR,qV];have h4:(x.toNat+1)*qV l≤c.aM.length*qV l:=Nat.mul_le_mul_right _ om;rw [Nat.add_mul,Nat.one_mul] at h4;omega
theorem aav:∀ {s:List Int},(∀j,j<l.length→s.getD j 0=0)→nR l s=0:=by
 induction l with
 | nil=>intro s _; cases s<;>rfl
 | cons c l ih=>
  intro s h;cases s with
  | nil=>rfl
  | cons x t=>
   have h0:=h 0 (by simp);have h0:x=0:=h0;rw [nR,h0,ih λ j hj=>h (j+1) (by simpa using hj)];simp
theorem adv:∀ {s:List Int},VS l s→(∀j,j<l.length→s.getD j 0+1=(l.getD j aK).aM.length)→nR l s+1=qV l:=by
 induction l with
 | nil=>intro s h _; cases s<;>rfl
 | cons c l ih=>
  intro s hv h;obtain ⟨x,t,rfl,h1,h2,h3⟩:=Us hv;have h0:x+1=c.aM.length:=h 0 (by simp);have:=ih h3 λ j hj=>h (j+1) (by simpa using hj);rw [nR,qV,show c.aM.length=x.toNat+1 by omega,Nat.add_mul,Nat.one_mul];omega
theorem ak3:∀ {s t:List Int} {k:Nat},VS l s→k<l.length→t.length=l.length→(∀j,j<k→t.getD j 0=s.getD j 0)→t.getD k 0=s.getD k 0+1→(∀j,k<j→j<l.length→t.getD j 0=0∧s.getD j 0+1=(l.getD j aK).aM.length)→nR l t=nR l s+1:=by
 induction l with
 | nil=>intro s t k _ h; exact absurd h (Nat.not_lt_zero _)
 | cons c l ih=>
  intro s t k hv hk hl h1 h2 h3;obtain ⟨x,s,rfl,g1,g2,g3⟩:=Us hv;cases t with
  | nil=>cases hl
  | cons y t=>
   cases k with
   | zero=>
    have h2:y=x+1:=h2;have e1:=aav (l:=l) (s:=t) λ j hj=>(h3 (j+1) om (by simpa using hj)).1;have e2:=adv g3 λ j hj=>(h3 (j+1) om (by simpa using hj)).2;rw [nR,nR,e1,h2,show (x+1).toNat=x.toNat+1 by omega,Nat.add_mul,Nat.one_mul];omega
   | succ k=>
    have h0:y=x:=h1 0 om;have:=ih g3 (by simpa using hk) (by simpa using hl) (λ j hj=>h1 (j+1) om) h2 (λ j a b=>h3 (j+1) om (by simpa using b));rw [nR,nR,h0,this];omega
theorem ahC {s t:List Int} {k:Nat} (hv:VS l s) (hk:k<l.length) (hl:t.length=l.length) (h1:∀j,j<k→t.getD j 0=s.getD j 0) (h2:t.getD k 0=s.getD k 0+1) (h3:∀j,k<j→j<l.length→t.getD j 0=0∧s.getD j 0+1=(l.getD j aK).aM.length) (h4:s.getD k 0+1<(l.getD k aK).aM.length):VS l t∧nR l t=nR l s+1:=by
 refine ⟨⟨hl,λ i hi=>?_⟩,ak3 hv hk hl h1 h2 h3⟩;have:=hv.2 i hi;rcases Nat.lt_trichotomy i k with h | h | h
 ·rw [h1 i h]; exact this
 ·subst h; omega
 ·have:=h3 i h hi; omega
theorem Ut {s:List Int} (h:VS l s):lU l s=true:=by
 unfold lU;rw [h.1,beq_self_eq_true,Bool.true_and,List.all_eq_true];intro i hi;have:=h.2 i (by have:=List.mem_range.1 hi; omega);exact (within_iff _ _ _).2 om
theorem aiP (l:List aI) (c:aI):qV (l++[c])=qV l*c.aM.length:=by
 induction l with
 | nil=>simp [qV]
 | cons a l ih=>rw [List.cons_append,qV,qV,ih,Nat.mul_assoc]
theorem aiQ (h:∀c∈l,1≤c.aM.length):mE l=XW (qV l) 1099511627776:=by
 induction l using Jp with
 | nil=>rfl
 | append_singleton l c ih=>
  have hc:=h c (by simp);rw [Sg,ih λ x hx=>h x (by simp [hx]),aiP,Int.natCast_mul];generalize ((qV l:Nat):Int)=a;generalize hb:(c.aM.length:Int)=b;have hb1:1≤b:=by omega
  unfold XW;by_cases h1:(1099511627776:Int)<a
  ·have h2:(1099511627776:Int)<a*b:=by
    have:=Int.mul_le_mul_of_nonneg_left hb1 (show 0≤a by omega);omega
   have h3:(1099511627776:Int)≤1099511627776*b:=by omega
   rw [if_pos h1,if_pos h2];split<;>omega
  ·rw [if_neg h1]
theorem size_le (h:abh l):qV l≤4096:=by
 have hp:=h.prod;rw [aiQ λ c hc=>by
  obtain ⟨k,hk,rfl⟩:=List.mem_iff_getElem.1 hc;have:=Om (lg (h.valid k hk));rw [List.getD_eq_getElem?_getD,List.getElem?_eq_getElem hk] at this;simp only [Option.getD_some] at this;omega] at hp
 unfold XW at hp;split at hp<;>omega
theorem ahD (h:abh l):VS l (List.replicate (l.length:Int).toNat 0):=by
 refine ⟨by simp,λ i hi=>?_⟩;have:=Om (lg (h.valid i hi));rw [Sp.mF];omega
theorem aiR (h:((bif eD l != 0 then eD l else bif !lq l m then 1 else 0) != 0)=false):eD l=0∧lq l m=true:=by
 cases h1:eD l != 0 with
 | true=>rw [h1] at h; simp only [cond_true] at h; rw [h1] at h; cases h
 | false=>
  cases h2:lq l m with
  | false=>rw [h1,h2] at h; cases h
  | true=>exact ⟨by simpa using h1,rfl⟩
theorem ahE (h:lq l m=true):∀x∈m,0≤x.eZ∧x.eZ<l.length:=λ x hx=>(Oo (Iy h x hx)).1
theorem Ei {Cr:Int} {oq:Int}:W (sQ r_ Cr oq) (λ r=>r=nV r_ Cr oq):=by
 unfold sQ;refine aH (zT) λ v1 hv1=>?_;subst v1;refine bL ?_ ?_<;>intro c1
 ·have gM:=c1;have c1:=nr c1;refine av ?_;(unfold nV; rw [show pJ r_=false by simpa using gM]; rfl)
 ·have gM:=c1;have c1:=nr c1;have hv:=mD (r:=r_) (by simpa using gM);have q1:=tdiv_le r_.jX r_.jm hv.1 om;refine wm<|av ?_;(unfold nV; rw [show pJ r_=true by simpa using gM]; rfl)
theorem XE {r_:List bK} {qM:List Bool} (h1:l_.length≤2000000) (h2:r_.length=l_.length) (h3:qM.length=l_.length):W (Ib l_ r_ qM) (λ r=>r=aiO l_ (r_,qM)):=by
 unfold Ib;refine bH (λ (g1:Int)=>0≤g1∧g1≤l_.length∧(∀j:Nat,(j:Int)<g1→ak2 r_ qM l_ j=false)) (λ (g1:Int)=>(l_.length - g1).toNat) ?_ ?_
 ·intro aj g1 d9 bV;obtain ⟨dN,bO,bE⟩:=d9;unfold TP;refine wi ?_ ?_<;>intro c1
  ·refine wm<|wn ?_;refine aH (gV λ hc=>lT (Ei)) λ v3 hv3=>?_;subst v3;refine bL ?_ ?_<;>intro c2
   ·have kE:=c2;have c2:=nr c2;refine av ?_;(unfold aiO; rw [xM (i:=g1.toNat) om (by rw [show ak2 r_ qM l_ g1.toNat=true from kE]; rfl)])
   ·have kE:=c2;have c2:=nr c2;refine wn<|bV _ ?_ ?_
    ·(refine ⟨ob,ob,dZ bE dN kE⟩)
    ·exact ob
  ·refine av ?_;(unfold aiO; rw [zO λ j hj=>(by rw [bE j om]; rfl)])
 ·(refine ⟨ob,ob,λ j hj=>by omega⟩)
theorem adw (h1:Good l_ s_) (h2:Up l_ s_) (h3:m_.length≤2000000) (h4:∀x∈m_,0≤x.eZ∧x.eZ<l_.length):W (JF l_ s_ m_) (λ r=>r=Rp l_ s_ m_):=by
 have hsm:=h1.small;have hst:=PY l_ s_ l_.length;unfold JF;refine aH (OG ob ob) λ v1 hv1=>?_;subst v1;have hs1:(Ri l_ s_).1.length=l_.length:=hst.1;have hs2:(Ri l_ s_).2.length=l_.length:=hst.2;refine bH (λ (g1:Int)=>0≤g1∧g1≤m_.length∧(m_.drop g1.toNat).any (aau (Ri l_ s_))=m_.any (aau (Ri l_ s_))) (λ (g1:Int)=>(m_.length - g1).toNat) ?_ ?_
 ·intro aj g1 d9 bV;obtain ⟨dN,bO,bE⟩:=d9;unfold Q6;refine wi ?_ ?_<;>intro c1
  ·have hlt:g1.toNat<m_.length:=om;have hx:=h4 _ (getD_in (i:=g1.toNat) cZ hlt);rw [drop_cons cZ hlt,List.any_cons] at bE;refine wm<|wn ?_;refine aH (gV λ hc=>lT (Ei)) λ v4 hv4=>?_;subst v4;refine bL ?_ ?_<;>intro c2
   ·have kE:=c2;have c2:=nr c2;refine av ?_;(unfold Rp; rw [← bE,show aau (Ri l_ s_) (m_.getD g1.toNat cZ)=true from kE]; rfl)
   ·have kE:=c2;have c2:=nr c2;refine wn<|bV _ ?_ ?_
    ·(refine ⟨ob,ob,?_⟩; rw [← bE,show aau (Ri l_ s_) (m_.getD g1.toNat cZ)=false from kE,show (g1+1).toNat=g1.toNat+1 by omega]; rfl)
    ·exact ob
  ·refine aH (XE ob ob ob) λ v5 hv5=>?_;subst v5;refine av ?_;(unfold Rp; rw [← bE,show g1.toNat=m_.length by omega,List.drop_length]; rfl)
 ·(refine ⟨ob,ob,rfl⟩)
structure Gp (s:ByteArray):Prop where
 sz:0<s.size∧s.size≤16
 b0:97≤gI s 0∧gI s 0≤122
 bs:∀j:Nat,(j:Int)<s.size→gI s j=45∨(48≤gI s j∧gI s j≤57)∨(97≤gI s j∧gI s j≤122)
structure GpV (n:Int) (g:cK):Prop where
 ok:apO n g
 nw:Gp g.wI
 so:∀k:Nat,1≤k→(k:Int)<g.bS.length→g.bS.getD (k - 1) 0<g.bS.getD k 0
 fw:∀j:Nat,(j:Int)<g.ak.length→Gp (g.ak.getD j ByteArray.empty)
 fd:∀k j:Nat,j<k→(k:Int)<g.ak.length→(g.ak.getD j ByteArray.empty).toList≠(g.ak.getD k ByteArray.empty).toList
structure adx (p:bn):Prop where
 ok:akR p
 gr:∀i:Nat,(i:Int)<p.ay.length→GpV p.bS (p.ay.getD i aG)
 nm:∀i k:Nat,k<i→(i:Int)<p.ay.length→(p.ay.getD k aG).wI.toList≠(p.ay.getD i aG).wI.toList
structure RsV (l:List eG):Prop where
 ok:akQ l
 so:∀i:Nat,(i:Int)<l.length→∀k:Nat,1≤k→(k:Int)<((l.getD i dn).dY).length→((l.getD i dn).dY).getD (k - 1) 0<((l.getD i dn).dY).getD k 0
structure BdV (b:aS):Prop where
 cl:eD b.bR=0
 su:Sp.eD b.bD=0
 pn:adx b.aR
 rs:RsV b.aY
 dm:amJ b.cB
def aaw (l:List Int):Prop:=∀i j:Nat,i<j→(j:Int)<l.length→l.getD i 0<l.getD j 0
theorem aoC {l:List Int} (h:∀k:Nat,1≤k→(k:Int)<l.length→l.getD (k - 1) 0<l.getD k 0):aaw l:=by
 intro i j hij;induction j with
 | zero=>omega
 | succ j ih=>
  intro hj;have h1:=h (j+1) om hj;rw [Nat.add_sub_cancel] at h1;by_cases e:i=j
  ·rw [e]; exact h1
  ·have:=ih om om; omega
def aiS (p:bn) (x y:Int):Prop:=∀i j:Nat,(i:Int)<(p.ay.getD x.toNat aG).bS.length→(j:Int)<(p.ay.getD y.toNat aG).bS.length→(p.ay.getD x.toNat aG).bS.getD i 0≠(p.ay.getD y.toNat aG).bS.getD j 0
def amN (p:bn) (x:Int) (f:ByteArray):Prop:=∃k:Nat,(k:Int)<(p.ay.getD x.toNat aG).ak.length∧((p.ay.getD x.toNat aG).ak.getD k ByteArray.empty).toList=f.toList
structure X6 (p:bn) (l:List ByteArray) (gs:List Int):Prop where
 ir:∀x∈gs,0≤x∧x<p.ay.length
 off:∀k:Nat,(k:Int)<gs.length→amN p (gs.getD k 0) (l.getD k ByteArray.empty)
 dj:∀k j:Nat,j<k→(k:Int)<gs.length→aiS p (gs.getD j 0) (gs.getD k 0)
def aax (l:List eG) (s:List Bool):Prop:=∀i:Nat,(i:Int)<l.length→s.getD i false=true→∀x∈(l.getD i dn).dY,s.getD x.toNat false=true
structure afo (l:List dD) (s:List Bool):Prop where
 al:∀i:Nat,(i:Int)<l.length→(l.getD i dH).fK=true→s.getD i false=true
 pa:∀i:Nat,(i:Int)<l.length→s.getD i false=true→0≤(l.getD i dH).aN→s.getD (l.getD i dH).aN.toNat false=true
variable {i:Nat} {j:Nat}
theorem FT {l:List Bool} (h:l.getD i false=true∨i=j) (hj:j<l.length):(l.set j true).getD i false=true:=by
 by_cases e:i=j
 ·subst e; rw [List.getD_eq_getElem?_getD,List.getElem?_set_self hj]; rfl
 ·rw [List.getD_eq_getElem?_getD,List.getElem?_set_ne (Ne.symm e),← List.getD_eq_getElem?_getD]; exact h.resolve_right e
theorem kM {l:List Bool} {b:Bool} (h:i≠j):(l.set j b).getD i false=l.getD i false:=by
 rw [List.getD_eq_getElem?_getD,List.getElem?_set_ne (Ne.symm h),← List.getD_eq_getElem?_getD]
theorem pU {l:List Bool} {b:Bool} (hj:j<l.length):(l.set j b).getD j false=b:=by
 rw [List.getD_eq_getElem?_getD,List.getElem?_set_self hj]; rfl
def RgK (l:List dD) (s:List Bool) (k:Nat):Prop:=((l.getD k dH).fK=true→s.getD k false=true)∧(s.getD k false=true→0≤(l.getD k dH).aN→s.getD (l.getD k dH).aN.toNat false=true)
variable {s:List Bool}
theorem Uu {b:Bool} (hi:i<s.length) (h:s.getD j false=true):(s.set i (s.getD i false||b)).getD j false=true:=by
 by_cases e:j=i
 ·subst e; rw [pU hi,h]; rfl
 ·rw [kM e]; exact h
theorem apQ {l:List dD} {g:Int} (h0:0≤g) (hs:s.length=l.length) (h:∀k:Nat,g<(k:Int)→(k:Int)<l.length→RgK l s k)
  (hn:¬ ((s.set g.toNat (s.getD g.toNat false||(l.getD g.toNat dH).fK)).getD g.toNat false=true∧0≤(l.getD g.toNat dH).aN)) {k:Nat} (hk:g≤(k:Int)) (hl:(k:Int)<l.length):RgK l (s.set g.toNat (s.getD g.toNat false||(l.getD g.toNat dH).fK)) k:=by
 by_cases e:k=g.toNat
 ·subst e;refine ⟨λ h1=>?_,λ h1 h2=>absurd ⟨h1,h2⟩ hn⟩;rw [pU om,h1,Bool.or_true]
 ·obtain ⟨h1,h2⟩:=h k om hl;refine ⟨λ q=>by rw [kM e]; exact h1 q,λ q1 q2=>?_⟩;rw [kM e] at q1;exact Uu om (h2 q1 q2)
theorem apR {l:List dD} {g:Int} (h0:0≤g) (hs:s.length=l.length) (hp:0≤(l.getD g.toNat dH).aN∧(l.getD g.toNat dH).aN<g) (h:∀k:Nat,g<(k:Int)→(k:Int)<l.length→RgK l s k)
  {k:Nat} (hk:g≤(k:Int)) (hl:(k:Int)<l.length):RgK l ((s.set g.toNat (s.getD g.toNat false||(l.getD g.toNat dH).fK)).set (l.getD g.toNat dH).aN.toNat true) k:=by
 have hne:k≠(l.getD g.toNat dH).aN.toNat:=by omega
 have hlen:(l.getD g.toNat dH).aN.toNat<(s.set g.toNat (s.getD g.toNat false||(l.getD g.toNat dH).fK)).length:=by rw [List.length_set]; omega
 by_cases e:k=g.toNat
 ·subst e;refine ⟨λ h1=>?_,λ h1 h2=>pU hlen⟩;rw [kM hne,pU om,h1,Bool.or_true]
 ·obtain ⟨h1,h2⟩:=h k om hl;refine ⟨λ q=>by rw [kM hne,kM e]; exact h1 q,λ q1 q2=>?_⟩;rw [kM hne,kM e] at q1;exact FT (.inl (Uu om (h2 q1 q2))) hlen
theorem Uv {p:bn} (h:adx p) {x:Int} (h0:0≤x) (h1:x<p.ay.length):aaw (p.ay.getD x.toNat aG).bS:=aoC λ k h2 h3=>(h.gr x.toNat om).so k h2 h3
theorem OH {g_:cK} {fD:ByteArray} (h1:g_.ak.length≤2000000):W (Iq g_ fD) (λ r => -1≤r∧r<g_.ak.length∧(0≤r→(g_.ak.getD r.toNat ByteArray.empty).toList=fD.toList)∧(r<0→∀k:Nat,(k:Int)<g_.ak.length→(g_.ak.getD k ByteArray.empty).toList≠fD.toList)):=by
 unfold Iq;refine bH (λ (g1:Int)=>0≤g1∧(∀k:Nat,(k:Int)<g1→(g_.ak.getD k ByteArray.empty).toList≠fD.toList)) (λ (g1:Int)=>(g_.ak.length - g1).toNat) ?_ ?_
 ·intro aj g1 d9 bV;obtain ⟨dN,bO⟩:=d9;unfold Xw;refine wi ?_ ?_<;>intro c1
  ·refine wn<|bL ?_ ?_<;>intro c2
   ·have kE:=c2;have c2:=nr c2;refine av ?_;(refine ⟨om,om,λ _=>by simpa using kE,λ h=>by omega⟩)
   ·have kE:=c2;have c2:=nr c2;refine wn<|bV _ ?_ ?_
    ·(refine ⟨ob,dZ bO dN (by simpa using kE)⟩)
    ·exact ob
  ·refine av ?_;(refine ⟨om,om,λ h=>by omega,λ _ k hk=>bO k om⟩)
 ·(refine ⟨ob,λ j hj=>by (try dsimp only at hj); omega⟩)
theorem aay {a_:List Int} {b_:List Int} (h1:a_.length≤2000000) (h2:b_.length≤2000000) (h3:aaw a_) (h4:aaw b_):W (FK a_ b_) (λ r=>r=false→∀i j:Nat,(i:Int)<a_.length→(j:Int)<b_.length→a_.getD i 0≠b_.getD j 0):=by
 unfold FK;refine bH (λ (g1:Int×Int)=>0≤g1.1∧0≤g1.2∧(∀i j:Nat,(i:Int)<a_.length→(j:Int)<b_.length→((i:Int)<g1.1∨(j:Int)<g1.2)→a_.getD i 0≠b_.getD j 0)) (λ (g1:Int×Int)=>(a_.length - g1.1).toNat+(b_.length - g1.2).toNat) ?_ ?_
 ·intro aj g1 d9 bV;obtain ⟨dN,bO,bE⟩:=d9;unfold Od;refine bL ?_ ?_<;>intro c1
  ·have gM:=c1;have c1:=nr c1;refine wm<|wi ?_ ?_<;>intro c2
   ·exact av<|ob
   ·refine wm<|wi ?_ ?_<;>intro c3
    ·refine wn<|bV _ ?_ ?_
     ·(refine ⟨ob,ob,λ i j hi hj hc=>?_⟩; by_cases q:(i:Int)<g1.1∨(j:Int)<g1.2; (exact bE i j hi hj q); (have e:i=g1.1.toNat:=by (try dsimp only at hc); omega); subst e; by_cases e2:j=g1.2.toNat; (subst e2; omega); (have:=h4 g1.2.toNat j om hj); omega)
     ·exact ob
    ·refine wn<|bV _ ?_ ?_
     ·(refine ⟨ob,ob,λ i j hi hj hc=>?_⟩; by_cases q:(i:Int)<g1.1∨(j:Int)<g1.2; (exact bE i j hi hj q); (have e:j=g1.2.toNat:=by (try dsimp only at hc); omega); subst e; by_cases e2:i=g1.1.toNat; (subst e2; omega); (have:=h3 g1.1.toNat i om hi); omega)
     ·exact ob
  ·have gM:=c1;have c1:=nr c1;refine av ?_;(intro _ i j hi hj; refine bE i j hi hj ?_; simp only [Bool.and_eq_false_iff,decide_eq_false_iff_not] at gM; omega)
 ·(refine ⟨ob,ob,λ i j h1 h2 h3=>by (try dsimp only at h3); omega⟩)
theorem Rq {p_:bn} {eY:List Int} {g_:Int} (h1:∀g∈p_.ay,g.bS.length≤2000000∧g.ak.length≤2000000) (h2:eY.length≤2000000) (h3:∀x∈eY,0≤x∧x<p_.ay.length) (h4:0≤g_) (h5:g_<p_.ay.length) (h6:adx p_):W (Eb p_ eY g_) (λ r=>r=true→∀j:Nat,(j:Int)<eY.length→aiS p_ (eY.getD j 0) g_):=by
 have hgl:=h1 _ (getD_in (i:=g_.toNat) aG om);unfold Eb;refine bH (λ (g1:Int)=>0≤g1∧(∀j:Nat,(j:Int)<g1→aiS p_ (eY.getD j 0) g_)) (λ (g1:Int)=>(eY.length - g1).toNat) ?_ ?_
 ·intro aj g1 d9 bV;obtain ⟨dN,bO⟩:=d9;unfold Rb;refine wi ?_ ?_<;>intro c1
  ·have hx:=h3 _ (getD_in (i:=g1.toNat) 0 om);have hgx:=h1 _ (getD_in (i:=(eY.getD g1.toNat 0).toNat) aG om);refine wm<|wm ?_;refine aH (rA λ hc=>aay om om (Uv h6 hx.1 hx.2) (Uv h6 h4 h5)) λ v3 hv3=>?_;refine bL ?_ ?_<;>intro c2
   ·have kE:=c2;have c2:=nr c2;exact av<|ob
   ·have kE:=c2;have c2:=nr c2;refine wn<|bV _ ?_ ?_
    ·(refine ⟨ob,dZ bO dN ?_⟩; rw [decide_eq_true hx.1,Bool.true_and] at kE; exact hv3 (decide_eq_true hx.1) kE)
    ·exact ob
  ·refine av ?_;(intro _ j hj; exact bO j om)
 ·(refine ⟨ob,λ j hj=>by (try dsimp only at hj); omega⟩)
theorem X7 {p_:bn} {fD:ByteArray} (h1:∀g∈p_.ay,g.bS.length≤2000000∧g.ak.length≤2000000) (h2:p_.ay.length≤2000000):W (CY p_ fD) (λ r=>r.length≤p_.ay.length∧∀x∈r,(0≤x∧x<p_.ay.length)∧amN p_ x fD):=by
 unfold CY;refine bH (λ (g1:Int×List Int)=>0≤g1.1∧g1.1≤p_.ay.length∧(g1.2.length:Int)≤g1.1∧(∀x∈g1.2,(0≤x∧x<p_.ay.length)∧amN p_ x fD)) (λ (g1:Int×List Int)=>(p_.ay.length - g1.1).toNat) ?_ ?_
 ·intro aj g1 d9 bV;obtain ⟨dN,bO,bE,jA⟩:=d9;unfold Lu;refine wi ?_ ?_<;>intro c1
  ·have hgl:=h1 _ (getD_in (i:=g1.1.toNat) aG om);refine wn<|aH (OH ob) λ v3 hv3=>?_;obtain ⟨aac,ab3,ab4,akn⟩:=hv3;refine wi ?_ ?_<;>intro c2
   ·refine wm<|bV _ ?_ ?_
    ·(refine ⟨ob,ob,ob,λ x hx=>?_⟩; rcases List.mem_append.1 hx with hx | hx; (exact jA x hx); rw [List.mem_singleton] at hx; subst hx; exact ⟨om,v3.toNat,om,ab4 om⟩)
    ·exact ob
   ·refine wn<|bV _ ?_ ?_
    ·exact ob
    ·exact ob
  ·refine av ?_;(refine ⟨om,jA⟩)
 ·exact ob
theorem ak4 {p:bn} {l:List ByteArray} {gs:List Int} {x:Int} (h:X6 p l gs) (hx:0≤x∧x<p.ay.length) (ho:amN p x (l.getD gs.length ByteArray.empty)) (hd:∀j:Nat,(j:Int)<gs.length→aiS p (gs.getD j 0) x):X6 p l (gs++[x]):=by
 have e1:∀j:Nat,j<gs.length→(gs++[x]).getD j 0=gs.getD j 0:=λ j hj=>jo 0 hj;have e2:(gs++[x]).getD gs.length 0=x:=jD 0 rfl;refine ⟨λ y hy=>?_,λ k hk=>?_,λ k j hj hk=>?_⟩
 ·rcases List.mem_append.1 hy with hy | hy
  ·exact h.ir y hy
  ·rw [List.mem_singleton] at hy; rw [hy]; exact hx
 ·rw [List.length_append,List.length_singleton] at hk;by_cases q:k<gs.length
  ·rw [e1 k q]; exact h.off k om
  ·have:k=gs.length:=by omega
   subst this; rw [e2]; exact ho
 ·rw [List.length_append,List.length_singleton] at hk;by_cases q:k<gs.length
  ·rw [e1 k q,e1 j om]; exact h.dj k j hj om
  ·have:k=gs.length:=by omega
   subst this; rw [e2,e1 j om]; exact hd j om
theorem amO (bs:ByteArray):∀(n i:Nat) (r:List UInt8),bs.size - i=n→ByteArray.toList.loop bs i r=r.reverse++bs.data.toList.drop i:=by
 intro n;induction n with
 | zero=>
  intro i r h;unfold ByteArray.toList.loop;rw [if_neg om,List.drop_eq_nil_of_le (by show bs.data.toList.length≤i; rw [Array.length_toList]; show bs.size≤i; omega),List.append_nil]
 | succ n ih=>
  intro i r h;unfold ByteArray.toList.loop;rw [if_pos om,ih (i+1) _ om,List.reverse_cons,List.append_assoc];have hi:i<bs.data.toList.length:=by rw [Array.length_toList]; show i<bs.size; omega
  rw [List.drop_eq_getElem_cons hi];congr 1;show bs.get! i::_=_;congr 1;unfold ByteArray.get!;rw [Array.getElem_toList];exact getElem!_pos bs.data i _
theorem ahF (b:ByteArray):b.toList=b.data.toList:=by
 unfold ByteArray.toList;rw [amO b _ 0 [] rfl]; rfl
theorem Sw {a b:ByteArray} (h:a.toList=b.toList):a=b:=by
 rw [ahF,ahF] at h;cases a; cases b;congr;exact Array.toList_inj.1 h
theorem anl {s:ByteArray} (h:0<s.size):(s.toList==({ data:=#[] }:ByteArray).toList)=false:=by
 rw [beq_eq_false_iff_ne];intro e;have:=Sw e;rw [this] at h;exact absurd h (by decide)
theorem RI {α:Type} {X:Nat→α} {x:α}:upd X j x j=x:=ait X j x
theorem upd_ne {α:Type} {X:Nat→α} {x:α} (h:i≠j):upd X j x i=X i:=by
 unfold upd;cases e:Nat.beq i j with
 | true=>exact absurd (Nat.eq_of_beq_eq_true e) h
 | false=>rfl
def UsV (p:bn) (l:List oJ):Prop:=(∀u∈l,LC p u)∧∀k j:Nat,j<k→(k:Int)<l.length→aiS p (l.getD j fU).dx (l.getD k fU).dx
theorem ady {s_:ByteArray} (h1:Gp s_):W (sH s_) (λ r=>r=true):=by
 obtain ⟨⟨w1,w2⟩,⟨w3,w4⟩,w5⟩:=h1;unfold sH;refine aO (by intro _; omega) ?_;refine aO (by intro _; omega) ?_;refine bL ?_ ?_<;>intro c1
 ·have gM:=c1;have c1:=nr c1;refine av ?_;(exfalso; simp only [anl w1,Bool.false_or,Bool.or_eq_true,decide_eq_true_eq] at gM; omega)
 ·have gM:=c1;have c1:=nr c1;refine bH (λ (g1:Int)=>0≤g1) (λ (g1:Int)=>(s_.size - g1).toNat) ?_ ?_
  ·intro aj g1 d9 bV;unfold Js;refine wi ?_ ?_<;>intro c2
   ·refine wn<|wi ?_ ?_<;>intro c3
    ·refine av ?_;(exfalso; have:=w5 g1.toNat om; omega)
    ·refine wn<|bV _ ?_ ?_
     ·exact ob
     ·exact ob
   ·refine av ?_;(first | rfl | exact ob)
  ·exact ob
end Go.Proofs.YtccjmcmolnbiiaaGreatDoor

/- An abstract machine over the model's code, that it is sound; models of the functions and their proofs. -/
import Derived.Test.YtccjmcmolnbiiaaGreatDoorA4
import Derived.Test.YtccjmcmolnbiiaaGreatDoorA5
set_option linter.unusedVariables false
set_option linter.unusedSimpArgs false
namespace Go.Proofs.YtccjmcmolnbiiaaGreatDoor.Sp
open Go.Ab
set_option maxRecDepth 100000
deriving instance DecidableEq for ay,bf,cu
structure Chn where
 over:Bool
 axr:List Int
 first:Int
 last:Int
deriving DecidableEq
structure Dem where
 yB:Int
 draw:Int
 child:Int
deriving DecidableEq
def O8:Dem:=⟨0,0,0⟩
def dL (n lo hi:Int):Bool:=decide (lo≤n)&&decide (n≤hi)
def UH (s:ay):Bool:=decide (16<(s.bK.length:Int))
def X6 (s:ay) (k:Int):Bool:=((((!dL s.aM (-1) (k - 1))||((s.bK.length:Int)==0))||!dL s.gB 0 5000)||(decide (s.aM<0)&&(s.gB != 0)))||!dL s.iy 0 10000
def O9:Int→List Int→Bool
 | _,[]=>true
 | p,v::t=>!(!dL v 1 5000||decide (v≤p))&&O9 v t
def zL (s:ay) (k:Int):Bool:=!X6 s k&&O9 0 s.bK
variable {i:Nat}
theorem afG {lev:List Int} (hi:i<lev.length) {c:Bool} (hc:c=(!dL (lev.getD i 0) 1 5000||(decide (0<(i:Int))&&decide (lev.getD i 0≤lev.getD (i - 1) 0)))):
  O9 (if i=0 then 0 else lev.getD (i - 1) 0) (lev.drop i)=(!c&&O9 (lev.getD i 0) (lev.drop (i+1))):=by
 rw [drop_cons 0 hi,O9,hc];congr 2;cases h:dL (lev.getD i 0) 1 5000 with
 | false=>rfl
 | true=>
  have h1:1≤lev.getD i 0:=by unfold dL at h; simp at h; simpa using h.1
  by_cases h0:i=0
  ·subst h0;simp;have h1:1≤lev.getD 0 0:=h1;have:¬ lev.getD 0 0≤0:=by omega
   simpa using this
  ·have:decide (0<(i:Int))=true:=by simp; omega
   rw [this,if_neg h0];simp
def aaI (n:Int) (x:bf):Bool:=((!dL x.bM 0 (n - 1)||!dL x.fP 0 5000)||!dL x.Low 0 x.fP)||!dL x.Load 0 10000
def Wy:Nat→List ay→Bool
 | _,[]=>true
 | i,s::t=>zL s i&&Wy (i+1) t
def eD (l:List ay):Int:=bif decide (16<(l.length:Int))||l.any UH then 3 else bif Wy 0 l then 0 else 1
variable {α:Type}
theorem nZ (d:α) {p:α→Bool} {l:List α} (h:l.any p=false) (i:Nat) (hi:i<l.length):p (l.getD i d)=false:=by
 have:=jh d hi;rw [List.any_eq_false] at h;simpa using h _ this
theorem aiz (n:Nat):decide ((n:Int)<1)=((n:Int)==0):=by
 by_cases h:n=0
 ·subst h; rfl
 ·rw [decide_eq_false om];symm;simpa using h
def iB (l:List ay) (d:List bf):Bool:=((eD l==0)&&decide ((d.length:Int)≤32))&&!(d.any (aaI l.length))
theorem afH (n:Int) (x:bf):(((!dL x.bM 0 (n - 1)||!dL x.Low 0 x.fP)||decide (5000<x.fP))||!dL x.Load 0 10000)=aaI n x:=by
 unfold aaI;cases dL x.bM 0 (n - 1) with
 | false=>rfl
 | true=>
  cases dL x.Load 0 10000 with
  | false=>simp
  | true=>
   simp only [Bool.not_true,Bool.false_or,Bool.or_false];unfold dL;by_cases h1:0≤x.Low<;>by_cases h2:x.Low≤x.fP<;>by_cases h3:5000<x.fP<;>by_cases h4:0≤x.fP<;>by_cases h5:x.fP≤5000<;>simp [h1,h2,h3,h4,h5]<;>omega
def rlN:List ay→List Int→Bool
 | s::l,k::t=>dL k 0 (s.bK.length - 1)&&rlN l t
 | _,_=>true
def vV (l:List ay) (r:cu):Bool:=bif ((eD l != 0)||((r.On.length:Int) != l.length))||((r.dQ.length:Int) != l.length) then false else rlN l r.dQ
variable {l:List ay}
theorem Kn (h:eD l=0):l.length≤16∧(∀i,i<l.length→(l.getD i au).bK.length≤16)∧Wy 0 l=true:=by
 unfold eD at h;cases h1:(decide (16<(l.length:Int))||l.any UH) with
 | true=>rw [h1] at h; cases h
 | false=>
  rw [h1] at h;have h2:Wy 0 l=true:=by
   cases hv:Wy 0 l with
   | true=>rfl
   | false=>rw [hv] at h; cases h
  simp only [Bool.or_eq_false_iff] at h1;refine ⟨by have:=of_decide_eq_false h1.1; omega,λ i hi=>?_,h2⟩;have:=nZ au h1.2 i hi;unfold UH at this;have:=of_decide_eq_false this;omega
def qj (l:List ay) (d:List bf):Int:=bif eD l != 0 then eD l else bif !iB l d then 1 else 0
theorem fZ (d:α) (l:List α) (i:Nat) (v:α) (k:Nat):(l.set i v).getD k d=if k=i∧i<l.length then v else l.getD k d:=by
 rw [List.getD_eq_getElem?_getD,List.getD_eq_getElem?_getD,List.getElem?_set];by_cases h:i=k
 ·subst h;by_cases h2:i<l.length
  ·simp [h2]
  ·simp [h2]
 ·have:¬ (k=i∧i<l.length):=λ h'=>h h'.1.symm;simp [h,this]
def UJ {α:Type} (f:Nat→α→α):Nat→α→α
 | 0,a=>a
 | k+1,a=>UJ f k (f k a)
def qK (n:Nat) (d:List bf):List Bool:=d.foldl (λ a x=>a.set x.bM.toNat true) (List.replicate n false)
def iF (l:List ay) (i:Nat) (a:List Bool):List Bool:=
 bif (a.getD i false||(l.getD i au).fM)&&decide (0≤(l.getD i au).aM) then (a.set i (a.getD i false||(l.getD i au).fM)).set (l.getD i au).aM.toNat true else a.set i (a.getD i false||(l.getD i au).fM)
def fI (l:List ay) (d:List bf):List Bool:=UJ (iF l) l.length (qK l.length d)
structure Ko (l:List ay) (d:List bf):Prop where
 len:l.length≤16
 auj:d.length≤32
 bM:∀i,i<l.length → -1≤(l.getD i au).aM∧(l.getD i au).aM<i∧1≤(l.getD i au).bK.length∧(l.getD i au).bK.length≤16∧0≤(l.getD i au).gB∧(l.getD i au).gB≤5000∧0≤(l.getD i au).iy∧(l.getD i au).iy≤10000
 bK:∀i,i<l.length→O9 0 (l.getD i au).bK=true
 drw:∀x∈d,0≤x.bM∧x.bM<l.length∧0≤x.Low∧x.Low≤x.fP∧x.fP≤5000∧0≤x.Load∧x.Load≤10000
theorem Bo {n lo hi:Int}:dL n lo hi=true↔lo≤n∧n≤hi:=by
 unfold dL;simp
variable {k:Nat}
theorem afI (h:Wy k l=true):∀i,i<l.length→zL (l.getD i au) ((k+i:Nat):Int)=true:=by
 induction l generalizing k with
 | nil=>intro i hi; simp at hi
 | cons s t ih=>
  rw [Wy,Bool.and_eq_true] at h;intro i hi;cases i with
  | zero=>exact h.1
  | succ i=>
   have:=ih h.2 i (by simpa using hi);rw [show k+(i+1)=k+1+i by omega];exact this
theorem afJ {s:ay} {k:Int} (h:zL s k=true) : -1≤s.aM∧s.aM<k∧1≤s.bK.length∧0≤s.gB∧s.gB≤5000∧0≤s.iy∧s.iy≤10000∧O9 0 s.bK=true∧(s.aM<0→s.gB=0):=by
 unfold zL X6 at h;simp only [Bool.and_eq_true,Bool.not_eq_true',Bool.or_eq_false_iff,Bool.not_eq_false',Bo] at h;obtain ⟨⟨⟨⟨⟨h1,h2⟩,h3⟩,h4⟩,h5⟩,h6⟩:=h;have h2':¬ (s.bK.length:Int)=0:=by simpa using h2
 refine ⟨h1.1,om,om,h3.1,h3.2,h5.1,h5.2,h6,λ hp=>?_⟩;rw [decide_eq_true hp] at h4;simpa using h4
variable {d:List bf}
theorem sP (h:iB l d=true):Ko l d:=by
 unfold iB at h;simp only [Bool.and_eq_true,Bool.not_eq_true'] at h;obtain ⟨⟨h1,h2⟩,h3⟩:=h;have h1:eD l=0:=by simpa using h1
 obtain ⟨c1,c2,c3⟩:=Kn h1;refine ⟨c1,by have:=of_decide_eq_true h2; omega,λ i hi=>?_,λ i hi=>?_,λ x hx=>?_⟩
 ·have:=afJ (afI c3 i hi);have:=c2 i hi;omega
 ·exact (afJ (afI c3 i hi)).2.2.2.2.2.2.2.1
 ·have:=(List.any_eq_false.1 h3) x hx;unfold aaI at this;simp only [Bool.not_eq_true,Bool.or_eq_false_iff,Bool.not_eq_false',Bo] at this;omega
theorem acK {β:Type} (f:List α→β→List α) (hf:∀a x,(f a x).length=a.length) (d:List β) (a:List α):(d.foldl f a).length=a.length:=by
 induction d generalizing a with
 | nil=>rfl
 | cons x d ih=>rw [List.foldl_cons,ih,hf]
theorem tK (n:Nat) (d:List bf):(qK n d).length=n:=by
 unfold qK;rw [acK _ (λ a x=>List.length_set ..),List.length_replicate]
theorem nS (l:List ay) (i:Nat) (a:List Bool):(iF l i a).length=a.length:=by
 unfold iF;cases (a.getD i false||(l.getD i au).fM)&&decide (0≤(l.getD i au).aM)<;>simp
theorem acL {f:Nat→List α→List α} (hf:∀i a,(f i a).length=a.length) (k:Nat) (a:List α):(UJ f k a).length=a.length:=by
 induction k generalizing a with
 | zero=>rfl
 | succ k ih=>rw [UJ,ih,hf]
theorem tL (l:List ay) (d:List bf):(fI l d).length=l.length:=by
 unfold fI;rw [acL (nS l),tK]
def JH {α:Type} (f:Nat→α→α) (n:Nat):Nat→α→α
 | 0,a=>a
 | k+1,a=>f (n - 1 - k) (JH f n k a)
theorem ajG (f:Nat→α→α) (n k:Nat) (hk:k≤n) (a:α):UJ f n a=UJ f (n - k) (JH f n k a):=by
 induction k with
 | zero=>rfl
 | succ k ih=>
  rw [ih om,show n - k=n - (k+1)+1 by omega,UJ,JH,show n - 1 - k=n - (k+1) by omega]
theorem DJ (f:Nat→α→α) (n:Nat) (a:α):JH f n n a=UJ f n a:=by
 rw [ajG f n n (Nat.le_refl _),Nat.sub_self];rfl
theorem vC {f:Nat→List α→List α} (hf:∀i a,(f i a).length=a.length) (n k:Nat) (a:List α):(JH f n k a).length=a.length:=by
 induction k with
 | zero=>rfl
 | succ k ih=>rw [JH,hf,ih]
theorem mP (n k:Nat) (v:α):(List.replicate n v).getD k v=v:=by
 rw [List.getD_eq_getElem?_getD,List.getElem?_replicate];split<;>rfl
def zM (n:Nat) (d:List bf):List Int:=d.foldl (λ a x=>a.set x.bM.toNat (a.getD x.bM.toNat 0+x.Load)) (List.replicate n 0)
def iH (l:List ay) (i:Nat) (a:List Int):List Int:=
 bif decide (0≤(l.getD i au).aM) then a.set (l.getD i au).aM.toNat (a.getD (l.getD i au).aM.toNat 0+a.getD i 0) else a
def lG (l:List ay) (d:List bf):List Int:=UJ (iH l) l.length (zM l.length d)
theorem yC (n:Nat) (d:List bf):(zM n d).length=n:=by
 unfold zM;rw [acK _ (λ a x=>List.length_set ..),List.length_replicate]
theorem tN (l:List ay) (i:Nat) (a:List Int):(iH l i a).length=a.length:=by
 unfold iH;cases decide (0≤(l.getD i au).aM)<;>simp
theorem Td (l:List ay) (d:List bf):(lG l d).length=l.length:=by
 unfold lG;rw [acL (tN l),yC]
def Bnd (a:List Int) (M:Int):Prop:=∀j,0≤a.getD j 0∧a.getD j 0≤M
variable {a:List Int}
theorem Bnd.set {M N:Int} (h:Bnd a M) (hM:M≤N) (i:Nat) (v:Int) (hv:0≤v∧v≤N):Bnd (a.set i v) N:=λ j=>by
 rw [fZ];have:=h j;split
 ·exact hv
 ·omega
theorem afK (n:Nat) (d:List bf) (hd:∀x∈d,0≤x.Load∧x.Load≤10000) (i:Nat) (hi:i≤d.length):Bnd (zM n (d.take i)) (10000*i):=by
 induction i with
 | zero=>intro j; rw [List.take_zero]; have:(zM n []).getD j 0=0:=mP n j 0; omega
 | succ i ih=>
  have hsn:zM n (d.take (i+1))=(zM n (d.take i)).set (d.getD i dH).bM.toNat ((zM n (d.take i)).getD (d.getD i dH).bM.toNat 0+(d.getD i dH).Load):=vJ _ _ dH hi;rw [hsn];have h1:=ih om;have h2:=hd _ (jh dH hi);have h3:=h1 (d.getD i dH).bM.toNat;exact h1.set om _ _ om
theorem ahu (l:List ay) (a:List Int) (M:Int) (h:Bnd a M) (k:Nat):Bnd (JH (iH l) l.length k a) (M*2 ^ k):=by
 induction k with
 | zero=>show Bnd a (M*2 ^ 0); rw [Int.pow_zero,Int.mul_one]; exact h
 | succ k ih=>
  rw [JH];have e:M*2 ^ (k+1)=M*2 ^ k+M*2 ^ k:=by rw [Int.pow_succ,← Int.mul_assoc]; omega
  rw [e];generalize JH (iH l) l.length k a=A at ih;generalize M*2 ^ k=X at ih;have hp:0≤X:=by have:=ih 0; omega
  unfold iH;cases decide (0≤(l.getD (l.length - 1 - k) au).aM) with
  | true=>
   have h1:=ih (l.getD (l.length - 1 - k) au).aM.toNat;have h2:=ih (l.length - 1 - k);exact ih.set om _ _ om
  | false=>
   intro j;have:=ih j;simp only [cond_false];omega
theorem Kq (hv:Ko l d) (k:Nat) (hk:k≤l.length):Bnd (JH (iH l) l.length k (zM l.length d)) 100000000000:=by
 have h1:=afK l.length d (λ x hx=>by have:=hv.drw x hx; omega) d.length (Nat.le_refl _);rw [List.take_length] at h1;have h2:=ahu l _ _ h1 k;have hvl:=hv.len;have hvd:=hv.auj;have h3:(2:Int) ^ k≤2 ^ 16:=by exact_mod_cast Nat.pow_le_pow_right (n:=2) (by decide) (show k≤16 by omega)
 have h4:10000*(d.length:Int)*2 ^ k≤320000*2 ^ 16:=Int.mul_le_mul om h3 (Int.pow_nonneg (by decide)) (by decide);intro j;have:=h2 j;omega
theorem afL (h:qj l d=0):iB l d=true:=by
 unfold qj at h;cases hc:eD l != 0 with
 | true=>rw [hc] at h; have:eD l=0:=h; rw [this] at hc; cases hc
 | false=>
  rw [hc] at h;cases hd:iB l d with
  | true=>rfl
  | false=>rw [hd] at h; cases h
def nu (l:List ay) (r:cu) (k:Nat):Int:=(l.getD k au).bK.getD (r.dQ.getD k 0).toNat 0
def Pb (l:List ay) (r:cu) (u:List Bool) (ld:List Int) (i:Nat):Bool:=
 bif !r.On.getD i false then u.getD i false
 else (decide (0≤(l.getD i au).aM)&&(!r.On.getD (l.getD i au).aM.toNat false||decide (nu l r (l.getD i au).aM.toNat<nu l r i+(l.getD i au).gB)))||decide ((l.getD i au).iy<ld.getD i 0)
def aaJ (l:List ay) (r:cu) (x:bf):Bool:=!dL (nu l r x.bM.toNat) x.Low x.fP
def yD (l:List ay) (r:cu) (d:List bf):Bool:=(List.range l.length).all (λ i=>!Pb l r (fI l d) (lG l d) i)&&!(d.any (aaJ l r))
def fq (l:List ay) (r:cu) (d:List bf):Bool:=bif !vV l r||!iB l d then false else yD l r d
structure Rok (l:List ay) (r:cu):Prop where
 On:r.On.length=l.length
 len:r.dQ.length=l.length
 bK:∀i,i<l.length→0≤r.dQ.getD i 0∧(r.dQ.getD i 0).toNat<(l.getD i au).bK.length∧r.dQ.getD i 0<(l.getD i au).bK.length
theorem anX {r:List Int} (h:r.length=l.length):rlN l r=true↔∀i,i<l.length→0≤r.getD i 0∧r.getD i 0<(l.getD i au).bK.length:=by
 induction l generalizing r with
 | nil=>simp [rlN]
 | cons s l ih=>
  cases r with
  | nil=>simp at h
  | cons k r=>
   rw [rlN,Bool.and_eq_true,Bo,ih (by simpa using h)];constructor
   ·rintro ⟨h1,h2⟩ i hi;cases i with
    | zero=>show 0≤k∧k<s.bK.length; omega
    | succ i=>exact h2 i (by simpa using hi)
   ·intro h2;refine ⟨?_,λ i hi=>h2 (i+1) (by simpa using hi)⟩;have:0≤k∧k<s.bK.length:=h2 0 (by simp);omega
variable {r:cu}
theorem DY:vV l r=true↔eD l=0∧Rok l r:=by
 unfold vV;cases h:((eD l != 0)||((r.On.length:Int) != l.length))||((r.dQ.length:Int) != l.length) with
 | true=>
  simp only [cond_true];constructor
  ·intro h; cases h
  ·rintro ⟨h1,h2⟩;rw [h1,h2.On,h2.len] at h;simp at h
 | false=>
  simp only [cond_false];have h':eD l=0∧r.On.length=l.length∧r.dQ.length=l.length:=by
   simp at h;omega
  rw [anX h'.2.2];constructor
  ·intro h1;exact ⟨h'.1,h'.2.1,h'.2.2,λ i hi=>by have:=h1 i hi; omega⟩
  ·intro h1 i hi;have:=h1.2.bK i hi;omega
variable {v:List Int}
theorem adW {p:Int} (h:O9 p v=true):∀j,j<v.length→p<v.getD j 0∧1≤v.getD j 0∧v.getD j 0≤5000:=by
 induction v generalizing p with
 | nil=>intro j hj; simp at hj
 | cons a v ih=>
  rw [O9,Bool.and_eq_true,Bool.not_eq_true',Bool.or_eq_false_iff,Bool.not_eq_false',Bo] at h;have h1:=of_decide_eq_false h.1.2;intro j hj;cases j with
  | zero=>show p<a∧1≤a∧a≤5000; omega
  | succ j=>
   have:=ih h.2 j (by simpa using hj);show p<v.getD j 0∧1≤v.getD j 0∧v.getD j 0≤5000;omega
theorem BQ {n:Nat} {p:Nat→Bool} (hi:i<n) (h:p i=false):(List.range n).all p=false:=by
 rw [List.all_eq_false];exact ⟨i,by simpa using hi,by simp [h]⟩
theorem Pd {n:Nat} {p:Nat→Bool} (h:∀i,i<n→p i=true):(List.range n).all p=true:=by
 rw [List.all_eq_true];intro i hi;exact h i (by simpa using hi)
theorem UK (hv:Ko l d) (hr:Rok l r) (i:Nat) (hi:i<l.length):1≤nu l r i∧nu l r i≤5000:=by
 have:=adW (hv.bK i hi) _ (hr.bK i hi).2.1;unfold nu;omega
theorem uO (d:α) {a b:List α} (h1:a.length=b.length) (h2:∀j,j<a.length→a.getD j d=b.getD j d):a=b:=by
 apply List.ext_getElem h1;intro j hj hj';have:=h2 j hj;rw [List.getD_eq_getElem?_getD,List.getD_eq_getElem?_getD,List.getElem?_eq_getElem hj,List.getElem?_eq_getElem hj'] at this;exact this
def Qy (d:List bf) (i:Nat):Bool:=d.any (λ x=>x.bM==(i:Int))
theorem acM (n:Nat) (d:List bf) (hd:∀x∈d,0≤x.bM∧x.bM<n) (j:Nat):(qK n d).getD j false=Qy d j:=by
 unfold qK Qy;have key:∀(d:List bf) (a:List Bool),a.length=n→(∀x∈d,0≤x.bM∧x.bM<n)→(d.foldl (λ a x=>a.set x.bM.toNat true) a).getD j false=(a.getD j false||d.any (λ x=>x.bM==(j:Int))):=by
  intro d;induction d with
  | nil=>intro a _ _; simp
  | cons x d ih=>
   intro a ha hd;have hx:=hd x (by simp);rw [List.foldl_cons,ih _ (by simpa using ha) (λ y hy=>hd y (by simp [hy])),fZ,List.any_cons];by_cases hj:j=x.bM.toNat
   ·have:(x.bM==(j:Int))=true:=by simp; omega
    rw [if_pos ⟨hj,om⟩,this];simp
   ·have:(x.bM==(j:Int))=false:=by simp; omega
    rw [if_neg (λ h=>hj h.1),this];simp
 rw [key d _ (by simp) hd,mP];simp
structure RQ (l:List ay) (d:List bf) (k:Nat) (b:List Bool):Prop where
 len:b.length=l.length
 hi:∀j,j<l.length→l.length - k≤j→b.getD j false=(JH (iF l) l.length k (qK l.length d)).getD j false
 lo:∀j,j<l.length - k→(JH (iF l) l.length k (qK l.length d)).getD j false=(b.getD j false||Qy d j)
def UL (l:List ay) (d:List bf) (i:Nat) (b:List Bool):List Bool:=
 bif (b.getD i false||(l.getD i au).fM||Qy d i)&&decide (0≤(l.getD i au).aM) then (b.set i (b.getD i false||(l.getD i au).fM||Qy d i)).set (l.getD i au).aM.toNat true else b.set i (b.getD i false||(l.getD i au).fM||Qy d i)
theorem RQ.step (hv:Ko l d) {b:List Bool} (h:RQ l d k b) (hk:k<l.length):RQ l d (k+1) (UL l d (l.length - 1 - k) b):=by
 obtain ⟨h1,h2,h3⟩:=h;have hup:JH (iF l) l.length (k+1) (qK l.length d)=iF l (l.length - 1 - k) (JH (iF l) l.length k (qK l.length d)):=rfl;have hal:(JH (iF l) l.length k (qK l.length d)).length=l.length:=by rw [vC (nS l),tK]
 generalize JH (iF l) l.length k (qK l.length d)=a at h2 h3 hup hal;have hs:=hv.bM (l.length - 1 - k) om;have hai:=h3 (l.length - 1 - k) om;generalize hi:l.length - 1 - k=i at hup hs hai;have hF:(a.getD i false||(l.getD i au).fM)=(b.getD i false||(l.getD i au).fM||Qy d i):=by
  rw [hai];cases b.getD i false<;>cases (l.getD i au).fM<;>cases Qy d i<;>rfl
 refine ⟨?_,?_,?_⟩
 ·unfold UL;cases (b.getD i false||(l.getD i au).fM||Qy d i)&&decide (0≤(l.getD i au).aM)<;>simp [h1]
 all_goals
  rw [hup]
  unfold UL iF
  rw [hF]
  generalize (b.getD i false||(l.getD i au).fM||Qy d i)=F
  cases hc:F&&decide (0≤(l.getD i au).aM) with
  | true=>
   simp only [cond_true]
   simp only [Bool.and_eq_true] at hc
   have hp:=of_decide_eq_true hc.2
   intro j hj
   try intro hj2
   simp only [fZ,List.length_set,h1,hal]
   by_cases hjp:j=(l.getD i au).aM.toNat∧(l.getD i au).aM.toNat<l.length
   ·rw [if_pos hjp,if_pos hjp]
    try rfl
   ·rw [if_neg hjp,if_neg hjp]
    by_cases hji:j=i∧i<l.length
    ·rw [if_pos hji,if_pos hji]
     try omega
    ·rw [if_neg hji,if_neg hji]
     first | exact h2 j om om | exact h3 j om
  | false=>
   simp only [cond_false]
   intro j hj
   try intro hj2
   simp only [fZ,h1,hal]
   by_cases hji:j=i∧i<l.length
   ·rw [if_pos hji,if_pos hji]
    try omega
   ·rw [if_neg hji,if_neg hji]
    first | exact h2 j om om | exact h3 j om
theorem RQ.done {b:List Bool} (h:RQ l d l.length b):b=fI l d:=by
 refine uO false (by rw [h.len,tL]) λ j hj=>?_;rw [h.hi j (by rw [← h.len]; exact hj) om,DJ];rfl
theorem RQ.start (hv:Ko l d):RQ l d 0 (List.replicate l.length false):=by
 refine ⟨by simp,λ j hj h=>by omega,λ j hj=>?_⟩;rw [mP];show (qK l.length d).getD j false=_;rw [acM _ _ (λ x hx=>by have:=hv.drw x hx; omega)];simp
def wT (d:List bf) (i:Nat):Int:=d.foldl (λ s x=>bif x.bM==(i:Int) then s+x.Load else s) 0
theorem Wz {j:Nat} (h:j<d.length):wT (d.take (j+1)) i=bif (d.getD j dH).bM==(i:Int) then wT (d.take j) i+(d.getD j dH).Load else wT (d.take j) i:=vJ _ _ dH h
theorem Jb (n:Nat) (d:List bf) (hd:∀x∈d,0≤x.bM∧x.bM<n) (j:Nat):(zM n d).getD j 0=wT d j:=by
 unfold zM wT;have key:∀(d:List bf) (a:List Int) (s:Int),a.length=n→(∀x∈d,0≤x.bM∧x.bM<n)→a.getD j 0=s→(d.foldl (λ a x=>a.set x.bM.toNat (a.getD x.bM.toNat 0+x.Load)) a).getD j 0=d.foldl (λ s x=>bif x.bM==(j:Int) then s+x.Load else s) s:=by
  intro d;induction d with
  | nil=>intro a s _ _ h; exact h
  | cons x d ih=>
   intro a s ha hd h;have hx:=hd x (by simp);rw [List.foldl_cons,List.foldl_cons];refine ih _ _ (by simpa using ha) (λ y hy=>hd y (by simp [hy])) ?_;rw [fZ];by_cases hj:j=x.bM.toNat
   ·have:(x.bM==(j:Int))=true:=by simp; omega
    rw [if_pos ⟨hj,om⟩,this,← hj,h];rfl
   ·have:(x.bM==(j:Int))=false:=by simp; omega
    rw [if_neg (λ h=>hj h.1),this];exact h
 exact key d _ 0 (by simp) hd (mP _ _ _)
theorem UM (hd:∀x∈d,0≤x.Load∧x.Load≤10000) (i j:Nat) (hj:j≤d.length):0≤wT (d.take j) i∧wT (d.take j) i≤10000*j:=by
 induction j with
 | zero=>rw [List.take_zero]; exact ⟨Int.le_refl _,Int.le_refl _⟩
 | succ j ih=>
  have:=ih om;have h2:=hd _ (jh dH hj);rw [Wz hj];cases (d.getD j dH).bM==(i:Int) with
  | true=>simp only [cond_true]; omega
  | false=>simp only [cond_false]; omega
structure Mi (l:List ay) (d:List bf) (k:Nat) (b:List Int):Prop where
 len:b.length=l.length
 pos:∀j,0≤b.getD j 0
 hi:∀j,j<l.length→l.length - k≤j→b.getD j 0=(JH (iH l) l.length k (zM l.length d)).getD j 0
 lo:∀j,j<l.length - k→(JH (iH l) l.length k (zM l.length d)).getD j 0=b.getD j 0+wT d j
def Qz (l:List ay) (d:List bf) (i:Nat) (b:List Int):List Int:=
 bif decide (0≤(l.getD i au).aM) then (b.set i (b.getD i 0+wT d i)).set (l.getD i au).aM.toNat (b.getD (l.getD i au).aM.toNat 0+(b.getD i 0+wT d i)) else b.set i (b.getD i 0+wT d i)
variable {b:List Int}
theorem Mi.step (hv:Ko l d) (h:Mi l d k b) (hk:k<l.length):Mi l d (k+1) (Qz l d (l.length - 1 - k) b):=by
 obtain ⟨h1,h0,h2,h3⟩:=h;have hdp:∀i,0≤wT d i:=λ i=>by
  have:=(UM (d:=d) (λ x hx=>by have:=hv.drw x hx; omega) i d.length (Nat.le_refl _)).1;rwa [List.take_length] at this
 have hup:JH (iH l) l.length (k+1) (zM l.length d)=iH l (l.length - 1 - k) (JH (iH l) l.length k (zM l.length d)):=rfl;have hal:(JH (iH l) l.length k (zM l.length d)).length=l.length:=by rw [vC (tN l),yC]
 generalize JH (iH l) l.length k (zM l.length d)=a at h2 h3 hup hal;have hs:=hv.bM (l.length - 1 - k) om;have hai:=h3 (l.length - 1 - k) om;generalize hi:l.length - 1 - k=i at hup hs hai;have hb0:=h0 i;have hd0:=hdp i;refine ⟨?_,?_,?_,?_⟩
 ·unfold Qz;cases decide (0≤(l.getD i au).aM)<;>simp [h1]
 ·intro j;have hb1:=h0 j;have hb2:=h0 (l.getD i au).aM.toNat;unfold Qz;cases decide (0≤(l.getD i au).aM)<;>simp only [cond_true,cond_false,fZ]<;>repeat' split
  all_goals omega
 all_goals
  rw [hup]
  unfold Qz iH
  cases hc:decide (0≤(l.getD i au).aM) with
  | true=>
   simp only [cond_true]
   have hp:=of_decide_eq_true hc
   intro j hj
   try intro hj2
   simp only [fZ,List.length_set,h1,hal]
   have hap:=h3 (l.getD i au).aM.toNat om
   by_cases hjp:j=(l.getD i au).aM.toNat∧(l.getD i au).aM.toNat<l.length
   ·rw [if_pos hjp,if_pos hjp]
    try rw [hjp.1]
    omega
   ·rw [if_neg hjp,if_neg hjp]
    by_cases hji:j=i∧i<l.length
    ·rw [if_pos hji,hji.1]
     omega
    ·rw [if_neg hji]
     first | exact h2 j om om | exact h3 j om
  | false=>
   simp only [cond_false]
   intro j hj
   try intro hj2
   simp only [fZ,h1]
   by_cases hji:j=i∧i<l.length
   ·rw [if_pos hji,hji.1]
    omega
   ·rw [if_neg hji]
    first | exact h2 j om om | exact h3 j om
theorem Mi.done (h:Mi l d l.length b):b=lG l d:=by
 refine uO 0 (by rw [h.len,Td]) λ j hj=>?_;rw [h.hi j (by rw [← h.len]; exact hj) om,DJ];rfl
theorem Mi.start (hv:Ko l d):Mi l d 0 (List.replicate l.length 0):=by
 refine ⟨by simp,λ j=>by rw [mP]; omega,λ j hj h=>by omega,λ j hj=>?_⟩;rw [mP];show (zM l.length d).getD j 0=_;rw [Jb _ _ (λ x hx=>by have:=hv.drw x hx; omega)];simp
theorem Mi.small (hv:Ko l d) (h:Mi l d k b) (hk:k≤l.length) (j:Nat):0≤b.getD j 0∧b.getD j 0≤100000000000:=by
 have h1:=Kq hv k hk j;refine ⟨h.pos j,?_⟩;have hd:=(UM (d:=d) (λ x hx=>by have:=hv.drw x hx; omega) j d.length (Nat.le_refl _)).1;rw [List.take_length] at hd;by_cases h2:j<l.length - k
 ·have:=h.lo j h2; omega
 ·by_cases h3:j<l.length
  ·have:=h.hi j h3 om; omega
  ·rw [Ib 0 (by rw [h.len]; omega)]; omega
def lvN:List Int→Int→Nat
 | [],_=>0
 | x::t,v=>bif decide (v≤x) then 0 else lvN t v+1
theorem aqb (v:Int) (l:List Int):lvN l v≤l.length:=by
 induction l with
 | nil=>exact Nat.le_refl _
 | cons x l ih=>
  rw [lvN];cases decide (v≤x)<;>simp<;>omega
theorem alX {v:Int} {l:List Int}:∀j,j<lvN l v→l.getD j 0<v:=by
 induction l with
 | nil=>intro j hj; simp [lvN] at hj
 | cons x l ih=>
  rw [lvN];cases h:decide (v≤x) with
  | true=>intro j hj; simp at hj
  | false=>
   have:=of_decide_eq_false h;intro j hj;cases j with
   | zero=>show x<v; omega
   | succ j=>exact ih j (by simpa using hj)
theorem ahv {v:Int} {l:List Int} (h:lvN l v<l.length):v≤l.getD (lvN l v) 0:=by
 induction l with
 | nil=>simp at h
 | cons x l ih=>
  rw [lvN] at h ⊢;cases hd:decide (v≤x) with
  | true=>exact of_decide_eq_true hd
  | false=>
   rw [hd] at h;exact ih (by simpa using h)
theorem ahw {v:Int} {l:List Int} (h0:k≤l.length) (h1:∀j,j<k→l.getD j 0<v) (h2:k<l.length→v≤l.getD k 0):k=lvN l v:=by
 have h3:=aqb v l;rcases Nat.lt_trichotomy k (lvN l v) with h | h | h
 ·have:=alX k h;have:=h2 om;omega
 ·exact h
 ·have:=ahv (v:=v) (l:=l) om;have:=h1 _ h;omega
theorem alY {p:Int} (h:O9 p v=true):∀i j,i<j→j<v.length→v.getD i 0<v.getD j 0:=by
 induction v generalizing p with
 | nil=>intro i j _ hj; simp at hj
 | cons a v ih=>
  rw [O9,Bool.and_eq_true] at h;intro i j hij hj;cases j with
  | zero=>omega
  | succ j=>
   cases i with
   | zero=>exact (adW h.2 j (by simpa using hj)).1
   | succ i=>exact ih h.2 i j om (by simpa using hj)
theorem wrap_u64 {n:Int} (h:0≤n∧n<18446744073709551616):IntKind.u64.wrap n=n:=by
 show (if (false&&decide (n % (2 ^ 64:Int) ≥ 2 ^ 63))=true then n % (2 ^ 64:Int) - 2 ^ 64 else n % (2 ^ 64:Int))=n;rw [Bool.false_and,if_neg (by decide)];exact Int.emod_eq_of_lt h.1 om
structure DS where
 a:List Dem
 lv:List Int
def yE (n:Nat) (d:List bf):Nat→List Dem
 | 0=>List.replicate n ⟨0,-1,-1⟩
 | i+1=>bif decide (((yE n d i).getD (d.getD i dH).bM.toNat O8).yB<(d.getD i dH).Low) then (yE n d i).set (d.getD i dH).bM.toNat ⟨(d.getD i dH).Low,i,-1⟩ else yE n d i
def uy (l:List ay) (i:Nat) (s:DS):Nat:=lvN (l.getD i au).bK (s.a.getD i O8).yB
def mQ (l:List ay) (i:Nat) (s:DS):Int:=(l.getD i au).bK.getD (uy l i s) 0+(l.getD i au).gB
def BR (l:List ay) (u:List Bool) (i:Nat) (s:DS):DS:=
 bif !u.getD i false then s
 else ⟨bif decide (0≤(l.getD i au).aM)&&decide ((s.a.getD (l.getD i au).aM.toNat O8).yB<mQ l i s) then s.a.set (l.getD i au).aM.toNat ⟨mQ l i s,-1,i⟩ else s.a,s.lv.set i (uy l i s)⟩
def wM (l:List ay) (u:List Bool) (i:Nat) (s:DS):Bool:=u.getD i false&&!decide ((uy l i s:Int)<(l.getD i au).bK.length)
def QT (l:List ay) (u:List Bool):Nat→DS→DS×Int
 | 0,s=>(s,-1)
 | k+1,s=>bif wM l u k s then (s,k) else QT l u k (BR l u k s)
def ds0 (l:List ay) (d:List bf):DS:=⟨yE l.length d d.length,List.replicate l.length 0⟩
def Jc (l:List ay) (d:List bf):DS×Int:=QT l (fI l d) l.length (ds0 l d)
theorem QA (n:Nat) (d:List bf) (i:Nat):(yE n d i).length=n:=by
 induction i with
 | zero=>simp [yE]
 | succ i ih=>
  rw [yE];cases decide (((yE n d i).getD (d.getD i dH).bM.toNat O8).yB<(d.getD i dH).Low)<;>simp [ih]
structure DOk (l:List ay) (s:DS):Prop where
 al:s.a.length=l.length
 ll:s.lv.length=l.length
variable {u:List Bool} {s:DS}
theorem adX (h:DOk l s):DOk l (BR l u i s):=by
 unfold BR;cases u.getD i false with
 | false=>exact h
 | true=>
  refine ⟨?_,by simp [h.ll]⟩;simp only [Bool.not_true,cond_false];cases decide (0≤(l.getD i au).aM)&&decide ((s.a.getD (l.getD i au).aM.toNat O8).yB<mQ l i s)<;>simp [h.al]
theorem ahx (l:List ay) (d:List bf):DOk l (ds0 l d):=⟨QA _ _ _,by simp [ds0]⟩
def iL (l:List ay) (d:List bf):cu×Int:=
 bif qj l d != 0 then (Sz,qj l d)
 else bif decide (0≤(Jc l d).2)||!fq l ⟨fI l d,(Jc l d).1.lv⟩ d then (Sz,9) else (⟨fI l d,(Jc l d).1.lv⟩,0)
theorem ajH (I:DS→Prop) (hI:∀i s,i<l.length→I s→I (BR l u i s)):∀(k:Nat) (s:DS),k≤l.length→I s→I (QT l u k s).1:=by
 intro k;induction k with
 | zero=>intro s _ h; exact h
 | succ k ih=>
  intro s hk h;rw [QT];cases wM l u k s with
  | true=>exact h
  | false=>exact ih _ om (hI k s om h)
def anY (l:List ay) (s:DS):Prop:=∀j,j<l.length→0≤s.lv.getD j 0∧s.lv.getD j 0<(l.getD j au).bK.length
def lvK (l:List ay) (k v:Int):Nat:=lvN (l.getD k.toNat au).bK v
def okK (l:List ay) (k v:Int):Bool:=decide (lvK l k v<(l.getD k.toNat au).bK.length)
def voK (l:List ay) (k v:Int):Int:=(l.getD k.toNat au).bK.getD (lvK l k v) 0
def rwN (l:List ay) (d:List bf) (last:Int):List Int→Int→Bool
 | [],_=>false
 | k::t,v=>bif !t.isEmpty then (bif !okK l k v then false else rwN l d last t (voK l k v+(l.getD k.toNat au).gB))
  else bif !okK l k v||decide (last<0) then !okK l k v&&decide (last<0)
  else ((d.getD last.toNat dH).bM==k)&&decide ((d.getD last.toNat dH).fP<voK l k v)
abbrev yF (l:List ay) (i:Nat):ay:=l.getD i au
abbrev Bv (a:List Bool) (i:Nat):Bool:=a.getD i false
abbrev E9 (a:List Int) (i:Nat):Int:=a.getD i 0
theorem adY {a:List Bool} (hi:i<a.length) (hp:(yF l i).aM<i) (j:Nat):
  Bv (iF l i a) j=true↔Bv a j=true∨(j=i∧(yF l i).fM=true)∨((yF l i).aM=j∧(Bv a i=true∨(yF l i).fM=true)):=by
 unfold iF Bv yF at *;generalize l.getD i au=s at *;cases hx:(a.getD i false||s.fM) with
 | false=>
  simp only [Bool.false_and,cond_false];simp only [Bool.or_eq_false_iff] at hx;rw [fZ,hx.1,hx.2];by_cases hj:j=i
  ·subst hj; rw [if_pos ⟨rfl,hi⟩,hx.1]; simp
  ·rw [if_neg (λ h=>hj h.1)]; simp [hj]
 | true=>
  have hx':a.getD i false=true∨s.fM=true:=by simpa using hx
  by_cases hp0:0≤s.aM
  ·simp only [Bool.true_and,decide_eq_true hp0,cond_true];rw [fZ,fZ,List.length_set];by_cases hj:j=s.aM.toNat
   ·have:j<a.length:=by omega
    rw [if_pos ⟨hj,om⟩];simp only [true_iff];exact .inr (.inr ⟨om,hx'⟩)
   ·rw [if_neg (λ h=>hj h.1)];have hj':¬ s.aM=j:=by omega
    by_cases hji:j=i
    ·subst hji; rw [if_pos ⟨rfl,hi⟩]; simp only [true_iff,true_and]; exact hx'.elim .inl (λ h=>.inr (.inl h))
    ·rw [if_neg (λ h=>hji h.1)]; simp only [hji,hj',false_and,or_false]
  ·simp only [Bool.true_and,decide_eq_false hp0,cond_false];rw [fZ];have hj':¬ s.aM=j:=by omega
   by_cases hji:j=i
   ·subst hji; rw [if_pos ⟨rfl,hi⟩]; simp only [true_iff,true_and]; exact hx'.elim .inl (λ h=>.inr (.inl h))
   ·rw [if_neg (λ h=>hji h.1)]; simp only [hji,hj',false_and,or_false]
theorem anZ (hv:Ko l d):∀k,k≤l.length→∀j:Nat,
  Bv (JH (iF l) l.length k (qK l.length d)) j=true↔Qy d j=true∨(l.length - k≤j∧j<l.length∧(yF l j).fM=true)∨∃c,l.length - k≤c∧c<l.length∧(yF l c).aM=j∧Bv (JH (iF l) l.length k (qK l.length d)) c=true:=by
 intro k;induction k with
 | zero=>
  intro _ j;show (qK l.length d).getD j false=true↔_;rw [acM _ _ (λ x hx=>by have:=hv.drw x hx; omega)];constructor
  ·exact .inl
  ·rintro (h | h | ⟨c,h⟩)
   ·exact h
   ·omega
   ·omega
 | succ k ih=>
  intro hk j;have ih:=ih om;have hup:JH (iF l) l.length (k+1) (qK l.length d)=iF l (l.length - 1 - k) (JH (iF l) l.length k (qK l.length d)):=rfl;have hal:(JH (iF l) l.length k (qK l.length d)).length=l.length:=by rw [vC (nS l),tK]
  have hs:=hv.bM (l.length - 1 - k) om;rw [hup];generalize JH (iF l) l.length k (qK l.length d)=a at ih hal;generalize hi:l.length - 1 - k=i at hs;have get:=adY (l:=l) (a:=a) (i:=i) om (by unfold yF; omega);have hne:¬ (yF l i).aM=(i:Int):=by unfold yF; omega
  have hgt:∀c,i<c→(Bv (iF l i a) c=true↔Bv a c=true):=λ c hc=>by
   rw [get c];constructor
   ·rintro (h | h | h)
    ·exact h
    ·omega
    ·have:(yF l i).aM=(c:Int):=h.1;unfold yF at this;omega
   ·exact .inl
  constructor
  ·intro h;rcases (get j).1 h with h | h | h
   ·rcases (ih j).1 h with h | h | ⟨c,h1,h2,h3,h4⟩
    ·exact .inl h
    ·exact .inr (.inl ⟨om,h.2⟩)
    ·exact .inr (.inr ⟨c,om,h2,h3,(hgt c om).2 h4⟩)
   ·rw [h.1];exact .inr (.inl ⟨om,om,h.2⟩)
   ·refine .inr (.inr ⟨i,om,om,h.1,(get i).2 ?_⟩);rcases h.2 with h | h
    ·exact .inl h
    ·exact .inr (.inl ⟨rfl,h⟩)
  ·rintro (h | ⟨h1,h2,h3⟩ | ⟨c,h1,h2,h3,h4⟩)
   ·exact (get j).2 (.inl ((ih j).2 (.inl h)))
   ·by_cases hji:j=i
    ·subst hji; exact (get j).2 (.inr (.inl ⟨rfl,h3⟩))
    ·exact (get j).2 (.inl ((ih j).2 (.inr (.inl ⟨om,h2,h3⟩))))
   ·by_cases hci:c=i
    ·subst hci;refine (get j).2 (.inr (.inr ⟨h3,?_⟩));rcases (get c).1 h4 with h | h | h
     ·exact .inl h
     ·exact .inr h.2
     ·exact absurd h.1 hne
    ·exact (get j).2 (.inl ((ih j).2 (.inr (.inr ⟨c,om,h2,h3,(hgt c om).1 h4⟩))))
theorem UN (hv:Ko l d) (j:Nat):
  Bv (fI l d) j=true↔Qy d j=true∨(j<l.length∧(yF l j).fM=true)∨∃c,c<l.length∧(yF l c).aM=j∧Bv (fI l d) c=true:=by
 have:=anZ hv l.length (Nat.le_refl _) j;rw [DJ] at this;unfold fI;rw [this];constructor
 ·rintro (h | h | ⟨c,h⟩)
  ·exact .inl h
  ·exact .inr (.inl h.2)
  ·exact .inr (.inr ⟨c,h.2⟩)
 ·rintro (h | h | ⟨c,h⟩)
  ·exact .inl h
  ·exact .inr (.inl ⟨om,h⟩)
  ·exact .inr (.inr ⟨c,om,h⟩)
theorem rF {j:Nat} (h:Bv (fI l d) j=true):j<l.length:=by
 rcases Nat.lt_or_ge j l.length with h1 | h1
 ·exact h1
 ·unfold Bv at h;rw [Ib false (by rw [tL]; exact h1)] at h;cases h
theorem WA {d':List bf} (hv:Ko l d) (hv':Ko l d') (h:∀j,Qy d j=true→Qy d' j=true):∀j,Bv (fI l d) j=true→Bv (fI l d') j=true:=by
 have key:∀m j,l.length - j≤m→Bv (fI l d) j=true→Bv (fI l d') j=true:=by
  intro m;induction m with
  | zero=>intro j hm hj; have:=rF hj; omega
  | succ m ih=>
   intro j hm hj;rw [UN hv] at hj;rw [UN hv'];rcases hj with hj | hj | ⟨c,h1,h2,h3⟩
   ·exact .inl (h j hj)
   ·exact .inr (.inl hj)
   ·have:=(hv.bM c h1).2.1;unfold yF at h2;exact .inr (.inr ⟨c,h1,h2,ih c om h3⟩)
 intro j;exact key _ j (Nat.le_refl _)
theorem ajI {d':List bf} (hv:Ko l d) (hv':Ko l d') (h:∀j,Qy d j=Qy d' j):fI l d=fI l d':=by
 refine uO false (by rw [tL,tL]) λ j _=>?_;have h1:=WA hv hv' (λ j hj=>by rw [← h j]; exact hj) j;have h2:=WA hv' hv (λ j hj=>by rw [h j]; exact hj) j;unfold Bv at h1 h2;cases ha:(fI l d).getD j false<;>cases hb:(fI l d').getD j false<;>simp_all
theorem afM (hv:Ko l d) {c:Nat} (h:Bv (fI l d) c=true) (hp:0≤(yF l c).aM):Bv (fI l d) (yF l c).aM.toNat=true:=by
 rw [UN hv];exact .inr (.inr ⟨c,rF h,om,h⟩)
theorem acN (hv:Ko l d) {x:bf} (h:x∈d):Bv (fI l d) x.bM.toNat=true:=by
 rw [UN hv];refine .inl ?_;unfold Qy;rw [List.any_eq_true];have:=hv.drw x h;refine ⟨x,h,?_⟩;rw [beq_iff_eq];omega
def arG (x:bf) (i:Nat):Int:=bif x.bM==(i:Int) then x.Load else 0
theorem wN (x:bf) (d:List bf) (i:Nat):wT (x::d) i=arG x i+wT d i:=by
 have key:∀(d:List bf) (s:Int),d.foldl (λ s x=>bif x.bM==(i:Int) then s+x.Load else s) s=s+wT d i:=by
  intro d;induction d with
  | nil=>intro s; show s=s+0; omega
  | cons y d ih=>
   intro s;unfold wT;rw [List.foldl_cons,List.foldl_cons,ih,ih];cases y.bM==(i:Int)<;>simp<;>omega
 show d.foldl _ _=_;rw [key];unfold arG;cases hb:x.bM==(i:Int)<;>simp [hb]
theorem alZ (a b:List bf) (i:Nat):wT (a++b) i=wT a i+wT b i:=by
 induction a with
 | nil=>show wT b i=0+wT b i; omega
 | cons x a ih=>rw [List.cons_append,wN,wN,ih]; omega
theorem ajJ {a b:List bf} (h:a.Perm b) (i:Nat):wT a i=wT b i:=by
 induction h with
 | nil=>rfl
 | cons x _ ih=>rw [wN,wN,ih]
 | swap x y l=>rw [wN,wN,wN,wN]; omega
 | trans _ _ h1 h2=>exact h1.trans h2
theorem Kr (hi:i<a.length) (hp:(yF l i).aM<i) (j:Nat):
  E9 (iH l i a) j=E9 a j+(if (yF l i).aM=j then E9 a i else 0):=by
 unfold iH E9 yF at *;generalize l.getD i au=s at *;by_cases hp0:0≤s.aM
 ·rw [decide_eq_true hp0,cond_true,fZ];by_cases hj:j=s.aM.toNat
  ·have e:s.aM=(j:Int):=by omega
   rw [if_pos ⟨hj,om⟩,if_pos e,hj]
  ·have e:¬ s.aM=(j:Int):=by omega
   rw [if_neg (λ h=>hj h.1),if_neg e];omega
 ·have e:¬ s.aM=(j:Int):=by omega
  rw [decide_eq_false hp0,cond_false,if_neg e];omega
theorem al0 (hv:Ko l d) {c:List Int} (ha:a.length=l.length) (hb:b.length=l.length) (hc:c.length=l.length) (h:∀j,E9 c j=E9 a j+E9 b j):∀k,k≤l.length→∀j,E9 (JH (iH l) l.length k c) j=E9 (JH (iH l) l.length k a) j+E9 (JH (iH l) l.length k b) j:=by
 intro k;induction k with
 | zero=>intro _; exact h
 | succ k ih=>
  intro hk j;have ih:=ih om;have hs:=(hv.bM (l.length - 1 - k) om).2.1;rw [JH,JH,JH,Kr (by rw [vC (tN l)]; omega) hs,Kr (by rw [vC (tN l)]; omega) hs,Kr (by rw [vC (tN l)]; omega) hs,ih j,ih (l.length - 1 - k)];split<;>omega
theorem QB (hv:Ko l d):∀x∈d,0≤x.bM∧x.bM<l.length:=λ x hx=>by have:=hv.drw x hx; omega
theorem ajK {a b:List bf} (ha:Ko l a) (hb:Ko l b) (hab:∀x∈a++b,0≤x.bM∧x.bM<l.length) (j:Nat):E9 (lG l (a++b)) j=E9 (lG l a) j+E9 (lG l b) j:=by
 have:=al0 ha (yC l.length a) (yC l.length b) (yC l.length (a++b)) (λ j=>by
  unfold E9;rw [Jb _ _ hab,Jb _ _ (QB ha),Jb _ _ (QB hb),alZ]) l.length (Nat.le_refl _) j
 rw [DJ,DJ,DJ] at this;exact this
theorem ahy {a b:List bf} (ha:Ko l a) (hb:Ko l b) (h:∀j,wT a j=wT b j):lG l a=lG l b:=by
 unfold lG;rw [show zM l.length a=zM l.length b from uO 0 (by rw [yC,yC]) λ j _=>by rw [Jb _ _ (QB ha),Jb _ _ (QB hb),h j]]
theorem adZ (hv:Ko l d) (j:Nat):0≤E9 (lG l d) j∧E9 (lG l d) j≤100000000000:=by
 have:=Kq hv l.length (Nat.le_refl _);rw [DJ] at this;exact this j
abbrev Te (a:List Dem) (i:Nat):Dem:=a.getD i O8
abbrev xAt (d:List bf) (i:Nat):bf:=d.getD i dH
structure DI (n:Nat) (d:List bf) (i:Nat) (a:List Dem):Prop where
 len:a.length=n
 just:∀j,j<n→Te a j=⟨0,-1,-1⟩∨∃q,q<i∧(xAt d q).bM=j∧Te a j=⟨(xAt d q).Low,q,-1⟩
 Low:∀q,q<i→(xAt d q).Low≤(Te a (xAt d q).bM.toNat).yB
theorem al1 {n:Nat} (hd:∀x∈d,0≤x.bM∧x.bM<n):∀i,i≤d.length→DI n d i (yE n d i):=by
 intro i;induction i with
 | zero=>
  intro _;refine ⟨QA _ _ _,λ j hj=>.inl ?_,λ q hq=>by omega⟩;show (List.replicate n (⟨0,-1,-1⟩:Dem)).getD j O8=_;rw [List.getD_eq_getElem?_getD,List.getElem?_replicate,if_pos hj];rfl
 | succ i ih=>
  intro hi;obtain ⟨h1,h2,h3⟩:=ih om;have hx:=hd _ (jh dH (show i<d.length by omega));rw [yE];generalize yE n d i=a at h1 h2 h3;by_cases hb:(Te a (xAt d i).bM.toNat).yB<(xAt d i).Low
  ·rw [show decide ((a.getD (d.getD i dH).bM.toNat O8).yB<(d.getD i dH).Low)=true from decide_eq_true hb,cond_true];refine ⟨by rw [List.length_set,h1],λ j hj=>?_,λ q hq=>?_⟩
   ·unfold Te;rw [fZ];split
    ·rename_i h; exact .inr ⟨i,om,by unfold xAt; omega,rfl⟩
    ·rcases h2 j hj with h | ⟨q,h4,h5⟩
     ·exact .inl h
     ·exact .inr ⟨q,om,h5⟩
   ·unfold Te;rw [fZ];by_cases hqi:q=i
    ·subst hqi;rw [if_pos ⟨rfl,om⟩];exact Int.le_refl _
    ·have h4:=h3 q om;split
     ·rename_i h;unfold Te at h4 hb;show (xAt d q).Low≤(xAt d i).Low;rw [h.1] at h4;unfold xAt at *;omega
     ·exact h4
  ·rw [show decide ((a.getD (d.getD i dH).bM.toNat O8).yB<(d.getD i dH).Low)=false from decide_eq_false hb,cond_false];refine ⟨h1,λ j hj=>?_,λ q hq=>?_⟩
   ·rcases h2 j hj with h | ⟨q,h4,h5⟩
    ·exact .inl h
    ·exact .inr ⟨q,om,h5⟩
   ·by_cases hqi:q=i
    ·subst hqi; omega
    ·exact h3 q om
structure Dm (l:List ay) (d:List bf) (u:List Bool) (k:Nat) (s:DS):Prop where
 al:s.a.length=l.length
 ll:s.lv.length=l.length
 just:∀j,j<l.length→Te s.a j=⟨0,-1,-1⟩∨(∃q,q<d.length∧(xAt d q).bM=j∧Te s.a j=⟨(xAt d q).Low,q,-1⟩)∨
  ∃c:Nat,k≤c∧c<l.length∧Bv u c=true∧(yF l c).aM=j∧uy l c s<(yF l c).bK.length∧Te s.a j=⟨mQ l c s,-1,c⟩
 Low:∀q,q<d.length→(xAt d q).Low≤(Te s.a (xAt d q).bM.toNat).yB
 up:∀c,k≤c→c<l.length→Bv u c=true→0≤(yF l c).aM→mQ l c s≤(Te s.a (yF l c).aM.toNat).yB
 ok:∀c,k≤c→c<l.length→Bv u c=true→uy l c s<(yF l c).bK.length∧E9 s.lv c=uy l c s
 zero:∀c,c<l.length→c<k∨Bv u c=false→E9 s.lv c=0
theorem aqd (hv:Ko l d) (u:List Bool):Dm l d u l.length (ds0 l d):=by
 obtain ⟨h1,h2,h3⟩:=al1 (QB hv) d.length (Nat.le_refl _);refine ⟨h1,by simp [ds0],λ j hj=>?_,h3,λ c hc hc'=>by omega,λ c hc hc'=>by omega,λ c hc _=>mP _ _ _⟩;rcases h2 j hj with h | h
 ·exact .inl h
 ·exact .inr (.inl h)
theorem an0 (hv:Ko l d) (hk:k<l.length) (h:Dm l d u (k+1) s) (hf:wM l u k s=false):Dm l d u k (BR l u k s):=by
 obtain ⟨al,ll,just,low,up,ok,zero⟩:=h;have hs:=(hv.bM k hk);unfold BR;cases hu:u.getD k false with
 | false=>
  simp only [Bool.not_false,cond_true];have hne:∀c,k≤c→Bv u c=true→k+1≤c:=λ c h1 h2=>by
   rcases Nat.eq_or_lt_of_le h1 with h | h
   ·subst h; unfold Bv at h2; rw [hu] at h2; cases h2
   ·exact h
  refine ⟨al,ll,λ j hj=>?_,low,λ c h1 h2 h3=>up c (hne c h1 h3) h2 h3,λ c h1 h2 h3=>ok c (hne c h1 h3) h2 h3,λ c h1 h2=>zero c h1 ?_⟩
  ·rcases just j hj with h | h | ⟨c,h1,h2⟩
   ·exact .inl h
   ·exact .inr (.inl h)
   ·exact .inr (.inr ⟨c,om,h2⟩)
  ·rcases h2 with h2 | h2
   ·exact .inl om
   ·exact .inr h2
 | true=>
  unfold wM at hf;rw [hu,Bool.true_and,Bool.not_eq_false'] at hf;have hf:=of_decide_eq_true hf;simp only [Bool.not_true,cond_false];generalize hA:(bif decide (0≤(l.getD k au).aM)&&decide ((s.a.getD (l.getD k au).aM.toNat O8).yB<mQ l k s) then s.a.set (l.getD k au).aM.toNat ⟨mQ l k s,-1,k⟩ else s.a)=A;have hAl:A.length=l.length:=by
   rw [← hA];cases decide (0≤(l.getD k au).aM)&&decide ((s.a.getD (l.getD k au).aM.toNat O8).yB<mQ l k s)<;>simp [al]
  have hget:∀j,Te A j=Te s.a j∧((yF l k).aM=(j:Int)→mQ l k s≤(Te s.a j).yB)∨(yF l k).aM=(j:Int)∧(Te s.a j).yB<mQ l k s∧Te A j=⟨mQ l k s,-1,k⟩:=by
   intro j;rw [← hA];by_cases hp:0≤(l.getD k au).aM
   ·by_cases hn:(s.a.getD (l.getD k au).aM.toNat O8).yB<mQ l k s
    ·rw [decide_eq_true hp,decide_eq_true hn];simp only [Bool.and_self,cond_true];unfold Te;rw [fZ];by_cases hj:j=(l.getD k au).aM.toNat
     ·rw [if_pos ⟨hj,om⟩];refine .inr ⟨by unfold yF; omega,by rw [hj]; exact hn,rfl⟩
     ·rw [if_neg (λ h=>hj h.1)];exact .inl ⟨rfl,λ h=>by unfold yF at h; omega⟩
    ·rw [decide_eq_true hp,decide_eq_false hn];refine .inl ⟨rfl,λ h=>?_⟩;have:j=(l.getD k au).aM.toNat:=by unfold yF at h; omega
     rw [this];exact Int.not_lt.1 hn
   ·rw [decide_eq_false hp];refine .inl ⟨rfl,λ h=>by unfold yF at h; omega⟩
  have hge:∀j,(Te s.a j).yB≤(Te A j).yB:=λ j=>by
   rcases hget j with h | h
   ·rw [h.1]; exact Int.le_refl _
   ·rw [h.2.2]; exact Int.le_of_lt h.2.1
  have hsame:∀c,k≤c→Te A c=Te s.a c:=λ c hc=>by
   rcases hget c with h | h
   ·exact h.1
   ·have:=h.1; unfold yF at this; omega
  have hlv:∀c,k≤c→∀x,uy l c ⟨A,x⟩=uy l c s:=λ c hc x=>by
   have:=hsame c hc;unfold uy;unfold Te at this;simp only [this]
  have hnd:∀c,k≤c→∀x,mQ l c ⟨A,x⟩=mQ l c s:=λ c hc x=>by
   unfold mQ;rw [hlv c hc]
  refine ⟨hAl,by simp [ll],λ j hj=>?_,λ q hq=>Int.le_trans (low q hq) (hge _),λ c h1 h2 h3 h4=>?_,λ c h1 h2 h3=>?_,λ c h1 h2=>?_⟩
  ·show Te A j=_∨_;rcases hget j with h | h
   ·show Te A j=_∨(∃q,q<d.length∧(xAt d q).bM=j∧Te A j=_)∨∃c:Nat,_∧_∧_∧_∧_∧Te A j=_;rw [h.1];rcases just j hj with h | h | ⟨c,h1,h2,h3,h4,h5,h6⟩
    ·exact .inl h
    ·exact .inr (.inl h)
    ·refine .inr (.inr ⟨c,om,h2,h3,h4,?_,?_⟩)
     ·rw [hlv c om]; exact h5
     ·rw [hnd c om]; exact h6
   ·refine .inr (.inr ⟨k,Nat.le_refl _,hk,hu,h.1,?_,?_⟩)
    ·rw [hlv k (Nat.le_refl _)]; unfold yF; omega
    ·rw [hnd k (Nat.le_refl _)]; exact h.2.2
  ·show mQ l c _≤(Te A (yF l c).aM.toNat).yB;rw [hnd c h1];rcases Nat.eq_or_lt_of_le h1 with h | h
   ·subst h;rcases hget (yF l k).aM.toNat with h | h
    ·rw [h.1]; exact h.2 om
    ·rw [h.2.2]; exact Int.le_refl _
   ·exact Int.le_trans (up c h h2 h3 h4) (hge _)
  ·rw [hlv c h1];show _∧E9 (s.lv.set k (uy l k s)) c=_;unfold E9;rw [fZ];rcases Nat.eq_or_lt_of_le h1 with h | h
   ·subst h;rw [if_pos ⟨rfl,om⟩];exact ⟨by unfold yF; omega,rfl⟩
   ·rw [if_neg om];exact ok c h h2 h3
  ·show E9 (s.lv.set k (uy l k s)) c=0;unfold E9;rw [fZ];have hck:c≠k:=λ h=>by
    rcases h2 with h2 | h2
    ·omega
    ·subst h; unfold Bv at h2; rw [hu] at h2; cases h2
   rw [if_neg (λ h=>hck h.1)];refine zero c h1 ?_;rcases h2 with h2 | h2
   ·exact .inl om
   ·exact .inr h2
theorem an1 (hv:Ko l d):∀(k:Nat) (s:DS),k≤l.length→Dm l d u k s→
  ((QT l u k s).2 = -1∧Dm l d u 0 (QT l u k s).1)∨∃q:Nat,(QT l u k s).2=q∧q<k∧Dm l d u (q+1) (QT l u k s).1∧wM l u q (QT l u k s).1=true:=by
 intro k;induction k with
 | zero=>intro s _ h; exact .inl ⟨rfl,h⟩
 | succ k ih=>
  intro s hk h;rw [QT];cases hf:wM l u k s with
  | true=>exact .inr ⟨k,rfl,om,h,hf⟩
  | false=>
   simp only [cond_false];rcases ih _ om (an0 hv om h hf) with h | ⟨q,h1,h2,h3⟩
   ·exact .inl h
   ·exact .inr ⟨q,h1,om,h3⟩
theorem an2 (hv:Ko l d):((Jc l d).2 = -1∧Dm l d (fI l d) 0 (Jc l d).1)∨∃q:Nat,(Jc l d).2=q∧q<l.length∧Dm l d (fI l d) (q+1) (Jc l d).1∧wM l (fI l d) q (Jc l d).1=true:=
 an1 hv _ _ (Nat.le_refl _) (aqd hv _)
structure Mt (l:List ay) (r:cu) (d:List bf):Prop where
 used:∀i,Bv (fI l d) i=true→Bv r.On i=true
 aM:∀i,i<l.length→Bv r.On i=true→0≤(yF l i).aM→Bv r.On (yF l i).aM.toNat=true∧nu l r i+(yF l i).gB≤nu l r (yF l i).aM.toNat
 iy:∀i,i<l.length→Bv r.On i=true→E9 (lG l d) i≤(yF l i).iy
 drw:∀x∈d,x.Low≤nu l r x.bM.toNat∧nu l r x.bM.toNat≤x.fP
theorem ahz:yD l r d=true↔Mt l r d:=by
 unfold yD;rw [Bool.and_eq_true,List.all_eq_true,Bool.not_eq_true',List.any_eq_false];have hb:∀i,(!Pb l r (fI l d) (lG l d) i)=true↔(Bv r.On i=false→Bv (fI l d) i=false)∧(Bv r.On i=true→(0≤(yF l i).aM→Bv r.On (yF l i).aM.toNat=true∧nu l r i+(yF l i).gB≤nu l r (yF l i).aM.toNat)∧E9 (lG l d) i≤(yF l i).iy):=by
  intro i;unfold Pb Bv yF E9;cases hon:r.On.getD i false with
  | false=>simp
  | true=>
   simp only [Bool.not_true,cond_false,Bool.not_eq_true',Bool.or_eq_false_iff,Bool.and_eq_false_iff,decide_eq_false_iff_not,Int.not_lt,Bool.not_eq_false'];constructor
   ·rintro ⟨h1,h2⟩;refine ⟨nofun,λ _=>⟨λ hp=>?_,h2⟩⟩;rcases h1 with h1 | h1
    ·exact absurd hp h1
    ·exact h1
   ·rintro ⟨_,h⟩;obtain ⟨h1,h2⟩:=h (by trivial);refine ⟨?_,h2⟩;by_cases hp:0≤(l.getD i au).aM
    ·exact .inr (h1 hp)
    ·exact .inl hp
 have hd:∀x,¬ aaJ l r x=true↔x.Low≤nu l r x.bM.toNat∧nu l r x.bM.toNat≤x.fP:=by
  intro x;unfold aaJ;rw [Bool.not_eq_true,Bool.not_eq_false',Bo]
 constructor
 ·rintro ⟨h1,h2⟩;have h1:∀i,i<l.length→_:=λ i hi=>(hb i).1 (h1 i (List.mem_range.2 hi));refine ⟨λ i hi=>?_,λ i hi ho=>((h1 i hi).2 ho).1,λ i hi ho=>((h1 i hi).2 ho).2,λ x hx=>(hd x).1 (h2 x hx)⟩;have hlt:=rF hi;cases ho:Bv r.On i with
  | true=>rfl
  | false=>rw [(h1 i hlt).1 ho] at hi; cases hi
 ·rintro ⟨h1,h2,h3,h4⟩;refine ⟨λ i hi=>(hb i).2 ⟨λ ho=>?_,λ ho=>⟨h2 i (List.mem_range.1 hi) ho,h3 i (List.mem_range.1 hi) ho⟩⟩,λ x hx=>(hd x).2 (h4 x hx)⟩;cases hu:Bv (fI l d) i with
  | false=>rfl
  | true=>rw [h1 i hu] at ho; cases ho
theorem Pe (h:iB l d=true):eD l=0:=by
 unfold iB at h;simp only [Bool.and_eq_true] at h;simpa using h.1.1
theorem mR (h:iB l d=true):fq l r d=true↔Rok l r∧Mt l r d:=by
 unfold fq;rw [h];cases hr:vV l r with
 | false=>
  simp;intro hk;rw [DY.2 ⟨Pe h,hk⟩] at hr;cases hr
 | true=>
  simp only [Bool.not_true,Bool.or_self,cond_false];rw [ahz];exact ⟨λ hm=>⟨(DY.1 hr).2,hm⟩,λ hm=>hm.2⟩
theorem Zo {v:Int} {lev:List Int} {t:Nat} (hv:v≤lev.getD t 0):lvN lev v≤t:=by
 rcases Nat.lt_or_ge t (lvN lev v) with h | h
 ·have:=alX t h; omega
 ·exact h
theorem al2 {p:Int} (h:O9 p v=true) {j:Nat} (hij:i≤j) (hj:j<v.length):v.getD i 0≤v.getD j 0:=by
 rcases Nat.eq_or_lt_of_le hij with h1 | h1
 ·subst h1; exact Int.le_refl _
 ·exact Int.le_of_lt (alY h i j h1 hj)
theorem al3 (hv:Ko l d) (hr:Rok l r) (hm:Mt l r d) (h:Dm l d (fI l d) k s):∀j,Bv (fI l d) j=true→(Te s.a j).yB≤nu l r j:=by
 have key:∀m j,l.length - j≤m→Bv (fI l d) j=true→(Te s.a j).yB≤nu l r j:=by
  intro m;induction m with
  | zero=>intro j h1 h2; have:=rF h2; omega
  | succ m ih=>
   intro j h1 hj;have hlt:=rF hj;rcases h.just j hlt with h2 | ⟨q,h2,h3,h4⟩ | ⟨c,h2,h3,h4,h5,h6,h7⟩
   ·rw [h2];have:=UK hv hr j hlt;show 0≤_;omega
   ·rw [h4];have:=(hm.drw _ (jh dH h2)).1;have e:(d.getD q dH).bM.toNat=j:=by unfold xAt at h3; omega
    rw [e] at this;exact this
   ·rw [h7];have hc:=(hv.bM c h3).2.1;have h8:=ih c (by unfold yF at h5; omega) h4;have h9:=hm.aM c h3 (hm.used c h4) om;have e:(yF l c).aM.toNat=j:=by omega
    rw [e] at h9;have h10:=hr.bK c h3;have h11:uy l c s≤(r.dQ.getD c 0).toNat:=Zo h8;have h12:=al2 (hv.bK c h3) h11 h10.2.1;refine Int.le_trans ?_ h9.2;show (l.getD c au).bK.getD (uy l c s) 0+(l.getD c au).gB≤nu l r c+(yF l c).gB;unfold nu yF;omega
 exact λ j=>key _ j (Nat.le_refl _)
theorem ajL {q:Nat} (hv:Ko l d) (hr:Rok l r) (hm:Mt l r d) (h:Dm l d (fI l d) (q+1) s) (hf:wM l (fI l d) q s=true):False:=by
 unfold wM at hf;rw [Bool.and_eq_true,Bool.not_eq_true'] at hf;have h1:=of_decide_eq_false hf.2;have hlt:=rF (l:=l) (d:=d) (j:=q) hf.1;have h2:=al3 hv hr hm h q hf.1;have h3:=hr.bK q hlt;have h4:uy l q s≤(r.dQ.getD q 0).toNat:=Zo h2;omega
theorem ajM (hv:Ko l d) (h:Dm l d (fI l d) 0 s):Rok l ⟨fI l d,s.lv⟩:=by
 refine ⟨tL l d,h.ll,λ i hi=>?_⟩;cases hu:Bv (fI l d) i with
 | true=>
  have:=h.ok i (Nat.zero_le _) hi hu;unfold E9 yF at this;show 0≤s.lv.getD i 0∧(s.lv.getD i 0).toNat<_∧s.lv.getD i 0<_;omega
 | false=>
  have:=h.zero i hi (.inr hu);unfold E9 at this;have h1:=(hv.bM i hi).2.2.1;show 0≤s.lv.getD i 0∧(s.lv.getD i 0).toNat<_∧s.lv.getD i 0<_;omega
theorem Kt (h:Dm l d (fI l d) 0 s) (hu:Bv (fI l d) i=true):nu l ⟨fI l d,s.lv⟩ i=(yF l i).bK.getD (uy l i s) 0:=by
 have:=(h.ok i (Nat.zero_le _) (rF hu) hu).2;unfold E9 at this;unfold nu;show (l.getD i au).bK.getD (s.lv.getD i 0).toNat 0=_;rw [this];rfl
theorem al4 (hv:Ko l d) (h:Dm l d (fI l d) 0 s) (hcap:∀i,Bv (fI l d) i=true→E9 (lG l d) i≤(yF l i).iy)
  (hhi:∀x∈d,nu l ⟨fI l d,s.lv⟩ x.bM.toNat≤x.fP):Mt l ⟨fI l d,s.lv⟩ d:=by
 refine ⟨λ i hi=>hi,λ i hi ho hp=>⟨afM hv ho hp,?_⟩,λ i hi ho=>hcap i ho,λ x hx=>⟨?_,hhi x hx⟩⟩
 ·have hpu:=afM hv ho hp;have h1:=h.up i (Nat.zero_le _) hi ho hp;have h2:=h.ok _ (Nat.zero_le _) (rF hpu) hpu;rw [Kt h ho,Kt h hpu];have h3:=ahv (v:=(Te s.a (yF l i).aM.toNat).yB) (l:=(yF l (yF l i).aM.toNat).bK) h2.1;exact Int.le_trans h1 h3
 ·have hu:=acN hv hx;obtain ⟨q,hq,rfl⟩:∃q,q<d.length∧x=xAt d q:=by
   obtain ⟨q,hq,e⟩:=List.mem_iff_getElem.1 hx;exact ⟨q,hq,by unfold xAt; rw [List.getD_eq_getElem?_getD,List.getElem?_eq_getElem hq,e]; rfl⟩
  rw [Kt h hu];exact Int.le_trans (h.Low q hq) (ahv (h.ok _ (Nat.zero_le _) (rF hu) hu).1)
structure Best (l:List ay) (d:List bf) (r:cu):Prop where
 ok:fq l r d=true
 On:r.On=fI l d
 zero:∀i,Bv (fI l d) i=false→E9 r.dQ i=0
 least:∀q,fq l q d=true→∀i,Bv (fI l d) i=true→Bv q.On i=true∧E9 r.dQ i≤E9 q.dQ i
theorem afN (h:iB l d=true):qj l d=0:=by
 unfold qj;rw [h,Pe h];rfl
theorem zN (h:iB l d=true):((iL l d).2=0∧Best l d (iL l d).1)∨(iL l d=(Sz,9)∧∀q,fq l q d=false):=by
 have hv:=sP h;unfold iL;rw [afN h];simp only [bne_self_eq_false,cond_false];rcases an2 hv with ⟨h1,h2⟩ | ⟨q,h1,h2,h3,h4⟩
 ·generalize Jc l d=p at h1 h2;obtain ⟨s,f⟩:=p;simp only at h1 h2;subst h1;cases hm:fq l ⟨fI l d,s.lv⟩ d with
  | true=>
   refine .inl ⟨rfl,?_⟩;show Best l d ⟨fI l d,s.lv⟩;refine ⟨hm,rfl,λ i hi=>?_,λ q hq i hi=>?_⟩
   ·by_cases hl:i<l.length
    ·exact h2.zero i hl (.inr hi)
    ·exact Ib 0 (by show s.lv.length≤i; rw [h2.ll]; omega)
   ·obtain ⟨hr,hmt⟩:=(mR h).1 hq;refine ⟨hmt.used i hi,?_⟩;have h5:=al3 hv hr hmt h2 i hi;have h6:uy l i s≤(q.dQ.getD i 0).toNat:=Zo h5;have h7:=(h2.ok i (Nat.zero_le _) (rF hi) hi).2;have h8:=hr.bK i (rF hi);show E9 s.lv i≤E9 q.dQ i;rw [h7];unfold E9;omega
  | false=>
   refine .inr ⟨rfl,λ q=>?_⟩;cases hq:fq l q d with
   | false=>rfl
   | true=>
    obtain ⟨hr,hmt⟩:=(mR h).1 hq;exfalso;have hle:=al3 hv hr hmt h2;have:=(mR h).2 ⟨ajM hv h2,al4 hv h2 (λ i hi=>hmt.iy i (rF hi) (hmt.used i hi)) (λ x hx=>?_)⟩
    ·rw [hm] at this; cases this
    ·have hu:=acN hv hx;rw [Kt h2 hu];have h6:uy l x.bM.toNat s≤(q.dQ.getD x.bM.toNat 0).toNat:=Zo (hle _ hu);have h8:=hr.bK _ (rF hu);have h9:=al2 (hv.bK _ (rF hu)) h6 h8.2.1;have h10:=(hmt.drw x hx).2;unfold nu at h10;unfold yF;omega
 ·refine .inr ⟨?_,λ r=>?_⟩
  ·rw [h1,decide_eq_true (by omega:(0:Int)≤(q:Nat))];rfl
  ·cases hq:fq l r d with
   | false=>rfl
   | true=>
    obtain ⟨hr,hmt⟩:=(mR h).1 hq;exact (ajL hv hr hmt h3 h4).elim
theorem Best.unique {r':cu} (hd:iB l d=true) (h:Best l d r) (h':Best l d r'):r=r':=by
 have e1:r.On=r'.On:=h.On.trans h'.On.symm;have l1:=((mR hd).1 h.ok).1.len;have l2:=((mR hd).1 h'.ok).1.len;have e2:r.dQ=r'.dQ:=by
  refine uO 0 om λ j _=>?_;cases hu:Bv (fI l d) j with
  | true=>
   have a1:=(h.least _ h'.ok j hu).2;have a2:=(h'.least _ h.ok j hu).2;unfold E9 at a1 a2;omega
  | false=>
   have a1:=h.zero j hu;have a2:=h'.zero j hu;unfold E9 at a1 a2;omega
 cases r; cases r';simp only at e1 e2;rw [e1,e2]
def jnL (l:List ay) (u:List Bool):List Int→Prop
 | []=>True
 | k::t=>(0≤k∧k<l.length∧Bv u k.toNat=true∧(∀k',t.head? = some k'→(yF l k.toNat).aM=k'))∧jnL l u t
structure Good (l:List ay) (d:List bf) (last:Int) (c:List Int) (fst:Int):Prop where
 ne:c≠[]
 jn:jnL l (fI l d) c
 lo : -1≤fst
 hi:fst<d.length
 yes:0≤fst→(xAt d fst.toNat).bM=E9 c 0∧rwN l d last c (xAt d fst.toNat).Low=true
 no:fst<0→rwN l d last c 0=true
variable {e:List bf}
theorem afO (hd:Ko l d) (he:Ko l e) (hu:∀j,Qy d j=true→Qy e j=true) (hl:∀j,E9 (lG l d) j≤E9 (lG l e) j) (hs:∀x∈d,x∈e) (h:Mt l r e):Mt l r d:=
 ⟨λ i hi=>h.used i (WA hd he hu i hi),h.aM,λ i hi ho=>Int.le_trans (hl i) (h.iy i hi ho),λ x hx=>h.drw x (hs x hx)⟩
theorem UO (hs:∀x∈d,x∈e) (j:Nat) (h:Qy d j=true):Qy e j=true:=by
 unfold Qy at *;rw [List.any_eq_true] at *;obtain ⟨x,hx,h⟩:=h;exact ⟨x,hs x hx,h⟩
theorem WB (hd:iB l d=true) (he:iB l e=true) (hn:d.length+e.length≤32):iB l (d++e)=true:=by
 unfold iB at *;simp only [Bool.and_eq_true,Bool.not_eq_true'] at *;refine ⟨⟨hd.1.1,decide_eq_true (by rw [List.length_append]; omega)⟩,?_⟩;rw [List.any_append,hd.2,he.2];rfl
theorem ad1 (hd:iB l d=true) (he:iB l e=true) (hn:d.length+e.length≤32) (j:Nat):E9 (lG l d) j≤E9 (lG l (d++e)) j:=by
 have:=ajK (sP hd) (sP he) (QB (sP (WB hd he hn))) j;have:=(adZ (sP he) j).1;omega
theorem afP (hd:iB l d=true) (he:iB l e=true) (hn:d.length+e.length≤32) (h:fq l r (d++e)=true):fq l r d=true:=by
 have hde:=WB hd he hn;obtain ⟨h1,h2⟩:=(mR hde).1 h;refine (mR hd).2 ⟨h1,afO (sP hd) (sP hde) (UO (λ x hx=>List.mem_append_left _ hx)) (ad1 hd he hn) (λ x hx=>List.mem_append_left _ hx) h2⟩
theorem Tf (hp:d.Perm e):iB l d=iB l e:=by
 unfold iB;rw [hp.length_eq];congr 2;rw [Bool.eq_iff_iff,List.any_eq_true,List.any_eq_true];exact ⟨λ ⟨x,h1,h2⟩=>⟨x,hp.mem_iff.1 h1,h2⟩,λ ⟨x,h1,h2⟩=>⟨x,hp.mem_iff.2 h1,h2⟩⟩
theorem Ku (hp:d.Perm e) (h:fq l r d=true) (hd:iB l d=true):fq l r e=true:=by
 have he:iB l e=true:=by rw [← Tf hp]; exact hd
 obtain ⟨h1,h2⟩:=(mR hd).1 h;refine (mR he).2 ⟨h1,afO (sP he) (sP hd) (UO λ x hx=>hp.mem_iff.2 hx) (λ j=>?_) (λ x hx=>hp.mem_iff.2 hx) h2⟩;rw [ahy (sP he) (sP hd) (λ j=>(ajJ hp j).symm)];exact Int.le_refl _
theorem WC (hp:d.Perm e) (hd:iB l d=true):fI l d=fI l e:=by
 have he:iB l e=true:=by rw [← Tf hp]; exact hd
 refine ajI (sP hd) (sP he) λ j=>?_;have a:=UO (d:=d) (e:=e) (λ x hx=>hp.mem_iff.1 hx) j;have b:=UO (d:=e) (e:=d) (λ x hx=>hp.mem_iff.2 hx) j;cases ha:Qy d j<;>cases hb:Qy e j<;>simp_all
theorem ahA (hp:d.Perm e) (hd:iB l d=true):iL l d=iL l e:=by
 have he:iB l e=true:=by rw [← Tf hp]; exact hd
 rcases zN hd with ⟨h1,h2⟩ | ⟨h1,h2⟩
 ·rcases zN he with ⟨h3,h4⟩ | ⟨h3,h4⟩
  ·have h5:Best l d (iL l e).1:=by
    refine ⟨Ku hp.symm h4.ok he,h4.On.trans (WC hp hd).symm,λ i hi=>h4.zero i (by rw [← WC hp hd]; exact hi),λ q hq i hi=>h4.least q (Ku hp hq hd) i (by rw [← WC hp hd]; exact hi)⟩
   exact Prod.ext (h2.unique hd h5) (h1.trans h3.symm)
  ·have:=h4 (iL l d).1;rw [Ku hp h2.ok hd] at this;cases this
 ·rcases zN he with ⟨h3,h4⟩ | ⟨h3,h4⟩
  ·have:=h2 (iL l e).1;rw [Ku hp.symm h4.ok he] at this;cases this
  ·rw [h1,h3]
theorem ahB (hd:iB l d=true) (he:iB l e=true) (hn:d.length+e.length≤32) (h:(iL l (d++e)).2=0):
  (iL l d).2=0∧∀k,(Bv (iL l d).1.On k=true→Bv (iL l (d++e)).1.On k=true)∧E9 (iL l d).1.dQ k≤E9 (iL l (d++e)).1.dQ k:=by
 have hde:=WB hd he hn;rcases zN hde with ⟨_,h2⟩ | ⟨h1,h2⟩
 ·have hm:=afP hd he hn h2.ok;rcases zN hd with ⟨h3,h4⟩ | ⟨h3,h4⟩
  ·refine ⟨h3,λ k=>⟨λ hk=>?_,?_⟩⟩
   ·rw [h4.On] at hk;exact (h4.least _ hm k hk).1
   ·cases hu:Bv (fI l d) k with
    | true=>exact (h4.least _ hm k hu).2
    | false=>
     rw [h4.zero k hu];have hr:=((mR hde).1 h2.ok).1;by_cases hk:k<l.length
     ·exact (hr.bK k hk).1
     ·unfold E9;rw [Ib 0 (by rw [hr.len]; omega)];exact Int.le_refl _
  ·have:=h4 (iL l (d++e)).1;rw [hm] at this;cases this
 ·rw [h1] at h;exact absurd h (by decide)
def BS (a:List Dem):List Int:=a.map Dem.yB
theorem EB (a:List Dem) (j:Nat):(BS a).getD j 0=(a.getD j O8).yB:=by
 unfold BS;rw [List.getD_eq_getElem?_getD,List.getElem?_map,List.getD_eq_getElem?_getD];cases a[j]? <;> rfl
theorem afQ (a:List Dem) (j:Nat) (x:Dem):BS (a.set j x)=(BS a).set j x.yB:=by
 unfold BS;rw [List.map_set]
theorem UQ (a:List Dem):(BS a).length=a.length:=by simp [BS]
theorem set_self (a:List Int) (j:Nat):a.set j (a.getD j 0)=a:=by
 refine uO 0 (by simp) λ k hk=>?_;rw [fZ];split
 ·rename_i h; rw [h.1]
 ·rfl
theorem afR (a:List Int) (j:Nat) (v:Int) (h:v=a.getD j 0):a.set j v=a:=by
 rw [h,set_self]
theorem Tg (n:Nat) (d:List bf) (i:Nat):BS (yE n d (i+1))=(BS (yE n d i)).set (d.getD i dH).bM.toNat (if (d.getD i dH).Low > (BS (yE n d i)).getD (d.getD i dH).bM.toNat 0 then (d.getD i dH).Low else (BS (yE n d i)).getD (d.getD i dH).bM.toNat 0):=by
 rw [yE,EB];by_cases h:((yE n d i).getD (d.getD i dH).bM.toNat O8).yB<(d.getD i dH).Low
 ·rw [decide_eq_true h,cond_true,afQ,if_pos h]
 ·rw [decide_eq_false h,cond_false,if_neg h,afR _ _ _ (EB _ _).symm]
theorem al5 (hu:u.length=l.length) (h:DOk l s) (hl:anY l s):Rok l ⟨u,s.lv⟩:=
 ⟨hu,h.ll,λ i hi=>by
  have:=hl i hi;show 0≤s.lv.getD i 0∧(s.lv.getD i 0).toNat<_∧s.lv.getD i 0<_;omega⟩
theorem an3 (hf:wM l u k s=false) (h:anY l s):anY l (BR l u k s):=by
 intro j hj;unfold BR;cases hu:u.getD k false with
 | false=>exact h j hj
 | true=>
  unfold wM at hf;rw [hu,Bool.true_and,Bool.not_eq_false'] at hf;have:=of_decide_eq_true hf;show 0≤(s.lv.set k (uy l k s)).getD j 0∧(s.lv.set k (uy l k s)).getD j 0<_;rw [fZ];split
  ·rename_i hjk; rw [hjk.1]; omega
  ·exact h j hj
theorem Bn {l m:List α} (d:α) (h:l.length≤i):(l++m).getD i d=m.getD (i - l.length) d:=by
 rw [List.getD_eq_getElem?_getD,List.getElem?_append_right h,List.getD_eq_getElem?_getD]
structure aun (l:List ay) (d:List bf) (r:cu) (ok:Bool):Prop where
 is:ok=((iL l d).2==0)
 yes:ok=true→fq l r d=true
 no:ok=false→r=(iL l d).1
theorem jk {n_:Int} {wR:Int} {yS:Int}:W (iU n_ wR yS) (λ r=>r=dL n_ wR yS):=by
 unfold iU;refine av ?_;rfl
theorem WE {s_:ay}:W (rV s_) (λ r=>r=UH s_):=by
 unfold rV;refine av ?_;rfl
theorem zO {s_:List ay} (h1:s_.length≤2000000):W (lV s_) (λ r=>r=s_.any (UH)):=
 wQ (RN (UA (p:=λ x=>rV x) (P:=UH) (λ x hx=>l5 (WE)) om) (sK _ _))
theorem aaK {s_:ay} {at_:Int} (h1:0≤at_) (h2:at_≤2000000) (h3:s_.bK.length≤2000000):W (CY s_ at_) (λ r=>r=zL s_ at_):=by
 unfold CY;refine wn<|aF (jk) λ v1 hv1=>?_;subst v1;refine aF (gX λ hc=>l5 (jk)) λ v2 hv2=>?_;subst v2;refine aF (gX λ hc=>l5 (jk)) λ v3 hv3=>?_;subst v3;refine bJ ?_ ?_<;>intro c1
 ·have gQ:=c1;have c1:=nr c1;refine av ?_;(unfold zL; rw [show X6 s_ at_=true from gQ]; rfl)
 ·have gQ:=c1;have c1:=nr c1;refine bI (λ (g1:Int)=>0≤g1∧g1≤s_.bK.length∧O9 (if g1.toNat=0 then 0 else s_.bK.getD (g1.toNat - 1) 0) (s_.bK.drop g1.toNat)=O9 0 s_.bK) (λ (g1:Int)=>(s_.bK.length - g1).toNat) ?_ ?_
  ·intro aj g1 dY bW;obtain ⟨dN,bO,bE⟩:=dY;unfold KU;obtain ⟨i,rfl⟩:=Int.eq_ofNat_of_zero_le dN;refine wi ?_ ?_<;>intro c2
   ·have hlt:i<s_.bK.length:=om;have hst:=afG hlt rfl;rw [show ((i:Int).toNat)=i from rfl] at bE;rw [hst] at bE;have e1:(((i:Int) - 1).toNat)=i - 1:=om;simp only [e1,Int.toNat_natCast] at *;refine wn<|aF (jk) λ v6 hv6=>?_;subst v6;refine wm<|bJ ?_ ?_<;>intro c3
    ·have jJ:=c3;have c3:=nr c3;refine av ?_;(unfold zL; rw [show X6 s_ at_=false from gQ,← bE]; rw [jJ]; rfl)
    ·have jJ:=c3;have c3:=nr c3;refine wn<|bW _ ?_ ?_
     ·(refine ⟨ob,ob,?_⟩; rw [← bE,jJ]; rw [show ((i:Int)+1).toNat=i+1 by omega,if_neg om]; rfl)
     ·exact ob
   ·refine av ?_;have e:i=s_.bK.length:=om;unfold zL; rw [show X6 s_ at_=false from gQ,← bE,show (i:Int).toNat=i from rfl,e,List.drop_length]; rfl
  ·(refine ⟨ob,ob,rfl⟩)
variable {l_:List ay}
theorem yG (h1:l_.length≤2000000):W (pR l_) (λ r=>r=eD l_):=by
 unfold pR;refine aF (gX λ hc=>l5 (zO ob)) λ v1 hv1=>?_;subst v1;refine bJ ?_ ?_<;>intro c1
 ·have gQ:=c1;have c1:=nr c1;refine av ?_;(unfold eD; rw [gQ]; rfl)
 ·have gQ:=c1;have c1:=nr c1;have hbig:∀i:Nat,i<l_.length→UH (l_.getD i au)=false:=nZ au (by have:=gQ; simp only [Bool.or_eq_false_iff] at this; exact this.2);refine bI (λ (g1:Int)=>0≤g1∧g1≤l_.length∧Wy g1.toNat (l_.drop g1.toNat)=Wy 0 l_) (λ (g1:Int)=>(l_.length - g1).toNat) ?_ ?_
  ·intro aj g1 dY bW;obtain ⟨dN,bO,bE⟩:=dY;unfold KV;obtain ⟨i,rfl⟩:=Int.eq_ofNat_of_zero_le dN;refine wi ?_ ?_<;>intro c2
   ·have hlt:i<l_.length:=om;have hb:=hbig i hlt;have hbl:(l_.getD i au).bK.length≤16:=(by unfold UH at hb; have:=of_decide_eq_false hb; omega);rw [show ((i:Int).toNat)=i from rfl,drop_cons au hlt,Wy] at bE;simp only [Int.toNat_natCast] at *;refine wn<|aF (aaK om om om) λ v4 hv4=>?_;subst v4;refine bJ ?_ ?_<;>intro c3
    ·have jJ:=c3;have c3:=nr c3;refine av ?_;(unfold eD; rw [gQ,← bE,show zL (l_.getD i au) i=false by simpa using jJ]; rfl)
    ·have jJ:=c3;have c3:=nr c3;refine wn<|bW _ ?_ ?_
     ·(refine ⟨ob,ob,?_⟩; rw [← bE,show zL (l_.getD i au) i=true by simpa using jJ,show ((i:Int)+1).toNat=i+1 by omega]; rfl)
     ·exact ob
   ·refine av ?_;have e:i=l_.length:=om;unfold eD; rw [gQ,← bE,show (i:Int).toNat=i from rfl,e,List.drop_length]; rfl
  ·(refine ⟨ob,ob,rfl⟩)
theorem aaL {r_:cu} (h1:l_.length≤2000000) (h2:r_.dQ.length≤2000000):W (Dc l_ r_) (λ r=>r=vV l_ r_):=by
 unfold Dc;refine aF (yG ob) λ v1 hv1=>?_;subst v1;refine bJ ?_ ?_<;>intro c1
 ·have gQ:=c1;have c1:=nr c1;refine av ?_;(unfold vV; rw [gQ]; rfl)
 ·have gQ:=c1;have c1:=nr c1;have hck:eD l_=0∧r_.On.length=l_.length∧r_.dQ.length=l_.length:=(by have:=gQ; simp only [Bool.or_eq_false_iff,bne_eq_false_iff_eq] at this; omega);obtain ⟨b1,b2,b3⟩:=Kn hck.1;refine bI (λ (g1:Int)=>0≤g1∧g1≤l_.length∧rlN (l_.drop g1.toNat) (r_.dQ.drop g1.toNat)=rlN l_ r_.dQ) (λ (g1:Int)=>(l_.length - g1).toNat) ?_ ?_
  ·intro aj g1 dY bW;obtain ⟨dN,bO,bE⟩:=dY;unfold K7;obtain ⟨i,rfl⟩:=Int.eq_ofNat_of_zero_le dN;refine wi ?_ ?_<;>intro c2
   ·have hlt:i<l_.length:=om;have hb:=b2 i hlt;rw [show ((i:Int).toNat)=i from rfl,drop_cons au hlt,drop_cons 0 (show i<r_.dQ.length by omega),rlN] at bE;simp only [Int.toNat_natCast] at *;refine wm<|wn ?_;refine aF (jk) λ v4 hv4=>?_;subst v4;refine bJ ?_ ?_<;>intro c3
    ·have jJ:=c3;have c3:=nr c3;refine av ?_;(unfold vV; rw [gQ,← bE]; rw [show dL (r_.dQ.getD i 0) 0 _=false by simpa using jJ]; rfl)
    ·have jJ:=c3;have c3:=nr c3;refine wn<|bW _ ?_ ?_
     ·(refine ⟨ob,ob,?_⟩; rw [← bE,show dL (r_.dQ.getD i 0) 0 _=true by simpa using jJ,show ((i:Int)+1).toNat=i+1 by omega]; rfl)
     ·exact ob
   ·refine av ?_;have e:i=l_.length:=om;unfold vV; rw [gQ,← bE,show (i:Int).toNat=i from rfl,e,List.drop_length]; cases List.drop l_.length r_.dQ<;>rfl
  ·(refine ⟨ob,ob,rfl⟩)
theorem WG {x_:bf} {qy:List ay} (h1:qy.length≤2000000):W (rY x_ qy) (λ r=>r=aaI qy.length x_):=by
 unfold rY;refine wn<|aF (jk) λ v1 hv1=>?_;subst v1;refine aF (gX λ hc=>l5 (jk)) λ v2 hv2=>?_;subst v2;refine aF (gX λ hc=>l5 (jk)) λ v3 hv3=>?_;subst v3;refine aF (gX λ hc=>l5 (jk)) λ v4 hv4=>?_;subst v4;refine av ?_;rfl
theorem Bp {s_:List bf} {f_:List ay} (h1:s_.length≤2000000) (h2:f_.length≤2000000):W (mg s_ f_) (λ r=>r=s_.any (aaI f_.length)):=
 wQ (RN (UA (p:=λ x=>rY x f_) (P:=aaI f_.length) (λ x hx=>l5 (WG h2)) om) (sK _ _))
variable {d_:List bf}
theorem Pf (h1:l_.length≤2000000) (h2:d_.length≤2000000):W (xK l_ d_) (λ r=>r=iB l_ d_):=by
 unfold xK;refine aF (yG ob) λ v1 hv1=>?_;subst v1;refine aF (gX λ hc=>l5 (Bp ob ob)) λ v2 hv2=>?_;subst v2;refine av ?_;rfl
theorem mU {s_:List ay}:W (iW s_) (λ r=>r=s_):=by
 unfold iW;refine av ?_;rfl
theorem GU (h1:Ko l_ d_):W (wD l_ d_) (λ r=>r=fI l_ d_):=by
 obtain ⟨vl,vd,vs,_,vx⟩:=h1;unfold wD;refine wn<|bI (λ (g1:Int×List Bool)=>0≤g1.1∧g1.1≤d_.length∧g1.2=qK l_.length (d_.take g1.1.toNat)) (λ (g1:Int×List Bool)=>(d_.length - g1.1).toNat) ?_ ?_
 ·intro aj g1 dY bW;obtain ⟨dN,bO,bE⟩:=dY;unfold NS;refine wi ?_ ?_<;>intro c1
  ·have hlt:g1.1.toNat<d_.length:=om;have hx:=vx _ (jh dH hlt);have hml:g1.2.length=l_.length:=(by rw [bE]; exact tK ..);refine wm<|wn ?_;refine bW _ ?_ ?_
   ·(refine ⟨ob,ob,?_⟩; dsimp only; have e:qK l_.length (d_.take (g1.1.toNat+1))=(qK l_.length (d_.take g1.1.toNat)).set (d_.getD g1.1.toNat dH).bM.toNat true:=vJ _ _ dH hlt; rw [show (g1.1+1).toNat=g1.1.toNat+1 by omega,bE,e])
   ·exact ob
  ·refine aF (mU) λ v1 hv1=>?_;subst v1;refine wn<|alA (λ (k2:Nat) (g2:List Bool)=>g2=JH (iF l_) l_.length k2 (qK l_.length d_)) ?_ ?_ ?_
   ·intro k2 dK g2 auo nk qL;unfold K6;refine aO (by (rw [nk,vC (nS _),tK]; omega)) ?_;refine aO (by (rw [nk,vC (nS _),tK]; omega)) ?_;unfold BL;refine aO (by (rw [List.length_set,nk,vC (nS _),tK]; omega)) ?_;refine bJ ?_ ?_<;>intro c2
    ·have kr:=c2;have c2:=nr c2;have hp:=vs (l_.length - 1 - k2) om;have hl2:g2.length=l_.length:=(by rw [nk,vC (nS _),tK]);refine wn<|qL _ ?_;(rw [Int.toNat_natCast,fZ,if_pos ⟨rfl,om⟩] at kr; show _=iF l_ (l_.length - 1 - k2) (JH (iF l_) l_.length k2 (qK l_.length d_)); rw [← nk]; unfold iF; rw [kr]; rfl)
    ·have kr:=c2;have c2:=nr c2;have hl2:g2.length=l_.length:=(by rw [nk,vC (nS _),tK]);refine qL _ ?_;(rw [Int.toNat_natCast,fZ,if_pos ⟨rfl,om⟩] at kr; show _=iF l_ (l_.length - 1 - k2) (JH (iF l_) l_.length k2 (qK l_.length d_)); rw [← nk]; unfold iF; rw [kr]; rfl)
   ·intro g2 nk;unfold K5;refine av ?_;(rw [nk]; exact DJ _ _ _)
   ·(simp only [bE]; rw [show g1.1.toNat=d_.length by omega,List.take_length]; rfl)
 ·(refine ⟨ob,ob,rfl⟩)
theorem aaM (h1:Ko l_ d_):W (Df l_ d_) (λ r=>r=lG l_ d_):=by
 have hsm:=λ k hk=>Kq h1 k hk;obtain ⟨vl,vd,vs,_,vx⟩:=h1;unfold Df;refine wn<|bI (λ (g1:Int×List Int)=>0≤g1.1∧g1.1≤d_.length∧g1.2=zM l_.length (d_.take g1.1.toNat)) (λ (g1:Int×List Int)=>(d_.length - g1.1).toNat) ?_ ?_
 ·intro aj g1 dY bW;obtain ⟨dN,bO,bE⟩:=dY;unfold K8;refine wi ?_ ?_<;>intro c1
  ·have hlt:g1.1.toNat<d_.length:=om;have hx:=vx _ (jh dH hlt);have hml:g1.2.length=l_.length:=(by rw [bE]; exact yC ..);have hbd:=afK l_.length d_ (λ x hx=>by have:=vx x hx; omega) g1.1.toNat om (d_.getD g1.1.toNat dH).bM.toNat;rw [← bE] at hbd;refine wm<|wm ?_;refine wn<|bW _ ?_ ?_
   ·(refine ⟨ob,ob,?_⟩; dsimp only; have e:zM l_.length (d_.take (g1.1.toNat+1))=(zM l_.length (d_.take g1.1.toNat)).set (d_.getD g1.1.toNat dH).bM.toNat ((zM l_.length (d_.take g1.1.toNat)).getD (d_.getD g1.1.toNat dH).bM.toNat 0+(d_.getD g1.1.toNat dH).Load):=vJ _ _ dH hlt; rw [show (g1.1+1).toNat=g1.1.toNat+1 by omega,e,← bE])
   ·exact ob
  ·refine aF (mU) λ v1 hv1=>?_;subst v1;refine wn<|alA (λ (k2:Nat) (g2:List Int)=>g2=JH (iH l_) l_.length k2 (zM l_.length d_)) ?_ ?_ ?_
   ·intro k2 dK g2 auo nk qL;unfold Im;refine bJ ?_ ?_<;>intro c2
    ·have kr:=c2;have c2:=nr c2;have hp:=vs (l_.length - 1 - k2) om;have hl2:g2.length=l_.length:=(by rw [nk,vC (tN _),yC]);have hbd:=hsm k2 om;rw [← nk] at hbd;have hb1:=hbd (l_.getD (l_.length - 1 - k2) au).aM.toNat;have hb2:=hbd (l_.length - 1 - k2);rw [Int.toNat_natCast];refine wm<|wm ?_;refine qL _ ?_;(show _=iH l_ (l_.length - 1 - k2) (JH (iH l_) l_.length k2 (zM l_.length d_)); rw [← nk]; unfold iH; rw [kr]; rfl)
    ·have kr:=c2;have c2:=nr c2;refine qL _ ?_;(show _=iH l_ (l_.length - 1 - k2) (JH (iH l_) l_.length k2 (zM l_.length d_)); rw [← nk]; unfold iH; rw [kr]; rfl)
   ·intro g2 nk;unfold Il;refine av ?_;(rw [nk]; exact DJ _ _ _)
   ·(simp only [bE]; rw [show g1.1.toNat=d_.length by omega,List.take_length]; rfl)
 ·(refine ⟨ob,ob,rfl⟩)
theorem WH {x_:bf} {qy:List ay} {ajy:List Bool} {Wn:List Int} (h1:0≤x_.bM) (h2:x_.bM<qy.length) (h3:x_.bM<Wn.length) (h4:0≤Wn.getD x_.bM.toNat 0) (h5:Wn.getD x_.bM.toNat 0<(qy.getD x_.bM.toNat au).bK.length):W (r9 x_ qy ajy Wn) (λ r=>r=aaJ qy ⟨ajy,Wn⟩ x_):=by
 unfold r9;refine wm<|wn ?_;refine aF (jk) λ v1 hv1=>?_;subst v1;refine av ?_;rfl
theorem yH {s_:List bf} {BM:List ay} {Co:List Bool} {Cq:List Int} (h1:s_.length≤2000000) (h2:∀x∈s_,0≤x.bM∧x.bM<BM.length) (h3:Rok BM ⟨Co,Cq⟩):W (kJ s_ BM Co Cq) (λ r=>r=s_.any (aaJ BM ⟨Co,Cq⟩)):=
 wQ (RN (UA (p:=λ x=>r9 x BM Co Cq) (P:=aaJ BM ⟨Co,Cq⟩) (λ x hx=>l5 (by obtain ⟨q1,q2⟩:=h2 x hx; obtain ⟨r1,r2,r3⟩:=h3; have r4:=r3 x.bM.toNat om; exact WH q1 q2 (by dsimp only at r2; omega) r4.1 r4.2.2)) om) (sK _ _))
theorem Ph {r_:cu} (h1:l_.length≤2000000) (h2:d_.length≤2000000) (h3:r_.dQ.length≤2000000):W (xM l_ r_ d_) (λ r=>r=fq l_ r_ d_):=by
 unfold xM;refine aF (aaL ob ob) λ v1 hv1=>?_;subst v1;refine aF (gX λ hc=>l5 (Pf ob ob)) λ v2 hv2=>?_;subst v2;refine bJ ?_ ?_<;>intro c1
 ·have gQ:=c1;have c1:=nr c1;refine av ?_;(unfold fq; rw [gQ]; rfl)
 ·have gQ:=c1;have c1:=nr c1;have hrd:vV l_ r_=true∧iB l_ d_=true:=(by have:=gQ; simpa using this);have hv:=sP hrd.2;have hr:=(DY.1 hrd.1).2;have hrk:=hr;have hvb:=λ i hi=>UK hv hr i hi;have hul:=tL l_ d_;have hll:=Td l_ d_;obtain ⟨r1,r2,r3⟩:=hr;obtain ⟨vl,vd,vs,_,vx⟩:=id hv;have hmf:fq l_ r_ d_=yD l_ r_ d_:=(by unfold fq; rw [gQ]; rfl);refine aF (GU hv) λ v3 hv3=>?_;subst v3;refine aF (aaM hv) λ v4 hv4=>?_;subst v4;refine bI (λ (g1:Int)=>0≤g1∧g1≤l_.length∧(∀j,j<g1.toNat→Pb l_ r_ (fI l_ d_) (lG l_ d_) j=false)) (λ (g1:Int)=>(l_.length - g1).toNat) ?_ ?_
  ·intro aj g1 dY bW;obtain ⟨dN,bO,bE⟩:=dY;unfold K9;obtain ⟨i,rfl⟩:=Int.eq_ofNat_of_zero_le dN;refine wi ?_ ?_<;>intro c2
   ·have hlt:i<l_.length:=om;have hp:=vs i hlt;have hp2:=vs (l_.getD i au).aM.toNat;have hr3:=r3 i hlt;have hr4:=r3 (l_.getD i au).aM.toNat;have hv1:=hvb i hlt;unfold nu at hv1;simp only [Int.toNat_natCast] at *;refine wm<|bJ ?_ ?_<;>intro c3
    ·have jJ:=c3;have c3:=nr c3;refine wn<|bJ ?_ ?_<;>intro c4
     ·have sO:=c4;have c4:=nr c4;refine av ?_;(rw [hmf]; unfold yD; rw [BQ hlt (by unfold Pb; rw [jJ,sO]; rfl)]; rfl)
     ·have sO:=c4;have c4:=nr c4;refine wn<|bW _ ?_ ?_
      ·(refine ⟨ob,ob,λ j hj=>?_⟩; by_cases q:j<i; (exact bE j q); (have e:j=i:=by omega); subst e; unfold Pb; rw [jJ,sO]; rfl)
      ·exact ob
    ·have jJ:=c3;have c3:=nr c3;refine aO (by (intro q1; have:=of_decide_eq_true q1; omega)) ?_;refine aO (by (intro q1 _; have:=of_decide_eq_true q1; omega)) ?_;refine aO (by (intro q1 _; have:=of_decide_eq_true q1; omega)) ?_;refine aO (by (intro q1 _; have:=of_decide_eq_true q1; have:=hr4 om; omega)) ?_;refine aO (by (intro q1 _; have:=of_decide_eq_true q1; omega)) ?_;refine aO (by (intro q1 _; have:=of_decide_eq_true q1; omega)) ?_;refine aO (by (intro q1 _; have:=of_decide_eq_true q1; unfold aG; omega)) ?_;refine aO (by (intro _; omega)) ?_;refine bJ ?_ ?_<;>intro c5
     ·have Bu:=c5;have c5:=nr c5;refine av ?_;(rw [hmf]; unfold yD; rw [BQ hlt (by unfold Pb nu; rw [jJ]; simp only [cond_false]; rw [Bu]; rfl)]; rfl)
     ·have Bu:=c5;have c5:=nr c5;refine wn<|bW _ ?_ ?_
      ·(refine ⟨ob,ob,λ j hj=>?_⟩; by_cases q:j<i; (exact bE j q); (have e:j=i:=by omega); subst e; unfold Pb nu; rw [jJ]; exact Bu)
      ·exact ob
   ·refine aF (yH om (λ x hx=>by have:=vx x hx; omega) hrk) λ v5 hv5=>?_;subst v5;refine av ?_;(rw [hmf]; unfold yD; rw [Pd λ j hj=>(by rw [bE j om]; rfl)]; rfl)
  ·(refine ⟨ob,ob,λ j hj=>absurd hj (Nat.not_lt_zero j)⟩)
end Go.Proofs.YtccjmcmolnbiiaaGreatDoor.Sp
namespace Go.Proofs.YtccjmcmolnbiiaaGreatDoor
open Go.Ab
set_option maxRecDepth 100000
structure al6 (l:List eG):Prop where
 len:l.length≤32
 af:∀i,i<l.length→∀x∈(l.getD i dz).dX,0≤x∧x<(i:Int)
structure an4 (l:List dF):Prop where
 len:l.length≤16
 par:∀i,i<l.length → -1≤(l.getD i dI).aM∧(l.getD i dI).aM<(i:Int)
structure arJ (n:Int) (g:dh):Prop where
 pl:0<g.bQ.length
 fl:0<g.ak.length∧g.ak.length≤8
 pn:∀x∈g.bQ,0≤x∧x<n
structure Jd (p:bn) (u:ou):Prop where
 g0:0≤u.cZ
 gl:u.cZ<p.aD.length
 f0:0≤u.gL
 fl:u.gL<(p.aD.getD u.cZ.toNat aH).ak.length
theorem dU {P:Nat→Prop} {i:Int} (h:∀j:Nat,(j:Int)<i→P j) (h0:0≤i) (hp:P i.toNat):∀j:Nat,(j:Int)<i+1→P j:=λ j hj=>by
 by_cases q:(j:Int)<i
 ·exact h j q
 ·have e:j=i.toNat:=by omega
  rw [e]; exact hp
structure aoO (p:bn):Prop where
 pn:0≤p.bQ∧p.bQ≤64
 gl:p.aD.length≤24
 gr:∀g∈p.aD,arJ p.bQ g
variable {α:Type}
theorem jC {P:α→Prop} {l:List α} (d:α) (h:∀j,j<l.length→P (l.getD j d)):∀x∈l,P x:=λ x hx=>by
 obtain ⟨i,hi,rfl⟩:=List.mem_iff_getElem.1 hx;have:=h i hi;rwa [List.getD_eq_getElem?_getD,List.getElem?_eq_getElem hi] at this
theorem aaN {s:ByteArray} {c:Bool} (h:((s.toList==({ data:=#[] }:ByteArray).toList)||c)=false):0<s.size:=by
 simp only [Bool.or_eq_false_iff] at h;rcases Nat.eq_zero_or_pos s.size with e | e
 ·exfalso;have e2:s=({ data:=#[] }:ByteArray):=by
   cases s with
   | mk d=>cases d with
    | mk l=>cases l with
     | nil=>rfl
     | cons a t=>simp [ByteArray.size] at e
  rw [e2] at h;simp at h
 ·exact e
theorem ajN {s:ByteArray} {c d:Bool} (h:((((s.toList==({ data:=#[] }:ByteArray).toList)||(decide ((16:Int)<((s.size:Nat):Int))))||c)||d)=false):0<s.size∧s.size≤16:=by
 simp only [Bool.or_eq_false_iff] at h;refine ⟨aaN (c:=false) (by simp only [Bool.or_eq_false_iff]; exact ⟨h.1.1.1,trivial⟩),?_⟩;have:=of_decide_eq_false h.1.1.2;omega
theorem EC {dD:List Int} (h1:dD.length≤2000000):W (slices_Clone_int dD) (λ r=>r=dD):=by
 unfold slices_Clone_int;refine wn<|av ?_;rfl
variable {s_:List Int}
theorem ng (h1:s_.length≤2000000):W (jv s_) (λ r=>r=s_):=by
 unfold jv;refine wn<|av ?_;rfl
theorem uz {s_:List Bool} (h1:s_.length≤2000000):W (lN s_) (λ r=>r=s_):=by
 unfold lN;refine wn<|av ?_;rfl
theorem Je {s_:List aR} (h1:s_.length≤2000000):W (mZ s_) (λ r=>r=s_):=by
 unfold mZ;refine wn<|av ?_;rfl
theorem MU {s_:Nat} {dD:List Int} (h1:s_≤dD.length) (h2:s_≤2000000):W (oF s_ dD) (λ r=>r=dD.take s_):=by
 unfold oF;refine wn<|av ?_;rfl
structure Bq (b:aS):Prop where
 cl:b.bS.length≤2000000
 ch:afz b.bS
 su:b.bG.length≤2000000
 gr:∀g∈b.aT.aD,g.bQ.length≤2000000
 re:b.bq.length≤2000000
 ra:∀g∈b.bq,g.dX.length≤2000000
 dm:b.cO.length≤2000000
structure aoP (b:aS):Prop where
 cl:eD b.bS=0
 su:Sp.eD b.bG=0
 pn:aoO b.aT
 rs:al6 b.bq
 dm:an4 b.cO
structure abO (n:Nat) (x:bN):Prop where
 k0:0≤x.eZ
 kl:x.eZ<n
 l0:0≤x.Low
 lh:x.Low≤x.fP
 hi:x.fP≤4000000000
structure ahC (n:Nat) (x:bf):Prop where
 k0:0≤x.bM
 kl:x.bM<n
 l0:0≤x.Low
 lh:x.Low≤x.fP
 hi:x.fP≤5000
 ld:0≤x.Load∧x.Load≤10000
structure aqe (b:aS) (n:aJ):Prop where
 ll:n.bU.length≤32
 dl:n.fF.length≤32
 fl:n.ak.length≤10
 lm:∀x∈n.bU,abO b.bS.length x
 dw:∀x∈n.fF,ahC b.bG.length x
 rs:∀x∈n.bq,0≤x∧x<b.bq.length
 dm : -1≤n.fT∧n.fT<b.cO.length
structure Jf (l:List aJ):Prop where
 len:l.length≤2000000
 nd:∀n∈l,n.bq.length≤2000000∧n.bT.length≤2000000
structure MV (g:bg):Prop where
 st:g.dG.length≤2000000
 on:g.fC.On.length≤2000000
 lv:g.fC.dQ.length≤2000000
 us:g.bZ.length≤2000000
 re:g.d9.length≤2000000
 po:g.fB.length≤2000000
structure abP (s:ig):Prop where
 sz:Bq s.bH
 val:aoP s.bH
 nl:s.dB.length≤12
 nd:∀n∈s.dB,aqe s.bH n
 nsz:Jf s.dB
 ml:s.aQ.length≤10000
 gs:MV s.aW
structure ahD (s:ig):Prop where
 mem:∀m∈s.aQ,0≤m∧m<s.dB.length
 st:s.aW.dG.length=s.bH.bS.length
 on:s.aW.fC.On.length=s.bH.bG.length
 lv:s.aW.fC.dQ.length=s.bH.bG.length
 re:s.aW.d9.length=s.bH.bq.length
 po:s.aW.fB.length=s.bH.cO.length
theorem gZ {v_:Int} (h1:s_.length≤2000000):slices_Contains_int s_ v_ (s_.contains v_):=aaE h1
theorem ql {x_:Int} {C9:Int} {oP:Int}:W (qF x_ C9 oP) (λ r=>r=(decide (C9≤x_)&&decide (x_≤oP))):=by
 unfold qF;refine av ?_;rfl
theorem X7 {r_:cu} (h1:r_.On.length≤2000000) (h2:r_.dQ.length≤2000000):W (Iq r_) (λ r=>r=r_):=by
 unfold Iq;refine aF (uz ob) λ v1 hv1=>?_;subst v1;refine aF (ng ob) λ v2 hv2=>?_;subst v2;refine av ?_;rfl
theorem afS {g_:bg} (h1:MV g_):W (Qn g_) (λ r=>r=g_):=by
 obtain ⟨z1,z2,z3,z4,z5,z6⟩:=h1;unfold Qn;refine aF (ng ob) λ v1 hv1=>?_;subst v1;refine aF (X7 ob ob) λ v2 hv2=>?_;subst v2;refine aF (Je ob) λ v3 hv3=>?_;subst v3;refine aF (uz ob) λ v4 hv4=>?_;subst v4;refine aF (uz ob) λ v5 hv5=>?_;subst v5;refine av ?_;rfl
theorem zP (f:qR→Option Int) (k k':qR) (n:Int):CS (VT f k n) k'=if k'=k then n else CS f k':=by
 unfold CS VT;split<;>rfl
theorem al7 {l:List aI} {s:List Int} (h:(vT l s).2=0):eD l=0∧l6 l s=true∧(vT l s).1=gD l s:=by
 unfold vT at h ⊢;cases h1:eD l != 0 with
 | true=>rw [h1] at h; simp at h1; exact absurd h h1
 | false=>
  cases h2:l6 l s with
  | false=>rw [h1,h2] at h; cases h
  | true=>exact ⟨by simpa using h1,rfl,rfl⟩
theorem al8 {l:List aI} {s:List Int} (h1:eD l=0) (h2:l6 l s=true) (j:Nat) (hj:j<l.length):1≤((gD l s).getD j dS).jr∧((gD l s).getD j dS).jr≤16777216:=by
 have:=mM (Qx (vB h1) h2 j hj).2.2.1;exact ⟨this.2.2.1,this.2.2.2.1⟩
theorem Kv {N9:Int} {BK:List aI} {vM:List ay} {aao:Int} {aap:List dh} {aaq:List eG} {aar:List dF} {GN:List aJ} {aas:List Int} {aat:List Int} {aau:List Bool} {Oa:List Int} {Ob:List aR} {Ej:List Bool} {El:List Bool} {Oc:Bool} (h1:0≤N9) (h2:N9<Ej.length):W (lq N9 BK vM aao aap aaq aar GN aas aat aau Oa Ob Ej El Oc) (λ r=>r=!(Ej.getD N9.toNat false)):=by
 unfold lq;refine wn<|av ?_;rfl
theorem BU {BM:List aI} {Co:List ay} {Cq:Int} {SB:List dh} {SC:List eG} {SE:List dF} {MQ:List aJ} {SF:List Int} {SG:List Int} {SH:List Bool} {vN:List Int} {vO:List aR} {tq:List Bool} {tu:List Bool} {vP:Bool} (h1:s_.length≤2000000) (h2:∀x∈s_,0≤x∧x<tq.length):W (mH s_ BM Co Cq SB SC SE MQ SF SG SH vN vO tq tu vP) (λ r=>r=s_.any (λ x=>!(tq.getD x.toNat false))):=
 wQ (RN (UA (p:=λ x=>lq x BM Co Cq SB SC SE MQ SF SG SH vN vO tq tu vP) (P:=λ x=>!(tq.getD x.toNat false)) (λ x hx=>l5 (Kv (h2 x hx).1 (h2 x hx).2)) om) (sK _ _))
theorem Jg {m_:Int} {BK:List aI} {vM:List ay} {aao:Int} {aap:List dh} {aaq:List eG} {aar:List dF} {GN:List aJ} {aas:List Int} {aat:List Int} {aau:List Bool} {Oa:List Int} {Ob:List aR} {Ej:List Bool} {El:List Bool} {Oc:Bool} (h1:0≤m_) (h2:m_<GN.length) (h3:(GN.getD m_.toNat bB).fT<El.length):W (kC m_ BK vM aao aap aaq aar GN aas aat aau Oa Ob Ej El Oc) (λ r=>r=((decide ((0:Int)≤(GN.getD m_.toNat bB).fT))&&(!(El.getD (((GN.getD m_.toNat bB).fT).toNat) false)))):=by
 unfold kC;refine wm<|av ?_;rfl
theorem BX {BM:List aI} {Co:List ay} {Cq:Int} {SB:List dh} {SC:List eG} {SE:List dF} {MQ:List aJ} {SF:List Int} {SG:List Int} {SH:List Bool} {vN:List Int} {vO:List aR} {tq:List Bool} {tu:List Bool} {vP:Bool} (h1:s_.length≤2000000) (h2:∀x∈s_,0≤x∧x<MQ.length∧(MQ.getD x.toNat bB).fT<tu.length):W (mI s_ BM Co Cq SB SC SE MQ SF SG SH vN vO tq tu vP) (λ r=>r=s_.any (λ x=>((decide ((0:Int)≤(MQ.getD x.toNat bB).fT))&&(!(tu.getD (((MQ.getD x.toNat bB).fT).toNat) false))))):=
 wQ (RN (UA (p:=λ x=>kC x BM Co Cq SB SC SE MQ SF SG SH vN vO tq tu vP) (P:=λ x=>((decide ((0:Int)≤(MQ.getD x.toNat bB).fT))&&(!(tu.getD (((MQ.getD x.toNat bB).fT).toNat) false)))) (λ x hx=>l5 (Jg (h2 x hx).1 (h2 x hx).2.1 (h2 x hx).2.2)) om) (sK _ _))
theorem Jh (d:α) (l:List α) (n j:Nat) (h:j<n):(l.take n).getD j d=l.getD j d:=by
 rw [List.getD_eq_getElem?_getD,List.getD_eq_getElem?_getD,List.getElem?_take_of_lt h]
deriving instance DecidableEq for ou,aR,bg
theorem DK [DecidableEq α] {a b:List α} (h:¬ (a.length:Int)=b.length):(a==b)=false:=by
 simp only [beq_eq_false_iff_ne,ne_eq];intro e;rw [e] at h;exact h rfl
theorem Zp [DecidableEq α] {x y:α} {a b:List α} (h:¬ x=y):(x::a==y::b)=false:=by
 simp only [beq_eq_false_iff_ne,ne_eq,List.cons.injEq];exact λ e=>h e.1
theorem Zq [DecidableEq α] {x y:α} {a b:List α} (h:x=y):(x::a==y::b)=(a==b):=by
 subst h;rw [Bool.eq_iff_iff];simp
theorem an5 {x y:aR} (h:(!((x.gF==y.gF)&&((x.jN.cZ==y.jN.cZ)&&((x.jN.gL==y.jN.gL)&&true))))=false):x=y:=by
 obtain ⟨d,g,f⟩:=x;obtain ⟨d',g',f'⟩:=y;simp at h;obtain ⟨h1,h2,h3⟩:=h;subst h1 h2 h3;rfl
def aiA (a b:bg):Bool:=((((a.dG==b.dG)&&((a.fC.On==b.fC.On)&&(a.fC.dQ==b.fC.dQ)))&&(a.bZ==b.bZ))&&(a.d9==b.d9))&&(a.fB==b.fB)
theorem ahE (a:bg):aiA a a=true:=by
 unfold aiA;simp
theorem UR {a_:List Int} {b_:List Int} (h1:a_.length≤2000000):W (Ez a_ b_) (λ r=>r=(a_==b_)):=by
 unfold Ez;refine wi ?_ ?_<;>intro c1
 ·exact av ((DK c1).symm)
 ·refine bI (λ (g1:Int)=>0≤g1∧g1≤a_.length∧(a_==b_)=(a_.drop g1.toNat==b_.drop g1.toNat)) (λ (g1:Int)=>(a_.length - g1).toNat) ?_ ?_
  ·intro aj g1 dY bW;obtain ⟨dN,bO,bE⟩:=dY;unfold RL;refine wi ?_ ?_<;>intro c2
   ·rw [drop_cons 0 (show g1.toNat<a_.length by omega),drop_cons 0 (show g1.toNat<b_.length by omega)] at bE;refine wm<|wi ?_ ?_<;>intro c3
    ·refine av ?_;(rw [bE,Zp c3])
    ·refine wn<|bW _ ?_ ?_
     ·(refine ⟨ob,ob,?_⟩; rw [bE,Zq c3,show (g1+1).toNat=g1.toNat+1 by omega])
     ·exact ob
   ·refine av ?_;(rw [bE,List.drop_eq_nil_of_le om,List.drop_eq_nil_of_le om]; rfl)
  ·(refine ⟨ob,ob,rfl⟩)
theorem GV {a_:List Bool} {b_:List Bool} (h1:a_.length≤2000000):W (wL a_ b_) (λ r=>r=(a_==b_)):=by
 unfold wL;refine wi ?_ ?_<;>intro c1
 ·exact av ((DK c1).symm)
 ·refine bI (λ (g1:Int)=>0≤g1∧g1≤a_.length∧(a_==b_)=(a_.drop g1.toNat==b_.drop g1.toNat)) (λ (g1:Int)=>(a_.length - g1).toNat) ?_ ?_
  ·intro aj g1 dY bW;obtain ⟨dN,bO,bE⟩:=dY;unfold OU;refine wi ?_ ?_<;>intro c2
   ·rw [drop_cons false (show g1.toNat<a_.length by omega),drop_cons false (show g1.toNat<b_.length by omega)] at bE;refine wm<|bJ ?_ ?_<;>intro c3
    ·have jJ:=c3;have c3:=nr c3;refine av ?_;(rw [bE,Zp (by simpa using jJ)])
    ·have jJ:=c3;have c3:=nr c3;refine wn<|bW _ ?_ ?_
     ·(refine ⟨ob,ob,?_⟩; rw [bE,Zq (by simpa using jJ),show (g1+1).toNat=g1.toNat+1 by omega])
     ·exact ob
   ·refine av ?_;(rw [bE,List.drop_eq_nil_of_le om,List.drop_eq_nil_of_le om]; rfl)
  ·(refine ⟨ob,ob,rfl⟩)
theorem UU {a_:cu} {b_:cu} (h1:a_.On.length≤2000000) (h2:a_.dQ.length≤2000000):W (vo a_ b_) (λ r=>r=((a_.On==b_.On)&&(a_.dQ==b_.dQ))):=by
 unfold vo;refine aF (GV ob) λ v1 hv1=>?_;subst v1;refine aF (gX λ hc=>l5 (UR ob)) λ v2 hv2=>?_;subst v2;refine av ?_;rfl
theorem Mj {a_:List aR} {b_:List aR} (h1:a_.length≤2000000):W (uN a_ b_) (λ r=>r=(a_==b_)):=by
 unfold uN;refine wi ?_ ?_<;>intro c1
 ·exact av ((DK c1).symm)
 ·refine bI (λ (g1:Int)=>0≤g1∧g1≤a_.length∧(a_==b_)=(a_.drop g1.toNat==b_.drop g1.toNat)) (λ (g1:Int)=>(a_.length - g1).toNat) ?_ ?_
  ·intro aj g1 dY bW;obtain ⟨dN,bO,bE⟩:=dY;unfold I6;refine wi ?_ ?_<;>intro c2
   ·rw [drop_cons bC (show g1.toNat<a_.length by omega),drop_cons bC (show g1.toNat<b_.length by omega)] at bE;refine wm<|bJ ?_ ?_<;>intro c3
    ·have jJ:=c3;have c3:=nr c3;refine av ?_;(rw [bE,Zp (λ e=>by rw [e] at jJ; simp at jJ)])
    ·have jJ:=c3;have c3:=nr c3;refine wn<|bW _ ?_ ?_
     ·(refine ⟨ob,ob,?_⟩; rw [bE,Zq (an5 jJ),show (g1+1).toNat=g1.toNat+1 by omega])
     ·exact ob
   ·refine av ?_;(rw [bE,List.drop_eq_nil_of_le om,List.drop_eq_nil_of_le om]; rfl)
  ·(refine ⟨ob,ob,rfl⟩)
theorem UW {a_:bg} {b_:bg} (h1:MV a_):W (EA a_ b_) (λ r=>r=aiA a_ b_):=by
 obtain ⟨z1,z2,z3,z4,z5,z6⟩:=h1;unfold EA;refine aF (UR ob) λ v1 hv1=>?_;subst v1;refine aF (gX λ hc=>l5 (UU ob ob)) λ v2 hv2=>?_;subst v2;refine aF (gX λ hc=>l5 (Mj ob)) λ v3 hv3=>?_;subst v3;refine aF (gX λ hc=>l5 (GV ob)) λ v4 hv4=>?_;subst v4;refine aF (gX λ hc=>l5 (GV ob)) λ v5 hv5=>?_;subst v5;refine av ?_;rfl
end Go.Proofs.YtccjmcmolnbiiaaGreatDoor
namespace Go.Proofs.YtccjmcmolnbiiaaGreatDoor.Sp
open Go.Ab
set_option maxRecDepth 100000
variable {l:List ay} {d:List bf}
theorem al9 (h:((eD l != 0)||decide (32<(d.length:Int)))=true):iB l d=false:=by
 unfold iB;by_cases h1:eD l=0
 ·rw [h1] at h;have:32<(d.length:Int):=by simpa using h
  rw [decide_eq_false (p:=(d.length:Int)≤32) om];simp
 ·have:(eD l==0)=false:=by simpa using h1
  rw [this];rfl
theorem ajO (h:((eD l != 0)||decide (32<(d.length:Int)))=false):iB l d=!(d.any (aaI l.length)):=by
 have h1:eD l=0∧(d.length:Int)≤32:=by
  simp at h;omega
 unfold iB;rw [h1.1,decide_eq_true h1.2];rfl
variable {i:Nat}
theorem an6 {b:List Bool} {j:Nat} {a:Bool} {g:Int} (hi:i<b.length) (hj:j<d.length) (hg:g=(i:Int)):(b.set i (b.getD i false||a||Qy (d.take j) i)).set i ((b.set i (b.getD i false||a||Qy (d.take j) i)).getD i false||((d.getD j dH).bM==g))=b.set i (b.getD i false||a||Qy (d.take (j+1)) i):=by
 subst hg;have hsn:Qy (d.take (j+1)) i=(Qy (d.take j) i||((d.getD j dH).bM==(i:Int))):=by
  unfold Qy;rw [gP dH hj,List.any_append];simp
 rw [fZ,if_pos ⟨rfl,hi⟩,List.set_set,hsn];simp only [Bool.or_assoc]
theorem qm {x_:Int} {wR:Int} {yS:Int}:W (qH x_ wR yS) (λ r=>r=dL x_ wR yS):=by
 unfold qH;refine av ?_;rfl
variable {l_:List ay}
theorem Ao (h1:l_.length≤2000000):W (sH l_) (λ r=>r=eD l_):=by
 unfold sH;refine bJ ?_ ?_<;>intro c1
 ·have gQ:=c1;have c1:=nr c1;refine av ?_;(unfold eD; rw [gQ]; rfl)
 ·have gQ:=c1;have c1:=nr c1;refine bI (λ (g1:Int)=>0≤g1∧g1≤l_.length∧(∀j:Nat,(j:Int)<g1→UH (l_.getD j au)=false)) (λ (g1:Int)=>(l_.length - g1).toNat) ?_ ?_
  ·intro aj g1 dY bW;obtain ⟨dN,bO,bE⟩:=dY;unfold Oh;refine wi ?_ ?_<;>intro c2
   ·refine wn<|bJ ?_ ?_<;>intro c3
    ·have jJ:=c3;have c3:=nr c3;refine av ?_;(unfold eD; rw [yu (p:=UH) au (show g1.toNat<l_.length by omega) (show UH _=true from jJ),Bool.or_true]; rfl)
    ·have jJ:=c3;have c3:=nr c3;refine wn<|bW _ ?_ ?_
     ·(refine ⟨ob,ob,dU bE dN jJ⟩)
     ·exact ob
   ·have hbig:=any_none (p:=UH) au (λ j hj=>bE j om);have hb3:(decide (16<(l_.length:Int))||l_.any UH)=false:=(by rw [gQ,hbig]; rfl);refine bI (λ (g2:Int)=>0≤g2∧g2≤l_.length∧Wy g2.toNat (l_.drop g2.toNat)=Wy 0 l_) (λ (g2:Int)=>(l_.length - g2).toNat) ?_ ?_
    ·intro dK g2 nk qL;obtain ⟨rG,jD,mV⟩:=nk;unfold LA;obtain ⟨i,rfl⟩:=Int.eq_ofNat_of_zero_le rG;refine wi ?_ ?_<;>intro c4
     ·have hlt:i<l_.length:=om;have hb:=bE i om;have hbl:(l_.getD i au).bK.length≤16:=(by unfold UH at hb; have:=of_decide_eq_false hb; omega);rw [show ((i:Int).toNat)=i from rfl,drop_cons au hlt,Wy] at mV;simp only [Int.toNat_natCast] at *;refine wm<|aF (qm) λ v13 Yq=>?_;subst v13;refine aF (gX λ hc=>l5 (qm)) λ v14 UD=>?_;subst v14;refine aF (gX λ hc=>l5 (qm)) λ v15 QN=>?_;subst v15;refine bJ ?_ ?_<;>intro c5
      ·have Bu:=c5;have c5:=nr c5;rw [aiz] at Bu;refine av ?_;(unfold eD; rw [hb3,← mV]; unfold zL; rw [show X6 (l_.getD i au) i=true from Bu]; rfl)
      ·have Bu:=c5;have c5:=nr c5;rw [aiz] at Bu;refine bI (λ (g5:Int)=>0≤g5∧g5≤(l_.getD i au).bK.length∧O9 (if g5.toNat=0 then 0 else (l_.getD i au).bK.getD (g5.toNat - 1) 0) ((l_.getD i au).bK.drop g5.toNat)=O9 0 (l_.getD i au).bK) (λ (g5:Int)=>((l_.getD i au).bK.length - g5).toNat) ?_ ?_
       ·intro ku g5 WI WJ;obtain ⟨RS,ED,Mk⟩:=WI;unfold Lx;obtain ⟨k,rfl⟩:=Int.eq_ofNat_of_zero_le RS;simp only [Int.toNat_natCast] at *;refine wi ?_ ?_<;>intro c6
        ·have hlk:k<(l_.getD i au).bK.length:=om;have hst:=afG hlk rfl;rw [hst] at Mk;have e1:(((k:Int) - 1).toNat)=k - 1:=om;simp only [e1,Int.toNat_natCast] at *;refine wn<|aF (qm) λ v18 ama=>?_;subst v18;refine wm<|bJ ?_ ?_<;>intro c7
         ·have X8:=c7;have c7:=nr c7;refine av ?_;(unfold eD; rw [hb3,← mV]; unfold zL; rw [show X6 (l_.getD i au) i=false from Bu,← Mk,X8]; rfl)
         ·have X8:=c7;have c7:=nr c7;refine wn<|WJ _ ?_ ?_
          ·(refine ⟨ob,ob,?_⟩; rw [← Mk,X8]; rw [show ((k:Int)+1).toNat=k+1 by omega,if_neg om]; rfl)
          ·exact ob
        ·refine wn<|qL _ ?_ ?_
         ·(refine ⟨ob,ob,?_⟩; rw [← mV]; unfold zL; rw [show X6 (l_.getD i au) i=false from Bu,← Mk,show k=(l_.getD i au).bK.length by omega,List.drop_length,show ((i:Int)+1).toNat=i+1 by omega]; rfl)
         ·exact ob
       ·(refine ⟨ob,ob,rfl⟩)
     ·refine av ?_;(unfold eD; rw [hb3,← mV,show ((i:Int).toNat)=i from rfl,show i=l_.length by omega,List.drop_length]; rfl)
    ·(refine ⟨ob,ob,rfl⟩)
  ·(refine ⟨ob,ob,λ j hj=>by omega⟩)
variable {d_:List bf}
theorem RU (h1:l_.length≤2000000) (h2:d_.length≤2000000):W (Bd l_ d_) (λ r=>r=iB l_ d_):=by
 unfold Bd;refine aF (Ao ob) λ v1 hv1=>?_;subst v1;refine bJ ?_ ?_<;>intro c1
 ·have gQ:=c1;have c1:=nr c1;exact av ((al9 gQ).symm)
 ·have gQ:=c1;have c1:=nr c1;have hdf:=ajO gQ;refine bI (λ (g1:Int)=>0≤g1∧g1≤d_.length∧(d_.drop g1.toNat).any (aaI l_.length)=d_.any (aaI l_.length)) (λ (g1:Int)=>(d_.length - g1).toNat) ?_ ?_
  ·intro aj g1 dY bW;obtain ⟨dN,bO,bE⟩:=dY;unfold Ox;refine wi ?_ ?_<;>intro c2
   ·have hlt:g1.toNat<d_.length:=om;rw [drop_cons dH hlt,List.any_cons] at bE;refine wm<|aF (qm) λ v8 vU=>?_;subst v8;refine aF (gX λ hc=>l5 (qm)) λ v9 Wx=>?_;subst v9;refine aF (gX λ hc=>l5 (qm)) λ v10 Ji=>?_;subst v10;refine bJ ?_ ?_<;>intro c3
    ·have jJ:=c3;have c3:=nr c3;have hb:=(afH l_.length (d_.getD g1.toNat dH)).symm.trans jJ;refine av ?_;(rw [hdf,← bE,hb]; rfl)
    ·have jJ:=c3;have c3:=nr c3;have hb:=(afH l_.length (d_.getD g1.toNat dH)).symm.trans jJ;refine wn<|bW _ ?_ ?_
     ·(refine ⟨ob,ob,?_⟩; rw [← bE,hb,show (g1+1).toNat=g1.toNat+1 by omega]; rfl)
     ·exact ob
   ·refine av ?_;(rw [hdf,← bE,show g1.toNat=d_.length by omega,List.drop_length]; rfl)
  ·(refine ⟨ob,ob,rfl⟩)
theorem abQ (h1:l_.length≤2000000) (h2:d_.length≤2000000):W (F7 l_ d_) (λ r=>r=qj l_ d_):=by
 unfold F7;refine aF (Ao ob) λ v1 hv1=>?_;subst v1;refine bJ ?_ ?_<;>intro c1
 ·have gQ:=c1;have c1:=nr c1;refine av ?_;(unfold qj; rw [gQ]; rfl)
 ·have gQ:=c1;have c1:=nr c1;refine aF (RU ob ob) λ v2 hv2=>?_;subst v2;refine bJ ?_ ?_<;>intro c2
  ·have kr:=c2;have c2:=nr c2;refine av ?_;(unfold qj; rw [gQ,kr]; rfl)
  ·have kr:=c2;have c2:=nr c2;refine av ?_;(unfold qj; rw [gQ,kr]; rfl)
theorem UY (h1:Ko l_ d_):W (Es l_ d_) (λ r=>r=fI l_ d_):=by
 have hv:=h1;obtain ⟨vl,vd,vs,_,vx⟩:=h1;unfold Es;refine wm<|bI (λ (g1:Int×List Bool) => -1≤g1.1∧g1.1<l_.length∧RQ l_ d_ (l_.length - 1 - g1.1).toNat g1.2) (λ (g1:Int×List Bool)=>(g1.1+1).toNat) ?_ ?_
 ·intro aj g1 dY bW;obtain ⟨dN,bO,bE⟩:=dY;unfold RG;have hbl:=bE.len;refine wi ?_ ?_<;>intro c1
  ·have hst:=bE.step hv (show (l_.length - 1 - g1.1).toNat<l_.length by omega);have hp:=vs g1.1.toNat om;rw [show l_.length - 1 - ((l_.length:Int) - 1 - g1.1).toNat=g1.1.toNat by omega,show ((l_.length:Int) - 1 - g1.1).toNat+1=((l_.length:Int) - 1 - (g1.1 - 1)).toNat by omega] at hst;refine wm<|wn ?_;refine bI (λ (g4:Int×List Bool)=>0≤g4.1∧g4.1≤d_.length∧g4.2=g1.2.set g1.1.toNat (g1.2.getD g1.1.toNat false||(l_.getD g1.1.toNat au).fM||Qy (d_.take g4.1.toNat) g1.1.toNat)) (λ (g4:Int×List Bool)=>(d_.length - g4.1).toNat) ?_ ?_
   ·intro jq g4 Kw Jj;obtain ⟨Gj,mq,UZ⟩:=Kw;unfold RF;have aup:g4.2.length=l_.length:=(by rw [UZ,List.length_set,hbl]);refine wi ?_ ?_<;>intro c2
    ·refine wm<|wm ?_;refine Jj _ ?_ ?_
     ·(refine ⟨ob,ob,?_⟩; dsimp only; rw [show (g4.1+1).toNat=g4.1.toNat+1 by omega,UZ]; exact an6 om om om)
     ·exact ob
    ·have afT:g4.2=g1.2.set g1.1.toNat (g1.2.getD g1.1.toNat false||(l_.getD g1.1.toNat au).fM||Qy d_ g1.1.toNat):=(by rw [UZ,show g4.1.toNat=d_.length by omega,List.take_length]);have hgi:g4.2.getD g1.1.toNat false=(g1.2.getD g1.1.toNat false||(l_.getD g1.1.toNat au).fM||Qy d_ g1.1.toNat):=(by rw [afT,fZ,if_pos ⟨rfl,om⟩]);refine wm<|bJ ?_ ?_<;>intro c3
     ·have jJ:=c3;have c3:=nr c3;have c3b:=jJ;rw [hgi] at c3b;refine wm<|bW _ ?_ ?_
      ·(refine ⟨ob,ob,?_⟩; dsimp only; unfold UL at hst; rw [c3b] at hst; rw [afT]; exact hst)
      ·exact ob
     ·have jJ:=c3;have c3:=nr c3;have c3b:=jJ;rw [hgi] at c3b;refine wn<|bW _ ?_ ?_
      ·(refine ⟨ob,ob,?_⟩; dsimp only; unfold UL at hst; rw [c3b] at hst; rw [afT]; exact hst)
      ·exact ob
   ·(refine ⟨ob,ob,?_⟩; dsimp only; rw [show (0:Int).toNat=0 from rfl,List.take_zero,show Qy [] g1.1.toNat=false from rfl,Bool.or_false])
  ·exact av (RQ.done (by rw [show l_.length=((l_.length:Int) - 1 - g1.1).toNat by omega]; exact bE))
 ·(refine ⟨ob,ob,?_⟩; dsimp only; rw [show ((l_.length:Int) - 1 - (l_.length - 1)).toNat=0 by omega]; exact RQ.start hv)
theorem abR {s_:ay} {v_:Int} (h1:s_.bK.length≤2000000):W (F8 s_ v_) (λ r=>r=(bif decide (lvN s_.bK v_<s_.bK.length) then (lvN s_.bK v_:Int) else -1)):=by
 unfold F8;refine bI (λ (g1:Int)=>0≤g1∧g1≤s_.bK.length∧(∀j:Nat,(j:Int)<g1→s_.bK.getD j 0<v_)) (λ (g1:Int)=>(s_.bK.length - g1).toNat) ?_ ?_
 ·intro aj g1 dY bW;obtain ⟨dN,bO,bE⟩:=dY;unfold Oy;refine wi ?_ ?_<;>intro c1
  ·refine wn<|wi ?_ ?_<;>intro c2
   ·refine av ?_;(rw [← ahw (k:=g1.toNat) om (λ j hj=>bE j om) (λ _=>c2),decide_eq_true om]; simp only [cond_true]; omega)
   ·refine wn<|bW _ ?_ ?_
    ·(refine ⟨ob,ob,dU bE dN c2⟩)
    ·exact ob
  ·refine av ?_;(rw [← ahw (k:=g1.toNat) om (λ j hj=>bE j om) (λ h=>by omega),decide_eq_false om]; rfl)
 ·(refine ⟨ob,ob,λ j hj=>by omega⟩)
theorem Ap {r_:cu} {k_:Int} (h1:0≤k_) (h2:k_<l_.length) (h3:Rok l_ r_):W (sJ l_ r_ k_) (λ r=>r=nu l_ r_ k_.toNat):=by
 obtain ⟨r1,r2,r3⟩:=h3;have r4:=r3 k_.toNat om;unfold sJ;refine wm<|wn ?_;refine av ?_;rfl
variable {r:cu} {u:List Bool} {ld:List Int}
theorem auq (h:(u.getD i false&&!r.On.getD i false)=true):Pb l r u ld i=true:=by
 simp only [Bool.and_eq_true] at h;unfold Pb;rw [h.1,h.2]; rfl
theorem aur (h:(u.getD i false&&!r.On.getD i false)=false) (h2:(!r.On.getD i false)=true):Pb l r u ld i=false:=by
 rw [h2,Bool.and_true] at h;unfold Pb;rw [h2,h]; rfl
theorem arL (h2:(!r.On.getD i false)=false):Pb l r u ld i=(decide ((l.getD i au).iy<ld.getD i 0)||(decide (0≤(l.getD i au).aM)&&(!r.On.getD (l.getD i au).aM.toNat false||decide (nu l r (l.getD i au).aM.toNat<nu l r i+(l.getD i au).gB)))):=by
 unfold Pb;rw [h2,Bool.or_comm]; rfl
theorem afU (hi:i<l.length) (h:Pb l r (fI l d) (lG l d) i=true):yD l r d=false:=by
 unfold yD;rw [BQ hi (by rw [h]; rfl)];rfl
theorem afV (h:∀i,i<l.length→Pb l r (fI l d) (lG l d) i=false):yD l r d=!(d.any (aaJ l r)):=by
 unfold yD;rw [Pd λ j hj=>(by rw [h j hj]; rfl)];rfl
variable {s:DS}
theorem acP (h:(!u.getD i false)=true):wM l u i s=false:=by
 unfold wM;rw [show u.getD i false=false by simpa using h];rfl
theorem amb {a n:Nat} (h:decide ((bif decide (a<n) then (a:Int) else -1)<0)=true):decide (a<n)=false:=by
 cases hd:decide (a<n) with
 | false=>rfl
 | true=>rw [hd] at h; have:=of_decide_eq_true h; simp only [cond_true] at this; omega
theorem amc {a n:Nat} (h:decide ((bif decide (a<n) then (a:Int) else -1)<0)=false):decide (a<n)=true:=by
 cases hd:decide (a<n) with
 | true=>rfl
 | false=>rw [hd] at h; cases h
theorem ahF (h0:(qj l d != 0)=false) (e:(s,(i:Int))=Jc l d):(Sz,9)=iL l d:=by
 unfold iL;rw [h0,← e,decide_eq_true (show (0:Int)≤(s,(i:Int)).2 by dsimp only; omega)];rfl
theorem acQ (h0:(qj l d != 0)=false) (hdr:iB l d=true) (e:(s,(-1:Int))=Jc l d) (hr:Rok l ⟨fI l d,s.lv⟩):iL l d=bif !yD l ⟨fI l d,s.lv⟩ d then (Sz,9) else (⟨fI l d,s.lv⟩,0):=by
 unfold iL;have hmf:fq l ⟨fI l d,s.lv⟩ d=yD l ⟨fI l d,s.lv⟩ d:=by
  unfold fq;rw [DY.2 ⟨Pe hdr,hr⟩,hdr];rfl
 rw [h0,← e];simp only [show decide ((0:Int) ≤ -1)=false from rfl,Bool.false_or,hmf,cond_false]
theorem amd (hu:u.getD i false=true) (hi:i<s.lv.length):nu l ⟨u,(BR l u i s).lv⟩ i+(l.getD i au).gB=mQ l i s:=by
 unfold nu mQ BR;rw [hu];simp only [Bool.not_true,cond_false];rw [fZ,if_pos ⟨rfl,hi⟩];rfl
theorem afW (hu:u.getD i false=true) (hp:decide (0≤(l.getD i au).aM)=true):(BS s.a).set (l.getD i au).aM.toNat (if mQ l i s > (BS s.a).getD (l.getD i au).aM.toNat 0 then mQ l i s else (BS s.a).getD (l.getD i au).aM.toNat 0)=BS (BR l u i s).a:=by
 unfold BR;rw [hu,hp,EB];simp only [Bool.not_true,cond_false,Bool.true_and];by_cases h:(s.a.getD (l.getD i au).aM.toNat O8).yB<mQ l i s
 ·rw [decide_eq_true h,cond_true,afQ,if_pos h]
 ·rw [decide_eq_false h,cond_false,if_neg h,afR _ _ _ (EB _ _).symm]
theorem ajP (hp:decide (0≤(l.getD i au).aM)=false):BS s.a=BS (BR l u i s).a:=by
 unfold BR;rw [hp];cases u.getD i false<;>rfl
theorem afX (h:(!u.getD i false)=true):BR l u i s=s:=by
 unfold BR;rw [h];rfl
theorem abS (h1:Ko l_ d_):W (F9 l_ d_) (λ r=>r=lG l_ d_):=by
 have hv:=h1;obtain ⟨vl,vd,vs,_,vx⟩:=h1;unfold F9;refine wm<|bI (λ (g1:Int×List Int) => -1≤g1.1∧g1.1<l_.length∧Mi l_ d_ (l_.length - 1 - g1.1).toNat g1.2) (λ (g1:Int×List Int)=>(g1.1+1).toNat) ?_ ?_
 ·intro aj g1 dY bW;obtain ⟨dN,bO,bE⟩:=dY;unfold OA;have hbl:=bE.len;have hsm:=bE.small hv om;refine wi ?_ ?_<;>intro c1
  ·have hst:=bE.step hv (show (l_.length - 1 - g1.1).toNat<l_.length by omega);have hp:=vs g1.1.toNat om;rw [show l_.length - 1 - ((l_.length:Int) - 1 - g1.1).toNat=g1.1.toNat by omega,show ((l_.length:Int) - 1 - g1.1).toNat+1=((l_.length:Int) - 1 - (g1.1 - 1)).toNat by omega] at hst;refine bI (λ (g4:Int×List Int)=>0≤g4.1∧g4.1≤d_.length∧g4.2=g1.2.set g1.1.toNat (g1.2.getD g1.1.toNat 0+wT (d_.take g4.1.toNat) g1.1.toNat)) (λ (g4:Int×List Int)=>(d_.length - g4.1).toNat) ?_ ?_
   ·intro jq g4 Kw Jj;obtain ⟨Gj,mq,UZ⟩:=Kw;unfold Oz;have aup:g4.2.length=l_.length:=(by rw [UZ,List.length_set,hbl]);refine wi ?_ ?_<;>intro c2
    ·have hx:=vx _ (jh dH (show g4.1.toNat<d_.length by omega));have hdb:=UM (d:=d_) (λ x hx=>by have:=vx x hx; omega) g1.1.toNat g4.1.toNat om;have hbi:=hsm g1.1.toNat;have hgi:g4.2.getD g1.1.toNat 0=g1.2.getD g1.1.toNat 0+wT (d_.take g4.1.toNat) g1.1.toNat:=(by rw [UZ,fZ,if_pos ⟨rfl,om⟩]);refine wn<|bJ ?_ ?_<;>intro c3
     ·have jJ:=c3;have c3:=nr c3;refine wm<|wm ?_;refine Jj _ ?_ ?_
      ·(refine ⟨ob,ob,?_⟩; dsimp only; rw [show (g4.1+1).toNat=g4.1.toNat+1 by omega,hgi,UZ,List.set_set,Wz om,show ((g1.1.toNat:Int))=g1.1 by omega,jJ]; simp only [cond_true]; rw [Int.add_assoc])
      ·exact ob
     ·have jJ:=c3;have c3:=nr c3;refine wn<|Jj _ ?_ ?_
      ·(refine ⟨ob,ob,?_⟩; dsimp only; rw [show (g4.1+1).toNat=g4.1.toNat+1 by omega,UZ,Wz om,show ((g1.1.toNat:Int))=g1.1 by omega,jJ]; rfl)
      ·exact ob
    ·have hdb:=UM (d:=d_) (λ x hx=>by have:=vx x hx; omega) g1.1.toNat d_.length (Nat.le_refl _);rw [List.take_length] at hdb;have afT:g4.2=g1.2.set g1.1.toNat (g1.2.getD g1.1.toNat 0+wT d_ g1.1.toNat):=(by rw [UZ,show g4.1.toNat=d_.length by omega,List.take_length]);have hgi:g4.2.getD g1.1.toNat 0=g1.2.getD g1.1.toNat 0+wT d_ g1.1.toNat:=(by rw [afT,fZ,if_pos ⟨rfl,om⟩]);have hbi:=hsm g1.1.toNat;refine wn<|bJ ?_ ?_<;>intro c4
     ·have sO:=c4;have c4:=nr c4;have hgp:g4.2.getD (l_.getD g1.1.toNat au).aM.toNat 0=g1.2.getD (l_.getD g1.1.toNat au).aM.toNat 0:=(by rw [afT,fZ,if_neg om]);have hbp:=hsm (l_.getD g1.1.toNat au).aM.toNat;refine wm<|wm ?_;refine wn<|bW _ ?_ ?_
      ·(refine ⟨ob,ob,?_⟩; dsimp only; unfold Qz at hst; rw [sO] at hst; rw [hgi,hgp,afT]; exact hst)
      ·exact ob
     ·have sO:=c4;have c4:=nr c4;refine wn<|bW _ ?_ ?_
      ·(refine ⟨ob,ob,?_⟩; dsimp only; unfold Qz at hst; rw [sO] at hst; rw [afT]; exact hst)
      ·exact ob
   ·(refine ⟨ob,ob,?_⟩; dsimp only; rw [show (0:Int).toNat=0 from rfl,List.take_zero,show wT [] g1.1.toNat=0 from rfl,Int.add_zero,set_self])
  ·exact av (Mi.done (by rw [show l_.length=((l_.length:Int) - 1 - g1.1).toNat by omega]; exact bE))
 ·(refine ⟨ob,ob,?_⟩; dsimp only; rw [show ((l_.length:Int) - 1 - (l_.length - 1)).toNat=0 by omega]; exact Mi.start hv)
theorem RX {r_:cu} (h1:Ko l_ d_) (h2:Rok l_ r_):W (Bf l_ r_ d_) (λ r=>r=yD l_ r_ d_):=by
 have hv:=h1;have hr:=h2;have hvb:=λ i hi=>UK hv hr i hi;have hul:=tL l_ d_;have hll:=Td l_ d_;obtain ⟨vl,vd,vs,_,vx⟩:=h1;obtain ⟨r1,r2,r3⟩:=h2;unfold Bf;refine aF (UY ob) λ v1 hv1=>?_;subst v1;refine aF (abS ob) λ v2 hv2=>?_;subst v2;refine bI (λ (g1:Int)=>0≤g1∧g1≤l_.length∧(∀j:Nat,(j:Int)<g1→Pb l_ r_ (fI l_ d_) (lG l_ d_) j=false)) (λ (g1:Int)=>(l_.length - g1).toNat) ?_ ?_
 ·intro aj g1 dY bW;obtain ⟨dN,bO,bE⟩:=dY;unfold OB;refine wi ?_ ?_<;>intro c1
  ·have hp:=vs g1.toNat om;have hv1:=hvb g1.toNat om;have hv2:=hvb (l_.getD g1.toNat au).aM.toNat;refine wm<|wn ?_;refine bJ ?_ ?_<;>intro c2
   ·have kr:=c2;have c2:=nr c2;exact av ((afU (i:=g1.toNat) om (auq kr)).symm)
   ·have kr:=c2;have c2:=nr c2;refine wn<|bJ ?_ ?_<;>intro c3
    ·have jJ:=c3;have c3:=nr c3;refine wn<|bW _ ?_ ?_
     ·(refine ⟨ob,ob,dU bE dN (aur kr jJ)⟩)
     ·exact ob
    ·have jJ:=c3;have c3:=nr c3;refine wn<|aO (by (intro _ q; have:=of_decide_eq_true q; omega)) ?_;refine aF (gX λ hc hc2 hc3=>l5 (Ap (of_decide_eq_true hc2) (by have:=of_decide_eq_true hc2; omega) hr)) λ v7 hv7=>?_;subst v7;refine aF (gX λ hc hc2 hc3=>l5 (Ap om om hr)) λ v8 vU=>?_;subst v8;refine aO (by (intro _ q; have:=of_decide_eq_true q; have:=hv2 om; unfold aG; omega)) ?_;refine bJ ?_ ?_<;>intro c4
     ·have sO:=c4;have c4:=nr c4;exact av ((afU (i:=g1.toNat) om ((arL jJ).trans sO)).symm)
     ·have sO:=c4;have c4:=nr c4;refine wn<|bW _ ?_ ?_
      ·(refine ⟨ob,ob,dU bE dN ((arL jJ).trans sO)⟩)
      ·exact ob
  ·refine bI (λ (g2:Int)=>0≤g2∧g2≤d_.length∧(d_.drop g2.toNat).any (aaJ l_ r_)=d_.any (aaJ l_ r_)) (λ (g2:Int)=>(d_.length - g2).toNat) ?_ ?_
   ·intro dK g2 nk qL;obtain ⟨rG,jD,mV⟩:=nk;unfold LP;refine wi ?_ ?_<;>intro c5
    ·have hlt:g2.toNat<d_.length:=om;have hx:=vx _ (jh dH hlt);rw [drop_cons dH hlt,List.any_cons] at mV;refine wn<|aF (Ap hx.1 hx.2.1 hr) λ v13 Yq=>?_;subst v13;refine aF (qm) λ v14 UD=>?_;subst v14;refine bJ ?_ ?_<;>intro c6
     ·have c6o:=c6;have c6:=nr c6;refine av ?_;(rw [afV (λ j hj=>bE j om),← mV,show aaJ l_ r_ (d_.getD g2.toNat dH)=true from c6o]; rfl)
     ·have c6o:=c6;have c6:=nr c6;refine wn<|qL _ ?_ ?_
      ·(refine ⟨ob,ob,?_⟩; rw [← mV,show aaJ l_ r_ (d_.getD g2.toNat dH)=false from c6o,show (g2+1).toNat=g2.toNat+1 by omega]; rfl)
      ·exact ob
    ·refine av ?_;(rw [afV (λ j hj=>bE j om),← mV,show g2.toNat=d_.length by omega,List.drop_length]; rfl)
   ·(refine ⟨ob,ob,rfl⟩)
 ·(refine ⟨ob,ob,λ j hj=>by omega⟩)
theorem RY (h1:l_.length≤2000000) (h2:d_.length≤2000000):W (Bg l_ d_) (λ r=>r=iL l_ d_):=by
 unfold Bg;refine aF (abQ ob ob) λ v1 hv1=>?_;subst v1;refine bJ ?_ ?_<;>intro c1
 ·have gQ:=c1;have c1:=nr c1;refine av ?_;(unfold iL; rw [gQ]; rfl)
 ·have gQ:=c1;have c1:=nr c1;have hdr:=afL (show qj l_ d_=0 by simpa using gQ);have hv:=sP hdr;obtain ⟨vl,vd,vs,vlv,vx⟩:=id hv;have hul:=tL l_ d_;refine aF (UY hv) λ v2 hv2=>?_;subst v2;refine wm<|bI (λ (g1:Int×List Int×List Int)=>0≤g1.1∧g1.1≤d_.length∧g1.2.1=BS (yE l_.length d_ g1.1.toNat)∧g1.2.2=List.replicate l_.length 0) (λ (g1:Int×List Int×List Int)=>(d_.length - g1.1).toNat) ?_ ?_
  ·intro aj g1 dY bW;obtain ⟨dN,bO,bE,jB⟩:=dY;unfold OC;have hgl:g1.2.1.length=l_.length:=(by rw [bE,UQ,QA]);refine wi ?_ ?_<;>intro c2
   ·have hx:=vx _ (jh dH (show g1.1.toNat<d_.length by omega));refine wm<|wm ?_;refine bW _ ?_ ?_
    ·(refine ⟨ob,ob,?_,jB⟩; dsimp only; rw [show (g1.1+1).toNat=g1.1.toNat+1 by omega,Tg,bE])
    ·exact ob
   ·refine wn<|bI (λ (g2:Int×List Int×List Int) => -1≤g2.1∧g2.1<l_.length∧∃s:DS,g2.2.1=BS s.a∧g2.2.2=s.lv∧DOk l_ s∧anY l_ s∧QT l_ (fI l_ d_) (g2.1+1).toNat s=Jc l_ d_) (λ (g2:Int×List Int×List Int)=>(g2.1+1).toNat) ?_ ?_
    ·intro dK g2 nk qL;obtain ⟨rG,jD,mV⟩:=nk;unfold LQ;obtain ⟨s,e1,e2,e3,e4,e5⟩:=mV;have hal:g2.2.1.length=l_.length:=(by rw [e1,UQ,e3.al]);have hll:g2.2.2.length=l_.length:=(by rw [e2,e3.ll]);refine wi ?_ ?_<;>intro c3
     ·have hp:=vs g2.1.toNat om;rw [show (g2.1+1).toNat=g2.1.toNat+1 by omega,QT] at e5;refine wn<|bJ ?_ ?_<;>intro c4
      ·have sO:=c4;have c4:=nr c4;refine wn<|qL _ ?_ ?_
       ·(refine ⟨ob,ob,s,e1,e2,e3,e4,?_⟩; dsimp only; rw [show (g2.1 - 1+1).toNat=g2.1.toNat by omega]; rw [acP sO,afX sO] at e5; exact e5)
       ·exact ob
      ·have sO:=c4;have c4:=nr c4;have hu:(fI l_ d_).getD g2.1.toNat false=true:=(by simpa using sO);refine wm<|aF (abR ob) λ v11 ad2=>?_;subst v11;rw [e1,EB,show lvN (l_.getD g2.1.toNat au).bK (s.a.getD g2.1.toNat O8).yB=uy l_ g2.1.toNat s from rfl];have hgs:(g2.2.2.set g2.1.toNat (bif decide (uy l_ g2.1.toNat s<(l_.getD g2.1.toNat au).bK.length) then (uy l_ g2.1.toNat s:Int) else -1)).getD g2.1.toNat 0=(bif decide (uy l_ g2.1.toNat s<(l_.getD g2.1.toNat au).bK.length) then (uy l_ g2.1.toNat s:Int) else -1):=(by rw [fZ,if_pos ⟨rfl,om⟩]);refine wn ?_;unfold BO;refine wn<|bJ ?_ ?_<;>intro c5
       ·have Bu:=c5;have c5:=nr c5;rw [hgs] at Bu;have h5:=amb Bu;have h6:decide ((uy l_ g2.1.toNat s:Int)<(l_.getD g2.1.toNat au).bK.length)=false:=(by simpa using h5);exact av (ahF gQ (by unfold wM at e5; rw [hu,h6] at e5; exact e5))
       ·have Bu:=c5;have c5:=nr c5;rw [hgs] at Bu;have h5:=amc Bu;have h6:decide ((uy l_ g2.1.toNat s:Int)<(l_.getD g2.1.toNat au).bK.length)=true:=(by simpa using h5);have hf:wM l_ (fI l_ d_) g2.1.toNat s=false:=(by unfold wM; rw [hu,h6]; rfl);rw [hf] at e5;have hlo:=adX (u:=fI l_ d_) (i:=g2.1.toNat) e3;have hlv:=an3 hf e4;have hR:=al5 hul hlo hlv;have hs:(BR l_ (fI l_ d_) g2.1.toNat s).lv=s.lv.set g2.1.toNat (uy l_ g2.1.toNat s:Int):=(by unfold BR; rw [hu]; rfl);have hvo:=amd (l:=l_) (u:=fI l_ d_) hu (show g2.1.toNat<s.lv.length by rw [e3.ll]; omega);have hvb:=UK hv hR g2.1.toNat om;rw [h5]; simp only [cond_true]; rw [e2,← hs];refine wn<|bJ ?_ ?_<;>intro c6
        ·have c6o:=c6;have c6:=nr c6;refine wn<|aF (Ap om om hR) λ v10 Ji=>?_;subst v10;refine wn<|aO (by (unfold aG; omega)) ?_;refine wm<|qL _ ?_ ?_
         ·(refine ⟨ob,ob,BR l_ (fI l_ d_) g2.1.toNat s,?_,rfl,hlo,hlv,?_⟩; (dsimp only; rw [hvo,e1]; exact afW hu c6o); (dsimp only; rw [show (g2.1 - 1+1).toNat=g2.1.toNat by omega]; exact e5))
         ·exact ob
        ·have c6o:=c6;have c6:=nr c6;refine wn<|qL _ ?_ ?_
         ·(refine ⟨ob,ob,BR l_ (fI l_ d_) g2.1.toNat s,?_,rfl,hlo,hlv,?_⟩; (dsimp only; rw [e1]; exact ajP c6o); (dsimp only; rw [show (g2.1 - 1+1).toNat=g2.1.toNat by omega]; exact e5))
         ·exact ob
     ·rw [show (g2.1+1).toNat=0 by omega,QT] at e5;have hrk:Rok l_ ⟨fI l_ d_,g2.2.2⟩:=(by rw [e2]; exact al5 hul e3 e4);refine aF (RX hv hrk) λ v12 MR=>?_;subst v12;refine bJ ?_ ?_<;>intro c7
      ·have X8:=c7;have c7:=nr c7;refine av ?_;(rw [acQ gQ hdr e5 (by rw [← e2]; exact hrk),← e2,X8]; rfl)
      ·have X8:=c7;have c7:=nr c7;refine av ?_;(rw [acQ gQ hdr e5 (by rw [← e2]; exact hrk),← e2,X8]; rfl)
    ·(refine ⟨ob,ob,ds0 l_ d_,?_,jB,ahx _ _,?_,?_⟩; (dsimp only; rw [bE,show g1.1.toNat=d_.length by omega]; rfl); (intro j hj; show 0≤(List.replicate l_.length (0:Int)).getD j 0∧(List.replicate l_.length (0:Int)).getD j 0<_; rw [mP]; have:=vs j hj; omega); (dsimp only; rw [show ((l_.length:Int) - 1+1).toNat=l_.length by omega]; rfl))
  ·(refine ⟨ob,ob,?_,rfl⟩; show _=BS (List.replicate l_.length (⟨0,-1,-1⟩:Dem)); unfold BS; rw [List.map_replicate]; rfl)
end Go.Proofs.YtccjmcmolnbiiaaGreatDoor.Sp
namespace Go.Proofs.YtccjmcmolnbiiaaGreatDoor
open Go.Ab
set_option maxRecDepth 100000
theorem afY (n lo hi:Int) (b:Bool):(((decide (n<lo))||(decide (hi<n)))||b)=(!(dL n lo hi)||b):=by
 unfold dL;congr 1;by_cases h1:n<lo<;>by_cases h2:hi<n<;>simp [h1,h2]<;>omega
theorem ajQ {l:List Int} {x y:Int} (h:l.contains x=false) (hy:¬ y=x):(l++[y]).contains x=false:=by
 rw [List.contains_eq_any_beq] at h ⊢;rw [List.any_append,h];simpa using λ e=>hy e.symm
theorem ahG (n:Nat):decide ((1:Int)≤(n:Int))=decide ((0:Int)<(n:Int)):=by
 rw [decide_eq_decide]; omega
theorem aus {c:aI}:((decide ((1:Int)≤(c.aP.length:Int))&&decide ((0:Int)<(c.aN.length:Int)))&&(yj 0 ((c.aP.length:Int) - 1) [] c.aN))=(decide (0<(c.aN.length:Int))&&yj 0 ((c.aP.length:Int) - 1) [] c.aN):=by
 by_cases h:1≤(c.aP.length:Int)
 ·rw [decide_eq_true h,Bool.true_and]
 ·rw [decide_eq_false h,Bool.false_and,Bool.false_and];symm;rw [Bool.and_eq_false_iff];by_cases h2:0<(c.aN.length:Int)
  ·right;cases hd:yj 0 ((c.aP.length:Int) - 1) [] c.aN with
   | false=>rfl
   | true=>have:=anR _ _ hd om; omega
  ·left; exact decide_eq_false h2
theorem ajR {l_:List Int} {x_:Int} (h1:l_.length≤2000000):W (Zm l_ x_) (λ r=>r=l_.contains x_):=by
 unfold Zm;refine bI (λ (g1:Int)=>0≤g1∧g1≤l_.length∧(l_.take g1.toNat).contains x_=false) (λ (g1:Int)=>(l_.length - g1).toNat) ?_ ?_
 ·intro aj g1 dY bW;obtain ⟨dN,bO,bE⟩:=dY;unfold aax;refine wi ?_ ?_<;>intro c1
  ·refine wn<|wi ?_ ?_<;>intro c2
   ·exact av ((List.elem_eq_true_of_mem (by rw [← c2]; exact getD_in 0 om)).symm)
   ·refine wn<|bW _ ?_ ?_
    ·(refine ⟨ob,ob,?_⟩; rw [show (g1+1).toNat=g1.toNat+1 by omega,gP 0 om]; exact ajQ bE c2)
    ·exact ob
  ·refine av ?_;(rw [show g1.toNat=l_.length by omega,List.take_length] at bE; exact bE.symm)
 ·(refine ⟨ob,ob,rfl⟩)
theorem afZ {a_:List Int} {b_:List Int} (h1:a_.length≤2000000):W (Iw a_ b_) (λ r=>r=(a_==b_)):=by
 unfold Iw;refine wi ?_ ?_<;>intro c1
 ·exact av ((DK c1).symm)
 ·refine bI (λ (g1:Int)=>0≤g1∧g1≤a_.length∧(a_==b_)=(a_.drop g1.toNat==b_.drop g1.toNat)) (λ (g1:Int)=>(a_.length - g1).toNat) ?_ ?_
  ·intro aj g1 dY bW;obtain ⟨dN,bO,bE⟩:=dY;unfold Ur;refine wi ?_ ?_<;>intro c2
   ·rw [drop_cons 0 (show g1.toNat<a_.length by omega),drop_cons 0 (show g1.toNat<b_.length by omega)] at bE;refine wm<|wi ?_ ?_<;>intro c3
    ·refine av ?_;(rw [bE,Zp c3])
    ·refine wn<|bW _ ?_ ?_
     ·(refine ⟨ob,ob,?_⟩; rw [bE,Zq c3,show (g1+1).toNat=g1.toNat+1 by omega])
     ·exact ob
   ·refine av ?_;(rw [bE,List.drop_eq_nil_of_le om,List.drop_eq_nil_of_le om]; rfl)
  ·(refine ⟨ob,ob,rfl⟩)
theorem yI {l_:List Int} {wR:Int} {yS:Int} (h1:l_.length≤2000000):W (lX l_ wR yS) (λ r=>r=yj wR yS [] l_):=by
 unfold lX;refine bI (λ (g1:Int)=>0≤g1∧g1≤l_.length∧yj wR yS (l_.take g1.toNat) (l_.drop g1.toNat)=yj wR yS [] l_) (λ (g1:Int)=>(l_.length - g1).toNat) ?_ ?_
 ·intro aj g1 dY bW;obtain ⟨dN,bO,bE⟩:=dY;unfold Ep;refine wi ?_ ?_<;>intro c1
  ·rw [drop_cons 0 (show g1.toNat<l_.length by omega)] at bE;refine wm<|aF (gX λ hc=>l5 (ajR ob)) λ v3 hv3=>?_;subst v3;refine bJ ?_ ?_<;>intro c2
   ·have kr:=c2;have c2:=nr c2;rw [afY] at kr;refine av ?_;(rw [← bE,Zn (pre:=l_.take g1.toNat) (n:=l_.getD g1.toNat 0) kr])
   ·have kr:=c2;have c2:=nr c2;rw [afY] at kr;refine wn<|bW _ ?_ ?_
    ·(refine ⟨ob,ob,?_⟩; rw [← bE,adP (pre:=l_.take g1.toNat) (n:=l_.getD g1.toNat 0) kr,show (g1+1).toNat=g1.toNat+1 by omega,gP 0 om])
    ·exact ob
  ·refine av ?_;(rw [← bE,List.drop_eq_nil_of_le om]; rfl)
 ·(refine ⟨ob,ob,rfl⟩)
theorem Yw {c_:aI} (h1:c_.aP.length≤2000000) (h2:c_.aN.length≤2000000):W (Ah c_) (λ r=>r=iZ c_):=by
 unfold Ah;refine bJ ?_ ?_<;>intro c1
 ·have gQ:=c1;have c1:=nr c1;refine aO (by (intro hc; simp only [Bool.and_eq_true,beq_iff_eq] at hc; omega)) ?_;refine aO (by (intro hc; simp only [Bool.and_eq_true,beq_iff_eq] at hc; omega)) ?_;refine av ?_;(unfold iZ; rw [gQ]; simp only [cond_true]; unfold dL; rw [Bool.and_assoc])
 ·have gQ:=c1;have c1:=nr c1;refine bJ ?_ ?_<;>intro c2
  ·have kr:=c2;have c2:=nr c2;refine bJ ?_ ?_<;>intro c3
   ·have jJ:=c3;have c3:=nr c3;refine aF (gX λ hc=>l5 (yI ob)) λ v1 hv1=>?_;subst v1;refine av ?_;(unfold iZ; rw [gQ,kr,ahG]; rfl)
   ·have jJ:=c3;have c3:=nr c3;rw [kr] at jJ; cases jJ
  ·have kr:=c2;have c2:=nr c2;refine bJ ?_ ?_<;>intro c4
   ·have sO:=c4;have c4:=nr c4;refine aF (gX λ hc=>l5 (yI ob)) λ v4 hv4=>?_;subst v4;refine av ?_;(unfold iZ; rw [gQ,kr,sO,ahG]; rfl)
   ·have sO:=c4;have c4:=nr c4;refine bJ ?_ ?_<;>intro c5
    ·have Bu:=c5;have c5:=nr c5;refine wn<|aF (gX λ hc=>l5 (yI ob)) λ v5 hv5=>?_;subst v5;refine av ?_;(unfold iZ; rw [gQ,kr,sO,Bu,ahG c_.aN.length]; exact aus)
    ·have Bu:=c5;have c5:=nr c5;refine bJ ?_ ?_<;>intro c6
     ·have c6o:=c6;have c6:=nr c6;refine bJ ?_ ?_<;>intro c7
      ·have X8:=c7;have c7:=nr c7;refine aF (gX λ hc=>l5 (afZ ob)) λ v6 hv6=>?_;subst v6;refine av ?_;(unfold iZ; rw [gQ,kr,sO,Bu,c6o]; rfl)
      ·have X8:=c7;have c7:=nr c7;refine av ?_;(unfold iZ; rw [gQ,kr,sO,Bu,c6o,show ((c_.aP.length:Int)==1)=false by simpa using X8]; rfl)
     ·have c6o:=c6;have c6:=nr c6;refine av ?_;(unfold iZ; rw [gQ,kr,sO,Bu,c6o]; rfl)
variable {l_:List aI}
theorem Yx (h1:l_.length≤1000) (h2:aiy l_):W (Ai l_) (λ r=>r=iN l_):=by
 unfold Ai;refine bI (λ (g1:Int×List Int)=>0≤g1.1∧g1.1≤l_.length∧g1.2=iN (l_.take g1.1.toNat)) (λ (g1:Int×List Int)=>(l_.length - g1.1).toNat) ?_ ?_
 ·intro aj g1 dY bW;obtain ⟨dN,bO,bE⟩:=dY;unfold Iz;have hfb:=jW (l_.take g1.1.toNat);rw [take_len om,← bE] at hfb;refine wi ?_ ?_<;>intro c1
  ·obtain ⟨hp1,hp2⟩:=h2 g1.1.toNat om;refine wn<|bI (λ (g6:Int×Int)=>0≤g6.2∧g6.2≤(l_.getD g1.1.toNat aK).aP.length∧g6.1=mo g1.2 ((l_.getD g1.1.toNat aK).aP.take g6.2.toNat)) (λ (g6:Int×Int)=>((l_.getD g1.1.toNat aK).aP.length - g6.2).toNat) ?_ ?_
   ·intro jH g6 Pj Ky;obtain ⟨Ml,wO,Mq⟩:=Pj;unfold Iy;have hpm:=Kl g1.2 g1.1.toNat om hfb.2 ((l_.getD g1.1.toNat aK).aP.take g6.2.toNat);rw [← Mq] at hpm;refine wi ?_ ?_<;>intro c2
    ·have hx:=hp2 _ (getD_in (i:=g6.2.toNat) 0 om);refine wm<|wn ?_;refine Ky _ ?_ ?_
     ·(refine ⟨ob,ob,?_⟩; dsimp only; rw [show (g6.2+1).toNat=g6.2.toNat+1 by omega]; unfold mo; rw [vJ _ _ 0 om,Mq]; rfl)
     ·exact ob
    ·have hpe:g6.1=mo g1.2 (l_.getD g1.1.toNat aK).aP:=(by rw [Mq,show g6.2.toNat=(l_.getD g1.1.toNat aK).aP.length by omega,List.take_length]);refine bJ ?_ ?_<;>intro c3
     ·have jJ:=c3;have c3:=nr c3;refine wn ?_;unfold nP;refine wm<|bW _ ?_ ?_
      ·(refine ⟨ob,ob,?_⟩; dsimp only; rw [show (g1.1+1).toNat=g1.1.toNat+1 by omega,gP aK om,DX,← bE]; unfold Kk SV; rw [jJ,hpe]; rfl)
      ·exact ob
     ·have jJ:=c3;have c3:=nr c3;unfold nP;refine wm<|bW _ ?_ ?_
      ·(refine ⟨ob,ob,?_⟩; dsimp only; rw [show (g1.1+1).toNat=g1.1.toNat+1 by omega,gP aK om,DX,← bE]; unfold Kk SV; rw [jJ,hpe]; rfl)
      ·exact ob
   ·(refine ⟨ob,ob,rfl⟩)
  ·refine av ?_;(rw [bE,show g1.1.toNat=l_.length by omega,List.take_length])
 ·(refine ⟨ob,ob,rfl⟩)
theorem Aq (h1:l_.length≤2000000):W (sG l_) (λ r=>r=eD l_):=by
 unfold sG;refine bJ ?_ ?_<;>intro c1
 ·have gQ:=c1;have c1:=nr c1;refine av ?_;(unfold eD; rw [gQ]; rfl)
 ·have gQ:=c1;have c1:=nr c1;refine bI (λ (g1:Int)=>0≤g1∧g1≤l_.length∧(∀j:Nat,(j:Int)<g1→SS (l_.getD j aK)=false)) (λ (g1:Int)=>(l_.length - g1).toNat) ?_ ?_
  ·intro aj g1 dY bW;obtain ⟨dN,bO,bE⟩:=dY;unfold Og;refine wi ?_ ?_<;>intro c2
   ·refine wn<|bJ ?_ ?_<;>intro c3
    ·have jJ:=c3;have c3:=nr c3;refine av ?_;(unfold eD; rw [yu (p:=SS) aK (show g1.toNat<l_.length by omega) (show SS _=true from jJ),Bool.or_true]; rfl)
    ·have jJ:=c3;have c3:=nr c3;refine wn<|bW _ ?_ ?_
     ·(refine ⟨ob,ob,dU bE dN jJ⟩)
     ·exact ob
   ·have hb4:∀i:Nat,i<l_.length→SS (l_.getD i aK)=false:=λ j hj=>bE j om;have hbig:=any_none (p:=SS) aK hb4;have hb3:(decide (16<(l_.length:Int))||l_.any SS)=false:=(by rw [gQ,hbig]; rfl);refine bI (λ (g2:Int×Int)=>0≤g2.2∧g2.2≤l_.length∧g2.1=mO (l_.take g2.2.toNat)∧(∀j:Nat,(j:Int)<g2.2→lD (l_.getD j aK) j=true)) (λ (g2:Int×Int)=>(l_.length - g2.2).toNat) ?_ ?_
    ·intro dK g2 nk qL;obtain ⟨rG,jD,mV,CJ⟩:=nk;unfold Lv;refine wi ?_ ?_<;>intro c4
     ·have hlt:g2.2.toNat<l_.length:=om;have hbl:=OX (hb4 g2.2.toNat hlt);refine wn<|bI (λ (g5:Int)=>0≤g5∧g5≤(l_.getD g2.2.toNat aK).aP.length∧(∀j:Nat,(j:Int)<g5→dL ((l_.getD g2.2.toNat aK).aP.getD j 0) 0 (g2.2.toNat - 1)=true)) (λ (g5:Int)=>((l_.getD g2.2.toNat aK).aP.length - g5).toNat) ?_ ?_
      ·intro ku g5 WI WJ;obtain ⟨RS,ED,Mk⟩:=WI;unfold Ls;refine wi ?_ ?_<;>intro c5
       ·refine wn<|wi ?_ ?_<;>intro c6
        ·refine av ?_;(unfold eD; rw [hb3,SX hlt (Wq (j:=g5.toNat) om (by rw [← Bool.not_eq_true,within_iff]; omega))]; rfl)
        ·refine wn<|WJ _ ?_ ?_
         ·(refine ⟨ob,ob,dU Mk RS (by rw [within_iff]; omega)⟩)
         ·exact ob
       ·have hvr:=afx (k:=(g2.2.toNat:Int)) (λ j hj=>Mk j om);refine aF (Yw ob ob) λ v3 hv3=>?_;subst v3;refine bJ ?_ ?_<;>intro c7
        ·have X8:=c7;have c7:=nr c7;rw [X8] at hvr;refine av ?_;(unfold eD; rw [hb3,SX hlt hvr]; rfl)
        ·have X8:=c7;have c7:=nr c7;rw [X8] at hvr;have hpm:=alO (l_.take g2.2.toNat) (l_.getD g2.2.toNat aK).aN.length om;rw [← mV] at hpm;refine wm<|qL _ ?_ ?_
         ·(refine ⟨ob,ob,?_,dU CJ rG hvr⟩; dsimp only; rw [show (g2.2+1).toNat=g2.2.toNat+1 by omega]; unfold mO; rw [vJ _ _ aK hlt]; rw [mV]; rfl)
         ·exact ob
      ·(refine ⟨ob,ob,λ j hj=>by omega⟩)
     ·have hva:∀i:Nat,i<l_.length→lD (l_.getD i aK) i=true:=λ j hj=>CJ j om;have hall:=acF hva;have hfl:=(jW l_).1;rw [show g2.2.toNat=l_.length by omega,List.take_length] at mV;refine bJ ?_ ?_<;>intro c8
      ·have c8o:=c8;have c8:=nr c8;refine av ?_;(unfold eD; rw [hb3,hall,← mV,c8o]; rfl)
      ·have c8o:=c8;have c8:=nr c8;refine aF (Yx om (afy hva hb4)) λ v4 hv4=>?_;subst v4;refine bI (λ (g6:Int)=>0≤g6∧g6≤(iN l_).length∧(∀j:Nat,(j:Int)<g6→(λ n=>decide (4<n)) ((iN l_).getD j 0)=false)) (λ (g6:Int)=>((iN l_).length - g6).toNat) ?_ ?_
       ·intro jH g6 Pj Ky;obtain ⟨Ml,wO,Mq⟩:=Pj;unfold Lu;refine wi ?_ ?_<;>intro c9
        ·refine wn<|bJ ?_ ?_<;>intro c10
         ·have ajS:=c10;have c10:=nr c10;refine av ?_;(unfold eD; rw [hb3,hall,yu (p:=λ n=>decide (4<n)) 0 (show g6.toNat<(iN l_).length by omega) ajS,Bool.or_true]; rfl)
         ·have ajS:=c10;have c10:=nr c10;refine wn<|Ky _ ?_ ?_
          ·(refine ⟨ob,ob,dU Mq Ml ajS⟩)
          ·exact ob
        ·refine av ?_;(unfold eD; rw [hb3,hall,← mV,c8o,any_none (p:=λ n=>decide (4<n)) 0 (λ j hj=>Mq j om)]; rfl)
       ·(refine ⟨ob,ob,λ j hj=>by omega⟩)
    ·(refine ⟨ob,ob,rfl,λ j hj=>by dsimp only at hj; omega⟩)
  ·(refine ⟨ob,ob,λ j hj=>by omega⟩)
variable {l:List aI} {m:List bN}
theorem an7 (h:((eD l != 0)||decide (32<(m.length:Int)))=true):kM l m=false:=by
 unfold kM;by_cases h1:eD l=0
 ·rw [h1] at h;have:32<(m.length:Int):=by simpa using h
  rw [decide_eq_false (p:=(m.length:Int)≤32) om];simp
 ·have:(eD l==0)=false:=by simpa using h1
  rw [this];rfl
theorem amf (h:((eD l != 0)||decide (32<(m.length:Int)))=false):kM l m=!(m.any (MS l.length)):=by
 have h1:eD l=0∧(m.length:Int)≤32:=by
  simp at h;omega
 unfold kM;rw [h1.1,decide_eq_true h1.2];rfl
theorem af0 (n:Int) (x:bN):(((((decide (x.eZ<(0:Int)))||(decide (n≤x.eZ)))||(decide (x.Low<(0:Int))))||(decide (x.fP<x.Low)))||(decide ((4000000000:Int)<x.fP)))=MS n x:=by
 unfold MS dL;rw [Bool.eq_iff_iff];simp;omega
variable {m_:List bN}
theorem Pk (h1:l_.length≤2000000) (h2:m_.length≤2000000):W (xW l_ m_) (λ r=>r=kM l_ m_):=by
 unfold xW;refine aF (Aq ob) λ v1 hv1=>?_;subst v1;refine bJ ?_ ?_<;>intro c1
 ·have gQ:=c1;have c1:=nr c1;exact av ((an7 gQ).symm)
 ·have gQ:=c1;have c1:=nr c1;have hdf:=amf gQ;refine bI (λ (g1:Int)=>0≤g1∧g1≤m_.length∧(m_.drop g1.toNat).any (MS l_.length)=m_.any (MS l_.length)) (λ (g1:Int)=>(m_.length - g1).toNat) ?_ ?_
  ·intro aj g1 dY bW;obtain ⟨dN,bO,bE⟩:=dY;unfold LK;refine wi ?_ ?_<;>intro c2
   ·have hlt:g1.toNat<m_.length:=om;rw [drop_cons dx hlt,List.any_cons] at bE;refine wn<|bJ ?_ ?_<;>intro c3
    ·have jJ:=c3;have c3:=nr c3;rw [af0] at jJ;refine av ?_;(rw [hdf,← bE,jJ]; rfl)
    ·have jJ:=c3;have c3:=nr c3;rw [af0] at jJ;refine wn<|bW _ ?_ ?_
     ·(refine ⟨ob,ob,?_⟩; rw [← bE,jJ,show (g1+1).toNat=g1.toNat+1 by omega]; rfl)
     ·exact ob
   ·refine av ?_;(rw [hdf,← bE,show g1.toNat=m_.length by omega,List.drop_length]; rfl)
  ·(refine ⟨ob,ob,rfl⟩)
theorem abT (h1:l_.length≤2000000) (h2:m_.length≤2000000):W (F5 l_ m_) (λ r=>r=(bif eD l_ != 0 then eD l_ else bif !kM l_ m_ then 1 else 0)):=by
 unfold F5;refine aF (Aq ob) λ v1 hv1=>?_;subst v1;refine bJ ?_ ?_<;>intro c1
 ·have gQ:=c1;have c1:=nr c1;refine av ?_;(rw [gQ]; rfl)
 ·have gQ:=c1;have c1:=nr c1;refine aF (Pk ob ob) λ v2 hv2=>?_;subst v2;refine bJ ?_ ?_<;>intro c2
  ·have kr:=c2;have c2:=nr c2;refine av ?_;(rw [gQ,kr]; rfl)
  ·have kr:=c2;have c2:=nr c2;refine av ?_;(rw [gQ,kr]; rfl)
theorem aaO {c_:aI} {u7:Int} (h1:aaC c_ u7):W (Dq c_ u7) (λ r=>r=ko c_ u7):=by
 have hp:=h1; unfold aaC at hp;unfold Dq;refine bJ ?_ ?_<;>intro c1
 ·have gQ:=c1;have c1:=nr c1;refine av ?_;(unfold ko; rw [gQ]; rfl)
 ·have gQ:=c1;have c1:=nr c1;refine bJ ?_ ?_<;>intro c2
  ·have kr:=c2;have c2:=nr c2;refine wm<|av ?_;(unfold ko; rw [gQ,kr]; rfl)
  ·have kr:=c2;have c2:=nr c2;refine wn<|av ?_;(unfold ko; rw [gQ,kr]; rfl)
theorem BZ {a_:Int} {b_:Int} (h1:0≤a_) (h2:0≤b_):W (qP a_ b_) (λ r=>r=jw a_ b_):=by
 unfold qP;refine bI (λ (g1:Int×Int)=>0≤g1.1∧0≤g1.2∧jw g1.1 g1.2=jw a_ b_) (λ (g1:Int×Int)=>g1.2.toNat) ?_ ?_
 ·intro aj g1 dY bW;obtain ⟨dN,bO,bE⟩:=dY;unfold IE;refine wi ?_ ?_<;>intro c1
  ·refine wn<|bW _ ?_ ?_
   ·(refine ⟨ob,Int.tmod_nonneg _ om,?_⟩; dsimp only; rw [← bE]; exact afF om om)
   ·(dsimp only; have:=UC g1.1 g1.2 om; have:=Int.tmod_nonneg (a:=g1.1) g1.2 om; omega)
  ·refine av ?_;(rw [← bE]; unfold jw; have e:g1.2=0:=c1; rw [e]; simp; omega)
 ·exact ob
variable {r_:bL}
theorem Ar:W (sI r_) (λ r=>r=qh r_):=by
 unfold sI;refine aF (gX λ hc=>l5 (BZ (by have hc:=nr hc; omega) (by have hc:=nr hc; omega))) λ v1 hv1=>?_;subst v1;refine av ?_;rfl
theorem Pm {k_:Int}:W (xX k_) (λ r=>r=yt k_):=by
 unfold xX;refine av ?_;rfl
theorem X9 {xG:Int} {xH:Int} (h1:xG≤4611686018427387904) (h2:xH≤4611686018427387904):W (IG xG xH) (λ r=>r=newR xG xH):=by
 unfold IG;refine bJ ?_ ?_<;>intro c1
 ·have gQ:=c1;have c1:=nr c1;refine av ?_;(unfold newR; rw [gQ]; rfl)
 ·have gQ:=c1;have c1:=nr c1;have hg:=Bj xG xH om; have q1:=tdiv_le xG _ om hg; have q2:=tdiv_le xH _ om hg;refine aF (BZ ob ob) λ v1 hv1=>?_;subst v1;refine wm<|aF (Ar) λ v2 hv2=>?_;subst v2;refine bJ ?_ ?_<;>intro c2
  ·have kr:=c2;have c2:=nr c2;refine av ?_;(unfold newR; rw [gQ]; simp only [cond_false]; rw [kr]; rfl)
  ·have kr:=c2;have c2:=nr c2;refine av ?_;(unfold newR; rw [gQ]; simp only [cond_false]; rw [kr]; rfl)
theorem ad3 {k_:Int}:W (Kc r_ k_) (λ r=>r=Bl r_ k_):=by
 unfold Kc;refine aF (Ar) λ v1 hv1=>?_;subst v1;refine bJ ?_ ?_<;>intro c1
 ·have gQ:=c1;have c1:=nr c1;refine av ?_;(unfold Bl; rw [gQ]; rfl)
 ·have gQ:=c1;have c1:=nr c1;have hv:=mM (r:=r_) (by simpa using gQ);refine aF (Pm) λ v2 hv2=>?_;subst v2;refine bJ ?_ ?_<;>intro c2
  ·have kr:=c2;have c2:=nr c2;refine av ?_;(unfold Bl; rw [gQ,kr]; rfl)
  ·have kr:=c2;have c2:=nr c2;have hk:1≤k_∧k_≤64:=(by simp [yt] at kr; omega);have q3:=Wu (show 0≤k_ by omega) hk.2 (show 0≤r_.jr by omega) hv.2.2.2.1;refine wn<|aF (X9 ob ob) λ v3 hv3=>?_;subst v3;refine av ?_;(unfold Bl; rw [gQ,kr]; rfl)
theorem abU {k_:Int}:W (F6 r_ k_) (λ r=>r=qV r_ k_):=by
 unfold F6;refine aF (Ar) λ v1 hv1=>?_;subst v1;refine bJ ?_ ?_<;>intro c1
 ·have gQ:=c1;have c1:=nr c1;refine av ?_;(unfold qV; rw [gQ]; rfl)
 ·have gQ:=c1;have c1:=nr c1;have hv:=mM (r:=r_) (by simpa using gQ);refine aF (Pm) λ v2 hv2=>?_;subst v2;refine bJ ?_ ?_<;>intro c2
  ·have kr:=c2;have c2:=nr c2;refine av ?_;(unfold qV; rw [gQ,kr]; rfl)
  ·have kr:=c2;have c2:=nr c2;have hk:1≤k_∧k_≤64:=(by simp [yt] at kr; omega);have hg:=Bj k_ r_.jr om;have q1:=tdiv_le k_ _ om hg;have q2:=tdiv_le r_.jr _ om hg;have q4:=ap9 k_ r_.jr hk om;have q5:=tdiv_le 144115188075855872 _ om (show 0<k_.tdiv (jw k_ r_.jr) by omega);refine aF (BZ ob ob) λ v3 hv3=>?_;subst v3;refine wm<|bJ ?_ ?_<;>intro c3
   ·have jJ:=c3;have c3:=nr c3;refine av ?_;(unfold qV; rw [gQ,kr,jJ]; rfl)
   ·have jJ:=c3;have c3:=nr c3;have q3:=ajz r_.j5 (k_.tdiv (jw k_ r_.jr)) hv.1 q4.1 om;refine wm<|wn ?_;refine aF (X9 ob ob) λ v4 hv4=>?_;subst v4;refine av ?_;(unfold qV; rw [gQ,kr,jJ]; rfl)
variable {s_:List Int}
theorem jG {g1:Int×List bL×List Bool} {aj:(Int×List bL×List Bool)→M (List bL×List Bool)} {g7:Bool×Int×Int} {Q:(List bL×List Bool)→Prop} (bW:∀s':(Int×List bL×List Bool),(0≤s'.1∧s'.1≤l_.length∧s'.2.1=(Wt l_ s_ s'.1.toNat).1∧s'.2.2=(Wt l_ s_ s'.1.toNat).2)→(l_.length - s'.1).toNat<(l_.length - g1.1).toNat→W (aj s') Q) (hc:0≤g1.1∧g1.1<l_.length∧l_.length≤1000∧g1.2.1=(Wt l_ s_ g1.1.toNat).1∧g1.2.2=(Wt l_ s_ g1.1.toNat).2∧((⟨g7.2.1,g7.2.2⟩:bL),g7.1)=(st1 (Wt l_ s_ g1.1.toNat).1 (Wt l_ s_ g1.1.toNat).2 (l_.getD g1.1.toNat aK) (s_.getD g1.1.toNat 0))):W (jo g1 aj g7) Q:=by
 obtain ⟨amg,amh,U0,QU,WK,ad4⟩:=hc;unfold jo;refine aO (by (rw [QU,(Qw l_ s_ g1.1.toNat).1]; unfold big; omega)) ?_;refine aO (by (rw [WK,(Qw l_ s_ g1.1.toNat).2]; unfold big; omega)) ?_;refine wn<|bW _ ?_ ?_
 ·(refine ⟨ob,ob,?_,?_⟩; (dsimp only; rw [show (g1.1+1).toNat=g1.1.toNat+1 by omega,Wt,← ad4,← QU]); (dsimp only; rw [show (g1.1+1).toNat=g1.1.toNat+1 by omega,Wt,← ad4,← WK]))
 ·exact ob
theorem Pn (h1:Good l_ s_) (h2:Up l_ s_):W (xY l_ s_) (λ r=>r=RO l_ s_):=by
 obtain ⟨q1,q2,q3,q4,q5⟩:=h1;unfold xY;refine bI (λ (g1:Int×List bL×List Bool)=>0≤g1.1∧g1.1≤l_.length∧g1.2.1=(Wt l_ s_ g1.1.toNat).1∧g1.2.2=(Wt l_ s_ g1.1.toNat).2) (λ (g1:Int×List bL×List Bool)=>(l_.length - g1.1).toNat) ?_ ?_
 ·intro aj g1 dY bW;obtain ⟨dN,bO,bE,jB⟩:=dY;unfold LM;have hst:=Qw l_ s_ g1.1.toNat;refine wi ?_ ?_<;>intro c1
  ·have hch:=q3 g1.1.toNat om;have hpar:=q5 g1.1.toNat om;have hpc:=q4 g1.1.toNat om;have hui:=h2 g1.1.toNat om;refine wm<|aF (aaO ob) λ v18 ama=>?_;subst v18;refine wi ?_ ?_<;>intro c2
   ·refine wm ?_;unfold oU;refine wm<|bJ ?_ ?_<;>intro c3
    ·have jJ:=c3;have c3:=nr c3;exact jG (l_:=l_) (s_:=s_) (λ a b c=>bW a b c) (by (exfalso; have:=(show ko (l_.getD g1.1.toNat aK) (s_.getD g1.1.toNat 0) = -1 by unfold ko; rw [jJ]; rfl); omega))
    ·have jJ:=c3;have c3:=nr c3;refine bJ ?_ ?_<;>intro c4
     ·have sO:=c4;have c4:=nr c4;refine aF (ad3) λ v16 ahp=>?_;subst v16;exact jG (l_:=l_) (s_:=s_) (λ a b c=>bW a b c) (by (refine ⟨ob,ob,ob,bE,jB,?_⟩; dsimp only; unfold st1; rw [jJ,sO,← bE,← jB]; rfl))
     ·have sO:=c4;have c4:=nr c4;refine bJ ?_ ?_<;>intro c5
      ·have Bu:=c5;have c5:=nr c5;refine aF (abU) λ v17 an8=>?_;subst v17;exact jG (l_:=l_) (s_:=s_) (λ a b c=>bW a b c) (by (refine ⟨ob,ob,ob,bE,jB,?_⟩; dsimp only; unfold st1; rw [jJ,sO,Bu,← bE,← jB]; rfl))
      ·have Bu:=c5;have c5:=nr c5;refine bJ ?_ ?_<;>intro c6
       ·have c6o:=c6;have c6:=nr c6;refine bJ ?_ ?_<;>intro c7
        ·have X8:=c7;have c7:=nr c7;exact jG (l_:=l_) (s_:=s_) (λ a b c=>bW a b c) (by (refine ⟨ob,ob,ob,bE,jB,?_⟩; dsimp only; unfold st1; rw [jJ,sO,Bu,c6o,X8,← bE,← jB]; rfl))
        ·have X8:=c7;have c7:=nr c7;exact jG (l_:=l_) (s_:=s_) (λ a b c=>bW a b c) (by (refine ⟨ob,ob,ob,bE,jB,?_⟩; dsimp only; unfold st1; rw [jJ,sO,Bu,c6o,X8,← bE,← jB]; rfl))
       ·have c6o:=c6;have c6:=nr c6;exact jG (l_:=l_) (s_:=s_) (λ a b c=>bW a b c) (by (refine ⟨ob,ob,ob,bE,jB,?_⟩; dsimp only; unfold st1; rw [jJ,sO,Bu,c6o,← bE,← jB]; rfl))
   ·unfold oU;refine wm<|bJ ?_ ?_<;>intro c8
    ·have c8o:=c8;have c8:=nr c8;exact jG (l_:=l_) (s_:=s_) (λ a b c=>bW a b c) (by (refine ⟨ob,ob,ob,bE,jB,?_⟩; dsimp only; unfold st1; rw [c8o]; rfl))
    ·have c8o:=c8;have c8:=nr c8;exfalso; have:=hui (by simpa using c8o); omega
  ·refine av ?_;(unfold RO; rw [bE,jB,show g1.1.toNat=l_.length by omega])
 ·(refine ⟨ob,ob,rfl,rfl⟩)
def ami (r:List bL) (on:List Bool) (l:List aI) (j:Nat):Bool:=((on.getD j false)&&((l.getD j aK).fP != 0))&&!oH (r.getD j dS) (l.getD j aK).Low (l.getD j aK).fP
def ajT (l:List aI) (st:List bL×List Bool):Bool:=(List.range l.length).all λ i=>!ami st.1 st.2 l i
def aaP (st:List bL×List Bool) (x:bN):Bool:=!(st.2.getD x.eZ.toNat false)||!oH (st.1.getD x.eZ.toNat dS) x.Low x.fP
def RZ (l:List aI) (s:List Int) (m:List bN):Bool:=!m.any (aaP (RO l s))&&ajT l (RO l s)
def VS (l:List aI) (s:List Int):Prop:=s.length=l.length∧∀i,i<l.length→0≤s.getD i 0∧s.getD i 0<(l.getD i aK).aN.length
def rH:List aI→Nat
 | []=>1
 | c::l=>c.aN.length*rH l
def oC:List aI→List Int→Nat
 | c::l,x::t=>x.toNat*rH l+oC l t
 | _,_=>0
variable {s:List Int}
theorem U1 {c:aI} (h:VS (c::l) s):∃x t,s=x::t∧0≤x∧x<c.aN.length∧VS l t:=by
 obtain ⟨h1,h2⟩:=h;cases s with
 | nil=>cases h1
 | cons x t=>
  have h0:=h2 0 (by simp);exact ⟨x,t,rfl,h0.1,h0.2,by simpa using h1,λ i hi=>h2 (i+1) (by simpa using hi)⟩
theorem Kz:∀ {s:List Int},VS l s→oC l s<rH l:=by
 induction l with
 | nil=>intro s _; cases s<;>simp [oC,rH]
 | cons c l ih=>
  intro s h;obtain ⟨x,t,rfl,h1,h2,h3⟩:=U1 h;have:=ih h3;rw [oC,rH];have h4:(x.toNat+1)*rH l≤c.aN.length*rH l:=Nat.mul_le_mul_right _ om;rw [Nat.add_mul,Nat.one_mul] at h4;omega
theorem aaQ:∀ {s:List Int},(∀j,j<l.length→s.getD j 0=0)→oC l s=0:=by
 induction l with
 | nil=>intro s _; cases s<;>rfl
 | cons c l ih=>
  intro s h;cases s with
  | nil=>rfl
  | cons x t=>
   have h0:=h 0 (by simp);have h0:x=0:=h0;rw [oC,h0,ih λ j hj=>h (j+1) (by simpa using hj)];simp
theorem ad5:∀ {s:List Int},VS l s→(∀j,j<l.length→s.getD j 0+1=(l.getD j aK).aN.length)→oC l s+1=rH l:=by
 induction l with
 | nil=>intro s h _; cases s<;>rfl
 | cons c l ih=>
  intro s hv h;obtain ⟨x,t,rfl,h1,h2,h3⟩:=U1 hv;have h0:x+1=c.aN.length:=h 0 (by simp);have:=ih h3 λ j hj=>h (j+1) (by simpa using hj);rw [oC,rH,show c.aN.length=x.toNat+1 by omega,Nat.add_mul,Nat.one_mul];omega
theorem amj:∀ {s t:List Int} {k:Nat},VS l s→k<l.length→t.length=l.length→(∀j,j<k→t.getD j 0=s.getD j 0)→t.getD k 0=s.getD k 0+1→(∀j,k<j→j<l.length→t.getD j 0=0∧s.getD j 0+1=(l.getD j aK).aN.length)→oC l t=oC l s+1:=by
 induction l with
 | nil=>intro s t k _ h; exact absurd h (Nat.not_lt_zero _)
 | cons c l ih=>
  intro s t k hv hk hl h1 h2 h3;obtain ⟨x,s,rfl,g1,g2,g3⟩:=U1 hv;cases t with
  | nil=>cases hl
  | cons y t=>
   cases k with
   | zero=>
    have h2:y=x+1:=h2;have e1:=aaQ (l:=l) (s:=t) λ j hj=>(h3 (j+1) om (by simpa using hj)).1;have e2:=ad5 g3 λ j hj=>(h3 (j+1) om (by simpa using hj)).2;rw [oC,oC,e1,h2,show (x+1).toNat=x.toNat+1 by omega,Nat.add_mul,Nat.one_mul];omega
   | succ k=>
    have h0:y=x:=h1 0 om;have:=ih g3 (by simpa using hk) (by simpa using hl) (λ j hj=>h1 (j+1) om) h2 (λ j a b=>h3 (j+1) om (by simpa using b));rw [oC,oC,h0,this];omega
theorem aiB {t:List Int} {k:Nat} (hv:VS l s) (hk:k<l.length) (hl:t.length=l.length) (h1:∀j,j<k→t.getD j 0=s.getD j 0) (h2:t.getD k 0=s.getD k 0+1) (h3:∀j,k<j→j<l.length→t.getD j 0=0∧s.getD j 0+1=(l.getD j aK).aN.length) (h4:s.getD k 0+1<(l.getD k aK).aN.length):VS l t∧oC l t=oC l s+1:=by
 refine ⟨⟨hl,λ i hi=>?_⟩,amj hv hk hl h1 h2 h3⟩;have:=hv.2 i hi;rcases Nat.lt_trichotomy i k with h | h | h
 ·rw [h1 i h]; exact this
 ·subst h; omega
 ·have:=h3 i h hi; omega
theorem U2 (h:VS l s):l6 l s=true:=by
 unfold l6;rw [h.1,beq_self_eq_true,Bool.true_and,List.all_eq_true];intro i hi;have:=h.2 i (by have:=List.mem_range.1 hi; omega);exact (within_iff _ _ _).2 om
theorem ajU (l:List aI) (c:aI):rH (l++[c])=rH l*c.aN.length:=by
 induction l with
 | nil=>simp [rH]
 | cons a l ih=>rw [List.cons_append,rH,rH,ih,Nat.mul_assoc]
theorem ajV (h:∀c∈l,1≤c.aN.length):mO l=Yr (rH l) 1099511627776:=by
 induction l using JV with
 | nil=>rfl
 | append_singleton l c ih=>
  have hc:=h c (by simp);rw [SY,ih λ x hx=>h x (by simp [hx]),ajU,Int.natCast_mul];generalize ((rH l:Nat):Int)=a;generalize hb:(c.aN.length:Int)=b;have hb1:1≤b:=by omega
  unfold Yr;by_cases h1:(1099511627776:Int)<a
  ·have h2:(1099511627776:Int)<a*b:=by
    have:=Int.mul_le_mul_of_nonneg_left hb1 (show 0≤a by omega);omega
   have h3:(1099511627776:Int)≤1099511627776*b:=by omega
   rw [if_pos h1,if_pos h2];split<;>omega
  ·rw [if_neg h1]
theorem size_le (h:abI l):rH l≤4096:=by
 have hp:=h.prod;rw [ajV λ c hc=>by
  obtain ⟨k,hk,rfl⟩:=List.mem_iff_getElem.1 hc;have:=OZ (lF (h.valid k hk));rw [List.getD_eq_getElem?_getD,List.getElem?_eq_getElem hk] at this;simp only [Option.getD_some] at this;omega] at hp
 unfold Yr at hp;split at hp<;>omega
theorem aiC (h:abI l):VS l (List.replicate (l.length:Int).toNat 0):=by
 refine ⟨by simp,λ i hi=>?_⟩;have:=OZ (lF (h.valid i hi));rw [Sp.mP];omega
theorem ajW (h:((bif eD l != 0 then eD l else bif !kM l m then 1 else 0) != 0)=false):eD l=0∧kM l m=true:=by
 cases h1:eD l != 0 with
 | true=>rw [h1] at h; simp only [cond_true] at h; rw [h1] at h; cases h
 | false=>
  cases h2:kM l m with
  | false=>rw [h1,h2] at h; cases h
  | true=>exact ⟨by simpa using h1,rfl⟩
theorem aiD (h:kM l m=true):∀x∈m,0≤x.eZ∧x.eZ<l.length:=λ x hx=>(O5 (Ja h x hx)).1
theorem EF {C9:Int} {oP:Int}:W (tJ r_ C9 oP) (λ r=>r=oH r_ C9 oP):=by
 unfold tJ;refine aF (Ar) λ v1 hv1=>?_;subst v1;refine bJ ?_ ?_<;>intro c1
 ·have gQ:=c1;have c1:=nr c1;refine av ?_;(unfold oH; rw [show qh r_=false by simpa using gQ]; rfl)
 ·have gQ:=c1;have c1:=nr c1;have hv:=mM (r:=r_) (by simpa using gQ);have q1:=tdiv_le r_.j5 r_.jr hv.1 om;refine wm<|av ?_;(unfold oH; rw [show qh r_=true by simpa using gQ]; rfl)
theorem Ya {r_:List bL} {rz:List Bool} (h1:l_.length≤2000000) (h2:r_.length=l_.length) (h3:rz.length=l_.length):W (II l_ r_ rz) (λ r=>r=ajT l_ (r_,rz)):=by
 unfold II;refine bI (λ (g1:Int)=>0≤g1∧g1≤l_.length∧(∀j:Nat,(j:Int)<g1→ami r_ rz l_ j=false)) (λ (g1:Int)=>(l_.length - g1).toNat) ?_ ?_
 ·intro aj g1 dY bW;obtain ⟨dN,bO,bE⟩:=dY;unfold Ut;refine wi ?_ ?_<;>intro c1
  ·refine wm<|wn ?_;refine aF (gX λ hc=>l5 (EF)) λ v3 hv3=>?_;subst v3;refine bJ ?_ ?_<;>intro c2
   ·have kr:=c2;have c2:=nr c2;refine av ?_;(unfold ajT; rw [yw (i:=g1.toNat) om (by rw [show ami r_ rz l_ g1.toNat=true from kr]; rfl)])
   ·have kr:=c2;have c2:=nr c2;refine wn<|bW _ ?_ ?_
    ·(refine ⟨ob,ob,dU bE dN kr⟩)
    ·exact ob
  ·refine av ?_;(unfold ajT; rw [Al λ j hj=>(by rw [bE j om]; rfl)])
 ·(refine ⟨ob,ob,λ j hj=>by omega⟩)
theorem ad6 (h1:Good l_ s_) (h2:Up l_ s_) (h3:m_.length≤2000000) (h4:∀x∈m_,0≤x.eZ∧x.eZ<l_.length):W (Ke l_ s_ m_) (λ r=>r=RZ l_ s_ m_):=by
 have hsm:=h1.small;have hst:=Qw l_ s_ l_.length;unfold Ke;refine aF (Pn ob ob) λ v1 hv1=>?_;subst v1;have hs1:(RO l_ s_).1.length=l_.length:=hst.1;have hs2:(RO l_ s_).2.length=l_.length:=hst.2;refine bI (λ (g1:Int)=>0≤g1∧g1≤m_.length∧(m_.drop g1.toNat).any (aaP (RO l_ s_))=m_.any (aaP (RO l_ s_))) (λ (g1:Int)=>(m_.length - g1).toNat) ?_ ?_
 ·intro aj g1 dY bW;obtain ⟨dN,bO,bE⟩:=dY;unfold RB;refine wi ?_ ?_<;>intro c1
  ·have hlt:g1.toNat<m_.length:=om;have hx:=h4 _ (getD_in (i:=g1.toNat) dx hlt);rw [drop_cons dx hlt,List.any_cons] at bE;refine wm<|wn ?_;refine aF (gX λ hc=>l5 (EF)) λ v4 hv4=>?_;subst v4;refine bJ ?_ ?_<;>intro c2
   ·have kr:=c2;have c2:=nr c2;refine av ?_;(unfold RZ; rw [← bE,show aaP (RO l_ s_) (m_.getD g1.toNat dx)=true from kr]; rfl)
   ·have kr:=c2;have c2:=nr c2;refine wn<|bW _ ?_ ?_
    ·(refine ⟨ob,ob,?_⟩; rw [← bE,show aaP (RO l_ s_) (m_.getD g1.toNat dx)=false from kr,show (g1+1).toNat=g1.toNat+1 by omega]; rfl)
    ·exact ob
  ·refine aF (Ya ob ob ob) λ v5 hv5=>?_;subst v5;refine av ?_;(unfold RZ; rw [← bE,show g1.toNat=m_.length by omega,List.drop_length]; rfl)
 ·(refine ⟨ob,ob,rfl⟩)
structure Po (s:ByteArray):Prop where
 sz:0<s.size∧s.size≤16
 b0:97≤gI s 0∧gI s 0≤122
 bs:∀j:Nat,(j:Int)<s.size→gI s j=45∨(48≤gI s j∧gI s j≤57)∨(97≤gI s j∧gI s j≤122)
structure GpV (n:Int) (g:dh):Prop where
 ok:arJ n g
 nw:Po g.wY
 so:∀k:Nat,1≤k→(k:Int)<g.bQ.length→g.bQ.getD (k - 1) 0<g.bQ.getD k 0
 fw:∀j:Nat,(j:Int)<g.ak.length→Po (g.ak.getD j ByteArray.empty)
 fd:∀k j:Nat,j<k→(k:Int)<g.ak.length→(g.ak.getD j ByteArray.empty).toList≠(g.ak.getD k ByteArray.empty).toList
structure ad7 (p:bn):Prop where
 ok:aoO p
 gr:∀i:Nat,(i:Int)<p.aD.length→GpV p.bQ (p.aD.getD i aH)
 nm:∀i k:Nat,k<i→(i:Int)<p.aD.length→(p.aD.getD k aH).wY.toList≠(p.aD.getD i aH).wY.toList
structure RsV (l:List eG):Prop where
 ok:al6 l
 so:∀i:Nat,(i:Int)<l.length→∀k:Nat,1≤k→(k:Int)<((l.getD i dz).dX).length→((l.getD i dz).dX).getD (k - 1) 0<((l.getD i dz).dX).getD k 0
structure BdV (b:aS):Prop where
 cl:eD b.bS=0
 su:Sp.eD b.bG=0
 pn:ad7 b.aT
 rs:RsV b.bq
 dm:an4 b.cO
def aaR (l:List Int):Prop:=∀i j:Nat,i<j→(j:Int)<l.length→l.getD i 0<l.getD j 0
theorem aqf {l:List Int} (h:∀k:Nat,1≤k→(k:Int)<l.length→l.getD (k - 1) 0<l.getD k 0):aaR l:=by
 intro i j hij;induction j with
 | zero=>omega
 | succ j ih=>
  intro hj;have h1:=h (j+1) om hj;rw [Nat.add_sub_cancel] at h1;by_cases e:i=j
  ·rw [e]; exact h1
  ·have:=ih om om; omega
def ajX (p:bn) (x y:Int):Prop:=∀i j:Nat,(i:Int)<(p.aD.getD x.toNat aH).bQ.length→(j:Int)<(p.aD.getD y.toNat aH).bQ.length→(p.aD.getD x.toNat aH).bQ.getD i 0≠(p.aD.getD y.toNat aH).bQ.getD j 0
def an9 (p:bn) (x:Int) (f:ByteArray):Prop:=∃k:Nat,(k:Int)<(p.aD.getD x.toNat aH).ak.length∧((p.aD.getD x.toNat aH).ak.getD k ByteArray.empty).toList=f.toList
structure WL (p:bn) (l:List ByteArray) (gs:List Int):Prop where
 ir:∀x∈gs,0≤x∧x<p.aD.length
 off:∀k:Nat,(k:Int)<gs.length→an9 p (gs.getD k 0) (l.getD k ByteArray.empty)
 dj:∀k j:Nat,j<k→(k:Int)<gs.length→ajX p (gs.getD j 0) (gs.getD k 0)
def aaS (l:List eG) (s:List Bool):Prop:=∀i:Nat,(i:Int)<l.length→s.getD i false=true→∀x∈(l.getD i dz).dX,s.getD x.toNat false=true
structure af2 (l:List dF) (s:List Bool):Prop where
 al:∀i:Nat,(i:Int)<l.length→(l.getD i dI).fM=true→s.getD i false=true
 pa:∀i:Nat,(i:Int)<l.length→s.getD i false=true→0≤(l.getD i dI).aM→s.getD (l.getD i dI).aM.toNat false=true
theorem Gl {l:List Bool} {i j:Nat} (h:l.getD i false=true∨i=j) (hj:j<l.length):(l.set j true).getD i false=true:=by
 by_cases e:i=j
 ·subst e; rw [List.getD_eq_getElem?_getD,List.getElem?_set_self hj]; rfl
 ·rw [List.getD_eq_getElem?_getD,List.getElem?_set_ne (Ne.symm e),← List.getD_eq_getElem?_getD]; exact h.resolve_right e
theorem kR {l:List Bool} {i j:Nat} {b:Bool} (h:i≠j):(l.set j b).getD i false=l.getD i false:=by
 rw [List.getD_eq_getElem?_getD,List.getElem?_set_ne (Ne.symm h),← List.getD_eq_getElem?_getD]
theorem qo {l:List Bool} {j:Nat} {b:Bool} (hj:j<l.length):(l.set j b).getD j false=b:=by
 rw [List.getD_eq_getElem?_getD,List.getElem?_set_self hj]; rfl
end Go.Proofs.YtccjmcmolnbiiaaGreatDoor

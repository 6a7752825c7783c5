/- An abstract machine over the model's code, that it is sound; models of the functions and their proofs. -/
import Derived.Test.YtfblhejmclcdmaaGreatDoorA4
import Derived.Test.YtfblhejmclcdmaaGreatDoorA5
set_option linter.unusedVariables false
set_option linter.unusedSimpArgs false


namespace Go.Proofs.YtfblhejmclcdmaaGreatDoor.Sp
open Go.Ab
set_option maxRecDepth 100000
deriving instance DecidableEq for aj,aI,bE
structure Chn where
 over:Bool
 abn:List Int
 first:Int
 last:Int
deriving DecidableEq
structure Uw where
 qh:Int
 draw:Int
 child:Int
deriving DecidableEq
def EK:Uw:=⟨0,0,0⟩
def withinF (n lo hi:Int):Bool:=decide (lo≤n)&&decide (n≤hi)
def bigS (s:aj):Bool:=decide (16<(s.aQ.length:Int))
def headB (s:aj) (k:Int):Bool:=((((!withinF s.Parent (-1) (k - 1))||((s.aQ.length:Int)==0))||!withinF s.dM 0 5000)||(decide (s.Parent<0)&&(s.dM != 0)))||!withinF s.dU 0 10000
def EL:Int→List Int→Bool
 | _,[]=>true
 | p,v::t=>!(!withinF v 1 5000||decide (v≤p))&&EL v t
def validS (s:aj) (k:Int):Bool:=!headB s k&&EL 0 s.aQ
theorem Rm {lev:List Int} {i:Nat} (hi:i<lev.length) {c:Bool} (hc:c=(!withinF (lev.getD i 0) 1 5000||(decide (0<(i:Int))&&decide (lev.getD i 0≤lev.getD (i - 1) 0)))):
  EL (if i=0 then 0 else lev.getD (i - 1) 0) (lev.drop i)=(!c&&EL (lev.getD i 0) (lev.drop (i+1))):=by
 rw [drop_cons 0 hi,EL,hc];congr 2;cases h:withinF (lev.getD i 0) 1 5000 with
 | false=>rfl
 | true=>
  have h1:1≤lev.getD i 0:=by unfold withinF at h; simp at h; simpa using h.1
  by_cases h0:i=0
  ·subst h0;simp;have h1:1≤lev.getD 0 0:=h1;have:¬ lev.getD 0 0≤0:=by omega
   simpa using this
  ·have:decide (0<(i:Int))=true:=by simp; omega
   rw [this,if_neg h0];simp
def Kk (n:Int) (x:aI):Bool:=((!withinF x.aM 0 (n - 1)||!withinF x.High 0 5000)||!withinF x.Low 0 x.High)||!withinF x.Load 0 10000
def I9:Nat→List aj→Bool
 | _,[]=>true
 | i,s::t=>validS s i&&I9 (i+1) t
def bP (l:List aj):Int:=bif decide (16<(l.length:Int))||l.any bigS then 3 else bif I9 0 l then 0 else 1
theorem jH {α:Type} (d:α) {p:α→Bool} {l:List α} (h:l.any p=false) (i:Nat) (hi:i<l.length):p (l.getD i d)=false:=by
 have:=eY d hi;rw [List.any_eq_false] at h;simpa using h _ this
theorem Ux (n:Nat):decide ((n:Int)<1)=((n:Int)==0):=by
 by_cases h:n=0
 ·subst h; rfl
 ·rw [decide_eq_false (by omega)];symm;simpa using h
def fA (l:List aj) (d:List aI):Bool:=((bP l==0)&&decide ((d.length:Int)≤32))&&!(d.any (Kk l.length))
theorem Rn (n:Int) (x:aI):(((!withinF x.aM 0 (n - 1)||!withinF x.Low 0 x.High)||decide (5000<x.High))||!withinF x.Load 0 10000)=Kk n x:=by
 unfold Kk;cases withinF x.aM 0 (n - 1) with
 | false=>rfl
 | true=>
  cases withinF x.Load 0 10000 with
  | false=>simp
  | true=>
   simp only [Bool.not_true,Bool.false_or,Bool.or_false];unfold withinF;by_cases h1:0≤x.Low<;>by_cases h2:x.Low≤x.High<;>by_cases h3:5000<x.High<;>by_cases h4:0≤x.High<;>by_cases h5:x.High≤5000<;>simp [h1,h2,h3,h4,h5]<;>omega
def Zu:List aj→List Int→Bool
 | s::l,k::t=>withinF k 0 (s.aQ.length - 1)&&Zu l t
 | _,_=>true
def yh (l:List aj) (r:bE):Bool:=bif ((bP l != 0)||((r.On.length:Int) != l.length))||((r.Level.length:Int) != l.length) then false else Zu l r.Level
theorem G9 {l:List aj} (h:bP l=0):l.length≤16∧(∀i,i<l.length→(l.getD i ah).aQ.length≤16)∧I9 0 l=true:=by
 unfold bP at h;cases h1:(decide (16<(l.length:Int))||l.any bigS) with
 | true=>rw [h1] at h; cases h
 | false=>
  rw [h1] at h;have h2:I9 0 l=true:=by
   cases hv:I9 0 l with
   | true=>rfl
   | false=>rw [hv] at h; cases h
  simp only [Bool.or_eq_false_iff] at h1;refine ⟨by have:=of_decide_eq_false h1.1; omega,fun i hi=>?_,h2⟩;have:=jH ah h1.2 i hi;unfold bigS at this;have:=of_decide_eq_false this;omega
def beginF (l:List aj) (d:List aI):Int:=bif bP l != 0 then bP l else bif !fA l d then 1 else 0
theorem dA {α:Type} (d:α) (l:List α) (i:Nat) (v:α) (k:Nat):(l.set i v).getD k d=if k=i∧i<l.length then v else l.getD k d:=by
 rw [List.getD_eq_getElem?_getD,List.getD_eq_getElem?_getD,List.getElem?_set];by_cases h:i=k
 ·subst h;by_cases h2:i<l.length
  ·simp [h2]
  ·simp [h2]
 ·have:¬ (k=i∧i<l.length):=fun h'=>h h'.1.symm;simp [h,this]
def He {α:Type} (f:Nat→α→α):Nat→α→α
 | 0,a=>a
 | k+1,a=>He f k (f k a)
def kK (n:Nat) (d:List aI):List Bool:=d.foldl (fun a x=>a.set x.aM.toNat true) (List.replicate n false)
def dV (l:List aj) (i:Nat) (a:List Bool):List Bool:=
 bif (a.getD i false||(l.getD i ah).Always)&&decide (0≤(l.getD i ah).Parent) then (a.set i (a.getD i false||(l.getD i ah).Always)).set (l.getD i ah).Parent.toNat true else a.set i (a.getD i false||(l.getD i ah).Always)
def dF (l:List aj) (d:List aI):List Bool:=He (dV l) l.length (kK l.length d)
structure Cc (l:List aj) (d:List aI):Prop where
 len:l.length≤16
 aaY:d.length≤32
 aM:∀i,i<l.length → -1≤(l.getD i ah).Parent∧(l.getD i ah).Parent<i∧1≤(l.getD i ah).aQ.length∧(l.getD i ah).aQ.length≤16∧0≤(l.getD i ah).dM∧(l.getD i ah).dM≤5000∧0≤(l.getD i ah).dU∧(l.getD i ah).dU≤10000
 aQ:∀i,i<l.length→EL 0 (l.getD i ah).aQ=true
 VO:∀x∈d,0≤x.aM∧x.aM<l.length∧0≤x.Low∧x.Low≤x.High∧x.High≤5000∧0≤x.Load∧x.Load≤10000
theorem sS {n lo hi:Int}:withinF n lo hi=true↔lo≤n∧n≤hi:=by
 unfold withinF;simp
theorem Ro {l:List aj} {k:Nat} (h:I9 k l=true):∀i,i<l.length→validS (l.getD i ah) ((k+i:Nat):Int)=true:=by
 induction l generalizing k with
 | nil=>intro i hi; simp at hi
 | cons s t ih=>
  rw [I9,Bool.and_eq_true] at h;intro i hi;cases i with
  | zero=>exact h.1
  | succ i=>
   have:=ih h.2 i (by simpa using hi);rw [show k+(i+1)=k+1+i by omega];exact this
theorem Rp {s:aj} {k:Int} (h:validS s k=true) : -1≤s.Parent∧s.Parent<k∧1≤s.aQ.length∧0≤s.dM∧s.dM≤5000∧0≤s.dU∧s.dU≤10000∧EL 0 s.aQ=true∧(s.Parent<0→s.dM=0):=by
 unfold validS headB at h;simp only [Bool.and_eq_true,Bool.not_eq_true',Bool.or_eq_false_iff,Bool.not_eq_false',sS] at h;obtain ⟨⟨⟨⟨⟨h1,h2⟩,h3⟩,h4⟩,h5⟩,h6⟩:=h;have h2':¬ (s.aQ.length:Int)=0:=by simpa using h2
 refine ⟨h1.1,by omega,by omega,h3.1,h3.2,h5.1,h5.2,h6,fun hp=>?_⟩;rw [decide_eq_true hp] at h4;simpa using h4
theorem qZ {l:List aj} {d:List aI} (h:fA l d=true):Cc l d:=by
 unfold fA at h;simp only [Bool.and_eq_true,Bool.not_eq_true'] at h;obtain ⟨⟨h1,h2⟩,h3⟩:=h;have h1:bP l=0:=by simpa using h1
 obtain ⟨c1,c2,c3⟩:=G9 h1;refine ⟨c1,by have:=of_decide_eq_true h2; omega,fun i hi=>?_,fun i hi=>?_,fun x hx=>?_⟩
 ·have:=Rp (Ro c3 i hi);have:=c2 i hi;omega
 ·exact (Rp (Ro c3 i hi)).2.2.2.2.2.2.2.1
 ·have:=(List.any_eq_false.1 h3) x hx;unfold Kk at this;simp only [Bool.not_eq_true,Bool.or_eq_false_iff,Bool.not_eq_false',sS] at this;omega
theorem Ow {α β:Type} (f:List α→β→List α) (hf:∀a x,(f a x).length=a.length) (d:List β) (a:List α):(d.foldl f a).length=a.length:=by
 induction d generalizing a with
 | nil=>rfl
 | cons x d ih=>rw [List.foldl_cons,ih,hf]
theorem mH (n:Nat) (d:List aI):(kK n d).length=n:=by
 unfold kK;rw [Ow _ (fun a x=>List.length_set ..),List.length_replicate]
theorem jC (l:List aj) (i:Nat) (a:List Bool):(dV l i a).length=a.length:=by
 unfold dV;cases (a.getD i false||(l.getD i ah).Always)&&decide (0≤(l.getD i ah).Parent)<;>simp
theorem Ox {α:Type} {f:Nat→List α→List α} (hf:∀i a,(f i a).length=a.length) (k:Nat) (a:List α):(He f k a).length=a.length:=by
 induction k generalizing a with
 | zero=>rfl
 | succ k ih=>rw [He,ih,hf]
theorem vJ (l:List aj) (d:List aI):(dF l d).length=l.length:=by
 unfold dF;rw [Ox (jC l),mH]
def zL {α:Type} (f:Nat→α→α) (n:Nat):Nat→α→α
 | 0,a=>a
 | k+1,a=>f (n - 1 - k) (zL f n k a)
theorem Vu {α:Type} (f:Nat→α→α) (n k:Nat) (hk:k≤n) (a:α):He f n a=He f (n - k) (zL f n k a):=by
 induction k with
 | zero=>rfl
 | succ k ih=>
  rw [ih (by omega),show n - k=n - (k+1)+1 by omega,He,zL,show n - 1 - k=n - (k+1) by omega]
theorem vw {α:Type} (f:Nat→α→α) (n:Nat) (a:α):zL f n n a=He f n a:=by
 rw [Vu f n n (Nat.le_refl _),Nat.sub_self];rfl
theorem nO {α:Type} {f:Nat→List α→List α} (hf:∀i a,(f i a).length=a.length) (n k:Nat) (a:List α):(zL f n k a).length=a.length:=by
 induction k with
 | zero=>rfl
 | succ k ih=>rw [zL,hf,ih]
theorem pU {α:Type} (n k:Nat) (v:α):(List.replicate n v).getD k v=v:=by
 rw [List.getD_eq_getElem?_getD,List.getElem?_replicate];split<;>rfl
def sumD (n:Nat) (d:List aI):List Int:=d.foldl (fun a x=>a.set x.aM.toNat (a.getD x.aM.toNat 0+x.Load)) (List.replicate n 0)
def dW (l:List aj) (i:Nat) (a:List Int):List Int:=
 bif decide (0≤(l.getD i ah).Parent) then a.set (l.getD i ah).Parent.toNat (a.getD (l.getD i ah).Parent.toNat 0+a.getD i 0) else a
def iG (l:List aj) (d:List aI):List Int:=He (dW l) l.length (sumD l.length d)
theorem pV (n:Nat) (d:List aI):(sumD n d).length=n:=by
 unfold sumD;rw [Ow _ (fun a x=>List.length_set ..),List.length_replicate]
theorem mI (l:List aj) (i:Nat) (a:List Int):(dW l i a).length=a.length:=by
 unfold dW;cases decide (0≤(l.getD i ah).Parent)<;>simp
theorem Gc (l:List aj) (d:List aI):(iG l d).length=l.length:=by
 unfold iG;rw [Ox (mI l),pV]
def Bnd (a:List Int) (M:Int):Prop:=∀j,0≤a.getD j 0∧a.getD j 0≤M
theorem Bnd.set {a:List Int} {M N:Int} (h:Bnd a M) (hM:M≤N) (i:Nat) (v:Int) (hv:0≤v∧v≤N):Bnd (a.set i v) N:=fun j=>by
 rw [dA];have:=h j;split
 ·exact hv
 ·omega
theorem Rq (n:Nat) (d:List aI) (hd:∀x∈d,0≤x.Load∧x.Load≤10000) (i:Nat) (hi:i≤d.length):Bnd (sumD n (d.take i)) (10000*i):=by
 induction i with
 | zero=>intro j; rw [List.take_zero]; have:(sumD n []).getD j 0=0:=pU n j 0; omega
 | succ i ih=>
  have hsn:sumD n (d.take (i+1))=(sumD n (d.take i)).set (d.getD i bK).aM.toNat ((sumD n (d.take i)).getD (d.getD i bK).aM.toNat 0+(d.getD i bK).Load):=nT _ _ bK hi;rw [hsn];have h1:=ih (by omega);have h2:=hd _ (eY bK hi);have h3:=h1 (d.getD i bK).aM.toNat;exact h1.set (by omega) _ _ (by omega)
theorem Tj (l:List aj) (a:List Int) (M:Int) (h:Bnd a M) (k:Nat):Bnd (zL (dW l) l.length k a) (M*2 ^ k):=by
 induction k with
 | zero=>show Bnd a (M*2 ^ 0); rw [Int.pow_zero,Int.mul_one]; exact h
 | succ k ih=>
  rw [zL];have e:M*2 ^ (k+1)=M*2 ^ k+M*2 ^ k:=by rw [Int.pow_succ,← Int.mul_assoc]; omega
  rw [e];generalize zL (dW l) l.length k a=A at ih;generalize M*2 ^ k=X at ih;have hp:0≤X:=by have:=ih 0; omega
  unfold dW;cases decide (0≤(l.getD (l.length - 1 - k) ah).Parent) with
  | true=>
   have h1:=ih (l.getD (l.length - 1 - k) ah).Parent.toNat;have h2:=ih (l.length - 1 - k);exact ih.set (by omega) _ _ (by omega)
  | false=>
   intro j;have:=ih j;simp only [cond_false];omega
theorem Ak {l:List aj} {d:List aI} (hv:Cc l d) (k:Nat) (hk:k≤l.length):Bnd (zL (dW l) l.length k (sumD l.length d)) 100000000000:=by
 have h1:=Rq l.length d (fun x hx=>by have:=hv.VO x hx; omega) d.length (Nat.le_refl _);rw [List.take_length] at h1;have h2:=Tj l _ _ h1 k;have hvl:=hv.len;have hvd:=hv.aaY;have h3:(2:Int) ^ k≤2 ^ 16:=by exact_mod_cast Nat.pow_le_pow_right (n:=2) (by decide) (show k≤16 by omega)
 have h4:10000*(d.length:Int)*2 ^ k≤320000*2 ^ 16:=Int.mul_le_mul (by omega) h3 (Int.pow_nonneg (by decide)) (by decide);intro j;have:=h2 j;omega
theorem Xq {l:List aj} {d:List aI} (h:beginF l d=0):fA l d=true:=by
 unfold beginF at h;cases hc:bP l != 0 with
 | true=>rw [hc] at h; have:bP l=0:=h; rw [this] at hc; cases hc
 | false=>
  rw [hc] at h;cases hd:fA l d with
  | true=>rfl
  | false=>rw [hd] at h; cases h
def jl (l:List aj) (r:bE) (k:Nat):Int:=(l.getD k ah).aQ.getD (r.Level.getD k 0).toNat 0
def DL (l:List aj) (r:bE) (u:List Bool) (ld:List Int) (i:Nat):Bool:=
 bif !r.On.getD i false then u.getD i false
 else (decide (0≤(l.getD i ah).Parent)&&(!r.On.getD (l.getD i ah).Parent.toNat false||decide (jl l r (l.getD i ah).Parent.toNat<jl l r i+(l.getD i ah).dM)))||decide ((l.getD i ah).dU<ld.getD i 0)
def dBad (l:List aj) (r:bE) (x:aI):Bool:=!withinF (jl l r x.aM.toNat) x.Low x.High
def pW (l:List aj) (r:bE) (d:List aI):Bool:=(List.range l.length).all (fun i=>!DL l r (dF l d) (iG l d) i)&&!(d.any (dBad l r))
def fq (l:List aj) (r:bE) (d:List aI):Bool:=bif !yh l r||!fA l d then false else pW l r d
structure VP (l:List aj) (r:bE):Prop where
 On:r.On.length=l.length
 len:r.Level.length=l.length
 aQ:∀i,i<l.length→0≤r.Level.getD i 0∧(r.Level.getD i 0).toNat<(l.getD i ah).aQ.length∧r.Level.getD i 0<(l.getD i ah).aQ.length
theorem YN {l:List aj} {r:List Int} (h:r.length=l.length):Zu l r=true↔∀i,i<l.length→0≤r.getD i 0∧r.getD i 0<(l.getD i ah).aQ.length:=by
 induction l generalizing r with
 | nil=>simp [Zu]
 | cons s l ih=>
  cases r with
  | nil=>simp at h
  | cons k r=>
   rw [Zu,Bool.and_eq_true,sS,ih (by simpa using h)];constructor
   ·rintro ⟨h1,h2⟩ i hi;cases i with
    | zero=>show 0≤k∧k<s.aQ.length; omega
    | succ i=>exact h2 i (by simpa using hi)
   ·intro h2;refine ⟨?_,fun i hi=>h2 (i+1) (by simpa using hi)⟩;have:0≤k∧k<s.aQ.length:=h2 0 (by simp);omega
theorem zl {l:List aj} {r:bE}:yh l r=true↔bP l=0∧VP l r:=by
 unfold yh;cases h:((bP l != 0)||((r.On.length:Int) != l.length))||((r.Level.length:Int) != l.length) with
 | true=>
  simp only [cond_true];constructor
  ·intro h; cases h
  ·rintro ⟨h1,h2⟩;rw [h1,h2.On,h2.len] at h;simp at h
 | false=>
  simp only [cond_false];have h':bP l=0∧r.On.length=l.length∧r.Level.length=l.length:=by
   simp at h;omega
  rw [YN h'.2.2];constructor
  ·intro h1;exact ⟨h'.1,h'.2.1,h'.2.2,fun i hi=>by have:=h1 i hi; omega⟩
  ·intro h1 i hi;have:=h1.2.aQ i hi;omega
theorem Uy {p:Int} {v:List Int} (h:EL p v=true):∀j,j<v.length→p<v.getD j 0∧1≤v.getD j 0∧v.getD j 0≤5000:=by
 induction v generalizing p with
 | nil=>intro j hj; simp at hj
 | cons a v ih=>
  rw [EL,Bool.and_eq_true,Bool.not_eq_true',Bool.or_eq_false_iff,Bool.not_eq_false',sS] at h;have h1:=of_decide_eq_false h.1.2;intro j hj;cases j with
  | zero=>show p<a∧1≤a∧a≤5000; omega
  | succ j=>
   have:=ih h.2 j (by simpa using hj);show p<v.getD j 0∧1≤v.getD j 0∧v.getD j 0≤5000;omega
theorem uh {n i:Nat} {p:Nat→Bool} (hi:i<n) (h:p i=false):(List.range n).all p=false:=by
 rw [List.all_eq_false];exact ⟨i,by simpa using hi,by simp [h]⟩
theorem DN {n:Nat} {p:Nat→Bool} (h:∀i,i<n→p i=true):(List.range n).all p=true:=by
 rw [List.all_eq_true];intro i hi;exact h i (by simpa using hi)
theorem Hf {l:List aj} {d:List aI} {r:bE} (hv:Cc l d) (hr:VP l r) (i:Nat) (hi:i<l.length):1≤jl l r i∧jl l r i≤5000:=by
 have:=Uy (hv.aQ i hi) _ (hr.aQ i hi).2.1;unfold jl;omega
theorem DK {α:Type} (d:α) {a b:List α} (h1:a.length=b.length) (h2:∀j,j<a.length→a.getD j d=b.getD j d):a=b:=by
 apply List.ext_getElem h1;intro j hj hj';have:=h2 j hj;rw [List.getD_eq_getElem?_getD,List.getD_eq_getElem?_getD,List.getElem?_eq_getElem hj,List.getElem?_eq_getElem hj'] at this;exact this
def atD (d:List aI) (i:Nat):Bool:=d.any (fun x=>x.aM==(i:Int))
theorem Oy (n:Nat) (d:List aI) (hd:∀x∈d,0≤x.aM∧x.aM<n) (j:Nat):(kK n d).getD j false=atD d j:=by
 unfold kK atD;have key:∀(d:List aI) (a:List Bool),a.length=n→(∀x∈d,0≤x.aM∧x.aM<n)→(d.foldl (fun a x=>a.set x.aM.toNat true) a).getD j false=(a.getD j false||d.any (fun x=>x.aM==(j:Int))):=by
  intro d;induction d with
  | nil=>intro a _ _; simp
  | cons x d ih=>
   intro a ha hd;have hx:=hd x (by simp);rw [List.foldl_cons,ih _ (by simpa using ha) (fun y hy=>hd y (by simp [hy])),dA,List.any_cons];by_cases hj:j=x.aM.toNat
   ·have:(x.aM==(j:Int))=true:=by simp; omega
    rw [if_pos ⟨hj,by omega⟩,this];simp
   ·have:(x.aM==(j:Int))=false:=by simp; omega
    rw [if_neg (fun h=>hj h.1),this];simp
 rw [key d _ (by simp) hd,pU];simp
structure FC (l:List aj) (d:List aI) (k:Nat) (b:List Bool):Prop where
 len:b.length=l.length
 hi:∀j,j<l.length→l.length - k≤j→b.getD j false=(zL (dV l) l.length k (kK l.length d)).getD j false
 lo:∀j,j<l.length - k→(zL (dV l) l.length k (kK l.length d)).getD j false=(b.getD j false||atD d j)
def Hg (l:List aj) (d:List aI) (i:Nat) (b:List Bool):List Bool:=
 bif (b.getD i false||(l.getD i ah).Always||atD d i)&&decide (0≤(l.getD i ah).Parent) then (b.set i (b.getD i false||(l.getD i ah).Always||atD d i)).set (l.getD i ah).Parent.toNat true else b.set i (b.getD i false||(l.getD i ah).Always||atD d i)
theorem FC.step {l:List aj} {d:List aI} (hv:Cc l d) {k:Nat} {b:List Bool} (h:FC l d k b) (hk:k<l.length):FC l d (k+1) (Hg l d (l.length - 1 - k) b):=by
 obtain ⟨h1,h2,h3⟩:=h;have hup:zL (dV l) l.length (k+1) (kK l.length d)=dV l (l.length - 1 - k) (zL (dV l) l.length k (kK l.length d)):=rfl;have hal:(zL (dV l) l.length k (kK l.length d)).length=l.length:=by rw [nO (jC l),mH]
 generalize zL (dV l) l.length k (kK l.length d)=a at h2 h3 hup hal;have hs:=hv.aM (l.length - 1 - k) (by omega);have hai:=h3 (l.length - 1 - k) (by omega);generalize hi:l.length - 1 - k=i at hup hs hai;have hF:(a.getD i false||(l.getD i ah).Always)=(b.getD i false||(l.getD i ah).Always||atD d i):=by
  rw [hai];cases b.getD i false<;>cases (l.getD i ah).Always<;>cases atD d i<;>rfl
 refine ⟨?_,?_,?_⟩
 ·unfold Hg;cases (b.getD i false||(l.getD i ah).Always||atD d i)&&decide (0≤(l.getD i ah).Parent)<;>simp [h1]
 all_goals
  rw [hup]
  unfold Hg dV
  rw [hF]
  generalize (b.getD i false||(l.getD i ah).Always||atD d i)=F
  cases hc:F&&decide (0≤(l.getD i ah).Parent) with
  | true=>
   simp only [cond_true]
   simp only [Bool.and_eq_true] at hc
   have hp:=of_decide_eq_true hc.2
   intro j hj
   try intro hj2
   simp only [dA,List.length_set,h1,hal]
   by_cases hjp:j=(l.getD i ah).Parent.toNat∧(l.getD i ah).Parent.toNat<l.length
   ·rw [if_pos hjp,if_pos hjp]
    try rfl
   ·rw [if_neg hjp,if_neg hjp]
    by_cases hji:j=i∧i<l.length
    ·rw [if_pos hji,if_pos hji]
     try omega
    ·rw [if_neg hji,if_neg hji]
     first | exact h2 j (by omega) (by omega) | exact h3 j (by omega)
  | false=>
   simp only [cond_false]
   intro j hj
   try intro hj2
   simp only [dA,h1,hal]
   by_cases hji:j=i∧i<l.length
   ·rw [if_pos hji,if_pos hji]
    try omega
   ·rw [if_neg hji,if_neg hji]
    first | exact h2 j (by omega) (by omega) | exact h3 j (by omega)
theorem FC.done {l:List aj} {d:List aI} {b:List Bool} (h:FC l d l.length b):b=dF l d:=by
 refine DK false (by rw [h.len,vJ]) fun j hj=>?_;rw [h.hi j (by rw [← h.len]; exact hj) (by omega),vw];rfl
theorem FC.start {l:List aj} {d:List aI} (hv:Cc l d):FC l d 0 (List.replicate l.length false):=by
 refine ⟨by simp,fun j hj h=>by omega,fun j hj=>?_⟩;rw [pU];show (kK l.length d).getD j false=_;rw [Oy _ _ (fun x hx=>by have:=hv.VO x hx; omega)];simp
def dsum (d:List aI) (i:Nat):Int:=d.foldl (fun s x=>bif x.aM==(i:Int) then s+x.Load else s) 0
theorem Ja {d:List aI} {j i:Nat} (h:j<d.length):dsum (d.take (j+1)) i=bif (d.getD j bK).aM==(i:Int) then dsum (d.take j) i+(d.getD j bK).Load else dsum (d.take j) i:=nT _ _ bK h
theorem zm (n:Nat) (d:List aI) (hd:∀x∈d,0≤x.aM∧x.aM<n) (j:Nat):(sumD n d).getD j 0=dsum d j:=by
 unfold sumD dsum;have key:∀(d:List aI) (a:List Int) (s:Int),a.length=n→(∀x∈d,0≤x.aM∧x.aM<n)→a.getD j 0=s→(d.foldl (fun a x=>a.set x.aM.toNat (a.getD x.aM.toNat 0+x.Load)) a).getD j 0=d.foldl (fun s x=>bif x.aM==(j:Int) then s+x.Load else s) s:=by
  intro d;induction d with
  | nil=>intro a s _ _ h; exact h
  | cons x d ih=>
   intro a s ha hd h;have hx:=hd x (by simp);rw [List.foldl_cons,List.foldl_cons];refine ih _ _ (by simpa using ha) (fun y hy=>hd y (by simp [hy])) ?_;rw [dA];by_cases hj:j=x.aM.toNat
   ·have:(x.aM==(j:Int))=true:=by simp; omega
    rw [if_pos ⟨hj,by omega⟩,this,← hj,h];rfl
   ·have:(x.aM==(j:Int))=false:=by simp; omega
    rw [if_neg (fun h=>hj h.1),this];exact h
 exact key d _ 0 (by simp) hd (pU _ _ _)
theorem Hl {d:List aI} (hd:∀x∈d,0≤x.Load∧x.Load≤10000) (i j:Nat) (hj:j≤d.length):0≤dsum (d.take j) i∧dsum (d.take j) i≤10000*j:=by
 induction j with
 | zero=>rw [List.take_zero]; exact ⟨Int.le_refl _,Int.le_refl _⟩
 | succ j ih=>
  have:=ih (by omega);have h2:=hd _ (eY bK hj);rw [Ja hj];cases (d.getD j bK).aM==(i:Int) with
  | true=>simp only [cond_true]; omega
  | false=>simp only [cond_false]; omega
structure BF (l:List aj) (d:List aI) (k:Nat) (b:List Int):Prop where
 len:b.length=l.length
 pos:∀j,0≤b.getD j 0
 hi:∀j,j<l.length→l.length - k≤j→b.getD j 0=(zL (dW l) l.length k (sumD l.length d)).getD j 0
 lo:∀j,j<l.length - k→(zL (dW l) l.length k (sumD l.length d)).getD j 0=b.getD j 0+dsum d j
def EA (l:List aj) (d:List aI) (i:Nat) (b:List Int):List Int:=
 bif decide (0≤(l.getD i ah).Parent) then (b.set i (b.getD i 0+dsum d i)).set (l.getD i ah).Parent.toNat (b.getD (l.getD i ah).Parent.toNat 0+(b.getD i 0+dsum d i)) else b.set i (b.getD i 0+dsum d i)
theorem BF.step {l:List aj} {d:List aI} (hv:Cc l d) {k:Nat} {b:List Int} (h:BF l d k b) (hk:k<l.length):BF l d (k+1) (EA l d (l.length - 1 - k) b):=by
 obtain ⟨h1,h0,h2,h3⟩:=h;have hdp:∀i,0≤dsum d i:=fun i=>by
  have:=(Hl (d:=d) (fun x hx=>by have:=hv.VO x hx; omega) i d.length (Nat.le_refl _)).1;rwa [List.take_length] at this
 have hup:zL (dW l) l.length (k+1) (sumD l.length d)=dW l (l.length - 1 - k) (zL (dW l) l.length k (sumD l.length d)):=rfl;have hal:(zL (dW l) l.length k (sumD l.length d)).length=l.length:=by rw [nO (mI l),pV]
 generalize zL (dW l) l.length k (sumD l.length d)=a at h2 h3 hup hal;have hs:=hv.aM (l.length - 1 - k) (by omega);have hai:=h3 (l.length - 1 - k) (by omega);generalize hi:l.length - 1 - k=i at hup hs hai;have hb0:=h0 i;have hd0:=hdp i;refine ⟨?_,?_,?_,?_⟩
 ·unfold EA;cases decide (0≤(l.getD i ah).Parent)<;>simp [h1]
 ·intro j;have hb1:=h0 j;have hb2:=h0 (l.getD i ah).Parent.toNat;unfold EA;cases decide (0≤(l.getD i ah).Parent)<;>simp only [cond_true,cond_false,dA]<;>repeat' split
  all_goals omega
 all_goals
  rw [hup]
  unfold EA dW
  cases hc:decide (0≤(l.getD i ah).Parent) with
  | true=>
   simp only [cond_true]
   have hp:=of_decide_eq_true hc
   intro j hj
   try intro hj2
   simp only [dA,List.length_set,h1,hal]
   have hap:=h3 (l.getD i ah).Parent.toNat (by omega)
   by_cases hjp:j=(l.getD i ah).Parent.toNat∧(l.getD i ah).Parent.toNat<l.length
   ·rw [if_pos hjp,if_pos hjp]
    try rw [hjp.1]
    omega
   ·rw [if_neg hjp,if_neg hjp]
    by_cases hji:j=i∧i<l.length
    ·rw [if_pos hji,hji.1]
     omega
    ·rw [if_neg hji]
     first | exact h2 j (by omega) (by omega) | exact h3 j (by omega)
  | false=>
   simp only [cond_false]
   intro j hj
   try intro hj2
   simp only [dA,h1]
   by_cases hji:j=i∧i<l.length
   ·rw [if_pos hji,hji.1]
    omega
   ·rw [if_neg hji]
    first | exact h2 j (by omega) (by omega) | exact h3 j (by omega)
theorem BF.done {l:List aj} {d:List aI} {b:List Int} (h:BF l d l.length b):b=iG l d:=by
 refine DK 0 (by rw [h.len,Gc]) fun j hj=>?_;rw [h.hi j (by rw [← h.len]; exact hj) (by omega),vw];rfl
theorem BF.start {l:List aj} {d:List aI} (hv:Cc l d):BF l d 0 (List.replicate l.length 0):=by
 refine ⟨by simp,fun j=>by rw [pU]; omega,fun j hj h=>by omega,fun j hj=>?_⟩;rw [pU];show (sumD l.length d).getD j 0=_;rw [zm _ _ (fun x hx=>by have:=hv.VO x hx; omega)];simp
theorem BF.small {l:List aj} {d:List aI} (hv:Cc l d) {k:Nat} {b:List Int} (h:BF l d k b) (hk:k≤l.length) (j:Nat):0≤b.getD j 0∧b.getD j 0≤100000000000:=by
 have h1:=Ak hv k hk j;refine ⟨h.pos j,?_⟩;have hd:=(Hl (d:=d) (fun x hx=>by have:=hv.VO x hx; omega) j d.length (Nat.le_refl _)).1;rw [List.take_length] at hd;by_cases h2:j<l.length - k
 ·have:=h.lo j h2; omega
 ·by_cases h3:j<l.length
  ·have:=h.hi j h3 (by omega); omega
  ·rw [CG 0 (by rw [h.len]; omega)]; omega
def lvN:List Int→Int→Nat
 | [],_=>0
 | x::t,v=>bif decide (v≤x) then 0 else lvN t v+1
theorem ZW (v:Int) (l:List Int):lvN l v≤l.length:=by
 induction l with
 | nil=>exact Nat.le_refl _
 | cons x l ih=>
  rw [lvN];cases decide (v≤x)<;>simp<;>omega
theorem Xr {v:Int} {l:List Int}:∀j,j<lvN l v→l.getD j 0<v:=by
 induction l with
 | nil=>intro j hj; simp [lvN] at hj
 | cons x l ih=>
  rw [lvN];cases h:decide (v≤x) with
  | true=>intro j hj; simp at hj
  | false=>
   have:=of_decide_eq_false h;intro j hj;cases j with
   | zero=>show x<v; omega
   | succ j=>exact ih j (by simpa using hj)
theorem Tk {v:Int} {l:List Int} (h:lvN l v<l.length):v≤l.getD (lvN l v) 0:=by
 induction l with
 | nil=>simp at h
 | cons x l ih=>
  rw [lvN] at h ⊢;cases hd:decide (v≤x) with
  | true=>exact of_decide_eq_true hd
  | false=>
   rw [hd] at h;exact ih (by simpa using h)
theorem Xt {v:Int} {l:List Int} {k:Nat} (h0:k≤l.length) (h1:∀j,j<k→l.getD j 0<v) (h2:k<l.length→v≤l.getD k 0):k=lvN l v:=by
 have h3:=ZW v l;rcases Nat.lt_trichotomy k (lvN l v) with h | h | h
 ·have:=Xr k h;have:=h2 (by omega);omega
 ·exact h
 ·have:=Tk (v:=v) (l:=l) (by omega);have:=h1 _ h;omega
theorem ZX {p:Int} {v:List Int} (h:EL p v=true):∀i j,i<j→j<v.length→v.getD i 0<v.getD j 0:=by
 induction v generalizing p with
 | nil=>intro i j _ hj; simp at hj
 | cons a v ih=>
  rw [EL,Bool.and_eq_true] at h;intro i j hij hj;cases j with
  | zero=>omega
  | succ j=>
   cases i with
   | zero=>exact (Uy h.2 j (by simpa using hj)).1
   | succ i=>exact ih h.2 i j (by omega) (by simpa using hj)
structure DS where
 a:List Uw
 lv:List Int
def qF (n:Nat) (d:List aI):Nat→List Uw
 | 0=>List.replicate n ⟨0,-1,-1⟩
 | i+1=>bif decide (((qF n d i).getD (d.getD i bK).aM.toNat EK).qh<(d.getD i bK).Low) then (qF n d i).set (d.getD i bK).aM.toNat ⟨(d.getD i bK).Low,i,-1⟩ else qF n d i
def ru (l:List aj) (i:Nat) (s:DS):Nat:=lvN (l.getD i ah).aQ (s.a.getD i EK).qh
def needOf (l:List aj) (i:Nat) (s:DS):Int:=(l.getD i ah).aQ.getD (ru l i s) 0+(l.getD i ah).dM
def Al (l:List aj) (u:List Bool) (i:Nat) (s:DS):DS:=
 bif !u.getD i false then s
 else ⟨bif decide (0≤(l.getD i ah).Parent)&&decide ((s.a.getD (l.getD i ah).Parent.toNat EK).qh<needOf l i s) then s.a.set (l.getD i ah).Parent.toNat ⟨needOf l i s,-1,i⟩ else s.a,s.lv.set i (ru l i s)⟩
def wB (l:List aj) (u:List Bool) (i:Nat) (s:DS):Bool:=u.getD i false&&!decide ((ru l i s:Int)<(l.getD i ah).aQ.length)
def Mf (l:List aj) (u:List Bool):Nat→DS→DS×Int
 | 0,s=>(s,-1)
 | k+1,s=>bif wB l u k s then (s,k) else Mf l u k (Al l u k s)
def ds0 (l:List aj) (d:List aI):DS:=⟨qF l.length d d.length,List.replicate l.length 0⟩
def Gd (l:List aj) (d:List aI):DS×Int:=Mf l (dF l d) l.length (ds0 l d)
theorem Jb (n:Nat) (d:List aI) (i:Nat):(qF n d i).length=n:=by
 induction i with
 | zero=>simp [qF]
 | succ i ih=>
  rw [qF];cases decide (((qF n d i).getD (d.getD i bK).aM.toNat EK).qh<(d.getD i bK).Low)<;>simp [ih]
structure DOk (l:List aj) (s:DS):Prop where
 al:s.a.length=l.length
 ll:s.lv.length=l.length
theorem YO {l:List aj} {u:List Bool} {i:Nat} {s:DS} (h:DOk l s):DOk l (Al l u i s):=by
 unfold Al;cases u.getD i false with
 | false=>exact h
 | true=>
  refine ⟨?_,by simp [h.ll]⟩;simp only [Bool.not_true,cond_false];cases decide (0≤(l.getD i ah).Parent)&&decide ((s.a.getD (l.getD i ah).Parent.toNat EK).qh<needOf l i s)<;>simp [h.al]
theorem ZY (l:List aj) (d:List aI):DOk l (ds0 l d):=⟨Jb _ _ _,by simp [ds0]⟩
def kR (l:List aj) (d:List aI):bE×Int:=
 bif beginF l d != 0 then (FZ,beginF l d)
 else bif decide (0≤(Gd l d).2)||!fq l ⟨dF l d,(Gd l d).1.lv⟩ d then (FZ,9) else (⟨dF l d,(Gd l d).1.lv⟩,0)
def YP (l:List aj) (s:DS):Prop:=∀j,j<l.length→0≤s.lv.getD j 0∧s.lv.getD j 0<(l.getD j ah).aQ.length
def lvK (l:List aj) (k v:Int):Nat:=lvN (l.getD k.toNat ah).aQ v
def okK (l:List aj) (k v:Int):Bool:=decide (lvK l k v<(l.getD k.toNat ah).aQ.length)
def voK (l:List aj) (k v:Int):Int:=(l.getD k.toNat ah).aQ.getD (lvK l k v) 0
def rwN (l:List aj) (d:List aI) (last:Int):List Int→Int→Bool
 | [],_=>false
 | k::t,v=>bif !t.isEmpty then (bif !okK l k v then false else rwN l d last t (voK l k v+(l.getD k.toNat ah).dM))
  else bif !okK l k v||decide (last<0) then !okK l k v&&decide (last<0)
  else ((d.getD last.toNat bK).aM==k)&&decide ((d.getD last.toNat bK).High<voK l k v)
abbrev sAt (l:List aj) (i:Nat):aj:=l.getD i ah
abbrev wC (a:List Bool) (i:Nat):Bool:=a.getD i false
abbrev nAt (a:List Int) (i:Nat):Int:=a.getD i 0
theorem PN {l:List aj} {i:Nat} {a:List Bool} (hi:i<a.length) (hp:(sAt l i).Parent<i) (j:Nat):
  wC (dV l i a) j=true↔wC a j=true∨(j=i∧(sAt l i).Always=true)∨((sAt l i).Parent=j∧(wC a i=true∨(sAt l i).Always=true)):=by
 unfold dV wC sAt at *;generalize l.getD i ah=s at *;cases hx:(a.getD i false||s.Always) with
 | false=>
  simp only [Bool.false_and,cond_false];simp only [Bool.or_eq_false_iff] at hx;rw [dA,hx.1,hx.2];by_cases hj:j=i
  ·subst hj; rw [if_pos ⟨rfl,hi⟩,hx.1]; simp
  ·rw [if_neg (fun h=>hj h.1)]; simp [hj]
 | true=>
  have hx':a.getD i false=true∨s.Always=true:=by simpa using hx
  by_cases hp0:0≤s.Parent
  ·simp only [Bool.true_and,decide_eq_true hp0,cond_true];rw [dA,dA,List.length_set];by_cases hj:j=s.Parent.toNat
   ·have:j<a.length:=by omega
    rw [if_pos ⟨hj,by omega⟩];simp only [true_iff];exact .inr (.inr ⟨by omega,hx'⟩)
   ·rw [if_neg (fun h=>hj h.1)];have hj':¬ s.Parent=j:=by omega
    by_cases hji:j=i
    ·subst hji; rw [if_pos ⟨rfl,hi⟩]; simp only [true_iff,true_and]; exact hx'.elim .inl (fun h=>.inr (.inl h))
    ·rw [if_neg (fun h=>hji h.1)]; simp only [hji,hj',false_and,or_false]
  ·simp only [Bool.true_and,decide_eq_false hp0,cond_false];rw [dA];have hj':¬ s.Parent=j:=by omega
   by_cases hji:j=i
   ·subst hji; rw [if_pos ⟨rfl,hi⟩]; simp only [true_iff,true_and]; exact hx'.elim .inl (fun h=>.inr (.inl h))
   ·rw [if_neg (fun h=>hji h.1)]; simp only [hji,hj',false_and,or_false]
theorem YQ {l:List aj} {d:List aI} (hv:Cc l d):∀k,k≤l.length→∀j:Nat,
  wC (zL (dV l) l.length k (kK l.length d)) j=true↔atD d j=true∨(l.length - k≤j∧j<l.length∧(sAt l j).Always=true)∨∃c,l.length - k≤c∧c<l.length∧(sAt l c).Parent=j∧wC (zL (dV l) l.length k (kK l.length d)) c=true:=by
 intro k;induction k with
 | zero=>
  intro _ j;show (kK l.length d).getD j false=true↔_;rw [Oy _ _ (fun x hx=>by have:=hv.VO x hx; omega)];constructor
  ·exact .inl
  ·rintro (h | h | ⟨c,h⟩)
   ·exact h
   ·omega
   ·omega
 | succ k ih=>
  intro hk j;have ih:=ih (by omega);have hup:zL (dV l) l.length (k+1) (kK l.length d)=dV l (l.length - 1 - k) (zL (dV l) l.length k (kK l.length d)):=rfl;have hal:(zL (dV l) l.length k (kK l.length d)).length=l.length:=by rw [nO (jC l),mH]
  have hs:=hv.aM (l.length - 1 - k) (by omega);rw [hup];generalize zL (dV l) l.length k (kK l.length d)=a at ih hal;generalize hi:l.length - 1 - k=i at hs;have get:=PN (l:=l) (a:=a) (i:=i) (by omega) (by unfold sAt; omega);have hne:¬ (sAt l i).Parent=(i:Int):=by unfold sAt; omega
  have hgt:∀c,i<c→(wC (dV l i a) c=true↔wC a c=true):=fun c hc=>by
   rw [get c];constructor
   ·rintro (h | h | h)
    ·exact h
    ·omega
    ·have:(sAt l i).Parent=(c:Int):=h.1;unfold sAt at this;omega
   ·exact .inl
  constructor
  ·intro h;rcases (get j).1 h with h | h | h
   ·rcases (ih j).1 h with h | h | ⟨c,h1,h2,h3,h4⟩
    ·exact .inl h
    ·exact .inr (.inl ⟨by omega,h.2⟩)
    ·exact .inr (.inr ⟨c,by omega,h2,h3,(hgt c (by omega)).2 h4⟩)
   ·rw [h.1];exact .inr (.inl ⟨by omega,by omega,h.2⟩)
   ·refine .inr (.inr ⟨i,by omega,by omega,h.1,(get i).2 ?_⟩);rcases h.2 with h | h
    ·exact .inl h
    ·exact .inr (.inl ⟨rfl,h⟩)
  ·rintro (h | ⟨h1,h2,h3⟩ | ⟨c,h1,h2,h3,h4⟩)
   ·exact (get j).2 (.inl ((ih j).2 (.inl h)))
   ·by_cases hji:j=i
    ·subst hji; exact (get j).2 (.inr (.inl ⟨rfl,h3⟩))
    ·exact (get j).2 (.inl ((ih j).2 (.inr (.inl ⟨by omega,h2,h3⟩))))
   ·by_cases hci:c=i
    ·subst hci;refine (get j).2 (.inr (.inr ⟨h3,?_⟩));rcases (get c).1 h4 with h | h | h
     ·exact .inl h
     ·exact .inr h.2
     ·exact absurd h.1 hne
    ·exact (get j).2 (.inl ((ih j).2 (.inr (.inr ⟨c,by omega,h2,h3,(hgt c (by omega)).1 h4⟩))))
theorem Ho {l:List aj} {d:List aI} (hv:Cc l d) (j:Nat):
  wC (dF l d) j=true↔atD d j=true∨(j<l.length∧(sAt l j).Always=true)∨∃c,c<l.length∧(sAt l c).Parent=j∧wC (dF l d) c=true:=by
 have:=YQ hv l.length (Nat.le_refl _) j;rw [vw] at this;unfold dF;rw [this];constructor
 ·rintro (h | h | ⟨c,h⟩)
  ·exact .inl h
  ·exact .inr (.inl h.2)
  ·exact .inr (.inr ⟨c,h.2⟩)
 ·rintro (h | h | ⟨c,h⟩)
  ·exact .inl h
  ·exact .inr (.inl ⟨by omega,h⟩)
  ·exact .inr (.inr ⟨c,by omega,h⟩)
theorem lq {l:List aj} {d:List aI} {j:Nat} (h:wC (dF l d) j=true):j<l.length:=by
 rcases Nat.lt_or_ge j l.length with h1 | h1
 ·exact h1
 ·unfold wC at h;rw [CG false (by rw [vJ]; exact h1)] at h;cases h
theorem Vv {l:List aj} {d d':List aI} (hv:Cc l d) (hv':Cc l d') (h:∀j,atD d j=true→atD d' j=true):∀j,wC (dF l d) j=true→wC (dF l d') j=true:=by
 have key:∀m j,l.length - j≤m→wC (dF l d) j=true→wC (dF l d') j=true:=by
  intro m;induction m with
  | zero=>intro j hm hj; have:=lq hj; omega
  | succ m ih=>
   intro j hm hj;rw [Ho hv] at hj;rw [Ho hv'];rcases hj with hj | hj | ⟨c,h1,h2,h3⟩
   ·exact .inl (h j hj)
   ·exact .inr (.inl hj)
   ·have:=(hv.aM c h1).2.1;unfold sAt at h2;exact .inr (.inr ⟨c,h1,h2,ih c (by omega) h3⟩)
 intro j;exact key _ j (Nat.le_refl _)
theorem Rs {l:List aj} {d:List aI} (hv:Cc l d) {c:Nat} (h:wC (dF l d) c=true) (hp:0≤(sAt l c).Parent):wC (dF l d) (sAt l c).Parent.toNat=true:=by
 rw [Ho hv];exact .inr (.inr ⟨c,lq h,by omega,h⟩)
theorem Oz {l:List aj} {d:List aI} (hv:Cc l d) {x:aI} (h:x∈d):wC (dF l d) x.aM.toNat=true:=by
 rw [Ho hv];refine .inl ?_;unfold atD;rw [List.any_eq_true];have:=hv.VO x h;refine ⟨x,h,?_⟩;rw [beq_iff_eq];omega
def aaB (x:aI) (i:Nat):Int:=bif x.aM==(i:Int) then x.Load else 0
theorem oL (x:aI) (d:List aI) (i:Nat):dsum (x::d) i=aaB x i+dsum d i:=by
 have key:∀(d:List aI) (s:Int),d.foldl (fun s x=>bif x.aM==(i:Int) then s+x.Load else s) s=s+dsum d i:=by
  intro d;induction d with
  | nil=>intro s; show s=s+0; omega
  | cons y d ih=>
   intro s;unfold dsum;rw [List.foldl_cons,List.foldl_cons,ih,ih];cases y.aM==(i:Int)<;>simp<;>omega
 show d.foldl _ _=_;rw [key];unfold aaB;cases hb:x.aM==(i:Int)<;>simp [hb]
theorem Xu (a b:List aI) (i:Nat):dsum (a++b) i=dsum a i+dsum b i:=by
 induction a with
 | nil=>show dsum b i=0+dsum b i; omega
 | cons x a ih=>rw [List.cons_append,oL,oL,ih]; omega
theorem Vw {a b:List aI} (h:a.Perm b) (i:Nat):dsum a i=dsum b i:=by
 induction h with
 | nil=>rfl
 | cons x _ ih=>rw [oL,oL,ih]
 | swap x y l=>rw [oL,oL,oL,oL]; omega
 | trans _ _ h1 h2=>exact h1.trans h2
theorem Am {l:List aj} {i:Nat} {a:List Int} (hi:i<a.length) (hp:(sAt l i).Parent<i) (j:Nat):
  nAt (dW l i a) j=nAt a j+(if (sAt l i).Parent=j then nAt a i else 0):=by
 unfold dW nAt sAt at *;generalize l.getD i ah=s at *;by_cases hp0:0≤s.Parent
 ·rw [decide_eq_true hp0,cond_true,dA];by_cases hj:j=s.Parent.toNat
  ·have e:s.Parent=(j:Int):=by omega
   rw [if_pos ⟨hj,by omega⟩,if_pos e,hj]
  ·have e:¬ s.Parent=(j:Int):=by omega
   rw [if_neg (fun h=>hj h.1),if_neg e];omega
 ·have e:¬ s.Parent=(j:Int):=by omega
  rw [decide_eq_false hp0,cond_false,if_neg e];omega
theorem Xv {l:List aj} {d:List aI} (hv:Cc l d) {a b c:List Int} (ha:a.length=l.length) (hb:b.length=l.length) (hc:c.length=l.length) (h:∀j,nAt c j=nAt a j+nAt b j):∀k,k≤l.length→∀j,nAt (zL (dW l) l.length k c) j=nAt (zL (dW l) l.length k a) j+nAt (zL (dW l) l.length k b) j:=by
 intro k;induction k with
 | zero=>intro _; exact h
 | succ k ih=>
  intro hk j;have ih:=ih (by omega);have hs:=(hv.aM (l.length - 1 - k) (by omega)).2.1;rw [zL,zL,zL,Am (by rw [nO (mI l)]; omega) hs,Am (by rw [nO (mI l)]; omega) hs,Am (by rw [nO (mI l)]; omega) hs,ih j,ih (l.length - 1 - k)];split<;>omega
theorem EB {l:List aj} {d:List aI} (hv:Cc l d):∀x∈d,0≤x.aM∧x.aM<l.length:=fun x hx=>by have:=hv.VO x hx; omega
theorem Vx {l:List aj} {a b:List aI} (ha:Cc l a) (hb:Cc l b) (hab:∀x∈a++b,0≤x.aM∧x.aM<l.length) (j:Nat):nAt (iG l (a++b)) j=nAt (iG l a) j+nAt (iG l b) j:=by
 have:=Xv ha (pV l.length a) (pV l.length b) (pV l.length (a++b)) (fun j=>by
  unfold nAt;rw [zm _ _ hab,zm _ _ (EB ha),zm _ _ (EB hb),Xu]) l.length (Nat.le_refl _) j
 rw [vw,vw,vw] at this;exact this
theorem Tm {l:List aj} {a b:List aI} (ha:Cc l a) (hb:Cc l b) (h:∀j,dsum a j=dsum b j):iG l a=iG l b:=by
 unfold iG;rw [show sumD l.length a=sumD l.length b from DK 0 (by rw [pV,pV]) fun j _=>by rw [zm _ _ (EB ha),zm _ _ (EB hb),h j]]
theorem PO {l:List aj} {d:List aI} (hv:Cc l d) (j:Nat):0≤nAt (iG l d) j∧nAt (iG l d) j≤100000000000:=by
 have:=Ak hv l.length (Nat.le_refl _);rw [vw] at this;exact this j
abbrev dAt (a:List Uw) (i:Nat):Uw:=a.getD i EK
abbrev OA (d:List aI) (i:Nat):aI:=d.getD i bK
structure DI (n:Nat) (d:List aI) (i:Nat) (a:List Uw):Prop where
 len:a.length=n
 just:∀j,j<n→dAt a j=⟨0,-1,-1⟩∨∃q,q<i∧(OA d q).aM=j∧dAt a j=⟨(OA d q).Low,q,-1⟩
 Low:∀q,q<i→(OA d q).Low≤(dAt a (OA d q).aM.toNat).qh
theorem Xw {n:Nat} {d:List aI} (hd:∀x∈d,0≤x.aM∧x.aM<n):∀i,i≤d.length→DI n d i (qF n d i):=by
 intro i;induction i with
 | zero=>
  intro _;refine ⟨Jb _ _ _,fun j hj=>.inl ?_,fun q hq=>by omega⟩;show (List.replicate n (⟨0,-1,-1⟩:Uw)).getD j EK=_;rw [List.getD_eq_getElem?_getD,List.getElem?_replicate,if_pos hj];rfl
 | succ i ih=>
  intro hi;obtain ⟨h1,h2,h3⟩:=ih (by omega);have hx:=hd _ (eY bK (show i<d.length by omega));rw [qF];generalize qF n d i=a at h1 h2 h3;by_cases hb:(dAt a (OA d i).aM.toNat).qh<(OA d i).Low
  ·rw [show decide ((a.getD (d.getD i bK).aM.toNat EK).qh<(d.getD i bK).Low)=true from decide_eq_true hb,cond_true];refine ⟨by rw [List.length_set,h1],fun j hj=>?_,fun q hq=>?_⟩
   ·unfold dAt;rw [dA];split
    ·rename_i h; exact .inr ⟨i,by omega,by unfold OA; omega,rfl⟩
    ·rcases h2 j hj with h | ⟨q,h4,h5⟩
     ·exact .inl h
     ·exact .inr ⟨q,by omega,h5⟩
   ·unfold dAt;rw [dA];by_cases hqi:q=i
    ·subst hqi;rw [if_pos ⟨rfl,by omega⟩];exact Int.le_refl _
    ·have h4:=h3 q (by omega);split
     ·rename_i h;unfold dAt at h4 hb;show (OA d q).Low≤(OA d i).Low;rw [h.1] at h4;unfold OA at *;omega
     ·exact h4
  ·rw [show decide ((a.getD (d.getD i bK).aM.toNat EK).qh<(d.getD i bK).Low)=false from decide_eq_false hb,cond_false];refine ⟨h1,fun j hj=>?_,fun q hq=>?_⟩
   ·rcases h2 j hj with h | ⟨q,h4,h5⟩
    ·exact .inl h
    ·exact .inr ⟨q,by omega,h5⟩
   ·by_cases hqi:q=i
    ·subst hqi; omega
    ·exact h3 q (by omega)
structure Dm (l:List aj) (d:List aI) (u:List Bool) (k:Nat) (s:DS):Prop where
 al:s.a.length=l.length
 ll:s.lv.length=l.length
 just:∀j,j<l.length→dAt s.a j=⟨0,-1,-1⟩∨(∃q,q<d.length∧(OA d q).aM=j∧dAt s.a j=⟨(OA d q).Low,q,-1⟩)∨
  ∃c:Nat,k≤c∧c<l.length∧wC u c=true∧(sAt l c).Parent=j∧ru l c s<(sAt l c).aQ.length∧dAt s.a j=⟨needOf l c s,-1,c⟩
 Low:∀q,q<d.length→(OA d q).Low≤(dAt s.a (OA d q).aM.toNat).qh
 up:∀c,k≤c→c<l.length→wC u c=true→0≤(sAt l c).Parent→needOf l c s≤(dAt s.a (sAt l c).Parent.toNat).qh
 ok:∀c,k≤c→c<l.length→wC u c=true→ru l c s<(sAt l c).aQ.length∧nAt s.lv c=ru l c s
 zero:∀c,c<l.length→c<k∨wC u c=false→nAt s.lv c=0
theorem Z0 {l:List aj} {d:List aI} (hv:Cc l d) (u:List Bool):Dm l d u l.length (ds0 l d):=by
 obtain ⟨h1,h2,h3⟩:=Xw (EB hv) d.length (Nat.le_refl _);refine ⟨h1,by simp [ds0],fun j hj=>?_,h3,fun c hc hc'=>by omega,fun c hc hc'=>by omega,fun c hc _=>pU _ _ _⟩;rcases h2 j hj with h | h
 ·exact .inl h
 ·exact .inr (.inl h)
theorem dm_step {l:List aj} {d:List aI} {u:List Bool} {k:Nat} {s:DS} (hv:Cc l d) (hk:k<l.length) (h:Dm l d u (k+1) s) (hf:wB l u k s=false):Dm l d u k (Al l u k s):=by
 obtain ⟨al,ll,just,low,up,ok,zero⟩:=h;have hs:=(hv.aM k hk);unfold Al;cases hu:u.getD k false with
 | false=>
  simp only [Bool.not_false,cond_true];have hne:∀c,k≤c→wC u c=true→k+1≤c:=fun c h1 h2=>by
   rcases Nat.eq_or_lt_of_le h1 with h | h
   ·subst h; unfold wC at h2; rw [hu] at h2; cases h2
   ·exact h
  refine ⟨al,ll,fun j hj=>?_,low,fun c h1 h2 h3=>up c (hne c h1 h3) h2 h3,fun c h1 h2 h3=>ok c (hne c h1 h3) h2 h3,fun c h1 h2=>zero c h1 ?_⟩
  ·rcases just j hj with h | h | ⟨c,h1,h2⟩
   ·exact .inl h
   ·exact .inr (.inl h)
   ·exact .inr (.inr ⟨c,by omega,h2⟩)
  ·rcases h2 with h2 | h2
   ·exact .inl (by omega)
   ·exact .inr h2
 | true=>
  unfold wB at hf;rw [hu,Bool.true_and,Bool.not_eq_false'] at hf;have hf:=of_decide_eq_true hf;simp only [Bool.not_true,cond_false];generalize hA:(bif decide (0≤(l.getD k ah).Parent)&&decide ((s.a.getD (l.getD k ah).Parent.toNat EK).qh<needOf l k s) then s.a.set (l.getD k ah).Parent.toNat ⟨needOf l k s,-1,k⟩ else s.a)=A;have hAl:A.length=l.length:=by
   rw [← hA];cases decide (0≤(l.getD k ah).Parent)&&decide ((s.a.getD (l.getD k ah).Parent.toNat EK).qh<needOf l k s)<;>simp [al]
  have hget:∀j,dAt A j=dAt s.a j∧((sAt l k).Parent=(j:Int)→needOf l k s≤(dAt s.a j).qh)∨(sAt l k).Parent=(j:Int)∧(dAt s.a j).qh<needOf l k s∧dAt A j=⟨needOf l k s,-1,k⟩:=by
   intro j;rw [← hA];by_cases hp:0≤(l.getD k ah).Parent
   ·by_cases hn:(s.a.getD (l.getD k ah).Parent.toNat EK).qh<needOf l k s
    ·rw [decide_eq_true hp,decide_eq_true hn];simp only [Bool.and_self,cond_true];unfold dAt;rw [dA];by_cases hj:j=(l.getD k ah).Parent.toNat
     ·rw [if_pos ⟨hj,by omega⟩];refine .inr ⟨by unfold sAt; omega,by rw [hj]; exact hn,rfl⟩
     ·rw [if_neg (fun h=>hj h.1)];exact .inl ⟨rfl,fun h=>by unfold sAt at h; omega⟩
    ·rw [decide_eq_true hp,decide_eq_false hn];refine .inl ⟨rfl,fun h=>?_⟩;have:j=(l.getD k ah).Parent.toNat:=by unfold sAt at h; omega
     rw [this];exact Int.not_lt.1 hn
   ·rw [decide_eq_false hp];refine .inl ⟨rfl,fun h=>by unfold sAt at h; omega⟩
  have hge:∀j,(dAt s.a j).qh≤(dAt A j).qh:=fun j=>by
   rcases hget j with h | h
   ·rw [h.1]; exact Int.le_refl _
   ·rw [h.2.2]; exact Int.le_of_lt h.2.1
  have hsame:∀c,k≤c→dAt A c=dAt s.a c:=fun c hc=>by
   rcases hget c with h | h
   ·exact h.1
   ·have:=h.1; unfold sAt at this; omega
  have hlv:∀c,k≤c→∀x,ru l c ⟨A,x⟩=ru l c s:=fun c hc x=>by
   have:=hsame c hc;unfold ru;unfold dAt at this;simp only [this]
  have hnd:∀c,k≤c→∀x,needOf l c ⟨A,x⟩=needOf l c s:=fun c hc x=>by
   unfold needOf;rw [hlv c hc]
  refine ⟨hAl,by simp [ll],fun j hj=>?_,fun q hq=>Int.le_trans (low q hq) (hge _),fun c h1 h2 h3 h4=>?_,fun c h1 h2 h3=>?_,fun c h1 h2=>?_⟩
  ·show dAt A j=_∨_;rcases hget j with h | h
   ·show dAt A j=_∨(∃q,q<d.length∧(OA d q).aM=j∧dAt A j=_)∨∃c:Nat,_∧_∧_∧_∧_∧dAt A j=_;rw [h.1];rcases just j hj with h | h | ⟨c,h1,h2,h3,h4,h5,h6⟩
    ·exact .inl h
    ·exact .inr (.inl h)
    ·refine .inr (.inr ⟨c,by omega,h2,h3,h4,?_,?_⟩)
     ·rw [hlv c (by omega)]; exact h5
     ·rw [hnd c (by omega)]; exact h6
   ·refine .inr (.inr ⟨k,Nat.le_refl _,hk,hu,h.1,?_,?_⟩)
    ·rw [hlv k (Nat.le_refl _)]; unfold sAt; omega
    ·rw [hnd k (Nat.le_refl _)]; exact h.2.2
  ·show needOf l c _≤(dAt A (sAt l c).Parent.toNat).qh;rw [hnd c h1];rcases Nat.eq_or_lt_of_le h1 with h | h
   ·subst h;rcases hget (sAt l k).Parent.toNat with h | h
    ·rw [h.1]; exact h.2 (by omega)
    ·rw [h.2.2]; exact Int.le_refl _
   ·exact Int.le_trans (up c h h2 h3 h4) (hge _)
  ·rw [hlv c h1];show _∧nAt (s.lv.set k (ru l k s)) c=_;unfold nAt;rw [dA];rcases Nat.eq_or_lt_of_le h1 with h | h
   ·subst h;rw [if_pos ⟨rfl,by omega⟩];exact ⟨by unfold sAt; omega,rfl⟩
   ·rw [if_neg (by omega)];exact ok c h h2 h3
  ·show nAt (s.lv.set k (ru l k s)) c=0;unfold nAt;rw [dA];have hck:c≠k:=fun h=>by
    rcases h2 with h2 | h2
    ·omega
    ·subst h; unfold wC at h2; rw [hu] at h2; cases h2
   rw [if_neg (fun h=>hck h.1)];refine zero c h1 ?_;rcases h2 with h2 | h2
   ·exact .inl (by omega)
   ·exact .inr h2
theorem YR {l:List aj} {d:List aI} {u:List Bool} (hv:Cc l d):∀(k:Nat) (s:DS),k≤l.length→Dm l d u k s→
  ((Mf l u k s).2 = -1∧Dm l d u 0 (Mf l u k s).1)∨∃q:Nat,(Mf l u k s).2=q∧q<k∧Dm l d u (q+1) (Mf l u k s).1∧wB l u q (Mf l u k s).1=true:=by
 intro k;induction k with
 | zero=>intro s _ h; exact .inl ⟨rfl,h⟩
 | succ k ih=>
  intro s hk h;rw [Mf];cases hf:wB l u k s with
  | true=>exact .inr ⟨k,rfl,by omega,h,hf⟩
  | false=>
   simp only [cond_false];rcases ih _ (by omega) (dm_step hv (by omega) h hf) with h | ⟨q,h1,h2,h3⟩
   ·exact .inl h
   ·exact .inr ⟨q,h1,by omega,h3⟩
theorem demF_dm {l:List aj} {d:List aI} (hv:Cc l d):((Gd l d).2 = -1∧Dm l d (dF l d) 0 (Gd l d).1)∨∃q:Nat,(Gd l d).2=q∧q<l.length∧Dm l d (dF l d) (q+1) (Gd l d).1∧wB l (dF l d) q (Gd l d).1=true:=
 YR hv _ _ (Nat.le_refl _) (Z0 hv _)
structure Mt (l:List aj) (r:bE) (d:List aI):Prop where
 used:∀i,wC (dF l d) i=true→wC r.On i=true
 Parent:∀i,i<l.length→wC r.On i=true→0≤(sAt l i).Parent→wC r.On (sAt l i).Parent.toNat=true∧jl l r i+(sAt l i).dM≤jl l r (sAt l i).Parent.toNat
 dU:∀i,i<l.length→wC r.On i=true→nAt (iG l d) i≤(sAt l i).dU
 VO:∀x∈d,x.Low≤jl l r x.aM.toNat∧jl l r x.aM.toNat≤x.High
theorem Tn {l:List aj} {r:bE} {d:List aI}:pW l r d=true↔Mt l r d:=by
 unfold pW;rw [Bool.and_eq_true,List.all_eq_true,Bool.not_eq_true',List.any_eq_false];have hb:∀i,(!DL l r (dF l d) (iG l d) i)=true↔(wC r.On i=false→wC (dF l d) i=false)∧(wC r.On i=true→(0≤(sAt l i).Parent→wC r.On (sAt l i).Parent.toNat=true∧jl l r i+(sAt l i).dM≤jl l r (sAt l i).Parent.toNat)∧nAt (iG l d) i≤(sAt l i).dU):=by
  intro i;unfold DL wC sAt nAt;cases hon:r.On.getD i false with
  | false=>simp
  | true=>
   simp only [Bool.not_true,cond_false,Bool.not_eq_true',Bool.or_eq_false_iff,Bool.and_eq_false_iff,decide_eq_false_iff_not,Int.not_lt,Bool.not_eq_false'];constructor
   ·rintro ⟨h1,h2⟩;refine ⟨nofun,fun _=>⟨fun hp=>?_,h2⟩⟩;rcases h1 with h1 | h1
    ·exact absurd hp h1
    ·exact h1
   ·rintro ⟨_,h⟩;obtain ⟨h1,h2⟩:=h (by trivial);refine ⟨?_,h2⟩;by_cases hp:0≤(l.getD i ah).Parent
    ·exact .inr (h1 hp)
    ·exact .inl hp
 have hd:∀x,¬ dBad l r x=true↔x.Low≤jl l r x.aM.toNat∧jl l r x.aM.toNat≤x.High:=by
  intro x;unfold dBad;rw [Bool.not_eq_true,Bool.not_eq_false',sS]
 constructor
 ·rintro ⟨h1,h2⟩;have h1:∀i,i<l.length→_:=fun i hi=>(hb i).1 (h1 i (List.mem_range.2 hi));refine ⟨fun i hi=>?_,fun i hi ho=>((h1 i hi).2 ho).1,fun i hi ho=>((h1 i hi).2 ho).2,fun x hx=>(hd x).1 (h2 x hx)⟩;have hlt:=lq hi;cases ho:wC r.On i with
  | true=>rfl
  | false=>rw [(h1 i hlt).1 ho] at hi; cases hi
 ·rintro ⟨h1,h2,h3,h4⟩;refine ⟨fun i hi=>(hb i).2 ⟨fun ho=>?_,fun ho=>⟨h2 i (List.mem_range.1 hi) ho,h3 i (List.mem_range.1 hi) ho⟩⟩,fun x hx=>(hd x).2 (h4 x hx)⟩;cases hu:wC (dF l d) i with
  | false=>rfl
  | true=>rw [h1 i hu] at ho; cases ho
theorem DR {l:List aj} {d:List aI} (h:fA l d=true):bP l=0:=by
 unfold fA at h;simp only [Bool.and_eq_true] at h;simpa using h.1.1
theorem lW {l:List aj} {r:bE} {d:List aI} (h:fA l d=true):fq l r d=true↔VP l r∧Mt l r d:=by
 unfold fq;rw [h];cases hr:yh l r with
 | false=>
  simp;intro hk;rw [zl.2 ⟨DR h,hk⟩] at hr;cases hr
 | true=>
  simp only [Bool.not_true,Bool.or_self,cond_false];rw [Tn];exact ⟨fun hm=>⟨(zl.1 hr).2,hm⟩,fun hm=>hm.2⟩
theorem KX {v:Int} {lev:List Int} {t:Nat} (hv:v≤lev.getD t 0):lvN lev v≤t:=by
 rcases Nat.lt_or_ge t (lvN lev v) with h | h
 ·have:=Xr t h; omega
 ·exact h
theorem Xx {p:Int} {v:List Int} (h:EL p v=true) {i j:Nat} (hij:i≤j) (hj:j<v.length):v.getD i 0≤v.getD j 0:=by
 rcases Nat.eq_or_lt_of_le hij with h1 | h1
 ·subst h1; exact Int.le_refl _
 ·exact Int.le_of_lt (ZX h i j h1 hj)
theorem Xy {l:List aj} {d:List aI} {k:Nat} {s:DS} {r:bE} (hv:Cc l d) (hr:VP l r) (hm:Mt l r d) (h:Dm l d (dF l d) k s):∀j,wC (dF l d) j=true→(dAt s.a j).qh≤jl l r j:=by
 have key:∀m j,l.length - j≤m→wC (dF l d) j=true→(dAt s.a j).qh≤jl l r j:=by
  intro m;induction m with
  | zero=>intro j h1 h2; have:=lq h2; omega
  | succ m ih=>
   intro j h1 hj;have hlt:=lq hj;rcases h.just j hlt with h2 | ⟨q,h2,h3,h4⟩ | ⟨c,h2,h3,h4,h5,h6,h7⟩
   ·rw [h2];have:=Hf hv hr j hlt;show 0≤_;omega
   ·rw [h4];have:=(hm.VO _ (eY bK h2)).1;have e:(d.getD q bK).aM.toNat=j:=by unfold OA at h3; omega
    rw [e] at this;exact this
   ·rw [h7];have hc:=(hv.aM c h3).2.1;have h8:=ih c (by unfold sAt at h5; omega) h4;have h9:=hm.Parent c h3 (hm.used c h4) (by omega);have e:(sAt l c).Parent.toNat=j:=by omega
    rw [e] at h9;have h10:=hr.aQ c h3;have h11:ru l c s≤(r.Level.getD c 0).toNat:=KX h8;have h12:=Xx (hv.aQ c h3) h11 h10.2.1;refine Int.le_trans ?_ h9.2;show (l.getD c ah).aQ.getD (ru l c s) 0+(l.getD c ah).dM≤jl l r c+(sAt l c).dM;unfold jl sAt;omega
 exact fun j=>key _ j (Nat.le_refl _)
theorem Vy {l:List aj} {d:List aI} {q:Nat} {s:DS} {r:bE} (hv:Cc l d) (hr:VP l r) (hm:Mt l r d) (h:Dm l d (dF l d) (q+1) s) (hf:wB l (dF l d) q s=true):False:=by
 unfold wB at hf;rw [Bool.and_eq_true,Bool.not_eq_true'] at hf;have h1:=of_decide_eq_false hf.2;have hlt:=lq (l:=l) (d:=d) (j:=q) hf.1;have h2:=Xy hv hr hm h q hf.1;have h3:=hr.aQ q hlt;have h4:ru l q s≤(r.Level.getD q 0).toNat:=KX h2;omega
theorem Vz {l:List aj} {d:List aI} {s:DS} (hv:Cc l d) (h:Dm l d (dF l d) 0 s):VP l ⟨dF l d,s.lv⟩:=by
 refine ⟨vJ l d,h.ll,fun i hi=>?_⟩;cases hu:wC (dF l d) i with
 | true=>
  have:=h.ok i (Nat.zero_le _) hi hu;unfold nAt sAt at this;show 0≤s.lv.getD i 0∧(s.lv.getD i 0).toNat<_∧s.lv.getD i 0<_;omega
 | false=>
  have:=h.zero i hi (.inr hu);unfold nAt at this;have h1:=(hv.aM i hi).2.2.1;show 0≤s.lv.getD i 0∧(s.lv.getD i 0).toNat<_∧s.lv.getD i 0<_;omega
theorem Ao {l:List aj} {d:List aI} {s:DS} (h:Dm l d (dF l d) 0 s) {i:Nat} (hu:wC (dF l d) i=true):jl l ⟨dF l d,s.lv⟩ i=(sAt l i).aQ.getD (ru l i s) 0:=by
 have:=(h.ok i (Nat.zero_le _) (lq hu) hu).2;unfold nAt at this;unfold jl;show (l.getD i ah).aQ.getD (s.lv.getD i 0).toNat 0=_;rw [this];rfl
theorem Xz {l:List aj} {d:List aI} {s:DS} (hv:Cc l d) (h:Dm l d (dF l d) 0 s) (hcap:∀i,wC (dF l d) i=true→nAt (iG l d) i≤(sAt l i).dU)
  (hhi:∀x∈d,jl l ⟨dF l d,s.lv⟩ x.aM.toNat≤x.High):Mt l ⟨dF l d,s.lv⟩ d:=by
 refine ⟨fun i hi=>hi,fun i hi ho hp=>⟨Rs hv ho hp,?_⟩,fun i hi ho=>hcap i ho,fun x hx=>⟨?_,hhi x hx⟩⟩
 ·have hpu:=Rs hv ho hp;have h1:=h.up i (Nat.zero_le _) hi ho hp;have h2:=h.ok _ (Nat.zero_le _) (lq hpu) hpu;rw [Ao h ho,Ao h hpu];have h3:=Tk (v:=(dAt s.a (sAt l i).Parent.toNat).qh) (l:=(sAt l (sAt l i).Parent.toNat).aQ) h2.1;exact Int.le_trans h1 h3
 ·have hu:=Oz hv hx;obtain ⟨q,hq,rfl⟩:∃q,q<d.length∧x=OA d q:=by
   obtain ⟨q,hq,e⟩:=List.mem_iff_getElem.1 hx;exact ⟨q,hq,by unfold OA; rw [List.getD_eq_getElem?_getD,List.getElem?_eq_getElem hq,e]; rfl⟩
  rw [Ao h hu];exact Int.le_trans (h.Low q hq) (Tk (h.ok _ (Nat.zero_le _) (lq hu) hu).1)
structure Best (l:List aj) (d:List aI) (r:bE):Prop where
 ok:fq l r d=true
 On:r.On=dF l d
 zero:∀i,wC (dF l d) i=false→nAt r.Level i=0
 least:∀q,fq l q d=true→∀i,wC (dF l d) i=true→wC q.On i=true∧nAt r.Level i≤nAt q.Level i
theorem Rt {l:List aj} {d:List aI} (h:fA l d=true):beginF l d=0:=by
 unfold beginF;rw [h,DR h];rfl
theorem Tq {l:List aj} {d:List aI} (h:fA l d=true):((kR l d).2=0∧Best l d (kR l d).1)∨(kR l d=(FZ,9)∧∀q,fq l q d=false):=by
 have hv:=qZ h;unfold kR;rw [Rt h];simp only [bne_self_eq_false,cond_false];rcases demF_dm hv with ⟨h1,h2⟩ | ⟨q,h1,h2,h3,h4⟩
 ·generalize Gd l d=p at h1 h2;obtain ⟨s,f⟩:=p;simp only at h1 h2;subst h1;cases hm:fq l ⟨dF l d,s.lv⟩ d with
  | true=>
   refine .inl ⟨rfl,?_⟩;show Best l d ⟨dF l d,s.lv⟩;refine ⟨hm,rfl,fun i hi=>?_,fun q hq i hi=>?_⟩
   ·by_cases hl:i<l.length
    ·exact h2.zero i hl (.inr hi)
    ·exact CG 0 (by show s.lv.length≤i; rw [h2.ll]; omega)
   ·obtain ⟨hr,hmt⟩:=(lW h).1 hq;refine ⟨hmt.used i hi,?_⟩;have h5:=Xy hv hr hmt h2 i hi;have h6:ru l i s≤(q.Level.getD i 0).toNat:=KX h5;have h7:=(h2.ok i (Nat.zero_le _) (lq hi) hi).2;have h8:=hr.aQ i (lq hi);show nAt s.lv i≤nAt q.Level i;rw [h7];unfold nAt;omega
  | false=>
   refine .inr ⟨rfl,fun q=>?_⟩;cases hq:fq l q d with
   | false=>rfl
   | true=>
    obtain ⟨hr,hmt⟩:=(lW h).1 hq;exfalso;have hle:=Xy hv hr hmt h2;have:=(lW h).2 ⟨Vz hv h2,Xz hv h2 (fun i hi=>hmt.dU i (lq hi) (hmt.used i hi)) (fun x hx=>?_)⟩
    ·rw [hm] at this; cases this
    ·have hu:=Oz hv hx;rw [Ao h2 hu];have h6:ru l x.aM.toNat s≤(q.Level.getD x.aM.toNat 0).toNat:=KX (hle _ hu);have h8:=hr.aQ _ (lq hu);have h9:=Xx (hv.aQ _ (lq hu)) h6 h8.2.1;have h10:=(hmt.VO x hx).2;unfold jl at h10;unfold sAt;omega
 ·refine .inr ⟨?_,fun r=>?_⟩
  ·rw [h1,decide_eq_true (by omega:(0:Int)≤(q:Nat))];rfl
  ·cases hq:fq l r d with
   | false=>rfl
   | true=>
    obtain ⟨hr,hmt⟩:=(lW h).1 hq;exact (Vy hv hr hmt h3 h4).elim
def jnL (l:List aj) (u:List Bool):List Int→Prop
 | []=>True
 | k::t=>(0≤k∧k<l.length∧wC u k.toNat=true∧(∀k',t.head? = some k'→(sAt l k.toNat).Parent=k'))∧jnL l u t
structure Good (l:List aj) (d:List aI) (last:Int) (c:List Int) (fst:Int):Prop where
 ne:c≠[]
 jn:jnL l (dF l d) c
 lo : -1≤fst
 hi:fst<d.length
 yes:0≤fst→(OA d fst.toNat).aM=nAt c 0∧rwN l d last c (OA d fst.toNat).Low=true
 no:fst<0→rwN l d last c 0=true
theorem Ru {l:List aj} {r:bE} {d e:List aI} (hd:Cc l d) (he:Cc l e) (hu:∀j,atD d j=true→atD e j=true) (hl:∀j,nAt (iG l d) j≤nAt (iG l e) j) (hs:∀x∈d,x∈e) (h:Mt l r e):Mt l r d:=
 ⟨fun i hi=>h.used i (Vv hd he hu i hi),h.Parent,fun i hi ho=>Int.le_trans (hl i) (h.dU i hi ho),fun x hx=>h.VO x (hs x hx)⟩
theorem Rv {d e:List aI} (hs:∀x∈d,x∈e) (j:Nat) (h:atD d j=true):atD e j=true:=by
 unfold atD at *;rw [List.any_eq_true] at *;obtain ⟨x,hx,h⟩:=h;exact ⟨x,hs x hx,h⟩
theorem OB {l:List aj} {d e:List aI} (hd:fA l d=true) (he:fA l e=true) (hn:d.length+e.length≤32):fA l (d++e)=true:=by
 unfold fA at *;simp only [Bool.and_eq_true,Bool.not_eq_true'] at *;refine ⟨⟨hd.1.1,decide_eq_true (by rw [List.length_append]; omega)⟩,?_⟩;rw [List.any_append,hd.2,he.2];rfl
theorem PS {l:List aj} {d e:List aI} (hd:fA l d=true) (he:fA l e=true) (hn:d.length+e.length≤32) (j:Nat):nAt (iG l d) j≤nAt (iG l (d++e)) j:=by
 have:=Vx (qZ hd) (qZ he) (EB (qZ (OB hd he hn))) j;have:=(PO (qZ he) j).1;omega
theorem Rw {l:List aj} {r:bE} {d e:List aI} (hd:fA l d=true) (he:fA l e=true) (hn:d.length+e.length≤32) (h:fq l r (d++e)=true):fq l r d=true:=by
 have hde:=OB hd he hn;obtain ⟨h1,h2⟩:=(lW hde).1 h;refine (lW hd).2 ⟨h1,Ru (qZ hd) (qZ hde) (Rv (fun x hx=>List.mem_append_left _ hx)) (PS hd he hn) (fun x hx=>List.mem_append_left _ hx) h2⟩
theorem Tt {l:List aj} {d e:List aI} (hp:d.Perm e):fA l d=fA l e:=by
 unfold fA;rw [hp.length_eq];congr 2;rw [Bool.eq_iff_iff,List.any_eq_true,List.any_eq_true];exact ⟨fun ⟨x,h1,h2⟩=>⟨x,hp.mem_iff.1 h1,h2⟩,fun ⟨x,h1,h2⟩=>⟨x,hp.mem_iff.2 h1,h2⟩⟩
theorem Tv {l:List aj} {r:bE} {d e:List aI} (hp:d.Perm e) (h:fq l r d=true) (hd:fA l d=true):fq l r e=true:=by
 have he:fA l e=true:=by rw [← Tt hp]; exact hd
 obtain ⟨h1,h2⟩:=(lW hd).1 h;refine (lW he).2 ⟨h1,Ru (qZ he) (qZ hd) (Rv fun x hx=>hp.mem_iff.2 hx) (fun j=>?_) (fun x hx=>hp.mem_iff.2 hx) h2⟩;rw [Tm (qZ he) (qZ hd) (fun j=>(Vw hp j).symm)];exact Int.le_refl _
def yj (a:List Uw):List Int:=a.map Uw.qh
theorem DT (a:List Uw) (j:Nat):(yj a).getD j 0=(a.getD j EK).qh:=by
 unfold yj;rw [List.getD_eq_getElem?_getD,List.getElem?_map,List.getD_eq_getElem?_getD];cases a[j]? <;> rfl
theorem Rx (a:List Uw) (j:Nat) (x:Uw):yj (a.set j x)=(yj a).set j x.qh:=by
 unfold yj;rw [List.map_set]
theorem Ry (a:List Uw):(yj a).length=a.length:=by simp [yj]
theorem set_self (a:List Int) (j:Nat):a.set j (a.getD j 0)=a:=by
 refine DK 0 (by simp) fun k hk=>?_;rw [dA];split
 ·rename_i h; rw [h.1]
 ·rfl
theorem Rz (a:List Int) (j:Nat) (v:Int) (h:v=a.getD j 0):a.set j v=a:=by
 rw [h,set_self]
theorem Tw (n:Nat) (d:List aI) (i:Nat):yj (qF n d (i+1))=(yj (qF n d i)).set (d.getD i bK).aM.toNat (if (d.getD i bK).Low > (yj (qF n d i)).getD (d.getD i bK).aM.toNat 0 then (d.getD i bK).Low else (yj (qF n d i)).getD (d.getD i bK).aM.toNat 0):=by
 rw [qF,DT];by_cases h:((qF n d i).getD (d.getD i bK).aM.toNat EK).qh<(d.getD i bK).Low
 ·rw [decide_eq_true h,cond_true,Rx,if_pos h]
 ·rw [decide_eq_false h,cond_false,if_neg h,Rz _ _ _ (DT _ _).symm]
theorem XA {l:List aj} {u:List Bool} {s:DS} (hu:u.length=l.length) (h:DOk l s) (hl:YP l s):VP l ⟨u,s.lv⟩:=
 ⟨hu,h.ll,fun i hi=>by
  have:=hl i hi;show 0≤s.lv.getD i 0∧(s.lv.getD i 0).toNat<_∧s.lv.getD i 0<_;omega⟩
theorem YS {l:List aj} {u:List Bool} {k:Nat} {s:DS} (hf:wB l u k s=false) (h:YP l s):YP l (Al l u k s):=by
 intro j hj;unfold Al;cases hu:u.getD k false with
 | false=>exact h j hj
 | true=>
  unfold wB at hf;rw [hu,Bool.true_and,Bool.not_eq_false'] at hf;have:=of_decide_eq_true hf;show 0≤(s.lv.set k (ru l k s)).getD j 0∧(s.lv.set k (ru l k s)).getD j 0<_;rw [dA];split
  ·rename_i hjk; rw [hjk.1]; omega
  ·exact h j hj
structure aa1 (l:List aj) (d:List aI) (r:bE) (ok:Bool):Prop where
 is:ok=((kR l d).2==0)
 yes:ok=true→fq l r d=true
 no:ok=false→r=(kR l d).1
end Go.Proofs.YtfblhejmclcdmaaGreatDoor.Sp


namespace Go.Proofs.YtfblhejmclcdmaaGreatDoor.Sp
open Go.Ab
set_option maxRecDepth 100000
theorem fB {n_:Int} {lo_:Int} {hi_:Int}:W (eG n_ lo_ hi_) (fun r=>r=withinF n_ lo_ hi_):=by
 unfold eG;refine ak ?_;rfl
theorem Jc {s_:aj}:W (lH s_) (fun r=>r=bigS s_):=by
 unfold lH;refine ak ?_;rfl
theorem rz {s_:(List aj)} (h1:s_.length≤1000000):W (iM s_) (fun r=>r=s_.any (bigS)):=
 CJ (Fy (GX (p:=fun x=>lH x) (P:=bigS) (fun x hx=>jR (Jc)) (by omega)) (nD _ _))
theorem Mg {s_:aj} {at_:Int} (h1:0≤at_) (h2:at_≤1000000) (h3:s_.aQ.length≤1000000):W (uO s_ at_) (fun r=>r=validS s_ at_):=by
 unfold uO;refine wn ?_;refine aC (fB) fun v1 hv1=>?_;subst v1;refine aC (d9 fun hc=>jR (fB)) fun v2 hv2=>?_;subst v2;refine aC (d9 fun hc=>jR (fB)) fun v3 hv3=>?_;subst v3;refine aF (fun c1=>?_) (fun c1=>?_)
 ·have c1o:=c1;have c1:=nr c1;refine ak ?_;(unfold validS; rw [show headB s_ at_=true from c1o]; rfl)
 ·have c1o:=c1;have c1:=nr c1;refine aW (fun (g1:Int)=>0≤g1∧g1≤s_.aQ.length∧EL (if g1.toNat=0 then 0 else s_.aQ.getD (g1.toNat - 1) 0) (s_.aQ.drop g1.toNat)=EL 0 s_.aQ) (fun (g1:Int)=>(s_.aQ.length - g1).toNat) ?_ ?_
  ·intro self1 g1 hig1 ihg1;obtain ⟨hg1_1,hg1_2,hg1_3⟩:=hig1;unfold AZ;obtain ⟨i,rfl⟩:=Int.eq_ofNat_of_zero_le hg1_1;refine aF (fun c2=>?_) (fun c2=>?_)
   ·have c2:=nr c2;have hlt:i<s_.aQ.length:=(by omega);have hst:=Rm hlt rfl;rw [show ((i:Int).toNat)=i from rfl] at hg1_3;rw [hst] at hg1_3;have e1:(((i:Int) - 1).toNat)=i - 1:=(by omega);simp only [e1,Int.toNat_natCast] at *;refine wn ?_;refine aC (fB) fun v6 hv6=>?_;subst v6;refine wn ?_;refine wn ?_;refine aF (fun c3=>?_) (fun c3=>?_)
    ·have c3o:=c3;have c3:=nr c3;refine ak ?_;(unfold validS; rw [show headB s_ at_=false from c1o,← hg1_3]; rw [c3o]; rfl)
    ·have c3o:=c3;have c3:=nr c3;refine wn ?_;refine ihg1 _ ?_ ?_
     ·(refine ⟨by exact ob,by exact ob,?_⟩; rw [← hg1_3,c3o]; rw [show ((i:Int)+1).toNat=i+1 by omega,if_neg (by omega)]; rfl)
     ·exact ob
   ·have c2:=nr c2;refine ak ?_;have e:i=s_.aQ.length:=(by omega);unfold validS; rw [show headB s_ at_=false from c1o,← hg1_3,show (i:Int).toNat=i from rfl,e,List.drop_length]; rfl
  ·(refine ⟨by exact ob,by exact ob,rfl⟩)
theorem wD {l_:(List aj)} (h1:l_.length≤1000000):W (l9 l_) (fun r=>r=bP l_):=by
 unfold l9;refine aC (d9 fun hc=>jR (rz ob)) fun v1 hv1=>?_;subst v1;refine aF (fun c1=>?_) (fun c1=>?_)
 ·have c1o:=c1;have c1:=nr c1;refine ak ?_;(unfold bP; rw [c1o]; rfl)
 ·have c1o:=c1;have c1:=nr c1;have hbig:∀i:Nat,i<l_.length→bigS (l_.getD i ah)=false:=jH ah (by have:=c1o; simp only [Bool.or_eq_false_iff] at this; exact this.2);refine aW (fun (g1:Int)=>0≤g1∧g1≤l_.length∧I9 g1.toNat (l_.drop g1.toNat)=I9 0 l_) (fun (g1:Int)=>(l_.length - g1).toNat) ?_ ?_
  ·intro self1 g1 hig1 ihg1;obtain ⟨hg1_1,hg1_2,hg1_3⟩:=hig1;unfold A8;obtain ⟨i,rfl⟩:=Int.eq_ofNat_of_zero_le hg1_1;refine aF (fun c2=>?_) (fun c2=>?_)
   ·have c2:=nr c2;have hlt:i<l_.length:=(by omega);have hb:=hbig i hlt;have hbl:(l_.getD i ah).aQ.length≤16:=(by unfold bigS at hb; have:=of_decide_eq_false hb; omega);rw [show ((i:Int).toNat)=i from rfl,drop_cons ah hlt,I9] at hg1_3;simp only [Int.toNat_natCast] at *;refine wn ?_;refine aC (Mg (by omega) (by omega) (by omega)) fun v4 hv4=>?_;subst v4;refine aF (fun c3=>?_) (fun c3=>?_)
    ·have c3o:=c3;have c3:=nr c3;refine ak ?_;(unfold bP; rw [c1o,← hg1_3,show validS (l_.getD i ah) i=false by simpa using c3o]; rfl)
    ·have c3o:=c3;have c3:=nr c3;refine wn ?_;refine ihg1 _ ?_ ?_
     ·(refine ⟨by exact ob,by exact ob,?_⟩; rw [← hg1_3,show validS (l_.getD i ah) i=true by simpa using c3o,show ((i:Int)+1).toNat=i+1 by omega]; rfl)
     ·exact ob
   ·have c2:=nr c2;refine ak ?_;have e:i=l_.length:=(by omega);unfold bP; rw [c1o,← hg1_3,show (i:Int).toNat=i from rfl,e,List.drop_length]; rfl
  ·(refine ⟨by exact ob,by exact ob,rfl⟩)
theorem Mh {l_:(List aj)} {r_:bE} (h1:l_.length≤1000000) (h2:r_.Level.length≤1000000):W (uS l_ r_) (fun r=>r=yh l_ r_):=by
 unfold uS;refine aC (wD ob) fun v1 hv1=>?_;subst v1;refine aF (fun c1=>?_) (fun c1=>?_)
 ·have c1o:=c1;have c1:=nr c1;refine ak ?_;(unfold yh; rw [c1o]; rfl)
 ·have c1o:=c1;have c1:=nr c1;have hck:bP l_=0∧r_.On.length=l_.length∧r_.Level.length=l_.length:=(by have:=c1o; simp only [Bool.or_eq_false_iff,bne_eq_false_iff_eq] at this; omega);obtain ⟨b1,b2,b3⟩:=G9 hck.1;refine aW (fun (g1:Int)=>0≤g1∧g1≤l_.length∧Zu (l_.drop g1.toNat) (r_.Level.drop g1.toNat)=Zu l_ r_.Level) (fun (g1:Int)=>(l_.length - g1).toNat) ?_ ?_
  ·intro self1 g1 hig1 ihg1;obtain ⟨hg1_1,hg1_2,hg1_3⟩:=hig1;unfold Bb;obtain ⟨i,rfl⟩:=Int.eq_ofNat_of_zero_le hg1_1;refine aF (fun c2=>?_) (fun c2=>?_)
   ·have c2:=nr c2;have hlt:i<l_.length:=(by omega);have hb:=b2 i hlt;rw [show ((i:Int).toNat)=i from rfl,drop_cons ah hlt,drop_cons 0 (show i<r_.Level.length by omega),Zu] at hg1_3;simp only [Int.toNat_natCast] at *;refine wn ?_;refine wn ?_;refine wn ?_;refine aC (fB) fun v4 hv4=>?_;subst v4;refine aF (fun c3=>?_) (fun c3=>?_)
    ·have c3o:=c3;have c3:=nr c3;refine ak ?_;(unfold yh; rw [c1o,← hg1_3]; rw [show withinF (r_.Level.getD i 0) 0 _=false by simpa using c3o]; rfl)
    ·have c3o:=c3;have c3:=nr c3;refine wn ?_;refine ihg1 _ ?_ ?_
     ·(refine ⟨by exact ob,by exact ob,?_⟩; rw [← hg1_3,show withinF (r_.Level.getD i 0) 0 _=true by simpa using c3o,show ((i:Int)+1).toNat=i+1 by omega]; rfl)
     ·exact ob
   ·have c2:=nr c2;refine ak ?_;have e:i=l_.length:=(by omega);unfold yh; rw [c1o,← hg1_3,show (i:Int).toNat=i from rfl,e,List.drop_length]; cases List.drop l_.length r_.Level<;>rfl
  ·(refine ⟨by exact ob,by exact ob,rfl⟩)
theorem Jd {x_:aI} {a1_:(List aj)} (h1:a1_.length≤1000000):W (lK x_ a1_) (fun r=>r=Kk a1_.length x_):=by
 unfold lK;refine wn ?_;refine aC (fB) fun v1 hv1=>?_;subst v1;refine aC (d9 fun hc=>jR (fB)) fun v2 hv2=>?_;subst v2;refine aC (d9 fun hc=>jR (fB)) fun v3 hv3=>?_;subst v3;refine aC (d9 fun hc=>jR (fB)) fun v4 hv4=>?_;subst v4;refine ak ?_;rfl
theorem sU {s_:(List aI)} {f_:(List aj)} (h1:s_.length≤1000000) (h2:f_.length≤1000000):W (iT s_ f_) (fun r=>r=s_.any (Kk f_.length)):=
 CJ (Fy (GX (p:=fun x=>lK x f_) (P:=Kk f_.length) (fun x hx=>jR (Jd h2)) (by omega)) (nD _ _))
theorem Mi {l_:(List aj)} {d_:(List aI)} (h1:l_.length≤1000000) (h2:d_.length≤1000000):W (uU l_ d_) (fun r=>r=fA l_ d_):=by
 unfold uU;refine aC (wD ob) fun v1 hv1=>?_;subst v1;refine aC (d9 fun hc=>jR (sU ob ob)) fun v2 hv2=>?_;subst v2;refine ak ?_;rfl
theorem lX {s_:(List aj)}:W (fO s_) (fun r=>r=s_):=by
 unfold fO;refine ak ?_;rfl
theorem Np {l_:(List aj)} {d_:(List aI)} (h1:Cc l_ d_):W (xg l_ d_) (fun r=>r=dF l_ d_):=by
 obtain ⟨vl,vd,vs,_,vx⟩:=h1;unfold xg;refine wn ?_;refine aW (fun (g1:(Int×(List Bool)))=>0≤g1.1∧g1.1≤d_.length∧g1.2=kK l_.length (d_.take g1.1.toNat)) (fun (g1:(Int×(List Bool)))=>(d_.length - g1.1).toNat) ?_ ?_
 ·intro self1 g1 hig1 ihg1;obtain ⟨hg1_1,hg1_2,hg1_3⟩:=hig1;unfold Dg;refine aF (fun c1=>?_) (fun c1=>?_)
  ·have c1:=nr c1;have hlt:g1.1.toNat<d_.length:=(by omega);have hx:=vx _ (eY bK hlt);have hml:g1.2.length=l_.length:=(by rw [hg1_3]; exact mH ..);refine wn ?_;refine wn ?_;refine wn ?_;refine ihg1 _ ?_ ?_
   ·(refine ⟨by exact ob,by exact ob,?_⟩; dsimp only; have e:kK l_.length (d_.take (g1.1.toNat+1))=(kK l_.length (d_.take g1.1.toNat)).set (d_.getD g1.1.toNat bK).aM.toNat true:=nT _ _ bK hlt; rw [show (g1.1+1).toNat=g1.1.toNat+1 by omega,hg1_3,e])
   ·exact ob
  ·have c1:=nr c1;refine aC (lX) fun v1 hv1=>?_;subst v1;refine wn ?_;refine Zr (fun (k2:Nat) (g2:(List Bool))=>g2=zL (dV l_) l_.length k2 (kK l_.length d_)) ?_ ?_ ?_
   ·intro k2 self2 g2 hkk2 hig2 ihg2;unfold Bd;refine bU (by (rw [hig2,nO (jC _),mH]; omega)) ?_;refine bU (by (rw [hig2,nO (jC _),mH]; omega)) ?_;unfold tK;refine bU (by (rw [List.length_set,hig2,nO (jC _),mH]; omega)) ?_;refine aF (fun c2=>?_) (fun c2=>?_)
    ·have c2o:=c2;have c2:=nr c2;have hp:=vs (l_.length - 1 - k2) (by omega);have hl2:g2.length=l_.length:=(by rw [hig2,nO (jC _),mH]);refine wn ?_;refine ihg2 _ ?_;(rw [Int.toNat_natCast,dA,if_pos ⟨rfl,by omega⟩] at c2o; show _=dV l_ (l_.length - 1 - k2) (zL (dV l_) l_.length k2 (kK l_.length d_)); rw [← hig2]; unfold dV; rw [c2o]; rfl)
    ·have c2o:=c2;have c2:=nr c2;have hl2:g2.length=l_.length:=(by rw [hig2,nO (jC _),mH]);refine ihg2 _ ?_;(rw [Int.toNat_natCast,dA,if_pos ⟨rfl,by omega⟩] at c2o; show _=dV l_ (l_.length - 1 - k2) (zL (dV l_) l_.length k2 (kK l_.length d_)); rw [← hig2]; unfold dV; rw [c2o]; rfl)
   ·intro g2 hig2;unfold Bc;refine ak ?_;(rw [hig2]; exact vw _ _ _)
   ·(simp only [hg1_3]; rw [show g1.1.toNat=d_.length by omega,List.take_length]; rfl)
 ·(refine ⟨by exact ob,by exact ob,rfl⟩)
theorem Mj {l_:(List aj)} {d_:(List aI)} (h1:Cc l_ d_):W (uV l_ d_) (fun r=>r=iG l_ d_):=by
 have hsm:=fun k hk=>Ak h1 k hk;obtain ⟨vl,vd,vs,_,vx⟩:=h1;unfold uV;refine wn ?_;refine aW (fun (g1:(Int×(List Int)))=>0≤g1.1∧g1.1≤d_.length∧g1.2=sumD l_.length (d_.take g1.1.toNat)) (fun (g1:(Int×(List Int)))=>(d_.length - g1.1).toNat) ?_ ?_
 ·intro self1 g1 hig1 ihg1;obtain ⟨hg1_1,hg1_2,hg1_3⟩:=hig1;unfold Bf;refine aF (fun c1=>?_) (fun c1=>?_)
  ·have c1:=nr c1;have hlt:g1.1.toNat<d_.length:=(by omega);have hx:=vx _ (eY bK hlt);have hml:g1.2.length=l_.length:=(by rw [hg1_3]; exact pV ..);have hbd:=Rq l_.length d_ (fun x hx=>by have:=vx x hx; omega) g1.1.toNat (by omega) (d_.getD g1.1.toNat bK).aM.toNat;rw [← hg1_3] at hbd;refine wn ?_;refine wn ?_;refine wn ?_;refine wn ?_;refine wn ?_;refine ihg1 _ ?_ ?_
   ·(refine ⟨by exact ob,by exact ob,?_⟩; dsimp only; have e:sumD l_.length (d_.take (g1.1.toNat+1))=(sumD l_.length (d_.take g1.1.toNat)).set (d_.getD g1.1.toNat bK).aM.toNat ((sumD l_.length (d_.take g1.1.toNat)).getD (d_.getD g1.1.toNat bK).aM.toNat 0+(d_.getD g1.1.toNat bK).Load):=nT _ _ bK hlt; rw [show (g1.1+1).toNat=g1.1.toNat+1 by omega,e,← hg1_3])
   ·exact ob
  ·have c1:=nr c1;refine aC (lX) fun v1 hv1=>?_;subst v1;refine wn ?_;refine Zr (fun (k2:Nat) (g2:(List Int))=>g2=zL (dW l_) l_.length k2 (sumD l_.length d_)) ?_ ?_ ?_
   ·intro k2 self2 g2 hkk2 hig2 ihg2;unfold yY;refine aF (fun c2=>?_) (fun c2=>?_)
    ·have c2o:=c2;have c2:=nr c2;have hp:=vs (l_.length - 1 - k2) (by omega);have hl2:g2.length=l_.length:=(by rw [hig2,nO (mI _),pV]);have hbd:=hsm k2 (by omega);rw [← hig2] at hbd;have hb1:=hbd (l_.getD (l_.length - 1 - k2) ah).Parent.toNat;have hb2:=hbd (l_.length - 1 - k2);rw [Int.toNat_natCast];refine wn ?_;refine wn ?_;refine wn ?_;refine wn ?_;refine ihg2 _ ?_;(show _=dW l_ (l_.length - 1 - k2) (zL (dW l_) l_.length k2 (sumD l_.length d_)); rw [← hig2]; unfold dW; rw [c2o]; rfl)
    ·have c2o:=c2;have c2:=nr c2;refine ihg2 _ ?_;(show _=dW l_ (l_.length - 1 - k2) (zL (dW l_) l_.length k2 (sumD l_.length d_)); rw [← hig2]; unfold dW; rw [c2o]; rfl)
   ·intro g2 hig2;unfold yX;refine ak ?_;(rw [hig2]; exact vw _ _ _)
   ·(simp only [hg1_3]; rw [show g1.1.toNat=d_.length by omega,List.take_length]; rfl)
 ·(refine ⟨by exact ob,by exact ob,rfl⟩)
theorem Je {x_:aI} {a1_:(List aj)} {a20_:(List Bool)} {a21_:(List Int)} (h1:0≤x_.aM) (h2:x_.aM<a1_.length) (h3:x_.aM<a21_.length) (h4:0≤a21_.getD x_.aM.toNat 0) (h5:a21_.getD x_.aM.toNat 0<(a1_.getD x_.aM.toNat ah).aQ.length):W (lM x_ a1_ a20_ a21_) (fun r=>r=dBad a1_ ⟨a20_,a21_⟩ x_):=by
 unfold lM;refine wn ?_;refine wn ?_;refine wn ?_;refine aC (fB) fun v1 hv1=>?_;subst v1;refine ak ?_;rfl
theorem pX {s_:(List aI)} {f0_:(List aj)} {f1_:(List Bool)} {f2_:(List Int)} (h1:s_.length≤1000000) (h2:∀x∈s_,0≤x.aM∧x.aM<f0_.length) (h3:VP f0_ ⟨f1_,f2_⟩):W (gX s_ f0_ f1_ f2_) (fun r=>r=s_.any (dBad f0_ ⟨f1_,f2_⟩)):=
 CJ (Fy (GX (p:=fun x=>lM x f0_ f1_ f2_) (P:=dBad f0_ ⟨f1_,f2_⟩) (fun x hx=>jR (by obtain ⟨q1,q2⟩:=h2 x hx; obtain ⟨r1,r2,r3⟩:=h3; have r4:=r3 x.aM.toNat (by omega); exact Je q1 q2 (by dsimp only at r2; omega) r4.1 r4.2.2)) (by omega)) (nD _ _))
theorem Mk {l_:(List aj)} {r_:bE} {d_:(List aI)} (h1:l_.length≤1000000) (h2:d_.length≤1000000) (h3:r_.Level.length≤1000000):W (uW l_ r_ d_) (fun r=>r=fq l_ r_ d_):=by
 unfold uW;refine aC (Mh ob ob) fun v1 hv1=>?_;subst v1;refine aC (d9 fun hc=>jR (Mi ob ob)) fun v2 hv2=>?_;subst v2;refine aF (fun c1=>?_) (fun c1=>?_)
 ·have c1o:=c1;have c1:=nr c1;refine ak ?_;(unfold fq; rw [c1o]; rfl)
 ·have c1o:=c1;have c1:=nr c1;have hrd:yh l_ r_=true∧fA l_ d_=true:=(by have:=c1o; simpa using this);have hv:=qZ hrd.2;have hr:=(zl.1 hrd.1).2;have hrk:=hr;have hvb:=fun i hi=>Hf hv hr i hi;have hul:=vJ l_ d_;have hll:=Gc l_ d_;obtain ⟨r1,r2,r3⟩:=hr;obtain ⟨vl,vd,vs,_,vx⟩:=id hv;have hmf:fq l_ r_ d_=pW l_ r_ d_:=(by unfold fq; rw [c1o]; rfl);refine aC (Np hv) fun v3 hv3=>?_;subst v3;refine aC (Mj hv) fun v4 hv4=>?_;subst v4;refine aW (fun (g1:Int)=>0≤g1∧g1≤l_.length∧(∀j,j<g1.toNat→DL l_ r_ (dF l_ d_) (iG l_ d_) j=false)) (fun (g1:Int)=>(l_.length - g1).toNat) ?_ ?_
  ·intro self1 g1 hig1 ihg1;obtain ⟨hg1_1,hg1_2,hg1_3⟩:=hig1;unfold Bg;obtain ⟨i,rfl⟩:=Int.eq_ofNat_of_zero_le hg1_1;refine aF (fun c2=>?_) (fun c2=>?_)
   ·have c2:=nr c2;have hlt:i<l_.length:=(by omega);have hp:=vs i hlt;have hp2:=vs (l_.getD i ah).Parent.toNat;have hr3:=r3 i hlt;have hr4:=r3 (l_.getD i ah).Parent.toNat;have hv1:=hvb i hlt;unfold jl at hv1;simp only [Int.toNat_natCast] at *;refine wn ?_;refine wn ?_;refine aF (fun c3=>?_) (fun c3=>?_)
    ·have c3o:=c3;have c3:=nr c3;refine wn ?_;refine aF (fun c4=>?_) (fun c4=>?_)
     ·have c4o:=c4;have c4:=nr c4;refine ak ?_;(rw [hmf]; unfold pW; rw [uh hlt (by unfold DL; rw [c3o,c4o]; rfl)]; rfl)
     ·have c4o:=c4;have c4:=nr c4;refine wn ?_;refine ihg1 _ ?_ ?_
      ·(refine ⟨by exact ob,by exact ob,fun j hj=>?_⟩; by_cases q:j<i; (exact hg1_3 j q); (have e:j=i:=by omega); subst e; unfold DL; rw [c3o,c4o]; rfl)
      ·exact ob
    ·have c3o:=c3;have c3:=nr c3;refine bU (by (intro q1; have:=of_decide_eq_true q1; omega)) ?_;refine bU (by (intro q1 _; have:=of_decide_eq_true q1; omega)) ?_;refine bU (by (intro q1 _; have:=of_decide_eq_true q1; omega)) ?_;refine bU (by (intro q1 _; have:=of_decide_eq_true q1; have:=hr4 (by omega); omega)) ?_;refine bU (by (intro q1 _; have:=of_decide_eq_true q1; omega)) ?_;refine bU (by (intro q1 _; have:=of_decide_eq_true q1; omega)) ?_;refine bU (by (intro q1 _; have:=of_decide_eq_true q1; unfold InI64; omega)) ?_;refine bU (by (intro _; omega)) ?_;refine aF (fun c5=>?_) (fun c5=>?_)
     ·have c5o:=c5;have c5:=nr c5;refine ak ?_;(rw [hmf]; unfold pW; rw [uh hlt (by unfold DL jl; rw [c3o]; simp only [cond_false]; rw [c5o]; rfl)]; rfl)
     ·have c5o:=c5;have c5:=nr c5;refine wn ?_;refine ihg1 _ ?_ ?_
      ·(refine ⟨by exact ob,by exact ob,fun j hj=>?_⟩; by_cases q:j<i; (exact hg1_3 j q); (have e:j=i:=by omega); subst e; unfold DL jl; rw [c3o]; exact c5o)
      ·exact ob
   ·have c2:=nr c2;refine aC (pX (by omega) (fun x hx=>by have:=vx x hx; omega) hrk) fun v5 hv5=>?_;subst v5;refine ak ?_;(rw [hmf]; unfold pW; rw [DN fun j hj=>(by rw [hg1_3 j (by omega)]; rfl)]; rfl)
  ·(refine ⟨by exact ob,by exact ob,fun j hj=>absurd hj (Nat.not_lt_zero j)⟩)
end Go.Proofs.YtfblhejmclcdmaaGreatDoor.Sp

namespace Go.Proofs.YtfblhejmclcdmaaGreatDoor
open Go.Ab
set_option maxRecDepth 100000
structure YT (l:List bV):Prop where
 len:l.length≤32
 af:∀i,i<l.length→∀x∈(l.getD i dReset).After,0≤x∧x<(i:Int)
structure Tx (l:List bH):Prop where
 len:l.length≤16
 par:∀i,i<l.length → -1≤(l.getD i dD).Parent∧(l.getD i dD).Parent<(i:Int)
structure YU (n:Int) (g:aV):Prop where
 pl:0<g.bI.length
 fl:0<g.Functions.length∧g.Functions.length≤8
 pn:∀x∈g.bI,0≤x∧x<n
structure XB (p:aR) (u:oW):Prop where
 g0:0≤u.dR
 gl:u.dR<p.Groups.length
 f0:0≤u.Function
 fl:u.Function<(p.Groups.getD u.dR.toNat au).Functions.length
theorem fH {P:Nat→Prop} {i:Int} (h:∀j:Nat,(j:Int)<i→P j) (h0:0≤i) (hp:P i.toNat):∀j:Nat,(j:Int)<i+1→P j:=fun j hj=>by
 by_cases q:(j:Int)<i
 ·exact h j q
 ·have e:j=i.toNat:=by omega
  rw [e]; exact hp
structure RA (p:aR):Prop where
 pn:0≤p.bI∧p.bI≤64
 gl:p.Groups.length≤24
 gr:∀g∈p.Groups,YU p.bI g
theorem jW {α:Type} {P:α→Prop} {l:List α} (d:α) (h:∀j,j<l.length→P (l.getD j d)):∀x∈l,P x:=fun x hx=>by
 obtain ⟨i,hi,rfl⟩:=List.mem_iff_getElem.1 hx;have:=h i hi;rwa [List.getD_eq_getElem?_getD,List.getElem?_eq_getElem hi] at this
theorem wE {s_:(List Int)} (h1:s_.length≤1000000):W (slices_Clone_int s_) (fun r=>r=s_):=by
 unfold slices_Clone_int;refine wn ?_;refine ak ?_;rfl
theorem EM {s_:(List Bool)} (h1:s_.length≤1000000):W (iJ s_) (fun r=>r=s_):=by
 unfold iJ;refine wn ?_;refine ak ?_;rfl
end Go.Proofs.YtfblhejmclcdmaaGreatDoor

namespace Go.Proofs.YtfblhejmclcdmaaGreatDoor
open Go.Ab
set_option maxRecDepth 100000
structure Tz (b:bF):Prop where
 cl:b.bO.length≤1000000
 ch:YG b.bO
 su:b.bC.length≤1000000
 gr:∀g∈b.bD.Groups,g.bI.length≤1000000
 re:b.Resets.length≤1000000
 ra:∀g∈b.Resets,g.After.length≤1000000
 dm:b.bS.length≤1000000
structure aaC (b:bF):Prop where
 cl:bP b.bO=0
 su:Sp.bP b.bC=0
 pn:RA b.bD
 rs:YT b.Resets
 dm:Tx b.bS
structure XC (n:Nat) (x:bn):Prop where
 k0:0≤x.Clock
 kl:x.Clock<n
 l0:0≤x.Low
 lh:x.Low≤x.High
 hi:x.High≤4000000000
structure TA (n:Nat) (x:aI):Prop where
 k0:0≤x.aM
 kl:x.aM<n
 l0:0≤x.Low
 lh:x.Low≤x.High
 hi:x.High≤5000
 ld:0≤x.Load∧x.Load≤10000
structure aaD (b:bF) (n:aO):Prop where
 ll:n.Limits.length≤32
 dl:n.Draws.length≤32
 fl:n.Functions.length≤10
 lm:∀x∈n.Limits,XC b.bO.length x
 dw:∀x∈n.Draws,TA b.bC.length x
 rs:∀x∈n.Resets,0≤x∧x<b.Resets.length
 dm : -1≤n.fK∧n.fK<b.bS.length
structure YV (l:List aO):Prop where
 len:l.length≤1000000
 nd:∀n∈l,n.Resets.length≤1000000∧n.cO.length≤1000000
structure RB (g:bX):Prop where
 st:g.Setting.length≤1000000
 on:g.fC.On.length≤1000000
 lv:g.fC.Level.length≤1000000
 us:g.Uses.length≤1000000
 re:g.Released.length≤1000000
 po:g.eU.length≤1000000
structure aa2 (s:dP):Prop where
 sz:Tz s.aN
 val:aaC s.aN
 nl:s.bG.length≤12
 nd:∀n∈s.bG,aaD s.aN n
 nsz:YV s.bG
 ml:s.aG.length≤10000
 gs:RB s.aJ
structure aa3 (s:dP):Prop where
 mem:∀m∈s.aG,0≤m∧m<s.bG.length
 st:s.aJ.Setting.length=s.aN.bO.length
 on:s.aJ.fC.On.length=s.aN.bC.length
 lv:s.aJ.fC.Level.length=s.aN.bC.length
 re:s.aJ.Released.length=s.aN.Resets.length
 po:s.aJ.eU.length=s.aN.bS.length
theorem BN {s_:List Int} {v_:Int} (h1:s_.length≤1000000):slices_Contains_int s_ v_ (s_.contains v_):=L8 h1
theorem kE {x_:Int} {low_:Int} {high_:Int}:W (jU x_ low_ high_) (fun r=>r=(decide (low_≤x_)&&decide (x_≤high_))):=by
 unfold jU;refine ak ?_;rfl
theorem RD {r_:bE} (h1:r_.On.length≤1000000) (h2:r_.Level.length≤1000000):W (yU r_) (fun r=>r=(r_.On,r_.Level)):=by
 unfold yU;refine aC (EM ob) fun v1 hv1=>?_;subst v1;refine aC (wE ob) fun v2 hv2=>?_;subst v2;refine ak ?_;rfl
end Go.Proofs.YtfblhejmclcdmaaGreatDoor

namespace Go.Proofs.YtfblhejmclcdmaaGreatDoor
open Go.Ab
set_option maxRecDepth 100000
theorem rA (f:kN→Option Int) (k k':kN) (n:Int):uL (Iq f k n) k'=if k'=k then n else uL f k':=by
 unfold uL Iq;split<;>rfl
theorem XD {l:List av} {s:List Int} (h:(yc l s).2=0):bP l=0∧settB l s=true∧(yc l s).1=gZ l s:=by
 unfold yc at h ⊢;cases h1:bP l != 0 with
 | true=>rw [h1] at h; simp at h1; exact absurd h h1
 | false=>
  cases h2:settB l s with
  | false=>rw [h1,h2] at h; cases h
  | true=>exact ⟨by simpa using h1,rfl,rfl⟩
theorem XE {l:List av} {s:List Int} (h1:bP l=0) (h2:settB l s=true) (j:Nat) (hj:j<l.length):1≤((gZ l s).getD j bZ).Den∧((gZ l s).getD j bZ).Den≤16777216:=by
 have:=kD (PG (G7 h1) h2 j hj).2.2.1;exact ⟨this.2.2.1,this.2.2.2.1⟩
theorem Ap {line_:Int} {a10_:(List av)} {a11_:(List aj)} {a12_:Int} {a13_:(List aV)} {a14_:(List bV)} {a15_:(List bH)} {a16_:(List aO)} {a17_:(List Int)} {a18_:(List Int)} {a19_:(List Bool)} {a110_:(List Int)} {a111_:(List aZ)} {a112_:(List Bool)} {a113_:(List Bool)} {a114_:Bool} (h1:0≤line_) (h2:line_<a112_.length):W (iC line_ a10_ a11_ a12_ a13_ a14_ a15_ a16_ a17_ a18_ a19_ a110_ a111_ a112_ a113_ a114_) (fun r=>r=!(a112_.getD line_.toNat false)):=by
 unfold iC;refine wn ?_;refine ak ?_;rfl
theorem uj {s_:(List Int)} {f0_:(List av)} {f1_:(List aj)} {f2_:Int} {f3_:(List aV)} {f4_:(List bV)} {f5_:(List bH)} {f6_:(List aO)} {f7_:(List Int)} {f8_:(List Int)} {f9_:(List Bool)} {f10_:(List Int)} {f11_:(List aZ)} {f12_:(List Bool)} {f13_:(List Bool)} {f14_:Bool} (h1:s_.length≤1000000) (h2:∀x∈s_,0≤x∧x<f12_.length):W (je s_ f0_ f1_ f2_ f3_ f4_ f5_ f6_ f7_ f8_ f9_ f10_ f11_ f12_ f13_ f14_) (fun r=>r=s_.any (fun x=>!(f12_.getD x.toNat false))):=
 CJ (Fy (GX (p:=fun x=>iC x f0_ f1_ f2_ f3_ f4_ f5_ f6_ f7_ f8_ f9_ f10_ f11_ f12_ f13_ f14_) (P:=fun x=>!(f12_.getD x.toNat false)) (fun x hx=>jR (Ap (h2 x hx).1 (h2 x hx).2)) (by omega)) (nD _ _))
theorem zn {m_:Int} {a10_:(List av)} {a11_:(List aj)} {a12_:Int} {a13_:(List aV)} {a14_:(List bV)} {a15_:(List bH)} {a16_:(List aO)} {a17_:(List Int)} {a18_:(List Int)} {a19_:(List Bool)} {a110_:(List Int)} {a111_:(List aZ)} {a112_:(List Bool)} {a113_:(List Bool)} {a114_:Bool} (h1:0≤m_) (h2:m_<a16_.length) (h3:(a16_.getD m_.toNat aY).fK<a113_.length):W (gN m_ a10_ a11_ a12_ a13_ a14_ a15_ a16_ a17_ a18_ a19_ a110_ a111_ a112_ a113_ a114_) (fun r=>r=((decide ((0:Int)≤(a16_.getD m_.toNat aY).fK))&&(!(a113_.getD (((a16_.getD m_.toNat aY).fK).toNat) false)))):=by
 unfold gN;refine wn ?_;refine wn ?_;refine ak ?_;rfl
theorem um {s_:(List Int)} {f0_:(List av)} {f1_:(List aj)} {f2_:Int} {f3_:(List aV)} {f4_:(List bV)} {f5_:(List bH)} {f6_:(List aO)} {f7_:(List Int)} {f8_:(List Int)} {f9_:(List Bool)} {f10_:(List Int)} {f11_:(List aZ)} {f12_:(List Bool)} {f13_:(List Bool)} {f14_:Bool} (h1:s_.length≤1000000) (h2:∀x∈s_,0≤x∧x<f6_.length∧(f6_.getD x.toNat aY).fK<f13_.length):W (jf s_ f0_ f1_ f2_ f3_ f4_ f5_ f6_ f7_ f8_ f9_ f10_ f11_ f12_ f13_ f14_) (fun r=>r=s_.any (fun x=>((decide ((0:Int)≤(f6_.getD x.toNat aY).fK))&&(!(f13_.getD (((f6_.getD x.toNat aY).fK).toNat) false))))):=
 CJ (Fy (GX (p:=fun x=>gN x f0_ f1_ f2_ f3_ f4_ f5_ f6_ f7_ f8_ f9_ f10_ f11_ f12_ f13_ f14_) (P:=fun x=>((decide ((0:Int)≤(f6_.getD x.toNat aY).fK))&&(!(f13_.getD (((f6_.getD x.toNat aY).fK).toNat) false)))) (fun x hx=>jR (zn (h2 x hx).1 (h2 x hx).2.1 (h2 x hx).2.2)) (by omega)) (nD _ _))
end Go.Proofs.YtfblhejmclcdmaaGreatDoor

namespace Go.Proofs.YtfblhejmclcdmaaGreatDoor
open Go.Ab
set_option maxRecDepth 100000
theorem OC {α:Type} (d:α) (l:List α) (n j:Nat) (h:j<n):(l.take n).getD j d=l.getD j d:=by
 rw [List.getD_eq_getElem?_getD,List.getD_eq_getElem?_getD,List.getElem?_take_of_lt h]
end Go.Proofs.YtfblhejmclcdmaaGreatDoor

namespace Go.Proofs.YtfblhejmclcdmaaGreatDoor
open Go.Ab
set_option maxRecDepth 100000
noncomputable def pick {R:Type} [Inhabited R] (m:R→Prop):R:=Classical.epsilon m
end Go.Proofs.YtfblhejmclcdmaaGreatDoor

namespace Go.Proofs.YtfblhejmclcdmaaGreatDoor
open Go.Ab
set_option maxRecDepth 100000
deriving instance DecidableEq for oW,aZ,bX
theorem PU {α:Type} [DecidableEq α] {a b:List α} (h:¬ (a.length:Int)=b.length):(a==b)=false:=by
 simp only [beq_eq_false_iff_ne,ne_eq];intro e;rw [e] at h;exact h rfl
theorem YW {α:Type} [DecidableEq α] {x y:α} {a b:List α} (h:¬ x=y):(x::a==y::b)=false:=by
 simp only [beq_eq_false_iff_ne,ne_eq,List.cons.injEq];exact fun e=>h e.1
theorem YX {α:Type} [DecidableEq α] {x y:α} {a b:List α} (h:x=y):(x::a==y::b)=(a==b):=by
 subst h;rw [Bool.eq_iff_iff];simp
end Go.Proofs.YtfblhejmclcdmaaGreatDoor

namespace Go.Proofs.YtfblhejmclcdmaaGreatDoor
open Go.Ab
set_option maxRecDepth 100000
theorem Aq {s_:ByteArray}:W (lT s_) (fun r=>True):=by
 unfold lT;refine bU (by (intro hc; simp only [Bool.or_eq_false_iff,beq_eq_false_iff_ne] at hc; omega)) ?_;refine bU (by (intro hc; simp only [Bool.or_eq_false_iff,beq_eq_false_iff_ne] at hc; omega)) ?_;refine aF (fun c1=>?_) (fun c1=>?_)
 ·have c1o:=c1;have c1:=nr c1;exact ak trivial
 ·have c1o:=c1;have c1:=nr c1;have hsz:s_.size≤16:=(by simp only [Bool.or_eq_false_iff] at c1o; have:=of_decide_eq_false c1o.1.1.2; omega);refine aW (fun (g1:Int)=>0≤g1) (fun (g1:Int)=>(s_.size - g1).toNat) ?_ ?_
  ·intro self1 g1 hig1 ihg1;unfold xZ;refine aF (fun c2=>?_) (fun c2=>?_)
   ·have c2:=nr c2;refine wn ?_;refine wn ?_;refine wn ?_;refine wn ?_;refine wn ?_;refine aF (fun c3=>?_) (fun c3=>?_)
    ·have c3:=nr c3;exact ak trivial
    ·have c3:=nr c3;refine wn ?_;refine ihg1 _ ?_ ?_
     ·exact ob
     ·exact ob
   ·have c2:=nr c2;exact ak trivial
  ·exact ob
theorem Nq {p_:aR} {i_:Int} (h1:0≤i_) (h2:i_<p_.Groups.length) (h3:p_.Groups.length≤1000000) (h4:∀g∈p_.Groups,g.bI.length≤1000000∧g.Functions.length≤1000000):W (oI p_ i_) (fun r=>r=0→YU p_.bI (p_.Groups.getD i_.toNat au)):=by
 have hgl:=h4 _ (getD_in (i:=i_.toNat) au (by omega));unfold oI;refine wn ?_;refine aC (Aq) fun v1 hv1=>?_;refine aF (fun c1=>?_) (fun c1=>?_)
 ·have c1:=nr c1;refine ak ?_;exact ob
 ·have c1:=nr c1;refine aW (fun (g1:Int)=>0≤g1) (fun (g1:Int)=>(i_ - g1).toNat) ?_ ?_
  ·intro self1 g1 hig1 ihg1;unfold vZ;refine aF (fun c2=>?_) (fun c2=>?_)
   ·have c2:=nr c2;refine wn ?_;refine aF (fun c3=>?_) (fun c3=>?_)
    ·have c3:=nr c3;refine ak ?_;exact ob
    ·have c3:=nr c3;refine wn ?_;refine ihg1 _ ?_ ?_
     ·exact ob
     ·exact ob
   ·have c2:=nr c2;refine aF (fun c4=>?_) (fun c4=>?_)
    ·have c4:=nr c4;refine ak ?_;exact ob
    ·have c4:=nr c4;refine aF (fun c5=>?_) (fun c5=>?_)
     ·have c5:=nr c5;refine ak ?_;exact ob
     ·have c5:=nr c5;refine aW (fun (g2:Int)=>0≤g2∧(∀j:Nat,(j:Int)<g2→0≤(p_.Groups.getD i_.toNat au).bI.getD j 0∧(p_.Groups.getD i_.toNat au).bI.getD j 0<p_.bI)) (fun (g2:Int)=>((p_.Groups.getD i_.toNat au).bI.length - g2).toNat) ?_ ?_
      ·intro self2 g2 hig2 ihg2;obtain ⟨hg2_1,hg2_2⟩:=hig2;unfold tX;refine aF (fun c6=>?_) (fun c6=>?_)
       ·have c6:=nr c6;refine wn ?_;refine wn ?_;refine aF (fun c7=>?_) (fun c7=>?_)
        ·have c7:=nr c7;refine ak ?_;exact ob
        ·have c7:=nr c7;refine wn ?_;refine ihg2 _ ?_ ?_
         ·(refine ⟨by exact ob,fH hg2_2 hg2_1 (by omega)⟩)
         ·exact ob
       ·have c6:=nr c6;refine aW (fun (g3:Int)=>1≤g3) (fun (g3:Int)=>((p_.Groups.getD i_.toNat au).bI.length - g3).toNat) ?_ ?_
        ·intro self3 g3 hig3 ihg3;unfold tV;refine aF (fun c8=>?_) (fun c8=>?_)
         ·have c8:=nr c8;refine wn ?_;refine wn ?_;refine wn ?_;refine aF (fun c9=>?_) (fun c9=>?_)
          ·have c9:=nr c9;refine ak ?_;exact ob
          ·have c9:=nr c9;refine wn ?_;refine ihg3 _ ?_ ?_
           ·exact ob
           ·exact ob
         ·have c8:=nr c8;refine aW (fun (g4:Int)=>0≤g4) (fun (g4:Int)=>((p_.Groups.getD i_.toNat au).Functions.length - g4).toNat) ?_ ?_
          ·intro self4 g4 hig4 ihg4;unfold tT;refine aF (fun c10=>?_) (fun c10=>?_)
           ·have c10:=nr c10;refine wn ?_;refine aC (Aq) fun v4 hv4=>?_;refine aF (fun c11=>?_) (fun c11=>?_)
            ·have c11:=nr c11;refine ak ?_;exact ob
            ·have c11:=nr c11;refine wn ?_;refine ihg4 _ ?_ ?_
             ·exact ob
             ·exact ob
           ·have c10:=nr c10;refine aW (fun (g5:Int)=>0≤g5) (fun (g5:Int)=>((p_.Groups.getD i_.toNat au).Functions.length - g5).toNat) ?_ ?_
            ·intro self5 g5 hig5 ihg5;unfold tQ;refine aF (fun c12=>?_) (fun c12=>?_)
             ·have c12:=nr c12;refine aW (fun (g8:Int)=>0≤g8) (fun (g8:Int)=>(g5 - g8).toNat) ?_ ?_
              ·intro self8 g8 hig8 ihg8;unfold tO;refine aF (fun c13=>?_) (fun c13=>?_)
               ·have c13:=nr c13;refine wn ?_;refine wn ?_;refine aF (fun c14=>?_) (fun c14=>?_)
                ·have c14:=nr c14;refine ak ?_;exact ob
                ·have c14:=nr c14;refine wn ?_;refine ihg8 _ ?_ ?_
                 ·exact ob
                 ·exact ob
               ·have c13:=nr c13;refine wn ?_;refine ihg5 _ ?_ ?_
                ·exact ob
                ·exact ob
              ·exact ob
             ·have c12:=nr c12;refine ak ?_;(intro _; exact ⟨by omega,by omega,jW 0 fun j hj=>hg2_2 j (by omega)⟩)
            ·exact ob
          ·exact ob
        ·exact ob
      ·(refine ⟨by exact ob,fun j hj=>by (try dsimp only at hj); omega⟩)
  ·exact ob
theorem Nr {p_:aR} (h1:∀g∈p_.Groups,g.bI.length≤1000000∧g.Functions.length≤1000000):W (lU p_) (fun r=>r=0→RA p_):=by
 unfold lU;refine aF (fun c1=>?_) (fun c1=>?_)
 ·have c1:=nr c1;refine ak ?_;exact ob
 ·have c1:=nr c1;refine aF (fun c2=>?_) (fun c2=>?_)
  ·have c2:=nr c2;refine ak ?_;exact ob
  ·have c2:=nr c2;refine aW (fun (g1:Int)=>0≤g1∧(∀j:Nat,(j:Int)<g1→YU p_.bI (p_.Groups.getD j au))) (fun (g1:Int)=>(p_.Groups.length - g1).toNat) ?_ ?_
   ·intro self1 g1 hig1 ihg1;obtain ⟨hg1_1,hg1_2⟩:=hig1;unfold wh;refine aF (fun c3=>?_) (fun c3=>?_)
    ·have c3:=nr c3;refine aC (Nq (by omega) (by omega) (by omega) h1) fun v3 hv3=>?_;refine aF (fun c4=>?_) (fun c4=>?_)
     ·have c4o:=c4;have c4:=nr c4;refine ak ?_;(intro e; exact absurd e c4)
     ·have c4o:=c4;have c4:=nr c4;refine wn ?_;refine ihg1 _ ?_ ?_
      ·(refine ⟨by exact ob,fH hg1_2 hg1_1 (hv3 (by simpa using c4o))⟩)
      ·exact ob
    ·have c3:=nr c3;refine ak ?_;(intro _; exact ⟨by omega,by omega,jW au fun j hj=>hg1_2 j (by omega)⟩)
   ·(refine ⟨by exact ob,fun j hj=>by (try dsimp only at hj); omega⟩)
theorem Ns {p_:aR} {l_:(List ByteArray)} (h1:∀g∈p_.Groups,g.bI.length≤1000000∧g.Functions.length≤1000000) (h2:l_.length≤1000000):W (xI p_ l_) (fun r=>r=true→RA p_∧l_.length≤10):=by
 unfold xI;refine aC (Nr h1) fun v1 hv1=>?_;refine aF (fun c1=>?_) (fun c1=>?_)
 ·have c1o:=c1;have c1:=nr c1;refine ak ?_;exact ob
 ·have c1o:=c1;have c1:=nr c1;have c1b:=c1o;simp only [Bool.or_eq_false_iff] at c1b;refine aW (fun (g1:Int)=>0≤g1) (fun (g1:Int)=>(l_.length - g1).toNat) ?_ ?_
  ·intro self1 g1 hig1 ihg1;unfold Du;refine aF (fun c2=>?_) (fun c2=>?_)
   ·have c2:=nr c2;refine wn ?_;refine aC (Aq) fun v4 hv4=>?_;refine aF (fun c3=>?_) (fun c3=>?_)
    ·have c3:=nr c3;refine ak ?_;exact ob
    ·have c3:=nr c3;refine wn ?_;refine ihg1 _ ?_ ?_
     ·exact ob
     ·exact ob
   ·have c2:=nr c2;refine ak ?_;(intro _; exact ⟨hv1 (by simpa using c1b.1),by have:=of_decide_eq_false c1b.2; omega⟩)
  ·exact ob
theorem Gf {g_:aV} {function_:ByteArray} (h1:g_.Functions.length≤1000000):W (sN g_ function_) (fun r => -1≤r∧r<g_.Functions.length):=by
 unfold sN;refine aW (fun (g1:Int)=>0≤g1) (fun (g1:Int)=>(g_.Functions.length - g1).toNat) ?_ ?_
 ·intro self1 g1 hig1 ihg1;unfold Dv;refine aF (fun c1=>?_) (fun c1=>?_)
  ·have c1:=nr c1;refine wn ?_;refine aF (fun c2=>?_) (fun c2=>?_)
   ·have c2:=nr c2;refine ak ?_;exact ob
   ·have c2:=nr c2;refine wn ?_;refine ihg1 _ ?_ ?_
    ·exact ob
    ·exact ob
  ·have c1:=nr c1;refine ak ?_;exact ob
 ·exact ob
theorem Nt {a_:(List Int)} {b_:(List Int)} (h1:a_.length≤1000000) (h2:b_.length≤1000000):W (oJ a_ b_) (fun r=>True):=by
 unfold oJ;refine aW (fun (g1:(Int×Int))=>0≤g1.1∧0≤g1.2) (fun (g1:(Int×Int))=>(a_.length - g1.1).toNat+(b_.length - g1.2).toNat) ?_ ?_
 ·intro self1 g1 hig1 ihg1;obtain ⟨hg1_1,hg1_2⟩:=hig1;unfold wm;refine aF (fun c1=>?_) (fun c1=>?_)
  ·have c1:=nr c1;refine wn ?_;refine wn ?_;refine aF (fun c2=>?_) (fun c2=>?_)
   ·have c2:=nr c2;exact ak trivial
   ·have c2:=nr c2;refine wn ?_;refine wn ?_;refine aF (fun c3=>?_) (fun c3=>?_)
    ·have c3:=nr c3;refine wn ?_;refine ihg1 _ ?_ ?_
     ·exact ob
     ·exact ob
    ·have c3:=nr c3;refine wn ?_;refine ihg1 _ ?_ ?_
     ·exact ob
     ·exact ob
  ·have c1:=nr c1;exact ak trivial
 ·exact ob
theorem Hq {p_:aR} {groups_:(List Int)} {g_:Int} (h1:∀g∈p_.Groups,g.bI.length≤1000000∧g.Functions.length≤1000000) (h2:groups_.length≤1000000) (h3:∀x∈groups_,x<p_.Groups.length) (h4:0≤g_) (h5:g_<p_.Groups.length):W (nX p_ groups_ g_) (fun r=>True):=by
 have hgl:=h1 _ (getD_in (i:=g_.toNat) au (by omega));unfold nX;refine aW (fun (g1:Int)=>0≤g1) (fun (g1:Int)=>(groups_.length - g1).toNat) ?_ ?_
 ·intro self1 g1 hig1 ihg1;unfold x9;refine aF (fun c1=>?_) (fun c1=>?_)
  ·have c1:=nr c1;have hx:=h3 _ (getD_in (i:=g1.toNat) 0 (by omega));refine wn ?_;refine wn ?_;refine wn ?_;refine wn ?_;refine aC (CK fun hc=>Nt (by have hc:=of_decide_eq_true hc; have:=h1 _ (getD_in (i:=(groups_.getD g1.toNat 0).toNat) au (by omega)); omega) (by omega)) fun v3 hv3=>?_;refine aF (fun c2=>?_) (fun c2=>?_)
   ·have c2:=nr c2;exact ak trivial
   ·have c2:=nr c2;refine wn ?_;refine ihg1 _ ?_ ?_
    ·exact ob
    ·exact ob
  ·have c1:=nr c1;exact ak trivial
 ·exact ob
theorem PV {p_:aR} {l_:(List ByteArray)} {groups_:(List Int)} (h1:∀g∈p_.Groups,g.bI.length≤1000000∧g.Functions.length≤1000000) (h2:l_.length≤1000000) (h3:p_.Groups.length≤1000000):W (Af p_ l_ groups_) (fun r=>r=true→groups_.length≤l_.length∧∀x∈groups_,0≤x∧x<p_.Groups.length):=by
 unfold Af;refine aF (fun c1=>?_) (fun c1=>?_)
 ·have c1:=nr c1;refine ak ?_;exact ob
 ·have c1:=nr c1;refine aW (fun (g1:Int)=>0≤g1∧(∀j:Nat,(j:Int)<g1→0≤groups_.getD j 0∧groups_.getD j 0<p_.Groups.length)) (fun (g1:Int)=>(groups_.length - g1).toNat) ?_ ?_
  ·intro self1 g1 hig1 ihg1;obtain ⟨hg1_1,hg1_2⟩:=hig1;unfold Fx;refine aF (fun c2=>?_) (fun c2=>?_)
   ·have c2:=nr c2;refine wn ?_;refine wn ?_;refine wn ?_;refine aC (CK fun hc=>Gf (by simp only [Bool.or_eq_false_iff,decide_eq_false_iff_not] at hc; have:=h1 _ (getD_in (i:=(groups_.getD g1.toNat 0).toNat) au (by omega)); omega)) fun v5 hv5=>?_;refine wn ?_;refine aC (CK fun hc=>Hq h1 (by rw [List.length_take]; omega) (jW 0 fun j hj=>(by rw [List.length_take] at hj; rw [OC _ _ _ _ (by omega)]; exact (hg1_2 j (by omega)).2)) (by simp only [Bool.or_eq_false_iff,decide_eq_false_iff_not] at hc; omega) (by simp only [Bool.or_eq_false_iff,decide_eq_false_iff_not] at hc; omega)) fun v6 hv6=>?_;refine aF (fun c3=>?_) (fun c3=>?_)
    ·have c3o:=c3;have c3:=nr c3;refine ak ?_;exact ob
    ·have c3o:=c3;have c3:=nr c3;refine wn ?_;refine ihg1 _ ?_ ?_
     ·(refine ⟨by exact ob,fH hg1_2 hg1_1 (by simp only [Bool.or_eq_false_iff,decide_eq_false_iff_not] at c3o; omega)⟩)
     ·exact ob
   ·have c2:=nr c2;refine ak ?_;(intro _; exact ⟨by omega,jW 0 fun j hj=>hg1_2 j (by omega)⟩)
  ·(refine ⟨by exact ob,fun j hj=>by (try dsimp only at hj); omega⟩)
theorem J4 {p_:aR} {l_:(List ByteArray)} {given_:(List Int)} (h1:∀g∈p_.Groups,g.bI.length≤1000000∧g.Functions.length≤1000000) (h2:l_.length≤1000000) (h3:p_.Groups.length≤1000000):W (Ev p_ l_ given_) (fun r=>r=0→RA p_∧l_.length≤10∧given_.length≤l_.length∧∀x∈given_,0≤x∧x<p_.Groups.length):=by
 unfold Ev;refine aC (Ns h1 h2) fun v1 hv1=>?_;refine aF (fun c1=>?_) (fun c1=>?_)
 ·have c1o:=c1;have c1:=nr c1;refine ak ?_;exact ob
 ·have c1o:=c1;have c1:=nr c1;refine aC (PV h1 h2 h3) fun v2 hv2=>?_;refine aF (fun c2=>?_) (fun c2=>?_)
  ·have c2o:=c2;have c2:=nr c2;refine ak ?_;exact ob
  ·have c2o:=c2;have c2:=nr c2;refine ak ?_;(intro _; have q1:=hv1 (by simpa using c1o); have q2:=hv2 (by simpa using c2o); exact ⟨q1.1,q1.2,q2.1,q2.2⟩)
theorem Ml {p_:aR} {function_:ByteArray} (h1:∀g∈p_.Groups,g.bI.length≤1000000∧g.Functions.length≤1000000) (h2:p_.Groups.length≤1000000):W (mD p_ function_) (fun r=>r.length≤p_.Groups.length∧∀x∈r,0≤x∧x<p_.Groups.length):=by
 unfold mD;refine aW (fun (g1:(Int×(List Int)))=>0≤g1.1∧g1.1≤p_.Groups.length∧(g1.2.length:Int)≤g1.1∧(∀x∈g1.2,0≤x∧x<p_.Groups.length)) (fun (g1:(Int×(List Int)))=>(p_.Groups.length - g1.1).toNat) ?_ ?_
 ·intro self1 g1 hig1 ihg1;obtain ⟨hg1_1,hg1_2,hg1_3,hg1_4⟩:=hig1;unfold tY;refine aF (fun c1=>?_) (fun c1=>?_)
  ·have c1:=nr c1;have hgl:=h1 _ (getD_in (i:=g1.1.toNat) au (by omega));refine wn ?_;refine aC (Gf ob) fun v3 hv3=>?_;obtain ⟨hv3_1,hv3_2⟩:=hv3;refine aF (fun c2=>?_) (fun c2=>?_)
   ·have c2:=nr c2;refine wn ?_;refine wn ?_;refine ihg1 _ ?_ ?_
    ·exact ob
    ·exact ob
   ·have c2:=nr c2;refine wn ?_;refine ihg1 _ ?_ ?_
    ·exact ob
    ·exact ob
  ·have c1:=nr c1;refine ak ?_;(refine ⟨by omega,hg1_4⟩)
 ·exact ob
theorem Mq {p_:aR} {l_:List ByteArray} {groups_:List Int} (h1:∀g∈p_.Groups,g.bI.length≤1000000∧g.Functions.length≤1000000) (h2:p_.Groups.length≤1000000) (h3:l_.length≤1000000) (h4:groups_.length≤l_.length) (h5:∀x∈groups_,0≤x∧x<p_.Groups.length):W (mE p_ l_ groups_) (fun r=>r.2=true→r.1.length=l_.length∧∀x∈r.1,0≤x∧x<p_.Groups.length):=by
 unfold mE;refine aW (fun s:aR×List ByteArray×List Int=>s.1=p_∧s.2.1=l_∧s.2.2.length≤l_.length∧∀x∈s.2.2,0≤x∧x<p_.Groups.length) (fun s=>l_.length - s.2.2.length) ?_ ⟨rfl,rfl,h4,h5⟩;rintro self ⟨p,l,gs⟩ ⟨e1,e2,e3,e4⟩ ih;dsimp only at e1 e2 e3 e4;subst p l;unfold jg;refine aF (fun c1=>?_) (fun c1=>?_)
 ·have c1:=nr c1;refine bU ob (ak ?_);intro _;exact ⟨by dsimp only at c1 ⊢; omega,e4⟩
 ·have c1:=nr c1;refine bU (by dsimp only at c1 ⊢; omega) ?_;refine aC (Ml h1 h2) fun v1 hv1=>?_;obtain ⟨k1,k2⟩:=hv1;refine aW (fun g:Int=>0≤g) (fun g:Int=>(v1.length - g).toNat) ?_ (Int.le_refl _);intro self1 g1 hg1 ih1;unfold tZ;refine aF (fun c2=>?_) (fun c2=>?_)
  ·have c2:=nr c2;have hx:=k2 _ (getD_in (i:=g1.toNat) 0 (by omega));refine wn ?_;refine aC (Hq h1 (by dsimp only; omega) (fun x hx=>(e4 x hx).2) hx.1 hx.2) fun v6 _=>?_;refine aF (fun c3=>?_) (fun c3=>?_)
   ·refine bU ob (ih1 _ (by omega) (by omega))
   ·refine bU ob (bU ob (bU ob ?_));refine aC (ih _ ⟨rfl,rfl,by (simp only [List.length_append,List.length_singleton]; omega),?_⟩ (by (simp only [List.length_append,List.length_singleton]; omega))) fun v7 hv7=>?_
    ·intro x hm;rcases List.mem_append.1 hm with hm | hm
     ·exact e4 x hm
     ·rw [List.mem_singleton] at hm; rw [hm]; exact hx
    ·refine aF (fun c4=>ak fun _=>hv7 c4) (fun c4=>bU ob (ih1 _ (by omega) (by omega)))
  ·exact ak nofun
theorem Mr {p_:aR} {l_:(List ByteArray)} {given_:(List Int)} (h1:∀g∈p_.Groups,g.bI.length≤1000000∧g.Functions.length≤1000000) (h2:l_.length≤1000000) (h3:p_.Groups.length≤1000000):W (mF p_ l_ given_) (fun r=>r.2=0→r.1.length=l_.length∧∀x∈r.1,0≤x∧x<p_.Groups.length):=by
 unfold mF;refine aC (J4 h1 h2 h3) fun v1 hv1=>?_;refine aF (fun c1=>?_) (fun c1=>?_)
 ·have c1o:=c1;have c1:=nr c1;refine ak ?_;(intro e; exact absurd e c1)
 ·have c1o:=c1;have c1:=nr c1;obtain ⟨q1,q2,q3,q4⟩:=hv1 (by simpa using c1o);refine aC (Mq h1 h3 h2 q3 q4) fun v2 hv2=>?_;refine aF (fun c2=>?_) (fun c2=>?_)
  ·have c2o:=c2;have c2:=nr c2;refine ak ?_;exact ob
  ·have c2o:=c2;have c2:=nr c2;refine ak ?_;(intro _; exact hv2 (by simpa using c2o))
theorem Nu {l_:(List bV)} (h1:∀g∈l_,g.After.length≤1000000):W (lV l_) (fun r=>r=0→YT l_):=by
 unfold lV;refine aF (fun c1=>?_) (fun c1=>?_)
 ·have c1:=nr c1;refine ak ?_;exact ob
 ·have c1:=nr c1;refine aW (fun (g1:Int)=>0≤g1∧(∀j:Nat,(j:Int)<g1→∀x∈(l_.getD j dReset).After,0≤x∧x<(j:Int))) (fun (g1:Int)=>(l_.length - g1).toNat) ?_ ?_
  ·intro self1 g1 hig1 ihg1;obtain ⟨hg1_1,hg1_2⟩:=hig1;unfold wu;refine aF (fun c2=>?_) (fun c2=>?_)
   ·have c2:=nr c2;have hgl:=h1 _ (getD_in (i:=g1.toNat) dReset (by omega));refine aW (fun (g6:Int)=>0≤g6∧(∀j:Nat,(j:Int)<g6→0≤(l_.getD g1.toNat dReset).After.getD j 0∧(l_.getD g1.toNat dReset).After.getD j 0<g1)) (fun (g6:Int)=>((l_.getD g1.toNat dReset).After.length - g6).toNat) ?_ ?_
    ·intro self6 g6 hig6 ihg6;obtain ⟨hg6_1,hg6_2⟩:=hig6;unfold wo;refine wn ?_;refine aF (fun c3=>?_) (fun c3=>?_)
     ·have c3:=nr c3;refine wn ?_;refine wn ?_;refine wn ?_;refine wn ?_;refine aF (fun c4=>?_) (fun c4=>?_)
      ·have c4:=nr c4;refine ak ?_;exact ob
      ·have c4:=nr c4;refine wn ?_;refine ihg6 _ ?_ ?_
       ·(refine ⟨by exact ob,fH hg6_2 hg6_1 (by omega)⟩)
       ·exact ob
     ·have c3:=nr c3;refine aW (fun (g7:Int)=>1≤g7) (fun (g7:Int)=>((l_.getD g1.toNat dReset).After.length - g7).toNat) ?_ ?_
      ·intro self7 g7 hig7 ihg7;unfold uf;refine wn ?_;refine aF (fun c5=>?_) (fun c5=>?_)
       ·have c5:=nr c5;refine wn ?_;refine wn ?_;refine wn ?_;refine wn ?_;refine wn ?_;refine aF (fun c6=>?_) (fun c6=>?_)
        ·have c6:=nr c6;refine ak ?_;exact ob
        ·have c6:=nr c6;refine wn ?_;refine ihg7 _ ?_ ?_
         ·exact ob
         ·exact ob
       ·have c5:=nr c5;refine wn ?_;refine ihg1 _ ?_ ?_
        ·(refine ⟨by exact ob,fH hg1_2 hg1_1 (jW 0 fun j hj=>by have:=hg6_2 j (by omega); omega)⟩)
        ·exact ob
      ·exact ob
    ·(refine ⟨by exact ob,fun j hj=>by (try dsimp only at hj); omega⟩)
   ·have c2:=nr c2;refine ak ?_;(intro _; exact ⟨by omega,fun i hi=>hg1_2 i (by omega)⟩)
  ·(refine ⟨by exact ob,fun j hj=>by (try dsimp only at hj); omega⟩)
theorem Ms {l_:(List bV)} {lines_:(List Int)} (h1:∀g∈l_,g.After.length≤1000000) (h2:lines_.length≤1000000):W (mG l_ lines_) (fun r=>r.2=0→r.1.length=l_.length):=by
 unfold mG;refine aC (Nu h1) fun v1 hv1=>?_;refine aF (fun c1=>?_) (fun c1=>?_)
 ·have c1o:=c1;have c1:=nr c1;refine ak ?_;exact ob
 ·have c1o:=c1;have c1:=nr c1;obtain ⟨p1,p2⟩:=hv1 (by simpa using c1o);refine wn ?_;refine aW (fun (g1:(Int×(List Bool)))=>0≤g1.1∧g1.2.length=l_.length) (fun (g1:(Int×(List Bool)))=>(lines_.length - g1.1).toNat) ?_ ?_
  ·intro self1 g1 hig1 ihg1;obtain ⟨hg1_1,hg1_2⟩:=hig1;unfold ug;refine aF (fun c2=>?_) (fun c2=>?_)
   ·have c2:=nr c2;refine wn ?_;refine wn ?_;refine aF (fun c3=>?_) (fun c3=>?_)
    ·have c3:=nr c3;refine ak ?_;exact ob
    ·have c3:=nr c3;refine wn ?_;refine wn ?_;refine wn ?_;refine ihg1 _ ?_ ?_
     ·exact ob
     ·exact ob
   ·have c2:=nr c2;refine wn ?_;refine aW (fun (g2:(Int×(List Bool))) => -1≤g2.1∧g2.1<l_.length∧g2.2.length=l_.length) (fun (g2:(Int×(List Bool)))=>(g2.1+1).toNat) ?_ ?_
    ·intro self2 g2 hig2 ihg2;obtain ⟨hg2_1,hg2_2,hg2_3⟩:=hig2;unfold qU;refine aF (fun c4=>?_) (fun c4=>?_)
     ·have c4:=nr c4;have hgl:=h1 _ (getD_in (i:=g2.1.toNat) dReset (by omega));refine aW (fun (g5:(Int×(List Bool)))=>0≤g5.1∧g5.2.length=l_.length) (fun (g5:(Int×(List Bool)))=>((l_.getD g2.1.toNat dReset).After.length - g5.1).toNat) ?_ ?_
      ·intro self5 g5 hig5 ihg5;obtain ⟨hg5_1,hg5_2⟩:=hig5;unfold qR;refine wn ?_;refine wn ?_;refine aF (fun c5=>?_) (fun c5=>?_)
       ·have c5o:=c5;have c5:=nr c5;simp only [Bool.and_eq_true,decide_eq_true_eq] at c5o;have hx:=p2 g2.1.toNat (by omega) _ (getD_in (i:=g5.1.toNat) 0 (by omega));refine wn ?_;refine wn ?_;refine wn ?_;refine wn ?_;refine ihg5 _ ?_ ?_
        ·exact ob
        ·exact ob
       ·have c5o:=c5;have c5:=nr c5;refine wn ?_;refine ihg2 _ ?_ ?_
        ·exact ob
        ·exact ob
      ·exact ob
     ·have c4:=nr c4;refine ak ?_;exact ob
    ·exact ob
  ·(refine ⟨by exact ob,by simp⟩)
theorem FD {l_:(List bH)}:W (sO l_) (fun r=>r=0→Tx l_):=by
 unfold sO;refine aF (fun c1=>?_) (fun c1=>?_)
 ·have c1:=nr c1;refine ak ?_;exact ob
 ·have c1:=nr c1;refine aW (fun (g1:Int)=>0≤g1∧(∀j:Nat,(j:Int)<g1 → -1≤(l_.getD j dD).Parent∧(l_.getD j dD).Parent<(j:Int))) (fun (g1:Int)=>(l_.length - g1).toNat) ?_ ?_
  ·intro self1 g1 hig1 ihg1;obtain ⟨hg1_1,hg1_2⟩:=hig1;unfold Dw;refine aF (fun c2=>?_) (fun c2=>?_)
   ·have c2:=nr c2;refine wn ?_;refine wn ?_;refine aF (fun c3=>?_) (fun c3=>?_)
    ·have c3:=nr c3;refine ak ?_;exact ob
    ·have c3:=nr c3;refine wn ?_;refine ihg1 _ ?_ ?_
     ·(refine ⟨by exact ob,fH hg1_2 hg1_1 (by omega)⟩)
     ·exact ob
   ·have c2:=nr c2;refine ak ?_;(intro _; exact ⟨by omega,fun i hi=>hg1_2 i (by omega)⟩)
  ·(refine ⟨by exact ob,fun j hj=>by (try dsimp only at hj); omega⟩)
theorem J5 {l_:(List bH)} {users_:(List Int)} (h1:users_.length≤1000000):W (Ew l_ users_) (fun r=>r=0→Tx l_∧∀x∈users_,0≤x∧x<l_.length):=by
 unfold Ew;refine aC (FD) fun v1 hv1=>?_;refine aF (fun c1=>?_) (fun c1=>?_)
 ·have c1o:=c1;have c1:=nr c1;refine ak ?_;exact ob
 ·have c1o:=c1;have c1:=nr c1;refine aW (fun (g1:Int)=>0≤g1∧(∀j:Nat,(j:Int)<g1→0≤users_.getD j 0∧users_.getD j 0<l_.length)) (fun (g1:Int)=>(users_.length - g1).toNat) ?_ ?_
  ·intro self1 g1 hig1 ihg1;obtain ⟨hg1_1,hg1_2⟩:=hig1;unfold GV;refine aF (fun c2=>?_) (fun c2=>?_)
   ·have c2:=nr c2;refine wn ?_;refine wn ?_;refine aF (fun c3=>?_) (fun c3=>?_)
    ·have c3:=nr c3;refine ak ?_;exact ob
    ·have c3:=nr c3;refine wn ?_;refine ihg1 _ ?_ ?_
     ·(refine ⟨by exact ob,fH hg1_2 hg1_1 (by omega)⟩)
     ·exact ob
   ·have c2:=nr c2;refine ak ?_;(intro _; exact ⟨hv1 (by simpa using c1o),jW 0 fun j hj=>hg1_2 j (by omega)⟩)
  ·(refine ⟨by exact ob,fun j hj=>by (try dsimp only at hj); omega⟩)
theorem TB {l_:(List bH)} {users_:(List Int)} (h1:users_.length≤1000000):W (zh l_ users_) (fun r=>r.2=0→r.1.length=l_.length):=by
 unfold zh;refine aC (J5 ob) fun v1 hv1=>?_;refine aF (fun c1=>?_) (fun c1=>?_)
 ·have c1o:=c1;have c1:=nr c1;refine ak ?_;(intro e; exact absurd e c1)
 ·have c1o:=c1;have c1:=nr c1;obtain ⟨⟨p1,p2⟩,p3⟩:=hv1 (by simpa using c1o);refine wn ?_;refine aW (fun (g1:(Int×(List Bool)))=>0≤g1.1∧g1.2.length=l_.length) (fun (g1:(Int×(List Bool)))=>(users_.length - g1.1).toNat) ?_ ?_
  ·intro self1 g1 hig1 ihg1;obtain ⟨hg1_1,hg1_2⟩:=hig1;unfold Dx;refine aF (fun c2=>?_) (fun c2=>?_)
   ·have c2:=nr c2;have hx:=p3 _ (getD_in (i:=g1.1.toNat) 0 (by omega));refine wn ?_;refine wn ?_;refine wn ?_;refine ihg1 _ ?_ ?_
    ·exact ob
    ·exact ob
   ·have c2:=nr c2;refine wn ?_;refine aW (fun (g2:(Int×(List Bool))) => -1≤g2.1∧g2.1<l_.length∧g2.2.length=l_.length) (fun (g2:(Int×(List Bool)))=>(g2.1+1).toNat) ?_ ?_
    ·intro self2 g2 hig2 ihg2;obtain ⟨hg2_1,hg2_2,hg2_3⟩:=hig2;unfold Ag;refine aF (fun c3=>?_) (fun c3=>?_)
     ·have c3:=nr c3;have hp:=p2 g2.1.toNat (by omega);refine wn ?_;refine wn ?_;refine wn ?_;unfold vo;refine wn ?_;refine wn ?_;refine aF (fun c4=>?_) (fun c4=>?_)
      ·have c4:=nr c4;refine wn ?_;refine wn ?_;refine wn ?_;refine ihg2 _ ?_ ?_
       ·exact ob
       ·exact ob
      ·have c4:=nr c4;refine wn ?_;refine ihg2 _ ?_ ?_
       ·exact ob
       ·exact ob
     ·have c3:=nr c3;refine ak ?_;exact ob
    ·exact ob
  ·(refine ⟨by exact ob,by simp⟩)
end Go.Proofs.YtfblhejmclcdmaaGreatDoor

namespace Go.Proofs.YtfblhejmclcdmaaGreatDoor.Sp
open Go.Ab
set_option maxRecDepth 100000
theorem XF {l:List aj} {d:List aI} (h:((bP l != 0)||decide (32<(d.length:Int)))=true):fA l d=false:=by
 unfold fA;by_cases h1:bP l=0
 ·rw [h1] at h;have:32<(d.length:Int):=by simpa using h
  rw [decide_eq_false (p:=(d.length:Int)≤32) (by omega)];simp
 ·have:(bP l==0)=false:=by simpa using h1
  rw [this];rfl
theorem VA {l:List aj} {d:List aI} (h:((bP l != 0)||decide (32<(d.length:Int)))=false):fA l d=!(d.any (Kk l.length)):=by
 have h1:bP l=0∧(d.length:Int)≤32:=by
  simp at h;omega
 unfold fA;rw [h1.1,decide_eq_true h1.2];rfl
theorem YZ {b:List Bool} {d:List aI} {i j:Nat} {a:Bool} {g:Int} (hi:i<b.length) (hj:j<d.length) (hg:g=(i:Int)):(b.set i (b.getD i false||a||atD (d.take j) i)).set i ((b.set i (b.getD i false||a||atD (d.take j) i)).getD i false||((d.getD j bK).aM==g))=b.set i (b.getD i false||a||atD (d.take (j+1)) i):=by
 subst hg;have hsn:atD (d.take (j+1)) i=(atD (d.take j) i||((d.getD j bK).aM==(i:Int))):=by
  unfold atD;rw [gJ bK hj,List.any_append];simp
 rw [dA,if_pos ⟨rfl,hi⟩,List.set_set,hsn];simp only [Bool.or_assoc]
theorem lY {x_:Int} {lo_:Int} {hi_:Int}:W (lQ x_ lo_ hi_) (fun r=>r=withinF x_ lo_ hi_):=by
 unfold lQ;refine ak ?_;rfl
theorem yt {l_:(List aj)} (h1:l_.length≤1000000):W (oH l_) (fun r=>r=bP l_):=by
 unfold oH;refine aF (fun c1=>?_) (fun c1=>?_)
 ·have c1o:=c1;have c1:=nr c1;refine ak ?_;(unfold bP; rw [c1o]; rfl)
 ·have c1o:=c1;have c1:=nr c1;refine aW (fun (g1:Int)=>0≤g1∧g1≤l_.length∧(∀j:Nat,(j:Int)<g1→bigS (l_.getD j ah)=false)) (fun (g1:Int)=>(l_.length - g1).toNat) ?_ ?_
  ·intro self1 g1 hig1 ihg1;obtain ⟨hg1_1,hg1_2,hg1_3⟩:=hig1;unfold Dk;refine aF (fun c2=>?_) (fun c2=>?_)
   ·have c2:=nr c2;refine wn ?_;refine aF (fun c3=>?_) (fun c3=>?_)
    ·have c3o:=c3;have c3:=nr c3;refine ak ?_;(unfold bP; rw [pQ (p:=bigS) ah (show g1.toNat<l_.length by omega) (show bigS _=true from c3o),Bool.or_true]; rfl)
    ·have c3o:=c3;have c3:=nr c3;refine wn ?_;refine ihg1 _ ?_ ?_
     ·(refine ⟨by exact ob,by exact ob,fH hg1_3 hg1_1 c3o⟩)
     ·exact ob
   ·have c2:=nr c2;have hbig:=any_none (p:=bigS) ah (fun j hj=>hg1_3 j (by omega));have hb3:(decide (16<(l_.length:Int))||l_.any bigS)=false:=(by rw [c1o,hbig]; rfl);refine aW (fun (g2:Int)=>0≤g2∧g2≤l_.length∧I9 g2.toNat (l_.drop g2.toNat)=I9 0 l_) (fun (g2:Int)=>(l_.length - g2).toNat) ?_ ?_
    ·intro self2 g2 hig2 ihg2;obtain ⟨hg2_1,hg2_2,hg2_3⟩:=hig2;unfold Bw;obtain ⟨i,rfl⟩:=Int.eq_ofNat_of_zero_le hg2_1;refine aF (fun c4=>?_) (fun c4=>?_)
     ·have c4:=nr c4;have hlt:i<l_.length:=(by omega);have hb:=hg1_3 i (by omega);have hbl:(l_.getD i ah).aQ.length≤16:=(by unfold bigS at hb; have:=of_decide_eq_false hb; omega);rw [show ((i:Int).toNat)=i from rfl,drop_cons ah hlt,I9] at hg2_3;simp only [Int.toNat_natCast] at *;refine wn ?_;refine wn ?_;refine aC (lY) fun v13 hv13=>?_;subst v13;refine aC (d9 fun hc=>jR (lY)) fun v14 hv14=>?_;subst v14;refine aC (d9 fun hc=>jR (lY)) fun v15 hv15=>?_;subst v15;refine aF (fun c5=>?_) (fun c5=>?_)
      ·have c5o:=c5;have c5:=nr c5;rw [Ux] at c5o;refine ak ?_;(unfold bP; rw [hb3,← hg2_3]; unfold validS; rw [show headB (l_.getD i ah) i=true from c5o]; rfl)
      ·have c5o:=c5;have c5:=nr c5;rw [Ux] at c5o;refine aW (fun (g5:Int)=>0≤g5∧g5≤(l_.getD i ah).aQ.length∧EL (if g5.toNat=0 then 0 else (l_.getD i ah).aQ.getD (g5.toNat - 1) 0) ((l_.getD i ah).aQ.drop g5.toNat)=EL 0 (l_.getD i ah).aQ) (fun (g5:Int)=>((l_.getD i ah).aQ.length - g5).toNat) ?_ ?_
       ·intro self5 g5 hig5 ihg5;obtain ⟨hg5_1,hg5_2,hg5_3⟩:=hig5;unfold Bv;obtain ⟨k,rfl⟩:=Int.eq_ofNat_of_zero_le hg5_1;simp only [Int.toNat_natCast] at *;refine aF (fun c6=>?_) (fun c6=>?_)
        ·have c6:=nr c6;have hlk:k<(l_.getD i ah).aQ.length:=(by omega);have hst:=Rm hlk rfl;rw [hst] at hg5_3;have e1:(((k:Int) - 1).toNat)=k - 1:=(by omega);simp only [e1,Int.toNat_natCast] at *;refine wn ?_;refine aC (lY) fun v18 hv18=>?_;subst v18;refine wn ?_;refine wn ?_;refine aF (fun c7=>?_) (fun c7=>?_)
         ·have c7o:=c7;have c7:=nr c7;refine ak ?_;(unfold bP; rw [hb3,← hg2_3]; unfold validS; rw [show headB (l_.getD i ah) i=false from c5o,← hg5_3,c7o]; rfl)
         ·have c7o:=c7;have c7:=nr c7;refine wn ?_;refine ihg5 _ ?_ ?_
          ·(refine ⟨by exact ob,by exact ob,?_⟩; rw [← hg5_3,c7o]; rw [show ((k:Int)+1).toNat=k+1 by omega,if_neg (by omega)]; rfl)
          ·exact ob
        ·have c6:=nr c6;refine wn ?_;refine ihg2 _ ?_ ?_
         ·(refine ⟨by exact ob,by exact ob,?_⟩; rw [← hg2_3]; unfold validS; rw [show headB (l_.getD i ah) i=false from c5o,← hg5_3,show k=(l_.getD i ah).aQ.length by omega,List.drop_length,show ((i:Int)+1).toNat=i+1 by omega]; rfl)
         ·exact ob
       ·(refine ⟨by exact ob,by exact ob,rfl⟩)
     ·have c4:=nr c4;refine ak ?_;(unfold bP; rw [hb3,← hg2_3,show ((i:Int).toNat)=i from rfl,show i=l_.length by omega,List.drop_length]; rfl)
    ·(refine ⟨by exact ob,by exact ob,rfl⟩)
  ·(refine ⟨by exact ob,by exact ob,fun j hj=>by omega⟩)
theorem Nv {l_:(List aj)} {d_:(List aI)} (h1:l_.length≤1000000) (h2:d_.length≤1000000):W (xB l_ d_) (fun r=>r=fA l_ d_):=by
 unfold xB;refine aC (yt ob) fun v1 hv1=>?_;subst v1;refine aF (fun c1=>?_) (fun c1=>?_)
 ·have c1o:=c1;have c1:=nr c1;refine ak ?_;(exact (XF c1o).symm)
 ·have c1o:=c1;have c1:=nr c1;have hdf:=VA c1o;refine aW (fun (g1:Int)=>0≤g1∧g1≤d_.length∧(d_.drop g1.toNat).any (Kk l_.length)=d_.any (Kk l_.length)) (fun (g1:Int)=>(d_.length - g1).toNat) ?_ ?_
  ·intro self1 g1 hig1 ihg1;obtain ⟨hg1_1,hg1_2,hg1_3⟩:=hig1;unfold Dl;refine aF (fun c2=>?_) (fun c2=>?_)
   ·have c2:=nr c2;have hlt:g1.toNat<d_.length:=(by omega);rw [drop_cons bK hlt,List.any_cons] at hg1_3;refine wn ?_;refine wn ?_;refine aC (lY) fun v8 hv8=>?_;subst v8;refine aC (d9 fun hc=>jR (lY)) fun v9 hv9=>?_;subst v9;refine aC (d9 fun hc=>jR (lY)) fun v10 hv10=>?_;subst v10;refine aF (fun c3=>?_) (fun c3=>?_)
    ·have c3o:=c3;have c3:=nr c3;have hb:=(Rn l_.length (d_.getD g1.toNat bK)).symm.trans c3o;refine ak ?_;(rw [hdf,← hg1_3,hb]; rfl)
    ·have c3o:=c3;have c3:=nr c3;have hb:=(Rn l_.length (d_.getD g1.toNat bK)).symm.trans c3o;refine wn ?_;refine ihg1 _ ?_ ?_
     ·(refine ⟨by exact ob,by exact ob,?_⟩; rw [← hg1_3,hb,show (g1+1).toNat=g1.toNat+1 by omega]; rfl)
     ·exact ob
   ·have c2:=nr c2;refine ak ?_;(rw [hdf,← hg1_3,show g1.toNat=d_.length by omega,List.drop_length]; rfl)
  ·(refine ⟨by exact ob,by exact ob,rfl⟩)
theorem Nw {l_:(List aj)} {d_:(List aI)} (h1:l_.length≤1000000) (h2:d_.length≤1000000):W (xC l_ d_) (fun r=>r=beginF l_ d_):=by
 unfold xC;refine aC (yt ob) fun v1 hv1=>?_;subst v1;refine aF (fun c1=>?_) (fun c1=>?_)
 ·have c1o:=c1;have c1:=nr c1;refine ak ?_;(unfold beginF; rw [c1o]; rfl)
 ·have c1o:=c1;have c1:=nr c1;refine aC (Nv ob ob) fun v2 hv2=>?_;subst v2;refine aF (fun c2=>?_) (fun c2=>?_)
  ·have c2o:=c2;have c2:=nr c2;refine ak ?_;(unfold beginF; rw [c1o,c2o]; rfl)
  ·have c2o:=c2;have c2:=nr c2;refine ak ?_;(unfold beginF; rw [c1o,c2o]; rfl)
theorem Hr {l_:(List aj)} {d_:(List aI)} (h1:Cc l_ d_):W (vY l_ d_) (fun r=>r=dF l_ d_):=by
 have hv:=h1;obtain ⟨vl,vd,vs,_,vx⟩:=h1;unfold vY;refine wn ?_;refine wn ?_;refine aW (fun (g1:(Int×(List Bool))) => -1≤g1.1∧g1.1<l_.length∧FC l_ d_ (l_.length - 1 - g1.1).toNat g1.2) (fun (g1:(Int×(List Bool)))=>(g1.1+1).toNat) ?_ ?_
 ·intro self1 g1 hig1 ihg1;obtain ⟨hg1_1,hg1_2,hg1_3⟩:=hig1;unfold Fw;have hbl:=hg1_3.len;refine aF (fun c1=>?_) (fun c1=>?_)
  ·have c1:=nr c1;have hst:=hg1_3.step hv (show (l_.length - 1 - g1.1).toNat<l_.length by omega);have hp:=vs g1.1.toNat (by omega);rw [show l_.length - 1 - ((l_.length:Int) - 1 - g1.1).toNat=g1.1.toNat by omega,show ((l_.length:Int) - 1 - g1.1).toNat+1=((l_.length:Int) - 1 - (g1.1 - 1)).toNat by omega] at hst;refine wn ?_;refine wn ?_;refine wn ?_;refine aW (fun (g4:(Int×(List Bool)))=>0≤g4.1∧g4.1≤d_.length∧g4.2=g1.2.set g1.1.toNat (g1.2.getD g1.1.toNat false||(l_.getD g1.1.toNat ah).Always||atD (d_.take g4.1.toNat) g1.1.toNat)) (fun (g4:(Int×(List Bool)))=>(d_.length - g4.1).toNat) ?_ ?_
   ·intro self4 g4 hig4 ihg4;obtain ⟨hg4_1,hg4_2,hg4_3⟩:=hig4;unfold Fv;have hg4l:g4.2.length=l_.length:=(by rw [hg4_3,List.length_set,hbl]);refine aF (fun c2=>?_) (fun c2=>?_)
    ·have c2:=nr c2;refine wn ?_;refine wn ?_;refine wn ?_;refine wn ?_;refine ihg4 _ ?_ ?_
     ·(refine ⟨by exact ob,by exact ob,?_⟩; dsimp only; rw [show (g4.1+1).toNat=g4.1.toNat+1 by omega,hg4_3]; exact YZ (by omega) (by omega) (by omega))
     ·exact ob
    ·have c2:=nr c2;have hg4e:g4.2=g1.2.set g1.1.toNat (g1.2.getD g1.1.toNat false||(l_.getD g1.1.toNat ah).Always||atD d_ g1.1.toNat):=(by rw [hg4_3,show g4.1.toNat=d_.length by omega,List.take_length]);have hgi:g4.2.getD g1.1.toNat false=(g1.2.getD g1.1.toNat false||(l_.getD g1.1.toNat ah).Always||atD d_ g1.1.toNat):=(by rw [hg4e,dA,if_pos ⟨rfl,by omega⟩]);refine wn ?_;refine wn ?_;refine aF (fun c3=>?_) (fun c3=>?_)
     ·have c3o:=c3;have c3:=nr c3;have c3b:=c3o;rw [hgi] at c3b;refine wn ?_;refine wn ?_;refine ihg1 _ ?_ ?_
      ·(refine ⟨by exact ob,by exact ob,?_⟩; dsimp only; unfold Hg at hst; rw [c3b] at hst; rw [hg4e]; exact hst)
      ·exact ob
     ·have c3o:=c3;have c3:=nr c3;have c3b:=c3o;rw [hgi] at c3b;refine wn ?_;refine ihg1 _ ?_ ?_
      ·(refine ⟨by exact ob,by exact ob,?_⟩; dsimp only; unfold Hg at hst; rw [c3b] at hst; rw [hg4e]; exact hst)
      ·exact ob
   ·(refine ⟨by exact ob,by exact ob,?_⟩; dsimp only; rw [show (0:Int).toNat=0 from rfl,List.take_zero,show atD [] g1.1.toNat=false from rfl,Bool.or_false])
  ·have c1:=nr c1;refine ak ?_;(exact FC.done (by rw [show l_.length=((l_.length:Int) - 1 - g1.1).toNat by omega]; exact hg1_3))
 ·(refine ⟨by exact ob,by exact ob,?_⟩; dsimp only; rw [show ((l_.length:Int) - 1 - (l_.length - 1)).toNat=0 by omega]; exact FC.start hv)
theorem Ny {s_:aj} {v_:Int} (h1:s_.aQ.length≤1000000):W (xD s_ v_) (fun r=>r=(bif decide (lvN s_.aQ v_<s_.aQ.length) then (lvN s_.aQ v_:Int) else -1)):=by
 unfold xD;refine aW (fun (g1:Int)=>0≤g1∧g1≤s_.aQ.length∧(∀j:Nat,(j:Int)<g1→s_.aQ.getD j 0<v_)) (fun (g1:Int)=>(s_.aQ.length - g1).toNat) ?_ ?_
 ·intro self1 g1 hig1 ihg1;obtain ⟨hg1_1,hg1_2,hg1_3⟩:=hig1;unfold Dn;refine aF (fun c1=>?_) (fun c1=>?_)
  ·have c1:=nr c1;refine wn ?_;refine aF (fun c2=>?_) (fun c2=>?_)
   ·have c2:=nr c2;refine ak ?_;(rw [← Xt (k:=g1.toNat) (by omega) (fun j hj=>hg1_3 j (by omega)) (fun _=>c2),decide_eq_true (by omega)]; simp only [cond_true]; omega)
   ·have c2:=nr c2;refine wn ?_;refine ihg1 _ ?_ ?_
    ·(refine ⟨by exact ob,by exact ob,fH hg1_3 hg1_1 c2⟩)
    ·exact ob
  ·have c1:=nr c1;refine ak ?_;(rw [← Xt (k:=g1.toNat) (by omega) (fun j hj=>hg1_3 j (by omega)) (fun h=>by omega),decide_eq_false (by omega)]; rfl)
 ·(refine ⟨by exact ob,by exact ob,fun j hj=>by omega⟩)
theorem rV {l_:(List aj)} {r_:bE} {k_:Int} (h1:0≤k_) (h2:k_<l_.length) (h3:VP l_ r_):W (lS l_ r_ k_) (fun r=>r=jl l_ r_ k_.toNat):=by
 obtain ⟨r1,r2,r3⟩:=h3;have r4:=r3 k_.toNat (by omega);unfold lS;refine wn ?_;refine wn ?_;refine wn ?_;refine ak ?_;rfl
end Go.Proofs.YtfblhejmclcdmaaGreatDoor.Sp

namespace Go.Proofs.YtfblhejmclcdmaaGreatDoor.Sp
open Go.Ab
set_option maxRecDepth 100000
theorem aa4 {l:List aj} {r:bE} {u:List Bool} {ld:List Int} {i:Nat} (h:(u.getD i false&&!r.On.getD i false)=true):DL l r u ld i=true:=by
 simp only [Bool.and_eq_true] at h;unfold DL;rw [h.1,h.2]; rfl
theorem aa5 {l:List aj} {r:bE} {u:List Bool} {ld:List Int} {i:Nat} (h:(u.getD i false&&!r.On.getD i false)=false) (h2:(!r.On.getD i false)=true):DL l r u ld i=false:=by
 rw [h2,Bool.and_true] at h;unfold DL;rw [h2,h]; rfl
theorem aaE {l:List aj} {r:bE} {u:List Bool} {ld:List Int} {i:Nat} (h2:(!r.On.getD i false)=false):DL l r u ld i=(decide ((l.getD i ah).dU<ld.getD i 0)||(decide (0≤(l.getD i ah).Parent)&&(!r.On.getD (l.getD i ah).Parent.toNat false||decide (jl l r (l.getD i ah).Parent.toNat<jl l r i+(l.getD i ah).dM)))):=by
 unfold DL;rw [h2,Bool.or_comm]; rfl
theorem RF {l:List aj} {r:bE} {d:List aI} {i:Nat} (hi:i<l.length) (h:DL l r (dF l d) (iG l d) i=true):pW l r d=false:=by
 unfold pW;rw [uh hi (by rw [h]; rfl)];rfl
theorem RG {l:List aj} {r:bE} {d:List aI} (h:∀i,i<l.length→DL l r (dF l d) (iG l d) i=false):pW l r d=!(d.any (dBad l r)):=by
 unfold pW;rw [DN fun j hj=>(by rw [h j hj]; rfl)];rfl
theorem VB {l:List aj} {u:List Bool} {i:Nat} {s:DS} (h:(!u.getD i false)=true):wB l u i s=false:=by
 unfold wB;rw [show u.getD i false=false by simpa using h];rfl
theorem XG {a n:Nat} (h:decide ((bif decide (a<n) then (a:Int) else -1)<0)=true):decide (a<n)=false:=by
 cases hd:decide (a<n) with
 | false=>rfl
 | true=>rw [hd] at h; have:=of_decide_eq_true h; simp only [cond_true] at this; omega
theorem XH {a n:Nat} (h:decide ((bif decide (a<n) then (a:Int) else -1)<0)=false):decide (a<n)=true:=by
 cases hd:decide (a<n) with
 | true=>rfl
 | false=>rw [hd] at h; cases h
theorem TF {l:List aj} {d:List aI} {s:DS} {i:Nat} (h0:(beginF l d != 0)=false) (e:(s,(i:Int))=Gd l d):(FZ,9)=kR l d:=by
 unfold kR;rw [h0,← e,decide_eq_true (show (0:Int)≤(s,(i:Int)).2 by dsimp only; omega)];rfl
theorem OD {l:List aj} {d:List aI} {s:DS} (h0:(beginF l d != 0)=false) (hdr:fA l d=true) (e:(s,(-1:Int))=Gd l d) (hr:VP l ⟨dF l d,s.lv⟩):kR l d=bif !pW l ⟨dF l d,s.lv⟩ d then (FZ,9) else (⟨dF l d,s.lv⟩,0):=by
 unfold kR;have hmf:fq l ⟨dF l d,s.lv⟩ d=pW l ⟨dF l d,s.lv⟩ d:=by
  unfold fq;rw [zl.2 ⟨DR hdr,hr⟩,hdr];rfl
 rw [h0,← e];simp only [show decide ((0:Int) ≤ -1)=false from rfl,Bool.false_or,hmf,cond_false]
theorem XI {l:List aj} {u:List Bool} {i:Nat} {s:DS} (hu:u.getD i false=true) (hi:i<s.lv.length):jl l ⟨u,(Al l u i s).lv⟩ i+(l.getD i ah).dM=needOf l i s:=by
 unfold jl needOf Al;rw [hu];simp only [Bool.not_true,cond_false];rw [dA,if_pos ⟨rfl,hi⟩];rfl
theorem XJ {l:List aj} {u:List Bool} {i:Nat} {s:DS} (hu:u.getD i false=true) (hp:decide (0≤(l.getD i ah).Parent)=true):(yj s.a).set (l.getD i ah).Parent.toNat (if needOf l i s > (yj s.a).getD (l.getD i ah).Parent.toNat 0 then needOf l i s else (yj s.a).getD (l.getD i ah).Parent.toNat 0)=yj (Al l u i s).a:=by
 unfold Al;rw [hu,hp,DT];simp only [Bool.not_true,cond_false,Bool.true_and];by_cases h:(s.a.getD (l.getD i ah).Parent.toNat EK).qh<needOf l i s
 ·rw [decide_eq_true h,cond_true,Rx,if_pos h]
 ·rw [decide_eq_false h,cond_false,if_neg h,Rz _ _ _ (DT _ _).symm]
theorem VD {l:List aj} {u:List Bool} {i:Nat} {s:DS} (hp:decide (0≤(l.getD i ah).Parent)=false):yj s.a=yj (Al l u i s).a:=by
 unfold Al;rw [hp];cases u.getD i false<;>rfl
theorem XK {l:List aj} {u:List Bool} {i:Nat} {s:DS} (h:(!u.getD i false)=true):Al l u i s=s:=by
 unfold Al;rw [h];rfl
theorem Nz {l_:(List aj)} {d_:(List aI)} (h1:Cc l_ d_):W (xE l_ d_) (fun r=>r=iG l_ d_):=by
 have hv:=h1;obtain ⟨vl,vd,vs,_,vx⟩:=h1;unfold xE;refine wn ?_;refine wn ?_;refine aW (fun (g1:(Int×(List Int))) => -1≤g1.1∧g1.1<l_.length∧BF l_ d_ (l_.length - 1 - g1.1).toNat g1.2) (fun (g1:(Int×(List Int)))=>(g1.1+1).toNat) ?_ ?_
 ·intro self1 g1 hig1 ihg1;obtain ⟨hg1_1,hg1_2,hg1_3⟩:=hig1;unfold Dq;have hbl:=hg1_3.len;have hsm:=hg1_3.small hv (by omega);refine aF (fun c1=>?_) (fun c1=>?_)
  ·have c1:=nr c1;have hst:=hg1_3.step hv (show (l_.length - 1 - g1.1).toNat<l_.length by omega);have hp:=vs g1.1.toNat (by omega);rw [show l_.length - 1 - ((l_.length:Int) - 1 - g1.1).toNat=g1.1.toNat by omega,show ((l_.length:Int) - 1 - g1.1).toNat+1=((l_.length:Int) - 1 - (g1.1 - 1)).toNat by omega] at hst;refine aW (fun (g4:(Int×(List Int)))=>0≤g4.1∧g4.1≤d_.length∧g4.2=g1.2.set g1.1.toNat (g1.2.getD g1.1.toNat 0+dsum (d_.take g4.1.toNat) g1.1.toNat)) (fun (g4:(Int×(List Int)))=>(d_.length - g4.1).toNat) ?_ ?_
   ·intro self4 g4 hig4 ihg4;obtain ⟨hg4_1,hg4_2,hg4_3⟩:=hig4;unfold Dp;have hg4l:g4.2.length=l_.length:=(by rw [hg4_3,List.length_set,hbl]);refine aF (fun c2=>?_) (fun c2=>?_)
    ·have c2:=nr c2;have hx:=vx _ (eY bK (show g4.1.toNat<d_.length by omega));have hdb:=Hl (d:=d_) (fun x hx=>by have:=vx x hx; omega) g1.1.toNat g4.1.toNat (by omega);have hbi:=hsm g1.1.toNat;have hgi:g4.2.getD g1.1.toNat 0=g1.2.getD g1.1.toNat 0+dsum (d_.take g4.1.toNat) g1.1.toNat:=(by rw [hg4_3,dA,if_pos ⟨rfl,by omega⟩]);refine wn ?_;refine aF (fun c3=>?_) (fun c3=>?_)
     ·have c3o:=c3;have c3:=nr c3;refine wn ?_;refine wn ?_;refine wn ?_;refine wn ?_;refine ihg4 _ ?_ ?_
      ·(refine ⟨by exact ob,by exact ob,?_⟩; dsimp only; rw [show (g4.1+1).toNat=g4.1.toNat+1 by omega,hgi,hg4_3,List.set_set,Ja (by omega),show ((g1.1.toNat:Int))=g1.1 by omega,c3o]; simp only [cond_true]; rw [Int.add_assoc])
      ·exact ob
     ·have c3o:=c3;have c3:=nr c3;refine wn ?_;refine ihg4 _ ?_ ?_
      ·(refine ⟨by exact ob,by exact ob,?_⟩; dsimp only; rw [show (g4.1+1).toNat=g4.1.toNat+1 by omega,hg4_3,Ja (by omega),show ((g1.1.toNat:Int))=g1.1 by omega,c3o]; rfl)
      ·exact ob
    ·have c2:=nr c2;have hdb:=Hl (d:=d_) (fun x hx=>by have:=vx x hx; omega) g1.1.toNat d_.length (Nat.le_refl _);rw [List.take_length] at hdb;have hg4e:g4.2=g1.2.set g1.1.toNat (g1.2.getD g1.1.toNat 0+dsum d_ g1.1.toNat):=(by rw [hg4_3,show g4.1.toNat=d_.length by omega,List.take_length]);have hgi:g4.2.getD g1.1.toNat 0=g1.2.getD g1.1.toNat 0+dsum d_ g1.1.toNat:=(by rw [hg4e,dA,if_pos ⟨rfl,by omega⟩]);have hbi:=hsm g1.1.toNat;refine wn ?_;refine aF (fun c4=>?_) (fun c4=>?_)
     ·have c4o:=c4;have c4:=nr c4;have hgp:g4.2.getD (l_.getD g1.1.toNat ah).Parent.toNat 0=g1.2.getD (l_.getD g1.1.toNat ah).Parent.toNat 0:=(by rw [hg4e,dA,if_neg (by omega)]);have hbp:=hsm (l_.getD g1.1.toNat ah).Parent.toNat;refine wn ?_;refine wn ?_;refine wn ?_;refine wn ?_;refine wn ?_;refine ihg1 _ ?_ ?_
      ·(refine ⟨by exact ob,by exact ob,?_⟩; dsimp only; unfold EA at hst; rw [c4o] at hst; rw [hgi,hgp,hg4e]; exact hst)
      ·exact ob
     ·have c4o:=c4;have c4:=nr c4;refine wn ?_;refine ihg1 _ ?_ ?_
      ·(refine ⟨by exact ob,by exact ob,?_⟩; dsimp only; unfold EA at hst; rw [c4o] at hst; rw [hg4e]; exact hst)
      ·exact ob
   ·(refine ⟨by exact ob,by exact ob,?_⟩; dsimp only; rw [show (0:Int).toNat=0 from rfl,List.take_zero,show dsum [] g1.1.toNat=0 from rfl,Int.add_zero,set_self])
  ·have c1:=nr c1;refine ak ?_;(exact BF.done (by rw [show l_.length=((l_.length:Int) - 1 - g1.1).toNat by omega]; exact hg1_3))
 ·(refine ⟨by exact ob,by exact ob,?_⟩; dsimp only; rw [show ((l_.length:Int) - 1 - (l_.length - 1)).toNat=0 by omega]; exact BF.start hv)
theorem NA {l_:(List aj)} {r_:bE} {d_:(List aI)} (h1:Cc l_ d_) (h2:VP l_ r_):W (xG l_ r_ d_) (fun r=>r=pW l_ r_ d_):=by
 have hv:=h1;have hr:=h2;have hvb:=fun i hi=>Hf hv hr i hi;have hul:=vJ l_ d_;have hll:=Gc l_ d_;obtain ⟨vl,vd,vs,_,vx⟩:=h1;obtain ⟨r1,r2,r3⟩:=h2;unfold xG;refine aC (Hr ob) fun v1 hv1=>?_;subst v1;refine aC (Nz ob) fun v2 hv2=>?_;subst v2;refine aW (fun (g1:Int)=>0≤g1∧g1≤l_.length∧(∀j:Nat,(j:Int)<g1→DL l_ r_ (dF l_ d_) (iG l_ d_) j=false)) (fun (g1:Int)=>(l_.length - g1).toNat) ?_ ?_
 ·intro self1 g1 hig1 ihg1;obtain ⟨hg1_1,hg1_2,hg1_3⟩:=hig1;unfold Dr;refine aF (fun c1=>?_) (fun c1=>?_)
  ·have c1:=nr c1;have hp:=vs g1.toNat (by omega);have hv1:=hvb g1.toNat (by omega);have hv2:=hvb (l_.getD g1.toNat ah).Parent.toNat;refine wn ?_;refine wn ?_;refine wn ?_;refine aF (fun c2=>?_) (fun c2=>?_)
   ·have c2o:=c2;have c2:=nr c2;refine ak ?_;(exact (RF (i:=g1.toNat) (by omega) (aa4 c2o)).symm)
   ·have c2o:=c2;have c2:=nr c2;refine wn ?_;refine aF (fun c3=>?_) (fun c3=>?_)
    ·have c3o:=c3;have c3:=nr c3;refine wn ?_;refine ihg1 _ ?_ ?_
     ·(refine ⟨by exact ob,by exact ob,fH hg1_3 hg1_1 (aa5 c2o c3o)⟩)
     ·exact ob
    ·have c3o:=c3;have c3:=nr c3;refine wn ?_;refine bU (by (intro _ q; have:=of_decide_eq_true q; omega)) ?_;refine aC (d9 fun hc hc2 hc3=>jR (rV (of_decide_eq_true hc2) (by have:=of_decide_eq_true hc2; omega) hr)) fun v7 hv7=>?_;subst v7;refine aC (d9 fun hc hc2 hc3=>jR (rV (by omega) (by omega) hr)) fun v8 hv8=>?_;subst v8;refine bU (by (intro _ q; have:=of_decide_eq_true q; have:=hv2 (by omega); unfold InI64; omega)) ?_;refine aF (fun c4=>?_) (fun c4=>?_)
     ·have c4o:=c4;have c4:=nr c4;refine ak ?_;(exact (RF (i:=g1.toNat) (by omega) ((aaE c3o).trans c4o)).symm)
     ·have c4o:=c4;have c4:=nr c4;refine wn ?_;refine ihg1 _ ?_ ?_
      ·(refine ⟨by exact ob,by exact ob,fH hg1_3 hg1_1 ((aaE c3o).trans c4o)⟩)
      ·exact ob
  ·have c1:=nr c1;refine aW (fun (g2:Int)=>0≤g2∧g2≤d_.length∧(d_.drop g2.toNat).any (dBad l_ r_)=d_.any (dBad l_ r_)) (fun (g2:Int)=>(d_.length - g2).toNat) ?_ ?_
   ·intro self2 g2 hig2 ihg2;obtain ⟨hg2_1,hg2_2,hg2_3⟩:=hig2;unfold Bz;refine aF (fun c5=>?_) (fun c5=>?_)
    ·have c5:=nr c5;have hlt:g2.toNat<d_.length:=(by omega);have hx:=vx _ (eY bK hlt);rw [drop_cons bK hlt,List.any_cons] at hg2_3;refine wn ?_;refine aC (rV hx.1 hx.2.1 hr) fun v13 hv13=>?_;subst v13;refine aC (lY) fun v14 hv14=>?_;subst v14;refine aF (fun c6=>?_) (fun c6=>?_)
     ·have c6o:=c6;have c6:=nr c6;refine ak ?_;(rw [RG (fun j hj=>hg1_3 j (by omega)),← hg2_3,show dBad l_ r_ (d_.getD g2.toNat bK)=true from c6o]; rfl)
     ·have c6o:=c6;have c6:=nr c6;refine wn ?_;refine ihg2 _ ?_ ?_
      ·(refine ⟨by exact ob,by exact ob,?_⟩; rw [← hg2_3,show dBad l_ r_ (d_.getD g2.toNat bK)=false from c6o,show (g2+1).toNat=g2.toNat+1 by omega]; rfl)
      ·exact ob
    ·have c5:=nr c5;refine ak ?_;(rw [RG (fun j hj=>hg1_3 j (by omega)),← hg2_3,show g2.toNat=d_.length by omega,List.drop_length]; rfl)
   ·(refine ⟨by exact ob,by exact ob,rfl⟩)
 ·(refine ⟨by exact ob,by exact ob,fun j hj=>by omega⟩)
theorem FE {l_:(List aj)} {d_:(List aI)} (h1:l_.length≤1000000) (h2:d_.length≤1000000):W (xH l_ d_) (fun r=>r=kR l_ d_):=by
 unfold xH;refine aC (Nw ob ob) fun v1 hv1=>?_;subst v1;refine aF (fun c1=>?_) (fun c1=>?_)
 ·have c1o:=c1;have c1:=nr c1;refine ak ?_;(unfold kR; rw [c1o]; rfl)
 ·have c1o:=c1;have c1:=nr c1;have hdr:=Xq (show beginF l_ d_=0 by simpa using c1o);have hv:=qZ hdr;obtain ⟨vl,vd,vs,vlv,vx⟩:=id hv;have hul:=vJ l_ d_;refine aC (Hr hv) fun v2 hv2=>?_;subst v2;refine wn ?_;refine wn ?_;refine aW (fun (g1:(Int×(List Int)×(List Int)))=>0≤g1.1∧g1.1≤d_.length∧g1.2.1=yj (qF l_.length d_ g1.1.toNat)∧g1.2.2=List.replicate l_.length 0) (fun (g1:(Int×(List Int)×(List Int)))=>(d_.length - g1.1).toNat) ?_ ?_
  ·intro self1 g1 hig1 ihg1;obtain ⟨hg1_1,hg1_2,hg1_3,hg1_4⟩:=hig1;unfold Dt;have hgl:g1.2.1.length=l_.length:=(by rw [hg1_3,Ry,Jb]);refine aF (fun c2=>?_) (fun c2=>?_)
   ·have c2:=nr c2;have hx:=vx _ (eY bK (show g1.1.toNat<d_.length by omega));refine wn ?_;refine wn ?_;refine wn ?_;refine wn ?_;refine ihg1 _ ?_ ?_
    ·(refine ⟨by exact ob,by exact ob,?_,hg1_4⟩; dsimp only; rw [show (g1.1+1).toNat=g1.1.toNat+1 by omega,Tw,hg1_3])
    ·exact ob
   ·have c2:=nr c2;refine wn ?_;refine aW (fun (g2:(Int×(List Int)×(List Int))) => -1≤g2.1∧g2.1<l_.length∧∃s:DS,g2.2.1=yj s.a∧g2.2.2=s.lv∧DOk l_ s∧YP l_ s∧Mf l_ (dF l_ d_) (g2.1+1).toNat s=Gd l_ d_) (fun (g2:(Int×(List Int)×(List Int)))=>(g2.1+1).toNat) ?_ ?_
    ·intro self2 g2 hig2 ihg2;obtain ⟨hg2_1,hg2_2,hg2_3⟩:=hig2;unfold BA;obtain ⟨s,e1,e2,e3,e4,e5⟩:=hg2_3;have hal:g2.2.1.length=l_.length:=(by rw [e1,Ry,e3.al]);have hll:g2.2.2.length=l_.length:=(by rw [e2,e3.ll]);refine aF (fun c3=>?_) (fun c3=>?_)
     ·have c3:=nr c3;have hp:=vs g2.1.toNat (by omega);rw [show (g2.1+1).toNat=g2.1.toNat+1 by omega,Mf] at e5;refine wn ?_;refine aF (fun c4=>?_) (fun c4=>?_)
      ·have c4o:=c4;have c4:=nr c4;refine wn ?_;refine ihg2 _ ?_ ?_
       ·(refine ⟨by exact ob,by exact ob,s,e1,e2,e3,e4,?_⟩; dsimp only; rw [show (g2.1 - 1+1).toNat=g2.1.toNat by omega]; rw [VB c4o,XK c4o] at e5; exact e5)
       ·exact ob
      ·have c4o:=c4;have c4:=nr c4;have hu:(dF l_ d_).getD g2.1.toNat false=true:=(by simpa using c4o);refine wn ?_;refine wn ?_;refine aC (Ny ob) fun v11 hv11=>?_;subst v11;rw [e1,DT,show lvN (l_.getD g2.1.toNat ah).aQ (s.a.getD g2.1.toNat EK).qh=ru l_ g2.1.toNat s from rfl];have hgs:(g2.2.2.set g2.1.toNat (bif decide (ru l_ g2.1.toNat s<(l_.getD g2.1.toNat ah).aQ.length) then (ru l_ g2.1.toNat s:Int) else -1)).getD g2.1.toNat 0=(bif decide (ru l_ g2.1.toNat s<(l_.getD g2.1.toNat ah).aQ.length) then (ru l_ g2.1.toNat s:Int) else -1):=(by rw [dA,if_pos ⟨rfl,by omega⟩]);refine wn ?_;unfold tN;refine wn ?_;refine aF (fun c5=>?_) (fun c5=>?_)
       ·have c5o:=c5;have c5:=nr c5;rw [hgs] at c5o;have h5:=XG c5o;have h6:decide ((ru l_ g2.1.toNat s:Int)<(l_.getD g2.1.toNat ah).aQ.length)=false:=(by simpa using h5);refine ak ?_;(exact TF c1o (by unfold wB at e5; rw [hu,h6] at e5; exact e5))
       ·have c5o:=c5;have c5:=nr c5;rw [hgs] at c5o;have h5:=XH c5o;have h6:decide ((ru l_ g2.1.toNat s:Int)<(l_.getD g2.1.toNat ah).aQ.length)=true:=(by simpa using h5);have hf:wB l_ (dF l_ d_) g2.1.toNat s=false:=(by unfold wB; rw [hu,h6]; rfl);rw [hf] at e5;have hlo:=YO (u:=dF l_ d_) (i:=g2.1.toNat) e3;have hlv:=YS hf e4;have hR:=XA hul hlo hlv;have hs:(Al l_ (dF l_ d_) g2.1.toNat s).lv=s.lv.set g2.1.toNat (ru l_ g2.1.toNat s:Int):=(by unfold Al; rw [hu]; rfl);have hvo:=XI (l:=l_) (u:=dF l_ d_) hu (show g2.1.toNat<s.lv.length by rw [e3.ll]; omega);have hvb:=Hf hv hR g2.1.toNat (by omega);rw [h5]; simp only [cond_true]; rw [e2,← hs];refine wn ?_;refine aF (fun c6=>?_) (fun c6=>?_)
        ·have c6o:=c6;have c6:=nr c6;refine wn ?_;refine aC (rV (by omega) (by omega) hR) fun v10 hv10=>?_;subst v10;refine wn ?_;refine bU (by (unfold InI64; omega)) ?_;refine wn ?_;refine wn ?_;refine ihg2 _ ?_ ?_
         ·(refine ⟨by exact ob,by exact ob,Al l_ (dF l_ d_) g2.1.toNat s,?_,rfl,hlo,hlv,?_⟩; (dsimp only; rw [hvo,e1]; exact XJ hu c6o); (dsimp only; rw [show (g2.1 - 1+1).toNat=g2.1.toNat by omega]; exact e5))
         ·exact ob
        ·have c6o:=c6;have c6:=nr c6;refine wn ?_;refine ihg2 _ ?_ ?_
         ·(refine ⟨by exact ob,by exact ob,Al l_ (dF l_ d_) g2.1.toNat s,?_,rfl,hlo,hlv,?_⟩; (dsimp only; rw [e1]; exact VD c6o); (dsimp only; rw [show (g2.1 - 1+1).toNat=g2.1.toNat by omega]; exact e5))
         ·exact ob
     ·have c3:=nr c3;rw [show (g2.1+1).toNat=0 by omega,Mf] at e5;have hrk:VP l_ ⟨dF l_ d_,g2.2.2⟩:=(by rw [e2]; exact XA hul e3 e4);refine aC (NA hv hrk) fun v12 hv12=>?_;subst v12;refine aF (fun c7=>?_) (fun c7=>?_)
      ·have c7o:=c7;have c7:=nr c7;refine ak ?_;(rw [OD c1o hdr e5 (by rw [← e2]; exact hrk),← e2,c7o]; rfl)
      ·have c7o:=c7;have c7:=nr c7;refine ak ?_;(rw [OD c1o hdr e5 (by rw [← e2]; exact hrk),← e2,c7o]; rfl)
    ·(refine ⟨by exact ob,by exact ob,ds0 l_ d_,?_,hg1_4,ZY _ _,?_,?_⟩; (dsimp only; rw [hg1_3,show g1.1.toNat=d_.length by omega]; rfl); (intro j hj; show 0≤(List.replicate l_.length (0:Int)).getD j 0∧(List.replicate l_.length (0:Int)).getD j 0<_; rw [pU]; have:=vs j hj; omega); (dsimp only; rw [show ((l_.length:Int) - 1+1).toNat=l_.length by omega]; rfl))
  ·(refine ⟨by exact ob,by exact ob,?_,rfl⟩; show _=yj (List.replicate l_.length (⟨0,-1,-1⟩:Uw)); unfold yj; rw [List.map_replicate]; rfl)
end Go.Proofs.YtfblhejmclcdmaaGreatDoor.Sp

namespace Go.Proofs.YtfblhejmclcdmaaGreatDoor
open Go.Ab
set_option maxRecDepth 100000
theorem RH (n lo hi:Int) (b:Bool):(((decide (n<lo))||(decide (hi<n)))||b)=(!(withinF n lo hi)||b):=by
 unfold withinF;congr 1;by_cases h1:n<lo<;>by_cases h2:hi<n<;>simp [h1,h2]<;>omega
theorem VE {l:List Int} {x y:Int} (h:l.contains x=false) (hy:¬ y=x):(l++[y]).contains x=false:=by
 rw [List.contains_eq_any_beq] at h ⊢;rw [List.any_append,h];simpa using fun e=>hy e.symm
theorem TG (n:Nat):decide ((1:Int)≤(n:Int))=decide ((0:Int)<(n:Int)):=by
 rw [decide_eq_decide]; omega
theorem aa6 {c:av}:((decide ((1:Int)≤(c.Parents.length:Int))&&decide ((0:Int)<(c.Choices.length:Int)))&&(pK 0 ((c.Parents.length:Int) - 1) [] c.Choices))=(decide (0<(c.Choices.length:Int))&&pK 0 ((c.Parents.length:Int) - 1) [] c.Choices):=by
 by_cases h:1≤(c.Parents.length:Int)
 ·rw [decide_eq_true h,Bool.true_and]
 ·rw [decide_eq_false h,Bool.false_and,Bool.false_and];symm;rw [Bool.and_eq_false_iff];by_cases h2:0<(c.Choices.length:Int)
  ·right;cases hd:pK 0 ((c.Parents.length:Int) - 1) [] c.Choices with
   | false=>rfl
   | true=>have:=YF _ _ hd (by omega); omega
  ·left; exact decide_eq_false h2
theorem VF {l_:(List Int)} {x_:Int} (h1:l_.length≤1000000):W (KT l_ x_) (fun r=>r=l_.contains x_):=by
 unfold KT;refine aW (fun (g1:Int)=>0≤g1∧g1≤l_.length∧(l_.take g1.toNat).contains x_=false) (fun (g1:Int)=>(l_.length - g1).toNat) ?_ ?_
 ·intro self1 g1 hig1 ihg1;obtain ⟨hg1_1,hg1_2,hg1_3⟩:=hig1;unfold LZ;refine aF (fun c1=>?_) (fun c1=>?_)
  ·have c1:=nr c1;refine wn ?_;refine aF (fun c2=>?_) (fun c2=>?_)
   ·have c2:=nr c2;refine ak ?_;(exact (List.elem_eq_true_of_mem (by rw [← c2]; exact getD_in 0 (by omega))).symm)
   ·have c2:=nr c2;refine wn ?_;refine ihg1 _ ?_ ?_
    ·(refine ⟨by exact ob,by exact ob,?_⟩; rw [show (g1+1).toNat=g1.toNat+1 by omega,gJ 0 (by omega)]; exact VE hg1_3 c2)
    ·exact ob
  ·have c1:=nr c1;refine ak ?_;(rw [show g1.toNat=l_.length by omega,List.take_length] at hg1_3; exact hg1_3.symm)
 ·(refine ⟨by exact ob,by exact ob,rfl⟩)
theorem RI {a_:(List Int)} {b_:(List Int)} (h1:a_.length≤1000000):W (yZ a_ b_) (fun r=>r=(a_==b_)):=by
 unfold yZ;refine aF (fun c1=>?_) (fun c1=>?_)
 ·have c1:=nr c1;refine ak ?_;(exact (PU c1).symm)
 ·have c1:=nr c1;refine aW (fun (g1:Int)=>0≤g1∧g1≤a_.length∧(a_==b_)=(a_.drop g1.toNat==b_.drop g1.toNat)) (fun (g1:Int)=>(a_.length - g1).toNat) ?_ ?_
  ·intro self1 g1 hig1 ihg1;obtain ⟨hg1_1,hg1_2,hg1_3⟩:=hig1;unfold GQ;refine aF (fun c2=>?_) (fun c2=>?_)
   ·have c2:=nr c2;rw [drop_cons 0 (show g1.toNat<a_.length by omega),drop_cons 0 (show g1.toNat<b_.length by omega)] at hg1_3;refine wn ?_;refine wn ?_;refine aF (fun c3=>?_) (fun c3=>?_)
    ·have c3:=nr c3;refine ak ?_;(rw [hg1_3,YW c3])
    ·have c3:=nr c3;refine wn ?_;refine ihg1 _ ?_ ?_
     ·(refine ⟨by exact ob,by exact ob,?_⟩; rw [hg1_3,YX c3,show (g1+1).toNat=g1.toNat+1 by omega])
     ·exact ob
   ·have c2:=nr c2;refine ak ?_;(rw [hg1_3,List.drop_eq_nil_of_le (by omega),List.drop_eq_nil_of_le (by omega)]; rfl)
  ·(refine ⟨by exact ob,by exact ob,rfl⟩)
theorem pY {l_:(List Int)} {lo_:Int} {hi_:Int} (h1:l_.length≤1000000):W (iO l_ lo_ hi_) (fun r=>r=pK lo_ hi_ [] l_):=by
 unfold iO;refine aW (fun (g1:Int)=>0≤g1∧g1≤l_.length∧pK lo_ hi_ (l_.take g1.toNat) (l_.drop g1.toNat)=pK lo_ hi_ [] l_) (fun (g1:Int)=>(l_.length - g1).toNat) ?_ ?_
 ·intro self1 g1 hig1 ihg1;obtain ⟨hg1_1,hg1_2,hg1_3⟩:=hig1;unfold vX;refine aF (fun c1=>?_) (fun c1=>?_)
  ·have c1:=nr c1;rw [drop_cons 0 (show g1.toNat<l_.length by omega)] at hg1_3;refine wn ?_;refine wn ?_;refine aC (d9 fun hc=>jR (VF ob)) fun v3 hv3=>?_;subst v3;refine aF (fun c2=>?_) (fun c2=>?_)
   ·have c2o:=c2;have c2:=nr c2;rw [RH] at c2o;refine ak ?_;(rw [← hg1_3,KU (pre:=l_.take g1.toNat) (n:=l_.getD g1.toNat 0) c2o])
   ·have c2o:=c2;have c2:=nr c2;rw [RH] at c2o;refine wn ?_;refine ihg1 _ ?_ ?_
    ·(refine ⟨by exact ob,by exact ob,?_⟩; rw [← hg1_3,Pz (pre:=l_.take g1.toNat) (n:=l_.getD g1.toNat 0) c2o,show (g1+1).toNat=g1.toNat+1 by omega,gJ 0 (by omega)])
    ·exact ob
  ·have c1:=nr c1;refine ak ?_;(rw [← hg1_3,List.drop_eq_nil_of_le (by omega)]; rfl)
 ·(refine ⟨by exact ob,by exact ob,rfl⟩)
theorem Kl {c_:av} (h1:c_.Parents.length≤1000000) (h2:c_.Choices.length≤1000000):W (rQ c_) (fun r=>r=eO c_):=by
 unfold rQ;refine aF (fun c1=>?_) (fun c1=>?_)
 ·have c1o:=c1;have c1:=nr c1;refine bU (by (intro hc; simp only [Bool.and_eq_true,beq_iff_eq] at hc; omega)) ?_;refine bU (by (intro hc; simp only [Bool.and_eq_true,beq_iff_eq] at hc; omega)) ?_;refine ak ?_;(unfold eO; rw [c1o]; simp only [cond_true]; unfold withinF; rw [Bool.and_assoc])
 ·have c1o:=c1;have c1:=nr c1;refine aF (fun c2=>?_) (fun c2=>?_)
  ·have c2o:=c2;have c2:=nr c2;refine aF (fun c3=>?_) (fun c3=>?_)
   ·have c3o:=c3;have c3:=nr c3;refine aC (d9 fun hc=>jR (pY ob)) fun v1 hv1=>?_;subst v1;refine ak ?_;(unfold eO; rw [c1o,c2o,TG]; rfl)
   ·have c3o:=c3;have c3:=nr c3;rw [c2o] at c3o; cases c3o
  ·have c2o:=c2;have c2:=nr c2;refine aF (fun c4=>?_) (fun c4=>?_)
   ·have c4o:=c4;have c4:=nr c4;refine aC (d9 fun hc=>jR (pY ob)) fun v4 hv4=>?_;subst v4;refine ak ?_;(unfold eO; rw [c1o,c2o,c4o,TG]; rfl)
   ·have c4o:=c4;have c4:=nr c4;refine aF (fun c5=>?_) (fun c5=>?_)
    ·have c5o:=c5;have c5:=nr c5;refine wn ?_;refine aC (d9 fun hc=>jR (pY ob)) fun v5 hv5=>?_;subst v5;refine ak ?_;(unfold eO; rw [c1o,c2o,c4o,c5o,TG c_.Choices.length]; exact aa6)
    ·have c5o:=c5;have c5:=nr c5;refine aF (fun c6=>?_) (fun c6=>?_)
     ·have c6o:=c6;have c6:=nr c6;refine aF (fun c7=>?_) (fun c7=>?_)
      ·have c7o:=c7;have c7:=nr c7;refine aC (d9 fun hc=>jR (RI ob)) fun v6 hv6=>?_;subst v6;refine ak ?_;(unfold eO; rw [c1o,c2o,c4o,c5o,c6o]; rfl)
      ·have c7o:=c7;have c7:=nr c7;refine ak ?_;(unfold eO; rw [c1o,c2o,c4o,c5o,c6o,show ((c_.Parents.length:Int)==1)=false by simpa using c7o]; rfl)
     ·have c6o:=c6;have c6:=nr c6;refine ak ?_;(unfold eO; rw [c1o,c2o,c4o,c5o,c6o]; rfl)
theorem Km {l_:(List av)} (h1:l_.length≤1000) (h2:Uv l_):W (rR l_) (fun r=>r=eu l_):=by
 unfold rR;refine aW (fun (g1:(Int×(List Int)))=>0≤g1.1∧g1.1≤l_.length∧g1.2=eu (l_.take g1.1.toNat)) (fun (g1:(Int×(List Int)))=>(l_.length - g1.1).toNat) ?_ ?_
 ·intro self1 g1 hig1 ihg1;obtain ⟨hg1_1,hg1_2,hg1_3⟩:=hig1;unfold y8;have hfb:=gG (l_.take g1.1.toNat);rw [take_len (by omega),← hg1_3] at hfb;refine aF (fun c1=>?_) (fun c1=>?_)
  ·have c1:=nr c1;obtain ⟨hp1,hp2⟩:=h2 g1.1.toNat (by omega);refine wn ?_;refine aW (fun (g6:(Int×Int))=>0≤g6.2∧g6.2≤(l_.getD g1.1.toNat ay).Parents.length∧g6.1=iU g1.2 ((l_.getD g1.1.toNat ay).Parents.take g6.2.toNat)) (fun (g6:(Int×Int))=>((l_.getD g1.1.toNat ay).Parents.length - g6.2).toNat) ?_ ?_
   ·intro self6 g6 hig6 ihg6;obtain ⟨hg6_1,hg6_2,hg6_3⟩:=hig6;unfold y7;have hpm:=Ai g1.2 g1.1.toNat (by omega) hfb.2 ((l_.getD g1.1.toNat ay).Parents.take g6.2.toNat);rw [← hg6_3] at hpm;refine aF (fun c2=>?_) (fun c2=>?_)
    ·have c2:=nr c2;have hx:=hp2 _ (getD_in (i:=g6.2.toNat) 0 (by omega));refine wn ?_;refine wn ?_;refine wn ?_;refine ihg6 _ ?_ ?_
     ·(refine ⟨by exact ob,by exact ob,?_⟩; dsimp only; rw [show (g6.2+1).toNat=g6.2.toNat+1 by omega]; unfold iU; rw [nT _ _ 0 (by omega),hg6_3]; rfl)
     ·exact ob
    ·have c2:=nr c2;have hpe:g6.1=iU g1.2 (l_.getD g1.1.toNat ay).Parents:=(by rw [hg6_3,show g6.2.toNat=(l_.getD g1.1.toNat ay).Parents.length by omega,List.take_length]);refine aF (fun c3=>?_) (fun c3=>?_)
     ·have c3o:=c3;have c3:=nr c3;refine wn ?_;unfold jy;refine wn ?_;refine wn ?_;refine ihg1 _ ?_ ?_
      ·(refine ⟨by exact ob,by exact ob,?_⟩; dsimp only; rw [show (g1.1+1).toNat=g1.1.toNat+1 by omega,gJ ay (by omega),vI,← hg1_3]; unfold Ah F7; rw [c3o,hpe]; rfl)
      ·exact ob
     ·have c3o:=c3;have c3:=nr c3;unfold jy;refine wn ?_;refine wn ?_;refine ihg1 _ ?_ ?_
      ·(refine ⟨by exact ob,by exact ob,?_⟩; dsimp only; rw [show (g1.1+1).toNat=g1.1.toNat+1 by omega,gJ ay (by omega),vI,← hg1_3]; unfold Ah F7; rw [c3o,hpe]; rfl)
      ·exact ob
   ·(refine ⟨by exact ob,by exact ob,rfl⟩)
  ·have c1:=nr c1;refine ak ?_;(rw [hg1_3,show g1.1.toNat=l_.length by omega,List.take_length])
 ·(refine ⟨by exact ob,by exact ob,rfl⟩)
theorem yu {l_:(List av)} (h1:l_.length≤1000000):W (oG l_) (fun r=>r=bP l_):=by
 unfold oG;refine aF (fun c1=>?_) (fun c1=>?_)
 ·have c1o:=c1;have c1:=nr c1;refine ak ?_;(unfold bP; rw [c1o]; rfl)
 ·have c1o:=c1;have c1:=nr c1;refine aW (fun (g1:Int)=>0≤g1∧g1≤l_.length∧(∀j:Nat,(j:Int)<g1→bigC (l_.getD j ay)=false)) (fun (g1:Int)=>(l_.length - g1).toNat) ?_ ?_
  ·intro self1 g1 hig1 ihg1;obtain ⟨hg1_1,hg1_2,hg1_3⟩:=hig1;unfold Dj;refine aF (fun c2=>?_) (fun c2=>?_)
   ·have c2:=nr c2;refine wn ?_;refine aF (fun c3=>?_) (fun c3=>?_)
    ·have c3o:=c3;have c3:=nr c3;refine ak ?_;(unfold bP; rw [pQ (p:=bigC) ay (show g1.toNat<l_.length by omega) (show bigC _=true from c3o),Bool.or_true]; rfl)
    ·have c3o:=c3;have c3:=nr c3;refine wn ?_;refine ihg1 _ ?_ ?_
     ·(refine ⟨by exact ob,by exact ob,fH hg1_3 hg1_1 c3o⟩)
     ·exact ob
   ·have c2:=nr c2;have hb4:∀i:Nat,i<l_.length→bigC (l_.getD i ay)=false:=fun j hj=>hg1_3 j (by omega);have hbig:=any_none (p:=bigC) ay hb4;have hb3:(decide (16<(l_.length:Int))||l_.any bigC)=false:=(by rw [c1o,hbig]; rfl);refine aW (fun (g2:(Int×Int))=>0≤g2.2∧g2.2≤l_.length∧g2.1=jh (l_.take g2.2.toNat)∧(∀j:Nat,(j:Int)<g2.2→iF (l_.getD j ay) j=true)) (fun (g2:(Int×Int))=>(l_.length - g2.2).toNat) ?_ ?_
    ·intro self2 g2 hig2 ihg2;obtain ⟨hg2_1,hg2_2,hg2_3,hg2_4⟩:=hig2;unfold Br;refine aF (fun c4=>?_) (fun c4=>?_)
     ·have c4:=nr c4;have hlt:g2.2.toNat<l_.length:=(by omega);have hbl:=DC (hb4 g2.2.toNat hlt);refine wn ?_;refine aW (fun (g5:Int)=>0≤g5∧g5≤(l_.getD g2.2.toNat ay).Parents.length∧(∀j:Nat,(j:Int)<g5→withinF ((l_.getD g2.2.toNat ay).Parents.getD j 0) 0 (g2.2.toNat - 1)=true)) (fun (g5:Int)=>((l_.getD g2.2.toNat ay).Parents.length - g5).toNat) ?_ ?_
      ·intro self5 g5 hig5 ihg5;obtain ⟨hg5_1,hg5_2,hg5_3⟩:=hig5;unfold Bp;refine aF (fun c5=>?_) (fun c5=>?_)
       ·have c5:=nr c5;refine wn ?_;refine aF (fun c6=>?_) (fun c6=>?_)
        ·have c6:=nr c6;refine ak ?_;(unfold bP; rw [hb3,F8 hlt (IY (j:=g5.toNat) (by omega) (by rw [← Bool.not_eq_true,within_iff]; omega))]; rfl)
        ·have c6:=nr c6;refine wn ?_;refine ihg5 _ ?_ ?_
         ·(refine ⟨by exact ob,by exact ob,fH hg5_3 hg5_1 (by rw [within_iff]; omega)⟩)
         ·exact ob
       ·have c5:=nr c5;have hvr:=Q8 (k:=(g2.2.toNat:Int)) (fun j hj=>hg5_3 j (by omega));refine aC (Kl ob ob) fun v3 hv3=>?_;subst v3;refine aF (fun c7=>?_) (fun c7=>?_)
        ·have c7o:=c7;have c7:=nr c7;rw [c7o] at hvr;refine ak ?_;(unfold bP; rw [hb3,F8 hlt hvr]; rfl)
        ·have c7o:=c7;have c7:=nr c7;rw [c7o] at hvr;have hpm:=Xk (l_.take g2.2.toNat) (l_.getD g2.2.toNat ay).Choices.length (by omega);rw [← hg2_3] at hpm;refine wn ?_;refine wn ?_;refine ihg2 _ ?_ ?_
         ·(refine ⟨by exact ob,by exact ob,?_,fH hg2_4 hg2_1 hvr⟩; dsimp only; rw [show (g2.2+1).toNat=g2.2.toNat+1 by omega]; unfold jh; rw [nT _ _ ay hlt]; rw [hg2_3]; rfl)
         ·exact ob
      ·(refine ⟨by exact ob,by exact ob,fun j hj=>by omega⟩)
     ·have c4:=nr c4;have hva:∀i:Nat,i<l_.length→iF (l_.getD i ay) i=true:=fun j hj=>hg2_4 j (by omega);have hall:=Oo hva;have hfl:=(gG l_).1;rw [show g2.2.toNat=l_.length by omega,List.take_length] at hg2_3;refine aF (fun c8=>?_) (fun c8=>?_)
      ·have c8o:=c8;have c8:=nr c8;refine ak ?_;(unfold bP; rw [hb3,hall,← hg2_3,c8o]; rfl)
      ·have c8o:=c8;have c8:=nr c8;refine aC (Km (by omega) (Q9 hva hb4)) fun v4 hv4=>?_;subst v4;refine aW (fun (g6:Int)=>0≤g6∧g6≤(eu l_).length∧(∀j:Nat,(j:Int)<g6→(fun n=>decide (4<n)) ((eu l_).getD j 0)=false)) (fun (g6:Int)=>((eu l_).length - g6).toNat) ?_ ?_
       ·intro self6 g6 hig6 ihg6;obtain ⟨hg6_1,hg6_2,hg6_3⟩:=hig6;unfold Bq;refine aF (fun c9=>?_) (fun c9=>?_)
        ·have c9:=nr c9;refine wn ?_;refine aF (fun c10=>?_) (fun c10=>?_)
         ·have c10o:=c10;have c10:=nr c10;refine ak ?_;(unfold bP; rw [hb3,hall,pQ (p:=fun n=>decide (4<n)) 0 (show g6.toNat<(eu l_).length by omega) c10o,Bool.or_true]; rfl)
         ·have c10o:=c10;have c10:=nr c10;refine wn ?_;refine ihg6 _ ?_ ?_
          ·(refine ⟨by exact ob,by exact ob,fH hg6_3 hg6_1 c10o⟩)
          ·exact ob
        ·have c9:=nr c9;refine ak ?_;(unfold bP; rw [hb3,hall,← hg2_3,c8o,any_none (p:=fun n=>decide (4<n)) 0 (fun j hj=>hg6_3 j (by omega))]; rfl)
       ·(refine ⟨by exact ob,by exact ob,fun j hj=>by omega⟩)
    ·(refine ⟨by exact ob,by exact ob,rfl,fun j hj=>by dsimp only at hj; omega⟩)
  ·(refine ⟨by exact ob,by exact ob,fun j hj=>by omega⟩)
end Go.Proofs.YtfblhejmclcdmaaGreatDoor

/- A part of the proof. -/
import Derived.Test.YtifekdmmpbcdgaaGreatDoorA4
import Derived.Test.YtifekdmmpbcdgaaGreatDoorA3
set_option linter.unusedVariables false
set_option linter.unusedSimpArgs false
set_option maxHeartbeats 4000000
namespace Go.Ab
def Xu {α:Type} (l:List α) (P:α→Bool):Int:=if l.any P then ((l.findIdx P:Nat):Int) else -1
variable {α:Type}
theorem oM (l:List α) (P:α→Bool):decide (0≤Xu l P)=l.any P:=by
 unfold Xu;cases l.any P<;>simp<;>omega
theorem akj {l:List α} {P:α→Bool} {d:α} {i:Nat} (hi:i<l.length) (h:P (l.getD i d)=true):l.any P=true:=by
 rw [List.any_eq_true];refine ⟨l[i],List.getElem_mem hi,?_⟩;rw [List.getD_eq_getElem?_getD,List.getElem?_eq_getElem hi] at h;exact h
theorem any_take_succ (l:List α) (P:α→Bool) (d:α) {i:Nat} (hi:i<l.length):(l.take (i+1)).any P=((l.take i).any P||P (l.getD i d)):=by
 rw [List.take_add_one,List.any_append,List.getElem?_eq_getElem hi,List.getD_eq_getElem?_getD,List.getElem?_eq_getElem hi];simp
theorem ag9 {l:List α} {P:α→Bool} {d:α} {g:Int} (h0:0≤g) (h1:g<l.length) (hb:(l.take g.toNat).any P=false) (hp:P (l.getD g.toNat d)=true):Xu l P=g:=by
 have hi:g.toNat<l.length:=by omega
 unfold Xu;rw [akj hi hp,if_pos rfl];have:l.findIdx P=g.toNat:=by
  rw [List.findIdx_eq hi];constructor
  ·rw [List.getD_eq_getElem?_getD,List.getElem?_eq_getElem hi] at hp;exact hp
  ·intro j hj;have:=List.any_eq_false.1 hb (l[j]'om) (by
    rw [List.mem_take_iff_getElem]
    exact ⟨j,om,rfl⟩)
   simpa using this
 omega
theorem Oc {l:List α} {d:α} {p:α→M Bool} {P:α→Bool} (hp:∀x∈l,p x (P x)) (hl:(l.length:Int)≤9223372036854775807):W (dF (λ (self:Int→M Int) g=>bif (decide (g<(l.length:Int))) then
  need (0≤g∧g<(l.length:Int))<|
  bnd (p (l.getD g.toNat d)) λ v3=>
  bif v3 then
   ret g
  else
   need (aD (g+(1:Int)))<|
   self (g+(1:Int))
 else
  ret (-1:Int)) (0:Int)) (λ r=>r=Xu l P):=by
 refine bM (λ (g:Int)=>0≤g∧g≤l.length∧(l.take g.toNat).any P=false) (λ (g:Int)=>(l.length - g).toNat) ?_ ⟨om,om,by simp⟩;intro self g ⟨h0,h1,hb⟩ ih;refine bW ?_ ?_<;>intro c
 ·have c:=of_decide_eq_true c;refine aQ ⟨h0,c⟩ ?_;have hi:g.toNat<l.length:=by omega
  have hm:l.getD g.toNat d∈l:=by
   rw [List.getD_eq_getElem?_getD,List.getElem?_eq_getElem hi];exact List.getElem_mem hi
  refine aG (zJ (hp _ hm)) λ v hv=>?_;subst hv;refine bW ?_ ?_<;>intro c2
  ·exact au (ag9 h0 c hb c2).symm
  ·refine aQ (by unfold aD; omega) ?_;refine ih _ ⟨om,om,?_⟩ om;rw [show (g+1).toNat=g.toNat+1 by omega,any_take_succ l P d hi,hb,c2];rfl
 ·have c:=of_decide_eq_false c;refine au ?_;unfold Xu;rw [show g.toNat=l.length by omega,List.take_length] at hb;rw [hb];rfl
theorem akk {l:List α} {d:α} {P:α→Bool} (hl:(l.length:Int)≤9223372036854775807):W (dF (λ (self:Int→M Int) g=>bif (decide (g<(l.length:Int))) then
  need (0≤g∧g<(l.length:Int))<|
  bif (P (l.getD g.toNat d)) then
   ret g
  else
   need (aD (g+(1:Int)))<|
   self (g+(1:Int))
 else
  ret (-1:Int)) (0:Int)) (λ r=>r=Xu l P):=by
 refine bM (λ (g:Int)=>0≤g∧g≤l.length∧(l.take g.toNat).any P=false) (λ (g:Int)=>(l.length - g).toNat) ?_ ⟨om,om,by simp⟩;intro self g ⟨h0,h1,hb⟩ ih;refine bW ?_ ?_<;>intro c
 ·have c:=of_decide_eq_true c;refine aQ ⟨h0,c⟩ ?_;have hi:g.toNat<l.length:=by omega
  refine bW ?_ ?_<;>intro c2
  ·exact au (ag9 h0 c hb c2).symm
  ·refine aQ (by unfold aD; omega) ?_;refine ih _ ⟨om,om,?_⟩ om;rw [show (g+1).toNat=g.toNat+1 by omega,any_take_succ l P d hi,hb,c2];rfl
 ·have c:=of_decide_eq_false c;refine au ?_;unfold Xu;rw [show g.toNat=l.length by omega,List.take_length] at hb;rw [hb];rfl
theorem I6 {m:M Int} {v:Int} {b:Bool} (h:W m (λ r=>r=v)) (hb:decide (0≤v)=b):bnd m (λ v1=>ret (decide ((0:Int)≤v1))) b:=by
 refine lY (aG h λ v1 h1=>au ?_);subst h1;exact hb
theorem gN {A:Type} [Inhabited A] {c:Prop} {d:Decidable c} {m:M A} {v:A} (h:c→m v):W (grd c m) (λ r=>r=v):=⟨v,h,rfl⟩
theorem akl {R:Type} {F:(Int→M R)→Int→M R} {Q:R→Prop} (n:Nat) (inv:Nat→Prop) (h:∀(self:Int→M R) (i:Nat),i≤n→inv i→(i<n→inv (i+1)→W (self ((i:Int)+1)) Q)→W (F self (i:Int)) Q) (h0:inv 0):W (dF F (0:Int)) Q:=by
 refine bM (λ (g:Int)=>∃i:Nat,g=i∧i≤n∧inv i) (λ (g:Int)=>(n - g).toNat) ?_ ⟨0,rfl,Nat.zero_le _,h0⟩;rintro self g ⟨i,rfl,hi,hv⟩ ih;refine h self i hi hv λ h1 h2=>?_;exact ih _ ⟨i+1,by simp,h1,h2⟩ om
theorem anE {σ R:Type} {len:Nat} {B:Nat→(σ→M R)→σ→M R} {fin:σ→M R} {Q:R→Prop} (inv:Nat→σ→Prop) (h:∀(k:Nat) (self:σ→M R) (s:σ),k<len→inv k s→(∀s',inv (k+1) s'→W (self s') Q)→W (B k self s) Q) (hf:∀s,inv len s→W (fin s) Q) {s:σ} (h0:inv 0 s):W (acg len B fin len s) Q:=by
 have key:∀j s,j≤len→inv (len - j) s→W (acg len B fin j s) Q:=by
  intro j;induction j with
  | zero=>intro s _ hi; exact hf s hi
  | succ j ih=>
   intro s hj hi;refine h (len - (j+1)) _ s om hi λ s' hs=>ih s' om ?_;rwa [show len - (j+1)+1=len - j by omega] at hs
 exact key len s (Nat.le_refl _) (by rw [Nat.sub_self]; exact h0)
variable {p: Prop}
theorem fq {q: Prop} (h : p) (e : p = q := by (try simp only [Bool.and_eq_true, Bool.or_eq_true, Bool.and_eq_false_iff, Bool.or_eq_false_iff, decide_eq_true_eq, decide_eq_false_iff_not, Bool.not_eq_true', Bool.not_eq_false', beq_iff_eq, bne_iff_ne, ne_eq, beq_eq_false_iff_ne, bne_eq_false_iff_eq, Int.not_lt, Int.not_le, Bool.not_eq_true, Bool.not_eq_false]); try rfl) : q := e ▸ h
theorem ob (h : p := by
  intros; (try dsimp only); first
  | omega
  | (unfold aD; omega)
  | assumption
  | trivial
  | (simp only [aD, big, j5, List.length_take, List.length_drop, List.length_append, List.length_cons, List.length_nil, List.length_set, List.length_replicate, List.length_map, List.length_range]; omega)
  | (simp only [aD, big, List.length_take, List.length_drop, List.length_append, List.length_cons, List.length_nil, List.length_set, List.length_replicate] at *; omega)
  | (rw [Int.tmod_eq_emod_of_nonneg (by omega)]; (try simp only [List.length_cons, List.length_nil]); omega)
  | (repeat' apply And.intro) <;> first
    | omega
    | (unfold aD; omega)
    | assumption
    | trivial
    | (simp only [aD, big, j5, List.length_take, List.length_drop, List.length_append, List.length_cons, List.length_nil, List.length_set, List.length_replicate, List.length_map, List.length_range]; omega)
    | (simp only [aD, big, List.length_take, List.length_drop, List.length_append, List.length_cons, List.length_nil, List.length_set, List.length_replicate] at *; omega)
    | (rw [Int.tmod_eq_emod_of_nonneg (by omega)]; (try simp only [List.length_cons, List.length_nil]); omega)
    | ((simp only [List.forall_mem_append, List.forall_mem_singleton, List.forall_mem_cons, List.not_mem_nil, false_implies, implies_true, and_true]); done)
    | ((simp only [List.forall_mem_append, List.forall_mem_singleton, List.forall_mem_cons, List.not_mem_nil, false_implies, implies_true, and_true]); (repeat' apply And.intro) <;> first | omega | assumption | trivial | (simp only [aD, big, List.length_take, List.length_drop, List.length_append, List.length_cons, List.length_nil, List.length_set, List.length_replicate] at *; omega))
    | (simp_all; done)
    | (simp_all; omega)) : p := h
theorem wi {R : Type} {b : Bool} {q: Prop} {x y : M R} {Q : R → Prop} (h1 : p → W x Q) (h2 : q → W y Q) (e1 : (b = true) = p := by (try simp only [Bool.and_eq_true, Bool.or_eq_true, Bool.and_eq_false_iff, Bool.or_eq_false_iff, decide_eq_true_eq, decide_eq_false_iff_not, Bool.not_eq_true', Bool.not_eq_false', beq_iff_eq, bne_iff_ne, ne_eq, beq_eq_false_iff_ne, bne_eq_false_iff_eq, Int.not_lt, Int.not_le, Bool.not_eq_true, Bool.not_eq_false]); try rfl) (e2 : (b = false) = q := by (try simp only [Bool.and_eq_true, Bool.or_eq_true, Bool.and_eq_false_iff, Bool.or_eq_false_iff, decide_eq_true_eq, decide_eq_false_iff_not, Bool.not_eq_true', Bool.not_eq_false', beq_iff_eq, bne_iff_ne, ne_eq, beq_eq_false_iff_ne, bne_eq_false_iff_eq, Int.not_lt, Int.not_le, Bool.not_eq_true, Bool.not_eq_false]); try rfl) : W (cond b x y) Q := bW (λ c => h1 (e1 ▸ c)) (λ c => h2 (e2 ▸ c))
theorem wn {R : Type} {d : Decidable p} {m : M R} {Q : R → Prop} (h : W m Q) (hp : p := by exact ob) : W (need p m) Q := aQ hp h
theorem wm {R : Type} {p': Prop} {d : Decidable p} {d' : Decidable p'} {m : M R} {Q : R → Prop} (h : W m Q) (hp : p := by exact ob) (hp' : p' := by exact ob) : W (need p (need p' m)) Q := aQ hp (aQ hp' h)
end Go.Ab
namespace Go.Proofs.YtifekdmmpbcdgaaGreatDoor
open Go.Ab
set_option maxRecDepth 100000
theorem TK (x n:Int) (h:0<n) : -n<x.tmod n∧x.tmod n<n:=by
 have h1:=Int.natAbs_tmod x n;have h2:=Nat.mod_lt x.natAbs (show 0<n.natAbs by omega);omega
theorem aej:∀(k i:Nat) (g:Nat→AV) (s:ByteArray),(JH k i g s).size=s.size+k:=by
 intro k;induction k with
 | zero=>intro i g s; rfl
 | succ k ih=>intro i g s; unfold JH; rw [ih,ByteArray.size_push]; omega
theorem af3 (l:List Int):(strOf l).size=l.length:=by
 unfold strOf;rw [aej];simp
variable {α:Type} {i:Nat}
theorem acu {P:α→Prop} {l:List α} {y:α} (h:∀x∈l,P x) (hy:P y):∀x∈l.set i y,P x:=λ x hx=>by
 rcases List.mem_or_eq_of_mem_set hx with e | e
 ·exact h x e
 ·subst e; exact hy
structure amu (b:aY):Prop where
 ncl:b.bS.length≤5
 cl:∀c∈b.bS,c.aT.length≤2∧c.aK.length≤3
 nsu:b.bI.length≤3
 su:∀c∈b.bI,c.dB.length≤3
 ngr:b.aZ.aH.length≤5
 gr:∀c∈b.aZ.aH,c.bZ.length≤10∧c.ak.length≤2
 nre:b.bA.length≤4
 re:∀c∈b.bA,c.fF.length≤100
 ndo:b.dD.length≤4
theorem getD_in {l:List α} (d:α) (h:i<l.length):l.getD i d∈l:=by
 rw [List.getD_eq_getElem?_getD,List.getElem?_eq_getElem h];exact List.getElem_mem h
theorem aek {x_:Int} {n_:Int} (h1:n_≤2000000):W (Px x_ n_) (λ r=>0≤r∧(0<n_→r<n_)∧(n_<1→r=0)):=by
 unfold Px;refine wi ?_ ?_<;>intro c1
 ·exact au<|ob
 ·refine wn<|aQ (by (have:=TK x_ n_ om; unfold aD; omega)) ?_;refine wn<|au ?_;(have h:=TK x_ n_ om; have h2:=TK (x_.tmod n_+n_) n_ om; have h3:=Int.tmod_nonneg (a:=x_.tmod n_+n_) n_ om; omega)
variable {dx:dH}
theorem cu {n_:Int} (h1:n_≤2000000) (h2:0≤dx.At) (h3:dx.L.length≤600):W (eH n_ dx) (λ r=>0≤r.1∧(0<n_→r.1<n_)∧(n_<1→r.1=0)∧0≤r.2.At∧r.2.L.length≤600):=by
 unfold eH;refine wi ?_ ?_<;>intro c1
 ·exact au<|ob
 ·refine wm<|wn ?_;refine aG (aek ob) λ v1 hv1=>?_;obtain ⟨I7,Ga,I8⟩:=hv1;exact au<|ob
theorem nJ {wY:Int} {y8:Int} (h1 : -2000000≤wY) (h2:y8≤100000) (h3:wY≤y8+1) (h4:y8 - wY≤100000) (h5:0≤dx.At) (h6:dx.L.length≤600):W (j6 wY y8 dx) (λ r=>wY≤r.1∧(wY≤y8→r.1≤y8)∧(y8<wY→r.1=wY)∧0≤r.2.At∧r.2.L.length≤600):=by
 unfold j6;refine wm<|aG (cu ob ob ob) λ v1 hv1=>?_;obtain ⟨I7,Ga,I8,LK,Od⟩:=hv1;refine wn<|au ?_;exact ob
theorem fZ {l_:List Int} (h1:0<l_.length) (h2:l_.length≤1000) (h3:0≤dx.At) (h4:dx.L.length≤600):W (gU l_ dx) (λ r=>(∃i:Nat,i<l_.length∧r.1=l_.getD i 0)∧0≤r.2.At∧r.2.L.length≤600):=by
 unfold gU;refine aG (cu ob ob ob) λ v1 hv1=>?_;obtain ⟨I7,Ga,I8,LK,Od⟩:=hv1;refine wn<|au ?_;(exact ⟨⟨v1.1.toNat,om,rfl⟩,ob⟩)
theorem Vl {l_:List ByteArray} (h1:0<l_.length) (h2:l_.length≤1000) (h3:0≤dx.At) (h4:dx.L.length≤600):W (yC l_ dx) (λ r=>(∃i:Nat,i<l_.length∧r.1=l_.getD i ByteArray.empty)∧0≤r.2.At∧r.2.L.length≤600):=by
 unfold yC;refine aG (cu ob ob ob) λ v1 hv1=>?_;obtain ⟨I7,Ga,I8,LK,Od⟩:=hv1;refine wn<|au ?_;(exact ⟨⟨v1.1.toNat,om,rfl⟩,ob⟩)
theorem kS:W (pG) (λ r=>r=[({ data:=#[117,97,114,116] }:ByteArray),({ data:=#[115,112,105] }:ByteArray),({ data:=#[105,50,99] }:ByteArray),({ data:=#[112,119,109] }:ByteArray)]):=by
 unfold pG;refine au ?_;rfl
variable {k_:Int}
theorem zL {n_:Int} (h1:0≤n_) (h2:n_≤1000) (h3:1≤k_) (h4:k_≤100) (h5:0≤dx.At) (h6:dx.L.length≤600):W (oI n_ k_ dx) (λ r=>r.1.length≤n_.toNat∧(∀p∈r.1,0≤p∧p<n_)∧0≤r.2.At∧r.2.L.length≤600):=by
 unfold oI;refine bM (λ (g1:Int×List Int×Int×List Int)=>0≤g1.1∧g1.1≤n_∧0≤g1.2.2.1∧g1.2.1.length≤600∧(g1.2.2.2.length:Int)≤g1.1∧(∀p∈g1.2.2.2,0≤p∧p<n_)) (λ (g1:Int×List Int×Int×List Int)=>(n_ - g1.1).toNat) ?_ ?_
 ·intro ah g1 eX cZ;obtain ⟨dX,bN,bQ,kQ,Oe,akm⟩:=eX;unfold FR;refine wi ?_ ?_<;>intro c1
  ·refine aG (cu ob ob ob) λ v3 hv3=>?_;obtain ⟨aha,ael,aem,anF,avD⟩:=hv3;refine wn<|wi ?_ ?_<;>intro c2
   ·refine wm<|cZ _ ?_ ?_
    ·exact ob
    ·exact ob
   ·refine wn<|cZ _ ?_ ?_
    ·exact ob
    ·exact ob
  ·exact au<|ob
 ·exact ob
variable {jk:Int}
theorem R6 (h1:0≤jk) (h2:jk≤100) (h3:0≤dx.At) (h4:dx.L.length≤600):W (uD jk dx) (λ r=>r.1.length≤jk.toNat∧(∀x∈r.1,x.fF.length≤100)∧0≤r.2.At∧r.2.L.length≤600):=by
 unfold uD;refine wn<|aG (cu ob ob ob) λ v1 hv1=>?_;obtain ⟨I7,Ga,I8,LK,Od⟩:=hv1;refine bM (λ (g1:Int×List Int×Int×List eF)=>0≤g1.1∧0≤g1.2.2.1∧g1.2.1.length≤600∧(g1.2.2.2.length:Int)+g1.1≤jk∧(∀x∈g1.2.2.2,x.fF.length≤100)) (λ (g1:Int×List Int×Int×List eF)=>g1.1.toNat) ?_ ?_
 ·intro ah g1 eX cZ;obtain ⟨dX,bN,bQ,kQ,Oe⟩:=eX;unfold Cw;refine wi ?_ ?_<;>intro c1
  ·refine aG (zL ob ob ob ob ob ob) λ v4 hv4=>?_;obtain ⟨anG,akn,anH,aqz⟩:=hv4;refine wm<|cZ _ ?_ ?_
   ·exact ob
   ·exact ob
  ·exact au<|ob
 ·exact ob
theorem Qc (h1:0≤jk) (h2:jk≤50) (h3:0≤dx.At) (h4:dx.L.length≤600):W (rY jk dx) (λ r=>r.1.length≤jk.toNat∧0≤r.2.At∧r.2.L.length≤600):=by
 unfold rY;refine wn<|aG (cu ob ob ob) λ v1 hv1=>?_;obtain ⟨I7,Ga,I8,LK,Od⟩:=hv1;refine bM (λ (g1:Int×List Int×Int×List ByteArray)=>0≤g1.1∧0≤g1.2.2.1∧g1.2.1.length≤600∧(g1.2.2.2.length:Int)+g1.1≤jk) (λ (g1:Int×List Int×Int×List ByteArray)=>g1.1.toNat) ?_ ?_
 ·intro ah g1 eX cZ;obtain ⟨dX,bN,bQ,kQ⟩:=eX;unfold A9;refine wi ?_ ?_<;>intro c1
  ·refine aG (kS) λ v6 hv6=>?_;subst hv6;refine aG (Vl ob ob ob ob) λ v7 hv7=>?_;obtain ⟨aqA,aqB,aqC⟩:=hv7;refine wm<|cZ _ ?_ ?_
   ·exact ob
   ·exact ob
  ·exact au<|ob
 ·exact ob
theorem Qd (h1:0≤jk) (h2:jk≤50) (h3:0≤dx.At) (h4:dx.L.length≤600):W (rX jk dx) (λ r=>r.1.length≤jk.toNat∧0≤r.2.At∧r.2.L.length≤600):=by
 unfold rX;refine wn<|aG (cu ob ob ob) λ v1 hv1=>?_;obtain ⟨I7,Ga,I8,LK,Od⟩:=hv1;refine bM (λ (g1:Int×List Int×Int×List dO)=>0≤g1.1∧0≤g1.2.2.1∧g1.2.1.length≤600∧(g1.2.2.2.length:Int)+g1.1≤jk) (λ (g1:Int×List Int×Int×List dO)=>g1.1.toNat) ?_ ?_
 ·intro ah g1 eX cZ;obtain ⟨dX,bN,bQ,kQ⟩:=eX;unfold A8;refine wi ?_ ?_<;>intro c1
  ·refine wn<|aG (nJ ob ob ob ob ob ob) λ v6 hv6=>?_;obtain ⟨avE,avF,avG,avH,avI⟩:=hv6;refine aG (cu ob ob ob) λ v7 hv7=>?_;obtain ⟨aqA,aqB,aqC,avJ,avK⟩:=hv7;refine wm<|cZ _ ?_ ?_
   ·exact ob
   ·exact ob
  ·exact au<|ob
 ·exact ob
theorem R7 (h1:0≤dx.At) (h2:dx.L.length≤600):W (uy dx) (λ r=>r.1.length≤5∧(∀c∈r.1,c.aT.length≤2∧c.aK.length≤3)∧0≤r.2.At∧r.2.L.length≤600):=by
 unfold uy;refine aG (cu ob ob ob) λ v1 hv1=>?_;obtain ⟨I7,Ga,I8,LK,Od⟩:=hv1;refine bM (λ (g1:Int×List Int×Int×List ay)=>0≤g1.1∧0≤g1.2.2.1∧g1.2.1.length≤600∧(g1.2.2.2.length:Int)+g1.1≤5∧(∀c∈g1.2.2.2,c.aT.length≤2∧c.aK.length≤3)) (λ (g1:Int×List Int×Int×List ay)=>g1.1.toNat) ?_ ?_
 ·intro ah g1 eX cZ;obtain ⟨dX,bN,bQ,kQ,Oe⟩:=eX;unfold Ct;refine wi ?_ ?_<;>intro c1
  ·refine aG (fZ ob ob ob ob) λ v28 hv28=>?_;obtain ⟨asA,asB,asC⟩:=hv28;refine wi ?_ ?_<;>intro c2
   ·refine aG (cu ob ob ob) λ v41 asD=>?_;obtain ⟨asE,asF,asG,asH,asI⟩:=asD;refine wi ?_ ?_<;>intro c3
    ·refine aG (cu ob ob ob) λ v42 asJ=>?_;obtain ⟨asK,asL,asM,asN,asO⟩:=asJ;refine aG (cu ob ob ob) λ v49 af4=>?_;obtain ⟨ako,akp,akq,akr,aks⟩:=af4;refine wi ?_ ?_<;>intro c4
     ·refine aG (fZ ob ob ob ob) λ v50 acv=>?_;obtain ⟨asP,asQ,asR⟩:=acv;unfold gD;refine aG (cu ob ob ob) λ v47 acw=>?_;obtain ⟨acy,acz,acA,acB,acC⟩:=acw;refine wi ?_ ?_<;>intro c5
      ·refine aG (fZ ob ob ob ob) λ v48 Zj=>?_;obtain ⟨acD,acE,acF⟩:=Zj;unfold eZ;refine wm<|cZ _ ?_ ?_
       ·exact ob
       ·exact ob
      ·unfold eZ;refine wm<|cZ _ ?_ ?_
       ·exact ob
       ·exact ob
     ·refine wi ?_ ?_<;>intro c6
      ·refine aG (fZ ob ob ob ob) λ v51 aoN=>?_;obtain ⟨asS,asT,asU⟩:=aoN;unfold gD;refine aG (cu ob ob ob) λ v47 acw=>?_;obtain ⟨acy,acz,acA,acB,acC⟩:=acw;refine wi ?_ ?_<;>intro c7
       ·refine aG (fZ ob ob ob ob) λ v48 Zj=>?_;obtain ⟨acD,acE,acF⟩:=Zj;unfold eZ;refine wm<|cZ _ ?_ ?_
        ·exact ob
        ·exact ob
       ·unfold eZ;refine wm<|cZ _ ?_ ?_
        ·exact ob
        ·exact ob
      ·refine wi ?_ ?_<;>intro c8
       ·unfold gD;refine aG (cu ob ob ob) λ v47 acw=>?_;obtain ⟨acy,acz,acA,acB,acC⟩:=acw;refine wi ?_ ?_<;>intro c9
        ·refine aG (fZ ob ob ob ob) λ v48 Zj=>?_;obtain ⟨acD,acE,acF⟩:=Zj;unfold eZ;refine wm<|cZ _ ?_ ?_
         ·exact ob
         ·exact ob
        ·unfold eZ;refine wm<|cZ _ ?_ ?_
         ·exact ob
         ·exact ob
       ·refine wi ?_ ?_<;>intro c10
        ·refine wn<|aG (cu ob ob ob) λ v52 asV=>?_;obtain ⟨asW,asX,asY,asZ,as0⟩:=asV;refine wn ?_;unfold gD;refine aG (cu ob ob ob) λ v47 acw=>?_;obtain ⟨acy,acz,acA,acB,acC⟩:=acw;refine wi ?_ ?_<;>intro c11
         ·refine aG (fZ ob ob ob ob) λ v48 Zj=>?_;obtain ⟨acD,acE,acF⟩:=Zj;unfold eZ;refine wm<|cZ _ ?_ ?_
          ·exact ob
          ·exact ob
         ·unfold eZ;refine wm<|cZ _ ?_ ?_
          ·exact ob
          ·exact ob
        ·unfold gD;refine aG (cu ob ob ob) λ v47 acw=>?_;obtain ⟨acy,acz,acA,acB,acC⟩:=acw;refine wi ?_ ?_<;>intro c12
         ·refine aG (fZ ob ob ob ob) λ v48 Zj=>?_;obtain ⟨acD,acE,acF⟩:=Zj;unfold eZ;refine wm<|cZ _ ?_ ?_
          ·exact ob
          ·exact ob
         ·unfold eZ;refine wm<|cZ _ ?_ ?_
          ·exact ob
          ·exact ob
    ·unfold eZ;refine wm<|cZ _ ?_ ?_
     ·exact ob
     ·exact ob
   ·refine wn ?_;unfold eZ;refine wm<|cZ _ ?_ ?_
    ·exact ob
    ·exact ob
  ·exact au<|ob
 ·exact ob
theorem Og (h1:0≤dx.At) (h2:dx.L.length≤600):W (qp dx) (λ r=>r.1.length≤3∧(∀c∈r.1,c.dB.length≤3)∧0≤r.2.At∧r.2.L.length≤600):=by
 unfold qp;refine aG (cu ob ob ob) λ v1 hv1=>?_;obtain ⟨I7,Ga,I8,LK,Od⟩:=hv1;refine bM (λ (g1:Int×List Int×Int×List aF)=>0≤g1.1∧0≤g1.2.2.1∧g1.2.1.length≤600∧(g1.2.2.2.length:Int)+g1.1≤3∧(∀c∈g1.2.2.2,c.dB.length≤3)) (λ (g1:Int×List Int×Int×List aF)=>g1.1.toNat) ?_ ?_
 ·intro ah g1 eX cZ;obtain ⟨dX,bN,bQ,kQ,Oe⟩:=eX;unfold zy;refine wi ?_ ?_<;>intro c1
  ·refine wn<|aG (nJ ob ob ob ob ob ob) λ v12 TL=>?_;obtain ⟨as1,as2,as3,as4,as5⟩:=TL;refine aG (fZ ob ob ob ob) λ v13 R8=>?_;obtain ⟨as6,as7,as8⟩:=R8;refine aG (fZ ob ob ob ob) λ v14 Xv=>?_;obtain ⟨as9,ata,atb⟩:=Xv;refine aG (cu ob ob ob) λ v15 aar=>?_;obtain ⟨atc,atd,ate,atf,atg⟩:=aar;refine wi ?_ ?_<;>intro c2
   ·unfold kF;refine aG (cu ob ob ob) λ v16 acG=>?_;obtain ⟨aoO,aoP,aoQ,aoR,aoS⟩:=acG;refine wn<|wi ?_ ?_<;>intro c3
    ·refine wm<|cZ _ ?_ ?_
     ·exact ob
     ·exact ob
    ·refine wi ?_ ?_<;>intro c4
     ·refine wm<|cZ _ ?_ ?_
      ·exact ob
      ·exact ob
     ·refine wi ?_ ?_<;>intro c5
      ·refine wm<|cZ _ ?_ ?_
       ·exact ob
       ·exact ob
      ·refine wi ?_ ?_<;>intro c6
       ·refine wm<|cZ _ ?_ ?_
        ·exact ob
        ·exact ob
       ·refine wm<|cZ _ ?_ ?_
        ·exact ob
        ·exact ob
   ·unfold kF;refine aG (cu ob ob ob) λ v16 acG=>?_;obtain ⟨aoO,aoP,aoQ,aoR,aoS⟩:=acG;refine wn<|wi ?_ ?_<;>intro c7
    ·refine wm<|cZ _ ?_ ?_
     ·exact ob
     ·exact ob
    ·refine wi ?_ ?_<;>intro c8
     ·refine wm<|cZ _ ?_ ?_
      ·exact ob
      ·exact ob
     ·refine wi ?_ ?_<;>intro c9
      ·refine wm<|cZ _ ?_ ?_
       ·exact ob
       ·exact ob
      ·refine wi ?_ ?_<;>intro c10
       ·refine wm<|cZ _ ?_ ?_
        ·exact ob
        ·exact ob
       ·refine wm<|cZ _ ?_ ?_
        ·exact ob
        ·exact ob
  ·exact au<|ob
 ·exact ob
theorem R9 (h1:0≤dx.At) (h2:dx.L.length≤600):W (uz dx) (λ r=>r.1.aH.length≤5∧(∀c∈r.1.aH,c.bZ.length≤10∧c.ak.length≤2)∧0≤r.2.At∧r.2.L.length≤600):=by
 unfold uz;refine aG (nJ ob ob ob ob ob ob) λ v1 hv1=>?_;obtain ⟨I7,Ga,I8,LK,Od⟩:=hv1;refine aG (cu ob ob ob) λ v2 hv2=>?_;obtain ⟨akt,ahb,aku,aqD,avL⟩:=hv2;refine bM (λ (g1:Int×List Int×Int×List cB)=>0≤g1.1∧0≤g1.2.2.1∧g1.2.1.length≤600∧(g1.2.2.2.length:Int)+g1.1≤5∧(∀c∈g1.2.2.2,c.bZ.length≤10∧c.ak.length≤2)) (λ (g1:Int×List Int×Int×List cB)=>g1.1.toNat) ?_ ?_
 ·intro ah g1 eX cZ;obtain ⟨dX,bN,bQ,kQ,Oe⟩:=eX;unfold Cv;refine wi ?_ ?_<;>intro c1
  ·refine wn<|aQ (by (rw [af3,show ({ data:=#[103] }:ByteArray).size=1 from rfl]; simp only [List.length_cons,List.length_nil]; omega)) ?_;refine aG (cu ob ob ob) λ v35 aoT=>?_;obtain ⟨ath,ati,atj,atl,atm⟩:=aoT;refine bM (λ (g12:Int×List Int×Int×List Int)=>0≤g12.1∧0≤g12.2.2.1∧g12.2.1.length≤600∧(g12.2.2.2.length:Int)≤g12.1∧g12.1≤10) (λ (g12:Int×List Int×Int×List Int)=>(10 - g12.1).toNat) ?_ ?_
   ·intro afZ g12 aqE aqF;obtain ⟨atn,ato,atp,atq,atr⟩:=aqE;unfold Cu;refine wi ?_ ?_<;>intro c2
    ·refine aG (nJ ob ob ob ob ob ob) λ v38 hv38=>?_;obtain ⟨att,atu,atv,atw,atx⟩:=hv38;refine wn<|wi ?_ ?_<;>intro c3
     ·refine wm<|aqF _ ?_ ?_
      ·exact ob
      ·exact ob
     ·refine wi ?_ ?_<;>intro c4
      ·unfold lu;refine aG (cu ob ob ob) λ v39 hv39=>?_;obtain ⟨aoU,aoV,aoW,aoX,aoY⟩:=hv39;refine aG (kS) λ v40 akv=>?_;subst akv;refine wn<|aG (cu ob ob ob) λ v43 akw=>?_;obtain ⟨aoZ,ao0,ao1,ao2,ao3⟩:=akw;refine wi ?_ ?_<;>intro c5
       ·refine aG (kS) λ v44 akx=>?_;subst akx;refine wm<|wm ?_;unfold jh;refine wm<|cZ _ ?_ ?_
        ·exact ob
        ·exact ob
       ·unfold jh;refine wm<|cZ _ ?_ ?_
        ·exact ob
        ·exact ob
      ·unfold lu;refine aG (cu ob ob ob) λ v39 hv39=>?_;obtain ⟨aoU,aoV,aoW,aoX,aoY⟩:=hv39;refine aG (kS) λ v40 akv=>?_;subst akv;refine wn<|aG (cu ob ob ob) λ v43 akw=>?_;obtain ⟨aoZ,ao0,ao1,ao2,ao3⟩:=akw;refine wi ?_ ?_<;>intro c6
       ·refine aG (kS) λ v44 akx=>?_;subst akx;refine wm<|wm ?_;unfold jh;refine wm<|cZ _ ?_ ?_
        ·exact ob
        ·exact ob
       ·unfold jh;refine wm<|cZ _ ?_ ?_
        ·exact ob
        ·exact ob
    ·refine wn<|wi ?_ ?_<;>intro c7
     ·unfold jY;refine aG (cu ob ob ob) λ v45 aky=>?_;obtain ⟨ao4,ao5,ao6,ao7,ao8⟩:=aky;refine aG (kS) λ v46 af5=>?_;subst af5;refine wn<|aG (cu ob ob ob) λ v49 af4=>?_;obtain ⟨ako,akp,akq,akr,aks⟩:=af4;refine wi ?_ ?_<;>intro c8
      ·refine aG (kS) λ v50 acv=>?_;subst acv;refine wm<|wm ?_;unfold iM;refine wm<|cZ _ ?_ ?_
       ·exact ob
       ·exact ob
      ·unfold iM;refine wm<|cZ _ ?_ ?_
       ·exact ob
       ·exact ob
     ·unfold jY;refine aG (cu ob ob ob) λ v45 aky=>?_;obtain ⟨ao4,ao5,ao6,ao7,ao8⟩:=aky;refine aG (kS) λ v46 af5=>?_;subst af5;refine wn<|aG (cu ob ob ob) λ v49 af4=>?_;obtain ⟨ako,akp,akq,akr,aks⟩:=af4;refine wi ?_ ?_<;>intro c9
      ·refine aG (kS) λ v50 acv=>?_;subst acv;refine wm<|wm ?_;unfold iM;refine wm<|cZ _ ?_ ?_
       ·exact ob
       ·exact ob
      ·unfold iM;refine wm<|cZ _ ?_ ?_
       ·exact ob
       ·exact ob
   ·exact ob
  ·exact au<|ob
 ·exact ob
theorem TM (h1:0≤dx.At) (h2:dx.L.length≤600):W (vH dx) (λ r=>amu r.1∧0≤r.2.At∧r.2.L.length≤600):=by
 unfold vH;refine aG (R7 ob ob) λ v1 hv1=>?_;obtain ⟨I7,Ga,I8,LK⟩:=hv1;refine aG (Og ob ob) λ v2 hv2=>?_;obtain ⟨akt,ahb,aku,aqD⟩:=hv2;refine aG (R9 ob ob) λ v3 hv3=>?_;obtain ⟨aha,ael,aem,anF⟩:=hv3;refine aG (R6 ob ob ob ob) λ v4 hv4=>?_;obtain ⟨anG,akn,anH,aqz⟩:=hv4;refine aG (Qd ob ob ob ob) λ v5 hv5=>?_;obtain ⟨avM,avN,avO⟩:=hv5;refine au ?_;(refine ⟨⟨ob,Ga,ob,ahb,ob,ael,ob,akn,ob⟩,ob,ob⟩)
variable {b_:aY}
theorem TN (h1:b_.bS.length≤100) (h2:0≤dx.At) (h3:dx.L.length≤600):W (vI b_ dx) (λ r=>0≤r.2.At∧r.2.L.length≤600):=by
 unfold vI;refine aG (cu ob ob ob) λ v1 hv1=>?_;obtain ⟨I7,Ga,I8,LK,Od⟩:=hv1;refine aG (fZ ob ob ob ob) λ v2 hv2=>?_;obtain ⟨akt,ahb,aku⟩:=hv2;refine aG (fZ ob ob ob ob) λ v3 hv3=>?_;obtain ⟨aha,ael,aem⟩:=hv3;exact au<|ob
theorem Vm (h1:b_.bI.length≤100) (h2:0≤dx.At) (h3:dx.L.length≤600):W (yB b_ dx) (λ r=>0≤r.2.At∧r.2.L.length≤600):=by
 unfold yB;refine aG (cu ob ob ob) λ v1 hv1=>?_;obtain ⟨I7,Ga,I8,LK,Od⟩:=hv1;refine aG (fZ ob ob ob ob) λ v2 hv2=>?_;obtain ⟨akt,ahb,aku⟩:=hv2;refine aG (fZ ob ob ob ob) λ v3 hv3=>?_;obtain ⟨aha,ael,aem⟩:=hv3;refine aG (fZ ob ob ob ob) λ v4 hv4=>?_;obtain ⟨anG,akn,anH⟩:=hv4;exact au<|ob
variable {v1:Int×dH} {g1:Int×List Int×Int×List aS} {v46:Int×dH} {g14:List Int×Int×List aX} {g15:List Int×Int×List bU} {g16:List Int×Int×List ByteArray} {Q:(List aS×dH)→Prop}
theorem wT {ah:(Int×List Int×Int×List aS)→M (List aS×dH)} {v53:List Int×dH} {g18:List Int×Int×List Int} (cZ:∀s':(Int×List Int×Int×List aS),(0≤s'.1∧s'.1≤v1.1∧0≤s'.2.2.1∧s'.2.1.length≤600∧(s'.2.2.2.length:Int)=s'.1∧(∀x∈s'.2.2.2,x.bT.length≤1∧x.fI.length≤1∧x.ak.length≤2∧x.bA.length≤100∧x.bq.length≤100∧(∀p∈x.bq,0≤p∧p<v1.1)))→(v1.1 - s'.1).toNat<(v1.1 - g1.1).toNat→W (ah s') Q) (hc:0≤g18.2.1∧g18.1.length≤600∧g18.2.2.length≤100∧(∀p∈g18.2.2,0≤p∧p<v1.1)∧g14.2.2.length≤1∧g15.2.2.length≤1∧g16.2.2.length≤2∧v53.1.length≤100∧0≤g1.1∧g1.1<v1.1∧v1.1≤51∧(g1.2.2.2.length:Int)=g1.1∧(∀x∈g1.2.2.2,x.bT.length≤1∧x.fI.length≤1∧x.ak.length≤2∧x.bA.length≤100∧x.bq.length≤100∧(∀p∈x.bq,0≤p∧p<v1.1))):W (kG g1 ah v46 g14 g15 g16 v53 g18) Q:=by
 obtain ⟨akz,akA,akB,af6,af7,af8,amv,amw,amx,ahc,anI,aqG,aqH⟩:=hc;unfold kG;refine wm<|cZ _ ?_ ?_
 ·exact ob
 ·exact ob
theorem wU {ah:(Int×List Int×Int×List aS)→M (List aS×dH)} {v53:List Int×dH} {g19:Int×List Int×Int} (cZ:∀s':(Int×List Int×Int×List aS),(0≤s'.1∧s'.1≤v1.1∧0≤s'.2.2.1∧s'.2.1.length≤600∧(s'.2.2.2.length:Int)=s'.1∧(∀x∈s'.2.2.2,x.bT.length≤1∧x.fI.length≤1∧x.ak.length≤2∧x.bA.length≤100∧x.bq.length≤100∧(∀p∈x.bq,0≤p∧p<v1.1)))→(v1.1 - s'.1).toNat<(v1.1 - g1.1).toNat→W (ah s') Q) (hc:0≤g19.2.2∧g19.2.1.length≤600∧0≤g19.1∧g19.1≤51∧g14.2.2.length≤1∧g15.2.2.length≤1∧g16.2.2.length≤2∧v53.1.length≤100∧g19.1≤v1.1∧0≤g1.1∧g1.1<v1.1∧v1.1≤51∧(g1.2.2.2.length:Int)=g1.1∧(∀x∈g1.2.2.2,x.bT.length≤1∧x.fI.length≤1∧x.ak.length≤2∧x.bA.length≤100∧x.bq.length≤100∧(∀p∈x.bq,0≤p∧p<v1.1))):W (kH g1 ah v46 g14 g15 g16 v53 g19) Q:=by
 obtain ⟨akz,akA,akB,af6,af7,af8,amv,amw,amx,ahc,anI,aqG,aqH,aqI⟩:=hc;unfold kH;refine aG (zL ob ob ob ob ob ob) λ v60 aty=>?_;obtain ⟨atz,ao9,atA,atB⟩:=aty;exact wT (v1:=v1) (λ a b c=>cZ a b c) (by (refine ⟨ob,ob,ob,λ p hp=>(by have:=ao9 p hp; omega),ob,ob,ob,ob,ob,ob,ob,ob,aqI⟩))
theorem wV {ah:(Int×List Int×Int×List aS)→M (List aS×dH)} (cZ:∀s':(Int×List Int×Int×List aS),(0≤s'.1∧s'.1≤v1.1∧0≤s'.2.2.1∧s'.2.1.length≤600∧(s'.2.2.2.length:Int)=s'.1∧(∀x∈s'.2.2.2,x.bT.length≤1∧x.fI.length≤1∧x.ak.length≤2∧x.bA.length≤100∧x.bq.length≤100∧(∀p∈x.bq,0≤p∧p<v1.1)))→(v1.1 - s'.1).toNat<(v1.1 - g1.1).toNat→W (ah s') Q) (hc:0≤g16.2.1∧g16.1.length≤600∧g14.2.2.length≤1∧g15.2.2.length≤1∧g16.2.2.length≤2∧b_.bA.length≤4∧0≤g1.1∧g1.1<v1.1∧v1.1≤51∧(g1.2.2.2.length:Int)=g1.1∧(∀x∈g1.2.2.2,x.bT.length≤1∧x.fI.length≤1∧x.ak.length≤2∧x.bA.length≤100∧x.bq.length≤100∧(∀p∈x.bq,0≤p∧p<v1.1))):W (kI b_ v1 g1 ah v46 g14 g15 g16) Q:=by
 obtain ⟨akz,akA,akB,af6,af7,af8,amv,amw,amx,ahc,anI⟩:=hc;unfold kI;refine aG (zL ob ob ob ob ob ob) λ v53 atC=>?_;obtain ⟨atE,atF,atG,atH⟩:=atC;refine aG (cu ob ob ob) λ v58 atI=>?_;obtain ⟨atJ,atK,atL,atM,atN⟩:=atI;refine wi ?_ ?_<;>intro c1
 ·refine aG (cu ob ob ob) λ v61 atO=>?_;obtain ⟨atP,atQ,atS,atT,atU⟩:=atO;refine wi ?_ ?_<;>intro c2
  ·exact wU (v1:=v1) (λ a b c=>cZ a b c) ob
  ·exact wU (v1:=v1) (λ a b c=>cZ a b c) ob
 ·exact wT (v1:=v1) (λ a b c=>cZ a b c) ob
theorem oN {ah:(Int×List Int×Int×List aS)→M (List aS×dH)} (cZ:∀s':(Int×List Int×Int×List aS),(0≤s'.1∧s'.1≤v1.1∧0≤s'.2.2.1∧s'.2.1.length≤600∧(s'.2.2.2.length:Int)=s'.1∧(∀x∈s'.2.2.2,x.bT.length≤1∧x.fI.length≤1∧x.ak.length≤2∧x.bA.length≤100∧x.bq.length≤100∧(∀p∈x.bq,0≤p∧p<v1.1)))→(v1.1 - s'.1).toNat<(v1.1 - g1.1).toNat→W (ah s') Q) (hc:0≤g15.2.1∧g15.1.length≤600∧g14.2.2.length≤1∧g15.2.2.length≤1∧b_.bA.length≤4∧0≤g1.1∧g1.1<v1.1∧v1.1≤51∧(g1.2.2.2.length:Int)=g1.1∧(∀x∈g1.2.2.2,x.bT.length≤1∧x.fI.length≤1∧x.ak.length≤2∧x.bA.length≤100∧x.bq.length≤100∧(∀p∈x.bq,0≤p∧p<v1.1))):W (jA b_ v1 g1 ah v46 g14 g15) Q:=by
 obtain ⟨akz,akA,akB,af6,af7,af8,amv,amw,amx,ahc⟩:=hc;unfold jA;refine aG (cu ob ob ob) λ v62 atV=>?_;obtain ⟨atW,atX,atY,atZ,at0⟩:=atV;refine wi ?_ ?_<;>intro c1
 ·refine aG (Qc ob ob ob ob) λ v63 at1=>?_;obtain ⟨at5,at6,at7⟩:=at1;exact wV (λ a b c=>cZ a b c) ob
 ·exact wV (λ a b c=>cZ a b c) ob
theorem qx {ah:(Int×List Int×Int×List aS)→M (List aS×dH)} (cZ:∀s':(Int×List Int×Int×List aS),(0≤s'.1∧s'.1≤v1.1∧0≤s'.2.2.1∧s'.2.1.length≤600∧(s'.2.2.2.length:Int)=s'.1∧(∀x∈s'.2.2.2,x.bT.length≤1∧x.fI.length≤1∧x.ak.length≤2∧x.bA.length≤100∧x.bq.length≤100∧(∀p∈x.bq,0≤p∧p<v1.1)))→(v1.1 - s'.1).toNat<(v1.1 - g1.1).toNat→W (ah s') Q) (hc:0≤g14.2.1∧g14.1.length≤600∧g14.2.2.length≤1∧b_.bA.length≤4∧b_.bI.length≤3∧0≤g1.1∧g1.1<v1.1∧v1.1≤51∧(g1.2.2.2.length:Int)=g1.1∧(∀x∈g1.2.2.2,x.bT.length≤1∧x.fI.length≤1∧x.ak.length≤2∧x.bA.length≤100∧x.bq.length≤100∧(∀p∈x.bq,0≤p∧p<v1.1))):W (jO b_ v1 g1 ah v46 g14) Q:=by
 obtain ⟨akz,akA,akB,af6,af7,af8,amv,amw,amx,ahc⟩:=hc;unfold jO;refine wi ?_ ?_<;>intro c1
 ·refine aG (cu ob ob ob) λ v64 hv64=>?_;obtain ⟨aua,aub,auc,aud,aue⟩:=hv64;refine wi ?_ ?_<;>intro c2
  ·refine aG (Vm ob ob ob) λ v65 auf=>?_;obtain ⟨aug,auh⟩:=auf;refine wn ?_;exact oN (λ a b c=>cZ a b c) ob
  ·exact oN (λ a b c=>cZ a b c) ob
 ·refine wn ?_;exact oN (λ a b c=>cZ a b c) ob
theorem Qe (h1:amu b_) (h2:0≤jk) (h3:jk≤50) (h4:0≤dx.At) (h5:dx.L.length≤600):W (rZ b_ jk dx) (λ r=>r.1.length≤jk.toNat∧(∀x∈r.1,x.bT.length≤1∧x.fI.length≤1∧x.ak.length≤2∧x.bA.length≤100∧x.bq.length≤100∧(∀p∈x.bq,0≤p∧p<(r.1.length:Int)))∧0≤r.2.At∧r.2.L.length≤600):=by
 obtain ⟨q1,q2,q3,q4,q5,q6,q7,q8,q9⟩:=h1;unfold rZ;refine wn<|aG (cu ob ob ob) λ v1 hv1=>?_;obtain ⟨I7,Ga,I8,LK,Od⟩:=hv1;refine bM (λ (g1:Int×List Int×Int×List aS)=>0≤g1.1∧g1.1≤v1.1∧0≤g1.2.2.1∧g1.2.1.length≤600∧(g1.2.2.2.length:Int)=g1.1∧(∀x∈g1.2.2.2,x.bT.length≤1∧x.fI.length≤1∧x.ak.length≤2∧x.bA.length≤100∧x.bq.length≤100∧(∀p∈x.bq,0≤p∧p<v1.1))) (λ (g1:Int×List Int×Int×List aS)=>(v1.1 - g1.1).toNat) ?_ ?_
 ·intro ah g1 eX cZ;obtain ⟨dX,bN,bQ,kQ,Oe,akm⟩:=eX;unfold Ba;refine wi ?_ ?_<;>intro c1
  ·refine wn<|aG (nJ ob ob ob ob ob ob) λ v46 af5=>?_;obtain ⟨aui,auj,auk,aul,aum⟩:=af5;refine wi ?_ ?_<;>intro c2
   ·refine aG (cu ob ob ob) λ v66 aun=>?_;obtain ⟨auo,aup,auq,aur,aus⟩:=aun;refine wi ?_ ?_<;>intro c3
    ·refine aG (TN ob ob ob) λ v67 aut=>?_;obtain ⟨auu,auv⟩:=aut;refine wn ?_;exact qx (λ a b c=>cZ a b c) ob
    ·exact qx (λ a b c=>cZ a b c) ob
   ·refine wn ?_;exact qx (λ a b c=>cZ a b c) ob
  ·have hlen:(g1.2.2.2.length:Int)=v1.1:=by omega
   refine wi ?_ ?_<;>intro c4
   ·refine aG (cu ob ob ob) λ v68 auw=>?_;obtain ⟨auy,auz,auA,auB,auC⟩:=auw;refine wi ?_ ?_<;>intro c5
    ·refine wn<|bM (λ (g20:Int×Int×List aS)=>0≤g20.1 ∧ -1≤g20.2.1∧g20.2.1<v1.1∧g20.1≤v1.1∧(g20.2.2.length:Int)=v1.1∧(∀x∈g20.2.2,x.bT.length≤1∧x.fI.length≤1∧x.ak.length≤2∧x.bA.length≤100∧x.bq.length≤100∧(∀p∈x.bq,0≤p∧p<v1.1))) (λ (g20:Int×Int×List aS)=>(g20.2.1 - g20.1).toNat) ?_ ?_
     ·intro af2 g20 aqJ aqK;obtain ⟨auD,auE,auF,auG,auH,af9⟩:=aqJ;unfold zC;refine wi ?_ ?_<;>intro c6
      ·refine wm<|wm ?_;refine wm<|aqK _ ?_ ?_
       ·(refine ⟨ob,ob,ob,ob,ob,acu (acu af9 (af9 _ (getD_in _ om))) (af9 _ (getD_in _ om))⟩)
       ·exact ob
      ·refine bM (λ (g21:Int×List aS)=>0≤g21.1∧(g21.2.length:Int)=v1.1∧(∀x∈g21.2,x.bT.length≤1∧x.fI.length≤1∧x.ak.length≤2∧x.bA.length≤100∧x.bq.length≤100∧(∀p∈x.bq,0≤p∧p<v1.1))) (λ (g21:Int×List aS)=>(v1.1 - g21.1).toNat) ?_ ?_
       ·intro Zf g21 aqL aqM;obtain ⟨auI,apa,aga⟩:=aqL;unfold zB;refine wi ?_ ?_<;>intro c7
        ·have q:=aga (g21.2.getD g21.1.toNat bG) (getD_in _ om);refine wm<|bM (λ (g24:Int×List Int) => -1≤g24.1∧g24.1<(g21.2.getD g21.1.toNat bG).bq.length∧(g24.2.length:Int)+g24.1<(g21.2.getD g21.1.toNat bG).bq.length∧(∀p∈g24.2,0≤p∧p<v1.1)) (λ (g24:Int×List Int)=>(g24.1+1).toNat) ?_ ?_
         ·intro af0 g24 aqN aqO;obtain ⟨auJ,auK,auL,apb⟩:=aqN;unfold zA;refine wi ?_ ?_<;>intro c8
          ·have q2:=q.2.2.2.2.2 _ (getD_in (i:=g24.1.toNat) 0 om);refine wm<|wm ?_;refine wm<|aqO _ ?_ ?_
           ·exact ob
           ·exact ob
          ·refine wm<|aqM _ ?_ ?_
           ·(refine ⟨ob,ob,acu aga ⟨q.1,q.2.1,q.2.2.1,q.2.2.2.1,ob,apb⟩⟩)
           ·exact ob
         ·exact ob
        ·refine au ?_;(refine ⟨ob,λ x hx=>?_,ob,ob⟩; have q:=aga x hx; rw [apa]; exact q)
       ·exact ob
     ·exact ob
    ·refine au ?_;(refine ⟨ob,λ x hx=>?_,ob,ob⟩; have q:=akm x hx; rw [hlen]; exact q)
   ·refine wn<|au ?_;(refine ⟨ob,λ x hx=>?_,ob,ob⟩; have q:=akm x hx; rw [hlen]; exact q)
 ·exact ob
deriving instance DecidableEq for ay,bK,aX
def dP (n lo hi:Int):Bool:=decide (lo≤n)&&decide (n≤hi)
def yM (lo hi:Int):List Int→List Int→Bool
 | _,[]=>true
 | pre,n::r=>bif !(dP n lo hi)||pre.contains n then false else yM lo hi (pre++[n]) r
variable {lo:Int} {hi:Int}
theorem Yp {n:Int} {pre r:List Int} (h:(!(dP n lo hi)||pre.contains n)=true):yM lo hi pre (n::r)=false:=by rw [yM,h]; rfl
theorem acH {n:Int} {pre r:List Int} (h:(!(dP n lo hi)||pre.contains n)=false):yM lo hi pre (n::r)=yM lo hi (pre++[n]) r:=by rw [yM,h]; rfl
def jy (a b:Int):Int:=(Nat.gcd a.toNat b.toNat:Nat)
def nR (r:bK):Bool:=decide (0≤r.jS)&&decide (r.jS≤144115188075855872)&&decide (1≤r.jv)&&decide (r.jv≤16777216)&&(jy r.jS r.jv==1)
def newR (num den:Int):bK×Int:=bif decide (num<0)||decide (den<1) then (⟨0,0⟩,2) else
 bif !nR ⟨num.tdiv (jy num den),den.tdiv (jy num den)⟩ then (⟨0,0⟩,2) else (⟨num.tdiv (jy num den),den.tdiv (jy num den)⟩,0)
theorem Bl (a b:Int) (h:0<b):0<jy a b:=by
 unfold jy;have:0<b.toNat:=by omega
 have:=Nat.gcd_pos_of_pos_right a.toNat this;omega
theorem tdiv_le (a k:Int) (ha:0≤a) (hk:0<k):0≤a.tdiv k∧a.tdiv k≤a:=by
 rw [Int.tdiv_eq_ediv_of_nonneg ha];exact ⟨Int.ediv_nonneg ha om,Int.ediv_le_self _ ha⟩
def yN (k:Int):Bool:=decide (1≤k)&&decide (k≤64)
def rJ (r:bK) (k:Int):bK×Int:=bif !nR r then (⟨0,0⟩,1) else bif !yN k then (⟨0,0⟩,2) else
 bif decide ((144115188075855872:Int).tdiv (k.tdiv (jy k r.jv))<r.jS) then (⟨0,0⟩,2) else newR (r.jS*(k.tdiv (jy k r.jv))) (r.jv.tdiv (jy k r.jv))
def Bn (r:bK) (k:Int):bK×Int:=bif !nR r then (⟨0,0⟩,1) else bif !yN k then (⟨0,0⟩,2) else newR r.jS (r.jv*k)
theorem lV {r:bK} (h:nR r=true):0≤r.jS∧r.jS≤144115188075855872∧1≤r.jv∧r.jv≤16777216∧jy r.jS r.jv=1:=by
 unfold nR at h;simp at h;omega
theorem apc (k d:Int) (hk:1≤k∧k≤64) (hd:1≤d):1≤k.tdiv (jy k d)∧k.tdiv (jy k d)≤64:=by
 have hg:=Bl k d om;have h1:=tdiv_le k (jy k d) om hg;have hdvd:Nat.gcd k.toNat d.toNat∣k.toNat:=Nat.gcd_dvd_left _ _;have h2:0<k.toNat / Nat.gcd k.toNat d.toNat:=Nat.div_pos (Nat.le_of_dvd om hdvd) (by unfold jy at hg; omega);have h3:k.tdiv (jy k d)=((k.toNat / Nat.gcd k.toNat d.toNat:Nat):Int):=by
  unfold jy;rw [Int.tdiv_eq_ediv_of_nonneg om];have:k=(k.toNat:Int):=by omega
  rw [Int.natCast_ediv,← this]
 omega
theorem aie (a b:Int) (ha:0≤a) (hb:1≤b) (h:a≤(144115188075855872:Int).tdiv b):0≤a*b∧a*b≤144115188075855872:=by
 rw [Int.tdiv_eq_ediv_of_nonneg (by decide)] at h;have:=(Int.le_ediv_iff_mul_le om).1 h;exact ⟨Int.mul_nonneg ha om,this⟩
theorem TP (c a b:Nat) (hc:0<c) (hb:0<b):newR (c*a:Nat) (c*b:Nat)=newR a b:=by
 have hcb:0<c*b:=Nat.mul_pos hc hb;have g0:0<Nat.gcd a b:=Nat.gcd_pos_of_pos_right a hb;have e1:jy (c*a:Nat) (c*b:Nat)=((c*Nat.gcd a b:Nat):Int):=by
  unfold jy;rw [Int.toNat_natCast,Int.toNat_natCast,Nat.gcd_mul_left]
 have e2:jy (a:Nat) (b:Nat)=(Nat.gcd a b:Nat):=by
  unfold jy;rw [Int.toNat_natCast,Int.toNat_natCast]
 have d:∀x:Nat,((c*x:Nat):Int).tdiv ((c*Nat.gcd a b:Nat):Int)=(x:Int).tdiv (Nat.gcd a b:Nat):=by
  intro x;rw [← Int.ofNat_tdiv,← Int.ofNat_tdiv,Nat.mul_div_mul_left _ _ hc]
 unfold newR;have c1:(decide (((c*a:Nat):Int)<0)||decide (((c*b:Nat):Int)<1))=false:=by
  have h1:¬ (((c*b:Nat):Int)<1):=Int.not_lt.2 (Int.ofNat_le.2 hcb);rw [decide_eq_false (Int.not_lt.2 (Int.natCast_nonneg _)),decide_eq_false h1];rfl
 have c2:(decide ((a:Int)<0)||decide ((b:Int)<1))=false:=by simp; omega
 rw [c1,c2,e1,e2,d a,d b]
theorem aif (num den k:Int) (hn:0≤num) (hd:1≤den) (hk:1≤k):newR (num.tdiv (jy num k)) (den*(k.tdiv (jy num k)))=newR num (den*k):=by
 obtain ⟨n,rfl⟩:=Int.eq_ofNat_of_zero_le hn;obtain ⟨d,rfl⟩:=Int.eq_ofNat_of_zero_le (show 0≤den by omega);obtain ⟨k,rfl⟩:=Int.eq_ofNat_of_zero_le (show 0≤k by omega);have hg:jy (n:Nat) (k:Nat)=(Nat.gcd n k:Nat):=by unfold jy; rw [Int.toNat_natCast,Int.toNat_natCast]
 rw [hg,← Int.ofNat_tdiv,← Int.ofNat_tdiv];have g0:0<Nat.gcd n k:=Nat.gcd_pos_of_pos_right n om;obtain ⟨a,ha⟩:=Nat.gcd_dvd_left n k;obtain ⟨b,hb⟩:=Nat.gcd_dvd_right n k;have e1:n / Nat.gcd n k=a:=by rw [Nat.div_eq_of_eq_mul_right g0 ha]
 have e2:k / Nat.gcd n k=b:=by rw [Nat.div_eq_of_eq_mul_right g0 hb]
 rw [e1,e2];have hb0:0<b:=by
  rcases Nat.eq_zero_or_pos b with h | h
  ·rw [h] at hb; simp at hb; omega
  ·exact h
 have:=TP (Nat.gcd n k) a (d*b) g0 (Nat.mul_pos om hb0);rw [← ha] at this;have e3:Nat.gcd n k*(d*b)=d*k:=by
  rw [Nat.mul_left_comm,← hb]
 rw [e3] at this;rw [← Int.natCast_mul,← Int.natCast_mul];exact this.symm
def t1 (r:bK) (k:Int):Int×Int:=bif decide ((144115188075855872:Int).tdiv (k.tdiv (jy k r.jv))<r.jS) then (-1,1) else (r.jS*(k.tdiv (jy k r.jv)),r.jv.tdiv (jy k r.jv))
def r9 (r:bK) (lo hi:Int):Bool:=nR r&&(decide (lo≤r.jS.tdiv r.jv)&&(decide (r.jS.tdiv r.jv<hi)||(r.jS.tdiv r.jv==hi&&r.jS.tmod r.jv==0)))
def Sb (c:ay):Bool:=decide (8<(c.aT.length:Int))||decide (8<(c.aK.length:Int))
def Ka (n:Int) (x:aX):Bool:=!dP x.eU 0 (n - 1)||!dP x.fJ 0 4000000000||!dP x.Low 0 x.fJ
def iT (c:ay):Bool:=
 bif c.fC==1 then ((c.aT.length:Int)==0)&&((c.aK.length:Int)==1)&&dP (c.aK.getD 0 0) 1 4000000000
 else bif c.fC==2||c.fC==3 then ((c.aT.length:Int)==1)&&decide (0<(c.aK.length:Int))&&yM 1 64 [] c.aK
 else bif c.fC==4 then decide (0<(c.aK.length:Int))&&yM 0 ((c.aT.length:Int) - 1) [] c.aK
 else bif c.fC==5 then ((c.aT.length:Int)==1)&&(c.aK==[0,1])
 else false
def lC (c:ay) (k:Int):Bool:=bif c.aT.any (λ y=>!dP y 0 (k - 1))||!dP c.fJ 0 4000000000||!dP c.Low 0 c.fJ then false else iT c
theorem amy (l:List Int) (hi:Int) (h:yM 0 hi [] l=true) (hl:0<l.length):0≤hi:=by
 cases l with
 | nil=>simp at hl
 | cons n l=>
  cases hw:dP n 0 hi with
  | true=>simp [dP] at hw; omega
  | false=>
   rw [Yp (by rw [hw]; rfl)] at h;cases h
def Qf (a b:Int):Int:=if b > a then b else a
def Sc (c:ay):Bool:=c.fC==2||c.fC==3
def mh (acc:List Int) (l:List Int):Int:=l.foldl (λ n p=>Qf n (acc.getD p.toNat 0)) 0
def Kc (acc:List Int) (c:ay):Int:=bif Sc c then mh acc c.aT+1 else mh acc c.aT
def iJ (l:List ay):List Int:=l.foldl (λ acc c=>acc++[Kc acc c]) []
theorem DI (l:List ay) (c:ay):iJ (l++[c])=iJ l++[Kc (iJ l) c]:=by
 unfold iJ;rw [List.foldl_append];rfl
def ahd (l:List ay):Prop:=∀i,i<l.length→(l.getD i aI).aT.length≤2000000∧∀p∈(l.getD i aI).aT,0≤p∧p<i
theorem Ke (acc:List Int) (b:Int) (hb0:0≤b) (hb:∀j:Nat,0≤acc.getD j 0∧acc.getD j 0≤b) (l:List Int):0≤mh acc l∧mh acc l≤b:=by
 have:∀(l:List Int) (n:Int),0≤n∧n≤b→0≤l.foldl (λ n p=>Qf n (acc.getD p.toNat 0)) n∧l.foldl (λ n p=>Qf n (acc.getD p.toNat 0)) n≤b:=by
  intro l;induction l with
  | nil=>exact λ n h=>h
  | cons p r ih=>
   intro n hn;refine ih _ ?_;show 0≤Qf n (acc.getD p.toNat 0)∧Qf n (acc.getD p.toNat 0)≤b;unfold Qf;have:=hb p.toNat;split<;>omega
 exact this l 0 om
theorem jZ (l:List ay):(iJ l).length=l.length∧∀j:Nat,0≤(iJ l).getD j 0∧(iJ l).getD j 0≤l.length:=by
 induction l using JO with
 | nil=>exact ⟨rfl,λ j=>by rw [Y6]; simp; exact Nat.zero_le _⟩
 | append_singleton l c ih=>
  obtain ⟨h1,h2⟩:=ih;rw [DI];have hb:=Ke (iJ l) l.length om h2 c.aT;have hf:0≤Kc (iJ l) c∧Kc (iJ l) c≤l.length+1:=by
   unfold Kc;cases Sc c<;>simp only [cond_true,cond_false]<;>omega
  refine ⟨by rw [List.length_append,List.length_append,h1]; rfl,λ j=>?_⟩;have hlen:((l++[c]).length:Int)=l.length+1:=by rw [List.length_append]; rfl
  rw [hlen];by_cases hj:j<l.length
  ·rw [mG 0 om];have:=h2 j;omega
  ·by_cases hj2:j=l.length
   ·rw [lM 0 om]; exact hf
   ·rw [Y6 0 (by rw [List.length_append,h1]; simp; omega)];omega
def Xw (a b:Int):Int:=if b<a then b else a
def mJ (l:List ay):Int:=l.foldl (λ p c=>Xw (p*c.aK.length) 1099511627776) 1
def aen (l:List ay):Bool:=(List.range l.length).all λ i=>lC (l.getD i aI) i
def eG (l:List ay):Int:=bif decide (16<(l.length:Int))||l.any Sb then 3 else bif !aen l then 1 else bif decide (4096<mJ l)||(iJ l).any (λ n=>decide (4<n)) then 3 else 0
variable {l:List ay}
theorem abj (h:∀i:Nat,i<l.length→lC (l.getD i aI) i=true):aen l=true:=by
 unfold aen;rw [List.all_eq_true];intro i hi;exact h i (List.mem_range.1 hi)
theorem aeo (h:aen l=true) (i:Nat) (hi:i<l.length):lC (l.getD i aI) i=true:=by
 unfold aen at h;rw [List.all_eq_true] at h;exact h i (List.mem_range.2 hi)
theorem Sd (hi:i<l.length) (h:lC (l.getD i aI) i=false):aen l=false:=by
 cases hv:aen l with
 | false=>rfl
 | true=>rw [aeo hv i hi] at h; cases h
theorem nS {l:List α} {p:α→Bool} (d:α) (h:l.any p=false) (i:Nat) (hi:i<l.length):p (l.getD i d)=false:=by
 rw [List.any_eq_false] at h;simpa using h _ (jC d hi)
theorem yO {l:List α} {p:α→Bool} (d:α) (hi:i<l.length) (h:p (l.getD i d)=true):l.any p=true:=List.any_eq_true.2 ⟨_,jC d hi,h⟩
theorem any_none {l:List α} {p:α→Bool} (d:α) (h:∀i,i<l.length→p (l.getD i d)=false):l.any p=false:=by
 rw [List.any_eq_false];intro x hx;obtain ⟨i,hi,rfl⟩:=List.mem_iff_getElem.1 hx;have:=h i hi;rw [List.getD_eq_getElem?_getD,List.getElem?_eq_getElem hi] at this;simpa using this
variable {c:ay}
theorem Oh (h:Sb c=false):c.aT.length≤8∧c.aK.length≤8:=by
 unfold Sb at h;simp at h;omega
theorem Oi (l:List ay):0≤mJ l∧mJ l≤1099511627776:=by
 unfold mJ;induction l using JO with
 | nil=>simp
 | append_singleton l c ih=>
  rw [List.foldl_append];show 0≤Xw (l.foldl _ 1*c.aK.length) 1099511627776∧Xw (l.foldl _ 1*c.aK.length) 1099511627776≤1099511627776;have:0≤l.foldl (λ p c=>Xw (p*(c:ay).aK.length) 1099511627776) 1*(c.aK.length:Int):=Int.mul_nonneg ih.1 om;generalize l.foldl (λ p c=>Xw (p*(c:ay).aK.length) 1099511627776) 1*(c.aK.length:Int)=q at this;unfold Xw;split<;>omega
theorem akC (l:List ay) (n:Int) (h:0≤n∧n≤8):0≤mJ l*n∧mJ l*n≤1099511627776*8:=by
 have hb:=Oi l;exact ⟨Int.mul_nonneg hb.1 h.1,Int.mul_le_mul hb.2 h.2 h.1 om⟩
theorem within_iff (n lo hi:Int):dP n lo hi=true↔lo≤n∧n≤hi:=by
 unfold dP;simp
variable {k:Int}
theorem Vn {j:Nat} (hj:j<c.aT.length) (h:dP (c.aT.getD j 0) 0 (k - 1)=false):lC c k=false:=by
 unfold lC;have:c.aT.any (λ y=>!dP y 0 (k - 1))=true:=yO 0 hj (by show (!dP (c.aT.getD j 0) 0 (k - 1))=true; rw [h]; rfl);rw [this];rfl
theorem aep (h:∀j,j<c.aT.length→dP (c.aT.getD j 0) 0 (k - 1)=true):lC c k=!(!iT c||decide (c.Low<0)||decide (c.fJ<c.Low)||decide (4000000000<c.fJ)):=by
 have e:c.aT.any (λ y=>!dP y 0 (k - 1))=false:=any_none 0 λ j hj=>by show (!dP (c.aT.getD j 0) 0 (k - 1))=false; rw [h j hj]; rfl
 unfold lC;rw [e];cases hc:iT c with
 | false=>cases (false||!dP c.fJ 0 4000000000||!dP c.Low 0 c.fJ)<;>rfl
 | true=>
  by_cases hg:(0≤c.Low∧c.Low≤c.fJ)∧c.fJ≤4000000000
  ·have h1:dP c.fJ 0 4000000000=true:=(within_iff _ _ _).2 om;have h2:dP c.Low 0 c.fJ=true:=(within_iff _ _ _).2 om;rw [h1,h2,decide_eq_false (show ¬ c.Low<0 by omega),decide_eq_false (show ¬ c.fJ<c.Low by omega),decide_eq_false (show ¬ 4000000000<c.fJ by omega)];rfl
  ·have h1:(false||!dP c.fJ 0 4000000000||!dP c.Low 0 c.fJ)=true:=by
    simp only [Bool.false_or,Bool.or_eq_true,Bool.not_eq_true',← Bool.not_eq_true,within_iff];omega
   have h2:(!true||decide (c.Low<0)||decide (c.fJ<c.Low)||decide (4000000000<c.fJ))=true:=by
    simp only [Bool.not_true,Bool.false_or,Bool.or_eq_true,decide_eq_true_eq];omega
   rw [h1,h2];rfl
theorem Kg (h:lC c k=true):∀p∈c.aT,0≤p∧p<k:=by
 intro p hp;unfold lC at h;cases ha:c.aT.any (λ y=>!dP y 0 (k - 1)) with
 | true=>rw [ha] at h; cases h
 | false=>
  rw [List.any_eq_false] at ha;have:=ha p hp;simp only [Bool.not_eq_true,Bool.not_eq_false'] at this;have:=(within_iff _ _ _).1 this;omega
theorem aer (h:∀i:Nat,i<l.length→lC (l.getD i aI) i=true) (hb:∀i:Nat,i<l.length→Sb (l.getD i aI)=false):ahd l:=λ i hi=>⟨by have:=Oh (hb i hi); omega,Kg (h i hi)⟩
theorem Vo (l:List ay) (k:Nat):∀j,j<k→j<l.length→(iJ l).getD j 0=(iJ (l.take k)).getD j 0:=by
 induction l using JO with
 | nil=>intro j _ hj; cases hj
 | append_singleton l c ih=>
  intro j hjk hj;have hlen:=(jZ l).1;by_cases hk:k≤l.length
  ·rw [List.take_append_of_le_length hk,DI,mG 0 om];exact ih j hjk om
  ·rw [List.take_of_length_le (l:=l++[c]) (by rw [List.length_append]; simp; omega)]
theorem Oj (h:iT c=true):1≤c.aK.length:=by
 cases hc:c.aK with
 | nil=>
  unfold iT at h;rw [hc] at h;cases h1:c.fC==1<;>cases h2:(c.fC==2||c.fC==3)<;>cases h3:c.fC==4<;>cases h4:c.fC==5<;>rw [h1,h2,h3,h4] at h<;>simp at h
 | cons x r=>simp
theorem lD (h:lC c k=true):iT c=true:=by
 unfold lC at h;cases hb:(c.aT.any (λ y=>!dP y 0 (k - 1))||!dP c.fJ 0 4000000000||!dP c.Low 0 c.fJ) with
 | true=>rw [hb] at h; cases h
 | false=>rw [hb] at h; exact h
theorem Sg (l:List ay) (c:ay):mJ (l++[c])=Xw (mJ l*c.aK.length) 1099511627776:=by
 unfold mJ;rw [List.foldl_append];rfl
theorem agb (l:List ay):(∀c∈l,1≤c.aK.length)→∀k,mJ (l.take k)≤mJ l:=by
 induction l using JO with
 | nil=>intro _ k; rw [List.take_nil]; exact Int.le_refl _
 | append_singleton l c ih=>
  intro h k;by_cases hk:k≤l.length
  ·rw [List.take_append_of_le_length hk,Sg];have h1:=ih (λ d hd=>h d (List.mem_append_left _ hd)) k;have hb:=Oi l;have hc:=h c (List.mem_append_right _ (List.mem_singleton.2 rfl));have:mJ l*1≤mJ l*c.aK.length:=Int.mul_le_mul_of_nonneg_left om hb.1;rw [Int.mul_one] at this;generalize mJ l*(c.aK.length:Int)=q at *;unfold Xw;split<;>omega
  ·rw [List.take_of_length_le (l:=l++[c]) (by rw [List.length_append]; simp; omega)];exact Int.le_refl _
def kg (l:List ay) (s:List Int):Bool:=((s.length:Int)==(l.length:Int))&&(List.range l.length).all λ i=>dP (s.getD i 0) 0 ((l.getD i aI).aK.length - 1)
variable {p:Nat→Bool}
theorem vv {n:Nat} (h:∀i,i<n→p i=true):(List.range n).all p=true:=by
 rw [List.all_eq_true];intro i hi;exact h i (List.mem_range.1 hi)
theorem acI {n:Nat} (h:(List.range n).all p=true) (hi:i<n):p i=true:=by
 rw [List.all_eq_true] at h;exact h i (List.mem_range.2 hi)
theorem tF {n:Nat} (hi:i<n) (h:p i=false):(List.range n).all p=false:=by
 cases hv:(List.range n).all p with
 | false=>rfl
 | true=>rw [acI hv hi] at h; cases h
def aas (l:List ay):Prop:=∀i:Nat,i<l.length→(l.getD i aI).aK.length≤2000000
def nK (l:List ay) (m:List aX):Bool:=(eG l==0)&&decide ((m.length:Int)≤32)&&!(m.any (Ka l.length))
theorem akD (n:Int) (x:aX):Ka n x=(decide (x.eU<0)||decide (n≤x.eU)||decide (x.Low<0)||decide (x.fJ<x.Low)||decide (4000000000<x.fJ)):=by
 unfold Ka;by_cases hg:(0≤x.eU∧x.eU≤n - 1)∧(0≤x.fJ∧x.fJ≤4000000000)∧(0≤x.Low∧x.Low≤x.fJ)
 ·rw [(within_iff _ _ _).2 hg.1,(within_iff _ _ _).2 hg.2.1,(within_iff _ _ _).2 hg.2.2,decide_eq_false (show ¬ x.eU<0 by omega),decide_eq_false (show ¬ n≤x.eU by omega),decide_eq_false (show ¬ x.Low<0 by omega),decide_eq_false (show ¬ x.fJ<x.Low by omega),decide_eq_false (show ¬ 4000000000<x.fJ by omega)];rfl
 ·have h1:(!dP x.eU 0 (n - 1)||!dP x.fJ 0 4000000000||!dP x.Low 0 x.fJ)=true:=by
   simp only [Bool.or_eq_true,Bool.not_eq_true',← Bool.not_eq_true,within_iff];omega
  have h2:(decide (x.eU<0)||decide (n≤x.eU)||decide (x.Low<0)||decide (x.fJ<x.Low)||decide (4000000000<x.fJ))=true:=by
   simp only [Bool.or_eq_true,decide_eq_true_eq];omega
  rw [h1,h2]
def Zk (c:ay) (k:Int):Prop:=(c.fC=1)∨(c.fC=4∧0≤k∧k<c.aK.length∧0≤c.aK.getD k.toNat 0∧c.aK.getD k.toNat 0<c.aT.length)∨(c.fC≠4∧0<c.aT.length)
def kJ (c:ay) (k:Int):Int:=bif c.fC==1 then -1 else bif c.fC==4 then c.aT.getD (c.aK.getD k.toNat 0).toNat 0 else c.aT.getD 0 0
def Qg:bK:=⟨0,1⟩
def oO (r:bK):Bool:=(r.jS==0)&&((r.jv==1)&&true)
def WZ (acc:List bK) (c:ay) (k:Int):bK:=
 bif decide (kJ c k<0) then ⟨c.aK.getD k.toNat 0,1⟩ else
 bif oO (acc.getD (kJ c k).toNat dW)||((c.fC==5)&&(c.aK.getD k.toNat 0==0)) then Qg else
 bif c.fC==2 then (Bn (acc.getD (kJ c k).toNat dW) (c.aK.getD k.toNat 0)).1 else
 bif c.fC==3 then (rJ (acc.getD (kJ c k).toNat dW) (c.aK.getD k.toNat 0)).1 else acc.getD (kJ c k).toNat dW
def rM (l:List ay) (s:List Int):Nat→List bK
 | 0=>[]
 | i+1=>rM l s i++[WZ (rM l s i) (l.getD i aI) (s.getD i 0)]
def gy (l:List ay) (s:List Int):List bK:=rM l s l.length
theorem tH (l:List ay) (s:List Int) (i:Nat):(rM l s i).length=i:=by
 induction i with
 | zero=>rfl
 | succ i ih=>simp [rM,ih]
structure Good (l:List ay) (s:List Int):Prop where
 small:l.length≤1000
 len:s.length=l.length
 aK:∀i,i<l.length→0≤s.getD i 0∧s.getD i 0<(l.getD i aI).aK.length
 pch:∀i,i<l.length→Zk (l.getD i aI) (s.getD i 0)
 aT:∀i,i<l.length→kJ (l.getD i aI) (s.getD i 0)<i
theorem abk:∀(l pre:List Int),yM lo hi pre l=true→∀x∈l,lo≤x∧x≤hi:=by
 intro l;induction l with
 | nil=>intro _ _ x hx; cases hx
 | cons n r ih=>
  intro pre h x hx;cases hb:(!(dP n lo hi)||pre.contains n) with
  | true=>rw [Yp hb] at h; cases h
  | false=>
   rw [acH hb] at h;rcases List.mem_cons.1 hx with rfl | hx
   ·rw [Bool.or_eq_false_iff] at hb;have:=hb.1;simp only [Bool.not_eq_false'] at this;exact (within_iff _ _ _).1 this
   ·exact ih _ h x hx
theorem tJ (h:iT c=true):
  (c.fC=1∧c.aT=[]∧c.aK.length=1∧1≤c.aK.getD 0 0∧c.aK.getD 0 0≤4000000000)∨((c.fC=2∨c.fC=3)∧c.aT.length=1∧0<c.aK.length∧∀x∈c.aK,1≤x∧x≤64)
  ∨ (c.fC=4∧0<c.aK.length∧∀x∈c.aK,0≤x∧x≤(c.aT.length:Int) - 1)∨(c.fC=5∧c.aT.length=1∧c.aK=[0,1]):=by
 unfold iT at h;cases h1:c.fC==1 with
 | true=>
  rw [h1] at h;simp only [cond_true,Bool.and_eq_true,within_iff] at h;obtain ⟨⟨h2,h3⟩,h4⟩:=h;left;have h2:c.aT.length=0:=by have:=eq_of_beq h2; omega
  exact ⟨eq_of_beq h1,List.length_eq_zero_iff.1 h2,by have:=eq_of_beq h3; omega,h4⟩
 | false=>
  rw [h1] at h;cases h2:(c.fC==2||c.fC==3) with
  | true=>
   rw [h2] at h;simp only [cond_true,cond_false,Bool.and_eq_true] at h;obtain ⟨⟨h3,h4⟩,h5⟩:=h;right; left;refine ⟨?_,by have:=eq_of_beq h3; omega,by have:=of_decide_eq_true h4; omega,abk _ _ h5⟩;rw [Bool.or_eq_true] at h2;exact h2.imp eq_of_beq eq_of_beq
  | false=>
   rw [h2] at h;cases h3:c.fC==4 with
   | true=>
    rw [h3] at h;simp only [cond_true,cond_false,Bool.and_eq_true] at h;right; right; left;exact ⟨eq_of_beq h3,by have:=of_decide_eq_true h.1; omega,abk _ _ h.2⟩
   | false=>
    rw [h3] at h;cases h4:c.fC==5 with
    | true=>
     rw [h4] at h;simp only [cond_true,cond_false,Bool.and_eq_true] at h;right; right; right;exact ⟨eq_of_beq h4,by have:=eq_of_beq h.1; omega,eq_of_beq h.2⟩
    | false=>rw [h4] at h; cases h
structure aat (l:List ay):Prop where
 len:l.length≤16
 big:∀i:Nat,i<l.length→(l.getD i aI).aT.length≤8∧(l.getD i aI).aK.length≤8
 valid:∀i:Nat,i<l.length→lC (l.getD i aI) i=true
 prod:mJ l≤4096
 iJ:∀i:Nat,i<l.length→(iJ l).getD i 0≤4
theorem qy (h:eG l=0):aat l:=by
 unfold eG at h;cases h1:(decide (16<(l.length:Int))||l.any Sb) with
 | true=>rw [h1] at h; cases h
 | false=>
  rw [h1] at h;cases h2:aen l with
  | false=>rw [h2] at h; cases h
  | true=>
   rw [h2] at h;cases h3:(decide (4096<mJ l)||(iJ l).any (λ n=>decide (4<n))) with
   | true=>rw [h3] at h; cases h
   | false=>
    rw [Bool.or_eq_false_iff] at h1 h3;refine ⟨by have:=of_decide_eq_false h1.1; omega,λ i hi=>Oh (nS aI h1.2 i hi),aeo h2,by have:=of_decide_eq_false h3.1; omega,λ i hi=>?_⟩;have:=nS 0 h3.2 i (by rw [(jZ l).1]; exact hi);have:=of_decide_eq_false this;omega
variable {s:List Int}
theorem Zl (h:kg l s=true):s.length=l.length∧∀i:Nat,i<l.length→0≤s.getD i 0∧s.getD i 0<(l.getD i aI).aK.length:=by
 unfold kg at h;rw [Bool.and_eq_true] at h;have hl:s.length=l.length:=by have:=eq_of_beq h.1; omega
 refine ⟨hl,λ i hi=>?_⟩;have:=h.2;rw [List.all_eq_true] at this;have:=this i (List.mem_range.2 om);have:=(within_iff _ _ _).1 this;omega
theorem aes (hv:lC c i=true) (hk:0≤k∧k<c.aK.length):Zk c k∧kJ c k<i:=by
 have hp:=Kg hv;unfold Zk kJ;rcases tJ (lD hv) with ⟨h1,h2,h3,h4⟩ | ⟨h1,h2,h3,h4⟩ | ⟨h1,h2,h3⟩ | ⟨h1,h2,h3⟩
 ·refine ⟨.inl h1,?_⟩;rw [h1];show (-1:Int)<i;omega
 ·have hn1:(c.fC==1)=false:=by rcases h1 with h1 | h1<;>rw [h1]<;>rfl
  have hn4:(c.fC==4)=false:=by rcases h1 with h1 | h1<;>rw [h1]<;>rfl
  refine ⟨.inr (.inr ⟨λ e=>(by rw [e] at hn4; cases hn4),om⟩),?_⟩;rw [hn1,hn4];exact (hp _ (jC 0 om)).2
 ·have hm:=h3 _ (jC 0 (i:=k.toNat) om);refine ⟨.inr (.inl ⟨h1,hk.1,hk.2,hm.1,om⟩),?_⟩;rw [h1];exact (hp _ (jC 0 (i:=(c.aK.getD k.toNat 0).toNat) om)).2
 ·refine ⟨.inr (.inr ⟨by rw [h1]; decide,om⟩),?_⟩;rw [h1];exact (hp _ (jC 0 (i:=0) om)).2
theorem PG (h:aat l) (hs:kg l s=true):Good l s:=by
 obtain ⟨h1,h2⟩:=Zl hs;exact ⟨by have:=h.len; omega,h1,h2,λ i hi=>(aes (h.valid i hi) (h2 i hi)).1,λ i hi=>(aes (h.valid i hi) (h2 i hi)).2⟩
def wB (l:List ay) (s:List Int):List bK×Int:=bif eG l != 0 then ([],eG l) else bif !kg l s then ([],1) else (gy l s,0)
def TQ (r:List bK) (x:aX):Bool:=oO (r.getD x.eU.toNat dW)||!r9 (r.getD x.eU.toNat dW) x.Low x.fJ
def agc (r:bK) (c:ay):Bool:=((!oO r)&&(c.fJ != 0))&&!r9 r c.Low c.fJ
def ownB (l:List ay) (r:List bK):Bool:=(List.range l.length).all λ i=>!agc (r.getD i dW) (l.getD i aI)
def gV (l:List ay) (s:List Int) (m:List aX):Bool:=(nK l m&&kg l s)&&(ownB l (gy l s)&&!m.any (TQ (gy l s)))
theorem Ol {m:List aX} (h:nK l m=true):eG l=0∧m.length≤32∧∀i,i<m.length→Ka l.length (m.getD i dK)=false:=by
 unfold nK at h;rw [Bool.and_eq_true,Bool.and_eq_true] at h;exact ⟨eq_of_beq h.1.1,by have:=of_decide_eq_true h.1.2; omega,λ i hi=>nS dK (by simpa using h.2) i hi⟩
theorem Om {n:Int} {x:aX} (h:Ka n x=false):(0≤x.eU∧x.eU<n)∧0≤x.Low∧x.Low≤x.fJ∧x.fJ≤4000000000:=by
 rw [akD] at h;simp only [Bool.or_eq_false_iff,decide_eq_false_iff_not] at h;omega
theorem W9 {l m:List α} (d:α) (h:l.length≤i):(l++m).getD i d=m.getD (i - l.length) d:=by
 rw [List.getD_eq_getElem?_getD,List.getElem?_append_right h,List.getD_eq_getElem?_getD]
def red (a b:Nat):bK:=⟨((a / Nat.gcd a b:Nat):Int),((b / Nat.gcd a b:Nat):Int)⟩
theorem PI (a b:Nat) (hb:0<b) (ha':a≤144115188075855872) (hb':b≤16777216):nR (red a b)=true:=by
 have g0:0<Nat.gcd a b:=Nat.gcd_pos_of_pos_right a hb;have h1:a / Nat.gcd a b≤a:=Nat.div_le_self _ _;have h2:b / Nat.gcd a b≤b:=Nat.div_le_self _ _;have h3:0<b / Nat.gcd a b:=Nat.div_pos (Nat.le_of_dvd hb (Nat.gcd_dvd_right _ _)) g0;have h4:Nat.gcd (a / Nat.gcd a b) (b / Nat.gcd a b)=1:=by
  rw [Nat.gcd_div (Nat.gcd_dvd_left _ _) (Nat.gcd_dvd_right _ _),Nat.div_self g0]
 unfold nR red jy;simp only [Int.toNat_natCast,h4];generalize a / Nat.gcd a b=n at *;generalize b / Nat.gcd a b=d at *;simp;omega
theorem aeu (a b:Nat) (hb:0<b) (ha':a≤144115188075855872) (hb':b≤16777216):newR a b=(red a b,0):=by
 have hv:=PI a b hb ha' hb';have e1:jy (a:Int) (b:Int)=(Nat.gcd a b:Nat):=by unfold jy; rw [Int.toNat_natCast,Int.toNat_natCast]
 have e2:(⟨(a:Int).tdiv (jy a b),(b:Int).tdiv (jy a b)⟩:bK)=red a b:=by
  rw [e1,← Int.ofNat_tdiv,← Int.ofNat_tdiv];rfl
 unfold newR;have c:(decide ((a:Int)<0)||decide ((b:Int)<1))=false:=by simp; omega
 rw [c,e2,hv];rfl
theorem abl (a b:Nat) (hb:0<b):∃g n d:Nat,0<g∧0<d∧g*n=a∧g*d=b∧red a b=⟨n,d⟩∧n≤a∧d≤b:=by
 have g0:0<Nat.gcd a b:=Nat.gcd_pos_of_pos_right a hb;refine ⟨Nat.gcd a b,a / Nat.gcd a b,b / Nat.gcd a b,g0,Nat.div_pos (Nat.le_of_dvd hb (Nat.gcd_dvd_right _ _)) g0,Nat.mul_div_cancel' (Nat.gcd_dvd_left _ _),Nat.mul_div_cancel' (Nat.gcd_dvd_right _ _),rfl,Nat.div_le_self _ _,Nat.div_le_self _ _⟩
theorem abm (h:1≤k∧k≤64):yN k=true:=by
 unfold yN;simp;omega
theorem aev (a b:Nat) (k:Int) (hb:0<b) (hk:1≤k∧k≤64) (ha':a≤144115188075855872) (hb':b*k.toNat≤16777216):Bn (red a b) k=(red a (b*k.toNat),0):=by
 have hbk:b≤b*k.toNat:=Nat.le_mul_of_pos_right _ om;have hv:=PI a b hb ha' om;unfold Bn;rw [hv,abm hk];simp only [Bool.not_true,cond_false];obtain ⟨g,n,d,g0,d0,e1,e2,e3,_,_⟩:=abl a b hb;rw [e3];have hkk:k=(k.toNat:Int):=by omega
 have hm:=TP g n (d*k.toNat) g0 (Nat.mul_pos d0 om);rw [e1,← Nat.mul_assoc,e2] at hm;show newR (n:Int) ((d:Int)*k)=_;rw [hkk,← Int.natCast_mul,← hm,Int.toNat_natCast];exact aeu a (b*k.toNat) om ha' hb'
theorem abn (a b:Nat) (k:Int) (hb:0<b) (hk:1≤k∧k≤64) (ha':a*k.toNat≤144115188075855872) (hb':b≤16777216):rJ (red a b) k=(red (a*k.toNat) b,0):=by
 have hak:a≤a*k.toNat:=Nat.le_mul_of_pos_right _ om;have hv:=PI a b hb om hb';unfold rJ;rw [hv,abm hk];simp only [Bool.not_true,cond_false];obtain ⟨g,n,d,g0,d0,e1,e2,e3,e4,e5⟩:=abl a b hb;rw [e3];obtain ⟨k,rfl⟩:=Int.eq_ofNat_of_zero_le (show 0≤k by omega);have hk0:0<k:=by omega
 have eg:jy ((k:Nat):Int) ((d:Nat):Int)=(Nat.gcd k d:Nat):=by unfold jy; rw [Int.toNat_natCast,Int.toNat_natCast]
 have q0:0<Nat.gcd k d:=Nat.gcd_pos_of_pos_left d hk0;have qk:Nat.gcd k d*(k / Nat.gcd k d)=k:=Nat.mul_div_cancel' (Nat.gcd_dvd_left _ _);have qd:Nat.gcd k d*(d / Nat.gcd k d)=d:=Nat.mul_div_cancel' (Nat.gcd_dvd_right _ _);have qk0:0<k / Nat.gcd k d:=Nat.div_pos (Nat.le_of_dvd hk0 (Nat.gcd_dvd_left _ _)) q0;have qd0:0<d / Nat.gcd k d:=Nat.div_pos (Nat.le_of_dvd d0 (Nat.gcd_dvd_right _ _)) q0;have qkk:k / Nat.gcd k d≤k:=Nat.div_le_self _ _;simp only [Int.toNat_natCast] at ha' ⊢;rw [eg,← Int.ofNat_tdiv,← Int.ofNat_tdiv];have hc:decide ((144115188075855872:Int).tdiv ((k / Nat.gcd k d:Nat):Int)<(n:Int))=false:=by
  apply decide_eq_false;have:n≤144115188075855872 / (k / Nat.gcd k d):=by
   rw [Nat.le_div_iff_mul_le qk0];exact Nat.le_trans (Nat.mul_le_mul e4 qkk) ha'
  have e:(144115188075855872:Int).tdiv ((k / Nat.gcd k d:Nat):Int)=((144115188075855872 / (k / Nat.gcd k d):Nat):Int):=by
   rw [Int.ofNat_tdiv];rfl
  rw [e];omega
 rw [hc];simp only [cond_false];rw [← Int.natCast_mul];have m1:=TP (Nat.gcd k d) (n*(k / Nat.gcd k d)) (d / Nat.gcd k d) q0 qd0;rw [Nat.mul_left_comm,qk,qd] at m1;have m2:=TP g (n*k) d g0 d0;rw [← Nat.mul_assoc,e1,e2] at m2;rw [← m1,← m2];exact aeu (a*k) b hb ha' hb'
theorem amA (a:Nat):red a 1=⟨a,1⟩:=by
 unfold red;rw [Nat.gcd_one_right,Nat.div_one,Nat.div_one];rfl
theorem amB (a b:Nat) (ha:0<a):0<(red a b).jS:=by
 have:0<a / Nat.gcd a b:=Nat.div_pos (Nat.le_of_dvd ha (Nat.gcd_dvd_left _ _)) (Nat.gcd_pos_of_pos_left b ha);show (0:Int)<((a / Nat.gcd a b:Nat):Int);omega
theorem akE (a b:Nat) (ha:0<a):oO (red a b)=false:=by
 have:=amB a b ha;unfold oO;have:((red a b).jS==0)=false:=by
  rw [← Bool.not_eq_true];intro e;have:=eq_of_beq e;omega
 rw [this];rfl
theorem aii (k:Int) (hk:1≤k∧k≤64):rJ Qg k=(Qg,0):=by
 have h:=abn 0 1 k (by decide) hk (by simp) (by decide);rw [Nat.zero_mul] at h;exact h
theorem akF (k:Int) (hk:1≤k∧k≤64):Bn Qg k=(Qg,0):=by
 have h:=aev 0 1 k (by decide) hk (by decide) om;have e:red 0 (1*k.toNat)=Qg:=by
  unfold red Qg;rw [Nat.gcd_zero_left,Nat.zero_div,Nat.one_mul,Nat.div_self om];rfl
 rw [e] at h;exact h
theorem Si (l:List ay) (s:List Int) (n j:Nat) (h:j<n):(rM l s n).getD j dW=WZ (rM l s j) (l.getD j aI) (s.getD j 0):=by
 induction n with
 | zero=>omega
 | succ n ih=>
  rw [rM];by_cases hj:j<n
  ·rw [mG _ (by rw [tH]; exact hj)];exact ih hj
  ·have:j=n:=by omega
   subst this;rw [lM _ (tH l s j).symm]
theorem aij {acc acc':List bK} (h:0≤kJ c k→acc.getD (kJ c k).toNat dW=acc'.getD (kJ c k).toNat dW):WZ acc c k=WZ acc' c k:=by
 unfold WZ;by_cases hp:kJ c k<0
 ·rw [decide_eq_true hp]; rfl
 ·rw [h om]
theorem aik (h:Good l s) (j:Nat) (hj:j<l.length):(gy l s).getD j dW=WZ (gy l s) (l.getD j aI) (s.getD j 0):=by
 unfold gy;rw [Si l s l.length j hj];refine aij λ h0=>?_;have:=h.aT j hj;rw [Si l s l.length _ om,Si l s j _ om]
theorem ail (acc:List Int) (l:List Int) (p:Int) (hp:p∈l):acc.getD p.toNat 0≤mh acc l:=by
 have mono:∀(l:List Int) (n:Int),n≤l.foldl (λ n p=>Qf n (acc.getD p.toNat 0)) n:=by
  intro l;induction l with
  | nil=>intro n; exact Int.le_refl _
  | cons q r ih=>
   intro n;have:=ih (Qf n (acc.getD q.toNat 0));have h2:n≤Qf n (acc.getD q.toNat 0):=by unfold Qf; split<;>omega
   exact Int.le_trans h2 this
 have key:∀(l:List Int) (n:Int),p∈l→acc.getD p.toNat 0≤l.foldl (λ n p=>Qf n (acc.getD p.toNat 0)) n:=by
  intro l;induction l with
  | nil=>intro n h; cases h
  | cons q r ih=>
   intro n h;rcases List.mem_cons.1 h with rfl | h
   ·have:=mono r (Qf n (acc.getD p.toNat 0));have h2:acc.getD p.toNat 0≤Qf n (acc.getD p.toNat 0):=by unfold Qf; split<;>omega
    exact Int.le_trans h2 this
   ·exact ih _ h
 exact key l 0 hp
theorem amC (hp:ahd l) (j:Nat) (hj:j<l.length):∀p∈(l.getD j aI).aT,(iJ l).getD p.toNat 0+(bif Sc (l.getD j aI) then 1 else 0)≤(iJ l).getD j 0:=by
 intro p hpm;have hpj:=(hp j hj).2 p hpm;have e1:(iJ l).getD j 0=Kc (iJ (l.take j)) (l.getD j aI):=by
  rw [Vo l (j+1) j om hj,iK aI hj,DI,lM _ (by rw [(jZ _).1,take_len om])]
 have e2:(iJ l).getD p.toNat 0=(iJ (l.take j)).getD p.toNat 0:=Vo l j p.toNat om om;have:=ail (iJ (l.take j)) (l.getD j aI).aT p hpm;rw [e1,e2];unfold Kc;cases Sc (l.getD j aI)<;>simp only [cond_true,cond_false]<;>omega
structure Xx (F a b:Nat) (f:Int):Prop where
 a0:0<a
 b0:0<b
 f0:0≤f
 al:a≤F*64 ^ f.toNat
 bl:b≤64 ^ f.toNat
variable {f:Int}
theorem amD (h:f≤4):64 ^ f.toNat≤16777216:=by
 have:f.toNat≤4:=by omega
 calc 64 ^ f.toNat≤64 ^ 4:=Nat.pow_le_pow_right (by decide) this
  _=16777216:=by decide
variable {F:Nat} {a:Nat} {b:Nat}
theorem Xx.mono {g:Int} (h:Xx F a b f) (hfg:f≤g):Xx F a b g:=by
 have hf:=h.f0;have:64 ^ f.toNat≤64 ^ g.toNat:=Nat.pow_le_pow_right (by decide) om;exact ⟨h.a0,h.b0,om,Nat.le_trans h.al (Nat.mul_le_mul_left _ this),Nat.le_trans h.bl this⟩
theorem Xx.times {g:Int} (h:Xx F a b f) (hfg:f+1≤g) {k:Nat} (hk:1≤k∧k≤64):Xx F (a*k) b g:=by
 have hf:=h.f0;have:64 ^ f.toNat*64≤64 ^ g.toNat:=by
  rw [← Nat.pow_succ];exact Nat.pow_le_pow_right (by decide) om
 refine ⟨Nat.mul_pos h.a0 om,h.b0,om,?_,?_⟩
 ·calc a*k≤(F*64 ^ f.toNat)*64:=Nat.mul_le_mul h.al hk.2
   _=F*(64 ^ f.toNat*64):=Nat.mul_assoc _ _ _
   _≤F*64 ^ g.toNat:=Nat.mul_le_mul_left _ this
 ·exact Nat.le_trans h.bl (Nat.le_trans (Nat.le_mul_of_pos_right _ (by decide)) this)
theorem Xx.over {g:Int} (h:Xx F a b f) (hfg:f+1≤g) {k:Nat} (hk:1≤k∧k≤64):Xx F a (b*k) g:=by
 have hf:=h.f0;have h1:64 ^ f.toNat*64≤64 ^ g.toNat:=by
  rw [← Nat.pow_succ];exact Nat.pow_le_pow_right (by decide) om
 have h2:64 ^ f.toNat≤64 ^ g.toNat:=Nat.pow_le_pow_right (by decide) om;exact ⟨h.a0,Nat.mul_pos h.b0 om,om,Nat.le_trans h.al (Nat.mul_le_mul_left _ h2),Nat.le_trans (Nat.mul_le_mul h.bl hk.2) h1⟩
theorem Xx.small (h:Xx F a b f) (hf:f≤4) (hF:F≤4294967296):a≤F*16777216∧a≤144115188075855872∧b≤16777216:=by
 have hp:=amD hf;have h1:=Nat.le_trans h.al (Nat.mul_le_mul_left F hp);exact ⟨h1,Nat.le_trans h1 (Nat.le_trans (Nat.mul_le_mul_right 16777216 hF) (by decide)),Nat.le_trans h.bl hp⟩
def JD (c:ay) (k:Int):Int:=c.aK.getD k.toNat 0
def upR (acc:List bK) (c:ay) (k:Int):bK:=acc.getD (kJ c k).toNat dW
structure Step (c:ay) (i:Nat) (k:Int):Prop where
 p0:0≤kJ c k
 pi:kJ c k<i
 mem:kJ c k∈c.aT
 n1:c.fC≠1
theorem acJ (hv:lC c i=true) (hk:0≤k∧k<c.aK.length) (hn:c.fC≠1):Step c i k:=by
 have hp:=Kg hv;have key:kJ c k∈c.aT:=by
  unfold kJ;rcases tJ (lD hv) with ⟨h1,h2,h3,h4⟩ | ⟨h1,h2,h3,h4⟩ | ⟨h1,h2,h3⟩ | ⟨h1,h2,h3⟩
  ·exact absurd h1 hn
  ·have hn1:(c.fC==1)=false:=by rcases h1 with h1 | h1<;>rw [h1]<;>rfl
   have hn4:(c.fC==4)=false:=by rcases h1 with h1 | h1<;>rw [h1]<;>rfl
   rw [hn1,hn4];exact jC 0 om
  ·have hm:=h3 _ (jC 0 (i:=k.toNat) om);rw [h1];exact jC 0 (i:=(c.aK.getD k.toNat 0).toNat) om
  ·rw [h1];exact jC 0 (i:=0) om
 have:=hp _ key;exact ⟨this.1,this.2,key,hn⟩
theorem amE (hv:lC c i=true) (hk:0≤k∧k<c.aK.length) (h:c.fC=1) (acc:List bK):JD c k=c.aK.getD 0 0∧1≤JD c k∧JD c k≤4000000000∧WZ acc c k=⟨JD c k,1⟩∧kJ c k = -1:=by
 rcases tJ (lD hv) with ⟨h1,h2,h3,h4⟩ | ⟨h1,h2,h3,h4⟩ | ⟨h1,h2,h3⟩ | ⟨h1,h2,h3⟩
 ·have e:JD c k=c.aK.getD 0 0:=by unfold JD; rw [show k.toNat=0 by omega]
  have hp:kJ c k = -1:=by unfold kJ; rw [h]; rfl
  refine ⟨e,om,om,?_,hp⟩;unfold WZ;rw [hp];rfl
 ·rcases h1 with h1 | h1<;>omega
 ·omega
 ·omega
theorem aew (hv:lC c i=true) (hk:0≤k∧k<c.aK.length) (hn:c.fC≠1) (acc:List bK):
  ((oO (upR acc c k)=true∨(c.fC=5∧JD c k=0))∧WZ acc c k=Qg)∨
  (oO (upR acc c k)=false∧((c.fC=2∧Sc c=true∧(1≤JD c k∧JD c k≤64)∧WZ acc c k=(Bn (upR acc c k) (JD c k)).1)∨
    (c.fC=3∧Sc c=true∧(1≤JD c k∧JD c k≤64)∧WZ acc c k=(rJ (upR acc c k) (JD c k)).1)∨
    ((c.fC=4∨(c.fC=5∧JD c k=1))∧Sc c=false∧WZ acc c k=upR acc c k))):=by
 have hs:=acJ hv hk hn;have hp:decide (kJ c k<0)=false:=decide_eq_false (by have:=hs.p0; omega);have e0:WZ acc c k=bif oO (upR acc c k)||((c.fC==5)&&(JD c k==0)) then Qg else bif c.fC==2 then (Bn (upR acc c k) (JD c k)).1 else bif c.fC==3 then (rJ (upR acc c k) (JD c k)).1 else upR acc c k:=by
  unfold WZ;rw [hp];rfl
 have hmem:JD c k∈c.aK:=jC 0 om;cases ho:oO (upR acc c k) with
 | true=>left; exact ⟨.inl rfl,by rw [e0,ho]; rfl⟩
 | false=>
  rw [ho] at e0;rcases tJ (lD hv) with ⟨h1,h2,h3,h4⟩ | ⟨h1,h2,h3,h4⟩ | ⟨h1,h2,h3⟩ | ⟨h1,h2,h3⟩
  ·exact absurd h1 hn
  ·right;refine ⟨rfl,?_⟩;rcases h1 with h1 | h1
   ·left;refine ⟨h1,by unfold Sc; rw [h1]; rfl,h4 _ hmem,?_⟩;rw [e0,h1];rfl
   ·right; left;refine ⟨h1,by unfold Sc; rw [h1]; rfl,h4 _ hmem,?_⟩;rw [e0,h1];rfl
  ·right;refine ⟨rfl,.inr (.inr ⟨.inl h1,by unfold Sc; rw [h1]; rfl,?_⟩)⟩;rw [e0,h1];rfl
  ·rw [h3] at hmem;by_cases hc:JD c k=0
   ·left;refine ⟨.inr ⟨h1,hc⟩,?_⟩;rw [e0,h1,hc];rfl
   ·have hc1:JD c k=1:=by simp at hmem; omega
    right;refine ⟨rfl,.inr (.inr ⟨.inr ⟨h1,hc1⟩,by unfold Sc; rw [h1]; rfl,?_⟩)⟩;rw [e0,h1,hc1];rfl
theorem agd (h:aat l):ahd l:=λ i hi=>⟨by have:=(h.big i hi).1; omega,Kg (h.valid i hi)⟩
def st1 (acc:List bK) (on:List Bool) (c:ay) (k:Int):bK×Bool:=
 bif c.fC==1 then (⟨c.aK.getD k.toNat 0,1⟩,true) else
 bif c.fC==2 then ((Bn (acc.getD (kJ c k).toNat dW) (c.aK.getD k.toNat 0)).1,on.getD (kJ c k).toNat false) else
 bif c.fC==3 then ((rJ (acc.getD (kJ c k).toNat dW) (c.aK.getD k.toNat 0)).1,on.getD (kJ c k).toNat false) else
 bif (c.fC==5)&&(c.aK.getD k.toNat 0==0) then (Qg,false) else (acc.getD (kJ c k).toNat dW,on.getD (kJ c k).toNat false)
def Vp (l:List ay) (s:List Int):Nat→List bK×List Bool
 | 0=>([],[])
 | i+1=>((Vp l s i).1++[(st1 (Vp l s i).1 (Vp l s i).2 (l.getD i aI) (s.getD i 0)).1],(Vp l s i).2++[(st1 (Vp l s i).1 (Vp l s i).2 (l.getD i aI) (s.getD i 0)).2])
def Ro (l:List ay) (s:List Int):List bK×List Bool:=Vp l s l.length
theorem PK (l:List ay) (s:List Int) (i:Nat):(Vp l s i).1.length=i∧(Vp l s i).2.length=i:=by
 induction i with
 | zero=>exact ⟨rfl,rfl⟩
 | succ i ih=>simp [Vp,ih]
def Up (l:List ay) (s:List Int):Prop:=∀i:Nat,i<l.length→(l.getD i aI).fC≠1→0≤kJ (l.getD i aI) (s.getD i 0)
theorem akG (h:aat l) (hs:kg l s=true):Up l s:=by
 obtain ⟨_,h2⟩:=Zl hs;exact λ i hi hk=>(acJ (h.valid i hi) (h2 i hi) hk).p0
theorem acK (l:List ay) (s:List Int) (n j:Nat) (h:j<n):(Vp l s n).1.getD j dW=(st1 (Vp l s j).1 (Vp l s j).2 (l.getD j aI) (s.getD j 0)).1∧(Vp l s n).2.getD j false=(st1 (Vp l s j).1 (Vp l s j).2 (l.getD j aI) (s.getD j 0)).2:=by
 induction n with
 | zero=>omega
 | succ n ih=>
  rw [Vp];have hl:=PK l s n;by_cases hj:j<n
  ·rw [mG _ om,mG _ om];exact ih hj
  ·have:j=n:=by omega
   subst this;rw [lM _ hl.1.symm,lM _ hl.2.symm];exact ⟨rfl,rfl⟩
theorem ain {acc acc':List bK} {on on':List Bool} (h:c.fC≠1→acc.getD (kJ c k).toNat dW=acc'.getD (kJ c k).toNat dW∧on.getD (kJ c k).toNat false=on'.getD (kJ c k).toNat false):st1 acc on c k=st1 acc' on' c k:=by
 unfold st1;cases hk:c.fC==1 with
 | true=>rfl
 | false=>
  obtain ⟨h1,h2⟩:=h (λ e=>by rw [e] at hk; cases hk);rw [h1,h2]
theorem apd (h:Good l s) (hu:Up l s) (j:Nat) (hj:j<l.length):((Ro l s).1.getD j dW,(Ro l s).2.getD j false)=st1 (Ro l s).1 (Ro l s).2 (l.getD j aI) (s.getD j 0):=by
 unfold Ro;obtain ⟨e1,e2⟩:=acK l s l.length j hj;rw [e1,e2];show st1 _ _ _ _=_;refine ain λ hk=>?_;have h1:=h.aT j hj;have h2:=hu j hj hk;obtain ⟨a1,a2⟩:=acK l s l.length (kJ (l.getD j aI) (s.getD j 0)).toNat om;obtain ⟨b1,b2⟩:=acK l s j (kJ (l.getD j aI) (s.getD j 0)).toNat om;exact ⟨b1.trans a1.symm,b2.trans a2.symm⟩
theorem akH (hn:c.fC≠1) (acc:List bK) (on:List Bool) (k:Int):
  (c.fC=2→st1 acc on c k=((Bn (upR acc c k) (JD c k)).1,on.getD (kJ c k).toNat false))∧
  (c.fC=3→st1 acc on c k=((rJ (upR acc c k) (JD c k)).1,on.getD (kJ c k).toNat false))∧
  (c.fC=5→JD c k=0→st1 acc on c k=(Qg,false))∧
  ((c.fC=4∨(c.fC=5∧JD c k=1))→st1 acc on c k=(upR acc c k,on.getD (kJ c k).toNat false)):=by
 have hk:(c.fC==1)=false:=by
  cases h:c.fC==1 with
  | false=>rfl
  | true=>exact absurd (eq_of_beq h) hn
 refine ⟨λ h=>?_,λ h=>?_,λ h h0=>?_,λ h=>?_⟩
 ·unfold st1; rw [h]; rfl
 ·unfold st1; rw [h]; rfl
 ·unfold st1; rw [show c.aK.getD k.toNat 0=JD c k from rfl,h,h0]; rfl
 ·rcases h with h | ⟨h,h1⟩
  ·unfold st1; rw [h]; rfl
  ·unfold st1; rw [show c.aK.getD k.toNat 0=JD c k from rfl,h,h1]; rfl
theorem akI (hv:lC c i=true) (hk:0≤k∧k<c.aK.length) (hn:c.fC≠1):(c.fC=2∧1≤JD c k∧JD c k≤64)∨(c.fC=3∧1≤JD c k∧JD c k≤64)∨c.fC=4∨(c.fC=5∧JD c k=k∧(k=0∨k=1)):=by
 have hmem:JD c k∈c.aK:=jC 0 om;rcases tJ (lD hv) with ⟨h1,h2,h3,h4⟩ | ⟨h1,h2,h3,h4⟩ | ⟨h1,h2,h3⟩ | ⟨h1,h2,h3⟩
 ·exact absurd h1 hn
 ·rcases h1 with h1 | h1
  ·exact .inl ⟨h1,h4 _ hmem⟩
  ·exact .inr (.inl ⟨h1,h4 _ hmem⟩)
 ·exact .inr (.inr (.inl h1))
 ·rw [h3] at hk;have hk2:k=0∨k=1:=by simp at hk; omega
  refine .inr (.inr (.inr ⟨h1,?_,hk2⟩));unfold JD;rw [h3];rcases hk2 with rfl | rfl<;>rfl
theorem akJ (l:List ay):∀j:Nat,0≤(iJ l).getD j 0:=λ j=>((jZ l).2 j).1
theorem akK (hf:aat l) (hs:kg l s=true):∀j,j<l.length→
  ((gy l s).getD j dW=Qg∧(Ro l s).1.getD j dW=Qg∧(Ro l s).2.getD j false=false)∨
  ∃a b,Xx 4000000000 a b ((iJ l).getD j 0)∧(gy l s).getD j dW=red a b∧(Ro l s).1.getD j dW=red a b∧(Ro l s).2.getD j false=true:=by
 have hg:=PG hf hs;have hu:=akG hf hs;obtain ⟨_,hset⟩:=Zl hs;have auM:=λ j hj=>amC (agd hf) j hj;have hfb:=akJ l;generalize hA:gy l s=A;generalize hB:Ro l s=B;intro j;induction j using Nat.strongRecOn with
 | ind j ih=>
  intro hj;have eA:=aik hg j hj;have eB:=apd hg hu j hj;rw [hA] at eA;rw [hB] at eB;have hv:=hf.valid j hj;have hk:=hset j hj;have hfj:=hf.iJ j hj;have aqQ:=auM j hj;generalize l.getD j aI=c at *;generalize s.getD j 0=k at *;by_cases hk1:c.fC=1
  ·right;obtain ⟨e1,e2,e3,e4,_⟩:=amE hv hk hk1 A;have eB1:st1 B.1 B.2 c k=(⟨JD c k,1⟩,true):=by unfold st1; rw [hk1]; rfl
   rw [eB1] at eB;have hb:=hfb j;have er:(⟨JD c k,1⟩:bK)=red (JD c k).toNat 1:=by
    rw [amA];congr 1;omega
   refine ⟨(JD c k).toNat,1,⟨om,by decide,om,?_,Nat.pow_pos (by decide)⟩,?_,?_,?_⟩
   ·exact Nat.le_trans (show (JD c k).toNat≤4000000000 by omega) (Nat.le_mul_of_pos_right _ (Nat.pow_pos (by decide)))
   ·rw [eA,e4,er]
   ·rw [← er]; exact congrArg Prod.fst eB
   ·exact congrArg Prod.snd eB
  ·have hst:=acJ hv hk hk1;have hpl:(kJ c k).toNat<l.length:=by have:=hst.p0; have:=hst.pi; omega
   have hpf:=aqQ _ hst.mem;have ihp:=ih (kJ c k).toNat (by have:=hst.p0; have:=hst.pi; omega) hpl;have uA:A.getD (kJ c k).toNat dW=upR A c k:=rfl;have uB:B.1.getD (kJ c k).toNat dW=upR B.1 c k:=rfl;rw [uA,uB] at ihp;obtain ⟨q2,q3,q50,q4⟩:=akH hk1 B.1 B.2 k;have hn:∀n:Int,1≤n∧n≤64→1≤n.toNat∧n.toNat≤64:=λ n hn=>by omega
   rcases ihp with ⟨i1,i2,i3⟩ | ⟨a,b,i0,i1,i2,i3⟩
   ·left;have hA0:WZ A c k=Qg:=by
     rcases aew hv hk hk1 A with ⟨_,q⟩ | ⟨q,_⟩
     ·exact q
     ·rw [i1] at q; cases q
    rw [i2,i3] at q2 q3 q4;have hB0:st1 B.1 B.2 c k=(Qg,false):=by
     rcases akI hv hk hk1 with ⟨h,h1⟩ | ⟨h,h1⟩ | h | ⟨h,h1,h2⟩
     ·rw [q2 h,akF _ h1]
     ·rw [q3 h,aii _ h1]
     ·exact q4 (.inl h)
     ·rcases h2 with h2 | h2
      ·exact q50 h om
      ·exact q4 (.inr ⟨h,om⟩)
    rw [hB0] at eB;exact ⟨by rw [eA,hA0],congrArg Prod.fst eB,congrArg Prod.snd eB⟩
   ·have oA:oO (upR A c k)=false:=by rw [i1]; exact akE a b i0.a0
    rw [i2,i3] at q2 q3 q4;rcases aew hv hk hk1 A with ⟨q0,q⟩ | ⟨_,q⟩
    ·left;rw [oA] at q0;rcases q0 with q0 | ⟨q0,q1⟩
     ·cases q0
     ·rw [q50 q0 q1] at eB;exact ⟨by rw [eA,q],congrArg Prod.fst eB,congrArg Prod.snd eB⟩
    ·right;rcases q with ⟨r1,r2,r3,r4⟩ | ⟨r1,r2,r3,r4⟩ | ⟨r1,r2,r3⟩
     ·rw [r2] at hpf;have hnew:=i0.over hpf (hn _ r3);have hs2:=hnew.small hfj (by decide);have eo:=aev a b _ i0.b0 r3 hs2.2.1 hs2.2.2;rw [q2 r1,eo] at eB;exact ⟨a,b*(JD c k).toNat,hnew,by rw [eA,r4,i1,eo],congrArg Prod.fst eB,congrArg Prod.snd eB⟩
     ·rw [r2] at hpf;have hnew:=i0.times hpf (hn _ r3);have hs2:=hnew.small hfj (by decide);have eo:=abn a b _ i0.b0 r3 hs2.2.1 hs2.2.2;rw [q3 r1,eo] at eB;exact ⟨a*(JD c k).toNat,b,hnew,by rw [eA,r4,i1,eo],congrArg Prod.fst eB,congrArg Prod.snd eB⟩
     ·rw [r2] at hpf;rw [q4 r1] at eB;exact ⟨a,b,i0.mono (by simpa using hpf),by rw [eA,r3,i1],congrArg Prod.fst eB,congrArg Prod.snd eB⟩
theorem Kh (hf:aat l) (hs:kg l s=true) (j:Nat) (hj:j<l.length):(Ro l s).1.getD j dW=(gy l s).getD j dW∧(Ro l s).2.getD j false=!oO ((gy l s).getD j dW)∧nR ((gy l s).getD j dW)=true∧(oO ((gy l s).getD j dW)=true→(gy l s).getD j dW=Qg):=by
 rcases akK hf hs j hj with ⟨h1,h2,h3⟩ | ⟨a,b,h0,h1,h2,h3⟩
 ·rw [h1,h2,h3];exact ⟨rfl,rfl,by decide,λ _=>rfl⟩
 ·have hs2:=h0.small (hf.iJ j hj) (by decide);rw [h1,h2,h3,akE a b h0.a0];exact ⟨rfl,rfl,PI a b h0.b0 hs2.2.1 hs2.2.2,nofun⟩
theorem TR {l m:List α} (d:α) (h:l.length=m.length) (he:∀i,i<l.length→l.getD i d=m.getD i d):l=m:=by
 apply List.ext_getElem h;intro i h1 h2;have:=he i h1;rw [List.getD_eq_getElem?_getD,List.getD_eq_getElem?_getD,List.getElem?_eq_getElem h1,List.getElem?_eq_getElem h2] at this;simpa using this
theorem j4 (n lo hi:Int):jW n lo hi (dP n lo hi):=rfl
theorem acL (hl:l.length≤2000000):lN l (l.any Sb):=
 I6 (Oc (p:=GJ) (P:=Sb) (λ _ _=>rfl) om) (oM _ _)
theorem Xy {p a:Int} (ha : -2000000≤a∧a≤2000000):z8 p a (!dP p 0 (a - 1)):=
 lY (aQ (by unfold aD; omega) (aG (zJ (j4 _ _ _)) λ v hv=>by subst hv; exact au rfl))
theorem acM {l:List Int} {a:Int} (ha : -2000000≤a∧a≤2000000) (hl:l.length≤2000000):oC l a (l.any λ y=>!dP y 0 (a - 1)):=
 I6 (Oc (p:=λ x=>z8 x a) (P:=λ y=>!dP y 0 (a - 1)) (λ _ _=>Xy ha) om) (oM _ _)
theorem Zm {l:List Int} {v:Int} (hl:l.length≤2000000):slices_Contains_int l v (l.contains v):=by
 refine I6 (akk (P:=λ x=>v==x) om) ?_;rw [oM];exact (List.contains_eq_any_beq).symm
theorem yP {l:List Int} (hl:l.length≤2000000):nu l lo hi (yM lo hi [] l):=by
 refine lY (akl l.length (λ i=>yM lo hi (l.take i) (l.drop i)=yM lo hi [] l) ?_ rfl);intro self i hi1 hi2 ih;refine bW ?_ ?_<;>intro c
 ·have c:=of_decide_eq_true c;have hlt:i<l.length:=by omega
  rw [drop_cons 0 hlt] at hi2;refine aQ om ?_;refine aG (zJ (j4 _ _ _)) λ v hv=>?_;subst hv;refine aQ (λ _=>by omega) ?_;refine aG (gN λ _=>Zm (by simp; omega)) λ v hv=>?_;subst hv;refine bW ?_ ?_<;>intro c2
  ·refine au ?_;rw [← hi2,Yp (pre:=l.take i) (n:=l.getD i 0) c2]
  ·refine aQ (by unfold aD; omega) (ih hlt ?_);rw [← hi2,acH (pre:=l.take i) (n:=l.getD i 0) c2,iK 0 hlt]
 ·have c:=of_decide_eq_false c;refine au ?_;rw [← hi2,List.drop_eq_nil_of_le om];rfl
theorem Sj {a b:List Int} (hl:a.length≤2000000):slices_Equal_int a b (a==b):=by
 refine lY (bW (λ c=>?_) (λ c=>?_))
 ·refine au ?_;have:a≠b:=λ h=>by subst h; simp at c
  exact (beq_eq_false_iff_ne.2 this).symm
 ·have hlen:a.length=b.length:=by simp at c; omega
  refine akl a.length (λ i=>(a==b)=(a.drop i==b.drop i)) ?_ rfl;intro self i hi1 hi2 ih;refine bW ?_ ?_<;>intro c
  ·have c:=of_decide_eq_true c;have hlt:i<a.length:=by omega
   rw [drop_cons 0 hlt,drop_cons 0 (show i<b.length by omega)] at hi2;refine aQ om (aQ om ?_);refine bW ?_ ?_<;>intro c2
   ·refine au ?_;rw [hi2];simp at c2;simp [c2]
   ·refine aQ (by unfold aD; omega) (ih hlt ?_);rw [hi2];simp at c2;simp [c2]
  ·have c:=of_decide_eq_false c;refine au ?_;rw [hi2,List.drop_eq_nil_of_le om,List.drop_eq_nil_of_le om];rfl
theorem aau (hk : -2000000≤k∧k≤2000000) (hp:c.aT.length≤2000000) (hc:c.aK.length≤2000000):MV c k (lC c k):=by
 refine lY ?_;refine aG (zJ (acM hk hp)) λ v1 hv=>?_;subst hv;refine aG (gN λ _=>j4 c.fJ 0 4000000000) λ v hv=>?_;subst hv;refine aG (gN λ _=>j4 c.Low 0 c.fJ) λ v hv=>?_;subst hv;refine bW ?_ ?_<;>intro h
 ·refine au ?_;unfold lC;rw [h];rfl
 ·have hv:lC c k=iT c:=by unfold lC; rw [h]; rfl
  rw [hv];refine bW ?_ ?_<;>intro k1
  ·refine aQ (λ h=>by simp at h; omega) ?_;refine aG (gN λ _=>j4 (c.aK.getD 0 0) 1 4000000000) λ v hv=>?_;subst hv;refine au ?_;unfold iT;rw [k1];rfl
  ·refine bW ?_ ?_<;>intro k2
   ·rw [k2];refine aG (gN λ _=>yP hc) λ v hv=>?_;subst hv;refine au ?_;unfold iT;rw [k1,k2];rfl
   ·refine bW ?_ ?_<;>intro k3
    ·refine aG (gN λ _=>yP hc) λ v hv=>?_;subst hv;refine au ?_;unfold iT;rw [k1,k2,k3];rfl
    ·refine bW ?_ ?_<;>intro k4
     ·refine aQ (λ _=>by unfold aD; omega) ?_;refine aG (gN λ _=>yP hc) λ v hv=>?_;subst hv;refine au ?_;unfold iT;rw [k1,k2,k3,k4];rfl
     ·refine bW ?_ ?_<;>intro k5
      ·refine bW ?_ ?_<;>intro h1
       ·refine aG (gN λ _=>Sj hc) λ v hv=>?_;subst hv;refine au ?_;unfold iT;rw [k1,k2,k3,k4,k5];rfl
       ·refine au ?_;unfold iT;rw [k1,k2,k3,k4,k5];simp at h1;simp [h1]
      ·refine au ?_;unfold iT;rw [k1,k2,k3,k4,k5];rfl
theorem set_mid (a:List α) (x y:α) (z:List α):(a++x::z).set a.length y=a++y::z:=by
 rw [List.set_append_right _ _ (Nat.le_refl _),Nat.sub_self];rfl
theorem rC (hl:l.length≤2000000):pq l (eG l):=by
 refine lY ?_;refine aG (gN λ _=>acL hl) λ v hv=>?_;subst hv;refine bW ?_ ?_<;>intro h
 ·refine au ?_;unfold eG;rw [h];rfl
 ·have hb3:(decide (16<(l.length:Int))||l.any Sb)=false:=h;have h16:l.length≤16:=by simp at hb3; omega
  have hbig:∀i:Nat,i<l.length→Sb (l.getD i aI)=false:=nS aI (by simp only [Bool.or_eq_false_iff] at hb3; exact hb3.2);refine akl l.length (λ i=>∀j:Nat,j<i→lC (l.getD j aI) j=true) ?_ (λ j hj=>absurd hj (Nat.not_lt_zero j));intro self i hi1 hi2 ih;refine bW ?_ ?_<;>intro h2
  ·have hlt:i<l.length:=by have:=of_decide_eq_true h2; omega
   have hbl:=Oh (hbig i hlt);refine aQ om ?_;refine aG (zJ (aau (c:=l.getD i aI) (k:=i) om om om)) λ v hv=>?_;subst hv;refine bW ?_ ?_<;>intro h3
   ·refine au ?_;unfold eG;rw [hb3,Sd hlt (by simpa using h3)];rfl
   ·refine aQ (by unfold aD; omega) (ih hlt λ j hj=>?_);by_cases hji:j=i
    ·subst hji; simpa using h3
    ·exact hi2 j om
  ·have hil:i=l.length:=by have:=of_decide_eq_false h2; omega
   subst hil;have hall:=abj hi2;refine aQ ⟨om,by show (l.length:Int)*8≤140737488355328; omega⟩ ?_;refine bM (λ g:Int×Int×List Int=>∃i:Nat,g=(mJ (l.take i),(i:Int),iJ (l.take i)++List.replicate (l.length - i) 0)∧i≤l.length∧mJ (l.take i)≤4096∧∀j:Nat,j<i→(λ n=>decide (4<n)) ((iJ l).getD j 0)=false) (λ g=>(l.length - g.2.1).toNat) ?_ ⟨0,rfl,om,by rw [List.take_zero]; decide,λ j hj=>absurd hj (Nat.not_lt_zero j)⟩;rintro dY g ⟨i,rfl,hj1,hj2,hj3⟩ ih2;refine bW ?_ ?_<;>intro h3
   ·have hlt:i<l.length:=by have:(i:Int)<(l.length:Int):=of_decide_eq_true h3; omega
    refine aQ (by show 0≤(i:Int)∧(i:Int)<(l.length:Int); omega) ?_;obtain ⟨hfl,hb⟩:=jZ (l.take i);rw [take_len hj1] at hfl hb;have hpi:=(aer hi2 hbig) i hlt;have hsn:iJ (l.take (i+1))=iJ (l.take i)++[Kc (iJ (l.take i)) (l.getD i aI)]:=by rw [iK aI hlt,DI]
    have hpm:=Ke (iJ (l.take i)) i om hb;have hrep:List.replicate (l.length - i) (0:Int)=0::List.replicate (l.length - i - 1) 0:=by
     rw [show l.length - i=(l.length - i - 1)+1 by omega];rfl
    have hcut:W (vF l (mJ (l.take i),(i:Int),iJ (l.take i)++List.replicate (l.length - i) 0) dY (iJ (l.take i)++Kc (iJ (l.take i)) (l.getD i aI)::List.replicate (l.length - i - 1) 0)) (λ r=>r=eG l):=by
     have hbl:=Oh (hbig i hlt);have hpb:=Oi (l.take i);have avR:0≤mJ (l.take i)*((l.getD i aI).aK.length:Int)∧mJ (l.take i)*((l.getD i aI).aK.length:Int)≤4096*8:=⟨Int.mul_nonneg hpb.1 om,Int.mul_le_mul hj2 om om om⟩;have hpe:mJ (l.take (i+1))=mJ (l.take i)*((l.getD i aI).aK.length:Int):=by
      rw [iK aI hlt,Sg];unfold Xw;rw [if_neg om]
     have hfi:(iJ l).getD i 0=Kc (iJ (l.take i)) (l.getD i aI):=by
      rw [Vo l (i+1) i om hlt,hsn,lM 0 hfl.symm]
     refine aQ (by show aD (mJ (l.take i)*((l.getD i aI).aK.length:Int)); unfold aD; omega) ?_;refine aQ (λ _=>by simp [hfl]; omega) ?_;refine bW ?_ ?_<;>intro h5
     ·have h5:(decide (4096<mJ (l.take i)*((l.getD i aI).aK.length:Int))||decide (4<(iJ (l.take i)++Kc (iJ (l.take i)) (l.getD i aI)::List.replicate (l.length - i - 1) 0).getD i 0))=true:=h5;rw [lM 0 hfl.symm,← hfi,← hpe] at h5;refine au ?_;unfold eG;rw [hb3,hall];have:(decide (4096<mJ l)||(iJ l).any (λ n=>decide (4<n)))=true:=by
       rw [Bool.or_eq_true] at h5 ⊢;rcases h5 with h5 | h5
       ·left;have h5:=of_decide_eq_true h5;have hm:=agb l (λ c hc=>by
         obtain ⟨k,hk,rfl⟩:=List.mem_iff_getElem.1 hc;have:=Oj (lD (hi2 k hk));rwa [List.getD_eq_getElem?_getD,List.getElem?_eq_getElem hk] at this) (i+1)
        exact decide_eq_true om
       ·right;exact yO (p:=λ n=>decide (4<n)) 0 (by rw [(jZ l).1]; exact hlt) h5
      rw [this];rfl
     ·have h5:(decide (4096<mJ (l.take i)*((l.getD i aI).aK.length:Int))||decide (4<(iJ (l.take i)++Kc (iJ (l.take i)) (l.getD i aI)::List.replicate (l.length - i - 1) 0).getD i 0))=false:=h5;rw [lM 0 hfl.symm,← hfi,← hpe] at h5;rw [Bool.or_eq_false_iff] at h5;refine aQ (by show aD ((i:Int)+1); unfold aD; omega) ?_;refine ih2 _ ⟨i+1,?_,hlt,by have:=of_decide_eq_false h5.1; omega,λ j hj=>?_⟩ (by show (l.length - ((i:Int)+1)).toNat<(l.length - (i:Int)).toNat; omega)
      ·rw [hsn,List.append_assoc,show l.length - (i+1)=l.length - i - 1 by omega,hpe];rfl
      ·by_cases hji:j=i
       ·subst hji; exact h5.2
       ·exact hj3 j om
    refine bM (λ g:Int×List Int=>∃j:Nat,g=((j:Int),iJ (l.take i)++mh (iJ (l.take i)) ((l.getD i aI).aT.take j)::List.replicate (l.length - i - 1) 0)∧j≤(l.getD i aI).aT.length) (λ g=>((l.getD i aI).aT.length - g.1).toNat) ?_ ⟨0,by rw [hrep]; rfl,Nat.zero_le _⟩;rintro nA g ⟨j,rfl,hj⟩ ih7;refine bW ?_ ?_<;>intro h4
    ·have hjl:j<(l.getD i aI).aT.length:=by have:(j:Int)<((l.getD i aI).aT.length:Int):=of_decide_eq_true h4; omega
     have hin:=hpi.2 ((l.getD i aI).aT.getD j 0) (jC 0 hjl);refine aQ (by show 0≤(j:Int)∧(j:Int)<((l.getD i aI).aT.length:Int); omega) ?_;refine aQ (by show 0≤(i:Int)∧(i:Int)<(((iJ (l.take i)++mh (iJ (l.take i)) ((l.getD i aI).aT.take j)::List.replicate (l.length - i - 1) 0).length:Nat):Int); simp [hfl]; omega) ?_;refine aQ (by show 0≤(l.getD i aI).aT.getD j 0∧(l.getD i aI).aT.getD j 0<(((iJ (l.take i)++mh (iJ (l.take i)) ((l.getD i aI).aT.take j)::List.replicate (l.length - i - 1) 0).length:Nat):Int); rw [List.length_append,hfl,List.length_cons]; omega) ?_;refine aQ (by show 0≤(i:Int)∧(i:Int)<(((iJ (l.take i)++mh (iJ (l.take i)) ((l.getD i aI).aT.take j)::List.replicate (l.length - i - 1) 0).length:Nat):Int); simp [hfl]; omega) ?_;refine aQ (by show aD ((j:Int)+1); unfold aD; have:=hpi.1; omega) ?_;refine ih7 _ ⟨j+1,?_,hjl⟩ (by show ((l.getD i aI).aT.length - ((j:Int)+1)).toNat<((l.getD i aI).aT.length - (j:Int)).toNat; omega);have e:mh (iJ (l.take i)) ((l.getD i aI).aT.take (j+1))=Qf ((iJ (l.take i)++mh (iJ (l.take i)) ((l.getD i aI).aT.take j)::List.replicate (l.length - i - 1) 0).getD i 0) ((iJ (l.take i)++mh (iJ (l.take i)) ((l.getD i aI).aT.take j)::List.replicate (l.length - i - 1) 0).getD ((l.getD i aI).aT.getD j 0).toNat 0):=by
      rw [lM 0 hfl.symm,mG 0 om];unfold mh;rw [vT _ _ 0 hjl]
     rw [e];have hs:=set_mid (iJ (l.take i)) (mh (iJ (l.take i)) ((l.getD i aI).aT.take j)) (Qf ((iJ (l.take i)++mh (iJ (l.take i)) ((l.getD i aI).aT.take j)::List.replicate (l.length - i - 1) 0).getD i 0) ((iJ (l.take i)++mh (iJ (l.take i)) ((l.getD i aI).aT.take j)::List.replicate (l.length - i - 1) 0).getD ((l.getD i aI).aT.getD j 0).toNat 0)) (List.replicate (l.length - i - 1) 0);rw [hfl] at hs;rw [← hs];rfl
    ·have hje:j=(l.getD i aI).aT.length:=by have:¬ (j:Int)<((l.getD i aI).aT.length:Int):=of_decide_eq_false h4; omega
     subst hje;rw [List.take_length];have hpx:=hpm (l.getD i aI).aT;refine bW ?_ ?_<;>intro h5
     ·have hlen:0≤(i:Int)∧(i:Int)<(((iJ (l.take i)++mh (iJ (l.take i)) (l.getD i aI).aT::List.replicate (l.length - i - 1) 0).length:Nat):Int):=by simp [hfl]; omega
      refine aQ hlen ?_;refine aQ (by show aD ((iJ (l.take i)++mh (iJ (l.take i)) (l.getD i aI).aT::List.replicate (l.length - i - 1) 0).getD i 0+1); rw [lM 0 hfl.symm]; unfold aD; omega) ?_;refine aQ hlen ?_;have e:Kc (iJ (l.take i)) (l.getD i aI)=(iJ (l.take i)++mh (iJ (l.take i)) (l.getD i aI).aT::List.replicate (l.length - i - 1) 0).getD i 0+1:=by
       rw [lM 0 hfl.symm];unfold Kc Sc;rw [show ((l.getD i aI).fC==2||(l.getD i aI).fC==3)=true from h5];rfl
      have hs:=set_mid (iJ (l.take i)) (mh (iJ (l.take i)) (l.getD i aI).aT) (Kc (iJ (l.take i)) (l.getD i aI)) (List.replicate (l.length - i - 1) 0);rw [hfl] at hs;rw [← hs,e] at hcut;exact hcut
     ·have e:Kc (iJ (l.take i)) (l.getD i aI)=mh (iJ (l.take i)) (l.getD i aI).aT:=by
       unfold Kc Sc;rw [show ((l.getD i aI).fC==2||(l.getD i aI).fC==3)=false from h5];rfl
      rw [e] at hcut;exact hcut
   ·have hil:i=l.length:=by have:¬ (i:Int)<(l.length:Int):=of_decide_eq_false h3; omega
    subst hil;refine au ?_;rw [List.take_length] at hj2;unfold eG;rw [hb3,hall,decide_eq_false (show ¬ 4096<mJ l by omega),any_none (p:=λ n=>decide (4<n)) 0 (by rw [(jZ l).1]; exact hj3)];rfl
theorem aex {a b:Int} (ha:0≤a) (hb:0<b):jy b (a.tmod b)=jy a b:=by
 unfold jy;rw [Int.tmod_eq_emod_of_nonneg ha,show (a % b).toNat=a.toNat % b.toNat from Int.toNat_emod ha om,Nat.gcd_comm a.toNat,Nat.gcd_rec b.toNat a.toNat,Nat.gcd_comm]
theorem Zn {x M e:Int} (hM:0≤M) (he:0<e) (hx:0≤x) (h:x≤M.tdiv e):0≤x*e∧x*e≤M:=by
 rw [Int.tdiv_eq_ediv_of_nonneg hM] at h;exact ⟨Int.mul_nonneg hx om,(Int.le_ediv_iff_mul_le he).1 h⟩
theorem Vq {x y X Y:Int} (h1:0≤x) (h2:x≤X) (h3:0≤y) (h4:y≤Y):0≤y*x∧y*x≤Y*X:=
 ⟨Int.mul_nonneg h3 h1,Int.mul_le_mul h4 h2 h1 om⟩
theorem Ah {a_:Int} {b_:Int} (h1:0≤a_) (h2:0≤b_):W (sN a_ b_) (λ r=>r=jy a_ b_):=by
 unfold sN;refine bM (λ (g1:Int×Int)=>0≤g1.1∧0≤g1.2∧jy g1.1 g1.2=jy a_ b_) (λ (g1:Int×Int)=>g1.2.toNat) ?_ ?_
 ·intro ah g1 eX cZ;obtain ⟨dX,bN,bQ⟩:=eX;unfold Nb;refine wi ?_ ?_<;>intro c1
  ·refine wn<|cZ _ ?_ ?_
   ·(refine ⟨ob,Int.tmod_nonneg _ om,?_⟩; dsimp only; rw [← bQ]; exact aex om om)
   ·(dsimp only; have:=TK g1.1 g1.2 om; have:=Int.tmod_nonneg (a:=g1.1) g1.2 om; omega)
  ·refine au ?_;(rw [← bQ]; unfold jy; have e:g1.2=0:=c1; rw [e]; simp; omega)
 ·exact ob
variable {r_:bK}
theorem Dq:W (vV r_) (λ r=>r=nR r_):=by
 unfold vV;refine aG (gN λ hc=>lY (Ah (by have hc:=fq hc; omega) (by have hc:=fq hc; omega))) λ v1 hv1=>?_;subst v1;refine au ?_;rfl
theorem aav {p8:Int} {ug:Int} {lQ:Int} (h1:0≤p8) (h2:p8≤144115188075855872) (h3:1≤ug) (h4:ug≤16777216) (h5:1≤lQ) (h6:lQ≤64):W (Fy p8 ug lQ) (λ r=>r=(p8.tdiv (jy p8 lQ),ug*lQ.tdiv (jy p8 lQ))):=by
 unfold Fy;refine aG (Ah ob ob) λ v1 hv1=>?_;subst v1;have hg:=Bl p8 lQ om; have q1:=tdiv_le p8 _ om hg; have q2:=tdiv_le lQ _ om hg; have q3:=Vq q2.1 (show lQ.tdiv (jy p8 lQ)≤64 by omega) (show 0≤ug by omega) h4;refine wm<|wn ?_;refine au ?_;rfl
theorem Zo {xX:Int} {xY:Int} (h1:xX≤4611686018427387904) (h2:xY≤4611686018427387904):W (Nc xX xY) (λ r=>r=newR xX xY):=by
 unfold Nc;refine bW ?_ ?_<;>intro c1
 ·have fV:=c1;have c1:=fq c1;refine au ?_;(unfold newR; rw [fV]; rfl)
 ·have fV:=c1;have c1:=fq c1;have hg:=Bl xX xY om; have q1:=tdiv_le xX _ om hg; have q2:=tdiv_le xY _ om hg;refine aG (Ah ob ob) λ v1 hv1=>?_;subst v1;refine wm<|aG (Dq) λ v2 hv2=>?_;subst v2;refine bW ?_ ?_<;>intro c2
  ·have ku:=c2;have c2:=fq c2;refine au ?_;(unfold newR; rw [fV]; simp only [cond_false]; rw [ku]; rfl)
  ·have ku:=c2;have c2:=fq c2;refine au ?_;(unfold newR; rw [fV]; simp only [cond_false]; rw [ku]; rfl)
theorem aaw {p9:Int} {qb:Int} {qc:Int} (h1:r_.jS=p9) (h2:r_.jv=qb) (h3:k_=qc):W (Fz r_ k_ p9 qb qc) (λ r=>r=Bn r_ k_):=by
 subst h1 h2 h3;unfold Fz;refine aG (Dq) λ v1 hv1=>?_;subst v1;refine bW ?_ ?_<;>intro c1
 ·have fV:=c1;have c1:=fq c1;refine au ?_;(unfold Bn; rw [fV]; rfl)
 ·have fV:=c1;have c1:=fq c1;have hv:=lV (r:=r_) (by simpa using fV);refine wi ?_ ?_<;>intro c2
  ·refine au ?_;(unfold Bn yN; rw [fV]; simp only [cond_false]; rw [show (!(decide (1≤k_)&&decide (k_≤64)))=true by simp; omega]; rfl)
  ·refine aG (aav ob ob ob ob ob ob) λ v2 hv2=>?_;subst v2;have hg:=Bl r_.jS k_ om; have q1:=tdiv_le r_.jS _ hv.1 hg; have q2:=tdiv_le k_ _ om hg; have q3:=Vq q2.1 (show k_.tdiv (jy r_.jS k_)≤64 by omega) (show 0≤r_.jv by omega) hv.2.2.2.1;refine aG (Zo ob ob) λ v3 hv3=>?_;subst v3;refine au ?_;(unfold Bn yN; rw [fV]; simp only [cond_false]; rw [show (!(decide (1≤k_)&&decide (k_≤64)))=false by simp; omega]; exact aif _ _ _ hv.1 om om)
theorem Xa:W (Im r_ k_) (λ r=>r=Bn r_ k_):=by
 unfold Im;refine aG (aaw rfl rfl rfl) λ v1 hv1=>?_;subst v1;refine au ?_;rfl
theorem Zp {vG:Int} {nO:Int} {l9:Int} (h1:1≤vG) (h2:vG≤64) (h3:0≤nO) (h4:nO≤144115188075855872) (h5:1≤l9) (h6:l9≤16777216):W (CU vG nO l9) (λ r=>r=(bif decide ((144115188075855872:Int).tdiv (vG.tdiv (jy vG l9))<nO) then (-1,1) else (nO*(vG.tdiv (jy vG l9)),l9.tdiv (jy vG l9)))):=by
 unfold CU;refine aG (Ah ob ob) λ v1 hv1=>?_;subst v1;have hg:=Bl vG l9 om; have q1:=tdiv_le vG _ om hg; have q2:=tdiv_le l9 _ om hg; have q4:=apc vG l9 om om; have q5:=tdiv_le 144115188075855872 _ om (show 0<vG.tdiv (jy vG l9) by omega);refine wm<|bW ?_ ?_<;>intro c1
 ·have fV:=c1;have c1:=fq c1;refine au ?_;(rw [fV]; rfl)
 ·have fV:=c1;have c1:=fq c1;have q3:=Zn (x:=nO) (M:=144115188075855872) (e:=vG.tdiv (jy vG l9)) om om om c1;refine wm<|wn ?_;refine au ?_;(rw [fV]; rfl)
theorem Vr {p9:Int} {qb:Int} {qc:Int} (h1:k_=p9) (h2:r_.jS=qb) (h3:r_.jv=qc):W (xZ r_ k_ p9 qb qc) (λ r=>r=rJ r_ k_):=by
 subst h1 h2 h3;unfold xZ;refine aG (Dq) λ v1 hv1=>?_;subst v1;refine bW ?_ ?_<;>intro c1
 ·have fV:=c1;have c1:=fq c1;refine au ?_;(unfold rJ; rw [fV]; rfl)
 ·have fV:=c1;have c1:=fq c1;have hv:=lV (r:=r_) (by simpa using fV);refine wi ?_ ?_<;>intro c2
  ·refine au ?_;(unfold rJ yN; rw [fV]; simp only [cond_false]; rw [show (!(decide (1≤k_)&&decide (k_≤64)))=true by simp; omega]; rfl)
  ·refine aG (Zp ob ob ob ob ob ob) λ v2 hv2=>?_;subst v2;have hg:=Bl k_ r_.jv om; have q1:=tdiv_le k_ _ om hg; have q2:=tdiv_le r_.jv _ om hg; have q4:=apc k_ r_.jv om om; have q3:=Vq (show 0≤k_.tdiv (jy k_ r_.jv) by omega) q4.2 hv.1 hv.2.1; have q6:∀M:Int,M.tdiv (k_.tdiv (jy k_ r_.jv))<r_.jS∨r_.jS≤M.tdiv (k_.tdiv (jy k_ r_.jv)):=λ M=>by omega
   refine aG (Zo (by cases hd:decide ((144115188075855872:Int).tdiv (k_.tdiv (jy k_ r_.jv))<r_.jS) with | true=>(simp only [cond_true]; omega) | false=>(have q7:=Zn (x:=r_.jS) (M:=144115188075855872) (e:=k_.tdiv (jy k_ r_.jv)) om om om (by have:=of_decide_eq_false hd; omega); simp only [cond_false]; omega)) (by cases hd:decide ((144115188075855872:Int).tdiv (k_.tdiv (jy k_ r_.jv))<r_.jS) with | true=>(simp only [cond_true]; omega) | false=>(have q7:=Zn (x:=r_.jS) (M:=144115188075855872) (e:=k_.tdiv (jy k_ r_.jv)) om om om (by have:=of_decide_eq_false hd; omega); simp only [cond_false]; omega))) λ v3 hv3=>?_;subst v3;refine au ?_;(unfold rJ yN; rw [fV]; simp only [cond_false]; rw [show (!(decide (1≤k_)&&decide (k_≤64)))=false by simp; omega]; simp only [cond_false]; cases hd:decide ((144115188075855872:Int).tdiv (k_.tdiv (jy k_ r_.jv))<r_.jS)<;>rfl)
theorem TS:W (DZ r_ k_) (λ r=>r=rJ r_ k_):=by
 unfold DZ;refine aG (Vr rfl rfl rfl) λ v1 hv1=>?_;subst v1;refine au ?_;rfl
theorem Ai {CS:Int} {oD:Int}:W (pz r_ CS oD) (λ r=>r=r9 r_ CS oD):=by
 unfold pz;refine aG (Dq) λ v1 hv1=>?_;subst v1;refine bW ?_ ?_<;>intro c1
 ·have fV:=c1;have c1:=fq c1;refine au ?_;(unfold r9; rw [show nR r_=false by simpa using fV]; rfl)
 ·have fV:=c1;have c1:=fq c1;have hv:=lV (r:=r_) (by simpa using fV); have q1:=tdiv_le r_.jS r_.jv hv.1 om;refine wm<|au ?_;(unfold r9; rw [show nR r_=true by simpa using fV]; rfl)
theorem Oo {m:List aX} (h:nK l m=true):∀x∈m,Ka l.length x=false:=λ x hx=>by
 obtain ⟨_,_,h1⟩:=Ol h;obtain ⟨i,hi,rfl⟩:=List.mem_iff_getElem.1 hx;have:=h1 i hi;rwa [List.getD_eq_getElem?_getD,List.getElem?_eq_getElem hi] at this
theorem rD {v:bK} {L:List bK} (hL:L=rM l s i++List.replicate (l.length - i) dW) (hi:i<l.length) (e:WZ (rM l s i) (l.getD i aI) (s.getD i 0)=v) {k:Nat} (hk:k=i+1:=by omega):L.set i v=rM l s k++List.replicate (l.length - k) dW:=by
 subst hk hL;have hrl:=tH l s i;have hrep:List.replicate (l.length - i) dW=dW::List.replicate (l.length - (i+1)) dW:=by
  rw [show l.length - i=(l.length - (i+1))+1 by omega];rfl
 rw [hrep,List.set_append_right _ _ om,hrl,Nat.sub_self,rM,e,List.append_assoc];rfl
theorem Vs {x_:aX} {lQ:List ay} (h1:lQ.length≤2000000):W (sM x_ lQ) (λ r=>r=Ka lQ.length x_):=by
 unfold sM;refine wn<|aG (zJ (j4 _ _ _)) λ v1 hv1=>?_;subst v1;refine aG (gN λ hc=>j4 _ _ _) λ v2 hv2=>?_;subst v2;refine aG (gN λ hc=>j4 _ _ _) λ v3 hv3=>?_;subst v3;refine au ?_;rfl
theorem zM {s_:List aX} {f_:List ay} (h1:s_.length≤2000000) (h2:f_.length≤2000000):W (lT s_ f_) (λ r=>r=s_.any (Ka f_.length)):=
 zJ (I6 (Oc (p:=λ x=>sM x f_) (P:=Ka f_.length) (λ x hx=>lY (Vs h2)) om) (oM _ _))
variable {l_:List ay}
theorem Oq {m_:List aX} (h1:l_.length≤2000000) (h2:m_.length≤2000000):W (xV l_ m_) (λ r=>r=nK l_ m_):=by
 unfold xV;refine aG (zJ (rC ob)) λ v1 hv1=>?_;subst v1;refine aG (gN λ hc=>lY (zM ob ob)) λ v2 hv2=>?_;subst v2;refine au ?_;rfl
variable {s_:List Int}
theorem vL (h1:l_.length≤2000000) (h2:s_.length≤2000000) (h3:aas l_):W (nN l_ s_) (λ r=>r=kg l_ s_):=by
 unfold nN;refine bW ?_ ?_<;>intro c1
 ·have fV:=c1;have c1:=fq c1;refine au ?_;(unfold kg; rw [show ((s_.length:Int)==(l_.length:Int))=false by simpa using fV]; rfl)
 ·have fV:=c1;have c1:=fq c1;have he:((s_.length:Int)==(l_.length:Int))=true:=by simpa using fV
  refine bM (λ (g1:Int)=>0≤g1∧g1≤s_.length∧(∀j:Nat,(j:Int)<g1→dP (s_.getD j 0) 0 ((l_.getD j aI).aK.length - 1)=true)) (λ (g1:Int)=>(s_.length - g1).toNat) ?_ ?_
  ·intro ah g1 eX cZ;obtain ⟨dX,bN,bQ⟩:=eX;unfold Il;refine wi ?_ ?_<;>intro c2
   ·have hch:=h3 g1.toNat om;refine wm<|wn ?_;refine aG (zJ (j4 _ _ _)) λ v3 hv3=>?_;subst v3;refine bW ?_ ?_<;>intro c3
    ·have kr:=c3;have c3:=fq c3;refine au ?_;(unfold kg; rw [he,tF (i:=g1.toNat) om (by simpa using kr)]; rfl)
    ·have kr:=c3;have c3:=fq c3;refine wn<|cZ _ ?_ ?_
     ·(refine ⟨ob,ob,λ j hj=>?_⟩; by_cases q:j<g1.toNat; (exact bQ j om); (have e:j=g1.toNat:=by omega); subst e; simpa using kr)
     ·exact ob
   ·refine au ?_;(unfold kg; rw [he,vv λ j hj=>bQ j om]; rfl)
  ·(refine ⟨ob,ob,λ j hj=>by omega⟩)
theorem Ot {jJ:Int} (h1:0≤jJ) (h2:jJ<l_.length) (h3:jJ<s_.length) (h4:Zk (l_.getD jJ.toNat aI) (s_.getD jJ.toNat 0)):W (xW l_ s_ jJ) (λ r=>r=kJ (l_.getD jJ.toNat aI) (s_.getD jJ.toNat 0)):=by
 have hp:=h4; unfold Zk at hp;unfold xW;refine wn<|bW ?_ ?_<;>intro c1
 ·have fV:=c1;have c1:=fq c1;refine au ?_;(unfold kJ; rw [fV]; rfl)
 ·have fV:=c1;have c1:=fq c1;refine bW ?_ ?_<;>intro c2
  ·have ku:=c2;have c2:=fq c2;refine wm<|wn ?_;refine au ?_;(unfold kJ; rw [fV,ku]; rfl)
  ·have ku:=c2;have c2:=fq c2;refine wn<|au ?_;(unfold kJ; rw [fV,ku]; rfl)
theorem Rp (h1:Good l_ s_):W (AP l_ s_) (λ r=>r=gy l_ s_):=by
 obtain ⟨q1,q2,q3,q4,q5⟩:=h1;unfold AP;refine wn<|bM (λ (g1:Int×List bK)=>0≤g1.1∧g1.1≤l_.length∧g1.2=rM l_ s_ g1.1.toNat++List.replicate (l_.length - g1.1.toNat) dW) (λ (g1:Int×List bK)=>(l_.length - g1.1).toNat) ?_ ?_
 ·intro ah g1 eX cZ;obtain ⟨dX,bN,bQ⟩:=eX;unfold Nf;refine wi ?_ ?_<;>intro c1
  ·have hlt:g1.1.toNat<l_.length:=om; have hch:=q3 _ hlt; have hpar:=q5 _ hlt; have hpc:=q4 _ hlt; have hrl:=tH l_ s_ g1.1.toNat; have hgl:g1.2.length=l_.length:=(by rw [bQ,List.length_append,hrl,List.length_replicate]; omega);refine wm<|wn ?_;refine aG (Ot ob ob ob ob) λ v7 hv7=>?_;subst v7;refine bW ?_ ?_<;>intro c2
   ·have ku:=c2;have c2:=fq c2;refine wm<|cZ _ ?_ ?_
    ·(refine ⟨ob,ob,?_⟩; dsimp only; exact rD bQ om (by unfold WZ; rw [ku]; rfl))
    ·exact ob
   ·have ku:=c2;have c2:=fq c2;have hget:g1.2.getD (kJ (l_.getD g1.1.toNat aI) (s_.getD g1.1.toNat 0)).toNat dW=(rM l_ s_ g1.1.toNat).getD (kJ (l_.getD g1.1.toNat aI) (s_.getD g1.1.toNat 0)).toNat dW:=by rw [bQ]; exact mG _ om
    refine wn<|bW ?_ ?_<;>intro c3
    ·have kr:=c3;have c3:=fq c3;refine wm<|cZ _ ?_ ?_
     ·(refine ⟨ob,ob,?_⟩; dsimp only; exact rD bQ om (by unfold WZ; rw [ku,← hget,show (oO _||_)=true from kr]; rfl))
     ·exact ob
    ·have kr:=c3;have c3:=fq c3;refine bW ?_ ?_<;>intro c4
     ·have vw:=c4;have c4:=fq c4;refine wn<|aG (Xa) λ v8 DJ=>?_;subst v8;refine wm<|cZ _ ?_ ?_
      ·(refine ⟨ob,ob,?_⟩; dsimp only; exact rD bQ om (by unfold WZ; rw [ku,← hget,show (oO _||_)=false from kr,vw]; rfl))
      ·exact ob
     ·have vw:=c4;have c4:=fq c4;refine bW ?_ ?_<;>intro c5
      ·have Dr:=c5;have c5:=fq c5;refine wn<|aG (TS) λ v9 hv9=>?_;subst v9;refine wm<|cZ _ ?_ ?_
       ·(refine ⟨ob,ob,?_⟩; dsimp only; exact rD bQ om (by unfold WZ; rw [ku,← hget,show (oO _||_)=false from kr,vw,Dr]; rfl))
       ·exact ob
      ·have Dr:=c5;have c5:=fq c5;refine wm<|wn ?_;refine cZ _ ?_ ?_
       ·(refine ⟨ob,ob,?_⟩; dsimp only; exact rD bQ om (by unfold WZ; rw [ku,← hget,show (oO _||_)=false from kr,vw,Dr]; rfl))
       ·exact ob
  ·refine au ?_;(rw [bQ,show g1.1.toNat=l_.length by omega,Nat.sub_self]; simp [gy])
 ·(refine ⟨ob,ob,?_⟩; simp [rM])
theorem Xz {x_:aX} {lQ:List bK} (h1:0≤x_.eU) (h2:x_.eU<lQ.length):W (uW x_ lQ) (λ r=>r=TQ lQ x_):=by
 unfold uW;refine wm<|aG (gN λ hc=>lY (Ai)) λ v1 hv1=>?_;subst v1;refine au ?_;rfl
theorem wZ {s_:List aX} {f_:List bK} (h1:s_.length≤2000000) (h2:∀x∈s_,0≤x.eU∧x.eU<f_.length):W (ko s_ f_) (λ r=>r=s_.any (TQ f_)):=
 zJ (I6 (Oc (p:=λ x=>uW x f_) (P:=TQ f_) (λ x hx=>lY (Xz (h2 x hx).1 (h2 x hx).2)) om) (oM _ _))
theorem aay {m_:List aX} (h1:l_.length≤2000000) (h2:s_.length≤2000000) (h3:m_.length≤2000000) (h4:aas l_):W (FB l_ s_ m_) (λ r=>r=gV l_ s_ m_):=by
 unfold FB;refine aG (Oq ob ob) λ v1 hv1=>?_;subst v1;refine aG (gN λ hc=>lY (vL ob ob ob)) λ v2 hv2=>?_;subst v2;refine bW ?_ ?_<;>intro c1
 ·have fV:=c1;have c1:=fq c1;refine au ?_;(unfold gV; rw [show (nK l_ m_&&kg l_ s_)=false from Bool.and_eq_false_iff.2 c1]; rfl)
 ·have fV:=c1;have c1:=fq c1;have hls:nK l_ m_=true∧kg l_ s_=true:=by simpa using fV
  obtain ⟨hck,hml,hmb⟩:=Ol hls.1;have hgd:=PG (qy hck) hls.2;have hrl:(gy l_ s_).length=l_.length:=tH _ _ _;refine aG (Rp ob) λ v3 hv3=>?_;subst v3;refine bM (λ (g1:Int)=>0≤g1∧g1≤l_.length∧(∀j:Nat,(j:Int)<g1→agc ((gy l_ s_).getD j dW) (l_.getD j aI)=false)) (λ (g1:Int)=>(l_.length - g1).toNat) ?_ ?_
  ·intro ah g1 eX cZ;obtain ⟨dX,bN,bQ⟩:=eX;unfold Ng;refine wi ?_ ?_<;>intro c2
   ·refine wm<|wn ?_;refine aG (gN λ hc=>lY (Ai)) λ v6 hv6=>?_;subst v6;refine bW ?_ ?_<;>intro c3
    ·have kr:=c3;have c3:=fq c3;refine au ?_;(unfold gV; rw [hls.1,hls.2,show ownB l_ (gy l_ s_)=false from tF (i:=g1.toNat) om (by rw [show agc ((gy l_ s_).getD g1.toNat dW) (l_.getD g1.toNat aI)=true from kr]; rfl)]; rfl)
    ·have kr:=c3;have c3:=fq c3;refine wn<|cZ _ ?_ ?_
     ·(refine ⟨ob,ob,λ j hj=>?_⟩; by_cases q:j<g1.toNat; (exact bQ j om); (have e:j=g1.toNat:=by omega); subst e; exact kr)
     ·exact ob
   ·refine aG (wZ ob (λ x hx=>by rw [hrl]; exact (Om (Oo hls.1 x hx)).1)) λ v7 hv7=>?_;subst v7;refine au ?_;(unfold gV; rw [hls.1,hls.2,show ownB l_ (gy l_ s_)=true from vv λ j hj=>by rw [bQ j om]; rfl]; rfl)
  ·(refine ⟨ob,ob,λ j hj=>by omega⟩)
theorem Rq (h1:l_.length≤2000000) (h2:s_.length≤2000000) (h3:aas l_):W (AQ l_ s_) (λ r=>r=wB l_ s_):=by
 unfold AQ;refine aG (zJ (rC ob)) λ v1 hv1=>?_;subst v1;refine bW ?_ ?_<;>intro c1
 ·have fV:=c1;have c1:=fq c1;refine au ?_;(unfold wB; rw [fV]; rfl)
 ·have fV:=c1;have c1:=fq c1;have hck:eG l_=0:=by simpa using fV
  refine aG (vL ob ob ob) λ v2 hv2=>?_;subst v2;refine bW ?_ ?_<;>intro c2
  ·have ku:=c2;have c2:=fq c2;refine au ?_;(unfold wB; rw [fV,ku]; rfl)
  ·have ku:=c2;have c2:=fq c2;have hgd:=PG (qy hck) (show kg l_ s_=true by simpa using ku);refine aG (Rp ob) λ v3 hv3=>?_;subst v3;refine au ?_;(unfold wB; rw [fV,ku]; rfl)
end Go.Proofs.YtifekdmmpbcdgaaGreatDoor
namespace Go.Proofs.YtifekdmmpbcdgaaGreatDoor.Sp
open Go.Ab
set_option maxRecDepth 100000
deriving instance DecidableEq for aF,bU,bD
structure Dem where
 Vt:Int
 draw:Int
 child:Int
deriving DecidableEq
def aaz:Dem:=⟨0,0,0⟩
def dP (n lo hi:Int):Bool:=decide (lo≤n)&&decide (n≤hi)
def TT (s:aF):Bool:=decide (16<(s.dB.length:Int))
def Xb (s:aF) (k:Int):Bool:=((((!dP s.bf (-1) (k - 1))||((s.dB.length:Int)==0))||!dP s.iB 0 5000)||(decide (s.bf<0)&&(s.iB != 0)))||!dP s.jo 0 10000
def Vu:Int→List Int→Bool
 | _,[]=>true
 | p,v::t=>!(!dP v 1 5000||decide (v≤p))&&Vu v t
def zN (s:aF) (k:Int):Bool:=!Xb s k&&Vu 0 s.dB
variable {i:Nat}
theorem aey {lev:List Int} (hi:i<lev.length) {c:Bool} (hc:c=(!dP (lev.getD i 0) 1 5000||(decide (0<(i:Int))&&decide (lev.getD i 0≤lev.getD (i - 1) 0)))):
  Vu (if i=0 then 0 else lev.getD (i - 1) 0) (lev.drop i)=(!c&&Vu (lev.getD i 0) (lev.drop (i+1))):=by
 rw [drop_cons 0 hi,Vu,hc];congr 2;cases h:dP (lev.getD i 0) 1 5000 with
 | false=>rfl
 | true=>
  have h1:1≤lev.getD i 0:=by unfold dP at h; simp at h; simpa using h.1
  by_cases h0:i=0
  ·subst h0;simp;have h1:1≤lev.getD 0 0:=h1;have:¬ lev.getD 0 0≤0:=by omega
   simpa using this
  ·have:decide (0<(i:Int))=true:=by simp; omega
   rw [this,if_neg h0];simp
def aaA (n:Int) (x:bU):Bool:=((!dP x.dL 0 (n - 1)||!dP x.fJ 0 5000)||!dP x.Low 0 x.fJ)||!dP x.Load 0 10000
def Vv:Nat→List aF→Bool
 | _,[]=>true
 | i,s::t=>zN s i&&Vv (i+1) t
def eG (l:List aF):Int:=bif decide (16<(l.length:Int))||l.any TT then 3 else bif Vv 0 l then 0 else 1
variable {α:Type}
theorem nS (d:α) {p:α→Bool} {l:List α} (h:l.any p=false) (i:Nat) (hi:i<l.length):p (l.getD i d)=false:=by
 have:=jC d hi;rw [List.any_eq_false] at h;simpa using h _ this
theorem ahe (n:Nat):decide ((n:Int)<1)=((n:Int)==0):=by
 by_cases h:n=0
 ·subst h; rfl
 ·rw [decide_eq_false om];symm;simpa using h
def oP (l:List aF) (d:List bU):Bool:=((eG l==0)&&decide ((d.length:Int)≤32))&&!(d.any (aaA l.length))
theorem aez (n:Int) (x:bU):(((!dP x.dL 0 (n - 1)||!dP x.Low 0 x.fJ)||decide (5000<x.fJ))||!dP x.Load 0 10000)=aaA n x:=by
 unfold aaA;cases dP x.dL 0 (n - 1) with
 | false=>rfl
 | true=>
  cases dP x.Load 0 10000 with
  | false=>simp
  | true=>
   simp only [Bool.not_true,Bool.false_or,Bool.or_false];unfold dP;by_cases h1:0≤x.Low<;>by_cases h2:x.Low≤x.fJ<;>by_cases h3:5000<x.fJ<;>by_cases h4:0≤x.fJ<;>by_cases h5:x.fJ≤5000<;>simp [h1,h2,h3,h4,h5]<;>omega
def rlN:List aF→List Int→Bool
 | s::l,k::t=>dP k 0 (s.dB.length - 1)&&rlN l t
 | _,_=>true
def mK (l:List aF) (r:bD):Bool:=bif ((eG l != 0)||((r.On.length:Int) != l.length))||((r.bJ.length:Int) != l.length) then false else rlN l r.bJ
variable {l:List aF}
theorem Dt (h:eG l=0):l.length≤16∧(∀i,i<l.length→(l.getD i aC).dB.length≤16)∧Vv 0 l=true:=by
 unfold eG at h;cases h1:(decide (16<(l.length:Int))||l.any TT) with
 | true=>rw [h1] at h; cases h
 | false=>
  rw [h1] at h;have h2:Vv 0 l=true:=by
   cases hv:Vv 0 l with
   | true=>rfl
   | false=>rw [hv] at h; cases h
  simp only [Bool.or_eq_false_iff] at h1;refine ⟨by have:=of_decide_eq_false h1.1; omega,λ i hi=>?_,h2⟩;have:=nS aC h1.2 i hi;unfold TT at this;have:=of_decide_eq_false this;omega
def BR (l:List aF) (d:List bU):Int:=bif eG l != 0 then eG l else bif !oP l d then 1 else 0
theorem iH (d:α) (l:List α) (i:Nat) (v:α) (k:Nat):(l.set i v).getD k d=if k=i∧i<l.length then v else l.getD k d:=by
 rw [List.getD_eq_getElem?_getD,List.getD_eq_getElem?_getD,List.getElem?_set];by_cases h:i=k
 ·subst h;by_cases h2:i<l.length
  ·simp [h2]
  ·simp [h2]
 ·have:¬ (k=i∧i<l.length):=λ h'=>h h'.1.symm;simp [h,this]
def TU {α:Type} (f:Nat→α→α):Nat→α→α
 | 0,a=>a
 | k+1,a=>TU f k (f k a)
def zD (n:Nat) (d:List bU):List Bool:=d.foldl (λ a x=>a.set x.dL.toNat true) (List.replicate n false)
def kK (l:List aF) (i:Nat) (a:List Bool):List Bool:=
 bif (a.getD i false||(l.getD i aC).iy)&&decide (0≤(l.getD i aC).bf) then (a.set i (a.getD i false||(l.getD i aC).iy)).set (l.getD i aC).bf.toNat true else a.set i (a.getD i false||(l.getD i aC).iy)
def mV (l:List aF) (d:List bU):List Bool:=TU (kK l) l.length (zD l.length d)
structure Vld (l:List aF) (d:List bU):Prop where
 len:l.length≤16
 auN:d.length≤32
 dL:∀i,i<l.length → -1≤(l.getD i aC).bf∧(l.getD i aC).bf<i∧1≤(l.getD i aC).dB.length∧(l.getD i aC).dB.length≤16∧0≤(l.getD i aC).iB∧(l.getD i aC).iB≤5000∧0≤(l.getD i aC).jo∧(l.getD i aC).jo≤10000
 dB:∀i,i<l.length→Vu 0 (l.getD i aC).dB=true
 drw:∀x∈d,0≤x.dL∧x.dL<l.length∧0≤x.Low∧x.Low≤x.fJ∧x.fJ≤5000∧0≤x.Load∧x.Load≤10000
theorem Gb {n lo hi:Int}:dP n lo hi=true↔lo≤n∧n≤hi:=by
 unfold dP;simp
variable {k:Nat}
theorem aeA (h:Vv k l=true):∀i,i<l.length→zN (l.getD i aC) ((k+i:Nat):Int)=true:=by
 induction l generalizing k with
 | nil=>intro i hi; simp at hi
 | cons s t ih=>
  rw [Vv,Bool.and_eq_true] at h;intro i hi;cases i with
  | zero=>exact h.1
  | succ i=>
   have:=ih h.2 i (by simpa using hi);rw [show k+(i+1)=k+1+i by omega];exact this
theorem aeB {s:aF} {k:Int} (h:zN s k=true) : -1≤s.bf∧s.bf<k∧1≤s.dB.length∧0≤s.iB∧s.iB≤5000∧0≤s.jo∧s.jo≤10000∧Vu 0 s.dB=true∧(s.bf<0→s.iB=0):=by
 unfold zN Xb at h;simp only [Bool.and_eq_true,Bool.not_eq_true',Bool.or_eq_false_iff,Bool.not_eq_false',Gb] at h;obtain ⟨⟨⟨⟨⟨h1,h2⟩,h3⟩,h4⟩,h5⟩,h6⟩:=h;have h2':¬ (s.dB.length:Int)=0:=by simpa using h2
 refine ⟨h1.1,om,om,h3.1,h3.2,h5.1,h5.2,h6,λ hp=>?_⟩;rw [decide_eq_true hp] at h4;simpa using h4
variable {d:List bU}
theorem agf (h:oP l d=true):Vld l d:=by
 unfold oP at h;simp only [Bool.and_eq_true,Bool.not_eq_true'] at h;obtain ⟨⟨h1,h2⟩,h3⟩:=h;have h1:eG l=0:=by simpa using h1
 obtain ⟨c1,c2,c3⟩:=Dt h1;refine ⟨c1,by have:=of_decide_eq_true h2; omega,λ i hi=>?_,λ i hi=>?_,λ x hx=>?_⟩
 ·have:=aeB (aeA c3 i hi);have:=c2 i hi;omega
 ·exact (aeB (aeA c3 i hi)).2.2.2.2.2.2.2.1
 ·have:=(List.any_eq_false.1 h3) x hx;unfold aaA at this;simp only [Bool.not_eq_true,Bool.or_eq_false_iff,Bool.not_eq_false',Gb] at this;omega
theorem abo {β:Type} (f:List α→β→List α) (hf:∀a x,(f a x).length=a.length) (d:List β) (a:List α):(d.foldl f a).length=a.length:=by
 induction d generalizing a with
 | nil=>rfl
 | cons x d ih=>rw [List.foldl_cons,ih,hf]
theorem wW (n:Nat) (d:List bU):(zD n d).length=n:=by
 unfold zD;rw [abo _ (λ a x=>List.length_set ..),List.length_replicate]
theorem qA (l:List aF) (i:Nat) (a:List Bool):(kK l i a).length=a.length:=by
 unfold kK;cases (a.getD i false||(l.getD i aC).iy)&&decide (0≤(l.getD i aC).bf)<;>simp
theorem abp {f:Nat→List α→List α} (hf:∀i a,(f i a).length=a.length) (k:Nat) (a:List α):(TU f k a).length=a.length:=by
 induction k generalizing a with
 | zero=>rfl
 | succ k ih=>rw [TU,ih,hf]
theorem PL (l:List aF) (d:List bU):(mV l d).length=l.length:=by
 unfold mV;rw [abp (qA l),wW]
def I9 {α:Type} (f:Nat→α→α) (n:Nat):Nat→α→α
 | 0,a=>a
 | k+1,a=>f (n - 1 - k) (I9 f n k a)
theorem aip (f:Nat→α→α) (n k:Nat) (hk:k≤n) (a:α):TU f n a=TU f (n - k) (I9 f n k a):=by
 induction k with
 | zero=>rfl
 | succ k ih=>
  rw [ih om,show n - k=n - (k+1)+1 by omega,TU,I9,show n - 1 - k=n - (k+1) by omega]
theorem Yq (f:Nat→α→α) (n:Nat) (a:α):I9 f n n a=TU f n a:=by
 rw [aip f n n (Nat.le_refl _),Nat.sub_self];rfl
theorem Gc {f:Nat→List α→List α} (hf:∀i a,(f i a).length=a.length) (n k:Nat) (a:List α):(I9 f n k a).length=a.length:=by
 induction k with
 | zero=>rfl
 | succ k ih=>rw [I9,hf,ih]
theorem Bo (n k:Nat) (v:α):(List.replicate n v).getD k v=v:=by
 rw [List.getD_eq_getElem?_getD,List.getElem?_replicate];split<;>rfl
def BS (n:Nat) (d:List bU):List Int:=d.foldl (λ a x=>a.set x.dL.toNat (a.getD x.dL.toNat 0+x.Load)) (List.replicate n 0)
def jq (l:List aF) (i:Nat) (a:List Int):List Int:=
 bif decide (0≤(l.getD i aC).bf) then a.set (l.getD i aC).bf.toNat (a.getD (l.getD i aC).bf.toNat 0+a.getD i 0) else a
def G6 (l:List aF) (d:List bU):List Int:=TU (jq l) l.length (BS l.length d)
theorem TV (n:Nat) (d:List bU):(BS n d).length=n:=by
 unfold BS;rw [abo _ (λ a x=>List.length_set ..),List.length_replicate]
theorem Ki (l:List aF) (i:Nat) (a:List Int):(jq l i a).length=a.length:=by
 unfold jq;cases decide (0≤(l.getD i aC).bf)<;>simp
theorem Sk (l:List aF) (d:List bU):(G6 l d).length=l.length:=by
 unfold G6;rw [abp (Ki l),TV]
def Bnd (a:List Int) (M:Int):Prop:=∀j,0≤a.getD j 0∧a.getD j 0≤M
theorem Bnd.set {a:List Int} {M N:Int} (h:Bnd a M) (hM:M≤N) (i:Nat) (v:Int) (hv:0≤v∧v≤N):Bnd (a.set i v) N:=λ j=>by
 rw [iH];have:=h j;split
 ·exact hv
 ·omega
theorem aeC (n:Nat) (d:List bU) (hd:∀x∈d,0≤x.Load∧x.Load≤10000) (i:Nat) (hi:i≤d.length):Bnd (BS n (d.take i)) (10000*i):=by
 induction i with
 | zero=>intro j; rw [List.take_zero]; have:(BS n []).getD j 0=0:=Bo n j 0; omega
 | succ i ih=>
  have hsn:BS n (d.take (i+1))=(BS n (d.take i)).set (d.getD i eD).dL.toNat ((BS n (d.take i)).getD (d.getD i eD).dL.toNat 0+(d.getD i eD).Load):=vT _ _ eD hi;rw [hsn];have h1:=ih om;have h2:=hd _ (jC eD hi);have h3:=h1 (d.getD i eD).dL.toNat;exact h1.set om _ _ om
theorem agh (l:List aF) (a:List Int) (M:Int) (h:Bnd a M) (k:Nat):Bnd (I9 (jq l) l.length k a) (M*2 ^ k):=by
 induction k with
 | zero=>show Bnd a (M*2 ^ 0); rw [Int.pow_zero,Int.mul_one]; exact h
 | succ k ih=>
  rw [I9];have e:M*2 ^ (k+1)=M*2 ^ k+M*2 ^ k:=by rw [Int.pow_succ,← Int.mul_assoc]; omega
  rw [e];generalize I9 (jq l) l.length k a=A at ih;generalize M*2 ^ k=X at ih;have hp:0≤X:=by have:=ih 0; omega
  unfold jq;cases decide (0≤(l.getD (l.length - 1 - k) aC).bf) with
  | true=>
   have h1:=ih (l.getD (l.length - 1 - k) aC).bf.toNat;have h2:=ih (l.length - 1 - k);exact ih.set om _ _ om
  | false=>
   intro j;have:=ih j;simp only [cond_false];omega
theorem TW (hv:Vld l d) (k:Nat) (hk:k≤l.length):Bnd (I9 (jq l) l.length k (BS l.length d)) 100000000000:=by
 have h1:=aeC l.length d (λ x hx=>by have:=hv.drw x hx; omega) d.length (Nat.le_refl _);rw [List.take_length] at h1;have h2:=agh l _ _ h1 k;have hvl:=hv.len;have hvd:=hv.auN;have h3:(2:Int) ^ k≤2 ^ 16:=by exact_mod_cast Nat.pow_le_pow_right (n:=2) (by decide) (show k≤16 by omega)
 have h4:10000*(d.length:Int)*2 ^ k≤320000*2 ^ 16:=Int.mul_le_mul om h3 (Int.pow_nonneg (by decide)) (by decide);intro j;have:=h2 j;omega
theorem akM (h:BR l d=0):oP l d=true:=by
 unfold BR at h;cases hc:eG l != 0 with
 | true=>rw [hc] at h; have:eG l=0:=h; rw [this] at hc; cases hc
 | false=>
  rw [hc] at h;cases hd:oP l d with
  | true=>rfl
  | false=>rw [hd] at h; cases h
def Gd (l:List aF) (r:bD) (k:Nat):Int:=(l.getD k aC).dB.getD (r.bJ.getD k 0).toNat 0
def Sl (l:List aF) (r:bD) (u:List Bool) (ld:List Int) (i:Nat):Bool:=
 bif !r.On.getD i false then u.getD i false
 else (decide (0≤(l.getD i aC).bf)&&(!r.On.getD (l.getD i aC).bf.toNat false||decide (Gd l r (l.getD i aC).bf.toNat<Gd l r i+(l.getD i aC).iB)))||decide ((l.getD i aC).jo<ld.getD i 0)
def acN (l:List aF) (r:bD) (x:bU):Bool:=!dP (Gd l r x.dL.toNat) x.Low x.fJ
def BU (l:List aF) (r:bD) (d:List bU):Bool:=(List.range l.length).all (λ i=>!Sl l r (mV l d) (G6 l d) i)&&!(d.any (acN l r))
def gV (l:List aF) (r:bD) (d:List bU):Bool:=bif !mK l r||!oP l d then false else BU l r d
structure Rok (l:List aF) (r:bD):Prop where
 On:r.On.length=l.length
 len:r.bJ.length=l.length
 dB:∀i,i<l.length→0≤r.bJ.getD i 0∧(r.bJ.getD i 0).toNat<(l.getD i aC).dB.length∧r.bJ.getD i 0<(l.getD i aC).dB.length
theorem ahf {r:List Int} (h:r.length=l.length):rlN l r=true↔∀i,i<l.length→0≤r.getD i 0∧r.getD i 0<(l.getD i aC).dB.length:=by
 induction l generalizing r with
 | nil=>simp [rlN]
 | cons s l ih=>
  cases r with
  | nil=>simp at h
  | cons k r=>
   rw [rlN,Bool.and_eq_true,Gb,ih (by simpa using h)];constructor
   ·rintro ⟨h1,h2⟩ i hi;cases i with
    | zero=>show 0≤k∧k<s.dB.length; omega
    | succ i=>exact h2 i (by simpa using hi)
   ·intro h2;refine ⟨?_,λ i hi=>h2 (i+1) (by simpa using hi)⟩;have:0≤k∧k<s.dB.length:=h2 0 (by simp);omega
theorem PN {r:bD}:mK l r=true↔eG l=0∧Rok l r:=by
 unfold mK;cases h:((eG l != 0)||((r.On.length:Int) != l.length))||((r.bJ.length:Int) != l.length) with
 | true=>
  simp only [cond_true];constructor
  ·intro h; cases h
  ·rintro ⟨h1,h2⟩;rw [h1,h2.On,h2.len] at h;simp at h
 | false=>
  simp only [cond_false];have h':eG l=0∧r.On.length=l.length∧r.bJ.length=l.length:=by
   simp at h;omega
  rw [ahf h'.2.2];constructor
  ·intro h1;exact ⟨h'.1,h'.2.1,h'.2.2,λ i hi=>by have:=h1 i hi; omega⟩
  ·intro h1 i hi;have:=h1.2.dB i hi;omega
theorem amF {p:Int} {v:List Int} (h:Vu p v=true):∀j,j<v.length→p<v.getD j 0∧1≤v.getD j 0∧v.getD j 0≤5000:=by
 induction v generalizing p with
 | nil=>intro j hj; simp at hj
 | cons a v ih=>
  rw [Vu,Bool.and_eq_true,Bool.not_eq_true',Bool.or_eq_false_iff,Bool.not_eq_false',Gb] at h;have h1:=of_decide_eq_false h.1.2;intro j hj;cases j with
  | zero=>show p<a∧1≤a∧a≤5000; omega
  | succ j=>
   have:=ih h.2 j (by simpa using hj);show p<v.getD j 0∧1≤v.getD j 0∧v.getD j 0≤5000;omega
theorem BX {n:Nat} {p:Nat→Bool} (hi:i<n) (h:p i=false):(List.range n).all p=false:=by
 rw [List.all_eq_false];exact ⟨i,by simpa using hi,by simp [h]⟩
theorem Ou {n:Nat} {p:Nat→Bool} (h:∀i,i<n→p i=true):(List.range n).all p=true:=by
 rw [List.all_eq_true];intro i hi;exact h i (by simpa using hi)
theorem Zq {r:bD} (hv:Vld l d) (hr:Rok l r) (i:Nat) (hi:i<l.length):1≤Gd l r i∧Gd l r i≤5000:=by
 have:=amF (hv.dB i hi) _ (hr.dB i hi).2.1;unfold Gd;omega
theorem TR (d:α) {a b:List α} (h1:a.length=b.length) (h2:∀j,j<a.length→a.getD j d=b.getD j d):a=b:=by
 apply List.ext_getElem h1;intro j hj hj';have:=h2 j hj;rw [List.getD_eq_getElem?_getD,List.getD_eq_getElem?_getD,List.getElem?_eq_getElem hj,List.getElem?_eq_getElem hj'] at this;exact this
def atD (d:List bU) (i:Nat):Bool:=d.any (λ x=>x.dL==(i:Int))
theorem aiq (n:Nat) (d:List bU) (hd:∀x∈d,0≤x.dL∧x.dL<n) (j:Nat):(zD n d).getD j false=atD d j:=by
 unfold zD atD;have key:∀(d:List bU) (a:List Bool),a.length=n→(∀x∈d,0≤x.dL∧x.dL<n)→(d.foldl (λ a x=>a.set x.dL.toNat true) a).getD j false=(a.getD j false||d.any (λ x=>x.dL==(j:Int))):=by
  intro d;induction d with
  | nil=>intro a _ _; simp
  | cons x d ih=>
   intro a ha hd;have hx:=hd x (by simp);rw [List.foldl_cons,ih _ (by simpa using ha) (λ y hy=>hd y (by simp [hy])),iH,List.any_cons];by_cases hj:j=x.dL.toNat
   ·have:(x.dL==(j:Int))=true:=by simp; omega
    rw [if_pos ⟨hj,om⟩,this];simp
   ·have:(x.dL==(j:Int))=false:=by simp; omega
    rw [if_neg (λ h=>hj h.1),this];simp
 rw [key d _ (by simp) hd,Bo];simp
structure Rs (l:List aF) (d:List bU) (k:Nat) (b:List Bool):Prop where
 len:b.length=l.length
 hi:∀j,j<l.length→l.length - k≤j→b.getD j false=(I9 (kK l) l.length k (zD l.length d)).getD j false
 lo:∀j,j<l.length - k→(I9 (kK l) l.length k (zD l.length d)).getD j false=(b.getD j false||atD d j)
def TY (l:List aF) (d:List bU) (i:Nat) (b:List Bool):List Bool:=
 bif (b.getD i false||(l.getD i aC).iy||atD d i)&&decide (0≤(l.getD i aC).bf) then (b.set i (b.getD i false||(l.getD i aC).iy||atD d i)).set (l.getD i aC).bf.toNat true else b.set i (b.getD i false||(l.getD i aC).iy||atD d i)
theorem Rs.step (hv:Vld l d) {b:List Bool} (h:Rs l d k b) (hk:k<l.length):Rs l d (k+1) (TY l d (l.length - 1 - k) b):=by
 obtain ⟨h1,h2,h3⟩:=h;have hup:I9 (kK l) l.length (k+1) (zD l.length d)=kK l (l.length - 1 - k) (I9 (kK l) l.length k (zD l.length d)):=rfl;have hal:(I9 (kK l) l.length k (zD l.length d)).length=l.length:=by rw [Gc (qA l),wW]
 generalize I9 (kK l) l.length k (zD l.length d)=a at h2 h3 hup hal;have hs:=hv.dL (l.length - 1 - k) om;have hai:=h3 (l.length - 1 - k) om;generalize hi:l.length - 1 - k=i at hup hs hai;have hF:(a.getD i false||(l.getD i aC).iy)=(b.getD i false||(l.getD i aC).iy||atD d i):=by
  rw [hai];cases b.getD i false<;>cases (l.getD i aC).iy<;>cases atD d i<;>rfl
 refine ⟨?_,?_,?_⟩
 ·unfold TY;cases (b.getD i false||(l.getD i aC).iy||atD d i)&&decide (0≤(l.getD i aC).bf)<;>simp [h1]
 all_goals
  rw [hup]
  unfold TY kK
  rw [hF]
  generalize (b.getD i false||(l.getD i aC).iy||atD d i)=F
  cases hc:F&&decide (0≤(l.getD i aC).bf) with
  | true=>
   simp only [cond_true]
   simp only [Bool.and_eq_true] at hc
   have hp:=of_decide_eq_true hc.2
   intro j hj
   try intro hj2
   simp only [iH,List.length_set,h1,hal]
   by_cases hjp:j=(l.getD i aC).bf.toNat∧(l.getD i aC).bf.toNat<l.length
   ·rw [if_pos hjp,if_pos hjp]
    try rfl
   ·rw [if_neg hjp,if_neg hjp]
    by_cases hji:j=i∧i<l.length
    ·rw [if_pos hji,if_pos hji]
     try omega
    ·rw [if_neg hji,if_neg hji]
     first | exact h2 j om om | exact h3 j om
  | false=>
   simp only [cond_false]
   intro j hj
   try intro hj2
   simp only [iH,h1,hal]
   by_cases hji:j=i∧i<l.length
   ·rw [if_pos hji,if_pos hji]
    try omega
   ·rw [if_neg hji,if_neg hji]
    first | exact h2 j om om | exact h3 j om
theorem Rs.done {b:List Bool} (h:Rs l d l.length b):b=mV l d:=by
 refine TR false (by rw [h.len,PL]) λ j hj=>?_;rw [h.hi j (by rw [← h.len]; exact hj) om,Yq];rfl
theorem Rs.start (hv:Vld l d):Rs l d 0 (List.replicate l.length false):=by
 refine ⟨by simp,λ j hj h=>by omega,λ j hj=>?_⟩;rw [Bo];show (zD l.length d).getD j false=_;rw [aiq _ _ (λ x hx=>by have:=hv.drw x hx; omega)];simp
def Ov (d:List bU) (i:Nat):Int:=d.foldl (λ s x=>bif x.dL==(i:Int) then s+x.Load else s) 0
theorem Vw {j:Nat} (h:j<d.length):Ov (d.take (j+1)) i=bif (d.getD j eD).dL==(i:Int) then Ov (d.take j) i+(d.getD j eD).Load else Ov (d.take j) i:=vT _ _ eD h
theorem akN (n:Nat) (d:List bU) (hd:∀x∈d,0≤x.dL∧x.dL<n) (j:Nat):(BS n d).getD j 0=Ov d j:=by
 unfold BS Ov;have key:∀(d:List bU) (a:List Int) (s:Int),a.length=n→(∀x∈d,0≤x.dL∧x.dL<n)→a.getD j 0=s→(d.foldl (λ a x=>a.set x.dL.toNat (a.getD x.dL.toNat 0+x.Load)) a).getD j 0=d.foldl (λ s x=>bif x.dL==(j:Int) then s+x.Load else s) s:=by
  intro d;induction d with
  | nil=>intro a s _ _ h; exact h
  | cons x d ih=>
   intro a s ha hd h;have hx:=hd x (by simp);rw [List.foldl_cons,List.foldl_cons];refine ih _ _ (by simpa using ha) (λ y hy=>hd y (by simp [hy])) ?_;rw [iH];by_cases hj:j=x.dL.toNat
   ·have:(x.dL==(j:Int))=true:=by simp; omega
    rw [if_pos ⟨hj,om⟩,this,← hj,h];rfl
   ·have:(x.dL==(j:Int))=false:=by simp; omega
    rw [if_neg (λ h=>hj h.1),this];exact h
 exact key d _ 0 (by simp) hd (Bo _ _ _)
theorem T9 (hd:∀x∈d,0≤x.Load∧x.Load≤10000) (i j:Nat) (hj:j≤d.length):0≤Ov (d.take j) i∧Ov (d.take j) i≤10000*j:=by
 induction j with
 | zero=>rw [List.take_zero]; exact ⟨Int.le_refl _,Int.le_refl _⟩
 | succ j ih=>
  have:=ih om;have h2:=hd _ (jC eD hj);rw [Vw hj];cases (d.getD j eD).dL==(i:Int) with
  | true=>simp only [cond_true]; omega
  | false=>simp only [cond_false]; omega
structure LM (l:List aF) (d:List bU) (k:Nat) (b:List Int):Prop where
 len:b.length=l.length
 pos:∀j,0≤b.getD j 0
 hi:∀j,j<l.length→l.length - k≤j→b.getD j 0=(I9 (jq l) l.length k (BS l.length d)).getD j 0
 lo:∀j,j<l.length - k→(I9 (jq l) l.length k (BS l.length d)).getD j 0=b.getD j 0+Ov d j
def PO (l:List aF) (d:List bU) (i:Nat) (b:List Int):List Int:=
 bif decide (0≤(l.getD i aC).bf) then (b.set i (b.getD i 0+Ov d i)).set (l.getD i aC).bf.toNat (b.getD (l.getD i aC).bf.toNat 0+(b.getD i 0+Ov d i)) else b.set i (b.getD i 0+Ov d i)
variable {b:List Int}
theorem LM.step (hv:Vld l d) (h:LM l d k b) (hk:k<l.length):LM l d (k+1) (PO l d (l.length - 1 - k) b):=by
 obtain ⟨h1,h0,h2,h3⟩:=h;have hdp:∀i,0≤Ov d i:=λ i=>by
  have:=(T9 (d:=d) (λ x hx=>by have:=hv.drw x hx; omega) i d.length (Nat.le_refl _)).1;rwa [List.take_length] at this
 have hup:I9 (jq l) l.length (k+1) (BS l.length d)=jq l (l.length - 1 - k) (I9 (jq l) l.length k (BS l.length d)):=rfl;have hal:(I9 (jq l) l.length k (BS l.length d)).length=l.length:=by rw [Gc (Ki l),TV]
 generalize I9 (jq l) l.length k (BS l.length d)=a at h2 h3 hup hal;have hs:=hv.dL (l.length - 1 - k) om;have hai:=h3 (l.length - 1 - k) om;generalize hi:l.length - 1 - k=i at hup hs hai;have hb0:=h0 i;have hd0:=hdp i;refine ⟨?_,?_,?_,?_⟩
 ·unfold PO;cases decide (0≤(l.getD i aC).bf)<;>simp [h1]
 ·intro j;have hb1:=h0 j;have hb2:=h0 (l.getD i aC).bf.toNat;unfold PO;cases decide (0≤(l.getD i aC).bf)<;>simp only [cond_true,cond_false,iH]<;>repeat' split
  all_goals omega
 all_goals
  rw [hup]
  unfold PO jq
  cases hc:decide (0≤(l.getD i aC).bf) with
  | true=>
   simp only [cond_true]
   have hp:=of_decide_eq_true hc
   intro j hj
   try intro hj2
   simp only [iH,List.length_set,h1,hal]
   have hap:=h3 (l.getD i aC).bf.toNat om
   by_cases hjp:j=(l.getD i aC).bf.toNat∧(l.getD i aC).bf.toNat<l.length
   ·rw [if_pos hjp,if_pos hjp]
    try rw [hjp.1]
    omega
   ·rw [if_neg hjp,if_neg hjp]
    by_cases hji:j=i∧i<l.length
    ·rw [if_pos hji,hji.1]
     omega
    ·rw [if_neg hji]
     first | exact h2 j om om | exact h3 j om
  | false=>
   simp only [cond_false]
   intro j hj
   try intro hj2
   simp only [iH,h1]
   by_cases hji:j=i∧i<l.length
   ·rw [if_pos hji,hji.1]
    omega
   ·rw [if_neg hji]
    first | exact h2 j om om | exact h3 j om
theorem LM.done (h:LM l d l.length b):b=G6 l d:=by
 refine TR 0 (by rw [h.len,Sk]) λ j hj=>?_;rw [h.hi j (by rw [← h.len]; exact hj) om,Yq];rfl
theorem LM.start (hv:Vld l d):LM l d 0 (List.replicate l.length 0):=by
 refine ⟨by simp,λ j=>by rw [Bo]; omega,λ j hj h=>by omega,λ j hj=>?_⟩;rw [Bo];show (BS l.length d).getD j 0=_;rw [akN _ _ (λ x hx=>by have:=hv.drw x hx; omega)];simp
theorem LM.small (hv:Vld l d) (h:LM l d k b) (hk:k≤l.length) (j:Nat):0≤b.getD j 0∧b.getD j 0≤100000000000:=by
 have h1:=TW hv k hk j;refine ⟨h.pos j,?_⟩;have hd:=(T9 (d:=d) (λ x hx=>by have:=hv.drw x hx; omega) j d.length (Nat.le_refl _)).1;rw [List.take_length] at hd;by_cases h2:j<l.length - k
 ·have:=h.lo j h2; omega
 ·by_cases h3:j<l.length
  ·have:=h.hi j h3 om; omega
  ·rw [Y6 0 (by rw [h.len]; omega)]; omega
def lvN:List Int→Int→Nat
 | [],_=>0
 | x::t,v=>bif decide (v≤x) then 0 else lvN t v+1
theorem ape (v:Int) (l:List Int):lvN l v≤l.length:=by
 induction l with
 | nil=>exact Nat.le_refl _
 | cons x l ih=>
  rw [lvN];cases decide (v≤x)<;>simp<;>omega
theorem apf {v:Int} {l:List Int}:∀j,j<lvN l v→l.getD j 0<v:=by
 induction l with
 | nil=>intro j hj; simp [lvN] at hj
 | cons x l ih=>
  rw [lvN];cases h:decide (v≤x) with
  | true=>intro j hj; simp at hj
  | false=>
   have:=of_decide_eq_false h;intro j hj;cases j with
   | zero=>show x<v; omega
   | succ j=>exact ih j (by simpa using hj)
theorem apg {v:Int} {l:List Int} (h:lvN l v<l.length):v≤l.getD (lvN l v) 0:=by
 induction l with
 | nil=>simp at h
 | cons x l ih=>
  rw [lvN] at h ⊢;cases hd:decide (v≤x) with
  | true=>exact of_decide_eq_true hd
  | false=>
   rw [hd] at h;exact ih (by simpa using h)
theorem akO {v:Int} {l:List Int} (h0:k≤l.length) (h1:∀j,j<k→l.getD j 0<v) (h2:k<l.length→v≤l.getD k 0):k=lvN l v:=by
 have h3:=ape v l;rcases Nat.lt_trichotomy k (lvN l v) with h | h | h
 ·have:=apf k h;have:=h2 om;omega
 ·exact h
 ·have:=apg (v:=v) (l:=l) om;have:=h1 _ h;omega
structure DS where
 a:List Dem
 lv:List Int
def EB (n:Nat) (d:List bU):Nat→List Dem
 | 0=>List.replicate n ⟨0,-1,-1⟩
 | i+1=>bif decide (((EB n d i).getD (d.getD i eD).dL.toNat aaz).Vt<(d.getD i eD).Low) then (EB n d i).set (d.getD i eD).dL.toNat ⟨(d.getD i eD).Low,i,-1⟩ else EB n d i
def Qh (l:List aF) (i:Nat) (s:DS):Nat:=lvN (l.getD i aC).dB (s.a.getD i aaz).Vt
def G7 (l:List aF) (i:Nat) (s:DS):Int:=(l.getD i aC).dB.getD (Qh l i s) 0+(l.getD i aC).iB
def Ow (l:List aF) (u:List Bool) (i:Nat) (s:DS):DS:=
 bif !u.getD i false then s
 else ⟨bif decide (0≤(l.getD i aC).bf)&&decide ((s.a.getD (l.getD i aC).bf.toNat aaz).Vt<G7 l i s) then s.a.set (l.getD i aC).bf.toNat ⟨G7 l i s,-1,i⟩ else s.a,s.lv.set i (Qh l i s)⟩
def Xc (l:List aF) (u:List Bool) (i:Nat) (s:DS):Bool:=u.getD i false&&!decide ((Qh l i s:Int)<(l.getD i aC).dB.length)
def akP (l:List aF) (u:List Bool):Nat→DS→DS×Int
 | 0,s=>(s,-1)
 | k+1,s=>bif Xc l u k s then (s,k) else akP l u k (Ow l u k s)
def ds0 (l:List aF) (d:List bU):DS:=⟨EB l.length d d.length,List.replicate l.length 0⟩
def acO (l:List aF) (d:List bU):DS×Int:=akP l (mV l d) l.length (ds0 l d)
theorem abr (n:Nat) (d:List bU) (i:Nat):(EB n d i).length=n:=by
 induction i with
 | zero=>simp [EB]
 | succ i ih=>
  rw [EB];cases decide (((EB n d i).getD (d.getD i eD).dL.toNat aaz).Vt<(d.getD i eD).Low)<;>simp [ih]
structure DOk (l:List aF) (s:DS):Prop where
 al:s.a.length=l.length
 ll:s.lv.length=l.length
variable {u:List Bool}
theorem amG {s:DS} (h:DOk l s):DOk l (Ow l u i s):=by
 unfold Ow;cases u.getD i false with
 | false=>exact h
 | true=>
  refine ⟨?_,by simp [h.ll]⟩;simp only [Bool.not_true,cond_false];cases decide (0≤(l.getD i aC).bf)&&decide ((s.a.getD (l.getD i aC).bf.toNat aaz).Vt<G7 l i s)<;>simp [h.al]
theorem aph (l:List aF) (d:List bU):DOk l (ds0 l d):=⟨abr _ _ _,by simp [ds0]⟩
def G8 (l:List aF) (d:List bU):bD×Int:=
 bif BR l d != 0 then (JR,BR l d)
 else bif decide (0≤(acO l d).2)||!gV l ⟨mV l d,(acO l d).1.lv⟩ d then (JR,9) else (⟨mV l d,(acO l d).1.lv⟩,0)
def amH (l:List aF) (s:DS):Prop:=∀j,j<l.length→0≤s.lv.getD j 0∧s.lv.getD j 0<(l.getD j aC).dB.length
def lvK (l:List aF) (k v:Int):Nat:=lvN (l.getD k.toNat aC).dB v
def okK (l:List aF) (k v:Int):Bool:=decide (lvK l k v<(l.getD k.toNat aC).dB.length)
def voK (l:List aF) (k v:Int):Int:=(l.getD k.toNat aC).dB.getD (lvK l k v) 0
def rwN (l:List aF) (d:List bU) (last:Int):List Int→Int→Bool
 | [],_=>false
 | k::t,v=>bif !t.isEmpty then (bif !okK l k v then false else rwN l d last t (voK l k v+(l.getD k.toNat aC).iB))
  else bif !okK l k v||decide (last<0) then !okK l k v&&decide (last<0)
  else ((d.getD last.toNat eD).dL==k)&&decide ((d.getD last.toNat eD).fJ<voK l k v)
abbrev sAt (l:List aF) (i:Nat):aF:=l.getD i aC
abbrev bAt (a:List Bool) (i:Nat):Bool:=a.getD i false
abbrev nAt (a:List Int) (i:Nat):Int:=a.getD i 0
abbrev dAt (a:List Dem) (i:Nat):Dem:=a.getD i aaz
abbrev xAt (d:List bU) (i:Nat):bU:=d.getD i eD
structure Dm (l:List aF) (d:List bU) (u:List Bool) (k:Nat) (s:DS):Prop where
 al:s.a.length=l.length
 ll:s.lv.length=l.length
 just:∀j,j<l.length→dAt s.a j=⟨0,-1,-1⟩∨(∃q,q<d.length∧(xAt d q).dL=j∧dAt s.a j=⟨(xAt d q).Low,q,-1⟩)∨
  ∃c:Nat,k≤c∧c<l.length∧bAt u c=true∧(sAt l c).bf=j∧Qh l c s<(sAt l c).dB.length∧dAt s.a j=⟨G7 l c s,-1,c⟩
 Low:∀q,q<d.length→(xAt d q).Low≤(dAt s.a (xAt d q).dL.toNat).Vt
 up:∀c,k≤c→c<l.length→bAt u c=true→0≤(sAt l c).bf→G7 l c s≤(dAt s.a (sAt l c).bf.toNat).Vt
 ok:∀c,k≤c→c<l.length→bAt u c=true→Qh l c s<(sAt l c).dB.length∧nAt s.lv c=Qh l c s
 zero:∀c,c<l.length→c<k∨bAt u c=false→nAt s.lv c=0
theorem aeD (h:oP l d=true):eG l=0:=by
 unfold oP at h;simp only [Bool.and_eq_true] at h;simpa using h.1.1
def jnL (l:List aF) (u:List Bool):List Int→Prop
 | []=>True
 | k::t=>(0≤k∧k<l.length∧bAt u k.toNat=true∧(∀k',t.head? = some k'→(sAt l k.toNat).bf=k'))∧jnL l u t
structure Good (l:List aF) (d:List bU) (last:Int) (c:List Int) (fst:Int):Prop where
 ne:c≠[]
 jn:jnL l (mV l d) c
 lo : -1≤fst
 hi:fst<d.length
 yes:0≤fst→(xAt d fst.toNat).dL=nAt c 0∧rwN l d last c (xAt d fst.toNat).Low=true
 no:fst<0→rwN l d last c 0=true
def G9 (a:List Dem):List Int:=a.map Dem.Vt
theorem Ox (a:List Dem) (j:Nat):(G9 a).getD j 0=(a.getD j aaz).Vt:=by
 unfold G9;rw [List.getD_eq_getElem?_getD,List.getElem?_map,List.getD_eq_getElem?_getD];cases a[j]? <;> rfl
theorem aeE (a:List Dem) (j:Nat) (x:Dem):G9 (a.set j x)=(G9 a).set j x.Vt:=by
 unfold G9;rw [List.map_set]
theorem aeF (a:List Dem):(G9 a).length=a.length:=by simp [G9]
theorem set_self (a:List Int) (j:Nat):a.set j (a.getD j 0)=a:=by
 refine TR 0 (by simp) λ k hk=>?_;rw [iH];split
 ·rename_i h; rw [h.1]
 ·rfl
theorem Oy (a:List Int) (j:Nat) (v:Int) (h:v=a.getD j 0):a.set j v=a:=by
 rw [h,set_self]
theorem agi (n:Nat) (d:List bU) (i:Nat):G9 (EB n d (i+1))=(G9 (EB n d i)).set (d.getD i eD).dL.toNat (if (d.getD i eD).Low > (G9 (EB n d i)).getD (d.getD i eD).dL.toNat 0 then (d.getD i eD).Low else (G9 (EB n d i)).getD (d.getD i eD).dL.toNat 0):=by
 rw [EB,Ox];by_cases h:((EB n d i).getD (d.getD i eD).dL.toNat aaz).Vt<(d.getD i eD).Low
 ·rw [decide_eq_true h,cond_true,aeE,if_pos h]
 ·rw [decide_eq_false h,cond_false,if_neg h,Oy _ _ _ (Ox _ _).symm]
theorem akQ {s:DS} (hu:u.length=l.length) (h:DOk l s) (hl:amH l s):Rok l ⟨u,s.lv⟩:=
 ⟨hu,h.ll,λ i hi=>by
  have:=hl i hi;show 0≤s.lv.getD i 0∧(s.lv.getD i 0).toNat<_∧s.lv.getD i 0<_;omega⟩
theorem amI {s:DS} (hf:Xc l u k s=false) (h:amH l s):amH l (Ow l u k s):=by
 intro j hj;unfold Ow;cases hu:u.getD k false with
 | false=>exact h j hj
 | true=>
  unfold Xc at hf;rw [hu,Bool.true_and,Bool.not_eq_false'] at hf;have:=of_decide_eq_true hf;show 0≤(s.lv.set k (Qh l k s)).getD j 0∧(s.lv.set k (Qh l k s)).getD j 0<_;rw [iH];split
  ·rename_i hjk; rw [hjk.1]; omega
  ·exact h j hj
theorem W9 {l m:List α} (d:α) (h:l.length≤i):(l++m).getD i d=m.getD (i - l.length) d:=by
 rw [List.getD_eq_getElem?_getD,List.getElem?_append_right h,List.getD_eq_getElem?_getD]
theorem ji {n_:Int} {wY:Int} {y8:Int}:W (iP n_ wY y8) (λ r=>r=dP n_ wY y8):=by
 unfold iP;refine au ?_;rfl
theorem Vx {s_:aF}:W (sK s_) (λ r=>r=TT s_):=by
 unfold sK;refine au ?_;rfl
theorem zO {s_:List aF} (h1:s_.length≤2000000):W (lS s_) (λ r=>r=s_.any (TT)):=
 zJ (I6 (Oc (p:=λ x=>sK x) (P:=TT) (λ x hx=>lY (Vx)) om) (oM _ _))
theorem Zr {s_:aF} {at_:Int} (h1:0≤at_) (h2:at_≤2000000) (h3:s_.dB.length≤2000000):W (CQ s_ at_) (λ r=>r=zN s_ at_):=by
 unfold CQ;refine wn<|aG (ji) λ v1 hv1=>?_;subst v1;refine aG (gN λ hc=>lY (ji)) λ v2 hv2=>?_;subst v2;refine aG (gN λ hc=>lY (ji)) λ v3 hv3=>?_;subst v3;refine bW ?_ ?_<;>intro c1
 ·have fV:=c1;have c1:=fq c1;refine au ?_;(unfold zN; rw [show Xb s_ at_=true from fV]; rfl)
 ·have fV:=c1;have c1:=fq c1;refine bM (λ (g1:Int)=>0≤g1∧g1≤s_.dB.length∧Vu (if g1.toNat=0 then 0 else s_.dB.getD (g1.toNat - 1) 0) (s_.dB.drop g1.toNat)=Vu 0 s_.dB) (λ (g1:Int)=>(s_.dB.length - g1).toNat) ?_ ?_
  ·intro ah g1 eX cZ;obtain ⟨dX,bN,bQ⟩:=eX;unfold KH;obtain ⟨i,rfl⟩:=Int.eq_ofNat_of_zero_le dX;refine wi ?_ ?_<;>intro c2
   ·have hlt:i<s_.dB.length:=om;have hst:=aey hlt rfl;rw [show ((i:Int).toNat)=i from rfl] at bQ;rw [hst] at bQ;have e1:(((i:Int) - 1).toNat)=i - 1:=om;simp only [e1,Int.toNat_natCast] at *;refine wn<|aG (ji) λ v6 hv6=>?_;subst v6;refine wm<|bW ?_ ?_<;>intro c3
    ·have kr:=c3;have c3:=fq c3;refine au ?_;(unfold zN; rw [show Xb s_ at_=false from fV,← bQ]; rw [kr]; rfl)
    ·have kr:=c3;have c3:=fq c3;refine wn<|cZ _ ?_ ?_
     ·(refine ⟨ob,ob,?_⟩; rw [← bQ,kr]; rw [show ((i:Int)+1).toNat=i+1 by omega,if_neg om]; rfl)
     ·exact ob
   ·refine au ?_;have e:i=s_.dB.length:=om;unfold zN; rw [show Xb s_ at_=false from fV,← bQ,show (i:Int).toNat=i from rfl,e,List.drop_length]; rfl
  ·(refine ⟨ob,ob,rfl⟩)
variable {l_:List aF}
theorem yQ (h1:l_.length≤2000000):W (pY l_) (λ r=>r=eG l_):=by
 unfold pY;refine aG (gN λ hc=>lY (zO ob)) λ v1 hv1=>?_;subst v1;refine bW ?_ ?_<;>intro c1
 ·have fV:=c1;have c1:=fq c1;refine au ?_;(unfold eG; rw [fV]; rfl)
 ·have fV:=c1;have c1:=fq c1;have hbig:∀i:Nat,i<l_.length→TT (l_.getD i aC)=false:=nS aC (by have:=fV; simp only [Bool.or_eq_false_iff] at this; exact this.2);refine bM (λ (g1:Int)=>0≤g1∧g1≤l_.length∧Vv g1.toNat (l_.drop g1.toNat)=Vv 0 l_) (λ (g1:Int)=>(l_.length - g1).toNat) ?_ ?_
  ·intro ah g1 eX cZ;obtain ⟨dX,bN,bQ⟩:=eX;unfold KI;obtain ⟨i,rfl⟩:=Int.eq_ofNat_of_zero_le dX;refine wi ?_ ?_<;>intro c2
   ·have hlt:i<l_.length:=om;have hb:=hbig i hlt;have hbl:(l_.getD i aC).dB.length≤16:=(by unfold TT at hb; have:=of_decide_eq_false hb; omega);rw [show ((i:Int).toNat)=i from rfl,drop_cons aC hlt,Vv] at bQ;simp only [Int.toNat_natCast] at *;refine wn<|aG (Zr om om om) λ v4 hv4=>?_;subst v4;refine bW ?_ ?_<;>intro c3
    ·have kr:=c3;have c3:=fq c3;refine au ?_;(unfold eG; rw [fV,← bQ,show zN (l_.getD i aC) i=false by simpa using kr]; rfl)
    ·have kr:=c3;have c3:=fq c3;refine wn<|cZ _ ?_ ?_
     ·(refine ⟨ob,ob,?_⟩; rw [← bQ,show zN (l_.getD i aC) i=true by simpa using kr,show ((i:Int)+1).toNat=i+1 by omega]; rfl)
     ·exact ob
   ·refine au ?_;have e:i=l_.length:=om;unfold eG; rw [fV,← bQ,show (i:Int).toNat=i from rfl,e,List.drop_length]; rfl
  ·(refine ⟨ob,ob,rfl⟩)
theorem Oz {r_:bD} (h1:l_.length≤2000000) (h2:r_.bJ.length≤2000000):W (x9 l_ r_) (λ r=>r=mK l_ r_):=by
 unfold x9;refine aG (yQ ob) λ v1 hv1=>?_;subst v1;refine bW ?_ ?_<;>intro c1
 ·have fV:=c1;have c1:=fq c1;refine au ?_;(unfold mK; rw [fV]; rfl)
 ·have fV:=c1;have c1:=fq c1;have hck:eG l_=0∧r_.On.length=l_.length∧r_.bJ.length=l_.length:=(by have:=fV; simp only [Bool.or_eq_false_iff,bne_eq_false_iff_eq] at this; omega);obtain ⟨b1,b2,b3⟩:=Dt hck.1;refine bM (λ (g1:Int)=>0≤g1∧g1≤l_.length∧rlN (l_.drop g1.toNat) (r_.bJ.drop g1.toNat)=rlN l_ r_.bJ) (λ (g1:Int)=>(l_.length - g1).toNat) ?_ ?_
  ·intro ah g1 eX cZ;obtain ⟨dX,bN,bQ⟩:=eX;unfold KM;obtain ⟨i,rfl⟩:=Int.eq_ofNat_of_zero_le dX;refine wi ?_ ?_<;>intro c2
   ·have hlt:i<l_.length:=om;have hb:=b2 i hlt;rw [show ((i:Int).toNat)=i from rfl,drop_cons aC hlt,drop_cons 0 (show i<r_.bJ.length by omega),rlN] at bQ;simp only [Int.toNat_natCast] at *;refine wm<|wn ?_;refine aG (ji) λ v4 hv4=>?_;subst v4;refine bW ?_ ?_<;>intro c3
    ·have kr:=c3;have c3:=fq c3;refine au ?_;(unfold mK; rw [fV,← bQ]; rw [show dP (r_.bJ.getD i 0) 0 _=false by simpa using kr]; rfl)
    ·have kr:=c3;have c3:=fq c3;refine wn<|cZ _ ?_ ?_
     ·(refine ⟨ob,ob,?_⟩; rw [← bQ,show dP (r_.bJ.getD i 0) 0 _=true by simpa using kr,show ((i:Int)+1).toNat=i+1 by omega]; rfl)
     ·exact ob
   ·refine au ?_;have e:i=l_.length:=om;unfold mK; rw [fV,← bQ,show (i:Int).toNat=i from rfl,e,List.drop_length]; cases List.drop l_.length r_.bJ<;>rfl
  ·(refine ⟨ob,ob,rfl⟩)
theorem Vy {x_:bU} {lQ:List aF} (h1:lQ.length≤2000000):W (sO x_ lQ) (λ r=>r=aaA lQ.length x_):=by
 unfold sO;refine wn<|aG (ji) λ v1 hv1=>?_;subst v1;refine aG (gN λ hc=>lY (ji)) λ v2 hv2=>?_;subst v2;refine aG (gN λ hc=>lY (ji)) λ v3 hv3=>?_;subst v3;refine aG (gN λ hc=>lY (ji)) λ v4 hv4=>?_;subst v4;refine au ?_;rfl
theorem Bp {s_:List bU} {f_:List aF} (h1:s_.length≤2000000) (h2:f_.length≤2000000):W (mg s_ f_) (λ r=>r=s_.any (aaA f_.length)):=
 zJ (I6 (Oc (p:=λ x=>sO x f_) (P:=aaA f_.length) (λ x hx=>lY (Vy h2)) om) (oM _ _))
variable {d_:List bU}
theorem OA (h1:l_.length≤2000000) (h2:d_.length≤2000000):W (yc l_ d_) (λ r=>r=oP l_ d_):=by
 unfold yc;refine aG (yQ ob) λ v1 hv1=>?_;subst v1;refine aG (gN λ hc=>lY (Bp ob ob)) λ v2 hv2=>?_;subst v2;refine au ?_;rfl
theorem tK {s_:List aF}:W (jE s_) (λ r=>r=s_):=by
 unfold jE;refine au ?_;rfl
theorem aaB (h1:Vld l_ d_):W (FC l_ d_) (λ r=>r=mV l_ d_):=by
 obtain ⟨vl,vd,vs,_,vx⟩:=h1;unfold FC;refine wn<|bM (λ (g1:Int×List Bool)=>0≤g1.1∧g1.1≤d_.length∧g1.2=zD l_.length (d_.take g1.1.toNat)) (λ (g1:Int×List Bool)=>(d_.length - g1.1).toNat) ?_ ?_
 ·intro ah g1 eX cZ;obtain ⟨dX,bN,bQ⟩:=eX;unfold Nh;refine wi ?_ ?_<;>intro c1
  ·have hlt:g1.1.toNat<d_.length:=om;have hx:=vx _ (jC eD hlt);have hml:g1.2.length=l_.length:=(by rw [bQ]; exact wW ..);refine wm<|wn ?_;refine cZ _ ?_ ?_
   ·(refine ⟨ob,ob,?_⟩; dsimp only; have e:zD l_.length (d_.take (g1.1.toNat+1))=(zD l_.length (d_.take g1.1.toNat)).set (d_.getD g1.1.toNat eD).dL.toNat true:=vT _ _ eD hlt; rw [show (g1.1+1).toNat=g1.1.toNat+1 by omega,bQ,e])
   ·exact ob
  ·refine aG (tK) λ v1 hv1=>?_;subst v1;refine wn<|anE (λ (k2:Nat) (g2:List Bool)=>g2=I9 (kK l_) l_.length k2 (zD l_.length d_)) ?_ ?_ ?_
   ·intro k2 dY g2 auS mU qZ;unfold KO;refine aQ (by (rw [mU,Gc (qA _),wW]; omega)) ?_;refine aQ (by (rw [mU,Gc (qA _),wW]; omega)) ?_;unfold BK;refine aQ (by (rw [List.length_set,mU,Gc (qA _),wW]; omega)) ?_;refine bW ?_ ?_<;>intro c2
    ·have ku:=c2;have c2:=fq c2;have hp:=vs (l_.length - 1 - k2) om;have hl2:g2.length=l_.length:=(by rw [mU,Gc (qA _),wW]);refine wn<|qZ _ ?_;(rw [Int.toNat_natCast,iH,if_pos ⟨rfl,om⟩] at ku; show _=kK l_ (l_.length - 1 - k2) (I9 (kK l_) l_.length k2 (zD l_.length d_)); rw [← mU]; unfold kK; rw [ku]; rfl)
    ·have ku:=c2;have c2:=fq c2;have hl2:g2.length=l_.length:=(by rw [mU,Gc (qA _),wW]);refine qZ _ ?_;(rw [Int.toNat_natCast,iH,if_pos ⟨rfl,om⟩] at ku; show _=kK l_ (l_.length - 1 - k2) (I9 (kK l_) l_.length k2 (zD l_.length d_)); rw [← mU]; unfold kK; rw [ku]; rfl)
   ·intro g2 mU;unfold KN;refine au ?_;(rw [mU]; exact Yq _ _ _)
   ·(simp only [bQ]; rw [show g1.1.toNat=d_.length by omega,List.take_length]; rfl)
 ·(refine ⟨ob,ob,rfl⟩)
theorem Zt (h1:Vld l_ d_):W (CW l_ d_) (λ r=>r=G6 l_ d_):=by
 have hsm:=λ k hk=>TW h1 k hk;obtain ⟨vl,vd,vs,_,vx⟩:=h1;unfold CW;refine wn<|bM (λ (g1:Int×List Int)=>0≤g1.1∧g1.1≤d_.length∧g1.2=BS l_.length (d_.take g1.1.toNat)) (λ (g1:Int×List Int)=>(d_.length - g1.1).toNat) ?_ ?_
 ·intro ah g1 eX cZ;obtain ⟨dX,bN,bQ⟩:=eX;unfold KP;refine wi ?_ ?_<;>intro c1
  ·have hlt:g1.1.toNat<d_.length:=om;have hx:=vx _ (jC eD hlt);have hml:g1.2.length=l_.length:=(by rw [bQ]; exact TV ..);have hbd:=aeC l_.length d_ (λ x hx=>by have:=vx x hx; omega) g1.1.toNat om (d_.getD g1.1.toNat eD).dL.toNat;rw [← bQ] at hbd;refine wm<|wm ?_;refine wn<|cZ _ ?_ ?_
   ·(refine ⟨ob,ob,?_⟩; dsimp only; have e:BS l_.length (d_.take (g1.1.toNat+1))=(BS l_.length (d_.take g1.1.toNat)).set (d_.getD g1.1.toNat eD).dL.toNat ((BS l_.length (d_.take g1.1.toNat)).getD (d_.getD g1.1.toNat eD).dL.toNat 0+(d_.getD g1.1.toNat eD).Load):=vT _ _ eD hlt; rw [show (g1.1+1).toNat=g1.1.toNat+1 by omega,e,← bQ])
   ·exact ob
  ·refine aG (tK) λ v1 hv1=>?_;subst v1;refine wn<|anE (λ (k2:Nat) (g2:List Int)=>g2=I9 (jq l_) l_.length k2 (BS l_.length d_)) ?_ ?_ ?_
   ·intro k2 dY g2 auS mU qZ;unfold Iq;refine bW ?_ ?_<;>intro c2
    ·have ku:=c2;have c2:=fq c2;have hp:=vs (l_.length - 1 - k2) om;have hl2:g2.length=l_.length:=(by rw [mU,Gc (Ki _),TV]);have hbd:=hsm k2 om;rw [← mU] at hbd;have hb1:=hbd (l_.getD (l_.length - 1 - k2) aC).bf.toNat;have hb2:=hbd (l_.length - 1 - k2);rw [Int.toNat_natCast];refine wm<|wm ?_;refine qZ _ ?_;(show _=jq l_ (l_.length - 1 - k2) (I9 (jq l_) l_.length k2 (BS l_.length d_)); rw [← mU]; unfold jq; rw [ku]; rfl)
    ·have ku:=c2;have c2:=fq c2;refine qZ _ ?_;(show _=jq l_ (l_.length - 1 - k2) (I9 (jq l_) l_.length k2 (BS l_.length d_)); rw [← mU]; unfold jq; rw [ku]; rfl)
   ·intro g2 mU;unfold Ip;refine au ?_;(rw [mU]; exact Yq _ _ _)
   ·(simp only [bQ]; rw [show g1.1.toNat=d_.length by omega,List.take_length]; rfl)
 ·(refine ⟨ob,ob,rfl⟩)
theorem Vz {x_:bU} {lQ:List aF} {CX:List Bool} {vW:List Int} (h1:0≤x_.dL) (h2:x_.dL<lQ.length) (h3:x_.dL<vW.length) (h4:0≤vW.getD x_.dL.toNat 0) (h5:vW.getD x_.dL.toNat 0<(lQ.getD x_.dL.toNat aC).dB.length):W (sP x_ lQ CX vW) (λ r=>r=acN lQ ⟨CX,vW⟩ x_):=by
 unfold sP;refine wm<|wn ?_;refine aG (ji) λ v1 hv1=>?_;subst v1;refine au ?_;rfl
theorem yR {s_:List bU} {BL:List aF} {Co:List Bool} {Cq:List Int} (h1:s_.length≤2000000) (h2:∀x∈s_,0≤x.dL∧x.dL<BL.length) (h3:Rok BL ⟨Co,Cq⟩):W (kL s_ BL Co Cq) (λ r=>r=s_.any (acN BL ⟨Co,Cq⟩)):=
 zJ (I6 (Oc (p:=λ x=>sP x BL Co Cq) (P:=acN BL ⟨Co,Cq⟩) (λ x hx=>lY (by obtain ⟨q1,q2⟩:=h2 x hx; obtain ⟨r1,r2,r3⟩:=h3; have r4:=r3 x.dL.toNat om; exact Vz q1 q2 (by dsimp only at r2; omega) r4.1 r4.2.2)) om) (oM _ _))
theorem EC {r_:bD} (h1:l_.length≤2000000) (h2:d_.length≤2000000) (h3:r_.bJ.length≤2000000):W (uh l_ r_ d_) (λ r=>r=gV l_ r_ d_):=by
 unfold uh;refine aG (Oz ob ob) λ v1 hv1=>?_;subst v1;refine aG (gN λ hc=>lY (OA ob ob)) λ v2 hv2=>?_;subst v2;refine bW ?_ ?_<;>intro c1
 ·have fV:=c1;have c1:=fq c1;refine au ?_;(unfold gV; rw [fV]; rfl)
 ·have fV:=c1;have c1:=fq c1;have hrd:mK l_ r_=true∧oP l_ d_=true:=(by have:=fV; simpa using this);have hv:=agf hrd.2;have hr:=(PN.1 hrd.1).2;have hrk:=hr;have hvb:=λ i hi=>Zq hv hr i hi;have hul:=PL l_ d_;have hll:=Sk l_ d_;obtain ⟨r1,r2,r3⟩:=hr;obtain ⟨vl,vd,vs,_,vx⟩:=id hv;have hmf:gV l_ r_ d_=BU l_ r_ d_:=(by unfold gV; rw [fV]; rfl);refine aG (aaB hv) λ v3 hv3=>?_;subst v3;refine aG (Zt hv) λ v4 hv4=>?_;subst v4;refine bM (λ (g1:Int)=>0≤g1∧g1≤l_.length∧(∀j,j<g1.toNat→Sl l_ r_ (mV l_ d_) (G6 l_ d_) j=false)) (λ (g1:Int)=>(l_.length - g1).toNat) ?_ ?_
  ·intro ah g1 eX cZ;obtain ⟨dX,bN,bQ⟩:=eX;unfold KQ;obtain ⟨i,rfl⟩:=Int.eq_ofNat_of_zero_le dX;refine wi ?_ ?_<;>intro c2
   ·have hlt:i<l_.length:=om;have hp:=vs i hlt;have hp2:=vs (l_.getD i aC).bf.toNat;have hr3:=r3 i hlt;have hr4:=r3 (l_.getD i aC).bf.toNat;have hv1:=hvb i hlt;unfold Gd at hv1;simp only [Int.toNat_natCast] at *;refine wm<|bW ?_ ?_<;>intro c3
    ·have kr:=c3;have c3:=fq c3;refine wn<|bW ?_ ?_<;>intro c4
     ·have vw:=c4;have c4:=fq c4;refine au ?_;(rw [hmf]; unfold BU; rw [BX hlt (by unfold Sl; rw [kr,vw]; rfl)]; rfl)
     ·have vw:=c4;have c4:=fq c4;refine wn<|cZ _ ?_ ?_
      ·(refine ⟨ob,ob,λ j hj=>?_⟩; by_cases q:j<i; (exact bQ j q); (have e:j=i:=by omega); subst e; unfold Sl; rw [kr,vw]; rfl)
      ·exact ob
    ·have kr:=c3;have c3:=fq c3;refine aQ (by (intro q1; have:=of_decide_eq_true q1; omega)) ?_;refine aQ (by (intro q1 _; have:=of_decide_eq_true q1; omega)) ?_;refine aQ (by (intro q1 _; have:=of_decide_eq_true q1; omega)) ?_;refine aQ (by (intro q1 _; have:=of_decide_eq_true q1; have:=hr4 om; omega)) ?_;refine aQ (by (intro q1 _; have:=of_decide_eq_true q1; omega)) ?_;refine aQ (by (intro q1 _; have:=of_decide_eq_true q1; omega)) ?_;refine aQ (by (intro q1 _; have:=of_decide_eq_true q1; unfold aD; omega)) ?_;refine aQ (by (intro _; omega)) ?_;refine bW ?_ ?_<;>intro c5
     ·have Dr:=c5;have c5:=fq c5;refine au ?_;(rw [hmf]; unfold BU; rw [BX hlt (by unfold Sl Gd; rw [kr]; simp only [cond_false]; rw [Dr]; rfl)]; rfl)
     ·have Dr:=c5;have c5:=fq c5;refine wn<|cZ _ ?_ ?_
      ·(refine ⟨ob,ob,λ j hj=>?_⟩; by_cases q:j<i; (exact bQ j q); (have e:j=i:=by omega); subst e; unfold Sl Gd; rw [kr]; exact Dr)
      ·exact ob
   ·refine aG (yR om (λ x hx=>by have:=vx x hx; omega) hrk) λ v5 hv5=>?_;subst v5;refine au ?_;(rw [hmf]; unfold BU; rw [Ou λ j hj=>(by rw [bQ j om]; rfl)]; rfl)
  ·(refine ⟨ob,ob,λ j hj=>absurd hj (Nat.not_lt_zero j)⟩)
end Go.Proofs.YtifekdmmpbcdgaaGreatDoor.Sp

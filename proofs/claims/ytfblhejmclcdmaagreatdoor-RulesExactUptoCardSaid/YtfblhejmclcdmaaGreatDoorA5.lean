/- An abstract machine over the model's code, that it is sound; models of the functions and their proofs. -/
import Derived.Test.YtfblhejmclcdmaaGreatDoorA3
import Derived.Test.YtfblhejmclcdmaaGreatDoorA4
set_option linter.unusedVariables false
set_option linter.unusedSimpArgs false

namespace Go.Ab
def GA {α:Type} (l:List α) (P:α→Bool):Int:=if l.any P then ((l.findIdx P:Nat):Int) else -1
theorem nH {α:Type} (l:List α) (P:α→Bool):decide (0≤GA l P)=l.any P:=by
 unfold GA;cases l.any P<;>simp<;>omega
theorem aa4 {α:Type} {l:List α} {P:α→Bool} {d:α} {i:Nat} (hi:i<l.length) (h:P (l.getD i d)=true):l.any P=true:=by
 rw [List.any_eq_true];refine ⟨l[i],List.getElem_mem hi,?_⟩;rw [List.getD_eq_getElem?_getD,List.getElem?_eq_getElem hi] at h;exact h
theorem any_take_succ {α:Type} (l:List α) (P:α→Bool) (d:α) {i:Nat} (hi:i<l.length):(l.take (i+1)).any P=((l.take i).any P||P (l.getD i d)):=by
 rw [List.take_add_one,List.any_append,List.getElem?_eq_getElem hi,List.getD_eq_getElem?_getD,List.getElem?_eq_getElem hi];simp
theorem Ub {α:Type} {l:List α} {P:α→Bool} {d:α} {g:Int} (h0:0≤g) (h1:g<l.length) (hb:(l.take g.toNat).any P=false) (hp:P (l.getD g.toNat d)=true):GA l P=g:=by
 have hi:g.toNat<l.length:=by omega
 unfold GA;rw [aa4 hi hp,if_pos rfl];have:l.findIdx P=g.toNat:=by
  rw [List.findIdx_eq hi];constructor
  ·rw [List.getD_eq_getElem?_getD,List.getElem?_eq_getElem hi] at hp;exact hp
  ·intro j hj;have:=List.any_eq_false.1 hb (l[j]'om) (by
    rw [List.mem_take_iff_getElem]
    exact ⟨j,om,rfl⟩)
   simpa using this
 omega
theorem JE {α:Type} {l:List α} {d:α} {p:α→M Bool} {P:α→Bool} (hp:∀x∈l,p x (P x)) (hl:(l.length:Int)≤9223372036854775807):W (bV (fun (self:Int→M Int) g=>bif (decide (g<(l.length:Int))) then
  need (0≤g∧g<(l.length:Int))<|
  bnd (p (l.getD g.toNat d)) fun v3=>
  bif v3 then
   ret g
  else
   need (InI64 (g+(1:Int)))<|
   self (g+(1:Int))
 else
  ret (-1:Int)) (0:Int)) (fun r=>r=GA l P):=by
 refine bA (fun (g:Int)=>0≤g∧g≤l.length∧(l.take g.toNat).any P=false) (fun (g:Int)=>(l.length - g).toNat) ?_ ⟨om,om,by simp⟩;intro self g ⟨h0,h1,hb⟩ ih;refine bP (fun c=>?_) (fun c=>?_)
 ·have c:=of_decide_eq_true c;refine aZ ⟨h0,c⟩ ?_;have hi:g.toNat<l.length:=by omega
  have hm:l.getD g.toNat d∈l:=by
   rw [List.getD_eq_getElem?_getD,List.getElem?_eq_getElem hi];exact List.getElem_mem hi
  refine av (FN (hp _ hm)) fun v hv=>?_;subst hv;refine bP (fun c2=>?_) (fun c2=>?_)
  ·exact ah (Ub h0 c hb c2).symm
  ·refine aZ (by unfold InI64; omega) ?_;refine ih _ ⟨om,om,?_⟩ om;rw [show (g+1).toNat=g.toNat+1 by omega,any_take_succ l P d hi,hb,c2];rfl
 ·have c:=of_decide_eq_false c;refine ah ?_;unfold GA;rw [show g.toNat=l.length by omega,List.take_length] at hb;rw [hb];rfl
theorem ad1 {α:Type} {l:List α} {d:α} {P:α→Bool} (hl:(l.length:Int)≤9223372036854775807):W (bV (fun (self:Int→M Int) g=>bif (decide (g<(l.length:Int))) then
  need (0≤g∧g<(l.length:Int))<|
  bif (P (l.getD g.toNat d)) then
   ret g
  else
   need (InI64 (g+(1:Int)))<|
   self (g+(1:Int))
 else
  ret (-1:Int)) (0:Int)) (fun r=>r=GA l P):=by
 refine bA (fun (g:Int)=>0≤g∧g≤l.length∧(l.take g.toNat).any P=false) (fun (g:Int)=>(l.length - g).toNat) ?_ ⟨om,om,by simp⟩;intro self g ⟨h0,h1,hb⟩ ih;refine bP (fun c=>?_) (fun c=>?_)
 ·have c:=of_decide_eq_true c;refine aZ ⟨h0,c⟩ ?_;have hi:g.toNat<l.length:=by omega
  refine bP (fun c2=>?_) (fun c2=>?_)
  ·exact ah (Ub h0 c hb c2).symm
  ·refine aZ (by unfold InI64; omega) ?_;refine ih _ ⟨om,om,?_⟩ om;rw [show (g+1).toNat=g.toNat+1 by omega,any_take_succ l P d hi,hb,c2];rfl
 ·have c:=of_decide_eq_false c;refine ah ?_;unfold GA;rw [show g.toNat=l.length by omega,List.take_length] at hb;rw [hb];rfl
theorem JF {m:M Int} {v:Int} {b:Bool} (h:W m (fun r=>r=v)) (hb:decide (0≤v)=b):bnd m (fun v1=>ret (decide ((0:Int)≤v1))) b:=by
 refine jm (av h fun v1 h1=>ah ?_);subst h1;exact hb
theorem eD {A:Type} [Inhabited A] {c:Prop} {d:Decidable c} {m:M A} {v:A} (h:c→m v):W (grd c m) (fun r=>r=v):=⟨v,h,rfl⟩
theorem aa5 {R:Type} {F:(Int→M R)→Int→M R} {Q:R→Prop} (n:Nat) (inv:Nat→Prop) (h:∀(self:Int→M R) (i:Nat),i≤n→inv i→(i<n→inv (i+1)→W (self ((i:Int)+1)) Q)→W (F self (i:Int)) Q) (h0:inv 0):W (bV F (0:Int)) Q:=by
 refine bA (fun (g:Int)=>∃i:Nat,g=i∧i≤n∧inv i) (fun (g:Int)=>(n - g).toNat) ?_ ⟨0,rfl,Nat.zero_le _,h0⟩;rintro self g ⟨i,rfl,hi,hv⟩ ih;refine h self i hi hv fun h1 h2=>?_;exact ih _ ⟨i+1,by simp,h1,h2⟩ om
end Go.Ab


namespace Go.Ab
theorem ady {σ R:Type} {len:Nat} {B:Nat→(σ→M R)→σ→M R} {fin:σ→M R} {Q:R→Prop} (inv:Nat→σ→Prop) (h:∀(k:Nat) (self:σ→M R) (s:σ),k<len→inv k s→(∀s',inv (k+1) s'→W (self s') Q)→W (B k self s) Q) (hf:∀s,inv len s→W (fin s) Q) {s:σ} (h0:inv 0 s):W (T9 len B fin len s) Q:=by
 have key:∀j s,j≤len→inv (len - j) s→W (T9 len B fin j s) Q:=by
  intro j;induction j with
  | zero=>intro s _ hi; exact hf s hi
  | succ j ih=>
   intro s hj hi;refine h (len - (j+1)) _ s om hi fun s' hs=>ih s' om ?_;rwa [show len - (j+1)+1=len - j by omega] at hs
 exact key len s (Nat.le_refl _) (by rw [Nat.sub_self]; exact h0)
theorem nr {p q : Prop} (h : p) (e : p = q := by (try simp only [Bool.and_eq_true, Bool.or_eq_true, Bool.and_eq_false_iff, Bool.or_eq_false_iff, decide_eq_true_eq, decide_eq_false_iff_not, Bool.not_eq_true', Bool.not_eq_false', beq_iff_eq, bne_iff_ne, ne_eq, beq_eq_false_iff_ne, bne_eq_false_iff_eq, Int.not_lt, Int.not_le, Bool.not_eq_true, Bool.not_eq_false]); try rfl) : q := e ▸ h
theorem ob {p : Prop} (h : p := by
  intros; (try dsimp only); first
  | omega
  | assumption
  | trivial
  | (simp only [InI64, big, eT, List.length_take, List.length_drop, List.length_append, List.length_cons, List.length_nil, List.length_set, List.length_replicate, List.length_map, List.length_range]; omega)
  | (simp only [InI64, big, List.length_take, List.length_drop, List.length_append, List.length_cons, List.length_nil, List.length_set, List.length_replicate] at *; omega)
  | (rw [Int.tmod_eq_emod_of_nonneg (by omega)]; (try simp only [List.length_cons, List.length_nil]); omega)
  | (repeat' apply And.intro) <;> first
    | omega
    | assumption
    | trivial
    | (simp only [InI64, big, eT, List.length_take, List.length_drop, List.length_append, List.length_cons, List.length_nil, List.length_set, List.length_replicate, List.length_map, List.length_range]; omega)
    | (simp only [InI64, big, List.length_take, List.length_drop, List.length_append, List.length_cons, List.length_nil, List.length_set, List.length_replicate] at *; omega)
    | (rw [Int.tmod_eq_emod_of_nonneg (by omega)]; (try simp only [List.length_cons, List.length_nil]); omega)
    | ((simp only [List.forall_mem_append, List.forall_mem_singleton, List.forall_mem_cons, List.not_mem_nil, false_implies, implies_true, and_true]); done)
    | ((simp only [List.forall_mem_append, List.forall_mem_singleton, List.forall_mem_cons, List.not_mem_nil, false_implies, implies_true, and_true]); (repeat' apply And.intro) <;> first | omega | assumption | trivial | (simp only [InI64, big, List.length_take, List.length_drop, List.length_append, List.length_cons, List.length_nil, List.length_set, List.length_replicate] at *; omega))
    | (simp_all; done)
    | (simp_all; omega)) : p := h
theorem wi {R : Type} {b : Bool} {p q : Prop} {x y : M R} {Q : R → Prop} (h1 : p → W x Q) (h2 : q → W y Q) (e1 : (b = true) = p := by (try simp only [Bool.and_eq_true, Bool.or_eq_true, Bool.and_eq_false_iff, Bool.or_eq_false_iff, decide_eq_true_eq, decide_eq_false_iff_not, Bool.not_eq_true', Bool.not_eq_false', beq_iff_eq, bne_iff_ne, ne_eq, beq_eq_false_iff_ne, bne_eq_false_iff_eq, Int.not_lt, Int.not_le, Bool.not_eq_true, Bool.not_eq_false]); try rfl) (e2 : (b = false) = q := by (try simp only [Bool.and_eq_true, Bool.or_eq_true, Bool.and_eq_false_iff, Bool.or_eq_false_iff, decide_eq_true_eq, decide_eq_false_iff_not, Bool.not_eq_true', Bool.not_eq_false', beq_iff_eq, bne_iff_ne, ne_eq, beq_eq_false_iff_ne, bne_eq_false_iff_eq, Int.not_lt, Int.not_le, Bool.not_eq_true, Bool.not_eq_false]); try rfl) : W (cond b x y) Q := bP (fun c => h1 (e1 ▸ c)) (fun c => h2 (e2 ▸ c))
theorem wn {R : Type} {p : Prop} {d : Decidable p} {m : M R} {Q : R → Prop} (h : W m Q) (hp : p := by exact ob) : W (need p m) Q := aZ hp h
theorem wm {R : Type} {p p' : Prop} {d : Decidable p} {d' : Decidable p'} {m : M R} {Q : R → Prop} (h : W m Q) (hp : p := by exact ob) (hp' : p' := by exact ob) : W (need p (need p' m)) Q := aZ hp (aZ hp' h)
end Go.Ab


namespace Go.Proofs.YtfblhejmclcdmaaGreatDoor
open Go.Ab
set_option maxRecDepth 100000
theorem K3 (x n:Int) (h:0<n) : -n<x.tmod n∧x.tmod n<n:=by
 have h1:=Int.natAbs_tmod x n;have h2:=Nat.mod_lt x.natAbs (show 0<n.natAbs by omega);omega
theorem VA:∀(k i:Nat) (g:Nat→AV) (s:ByteArray),(Cz k i g s).size=s.size+k:=by
 intro k;induction k with
 | zero=>intro i g s; rfl
 | succ k ih=>intro i g s; unfold Cz; rw [ih,ByteArray.size_push]; omega
theorem Xu (l:List Int):(strOf l).size=l.length:=by
 unfold strOf;rw [VA];simp
theorem Uc {α:Type} {P:α→Prop} {l:List α} {i:Nat} {y:α} (h:∀x∈l,P x) (hy:P y):∀x∈l.set i y,P x:=fun x hx=>by
 rcases List.mem_or_eq_of_mem_set hx with e | e
 ·exact h x e
 ·subst e; exact hy
structure aa6 (b:aU):Prop where
 ncl:b.bD.length≤5
 cl:∀c∈b.bD,c.Parents.length≤2∧c.Choices.length≤3
 nsu:b.aV.length≤3
 su:∀c∈b.aV,c.bK.length≤3
 ngr:b.aN.Groups.length≤5
 gr:∀c∈b.aN.Groups,c.bn.length≤10∧c.Functions.length≤2
 nre:b.Resets.length≤4
 re:∀c∈b.Resets,c.After.length≤100
 ndo:b.bI.length≤4
theorem getD_in {α:Type} {l:List α} {i:Nat} (d:α) (h:i<l.length):l.getD i d∈l:=by
 rw [List.getD_eq_getElem?_getD,List.getElem?_eq_getElem h];exact List.getElem_mem h
theorem VB {l_:(List Int)}:W (Io l_) (fun r=>r.2=0∧r.1.length≤600):=by
 unfold Io;refine aZ (by (split<;>omega)) ?_;refine ah ?_;(simp only [List.length_take]; refine ⟨trivial,?_⟩; split<;>omega)
theorem VD {x_:Int} {n_:Int} (h1:n_≤2000000):W (Ip x_ n_) (fun r=>0≤r∧(0<n_→r<n_)∧(n_<1→r=0)):=by
 unfold Ip;refine wi (fun c1=>?_) (fun c1=>?_)
 ·refine ah ?_;exact ob
 ·refine wn ?_;refine aZ (by (have:=K3 x_ n_ om; unfold InI64; omega)) ?_;refine wn ?_;refine ah ?_;(have h:=K3 x_ n_ om; have h2:=K3 (x_.tmod n_+n_) n_ om; have h3:=Int.tmod_nonneg (a:=x_.tmod n_+n_) n_ om; omega)
theorem aY {n_:Int} {o0_:bH} (h1:n_≤2000000) (h2:0≤o0_.At) (h3:o0_.L.length≤600):W (bS n_ o0_) (fun r=>0≤r.1∧(0<n_→r.1<n_)∧(n_<1→r.1=0)∧0≤r.2.At∧r.2.L.length≤600):=by
 unfold bS;refine wi (fun c1=>?_) (fun c1=>?_)
 ·refine ah ?_;exact ob
 ·refine wm ?_;refine wn ?_;refine av (VD ob) fun v1 hv1=>?_;obtain ⟨hv1_1,hv1_2,hv1_3⟩:=hv1;refine ah ?_;exact ob
theorem dJ {lo_:Int} {hi_:Int} {o0_:bH} (h1 : -2000000≤lo_) (h2:hi_≤100000) (h3:lo_≤hi_+1) (h4:hi_ - lo_≤100000) (h5:0≤o0_.At) (h6:o0_.L.length≤600):W (dH lo_ hi_ o0_) (fun r=>lo_≤r.1∧(lo_≤hi_→r.1≤hi_)∧(hi_<lo_→r.1=lo_)∧0≤r.2.At∧r.2.L.length≤600):=by
 unfold dH;refine wm ?_;refine av (aY ob ob ob) fun v1 hv1=>?_;obtain ⟨hv1_1,hv1_2,hv1_3,hv1_4,hv1_5⟩:=hv1;refine wn ?_;refine ah ?_;exact ob
theorem dF {l_:(List Int)} {o0_:bH} (h1:0<l_.length) (h2:l_.length≤1000) (h3:0≤o0_.At) (h4:o0_.L.length≤600):W (dP l_ o0_) (fun r=>(∃i:Nat,i<l_.length∧r.1=l_.getD i 0)∧0≤r.2.At∧r.2.L.length≤600):=by
 unfold dP;refine av (aY ob ob ob) fun v1 hv1=>?_;obtain ⟨hv1_1,hv1_2,hv1_3,hv1_4,hv1_5⟩:=hv1;refine wn ?_;refine ah ?_;(exact ⟨⟨v1.1.toNat,om,rfl⟩,ob⟩)
theorem BS {l_:(List ByteArray)} {o0_:bH} (h1:0<l_.length) (h2:l_.length≤1000) (h3:0≤o0_.At) (h4:o0_.L.length≤600):W (nu l_ o0_) (fun r=>(∃i:Nat,i<l_.length∧r.1=l_.getD i ByteArray.empty)∧0≤r.2.At∧r.2.L.length≤600):=by
 unfold nu;refine av (aY ob ob ob) fun v1 hv1=>?_;obtain ⟨hv1_1,hv1_2,hv1_3,hv1_4,hv1_5⟩:=hv1;refine wn ?_;refine ah ?_;(exact ⟨⟨v1.1.toNat,om,rfl⟩,ob⟩)
theorem iP:W (kZ) (fun r=>r=[({ data:=#[117,97,114,116] }:ByteArray),({ data:=#[115,112,105] }:ByteArray),({ data:=#[105,50,99] }:ByteArray),({ data:=#[112,119,109] }:ByteArray)]):=by
 unfold kZ;refine ah ?_;rfl
theorem sV {n_:Int} {k_:Int} {o0_:bH} (h1:0≤n_) (h2:n_≤1000) (h3:1≤k_) (h4:k_≤100) (h5:0≤o0_.At) (h6:o0_.L.length≤600):W (kQ n_ k_ o0_) (fun r=>r.1.length≤n_.toNat∧(∀p∈r.1,0≤p∧p<n_)∧0≤r.2.At∧r.2.L.length≤600):=by
 unfold kQ;refine bA (fun (g1:(Int×(List Int)×Int×(List Int)))=>0≤g1.1∧g1.1≤n_∧0≤g1.2.2.1∧g1.2.1.length≤600∧(g1.2.2.2.length:Int)≤g1.1∧(∀p∈g1.2.2.2,0≤p∧p<n_)) (fun (g1:(Int×(List Int)×Int×(List Int)))=>(n_ - g1.1).toNat) ?_ ?_
 ·intro self1 g1 hig1 ihg1;obtain ⟨hg1_1,hg1_2,hg1_3,hg1_4,hg1_5,hg1_6⟩:=hig1;unfold zL;refine wi (fun c1=>?_) (fun c1=>?_)
  ·refine av (aY ob ob ob) fun v3 hv3=>?_;obtain ⟨hv3_1,hv3_2,hv3_3,hv3_4,hv3_5⟩:=hv3;refine wn ?_;refine wi (fun c2=>?_) (fun c2=>?_)
   ·refine wm ?_;refine ihg1 _ ?_ ?_
    ·exact ob
    ·exact ob
   ·refine wn ?_;refine ihg1 _ ?_ ?_
    ·exact ob
    ·exact ob
  ·refine ah ?_;exact ob
 ·exact ob
theorem J7 {most_:Int} {o0_:bH} (h1:0≤most_) (h2:most_≤100) (h3:0≤o0_.At) (h4:o0_.L.length≤600):W (nR most_ o0_) (fun r=>r.1.length≤most_.toNat∧(∀x∈r.1,x.After.length≤100)∧0≤r.2.At∧r.2.L.length≤600):=by
 unfold nR;refine wn ?_;refine av (aY ob ob ob) fun v1 hv1=>?_;obtain ⟨hv1_1,hv1_2,hv1_3,hv1_4,hv1_5⟩:=hv1;refine bA (fun (g1:(Int×(List Int)×Int×(List cK)))=>0≤g1.1∧0≤g1.2.2.1∧g1.2.1.length≤600∧(g1.2.2.2.length:Int)+g1.1≤most_∧(∀x∈g1.2.2.2,x.After.length≤100)) (fun (g1:(Int×(List Int)×Int×(List cK)))=>g1.1.toNat) ?_ ?_
 ·intro self1 g1 hig1 ihg1;obtain ⟨hg1_1,hg1_2,hg1_3,hg1_4,hg1_5⟩:=hig1;unfold wG;refine wi (fun c1=>?_) (fun c1=>?_)
  ·refine av (sV ob ob ob ob ob ob) fun v4 hv4=>?_;obtain ⟨hv4_1,hv4_2,hv4_3,hv4_4⟩:=hv4;refine wm ?_;refine ihg1 _ ?_ ?_
   ·exact ob
   ·exact ob
  ·refine ah ?_;exact ob
 ·exact ob
theorem IU {most_:Int} {o0_:bH} (h1:0≤most_) (h2:most_≤50) (h3:0≤o0_.At) (h4:o0_.L.length≤600):W (mJ most_ o0_) (fun r=>r.1.length≤most_.toNat∧0≤r.2.At∧r.2.L.length≤600):=by
 unfold mJ;refine wn ?_;refine av (aY ob ob ob) fun v1 hv1=>?_;obtain ⟨hv1_1,hv1_2,hv1_3,hv1_4,hv1_5⟩:=hv1;refine bA (fun (g1:(Int×(List Int)×Int×(List ByteArray)))=>0≤g1.1∧0≤g1.2.2.1∧g1.2.1.length≤600∧(g1.2.2.2.length:Int)+g1.1≤most_) (fun (g1:(Int×(List Int)×Int×(List ByteArray)))=>g1.1.toNat) ?_ ?_
 ·intro self1 g1 hig1 ihg1;obtain ⟨hg1_1,hg1_2,hg1_3,hg1_4⟩:=hig1;unfold uS;refine wi (fun c1=>?_) (fun c1=>?_)
  ·refine av (iP) fun v6 hv6=>?_;subst hv6;refine av (BS ob ob ob ob) fun v7 hv7=>?_;obtain ⟨hv7_1,hv7_2,hv7_3⟩:=hv7;refine wm ?_;refine ihg1 _ ?_ ?_
   ·exact ob
   ·exact ob
  ·refine ah ?_;exact ob
 ·exact ob
theorem IV {most_:Int} {o0_:bH} (h1:0≤most_) (h2:most_≤50) (h3:0≤o0_.At) (h4:o0_.L.length≤600):W (mI most_ o0_) (fun r=>r.1.length≤most_.toNat∧0≤r.2.At∧r.2.L.length≤600):=by
 unfold mI;refine wn ?_;refine av (aY ob ob ob) fun v1 hv1=>?_;obtain ⟨hv1_1,hv1_2,hv1_3,hv1_4,hv1_5⟩:=hv1;refine bA (fun (g1:(Int×(List Int)×Int×(List bT)))=>0≤g1.1∧0≤g1.2.2.1∧g1.2.1.length≤600∧(g1.2.2.2.length:Int)+g1.1≤most_) (fun (g1:(Int×(List Int)×Int×(List bT)))=>g1.1.toNat) ?_ ?_
 ·intro self1 g1 hig1 ihg1;obtain ⟨hg1_1,hg1_2,hg1_3,hg1_4⟩:=hig1;unfold uR;refine wi (fun c1=>?_) (fun c1=>?_)
  ·refine wn ?_;refine av (dJ ob ob ob ob ob ob) fun v6 hv6=>?_;obtain ⟨hv6_1,hv6_2,hv6_3,hv6_4,hv6_5⟩:=hv6;refine av (aY ob ob ob) fun v7 hv7=>?_;obtain ⟨hv7_1,hv7_2,hv7_3,hv7_4,hv7_5⟩:=hv7;refine wm ?_;refine ihg1 _ ?_ ?_
   ·exact ob
   ·exact ob
  ·refine ah ?_;exact ob
 ·exact ob
theorem J8 {o0_:bH} (h1:0≤o0_.At) (h2:o0_.L.length≤600):W (nP o0_) (fun r=>r.1.length≤5∧(∀c∈r.1,c.Parents.length≤2∧c.Choices.length≤3)∧0≤r.2.At∧r.2.L.length≤600):=by
 unfold nP;refine av (aY ob ob ob) fun v1 hv1=>?_;obtain ⟨hv1_1,hv1_2,hv1_3,hv1_4,hv1_5⟩:=hv1;refine bA (fun (g1:(Int×(List Int)×Int×(List aC)))=>0≤g1.1∧0≤g1.2.2.1∧g1.2.1.length≤600∧(g1.2.2.2.length:Int)+g1.1≤5∧(∀c∈g1.2.2.2,c.Parents.length≤2∧c.Choices.length≤3)) (fun (g1:(Int×(List Int)×Int×(List aC)))=>g1.1.toNat) ?_ ?_
 ·intro self1 g1 hig1 ihg1;obtain ⟨hg1_1,hg1_2,hg1_3,hg1_4,hg1_5⟩:=hig1;unfold wD;refine wi (fun c1=>?_) (fun c1=>?_)
  ·refine av (dF ob ob ob ob) fun v28 hv28=>?_;obtain ⟨hv28_1,hv28_2,hv28_3⟩:=hv28;refine wi (fun c2=>?_) (fun c2=>?_)
   ·refine av (aY ob ob ob) fun v41 hv41=>?_;obtain ⟨hv41_1,hv41_2,hv41_3,hv41_4,hv41_5⟩:=hv41;refine wi (fun c3=>?_) (fun c3=>?_)
    ·refine av (aY ob ob ob) fun v42 hv42=>?_;obtain ⟨hv42_1,hv42_2,hv42_3,hv42_4,hv42_5⟩:=hv42;refine av (aY ob ob ob) fun v49 hv49=>?_;obtain ⟨hv49_1,hv49_2,hv49_3,hv49_4,hv49_5⟩:=hv49;refine wi (fun c4=>?_) (fun c4=>?_)
     ·refine av (dF ob ob ob ob) fun v50 hv50=>?_;obtain ⟨hv50_1,hv50_2,hv50_3⟩:=hv50;unfold dV;refine av (aY ob ob ob) fun v47 hv47=>?_;obtain ⟨hv47_1,hv47_2,hv47_3,hv47_4,hv47_5⟩:=hv47;refine wi (fun c5=>?_) (fun c5=>?_)
      ·refine av (dF ob ob ob ob) fun v48 hv48=>?_;obtain ⟨hv48_1,hv48_2,hv48_3⟩:=hv48;unfold cO;refine wm ?_;refine ihg1 _ ?_ ?_
       ·exact ob
       ·exact ob
      ·unfold cO;refine wm ?_;refine ihg1 _ ?_ ?_
       ·exact ob
       ·exact ob
     ·refine wi (fun c6=>?_) (fun c6=>?_)
      ·refine av (dF ob ob ob ob) fun v51 hv51=>?_;obtain ⟨hv51_1,hv51_2,hv51_3⟩:=hv51;unfold dV;refine av (aY ob ob ob) fun v47 hv47=>?_;obtain ⟨hv47_1,hv47_2,hv47_3,hv47_4,hv47_5⟩:=hv47;refine wi (fun c7=>?_) (fun c7=>?_)
       ·refine av (dF ob ob ob ob) fun v48 hv48=>?_;obtain ⟨hv48_1,hv48_2,hv48_3⟩:=hv48;unfold cO;refine wm ?_;refine ihg1 _ ?_ ?_
        ·exact ob
        ·exact ob
       ·unfold cO;refine wm ?_;refine ihg1 _ ?_ ?_
        ·exact ob
        ·exact ob
      ·refine wi (fun c8=>?_) (fun c8=>?_)
       ·unfold dV;refine av (aY ob ob ob) fun v47 hv47=>?_;obtain ⟨hv47_1,hv47_2,hv47_3,hv47_4,hv47_5⟩:=hv47;refine wi (fun c9=>?_) (fun c9=>?_)
        ·refine av (dF ob ob ob ob) fun v48 hv48=>?_;obtain ⟨hv48_1,hv48_2,hv48_3⟩:=hv48;unfold cO;refine wm ?_;refine ihg1 _ ?_ ?_
         ·exact ob
         ·exact ob
        ·unfold cO;refine wm ?_;refine ihg1 _ ?_ ?_
         ·exact ob
         ·exact ob
       ·refine wi (fun c10=>?_) (fun c10=>?_)
        ·refine wn ?_;refine av (aY ob ob ob) fun v52 hv52=>?_;obtain ⟨hv52_1,hv52_2,hv52_3,hv52_4,hv52_5⟩:=hv52;refine wn ?_;unfold dV;refine av (aY ob ob ob) fun v47 hv47=>?_;obtain ⟨hv47_1,hv47_2,hv47_3,hv47_4,hv47_5⟩:=hv47;refine wi (fun c11=>?_) (fun c11=>?_)
         ·refine av (dF ob ob ob ob) fun v48 hv48=>?_;obtain ⟨hv48_1,hv48_2,hv48_3⟩:=hv48;unfold cO;refine wm ?_;refine ihg1 _ ?_ ?_
          ·exact ob
          ·exact ob
         ·unfold cO;refine wm ?_;refine ihg1 _ ?_ ?_
          ·exact ob
          ·exact ob
        ·unfold dV;refine av (aY ob ob ob) fun v47 hv47=>?_;obtain ⟨hv47_1,hv47_2,hv47_3,hv47_4,hv47_5⟩:=hv47;refine wi (fun c12=>?_) (fun c12=>?_)
         ·refine av (dF ob ob ob ob) fun v48 hv48=>?_;obtain ⟨hv48_1,hv48_2,hv48_3⟩:=hv48;unfold cO;refine wm ?_;refine ihg1 _ ?_ ?_
          ·exact ob
          ·exact ob
         ·unfold cO;refine wm ?_;refine ihg1 _ ?_ ?_
          ·exact ob
          ·exact ob
    ·unfold cO;refine wm ?_;refine ihg1 _ ?_ ?_
     ·exact ob
     ·exact ob
   ·refine wn ?_;unfold cO;refine wm ?_;refine ihg1 _ ?_ ?_
    ·exact ob
    ·exact ob
  ·refine ah ?_;exact ob
 ·exact ob
theorem GD {o0_:bH} (h1:0≤o0_.At) (h2:o0_.L.length≤600):W (lM o0_) (fun r=>r.1.length≤3∧(∀c∈r.1,c.bK.length≤3)∧0≤r.2.At∧r.2.L.length≤600):=by
 unfold lM;refine av (aY ob ob ob) fun v1 hv1=>?_;obtain ⟨hv1_1,hv1_2,hv1_3,hv1_4,hv1_5⟩:=hv1;refine bA (fun (g1:(Int×(List Int)×Int×(List au)))=>0≤g1.1∧0≤g1.2.2.1∧g1.2.1.length≤600∧(g1.2.2.2.length:Int)+g1.1≤3∧(∀c∈g1.2.2.2,c.bK.length≤3)) (fun (g1:(Int×(List Int)×Int×(List au)))=>g1.1.toNat) ?_ ?_
 ·intro self1 g1 hig1 ihg1;obtain ⟨hg1_1,hg1_2,hg1_3,hg1_4,hg1_5⟩:=hig1;unfold rZ;refine wi (fun c1=>?_) (fun c1=>?_)
  ·refine wn ?_;refine av (dJ ob ob ob ob ob ob) fun v12 hv12=>?_;obtain ⟨hv12_1,hv12_2,hv12_3,hv12_4,hv12_5⟩:=hv12;refine av (dF ob ob ob ob) fun v13 hv13=>?_;obtain ⟨hv13_1,hv13_2,hv13_3⟩:=hv13;refine av (dF ob ob ob ob) fun v14 hv14=>?_;obtain ⟨hv14_1,hv14_2,hv14_3⟩:=hv14;refine av (aY ob ob ob) fun v15 hv15=>?_;obtain ⟨hv15_1,hv15_2,hv15_3,hv15_4,hv15_5⟩:=hv15;refine wi (fun c2=>?_) (fun c2=>?_)
   ·unfold iE;refine av (aY ob ob ob) fun v16 hv16=>?_;obtain ⟨hv16_1,hv16_2,hv16_3,hv16_4,hv16_5⟩:=hv16;refine wn ?_;refine wi (fun c3=>?_) (fun c3=>?_)
    ·refine wm ?_;refine ihg1 _ ?_ ?_
     ·exact ob
     ·exact ob
    ·refine wi (fun c4=>?_) (fun c4=>?_)
     ·refine wm ?_;refine ihg1 _ ?_ ?_
      ·exact ob
      ·exact ob
     ·refine wi (fun c5=>?_) (fun c5=>?_)
      ·refine wm ?_;refine ihg1 _ ?_ ?_
       ·exact ob
       ·exact ob
      ·refine wi (fun c6=>?_) (fun c6=>?_)
       ·refine wm ?_;refine ihg1 _ ?_ ?_
        ·exact ob
        ·exact ob
       ·refine wm ?_;refine ihg1 _ ?_ ?_
        ·exact ob
        ·exact ob
   ·unfold iE;refine av (aY ob ob ob) fun v16 hv16=>?_;obtain ⟨hv16_1,hv16_2,hv16_3,hv16_4,hv16_5⟩:=hv16;refine wn ?_;refine wi (fun c7=>?_) (fun c7=>?_)
    ·refine wm ?_;refine ihg1 _ ?_ ?_
     ·exact ob
     ·exact ob
    ·refine wi (fun c8=>?_) (fun c8=>?_)
     ·refine wm ?_;refine ihg1 _ ?_ ?_
      ·exact ob
      ·exact ob
     ·refine wi (fun c9=>?_) (fun c9=>?_)
      ·refine wm ?_;refine ihg1 _ ?_ ?_
       ·exact ob
       ·exact ob
      ·refine wi (fun c10=>?_) (fun c10=>?_)
       ·refine wm ?_;refine ihg1 _ ?_ ?_
        ·exact ob
        ·exact ob
       ·refine wm ?_;refine ihg1 _ ?_ ?_
        ·exact ob
        ·exact ob
  ·refine ah ?_;exact ob
 ·exact ob
theorem J9 {o0_:bH} (h1:0≤o0_.At) (h2:o0_.L.length≤600):W (nQ o0_) (fun r=>r.1.Groups.length≤5∧(∀c∈r.1.Groups,c.bn.length≤10∧c.Functions.length≤2)∧0≤r.2.At∧r.2.L.length≤600):=by
 unfold nQ;refine av (dJ ob ob ob ob ob ob) fun v1 hv1=>?_;obtain ⟨hv1_1,hv1_2,hv1_3,hv1_4,hv1_5⟩:=hv1;refine av (aY ob ob ob) fun v2 hv2=>?_;obtain ⟨hv2_1,hv2_2,hv2_3,hv2_4,hv2_5⟩:=hv2;refine bA (fun (g1:(Int×(List Int)×Int×(List bG)))=>0≤g1.1∧0≤g1.2.2.1∧g1.2.1.length≤600∧(g1.2.2.2.length:Int)+g1.1≤5∧(∀c∈g1.2.2.2,c.bn.length≤10∧c.Functions.length≤2)) (fun (g1:(Int×(List Int)×Int×(List bG)))=>g1.1.toNat) ?_ ?_
 ·intro self1 g1 hig1 ihg1;obtain ⟨hg1_1,hg1_2,hg1_3,hg1_4,hg1_5⟩:=hig1;unfold wF;refine wi (fun c1=>?_) (fun c1=>?_)
  ·refine wn ?_;refine aZ (by (rw [Xu,show ({ data:=#[103] }:ByteArray).size=1 from rfl]; simp only [List.length_cons,List.length_nil]; omega)) ?_;refine av (aY ob ob ob) fun v35 hv35=>?_;obtain ⟨hv35_1,hv35_2,hv35_3,hv35_4,hv35_5⟩:=hv35;refine bA (fun (g12:(Int×(List Int)×Int×(List Int)))=>0≤g12.1∧0≤g12.2.2.1∧g12.2.1.length≤600∧(g12.2.2.2.length:Int)≤g12.1∧g12.1≤10) (fun (g12:(Int×(List Int)×Int×(List Int)))=>(10 - g12.1).toNat) ?_ ?_
   ·intro self12 g12 hig12 ihg12;obtain ⟨hg12_1,hg12_2,hg12_3,hg12_4,hg12_5⟩:=hig12;unfold wE;refine wi (fun c2=>?_) (fun c2=>?_)
    ·refine av (dJ ob ob ob ob ob ob) fun v38 hv38=>?_;obtain ⟨hv38_1,hv38_2,hv38_3,hv38_4,hv38_5⟩:=hv38;refine wn ?_;refine wi (fun c3=>?_) (fun c3=>?_)
     ·refine wm ?_;refine ihg12 _ ?_ ?_
      ·exact ob
      ·exact ob
     ·refine wi (fun c4=>?_) (fun c4=>?_)
      ·unfold jd;refine av (aY ob ob ob) fun v39 hv39=>?_;obtain ⟨hv39_1,hv39_2,hv39_3,hv39_4,hv39_5⟩:=hv39;refine av (iP) fun v40 hv40=>?_;subst hv40;refine wn ?_;refine av (aY ob ob ob) fun v43 hv43=>?_;obtain ⟨hv43_1,hv43_2,hv43_3,hv43_4,hv43_5⟩:=hv43;refine wi (fun c5=>?_) (fun c5=>?_)
       ·refine av (iP) fun v44 hv44=>?_;subst hv44;refine wm ?_;refine wm ?_;unfold fQ;refine wm ?_;refine ihg1 _ ?_ ?_
        ·exact ob
        ·exact ob
       ·unfold fQ;refine wm ?_;refine ihg1 _ ?_ ?_
        ·exact ob
        ·exact ob
      ·unfold jd;refine av (aY ob ob ob) fun v39 hv39=>?_;obtain ⟨hv39_1,hv39_2,hv39_3,hv39_4,hv39_5⟩:=hv39;refine av (iP) fun v40 hv40=>?_;subst hv40;refine wn ?_;refine av (aY ob ob ob) fun v43 hv43=>?_;obtain ⟨hv43_1,hv43_2,hv43_3,hv43_4,hv43_5⟩:=hv43;refine wi (fun c6=>?_) (fun c6=>?_)
       ·refine av (iP) fun v44 hv44=>?_;subst hv44;refine wm ?_;refine wm ?_;unfold fQ;refine wm ?_;refine ihg1 _ ?_ ?_
        ·exact ob
        ·exact ob
       ·unfold fQ;refine wm ?_;refine ihg1 _ ?_ ?_
        ·exact ob
        ·exact ob
    ·refine wn ?_;refine wi (fun c7=>?_) (fun c7=>?_)
     ·unfold gY;refine av (aY ob ob ob) fun v45 hv45=>?_;obtain ⟨hv45_1,hv45_2,hv45_3,hv45_4,hv45_5⟩:=hv45;refine av (iP) fun v46 hv46=>?_;subst hv46;refine wn ?_;refine av (aY ob ob ob) fun v49 hv49=>?_;obtain ⟨hv49_1,hv49_2,hv49_3,hv49_4,hv49_5⟩:=hv49;refine wi (fun c8=>?_) (fun c8=>?_)
      ·refine av (iP) fun v50 hv50=>?_;subst hv50;refine wm ?_;refine wm ?_;unfold fE;refine wm ?_;refine ihg1 _ ?_ ?_
       ·exact ob
       ·exact ob
      ·unfold fE;refine wm ?_;refine ihg1 _ ?_ ?_
       ·exact ob
       ·exact ob
     ·unfold gY;refine av (aY ob ob ob) fun v45 hv45=>?_;obtain ⟨hv45_1,hv45_2,hv45_3,hv45_4,hv45_5⟩:=hv45;refine av (iP) fun v46 hv46=>?_;subst hv46;refine wn ?_;refine av (aY ob ob ob) fun v49 hv49=>?_;obtain ⟨hv49_1,hv49_2,hv49_3,hv49_4,hv49_5⟩:=hv49;refine wi (fun c9=>?_) (fun c9=>?_)
      ·refine av (iP) fun v50 hv50=>?_;subst hv50;refine wm ?_;refine wm ?_;unfold fE;refine wm ?_;refine ihg1 _ ?_ ?_
       ·exact ob
       ·exact ob
      ·unfold fE;refine wm ?_;refine ihg1 _ ?_ ?_
       ·exact ob
       ·exact ob
   ·exact ob
  ·refine ah ?_;exact ob
 ·exact ob
theorem K4 {o0_:bH} (h1:0≤o0_.At) (h2:o0_.L.length≤600):W (o9 o0_) (fun r=>aa6 r.1∧0≤r.2.At∧r.2.L.length≤600):=by
 unfold o9;refine av (J8 ob ob) fun v1 hv1=>?_;obtain ⟨hv1_1,hv1_2,hv1_3,hv1_4⟩:=hv1;refine av (GD ob ob) fun v2 hv2=>?_;obtain ⟨hv2_1,hv2_2,hv2_3,hv2_4⟩:=hv2;refine av (J9 ob ob) fun v3 hv3=>?_;obtain ⟨hv3_1,hv3_2,hv3_3,hv3_4⟩:=hv3;refine av (J7 ob ob ob ob) fun v4 hv4=>?_;obtain ⟨hv4_1,hv4_2,hv4_3,hv4_4⟩:=hv4;refine av (IV ob ob ob ob) fun v5 hv5=>?_;obtain ⟨hv5_1,hv5_2,hv5_3⟩:=hv5;refine ah ?_;(refine ⟨⟨ob,hv1_2,ob,hv2_2,ob,hv3_2,ob,hv4_2,ob⟩,ob,ob⟩)
theorem K5 {b_:aU} {o0_:bH} (h1:b_.bD.length≤100) (h2:0≤o0_.At) (h3:o0_.L.length≤600):W (pq b_ o0_) (fun r=>0≤r.2.At∧r.2.L.length≤600):=by
 unfold pq;refine av (aY ob ob ob) fun v1 hv1=>?_;obtain ⟨hv1_1,hv1_2,hv1_3,hv1_4,hv1_5⟩:=hv1;refine av (dF ob ob ob ob) fun v2 hv2=>?_;obtain ⟨hv2_1,hv2_2,hv2_3⟩:=hv2;refine av (dF ob ob ob ob) fun v3 hv3=>?_;obtain ⟨hv3_1,hv3_2,hv3_3⟩:=hv3;refine ah ?_;exact ob
theorem ME {b_:aU} {o0_:bH} (h1:b_.aV.length≤100) (h2:0≤o0_.At) (h3:o0_.L.length≤600):W (qP b_ o0_) (fun r=>0≤r.2.At∧r.2.L.length≤600):=by
 unfold qP;refine av (aY ob ob ob) fun v1 hv1=>?_;obtain ⟨hv1_1,hv1_2,hv1_3,hv1_4,hv1_5⟩:=hv1;refine av (dF ob ob ob ob) fun v2 hv2=>?_;obtain ⟨hv2_1,hv2_2,hv2_3⟩:=hv2;refine av (dF ob ob ob ob) fun v3 hv3=>?_;obtain ⟨hv3_1,hv3_2,hv3_3⟩:=hv3;refine av (dF ob ob ob ob) fun v4 hv4=>?_;obtain ⟨hv4_1,hv4_2,hv4_3⟩:=hv4;refine ah ?_;exact ob
theorem qw {v1:(Int×bH)} {g1:(Int×(List Int)×Int×(List aH))} {self1:(Int×(List Int)×Int×(List aH))→M ((List aH)×bH)} {v46:(Int×bH)} {g14:((List Int)×Int×(List bJ))} {g15:((List Int)×Int×(List bB))} {g16:((List Int)×Int×(List ByteArray))} {v53:((List Int)×bH)} {g18:((List Int)×Int×(List Int))} {Q:((List aH)×bH)→Prop} (ihg1:∀s':(Int×(List Int)×Int×(List aH)),(0≤s'.1∧s'.1≤v1.1∧0≤s'.2.2.1∧s'.2.1.length≤600∧(s'.2.2.2.length:Int)=s'.1∧(∀x∈s'.2.2.2,x.Limits.length≤1∧x.Draws.length≤1∧x.Functions.length≤2∧x.Resets.length≤100∧x.aL.length≤100∧(∀p∈x.aL,0≤p∧p<v1.1)))→(v1.1 - s'.1).toNat<(v1.1 - g1.1).toNat→W (self1 s') Q) (hc:0≤g18.2.1∧g18.1.length≤600∧g18.2.2.length≤100∧(∀p∈g18.2.2,0≤p∧p<v1.1)∧g14.2.2.length≤1∧g15.2.2.length≤1∧g16.2.2.length≤2∧v53.1.length≤100∧0≤g1.1∧g1.1<v1.1∧v1.1≤51∧(g1.2.2.2.length:Int)=g1.1∧(∀x∈g1.2.2.2,x.Limits.length≤1∧x.Draws.length≤1∧x.Functions.length≤2∧x.Resets.length≤100∧x.aL.length≤100∧(∀p∈x.aL,0≤p∧p<v1.1))):W (iF g1 self1 v46 g14 g15 g16 v53 g18) Q:=by
 obtain ⟨hc_1,hc_2,hc_3,hc_4,hc_5,hc_6,hc_7,hc_8,hc_9,hc_10,hc_11,hc_12,hc_13⟩:=hc;unfold iF;refine wm ?_;refine ihg1 _ ?_ ?_
 ·exact ob
 ·exact ob
theorem qx {v1:(Int×bH)} {g1:(Int×(List Int)×Int×(List aH))} {self1:(Int×(List Int)×Int×(List aH))→M ((List aH)×bH)} {v46:(Int×bH)} {g14:((List Int)×Int×(List bJ))} {g15:((List Int)×Int×(List bB))} {g16:((List Int)×Int×(List ByteArray))} {v53:((List Int)×bH)} {g19:(Int×(List Int)×Int)} {Q:((List aH)×bH)→Prop} (ihg1:∀s':(Int×(List Int)×Int×(List aH)),(0≤s'.1∧s'.1≤v1.1∧0≤s'.2.2.1∧s'.2.1.length≤600∧(s'.2.2.2.length:Int)=s'.1∧(∀x∈s'.2.2.2,x.Limits.length≤1∧x.Draws.length≤1∧x.Functions.length≤2∧x.Resets.length≤100∧x.aL.length≤100∧(∀p∈x.aL,0≤p∧p<v1.1)))→(v1.1 - s'.1).toNat<(v1.1 - g1.1).toNat→W (self1 s') Q) (hc:0≤g19.2.2∧g19.2.1.length≤600∧0≤g19.1∧g19.1≤51∧g14.2.2.length≤1∧g15.2.2.length≤1∧g16.2.2.length≤2∧v53.1.length≤100∧g19.1≤v1.1∧0≤g1.1∧g1.1<v1.1∧v1.1≤51∧(g1.2.2.2.length:Int)=g1.1∧(∀x∈g1.2.2.2,x.Limits.length≤1∧x.Draws.length≤1∧x.Functions.length≤2∧x.Resets.length≤100∧x.aL.length≤100∧(∀p∈x.aL,0≤p∧p<v1.1))):W (iG g1 self1 v46 g14 g15 g16 v53 g19) Q:=by
 obtain ⟨hc_1,hc_2,hc_3,hc_4,hc_5,hc_6,hc_7,hc_8,hc_9,hc_10,hc_11,hc_12,hc_13,hc_14⟩:=hc;unfold iG;refine av (sV ob ob ob ob ob ob) fun v60 hv60=>?_;obtain ⟨hv60_1,hv60_2,hv60_3,hv60_4⟩:=hv60;exact qw (v1:=v1) (fun a b c=>ihg1 a b c) (by (refine ⟨ob,ob,ob,fun p hp=>(by have:=hv60_2 p hp; omega),ob,ob,ob,ob,ob,ob,ob,ob,hc_14⟩))
theorem qy {b_:aU} {v1:(Int×bH)} {g1:(Int×(List Int)×Int×(List aH))} {self1:(Int×(List Int)×Int×(List aH))→M ((List aH)×bH)} {v46:(Int×bH)} {g14:((List Int)×Int×(List bJ))} {g15:((List Int)×Int×(List bB))} {g16:((List Int)×Int×(List ByteArray))} {Q:((List aH)×bH)→Prop} (ihg1:∀s':(Int×(List Int)×Int×(List aH)),(0≤s'.1∧s'.1≤v1.1∧0≤s'.2.2.1∧s'.2.1.length≤600∧(s'.2.2.2.length:Int)=s'.1∧(∀x∈s'.2.2.2,x.Limits.length≤1∧x.Draws.length≤1∧x.Functions.length≤2∧x.Resets.length≤100∧x.aL.length≤100∧(∀p∈x.aL,0≤p∧p<v1.1)))→(v1.1 - s'.1).toNat<(v1.1 - g1.1).toNat→W (self1 s') Q) (hc:0≤g16.2.1∧g16.1.length≤600∧g14.2.2.length≤1∧g15.2.2.length≤1∧g16.2.2.length≤2∧b_.Resets.length≤4∧0≤g1.1∧g1.1<v1.1∧v1.1≤51∧(g1.2.2.2.length:Int)=g1.1∧(∀x∈g1.2.2.2,x.Limits.length≤1∧x.Draws.length≤1∧x.Functions.length≤2∧x.Resets.length≤100∧x.aL.length≤100∧(∀p∈x.aL,0≤p∧p<v1.1))):W (iH b_ v1 g1 self1 v46 g14 g15 g16) Q:=by
 obtain ⟨hc_1,hc_2,hc_3,hc_4,hc_5,hc_6,hc_7,hc_8,hc_9,hc_10,hc_11⟩:=hc;unfold iH;refine av (sV ob ob ob ob ob ob) fun v53 hv53=>?_;obtain ⟨hv53_1,hv53_2,hv53_3,hv53_4⟩:=hv53;refine av (aY ob ob ob) fun v58 hv58=>?_;obtain ⟨hv58_1,hv58_2,hv58_3,hv58_4,hv58_5⟩:=hv58;refine wi (fun c1=>?_) (fun c1=>?_)
 ·refine av (aY ob ob ob) fun v61 hv61=>?_;obtain ⟨hv61_1,hv61_2,hv61_3,hv61_4,hv61_5⟩:=hv61;refine wi (fun c2=>?_) (fun c2=>?_)
  ·exact qx (v1:=v1) (fun a b c=>ihg1 a b c) ob
  ·exact qx (v1:=v1) (fun a b c=>ihg1 a b c) ob
 ·exact qw (v1:=v1) (fun a b c=>ihg1 a b c) ob
theorem kT {b_:aU} {v1:(Int×bH)} {g1:(Int×(List Int)×Int×(List aH))} {self1:(Int×(List Int)×Int×(List aH))→M ((List aH)×bH)} {v46:(Int×bH)} {g14:((List Int)×Int×(List bJ))} {g15:((List Int)×Int×(List bB))} {Q:((List aH)×bH)→Prop} (ihg1:∀s':(Int×(List Int)×Int×(List aH)),(0≤s'.1∧s'.1≤v1.1∧0≤s'.2.2.1∧s'.2.1.length≤600∧(s'.2.2.2.length:Int)=s'.1∧(∀x∈s'.2.2.2,x.Limits.length≤1∧x.Draws.length≤1∧x.Functions.length≤2∧x.Resets.length≤100∧x.aL.length≤100∧(∀p∈x.aL,0≤p∧p<v1.1)))→(v1.1 - s'.1).toNat<(v1.1 - g1.1).toNat→W (self1 s') Q) (hc:0≤g15.2.1∧g15.1.length≤600∧g14.2.2.length≤1∧g15.2.2.length≤1∧b_.Resets.length≤4∧0≤g1.1∧g1.1<v1.1∧v1.1≤51∧(g1.2.2.2.length:Int)=g1.1∧(∀x∈g1.2.2.2,x.Limits.length≤1∧x.Draws.length≤1∧x.Functions.length≤2∧x.Resets.length≤100∧x.aL.length≤100∧(∀p∈x.aL,0≤p∧p<v1.1))):W (gB b_ v1 g1 self1 v46 g14 g15) Q:=by
 obtain ⟨hc_1,hc_2,hc_3,hc_4,hc_5,hc_6,hc_7,hc_8,hc_9,hc_10⟩:=hc;unfold gB;refine av (aY ob ob ob) fun v62 hv62=>?_;obtain ⟨hv62_1,hv62_2,hv62_3,hv62_4,hv62_5⟩:=hv62;refine wi (fun c1=>?_) (fun c1=>?_)
 ·refine av (IU ob ob ob ob) fun v63 hv63=>?_;obtain ⟨hv63_1,hv63_2,hv63_3⟩:=hv63;exact qy (fun a b c=>ihg1 a b c) ob
 ·exact qy (fun a b c=>ihg1 a b c) ob
theorem lS {b_:aU} {v1:(Int×bH)} {g1:(Int×(List Int)×Int×(List aH))} {self1:(Int×(List Int)×Int×(List aH))→M ((List aH)×bH)} {v46:(Int×bH)} {g14:((List Int)×Int×(List bJ))} {Q:((List aH)×bH)→Prop} (ihg1:∀s':(Int×(List Int)×Int×(List aH)),(0≤s'.1∧s'.1≤v1.1∧0≤s'.2.2.1∧s'.2.1.length≤600∧(s'.2.2.2.length:Int)=s'.1∧(∀x∈s'.2.2.2,x.Limits.length≤1∧x.Draws.length≤1∧x.Functions.length≤2∧x.Resets.length≤100∧x.aL.length≤100∧(∀p∈x.aL,0≤p∧p<v1.1)))→(v1.1 - s'.1).toNat<(v1.1 - g1.1).toNat→W (self1 s') Q) (hc:0≤g14.2.1∧g14.1.length≤600∧g14.2.2.length≤1∧b_.Resets.length≤4∧b_.aV.length≤3∧0≤g1.1∧g1.1<v1.1∧v1.1≤51∧(g1.2.2.2.length:Int)=g1.1∧(∀x∈g1.2.2.2,x.Limits.length≤1∧x.Draws.length≤1∧x.Functions.length≤2∧x.Resets.length≤100∧x.aL.length≤100∧(∀p∈x.aL,0≤p∧p<v1.1))):W (gP b_ v1 g1 self1 v46 g14) Q:=by
 obtain ⟨hc_1,hc_2,hc_3,hc_4,hc_5,hc_6,hc_7,hc_8,hc_9,hc_10⟩:=hc;unfold gP;refine wi (fun c1=>?_) (fun c1=>?_)
 ·refine av (aY ob ob ob) fun v64 hv64=>?_;obtain ⟨hv64_1,hv64_2,hv64_3,hv64_4,hv64_5⟩:=hv64;refine wi (fun c2=>?_) (fun c2=>?_)
  ·refine av (ME ob ob ob) fun v65 hv65=>?_;obtain ⟨hv65_1,hv65_2⟩:=hv65;refine wn ?_;exact kT (fun a b c=>ihg1 a b c) ob
  ·exact kT (fun a b c=>ihg1 a b c) ob
 ·refine wn ?_;exact kT (fun a b c=>ihg1 a b c) ob
theorem IW {b_:aU} {most_:Int} {o0_:bH} (h1:aa6 b_) (h2:0≤most_) (h3:most_≤50) (h4:0≤o0_.At) (h5:o0_.L.length≤600):W (mK b_ most_ o0_) (fun r=>r.1.length≤most_.toNat∧(∀x∈r.1,x.Limits.length≤1∧x.Draws.length≤1∧x.Functions.length≤2∧x.Resets.length≤100∧x.aL.length≤100∧(∀p∈x.aL,0≤p∧p<(r.1.length:Int)))∧0≤r.2.At∧r.2.L.length≤600):=by
 obtain ⟨q1,q2,q3,q4,q5,q6,q7,q8,q9⟩:=h1;unfold mK;refine wn ?_;refine av (aY ob ob ob) fun v1 hv1=>?_;obtain ⟨hv1_1,hv1_2,hv1_3,hv1_4,hv1_5⟩:=hv1;refine bA (fun (g1:(Int×(List Int)×Int×(List aH)))=>0≤g1.1∧g1.1≤v1.1∧0≤g1.2.2.1∧g1.2.1.length≤600∧(g1.2.2.2.length:Int)=g1.1∧(∀x∈g1.2.2.2,x.Limits.length≤1∧x.Draws.length≤1∧x.Functions.length≤2∧x.Resets.length≤100∧x.aL.length≤100∧(∀p∈x.aL,0≤p∧p<v1.1))) (fun (g1:(Int×(List Int)×Int×(List aH)))=>(v1.1 - g1.1).toNat) ?_ ?_
 ·intro self1 g1 hig1 ihg1;obtain ⟨hg1_1,hg1_2,hg1_3,hg1_4,hg1_5,hg1_6⟩:=hig1;unfold uT;refine wi (fun c1=>?_) (fun c1=>?_)
  ·refine wn ?_;refine av (dJ ob ob ob ob ob ob) fun v46 hv46=>?_;obtain ⟨hv46_1,hv46_2,hv46_3,hv46_4,hv46_5⟩:=hv46;refine wi (fun c2=>?_) (fun c2=>?_)
   ·refine av (aY ob ob ob) fun v66 hv66=>?_;obtain ⟨hv66_1,hv66_2,hv66_3,hv66_4,hv66_5⟩:=hv66;refine wi (fun c3=>?_) (fun c3=>?_)
    ·refine av (K5 ob ob ob) fun v67 hv67=>?_;obtain ⟨hv67_1,hv67_2⟩:=hv67;refine wn ?_;exact lS (fun a b c=>ihg1 a b c) ob
    ·exact lS (fun a b c=>ihg1 a b c) ob
   ·refine wn ?_;exact lS (fun a b c=>ihg1 a b c) ob
  ·have hlen:(g1.2.2.2.length:Int)=v1.1:=by omega
   refine wi (fun c4=>?_) (fun c4=>?_)
   ·refine av (aY ob ob ob) fun v68 hv68=>?_;obtain ⟨hv68_1,hv68_2,hv68_3,hv68_4,hv68_5⟩:=hv68;refine wi (fun c5=>?_) (fun c5=>?_)
    ·refine wn ?_;refine bA (fun (g20:(Int×Int×(List aH)))=>0≤g20.1 ∧ -1≤g20.2.1∧g20.2.1<v1.1∧g20.1≤v1.1∧(g20.2.2.length:Int)=v1.1∧(∀x∈g20.2.2,x.Limits.length≤1∧x.Draws.length≤1∧x.Functions.length≤2∧x.Resets.length≤100∧x.aL.length≤100∧(∀p∈x.aL,0≤p∧p<v1.1))) (fun (g20:(Int×Int×(List aH)))=>(g20.2.1 - g20.1).toNat) ?_ ?_
     ·intro self20 g20 hig20 ihg20;obtain ⟨hg20_1,hg20_2,hg20_3,hg20_4,hg20_5,hg20_6⟩:=hig20;unfold sw;refine wi (fun c6=>?_) (fun c6=>?_)
      ·refine wm ?_;refine wm ?_;refine wm ?_;refine ihg20 _ ?_ ?_
       ·(refine ⟨ob,ob,ob,ob,ob,Uc (Uc hg20_6 (hg20_6 _ (getD_in _ om))) (hg20_6 _ (getD_in _ om))⟩)
       ·exact ob
      ·refine bA (fun (g21:(Int×(List aH)))=>0≤g21.1∧(g21.2.length:Int)=v1.1∧(∀x∈g21.2,x.Limits.length≤1∧x.Draws.length≤1∧x.Functions.length≤2∧x.Resets.length≤100∧x.aL.length≤100∧(∀p∈x.aL,0≤p∧p<v1.1))) (fun (g21:(Int×(List aH)))=>(v1.1 - g21.1).toNat) ?_ ?_
       ·intro self21 g21 hig21 ihg21;obtain ⟨hg21_1,hg21_2,hg21_3⟩:=hig21;unfold sj;refine wi (fun c7=>?_) (fun c7=>?_)
        ·have q:=hg21_3 (g21.2.getD g21.1.toNat aP) (getD_in _ om);refine wm ?_;refine bA (fun (g24:(Int×(List Int))) => -1≤g24.1∧g24.1<(g21.2.getD g21.1.toNat aP).aL.length∧(g24.2.length:Int)+g24.1<(g21.2.getD g21.1.toNat aP).aL.length∧(∀p∈g24.2,0≤p∧p<v1.1)) (fun (g24:(Int×(List Int)))=>(g24.1+1).toNat) ?_ ?_
         ·intro self24 g24 hig24 ihg24;obtain ⟨hg24_1,hg24_2,hg24_3,hg24_4⟩:=hig24;unfold r9;refine wi (fun c8=>?_) (fun c8=>?_)
          ·have q2:=q.2.2.2.2.2 _ (getD_in (i:=g24.1.toNat) 0 om);refine wm ?_;refine wm ?_;refine wm ?_;refine ihg24 _ ?_ ?_
           ·exact ob
           ·exact ob
          ·refine wm ?_;refine ihg21 _ ?_ ?_
           ·(refine ⟨ob,ob,Uc hg21_3 ⟨q.1,q.2.1,q.2.2.1,q.2.2.2.1,ob,hg24_4⟩⟩)
           ·exact ob
         ·exact ob
        ·refine ah ?_;(refine ⟨ob,fun x hx=>?_,ob,ob⟩; have q:=hg21_3 x hx; rw [hg21_2]; exact q)
       ·exact ob
     ·exact ob
    ·refine ah ?_;(refine ⟨ob,fun x hx=>?_,ob,ob⟩; have q:=hg1_6 x hx; rw [hlen]; exact q)
   ·refine wn ?_;refine ah ?_;(refine ⟨ob,fun x hx=>?_,ob,ob⟩; have q:=hg1_6 x hx; rw [hlen]; exact q)
 ·exact ob
end Go.Proofs.YtfblhejmclcdmaaGreatDoor


namespace Go.Proofs.YtfblhejmclcdmaaGreatDoor
open Go.Ab
set_option maxRecDepth 100000
deriving instance DecidableEq for aC,bF,bJ
def withinF (n lo hi:Int):Bool:=decide (lo≤n)&&decide (n≤hi)
def ru (lo hi:Int):List Int→List Int→Bool
 | _,[]=>true
 | pre,n::r=>bif !(withinF n lo hi)||pre.contains n then false else ru lo hi (pre++[n]) r
theorem Pb {lo hi n:Int} {pre r:List Int} (h:(!(withinF n lo hi)||pre.contains n)=true):ru lo hi pre (n::r)=false:=by rw [ru,h]; rfl
theorem Ud {lo hi n:Int} {pre r:List Int} (h:(!(withinF n lo hi)||pre.contains n)=false):ru lo hi pre (n::r)=ru lo hi (pre++[n]) r:=by rw [ru,h]; rfl
def gL (a b:Int):Int:=(Nat.gcd a.toNat b.toNat:Nat)
def validR (r:bF):Bool:=decide (0≤r.Num)&&decide (r.Num≤144115188075855872)&&decide (1≤r.Den)&&decide (r.Den≤16777216)&&(gL r.Num r.Den==1)
def newR (num den:Int):bF×Int:=bif decide (num<0)||decide (den<1) then (⟨0,0⟩,2) else
 bif !validR ⟨num.tdiv (gL num den),den.tdiv (gL num den)⟩ then (⟨0,0⟩,2) else (⟨num.tdiv (gL num den),den.tdiv (gL num den)⟩,0)
theorem vk (a b:Int) (h:0<b):0<gL a b:=by
 unfold gL;have:0<b.toNat:=by omega
 have:=Nat.gcd_pos_of_pos_right a.toNat this;omega
theorem tdiv_le (a k:Int) (ha:0≤a) (hk:0<k):0≤a.tdiv k∧a.tdiv k≤a:=by
 rw [Int.tdiv_eq_ediv_of_nonneg ha];exact ⟨Int.ediv_nonneg ha om,Int.ediv_le_self _ ha⟩
def rz (k:Int):Bool:=decide (1≤k)&&decide (k≤64)
def mD (r:bF) (k:Int):bF×Int:=bif !validR r then (⟨0,0⟩,1) else bif !rz k then (⟨0,0⟩,2) else
 bif decide ((144115188075855872:Int).tdiv (k.tdiv (gL k r.Den))<r.Num) then (⟨0,0⟩,2) else newR (r.Num*(k.tdiv (gL k r.Den))) (r.Den.tdiv (gL k r.Den))
def vo (r:bF) (k:Int):bF×Int:=bif !validR r then (⟨0,0⟩,1) else bif !rz k then (⟨0,0⟩,2) else newR r.Num (r.Den*k)
theorem jL {r:bF} (h:validR r=true):0≤r.Num∧r.Num≤144115188075855872∧1≤r.Den∧r.Den≤16777216∧gL r.Num r.Den=1:=by
 unfold validR at h;simp at h;omega
theorem ad2 (k d:Int) (hk:1≤k∧k≤64) (hd:1≤d):1≤k.tdiv (gL k d)∧k.tdiv (gL k d)≤64:=by
 have hg:=vk k d om;have h1:=tdiv_le k (gL k d) om hg;have hdvd:Nat.gcd k.toNat d.toNat∣k.toNat:=Nat.gcd_dvd_left _ _;have h2:0<k.toNat / Nat.gcd k.toNat d.toNat:=Nat.div_pos (Nat.le_of_dvd om hdvd) (by unfold gL at hg; omega);have h3:k.tdiv (gL k d)=((k.toNat / Nat.gcd k.toNat d.toNat:Nat):Int):=by
  unfold gL;rw [Int.tdiv_eq_ediv_of_nonneg om];have:k=(k.toNat:Int):=by omega
  rw [Int.natCast_ediv,← this]
 omega
theorem Zd (a b:Int) (ha:0≤a) (hb:1≤b) (h:a≤(144115188075855872:Int).tdiv b):0≤a*b∧a*b≤144115188075855872:=by
 rw [Int.tdiv_eq_ediv_of_nonneg (by decide)] at h;have:=(Int.le_ediv_iff_mul_le om).1 h;exact ⟨Int.mul_nonneg ha om,this⟩
theorem K6 (c a b:Nat) (hc:0<c) (hb:0<b):newR (c*a:Nat) (c*b:Nat)=newR a b:=by
 have hcb:0<c*b:=Nat.mul_pos hc hb;have g0:0<Nat.gcd a b:=Nat.gcd_pos_of_pos_right a hb;have e1:gL (c*a:Nat) (c*b:Nat)=((c*Nat.gcd a b:Nat):Int):=by
  unfold gL;rw [Int.toNat_natCast,Int.toNat_natCast,Nat.gcd_mul_left]
 have e2:gL (a:Nat) (b:Nat)=(Nat.gcd a b:Nat):=by
  unfold gL;rw [Int.toNat_natCast,Int.toNat_natCast]
 have d:∀x:Nat,((c*x:Nat):Int).tdiv ((c*Nat.gcd a b:Nat):Int)=(x:Int).tdiv (Nat.gcd a b:Nat):=by
  intro x;rw [← Int.ofNat_tdiv,← Int.ofNat_tdiv,Nat.mul_div_mul_left _ _ hc]
 unfold newR;have c1:(decide (((c*a:Nat):Int)<0)||decide (((c*b:Nat):Int)<1))=false:=by
  have h1:¬ (((c*b:Nat):Int)<1):=Int.not_lt.2 (Int.ofNat_le.2 hcb);rw [decide_eq_false (Int.not_lt.2 (Int.natCast_nonneg _)),decide_eq_false h1];rfl
 have c2:(decide ((a:Int)<0)||decide ((b:Int)<1))=false:=by simp; omega
 rw [c1,c2,e1,e2,d a,d b]
theorem Ze (num den k:Int) (hn:0≤num) (hd:1≤den) (hk:1≤k):newR (num.tdiv (gL num k)) (den*(k.tdiv (gL num k)))=newR num (den*k):=by
 obtain ⟨n,rfl⟩:=Int.eq_ofNat_of_zero_le hn;obtain ⟨d,rfl⟩:=Int.eq_ofNat_of_zero_le (show 0≤den by omega);obtain ⟨k,rfl⟩:=Int.eq_ofNat_of_zero_le (show 0≤k by omega);have hg:gL (n:Nat) (k:Nat)=(Nat.gcd n k:Nat):=by unfold gL; rw [Int.toNat_natCast,Int.toNat_natCast]
 rw [hg,← Int.ofNat_tdiv,← Int.ofNat_tdiv];have g0:0<Nat.gcd n k:=Nat.gcd_pos_of_pos_right n om;obtain ⟨a,ha⟩:=Nat.gcd_dvd_left n k;obtain ⟨b,hb⟩:=Nat.gcd_dvd_right n k;have e1:n / Nat.gcd n k=a:=by rw [Nat.div_eq_of_eq_mul_right g0 ha]
 have e2:k / Nat.gcd n k=b:=by rw [Nat.div_eq_of_eq_mul_right g0 hb]
 rw [e1,e2];have hb0:0<b:=by
  rcases Nat.eq_zero_or_pos b with h | h
  ·rw [h] at hb; simp at hb; omega
  ·exact h
 have:=K6 (Nat.gcd n k) a (d*b) g0 (Nat.mul_pos om hb0);rw [← ha] at this;have e3:Nat.gcd n k*(d*b)=d*k:=by
  rw [Nat.mul_left_comm,← hb]
 rw [e3] at this;rw [← Int.natCast_mul,← Int.natCast_mul];exact this.symm
def mM (r:bF) (lo hi:Int):Bool:=validR r&&(decide (lo≤r.Num.tdiv r.Den)&&(decide (r.Num.tdiv r.Den<hi)||(r.Num.tdiv r.Den==hi&&r.Num.tmod r.Den==0)))
def bigC (c:aC):Bool:=decide (8<(c.Parents.length:Int))||decide (8<(c.Choices.length:Int))
def GH (n:Int) (x:bJ):Bool:=!withinF x.Clock 0 (n - 1)||!withinF x.High 0 4000000000||!withinF x.Low 0 x.High
def fJ (c:aC):Bool:=
 bif c.Kind==1 then ((c.Parents.length:Int)==0)&&((c.Choices.length:Int)==1)&&withinF (c.Choices.getD 0 0) 1 4000000000
 else bif c.Kind==2||c.Kind==3 then ((c.Parents.length:Int)==1)&&decide (0<(c.Choices.length:Int))&&ru 1 64 [] c.Choices
 else bif c.Kind==4 then decide (0<(c.Choices.length:Int))&&ru 0 ((c.Parents.length:Int) - 1) [] c.Choices
 else bif c.Kind==5 then ((c.Parents.length:Int)==1)&&(c.Choices==[0,1])
 else false
def je (c:aC) (k:Int):Bool:=bif c.Parents.any (fun y=>!withinF y 0 (k - 1))||!withinF c.High 0 4000000000||!withinF c.Low 0 c.High then false else fJ c
theorem acJ (l:List Int) (hi:Int) (h:ru 0 hi [] l=true) (hl:0<l.length):0≤hi:=by
 cases l with
 | nil=>simp at hl
 | cons n l=>
  cases hw:withinF n 0 hi with
  | true=>simp [withinF] at hw; omega
  | false=>
   rw [Pb (by rw [hw]; rfl)] at h;cases h
def IX (a b:Int):Int:=if b > a then b else a
def Ka (c:aC):Bool:=c.Kind==2||c.Kind==3
def jC (acc:List Int) (l:List Int):Int:=l.foldl (fun n p=>IX n (acc.getD p.toNat 0)) 0
def Dh (acc:List Int) (c:aC):Int:=bif Ka c then jC acc c.Parents+1 else jC acc c.Parents
def fC (l:List aC):List Int:=l.foldl (fun acc c=>acc++[Dh acc c]) []
theorem xU (l:List aC) (c:aC):fC (l++[c])=fC l++[Dh (fC l) c]:=by
 unfold fC;rw [List.foldl_append];rfl
def Ym (l:List aC):Prop:=∀i,i<l.length→(l.getD i aF).Parents.length≤2000000∧∀p∈(l.getD i aF).Parents,0≤p∧p<i
theorem Di (acc:List Int) (b:Int) (hb0:0≤b) (hb:∀j:Nat,0≤acc.getD j 0∧acc.getD j 0≤b) (l:List Int):0≤jC acc l∧jC acc l≤b:=by
 have:∀(l:List Int) (n:Int),0≤n∧n≤b→0≤l.foldl (fun n p=>IX n (acc.getD p.toNat 0)) n∧l.foldl (fun n p=>IX n (acc.getD p.toNat 0)) n≤b:=by
  intro l;induction l with
  | nil=>exact fun n h=>h
  | cons p r ih=>
   intro n hn;refine ih _ ?_;show 0≤IX n (acc.getD p.toNat 0)∧IX n (acc.getD p.toNat 0)≤b;unfold IX;have:=hb p.toNat;split<;>omega
 exact this l 0 om
theorem gZ (l:List aC):(fC l).length=l.length∧∀j:Nat,0≤(fC l).getD j 0∧(fC l).getD j 0≤l.length:=by
 induction l using CP with
 | nil=>exact ⟨rfl,fun j=>by rw [Qi]; simp; exact Nat.zero_le _⟩
 | append_singleton l c ih=>
  obtain ⟨h1,h2⟩:=ih;rw [xU];have hb:=Di (fC l) l.length om h2 c.Parents;have hf:0≤Dh (fC l) c∧Dh (fC l) c≤l.length+1:=by
   unfold Dh;cases Ka c<;>simp only [cond_true,cond_false]<;>omega
  refine ⟨by rw [List.length_append,List.length_append,h1]; rfl,fun j=>?_⟩;have hlen:((l++[c]).length:Int)=l.length+1:=by rw [List.length_append]; rfl
  rw [hlen];by_cases hj:j<l.length
  ·rw [mV 0 om];have:=h2 j;omega
  ·by_cases hj2:j=l.length
   ·rw [jG 0 om]; exact hf
   ·rw [Qi 0 (by rw [List.length_append,h1]; simp; omega)];omega
def Oi (a b:Int):Int:=if b<a then b else a
def jM (l:List aC):Int:=l.foldl (fun p c=>Oi (p*c.Choices.length) 1099511627776) 1
def VE (l:List aC):Bool:=(List.range l.length).all fun i=>je (l.getD i aF) i
def cZ (l:List aC):Int:=bif decide (16<(l.length:Int))||l.any bigC then 3 else bif !VE l then 1 else bif decide (4096<jM l)||(fC l).any (fun n=>decide (4<n)) then 3 else 0
theorem SX {l:List aC} (h:∀i:Nat,i<l.length→je (l.getD i aF) i=true):VE l=true:=by
 unfold VE;rw [List.all_eq_true];intro i hi;exact h i (List.mem_range.1 hi)
theorem VF {l:List aC} (h:VE l=true) (i:Nat) (hi:i<l.length):je (l.getD i aF) i=true:=by
 unfold VE at h;rw [List.all_eq_true] at h;exact h i (List.mem_range.2 hi)
theorem Kc {l:List aC} {i:Nat} (hi:i<l.length) (h:je (l.getD i aF) i=false):VE l=false:=by
 cases hv:VE l with
 | false=>rfl
 | true=>rw [VF hv i hi] at h; cases h
theorem kE {α:Type} {l:List α} {p:α→Bool} (d:α) (h:l.any p=false) (i:Nat) (hi:i<l.length):p (l.getD i d)=false:=by
 rw [List.any_eq_false] at h;simpa using h _ (gF d hi)
theorem rA {α:Type} {l:List α} {p:α→Bool} (d:α) {i:Nat} (hi:i<l.length) (h:p (l.getD i d)=true):l.any p=true:=List.any_eq_true.2 ⟨_,gF d hi,h⟩
theorem any_none {α:Type} {l:List α} {p:α→Bool} (d:α) (h:∀i,i<l.length→p (l.getD i d)=false):l.any p=false:=by
 rw [List.any_eq_false];intro x hx;obtain ⟨i,hi,rfl⟩:=List.mem_iff_getElem.1 hx;have:=h i hi;rw [List.getD_eq_getElem?_getD,List.getElem?_eq_getElem hi] at this;simpa using this
theorem GI {c:aC} (h:bigC c=false):c.Parents.length≤8∧c.Choices.length≤8:=by
 unfold bigC at h;simp at h;omega
theorem GJ (l:List aC):0≤jM l∧jM l≤1099511627776:=by
 unfold jM;induction l using CP with
 | nil=>simp
 | append_singleton l c ih=>
  rw [List.foldl_append];show 0≤Oi (l.foldl _ 1*c.Choices.length) 1099511627776∧Oi (l.foldl _ 1*c.Choices.length) 1099511627776≤1099511627776;have:0≤l.foldl (fun p c=>Oi (p*(c:aC).Choices.length) 1099511627776) 1*(c.Choices.length:Int):=Int.mul_nonneg ih.1 om;generalize l.foldl (fun p c=>Oi (p*(c:aC).Choices.length) 1099511627776) 1*(c.Choices.length:Int)=q at this;unfold Oi;split<;>omega
theorem aa7 (l:List aC) (n:Int) (h:0≤n∧n≤8):0≤jM l*n∧jM l*n≤1099511627776*8:=by
 have hb:=GJ l;exact ⟨Int.mul_nonneg hb.1 h.1,Int.mul_le_mul hb.2 h.2 h.1 om⟩
theorem within_iff (n lo hi:Int):withinF n lo hi=true↔lo≤n∧n≤hi:=by
 unfold withinF;simp
theorem MF {c:aC} {k:Int} {j:Nat} (hj:j<c.Parents.length) (h:withinF (c.Parents.getD j 0) 0 (k - 1)=false):je c k=false:=by
 unfold je;have:c.Parents.any (fun y=>!withinF y 0 (k - 1))=true:=rA 0 hj (by show (!withinF (c.Parents.getD j 0) 0 (k - 1))=true; rw [h]; rfl);rw [this];rfl
theorem VG {c:aC} {k:Int} (h:∀j,j<c.Parents.length→withinF (c.Parents.getD j 0) 0 (k - 1)=true):je c k=!(!fJ c||decide (c.Low<0)||decide (c.High<c.Low)||decide (4000000000<c.High)):=by
 have e:c.Parents.any (fun y=>!withinF y 0 (k - 1))=false:=any_none 0 fun j hj=>by show (!withinF (c.Parents.getD j 0) 0 (k - 1))=false; rw [h j hj]; rfl
 unfold je;rw [e];cases hc:fJ c with
 | false=>cases (false||!withinF c.High 0 4000000000||!withinF c.Low 0 c.High)<;>rfl
 | true=>
  by_cases hg:(0≤c.Low∧c.Low≤c.High)∧c.High≤4000000000
  ·have h1:withinF c.High 0 4000000000=true:=(within_iff _ _ _).2 om;have h2:withinF c.Low 0 c.High=true:=(within_iff _ _ _).2 om;rw [h1,h2,decide_eq_false (show ¬ c.Low<0 by omega),decide_eq_false (show ¬ c.High<c.Low by omega),decide_eq_false (show ¬ 4000000000<c.High by omega)];rfl
  ·have h1:(false||!withinF c.High 0 4000000000||!withinF c.Low 0 c.High)=true:=by
    simp only [Bool.false_or,Bool.or_eq_true,Bool.not_eq_true',← Bool.not_eq_true,within_iff];omega
   have h2:(!true||decide (c.Low<0)||decide (c.High<c.Low)||decide (4000000000<c.High))=true:=by
    simp only [Bool.not_true,Bool.false_or,Bool.or_eq_true,decide_eq_true_eq];omega
   rw [h1,h2];rfl
theorem Dj {c:aC} {k:Int} (h:je c k=true):∀p∈c.Parents,0≤p∧p<k:=by
 intro p hp;unfold je at h;cases ha:c.Parents.any (fun y=>!withinF y 0 (k - 1)) with
 | true=>rw [ha] at h; cases h
 | false=>
  rw [List.any_eq_false] at ha;have:=ha p hp;simp only [Bool.not_eq_true,Bool.not_eq_false'] at this;have:=(within_iff _ _ _).1 this;omega
theorem VH {l:List aC} (h:∀i:Nat,i<l.length→je (l.getD i aF) i=true) (hb:∀i:Nat,i<l.length→bigC (l.getD i aF)=false):Ym l:=fun i hi=>⟨by have:=GI (hb i hi); omega,Dj (h i hi)⟩
theorem MG (l:List aC) (k:Nat):∀j,j<k→j<l.length→(fC l).getD j 0=(fC (l.take k)).getD j 0:=by
 induction l using CP with
 | nil=>intro j _ hj; cases hj
 | append_singleton l c ih=>
  intro j hjk hj;have hlen:=(gZ l).1;by_cases hk:k≤l.length
  ·rw [List.take_append_of_le_length hk,xU,mV 0 om];exact ih j hjk om
  ·rw [List.take_of_length_le (l:=l++[c]) (by rw [List.length_append]; simp; omega)]
theorem GK {c:aC} (h:fJ c=true):1≤c.Choices.length:=by
 cases hc:c.Choices with
 | nil=>
  unfold fJ at h;rw [hc] at h;cases h1:c.Kind==1<;>cases h2:(c.Kind==2||c.Kind==3)<;>cases h3:c.Kind==4<;>cases h4:c.Kind==5<;>rw [h1,h2,h3,h4] at h<;>simp at h
 | cons x r=>simp
theorem validC_choices {c:aC} {k:Int} (h:je c k=true):fJ c=true:=by
 unfold je at h;cases hb:(c.Parents.any (fun y=>!withinF y 0 (k - 1))||!withinF c.High 0 4000000000||!withinF c.Low 0 c.High) with
 | true=>rw [hb] at h; cases h
 | false=>rw [hb] at h; exact h
theorem Ke (l:List aC) (c:aC):jM (l++[c])=Oi (jM l*c.Choices.length) 1099511627776:=by
 unfold jM;rw [List.foldl_append];rfl
theorem Xv (l:List aC):(∀c∈l,1≤c.Choices.length)→∀k,jM (l.take k)≤jM l:=by
 induction l using CP with
 | nil=>intro _ k; rw [List.take_nil]; exact Int.le_refl _
 | append_singleton l c ih=>
  intro h k;by_cases hk:k≤l.length
  ·rw [List.take_append_of_le_length hk,Ke];have h1:=ih (fun d hd=>h d (List.mem_append_left _ hd)) k;have hb:=GJ l;have hc:=h c (List.mem_append_right _ (List.mem_singleton.2 rfl));have:jM l*1≤jM l*c.Choices.length:=Int.mul_le_mul_of_nonneg_left om hb.1;rw [Int.mul_one] at this;generalize jM l*(c.Choices.length:Int)=q at *;unfold Oi;split<;>omega
  ·rw [List.take_of_length_le (l:=l++[c]) (by rw [List.length_append]; simp; omega)];exact Int.le_refl _
def settB (l:List aC) (s:List Int):Bool:=((s.length:Int)==(l.length:Int))&&(List.range l.length).all fun i=>withinF (s.getD i 0) 0 ((l.getD i aF).Choices.length - 1)
theorem uh {n:Nat} {p:Nat→Bool} (h:∀i,i<n→p i=true):(List.range n).all p=true:=by
 rw [List.all_eq_true];intro i hi;exact h i (List.mem_range.1 hi)
theorem Ue {n:Nat} {p:Nat→Bool} (h:(List.range n).all p=true) {i:Nat} (hi:i<n):p i=true:=by
 rw [List.all_eq_true] at h;exact h i (List.mem_range.2 hi)
theorem rC {n:Nat} {p:Nat→Bool} {i:Nat} (hi:i<n) (h:p i=false):(List.range n).all p=false:=by
 cases hv:(List.range n).all p with
 | false=>rfl
 | true=>rw [Ue hv hi] at h; cases h
def Xw (l:List aC):Prop:=∀i:Nat,i<l.length→(l.getD i aF).Choices.length≤2000000
def limsB (l:List aC) (m:List bJ):Bool:=(cZ l==0)&&decide ((m.length:Int)≤32)&&!(m.any (GH l.length))
theorem aa8 (n:Int) (x:bJ):GH n x=(decide (x.Clock<0)||decide (n≤x.Clock)||decide (x.Low<0)||decide (x.High<x.Low)||decide (4000000000<x.High)):=by
 unfold GH;by_cases hg:(0≤x.Clock∧x.Clock≤n - 1)∧(0≤x.High∧x.High≤4000000000)∧(0≤x.Low∧x.Low≤x.High)
 ·rw [(within_iff _ _ _).2 hg.1,(within_iff _ _ _).2 hg.2.1,(within_iff _ _ _).2 hg.2.2,decide_eq_false (show ¬ x.Clock<0 by omega),decide_eq_false (show ¬ n≤x.Clock by omega),decide_eq_false (show ¬ x.Low<0 by omega),decide_eq_false (show ¬ x.High<x.Low by omega),decide_eq_false (show ¬ 4000000000<x.High by omega)];rfl
 ·have h1:(!withinF x.Clock 0 (n - 1)||!withinF x.High 0 4000000000||!withinF x.Low 0 x.High)=true:=by
   simp only [Bool.or_eq_true,Bool.not_eq_true',← Bool.not_eq_true,within_iff];omega
  have h2:(decide (x.Clock<0)||decide (n≤x.Clock)||decide (x.Low<0)||decide (x.High<x.Low)||decide (4000000000<x.High))=true:=by
   simp only [Bool.or_eq_true,decide_eq_true_eq];omega
  rw [h1,h2]
def Qr (c:aC) (k:Int):Prop:=(c.Kind=1)∨(c.Kind=4∧0≤k∧k<c.Choices.length∧0≤c.Choices.getD k.toNat 0∧c.Choices.getD k.toNat 0<c.Parents.length)∨(c.Kind≠4∧0<c.Parents.length)
def parF (c:aC) (k:Int):Int:=bif c.Kind==1 then -1 else bif c.Kind==4 then c.Parents.getD (c.Choices.getD k.toNat 0).toNat 0 else c.Parents.getD 0 0
def IY:bF:=⟨0,1⟩
def qz (r:bF):Bool:=(r.Num==0)&&((r.Den==1)&&true)
def Ry (acc:List bF) (c:aC) (k:Int):bF:=
 bif decide (parF c k<0) then ⟨c.Choices.getD k.toNat 0,1⟩ else
 bif qz (acc.getD (parF c k).toNat dA)||((c.Kind==5)&&(c.Choices.getD k.toNat 0==0)) then IY else
 bif c.Kind==2 then (vo (acc.getD (parF c k).toNat dA) (c.Choices.getD k.toNat 0)).1 else
 bif c.Kind==3 then (mD (acc.getD (parF c k).toNat dA) (c.Choices.getD k.toNat 0)).1 else acc.getD (parF c k).toNat dA
def pW (l:List aC) (s:List Int):Nat→List bF
 | 0=>[]
 | i+1=>pW l s i++[Ry (pW l s i) (l.getD i aF) (s.getD i 0)]
def fF (l:List aC) (s:List Int):List bF:=pW l s l.length
theorem sW (l:List aC) (s:List Int) (i:Nat):(pW l s i).length=i:=by
 induction i with
 | zero=>rfl
 | succ i ih=>simp [pW,ih]
structure Good (l:List aC) (s:List Int):Prop where
 small:l.length≤1000
 len:s.length=l.length
 Choices:∀i,i<l.length→0≤s.getD i 0∧s.getD i 0<(l.getD i aF).Choices.length
 pch:∀i,i<l.length→Qr (l.getD i aF) (s.getD i 0)
 Parents:∀i,i<l.length→parF (l.getD i aF) (s.getD i 0)<i
theorem SY {lo hi:Int}:∀(l pre:List Int),ru lo hi pre l=true→∀x∈l,lo≤x∧x≤hi:=by
 intro l;induction l with
 | nil=>intro _ _ x hx; cases hx
 | cons n r ih=>
  intro pre h x hx;cases hb:(!(withinF n lo hi)||pre.contains n) with
  | true=>rw [Pb hb] at h; cases h
  | false=>
   rw [Ud hb] at h;rcases List.mem_cons.1 hx with rfl | hx
   ·rw [Bool.or_eq_false_iff] at hb;have:=hb.1;simp only [Bool.not_eq_false'] at this;exact (within_iff _ _ _).1 this
   ·exact ih _ h x hx
theorem choicesB_cases {c:aC} (h:fJ c=true):
  (c.Kind=1∧c.Parents=[]∧c.Choices.length=1∧1≤c.Choices.getD 0 0∧c.Choices.getD 0 0≤4000000000)∨((c.Kind=2∨c.Kind=3)∧c.Parents.length=1∧0<c.Choices.length∧∀x∈c.Choices,1≤x∧x≤64)
  ∨ (c.Kind=4∧0<c.Choices.length∧∀x∈c.Choices,0≤x∧x≤(c.Parents.length:Int) - 1)∨(c.Kind=5∧c.Parents.length=1∧c.Choices=[0,1]):=by
 unfold fJ at h;cases h1:c.Kind==1 with
 | true=>
  rw [h1] at h;simp only [cond_true,Bool.and_eq_true,within_iff] at h;obtain ⟨⟨h2,h3⟩,h4⟩:=h;left;have h2:c.Parents.length=0:=by have:=eq_of_beq h2; omega
  exact ⟨eq_of_beq h1,List.length_eq_zero_iff.1 h2,by have:=eq_of_beq h3; omega,h4⟩
 | false=>
  rw [h1] at h;cases h2:(c.Kind==2||c.Kind==3) with
  | true=>
   rw [h2] at h;simp only [cond_true,cond_false,Bool.and_eq_true] at h;obtain ⟨⟨h3,h4⟩,h5⟩:=h;right; left;refine ⟨?_,by have:=eq_of_beq h3; omega,by have:=of_decide_eq_true h4; omega,SY _ _ h5⟩;rw [Bool.or_eq_true] at h2;exact h2.imp eq_of_beq eq_of_beq
  | false=>
   rw [h2] at h;cases h3:c.Kind==4 with
   | true=>
    rw [h3] at h;simp only [cond_true,cond_false,Bool.and_eq_true] at h;right; right; left;exact ⟨eq_of_beq h3,by have:=of_decide_eq_true h.1; omega,SY _ _ h.2⟩
   | false=>
    rw [h3] at h;cases h4:c.Kind==5 with
    | true=>
     rw [h4] at h;simp only [cond_true,cond_false,Bool.and_eq_true] at h;right; right; right;exact ⟨eq_of_beq h4,by have:=eq_of_beq h.1; omega,eq_of_beq h.2⟩
    | false=>rw [h4] at h; cases h
structure Rz (l:List aC):Prop where
 len:l.length≤16
 big:∀i:Nat,i<l.length→(l.getD i aF).Parents.length≤8∧(l.getD i aF).Choices.length≤8
 valid:∀i:Nat,i<l.length→je (l.getD i aF) i=true
 prod:jM l≤4096
 fC:∀i:Nat,i<l.length→(fC l).getD i 0≤4
theorem xE {l:List aC} (h:cZ l=0):Rz l:=by
 unfold cZ at h;cases h1:(decide (16<(l.length:Int))||l.any bigC) with
 | true=>rw [h1] at h; cases h
 | false=>
  rw [h1] at h;cases h2:VE l with
  | false=>rw [h2] at h; cases h
  | true=>
   rw [h2] at h;cases h3:(decide (4096<jM l)||(fC l).any (fun n=>decide (4<n))) with
   | true=>rw [h3] at h; cases h
   | false=>
    rw [Bool.or_eq_false_iff] at h1 h3;refine ⟨by have:=of_decide_eq_false h1.1; omega,fun i hi=>GI (kE aF h1.2 i hi),VF h2,by have:=of_decide_eq_false h3.1; omega,fun i hi=>?_⟩;have:=kE 0 h3.2 i (by rw [(gZ l).1]; exact hi);have:=of_decide_eq_false this;omega
theorem K7 {l:List aC} {s:List Int} (h:settB l s=true):s.length=l.length∧∀i:Nat,i<l.length→0≤s.getD i 0∧s.getD i 0<(l.getD i aF).Choices.length:=by
 unfold settB at h;rw [Bool.and_eq_true] at h;have hl:s.length=l.length:=by have:=eq_of_beq h.1; omega
 refine ⟨hl,fun i hi=>?_⟩;have:=h.2;rw [List.all_eq_true] at this;have:=this i (List.mem_range.2 om);have:=(within_iff _ _ _).1 this;omega
theorem VI {c:aC} {i:Nat} {k:Int} (hv:je c i=true) (hk:0≤k∧k<c.Choices.length):Qr c k∧parF c k<i:=by
 have hp:=Dj hv;unfold Qr parF;rcases choicesB_cases (validC_choices hv) with ⟨h1,h2,h3,h4⟩ | ⟨h1,h2,h3,h4⟩ | ⟨h1,h2,h3⟩ | ⟨h1,h2,h3⟩
 ·refine ⟨.inl h1,?_⟩;rw [h1];show (-1:Int)<i;omega
 ·have hn1:(c.Kind==1)=false:=by rcases h1 with h1 | h1<;>rw [h1]<;>rfl
  have hn4:(c.Kind==4)=false:=by rcases h1 with h1 | h1<;>rw [h1]<;>rfl
  refine ⟨.inr (.inr ⟨fun e=>(by rw [e] at hn4; cases hn4),om⟩),?_⟩;rw [hn1,hn4];exact (hp _ (gF 0 om)).2
 ·have hm:=h3 _ (gF 0 (i:=k.toNat) om);refine ⟨.inr (.inl ⟨h1,hk.1,hk.2,hm.1,om⟩),?_⟩;rw [h1];exact (hp _ (gF 0 (i:=(c.Choices.getD k.toNat 0).toNat) om)).2
 ·refine ⟨.inr (.inr ⟨by rw [h1]; decide,om⟩),?_⟩;rw [h1];exact (hp _ (gF 0 (i:=0) om)).2
theorem K8 {l:List aC} {s:List Int} (h:Rz l) (hs:settB l s=true):Good l s:=by
 obtain ⟨h1,h2⟩:=K7 hs;exact ⟨by have:=h.len; omega,h1,h2,fun i hi=>(VI (h.valid i hi) (h2 i hi)).1,fun i hi=>(VI (h.valid i hi) (h2 i hi)).2⟩
def Aq (l:List aC) (s:List Int):List bF×Int:=bif cZ l != 0 then ([],cZ l) else bif !settB l s then ([],1) else (fF l s,0)
def Xx (r:List bF) (x:bJ):Bool:=qz (r.getD x.Clock.toNat dA)||!mM (r.getD x.Clock.toNat dA) x.Low x.High
def ownX (r:bF) (c:aC):Bool:=((!qz r)&&(c.High != 0))&&!mM r c.Low c.High
def ownB (l:List aC) (r:List bF):Bool:=(List.range l.length).all fun i=>!ownX (r.getD i dA) (l.getD i aF)
def fA (l:List aC) (s:List Int) (m:List bJ):Bool:=(limsB l m&&settB l s)&&(ownB l (fF l s)&&!m.any (Xx (fF l s)))
theorem GL {l:List aC} {m:List bJ} (h:limsB l m=true):cZ l=0∧m.length≤32∧∀i,i<m.length→GH l.length (m.getD i dLimit)=false:=by
 unfold limsB at h;rw [Bool.and_eq_true,Bool.and_eq_true] at h;exact ⟨eq_of_beq h.1.1,by have:=of_decide_eq_true h.1.2; omega,fun i hi=>kE dLimit (by simpa using h.2) i hi⟩
theorem GN {n:Int} {x:bJ} (h:GH n x=false):(0≤x.Clock∧x.Clock<n)∧0≤x.Low∧x.Low≤x.High∧x.High≤4000000000:=by
 rw [aa8] at h;simp only [Bool.or_eq_false_iff,decide_eq_false_iff_not] at h;omega
def red (a b:Nat):bF:=⟨((a / Nat.gcd a b:Nat):Int),((b / Nat.gcd a b:Nat):Int)⟩
theorem Iw (a b:Nat) (hb:0<b) (ha':a≤144115188075855872) (hb':b≤16777216):validR (red a b)=true:=by
 have g0:0<Nat.gcd a b:=Nat.gcd_pos_of_pos_right a hb;have h1:a / Nat.gcd a b≤a:=Nat.div_le_self _ _;have h2:b / Nat.gcd a b≤b:=Nat.div_le_self _ _;have h3:0<b / Nat.gcd a b:=Nat.div_pos (Nat.le_of_dvd hb (Nat.gcd_dvd_right _ _)) g0;have h4:Nat.gcd (a / Nat.gcd a b) (b / Nat.gcd a b)=1:=by
  rw [Nat.gcd_div (Nat.gcd_dvd_left _ _) (Nat.gcd_dvd_right _ _),Nat.div_self g0]
 unfold validR red gL;simp only [Int.toNat_natCast,h4];generalize a / Nat.gcd a b=n at *;generalize b / Nat.gcd a b=d at *;simp;omega
theorem VJ (a b:Nat) (hb:0<b) (ha':a≤144115188075855872) (hb':b≤16777216):newR a b=(red a b,0):=by
 have hv:=Iw a b hb ha' hb';have e1:gL (a:Int) (b:Int)=(Nat.gcd a b:Nat):=by unfold gL; rw [Int.toNat_natCast,Int.toNat_natCast]
 have e2:(⟨(a:Int).tdiv (gL a b),(b:Int).tdiv (gL a b)⟩:bF)=red a b:=by
  rw [e1,← Int.ofNat_tdiv,← Int.ofNat_tdiv];rfl
 unfold newR;have c:(decide ((a:Int)<0)||decide ((b:Int)<1))=false:=by simp; omega
 rw [c,e2,hv];rfl
theorem S9 (a b:Nat) (hb:0<b):∃g n d:Nat,0<g∧0<d∧g*n=a∧g*d=b∧red a b=⟨n,d⟩∧n≤a∧d≤b:=by
 have g0:0<Nat.gcd a b:=Nat.gcd_pos_of_pos_right a hb;refine ⟨Nat.gcd a b,a / Nat.gcd a b,b / Nat.gcd a b,g0,Nat.div_pos (Nat.le_of_dvd hb (Nat.gcd_dvd_right _ _)) g0,Nat.mul_div_cancel' (Nat.gcd_dvd_left _ _),Nat.mul_div_cancel' (Nat.gcd_dvd_right _ _),rfl,Nat.div_le_self _ _,Nat.div_le_self _ _⟩
theorem Ta {k:Int} (h:1≤k∧k≤64):rz k=true:=by
 unfold rz;simp;omega
theorem VK (a b:Nat) (k:Int) (hb:0<b) (hk:1≤k∧k≤64) (ha':a≤144115188075855872) (hb':b*k.toNat≤16777216):vo (red a b) k=(red a (b*k.toNat),0):=by
 have hbk:b≤b*k.toNat:=Nat.le_mul_of_pos_right _ om;have hv:=Iw a b hb ha' om;unfold vo;rw [hv,Ta hk];simp only [Bool.not_true,cond_false];obtain ⟨g,n,d,g0,d0,e1,e2,e3,_,_⟩:=S9 a b hb;rw [e3];have hkk:k=(k.toNat:Int):=by omega
 have hm:=K6 g n (d*k.toNat) g0 (Nat.mul_pos d0 om);rw [e1,← Nat.mul_assoc,e2] at hm;show newR (n:Int) ((d:Int)*k)=_;rw [hkk,← Int.natCast_mul,← hm,Int.toNat_natCast];exact VJ a (b*k.toNat) om ha' hb'
theorem Tc (a b:Nat) (k:Int) (hb:0<b) (hk:1≤k∧k≤64) (ha':a*k.toNat≤144115188075855872) (hb':b≤16777216):mD (red a b) k=(red (a*k.toNat) b,0):=by
 have hak:a≤a*k.toNat:=Nat.le_mul_of_pos_right _ om;have hv:=Iw a b hb om hb';unfold mD;rw [hv,Ta hk];simp only [Bool.not_true,cond_false];obtain ⟨g,n,d,g0,d0,e1,e2,e3,e4,e5⟩:=S9 a b hb;rw [e3];obtain ⟨k,rfl⟩:=Int.eq_ofNat_of_zero_le (show 0≤k by omega);have hk0:0<k:=by omega
 have eg:gL ((k:Nat):Int) ((d:Nat):Int)=(Nat.gcd k d:Nat):=by unfold gL; rw [Int.toNat_natCast,Int.toNat_natCast]
 have q0:0<Nat.gcd k d:=Nat.gcd_pos_of_pos_left d hk0;have qk:Nat.gcd k d*(k / Nat.gcd k d)=k:=Nat.mul_div_cancel' (Nat.gcd_dvd_left _ _);have qd:Nat.gcd k d*(d / Nat.gcd k d)=d:=Nat.mul_div_cancel' (Nat.gcd_dvd_right _ _);have qk0:0<k / Nat.gcd k d:=Nat.div_pos (Nat.le_of_dvd hk0 (Nat.gcd_dvd_left _ _)) q0;have qd0:0<d / Nat.gcd k d:=Nat.div_pos (Nat.le_of_dvd d0 (Nat.gcd_dvd_right _ _)) q0;have qkk:k / Nat.gcd k d≤k:=Nat.div_le_self _ _;simp only [Int.toNat_natCast] at ha' ⊢;rw [eg,← Int.ofNat_tdiv,← Int.ofNat_tdiv];have hc:decide ((144115188075855872:Int).tdiv ((k / Nat.gcd k d:Nat):Int)<(n:Int))=false:=by
  apply decide_eq_false;have:n≤144115188075855872 / (k / Nat.gcd k d):=by
   rw [Nat.le_div_iff_mul_le qk0];exact Nat.le_trans (Nat.mul_le_mul e4 qkk) ha'
  have e:(144115188075855872:Int).tdiv ((k / Nat.gcd k d:Nat):Int)=((144115188075855872 / (k / Nat.gcd k d):Nat):Int):=by
   rw [Int.ofNat_tdiv];rfl
  rw [e];omega
 rw [hc];simp only [cond_false];rw [← Int.natCast_mul];have m1:=K6 (Nat.gcd k d) (n*(k / Nat.gcd k d)) (d / Nat.gcd k d) q0 qd0;rw [Nat.mul_left_comm,qk,qd] at m1;have m2:=K6 g (n*k) d g0 d0;rw [← Nat.mul_assoc,e1,e2] at m2;rw [← m1,← m2];exact VJ (a*k) b hb ha' hb'
theorem acK (a:Nat):red a 1=⟨a,1⟩:=by
 unfold red;rw [Nat.gcd_one_right,Nat.div_one,Nat.div_one];rfl
theorem acL (a b:Nat) (ha:0<a):0<(red a b).Num:=by
 have:0<a / Nat.gcd a b:=Nat.div_pos (Nat.le_of_dvd ha (Nat.gcd_dvd_left _ _)) (Nat.gcd_pos_of_pos_left b ha);show (0:Int)<((a / Nat.gcd a b:Nat):Int);omega
theorem aa9 (a b:Nat) (ha:0<a):qz (red a b)=false:=by
 have:=acL a b ha;unfold qz;have:((red a b).Num==0)=false:=by
  rw [← Bool.not_eq_true];intro e;have:=eq_of_beq e;omega
 rw [this];rfl
theorem Zf (k:Int) (hk:1≤k∧k≤64):mD IY k=(IY,0):=by
 have h:=Tc 0 1 k (by decide) hk (by simp) (by decide);rw [Nat.zero_mul] at h;exact h
theorem abb (k:Int) (hk:1≤k∧k≤64):vo IY k=(IY,0):=by
 have h:=VK 0 1 k (by decide) hk (by decide) om;have e:red 0 (1*k.toNat)=IY:=by
  unfold red IY;rw [Nat.gcd_zero_left,Nat.zero_div,Nat.one_mul,Nat.div_self om];rfl
 rw [e] at h;exact h
theorem Kg (l:List aC) (s:List Int) (n j:Nat) (h:j<n):(pW l s n).getD j dA=Ry (pW l s j) (l.getD j aF) (s.getD j 0):=by
 induction n with
 | zero=>omega
 | succ n ih=>
  rw [pW];by_cases hj:j<n
  ·rw [mV _ (by rw [sW]; exact hj)];exact ih hj
  ·have:j=n:=by omega
   subst this;rw [jG _ (sW l s j).symm]
theorem Zg {acc acc':List bF} {c:aC} {k:Int} (h:0≤parF c k→acc.getD (parF c k).toNat dA=acc'.getD (parF c k).toNat dA):Ry acc c k=Ry acc' c k:=by
 unfold Ry;by_cases hp:parF c k<0
 ·rw [decide_eq_true hp]; rfl
 ·rw [h om]
theorem Zh {l:List aC} {s:List Int} (h:Good l s) (j:Nat) (hj:j<l.length):(fF l s).getD j dA=Ry (fF l s) (l.getD j aF) (s.getD j 0):=by
 unfold fF;rw [Kg l s l.length j hj];refine Zg fun h0=>?_;have:=h.Parents j hj;rw [Kg l s l.length _ om,Kg l s j _ om]
theorem Zi (acc:List Int) (l:List Int) (p:Int) (hp:p∈l):acc.getD p.toNat 0≤jC acc l:=by
 have mono:∀(l:List Int) (n:Int),n≤l.foldl (fun n p=>IX n (acc.getD p.toNat 0)) n:=by
  intro l;induction l with
  | nil=>intro n; exact Int.le_refl _
  | cons q r ih=>
   intro n;have:=ih (IX n (acc.getD q.toNat 0));have h2:n≤IX n (acc.getD q.toNat 0):=by unfold IX; split<;>omega
   exact Int.le_trans h2 this
 have key:∀(l:List Int) (n:Int),p∈l→acc.getD p.toNat 0≤l.foldl (fun n p=>IX n (acc.getD p.toNat 0)) n:=by
  intro l;induction l with
  | nil=>intro n h; cases h
  | cons q r ih=>
   intro n h;rcases List.mem_cons.1 h with rfl | h
   ·have:=mono r (IX n (acc.getD p.toNat 0));have h2:acc.getD p.toNat 0≤IX n (acc.getD p.toNat 0):=by unfold IX; split<;>omega
    exact Int.le_trans h2 this
   ·exact ih _ h
 exact key l 0 hp
theorem acM {l:List aC} (hp:Ym l) (j:Nat) (hj:j<l.length):∀p∈(l.getD j aF).Parents,(fC l).getD p.toNat 0+(bif Ka (l.getD j aF) then 1 else 0)≤(fC l).getD j 0:=by
 intro p hpm;have hpj:=(hp j hj).2 p hpm;have e1:(fC l).getD j 0=Dh (fC (l.take j)) (l.getD j aF):=by
  rw [MG l (j+1) j om hj,fH aF hj,xU,jG _ (by rw [(gZ _).1,take_len om])]
 have e2:(fC l).getD p.toNat 0=(fC (l.take j)).getD p.toNat 0:=MG l j p.toNat om om;have:=Zi (fC (l.take j)) (l.getD j aF).Parents p hpm;rw [e1,e2];unfold Dh;cases Ka (l.getD j aF)<;>simp only [cond_true,cond_false]<;>omega
structure Made (l:List aC):Prop where
 ok:cZ l=0
 pos:1≤l.length
 fix:∀i,i<l.length→(l.getD i aF).Kind=1→(l.getD i aF).Choices.getD 0 0≤24000000
structure Oj (F a b:Nat) (f:Int):Prop where
 a0:0<a
 b0:0<b
 f0:0≤f
 al:a≤F*64 ^ f.toNat
 bl:b≤64 ^ f.toNat
theorem acN {f:Int} (h:f≤4):64 ^ f.toNat≤16777216:=by
 have:f.toNat≤4:=by omega
 calc 64 ^ f.toNat≤64 ^ 4:=Nat.pow_le_pow_right (by decide) this
  _=16777216:=by decide
theorem Oj.mono {F a b:Nat} {f g:Int} (h:Oj F a b f) (hfg:f≤g):Oj F a b g:=by
 have hf:=h.f0;have:64 ^ f.toNat≤64 ^ g.toNat:=Nat.pow_le_pow_right (by decide) om;exact ⟨h.a0,h.b0,om,Nat.le_trans h.al (Nat.mul_le_mul_left _ this),Nat.le_trans h.bl this⟩
theorem Oj.times {F a b:Nat} {f g:Int} (h:Oj F a b f) (hfg:f+1≤g) {k:Nat} (hk:1≤k∧k≤64):Oj F (a*k) b g:=by
 have hf:=h.f0;have:64 ^ f.toNat*64≤64 ^ g.toNat:=by
  rw [← Nat.pow_succ];exact Nat.pow_le_pow_right (by decide) om
 refine ⟨Nat.mul_pos h.a0 om,h.b0,om,?_,?_⟩
 ·calc a*k≤(F*64 ^ f.toNat)*64:=Nat.mul_le_mul h.al hk.2
   _=F*(64 ^ f.toNat*64):=Nat.mul_assoc _ _ _
   _≤F*64 ^ g.toNat:=Nat.mul_le_mul_left _ this
 ·exact Nat.le_trans h.bl (Nat.le_trans (Nat.le_mul_of_pos_right _ (by decide)) this)
theorem Oj.over {F a b:Nat} {f g:Int} (h:Oj F a b f) (hfg:f+1≤g) {k:Nat} (hk:1≤k∧k≤64):Oj F a (b*k) g:=by
 have hf:=h.f0;have h1:64 ^ f.toNat*64≤64 ^ g.toNat:=by
  rw [← Nat.pow_succ];exact Nat.pow_le_pow_right (by decide) om
 have h2:64 ^ f.toNat≤64 ^ g.toNat:=Nat.pow_le_pow_right (by decide) om;exact ⟨h.a0,Nat.mul_pos h.b0 om,om,Nat.le_trans h.al (Nat.mul_le_mul_left _ h2),Nat.le_trans (Nat.mul_le_mul h.bl hk.2) h1⟩
theorem Oj.small {F a b:Nat} {f:Int} (h:Oj F a b f) (hf:f≤4) (hF:F≤4294967296):a≤F*16777216∧a≤144115188075855872∧b≤16777216:=by
 have hp:=acN hf;have h1:=Nat.le_trans h.al (Nat.mul_le_mul_left F hp);exact ⟨h1,Nat.le_trans h1 (Nat.le_trans (Nat.mul_le_mul_right 16777216 hF) (by decide)),Nat.le_trans h.bl hp⟩
def Cw (c:aC) (k:Int):Int:=c.Choices.getD k.toNat 0
def Wv (acc:List bF) (c:aC) (k:Int):bF:=acc.getD (parF c k).toNat dA
structure Step (c:aC) (i:Nat) (k:Int):Prop where
 p0:0≤parF c k
 pi:parF c k<i
 mem:parF c k∈c.Parents
 n1:c.Kind≠1
theorem Uf {c:aC} {i:Nat} {k:Int} (hv:je c i=true) (hk:0≤k∧k<c.Choices.length) (hn:c.Kind≠1):Step c i k:=by
 have hp:=Dj hv;have key:parF c k∈c.Parents:=by
  unfold parF;rcases choicesB_cases (validC_choices hv) with ⟨h1,h2,h3,h4⟩ | ⟨h1,h2,h3,h4⟩ | ⟨h1,h2,h3⟩ | ⟨h1,h2,h3⟩
  ·exact absurd h1 hn
  ·have hn1:(c.Kind==1)=false:=by rcases h1 with h1 | h1<;>rw [h1]<;>rfl
   have hn4:(c.Kind==4)=false:=by rcases h1 with h1 | h1<;>rw [h1]<;>rfl
   rw [hn1,hn4];exact gF 0 om
  ·have hm:=h3 _ (gF 0 (i:=k.toNat) om);rw [h1];exact gF 0 (i:=(c.Choices.getD k.toNat 0).toNat) om
  ·rw [h1];exact gF 0 (i:=0) om
 have:=hp _ key;exact ⟨this.1,this.2,key,hn⟩
theorem acO {c:aC} {i:Nat} {k:Int} (hv:je c i=true) (hk:0≤k∧k<c.Choices.length) (h:c.Kind=1) (acc:List bF):Cw c k=c.Choices.getD 0 0∧1≤Cw c k∧Cw c k≤4000000000∧Ry acc c k=⟨Cw c k,1⟩∧parF c k = -1:=by
 rcases choicesB_cases (validC_choices hv) with ⟨h1,h2,h3,h4⟩ | ⟨h1,h2,h3,h4⟩ | ⟨h1,h2,h3⟩ | ⟨h1,h2,h3⟩
 ·have e:Cw c k=c.Choices.getD 0 0:=by unfold Cw; rw [show k.toNat=0 by omega]
  have hp:parF c k = -1:=by unfold parF; rw [h]; rfl
  refine ⟨e,om,om,?_,hp⟩;unfold Ry;rw [hp];rfl
 ·rcases h1 with h1 | h1<;>omega
 ·omega
 ·omega
theorem rt1_step {c:aC} {i:Nat} {k:Int} (hv:je c i=true) (hk:0≤k∧k<c.Choices.length) (hn:c.Kind≠1) (acc:List bF):
  ((qz (Wv acc c k)=true∨(c.Kind=5∧Cw c k=0))∧Ry acc c k=IY)∨
  (qz (Wv acc c k)=false∧((c.Kind=2∧Ka c=true∧(1≤Cw c k∧Cw c k≤64)∧Ry acc c k=(vo (Wv acc c k) (Cw c k)).1)∨
    (c.Kind=3∧Ka c=true∧(1≤Cw c k∧Cw c k≤64)∧Ry acc c k=(mD (Wv acc c k) (Cw c k)).1)∨
    ((c.Kind=4∨(c.Kind=5∧Cw c k=1))∧Ka c=false∧Ry acc c k=Wv acc c k))):=by
 have hs:=Uf hv hk hn;have hp:decide (parF c k<0)=false:=decide_eq_false (by have:=hs.p0; omega);have e0:Ry acc c k=bif qz (Wv acc c k)||((c.Kind==5)&&(Cw c k==0)) then IY else bif c.Kind==2 then (vo (Wv acc c k) (Cw c k)).1 else bif c.Kind==3 then (mD (Wv acc c k) (Cw c k)).1 else Wv acc c k:=by
  unfold Ry;rw [hp];rfl
 have hmem:Cw c k∈c.Choices:=gF 0 om;cases ho:qz (Wv acc c k) with
 | true=>left; exact ⟨.inl rfl,by rw [e0,ho]; rfl⟩
 | false=>
  rw [ho] at e0;rcases choicesB_cases (validC_choices hv) with ⟨h1,h2,h3,h4⟩ | ⟨h1,h2,h3,h4⟩ | ⟨h1,h2,h3⟩ | ⟨h1,h2,h3⟩
  ·exact absurd h1 hn
  ·right;refine ⟨rfl,?_⟩;rcases h1 with h1 | h1
   ·left;refine ⟨h1,by unfold Ka; rw [h1]; rfl,h4 _ hmem,?_⟩;rw [e0,h1];rfl
   ·right; left;refine ⟨h1,by unfold Ka; rw [h1]; rfl,h4 _ hmem,?_⟩;rw [e0,h1];rfl
  ·right;refine ⟨rfl,.inr (.inr ⟨.inl h1,by unfold Ka; rw [h1]; rfl,?_⟩)⟩;rw [e0,h1];rfl
  ·rw [h3] at hmem;by_cases hc:Cw c k=0
   ·left;refine ⟨.inr ⟨h1,hc⟩,?_⟩;rw [e0,h1,hc];rfl
   ·have hc1:Cw c k=1:=by simp at hmem; omega
    right;refine ⟨rfl,.inr (.inr ⟨.inr ⟨h1,hc1⟩,by unfold Ka; rw [h1]; rfl,?_⟩)⟩;rw [e0,h1,hc1];rfl
theorem Xy {l:List aC} (h:Rz l):Ym l:=fun i hi=>⟨by have:=(h.big i hi).1; omega,Dj (h.valid i hi)⟩
def st1 (acc:List bF) (on:List Bool) (c:aC) (k:Int):bF×Bool:=
 bif c.Kind==1 then (⟨c.Choices.getD k.toNat 0,1⟩,true) else
 bif c.Kind==2 then ((vo (acc.getD (parF c k).toNat dA) (c.Choices.getD k.toNat 0)).1,on.getD (parF c k).toNat false) else
 bif c.Kind==3 then ((mD (acc.getD (parF c k).toNat dA) (c.Choices.getD k.toNat 0)).1,on.getD (parF c k).toNat false) else
 bif (c.Kind==5)&&(c.Choices.getD k.toNat 0==0) then (IY,false) else (acc.getD (parF c k).toNat dA,on.getD (parF c k).toNat false)
def MH (l:List aC) (s:List Int):Nat→List bF×List Bool
 | 0=>([],[])
 | i+1=>((MH l s i).1++[(st1 (MH l s i).1 (MH l s i).2 (l.getD i aF) (s.getD i 0)).1],(MH l s i).2++[(st1 (MH l s i).1 (MH l s i).2 (l.getD i aF) (s.getD i 0)).2])
def JG (l:List aC) (s:List Int):List bF×List Bool:=MH l s l.length
theorem Iy (l:List aC) (s:List Int) (i:Nat):(MH l s i).1.length=i∧(MH l s i).2.length=i:=by
 induction i with
 | zero=>exact ⟨rfl,rfl⟩
 | succ i ih=>simp [MH,ih]
def Up (l:List aC) (s:List Int):Prop:=∀i:Nat,i<l.length→(l.getD i aF).Kind≠1→0≤parF (l.getD i aF) (s.getD i 0)
theorem abd {l:List aC} {s:List Int} (h:Rz l) (hs:settB l s=true):Up l s:=by
 obtain ⟨_,h2⟩:=K7 hs;exact fun i hi hk=>(Uf (h.valid i hi) (h2 i hi) hk).p0
theorem Ug (l:List aC) (s:List Int) (n j:Nat) (h:j<n):(MH l s n).1.getD j dA=(st1 (MH l s j).1 (MH l s j).2 (l.getD j aF) (s.getD j 0)).1∧(MH l s n).2.getD j false=(st1 (MH l s j).1 (MH l s j).2 (l.getD j aF) (s.getD j 0)).2:=by
 induction n with
 | zero=>omega
 | succ n ih=>
  rw [MH];have hl:=Iy l s n;by_cases hj:j<n
  ·rw [mV _ om,mV _ om];exact ih hj
  ·have:j=n:=by omega
   subst this;rw [jG _ hl.1.symm,jG _ hl.2.symm];exact ⟨rfl,rfl⟩
theorem Zj {acc acc':List bF} {on on':List Bool} {c:aC} {k:Int} (h:c.Kind≠1→acc.getD (parF c k).toNat dA=acc'.getD (parF c k).toNat dA∧on.getD (parF c k).toNat false=on'.getD (parF c k).toNat false):st1 acc on c k=st1 acc' on' c k:=by
 unfold st1;cases hk:c.Kind==1 with
 | true=>rfl
 | false=>
  obtain ⟨h1,h2⟩:=h (fun e=>by rw [e] at hk; cases hk);rw [h1,h2]
theorem ad3 {l:List aC} {s:List Int} (h:Good l s) (hu:Up l s) (j:Nat) (hj:j<l.length):((JG l s).1.getD j dA,(JG l s).2.getD j false)=st1 (JG l s).1 (JG l s).2 (l.getD j aF) (s.getD j 0):=by
 unfold JG;obtain ⟨e1,e2⟩:=Ug l s l.length j hj;rw [e1,e2];show st1 _ _ _ _=_;refine Zj fun hk=>?_;have h1:=h.Parents j hj;have h2:=hu j hj hk;obtain ⟨a1,a2⟩:=Ug l s l.length (parF (l.getD j aF) (s.getD j 0)).toNat om;obtain ⟨b1,b2⟩:=Ug l s j (parF (l.getD j aF) (s.getD j 0)).toNat om;exact ⟨b1.trans a1.symm,b2.trans a2.symm⟩
theorem abe {c:aC} (hn:c.Kind≠1) (acc:List bF) (on:List Bool) (k:Int):
  (c.Kind=2→st1 acc on c k=((vo (Wv acc c k) (Cw c k)).1,on.getD (parF c k).toNat false))∧
  (c.Kind=3→st1 acc on c k=((mD (Wv acc c k) (Cw c k)).1,on.getD (parF c k).toNat false))∧
  (c.Kind=5→Cw c k=0→st1 acc on c k=(IY,false))∧
  ((c.Kind=4∨(c.Kind=5∧Cw c k=1))→st1 acc on c k=(Wv acc c k,on.getD (parF c k).toNat false)):=by
 have hk:(c.Kind==1)=false:=by
  cases h:c.Kind==1 with
  | false=>rfl
  | true=>exact absurd (eq_of_beq h) hn
 refine ⟨fun h=>?_,fun h=>?_,fun h h0=>?_,fun h=>?_⟩
 ·unfold st1; rw [h]; rfl
 ·unfold st1; rw [h]; rfl
 ·unfold st1; rw [show c.Choices.getD k.toNat 0=Cw c k from rfl,h,h0]; rfl
 ·rcases h with h | ⟨h,h1⟩
  ·unfold st1; rw [h]; rfl
  ·unfold st1; rw [show c.Choices.getD k.toNat 0=Cw c k from rfl,h,h1]; rfl
theorem kinds_of {c:aC} {i:Nat} {k:Int} (hv:je c i=true) (hk:0≤k∧k<c.Choices.length) (hn:c.Kind≠1):(c.Kind=2∧1≤Cw c k∧Cw c k≤64)∨(c.Kind=3∧1≤Cw c k∧Cw c k≤64)∨c.Kind=4∨(c.Kind=5∧Cw c k=k∧(k=0∨k=1)):=by
 have hmem:Cw c k∈c.Choices:=gF 0 om;rcases choicesB_cases (validC_choices hv) with ⟨h1,h2,h3,h4⟩ | ⟨h1,h2,h3,h4⟩ | ⟨h1,h2,h3⟩ | ⟨h1,h2,h3⟩
 ·exact absurd h1 hn
 ·rcases h1 with h1 | h1
  ·exact .inl ⟨h1,h4 _ hmem⟩
  ·exact .inr (.inl ⟨h1,h4 _ hmem⟩)
 ·exact .inr (.inr (.inl h1))
 ·rw [h3] at hk;have hk2:k=0∨k=1:=by simp at hk; omega
  refine .inr (.inr (.inr ⟨h1,?_,hk2⟩));unfold Cw;rw [h3];rcases hk2 with rfl | rfl<;>rfl
theorem abf (l:List aC):∀j:Nat,0≤(fC l).getD j 0:=fun j=>((gZ l).2 j).1
theorem st_rates {l:List aC} {s:List Int} (hf:Rz l) (hs:settB l s=true):∀j,j<l.length→
  ((fF l s).getD j dA=IY∧(JG l s).1.getD j dA=IY∧(JG l s).2.getD j false=false)∨
  ∃a b,Oj 4000000000 a b ((fC l).getD j 0)∧(fF l s).getD j dA=red a b∧(JG l s).1.getD j dA=red a b∧(JG l s).2.getD j false=true:=by
 have hg:=K8 hf hs;have hu:=abd hf hs;obtain ⟨_,hset⟩:=K7 hs;have hfac:=fun j hj=>acM (Xy hf) j hj;have hfb:=abf l;generalize hA:fF l s=A;generalize hB:JG l s=B;intro j;induction j using Nat.strongRecOn with
 | ind j ih=>
  intro hj;have eA:=Zh hg j hj;have eB:=ad3 hg hu j hj;rw [hA] at eA;rw [hB] at eB;have hv:=hf.valid j hj;have hk:=hset j hj;have hfj:=hf.fC j hj;have hfacj:=hfac j hj;generalize l.getD j aF=c at *;generalize s.getD j 0=k at *;by_cases hk1:c.Kind=1
  ·right;obtain ⟨e1,e2,e3,e4,_⟩:=acO hv hk hk1 A;have eB1:st1 B.1 B.2 c k=(⟨Cw c k,1⟩,true):=by unfold st1; rw [hk1]; rfl
   rw [eB1] at eB;have hb:=hfb j;have er:(⟨Cw c k,1⟩:bF)=red (Cw c k).toNat 1:=by
    rw [acK];congr 1;omega
   refine ⟨(Cw c k).toNat,1,⟨om,by decide,om,?_,Nat.pow_pos (by decide)⟩,?_,?_,?_⟩
   ·exact Nat.le_trans (show (Cw c k).toNat≤4000000000 by omega) (Nat.le_mul_of_pos_right _ (Nat.pow_pos (by decide)))
   ·rw [eA,e4,er]
   ·rw [← er]; exact congrArg Prod.fst eB
   ·exact congrArg Prod.snd eB
  ·have hst:=Uf hv hk hk1;have hpl:(parF c k).toNat<l.length:=by have:=hst.p0; have:=hst.pi; omega
   have hpf:=hfacj _ hst.mem;have ihp:=ih (parF c k).toNat (by have:=hst.p0; have:=hst.pi; omega) hpl;have uA:A.getD (parF c k).toNat dA=Wv A c k:=rfl;have uB:B.1.getD (parF c k).toNat dA=Wv B.1 c k:=rfl;rw [uA,uB] at ihp;obtain ⟨q2,q3,q50,q4⟩:=abe hk1 B.1 B.2 k;have hn:∀n:Int,1≤n∧n≤64→1≤n.toNat∧n.toNat≤64:=fun n hn=>by omega
   rcases ihp with ⟨i1,i2,i3⟩ | ⟨a,b,i0,i1,i2,i3⟩
   ·left;have hA0:Ry A c k=IY:=by
     rcases rt1_step hv hk hk1 A with ⟨_,q⟩ | ⟨q,_⟩
     ·exact q
     ·rw [i1] at q; cases q
    rw [i2,i3] at q2 q3 q4;have hB0:st1 B.1 B.2 c k=(IY,false):=by
     rcases kinds_of hv hk hk1 with ⟨h,h1⟩ | ⟨h,h1⟩ | h | ⟨h,h1,h2⟩
     ·rw [q2 h,abb _ h1]
     ·rw [q3 h,Zf _ h1]
     ·exact q4 (.inl h)
     ·rcases h2 with h2 | h2
      ·exact q50 h om
      ·exact q4 (.inr ⟨h,om⟩)
    rw [hB0] at eB;exact ⟨by rw [eA,hA0],congrArg Prod.fst eB,congrArg Prod.snd eB⟩
   ·have oA:qz (Wv A c k)=false:=by rw [i1]; exact aa9 a b i0.a0
    rw [i2,i3] at q2 q3 q4;rcases rt1_step hv hk hk1 A with ⟨q0,q⟩ | ⟨_,q⟩
    ·left;rw [oA] at q0;rcases q0 with q0 | ⟨q0,q1⟩
     ·cases q0
     ·rw [q50 q0 q1] at eB;exact ⟨by rw [eA,q],congrArg Prod.fst eB,congrArg Prod.snd eB⟩
    ·right;rcases q with ⟨r1,r2,r3,r4⟩ | ⟨r1,r2,r3,r4⟩ | ⟨r1,r2,r3⟩
     ·rw [r2] at hpf;have hnew:=i0.over hpf (hn _ r3);have hs2:=hnew.small hfj (by decide);have eo:=VK a b _ i0.b0 r3 hs2.2.1 hs2.2.2;rw [q2 r1,eo] at eB;exact ⟨a,b*(Cw c k).toNat,hnew,by rw [eA,r4,i1,eo],congrArg Prod.fst eB,congrArg Prod.snd eB⟩
     ·rw [r2] at hpf;have hnew:=i0.times hpf (hn _ r3);have hs2:=hnew.small hfj (by decide);have eo:=Tc a b _ i0.b0 r3 hs2.2.1 hs2.2.2;rw [q3 r1,eo] at eB;exact ⟨a*(Cw c k).toNat,b,hnew,by rw [eA,r4,i1,eo],congrArg Prod.fst eB,congrArg Prod.snd eB⟩
     ·rw [r2] at hpf;rw [q4 r1] at eB;exact ⟨a,b,i0.mono (by simpa using hpf),by rw [eA,r3,i1],congrArg Prod.fst eB,congrArg Prod.snd eB⟩
theorem K9 {l:List aC} {s:List Int} (hf:Rz l) (hs:settB l s=true) (j:Nat) (hj:j<l.length):(JG l s).1.getD j dA=(fF l s).getD j dA∧(JG l s).2.getD j false=!qz ((fF l s).getD j dA)∧validR ((fF l s).getD j dA)=true∧(qz ((fF l s).getD j dA)=true→(fF l s).getD j dA=IY):=by
 rcases st_rates hf hs j hj with ⟨h1,h2,h3⟩ | ⟨a,b,h0,h1,h2,h3⟩
 ·rw [h1,h2,h3];exact ⟨rfl,rfl,by decide,fun _=>rfl⟩
 ·have hs2:=h0.small (hf.fC j hj) (by decide);rw [h1,h2,h3,aa9 a b h0.a0];exact ⟨rfl,rfl,Iw a b h0.b0 hs2.2.1 hs2.2.2,nofun⟩
theorem GQ {α:Type} {l m:List α} (d:α) (h:l.length=m.length) (he:∀i,i<l.length→l.getD i d=m.getD i d):l=m:=by
 apply List.ext_getElem h;intro i h1 h2;have:=he i h1;rw [List.getD_eq_getElem?_getD,List.getD_eq_getElem?_getD,List.getElem?_eq_getElem h1,List.getElem?_eq_getElem h2] at this;simpa using this
structure afR (l:List aC) (s w:List Int):Prop where
 chain:∀i,i+1<w.length→(l.getD (w.getD i 0).toNat aF).Kind≠1∧w.getD (i+1) 0=parF (l.getD (w.getD i 0).toNat aF) (s.getD (w.getD i 0).toNat 0)
 last:∀i,i+1=w.length→(l.getD (w.getD i 0).toNat aF).Kind=1
end Go.Proofs.YtfblhejmclcdmaaGreatDoor


namespace Go.Proofs.YtfblhejmclcdmaaGreatDoor
open Go.Ab
set_option maxRecDepth 100000
theorem ig (n lo hi:Int):gW n lo hi (withinF n lo hi):=rfl
theorem Uh {l:List aC} (hl:l.length≤2000000):jo l (l.any bigC):=
 JF (JE (p:=Am) (P:=bigC) (fun _ _=>rfl) om) (nH _ _)
theorem Ol {p a:Int} (ha : -2000000≤a∧a≤2000000):tX p a (!withinF p 0 (a - 1)):=
 jm (aZ (by unfold InI64; omega) (av (FN (ig _ _ _)) fun v hv=>by subst hv; exact ah rfl))
theorem Ui {l:List Int} {a:Int} (ha : -2000000≤a∧a≤2000000) (hl:l.length≤2000000):kP l a (l.any fun y=>!withinF y 0 (a - 1)):=
 JF (JE (p:=fun x=>tX x a) (P:=fun y=>!withinF y 0 (a - 1)) (fun _ _=>Ol ha) om) (nH _ _)
theorem Qs {l:List Int} {v:Int} (hl:l.length≤2000000):slices_Contains_int l v (l.contains v):=by
 refine JF (ad1 (P:=fun x=>v==x) om) ?_;rw [nH];exact (List.contains_eq_any_beq).symm
theorem rD {l:List Int} {lo hi:Int} (hl:l.length≤2000000):jV l lo hi (ru lo hi [] l):=by
 refine jm (aa5 l.length (fun i=>ru lo hi (l.take i) (l.drop i)=ru lo hi [] l) ?_ rfl);intro self i hi1 hi2 ih;refine bP (fun c=>?_) (fun c=>?_)
 ·have c:=of_decide_eq_true c;have hlt:i<l.length:=by omega
  rw [drop_cons 0 hlt] at hi2;refine aZ om ?_;refine av (FN (ig _ _ _)) fun v hv=>?_;subst hv;refine aZ (fun _=>by omega) ?_;refine av (eD fun _=>Qs (by simp; omega)) fun v hv=>?_;subst hv;refine bP (fun c2=>?_) (fun c2=>?_)
  ·refine ah ?_;rw [← hi2,Pb (pre:=l.take i) (n:=l.getD i 0) c2]
  ·refine aZ (by unfold InI64; omega) (ih hlt ?_);rw [← hi2,Ud (pre:=l.take i) (n:=l.getD i 0) c2,fH 0 hlt]
 ·have c:=of_decide_eq_false c;refine ah ?_;rw [← hi2,List.drop_eq_nil_of_le om];rfl
theorem Kh {a b:List Int} (hl:a.length≤2000000):slices_Equal_int a b (a==b):=by
 refine jm (bP (fun c=>?_) (fun c=>?_))
 ·refine ah ?_;have:a≠b:=fun h=>by subst h; simp at c
  exact (beq_eq_false_iff_ne.2 this).symm
 ·have hlen:a.length=b.length:=by simp at c; omega
  refine aa5 a.length (fun i=>(a==b)=(a.drop i==b.drop i)) ?_ rfl;intro self i hi1 hi2 ih;refine bP (fun c=>?_) (fun c=>?_)
  ·have c:=of_decide_eq_true c;have hlt:i<a.length:=by omega
   rw [drop_cons 0 hlt,drop_cons 0 (show i<b.length by omega)] at hi2;refine aZ om (aZ om ?_);refine bP (fun c2=>?_) (fun c2=>?_)
   ·refine ah ?_;rw [hi2];simp at c2;simp [c2]
   ·refine aZ (by unfold InI64; omega) (ih hlt ?_);rw [hi2];simp at c2;simp [c2]
  ·have c:=of_decide_eq_false c;refine ah ?_;rw [hi2,List.drop_eq_nil_of_le om,List.drop_eq_nil_of_le om];rfl
theorem RA {c:aC} {k:Int} (hk : -2000000≤k∧k≤2000000) (hp:c.Parents.length≤2000000) (hc:c.Choices.length≤2000000):FR c k (je c k):=by
 refine jm ?_;refine av (FN (Ui hk hp)) fun v1 hv=>?_;subst hv;refine av (eD fun _=>ig c.High 0 4000000000) fun v hv=>?_;subst hv;refine av (eD fun _=>ig c.Low 0 c.High) fun v hv=>?_;subst hv;refine bP (fun h=>?_) (fun h=>?_)
 ·refine ah ?_;unfold je;rw [h];rfl
 ·have hv:je c k=fJ c:=by unfold je; rw [h]; rfl
  rw [hv];refine bP (fun k1=>?_) (fun k1=>?_)
  ·refine aZ (fun h=>by simp at h; omega) ?_;refine av (eD fun _=>ig (c.Choices.getD 0 0) 1 4000000000) fun v hv=>?_;subst hv;refine ah ?_;unfold fJ;rw [k1];rfl
  ·refine bP (fun k2=>?_) (fun k2=>?_)
   ·rw [k2];refine av (eD fun _=>rD hc) fun v hv=>?_;subst hv;refine ah ?_;unfold fJ;rw [k1,k2];rfl
   ·refine bP (fun k3=>?_) (fun k3=>?_)
    ·refine av (eD fun _=>rD hc) fun v hv=>?_;subst hv;refine ah ?_;unfold fJ;rw [k1,k2,k3];rfl
    ·refine bP (fun k4=>?_) (fun k4=>?_)
     ·refine aZ (fun _=>by unfold InI64; omega) ?_;refine av (eD fun _=>rD hc) fun v hv=>?_;subst hv;refine ah ?_;unfold fJ;rw [k1,k2,k3,k4];rfl
     ·refine bP (fun k5=>?_) (fun k5=>?_)
      ·refine bP (fun h1=>?_) (fun h1=>?_)
       ·refine av (eD fun _=>Kh hc) fun v hv=>?_;subst hv;refine ah ?_;unfold fJ;rw [k1,k2,k3,k4,k5];rfl
       ·refine ah ?_;unfold fJ;rw [k1,k2,k3,k4,k5];simp at h1;simp [h1]
      ·refine ah ?_;unfold fJ;rw [k1,k2,k3,k4,k5];rfl
end Go.Proofs.YtfblhejmclcdmaaGreatDoor

namespace Go.Proofs.YtfblhejmclcdmaaGreatDoor
open Go.Ab
set_option maxRecDepth 100000
theorem set_mid {α:Type} (a:List α) (x y:α) (z:List α):(a++x::z).set a.length y=a++y::z:=by
 rw [List.set_append_right _ _ (Nat.le_refl _),Nat.sub_self];rfl
theorem Ar {l:List aC} (hl:l.length≤2000000):uL l (cZ l):=by
 refine jm ?_;refine av (eD fun _=>Uh hl) fun v hv=>?_;subst hv;refine bP (fun h=>?_) (fun h=>?_)
 ·refine ah ?_;unfold cZ;rw [h];rfl
 ·have hb3:(decide (16<(l.length:Int))||l.any bigC)=false:=h;have h16:l.length≤16:=by simp at hb3; omega
  have hbig:∀i:Nat,i<l.length→bigC (l.getD i aF)=false:=kE aF (by simp only [Bool.or_eq_false_iff] at hb3; exact hb3.2);refine aa5 l.length (fun i=>∀j:Nat,j<i→je (l.getD j aF) j=true) ?_ (fun j hj=>absurd hj (Nat.not_lt_zero j));intro self i hi1 hi2 ih;refine bP (fun h2=>?_) (fun h2=>?_)
  ·have hlt:i<l.length:=by have:=of_decide_eq_true h2; omega
   have hbl:=GI (hbig i hlt);refine aZ om ?_;refine av (FN (RA (c:=l.getD i aF) (k:=i) om om om)) fun v hv=>?_;subst hv;refine bP (fun h3=>?_) (fun h3=>?_)
   ·refine ah ?_;unfold cZ;rw [hb3,Kc hlt (by simpa using h3)];rfl
   ·refine aZ (by unfold InI64; omega) (ih hlt fun j hj=>?_);by_cases hji:j=i
    ·subst hji; simpa using h3
    ·exact hi2 j om
  ·have hil:i=l.length:=by have:=of_decide_eq_false h2; omega
   subst hil;have hall:=SX hi2;refine aZ ⟨om,by show (l.length:Int)*8≤140737488355328; omega⟩ ?_;refine bA (fun g:Int×Int×List Int=>∃i:Nat,g=(jM (l.take i),(i:Int),fC (l.take i)++List.replicate (l.length - i) 0)∧i≤l.length∧jM (l.take i)≤4096∧∀j:Nat,j<i→(fun n=>decide (4<n)) ((fC l).getD j 0)=false) (fun g=>(l.length - g.2.1).toNat) ?_ ⟨0,rfl,om,by rw [List.take_zero]; decide,fun j hj=>absurd hj (Nat.not_lt_zero j)⟩;rintro self2 g ⟨i,rfl,hj1,hj2,hj3⟩ ih2;refine bP (fun h3=>?_) (fun h3=>?_)
   ·have hlt:i<l.length:=by have:(i:Int)<(l.length:Int):=of_decide_eq_true h3; omega
    refine aZ (by show 0≤(i:Int)∧(i:Int)<(l.length:Int); omega) ?_;obtain ⟨hfl,hb⟩:=gZ (l.take i);rw [take_len hj1] at hfl hb;have hpi:=(VH hi2 hbig) i hlt;have hsn:fC (l.take (i+1))=fC (l.take i)++[Dh (fC (l.take i)) (l.getD i aF)]:=by rw [fH aF hlt,xU]
    have hpm:=Di (fC (l.take i)) i om hb;have hrep:List.replicate (l.length - i) (0:Int)=0::List.replicate (l.length - i - 1) 0:=by
     rw [show l.length - i=(l.length - i - 1)+1 by omega];rfl
    have hcut:W (o8 l (jM (l.take i),(i:Int),fC (l.take i)++List.replicate (l.length - i) 0) self2 (fC (l.take i)++Dh (fC (l.take i)) (l.getD i aF)::List.replicate (l.length - i - 1) 0)) (fun r=>r=cZ l):=by
     have hbl:=GI (hbig i hlt);have hpb:=GJ (l.take i);have hpmul:0≤jM (l.take i)*((l.getD i aF).Choices.length:Int)∧jM (l.take i)*((l.getD i aF).Choices.length:Int)≤4096*8:=⟨Int.mul_nonneg hpb.1 om,Int.mul_le_mul hj2 om om om⟩;have hpe:jM (l.take (i+1))=jM (l.take i)*((l.getD i aF).Choices.length:Int):=by
      rw [fH aF hlt,Ke];unfold Oi;rw [if_neg om]
     have hfi:(fC l).getD i 0=Dh (fC (l.take i)) (l.getD i aF):=by
      rw [MG l (i+1) i om hlt,hsn,jG 0 hfl.symm]
     refine aZ (by show InI64 (jM (l.take i)*((l.getD i aF).Choices.length:Int)); unfold InI64; omega) ?_;refine aZ (fun _=>by simp [hfl]; omega) ?_;refine bP (fun h5=>?_) (fun h5=>?_)
     ·have h5:(decide (4096<jM (l.take i)*((l.getD i aF).Choices.length:Int))||decide (4<(fC (l.take i)++Dh (fC (l.take i)) (l.getD i aF)::List.replicate (l.length - i - 1) 0).getD i 0))=true:=h5;rw [jG 0 hfl.symm,← hfi,← hpe] at h5;refine ah ?_;unfold cZ;rw [hb3,hall];have:(decide (4096<jM l)||(fC l).any (fun n=>decide (4<n)))=true:=by
       rw [Bool.or_eq_true] at h5 ⊢;rcases h5 with h5 | h5
       ·left;have h5:=of_decide_eq_true h5;have hm:=Xv l (fun c hc=>by
         obtain ⟨k,hk,rfl⟩:=List.mem_iff_getElem.1 hc;have:=GK (validC_choices (hi2 k hk));rwa [List.getD_eq_getElem?_getD,List.getElem?_eq_getElem hk] at this) (i+1)
        exact decide_eq_true om
       ·right;exact rA (p:=fun n=>decide (4<n)) 0 (by rw [(gZ l).1]; exact hlt) h5
      rw [this];rfl
     ·have h5:(decide (4096<jM (l.take i)*((l.getD i aF).Choices.length:Int))||decide (4<(fC (l.take i)++Dh (fC (l.take i)) (l.getD i aF)::List.replicate (l.length - i - 1) 0).getD i 0))=false:=h5;rw [jG 0 hfl.symm,← hfi,← hpe] at h5;rw [Bool.or_eq_false_iff] at h5;refine aZ (by show InI64 ((i:Int)+1); unfold InI64; omega) ?_;refine ih2 _ ⟨i+1,?_,hlt,by have:=of_decide_eq_false h5.1; omega,fun j hj=>?_⟩ (by show (l.length - ((i:Int)+1)).toNat<(l.length - (i:Int)).toNat; omega)
      ·rw [hsn,List.append_assoc,show l.length - (i+1)=l.length - i - 1 by omega,hpe];rfl
      ·by_cases hji:j=i
       ·subst hji; exact h5.2
       ·exact hj3 j om
    refine bA (fun g:Int×List Int=>∃j:Nat,g=((j:Int),fC (l.take i)++jC (fC (l.take i)) ((l.getD i aF).Parents.take j)::List.replicate (l.length - i - 1) 0)∧j≤(l.getD i aF).Parents.length) (fun g=>((l.getD i aF).Parents.length - g.1).toNat) ?_ ⟨0,by rw [hrep]; rfl,Nat.zero_le _⟩;rintro self7 g ⟨j,rfl,hj⟩ ih7;refine bP (fun h4=>?_) (fun h4=>?_)
    ·have hjl:j<(l.getD i aF).Parents.length:=by have:(j:Int)<((l.getD i aF).Parents.length:Int):=of_decide_eq_true h4; omega
     have hin:=hpi.2 ((l.getD i aF).Parents.getD j 0) (gF 0 hjl);refine aZ (by show 0≤(j:Int)∧(j:Int)<((l.getD i aF).Parents.length:Int); omega) ?_;refine aZ (by show 0≤(i:Int)∧(i:Int)<(((fC (l.take i)++jC (fC (l.take i)) ((l.getD i aF).Parents.take j)::List.replicate (l.length - i - 1) 0).length:Nat):Int); simp [hfl]; omega) ?_;refine aZ (by show 0≤(l.getD i aF).Parents.getD j 0∧(l.getD i aF).Parents.getD j 0<(((fC (l.take i)++jC (fC (l.take i)) ((l.getD i aF).Parents.take j)::List.replicate (l.length - i - 1) 0).length:Nat):Int); rw [List.length_append,hfl,List.length_cons]; omega) ?_;refine aZ (by show 0≤(i:Int)∧(i:Int)<(((fC (l.take i)++jC (fC (l.take i)) ((l.getD i aF).Parents.take j)::List.replicate (l.length - i - 1) 0).length:Nat):Int); simp [hfl]; omega) ?_;refine aZ (by show InI64 ((j:Int)+1); unfold InI64; have:=hpi.1; omega) ?_;refine ih7 _ ⟨j+1,?_,hjl⟩ (by show ((l.getD i aF).Parents.length - ((j:Int)+1)).toNat<((l.getD i aF).Parents.length - (j:Int)).toNat; omega);have e:jC (fC (l.take i)) ((l.getD i aF).Parents.take (j+1))=IX ((fC (l.take i)++jC (fC (l.take i)) ((l.getD i aF).Parents.take j)::List.replicate (l.length - i - 1) 0).getD i 0) ((fC (l.take i)++jC (fC (l.take i)) ((l.getD i aF).Parents.take j)::List.replicate (l.length - i - 1) 0).getD ((l.getD i aF).Parents.getD j 0).toNat 0):=by
      rw [jG 0 hfl.symm,mV 0 om];unfold jC;rw [pR _ _ 0 hjl]
     rw [e];have hs:=set_mid (fC (l.take i)) (jC (fC (l.take i)) ((l.getD i aF).Parents.take j)) (IX ((fC (l.take i)++jC (fC (l.take i)) ((l.getD i aF).Parents.take j)::List.replicate (l.length - i - 1) 0).getD i 0) ((fC (l.take i)++jC (fC (l.take i)) ((l.getD i aF).Parents.take j)::List.replicate (l.length - i - 1) 0).getD ((l.getD i aF).Parents.getD j 0).toNat 0)) (List.replicate (l.length - i - 1) 0);rw [hfl] at hs;rw [← hs];rfl
    ·have hje:j=(l.getD i aF).Parents.length:=by have:¬ (j:Int)<((l.getD i aF).Parents.length:Int):=of_decide_eq_false h4; omega
     subst hje;rw [List.take_length];have hpx:=hpm (l.getD i aF).Parents;refine bP (fun h5=>?_) (fun h5=>?_)
     ·have hlen:0≤(i:Int)∧(i:Int)<(((fC (l.take i)++jC (fC (l.take i)) (l.getD i aF).Parents::List.replicate (l.length - i - 1) 0).length:Nat):Int):=by simp [hfl]; omega
      refine aZ hlen ?_;refine aZ (by show InI64 ((fC (l.take i)++jC (fC (l.take i)) (l.getD i aF).Parents::List.replicate (l.length - i - 1) 0).getD i 0+1); rw [jG 0 hfl.symm]; unfold InI64; omega) ?_;refine aZ hlen ?_;have e:Dh (fC (l.take i)) (l.getD i aF)=(fC (l.take i)++jC (fC (l.take i)) (l.getD i aF).Parents::List.replicate (l.length - i - 1) 0).getD i 0+1:=by
       rw [jG 0 hfl.symm];unfold Dh Ka;rw [show ((l.getD i aF).Kind==2||(l.getD i aF).Kind==3)=true from h5];rfl
      have hs:=set_mid (fC (l.take i)) (jC (fC (l.take i)) (l.getD i aF).Parents) (Dh (fC (l.take i)) (l.getD i aF)) (List.replicate (l.length - i - 1) 0);rw [hfl] at hs;rw [← hs,e] at hcut;exact hcut
     ·have e:Dh (fC (l.take i)) (l.getD i aF)=jC (fC (l.take i)) (l.getD i aF).Parents:=by
       unfold Dh Ka;rw [show ((l.getD i aF).Kind==2||(l.getD i aF).Kind==3)=false from h5];rfl
      rw [e] at hcut;exact hcut
   ·have hil:i=l.length:=by have:¬ (i:Int)<(l.length:Int):=of_decide_eq_false h3; omega
    subst hil;refine ah ?_;rw [List.take_length] at hj2;unfold cZ;rw [hb3,hall,decide_eq_false (show ¬ 4096<jM l by omega),any_none (p:=fun n=>decide (4<n)) 0 (by rw [(gZ l).1]; exact hj3)];rfl
end Go.Proofs.YtfblhejmclcdmaaGreatDoor



namespace Go.Proofs.YtfblhejmclcdmaaGreatDoor
open Go.Ab
set_option maxRecDepth 100000
theorem VL {a b:Int} (ha:0≤a) (hb:0<b):gL b (a.tmod b)=gL a b:=by
 unfold gL;rw [Int.tmod_eq_emod_of_nonneg ha,show (a % b).toNat=a.toNat % b.toNat from Int.toNat_emod ha om,Nat.gcd_comm a.toNat,Nat.gcd_rec b.toNat a.toNat,Nat.gcd_comm]
theorem Qt {x M e:Int} (hM:0≤M) (he:0<e) (hx:0≤x) (h:x≤M.tdiv e):0≤x*e∧x*e≤M:=by
 rw [Int.tdiv_eq_ediv_of_nonneg hM] at h;exact ⟨Int.mul_nonneg hx om,(Int.le_ediv_iff_mul_le he).1 h⟩
theorem MI {x y X Y:Int} (h1:0≤x) (h2:x≤X) (h3:0≤y) (h4:y≤Y):0≤y*x∧y*x≤Y*X:=
 ⟨Int.mul_nonneg h3 h1,Int.mul_le_mul h4 h2 h1 om⟩
theorem uj {a_:Int} {b_:Int} (h1:0≤a_) (h2:0≤b_):W (ng a_ b_) (fun r=>r=gL a_ b_):=by
 unfold ng;refine bA (fun (g1:(Int×Int))=>0≤g1.1∧0≤g1.2∧gL g1.1 g1.2=gL a_ b_) (fun (g1:(Int×Int))=>g1.2.toNat) ?_ ?_
 ·intro self1 g1 hig1 ihg1;obtain ⟨hg1_1,hg1_2,hg1_3⟩:=hig1;unfold F7;refine wi (fun c1=>?_) (fun c1=>?_)
  ·refine wn ?_;refine ihg1 _ ?_ ?_
   ·(refine ⟨ob,Int.tmod_nonneg _ om,?_⟩; dsimp only; rw [← hg1_3]; exact VL om om)
   ·(dsimp only; have:=K3 g1.1 g1.2 om; have:=Int.tmod_nonneg (a:=g1.1) g1.2 om; omega)
  ·refine ah ?_;(rw [← hg1_3]; unfold gL; have e:g1.2=0:=c1; rw [e]; simp; omega)
 ·exact ob
theorem xG {r_:bF}:W (pV r_) (fun r=>r=validR r_):=by
 unfold pV;refine av (eD fun hc=>jm (uj (by have hc:=nr hc; omega) (by have hc:=nr hc; omega))) fun v1 hv1=>?_;subst v1;refine ah ?_;rfl
theorem RB {a00_:Int} {a01_:Int} {a1_:Int} (h1:0≤a00_) (h2:a00_≤144115188075855872) (h3:1≤a01_) (h4:a01_≤16777216) (h5:1≤a1_) (h6:a1_≤64):W (zD a00_ a01_ a1_) (fun r=>r=(a00_.tdiv (gL a00_ a1_),a01_*a1_.tdiv (gL a00_ a1_))):=by
 unfold zD;refine av (uj ob ob) fun v1 hv1=>?_;subst v1;have hg:=vk a00_ a1_ om; have q1:=tdiv_le a00_ _ om hg; have q2:=tdiv_le a1_ _ om hg; have q3:=MI q2.1 (show a1_.tdiv (gL a00_ a1_)≤64 by omega) (show 0≤a01_ by omega) h4;refine wm ?_;refine wn ?_;refine ah ?_;rfl
theorem Qu {num_:Int} {den_:Int} (h1:num_≤4611686018427387904) (h2:den_≤4611686018427387904):W (F8 num_ den_) (fun r=>r=newR num_ den_):=by
 unfold F8;refine bP (fun c1=>?_) (fun c1=>?_)
 ·have c1o:=c1;have c1:=nr c1;refine ah ?_;(unfold newR; rw [c1o]; rfl)
 ·have c1o:=c1;have c1:=nr c1;have hg:=vk num_ den_ om; have q1:=tdiv_le num_ _ om hg; have q2:=tdiv_le den_ _ om hg;refine av (uj ob ob) fun v1 hv1=>?_;subst v1;refine wm ?_;refine av (xG) fun v2 hv2=>?_;subst v2;refine bP (fun c2=>?_) (fun c2=>?_)
  ·have c2o:=c2;have c2:=nr c2;refine ah ?_;(unfold newR; rw [c1o]; simp only [cond_false]; rw [c2o]; rfl)
  ·have c2o:=c2;have c2:=nr c2;refine ah ?_;(unfold newR; rw [c1o]; simp only [cond_false]; rw [c2o]; rfl)
theorem RD {r_:bF} {k_:Int} {scale0_:Int} {scale1_:Int} {scale2_:Int} (h1:r_.Num=scale0_) (h2:r_.Den=scale1_) (h3:k_=scale2_):W (zF r_ k_ scale0_ scale1_ scale2_) (fun r=>r=vo r_ k_):=by
 subst h1 h2 h3;unfold zF;refine av (xG) fun v1 hv1=>?_;subst v1;refine bP (fun c1=>?_) (fun c1=>?_)
 ·have c1o:=c1;have c1:=nr c1;refine ah ?_;(unfold vo; rw [c1o]; rfl)
 ·have c1o:=c1;have c1:=nr c1;have hv:=jL (r:=r_) (by simpa using c1o);refine wi (fun c2=>?_) (fun c2=>?_)
  ·refine ah ?_;(unfold vo rz; rw [c1o]; simp only [cond_false]; rw [show (!(decide (1≤k_)&&decide (k_≤64)))=true by simp; omega]; rfl)
  ·refine av (RB ob ob ob ob ob ob) fun v2 hv2=>?_;subst v2;have hg:=vk r_.Num k_ om; have q1:=tdiv_le r_.Num _ hv.1 hg; have q2:=tdiv_le k_ _ om hg; have q3:=MI q2.1 (show k_.tdiv (gL r_.Num k_)≤64 by omega) (show 0≤r_.Den by omega) hv.2.2.2.1;refine av (Qu ob ob) fun v3 hv3=>?_;subst v3;refine ah ?_;(unfold vo rz; rw [c1o]; simp only [cond_false]; rw [show (!(decide (1≤k_)&&decide (k_≤64)))=false by simp; omega]; exact Ze _ _ _ hv.1 om om)
theorem VN {r_:bF} {k_:Int}:W (Im r_ k_) (fun r=>r=vo r_ k_):=by
 unfold Im;refine av (RD rfl rfl rfl) fun v1 hv1=>?_;subst v1;refine ah ?_;rfl
theorem Qv {a0_:Int} {a10_:Int} {a11_:Int} (h1:1≤a0_) (h2:a0_≤64) (h3:0≤a10_) (h4:a10_≤144115188075855872) (h5:1≤a11_) (h6:a11_≤16777216):W (wR a0_ a10_ a11_) (fun r=>r=(bif decide ((144115188075855872:Int).tdiv (a0_.tdiv (gL a0_ a11_))<a10_) then (-1,1) else (a10_*(a0_.tdiv (gL a0_ a11_)),a11_.tdiv (gL a0_ a11_)))):=by
 unfold wR;refine av (uj ob ob) fun v1 hv1=>?_;subst v1;have hg:=vk a0_ a11_ om; have q1:=tdiv_le a0_ _ om hg; have q2:=tdiv_le a11_ _ om hg; have q4:=ad2 a0_ a11_ om om; have q5:=tdiv_le 144115188075855872 _ om (show 0<a0_.tdiv (gL a0_ a11_) by omega);refine wm ?_;refine bP (fun c1=>?_) (fun c1=>?_)
 ·have c1o:=c1;have c1:=nr c1;refine ah ?_;(rw [c1o]; rfl)
 ·have c1o:=c1;have c1:=nr c1;have q3:=Qt (x:=a10_) (M:=144115188075855872) (e:=a0_.tdiv (gL a0_ a11_)) om om om c1;refine wm ?_;refine wn ?_;refine ah ?_;(rw [c1o]; rfl)
theorem MJ {r_:bF} {k_:Int} {scale0_:Int} {scale1_:Int} {scale2_:Int} (h1:k_=scale0_) (h2:r_.Num=scale1_) (h3:r_.Den=scale2_):W (qN r_ k_ scale0_ scale1_ scale2_) (fun r=>r=mD r_ k_):=by
 subst h1 h2 h3;unfold qN;refine av (xG) fun v1 hv1=>?_;subst v1;refine bP (fun c1=>?_) (fun c1=>?_)
 ·have c1o:=c1;have c1:=nr c1;refine ah ?_;(unfold mD; rw [c1o]; rfl)
 ·have c1o:=c1;have c1:=nr c1;have hv:=jL (r:=r_) (by simpa using c1o);refine wi (fun c2=>?_) (fun c2=>?_)
  ·refine ah ?_;(unfold mD rz; rw [c1o]; simp only [cond_false]; rw [show (!(decide (1≤k_)&&decide (k_≤64)))=true by simp; omega]; rfl)
  ·refine av (Qv ob ob ob ob ob ob) fun v2 hv2=>?_;subst v2;have hg:=vk k_ r_.Den om; have q1:=tdiv_le k_ _ om hg; have q2:=tdiv_le r_.Den _ om hg; have q4:=ad2 k_ r_.Den om om; have q3:=MI (show 0≤k_.tdiv (gL k_ r_.Den) by omega) q4.2 hv.1 hv.2.1; have q6:∀M:Int,M.tdiv (k_.tdiv (gL k_ r_.Den))<r_.Num∨r_.Num≤M.tdiv (k_.tdiv (gL k_ r_.Den)):=fun M=>by omega
   refine av (Qu (by cases hd:decide ((144115188075855872:Int).tdiv (k_.tdiv (gL k_ r_.Den))<r_.Num) with | true=>(simp only [cond_true]; omega) | false=>(have q7:=Qt (x:=r_.Num) (M:=144115188075855872) (e:=k_.tdiv (gL k_ r_.Den)) om om om (by have:=of_decide_eq_false hd; omega); simp only [cond_false]; omega)) (by cases hd:decide ((144115188075855872:Int).tdiv (k_.tdiv (gL k_ r_.Den))<r_.Num) with | true=>(simp only [cond_true]; omega) | false=>(have q7:=Qt (x:=r_.Num) (M:=144115188075855872) (e:=k_.tdiv (gL k_ r_.Den)) om om om (by have:=of_decide_eq_false hd; omega); simp only [cond_false]; omega))) fun v3 hv3=>?_;subst v3;refine ah ?_;(unfold mD rz; rw [c1o]; simp only [cond_false]; rw [show (!(decide (1≤k_)&&decide (k_≤64)))=false by simp; omega]; simp only [cond_false]; cases hd:decide ((144115188075855872:Int).tdiv (k_.tdiv (gL k_ r_.Den))<r_.Num)<;>rfl)
theorem Uj {r_:bF} {k_:Int}:W (CW r_ k_) (fun r=>r=mD r_ k_):=by
 unfold CW;refine av (MJ rfl rfl rfl) fun v1 hv1=>?_;subst v1;refine ah ?_;rfl
theorem JH {r_:bF} {low_:Int} {high_:Int}:W (uP r_ low_ high_) (fun r=>r=mM r_ low_ high_):=by
 unfold uP;refine av (xG) fun v1 hv1=>?_;subst v1;refine bP (fun c1=>?_) (fun c1=>?_)
 ·have c1o:=c1;have c1:=nr c1;refine ah ?_;(unfold mM; rw [show validR r_=false by simpa using c1o]; rfl)
 ·have c1o:=c1;have c1:=nr c1;have hv:=jL (r:=r_) (by simpa using c1o); have q1:=tdiv_le r_.Num r_.Den hv.1 om;refine wm ?_;refine ah ?_;(unfold mM; rw [show validR r_=true by simpa using c1o]; rfl)
end Go.Proofs.YtfblhejmclcdmaaGreatDoor

namespace Go.Proofs.YtfblhejmclcdmaaGreatDoor
open Go.Ab
set_option maxRecDepth 100000
theorem GR {l:List aC} {m:List bJ} (h:limsB l m=true):∀x∈m,GH l.length x=false:=fun x hx=>by
 obtain ⟨_,_,h1⟩:=GL h;obtain ⟨i,hi,rfl⟩:=List.mem_iff_getElem.1 hx;have:=h1 i hi;rwa [List.getD_eq_getElem?_getD,List.getElem?_eq_getElem hi] at this
theorem BU {l:List aC} {s:List Int} {i:Nat} {v:bF} {L:List bF} (hL:L=pW l s i++List.replicate (l.length - i) dA) (hi:i<l.length) (e:Ry (pW l s i) (l.getD i aF) (s.getD i 0)=v) {k:Nat} (hk:k=i+1:=by omega):L.set i v=pW l s k++List.replicate (l.length - k) dA:=by
 subst hk hL;have hrl:=sW l s i;have hrep:List.replicate (l.length - i) dA=dA::List.replicate (l.length - (i+1)) dA:=by
  rw [show l.length - i=(l.length - (i+1))+1 by omega];rfl
 rw [hrep,List.set_append_right _ _ om,hrl,Nat.sub_self,pW,e,List.append_assoc];rfl
theorem MK {x_:bJ} {a1_:(List aC)} (h1:a1_.length≤2000000):W (mZ x_ a1_) (fun r=>r=GH a1_.length x_):=by
 unfold mZ;refine wn ?_;refine av (FN (ig _ _ _)) fun v1 hv1=>?_;subst v1;refine av (eD fun hc=>ig _ _ _) fun v2 hv2=>?_;subst v2;refine av (eD fun hc=>ig _ _ _) fun v3 hv3=>?_;subst v3;refine ah ?_;rfl
theorem sZ {s_:(List bJ)} {f_:(List aC)} (h1:s_.length≤2000000) (h2:f_.length≤2000000):W (jr s_ f_) (fun r=>r=s_.any (GH f_.length)):=
 FN (JF (JE (p:=fun x=>mZ x f_) (P:=GH f_.length) (fun x hx=>jm (MK h2)) om) (nH _ _))
theorem Qw {l_:(List aC)} {m_:(List bJ)} (h1:l_.length≤2000000) (h2:m_.length≤2000000):W (wP l_ m_) (fun r=>r=limsB l_ m_):=by
 unfold wP;refine av (FN (Ar ob)) fun v1 hv1=>?_;subst v1;refine av (eD fun hc=>jm (sZ ob ob)) fun v2 hv2=>?_;subst v2;refine ah ?_;rfl
theorem EB {l_:(List aC)} {s_:(List Int)} (h1:l_.length≤2000000) (h2:s_.length≤2000000) (h3:Xw l_):W (oL l_ s_) (fun r=>r=settB l_ s_):=by
 unfold oL;refine bP (fun c1=>?_) (fun c1=>?_)
 ·have c1o:=c1;have c1:=nr c1;refine ah ?_;(unfold settB; rw [show ((s_.length:Int)==(l_.length:Int))=false by simpa using c1o]; rfl)
 ·have c1o:=c1;have c1:=nr c1;have he:((s_.length:Int)==(l_.length:Int))=true:=by simpa using c1o
  refine bA (fun (g1:Int)=>0≤g1∧g1≤s_.length∧(∀j:Nat,(j:Int)<g1→withinF (s_.getD j 0) 0 ((l_.getD j aF).Choices.length - 1)=true)) (fun (g1:Int)=>(s_.length - g1).toNat) ?_ ?_
  ·intro self1 g1 hig1 ihg1;obtain ⟨hg1_1,hg1_2,hg1_3⟩:=hig1;unfold Bp;refine wi (fun c2=>?_) (fun c2=>?_)
   ·have hch:=h3 g1.toNat om;refine wm ?_;refine wn ?_;refine av (FN (ig _ _ _)) fun v3 hv3=>?_;subst v3;refine bP (fun c3=>?_) (fun c3=>?_)
    ·have c3o:=c3;have c3:=nr c3;refine ah ?_;(unfold settB; rw [he,rC (i:=g1.toNat) om (by simpa using c3o)]; rfl)
    ·have c3o:=c3;have c3:=nr c3;refine wn ?_;refine ihg1 _ ?_ ?_
     ·(refine ⟨ob,ob,fun j hj=>?_⟩; by_cases q:j<g1.toNat; (exact hg1_3 j om); (have e:j=g1.toNat:=by omega); subst e; simpa using c3o)
     ·exact ob
   ·refine ah ?_;(unfold settB; rw [he,uh fun j hj=>hg1_3 j om]; rfl)
  ·(refine ⟨ob,ob,fun j hj=>by omega⟩)
theorem Qx {l_:(List aC)} {s_:(List Int)} {clock_:Int} (h1:0≤clock_) (h2:clock_<l_.length) (h3:clock_<s_.length) (h4:Qr (l_.getD clock_.toNat aF) (s_.getD clock_.toNat 0)):W (wQ l_ s_ clock_) (fun r=>r=parF (l_.getD clock_.toNat aF) (s_.getD clock_.toNat 0)):=by
 have hp:=h4; unfold Qr at hp;unfold wQ;refine wn ?_;refine bP (fun c1=>?_) (fun c1=>?_)
 ·have c1o:=c1;have c1:=nr c1;refine ah ?_;(unfold parF; rw [c1o]; rfl)
 ·have c1o:=c1;have c1:=nr c1;refine bP (fun c2=>?_) (fun c2=>?_)
  ·have c2o:=c2;have c2:=nr c2;refine wm ?_;refine wn ?_;refine ah ?_;(unfold parF; rw [c1o,c2o]; rfl)
  ·have c2o:=c2;have c2:=nr c2;refine wn ?_;refine ah ?_;(unfold parF; rw [c1o,c2o]; rfl)
theorem JI {l_:(List aC)} {s_:(List Int)} (h1:Good l_ s_):W (uO l_ s_) (fun r=>r=fF l_ s_):=by
 obtain ⟨q1,q2,q3,q4,q5⟩:=h1;unfold uO;refine wn ?_;refine bA (fun (g1:(Int×(List bF)))=>0≤g1.1∧g1.1≤l_.length∧g1.2=pW l_ s_ g1.1.toNat++List.replicate (l_.length - g1.1.toNat) dA) (fun (g1:(Int×(List bF)))=>(l_.length - g1.1).toNat) ?_ ?_
 ·intro self1 g1 hig1 ihg1;obtain ⟨hg1_1,hg1_2,hg1_3⟩:=hig1;unfold F9;refine wi (fun c1=>?_) (fun c1=>?_)
  ·have hlt:g1.1.toNat<l_.length:=om; have hch:=q3 _ hlt; have hpar:=q5 _ hlt; have hpc:=q4 _ hlt; have hrl:=sW l_ s_ g1.1.toNat; have hgl:g1.2.length=l_.length:=(by rw [hg1_3,List.length_append,hrl,List.length_replicate]; omega);refine wm ?_;refine wn ?_;refine av (Qx ob ob ob ob) fun v7 hv7=>?_;subst v7;refine bP (fun c2=>?_) (fun c2=>?_)
   ·have c2o:=c2;have c2:=nr c2;refine wm ?_;refine ihg1 _ ?_ ?_
    ·(refine ⟨ob,ob,?_⟩; dsimp only; exact BU hg1_3 om (by unfold Ry; rw [c2o]; rfl))
    ·exact ob
   ·have c2o:=c2;have c2:=nr c2;have hget:g1.2.getD (parF (l_.getD g1.1.toNat aF) (s_.getD g1.1.toNat 0)).toNat dA=(pW l_ s_ g1.1.toNat).getD (parF (l_.getD g1.1.toNat aF) (s_.getD g1.1.toNat 0)).toNat dA:=by rw [hg1_3]; exact mV _ om
    refine wn ?_;refine bP (fun c3=>?_) (fun c3=>?_)
    ·have c3o:=c3;have c3:=nr c3;refine wm ?_;refine ihg1 _ ?_ ?_
     ·(refine ⟨ob,ob,?_⟩; dsimp only; exact BU hg1_3 om (by unfold Ry; rw [c2o,← hget,show (qz _||_)=true from c3o]; rfl))
     ·exact ob
    ·have c3o:=c3;have c3:=nr c3;refine bP (fun c4=>?_) (fun c4=>?_)
     ·have c4o:=c4;have c4:=nr c4;refine wn ?_;refine av (VN) fun v8 hv8=>?_;subst v8;refine wm ?_;refine ihg1 _ ?_ ?_
      ·(refine ⟨ob,ob,?_⟩; dsimp only; exact BU hg1_3 om (by unfold Ry; rw [c2o,← hget,show (qz _||_)=false from c3o,c4o]; rfl))
      ·exact ob
     ·have c4o:=c4;have c4:=nr c4;refine bP (fun c5=>?_) (fun c5=>?_)
      ·have c5o:=c5;have c5:=nr c5;refine wn ?_;refine av (Uj) fun v9 hv9=>?_;subst v9;refine wm ?_;refine ihg1 _ ?_ ?_
       ·(refine ⟨ob,ob,?_⟩; dsimp only; exact BU hg1_3 om (by unfold Ry; rw [c2o,← hget,show (qz _||_)=false from c3o,c4o,c5o]; rfl))
       ·exact ob
      ·have c5o:=c5;have c5:=nr c5;refine wm ?_;refine wn ?_;refine ihg1 _ ?_ ?_
       ·(refine ⟨ob,ob,?_⟩; dsimp only; exact BU hg1_3 om (by unfold Ry; rw [c2o,← hget,show (qz _||_)=false from c3o,c4o,c5o]; rfl))
       ·exact ob
  ·refine ah ?_;(rw [hg1_3,show g1.1.toNat=l_.length by omega,Nat.sub_self]; simp [fF])
 ·(refine ⟨ob,ob,?_⟩; simp [pW])
theorem Om {x_:bJ} {a1_:(List bF)} (h1:0≤x_.Clock) (h2:x_.Clock<a1_.length):W (oM x_ a1_) (fun r=>r=Xx a1_ x_):=by
 unfold oM;refine wm ?_;refine av (eD fun hc=>jm (JH)) fun v1 hv1=>?_;subst v1;refine ah ?_;rfl
theorem qC {s_:(List bJ)} {f_:(List bF)} (h1:s_.length≤2000000) (h2:∀x∈s_,0≤x.Clock∧x.Clock<f_.length):W (iy s_ f_) (fun r=>r=s_.any (Xx f_)):=
 FN (JF (JE (p:=fun x=>oM x f_) (P:=Xx f_) (fun x hx=>jm (Om (h2 x hx).1 (h2 x hx).2)) om) (nH _ _))
theorem RF {l_:(List aC)} {s_:(List Int)} {m_:(List bJ)} (h1:l_.length≤2000000) (h2:s_.length≤2000000) (h3:m_.length≤2000000) (h4:Xw l_):W (zG l_ s_ m_) (fun r=>r=fA l_ s_ m_):=by
 unfold zG;refine av (Qw ob ob) fun v1 hv1=>?_;subst v1;refine av (eD fun hc=>jm (EB ob ob ob)) fun v2 hv2=>?_;subst v2;refine bP (fun c1=>?_) (fun c1=>?_)
 ·have c1o:=c1;have c1:=nr c1;refine ah ?_;(unfold fA; rw [show (limsB l_ m_&&settB l_ s_)=false from Bool.and_eq_false_iff.2 c1]; rfl)
 ·have c1o:=c1;have c1:=nr c1;have hls:limsB l_ m_=true∧settB l_ s_=true:=by simpa using c1o
  obtain ⟨hck,hml,hmb⟩:=GL hls.1;have hgd:=K8 (xE hck) hls.2;have hrl:(fF l_ s_).length=l_.length:=sW _ _ _;refine av (JI ob) fun v3 hv3=>?_;subst v3;refine bA (fun (g1:Int)=>0≤g1∧g1≤l_.length∧(∀j:Nat,(j:Int)<g1→ownX ((fF l_ s_).getD j dA) (l_.getD j aF)=false)) (fun (g1:Int)=>(l_.length - g1).toNat) ?_ ?_
  ·intro self1 g1 hig1 ihg1;obtain ⟨hg1_1,hg1_2,hg1_3⟩:=hig1;unfold Ga;refine wi (fun c2=>?_) (fun c2=>?_)
   ·refine wm ?_;refine wn ?_;refine av (eD fun hc=>jm (JH)) fun v6 hv6=>?_;subst v6;refine bP (fun c3=>?_) (fun c3=>?_)
    ·have c3o:=c3;have c3:=nr c3;refine ah ?_;(unfold fA; rw [hls.1,hls.2,show ownB l_ (fF l_ s_)=false from rC (i:=g1.toNat) om (by rw [show ownX ((fF l_ s_).getD g1.toNat dA) (l_.getD g1.toNat aF)=true from c3o]; rfl)]; rfl)
    ·have c3o:=c3;have c3:=nr c3;refine wn ?_;refine ihg1 _ ?_ ?_
     ·(refine ⟨ob,ob,fun j hj=>?_⟩; by_cases q:j<g1.toNat; (exact hg1_3 j om); (have e:j=g1.toNat:=by omega); subst e; exact c3o)
     ·exact ob
   ·refine av (qC ob (fun x hx=>by rw [hrl]; exact (GN (GR hls.1 x hx)).1)) fun v7 hv7=>?_;subst v7;refine ah ?_;(unfold fA; rw [hls.1,hls.2,show ownB l_ (fF l_ s_)=true from uh fun j hj=>by rw [hg1_3 j om]; rfl]; rfl)
  ·(refine ⟨ob,ob,fun j hj=>by omega⟩)
theorem RG {l_:(List aC)} {s_:(List Int)} (h1:l_.length≤2000000) (h2:s_.length≤2000000) (h3:Xw l_):W (zH l_ s_) (fun r=>r=Aq l_ s_):=by
 unfold zH;refine av (FN (Ar ob)) fun v1 hv1=>?_;subst v1;refine bP (fun c1=>?_) (fun c1=>?_)
 ·have c1o:=c1;have c1:=nr c1;refine ah ?_;(unfold Aq; rw [c1o]; rfl)
 ·have c1o:=c1;have c1:=nr c1;have hck:cZ l_=0:=by simpa using c1o
  refine av (EB ob ob ob) fun v2 hv2=>?_;subst v2;refine bP (fun c2=>?_) (fun c2=>?_)
  ·have c2o:=c2;have c2:=nr c2;refine ah ?_;(unfold Aq; rw [c1o,c2o]; rfl)
  ·have c2o:=c2;have c2:=nr c2;have hgd:=K8 (xE hck) (show settB l_ s_=true by simpa using c2o);refine av (JI ob) fun v3 hv3=>?_;subst v3;refine ah ?_;(unfold Aq; rw [c1o,c2o]; rfl)
end Go.Proofs.YtfblhejmclcdmaaGreatDoor


namespace Go.Proofs.YtfblhejmclcdmaaGreatDoor.Sp
open Go.Ab
set_option maxRecDepth 100000
deriving instance DecidableEq for au,bB,bf
structure Chn where
 over:Bool
 af7:List Int
 first:Int
 last:Int
deriving DecidableEq
structure Zk where
 La:Int
 draw:Int
 child:Int
deriving DecidableEq
def RH:Zk:=⟨0,0,0⟩
def withinF (n lo hi:Int):Bool:=decide (lo≤n)&&decide (n≤hi)
def bigS (s:au):Bool:=decide (16<(s.bK.length:Int))
def headB (s:au) (k:Int):Bool:=((((!withinF s.Parent (-1) (k - 1))||((s.bK.length:Int)==0))||!withinF s.eU 0 5000)||(decide (s.Parent<0)&&(s.eU != 0)))||!withinF s.fG 0 10000
def ML:Int→List Int→Bool
 | _,[]=>true
 | p,v::t=>!(!withinF v 1 5000||decide (v≤p))&&ML v t
def validS (s:au) (k:Int):Bool:=!headB s k&&ML 0 s.bK
theorem VO {lev:List Int} {i:Nat} (hi:i<lev.length) {c:Bool} (hc:c=(!withinF (lev.getD i 0) 1 5000||(decide (0<(i:Int))&&decide (lev.getD i 0≤lev.getD (i - 1) 0)))):
  ML (if i=0 then 0 else lev.getD (i - 1) 0) (lev.drop i)=(!c&&ML (lev.getD i 0) (lev.drop (i+1))):=by
 rw [drop_cons 0 hi,ML,hc];congr 2;cases h:withinF (lev.getD i 0) 1 5000 with
 | false=>rfl
 | true=>
  have h1:1≤lev.getD i 0:=by unfold withinF at h; simp at h; simpa using h.1
  by_cases h0:i=0
  ·subst h0;simp;have h1:1≤lev.getD 0 0:=h1;have:¬ lev.getD 0 0≤0:=by omega
   simpa using this
  ·have:decide (0<(i:Int))=true:=by simp; omega
   rw [this,if_neg h0];simp
def RI (n:Int) (x:bB):Bool:=((!withinF x.bQ 0 (n - 1)||!withinF x.High 0 5000)||!withinF x.Low 0 x.High)||!withinF x.Load 0 10000
def MN:Nat→List au→Bool
 | _,[]=>true
 | i,s::t=>validS s i&&MN (i+1) t
def cZ (l:List au):Int:=bif decide (16<(l.length:Int))||l.any bigS then 3 else bif MN 0 l then 0 else 1
theorem kE {α:Type} (d:α) {p:α→Bool} {l:List α} (h:l.any p=false) (i:Nat) (hi:i<l.length):p (l.getD i d)=false:=by
 have:=gF d hi;rw [List.any_eq_false] at h;simpa using h _ this
theorem Yn (n:Nat):decide ((n:Int)<1)=((n:Int)==0):=by
 by_cases h:n=0
 ·subst h; rfl
 ·rw [decide_eq_false om];symm;simpa using h
def mE (l:List au) (d:List bB):Bool:=((cZ l==0)&&decide ((d.length:Int)≤32))&&!(d.any (RI l.length))
theorem VP (n:Int) (x:bB):(((!withinF x.bQ 0 (n - 1)||!withinF x.Low 0 x.High)||decide (5000<x.High))||!withinF x.Load 0 10000)=RI n x:=by
 unfold RI;cases withinF x.bQ 0 (n - 1) with
 | false=>rfl
 | true=>
  cases withinF x.Load 0 10000 with
  | false=>simp
  | true=>
   simp only [Bool.not_true,Bool.false_or,Bool.or_false];unfold withinF;by_cases h1:0≤x.Low<;>by_cases h2:x.Low≤x.High<;>by_cases h3:5000<x.High<;>by_cases h4:0≤x.High<;>by_cases h5:x.High≤5000<;>simp [h1,h2,h3,h4,h5]<;>omega
def rlN:List au→List Int→Bool
 | s::l,k::t=>withinF k 0 (s.bK.length - 1)&&rlN l t
 | _,_=>true
def rE (l:List au) (r:bf):Bool:=bif ((cZ l != 0)||((r.On.length:Int) != l.length))||((r.Level.length:Int) != l.length) then false else rlN l r.Level
theorem Dk {l:List au} (h:cZ l=0):l.length≤16∧(∀i,i<l.length→(l.getD i aj).bK.length≤16)∧MN 0 l=true:=by
 unfold cZ at h;cases h1:(decide (16<(l.length:Int))||l.any bigS) with
 | true=>rw [h1] at h; cases h
 | false=>
  rw [h1] at h;have h2:MN 0 l=true:=by
   cases hv:MN 0 l with
   | true=>rfl
   | false=>rw [hv] at h; cases h
  simp only [Bool.or_eq_false_iff] at h1;refine ⟨by have:=of_decide_eq_false h1.1; omega,fun i hi=>?_,h2⟩;have:=kE aj h1.2 i hi;unfold bigS at this;have:=of_decide_eq_false this;omega
def beginF (l:List au) (d:List bB):Int:=bif cZ l != 0 then cZ l else bif !mE l d then 1 else 0
theorem fB {α:Type} (d:α) (l:List α) (i:Nat) (v:α) (k:Nat):(l.set i v).getD k d=if k=i∧i<l.length then v else l.getD k d:=by
 rw [List.getD_eq_getElem?_getD,List.getD_eq_getElem?_getD,List.getElem?_set];by_cases h:i=k
 ·subst h;by_cases h2:i<l.length
  ·simp [h2]
  ·simp [h2]
 ·have:¬ (k=i∧i<l.length):=fun h'=>h h'.1.symm;simp [h,this]
def Lb {α:Type} (f:Nat→α→α):Nat→α→α
 | 0,a=>a
 | k+1,a=>Lb f k (f k a)
def sD (n:Nat) (d:List bB):List Bool:=d.foldl (fun a x=>a.set x.bQ.toNat true) (List.replicate n false)
def iI (l:List au) (i:Nat) (a:List Bool):List Bool:=
 bif (a.getD i false||(l.getD i aj).Always)&&decide (0≤(l.getD i aj).Parent) then (a.set i (a.getD i false||(l.getD i aj).Always)).set (l.getD i aj).Parent.toNat true else a.set i (a.getD i false||(l.getD i aj).Always)
def jl (l:List au) (d:List bB):List Bool:=Lb (iI l) l.length (sD l.length d)
structure Zl (l:List au) (d:List bB):Prop where
 len:l.length≤16
 afq:d.length≤32
 bQ:∀i,i<l.length → -1≤(l.getD i aj).Parent∧(l.getD i aj).Parent<i∧1≤(l.getD i aj).bK.length∧(l.getD i aj).bK.length≤16∧0≤(l.getD i aj).eU∧(l.getD i aj).eU≤5000∧0≤(l.getD i aj).fG∧(l.getD i aj).fG≤10000
 bK:∀i,i<l.length→ML 0 (l.getD i aj).bK=true
 drw:∀x∈d,0≤x.bQ∧x.bQ<l.length∧0≤x.Low∧x.Low≤x.High∧x.High≤5000∧0≤x.Load∧x.Load≤10000
theorem Ac {n lo hi:Int}:withinF n lo hi=true↔lo≤n∧n≤hi:=by
 unfold withinF;simp
theorem VQ {l:List au} {k:Nat} (h:MN k l=true):∀i,i<l.length→validS (l.getD i aj) ((k+i:Nat):Int)=true:=by
 induction l generalizing k with
 | nil=>intro i hi; simp at hi
 | cons s t ih=>
  rw [MN,Bool.and_eq_true] at h;intro i hi;cases i with
  | zero=>exact h.1
  | succ i=>
   have:=ih h.2 i (by simpa using hi);rw [show k+(i+1)=k+1+i by omega];exact this
theorem VR {s:au} {k:Int} (h:validS s k=true) : -1≤s.Parent∧s.Parent<k∧1≤s.bK.length∧0≤s.eU∧s.eU≤5000∧0≤s.fG∧s.fG≤10000∧ML 0 s.bK=true∧(s.Parent<0→s.eU=0):=by
 unfold validS headB at h;simp only [Bool.and_eq_true,Bool.not_eq_true',Bool.or_eq_false_iff,Bool.not_eq_false',Ac] at h;obtain ⟨⟨⟨⟨⟨h1,h2⟩,h3⟩,h4⟩,h5⟩,h6⟩:=h;have h2':¬ (s.bK.length:Int)=0:=by simpa using h2
 refine ⟨h1.1,om,om,h3.1,h3.2,h5.1,h5.2,h6,fun hp=>?_⟩;rw [decide_eq_true hp] at h4;simpa using h4
theorem Xz {l:List au} {d:List bB} (h:mE l d=true):Zl l d:=by
 unfold mE at h;simp only [Bool.and_eq_true,Bool.not_eq_true'] at h;obtain ⟨⟨h1,h2⟩,h3⟩:=h;have h1:cZ l=0:=by simpa using h1
 obtain ⟨c1,c2,c3⟩:=Dk h1;refine ⟨c1,by have:=of_decide_eq_true h2; omega,fun i hi=>?_,fun i hi=>?_,fun x hx=>?_⟩
 ·have:=VR (VQ c3 i hi);have:=c2 i hi;omega
 ·exact (VR (VQ c3 i hi)).2.2.2.2.2.2.2.1
 ·have:=(List.any_eq_false.1 h3) x hx;unfold RI at this;simp only [Bool.not_eq_true,Bool.or_eq_false_iff,Bool.not_eq_false',Ac] at this;omega
theorem Td {α β:Type} (f:List α→β→List α) (hf:∀a x,(f a x).length=a.length) (d:List β) (a:List α):(d.foldl f a).length=a.length:=by
 induction d generalizing a with
 | nil=>rfl
 | cons x d ih=>rw [List.foldl_cons,ih,hf]
theorem qA (n:Nat) (d:List bB):(sD n d).length=n:=by
 unfold sD;rw [Td _ (fun a x=>List.length_set ..),List.length_replicate]
theorem lT (l:List au) (i:Nat) (a:List Bool):(iI l i a).length=a.length:=by
 unfold iI;cases (a.getD i false||(l.getD i aj).Always)&&decide (0≤(l.getD i aj).Parent)<;>simp
theorem Te {α:Type} {f:Nat→List α→List α} (hf:∀i a,(f i a).length=a.length) (k:Nat) (a:List α):(Lb f k a).length=a.length:=by
 induction k generalizing a with
 | zero=>rfl
 | succ k ih=>rw [Lb,ih,hf]
theorem Iz (l:List au) (d:List bB):(jl l d).length=l.length:=by
 unfold jl;rw [Te (lT l),qA]
def Md {α:Type} (f:Nat→α→α) (n:Nat):Nat→α→α
 | 0,a=>a
 | k+1,a=>f (n - 1 - k) (Md f n k a)
theorem Zm {α:Type} (f:Nat→α→α) (n k:Nat) (hk:k≤n) (a:α):Lb f n a=Lb f (n - k) (Md f n k a):=by
 induction k with
 | zero=>rfl
 | succ k ih=>
  rw [ih om,show n - k=n - (k+1)+1 by omega,Lb,Md,show n - 1 - k=n - (k+1) by omega]
theorem Pd {α:Type} (f:Nat→α→α) (n:Nat) (a:α):Md f n n a=Lb f n a:=by
 rw [Zm f n n (Nat.le_refl _),Nat.sub_self];rfl
theorem Ad {α:Type} {f:Nat→List α→List α} (hf:∀i a,(f i a).length=a.length) (n k:Nat) (a:List α):(Md f n k a).length=a.length:=by
 induction k with
 | zero=>rfl
 | succ k ih=>rw [Md,hf,ih]
theorem vv {α:Type} (n k:Nat) (v:α):(List.replicate n v).getD k v=v:=by
 rw [List.getD_eq_getElem?_getD,List.getElem?_replicate];split<;>rfl
def vU (n:Nat) (d:List bB):List Int:=d.foldl (fun a x=>a.set x.bQ.toNat (a.getD x.bQ.toNat 0+x.Load)) (List.replicate n 0)
def fV (l:List au) (i:Nat) (a:List Int):List Int:=
 bif decide (0≤(l.getD i aj).Parent) then a.set (l.getD i aj).Parent.toNat (a.getD (l.getD i aj).Parent.toNat 0+a.getD i 0) else a
def yP (l:List au) (d:List bB):List Int:=Lb (fV l) l.length (vU l.length d)
theorem Lc (n:Nat) (d:List bB):(vU n d).length=n:=by
 unfold vU;rw [Td _ (fun a x=>List.length_set ..),List.length_replicate]
theorem Dl (l:List au) (i:Nat) (a:List Int):(fV l i a).length=a.length:=by
 unfold fV;cases decide (0≤(l.getD i aj).Parent)<;>simp
theorem Ki (l:List au) (d:List bB):(yP l d).length=l.length:=by
 unfold yP;rw [Te (Dl l),Lc]
def Bnd (a:List Int) (M:Int):Prop:=∀j,0≤a.getD j 0∧a.getD j 0≤M
theorem Bnd.set {a:List Int} {M N:Int} (h:Bnd a M) (hM:M≤N) (i:Nat) (v:Int) (hv:0≤v∧v≤N):Bnd (a.set i v) N:=fun j=>by
 rw [fB];have:=h j;split
 ·exact hv
 ·omega
theorem VT (n:Nat) (d:List bB) (hd:∀x∈d,0≤x.Load∧x.Load≤10000) (i:Nat) (hi:i≤d.length):Bnd (vU n (d.take i)) (10000*i):=by
 induction i with
 | zero=>intro j; rw [List.take_zero]; have:(vU n []).getD j 0=0:=vv n j 0; omega
 | succ i ih=>
  have hsn:vU n (d.take (i+1))=(vU n (d.take i)).set (d.getD i bX).bQ.toNat ((vU n (d.take i)).getD (d.getD i bX).bQ.toNat 0+(d.getD i bX).Load):=pR _ _ bX hi;rw [hsn];have h1:=ih om;have h2:=hd _ (gF bX hi);have h3:=h1 (d.getD i bX).bQ.toNat;exact h1.set om _ _ om
theorem XA (l:List au) (a:List Int) (M:Int) (h:Bnd a M) (k:Nat):Bnd (Md (fV l) l.length k a) (M*2 ^ k):=by
 induction k with
 | zero=>show Bnd a (M*2 ^ 0); rw [Int.pow_zero,Int.mul_one]; exact h
 | succ k ih=>
  rw [Md];have e:M*2 ^ (k+1)=M*2 ^ k+M*2 ^ k:=by rw [Int.pow_succ,← Int.mul_assoc]; omega
  rw [e];generalize Md (fV l) l.length k a=A at ih;generalize M*2 ^ k=X at ih;have hp:0≤X:=by have:=ih 0; omega
  unfold fV;cases decide (0≤(l.getD (l.length - 1 - k) aj).Parent) with
  | true=>
   have h1:=ih (l.getD (l.length - 1 - k) aj).Parent.toNat;have h2:=ih (l.length - 1 - k);exact ih.set om _ _ om
  | false=>
   intro j;have:=ih j;simp only [cond_false];omega
theorem Ld {l:List au} {d:List bB} (hv:Zl l d) (k:Nat) (hk:k≤l.length):Bnd (Md (fV l) l.length k (vU l.length d)) 100000000000:=by
 have h1:=VT l.length d (fun x hx=>by have:=hv.drw x hx; omega) d.length (Nat.le_refl _);rw [List.take_length] at h1;have h2:=XA l _ _ h1 k;have hvl:=hv.len;have hvd:=hv.afq;have h3:(2:Int) ^ k≤2 ^ 16:=by exact_mod_cast Nat.pow_le_pow_right (n:=2) (by decide) (show k≤16 by omega)
 have h4:10000*(d.length:Int)*2 ^ k≤320000*2 ^ 16:=Int.mul_le_mul om h3 (Int.pow_nonneg (by decide)) (by decide);intro j;have:=h2 j;omega
theorem abh {l:List au} {d:List bB} (h:beginF l d=0):mE l d=true:=by
 unfold beginF at h;cases hc:cZ l != 0 with
 | true=>rw [hc] at h; have:cZ l=0:=h; rw [this] at hc; cases hc
 | false=>
  rw [hc] at h;cases hd:mE l d with
  | true=>rfl
  | false=>rw [hd] at h; cases h
def sF (l:List au) (r:bf) (k:Nat):Int:=(l.getD k aj).bK.getD (r.Level.getD k 0).toNat 0
def Kj (l:List au) (r:bf) (u:List Bool) (ld:List Int) (i:Nat):Bool:=
 bif !r.On.getD i false then u.getD i false
 else (decide (0≤(l.getD i aj).Parent)&&(!r.On.getD (l.getD i aj).Parent.toNat false||decide (sF l r (l.getD i aj).Parent.toNat<sF l r i+(l.getD i aj).eU)))||decide ((l.getD i aj).fG<ld.getD i 0)
def dBad (l:List au) (r:bf) (x:bB):Bool:=!withinF (sF l r x.bQ.toNat) x.Low x.High
def vV (l:List au) (r:bf) (d:List bB):Bool:=(List.range l.length).all (fun i=>!Kj l r (jl l d) (yP l d) i)&&!(d.any (dBad l r))
def fA (l:List au) (r:bf) (d:List bB):Bool:=bif !rE l r||!mE l d then false else vV l r d
structure Rok (l:List au) (r:bf):Prop where
 On:r.On.length=l.length
 len:r.Level.length=l.length
 bK:∀i,i<l.length→0≤r.Level.getD i 0∧(r.Level.getD i 0).toNat<(l.getD i aj).bK.length∧r.Level.getD i 0<(l.getD i aj).bK.length
theorem acP {l:List au} {r:List Int} (h:r.length=l.length):rlN l r=true↔∀i,i<l.length→0≤r.getD i 0∧r.getD i 0<(l.getD i aj).bK.length:=by
 induction l generalizing r with
 | nil=>simp [rlN]
 | cons s l ih=>
  cases r with
  | nil=>simp at h
  | cons k r=>
   rw [rlN,Bool.and_eq_true,Ac,ih (by simpa using h)];constructor
   ·rintro ⟨h1,h2⟩ i hi;cases i with
    | zero=>show 0≤k∧k<s.bK.length; omega
    | succ i=>exact h2 i (by simpa using hi)
   ·intro h2;refine ⟨?_,fun i hi=>h2 (i+1) (by simpa using hi)⟩;have:0≤k∧k<s.bK.length:=h2 0 (by simp);omega
theorem IB {l:List au} {r:bf}:rE l r=true↔cZ l=0∧Rok l r:=by
 unfold rE;cases h:((cZ l != 0)||((r.On.length:Int) != l.length))||((r.Level.length:Int) != l.length) with
 | true=>
  simp only [cond_true];constructor
  ·intro h; cases h
  ·rintro ⟨h1,h2⟩;rw [h1,h2.On,h2.len] at h;simp at h
 | false=>
  simp only [cond_false];have h':cZ l=0∧r.On.length=l.length∧r.Level.length=l.length:=by
   simp at h;omega
  rw [acP h'.2.2];constructor
  ·intro h1;exact ⟨h'.1,h'.2.1,h'.2.2,fun i hi=>by have:=h1 i hi; omega⟩
  ·intro h1 i hi;have:=h1.2.bK i hi;omega
theorem acQ {p:Int} {v:List Int} (h:ML p v=true):∀j,j<v.length→p<v.getD j 0∧1≤v.getD j 0∧v.getD j 0≤5000:=by
 induction v generalizing p with
 | nil=>intro j hj; simp at hj
 | cons a v ih=>
  rw [ML,Bool.and_eq_true,Bool.not_eq_true',Bool.or_eq_false_iff,Bool.not_eq_false',Ac] at h;have h1:=of_decide_eq_false h.1.2;intro j hj;cases j with
  | zero=>show p<a∧1≤a∧a≤5000; omega
  | succ j=>
   have:=ih h.2 j (by simpa using hj);show p<v.getD j 0∧1≤v.getD j 0∧v.getD j 0≤5000;omega
theorem vW {n i:Nat} {p:Nat→Bool} (hi:i<n) (h:p i=false):(List.range n).all p=false:=by
 rw [List.all_eq_false];exact ⟨i,by simpa using hi,by simp [h]⟩
theorem GU {n:Nat} {p:Nat→Bool} (h:∀i,i<n→p i=true):(List.range n).all p=true:=by
 rw [List.all_eq_true];intro i hi;exact h i (by simpa using hi)
theorem Qy {l:List au} {d:List bB} {r:bf} (hv:Zl l d) (hr:Rok l r) (i:Nat) (hi:i<l.length):1≤sF l r i∧sF l r i≤5000:=by
 have:=acQ (hv.bK i hi) _ (hr.bK i hi).2.1;unfold sF;omega
theorem GQ {α:Type} (d:α) {a b:List α} (h1:a.length=b.length) (h2:∀j,j<a.length→a.getD j d=b.getD j d):a=b:=by
 apply List.ext_getElem h1;intro j hj hj';have:=h2 j hj;rw [List.getD_eq_getElem?_getD,List.getD_eq_getElem?_getD,List.getElem?_eq_getElem hj,List.getElem?_eq_getElem hj'] at this;exact this
def atD (d:List bB) (i:Nat):Bool:=d.any (fun x=>x.bQ==(i:Int))
theorem Zn (n:Nat) (d:List bB) (hd:∀x∈d,0≤x.bQ∧x.bQ<n) (j:Nat):(sD n d).getD j false=atD d j:=by
 unfold sD atD;have key:∀(d:List bB) (a:List Bool),a.length=n→(∀x∈d,0≤x.bQ∧x.bQ<n)→(d.foldl (fun a x=>a.set x.bQ.toNat true) a).getD j false=(a.getD j false||d.any (fun x=>x.bQ==(j:Int))):=by
  intro d;induction d with
  | nil=>intro a _ _; simp
  | cons x d ih=>
   intro a ha hd;have hx:=hd x (by simp);rw [List.foldl_cons,ih _ (by simpa using ha) (fun y hy=>hd y (by simp [hy])),fB,List.any_cons];by_cases hj:j=x.bQ.toNat
   ·have:(x.bQ==(j:Int))=true:=by simp; omega
    rw [if_pos ⟨hj,om⟩,this];simp
   ·have:(x.bQ==(j:Int))=false:=by simp; omega
    rw [if_neg (fun h=>hj h.1),this];simp
 rw [key d _ (by simp) hd,vv];simp
structure JJ (l:List au) (d:List bB) (k:Nat) (b:List Bool):Prop where
 len:b.length=l.length
 hi:∀j,j<l.length→l.length - k≤j→b.getD j false=(Md (iI l) l.length k (sD l.length d)).getD j false
 lo:∀j,j<l.length - k→(Md (iI l) l.length k (sD l.length d)).getD j false=(b.getD j false||atD d j)
def Lf (l:List au) (d:List bB) (i:Nat) (b:List Bool):List Bool:=
 bif (b.getD i false||(l.getD i aj).Always||atD d i)&&decide (0≤(l.getD i aj).Parent) then (b.set i (b.getD i false||(l.getD i aj).Always||atD d i)).set (l.getD i aj).Parent.toNat true else b.set i (b.getD i false||(l.getD i aj).Always||atD d i)
theorem JJ.step {l:List au} {d:List bB} (hv:Zl l d) {k:Nat} {b:List Bool} (h:JJ l d k b) (hk:k<l.length):JJ l d (k+1) (Lf l d (l.length - 1 - k) b):=by
 obtain ⟨h1,h2,h3⟩:=h;have hup:Md (iI l) l.length (k+1) (sD l.length d)=iI l (l.length - 1 - k) (Md (iI l) l.length k (sD l.length d)):=rfl;have hal:(Md (iI l) l.length k (sD l.length d)).length=l.length:=by rw [Ad (lT l),qA]
 generalize Md (iI l) l.length k (sD l.length d)=a at h2 h3 hup hal;have hs:=hv.bQ (l.length - 1 - k) om;have hai:=h3 (l.length - 1 - k) om;generalize hi:l.length - 1 - k=i at hup hs hai;have hF:(a.getD i false||(l.getD i aj).Always)=(b.getD i false||(l.getD i aj).Always||atD d i):=by
  rw [hai];cases b.getD i false<;>cases (l.getD i aj).Always<;>cases atD d i<;>rfl
 refine ⟨?_,?_,?_⟩
 ·unfold Lf;cases (b.getD i false||(l.getD i aj).Always||atD d i)&&decide (0≤(l.getD i aj).Parent)<;>simp [h1]
 all_goals
  rw [hup]
  unfold Lf iI
  rw [hF]
  generalize (b.getD i false||(l.getD i aj).Always||atD d i)=F
  cases hc:F&&decide (0≤(l.getD i aj).Parent) with
  | true=>
   simp only [cond_true]
   simp only [Bool.and_eq_true] at hc
   have hp:=of_decide_eq_true hc.2
   intro j hj
   try intro hj2
   simp only [fB,List.length_set,h1,hal]
   by_cases hjp:j=(l.getD i aj).Parent.toNat∧(l.getD i aj).Parent.toNat<l.length
   ·rw [if_pos hjp,if_pos hjp]
    try rfl
   ·rw [if_neg hjp,if_neg hjp]
    by_cases hji:j=i∧i<l.length
    ·rw [if_pos hji,if_pos hji]
     try omega
    ·rw [if_neg hji,if_neg hji]
     first | exact h2 j om om | exact h3 j om
  | false=>
   simp only [cond_false]
   intro j hj
   try intro hj2
   simp only [fB,h1,hal]
   by_cases hji:j=i∧i<l.length
   ·rw [if_pos hji,if_pos hji]
    try omega
   ·rw [if_neg hji,if_neg hji]
    first | exact h2 j om om | exact h3 j om
theorem JJ.done {l:List au} {d:List bB} {b:List Bool} (h:JJ l d l.length b):b=jl l d:=by
 refine GQ false (by rw [h.len,Iz]) fun j hj=>?_;rw [h.hi j (by rw [← h.len]; exact hj) om,Pd];rfl
theorem JJ.start {l:List au} {d:List bB} (hv:Zl l d):JJ l d 0 (List.replicate l.length false):=by
 refine ⟨by simp,fun j hj h=>by omega,fun j hj=>?_⟩;rw [vv];show (sD l.length d).getD j false=_;rw [Zn _ _ (fun x hx=>by have:=hv.drw x hx; omega)];simp
def dsum (d:List bB) (i:Nat):Int:=d.foldl (fun s x=>bif x.bQ==(i:Int) then s+x.Load else s) 0
theorem MO {d:List bB} {j i:Nat} (h:j<d.length):dsum (d.take (j+1)) i=bif (d.getD j bX).bQ==(i:Int) then dsum (d.take j) i+(d.getD j bX).Load else dsum (d.take j) i:=pR _ _ bX h
theorem abj (n:Nat) (d:List bB) (hd:∀x∈d,0≤x.bQ∧x.bQ<n) (j:Nat):(vU n d).getD j 0=dsum d j:=by
 unfold vU dsum;have key:∀(d:List bB) (a:List Int) (s:Int),a.length=n→(∀x∈d,0≤x.bQ∧x.bQ<n)→a.getD j 0=s→(d.foldl (fun a x=>a.set x.bQ.toNat (a.getD x.bQ.toNat 0+x.Load)) a).getD j 0=d.foldl (fun s x=>bif x.bQ==(j:Int) then s+x.Load else s) s:=by
  intro d;induction d with
  | nil=>intro a s _ _ h; exact h
  | cons x d ih=>
   intro a s ha hd h;have hx:=hd x (by simp);rw [List.foldl_cons,List.foldl_cons];refine ih _ _ (by simpa using ha) (fun y hy=>hd y (by simp [hy])) ?_;rw [fB];by_cases hj:j=x.bQ.toNat
   ·have:(x.bQ==(j:Int))=true:=by simp; omega
    rw [if_pos ⟨hj,om⟩,this,← hj,h];rfl
   ·have:(x.bQ==(j:Int))=false:=by simp; omega
    rw [if_neg (fun h=>hj h.1),this];exact h
 exact key d _ 0 (by simp) hd (vv _ _ _)
theorem Lg {d:List bB} (hd:∀x∈d,0≤x.Load∧x.Load≤10000) (i j:Nat) (hj:j≤d.length):0≤dsum (d.take j) i∧dsum (d.take j) i≤10000*j:=by
 induction j with
 | zero=>rw [List.take_zero]; exact ⟨Int.le_refl _,Int.le_refl _⟩
 | succ j ih=>
  have:=ih om;have h2:=hd _ (gF bX hj);rw [MO hj];cases (d.getD j bX).bQ==(i:Int) with
  | true=>simp only [cond_true]; omega
  | false=>simp only [cond_false]; omega
structure EC (l:List au) (d:List bB) (k:Nat) (b:List Int):Prop where
 len:b.length=l.length
 pos:∀j,0≤b.getD j 0
 hi:∀j,j<l.length→l.length - k≤j→b.getD j 0=(Md (fV l) l.length k (vU l.length d)).getD j 0
 lo:∀j,j<l.length - k→(Md (fV l) l.length k (vU l.length d)).getD j 0=b.getD j 0+dsum d j
def IC (l:List au) (d:List bB) (i:Nat) (b:List Int):List Int:=
 bif decide (0≤(l.getD i aj).Parent) then (b.set i (b.getD i 0+dsum d i)).set (l.getD i aj).Parent.toNat (b.getD (l.getD i aj).Parent.toNat 0+(b.getD i 0+dsum d i)) else b.set i (b.getD i 0+dsum d i)
theorem EC.step {l:List au} {d:List bB} (hv:Zl l d) {k:Nat} {b:List Int} (h:EC l d k b) (hk:k<l.length):EC l d (k+1) (IC l d (l.length - 1 - k) b):=by
 obtain ⟨h1,h0,h2,h3⟩:=h;have hdp:∀i,0≤dsum d i:=fun i=>by
  have:=(Lg (d:=d) (fun x hx=>by have:=hv.drw x hx; omega) i d.length (Nat.le_refl _)).1;rwa [List.take_length] at this
 have hup:Md (fV l) l.length (k+1) (vU l.length d)=fV l (l.length - 1 - k) (Md (fV l) l.length k (vU l.length d)):=rfl;have hal:(Md (fV l) l.length k (vU l.length d)).length=l.length:=by rw [Ad (Dl l),Lc]
 generalize Md (fV l) l.length k (vU l.length d)=a at h2 h3 hup hal;have hs:=hv.bQ (l.length - 1 - k) om;have hai:=h3 (l.length - 1 - k) om;generalize hi:l.length - 1 - k=i at hup hs hai;have hb0:=h0 i;have hd0:=hdp i;refine ⟨?_,?_,?_,?_⟩
 ·unfold IC;cases decide (0≤(l.getD i aj).Parent)<;>simp [h1]
 ·intro j;have hb1:=h0 j;have hb2:=h0 (l.getD i aj).Parent.toNat;unfold IC;cases decide (0≤(l.getD i aj).Parent)<;>simp only [cond_true,cond_false,fB]<;>repeat' split
  all_goals omega
 all_goals
  rw [hup]
  unfold IC fV
  cases hc:decide (0≤(l.getD i aj).Parent) with
  | true=>
   simp only [cond_true]
   have hp:=of_decide_eq_true hc
   intro j hj
   try intro hj2
   simp only [fB,List.length_set,h1,hal]
   have hap:=h3 (l.getD i aj).Parent.toNat om
   by_cases hjp:j=(l.getD i aj).Parent.toNat∧(l.getD i aj).Parent.toNat<l.length
   ·rw [if_pos hjp,if_pos hjp]
    try rw [hjp.1]
    omega
   ·rw [if_neg hjp,if_neg hjp]
    by_cases hji:j=i∧i<l.length
    ·rw [if_pos hji,hji.1]
     omega
    ·rw [if_neg hji]
     first | exact h2 j om om | exact h3 j om
  | false=>
   simp only [cond_false]
   intro j hj
   try intro hj2
   simp only [fB,h1]
   by_cases hji:j=i∧i<l.length
   ·rw [if_pos hji,hji.1]
    omega
   ·rw [if_neg hji]
    first | exact h2 j om om | exact h3 j om
theorem EC.done {l:List au} {d:List bB} {b:List Int} (h:EC l d l.length b):b=yP l d:=by
 refine GQ 0 (by rw [h.len,Ki]) fun j hj=>?_;rw [h.hi j (by rw [← h.len]; exact hj) om,Pd];rfl
theorem EC.start {l:List au} {d:List bB} (hv:Zl l d):EC l d 0 (List.replicate l.length 0):=by
 refine ⟨by simp,fun j=>by rw [vv]; omega,fun j hj h=>by omega,fun j hj=>?_⟩;rw [vv];show (vU l.length d).getD j 0=_;rw [abj _ _ (fun x hx=>by have:=hv.drw x hx; omega)];simp
theorem EC.small {l:List au} {d:List bB} (hv:Zl l d) {k:Nat} {b:List Int} (h:EC l d k b) (hk:k≤l.length) (j:Nat):0≤b.getD j 0∧b.getD j 0≤100000000000:=by
 have h1:=Ld hv k hk j;refine ⟨h.pos j,?_⟩;have hd:=(Lg (d:=d) (fun x hx=>by have:=hv.drw x hx; omega) j d.length (Nat.le_refl _)).1;rw [List.take_length] at hd;by_cases h2:j<l.length - k
 ·have:=h.lo j h2; omega
 ·by_cases h3:j<l.length
  ·have:=h.hi j h3 om; omega
  ·rw [Qi 0 (by rw [h.len]; omega)]; omega
def lvN:List Int→Int→Nat
 | [],_=>0
 | x::t,v=>bif decide (v≤x) then 0 else lvN t v+1
theorem ad4 (v:Int) (l:List Int):lvN l v≤l.length:=by
 induction l with
 | nil=>exact Nat.le_refl _
 | cons x l ih=>
  rw [lvN];cases decide (v≤x)<;>simp<;>omega
theorem ad5 {v:Int} {l:List Int}:∀j,j<lvN l v→l.getD j 0<v:=by
 induction l with
 | nil=>intro j hj; simp [lvN] at hj
 | cons x l ih=>
  rw [lvN];cases h:decide (v≤x) with
  | true=>intro j hj; simp at hj
  | false=>
   have:=of_decide_eq_false h;intro j hj;cases j with
   | zero=>show x<v; omega
   | succ j=>exact ih j (by simpa using hj)
theorem ad6 {v:Int} {l:List Int} (h:lvN l v<l.length):v≤l.getD (lvN l v) 0:=by
 induction l with
 | nil=>simp at h
 | cons x l ih=>
  rw [lvN] at h ⊢;cases hd:decide (v≤x) with
  | true=>exact of_decide_eq_true hd
  | false=>
   rw [hd] at h;exact ih (by simpa using h)
theorem abk {v:Int} {l:List Int} {k:Nat} (h0:k≤l.length) (h1:∀j,j<k→l.getD j 0<v) (h2:k<l.length→v≤l.getD k 0):k=lvN l v:=by
 have h3:=ad4 v l;rcases Nat.lt_trichotomy k (lvN l v) with h | h | h
 ·have:=ad5 k h;have:=h2 om;omega
 ·exact h
 ·have:=ad6 (v:=v) (l:=l) om;have:=h1 _ h;omega
structure DS where
 a:List Zk
 lv:List Int
def yQ (n:Nat) (d:List bB):Nat→List Zk
 | 0=>List.replicate n ⟨0,-1,-1⟩
 | i+1=>bif decide (((yQ n d i).getD (d.getD i bX).bQ.toNat RH).La<(d.getD i bX).Low) then (yQ n d i).set (d.getD i bX).bQ.toNat ⟨(d.getD i bX).Low,i,-1⟩ else yQ n d i
def IZ (l:List au) (i:Nat) (s:DS):Nat:=lvN (l.getD i aj).bK (s.a.getD i RH).La
def Au (l:List au) (i:Nat) (s:DS):Int:=(l.getD i aj).bK.getD (IZ l i s) 0+(l.getD i aj).eU
def GV (l:List au) (u:List Bool) (i:Nat) (s:DS):DS:=
 bif !u.getD i false then s
 else ⟨bif decide (0≤(l.getD i aj).Parent)&&decide ((s.a.getD (l.getD i aj).Parent.toNat RH).La<Au l i s) then s.a.set (l.getD i aj).Parent.toNat ⟨Au l i s,-1,i⟩ else s.a,s.lv.set i (IZ l i s)⟩
def NZ (l:List au) (u:List Bool) (i:Nat) (s:DS):Bool:=u.getD i false&&!decide ((IZ l i s:Int)<(l.getD i aj).bK.length)
def abl (l:List au) (u:List Bool):Nat→DS→DS×Int
 | 0,s=>(s,-1)
 | k+1,s=>bif NZ l u k s then (s,k) else abl l u k (GV l u k s)
def ds0 (l:List au) (d:List bB):DS:=⟨yQ l.length d d.length,List.replicate l.length 0⟩
def Uk (l:List au) (d:List bB):DS×Int:=abl l (jl l d) l.length (ds0 l d)
theorem Tf (n:Nat) (d:List bB) (i:Nat):(yQ n d i).length=n:=by
 induction i with
 | zero=>simp [yQ]
 | succ i ih=>
  rw [yQ];cases decide (((yQ n d i).getD (d.getD i bX).bQ.toNat RH).La<(d.getD i bX).Low)<;>simp [ih]
structure DOk (l:List au) (s:DS):Prop where
 al:s.a.length=l.length
 ll:s.lv.length=l.length
theorem acR {l:List au} {u:List Bool} {i:Nat} {s:DS} (h:DOk l s):DOk l (GV l u i s):=by
 unfold GV;cases u.getD i false with
 | false=>exact h
 | true=>
  refine ⟨?_,by simp [h.ll]⟩;simp only [Bool.not_true,cond_false];cases decide (0≤(l.getD i aj).Parent)&&decide ((s.a.getD (l.getD i aj).Parent.toNat RH).La<Au l i s)<;>simp [h.al]
theorem ad7 (l:List au) (d:List bB):DOk l (ds0 l d):=⟨Tf _ _ _,by simp [ds0]⟩
def tq (l:List au) (d:List bB):bf×Int:=
 bif beginF l d != 0 then (MC,beginF l d)
 else bif decide (0≤(Uk l d).2)||!fA l ⟨jl l d,(Uk l d).1.lv⟩ d then (MC,9) else (⟨jl l d,(Uk l d).1.lv⟩,0)
def acS (l:List au) (s:DS):Prop:=∀j,j<l.length→0≤s.lv.getD j 0∧s.lv.getD j 0<(l.getD j aj).bK.length
def lvK (l:List au) (k v:Int):Nat:=lvN (l.getD k.toNat aj).bK v
def okK (l:List au) (k v:Int):Bool:=decide (lvK l k v<(l.getD k.toNat aj).bK.length)
def voK (l:List au) (k v:Int):Int:=(l.getD k.toNat aj).bK.getD (lvK l k v) 0
def rwN (l:List au) (d:List bB) (last:Int):List Int→Int→Bool
 | [],_=>false
 | k::t,v=>bif !t.isEmpty then (bif !okK l k v then false else rwN l d last t (voK l k v+(l.getD k.toNat aj).eU))
  else bif !okK l k v||decide (last<0) then !okK l k v&&decide (last<0)
  else ((d.getD last.toNat bX).bQ==k)&&decide ((d.getD last.toNat bX).High<voK l k v)
abbrev sAt (l:List au) (i:Nat):au:=l.getD i aj
abbrev Zo (a:List Bool) (i:Nat):Bool:=a.getD i false
abbrev nAt (a:List Int) (i:Nat):Int:=a.getD i 0
def tot (d:List bB):Int:=d.foldr (fun x s=>x.Load+s) 0
abbrev dAt (a:List Zk) (i:Nat):Zk:=a.getD i RH
abbrev xAt (d:List bB) (i:Nat):bB:=d.getD i bX
structure DI (n:Nat) (d:List bB) (i:Nat) (a:List Zk):Prop where
 len:a.length=n
 just:∀j,j<n→dAt a j=⟨0,-1,-1⟩∨∃q,q<i∧(xAt d q).bQ=j∧dAt a j=⟨(xAt d q).Low,q,-1⟩
 Low:∀q,q<i→(xAt d q).Low≤(dAt a (xAt d q).bQ.toNat).La
structure Dm (l:List au) (d:List bB) (u:List Bool) (k:Nat) (s:DS):Prop where
 al:s.a.length=l.length
 ll:s.lv.length=l.length
 just:∀j,j<l.length→dAt s.a j=⟨0,-1,-1⟩∨(∃q,q<d.length∧(xAt d q).bQ=j∧dAt s.a j=⟨(xAt d q).Low,q,-1⟩)∨
  ∃c:Nat,k≤c∧c<l.length∧Zo u c=true∧(sAt l c).Parent=j∧IZ l c s<(sAt l c).bK.length∧dAt s.a j=⟨Au l c s,-1,c⟩
 Low:∀q,q<d.length→(xAt d q).Low≤(dAt s.a (xAt d q).bQ.toNat).La
 up:∀c,k≤c→c<l.length→Zo u c=true→0≤(sAt l c).Parent→Au l c s≤(dAt s.a (sAt l c).Parent.toNat).La
 ok:∀c,k≤c→c<l.length→Zo u c=true→IZ l c s<(sAt l c).bK.length∧nAt s.lv c=IZ l c s
 zero:∀c,c<l.length→c<k∨Zo u c=false→nAt s.lv c=0
structure Mt (l:List au) (r:bf) (d:List bB):Prop where
 used:∀i,Zo (jl l d) i=true→Zo r.On i=true
 Parent:∀i,i<l.length→Zo r.On i=true→0≤(sAt l i).Parent→Zo r.On (sAt l i).Parent.toNat=true∧sF l r i+(sAt l i).eU≤sF l r (sAt l i).Parent.toNat
 fG:∀i,i<l.length→Zo r.On i=true→nAt (yP l d) i≤(sAt l i).fG
 drw:∀x∈d,x.Low≤sF l r x.bQ.toNat∧sF l r x.bQ.toNat≤x.High
theorem VU {l:List au} {d:List bB} (h:mE l d=true):cZ l=0:=by
 unfold mE at h;simp only [Bool.and_eq_true] at h;simpa using h.1.1
structure Best (l:List au) (d:List bB) (r:bf):Prop where
 ok:fA l r d=true
 On:r.On=jl l d
 zero:∀i,Zo (jl l d) i=false→nAt r.Level i=0
 least:∀q,fA l q d=true→∀i,Zo (jl l d) i=true→Zo q.On i=true∧nAt r.Level i≤nAt q.Level i
def jnL (l:List au) (u:List Bool):List Int→Prop
 | []=>True
 | k::t=>(0≤k∧k<l.length∧Zo u k.toNat=true∧(∀k',t.head? = some k'→(sAt l k.toNat).Parent=k'))∧jnL l u t
structure Good (l:List au) (d:List bB) (last:Int) (c:List Int) (fst:Int):Prop where
 ne:c≠[]
 jn:jnL l (jl l d) c
 lo : -1≤fst
 hi:fst<d.length
 yes:0≤fst→(xAt d fst.toNat).bQ=nAt c 0∧rwN l d last c (xAt d fst.toNat).Low=true
 no:fst<0→rwN l d last c 0=true
def Av (a:List Zk):List Int:=a.map Zk.La
theorem GX (a:List Zk) (j:Nat):(Av a).getD j 0=(a.getD j RH).La:=by
 unfold Av;rw [List.getD_eq_getElem?_getD,List.getElem?_map,List.getD_eq_getElem?_getD];cases a[j]? <;> rfl
theorem VW (a:List Zk) (j:Nat) (x:Zk):Av (a.set j x)=(Av a).set j x.La:=by
 unfold Av;rw [List.map_set]
theorem VX (a:List Zk):(Av a).length=a.length:=by simp [Av]
theorem set_self (a:List Int) (j:Nat):a.set j (a.getD j 0)=a:=by
 refine GQ 0 (by simp) fun k hk=>?_;rw [fB];split
 ·rename_i h; rw [h.1]
 ·rfl
theorem VY (a:List Int) (j:Nat) (v:Int) (h:v=a.getD j 0):a.set j v=a:=by
 rw [h,set_self]
theorem XB (n:Nat) (d:List bB) (i:Nat):Av (yQ n d (i+1))=(Av (yQ n d i)).set (d.getD i bX).bQ.toNat (if (d.getD i bX).Low > (Av (yQ n d i)).getD (d.getD i bX).bQ.toNat 0 then (d.getD i bX).Low else (Av (yQ n d i)).getD (d.getD i bX).bQ.toNat 0):=by
 rw [yQ,GX];by_cases h:((yQ n d i).getD (d.getD i bX).bQ.toNat RH).La<(d.getD i bX).Low
 ·rw [decide_eq_true h,cond_true,VW,if_pos h]
 ·rw [decide_eq_false h,cond_false,if_neg h,VY _ _ _ (GX _ _).symm]
theorem abn {l:List au} {u:List Bool} {s:DS} (hu:u.length=l.length) (h:DOk l s) (hl:acS l s):Rok l ⟨u,s.lv⟩:=
 ⟨hu,h.ll,fun i hi=>by
  have:=hl i hi;show 0≤s.lv.getD i 0∧(s.lv.getD i 0).toNat<_∧s.lv.getD i 0<_;omega⟩
theorem acT {l:List au} {u:List Bool} {k:Nat} {s:DS} (hf:NZ l u k s=false) (h:acS l s):acS l (GV l u k s):=by
 intro j hj;unfold GV;cases hu:u.getD k false with
 | false=>exact h j hj
 | true=>
  unfold NZ at hf;rw [hu,Bool.true_and,Bool.not_eq_false'] at hf;have:=of_decide_eq_true hf;show 0≤(s.lv.set k (IZ l k s)).getD j 0∧(s.lv.set k (IZ l k s)).getD j 0<_;rw [fB];split
  ·rename_i hjk; rw [hjk.1]; omega
  ·exact h j hj
structure aft (l:List au) (d:List bB) (r:bf) (ok:Bool):Prop where
 is:ok=((tq l d).2==0)
 yes:ok=true→fA l r d=true
 no:ok=false→r=(tq l d).1
end Go.Proofs.YtfblhejmclcdmaaGreatDoor.Sp

/- An abstract machine over the model's code, that it is sound; models of the functions and their proofs. -/
import Derived.Test.YtfblhejmclcdmaaGreatDoorA3
import Derived.Test.YtfblhejmclcdmaaGreatDoorA4
set_option linter.unusedVariables false
set_option linter.unusedSimpArgs false

namespace Go.Ab
def QY {α:Type} (l:List α) (P:α→Bool):Int:=if l.any P then ((l.findIdx P:Nat):Int) else -1
theorem nD {α:Type} (l:List α) (P:α→Bool):decide (0≤QY l P)=l.any P:=by
 unfold QY;cases l.any P<;>simp<;>omega
theorem Xi {α:Type} {l:List α} {P:α→Bool} {d:α} {i:Nat} (hi:i<l.length) (h:P (l.getD i d)=true):l.any P=true:=by
 rw [List.any_eq_true];refine ⟨l[i],List.getElem_mem hi,?_⟩;rw [List.getD_eq_getElem?_getD,List.getElem?_eq_getElem hi] at h;exact h
theorem any_take_succ {α:Type} (l:List α) (P:α→Bool) (d:α) {i:Nat} (hi:i<l.length):(l.take (i+1)).any P=((l.take i).any P||P (l.getD i d)):=by
 rw [List.take_add_one,List.any_append,List.getElem?_eq_getElem hi,List.getD_eq_getElem?_getD,List.getElem?_eq_getElem hi];simp
theorem Uu {α:Type} {l:List α} {P:α→Bool} {d:α} {g:Int} (h0:0≤g) (h1:g<l.length) (hb:(l.take g.toNat).any P=false) (hp:P (l.getD g.toNat d)=true):QY l P=g:=by
 have hi:g.toNat<l.length:=by omega
 unfold QY;rw [Xi hi hp,if_pos rfl];have:l.findIdx P=g.toNat:=by
  rw [List.findIdx_eq hi];constructor
  ·rw [List.getD_eq_getElem?_getD,List.getElem?_eq_getElem hi] at hp;exact hp
  ·intro j hj;have:=List.any_eq_false.1 hb (l[j]'(by omega)) (by
    rw [List.mem_take_iff_getElem]
    exact ⟨j,by omega,rfl⟩)
   simpa using this
 omega
theorem GX {α:Type} {l:List α} {d:α} {p:α→M Bool} {P:α→Bool} (hp:∀x∈l,p x (P x)) (hl:(l.length:Int)≤9223372036854775807):W (bT (fun (self:Int→M Int) g=>bif (decide (g<(l.length:Int))) then
  need (0≤g∧g<(l.length:Int))<|
  bnd (p (l.getD g.toNat d)) fun v3=>
  bif v3 then
   ret g
  else
   need (InI64 (g+(1:Int)))<|
   self (g+(1:Int))
 else
  ret (-1:Int)) (0:Int)) (fun r=>r=QY l P):=by
 refine aW (fun (g:Int)=>0≤g∧g≤l.length∧(l.take g.toNat).any P=false) (fun (g:Int)=>(l.length - g).toNat) ?_ ⟨by omega,by omega,by simp⟩;intro self g ⟨h0,h1,hb⟩ ih;refine aF (fun c=>?_) (fun c=>?_)
 ·have c:=of_decide_eq_true c;refine bU ⟨h0,c⟩ ?_;have hi:g.toNat<l.length:=by omega
  have hm:l.getD g.toNat d∈l:=by
   rw [List.getD_eq_getElem?_getD,List.getElem?_eq_getElem hi];exact List.getElem_mem hi
  refine aC (CJ (hp _ hm)) fun v hv=>?_;subst hv;refine aF (fun c2=>?_) (fun c2=>?_)
  ·exact ak (Uu h0 c hb c2).symm
  ·refine bU (by unfold InI64; omega) ?_;refine ih _ ⟨by omega,by omega,?_⟩ (by omega);rw [show (g+1).toNat=g.toNat+1 by omega,any_take_succ l P d hi,hb,c2];rfl
 ·have c:=of_decide_eq_false c;refine ak ?_;unfold QY;rw [show g.toNat=l.length by omega,List.take_length] at hb;rw [hb];rfl
theorem ZT {α:Type} {l:List α} {d:α} {P:α→Bool} (hl:(l.length:Int)≤9223372036854775807):W (bT (fun (self:Int→M Int) g=>bif (decide (g<(l.length:Int))) then
  need (0≤g∧g<(l.length:Int))<|
  bif (P (l.getD g.toNat d)) then
   ret g
  else
   need (InI64 (g+(1:Int)))<|
   self (g+(1:Int))
 else
  ret (-1:Int)) (0:Int)) (fun r=>r=QY l P):=by
 refine aW (fun (g:Int)=>0≤g∧g≤l.length∧(l.take g.toNat).any P=false) (fun (g:Int)=>(l.length - g).toNat) ?_ ⟨by omega,by omega,by simp⟩;intro self g ⟨h0,h1,hb⟩ ih;refine aF (fun c=>?_) (fun c=>?_)
 ·have c:=of_decide_eq_true c;refine bU ⟨h0,c⟩ ?_;have hi:g.toNat<l.length:=by omega
  refine aF (fun c2=>?_) (fun c2=>?_)
  ·exact ak (Uu h0 c hb c2).symm
  ·refine bU (by unfold InI64; omega) ?_;refine ih _ ⟨by omega,by omega,?_⟩ (by omega);rw [show (g+1).toNat=g.toNat+1 by omega,any_take_succ l P d hi,hb,c2];rfl
 ·have c:=of_decide_eq_false c;refine ak ?_;unfold QY;rw [show g.toNat=l.length by omega,List.take_length] at hb;rw [hb];rfl
theorem Fy {m:M Int} {v:Int} {b:Bool} (h:W m (fun r=>r=v)) (hb:decide (0≤v)=b):bnd m (fun v1=>ret (decide ((0:Int)≤v1))) b:=by
 refine jR (aC h fun v1 h1=>ak ?_);subst h1;exact hb
theorem d9 {A:Type} [Inhabited A] {c:Prop} {d:Decidable c} {m:M A} {v:A} (h:c→m v):W (grd c m) (fun r=>r=v):=⟨v,h,rfl⟩
theorem Xj {R:Type} {F:(Int→M R)→Int→M R} {Q:R→Prop} (n:Nat) (inv:Nat→Prop) (h:∀(self:Int→M R) (i:Nat),i≤n→inv i→(i<n→inv (i+1)→W (self ((i:Int)+1)) Q)→W (F self (i:Int)) Q) (h0:inv 0):W (bT F (0:Int)) Q:=by
 refine aW (fun (g:Int)=>∃i:Nat,g=i∧i≤n∧inv i) (fun (g:Int)=>(n - g).toNat) ?_ ⟨0,rfl,Nat.zero_le _,h0⟩;rintro self g ⟨i,rfl,hi,hv⟩ ih;refine h self i hi hv fun h1 h2=>?_;exact ih _ ⟨i+1,by simp,h1,h2⟩ (by omega)
end Go.Ab


namespace Go.Ab
theorem Zr {σ R:Type} {len:Nat} {B:Nat→(σ→M R)→σ→M R} {fin:σ→M R} {Q:R→Prop} (inv:Nat→σ→Prop) (h:∀(k:Nat) (self:σ→M R) (s:σ),k<len→inv k s→(∀s',inv (k+1) s'→W (self s') Q)→W (B k self s) Q) (hf:∀s,inv len s→W (fin s) Q) {s:σ} (h0:inv 0 s):W (Pv len B fin len s) Q:=by
 have key:∀j s,j≤len→inv (len - j) s→W (Pv len B fin j s) Q:=by
  intro j;induction j with
  | zero=>intro s _ hi; exact hf s hi
  | succ j ih=>
   intro s hj hi;refine h (len - (j+1)) _ s (by omega) hi fun s' hs=>ih s' (by omega) ?_;rwa [show len - (j+1)+1=len - j by omega] at hs
 exact key len s (Nat.le_refl _) (by rw [Nat.sub_self]; exact h0)
theorem nr {p q : Prop} (h : p) (e : p = q := by (try simp only [Bool.and_eq_true, Bool.or_eq_true, Bool.and_eq_false_iff, Bool.or_eq_false_iff, decide_eq_true_eq, decide_eq_false_iff_not, Bool.not_eq_true', Bool.not_eq_false', beq_iff_eq, bne_iff_ne, ne_eq, beq_eq_false_iff_ne, bne_eq_false_iff_eq, Int.not_lt, Int.not_le, Bool.not_eq_true, Bool.not_eq_false]); try rfl) : q := e ▸ h
theorem ob {p : Prop} (h : p := by
  intros; (try dsimp only); first
  | omega
  | assumption
  | trivial
  | (simp only [InI64, big, ou, List.length_take, List.length_drop, List.length_append, List.length_cons, List.length_nil, List.length_set, List.length_replicate, List.length_map, List.length_range]; omega)
  | (simp only [InI64, big, List.length_take, List.length_drop, List.length_append, List.length_cons, List.length_nil, List.length_set, List.length_replicate] at *; omega)
  | (rw [Int.tmod_eq_emod_of_nonneg (by omega)]; (try simp only [List.length_cons, List.length_nil]); omega)
  | (repeat' apply And.intro) <;> first
    | omega
    | assumption
    | trivial
    | (simp only [InI64, big, ou, List.length_take, List.length_drop, List.length_append, List.length_cons, List.length_nil, List.length_set, List.length_replicate, List.length_map, List.length_range]; omega)
    | (simp only [InI64, big, List.length_take, List.length_drop, List.length_append, List.length_cons, List.length_nil, List.length_set, List.length_replicate] at *; omega)
    | (rw [Int.tmod_eq_emod_of_nonneg (by omega)]; (try simp only [List.length_cons, List.length_nil]); omega)
    | ((simp only [List.forall_mem_append, List.forall_mem_singleton, List.forall_mem_cons, List.not_mem_nil, false_implies, implies_true, and_true]); done)
    | ((simp only [List.forall_mem_append, List.forall_mem_singleton, List.forall_mem_cons, List.not_mem_nil, false_implies, implies_true, and_true]); (repeat' apply And.intro) <;> first | omega | assumption | trivial | (simp only [InI64, big, List.length_take, List.length_drop, List.length_append, List.length_cons, List.length_nil, List.length_set, List.length_replicate] at *; omega))
    | (simp_all; done)
    | (simp_all; omega)) : p := h
theorem wn {R : Type} {p : Prop} {d : Decidable p} {m : M R} {Q : R → Prop} (h : W m Q) (hp : p := by exact ob) : W (need p m) Q := bU hp h
end Go.Ab


namespace Go.Proofs.YtfblhejmclcdmaaGreatDoor
open Go.Ab
set_option maxRecDepth 100000
theorem Ey (x n:Int) (h:0<n) : -n<x.tmod n∧x.tmod n<n:=by
 have h1:=Int.natAbs_tmod x n;have h2:=Nat.mod_lt x.natAbs (show 0<n.natAbs by omega);omega
theorem QZ:∀(k i:Nat) (g:Nat→AV) (s:ByteArray),(zO k i g s).size=s.size+k:=by
 intro k;induction k with
 | zero=>intro i g s; rfl
 | succ k ih=>intro i g s; unfold zO; rw [ih,ByteArray.size_push]; omega
theorem Tf (l:List Int):(strOf l).size=l.length:=by
 unfold strOf;rw [QZ];simp
theorem Px {α:Type} {P:α→Prop} {l:List α} {i:Nat} {y:α} (h:∀x∈l,P x) (hy:P y):∀x∈l.set i y,P x:=fun x hx=>by
 rcases List.mem_or_eq_of_mem_set hx with e | e
 ·exact h x e
 ·subst e; exact hy
structure Py (b:bF):Prop where
 ncl:b.bO.length≤5
 cl:∀c∈b.bO,c.Parents.length≤2∧c.Choices.length≤3
 nsu:b.bC.length≤3
 su:∀c∈b.bC,c.aQ.length≤3
 ngr:b.bD.Groups.length≤5
 gr:∀c∈b.bD.Groups,c.bI.length≤10∧c.Functions.length≤2
 nre:b.Resets.length≤4
 re:∀c∈b.Resets,c.After.length≤100
 ndo:b.bS.length≤4
theorem getD_in {α:Type} {l:List α} {i:Nat} (d:α) (h:i<l.length):l.getD i d∈l:=by
 rw [List.getD_eq_getElem?_getD,List.getElem?_eq_getElem h];exact List.getElem_mem h
theorem Q0 {l_:(List Int)}:W (Er l_) (fun r=>r.2=0∧r.1.length≤600):=by
 unfold Er;refine bU (by (split<;>omega)) ?_;refine ak ?_;(simp only [List.length_take]; refine ⟨trivial,?_⟩; split<;>omega)
theorem Q5 {x_:Int} {n_:Int} (h1:n_≤1000000):W (Es x_ n_) (fun r=>0≤r∧(0<n_→r<n_)∧(n_<1→r=0)):=by
 unfold Es;refine aF (fun c1=>?_) (fun c1=>?_)
 ·have c1:=nr c1;refine ak ?_;exact ob
 ·have c1:=nr c1;refine wn ?_;refine bU (by (have:=Ey x_ n_ (by omega); unfold InI64; omega)) ?_;refine wn ?_;refine ak ?_;(have h:=Ey x_ n_ (by omega); have h2:=Ey (x_.tmod n_+n_) n_ (by omega); have h3:=Int.tmod_nonneg (a:=x_.tmod n_+n_) n_ (by omega); omega)
theorem aT {n_:Int} {o0_:bq} (h1:n_≤1000000) (h2:0≤o0_.At) (h3:o0_.L.length≤600):W (bM n_ o0_) (fun r=>0≤r.1∧(0<n_→r.1<n_)∧(n_<1→r.1=0)∧0≤r.2.At∧r.2.L.length≤600):=by
 unfold bM;refine aF (fun c1=>?_) (fun c1=>?_)
 ·have c1:=nr c1;refine ak ?_;exact ob
 ·have c1:=nr c1;refine wn ?_;refine wn ?_;refine wn ?_;refine aC (Q5 ob) fun v1 hv1=>?_;obtain ⟨hv1_1,hv1_2,hv1_3⟩:=hv1;refine ak ?_;exact ob
theorem jB {lo_:Int} {hi_:Int} {o0_:bq} (h1 : -1000000≤lo_) (h2:hi_≤100000) (h3:lo_≤hi_+1) (h4:hi_ - lo_≤100000) (h5:0≤o0_.At) (h6:o0_.L.length≤600):W (gL lo_ hi_ o0_) (fun r=>lo_≤r.1∧(lo_≤hi_→r.1≤hi_)∧(hi_<lo_→r.1=lo_)∧0≤r.2.At∧r.2.L.length≤600):=by
 unfold gL;refine wn ?_;refine wn ?_;refine aC (aT ob ob ob) fun v1 hv1=>?_;obtain ⟨hv1_1,hv1_2,hv1_3,hv1_4,hv1_5⟩:=hv1;refine wn ?_;refine ak ?_;exact ob
theorem dz {l_:(List Int)} {o0_:bq} (h1:0<l_.length) (h2:l_.length≤1000) (h3:0≤o0_.At) (h4:o0_.L.length≤600):W (dQ l_ o0_) (fun r=>(∃i:Nat,i<l_.length∧r.1=l_.getD i 0)∧0≤r.2.At∧r.2.L.length≤600):=by
 unfold dQ;refine aC (aT ob ob ob) fun v1 hv1=>?_;obtain ⟨hv1_1,hv1_2,hv1_3,hv1_4,hv1_5⟩:=hv1;refine wn ?_;refine ak ?_;(exact ⟨⟨v1.1.toNat,by omega,rfl⟩,by exact ob⟩)
theorem IW {l_:(List ByteArray)} {o0_:bq} (h1:0<l_.length) (h2:l_.length≤1000) (h3:0≤o0_.At) (h4:o0_.L.length≤600):W (pE l_ o0_) (fun r=>(∃i:Nat,i<l_.length∧r.1=l_.getD i ByteArray.empty)∧0≤r.2.At∧r.2.L.length≤600):=by
 unfold pE;refine aC (aT ob ob ob) fun v1 hv1=>?_;obtain ⟨hv1_1,hv1_2,hv1_3,hv1_4,hv1_5⟩:=hv1;refine wn ?_;refine ak ?_;(exact ⟨⟨v1.1.toNat,by omega,rfl⟩,by exact ob⟩)
theorem iw:W (j4) (fun r=>r=[({ data:=#[117,97,114,116] }:ByteArray),({ data:=#[115,112,105] }:ByteArray),({ data:=#[105,50,99] }:ByteArray),({ data:=#[112,119,109] }:ByteArray)]):=by
 unfold j4;refine ak ?_;rfl
theorem IX {n_:Int} {k_:Int} {o0_:bq} (h1:0≤n_) (h2:n_≤1000) (h3:1≤k_) (h4:k_≤100) (h5:0≤o0_.At) (h6:o0_.L.length≤600):W (iE n_ k_ o0_) (fun r=>r.1.length≤n_.toNat∧(∀p∈r.1,0≤p∧p<n_)∧0≤r.2.At∧r.2.L.length≤600):=by
 unfold iE;refine aW (fun (g1:(Int×(List Int)×Int×(List Int)))=>0≤g1.1∧g1.1≤n_∧0≤g1.2.2.1∧g1.2.1.length≤600∧(g1.2.2.2.length:Int)≤g1.1∧(∀p∈g1.2.2.2,0≤p∧p<n_)) (fun (g1:(Int×(List Int)×Int×(List Int)))=>(n_ - g1.1).toNat) ?_ ?_
 ·intro self1 g1 hig1 ihg1;obtain ⟨hg1_1,hg1_2,hg1_3,hg1_4,hg1_5,hg1_6⟩:=hig1;unfold pq;refine aF (fun c1=>?_) (fun c1=>?_)
  ·have c1:=nr c1;refine aC (aT ob ob ob) fun v3 hv3=>?_;obtain ⟨hv3_1,hv3_2,hv3_3,hv3_4,hv3_5⟩:=hv3;refine wn ?_;refine aF (fun c2=>?_) (fun c2=>?_)
   ·have c2:=nr c2;refine wn ?_;refine wn ?_;refine ihg1 _ ?_ ?_
    ·exact ob
    ·exact ob
   ·have c2:=nr c2;refine wn ?_;refine ihg1 _ ?_ ?_
    ·exact ob
    ·exact ob
  ·have c1:=nr c1;refine ak ?_;exact ob
 ·exact ob
theorem F4 {most_:Int} {o0_:bq} (h1:0≤most_) (h2:most_≤100) (h3:0≤o0_.At) (h4:o0_.L.length≤600):W (mq most_ o0_) (fun r=>r.1.length≤most_.toNat∧(∀x∈r.1,x.After.length≤100)∧0≤r.2.At∧r.2.L.length≤600):=by
 unfold mq;refine wn ?_;refine aC (aT ob ob ob) fun v1 hv1=>?_;obtain ⟨hv1_1,hv1_2,hv1_3,hv1_4,hv1_5⟩:=hv1;refine aW (fun (g1:(Int×(List Int)×Int×(List bV)))=>0≤g1.1∧0≤g1.2.2.1∧g1.2.1.length≤600∧(g1.2.2.2.length:Int)+g1.1≤most_∧(∀x∈g1.2.2.2,x.After.length≤100)) (fun (g1:(Int×(List Int)×Int×(List bV)))=>g1.1.toNat) ?_ ?_
 ·intro self1 g1 hig1 ihg1;obtain ⟨hg1_1,hg1_2,hg1_3,hg1_4,hg1_5⟩:=hig1;unfold uI;refine aF (fun c1=>?_) (fun c1=>?_)
  ·have c1:=nr c1;refine aC (IX ob ob ob ob ob ob) fun v4 hv4=>?_;obtain ⟨hv4_1,hv4_2,hv4_3,hv4_4⟩:=hv4;refine wn ?_;refine wn ?_;refine ihg1 _ ?_ ?_
   ·exact ob
   ·exact ob
  ·have c1:=nr c1;refine ak ?_;exact ob
 ·exact ob
theorem EH {most_:Int} {o0_:bq} (h1:0≤most_) (h2:most_≤50) (h3:0≤o0_.At) (h4:o0_.L.length≤600):W (kX most_ o0_) (fun r=>r.1.length≤most_.toNat∧0≤r.2.At∧r.2.L.length≤600):=by
 unfold kX;refine wn ?_;refine aC (aT ob ob ob) fun v1 hv1=>?_;obtain ⟨hv1_1,hv1_2,hv1_3,hv1_4,hv1_5⟩:=hv1;refine aW (fun (g1:(Int×(List Int)×Int×(List bH)))=>0≤g1.1∧0≤g1.2.2.1∧g1.2.1.length≤600∧(g1.2.2.2.length:Int)+g1.1≤most_) (fun (g1:(Int×(List Int)×Int×(List bH)))=>g1.1.toNat) ?_ ?_
 ·intro self1 g1 hig1 ihg1;obtain ⟨hg1_1,hg1_2,hg1_3,hg1_4⟩:=hig1;unfold sJ;refine aF (fun c1=>?_) (fun c1=>?_)
  ·have c1:=nr c1;refine wn ?_;refine aC (jB ob ob ob ob ob ob) fun v6 hv6=>?_;obtain ⟨hv6_1,hv6_2,hv6_3,hv6_4,hv6_5⟩:=hv6;refine aC (aT ob ob ob) fun v7 hv7=>?_;obtain ⟨hv7_1,hv7_2,hv7_3,hv7_4,hv7_5⟩:=hv7;refine wn ?_;refine wn ?_;refine ihg1 _ ?_ ?_
   ·exact ob
   ·exact ob
  ·have c1:=nr c1;refine ak ?_;exact ob
 ·exact ob
theorem F5 {o0_:bq} (h1:0≤o0_.At) (h2:o0_.L.length≤600):W (mh o0_) (fun r=>r.1.length≤5∧(∀c∈r.1,c.Parents.length≤2∧c.Choices.length≤3)∧0≤r.2.At∧r.2.L.length≤600):=by
 unfold mh;refine aC (aT ob ob ob) fun v1 hv1=>?_;obtain ⟨hv1_1,hv1_2,hv1_3,hv1_4,hv1_5⟩:=hv1;refine aW (fun (g1:(Int×(List Int)×Int×(List av)))=>0≤g1.1∧0≤g1.2.2.1∧g1.2.1.length≤600∧(g1.2.2.2.length:Int)+g1.1≤5∧(∀c∈g1.2.2.2,c.Parents.length≤2∧c.Choices.length≤3)) (fun (g1:(Int×(List Int)×Int×(List av)))=>g1.1.toNat) ?_ ?_
 ·intro self1 g1 hig1 ihg1;obtain ⟨hg1_1,hg1_2,hg1_3,hg1_4,hg1_5⟩:=hig1;unfold uF;refine aF (fun c1=>?_) (fun c1=>?_)
  ·have c1:=nr c1;refine aC (dz ob ob ob ob) fun v28 hv28=>?_;obtain ⟨hv28_1,hv28_2,hv28_3⟩:=hv28;refine aF (fun c2=>?_) (fun c2=>?_)
   ·have c2:=nr c2;refine aC (aT ob ob ob) fun v41 hv41=>?_;obtain ⟨hv41_1,hv41_2,hv41_3,hv41_4,hv41_5⟩:=hv41;refine aF (fun c3=>?_) (fun c3=>?_)
    ·have c3:=nr c3;refine aC (aT ob ob ob) fun v42 hv42=>?_;obtain ⟨hv42_1,hv42_2,hv42_3,hv42_4,hv42_5⟩:=hv42;refine aC (aT ob ob ob) fun v49 hv49=>?_;obtain ⟨hv49_1,hv49_2,hv49_3,hv49_4,hv49_5⟩:=hv49;refine aF (fun c4=>?_) (fun c4=>?_)
     ·have c4:=nr c4;refine aC (dz ob ob ob ob) fun v50 hv50=>?_;obtain ⟨hv50_1,hv50_2,hv50_3⟩:=hv50;unfold dB;refine aC (aT ob ob ob) fun v47 hv47=>?_;obtain ⟨hv47_1,hv47_2,hv47_3,hv47_4,hv47_5⟩:=hv47;refine aF (fun c5=>?_) (fun c5=>?_)
      ·have c5:=nr c5;refine aC (dz ob ob ob ob) fun v48 hv48=>?_;obtain ⟨hv48_1,hv48_2,hv48_3⟩:=hv48;unfold bN;refine wn ?_;refine wn ?_;refine ihg1 _ ?_ ?_
       ·exact ob
       ·exact ob
      ·have c5:=nr c5;unfold bN;refine wn ?_;refine wn ?_;refine ihg1 _ ?_ ?_
       ·exact ob
       ·exact ob
     ·have c4:=nr c4;refine aF (fun c6=>?_) (fun c6=>?_)
      ·have c6:=nr c6;refine aC (dz ob ob ob ob) fun v51 hv51=>?_;obtain ⟨hv51_1,hv51_2,hv51_3⟩:=hv51;unfold dB;refine aC (aT ob ob ob) fun v47 hv47=>?_;obtain ⟨hv47_1,hv47_2,hv47_3,hv47_4,hv47_5⟩:=hv47;refine aF (fun c7=>?_) (fun c7=>?_)
       ·have c7:=nr c7;refine aC (dz ob ob ob ob) fun v48 hv48=>?_;obtain ⟨hv48_1,hv48_2,hv48_3⟩:=hv48;unfold bN;refine wn ?_;refine wn ?_;refine ihg1 _ ?_ ?_
        ·exact ob
        ·exact ob
       ·have c7:=nr c7;unfold bN;refine wn ?_;refine wn ?_;refine ihg1 _ ?_ ?_
        ·exact ob
        ·exact ob
      ·have c6:=nr c6;refine aF (fun c8=>?_) (fun c8=>?_)
       ·have c8:=nr c8;unfold dB;refine aC (aT ob ob ob) fun v47 hv47=>?_;obtain ⟨hv47_1,hv47_2,hv47_3,hv47_4,hv47_5⟩:=hv47;refine aF (fun c9=>?_) (fun c9=>?_)
        ·have c9:=nr c9;refine aC (dz ob ob ob ob) fun v48 hv48=>?_;obtain ⟨hv48_1,hv48_2,hv48_3⟩:=hv48;unfold bN;refine wn ?_;refine wn ?_;refine ihg1 _ ?_ ?_
         ·exact ob
         ·exact ob
        ·have c9:=nr c9;unfold bN;refine wn ?_;refine wn ?_;refine ihg1 _ ?_ ?_
         ·exact ob
         ·exact ob
       ·have c8:=nr c8;refine aF (fun c10=>?_) (fun c10=>?_)
        ·have c10:=nr c10;refine wn ?_;refine aC (aT ob ob ob) fun v52 hv52=>?_;obtain ⟨hv52_1,hv52_2,hv52_3,hv52_4,hv52_5⟩:=hv52;refine wn ?_;unfold dB;refine aC (aT ob ob ob) fun v47 hv47=>?_;obtain ⟨hv47_1,hv47_2,hv47_3,hv47_4,hv47_5⟩:=hv47;refine aF (fun c11=>?_) (fun c11=>?_)
         ·have c11:=nr c11;refine aC (dz ob ob ob ob) fun v48 hv48=>?_;obtain ⟨hv48_1,hv48_2,hv48_3⟩:=hv48;unfold bN;refine wn ?_;refine wn ?_;refine ihg1 _ ?_ ?_
          ·exact ob
          ·exact ob
         ·have c11:=nr c11;unfold bN;refine wn ?_;refine wn ?_;refine ihg1 _ ?_ ?_
          ·exact ob
          ·exact ob
        ·have c10:=nr c10;unfold dB;refine aC (aT ob ob ob) fun v47 hv47=>?_;obtain ⟨hv47_1,hv47_2,hv47_3,hv47_4,hv47_5⟩:=hv47;refine aF (fun c12=>?_) (fun c12=>?_)
         ·have c12:=nr c12;refine aC (dz ob ob ob ob) fun v48 hv48=>?_;obtain ⟨hv48_1,hv48_2,hv48_3⟩:=hv48;unfold bN;refine wn ?_;refine wn ?_;refine ihg1 _ ?_ ?_
          ·exact ob
          ·exact ob
         ·have c12:=nr c12;unfold bN;refine wn ?_;refine wn ?_;refine ihg1 _ ?_ ?_
          ·exact ob
          ·exact ob
    ·have c3:=nr c3;unfold bN;refine wn ?_;refine wn ?_;refine ihg1 _ ?_ ?_
     ·exact ob
     ·exact ob
   ·have c2:=nr c2;refine wn ?_;unfold bN;refine wn ?_;refine wn ?_;refine ihg1 _ ?_ ?_
    ·exact ob
    ·exact ob
  ·have c1:=nr c1;refine ak ?_;exact ob
 ·exact ob
theorem Dz {o0_:bq} (h1:0≤o0_.At) (h2:o0_.L.length≤600):W (kC o0_) (fun r=>r.1.length≤3∧(∀c∈r.1,c.aQ.length≤3)∧0≤r.2.At∧r.2.L.length≤600):=by
 unfold kC;refine aC (aT ob ob ob) fun v1 hv1=>?_;obtain ⟨hv1_1,hv1_2,hv1_3,hv1_4,hv1_5⟩:=hv1;refine aW (fun (g1:(Int×(List Int)×Int×(List aj)))=>0≤g1.1∧0≤g1.2.2.1∧g1.2.1.length≤600∧(g1.2.2.2.length:Int)+g1.1≤3∧(∀c∈g1.2.2.2,c.aQ.length≤3)) (fun (g1:(Int×(List Int)×Int×(List aj)))=>g1.1.toNat) ?_ ?_
 ·intro self1 g1 hig1 ihg1;obtain ⟨hg1_1,hg1_2,hg1_3,hg1_4,hg1_5⟩:=hig1;unfold qA;refine aF (fun c1=>?_) (fun c1=>?_)
  ·have c1:=nr c1;refine wn ?_;refine aC (jB ob ob ob ob ob ob) fun v12 hv12=>?_;obtain ⟨hv12_1,hv12_2,hv12_3,hv12_4,hv12_5⟩:=hv12;refine aC (dz ob ob ob ob) fun v13 hv13=>?_;obtain ⟨hv13_1,hv13_2,hv13_3⟩:=hv13;refine aC (dz ob ob ob ob) fun v14 hv14=>?_;obtain ⟨hv14_1,hv14_2,hv14_3⟩:=hv14;refine aC (aT ob ob ob) fun v15 hv15=>?_;obtain ⟨hv15_1,hv15_2,hv15_3,hv15_4,hv15_5⟩:=hv15;refine aF (fun c2=>?_) (fun c2=>?_)
   ·have c2:=nr c2;unfold gP;refine aC (aT ob ob ob) fun v16 hv16=>?_;obtain ⟨hv16_1,hv16_2,hv16_3,hv16_4,hv16_5⟩:=hv16;refine wn ?_;refine aF (fun c3=>?_) (fun c3=>?_)
    ·have c3:=nr c3;refine wn ?_;refine wn ?_;refine ihg1 _ ?_ ?_
     ·exact ob
     ·exact ob
    ·have c3:=nr c3;refine aF (fun c4=>?_) (fun c4=>?_)
     ·have c4:=nr c4;refine wn ?_;refine wn ?_;refine ihg1 _ ?_ ?_
      ·exact ob
      ·exact ob
     ·have c4:=nr c4;refine aF (fun c5=>?_) (fun c5=>?_)
      ·have c5:=nr c5;refine wn ?_;refine wn ?_;refine ihg1 _ ?_ ?_
       ·exact ob
       ·exact ob
      ·have c5:=nr c5;refine aF (fun c6=>?_) (fun c6=>?_)
       ·have c6:=nr c6;refine wn ?_;refine wn ?_;refine ihg1 _ ?_ ?_
        ·exact ob
        ·exact ob
       ·have c6:=nr c6;refine wn ?_;refine wn ?_;refine ihg1 _ ?_ ?_
        ·exact ob
        ·exact ob
   ·have c2:=nr c2;unfold gP;refine aC (aT ob ob ob) fun v16 hv16=>?_;obtain ⟨hv16_1,hv16_2,hv16_3,hv16_4,hv16_5⟩:=hv16;refine wn ?_;refine aF (fun c7=>?_) (fun c7=>?_)
    ·have c7:=nr c7;refine wn ?_;refine wn ?_;refine ihg1 _ ?_ ?_
     ·exact ob
     ·exact ob
    ·have c7:=nr c7;refine aF (fun c8=>?_) (fun c8=>?_)
     ·have c8:=nr c8;refine wn ?_;refine wn ?_;refine ihg1 _ ?_ ?_
      ·exact ob
      ·exact ob
     ·have c8:=nr c8;refine aF (fun c9=>?_) (fun c9=>?_)
      ·have c9:=nr c9;refine wn ?_;refine wn ?_;refine ihg1 _ ?_ ?_
       ·exact ob
       ·exact ob
      ·have c9:=nr c9;refine aF (fun c10=>?_) (fun c10=>?_)
       ·have c10:=nr c10;refine wn ?_;refine wn ?_;refine ihg1 _ ?_ ?_
        ·exact ob
        ·exact ob
       ·have c10:=nr c10;refine wn ?_;refine wn ?_;refine ihg1 _ ?_ ?_
        ·exact ob
        ·exact ob
  ·have c1:=nr c1;refine ak ?_;exact ob
 ·exact ob
theorem F6 {o0_:bq} (h1:0≤o0_.At) (h2:o0_.L.length≤600):W (mo o0_) (fun r=>r.1.Groups.length≤5∧(∀c∈r.1.Groups,c.bI.length≤10∧c.Functions.length≤2)∧0≤r.2.At∧r.2.L.length≤600):=by
 unfold mo;refine aC (jB ob ob ob ob ob ob) fun v1 hv1=>?_;obtain ⟨hv1_1,hv1_2,hv1_3,hv1_4,hv1_5⟩:=hv1;refine aC (aT ob ob ob) fun v2 hv2=>?_;obtain ⟨hv2_1,hv2_2,hv2_3,hv2_4,hv2_5⟩:=hv2;refine aW (fun (g1:(Int×(List Int)×Int×(List aV)))=>0≤g1.1∧0≤g1.2.2.1∧g1.2.1.length≤600∧(g1.2.2.2.length:Int)+g1.1≤5∧(∀c∈g1.2.2.2,c.bI.length≤10∧c.Functions.length≤2)) (fun (g1:(Int×(List Int)×Int×(List aV)))=>g1.1.toNat) ?_ ?_
 ·intro self1 g1 hig1 ihg1;obtain ⟨hg1_1,hg1_2,hg1_3,hg1_4,hg1_5⟩:=hig1;unfold uH;refine aF (fun c1=>?_) (fun c1=>?_)
  ·have c1:=nr c1;refine wn ?_;refine bU (by (rw [Tf,show ({ data:=#[103] }:ByteArray).size=1 from rfl]; simp only [List.length_cons,List.length_nil]; omega)) ?_;refine aC (aT ob ob ob) fun v35 hv35=>?_;obtain ⟨hv35_1,hv35_2,hv35_3,hv35_4,hv35_5⟩:=hv35;refine aW (fun (g12:(Int×(List Int)×Int×(List Int)))=>0≤g12.1∧0≤g12.2.2.1∧g12.2.1.length≤600∧(g12.2.2.2.length:Int)≤g12.1∧g12.1≤10) (fun (g12:(Int×(List Int)×Int×(List Int)))=>(10 - g12.1).toNat) ?_ ?_
   ·intro self12 g12 hig12 ihg12;obtain ⟨hg12_1,hg12_2,hg12_3,hg12_4,hg12_5⟩:=hig12;unfold uG;refine aF (fun c2=>?_) (fun c2=>?_)
    ·have c2:=nr c2;refine aC (jB ob ob ob ob ob ob) fun v38 hv38=>?_;obtain ⟨hv38_1,hv38_2,hv38_3,hv38_4,hv38_5⟩:=hv38;refine wn ?_;refine aF (fun c3=>?_) (fun c3=>?_)
     ·have c3:=nr c3;refine wn ?_;refine wn ?_;refine ihg12 _ ?_ ?_
      ·exact ob
      ·exact ob
     ·have c3:=nr c3;refine aF (fun c4=>?_) (fun c4=>?_)
      ·have c4:=nr c4;unfold iD;refine aC (aT ob ob ob) fun v39 hv39=>?_;obtain ⟨hv39_1,hv39_2,hv39_3,hv39_4,hv39_5⟩:=hv39;refine aC (iw) fun v40 hv40=>?_;subst hv40;refine wn ?_;refine aC (aT ob ob ob) fun v43 hv43=>?_;obtain ⟨hv43_1,hv43_2,hv43_3,hv43_4,hv43_5⟩:=hv43;refine aF (fun c5=>?_) (fun c5=>?_)
       ·have c5:=nr c5;refine aC (iw) fun v44 hv44=>?_;subst hv44;refine wn ?_;refine wn ?_;refine wn ?_;refine wn ?_;unfold eZ;refine wn ?_;refine wn ?_;refine ihg1 _ ?_ ?_
        ·exact ob
        ·exact ob
       ·have c5:=nr c5;unfold eZ;refine wn ?_;refine wn ?_;refine ihg1 _ ?_ ?_
        ·exact ob
        ·exact ob
      ·have c4:=nr c4;unfold iD;refine aC (aT ob ob ob) fun v39 hv39=>?_;obtain ⟨hv39_1,hv39_2,hv39_3,hv39_4,hv39_5⟩:=hv39;refine aC (iw) fun v40 hv40=>?_;subst hv40;refine wn ?_;refine aC (aT ob ob ob) fun v43 hv43=>?_;obtain ⟨hv43_1,hv43_2,hv43_3,hv43_4,hv43_5⟩:=hv43;refine aF (fun c6=>?_) (fun c6=>?_)
       ·have c6:=nr c6;refine aC (iw) fun v44 hv44=>?_;subst hv44;refine wn ?_;refine wn ?_;refine wn ?_;refine wn ?_;unfold eZ;refine wn ?_;refine wn ?_;refine ihg1 _ ?_ ?_
        ·exact ob
        ·exact ob
       ·have c6:=nr c6;unfold eZ;refine wn ?_;refine wn ?_;refine ihg1 _ ?_ ?_
        ·exact ob
        ·exact ob
    ·have c2:=nr c2;refine wn ?_;refine aF (fun c7=>?_) (fun c7=>?_)
     ·have c7:=nr c7;unfold gD;refine aC (aT ob ob ob) fun v45 hv45=>?_;obtain ⟨hv45_1,hv45_2,hv45_3,hv45_4,hv45_5⟩:=hv45;refine aC (iw) fun v46 hv46=>?_;subst hv46;refine wn ?_;refine aC (aT ob ob ob) fun v49 hv49=>?_;obtain ⟨hv49_1,hv49_2,hv49_3,hv49_4,hv49_5⟩:=hv49;refine aF (fun c8=>?_) (fun c8=>?_)
      ·have c8:=nr c8;refine aC (iw) fun v50 hv50=>?_;subst hv50;refine wn ?_;refine wn ?_;refine wn ?_;refine wn ?_;unfold eD;refine wn ?_;refine wn ?_;refine ihg1 _ ?_ ?_
       ·exact ob
       ·exact ob
      ·have c8:=nr c8;unfold eD;refine wn ?_;refine wn ?_;refine ihg1 _ ?_ ?_
       ·exact ob
       ·exact ob
     ·have c7:=nr c7;unfold gD;refine aC (aT ob ob ob) fun v45 hv45=>?_;obtain ⟨hv45_1,hv45_2,hv45_3,hv45_4,hv45_5⟩:=hv45;refine aC (iw) fun v46 hv46=>?_;subst hv46;refine wn ?_;refine aC (aT ob ob ob) fun v49 hv49=>?_;obtain ⟨hv49_1,hv49_2,hv49_3,hv49_4,hv49_5⟩:=hv49;refine aF (fun c9=>?_) (fun c9=>?_)
      ·have c9:=nr c9;refine aC (iw) fun v50 hv50=>?_;subst hv50;refine wn ?_;refine wn ?_;refine wn ?_;refine wn ?_;unfold eD;refine wn ?_;refine wn ?_;refine ihg1 _ ?_ ?_
       ·exact ob
       ·exact ob
      ·have c9:=nr c9;unfold eD;refine wn ?_;refine wn ?_;refine ihg1 _ ?_ ?_
       ·exact ob
       ·exact ob
   ·exact ob
  ·have c1:=nr c1;refine ak ?_;exact ob
 ·exact ob
theorem GY {o0_:bq} (h1:0≤o0_.At) (h2:o0_.L.length≤600):W (nL o0_) (fun r=>Py r.1∧0≤r.2.At∧r.2.L.length≤600):=by
 unfold nL;refine aC (F5 ob ob) fun v1 hv1=>?_;obtain ⟨hv1_1,hv1_2,hv1_3,hv1_4⟩:=hv1;refine aC (Dz ob ob) fun v2 hv2=>?_;obtain ⟨hv2_1,hv2_2,hv2_3,hv2_4⟩:=hv2;refine aC (F6 ob ob) fun v3 hv3=>?_;obtain ⟨hv3_1,hv3_2,hv3_3,hv3_4⟩:=hv3;refine aC (F4 ob ob ob ob) fun v4 hv4=>?_;obtain ⟨hv4_1,hv4_2,hv4_3,hv4_4⟩:=hv4;refine aC (EH ob ob ob ob) fun v5 hv5=>?_;obtain ⟨hv5_1,hv5_2,hv5_3⟩:=hv5;refine ak ?_;(refine ⟨⟨by exact ob,hv1_2,by exact ob,hv2_2,by exact ob,hv3_2,by exact ob,hv4_2,by exact ob⟩,by exact ob,by exact ob⟩)
end Go.Proofs.YtfblhejmclcdmaaGreatDoor


namespace Go.Proofs.YtfblhejmclcdmaaGreatDoor
open Go.Ab
set_option maxRecDepth 100000
deriving instance DecidableEq for av,aP,bn
def withinF (n lo hi:Int):Bool:=decide (lo≤n)&&decide (n≤hi)
def pK (lo hi:Int):List Int→List Int→Bool
 | _,[]=>true
 | pre,n::r=>bif !(withinF n lo hi)||pre.contains n then false else pK lo hi (pre++[n]) r
theorem KU {lo hi n:Int} {pre r:List Int} (h:(!(withinF n lo hi)||pre.contains n)=true):pK lo hi pre (n::r)=false:=by rw [pK,h]; rfl
theorem Pz {lo hi n:Int} {pre r:List Int} (h:(!(withinF n lo hi)||pre.contains n)=false):pK lo hi pre (n::r)=pK lo hi (pre++[n]) r:=by rw [pK,h]; rfl
def fP (a b:Int):Int:=(Nat.gcd a.toNat b.toNat:Nat)
def validR (r:aP):Bool:=decide (0≤r.Num)&&decide (r.Num≤144115188075855872)&&decide (1≤r.Den)&&decide (r.Den≤16777216)&&(fP r.Num r.Den==1)
def newR (num den:Int):aP×Int:=bif decide (num<0)||decide (den<1) then (⟨0,0⟩,2) else
 bif !validR ⟨num.tdiv (fP num den),den.tdiv (fP num den)⟩ then (⟨0,0⟩,2) else (⟨num.tdiv (fP num den),den.tdiv (fP num den)⟩,0)
theorem sP (a b:Int) (h:0<b):0<fP a b:=by
 unfold fP;have:0<b.toNat:=by omega
 have:=Nat.gcd_pos_of_pos_right a.toNat this;omega
theorem tdiv_le (a k:Int) (ha:0≤a) (hk:0<k):0≤a.tdiv k∧a.tdiv k≤a:=by
 rw [Int.tdiv_eq_ediv_of_nonneg ha];exact ⟨Int.ediv_nonneg ha (by omega),Int.ediv_le_self _ ha⟩
def pO (k:Int):Bool:=decide (1≤k)&&decide (k≤64)
def kQ (r:aP) (k:Int):aP×Int:=bif !validR r then (⟨0,0⟩,1) else bif !pO k then (⟨0,0⟩,2) else
 bif decide ((144115188075855872:Int).tdiv (k.tdiv (fP k r.Den))<r.Num) then (⟨0,0⟩,2) else newR (r.Num*(k.tdiv (fP k r.Den))) (r.Den.tdiv (fP k r.Den))
def sQ (r:aP) (k:Int):aP×Int:=bif !validR r then (⟨0,0⟩,1) else bif !pO k then (⟨0,0⟩,2) else newR r.Num (r.Den*k)
theorem kD {r:aP} (h:validR r=true):0≤r.Num∧r.Num≤144115188075855872∧1≤r.Den∧r.Den≤16777216∧fP r.Num r.Den=1:=by
 unfold validR at h;simp at h;omega
theorem ZU (k d:Int) (hk:1≤k∧k≤64) (hd:1≤d):1≤k.tdiv (fP k d)∧k.tdiv (fP k d)≤64:=by
 have hg:=sP k d (by omega);have h1:=tdiv_le k (fP k d) (by omega) hg;have hdvd:Nat.gcd k.toNat d.toNat∣k.toNat:=Nat.gcd_dvd_left _ _;have h2:0<k.toNat / Nat.gcd k.toNat d.toNat:=Nat.div_pos (Nat.le_of_dvd (by omega) hdvd) (by unfold fP at hg; omega);have h3:k.tdiv (fP k d)=((k.toNat / Nat.gcd k.toNat d.toNat:Nat):Int):=by
  unfold fP;rw [Int.tdiv_eq_ediv_of_nonneg (by omega)];have:k=(k.toNat:Int):=by omega
  rw [Int.natCast_ediv,← this]
 omega
theorem Vn (a b:Int) (ha:0≤a) (hb:1≤b) (h:a≤(144115188075855872:Int).tdiv b):0≤a*b∧a*b≤144115188075855872:=by
 rw [Int.tdiv_eq_ediv_of_nonneg (by decide)] at h;have:=(Int.le_ediv_iff_mul_le (by omega)).1 h;exact ⟨Int.mul_nonneg ha (by omega),this⟩
theorem GZ (c a b:Nat) (hc:0<c) (hb:0<b):newR (c*a:Nat) (c*b:Nat)=newR a b:=by
 have hcb:0<c*b:=Nat.mul_pos hc hb;have g0:0<Nat.gcd a b:=Nat.gcd_pos_of_pos_right a hb;have e1:fP (c*a:Nat) (c*b:Nat)=((c*Nat.gcd a b:Nat):Int):=by
  unfold fP;rw [Int.toNat_natCast,Int.toNat_natCast,Nat.gcd_mul_left]
 have e2:fP (a:Nat) (b:Nat)=(Nat.gcd a b:Nat):=by
  unfold fP;rw [Int.toNat_natCast,Int.toNat_natCast]
 have d:∀x:Nat,((c*x:Nat):Int).tdiv ((c*Nat.gcd a b:Nat):Int)=(x:Int).tdiv (Nat.gcd a b:Nat):=by
  intro x;rw [← Int.ofNat_tdiv,← Int.ofNat_tdiv,Nat.mul_div_mul_left _ _ hc]
 unfold newR;have c1:(decide (((c*a:Nat):Int)<0)||decide (((c*b:Nat):Int)<1))=false:=by
  have h1:¬ (((c*b:Nat):Int)<1):=Int.not_lt.2 (Int.ofNat_le.2 hcb);rw [decide_eq_false (Int.not_lt.2 (Int.natCast_nonneg _)),decide_eq_false h1];rfl
 have c2:(decide ((a:Int)<0)||decide ((b:Int)<1))=false:=by simp; omega
 rw [c1,c2,e1,e2,d a,d b]
theorem Vo (num den k:Int) (hn:0≤num) (hd:1≤den) (hk:1≤k):newR (num.tdiv (fP num k)) (den*(k.tdiv (fP num k)))=newR num (den*k):=by
 obtain ⟨n,rfl⟩:=Int.eq_ofNat_of_zero_le hn;obtain ⟨d,rfl⟩:=Int.eq_ofNat_of_zero_le (show 0≤den by omega);obtain ⟨k,rfl⟩:=Int.eq_ofNat_of_zero_le (show 0≤k by omega);have hg:fP (n:Nat) (k:Nat)=(Nat.gcd n k:Nat):=by unfold fP; rw [Int.toNat_natCast,Int.toNat_natCast]
 rw [hg,← Int.ofNat_tdiv,← Int.ofNat_tdiv];have g0:0<Nat.gcd n k:=Nat.gcd_pos_of_pos_right n (by omega);obtain ⟨a,ha⟩:=Nat.gcd_dvd_left n k;obtain ⟨b,hb⟩:=Nat.gcd_dvd_right n k;have e1:n / Nat.gcd n k=a:=by rw [Nat.div_eq_of_eq_mul_right g0 ha]
 have e2:k / Nat.gcd n k=b:=by rw [Nat.div_eq_of_eq_mul_right g0 hb]
 rw [e1,e2];have hb0:0<b:=by
  rcases Nat.eq_zero_or_pos b with h | h
  ·rw [h] at hb; simp at hb; omega
  ·exact h
 have:=GZ (Nat.gcd n k) a (d*b) g0 (Nat.mul_pos (by omega) hb0);rw [← ha] at this;have e3:Nat.gcd n k*(d*b)=d*k:=by
  rw [Nat.mul_left_comm,← hb]
 rw [e3] at this;rw [← Int.natCast_mul,← Int.natCast_mul];exact this.symm
def nN (r:aP) (lo hi:Int):Bool:=validR r&&(decide (lo≤r.Num.tdiv r.Den)&&(decide (r.Num.tdiv r.Den<hi)||(r.Num.tdiv r.Den==hi&&r.Num.tmod r.Den==0)))
def bigC (c:av):Bool:=decide (8<(c.Parents.length:Int))||decide (8<(c.Choices.length:Int))
def G5 (n:Int) (x:bn):Bool:=!withinF x.Clock 0 (n - 1)||!withinF x.High 0 4000000000||!withinF x.Low 0 x.High
def eO (c:av):Bool:=
 bif c.Kind==1 then ((c.Parents.length:Int)==0)&&((c.Choices.length:Int)==1)&&withinF (c.Choices.getD 0 0) 1 4000000000
 else bif c.Kind==2||c.Kind==3 then ((c.Parents.length:Int)==1)&&decide (0<(c.Choices.length:Int))&&pK 1 64 [] c.Choices
 else bif c.Kind==4 then decide (0<(c.Choices.length:Int))&&pK 0 ((c.Parents.length:Int) - 1) [] c.Choices
 else bif c.Kind==5 then ((c.Parents.length:Int)==1)&&(c.Choices==[0,1])
 else false
def iF (c:av) (k:Int):Bool:=bif c.Parents.any (fun y=>!withinF y 0 (k - 1))||!withinF c.High 0 4000000000||!withinF c.Low 0 c.High then false else eO c
theorem YF (l:List Int) (hi:Int) (h:pK 0 hi [] l=true) (hl:0<l.length):0≤hi:=by
 cases l with
 | nil=>simp at hl
 | cons n l=>
  cases hw:withinF n 0 hi with
  | true=>simp [withinF] at hw; omega
  | false=>
   rw [KU (by rw [hw]; rfl)] at h;cases h
def EI (a b:Int):Int:=if b > a then b else a
def F7 (c:av):Bool:=c.Kind==2||c.Kind==3
def iU (acc:List Int) (l:List Int):Int:=l.foldl (fun n p=>EI n (acc.getD p.toNat 0)) 0
def Ah (acc:List Int) (c:av):Int:=bif F7 c then iU acc c.Parents+1 else iU acc c.Parents
def eu (l:List av):List Int:=l.foldl (fun acc c=>acc++[Ah acc c]) []
theorem vI (l:List av) (c:av):eu (l++[c])=eu l++[Ah (eu l) c]:=by
 unfold eu;rw [List.foldl_append];rfl
def Uv (l:List av):Prop:=∀i,i<l.length→(l.getD i ay).Parents.length≤1000000∧∀p∈(l.getD i ay).Parents,0≤p∧p<i
theorem Ai (acc:List Int) (b:Int) (hb0:0≤b) (hb:∀j:Nat,0≤acc.getD j 0∧acc.getD j 0≤b) (l:List Int):0≤iU acc l∧iU acc l≤b:=by
 have:∀(l:List Int) (n:Int),0≤n∧n≤b→0≤l.foldl (fun n p=>EI n (acc.getD p.toNat 0)) n∧l.foldl (fun n p=>EI n (acc.getD p.toNat 0)) n≤b:=by
  intro l;induction l with
  | nil=>exact fun n h=>h
  | cons p r ih=>
   intro n hn;refine ih _ ?_;show 0≤EI n (acc.getD p.toNat 0)∧EI n (acc.getD p.toNat 0)≤b;unfold EI;have:=hb p.toNat;split<;>omega
 exact this l 0 (by omega)
theorem gG (l:List av):(eu l).length=l.length∧∀j:Nat,0≤(eu l).getD j 0∧(eu l).getD j 0≤l.length:=by
 induction l using zV with
 | nil=>exact ⟨rfl,fun j=>by rw [CG]; simp; exact Nat.zero_le _⟩
 | append_singleton l c ih=>
  obtain ⟨h1,h2⟩:=ih;rw [vI];have hb:=Ai (eu l) l.length (by omega) h2 c.Parents;have hf:0≤Ah (eu l) c∧Ah (eu l) c≤l.length+1:=by
   unfold Ah;cases F7 c<;>simp only [cond_true,cond_false]<;>omega
  refine ⟨by rw [List.length_append,List.length_append,h1]; rfl,fun j=>?_⟩;have hlen:((l++[c]).length:Int)=l.length+1:=by rw [List.length_append]; rfl
  rw [hlen];by_cases hj:j<l.length
  ·rw [gW 0 (by omega)];have:=h2 j;omega
  ·by_cases hj2:j=l.length
   ·rw [gy 0 (by omega)]; exact hf
   ·rw [CG 0 (by rw [List.length_append,h1]; simp; omega)];omega
def Kg (a b:Int):Int:=if b<a then b else a
def jh (l:List av):Int:=l.foldl (fun p c=>Kg (p*c.Choices.length) 1099511627776) 1
def Q6 (l:List av):Bool:=(List.range l.length).all fun i=>iF (l.getD i ay) i
def bP (l:List av):Int:=bif decide (16<(l.length:Int))||l.any bigC then 3 else bif !Q6 l then 1 else bif decide (4096<jh l)||(eu l).any (fun n=>decide (4<n)) then 3 else 0
theorem Oo {l:List av} (h:∀i:Nat,i<l.length→iF (l.getD i ay) i=true):Q6 l=true:=by
 unfold Q6;rw [List.all_eq_true];intro i hi;exact h i (List.mem_range.1 hi)
theorem Q7 {l:List av} (h:Q6 l=true) (i:Nat) (hi:i<l.length):iF (l.getD i ay) i=true:=by
 unfold Q6 at h;rw [List.all_eq_true] at h;exact h i (List.mem_range.2 hi)
theorem F8 {l:List av} {i:Nat} (hi:i<l.length) (h:iF (l.getD i ay) i=false):Q6 l=false:=by
 cases hv:Q6 l with
 | false=>rfl
 | true=>rw [Q7 hv i hi] at h; cases h
theorem jH {α:Type} {l:List α} {p:α→Bool} (d:α) (h:l.any p=false) (i:Nat) (hi:i<l.length):p (l.getD i d)=false:=by
 rw [List.any_eq_false] at h;simpa using h _ (eY d hi)
theorem pQ {α:Type} {l:List α} {p:α→Bool} (d:α) {i:Nat} (hi:i<l.length) (h:p (l.getD i d)=true):l.any p=true:=List.any_eq_true.2 ⟨_,eY d hi,h⟩
theorem any_none {α:Type} {l:List α} {p:α→Bool} (d:α) (h:∀i,i<l.length→p (l.getD i d)=false):l.any p=false:=by
 rw [List.any_eq_false];intro x hx;obtain ⟨i,hi,rfl⟩:=List.mem_iff_getElem.1 hx;have:=h i hi;rw [List.getD_eq_getElem?_getD,List.getElem?_eq_getElem hi] at this;simpa using this
theorem DC {c:av} (h:bigC c=false):c.Parents.length≤8∧c.Choices.length≤8:=by
 unfold bigC at h;simp at h;omega
theorem DF (l:List av):0≤jh l∧jh l≤1099511627776:=by
 unfold jh;induction l using zV with
 | nil=>simp
 | append_singleton l c ih=>
  rw [List.foldl_append];show 0≤Kg (l.foldl _ 1*c.Choices.length) 1099511627776∧Kg (l.foldl _ 1*c.Choices.length) 1099511627776≤1099511627776;have:0≤l.foldl (fun p c=>Kg (p*(c:av).Choices.length) 1099511627776) 1*(c.Choices.length:Int):=Int.mul_nonneg ih.1 (by omega);generalize l.foldl (fun p c=>Kg (p*(c:av).Choices.length) 1099511627776) 1*(c.Choices.length:Int)=q at this;unfold Kg;split<;>omega
theorem Xk (l:List av) (n:Int) (h:0≤n∧n≤8):0≤jh l*n∧jh l*n≤1099511627776*8:=by
 have hb:=DF l;exact ⟨Int.mul_nonneg hb.1 h.1,Int.mul_le_mul hb.2 h.2 h.1 (by omega)⟩
theorem within_iff (n lo hi:Int):withinF n lo hi=true↔lo≤n∧n≤hi:=by
 unfold withinF;simp
theorem IY {c:av} {k:Int} {j:Nat} (hj:j<c.Parents.length) (h:withinF (c.Parents.getD j 0) 0 (k - 1)=false):iF c k=false:=by
 unfold iF;have:c.Parents.any (fun y=>!withinF y 0 (k - 1))=true:=pQ 0 hj (by show (!withinF (c.Parents.getD j 0) 0 (k - 1))=true; rw [h]; rfl);rw [this];rfl
theorem Q8 {c:av} {k:Int} (h:∀j,j<c.Parents.length→withinF (c.Parents.getD j 0) 0 (k - 1)=true):iF c k=!(!eO c||decide (c.Low<0)||decide (c.High<c.Low)||decide (4000000000<c.High)):=by
 have e:c.Parents.any (fun y=>!withinF y 0 (k - 1))=false:=any_none 0 fun j hj=>by show (!withinF (c.Parents.getD j 0) 0 (k - 1))=false; rw [h j hj]; rfl
 unfold iF;rw [e];cases hc:eO c with
 | false=>cases (false||!withinF c.High 0 4000000000||!withinF c.Low 0 c.High)<;>rfl
 | true=>
  by_cases hg:(0≤c.Low∧c.Low≤c.High)∧c.High≤4000000000
  ·have h1:withinF c.High 0 4000000000=true:=(within_iff _ _ _).2 (by omega);have h2:withinF c.Low 0 c.High=true:=(within_iff _ _ _).2 (by omega);rw [h1,h2,decide_eq_false (show ¬ c.Low<0 by omega),decide_eq_false (show ¬ c.High<c.Low by omega),decide_eq_false (show ¬ 4000000000<c.High by omega)];rfl
  ·have h1:(false||!withinF c.High 0 4000000000||!withinF c.Low 0 c.High)=true:=by
    simp only [Bool.false_or,Bool.or_eq_true,Bool.not_eq_true',← Bool.not_eq_true,within_iff];omega
   have h2:(!true||decide (c.Low<0)||decide (c.High<c.Low)||decide (4000000000<c.High))=true:=by
    simp only [Bool.not_true,Bool.false_or,Bool.or_eq_true,decide_eq_true_eq];omega
   rw [h1,h2];rfl
theorem Aj {c:av} {k:Int} (h:iF c k=true):∀p∈c.Parents,0≤p∧p<k:=by
 intro p hp;unfold iF at h;cases ha:c.Parents.any (fun y=>!withinF y 0 (k - 1)) with
 | true=>rw [ha] at h; cases h
 | false=>
  rw [List.any_eq_false] at ha;have:=ha p hp;simp only [Bool.not_eq_true,Bool.not_eq_false'] at this;have:=(within_iff _ _ _).1 this;omega
theorem Q9 {l:List av} (h:∀i:Nat,i<l.length→iF (l.getD i ay) i=true) (hb:∀i:Nat,i<l.length→bigC (l.getD i ay)=false):Uv l:=fun i hi=>⟨by have:=DC (hb i hi); omega,Aj (h i hi)⟩
theorem IZ (l:List av) (k:Nat):∀j,j<k→j<l.length→(eu l).getD j 0=(eu (l.take k)).getD j 0:=by
 induction l using zV with
 | nil=>intro j _ hj; cases hj
 | append_singleton l c ih=>
  intro j hjk hj;have hlen:=(gG l).1;by_cases hk:k≤l.length
  ·rw [List.take_append_of_le_length hk,vI,gW 0 (by omega)];exact ih j hjk (by omega)
  ·rw [List.take_of_length_le (l:=l++[c]) (by rw [List.length_append]; simp; omega)]
theorem DJ {c:av} (h:eO c=true):1≤c.Choices.length:=by
 cases hc:c.Choices with
 | nil=>
  unfold eO at h;rw [hc] at h;cases h1:c.Kind==1<;>cases h2:(c.Kind==2||c.Kind==3)<;>cases h3:c.Kind==4<;>cases h4:c.Kind==5<;>rw [h1,h2,h3,h4] at h<;>simp at h
 | cons x r=>simp
theorem validC_choices {c:av} {k:Int} (h:iF c k=true):eO c=true:=by
 unfold iF at h;cases hb:(c.Parents.any (fun y=>!withinF y 0 (k - 1))||!withinF c.High 0 4000000000||!withinF c.Low 0 c.High) with
 | true=>rw [hb] at h; cases h
 | false=>rw [hb] at h; exact h
theorem F9 (l:List av) (c:av):jh (l++[c])=Kg (jh l*c.Choices.length) 1099511627776:=by
 unfold jh;rw [List.foldl_append];rfl
theorem Tg (l:List av):(∀c∈l,1≤c.Choices.length)→∀k,jh (l.take k)≤jh l:=by
 induction l using zV with
 | nil=>intro _ k; rw [List.take_nil]; exact Int.le_refl _
 | append_singleton l c ih=>
  intro h k;by_cases hk:k≤l.length
  ·rw [List.take_append_of_le_length hk,F9];have h1:=ih (fun d hd=>h d (List.mem_append_left _ hd)) k;have hb:=DF l;have hc:=h c (List.mem_append_right _ (List.mem_singleton.2 rfl));have:jh l*1≤jh l*c.Choices.length:=Int.mul_le_mul_of_nonneg_left (by omega) hb.1;rw [Int.mul_one] at this;generalize jh l*(c.Choices.length:Int)=q at *;unfold Kg;split<;>omega
  ·rw [List.take_of_length_le (l:=l++[c]) (by rw [List.length_append]; simp; omega)];exact Int.le_refl _
def settB (l:List av) (s:List Int):Bool:=((s.length:Int)==(l.length:Int))&&(List.range l.length).all fun i=>withinF (s.getD i 0) 0 ((l.getD i ay).Choices.length - 1)
theorem rT {n:Nat} {p:Nat→Bool} (h:∀i,i<n→p i=true):(List.range n).all p=true:=by
 rw [List.all_eq_true];intro i hi;exact h i (List.mem_range.1 hi)
theorem G6 {n:Nat} {p:Nat→Bool} (h:(List.range n).all p=true) {i:Nat} (hi:i<n):p i=true:=by
 rw [List.all_eq_true] at h;exact h i (List.mem_range.2 hi)
theorem wz {n:Nat} {p:Nat→Bool} {i:Nat} (hi:i<n) (h:p i=false):(List.range n).all p=false:=by
 cases hv:(List.range n).all p with
 | false=>rfl
 | true=>rw [G6 hv hi] at h; cases h
def YG (l:List av):Prop:=∀i:Nat,i<l.length→(l.getD i ay).Choices.length≤1000000
def oK (l:List av) (m:List bn):Bool:=(bP l==0)&&decide ((m.length:Int)≤32)&&!(m.any (G5 l.length))
theorem Xl (n:Int) (x:bn):G5 n x=(decide (x.Clock<0)||decide (n≤x.Clock)||decide (x.Low<0)||decide (x.High<x.Low)||decide (4000000000<x.High)):=by
 unfold G5;by_cases hg:(0≤x.Clock∧x.Clock≤n - 1)∧(0≤x.High∧x.High≤4000000000)∧(0≤x.Low∧x.Low≤x.High)
 ·rw [(within_iff _ _ _).2 hg.1,(within_iff _ _ _).2 hg.2.1,(within_iff _ _ _).2 hg.2.2,decide_eq_false (show ¬ x.Clock<0 by omega),decide_eq_false (show ¬ n≤x.Clock by omega),decide_eq_false (show ¬ x.Low<0 by omega),decide_eq_false (show ¬ x.High<x.Low by omega),decide_eq_false (show ¬ 4000000000<x.High by omega)];rfl
 ·have h1:(!withinF x.Clock 0 (n - 1)||!withinF x.High 0 4000000000||!withinF x.Low 0 x.High)=true:=by
   simp only [Bool.or_eq_true,Bool.not_eq_true',← Bool.not_eq_true,within_iff];omega
  have h2:(decide (x.Clock<0)||decide (n≤x.Clock)||decide (x.Low<0)||decide (x.High<x.Low)||decide (4000000000<x.High))=true:=by
   simp only [Bool.or_eq_true,decide_eq_true_eq];omega
  rw [h1,h2]
def L6 (c:av) (k:Int):Prop:=(c.Kind=1)∨(c.Kind=4∧0≤k∧k<c.Choices.length∧0≤c.Choices.getD k.toNat 0∧c.Choices.getD k.toNat 0<c.Parents.length)∨(c.Kind≠4∧0<c.Parents.length)
def parF (c:av) (k:Int):Int:=bif c.Kind==1 then -1 else bif c.Kind==4 then c.Parents.getD (c.Choices.getD k.toNat 0).toNat 0 else c.Parents.getD 0 0
def EJ:aP:=⟨0,1⟩
def qE (r:aP):Bool:=(r.Num==0)&&((r.Den==1)&&true)
def Nh (acc:List aP) (c:av) (k:Int):aP:=
 bif decide (parF c k<0) then ⟨c.Choices.getD k.toNat 0,1⟩ else
 bif qE (acc.getD (parF c k).toNat bZ)||((c.Kind==5)&&(c.Choices.getD k.toNat 0==0)) then EJ else
 bif c.Kind==2 then (sQ (acc.getD (parF c k).toNat bZ) (c.Choices.getD k.toNat 0)).1 else
 bif c.Kind==3 then (kQ (acc.getD (parF c k).toNat bZ) (c.Choices.getD k.toNat 0)).1 else acc.getD (parF c k).toNat bZ
def nY (l:List av) (s:List Int):Nat→List aP
 | 0=>[]
 | i+1=>nY l s i++[Nh (nY l s i) (l.getD i ay) (s.getD i 0)]
def gZ (l:List av) (s:List Int):List aP:=nY l s l.length
theorem qX (l:List av) (s:List Int) (i:Nat):(nY l s i).length=i:=by
 induction i with
 | zero=>rfl
 | succ i ih=>simp [nY,ih]
structure Good (l:List av) (s:List Int):Prop where
 small:l.length≤1000
 len:s.length=l.length
 Choices:∀i,i<l.length→0≤s.getD i 0∧s.getD i 0<(l.getD i ay).Choices.length
 pch:∀i,i<l.length→L6 (l.getD i ay) (s.getD i 0)
 Parents:∀i,i<l.length→parF (l.getD i ay) (s.getD i 0)<i
theorem Oq {lo hi:Int}:∀(l pre:List Int),pK lo hi pre l=true→∀x∈l,lo≤x∧x≤hi:=by
 intro l;induction l with
 | nil=>intro _ _ x hx; cases hx
 | cons n r ih=>
  intro pre h x hx;cases hb:(!(withinF n lo hi)||pre.contains n) with
  | true=>rw [KU hb] at h; cases h
  | false=>
   rw [Pz hb] at h;rcases List.mem_cons.1 hx with rfl | hx
   ·rw [Bool.or_eq_false_iff] at hb;have:=hb.1;simp only [Bool.not_eq_false'] at this;exact (within_iff _ _ _).1 this
   ·exact ih _ h x hx
theorem choicesB_cases {c:av} (h:eO c=true):
  (c.Kind=1∧c.Parents=[]∧c.Choices.length=1∧1≤c.Choices.getD 0 0∧c.Choices.getD 0 0≤4000000000)∨((c.Kind=2∨c.Kind=3)∧c.Parents.length=1∧0<c.Choices.length∧∀x∈c.Choices,1≤x∧x≤64)
  ∨ (c.Kind=4∧0<c.Choices.length∧∀x∈c.Choices,0≤x∧x≤(c.Parents.length:Int) - 1)∨(c.Kind=5∧c.Parents.length=1∧c.Choices=[0,1]):=by
 unfold eO at h;cases h1:c.Kind==1 with
 | true=>
  rw [h1] at h;simp only [cond_true,Bool.and_eq_true,within_iff] at h;obtain ⟨⟨h2,h3⟩,h4⟩:=h;left;have h2:c.Parents.length=0:=by have:=eq_of_beq h2; omega
  exact ⟨eq_of_beq h1,List.length_eq_zero_iff.1 h2,by have:=eq_of_beq h3; omega,h4⟩
 | false=>
  rw [h1] at h;cases h2:(c.Kind==2||c.Kind==3) with
  | true=>
   rw [h2] at h;simp only [cond_true,cond_false,Bool.and_eq_true] at h;obtain ⟨⟨h3,h4⟩,h5⟩:=h;right; left;refine ⟨?_,by have:=eq_of_beq h3; omega,by have:=of_decide_eq_true h4; omega,Oq _ _ h5⟩;rw [Bool.or_eq_true] at h2;exact h2.imp eq_of_beq eq_of_beq
  | false=>
   rw [h2] at h;cases h3:c.Kind==4 with
   | true=>
    rw [h3] at h;simp only [cond_true,cond_false,Bool.and_eq_true] at h;right; right; left;exact ⟨eq_of_beq h3,by have:=of_decide_eq_true h.1; omega,Oq _ _ h.2⟩
   | false=>
    rw [h3] at h;cases h4:c.Kind==5 with
    | true=>
     rw [h4] at h;simp only [cond_true,cond_false,Bool.and_eq_true] at h;right; right; right;exact ⟨eq_of_beq h4,by have:=eq_of_beq h.1; omega,eq_of_beq h.2⟩
    | false=>rw [h4] at h; cases h
structure Ra (l:List av):Prop where
 len:l.length≤16
 big:∀i:Nat,i<l.length→(l.getD i ay).Parents.length≤8∧(l.getD i ay).Choices.length≤8
 valid:∀i:Nat,i<l.length→iF (l.getD i ay) i=true
 prod:jh l≤4096
 eu:∀i:Nat,i<l.length→(eu l).getD i 0≤4
theorem G7 {l:List av} (h:bP l=0):Ra l:=by
 unfold bP at h;cases h1:(decide (16<(l.length:Int))||l.any bigC) with
 | true=>rw [h1] at h; cases h
 | false=>
  rw [h1] at h;cases h2:Q6 l with
  | false=>rw [h2] at h; cases h
  | true=>
   rw [h2] at h;cases h3:(decide (4096<jh l)||(eu l).any (fun n=>decide (4<n))) with
   | true=>rw [h3] at h; cases h
   | false=>
    rw [Bool.or_eq_false_iff] at h1 h3;refine ⟨by have:=of_decide_eq_false h1.1; omega,fun i hi=>DC (jH ay h1.2 i hi),Q7 h2,by have:=of_decide_eq_false h3.1; omega,fun i hi=>?_⟩;have:=jH 0 h3.2 i (by rw [(gG l).1]; exact hi);have:=of_decide_eq_false this;omega
theorem zi {l:List av} {s:List Int} (h:settB l s=true):s.length=l.length∧∀i:Nat,i<l.length→0≤s.getD i 0∧s.getD i 0<(l.getD i ay).Choices.length:=by
 unfold settB at h;rw [Bool.and_eq_true] at h;have hl:s.length=l.length:=by have:=eq_of_beq h.1; omega
 refine ⟨hl,fun i hi=>?_⟩;have:=h.2;rw [List.all_eq_true] at this;have:=this i (List.mem_range.2 (by omega));have:=(within_iff _ _ _).1 this;omega
theorem Rb {c:av} {i:Nat} {k:Int} (hv:iF c i=true) (hk:0≤k∧k<c.Choices.length):L6 c k∧parF c k<i:=by
 have hp:=Aj hv;unfold L6 parF;rcases choicesB_cases (validC_choices hv) with ⟨h1,h2,h3,h4⟩ | ⟨h1,h2,h3,h4⟩ | ⟨h1,h2,h3⟩ | ⟨h1,h2,h3⟩
 ·refine ⟨.inl h1,?_⟩;rw [h1];show (-1:Int)<i;omega
 ·have hn1:(c.Kind==1)=false:=by rcases h1 with h1 | h1<;>rw [h1]<;>rfl
  have hn4:(c.Kind==4)=false:=by rcases h1 with h1 | h1<;>rw [h1]<;>rfl
  refine ⟨.inr (.inr ⟨fun e=>(by rw [e] at hn4; cases hn4),by omega⟩),?_⟩;rw [hn1,hn4];exact (hp _ (eY 0 (by omega))).2
 ·have hm:=h3 _ (eY 0 (i:=k.toNat) (by omega));refine ⟨.inr (.inl ⟨h1,hk.1,hk.2,hm.1,by omega⟩),?_⟩;rw [h1];exact (hp _ (eY 0 (i:=(c.Choices.getD k.toNat 0).toNat) (by omega))).2
 ·refine ⟨.inr (.inr ⟨by rw [h1]; decide,by omega⟩),?_⟩;rw [h1];exact (hp _ (eY 0 (i:=0) (by omega))).2
theorem KV {l:List av} {s:List Int} (h:Ra l) (hs:settB l s=true):Good l s:=by
 obtain ⟨h1,h2⟩:=zi hs;exact ⟨by have:=h.len; omega,h1,h2,fun i hi=>(Rb (h.valid i hi) (h2 i hi)).1,fun i hi=>(Rb (h.valid i hi) (h2 i hi)).2⟩
def yc (l:List av) (s:List Int):List aP×Int:=bif bP l != 0 then ([],bP l) else bif !settB l s then ([],1) else (gZ l s,0)
def YH (r:List aP) (x:bn):Bool:=qE (r.getD x.Clock.toNat bZ)||!nN (r.getD x.Clock.toNat bZ) x.Low x.High
def ownX (r:aP) (c:av):Bool:=((!qE r)&&(c.High != 0))&&!nN r c.Low c.High
def ownB (l:List av) (r:List aP):Bool:=(List.range l.length).all fun i=>!ownX (r.getD i bZ) (l.getD i ay)
def fq (l:List av) (s:List Int) (m:List bn):Bool:=(oK l m&&settB l s)&&(ownB l (gZ l s)&&!m.any (YH (gZ l s)))
theorem Rc {l:List av} {m:List bn} (h:oK l m=true):bP l=0∧m.length≤32∧∀i,i<m.length→G5 l.length (m.getD i cB)=false:=by
 unfold oK at h;rw [Bool.and_eq_true,Bool.and_eq_true] at h;exact ⟨eq_of_beq h.1.1,by have:=of_decide_eq_true h.1.2; omega,fun i hi=>jH cB (by simpa using h.2) i hi⟩
theorem Rf {n:Int} {x:bn} (h:G5 n x=false):(0≤x.Clock∧x.Clock<n)∧0≤x.Low∧x.Low≤x.High∧x.High≤4000000000:=by
 rw [Xl] at h;simp only [Bool.or_eq_false_iff,decide_eq_false_iff_not] at h;omega
def red (a b:Nat):aP:=⟨((a / Nat.gcd a b:Nat):Int),((b / Nat.gcd a b:Nat):Int)⟩
theorem Ez (a b:Nat) (hb:0<b) (ha':a≤144115188075855872) (hb':b≤16777216):validR (red a b)=true:=by
 have g0:0<Nat.gcd a b:=Nat.gcd_pos_of_pos_right a hb;have h1:a / Nat.gcd a b≤a:=Nat.div_le_self _ _;have h2:b / Nat.gcd a b≤b:=Nat.div_le_self _ _;have h3:0<b / Nat.gcd a b:=Nat.div_pos (Nat.le_of_dvd hb (Nat.gcd_dvd_right _ _)) g0;have h4:Nat.gcd (a / Nat.gcd a b) (b / Nat.gcd a b)=1:=by
  rw [Nat.gcd_div (Nat.gcd_dvd_left _ _) (Nat.gcd_dvd_right _ _),Nat.div_self g0]
 unfold validR red fP;simp only [Int.toNat_natCast,h4];generalize a / Nat.gcd a b=n at *;generalize b / Nat.gcd a b=d at *;simp;omega
theorem Rh (a b:Nat) (hb:0<b) (ha':a≤144115188075855872) (hb':b≤16777216):newR a b=(red a b,0):=by
 have hv:=Ez a b hb ha' hb';have e1:fP (a:Int) (b:Int)=(Nat.gcd a b:Nat):=by unfold fP; rw [Int.toNat_natCast,Int.toNat_natCast]
 have e2:(⟨(a:Int).tdiv (fP a b),(b:Int).tdiv (fP a b)⟩:aP)=red a b:=by
  rw [e1,← Int.ofNat_tdiv,← Int.ofNat_tdiv];rfl
 unfold newR;have c:(decide ((a:Int)<0)||decide ((b:Int)<1))=false:=by simp; omega
 rw [c,e2,hv];rfl
theorem Ot (a b:Nat) (hb:0<b):∃g n d:Nat,0<g∧0<d∧g*n=a∧g*d=b∧red a b=⟨n,d⟩∧n≤a∧d≤b:=by
 have g0:0<Nat.gcd a b:=Nat.gcd_pos_of_pos_right a hb;refine ⟨Nat.gcd a b,a / Nat.gcd a b,b / Nat.gcd a b,g0,Nat.div_pos (Nat.le_of_dvd hb (Nat.gcd_dvd_right _ _)) g0,Nat.mul_div_cancel' (Nat.gcd_dvd_left _ _),Nat.mul_div_cancel' (Nat.gcd_dvd_right _ _),rfl,Nat.div_le_self _ _,Nat.div_le_self _ _⟩
theorem Ou {k:Int} (h:1≤k∧k≤64):pO k=true:=by
 unfold pO;simp;omega
theorem Ri (a b:Nat) (k:Int) (hb:0<b) (hk:1≤k∧k≤64) (ha':a≤144115188075855872) (hb':b*k.toNat≤16777216):sQ (red a b) k=(red a (b*k.toNat),0):=by
 have hbk:b≤b*k.toNat:=Nat.le_mul_of_pos_right _ (by omega);have hv:=Ez a b hb ha' (by omega);unfold sQ;rw [hv,Ou hk];simp only [Bool.not_true,cond_false];obtain ⟨g,n,d,g0,d0,e1,e2,e3,_,_⟩:=Ot a b hb;rw [e3];have hkk:k=(k.toNat:Int):=by omega
 have hm:=GZ g n (d*k.toNat) g0 (Nat.mul_pos d0 (by omega));rw [e1,← Nat.mul_assoc,e2] at hm;show newR (n:Int) ((d:Int)*k)=_;rw [hkk,← Int.natCast_mul,← hm,Int.toNat_natCast];exact Rh a (b*k.toNat) (by omega) ha' hb'
theorem Ov (a b:Nat) (k:Int) (hb:0<b) (hk:1≤k∧k≤64) (ha':a*k.toNat≤144115188075855872) (hb':b≤16777216):kQ (red a b) k=(red (a*k.toNat) b,0):=by
 have hak:a≤a*k.toNat:=Nat.le_mul_of_pos_right _ (by omega);have hv:=Ez a b hb (by omega) hb';unfold kQ;rw [hv,Ou hk];simp only [Bool.not_true,cond_false];obtain ⟨g,n,d,g0,d0,e1,e2,e3,e4,e5⟩:=Ot a b hb;rw [e3];obtain ⟨k,rfl⟩:=Int.eq_ofNat_of_zero_le (show 0≤k by omega);have hk0:0<k:=by omega
 have eg:fP ((k:Nat):Int) ((d:Nat):Int)=(Nat.gcd k d:Nat):=by unfold fP; rw [Int.toNat_natCast,Int.toNat_natCast]
 have q0:0<Nat.gcd k d:=Nat.gcd_pos_of_pos_left d hk0;have qk:Nat.gcd k d*(k / Nat.gcd k d)=k:=Nat.mul_div_cancel' (Nat.gcd_dvd_left _ _);have qd:Nat.gcd k d*(d / Nat.gcd k d)=d:=Nat.mul_div_cancel' (Nat.gcd_dvd_right _ _);have qk0:0<k / Nat.gcd k d:=Nat.div_pos (Nat.le_of_dvd hk0 (Nat.gcd_dvd_left _ _)) q0;have qd0:0<d / Nat.gcd k d:=Nat.div_pos (Nat.le_of_dvd d0 (Nat.gcd_dvd_right _ _)) q0;have qkk:k / Nat.gcd k d≤k:=Nat.div_le_self _ _;simp only [Int.toNat_natCast] at ha' ⊢;rw [eg,← Int.ofNat_tdiv,← Int.ofNat_tdiv];have hc:decide ((144115188075855872:Int).tdiv ((k / Nat.gcd k d:Nat):Int)<(n:Int))=false:=by
  apply decide_eq_false;have:n≤144115188075855872 / (k / Nat.gcd k d):=by
   rw [Nat.le_div_iff_mul_le qk0];exact Nat.le_trans (Nat.mul_le_mul e4 qkk) ha'
  have e:(144115188075855872:Int).tdiv ((k / Nat.gcd k d:Nat):Int)=((144115188075855872 / (k / Nat.gcd k d):Nat):Int):=by
   rw [Int.ofNat_tdiv];rfl
  rw [e];omega
 rw [hc];simp only [cond_false];rw [← Int.natCast_mul];have m1:=GZ (Nat.gcd k d) (n*(k / Nat.gcd k d)) (d / Nat.gcd k d) q0 qd0;rw [Nat.mul_left_comm,qk,qd] at m1;have m2:=GZ g (n*k) d g0 d0;rw [← Nat.mul_assoc,e1,e2] at m2;rw [← m1,← m2];exact Rh (a*k) b hb ha' hb'
theorem YI (a:Nat):red a 1=⟨a,1⟩:=by
 unfold red;rw [Nat.gcd_one_right,Nat.div_one,Nat.div_one];rfl
theorem YJ (a b:Nat) (ha:0<a):0<(red a b).Num:=by
 have:0<a / Nat.gcd a b:=Nat.div_pos (Nat.le_of_dvd ha (Nat.gcd_dvd_left _ _)) (Nat.gcd_pos_of_pos_left b ha);show (0:Int)<((a / Nat.gcd a b:Nat):Int);omega
theorem Xm (a b:Nat) (ha:0<a):qE (red a b)=false:=by
 have:=YJ a b ha;unfold qE;have:((red a b).Num==0)=false:=by
  rw [← Bool.not_eq_true];intro e;have:=eq_of_beq e;omega
 rw [this];rfl
theorem Vp (k:Int) (hk:1≤k∧k≤64):kQ EJ k=(EJ,0):=by
 have h:=Ov 0 1 k (by decide) hk (by simp) (by decide);rw [Nat.zero_mul] at h;exact h
theorem Xn (k:Int) (hk:1≤k∧k≤64):sQ EJ k=(EJ,0):=by
 have h:=Ri 0 1 k (by decide) hk (by decide) (by omega);have e:red 0 (1*k.toNat)=EJ:=by
  unfold red EJ;rw [Nat.gcd_zero_left,Nat.zero_div,Nat.one_mul,Nat.div_self (by omega)];rfl
 rw [e] at h;exact h
theorem Ga (l:List av) (s:List Int) (n j:Nat) (h:j<n):(nY l s n).getD j bZ=Nh (nY l s j) (l.getD j ay) (s.getD j 0):=by
 induction n with
 | zero=>omega
 | succ n ih=>
  rw [nY];by_cases hj:j<n
  ·rw [gW _ (by rw [qX]; exact hj)];exact ih hj
  ·have:j=n:=by omega
   subst this;rw [gy _ (qX l s j).symm]
theorem Vq {acc acc':List aP} {c:av} {k:Int} (h:0≤parF c k→acc.getD (parF c k).toNat bZ=acc'.getD (parF c k).toNat bZ):Nh acc c k=Nh acc' c k:=by
 unfold Nh;by_cases hp:parF c k<0
 ·rw [decide_eq_true hp]; rfl
 ·rw [h (by omega)]
theorem Vr {l:List av} {s:List Int} (h:Good l s) (j:Nat) (hj:j<l.length):(gZ l s).getD j bZ=Nh (gZ l s) (l.getD j ay) (s.getD j 0):=by
 unfold gZ;rw [Ga l s l.length j hj];refine Vq fun h0=>?_;have:=h.Parents j hj;rw [Ga l s l.length _ (by omega),Ga l s j _ (by omega)]
theorem Vs (acc:List Int) (l:List Int) (p:Int) (hp:p∈l):acc.getD p.toNat 0≤iU acc l:=by
 have mono:∀(l:List Int) (n:Int),n≤l.foldl (fun n p=>EI n (acc.getD p.toNat 0)) n:=by
  intro l;induction l with
  | nil=>intro n; exact Int.le_refl _
  | cons q r ih=>
   intro n;have:=ih (EI n (acc.getD q.toNat 0));have h2:n≤EI n (acc.getD q.toNat 0):=by unfold EI; split<;>omega
   exact Int.le_trans h2 this
 have key:∀(l:List Int) (n:Int),p∈l→acc.getD p.toNat 0≤l.foldl (fun n p=>EI n (acc.getD p.toNat 0)) n:=by
  intro l;induction l with
  | nil=>intro n h; cases h
  | cons q r ih=>
   intro n h;rcases List.mem_cons.1 h with rfl | h
   ·have:=mono r (EI n (acc.getD p.toNat 0));have h2:acc.getD p.toNat 0≤EI n (acc.getD p.toNat 0):=by unfold EI; split<;>omega
    exact Int.le_trans h2 this
   ·exact ih _ h
 exact key l 0 hp
theorem YK {l:List av} (hp:Uv l) (j:Nat) (hj:j<l.length):∀p∈(l.getD j ay).Parents,(eu l).getD p.toNat 0+(bif F7 (l.getD j ay) then 1 else 0)≤(eu l).getD j 0:=by
 intro p hpm;have hpj:=(hp j hj).2 p hpm;have e1:(eu l).getD j 0=Ah (eu (l.take j)) (l.getD j ay):=by
  rw [IZ l (j+1) j (by omega) hj,gJ ay hj,vI,gy _ (by rw [(gG _).1,take_len (by omega)])]
 have e2:(eu l).getD p.toNat 0=(eu (l.take j)).getD p.toNat 0:=IZ l j p.toNat (by omega) (by omega);have:=Vs (eu (l.take j)) (l.getD j ay).Parents p hpm;rw [e1,e2];unfold Ah;cases F7 (l.getD j ay)<;>simp only [cond_true,cond_false]<;>omega
structure Made (l:List av):Prop where
 ok:bP l=0
 pos:1≤l.length
 fix:∀i,i<l.length→(l.getD i ay).Kind=1→(l.getD i ay).Choices.getD 0 0≤24000000
structure Kh (F a b:Nat) (f:Int):Prop where
 a0:0<a
 b0:0<b
 f0:0≤f
 al:a≤F*64 ^ f.toNat
 bl:b≤64 ^ f.toNat
theorem YL {f:Int} (h:f≤4):64 ^ f.toNat≤16777216:=by
 have:f.toNat≤4:=by omega
 calc 64 ^ f.toNat≤64 ^ 4:=Nat.pow_le_pow_right (by decide) this
  _=16777216:=by decide
theorem Kh.mono {F a b:Nat} {f g:Int} (h:Kh F a b f) (hfg:f≤g):Kh F a b g:=by
 have hf:=h.f0;have:64 ^ f.toNat≤64 ^ g.toNat:=Nat.pow_le_pow_right (by decide) (by omega);exact ⟨h.a0,h.b0,by omega,Nat.le_trans h.al (Nat.mul_le_mul_left _ this),Nat.le_trans h.bl this⟩
theorem Kh.times {F a b:Nat} {f g:Int} (h:Kh F a b f) (hfg:f+1≤g) {k:Nat} (hk:1≤k∧k≤64):Kh F (a*k) b g:=by
 have hf:=h.f0;have:64 ^ f.toNat*64≤64 ^ g.toNat:=by
  rw [← Nat.pow_succ];exact Nat.pow_le_pow_right (by decide) (by omega)
 refine ⟨Nat.mul_pos h.a0 (by omega),h.b0,by omega,?_,?_⟩
 ·calc a*k≤(F*64 ^ f.toNat)*64:=Nat.mul_le_mul h.al hk.2
   _=F*(64 ^ f.toNat*64):=Nat.mul_assoc _ _ _
   _≤F*64 ^ g.toNat:=Nat.mul_le_mul_left _ this
 ·exact Nat.le_trans h.bl (Nat.le_trans (Nat.le_mul_of_pos_right _ (by decide)) this)
theorem Kh.over {F a b:Nat} {f g:Int} (h:Kh F a b f) (hfg:f+1≤g) {k:Nat} (hk:1≤k∧k≤64):Kh F a (b*k) g:=by
 have hf:=h.f0;have h1:64 ^ f.toNat*64≤64 ^ g.toNat:=by
  rw [← Nat.pow_succ];exact Nat.pow_le_pow_right (by decide) (by omega)
 have h2:64 ^ f.toNat≤64 ^ g.toNat:=Nat.pow_le_pow_right (by decide) (by omega);exact ⟨h.a0,Nat.mul_pos h.b0 (by omega),by omega,Nat.le_trans h.al (Nat.mul_le_mul_left _ h2),Nat.le_trans (Nat.mul_le_mul h.bl hk.2) h1⟩
theorem Kh.small {F a b:Nat} {f:Int} (h:Kh F a b f) (hf:f≤4) (hF:F≤4294967296):a≤F*16777216∧a≤144115188075855872∧b≤16777216:=by
 have hp:=YL hf;have h1:=Nat.le_trans h.al (Nat.mul_le_mul_left F hp);exact ⟨h1,Nat.le_trans h1 (Nat.le_trans (Nat.mul_le_mul_right 16777216 hF) (by decide)),Nat.le_trans h.bl hp⟩
def zK (c:av) (k:Int):Int:=c.Choices.getD k.toNat 0
def RX (acc:List aP) (c:av) (k:Int):aP:=acc.getD (parF c k).toNat bZ
structure Step (c:av) (i:Nat) (k:Int):Prop where
 p0:0≤parF c k
 pi:parF c k<i
 mem:parF c k∈c.Parents
 n1:c.Kind≠1
theorem PD {c:av} {i:Nat} {k:Int} (hv:iF c i=true) (hk:0≤k∧k<c.Choices.length) (hn:c.Kind≠1):Step c i k:=by
 have hp:=Aj hv;have key:parF c k∈c.Parents:=by
  unfold parF;rcases choicesB_cases (validC_choices hv) with ⟨h1,h2,h3,h4⟩ | ⟨h1,h2,h3,h4⟩ | ⟨h1,h2,h3⟩ | ⟨h1,h2,h3⟩
  ·exact absurd h1 hn
  ·have hn1:(c.Kind==1)=false:=by rcases h1 with h1 | h1<;>rw [h1]<;>rfl
   have hn4:(c.Kind==4)=false:=by rcases h1 with h1 | h1<;>rw [h1]<;>rfl
   rw [hn1,hn4];exact eY 0 (by omega)
  ·have hm:=h3 _ (eY 0 (i:=k.toNat) (by omega));rw [h1];exact eY 0 (i:=(c.Choices.getD k.toNat 0).toNat) (by omega)
  ·rw [h1];exact eY 0 (i:=0) (by omega)
 have:=hp _ key;exact ⟨this.1,this.2,key,hn⟩
theorem YM {c:av} {i:Nat} {k:Int} (hv:iF c i=true) (hk:0≤k∧k<c.Choices.length) (h:c.Kind=1) (acc:List aP):zK c k=c.Choices.getD 0 0∧1≤zK c k∧zK c k≤4000000000∧Nh acc c k=⟨zK c k,1⟩∧parF c k = -1:=by
 rcases choicesB_cases (validC_choices hv) with ⟨h1,h2,h3,h4⟩ | ⟨h1,h2,h3,h4⟩ | ⟨h1,h2,h3⟩ | ⟨h1,h2,h3⟩
 ·have e:zK c k=c.Choices.getD 0 0:=by unfold zK; rw [show k.toNat=0 by omega]
  have hp:parF c k = -1:=by unfold parF; rw [h]; rfl
  refine ⟨e,by omega,by omega,?_,hp⟩;unfold Nh;rw [hp];rfl
 ·rcases h1 with h1 | h1<;>omega
 ·omega
 ·omega
theorem rt1_step {c:av} {i:Nat} {k:Int} (hv:iF c i=true) (hk:0≤k∧k<c.Choices.length) (hn:c.Kind≠1) (acc:List aP):
  ((qE (RX acc c k)=true∨(c.Kind=5∧zK c k=0))∧Nh acc c k=EJ)∨
  (qE (RX acc c k)=false∧((c.Kind=2∧F7 c=true∧(1≤zK c k∧zK c k≤64)∧Nh acc c k=(sQ (RX acc c k) (zK c k)).1)∨
    (c.Kind=3∧F7 c=true∧(1≤zK c k∧zK c k≤64)∧Nh acc c k=(kQ (RX acc c k) (zK c k)).1)∨
    ((c.Kind=4∨(c.Kind=5∧zK c k=1))∧F7 c=false∧Nh acc c k=RX acc c k))):=by
 have hs:=PD hv hk hn;have hp:decide (parF c k<0)=false:=decide_eq_false (by have:=hs.p0; omega);have e0:Nh acc c k=bif qE (RX acc c k)||((c.Kind==5)&&(zK c k==0)) then EJ else bif c.Kind==2 then (sQ (RX acc c k) (zK c k)).1 else bif c.Kind==3 then (kQ (RX acc c k) (zK c k)).1 else RX acc c k:=by
  unfold Nh;rw [hp];rfl
 have hmem:zK c k∈c.Choices:=eY 0 (by omega);cases ho:qE (RX acc c k) with
 | true=>left; exact ⟨.inl rfl,by rw [e0,ho]; rfl⟩
 | false=>
  rw [ho] at e0;rcases choicesB_cases (validC_choices hv) with ⟨h1,h2,h3,h4⟩ | ⟨h1,h2,h3,h4⟩ | ⟨h1,h2,h3⟩ | ⟨h1,h2,h3⟩
  ·exact absurd h1 hn
  ·right;refine ⟨rfl,?_⟩;rcases h1 with h1 | h1
   ·left;refine ⟨h1,by unfold F7; rw [h1]; rfl,h4 _ hmem,?_⟩;rw [e0,h1];rfl
   ·right; left;refine ⟨h1,by unfold F7; rw [h1]; rfl,h4 _ hmem,?_⟩;rw [e0,h1];rfl
  ·right;refine ⟨rfl,.inr (.inr ⟨.inl h1,by unfold F7; rw [h1]; rfl,?_⟩)⟩;rw [e0,h1];rfl
  ·rw [h3] at hmem;by_cases hc:zK c k=0
   ·left;refine ⟨.inr ⟨h1,hc⟩,?_⟩;rw [e0,h1,hc];rfl
   ·have hc1:zK c k=1:=by simp at hmem; omega
    right;refine ⟨rfl,.inr (.inr ⟨.inr ⟨h1,hc1⟩,by unfold F7; rw [h1]; rfl,?_⟩)⟩;rw [e0,h1,hc1];rfl
theorem Ti {l:List av} (h:Ra l):Uv l:=fun i hi=>⟨by have:=(h.big i hi).1; omega,Aj (h.valid i hi)⟩
def st1 (acc:List aP) (on:List Bool) (c:av) (k:Int):aP×Bool:=
 bif c.Kind==1 then (⟨c.Choices.getD k.toNat 0,1⟩,true) else
 bif c.Kind==2 then ((sQ (acc.getD (parF c k).toNat bZ) (c.Choices.getD k.toNat 0)).1,on.getD (parF c k).toNat false) else
 bif c.Kind==3 then ((kQ (acc.getD (parF c k).toNat bZ) (c.Choices.getD k.toNat 0)).1,on.getD (parF c k).toNat false) else
 bif (c.Kind==5)&&(c.Choices.getD k.toNat 0==0) then (EJ,false) else (acc.getD (parF c k).toNat bZ,on.getD (parF c k).toNat false)
def I5 (l:List av) (s:List Int):Nat→List aP×List Bool
 | 0=>([],[])
 | i+1=>((I5 l s i).1++[(st1 (I5 l s i).1 (I5 l s i).2 (l.getD i ay) (s.getD i 0)).1],(I5 l s i).2++[(st1 (I5 l s i).1 (I5 l s i).2 (l.getD i ay) (s.getD i 0)).2])
def KW (l:List av) (s:List Int):List aP×List Bool:=I5 l s l.length
theorem G8 (l:List av) (s:List Int) (i:Nat):(I5 l s i).1.length=i∧(I5 l s i).2.length=i:=by
 induction i with
 | zero=>exact ⟨rfl,rfl⟩
 | succ i ih=>simp [I5,ih]
def Up (l:List av) (s:List Int):Prop:=∀i:Nat,i<l.length→(l.getD i ay).Kind≠1→0≤parF (l.getD i ay) (s.getD i 0)
theorem Zt {l:List av} {s:List Int} (h:Ra l) (hs:settB l s=true):Up l s:=by
 obtain ⟨_,h2⟩:=zi hs;exact fun i hi hk=>(PD (h.valid i hi) (h2 i hi) hk).p0
theorem PE (l:List av) (s:List Int) (n j:Nat) (h:j<n):(I5 l s n).1.getD j bZ=(st1 (I5 l s j).1 (I5 l s j).2 (l.getD j ay) (s.getD j 0)).1∧(I5 l s n).2.getD j false=(st1 (I5 l s j).1 (I5 l s j).2 (l.getD j ay) (s.getD j 0)).2:=by
 induction n with
 | zero=>omega
 | succ n ih=>
  rw [I5];have hl:=G8 l s n;by_cases hj:j<n
  ·rw [gW _ (by omega),gW _ (by omega)];exact ih hj
  ·have:j=n:=by omega
   subst this;rw [gy _ hl.1.symm,gy _ hl.2.symm];exact ⟨rfl,rfl⟩
theorem Vt {acc acc':List aP} {on on':List Bool} {c:av} {k:Int} (h:c.Kind≠1→acc.getD (parF c k).toNat bZ=acc'.getD (parF c k).toNat bZ∧on.getD (parF c k).toNat false=on'.getD (parF c k).toNat false):st1 acc on c k=st1 acc' on' c k:=by
 unfold st1;cases hk:c.Kind==1 with
 | true=>rfl
 | false=>
  obtain ⟨h1,h2⟩:=h (fun e=>by rw [e] at hk; cases hk);rw [h1,h2]
theorem ZV {l:List av} {s:List Int} (h:Good l s) (hu:Up l s) (j:Nat) (hj:j<l.length):((KW l s).1.getD j bZ,(KW l s).2.getD j false)=st1 (KW l s).1 (KW l s).2 (l.getD j ay) (s.getD j 0):=by
 unfold KW;obtain ⟨e1,e2⟩:=PE l s l.length j hj;rw [e1,e2];show st1 _ _ _ _=_;refine Vt fun hk=>?_;have h1:=h.Parents j hj;have h2:=hu j hj hk;obtain ⟨a1,a2⟩:=PE l s l.length (parF (l.getD j ay) (s.getD j 0)).toNat (by omega);obtain ⟨b1,b2⟩:=PE l s j (parF (l.getD j ay) (s.getD j 0)).toNat (by omega);exact ⟨b1.trans a1.symm,b2.trans a2.symm⟩
theorem Xo {c:av} (hn:c.Kind≠1) (acc:List aP) (on:List Bool) (k:Int):
  (c.Kind=2→st1 acc on c k=((sQ (RX acc c k) (zK c k)).1,on.getD (parF c k).toNat false))∧
  (c.Kind=3→st1 acc on c k=((kQ (RX acc c k) (zK c k)).1,on.getD (parF c k).toNat false))∧
  (c.Kind=5→zK c k=0→st1 acc on c k=(EJ,false))∧
  ((c.Kind=4∨(c.Kind=5∧zK c k=1))→st1 acc on c k=(RX acc c k,on.getD (parF c k).toNat false)):=by
 have hk:(c.Kind==1)=false:=by
  cases h:c.Kind==1 with
  | false=>rfl
  | true=>exact absurd (eq_of_beq h) hn
 refine ⟨fun h=>?_,fun h=>?_,fun h h0=>?_,fun h=>?_⟩
 ·unfold st1; rw [h]; rfl
 ·unfold st1; rw [h]; rfl
 ·unfold st1; rw [show c.Choices.getD k.toNat 0=zK c k from rfl,h,h0]; rfl
 ·rcases h with h | ⟨h,h1⟩
  ·unfold st1; rw [h]; rfl
  ·unfold st1; rw [show c.Choices.getD k.toNat 0=zK c k from rfl,h,h1]; rfl
theorem kinds_of {c:av} {i:Nat} {k:Int} (hv:iF c i=true) (hk:0≤k∧k<c.Choices.length) (hn:c.Kind≠1):(c.Kind=2∧1≤zK c k∧zK c k≤64)∨(c.Kind=3∧1≤zK c k∧zK c k≤64)∨c.Kind=4∨(c.Kind=5∧zK c k=k∧(k=0∨k=1)):=by
 have hmem:zK c k∈c.Choices:=eY 0 (by omega);rcases choicesB_cases (validC_choices hv) with ⟨h1,h2,h3,h4⟩ | ⟨h1,h2,h3,h4⟩ | ⟨h1,h2,h3⟩ | ⟨h1,h2,h3⟩
 ·exact absurd h1 hn
 ·rcases h1 with h1 | h1
  ·exact .inl ⟨h1,h4 _ hmem⟩
  ·exact .inr (.inl ⟨h1,h4 _ hmem⟩)
 ·exact .inr (.inr (.inl h1))
 ·rw [h3] at hk;have hk2:k=0∨k=1:=by simp at hk; omega
  refine .inr (.inr (.inr ⟨h1,?_,hk2⟩));unfold zK;rw [h3];rcases hk2 with rfl | rfl<;>rfl
theorem Xp (l:List av):∀j:Nat,0≤(eu l).getD j 0:=fun j=>((gG l).2 j).1
theorem st_rates {l:List av} {s:List Int} (hf:Ra l) (hs:settB l s=true):∀j,j<l.length→
  ((gZ l s).getD j bZ=EJ∧(KW l s).1.getD j bZ=EJ∧(KW l s).2.getD j false=false)∨
  ∃a b,Kh 4000000000 a b ((eu l).getD j 0)∧(gZ l s).getD j bZ=red a b∧(KW l s).1.getD j bZ=red a b∧(KW l s).2.getD j false=true:=by
 have hg:=KV hf hs;have hu:=Zt hf hs;obtain ⟨_,hset⟩:=zi hs;have hfac:=fun j hj=>YK (Ti hf) j hj;have hfb:=Xp l;generalize hA:gZ l s=A;generalize hB:KW l s=B;intro j;induction j using Nat.strongRecOn with
 | ind j ih=>
  intro hj;have eA:=Vr hg j hj;have eB:=ZV hg hu j hj;rw [hA] at eA;rw [hB] at eB;have hv:=hf.valid j hj;have hk:=hset j hj;have hfj:=hf.eu j hj;have hfacj:=hfac j hj;generalize l.getD j ay=c at *;generalize s.getD j 0=k at *;by_cases hk1:c.Kind=1
  ·right;obtain ⟨e1,e2,e3,e4,_⟩:=YM hv hk hk1 A;have eB1:st1 B.1 B.2 c k=(⟨zK c k,1⟩,true):=by unfold st1; rw [hk1]; rfl
   rw [eB1] at eB;have hb:=hfb j;have er:(⟨zK c k,1⟩:aP)=red (zK c k).toNat 1:=by
    rw [YI];congr 1;omega
   refine ⟨(zK c k).toNat,1,⟨by omega,by decide,by omega,?_,Nat.pow_pos (by decide)⟩,?_,?_,?_⟩
   ·exact Nat.le_trans (show (zK c k).toNat≤4000000000 by omega) (Nat.le_mul_of_pos_right _ (Nat.pow_pos (by decide)))
   ·rw [eA,e4,er]
   ·rw [← er]; exact congrArg Prod.fst eB
   ·exact congrArg Prod.snd eB
  ·have hst:=PD hv hk hk1;have hpl:(parF c k).toNat<l.length:=by have:=hst.p0; have:=hst.pi; omega
   have hpf:=hfacj _ hst.mem;have ihp:=ih (parF c k).toNat (by have:=hst.p0; have:=hst.pi; omega) hpl;have uA:A.getD (parF c k).toNat bZ=RX A c k:=rfl;have uB:B.1.getD (parF c k).toNat bZ=RX B.1 c k:=rfl;rw [uA,uB] at ihp;obtain ⟨q2,q3,q50,q4⟩:=Xo hk1 B.1 B.2 k;have hn:∀n:Int,1≤n∧n≤64→1≤n.toNat∧n.toNat≤64:=fun n hn=>by omega
   rcases ihp with ⟨i1,i2,i3⟩ | ⟨a,b,i0,i1,i2,i3⟩
   ·left;have hA0:Nh A c k=EJ:=by
     rcases rt1_step hv hk hk1 A with ⟨_,q⟩ | ⟨q,_⟩
     ·exact q
     ·rw [i1] at q; cases q
    rw [i2,i3] at q2 q3 q4;have hB0:st1 B.1 B.2 c k=(EJ,false):=by
     rcases kinds_of hv hk hk1 with ⟨h,h1⟩ | ⟨h,h1⟩ | h | ⟨h,h1,h2⟩
     ·rw [q2 h,Xn _ h1]
     ·rw [q3 h,Vp _ h1]
     ·exact q4 (.inl h)
     ·rcases h2 with h2 | h2
      ·exact q50 h (by omega)
      ·exact q4 (.inr ⟨h,by omega⟩)
    rw [hB0] at eB;exact ⟨by rw [eA,hA0],congrArg Prod.fst eB,congrArg Prod.snd eB⟩
   ·have oA:qE (RX A c k)=false:=by rw [i1]; exact Xm a b i0.a0
    rw [i2,i3] at q2 q3 q4;rcases rt1_step hv hk hk1 A with ⟨q0,q⟩ | ⟨_,q⟩
    ·left;rw [oA] at q0;rcases q0 with q0 | ⟨q0,q1⟩
     ·cases q0
     ·rw [q50 q0 q1] at eB;exact ⟨by rw [eA,q],congrArg Prod.fst eB,congrArg Prod.snd eB⟩
    ·right;rcases q with ⟨r1,r2,r3,r4⟩ | ⟨r1,r2,r3,r4⟩ | ⟨r1,r2,r3⟩
     ·rw [r2] at hpf;have hnew:=i0.over hpf (hn _ r3);have hs2:=hnew.small hfj (by decide);have eo:=Ri a b _ i0.b0 r3 hs2.2.1 hs2.2.2;rw [q2 r1,eo] at eB;exact ⟨a,b*(zK c k).toNat,hnew,by rw [eA,r4,i1,eo],congrArg Prod.fst eB,congrArg Prod.snd eB⟩
     ·rw [r2] at hpf;have hnew:=i0.times hpf (hn _ r3);have hs2:=hnew.small hfj (by decide);have eo:=Ov a b _ i0.b0 r3 hs2.2.1 hs2.2.2;rw [q3 r1,eo] at eB;exact ⟨a*(zK c k).toNat,b,hnew,by rw [eA,r4,i1,eo],congrArg Prod.fst eB,congrArg Prod.snd eB⟩
     ·rw [r2] at hpf;rw [q4 r1] at eB;exact ⟨a,b,i0.mono (by simpa using hpf),by rw [eA,r3,i1],congrArg Prod.fst eB,congrArg Prod.snd eB⟩
theorem PG {l:List av} {s:List Int} (hf:Ra l) (hs:settB l s=true) (j:Nat) (hj:j<l.length):(KW l s).1.getD j bZ=(gZ l s).getD j bZ∧(KW l s).2.getD j false=!qE ((gZ l s).getD j bZ)∧validR ((gZ l s).getD j bZ)=true∧(qE ((gZ l s).getD j bZ)=true→(gZ l s).getD j bZ=EJ):=by
 rcases st_rates hf hs j hj with ⟨h1,h2,h3⟩ | ⟨a,b,h0,h1,h2,h3⟩
 ·rw [h1,h2,h3];exact ⟨rfl,rfl,by decide,fun _=>rfl⟩
 ·have hs2:=h0.small (hf.eu j hj) (by decide);rw [h1,h2,h3,Xm a b h0.a0];exact ⟨rfl,rfl,Ez a b h0.b0 hs2.2.1 hs2.2.2,nofun⟩
theorem DK {α:Type} {l m:List α} (d:α) (h:l.length=m.length) (he:∀i,i<l.length→l.getD i d=m.getD i d):l=m:=by
 apply List.ext_getElem h;intro i h1 h2;have:=he i h1;rw [List.getD_eq_getElem?_getD,List.getD_eq_getElem?_getD,List.getElem?_eq_getElem h1,List.getElem?_eq_getElem h2] at this;simpa using this
structure abh (l:List av) (s w:List Int):Prop where
 chain:∀i,i+1<w.length→(l.getD (w.getD i 0).toNat ay).Kind≠1∧w.getD (i+1) 0=parF (l.getD (w.getD i 0).toNat ay) (s.getD (w.getD i 0).toNat 0)
 last:∀i,i+1=w.length→(l.getD (w.getD i 0).toNat ay).Kind=1
end Go.Proofs.YtfblhejmclcdmaaGreatDoor


namespace Go.Proofs.YtfblhejmclcdmaaGreatDoor
open Go.Ab
set_option maxRecDepth 100000
theorem gI (n lo hi:Int):gB n lo hi (withinF n lo hi):=rfl
theorem PI {l:List av} (hl:l.length≤1000000):iL l (l.any bigC):=
 Fy (GX (p:=xW) (P:=bigC) (fun _ _=>rfl) (by omega)) (nD _ _)
theorem Ki {p a:Int} (ha : -1000000≤a∧a≤1000000):rP p a (!withinF p 0 (a - 1)):=
 jR (bU (by unfold InI64; omega) (aC (CJ (gI _ _ _)) fun v hv=>by subst hv; exact ak rfl))
theorem PK {l:List Int} {a:Int} (ha : -1000000≤a∧a≤1000000) (hl:l.length≤1000000):jT l a (l.any fun y=>!withinF y 0 (a - 1)):=
 Fy (GX (p:=fun x=>rP x a) (P:=fun y=>!withinF y 0 (a - 1)) (fun _ _=>Ki ha) (by omega)) (nD _ _)
theorem L8 {l:List Int} {v:Int} (hl:l.length≤1000000):slices_Contains_int l v (l.contains v):=by
 refine Fy (ZT (P:=fun x=>v==x) (by omega)) ?_;rw [nD];exact (List.contains_eq_any_beq).symm
theorem pR {l:List Int} {lo hi:Int} (hl:l.length≤1000000):jr l lo hi (pK lo hi [] l):=by
 refine jR (Xj l.length (fun i=>pK lo hi (l.take i) (l.drop i)=pK lo hi [] l) ?_ rfl);intro self i hi1 hi2 ih;refine aF (fun c=>?_) (fun c=>?_)
 ·have c:=of_decide_eq_true c;have hlt:i<l.length:=by omega
  rw [drop_cons 0 hlt] at hi2;refine bU (by omega) ?_;refine aC (CJ (gI _ _ _)) fun v hv=>?_;subst hv;refine bU (fun _=>by omega) ?_;refine aC (d9 fun _=>L8 (by simp; omega)) fun v hv=>?_;subst hv;refine aF (fun c2=>?_) (fun c2=>?_)
  ·refine ak ?_;rw [← hi2,KU (pre:=l.take i) (n:=l.getD i 0) c2]
  ·refine bU (by unfold InI64; omega) (ih hlt ?_);rw [← hi2,Pz (pre:=l.take i) (n:=l.getD i 0) c2,gJ 0 hlt]
 ·have c:=of_decide_eq_false c;refine ak ?_;rw [← hi2,List.drop_eq_nil_of_le (by omega)];rfl
theorem Gb {a b:List Int} (hl:a.length≤1000000):slices_Equal_int a b (a==b):=by
 refine jR (aF (fun c=>?_) (fun c=>?_))
 ·refine ak ?_;have:a≠b:=fun h=>by subst h; simp at c
  exact (beq_eq_false_iff_ne.2 this).symm
 ·have hlen:a.length=b.length:=by simp at c; omega
  refine Xj a.length (fun i=>(a==b)=(a.drop i==b.drop i)) ?_ rfl;intro self i hi1 hi2 ih;refine aF (fun c=>?_) (fun c=>?_)
  ·have c:=of_decide_eq_true c;have hlt:i<a.length:=by omega
   rw [drop_cons 0 hlt,drop_cons 0 (show i<b.length by omega)] at hi2;refine bU (by omega) (bU (by omega) ?_);refine aF (fun c2=>?_) (fun c2=>?_)
   ·refine ak ?_;rw [hi2];simp at c2;simp [c2]
   ·refine bU (by unfold InI64; omega) (ih hlt ?_);rw [hi2];simp at c2;simp [c2]
  ·have c:=of_decide_eq_false c;refine ak ?_;rw [hi2,List.drop_eq_nil_of_le (by omega),List.drop_eq_nil_of_le (by omega)];rfl
theorem Ni {c:av} {k:Int} (hk : -1000000≤k∧k≤1000000) (hp:c.Parents.length≤1000000) (hc:c.Choices.length≤1000000):CP c k (iF c k):=by
 refine jR ?_;refine aC (CJ (PK hk hp)) fun v1 hv=>?_;subst hv;refine aC (d9 fun _=>gI c.High 0 4000000000) fun v hv=>?_;subst hv;refine aC (d9 fun _=>gI c.Low 0 c.High) fun v hv=>?_;subst hv;refine aF (fun h=>?_) (fun h=>?_)
 ·refine ak ?_;unfold iF;rw [h];rfl
 ·have hv:iF c k=eO c:=by unfold iF; rw [h]; rfl
  rw [hv];refine aF (fun k1=>?_) (fun k1=>?_)
  ·refine bU (fun h=>by simp at h; omega) ?_;refine aC (d9 fun _=>gI (c.Choices.getD 0 0) 1 4000000000) fun v hv=>?_;subst hv;refine ak ?_;unfold eO;rw [k1];rfl
  ·refine aF (fun k2=>?_) (fun k2=>?_)
   ·rw [k2];refine aC (d9 fun _=>pR hc) fun v hv=>?_;subst hv;refine ak ?_;unfold eO;rw [k1,k2];rfl
   ·refine aF (fun k3=>?_) (fun k3=>?_)
    ·refine aC (d9 fun _=>pR hc) fun v hv=>?_;subst hv;refine ak ?_;unfold eO;rw [k1,k2,k3];rfl
    ·refine aF (fun k4=>?_) (fun k4=>?_)
     ·refine bU (fun _=>by unfold InI64; omega) ?_;refine aC (d9 fun _=>pR hc) fun v hv=>?_;subst hv;refine ak ?_;unfold eO;rw [k1,k2,k3,k4];rfl
     ·refine aF (fun k5=>?_) (fun k5=>?_)
      ·refine aF (fun h1=>?_) (fun h1=>?_)
       ·refine aC (d9 fun _=>Gb hc) fun v hv=>?_;subst hv;refine ak ?_;unfold eO;rw [k1,k2,k3,k4,k5];rfl
       ·refine ak ?_;unfold eO;rw [k1,k2,k3,k4,k5];simp at h1;simp [h1]
      ·refine ak ?_;unfold eO;rw [k1,k2,k3,k4,k5];rfl
end Go.Proofs.YtfblhejmclcdmaaGreatDoor

namespace Go.Proofs.YtfblhejmclcdmaaGreatDoor
open Go.Ab
set_option maxRecDepth 100000
theorem set_mid {α:Type} (a:List α) (x y:α) (z:List α):(a++x::z).set a.length y=a++y::z:=by
 rw [List.set_append_right _ _ (Nat.le_refl _),Nat.sub_self];rfl
theorem yg {l:List av} (hl:l.length≤1000000):sw l (bP l):=by
 refine jR ?_;refine aC (d9 fun _=>PI hl) fun v hv=>?_;subst hv;refine aF (fun h=>?_) (fun h=>?_)
 ·refine ak ?_;unfold bP;rw [h];rfl
 ·have hb3:(decide (16<(l.length:Int))||l.any bigC)=false:=h;have h16:l.length≤16:=by simp at hb3; omega
  have hbig:∀i:Nat,i<l.length→bigC (l.getD i ay)=false:=jH ay (by simp only [Bool.or_eq_false_iff] at hb3; exact hb3.2);refine Xj l.length (fun i=>∀j:Nat,j<i→iF (l.getD j ay) j=true) ?_ (fun j hj=>absurd hj (Nat.not_lt_zero j));intro self i hi1 hi2 ih;refine aF (fun h2=>?_) (fun h2=>?_)
  ·have hlt:i<l.length:=by have:=of_decide_eq_true h2; omega
   have hbl:=DC (hbig i hlt);refine bU (by omega) ?_;refine aC (CJ (Ni (c:=l.getD i ay) (k:=i) (by omega) (by omega) (by omega))) fun v hv=>?_;subst hv;refine aF (fun h3=>?_) (fun h3=>?_)
   ·refine ak ?_;unfold bP;rw [hb3,F8 hlt (by simpa using h3)];rfl
   ·refine bU (by unfold InI64; omega) (ih hlt fun j hj=>?_);by_cases hji:j=i
    ·subst hji; simpa using h3
    ·exact hi2 j (by omega)
  ·have hil:i=l.length:=by have:=of_decide_eq_false h2; omega
   subst hil;have hall:=Oo hi2;refine bU ⟨by omega,by show (l.length:Int)*8≤140737488355328; omega⟩ ?_;refine aW (fun g:Int×Int×List Int=>∃i:Nat,g=(jh (l.take i),(i:Int),eu (l.take i)++List.replicate (l.length - i) 0)∧i≤l.length∧jh (l.take i)≤4096∧∀j:Nat,j<i→(fun n=>decide (4<n)) ((eu l).getD j 0)=false) (fun g=>(l.length - g.2.1).toNat) ?_ ⟨0,rfl,by omega,by rw [List.take_zero]; decide,fun j hj=>absurd hj (Nat.not_lt_zero j)⟩;rintro self2 g ⟨i,rfl,hj1,hj2,hj3⟩ ih2;refine aF (fun h3=>?_) (fun h3=>?_)
   ·have hlt:i<l.length:=by have:(i:Int)<(l.length:Int):=of_decide_eq_true h3; omega
    refine bU (by show 0≤(i:Int)∧(i:Int)<(l.length:Int); omega) ?_;obtain ⟨hfl,hb⟩:=gG (l.take i);rw [take_len hj1] at hfl hb;have hpi:=(Q9 hi2 hbig) i hlt;have hsn:eu (l.take (i+1))=eu (l.take i)++[Ah (eu (l.take i)) (l.getD i ay)]:=by rw [gJ ay hlt,vI]
    have hpm:=Ai (eu (l.take i)) i (by omega) hb;have hrep:List.replicate (l.length - i) (0:Int)=0::List.replicate (l.length - i - 1) 0:=by
     rw [show l.length - i=(l.length - i - 1)+1 by omega];rfl
    have hcut:W (nK l (jh (l.take i),(i:Int),eu (l.take i)++List.replicate (l.length - i) 0) self2 (eu (l.take i)++Ah (eu (l.take i)) (l.getD i ay)::List.replicate (l.length - i - 1) 0)) (fun r=>r=bP l):=by
     have hbl:=DC (hbig i hlt);have hpb:=DF (l.take i);have hpmul:0≤jh (l.take i)*((l.getD i ay).Choices.length:Int)∧jh (l.take i)*((l.getD i ay).Choices.length:Int)≤4096*8:=⟨Int.mul_nonneg hpb.1 (by omega),Int.mul_le_mul hj2 (by omega) (by omega) (by omega)⟩;have hpe:jh (l.take (i+1))=jh (l.take i)*((l.getD i ay).Choices.length:Int):=by
      rw [gJ ay hlt,F9];unfold Kg;rw [if_neg (by omega)]
     have hfi:(eu l).getD i 0=Ah (eu (l.take i)) (l.getD i ay):=by
      rw [IZ l (i+1) i (by omega) hlt,hsn,gy 0 hfl.symm]
     refine bU (by show InI64 (jh (l.take i)*((l.getD i ay).Choices.length:Int)); unfold InI64; omega) ?_;refine bU (fun _=>by simp [hfl]; omega) ?_;refine aF (fun h5=>?_) (fun h5=>?_)
     ·have h5:(decide (4096<jh (l.take i)*((l.getD i ay).Choices.length:Int))||decide (4<(eu (l.take i)++Ah (eu (l.take i)) (l.getD i ay)::List.replicate (l.length - i - 1) 0).getD i 0))=true:=h5;rw [gy 0 hfl.symm,← hfi,← hpe] at h5;refine ak ?_;unfold bP;rw [hb3,hall];have:(decide (4096<jh l)||(eu l).any (fun n=>decide (4<n)))=true:=by
       rw [Bool.or_eq_true] at h5 ⊢;rcases h5 with h5 | h5
       ·left;have h5:=of_decide_eq_true h5;have hm:=Tg l (fun c hc=>by
         obtain ⟨k,hk,rfl⟩:=List.mem_iff_getElem.1 hc;have:=DJ (validC_choices (hi2 k hk));rwa [List.getD_eq_getElem?_getD,List.getElem?_eq_getElem hk] at this) (i+1)
        exact decide_eq_true (by omega)
       ·right;exact pQ (p:=fun n=>decide (4<n)) 0 (by rw [(gG l).1]; exact hlt) h5
      rw [this];rfl
     ·have h5:(decide (4096<jh (l.take i)*((l.getD i ay).Choices.length:Int))||decide (4<(eu (l.take i)++Ah (eu (l.take i)) (l.getD i ay)::List.replicate (l.length - i - 1) 0).getD i 0))=false:=h5;rw [gy 0 hfl.symm,← hfi,← hpe] at h5;rw [Bool.or_eq_false_iff] at h5;refine bU (by show InI64 ((i:Int)+1); unfold InI64; omega) ?_;refine ih2 _ ⟨i+1,?_,hlt,by have:=of_decide_eq_false h5.1; omega,fun j hj=>?_⟩ (by show (l.length - ((i:Int)+1)).toNat<(l.length - (i:Int)).toNat; omega)
      ·rw [hsn,List.append_assoc,show l.length - (i+1)=l.length - i - 1 by omega,hpe];rfl
      ·by_cases hji:j=i
       ·subst hji; exact h5.2
       ·exact hj3 j (by omega)
    refine aW (fun g:Int×List Int=>∃j:Nat,g=((j:Int),eu (l.take i)++iU (eu (l.take i)) ((l.getD i ay).Parents.take j)::List.replicate (l.length - i - 1) 0)∧j≤(l.getD i ay).Parents.length) (fun g=>((l.getD i ay).Parents.length - g.1).toNat) ?_ ⟨0,by rw [hrep]; rfl,Nat.zero_le _⟩;rintro self7 g ⟨j,rfl,hj⟩ ih7;refine aF (fun h4=>?_) (fun h4=>?_)
    ·have hjl:j<(l.getD i ay).Parents.length:=by have:(j:Int)<((l.getD i ay).Parents.length:Int):=of_decide_eq_true h4; omega
     have hin:=hpi.2 ((l.getD i ay).Parents.getD j 0) (eY 0 hjl);refine bU (by show 0≤(j:Int)∧(j:Int)<((l.getD i ay).Parents.length:Int); omega) ?_;refine bU (by show 0≤(i:Int)∧(i:Int)<(((eu (l.take i)++iU (eu (l.take i)) ((l.getD i ay).Parents.take j)::List.replicate (l.length - i - 1) 0).length:Nat):Int); simp [hfl]; omega) ?_;refine bU (by show 0≤(l.getD i ay).Parents.getD j 0∧(l.getD i ay).Parents.getD j 0<(((eu (l.take i)++iU (eu (l.take i)) ((l.getD i ay).Parents.take j)::List.replicate (l.length - i - 1) 0).length:Nat):Int); rw [List.length_append,hfl,List.length_cons]; omega) ?_;refine bU (by show 0≤(i:Int)∧(i:Int)<(((eu (l.take i)++iU (eu (l.take i)) ((l.getD i ay).Parents.take j)::List.replicate (l.length - i - 1) 0).length:Nat):Int); simp [hfl]; omega) ?_;refine bU (by show InI64 ((j:Int)+1); unfold InI64; have:=hpi.1; omega) ?_;refine ih7 _ ⟨j+1,?_,hjl⟩ (by show ((l.getD i ay).Parents.length - ((j:Int)+1)).toNat<((l.getD i ay).Parents.length - (j:Int)).toNat; omega);have e:iU (eu (l.take i)) ((l.getD i ay).Parents.take (j+1))=EI ((eu (l.take i)++iU (eu (l.take i)) ((l.getD i ay).Parents.take j)::List.replicate (l.length - i - 1) 0).getD i 0) ((eu (l.take i)++iU (eu (l.take i)) ((l.getD i ay).Parents.take j)::List.replicate (l.length - i - 1) 0).getD ((l.getD i ay).Parents.getD j 0).toNat 0):=by
      rw [gy 0 hfl.symm,gW 0 (by omega)];unfold iU;rw [nT _ _ 0 hjl]
     rw [e];have hs:=set_mid (eu (l.take i)) (iU (eu (l.take i)) ((l.getD i ay).Parents.take j)) (EI ((eu (l.take i)++iU (eu (l.take i)) ((l.getD i ay).Parents.take j)::List.replicate (l.length - i - 1) 0).getD i 0) ((eu (l.take i)++iU (eu (l.take i)) ((l.getD i ay).Parents.take j)::List.replicate (l.length - i - 1) 0).getD ((l.getD i ay).Parents.getD j 0).toNat 0)) (List.replicate (l.length - i - 1) 0);rw [hfl] at hs;rw [← hs];rfl
    ·have hje:j=(l.getD i ay).Parents.length:=by have:¬ (j:Int)<((l.getD i ay).Parents.length:Int):=of_decide_eq_false h4; omega
     subst hje;rw [List.take_length];have hpx:=hpm (l.getD i ay).Parents;refine aF (fun h5=>?_) (fun h5=>?_)
     ·have hlen:0≤(i:Int)∧(i:Int)<(((eu (l.take i)++iU (eu (l.take i)) (l.getD i ay).Parents::List.replicate (l.length - i - 1) 0).length:Nat):Int):=by simp [hfl]; omega
      refine bU hlen ?_;refine bU (by show InI64 ((eu (l.take i)++iU (eu (l.take i)) (l.getD i ay).Parents::List.replicate (l.length - i - 1) 0).getD i 0+1); rw [gy 0 hfl.symm]; unfold InI64; omega) ?_;refine bU hlen ?_;have e:Ah (eu (l.take i)) (l.getD i ay)=(eu (l.take i)++iU (eu (l.take i)) (l.getD i ay).Parents::List.replicate (l.length - i - 1) 0).getD i 0+1:=by
       rw [gy 0 hfl.symm];unfold Ah F7;rw [show ((l.getD i ay).Kind==2||(l.getD i ay).Kind==3)=true from h5];rfl
      have hs:=set_mid (eu (l.take i)) (iU (eu (l.take i)) (l.getD i ay).Parents) (Ah (eu (l.take i)) (l.getD i ay)) (List.replicate (l.length - i - 1) 0);rw [hfl] at hs;rw [← hs,e] at hcut;exact hcut
     ·have e:Ah (eu (l.take i)) (l.getD i ay)=iU (eu (l.take i)) (l.getD i ay).Parents:=by
       unfold Ah F7;rw [show ((l.getD i ay).Kind==2||(l.getD i ay).Kind==3)=false from h5];rfl
      rw [e] at hcut;exact hcut
   ·have hil:i=l.length:=by have:¬ (i:Int)<(l.length:Int):=of_decide_eq_false h3; omega
    subst hil;refine ak ?_;rw [List.take_length] at hj2;unfold bP;rw [hb3,hall,decide_eq_false (show ¬ 4096<jh l by omega),any_none (p:=fun n=>decide (4<n)) 0 (by rw [(gG l).1]; exact hj3)];rfl
end Go.Proofs.YtfblhejmclcdmaaGreatDoor



namespace Go.Proofs.YtfblhejmclcdmaaGreatDoor
open Go.Ab
set_option maxRecDepth 100000
theorem Rj {a b:Int} (ha:0≤a) (hb:0<b):fP b (a.tmod b)=fP a b:=by
 unfold fP;rw [Int.tmod_eq_emod_of_nonneg ha,show (a % b).toNat=a.toNat % b.toNat from Int.toNat_emod ha (by omega),Nat.gcd_comm a.toNat,Nat.gcd_rec b.toNat a.toNat,Nat.gcd_comm]
theorem L9 {x M e:Int} (hM:0≤M) (he:0<e) (hx:0≤x) (h:x≤M.tdiv e):0≤x*e∧x*e≤M:=by
 rw [Int.tdiv_eq_ediv_of_nonneg hM] at h;exact ⟨Int.mul_nonneg hx (by omega),(Int.le_ediv_iff_mul_le he).1 h⟩
theorem I6 {x y X Y:Int} (h1:0≤x) (h2:x≤X) (h3:0≤y) (h4:y≤Y):0≤y*x∧y*x≤Y*X:=
 ⟨Int.mul_nonneg h3 h1,Int.mul_le_mul h4 h2 h1 (by omega)⟩
theorem rU {a_:Int} {b_:Int} (h1:0≤a_) (h2:0≤b_):W (lJ a_ b_) (fun r=>r=fP a_ b_):=by
 unfold lJ;refine aW (fun (g1:(Int×Int))=>0≤g1.1∧0≤g1.2∧fP g1.1 g1.2=fP a_ b_) (fun (g1:(Int×Int))=>g1.2.toNat) ?_ ?_
 ·intro self1 g1 hig1 ihg1;obtain ⟨hg1_1,hg1_2,hg1_3⟩:=hig1;unfold Da;refine aF (fun c1=>?_) (fun c1=>?_)
  ·have c1:=nr c1;refine wn ?_;refine ihg1 _ ?_ ?_
   ·(refine ⟨by exact ob,Int.tmod_nonneg _ (by omega),?_⟩; dsimp only; rw [← hg1_3]; exact Rj (by omega) (by omega))
   ·(dsimp only; have:=Ey g1.1 g1.2 (by omega); have:=Int.tmod_nonneg (a:=g1.1) g1.2 (by omega); omega)
  ·have c1:=nr c1;refine ak ?_;(rw [← hg1_3]; unfold fP; have e:g1.2=0:=c1; rw [e]; simp; omega)
 ·exact ob
theorem vv {r_:aP}:W (nV r_) (fun r=>r=validR r_):=by
 unfold nV;refine aC (d9 fun hc=>jR (rU (by have hc:=nr hc; omega) (by have hc:=nr hc; omega))) fun v1 hv1=>?_;subst hv1;refine ak ?_;rfl
theorem Nj {a00_:Int} {a01_:Int} {a1_:Int} (h1:0≤a00_) (h2:a00_≤144115188075855872) (h3:1≤a01_) (h4:a01_≤16777216) (h5:1≤a1_) (h6:a1_≤64):W (wX a00_ a01_ a1_) (fun r=>r=(a00_.tdiv (fP a00_ a1_),a01_*a1_.tdiv (fP a00_ a1_))):=by
 unfold wX;refine aC (rU ob ob) fun v1 hv1=>?_;subst hv1;have hg:=sP a00_ a1_ (by omega); have q1:=tdiv_le a00_ _ (by omega) hg; have q2:=tdiv_le a1_ _ (by omega) hg; have q3:=I6 q2.1 (show a1_.tdiv (fP a00_ a1_)≤64 by omega) (show 0≤a01_ by omega) h4;refine wn ?_;refine wn ?_;refine wn ?_;refine ak ?_;rfl
theorem Ma {num_:Int} {den_:Int} (h1:num_≤4611686018427387904) (h2:den_≤4611686018427387904):W (Db num_ den_) (fun r=>r=newR num_ den_):=by
 unfold Db;refine aF (fun c1=>?_) (fun c1=>?_)
 ·have c1o:=c1;have c1:=nr c1;refine ak ?_;(unfold newR; rw [c1o]; rfl)
 ·have c1o:=c1;have c1:=nr c1;have hg:=sP num_ den_ (by omega); have q1:=tdiv_le num_ _ (by omega) hg; have q2:=tdiv_le den_ _ (by omega) hg;refine aC (rU ob ob) fun v1 hv1=>?_;subst hv1;refine wn ?_;refine wn ?_;refine aC (vv) fun v2 hv2=>?_;subst hv2;refine aF (fun c2=>?_) (fun c2=>?_)
  ·have c2o:=c2;have c2:=nr c2;refine ak ?_;(unfold newR; rw [c1o]; simp only [cond_false]; rw [c2o]; rfl)
  ·have c2o:=c2;have c2:=nr c2;refine ak ?_;(unfold newR; rw [c1o]; simp only [cond_false]; rw [c2o]; rfl)
theorem Nk {r_:aP} {k_:Int} {scale0_:Int} {scale1_:Int} {scale2_:Int} (h1:r_.Num=scale0_) (h2:r_.Den=scale1_) (h3:k_=scale2_):W (wY r_ k_ scale0_ scale1_ scale2_) (fun r=>r=sQ r_ k_):=by
 subst h1 h2 h3;unfold wY;refine aC (vv) fun v1 hv1=>?_;subst hv1;refine aF (fun c1=>?_) (fun c1=>?_)
 ·have c1o:=c1;have c1:=nr c1;refine ak ?_;(unfold sQ; rw [c1o]; rfl)
 ·have c1o:=c1;have c1:=nr c1;have hv:=kD (r:=r_) (by simpa using c1o);refine aF (fun c2=>?_) (fun c2=>?_)
  ·have c2:=nr c2;refine ak ?_;(unfold sQ pO; rw [c1o]; simp only [cond_false]; rw [show (!(decide (1≤k_)&&decide (k_≤64)))=true by simp; omega]; rfl)
  ·have c2:=nr c2;refine aC (Nj ob ob ob ob ob ob) fun v2 hv2=>?_;subst hv2;have hg:=sP r_.Num k_ (by omega); have q1:=tdiv_le r_.Num _ hv.1 hg; have q2:=tdiv_le k_ _ (by omega) hg; have q3:=I6 q2.1 (show k_.tdiv (fP r_.Num k_)≤64 by omega) (show 0≤r_.Den by omega) hv.2.2.2.1;refine aC (Ma ob ob) fun v3 hv3=>?_;subst hv3;refine ak ?_;(unfold sQ pO; rw [c1o]; simp only [cond_false]; rw [show (!(decide (1≤k_)&&decide (k_≤64)))=false by simp; omega]; exact Vo _ _ _ hv.1 (by omega) (by omega))
theorem Rk {r_:aP} {k_:Int}:W (Ep r_ k_) (fun r=>r=sQ r_ k_):=by
 unfold Ep;refine aC (Nk rfl rfl rfl) fun v1 hv1=>?_;subst hv1;refine ak ?_;rfl
theorem Mc {a0_:Int} {a10_:Int} {a11_:Int} (h1:1≤a0_) (h2:a0_≤64) (h3:0≤a10_) (h4:a10_≤144115188075855872) (h5:1≤a11_) (h6:a11_≤16777216):W (uR a0_ a10_ a11_) (fun r=>r=(bif decide ((144115188075855872:Int).tdiv (a0_.tdiv (fP a0_ a11_))<a10_) then (-1,1) else (a10_*(a0_.tdiv (fP a0_ a11_)),a11_.tdiv (fP a0_ a11_)))):=by
 unfold uR;refine aC (rU ob ob) fun v1 hv1=>?_;subst hv1;have hg:=sP a0_ a11_ (by omega); have q1:=tdiv_le a0_ _ (by omega) hg; have q2:=tdiv_le a11_ _ (by omega) hg; have q4:=ZU a0_ a11_ (by omega) (by omega); have q5:=tdiv_le 144115188075855872 _ (by omega) (show 0<a0_.tdiv (fP a0_ a11_) by omega);refine wn ?_;refine wn ?_;refine aF (fun c1=>?_) (fun c1=>?_)
 ·have c1o:=c1;have c1:=nr c1;refine ak ?_;(rw [c1o]; rfl)
 ·have c1o:=c1;have c1:=nr c1;have q3:=L9 (x:=a10_) (M:=144115188075855872) (e:=a0_.tdiv (fP a0_ a11_)) (by omega) (by omega) (by omega) c1;refine wn ?_;refine wn ?_;refine wn ?_;refine ak ?_;(rw [c1o]; rfl)
theorem I7 {r_:aP} {k_:Int} {scale0_:Int} {scale1_:Int} {scale2_:Int} (h1:k_=scale0_) (h2:r_.Num=scale1_) (h3:r_.Den=scale2_):W (o8 r_ k_ scale0_ scale1_ scale2_) (fun r=>r=kQ r_ k_):=by
 subst h1 h2 h3;unfold o8;refine aC (vv) fun v1 hv1=>?_;subst hv1;refine aF (fun c1=>?_) (fun c1=>?_)
 ·have c1o:=c1;have c1:=nr c1;refine ak ?_;(unfold kQ; rw [c1o]; rfl)
 ·have c1o:=c1;have c1:=nr c1;have hv:=kD (r:=r_) (by simpa using c1o);refine aF (fun c2=>?_) (fun c2=>?_)
  ·have c2:=nr c2;refine ak ?_;(unfold kQ pO; rw [c1o]; simp only [cond_false]; rw [show (!(decide (1≤k_)&&decide (k_≤64)))=true by simp; omega]; rfl)
  ·have c2:=nr c2;refine aC (Mc ob ob ob ob ob ob) fun v2 hv2=>?_;subst hv2;have hg:=sP k_ r_.Den (by omega); have q1:=tdiv_le k_ _ (by omega) hg; have q2:=tdiv_le r_.Den _ (by omega) hg; have q4:=ZU k_ r_.Den (by omega) (by omega); have q3:=I6 (show 0≤k_.tdiv (fP k_ r_.Den) by omega) q4.2 hv.1 hv.2.1; have q6:∀M:Int,M.tdiv (k_.tdiv (fP k_ r_.Den))<r_.Num∨r_.Num≤M.tdiv (k_.tdiv (fP k_ r_.Den)):=fun M=>by omega
   refine aC (Ma (by cases hd:decide ((144115188075855872:Int).tdiv (k_.tdiv (fP k_ r_.Den))<r_.Num) with | true=>(simp only [cond_true]; omega) | false=>(have q7:=L9 (x:=r_.Num) (M:=144115188075855872) (e:=k_.tdiv (fP k_ r_.Den)) (by omega) (by omega) (by omega) (by have:=of_decide_eq_false hd; omega); simp only [cond_false]; omega)) (by cases hd:decide ((144115188075855872:Int).tdiv (k_.tdiv (fP k_ r_.Den))<r_.Num) with | true=>(simp only [cond_true]; omega) | false=>(have q7:=L9 (x:=r_.Num) (M:=144115188075855872) (e:=k_.tdiv (fP k_ r_.Den)) (by omega) (by omega) (by omega) (by have:=of_decide_eq_false hd; omega); simp only [cond_false]; omega))) fun v3 hv3=>?_;subst hv3;refine ak ?_;(unfold kQ pO; rw [c1o]; simp only [cond_false]; rw [show (!(decide (1≤k_)&&decide (k_≤64)))=false by simp; omega]; simp only [cond_false]; cases hd:decide ((144115188075855872:Int).tdiv (k_.tdiv (fP k_ r_.Den))<r_.Num)<;>rfl)
theorem PL {r_:aP} {k_:Int}:W (z8 r_ k_) (fun r=>r=kQ r_ k_):=by
 unfold z8;refine aC (I7 rfl rfl rfl) fun v1 hv1=>?_;subst hv1;refine ak ?_;rfl
theorem Fz {r_:aP} {low_:Int} {high_:Int}:W (sI r_ low_ high_) (fun r=>r=nN r_ low_ high_):=by
 unfold sI;refine aC (vv) fun v1 hv1=>?_;subst hv1;refine aF (fun c1=>?_) (fun c1=>?_)
 ·have c1o:=c1;have c1:=nr c1;refine ak ?_;(unfold nN; rw [show validR r_=false by simpa using c1o]; rfl)
 ·have c1o:=c1;have c1:=nr c1;have hv:=kD (r:=r_) (by simpa using c1o); have q1:=tdiv_le r_.Num r_.Den hv.1 (by omega);refine wn ?_;refine wn ?_;refine ak ?_;(unfold nN; rw [show validR r_=true by simpa using c1o]; rfl)
end Go.Proofs.YtfblhejmclcdmaaGreatDoor

namespace Go.Proofs.YtfblhejmclcdmaaGreatDoor
open Go.Ab
set_option maxRecDepth 100000
theorem Rl {l:List av} {m:List bn} (h:oK l m=true):∀x∈m,G5 l.length x=false:=fun x hx=>by
 obtain ⟨_,_,h1⟩:=Rc h;obtain ⟨i,hi,rfl⟩:=List.mem_iff_getElem.1 hx;have:=h1 i hi;rwa [List.getD_eq_getElem?_getD,List.getElem?_eq_getElem hi] at this
theorem zk {l:List av} {s:List Int} {i:Nat} {v:aP} {L:List aP} (hL:L=nY l s i++List.replicate (l.length - i) bZ) (hi:i<l.length) (e:Nh (nY l s i) (l.getD i ay) (s.getD i 0)=v) {k:Nat} (hk:k=i+1:=by omega):L.set i v=nY l s k++List.replicate (l.length - k) bZ:=by
 subst hk hL;have hrl:=qX l s i;have hrep:List.replicate (l.length - i) bZ=bZ::List.replicate (l.length - (i+1)) bZ:=by
  rw [show l.length - i=(l.length - (i+1))+1 by omega];rfl
 rw [hrep,List.set_append_right _ _ (by omega),hrl,Nat.sub_self,nY,e,List.append_assoc];rfl
theorem I8 {x_:bn} {a1_:(List av)} (h1:a1_.length≤1000000):W (lI x_ a1_) (fun r=>r=G5 a1_.length x_):=by
 unfold lI;refine wn ?_;refine aC (CJ (gI _ _ _)) fun v1 hv1=>?_;subst hv1;refine aC (d9 fun hc=>gI _ _ _) fun v2 hv2=>?_;subst hv2;refine aC (d9 fun hc=>gI _ _ _) fun v3 hv3=>?_;subst hv3;refine ak ?_;rfl
theorem qY {s_:(List bn)} {f_:(List av)} (h1:s_.length≤1000000) (h2:f_.length≤1000000):W (iN s_ f_) (fun r=>r=s_.any (G5 f_.length)):=
 CJ (Fy (GX (p:=fun x=>lI x f_) (P:=G5 f_.length) (fun x hx=>jR (I8 h2)) (by omega)) (nD _ _))
theorem Md {l_:(List av)} {m_:(List bn)} (h1:l_.length≤1000000) (h2:m_.length≤1000000):W (uP l_ m_) (fun r=>r=oK l_ m_):=by
 unfold uP;refine aC (CJ (yg ob)) fun v1 hv1=>?_;subst hv1;refine aC (d9 fun hc=>jR (qY ob ob)) fun v2 hv2=>?_;subst hv2;refine ak ?_;rfl
theorem BD {l_:(List av)} {s_:(List Int)} (h1:l_.length≤1000000) (h2:s_.length≤1000000) (h3:YG l_):W (nk l_ s_) (fun r=>r=settB l_ s_):=by
 unfold nk;refine aF (fun c1=>?_) (fun c1=>?_)
 ·have c1o:=c1;have c1:=nr c1;refine ak ?_;(unfold settB; rw [show ((s_.length:Int)==(l_.length:Int))=false by simpa using c1o]; rfl)
 ·have c1o:=c1;have c1:=nr c1;have he:((s_.length:Int)==(l_.length:Int))=true:=by simpa using c1o
  refine aW (fun (g1:Int)=>0≤g1∧g1≤s_.length∧(∀j:Nat,(j:Int)<g1→withinF (s_.getD j 0) 0 ((l_.getD j ay).Choices.length - 1)=true)) (fun (g1:Int)=>(s_.length - g1).toNat) ?_ ?_
  ·intro self1 g1 hig1 ihg1;obtain ⟨hg1_1,hg1_2,hg1_3⟩:=hig1;unfold yV;refine aF (fun c2=>?_) (fun c2=>?_)
   ·have c2:=nr c2;have hch:=h3 g1.toNat (by omega);refine wn ?_;refine wn ?_;refine wn ?_;refine aC (CJ (gI _ _ _)) fun v3 hv3=>?_;subst hv3;refine aF (fun c3=>?_) (fun c3=>?_)
    ·have c3o:=c3;have c3:=nr c3;refine ak ?_;(unfold settB; rw [he,wz (i:=g1.toNat) (by omega) (by simpa using c3o)]; rfl)
    ·have c3o:=c3;have c3:=nr c3;refine wn ?_;refine ihg1 _ ?_ ?_
     ·(refine ⟨by exact ob,by exact ob,fun j hj=>?_⟩; by_cases q:j<g1.toNat; (exact hg1_3 j (by omega)); (have e:j=g1.toNat:=by omega); subst e; simpa using c3o)
     ·exact ob
   ·have c2:=nr c2;refine ak ?_;(unfold settB; rw [he,rT fun j hj=>hg1_3 j (by omega)]; rfl)
  ·(refine ⟨by exact ob,by exact ob,fun j hj=>by omega⟩)
theorem Me {l_:(List av)} {s_:(List Int)} {clock_:Int} (h1:0≤clock_) (h2:clock_<l_.length) (h3:clock_<s_.length) (h4:L6 (l_.getD clock_.toNat ay) (s_.getD clock_.toNat 0)):W (uQ l_ s_ clock_) (fun r=>r=parF (l_.getD clock_.toNat ay) (s_.getD clock_.toNat 0)):=by
 have hp:=h4; unfold L6 at hp;unfold uQ;refine wn ?_;refine aF (fun c1=>?_) (fun c1=>?_)
 ·have c1o:=c1;have c1:=nr c1;refine ak ?_;(unfold parF; rw [c1o]; rfl)
 ·have c1o:=c1;have c1:=nr c1;refine aF (fun c2=>?_) (fun c2=>?_)
  ·have c2o:=c2;have c2:=nr c2;refine wn ?_;refine wn ?_;refine wn ?_;refine ak ?_;(unfold parF; rw [c1o,c2o]; rfl)
  ·have c2o:=c2;have c2:=nr c2;refine wn ?_;refine ak ?_;(unfold parF; rw [c1o,c2o]; rfl)
theorem FB {l_:(List av)} {s_:(List Int)} (h1:Good l_ s_):W (sH l_ s_) (fun r=>r=gZ l_ s_):=by
 obtain ⟨q1,q2,q3,q4,q5⟩:=h1;unfold sH;refine wn ?_;refine aW (fun (g1:(Int×(List aP)))=>0≤g1.1∧g1.1≤l_.length∧g1.2=nY l_ s_ g1.1.toNat++List.replicate (l_.length - g1.1.toNat) bZ) (fun (g1:(Int×(List aP)))=>(l_.length - g1.1).toNat) ?_ ?_
 ·intro self1 g1 hig1 ihg1;obtain ⟨hg1_1,hg1_2,hg1_3⟩:=hig1;unfold Dc;refine aF (fun c1=>?_) (fun c1=>?_)
  ·have c1:=nr c1;have hlt:g1.1.toNat<l_.length:=(by omega); have hch:=q3 _ hlt; have hpar:=q5 _ hlt; have hpc:=q4 _ hlt; have hrl:=qX l_ s_ g1.1.toNat; have hgl:g1.2.length=l_.length:=(by rw [hg1_3,List.length_append,hrl,List.length_replicate]; omega);refine wn ?_;refine wn ?_;refine wn ?_;refine aC (Me ob ob ob ob) fun v7 hv7=>?_;subst hv7;refine aF (fun c2=>?_) (fun c2=>?_)
   ·have c2o:=c2;have c2:=nr c2;refine wn ?_;refine wn ?_;refine ihg1 _ ?_ ?_
    ·(refine ⟨by exact ob,by exact ob,?_⟩; dsimp only; exact zk hg1_3 (by omega) (by unfold Nh; rw [c2o]; rfl))
    ·exact ob
   ·have c2o:=c2;have c2:=nr c2;have hget:g1.2.getD (parF (l_.getD g1.1.toNat ay) (s_.getD g1.1.toNat 0)).toNat bZ=(nY l_ s_ g1.1.toNat).getD (parF (l_.getD g1.1.toNat ay) (s_.getD g1.1.toNat 0)).toNat bZ:=by rw [hg1_3]; exact gW _ (by omega)
    refine wn ?_;refine aF (fun c3=>?_) (fun c3=>?_)
    ·have c3o:=c3;have c3:=nr c3;refine wn ?_;refine wn ?_;refine ihg1 _ ?_ ?_
     ·(refine ⟨by exact ob,by exact ob,?_⟩; dsimp only; exact zk hg1_3 (by omega) (by unfold Nh; rw [c2o,← hget,show (qE _||_)=true from c3o]; rfl))
     ·exact ob
    ·have c3o:=c3;have c3:=nr c3;refine aF (fun c4=>?_) (fun c4=>?_)
     ·have c4o:=c4;have c4:=nr c4;refine wn ?_;refine aC (Rk) fun v8 hv8=>?_;subst hv8;refine wn ?_;refine wn ?_;refine ihg1 _ ?_ ?_
      ·(refine ⟨by exact ob,by exact ob,?_⟩; dsimp only; exact zk hg1_3 (by omega) (by unfold Nh; rw [c2o,← hget,show (qE _||_)=false from c3o,c4o]; rfl))
      ·exact ob
     ·have c4o:=c4;have c4:=nr c4;refine aF (fun c5=>?_) (fun c5=>?_)
      ·have c5o:=c5;have c5:=nr c5;refine wn ?_;refine aC (PL) fun v9 hv9=>?_;subst hv9;refine wn ?_;refine wn ?_;refine ihg1 _ ?_ ?_
       ·(refine ⟨by exact ob,by exact ob,?_⟩; dsimp only; exact zk hg1_3 (by omega) (by unfold Nh; rw [c2o,← hget,show (qE _||_)=false from c3o,c4o,c5o]; rfl))
       ·exact ob
      ·have c5o:=c5;have c5:=nr c5;refine wn ?_;refine wn ?_;refine wn ?_;refine ihg1 _ ?_ ?_
       ·(refine ⟨by exact ob,by exact ob,?_⟩; dsimp only; exact zk hg1_3 (by omega) (by unfold Nh; rw [c2o,← hget,show (qE _||_)=false from c3o,c4o,c5o]; rfl))
       ·exact ob
  ·have c1:=nr c1;refine ak ?_;(rw [hg1_3,show g1.1.toNat=l_.length by omega,Nat.sub_self]; simp [gZ])
 ·(refine ⟨by exact ob,by exact ob,?_⟩; simp [nY])
theorem Kj {x_:bn} {a1_:(List aP)} (h1:0≤x_.Clock) (h2:x_.Clock<a1_.length):W (nu x_ a1_) (fun r=>r=YH a1_ x_):=by
 unfold nu;refine wn ?_;refine wn ?_;refine aC (d9 fun hc=>jR (Fz)) fun v1 hv1=>?_;subst hv1;refine ak ?_;rfl
theorem oM {s_:(List bn)} {f_:(List aP)} (h1:s_.length≤1000000) (h2:∀x∈s_,0≤x.Clock∧x.Clock<f_.length):W (gM s_ f_) (fun r=>r=s_.any (YH f_)):=
 CJ (Fy (GX (p:=fun x=>nu x f_) (P:=YH f_) (fun x hx=>jR (Kj (h2 x hx).1 (h2 x hx).2)) (by omega)) (nD _ _))
theorem Nl {l_:(List av)} {s_:(List Int)} {m_:(List bn)} (h1:l_.length≤1000000) (h2:s_.length≤1000000) (h3:m_.length≤1000000) (h4:YG l_):W (wZ l_ s_ m_) (fun r=>r=fq l_ s_ m_):=by
 unfold wZ;refine aC (Md ob ob) fun v1 hv1=>?_;subst hv1;refine aC (d9 fun hc=>jR (BD ob ob ob)) fun v2 hv2=>?_;subst hv2;refine aF (fun c1=>?_) (fun c1=>?_)
 ·have c1o:=c1;have c1:=nr c1;refine ak ?_;(unfold fq; rw [show (oK l_ m_&&settB l_ s_)=false from Bool.and_eq_false_iff.2 c1]; rfl)
 ·have c1o:=c1;have c1:=nr c1;have hls:oK l_ m_=true∧settB l_ s_=true:=by simpa using c1o
  obtain ⟨hck,hml,hmb⟩:=Rc hls.1;have hgd:=KV (G7 hck) hls.2;have hrl:(gZ l_ s_).length=l_.length:=qX _ _ _;refine aC (FB ob) fun v3 hv3=>?_;subst hv3;refine aW (fun (g1:Int)=>0≤g1∧g1≤l_.length∧(∀j:Nat,(j:Int)<g1→ownX ((gZ l_ s_).getD j bZ) (l_.getD j ay)=false)) (fun (g1:Int)=>(l_.length - g1).toNat) ?_ ?_
  ·intro self1 g1 hig1 ihg1;obtain ⟨hg1_1,hg1_2,hg1_3⟩:=hig1;unfold Df;refine aF (fun c2=>?_) (fun c2=>?_)
   ·have c2:=nr c2;refine wn ?_;refine wn ?_;refine wn ?_;refine aC (d9 fun hc=>jR (Fz)) fun v6 hv6=>?_;subst hv6;refine aF (fun c3=>?_) (fun c3=>?_)
    ·have c3o:=c3;have c3:=nr c3;refine ak ?_;(unfold fq; rw [hls.1,hls.2,show ownB l_ (gZ l_ s_)=false from wz (i:=g1.toNat) (by omega) (by rw [show ownX ((gZ l_ s_).getD g1.toNat bZ) (l_.getD g1.toNat ay)=true from c3o]; rfl)]; rfl)
    ·have c3o:=c3;have c3:=nr c3;refine wn ?_;refine ihg1 _ ?_ ?_
     ·(refine ⟨by exact ob,by exact ob,fun j hj=>?_⟩; by_cases q:j<g1.toNat; (exact hg1_3 j (by omega)); (have e:j=g1.toNat:=by omega); subst e; exact c3o)
     ·exact ob
   ·have c2:=nr c2;refine aC (oM ob (fun x hx=>by rw [hrl]; exact (Rf (Rl hls.1 x hx)).1)) fun v7 hv7=>?_;subst hv7;refine ak ?_;(unfold fq; rw [hls.1,hls.2,show ownB l_ (gZ l_ s_)=true from rT fun j hj=>by rw [hg1_3 j (by omega)]; rfl]; rfl)
  ·(refine ⟨by exact ob,by exact ob,fun j hj=>by omega⟩)
theorem Nn {l_:(List av)} {s_:(List Int)} (h1:l_.length≤1000000) (h2:s_.length≤1000000) (h3:YG l_):W (w9 l_ s_) (fun r=>r=yc l_ s_):=by
 unfold w9;refine aC (CJ (yg ob)) fun v1 hv1=>?_;subst hv1;refine aF (fun c1=>?_) (fun c1=>?_)
 ·have c1o:=c1;have c1:=nr c1;refine ak ?_;(unfold yc; rw [c1o]; rfl)
 ·have c1o:=c1;have c1:=nr c1;have hck:bP l_=0:=by simpa using c1o
  refine aC (BD ob ob ob) fun v2 hv2=>?_;subst hv2;refine aF (fun c2=>?_) (fun c2=>?_)
  ·have c2o:=c2;have c2:=nr c2;refine ak ?_;(unfold yc; rw [c1o,c2o]; rfl)
  ·have c2o:=c2;have c2:=nr c2;have hgd:=KV (G7 hck) (show settB l_ s_=true by simpa using c2o);refine aC (FB ob) fun v3 hv3=>?_;subst hv3;refine ak ?_;(unfold yc; rw [c1o,c2o]; rfl)
end Go.Proofs.YtfblhejmclcdmaaGreatDoor

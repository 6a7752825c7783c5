/- An abstract machine over the model's code, that it is sound; models of the functions and their proofs. -/
import Derived.Test.YtfblhejmclcdmaaGreatDoorA3
import Derived.Test.YtfblhejmclcdmaaGreatDoorA4
set_option linter.unusedVariables false
set_option linter.unusedSimpArgs false

namespace Go.Ab
def GL {α:Type} (l:List α) (P:α→Bool):Int:=if l.any P then ((l.findIdx P:Nat):Int) else -1
theorem nK {α:Type} (l:List α) (P:α→Bool):decide (0≤GL l P)=l.any P:=by
 unfold GL;cases l.any P<;>simp<;>omega
theorem YN {α:Type} {l:List α} {P:α→Bool} {d:α} {i:Nat} (hi:i<l.length) (h:P (l.getD i d)=true):l.any P=true:=by
 rw [List.any_eq_true];refine ⟨l[i],List.getElem_mem hi,?_⟩;rw [List.getD_eq_getElem?_getD,List.getElem?_eq_getElem hi] at h;exact h
theorem any_take_succ {α:Type} (l:List α) (P:α→Bool) (d:α) {i:Nat} (hi:i<l.length):(l.take (i+1)).any P=((l.take i).any P||P (l.getD i d)):=by
 rw [List.take_add_one,List.any_append,List.getElem?_eq_getElem hi,List.getD_eq_getElem?_getD,List.getElem?_eq_getElem hi];simp
theorem Wj {α:Type} {l:List α} {P:α→Bool} {d:α} {g:Int} (h0:0≤g) (h1:g<l.length) (hb:(l.take g.toNat).any P=false) (hp:P (l.getD g.toNat d)=true):GL l P=g:=by
 have hi:g.toNat<l.length:=by omega
 unfold GL;rw [YN hi hp,if_pos rfl];have:l.findIdx P=g.toNat:=by
  rw [List.findIdx_eq hi];constructor
  ·rw [List.getD_eq_getElem?_getD,List.getElem?_eq_getElem hi] at hp;exact hp
  ·intro j hj;have:=List.any_eq_false.1 hb (l[j]'(by omega)) (by
    rw [List.mem_take_iff_getElem]
    exact ⟨j,by omega,rfl⟩)
   simpa using this
 omega
theorem Gf {α:Type} {l:List α} {d:α} {p:α→M Bool} {P:α→Bool} (hp:∀x∈l,p x (P x)) (hl:(l.length:Int)≤9223372036854775807):W (bR (fun (self:Int→M Int) g=>bif (decide (g<(l.length:Int))) then
  need (0≤g∧g<(l.length:Int))<|
  bnd (p (l.getD g.toNat d)) fun v3=>
  bif v3 then
   ret g
  else
   need (InI64 (g+(1:Int)))<|
   self (g+(1:Int))
 else
  ret (-1:Int)) (0:Int)) (fun r=>r=GL l P):=by
 refine bD (fun (g:Int)=>0≤g∧g≤l.length∧(l.take g.toNat).any P=false) (fun (g:Int)=>(l.length - g).toNat) ?_ ⟨by omega,by omega,by simp⟩;intro self g ⟨h0,h1,hb⟩ ih;refine aD (fun c=>?_) (fun c=>?_)
 ·have c:=of_decide_eq_true c;refine bV ⟨h0,c⟩ ?_;have hi:g.toNat<l.length:=by omega
  have hm:l.getD g.toNat d∈l:=by
   rw [List.getD_eq_getElem?_getD,List.getElem?_eq_getElem hi];exact List.getElem_mem hi
  refine ay (Dh (hp _ hm)) fun v hv=>?_;subst hv;refine aD (fun c2=>?_) (fun c2=>?_)
  ·exact ak (Wj h0 c hb c2).symm
  ·refine bV (by unfold InI64; omega) ?_;refine ih _ ⟨by omega,by omega,?_⟩ (by omega);rw [show (g+1).toNat=g.toNat+1 by omega,any_take_succ l P d hi,hb,c2];rfl
 ·have c:=of_decide_eq_false c;refine ak ?_;unfold GL;rw [show g.toNat=l.length by omega,List.take_length] at hb;rw [hb];rfl
theorem abS {α:Type} {l:List α} {d:α} {P:α→Bool} (hl:(l.length:Int)≤9223372036854775807):W (bR (fun (self:Int→M Int) g=>bif (decide (g<(l.length:Int))) then
  need (0≤g∧g<(l.length:Int))<|
  bif (P (l.getD g.toNat d)) then
   ret g
  else
   need (InI64 (g+(1:Int)))<|
   self (g+(1:Int))
 else
  ret (-1:Int)) (0:Int)) (fun r=>r=GL l P):=by
 refine bD (fun (g:Int)=>0≤g∧g≤l.length∧(l.take g.toNat).any P=false) (fun (g:Int)=>(l.length - g).toNat) ?_ ⟨by omega,by omega,by simp⟩;intro self g ⟨h0,h1,hb⟩ ih;refine aD (fun c=>?_) (fun c=>?_)
 ·have c:=of_decide_eq_true c;refine bV ⟨h0,c⟩ ?_;have hi:g.toNat<l.length:=by omega
  refine aD (fun c2=>?_) (fun c2=>?_)
  ·exact ak (Wj h0 c hb c2).symm
  ·refine bV (by unfold InI64; omega) ?_;refine ih _ ⟨by omega,by omega,?_⟩ (by omega);rw [show (g+1).toNat=g.toNat+1 by omega,any_take_succ l P d hi,hb,c2];rfl
 ·have c:=of_decide_eq_false c;refine ak ?_;unfold GL;rw [show g.toNat=l.length by omega,List.take_length] at hb;rw [hb];rfl
theorem Gg {m:M Int} {v:Int} {b:Bool} (h:W m (fun r=>r=v)) (hb:decide (0≤v)=b):bnd m (fun v1=>ret (decide ((0:Int)≤v1))) b:=by
 refine iJ (ay h fun v1 h1=>ak ?_);subst h1;exact hb
theorem dF {A:Type} {c:Prop} {m:M A} {v:A} (h:c→m v):W (fun v=>c→m v) (fun r=>r=v):=⟨v,h,rfl⟩
theorem YO {R:Type} {F:(Int→M R)→Int→M R} {Q:R→Prop} (n:Nat) (inv:Nat→Prop) (h:∀(self:Int→M R) (i:Nat),i≤n→inv i→(i<n→inv (i+1)→W (self ((i:Int)+1)) Q)→W (F self (i:Int)) Q) (h0:inv 0):W (bR F (0:Int)) Q:=by
 refine bD (fun (g:Int)=>∃i:Nat,g=i∧i≤n∧inv i) (fun (g:Int)=>(n - g).toNat) ?_ ⟨0,rfl,Nat.zero_le _,h0⟩;rintro self g ⟨i,rfl,hi,hv⟩ ih;refine h self i hi hv fun h1 h2=>?_;exact ih _ ⟨i+1,by simp,h1,h2⟩ (by omega)
end Go.Ab


namespace Go.Ab
theorem abm {σ R:Type} {len:Nat} {B:Nat→(σ→M R)→σ→M R} {fin:σ→M R} {Q:R→Prop} (inv:Nat→σ→Prop) (h:∀(k:Nat) (self:σ→M R) (s:σ),k<len→inv k s→(∀s',inv (k+1) s'→W (self s') Q)→W (B k self s) Q) (hf:∀s,inv len s→W (fin s) Q) {s:σ} (h0:inv 0 s):W (Nc len B fin len s) Q:=by
 have key:∀j s,j≤len→inv (len - j) s→W (Nc len B fin j s) Q:=by
  intro j;induction j with
  | zero=>intro s _ hi; exact hf s hi
  | succ j ih=>
   intro s hj hi;refine h (len - (j+1)) _ s (by omega) hi fun s' hs=>ih s' (by omega) ?_;rwa [show len - (j+1)+1=len - j by omega] at hs
 exact key len s (Nat.le_refl _) (by rw [Nat.sub_self]; exact h0)
theorem nr {p q : Prop} (h : p) (e : p = q := by (try simp only [Bool.and_eq_true, Bool.or_eq_true, Bool.and_eq_false_iff, Bool.or_eq_false_iff, decide_eq_true_eq, decide_eq_false_iff_not, Bool.not_eq_true', Bool.not_eq_false', beq_iff_eq, bne_iff_ne, ne_eq, beq_eq_false_iff_ne, bne_eq_false_iff_eq, Int.not_lt, Int.not_le, Bool.not_eq_true, Bool.not_eq_false]); try rfl) : q := e ▸ h
theorem ob {p : Prop} (h : p := by
  intros; (try dsimp only); first
  | omega
  | assumption
  | trivial
  | (simp only [InI64, big, gV, List.length_take, List.length_drop, List.length_append, List.length_cons, List.length_nil, List.length_set, List.length_replicate, List.length_map, List.length_range]; omega)
  | (simp only [InI64, big, List.length_take, List.length_drop, List.length_append, List.length_cons, List.length_nil, List.length_set, List.length_replicate] at *; omega)
  | (rw [Int.tmod_eq_emod_of_nonneg (by omega)]; (try simp only [List.length_cons, List.length_nil]); omega)
  | (repeat' apply And.intro) <;> first
    | omega
    | assumption
    | trivial
    | (simp only [InI64, big, gV, List.length_take, List.length_drop, List.length_append, List.length_cons, List.length_nil, List.length_set, List.length_replicate, List.length_map, List.length_range]; omega)
    | (simp only [InI64, big, List.length_take, List.length_drop, List.length_append, List.length_cons, List.length_nil, List.length_set, List.length_replicate] at *; omega)
    | (rw [Int.tmod_eq_emod_of_nonneg (by omega)]; (try simp only [List.length_cons, List.length_nil]); omega)
    | ((simp only [List.forall_mem_append, List.forall_mem_singleton, List.forall_mem_cons, List.not_mem_nil, false_implies, implies_true, and_true]); done)
    | ((simp only [List.forall_mem_append, List.forall_mem_singleton, List.forall_mem_cons, List.not_mem_nil, false_implies, implies_true, and_true]); (repeat' apply And.intro) <;> first | omega | assumption | trivial | (simp only [InI64, big, List.length_take, List.length_drop, List.length_append, List.length_cons, List.length_nil, List.length_set, List.length_replicate] at *; omega))
    | (simp_all; done)
    | (simp_all; omega)) : p := h
theorem wn {R : Type} {p : Prop} {m : M R} {Q : R → Prop} (h : W m Q) (hp : p := by exact ob) : W (need p m) Q := bV hp h
end Go.Ab


namespace Go.Proofs.YtfblhejmclcdmaaGreatDoor
open Go.Ab
set_option maxRecDepth 100000
theorem Fe (x n:Int) (h:0<n) : -n<x.tmod n∧x.tmod n<n:=by
 have h1:=Int.natAbs_tmod x n;have h2:=Nat.mod_lt x.natAbs (show 0<n.natAbs by omega);omega
theorem Sz:∀(k i:Nat) (g:Nat→AV) (s:ByteArray),(yB k i g s).size=s.size+k:=by
 intro k;induction k with
 | zero=>intro i g s; rfl
 | succ k ih=>intro i g s; unfold yB; rw [ih,ByteArray.size_push]; omega
theorem U2 (l:List Int):(strOf l).size=l.length:=by
 unfold strOf;rw [Sz];simp
theorem QV {α:Type} {P:α→Prop} {l:List α} {i:Nat} {y:α} (h:∀x∈l,P x) (hy:P y):∀x∈l.set i y,P x:=fun x hx=>by
 rcases List.mem_or_eq_of_mem_set hx with e | e
 ·exact h x e
 ·subst e; exact hy
structure YP (b:bQ):Prop where
 ncl:b.bY.length≤5
 cl:∀c∈b.bY,c.Parents.length≤2∧c.Choices.length≤3
 nsu:b.bH.length≤3
 su:∀c∈b.bH,c.aU.length≤3
 ngr:b.bE.Groups.length≤5
 gr:∀c∈b.bE.Groups,c.bT.length≤10∧c.Functions.length≤2
 nre:b.Resets.length≤4
 re:∀c∈b.Resets,c.After.length≤100
 ndo:b.cK.length≤4
theorem getD_in {α:Type} {l:List α} {i:Nat} (d:α) (h:i<l.length):l.getD i d∈l:=by
 rw [List.getD_eq_getElem?_getD,List.getElem?_eq_getElem h];exact List.getElem_mem h
theorem SA {l_:(List Int)}:W (EZ l_) (fun r=>r.2=0∧r.1.length≤600):=by
 unfold EZ;refine bV (by (split<;>omega)) ?_;refine ak ?_;(simp only [List.length_take]; refine ⟨trivial,?_⟩; split<;>omega)
theorem SB {x_:Int} {n_:Int} (h1:n_≤1000000):W (E5 x_ n_) (fun r=>0≤r∧(0<n_→r<n_)∧(n_<1→r=0)):=by
 unfold E5;refine aD (fun c1=>?_) (fun c1=>?_)
 ·have c1:=nr c1;refine ak ?_;exact ob
 ·have c1:=nr c1;refine wn ?_;refine bV (by (have:=Fe x_ n_ (by omega); unfold InI64; omega)) ?_;refine wn ?_;refine ak ?_;(have h:=Fe x_ n_ (by omega); have h2:=Fe (x_.tmod n_+n_) n_ (by omega); have h3:=Int.tmod_nonneg (a:=x_.tmod n_+n_) n_ (by omega); omega)
theorem aQ {n_:Int} {o0_:aZ} (h1:n_≤1000000) (h2:0≤o0_.At) (h3:o0_.L.length≤600):W (bI n_ o0_) (fun r=>0≤r.1∧(0<n_→r.1<n_)∧(n_<1→r.1=0)∧0≤r.2.At∧r.2.L.length≤600):=by
 unfold bI;refine aD (fun c1=>?_) (fun c1=>?_)
 ·have c1:=nr c1;refine ak ?_;exact ob
 ·have c1:=nr c1;refine wn ?_;refine wn ?_;refine wn ?_;refine ay (SB ob) fun v1 hv1=>?_;obtain ⟨hv1_1,hv1_2,hv1_3⟩:=hv1;refine ak ?_;exact ob
theorem gP {lo_:Int} {hi_:Int} {o0_:aZ} (h1 : -1000000≤lo_) (h2:hi_≤100000) (h3:lo_≤hi_+1) (h4:hi_ - lo_≤100000) (h5:0≤o0_.At) (h6:o0_.L.length≤600):W (eY lo_ hi_ o0_) (fun r=>lo_≤r.1∧(lo_≤hi_→r.1≤hi_)∧(hi_<lo_→r.1=lo_)∧0≤r.2.At∧r.2.L.length≤600):=by
 unfold eY;refine wn ?_;refine wn ?_;refine ay (aQ ob ob ob) fun v1 hv1=>?_;obtain ⟨hv1_1,hv1_2,hv1_3,hv1_4,hv1_5⟩:=hv1;refine wn ?_;refine ak ?_;exact ob
theorem cZ {l_:(List Int)} {o0_:aZ} (h1:0<l_.length) (h2:l_.length≤1000) (h3:0≤o0_.At) (h4:o0_.L.length≤600):W (dI l_ o0_) (fun r=>(∃i:Nat,i<l_.length∧r.1=l_.getD i 0)∧0≤r.2.At∧r.2.L.length≤600):=by
 unfold dI;refine ay (aQ ob ob ob) fun v1 hv1=>?_;obtain ⟨hv1_1,hv1_2,hv1_3,hv1_4,hv1_5⟩:=hv1;refine wn ?_;refine ak ?_;(exact ⟨⟨v1.1.toNat,by omega,rfl⟩,by exact ob⟩)
theorem JO {l_:(List ByteArray)} {o0_:aZ} (h1:0<l_.length) (h2:l_.length≤1000) (h3:0≤o0_.At) (h4:o0_.L.length≤600):W (pJ l_ o0_) (fun r=>(∃i:Nat,i<l_.length∧r.1=l_.getD i ByteArray.empty)∧0≤r.2.At∧r.2.L.length≤600):=by
 unfold pJ;refine ay (aQ ob ob ob) fun v1 hv1=>?_;obtain ⟨hv1_1,hv1_2,hv1_3,hv1_4,hv1_5⟩:=hv1;refine wn ?_;refine ak ?_;(exact ⟨⟨v1.1.toNat,by omega,rfl⟩,by exact ob⟩)
theorem iC:W (ku) (fun r=>r=[({ data:=#[117,97,114,116] }:ByteArray),({ data:=#[115,112,105] }:ByteArray),({ data:=#[105,50,99] }:ByteArray),({ data:=#[112,119,109] }:ByteArray)]):=by
 unfold ku;refine ak ?_;rfl
theorem qW {n_:Int} {k_:Int} {o0_:aZ} (h1:0≤n_) (h2:n_≤1000) (h3:1≤k_) (h4:k_≤100) (h5:0≤o0_.At) (h6:o0_.L.length≤600):W (j4 n_ k_ o0_) (fun r=>r.1.length≤n_.toNat∧(∀p∈r.1,0≤p∧p<n_)∧0≤r.2.At∧r.2.L.length≤600):=by
 unfold j4;refine bD (fun (g1:(Int×(List Int)×Int×(List Int)))=>0≤g1.1∧g1.1≤n_∧0≤g1.2.2.1∧g1.2.1.length≤600∧(g1.2.2.2.length:Int)≤g1.1∧(∀p∈g1.2.2.2,0≤p∧p<n_)) (fun (g1:(Int×(List Int)×Int×(List Int)))=>(n_ - g1.1).toNat) ?_ ?_
 ·intro self1 g1 hig1 ihg1;obtain ⟨hg1_1,hg1_2,hg1_3,hg1_4,hg1_5,hg1_6⟩:=hig1;unfold xH;refine aD (fun c1=>?_) (fun c1=>?_)
  ·have c1:=nr c1;refine ay (aQ ob ob ob) fun v3 hv3=>?_;obtain ⟨hv3_1,hv3_2,hv3_3,hv3_4,hv3_5⟩:=hv3;refine wn ?_;refine aD (fun c2=>?_) (fun c2=>?_)
   ·have c2:=nr c2;refine wn ?_;refine wn ?_;refine ihg1 _ ?_ ?_
    ·exact ob
    ·exact ob
   ·have c2:=nr c2;refine wn ?_;refine ihg1 _ ?_ ?_
    ·exact ob
    ·exact ob
  ·have c1:=nr c1;refine ak ?_;exact ob
 ·exact ob
theorem GN {most_:Int} {o0_:aZ} (h1:0≤most_) (h2:most_≤100) (h3:0≤o0_.At) (h4:o0_.L.length≤600):W (mJ most_ o0_) (fun r=>r.1.length≤most_.toNat∧(∀x∈r.1,x.After.length≤100)∧0≤r.2.At∧r.2.L.length≤600):=by
 unfold mJ;refine wn ?_;refine ay (aQ ob ob ob) fun v1 hv1=>?_;obtain ⟨hv1_1,hv1_2,hv1_3,hv1_4,hv1_5⟩:=hv1;refine bD (fun (g1:(Int×(List Int)×Int×(List cu)))=>0≤g1.1∧0≤g1.2.2.1∧g1.2.1.length≤600∧(g1.2.2.2.length:Int)+g1.1≤most_∧(∀x∈g1.2.2.2,x.After.length≤100)) (fun (g1:(Int×(List Int)×Int×(List cu)))=>g1.1.toNat) ?_ ?_
 ·intro self1 g1 hig1 ihg1;obtain ⟨hg1_1,hg1_2,hg1_3,hg1_4,hg1_5⟩:=hig1;unfold uD;refine aD (fun c1=>?_) (fun c1=>?_)
  ·have c1:=nr c1;refine ay (qW ob ob ob ob ob ob) fun v4 hv4=>?_;obtain ⟨hv4_1,hv4_2,hv4_3,hv4_4⟩:=hv4;refine wn ?_;refine wn ?_;refine ihg1 _ ?_ ?_
   ·exact ob
   ·exact ob
  ·have c1:=nr c1;refine ak ?_;exact ob
 ·exact ob
theorem Fv {most_:Int} {o0_:aZ} (h1:0≤most_) (h2:most_≤50) (h3:0≤o0_.At) (h4:o0_.L.length≤600):W (lG most_ o0_) (fun r=>r.1.length≤most_.toNat∧0≤r.2.At∧r.2.L.length≤600):=by
 unfold lG;refine wn ?_;refine ay (aQ ob ob ob) fun v1 hv1=>?_;obtain ⟨hv1_1,hv1_2,hv1_3,hv1_4,hv1_5⟩:=hv1;refine bD (fun (g1:(Int×(List Int)×Int×(List ByteArray)))=>0≤g1.1∧0≤g1.2.2.1∧g1.2.1.length≤600∧(g1.2.2.2.length:Int)+g1.1≤most_) (fun (g1:(Int×(List Int)×Int×(List ByteArray)))=>g1.1.toNat) ?_ ?_
 ·intro self1 g1 hig1 ihg1;obtain ⟨hg1_1,hg1_2,hg1_3,hg1_4⟩:=hig1;unfold sK;refine aD (fun c1=>?_) (fun c1=>?_)
  ·have c1:=nr c1;refine ay (iC) fun v6 hv6=>?_;subst hv6;refine ay (JO ob ob ob ob) fun v7 hv7=>?_;obtain ⟨hv7_1,hv7_2,hv7_3⟩:=hv7;refine wn ?_;refine wn ?_;refine ihg1 _ ?_ ?_
   ·exact ob
   ·exact ob
  ·have c1:=nr c1;refine ak ?_;exact ob
 ·exact ob
theorem Fw {most_:Int} {o0_:aZ} (h1:0≤most_) (h2:most_≤50) (h3:0≤o0_.At) (h4:o0_.L.length≤600):W (lF most_ o0_) (fun r=>r.1.length≤most_.toNat∧0≤r.2.At∧r.2.L.length≤600):=by
 unfold lF;refine wn ?_;refine ay (aQ ob ob ob) fun v1 hv1=>?_;obtain ⟨hv1_1,hv1_2,hv1_3,hv1_4,hv1_5⟩:=hv1;refine bD (fun (g1:(Int×(List Int)×Int×(List bM)))=>0≤g1.1∧0≤g1.2.2.1∧g1.2.1.length≤600∧(g1.2.2.2.length:Int)+g1.1≤most_) (fun (g1:(Int×(List Int)×Int×(List bM)))=>g1.1.toNat) ?_ ?_
 ·intro self1 g1 hig1 ihg1;obtain ⟨hg1_1,hg1_2,hg1_3,hg1_4⟩:=hig1;unfold sJ;refine aD (fun c1=>?_) (fun c1=>?_)
  ·have c1:=nr c1;refine wn ?_;refine ay (gP ob ob ob ob ob ob) fun v6 hv6=>?_;obtain ⟨hv6_1,hv6_2,hv6_3,hv6_4,hv6_5⟩:=hv6;refine ay (aQ ob ob ob) fun v7 hv7=>?_;obtain ⟨hv7_1,hv7_2,hv7_3,hv7_4,hv7_5⟩:=hv7;refine wn ?_;refine wn ?_;refine ihg1 _ ?_ ?_
   ·exact ob
   ·exact ob
  ·have c1:=nr c1;refine ak ?_;exact ob
 ·exact ob
theorem GQ {o0_:aZ} (h1:0≤o0_.At) (h2:o0_.L.length≤600):W (mH o0_) (fun r=>r.1.length≤5∧(∀c∈r.1,c.Parents.length≤2∧c.Choices.length≤3)∧0≤r.2.At∧r.2.L.length≤600):=by
 unfold mH;refine ay (aQ ob ob ob) fun v1 hv1=>?_;obtain ⟨hv1_1,hv1_2,hv1_3,hv1_4,hv1_5⟩:=hv1;refine bD (fun (g1:(Int×(List Int)×Int×(List av)))=>0≤g1.1∧0≤g1.2.2.1∧g1.2.1.length≤600∧(g1.2.2.2.length:Int)+g1.1≤5∧(∀c∈g1.2.2.2,c.Parents.length≤2∧c.Choices.length≤3)) (fun (g1:(Int×(List Int)×Int×(List av)))=>g1.1.toNat) ?_ ?_
 ·intro self1 g1 hig1 ihg1;obtain ⟨hg1_1,hg1_2,hg1_3,hg1_4,hg1_5⟩:=hig1;unfold uw;refine aD (fun c1=>?_) (fun c1=>?_)
  ·have c1:=nr c1;refine ay (cZ ob ob ob ob) fun v28 hv28=>?_;obtain ⟨hv28_1,hv28_2,hv28_3⟩:=hv28;refine aD (fun c2=>?_) (fun c2=>?_)
   ·have c2:=nr c2;refine ay (aQ ob ob ob) fun v41 hv41=>?_;obtain ⟨hv41_1,hv41_2,hv41_3,hv41_4,hv41_5⟩:=hv41;refine aD (fun c3=>?_) (fun c3=>?_)
    ·have c3:=nr c3;refine ay (aQ ob ob ob) fun v42 hv42=>?_;obtain ⟨hv42_1,hv42_2,hv42_3,hv42_4,hv42_5⟩:=hv42;refine ay (aQ ob ob ob) fun v49 hv49=>?_;obtain ⟨hv49_1,hv49_2,hv49_3,hv49_4,hv49_5⟩:=hv49;refine aD (fun c4=>?_) (fun c4=>?_)
     ·have c4:=nr c4;refine ay (cZ ob ob ob ob) fun v50 hv50=>?_;obtain ⟨hv50_1,hv50_2,hv50_3⟩:=hv50;unfold dA;refine ay (aQ ob ob ob) fun v47 hv47=>?_;obtain ⟨hv47_1,hv47_2,hv47_3,hv47_4,hv47_5⟩:=hv47;refine aD (fun c5=>?_) (fun c5=>?_)
      ·have c5:=nr c5;refine ay (cZ ob ob ob ob) fun v48 hv48=>?_;obtain ⟨hv48_1,hv48_2,hv48_3⟩:=hv48;unfold bK;refine wn ?_;refine wn ?_;refine ihg1 _ ?_ ?_
       ·exact ob
       ·exact ob
      ·have c5:=nr c5;unfold bK;refine wn ?_;refine wn ?_;refine ihg1 _ ?_ ?_
       ·exact ob
       ·exact ob
     ·have c4:=nr c4;refine aD (fun c6=>?_) (fun c6=>?_)
      ·have c6:=nr c6;refine ay (cZ ob ob ob ob) fun v51 hv51=>?_;obtain ⟨hv51_1,hv51_2,hv51_3⟩:=hv51;unfold dA;refine ay (aQ ob ob ob) fun v47 hv47=>?_;obtain ⟨hv47_1,hv47_2,hv47_3,hv47_4,hv47_5⟩:=hv47;refine aD (fun c7=>?_) (fun c7=>?_)
       ·have c7:=nr c7;refine ay (cZ ob ob ob ob) fun v48 hv48=>?_;obtain ⟨hv48_1,hv48_2,hv48_3⟩:=hv48;unfold bK;refine wn ?_;refine wn ?_;refine ihg1 _ ?_ ?_
        ·exact ob
        ·exact ob
       ·have c7:=nr c7;unfold bK;refine wn ?_;refine wn ?_;refine ihg1 _ ?_ ?_
        ·exact ob
        ·exact ob
      ·have c6:=nr c6;refine aD (fun c8=>?_) (fun c8=>?_)
       ·have c8:=nr c8;unfold dA;refine ay (aQ ob ob ob) fun v47 hv47=>?_;obtain ⟨hv47_1,hv47_2,hv47_3,hv47_4,hv47_5⟩:=hv47;refine aD (fun c9=>?_) (fun c9=>?_)
        ·have c9:=nr c9;refine ay (cZ ob ob ob ob) fun v48 hv48=>?_;obtain ⟨hv48_1,hv48_2,hv48_3⟩:=hv48;unfold bK;refine wn ?_;refine wn ?_;refine ihg1 _ ?_ ?_
         ·exact ob
         ·exact ob
        ·have c9:=nr c9;unfold bK;refine wn ?_;refine wn ?_;refine ihg1 _ ?_ ?_
         ·exact ob
         ·exact ob
       ·have c8:=nr c8;refine aD (fun c10=>?_) (fun c10=>?_)
        ·have c10:=nr c10;refine wn ?_;refine ay (aQ ob ob ob) fun v52 hv52=>?_;obtain ⟨hv52_1,hv52_2,hv52_3,hv52_4,hv52_5⟩:=hv52;refine wn ?_;unfold dA;refine ay (aQ ob ob ob) fun v47 hv47=>?_;obtain ⟨hv47_1,hv47_2,hv47_3,hv47_4,hv47_5⟩:=hv47;refine aD (fun c11=>?_) (fun c11=>?_)
         ·have c11:=nr c11;refine ay (cZ ob ob ob ob) fun v48 hv48=>?_;obtain ⟨hv48_1,hv48_2,hv48_3⟩:=hv48;unfold bK;refine wn ?_;refine wn ?_;refine ihg1 _ ?_ ?_
          ·exact ob
          ·exact ob
         ·have c11:=nr c11;unfold bK;refine wn ?_;refine wn ?_;refine ihg1 _ ?_ ?_
          ·exact ob
          ·exact ob
        ·have c10:=nr c10;unfold dA;refine ay (aQ ob ob ob) fun v47 hv47=>?_;obtain ⟨hv47_1,hv47_2,hv47_3,hv47_4,hv47_5⟩:=hv47;refine aD (fun c12=>?_) (fun c12=>?_)
         ·have c12:=nr c12;refine ay (cZ ob ob ob ob) fun v48 hv48=>?_;obtain ⟨hv48_1,hv48_2,hv48_3⟩:=hv48;unfold bK;refine wn ?_;refine wn ?_;refine ihg1 _ ?_ ?_
          ·exact ob
          ·exact ob
         ·have c12:=nr c12;unfold bK;refine wn ?_;refine wn ?_;refine ihg1 _ ?_ ?_
          ·exact ob
          ·exact ob
    ·have c3:=nr c3;unfold bK;refine wn ?_;refine wn ?_;refine ihg1 _ ?_ ?_
     ·exact ob
     ·exact ob
   ·have c2:=nr c2;refine wn ?_;unfold bK;refine wn ?_;refine wn ?_;refine ihg1 _ ?_ ?_
    ·exact ob
    ·exact ob
  ·have c1:=nr c1;refine ak ?_;exact ob
 ·exact ob
theorem Ed {o0_:aZ} (h1:0≤o0_.At) (h2:o0_.L.length≤600):W (kL o0_) (fun r=>r.1.length≤3∧(∀c∈r.1,c.aU.length≤3)∧0≤r.2.At∧r.2.L.length≤600):=by
 unfold kL;refine ay (aQ ob ob ob) fun v1 hv1=>?_;obtain ⟨hv1_1,hv1_2,hv1_3,hv1_4,hv1_5⟩:=hv1;refine bD (fun (g1:(Int×(List Int)×Int×(List aj)))=>0≤g1.1∧0≤g1.2.2.1∧g1.2.1.length≤600∧(g1.2.2.2.length:Int)+g1.1≤3∧(∀c∈g1.2.2.2,c.aU.length≤3)) (fun (g1:(Int×(List Int)×Int×(List aj)))=>g1.1.toNat) ?_ ?_
 ·intro self1 g1 hig1 ihg1;obtain ⟨hg1_1,hg1_2,hg1_3,hg1_4,hg1_5⟩:=hig1;unfold qB;refine aD (fun c1=>?_) (fun c1=>?_)
  ·have c1:=nr c1;refine wn ?_;refine ay (gP ob ob ob ob ob ob) fun v12 hv12=>?_;obtain ⟨hv12_1,hv12_2,hv12_3,hv12_4,hv12_5⟩:=hv12;refine ay (cZ ob ob ob ob) fun v13 hv13=>?_;obtain ⟨hv13_1,hv13_2,hv13_3⟩:=hv13;refine ay (cZ ob ob ob ob) fun v14 hv14=>?_;obtain ⟨hv14_1,hv14_2,hv14_3⟩:=hv14;refine ay (aQ ob ob ob) fun v15 hv15=>?_;obtain ⟨hv15_1,hv15_2,hv15_3,hv15_4,hv15_5⟩:=hv15;refine aD (fun c2=>?_) (fun c2=>?_)
   ·have c2:=nr c2;unfold ig;refine ay (aQ ob ob ob) fun v16 hv16=>?_;obtain ⟨hv16_1,hv16_2,hv16_3,hv16_4,hv16_5⟩:=hv16;refine wn ?_;refine aD (fun c3=>?_) (fun c3=>?_)
    ·have c3:=nr c3;refine wn ?_;refine wn ?_;refine ihg1 _ ?_ ?_
     ·exact ob
     ·exact ob
    ·have c3:=nr c3;refine aD (fun c4=>?_) (fun c4=>?_)
     ·have c4:=nr c4;refine wn ?_;refine wn ?_;refine ihg1 _ ?_ ?_
      ·exact ob
      ·exact ob
     ·have c4:=nr c4;refine aD (fun c5=>?_) (fun c5=>?_)
      ·have c5:=nr c5;refine wn ?_;refine wn ?_;refine ihg1 _ ?_ ?_
       ·exact ob
       ·exact ob
      ·have c5:=nr c5;refine aD (fun c6=>?_) (fun c6=>?_)
       ·have c6:=nr c6;refine wn ?_;refine wn ?_;refine ihg1 _ ?_ ?_
        ·exact ob
        ·exact ob
       ·have c6:=nr c6;refine wn ?_;refine wn ?_;refine ihg1 _ ?_ ?_
        ·exact ob
        ·exact ob
   ·have c2:=nr c2;unfold ig;refine ay (aQ ob ob ob) fun v16 hv16=>?_;obtain ⟨hv16_1,hv16_2,hv16_3,hv16_4,hv16_5⟩:=hv16;refine wn ?_;refine aD (fun c7=>?_) (fun c7=>?_)
    ·have c7:=nr c7;refine wn ?_;refine wn ?_;refine ihg1 _ ?_ ?_
     ·exact ob
     ·exact ob
    ·have c7:=nr c7;refine aD (fun c8=>?_) (fun c8=>?_)
     ·have c8:=nr c8;refine wn ?_;refine wn ?_;refine ihg1 _ ?_ ?_
      ·exact ob
      ·exact ob
     ·have c8:=nr c8;refine aD (fun c9=>?_) (fun c9=>?_)
      ·have c9:=nr c9;refine wn ?_;refine wn ?_;refine ihg1 _ ?_ ?_
       ·exact ob
       ·exact ob
      ·have c9:=nr c9;refine aD (fun c10=>?_) (fun c10=>?_)
       ·have c10:=nr c10;refine wn ?_;refine wn ?_;refine ihg1 _ ?_ ?_
        ·exact ob
        ·exact ob
       ·have c10:=nr c10;refine wn ?_;refine wn ?_;refine ihg1 _ ?_ ?_
        ·exact ob
        ·exact ob
  ·have c1:=nr c1;refine ak ?_;exact ob
 ·exact ob
theorem GR {o0_:aZ} (h1:0≤o0_.At) (h2:o0_.L.length≤600):W (mI o0_) (fun r=>r.1.Groups.length≤5∧(∀c∈r.1.Groups,c.bT.length≤10∧c.Functions.length≤2)∧0≤r.2.At∧r.2.L.length≤600):=by
 unfold mI;refine ay (gP ob ob ob ob ob ob) fun v1 hv1=>?_;obtain ⟨hv1_1,hv1_2,hv1_3,hv1_4,hv1_5⟩:=hv1;refine ay (aQ ob ob ob) fun v2 hv2=>?_;obtain ⟨hv2_1,hv2_2,hv2_3,hv2_4,hv2_5⟩:=hv2;refine bD (fun (g1:(Int×(List Int)×Int×(List aY)))=>0≤g1.1∧0≤g1.2.2.1∧g1.2.1.length≤600∧(g1.2.2.2.length:Int)+g1.1≤5∧(∀c∈g1.2.2.2,c.bT.length≤10∧c.Functions.length≤2)) (fun (g1:(Int×(List Int)×Int×(List aY)))=>g1.1.toNat) ?_ ?_
 ·intro self1 g1 hig1 ihg1;obtain ⟨hg1_1,hg1_2,hg1_3,hg1_4,hg1_5⟩:=hig1;unfold uz;refine aD (fun c1=>?_) (fun c1=>?_)
  ·have c1:=nr c1;refine wn ?_;refine bV (by (rw [U2,show ({ data:=#[103] }:ByteArray).size=1 from rfl]; simp only [List.length_cons,List.length_nil]; omega)) ?_;refine ay (aQ ob ob ob) fun v35 hv35=>?_;obtain ⟨hv35_1,hv35_2,hv35_3,hv35_4,hv35_5⟩:=hv35;refine bD (fun (g12:(Int×(List Int)×Int×(List Int)))=>0≤g12.1∧0≤g12.2.2.1∧g12.2.1.length≤600∧(g12.2.2.2.length:Int)≤g12.1∧g12.1≤10) (fun (g12:(Int×(List Int)×Int×(List Int)))=>(10 - g12.1).toNat) ?_ ?_
   ·intro self12 g12 hig12 ihg12;obtain ⟨hg12_1,hg12_2,hg12_3,hg12_4,hg12_5⟩:=hig12;unfold uy;refine aD (fun c2=>?_) (fun c2=>?_)
    ·have c2:=nr c2;refine ay (gP ob ob ob ob ob ob) fun v38 hv38=>?_;obtain ⟨hv38_1,hv38_2,hv38_3,hv38_4,hv38_5⟩:=hv38;refine wn ?_;refine aD (fun c3=>?_) (fun c3=>?_)
     ·have c3:=nr c3;refine wn ?_;refine wn ?_;refine ihg12 _ ?_ ?_
      ·exact ob
      ·exact ob
     ·have c3:=nr c3;refine aD (fun c4=>?_) (fun c4=>?_)
      ·have c4:=nr c4;unfold iH;refine ay (aQ ob ob ob) fun v39 hv39=>?_;obtain ⟨hv39_1,hv39_2,hv39_3,hv39_4,hv39_5⟩:=hv39;refine ay (iC) fun v40 hv40=>?_;subst hv40;refine wn ?_;refine ay (aQ ob ob ob) fun v43 hv43=>?_;obtain ⟨hv43_1,hv43_2,hv43_3,hv43_4,hv43_5⟩:=hv43;refine aD (fun c5=>?_) (fun c5=>?_)
       ·have c5:=nr c5;refine ay (iC) fun v44 hv44=>?_;subst hv44;refine wn ?_;refine wn ?_;refine wn ?_;refine wn ?_;unfold eU;refine wn ?_;refine wn ?_;refine ihg1 _ ?_ ?_
        ·exact ob
        ·exact ob
       ·have c5:=nr c5;unfold eU;refine wn ?_;refine wn ?_;refine ihg1 _ ?_ ?_
        ·exact ob
        ·exact ob
      ·have c4:=nr c4;unfold iH;refine ay (aQ ob ob ob) fun v39 hv39=>?_;obtain ⟨hv39_1,hv39_2,hv39_3,hv39_4,hv39_5⟩:=hv39;refine ay (iC) fun v40 hv40=>?_;subst hv40;refine wn ?_;refine ay (aQ ob ob ob) fun v43 hv43=>?_;obtain ⟨hv43_1,hv43_2,hv43_3,hv43_4,hv43_5⟩:=hv43;refine aD (fun c6=>?_) (fun c6=>?_)
       ·have c6:=nr c6;refine ay (iC) fun v44 hv44=>?_;subst hv44;refine wn ?_;refine wn ?_;refine wn ?_;refine wn ?_;unfold eU;refine wn ?_;refine wn ?_;refine ihg1 _ ?_ ?_
        ·exact ob
        ·exact ob
       ·have c6:=nr c6;unfold eU;refine wn ?_;refine wn ?_;refine ihg1 _ ?_ ?_
        ·exact ob
        ·exact ob
    ·have c2:=nr c2;refine wn ?_;refine aD (fun c7=>?_) (fun c7=>?_)
     ·have c7:=nr c7;unfold gN;refine ay (aQ ob ob ob) fun v45 hv45=>?_;obtain ⟨hv45_1,hv45_2,hv45_3,hv45_4,hv45_5⟩:=hv45;refine ay (iC) fun v46 hv46=>?_;subst hv46;refine wn ?_;refine ay (aQ ob ob ob) fun v49 hv49=>?_;obtain ⟨hv49_1,hv49_2,hv49_3,hv49_4,hv49_5⟩:=hv49;refine aD (fun c8=>?_) (fun c8=>?_)
      ·have c8:=nr c8;refine ay (iC) fun v50 hv50=>?_;subst hv50;refine wn ?_;refine wn ?_;refine wn ?_;refine wn ?_;unfold dX;refine wn ?_;refine wn ?_;refine ihg1 _ ?_ ?_
       ·exact ob
       ·exact ob
      ·have c8:=nr c8;unfold dX;refine wn ?_;refine wn ?_;refine ihg1 _ ?_ ?_
       ·exact ob
       ·exact ob
     ·have c7:=nr c7;unfold gN;refine ay (aQ ob ob ob) fun v45 hv45=>?_;obtain ⟨hv45_1,hv45_2,hv45_3,hv45_4,hv45_5⟩:=hv45;refine ay (iC) fun v46 hv46=>?_;subst hv46;refine wn ?_;refine ay (aQ ob ob ob) fun v49 hv49=>?_;obtain ⟨hv49_1,hv49_2,hv49_3,hv49_4,hv49_5⟩:=hv49;refine aD (fun c9=>?_) (fun c9=>?_)
      ·have c9:=nr c9;refine ay (iC) fun v50 hv50=>?_;subst hv50;refine wn ?_;refine wn ?_;refine wn ?_;refine wn ?_;unfold dX;refine wn ?_;refine wn ?_;refine ihg1 _ ?_ ?_
       ·exact ob
       ·exact ob
      ·have c9:=nr c9;unfold dX;refine wn ?_;refine wn ?_;refine ihg1 _ ?_ ?_
       ·exact ob
       ·exact ob
   ·exact ob
  ·have c1:=nr c1;refine ak ?_;exact ob
 ·exact ob
theorem Iw {o0_:aZ} (h1:0≤o0_.At) (h2:o0_.L.length≤600):W (nQ o0_) (fun r=>YP r.1∧0≤r.2.At∧r.2.L.length≤600):=by
 unfold nQ;refine ay (GQ ob ob) fun v1 hv1=>?_;obtain ⟨hv1_1,hv1_2,hv1_3,hv1_4⟩:=hv1;refine ay (Ed ob ob) fun v2 hv2=>?_;obtain ⟨hv2_1,hv2_2,hv2_3,hv2_4⟩:=hv2;refine ay (GR ob ob) fun v3 hv3=>?_;obtain ⟨hv3_1,hv3_2,hv3_3,hv3_4⟩:=hv3;refine ay (GN ob ob ob ob) fun v4 hv4=>?_;obtain ⟨hv4_1,hv4_2,hv4_3,hv4_4⟩:=hv4;refine ay (Fw ob ob ob ob) fun v5 hv5=>?_;obtain ⟨hv5_1,hv5_2,hv5_3⟩:=hv5;refine ak ?_;(refine ⟨⟨by exact ob,hv1_2,by exact ob,hv2_2,by exact ob,hv3_2,by exact ob,hv4_2,by exact ob⟩,by exact ob,by exact ob⟩)
theorem Iy {b_:bQ} {o0_:aZ} (h1:b_.bY.length≤100) (h2:0≤o0_.At) (h3:o0_.L.length≤600):W (nR b_ o0_) (fun r=>0≤r.2.At∧r.2.L.length≤600):=by
 unfold nR;refine ay (aQ ob ob ob) fun v1 hv1=>?_;obtain ⟨hv1_1,hv1_2,hv1_3,hv1_4,hv1_5⟩:=hv1;refine ay (cZ ob ob ob ob) fun v2 hv2=>?_;obtain ⟨hv2_1,hv2_2,hv2_3⟩:=hv2;refine ay (cZ ob ob ob ob) fun v3 hv3=>?_;obtain ⟨hv3_1,hv3_2,hv3_3⟩:=hv3;refine ak ?_;exact ob
theorem JQ {b_:bQ} {o0_:aZ} (h1:b_.bH.length≤100) (h2:0≤o0_.At) (h3:o0_.L.length≤600):W (pI b_ o0_) (fun r=>0≤r.2.At∧r.2.L.length≤600):=by
 unfold pI;refine ay (aQ ob ob ob) fun v1 hv1=>?_;obtain ⟨hv1_1,hv1_2,hv1_3,hv1_4,hv1_5⟩:=hv1;refine ay (cZ ob ob ob ob) fun v2 hv2=>?_;obtain ⟨hv2_1,hv2_2,hv2_3⟩:=hv2;refine ay (cZ ob ob ob ob) fun v3 hv3=>?_;obtain ⟨hv3_1,hv3_2,hv3_3⟩:=hv3;refine ay (cZ ob ob ob ob) fun v4 hv4=>?_;obtain ⟨hv4_1,hv4_2,hv4_3⟩:=hv4;refine ak ?_;exact ob
theorem oM {v1:(Int×aZ)} {g1:(Int×(List Int)×Int×(List aV))} {self1:(Int×(List Int)×Int×(List aV))→M ((List aV)×aZ)} {v46:(Int×aZ)} {g14:((List Int)×Int×(List bC))} {g15:((List Int)×Int×(List aM))} {g16:((List Int)×Int×(List ByteArray))} {v53:((List Int)×aZ)} {g18:((List Int)×Int×(List Int))} {Q:((List aV)×aZ)→Prop} (ihg1:∀s':(Int×(List Int)×Int×(List aV)),(0≤s'.1∧s'.1≤v1.1∧0≤s'.2.2.1∧s'.2.1.length≤600∧(s'.2.2.2.length:Int)=s'.1∧(∀x∈s'.2.2.2,x.Limits.length≤1∧x.Draws.length≤1∧x.Functions.length≤2∧x.Resets.length≤100∧x.bA.length≤100∧(∀p∈x.bA,0≤p∧p<v1.1)))→(v1.1 - s'.1).toNat<(v1.1 - g1.1).toNat→W (self1 s') Q) (hc:0≤g18.2.1∧g18.1.length≤600∧g18.2.2.length≤100∧(∀p∈g18.2.2,0≤p∧p<v1.1)∧g14.2.2.length≤1∧g15.2.2.length≤1∧g16.2.2.length≤2∧v53.1.length≤100∧0≤g1.1∧g1.1<v1.1∧v1.1≤51∧(g1.2.2.2.length:Int)=g1.1∧(∀x∈g1.2.2.2,x.Limits.length≤1∧x.Draws.length≤1∧x.Functions.length≤2∧x.Resets.length≤100∧x.bA.length≤100∧(∀p∈x.bA,0≤p∧p<v1.1))):W (iq g1 self1 v46 g14 g15 g16 v53 g18) Q:=by
 obtain ⟨hc_1,hc_2,hc_3,hc_4,hc_5,hc_6,hc_7,hc_8,hc_9,hc_10,hc_11,hc_12,hc_13⟩:=hc;unfold iq;refine wn ?_;refine wn ?_;refine ihg1 _ ?_ ?_
 ·exact ob
 ·exact ob
theorem oN {v1:(Int×aZ)} {g1:(Int×(List Int)×Int×(List aV))} {self1:(Int×(List Int)×Int×(List aV))→M ((List aV)×aZ)} {v46:(Int×aZ)} {g14:((List Int)×Int×(List bC))} {g15:((List Int)×Int×(List aM))} {g16:((List Int)×Int×(List ByteArray))} {v53:((List Int)×aZ)} {g19:(Int×(List Int)×Int)} {Q:((List aV)×aZ)→Prop} (ihg1:∀s':(Int×(List Int)×Int×(List aV)),(0≤s'.1∧s'.1≤v1.1∧0≤s'.2.2.1∧s'.2.1.length≤600∧(s'.2.2.2.length:Int)=s'.1∧(∀x∈s'.2.2.2,x.Limits.length≤1∧x.Draws.length≤1∧x.Functions.length≤2∧x.Resets.length≤100∧x.bA.length≤100∧(∀p∈x.bA,0≤p∧p<v1.1)))→(v1.1 - s'.1).toNat<(v1.1 - g1.1).toNat→W (self1 s') Q) (hc:0≤g19.2.2∧g19.2.1.length≤600∧0≤g19.1∧g19.1≤51∧g14.2.2.length≤1∧g15.2.2.length≤1∧g16.2.2.length≤2∧v53.1.length≤100∧g19.1≤v1.1∧0≤g1.1∧g1.1<v1.1∧v1.1≤51∧(g1.2.2.2.length:Int)=g1.1∧(∀x∈g1.2.2.2,x.Limits.length≤1∧x.Draws.length≤1∧x.Functions.length≤2∧x.Resets.length≤100∧x.bA.length≤100∧(∀p∈x.bA,0≤p∧p<v1.1))):W (iw g1 self1 v46 g14 g15 g16 v53 g19) Q:=by
 obtain ⟨hc_1,hc_2,hc_3,hc_4,hc_5,hc_6,hc_7,hc_8,hc_9,hc_10,hc_11,hc_12,hc_13,hc_14⟩:=hc;unfold iw;refine ay (qW ob ob ob ob ob ob) fun v60 hv60=>?_;obtain ⟨hv60_1,hv60_2,hv60_3,hv60_4⟩:=hv60;exact oM (v1:=v1) (fun a b c=>ihg1 a b c) (by (refine ⟨by exact ob,by exact ob,by exact ob,fun p hp=>(by have:=hv60_2 p hp; omega),by exact ob,by exact ob,by exact ob,by exact ob,by exact ob,by exact ob,by exact ob,by exact ob,hc_14⟩))
theorem oO {b_:bQ} {v1:(Int×aZ)} {g1:(Int×(List Int)×Int×(List aV))} {self1:(Int×(List Int)×Int×(List aV))→M ((List aV)×aZ)} {v46:(Int×aZ)} {g14:((List Int)×Int×(List bC))} {g15:((List Int)×Int×(List aM))} {g16:((List Int)×Int×(List ByteArray))} {Q:((List aV)×aZ)→Prop} (ihg1:∀s':(Int×(List Int)×Int×(List aV)),(0≤s'.1∧s'.1≤v1.1∧0≤s'.2.2.1∧s'.2.1.length≤600∧(s'.2.2.2.length:Int)=s'.1∧(∀x∈s'.2.2.2,x.Limits.length≤1∧x.Draws.length≤1∧x.Functions.length≤2∧x.Resets.length≤100∧x.bA.length≤100∧(∀p∈x.bA,0≤p∧p<v1.1)))→(v1.1 - s'.1).toNat<(v1.1 - g1.1).toNat→W (self1 s') Q) (hc:0≤g16.2.1∧g16.1.length≤600∧g14.2.2.length≤1∧g15.2.2.length≤1∧g16.2.2.length≤2∧b_.Resets.length≤4∧0≤g1.1∧g1.1<v1.1∧v1.1≤51∧(g1.2.2.2.length:Int)=g1.1∧(∀x∈g1.2.2.2,x.Limits.length≤1∧x.Draws.length≤1∧x.Functions.length≤2∧x.Resets.length≤100∧x.bA.length≤100∧(∀p∈x.bA,0≤p∧p<v1.1))):W (iy b_ v1 g1 self1 v46 g14 g15 g16) Q:=by
 obtain ⟨hc_1,hc_2,hc_3,hc_4,hc_5,hc_6,hc_7,hc_8,hc_9,hc_10,hc_11⟩:=hc;unfold iy;refine ay (qW ob ob ob ob ob ob) fun v53 hv53=>?_;obtain ⟨hv53_1,hv53_2,hv53_3,hv53_4⟩:=hv53;refine ay (aQ ob ob ob) fun v58 hv58=>?_;obtain ⟨hv58_1,hv58_2,hv58_3,hv58_4,hv58_5⟩:=hv58;refine aD (fun c1=>?_) (fun c1=>?_)
 ·have c1:=nr c1;refine ay (aQ ob ob ob) fun v61 hv61=>?_;obtain ⟨hv61_1,hv61_2,hv61_3,hv61_4,hv61_5⟩:=hv61;refine aD (fun c2=>?_) (fun c2=>?_)
  ·have c2:=nr c2;exact oN (v1:=v1) (fun a b c=>ihg1 a b c) ob
  ·have c2:=nr c2;exact oN (v1:=v1) (fun a b c=>ihg1 a b c) ob
 ·have c1:=nr c1;exact oM (v1:=v1) (fun a b c=>ihg1 a b c) ob
theorem kg {b_:bQ} {v1:(Int×aZ)} {g1:(Int×(List Int)×Int×(List aV))} {self1:(Int×(List Int)×Int×(List aV))→M ((List aV)×aZ)} {v46:(Int×aZ)} {g14:((List Int)×Int×(List bC))} {g15:((List Int)×Int×(List aM))} {Q:((List aV)×aZ)→Prop} (ihg1:∀s':(Int×(List Int)×Int×(List aV)),(0≤s'.1∧s'.1≤v1.1∧0≤s'.2.2.1∧s'.2.1.length≤600∧(s'.2.2.2.length:Int)=s'.1∧(∀x∈s'.2.2.2,x.Limits.length≤1∧x.Draws.length≤1∧x.Functions.length≤2∧x.Resets.length≤100∧x.bA.length≤100∧(∀p∈x.bA,0≤p∧p<v1.1)))→(v1.1 - s'.1).toNat<(v1.1 - g1.1).toNat→W (self1 s') Q) (hc:0≤g15.2.1∧g15.1.length≤600∧g14.2.2.length≤1∧g15.2.2.length≤1∧b_.Resets.length≤4∧0≤g1.1∧g1.1<v1.1∧v1.1≤51∧(g1.2.2.2.length:Int)=g1.1∧(∀x∈g1.2.2.2,x.Limits.length≤1∧x.Draws.length≤1∧x.Functions.length≤2∧x.Resets.length≤100∧x.bA.length≤100∧(∀p∈x.bA,0≤p∧p<v1.1))):W (fK b_ v1 g1 self1 v46 g14 g15) Q:=by
 obtain ⟨hc_1,hc_2,hc_3,hc_4,hc_5,hc_6,hc_7,hc_8,hc_9,hc_10⟩:=hc;unfold fK;refine ay (aQ ob ob ob) fun v62 hv62=>?_;obtain ⟨hv62_1,hv62_2,hv62_3,hv62_4,hv62_5⟩:=hv62;refine aD (fun c1=>?_) (fun c1=>?_)
 ·have c1:=nr c1;refine ay (Fv ob ob ob ob) fun v63 hv63=>?_;obtain ⟨hv63_1,hv63_2,hv63_3⟩:=hv63;exact oO (fun a b c=>ihg1 a b c) ob
 ·have c1:=nr c1;exact oO (fun a b c=>ihg1 a b c) ob
theorem kN {b_:bQ} {v1:(Int×aZ)} {g1:(Int×(List Int)×Int×(List aV))} {self1:(Int×(List Int)×Int×(List aV))→M ((List aV)×aZ)} {v46:(Int×aZ)} {g14:((List Int)×Int×(List bC))} {Q:((List aV)×aZ)→Prop} (ihg1:∀s':(Int×(List Int)×Int×(List aV)),(0≤s'.1∧s'.1≤v1.1∧0≤s'.2.2.1∧s'.2.1.length≤600∧(s'.2.2.2.length:Int)=s'.1∧(∀x∈s'.2.2.2,x.Limits.length≤1∧x.Draws.length≤1∧x.Functions.length≤2∧x.Resets.length≤100∧x.bA.length≤100∧(∀p∈x.bA,0≤p∧p<v1.1)))→(v1.1 - s'.1).toNat<(v1.1 - g1.1).toNat→W (self1 s') Q) (hc:0≤g14.2.1∧g14.1.length≤600∧g14.2.2.length≤1∧b_.Resets.length≤4∧b_.bH.length≤3∧0≤g1.1∧g1.1<v1.1∧v1.1≤51∧(g1.2.2.2.length:Int)=g1.1∧(∀x∈g1.2.2.2,x.Limits.length≤1∧x.Draws.length≤1∧x.Functions.length≤2∧x.Resets.length≤100∧x.bA.length≤100∧(∀p∈x.bA,0≤p∧p<v1.1))):W (gB b_ v1 g1 self1 v46 g14) Q:=by
 obtain ⟨hc_1,hc_2,hc_3,hc_4,hc_5,hc_6,hc_7,hc_8,hc_9,hc_10⟩:=hc;unfold gB;refine aD (fun c1=>?_) (fun c1=>?_)
 ·have c1:=nr c1;refine ay (aQ ob ob ob) fun v64 hv64=>?_;obtain ⟨hv64_1,hv64_2,hv64_3,hv64_4,hv64_5⟩:=hv64;refine aD (fun c2=>?_) (fun c2=>?_)
  ·have c2:=nr c2;refine ay (JQ ob ob ob) fun v65 hv65=>?_;obtain ⟨hv65_1,hv65_2⟩:=hv65;refine wn ?_;exact kg (fun a b c=>ihg1 a b c) ob
  ·have c2:=nr c2;exact kg (fun a b c=>ihg1 a b c) ob
 ·have c1:=nr c1;refine wn ?_;exact kg (fun a b c=>ihg1 a b c) ob
theorem Fx {b_:bQ} {most_:Int} {o0_:aZ} (h1:YP b_) (h2:0≤most_) (h3:most_≤50) (h4:0≤o0_.At) (h5:o0_.L.length≤600):W (lH b_ most_ o0_) (fun r=>r.1.length≤most_.toNat∧(∀x∈r.1,x.Limits.length≤1∧x.Draws.length≤1∧x.Functions.length≤2∧x.Resets.length≤100∧x.bA.length≤100∧(∀p∈x.bA,0≤p∧p<(r.1.length:Int)))∧0≤r.2.At∧r.2.L.length≤600):=by
 obtain ⟨q1,q2,q3,q4,q5,q6,q7,q8,q9⟩:=h1;unfold lH;refine wn ?_;refine ay (aQ ob ob ob) fun v1 hv1=>?_;obtain ⟨hv1_1,hv1_2,hv1_3,hv1_4,hv1_5⟩:=hv1;refine bD (fun (g1:(Int×(List Int)×Int×(List aV)))=>0≤g1.1∧g1.1≤v1.1∧0≤g1.2.2.1∧g1.2.1.length≤600∧(g1.2.2.2.length:Int)=g1.1∧(∀x∈g1.2.2.2,x.Limits.length≤1∧x.Draws.length≤1∧x.Functions.length≤2∧x.Resets.length≤100∧x.bA.length≤100∧(∀p∈x.bA,0≤p∧p<v1.1))) (fun (g1:(Int×(List Int)×Int×(List aV)))=>(v1.1 - g1.1).toNat) ?_ ?_
 ·intro self1 g1 hig1 ihg1;obtain ⟨hg1_1,hg1_2,hg1_3,hg1_4,hg1_5,hg1_6⟩:=hig1;unfold sM;refine aD (fun c1=>?_) (fun c1=>?_)
  ·have c1:=nr c1;refine wn ?_;refine ay (gP ob ob ob ob ob ob) fun v46 hv46=>?_;obtain ⟨hv46_1,hv46_2,hv46_3,hv46_4,hv46_5⟩:=hv46;refine aD (fun c2=>?_) (fun c2=>?_)
   ·have c2:=nr c2;refine ay (aQ ob ob ob) fun v66 hv66=>?_;obtain ⟨hv66_1,hv66_2,hv66_3,hv66_4,hv66_5⟩:=hv66;refine aD (fun c3=>?_) (fun c3=>?_)
    ·have c3:=nr c3;refine ay (Iy ob ob ob) fun v67 hv67=>?_;obtain ⟨hv67_1,hv67_2⟩:=hv67;refine wn ?_;exact kN (fun a b c=>ihg1 a b c) ob
    ·have c3:=nr c3;exact kN (fun a b c=>ihg1 a b c) ob
   ·have c2:=nr c2;refine wn ?_;exact kN (fun a b c=>ihg1 a b c) ob
  ·have c1:=nr c1;have hlen:(g1.2.2.2.length:Int)=v1.1:=by omega
   refine aD (fun c4=>?_) (fun c4=>?_)
   ·have c4:=nr c4;refine ay (aQ ob ob ob) fun v68 hv68=>?_;obtain ⟨hv68_1,hv68_2,hv68_3,hv68_4,hv68_5⟩:=hv68;refine aD (fun c5=>?_) (fun c5=>?_)
    ·have c5:=nr c5;refine wn ?_;refine bD (fun (g20:(Int×Int×(List aV)))=>0≤g20.1 ∧ -1≤g20.2.1∧g20.2.1<v1.1∧g20.1≤v1.1∧(g20.2.2.length:Int)=v1.1∧(∀x∈g20.2.2,x.Limits.length≤1∧x.Draws.length≤1∧x.Functions.length≤2∧x.Resets.length≤100∧x.bA.length≤100∧(∀p∈x.bA,0≤p∧p<v1.1))) (fun (g20:(Int×Int×(List aV)))=>(g20.2.1 - g20.1).toNat) ?_ ?_
     ·intro self20 g20 hig20 ihg20;obtain ⟨hg20_1,hg20_2,hg20_3,hg20_4,hg20_5,hg20_6⟩:=hig20;unfold qE;refine aD (fun c6=>?_) (fun c6=>?_)
      ·have c6:=nr c6;refine wn ?_;refine wn ?_;refine wn ?_;refine wn ?_;refine wn ?_;refine wn ?_;refine ihg20 _ ?_ ?_
       ·(refine ⟨by exact ob,by exact ob,by exact ob,by exact ob,by exact ob,QV (QV hg20_6 (hg20_6 _ (getD_in _ (by omega)))) (hg20_6 _ (getD_in _ (by omega)))⟩)
       ·exact ob
      ·have c6:=nr c6;refine bD (fun (g21:(Int×(List aV)))=>0≤g21.1∧(g21.2.length:Int)=v1.1∧(∀x∈g21.2,x.Limits.length≤1∧x.Draws.length≤1∧x.Functions.length≤2∧x.Resets.length≤100∧x.bA.length≤100∧(∀p∈x.bA,0≤p∧p<v1.1))) (fun (g21:(Int×(List aV)))=>(v1.1 - g21.1).toNat) ?_ ?_
       ·intro self21 g21 hig21 ihg21;obtain ⟨hg21_1,hg21_2,hg21_3⟩:=hig21;unfold qD;refine aD (fun c7=>?_) (fun c7=>?_)
        ·have c7:=nr c7;have q:=hg21_3 (g21.2.getD g21.1.toNat bJ) (getD_in _ (by omega));refine wn ?_;refine wn ?_;refine bD (fun (g24:(Int×(List Int))) => -1≤g24.1∧g24.1<(g21.2.getD g21.1.toNat bJ).bA.length∧(g24.2.length:Int)+g24.1<(g21.2.getD g21.1.toNat bJ).bA.length∧(∀p∈g24.2,0≤p∧p<v1.1)) (fun (g24:(Int×(List Int)))=>(g24.1+1).toNat) ?_ ?_
         ·intro self24 g24 hig24 ihg24;obtain ⟨hg24_1,hg24_2,hg24_3,hg24_4⟩:=hig24;unfold qC;refine aD (fun c8=>?_) (fun c8=>?_)
          ·have c8:=nr c8;have q2:=q.2.2.2.2.2 _ (getD_in (i:=g24.1.toNat) 0 (by omega));refine wn ?_;refine wn ?_;refine wn ?_;refine wn ?_;refine wn ?_;refine wn ?_;refine ihg24 _ ?_ ?_
           ·exact ob
           ·exact ob
          ·have c8:=nr c8;refine wn ?_;refine wn ?_;refine ihg21 _ ?_ ?_
           ·(refine ⟨by exact ob,by exact ob,QV hg21_3 ⟨q.1,q.2.1,q.2.2.1,q.2.2.2.1,by exact ob,hg24_4⟩⟩)
           ·exact ob
         ·exact ob
        ·have c7:=nr c7;refine ak ?_;(refine ⟨by exact ob,fun x hx=>?_,by exact ob,by exact ob⟩; have q:=hg21_3 x hx; rw [hg21_2]; exact q)
       ·exact ob
     ·exact ob
    ·have c5:=nr c5;refine ak ?_;(refine ⟨by exact ob,fun x hx=>?_,by exact ob,by exact ob⟩; have q:=hg1_6 x hx; rw [hlen]; exact q)
   ·have c4:=nr c4;refine wn ?_;refine ak ?_;(refine ⟨by exact ob,fun x hx=>?_,by exact ob,by exact ob⟩; have q:=hg1_6 x hx; rw [hlen]; exact q)
 ·exact ob
end Go.Proofs.YtfblhejmclcdmaaGreatDoor


namespace Go.Proofs.YtfblhejmclcdmaaGreatDoor
open Go.Ab
set_option maxRecDepth 100000
deriving instance DecidableEq for av,aP,bC
def withinF (n lo hi:Int):Bool:=decide (lo≤n)&&decide (n≤hi)
def pV (lo hi:Int):List Int→List Int→Bool
 | _,[]=>true
 | pre,n::r=>bif !(withinF n lo hi)||pre.contains n then false else pV lo hi (pre++[n]) r
theorem Mc {lo hi n:Int} {pre r:List Int} (h:(!(withinF n lo hi)||pre.contains n)=true):pV lo hi pre (n::r)=false:=by rw [pV,h]; rfl
theorem QW {lo hi n:Int} {pre r:List Int} (h:(!(withinF n lo hi)||pre.contains n)=false):pV lo hi pre (n::r)=pV lo hi (pre++[n]) r:=by rw [pV,h]; rfl
def gD (a b:Int):Int:=(Nat.gcd a.toNat b.toNat:Nat)
def validR (r:aP):Bool:=decide (0≤r.Num)&&decide (r.Num≤144115188075855872)&&decide (1≤r.Den)&&decide (r.Den≤16777216)&&(gD r.Num r.Den==1)
def newR (num den:Int):aP×Int:=bif decide (num<0)||decide (den<1) then (⟨0,0⟩,2) else
 bif !validR ⟨num.tdiv (gD num den),den.tdiv (gD num den)⟩ then (⟨0,0⟩,2) else (⟨num.tdiv (gD num den),den.tdiv (gD num den)⟩,0)
theorem sP (a b:Int) (h:0<b):0<gD a b:=by
 unfold gD;have:0<b.toNat:=by omega
 have:=Nat.gcd_pos_of_pos_right a.toNat this;omega
theorem tdiv_le (a k:Int) (ha:0≤a) (hk:0<k):0≤a.tdiv k∧a.tdiv k≤a:=by
 rw [Int.tdiv_eq_ediv_of_nonneg ha];exact ⟨Int.ediv_nonneg ha (by omega),Int.ediv_le_self _ ha⟩
def pW (k:Int):Bool:=decide (1≤k)&&decide (k≤64)
def kZ (r:aP) (k:Int):aP×Int:=bif !validR r then (⟨0,0⟩,1) else bif !pW k then (⟨0,0⟩,2) else
 bif decide ((144115188075855872:Int).tdiv (k.tdiv (gD k r.Den))<r.Num) then (⟨0,0⟩,2) else newR (r.Num*(k.tdiv (gD k r.Den))) (r.Den.tdiv (gD k r.Den))
def sQ (r:aP) (k:Int):aP×Int:=bif !validR r then (⟨0,0⟩,1) else bif !pW k then (⟨0,0⟩,2) else newR r.Num (r.Den*k)
theorem ou {r:aP} (h:validR r=true):0≤r.Num∧r.Num≤144115188075855872∧1≤r.Den∧r.Den≤16777216∧gD r.Num r.Den=1:=by
 unfold validR at h;simp at h;omega
theorem abT (k d:Int) (hk:1≤k∧k≤64) (hd:1≤d):1≤k.tdiv (gD k d)∧k.tdiv (gD k d)≤64:=by
 have hg:=sP k d (by omega);have h1:=tdiv_le k (gD k d) (by omega) hg;have hdvd:Nat.gcd k.toNat d.toNat∣k.toNat:=Nat.gcd_dvd_left _ _;have h2:0<k.toNat / Nat.gcd k.toNat d.toNat:=Nat.div_pos (Nat.le_of_dvd (by omega) hdvd) (by unfold gD at hg; omega);have h3:k.tdiv (gD k d)=((k.toNat / Nat.gcd k.toNat d.toNat:Nat):Int):=by
  unfold gD;rw [Int.tdiv_eq_ediv_of_nonneg (by omega)];have:k=(k.toNat:Int):=by omega
  rw [Int.natCast_ediv,← this]
 omega
theorem Xm (a b:Int) (ha:0≤a) (hb:1≤b) (h:a≤(144115188075855872:Int).tdiv b):0≤a*b∧a*b≤144115188075855872:=by
 rw [Int.tdiv_eq_ediv_of_nonneg (by decide)] at h;have:=(Int.le_ediv_iff_mul_le (by omega)).1 h;exact ⟨Int.mul_nonneg ha (by omega),this⟩
theorem Iz (c a b:Nat) (hc:0<c) (hb:0<b):newR (c*a:Nat) (c*b:Nat)=newR a b:=by
 have hcb:0<c*b:=Nat.mul_pos hc hb;have g0:0<Nat.gcd a b:=Nat.gcd_pos_of_pos_right a hb;have e1:gD (c*a:Nat) (c*b:Nat)=((c*Nat.gcd a b:Nat):Int):=by
  unfold gD;rw [Int.toNat_natCast,Int.toNat_natCast,Nat.gcd_mul_left]
 have e2:gD (a:Nat) (b:Nat)=(Nat.gcd a b:Nat):=by
  unfold gD;rw [Int.toNat_natCast,Int.toNat_natCast]
 have d:∀x:Nat,((c*x:Nat):Int).tdiv ((c*Nat.gcd a b:Nat):Int)=(x:Int).tdiv (Nat.gcd a b:Nat):=by
  intro x;rw [← Int.ofNat_tdiv,← Int.ofNat_tdiv,Nat.mul_div_mul_left _ _ hc]
 unfold newR;have c1:(decide (((c*a:Nat):Int)<0)||decide (((c*b:Nat):Int)<1))=false:=by
  have h1:¬ (((c*b:Nat):Int)<1):=Int.not_lt.2 (Int.ofNat_le.2 hcb);rw [decide_eq_false (Int.not_lt.2 (Int.natCast_nonneg _)),decide_eq_false h1];rfl
 have c2:(decide ((a:Int)<0)||decide ((b:Int)<1))=false:=by simp; omega
 rw [c1,c2,e1,e2,d a,d b]
theorem Xn (num den k:Int) (hn:0≤num) (hd:1≤den) (hk:1≤k):newR (num.tdiv (gD num k)) (den*(k.tdiv (gD num k)))=newR num (den*k):=by
 obtain ⟨n,rfl⟩:=Int.eq_ofNat_of_zero_le hn;obtain ⟨d,rfl⟩:=Int.eq_ofNat_of_zero_le (show 0≤den by omega);obtain ⟨k,rfl⟩:=Int.eq_ofNat_of_zero_le (show 0≤k by omega);have hg:gD (n:Nat) (k:Nat)=(Nat.gcd n k:Nat):=by unfold gD; rw [Int.toNat_natCast,Int.toNat_natCast]
 rw [hg,← Int.ofNat_tdiv,← Int.ofNat_tdiv];have g0:0<Nat.gcd n k:=Nat.gcd_pos_of_pos_right n (by omega);obtain ⟨a,ha⟩:=Nat.gcd_dvd_left n k;obtain ⟨b,hb⟩:=Nat.gcd_dvd_right n k;have e1:n / Nat.gcd n k=a:=by rw [Nat.div_eq_of_eq_mul_right g0 ha]
 have e2:k / Nat.gcd n k=b:=by rw [Nat.div_eq_of_eq_mul_right g0 hb]
 rw [e1,e2];have hb0:0<b:=by
  rcases Nat.eq_zero_or_pos b with h | h
  ·rw [h] at hb; simp at hb; omega
  ·exact h
 have:=Iz (Nat.gcd n k) a (d*b) g0 (Nat.mul_pos (by omega) hb0);rw [← ha] at this;have e3:Nat.gcd n k*(d*b)=d*k:=by
  rw [Nat.mul_left_comm,← hb]
 rw [e3] at this;rw [← Int.natCast_mul,← Int.natCast_mul];exact this.symm
def rQ (r:aP) (lo hi:Int):Bool:=validR r&&(decide (lo≤r.Num.tdiv r.Den)&&(decide (r.Num.tdiv r.Den<hi)||(r.Num.tdiv r.Den==hi&&r.Num.tmod r.Den==0)))
def bigC (c:av):Bool:=decide (8<(c.Parents.length:Int))||decide (8<(c.Choices.length:Int))
def IB (n:Int) (x:bC):Bool:=!withinF x.Clock 0 (n - 1)||!withinF x.High 0 4000000000||!withinF x.Low 0 x.High
def eO (c:av):Bool:=
 bif c.Kind==1 then ((c.Parents.length:Int)==0)&&((c.Choices.length:Int)==1)&&withinF (c.Choices.getD 0 0) 1 4000000000
 else bif c.Kind==2||c.Kind==3 then ((c.Parents.length:Int)==1)&&decide (0<(c.Choices.length:Int))&&pV 1 64 [] c.Choices
 else bif c.Kind==4 then decide (0<(c.Choices.length:Int))&&pV 0 ((c.Parents.length:Int) - 1) [] c.Choices
 else bif c.Kind==5 then ((c.Parents.length:Int)==1)&&(c.Choices==[0,1])
 else false
def iI (c:av) (k:Int):Bool:=bif c.Parents.any (fun y=>!withinF y 0 (k - 1))||!withinF c.High 0 4000000000||!withinF c.Low 0 c.High then false else eO c
theorem aat (l:List Int) (hi:Int) (h:pV 0 hi [] l=true) (hl:0<l.length):0≤hi:=by
 cases l with
 | nil=>simp at hl
 | cons n l=>
  cases hw:withinF n 0 hi with
  | true=>simp [withinF] at hw; omega
  | false=>
   rw [Mc (by rw [hw]; rfl)] at h;cases h
def Fy (a b:Int):Int:=if b > a then b else a
def GU (c:av):Bool:=c.Kind==2||c.Kind==3
def je (acc:List Int) (l:List Int):Int:=l.foldl (fun n p=>Fy n (acc.getD p.toNat 0)) 0
def AB (acc:List Int) (c:av):Int:=bif GU c then je acc c.Parents+1 else je acc c.Parents
def dV (l:List av):List Int:=l.foldl (fun acc c=>acc++[AB acc c]) []
theorem vM (l:List av) (c:av):dV (l++[c])=dV l++[AB (dV l) c]:=by
 unfold dV;rw [List.foldl_append];rfl
def Wm (l:List av):Prop:=∀i,i<l.length→(l.getD i au).Parents.length≤1000000∧∀p∈(l.getD i au).Parents,0≤p∧p<i
theorem AJ (acc:List Int) (b:Int) (hb0:0≤b) (hb:∀j:Nat,0≤acc.getD j 0∧acc.getD j 0≤b) (l:List Int):0≤je acc l∧je acc l≤b:=by
 have:∀(l:List Int) (n:Int),0≤n∧n≤b→0≤l.foldl (fun n p=>Fy n (acc.getD p.toNat 0)) n∧l.foldl (fun n p=>Fy n (acc.getD p.toNat 0)) n≤b:=by
  intro l;induction l with
  | nil=>exact fun n h=>h
  | cons p r ih=>
   intro n hn;refine ih _ ?_;show 0≤Fy n (acc.getD p.toNat 0)∧Fy n (acc.getD p.toNat 0)≤b;unfold Fy;have:=hb p.toNat;split<;>omega
 exact this l 0 (by omega)
theorem gQ (l:List av):(dV l).length=l.length∧∀j:Nat,0≤(dV l).getD j 0∧(dV l).getD j 0≤l.length:=by
 induction l using Al with
 | nil=>exact ⟨rfl,fun j=>by rw [M9]; simp; exact Nat.zero_le _⟩
 | append_singleton l c ih=>
  obtain ⟨h1,h2⟩:=ih;rw [vM];have hb:=AJ (dV l) l.length (by omega) h2 c.Parents;have hf:0≤AB (dV l) c∧AB (dV l) c≤l.length+1:=by
   unfold AB;cases GU c<;>simp only [cond_true,cond_false]<;>omega
  refine ⟨by rw [List.length_append,List.length_append,h1]; rfl,fun j=>?_⟩;have hlen:((l++[c]).length:Int)=l.length+1:=by rw [List.length_append]; rfl
  rw [hlen];by_cases hj:j<l.length
  ·rw [lT 0 (by omega)];have:=h2 j;omega
  ·by_cases hj2:j=l.length
   ·rw [jh 0 (by omega)]; exact hf
   ·rw [M9 0 (by rw [List.length_append,h1]; simp; omega)];omega
def Lj (a b:Int):Int:=if b<a then b else a
def jo (l:List av):Int:=l.foldl (fun p c=>Lj (p*c.Choices.length) 1099511627776) 1
def SC (l:List av):Bool:=(List.range l.length).all fun i=>iI (l.getD i au) i
def bW (l:List av):Int:=bif decide (16<(l.length:Int))||l.any bigC then 3 else bif !SC l then 1 else bif decide (4096<jo l)||(dV l).any (fun n=>decide (4<n)) then 3 else 0
theorem P6 {l:List av} (h:∀i:Nat,i<l.length→iI (l.getD i au) i=true):SC l=true:=by
 unfold SC;rw [List.all_eq_true];intro i hi;exact h i (List.mem_range.1 hi)
theorem SE {l:List av} (h:SC l=true) (i:Nat) (hi:i<l.length):iI (l.getD i au) i=true:=by
 unfold SC at h;rw [List.all_eq_true] at h;exact h i (List.mem_range.2 hi)
theorem GV {l:List av} {i:Nat} (hi:i<l.length) (h:iI (l.getD i au) i=false):SC l=false:=by
 cases hv:SC l with
 | false=>rfl
 | true=>rw [SE hv i hi] at h; cases h
theorem jK {α:Type} {l:List α} {p:α→Bool} (d:α) (h:l.any p=false) (i:Nat) (hi:i<l.length):p (l.getD i d)=false:=by
 rw [List.any_eq_false] at h;simpa using h _ (fM d hi)
theorem pX {α:Type} {l:List α} {p:α→Bool} (d:α) {i:Nat} (hi:i<l.length) (h:p (l.getD i d)=true):l.any p=true:=List.any_eq_true.2 ⟨_,fM d hi,h⟩
theorem any_none {α:Type} {l:List α} {p:α→Bool} (d:α) (h:∀i,i<l.length→p (l.getD i d)=false):l.any p=false:=by
 rw [List.any_eq_false];intro x hx;obtain ⟨i,hi,rfl⟩:=List.mem_iff_getElem.1 hx;have:=h i hi;rw [List.getD_eq_getElem?_getD,List.getElem?_eq_getElem hi] at this;simpa using this
theorem Ee {c:av} (h:bigC c=false):c.Parents.length≤8∧c.Choices.length≤8:=by
 unfold bigC at h;simp at h;omega
theorem Ef (l:List av):0≤jo l∧jo l≤1099511627776:=by
 unfold jo;induction l using Al with
 | nil=>simp
 | append_singleton l c ih=>
  rw [List.foldl_append];show 0≤Lj (l.foldl _ 1*c.Choices.length) 1099511627776∧Lj (l.foldl _ 1*c.Choices.length) 1099511627776≤1099511627776;have:0≤l.foldl (fun p c=>Lj (p*(c:av).Choices.length) 1099511627776) 1*(c.Choices.length:Int):=Int.mul_nonneg ih.1 (by omega);generalize l.foldl (fun p c=>Lj (p*(c:av).Choices.length) 1099511627776) 1*(c.Choices.length:Int)=q at this;unfold Lj;split<;>omega
theorem YQ (l:List av) (n:Int) (h:0≤n∧n≤8):0≤jo l*n∧jo l*n≤1099511627776*8:=by
 have hb:=Ef l;exact ⟨Int.mul_nonneg hb.1 h.1,Int.mul_le_mul hb.2 h.2 h.1 (by omega)⟩
theorem within_iff (n lo hi:Int):withinF n lo hi=true↔lo≤n∧n≤hi:=by
 unfold withinF;simp
theorem JR {c:av} {k:Int} {j:Nat} (hj:j<c.Parents.length) (h:withinF (c.Parents.getD j 0) 0 (k - 1)=false):iI c k=false:=by
 unfold iI;have:c.Parents.any (fun y=>!withinF y 0 (k - 1))=true:=pX 0 hj (by show (!withinF (c.Parents.getD j 0) 0 (k - 1))=true; rw [h]; rfl);rw [this];rfl
theorem SF {c:av} {k:Int} (h:∀j,j<c.Parents.length→withinF (c.Parents.getD j 0) 0 (k - 1)=true):iI c k=!(!eO c||decide (c.Low<0)||decide (c.High<c.Low)||decide (4000000000<c.High)):=by
 have e:c.Parents.any (fun y=>!withinF y 0 (k - 1))=false:=any_none 0 fun j hj=>by show (!withinF (c.Parents.getD j 0) 0 (k - 1))=false; rw [h j hj]; rfl
 unfold iI;rw [e];cases hc:eO c with
 | false=>cases (false||!withinF c.High 0 4000000000||!withinF c.Low 0 c.High)<;>rfl
 | true=>
  by_cases hg:(0≤c.Low∧c.Low≤c.High)∧c.High≤4000000000
  ·have h1:withinF c.High 0 4000000000=true:=(within_iff _ _ _).2 (by omega);have h2:withinF c.Low 0 c.High=true:=(within_iff _ _ _).2 (by omega);rw [h1,h2,decide_eq_false (show ¬ c.Low<0 by omega),decide_eq_false (show ¬ c.High<c.Low by omega),decide_eq_false (show ¬ 4000000000<c.High by omega)];rfl
  ·have h1:(false||!withinF c.High 0 4000000000||!withinF c.Low 0 c.High)=true:=by
    simp only [Bool.false_or,Bool.or_eq_true,Bool.not_eq_true',← Bool.not_eq_true,within_iff];omega
   have h2:(!true||decide (c.Low<0)||decide (c.High<c.Low)||decide (4000000000<c.High))=true:=by
    simp only [Bool.not_true,Bool.false_or,Bool.or_eq_true,decide_eq_true_eq];omega
   rw [h1,h2];rfl
theorem AL {c:av} {k:Int} (h:iI c k=true):∀p∈c.Parents,0≤p∧p<k:=by
 intro p hp;unfold iI at h;cases ha:c.Parents.any (fun y=>!withinF y 0 (k - 1)) with
 | true=>rw [ha] at h; cases h
 | false=>
  rw [List.any_eq_false] at ha;have:=ha p hp;simp only [Bool.not_eq_true,Bool.not_eq_false'] at this;have:=(within_iff _ _ _).1 this;omega
theorem SG {l:List av} (h:∀i:Nat,i<l.length→iI (l.getD i au) i=true) (hb:∀i:Nat,i<l.length→bigC (l.getD i au)=false):Wm l:=fun i hi=>⟨by have:=Ee (hb i hi); omega,AL (h i hi)⟩
theorem JU (l:List av) (k:Nat):∀j,j<k→j<l.length→(dV l).getD j 0=(dV (l.take k)).getD j 0:=by
 induction l using Al with
 | nil=>intro j _ hj; cases hj
 | append_singleton l c ih=>
  intro j hjk hj;have hlen:=(gQ l).1;by_cases hk:k≤l.length
  ·rw [List.take_append_of_le_length hk,vM,lT 0 (by omega)];exact ih j hjk (by omega)
  ·rw [List.take_of_length_le (l:=l++[c]) (by rw [List.length_append]; simp; omega)]
theorem Eh {c:av} (h:eO c=true):1≤c.Choices.length:=by
 cases hc:c.Choices with
 | nil=>
  unfold eO at h;rw [hc] at h;cases h1:c.Kind==1<;>cases h2:(c.Kind==2||c.Kind==3)<;>cases h3:c.Kind==4<;>cases h4:c.Kind==5<;>rw [h1,h2,h3,h4] at h<;>simp at h
 | cons x r=>simp
theorem validC_choices {c:av} {k:Int} (h:iI c k=true):eO c=true:=by
 unfold iI at h;cases hb:(c.Parents.any (fun y=>!withinF y 0 (k - 1))||!withinF c.High 0 4000000000||!withinF c.Low 0 c.High) with
 | true=>rw [hb] at h; cases h
 | false=>rw [hb] at h; exact h
theorem GX (l:List av) (c:av):jo (l++[c])=Lj (jo l*c.Choices.length) 1099511627776:=by
 unfold jo;rw [List.foldl_append];rfl
theorem U3 (l:List av):(∀c∈l,1≤c.Choices.length)→∀k,jo (l.take k)≤jo l:=by
 induction l using Al with
 | nil=>intro _ k; rw [List.take_nil]; exact Int.le_refl _
 | append_singleton l c ih=>
  intro h k;by_cases hk:k≤l.length
  ·rw [List.take_append_of_le_length hk,GX];have h1:=ih (fun d hd=>h d (List.mem_append_left _ hd)) k;have hb:=Ef l;have hc:=h c (List.mem_append_right _ (List.mem_singleton.2 rfl));have:jo l*1≤jo l*c.Choices.length:=Int.mul_le_mul_of_nonneg_left (by omega) hb.1;rw [Int.mul_one] at this;generalize jo l*(c.Choices.length:Int)=q at *;unfold Lj;split<;>omega
  ·rw [List.take_of_length_le (l:=l++[c]) (by rw [List.length_append]; simp; omega)];exact Int.le_refl _
def settB (l:List av) (s:List Int):Bool:=((s.length:Int)==(l.length:Int))&&(List.range l.length).all fun i=>withinF (s.getD i 0) 0 ((l.getD i au).Choices.length - 1)
theorem yJ {n:Nat} {p:Nat→Bool} (h:∀i,i<n→p i=true):(List.range n).all p=true:=by
 rw [List.all_eq_true];intro i hi;exact h i (List.mem_range.1 hi)
theorem QX {n:Nat} {p:Nat→Bool} (h:(List.range n).all p=true) {i:Nat} (hi:i<n):p i=true:=by
 rw [List.all_eq_true] at h;exact h i (List.mem_range.2 hi)
theorem wF {n:Nat} {p:Nat→Bool} {i:Nat} (hi:i<n) (h:p i=false):(List.range n).all p=false:=by
 cases hv:(List.range n).all p with
 | false=>rfl
 | true=>rw [QX hv hi] at h; cases h
def aau (l:List av):Prop:=∀i:Nat,i<l.length→(l.getD i au).Choices.length≤1000000
def qF (l:List av) (m:List bC):Bool:=(bW l==0)&&decide ((m.length:Int)≤32)&&!(m.any (IB l.length))
theorem YR (n:Int) (x:bC):IB n x=(decide (x.Clock<0)||decide (n≤x.Clock)||decide (x.Low<0)||decide (x.High<x.Low)||decide (4000000000<x.High)):=by
 unfold IB;by_cases hg:(0≤x.Clock∧x.Clock≤n - 1)∧(0≤x.High∧x.High≤4000000000)∧(0≤x.Low∧x.Low≤x.High)
 ·rw [(within_iff _ _ _).2 hg.1,(within_iff _ _ _).2 hg.2.1,(within_iff _ _ _).2 hg.2.2,decide_eq_false (show ¬ x.Clock<0 by omega),decide_eq_false (show ¬ n≤x.Clock by omega),decide_eq_false (show ¬ x.Low<0 by omega),decide_eq_false (show ¬ x.High<x.Low by omega),decide_eq_false (show ¬ 4000000000<x.High by omega)];rfl
 ·have h1:(!withinF x.Clock 0 (n - 1)||!withinF x.High 0 4000000000||!withinF x.Low 0 x.High)=true:=by
   simp only [Bool.or_eq_true,Bool.not_eq_true',← Bool.not_eq_true,within_iff];omega
  have h2:(decide (x.Clock<0)||decide (n≤x.Clock)||decide (x.Low<0)||decide (x.High<x.Low)||decide (4000000000<x.High))=true:=by
   simp only [Bool.or_eq_true,decide_eq_true_eq];omega
  rw [h1,h2]
def Nh (c:av) (k:Int):Prop:=(c.Kind=1)∨(c.Kind=4∧0≤k∧k<c.Choices.length∧0≤c.Choices.getD k.toNat 0∧c.Choices.getD k.toNat 0<c.Parents.length)∨(c.Kind≠4∧0<c.Parents.length)
def parF (c:av) (k:Int):Int:=bif c.Kind==1 then -1 else bif c.Kind==4 then c.Parents.getD (c.Choices.getD k.toNat 0).toNat 0 else c.Parents.getD 0 0
def Fz:aP:=⟨0,1⟩
def uE (r:aP):Bool:=(r.Num==0)&&((r.Den==1)&&true)
def OD (acc:List aP) (c:av) (k:Int):aP:=
 bif decide (parF c k<0) then ⟨c.Choices.getD k.toNat 0,1⟩ else
 bif uE (acc.getD (parF c k).toNat bZ)||((c.Kind==5)&&(c.Choices.getD k.toNat 0==0)) then Fz else
 bif c.Kind==2 then (sQ (acc.getD (parF c k).toNat bZ) (c.Choices.getD k.toNat 0)).1 else
 bif c.Kind==3 then (kZ (acc.getD (parF c k).toNat bZ) (c.Choices.getD k.toNat 0)).1 else acc.getD (parF c k).toNat bZ
def ow (l:List av) (s:List Int):Nat→List aP
 | 0=>[]
 | i+1=>ow l s i++[OD (ow l s i) (l.getD i au) (s.getD i 0)]
def jf (l:List av) (s:List Int):List aP:=ow l s l.length
theorem qX (l:List av) (s:List Int) (i:Nat):(ow l s i).length=i:=by
 induction i with
 | zero=>rfl
 | succ i ih=>simp [ow,ih]
structure Good (l:List av) (s:List Int):Prop where
 small:l.length≤1000
 len:s.length=l.length
 Choices:∀i,i<l.length→0≤s.getD i 0∧s.getD i 0<(l.getD i au).Choices.length
 pch:∀i,i<l.length→Nh (l.getD i au) (s.getD i 0)
 Parents:∀i,i<l.length→parF (l.getD i au) (s.getD i 0)<i
theorem P7 {lo hi:Int}:∀(l pre:List Int),pV lo hi pre l=true→∀x∈l,lo≤x∧x≤hi:=by
 intro l;induction l with
 | nil=>intro _ _ x hx; cases hx
 | cons n r ih=>
  intro pre h x hx;cases hb:(!(withinF n lo hi)||pre.contains n) with
  | true=>rw [Mc hb] at h; cases h
  | false=>
   rw [QW hb] at h;rcases List.mem_cons.1 hx with rfl | hx
   ·rw [Bool.or_eq_false_iff] at hb;have:=hb.1;simp only [Bool.not_eq_false'] at this;exact (within_iff _ _ _).1 this
   ·exact ih _ h x hx
theorem choicesB_cases {c:av} (h:eO c=true):
  (c.Kind=1∧c.Parents=[]∧c.Choices.length=1∧1≤c.Choices.getD 0 0∧c.Choices.getD 0 0≤4000000000)∨((c.Kind=2∨c.Kind=3)∧c.Parents.length=1∧0<c.Choices.length∧∀x∈c.Choices,1≤x∧x≤64)
  ∨ (c.Kind=4∧0<c.Choices.length∧∀x∈c.Choices,0≤x∧x≤(c.Parents.length:Int) - 1)∨(c.Kind=5∧c.Parents.length=1∧c.Choices=[0,1]):=by
 unfold eO at h;cases h1:c.Kind==1 with
 | true=>
  rw [h1] at h;simp only [cond_true,Bool.and_eq_true,within_iff] at h;obtain ⟨⟨h2,h3⟩,h4⟩:=h;left;have h2:c.Parents.length=0:=by have:=eq_of_beq h2; omega
  exact ⟨eq_of_beq h1,List.length_eq_zero_iff.1 h2,by have:=eq_of_beq h3; omega,h4⟩
 | false=>
  rw [h1] at h;cases h2:(c.Kind==2||c.Kind==3) with
  | true=>
   rw [h2] at h;simp only [cond_true,cond_false,Bool.and_eq_true] at h;obtain ⟨⟨h3,h4⟩,h5⟩:=h;right; left;refine ⟨?_,by have:=eq_of_beq h3; omega,by have:=of_decide_eq_true h4; omega,P7 _ _ h5⟩;rw [Bool.or_eq_true] at h2;exact h2.imp eq_of_beq eq_of_beq
  | false=>
   rw [h2] at h;cases h3:c.Kind==4 with
   | true=>
    rw [h3] at h;simp only [cond_true,cond_false,Bool.and_eq_true] at h;right; right; left;exact ⟨eq_of_beq h3,by have:=of_decide_eq_true h.1; omega,P7 _ _ h.2⟩
   | false=>
    rw [h3] at h;cases h4:c.Kind==5 with
    | true=>
     rw [h4] at h;simp only [cond_true,cond_false,Bool.and_eq_true] at h;right; right; right;exact ⟨eq_of_beq h4,by have:=eq_of_beq h.1; omega,eq_of_beq h.2⟩
    | false=>rw [h4] at h; cases h
structure SH (l:List av):Prop where
 len:l.length≤16
 big:∀i:Nat,i<l.length→(l.getD i au).Parents.length≤8∧(l.getD i au).Choices.length≤8
 valid:∀i:Nat,i<l.length→iI (l.getD i au) i=true
 prod:jo l≤4096
 dV:∀i:Nat,i<l.length→(dV l).getD i 0≤4
theorem Md {l:List av} (h:bW l=0):SH l:=by
 unfold bW at h;cases h1:(decide (16<(l.length:Int))||l.any bigC) with
 | true=>rw [h1] at h; cases h
 | false=>
  rw [h1] at h;cases h2:SC l with
  | false=>rw [h2] at h; cases h
  | true=>
   rw [h2] at h;cases h3:(decide (4096<jo l)||(dV l).any (fun n=>decide (4<n))) with
   | true=>rw [h3] at h; cases h
   | false=>
    rw [Bool.or_eq_false_iff] at h1 h3;refine ⟨by have:=of_decide_eq_false h1.1; omega,fun i hi=>Ee (jK au h1.2 i hi),SE h2,by have:=of_decide_eq_false h3.1; omega,fun i hi=>?_⟩;have:=jK 0 h3.2 i (by rw [(gQ l).1]; exact hi);have:=of_decide_eq_false this;omega
theorem IC {l:List av} {s:List Int} (h:settB l s=true):s.length=l.length∧∀i:Nat,i<l.length→0≤s.getD i 0∧s.getD i 0<(l.getD i au).Choices.length:=by
 unfold settB at h;rw [Bool.and_eq_true] at h;have hl:s.length=l.length:=by have:=eq_of_beq h.1; omega
 refine ⟨hl,fun i hi=>?_⟩;have:=h.2;rw [List.all_eq_true] at this;have:=this i (List.mem_range.2 (by omega));have:=(within_iff _ _ _).1 this;omega
theorem SI {c:av} {i:Nat} {k:Int} (hv:iI c i=true) (hk:0≤k∧k<c.Choices.length):Nh c k∧parF c k<i:=by
 have hp:=AL hv;unfold Nh parF;rcases choicesB_cases (validC_choices hv) with ⟨h1,h2,h3,h4⟩ | ⟨h1,h2,h3,h4⟩ | ⟨h1,h2,h3⟩ | ⟨h1,h2,h3⟩
 ·refine ⟨.inl h1,?_⟩;rw [h1];show (-1:Int)<i;omega
 ·have hn1:(c.Kind==1)=false:=by rcases h1 with h1 | h1<;>rw [h1]<;>rfl
  have hn4:(c.Kind==4)=false:=by rcases h1 with h1 | h1<;>rw [h1]<;>rfl
  refine ⟨.inr (.inr ⟨fun e=>(by rw [e] at hn4; cases hn4),by omega⟩),?_⟩;rw [hn1,hn4];exact (hp _ (fM 0 (by omega))).2
 ·have hm:=h3 _ (fM 0 (i:=k.toNat) (by omega));refine ⟨.inr (.inl ⟨h1,hk.1,hk.2,hm.1,by omega⟩),?_⟩;rw [h1];exact (hp _ (fM 0 (i:=(c.Choices.getD k.toNat 0).toNat) (by omega))).2
 ·refine ⟨.inr (.inr ⟨by rw [h1]; decide,by omega⟩),?_⟩;rw [h1];exact (hp _ (fM 0 (i:=0) (by omega))).2
theorem Me {l:List av} {s:List Int} (h:SH l) (hs:settB l s=true):Good l s:=by
 obtain ⟨h1,h2⟩:=IC hs;exact ⟨by have:=h.len; omega,h1,h2,fun i hi=>(SI (h.valid i hi) (h2 i hi)).1,fun i hi=>(SI (h.valid i hi) (h2 i hi)).2⟩
def Ei (l:List av) (s:List Int):List aP×Int:=bif bW l != 0 then ([],bW l) else bif !settB l s then ([],1) else (jf l s,0)
def aav (r:List aP) (x:bC):Bool:=uE (r.getD x.Clock.toNat bZ)||!rQ (r.getD x.Clock.toNat bZ) x.Low x.High
def ownX (r:aP) (c:av):Bool:=((!uE r)&&(c.High != 0))&&!rQ r c.Low c.High
def ownB (l:List av) (r:List aP):Bool:=(List.range l.length).all fun i=>!ownX (r.getD i bZ) (l.getD i au)
def l9 (l:List av) (s:List Int) (m:List bC):Bool:=(qF l m&&settB l s)&&(ownB l (jf l s)&&!m.any (aav (jf l s)))
theorem SK {l:List av} {m:List bC} (h:qF l m=true):bW l=0∧m.length≤32∧∀i,i<m.length→IB l.length (m.getD i cB)=false:=by
 unfold qF at h;rw [Bool.and_eq_true,Bool.and_eq_true] at h;exact ⟨eq_of_beq h.1.1,by have:=of_decide_eq_true h.1.2; omega,fun i hi=>jK cB (by simpa using h.2) i hi⟩
theorem SL {n:Int} {x:bC} (h:IB n x=false):(0≤x.Clock∧x.Clock<n)∧0≤x.Low∧x.Low≤x.High∧x.High≤4000000000:=by
 rw [YR] at h;simp only [Bool.or_eq_false_iff,decide_eq_false_iff_not] at h;omega
def red (a b:Nat):aP:=⟨((a / Nat.gcd a b:Nat):Int),((b / Nat.gcd a b:Nat):Int)⟩
theorem Fg (a b:Nat) (hb:0<b) (ha':a≤144115188075855872) (hb':b≤16777216):validR (red a b)=true:=by
 have g0:0<Nat.gcd a b:=Nat.gcd_pos_of_pos_right a hb;have h1:a / Nat.gcd a b≤a:=Nat.div_le_self _ _;have h2:b / Nat.gcd a b≤b:=Nat.div_le_self _ _;have h3:0<b / Nat.gcd a b:=Nat.div_pos (Nat.le_of_dvd hb (Nat.gcd_dvd_right _ _)) g0;have h4:Nat.gcd (a / Nat.gcd a b) (b / Nat.gcd a b)=1:=by
  rw [Nat.gcd_div (Nat.gcd_dvd_left _ _) (Nat.gcd_dvd_right _ _),Nat.div_self g0]
 unfold validR red gD;simp only [Int.toNat_natCast,h4];generalize a / Nat.gcd a b=n at *;generalize b / Nat.gcd a b=d at *;simp;omega
theorem SN (a b:Nat) (hb:0<b) (ha':a≤144115188075855872) (hb':b≤16777216):newR a b=(red a b,0):=by
 have hv:=Fg a b hb ha' hb';have e1:gD (a:Int) (b:Int)=(Nat.gcd a b:Nat):=by unfold gD; rw [Int.toNat_natCast,Int.toNat_natCast]
 have e2:(⟨(a:Int).tdiv (gD a b),(b:Int).tdiv (gD a b)⟩:aP)=red a b:=by
  rw [e1,← Int.ofNat_tdiv,← Int.ofNat_tdiv];rfl
 unfold newR;have c:(decide ((a:Int)<0)||decide ((b:Int)<1))=false:=by simp; omega
 rw [c,e2,hv];rfl
theorem P8 (a b:Nat) (hb:0<b):∃g n d:Nat,0<g∧0<d∧g*n=a∧g*d=b∧red a b=⟨n,d⟩∧n≤a∧d≤b:=by
 have g0:0<Nat.gcd a b:=Nat.gcd_pos_of_pos_right a hb;refine ⟨Nat.gcd a b,a / Nat.gcd a b,b / Nat.gcd a b,g0,Nat.div_pos (Nat.le_of_dvd hb (Nat.gcd_dvd_right _ _)) g0,Nat.mul_div_cancel' (Nat.gcd_dvd_left _ _),Nat.mul_div_cancel' (Nat.gcd_dvd_right _ _),rfl,Nat.div_le_self _ _,Nat.div_le_self _ _⟩
theorem P9 {k:Int} (h:1≤k∧k≤64):pW k=true:=by
 unfold pW;simp;omega
theorem SQ (a b:Nat) (k:Int) (hb:0<b) (hk:1≤k∧k≤64) (ha':a≤144115188075855872) (hb':b*k.toNat≤16777216):sQ (red a b) k=(red a (b*k.toNat),0):=by
 have hbk:b≤b*k.toNat:=Nat.le_mul_of_pos_right _ (by omega);have hv:=Fg a b hb ha' (by omega);unfold sQ;rw [hv,P9 hk];simp only [Bool.not_true,cond_false];obtain ⟨g,n,d,g0,d0,e1,e2,e3,_,_⟩:=P8 a b hb;rw [e3];have hkk:k=(k.toNat:Int):=by omega
 have hm:=Iz g n (d*k.toNat) g0 (Nat.mul_pos d0 (by omega));rw [e1,← Nat.mul_assoc,e2] at hm;show newR (n:Int) ((d:Int)*k)=_;rw [hkk,← Int.natCast_mul,← hm,Int.toNat_natCast];exact SN a (b*k.toNat) (by omega) ha' hb'
theorem Qa (a b:Nat) (k:Int) (hb:0<b) (hk:1≤k∧k≤64) (ha':a*k.toNat≤144115188075855872) (hb':b≤16777216):kZ (red a b) k=(red (a*k.toNat) b,0):=by
 have hak:a≤a*k.toNat:=Nat.le_mul_of_pos_right _ (by omega);have hv:=Fg a b hb (by omega) hb';unfold kZ;rw [hv,P9 hk];simp only [Bool.not_true,cond_false];obtain ⟨g,n,d,g0,d0,e1,e2,e3,e4,e5⟩:=P8 a b hb;rw [e3];obtain ⟨k,rfl⟩:=Int.eq_ofNat_of_zero_le (show 0≤k by omega);have hk0:0<k:=by omega
 have eg:gD ((k:Nat):Int) ((d:Nat):Int)=(Nat.gcd k d:Nat):=by unfold gD; rw [Int.toNat_natCast,Int.toNat_natCast]
 have q0:0<Nat.gcd k d:=Nat.gcd_pos_of_pos_left d hk0;have qk:Nat.gcd k d*(k / Nat.gcd k d)=k:=Nat.mul_div_cancel' (Nat.gcd_dvd_left _ _);have qd:Nat.gcd k d*(d / Nat.gcd k d)=d:=Nat.mul_div_cancel' (Nat.gcd_dvd_right _ _);have qk0:0<k / Nat.gcd k d:=Nat.div_pos (Nat.le_of_dvd hk0 (Nat.gcd_dvd_left _ _)) q0;have qd0:0<d / Nat.gcd k d:=Nat.div_pos (Nat.le_of_dvd d0 (Nat.gcd_dvd_right _ _)) q0;have qkk:k / Nat.gcd k d≤k:=Nat.div_le_self _ _;simp only [Int.toNat_natCast] at ha' ⊢;rw [eg,← Int.ofNat_tdiv,← Int.ofNat_tdiv];have hc:decide ((144115188075855872:Int).tdiv ((k / Nat.gcd k d:Nat):Int)<(n:Int))=false:=by
  apply decide_eq_false;have:n≤144115188075855872 / (k / Nat.gcd k d):=by
   rw [Nat.le_div_iff_mul_le qk0];exact Nat.le_trans (Nat.mul_le_mul e4 qkk) ha'
  have e:(144115188075855872:Int).tdiv ((k / Nat.gcd k d:Nat):Int)=((144115188075855872 / (k / Nat.gcd k d):Nat):Int):=by
   rw [Int.ofNat_tdiv];rfl
  rw [e];omega
 rw [hc];simp only [cond_false];rw [← Int.natCast_mul];have m1:=Iz (Nat.gcd k d) (n*(k / Nat.gcd k d)) (d / Nat.gcd k d) q0 qd0;rw [Nat.mul_left_comm,qk,qd] at m1;have m2:=Iz g (n*k) d g0 d0;rw [← Nat.mul_assoc,e1,e2] at m2;rw [← m1,← m2];exact SN (a*k) b hb ha' hb'
theorem aaw (a:Nat):red a 1=⟨a,1⟩:=by
 unfold red;rw [Nat.gcd_one_right,Nat.div_one,Nat.div_one];rfl
theorem aax (a b:Nat) (ha:0<a):0<(red a b).Num:=by
 have:0<a / Nat.gcd a b:=Nat.div_pos (Nat.le_of_dvd ha (Nat.gcd_dvd_left _ _)) (Nat.gcd_pos_of_pos_left b ha);show (0:Int)<((a / Nat.gcd a b:Nat):Int);omega
theorem YS (a b:Nat) (ha:0<a):uE (red a b)=false:=by
 have:=aax a b ha;unfold uE;have:((red a b).Num==0)=false:=by
  rw [← Bool.not_eq_true];intro e;have:=eq_of_beq e;omega
 rw [this];rfl
theorem Xo (k:Int) (hk:1≤k∧k≤64):kZ Fz k=(Fz,0):=by
 have h:=Qa 0 1 k (by decide) hk (by simp) (by decide);rw [Nat.zero_mul] at h;exact h
theorem YT (k:Int) (hk:1≤k∧k≤64):sQ Fz k=(Fz,0):=by
 have h:=SQ 0 1 k (by decide) hk (by decide) (by omega);have e:red 0 (1*k.toNat)=Fz:=by
  unfold red Fz;rw [Nat.gcd_zero_left,Nat.zero_div,Nat.one_mul,Nat.div_self (by omega)];rfl
 rw [e] at h;exact h
theorem GY (l:List av) (s:List Int) (n j:Nat) (h:j<n):(ow l s n).getD j bZ=OD (ow l s j) (l.getD j au) (s.getD j 0):=by
 induction n with
 | zero=>omega
 | succ n ih=>
  rw [ow];by_cases hj:j<n
  ·rw [lT _ (by rw [qX]; exact hj)];exact ih hj
  ·have:j=n:=by omega
   subst this;rw [jh _ (qX l s j).symm]
theorem Xp {acc acc':List aP} {c:av} {k:Int} (h:0≤parF c k→acc.getD (parF c k).toNat bZ=acc'.getD (parF c k).toNat bZ):OD acc c k=OD acc' c k:=by
 unfold OD;by_cases hp:parF c k<0
 ·rw [decide_eq_true hp]; rfl
 ·rw [h (by omega)]
theorem Xq {l:List av} {s:List Int} (h:Good l s) (j:Nat) (hj:j<l.length):(jf l s).getD j bZ=OD (jf l s) (l.getD j au) (s.getD j 0):=by
 unfold jf;rw [GY l s l.length j hj];refine Xp fun h0=>?_;have:=h.Parents j hj;rw [GY l s l.length _ (by omega),GY l s j _ (by omega)]
theorem Xr (acc:List Int) (l:List Int) (p:Int) (hp:p∈l):acc.getD p.toNat 0≤je acc l:=by
 have mono:∀(l:List Int) (n:Int),n≤l.foldl (fun n p=>Fy n (acc.getD p.toNat 0)) n:=by
  intro l;induction l with
  | nil=>intro n; exact Int.le_refl _
  | cons q r ih=>
   intro n;have:=ih (Fy n (acc.getD q.toNat 0));have h2:n≤Fy n (acc.getD q.toNat 0):=by unfold Fy; split<;>omega
   exact Int.le_trans h2 this
 have key:∀(l:List Int) (n:Int),p∈l→acc.getD p.toNat 0≤l.foldl (fun n p=>Fy n (acc.getD p.toNat 0)) n:=by
  intro l;induction l with
  | nil=>intro n h; cases h
  | cons q r ih=>
   intro n h;rcases List.mem_cons.1 h with rfl | h
   ·have:=mono r (Fy n (acc.getD p.toNat 0));have h2:acc.getD p.toNat 0≤Fy n (acc.getD p.toNat 0):=by unfold Fy; split<;>omega
    exact Int.le_trans h2 this
   ·exact ih _ h
 exact key l 0 hp
theorem aay {l:List av} (hp:Wm l) (j:Nat) (hj:j<l.length):∀p∈(l.getD j au).Parents,(dV l).getD p.toNat 0+(bif GU (l.getD j au) then 1 else 0)≤(dV l).getD j 0:=by
 intro p hpm;have hpj:=(hp j hj).2 p hpm;have e1:(dV l).getD j 0=AB (dV (l.take j)) (l.getD j au):=by
  rw [JU l (j+1) j (by omega) hj,jW au hj,vM,jh _ (by rw [(gQ _).1,take_len (by omega)])]
 have e2:(dV l).getD p.toNat 0=(dV (l.take j)).getD p.toNat 0:=JU l j p.toNat (by omega) (by omega);have:=Xr (dV (l.take j)) (l.getD j au).Parents p hpm;rw [e1,e2];unfold AB;cases GU (l.getD j au)<;>simp only [cond_true,cond_false]<;>omega
structure Made (l:List av):Prop where
 ok:bW l=0
 pos:1≤l.length
 fix:∀i,i<l.length→(l.getD i au).Kind=1→(l.getD i au).Choices.getD 0 0≤24000000
structure Ll (F a b:Nat) (f:Int):Prop where
 a0:0<a
 b0:0<b
 f0:0≤f
 al:a≤F*64 ^ f.toNat
 bl:b≤64 ^ f.toNat
theorem aaz {f:Int} (h:f≤4):64 ^ f.toNat≤16777216:=by
 have:f.toNat≤4:=by omega
 calc 64 ^ f.toNat≤64 ^ 4:=Nat.pow_le_pow_right (by decide) this
  _=16777216:=by decide
theorem Ll.mono {F a b:Nat} {f g:Int} (h:Ll F a b f) (hfg:f≤g):Ll F a b g:=by
 have hf:=h.f0;have:64 ^ f.toNat≤64 ^ g.toNat:=Nat.pow_le_pow_right (by decide) (by omega);exact ⟨h.a0,h.b0,by omega,Nat.le_trans h.al (Nat.mul_le_mul_left _ this),Nat.le_trans h.bl this⟩
theorem Ll.times {F a b:Nat} {f g:Int} (h:Ll F a b f) (hfg:f+1≤g) {k:Nat} (hk:1≤k∧k≤64):Ll F (a*k) b g:=by
 have hf:=h.f0;have:64 ^ f.toNat*64≤64 ^ g.toNat:=by
  rw [← Nat.pow_succ];exact Nat.pow_le_pow_right (by decide) (by omega)
 refine ⟨Nat.mul_pos h.a0 (by omega),h.b0,by omega,?_,?_⟩
 ·calc a*k≤(F*64 ^ f.toNat)*64:=Nat.mul_le_mul h.al hk.2
   _=F*(64 ^ f.toNat*64):=Nat.mul_assoc _ _ _
   _≤F*64 ^ g.toNat:=Nat.mul_le_mul_left _ this
 ·exact Nat.le_trans h.bl (Nat.le_trans (Nat.le_mul_of_pos_right _ (by decide)) this)
theorem Ll.over {F a b:Nat} {f g:Int} (h:Ll F a b f) (hfg:f+1≤g) {k:Nat} (hk:1≤k∧k≤64):Ll F a (b*k) g:=by
 have hf:=h.f0;have h1:64 ^ f.toNat*64≤64 ^ g.toNat:=by
  rw [← Nat.pow_succ];exact Nat.pow_le_pow_right (by decide) (by omega)
 have h2:64 ^ f.toNat≤64 ^ g.toNat:=Nat.pow_le_pow_right (by decide) (by omega);exact ⟨h.a0,Nat.mul_pos h.b0 (by omega),by omega,Nat.le_trans h.al (Nat.mul_le_mul_left _ h2),Nat.le_trans (Nat.mul_le_mul h.bl hk.2) h1⟩
theorem Ll.small {F a b:Nat} {f:Int} (h:Ll F a b f) (hf:f≤4) (hF:F≤4294967296):a≤F*16777216∧a≤144115188075855872∧b≤16777216:=by
 have hp:=aaz hf;have h1:=Nat.le_trans h.al (Nat.mul_le_mul_left F hp);exact ⟨h1,Nat.le_trans h1 (Nat.le_trans (Nat.mul_le_mul_right 16777216 hF) (by decide)),Nat.le_trans h.bl hp⟩
def Ac (c:av) (k:Int):Int:=c.Choices.getD k.toNat 0
def Ua (acc:List aP) (c:av) (k:Int):aP:=acc.getD (parF c k).toNat bZ
structure Step (c:av) (i:Nat) (k:Int):Prop where
 p0:0≤parF c k
 pi:parF c k<i
 mem:parF c k∈c.Parents
 n1:c.Kind≠1
theorem QY {c:av} {i:Nat} {k:Int} (hv:iI c i=true) (hk:0≤k∧k<c.Choices.length) (hn:c.Kind≠1):Step c i k:=by
 have hp:=AL hv;have key:parF c k∈c.Parents:=by
  unfold parF;rcases choicesB_cases (validC_choices hv) with ⟨h1,h2,h3,h4⟩ | ⟨h1,h2,h3,h4⟩ | ⟨h1,h2,h3⟩ | ⟨h1,h2,h3⟩
  ·exact absurd h1 hn
  ·have hn1:(c.Kind==1)=false:=by rcases h1 with h1 | h1<;>rw [h1]<;>rfl
   have hn4:(c.Kind==4)=false:=by rcases h1 with h1 | h1<;>rw [h1]<;>rfl
   rw [hn1,hn4];exact fM 0 (by omega)
  ·have hm:=h3 _ (fM 0 (i:=k.toNat) (by omega));rw [h1];exact fM 0 (i:=(c.Choices.getD k.toNat 0).toNat) (by omega)
  ·rw [h1];exact fM 0 (i:=0) (by omega)
 have:=hp _ key;exact ⟨this.1,this.2,key,hn⟩
theorem aaA {c:av} {i:Nat} {k:Int} (hv:iI c i=true) (hk:0≤k∧k<c.Choices.length) (h:c.Kind=1) (acc:List aP):Ac c k=c.Choices.getD 0 0∧1≤Ac c k∧Ac c k≤4000000000∧OD acc c k=⟨Ac c k,1⟩∧parF c k = -1:=by
 rcases choicesB_cases (validC_choices hv) with ⟨h1,h2,h3,h4⟩ | ⟨h1,h2,h3,h4⟩ | ⟨h1,h2,h3⟩ | ⟨h1,h2,h3⟩
 ·have e:Ac c k=c.Choices.getD 0 0:=by unfold Ac; rw [show k.toNat=0 by omega]
  have hp:parF c k = -1:=by unfold parF; rw [h]; rfl
  refine ⟨e,by omega,by omega,?_,hp⟩;unfold OD;rw [hp];rfl
 ·rcases h1 with h1 | h1<;>omega
 ·omega
 ·omega
theorem rt1_step {c:av} {i:Nat} {k:Int} (hv:iI c i=true) (hk:0≤k∧k<c.Choices.length) (hn:c.Kind≠1) (acc:List aP):
  ((uE (Ua acc c k)=true∨(c.Kind=5∧Ac c k=0))∧OD acc c k=Fz)∨
  (uE (Ua acc c k)=false∧((c.Kind=2∧GU c=true∧(1≤Ac c k∧Ac c k≤64)∧OD acc c k=(sQ (Ua acc c k) (Ac c k)).1)∨
    (c.Kind=3∧GU c=true∧(1≤Ac c k∧Ac c k≤64)∧OD acc c k=(kZ (Ua acc c k) (Ac c k)).1)∨
    ((c.Kind=4∨(c.Kind=5∧Ac c k=1))∧GU c=false∧OD acc c k=Ua acc c k))):=by
 have hs:=QY hv hk hn;have hp:decide (parF c k<0)=false:=decide_eq_false (by have:=hs.p0; omega);have e0:OD acc c k=bif uE (Ua acc c k)||((c.Kind==5)&&(Ac c k==0)) then Fz else bif c.Kind==2 then (sQ (Ua acc c k) (Ac c k)).1 else bif c.Kind==3 then (kZ (Ua acc c k) (Ac c k)).1 else Ua acc c k:=by
  unfold OD;rw [hp];rfl
 have hmem:Ac c k∈c.Choices:=fM 0 (by omega);cases ho:uE (Ua acc c k) with
 | true=>left; exact ⟨.inl rfl,by rw [e0,ho]; rfl⟩
 | false=>
  rw [ho] at e0;rcases choicesB_cases (validC_choices hv) with ⟨h1,h2,h3,h4⟩ | ⟨h1,h2,h3,h4⟩ | ⟨h1,h2,h3⟩ | ⟨h1,h2,h3⟩
  ·exact absurd h1 hn
  ·right;refine ⟨rfl,?_⟩;rcases h1 with h1 | h1
   ·left;refine ⟨h1,by unfold GU; rw [h1]; rfl,h4 _ hmem,?_⟩;rw [e0,h1];rfl
   ·right; left;refine ⟨h1,by unfold GU; rw [h1]; rfl,h4 _ hmem,?_⟩;rw [e0,h1];rfl
  ·right;refine ⟨rfl,.inr (.inr ⟨.inl h1,by unfold GU; rw [h1]; rfl,?_⟩)⟩;rw [e0,h1];rfl
  ·rw [h3] at hmem;by_cases hc:Ac c k=0
   ·left;refine ⟨.inr ⟨h1,hc⟩,?_⟩;rw [e0,h1,hc];rfl
   ·have hc1:Ac c k=1:=by simp at hmem; omega
    right;refine ⟨rfl,.inr (.inr ⟨.inr ⟨h1,hc1⟩,by unfold GU; rw [h1]; rfl,?_⟩)⟩;rw [e0,h1,hc1];rfl
theorem U4 {l:List av} (h:SH l):Wm l:=fun i hi=>⟨by have:=(h.big i hi).1; omega,AL (h.valid i hi)⟩
def st1 (acc:List aP) (on:List Bool) (c:av) (k:Int):aP×Bool:=
 bif c.Kind==1 then (⟨c.Choices.getD k.toNat 0,1⟩,true) else
 bif c.Kind==2 then ((sQ (acc.getD (parF c k).toNat bZ) (c.Choices.getD k.toNat 0)).1,on.getD (parF c k).toNat false) else
 bif c.Kind==3 then ((kZ (acc.getD (parF c k).toNat bZ) (c.Choices.getD k.toNat 0)).1,on.getD (parF c k).toNat false) else
 bif (c.Kind==5)&&(c.Choices.getD k.toNat 0==0) then (Fz,false) else (acc.getD (parF c k).toNat bZ,on.getD (parF c k).toNat false)
def JV (l:List av) (s:List Int):Nat→List aP×List Bool
 | 0=>([],[])
 | i+1=>((JV l s i).1++[(st1 (JV l s i).1 (JV l s i).2 (l.getD i au) (s.getD i 0)).1],(JV l s i).2++[(st1 (JV l s i).1 (JV l s i).2 (l.getD i au) (s.getD i 0)).2])
def Oj (l:List av) (s:List Int):List aP×List Bool:=JV l s l.length
theorem IE (l:List av) (s:List Int) (i:Nat):(JV l s i).1.length=i∧(JV l s i).2.length=i:=by
 induction i with
 | zero=>exact ⟨rfl,rfl⟩
 | succ i ih=>simp [JV,ih]
def Up (l:List av) (s:List Int):Prop:=∀i:Nat,i<l.length→(l.getD i au).Kind≠1→0≤parF (l.getD i au) (s.getD i 0)
theorem abn {l:List av} {s:List Int} (h:SH l) (hs:settB l s=true):Up l s:=by
 obtain ⟨_,h2⟩:=IC hs;exact fun i hi hk=>(QY (h.valid i hi) (h2 i hi) hk).p0
theorem QZ (l:List av) (s:List Int) (n j:Nat) (h:j<n):(JV l s n).1.getD j bZ=(st1 (JV l s j).1 (JV l s j).2 (l.getD j au) (s.getD j 0)).1∧(JV l s n).2.getD j false=(st1 (JV l s j).1 (JV l s j).2 (l.getD j au) (s.getD j 0)).2:=by
 induction n with
 | zero=>omega
 | succ n ih=>
  rw [JV];have hl:=IE l s n;by_cases hj:j<n
  ·rw [lT _ (by omega),lT _ (by omega)];exact ih hj
  ·have:j=n:=by omega
   subst this;rw [jh _ hl.1.symm,jh _ hl.2.symm];exact ⟨rfl,rfl⟩
theorem Xt {acc acc':List aP} {on on':List Bool} {c:av} {k:Int} (h:c.Kind≠1→acc.getD (parF c k).toNat bZ=acc'.getD (parF c k).toNat bZ∧on.getD (parF c k).toNat false=on'.getD (parF c k).toNat false):st1 acc on c k=st1 acc' on' c k:=by
 unfold st1;cases hk:c.Kind==1 with
 | true=>rfl
 | false=>
  obtain ⟨h1,h2⟩:=h (fun e=>by rw [e] at hk; cases hk);rw [h1,h2]
theorem abU {l:List av} {s:List Int} (h:Good l s) (hu:Up l s) (j:Nat) (hj:j<l.length):((Oj l s).1.getD j bZ,(Oj l s).2.getD j false)=st1 (Oj l s).1 (Oj l s).2 (l.getD j au) (s.getD j 0):=by
 unfold Oj;obtain ⟨e1,e2⟩:=QZ l s l.length j hj;rw [e1,e2];show st1 _ _ _ _=_;refine Xt fun hk=>?_;have h1:=h.Parents j hj;have h2:=hu j hj hk;obtain ⟨a1,a2⟩:=QZ l s l.length (parF (l.getD j au) (s.getD j 0)).toNat (by omega);obtain ⟨b1,b2⟩:=QZ l s j (parF (l.getD j au) (s.getD j 0)).toNat (by omega);exact ⟨b1.trans a1.symm,b2.trans a2.symm⟩
theorem YU {c:av} (hn:c.Kind≠1) (acc:List aP) (on:List Bool) (k:Int):
  (c.Kind=2→st1 acc on c k=((sQ (Ua acc c k) (Ac c k)).1,on.getD (parF c k).toNat false))∧
  (c.Kind=3→st1 acc on c k=((kZ (Ua acc c k) (Ac c k)).1,on.getD (parF c k).toNat false))∧
  (c.Kind=5→Ac c k=0→st1 acc on c k=(Fz,false))∧
  ((c.Kind=4∨(c.Kind=5∧Ac c k=1))→st1 acc on c k=(Ua acc c k,on.getD (parF c k).toNat false)):=by
 have hk:(c.Kind==1)=false:=by
  cases h:c.Kind==1 with
  | false=>rfl
  | true=>exact absurd (eq_of_beq h) hn
 refine ⟨fun h=>?_,fun h=>?_,fun h h0=>?_,fun h=>?_⟩
 ·unfold st1; rw [h]; rfl
 ·unfold st1; rw [h]; rfl
 ·unfold st1; rw [show c.Choices.getD k.toNat 0=Ac c k from rfl,h,h0]; rfl
 ·rcases h with h | ⟨h,h1⟩
  ·unfold st1; rw [h]; rfl
  ·unfold st1; rw [show c.Choices.getD k.toNat 0=Ac c k from rfl,h,h1]; rfl
theorem kinds_of {c:av} {i:Nat} {k:Int} (hv:iI c i=true) (hk:0≤k∧k<c.Choices.length) (hn:c.Kind≠1):(c.Kind=2∧1≤Ac c k∧Ac c k≤64)∨(c.Kind=3∧1≤Ac c k∧Ac c k≤64)∨c.Kind=4∨(c.Kind=5∧Ac c k=k∧(k=0∨k=1)):=by
 have hmem:Ac c k∈c.Choices:=fM 0 (by omega);rcases choicesB_cases (validC_choices hv) with ⟨h1,h2,h3,h4⟩ | ⟨h1,h2,h3,h4⟩ | ⟨h1,h2,h3⟩ | ⟨h1,h2,h3⟩
 ·exact absurd h1 hn
 ·rcases h1 with h1 | h1
  ·exact .inl ⟨h1,h4 _ hmem⟩
  ·exact .inr (.inl ⟨h1,h4 _ hmem⟩)
 ·exact .inr (.inr (.inl h1))
 ·rw [h3] at hk;have hk2:k=0∨k=1:=by simp at hk; omega
  refine .inr (.inr (.inr ⟨h1,?_,hk2⟩));unfold Ac;rw [h3];rcases hk2 with rfl | rfl<;>rfl
theorem YV (l:List av):∀j:Nat,0≤(dV l).getD j 0:=fun j=>((gQ l).2 j).1
theorem st_rates {l:List av} {s:List Int} (hf:SH l) (hs:settB l s=true):∀j,j<l.length→
  ((jf l s).getD j bZ=Fz∧(Oj l s).1.getD j bZ=Fz∧(Oj l s).2.getD j false=false)∨
  ∃a b,Ll 4000000000 a b ((dV l).getD j 0)∧(jf l s).getD j bZ=red a b∧(Oj l s).1.getD j bZ=red a b∧(Oj l s).2.getD j false=true:=by
 have hg:=Me hf hs;have hu:=abn hf hs;obtain ⟨_,hset⟩:=IC hs;have hfac:=fun j hj=>aay (U4 hf) j hj;have hfb:=YV l;generalize hA:jf l s=A;generalize hB:Oj l s=B;intro j;induction j using Nat.strongRecOn with
 | ind j ih=>
  intro hj;have eA:=Xq hg j hj;have eB:=abU hg hu j hj;rw [hA] at eA;rw [hB] at eB;have hv:=hf.valid j hj;have hk:=hset j hj;have hfj:=hf.dV j hj;have hfacj:=hfac j hj;generalize l.getD j au=c at *;generalize s.getD j 0=k at *;by_cases hk1:c.Kind=1
  ·right;obtain ⟨e1,e2,e3,e4,_⟩:=aaA hv hk hk1 A;have eB1:st1 B.1 B.2 c k=(⟨Ac c k,1⟩,true):=by unfold st1; rw [hk1]; rfl
   rw [eB1] at eB;have hb:=hfb j;have er:(⟨Ac c k,1⟩:aP)=red (Ac c k).toNat 1:=by
    rw [aaw];congr 1;omega
   refine ⟨(Ac c k).toNat,1,⟨by omega,by decide,by omega,?_,Nat.pow_pos (by decide)⟩,?_,?_,?_⟩
   ·exact Nat.le_trans (show (Ac c k).toNat≤4000000000 by omega) (Nat.le_mul_of_pos_right _ (Nat.pow_pos (by decide)))
   ·rw [eA,e4,er]
   ·rw [← er]; exact congrArg Prod.fst eB
   ·exact congrArg Prod.snd eB
  ·have hst:=QY hv hk hk1;have hpl:(parF c k).toNat<l.length:=by have:=hst.p0; have:=hst.pi; omega
   have hpf:=hfacj _ hst.mem;have ihp:=ih (parF c k).toNat (by have:=hst.p0; have:=hst.pi; omega) hpl;have uA:A.getD (parF c k).toNat bZ=Ua A c k:=rfl;have uB:B.1.getD (parF c k).toNat bZ=Ua B.1 c k:=rfl;rw [uA,uB] at ihp;obtain ⟨q2,q3,q50,q4⟩:=YU hk1 B.1 B.2 k;have hn:∀n:Int,1≤n∧n≤64→1≤n.toNat∧n.toNat≤64:=fun n hn=>by omega
   rcases ihp with ⟨i1,i2,i3⟩ | ⟨a,b,i0,i1,i2,i3⟩
   ·left;have hA0:OD A c k=Fz:=by
     rcases rt1_step hv hk hk1 A with ⟨_,q⟩ | ⟨q,_⟩
     ·exact q
     ·rw [i1] at q; cases q
    rw [i2,i3] at q2 q3 q4;have hB0:st1 B.1 B.2 c k=(Fz,false):=by
     rcases kinds_of hv hk hk1 with ⟨h,h1⟩ | ⟨h,h1⟩ | h | ⟨h,h1,h2⟩
     ·rw [q2 h,YT _ h1]
     ·rw [q3 h,Xo _ h1]
     ·exact q4 (.inl h)
     ·rcases h2 with h2 | h2
      ·exact q50 h (by omega)
      ·exact q4 (.inr ⟨h,by omega⟩)
    rw [hB0] at eB;exact ⟨by rw [eA,hA0],congrArg Prod.fst eB,congrArg Prod.snd eB⟩
   ·have oA:uE (Ua A c k)=false:=by rw [i1]; exact YS a b i0.a0
    rw [i2,i3] at q2 q3 q4;rcases rt1_step hv hk hk1 A with ⟨q0,q⟩ | ⟨_,q⟩
    ·left;rw [oA] at q0;rcases q0 with q0 | ⟨q0,q1⟩
     ·cases q0
     ·rw [q50 q0 q1] at eB;exact ⟨by rw [eA,q],congrArg Prod.fst eB,congrArg Prod.snd eB⟩
    ·right;rcases q with ⟨r1,r2,r3,r4⟩ | ⟨r1,r2,r3,r4⟩ | ⟨r1,r2,r3⟩
     ·rw [r2] at hpf;have hnew:=i0.over hpf (hn _ r3);have hs2:=hnew.small hfj (by decide);have eo:=SQ a b _ i0.b0 r3 hs2.2.1 hs2.2.2;rw [q2 r1,eo] at eB;exact ⟨a,b*(Ac c k).toNat,hnew,by rw [eA,r4,i1,eo],congrArg Prod.fst eB,congrArg Prod.snd eB⟩
     ·rw [r2] at hpf;have hnew:=i0.times hpf (hn _ r3);have hs2:=hnew.small hfj (by decide);have eo:=Qa a b _ i0.b0 r3 hs2.2.1 hs2.2.2;rw [q3 r1,eo] at eB;exact ⟨a*(Ac c k).toNat,b,hnew,by rw [eA,r4,i1,eo],congrArg Prod.fst eB,congrArg Prod.snd eB⟩
     ·rw [r2] at hpf;rw [q4 r1] at eB;exact ⟨a,b,i0.mono (by simpa using hpf),by rw [eA,r3,i1],congrArg Prod.fst eB,congrArg Prod.snd eB⟩
theorem aaB {l:List av} {s:List Int} (hf:SH l) (hs:settB l s=true) (j:Nat) (hj:j<l.length):(Oj l s).1.getD j bZ=(jf l s).getD j bZ∧(Oj l s).2.getD j false=!uE ((jf l s).getD j bZ)∧validR ((jf l s).getD j bZ)=true∧(uE ((jf l s).getD j bZ)=true→(jf l s).getD j bZ=Fz):=by
 rcases st_rates hf hs j hj with ⟨h1,h2,h3⟩ | ⟨a,b,h0,h1,h2,h3⟩
 ·rw [h1,h2,h3];exact ⟨rfl,rfl,by decide,fun _=>rfl⟩
 ·have hs2:=h0.small (hf.dV j hj) (by decide);rw [h1,h2,h3,YS a b h0.a0];exact ⟨rfl,rfl,Fg a b h0.b0 hs2.2.1 hs2.2.2,nofun⟩
theorem Ej {α:Type} {l m:List α} (d:α) (h:l.length=m.length) (he:∀i,i<l.length→l.getD i d=m.getD i d):l=m:=by
 apply List.ext_getElem h;intro i h1 h2;have:=he i h1;rw [List.getD_eq_getElem?_getD,List.getD_eq_getElem?_getD,List.getElem?_eq_getElem h1,List.getElem?_eq_getElem h2] at this;simpa using this
structure adz (l:List av) (s w:List Int):Prop where
 chain:∀i,i+1<w.length→(l.getD (w.getD i 0).toNat au).Kind≠1∧w.getD (i+1) 0=parF (l.getD (w.getD i 0).toNat au) (s.getD (w.getD i 0).toNat 0)
 last:∀i,i+1=w.length→(l.getD (w.getD i 0).toNat au).Kind=1
end Go.Proofs.YtfblhejmclcdmaaGreatDoor


namespace Go.Proofs.YtfblhejmclcdmaaGreatDoor
open Go.Ab
set_option maxRecDepth 100000
theorem gT (n lo hi:Int):gM n lo hi (withinF n lo hi):=rfl
theorem Q0 {l:List av} (hl:l.length≤1000000):iN l (l.any bigC):=
 Gg (Gf (p:=yH) (P:=bigC) (fun _ _=>rfl) (by omega)) (nK _ _)
theorem Lm {p a:Int} (ha : -1000000≤a∧a≤1000000):rJ p a (!withinF p 0 (a - 1)):=
 iJ (bV (by unfold InI64; omega) (ay (Dh (gT _ _ _)) fun v hv=>by subst hv; exact ak rfl))
theorem Q5 {l:List Int} {a:Int} (ha : -1000000≤a∧a≤1000000) (hl:l.length≤1000000):jY l a (l.any fun y=>!withinF y 0 (a - 1)):=
 Gg (Gf (p:=fun x=>rJ x a) (P:=fun y=>!withinF y 0 (a - 1)) (fun _ _=>Lm ha) (by omega)) (nK _ _)
theorem Ni {l:List Int} {v:Int} (hl:l.length≤1000000):slices_Contains_int l v (l.contains v):=by
 refine Gg (abS (P:=fun x=>v==x) (by omega)) ?_;rw [nK];exact (List.contains_eq_any_beq).symm
theorem pY {l:List Int} {lo hi:Int} (hl:l.length≤1000000):jD l lo hi (pV lo hi [] l):=by
 refine iJ (YO l.length (fun i=>pV lo hi (l.take i) (l.drop i)=pV lo hi [] l) ?_ rfl);intro self i hi1 hi2 ih;refine aD (fun c=>?_) (fun c=>?_)
 ·have c:=of_decide_eq_true c;have hlt:i<l.length:=by omega
  rw [drop_cons 0 hlt] at hi2;refine bV (by omega) ?_;refine ay (Dh (gT _ _ _)) fun v hv=>?_;subst hv;refine bV (fun _=>by omega) ?_;refine ay (dF fun _=>Ni (by simp; omega)) fun v hv=>?_;subst hv;refine aD (fun c2=>?_) (fun c2=>?_)
  ·refine ak ?_;rw [← hi2,Mc (pre:=l.take i) (n:=l.getD i 0) c2]
  ·refine bV (by unfold InI64; omega) (ih hlt ?_);rw [← hi2,QW (pre:=l.take i) (n:=l.getD i 0) c2,jW 0 hlt]
 ·have c:=of_decide_eq_false c;refine ak ?_;rw [← hi2,List.drop_eq_nil_of_le (by omega)];rfl
theorem GZ {a b:List Int} (hl:a.length≤1000000):slices_Equal_int a b (a==b):=by
 refine iJ (aD (fun c=>?_) (fun c=>?_))
 ·refine ak ?_;have:a≠b:=fun h=>by subst h; simp at c
  exact (beq_eq_false_iff_ne.2 this).symm
 ·have hlen:a.length=b.length:=by simp at c; omega
  refine YO a.length (fun i=>(a==b)=(a.drop i==b.drop i)) ?_ rfl;intro self i hi1 hi2 ih;refine aD (fun c=>?_) (fun c=>?_)
  ·have c:=of_decide_eq_true c;have hlt:i<a.length:=by omega
   rw [drop_cons 0 hlt,drop_cons 0 (show i<b.length by omega)] at hi2;refine bV (by omega) (bV (by omega) ?_);refine aD (fun c2=>?_) (fun c2=>?_)
   ·refine ak ?_;rw [hi2];simp at c2;simp [c2]
   ·refine bV (by unfold InI64; omega) (ih hlt ?_);rw [hi2];simp at c2;simp [c2]
  ·have c:=of_decide_eq_false c;refine ak ?_;rw [hi2,List.drop_eq_nil_of_le (by omega),List.drop_eq_nil_of_le (by omega)];rfl
theorem OE {c:av} {k:Int} (hk : -1000000≤k∧k≤1000000) (hp:c.Parents.length≤1000000) (hc:c.Choices.length≤1000000):Dl c k (iI c k):=by
 refine iJ ?_;refine ay (Dh (Q5 hk hp)) fun v1 hv=>?_;subst hv;refine ay (dF fun _=>gT c.High 0 4000000000) fun v hv=>?_;subst hv;refine ay (dF fun _=>gT c.Low 0 c.High) fun v hv=>?_;subst hv;refine aD (fun h=>?_) (fun h=>?_)
 ·refine ak ?_;unfold iI;rw [h];rfl
 ·have hv:iI c k=eO c:=by unfold iI; rw [h]; rfl
  rw [hv];refine aD (fun k1=>?_) (fun k1=>?_)
  ·refine bV (fun h=>by simp at h; omega) ?_;refine ay (dF fun _=>gT (c.Choices.getD 0 0) 1 4000000000) fun v hv=>?_;subst hv;refine ak ?_;unfold eO;rw [k1];rfl
  ·refine aD (fun k2=>?_) (fun k2=>?_)
   ·rw [k2];refine ay (dF fun _=>pY hc) fun v hv=>?_;subst hv;refine ak ?_;unfold eO;rw [k1,k2];rfl
   ·refine aD (fun k3=>?_) (fun k3=>?_)
    ·refine ay (dF fun _=>pY hc) fun v hv=>?_;subst hv;refine ak ?_;unfold eO;rw [k1,k2,k3];rfl
    ·refine aD (fun k4=>?_) (fun k4=>?_)
     ·refine bV (fun _=>by unfold InI64; omega) ?_;refine ay (dF fun _=>pY hc) fun v hv=>?_;subst hv;refine ak ?_;unfold eO;rw [k1,k2,k3,k4];rfl
     ·refine aD (fun k5=>?_) (fun k5=>?_)
      ·refine aD (fun h1=>?_) (fun h1=>?_)
       ·refine ay (dF fun _=>GZ hc) fun v hv=>?_;subst hv;refine ak ?_;unfold eO;rw [k1,k2,k3,k4,k5];rfl
       ·refine ak ?_;unfold eO;rw [k1,k2,k3,k4,k5];simp at h1;simp [h1]
      ·refine ak ?_;unfold eO;rw [k1,k2,k3,k4,k5];rfl
end Go.Proofs.YtfblhejmclcdmaaGreatDoor

namespace Go.Proofs.YtfblhejmclcdmaaGreatDoor
open Go.Ab
set_option maxRecDepth 100000
theorem set_mid {α:Type} (a:List α) (x y:α) (z:List α):(a++x::z).set a.length y=a++y::z:=by
 rw [List.set_append_right _ _ (Nat.le_refl _),Nat.sub_self];rfl
theorem yK {l:List av} (hl:l.length≤1000000):sD l (bW l):=by
 refine iJ ?_;refine ay (dF fun _=>Q0 hl) fun v hv=>?_;subst hv;refine aD (fun h=>?_) (fun h=>?_)
 ·refine ak ?_;unfold bW;rw [h];rfl
 ·have hb3:(decide (16<(l.length:Int))||l.any bigC)=false:=h;have h16:l.length≤16:=by simp at hb3; omega
  have hbig:∀i:Nat,i<l.length→bigC (l.getD i au)=false:=jK au (by simp only [Bool.or_eq_false_iff] at hb3; exact hb3.2);refine YO l.length (fun i=>∀j:Nat,j<i→iI (l.getD j au) j=true) ?_ (fun j hj=>absurd hj (Nat.not_lt_zero j));intro self i hi1 hi2 ih;refine aD (fun h2=>?_) (fun h2=>?_)
  ·have hlt:i<l.length:=by have:=of_decide_eq_true h2; omega
   have hbl:=Ee (hbig i hlt);refine bV (by omega) ?_;refine ay (Dh (OE (c:=l.getD i au) (k:=i) (by omega) (by omega) (by omega))) fun v hv=>?_;subst hv;refine aD (fun h3=>?_) (fun h3=>?_)
   ·refine ak ?_;unfold bW;rw [hb3,GV hlt (by simpa using h3)];rfl
   ·refine bV (by unfold InI64; omega) (ih hlt fun j hj=>?_);by_cases hji:j=i
    ·subst hji; simpa using h3
    ·exact hi2 j (by omega)
  ·have hil:i=l.length:=by have:=of_decide_eq_false h2; omega
   subst hil;have hall:=P6 hi2;refine bV ⟨by omega,by show (l.length:Int)*8≤140737488355328; omega⟩ ?_;refine bD (fun g:Int×Int×List Int=>∃i:Nat,g=(jo (l.take i),(i:Int),dV (l.take i)++List.replicate (l.length - i) 0)∧i≤l.length∧jo (l.take i)≤4096∧∀j:Nat,j<i→(fun n=>decide (4<n)) ((dV l).getD j 0)=false) (fun g=>(l.length - g.2.1).toNat) ?_ ⟨0,rfl,by omega,by rw [List.take_zero]; decide,fun j hj=>absurd hj (Nat.not_lt_zero j)⟩;rintro self2 g ⟨i,rfl,hj1,hj2,hj3⟩ ih2;refine aD (fun h3=>?_) (fun h3=>?_)
   ·have hlt:i<l.length:=by have:(i:Int)<(l.length:Int):=of_decide_eq_true h3; omega
    refine bV (by show 0≤(i:Int)∧(i:Int)<(l.length:Int); omega) ?_;obtain ⟨hfl,hb⟩:=gQ (l.take i);rw [take_len hj1] at hfl hb;have hpi:=(SG hi2 hbig) i hlt;have hsn:dV (l.take (i+1))=dV (l.take i)++[AB (dV (l.take i)) (l.getD i au)]:=by rw [jW au hlt,vM]
    have hpm:=AJ (dV (l.take i)) i (by omega) hb;have hrep:List.replicate (l.length - i) (0:Int)=0::List.replicate (l.length - i - 1) 0:=by
     rw [show l.length - i=(l.length - i - 1)+1 by omega];rfl
    have hcut:W (nP l (jo (l.take i),(i:Int),dV (l.take i)++List.replicate (l.length - i) 0) self2 (dV (l.take i)++AB (dV (l.take i)) (l.getD i au)::List.replicate (l.length - i - 1) 0)) (fun r=>r=bW l):=by
     have hbl:=Ee (hbig i hlt);have hpb:=Ef (l.take i);have hpmul:0≤jo (l.take i)*((l.getD i au).Choices.length:Int)∧jo (l.take i)*((l.getD i au).Choices.length:Int)≤4096*8:=⟨Int.mul_nonneg hpb.1 (by omega),Int.mul_le_mul hj2 (by omega) (by omega) (by omega)⟩;have hpe:jo (l.take (i+1))=jo (l.take i)*((l.getD i au).Choices.length:Int):=by
      rw [jW au hlt,GX];unfold Lj;rw [if_neg (by omega)]
     have hfi:(dV l).getD i 0=AB (dV (l.take i)) (l.getD i au):=by
      rw [JU l (i+1) i (by omega) hlt,hsn,jh 0 hfl.symm]
     refine bV (by show InI64 (jo (l.take i)*((l.getD i au).Choices.length:Int)); unfold InI64; omega) ?_;refine bV (fun _=>by simp [hfl]; omega) ?_;refine aD (fun h5=>?_) (fun h5=>?_)
     ·have h5:(decide (4096<jo (l.take i)*((l.getD i au).Choices.length:Int))||decide (4<(dV (l.take i)++AB (dV (l.take i)) (l.getD i au)::List.replicate (l.length - i - 1) 0).getD i 0))=true:=h5;rw [jh 0 hfl.symm,← hfi,← hpe] at h5;refine ak ?_;unfold bW;rw [hb3,hall];have:(decide (4096<jo l)||(dV l).any (fun n=>decide (4<n)))=true:=by
       rw [Bool.or_eq_true] at h5 ⊢;rcases h5 with h5 | h5
       ·left;have h5:=of_decide_eq_true h5;have hm:=U3 l (fun c hc=>by
         obtain ⟨k,hk,rfl⟩:=List.mem_iff_getElem.1 hc;have:=Eh (validC_choices (hi2 k hk));rwa [List.getD_eq_getElem?_getD,List.getElem?_eq_getElem hk] at this) (i+1)
        exact decide_eq_true (by omega)
       ·right;exact pX (p:=fun n=>decide (4<n)) 0 (by rw [(gQ l).1]; exact hlt) h5
      rw [this];rfl
     ·have h5:(decide (4096<jo (l.take i)*((l.getD i au).Choices.length:Int))||decide (4<(dV (l.take i)++AB (dV (l.take i)) (l.getD i au)::List.replicate (l.length - i - 1) 0).getD i 0))=false:=h5;rw [jh 0 hfl.symm,← hfi,← hpe] at h5;rw [Bool.or_eq_false_iff] at h5;refine bV (by show InI64 ((i:Int)+1); unfold InI64; omega) ?_;refine ih2 _ ⟨i+1,?_,hlt,by have:=of_decide_eq_false h5.1; omega,fun j hj=>?_⟩ (by show (l.length - ((i:Int)+1)).toNat<(l.length - (i:Int)).toNat; omega)
      ·rw [hsn,List.append_assoc,show l.length - (i+1)=l.length - i - 1 by omega,hpe];rfl
      ·by_cases hji:j=i
       ·subst hji; exact h5.2
       ·exact hj3 j (by omega)
    refine bD (fun g:Int×List Int=>∃j:Nat,g=((j:Int),dV (l.take i)++je (dV (l.take i)) ((l.getD i au).Parents.take j)::List.replicate (l.length - i - 1) 0)∧j≤(l.getD i au).Parents.length) (fun g=>((l.getD i au).Parents.length - g.1).toNat) ?_ ⟨0,by rw [hrep]; rfl,Nat.zero_le _⟩;rintro self7 g ⟨j,rfl,hj⟩ ih7;refine aD (fun h4=>?_) (fun h4=>?_)
    ·have hjl:j<(l.getD i au).Parents.length:=by have:(j:Int)<((l.getD i au).Parents.length:Int):=of_decide_eq_true h4; omega
     have hin:=hpi.2 ((l.getD i au).Parents.getD j 0) (fM 0 hjl);refine bV (by show 0≤(j:Int)∧(j:Int)<((l.getD i au).Parents.length:Int); omega) ?_;refine bV (by show 0≤(i:Int)∧(i:Int)<(((dV (l.take i)++je (dV (l.take i)) ((l.getD i au).Parents.take j)::List.replicate (l.length - i - 1) 0).length:Nat):Int); simp [hfl]; omega) ?_;refine bV (by show 0≤(l.getD i au).Parents.getD j 0∧(l.getD i au).Parents.getD j 0<(((dV (l.take i)++je (dV (l.take i)) ((l.getD i au).Parents.take j)::List.replicate (l.length - i - 1) 0).length:Nat):Int); rw [List.length_append,hfl,List.length_cons]; omega) ?_;refine bV (by show 0≤(i:Int)∧(i:Int)<(((dV (l.take i)++je (dV (l.take i)) ((l.getD i au).Parents.take j)::List.replicate (l.length - i - 1) 0).length:Nat):Int); simp [hfl]; omega) ?_;refine bV (by show InI64 ((j:Int)+1); unfold InI64; have:=hpi.1; omega) ?_;refine ih7 _ ⟨j+1,?_,hjl⟩ (by show ((l.getD i au).Parents.length - ((j:Int)+1)).toNat<((l.getD i au).Parents.length - (j:Int)).toNat; omega);have e:je (dV (l.take i)) ((l.getD i au).Parents.take (j+1))=Fy ((dV (l.take i)++je (dV (l.take i)) ((l.getD i au).Parents.take j)::List.replicate (l.length - i - 1) 0).getD i 0) ((dV (l.take i)++je (dV (l.take i)) ((l.getD i au).Parents.take j)::List.replicate (l.length - i - 1) 0).getD ((l.getD i au).Parents.getD j 0).toNat 0):=by
      rw [jh 0 hfl.symm,lT 0 (by omega)];unfold je;rw [oh _ _ 0 hjl]
     rw [e];have hs:=set_mid (dV (l.take i)) (je (dV (l.take i)) ((l.getD i au).Parents.take j)) (Fy ((dV (l.take i)++je (dV (l.take i)) ((l.getD i au).Parents.take j)::List.replicate (l.length - i - 1) 0).getD i 0) ((dV (l.take i)++je (dV (l.take i)) ((l.getD i au).Parents.take j)::List.replicate (l.length - i - 1) 0).getD ((l.getD i au).Parents.getD j 0).toNat 0)) (List.replicate (l.length - i - 1) 0);rw [hfl] at hs;rw [← hs];rfl
    ·have hje:j=(l.getD i au).Parents.length:=by have:¬ (j:Int)<((l.getD i au).Parents.length:Int):=of_decide_eq_false h4; omega
     subst hje;rw [List.take_length];have hpx:=hpm (l.getD i au).Parents;refine aD (fun h5=>?_) (fun h5=>?_)
     ·have hlen:0≤(i:Int)∧(i:Int)<(((dV (l.take i)++je (dV (l.take i)) (l.getD i au).Parents::List.replicate (l.length - i - 1) 0).length:Nat):Int):=by simp [hfl]; omega
      refine bV hlen ?_;refine bV (by show InI64 ((dV (l.take i)++je (dV (l.take i)) (l.getD i au).Parents::List.replicate (l.length - i - 1) 0).getD i 0+1); rw [jh 0 hfl.symm]; unfold InI64; omega) ?_;refine bV hlen ?_;have e:AB (dV (l.take i)) (l.getD i au)=(dV (l.take i)++je (dV (l.take i)) (l.getD i au).Parents::List.replicate (l.length - i - 1) 0).getD i 0+1:=by
       rw [jh 0 hfl.symm];unfold AB GU;rw [show ((l.getD i au).Kind==2||(l.getD i au).Kind==3)=true from h5];rfl
      have hs:=set_mid (dV (l.take i)) (je (dV (l.take i)) (l.getD i au).Parents) (AB (dV (l.take i)) (l.getD i au)) (List.replicate (l.length - i - 1) 0);rw [hfl] at hs;rw [← hs,e] at hcut;exact hcut
     ·have e:AB (dV (l.take i)) (l.getD i au)=je (dV (l.take i)) (l.getD i au).Parents:=by
       unfold AB GU;rw [show ((l.getD i au).Kind==2||(l.getD i au).Kind==3)=false from h5];rfl
      rw [e] at hcut;exact hcut
   ·have hil:i=l.length:=by have:¬ (i:Int)<(l.length:Int):=of_decide_eq_false h3; omega
    subst hil;refine ak ?_;rw [List.take_length] at hj2;unfold bW;rw [hb3,hall,decide_eq_false (show ¬ 4096<jo l by omega),any_none (p:=fun n=>decide (4<n)) 0 (by rw [(gQ l).1]; exact hj3)];rfl
end Go.Proofs.YtfblhejmclcdmaaGreatDoor



namespace Go.Proofs.YtfblhejmclcdmaaGreatDoor
open Go.Ab
set_option maxRecDepth 100000
theorem SS {a b:Int} (ha:0≤a) (hb:0<b):gD b (a.tmod b)=gD a b:=by
 unfold gD;rw [Int.tmod_eq_emod_of_nonneg ha,show (a % b).toNat=a.toNat % b.toNat from Int.toNat_emod ha (by omega),Nat.gcd_comm a.toNat,Nat.gcd_rec b.toNat a.toNat,Nat.gcd_comm]
theorem Nj {x M e:Int} (hM:0≤M) (he:0<e) (hx:0≤x) (h:x≤M.tdiv e):0≤x*e∧x*e≤M:=by
 rw [Int.tdiv_eq_ediv_of_nonneg hM] at h;exact ⟨Int.mul_nonneg hx (by omega),(Int.le_ediv_iff_mul_le he).1 h⟩
theorem JW {x y X Y:Int} (h1:0≤x) (h2:x≤X) (h3:0≤y) (h4:y≤Y):0≤y*x∧y*x≤Y*X:=
 ⟨Int.mul_nonneg h3 h1,Int.mul_le_mul h4 h2 h1 (by omega)⟩
theorem rR {a_:Int} {b_:Int} (h1:0≤a_) (h2:0≤b_):W (lX a_ b_) (fun r=>r=gD a_ b_):=by
 unfold lX;refine bD (fun (g1:(Int×Int))=>0≤g1.1∧0≤g1.2∧gD g1.1 g1.2=gD a_ b_) (fun (g1:(Int×Int))=>g1.2.toNat) ?_ ?_
 ·intro self1 g1 hig1 ihg1;obtain ⟨hg1_1,hg1_2,hg1_3⟩:=hig1;unfold Dz;refine aD (fun c1=>?_) (fun c1=>?_)
  ·have c1:=nr c1;refine wn ?_;refine ihg1 _ ?_ ?_
   ·(refine ⟨by exact ob,Int.tmod_nonneg _ (by omega),?_⟩; dsimp only; rw [← hg1_3]; exact SS (by omega) (by omega))
   ·(dsimp only; have:=Fe g1.1 g1.2 (by omega); have:=Int.tmod_nonneg (a:=g1.1) g1.2 (by omega); omega)
  ·have c1:=nr c1;refine ak ?_;(rw [← hg1_3]; unfold gD; have e:g1.2=0:=c1; rw [e]; simp; omega)
 ·exact ob
theorem vw {r_:aP}:W (oq r_) (fun r=>r=validR r_):=by
 unfold oq;refine ay (dF fun hc=>iJ (rR (by have hc:=nr hc; omega) (by have hc:=nr hc; omega))) fun v1 hv1=>?_;subst hv1;refine ak ?_;rfl
theorem OG {a00_:Int} {a01_:Int} {a1_:Int} (h1:0≤a00_) (h2:a00_≤144115188075855872) (h3:1≤a01_) (h4:a01_≤16777216) (h5:1≤a1_) (h6:a1_≤64):W (xw a00_ a01_ a1_) (fun r=>r=(a00_.tdiv (gD a00_ a1_),a01_*a1_.tdiv (gD a00_ a1_))):=by
 unfold xw;refine ay (rR ob ob) fun v1 hv1=>?_;subst hv1;have hg:=sP a00_ a1_ (by omega); have q1:=tdiv_le a00_ _ (by omega) hg; have q2:=tdiv_le a1_ _ (by omega) hg; have q3:=JW q2.1 (show a1_.tdiv (gD a00_ a1_)≤64 by omega) (show 0≤a01_ by omega) h4;refine wn ?_;refine wn ?_;refine wn ?_;refine ak ?_;rfl
theorem Nk {num_:Int} {den_:Int} (h1:num_≤4611686018427387904) (h2:den_≤4611686018427387904):W (DC num_ den_) (fun r=>r=newR num_ den_):=by
 unfold DC;refine aD (fun c1=>?_) (fun c1=>?_)
 ·have c1o:=c1;have c1:=nr c1;refine ak ?_;(unfold newR; rw [c1o]; rfl)
 ·have c1o:=c1;have c1:=nr c1;have hg:=sP num_ den_ (by omega); have q1:=tdiv_le num_ _ (by omega) hg; have q2:=tdiv_le den_ _ (by omega) hg;refine ay (rR ob ob) fun v1 hv1=>?_;subst hv1;refine wn ?_;refine wn ?_;refine ay (vw) fun v2 hv2=>?_;subst hv2;refine aD (fun c2=>?_) (fun c2=>?_)
  ·have c2o:=c2;have c2:=nr c2;refine ak ?_;(unfold newR; rw [c1o]; simp only [cond_false]; rw [c2o]; rfl)
  ·have c2o:=c2;have c2:=nr c2;refine ak ?_;(unfold newR; rw [c1o]; simp only [cond_false]; rw [c2o]; rfl)
theorem OH {r_:aP} {k_:Int} {scale0_:Int} {scale1_:Int} {scale2_:Int} (h1:r_.Num=scale0_) (h2:r_.Den=scale1_) (h3:k_=scale2_):W (xA r_ k_ scale0_ scale1_ scale2_) (fun r=>r=sQ r_ k_):=by
 subst h1 h2 h3;unfold xA;refine ay (vw) fun v1 hv1=>?_;subst hv1;refine aD (fun c1=>?_) (fun c1=>?_)
 ·have c1o:=c1;have c1:=nr c1;refine ak ?_;(unfold sQ; rw [c1o]; rfl)
 ·have c1o:=c1;have c1:=nr c1;have hv:=ou (r:=r_) (by simpa using c1o);refine aD (fun c2=>?_) (fun c2=>?_)
  ·have c2:=nr c2;refine ak ?_;(unfold sQ pW; rw [c1o]; simp only [cond_false]; rw [show (!(decide (1≤k_)&&decide (k_≤64)))=true by simp; omega]; rfl)
  ·have c2:=nr c2;refine ay (OG ob ob ob ob ob ob) fun v2 hv2=>?_;subst hv2;have hg:=sP r_.Num k_ (by omega); have q1:=tdiv_le r_.Num _ hv.1 hg; have q2:=tdiv_le k_ _ (by omega) hg; have q3:=JW q2.1 (show k_.tdiv (gD r_.Num k_)≤64 by omega) (show 0≤r_.Den by omega) hv.2.2.2.1;refine ay (Nk ob ob) fun v3 hv3=>?_;subst hv3;refine ak ?_;(unfold sQ pW; rw [c1o]; simp only [cond_false]; rw [show (!(decide (1≤k_)&&decide (k_≤64)))=false by simp; omega]; exact Xn _ _ _ hv.1 (by omega) (by omega))
theorem SV {r_:aP} {k_:Int}:W (EY r_ k_) (fun r=>r=sQ r_ k_):=by
 unfold EY;refine ay (OH rfl rfl rfl) fun v1 hv1=>?_;subst hv1;refine ak ?_;rfl
theorem Nl {a0_:Int} {a10_:Int} {a11_:Int} (h1:1≤a0_) (h2:a0_≤64) (h3:0≤a10_) (h4:a10_≤144115188075855872) (h5:1≤a11_) (h6:a11_≤16777216):W (uP a0_ a10_ a11_) (fun r=>r=(bif decide ((144115188075855872:Int).tdiv (a0_.tdiv (gD a0_ a11_))<a10_) then (-1,1) else (a10_*(a0_.tdiv (gD a0_ a11_)),a11_.tdiv (gD a0_ a11_)))):=by
 unfold uP;refine ay (rR ob ob) fun v1 hv1=>?_;subst hv1;have hg:=sP a0_ a11_ (by omega); have q1:=tdiv_le a0_ _ (by omega) hg; have q2:=tdiv_le a11_ _ (by omega) hg; have q4:=abT a0_ a11_ (by omega) (by omega); have q5:=tdiv_le 144115188075855872 _ (by omega) (show 0<a0_.tdiv (gD a0_ a11_) by omega);refine wn ?_;refine wn ?_;refine aD (fun c1=>?_) (fun c1=>?_)
 ·have c1o:=c1;have c1:=nr c1;refine ak ?_;(rw [c1o]; rfl)
 ·have c1o:=c1;have c1:=nr c1;have q3:=Nj (x:=a10_) (M:=144115188075855872) (e:=a0_.tdiv (gD a0_ a11_)) (by omega) (by omega) (by omega) c1;refine wn ?_;refine wn ?_;refine wn ?_;refine ak ?_;(rw [c1o]; rfl)
theorem JX {r_:aP} {k_:Int} {scale0_:Int} {scale1_:Int} {scale2_:Int} (h1:k_=scale0_) (h2:r_.Num=scale1_) (h3:r_.Den=scale2_):W (pF r_ k_ scale0_ scale1_ scale2_) (fun r=>r=kZ r_ k_):=by
 subst h1 h2 h3;unfold pF;refine ay (vw) fun v1 hv1=>?_;subst hv1;refine aD (fun c1=>?_) (fun c1=>?_)
 ·have c1o:=c1;have c1:=nr c1;refine ak ?_;(unfold kZ; rw [c1o]; rfl)
 ·have c1o:=c1;have c1:=nr c1;have hv:=ou (r:=r_) (by simpa using c1o);refine aD (fun c2=>?_) (fun c2=>?_)
  ·have c2:=nr c2;refine ak ?_;(unfold kZ pW; rw [c1o]; simp only [cond_false]; rw [show (!(decide (1≤k_)&&decide (k_≤64)))=true by simp; omega]; rfl)
  ·have c2:=nr c2;refine ay (Nl ob ob ob ob ob ob) fun v2 hv2=>?_;subst hv2;have hg:=sP k_ r_.Den (by omega); have q1:=tdiv_le k_ _ (by omega) hg; have q2:=tdiv_le r_.Den _ (by omega) hg; have q4:=abT k_ r_.Den (by omega) (by omega); have q3:=JW (show 0≤k_.tdiv (gD k_ r_.Den) by omega) q4.2 hv.1 hv.2.1; have q6:∀M:Int,M.tdiv (k_.tdiv (gD k_ r_.Den))<r_.Num∨r_.Num≤M.tdiv (k_.tdiv (gD k_ r_.Den)):=fun M=>by omega
   refine ay (Nk (by cases hd:decide ((144115188075855872:Int).tdiv (k_.tdiv (gD k_ r_.Den))<r_.Num) with | true=>(simp only [cond_true]; omega) | false=>(have q7:=Nj (x:=r_.Num) (M:=144115188075855872) (e:=k_.tdiv (gD k_ r_.Den)) (by omega) (by omega) (by omega) (by have:=of_decide_eq_false hd; omega); simp only [cond_false]; omega)) (by cases hd:decide ((144115188075855872:Int).tdiv (k_.tdiv (gD k_ r_.Den))<r_.Num) with | true=>(simp only [cond_true]; omega) | false=>(have q7:=Nj (x:=r_.Num) (M:=144115188075855872) (e:=k_.tdiv (gD k_ r_.Den)) (by omega) (by omega) (by omega) (by have:=of_decide_eq_false hd; omega); simp only [cond_false]; omega))) fun v3 hv3=>?_;subst hv3;refine ak ?_;(unfold kZ pW; rw [c1o]; simp only [cond_false]; rw [show (!(decide (1≤k_)&&decide (k_≤64)))=false by simp; omega]; simp only [cond_false]; cases hd:decide ((144115188075855872:Int).tdiv (k_.tdiv (gD k_ r_.Den))<r_.Num)<;>rfl)
theorem Q6 {r_:aP} {k_:Int}:W (Aq r_ k_) (fun r=>r=kZ r_ k_):=by
 unfold Aq;refine ay (JX rfl rfl rfl) fun v1 hv1=>?_;subst hv1;refine ak ?_;rfl
theorem Gh {r_:aP} {low_:Int} {high_:Int}:W (sI r_ low_ high_) (fun r=>r=rQ r_ low_ high_):=by
 unfold sI;refine ay (vw) fun v1 hv1=>?_;subst hv1;refine aD (fun c1=>?_) (fun c1=>?_)
 ·have c1o:=c1;have c1:=nr c1;refine ak ?_;(unfold rQ; rw [show validR r_=false by simpa using c1o]; rfl)
 ·have c1o:=c1;have c1:=nr c1;have hv:=ou (r:=r_) (by simpa using c1o); have q1:=tdiv_le r_.Num r_.Den hv.1 (by omega);refine wn ?_;refine wn ?_;refine ak ?_;(unfold rQ; rw [show validR r_=true by simpa using c1o]; rfl)
end Go.Proofs.YtfblhejmclcdmaaGreatDoor

namespace Go.Proofs.YtfblhejmclcdmaaGreatDoor
open Go.Ab
set_option maxRecDepth 100000
theorem SY {l:List av} {m:List bC} (h:qF l m=true):∀x∈m,IB l.length x=false:=fun x hx=>by
 obtain ⟨_,_,h1⟩:=SK h;obtain ⟨i,hi,rfl⟩:=List.mem_iff_getElem.1 hx;have:=h1 i hi;rwa [List.getD_eq_getElem?_getD,List.getElem?_eq_getElem hi] at this
theorem zL {l:List av} {s:List Int} {i:Nat} {v:aP} {L:List aP} (hL:L=ow l s i++List.replicate (l.length - i) bZ) (hi:i<l.length) (e:OD (ow l s i) (l.getD i au) (s.getD i 0)=v) {k:Nat} (hk:k=i+1:=by omega):L.set i v=ow l s k++List.replicate (l.length - k) bZ:=by
 subst hk hL;have hrl:=qX l s i;have hrep:List.replicate (l.length - i) bZ=bZ::List.replicate (l.length - (i+1)) bZ:=by
  rw [show l.length - i=(l.length - (i+1))+1 by omega];rfl
 rw [hrep,List.set_append_right _ _ (by omega),hrl,Nat.sub_self,ow,e,List.append_assoc];rfl
theorem JY {x_:bC} {a1_:(List av)} (h1:a1_.length≤1000000):W (lW x_ a1_) (fun r=>r=IB a1_.length x_):=by
 unfold lW;refine wn ?_;refine ay (Dh (gT _ _ _)) fun v1 hv1=>?_;subst hv1;refine ay (dF fun hc=>gT _ _ _) fun v2 hv2=>?_;subst hv2;refine ay (dF fun hc=>gT _ _ _) fun v3 hv3=>?_;subst hv3;refine ak ?_;rfl
theorem qY {s_:(List bC)} {f_:(List av)} (h1:s_.length≤1000000) (h2:f_.length≤1000000):W (iQ s_ f_) (fun r=>r=s_.any (IB f_.length)):=
 Dh (Gg (Gf (p:=fun x=>lW x f_) (P:=IB f_.length) (fun x hx=>iJ (JY h2)) (by omega)) (nK _ _))
theorem Nn {l_:(List av)} {m_:(List bC)} (h1:l_.length≤1000000) (h2:m_.length≤1000000):W (uN l_ m_) (fun r=>r=qF l_ m_):=by
 unfold uN;refine ay (Dh (yK ob)) fun v1 hv1=>?_;subst hv1;refine ay (dF fun hc=>iJ (qY ob ob)) fun v2 hv2=>?_;subst hv2;refine ak ?_;rfl
theorem Cc {l_:(List av)} {s_:(List Int)} (h1:l_.length≤1000000) (h2:s_.length≤1000000) (h3:aau l_):W (nA l_ s_) (fun r=>r=settB l_ s_):=by
 unfold nA;refine aD (fun c1=>?_) (fun c1=>?_)
 ·have c1o:=c1;have c1:=nr c1;refine ak ?_;(unfold settB; rw [show ((s_.length:Int)==(l_.length:Int))=false by simpa using c1o]; rfl)
 ·have c1o:=c1;have c1:=nr c1;have he:((s_.length:Int)==(l_.length:Int))=true:=by simpa using c1o
  refine bD (fun (g1:Int)=>0≤g1∧g1≤s_.length∧(∀j:Nat,(j:Int)<g1→withinF (s_.getD j 0) 0 ((l_.getD j au).Choices.length - 1)=true)) (fun (g1:Int)=>(s_.length - g1).toNat) ?_ ?_
  ·intro self1 g1 hig1 ihg1;obtain ⟨hg1_1,hg1_2,hg1_3⟩:=hig1;unfold zw;refine aD (fun c2=>?_) (fun c2=>?_)
   ·have c2:=nr c2;have hch:=h3 g1.toNat (by omega);refine wn ?_;refine wn ?_;refine wn ?_;refine ay (Dh (gT _ _ _)) fun v3 hv3=>?_;subst hv3;refine aD (fun c3=>?_) (fun c3=>?_)
    ·have c3o:=c3;have c3:=nr c3;refine ak ?_;(unfold settB; rw [he,wF (i:=g1.toNat) (by omega) (by simpa using c3o)]; rfl)
    ·have c3o:=c3;have c3:=nr c3;refine wn ?_;refine ihg1 _ ?_ ?_
     ·(refine ⟨by exact ob,by exact ob,fun j hj=>?_⟩; by_cases q:j<g1.toNat; (exact hg1_3 j (by omega)); (have e:j=g1.toNat:=by omega); subst e; simpa using c3o)
     ·exact ob
   ·have c2:=nr c2;refine ak ?_;(unfold settB; rw [he,yJ fun j hj=>hg1_3 j (by omega)]; rfl)
  ·(refine ⟨by exact ob,by exact ob,fun j hj=>by omega⟩)
theorem Np {l_:(List av)} {s_:(List Int)} {clock_:Int} (h1:0≤clock_) (h2:clock_<l_.length) (h3:clock_<s_.length) (h4:Nh (l_.getD clock_.toNat au) (s_.getD clock_.toNat 0)):W (uO l_ s_ clock_) (fun r=>r=parF (l_.getD clock_.toNat au) (s_.getD clock_.toNat 0)):=by
 have hp:=h4; unfold Nh at hp;unfold uO;refine wn ?_;refine aD (fun c1=>?_) (fun c1=>?_)
 ·have c1o:=c1;have c1:=nr c1;refine ak ?_;(unfold parF; rw [c1o]; rfl)
 ·have c1o:=c1;have c1:=nr c1;refine aD (fun c2=>?_) (fun c2=>?_)
  ·have c2o:=c2;have c2:=nr c2;refine wn ?_;refine wn ?_;refine wn ?_;refine ak ?_;(unfold parF; rw [c1o,c2o]; rfl)
  ·have c2o:=c2;have c2:=nr c2;refine wn ?_;refine ak ?_;(unfold parF; rw [c1o,c2o]; rfl)
theorem Gi {l_:(List av)} {s_:(List Int)} (h1:Good l_ s_):W (sH l_ s_) (fun r=>r=jf l_ s_):=by
 obtain ⟨q1,q2,q3,q4,q5⟩:=h1;unfold sH;refine wn ?_;refine bD (fun (g1:(Int×(List aP)))=>0≤g1.1∧g1.1≤l_.length∧g1.2=ow l_ s_ g1.1.toNat++List.replicate (l_.length - g1.1.toNat) bZ) (fun (g1:(Int×(List aP)))=>(l_.length - g1.1).toNat) ?_ ?_
 ·intro self1 g1 hig1 ihg1;obtain ⟨hg1_1,hg1_2,hg1_3⟩:=hig1;unfold DF;refine aD (fun c1=>?_) (fun c1=>?_)
  ·have c1:=nr c1;have hlt:g1.1.toNat<l_.length:=(by omega); have hch:=q3 _ hlt; have hpar:=q5 _ hlt; have hpc:=q4 _ hlt; have hrl:=qX l_ s_ g1.1.toNat; have hgl:g1.2.length=l_.length:=(by rw [hg1_3,List.length_append,hrl,List.length_replicate]; omega);refine wn ?_;refine wn ?_;refine wn ?_;refine ay (Np ob ob ob ob) fun v7 hv7=>?_;subst hv7;refine aD (fun c2=>?_) (fun c2=>?_)
   ·have c2o:=c2;have c2:=nr c2;refine wn ?_;refine wn ?_;refine ihg1 _ ?_ ?_
    ·(refine ⟨by exact ob,by exact ob,?_⟩; dsimp only; exact zL hg1_3 (by omega) (by unfold OD; rw [c2o]; rfl))
    ·exact ob
   ·have c2o:=c2;have c2:=nr c2;have hget:g1.2.getD (parF (l_.getD g1.1.toNat au) (s_.getD g1.1.toNat 0)).toNat bZ=(ow l_ s_ g1.1.toNat).getD (parF (l_.getD g1.1.toNat au) (s_.getD g1.1.toNat 0)).toNat bZ:=by rw [hg1_3]; exact lT _ (by omega)
    refine wn ?_;refine aD (fun c3=>?_) (fun c3=>?_)
    ·have c3o:=c3;have c3:=nr c3;refine wn ?_;refine wn ?_;refine ihg1 _ ?_ ?_
     ·(refine ⟨by exact ob,by exact ob,?_⟩; dsimp only; exact zL hg1_3 (by omega) (by unfold OD; rw [c2o,← hget,show (uE _||_)=true from c3o]; rfl))
     ·exact ob
    ·have c3o:=c3;have c3:=nr c3;refine aD (fun c4=>?_) (fun c4=>?_)
     ·have c4o:=c4;have c4:=nr c4;refine wn ?_;refine ay (SV) fun v8 hv8=>?_;subst hv8;refine wn ?_;refine wn ?_;refine ihg1 _ ?_ ?_
      ·(refine ⟨by exact ob,by exact ob,?_⟩; dsimp only; exact zL hg1_3 (by omega) (by unfold OD; rw [c2o,← hget,show (uE _||_)=false from c3o,c4o]; rfl))
      ·exact ob
     ·have c4o:=c4;have c4:=nr c4;refine aD (fun c5=>?_) (fun c5=>?_)
      ·have c5o:=c5;have c5:=nr c5;refine wn ?_;refine ay (Q6) fun v9 hv9=>?_;subst hv9;refine wn ?_;refine wn ?_;refine ihg1 _ ?_ ?_
       ·(refine ⟨by exact ob,by exact ob,?_⟩; dsimp only; exact zL hg1_3 (by omega) (by unfold OD; rw [c2o,← hget,show (uE _||_)=false from c3o,c4o,c5o]; rfl))
       ·exact ob
      ·have c5o:=c5;have c5:=nr c5;refine wn ?_;refine wn ?_;refine wn ?_;refine ihg1 _ ?_ ?_
       ·(refine ⟨by exact ob,by exact ob,?_⟩; dsimp only; exact zL hg1_3 (by omega) (by unfold OD; rw [c2o,← hget,show (uE _||_)=false from c3o,c4o,c5o]; rfl))
       ·exact ob
  ·have c1:=nr c1;refine ak ?_;(rw [hg1_3,show g1.1.toNat=l_.length by omega,Nat.sub_self]; simp [jf])
 ·(refine ⟨by exact ob,by exact ob,?_⟩; simp [ow])
theorem Lp {x_:bC} {a1_:(List aP)} (h1:0≤x_.Clock) (h2:x_.Clock<a1_.length):W (nC x_ a1_) (fun r=>r=aav a1_ x_):=by
 unfold nC;refine wn ?_;refine wn ?_;refine ay (dF fun hc=>iJ (Gh)) fun v1 hv1=>?_;subst hv1;refine ak ?_;rfl
theorem oU {s_:(List bC)} {f_:(List aP)} (h1:s_.length≤1000000) (h2:∀x∈s_,0≤x.Clock∧x.Clock<f_.length):W (gW s_ f_) (fun r=>r=s_.any (aav f_)):=
 Dh (Gg (Gf (p:=fun x=>nC x f_) (P:=aav f_) (fun x hx=>iJ (Lp (h2 x hx).1 (h2 x hx).2)) (by omega)) (nK _ _))
theorem OI {l_:(List av)} {s_:(List Int)} {m_:(List bC)} (h1:l_.length≤1000000) (h2:s_.length≤1000000) (h3:m_.length≤1000000) (h4:aau l_):W (xB l_ s_ m_) (fun r=>r=l9 l_ s_ m_):=by
 unfold xB;refine ay (Nn ob ob) fun v1 hv1=>?_;subst hv1;refine ay (dF fun hc=>iJ (Cc ob ob ob)) fun v2 hv2=>?_;subst hv2;refine aD (fun c1=>?_) (fun c1=>?_)
 ·have c1o:=c1;have c1:=nr c1;refine ak ?_;(unfold l9; rw [show (qF l_ m_&&settB l_ s_)=false from Bool.and_eq_false_iff.2 c1]; rfl)
 ·have c1o:=c1;have c1:=nr c1;have hls:qF l_ m_=true∧settB l_ s_=true:=by simpa using c1o
  obtain ⟨hck,hml,hmb⟩:=SK hls.1;have hgd:=Me (Md hck) hls.2;have hrl:(jf l_ s_).length=l_.length:=qX _ _ _;refine ay (Gi ob) fun v3 hv3=>?_;subst hv3;refine bD (fun (g1:Int)=>0≤g1∧g1≤l_.length∧(∀j:Nat,(j:Int)<g1→ownX ((jf l_ s_).getD j bZ) (l_.getD j au)=false)) (fun (g1:Int)=>(l_.length - g1).toNat) ?_ ?_
  ·intro self1 g1 hig1 ihg1;obtain ⟨hg1_1,hg1_2,hg1_3⟩:=hig1;unfold DJ;refine aD (fun c2=>?_) (fun c2=>?_)
   ·have c2:=nr c2;refine wn ?_;refine wn ?_;refine wn ?_;refine ay (dF fun hc=>iJ (Gh)) fun v6 hv6=>?_;subst hv6;refine aD (fun c3=>?_) (fun c3=>?_)
    ·have c3o:=c3;have c3:=nr c3;refine ak ?_;(unfold l9; rw [hls.1,hls.2,show ownB l_ (jf l_ s_)=false from wF (i:=g1.toNat) (by omega) (by rw [show ownX ((jf l_ s_).getD g1.toNat bZ) (l_.getD g1.toNat au)=true from c3o]; rfl)]; rfl)
    ·have c3o:=c3;have c3:=nr c3;refine wn ?_;refine ihg1 _ ?_ ?_
     ·(refine ⟨by exact ob,by exact ob,fun j hj=>?_⟩; by_cases q:j<g1.toNat; (exact hg1_3 j (by omega)); (have e:j=g1.toNat:=by omega); subst e; exact c3o)
     ·exact ob
   ·have c2:=nr c2;refine ay (oU ob (fun x hx=>by rw [hrl]; exact (SL (SY hls.1 x hx)).1)) fun v7 hv7=>?_;subst hv7;refine ak ?_;(unfold l9; rw [hls.1,hls.2,show ownB l_ (jf l_ s_)=true from yJ fun j hj=>by rw [hg1_3 j (by omega)]; rfl]; rfl)
  ·(refine ⟨by exact ob,by exact ob,fun j hj=>by omega⟩)
theorem OJ {l_:(List av)} {s_:(List Int)} (h1:l_.length≤1000000) (h2:s_.length≤1000000) (h3:aau l_):W (xC l_ s_) (fun r=>r=Ei l_ s_):=by
 unfold xC;refine ay (Dh (yK ob)) fun v1 hv1=>?_;subst hv1;refine aD (fun c1=>?_) (fun c1=>?_)
 ·have c1o:=c1;have c1:=nr c1;refine ak ?_;(unfold Ei; rw [c1o]; rfl)
 ·have c1o:=c1;have c1:=nr c1;have hck:bW l_=0:=by simpa using c1o
  refine ay (Cc ob ob ob) fun v2 hv2=>?_;subst hv2;refine aD (fun c2=>?_) (fun c2=>?_)
  ·have c2o:=c2;have c2:=nr c2;refine ak ?_;(unfold Ei; rw [c1o,c2o]; rfl)
  ·have c2o:=c2;have c2:=nr c2;have hgd:=Me (Md hck) (show settB l_ s_=true by simpa using c2o);refine ay (Gi ob) fun v3 hv3=>?_;subst hv3;refine ak ?_;(unfold Ei; rw [c1o,c2o]; rfl)
end Go.Proofs.YtfblhejmclcdmaaGreatDoor


namespace Go.Proofs.YtfblhejmclcdmaaGreatDoor.Sp
open Go.Ab
set_option maxRecDepth 100000
deriving instance DecidableEq for aj,aM,bF
structure Chn where
 over:Bool
 adF:List Int
 first:Int
 last:Int
deriving DecidableEq
structure Xu where
 IG:Int
 draw:Int
 child:Int
deriving DecidableEq
def OL:Xu:=⟨0,0,0⟩
def withinF (n lo hi:Int):Bool:=decide (lo≤n)&&decide (n≤hi)
def bigS (s:aj):Bool:=decide (16<(s.aU.length:Int))
def headB (s:aj) (k:Int):Bool:=((((!withinF s.Parent (-1) (k - 1))||((s.aU.length:Int)==0))||!withinF s.dO 0 5000)||(decide (s.Parent<0)&&(s.dO != 0)))||!withinF s.eG 0 10000
def JZ:Int→List Int→Bool
 | _,[]=>true
 | p,v::t=>!(!withinF v 1 5000||decide (v≤p))&&JZ v t
def validS (s:aj) (k:Int):Bool:=!headB s k&&JZ 0 s.aU
theorem S9 {lev:List Int} {i:Nat} (hi:i<lev.length) {c:Bool} (hc:c=(!withinF (lev.getD i 0) 1 5000||(decide (0<(i:Int))&&decide (lev.getD i 0≤lev.getD (i - 1) 0)))):
  JZ (if i=0 then 0 else lev.getD (i - 1) 0) (lev.drop i)=(!c&&JZ (lev.getD i 0) (lev.drop (i+1))):=by
 rw [drop_cons 0 hi,JZ,hc];congr 2;cases h:withinF (lev.getD i 0) 1 5000 with
 | false=>rfl
 | true=>
  have h1:1≤lev.getD i 0:=by unfold withinF at h; simp at h; simpa using h.1
  by_cases h0:i=0
  ·subst h0;simp;have h1:1≤lev.getD 0 0:=h1;have:¬ lev.getD 0 0≤0:=by omega
   simpa using this
  ·have:decide (0<(i:Int))=true:=by simp; omega
   rw [this,if_neg h0];simp
def OO (n:Int) (x:aM):Bool:=((!withinF x.bn 0 (n - 1)||!withinF x.High 0 5000)||!withinF x.Low 0 x.High)||!withinF x.Load 0 10000
def J2:Nat→List aj→Bool
 | _,[]=>true
 | i,s::t=>validS s i&&J2 (i+1) t
def bW (l:List aj):Int:=bif decide (16<(l.length:Int))||l.any bigS then 3 else bif J2 0 l then 0 else 1
theorem jK {α:Type} (d:α) {p:α→Bool} {l:List α} (h:l.any p=false) (i:Nat) (hi:i<l.length):p (l.getD i d)=false:=by
 have:=fM d hi;rw [List.any_eq_false] at h;simpa using h _ this
theorem Wn (n:Nat):decide ((n:Int)<1)=((n:Int)==0):=by
 by_cases h:n=0
 ·subst h; rfl
 ·rw [decide_eq_false (by omega)];symm;simpa using h
def mg (l:List aj) (d:List aM):Bool:=((bW l==0)&&decide ((d.length:Int)≤32))&&!(d.any (OO l.length))
theorem Ta (n:Int) (x:aM):(((!withinF x.bn 0 (n - 1)||!withinF x.Low 0 x.High)||decide (5000<x.High))||!withinF x.Load 0 10000)=OO n x:=by
 unfold OO;cases withinF x.bn 0 (n - 1) with
 | false=>rfl
 | true=>
  cases withinF x.Load 0 10000 with
  | false=>simp
  | true=>
   simp only [Bool.not_true,Bool.false_or,Bool.or_false];unfold withinF;by_cases h1:0≤x.Low<;>by_cases h2:x.Low≤x.High<;>by_cases h3:5000<x.High<;>by_cases h4:0≤x.High<;>by_cases h5:x.High≤5000<;>simp [h1,h2,h3,h4,h5]<;>omega
def rlN:List aj→List Int→Bool
 | s::l,k::t=>withinF k 0 (s.aU.length - 1)&&rlN l t
 | _,_=>true
def AO (l:List aj) (r:bF):Bool:=bif ((bW l != 0)||((r.On.length:Int) != l.length))||((r.Level.length:Int) != l.length) then false else rlN l r.Level
theorem II {l:List aj} (h:bW l=0):l.length≤16∧(∀i,i<l.length→(l.getD i ah).aU.length≤16)∧J2 0 l=true:=by
 unfold bW at h;cases h1:(decide (16<(l.length:Int))||l.any bigS) with
 | true=>rw [h1] at h; cases h
 | false=>
  rw [h1] at h;have h2:J2 0 l=true:=by
   cases hv:J2 0 l with
   | true=>rfl
   | false=>rw [hv] at h; cases h
  simp only [Bool.or_eq_false_iff] at h1;refine ⟨by have:=of_decide_eq_false h1.1; omega,fun i hi=>?_,h2⟩;have:=jK ah h1.2 i hi;unfold bigS at this;have:=of_decide_eq_false this;omega
def beginF (l:List aj) (d:List aM):Int:=bif bW l != 0 then bW l else bif !mg l d then 1 else 0
theorem dU {α:Type} (d:α) (l:List α) (i:Nat) (v:α) (k:Nat):(l.set i v).getD k d=if k=i∧i<l.length then v else l.getD k d:=by
 rw [List.getD_eq_getElem?_getD,List.getD_eq_getElem?_getD,List.getElem?_set];by_cases h:i=k
 ·subst h;by_cases h2:i<l.length
  ·simp [h2]
  ·simp [h2]
 ·have:¬ (k=i∧i<l.length):=fun h'=>h h'.1.symm;simp [h,this]
def IJ {α:Type} (f:Nat→α→α):Nat→α→α
 | 0,a=>a
 | k+1,a=>IJ f k (f k a)
def qG (n:Nat) (d:List aM):List Bool:=d.foldl (fun a x=>a.set x.bn.toNat true) (List.replicate n false)
def iA (l:List aj) (i:Nat) (a:List Bool):List Bool:=
 bif (a.getD i false||(l.getD i ah).Always)&&decide (0≤(l.getD i ah).Parent) then (a.set i (a.getD i false||(l.getD i ah).Always)).set (l.getD i ah).Parent.toNat true else a.set i (a.getD i false||(l.getD i ah).Always)
def iL (l:List aj) (d:List aM):List Bool:=IJ (iA l) l.length (qG l.length d)
structure Xv (l:List aj) (d:List aM):Prop where
 len:l.length≤16
 adl:d.length≤32
 bn:∀i,i<l.length → -1≤(l.getD i ah).Parent∧(l.getD i ah).Parent<i∧1≤(l.getD i ah).aU.length∧(l.getD i ah).aU.length≤16∧0≤(l.getD i ah).dO∧(l.getD i ah).dO≤5000∧0≤(l.getD i ah).eG∧(l.getD i ah).eG≤10000
 aU:∀i,i<l.length→JZ 0 (l.getD i ah).aU=true
 drw:∀x∈d,0≤x.bn∧x.bn<l.length∧0≤x.Low∧x.Low≤x.High∧x.High≤5000∧0≤x.Load∧x.Load≤10000
theorem yh {n lo hi:Int}:withinF n lo hi=true↔lo≤n∧n≤hi:=by
 unfold withinF;simp
theorem Tc {l:List aj} {k:Nat} (h:J2 k l=true):∀i,i<l.length→validS (l.getD i ah) ((k+i:Nat):Int)=true:=by
 induction l generalizing k with
 | nil=>intro i hi; simp at hi
 | cons s t ih=>
  rw [J2,Bool.and_eq_true] at h;intro i hi;cases i with
  | zero=>exact h.1
  | succ i=>
   have:=ih h.2 i (by simpa using hi);rw [show k+(i+1)=k+1+i by omega];exact this
theorem Td {s:aj} {k:Int} (h:validS s k=true) : -1≤s.Parent∧s.Parent<k∧1≤s.aU.length∧0≤s.dO∧s.dO≤5000∧0≤s.eG∧s.eG≤10000∧JZ 0 s.aU=true∧(s.Parent<0→s.dO=0):=by
 unfold validS headB at h;simp only [Bool.and_eq_true,Bool.not_eq_true',Bool.or_eq_false_iff,Bool.not_eq_false',yh] at h;obtain ⟨⟨⟨⟨⟨h1,h2⟩,h3⟩,h4⟩,h5⟩,h6⟩:=h;have h2':¬ (s.aU.length:Int)=0:=by simpa using h2
 refine ⟨h1.1,by omega,by omega,h3.1,h3.2,h5.1,h5.2,h6,fun hp=>?_⟩;rw [decide_eq_true hp] at h4;simpa using h4
theorem YW {l:List aj} {d:List aM} (h:mg l d=true):Xv l d:=by
 unfold mg at h;simp only [Bool.and_eq_true,Bool.not_eq_true'] at h;obtain ⟨⟨h1,h2⟩,h3⟩:=h;have h1:bW l=0:=by simpa using h1
 obtain ⟨c1,c2,c3⟩:=II h1;refine ⟨c1,by have:=of_decide_eq_true h2; omega,fun i hi=>?_,fun i hi=>?_,fun x hx=>?_⟩
 ·have:=Td (Tc c3 i hi);have:=c2 i hi;omega
 ·exact (Td (Tc c3 i hi)).2.2.2.2.2.2.2.1
 ·have:=(List.any_eq_false.1 h3) x hx;unfold OO at this;simp only [Bool.not_eq_true,Bool.or_eq_false_iff,Bool.not_eq_false',yh] at this;omega
theorem Qb {α β:Type} (f:List α→β→List α) (hf:∀a x,(f a x).length=a.length) (d:List β) (a:List α):(d.foldl f a).length=a.length:=by
 induction d generalizing a with
 | nil=>rfl
 | cons x d ih=>rw [List.foldl_cons,ih,hf]
theorem oP (n:Nat) (d:List aM):(qG n d).length=n:=by
 unfold qG;rw [Qb _ (fun a x=>List.length_set ..),List.length_replicate]
theorem kP (l:List aj) (i:Nat) (a:List Bool):(iA l i a).length=a.length:=by
 unfold iA;cases (a.getD i false||(l.getD i ah).Always)&&decide (0≤(l.getD i ah).Parent)<;>simp
theorem Qc {α:Type} {f:Nat→List α→List α} (hf:∀i a,(f i a).length=a.length) (k:Nat) (a:List α):(IJ f k a).length=a.length:=by
 induction k generalizing a with
 | zero=>rfl
 | succ k ih=>rw [IJ,ih,hf]
theorem Fh (l:List aj) (d:List aM):(iL l d).length=l.length:=by
 unfold iL;rw [Qc (kP l),oP]
def Jz {α:Type} (f:Nat→α→α) (n:Nat):Nat→α→α
 | 0,a=>a
 | k+1,a=>f (n - 1 - k) (Jz f n k a)
theorem Xw {α:Type} (f:Nat→α→α) (n k:Nat) (hk:k≤n) (a:α):IJ f n a=IJ f (n - k) (Jz f n k a):=by
 induction k with
 | zero=>rfl
 | succ k ih=>
  rw [ih (by omega),show n - k=n - (k+1)+1 by omega,IJ,Jz,show n - 1 - k=n - (k+1) by omega]
theorem Mf {α:Type} (f:Nat→α→α) (n:Nat) (a:α):Jz f n n a=IJ f n a:=by
 rw [Xw f n n (Nat.le_refl _),Nat.sub_self];rfl
theorem yj {α:Type} {f:Nat→List α→List α} (hf:∀i a,(f i a).length=a.length) (n k:Nat) (a:List α):(Jz f n k a).length=a.length:=by
 induction k with
 | zero=>rfl
 | succ k ih=>rw [Jz,hf,ih]
theorem sS {α:Type} (n k:Nat) (v:α):(List.replicate n v).getD k v=v:=by
 rw [List.getD_eq_getElem?_getD,List.getElem?_replicate];split<;>rfl
def tO (n:Nat) (d:List aM):List Int:=d.foldl (fun a x=>a.set x.bn.toNat (a.getD x.bn.toNat 0+x.Load)) (List.replicate n 0)
def fD (l:List aj) (i:Nat) (a:List Int):List Int:=
 bif decide (0≤(l.getD i ah).Parent) then a.set (l.getD i ah).Parent.toNat (a.getD (l.getD i ah).Parent.toNat 0+a.getD i 0) else a
def wG (l:List aj) (d:List aM):List Int:=IJ (fD l) l.length (tO l.length d)
theorem IK (n:Nat) (d:List aM):(tO n d).length=n:=by
 unfold tO;rw [Qb _ (fun a x=>List.length_set ..),List.length_replicate]
theorem AP (l:List aj) (i:Nat) (a:List Int):(fD l i a).length=a.length:=by
 unfold fD;cases decide (0≤(l.getD i ah).Parent)<;>simp
theorem G5 (l:List aj) (d:List aM):(wG l d).length=l.length:=by
 unfold wG;rw [Qc (AP l),IK]
def Bnd (a:List Int) (M:Int):Prop:=∀j,0≤a.getD j 0∧a.getD j 0≤M
theorem Bnd.set {a:List Int} {M N:Int} (h:Bnd a M) (hM:M≤N) (i:Nat) (v:Int) (hv:0≤v∧v≤N):Bnd (a.set i v) N:=fun j=>by
 rw [dU];have:=h j;split
 ·exact hv
 ·omega
theorem Te (n:Nat) (d:List aM) (hd:∀x∈d,0≤x.Load∧x.Load≤10000) (i:Nat) (hi:i≤d.length):Bnd (tO n (d.take i)) (10000*i):=by
 induction i with
 | zero=>intro j; rw [List.take_zero]; have:(tO n []).getD j 0=0:=sS n j 0; omega
 | succ i ih=>
  have hsn:tO n (d.take (i+1))=(tO n (d.take i)).set (d.getD i bL).bn.toNat ((tO n (d.take i)).getD (d.getD i bL).bn.toNat 0+(d.getD i bL).Load):=oh _ _ bL hi;rw [hsn];have h1:=ih (by omega);have h2:=hd _ (fM bL hi);have h3:=h1 (d.getD i bL).bn.toNat;exact h1.set (by omega) _ _ (by omega)
theorem U5 (l:List aj) (a:List Int) (M:Int) (h:Bnd a M) (k:Nat):Bnd (Jz (fD l) l.length k a) (M*2 ^ k):=by
 induction k with
 | zero=>show Bnd a (M*2 ^ 0); rw [Int.pow_zero,Int.mul_one]; exact h
 | succ k ih=>
  rw [Jz];have e:M*2 ^ (k+1)=M*2 ^ k+M*2 ^ k:=by rw [Int.pow_succ,← Int.mul_assoc]; omega
  rw [e];generalize Jz (fD l) l.length k a=A at ih;generalize M*2 ^ k=X at ih;have hp:0≤X:=by have:=ih 0; omega
  unfold fD;cases decide (0≤(l.getD (l.length - 1 - k) ah).Parent) with
  | true=>
   have h1:=ih (l.getD (l.length - 1 - k) ah).Parent.toNat;have h2:=ih (l.length - 1 - k);exact ih.set (by omega) _ _ (by omega)
  | false=>
   intro j;have:=ih j;simp only [cond_false];omega
theorem IL {l:List aj} {d:List aM} (hv:Xv l d) (k:Nat) (hk:k≤l.length):Bnd (Jz (fD l) l.length k (tO l.length d)) 100000000000:=by
 have h1:=Te l.length d (fun x hx=>by have:=hv.drw x hx; omega) d.length (Nat.le_refl _);rw [List.take_length] at h1;have h2:=U5 l _ _ h1 k;have hvl:=hv.len;have hvd:=hv.adl;have h3:(2:Int) ^ k≤2 ^ 16:=by exact_mod_cast Nat.pow_le_pow_right (n:=2) (by decide) (show k≤16 by omega)
 have h4:10000*(d.length:Int)*2 ^ k≤320000*2 ^ 16:=Int.mul_le_mul (by omega) h3 (Int.pow_nonneg (by decide)) (by decide);intro j;have:=h2 j;omega
theorem YX {l:List aj} {d:List aM} (h:beginF l d=0):mg l d=true:=by
 unfold beginF at h;cases hc:bW l != 0 with
 | true=>rw [hc] at h; have:bW l=0:=h; rw [this] at hc; cases hc
 | false=>
  rw [hc] at h;cases hd:mg l d with
  | true=>rfl
  | false=>rw [hd] at h; cases h
def qH (l:List aj) (r:bF) (k:Nat):Int:=(l.getD k ah).aU.getD (r.Level.getD k 0).toNat 0
def G6 (l:List aj) (r:bF) (u:List Bool) (ld:List Int) (i:Nat):Bool:=
 bif !r.On.getD i false then u.getD i false
 else (decide (0≤(l.getD i ah).Parent)&&(!r.On.getD (l.getD i ah).Parent.toNat false||decide (qH l r (l.getD i ah).Parent.toNat<qH l r i+(l.getD i ah).dO)))||decide ((l.getD i ah).eG<ld.getD i 0)
def dBad (l:List aj) (r:bF) (x:aM):Bool:=!withinF (qH l r x.bn.toNat) x.Low x.High
def tQ (l:List aj) (r:bF) (d:List aM):Bool:=(List.range l.length).all (fun i=>!G6 l r (iL l d) (wG l d) i)&&!(d.any (dBad l r))
def l9 (l:List aj) (r:bF) (d:List aM):Bool:=bif !AO l r||!mg l d then false else tQ l r d
structure Rok (l:List aj) (r:bF):Prop where
 On:r.On.length=l.length
 len:r.Level.length=l.length
 aU:∀i,i<l.length→0≤r.Level.getD i 0∧(r.Level.getD i 0).toNat<(l.getD i ah).aU.length∧r.Level.getD i 0<(l.getD i ah).aU.length
theorem aaC {l:List aj} {r:List Int} (h:r.length=l.length):rlN l r=true↔∀i,i<l.length→0≤r.getD i 0∧r.getD i 0<(l.getD i ah).aU.length:=by
 induction l generalizing r with
 | nil=>simp [rlN]
 | cons s l ih=>
  cases r with
  | nil=>simp at h
  | cons k r=>
   rw [rlN,Bool.and_eq_true,yh,ih (by simpa using h)];constructor
   ·rintro ⟨h1,h2⟩ i hi;cases i with
    | zero=>show 0≤k∧k<s.aU.length; omega
    | succ i=>exact h2 i (by simpa using hi)
   ·intro h2;refine ⟨?_,fun i hi=>h2 (i+1) (by simpa using hi)⟩;have:0≤k∧k<s.aU.length:=h2 0 (by simp);omega
theorem J3 {l:List aj} {r:bF}:AO l r=true↔bW l=0∧Rok l r:=by
 unfold AO;cases h:((bW l != 0)||((r.On.length:Int) != l.length))||((r.Level.length:Int) != l.length) with
 | true=>
  simp only [cond_true];constructor
  ·intro h; cases h
  ·rintro ⟨h1,h2⟩;rw [h1,h2.On,h2.len] at h;simp at h
 | false=>
  simp only [cond_false];have h':bW l=0∧r.On.length=l.length∧r.Level.length=l.length:=by
   simp at h;omega
  rw [aaC h'.2.2];constructor
  ·intro h1;exact ⟨h'.1,h'.2.1,h'.2.2,fun i hi=>by have:=h1 i hi; omega⟩
  ·intro h1 i hi;have:=h1.2.aU i hi;omega
theorem aaD {p:Int} {v:List Int} (h:JZ p v=true):∀j,j<v.length→p<v.getD j 0∧1≤v.getD j 0∧v.getD j 0≤5000:=by
 induction v generalizing p with
 | nil=>intro j hj; simp at hj
 | cons a v ih=>
  rw [JZ,Bool.and_eq_true,Bool.not_eq_true',Bool.or_eq_false_iff,Bool.not_eq_false',yh] at h;have h1:=of_decide_eq_false h.1.2;intro j hj;cases j with
  | zero=>show p<a∧1≤a∧a≤5000; omega
  | succ j=>
   have:=ih h.2 j (by simpa using hj);show p<v.getD j 0∧1≤v.getD j 0∧v.getD j 0≤5000;omega
theorem tT {n i:Nat} {p:Nat→Bool} (hi:i<n) (h:p i=false):(List.range n).all p=false:=by
 rw [List.all_eq_false];exact ⟨i,by simpa using hi,by simp [h]⟩
theorem El {n:Nat} {p:Nat→Bool} (h:∀i,i<n→p i=true):(List.range n).all p=true:=by
 rw [List.all_eq_true];intro i hi;exact h i (by simpa using hi)
theorem Nq {l:List aj} {d:List aM} {r:bF} (hv:Xv l d) (hr:Rok l r) (i:Nat) (hi:i<l.length):1≤qH l r i∧qH l r i≤5000:=by
 have:=aaD (hv.aU i hi) _ (hr.aU i hi).2.1;unfold qH;omega
theorem Ej {α:Type} (d:α) {a b:List α} (h1:a.length=b.length) (h2:∀j,j<a.length→a.getD j d=b.getD j d):a=b:=by
 apply List.ext_getElem h1;intro j hj hj';have:=h2 j hj;rw [List.getD_eq_getElem?_getD,List.getD_eq_getElem?_getD,List.getElem?_eq_getElem hj,List.getElem?_eq_getElem hj'] at this;exact this
def atD (d:List aM) (i:Nat):Bool:=d.any (fun x=>x.bn==(i:Int))
theorem Xx (n:Nat) (d:List aM) (hd:∀x∈d,0≤x.bn∧x.bn<n) (j:Nat):(qG n d).getD j false=atD d j:=by
 unfold qG atD;have key:∀(d:List aM) (a:List Bool),a.length=n→(∀x∈d,0≤x.bn∧x.bn<n)→(d.foldl (fun a x=>a.set x.bn.toNat true) a).getD j false=(a.getD j false||d.any (fun x=>x.bn==(j:Int))):=by
  intro d;induction d with
  | nil=>intro a _ _; simp
  | cons x d ih=>
   intro a ha hd;have hx:=hd x (by simp);rw [List.foldl_cons,ih _ (by simpa using ha) (fun y hy=>hd y (by simp [hy])),dU,List.any_cons];by_cases hj:j=x.bn.toNat
   ·have:(x.bn==(j:Int))=true:=by simp; omega
    rw [if_pos ⟨hj,by omega⟩,this];simp
   ·have:(x.bn==(j:Int))=false:=by simp; omega
    rw [if_neg (fun h=>hj h.1),this];simp
 rw [key d _ (by simp) hd,sS];simp
structure Gj (l:List aj) (d:List aM) (k:Nat) (b:List Bool):Prop where
 len:b.length=l.length
 hi:∀j,j<l.length→l.length - k≤j→b.getD j false=(Jz (iA l) l.length k (qG l.length d)).getD j false
 lo:∀j,j<l.length - k→(Jz (iA l) l.length k (qG l.length d)).getD j false=(b.getD j false||atD d j)
def IQ (l:List aj) (d:List aM) (i:Nat) (b:List Bool):List Bool:=
 bif (b.getD i false||(l.getD i ah).Always||atD d i)&&decide (0≤(l.getD i ah).Parent) then (b.set i (b.getD i false||(l.getD i ah).Always||atD d i)).set (l.getD i ah).Parent.toNat true else b.set i (b.getD i false||(l.getD i ah).Always||atD d i)
theorem Gj.step {l:List aj} {d:List aM} (hv:Xv l d) {k:Nat} {b:List Bool} (h:Gj l d k b) (hk:k<l.length):Gj l d (k+1) (IQ l d (l.length - 1 - k) b):=by
 obtain ⟨h1,h2,h3⟩:=h;have hup:Jz (iA l) l.length (k+1) (qG l.length d)=iA l (l.length - 1 - k) (Jz (iA l) l.length k (qG l.length d)):=rfl;have hal:(Jz (iA l) l.length k (qG l.length d)).length=l.length:=by rw [yj (kP l),oP]
 generalize Jz (iA l) l.length k (qG l.length d)=a at h2 h3 hup hal;have hs:=hv.bn (l.length - 1 - k) (by omega);have hai:=h3 (l.length - 1 - k) (by omega);generalize hi:l.length - 1 - k=i at hup hs hai;have hF:(a.getD i false||(l.getD i ah).Always)=(b.getD i false||(l.getD i ah).Always||atD d i):=by
  rw [hai];cases b.getD i false<;>cases (l.getD i ah).Always<;>cases atD d i<;>rfl
 refine ⟨?_,?_,?_⟩
 ·unfold IQ;cases (b.getD i false||(l.getD i ah).Always||atD d i)&&decide (0≤(l.getD i ah).Parent)<;>simp [h1]
 all_goals
  rw [hup]
  unfold IQ iA
  rw [hF]
  generalize (b.getD i false||(l.getD i ah).Always||atD d i)=F
  cases hc:F&&decide (0≤(l.getD i ah).Parent) with
  | true=>
   simp only [cond_true]
   simp only [Bool.and_eq_true] at hc
   have hp:=of_decide_eq_true hc.2
   intro j hj
   try intro hj2
   simp only [dU,List.length_set,h1,hal]
   by_cases hjp:j=(l.getD i ah).Parent.toNat∧(l.getD i ah).Parent.toNat<l.length
   ·rw [if_pos hjp,if_pos hjp]
    try rfl
   ·rw [if_neg hjp,if_neg hjp]
    by_cases hji:j=i∧i<l.length
    ·rw [if_pos hji,if_pos hji]
     try omega
    ·rw [if_neg hji,if_neg hji]
     first | exact h2 j (by omega) (by omega) | exact h3 j (by omega)
  | false=>
   simp only [cond_false]
   intro j hj
   try intro hj2
   simp only [dU,h1,hal]
   by_cases hji:j=i∧i<l.length
   ·rw [if_pos hji,if_pos hji]
    try omega
   ·rw [if_neg hji,if_neg hji]
    first | exact h2 j (by omega) (by omega) | exact h3 j (by omega)
theorem Gj.done {l:List aj} {d:List aM} {b:List Bool} (h:Gj l d l.length b):b=iL l d:=by
 refine Ej false (by rw [h.len,Fh]) fun j hj=>?_;rw [h.hi j (by rw [← h.len]; exact hj) (by omega),Mf];rfl
theorem Gj.start {l:List aj} {d:List aM} (hv:Xv l d):Gj l d 0 (List.replicate l.length false):=by
 refine ⟨by simp,fun j hj h=>by omega,fun j hj=>?_⟩;rw [sS];show (qG l.length d).getD j false=_;rw [Xx _ _ (fun x hx=>by have:=hv.drw x hx; omega)];simp
def dsum (d:List aM) (i:Nat):Int:=d.foldl (fun s x=>bif x.bn==(i:Int) then s+x.Load else s) 0
theorem J4 {d:List aM} {j i:Nat} (h:j<d.length):dsum (d.take (j+1)) i=bif (d.getD j bL).bn==(i:Int) then dsum (d.take j) i+(d.getD j bL).Load else dsum (d.take j) i:=oh _ _ bL h
theorem YZ (n:Nat) (d:List aM) (hd:∀x∈d,0≤x.bn∧x.bn<n) (j:Nat):(tO n d).getD j 0=dsum d j:=by
 unfold tO dsum;have key:∀(d:List aM) (a:List Int) (s:Int),a.length=n→(∀x∈d,0≤x.bn∧x.bn<n)→a.getD j 0=s→(d.foldl (fun a x=>a.set x.bn.toNat (a.getD x.bn.toNat 0+x.Load)) a).getD j 0=d.foldl (fun s x=>bif x.bn==(j:Int) then s+x.Load else s) s:=by
  intro d;induction d with
  | nil=>intro a s _ _ h; exact h
  | cons x d ih=>
   intro a s ha hd h;have hx:=hd x (by simp);rw [List.foldl_cons,List.foldl_cons];refine ih _ _ (by simpa using ha) (fun y hy=>hd y (by simp [hy])) ?_;rw [dU];by_cases hj:j=x.bn.toNat
   ·have:(x.bn==(j:Int))=true:=by simp; omega
    rw [if_pos ⟨hj,by omega⟩,this,← hj,h];rfl
   ·have:(x.bn==(j:Int))=false:=by simp; omega
    rw [if_neg (fun h=>hj h.1),this];exact h
 exact key d _ 0 (by simp) hd (sS _ _ _)
theorem IU {d:List aM} (hd:∀x∈d,0≤x.Load∧x.Load≤10000) (i j:Nat) (hj:j≤d.length):0≤dsum (d.take j) i∧dsum (d.take j) i≤10000*j:=by
 induction j with
 | zero=>rw [List.take_zero]; exact ⟨Int.le_refl _,Int.le_refl _⟩
 | succ j ih=>
  have:=ih (by omega);have h2:=hd _ (fM bL hj);rw [J4 hj];cases (d.getD j bL).bn==(i:Int) with
  | true=>simp only [cond_true]; omega
  | false=>simp only [cond_false]; omega
structure Ce (l:List aj) (d:List aM) (k:Nat) (b:List Int):Prop where
 len:b.length=l.length
 pos:∀j,0≤b.getD j 0
 hi:∀j,j<l.length→l.length - k≤j→b.getD j 0=(Jz (fD l) l.length k (tO l.length d)).getD j 0
 lo:∀j,j<l.length - k→(Jz (fD l) l.length k (tO l.length d)).getD j 0=b.getD j 0+dsum d j
def Fj (l:List aj) (d:List aM) (i:Nat) (b:List Int):List Int:=
 bif decide (0≤(l.getD i ah).Parent) then (b.set i (b.getD i 0+dsum d i)).set (l.getD i ah).Parent.toNat (b.getD (l.getD i ah).Parent.toNat 0+(b.getD i 0+dsum d i)) else b.set i (b.getD i 0+dsum d i)
theorem Ce.step {l:List aj} {d:List aM} (hv:Xv l d) {k:Nat} {b:List Int} (h:Ce l d k b) (hk:k<l.length):Ce l d (k+1) (Fj l d (l.length - 1 - k) b):=by
 obtain ⟨h1,h0,h2,h3⟩:=h;have hdp:∀i,0≤dsum d i:=fun i=>by
  have:=(IU (d:=d) (fun x hx=>by have:=hv.drw x hx; omega) i d.length (Nat.le_refl _)).1;rwa [List.take_length] at this
 have hup:Jz (fD l) l.length (k+1) (tO l.length d)=fD l (l.length - 1 - k) (Jz (fD l) l.length k (tO l.length d)):=rfl;have hal:(Jz (fD l) l.length k (tO l.length d)).length=l.length:=by rw [yj (AP l),IK]
 generalize Jz (fD l) l.length k (tO l.length d)=a at h2 h3 hup hal;have hs:=hv.bn (l.length - 1 - k) (by omega);have hai:=h3 (l.length - 1 - k) (by omega);generalize hi:l.length - 1 - k=i at hup hs hai;have hb0:=h0 i;have hd0:=hdp i;refine ⟨?_,?_,?_,?_⟩
 ·unfold Fj;cases decide (0≤(l.getD i ah).Parent)<;>simp [h1]
 ·intro j;have hb1:=h0 j;have hb2:=h0 (l.getD i ah).Parent.toNat;unfold Fj;cases decide (0≤(l.getD i ah).Parent)<;>simp only [cond_true,cond_false,dU]<;>repeat' split
  all_goals omega
 all_goals
  rw [hup]
  unfold Fj fD
  cases hc:decide (0≤(l.getD i ah).Parent) with
  | true=>
   simp only [cond_true]
   have hp:=of_decide_eq_true hc
   intro j hj
   try intro hj2
   simp only [dU,List.length_set,h1,hal]
   have hap:=h3 (l.getD i ah).Parent.toNat (by omega)
   by_cases hjp:j=(l.getD i ah).Parent.toNat∧(l.getD i ah).Parent.toNat<l.length
   ·rw [if_pos hjp,if_pos hjp]
    try rw [hjp.1]
    omega
   ·rw [if_neg hjp,if_neg hjp]
    by_cases hji:j=i∧i<l.length
    ·rw [if_pos hji,hji.1]
     omega
    ·rw [if_neg hji]
     first | exact h2 j (by omega) (by omega) | exact h3 j (by omega)
  | false=>
   simp only [cond_false]
   intro j hj
   try intro hj2
   simp only [dU,h1]
   by_cases hji:j=i∧i<l.length
   ·rw [if_pos hji,hji.1]
    omega
   ·rw [if_neg hji]
    first | exact h2 j (by omega) (by omega) | exact h3 j (by omega)
theorem Ce.done {l:List aj} {d:List aM} {b:List Int} (h:Ce l d l.length b):b=wG l d:=by
 refine Ej 0 (by rw [h.len,G5]) fun j hj=>?_;rw [h.hi j (by rw [← h.len]; exact hj) (by omega),Mf];rfl
theorem Ce.start {l:List aj} {d:List aM} (hv:Xv l d):Ce l d 0 (List.replicate l.length 0):=by
 refine ⟨by simp,fun j=>by rw [sS]; omega,fun j hj h=>by omega,fun j hj=>?_⟩;rw [sS];show (tO l.length d).getD j 0=_;rw [YZ _ _ (fun x hx=>by have:=hv.drw x hx; omega)];simp
theorem Ce.small {l:List aj} {d:List aM} (hv:Xv l d) {k:Nat} {b:List Int} (h:Ce l d k b) (hk:k≤l.length) (j:Nat):0≤b.getD j 0∧b.getD j 0≤100000000000:=by
 have h1:=IL hv k hk j;refine ⟨h.pos j,?_⟩;have hd:=(IU (d:=d) (fun x hx=>by have:=hv.drw x hx; omega) j d.length (Nat.le_refl _)).1;rw [List.take_length] at hd;by_cases h2:j<l.length - k
 ·have:=h.lo j h2; omega
 ·by_cases h3:j<l.length
  ·have:=h.hi j h3 (by omega); omega
  ·rw [M9 0 (by rw [h.len]; omega)]; omega
def lvN:List Int→Int→Nat
 | [],_=>0
 | x::t,v=>bif decide (v≤x) then 0 else lvN t v+1
theorem abV (v:Int) (l:List Int):lvN l v≤l.length:=by
 induction l with
 | nil=>exact Nat.le_refl _
 | cons x l ih=>
  rw [lvN];cases decide (v≤x)<;>simp<;>omega
theorem abW {v:Int} {l:List Int}:∀j,j<lvN l v→l.getD j 0<v:=by
 induction l with
 | nil=>intro j hj; simp [lvN] at hj
 | cons x l ih=>
  rw [lvN];cases h:decide (v≤x) with
  | true=>intro j hj; simp at hj
  | false=>
   have:=of_decide_eq_false h;intro j hj;cases j with
   | zero=>show x<v; omega
   | succ j=>exact ih j (by simpa using hj)
theorem abX {v:Int} {l:List Int} (h:lvN l v<l.length):v≤l.getD (lvN l v) 0:=by
 induction l with
 | nil=>simp at h
 | cons x l ih=>
  rw [lvN] at h ⊢;cases hd:decide (v≤x) with
  | true=>exact of_decide_eq_true hd
  | false=>
   rw [hd] at h;exact ih (by simpa using h)
theorem Y0 {v:Int} {l:List Int} {k:Nat} (h0:k≤l.length) (h1:∀j,j<k→l.getD j 0<v) (h2:k<l.length→v≤l.getD k 0):k=lvN l v:=by
 have h3:=abV v l;rcases Nat.lt_trichotomy k (lvN l v) with h | h | h
 ·have:=abW k h;have:=h2 (by omega);omega
 ·exact h
 ·have:=abX (v:=v) (l:=l) (by omega);have:=h1 _ h;omega
structure DS where
 a:List Xu
 lv:List Int
def wH (n:Nat) (d:List aM):Nat→List Xu
 | 0=>List.replicate n ⟨0,-1,-1⟩
 | i+1=>bif decide (((wH n d i).getD (d.getD i bL).bn.toNat OL).IG<(d.getD i bL).Low) then (wH n d i).set (d.getD i bL).bn.toNat ⟨(d.getD i bL).Low,i,-1⟩ else wH n d i
def FB (l:List aj) (i:Nat) (s:DS):Nat:=lvN (l.getD i ah).aU (s.a.getD i OL).IG
def yL (l:List aj) (i:Nat) (s:DS):Int:=(l.getD i ah).aU.getD (FB l i s) 0+(l.getD i ah).dO
def Em (l:List aj) (u:List Bool) (i:Nat) (s:DS):DS:=
 bif !u.getD i false then s
 else ⟨bif decide (0≤(l.getD i ah).Parent)&&decide ((s.a.getD (l.getD i ah).Parent.toNat OL).IG<yL l i s) then s.a.set (l.getD i ah).Parent.toNat ⟨yL l i s,-1,i⟩ else s.a,s.lv.set i (FB l i s)⟩
def K9 (l:List aj) (u:List Bool) (i:Nat) (s:DS):Bool:=u.getD i false&&!decide ((FB l i s:Int)<(l.getD i ah).aU.length)
def Y1 (l:List aj) (u:List Bool):Nat→DS→DS×Int
 | 0,s=>(s,-1)
 | k+1,s=>bif K9 l u k s then (s,k) else Y1 l u k (Em l u k s)
def ds0 (l:List aj) (d:List aM):DS:=⟨wH l.length d d.length,List.replicate l.length 0⟩
def Q7 (l:List aj) (d:List aM):DS×Int:=Y1 l (iL l d) l.length (ds0 l d)
theorem Qd (n:Nat) (d:List aM) (i:Nat):(wH n d i).length=n:=by
 induction i with
 | zero=>simp [wH]
 | succ i ih=>
  rw [wH];cases decide (((wH n d i).getD (d.getD i bL).bn.toNat OL).IG<(d.getD i bL).Low)<;>simp [ih]
structure DOk (l:List aj) (s:DS):Prop where
 al:s.a.length=l.length
 ll:s.lv.length=l.length
theorem aaE {l:List aj} {u:List Bool} {i:Nat} {s:DS} (h:DOk l s):DOk l (Em l u i s):=by
 unfold Em;cases u.getD i false with
 | false=>exact h
 | true=>
  refine ⟨?_,by simp [h.ll]⟩;simp only [Bool.not_true,cond_false];cases decide (0≤(l.getD i ah).Parent)&&decide ((s.a.getD (l.getD i ah).Parent.toNat OL).IG<yL l i s)<;>simp [h.al]
theorem abY (l:List aj) (d:List aM):DOk l (ds0 l d):=⟨Qd _ _ _,by simp [ds0]⟩
def tV (l:List aj) (d:List aM):bF×Int:=
 bif beginF l d != 0 then (QU,beginF l d)
 else bif decide (0≤(Q7 l d).2)||!l9 l ⟨iL l d,(Q7 l d).1.lv⟩ d then (QU,9) else (⟨iL l d,(Q7 l d).1.lv⟩,0)
def aaF (l:List aj) (s:DS):Prop:=∀j,j<l.length→0≤s.lv.getD j 0∧s.lv.getD j 0<(l.getD j ah).aU.length
def lvK (l:List aj) (k v:Int):Nat:=lvN (l.getD k.toNat ah).aU v
def okK (l:List aj) (k v:Int):Bool:=decide (lvK l k v<(l.getD k.toNat ah).aU.length)
def voK (l:List aj) (k v:Int):Int:=(l.getD k.toNat ah).aU.getD (lvK l k v) 0
def rwN (l:List aj) (d:List aM) (last:Int):List Int→Int→Bool
 | [],_=>false
 | k::t,v=>bif !t.isEmpty then (bif !okK l k v then false else rwN l d last t (voK l k v+(l.getD k.toNat ah).dO))
  else bif !okK l k v||decide (last<0) then !okK l k v&&decide (last<0)
  else ((d.getD last.toNat bL).bn==k)&&decide ((d.getD last.toNat bL).High<voK l k v)
abbrev Y2 (l:List aj) (i:Nat):aj:=l.getD i ah
abbrev Xy (a:List Bool) (i:Nat):Bool:=a.getD i false
abbrev nAt (a:List Int) (i:Nat):Int:=a.getD i 0
abbrev dAt (a:List Xu) (i:Nat):Xu:=a.getD i OL
abbrev ZO (d:List aM) (i:Nat):aM:=d.getD i bL
structure DI (n:Nat) (d:List aM) (i:Nat) (a:List Xu):Prop where
 len:a.length=n
 just:∀j,j<n→dAt a j=⟨0,-1,-1⟩∨∃q,q<i∧(ZO d q).bn=j∧dAt a j=⟨(ZO d q).Low,q,-1⟩
 Low:∀q,q<i→(ZO d q).Low≤(dAt a (ZO d q).bn.toNat).IG
structure Dm (l:List aj) (d:List aM) (u:List Bool) (k:Nat) (s:DS):Prop where
 al:s.a.length=l.length
 ll:s.lv.length=l.length
 just:∀j,j<l.length→dAt s.a j=⟨0,-1,-1⟩∨(∃q,q<d.length∧(ZO d q).bn=j∧dAt s.a j=⟨(ZO d q).Low,q,-1⟩)∨
  ∃c:Nat,k≤c∧c<l.length∧Xy u c=true∧(Y2 l c).Parent=j∧FB l c s<(Y2 l c).aU.length∧dAt s.a j=⟨yL l c s,-1,c⟩
 Low:∀q,q<d.length→(ZO d q).Low≤(dAt s.a (ZO d q).bn.toNat).IG
 up:∀c,k≤c→c<l.length→Xy u c=true→0≤(Y2 l c).Parent→yL l c s≤(dAt s.a (Y2 l c).Parent.toNat).IG
 ok:∀c,k≤c→c<l.length→Xy u c=true→FB l c s<(Y2 l c).aU.length∧nAt s.lv c=FB l c s
 zero:∀c,c<l.length→c<k∨Xy u c=false→nAt s.lv c=0
structure Mt (l:List aj) (r:bF) (d:List aM):Prop where
 used:∀i,Xy (iL l d) i=true→Xy r.On i=true
 Parent:∀i,i<l.length→Xy r.On i=true→0≤(Y2 l i).Parent→Xy r.On (Y2 l i).Parent.toNat=true∧qH l r i+(Y2 l i).dO≤qH l r (Y2 l i).Parent.toNat
 eG:∀i,i<l.length→Xy r.On i=true→nAt (wG l d) i≤(Y2 l i).eG
 drw:∀x∈d,x.Low≤qH l r x.bn.toNat∧qH l r x.bn.toNat≤x.High
theorem Tf {l:List aj} {d:List aM} (h:mg l d=true):bW l=0:=by
 unfold mg at h;simp only [Bool.and_eq_true] at h;simpa using h.1.1
structure Best (l:List aj) (d:List aM) (r:bF):Prop where
 ok:l9 l r d=true
 On:r.On=iL l d
 zero:∀i,Xy (iL l d) i=false→nAt r.Level i=0
 least:∀q,l9 l q d=true→∀i,Xy (iL l d) i=true→Xy q.On i=true∧nAt r.Level i≤nAt q.Level i
def jnL (l:List aj) (u:List Bool):List Int→Prop
 | []=>True
 | k::t=>(0≤k∧k<l.length∧Xy u k.toNat=true∧(∀k',t.head? = some k'→(Y2 l k.toNat).Parent=k'))∧jnL l u t
structure Good (l:List aj) (d:List aM) (last:Int) (c:List Int) (fst:Int):Prop where
 ne:c≠[]
 jn:jnL l (iL l d) c
 lo : -1≤fst
 hi:fst<d.length
 yes:0≤fst→(ZO d fst.toNat).bn=nAt c 0∧rwN l d last c (ZO d fst.toNat).Low=true
 no:fst<0→rwN l d last c 0=true
def yM (a:List Xu):List Int:=a.map Xu.IG
theorem En (a:List Xu) (j:Nat):(yM a).getD j 0=(a.getD j OL).IG:=by
 unfold yM;rw [List.getD_eq_getElem?_getD,List.getElem?_map,List.getD_eq_getElem?_getD];cases a[j]? <;> rfl
theorem Tg (a:List Xu) (j:Nat) (x:Xu):yM (a.set j x)=(yM a).set j x.IG:=by
 unfold yM;rw [List.map_set]
theorem Ti (a:List Xu):(yM a).length=a.length:=by simp [yM]
theorem set_self (a:List Int) (j:Nat):a.set j (a.getD j 0)=a:=by
 refine Ej 0 (by simp) fun k hk=>?_;rw [dU];split
 ·rename_i h; rw [h.1]
 ·rfl
theorem Tj (a:List Int) (j:Nat) (v:Int) (h:v=a.getD j 0):a.set j v=a:=by
 rw [h,set_self]
theorem U6 (n:Nat) (d:List aM) (i:Nat):yM (wH n d (i+1))=(yM (wH n d i)).set (d.getD i bL).bn.toNat (if (d.getD i bL).Low > (yM (wH n d i)).getD (d.getD i bL).bn.toNat 0 then (d.getD i bL).Low else (yM (wH n d i)).getD (d.getD i bL).bn.toNat 0):=by
 rw [wH,En];by_cases h:((wH n d i).getD (d.getD i bL).bn.toNat OL).IG<(d.getD i bL).Low
 ·rw [decide_eq_true h,cond_true,Tg,if_pos h]
 ·rw [decide_eq_false h,cond_false,if_neg h,Tj _ _ _ (En _ _).symm]
theorem Y3 {l:List aj} {u:List Bool} {s:DS} (hu:u.length=l.length) (h:DOk l s) (hl:aaF l s):Rok l ⟨u,s.lv⟩:=
 ⟨hu,h.ll,fun i hi=>by
  have:=hl i hi;show 0≤s.lv.getD i 0∧(s.lv.getD i 0).toNat<_∧s.lv.getD i 0<_;omega⟩
theorem aaG {l:List aj} {u:List Bool} {k:Nat} {s:DS} (hf:K9 l u k s=false) (h:aaF l s):aaF l (Em l u k s):=by
 intro j hj;unfold Em;cases hu:u.getD k false with
 | false=>exact h j hj
 | true=>
  unfold K9 at hf;rw [hu,Bool.true_and,Bool.not_eq_false'] at hf;have:=of_decide_eq_true hf;show 0≤(s.lv.set k (FB l k s)).getD j 0∧(s.lv.set k (FB l k s)).getD j 0<_;rw [dU];split
  ·rename_i hjk; rw [hjk.1]; omega
  ·exact h j hj
structure adp (l:List aj) (d:List aM) (r:bF) (ok:Bool):Prop where
 is:ok=((tV l d).2==0)
 yes:ok=true→l9 l r d=true
 no:ok=false→r=(tV l d).1
end Go.Proofs.YtfblhejmclcdmaaGreatDoor.Sp

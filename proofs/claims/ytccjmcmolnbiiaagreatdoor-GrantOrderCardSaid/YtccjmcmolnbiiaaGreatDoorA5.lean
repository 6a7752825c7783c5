/- An abstract machine over the model's code, that it is sound; models of the functions and their proofs. -/
import Derived.Test.YtccjmcmolnbiiaaGreatDoorA3
import Derived.Test.YtccjmcmolnbiiaaGreatDoorA4
set_option linter.unusedVariables false
set_option linter.unusedSimpArgs false
namespace Go.Ab
def acu {α:Type} (l:List α) (P:α→Bool):Int:=if l.any P then ((l.findIdx P:Nat):Int) else -1
theorem tO {α:Type} (l:List α) (P:α→Bool):decide (0≤acu l P)=l.any P:=by
 unfold acu;cases l.any P<;>simp<;>omega
theorem ako {α:Type} {l:List α} {P:α→Bool} {d:α} {i:Nat} (hi:i<l.length) (h:P (l.getD i d)=true):l.any P=true:=by
 rw [List.any_eq_true];refine ⟨l[i],List.getElem_mem hi,?_⟩;rw [List.getD_eq_getElem?_getD,List.getElem?_eq_getElem hi] at h;exact h
theorem any_take_succ {α:Type} (l:List α) (P:α→Bool) (d:α) {i:Nat} (hi:i<l.length):(l.take (i+1)).any P=((l.take i).any P||P (l.getD i d)):=by
 rw [List.take_add_one,List.any_append,List.getElem?_eq_getElem hi,List.getD_eq_getElem?_getD,List.getElem?_eq_getElem hi];simp
theorem ahi {α:Type} {l:List α} {P:α→Bool} {d:α} {g:Int} (h0:0≤g) (h1:g<l.length) (hb:(l.take g.toNat).any P=false) (hp:P (l.getD g.toNat d)=true):acu l P=g:=by
 have hi:g.toNat<l.length:=by omega
 unfold acu;rw [ako hi hp,if_pos rfl];have:l.findIdx P=g.toNat:=by
  rw [List.findIdx_eq hi];constructor
  ·rw [List.getD_eq_getElem?_getD,List.getElem?_eq_getElem hi] at hp;exact hp
  ·intro j hj;have:=List.any_eq_false.1 hb (l[j]'om) (by
    rw [List.mem_take_iff_getElem]
    exact ⟨j,om,rfl⟩)
   simpa using this
 omega
theorem Ta {α:Type} {l:List α} {d:α} {p:α→M Bool} {P:α→Bool} (hp:∀x∈l,p x (P x)) (hl:(l.length:Int)≤9223372036854775807):W (cZ (fun (self:Int→M Int) g=>bif (decide (g<(l.length:Int))) then
  need (0≤g∧g<(l.length:Int))<|
  bnd (p (l.getD g.toNat d)) fun v3=>
  bif v3 then
   ret g
  else
   need (aF (g+(1:Int)))<|
   self (g+(1:Int))
 else
  ret (-1:Int)) (0:Int)) (fun r=>r=acu l P):=by
 refine bF (fun (g:Int)=>0≤g∧g≤l.length∧(l.take g.toNat).any P=false) (fun (g:Int)=>(l.length - g).toNat) ?_ ⟨om,om,by simp⟩;intro self g ⟨h0,h1,hb⟩ ih;refine bV (fun c=>?_) (fun c=>?_)
 ·have c:=of_decide_eq_true c;refine bC ⟨h0,c⟩ ?_;have hi:g.toNat<l.length:=by omega
  have hm:l.getD g.toNat d∈l:=by
   rw [List.getD_eq_getElem?_getD,List.getElem?_eq_getElem hi];exact List.getElem_mem hi
  refine aH (Ca (hp _ hm)) fun v hv=>?_;subst hv;refine bV (fun c2=>?_) (fun c2=>?_)
  ·exact av (ahi h0 c hb c2).symm
  ·refine bC (by unfold aF; omega) ?_;refine ih _ ⟨om,om,?_⟩ om;rw [show (g+1).toNat=g.toNat+1 by omega,any_take_succ l P d hi,hb,c2];rfl
 ·have c:=of_decide_eq_false c;refine av ?_;unfold acu;rw [show g.toNat=l.length by omega,List.take_length] at hb;rw [hb];rfl
theorem aox {α:Type} {l:List α} {d:α} {P:α→Bool} (hl:(l.length:Int)≤9223372036854775807):W (cZ (fun (self:Int→M Int) g=>bif (decide (g<(l.length:Int))) then
  need (0≤g∧g<(l.length:Int))<|
  bif (P (l.getD g.toNat d)) then
   ret g
  else
   need (aF (g+(1:Int)))<|
   self (g+(1:Int))
 else
  ret (-1:Int)) (0:Int)) (fun r=>r=acu l P):=by
 refine bF (fun (g:Int)=>0≤g∧g≤l.length∧(l.take g.toNat).any P=false) (fun (g:Int)=>(l.length - g).toNat) ?_ ⟨om,om,by simp⟩;intro self g ⟨h0,h1,hb⟩ ih;refine bV (fun c=>?_) (fun c=>?_)
 ·have c:=of_decide_eq_true c;refine bC ⟨h0,c⟩ ?_;have hi:g.toNat<l.length:=by omega
  refine bV (fun c2=>?_) (fun c2=>?_)
  ·exact av (ahi h0 c hb c2).symm
  ·refine bC (by unfold aF; omega) ?_;refine ih _ ⟨om,om,?_⟩ om;rw [show (g+1).toNat=g.toNat+1 by omega,any_take_succ l P d hi,hb,c2];rfl
 ·have c:=of_decide_eq_false c;refine av ?_;unfold acu;rw [show g.toNat=l.length by omega,List.take_length] at hb;rw [hb];rfl
theorem Qt {m:M Int} {v:Int} {b:Bool} (h:W m (fun r=>r=v)) (hb:decide (0≤v)=b):bnd m (fun v1=>ret (decide ((0:Int)≤v1))) b:=by
 refine mG (aH h fun v1 h1=>av ?_);subst h1;exact hb
theorem gX {A:Type} [Inhabited A] {c:Prop} {d:Decidable c} {m:M A} {v:A} (h:c→m v):W (grd c m) (fun r=>r=v):=⟨v,h,rfl⟩
theorem akp {R:Type} {F:(Int→M R)→Int→M R} {Q:R→Prop} (n:Nat) (inv:Nat→Prop) (h:∀(self:Int→M R) (i:Nat),i≤n→inv i→(i<n→inv (i+1)→W (self ((i:Int)+1)) Q)→W (F self (i:Int)) Q) (h0:inv 0):W (cZ F (0:Int)) Q:=by
 refine bF (fun (g:Int)=>∃i:Nat,g=i∧i≤n∧inv i) (fun (g:Int)=>(n - g).toNat) ?_ ⟨0,rfl,Nat.zero_le _,h0⟩;rintro self g ⟨i,rfl,hi,hv⟩ ih;refine h self i hi hv fun h1 h2=>?_;exact ih _ ⟨i+1,by simp,h1,h2⟩ om
theorem akq {σ R:Type} {len:Nat} {B:Nat→(σ→M R)→σ→M R} {fin:σ→M R} {Q:R→Prop} (inv:Nat→σ→Prop) (h:∀(k:Nat) (self:σ→M R) (s:σ),k<len→inv k s→(∀s',inv (k+1) s'→W (self s') Q)→W (B k self s) Q) (hf:∀s,inv len s→W (fin s) Q) {s:σ} (h0:inv 0 s):W (aaw len B fin len s) Q:=by
 have key:∀j s,j≤len→inv (len - j) s→W (aaw len B fin j s) Q:=by
  intro j;induction j with
  | zero=>intro s _ hi; exact hf s hi
  | succ j ih=>
   intro s hj hi;refine h (len - (j+1)) _ s om hi fun s' hs=>ih s' om ?_;rwa [show len - (j+1)+1=len - j by omega] at hs
 exact key len s (Nat.le_refl _) (by rw [Nat.sub_self]; exact h0)
theorem nr {p q : Prop} (h : p) (e : p = q := by (try simp only [Bool.and_eq_true, Bool.or_eq_true, Bool.and_eq_false_iff, Bool.or_eq_false_iff, decide_eq_true_eq, decide_eq_false_iff_not, Bool.not_eq_true', Bool.not_eq_false', beq_iff_eq, bne_iff_ne, ne_eq, beq_eq_false_iff_ne, bne_eq_false_iff_eq, Int.not_lt, Int.not_le, Bool.not_eq_true, Bool.not_eq_false]); try rfl) : q := e ▸ h
theorem ob {p : Prop} (h : p := by
  intros; (try dsimp only); first
  | omega
  | (unfold aF; omega)
  | assumption
  | trivial
  | (simp only [aF, big, iR, List.length_take, List.length_drop, List.length_append, List.length_cons, List.length_nil, List.length_set, List.length_replicate, List.length_map, List.length_range]; omega)
  | (simp only [aF, big, List.length_take, List.length_drop, List.length_append, List.length_cons, List.length_nil, List.length_set, List.length_replicate] at *; omega)
  | (rw [Int.tmod_eq_emod_of_nonneg (by omega)]; (try simp only [List.length_cons, List.length_nil]); omega)
  | (repeat' apply And.intro) <;> first
    | omega
    | (unfold aF; omega)
    | assumption
    | trivial
    | (simp only [aF, big, iR, List.length_take, List.length_drop, List.length_append, List.length_cons, List.length_nil, List.length_set, List.length_replicate, List.length_map, List.length_range]; omega)
    | (simp only [aF, big, List.length_take, List.length_drop, List.length_append, List.length_cons, List.length_nil, List.length_set, List.length_replicate] at *; omega)
    | (rw [Int.tmod_eq_emod_of_nonneg (by omega)]; (try simp only [List.length_cons, List.length_nil]); omega)
    | ((simp only [List.forall_mem_append, List.forall_mem_singleton, List.forall_mem_cons, List.not_mem_nil, false_implies, implies_true, and_true]); done)
    | ((simp only [List.forall_mem_append, List.forall_mem_singleton, List.forall_mem_cons, List.not_mem_nil, false_implies, implies_true, and_true]); (repeat' apply And.intro) <;> first | omega | assumption | trivial | (simp only [aF, big, List.length_take, List.length_drop, List.length_append, List.length_cons, List.length_nil, List.length_set, List.length_replicate] at *; omega))
    | (simp_all; done)
    | (simp_all; omega)) : p := h
theorem wi {R : Type} {b : Bool} {p q : Prop} {x y : M R} {Q : R → Prop} (h1 : p → W x Q) (h2 : q → W y Q) (e1 : (b = true) = p := by (try simp only [Bool.and_eq_true, Bool.or_eq_true, Bool.and_eq_false_iff, Bool.or_eq_false_iff, decide_eq_true_eq, decide_eq_false_iff_not, Bool.not_eq_true', Bool.not_eq_false', beq_iff_eq, bne_iff_ne, ne_eq, beq_eq_false_iff_ne, bne_eq_false_iff_eq, Int.not_lt, Int.not_le, Bool.not_eq_true, Bool.not_eq_false]); try rfl) (e2 : (b = false) = q := by (try simp only [Bool.and_eq_true, Bool.or_eq_true, Bool.and_eq_false_iff, Bool.or_eq_false_iff, decide_eq_true_eq, decide_eq_false_iff_not, Bool.not_eq_true', Bool.not_eq_false', beq_iff_eq, bne_iff_ne, ne_eq, beq_eq_false_iff_ne, bne_eq_false_iff_eq, Int.not_lt, Int.not_le, Bool.not_eq_true, Bool.not_eq_false]); try rfl) : W (cond b x y) Q := bV (fun c => h1 (e1 ▸ c)) (fun c => h2 (e2 ▸ c))
theorem wn {R : Type} {p : Prop} {d : Decidable p} {m : M R} {Q : R → Prop} (h : W m Q) (hp : p := by exact ob) : W (need p m) Q := bC hp h
theorem wm {R : Type} {p p' : Prop} {d : Decidable p} {d' : Decidable p'} {m : M R} {Q : R → Prop} (h : W m Q) (hp : p := by exact ob) (hp' : p' := by exact ob) : W (need p (need p' m)) Q := bC hp (bC hp' h)
end Go.Ab
namespace Go.Proofs.YtccjmcmolnbiiaaGreatDoor
open Go.Ab
set_option maxRecDepth 100000
theorem Tc (x n:Int) (h:0<n) : -n<x.tmod n∧x.tmod n<n:=by
 have h1:=Int.natAbs_tmod x n;have h2:=Nat.mod_lt x.natAbs (show 0<n.natAbs by omega);omega
theorem aeh:∀(k i:Nat) (g:Nat→AV) (s:ByteArray),(I7 k i g s).size=s.size+k:=by
 intro k;induction k with
 | zero=>intro i g s; rfl
 | succ k ih=>intro i g s; unfold I7; rw [ih,ByteArray.size_push]; omega
theorem agc (l:List Int):(strOf l).size=l.length:=by
 unfold strOf;rw [aeh];simp
theorem acv {α:Type} {P:α→Prop} {l:List α} {i:Nat} {y:α} (h:∀x∈l,P x) (hy:P y):∀x∈l.set i y,P x:=fun x hx=>by
 rcases List.mem_or_eq_of_mem_set hx with e | e
 ·exact h x e
 ·subst e; exact hy
structure amx (b:aR):Prop where
 ncl:b.bQ.length≤5
 cl:∀c∈b.bQ,c.aO.length≤2∧c.aM.length≤3
 nsu:b.bB.length≤3
 su:∀c∈b.bB,c.bJ.length≤3
 ngr:b.aQ.aD.length≤5
 gr:∀c∈b.aQ.aD,c.bO.length≤10∧c.ak.length≤2
 nre:b.bg.length≤4
 re:∀c∈b.bg,c.dX.length≤100
 ndo:b.cB.length≤4
theorem getD_in {α:Type} {l:List α} {i:Nat} (d:α) (h:i<l.length):l.getD i d∈l:=by
 rw [List.getD_eq_getElem?_getD,List.getElem?_eq_getElem h];exact List.getElem_mem h
theorem aei {l_:(List Int)}:W (OU l_) (fun r=>r.2=0∧r.1.length≤600):=by
 unfold OU;refine bC (by (split<;>omega)) ?_;refine av ?_;(simp only [List.length_take]; refine ⟨trivial,?_⟩; split<;>omega)
theorem aej {x_:Int} {n_:Int} (h1:n_≤2000000):W (OV x_ n_) (fun r=>0≤r∧(0<n_→r<n_)∧(n_<1→r=0)):=by
 unfold OV;refine wi (fun c1=>?_) (fun c1=>?_)
 ·refine av ?_;exact ob
 ·refine wn ?_;refine bC (by (have:=Tc x_ n_ om; unfold aF; omega)) ?_;refine wn ?_;refine av ?_;(have h:=Tc x_ n_ om; have h2:=Tc (x_.tmod n_+n_) n_ om; have h3:=Int.tmod_nonneg (a:=x_.tmod n_+n_) n_ om; omega)
theorem bW {n_:Int} {dH:dz} (h1:n_≤2000000) (h2:0≤dH.At) (h3:dH.L.length≤600):W (eD n_ dH) (fun r=>0≤r.1∧(0<n_→r.1<n_)∧(n_<1→r.1=0)∧0≤r.2.At∧r.2.L.length≤600):=by
 unfold eD;refine wi (fun c1=>?_) (fun c1=>?_)
 ·refine av ?_;exact ob
 ·refine wm ?_;refine wn ?_;refine aH (aej ob) fun v1 hv1=>?_;obtain ⟨Ij,BN,Ik⟩:=hv1;refine av ?_;exact ob
theorem ng {vN:Int} {xO:Int} {dH:dz} (h1 : -2000000≤vN) (h2:xO≤100000) (h3:vN≤xO+1) (h4:xO - vN≤100000) (h5:0≤dH.At) (h6:dH.L.length≤600):W (jV vN xO dH) (fun r=>vN≤r.1∧(vN≤xO→r.1≤xO)∧(xO<vN→r.1=vN)∧0≤r.2.At∧r.2.L.length≤600):=by
 unfold jV;refine wm ?_;refine aH (bW ob ob ob) fun v1 hv1=>?_;obtain ⟨Ij,BN,Ik,K8,Nz⟩:=hv1;refine wn ?_;refine av ?_;exact ob
theorem gy {l_:(List Int)} {dH:dz} (h1:0<l_.length) (h2:l_.length≤1000) (h3:0≤dH.At) (h4:dH.L.length≤600):W (gZ l_ dH) (fun r=>(∃i:Nat,i<l_.length∧r.1=l_.getD i 0)∧0≤r.2.At∧r.2.L.length≤600):=by
 unfold gZ;refine aH (bW ob ob ob) fun v1 hv1=>?_;obtain ⟨Ij,BN,Ik,K8,Nz⟩:=hv1;refine wn ?_;refine av ?_;(exact ⟨⟨v1.1.toNat,om,rfl⟩,ob⟩)
theorem Vf {l_:(List ByteArray)} {dH:dz} (h1:0<l_.length) (h2:l_.length≤1000) (h3:0≤dH.At) (h4:dH.L.length≤600):W (wP l_ dH) (fun r=>(∃i:Nat,i<l_.length∧r.1=l_.getD i ByteArray.empty)∧0≤r.2.At∧r.2.L.length≤600):=by
 unfold wP;refine aH (bW ob ob ob) fun v1 hv1=>?_;obtain ⟨Ij,BN,Ik,K8,Nz⟩:=hv1;refine wn ?_;refine av ?_;(exact ⟨⟨v1.1.toNat,om,rfl⟩,ob⟩)
theorem kK:W (oC) (fun r=>r=[({ data:=#[117,97,114,116] }:ByteArray),({ data:=#[115,112,105] }:ByteArray),({ data:=#[105,50,99] }:ByteArray),({ data:=#[112,119,109] }:ByteArray)]):=by
 unfold oC;refine av ?_;rfl
theorem Vg {n_:Int} {k_:Int} {dH:dz} (h1:0≤n_) (h2:n_≤1000) (h3:1≤k_) (h4:k_≤100) (h5:0≤dH.At) (h6:dH.L.length≤600):W (kV n_ k_ dH) (fun r=>r.1.length≤n_.toNat∧(∀p∈r.1,0≤p∧p<n_)∧0≤r.2.At∧r.2.L.length≤600):=by
 unfold kV;refine bF (fun (g1:(Int×(List Int)×Int×(List Int)))=>0≤g1.1∧g1.1≤n_∧0≤g1.2.2.1∧g1.2.1.length≤600∧(g1.2.2.2.length:Int)≤g1.1∧(∀p∈g1.2.2.2,0≤p∧p<n_)) (fun (g1:(Int×(List Int)×Int×(List Int)))=>(n_ - g1.1).toNat) ?_ ?_
 ·intro aj g1 dQ bS;obtain ⟨dG,bE,bG,kC,Ec,K9⟩:=dQ;unfold wN;refine wi (fun c1=>?_) (fun c1=>?_)
  ·refine aH (bW ob ob ob) fun v3 hv3=>?_;obtain ⟨Zp,abu,abv,akr,ap7⟩:=hv3;refine wn ?_;refine wi (fun c2=>?_) (fun c2=>?_)
   ·refine wm ?_;refine bS _ ?_ ?_
    ·exact ob
    ·exact ob
   ·refine wn ?_;refine bS _ ?_ ?_
    ·exact ob
    ·exact ob
  ·refine av ?_;exact ob
 ·exact ob
theorem Rf {jh:Int} {dH:dz} (h1:0≤jh) (h2:jh≤100) (h3:0≤dH.At) (h4:dH.L.length≤600):W (rX jh dH) (fun r=>r.1.length≤jh.toNat∧(∀x∈r.1,x.dX.length≤100)∧0≤r.2.At∧r.2.L.length≤600):=by
 unfold rX;refine wn ?_;refine aH (bW ob ob ob) fun v1 hv1=>?_;obtain ⟨Ij,BN,Ik,K8,Nz⟩:=hv1;refine bF (fun (g1:(Int×(List Int)×Int×(List d9)))=>0≤g1.1∧0≤g1.2.2.1∧g1.2.1.length≤600∧(g1.2.2.2.length:Int)+g1.1≤jh∧(∀x∈g1.2.2.2,x.dX.length≤100)) (fun (g1:(Int×(List Int)×Int×(List d9)))=>g1.1.toNat) ?_ ?_
 ·intro aj g1 dQ bS;obtain ⟨dG,bE,bG,kC,Ec⟩:=dQ;unfold BK;refine wi (fun c1=>?_) (fun c1=>?_)
  ·refine aH (Vg ob ob ob ob ob ob) fun v4 hv4=>?_;obtain ⟨aks,akt,anv,ap8⟩:=hv4;refine wm ?_;refine bS _ ?_ ?_
   ·exact ob
   ·exact ob
  ·refine av ?_;exact ob
 ·exact ob
theorem Pq {jh:Int} {dH:dz} (h1:0≤jh) (h2:jh≤50) (h3:0≤dH.At) (h4:dH.L.length≤600):W (qD jh dH) (fun r=>r.1.length≤jh.toNat∧0≤r.2.At∧r.2.L.length≤600):=by
 unfold qD;refine wn ?_;refine aH (bW ob ob ob) fun v1 hv1=>?_;obtain ⟨Ij,BN,Ik,K8,Nz⟩:=hv1;refine bF (fun (g1:(Int×(List Int)×Int×(List dB)))=>0≤g1.1∧0≤g1.2.2.1∧g1.2.1.length≤600∧(g1.2.2.2.length:Int)+g1.1≤jh) (fun (g1:(Int×(List Int)×Int×(List dB)))=>g1.1.toNat) ?_ ?_
 ·intro aj g1 dQ bS;obtain ⟨dG,bE,bG,kC⟩:=dQ;unfold zW;refine wi (fun c1=>?_) (fun c1=>?_)
  ·refine wn ?_;refine aH (ng ob ob ob ob ob ob) fun v6 hv6=>?_;obtain ⟨auU,auV,auW,auX,auY⟩:=hv6;refine aH (bW ob ob ob) fun v7 hv7=>?_;obtain ⟨anw,ap9,aqa,auZ,au0⟩:=hv7;refine wm ?_;refine bS _ ?_ ?_
   ·exact ob
   ·exact ob
  ·refine av ?_;exact ob
 ·exact ob
theorem Rh {dH:dz} (h1:0≤dH.At) (h2:dH.L.length≤600):W (rV dH) (fun r=>r.1.length≤5∧(∀c∈r.1,c.aO.length≤2∧c.aM.length≤3)∧0≤r.2.At∧r.2.L.length≤600):=by
 unfold rV;refine aH (bW ob ob ob) fun v1 hv1=>?_;obtain ⟨Ij,BN,Ik,K8,Nz⟩:=hv1;refine bF (fun (g1:(Int×(List Int)×Int×(List aI)))=>0≤g1.1∧0≤g1.2.2.1∧g1.2.1.length≤600∧(g1.2.2.2.length:Int)+g1.1≤5∧(∀c∈g1.2.2.2,c.aO.length≤2∧c.aM.length≤3)) (fun (g1:(Int×(List Int)×Int×(List aI)))=>g1.1.toNat) ?_ ?_
 ·intro aj g1 dQ bS;obtain ⟨dG,bE,bG,kC,Ec⟩:=dQ;unfold BH;refine wi (fun c1=>?_) (fun c1=>?_)
  ·refine aH (gy ob ob ob ob) fun v28 hv28=>?_;obtain ⟨arR,arS,arT⟩:=hv28;refine wi (fun c2=>?_) (fun c2=>?_)
   ·refine aH (bW ob ob ob) fun v41 arU=>?_;obtain ⟨arV,arW,arX,arY,arZ⟩:=arU;refine wi (fun c3=>?_) (fun c3=>?_)
    ·refine aH (bW ob ob ob) fun v42 ar0=>?_;obtain ⟨ar1,ar2,ar3,ar4,ar5⟩:=ar0;refine aH (bW ob ob ob) fun v49 agd=>?_;obtain ⟨aku,akv,akw,akx,aky⟩:=agd;refine wi (fun c4=>?_) (fun c4=>?_)
     ·refine aH (gy ob ob ob ob) fun v50 acw=>?_;obtain ⟨ar6,ar7,ar8⟩:=acw;unfold gK;refine aH (bW ob ob ob) fun v47 acy=>?_;obtain ⟨acz,acA,acB,acC,acD⟩:=acy;refine wi (fun c5=>?_) (fun c5=>?_)
      ·refine aH (gy ob ob ob ob) fun v48 Zq=>?_;obtain ⟨acE,acF,acG⟩:=Zq;unfold eG;refine wm ?_;refine bS _ ?_ ?_
       ·exact ob
       ·exact ob
      ·unfold eG;refine wm ?_;refine bS _ ?_ ?_
       ·exact ob
       ·exact ob
     ·refine wi (fun c6=>?_) (fun c6=>?_)
      ·refine aH (gy ob ob ob ob) fun v51 aoy=>?_;obtain ⟨ar9,asa,asb⟩:=aoy;unfold gK;refine aH (bW ob ob ob) fun v47 acy=>?_;obtain ⟨acz,acA,acB,acC,acD⟩:=acy;refine wi (fun c7=>?_) (fun c7=>?_)
       ·refine aH (gy ob ob ob ob) fun v48 Zq=>?_;obtain ⟨acE,acF,acG⟩:=Zq;unfold eG;refine wm ?_;refine bS _ ?_ ?_
        ·exact ob
        ·exact ob
       ·unfold eG;refine wm ?_;refine bS _ ?_ ?_
        ·exact ob
        ·exact ob
      ·refine wi (fun c8=>?_) (fun c8=>?_)
       ·unfold gK;refine aH (bW ob ob ob) fun v47 acy=>?_;obtain ⟨acz,acA,acB,acC,acD⟩:=acy;refine wi (fun c9=>?_) (fun c9=>?_)
        ·refine aH (gy ob ob ob ob) fun v48 Zq=>?_;obtain ⟨acE,acF,acG⟩:=Zq;unfold eG;refine wm ?_;refine bS _ ?_ ?_
         ·exact ob
         ·exact ob
        ·unfold eG;refine wm ?_;refine bS _ ?_ ?_
         ·exact ob
         ·exact ob
       ·refine wi (fun c10=>?_) (fun c10=>?_)
        ·refine wn ?_;refine aH (bW ob ob ob) fun v52 asc=>?_;obtain ⟨ase,asf,asg,ash,asi⟩:=asc;refine wn ?_;unfold gK;refine aH (bW ob ob ob) fun v47 acy=>?_;obtain ⟨acz,acA,acB,acC,acD⟩:=acy;refine wi (fun c11=>?_) (fun c11=>?_)
         ·refine aH (gy ob ob ob ob) fun v48 Zq=>?_;obtain ⟨acE,acF,acG⟩:=Zq;unfold eG;refine wm ?_;refine bS _ ?_ ?_
          ·exact ob
          ·exact ob
         ·unfold eG;refine wm ?_;refine bS _ ?_ ?_
          ·exact ob
          ·exact ob
        ·unfold gK;refine aH (bW ob ob ob) fun v47 acy=>?_;obtain ⟨acz,acA,acB,acC,acD⟩:=acy;refine wi (fun c12=>?_) (fun c12=>?_)
         ·refine aH (gy ob ob ob ob) fun v48 Zq=>?_;obtain ⟨acE,acF,acG⟩:=Zq;unfold eG;refine wm ?_;refine bS _ ?_ ?_
          ·exact ob
          ·exact ob
         ·unfold eG;refine wm ?_;refine bS _ ?_ ?_
          ·exact ob
          ·exact ob
    ·unfold eG;refine wm ?_;refine bS _ ?_ ?_
     ·exact ob
     ·exact ob
   ·refine wn ?_;unfold eG;refine wm ?_;refine bS _ ?_ ?_
    ·exact ob
    ·exact ob
  ·refine av ?_;exact ob
 ·exact ob
theorem NA {dH:dz} (h1:0≤dH.At) (h2:dH.L.length≤600):W (o9 dH) (fun r=>r.1.length≤3∧(∀c∈r.1,c.bJ.length≤3)∧0≤r.2.At∧r.2.L.length≤600):=by
 unfold o9;refine aH (bW ob ob ob) fun v1 hv1=>?_;obtain ⟨Ij,BN,Ik,K8,Nz⟩:=hv1;refine bF (fun (g1:(Int×(List Int)×Int×(List ay)))=>0≤g1.1∧0≤g1.2.2.1∧g1.2.1.length≤600∧(g1.2.2.2.length:Int)+g1.1≤3∧(∀c∈g1.2.2.2,c.bJ.length≤3)) (fun (g1:(Int×(List Int)×Int×(List ay)))=>g1.1.toNat) ?_ ?_
 ·intro aj g1 dQ bS;obtain ⟨dG,bE,bG,kC,Ec⟩:=dQ;unfold yt;refine wi (fun c1=>?_) (fun c1=>?_)
  ·refine wn ?_;refine aH (ng ob ob ob ob ob ob) fun v12 Vh=>?_;obtain ⟨asj,asl,asn,aso,asq⟩:=Vh;refine aH (gy ob ob ob ob) fun v13 aek=>?_;obtain ⟨asr,asu,asv⟩:=aek;refine aH (gy ob ob ob ob) fun v14 aax=>?_;obtain ⟨asw,asx,asy⟩:=aax;refine aH (bW ob ob ob) fun v15 Pt=>?_;obtain ⟨asz,asA,asB,asC,asD⟩:=Pt;refine wi (fun c2=>?_) (fun c2=>?_)
   ·unfold kg;refine aH (bW ob ob ob) fun v16 agf=>?_;obtain ⟨aoz,aoA,aoB,aoC,aoD⟩:=agf;refine wn ?_;refine wi (fun c3=>?_) (fun c3=>?_)
    ·refine wm ?_;refine bS _ ?_ ?_
     ·exact ob
     ·exact ob
    ·refine wi (fun c4=>?_) (fun c4=>?_)
     ·refine wm ?_;refine bS _ ?_ ?_
      ·exact ob
      ·exact ob
     ·refine wi (fun c5=>?_) (fun c5=>?_)
      ·refine wm ?_;refine bS _ ?_ ?_
       ·exact ob
       ·exact ob
      ·refine wi (fun c6=>?_) (fun c6=>?_)
       ·refine wm ?_;refine bS _ ?_ ?_
        ·exact ob
        ·exact ob
       ·refine wm ?_;refine bS _ ?_ ?_
        ·exact ob
        ·exact ob
   ·unfold kg;refine aH (bW ob ob ob) fun v16 agf=>?_;obtain ⟨aoz,aoA,aoB,aoC,aoD⟩:=agf;refine wn ?_;refine wi (fun c7=>?_) (fun c7=>?_)
    ·refine wm ?_;refine bS _ ?_ ?_
     ·exact ob
     ·exact ob
    ·refine wi (fun c8=>?_) (fun c8=>?_)
     ·refine wm ?_;refine bS _ ?_ ?_
      ·exact ob
      ·exact ob
     ·refine wi (fun c9=>?_) (fun c9=>?_)
      ·refine wm ?_;refine bS _ ?_ ?_
       ·exact ob
       ·exact ob
      ·refine wi (fun c10=>?_) (fun c10=>?_)
       ·refine wm ?_;refine bS _ ?_ ?_
        ·exact ob
        ·exact ob
       ·refine wm ?_;refine bS _ ?_ ?_
        ·exact ob
        ·exact ob
  ·refine av ?_;exact ob
 ·exact ob
theorem Ri {dH:dz} (h1:0≤dH.At) (h2:dH.L.length≤600):W (rW dH) (fun r=>r.1.aD.length≤5∧(∀c∈r.1.aD,c.bO.length≤10∧c.ak.length≤2)∧0≤r.2.At∧r.2.L.length≤600):=by
 unfold rW;refine aH (ng ob ob ob ob ob ob) fun v1 hv1=>?_;obtain ⟨Ij,BN,Ik,K8,Nz⟩:=hv1;refine aH (bW ob ob ob) fun v2 hv2=>?_;obtain ⟨ael,ahj,akz,aqb,au1⟩:=hv2;refine bF (fun (g1:(Int×(List Int)×Int×(List cK)))=>0≤g1.1∧0≤g1.2.2.1∧g1.2.1.length≤600∧(g1.2.2.2.length:Int)+g1.1≤5∧(∀c∈g1.2.2.2,c.bO.length≤10∧c.ak.length≤2)) (fun (g1:(Int×(List Int)×Int×(List cK)))=>g1.1.toNat) ?_ ?_
 ·intro aj g1 dQ bS;obtain ⟨dG,bE,bG,kC,Ec⟩:=dQ;unfold BJ;refine wi (fun c1=>?_) (fun c1=>?_)
  ·refine wn ?_;refine bC (by (rw [agc,show ({ data:=#[103] }:ByteArray).size=1 from rfl]; simp only [List.length_cons,List.length_nil]; omega)) ?_;refine aH (bW ob ob ob) fun v35 aoE=>?_;obtain ⟨asE,asF,asG,asH,asI⟩:=aoE;refine bF (fun (g12:(Int×(List Int)×Int×(List Int)))=>0≤g12.1∧0≤g12.2.2.1∧g12.2.1.length≤600∧(g12.2.2.2.length:Int)≤g12.1∧g12.1≤10) (fun (g12:(Int×(List Int)×Int×(List Int)))=>(10 - g12.1).toNat) ?_ ?_
   ·intro af9 g12 aqc aqd;obtain ⟨asJ,asK,asL,asM,asN⟩:=aqc;unfold BI;refine wi (fun c2=>?_) (fun c2=>?_)
    ·refine aH (ng ob ob ob ob ob ob) fun v38 hv38=>?_;obtain ⟨asO,asP,asQ,asR,asS⟩:=hv38;refine wn ?_;refine wi (fun c3=>?_) (fun c3=>?_)
     ·refine wm ?_;refine aqd _ ?_ ?_
      ·exact ob
      ·exact ob
     ·refine wi (fun c4=>?_) (fun c4=>?_)
      ·unfold kU;refine aH (bW ob ob ob) fun v39 hv39=>?_;obtain ⟨aoF,aoG,aoH,aoI,aoJ⟩:=hv39;refine aH (kK) fun v40 akA=>?_;subst akA;refine wn ?_;refine aH (bW ob ob ob) fun v43 akB=>?_;obtain ⟨aoK,aoL,aoM,aoN,aoO⟩:=akB;refine wi (fun c5=>?_) (fun c5=>?_)
       ·refine aH (kK) fun v44 akC=>?_;subst akC;refine wm ?_;refine wm ?_;unfold jf;refine wm ?_;refine bS _ ?_ ?_
        ·exact ob
        ·exact ob
       ·unfold jf;refine wm ?_;refine bS _ ?_ ?_
        ·exact ob
        ·exact ob
      ·unfold kU;refine aH (bW ob ob ob) fun v39 hv39=>?_;obtain ⟨aoF,aoG,aoH,aoI,aoJ⟩:=hv39;refine aH (kK) fun v40 akA=>?_;subst akA;refine wn ?_;refine aH (bW ob ob ob) fun v43 akB=>?_;obtain ⟨aoK,aoL,aoM,aoN,aoO⟩:=akB;refine wi (fun c6=>?_) (fun c6=>?_)
       ·refine aH (kK) fun v44 akC=>?_;subst akC;refine wm ?_;refine wm ?_;unfold jf;refine wm ?_;refine bS _ ?_ ?_
        ·exact ob
        ·exact ob
       ·unfold jf;refine wm ?_;refine bS _ ?_ ?_
        ·exact ob
        ·exact ob
    ·refine wn ?_;refine wi (fun c7=>?_) (fun c7=>?_)
     ·unfold jO;refine aH (bW ob ob ob) fun v45 akD=>?_;obtain ⟨aoP,aoQ,aoR,aoS,aoT⟩:=akD;refine aH (kK) fun v46 agh=>?_;subst agh;refine wn ?_;refine aH (bW ob ob ob) fun v49 agd=>?_;obtain ⟨aku,akv,akw,akx,aky⟩:=agd;refine wi (fun c8=>?_) (fun c8=>?_)
      ·refine aH (kK) fun v50 acw=>?_;subst acw;refine wm ?_;refine wm ?_;unfold iL;refine wm ?_;refine bS _ ?_ ?_
       ·exact ob
       ·exact ob
      ·unfold iL;refine wm ?_;refine bS _ ?_ ?_
       ·exact ob
       ·exact ob
     ·unfold jO;refine aH (bW ob ob ob) fun v45 akD=>?_;obtain ⟨aoP,aoQ,aoR,aoS,aoT⟩:=akD;refine aH (kK) fun v46 agh=>?_;subst agh;refine wn ?_;refine aH (bW ob ob ob) fun v49 agd=>?_;obtain ⟨aku,akv,akw,akx,aky⟩:=agd;refine wi (fun c9=>?_) (fun c9=>?_)
      ·refine aH (kK) fun v50 acw=>?_;subst acw;refine wm ?_;refine wm ?_;unfold iL;refine wm ?_;refine bS _ ?_ ?_
       ·exact ob
       ·exact ob
      ·unfold iL;refine wm ?_;refine bS _ ?_ ?_
       ·exact ob
       ·exact ob
   ·exact ob
  ·refine av ?_;exact ob
 ·exact ob
theorem Td {dH:dz} (h1:0≤dH.At) (h2:dH.L.length≤600):W (uj dH) (fun r=>amx r.1∧0≤r.2.At∧r.2.L.length≤600):=by
 unfold uj;refine aH (Rh ob ob) fun v1 hv1=>?_;obtain ⟨Ij,BN,Ik,K8⟩:=hv1;refine aH (NA ob ob) fun v2 hv2=>?_;obtain ⟨ael,ahj,akz,aqb⟩:=hv2;refine aH (Ri ob ob) fun v3 hv3=>?_;obtain ⟨Zp,abu,abv,akr⟩:=hv3;refine aH (Rf ob ob ob ob) fun v4 hv4=>?_;obtain ⟨aks,akt,anv,ap8⟩:=hv4;refine aH (Pq ob ob ob ob) fun v5 hv5=>?_;obtain ⟨au2,au3,au4⟩:=hv5;refine av ?_;(refine ⟨⟨ob,BN,ob,ahj,ob,abu,ob,akt,ob⟩,ob,ob⟩)
deriving instance DecidableEq for aI,bI,bK
def dJ (n lo hi:Int):Bool:=decide (lo≤n)&&decide (n≤hi)
def wX (lo hi:Int):List Int→List Int→Bool
 | _,[]=>true
 | pre,n::r=>bif !(dJ n lo hi)||pre.contains n then false else wX lo hi (pre++[n]) r
theorem Yn {lo hi n:Int} {pre r:List Int} (h:(!(dJ n lo hi)||pre.contains n)=true):wX lo hi pre (n::r)=false:=by rw [wX,h]; rfl
theorem acH {lo hi n:Int} {pre r:List Int} (h:(!(dJ n lo hi)||pre.contains n)=false):wX lo hi pre (n::r)=wX lo hi (pre++[n]) r:=by rw [wX,h]; rfl
def jv (a b:Int):Int:=(Nat.gcd a.toNat b.toNat:Nat)
def pz (r:bI):Bool:=decide (0≤r.jW)&&decide (r.jW≤144115188075855872)&&decide (1≤r.jq)&&decide (r.jq≤16777216)&&(jv r.jW r.jq==1)
def newR (num den:Int):bI×Int:=bif decide (num<0)||decide (den<1) then (⟨0,0⟩,2) else
 bif !pz ⟨num.tdiv (jv num den),den.tdiv (jv num den)⟩ then (⟨0,0⟩,2) else (⟨num.tdiv (jv num den),den.tdiv (jv num den)⟩,0)
theorem Ai (a b:Int) (h:0<b):0<jv a b:=by
 unfold jv;have:0<b.toNat:=by omega
 have:=Nat.gcd_pos_of_pos_right a.toNat this;omega
theorem tdiv_le (a k:Int) (ha:0≤a) (hk:0<k):0≤a.tdiv k∧a.tdiv k≤a:=by
 rw [Int.tdiv_eq_ediv_of_nonneg ha];exact ⟨Int.ediv_nonneg ha om,Int.ediv_le_self _ ha⟩
def wY (k:Int):Bool:=decide (1≤k)&&decide (k≤64)
def qw (r:bI) (k:Int):bI×Int:=bif !pz r then (⟨0,0⟩,1) else bif !wY k then (⟨0,0⟩,2) else
 bif decide ((144115188075855872:Int).tdiv (k.tdiv (jv k r.jq))<r.jW) then (⟨0,0⟩,2) else newR (r.jW*(k.tdiv (jv k r.jq))) (r.jq.tdiv (jv k r.jq))
def Aj (r:bI) (k:Int):bI×Int:=bif !pz r then (⟨0,0⟩,1) else bif !wY k then (⟨0,0⟩,2) else newR r.jW (r.jq*k)
theorem l9 {r:bI} (h:pz r=true):0≤r.jW∧r.jW≤144115188075855872∧1≤r.jq∧r.jq≤16777216∧jv r.jW r.jq=1:=by
 unfold pz at h;simp at h;omega
theorem aoU (k d:Int) (hk:1≤k∧k≤64) (hd:1≤d):1≤k.tdiv (jv k d)∧k.tdiv (jv k d)≤64:=by
 have hg:=Ai k d om;have h1:=tdiv_le k (jv k d) om hg;have hdvd:Nat.gcd k.toNat d.toNat∣k.toNat:=Nat.gcd_dvd_left _ _;have h2:0<k.toNat / Nat.gcd k.toNat d.toNat:=Nat.div_pos (Nat.le_of_dvd om hdvd) (by unfold jv at hg; omega);have h3:k.tdiv (jv k d)=((k.toNat / Nat.gcd k.toNat d.toNat:Nat):Int):=by
  unfold jv;rw [Int.tdiv_eq_ediv_of_nonneg om];have:k=(k.toNat:Int):=by omega
  rw [Int.natCast_ediv,← this]
 omega
theorem ail (a b:Int) (ha:0≤a) (hb:1≤b) (h:a≤(144115188075855872:Int).tdiv b):0≤a*b∧a*b≤144115188075855872:=by
 rw [Int.tdiv_eq_ediv_of_nonneg (by decide)] at h;have:=(Int.le_ediv_iff_mul_le om).1 h;exact ⟨Int.mul_nonneg ha om,this⟩
theorem Te (c a b:Nat) (hc:0<c) (hb:0<b):newR (c*a:Nat) (c*b:Nat)=newR a b:=by
 have hcb:0<c*b:=Nat.mul_pos hc hb;have g0:0<Nat.gcd a b:=Nat.gcd_pos_of_pos_right a hb;have e1:jv (c*a:Nat) (c*b:Nat)=((c*Nat.gcd a b:Nat):Int):=by
  unfold jv;rw [Int.toNat_natCast,Int.toNat_natCast,Nat.gcd_mul_left]
 have e2:jv (a:Nat) (b:Nat)=(Nat.gcd a b:Nat):=by
  unfold jv;rw [Int.toNat_natCast,Int.toNat_natCast]
 have d:∀x:Nat,((c*x:Nat):Int).tdiv ((c*Nat.gcd a b:Nat):Int)=(x:Int).tdiv (Nat.gcd a b:Nat):=by
  intro x;rw [← Int.ofNat_tdiv,← Int.ofNat_tdiv,Nat.mul_div_mul_left _ _ hc]
 unfold newR;have c1:(decide (((c*a:Nat):Int)<0)||decide (((c*b:Nat):Int)<1))=false:=by
  have h1:¬ (((c*b:Nat):Int)<1):=Int.not_lt.2 (Int.ofNat_le.2 hcb);rw [decide_eq_false (Int.not_lt.2 (Int.natCast_nonneg _)),decide_eq_false h1];rfl
 have c2:(decide ((a:Int)<0)||decide ((b:Int)<1))=false:=by simp; omega
 rw [c1,c2,e1,e2,d a,d b]
theorem ain (num den k:Int) (hn:0≤num) (hd:1≤den) (hk:1≤k):newR (num.tdiv (jv num k)) (den*(k.tdiv (jv num k)))=newR num (den*k):=by
 obtain ⟨n,rfl⟩:=Int.eq_ofNat_of_zero_le hn;obtain ⟨d,rfl⟩:=Int.eq_ofNat_of_zero_le (show 0≤den by omega);obtain ⟨k,rfl⟩:=Int.eq_ofNat_of_zero_le (show 0≤k by omega);have hg:jv (n:Nat) (k:Nat)=(Nat.gcd n k:Nat):=by unfold jv; rw [Int.toNat_natCast,Int.toNat_natCast]
 rw [hg,← Int.ofNat_tdiv,← Int.ofNat_tdiv];have g0:0<Nat.gcd n k:=Nat.gcd_pos_of_pos_right n om;obtain ⟨a,ha⟩:=Nat.gcd_dvd_left n k;obtain ⟨b,hb⟩:=Nat.gcd_dvd_right n k;have e1:n / Nat.gcd n k=a:=by rw [Nat.div_eq_of_eq_mul_right g0 ha]
 have e2:k / Nat.gcd n k=b:=by rw [Nat.div_eq_of_eq_mul_right g0 hb]
 rw [e1,e2];have hb0:0<b:=by
  rcases Nat.eq_zero_or_pos b with h | h
  ·rw [h] at hb; simp at hb; omega
  ·exact h
 have:=Te (Nat.gcd n k) a (d*b) g0 (Nat.mul_pos om hb0);rw [← ha] at this;have e3:Nat.gcd n k*(d*b)=d*k:=by
  rw [Nat.mul_left_comm,← hb]
 rw [e3] at this;rw [← Int.natCast_mul,← Int.natCast_mul];exact this.symm
def t1 (r:bI) (k:Int):Int×Int:=bif decide ((144115188075855872:Int).tdiv (k.tdiv (jv k r.jq))<r.jW) then (-1,1) else (r.jW*(k.tdiv (jv k r.jq)),r.jq.tdiv (jv k r.jq))
def nO (r:bI) (lo hi:Int):Bool:=pz r&&(decide (lo≤r.jW.tdiv r.jq)&&(decide (r.jW.tdiv r.jq<hi)||(r.jW.tdiv r.jq==hi&&r.jW.tmod r.jq==0)))
def Rj (c:aI):Bool:=decide (8<(c.aO.length:Int))||decide (8<(c.aM.length:Int))
def Lv (n:Int) (x:bK):Bool:=!dJ x.eU 0 (n - 1)||!dJ x.fK 0 4000000000||!dJ x.Low 0 x.fK
def iW (c:aI):Bool:=
 bif c.fZ==1 then ((c.aO.length:Int)==0)&&((c.aM.length:Int)==1)&&dJ (c.aM.getD 0 0) 1 4000000000
 else bif c.fZ==2||c.fZ==3 then ((c.aO.length:Int)==1)&&decide (0<(c.aM.length:Int))&&wX 1 64 [] c.aM
 else bif c.fZ==4 then decide (0<(c.aM.length:Int))&&wX 0 ((c.aO.length:Int) - 1) [] c.aM
 else bif c.fZ==5 then ((c.aO.length:Int)==1)&&(c.aM==[0,1])
 else false
def kW (c:aI) (k:Int):Bool:=bif c.aO.any (fun y=>!dJ y 0 (k - 1))||!dJ c.fK 0 4000000000||!dJ c.Low 0 c.fK then false else iW c
theorem amy (l:List Int) (hi:Int) (h:wX 0 hi [] l=true) (hl:0<l.length):0≤hi:=by
 cases l with
 | nil=>simp at hl
 | cons n l=>
  cases hw:dJ n 0 hi with
  | true=>simp [dJ] at hw; omega
  | false=>
   rw [Yn (by rw [hw]; rfl)] at h;cases h
def Pv (a b:Int):Int:=if b > a then b else a
def Rk (c:aI):Bool:=c.fZ==2||c.fZ==3
def lX (acc:List Int) (l:List Int):Int:=l.foldl (fun n p=>Pv n (acc.getD p.toNat 0)) 0
def JC (acc:List Int) (c:aI):Int:=bif Rk c then lX acc c.aO+1 else lX acc c.aO
def iK (l:List aI):List Int:=l.foldl (fun acc c=>acc++[JC acc c]) []
theorem Da (l:List aI) (c:aI):iK (l++[c])=iK l++[JC (iK l) c]:=by
 unfold iK;rw [List.foldl_append];rfl
def ahk (l:List aI):Prop:=∀i,i<l.length→(l.getD i aJ).aO.length≤2000000∧∀p∈(l.getD i aJ).aO,0≤p∧p<i
theorem JD (acc:List Int) (b:Int) (hb0:0≤b) (hb:∀j:Nat,0≤acc.getD j 0∧acc.getD j 0≤b) (l:List Int):0≤lX acc l∧lX acc l≤b:=by
 have:∀(l:List Int) (n:Int),0≤n∧n≤b→0≤l.foldl (fun n p=>Pv n (acc.getD p.toNat 0)) n∧l.foldl (fun n p=>Pv n (acc.getD p.toNat 0)) n≤b:=by
  intro l;induction l with
  | nil=>exact fun n h=>h
  | cons p r ih=>
   intro n hn;refine ih _ ?_;show 0≤Pv n (acc.getD p.toNat 0)∧Pv n (acc.getD p.toNat 0)≤b;unfold Pv;have:=hb p.toNat;split<;>omega
 exact this l 0 om
theorem jP (l:List aI):(iK l).length=l.length∧∀j:Nat,0≤(iK l).getD j 0∧(iK l).getD j 0≤l.length:=by
 induction l using Jf with
 | nil=>exact ⟨rfl,fun j=>by rw [GZ]; simp; exact Nat.zero_le _⟩
 | append_singleton l c ih=>
  obtain ⟨h1,h2⟩:=ih;rw [Da];have hb:=JD (iK l) l.length om h2 c.aO;have hf:0≤JC (iK l) c∧JC (iK l) c≤l.length+1:=by
   unfold JC;cases Rk c<;>simp only [cond_true,cond_false]<;>omega
  refine ⟨by rw [List.length_append,List.length_append,h1]; rfl,fun j=>?_⟩;have hlen:((l++[c]).length:Int)=l.length+1:=by rw [List.length_append]; rfl
  rw [hlen];by_cases hj:j<l.length
  ·rw [jr 0 om];have:=h2 j;omega
  ·by_cases hj2:j=l.length
   ·rw [jK 0 om]; exact hf
   ·rw [GZ 0 (by rw [List.length_append,h1]; simp; omega)];omega
def Xp (a b:Int):Int:=if b<a then b else a
def mg (l:List aI):Int:=l.foldl (fun p c=>Xp (p*c.aM.length) 1099511627776) 1
def aem (l:List aI):Bool:=(List.range l.length).all fun i=>kW (l.getD i aJ) i
def eF (l:List aI):Int:=bif decide (16<(l.length:Int))||l.any Rj then 3 else bif !aem l then 1 else bif decide (4096<mg l)||(iK l).any (fun n=>decide (4<n)) then 3 else 0
theorem abw {l:List aI} (h:∀i:Nat,i<l.length→kW (l.getD i aJ) i=true):aem l=true:=by
 unfold aem;rw [List.all_eq_true];intro i hi;exact h i (List.mem_range.1 hi)
theorem aen {l:List aI} (h:aem l=true) (i:Nat) (hi:i<l.length):kW (l.getD i aJ) i=true:=by
 unfold aem at h;rw [List.all_eq_true] at h;exact h i (List.mem_range.2 hi)
theorem Rl {l:List aI} {i:Nat} (hi:i<l.length) (h:kW (l.getD i aJ) i=false):aem l=false:=by
 cases hv:aem l with
 | false=>rfl
 | true=>rw [aen hv i hi] at h; cases h
theorem nH {α:Type} {l:List α} {p:α→Bool} (d:α) (h:l.any p=false) (i:Nat) (hi:i<l.length):p (l.getD i d)=false:=by
 rw [List.any_eq_false] at h;simpa using h _ (je d hi)
theorem wZ {α:Type} {l:List α} {p:α→Bool} (d:α) {i:Nat} (hi:i<l.length) (h:p (l.getD i d)=true):l.any p=true:=List.any_eq_true.2 ⟨_,je d hi,h⟩
theorem any_none {α:Type} {l:List α} {p:α→Bool} (d:α) (h:∀i,i<l.length→p (l.getD i d)=false):l.any p=false:=by
 rw [List.any_eq_false];intro x hx;obtain ⟨i,hi,rfl⟩:=List.mem_iff_getElem.1 hx;have:=h i hi;rw [List.getD_eq_getElem?_getD,List.getElem?_eq_getElem hi] at this;simpa using this
theorem NC {c:aI} (h:Rj c=false):c.aO.length≤8∧c.aM.length≤8:=by
 unfold Rj at h;simp at h;omega
theorem ND (l:List aI):0≤mg l∧mg l≤1099511627776:=by
 unfold mg;induction l using Jf with
 | nil=>simp
 | append_singleton l c ih=>
  rw [List.foldl_append];show 0≤Xp (l.foldl _ 1*c.aM.length) 1099511627776∧Xp (l.foldl _ 1*c.aM.length) 1099511627776≤1099511627776;have:0≤l.foldl (fun p c=>Xp (p*(c:aI).aM.length) 1099511627776) 1*(c.aM.length:Int):=Int.mul_nonneg ih.1 om;generalize l.foldl (fun p c=>Xp (p*(c:aI).aM.length) 1099511627776) 1*(c.aM.length:Int)=q at this;unfold Xp;split<;>omega
theorem akE (l:List aI) (n:Int) (h:0≤n∧n≤8):0≤mg l*n∧mg l*n≤1099511627776*8:=by
 have hb:=ND l;exact ⟨Int.mul_nonneg hb.1 h.1,Int.mul_le_mul hb.2 h.2 h.1 om⟩
theorem within_iff (n lo hi:Int):dJ n lo hi=true↔lo≤n∧n≤hi:=by
 unfold dJ;simp
theorem Vi {c:aI} {k:Int} {j:Nat} (hj:j<c.aO.length) (h:dJ (c.aO.getD j 0) 0 (k - 1)=false):kW c k=false:=by
 unfold kW;have:c.aO.any (fun y=>!dJ y 0 (k - 1))=true:=wZ 0 hj (by show (!dJ (c.aO.getD j 0) 0 (k - 1))=true; rw [h]; rfl);rw [this];rfl
theorem aeo {c:aI} {k:Int} (h:∀j,j<c.aO.length→dJ (c.aO.getD j 0) 0 (k - 1)=true):kW c k=!(!iW c||decide (c.Low<0)||decide (c.fK<c.Low)||decide (4000000000<c.fK)):=by
 have e:c.aO.any (fun y=>!dJ y 0 (k - 1))=false:=any_none 0 fun j hj=>by show (!dJ (c.aO.getD j 0) 0 (k - 1))=false; rw [h j hj]; rfl
 unfold kW;rw [e];cases hc:iW c with
 | false=>cases (false||!dJ c.fK 0 4000000000||!dJ c.Low 0 c.fK)<;>rfl
 | true=>
  by_cases hg:(0≤c.Low∧c.Low≤c.fK)∧c.fK≤4000000000
  ·have h1:dJ c.fK 0 4000000000=true:=(within_iff _ _ _).2 om;have h2:dJ c.Low 0 c.fK=true:=(within_iff _ _ _).2 om;rw [h1,h2,decide_eq_false (show ¬ c.Low<0 by omega),decide_eq_false (show ¬ c.fK<c.Low by omega),decide_eq_false (show ¬ 4000000000<c.fK by omega)];rfl
  ·have h1:(false||!dJ c.fK 0 4000000000||!dJ c.Low 0 c.fK)=true:=by
    simp only [Bool.false_or,Bool.or_eq_true,Bool.not_eq_true',← Bool.not_eq_true,within_iff];omega
   have h2:(!true||decide (c.Low<0)||decide (c.fK<c.Low)||decide (4000000000<c.fK))=true:=by
    simp only [Bool.not_true,Bool.false_or,Bool.or_eq_true,decide_eq_true_eq];omega
   rw [h1,h2];rfl
theorem JE {c:aI} {k:Int} (h:kW c k=true):∀p∈c.aO,0≤p∧p<k:=by
 intro p hp;unfold kW at h;cases ha:c.aO.any (fun y=>!dJ y 0 (k - 1)) with
 | true=>rw [ha] at h; cases h
 | false=>
  rw [List.any_eq_false] at ha;have:=ha p hp;simp only [Bool.not_eq_true,Bool.not_eq_false'] at this;have:=(within_iff _ _ _).1 this;omega
theorem aep {l:List aI} (h:∀i:Nat,i<l.length→kW (l.getD i aJ) i=true) (hb:∀i:Nat,i<l.length→Rj (l.getD i aJ)=false):ahk l:=fun i hi=>⟨by have:=NC (hb i hi); omega,JE (h i hi)⟩
theorem Vj (l:List aI) (k:Nat):∀j,j<k→j<l.length→(iK l).getD j 0=(iK (l.take k)).getD j 0:=by
 induction l using Jf with
 | nil=>intro j _ hj; cases hj
 | append_singleton l c ih=>
  intro j hjk hj;have hlen:=(jP l).1;by_cases hk:k≤l.length
  ·rw [List.take_append_of_le_length hk,Da,jr 0 om];exact ih j hjk om
  ·rw [List.take_of_length_le (l:=l++[c]) (by rw [List.length_append]; simp; omega)]
theorem NG {c:aI} (h:iW c=true):1≤c.aM.length:=by
 cases hc:c.aM with
 | nil=>
  unfold iW at h;rw [hc] at h;cases h1:c.fZ==1<;>cases h2:(c.fZ==2||c.fZ==3)<;>cases h3:c.fZ==4<;>cases h4:c.fZ==5<;>rw [h1,h2,h3,h4] at h<;>simp at h
 | cons x r=>simp
theorem kX {c:aI} {k:Int} (h:kW c k=true):iW c=true:=by
 unfold kW at h;cases hb:(c.aO.any (fun y=>!dJ y 0 (k - 1))||!dJ c.fK 0 4000000000||!dJ c.Low 0 c.fK) with
 | true=>rw [hb] at h; cases h
 | false=>rw [hb] at h; exact h
theorem Rm (l:List aI) (c:aI):mg (l++[c])=Xp (mg l*c.aM.length) 1099511627776:=by
 unfold mg;rw [List.foldl_append];rfl
theorem agi (l:List aI):(∀c∈l,1≤c.aM.length)→∀k,mg (l.take k)≤mg l:=by
 induction l using Jf with
 | nil=>intro _ k; rw [List.take_nil]; exact Int.le_refl _
 | append_singleton l c ih=>
  intro h k;by_cases hk:k≤l.length
  ·rw [List.take_append_of_le_length hk,Rm];have h1:=ih (fun d hd=>h d (List.mem_append_left _ hd)) k;have hb:=ND l;have hc:=h c (List.mem_append_right _ (List.mem_singleton.2 rfl));have:mg l*1≤mg l*c.aM.length:=Int.mul_le_mul_of_nonneg_left om hb.1;rw [Int.mul_one] at this;generalize mg l*(c.aM.length:Int)=q at *;unfold Xp;split<;>omega
  ·rw [List.take_of_length_le (l:=l++[c]) (by rw [List.length_append]; simp; omega)];exact Int.le_refl _
def kD (l:List aI) (s:List Int):Bool:=((s.length:Int)==(l.length:Int))&&(List.range l.length).all fun i=>dJ (s.getD i 0) 0 ((l.getD i aJ).aM.length - 1)
theorem zA {n:Nat} {p:Nat→Bool} (h:∀i,i<n→p i=true):(List.range n).all p=true:=by
 rw [List.all_eq_true];intro i hi;exact h i (List.mem_range.1 hi)
theorem acI {n:Nat} {p:Nat→Bool} (h:(List.range n).all p=true) {i:Nat} (hi:i<n):p i=true:=by
 rw [List.all_eq_true] at h;exact h i (List.mem_range.2 hi)
theorem w9 {n:Nat} {p:Nat→Bool} {i:Nat} (hi:i<n) (h:p i=false):(List.range n).all p=false:=by
 cases hv:(List.range n).all p with
 | false=>rfl
 | true=>rw [acI hv hi] at h; cases h
def aer (l:List aI):Prop:=∀i:Nat,i<l.length→(l.getD i aJ).aM.length≤2000000
def kY (l:List aI) (m:List bK):Bool:=(eF l==0)&&decide ((m.length:Int)≤32)&&!(m.any (Lv l.length))
theorem aes (n:Int) (x:bK):Lv n x=(decide (x.eU<0)||decide (n≤x.eU)||decide (x.Low<0)||decide (x.fK<x.Low)||decide (4000000000<x.fK)):=by
 unfold Lv;by_cases hg:(0≤x.eU∧x.eU≤n - 1)∧(0≤x.fK∧x.fK≤4000000000)∧(0≤x.Low∧x.Low≤x.fK)
 ·rw [(within_iff _ _ _).2 hg.1,(within_iff _ _ _).2 hg.2.1,(within_iff _ _ _).2 hg.2.2,decide_eq_false (show ¬ x.eU<0 by omega),decide_eq_false (show ¬ n≤x.eU by omega),decide_eq_false (show ¬ x.Low<0 by omega),decide_eq_false (show ¬ x.fK<x.Low by omega),decide_eq_false (show ¬ 4000000000<x.fK by omega)];rfl
 ·have h1:(!dJ x.eU 0 (n - 1)||!dJ x.fK 0 4000000000||!dJ x.Low 0 x.fK)=true:=by
   simp only [Bool.or_eq_true,Bool.not_eq_true',← Bool.not_eq_true,within_iff];omega
  have h2:(decide (x.eU<0)||decide (n≤x.eU)||decide (x.Low<0)||decide (x.fK<x.Low)||decide (4000000000<x.fK))=true:=by
   simp only [Bool.or_eq_true,decide_eq_true_eq];omega
  rw [h1,h2]
def Zr (c:aI) (k:Int):Prop:=(c.fZ=1)∨(c.fZ=4∧0≤k∧k<c.aM.length∧0≤c.aM.getD k.toNat 0∧c.aM.getD k.toNat 0<c.aO.length)∨(c.fZ≠4∧0<c.aO.length)
def jZ (c:aI) (k:Int):Int:=bif c.fZ==1 then -1 else bif c.fZ==4 then c.aO.getD (c.aM.getD k.toNat 0).toNat 0 else c.aO.getD 0 0
def Pw:bI:=⟨0,1⟩
def ni (r:bI):Bool:=(r.jW==0)&&((r.jq==1)&&true)
def WS (acc:List bI) (c:aI) (k:Int):bI:=
 bif decide (jZ c k<0) then ⟨c.aM.getD k.toNat 0,1⟩ else
 bif ni (acc.getD (jZ c k).toNat dV)||((c.fZ==5)&&(c.aM.getD k.toNat 0==0)) then Pw else
 bif c.fZ==2 then (Aj (acc.getD (jZ c k).toNat dV) (c.aM.getD k.toNat 0)).1 else
 bif c.fZ==3 then (qw (acc.getD (jZ c k).toNat dV) (c.aM.getD k.toNat 0)).1 else acc.getD (jZ c k).toNat dV
def qx (l:List aI) (s:List Int):Nat→List bI
 | 0=>[]
 | i+1=>qx l s i++[WS (qx l s i) (l.getD i aJ) (s.getD i 0)]
def gD (l:List aI) (s:List Int):List bI:=qx l s l.length
theorem rE (l:List aI) (s:List Int) (i:Nat):(qx l s i).length=i:=by
 induction i with
 | zero=>rfl
 | succ i ih=>simp [qx,ih]
structure Good (l:List aI) (s:List Int):Prop where
 small:l.length≤1000
 len:s.length=l.length
 aM:∀i,i<l.length→0≤s.getD i 0∧s.getD i 0<(l.getD i aJ).aM.length
 pch:∀i,i<l.length→Zr (l.getD i aJ) (s.getD i 0)
 aO:∀i,i<l.length→jZ (l.getD i aJ) (s.getD i 0)<i
theorem abx {lo hi:Int}:∀(l pre:List Int),wX lo hi pre l=true→∀x∈l,lo≤x∧x≤hi:=by
 intro l;induction l with
 | nil=>intro _ _ x hx; cases hx
 | cons n r ih=>
  intro pre h x hx;cases hb:(!(dJ n lo hi)||pre.contains n) with
  | true=>rw [Yn hb] at h; cases h
  | false=>
   rw [acH hb] at h;rcases List.mem_cons.1 hx with rfl | hx
   ·rw [Bool.or_eq_false_iff] at hb;have:=hb.1;simp only [Bool.not_eq_false'] at this;exact (within_iff _ _ _).1 this
   ·exact ih _ h x hx
theorem rF {c:aI} (h:iW c=true):
  (c.fZ=1∧c.aO=[]∧c.aM.length=1∧1≤c.aM.getD 0 0∧c.aM.getD 0 0≤4000000000)∨((c.fZ=2∨c.fZ=3)∧c.aO.length=1∧0<c.aM.length∧∀x∈c.aM,1≤x∧x≤64)
  ∨ (c.fZ=4∧0<c.aM.length∧∀x∈c.aM,0≤x∧x≤(c.aO.length:Int) - 1)∨(c.fZ=5∧c.aO.length=1∧c.aM=[0,1]):=by
 unfold iW at h;cases h1:c.fZ==1 with
 | true=>
  rw [h1] at h;simp only [cond_true,Bool.and_eq_true,within_iff] at h;obtain ⟨⟨h2,h3⟩,h4⟩:=h;left;have h2:c.aO.length=0:=by have:=eq_of_beq h2; omega
  exact ⟨eq_of_beq h1,List.length_eq_zero_iff.1 h2,by have:=eq_of_beq h3; omega,h4⟩
 | false=>
  rw [h1] at h;cases h2:(c.fZ==2||c.fZ==3) with
  | true=>
   rw [h2] at h;simp only [cond_true,cond_false,Bool.and_eq_true] at h;obtain ⟨⟨h3,h4⟩,h5⟩:=h;right; left;refine ⟨?_,by have:=eq_of_beq h3; omega,by have:=of_decide_eq_true h4; omega,abx _ _ h5⟩;rw [Bool.or_eq_true] at h2;exact h2.imp eq_of_beq eq_of_beq
  | false=>
   rw [h2] at h;cases h3:c.fZ==4 with
   | true=>
    rw [h3] at h;simp only [cond_true,cond_false,Bool.and_eq_true] at h;right; right; left;exact ⟨eq_of_beq h3,by have:=of_decide_eq_true h.1; omega,abx _ _ h.2⟩
   | false=>
    rw [h3] at h;cases h4:c.fZ==5 with
    | true=>
     rw [h4] at h;simp only [cond_true,cond_false,Bool.and_eq_true] at h;right; right; right;exact ⟨eq_of_beq h4,by have:=eq_of_beq h.1; omega,eq_of_beq h.2⟩
    | false=>rw [h4] at h; cases h
structure aay (l:List aI):Prop where
 len:l.length≤16
 big:∀i:Nat,i<l.length→(l.getD i aJ).aO.length≤8∧(l.getD i aJ).aM.length≤8
 valid:∀i:Nat,i<l.length→kW (l.getD i aJ) i=true
 prod:mg l≤4096
 iK:∀i:Nat,i<l.length→(iK l).getD i 0≤4
theorem uz {l:List aI} (h:eF l=0):aay l:=by
 unfold eF at h;cases h1:(decide (16<(l.length:Int))||l.any Rj) with
 | true=>rw [h1] at h; cases h
 | false=>
  rw [h1] at h;cases h2:aem l with
  | false=>rw [h2] at h; cases h
  | true=>
   rw [h2] at h;cases h3:(decide (4096<mg l)||(iK l).any (fun n=>decide (4<n))) with
   | true=>rw [h3] at h; cases h
   | false=>
    rw [Bool.or_eq_false_iff] at h1 h3;refine ⟨by have:=of_decide_eq_false h1.1; omega,fun i hi=>NC (nH aJ h1.2 i hi),aen h2,by have:=of_decide_eq_false h3.1; omega,fun i hi=>?_⟩;have:=nH 0 h3.2 i (by rw [(jP l).1]; exact hi);have:=of_decide_eq_false this;omega
theorem Ed {l:List aI} {s:List Int} (h:kD l s=true):s.length=l.length∧∀i:Nat,i<l.length→0≤s.getD i 0∧s.getD i 0<(l.getD i aJ).aM.length:=by
 unfold kD at h;rw [Bool.and_eq_true] at h;have hl:s.length=l.length:=by have:=eq_of_beq h.1; omega
 refine ⟨hl,fun i hi=>?_⟩;have:=h.2;rw [List.all_eq_true] at this;have:=this i (List.mem_range.2 om);have:=(within_iff _ _ _).1 this;omega
theorem aeu {c:aI} {i:Nat} {k:Int} (hv:kW c i=true) (hk:0≤k∧k<c.aM.length):Zr c k∧jZ c k<i:=by
 have hp:=JE hv;unfold Zr jZ;rcases rF (kX hv) with ⟨h1,h2,h3,h4⟩ | ⟨h1,h2,h3,h4⟩ | ⟨h1,h2,h3⟩ | ⟨h1,h2,h3⟩
 ·refine ⟨.inl h1,?_⟩;rw [h1];show (-1:Int)<i;omega
 ·have hn1:(c.fZ==1)=false:=by rcases h1 with h1 | h1<;>rw [h1]<;>rfl
  have hn4:(c.fZ==4)=false:=by rcases h1 with h1 | h1<;>rw [h1]<;>rfl
  refine ⟨.inr (.inr ⟨fun e=>(by rw [e] at hn4; cases hn4),om⟩),?_⟩;rw [hn1,hn4];exact (hp _ (je 0 om)).2
 ·have hm:=h3 _ (je 0 (i:=k.toNat) om);refine ⟨.inr (.inl ⟨h1,hk.1,hk.2,hm.1,om⟩),?_⟩;rw [h1];exact (hp _ (je 0 (i:=(c.aM.getD k.toNat 0).toNat) om)).2
 ·refine ⟨.inr (.inr ⟨by rw [h1]; decide,om⟩),?_⟩;rw [h1];exact (hp _ (je 0 (i:=0) om)).2
theorem O5 {l:List aI} {s:List Int} (h:aay l) (hs:kD l s=true):Good l s:=by
 obtain ⟨h1,h2⟩:=Ed hs;exact ⟨by have:=h.len; omega,h1,h2,fun i hi=>(aeu (h.valid i hi) (h2 i hi)).1,fun i hi=>(aeu (h.valid i hi) (h2 i hi)).2⟩
def uU (l:List aI) (s:List Int):List bI×Int:=bif eF l != 0 then ([],eF l) else bif !kD l s then ([],1) else (gD l s,0)
def Rn (r:List bI) (x:bK):Bool:=ni (r.getD x.eU.toNat dV)||!nO (r.getD x.eU.toNat dV) x.Low x.fK
def acJ (r:bI) (c:aI):Bool:=((!ni r)&&(c.fK != 0))&&!nO r c.Low c.fK
def ownB (l:List aI) (r:List bI):Bool:=(List.range l.length).all fun i=>!acJ (r.getD i dV) (l.getD i aJ)
def fq (l:List aI) (s:List Int) (m:List bK):Bool:=(kY l m&&kD l s)&&(ownB l (gD l s)&&!m.any (Rn (gD l s)))
theorem xg {l:List aI} {m:List bK} (h:kY l m=true):eF l=0∧m.length≤32∧∀i,i<m.length→Lv l.length (m.getD i dn)=false:=by
 unfold kY at h;rw [Bool.and_eq_true,Bool.and_eq_true] at h;exact ⟨eq_of_beq h.1.1,by have:=of_decide_eq_true h.1.2; omega,fun i hi=>nH dn (by simpa using h.2) i hi⟩
theorem NH {n:Int} {x:bK} (h:Lv n x=false):(0≤x.eU∧x.eU<n)∧0≤x.Low∧x.Low≤x.fK∧x.fK≤4000000000:=by
 rw [aes] at h;simp only [Bool.or_eq_false_iff,decide_eq_false_iff_not] at h;omega
theorem WT {α:Type} {l m:List α} {i:Nat} (d:α) (h:l.length≤i):(l++m).getD i d=m.getD (i - l.length) d:=by
 rw [List.getD_eq_getElem?_getD,List.getElem?_append_right h,List.getD_eq_getElem?_getD]
def red (a b:Nat):bI:=⟨((a / Nat.gcd a b:Nat):Int),((b / Nat.gcd a b:Nat):Int)⟩
theorem O6 (a b:Nat) (hb:0<b) (ha':a≤144115188075855872) (hb':b≤16777216):pz (red a b)=true:=by
 have g0:0<Nat.gcd a b:=Nat.gcd_pos_of_pos_right a hb;have h1:a / Nat.gcd a b≤a:=Nat.div_le_self _ _;have h2:b / Nat.gcd a b≤b:=Nat.div_le_self _ _;have h3:0<b / Nat.gcd a b:=Nat.div_pos (Nat.le_of_dvd hb (Nat.gcd_dvd_right _ _)) g0;have h4:Nat.gcd (a / Nat.gcd a b) (b / Nat.gcd a b)=1:=by
  rw [Nat.gcd_div (Nat.gcd_dvd_left _ _) (Nat.gcd_dvd_right _ _),Nat.div_self g0]
 unfold pz red jv;simp only [Int.toNat_natCast,h4];generalize a / Nat.gcd a b=n at *;generalize b / Nat.gcd a b=d at *;simp;omega
theorem aev (a b:Nat) (hb:0<b) (ha':a≤144115188075855872) (hb':b≤16777216):newR a b=(red a b,0):=by
 have hv:=O6 a b hb ha' hb';have e1:jv (a:Int) (b:Int)=(Nat.gcd a b:Nat):=by unfold jv; rw [Int.toNat_natCast,Int.toNat_natCast]
 have e2:(⟨(a:Int).tdiv (jv a b),(b:Int).tdiv (jv a b)⟩:bI)=red a b:=by
  rw [e1,← Int.ofNat_tdiv,← Int.ofNat_tdiv];rfl
 unfold newR;have c:(decide ((a:Int)<0)||decide ((b:Int)<1))=false:=by simp; omega
 rw [c,e2,hv];rfl
theorem aby (a b:Nat) (hb:0<b):∃g n d:Nat,0<g∧0<d∧g*n=a∧g*d=b∧red a b=⟨n,d⟩∧n≤a∧d≤b:=by
 have g0:0<Nat.gcd a b:=Nat.gcd_pos_of_pos_right a hb;refine ⟨Nat.gcd a b,a / Nat.gcd a b,b / Nat.gcd a b,g0,Nat.div_pos (Nat.le_of_dvd hb (Nat.gcd_dvd_right _ _)) g0,Nat.mul_div_cancel' (Nat.gcd_dvd_left _ _),Nat.mul_div_cancel' (Nat.gcd_dvd_right _ _),rfl,Nat.div_le_self _ _,Nat.div_le_self _ _⟩
theorem abz {k:Int} (h:1≤k∧k≤64):wY k=true:=by
 unfold wY;simp;omega
theorem aew (a b:Nat) (k:Int) (hb:0<b) (hk:1≤k∧k≤64) (ha':a≤144115188075855872) (hb':b*k.toNat≤16777216):Aj (red a b) k=(red a (b*k.toNat),0):=by
 have hbk:b≤b*k.toNat:=Nat.le_mul_of_pos_right _ om;have hv:=O6 a b hb ha' om;unfold Aj;rw [hv,abz hk];simp only [Bool.not_true,cond_false];obtain ⟨g,n,d,g0,d0,e1,e2,e3,_,_⟩:=aby a b hb;rw [e3];have hkk:k=(k.toNat:Int):=by omega
 have hm:=Te g n (d*k.toNat) g0 (Nat.mul_pos d0 om);rw [e1,← Nat.mul_assoc,e2] at hm;show newR (n:Int) ((d:Int)*k)=_;rw [hkk,← Int.natCast_mul,← hm,Int.toNat_natCast];exact aev a (b*k.toNat) om ha' hb'
theorem abA (a b:Nat) (k:Int) (hb:0<b) (hk:1≤k∧k≤64) (ha':a*k.toNat≤144115188075855872) (hb':b≤16777216):qw (red a b) k=(red (a*k.toNat) b,0):=by
 have hak:a≤a*k.toNat:=Nat.le_mul_of_pos_right _ om;have hv:=O6 a b hb om hb';unfold qw;rw [hv,abz hk];simp only [Bool.not_true,cond_false];obtain ⟨g,n,d,g0,d0,e1,e2,e3,e4,e5⟩:=aby a b hb;rw [e3];obtain ⟨k,rfl⟩:=Int.eq_ofNat_of_zero_le (show 0≤k by omega);have hk0:0<k:=by omega
 have eg:jv ((k:Nat):Int) ((d:Nat):Int)=(Nat.gcd k d:Nat):=by unfold jv; rw [Int.toNat_natCast,Int.toNat_natCast]
 have q0:0<Nat.gcd k d:=Nat.gcd_pos_of_pos_left d hk0;have qk:Nat.gcd k d*(k / Nat.gcd k d)=k:=Nat.mul_div_cancel' (Nat.gcd_dvd_left _ _);have qd:Nat.gcd k d*(d / Nat.gcd k d)=d:=Nat.mul_div_cancel' (Nat.gcd_dvd_right _ _);have qk0:0<k / Nat.gcd k d:=Nat.div_pos (Nat.le_of_dvd hk0 (Nat.gcd_dvd_left _ _)) q0;have qd0:0<d / Nat.gcd k d:=Nat.div_pos (Nat.le_of_dvd d0 (Nat.gcd_dvd_right _ _)) q0;have qkk:k / Nat.gcd k d≤k:=Nat.div_le_self _ _;simp only [Int.toNat_natCast] at ha' ⊢;rw [eg,← Int.ofNat_tdiv,← Int.ofNat_tdiv];have hc:decide ((144115188075855872:Int).tdiv ((k / Nat.gcd k d:Nat):Int)<(n:Int))=false:=by
  apply decide_eq_false;have:n≤144115188075855872 / (k / Nat.gcd k d):=by
   rw [Nat.le_div_iff_mul_le qk0];exact Nat.le_trans (Nat.mul_le_mul e4 qkk) ha'
  have e:(144115188075855872:Int).tdiv ((k / Nat.gcd k d:Nat):Int)=((144115188075855872 / (k / Nat.gcd k d):Nat):Int):=by
   rw [Int.ofNat_tdiv];rfl
  rw [e];omega
 rw [hc];simp only [cond_false];rw [← Int.natCast_mul];have m1:=Te (Nat.gcd k d) (n*(k / Nat.gcd k d)) (d / Nat.gcd k d) q0 qd0;rw [Nat.mul_left_comm,qk,qd] at m1;have m2:=Te g (n*k) d g0 d0;rw [← Nat.mul_assoc,e1,e2] at m2;rw [← m1,← m2];exact aev (a*k) b hb ha' hb'
theorem amA (a:Nat):red a 1=⟨a,1⟩:=by
 unfold red;rw [Nat.gcd_one_right,Nat.div_one,Nat.div_one];rfl
theorem amB (a b:Nat) (ha:0<a):0<(red a b).jW:=by
 have:0<a / Nat.gcd a b:=Nat.div_pos (Nat.le_of_dvd ha (Nat.gcd_dvd_left _ _)) (Nat.gcd_pos_of_pos_left b ha);show (0:Int)<((a / Nat.gcd a b:Nat):Int);omega
theorem akF (a b:Nat) (ha:0<a):ni (red a b)=false:=by
 have:=amB a b ha;unfold ni;have:((red a b).jW==0)=false:=by
  rw [← Bool.not_eq_true];intro e;have:=eq_of_beq e;omega
 rw [this];rfl
theorem aio (k:Int) (hk:1≤k∧k≤64):qw Pw k=(Pw,0):=by
 have h:=abA 0 1 k (by decide) hk (by simp) (by decide);rw [Nat.zero_mul] at h;exact h
theorem akG (k:Int) (hk:1≤k∧k≤64):Aj Pw k=(Pw,0):=by
 have h:=aew 0 1 k (by decide) hk (by decide) om;have e:red 0 (1*k.toNat)=Pw:=by
  unfold red Pw;rw [Nat.gcd_zero_left,Nat.zero_div,Nat.one_mul,Nat.div_self om];rfl
 rw [e] at h;exact h
theorem Ro (l:List aI) (s:List Int) (n j:Nat) (h:j<n):(qx l s n).getD j dV=WS (qx l s j) (l.getD j aJ) (s.getD j 0):=by
 induction n with
 | zero=>omega
 | succ n ih=>
  rw [qx];by_cases hj:j<n
  ·rw [jr _ (by rw [rE]; exact hj)];exact ih hj
  ·have:j=n:=by omega
   subst this;rw [jK _ (rE l s j).symm]
theorem aip {acc acc':List bI} {c:aI} {k:Int} (h:0≤jZ c k→acc.getD (jZ c k).toNat dV=acc'.getD (jZ c k).toNat dV):WS acc c k=WS acc' c k:=by
 unfold WS;by_cases hp:jZ c k<0
 ·rw [decide_eq_true hp]; rfl
 ·rw [h om]
theorem aiq {l:List aI} {s:List Int} (h:Good l s) (j:Nat) (hj:j<l.length):(gD l s).getD j dV=WS (gD l s) (l.getD j aJ) (s.getD j 0):=by
 unfold gD;rw [Ro l s l.length j hj];refine aip fun h0=>?_;have:=h.aO j hj;rw [Ro l s l.length _ om,Ro l s j _ om]
theorem air (acc:List Int) (l:List Int) (p:Int) (hp:p∈l):acc.getD p.toNat 0≤lX acc l:=by
 have mono:∀(l:List Int) (n:Int),n≤l.foldl (fun n p=>Pv n (acc.getD p.toNat 0)) n:=by
  intro l;induction l with
  | nil=>intro n; exact Int.le_refl _
  | cons q r ih=>
   intro n;have:=ih (Pv n (acc.getD q.toNat 0));have h2:n≤Pv n (acc.getD q.toNat 0):=by unfold Pv; split<;>omega
   exact Int.le_trans h2 this
 have key:∀(l:List Int) (n:Int),p∈l→acc.getD p.toNat 0≤l.foldl (fun n p=>Pv n (acc.getD p.toNat 0)) n:=by
  intro l;induction l with
  | nil=>intro n h; cases h
  | cons q r ih=>
   intro n h;rcases List.mem_cons.1 h with rfl | h
   ·have:=mono r (Pv n (acc.getD p.toNat 0));have h2:acc.getD p.toNat 0≤Pv n (acc.getD p.toNat 0):=by unfold Pv; split<;>omega
    exact Int.le_trans h2 this
   ·exact ih _ h
 exact key l 0 hp
theorem amC {l:List aI} (hp:ahk l) (j:Nat) (hj:j<l.length):∀p∈(l.getD j aJ).aO,(iK l).getD p.toNat 0+(bif Rk (l.getD j aJ) then 1 else 0)≤(iK l).getD j 0:=by
 intro p hpm;have hpj:=(hp j hj).2 p hpm;have e1:(iK l).getD j 0=JC (iK (l.take j)) (l.getD j aJ):=by
  rw [Vj l (j+1) j om hj,iC aJ hj,Da,jK _ (by rw [(jP _).1,take_len om])]
 have e2:(iK l).getD p.toNat 0=(iK (l.take j)).getD p.toNat 0:=Vj l j p.toNat om om;have:=air (iK (l.take j)) (l.getD j aJ).aO p hpm;rw [e1,e2];unfold JC;cases Rk (l.getD j aJ)<;>simp only [cond_true,cond_false]<;>omega
structure Made (l:List aI):Prop where
 ok:eF l=0
 pos:1≤l.length
 fix:∀i,i<l.length→(l.getD i aJ).fZ=1→(l.getD i aJ).aM.getD 0 0≤24000000
structure Xq (F a b:Nat) (f:Int):Prop where
 a0:0<a
 b0:0<b
 f0:0≤f
 al:a≤F*64 ^ f.toNat
 bl:b≤64 ^ f.toNat
theorem amD {f:Int} (h:f≤4):64 ^ f.toNat≤16777216:=by
 have:f.toNat≤4:=by omega
 calc 64 ^ f.toNat≤64 ^ 4:=Nat.pow_le_pow_right (by decide) this
  _=16777216:=by decide
theorem Xq.mono {F a b:Nat} {f g:Int} (h:Xq F a b f) (hfg:f≤g):Xq F a b g:=by
 have hf:=h.f0;have:64 ^ f.toNat≤64 ^ g.toNat:=Nat.pow_le_pow_right (by decide) om;exact ⟨h.a0,h.b0,om,Nat.le_trans h.al (Nat.mul_le_mul_left _ this),Nat.le_trans h.bl this⟩
theorem Xq.times {F a b:Nat} {f g:Int} (h:Xq F a b f) (hfg:f+1≤g) {k:Nat} (hk:1≤k∧k≤64):Xq F (a*k) b g:=by
 have hf:=h.f0;have:64 ^ f.toNat*64≤64 ^ g.toNat:=by
  rw [← Nat.pow_succ];exact Nat.pow_le_pow_right (by decide) om
 refine ⟨Nat.mul_pos h.a0 om,h.b0,om,?_,?_⟩
 ·calc a*k≤(F*64 ^ f.toNat)*64:=Nat.mul_le_mul h.al hk.2
   _=F*(64 ^ f.toNat*64):=Nat.mul_assoc _ _ _
   _≤F*64 ^ g.toNat:=Nat.mul_le_mul_left _ this
 ·exact Nat.le_trans h.bl (Nat.le_trans (Nat.le_mul_of_pos_right _ (by decide)) this)
theorem Xq.over {F a b:Nat} {f g:Int} (h:Xq F a b f) (hfg:f+1≤g) {k:Nat} (hk:1≤k∧k≤64):Xq F a (b*k) g:=by
 have hf:=h.f0;have h1:64 ^ f.toNat*64≤64 ^ g.toNat:=by
  rw [← Nat.pow_succ];exact Nat.pow_le_pow_right (by decide) om
 have h2:64 ^ f.toNat≤64 ^ g.toNat:=Nat.pow_le_pow_right (by decide) om;exact ⟨h.a0,Nat.mul_pos h.b0 om,om,Nat.le_trans h.al (Nat.mul_le_mul_left _ h2),Nat.le_trans (Nat.mul_le_mul h.bl hk.2) h1⟩
theorem Xq.small {F a b:Nat} {f:Int} (h:Xq F a b f) (hf:f≤4) (hF:F≤4294967296):a≤F*16777216∧a≤144115188075855872∧b≤16777216:=by
 have hp:=amD hf;have h1:=Nat.le_trans h.al (Nat.mul_le_mul_left F hp);exact ⟨h1,Nat.le_trans h1 (Nat.le_trans (Nat.mul_le_mul_right 16777216 hF) (by decide)),Nat.le_trans h.bl hp⟩
def IY (c:aI) (k:Int):Int:=c.aM.getD k.toNat 0
def upR (acc:List bI) (c:aI) (k:Int):bI:=acc.getD (jZ c k).toNat dV
structure Step (c:aI) (i:Nat) (k:Int):Prop where
 p0:0≤jZ c k
 pi:jZ c k<i
 mem:jZ c k∈c.aO
 n1:c.fZ≠1
theorem acK {c:aI} {i:Nat} {k:Int} (hv:kW c i=true) (hk:0≤k∧k<c.aM.length) (hn:c.fZ≠1):Step c i k:=by
 have hp:=JE hv;have key:jZ c k∈c.aO:=by
  unfold jZ;rcases rF (kX hv) with ⟨h1,h2,h3,h4⟩ | ⟨h1,h2,h3,h4⟩ | ⟨h1,h2,h3⟩ | ⟨h1,h2,h3⟩
  ·exact absurd h1 hn
  ·have hn1:(c.fZ==1)=false:=by rcases h1 with h1 | h1<;>rw [h1]<;>rfl
   have hn4:(c.fZ==4)=false:=by rcases h1 with h1 | h1<;>rw [h1]<;>rfl
   rw [hn1,hn4];exact je 0 om
  ·have hm:=h3 _ (je 0 (i:=k.toNat) om);rw [h1];exact je 0 (i:=(c.aM.getD k.toNat 0).toNat) om
  ·rw [h1];exact je 0 (i:=0) om
 have:=hp _ key;exact ⟨this.1,this.2,key,hn⟩
theorem amE {c:aI} {i:Nat} {k:Int} (hv:kW c i=true) (hk:0≤k∧k<c.aM.length) (h:c.fZ=1) (acc:List bI):IY c k=c.aM.getD 0 0∧1≤IY c k∧IY c k≤4000000000∧WS acc c k=⟨IY c k,1⟩∧jZ c k = -1:=by
 rcases rF (kX hv) with ⟨h1,h2,h3,h4⟩ | ⟨h1,h2,h3,h4⟩ | ⟨h1,h2,h3⟩ | ⟨h1,h2,h3⟩
 ·have e:IY c k=c.aM.getD 0 0:=by unfold IY; rw [show k.toNat=0 by omega]
  have hp:jZ c k = -1:=by unfold jZ; rw [h]; rfl
  refine ⟨e,om,om,?_,hp⟩;unfold WS;rw [hp];rfl
 ·rcases h1 with h1 | h1<;>omega
 ·omega
 ·omega
theorem aex {c:aI} {i:Nat} {k:Int} (hv:kW c i=true) (hk:0≤k∧k<c.aM.length) (hn:c.fZ≠1) (acc:List bI):
  ((ni (upR acc c k)=true∨(c.fZ=5∧IY c k=0))∧WS acc c k=Pw)∨
  (ni (upR acc c k)=false∧((c.fZ=2∧Rk c=true∧(1≤IY c k∧IY c k≤64)∧WS acc c k=(Aj (upR acc c k) (IY c k)).1)∨
    (c.fZ=3∧Rk c=true∧(1≤IY c k∧IY c k≤64)∧WS acc c k=(qw (upR acc c k) (IY c k)).1)∨
    ((c.fZ=4∨(c.fZ=5∧IY c k=1))∧Rk c=false∧WS acc c k=upR acc c k))):=by
 have hs:=acK hv hk hn;have hp:decide (jZ c k<0)=false:=decide_eq_false (by have:=hs.p0; omega);have e0:WS acc c k=bif ni (upR acc c k)||((c.fZ==5)&&(IY c k==0)) then Pw else bif c.fZ==2 then (Aj (upR acc c k) (IY c k)).1 else bif c.fZ==3 then (qw (upR acc c k) (IY c k)).1 else upR acc c k:=by
  unfold WS;rw [hp];rfl
 have hmem:IY c k∈c.aM:=je 0 om;cases ho:ni (upR acc c k) with
 | true=>left; exact ⟨.inl rfl,by rw [e0,ho]; rfl⟩
 | false=>
  rw [ho] at e0;rcases rF (kX hv) with ⟨h1,h2,h3,h4⟩ | ⟨h1,h2,h3,h4⟩ | ⟨h1,h2,h3⟩ | ⟨h1,h2,h3⟩
  ·exact absurd h1 hn
  ·right;refine ⟨rfl,?_⟩;rcases h1 with h1 | h1
   ·left;refine ⟨h1,by unfold Rk; rw [h1]; rfl,h4 _ hmem,?_⟩;rw [e0,h1];rfl
   ·right; left;refine ⟨h1,by unfold Rk; rw [h1]; rfl,h4 _ hmem,?_⟩;rw [e0,h1];rfl
  ·right;refine ⟨rfl,.inr (.inr ⟨.inl h1,by unfold Rk; rw [h1]; rfl,?_⟩)⟩;rw [e0,h1];rfl
  ·rw [h3] at hmem;by_cases hc:IY c k=0
   ·left;refine ⟨.inr ⟨h1,hc⟩,?_⟩;rw [e0,h1,hc];rfl
   ·have hc1:IY c k=1:=by simp at hmem; omega
    right;refine ⟨rfl,.inr (.inr ⟨.inr ⟨h1,hc1⟩,by unfold Rk; rw [h1]; rfl,?_⟩)⟩;rw [e0,h1,hc1];rfl
theorem agj {l:List aI} (h:aay l):ahk l:=fun i hi=>⟨by have:=(h.big i hi).1; omega,JE (h.valid i hi)⟩
def st1 (acc:List bI) (on:List Bool) (c:aI) (k:Int):bI×Bool:=
 bif c.fZ==1 then (⟨c.aM.getD k.toNat 0,1⟩,true) else
 bif c.fZ==2 then ((Aj (acc.getD (jZ c k).toNat dV) (c.aM.getD k.toNat 0)).1,on.getD (jZ c k).toNat false) else
 bif c.fZ==3 then ((qw (acc.getD (jZ c k).toNat dV) (c.aM.getD k.toNat 0)).1,on.getD (jZ c k).toNat false) else
 bif (c.fZ==5)&&(c.aM.getD k.toNat 0==0) then (Pw,false) else (acc.getD (jZ c k).toNat dV,on.getD (jZ c k).toNat false)
def Vk (l:List aI) (s:List Int):Nat→List bI×List Bool
 | 0=>([],[])
 | i+1=>((Vk l s i).1++[(st1 (Vk l s i).1 (Vk l s i).2 (l.getD i aJ) (s.getD i 0)).1],(Vk l s i).2++[(st1 (Vk l s i).1 (Vk l s i).2 (l.getD i aJ) (s.getD i 0)).2])
def Qu (l:List aI) (s:List Int):List bI×List Bool:=Vk l s l.length
theorem O7 (l:List aI) (s:List Int) (i:Nat):(Vk l s i).1.length=i∧(Vk l s i).2.length=i:=by
 induction i with
 | zero=>exact ⟨rfl,rfl⟩
 | succ i ih=>simp [Vk,ih]
def Up (l:List aI) (s:List Int):Prop:=∀i:Nat,i<l.length→(l.getD i aJ).fZ≠1→0≤jZ (l.getD i aJ) (s.getD i 0)
theorem akH {l:List aI} {s:List Int} (h:aay l) (hs:kD l s=true):Up l s:=by
 obtain ⟨_,h2⟩:=Ed hs;exact fun i hi hk=>(acK (h.valid i hi) (h2 i hi) hk).p0
theorem acL (l:List aI) (s:List Int) (n j:Nat) (h:j<n):(Vk l s n).1.getD j dV=(st1 (Vk l s j).1 (Vk l s j).2 (l.getD j aJ) (s.getD j 0)).1∧(Vk l s n).2.getD j false=(st1 (Vk l s j).1 (Vk l s j).2 (l.getD j aJ) (s.getD j 0)).2:=by
 induction n with
 | zero=>omega
 | succ n ih=>
  rw [Vk];have hl:=O7 l s n;by_cases hj:j<n
  ·rw [jr _ om,jr _ om];exact ih hj
  ·have:j=n:=by omega
   subst this;rw [jK _ hl.1.symm,jK _ hl.2.symm];exact ⟨rfl,rfl⟩
theorem ais {acc acc':List bI} {on on':List Bool} {c:aI} {k:Int} (h:c.fZ≠1→acc.getD (jZ c k).toNat dV=acc'.getD (jZ c k).toNat dV∧on.getD (jZ c k).toNat false=on'.getD (jZ c k).toNat false):st1 acc on c k=st1 acc' on' c k:=by
 unfold st1;cases hk:c.fZ==1 with
 | true=>rfl
 | false=>
  obtain ⟨h1,h2⟩:=h (fun e=>by rw [e] at hk; cases hk);rw [h1,h2]
theorem aoV {l:List aI} {s:List Int} (h:Good l s) (hu:Up l s) (j:Nat) (hj:j<l.length):((Qu l s).1.getD j dV,(Qu l s).2.getD j false)=st1 (Qu l s).1 (Qu l s).2 (l.getD j aJ) (s.getD j 0):=by
 unfold Qu;obtain ⟨e1,e2⟩:=acL l s l.length j hj;rw [e1,e2];show st1 _ _ _ _=_;refine ais fun hk=>?_;have h1:=h.aO j hj;have h2:=hu j hj hk;obtain ⟨a1,a2⟩:=acL l s l.length (jZ (l.getD j aJ) (s.getD j 0)).toNat om;obtain ⟨b1,b2⟩:=acL l s j (jZ (l.getD j aJ) (s.getD j 0)).toNat om;exact ⟨b1.trans a1.symm,b2.trans a2.symm⟩
theorem akI {c:aI} (hn:c.fZ≠1) (acc:List bI) (on:List Bool) (k:Int):
  (c.fZ=2→st1 acc on c k=((Aj (upR acc c k) (IY c k)).1,on.getD (jZ c k).toNat false))∧
  (c.fZ=3→st1 acc on c k=((qw (upR acc c k) (IY c k)).1,on.getD (jZ c k).toNat false))∧
  (c.fZ=5→IY c k=0→st1 acc on c k=(Pw,false))∧
  ((c.fZ=4∨(c.fZ=5∧IY c k=1))→st1 acc on c k=(upR acc c k,on.getD (jZ c k).toNat false)):=by
 have hk:(c.fZ==1)=false:=by
  cases h:c.fZ==1 with
  | false=>rfl
  | true=>exact absurd (eq_of_beq h) hn
 refine ⟨fun h=>?_,fun h=>?_,fun h h0=>?_,fun h=>?_⟩
 ·unfold st1; rw [h]; rfl
 ·unfold st1; rw [h]; rfl
 ·unfold st1; rw [show c.aM.getD k.toNat 0=IY c k from rfl,h,h0]; rfl
 ·rcases h with h | ⟨h,h1⟩
  ·unfold st1; rw [h]; rfl
  ·unfold st1; rw [show c.aM.getD k.toNat 0=IY c k from rfl,h,h1]; rfl
theorem akJ {c:aI} {i:Nat} {k:Int} (hv:kW c i=true) (hk:0≤k∧k<c.aM.length) (hn:c.fZ≠1):(c.fZ=2∧1≤IY c k∧IY c k≤64)∨(c.fZ=3∧1≤IY c k∧IY c k≤64)∨c.fZ=4∨(c.fZ=5∧IY c k=k∧(k=0∨k=1)):=by
 have hmem:IY c k∈c.aM:=je 0 om;rcases rF (kX hv) with ⟨h1,h2,h3,h4⟩ | ⟨h1,h2,h3,h4⟩ | ⟨h1,h2,h3⟩ | ⟨h1,h2,h3⟩
 ·exact absurd h1 hn
 ·rcases h1 with h1 | h1
  ·exact .inl ⟨h1,h4 _ hmem⟩
  ·exact .inr (.inl ⟨h1,h4 _ hmem⟩)
 ·exact .inr (.inr (.inl h1))
 ·rw [h3] at hk;have hk2:k=0∨k=1:=by simp at hk; omega
  refine .inr (.inr (.inr ⟨h1,?_,hk2⟩));unfold IY;rw [h3];rcases hk2 with rfl | rfl<;>rfl
theorem akK (l:List aI):∀j:Nat,0≤(iK l).getD j 0:=fun j=>((jP l).2 j).1
theorem akL {l:List aI} {s:List Int} (hf:aay l) (hs:kD l s=true):∀j,j<l.length→
  ((gD l s).getD j dV=Pw∧(Qu l s).1.getD j dV=Pw∧(Qu l s).2.getD j false=false)∨
  ∃a b,Xq 4000000000 a b ((iK l).getD j 0)∧(gD l s).getD j dV=red a b∧(Qu l s).1.getD j dV=red a b∧(Qu l s).2.getD j false=true:=by
 have hg:=O5 hf hs;have hu:=akH hf hs;obtain ⟨_,hset⟩:=Ed hs;have asT:=fun j hj=>amC (agj hf) j hj;have hfb:=akK l;generalize hA:gD l s=A;generalize hB:Qu l s=B;intro j;induction j using Nat.strongRecOn with
 | ind j ih=>
  intro hj;have eA:=aiq hg j hj;have eB:=aoV hg hu j hj;rw [hA] at eA;rw [hB] at eB;have hv:=hf.valid j hj;have hk:=hset j hj;have hfj:=hf.iK j hj;have aqf:=asT j hj;generalize l.getD j aJ=c at *;generalize s.getD j 0=k at *;by_cases hk1:c.fZ=1
  ·right;obtain ⟨e1,e2,e3,e4,_⟩:=amE hv hk hk1 A;have eB1:st1 B.1 B.2 c k=(⟨IY c k,1⟩,true):=by unfold st1; rw [hk1]; rfl
   rw [eB1] at eB;have hb:=hfb j;have er:(⟨IY c k,1⟩:bI)=red (IY c k).toNat 1:=by
    rw [amA];congr 1;omega
   refine ⟨(IY c k).toNat,1,⟨om,by decide,om,?_,Nat.pow_pos (by decide)⟩,?_,?_,?_⟩
   ·exact Nat.le_trans (show (IY c k).toNat≤4000000000 by omega) (Nat.le_mul_of_pos_right _ (Nat.pow_pos (by decide)))
   ·rw [eA,e4,er]
   ·rw [← er]; exact congrArg Prod.fst eB
   ·exact congrArg Prod.snd eB
  ·have hst:=acK hv hk hk1;have hpl:(jZ c k).toNat<l.length:=by have:=hst.p0; have:=hst.pi; omega
   have hpf:=aqf _ hst.mem;have ihp:=ih (jZ c k).toNat (by have:=hst.p0; have:=hst.pi; omega) hpl;have uA:A.getD (jZ c k).toNat dV=upR A c k:=rfl;have uB:B.1.getD (jZ c k).toNat dV=upR B.1 c k:=rfl;rw [uA,uB] at ihp;obtain ⟨q2,q3,q50,q4⟩:=akI hk1 B.1 B.2 k;have hn:∀n:Int,1≤n∧n≤64→1≤n.toNat∧n.toNat≤64:=fun n hn=>by omega
   rcases ihp with ⟨i1,i2,i3⟩ | ⟨a,b,i0,i1,i2,i3⟩
   ·left;have hA0:WS A c k=Pw:=by
     rcases aex hv hk hk1 A with ⟨_,q⟩ | ⟨q,_⟩
     ·exact q
     ·rw [i1] at q; cases q
    rw [i2,i3] at q2 q3 q4;have hB0:st1 B.1 B.2 c k=(Pw,false):=by
     rcases akJ hv hk hk1 with ⟨h,h1⟩ | ⟨h,h1⟩ | h | ⟨h,h1,h2⟩
     ·rw [q2 h,akG _ h1]
     ·rw [q3 h,aio _ h1]
     ·exact q4 (.inl h)
     ·rcases h2 with h2 | h2
      ·exact q50 h om
      ·exact q4 (.inr ⟨h,om⟩)
    rw [hB0] at eB;exact ⟨by rw [eA,hA0],congrArg Prod.fst eB,congrArg Prod.snd eB⟩
   ·have oA:ni (upR A c k)=false:=by rw [i1]; exact akF a b i0.a0
    rw [i2,i3] at q2 q3 q4;rcases aex hv hk hk1 A with ⟨q0,q⟩ | ⟨_,q⟩
    ·left;rw [oA] at q0;rcases q0 with q0 | ⟨q0,q1⟩
     ·cases q0
     ·rw [q50 q0 q1] at eB;exact ⟨by rw [eA,q],congrArg Prod.fst eB,congrArg Prod.snd eB⟩
    ·right;rcases q with ⟨r1,r2,r3,r4⟩ | ⟨r1,r2,r3,r4⟩ | ⟨r1,r2,r3⟩
     ·rw [r2] at hpf;have hnew:=i0.over hpf (hn _ r3);have hs2:=hnew.small hfj (by decide);have eo:=aew a b _ i0.b0 r3 hs2.2.1 hs2.2.2;rw [q2 r1,eo] at eB;exact ⟨a,b*(IY c k).toNat,hnew,by rw [eA,r4,i1,eo],congrArg Prod.fst eB,congrArg Prod.snd eB⟩
     ·rw [r2] at hpf;have hnew:=i0.times hpf (hn _ r3);have hs2:=hnew.small hfj (by decide);have eo:=abA a b _ i0.b0 r3 hs2.2.1 hs2.2.2;rw [q3 r1,eo] at eB;exact ⟨a*(IY c k).toNat,b,hnew,by rw [eA,r4,i1,eo],congrArg Prod.fst eB,congrArg Prod.snd eB⟩
     ·rw [r2] at hpf;rw [q4 r1] at eB;exact ⟨a,b,i0.mono (by simpa using hpf),by rw [eA,r3,i1],congrArg Prod.fst eB,congrArg Prod.snd eB⟩
theorem O8 {l:List aI} {s:List Int} (hf:aay l) (hs:kD l s=true) (j:Nat) (hj:j<l.length):(Qu l s).1.getD j dV=(gD l s).getD j dV∧(Qu l s).2.getD j false=!ni ((gD l s).getD j dV)∧pz ((gD l s).getD j dV)=true∧(ni ((gD l s).getD j dV)=true→(gD l s).getD j dV=Pw):=by
 rcases akL hf hs j hj with ⟨h1,h2,h3⟩ | ⟨a,b,h0,h1,h2,h3⟩
 ·rw [h1,h2,h3];exact ⟨rfl,rfl,by decide,fun _=>rfl⟩
 ·have hs2:=h0.small (hf.iK j hj) (by decide);rw [h1,h2,h3,akF a b h0.a0];exact ⟨rfl,rfl,O6 a b h0.b0 hs2.2.1 hs2.2.2,nofun⟩
theorem xk {α:Type} {l m:List α} (d:α) (h:l.length=m.length) (he:∀i,i<l.length→l.getD i d=m.getD i d):l=m:=by
 apply List.ext_getElem h;intro i h1 h2;have:=he i h1;rw [List.getD_eq_getElem?_getD,List.getD_eq_getElem?_getD,List.getElem?_eq_getElem h1,List.getElem?_eq_getElem h2] at this;simpa using this
structure au7 (l:List aI) (s w:List Int):Prop where
 chain:∀i,i+1<w.length→(l.getD (w.getD i 0).toNat aJ).fZ≠1∧w.getD (i+1) 0=jZ (l.getD (w.getD i 0).toNat aJ) (s.getD (w.getD i 0).toNat 0)
 last:∀i,i+1=w.length→(l.getD (w.getD i 0).toNat aJ).fZ=1
theorem jQ (n lo hi:Int):jN n lo hi (dJ n lo hi):=rfl
theorem acM {l:List aI} (hl:l.length≤2000000):lG l (l.any Rj):=
 Qt (Ta (p:=F3) (P:=Rj) (fun _ _=>rfl) om) (tO _ _)
theorem Xr {p a:Int} (ha : -2000000≤a∧a≤2000000):zq p a (!dJ p 0 (a - 1)):=
 mG (bC (by unfold aF; omega) (aH (Ca (jQ _ _ _)) fun v hv=>by subst hv; exact av rfl))
theorem acN {l:List Int} {a:Int} (ha : -2000000≤a∧a≤2000000) (hl:l.length≤2000000):nU l a (l.any fun y=>!dJ y 0 (a - 1)):=
 Qt (Ta (p:=fun x=>zq x a) (P:=fun y=>!dJ y 0 (a - 1)) (fun _ _=>Xr ha) om) (tO _ _)
theorem Zt {l:List Int} {v:Int} (hl:l.length≤2000000):slices_Contains_int l v (l.contains v):=by
 refine Qt (aox (P:=fun x=>v==x) om) ?_;rw [tO];exact (List.contains_eq_any_beq).symm
theorem xq {l:List Int} {lo hi:Int} (hl:l.length≤2000000):mQ l lo hi (wX lo hi [] l):=by
 refine mG (akp l.length (fun i=>wX lo hi (l.take i) (l.drop i)=wX lo hi [] l) ?_ rfl);intro self i hi1 hi2 ih;refine bV (fun c=>?_) (fun c=>?_)
 ·have c:=of_decide_eq_true c;have hlt:i<l.length:=by omega
  rw [drop_cons 0 hlt] at hi2;refine bC om ?_;refine aH (Ca (jQ _ _ _)) fun v hv=>?_;subst hv;refine bC (fun _=>by omega) ?_;refine aH (gX fun _=>Zt (by simp; omega)) fun v hv=>?_;subst hv;refine bV (fun c2=>?_) (fun c2=>?_)
  ·refine av ?_;rw [← hi2,Yn (pre:=l.take i) (n:=l.getD i 0) c2]
  ·refine bC (by unfold aF; omega) (ih hlt ?_);rw [← hi2,acH (pre:=l.take i) (n:=l.getD i 0) c2,iC 0 hlt]
 ·have c:=of_decide_eq_false c;refine av ?_;rw [← hi2,List.drop_eq_nil_of_le om];rfl
theorem Rp {a b:List Int} (hl:a.length≤2000000):slices_Equal_int a b (a==b):=by
 refine mG (bV (fun c=>?_) (fun c=>?_))
 ·refine av ?_;have:a≠b:=fun h=>by subst h; simp at c
  exact (beq_eq_false_iff_ne.2 this).symm
 ·have hlen:a.length=b.length:=by simp at c; omega
  refine akp a.length (fun i=>(a==b)=(a.drop i==b.drop i)) ?_ rfl;intro self i hi1 hi2 ih;refine bV (fun c=>?_) (fun c=>?_)
  ·have c:=of_decide_eq_true c;have hlt:i<a.length:=by omega
   rw [drop_cons 0 hlt,drop_cons 0 (show i<b.length by omega)] at hi2;refine bC om (bC om ?_);refine bV (fun c2=>?_) (fun c2=>?_)
   ·refine av ?_;rw [hi2];simp at c2;simp [c2]
   ·refine bC (by unfold aF; omega) (ih hlt ?_);rw [hi2];simp at c2;simp [c2]
  ·have c:=of_decide_eq_false c;refine av ?_;rw [hi2,List.drop_eq_nil_of_le om,List.drop_eq_nil_of_le om];rfl
theorem aaz {c:aI} {k:Int} (hk : -2000000≤k∧k≤2000000) (hp:c.aO.length≤2000000) (hc:c.aM.length≤2000000):Mw c k (kW c k):=by
 refine mG ?_;refine aH (Ca (acN hk hp)) fun v1 hv=>?_;subst hv;refine aH (gX fun _=>jQ c.fK 0 4000000000) fun v hv=>?_;subst hv;refine aH (gX fun _=>jQ c.Low 0 c.fK) fun v hv=>?_;subst hv;refine bV (fun h=>?_) (fun h=>?_)
 ·refine av ?_;unfold kW;rw [h];rfl
 ·have hv:kW c k=iW c:=by unfold kW; rw [h]; rfl
  rw [hv];refine bV (fun k1=>?_) (fun k1=>?_)
  ·refine bC (fun h=>by simp at h; omega) ?_;refine aH (gX fun _=>jQ (c.aM.getD 0 0) 1 4000000000) fun v hv=>?_;subst hv;refine av ?_;unfold iW;rw [k1];rfl
  ·refine bV (fun k2=>?_) (fun k2=>?_)
   ·rw [k2];refine aH (gX fun _=>xq hc) fun v hv=>?_;subst hv;refine av ?_;unfold iW;rw [k1,k2];rfl
   ·refine bV (fun k3=>?_) (fun k3=>?_)
    ·refine aH (gX fun _=>xq hc) fun v hv=>?_;subst hv;refine av ?_;unfold iW;rw [k1,k2,k3];rfl
    ·refine bV (fun k4=>?_) (fun k4=>?_)
     ·refine bC (fun _=>by unfold aF; omega) ?_;refine aH (gX fun _=>xq hc) fun v hv=>?_;subst hv;refine av ?_;unfold iW;rw [k1,k2,k3,k4];rfl
     ·refine bV (fun k5=>?_) (fun k5=>?_)
      ·refine bV (fun h1=>?_) (fun h1=>?_)
       ·refine aH (gX fun _=>Rp hc) fun v hv=>?_;subst hv;refine av ?_;unfold iW;rw [k1,k2,k3,k4,k5];rfl
       ·refine av ?_;unfold iW;rw [k1,k2,k3,k4,k5];simp at h1;simp [h1]
      ·refine av ?_;unfold iW;rw [k1,k2,k3,k4,k5];rfl
theorem set_mid {α:Type} (a:List α) (x y:α) (z:List α):(a++x::z).set a.length y=a++y::z:=by
 rw [List.set_append_right _ _ (Nat.le_refl _),Nat.sub_self];rfl
theorem tQ {l:List aI} (hl:l.length≤2000000):qN l (eF l):=by
 refine mG ?_;refine aH (gX fun _=>acM hl) fun v hv=>?_;subst hv;refine bV (fun h=>?_) (fun h=>?_)
 ·refine av ?_;unfold eF;rw [h];rfl
 ·have hb3:(decide (16<(l.length:Int))||l.any Rj)=false:=h;have h16:l.length≤16:=by simp at hb3; omega
  have hbig:∀i:Nat,i<l.length→Rj (l.getD i aJ)=false:=nH aJ (by simp only [Bool.or_eq_false_iff] at hb3; exact hb3.2);refine akp l.length (fun i=>∀j:Nat,j<i→kW (l.getD j aJ) j=true) ?_ (fun j hj=>absurd hj (Nat.not_lt_zero j));intro self i hi1 hi2 ih;refine bV (fun h2=>?_) (fun h2=>?_)
  ·have hlt:i<l.length:=by have:=of_decide_eq_true h2; omega
   have hbl:=NC (hbig i hlt);refine bC om ?_;refine aH (Ca (aaz (c:=l.getD i aJ) (k:=i) om om om)) fun v hv=>?_;subst hv;refine bV (fun h3=>?_) (fun h3=>?_)
   ·refine av ?_;unfold eF;rw [hb3,Rl hlt (by simpa using h3)];rfl
   ·refine bC (by unfold aF; omega) (ih hlt fun j hj=>?_);by_cases hji:j=i
    ·subst hji; simpa using h3
    ·exact hi2 j om
  ·have hil:i=l.length:=by have:=of_decide_eq_false h2; omega
   subst hil;have hall:=abw hi2;refine bC ⟨om,by show (l.length:Int)*8≤140737488355328; omega⟩ ?_;refine bF (fun g:Int×Int×List Int=>∃i:Nat,g=(mg (l.take i),(i:Int),iK (l.take i)++List.replicate (l.length - i) 0)∧i≤l.length∧mg (l.take i)≤4096∧∀j:Nat,j<i→(fun n=>decide (4<n)) ((iK l).getD j 0)=false) (fun g=>(l.length - g.2.1).toNat) ?_ ⟨0,rfl,om,by rw [List.take_zero]; decide,fun j hj=>absurd hj (Nat.not_lt_zero j)⟩;rintro dK g ⟨i,rfl,hj1,hj2,hj3⟩ ih2;refine bV (fun h3=>?_) (fun h3=>?_)
   ·have hlt:i<l.length:=by have:(i:Int)<(l.length:Int):=of_decide_eq_true h3; omega
    refine bC (by show 0≤(i:Int)∧(i:Int)<(l.length:Int); omega) ?_;obtain ⟨hfl,hb⟩:=jP (l.take i);rw [take_len hj1] at hfl hb;have hpi:=(aep hi2 hbig) i hlt;have hsn:iK (l.take (i+1))=iK (l.take i)++[JC (iK (l.take i)) (l.getD i aJ)]:=by rw [iC aJ hlt,Da]
    have hpm:=JD (iK (l.take i)) i om hb;have hrep:List.replicate (l.length - i) (0:Int)=0::List.replicate (l.length - i - 1) 0:=by
     rw [show l.length - i=(l.length - i - 1)+1 by omega];rfl
    have hcut:W (ug l (mg (l.take i),(i:Int),iK (l.take i)++List.replicate (l.length - i) 0) dK (iK (l.take i)++JC (iK (l.take i)) (l.getD i aJ)::List.replicate (l.length - i - 1) 0)) (fun r=>r=eF l):=by
     have hbl:=NC (hbig i hlt);have hpb:=ND (l.take i);have au8:0≤mg (l.take i)*((l.getD i aJ).aM.length:Int)∧mg (l.take i)*((l.getD i aJ).aM.length:Int)≤4096*8:=⟨Int.mul_nonneg hpb.1 om,Int.mul_le_mul hj2 om om om⟩;have hpe:mg (l.take (i+1))=mg (l.take i)*((l.getD i aJ).aM.length:Int):=by
      rw [iC aJ hlt,Rm];unfold Xp;rw [if_neg om]
     have hfi:(iK l).getD i 0=JC (iK (l.take i)) (l.getD i aJ):=by
      rw [Vj l (i+1) i om hlt,hsn,jK 0 hfl.symm]
     refine bC (by show aF (mg (l.take i)*((l.getD i aJ).aM.length:Int)); unfold aF; omega) ?_;refine bC (fun _=>by simp [hfl]; omega) ?_;refine bV (fun h5=>?_) (fun h5=>?_)
     ·have h5:(decide (4096<mg (l.take i)*((l.getD i aJ).aM.length:Int))||decide (4<(iK (l.take i)++JC (iK (l.take i)) (l.getD i aJ)::List.replicate (l.length - i - 1) 0).getD i 0))=true:=h5;rw [jK 0 hfl.symm,← hfi,← hpe] at h5;refine av ?_;unfold eF;rw [hb3,hall];have:(decide (4096<mg l)||(iK l).any (fun n=>decide (4<n)))=true:=by
       rw [Bool.or_eq_true] at h5 ⊢;rcases h5 with h5 | h5
       ·left;have h5:=of_decide_eq_true h5;have hm:=agi l (fun c hc=>by
         obtain ⟨k,hk,rfl⟩:=List.mem_iff_getElem.1 hc;have:=NG (kX (hi2 k hk));rwa [List.getD_eq_getElem?_getD,List.getElem?_eq_getElem hk] at this) (i+1)
        exact decide_eq_true om
       ·right;exact wZ (p:=fun n=>decide (4<n)) 0 (by rw [(jP l).1]; exact hlt) h5
      rw [this];rfl
     ·have h5:(decide (4096<mg (l.take i)*((l.getD i aJ).aM.length:Int))||decide (4<(iK (l.take i)++JC (iK (l.take i)) (l.getD i aJ)::List.replicate (l.length - i - 1) 0).getD i 0))=false:=h5;rw [jK 0 hfl.symm,← hfi,← hpe] at h5;rw [Bool.or_eq_false_iff] at h5;refine bC (by show aF ((i:Int)+1); unfold aF; omega) ?_;refine ih2 _ ⟨i+1,?_,hlt,by have:=of_decide_eq_false h5.1; omega,fun j hj=>?_⟩ (by show (l.length - ((i:Int)+1)).toNat<(l.length - (i:Int)).toNat; omega)
      ·rw [hsn,List.append_assoc,show l.length - (i+1)=l.length - i - 1 by omega,hpe];rfl
      ·by_cases hji:j=i
       ·subst hji; exact h5.2
       ·exact hj3 j om
    refine bF (fun g:Int×List Int=>∃j:Nat,g=((j:Int),iK (l.take i)++lX (iK (l.take i)) ((l.getD i aJ).aO.take j)::List.replicate (l.length - i - 1) 0)∧j≤(l.getD i aJ).aO.length) (fun g=>((l.getD i aJ).aO.length - g.1).toNat) ?_ ⟨0,by rw [hrep]; rfl,Nat.zero_le _⟩;rintro mW g ⟨j,rfl,hj⟩ ih7;refine bV (fun h4=>?_) (fun h4=>?_)
    ·have hjl:j<(l.getD i aJ).aO.length:=by have:(j:Int)<((l.getD i aJ).aO.length:Int):=of_decide_eq_true h4; omega
     have hin:=hpi.2 ((l.getD i aJ).aO.getD j 0) (je 0 hjl);refine bC (by show 0≤(j:Int)∧(j:Int)<((l.getD i aJ).aO.length:Int); omega) ?_;refine bC (by show 0≤(i:Int)∧(i:Int)<(((iK (l.take i)++lX (iK (l.take i)) ((l.getD i aJ).aO.take j)::List.replicate (l.length - i - 1) 0).length:Nat):Int); simp [hfl]; omega) ?_;refine bC (by show 0≤(l.getD i aJ).aO.getD j 0∧(l.getD i aJ).aO.getD j 0<(((iK (l.take i)++lX (iK (l.take i)) ((l.getD i aJ).aO.take j)::List.replicate (l.length - i - 1) 0).length:Nat):Int); rw [List.length_append,hfl,List.length_cons]; omega) ?_;refine bC (by show 0≤(i:Int)∧(i:Int)<(((iK (l.take i)++lX (iK (l.take i)) ((l.getD i aJ).aO.take j)::List.replicate (l.length - i - 1) 0).length:Nat):Int); simp [hfl]; omega) ?_;refine bC (by show aF ((j:Int)+1); unfold aF; have:=hpi.1; omega) ?_;refine ih7 _ ⟨j+1,?_,hjl⟩ (by show ((l.getD i aJ).aO.length - ((j:Int)+1)).toNat<((l.getD i aJ).aO.length - (j:Int)).toNat; omega);have e:lX (iK (l.take i)) ((l.getD i aJ).aO.take (j+1))=Pv ((iK (l.take i)++lX (iK (l.take i)) ((l.getD i aJ).aO.take j)::List.replicate (l.length - i - 1) 0).getD i 0) ((iK (l.take i)++lX (iK (l.take i)) ((l.getD i aJ).aO.take j)::List.replicate (l.length - i - 1) 0).getD ((l.getD i aJ).aO.getD j 0).toNat 0):=by
      rw [jK 0 hfl.symm,jr 0 om];unfold lX;rw [uK _ _ 0 hjl]
     rw [e];have hs:=set_mid (iK (l.take i)) (lX (iK (l.take i)) ((l.getD i aJ).aO.take j)) (Pv ((iK (l.take i)++lX (iK (l.take i)) ((l.getD i aJ).aO.take j)::List.replicate (l.length - i - 1) 0).getD i 0) ((iK (l.take i)++lX (iK (l.take i)) ((l.getD i aJ).aO.take j)::List.replicate (l.length - i - 1) 0).getD ((l.getD i aJ).aO.getD j 0).toNat 0)) (List.replicate (l.length - i - 1) 0);rw [hfl] at hs;rw [← hs];rfl
    ·have hje:j=(l.getD i aJ).aO.length:=by have:¬ (j:Int)<((l.getD i aJ).aO.length:Int):=of_decide_eq_false h4; omega
     subst hje;rw [List.take_length];have hpx:=hpm (l.getD i aJ).aO;refine bV (fun h5=>?_) (fun h5=>?_)
     ·have hlen:0≤(i:Int)∧(i:Int)<(((iK (l.take i)++lX (iK (l.take i)) (l.getD i aJ).aO::List.replicate (l.length - i - 1) 0).length:Nat):Int):=by simp [hfl]; omega
      refine bC hlen ?_;refine bC (by show aF ((iK (l.take i)++lX (iK (l.take i)) (l.getD i aJ).aO::List.replicate (l.length - i - 1) 0).getD i 0+1); rw [jK 0 hfl.symm]; unfold aF; omega) ?_;refine bC hlen ?_;have e:JC (iK (l.take i)) (l.getD i aJ)=(iK (l.take i)++lX (iK (l.take i)) (l.getD i aJ).aO::List.replicate (l.length - i - 1) 0).getD i 0+1:=by
       rw [jK 0 hfl.symm];unfold JC Rk;rw [show ((l.getD i aJ).fZ==2||(l.getD i aJ).fZ==3)=true from h5];rfl
      have hs:=set_mid (iK (l.take i)) (lX (iK (l.take i)) (l.getD i aJ).aO) (JC (iK (l.take i)) (l.getD i aJ)) (List.replicate (l.length - i - 1) 0);rw [hfl] at hs;rw [← hs,e] at hcut;exact hcut
     ·have e:JC (iK (l.take i)) (l.getD i aJ)=lX (iK (l.take i)) (l.getD i aJ).aO:=by
       unfold JC Rk;rw [show ((l.getD i aJ).fZ==2||(l.getD i aJ).fZ==3)=false from h5];rfl
      rw [e] at hcut;exact hcut
   ·have hil:i=l.length:=by have:¬ (i:Int)<(l.length:Int):=of_decide_eq_false h3; omega
    subst hil;refine av ?_;rw [List.take_length] at hj2;unfold eF;rw [hb3,hall,decide_eq_false (show ¬ 4096<mg l by omega),any_none (p:=fun n=>decide (4<n)) 0 (by rw [(jP l).1]; exact hj3)];rfl
theorem aey {a b:Int} (ha:0≤a) (hb:0<b):jv b (a.tmod b)=jv a b:=by
 unfold jv;rw [Int.tmod_eq_emod_of_nonneg ha,show (a % b).toNat=a.toNat % b.toNat from Int.toNat_emod ha om,Nat.gcd_comm a.toNat,Nat.gcd_rec b.toNat a.toNat,Nat.gcd_comm]
theorem Zu {x M e:Int} (hM:0≤M) (he:0<e) (hx:0≤x) (h:x≤M.tdiv e):0≤x*e∧x*e≤M:=by
 rw [Int.tdiv_eq_ediv_of_nonneg hM] at h;exact ⟨Int.mul_nonneg hx om,(Int.le_ediv_iff_mul_le he).1 h⟩
theorem Vl {x y X Y:Int} (h1:0≤x) (h2:x≤X) (h3:0≤y) (h4:y≤Y):0≤y*x∧y*x≤Y*X:=
 ⟨Int.mul_nonneg h3 h1,Int.mul_le_mul h4 h2 h1 om⟩
theorem zB {a_:Int} {b_:Int} (h1:0≤a_) (h2:0≤b_):W (qQ a_ b_) (fun r=>r=jv a_ b_):=by
 unfold qQ;refine bF (fun (g1:(Int×Int))=>0≤g1.1∧0≤g1.2∧jv g1.1 g1.2=jv a_ b_) (fun (g1:(Int×Int))=>g1.2.toNat) ?_ ?_
 ·intro aj g1 dQ bS;obtain ⟨dG,bE,bG⟩:=dQ;unfold MH;refine wi (fun c1=>?_) (fun c1=>?_)
  ·refine wn ?_;refine bS _ ?_ ?_
   ·(refine ⟨ob,Int.tmod_nonneg _ om,?_⟩; dsimp only; rw [← bG]; exact aey om om)
   ·(dsimp only; have:=Tc g1.1 g1.2 om; have:=Int.tmod_nonneg (a:=g1.1) g1.2 om; omega)
  ·refine av ?_;(rw [← bG]; unfold jv; have e:g1.2=0:=c1; rw [e]; simp; omega)
 ·exact ob
theorem CS {r_:bI}:W (uM r_) (fun r=>r=pz r_):=by
 unfold uM;refine aH (gX fun hc=>mG (zB (by have hc:=nr hc; omega) (by have hc:=nr hc; omega))) fun v1 hv1=>?_;subst v1;refine av ?_;rfl
theorem aaA {Po:Int} {Za:Int} {pK:Int} (h1:0≤Po) (h2:Po≤144115188075855872) (h3:1≤Za) (h4:Za≤16777216) (h5:1≤pK) (h6:pK≤64):W (EU Po Za pK) (fun r=>r=(Po.tdiv (jv Po pK),Za*pK.tdiv (jv Po pK))):=by
 unfold EU;refine aH (zB ob ob) fun v1 hv1=>?_;subst v1;have hg:=Ai Po pK om; have q1:=tdiv_le Po _ om hg; have q2:=tdiv_le pK _ om hg; have q3:=Vl q2.1 (show pK.tdiv (jv Po pK)≤64 by omega) (show 0≤Za by omega) h4;refine wm ?_;refine wn ?_;refine av ?_;rfl
theorem Zv {wE:Int} {wF:Int} (h1:wE≤4611686018427387904) (h2:wF≤4611686018427387904):W (MI wE wF) (fun r=>r=newR wE wF):=by
 unfold MI;refine bV (fun c1=>?_) (fun c1=>?_)
 ·have fU:=c1;have c1:=nr c1;refine av ?_;(unfold newR; rw [fU]; rfl)
 ·have fU:=c1;have c1:=nr c1;have hg:=Ai wE wF om; have q1:=tdiv_le wE _ om hg; have q2:=tdiv_le wF _ om hg;refine aH (zB ob ob) fun v1 hv1=>?_;subst v1;refine wm ?_;refine aH (CS) fun v2 hv2=>?_;subst v2;refine bV (fun c2=>?_) (fun c2=>?_)
  ·have jT:=c2;have c2:=nr c2;refine av ?_;(unfold newR; rw [fU]; simp only [cond_false]; rw [jT]; rfl)
  ·have jT:=c2;have c2:=nr c2;refine av ?_;(unfold newR; rw [fU]; simp only [cond_false]; rw [jT]; rfl)
theorem aaB {r_:bI} {k_:Int} {oP:Int} {oQ:Int} {oU:Int} (h1:r_.jW=oP) (h2:r_.jq=oQ) (h3:k_=oU):W (EW r_ k_ oP oQ oU) (fun r=>r=Aj r_ k_):=by
 subst h1 h2 h3;unfold EW;refine aH (CS) fun v1 hv1=>?_;subst v1;refine bV (fun c1=>?_) (fun c1=>?_)
 ·have fU:=c1;have c1:=nr c1;refine av ?_;(unfold Aj; rw [fU]; rfl)
 ·have fU:=c1;have c1:=nr c1;have hv:=l9 (r:=r_) (by simpa using fU);refine wi (fun c2=>?_) (fun c2=>?_)
  ·refine av ?_;(unfold Aj wY; rw [fU]; simp only [cond_false]; rw [show (!(decide (1≤k_)&&decide (k_≤64)))=true by simp; omega]; rfl)
  ·refine aH (aaA ob ob ob ob ob ob) fun v2 hv2=>?_;subst v2;have hg:=Ai r_.jW k_ om; have q1:=tdiv_le r_.jW _ hv.1 hg; have q2:=tdiv_le k_ _ om hg; have q3:=Vl q2.1 (show k_.tdiv (jv r_.jW k_)≤64 by omega) (show 0≤r_.jq by omega) hv.2.2.2.1;refine aH (Zv ob ob) fun v3 hv3=>?_;subst v3;refine av ?_;(unfold Aj wY; rw [fU]; simp only [cond_false]; rw [show (!(decide (1≤k_)&&decide (k_≤64)))=false by simp; omega]; exact ain _ _ _ hv.1 om om)
theorem WU {r_:bI} {k_:Int}:W (He r_ k_) (fun r=>r=Aj r_ k_):=by
 unfold He;refine aH (aaB rfl rfl rfl) fun v1 hv1=>?_;subst v1;refine av ?_;rfl
theorem Zw {iM:Int} {AJ:Int} {uN:Int} (h1:1≤iM) (h2:iM≤64) (h3:0≤AJ) (h4:AJ≤144115188075855872) (h5:1≤uN) (h6:uN≤16777216):W (Cg iM AJ uN) (fun r=>r=(bif decide ((144115188075855872:Int).tdiv (iM.tdiv (jv iM uN))<AJ) then (-1,1) else (AJ*(iM.tdiv (jv iM uN)),uN.tdiv (jv iM uN)))):=by
 unfold Cg;refine aH (zB ob ob) fun v1 hv1=>?_;subst v1;have hg:=Ai iM uN om; have q1:=tdiv_le iM _ om hg; have q2:=tdiv_le uN _ om hg; have q4:=aoU iM uN om om; have q5:=tdiv_le 144115188075855872 _ om (show 0<iM.tdiv (jv iM uN) by omega);refine wm ?_;refine bV (fun c1=>?_) (fun c1=>?_)
 ·have fU:=c1;have c1:=nr c1;refine av ?_;(rw [fU]; rfl)
 ·have fU:=c1;have c1:=nr c1;have q3:=Zu (x:=AJ) (M:=144115188075855872) (e:=iM.tdiv (jv iM uN)) om om om c1;refine wm ?_;refine wn ?_;refine av ?_;(rw [fU]; rfl)
theorem Vm {r_:bI} {k_:Int} {oP:Int} {oQ:Int} {oU:Int} (h1:k_=oP) (h2:r_.jW=oQ) (h3:r_.jq=oU):W (wG r_ k_ oP oQ oU) (fun r=>r=qw r_ k_):=by
 subst h1 h2 h3;unfold wG;refine aH (CS) fun v1 hv1=>?_;subst v1;refine bV (fun c1=>?_) (fun c1=>?_)
 ·have fU:=c1;have c1:=nr c1;refine av ?_;(unfold qw; rw [fU]; rfl)
 ·have fU:=c1;have c1:=nr c1;have hv:=l9 (r:=r_) (by simpa using fU);refine wi (fun c2=>?_) (fun c2=>?_)
  ·refine av ?_;(unfold qw wY; rw [fU]; simp only [cond_false]; rw [show (!(decide (1≤k_)&&decide (k_≤64)))=true by simp; omega]; rfl)
  ·refine aH (Zw ob ob ob ob ob ob) fun v2 hv2=>?_;subst v2;have hg:=Ai k_ r_.jq om; have q1:=tdiv_le k_ _ om hg; have q2:=tdiv_le r_.jq _ om hg; have q4:=aoU k_ r_.jq om om; have q3:=Vl (show 0≤k_.tdiv (jv k_ r_.jq) by omega) q4.2 hv.1 hv.2.1; have q6:∀M:Int,M.tdiv (k_.tdiv (jv k_ r_.jq))<r_.jW∨r_.jW≤M.tdiv (k_.tdiv (jv k_ r_.jq)):=fun M=>by omega
   refine aH (Zv (by cases hd:decide ((144115188075855872:Int).tdiv (k_.tdiv (jv k_ r_.jq))<r_.jW) with | true=>(simp only [cond_true]; omega) | false=>(have q7:=Zu (x:=r_.jW) (M:=144115188075855872) (e:=k_.tdiv (jv k_ r_.jq)) om om om (by have:=of_decide_eq_false hd; omega); simp only [cond_false]; omega)) (by cases hd:decide ((144115188075855872:Int).tdiv (k_.tdiv (jv k_ r_.jq))<r_.jW) with | true=>(simp only [cond_true]; omega) | false=>(have q7:=Zu (x:=r_.jW) (M:=144115188075855872) (e:=k_.tdiv (jv k_ r_.jq)) om om om (by have:=of_decide_eq_false hd; omega); simp only [cond_false]; omega))) fun v3 hv3=>?_;subst v3;refine av ?_;(unfold qw wY; rw [fU]; simp only [cond_false]; rw [show (!(decide (1≤k_)&&decide (k_≤64)))=false by simp; omega]; simp only [cond_false]; cases hd:decide ((144115188075855872:Int).tdiv (k_.tdiv (jv k_ r_.jq))<r_.jW)<;>rfl)
theorem Tf {r_:bI} {k_:Int}:W (Dr r_ k_) (fun r=>r=qw r_ k_):=by
 unfold Dr;refine aH (Vm rfl rfl rfl) fun v1 hv1=>?_;subst v1;refine av ?_;rfl
theorem Gd {r_:bI} {Ch:Int} {nV:Int}:W (vk r_ Ch nV) (fun r=>r=nO r_ Ch nV):=by
 unfold vk;refine aH (CS) fun v1 hv1=>?_;subst v1;refine bV (fun c1=>?_) (fun c1=>?_)
 ·have fU:=c1;have c1:=nr c1;refine av ?_;(unfold nO; rw [show pz r_=false by simpa using fU]; rfl)
 ·have fU:=c1;have c1:=nr c1;have hv:=l9 (r:=r_) (by simpa using fU); have q1:=tdiv_le r_.jW r_.jq hv.1 om;refine wm ?_;refine av ?_;(unfold nO; rw [show pz r_=true by simpa using fU]; rfl)
theorem Il {l:List aI} {m:List bK} (h:kY l m=true):∀x∈m,Lv l.length x=false:=fun x hx=>by
 obtain ⟨_,_,h1⟩:=xg h;obtain ⟨i,hi,rfl⟩:=List.mem_iff_getElem.1 hx;have:=h1 i hi;rwa [List.getD_eq_getElem?_getD,List.getElem?_eq_getElem hi] at this
theorem qm {l:List aI} {s:List Int} {i:Nat} {v:bI} {L:List bI} (hL:L=qx l s i++List.replicate (l.length - i) dV) (hi:i<l.length) (e:WS (qx l s i) (l.getD i aJ) (s.getD i 0)=v) {k:Nat} (hk:k=i+1:=by omega):L.set i v=qx l s k++List.replicate (l.length - k) dV:=by
 subst hk hL;have hrl:=rE l s i;have hrep:List.replicate (l.length - i) dV=dV::List.replicate (l.length - (i+1)) dV:=by
  rw [show l.length - i=(l.length - (i+1))+1 by omega];rfl
 rw [hrep,List.set_append_right _ _ om,hrl,Nat.sub_self,qx,e,List.append_assoc];rfl
theorem Vn {x_:bK} {pK:(List aI)} (h1:pK.length≤2000000):W (qP x_ pK) (fun r=>r=Lv pK.length x_):=by
 unfold qP;refine wn ?_;refine aH (Ca (jQ _ _ _)) fun v1 hv1=>?_;subst v1;refine aH (gX fun hc=>jQ _ _ _) fun v2 hv2=>?_;subst v2;refine aH (gX fun hc=>jQ _ _ _) fun v3 hv3=>?_;subst v3;refine av ?_;rfl
theorem yP {s_:(List bK)} {f_:(List aI)} (h1:s_.length≤2000000) (h2:f_.length≤2000000):W (lI s_ f_) (fun r=>r=s_.any (Lv f_.length)):=
 Ca (Qt (Ta (p:=fun x=>qP x f_) (P:=Lv f_.length) (fun x hx=>mG (Vn h2)) om) (tO _ _))
theorem NI {l_:(List aI)} {m_:(List bK)} (h1:l_.length≤2000000) (h2:m_.length≤2000000):W (wC l_ m_) (fun r=>r=kY l_ m_):=by
 unfold wC;refine aH (Ca (tQ ob)) fun v1 hv1=>?_;subst v1;refine aH (gX fun hc=>mG (yP ob ob)) fun v2 hv2=>?_;subst v2;refine av ?_;rfl
theorem Ba {l_:(List aI)} {s_:(List Int)} (h1:l_.length≤2000000) (h2:s_.length≤2000000) (h3:aer l_):W (qj l_ s_) (fun r=>r=kD l_ s_):=by
 unfold qj;refine bV (fun c1=>?_) (fun c1=>?_)
 ·have fU:=c1;have c1:=nr c1;refine av ?_;(unfold kD; rw [show ((s_.length:Int)==(l_.length:Int))=false by simpa using fU]; rfl)
 ·have fU:=c1;have c1:=nr c1;have he:((s_.length:Int)==(l_.length:Int))=true:=by simpa using fU
  refine bF (fun (g1:Int)=>0≤g1∧g1≤s_.length∧(∀j:Nat,(j:Int)<g1→dJ (s_.getD j 0) 0 ((l_.getD j aJ).aM.length - 1)=true)) (fun (g1:Int)=>(s_.length - g1).toNat) ?_ ?_
  ·intro aj g1 dQ bS;obtain ⟨dG,bE,bG⟩:=dQ;unfold G9;refine wi (fun c2=>?_) (fun c2=>?_)
   ·have hch:=h3 g1.toNat om;refine wm ?_;refine wn ?_;refine aH (Ca (jQ _ _ _)) fun v3 hv3=>?_;subst v3;refine bV (fun c3=>?_) (fun c3=>?_)
    ·have jI:=c3;have c3:=nr c3;refine av ?_;(unfold kD; rw [he,w9 (i:=g1.toNat) om (by simpa using jI)]; rfl)
    ·have jI:=c3;have c3:=nr c3;refine wn ?_;refine bS _ ?_ ?_
     ·(refine ⟨ob,ob,fun j hj=>?_⟩; by_cases q:j<g1.toNat; (exact bG j om); (have e:j=g1.toNat:=by omega); subst e; simpa using jI)
     ·exact ob
   ·refine av ?_;(unfold kD; rw [he,zA fun j hj=>bG j om]; rfl)
  ·(refine ⟨ob,ob,fun j hj=>by omega⟩)
theorem NJ {l_:(List aI)} {s_:(List Int)} {jC:Int} (h1:0≤jC) (h2:jC<l_.length) (h3:jC<s_.length) (h4:Zr (l_.getD jC.toNat aJ) (s_.getD jC.toNat 0)):W (wD l_ s_ jC) (fun r=>r=jZ (l_.getD jC.toNat aJ) (s_.getD jC.toNat 0)):=by
 have hp:=h4; unfold Zr at hp;unfold wD;refine wn ?_;refine bV (fun c1=>?_) (fun c1=>?_)
 ·have fU:=c1;have c1:=nr c1;refine av ?_;(unfold jZ; rw [fU]; rfl)
 ·have fU:=c1;have c1:=nr c1;refine bV (fun c2=>?_) (fun c2=>?_)
  ·have jT:=c2;have c2:=nr c2;refine wm ?_;refine wn ?_;refine av ?_;(unfold jZ; rw [fU,jT]; rfl)
  ·have jT:=c2;have c2:=nr c2;refine wn ?_;refine av ?_;(unfold jZ; rw [fU,jT]; rfl)
theorem Qv {l_:(List aI)} {s_:(List Int)} (h1:Good l_ s_):W (EX l_ s_) (fun r=>r=gD l_ s_):=by
 obtain ⟨q1,q2,q3,q4,q5⟩:=h1;unfold EX;refine wn ?_;refine bF (fun (g1:(Int×(List bI)))=>0≤g1.1∧g1.1≤l_.length∧g1.2=qx l_ s_ g1.1.toNat++List.replicate (l_.length - g1.1.toNat) dV) (fun (g1:(Int×(List bI)))=>(l_.length - g1.1).toNat) ?_ ?_
 ·intro aj g1 dQ bS;obtain ⟨dG,bE,bG⟩:=dQ;unfold MJ;refine wi (fun c1=>?_) (fun c1=>?_)
  ·have hlt:g1.1.toNat<l_.length:=om; have hch:=q3 _ hlt; have hpar:=q5 _ hlt; have hpc:=q4 _ hlt; have hrl:=rE l_ s_ g1.1.toNat; have hgl:g1.2.length=l_.length:=(by rw [bG,List.length_append,hrl,List.length_replicate]; omega);refine wm ?_;refine wn ?_;refine aH (NJ ob ob ob ob) fun v7 hv7=>?_;subst v7;refine bV (fun c2=>?_) (fun c2=>?_)
   ·have jT:=c2;have c2:=nr c2;refine wm ?_;refine bS _ ?_ ?_
    ·(refine ⟨ob,ob,?_⟩; dsimp only; exact qm bG om (by unfold WS; rw [jT]; rfl))
    ·exact ob
   ·have jT:=c2;have c2:=nr c2;have hget:g1.2.getD (jZ (l_.getD g1.1.toNat aJ) (s_.getD g1.1.toNat 0)).toNat dV=(qx l_ s_ g1.1.toNat).getD (jZ (l_.getD g1.1.toNat aJ) (s_.getD g1.1.toNat 0)).toNat dV:=by rw [bG]; exact jr _ om
    refine wn ?_;refine bV (fun c3=>?_) (fun c3=>?_)
    ·have jI:=c3;have c3:=nr c3;refine wm ?_;refine bS _ ?_ ?_
     ·(refine ⟨ob,ob,?_⟩; dsimp only; exact qm bG om (by unfold WS; rw [jT,← hget,show (ni _||_)=true from jI]; rfl))
     ·exact ob
    ·have jI:=c3;have c3:=nr c3;refine bV (fun c4=>?_) (fun c4=>?_)
     ·have rZ:=c4;have c4:=nr c4;refine wn ?_;refine aH (WU) fun v8 CU=>?_;subst v8;refine wm ?_;refine bS _ ?_ ?_
      ·(refine ⟨ob,ob,?_⟩; dsimp only; exact qm bG om (by unfold WS; rw [jT,← hget,show (ni _||_)=false from jI,rZ]; rfl))
      ·exact ob
     ·have rZ:=c4;have c4:=nr c4;refine bV (fun c5=>?_) (fun c5=>?_)
      ·have CV:=c5;have c5:=nr c5;refine wn ?_;refine aH (Tf) fun v9 hv9=>?_;subst v9;refine wm ?_;refine bS _ ?_ ?_
       ·(refine ⟨ob,ob,?_⟩; dsimp only; exact qm bG om (by unfold WS; rw [jT,← hget,show (ni _||_)=false from jI,rZ,CV]; rfl))
       ·exact ob
      ·have CV:=c5;have c5:=nr c5;refine wm ?_;refine wn ?_;refine bS _ ?_ ?_
       ·(refine ⟨ob,ob,?_⟩; dsimp only; exact qm bG om (by unfold WS; rw [jT,← hget,show (ni _||_)=false from jI,rZ,CV]; rfl))
       ·exact ob
  ·refine av ?_;(rw [bG,show g1.1.toNat=l_.length by omega,Nat.sub_self]; simp [gD])
 ·(refine ⟨ob,ob,?_⟩; simp [qx])
theorem Xt {x_:bK} {pK:(List bI)} (h1:0≤x_.eU) (h2:x_.eU<pK.length):W (tK x_ pK) (fun r=>r=Rn pK x_):=by
 unfold tK;refine wm ?_;refine aH (gX fun hc=>mG (Gd)) fun v1 hv1=>?_;subst v1;refine av ?_;rfl
theorem vO {s_:(List bK)} {f_:(List bI)} (h1:s_.length≤2000000) (h2:∀x∈s_,0≤x.eU∧x.eU<f_.length):W (jY s_ f_) (fun r=>r=s_.any (Rn f_)):=
 Ca (Qt (Ta (p:=fun x=>tK x f_) (P:=Rn f_) (fun x hx=>mG (Xt (h2 x hx).1 (h2 x hx).2)) om) (tO _ _))
theorem aaD {l_:(List aI)} {s_:(List Int)} {m_:(List bK)} (h1:l_.length≤2000000) (h2:s_.length≤2000000) (h3:m_.length≤2000000) (h4:aer l_):W (E9 l_ s_ m_) (fun r=>r=fq l_ s_ m_):=by
 unfold E9;refine aH (NI ob ob) fun v1 hv1=>?_;subst v1;refine aH (gX fun hc=>mG (Ba ob ob ob)) fun v2 hv2=>?_;subst v2;refine bV (fun c1=>?_) (fun c1=>?_)
 ·have fU:=c1;have c1:=nr c1;refine av ?_;(unfold fq; rw [show (kY l_ m_&&kD l_ s_)=false from Bool.and_eq_false_iff.2 c1]; rfl)
 ·have fU:=c1;have c1:=nr c1;have hls:kY l_ m_=true∧kD l_ s_=true:=by simpa using fU
  obtain ⟨hck,hml,hmb⟩:=xg hls.1;have hgd:=O5 (uz hck) hls.2;have hrl:(gD l_ s_).length=l_.length:=rE _ _ _;refine aH (Qv ob) fun v3 hv3=>?_;subst v3;refine bF (fun (g1:Int)=>0≤g1∧g1≤l_.length∧(∀j:Nat,(j:Int)<g1→acJ ((gD l_ s_).getD j dV) (l_.getD j aJ)=false)) (fun (g1:Int)=>(l_.length - g1).toNat) ?_ ?_
  ·intro aj g1 dQ bS;obtain ⟨dG,bE,bG⟩:=dQ;unfold MS;refine wi (fun c2=>?_) (fun c2=>?_)
   ·refine wm ?_;refine wn ?_;refine aH (gX fun hc=>mG (Gd)) fun v6 hv6=>?_;subst v6;refine bV (fun c3=>?_) (fun c3=>?_)
    ·have jI:=c3;have c3:=nr c3;refine av ?_;(unfold fq; rw [hls.1,hls.2,show ownB l_ (gD l_ s_)=false from w9 (i:=g1.toNat) om (by rw [show acJ ((gD l_ s_).getD g1.toNat dV) (l_.getD g1.toNat aJ)=true from jI]; rfl)]; rfl)
    ·have jI:=c3;have c3:=nr c3;refine wn ?_;refine bS _ ?_ ?_
     ·(refine ⟨ob,ob,fun j hj=>?_⟩; by_cases q:j<g1.toNat; (exact bG j om); (have e:j=g1.toNat:=by omega); subst e; exact jI)
     ·exact ob
   ·refine aH (vO ob (fun x hx=>by rw [hrl]; exact (NH (Il hls.1 x hx)).1)) fun v7 hv7=>?_;subst v7;refine av ?_;(unfold fq; rw [hls.1,hls.2,show ownB l_ (gD l_ s_)=true from zA fun j hj=>by rw [bG j om]; rfl]; rfl)
  ·(refine ⟨ob,ob,fun j hj=>by omega⟩)
theorem aaE {l_:(List aI)} {s_:(List Int)} (h1:l_.length≤2000000) (h2:s_.length≤2000000) (h3:aer l_):W (EY l_ s_) (fun r=>r=uU l_ s_):=by
 unfold EY;refine aH (Ca (tQ ob)) fun v1 hv1=>?_;subst v1;refine bV (fun c1=>?_) (fun c1=>?_)
 ·have fU:=c1;have c1:=nr c1;refine av ?_;(unfold uU; rw [fU]; rfl)
 ·have fU:=c1;have c1:=nr c1;have hck:eF l_=0:=by simpa using fU
  refine aH (Ba ob ob ob) fun v2 hv2=>?_;subst v2;refine bV (fun c2=>?_) (fun c2=>?_)
  ·have jT:=c2;have c2:=nr c2;refine av ?_;(unfold uU; rw [fU,jT]; rfl)
  ·have jT:=c2;have c2:=nr c2;have hgd:=O5 (uz hck) (show kD l_ s_=true by simpa using jT);refine aH (Qv ob) fun v3 hv3=>?_;subst v3;refine av ?_;(unfold uU; rw [fU,jT]; rfl)
end Go.Proofs.YtccjmcmolnbiiaaGreatDoor

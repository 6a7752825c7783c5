/- An abstract machine over the model's code, that it is sound; models of the functions and their proofs. -/
import Derived.Test.YtccjmcmolnbiiaaGreatDoorA3
import Derived.Test.YtccjmcmolnbiiaaGreatDoorA4
set_option linter.unusedVariables false
set_option linter.unusedSimpArgs false
namespace Go.Ab
def Py {α:Type} (l:List α) (P:α→Bool):Int:=if l.any P then ((l.findIdx P:Nat):Int) else -1
theorem oW {α:Type} (l:List α) (P:α→Bool):decide (0≤Py l P)=l.any P:=by
 unfold Py;cases l.any P<;>simp<;>omega
theorem Xj {α:Type} {l:List α} {P:α→Bool} {d:α} {i:Nat} (hi:i<l.length) (h:P (l.getD i d)=true):l.any P=true:=by
 rw [List.any_eq_true];refine ⟨l[i],List.getElem_mem hi,?_⟩;rw [List.getD_eq_getElem?_getD,List.getElem?_eq_getElem hi] at h;exact h
theorem any_take_succ {α:Type} (l:List α) (P:α→Bool) (d:α) {i:Nat} (hi:i<l.length):(l.take (i+1)).any P=((l.take i).any P||P (l.getD i d)):=by
 rw [List.take_add_one,List.any_append,List.getElem?_eq_getElem hi,List.getD_eq_getElem?_getD,List.getElem?_eq_getElem hi];simp
theorem Vi {α:Type} {l:List α} {P:α→Bool} {d:α} {g:Int} (h0:0≤g) (h1:g<l.length) (hb:(l.take g.toNat).any P=false) (hp:P (l.getD g.toNat d)=true):Py l P=g:=by
 have hi:g.toNat<l.length:=by omega
 unfold Py;rw [Xj hi hp,if_pos rfl];have:l.findIdx P=g.toNat:=by
  rw [List.findIdx_eq hi];constructor
  ·rw [List.getD_eq_getElem?_getD,List.getElem?_eq_getElem hi] at hp;exact hp
  ·intro j hj;have:=List.any_eq_false.1 hb (l[j]'om) (by
    rw [List.mem_take_iff_getElem]
    exact ⟨j,om,rfl⟩)
   simpa using this
 omega
theorem KY {α:Type} {l:List α} {d:α} {p:α→M Bool} {P:α→Bool} (hp:∀x∈l,p x (P x)) (hl:(l.length:Int)≤9223372036854775807):W (bW (fun (self:Int→M Int) g=>bif (decide (g<(l.length:Int))) then
  need (0≤g∧g<(l.length:Int))<|
  bnd (p (l.getD g.toNat d)) fun v3=>
  bif v3 then
   ret g
  else
   need (InI64 (g+(1:Int)))<|
   self (g+(1:Int))
 else
  ret (-1:Int)) (0:Int)) (fun r=>r=Py l P):=by
 refine bq (fun (g:Int)=>0≤g∧g≤l.length∧(l.take g.toNat).any P=false) (fun (g:Int)=>(l.length - g).toNat) ?_ ⟨om,om,by simp⟩;intro self g ⟨h0,h1,hb⟩ ih;refine bF (fun c=>?_) (fun c=>?_)
 ·have c:=of_decide_eq_true c;refine aM ⟨h0,c⟩ ?_;have hi:g.toNat<l.length:=by omega
  have hm:l.getD g.toNat d∈l:=by
   rw [List.getD_eq_getElem?_getD,List.getElem?_eq_getElem hi];exact List.getElem_mem hi
  refine aF (uR (hp _ hm)) fun v hv=>?_;subst hv;refine bF (fun c2=>?_) (fun c2=>?_)
  ·exact au (Vi h0 c hb c2).symm
  ·refine aM (by unfold InI64; omega) ?_;refine ih _ ⟨om,om,?_⟩ om;rw [show (g+1).toNat=g.toNat+1 by omega,any_take_succ l P d hi,hb,c2];rfl
 ·have c:=of_decide_eq_false c;refine au ?_;unfold Py;rw [show g.toNat=l.length by omega,List.take_length] at hb;rw [hb];rfl
theorem Sd {α:Type} {l:List α} {d:α} {P:α→Bool} (hl:(l.length:Int)≤9223372036854775807):W (bW (fun (self:Int→M Int) g=>bif (decide (g<(l.length:Int))) then
  need (0≤g∧g<(l.length:Int))<|
  bif (P (l.getD g.toNat d)) then
   ret g
  else
   need (InI64 (g+(1:Int)))<|
   self (g+(1:Int))
 else
  ret (-1:Int)) (0:Int)) (fun r=>r=Py l P):=by
 refine bq (fun (g:Int)=>0≤g∧g≤l.length∧(l.take g.toNat).any P=false) (fun (g:Int)=>(l.length - g).toNat) ?_ ⟨om,om,by simp⟩;intro self g ⟨h0,h1,hb⟩ ih;refine bF (fun c=>?_) (fun c=>?_)
 ·have c:=of_decide_eq_true c;refine aM ⟨h0,c⟩ ?_;have hi:g.toNat<l.length:=by omega
  refine bF (fun c2=>?_) (fun c2=>?_)
  ·exact au (Vi h0 c hb c2).symm
  ·refine aM (by unfold InI64; omega) ?_;refine ih _ ⟨om,om,?_⟩ om;rw [show (g+1).toNat=g.toNat+1 by omega,any_take_succ l P d hi,hb,c2];rfl
 ·have c:=of_decide_eq_false c;refine au ?_;unfold Py;rw [show g.toNat=l.length by omega,List.take_length] at hb;rw [hb];rfl
theorem JJ {m:M Int} {v:Int} {b:Bool} (h:W m (fun r=>r=v)) (hb:decide (0≤v)=b):bnd m (fun v1=>ret (decide ((0:Int)≤v1))) b:=by
 refine jT (aF h fun v1 h1=>au ?_);subst h1;exact hb
theorem fP {A:Type} [Inhabited A] {c:Prop} {d:Decidable c} {m:M A} {v:A} (h:c→m v):W (grd c m) (fun r=>r=v):=⟨v,h,rfl⟩
theorem Xk {R:Type} {F:(Int→M R)→Int→M R} {Q:R→Prop} (n:Nat) (inv:Nat→Prop) (h:∀(self:Int→M R) (i:Nat),i≤n→inv i→(i<n→inv (i+1)→W (self ((i:Int)+1)) Q)→W (F self (i:Int)) Q) (h0:inv 0):W (bW F (0:Int)) Q:=by
 refine bq (fun (g:Int)=>∃i:Nat,g=i∧i≤n∧inv i) (fun (g:Int)=>(n - g).toNat) ?_ ⟨0,rfl,Nat.zero_le _,h0⟩;rintro self g ⟨i,rfl,hi,hv⟩ ih;refine h self i hi hv fun h1 h2=>?_;exact ih _ ⟨i+1,by simp,h1,h2⟩ om
theorem Xl {σ R:Type} {len:Nat} {B:Nat→(σ→M R)→σ→M R} {fin:σ→M R} {Q:R→Prop} (inv:Nat→σ→Prop) (h:∀(k:Nat) (self:σ→M R) (s:σ),k<len→inv k s→(∀s',inv (k+1) s'→W (self s') Q)→W (B k self s) Q) (hf:∀s,inv len s→W (fin s) Q) {s:σ} (h0:inv 0 s):W (QL len B fin len s) Q:=by
 have key:∀j s,j≤len→inv (len - j) s→W (QL len B fin j s) Q:=by
  intro j;induction j with
  | zero=>intro s _ hi; exact hf s hi
  | succ j ih=>
   intro s hj hi;refine h (len - (j+1)) _ s om hi fun s' hs=>ih s' om ?_;rwa [show len - (j+1)+1=len - j by omega] at hs
 exact key len s (Nat.le_refl _) (by rw [Nat.sub_self]; exact h0)
theorem nr {p q : Prop} (h : p) (e : p = q := by (try simp only [Bool.and_eq_true, Bool.or_eq_true, Bool.and_eq_false_iff, Bool.or_eq_false_iff, decide_eq_true_eq, decide_eq_false_iff_not, Bool.not_eq_true', Bool.not_eq_false', beq_iff_eq, bne_iff_ne, ne_eq, beq_eq_false_iff_ne, bne_eq_false_iff_eq, Int.not_lt, Int.not_le, Bool.not_eq_true, Bool.not_eq_false]); try rfl) : q := e ▸ h
theorem ob {p : Prop} (h : p := by
  intros; (try dsimp only); first
  | omega
  | assumption
  | trivial
  | (simp only [InI64, big, gM, List.length_take, List.length_drop, List.length_append, List.length_cons, List.length_nil, List.length_set, List.length_replicate, List.length_map, List.length_range]; omega)
  | (simp only [InI64, big, List.length_take, List.length_drop, List.length_append, List.length_cons, List.length_nil, List.length_set, List.length_replicate] at *; omega)
  | (rw [Int.tmod_eq_emod_of_nonneg (by omega)]; (try simp only [List.length_cons, List.length_nil]); omega)
  | (repeat' apply And.intro) <;> first
    | omega
    | assumption
    | trivial
    | (simp only [InI64, big, gM, List.length_take, List.length_drop, List.length_append, List.length_cons, List.length_nil, List.length_set, List.length_replicate, List.length_map, List.length_range]; omega)
    | (simp only [InI64, big, List.length_take, List.length_drop, List.length_append, List.length_cons, List.length_nil, List.length_set, List.length_replicate] at *; omega)
    | (rw [Int.tmod_eq_emod_of_nonneg (by omega)]; (try simp only [List.length_cons, List.length_nil]); omega)
    | ((simp only [List.forall_mem_append, List.forall_mem_singleton, List.forall_mem_cons, List.not_mem_nil, false_implies, implies_true, and_true]); done)
    | ((simp only [List.forall_mem_append, List.forall_mem_singleton, List.forall_mem_cons, List.not_mem_nil, false_implies, implies_true, and_true]); (repeat' apply And.intro) <;> first | omega | assumption | trivial | (simp only [InI64, big, List.length_take, List.length_drop, List.length_append, List.length_cons, List.length_nil, List.length_set, List.length_replicate] at *; omega))
    | (simp_all; done)
    | (simp_all; omega)) : p := h
theorem wi {R : Type} {b : Bool} {p q : Prop} {x y : M R} {Q : R → Prop} (h1 : p → W x Q) (h2 : q → W y Q) (e1 : (b = true) = p := by (try simp only [Bool.and_eq_true, Bool.or_eq_true, Bool.and_eq_false_iff, Bool.or_eq_false_iff, decide_eq_true_eq, decide_eq_false_iff_not, Bool.not_eq_true', Bool.not_eq_false', beq_iff_eq, bne_iff_ne, ne_eq, beq_eq_false_iff_ne, bne_eq_false_iff_eq, Int.not_lt, Int.not_le, Bool.not_eq_true, Bool.not_eq_false]); try rfl) (e2 : (b = false) = q := by (try simp only [Bool.and_eq_true, Bool.or_eq_true, Bool.and_eq_false_iff, Bool.or_eq_false_iff, decide_eq_true_eq, decide_eq_false_iff_not, Bool.not_eq_true', Bool.not_eq_false', beq_iff_eq, bne_iff_ne, ne_eq, beq_eq_false_iff_ne, bne_eq_false_iff_eq, Int.not_lt, Int.not_le, Bool.not_eq_true, Bool.not_eq_false]); try rfl) : W (cond b x y) Q := bF (fun c => h1 (e1 ▸ c)) (fun c => h2 (e2 ▸ c))
theorem wn {R : Type} {p : Prop} {d : Decidable p} {m : M R} {Q : R → Prop} (h : W m Q) (hp : p := by exact ob) : W (need p m) Q := aM hp h
theorem wm {R : Type} {p p' : Prop} {d : Decidable p} {d' : Decidable p'} {m : M R} {Q : R → Prop} (h : W m Q) (hp : p := by exact ob) (hp' : p' := by exact ob) : W (need p (need p' m)) Q := aM hp (aM hp' h)
end Go.Ab
namespace Go.Proofs.YtccjmcmolnbiiaaGreatDoor
open Go.Ab
set_option maxRecDepth 100000
theorem KZ (x n:Int) (h:0<n) : -n<x.tmod n∧x.tmod n<n:=by
 have h1:=Int.natAbs_tmod x n;have h2:=Nat.mod_lt x.natAbs (show 0<n.natAbs by omega);omega
theorem TI:∀(k i:Nat) (g:Nat→AV) (s:ByteArray),(Dv k i g s).size=s.size+k:=by
 intro k;induction k with
 | zero=>intro i g s; rfl
 | succ k ih=>intro i g s; unfold Dv; rw [ih,ByteArray.size_push]; omega
theorem UL (l:List Int):(strOf l).size=l.length:=by
 unfold strOf;rw [TI];simp
theorem Sg {α:Type} {P:α→Prop} {l:List α} {i:Nat} {y:α} (h:∀x∈l,P x) (hy:P y):∀x∈l.set i y,P x:=fun x hx=>by
 rcases List.mem_or_eq_of_mem_set hx with e | e
 ·exact h x e
 ·subst e; exact hy
structure Yw (b:bf):Prop where
 ncl:b.bQ.length≤5
 cl:∀c∈b.bQ,c.aN.length≤2∧c.aK.length≤3
 nsu:b.bI.length≤3
 su:∀c∈b.bI,c.bN.length≤3
 ngr:b.aP.av.length≤5
 gr:∀c∈b.aP.av,c.bG.length≤10∧c.ak.length≤2
 nre:b.aY.length≤4
 re:∀c∈b.aY,c.dK.length≤100
 ndo:b.dh.length≤4
theorem getD_in {α:Type} {l:List α} {i:Nat} (d:α) (h:i<l.length):l.getD i d∈l:=by
 rw [List.getD_eq_getElem?_getD,List.getElem?_eq_getElem h];exact List.getElem_mem h
theorem TJ {l_:(List Int)}:W (IE l_) (fun r=>r.2=0∧r.1.length≤600):=by
 unfold IE;refine aM (by (split<;>omega)) ?_;refine au ?_;(simp only [List.length_take]; refine ⟨trivial,?_⟩; split<;>omega)
theorem TK {x_:Int} {n_:Int} (h1:n_≤2000000):W (IG x_ n_) (fun r=>0≤r∧(0<n_→r<n_)∧(n_<1→r=0)):=by
 unfold IG;refine wi (fun c1=>?_) (fun c1=>?_)
 ·refine au ?_;exact ob
 ·refine wn ?_;refine aM (by (have:=KZ x_ n_ om; unfold InI64; omega)) ?_;refine wn ?_;refine au ?_;(have h:=KZ x_ n_ om; have h2:=KZ (x_.tmod n_+n_) n_ om; have h3:=Int.tmod_nonneg (a:=x_.tmod n_+n_) n_ om; omega)
theorem bT {n_:Int} {dz:cu} (h1:n_≤2000000) (h2:0≤dz.At) (h3:dz.L.length≤600):W (dP n_ dz) (fun r=>0≤r.1∧(0<n_→r.1<n_)∧(n_<1→r.1=0)∧0≤r.2.At∧r.2.L.length≤600):=by
 unfold dP;refine wi (fun c1=>?_) (fun c1=>?_)
 ·refine au ?_;exact ob
 ·refine wm ?_;refine wn ?_;refine aF (TK ob) fun v1 hv1=>?_;obtain ⟨CV,AL,CW⟩:=hv1;refine au ?_;exact ob
theorem ku {qE:Int} {sD:Int} {dz:cu} (h1 : -2000000≤qE) (h2:sD≤100000) (h3:qE≤sD+1) (h4:sD - qE≤100000) (h5:0≤dz.At) (h6:dz.L.length≤600):W (iJ qE sD dz) (fun r=>qE≤r.1∧(qE≤sD→r.1≤sD)∧(sD<qE→r.1=qE)∧0≤r.2.At∧r.2.L.length≤600):=by
 unfold iJ;refine wm ?_;refine aF (bT ob ob ob) fun v1 hv1=>?_;obtain ⟨CV,AL,CW,Fp,G8⟩:=hv1;refine wn ?_;refine au ?_;exact ob
theorem eX {l_:(List Int)} {dz:cu} (h1:0<l_.length) (h2:l_.length≤1000) (h3:0≤dz.At) (h4:dz.L.length≤600):W (fQ l_ dz) (fun r=>(∃i:Nat,i<l_.length∧r.1=l_.getD i 0)∧0≤r.2.At∧r.2.L.length≤600):=by
 unfold fQ;refine aF (bT ob ob ob) fun v1 hv1=>?_;obtain ⟨CV,AL,CW,Fp,G8⟩:=hv1;refine wn ?_;refine au ?_;(exact ⟨⟨v1.1.toNat,om,rfl⟩,ob⟩)
theorem Ml {l_:(List ByteArray)} {dz:cu} (h1:0<l_.length) (h2:l_.length≤1000) (h3:0≤dz.At) (h4:dz.L.length≤600):W (rE l_ dz) (fun r=>(∃i:Nat,i<l_.length∧r.1=l_.getD i ByteArray.empty)∧0≤r.2.At∧r.2.L.length≤600):=by
 unfold rE;refine aF (bT ob ob ob) fun v1 hv1=>?_;obtain ⟨CV,AL,CW,Fp,G8⟩:=hv1;refine wn ?_;refine au ?_;(exact ⟨⟨v1.1.toNat,om,rfl⟩,ob⟩)
theorem iW:W (kX) (fun r=>r=[({ data:=#[117,97,114,116] }:ByteArray),({ data:=#[115,112,105] }:ByteArray),({ data:=#[105,50,99] }:ByteArray),({ data:=#[112,119,109] }:ByteArray)]):=by
 unfold kX;refine au ?_;rfl
theorem tT {n_:Int} {k_:Int} {dz:cu} (h1:0≤n_) (h2:n_≤1000) (h3:1≤k_) (h4:k_≤100) (h5:0≤dz.At) (h6:dz.L.length≤600):W (kQ n_ k_ dz) (fun r=>r.1.length≤n_.toNat∧(∀p∈r.1,0≤p∧p<n_)∧0≤r.2.At∧r.2.L.length≤600):=by
 unfold kQ;refine bq (fun (g1:(Int×(List Int)×Int×(List Int)))=>0≤g1.1∧g1.1≤n_∧0≤g1.2.2.1∧g1.2.1.length≤600∧(g1.2.2.2.length:Int)≤g1.1∧(∀p∈g1.2.2.2,0≤p∧p<n_)) (fun (g1:(Int×(List Int)×Int×(List Int)))=>(n_ - g1.1).toNat) ?_ ?_
 ·intro aj g1 dH bL;obtain ⟨cK,bC,bJ,ji,G9,Xm⟩:=dH;unfold Ak;refine wi (fun c1=>?_) (fun c1=>?_)
  ·refine aF (bT ob ob ob) fun v3 hv3=>?_;obtain ⟨Vj,TL,Xn,aaz,aek⟩:=hv3;refine wn ?_;refine wi (fun c2=>?_) (fun c2=>?_)
   ·refine wm ?_;refine bL _ ?_ ?_
    ·exact ob
    ·exact ob
   ·refine wn ?_;refine bL _ ?_ ?_
    ·exact ob
    ·exact ob
  ·refine au ?_;exact ob
 ·exact ob
theorem Ke {gQ:Int} {dz:cu} (h1:0≤gQ) (h2:gQ≤100) (h3:0≤dz.At) (h4:dz.L.length≤600):W (nU gQ dz) (fun r=>r.1.length≤gQ.toNat∧(∀x∈r.1,x.dK.length≤100)∧0≤r.2.At∧r.2.L.length≤600):=by
 unfold nU;refine wn ?_;refine aF (bT ob ob ob) fun v1 hv1=>?_;obtain ⟨CV,AL,CW,Fp,G8⟩:=hv1;refine bq (fun (g1:(Int×(List Int)×Int×(List dN)))=>0≤g1.1∧0≤g1.2.2.1∧g1.2.1.length≤600∧(g1.2.2.2.length:Int)+g1.1≤gQ∧(∀x∈g1.2.2.2,x.dK.length≤100)) (fun (g1:(Int×(List Int)×Int×(List dN)))=>g1.1.toNat) ?_ ?_
 ·intro aj g1 dH bL;obtain ⟨cK,bC,bJ,ji,G9⟩:=dH;unfold wP;refine wi (fun c1=>?_) (fun c1=>?_)
  ·refine aF (tT ob ob ob ob ob ob) fun v4 hv4=>?_;obtain ⟨Y1,Xo,Y2,aaA⟩:=hv4;refine wm ?_;refine bL _ ?_ ?_
   ·exact ob
   ·exact ob
  ·refine au ?_;exact ob
 ·exact ob
theorem I8 {gQ:Int} {dz:cu} (h1:0≤gQ) (h2:gQ≤50) (h3:0≤dz.At) (h4:dz.L.length≤600):W (mU gQ dz) (fun r=>r.1.length≤gQ.toNat∧0≤r.2.At∧r.2.L.length≤600):=by
 unfold mU;refine wn ?_;refine aF (bT ob ob ob) fun v1 hv1=>?_;obtain ⟨CV,AL,CW,Fp,G8⟩:=hv1;refine bq (fun (g1:(Int×(List Int)×Int×(List ByteArray)))=>0≤g1.1∧0≤g1.2.2.1∧g1.2.1.length≤600∧(g1.2.2.2.length:Int)+g1.1≤gQ) (fun (g1:(Int×(List Int)×Int×(List ByteArray)))=>g1.1.toNat) ?_ ?_
 ·intro aj g1 dH bL;obtain ⟨cK,bC,bJ,ji⟩:=dH;unfold uZ;refine wi (fun c1=>?_) (fun c1=>?_)
  ·refine aF (iW) fun v6 hv6=>?_;subst hv6;refine aF (Ml ob ob ob ob) fun v7 hv7=>?_;obtain ⟨aaB,aaC,aaD⟩:=hv7;refine wm ?_;refine bL _ ?_ ?_
   ·exact ob
   ·exact ob
  ·refine au ?_;exact ob
 ·exact ob
theorem I9 {gQ:Int} {dz:cu} (h1:0≤gQ) (h2:gQ≤50) (h3:0≤dz.At) (h4:dz.L.length≤600):W (mR gQ dz) (fun r=>r.1.length≤gQ.toNat∧0≤r.2.At∧r.2.L.length≤600):=by
 unfold mR;refine wn ?_;refine aF (bT ob ob ob) fun v1 hv1=>?_;obtain ⟨CV,AL,CW,Fp,G8⟩:=hv1;refine bq (fun (g1:(Int×(List Int)×Int×(List dx)))=>0≤g1.1∧0≤g1.2.2.1∧g1.2.1.length≤600∧(g1.2.2.2.length:Int)+g1.1≤gQ) (fun (g1:(Int×(List Int)×Int×(List dx)))=>g1.1.toNat) ?_ ?_
 ·intro aj g1 dH bL;obtain ⟨cK,bC,bJ,ji⟩:=dH;unfold uY;refine wi (fun c1=>?_) (fun c1=>?_)
  ·refine wn ?_;refine aF (ku ob ob ob ob ob ob) fun v6 hv6=>?_;obtain ⟨ael,aem,aen,aeo,aep⟩:=hv6;refine aF (bT ob ob ob) fun v7 hv7=>?_;obtain ⟨aaB,aaC,aaD,aer,aes⟩:=hv7;refine wm ?_;refine bL _ ?_ ?_
   ·exact ob
   ·exact ob
  ·refine au ?_;exact ob
 ·exact ob
theorem Kg {dz:cu} (h1:0≤dz.At) (h2:dz.L.length≤600):W (nS dz) (fun r=>r.1.length≤5∧(∀c∈r.1,c.aN.length≤2∧c.aK.length≤3)∧0≤r.2.At∧r.2.L.length≤600):=by
 unfold nS;refine aF (bT ob ob ob) fun v1 hv1=>?_;obtain ⟨CV,AL,CW,Fp,G8⟩:=hv1;refine bq (fun (g1:(Int×(List Int)×Int×(List aH)))=>0≤g1.1∧0≤g1.2.2.1∧g1.2.1.length≤600∧(g1.2.2.2.length:Int)+g1.1≤5∧(∀c∈g1.2.2.2,c.aN.length≤2∧c.aK.length≤3)) (fun (g1:(Int×(List Int)×Int×(List aH)))=>g1.1.toNat) ?_ ?_
 ·intro aj g1 dH bL;obtain ⟨cK,bC,bJ,ji,G9⟩:=dH;unfold wM;refine wi (fun c1=>?_) (fun c1=>?_)
  ·refine aF (eX ob ob ob ob) fun v28 hv28=>?_;obtain ⟨abx,aby,abz⟩:=hv28;refine wi (fun c2=>?_) (fun c2=>?_)
   ·refine aF (bT ob ob ob) fun v41 abA=>?_;obtain ⟨abB,abC,abD,abE,abF⟩:=abA;refine wi (fun c3=>?_) (fun c3=>?_)
    ·refine aF (bT ob ob ob) fun v42 abG=>?_;obtain ⟨abH,abI,abJ,abK,abL⟩:=abG;refine aF (bT ob ob ob) fun v49 UM=>?_;obtain ⟨Xp,Xq,Xr,Xt,Xu⟩:=UM;refine wi (fun c4=>?_) (fun c4=>?_)
     ·refine aF (eX ob ob ob ob) fun v50 Si=>?_;obtain ⟨abM,abN,abO⟩:=Si;unfold fA;refine aF (bT ob ob ob) fun v47 Sj=>?_;obtain ⟨Sk,Sl,Sm,Sn,Sq⟩:=Sj;refine wi (fun c5=>?_) (fun c5=>?_)
      ·refine aF (eX ob ob ob ob) fun v48 Pz=>?_;obtain ⟨Sr,Sv,Sw⟩:=Pz;unfold dS;refine wm ?_;refine bL _ ?_ ?_
       ·exact ob
       ·exact ob
      ·unfold dS;refine wm ?_;refine bL _ ?_ ?_
       ·exact ob
       ·exact ob
     ·refine wi (fun c6=>?_) (fun c6=>?_)
      ·refine aF (eX ob ob ob ob) fun v51 Zw=>?_;obtain ⟨abP,abQ,abR⟩:=Zw;unfold fA;refine aF (bT ob ob ob) fun v47 Sj=>?_;obtain ⟨Sk,Sl,Sm,Sn,Sq⟩:=Sj;refine wi (fun c7=>?_) (fun c7=>?_)
       ·refine aF (eX ob ob ob ob) fun v48 Pz=>?_;obtain ⟨Sr,Sv,Sw⟩:=Pz;unfold dS;refine wm ?_;refine bL _ ?_ ?_
        ·exact ob
        ·exact ob
       ·unfold dS;refine wm ?_;refine bL _ ?_ ?_
        ·exact ob
        ·exact ob
      ·refine wi (fun c8=>?_) (fun c8=>?_)
       ·unfold fA;refine aF (bT ob ob ob) fun v47 Sj=>?_;obtain ⟨Sk,Sl,Sm,Sn,Sq⟩:=Sj;refine wi (fun c9=>?_) (fun c9=>?_)
        ·refine aF (eX ob ob ob ob) fun v48 Pz=>?_;obtain ⟨Sr,Sv,Sw⟩:=Pz;unfold dS;refine wm ?_;refine bL _ ?_ ?_
         ·exact ob
         ·exact ob
        ·unfold dS;refine wm ?_;refine bL _ ?_ ?_
         ·exact ob
         ·exact ob
       ·refine wi (fun c10=>?_) (fun c10=>?_)
        ·refine wn ?_;refine aF (bT ob ob ob) fun v52 abS=>?_;obtain ⟨abT,abU,abV,abW,abX⟩:=abS;refine wn ?_;unfold fA;refine aF (bT ob ob ob) fun v47 Sj=>?_;obtain ⟨Sk,Sl,Sm,Sn,Sq⟩:=Sj;refine wi (fun c11=>?_) (fun c11=>?_)
         ·refine aF (eX ob ob ob ob) fun v48 Pz=>?_;obtain ⟨Sr,Sv,Sw⟩:=Pz;unfold dS;refine wm ?_;refine bL _ ?_ ?_
          ·exact ob
          ·exact ob
         ·unfold dS;refine wm ?_;refine bL _ ?_ ?_
          ·exact ob
          ·exact ob
        ·unfold fA;refine aF (bT ob ob ob) fun v47 Sj=>?_;obtain ⟨Sk,Sl,Sm,Sn,Sq⟩:=Sj;refine wi (fun c12=>?_) (fun c12=>?_)
         ·refine aF (eX ob ob ob ob) fun v48 Pz=>?_;obtain ⟨Sr,Sv,Sw⟩:=Pz;unfold dS;refine wm ?_;refine bL _ ?_ ?_
          ·exact ob
          ·exact ob
         ·unfold dS;refine wm ?_;refine bL _ ?_ ?_
          ·exact ob
          ·exact ob
    ·unfold dS;refine wm ?_;refine bL _ ?_ ?_
     ·exact ob
     ·exact ob
   ·refine wn ?_;unfold dS;refine wm ?_;refine bL _ ?_ ?_
    ·exact ob
    ·exact ob
  ·refine au ?_;exact ob
 ·exact ob
theorem He {dz:cu} (h1:0≤dz.At) (h2:dz.L.length≤600):W (lV dz) (fun r=>r.1.length≤3∧(∀c∈r.1,c.bN.length≤3)∧0≤r.2.At∧r.2.L.length≤600):=by
 unfold lV;refine aF (bT ob ob ob) fun v1 hv1=>?_;obtain ⟨CV,AL,CW,Fp,G8⟩:=hv1;refine bq (fun (g1:(Int×(List Int)×Int×(List aG)))=>0≤g1.1∧0≤g1.2.2.1∧g1.2.1.length≤600∧(g1.2.2.2.length:Int)+g1.1≤3∧(∀c∈g1.2.2.2,c.bN.length≤3)) (fun (g1:(Int×(List Int)×Int×(List aG)))=>g1.1.toNat) ?_ ?_
 ·intro aj g1 dH bL;obtain ⟨cK,bC,bJ,ji,G9⟩:=dH;unfold sS;refine wi (fun c1=>?_) (fun c1=>?_)
  ·refine wn ?_;refine aF (ku ob ob ob ob ob ob) fun v12 Ja=>?_;obtain ⟨abY,abZ,ab0,ab1,ab2⟩:=Ja;refine aF (eX ob ob ob ob) fun v13 QM=>?_;obtain ⟨ab3,ab4,ab5⟩:=QM;refine aF (eX ob ob ob ob) fun v14 QN=>?_;obtain ⟨ab6,ab7,ab8⟩:=QN;refine aF (bT ob ob ob) fun v15 Sy=>?_;obtain ⟨ab9,acd,ace,acf,acg⟩:=Sy;refine wi (fun c2=>?_) (fun c2=>?_)
   ·unfold iN;refine aF (bT ob ob ob) fun v16 TM=>?_;obtain ⟨Zx,Zy,Zz,ZA,ZB⟩:=TM;refine wn ?_;refine wi (fun c3=>?_) (fun c3=>?_)
    ·refine wm ?_;refine bL _ ?_ ?_
     ·exact ob
     ·exact ob
    ·refine wi (fun c4=>?_) (fun c4=>?_)
     ·refine wm ?_;refine bL _ ?_ ?_
      ·exact ob
      ·exact ob
     ·refine wi (fun c5=>?_) (fun c5=>?_)
      ·refine wm ?_;refine bL _ ?_ ?_
       ·exact ob
       ·exact ob
      ·refine wi (fun c6=>?_) (fun c6=>?_)
       ·refine wm ?_;refine bL _ ?_ ?_
        ·exact ob
        ·exact ob
       ·refine wm ?_;refine bL _ ?_ ?_
        ·exact ob
        ·exact ob
   ·unfold iN;refine aF (bT ob ob ob) fun v16 TM=>?_;obtain ⟨Zx,Zy,Zz,ZA,ZB⟩:=TM;refine wn ?_;refine wi (fun c7=>?_) (fun c7=>?_)
    ·refine wm ?_;refine bL _ ?_ ?_
     ·exact ob
     ·exact ob
    ·refine wi (fun c8=>?_) (fun c8=>?_)
     ·refine wm ?_;refine bL _ ?_ ?_
      ·exact ob
      ·exact ob
     ·refine wi (fun c9=>?_) (fun c9=>?_)
      ·refine wm ?_;refine bL _ ?_ ?_
       ·exact ob
       ·exact ob
      ·refine wi (fun c10=>?_) (fun c10=>?_)
       ·refine wm ?_;refine bL _ ?_ ?_
        ·exact ob
        ·exact ob
       ·refine wm ?_;refine bL _ ?_ ?_
        ·exact ob
        ·exact ob
  ·refine au ?_;exact ob
 ·exact ob
theorem Kh {dz:cu} (h1:0≤dz.At) (h2:dz.L.length≤600):W (nT dz) (fun r=>r.1.av.length≤5∧(∀c∈r.1.av,c.bG.length≤10∧c.ak.length≤2)∧0≤r.2.At∧r.2.L.length≤600):=by
 unfold nT;refine aF (ku ob ob ob ob ob ob) fun v1 hv1=>?_;obtain ⟨CV,AL,CW,Fp,G8⟩:=hv1;refine aF (bT ob ob ob) fun v2 hv2=>?_;obtain ⟨Xv,Vk,Xw,aaE,aeu⟩:=hv2;refine bq (fun (g1:(Int×(List Int)×Int×(List bR)))=>0≤g1.1∧0≤g1.2.2.1∧g1.2.1.length≤600∧(g1.2.2.2.length:Int)+g1.1≤5∧(∀c∈g1.2.2.2,c.bG.length≤10∧c.ak.length≤2)) (fun (g1:(Int×(List Int)×Int×(List bR)))=>g1.1.toNat) ?_ ?_
 ·intro aj g1 dH bL;obtain ⟨cK,bC,bJ,ji,G9⟩:=dH;unfold wO;refine wi (fun c1=>?_) (fun c1=>?_)
  ·refine wn ?_;refine aM (by (rw [UL,show ({ data:=#[103] }:ByteArray).size=1 from rfl]; simp only [List.length_cons,List.length_nil]; omega)) ?_;refine aF (bT ob ob ob) fun v35 ZC=>?_;obtain ⟨ach,aci,acj,acn,aco⟩:=ZC;refine bq (fun (g12:(Int×(List Int)×Int×(List Int)))=>0≤g12.1∧0≤g12.2.2.1∧g12.2.1.length≤600∧(g12.2.2.2.length:Int)≤g12.1∧g12.1≤10) (fun (g12:(Int×(List Int)×Int×(List Int)))=>(10 - g12.1).toNat) ?_ ?_
   ·intro UH g12 aaF aaG;obtain ⟨acp,acr,acs,acu,acv⟩:=aaF;unfold wN;refine wi (fun c2=>?_) (fun c2=>?_)
    ·refine aF (ku ob ob ob ob ob ob) fun v38 hv38=>?_;obtain ⟨acw,acy,acz,acA,acB⟩:=hv38;refine wn ?_;refine wi (fun c3=>?_) (fun c3=>?_)
     ·refine wm ?_;refine aaG _ ?_ ?_
      ·exact ob
      ·exact ob
     ·refine wi (fun c4=>?_) (fun c4=>?_)
      ·unfold jh;refine aF (bT ob ob ob) fun v39 hv39=>?_;obtain ⟨ZE,ZF,ZG,ZH,ZI⟩:=hv39;refine aF (iW) fun v40 Xx=>?_;subst Xx;refine wn ?_;refine aF (bT ob ob ob) fun v43 Xy=>?_;obtain ⟨ZJ,ZL,ZM,ZN,ZO⟩:=Xy;refine wi (fun c5=>?_) (fun c5=>?_)
       ·refine aF (iW) fun v44 Xz=>?_;subst Xz;refine wm ?_;refine wm ?_;unfold gN;refine wm ?_;refine bL _ ?_ ?_
        ·exact ob
        ·exact ob
       ·unfold gN;refine wm ?_;refine bL _ ?_ ?_
        ·exact ob
        ·exact ob
      ·unfold jh;refine aF (bT ob ob ob) fun v39 hv39=>?_;obtain ⟨ZE,ZF,ZG,ZH,ZI⟩:=hv39;refine aF (iW) fun v40 Xx=>?_;subst Xx;refine wn ?_;refine aF (bT ob ob ob) fun v43 Xy=>?_;obtain ⟨ZJ,ZL,ZM,ZN,ZO⟩:=Xy;refine wi (fun c6=>?_) (fun c6=>?_)
       ·refine aF (iW) fun v44 Xz=>?_;subst Xz;refine wm ?_;refine wm ?_;unfold gN;refine wm ?_;refine bL _ ?_ ?_
        ·exact ob
        ·exact ob
       ·unfold gN;refine wm ?_;refine bL _ ?_ ?_
        ·exact ob
        ·exact ob
    ·refine wn ?_;refine wi (fun c7=>?_) (fun c7=>?_)
     ·unfold iG;refine aF (bT ob ob ob) fun v45 XA=>?_;obtain ⟨ZP,ZQ,ZR,ZT,ZU⟩:=XA;refine aF (iW) fun v46 UN=>?_;subst UN;refine wn ?_;refine aF (bT ob ob ob) fun v49 UM=>?_;obtain ⟨Xp,Xq,Xr,Xt,Xu⟩:=UM;refine wi (fun c8=>?_) (fun c8=>?_)
      ·refine aF (iW) fun v50 Si=>?_;subst Si;refine wm ?_;refine wm ?_;unfold gq;refine wm ?_;refine bL _ ?_ ?_
       ·exact ob
       ·exact ob
      ·unfold gq;refine wm ?_;refine bL _ ?_ ?_
       ·exact ob
       ·exact ob
     ·unfold iG;refine aF (bT ob ob ob) fun v45 XA=>?_;obtain ⟨ZP,ZQ,ZR,ZT,ZU⟩:=XA;refine aF (iW) fun v46 UN=>?_;subst UN;refine wn ?_;refine aF (bT ob ob ob) fun v49 UM=>?_;obtain ⟨Xp,Xq,Xr,Xt,Xu⟩:=UM;refine wi (fun c9=>?_) (fun c9=>?_)
      ·refine aF (iW) fun v50 Si=>?_;subst Si;refine wm ?_;refine wm ?_;unfold gq;refine wm ?_;refine bL _ ?_ ?_
       ·exact ob
       ·exact ob
      ·unfold gq;refine wm ?_;refine bL _ ?_ ?_
       ·exact ob
       ·exact ob
   ·exact ob
  ·refine au ?_;exact ob
 ·exact ob
theorem K3 {dz:cu} (h1:0≤dz.At) (h2:dz.L.length≤600):W (pE dz) (fun r=>Yw r.1∧0≤r.2.At∧r.2.L.length≤600):=by
 unfold pE;refine aF (Kg ob ob) fun v1 hv1=>?_;obtain ⟨CV,AL,CW,Fp⟩:=hv1;refine aF (He ob ob) fun v2 hv2=>?_;obtain ⟨Xv,Vk,Xw,aaE⟩:=hv2;refine aF (Kh ob ob) fun v3 hv3=>?_;obtain ⟨Vj,TL,Xn,aaz⟩:=hv3;refine aF (Ke ob ob ob ob) fun v4 hv4=>?_;obtain ⟨Y1,Xo,Y2,aaA⟩:=hv4;refine aF (I9 ob ob ob ob) fun v5 hv5=>?_;obtain ⟨aev,aew,aex⟩:=hv5;refine au ?_;(refine ⟨⟨ob,AL,ob,Vk,ob,TL,ob,Xo,ob⟩,ob,ob⟩)
theorem K4 {b_:bf} {dz:cu} (h1:b_.bQ.length≤100) (h2:0≤dz.At) (h3:dz.L.length≤600):W (pF b_ dz) (fun r=>0≤r.2.At∧r.2.L.length≤600):=by
 unfold pF;refine aF (bT ob ob ob) fun v1 hv1=>?_;obtain ⟨CV,AL,CW,Fp,G8⟩:=hv1;refine aF (eX ob ob ob ob) fun v2 hv2=>?_;obtain ⟨Xv,Vk,Xw⟩:=hv2;refine aF (eX ob ob ob ob) fun v3 hv3=>?_;obtain ⟨Vj,TL,Xn⟩:=hv3;refine au ?_;exact ob
theorem Mq {b_:bf} {dz:cu} (h1:b_.bI.length≤100) (h2:0≤dz.At) (h3:dz.L.length≤600):W (rD b_ dz) (fun r=>0≤r.2.At∧r.2.L.length≤600):=by
 unfold rD;refine aF (bT ob ob ob) fun v1 hv1=>?_;obtain ⟨CV,AL,CW,Fp,G8⟩:=hv1;refine aF (eX ob ob ob ob) fun v2 hv2=>?_;obtain ⟨Xv,Vk,Xw⟩:=hv2;refine aF (eX ob ob ob ob) fun v3 hv3=>?_;obtain ⟨Vj,TL,Xn⟩:=hv3;refine aF (eX ob ob ob ob) fun v4 hv4=>?_;obtain ⟨Y1,Xo,Y2⟩:=hv4;refine au ?_;exact ob
theorem qB {v1:(Int×cu)} {g1:(Int×(List Int)×Int×(List aL))} {aj:(Int×(List Int)×Int×(List aL))→M ((List aL)×cu)} {v46:(Int×cu)} {g14:((List Int)×Int×(List bK))} {g15:((List Int)×Int×(List bE))} {g16:((List Int)×Int×(List ByteArray))} {v53:((List Int)×cu)} {g18:((List Int)×Int×(List Int))} {Q:((List aL)×cu)→Prop} (bL:∀s':(Int×(List Int)×Int×(List aL)),(0≤s'.1∧s'.1≤v1.1∧0≤s'.2.2.1∧s'.2.1.length≤600∧(s'.2.2.2.length:Int)=s'.1∧(∀x∈s'.2.2.2,x.bP.length≤1∧x.d9.length≤1∧x.ak.length≤2∧x.aY.length≤100∧x.aW.length≤100∧(∀p∈x.aW,0≤p∧p<v1.1)))→(v1.1 - s'.1).toNat<(v1.1 - g1.1).toNat→W (aj s') Q) (hc:0≤g18.2.1∧g18.1.length≤600∧g18.2.2.length≤100∧(∀p∈g18.2.2,0≤p∧p<v1.1)∧g14.2.2.length≤1∧g15.2.2.length≤1∧g16.2.2.length≤2∧v53.1.length≤100∧0≤g1.1∧g1.1<v1.1∧v1.1≤51∧(g1.2.2.2.length:Int)=g1.1∧(∀x∈g1.2.2.2,x.bP.length≤1∧x.d9.length≤1∧x.ak.length≤2∧x.aY.length≤100∧x.aW.length≤100∧(∀p∈x.aW,0≤p∧p<v1.1))):W (iO g1 aj v46 g14 g15 g16 v53 g18) Q:=by
 obtain ⟨XB,XC,XD,UO,UQ,UR,Yx,Yy,Yz,Vl,Y3,aaH,aaI⟩:=hc;unfold iO;refine wm ?_;refine bL _ ?_ ?_
 ·exact ob
 ·exact ob
theorem qC {v1:(Int×cu)} {g1:(Int×(List Int)×Int×(List aL))} {aj:(Int×(List Int)×Int×(List aL))→M ((List aL)×cu)} {v46:(Int×cu)} {g14:((List Int)×Int×(List bK))} {g15:((List Int)×Int×(List bE))} {g16:((List Int)×Int×(List ByteArray))} {v53:((List Int)×cu)} {g19:(Int×(List Int)×Int)} {Q:((List aL)×cu)→Prop} (bL:∀s':(Int×(List Int)×Int×(List aL)),(0≤s'.1∧s'.1≤v1.1∧0≤s'.2.2.1∧s'.2.1.length≤600∧(s'.2.2.2.length:Int)=s'.1∧(∀x∈s'.2.2.2,x.bP.length≤1∧x.d9.length≤1∧x.ak.length≤2∧x.aY.length≤100∧x.aW.length≤100∧(∀p∈x.aW,0≤p∧p<v1.1)))→(v1.1 - s'.1).toNat<(v1.1 - g1.1).toNat→W (aj s') Q) (hc:0≤g19.2.2∧g19.2.1.length≤600∧0≤g19.1∧g19.1≤51∧g14.2.2.length≤1∧g15.2.2.length≤1∧g16.2.2.length≤2∧v53.1.length≤100∧g19.1≤v1.1∧0≤g1.1∧g1.1<v1.1∧v1.1≤51∧(g1.2.2.2.length:Int)=g1.1∧(∀x∈g1.2.2.2,x.bP.length≤1∧x.d9.length≤1∧x.ak.length≤2∧x.aY.length≤100∧x.aW.length≤100∧(∀p∈x.aW,0≤p∧p<v1.1))):W (iP g1 aj v46 g14 g15 g16 v53 g19) Q:=by
 obtain ⟨XB,XC,XD,UO,UQ,UR,Yx,Yy,Yz,Vl,Y3,aaH,aaI,aaJ⟩:=hc;unfold iP;refine aF (tT ob ob ob ob ob ob) fun v60 acC=>?_;obtain ⟨acD,ZV,acE,acF⟩:=acC;exact qB (v1:=v1) (fun a b c=>bL a b c) (by (refine ⟨ob,ob,ob,fun p hp=>(by have:=ZV p hp; omega),ob,ob,ob,ob,ob,ob,ob,ob,aaJ⟩))
theorem qD {b_:bf} {v1:(Int×cu)} {g1:(Int×(List Int)×Int×(List aL))} {aj:(Int×(List Int)×Int×(List aL))→M ((List aL)×cu)} {v46:(Int×cu)} {g14:((List Int)×Int×(List bK))} {g15:((List Int)×Int×(List bE))} {g16:((List Int)×Int×(List ByteArray))} {Q:((List aL)×cu)→Prop} (bL:∀s':(Int×(List Int)×Int×(List aL)),(0≤s'.1∧s'.1≤v1.1∧0≤s'.2.2.1∧s'.2.1.length≤600∧(s'.2.2.2.length:Int)=s'.1∧(∀x∈s'.2.2.2,x.bP.length≤1∧x.d9.length≤1∧x.ak.length≤2∧x.aY.length≤100∧x.aW.length≤100∧(∀p∈x.aW,0≤p∧p<v1.1)))→(v1.1 - s'.1).toNat<(v1.1 - g1.1).toNat→W (aj s') Q) (hc:0≤g16.2.1∧g16.1.length≤600∧g14.2.2.length≤1∧g15.2.2.length≤1∧g16.2.2.length≤2∧b_.aY.length≤4∧0≤g1.1∧g1.1<v1.1∧v1.1≤51∧(g1.2.2.2.length:Int)=g1.1∧(∀x∈g1.2.2.2,x.bP.length≤1∧x.d9.length≤1∧x.ak.length≤2∧x.aY.length≤100∧x.aW.length≤100∧(∀p∈x.aW,0≤p∧p<v1.1))):W (iQ b_ v1 g1 aj v46 g14 g15 g16) Q:=by
 obtain ⟨XB,XC,XD,UO,UQ,UR,Yx,Yy,Yz,Vl,Y3⟩:=hc;unfold iQ;refine aF (tT ob ob ob ob ob ob) fun v53 acG=>?_;obtain ⟨acH,acI,acJ,acK⟩:=acG;refine aF (bT ob ob ob) fun v58 acL=>?_;obtain ⟨acM,acN,acO,acP,acQ⟩:=acL;refine wi (fun c1=>?_) (fun c1=>?_)
 ·refine aF (bT ob ob ob) fun v61 acR=>?_;obtain ⟨acS,acT,acU,acV,acW⟩:=acR;refine wi (fun c2=>?_) (fun c2=>?_)
  ·exact qC (v1:=v1) (fun a b c=>bL a b c) ob
  ·exact qC (v1:=v1) (fun a b c=>bL a b c) ob
 ·exact qB (v1:=v1) (fun a b c=>bL a b c) ob
theorem kT {b_:bf} {v1:(Int×cu)} {g1:(Int×(List Int)×Int×(List aL))} {aj:(Int×(List Int)×Int×(List aL))→M ((List aL)×cu)} {v46:(Int×cu)} {g14:((List Int)×Int×(List bK))} {g15:((List Int)×Int×(List bE))} {Q:((List aL)×cu)→Prop} (bL:∀s':(Int×(List Int)×Int×(List aL)),(0≤s'.1∧s'.1≤v1.1∧0≤s'.2.2.1∧s'.2.1.length≤600∧(s'.2.2.2.length:Int)=s'.1∧(∀x∈s'.2.2.2,x.bP.length≤1∧x.d9.length≤1∧x.ak.length≤2∧x.aY.length≤100∧x.aW.length≤100∧(∀p∈x.aW,0≤p∧p<v1.1)))→(v1.1 - s'.1).toNat<(v1.1 - g1.1).toNat→W (aj s') Q) (hc:0≤g15.2.1∧g15.1.length≤600∧g14.2.2.length≤1∧g15.2.2.length≤1∧b_.aY.length≤4∧0≤g1.1∧g1.1<v1.1∧v1.1≤51∧(g1.2.2.2.length:Int)=g1.1∧(∀x∈g1.2.2.2,x.bP.length≤1∧x.d9.length≤1∧x.ak.length≤2∧x.aY.length≤100∧x.aW.length≤100∧(∀p∈x.aW,0≤p∧p<v1.1))):W (gV b_ v1 g1 aj v46 g14 g15) Q:=by
 obtain ⟨XB,XC,XD,UO,UQ,UR,Yx,Yy,Yz,Vl⟩:=hc;unfold gV;refine aF (bT ob ob ob) fun v62 acX=>?_;obtain ⟨acY,acZ,ac0,ac1,ac2⟩:=acX;refine wi (fun c1=>?_) (fun c1=>?_)
 ·refine aF (I8 ob ob ob ob) fun v63 ac3=>?_;obtain ⟨ac4,ac5,ac6⟩:=ac3;exact qD (fun a b c=>bL a b c) ob
 ·exact qD (fun a b c=>bL a b c) ob
theorem lX {b_:bf} {v1:(Int×cu)} {g1:(Int×(List Int)×Int×(List aL))} {aj:(Int×(List Int)×Int×(List aL))→M ((List aL)×cu)} {v46:(Int×cu)} {g14:((List Int)×Int×(List bK))} {Q:((List aL)×cu)→Prop} (bL:∀s':(Int×(List Int)×Int×(List aL)),(0≤s'.1∧s'.1≤v1.1∧0≤s'.2.2.1∧s'.2.1.length≤600∧(s'.2.2.2.length:Int)=s'.1∧(∀x∈s'.2.2.2,x.bP.length≤1∧x.d9.length≤1∧x.ak.length≤2∧x.aY.length≤100∧x.aW.length≤100∧(∀p∈x.aW,0≤p∧p<v1.1)))→(v1.1 - s'.1).toNat<(v1.1 - g1.1).toNat→W (aj s') Q) (hc:0≤g14.2.1∧g14.1.length≤600∧g14.2.2.length≤1∧b_.aY.length≤4∧b_.bI.length≤3∧0≤g1.1∧g1.1<v1.1∧v1.1≤51∧(g1.2.2.2.length:Int)=g1.1∧(∀x∈g1.2.2.2,x.bP.length≤1∧x.d9.length≤1∧x.ak.length≤2∧x.aY.length≤100∧x.aW.length≤100∧(∀p∈x.aW,0≤p∧p<v1.1))):W (iA b_ v1 g1 aj v46 g14) Q:=by
 obtain ⟨XB,XC,XD,UO,UQ,UR,Yx,Yy,Yz,Vl⟩:=hc;unfold iA;refine wi (fun c1=>?_) (fun c1=>?_)
 ·refine aF (bT ob ob ob) fun v64 hv64=>?_;obtain ⟨ac7,ac8,ac9,ada,adb⟩:=hv64;refine wi (fun c2=>?_) (fun c2=>?_)
  ·refine aF (Mq ob ob ob) fun v65 ade=>?_;obtain ⟨adf,adg⟩:=ade;refine wn ?_;exact kT (fun a b c=>bL a b c) ob
  ·exact kT (fun a b c=>bL a b c) ob
 ·refine wn ?_;exact kT (fun a b c=>bL a b c) ob
theorem Jb {b_:bf} {gQ:Int} {dz:cu} (h1:Yw b_) (h2:0≤gQ) (h3:gQ≤50) (h4:0≤dz.At) (h5:dz.L.length≤600):W (mV b_ gQ dz) (fun r=>r.1.length≤gQ.toNat∧(∀x∈r.1,x.bP.length≤1∧x.d9.length≤1∧x.ak.length≤2∧x.aY.length≤100∧x.aW.length≤100∧(∀p∈x.aW,0≤p∧p<(r.1.length:Int)))∧0≤r.2.At∧r.2.L.length≤600):=by
 obtain ⟨q1,q2,q3,q4,q5,q6,q7,q8,q9⟩:=h1;unfold mV;refine wn ?_;refine aF (bT ob ob ob) fun v1 hv1=>?_;obtain ⟨CV,AL,CW,Fp,G8⟩:=hv1;refine bq (fun (g1:(Int×(List Int)×Int×(List aL)))=>0≤g1.1∧g1.1≤v1.1∧0≤g1.2.2.1∧g1.2.1.length≤600∧(g1.2.2.2.length:Int)=g1.1∧(∀x∈g1.2.2.2,x.bP.length≤1∧x.d9.length≤1∧x.ak.length≤2∧x.aY.length≤100∧x.aW.length≤100∧(∀p∈x.aW,0≤p∧p<v1.1))) (fun (g1:(Int×(List Int)×Int×(List aL)))=>(v1.1 - g1.1).toNat) ?_ ?_
 ·intro aj g1 dH bL;obtain ⟨cK,bC,bJ,ji,G9,Xm⟩:=dH;unfold u6;refine wi (fun c1=>?_) (fun c1=>?_)
  ·refine wn ?_;refine aF (ku ob ob ob ob ob ob) fun v46 UN=>?_;obtain ⟨adh,adi,adj,adk,adl⟩:=UN;refine wi (fun c2=>?_) (fun c2=>?_)
   ·refine aF (bT ob ob ob) fun v66 adn=>?_;obtain ⟨ado,adp,adq,adr,ads⟩:=adn;refine wi (fun c3=>?_) (fun c3=>?_)
    ·refine aF (K4 ob ob ob) fun v67 adt=>?_;obtain ⟨adu,adv⟩:=adt;refine wn ?_;exact lX (fun a b c=>bL a b c) ob
    ·exact lX (fun a b c=>bL a b c) ob
   ·refine wn ?_;exact lX (fun a b c=>bL a b c) ob
  ·have hlen:(g1.2.2.2.length:Int)=v1.1:=by omega
   refine wi (fun c4=>?_) (fun c4=>?_)
   ·refine aF (bT ob ob ob) fun v68 adw=>?_;obtain ⟨adx,ady,adz,adA,adB⟩:=adw;refine wi (fun c5=>?_) (fun c5=>?_)
    ·refine wn ?_;refine bq (fun (g20:(Int×Int×(List aL)))=>0≤g20.1 ∧ -1≤g20.2.1∧g20.2.1<v1.1∧g20.1≤v1.1∧(g20.2.2.length:Int)=v1.1∧(∀x∈g20.2.2,x.bP.length≤1∧x.d9.length≤1∧x.ak.length≤2∧x.aY.length≤100∧x.aW.length≤100∧(∀p∈x.aW,0≤p∧p<v1.1))) (fun (g20:(Int×Int×(List aL)))=>(g20.2.1 - g20.1).toNat) ?_ ?_
     ·intro UK g20 aaK aaL;obtain ⟨adC,adD,adE,adF,adG,UU⟩:=aaK;unfold sW;refine wi (fun c6=>?_) (fun c6=>?_)
      ·refine wm ?_;refine wm ?_;refine wm ?_;refine aaL _ ?_ ?_
       ·(refine ⟨ob,ob,ob,ob,ob,Sg (Sg UU (UU _ (getD_in _ om))) (UU _ (getD_in _ om))⟩)
       ·exact ob
      ·refine bq (fun (g21:(Int×(List aL)))=>0≤g21.1∧(g21.2.length:Int)=v1.1∧(∀x∈g21.2,x.bP.length≤1∧x.d9.length≤1∧x.ak.length≤2∧x.aY.length≤100∧x.aW.length≤100∧(∀p∈x.aW,0≤p∧p<v1.1))) (fun (g21:(Int×(List aL)))=>(v1.1 - g21.1).toNat) ?_ ?_
       ·intro Pv g21 aaM aaN;obtain ⟨adH,ZW,UW⟩:=aaM;unfold sV;refine wi (fun c7=>?_) (fun c7=>?_)
        ·have q:=UW (g21.2.getD g21.1.toNat bB) (getD_in _ om);refine wm ?_;refine bq (fun (g24:(Int×(List Int))) => -1≤g24.1∧g24.1<(g21.2.getD g21.1.toNat bB).aW.length∧(g24.2.length:Int)+g24.1<(g21.2.getD g21.1.toNat bB).aW.length∧(∀p∈g24.2,0≤p∧p<v1.1)) (fun (g24:(Int×(List Int)))=>(g24.1+1).toNat) ?_ ?_
         ·intro UJ g24 aaO aaP;obtain ⟨adI,adJ,adK,ZX⟩:=aaO;unfold sU;refine wi (fun c8=>?_) (fun c8=>?_)
          ·have q2:=q.2.2.2.2.2 _ (getD_in (i:=g24.1.toNat) 0 om);refine wm ?_;refine wm ?_;refine wm ?_;refine aaP _ ?_ ?_
           ·exact ob
           ·exact ob
          ·refine wm ?_;refine aaN _ ?_ ?_
           ·(refine ⟨ob,ob,Sg UW ⟨q.1,q.2.1,q.2.2.1,q.2.2.2.1,ob,ZX⟩⟩)
           ·exact ob
         ·exact ob
        ·refine au ?_;(refine ⟨ob,fun x hx=>?_,ob,ob⟩; have q:=UW x hx; rw [ZW]; exact q)
       ·exact ob
     ·exact ob
    ·refine au ?_;(refine ⟨ob,fun x hx=>?_,ob,ob⟩; have q:=Xm x hx; rw [hlen]; exact q)
   ·refine wn ?_;refine au ?_;(refine ⟨ob,fun x hx=>?_,ob,ob⟩; have q:=Xm x hx; rw [hlen]; exact q)
 ·exact ob
deriving instance DecidableEq for aH,bH,bK
def withinF (n lo hi:Int):Bool:=decide (lo≤n)&&decide (n≤hi)
def diffG (lo hi:Int):List Int→List Int→Bool
 | _,[]=>true
 | pre,n::r=>bif !(withinF n lo hi)||pre.contains n then false else diffG lo hi (pre++[n]) r
theorem diffG_f {lo hi n:Int} {pre r:List Int} (h:(!(withinF n lo hi)||pre.contains n)=true):diffG lo hi pre (n::r)=false:=by rw [diffG,h]; rfl
theorem diffG_t {lo hi n:Int} {pre r:List Int} (h:(!(withinF n lo hi)||pre.contains n)=false):diffG lo hi pre (n::r)=diffG lo hi (pre++[n]) r:=by rw [diffG,h]; rfl
def gcdI (a b:Int):Int:=(Nat.gcd a.toNat b.toNat:Nat)
def validR (r:bH):Bool:=decide (0≤r.iU)&&decide (r.iU≤144115188075855872)&&decide (1≤r.gW)&&decide (r.gW≤16777216)&&(gcdI r.iU r.gW==1)
def newR (num den:Int):bH×Int:=bif decide (num<0)||decide (den<1) then (⟨0,0⟩,2) else
 bif !validR ⟨num.tdiv (gcdI num den),den.tdiv (gcdI num den)⟩ then (⟨0,0⟩,2) else (⟨num.tdiv (gcdI num den),den.tdiv (gcdI num den)⟩,0)
theorem gcdI_pos (a b:Int) (h:0<b):0<gcdI a b:=by
 unfold gcdI;have:0<b.toNat:=by omega
 have:=Nat.gcd_pos_of_pos_right a.toNat this;omega
theorem tdiv_le (a k:Int) (ha:0≤a) (hk:0<k):0≤a.tdiv k∧a.tdiv k≤a:=by
 rw [Int.tdiv_eq_ediv_of_nonneg ha];exact ⟨Int.ediv_nonneg ha om,Int.ediv_le_self _ ha⟩
def factorB (k:Int):Bool:=decide (1≤k)&&decide (k≤64)
def timesR (r:bH) (k:Int):bH×Int:=bif !validR r then (⟨0,0⟩,1) else bif !factorB k then (⟨0,0⟩,2) else
 bif decide ((144115188075855872:Int).tdiv (k.tdiv (gcdI k r.gW))<r.iU) then (⟨0,0⟩,2) else newR (r.iU*(k.tdiv (gcdI k r.gW))) (r.gW.tdiv (gcdI k r.gW))
def overR (r:bH) (k:Int):bH×Int:=bif !validR r then (⟨0,0⟩,1) else bif !factorB k then (⟨0,0⟩,2) else newR r.iU (r.gW*k)
theorem validR_iff {r:bH} (h:validR r=true):0≤r.iU∧r.iU≤144115188075855872∧1≤r.gW∧r.gW≤16777216∧gcdI r.iU r.gW=1:=by
 unfold validR at h;simp at h;omega
theorem kdiv (k d:Int) (hk:1≤k∧k≤64) (hd:1≤d):1≤k.tdiv (gcdI k d)∧k.tdiv (gcdI k d)≤64:=by
 have hg:=gcdI_pos k d om;have h1:=tdiv_le k (gcdI k d) om hg;have hdvd:Nat.gcd k.toNat d.toNat∣k.toNat:=Nat.gcd_dvd_left _ _;have h2:0<k.toNat / Nat.gcd k.toNat d.toNat:=Nat.div_pos (Nat.le_of_dvd om hdvd) (by unfold gcdI at hg; omega);have h3:k.tdiv (gcdI k d)=((k.toNat / Nat.gcd k.toNat d.toNat:Nat):Int):=by
  unfold gcdI;rw [Int.tdiv_eq_ediv_of_nonneg om];have:k=(k.toNat:Int):=by omega
  rw [Int.natCast_ediv,← this]
 omega
theorem mul_bound (a b:Int) (ha:0≤a) (hb:1≤b) (h:a≤(144115188075855872:Int).tdiv b):0≤a*b∧a*b≤144115188075855872:=by
 rw [Int.tdiv_eq_ediv_of_nonneg (by decide)] at h;have:=(Int.le_ediv_iff_mul_le om).1 h;exact ⟨Int.mul_nonneg ha om,this⟩
theorem newR_mul (c a b:Nat) (hc:0<c) (hb:0<b):newR (c*a:Nat) (c*b:Nat)=newR a b:=by
 have hcb:0<c*b:=Nat.mul_pos hc hb;have g0:0<Nat.gcd a b:=Nat.gcd_pos_of_pos_right a hb;have e1:gcdI (c*a:Nat) (c*b:Nat)=((c*Nat.gcd a b:Nat):Int):=by
  unfold gcdI;rw [Int.toNat_natCast,Int.toNat_natCast,Nat.gcd_mul_left]
 have e2:gcdI (a:Nat) (b:Nat)=(Nat.gcd a b:Nat):=by
  unfold gcdI;rw [Int.toNat_natCast,Int.toNat_natCast]
 have d:∀x:Nat,((c*x:Nat):Int).tdiv ((c*Nat.gcd a b:Nat):Int)=(x:Int).tdiv (Nat.gcd a b:Nat):=by
  intro x;rw [← Int.ofNat_tdiv,← Int.ofNat_tdiv,Nat.mul_div_mul_left _ _ hc]
 unfold newR;have c1:(decide (((c*a:Nat):Int)<0)||decide (((c*b:Nat):Int)<1))=false:=by
  have h1:¬ (((c*b:Nat):Int)<1):=Int.not_lt.2 (Int.ofNat_le.2 hcb);rw [decide_eq_false (Int.not_lt.2 (Int.natCast_nonneg _)),decide_eq_false h1];rfl
 have c2:(decide ((a:Int)<0)||decide ((b:Int)<1))=false:=by simp; omega
 rw [c1,c2,e1,e2,d a,d b]
theorem newR_over (num den k:Int) (hn:0≤num) (hd:1≤den) (hk:1≤k):newR (num.tdiv (gcdI num k)) (den*(k.tdiv (gcdI num k)))=newR num (den*k):=by
 obtain ⟨n,rfl⟩:=Int.eq_ofNat_of_zero_le hn;obtain ⟨d,rfl⟩:=Int.eq_ofNat_of_zero_le (show 0≤den by omega);obtain ⟨k,rfl⟩:=Int.eq_ofNat_of_zero_le (show 0≤k by omega);have hg:gcdI (n:Nat) (k:Nat)=(Nat.gcd n k:Nat):=by unfold gcdI; rw [Int.toNat_natCast,Int.toNat_natCast]
 rw [hg,← Int.ofNat_tdiv,← Int.ofNat_tdiv];have g0:0<Nat.gcd n k:=Nat.gcd_pos_of_pos_right n om;obtain ⟨a,ha⟩:=Nat.gcd_dvd_left n k;obtain ⟨b,hb⟩:=Nat.gcd_dvd_right n k;have e1:n / Nat.gcd n k=a:=by rw [Nat.div_eq_of_eq_mul_right g0 ha]
 have e2:k / Nat.gcd n k=b:=by rw [Nat.div_eq_of_eq_mul_right g0 hb]
 rw [e1,e2];have hb0:0<b:=by
  rcases Nat.eq_zero_or_pos b with h | h
  ·rw [h] at hb; simp at hb; omega
  ·exact h
 have:=newR_mul (Nat.gcd n k) a (d*b) g0 (Nat.mul_pos om hb0);rw [← ha] at this;have e3:Nat.gcd n k*(d*b)=d*k:=by
  rw [Nat.mul_left_comm,← hb]
 rw [e3] at this;rw [← Int.natCast_mul,← Int.natCast_mul];exact this.symm
def withinR (r:bH) (lo hi:Int):Bool:=validR r&&(decide (lo≤r.iU.tdiv r.gW)&&(decide (r.iU.tdiv r.gW<hi)||(r.iU.tdiv r.gW==hi&&r.iU.tmod r.gW==0)))
def bigC (c:aH):Bool:=decide (8<(c.aN.length:Int))||decide (8<(c.aK.length:Int))
def badL (n:Int) (x:bK):Bool:=!withinF x.dW 0 (n - 1)||!withinF x.eP 0 4000000000||!withinF x.jw 0 x.eP
def choicesB (c:aH):Bool:=
 bif c.eU==1 then ((c.aN.length:Int)==0)&&((c.aK.length:Int)==1)&&withinF (c.aK.getD 0 0) 1 4000000000
 else bif c.eU==2||c.eU==3 then ((c.aN.length:Int)==1)&&decide (0<(c.aK.length:Int))&&diffG 1 64 [] c.aK
 else bif c.eU==4 then decide (0<(c.aK.length:Int))&&diffG 0 ((c.aN.length:Int) - 1) [] c.aK
 else bif c.eU==5 then ((c.aN.length:Int)==1)&&(c.aK==[0,1])
 else false
def validC (c:aH) (k:Int):Bool:=bif c.aN.any (fun y=>!withinF y 0 (k - 1))||!withinF c.eP 0 4000000000||!withinF c.jw 0 c.eP then false else choicesB c
theorem diff_ne (l:List Int) (hi:Int) (h:diffG 0 hi [] l=true) (hl:0<l.length):0≤hi:=by
 cases l with
 | nil=>simp at hl
 | cons n l=>
  cases hw:withinF n 0 hi with
  | true=>simp [withinF] at hw; omega
  | false=>
   rw [diffG_f (by rw [hw]; rfl)] at h;cases h
def maxI (a b:Int):Int:=if b > a then b else a
def isDM (c:aH):Bool:=c.eU==2||c.eU==3
def parMax (acc:List Int) (l:List Int):Int:=l.foldl (fun n p=>maxI n (acc.getD p.toNat 0)) 0
def fac1 (acc:List Int) (c:aH):Int:=bif isDM c then parMax acc c.aN+1 else parMax acc c.aN
def facs (l:List aH):List Int:=l.foldl (fun acc c=>acc++[fac1 acc c]) []
theorem facs_snoc (l:List aH) (c:aH):facs (l++[c])=facs l++[fac1 (facs l) c]:=by
 unfold facs;rw [List.foldl_append];rfl
def ParOK (l:List aH):Prop:=∀i,i<l.length→(l.getD i aI).aN.length≤2000000∧∀p∈(l.getD i aI).aN,0≤p∧p<i
theorem parMax_bound (acc:List Int) (b:Int) (hb0:0≤b) (hb:∀j:Nat,0≤acc.getD j 0∧acc.getD j 0≤b) (l:List Int):0≤parMax acc l∧parMax acc l≤b:=by
 have:∀(l:List Int) (n:Int),0≤n∧n≤b→0≤l.foldl (fun n p=>maxI n (acc.getD p.toNat 0)) n∧l.foldl (fun n p=>maxI n (acc.getD p.toNat 0)) n≤b:=by
  intro l;induction l with
  | nil=>exact fun n h=>h
  | cons p r ih=>
   intro n hn;refine ih _ ?_;show 0≤maxI n (acc.getD p.toNat 0)∧maxI n (acc.getD p.toNat 0)≤b;unfold maxI;have:=hb p.toNat;split<;>omega
 exact this l 0 om
theorem facs_len_bound (l:List aH):(facs l).length=l.length∧∀j:Nat,0≤(facs l).getD j 0∧(facs l).getD j 0≤l.length:=by
 induction l using snocInd with
 | nil=>exact ⟨rfl,fun j=>by rw [getD_out]; simp; exact Nat.zero_le _⟩
 | append_singleton l c ih=>
  obtain ⟨h1,h2⟩:=ih;rw [facs_snoc];have hb:=parMax_bound (facs l) l.length om h2 c.aN;have hf:0≤fac1 (facs l) c∧fac1 (facs l) c≤l.length+1:=by
   unfold fac1;cases isDM c<;>simp only [cond_true,cond_false]<;>omega
  refine ⟨by rw [List.length_append,List.length_append,h1]; rfl,fun j=>?_⟩;have hlen:((l++[c]).length:Int)=l.length+1:=by rw [List.length_append]; rfl
  rw [hlen];by_cases hj:j<l.length
  ·rw [getD_app_l 0 om];have:=h2 j;omega
  ·by_cases hj2:j=l.length
   ·rw [getD_app_r 0 om]; exact hf
   ·rw [getD_out 0 (by rw [List.length_append,h1]; simp; omega)];omega
def minI (a b:Int):Int:=if b<a then b else a
def prodC (l:List aH):Int:=l.foldl (fun p c=>minI (p*c.aK.length) 1099511627776) 1
def allV (l:List aH):Bool:=(List.range l.length).all fun i=>validC (l.getD i aI) i
def checkF (l:List aH):Int:=bif decide (16<(l.length:Int))||l.any bigC then 3 else bif !allV l then 1 else bif decide (4096<prodC l)||(facs l).any (fun n=>decide (4<n)) then 3 else 0
theorem allV_true {l:List aH} (h:∀i:Nat,i<l.length→validC (l.getD i aI) i=true):allV l=true:=by
 unfold allV;rw [List.all_eq_true];intro i hi;exact h i (List.mem_range.1 hi)
theorem allV_get {l:List aH} (h:allV l=true) (i:Nat) (hi:i<l.length):validC (l.getD i aI) i=true:=by
 unfold allV at h;rw [List.all_eq_true] at h;exact h i (List.mem_range.2 hi)
theorem allV_false {l:List aH} {i:Nat} (hi:i<l.length) (h:validC (l.getD i aI) i=false):allV l=false:=by
 cases hv:allV l with
 | false=>rfl
 | true=>rw [allV_get hv i hi] at h; cases h
theorem any_false_get {α:Type} {l:List α} {p:α→Bool} (d:α) (h:l.any p=false) (i:Nat) (hi:i<l.length):p (l.getD i d)=false:=by
 rw [List.any_eq_false] at h;simpa using h _ (getD_mem d hi)
theorem any_true_get {α:Type} {l:List α} {p:α→Bool} (d:α) {i:Nat} (hi:i<l.length) (h:p (l.getD i d)=true):l.any p=true:=List.any_eq_true.2 ⟨_,getD_mem d hi,h⟩
theorem any_none {α:Type} {l:List α} {p:α→Bool} (d:α) (h:∀i,i<l.length→p (l.getD i d)=false):l.any p=false:=by
 rw [List.any_eq_false];intro x hx;obtain ⟨i,hi,rfl⟩:=List.mem_iff_getElem.1 hx;have:=h i hi;rw [List.getD_eq_getElem?_getD,List.getElem?_eq_getElem hi] at this;simpa using this
theorem bigC_len {c:aH} (h:bigC c=false):c.aN.length≤8∧c.aK.length≤8:=by
 unfold bigC at h;simp at h;omega
theorem prodC_bound (l:List aH):0≤prodC l∧prodC l≤1099511627776:=by
 unfold prodC;induction l using snocInd with
 | nil=>simp
 | append_singleton l c ih=>
  rw [List.foldl_append];show 0≤minI (l.foldl _ 1*c.aK.length) 1099511627776∧minI (l.foldl _ 1*c.aK.length) 1099511627776≤1099511627776;have:0≤l.foldl (fun p c=>minI (p*(c:aH).aK.length) 1099511627776) 1*(c.aK.length:Int):=Int.mul_nonneg ih.1 om;generalize l.foldl (fun p c=>minI (p*(c:aH).aK.length) 1099511627776) 1*(c.aK.length:Int)=q at this;unfold minI;split<;>omega
theorem prod_mul (l:List aH) (n:Int) (h:0≤n∧n≤8):0≤prodC l*n∧prodC l*n≤1099511627776*8:=by
 have hb:=prodC_bound l;exact ⟨Int.mul_nonneg hb.1 h.1,Int.mul_le_mul hb.2 h.2 h.1 om⟩
theorem within_iff (n lo hi:Int):withinF n lo hi=true↔lo≤n∧n≤hi:=by
 unfold withinF;simp
theorem validC_false_par {c:aH} {k:Int} {j:Nat} (hj:j<c.aN.length) (h:withinF (c.aN.getD j 0) 0 (k - 1)=false):validC c k=false:=by
 unfold validC;have:c.aN.any (fun y=>!withinF y 0 (k - 1))=true:=any_true_get 0 hj (by show (!withinF (c.aN.getD j 0) 0 (k - 1))=true; rw [h]; rfl);rw [this];rfl
theorem validC_rest {c:aH} {k:Int} (h:∀j,j<c.aN.length→withinF (c.aN.getD j 0) 0 (k - 1)=true):validC c k=!(!choicesB c||decide (c.jw<0)||decide (c.eP<c.jw)||decide (4000000000<c.eP)):=by
 have e:c.aN.any (fun y=>!withinF y 0 (k - 1))=false:=any_none 0 fun j hj=>by show (!withinF (c.aN.getD j 0) 0 (k - 1))=false; rw [h j hj]; rfl
 unfold validC;rw [e];cases hc:choicesB c with
 | false=>cases (false||!withinF c.eP 0 4000000000||!withinF c.jw 0 c.eP)<;>rfl
 | true=>
  by_cases hg:(0≤c.jw∧c.jw≤c.eP)∧c.eP≤4000000000
  ·have h1:withinF c.eP 0 4000000000=true:=(within_iff _ _ _).2 om;have h2:withinF c.jw 0 c.eP=true:=(within_iff _ _ _).2 om;rw [h1,h2,decide_eq_false (show ¬ c.jw<0 by omega),decide_eq_false (show ¬ c.eP<c.jw by omega),decide_eq_false (show ¬ 4000000000<c.eP by omega)];rfl
  ·have h1:(false||!withinF c.eP 0 4000000000||!withinF c.jw 0 c.eP)=true:=by
    simp only [Bool.false_or,Bool.or_eq_true,Bool.not_eq_true',← Bool.not_eq_true,within_iff];omega
   have h2:(!true||decide (c.jw<0)||decide (c.eP<c.jw)||decide (4000000000<c.eP))=true:=by
    simp only [Bool.not_true,Bool.false_or,Bool.or_eq_true,decide_eq_true_eq];omega
   rw [h1,h2];rfl
theorem validC_par {c:aH} {k:Int} (h:validC c k=true):∀p∈c.aN,0≤p∧p<k:=by
 intro p hp;unfold validC at h;cases ha:c.aN.any (fun y=>!withinF y 0 (k - 1)) with
 | true=>rw [ha] at h; cases h
 | false=>
  rw [List.any_eq_false] at ha;have:=ha p hp;simp only [Bool.not_eq_true,Bool.not_eq_false'] at this;have:=(within_iff _ _ _).1 this;omega
theorem parOK_of {l:List aH} (h:∀i:Nat,i<l.length→validC (l.getD i aI) i=true) (hb:∀i:Nat,i<l.length→bigC (l.getD i aI)=false):ParOK l:=fun i hi=>⟨by have:=bigC_len (hb i hi); omega,validC_par (h i hi)⟩
theorem facs_take (l:List aH) (k:Nat):∀j,j<k→j<l.length→(facs l).getD j 0=(facs (l.take k)).getD j 0:=by
 induction l using snocInd with
 | nil=>intro j _ hj; cases hj
 | append_singleton l c ih=>
  intro j hjk hj;have hlen:=(facs_len_bound l).1;by_cases hk:k≤l.length
  ·rw [List.take_append_of_le_length hk,facs_snoc,getD_app_l 0 om];exact ih j hjk om
  ·rw [List.take_of_length_le (l:=l++[c]) (by rw [List.length_append]; simp; omega)]
theorem choices_pos {c:aH} (h:choicesB c=true):1≤c.aK.length:=by
 cases hc:c.aK with
 | nil=>
  unfold choicesB at h;rw [hc] at h;cases h1:c.eU==1<;>cases h2:(c.eU==2||c.eU==3)<;>cases h3:c.eU==4<;>cases h4:c.eU==5<;>rw [h1,h2,h3,h4] at h<;>simp at h
 | cons x r=>simp
theorem validC_choices {c:aH} {k:Int} (h:validC c k=true):choicesB c=true:=by
 unfold validC at h;cases hb:(c.aN.any (fun y=>!withinF y 0 (k - 1))||!withinF c.eP 0 4000000000||!withinF c.jw 0 c.eP) with
 | true=>rw [hb] at h; cases h
 | false=>rw [hb] at h; exact h
theorem prodC_snoc (l:List aH) (c:aH):prodC (l++[c])=minI (prodC l*c.aK.length) 1099511627776:=by
 unfold prodC;rw [List.foldl_append];rfl
theorem prodC_mono (l:List aH):(∀c∈l,1≤c.aK.length)→∀k,prodC (l.take k)≤prodC l:=by
 induction l using snocInd with
 | nil=>intro _ k; rw [List.take_nil]; exact Int.le_refl _
 | append_singleton l c ih=>
  intro h k;by_cases hk:k≤l.length
  ·rw [List.take_append_of_le_length hk,prodC_snoc];have h1:=ih (fun d hd=>h d (List.mem_append_left _ hd)) k;have hb:=prodC_bound l;have hc:=h c (List.mem_append_right _ (List.mem_singleton.2 rfl));have:prodC l*1≤prodC l*c.aK.length:=Int.mul_le_mul_of_nonneg_left om hb.1;rw [Int.mul_one] at this;generalize prodC l*(c.aK.length:Int)=q at *;unfold minI;split<;>omega
  ·rw [List.take_of_length_le (l:=l++[c]) (by rw [List.length_append]; simp; omega)];exact Int.le_refl _
def settB (l:List aH) (s:List Int):Bool:=((s.length:Int)==(l.length:Int))&&(List.range l.length).all fun i=>withinF (s.getD i 0) 0 ((l.getD i aI).aK.length - 1)
theorem rangeAll_true {n:Nat} {p:Nat→Bool} (h:∀i,i<n→p i=true):(List.range n).all p=true:=by
 rw [List.all_eq_true];intro i hi;exact h i (List.mem_range.1 hi)
theorem rangeAll_get {n:Nat} {p:Nat→Bool} (h:(List.range n).all p=true) {i:Nat} (hi:i<n):p i=true:=by
 rw [List.all_eq_true] at h;exact h i (List.mem_range.2 hi)
theorem rangeAll_false {n:Nat} {p:Nat→Bool} {i:Nat} (hi:i<n) (h:p i=false):(List.range n).all p=false:=by
 cases hv:(List.range n).all p with
 | false=>rfl
 | true=>rw [rangeAll_get hv hi] at h; cases h
def ChOK (l:List aH):Prop:=∀i:Nat,i<l.length→(l.getD i aI).aK.length≤2000000
def limsB (l:List aH) (m:List bK):Bool:=(checkF l==0)&&decide ((m.length:Int)≤32)&&!(m.any (badL l.length))
theorem badL_iff (n:Int) (x:bK):badL n x=(decide (x.dW<0)||decide (n≤x.dW)||decide (x.jw<0)||decide (x.eP<x.jw)||decide (4000000000<x.eP)):=by
 unfold badL;by_cases hg:(0≤x.dW∧x.dW≤n - 1)∧(0≤x.eP∧x.eP≤4000000000)∧(0≤x.jw∧x.jw≤x.eP)
 ·rw [(within_iff _ _ _).2 hg.1,(within_iff _ _ _).2 hg.2.1,(within_iff _ _ _).2 hg.2.2,decide_eq_false (show ¬ x.dW<0 by omega),decide_eq_false (show ¬ n≤x.dW by omega),decide_eq_false (show ¬ x.jw<0 by omega),decide_eq_false (show ¬ x.eP<x.jw by omega),decide_eq_false (show ¬ 4000000000<x.eP by omega)];rfl
 ·have h1:(!withinF x.dW 0 (n - 1)||!withinF x.eP 0 4000000000||!withinF x.jw 0 x.eP)=true:=by
   simp only [Bool.or_eq_true,Bool.not_eq_true',← Bool.not_eq_true,within_iff];omega
  have h2:(decide (x.dW<0)||decide (n≤x.dW)||decide (x.jw<0)||decide (x.eP<x.jw)||decide (4000000000<x.eP))=true:=by
   simp only [Bool.or_eq_true,decide_eq_true_eq];omega
  rw [h1,h2]
def PChOK (c:aH) (k:Int):Prop:=(c.eU=1)∨(c.eU=4∧0≤k∧k<c.aK.length∧0≤c.aK.getD k.toNat 0∧c.aK.getD k.toNat 0<c.aN.length)∨(c.eU≠4∧0<c.aN.length)
def parF (c:aH) (k:Int):Int:=bif c.eU==1 then -1 else bif c.eU==4 then c.aN.getD (c.aK.getD k.toNat 0).toNat 0 else c.aN.getD 0 0
def offR:bH:=⟨0,1⟩
def isOff (r:bH):Bool:=(r.iU==0)&&((r.gW==1)&&true)
def rt1 (acc:List bH) (c:aH) (k:Int):bH:=
 bif decide (parF c k<0) then ⟨c.aK.getD k.toNat 0,1⟩ else
 bif isOff (acc.getD (parF c k).toNat dO)||((c.eU==5)&&(c.aK.getD k.toNat 0==0)) then offR else
 bif c.eU==2 then (overR (acc.getD (parF c k).toNat dO) (c.aK.getD k.toNat 0)).1 else
 bif c.eU==3 then (timesR (acc.getD (parF c k).toNat dO) (c.aK.getD k.toNat 0)).1 else acc.getD (parF c k).toNat dO
def ratesN (l:List aH) (s:List Int):Nat→List bH
 | 0=>[]
 | i+1=>ratesN l s i++[rt1 (ratesN l s i) (l.getD i aI) (s.getD i 0)]
def ratesF (l:List aH) (s:List Int):List bH:=ratesN l s l.length
theorem ratesN_len (l:List aH) (s:List Int) (i:Nat):(ratesN l s i).length=i:=by
 induction i with
 | zero=>rfl
 | succ i ih=>simp [ratesN,ih]
structure Good (l:List aH) (s:List Int):Prop where
 small:l.length≤1000
 len:s.length=l.length
 aK:∀i,i<l.length→0≤s.getD i 0∧s.getD i 0<(l.getD i aI).aK.length
 pch:∀i,i<l.length→PChOK (l.getD i aI) (s.getD i 0)
 aN:∀i,i<l.length→parF (l.getD i aI) (s.getD i 0)<i
theorem diffG_all {lo hi:Int}:∀(l pre:List Int),diffG lo hi pre l=true→∀x∈l,lo≤x∧x≤hi:=by
 intro l;induction l with
 | nil=>intro _ _ x hx; cases hx
 | cons n r ih=>
  intro pre h x hx;cases hb:(!(withinF n lo hi)||pre.contains n) with
  | true=>rw [diffG_f hb] at h; cases h
  | false=>
   rw [diffG_t hb] at h;rcases List.mem_cons.1 hx with rfl | hx
   ·rw [Bool.or_eq_false_iff] at hb;have:=hb.1;simp only [Bool.not_eq_false'] at this;exact (within_iff _ _ _).1 this
   ·exact ih _ h x hx
theorem choicesB_cases {c:aH} (h:choicesB c=true):
  (c.eU=1∧c.aN=[]∧c.aK.length=1∧1≤c.aK.getD 0 0∧c.aK.getD 0 0≤4000000000)∨((c.eU=2∨c.eU=3)∧c.aN.length=1∧0<c.aK.length∧∀x∈c.aK,1≤x∧x≤64)
  ∨ (c.eU=4∧0<c.aK.length∧∀x∈c.aK,0≤x∧x≤(c.aN.length:Int) - 1)∨(c.eU=5∧c.aN.length=1∧c.aK=[0,1]):=by
 unfold choicesB at h;cases h1:c.eU==1 with
 | true=>
  rw [h1] at h;simp only [cond_true,Bool.and_eq_true,within_iff] at h;obtain ⟨⟨h2,h3⟩,h4⟩:=h;left;have h2:c.aN.length=0:=by have:=eq_of_beq h2; omega
  exact ⟨eq_of_beq h1,List.length_eq_zero_iff.1 h2,by have:=eq_of_beq h3; omega,h4⟩
 | false=>
  rw [h1] at h;cases h2:(c.eU==2||c.eU==3) with
  | true=>
   rw [h2] at h;simp only [cond_true,cond_false,Bool.and_eq_true] at h;obtain ⟨⟨h3,h4⟩,h5⟩:=h;right; left;refine ⟨?_,by have:=eq_of_beq h3; omega,by have:=of_decide_eq_true h4; omega,diffG_all _ _ h5⟩;rw [Bool.or_eq_true] at h2;exact h2.imp eq_of_beq eq_of_beq
  | false=>
   rw [h2] at h;cases h3:c.eU==4 with
   | true=>
    rw [h3] at h;simp only [cond_true,cond_false,Bool.and_eq_true] at h;right; right; left;exact ⟨eq_of_beq h3,by have:=of_decide_eq_true h.1; omega,diffG_all _ _ h.2⟩
   | false=>
    rw [h3] at h;cases h4:c.eU==5 with
    | true=>
     rw [h4] at h;simp only [cond_true,cond_false,Bool.and_eq_true] at h;right; right; right;exact ⟨eq_of_beq h4,by have:=eq_of_beq h.1; omega,eq_of_beq h.2⟩
    | false=>rw [h4] at h; cases h
structure Fine (l:List aH):Prop where
 len:l.length≤16
 big:∀i:Nat,i<l.length→(l.getD i aI).aN.length≤8∧(l.getD i aI).aK.length≤8
 valid:∀i:Nat,i<l.length→validC (l.getD i aI) i=true
 prod:prodC l≤4096
 facs:∀i:Nat,i<l.length→(facs l).getD i 0≤4
theorem fine_of {l:List aH} (h:checkF l=0):Fine l:=by
 unfold checkF at h;cases h1:(decide (16<(l.length:Int))||l.any bigC) with
 | true=>rw [h1] at h; cases h
 | false=>
  rw [h1] at h;cases h2:allV l with
  | false=>rw [h2] at h; cases h
  | true=>
   rw [h2] at h;cases h3:(decide (4096<prodC l)||(facs l).any (fun n=>decide (4<n))) with
   | true=>rw [h3] at h; cases h
   | false=>
    rw [Bool.or_eq_false_iff] at h1 h3;refine ⟨by have:=of_decide_eq_false h1.1; omega,fun i hi=>bigC_len (any_false_get aI h1.2 i hi),allV_get h2,by have:=of_decide_eq_false h3.1; omega,fun i hi=>?_⟩;have:=any_false_get 0 h3.2 i (by rw [(facs_len_bound l).1]; exact hi);have:=of_decide_eq_false this;omega
theorem sett_get {l:List aH} {s:List Int} (h:settB l s=true):s.length=l.length∧∀i:Nat,i<l.length→0≤s.getD i 0∧s.getD i 0<(l.getD i aI).aK.length:=by
 unfold settB at h;rw [Bool.and_eq_true] at h;have hl:s.length=l.length:=by have:=eq_of_beq h.1; omega
 refine ⟨hl,fun i hi=>?_⟩;have:=h.2;rw [List.all_eq_true] at this;have:=this i (List.mem_range.2 om);have:=(within_iff _ _ _).1 this;omega
theorem par_fine {c:aH} {i:Nat} {k:Int} (hv:validC c i=true) (hk:0≤k∧k<c.aK.length):PChOK c k∧parF c k<i:=by
 have hp:=validC_par hv;unfold PChOK parF;rcases choicesB_cases (validC_choices hv) with ⟨h1,h2,h3,h4⟩ | ⟨h1,h2,h3,h4⟩ | ⟨h1,h2,h3⟩ | ⟨h1,h2,h3⟩
 ·refine ⟨.inl h1,?_⟩;rw [h1];show (-1:Int)<i;omega
 ·have hn1:(c.eU==1)=false:=by rcases h1 with h1 | h1<;>rw [h1]<;>rfl
  have hn4:(c.eU==4)=false:=by rcases h1 with h1 | h1<;>rw [h1]<;>rfl
  refine ⟨.inr (.inr ⟨fun e=>(by rw [e] at hn4; cases hn4),om⟩),?_⟩;rw [hn1,hn4];exact (hp _ (getD_mem 0 om)).2
 ·have hm:=h3 _ (getD_mem 0 (i:=k.toNat) om);refine ⟨.inr (.inl ⟨h1,hk.1,hk.2,hm.1,om⟩),?_⟩;rw [h1];exact (hp _ (getD_mem 0 (i:=(c.aK.getD k.toNat 0).toNat) om)).2
 ·refine ⟨.inr (.inr ⟨by rw [h1]; decide,om⟩),?_⟩;rw [h1];exact (hp _ (getD_mem 0 (i:=0) om)).2
theorem good_of {l:List aH} {s:List Int} (h:Fine l) (hs:settB l s=true):Good l s:=by
 obtain ⟨h1,h2⟩:=sett_get hs;exact ⟨by have:=h.len; omega,h1,h2,fun i hi=>(par_fine (h.valid i hi) (h2 i hi)).1,fun i hi=>(par_fine (h.valid i hi) (h2 i hi)).2⟩
def ratesE (l:List aH) (s:List Int):List bH×Int:=bif checkF l != 0 then ([],checkF l) else bif !settB l s then ([],1) else (ratesF l s,0)
def offL (r:List bH) (x:bK):Bool:=isOff (r.getD x.dW.toNat dO)||!withinR (r.getD x.dW.toNat dO) x.jw x.eP
def ownX (r:bH) (c:aH):Bool:=((!isOff r)&&(c.eP != 0))&&!withinR r c.jw c.eP
def ownB (l:List aH) (r:List bH):Bool:=(List.range l.length).all fun i=>!ownX (r.getD i dO) (l.getD i aI)
def meetsF (l:List aH) (s:List Int) (m:List bK):Bool:=(limsB l m&&settB l s)&&(ownB l (ratesF l s)&&!m.any (offL (ratesF l s)))
theorem lims_get {l:List aH} {m:List bK} (h:limsB l m=true):checkF l=0∧m.length≤32∧∀i,i<m.length→badL l.length (m.getD i cB)=false:=by
 unfold limsB at h;rw [Bool.and_eq_true,Bool.and_eq_true] at h;exact ⟨eq_of_beq h.1.1,by have:=of_decide_eq_true h.1.2; omega,fun i hi=>any_false_get cB (by simpa using h.2) i hi⟩
theorem badL_get {n:Int} {x:bK} (h:badL n x=false):(0≤x.dW∧x.dW<n)∧0≤x.jw∧x.jw≤x.eP∧x.eP≤4000000000:=by
 rw [badL_iff] at h;simp only [Bool.or_eq_false_iff,decide_eq_false_iff_not] at h;omega
def red (a b:Nat):bH:=⟨((a / Nat.gcd a b:Nat):Int),((b / Nat.gcd a b:Nat):Int)⟩
theorem red_valid (a b:Nat) (hb:0<b) (ha':a≤144115188075855872) (hb':b≤16777216):validR (red a b)=true:=by
 have g0:0<Nat.gcd a b:=Nat.gcd_pos_of_pos_right a hb;have h1:a / Nat.gcd a b≤a:=Nat.div_le_self _ _;have h2:b / Nat.gcd a b≤b:=Nat.div_le_self _ _;have h3:0<b / Nat.gcd a b:=Nat.div_pos (Nat.le_of_dvd hb (Nat.gcd_dvd_right _ _)) g0;have h4:Nat.gcd (a / Nat.gcd a b) (b / Nat.gcd a b)=1:=by
  rw [Nat.gcd_div (Nat.gcd_dvd_left _ _) (Nat.gcd_dvd_right _ _),Nat.div_self g0]
 unfold validR red gcdI;simp only [Int.toNat_natCast,h4];generalize a / Nat.gcd a b=n at *;generalize b / Nat.gcd a b=d at *;simp;omega
theorem newR_red (a b:Nat) (hb:0<b) (ha':a≤144115188075855872) (hb':b≤16777216):newR a b=(red a b,0):=by
 have hv:=red_valid a b hb ha' hb';have e1:gcdI (a:Int) (b:Int)=(Nat.gcd a b:Nat):=by unfold gcdI; rw [Int.toNat_natCast,Int.toNat_natCast]
 have e2:(⟨(a:Int).tdiv (gcdI a b),(b:Int).tdiv (gcdI a b)⟩:bH)=red a b:=by
  rw [e1,← Int.ofNat_tdiv,← Int.ofNat_tdiv];rfl
 unfold newR;have c:(decide ((a:Int)<0)||decide ((b:Int)<1))=false:=by simp; omega
 rw [c,e2,hv];rfl
theorem red_parts (a b:Nat) (hb:0<b):∃g n d:Nat,0<g∧0<d∧g*n=a∧g*d=b∧red a b=⟨n,d⟩∧n≤a∧d≤b:=by
 have g0:0<Nat.gcd a b:=Nat.gcd_pos_of_pos_right a hb;refine ⟨Nat.gcd a b,a / Nat.gcd a b,b / Nat.gcd a b,g0,Nat.div_pos (Nat.le_of_dvd hb (Nat.gcd_dvd_right _ _)) g0,Nat.mul_div_cancel' (Nat.gcd_dvd_left _ _),Nat.mul_div_cancel' (Nat.gcd_dvd_right _ _),rfl,Nat.div_le_self _ _,Nat.div_le_self _ _⟩
theorem factorB_t {k:Int} (h:1≤k∧k≤64):factorB k=true:=by
 unfold factorB;simp;omega
theorem over_red (a b:Nat) (k:Int) (hb:0<b) (hk:1≤k∧k≤64) (ha':a≤144115188075855872) (hb':b*k.toNat≤16777216):overR (red a b) k=(red a (b*k.toNat),0):=by
 have hbk:b≤b*k.toNat:=Nat.le_mul_of_pos_right _ om;have hv:=red_valid a b hb ha' om;unfold overR;rw [hv,factorB_t hk];simp only [Bool.not_true,cond_false];obtain ⟨g,n,d,g0,d0,e1,e2,e3,_,_⟩:=red_parts a b hb;rw [e3];have hkk:k=(k.toNat:Int):=by omega
 have hm:=newR_mul g n (d*k.toNat) g0 (Nat.mul_pos d0 om);rw [e1,← Nat.mul_assoc,e2] at hm;show newR (n:Int) ((d:Int)*k)=_;rw [hkk,← Int.natCast_mul,← hm,Int.toNat_natCast];exact newR_red a (b*k.toNat) om ha' hb'
theorem times_red (a b:Nat) (k:Int) (hb:0<b) (hk:1≤k∧k≤64) (ha':a*k.toNat≤144115188075855872) (hb':b≤16777216):timesR (red a b) k=(red (a*k.toNat) b,0):=by
 have hak:a≤a*k.toNat:=Nat.le_mul_of_pos_right _ om;have hv:=red_valid a b hb om hb';unfold timesR;rw [hv,factorB_t hk];simp only [Bool.not_true,cond_false];obtain ⟨g,n,d,g0,d0,e1,e2,e3,e4,e5⟩:=red_parts a b hb;rw [e3];obtain ⟨k,rfl⟩:=Int.eq_ofNat_of_zero_le (show 0≤k by omega);have hk0:0<k:=by omega
 have eg:gcdI ((k:Nat):Int) ((d:Nat):Int)=(Nat.gcd k d:Nat):=by unfold gcdI; rw [Int.toNat_natCast,Int.toNat_natCast]
 have q0:0<Nat.gcd k d:=Nat.gcd_pos_of_pos_left d hk0;have qk:Nat.gcd k d*(k / Nat.gcd k d)=k:=Nat.mul_div_cancel' (Nat.gcd_dvd_left _ _);have qd:Nat.gcd k d*(d / Nat.gcd k d)=d:=Nat.mul_div_cancel' (Nat.gcd_dvd_right _ _);have qk0:0<k / Nat.gcd k d:=Nat.div_pos (Nat.le_of_dvd hk0 (Nat.gcd_dvd_left _ _)) q0;have qd0:0<d / Nat.gcd k d:=Nat.div_pos (Nat.le_of_dvd d0 (Nat.gcd_dvd_right _ _)) q0;have qkk:k / Nat.gcd k d≤k:=Nat.div_le_self _ _;simp only [Int.toNat_natCast] at ha' ⊢;rw [eg,← Int.ofNat_tdiv,← Int.ofNat_tdiv];have hc:decide ((144115188075855872:Int).tdiv ((k / Nat.gcd k d:Nat):Int)<(n:Int))=false:=by
  apply decide_eq_false;have:n≤144115188075855872 / (k / Nat.gcd k d):=by
   rw [Nat.le_div_iff_mul_le qk0];exact Nat.le_trans (Nat.mul_le_mul e4 qkk) ha'
  have e:(144115188075855872:Int).tdiv ((k / Nat.gcd k d:Nat):Int)=((144115188075855872 / (k / Nat.gcd k d):Nat):Int):=by
   rw [Int.ofNat_tdiv];rfl
  rw [e];omega
 rw [hc];simp only [cond_false];rw [← Int.natCast_mul];have m1:=newR_mul (Nat.gcd k d) (n*(k / Nat.gcd k d)) (d / Nat.gcd k d) q0 qd0;rw [Nat.mul_left_comm,qk,qd] at m1;have m2:=newR_mul g (n*k) d g0 d0;rw [← Nat.mul_assoc,e1,e2] at m2;rw [← m1,← m2];exact newR_red (a*k) b hb ha' hb'
theorem red_one (a:Nat):red a 1=⟨a,1⟩:=by
 unfold red;rw [Nat.gcd_one_right,Nat.div_one,Nat.div_one];rfl
theorem red_pos (a b:Nat) (ha:0<a):0<(red a b).iU:=by
 have:0<a / Nat.gcd a b:=Nat.div_pos (Nat.le_of_dvd ha (Nat.gcd_dvd_left _ _)) (Nat.gcd_pos_of_pos_left b ha);show (0:Int)<((a / Nat.gcd a b:Nat):Int);omega
theorem red_on (a b:Nat) (ha:0<a):isOff (red a b)=false:=by
 have:=red_pos a b ha;unfold isOff;have:((red a b).iU==0)=false:=by
  rw [← Bool.not_eq_true];intro e;have:=eq_of_beq e;omega
 rw [this];rfl
theorem off_times (k:Int) (hk:1≤k∧k≤64):timesR offR k=(offR,0):=by
 have h:=times_red 0 1 k (by decide) hk (by simp) (by decide);rw [Nat.zero_mul] at h;exact h
theorem off_over (k:Int) (hk:1≤k∧k≤64):overR offR k=(offR,0):=by
 have h:=over_red 0 1 k (by decide) hk (by decide) om;have e:red 0 (1*k.toNat)=offR:=by
  unfold red offR;rw [Nat.gcd_zero_left,Nat.zero_div,Nat.one_mul,Nat.div_self om];rfl
 rw [e] at h;exact h
theorem ratesN_pre (l:List aH) (s:List Int) (n j:Nat) (h:j<n):(ratesN l s n).getD j dO=rt1 (ratesN l s j) (l.getD j aI) (s.getD j 0):=by
 induction n with
 | zero=>omega
 | succ n ih=>
  rw [ratesN];by_cases hj:j<n
  ·rw [getD_app_l _ (by rw [ratesN_len]; exact hj)];exact ih hj
  ·have:j=n:=by omega
   subst this;rw [getD_app_r _ (ratesN_len l s j).symm]
theorem rt1_congr {acc acc':List bH} {c:aH} {k:Int} (h:0≤parF c k→acc.getD (parF c k).toNat dO=acc'.getD (parF c k).toNat dO):rt1 acc c k=rt1 acc' c k:=by
 unfold rt1;by_cases hp:parF c k<0
 ·rw [decide_eq_true hp]; rfl
 ·rw [h om]
theorem ratesF_eq {l:List aH} {s:List Int} (h:Good l s) (j:Nat) (hj:j<l.length):(ratesF l s).getD j dO=rt1 (ratesF l s) (l.getD j aI) (s.getD j 0):=by
 unfold ratesF;rw [ratesN_pre l s l.length j hj];refine rt1_congr fun h0=>?_;have:=h.aN j hj;rw [ratesN_pre l s l.length _ om,ratesN_pre l s j _ om]
theorem parMax_ge (acc:List Int) (l:List Int) (p:Int) (hp:p∈l):acc.getD p.toNat 0≤parMax acc l:=by
 have mono:∀(l:List Int) (n:Int),n≤l.foldl (fun n p=>maxI n (acc.getD p.toNat 0)) n:=by
  intro l;induction l with
  | nil=>intro n; exact Int.le_refl _
  | cons q r ih=>
   intro n;have:=ih (maxI n (acc.getD q.toNat 0));have h2:n≤maxI n (acc.getD q.toNat 0):=by unfold maxI; split<;>omega
   exact Int.le_trans h2 this
 have key:∀(l:List Int) (n:Int),p∈l→acc.getD p.toNat 0≤l.foldl (fun n p=>maxI n (acc.getD p.toNat 0)) n:=by
  intro l;induction l with
  | nil=>intro n h; cases h
  | cons q r ih=>
   intro n h;rcases List.mem_cons.1 h with rfl | h
   ·have:=mono r (maxI n (acc.getD p.toNat 0));have h2:acc.getD p.toNat 0≤maxI n (acc.getD p.toNat 0):=by unfold maxI; split<;>omega
    exact Int.le_trans h2 this
   ·exact ih _ h
 exact key l 0 hp
theorem facs_eq {l:List aH} (hp:ParOK l) (j:Nat) (hj:j<l.length):∀p∈(l.getD j aI).aN,(facs l).getD p.toNat 0+(bif isDM (l.getD j aI) then 1 else 0)≤(facs l).getD j 0:=by
 intro p hpm;have hpj:=(hp j hj).2 p hpm;have e1:(facs l).getD j 0=fac1 (facs (l.take j)) (l.getD j aI):=by
  rw [facs_take l (j+1) j om hj,take_snoc aI hj,facs_snoc,getD_app_r _ (by rw [(facs_len_bound _).1,take_len om])]
 have e2:(facs l).getD p.toNat 0=(facs (l.take j)).getD p.toNat 0:=facs_take l j p.toNat om om;have:=parMax_ge (facs (l.take j)) (l.getD j aI).aN p hpm;rw [e1,e2];unfold fac1;cases isDM (l.getD j aI)<;>simp only [cond_true,cond_false]<;>omega
structure Made (l:List aH):Prop where
 ok:checkF l=0
 pos:1≤l.length
 fix:∀i,i<l.length→(l.getD i aI).eU=1→(l.getD i aI).aK.getD 0 0≤24000000
structure Frac (F a b:Nat) (f:Int):Prop where
 a0:0<a
 b0:0<b
 f0:0≤f
 al:a≤F*64 ^ f.toNat
 bl:b≤64 ^ f.toNat
theorem pow_le4 {f:Int} (h:f≤4):64 ^ f.toNat≤16777216:=by
 have:f.toNat≤4:=by omega
 calc 64 ^ f.toNat≤64 ^ 4:=Nat.pow_le_pow_right (by decide) this
  _=16777216:=by decide
theorem Frac.mono {F a b:Nat} {f g:Int} (h:Frac F a b f) (hfg:f≤g):Frac F a b g:=by
 have hf:=h.f0;have:64 ^ f.toNat≤64 ^ g.toNat:=Nat.pow_le_pow_right (by decide) om;exact ⟨h.a0,h.b0,om,Nat.le_trans h.al (Nat.mul_le_mul_left _ this),Nat.le_trans h.bl this⟩
theorem Frac.times {F a b:Nat} {f g:Int} (h:Frac F a b f) (hfg:f+1≤g) {k:Nat} (hk:1≤k∧k≤64):Frac F (a*k) b g:=by
 have hf:=h.f0;have:64 ^ f.toNat*64≤64 ^ g.toNat:=by
  rw [← Nat.pow_succ];exact Nat.pow_le_pow_right (by decide) om
 refine ⟨Nat.mul_pos h.a0 om,h.b0,om,?_,?_⟩
 ·calc a*k≤(F*64 ^ f.toNat)*64:=Nat.mul_le_mul h.al hk.2
   _=F*(64 ^ f.toNat*64):=Nat.mul_assoc _ _ _
   _≤F*64 ^ g.toNat:=Nat.mul_le_mul_left _ this
 ·exact Nat.le_trans h.bl (Nat.le_trans (Nat.le_mul_of_pos_right _ (by decide)) this)
theorem Frac.over {F a b:Nat} {f g:Int} (h:Frac F a b f) (hfg:f+1≤g) {k:Nat} (hk:1≤k∧k≤64):Frac F a (b*k) g:=by
 have hf:=h.f0;have h1:64 ^ f.toNat*64≤64 ^ g.toNat:=by
  rw [← Nat.pow_succ];exact Nat.pow_le_pow_right (by decide) om
 have h2:64 ^ f.toNat≤64 ^ g.toNat:=Nat.pow_le_pow_right (by decide) om;exact ⟨h.a0,Nat.mul_pos h.b0 om,om,Nat.le_trans h.al (Nat.mul_le_mul_left _ h2),Nat.le_trans (Nat.mul_le_mul h.bl hk.2) h1⟩
theorem Frac.small {F a b:Nat} {f:Int} (h:Frac F a b f) (hf:f≤4) (hF:F≤4294967296):a≤F*16777216∧a≤144115188075855872∧b≤16777216:=by
 have hp:=pow_le4 hf;have h1:=Nat.le_trans h.al (Nat.mul_le_mul_left F hp);exact ⟨h1,Nat.le_trans h1 (Nat.le_trans (Nat.mul_le_mul_right 16777216 hF) (by decide)),Nat.le_trans h.bl hp⟩
def chF (c:aH) (k:Int):Int:=c.aK.getD k.toNat 0
def upR (acc:List bH) (c:aH) (k:Int):bH:=acc.getD (parF c k).toNat dO
structure Step (c:aH) (i:Nat) (k:Int):Prop where
 p0:0≤parF c k
 pi:parF c k<i
 mem:parF c k∈c.aN
 n1:c.eU≠1
theorem par_mem {c:aH} {i:Nat} {k:Int} (hv:validC c i=true) (hk:0≤k∧k<c.aK.length) (hn:c.eU≠1):Step c i k:=by
 have hp:=validC_par hv;have key:parF c k∈c.aN:=by
  unfold parF;rcases choicesB_cases (validC_choices hv) with ⟨h1,h2,h3,h4⟩ | ⟨h1,h2,h3,h4⟩ | ⟨h1,h2,h3⟩ | ⟨h1,h2,h3⟩
  ·exact absurd h1 hn
  ·have hn1:(c.eU==1)=false:=by rcases h1 with h1 | h1<;>rw [h1]<;>rfl
   have hn4:(c.eU==4)=false:=by rcases h1 with h1 | h1<;>rw [h1]<;>rfl
   rw [hn1,hn4];exact getD_mem 0 om
  ·have hm:=h3 _ (getD_mem 0 (i:=k.toNat) om);rw [h1];exact getD_mem 0 (i:=(c.aK.getD k.toNat 0).toNat) om
  ·rw [h1];exact getD_mem 0 (i:=0) om
 have:=hp _ key;exact ⟨this.1,this.2,key,hn⟩
theorem rt1_fix {c:aH} {i:Nat} {k:Int} (hv:validC c i=true) (hk:0≤k∧k<c.aK.length) (h:c.eU=1) (acc:List bH):chF c k=c.aK.getD 0 0∧1≤chF c k∧chF c k≤4000000000∧rt1 acc c k=⟨chF c k,1⟩∧parF c k = -1:=by
 rcases choicesB_cases (validC_choices hv) with ⟨h1,h2,h3,h4⟩ | ⟨h1,h2,h3,h4⟩ | ⟨h1,h2,h3⟩ | ⟨h1,h2,h3⟩
 ·have e:chF c k=c.aK.getD 0 0:=by unfold chF; rw [show k.toNat=0 by omega]
  have hp:parF c k = -1:=by unfold parF; rw [h]; rfl
  refine ⟨e,om,om,?_,hp⟩;unfold rt1;rw [hp];rfl
 ·rcases h1 with h1 | h1<;>omega
 ·omega
 ·omega
theorem rt1_step {c:aH} {i:Nat} {k:Int} (hv:validC c i=true) (hk:0≤k∧k<c.aK.length) (hn:c.eU≠1) (acc:List bH):
  ((isOff (upR acc c k)=true∨(c.eU=5∧chF c k=0))∧rt1 acc c k=offR)∨
  (isOff (upR acc c k)=false∧((c.eU=2∧isDM c=true∧(1≤chF c k∧chF c k≤64)∧rt1 acc c k=(overR (upR acc c k) (chF c k)).1)∨
    (c.eU=3∧isDM c=true∧(1≤chF c k∧chF c k≤64)∧rt1 acc c k=(timesR (upR acc c k) (chF c k)).1)∨
    ((c.eU=4∨(c.eU=5∧chF c k=1))∧isDM c=false∧rt1 acc c k=upR acc c k))):=by
 have hs:=par_mem hv hk hn;have hp:decide (parF c k<0)=false:=decide_eq_false (by have:=hs.p0; omega);have e0:rt1 acc c k=bif isOff (upR acc c k)||((c.eU==5)&&(chF c k==0)) then offR else bif c.eU==2 then (overR (upR acc c k) (chF c k)).1 else bif c.eU==3 then (timesR (upR acc c k) (chF c k)).1 else upR acc c k:=by
  unfold rt1;rw [hp];rfl
 have hmem:chF c k∈c.aK:=getD_mem 0 om;cases ho:isOff (upR acc c k) with
 | true=>left; exact ⟨.inl rfl,by rw [e0,ho]; rfl⟩
 | false=>
  rw [ho] at e0;rcases choicesB_cases (validC_choices hv) with ⟨h1,h2,h3,h4⟩ | ⟨h1,h2,h3,h4⟩ | ⟨h1,h2,h3⟩ | ⟨h1,h2,h3⟩
  ·exact absurd h1 hn
  ·right;refine ⟨rfl,?_⟩;rcases h1 with h1 | h1
   ·left;refine ⟨h1,by unfold isDM; rw [h1]; rfl,h4 _ hmem,?_⟩;rw [e0,h1];rfl
   ·right; left;refine ⟨h1,by unfold isDM; rw [h1]; rfl,h4 _ hmem,?_⟩;rw [e0,h1];rfl
  ·right;refine ⟨rfl,.inr (.inr ⟨.inl h1,by unfold isDM; rw [h1]; rfl,?_⟩)⟩;rw [e0,h1];rfl
  ·rw [h3] at hmem;by_cases hc:chF c k=0
   ·left;refine ⟨.inr ⟨h1,hc⟩,?_⟩;rw [e0,h1,hc];rfl
   ·have hc1:chF c k=1:=by simp at hmem; omega
    right;refine ⟨rfl,.inr (.inr ⟨.inr ⟨h1,hc1⟩,by unfold isDM; rw [h1]; rfl,?_⟩)⟩;rw [e0,h1,hc1];rfl
theorem parOK_fine {l:List aH} (h:Fine l):ParOK l:=fun i hi=>⟨by have:=(h.big i hi).1; omega,validC_par (h.valid i hi)⟩
def st1 (acc:List bH) (on:List Bool) (c:aH) (k:Int):bH×Bool:=
 bif c.eU==1 then (⟨c.aK.getD k.toNat 0,1⟩,true) else
 bif c.eU==2 then ((overR (acc.getD (parF c k).toNat dO) (c.aK.getD k.toNat 0)).1,on.getD (parF c k).toNat false) else
 bif c.eU==3 then ((timesR (acc.getD (parF c k).toNat dO) (c.aK.getD k.toNat 0)).1,on.getD (parF c k).toNat false) else
 bif (c.eU==5)&&(c.aK.getD k.toNat 0==0) then (offR,false) else (acc.getD (parF c k).toNat dO,on.getD (parF c k).toNat false)
def stN (l:List aH) (s:List Int):Nat→List bH×List Bool
 | 0=>([],[])
 | i+1=>((stN l s i).1++[(st1 (stN l s i).1 (stN l s i).2 (l.getD i aI) (s.getD i 0)).1],(stN l s i).2++[(st1 (stN l s i).1 (stN l s i).2 (l.getD i aI) (s.getD i 0)).2])
def stF (l:List aH) (s:List Int):List bH×List Bool:=stN l s l.length
theorem stN_len (l:List aH) (s:List Int) (i:Nat):(stN l s i).1.length=i∧(stN l s i).2.length=i:=by
 induction i with
 | zero=>exact ⟨rfl,rfl⟩
 | succ i ih=>simp [stN,ih]
def Up (l:List aH) (s:List Int):Prop:=∀i:Nat,i<l.length→(l.getD i aI).eU≠1→0≤parF (l.getD i aI) (s.getD i 0)
theorem up_of {l:List aH} {s:List Int} (h:Fine l) (hs:settB l s=true):Up l s:=by
 obtain ⟨_,h2⟩:=sett_get hs;exact fun i hi hk=>(par_mem (h.valid i hi) (h2 i hi) hk).p0
theorem stN_pre (l:List aH) (s:List Int) (n j:Nat) (h:j<n):(stN l s n).1.getD j dO=(st1 (stN l s j).1 (stN l s j).2 (l.getD j aI) (s.getD j 0)).1∧(stN l s n).2.getD j false=(st1 (stN l s j).1 (stN l s j).2 (l.getD j aI) (s.getD j 0)).2:=by
 induction n with
 | zero=>omega
 | succ n ih=>
  rw [stN];have hl:=stN_len l s n;by_cases hj:j<n
  ·rw [getD_app_l _ om,getD_app_l _ om];exact ih hj
  ·have:j=n:=by omega
   subst this;rw [getD_app_r _ hl.1.symm,getD_app_r _ hl.2.symm];exact ⟨rfl,rfl⟩
theorem st1_congr {acc acc':List bH} {on on':List Bool} {c:aH} {k:Int} (h:c.eU≠1→acc.getD (parF c k).toNat dO=acc'.getD (parF c k).toNat dO∧on.getD (parF c k).toNat false=on'.getD (parF c k).toNat false):st1 acc on c k=st1 acc' on' c k:=by
 unfold st1;cases hk:c.eU==1 with
 | true=>rfl
 | false=>
  obtain ⟨h1,h2⟩:=h (fun e=>by rw [e] at hk; cases hk);rw [h1,h2]
theorem stF_eq {l:List aH} {s:List Int} (h:Good l s) (hu:Up l s) (j:Nat) (hj:j<l.length):((stF l s).1.getD j dO,(stF l s).2.getD j false)=st1 (stF l s).1 (stF l s).2 (l.getD j aI) (s.getD j 0):=by
 unfold stF;obtain ⟨e1,e2⟩:=stN_pre l s l.length j hj;rw [e1,e2];show st1 _ _ _ _=_;refine st1_congr fun hk=>?_;have h1:=h.aN j hj;have h2:=hu j hj hk;obtain ⟨a1,a2⟩:=stN_pre l s l.length (parF (l.getD j aI) (s.getD j 0)).toNat om;obtain ⟨b1,b2⟩:=stN_pre l s j (parF (l.getD j aI) (s.getD j 0)).toNat om;exact ⟨b1.trans a1.symm,b2.trans a2.symm⟩
theorem st1_step {c:aH} (hn:c.eU≠1) (acc:List bH) (on:List Bool) (k:Int):
  (c.eU=2→st1 acc on c k=((overR (upR acc c k) (chF c k)).1,on.getD (parF c k).toNat false))∧
  (c.eU=3→st1 acc on c k=((timesR (upR acc c k) (chF c k)).1,on.getD (parF c k).toNat false))∧
  (c.eU=5→chF c k=0→st1 acc on c k=(offR,false))∧
  ((c.eU=4∨(c.eU=5∧chF c k=1))→st1 acc on c k=(upR acc c k,on.getD (parF c k).toNat false)):=by
 have hk:(c.eU==1)=false:=by
  cases h:c.eU==1 with
  | false=>rfl
  | true=>exact absurd (eq_of_beq h) hn
 refine ⟨fun h=>?_,fun h=>?_,fun h h0=>?_,fun h=>?_⟩
 ·unfold st1; rw [h]; rfl
 ·unfold st1; rw [h]; rfl
 ·unfold st1; rw [show c.aK.getD k.toNat 0=chF c k from rfl,h,h0]; rfl
 ·rcases h with h | ⟨h,h1⟩
  ·unfold st1; rw [h]; rfl
  ·unfold st1; rw [show c.aK.getD k.toNat 0=chF c k from rfl,h,h1]; rfl
theorem kinds_of {c:aH} {i:Nat} {k:Int} (hv:validC c i=true) (hk:0≤k∧k<c.aK.length) (hn:c.eU≠1):(c.eU=2∧1≤chF c k∧chF c k≤64)∨(c.eU=3∧1≤chF c k∧chF c k≤64)∨c.eU=4∨(c.eU=5∧chF c k=k∧(k=0∨k=1)):=by
 have hmem:chF c k∈c.aK:=getD_mem 0 om;rcases choicesB_cases (validC_choices hv) with ⟨h1,h2,h3,h4⟩ | ⟨h1,h2,h3,h4⟩ | ⟨h1,h2,h3⟩ | ⟨h1,h2,h3⟩
 ·exact absurd h1 hn
 ·rcases h1 with h1 | h1
  ·exact .inl ⟨h1,h4 _ hmem⟩
  ·exact .inr (.inl ⟨h1,h4 _ hmem⟩)
 ·exact .inr (.inr (.inl h1))
 ·rw [h3] at hk;have hk2:k=0∨k=1:=by simp at hk; omega
  refine .inr (.inr (.inr ⟨h1,?_,hk2⟩));unfold chF;rw [h3];rcases hk2 with rfl | rfl<;>rfl
theorem fac_fine (l:List aH):∀j:Nat,0≤(facs l).getD j 0:=fun j=>((facs_len_bound l).2 j).1
theorem st_rates {l:List aH} {s:List Int} (hf:Fine l) (hs:settB l s=true):∀j,j<l.length→
  ((ratesF l s).getD j dO=offR∧(stF l s).1.getD j dO=offR∧(stF l s).2.getD j false=false)∨
  ∃a b,Frac 4000000000 a b ((facs l).getD j 0)∧(ratesF l s).getD j dO=red a b∧(stF l s).1.getD j dO=red a b∧(stF l s).2.getD j false=true:=by
 have hg:=good_of hf hs;have hu:=up_of hf hs;obtain ⟨_,hset⟩:=sett_get hs;have hfac:=fun j hj=>facs_eq (parOK_fine hf) j hj;have hfb:=fac_fine l;generalize hA:ratesF l s=A;generalize hB:stF l s=B;intro j;induction j using Nat.strongRecOn with
 | ind j ih=>
  intro hj;have eA:=ratesF_eq hg j hj;have eB:=stF_eq hg hu j hj;rw [hA] at eA;rw [hB] at eB;have hv:=hf.valid j hj;have hk:=hset j hj;have hfj:=hf.facs j hj;have hfacj:=hfac j hj;generalize l.getD j aI=c at *;generalize s.getD j 0=k at *;by_cases hk1:c.eU=1
  ·right;obtain ⟨e1,e2,e3,e4,_⟩:=rt1_fix hv hk hk1 A;have eB1:st1 B.1 B.2 c k=(⟨chF c k,1⟩,true):=by unfold st1; rw [hk1]; rfl
   rw [eB1] at eB;have hb:=hfb j;have er:(⟨chF c k,1⟩:bH)=red (chF c k).toNat 1:=by
    rw [red_one];congr 1;omega
   refine ⟨(chF c k).toNat,1,⟨om,by decide,om,?_,Nat.pow_pos (by decide)⟩,?_,?_,?_⟩
   ·exact Nat.le_trans (show (chF c k).toNat≤4000000000 by omega) (Nat.le_mul_of_pos_right _ (Nat.pow_pos (by decide)))
   ·rw [eA,e4,er]
   ·rw [← er]; exact congrArg Prod.fst eB
   ·exact congrArg Prod.snd eB
  ·have hst:=par_mem hv hk hk1;have hpl:(parF c k).toNat<l.length:=by have:=hst.p0; have:=hst.pi; omega
   have hpf:=hfacj _ hst.mem;have ihp:=ih (parF c k).toNat (by have:=hst.p0; have:=hst.pi; omega) hpl;have uA:A.getD (parF c k).toNat dO=upR A c k:=rfl;have uB:B.1.getD (parF c k).toNat dO=upR B.1 c k:=rfl;rw [uA,uB] at ihp;obtain ⟨q2,q3,q50,q4⟩:=st1_step hk1 B.1 B.2 k;have hn:∀n:Int,1≤n∧n≤64→1≤n.toNat∧n.toNat≤64:=fun n hn=>by omega
   rcases ihp with ⟨i1,i2,i3⟩ | ⟨a,b,i0,i1,i2,i3⟩
   ·left;have hA0:rt1 A c k=offR:=by
     rcases rt1_step hv hk hk1 A with ⟨_,q⟩ | ⟨q,_⟩
     ·exact q
     ·rw [i1] at q; cases q
    rw [i2,i3] at q2 q3 q4;have hB0:st1 B.1 B.2 c k=(offR,false):=by
     rcases kinds_of hv hk hk1 with ⟨h,h1⟩ | ⟨h,h1⟩ | h | ⟨h,h1,h2⟩
     ·rw [q2 h,off_over _ h1]
     ·rw [q3 h,off_times _ h1]
     ·exact q4 (.inl h)
     ·rcases h2 with h2 | h2
      ·exact q50 h om
      ·exact q4 (.inr ⟨h,om⟩)
    rw [hB0] at eB;exact ⟨by rw [eA,hA0],congrArg Prod.fst eB,congrArg Prod.snd eB⟩
   ·have oA:isOff (upR A c k)=false:=by rw [i1]; exact red_on a b i0.a0
    rw [i2,i3] at q2 q3 q4;rcases rt1_step hv hk hk1 A with ⟨q0,q⟩ | ⟨_,q⟩
    ·left;rw [oA] at q0;rcases q0 with q0 | ⟨q0,q1⟩
     ·cases q0
     ·rw [q50 q0 q1] at eB;exact ⟨by rw [eA,q],congrArg Prod.fst eB,congrArg Prod.snd eB⟩
    ·right;rcases q with ⟨r1,r2,r3,r4⟩ | ⟨r1,r2,r3,r4⟩ | ⟨r1,r2,r3⟩
     ·rw [r2] at hpf;have hnew:=i0.over hpf (hn _ r3);have hs2:=hnew.small hfj (by decide);have eo:=over_red a b _ i0.b0 r3 hs2.2.1 hs2.2.2;rw [q2 r1,eo] at eB;exact ⟨a,b*(chF c k).toNat,hnew,by rw [eA,r4,i1,eo],congrArg Prod.fst eB,congrArg Prod.snd eB⟩
     ·rw [r2] at hpf;have hnew:=i0.times hpf (hn _ r3);have hs2:=hnew.small hfj (by decide);have eo:=times_red a b _ i0.b0 r3 hs2.2.1 hs2.2.2;rw [q3 r1,eo] at eB;exact ⟨a*(chF c k).toNat,b,hnew,by rw [eA,r4,i1,eo],congrArg Prod.fst eB,congrArg Prod.snd eB⟩
     ·rw [r2] at hpf;rw [q4 r1] at eB;exact ⟨a,b,i0.mono (by simpa using hpf),by rw [eA,r3,i1],congrArg Prod.fst eB,congrArg Prod.snd eB⟩
theorem st_same {l:List aH} {s:List Int} (hf:Fine l) (hs:settB l s=true) (j:Nat) (hj:j<l.length):(stF l s).1.getD j dO=(ratesF l s).getD j dO∧(stF l s).2.getD j false=!isOff ((ratesF l s).getD j dO)∧validR ((ratesF l s).getD j dO)=true∧(isOff ((ratesF l s).getD j dO)=true→(ratesF l s).getD j dO=offR):=by
 rcases st_rates hf hs j hj with ⟨h1,h2,h3⟩ | ⟨a,b,h0,h1,h2,h3⟩
 ·rw [h1,h2,h3];exact ⟨rfl,rfl,by decide,fun _=>rfl⟩
 ·have hs2:=h0.small (hf.facs j hj) (by decide);rw [h1,h2,h3,red_on a b h0.a0];exact ⟨rfl,rfl,red_valid a b h0.b0 hs2.2.1 hs2.2.2,nofun⟩
theorem ext_getD {α:Type} {l m:List α} (d:α) (h:l.length=m.length) (he:∀i,i<l.length→l.getD i d=m.getD i d):l=m:=by
 apply List.ext_getElem h;intro i h1 h2;have:=he i h1;rw [List.getD_eq_getElem?_getD,List.getD_eq_getElem?_getD,List.getElem?_eq_getElem h1,List.getElem?_eq_getElem h2] at this;simpa using this
structure WayOK (l:List aH) (s w:List Int):Prop where
 chain:∀i,i+1<w.length→(l.getD (w.getD i 0).toNat aI).eU≠1∧w.getD (i+1) 0=parF (l.getD (w.getD i 0).toNat aI) (s.getD (w.getD i 0).toNat 0)
 last:∀i,i+1=w.length→(l.getD (w.getD i 0).toNat aI).eU=1
theorem iH (n lo hi:Int):iE n lo hi (withinF n lo hi):=rfl
theorem Sz {l:List aH} (hl:l.length≤2000000):jy l (l.any bigC):=
 JJ (KY (p:=Bn) (P:=bigC) (fun _ _=>rfl) om) (oW _ _)
theorem NW {p a:Int} (ha : -2000000≤a∧a≤2000000):uz p a (!withinF p 0 (a - 1)):=
 jT (aM (by unfold InI64; omega) (aF (uR (iH _ _ _)) fun v hv=>by subst hv; exact au rfl))
theorem SA {l:List Int} {a:Int} (ha : -2000000≤a∧a≤2000000) (hl:l.length≤2000000):kM l a (l.any fun y=>!withinF y 0 (a - 1)):=
 JJ (KY (p:=fun x=>uz x a) (P:=fun y=>!withinF y 0 (a - 1)) (fun _ _=>NW ha) om) (oW _ _)
theorem PD {l:List Int} {v:Int} (hl:l.length≤2000000):slices_Contains_int l v (l.contains v):=by
 refine JJ (Sd (P:=fun x=>v==x) om) ?_;rw [oW];exact (List.contains_eq_any_beq).symm
theorem rR {l:List Int} {lo hi:Int} (hl:l.length≤2000000):jZ l lo hi (diffG lo hi [] l):=by
 refine jT (Xk l.length (fun i=>diffG lo hi (l.take i) (l.drop i)=diffG lo hi [] l) ?_ rfl);intro self i hi1 hi2 ih;refine bF (fun c=>?_) (fun c=>?_)
 ·have c:=of_decide_eq_true c;have hlt:i<l.length:=by omega
  rw [drop_cons 0 hlt] at hi2;refine aM om ?_;refine aF (uR (iH _ _ _)) fun v hv=>?_;subst hv;refine aM (fun _=>by omega) ?_;refine aF (fP fun _=>PD (by simp; omega)) fun v hv=>?_;subst hv;refine bF (fun c2=>?_) (fun c2=>?_)
  ·refine au ?_;rw [← hi2,diffG_f (pre:=l.take i) (n:=l.getD i 0) c2]
  ·refine aM (by unfold InI64; omega) (ih hlt ?_);rw [← hi2,diffG_t (pre:=l.take i) (n:=l.getD i 0) c2,take_snoc 0 hlt]
 ·have c:=of_decide_eq_false c;refine au ?_;rw [← hi2,List.drop_eq_nil_of_le om];rfl
theorem Ki {a b:List Int} (hl:a.length≤2000000):slices_Equal_int a b (a==b):=by
 refine jT (bF (fun c=>?_) (fun c=>?_))
 ·refine au ?_;have:a≠b:=fun h=>by subst h; simp at c
  exact (beq_eq_false_iff_ne.2 this).symm
 ·have hlen:a.length=b.length:=by simp at c; omega
  refine Xk a.length (fun i=>(a==b)=(a.drop i==b.drop i)) ?_ rfl;intro self i hi1 hi2 ih;refine bF (fun c=>?_) (fun c=>?_)
  ·have c:=of_decide_eq_true c;have hlt:i<a.length:=by omega
   rw [drop_cons 0 hlt,drop_cons 0 (show i<b.length by omega)] at hi2;refine aM om (aM om ?_);refine bF (fun c2=>?_) (fun c2=>?_)
   ·refine au ?_;rw [hi2];simp at c2;simp [c2]
   ·refine aM (by unfold InI64; omega) (ih hlt ?_);rw [hi2];simp at c2;simp [c2]
  ·have c:=of_decide_eq_false c;refine au ?_;rw [hi2,List.drop_eq_nil_of_le om,List.drop_eq_nil_of_le om];rfl
theorem QO {c:aH} {k:Int} (hk : -2000000≤k∧k≤2000000) (hp:c.aN.length≤2000000) (hc:c.aK.length≤2000000):Gc c k (validC c k):=by
 refine jT ?_;refine aF (uR (SA hk hp)) fun v1 hv=>?_;subst hv;refine aF (fP fun _=>iH c.eP 0 4000000000) fun v hv=>?_;subst hv;refine aF (fP fun _=>iH c.jw 0 c.eP) fun v hv=>?_;subst hv;refine bF (fun h=>?_) (fun h=>?_)
 ·refine au ?_;unfold validC;rw [h];rfl
 ·have hv:validC c k=choicesB c:=by unfold validC; rw [h]; rfl
  rw [hv];refine bF (fun k1=>?_) (fun k1=>?_)
  ·refine aM (fun h=>by simp at h; omega) ?_;refine aF (fP fun _=>iH (c.aK.getD 0 0) 1 4000000000) fun v hv=>?_;subst hv;refine au ?_;unfold choicesB;rw [k1];rfl
  ·refine bF (fun k2=>?_) (fun k2=>?_)
   ·rw [k2];refine aF (fP fun _=>rR hc) fun v hv=>?_;subst hv;refine au ?_;unfold choicesB;rw [k1,k2];rfl
   ·refine bF (fun k3=>?_) (fun k3=>?_)
    ·refine aF (fP fun _=>rR hc) fun v hv=>?_;subst hv;refine au ?_;unfold choicesB;rw [k1,k2,k3];rfl
    ·refine bF (fun k4=>?_) (fun k4=>?_)
     ·refine aM (fun _=>by unfold InI64; omega) ?_;refine aF (fP fun _=>rR hc) fun v hv=>?_;subst hv;refine au ?_;unfold choicesB;rw [k1,k2,k3,k4];rfl
     ·refine bF (fun k5=>?_) (fun k5=>?_)
      ·refine bF (fun h1=>?_) (fun h1=>?_)
       ·refine aF (fP fun _=>Ki hc) fun v hv=>?_;subst hv;refine au ?_;unfold choicesB;rw [k1,k2,k3,k4,k5];rfl
       ·refine au ?_;unfold choicesB;rw [k1,k2,k3,k4,k5];simp at h1;simp [h1]
      ·refine au ?_;unfold choicesB;rw [k1,k2,k3,k4,k5];rfl
theorem set_mid {α:Type} (a:List α) (x y:α) (z:List α):(a++x::z).set a.length y=a++y::z:=by
 rw [List.set_append_right _ _ (Nat.le_refl _),Nat.sub_self];rfl
theorem mF {l:List aH} (hl:l.length≤2000000):ng l (checkF l):=by
 refine jT ?_;refine aF (fP fun _=>Sz hl) fun v hv=>?_;subst hv;refine bF (fun h=>?_) (fun h=>?_)
 ·refine au ?_;unfold checkF;rw [h];rfl
 ·have hb3:(decide (16<(l.length:Int))||l.any bigC)=false:=h;have h16:l.length≤16:=by simp at hb3; omega
  have hbig:∀i:Nat,i<l.length→bigC (l.getD i aI)=false:=any_false_get aI (by simp only [Bool.or_eq_false_iff] at hb3; exact hb3.2);refine Xk l.length (fun i=>∀j:Nat,j<i→validC (l.getD j aI) j=true) ?_ (fun j hj=>absurd hj (Nat.not_lt_zero j));intro self i hi1 hi2 ih;refine bF (fun h2=>?_) (fun h2=>?_)
  ·have hlt:i<l.length:=by have:=of_decide_eq_true h2; omega
   have hbl:=bigC_len (hbig i hlt);refine aM om ?_;refine aF (uR (QO (c:=l.getD i aI) (k:=i) om om om)) fun v hv=>?_;subst hv;refine bF (fun h3=>?_) (fun h3=>?_)
   ·refine au ?_;unfold checkF;rw [hb3,allV_false hlt (by simpa using h3)];rfl
   ·refine aM (by unfold InI64; omega) (ih hlt fun j hj=>?_);by_cases hji:j=i
    ·subst hji; simpa using h3
    ·exact hi2 j om
  ·have hil:i=l.length:=by have:=of_decide_eq_false h2; omega
   subst hil;have hall:=allV_true hi2;refine aM ⟨om,by show (l.length:Int)*8≤140737488355328; omega⟩ ?_;refine bq (fun g:Int×Int×List Int=>∃i:Nat,g=(prodC (l.take i),(i:Int),facs (l.take i)++List.replicate (l.length - i) 0)∧i≤l.length∧prodC (l.take i)≤4096∧∀j:Nat,j<i→(fun n=>decide (4<n)) ((facs l).getD j 0)=false) (fun g=>(l.length - g.2.1).toNat) ?_ ⟨0,rfl,om,by rw [List.take_zero]; decide,fun j hj=>absurd hj (Nat.not_lt_zero j)⟩;rintro cO g ⟨i,rfl,hj1,hj2,hj3⟩ ih2;refine bF (fun h3=>?_) (fun h3=>?_)
   ·have hlt:i<l.length:=by have:(i:Int)<(l.length:Int):=of_decide_eq_true h3; omega
    refine aM (by show 0≤(i:Int)∧(i:Int)<(l.length:Int); omega) ?_;obtain ⟨hfl,hb⟩:=facs_len_bound (l.take i);rw [take_len hj1] at hfl hb;have hpi:=(parOK_of hi2 hbig) i hlt;have hsn:facs (l.take (i+1))=facs (l.take i)++[fac1 (facs (l.take i)) (l.getD i aI)]:=by rw [take_snoc aI hlt,facs_snoc]
    have hpm:=parMax_bound (facs (l.take i)) i om hb;have hrep:List.replicate (l.length - i) (0:Int)=0::List.replicate (l.length - i - 1) 0:=by
     rw [show l.length - i=(l.length - i - 1)+1 by omega];rfl
    have hcut:W (pq l (prodC (l.take i),(i:Int),facs (l.take i)++List.replicate (l.length - i) 0) cO (facs (l.take i)++fac1 (facs (l.take i)) (l.getD i aI)::List.replicate (l.length - i - 1) 0)) (fun r=>r=checkF l):=by
     have hbl:=bigC_len (hbig i hlt);have hpb:=prodC_bound (l.take i);have hpmul:0≤prodC (l.take i)*((l.getD i aI).aK.length:Int)∧prodC (l.take i)*((l.getD i aI).aK.length:Int)≤4096*8:=⟨Int.mul_nonneg hpb.1 om,Int.mul_le_mul hj2 om om om⟩;have hpe:prodC (l.take (i+1))=prodC (l.take i)*((l.getD i aI).aK.length:Int):=by
      rw [take_snoc aI hlt,prodC_snoc];unfold minI;rw [if_neg om]
     have hfi:(facs l).getD i 0=fac1 (facs (l.take i)) (l.getD i aI):=by
      rw [facs_take l (i+1) i om hlt,hsn,getD_app_r 0 hfl.symm]
     refine aM (by show InI64 (prodC (l.take i)*((l.getD i aI).aK.length:Int)); unfold InI64; omega) ?_;refine aM (fun _=>by simp [hfl]; omega) ?_;refine bF (fun h5=>?_) (fun h5=>?_)
     ·have h5:(decide (4096<prodC (l.take i)*((l.getD i aI).aK.length:Int))||decide (4<(facs (l.take i)++fac1 (facs (l.take i)) (l.getD i aI)::List.replicate (l.length - i - 1) 0).getD i 0))=true:=h5;rw [getD_app_r 0 hfl.symm,← hfi,← hpe] at h5;refine au ?_;unfold checkF;rw [hb3,hall];have:(decide (4096<prodC l)||(facs l).any (fun n=>decide (4<n)))=true:=by
       rw [Bool.or_eq_true] at h5 ⊢;rcases h5 with h5 | h5
       ·left;have h5:=of_decide_eq_true h5;have hm:=prodC_mono l (fun c hc=>by
         obtain ⟨k,hk,rfl⟩:=List.mem_iff_getElem.1 hc;have:=choices_pos (validC_choices (hi2 k hk));rwa [List.getD_eq_getElem?_getD,List.getElem?_eq_getElem hk] at this) (i+1)
        exact decide_eq_true om
       ·right;exact any_true_get (p:=fun n=>decide (4<n)) 0 (by rw [(facs_len_bound l).1]; exact hlt) h5
      rw [this];rfl
     ·have h5:(decide (4096<prodC (l.take i)*((l.getD i aI).aK.length:Int))||decide (4<(facs (l.take i)++fac1 (facs (l.take i)) (l.getD i aI)::List.replicate (l.length - i - 1) 0).getD i 0))=false:=h5;rw [getD_app_r 0 hfl.symm,← hfi,← hpe] at h5;rw [Bool.or_eq_false_iff] at h5;refine aM (by show InI64 ((i:Int)+1); unfold InI64; omega) ?_;refine ih2 _ ⟨i+1,?_,hlt,by have:=of_decide_eq_false h5.1; omega,fun j hj=>?_⟩ (by show (l.length - ((i:Int)+1)).toNat<(l.length - (i:Int)).toNat; omega)
      ·rw [hsn,List.append_assoc,show l.length - (i+1)=l.length - i - 1 by omega,hpe];rfl
      ·by_cases hji:j=i
       ·subst hji; exact h5.2
       ·exact hj3 j om
    refine bq (fun g:Int×List Int=>∃j:Nat,g=((j:Int),facs (l.take i)++parMax (facs (l.take i)) ((l.getD i aI).aN.take j)::List.replicate (l.length - i - 1) 0)∧j≤(l.getD i aI).aN.length) (fun g=>((l.getD i aI).aN.length - g.1).toNat) ?_ ⟨0,by rw [hrep]; rfl,Nat.zero_le _⟩;rintro jU g ⟨j,rfl,hj⟩ ih7;refine bF (fun h4=>?_) (fun h4=>?_)
    ·have hjl:j<(l.getD i aI).aN.length:=by have:(j:Int)<((l.getD i aI).aN.length:Int):=of_decide_eq_true h4; omega
     have hin:=hpi.2 ((l.getD i aI).aN.getD j 0) (getD_mem 0 hjl);refine aM (by show 0≤(j:Int)∧(j:Int)<((l.getD i aI).aN.length:Int); omega) ?_;refine aM (by show 0≤(i:Int)∧(i:Int)<(((facs (l.take i)++parMax (facs (l.take i)) ((l.getD i aI).aN.take j)::List.replicate (l.length - i - 1) 0).length:Nat):Int); simp [hfl]; omega) ?_;refine aM (by show 0≤(l.getD i aI).aN.getD j 0∧(l.getD i aI).aN.getD j 0<(((facs (l.take i)++parMax (facs (l.take i)) ((l.getD i aI).aN.take j)::List.replicate (l.length - i - 1) 0).length:Nat):Int); rw [List.length_append,hfl,List.length_cons]; omega) ?_;refine aM (by show 0≤(i:Int)∧(i:Int)<(((facs (l.take i)++parMax (facs (l.take i)) ((l.getD i aI).aN.take j)::List.replicate (l.length - i - 1) 0).length:Nat):Int); simp [hfl]; omega) ?_;refine aM (by show InI64 ((j:Int)+1); unfold InI64; have:=hpi.1; omega) ?_;refine ih7 _ ⟨j+1,?_,hjl⟩ (by show ((l.getD i aI).aN.length - ((j:Int)+1)).toNat<((l.getD i aI).aN.length - (j:Int)).toNat; omega);have e:parMax (facs (l.take i)) ((l.getD i aI).aN.take (j+1))=maxI ((facs (l.take i)++parMax (facs (l.take i)) ((l.getD i aI).aN.take j)::List.replicate (l.length - i - 1) 0).getD i 0) ((facs (l.take i)++parMax (facs (l.take i)) ((l.getD i aI).aN.take j)::List.replicate (l.length - i - 1) 0).getD ((l.getD i aI).aN.getD j 0).toNat 0):=by
      rw [getD_app_r 0 hfl.symm,getD_app_l 0 om];unfold parMax;rw [foldl_take _ _ 0 hjl]
     rw [e];have hs:=set_mid (facs (l.take i)) (parMax (facs (l.take i)) ((l.getD i aI).aN.take j)) (maxI ((facs (l.take i)++parMax (facs (l.take i)) ((l.getD i aI).aN.take j)::List.replicate (l.length - i - 1) 0).getD i 0) ((facs (l.take i)++parMax (facs (l.take i)) ((l.getD i aI).aN.take j)::List.replicate (l.length - i - 1) 0).getD ((l.getD i aI).aN.getD j 0).toNat 0)) (List.replicate (l.length - i - 1) 0);rw [hfl] at hs;rw [← hs];rfl
    ·have hje:j=(l.getD i aI).aN.length:=by have:¬ (j:Int)<((l.getD i aI).aN.length:Int):=of_decide_eq_false h4; omega
     subst hje;rw [List.take_length];have hpx:=hpm (l.getD i aI).aN;refine bF (fun h5=>?_) (fun h5=>?_)
     ·have hlen:0≤(i:Int)∧(i:Int)<(((facs (l.take i)++parMax (facs (l.take i)) (l.getD i aI).aN::List.replicate (l.length - i - 1) 0).length:Nat):Int):=by simp [hfl]; omega
      refine aM hlen ?_;refine aM (by show InI64 ((facs (l.take i)++parMax (facs (l.take i)) (l.getD i aI).aN::List.replicate (l.length - i - 1) 0).getD i 0+1); rw [getD_app_r 0 hfl.symm]; unfold InI64; omega) ?_;refine aM hlen ?_;have e:fac1 (facs (l.take i)) (l.getD i aI)=(facs (l.take i)++parMax (facs (l.take i)) (l.getD i aI).aN::List.replicate (l.length - i - 1) 0).getD i 0+1:=by
       rw [getD_app_r 0 hfl.symm];unfold fac1 isDM;rw [show ((l.getD i aI).eU==2||(l.getD i aI).eU==3)=true from h5];rfl
      have hs:=set_mid (facs (l.take i)) (parMax (facs (l.take i)) (l.getD i aI).aN) (fac1 (facs (l.take i)) (l.getD i aI)) (List.replicate (l.length - i - 1) 0);rw [hfl] at hs;rw [← hs,e] at hcut;exact hcut
     ·have e:fac1 (facs (l.take i)) (l.getD i aI)=parMax (facs (l.take i)) (l.getD i aI).aN:=by
       unfold fac1 isDM;rw [show ((l.getD i aI).eU==2||(l.getD i aI).eU==3)=false from h5];rfl
      rw [e] at hcut;exact hcut
   ·have hil:i=l.length:=by have:¬ (i:Int)<(l.length:Int):=of_decide_eq_false h3; omega
    subst hil;refine au ?_;rw [List.take_length] at hj2;unfold checkF;rw [hb3,hall,decide_eq_false (show ¬ 4096<prodC l by omega),any_none (p:=fun n=>decide (4<n)) 0 (by rw [(facs_len_bound l).1]; exact hj3)];rfl
theorem TN {a b:Int} (ha:0≤a) (hb:0<b):gcdI b (a.tmod b)=gcdI a b:=by
 unfold gcdI;rw [Int.tmod_eq_emod_of_nonneg ha,show (a % b).toNat=a.toNat % b.toNat from Int.toNat_emod ha om,Nat.gcd_comm a.toNat,Nat.gcd_rec b.toNat a.toNat,Nat.gcd_comm]
theorem PE {x M e:Int} (hM:0≤M) (he:0<e) (hx:0≤x) (h:x≤M.tdiv e):0≤x*e∧x*e≤M:=by
 rw [Int.tdiv_eq_ediv_of_nonneg hM] at h;exact ⟨Int.mul_nonneg hx om,(Int.le_ediv_iff_mul_le he).1 h⟩
theorem Mr {x y X Y:Int} (h1:0≤x) (h2:x≤X) (h3:0≤y) (h4:y≤Y):0≤y*x∧y*x≤Y*X:=
 ⟨Int.mul_nonneg h3 h1,Int.mul_le_mul h4 h2 h1 om⟩
theorem uI {a_:Int} {b_:Int} (h1:0≤a_) (h2:0≤b_):W (ny a_ b_) (fun r=>r=gcdI a_ b_):=by
 unfold ny;refine bq (fun (g1:(Int×Int))=>0≤g1.1∧0≤g1.2∧gcdI g1.1 g1.2=gcdI a_ b_) (fun (g1:(Int×Int))=>g1.2.toNat) ?_ ?_
 ·intro aj g1 dH bL;obtain ⟨cK,bC,bJ⟩:=dH;unfold Gf;refine wi (fun c1=>?_) (fun c1=>?_)
  ·refine wn ?_;refine bL _ ?_ ?_
   ·(refine ⟨ob,Int.tmod_nonneg _ om,?_⟩; dsimp only; rw [← bJ]; exact TN om om)
   ·(dsimp only; have:=KZ g1.1 g1.2 om; have:=Int.tmod_nonneg (a:=g1.1) g1.2 om; omega)
  ·refine au ?_;(rw [← bJ]; unfold gcdI; have e:g1.2=0:=c1; rw [e]; simp; omega)
 ·exact ob
theorem yc {r_:bH}:W (pU r_) (fun r=>r=validR r_):=by
 unfold pU;refine aF (fP fun hc=>jT (uI (by have hc:=nr hc; omega) (by have hc:=nr hc; omega))) fun v1 hv1=>?_;subst v1;refine au ?_;rfl
theorem QS {I6:Int} {Pf:Int} {l6:Int} (h1:0≤I6) (h2:I6≤144115188075855872) (h3:1≤Pf) (h4:Pf≤16777216) (h5:1≤l6) (h6:l6≤64):W (zU I6 Pf l6) (fun r=>r=(I6.tdiv (gcdI I6 l6),Pf*l6.tdiv (gcdI I6 l6))):=by
 unfold zU;refine aF (uI ob ob) fun v1 hv1=>?_;subst v1;have hg:=gcdI_pos I6 l6 om; have q1:=tdiv_le I6 _ om hg; have q2:=tdiv_le l6 _ om hg; have q3:=Mr q2.1 (show l6.tdiv (gcdI I6 l6)≤64 by omega) (show 0≤Pf by omega) h4;refine wm ?_;refine wn ?_;refine au ?_;rfl
theorem PG {qQ:Int} {qR:Int} (h1:qQ≤4611686018427387904) (h2:qR≤4611686018427387904):W (Gg qQ qR) (fun r=>r=newR qQ qR):=by
 unfold Gg;refine bF (fun c1=>?_) (fun c1=>?_)
 ·have eH:=c1;have c1:=nr c1;refine au ?_;(unfold newR; rw [eH]; rfl)
 ·have eH:=c1;have c1:=nr c1;have hg:=gcdI_pos qQ qR om; have q1:=tdiv_le qQ _ om hg; have q2:=tdiv_le qR _ om hg;refine aF (uI ob ob) fun v1 hv1=>?_;subst v1;refine wm ?_;refine aF (yc) fun v2 hv2=>?_;subst v2;refine bF (fun c2=>?_) (fun c2=>?_)
  ·have iL:=c2;have c2:=nr c2;refine au ?_;(unfold newR; rw [eH]; simp only [cond_false]; rw [iL]; rfl)
  ·have iL:=c2;have c2:=nr c2;refine au ?_;(unfold newR; rw [eH]; simp only [cond_false]; rw [iL]; rfl)
theorem QT {r_:bH} {k_:Int} {lI:Int} {lJ:Int} {lK:Int} (h1:r_.iU=lI) (h2:r_.gW=lJ) (h3:k_=lK):W (zV r_ k_ lI lJ lK) (fun r=>r=overR r_ k_):=by
 subst h1 h2 h3;unfold zV;refine aF (yc) fun v1 hv1=>?_;subst v1;refine bF (fun c1=>?_) (fun c1=>?_)
 ·have eH:=c1;have c1:=nr c1;refine au ?_;(unfold overR; rw [eH]; rfl)
 ·have eH:=c1;have c1:=nr c1;have hv:=validR_iff (r:=r_) (by simpa using eH);refine wi (fun c2=>?_) (fun c2=>?_)
  ·refine au ?_;(unfold overR factorB; rw [eH]; simp only [cond_false]; rw [show (!(decide (1≤k_)&&decide (k_≤64)))=true by simp; omega]; rfl)
  ·refine aF (QS ob ob ob ob ob ob) fun v2 hv2=>?_;subst v2;have hg:=gcdI_pos r_.iU k_ om; have q1:=tdiv_le r_.iU _ hv.1 hg; have q2:=tdiv_le k_ _ om hg; have q3:=Mr q2.1 (show k_.tdiv (gcdI r_.iU k_)≤64 by omega) (show 0≤r_.gW by omega) hv.2.2.2.1;refine aF (PG ob ob) fun v3 hv3=>?_;subst v3;refine au ?_;(unfold overR factorB; rw [eH]; simp only [cond_false]; rw [show (!(decide (1≤k_)&&decide (k_≤64)))=false by simp; omega]; exact newR_over _ _ _ hv.1 om om)
theorem NC {r_:bH} {k_:Int}:W (Ch r_ k_) (fun r=>r=overR r_ k_):=by
 unfold Ch;refine aF (QT rfl rfl rfl) fun v1 hv1=>?_;subst v1;refine au ?_;rfl
theorem PI {gy:Int} {vK:Int} {pV:Int} (h1:1≤gy) (h2:gy≤64) (h3:0≤vK) (h4:vK≤144115188075855872) (h5:1≤pV) (h6:pV≤16777216):W (xu gy vK pV) (fun r=>r=(bif decide ((144115188075855872:Int).tdiv (gy.tdiv (gcdI gy pV))<vK) then (-1,1) else (vK*(gy.tdiv (gcdI gy pV)),pV.tdiv (gcdI gy pV)))):=by
 unfold xu;refine aF (uI ob ob) fun v1 hv1=>?_;subst v1;have hg:=gcdI_pos gy pV om; have q1:=tdiv_le gy _ om hg; have q2:=tdiv_le pV _ om hg; have q4:=kdiv gy pV om om; have q5:=tdiv_le 144115188075855872 _ om (show 0<gy.tdiv (gcdI gy pV) by omega);refine wm ?_;refine bF (fun c1=>?_) (fun c1=>?_)
 ·have eH:=c1;have c1:=nr c1;refine au ?_;(rw [eH]; rfl)
 ·have eH:=c1;have c1:=nr c1;have q3:=PE (x:=vK) (M:=144115188075855872) (e:=gy.tdiv (gcdI gy pV)) om om om c1;refine wm ?_;refine wn ?_;refine au ?_;(rw [eH]; rfl)
theorem Ms {r_:bH} {k_:Int} {lI:Int} {lJ:Int} {lK:Int} (h1:k_=lI) (h2:r_.iU=lJ) (h3:r_.gW=lK):W (qU r_ k_ lI lJ lK) (fun r=>r=timesR r_ k_):=by
 subst h1 h2 h3;unfold qU;refine aF (yc) fun v1 hv1=>?_;subst v1;refine bF (fun c1=>?_) (fun c1=>?_)
 ·have eH:=c1;have c1:=nr c1;refine au ?_;(unfold timesR; rw [eH]; rfl)
 ·have eH:=c1;have c1:=nr c1;have hv:=validR_iff (r:=r_) (by simpa using eH);refine wi (fun c2=>?_) (fun c2=>?_)
  ·refine au ?_;(unfold timesR factorB; rw [eH]; simp only [cond_false]; rw [show (!(decide (1≤k_)&&decide (k_≤64)))=true by simp; omega]; rfl)
  ·refine aF (PI ob ob ob ob ob ob) fun v2 hv2=>?_;subst v2;have hg:=gcdI_pos k_ r_.gW om; have q1:=tdiv_le k_ _ om hg; have q2:=tdiv_le r_.gW _ om hg; have q4:=kdiv k_ r_.gW om om; have q3:=Mr (show 0≤k_.tdiv (gcdI k_ r_.gW) by omega) q4.2 hv.1 hv.2.1; have q6:∀M:Int,M.tdiv (k_.tdiv (gcdI k_ r_.gW))<r_.iU∨r_.iU≤M.tdiv (k_.tdiv (gcdI k_ r_.gW)):=fun M=>by omega
   refine aF (PG (by cases hd:decide ((144115188075855872:Int).tdiv (k_.tdiv (gcdI k_ r_.gW))<r_.iU) with | true=>(simp only [cond_true]; omega) | false=>(have q7:=PE (x:=r_.iU) (M:=144115188075855872) (e:=k_.tdiv (gcdI k_ r_.gW)) om om om (by have:=of_decide_eq_false hd; omega); simp only [cond_false]; omega)) (by cases hd:decide ((144115188075855872:Int).tdiv (k_.tdiv (gcdI k_ r_.gW))<r_.iU) with | true=>(simp only [cond_true]; omega) | false=>(have q7:=PE (x:=r_.iU) (M:=144115188075855872) (e:=k_.tdiv (gcdI k_ r_.gW)) om om om (by have:=of_decide_eq_false hd; omega); simp only [cond_false]; omega))) fun v3 hv3=>?_;subst v3;refine au ?_;(unfold timesR factorB; rw [eH]; simp only [cond_false]; rw [show (!(decide (1≤k_)&&decide (k_≤64)))=false by simp; omega]; simp only [cond_false]; cases hd:decide ((144115188075855872:Int).tdiv (k_.tdiv (gcdI k_ r_.gW))<r_.iU)<;>rfl)
theorem K5 {r_:bH} {k_:Int}:W (yD r_ k_) (fun r=>r=timesR r_ k_):=by
 unfold yD;refine aF (Ms rfl rfl rfl) fun v1 hv1=>?_;subst v1;refine au ?_;rfl
theorem BG {r_:bH} {xw:Int} {kN:Int}:W (ql r_ xw kN) (fun r=>r=withinR r_ xw kN):=by
 unfold ql;refine aF (yc) fun v1 hv1=>?_;subst v1;refine bF (fun c1=>?_) (fun c1=>?_)
 ·have eH:=c1;have c1:=nr c1;refine au ?_;(unfold withinR; rw [show validR r_=false by simpa using eH]; rfl)
 ·have eH:=c1;have c1:=nr c1;have hv:=validR_iff (r:=r_) (by simpa using eH); have q1:=tdiv_le r_.iU r_.gW hv.1 om;refine wm ?_;refine au ?_;(unfold withinR; rw [show validR r_=true by simpa using eH]; rfl)
theorem Hf {l:List aH} {m:List bK} (h:limsB l m=true):∀x∈m,badL l.length x=false:=fun x hx=>by
 obtain ⟨_,_,h1⟩:=lims_get h;obtain ⟨i,hi,rfl⟩:=List.mem_iff_getElem.1 hx;have:=h1 i hi;rwa [List.getD_eq_getElem?_getD,List.getElem?_eq_getElem hi] at this
theorem mG {l:List aH} {s:List Int} {i:Nat} {v:bH} {L:List bH} (hL:L=ratesN l s i++List.replicate (l.length - i) dO) (hi:i<l.length) (e:rt1 (ratesN l s i) (l.getD i aI) (s.getD i 0)=v) {k:Nat} (hk:k=i+1:=by omega):L.set i v=ratesN l s k++List.replicate (l.length - k) dO:=by
 subst hk hL;have hrl:=ratesN_len l s i;have hrep:List.replicate (l.length - i) dO=dO::List.replicate (l.length - (i+1)) dO:=by
  rw [show l.length - i=(l.length - (i+1))+1 by omega];rfl
 rw [hrep,List.set_append_right _ _ om,hrl,Nat.sub_self,ratesN,e,List.append_assoc];rfl
theorem Mv {x_:bK} {l6:(List aH)} (h1:l6.length≤2000000):W (nu x_ l6) (fun r=>r=badL l6.length x_):=by
 unfold nu;refine wn ?_;refine aF (uR (iH _ _ _)) fun v1 hv1=>?_;subst v1;refine aF (fP fun hc=>iH _ _ _) fun v2 hv2=>?_;subst v2;refine aF (fP fun hc=>iH _ _ _) fun v3 hv3=>?_;subst v3;refine au ?_;rfl
theorem tV {s_:(List bK)} {f_:(List aH)} (h1:s_.length≤2000000) (h2:f_.length≤2000000):W (jB s_ f_) (fun r=>r=s_.any (badL f_.length)):=
 uR (JJ (KY (p:=fun x=>nu x f_) (P:=badL f_.length) (fun x hx=>jT (Mv h2)) om) (oW _ _))
theorem Hg {l_:(List aH)} {m_:(List bK)} (h1:l_.length≤2000000) (h2:m_.length≤2000000):W (qO l_ m_) (fun r=>r=limsB l_ m_):=by
 unfold qO;refine aF (uR (mF ob)) fun v1 hv1=>?_;subst v1;refine aF (fP fun hc=>jT (tV ob ob)) fun v2 hv2=>?_;subst v2;refine au ?_;rfl
theorem vX {l_:(List aH)} {s_:(List Int)} (h1:l_.length≤2000000) (h2:s_.length≤2000000) (h3:ChOK l_):W (mD l_ s_) (fun r=>r=settB l_ s_):=by
 unfold mD;refine bF (fun c1=>?_) (fun c1=>?_)
 ·have eH:=c1;have c1:=nr c1;refine au ?_;(unfold settB; rw [show ((s_.length:Int)==(l_.length:Int))=false by simpa using eH]; rfl)
 ·have eH:=c1;have c1:=nr c1;have he:((s_.length:Int)==(l_.length:Int))=true:=by simpa using eH
  refine bq (fun (g1:Int)=>0≤g1∧g1≤s_.length∧(∀j:Nat,(j:Int)<g1→withinF (s_.getD j 0) 0 ((l_.getD j aI).aK.length - 1)=true)) (fun (g1:Int)=>(s_.length - g1).toNat) ?_ ?_
  ·intro aj g1 dH bL;obtain ⟨cK,bC,bJ⟩:=dH;unfold Cg;refine wi (fun c2=>?_) (fun c2=>?_)
   ·have hch:=h3 g1.toNat om;refine wm ?_;refine wn ?_;refine aF (uR (iH _ _ _)) fun v3 hv3=>?_;subst v3;refine bF (fun c3=>?_) (fun c3=>?_)
    ·have iB:=c3;have c3:=nr c3;refine au ?_;(unfold settB; rw [he,rangeAll_false (i:=g1.toNat) om (by simpa using iB)]; rfl)
    ·have iB:=c3;have c3:=nr c3;refine wn ?_;refine bL _ ?_ ?_
     ·(refine ⟨ob,ob,fun j hj=>?_⟩; by_cases q:j<g1.toNat; (exact bJ j om); (have e:j=g1.toNat:=by omega); subst e; simpa using iB)
     ·exact ob
   ·refine au ?_;(unfold settB; rw [he,rangeAll_true fun j hj=>bJ j om]; rfl)
  ·(refine ⟨ob,ob,fun j hj=>by omega⟩)
theorem Hl {l_:(List aH)} {s_:(List Int)} {ig:Int} (h1:0≤ig) (h2:ig<l_.length) (h3:ig<s_.length) (h4:PChOK (l_.getD ig.toNat aI) (s_.getD ig.toNat 0)):W (qP l_ s_ ig) (fun r=>r=parF (l_.getD ig.toNat aI) (s_.getD ig.toNat 0)):=by
 have hp:=h4; unfold PChOK at hp;unfold qP;refine wn ?_;refine bF (fun c1=>?_) (fun c1=>?_)
 ·have eH:=c1;have c1:=nr c1;refine au ?_;(unfold parF; rw [eH]; rfl)
 ·have eH:=c1;have c1:=nr c1;refine bF (fun c2=>?_) (fun c2=>?_)
  ·have iL:=c2;have c2:=nr c2;refine wm ?_;refine wn ?_;refine au ?_;(unfold parF; rw [eH,iL]; rfl)
  ·have iL:=c2;have c2:=nr c2;refine wn ?_;refine au ?_;(unfold parF; rw [eH,iL]; rfl)
theorem JK {l_:(List aH)} {s_:(List Int)} (h1:Good l_ s_):W (zW l_ s_) (fun r=>r=ratesF l_ s_):=by
 obtain ⟨q1,q2,q3,q4,q5⟩:=h1;unfold zW;refine wn ?_;refine bq (fun (g1:(Int×(List bH)))=>0≤g1.1∧g1.1≤l_.length∧g1.2=ratesN l_ s_ g1.1.toNat++List.replicate (l_.length - g1.1.toNat) dO) (fun (g1:(Int×(List bH)))=>(l_.length - g1.1).toNat) ?_ ?_
 ·intro aj g1 dH bL;obtain ⟨cK,bC,bJ⟩:=dH;unfold Gh;refine wi (fun c1=>?_) (fun c1=>?_)
  ·have hlt:g1.1.toNat<l_.length:=om; have hch:=q3 _ hlt; have hpar:=q5 _ hlt; have hpc:=q4 _ hlt; have hrl:=ratesN_len l_ s_ g1.1.toNat; have hgl:g1.2.length=l_.length:=(by rw [bJ,List.length_append,hrl,List.length_replicate]; omega);refine wm ?_;refine wn ?_;refine aF (Hl ob ob ob ob) fun v7 hv7=>?_;subst v7;refine bF (fun c2=>?_) (fun c2=>?_)
   ·have iL:=c2;have c2:=nr c2;refine wm ?_;refine bL _ ?_ ?_
    ·(refine ⟨ob,ob,?_⟩; dsimp only; exact mG bJ om (by unfold rt1; rw [iL]; rfl))
    ·exact ob
   ·have iL:=c2;have c2:=nr c2;have hget:g1.2.getD (parF (l_.getD g1.1.toNat aI) (s_.getD g1.1.toNat 0)).toNat dO=(ratesN l_ s_ g1.1.toNat).getD (parF (l_.getD g1.1.toNat aI) (s_.getD g1.1.toNat 0)).toNat dO:=by rw [bJ]; exact getD_app_l _ om
    refine wn ?_;refine bF (fun c3=>?_) (fun c3=>?_)
    ·have iB:=c3;have c3:=nr c3;refine wm ?_;refine bL _ ?_ ?_
     ·(refine ⟨ob,ob,?_⟩; dsimp only; exact mG bJ om (by unfold rt1; rw [iL,← hget,show (isOff _||_)=true from iB]; rfl))
     ·exact ob
    ·have iB:=c3;have c3:=nr c3;refine bF (fun c4=>?_) (fun c4=>?_)
     ·have mW:=c4;have c4:=nr c4;refine wn ?_;refine aF (NC) fun v8 BH=>?_;subst v8;refine wm ?_;refine bL _ ?_ ?_
      ·(refine ⟨ob,ob,?_⟩; dsimp only; exact mG bJ om (by unfold rt1; rw [iL,← hget,show (isOff _||_)=false from iB,mW]; rfl))
      ·exact ob
     ·have mW:=c4;have c4:=nr c4;refine bF (fun c5=>?_) (fun c5=>?_)
      ·have yg:=c5;have c5:=nr c5;refine wn ?_;refine aF (K5) fun v9 SB=>?_;subst v9;refine wm ?_;refine bL _ ?_ ?_
       ·(refine ⟨ob,ob,?_⟩; dsimp only; exact mG bJ om (by unfold rt1; rw [iL,← hget,show (isOff _||_)=false from iB,mW,yg]; rfl))
       ·exact ob
      ·have yg:=c5;have c5:=nr c5;refine wm ?_;refine wn ?_;refine bL _ ?_ ?_
       ·(refine ⟨ob,ob,?_⟩; dsimp only; exact mG bJ om (by unfold rt1; rw [iL,← hget,show (isOff _||_)=false from iB,mW,yg]; rfl))
       ·exact ob
  ·refine au ?_;(rw [bJ,show g1.1.toNat=l_.length by omega,Nat.sub_self]; simp [ratesF])
 ·(refine ⟨ob,ob,?_⟩; simp [ratesN])
theorem NY {x_:bK} {l6:(List bH)} (h1:0≤x_.dW) (h2:x_.dW<l6.length):W (oQ x_ l6) (fun r=>r=offL l6 x_):=by
 unfold oQ;refine wm ?_;refine aF (fP fun hc=>jT (BG)) fun v1 hv1=>?_;subst v1;refine au ?_;rfl
theorem qF {s_:(List bK)} {f_:(List bH)} (h1:s_.length≤2000000) (h2:∀x∈s_,0≤x.dW∧x.dW<f_.length):W (iK s_ f_) (fun r=>r=s_.any (offL f_)):=
 uR (JJ (KY (p:=fun x=>oQ x f_) (P:=offL f_) (fun x hx=>jT (NY (h2 x hx).1 (h2 x hx).2)) om) (oW _ _))
theorem QU {l_:(List aH)} {s_:(List Int)} {m_:(List bK)} (h1:l_.length≤2000000) (h2:s_.length≤2000000) (h3:m_.length≤2000000) (h4:ChOK l_):W (Ac l_ s_ m_) (fun r=>r=meetsF l_ s_ m_):=by
 unfold Ac;refine aF (Hg ob ob) fun v1 hv1=>?_;subst v1;refine aF (fP fun hc=>jT (vX ob ob ob)) fun v2 hv2=>?_;subst v2;refine bF (fun c1=>?_) (fun c1=>?_)
 ·have eH:=c1;have c1:=nr c1;refine au ?_;(unfold meetsF; rw [show (limsB l_ m_&&settB l_ s_)=false from Bool.and_eq_false_iff.2 c1]; rfl)
 ·have eH:=c1;have c1:=nr c1;have hls:limsB l_ m_=true∧settB l_ s_=true:=by simpa using eH
  obtain ⟨hck,hml,hmb⟩:=lims_get hls.1;have hgd:=good_of (fine_of hck) hls.2;have hrl:(ratesF l_ s_).length=l_.length:=ratesN_len _ _ _;refine aF (JK ob) fun v3 hv3=>?_;subst v3;refine bq (fun (g1:Int)=>0≤g1∧g1≤l_.length∧(∀j:Nat,(j:Int)<g1→ownX ((ratesF l_ s_).getD j dO) (l_.getD j aI)=false)) (fun (g1:Int)=>(l_.length - g1).toNat) ?_ ?_
  ·intro aj g1 dH bL;obtain ⟨cK,bC,bJ⟩:=dH;unfold Gl;refine wi (fun c2=>?_) (fun c2=>?_)
   ·refine wm ?_;refine wn ?_;refine aF (fP fun hc=>jT (BG)) fun v6 hv6=>?_;subst v6;refine bF (fun c3=>?_) (fun c3=>?_)
    ·have iB:=c3;have c3:=nr c3;refine au ?_;(unfold meetsF; rw [hls.1,hls.2,show ownB l_ (ratesF l_ s_)=false from rangeAll_false (i:=g1.toNat) om (by rw [show ownX ((ratesF l_ s_).getD g1.toNat dO) (l_.getD g1.toNat aI)=true from iB]; rfl)]; rfl)
    ·have iB:=c3;have c3:=nr c3;refine wn ?_;refine bL _ ?_ ?_
     ·(refine ⟨ob,ob,fun j hj=>?_⟩; by_cases q:j<g1.toNat; (exact bJ j om); (have e:j=g1.toNat:=by omega); subst e; exact iB)
     ·exact ob
   ·refine aF (qF ob (fun x hx=>by rw [hrl]; exact (badL_get (Hf hls.1 x hx)).1)) fun v7 hv7=>?_;subst v7;refine au ?_;(unfold meetsF; rw [hls.1,hls.2,show ownB l_ (ratesF l_ s_)=true from rangeAll_true fun j hj=>by rw [bJ j om]; rfl]; rfl)
  ·(refine ⟨ob,ob,fun j hj=>by omega⟩)
theorem QV {l_:(List aH)} {s_:(List Int)} (h1:l_.length≤2000000) (h2:s_.length≤2000000) (h3:ChOK l_):W (zX l_ s_) (fun r=>r=ratesE l_ s_):=by
 unfold zX;refine aF (uR (mF ob)) fun v1 hv1=>?_;subst v1;refine bF (fun c1=>?_) (fun c1=>?_)
 ·have eH:=c1;have c1:=nr c1;refine au ?_;(unfold ratesE; rw [eH]; rfl)
 ·have eH:=c1;have c1:=nr c1;have hck:checkF l_=0:=by simpa using eH
  refine aF (vX ob ob ob) fun v2 hv2=>?_;subst v2;refine bF (fun c2=>?_) (fun c2=>?_)
  ·have iL:=c2;have c2:=nr c2;refine au ?_;(unfold ratesE; rw [eH,iL]; rfl)
  ·have iL:=c2;have c2:=nr c2;have hgd:=good_of (fine_of hck) (show settB l_ s_=true by simpa using iL);refine aF (JK ob) fun v3 hv3=>?_;subst v3;refine au ?_;(unfold ratesE; rw [eH,iL]; rfl)
end Go.Proofs.YtccjmcmolnbiiaaGreatDoor
namespace Go.Proofs.YtccjmcmolnbiiaaGreatDoor.Sp
open Go.Ab
set_option maxRecDepth 100000
deriving instance DecidableEq for aG,bE,dB
structure Chn where
 over:Bool
 sups:List Int
 first:Int
 last:Int
deriving DecidableEq
structure Dem where
 volt:Int
 draw:Int
 child:Int
deriving DecidableEq
def dem0:Dem:=⟨0,0,0⟩
def withinF (n lo hi:Int):Bool:=decide (lo≤n)&&decide (n≤hi)
def bigS (s:aG):Bool:=decide (16<(s.bN.length:Int))
def headB (s:aG) (k:Int):Bool:=((((!withinF s.aQ (-1) (k - 1))||((s.bN.length:Int)==0))||!withinF s.fG 0 5000)||(decide (s.aQ<0)&&(s.fG != 0)))||!withinF s.gB 0 10000
def ascB:Int→List Int→Bool
 | _,[]=>true
 | p,v::t=>!(!withinF v 1 5000||decide (v≤p))&&ascB v t
def validS (s:aG) (k:Int):Bool:=!headB s k&&ascB 0 s.bN
theorem asc_step {lev:List Int} {i:Nat} (hi:i<lev.length) {c:Bool} (hc:c=(!withinF (lev.getD i 0) 1 5000||(decide (0<(i:Int))&&decide (lev.getD i 0≤lev.getD (i - 1) 0)))):
  ascB (if i=0 then 0 else lev.getD (i - 1) 0) (lev.drop i)=(!c&&ascB (lev.getD i 0) (lev.drop (i+1))):=by
 rw [drop_cons 0 hi,ascB,hc];congr 2;cases h:withinF (lev.getD i 0) 1 5000 with
 | false=>rfl
 | true=>
  have h1:1≤lev.getD i 0:=by unfold withinF at h; simp at h; simpa using h.1
  by_cases h0:i=0
  ·subst h0;simp;have h1:1≤lev.getD 0 0:=h1;have:¬ lev.getD 0 0≤0:=by omega
   simpa using this
  ·have:decide (0<(i:Int))=true:=by simp; omega
   rw [this,if_neg h0];simp
def badD (n:Int) (x:bE):Bool:=((!withinF x.bY 0 (n - 1)||!withinF x.eP 0 5000)||!withinF x.jw 0 x.eP)||!withinF x.Load 0 10000
def valN:Nat→List aG→Bool
 | _,[]=>true
 | i,s::t=>validS s i&&valN (i+1) t
def checkF (l:List aG):Int:=bif decide (16<(l.length:Int))||l.any bigS then 3 else bif valN 0 l then 0 else 1
theorem any_false_get {α:Type} (d:α) {p:α→Bool} {l:List α} (h:l.any p=false) (i:Nat) (hi:i<l.length):p (l.getD i d)=false:=by
 have:=getD_mem d hi;rw [List.any_eq_false] at h;simpa using h _ this
theorem lt1_eq0 (n:Nat):decide ((n:Int)<1)=((n:Int)==0):=by
 by_cases h:n=0
 ·subst h; rfl
 ·rw [decide_eq_false om];symm;simpa using h
def drawsF (l:List aG) (d:List bE):Bool:=((checkF l==0)&&decide ((d.length:Int)≤32))&&!(d.any (badD l.length))
theorem badD_ref (n:Int) (x:bE):(((!withinF x.bY 0 (n - 1)||!withinF x.jw 0 x.eP)||decide (5000<x.eP))||!withinF x.Load 0 10000)=badD n x:=by
 unfold badD;cases withinF x.bY 0 (n - 1) with
 | false=>rfl
 | true=>
  cases withinF x.Load 0 10000 with
  | false=>simp
  | true=>
   simp only [Bool.not_true,Bool.false_or,Bool.or_false];unfold withinF;by_cases h1:0≤x.jw<;>by_cases h2:x.jw≤x.eP<;>by_cases h3:5000<x.eP<;>by_cases h4:0≤x.eP<;>by_cases h5:x.eP≤5000<;>simp [h1,h2,h3,h4,h5]<;>omega
def rlN:List aG→List Int→Bool
 | s::l,k::t=>withinF k 0 (s.bN.length - 1)&&rlN l t
 | _,_=>true
def railsF (l:List aG) (r:dB):Bool:=bif ((checkF l != 0)||((r.On.length:Int) != l.length))||((r.dQ.length:Int) != l.length) then false else rlN l r.dQ
theorem check_bounds {l:List aG} (h:checkF l=0):l.length≤16∧(∀i,i<l.length→(l.getD i aC).bN.length≤16)∧valN 0 l=true:=by
 unfold checkF at h;cases h1:(decide (16<(l.length:Int))||l.any bigS) with
 | true=>rw [h1] at h; cases h
 | false=>
  rw [h1] at h;have h2:valN 0 l=true:=by
   cases hv:valN 0 l with
   | true=>rfl
   | false=>rw [hv] at h; cases h
  simp only [Bool.or_eq_false_iff] at h1;refine ⟨by have:=of_decide_eq_false h1.1; omega,fun i hi=>?_,h2⟩;have:=any_false_get aC h1.2 i hi;unfold bigS at this;have:=of_decide_eq_false this;omega
def beginF (l:List aG) (d:List bE):Int:=bif checkF l != 0 then checkF l else bif !drawsF l d then 1 else 0
theorem getD_set {α:Type} (d:α) (l:List α) (i:Nat) (v:α) (k:Nat):(l.set i v).getD k d=if k=i∧i<l.length then v else l.getD k d:=by
 rw [List.getD_eq_getElem?_getD,List.getD_eq_getElem?_getD,List.getElem?_set];by_cases h:i=k
 ·subst h;by_cases h2:i<l.length
  ·simp [h2]
  ·simp [h2]
 ·have:¬ (k=i∧i<l.length):=fun h'=>h h'.1.symm;simp [h,this]
def backN {α:Type} (f:Nat→α→α):Nat→α→α
 | 0,a=>a
 | k+1,a=>backN f k (f k a)
def markD (n:Nat) (d:List bE):List Bool:=d.foldl (fun a x=>a.set x.bY.toNat true) (List.replicate n false)
def usedStep (l:List aG) (i:Nat) (a:List Bool):List Bool:=
 bif (a.getD i false||(l.getD i aC).fI)&&decide (0≤(l.getD i aC).aQ) then (a.set i (a.getD i false||(l.getD i aC).fI)).set (l.getD i aC).aQ.toNat true else a.set i (a.getD i false||(l.getD i aC).fI)
def usedF (l:List aG) (d:List bE):List Bool:=backN (usedStep l) l.length (markD l.length d)
structure Vld (l:List aG) (d:List bE):Prop where
 len:l.length≤16
 dlen:d.length≤32
 bY:∀i,i<l.length → -1≤(l.getD i aC).aQ∧(l.getD i aC).aQ<i∧1≤(l.getD i aC).bN.length∧(l.getD i aC).bN.length≤16∧0≤(l.getD i aC).fG∧(l.getD i aC).fG≤5000∧0≤(l.getD i aC).gB∧(l.getD i aC).gB≤10000
 bN:∀i,i<l.length→ascB 0 (l.getD i aC).bN=true
 drw:∀x∈d,0≤x.bY∧x.bY<l.length∧0≤x.jw∧x.jw≤x.eP∧x.eP≤5000∧0≤x.Load∧x.Load≤10000
theorem withinF_iff {n lo hi:Int}:withinF n lo hi=true↔lo≤n∧n≤hi:=by
 unfold withinF;simp
theorem valN_get {l:List aG} {k:Nat} (h:valN k l=true):∀i,i<l.length→validS (l.getD i aC) ((k+i:Nat):Int)=true:=by
 induction l generalizing k with
 | nil=>intro i hi; simp at hi
 | cons s t ih=>
  rw [valN,Bool.and_eq_true] at h;intro i hi;cases i with
  | zero=>exact h.1
  | succ i=>
   have:=ih h.2 i (by simpa using hi);rw [show k+(i+1)=k+1+i by omega];exact this
theorem valid_of {s:aG} {k:Int} (h:validS s k=true) : -1≤s.aQ∧s.aQ<k∧1≤s.bN.length∧0≤s.fG∧s.fG≤5000∧0≤s.gB∧s.gB≤10000∧ascB 0 s.bN=true∧(s.aQ<0→s.fG=0):=by
 unfold validS headB at h;simp only [Bool.and_eq_true,Bool.not_eq_true',Bool.or_eq_false_iff,Bool.not_eq_false',withinF_iff] at h;obtain ⟨⟨⟨⟨⟨h1,h2⟩,h3⟩,h4⟩,h5⟩,h6⟩:=h;have h2':¬ (s.bN.length:Int)=0:=by simpa using h2
 refine ⟨h1.1,om,om,h3.1,h3.2,h5.1,h5.2,h6,fun hp=>?_⟩;rw [decide_eq_true hp] at h4;simpa using h4
theorem vld_of {l:List aG} {d:List bE} (h:drawsF l d=true):Vld l d:=by
 unfold drawsF at h;simp only [Bool.and_eq_true,Bool.not_eq_true'] at h;obtain ⟨⟨h1,h2⟩,h3⟩:=h;have h1:checkF l=0:=by simpa using h1
 obtain ⟨c1,c2,c3⟩:=check_bounds h1;refine ⟨c1,by have:=of_decide_eq_true h2; omega,fun i hi=>?_,fun i hi=>?_,fun x hx=>?_⟩
 ·have:=valid_of (valN_get c3 i hi);have:=c2 i hi;omega
 ·exact (valid_of (valN_get c3 i hi)).2.2.2.2.2.2.2.1
 ·have:=(List.any_eq_false.1 h3) x hx;unfold badD at this;simp only [Bool.not_eq_true,Bool.or_eq_false_iff,Bool.not_eq_false',withinF_iff] at this;omega
theorem foldl_len {α β:Type} (f:List α→β→List α) (hf:∀a x,(f a x).length=a.length) (d:List β) (a:List α):(d.foldl f a).length=a.length:=by
 induction d generalizing a with
 | nil=>rfl
 | cons x d ih=>rw [List.foldl_cons,ih,hf]
theorem markD_len (n:Nat) (d:List bE):(markD n d).length=n:=by
 unfold markD;rw [foldl_len _ (fun a x=>List.length_set ..),List.length_replicate]
theorem usedStep_len (l:List aG) (i:Nat) (a:List Bool):(usedStep l i a).length=a.length:=by
 unfold usedStep;cases (a.getD i false||(l.getD i aC).fI)&&decide (0≤(l.getD i aC).aQ)<;>simp
theorem backN_len {α:Type} {f:Nat→List α→List α} (hf:∀i a,(f i a).length=a.length) (k:Nat) (a:List α):(backN f k a).length=a.length:=by
 induction k generalizing a with
 | zero=>rfl
 | succ k ih=>rw [backN,ih,hf]
theorem usedF_len (l:List aG) (d:List bE):(usedF l d).length=l.length:=by
 unfold usedF;rw [backN_len (usedStep_len l),markD_len]
def upN {α:Type} (f:Nat→α→α) (n:Nat):Nat→α→α
 | 0,a=>a
 | k+1,a=>f (n - 1 - k) (upN f n k a)
theorem backN_upN {α:Type} (f:Nat→α→α) (n k:Nat) (hk:k≤n) (a:α):backN f n a=backN f (n - k) (upN f n k a):=by
 induction k with
 | zero=>rfl
 | succ k ih=>
  rw [ih om,show n - k=n - (k+1)+1 by omega,backN,upN,show n - 1 - k=n - (k+1) by omega]
theorem upN_all {α:Type} (f:Nat→α→α) (n:Nat) (a:α):upN f n n a=backN f n a:=by
 rw [backN_upN f n n (Nat.le_refl _),Nat.sub_self];rfl
theorem upN_len {α:Type} {f:Nat→List α→List α} (hf:∀i a,(f i a).length=a.length) (n k:Nat) (a:List α):(upN f n k a).length=a.length:=by
 induction k with
 | zero=>rfl
 | succ k ih=>rw [upN,hf,ih]
theorem rep_getD {α:Type} (n k:Nat) (v:α):(List.replicate n v).getD k v=v:=by
 rw [List.getD_eq_getElem?_getD,List.getElem?_replicate];split<;>rfl
def sumD (n:Nat) (d:List bE):List Int:=d.foldl (fun a x=>a.set x.bY.toNat (a.getD x.bY.toNat 0+x.Load)) (List.replicate n 0)
def loadStep (l:List aG) (i:Nat) (a:List Int):List Int:=
 bif decide (0≤(l.getD i aC).aQ) then a.set (l.getD i aC).aQ.toNat (a.getD (l.getD i aC).aQ.toNat 0+a.getD i 0) else a
def loadsF (l:List aG) (d:List bE):List Int:=backN (loadStep l) l.length (sumD l.length d)
theorem sumD_len (n:Nat) (d:List bE):(sumD n d).length=n:=by
 unfold sumD;rw [foldl_len _ (fun a x=>List.length_set ..),List.length_replicate]
theorem loadStep_len (l:List aG) (i:Nat) (a:List Int):(loadStep l i a).length=a.length:=by
 unfold loadStep;cases decide (0≤(l.getD i aC).aQ)<;>simp
theorem loadsF_len (l:List aG) (d:List bE):(loadsF l d).length=l.length:=by
 unfold loadsF;rw [backN_len (loadStep_len l),sumD_len]
def Bnd (a:List Int) (M:Int):Prop:=∀j,0≤a.getD j 0∧a.getD j 0≤M
theorem Bnd.set {a:List Int} {M N:Int} (h:Bnd a M) (hM:M≤N) (i:Nat) (v:Int) (hv:0≤v∧v≤N):Bnd (a.set i v) N:=fun j=>by
 rw [getD_set];have:=h j;split
 ·exact hv
 ·omega
theorem sumD_bnd (n:Nat) (d:List bE) (hd:∀x∈d,0≤x.Load∧x.Load≤10000) (i:Nat) (hi:i≤d.length):Bnd (sumD n (d.take i)) (10000*i):=by
 induction i with
 | zero=>intro j; rw [List.take_zero]; have:(sumD n []).getD j 0=0:=rep_getD n j 0; omega
 | succ i ih=>
  have hsn:sumD n (d.take (i+1))=(sumD n (d.take i)).set (d.getD i dD).bY.toNat ((sumD n (d.take i)).getD (d.getD i dD).bY.toNat 0+(d.getD i dD).Load):=foldl_take _ _ dD hi;rw [hsn];have h1:=ih om;have h2:=hd _ (getD_mem dD hi);have h3:=h1 (d.getD i dD).bY.toNat;exact h1.set om _ _ om
theorem loadUp_bnd (l:List aG) (a:List Int) (M:Int) (h:Bnd a M) (k:Nat):Bnd (upN (loadStep l) l.length k a) (M*2 ^ k):=by
 induction k with
 | zero=>show Bnd a (M*2 ^ 0); rw [Int.pow_zero,Int.mul_one]; exact h
 | succ k ih=>
  rw [upN];have e:M*2 ^ (k+1)=M*2 ^ k+M*2 ^ k:=by rw [Int.pow_succ,← Int.mul_assoc]; omega
  rw [e];generalize upN (loadStep l) l.length k a=A at ih;generalize M*2 ^ k=X at ih;have hp:0≤X:=by have:=ih 0; omega
  unfold loadStep;cases decide (0≤(l.getD (l.length - 1 - k) aC).aQ) with
  | true=>
   have h1:=ih (l.getD (l.length - 1 - k) aC).aQ.toNat;have h2:=ih (l.length - 1 - k);exact ih.set om _ _ om
  | false=>
   intro j;have:=ih j;simp only [cond_false];omega
theorem loadUp_small {l:List aG} {d:List bE} (hv:Vld l d) (k:Nat) (hk:k≤l.length):Bnd (upN (loadStep l) l.length k (sumD l.length d)) 100000000000:=by
 have h1:=sumD_bnd l.length d (fun x hx=>by have:=hv.drw x hx; omega) d.length (Nat.le_refl _);rw [List.take_length] at h1;have h2:=loadUp_bnd l _ _ h1 k;have hvl:=hv.len;have hvd:=hv.dlen;have h3:(2:Int) ^ k≤2 ^ 16:=by exact_mod_cast Nat.pow_le_pow_right (n:=2) (by decide) (show k≤16 by omega)
 have h4:10000*(d.length:Int)*2 ^ k≤320000*2 ^ 16:=Int.mul_le_mul om h3 (Int.pow_nonneg (by decide)) (by decide);intro j;have:=h2 j;omega
theorem begin_ok {l:List aG} {d:List bE} (h:beginF l d=0):drawsF l d=true:=by
 unfold beginF at h;cases hc:checkF l != 0 with
 | true=>rw [hc] at h; have:checkF l=0:=h; rw [this] at hc; cases hc
 | false=>
  rw [hc] at h;cases hd:drawsF l d with
  | true=>rfl
  | false=>rw [hd] at h; cases h
def voltF (l:List aG) (r:dB) (k:Nat):Int:=(l.getD k aC).bN.getD (r.dQ.getD k 0).toNat 0
def mBad (l:List aG) (r:dB) (u:List Bool) (ld:List Int) (i:Nat):Bool:=
 bif !r.On.getD i false then u.getD i false
 else (decide (0≤(l.getD i aC).aQ)&&(!r.On.getD (l.getD i aC).aQ.toNat false||decide (voltF l r (l.getD i aC).aQ.toNat<voltF l r i+(l.getD i aC).fG)))||decide ((l.getD i aC).gB<ld.getD i 0)
def dBad (l:List aG) (r:dB) (x:bE):Bool:=!withinF (voltF l r x.bY.toNat) x.jw x.eP
def meets0 (l:List aG) (r:dB) (d:List bE):Bool:=(List.range l.length).all (fun i=>!mBad l r (usedF l d) (loadsF l d) i)&&!(d.any (dBad l r))
def meetsF (l:List aG) (r:dB) (d:List bE):Bool:=bif !railsF l r||!drawsF l d then false else meets0 l r d
structure Rok (l:List aG) (r:dB):Prop where
 On:r.On.length=l.length
 len:r.dQ.length=l.length
 bN:∀i,i<l.length→0≤r.dQ.getD i 0∧(r.dQ.getD i 0).toNat<(l.getD i aC).bN.length∧r.dQ.getD i 0<(l.getD i aC).bN.length
theorem rlN_iff {l:List aG} {r:List Int} (h:r.length=l.length):rlN l r=true↔∀i,i<l.length→0≤r.getD i 0∧r.getD i 0<(l.getD i aC).bN.length:=by
 induction l generalizing r with
 | nil=>simp [rlN]
 | cons s l ih=>
  cases r with
  | nil=>simp at h
  | cons k r=>
   rw [rlN,Bool.and_eq_true,withinF_iff,ih (by simpa using h)];constructor
   ·rintro ⟨h1,h2⟩ i hi;cases i with
    | zero=>show 0≤k∧k<s.bN.length; omega
    | succ i=>exact h2 i (by simpa using hi)
   ·intro h2;refine ⟨?_,fun i hi=>h2 (i+1) (by simpa using hi)⟩;have:0≤k∧k<s.bN.length:=h2 0 (by simp);omega
theorem rails_iff {l:List aG} {r:dB}:railsF l r=true↔checkF l=0∧Rok l r:=by
 unfold railsF;cases h:((checkF l != 0)||((r.On.length:Int) != l.length))||((r.dQ.length:Int) != l.length) with
 | true=>
  simp only [cond_true];constructor
  ·intro h; cases h
  ·rintro ⟨h1,h2⟩;rw [h1,h2.On,h2.len] at h;simp at h
 | false=>
  simp only [cond_false];have h':checkF l=0∧r.On.length=l.length∧r.dQ.length=l.length:=by
   simp at h;omega
  rw [rlN_iff h'.2.2];constructor
  ·intro h1;exact ⟨h'.1,h'.2.1,h'.2.2,fun i hi=>by have:=h1 i hi; omega⟩
  ·intro h1 i hi;have:=h1.2.bN i hi;omega
theorem asc_get {p:Int} {v:List Int} (h:ascB p v=true):∀j,j<v.length→p<v.getD j 0∧1≤v.getD j 0∧v.getD j 0≤5000:=by
 induction v generalizing p with
 | nil=>intro j hj; simp at hj
 | cons a v ih=>
  rw [ascB,Bool.and_eq_true,Bool.not_eq_true',Bool.or_eq_false_iff,Bool.not_eq_false',withinF_iff] at h;have h1:=of_decide_eq_false h.1.2;intro j hj;cases j with
  | zero=>show p<a∧1≤a∧a≤5000; omega
  | succ j=>
   have:=ih h.2 j (by simpa using hj);show p<v.getD j 0∧1≤v.getD j 0∧v.getD j 0≤5000;omega
theorem all_range_false {n i:Nat} {p:Nat→Bool} (hi:i<n) (h:p i=false):(List.range n).all p=false:=by
 rw [List.all_eq_false];exact ⟨i,by simpa using hi,by simp [h]⟩
theorem all_range_true {n:Nat} {p:Nat→Bool} (h:∀i,i<n→p i=true):(List.range n).all p=true:=by
 rw [List.all_eq_true];intro i hi;exact h i (by simpa using hi)
theorem volt_bnd {l:List aG} {d:List bE} {r:dB} (hv:Vld l d) (hr:Rok l r) (i:Nat) (hi:i<l.length):1≤voltF l r i∧voltF l r i≤5000:=by
 have:=asc_get (hv.bN i hi) _ (hr.bN i hi).2.1;unfold voltF;omega
theorem ext_getD {α:Type} (d:α) {a b:List α} (h1:a.length=b.length) (h2:∀j,j<a.length→a.getD j d=b.getD j d):a=b:=by
 apply List.ext_getElem h1;intro j hj hj';have:=h2 j hj;rw [List.getD_eq_getElem?_getD,List.getD_eq_getElem?_getD,List.getElem?_eq_getElem hj,List.getElem?_eq_getElem hj'] at this;exact this
def atD (d:List bE) (i:Nat):Bool:=d.any (fun x=>x.bY==(i:Int))
theorem markD_get (n:Nat) (d:List bE) (hd:∀x∈d,0≤x.bY∧x.bY<n) (j:Nat):(markD n d).getD j false=atD d j:=by
 unfold markD atD;have key:∀(d:List bE) (a:List Bool),a.length=n→(∀x∈d,0≤x.bY∧x.bY<n)→(d.foldl (fun a x=>a.set x.bY.toNat true) a).getD j false=(a.getD j false||d.any (fun x=>x.bY==(j:Int))):=by
  intro d;induction d with
  | nil=>intro a _ _; simp
  | cons x d ih=>
   intro a ha hd;have hx:=hd x (by simp);rw [List.foldl_cons,ih _ (by simpa using ha) (fun y hy=>hd y (by simp [hy])),getD_set,List.any_cons];by_cases hj:j=x.bY.toNat
   ·have:(x.bY==(j:Int))=true:=by simp; omega
    rw [if_pos ⟨hj,om⟩,this];simp
   ·have:(x.bY==(j:Int))=false:=by simp; omega
    rw [if_neg (fun h=>hj h.1),this];simp
 rw [key d _ (by simp) hd,rep_getD];simp
structure RUsed (l:List aG) (d:List bE) (k:Nat) (b:List Bool):Prop where
 len:b.length=l.length
 hi:∀j,j<l.length→l.length - k≤j→b.getD j false=(upN (usedStep l) l.length k (markD l.length d)).getD j false
 lo:∀j,j<l.length - k→(upN (usedStep l) l.length k (markD l.length d)).getD j false=(b.getD j false||atD d j)
def rusStep (l:List aG) (d:List bE) (i:Nat) (b:List Bool):List Bool:=
 bif (b.getD i false||(l.getD i aC).fI||atD d i)&&decide (0≤(l.getD i aC).aQ) then (b.set i (b.getD i false||(l.getD i aC).fI||atD d i)).set (l.getD i aC).aQ.toNat true else b.set i (b.getD i false||(l.getD i aC).fI||atD d i)
theorem RUsed.step {l:List aG} {d:List bE} (hv:Vld l d) {k:Nat} {b:List Bool} (h:RUsed l d k b) (hk:k<l.length):RUsed l d (k+1) (rusStep l d (l.length - 1 - k) b):=by
 obtain ⟨h1,h2,h3⟩:=h;have hup:upN (usedStep l) l.length (k+1) (markD l.length d)=usedStep l (l.length - 1 - k) (upN (usedStep l) l.length k (markD l.length d)):=rfl;have hal:(upN (usedStep l) l.length k (markD l.length d)).length=l.length:=by rw [upN_len (usedStep_len l),markD_len]
 generalize upN (usedStep l) l.length k (markD l.length d)=a at h2 h3 hup hal;have hs:=hv.bY (l.length - 1 - k) om;have hai:=h3 (l.length - 1 - k) om;generalize hi:l.length - 1 - k=i at hup hs hai;have hF:(a.getD i false||(l.getD i aC).fI)=(b.getD i false||(l.getD i aC).fI||atD d i):=by
  rw [hai];cases b.getD i false<;>cases (l.getD i aC).fI<;>cases atD d i<;>rfl
 refine ⟨?_,?_,?_⟩
 ·unfold rusStep;cases (b.getD i false||(l.getD i aC).fI||atD d i)&&decide (0≤(l.getD i aC).aQ)<;>simp [h1]
 all_goals
  rw [hup]
  unfold rusStep usedStep
  rw [hF]
  generalize (b.getD i false||(l.getD i aC).fI||atD d i)=F
  cases hc:F&&decide (0≤(l.getD i aC).aQ) with
  | true=>
   simp only [cond_true]
   simp only [Bool.and_eq_true] at hc
   have hp:=of_decide_eq_true hc.2
   intro j hj
   try intro hj2
   simp only [getD_set,List.length_set,h1,hal]
   by_cases hjp:j=(l.getD i aC).aQ.toNat∧(l.getD i aC).aQ.toNat<l.length
   ·rw [if_pos hjp,if_pos hjp]
    try rfl
   ·rw [if_neg hjp,if_neg hjp]
    by_cases hji:j=i∧i<l.length
    ·rw [if_pos hji,if_pos hji]
     try omega
    ·rw [if_neg hji,if_neg hji]
     first | exact h2 j om om | exact h3 j om
  | false=>
   simp only [cond_false]
   intro j hj
   try intro hj2
   simp only [getD_set,h1,hal]
   by_cases hji:j=i∧i<l.length
   ·rw [if_pos hji,if_pos hji]
    try omega
   ·rw [if_neg hji,if_neg hji]
    first | exact h2 j om om | exact h3 j om
theorem RUsed.done {l:List aG} {d:List bE} {b:List Bool} (h:RUsed l d l.length b):b=usedF l d:=by
 refine ext_getD false (by rw [h.len,usedF_len]) fun j hj=>?_;rw [h.hi j (by rw [← h.len]; exact hj) om,upN_all];rfl
theorem RUsed.start {l:List aG} {d:List bE} (hv:Vld l d):RUsed l d 0 (List.replicate l.length false):=by
 refine ⟨by simp,fun j hj h=>by omega,fun j hj=>?_⟩;rw [rep_getD];show (markD l.length d).getD j false=_;rw [markD_get _ _ (fun x hx=>by have:=hv.drw x hx; omega)];simp
def dsum (d:List bE) (i:Nat):Int:=d.foldl (fun s x=>bif x.bY==(i:Int) then s+x.Load else s) 0
theorem dsum_take {d:List bE} {j i:Nat} (h:j<d.length):dsum (d.take (j+1)) i=bif (d.getD j dD).bY==(i:Int) then dsum (d.take j) i+(d.getD j dD).Load else dsum (d.take j) i:=foldl_take _ _ dD h
theorem sumD_get (n:Nat) (d:List bE) (hd:∀x∈d,0≤x.bY∧x.bY<n) (j:Nat):(sumD n d).getD j 0=dsum d j:=by
 unfold sumD dsum;have key:∀(d:List bE) (a:List Int) (s:Int),a.length=n→(∀x∈d,0≤x.bY∧x.bY<n)→a.getD j 0=s→(d.foldl (fun a x=>a.set x.bY.toNat (a.getD x.bY.toNat 0+x.Load)) a).getD j 0=d.foldl (fun s x=>bif x.bY==(j:Int) then s+x.Load else s) s:=by
  intro d;induction d with
  | nil=>intro a s _ _ h; exact h
  | cons x d ih=>
   intro a s ha hd h;have hx:=hd x (by simp);rw [List.foldl_cons,List.foldl_cons];refine ih _ _ (by simpa using ha) (fun y hy=>hd y (by simp [hy])) ?_;rw [getD_set];by_cases hj:j=x.bY.toNat
   ·have:(x.bY==(j:Int))=true:=by simp; omega
    rw [if_pos ⟨hj,om⟩,this,← hj,h];rfl
   ·have:(x.bY==(j:Int))=false:=by simp; omega
    rw [if_neg (fun h=>hj h.1),this];exact h
 exact key d _ 0 (by simp) hd (rep_getD _ _ _)
theorem dsum_bnd {d:List bE} (hd:∀x∈d,0≤x.Load∧x.Load≤10000) (i j:Nat) (hj:j≤d.length):0≤dsum (d.take j) i∧dsum (d.take j) i≤10000*j:=by
 induction j with
 | zero=>rw [List.take_zero]; exact ⟨Int.le_refl _,Int.le_refl _⟩
 | succ j ih=>
  have:=ih om;have h2:=hd _ (getD_mem dD hj);rw [dsum_take hj];cases (d.getD j dD).bY==(i:Int) with
  | true=>simp only [cond_true]; omega
  | false=>simp only [cond_false]; omega
structure RLoad (l:List aG) (d:List bE) (k:Nat) (b:List Int):Prop where
 len:b.length=l.length
 pos:∀j,0≤b.getD j 0
 hi:∀j,j<l.length→l.length - k≤j→b.getD j 0=(upN (loadStep l) l.length k (sumD l.length d)).getD j 0
 lo:∀j,j<l.length - k→(upN (loadStep l) l.length k (sumD l.length d)).getD j 0=b.getD j 0+dsum d j
def rloStep (l:List aG) (d:List bE) (i:Nat) (b:List Int):List Int:=
 bif decide (0≤(l.getD i aC).aQ) then (b.set i (b.getD i 0+dsum d i)).set (l.getD i aC).aQ.toNat (b.getD (l.getD i aC).aQ.toNat 0+(b.getD i 0+dsum d i)) else b.set i (b.getD i 0+dsum d i)
theorem RLoad.step {l:List aG} {d:List bE} (hv:Vld l d) {k:Nat} {b:List Int} (h:RLoad l d k b) (hk:k<l.length):RLoad l d (k+1) (rloStep l d (l.length - 1 - k) b):=by
 obtain ⟨h1,h0,h2,h3⟩:=h;have hdp:∀i,0≤dsum d i:=fun i=>by
  have:=(dsum_bnd (d:=d) (fun x hx=>by have:=hv.drw x hx; omega) i d.length (Nat.le_refl _)).1;rwa [List.take_length] at this
 have hup:upN (loadStep l) l.length (k+1) (sumD l.length d)=loadStep l (l.length - 1 - k) (upN (loadStep l) l.length k (sumD l.length d)):=rfl;have hal:(upN (loadStep l) l.length k (sumD l.length d)).length=l.length:=by rw [upN_len (loadStep_len l),sumD_len]
 generalize upN (loadStep l) l.length k (sumD l.length d)=a at h2 h3 hup hal;have hs:=hv.bY (l.length - 1 - k) om;have hai:=h3 (l.length - 1 - k) om;generalize hi:l.length - 1 - k=i at hup hs hai;have hb0:=h0 i;have hd0:=hdp i;refine ⟨?_,?_,?_,?_⟩
 ·unfold rloStep;cases decide (0≤(l.getD i aC).aQ)<;>simp [h1]
 ·intro j;have hb1:=h0 j;have hb2:=h0 (l.getD i aC).aQ.toNat;unfold rloStep;cases decide (0≤(l.getD i aC).aQ)<;>simp only [cond_true,cond_false,getD_set]<;>repeat' split
  all_goals omega
 all_goals
  rw [hup]
  unfold rloStep loadStep
  cases hc:decide (0≤(l.getD i aC).aQ) with
  | true=>
   simp only [cond_true]
   have hp:=of_decide_eq_true hc
   intro j hj
   try intro hj2
   simp only [getD_set,List.length_set,h1,hal]
   have hap:=h3 (l.getD i aC).aQ.toNat om
   by_cases hjp:j=(l.getD i aC).aQ.toNat∧(l.getD i aC).aQ.toNat<l.length
   ·rw [if_pos hjp,if_pos hjp]
    try rw [hjp.1]
    omega
   ·rw [if_neg hjp,if_neg hjp]
    by_cases hji:j=i∧i<l.length
    ·rw [if_pos hji,hji.1]
     omega
    ·rw [if_neg hji]
     first | exact h2 j om om | exact h3 j om
  | false=>
   simp only [cond_false]
   intro j hj
   try intro hj2
   simp only [getD_set,h1]
   by_cases hji:j=i∧i<l.length
   ·rw [if_pos hji,hji.1]
    omega
   ·rw [if_neg hji]
    first | exact h2 j om om | exact h3 j om
theorem RLoad.done {l:List aG} {d:List bE} {b:List Int} (h:RLoad l d l.length b):b=loadsF l d:=by
 refine ext_getD 0 (by rw [h.len,loadsF_len]) fun j hj=>?_;rw [h.hi j (by rw [← h.len]; exact hj) om,upN_all];rfl
theorem RLoad.start {l:List aG} {d:List bE} (hv:Vld l d):RLoad l d 0 (List.replicate l.length 0):=by
 refine ⟨by simp,fun j=>by rw [rep_getD]; omega,fun j hj h=>by omega,fun j hj=>?_⟩;rw [rep_getD];show (sumD l.length d).getD j 0=_;rw [sumD_get _ _ (fun x hx=>by have:=hv.drw x hx; omega)];simp
theorem RLoad.small {l:List aG} {d:List bE} (hv:Vld l d) {k:Nat} {b:List Int} (h:RLoad l d k b) (hk:k≤l.length) (j:Nat):0≤b.getD j 0∧b.getD j 0≤100000000000:=by
 have h1:=loadUp_small hv k hk j;refine ⟨h.pos j,?_⟩;have hd:=(dsum_bnd (d:=d) (fun x hx=>by have:=hv.drw x hx; omega) j d.length (Nat.le_refl _)).1;rw [List.take_length] at hd;by_cases h2:j<l.length - k
 ·have:=h.lo j h2; omega
 ·by_cases h3:j<l.length
  ·have:=h.hi j h3 om; omega
  ·rw [getD_out 0 (by rw [h.len]; omega)]; omega
def lvN:List Int→Int→Nat
 | [],_=>0
 | x::t,v=>bif decide (v≤x) then 0 else lvN t v+1
theorem lvN_le (v:Int) (l:List Int):lvN l v≤l.length:=by
 induction l with
 | nil=>exact Nat.le_refl _
 | cons x l ih=>
  rw [lvN];cases decide (v≤x)<;>simp<;>omega
theorem lvN_lt {v:Int} {l:List Int}:∀j,j<lvN l v→l.getD j 0<v:=by
 induction l with
 | nil=>intro j hj; simp [lvN] at hj
 | cons x l ih=>
  rw [lvN];cases h:decide (v≤x) with
  | true=>intro j hj; simp at hj
  | false=>
   have:=of_decide_eq_false h;intro j hj;cases j with
   | zero=>show x<v; omega
   | succ j=>exact ih j (by simpa using hj)
theorem lvN_ge {v:Int} {l:List Int} (h:lvN l v<l.length):v≤l.getD (lvN l v) 0:=by
 induction l with
 | nil=>simp at h
 | cons x l ih=>
  rw [lvN] at h ⊢;cases hd:decide (v≤x) with
  | true=>exact of_decide_eq_true hd
  | false=>
   rw [hd] at h;exact ih (by simpa using h)
theorem lvN_eq {v:Int} {l:List Int} {k:Nat} (h0:k≤l.length) (h1:∀j,j<k→l.getD j 0<v) (h2:k<l.length→v≤l.getD k 0):k=lvN l v:=by
 have h3:=lvN_le v l;rcases Nat.lt_trichotomy k (lvN l v) with h | h | h
 ·have:=lvN_lt k h;have:=h2 om;omega
 ·exact h
 ·have:=lvN_ge (v:=v) (l:=l) om;have:=h1 _ h;omega
theorem wrap_u64 {n:Int} (h:0≤n∧n<18446744073709551616):IntKind.u64.wrap n=n:=by
 show (if (false&&decide (n % (2 ^ 64:Int) ≥ 2 ^ 63))=true then n % (2 ^ 64:Int) - 2 ^ 64 else n % (2 ^ 64:Int))=n;rw [Bool.false_and,if_neg (by decide)];exact Int.emod_eq_of_lt h.1 om
structure DS where
 a:List Dem
 lv:List Int
def dInit (n:Nat) (d:List bE):Nat→List Dem
 | 0=>List.replicate n ⟨0,-1,-1⟩
 | i+1=>bif decide (((dInit n d i).getD (d.getD i dD).bY.toNat dem0).volt<(d.getD i dD).jw) then (dInit n d i).set (d.getD i dD).bY.toNat ⟨(d.getD i dD).jw,i,-1⟩ else dInit n d i
def lvOf (l:List aG) (i:Nat) (s:DS):Nat:=lvN (l.getD i aC).bN (s.a.getD i dem0).volt
def needOf (l:List aG) (i:Nat) (s:DS):Int:=(l.getD i aC).bN.getD (lvOf l i s) 0+(l.getD i aC).fG
def dOne (l:List aG) (u:List Bool) (i:Nat) (s:DS):DS:=
 bif !u.getD i false then s
 else ⟨bif decide (0≤(l.getD i aC).aQ)&&decide ((s.a.getD (l.getD i aC).aQ.toNat dem0).volt<needOf l i s) then s.a.set (l.getD i aC).aQ.toNat ⟨needOf l i s,-1,i⟩ else s.a,s.lv.set i (lvOf l i s)⟩
def dFail (l:List aG) (u:List Bool) (i:Nat) (s:DS):Bool:=u.getD i false&&!decide ((lvOf l i s:Int)<(l.getD i aC).bN.length)
def demN (l:List aG) (u:List Bool):Nat→DS→DS×Int
 | 0,s=>(s,-1)
 | k+1,s=>bif dFail l u k s then (s,k) else demN l u k (dOne l u k s)
def ds0 (l:List aG) (d:List bE):DS:=⟨dInit l.length d d.length,List.replicate l.length 0⟩
def demF (l:List aG) (d:List bE):DS×Int:=demN l (usedF l d) l.length (ds0 l d)
theorem dInit_len (n:Nat) (d:List bE) (i:Nat):(dInit n d i).length=n:=by
 induction i with
 | zero=>simp [dInit]
 | succ i ih=>
  rw [dInit];cases decide (((dInit n d i).getD (d.getD i dD).bY.toNat dem0).volt<(d.getD i dD).jw)<;>simp [ih]
structure DOk (l:List aG) (s:DS):Prop where
 al:s.a.length=l.length
 ll:s.lv.length=l.length
theorem dOne_ok {l:List aG} {u:List Bool} {i:Nat} {s:DS} (h:DOk l s):DOk l (dOne l u i s):=by
 unfold dOne;cases u.getD i false with
 | false=>exact h
 | true=>
  refine ⟨?_,by simp [h.ll]⟩;simp only [Bool.not_true,cond_false];cases decide (0≤(l.getD i aC).aQ)&&decide ((s.a.getD (l.getD i aC).aQ.toNat dem0).volt<needOf l i s)<;>simp [h.al]
theorem ds0_ok (l:List aG) (d:List bE):DOk l (ds0 l d):=⟨dInit_len _ _ _,by simp [ds0]⟩
def leastF (l:List aG) (d:List bE):dB×Int:=
 bif beginF l d != 0 then (Mj,beginF l d)
 else bif decide (0≤(demF l d).2)||!meetsF l ⟨usedF l d,(demF l d).1.lv⟩ d then (Mj,9) else (⟨usedF l d,(demF l d).1.lv⟩,0)
def LvOk (l:List aG) (s:DS):Prop:=∀j,j<l.length→0≤s.lv.getD j 0∧s.lv.getD j 0<(l.getD j aC).bN.length
def lvK (l:List aG) (k v:Int):Nat:=lvN (l.getD k.toNat aC).bN v
def okK (l:List aG) (k v:Int):Bool:=decide (lvK l k v<(l.getD k.toNat aC).bN.length)
def voK (l:List aG) (k v:Int):Int:=(l.getD k.toNat aC).bN.getD (lvK l k v) 0
def rwN (l:List aG) (d:List bE) (last:Int):List Int→Int→Bool
 | [],_=>false
 | k::t,v=>bif !t.isEmpty then (bif !okK l k v then false else rwN l d last t (voK l k v+(l.getD k.toNat aC).fG))
  else bif !okK l k v||decide (last<0) then !okK l k v&&decide (last<0)
  else ((d.getD last.toNat dD).bY==k)&&decide ((d.getD last.toNat dD).eP<voK l k v)
abbrev sAt (l:List aG) (i:Nat):aG:=l.getD i aC
abbrev bAt (a:List Bool) (i:Nat):Bool:=a.getD i false
abbrev nAt (a:List Int) (i:Nat):Int:=a.getD i 0
abbrev dAt (a:List Dem) (i:Nat):Dem:=a.getD i dem0
abbrev xAt (d:List bE) (i:Nat):bE:=d.getD i dD
structure DI (n:Nat) (d:List bE) (i:Nat) (a:List Dem):Prop where
 len:a.length=n
 just:∀j,j<n→dAt a j=⟨0,-1,-1⟩∨∃q,q<i∧(xAt d q).bY=j∧dAt a j=⟨(xAt d q).jw,q,-1⟩
 jw:∀q,q<i→(xAt d q).jw≤(dAt a (xAt d q).bY.toNat).volt
structure Dm (l:List aG) (d:List bE) (u:List Bool) (k:Nat) (s:DS):Prop where
 al:s.a.length=l.length
 ll:s.lv.length=l.length
 just:∀j,j<l.length→dAt s.a j=⟨0,-1,-1⟩∨(∃q,q<d.length∧(xAt d q).bY=j∧dAt s.a j=⟨(xAt d q).jw,q,-1⟩)∨
  ∃c:Nat,k≤c∧c<l.length∧bAt u c=true∧(sAt l c).aQ=j∧lvOf l c s<(sAt l c).bN.length∧dAt s.a j=⟨needOf l c s,-1,c⟩
 jw:∀q,q<d.length→(xAt d q).jw≤(dAt s.a (xAt d q).bY.toNat).volt
 up:∀c,k≤c→c<l.length→bAt u c=true→0≤(sAt l c).aQ→needOf l c s≤(dAt s.a (sAt l c).aQ.toNat).volt
 ok:∀c,k≤c→c<l.length→bAt u c=true→lvOf l c s<(sAt l c).bN.length∧nAt s.lv c=lvOf l c s
 zero:∀c,c<l.length→c<k∨bAt u c=false→nAt s.lv c=0
structure Mt (l:List aG) (r:dB) (d:List bE):Prop where
 used:∀i,bAt (usedF l d) i=true→bAt r.On i=true
 aQ:∀i,i<l.length→bAt r.On i=true→0≤(sAt l i).aQ→bAt r.On (sAt l i).aQ.toNat=true∧voltF l r i+(sAt l i).fG≤voltF l r (sAt l i).aQ.toNat
 gB:∀i,i<l.length→bAt r.On i=true→nAt (loadsF l d) i≤(sAt l i).gB
 drw:∀x∈d,x.jw≤voltF l r x.bY.toNat∧voltF l r x.bY.toNat≤x.eP
theorem draws_check {l:List aG} {d:List bE} (h:drawsF l d=true):checkF l=0:=by
 unfold drawsF at h;simp only [Bool.and_eq_true] at h;simpa using h.1.1
structure Best (l:List aG) (d:List bE) (r:dB):Prop where
 ok:meetsF l r d=true
 On:r.On=usedF l d
 zero:∀i,bAt (usedF l d) i=false→nAt r.dQ i=0
 least:∀q,meetsF l q d=true→∀i,bAt (usedF l d) i=true→bAt q.On i=true∧nAt r.dQ i≤nAt q.dQ i
def jnL (l:List aG) (u:List Bool):List Int→Prop
 | []=>True
 | k::t=>(0≤k∧k<l.length∧bAt u k.toNat=true∧(∀k',t.head? = some k'→(sAt l k.toNat).aQ=k'))∧jnL l u t
structure Good (l:List aG) (d:List bE) (last:Int) (c:List Int) (fst:Int):Prop where
 ne:c≠[]
 jn:jnL l (usedF l d) c
 lo : -1≤fst
 hi:fst<d.length
 yes:0≤fst→(xAt d fst.toNat).bY=nAt c 0∧rwN l d last c (xAt d fst.toNat).jw=true
 no:fst<0→rwN l d last c 0=true
def vols (a:List Dem):List Int:=a.map Dem.volt
theorem vols_get (a:List Dem) (j:Nat):(vols a).getD j 0=(a.getD j dem0).volt:=by
 unfold vols;rw [List.getD_eq_getElem?_getD,List.getElem?_map,List.getD_eq_getElem?_getD];cases a[j]? <;> rfl
theorem vols_set (a:List Dem) (j:Nat) (x:Dem):vols (a.set j x)=(vols a).set j x.volt:=by
 unfold vols;rw [List.map_set]
theorem vols_len (a:List Dem):(vols a).length=a.length:=by simp [vols]
theorem set_self (a:List Int) (j:Nat):a.set j (a.getD j 0)=a:=by
 refine ext_getD 0 (by simp) fun k hk=>?_;rw [getD_set];split
 ·rename_i h; rw [h.1]
 ·rfl
theorem set_same (a:List Int) (j:Nat) (v:Int) (h:v=a.getD j 0):a.set j v=a:=by
 rw [h,set_self]
theorem vols_dInit (n:Nat) (d:List bE) (i:Nat):vols (dInit n d (i+1))=(vols (dInit n d i)).set (d.getD i dD).bY.toNat (if (d.getD i dD).jw > (vols (dInit n d i)).getD (d.getD i dD).bY.toNat 0 then (d.getD i dD).jw else (vols (dInit n d i)).getD (d.getD i dD).bY.toNat 0):=by
 rw [dInit,vols_get];by_cases h:((dInit n d i).getD (d.getD i dD).bY.toNat dem0).volt<(d.getD i dD).jw
 ·rw [decide_eq_true h,cond_true,vols_set,if_pos h]
 ·rw [decide_eq_false h,cond_false,if_neg h,set_same _ _ _ (vols_get _ _).symm]
theorem lv_rok {l:List aG} {u:List Bool} {s:DS} (hu:u.length=l.length) (h:DOk l s) (hl:LvOk l s):Rok l ⟨u,s.lv⟩:=
 ⟨hu,h.ll,fun i hi=>by
  have:=hl i hi;show 0≤s.lv.getD i 0∧(s.lv.getD i 0).toNat<_∧s.lv.getD i 0<_;omega⟩
theorem dOne_lv {l:List aG} {u:List Bool} {k:Nat} {s:DS} (hf:dFail l u k s=false) (h:LvOk l s):LvOk l (dOne l u k s):=by
 intro j hj;unfold dOne;cases hu:u.getD k false with
 | false=>exact h j hj
 | true=>
  unfold dFail at hf;rw [hu,Bool.true_and,Bool.not_eq_false'] at hf;have:=of_decide_eq_true hf;show 0≤(s.lv.set k (lvOf l k s)).getD j 0∧(s.lv.set k (lvOf l k s)).getD j 0<_;rw [getD_set];split
  ·rename_i hjk; rw [hjk.1]; omega
  ·exact h j hj
structure NearOk (l:List aG) (d:List bE) (r:dB) (ok:Bool):Prop where
 is:ok=((leastF l d).2==0)
 yes:ok=true→meetsF l r d=true
 no:ok=false→r=(leastF l d).1
end Go.Proofs.YtccjmcmolnbiiaaGreatDoor.Sp

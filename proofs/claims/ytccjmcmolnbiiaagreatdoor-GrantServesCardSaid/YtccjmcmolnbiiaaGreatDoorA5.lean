/- An abstract machine over the model's code, that it is sound; models of the functions and their proofs. -/
import Derived.Test.YtccjmcmolnbiiaaGreatDoorA3
import Derived.Test.YtccjmcmolnbiiaaGreatDoorA4
set_option linter.unusedVariables false
set_option linter.unusedSimpArgs false
namespace Go.Ab
def Yp {α:Type} (l:List α) (P:α→Bool):Int:=if l.any P then ((l.findIdx P:Nat):Int) else -1
variable {α:Type}
theorem sK (l:List α) (P:α→Bool):decide (0≤Yp l P)=l.any P:=by
 unfold Yp;cases l.any P<;>simp<;>omega
theorem afq {l:List α} {P:α→Bool} {d:α} {i:Nat} (hi:i<l.length) (h:P (l.getD i d)=true):l.any P=true:=by
 rw [List.any_eq_true];refine ⟨l[i],List.getElem_mem hi,?_⟩;rw [List.getD_eq_getElem?_getD,List.getElem?_eq_getElem hi] at h;exact h
theorem any_take_succ (l:List α) (P:α→Bool) (d:α) {i:Nat} (hi:i<l.length):(l.take (i+1)).any P=((l.take i).any P||P (l.getD i d)):=by
 rw [List.take_add_one,List.any_append,List.getElem?_eq_getElem hi,List.getD_eq_getElem?_getD,List.getElem?_eq_getElem hi];simp
theorem aiw {l:List α} {P:α→Bool} {d:α} {g:Int} (h0:0≤g) (h1:g<l.length) (hb:(l.take g.toNat).any P=false) (hp:P (l.getD g.toNat d)=true):Yp l P=g:=by
 have hi:g.toNat<l.length:=by omega
 unfold Yp;rw [afq hi hp,if_pos rfl];have:l.findIdx P=g.toNat:=by
  rw [List.findIdx_eq hi];constructor
  ·rw [List.getD_eq_getElem?_getD,List.getElem?_eq_getElem hi] at hp;exact hp
  ·intro j hj;have:=List.any_eq_false.1 hb (l[j]'om) (by
    rw [List.mem_take_iff_getElem]
    exact ⟨j,om,rfl⟩)
   simpa using this
 omega
theorem UA {l:List α} {d:α} {p:α→M Bool} {P:α→Bool} (hp:∀x∈l,p x (P x)) (hl:(l.length:Int)≤9223372036854775807):W (dn (λ (self:Int→M Int) g=>bif (decide (g<(l.length:Int))) then
  need (0≤g∧g<(l.length:Int))<|
  bnd (p (l.getD g.toNat d)) λ v3=>
  bif v3 then
   ret g
  else
   need (aG (g+(1:Int)))<|
   self (g+(1:Int))
 else
  ret (-1:Int)) (0:Int)) (λ r=>r=Yp l P):=by
 refine bI (λ (g:Int)=>0≤g∧g≤l.length∧(l.take g.toNat).any P=false) (λ (g:Int)=>(l.length - g).toNat) ?_ ⟨om,om,by simp⟩;intro self g ⟨h0,h1,hb⟩ ih;refine bJ ?_ ?_<;>intro c
 ·have c:=of_decide_eq_true c;refine aO ⟨h0,c⟩ ?_;have hi:g.toNat<l.length:=by omega
  have hm:l.getD g.toNat d∈l:=by
   rw [List.getD_eq_getElem?_getD,List.getElem?_eq_getElem hi];exact List.getElem_mem hi
  refine aF (wQ (hp _ hm)) λ v hv=>?_;subst hv;refine bJ ?_ ?_<;>intro c2
  ·exact av (aiw h0 c hb c2).symm
  ·refine aO (by unfold aG; omega) ?_;refine ih _ ⟨om,om,?_⟩ om;rw [show (g+1).toNat=g.toNat+1 by omega,any_take_succ l P d hi,hb,c2];rfl
 ·have c:=of_decide_eq_false c;refine av ?_;unfold Yp;rw [show g.toNat=l.length by omega,List.take_length] at hb;rw [hb];rfl
theorem aly {l:List α} {d:α} {P:α→Bool} (hl:(l.length:Int)≤9223372036854775807):W (dn (λ (self:Int→M Int) g=>bif (decide (g<(l.length:Int))) then
  need (0≤g∧g<(l.length:Int))<|
  bif (P (l.getD g.toNat d)) then
   ret g
  else
   need (aG (g+(1:Int)))<|
   self (g+(1:Int))
 else
  ret (-1:Int)) (0:Int)) (λ r=>r=Yp l P):=by
 refine bI (λ (g:Int)=>0≤g∧g≤l.length∧(l.take g.toNat).any P=false) (λ (g:Int)=>(l.length - g).toNat) ?_ ⟨om,om,by simp⟩;intro self g ⟨h0,h1,hb⟩ ih;refine bJ ?_ ?_<;>intro c
 ·have c:=of_decide_eq_true c;refine aO ⟨h0,c⟩ ?_;have hi:g.toNat<l.length:=by omega
  refine bJ ?_ ?_<;>intro c2
  ·exact av (aiw h0 c hb c2).symm
  ·refine aO (by unfold aG; omega) ?_;refine ih _ ⟨om,om,?_⟩ om;rw [show (g+1).toNat=g.toNat+1 by omega,any_take_succ l P d hi,hb,c2];rfl
 ·have c:=of_decide_eq_false c;refine av ?_;unfold Yp;rw [show g.toNat=l.length by omega,List.take_length] at hb;rw [hb];rfl
theorem RN {m:M Int} {v:Int} {b:Bool} (h:W m (λ r=>r=v)) (hb:decide (0≤v)=b):bnd m (λ v1=>ret (decide ((0:Int)≤v1))) b:=by
 refine l5 (aF h λ v1 h1=>av ?_);subst h1;exact hb
theorem gX {A:Type} [Inhabited A] {c:Prop} {d:Decidable c} {m:M A} {v:A} (h:c→m v):W (grd c m) (λ r=>r=v):=⟨v,h,rfl⟩
theorem alz {R:Type} {F:(Int→M R)→Int→M R} {Q:R→Prop} (n:Nat) (inv:Nat→Prop) (h:∀(self:Int→M R) (i:Nat),i≤n→inv i→(i<n→inv (i+1)→W (self ((i:Int)+1)) Q)→W (F self (i:Int)) Q) (h0:inv 0):W (dn F (0:Int)) Q:=by
 refine bI (λ (g:Int)=>∃i:Nat,g=i∧i≤n∧inv i) (λ (g:Int)=>(n - g).toNat) ?_ ⟨0,rfl,Nat.zero_le _,h0⟩;rintro self g ⟨i,rfl,hi,hv⟩ ih;refine h self i hi hv λ h1 h2=>?_;exact ih _ ⟨i+1,by simp,h1,h2⟩ om
theorem alA {σ R:Type} {len:Nat} {B:Nat→(σ→M R)→σ→M R} {fin:σ→M R} {Q:R→Prop} (inv:Nat→σ→Prop) (h:∀(k:Nat) (self:σ→M R) (s:σ),k<len→inv k s→(∀s',inv (k+1) s'→W (self s') Q)→W (B k self s) Q) (hf:∀s,inv len s→W (fin s) Q) {s:σ} (h0:inv 0 s):W (abH len B fin len s) Q:=by
 have key:∀j s,j≤len→inv (len - j) s→W (abH len B fin j s) Q:=by
  intro j;induction j with
  | zero=>intro s _ hi; exact hf s hi
  | succ j ih=>
   intro s hj hi;refine h (len - (j+1)) _ s om hi λ s' hs=>ih s' om ?_;rwa [show len - (j+1)+1=len - j by omega] at hs
 exact key len s (Nat.le_refl _) (by rw [Nat.sub_self]; exact h0)
variable {p: Prop}
theorem nr {q: Prop} (h : p) (e : p = q := by (try simp only [Bool.and_eq_true, Bool.or_eq_true, Bool.and_eq_false_iff, Bool.or_eq_false_iff, decide_eq_true_eq, decide_eq_false_iff_not, Bool.not_eq_true', Bool.not_eq_false', beq_iff_eq, bne_iff_ne, ne_eq, beq_eq_false_iff_ne, bne_eq_false_iff_eq, Int.not_lt, Int.not_le, Bool.not_eq_true, Bool.not_eq_false]); try rfl) : q := e ▸ h
theorem ob (h : p := by
  intros; (try dsimp only); first
  | omega
  | (unfold aG; omega)
  | assumption
  | trivial
  | (simp only [aG, big, iw, List.length_take, List.length_drop, List.length_append, List.length_cons, List.length_nil, List.length_set, List.length_replicate, List.length_map, List.length_range]; omega)
  | (simp only [aG, big, List.length_take, List.length_drop, List.length_append, List.length_cons, List.length_nil, List.length_set, List.length_replicate] at *; omega)
  | (rw [Int.tmod_eq_emod_of_nonneg (by omega)]; (try simp only [List.length_cons, List.length_nil]); omega)
  | (repeat' apply And.intro) <;> first
    | omega
    | (unfold aG; omega)
    | assumption
    | trivial
    | (simp only [aG, big, iw, List.length_take, List.length_drop, List.length_append, List.length_cons, List.length_nil, List.length_set, List.length_replicate, List.length_map, List.length_range]; omega)
    | (simp only [aG, big, List.length_take, List.length_drop, List.length_append, List.length_cons, List.length_nil, List.length_set, List.length_replicate] at *; omega)
    | (rw [Int.tmod_eq_emod_of_nonneg (by omega)]; (try simp only [List.length_cons, List.length_nil]); omega)
    | ((simp only [List.forall_mem_append, List.forall_mem_singleton, List.forall_mem_cons, List.not_mem_nil, false_implies, implies_true, and_true]); done)
    | ((simp only [List.forall_mem_append, List.forall_mem_singleton, List.forall_mem_cons, List.not_mem_nil, false_implies, implies_true, and_true]); (repeat' apply And.intro) <;> first | omega | assumption | trivial | (simp only [aG, big, List.length_take, List.length_drop, List.length_append, List.length_cons, List.length_nil, List.length_set, List.length_replicate] at *; omega))
    | (simp_all; done)
    | (simp_all; omega)) : p := h
theorem wi {R : Type} {b : Bool} {q: Prop} {x y : M R} {Q : R → Prop} (h1 : p → W x Q) (h2 : q → W y Q) (e1 : (b = true) = p := by (try simp only [Bool.and_eq_true, Bool.or_eq_true, Bool.and_eq_false_iff, Bool.or_eq_false_iff, decide_eq_true_eq, decide_eq_false_iff_not, Bool.not_eq_true', Bool.not_eq_false', beq_iff_eq, bne_iff_ne, ne_eq, beq_eq_false_iff_ne, bne_eq_false_iff_eq, Int.not_lt, Int.not_le, Bool.not_eq_true, Bool.not_eq_false]); try rfl) (e2 : (b = false) = q := by (try simp only [Bool.and_eq_true, Bool.or_eq_true, Bool.and_eq_false_iff, Bool.or_eq_false_iff, decide_eq_true_eq, decide_eq_false_iff_not, Bool.not_eq_true', Bool.not_eq_false', beq_iff_eq, bne_iff_ne, ne_eq, beq_eq_false_iff_ne, bne_eq_false_iff_eq, Int.not_lt, Int.not_le, Bool.not_eq_true, Bool.not_eq_false]); try rfl) : W (cond b x y) Q := bJ (λ c => h1 (e1 ▸ c)) (λ c => h2 (e2 ▸ c))
theorem wn {R : Type} {d : Decidable p} {m : M R} {Q : R → Prop} (h : W m Q) (hp : p := by exact ob) : W (need p m) Q := aO hp h
theorem wm {R : Type} {p': Prop} {d : Decidable p} {d' : Decidable p'} {m : M R} {Q : R → Prop} (h : W m Q) (hp : p := by exact ob) (hp' : p' := by exact ob) : W (need p (need p' m)) Q := aO hp (aO hp' h)
end Go.Ab
namespace Go.Proofs.YtccjmcmolnbiiaaGreatDoor
open Go.Ab
set_option maxRecDepth 100000
theorem UC (x n:Int) (h:0<n) : -n<x.tmod n∧x.tmod n<n:=by
 have h1:=Int.natAbs_tmod x n;have h2:=Nat.mod_lt x.natAbs (show 0<n.natAbs by omega);omega
theorem afr:∀(k i:Nat) (g:Nat→AV) (s:ByteArray),(JK k i g s).size=s.size+k:=by
 intro k;induction k with
 | zero=>intro i g s; rfl
 | succ k ih=>intro i g s; unfold JK; rw [ih,ByteArray.size_push]; omega
theorem ahn (l:List Int):(strOf l).size=l.length:=by
 unfold strOf;rw [afr];simp
variable {α:Type} {i:Nat}
theorem adE {P:α→Prop} {l:List α} {y:α} (h:∀x∈l,P x) (hy:P y):∀x∈l.set i y,P x:=λ x hx=>by
 rcases List.mem_or_eq_of_mem_set hx with e | e
 ·exact h x e
 ·subst e; exact hy
structure anQ (b:aS):Prop where
 ncl:b.bS.length≤5
 cl:∀c∈b.bS,c.aP.length≤2∧c.aN.length≤3
 nsu:b.bG.length≤3
 su:∀c∈b.bG,c.bK.length≤3
 ngr:b.aT.aD.length≤5
 gr:∀c∈b.aT.aD,c.bQ.length≤10∧c.ak.length≤2
 nre:b.bq.length≤4
 re:∀c∈b.bq,c.dX.length≤100
 ndo:b.cO.length≤4
theorem getD_in {l:List α} (d:α) (h:i<l.length):l.getD i d∈l:=by
 rw [List.getD_eq_getElem?_getD,List.getElem?_eq_getElem h];exact List.getElem_mem h
theorem afs {l_:List Int}:W (Qo l_) (λ r=>r.2=0∧r.1.length≤600):=by
 unfold Qo;refine aO (by (split<;>omega)) ?_;refine av ?_;(simp only [List.length_take]; refine ⟨trivial,?_⟩; split<;>omega)
theorem aft {x_:Int} {n_:Int} (h1:n_≤2000000):W (Qp x_ n_) (λ r=>0≤r∧(0<n_→r<n_)∧(n_<1→r=0)):=by
 unfold Qp;refine wi ?_ ?_<;>intro c1
 ·exact av<|ob
 ·refine wn<|aO (by (have:=UC x_ n_ om; unfold aG; omega)) ?_;refine wn<|av ?_;(have h:=UC x_ n_ om; have h2:=UC (x_.tmod n_+n_) n_ om; have h3:=Int.tmod_nonneg (a:=x_.tmod n_+n_) n_ om; omega)
variable {dD:dJ}
theorem bV {n_:Int} (h1:n_≤2000000) (h2:0≤dD.At) (h3:dD.L.length≤600):W (dZ n_ dD) (λ r=>0≤r.1∧(0<n_→r.1<n_)∧(n_<1→r.1=0)∧0≤r.2.At∧r.2.L.length≤600):=by
 unfold dZ;refine wi ?_ ?_<;>intro c1
 ·exact av<|ob
 ·refine wm<|wn ?_;refine aF (aft ob) λ v1 hv1=>?_;obtain ⟨I8,CF,I9⟩:=hv1;exact av<|ob
theorem nQ {wR:Int} {yS:Int} (h1 : -2000000≤wR) (h2:yS≤100000) (h3:wR≤yS+1) (h4:yS - wR≤100000) (h5:0≤dD.At) (h6:dD.L.length≤600):W (j4 wR yS dD) (λ r=>wR≤r.1∧(wR≤yS→r.1≤yS)∧(yS<wR→r.1=wR)∧0≤r.2.At∧r.2.L.length≤600):=by
 unfold j4;refine wm<|aF (bV ob ob ob) λ v1 hv1=>?_;obtain ⟨I8,CF,I9,Mg,OV⟩:=hv1;refine wn<|av ?_;exact ob
theorem gy {l_:List Int} (h1:0<l_.length) (h2:l_.length≤1000) (h3:0≤dD.At) (h4:dD.L.length≤600):W (iA l_ dD) (λ r=>(∃i:Nat,i<l_.length∧r.1=l_.getD i 0)∧0≤r.2.At∧r.2.L.length≤600):=by
 unfold iA;refine aF (bV ob ob ob) λ v1 hv1=>?_;obtain ⟨I8,CF,I9,Mg,OV⟩:=hv1;refine wn<|av ?_;(exact ⟨⟨v1.1.toNat,om,rfl⟩,ob⟩)
theorem Wo {l_:List ByteArray} (h1:0<l_.length) (h2:l_.length≤1000) (h3:0≤dD.At) (h4:dD.L.length≤600):W (xV l_ dD) (λ r=>(∃i:Nat,i<l_.length∧r.1=l_.getD i ByteArray.empty)∧0≤r.2.At∧r.2.L.length≤600):=by
 unfold xV;refine aF (bV ob ob ob) λ v1 hv1=>?_;obtain ⟨I8,CF,I9,Mg,OV⟩:=hv1;refine wn<|av ?_;(exact ⟨⟨v1.1.toNat,om,rfl⟩,ob⟩)
theorem kQ:W (pF) (λ r=>r=[({ data:=#[117,97,114,116] }:ByteArray),({ data:=#[115,112,105] }:ByteArray),({ data:=#[105,50,99] }:ByteArray),({ data:=#[112,119,109] }:ByteArray)]):=by
 unfold pF;refine av ?_;rfl
variable {k_:Int}
theorem Wp {n_:Int} (h1:0≤n_) (h2:n_≤1000) (h3:1≤k_) (h4:k_≤100) (h5:0≤dD.At) (h6:dD.L.length≤600):W (lC n_ k_ dD) (λ r=>r.1.length≤n_.toNat∧(∀p∈r.1,0≤p∧p<n_)∧0≤r.2.At∧r.2.L.length≤600):=by
 unfold lC;refine bI (λ (g1:Int×List Int×Int×List Int)=>0≤g1.1∧g1.1≤n_∧0≤g1.2.2.1∧g1.2.1.length≤600∧(g1.2.2.2.length:Int)≤g1.1∧(∀p∈g1.2.2.2,0≤p∧p<n_)) (λ (g1:Int×List Int×Int×List Int)=>(n_ - g1.1).toNat) ?_ ?_
 ·intro aj g1 dY bW;obtain ⟨dN,bO,bE,jB,CG,Mh⟩:=dY;unfold xS;refine wi ?_ ?_<;>intro c1
  ·refine aF (bV ob ob ob) λ v3 hv3=>?_;obtain ⟨aaA,acD,acE,alB,arw⟩:=hv3;refine wn<|wi ?_ ?_<;>intro c2
   ·refine wm<|bW _ ?_ ?_
    ·exact ob
    ·exact ob
   ·refine wn<|bW _ ?_ ?_
    ·exact ob
    ·exact ob
  ·exact av<|ob
 ·exact ob
theorem SL {jl:Int} (h1:0≤jl) (h2:jl≤100) (h3:0≤dD.At) (h4:dD.L.length≤600):W (tH jl dD) (λ r=>r.1.length≤jl.toNat∧(∀x∈r.1,x.dX.length≤100)∧0≤r.2.At∧r.2.L.length≤600):=by
 unfold tH;refine wn<|aF (bV ob ob ob) λ v1 hv1=>?_;obtain ⟨I8,CF,I9,Mg,OV⟩:=hv1;refine bI (λ (g1:Int×List Int×Int×List eG)=>0≤g1.1∧0≤g1.2.2.1∧g1.2.1.length≤600∧(g1.2.2.2.length:Int)+g1.1≤jl∧(∀x∈g1.2.2.2,x.dX.length≤100)) (λ (g1:Int×List Int×Int×List eG)=>g1.1.toNat) ?_ ?_
 ·intro aj g1 dY bW;obtain ⟨dN,bO,bE,jB,CG⟩:=dY;unfold Cy;refine wi ?_ ?_<;>intro c1
  ·refine aF (Wp ob ob ob ob ob ob) λ v4 hv4=>?_;obtain ⟨alC,alD,aoL,arx⟩:=hv4;refine wm<|bW _ ?_ ?_
   ·exact ob
   ·exact ob
  ·exact av<|ob
 ·exact ob
theorem QM {jl:Int} (h1:0≤jl) (h2:jl≤50) (h3:0≤dD.At) (h4:dD.L.length≤600):W (rC jl dD) (λ r=>r.1.length≤jl.toNat∧0≤r.2.At∧r.2.L.length≤600):=by
 unfold rC;refine wn<|aF (bV ob ob ob) λ v1 hv1=>?_;obtain ⟨I8,CF,I9,Mg,OV⟩:=hv1;refine bI (λ (g1:Int×List Int×Int×List dF)=>0≤g1.1∧0≤g1.2.2.1∧g1.2.1.length≤600∧(g1.2.2.2.length:Int)+g1.1≤jl) (λ (g1:Int×List Int×Int×List dF)=>g1.1.toNat) ?_ ?_
 ·intro aj g1 dY bW;obtain ⟨dN,bO,bE,jB⟩:=dY;unfold A9;refine wi ?_ ?_<;>intro c1
  ·refine wn<|aF (nQ ob ob ob ob ob ob) λ v6 hv6=>?_;obtain ⟨awf,awg,awh,awi,awj⟩:=hv6;refine aF (bV ob ob ob) λ v7 hv7=>?_;obtain ⟨aoM,arz,arA,awk,awl⟩:=hv7;refine wm<|bW _ ?_ ?_
   ·exact ob
   ·exact ob
  ·exact av<|ob
 ·exact ob
theorem SN (h1:0≤dD.At) (h2:dD.L.length≤600):W (tC dD) (λ r=>r.1.length≤5∧(∀c∈r.1,c.aP.length≤2∧c.aN.length≤3)∧0≤r.2.At∧r.2.L.length≤600):=by
 unfold tC;refine aF (bV ob ob ob) λ v1 hv1=>?_;obtain ⟨I8,CF,I9,Mg,OV⟩:=hv1;refine bI (λ (g1:Int×List Int×Int×List aI)=>0≤g1.1∧0≤g1.2.2.1∧g1.2.1.length≤600∧(g1.2.2.2.length:Int)+g1.1≤5∧(∀c∈g1.2.2.2,c.aP.length≤2∧c.aN.length≤3)) (λ (g1:Int×List Int×Int×List aI)=>g1.1.toNat) ?_ ?_
 ·intro aj g1 dY bW;obtain ⟨dN,bO,bE,jB,CG⟩:=dY;unfold Cv;refine wi ?_ ?_<;>intro c1
  ·refine aF (gy ob ob ob ob) λ v28 hv28=>?_;obtain ⟨atd,ate,atf⟩:=hv28;refine wi ?_ ?_<;>intro c2
   ·refine aF (bV ob ob ob) λ v41 atg=>?_;obtain ⟨ath,ati,atj,atl,atm⟩:=atg;refine wi ?_ ?_<;>intro c3
    ·refine aF (bV ob ob ob) λ v42 atn=>?_;obtain ⟨ato,atp,atq,atr,att⟩:=atn;refine aF (bV ob ob ob) λ v49 aho=>?_;obtain ⟨alE,alF,alG,alH,alI⟩:=aho;refine wi ?_ ?_<;>intro c4
     ·refine aF (gy ob ob ob ob) λ v50 adF=>?_;obtain ⟨atu,atv,atw⟩:=adF;unfold gK;refine aF (bV ob ob ob) λ v47 adG=>?_;obtain ⟨adH,adI,adJ,adK,adL⟩:=adG;refine wi ?_ ?_<;>intro c5
      ·refine aF (gy ob ob ob ob) λ v48 aaB=>?_;obtain ⟨adM,adN,adO⟩:=aaB;unfold eO;refine wm<|bW _ ?_ ?_
       ·exact ob
       ·exact ob
      ·unfold eO;refine wm<|bW _ ?_ ?_
       ·exact ob
       ·exact ob
     ·refine wi ?_ ?_<;>intro c6
      ·refine aF (gy ob ob ob ob) λ v51 apN=>?_;obtain ⟨atx,aty,atz⟩:=apN;unfold gK;refine aF (bV ob ob ob) λ v47 adG=>?_;obtain ⟨adH,adI,adJ,adK,adL⟩:=adG;refine wi ?_ ?_<;>intro c7
       ·refine aF (gy ob ob ob ob) λ v48 aaB=>?_;obtain ⟨adM,adN,adO⟩:=aaB;unfold eO;refine wm<|bW _ ?_ ?_
        ·exact ob
        ·exact ob
       ·unfold eO;refine wm<|bW _ ?_ ?_
        ·exact ob
        ·exact ob
      ·refine wi ?_ ?_<;>intro c8
       ·unfold gK;refine aF (bV ob ob ob) λ v47 adG=>?_;obtain ⟨adH,adI,adJ,adK,adL⟩:=adG;refine wi ?_ ?_<;>intro c9
        ·refine aF (gy ob ob ob ob) λ v48 aaB=>?_;obtain ⟨adM,adN,adO⟩:=aaB;unfold eO;refine wm<|bW _ ?_ ?_
         ·exact ob
         ·exact ob
        ·unfold eO;refine wm<|bW _ ?_ ?_
         ·exact ob
         ·exact ob
       ·refine wi ?_ ?_<;>intro c10
        ·refine wn<|aF (bV ob ob ob) λ v52 atA=>?_;obtain ⟨atB,atC,atE,atF,atG⟩:=atA;refine wn ?_;unfold gK;refine aF (bV ob ob ob) λ v47 adG=>?_;obtain ⟨adH,adI,adJ,adK,adL⟩:=adG;refine wi ?_ ?_<;>intro c11
         ·refine aF (gy ob ob ob ob) λ v48 aaB=>?_;obtain ⟨adM,adN,adO⟩:=aaB;unfold eO;refine wm<|bW _ ?_ ?_
          ·exact ob
          ·exact ob
         ·unfold eO;refine wm<|bW _ ?_ ?_
          ·exact ob
          ·exact ob
        ·unfold gK;refine aF (bV ob ob ob) λ v47 adG=>?_;obtain ⟨adH,adI,adJ,adK,adL⟩:=adG;refine wi ?_ ?_<;>intro c12
         ·refine aF (gy ob ob ob ob) λ v48 aaB=>?_;obtain ⟨adM,adN,adO⟩:=aaB;unfold eO;refine wm<|bW _ ?_ ?_
          ·exact ob
          ·exact ob
         ·unfold eO;refine wm<|bW _ ?_ ?_
          ·exact ob
          ·exact ob
    ·unfold eO;refine wm<|bW _ ?_ ?_
     ·exact ob
     ·exact ob
   ·refine wn ?_;unfold eO;refine wm<|bW _ ?_ ?_
    ·exact ob
    ·exact ob
  ·exact av<|ob
 ·exact ob
theorem OW (h1:0≤dD.At) (h2:dD.L.length≤600):W (qg dD) (λ r=>r.1.length≤3∧(∀c∈r.1,c.bK.length≤3)∧0≤r.2.At∧r.2.L.length≤600):=by
 unfold qg;refine aF (bV ob ob ob) λ v1 hv1=>?_;obtain ⟨I8,CF,I9,Mg,OV⟩:=hv1;refine bI (λ (g1:Int×List Int×Int×List ay)=>0≤g1.1∧0≤g1.2.2.1∧g1.2.1.length≤600∧(g1.2.2.2.length:Int)+g1.1≤3∧(∀c∈g1.2.2.2,c.bK.length≤3)) (λ (g1:Int×List Int×Int×List ay)=>g1.1.toNat) ?_ ?_
 ·intro aj g1 dY bW;obtain ⟨dN,bO,bE,jB,CG⟩:=dY;unfold zl;refine wi ?_ ?_<;>intro c1
  ·refine wn<|aF (nQ ob ob ob ob ob ob) λ v12 MR=>?_;obtain ⟨atH,atI,atJ,atK,atL⟩:=MR;refine aF (gy ob ob ob ob) λ v13 Yq=>?_;obtain ⟨atM,atN,atO⟩:=Yq;refine aF (gy ob ob ob ob) λ v14 UD=>?_;obtain ⟨atP,atQ,atS⟩:=UD;refine aF (bV ob ob ob) λ v15 QN=>?_;obtain ⟨atT,atU,atV,atW,atX⟩:=QN;refine wi ?_ ?_<;>intro c2
   ·unfold kD;refine aF (bV ob ob ob) λ v16 ahp=>?_;obtain ⟨apO,apP,apQ,apR,apS⟩:=ahp;refine wn<|wi ?_ ?_<;>intro c3
    ·refine wm<|bW _ ?_ ?_
     ·exact ob
     ·exact ob
    ·refine wi ?_ ?_<;>intro c4
     ·refine wm<|bW _ ?_ ?_
      ·exact ob
      ·exact ob
     ·refine wi ?_ ?_<;>intro c5
      ·refine wm<|bW _ ?_ ?_
       ·exact ob
       ·exact ob
      ·refine wi ?_ ?_<;>intro c6
       ·refine wm<|bW _ ?_ ?_
        ·exact ob
        ·exact ob
       ·refine wm<|bW _ ?_ ?_
        ·exact ob
        ·exact ob
   ·unfold kD;refine aF (bV ob ob ob) λ v16 ahp=>?_;obtain ⟨apO,apP,apQ,apR,apS⟩:=ahp;refine wn<|wi ?_ ?_<;>intro c7
    ·refine wm<|bW _ ?_ ?_
     ·exact ob
     ·exact ob
    ·refine wi ?_ ?_<;>intro c8
     ·refine wm<|bW _ ?_ ?_
      ·exact ob
      ·exact ob
     ·refine wi ?_ ?_<;>intro c9
      ·refine wm<|bW _ ?_ ?_
       ·exact ob
       ·exact ob
      ·refine wi ?_ ?_<;>intro c10
       ·refine wm<|bW _ ?_ ?_
        ·exact ob
        ·exact ob
       ·refine wm<|bW _ ?_ ?_
        ·exact ob
        ·exact ob
  ·exact av<|ob
 ·exact ob
theorem SQ (h1:0≤dD.At) (h2:dD.L.length≤600):W (tF dD) (λ r=>r.1.aD.length≤5∧(∀c∈r.1.aD,c.bQ.length≤10∧c.ak.length≤2)∧0≤r.2.At∧r.2.L.length≤600):=by
 unfold tF;refine aF (nQ ob ob ob ob ob ob) λ v1 hv1=>?_;obtain ⟨I8,CF,I9,Mg,OV⟩:=hv1;refine aF (bV ob ob ob) λ v2 hv2=>?_;obtain ⟨afu,aix,alJ,arB,awm⟩:=hv2;refine bI (λ (g1:Int×List Int×Int×List dh)=>0≤g1.1∧0≤g1.2.2.1∧g1.2.1.length≤600∧(g1.2.2.2.length:Int)+g1.1≤5∧(∀c∈g1.2.2.2,c.bQ.length≤10∧c.ak.length≤2)) (λ (g1:Int×List Int×Int×List dh)=>g1.1.toNat) ?_ ?_
 ·intro aj g1 dY bW;obtain ⟨dN,bO,bE,jB,CG⟩:=dY;unfold Cx;refine wi ?_ ?_<;>intro c1
  ·refine wn<|aO (by (rw [ahn,show ({ data:=#[103] }:ByteArray).size=1 from rfl]; simp only [List.length_cons,List.length_nil]; omega)) ?_;refine aF (bV ob ob ob) λ v35 apT=>?_;obtain ⟨atY,atZ,at0,at1,at5⟩:=apT;refine bI (λ (g12:Int×List Int×Int×List Int)=>0≤g12.1∧0≤g12.2.2.1∧g12.2.1.length≤600∧(g12.2.2.2.length:Int)≤g12.1∧g12.1≤10) (λ (g12:Int×List Int×Int×List Int)=>(10 - g12.1).toNat) ?_ ?_
   ·intro ahk g12 arC arD;obtain ⟨at6,at7,aua,aub,auc⟩:=arC;unfold Cw;refine wi ?_ ?_<;>intro c2
    ·refine aF (nQ ob ob ob ob ob ob) λ v38 hv38=>?_;obtain ⟨aud,aue,auf,aug,auh⟩:=hv38;refine wn<|wi ?_ ?_<;>intro c3
     ·refine wm<|arD _ ?_ ?_
      ·exact ob
      ·exact ob
     ·refine wi ?_ ?_<;>intro c4
      ·unfold lu;refine aF (bV ob ob ob) λ v39 hv39=>?_;obtain ⟨apU,apV,apW,apX,apY⟩:=hv39;refine aF (kQ) λ v40 alK=>?_;subst alK;refine wn<|aF (bV ob ob ob) λ v43 alL=>?_;obtain ⟨apZ,ap0,ap1,ap2,ap3⟩:=alL;refine wi ?_ ?_<;>intro c5
       ·refine aF (kQ) λ v44 alM=>?_;subst alM;refine wm<|wm ?_;unfold ji;refine wm<|bW _ ?_ ?_
        ·exact ob
        ·exact ob
       ·unfold ji;refine wm<|bW _ ?_ ?_
        ·exact ob
        ·exact ob
      ·unfold lu;refine aF (bV ob ob ob) λ v39 hv39=>?_;obtain ⟨apU,apV,apW,apX,apY⟩:=hv39;refine aF (kQ) λ v40 alK=>?_;subst alK;refine wn<|aF (bV ob ob ob) λ v43 alL=>?_;obtain ⟨apZ,ap0,ap1,ap2,ap3⟩:=alL;refine wi ?_ ?_<;>intro c6
       ·refine aF (kQ) λ v44 alM=>?_;subst alM;refine wm<|wm ?_;unfold ji;refine wm<|bW _ ?_ ?_
        ·exact ob
        ·exact ob
       ·unfold ji;refine wm<|bW _ ?_ ?_
        ·exact ob
        ·exact ob
    ·refine wn<|wi ?_ ?_<;>intro c7
     ·unfold jV;refine aF (bV ob ob ob) λ v45 alN=>?_;obtain ⟨ap4,ap5,ap6,ap7,ap8⟩:=alN;refine aF (kQ) λ v46 ahq=>?_;subst ahq;refine wn<|aF (bV ob ob ob) λ v49 aho=>?_;obtain ⟨alE,alF,alG,alH,alI⟩:=aho;refine wi ?_ ?_<;>intro c8
      ·refine aF (kQ) λ v50 adF=>?_;subst adF;refine wm<|wm ?_;unfold iP;refine wm<|bW _ ?_ ?_
       ·exact ob
       ·exact ob
      ·unfold iP;refine wm<|bW _ ?_ ?_
       ·exact ob
       ·exact ob
     ·unfold jV;refine aF (bV ob ob ob) λ v45 alN=>?_;obtain ⟨ap4,ap5,ap6,ap7,ap8⟩:=alN;refine aF (kQ) λ v46 ahq=>?_;subst ahq;refine wn<|aF (bV ob ob ob) λ v49 aho=>?_;obtain ⟨alE,alF,alG,alH,alI⟩:=aho;refine wi ?_ ?_<;>intro c9
      ·refine aF (kQ) λ v50 adF=>?_;subst adF;refine wm<|wm ?_;unfold iP;refine wm<|bW _ ?_ ?_
       ·exact ob
       ·exact ob
      ·unfold iP;refine wm<|bW _ ?_ ?_
       ·exact ob
       ·exact ob
   ·exact ob
  ·exact av<|ob
 ·exact ob
theorem UE (h1:0≤dD.At) (h2:dD.L.length≤600):W (uZ dD) (λ r=>anQ r.1∧0≤r.2.At∧r.2.L.length≤600):=by
 unfold uZ;refine aF (SN ob ob) λ v1 hv1=>?_;obtain ⟨I8,CF,I9,Mg⟩:=hv1;refine aF (OW ob ob) λ v2 hv2=>?_;obtain ⟨afu,aix,alJ,arB⟩:=hv2;refine aF (SQ ob ob) λ v3 hv3=>?_;obtain ⟨aaA,acD,acE,alB⟩:=hv3;refine aF (SL ob ob ob ob) λ v4 hv4=>?_;obtain ⟨alC,alD,aoL,arx⟩:=hv4;refine aF (QM ob ob ob ob) λ v5 hv5=>?_;obtain ⟨awn,awo,awp⟩:=hv5;refine av ?_;(refine ⟨⟨ob,CF,ob,aix,ob,acD,ob,alD,ob⟩,ob,ob⟩)
deriving instance DecidableEq for aI,bL,bN
def dL (n lo hi:Int):Bool:=decide (lo≤n)&&decide (n≤hi)
def yj (lo hi:Int):List Int→List Int→Bool
 | _,[]=>true
 | pre,n::r=>bif !(dL n lo hi)||pre.contains n then false else yj lo hi (pre++[n]) r
variable {lo:Int} {hi:Int}
theorem Zn {n:Int} {pre r:List Int} (h:(!(dL n lo hi)||pre.contains n)=true):yj lo hi pre (n::r)=false:=by rw [yj,h]; rfl
theorem adP {n:Int} {pre r:List Int} (h:(!(dL n lo hi)||pre.contains n)=false):yj lo hi pre (n::r)=yj lo hi (pre++[n]) r:=by rw [yj,h]; rfl
def jw (a b:Int):Int:=(Nat.gcd a.toNat b.toNat:Nat)
def qh (r:bL):Bool:=decide (0≤r.j5)&&decide (r.j5≤144115188075855872)&&decide (1≤r.jr)&&decide (r.jr≤16777216)&&(jw r.j5 r.jr==1)
def newR (num den:Int):bL×Int:=bif decide (num<0)||decide (den<1) then (⟨0,0⟩,2) else
 bif !qh ⟨num.tdiv (jw num den),den.tdiv (jw num den)⟩ then (⟨0,0⟩,2) else (⟨num.tdiv (jw num den),den.tdiv (jw num den)⟩,0)
theorem Bj (a b:Int) (h:0<b):0<jw a b:=by
 unfold jw;have:0<b.toNat:=by omega
 have:=Nat.gcd_pos_of_pos_right a.toNat this;omega
theorem tdiv_le (a k:Int) (ha:0≤a) (hk:0<k):0≤a.tdiv k∧a.tdiv k≤a:=by
 rw [Int.tdiv_eq_ediv_of_nonneg ha];exact ⟨Int.ediv_nonneg ha om,Int.ediv_le_self _ ha⟩
def yt (k:Int):Bool:=decide (1≤k)&&decide (k≤64)
def qV (r:bL) (k:Int):bL×Int:=bif !qh r then (⟨0,0⟩,1) else bif !yt k then (⟨0,0⟩,2) else
 bif decide ((144115188075855872:Int).tdiv (k.tdiv (jw k r.jr))<r.j5) then (⟨0,0⟩,2) else newR (r.j5*(k.tdiv (jw k r.jr))) (r.jr.tdiv (jw k r.jr))
def Bl (r:bL) (k:Int):bL×Int:=bif !qh r then (⟨0,0⟩,1) else bif !yt k then (⟨0,0⟩,2) else newR r.j5 (r.jr*k)
theorem mM {r:bL} (h:qh r=true):0≤r.j5∧r.j5≤144115188075855872∧1≤r.jr∧r.jr≤16777216∧jw r.j5 r.jr=1:=by
 unfold qh at h;simp at h;omega
theorem ap9 (k d:Int) (hk:1≤k∧k≤64) (hd:1≤d):1≤k.tdiv (jw k d)∧k.tdiv (jw k d)≤64:=by
 have hg:=Bj k d om;have h1:=tdiv_le k (jw k d) om hg;have hdvd:Nat.gcd k.toNat d.toNat∣k.toNat:=Nat.gcd_dvd_left _ _;have h2:0<k.toNat / Nat.gcd k.toNat d.toNat:=Nat.div_pos (Nat.le_of_dvd om hdvd) (by unfold jw at hg; omega);have h3:k.tdiv (jw k d)=((k.toNat / Nat.gcd k.toNat d.toNat:Nat):Int):=by
  unfold jw;rw [Int.tdiv_eq_ediv_of_nonneg om];have:k=(k.toNat:Int):=by omega
  rw [Int.natCast_ediv,← this]
 omega
theorem ajz (a b:Int) (ha:0≤a) (hb:1≤b) (h:a≤(144115188075855872:Int).tdiv b):0≤a*b∧a*b≤144115188075855872:=by
 rw [Int.tdiv_eq_ediv_of_nonneg (by decide)] at h;have:=(Int.le_ediv_iff_mul_le om).1 h;exact ⟨Int.mul_nonneg ha om,this⟩
theorem UF (c a b:Nat) (hc:0<c) (hb:0<b):newR (c*a:Nat) (c*b:Nat)=newR a b:=by
 have hcb:0<c*b:=Nat.mul_pos hc hb;have g0:0<Nat.gcd a b:=Nat.gcd_pos_of_pos_right a hb;have e1:jw (c*a:Nat) (c*b:Nat)=((c*Nat.gcd a b:Nat):Int):=by
  unfold jw;rw [Int.toNat_natCast,Int.toNat_natCast,Nat.gcd_mul_left]
 have e2:jw (a:Nat) (b:Nat)=(Nat.gcd a b:Nat):=by
  unfold jw;rw [Int.toNat_natCast,Int.toNat_natCast]
 have d:∀x:Nat,((c*x:Nat):Int).tdiv ((c*Nat.gcd a b:Nat):Int)=(x:Int).tdiv (Nat.gcd a b:Nat):=by
  intro x;rw [← Int.ofNat_tdiv,← Int.ofNat_tdiv,Nat.mul_div_mul_left _ _ hc]
 unfold newR;have c1:(decide (((c*a:Nat):Int)<0)||decide (((c*b:Nat):Int)<1))=false:=by
  have h1:¬ (((c*b:Nat):Int)<1):=Int.not_lt.2 (Int.ofNat_le.2 hcb);rw [decide_eq_false (Int.not_lt.2 (Int.natCast_nonneg _)),decide_eq_false h1];rfl
 have c2:(decide ((a:Int)<0)||decide ((b:Int)<1))=false:=by simp; omega
 rw [c1,c2,e1,e2,d a,d b]
theorem ajA (num den k:Int) (hn:0≤num) (hd:1≤den) (hk:1≤k):newR (num.tdiv (jw num k)) (den*(k.tdiv (jw num k)))=newR num (den*k):=by
 obtain ⟨n,rfl⟩:=Int.eq_ofNat_of_zero_le hn;obtain ⟨d,rfl⟩:=Int.eq_ofNat_of_zero_le (show 0≤den by omega);obtain ⟨k,rfl⟩:=Int.eq_ofNat_of_zero_le (show 0≤k by omega);have hg:jw (n:Nat) (k:Nat)=(Nat.gcd n k:Nat):=by unfold jw; rw [Int.toNat_natCast,Int.toNat_natCast]
 rw [hg,← Int.ofNat_tdiv,← Int.ofNat_tdiv];have g0:0<Nat.gcd n k:=Nat.gcd_pos_of_pos_right n om;obtain ⟨a,ha⟩:=Nat.gcd_dvd_left n k;obtain ⟨b,hb⟩:=Nat.gcd_dvd_right n k;have e1:n / Nat.gcd n k=a:=by rw [Nat.div_eq_of_eq_mul_right g0 ha]
 have e2:k / Nat.gcd n k=b:=by rw [Nat.div_eq_of_eq_mul_right g0 hb]
 rw [e1,e2];have hb0:0<b:=by
  rcases Nat.eq_zero_or_pos b with h | h
  ·rw [h] at hb; simp at hb; omega
  ·exact h
 have:=UF (Nat.gcd n k) a (d*b) g0 (Nat.mul_pos om hb0);rw [← ha] at this;have e3:Nat.gcd n k*(d*b)=d*k:=by
  rw [Nat.mul_left_comm,← hb]
 rw [e3] at this;rw [← Int.natCast_mul,← Int.natCast_mul];exact this.symm
def t1 (r:bL) (k:Int):Int×Int:=bif decide ((144115188075855872:Int).tdiv (k.tdiv (jw k r.jr))<r.j5) then (-1,1) else (r.j5*(k.tdiv (jw k r.jr)),r.jr.tdiv (jw k r.jr))
def oH (r:bL) (lo hi:Int):Bool:=qh r&&(decide (lo≤r.j5.tdiv r.jr)&&(decide (r.j5.tdiv r.jr<hi)||(r.j5.tdiv r.jr==hi&&r.j5.tmod r.jr==0)))
def SS (c:aI):Bool:=decide (8<(c.aP.length:Int))||decide (8<(c.aN.length:Int))
def MS (n:Int) (x:bN):Bool:=!dL x.eZ 0 (n - 1)||!dL x.fP 0 4000000000||!dL x.Low 0 x.fP
def iZ (c:aI):Bool:=
 bif c.gq==1 then ((c.aP.length:Int)==0)&&((c.aN.length:Int)==1)&&dL (c.aN.getD 0 0) 1 4000000000
 else bif c.gq==2||c.gq==3 then ((c.aP.length:Int)==1)&&decide (0<(c.aN.length:Int))&&yj 1 64 [] c.aN
 else bif c.gq==4 then decide (0<(c.aN.length:Int))&&yj 0 ((c.aP.length:Int) - 1) [] c.aN
 else bif c.gq==5 then ((c.aP.length:Int)==1)&&(c.aN==[0,1])
 else false
def lD (c:aI) (k:Int):Bool:=bif c.aP.any (λ y=>!dL y 0 (k - 1))||!dL c.fP 0 4000000000||!dL c.Low 0 c.fP then false else iZ c
theorem anR (l:List Int) (hi:Int) (h:yj 0 hi [] l=true) (hl:0<l.length):0≤hi:=by
 cases l with
 | nil=>simp at hl
 | cons n l=>
  cases hw:dL n 0 hi with
  | true=>simp [dL] at hw; omega
  | false=>
   rw [Zn (by rw [hw]; rfl)] at h;cases h
def QO (a b:Int):Int:=if b > a then b else a
def SV (c:aI):Bool:=c.gq==2||c.gq==3
def mo (acc:List Int) (l:List Int):Int:=l.foldl (λ n p=>QO n (acc.getD p.toNat 0)) 0
def Kk (acc:List Int) (c:aI):Int:=bif SV c then mo acc c.aP+1 else mo acc c.aP
def iN (l:List aI):List Int:=l.foldl (λ acc c=>acc++[Kk acc c]) []
theorem DX (l:List aI) (c:aI):iN (l++[c])=iN l++[Kk (iN l) c]:=by
 unfold iN;rw [List.foldl_append];rfl
def aiy (l:List aI):Prop:=∀i,i<l.length→(l.getD i aK).aP.length≤2000000∧∀p∈(l.getD i aK).aP,0≤p∧p<i
theorem Kl (acc:List Int) (b:Int) (hb0:0≤b) (hb:∀j:Nat,0≤acc.getD j 0∧acc.getD j 0≤b) (l:List Int):0≤mo acc l∧mo acc l≤b:=by
 have:∀(l:List Int) (n:Int),0≤n∧n≤b→0≤l.foldl (λ n p=>QO n (acc.getD p.toNat 0)) n∧l.foldl (λ n p=>QO n (acc.getD p.toNat 0)) n≤b:=by
  intro l;induction l with
  | nil=>exact λ n h=>h
  | cons p r ih=>
   intro n hn;refine ih _ ?_;show 0≤QO n (acc.getD p.toNat 0)∧QO n (acc.getD p.toNat 0)≤b;unfold QO;have:=hb p.toNat;split<;>omega
 exact this l 0 om
theorem jW (l:List aI):(iN l).length=l.length∧∀j:Nat,0≤(iN l).getD j 0∧(iN l).getD j 0≤l.length:=by
 induction l using JV with
 | nil=>exact ⟨rfl,λ j=>by rw [Ib]; simp; exact Nat.zero_le _⟩
 | append_singleton l c ih=>
  obtain ⟨h1,h2⟩:=ih;rw [DX];have hb:=Kl (iN l) l.length om h2 c.aP;have hf:0≤Kk (iN l) c∧Kk (iN l) c≤l.length+1:=by
   unfold Kk;cases SV c<;>simp only [cond_true,cond_false]<;>omega
  refine ⟨by rw [List.length_append,List.length_append,h1]; rfl,λ j=>?_⟩;have hlen:((l++[c]).length:Int)=l.length+1:=by rw [List.length_append]; rfl
  rw [hlen];by_cases hj:j<l.length
  ·rw [jO 0 om];have:=h2 j;omega
  ·by_cases hj2:j=l.length
   ·rw [kI 0 om]; exact hf
   ·rw [Ib 0 (by rw [List.length_append,h1]; simp; omega)];omega
def Yr (a b:Int):Int:=if b<a then b else a
def mO (l:List aI):Int:=l.foldl (λ p c=>Yr (p*c.aN.length) 1099511627776) 1
def afv (l:List aI):Bool:=(List.range l.length).all λ i=>lD (l.getD i aK) i
def eD (l:List aI):Int:=bif decide (16<(l.length:Int))||l.any SS then 3 else bif !afv l then 1 else bif decide (4096<mO l)||(iN l).any (λ n=>decide (4<n)) then 3 else 0
variable {l:List aI}
theorem acF (h:∀i:Nat,i<l.length→lD (l.getD i aK) i=true):afv l=true:=by
 unfold afv;rw [List.all_eq_true];intro i hi;exact h i (List.mem_range.1 hi)
theorem afw (h:afv l=true) (i:Nat) (hi:i<l.length):lD (l.getD i aK) i=true:=by
 unfold afv at h;rw [List.all_eq_true] at h;exact h i (List.mem_range.2 hi)
theorem SX (hi:i<l.length) (h:lD (l.getD i aK) i=false):afv l=false:=by
 cases hv:afv l with
 | false=>rfl
 | true=>rw [afw hv i hi] at h; cases h
theorem nZ {l:List α} {p:α→Bool} (d:α) (h:l.any p=false) (i:Nat) (hi:i<l.length):p (l.getD i d)=false:=by
 rw [List.any_eq_false] at h;simpa using h _ (jh d hi)
theorem yu {l:List α} {p:α→Bool} (d:α) (hi:i<l.length) (h:p (l.getD i d)=true):l.any p=true:=List.any_eq_true.2 ⟨_,jh d hi,h⟩
theorem any_none {l:List α} {p:α→Bool} (d:α) (h:∀i,i<l.length→p (l.getD i d)=false):l.any p=false:=by
 rw [List.any_eq_false];intro x hx;obtain ⟨i,hi,rfl⟩:=List.mem_iff_getElem.1 hx;have:=h i hi;rw [List.getD_eq_getElem?_getD,List.getElem?_eq_getElem hi] at this;simpa using this
variable {c:aI}
theorem OX (h:SS c=false):c.aP.length≤8∧c.aN.length≤8:=by
 unfold SS at h;simp at h;omega
theorem OY (l:List aI):0≤mO l∧mO l≤1099511627776:=by
 unfold mO;induction l using JV with
 | nil=>simp
 | append_singleton l c ih=>
  rw [List.foldl_append];show 0≤Yr (l.foldl _ 1*c.aN.length) 1099511627776∧Yr (l.foldl _ 1*c.aN.length) 1099511627776≤1099511627776;have:0≤l.foldl (λ p c=>Yr (p*(c:aI).aN.length) 1099511627776) 1*(c.aN.length:Int):=Int.mul_nonneg ih.1 om;generalize l.foldl (λ p c=>Yr (p*(c:aI).aN.length) 1099511627776) 1*(c.aN.length:Int)=q at this;unfold Yr;split<;>omega
theorem alO (l:List aI) (n:Int) (h:0≤n∧n≤8):0≤mO l*n∧mO l*n≤1099511627776*8:=by
 have hb:=OY l;exact ⟨Int.mul_nonneg hb.1 h.1,Int.mul_le_mul hb.2 h.2 h.1 om⟩
theorem within_iff (n lo hi:Int):dL n lo hi=true↔lo≤n∧n≤hi:=by
 unfold dL;simp
variable {k:Int}
theorem Wq {j:Nat} (hj:j<c.aP.length) (h:dL (c.aP.getD j 0) 0 (k - 1)=false):lD c k=false:=by
 unfold lD;have:c.aP.any (λ y=>!dL y 0 (k - 1))=true:=yu 0 hj (by show (!dL (c.aP.getD j 0) 0 (k - 1))=true; rw [h]; rfl);rw [this];rfl
theorem afx (h:∀j,j<c.aP.length→dL (c.aP.getD j 0) 0 (k - 1)=true):lD c k=!(!iZ c||decide (c.Low<0)||decide (c.fP<c.Low)||decide (4000000000<c.fP)):=by
 have e:c.aP.any (λ y=>!dL y 0 (k - 1))=false:=any_none 0 λ j hj=>by show (!dL (c.aP.getD j 0) 0 (k - 1))=false; rw [h j hj]; rfl
 unfold lD;rw [e];cases hc:iZ c with
 | false=>cases (false||!dL c.fP 0 4000000000||!dL c.Low 0 c.fP)<;>rfl
 | true=>
  by_cases hg:(0≤c.Low∧c.Low≤c.fP)∧c.fP≤4000000000
  ·have h1:dL c.fP 0 4000000000=true:=(within_iff _ _ _).2 om;have h2:dL c.Low 0 c.fP=true:=(within_iff _ _ _).2 om;rw [h1,h2,decide_eq_false (show ¬ c.Low<0 by omega),decide_eq_false (show ¬ c.fP<c.Low by omega),decide_eq_false (show ¬ 4000000000<c.fP by omega)];rfl
  ·have h1:(false||!dL c.fP 0 4000000000||!dL c.Low 0 c.fP)=true:=by
    simp only [Bool.false_or,Bool.or_eq_true,Bool.not_eq_true',← Bool.not_eq_true,within_iff];omega
   have h2:(!true||decide (c.Low<0)||decide (c.fP<c.Low)||decide (4000000000<c.fP))=true:=by
    simp only [Bool.not_true,Bool.false_or,Bool.or_eq_true,decide_eq_true_eq];omega
   rw [h1,h2];rfl
theorem Km (h:lD c k=true):∀p∈c.aP,0≤p∧p<k:=by
 intro p hp;unfold lD at h;cases ha:c.aP.any (λ y=>!dL y 0 (k - 1)) with
 | true=>rw [ha] at h; cases h
 | false=>
  rw [List.any_eq_false] at ha;have:=ha p hp;simp only [Bool.not_eq_true,Bool.not_eq_false'] at this;have:=(within_iff _ _ _).1 this;omega
theorem afy (h:∀i:Nat,i<l.length→lD (l.getD i aK) i=true) (hb:∀i:Nat,i<l.length→SS (l.getD i aK)=false):aiy l:=λ i hi=>⟨by have:=OX (hb i hi); omega,Km (h i hi)⟩
theorem Ws (l:List aI) (k:Nat):∀j,j<k→j<l.length→(iN l).getD j 0=(iN (l.take k)).getD j 0:=by
 induction l using JV with
 | nil=>intro j _ hj; cases hj
 | append_singleton l c ih=>
  intro j hjk hj;have hlen:=(jW l).1;by_cases hk:k≤l.length
  ·rw [List.take_append_of_le_length hk,DX,jO 0 om];exact ih j hjk om
  ·rw [List.take_of_length_le (l:=l++[c]) (by rw [List.length_append]; simp; omega)]
theorem OZ (h:iZ c=true):1≤c.aN.length:=by
 cases hc:c.aN with
 | nil=>
  unfold iZ at h;rw [hc] at h;cases h1:c.gq==1<;>cases h2:(c.gq==2||c.gq==3)<;>cases h3:c.gq==4<;>cases h4:c.gq==5<;>rw [h1,h2,h3,h4] at h<;>simp at h
 | cons x r=>simp
theorem lF (h:lD c k=true):iZ c=true:=by
 unfold lD at h;cases hb:(c.aP.any (λ y=>!dL y 0 (k - 1))||!dL c.fP 0 4000000000||!dL c.Low 0 c.fP) with
 | true=>rw [hb] at h; cases h
 | false=>rw [hb] at h; exact h
theorem SY (l:List aI) (c:aI):mO (l++[c])=Yr (mO l*c.aN.length) 1099511627776:=by
 unfold mO;rw [List.foldl_append];rfl
theorem ahr (l:List aI):(∀c∈l,1≤c.aN.length)→∀k,mO (l.take k)≤mO l:=by
 induction l using JV with
 | nil=>intro _ k; rw [List.take_nil]; exact Int.le_refl _
 | append_singleton l c ih=>
  intro h k;by_cases hk:k≤l.length
  ·rw [List.take_append_of_le_length hk,SY];have h1:=ih (λ d hd=>h d (List.mem_append_left _ hd)) k;have hb:=OY l;have hc:=h c (List.mem_append_right _ (List.mem_singleton.2 rfl));have:mO l*1≤mO l*c.aN.length:=Int.mul_le_mul_of_nonneg_left om hb.1;rw [Int.mul_one] at this;generalize mO l*(c.aN.length:Int)=q at *;unfold Yr;split<;>omega
  ·rw [List.take_of_length_le (l:=l++[c]) (by rw [List.length_append]; simp; omega)];exact Int.le_refl _
def l6 (l:List aI) (s:List Int):Bool:=((s.length:Int)==(l.length:Int))&&(List.range l.length).all λ i=>dL (s.getD i 0) 0 ((l.getD i aK).aN.length - 1)
variable {p:Nat→Bool}
theorem Al {n:Nat} (h:∀i,i<n→p i=true):(List.range n).all p=true:=by
 rw [List.all_eq_true];intro i hi;exact h i (List.mem_range.1 hi)
theorem adQ {n:Nat} (h:(List.range n).all p=true) (hi:i<n):p i=true:=by
 rw [List.all_eq_true] at h;exact h i (List.mem_range.2 hi)
theorem yw {n:Nat} (hi:i<n) (h:p i=false):(List.range n).all p=false:=by
 cases hv:(List.range n).all p with
 | false=>rfl
 | true=>rw [adQ hv hi] at h; cases h
def afz (l:List aI):Prop:=∀i:Nat,i<l.length→(l.getD i aK).aN.length≤2000000
def kM (l:List aI) (m:List bN):Bool:=(eD l==0)&&decide ((m.length:Int)≤32)&&!(m.any (MS l.length))
theorem afA (n:Int) (x:bN):MS n x=(decide (x.eZ<0)||decide (n≤x.eZ)||decide (x.Low<0)||decide (x.fP<x.Low)||decide (4000000000<x.fP)):=by
 unfold MS;by_cases hg:(0≤x.eZ∧x.eZ≤n - 1)∧(0≤x.fP∧x.fP≤4000000000)∧(0≤x.Low∧x.Low≤x.fP)
 ·rw [(within_iff _ _ _).2 hg.1,(within_iff _ _ _).2 hg.2.1,(within_iff _ _ _).2 hg.2.2,decide_eq_false (show ¬ x.eZ<0 by omega),decide_eq_false (show ¬ n≤x.eZ by omega),decide_eq_false (show ¬ x.Low<0 by omega),decide_eq_false (show ¬ x.fP<x.Low by omega),decide_eq_false (show ¬ 4000000000<x.fP by omega)];rfl
 ·have h1:(!dL x.eZ 0 (n - 1)||!dL x.fP 0 4000000000||!dL x.Low 0 x.fP)=true:=by
   simp only [Bool.or_eq_true,Bool.not_eq_true',← Bool.not_eq_true,within_iff];omega
  have h2:(decide (x.eZ<0)||decide (n≤x.eZ)||decide (x.Low<0)||decide (x.fP<x.Low)||decide (4000000000<x.fP))=true:=by
   simp only [Bool.or_eq_true,decide_eq_true_eq];omega
  rw [h1,h2]
def aaC (c:aI) (k:Int):Prop:=(c.gq=1)∨(c.gq=4∧0≤k∧k<c.aN.length∧0≤c.aN.getD k.toNat 0∧c.aN.getD k.toNat 0<c.aP.length)∨(c.gq≠4∧0<c.aP.length)
def ko (c:aI) (k:Int):Int:=bif c.gq==1 then -1 else bif c.gq==4 then c.aP.getD (c.aN.getD k.toNat 0).toNat 0 else c.aP.getD 0 0
def QS:bL:=⟨0,1⟩
def nR (r:bL):Bool:=(r.j5==0)&&((r.jr==1)&&true)
def X4 (acc:List bL) (c:aI) (k:Int):bL:=
 bif decide (ko c k<0) then ⟨c.aN.getD k.toNat 0,1⟩ else
 bif nR (acc.getD (ko c k).toNat dS)||((c.gq==5)&&(c.aN.getD k.toNat 0==0)) then QS else
 bif c.gq==2 then (Bl (acc.getD (ko c k).toNat dS) (c.aN.getD k.toNat 0)).1 else
 bif c.gq==3 then (qV (acc.getD (ko c k).toNat dS) (c.aN.getD k.toNat 0)).1 else acc.getD (ko c k).toNat dS
def qW (l:List aI) (s:List Int):Nat→List bL
 | 0=>[]
 | i+1=>qW l s i++[X4 (qW l s i) (l.getD i aK) (s.getD i 0)]
def gD (l:List aI) (s:List Int):List bL:=qW l s l.length
theorem sM (l:List aI) (s:List Int) (i:Nat):(qW l s i).length=i:=by
 induction i with
 | zero=>rfl
 | succ i ih=>simp [qW,ih]
structure Good (l:List aI) (s:List Int):Prop where
 small:l.length≤1000
 len:s.length=l.length
 aN:∀i,i<l.length→0≤s.getD i 0∧s.getD i 0<(l.getD i aK).aN.length
 pch:∀i,i<l.length→aaC (l.getD i aK) (s.getD i 0)
 aP:∀i,i<l.length→ko (l.getD i aK) (s.getD i 0)<i
theorem acG:∀(l pre:List Int),yj lo hi pre l=true→∀x∈l,lo≤x∧x≤hi:=by
 intro l;induction l with
 | nil=>intro _ _ x hx; cases hx
 | cons n r ih=>
  intro pre h x hx;cases hb:(!(dL n lo hi)||pre.contains n) with
  | true=>rw [Zn hb] at h; cases h
  | false=>
   rw [adP hb] at h;rcases List.mem_cons.1 hx with rfl | hx
   ·rw [Bool.or_eq_false_iff] at hb;have:=hb.1;simp only [Bool.not_eq_false'] at this;exact (within_iff _ _ _).1 this
   ·exact ih _ h x hx
theorem sN (h:iZ c=true):
  (c.gq=1∧c.aP=[]∧c.aN.length=1∧1≤c.aN.getD 0 0∧c.aN.getD 0 0≤4000000000)∨((c.gq=2∨c.gq=3)∧c.aP.length=1∧0<c.aN.length∧∀x∈c.aN,1≤x∧x≤64)
  ∨ (c.gq=4∧0<c.aN.length∧∀x∈c.aN,0≤x∧x≤(c.aP.length:Int) - 1)∨(c.gq=5∧c.aP.length=1∧c.aN=[0,1]):=by
 unfold iZ at h;cases h1:c.gq==1 with
 | true=>
  rw [h1] at h;simp only [cond_true,Bool.and_eq_true,within_iff] at h;obtain ⟨⟨h2,h3⟩,h4⟩:=h;left;have h2:c.aP.length=0:=by have:=eq_of_beq h2; omega
  exact ⟨eq_of_beq h1,List.length_eq_zero_iff.1 h2,by have:=eq_of_beq h3; omega,h4⟩
 | false=>
  rw [h1] at h;cases h2:(c.gq==2||c.gq==3) with
  | true=>
   rw [h2] at h;simp only [cond_true,cond_false,Bool.and_eq_true] at h;obtain ⟨⟨h3,h4⟩,h5⟩:=h;right; left;refine ⟨?_,by have:=eq_of_beq h3; omega,by have:=of_decide_eq_true h4; omega,acG _ _ h5⟩;rw [Bool.or_eq_true] at h2;exact h2.imp eq_of_beq eq_of_beq
  | false=>
   rw [h2] at h;cases h3:c.gq==4 with
   | true=>
    rw [h3] at h;simp only [cond_true,cond_false,Bool.and_eq_true] at h;right; right; left;exact ⟨eq_of_beq h3,by have:=of_decide_eq_true h.1; omega,acG _ _ h.2⟩
   | false=>
    rw [h3] at h;cases h4:c.gq==5 with
    | true=>
     rw [h4] at h;simp only [cond_true,cond_false,Bool.and_eq_true] at h;right; right; right;exact ⟨eq_of_beq h4,by have:=eq_of_beq h.1; omega,eq_of_beq h.2⟩
    | false=>rw [h4] at h; cases h
structure abI (l:List aI):Prop where
 len:l.length≤16
 big:∀i:Nat,i<l.length→(l.getD i aK).aP.length≤8∧(l.getD i aK).aN.length≤8
 valid:∀i:Nat,i<l.length→lD (l.getD i aK) i=true
 prod:mO l≤4096
 iN:∀i:Nat,i<l.length→(iN l).getD i 0≤4
theorem vB (h:eD l=0):abI l:=by
 unfold eD at h;cases h1:(decide (16<(l.length:Int))||l.any SS) with
 | true=>rw [h1] at h; cases h
 | false=>
  rw [h1] at h;cases h2:afv l with
  | false=>rw [h2] at h; cases h
  | true=>
   rw [h2] at h;cases h3:(decide (4096<mO l)||(iN l).any (λ n=>decide (4<n))) with
   | true=>rw [h3] at h; cases h
   | false=>
    rw [Bool.or_eq_false_iff] at h1 h3;refine ⟨by have:=of_decide_eq_false h1.1; omega,λ i hi=>OX (nZ aK h1.2 i hi),afw h2,by have:=of_decide_eq_false h3.1; omega,λ i hi=>?_⟩;have:=nZ 0 h3.2 i (by rw [(jW l).1]; exact hi);have:=of_decide_eq_false this;omega
variable {s:List Int}
theorem aaD (h:l6 l s=true):s.length=l.length∧∀i:Nat,i<l.length→0≤s.getD i 0∧s.getD i 0<(l.getD i aK).aN.length:=by
 unfold l6 at h;rw [Bool.and_eq_true] at h;have hl:s.length=l.length:=by have:=eq_of_beq h.1; omega
 refine ⟨hl,λ i hi=>?_⟩;have:=h.2;rw [List.all_eq_true] at this;have:=this i (List.mem_range.2 om);have:=(within_iff _ _ _).1 this;omega
theorem afB (hv:lD c i=true) (hk:0≤k∧k<c.aN.length):aaC c k∧ko c k<i:=by
 have hp:=Km hv;unfold aaC ko;rcases sN (lF hv) with ⟨h1,h2,h3,h4⟩ | ⟨h1,h2,h3,h4⟩ | ⟨h1,h2,h3⟩ | ⟨h1,h2,h3⟩
 ·refine ⟨.inl h1,?_⟩;rw [h1];show (-1:Int)<i;omega
 ·have hn1:(c.gq==1)=false:=by rcases h1 with h1 | h1<;>rw [h1]<;>rfl
  have hn4:(c.gq==4)=false:=by rcases h1 with h1 | h1<;>rw [h1]<;>rfl
  refine ⟨.inr (.inr ⟨λ e=>(by rw [e] at hn4; cases hn4),om⟩),?_⟩;rw [hn1,hn4];exact (hp _ (jh 0 om)).2
 ·have hm:=h3 _ (jh 0 (i:=k.toNat) om);refine ⟨.inr (.inl ⟨h1,hk.1,hk.2,hm.1,om⟩),?_⟩;rw [h1];exact (hp _ (jh 0 (i:=(c.aN.getD k.toNat 0).toNat) om)).2
 ·refine ⟨.inr (.inr ⟨by rw [h1]; decide,om⟩),?_⟩;rw [h1];exact (hp _ (jh 0 (i:=0) om)).2
theorem Qu (h:abI l) (hs:l6 l s=true):Good l s:=by
 obtain ⟨h1,h2⟩:=aaD hs;exact ⟨by have:=h.len; omega,h1,h2,λ i hi=>(afB (h.valid i hi) (h2 i hi)).1,λ i hi=>(afB (h.valid i hi) (h2 i hi)).2⟩
def vT (l:List aI) (s:List Int):List bL×Int:=bif eD l != 0 then ([],eD l) else bif !l6 l s then ([],1) else (gD l s,0)
def S9 (r:List bL) (x:bN):Bool:=nR (r.getD x.eZ.toNat dS)||!oH (r.getD x.eZ.toNat dS) x.Low x.fP
def adR (r:bL) (c:aI):Bool:=((!nR r)&&(c.fP != 0))&&!oH r c.Low c.fP
def ownB (l:List aI) (r:List bL):Bool:=(List.range l.length).all λ i=>!adR (r.getD i dS) (l.getD i aK)
def fq (l:List aI) (s:List Int) (m:List bN):Bool:=(kM l m&&l6 l s)&&(ownB l (gD l s)&&!m.any (S9 (gD l s)))
theorem yx {m:List bN} (h:kM l m=true):eD l=0∧m.length≤32∧∀i,i<m.length→MS l.length (m.getD i dx)=false:=by
 unfold kM at h;rw [Bool.and_eq_true,Bool.and_eq_true] at h;exact ⟨eq_of_beq h.1.1,by have:=of_decide_eq_true h.1.2; omega,λ i hi=>nZ dx (by simpa using h.2) i hi⟩
theorem O5 {n:Int} {x:bN} (h:MS n x=false):(0≤x.eZ∧x.eZ<n)∧0≤x.Low∧x.Low≤x.fP∧x.fP≤4000000000:=by
 rw [afA] at h;simp only [Bool.or_eq_false_iff,decide_eq_false_iff_not] at h;omega
theorem Bn {l m:List α} (d:α) (h:l.length≤i):(l++m).getD i d=m.getD (i - l.length) d:=by
 rw [List.getD_eq_getElem?_getD,List.getElem?_append_right h,List.getD_eq_getElem?_getD]
def red (a b:Nat):bL:=⟨((a / Nat.gcd a b:Nat):Int),((b / Nat.gcd a b:Nat):Int)⟩
theorem Qv (a b:Nat) (hb:0<b) (ha':a≤144115188075855872) (hb':b≤16777216):qh (red a b)=true:=by
 have g0:0<Nat.gcd a b:=Nat.gcd_pos_of_pos_right a hb;have h1:a / Nat.gcd a b≤a:=Nat.div_le_self _ _;have h2:b / Nat.gcd a b≤b:=Nat.div_le_self _ _;have h3:0<b / Nat.gcd a b:=Nat.div_pos (Nat.le_of_dvd hb (Nat.gcd_dvd_right _ _)) g0;have h4:Nat.gcd (a / Nat.gcd a b) (b / Nat.gcd a b)=1:=by
  rw [Nat.gcd_div (Nat.gcd_dvd_left _ _) (Nat.gcd_dvd_right _ _),Nat.div_self g0]
 unfold qh red jw;simp only [Int.toNat_natCast,h4];generalize a / Nat.gcd a b=n at *;generalize b / Nat.gcd a b=d at *;simp;omega
theorem afC (a b:Nat) (hb:0<b) (ha':a≤144115188075855872) (hb':b≤16777216):newR a b=(red a b,0):=by
 have hv:=Qv a b hb ha' hb';have e1:jw (a:Int) (b:Int)=(Nat.gcd a b:Nat):=by unfold jw; rw [Int.toNat_natCast,Int.toNat_natCast]
 have e2:(⟨(a:Int).tdiv (jw a b),(b:Int).tdiv (jw a b)⟩:bL)=red a b:=by
  rw [e1,← Int.ofNat_tdiv,← Int.ofNat_tdiv];rfl
 unfold newR;have c:(decide ((a:Int)<0)||decide ((b:Int)<1))=false:=by simp; omega
 rw [c,e2,hv];rfl
theorem acH (a b:Nat) (hb:0<b):∃g n d:Nat,0<g∧0<d∧g*n=a∧g*d=b∧red a b=⟨n,d⟩∧n≤a∧d≤b:=by
 have g0:0<Nat.gcd a b:=Nat.gcd_pos_of_pos_right a hb;refine ⟨Nat.gcd a b,a / Nat.gcd a b,b / Nat.gcd a b,g0,Nat.div_pos (Nat.le_of_dvd hb (Nat.gcd_dvd_right _ _)) g0,Nat.mul_div_cancel' (Nat.gcd_dvd_left _ _),Nat.mul_div_cancel' (Nat.gcd_dvd_right _ _),rfl,Nat.div_le_self _ _,Nat.div_le_self _ _⟩
theorem acI (h:1≤k∧k≤64):yt k=true:=by
 unfold yt;simp;omega
theorem afD (a b:Nat) (k:Int) (hb:0<b) (hk:1≤k∧k≤64) (ha':a≤144115188075855872) (hb':b*k.toNat≤16777216):Bl (red a b) k=(red a (b*k.toNat),0):=by
 have hbk:b≤b*k.toNat:=Nat.le_mul_of_pos_right _ om;have hv:=Qv a b hb ha' om;unfold Bl;rw [hv,acI hk];simp only [Bool.not_true,cond_false];obtain ⟨g,n,d,g0,d0,e1,e2,e3,_,_⟩:=acH a b hb;rw [e3];have hkk:k=(k.toNat:Int):=by omega
 have hm:=UF g n (d*k.toNat) g0 (Nat.mul_pos d0 om);rw [e1,← Nat.mul_assoc,e2] at hm;show newR (n:Int) ((d:Int)*k)=_;rw [hkk,← Int.natCast_mul,← hm,Int.toNat_natCast];exact afC a (b*k.toNat) om ha' hb'
theorem acJ (a b:Nat) (k:Int) (hb:0<b) (hk:1≤k∧k≤64) (ha':a*k.toNat≤144115188075855872) (hb':b≤16777216):qV (red a b) k=(red (a*k.toNat) b,0):=by
 have hak:a≤a*k.toNat:=Nat.le_mul_of_pos_right _ om;have hv:=Qv a b hb om hb';unfold qV;rw [hv,acI hk];simp only [Bool.not_true,cond_false];obtain ⟨g,n,d,g0,d0,e1,e2,e3,e4,e5⟩:=acH a b hb;rw [e3];obtain ⟨k,rfl⟩:=Int.eq_ofNat_of_zero_le (show 0≤k by omega);have hk0:0<k:=by omega
 have eg:jw ((k:Nat):Int) ((d:Nat):Int)=(Nat.gcd k d:Nat):=by unfold jw; rw [Int.toNat_natCast,Int.toNat_natCast]
 have q0:0<Nat.gcd k d:=Nat.gcd_pos_of_pos_left d hk0;have qk:Nat.gcd k d*(k / Nat.gcd k d)=k:=Nat.mul_div_cancel' (Nat.gcd_dvd_left _ _);have qd:Nat.gcd k d*(d / Nat.gcd k d)=d:=Nat.mul_div_cancel' (Nat.gcd_dvd_right _ _);have qk0:0<k / Nat.gcd k d:=Nat.div_pos (Nat.le_of_dvd hk0 (Nat.gcd_dvd_left _ _)) q0;have qd0:0<d / Nat.gcd k d:=Nat.div_pos (Nat.le_of_dvd d0 (Nat.gcd_dvd_right _ _)) q0;have qkk:k / Nat.gcd k d≤k:=Nat.div_le_self _ _;simp only [Int.toNat_natCast] at ha' ⊢;rw [eg,← Int.ofNat_tdiv,← Int.ofNat_tdiv];have hc:decide ((144115188075855872:Int).tdiv ((k / Nat.gcd k d:Nat):Int)<(n:Int))=false:=by
  apply decide_eq_false;have:n≤144115188075855872 / (k / Nat.gcd k d):=by
   rw [Nat.le_div_iff_mul_le qk0];exact Nat.le_trans (Nat.mul_le_mul e4 qkk) ha'
  have e:(144115188075855872:Int).tdiv ((k / Nat.gcd k d:Nat):Int)=((144115188075855872 / (k / Nat.gcd k d):Nat):Int):=by
   rw [Int.ofNat_tdiv];rfl
  rw [e];omega
 rw [hc];simp only [cond_false];rw [← Int.natCast_mul];have m1:=UF (Nat.gcd k d) (n*(k / Nat.gcd k d)) (d / Nat.gcd k d) q0 qd0;rw [Nat.mul_left_comm,qk,qd] at m1;have m2:=UF g (n*k) d g0 d0;rw [← Nat.mul_assoc,e1,e2] at m2;rw [← m1,← m2];exact afC (a*k) b hb ha' hb'
theorem anS (a:Nat):red a 1=⟨a,1⟩:=by
 unfold red;rw [Nat.gcd_one_right,Nat.div_one,Nat.div_one];rfl
theorem anT (a b:Nat) (ha:0<a):0<(red a b).j5:=by
 have:0<a / Nat.gcd a b:=Nat.div_pos (Nat.le_of_dvd ha (Nat.gcd_dvd_left _ _)) (Nat.gcd_pos_of_pos_left b ha);show (0:Int)<((a / Nat.gcd a b:Nat):Int);omega
theorem alP (a b:Nat) (ha:0<a):nR (red a b)=false:=by
 have:=anT a b ha;unfold nR;have:((red a b).j5==0)=false:=by
  rw [← Bool.not_eq_true];intro e;have:=eq_of_beq e;omega
 rw [this];rfl
theorem ajB (k:Int) (hk:1≤k∧k≤64):qV QS k=(QS,0):=by
 have h:=acJ 0 1 k (by decide) hk (by simp) (by decide);rw [Nat.zero_mul] at h;exact h
theorem alQ (k:Int) (hk:1≤k∧k≤64):Bl QS k=(QS,0):=by
 have h:=afD 0 1 k (by decide) hk (by decide) om;have e:red 0 (1*k.toNat)=QS:=by
  unfold red QS;rw [Nat.gcd_zero_left,Nat.zero_div,Nat.one_mul,Nat.div_self om];rfl
 rw [e] at h;exact h
theorem Ta (l:List aI) (s:List Int) (n j:Nat) (h:j<n):(qW l s n).getD j dS=X4 (qW l s j) (l.getD j aK) (s.getD j 0):=by
 induction n with
 | zero=>omega
 | succ n ih=>
  rw [qW];by_cases hj:j<n
  ·rw [jO _ (by rw [sM]; exact hj)];exact ih hj
  ·have:j=n:=by omega
   subst this;rw [kI _ (sM l s j).symm]
theorem ajC {acc acc':List bL} (h:0≤ko c k→acc.getD (ko c k).toNat dS=acc'.getD (ko c k).toNat dS):X4 acc c k=X4 acc' c k:=by
 unfold X4;by_cases hp:ko c k<0
 ·rw [decide_eq_true hp]; rfl
 ·rw [h om]
theorem ajD (h:Good l s) (j:Nat) (hj:j<l.length):(gD l s).getD j dS=X4 (gD l s) (l.getD j aK) (s.getD j 0):=by
 unfold gD;rw [Ta l s l.length j hj];refine ajC λ h0=>?_;have:=h.aP j hj;rw [Ta l s l.length _ om,Ta l s j _ om]
theorem ajE (acc:List Int) (l:List Int) (p:Int) (hp:p∈l):acc.getD p.toNat 0≤mo acc l:=by
 have mono:∀(l:List Int) (n:Int),n≤l.foldl (λ n p=>QO n (acc.getD p.toNat 0)) n:=by
  intro l;induction l with
  | nil=>intro n; exact Int.le_refl _
  | cons q r ih=>
   intro n;have:=ih (QO n (acc.getD q.toNat 0));have h2:n≤QO n (acc.getD q.toNat 0):=by unfold QO; split<;>omega
   exact Int.le_trans h2 this
 have key:∀(l:List Int) (n:Int),p∈l→acc.getD p.toNat 0≤l.foldl (λ n p=>QO n (acc.getD p.toNat 0)) n:=by
  intro l;induction l with
  | nil=>intro n h; cases h
  | cons q r ih=>
   intro n h;rcases List.mem_cons.1 h with rfl | h
   ·have:=mono r (QO n (acc.getD p.toNat 0));have h2:acc.getD p.toNat 0≤QO n (acc.getD p.toNat 0):=by unfold QO; split<;>omega
    exact Int.le_trans h2 this
   ·exact ih _ h
 exact key l 0 hp
theorem anU (hp:aiy l) (j:Nat) (hj:j<l.length):∀p∈(l.getD j aK).aP,(iN l).getD p.toNat 0+(bif SV (l.getD j aK) then 1 else 0)≤(iN l).getD j 0:=by
 intro p hpm;have hpj:=(hp j hj).2 p hpm;have e1:(iN l).getD j 0=Kk (iN (l.take j)) (l.getD j aK):=by
  rw [Ws l (j+1) j om hj,gP aK hj,DX,kI _ (by rw [(jW _).1,take_len om])]
 have e2:(iN l).getD p.toNat 0=(iN (l.take j)).getD p.toNat 0:=Ws l j p.toNat om om;have:=ajE (iN (l.take j)) (l.getD j aK).aP p hpm;rw [e1,e2];unfold Kk;cases SV (l.getD j aK)<;>simp only [cond_true,cond_false]<;>omega
structure Made (l:List aI):Prop where
 ok:eD l=0
 pos:1≤l.length
 fix:∀i,i<l.length→(l.getD i aK).gq=1→(l.getD i aK).aN.getD 0 0≤24000000
structure Yt (F a b:Nat) (f:Int):Prop where
 a0:0<a
 b0:0<b
 f0:0≤f
 al:a≤F*64 ^ f.toNat
 bl:b≤64 ^ f.toNat
variable {f:Int}
theorem anV (h:f≤4):64 ^ f.toNat≤16777216:=by
 have:f.toNat≤4:=by omega
 calc 64 ^ f.toNat≤64 ^ 4:=Nat.pow_le_pow_right (by decide) this
  _=16777216:=by decide
variable {F:Nat} {a:Nat} {b:Nat}
theorem Yt.mono {g:Int} (h:Yt F a b f) (hfg:f≤g):Yt F a b g:=by
 have hf:=h.f0;have:64 ^ f.toNat≤64 ^ g.toNat:=Nat.pow_le_pow_right (by decide) om;exact ⟨h.a0,h.b0,om,Nat.le_trans h.al (Nat.mul_le_mul_left _ this),Nat.le_trans h.bl this⟩
theorem Yt.times {g:Int} (h:Yt F a b f) (hfg:f+1≤g) {k:Nat} (hk:1≤k∧k≤64):Yt F (a*k) b g:=by
 have hf:=h.f0;have:64 ^ f.toNat*64≤64 ^ g.toNat:=by
  rw [← Nat.pow_succ];exact Nat.pow_le_pow_right (by decide) om
 refine ⟨Nat.mul_pos h.a0 om,h.b0,om,?_,?_⟩
 ·calc a*k≤(F*64 ^ f.toNat)*64:=Nat.mul_le_mul h.al hk.2
   _=F*(64 ^ f.toNat*64):=Nat.mul_assoc _ _ _
   _≤F*64 ^ g.toNat:=Nat.mul_le_mul_left _ this
 ·exact Nat.le_trans h.bl (Nat.le_trans (Nat.le_mul_of_pos_right _ (by decide)) this)
theorem Yt.over {g:Int} (h:Yt F a b f) (hfg:f+1≤g) {k:Nat} (hk:1≤k∧k≤64):Yt F a (b*k) g:=by
 have hf:=h.f0;have h1:64 ^ f.toNat*64≤64 ^ g.toNat:=by
  rw [← Nat.pow_succ];exact Nat.pow_le_pow_right (by decide) om
 have h2:64 ^ f.toNat≤64 ^ g.toNat:=Nat.pow_le_pow_right (by decide) om;exact ⟨h.a0,Nat.mul_pos h.b0 om,om,Nat.le_trans h.al (Nat.mul_le_mul_left _ h2),Nat.le_trans (Nat.mul_le_mul h.bl hk.2) h1⟩
theorem Yt.small (h:Yt F a b f) (hf:f≤4) (hF:F≤4294967296):a≤F*16777216∧a≤144115188075855872∧b≤16777216:=by
 have hp:=anV hf;have h1:=Nat.le_trans h.al (Nat.mul_le_mul_left F hp);exact ⟨h1,Nat.le_trans h1 (Nat.le_trans (Nat.mul_le_mul_right 16777216 hF) (by decide)),Nat.le_trans h.bl hp⟩
def JG (c:aI) (k:Int):Int:=c.aN.getD k.toNat 0
def upR (acc:List bL) (c:aI) (k:Int):bL:=acc.getD (ko c k).toNat dS
structure Step (c:aI) (i:Nat) (k:Int):Prop where
 p0:0≤ko c k
 pi:ko c k<i
 mem:ko c k∈c.aP
 n1:c.gq≠1
theorem adS (hv:lD c i=true) (hk:0≤k∧k<c.aN.length) (hn:c.gq≠1):Step c i k:=by
 have hp:=Km hv;have key:ko c k∈c.aP:=by
  unfold ko;rcases sN (lF hv) with ⟨h1,h2,h3,h4⟩ | ⟨h1,h2,h3,h4⟩ | ⟨h1,h2,h3⟩ | ⟨h1,h2,h3⟩
  ·exact absurd h1 hn
  ·have hn1:(c.gq==1)=false:=by rcases h1 with h1 | h1<;>rw [h1]<;>rfl
   have hn4:(c.gq==4)=false:=by rcases h1 with h1 | h1<;>rw [h1]<;>rfl
   rw [hn1,hn4];exact jh 0 om
  ·have hm:=h3 _ (jh 0 (i:=k.toNat) om);rw [h1];exact jh 0 (i:=(c.aN.getD k.toNat 0).toNat) om
  ·rw [h1];exact jh 0 (i:=0) om
 have:=hp _ key;exact ⟨this.1,this.2,key,hn⟩
theorem anW (hv:lD c i=true) (hk:0≤k∧k<c.aN.length) (h:c.gq=1) (acc:List bL):JG c k=c.aN.getD 0 0∧1≤JG c k∧JG c k≤4000000000∧X4 acc c k=⟨JG c k,1⟩∧ko c k = -1:=by
 rcases sN (lF hv) with ⟨h1,h2,h3,h4⟩ | ⟨h1,h2,h3,h4⟩ | ⟨h1,h2,h3⟩ | ⟨h1,h2,h3⟩
 ·have e:JG c k=c.aN.getD 0 0:=by unfold JG; rw [show k.toNat=0 by omega]
  have hp:ko c k = -1:=by unfold ko; rw [h]; rfl
  refine ⟨e,om,om,?_,hp⟩;unfold X4;rw [hp];rfl
 ·rcases h1 with h1 | h1<;>omega
 ·omega
 ·omega
theorem afE (hv:lD c i=true) (hk:0≤k∧k<c.aN.length) (hn:c.gq≠1) (acc:List bL):
  ((nR (upR acc c k)=true∨(c.gq=5∧JG c k=0))∧X4 acc c k=QS)∨
  (nR (upR acc c k)=false∧((c.gq=2∧SV c=true∧(1≤JG c k∧JG c k≤64)∧X4 acc c k=(Bl (upR acc c k) (JG c k)).1)∨
    (c.gq=3∧SV c=true∧(1≤JG c k∧JG c k≤64)∧X4 acc c k=(qV (upR acc c k) (JG c k)).1)∨
    ((c.gq=4∨(c.gq=5∧JG c k=1))∧SV c=false∧X4 acc c k=upR acc c k))):=by
 have hs:=adS hv hk hn;have hp:decide (ko c k<0)=false:=decide_eq_false (by have:=hs.p0; omega);have e0:X4 acc c k=bif nR (upR acc c k)||((c.gq==5)&&(JG c k==0)) then QS else bif c.gq==2 then (Bl (upR acc c k) (JG c k)).1 else bif c.gq==3 then (qV (upR acc c k) (JG c k)).1 else upR acc c k:=by
  unfold X4;rw [hp];rfl
 have hmem:JG c k∈c.aN:=jh 0 om;cases ho:nR (upR acc c k) with
 | true=>left; exact ⟨.inl rfl,by rw [e0,ho]; rfl⟩
 | false=>
  rw [ho] at e0;rcases sN (lF hv) with ⟨h1,h2,h3,h4⟩ | ⟨h1,h2,h3,h4⟩ | ⟨h1,h2,h3⟩ | ⟨h1,h2,h3⟩
  ·exact absurd h1 hn
  ·right;refine ⟨rfl,?_⟩;rcases h1 with h1 | h1
   ·left;refine ⟨h1,by unfold SV; rw [h1]; rfl,h4 _ hmem,?_⟩;rw [e0,h1];rfl
   ·right; left;refine ⟨h1,by unfold SV; rw [h1]; rfl,h4 _ hmem,?_⟩;rw [e0,h1];rfl
  ·right;refine ⟨rfl,.inr (.inr ⟨.inl h1,by unfold SV; rw [h1]; rfl,?_⟩)⟩;rw [e0,h1];rfl
  ·rw [h3] at hmem;by_cases hc:JG c k=0
   ·left;refine ⟨.inr ⟨h1,hc⟩,?_⟩;rw [e0,h1,hc];rfl
   ·have hc1:JG c k=1:=by simp at hmem; omega
    right;refine ⟨rfl,.inr (.inr ⟨.inr ⟨h1,hc1⟩,by unfold SV; rw [h1]; rfl,?_⟩)⟩;rw [e0,h1,hc1];rfl
theorem ahs (h:abI l):aiy l:=λ i hi=>⟨by have:=(h.big i hi).1; omega,Km (h.valid i hi)⟩
def st1 (acc:List bL) (on:List Bool) (c:aI) (k:Int):bL×Bool:=
 bif c.gq==1 then (⟨c.aN.getD k.toNat 0,1⟩,true) else
 bif c.gq==2 then ((Bl (acc.getD (ko c k).toNat dS) (c.aN.getD k.toNat 0)).1,on.getD (ko c k).toNat false) else
 bif c.gq==3 then ((qV (acc.getD (ko c k).toNat dS) (c.aN.getD k.toNat 0)).1,on.getD (ko c k).toNat false) else
 bif (c.gq==5)&&(c.aN.getD k.toNat 0==0) then (QS,false) else (acc.getD (ko c k).toNat dS,on.getD (ko c k).toNat false)
def Wt (l:List aI) (s:List Int):Nat→List bL×List Bool
 | 0=>([],[])
 | i+1=>((Wt l s i).1++[(st1 (Wt l s i).1 (Wt l s i).2 (l.getD i aK) (s.getD i 0)).1],(Wt l s i).2++[(st1 (Wt l s i).1 (Wt l s i).2 (l.getD i aK) (s.getD i 0)).2])
def RO (l:List aI) (s:List Int):List bL×List Bool:=Wt l s l.length
theorem Qw (l:List aI) (s:List Int) (i:Nat):(Wt l s i).1.length=i∧(Wt l s i).2.length=i:=by
 induction i with
 | zero=>exact ⟨rfl,rfl⟩
 | succ i ih=>simp [Wt,ih]
def Up (l:List aI) (s:List Int):Prop:=∀i:Nat,i<l.length→(l.getD i aK).gq≠1→0≤ko (l.getD i aK) (s.getD i 0)
theorem alR (h:abI l) (hs:l6 l s=true):Up l s:=by
 obtain ⟨_,h2⟩:=aaD hs;exact λ i hi hk=>(adS (h.valid i hi) (h2 i hi) hk).p0
theorem adT (l:List aI) (s:List Int) (n j:Nat) (h:j<n):(Wt l s n).1.getD j dS=(st1 (Wt l s j).1 (Wt l s j).2 (l.getD j aK) (s.getD j 0)).1∧(Wt l s n).2.getD j false=(st1 (Wt l s j).1 (Wt l s j).2 (l.getD j aK) (s.getD j 0)).2:=by
 induction n with
 | zero=>omega
 | succ n ih=>
  rw [Wt];have hl:=Qw l s n;by_cases hj:j<n
  ·rw [jO _ om,jO _ om];exact ih hj
  ·have:j=n:=by omega
   subst this;rw [kI _ hl.1.symm,kI _ hl.2.symm];exact ⟨rfl,rfl⟩
theorem ajF {acc acc':List bL} {on on':List Bool} (h:c.gq≠1→acc.getD (ko c k).toNat dS=acc'.getD (ko c k).toNat dS∧on.getD (ko c k).toNat false=on'.getD (ko c k).toNat false):st1 acc on c k=st1 acc' on' c k:=by
 unfold st1;cases hk:c.gq==1 with
 | true=>rfl
 | false=>
  obtain ⟨h1,h2⟩:=h (λ e=>by rw [e] at hk; cases hk);rw [h1,h2]
theorem aqa (h:Good l s) (hu:Up l s) (j:Nat) (hj:j<l.length):((RO l s).1.getD j dS,(RO l s).2.getD j false)=st1 (RO l s).1 (RO l s).2 (l.getD j aK) (s.getD j 0):=by
 unfold RO;obtain ⟨e1,e2⟩:=adT l s l.length j hj;rw [e1,e2];show st1 _ _ _ _=_;refine ajF λ hk=>?_;have h1:=h.aP j hj;have h2:=hu j hj hk;obtain ⟨a1,a2⟩:=adT l s l.length (ko (l.getD j aK) (s.getD j 0)).toNat om;obtain ⟨b1,b2⟩:=adT l s j (ko (l.getD j aK) (s.getD j 0)).toNat om;exact ⟨b1.trans a1.symm,b2.trans a2.symm⟩
theorem alS (hn:c.gq≠1) (acc:List bL) (on:List Bool) (k:Int):
  (c.gq=2→st1 acc on c k=((Bl (upR acc c k) (JG c k)).1,on.getD (ko c k).toNat false))∧
  (c.gq=3→st1 acc on c k=((qV (upR acc c k) (JG c k)).1,on.getD (ko c k).toNat false))∧
  (c.gq=5→JG c k=0→st1 acc on c k=(QS,false))∧
  ((c.gq=4∨(c.gq=5∧JG c k=1))→st1 acc on c k=(upR acc c k,on.getD (ko c k).toNat false)):=by
 have hk:(c.gq==1)=false:=by
  cases h:c.gq==1 with
  | false=>rfl
  | true=>exact absurd (eq_of_beq h) hn
 refine ⟨λ h=>?_,λ h=>?_,λ h h0=>?_,λ h=>?_⟩
 ·unfold st1; rw [h]; rfl
 ·unfold st1; rw [h]; rfl
 ·unfold st1; rw [show c.aN.getD k.toNat 0=JG c k from rfl,h,h0]; rfl
 ·rcases h with h | ⟨h,h1⟩
  ·unfold st1; rw [h]; rfl
  ·unfold st1; rw [show c.aN.getD k.toNat 0=JG c k from rfl,h,h1]; rfl
theorem alT (hv:lD c i=true) (hk:0≤k∧k<c.aN.length) (hn:c.gq≠1):(c.gq=2∧1≤JG c k∧JG c k≤64)∨(c.gq=3∧1≤JG c k∧JG c k≤64)∨c.gq=4∨(c.gq=5∧JG c k=k∧(k=0∨k=1)):=by
 have hmem:JG c k∈c.aN:=jh 0 om;rcases sN (lF hv) with ⟨h1,h2,h3,h4⟩ | ⟨h1,h2,h3,h4⟩ | ⟨h1,h2,h3⟩ | ⟨h1,h2,h3⟩
 ·exact absurd h1 hn
 ·rcases h1 with h1 | h1
  ·exact .inl ⟨h1,h4 _ hmem⟩
  ·exact .inr (.inl ⟨h1,h4 _ hmem⟩)
 ·exact .inr (.inr (.inl h1))
 ·rw [h3] at hk;have hk2:k=0∨k=1:=by simp at hk; omega
  refine .inr (.inr (.inr ⟨h1,?_,hk2⟩));unfold JG;rw [h3];rcases hk2 with rfl | rfl<;>rfl
theorem alU (l:List aI):∀j:Nat,0≤(iN l).getD j 0:=λ j=>((jW l).2 j).1
theorem alV (hf:abI l) (hs:l6 l s=true):∀j,j<l.length→
  ((gD l s).getD j dS=QS∧(RO l s).1.getD j dS=QS∧(RO l s).2.getD j false=false)∨
  ∃a b,Yt 4000000000 a b ((iN l).getD j 0)∧(gD l s).getD j dS=red a b∧(RO l s).1.getD j dS=red a b∧(RO l s).2.getD j false=true:=by
 have hg:=Qu hf hs;have hu:=alR hf hs;obtain ⟨_,hset⟩:=aaD hs;have aui:=λ j hj=>anU (ahs hf) j hj;have hfb:=alU l;generalize hA:gD l s=A;generalize hB:RO l s=B;intro j;induction j using Nat.strongRecOn with
 | ind j ih=>
  intro hj;have eA:=ajD hg j hj;have eB:=aqa hg hu j hj;rw [hA] at eA;rw [hB] at eB;have hv:=hf.valid j hj;have hk:=hset j hj;have hfj:=hf.iN j hj;have arF:=aui j hj;generalize l.getD j aK=c at *;generalize s.getD j 0=k at *;by_cases hk1:c.gq=1
  ·right;obtain ⟨e1,e2,e3,e4,_⟩:=anW hv hk hk1 A;have eB1:st1 B.1 B.2 c k=(⟨JG c k,1⟩,true):=by unfold st1; rw [hk1]; rfl
   rw [eB1] at eB;have hb:=hfb j;have er:(⟨JG c k,1⟩:bL)=red (JG c k).toNat 1:=by
    rw [anS];congr 1;omega
   refine ⟨(JG c k).toNat,1,⟨om,by decide,om,?_,Nat.pow_pos (by decide)⟩,?_,?_,?_⟩
   ·exact Nat.le_trans (show (JG c k).toNat≤4000000000 by omega) (Nat.le_mul_of_pos_right _ (Nat.pow_pos (by decide)))
   ·rw [eA,e4,er]
   ·rw [← er]; exact congrArg Prod.fst eB
   ·exact congrArg Prod.snd eB
  ·have hst:=adS hv hk hk1;have hpl:(ko c k).toNat<l.length:=by have:=hst.p0; have:=hst.pi; omega
   have hpf:=arF _ hst.mem;have ihp:=ih (ko c k).toNat (by have:=hst.p0; have:=hst.pi; omega) hpl;have uA:A.getD (ko c k).toNat dS=upR A c k:=rfl;have uB:B.1.getD (ko c k).toNat dS=upR B.1 c k:=rfl;rw [uA,uB] at ihp;obtain ⟨q2,q3,q50,q4⟩:=alS hk1 B.1 B.2 k;have hn:∀n:Int,1≤n∧n≤64→1≤n.toNat∧n.toNat≤64:=λ n hn=>by omega
   rcases ihp with ⟨i1,i2,i3⟩ | ⟨a,b,i0,i1,i2,i3⟩
   ·left;have hA0:X4 A c k=QS:=by
     rcases afE hv hk hk1 A with ⟨_,q⟩ | ⟨q,_⟩
     ·exact q
     ·rw [i1] at q; cases q
    rw [i2,i3] at q2 q3 q4;have hB0:st1 B.1 B.2 c k=(QS,false):=by
     rcases alT hv hk hk1 with ⟨h,h1⟩ | ⟨h,h1⟩ | h | ⟨h,h1,h2⟩
     ·rw [q2 h,alQ _ h1]
     ·rw [q3 h,ajB _ h1]
     ·exact q4 (.inl h)
     ·rcases h2 with h2 | h2
      ·exact q50 h om
      ·exact q4 (.inr ⟨h,om⟩)
    rw [hB0] at eB;exact ⟨by rw [eA,hA0],congrArg Prod.fst eB,congrArg Prod.snd eB⟩
   ·have oA:nR (upR A c k)=false:=by rw [i1]; exact alP a b i0.a0
    rw [i2,i3] at q2 q3 q4;rcases afE hv hk hk1 A with ⟨q0,q⟩ | ⟨_,q⟩
    ·left;rw [oA] at q0;rcases q0 with q0 | ⟨q0,q1⟩
     ·cases q0
     ·rw [q50 q0 q1] at eB;exact ⟨by rw [eA,q],congrArg Prod.fst eB,congrArg Prod.snd eB⟩
    ·right;rcases q with ⟨r1,r2,r3,r4⟩ | ⟨r1,r2,r3,r4⟩ | ⟨r1,r2,r3⟩
     ·rw [r2] at hpf;have hnew:=i0.over hpf (hn _ r3);have hs2:=hnew.small hfj (by decide);have eo:=afD a b _ i0.b0 r3 hs2.2.1 hs2.2.2;rw [q2 r1,eo] at eB;exact ⟨a,b*(JG c k).toNat,hnew,by rw [eA,r4,i1,eo],congrArg Prod.fst eB,congrArg Prod.snd eB⟩
     ·rw [r2] at hpf;have hnew:=i0.times hpf (hn _ r3);have hs2:=hnew.small hfj (by decide);have eo:=acJ a b _ i0.b0 r3 hs2.2.1 hs2.2.2;rw [q3 r1,eo] at eB;exact ⟨a*(JG c k).toNat,b,hnew,by rw [eA,r4,i1,eo],congrArg Prod.fst eB,congrArg Prod.snd eB⟩
     ·rw [r2] at hpf;rw [q4 r1] at eB;exact ⟨a,b,i0.mono (by simpa using hpf),by rw [eA,r3,i1],congrArg Prod.fst eB,congrArg Prod.snd eB⟩
theorem Qx (hf:abI l) (hs:l6 l s=true) (j:Nat) (hj:j<l.length):(RO l s).1.getD j dS=(gD l s).getD j dS∧(RO l s).2.getD j false=!nR ((gD l s).getD j dS)∧qh ((gD l s).getD j dS)=true∧(nR ((gD l s).getD j dS)=true→(gD l s).getD j dS=QS):=by
 rcases alV hf hs j hj with ⟨h1,h2,h3⟩ | ⟨a,b,h0,h1,h2,h3⟩
 ·rw [h1,h2,h3];exact ⟨rfl,rfl,by decide,λ _=>rfl⟩
 ·have hs2:=h0.small (hf.iN j hj) (by decide);rw [h1,h2,h3,alP a b h0.a0];exact ⟨rfl,rfl,Qv a b h0.b0 hs2.2.1 hs2.2.2,nofun⟩
theorem uO {l m:List α} (d:α) (h:l.length=m.length) (he:∀i,i<l.length→l.getD i d=m.getD i d):l=m:=by
 apply List.ext_getElem h;intro i h1 h2;have:=he i h1;rw [List.getD_eq_getElem?_getD,List.getD_eq_getElem?_getD,List.getElem?_eq_getElem h1,List.getElem?_eq_getElem h2] at this;simpa using this
structure awt (l:List aI) (s w:List Int):Prop where
 chain:∀i,i+1<w.length→(l.getD (w.getD i 0).toNat aK).gq≠1∧w.getD (i+1) 0=ko (l.getD (w.getD i 0).toNat aK) (s.getD (w.getD i 0).toNat 0)
 last:∀i,i+1=w.length→(l.getD (w.getD i 0).toNat aK).gq=1
theorem jX (n lo hi:Int):jU n lo hi (dL n lo hi):=rfl
theorem adU (hl:l.length≤2000000):lU l (l.any SS):=
 RN (UA (p:=GI) (P:=SS) (λ _ _=>rfl) om) (sK _ _)
theorem Yu {p a:Int} (ha : -2000000≤a∧a≤2000000):Ad p a (!dL p 0 (a - 1)):=
 l5 (aO (by unfold aG; omega) (aF (wQ (jX _ _ _)) λ v hv=>by subst hv; exact av rfl))
theorem adV {l:List Int} {a:Int} (ha : -2000000≤a∧a≤2000000) (hl:l.length≤2000000):oO l a (l.any λ y=>!dL y 0 (a - 1)):=
 RN (UA (p:=λ x=>Ad x a) (P:=λ y=>!dL y 0 (a - 1)) (λ _ _=>Yu ha) om) (sK _ _)
theorem aaE {l:List Int} {v:Int} (hl:l.length≤2000000):slices_Contains_int l v (l.contains v):=by
 refine RN (aly (P:=λ x=>v==x) om) ?_;rw [sK];exact (List.contains_eq_any_beq).symm
theorem yA {l:List Int} (hl:l.length≤2000000):nH l lo hi (yj lo hi [] l):=by
 refine l5 (alz l.length (λ i=>yj lo hi (l.take i) (l.drop i)=yj lo hi [] l) ?_ rfl);intro self i hi1 hi2 ih;refine bJ ?_ ?_<;>intro c
 ·have c:=of_decide_eq_true c;have hlt:i<l.length:=by omega
  rw [drop_cons 0 hlt] at hi2;refine aO om ?_;refine aF (wQ (jX _ _ _)) λ v hv=>?_;subst hv;refine aO (λ _=>by omega) ?_;refine aF (gX λ _=>aaE (by simp; omega)) λ v hv=>?_;subst hv;refine bJ ?_ ?_<;>intro c2
  ·refine av ?_;rw [← hi2,Zn (pre:=l.take i) (n:=l.getD i 0) c2]
  ·refine aO (by unfold aG; omega) (ih hlt ?_);rw [← hi2,adP (pre:=l.take i) (n:=l.getD i 0) c2,gP 0 hlt]
 ·have c:=of_decide_eq_false c;refine av ?_;rw [← hi2,List.drop_eq_nil_of_le om];rfl
theorem Tc {a b:List Int} (hl:a.length≤2000000):slices_Equal_int a b (a==b):=by
 refine l5 (bJ (λ c=>?_) (λ c=>?_))
 ·refine av ?_;have:a≠b:=λ h=>by subst h; simp at c
  exact (beq_eq_false_iff_ne.2 this).symm
 ·have hlen:a.length=b.length:=by simp at c; omega
  refine alz a.length (λ i=>(a==b)=(a.drop i==b.drop i)) ?_ rfl;intro self i hi1 hi2 ih;refine bJ ?_ ?_<;>intro c
  ·have c:=of_decide_eq_true c;have hlt:i<a.length:=by omega
   rw [drop_cons 0 hlt,drop_cons 0 (show i<b.length by omega)] at hi2;refine aO om (aO om ?_);refine bJ ?_ ?_<;>intro c2
   ·refine av ?_;rw [hi2];simp at c2;simp [c2]
   ·refine aO (by unfold aG; omega) (ih hlt ?_);rw [hi2];simp at c2;simp [c2]
  ·have c:=of_decide_eq_false c;refine av ?_;rw [hi2,List.drop_eq_nil_of_le om,List.drop_eq_nil_of_le om];rfl
theorem abJ (hk : -2000000≤k∧k≤2000000) (hp:c.aP.length≤2000000) (hc:c.aN.length≤2000000):ND c k (lD c k):=by
 refine l5 ?_;refine aF (wQ (adV hk hp)) λ v1 hv=>?_;subst hv;refine aF (gX λ _=>jX c.fP 0 4000000000) λ v hv=>?_;subst hv;refine aF (gX λ _=>jX c.Low 0 c.fP) λ v hv=>?_;subst hv;refine bJ ?_ ?_<;>intro h
 ·refine av ?_;unfold lD;rw [h];rfl
 ·have hv:lD c k=iZ c:=by unfold lD; rw [h]; rfl
  rw [hv];refine bJ ?_ ?_<;>intro k1
  ·refine aO (λ h=>by simp at h; omega) ?_;refine aF (gX λ _=>jX (c.aN.getD 0 0) 1 4000000000) λ v hv=>?_;subst hv;refine av ?_;unfold iZ;rw [k1];rfl
  ·refine bJ ?_ ?_<;>intro k2
   ·rw [k2];refine aF (gX λ _=>yA hc) λ v hv=>?_;subst hv;refine av ?_;unfold iZ;rw [k1,k2];rfl
   ·refine bJ ?_ ?_<;>intro k3
    ·refine aF (gX λ _=>yA hc) λ v hv=>?_;subst hv;refine av ?_;unfold iZ;rw [k1,k2,k3];rfl
    ·refine bJ ?_ ?_<;>intro k4
     ·refine aO (λ _=>by unfold aG; omega) ?_;refine aF (gX λ _=>yA hc) λ v hv=>?_;subst hv;refine av ?_;unfold iZ;rw [k1,k2,k3,k4];rfl
     ·refine bJ ?_ ?_<;>intro k5
      ·refine bJ ?_ ?_<;>intro h1
       ·refine aF (gX λ _=>Tc hc) λ v hv=>?_;subst hv;refine av ?_;unfold iZ;rw [k1,k2,k3,k4,k5];rfl
       ·refine av ?_;unfold iZ;rw [k1,k2,k3,k4,k5];simp at h1;simp [h1]
      ·refine av ?_;unfold iZ;rw [k1,k2,k3,k4,k5];rfl
theorem set_mid (a:List α) (x y:α) (z:List α):(a++x::z).set a.length y=a++y::z:=by
 rw [List.set_append_right _ _ (Nat.le_refl _),Nat.sub_self];rfl
theorem uP (hl:l.length≤2000000):rU l (eD l):=by
 refine l5 ?_;refine aF (gX λ _=>adU hl) λ v hv=>?_;subst hv;refine bJ ?_ ?_<;>intro h
 ·refine av ?_;unfold eD;rw [h];rfl
 ·have hb3:(decide (16<(l.length:Int))||l.any SS)=false:=h;have h16:l.length≤16:=by simp at hb3; omega
  have hbig:∀i:Nat,i<l.length→SS (l.getD i aK)=false:=nZ aK (by simp only [Bool.or_eq_false_iff] at hb3; exact hb3.2);refine alz l.length (λ i=>∀j:Nat,j<i→lD (l.getD j aK) j=true) ?_ (λ j hj=>absurd hj (Nat.not_lt_zero j));intro self i hi1 hi2 ih;refine bJ ?_ ?_<;>intro h2
  ·have hlt:i<l.length:=by have:=of_decide_eq_true h2; omega
   have hbl:=OX (hbig i hlt);refine aO om ?_;refine aF (wQ (abJ (c:=l.getD i aK) (k:=i) om om om)) λ v hv=>?_;subst hv;refine bJ ?_ ?_<;>intro h3
   ·refine av ?_;unfold eD;rw [hb3,SX hlt (by simpa using h3)];rfl
   ·refine aO (by unfold aG; omega) (ih hlt λ j hj=>?_);by_cases hji:j=i
    ·subst hji; simpa using h3
    ·exact hi2 j om
  ·have hil:i=l.length:=by have:=of_decide_eq_false h2; omega
   subst hil;have hall:=acF hi2;refine aO ⟨om,by show (l.length:Int)*8≤140737488355328; omega⟩ ?_;refine bI (λ g:Int×Int×List Int=>∃i:Nat,g=(mO (l.take i),(i:Int),iN (l.take i)++List.replicate (l.length - i) 0)∧i≤l.length∧mO (l.take i)≤4096∧∀j:Nat,j<i→(λ n=>decide (4<n)) ((iN l).getD j 0)=false) (λ g=>(l.length - g.2.1).toNat) ?_ ⟨0,rfl,om,by rw [List.take_zero]; decide,λ j hj=>absurd hj (Nat.not_lt_zero j)⟩;rintro dK g ⟨i,rfl,hj1,hj2,hj3⟩ ih2;refine bJ ?_ ?_<;>intro h3
   ·have hlt:i<l.length:=by have:(i:Int)<(l.length:Int):=of_decide_eq_true h3; omega
    refine aO (by show 0≤(i:Int)∧(i:Int)<(l.length:Int); omega) ?_;obtain ⟨hfl,hb⟩:=jW (l.take i);rw [take_len hj1] at hfl hb;have hpi:=(afy hi2 hbig) i hlt;have hsn:iN (l.take (i+1))=iN (l.take i)++[Kk (iN (l.take i)) (l.getD i aK)]:=by rw [gP aK hlt,DX]
    have hpm:=Kl (iN (l.take i)) i om hb;have hrep:List.replicate (l.length - i) (0:Int)=0::List.replicate (l.length - i - 1) 0:=by
     rw [show l.length - i=(l.length - i - 1)+1 by omega];rfl
    have hcut:W (uX l (mO (l.take i),(i:Int),iN (l.take i)++List.replicate (l.length - i) 0) dK (iN (l.take i)++Kk (iN (l.take i)) (l.getD i aK)::List.replicate (l.length - i - 1) 0)) (λ r=>r=eD l):=by
     have hbl:=OX (hbig i hlt);have hpb:=OY (l.take i);have awu:0≤mO (l.take i)*((l.getD i aK).aN.length:Int)∧mO (l.take i)*((l.getD i aK).aN.length:Int)≤4096*8:=⟨Int.mul_nonneg hpb.1 om,Int.mul_le_mul hj2 om om om⟩;have hpe:mO (l.take (i+1))=mO (l.take i)*((l.getD i aK).aN.length:Int):=by
      rw [gP aK hlt,SY];unfold Yr;rw [if_neg om]
     have hfi:(iN l).getD i 0=Kk (iN (l.take i)) (l.getD i aK):=by
      rw [Ws l (i+1) i om hlt,hsn,kI 0 hfl.symm]
     refine aO (by show aG (mO (l.take i)*((l.getD i aK).aN.length:Int)); unfold aG; omega) ?_;refine aO (λ _=>by simp [hfl]; omega) ?_;refine bJ ?_ ?_<;>intro h5
     ·have h5:(decide (4096<mO (l.take i)*((l.getD i aK).aN.length:Int))||decide (4<(iN (l.take i)++Kk (iN (l.take i)) (l.getD i aK)::List.replicate (l.length - i - 1) 0).getD i 0))=true:=h5;rw [kI 0 hfl.symm,← hfi,← hpe] at h5;refine av ?_;unfold eD;rw [hb3,hall];have:(decide (4096<mO l)||(iN l).any (λ n=>decide (4<n)))=true:=by
       rw [Bool.or_eq_true] at h5 ⊢;rcases h5 with h5 | h5
       ·left;have h5:=of_decide_eq_true h5;have hm:=ahr l (λ c hc=>by
         obtain ⟨k,hk,rfl⟩:=List.mem_iff_getElem.1 hc;have:=OZ (lF (hi2 k hk));rwa [List.getD_eq_getElem?_getD,List.getElem?_eq_getElem hk] at this) (i+1)
        exact decide_eq_true om
       ·right;exact yu (p:=λ n=>decide (4<n)) 0 (by rw [(jW l).1]; exact hlt) h5
      rw [this];rfl
     ·have h5:(decide (4096<mO (l.take i)*((l.getD i aK).aN.length:Int))||decide (4<(iN (l.take i)++Kk (iN (l.take i)) (l.getD i aK)::List.replicate (l.length - i - 1) 0).getD i 0))=false:=h5;rw [kI 0 hfl.symm,← hfi,← hpe] at h5;rw [Bool.or_eq_false_iff] at h5;refine aO (by show aG ((i:Int)+1); unfold aG; omega) ?_;refine ih2 _ ⟨i+1,?_,hlt,by have:=of_decide_eq_false h5.1; omega,λ j hj=>?_⟩ (by show (l.length - ((i:Int)+1)).toNat<(l.length - (i:Int)).toNat; omega)
      ·rw [hsn,List.append_assoc,show l.length - (i+1)=l.length - i - 1 by omega,hpe];rfl
      ·by_cases hji:j=i
       ·subst hji; exact h5.2
       ·exact hj3 j om
    refine bI (λ g:Int×List Int=>∃j:Nat,g=((j:Int),iN (l.take i)++mo (iN (l.take i)) ((l.getD i aK).aP.take j)::List.replicate (l.length - i - 1) 0)∧j≤(l.getD i aK).aP.length) (λ g=>((l.getD i aK).aP.length - g.1).toNat) ?_ ⟨0,by rw [hrep]; rfl,Nat.zero_le _⟩;rintro oq g ⟨j,rfl,hj⟩ ih7;refine bJ ?_ ?_<;>intro h4
    ·have hjl:j<(l.getD i aK).aP.length:=by have:(j:Int)<((l.getD i aK).aP.length:Int):=of_decide_eq_true h4; omega
     have hin:=hpi.2 ((l.getD i aK).aP.getD j 0) (jh 0 hjl);refine aO (by show 0≤(j:Int)∧(j:Int)<((l.getD i aK).aP.length:Int); omega) ?_;refine aO (by show 0≤(i:Int)∧(i:Int)<(((iN (l.take i)++mo (iN (l.take i)) ((l.getD i aK).aP.take j)::List.replicate (l.length - i - 1) 0).length:Nat):Int); simp [hfl]; omega) ?_;refine aO (by show 0≤(l.getD i aK).aP.getD j 0∧(l.getD i aK).aP.getD j 0<(((iN (l.take i)++mo (iN (l.take i)) ((l.getD i aK).aP.take j)::List.replicate (l.length - i - 1) 0).length:Nat):Int); rw [List.length_append,hfl,List.length_cons]; omega) ?_;refine aO (by show 0≤(i:Int)∧(i:Int)<(((iN (l.take i)++mo (iN (l.take i)) ((l.getD i aK).aP.take j)::List.replicate (l.length - i - 1) 0).length:Nat):Int); simp [hfl]; omega) ?_;refine aO (by show aG ((j:Int)+1); unfold aG; have:=hpi.1; omega) ?_;refine ih7 _ ⟨j+1,?_,hjl⟩ (by show ((l.getD i aK).aP.length - ((j:Int)+1)).toNat<((l.getD i aK).aP.length - (j:Int)).toNat; omega);have e:mo (iN (l.take i)) ((l.getD i aK).aP.take (j+1))=QO ((iN (l.take i)++mo (iN (l.take i)) ((l.getD i aK).aP.take j)::List.replicate (l.length - i - 1) 0).getD i 0) ((iN (l.take i)++mo (iN (l.take i)) ((l.getD i aK).aP.take j)::List.replicate (l.length - i - 1) 0).getD ((l.getD i aK).aP.getD j 0).toNat 0):=by
      rw [kI 0 hfl.symm,jO 0 om];unfold mo;rw [vJ _ _ 0 hjl]
     rw [e];have hs:=set_mid (iN (l.take i)) (mo (iN (l.take i)) ((l.getD i aK).aP.take j)) (QO ((iN (l.take i)++mo (iN (l.take i)) ((l.getD i aK).aP.take j)::List.replicate (l.length - i - 1) 0).getD i 0) ((iN (l.take i)++mo (iN (l.take i)) ((l.getD i aK).aP.take j)::List.replicate (l.length - i - 1) 0).getD ((l.getD i aK).aP.getD j 0).toNat 0)) (List.replicate (l.length - i - 1) 0);rw [hfl] at hs;rw [← hs];rfl
    ·have hje:j=(l.getD i aK).aP.length:=by have:¬ (j:Int)<((l.getD i aK).aP.length:Int):=of_decide_eq_false h4; omega
     subst hje;rw [List.take_length];have hpx:=hpm (l.getD i aK).aP;refine bJ ?_ ?_<;>intro h5
     ·have hlen:0≤(i:Int)∧(i:Int)<(((iN (l.take i)++mo (iN (l.take i)) (l.getD i aK).aP::List.replicate (l.length - i - 1) 0).length:Nat):Int):=by simp [hfl]; omega
      refine aO hlen ?_;refine aO (by show aG ((iN (l.take i)++mo (iN (l.take i)) (l.getD i aK).aP::List.replicate (l.length - i - 1) 0).getD i 0+1); rw [kI 0 hfl.symm]; unfold aG; omega) ?_;refine aO hlen ?_;have e:Kk (iN (l.take i)) (l.getD i aK)=(iN (l.take i)++mo (iN (l.take i)) (l.getD i aK).aP::List.replicate (l.length - i - 1) 0).getD i 0+1:=by
       rw [kI 0 hfl.symm];unfold Kk SV;rw [show ((l.getD i aK).gq==2||(l.getD i aK).gq==3)=true from h5];rfl
      have hs:=set_mid (iN (l.take i)) (mo (iN (l.take i)) (l.getD i aK).aP) (Kk (iN (l.take i)) (l.getD i aK)) (List.replicate (l.length - i - 1) 0);rw [hfl] at hs;rw [← hs,e] at hcut;exact hcut
     ·have e:Kk (iN (l.take i)) (l.getD i aK)=mo (iN (l.take i)) (l.getD i aK).aP:=by
       unfold Kk SV;rw [show ((l.getD i aK).gq==2||(l.getD i aK).gq==3)=false from h5];rfl
      rw [e] at hcut;exact hcut
   ·have hil:i=l.length:=by have:¬ (i:Int)<(l.length:Int):=of_decide_eq_false h3; omega
    subst hil;refine av ?_;rw [List.take_length] at hj2;unfold eD;rw [hb3,hall,decide_eq_false (show ¬ 4096<mO l by omega),any_none (p:=λ n=>decide (4<n)) 0 (by rw [(jW l).1]; exact hj3)];rfl
theorem afF {a b:Int} (ha:0≤a) (hb:0<b):jw b (a.tmod b)=jw a b:=by
 unfold jw;rw [Int.tmod_eq_emod_of_nonneg ha,show (a % b).toNat=a.toNat % b.toNat from Int.toNat_emod ha om,Nat.gcd_comm a.toNat,Nat.gcd_rec b.toNat a.toNat,Nat.gcd_comm]
theorem aaF {x M e:Int} (hM:0≤M) (he:0<e) (hx:0≤x) (h:x≤M.tdiv e):0≤x*e∧x*e≤M:=by
 rw [Int.tdiv_eq_ediv_of_nonneg hM] at h;exact ⟨Int.mul_nonneg hx om,(Int.le_ediv_iff_mul_le he).1 h⟩
theorem Wu {x y X Y:Int} (h1:0≤x) (h2:x≤X) (h3:0≤y) (h4:y≤Y):0≤y*x∧y*x≤Y*X:=
 ⟨Int.mul_nonneg h3 h1,Int.mul_le_mul h4 h2 h1 om⟩
theorem Am {a_:Int} {b_:Int} (h1:0≤a_) (h2:0≤b_):W (rX a_ b_) (λ r=>r=jw a_ b_):=by
 unfold rX;refine bI (λ (g1:Int×Int)=>0≤g1.1∧0≤g1.2∧jw g1.1 g1.2=jw a_ b_) (λ (g1:Int×Int)=>g1.2.toNat) ?_ ?_
 ·intro aj g1 dY bW;obtain ⟨dN,bO,bE⟩:=dY;unfold NP;refine wi ?_ ?_<;>intro c1
  ·refine wn<|bW _ ?_ ?_
   ·(refine ⟨ob,Int.tmod_nonneg _ om,?_⟩; dsimp only; rw [← bE]; exact afF om om)
   ·(dsimp only; have:=UC g1.1 g1.2 om; have:=Int.tmod_nonneg (a:=g1.1) g1.2 om; omega)
  ·refine av ?_;(rw [← bE]; unfold jw; have e:g1.2=0:=c1; rw [e]; simp; omega)
 ·exact ob
variable {r_:bL}
theorem DF:W (vL r_) (λ r=>r=qh r_):=by
 unfold vL;refine aF (gX λ hc=>l5 (Am (by have hc:=nr hc; omega) (by have hc:=nr hc; omega))) λ v1 hv1=>?_;subst v1;refine av ?_;rfl
theorem abK {QK:Int} {aam:Int} {qy:Int} (h1:0≤QK) (h2:QK≤144115188075855872) (h3:1≤aam) (h4:aam≤16777216) (h5:1≤qy) (h6:qy≤64):W (FD QK aam qy) (λ r=>r=(QK.tdiv (jw QK qy),aam*qy.tdiv (jw QK qy))):=by
 unfold FD;refine aF (Am ob ob) λ v1 hv1=>?_;subst v1;have hg:=Bj QK qy om; have q1:=tdiv_le QK _ om hg; have q2:=tdiv_le qy _ om hg; have q3:=Wu q2.1 (show qy.tdiv (jw QK qy)≤64 by omega) (show 0≤aam by omega) h4;refine wm<|wn ?_;refine av ?_;rfl
theorem aaG {xG:Int} {xH:Int} (h1:xG≤4611686018427387904) (h2:xH≤4611686018427387904):W (NQ xG xH) (λ r=>r=newR xG xH):=by
 unfold NQ;refine bJ ?_ ?_<;>intro c1
 ·have gQ:=c1;have c1:=nr c1;refine av ?_;(unfold newR; rw [gQ]; rfl)
 ·have gQ:=c1;have c1:=nr c1;have hg:=Bj xG xH om; have q1:=tdiv_le xG _ om hg; have q2:=tdiv_le xH _ om hg;refine aF (Am ob ob) λ v1 hv1=>?_;subst v1;refine wm<|aF (DF) λ v2 hv2=>?_;subst v2;refine bJ ?_ ?_<;>intro c2
  ·have kr:=c2;have c2:=nr c2;refine av ?_;(unfold newR; rw [gQ]; simp only [cond_false]; rw [kr]; rfl)
  ·have kr:=c2;have c2:=nr c2;refine av ?_;(unfold newR; rw [gQ]; simp only [cond_false]; rw [kr]; rfl)
theorem abL {pU:Int} {pV:Int} {pW:Int} (h1:r_.j5=pU) (h2:r_.jr=pV) (h3:k_=pW):W (FE r_ k_ pU pV pW) (λ r=>r=Bl r_ k_):=by
 subst h1 h2 h3;unfold FE;refine aF (DF) λ v1 hv1=>?_;subst v1;refine bJ ?_ ?_<;>intro c1
 ·have gQ:=c1;have c1:=nr c1;refine av ?_;(unfold Bl; rw [gQ]; rfl)
 ·have gQ:=c1;have c1:=nr c1;have hv:=mM (r:=r_) (by simpa using gQ);refine wi ?_ ?_<;>intro c2
  ·refine av ?_;(unfold Bl yt; rw [gQ]; simp only [cond_false]; rw [show (!(decide (1≤k_)&&decide (k_≤64)))=true by simp; omega]; rfl)
  ·refine aF (abK ob ob ob ob ob ob) λ v2 hv2=>?_;subst v2;have hg:=Bj r_.j5 k_ om; have q1:=tdiv_le r_.j5 _ hv.1 hg; have q2:=tdiv_le k_ _ om hg; have q3:=Wu q2.1 (show k_.tdiv (jw r_.j5 k_)≤64 by omega) (show 0≤r_.jr by omega) hv.2.2.2.1;refine aF (aaG ob ob) λ v3 hv3=>?_;subst v3;refine av ?_;(unfold Bl yt; rw [gQ]; simp only [cond_false]; rw [show (!(decide (1≤k_)&&decide (k_≤64)))=false by simp; omega]; exact ajA _ _ _ hv.1 om om)
theorem X5:W (Ij r_ k_) (λ r=>r=Bl r_ k_):=by
 unfold Ij;refine aF (abL rfl rfl rfl) λ v1 hv1=>?_;subst v1;refine av ?_;rfl
theorem aaH {iQ:Int} {BK:Int} {vM:Int} (h1:1≤iQ) (h2:iQ≤64) (h3:0≤BK) (h4:BK≤144115188075855872) (h5:1≤vM) (h6:vM≤16777216):W (C8 iQ BK vM) (λ r=>r=(bif decide ((144115188075855872:Int).tdiv (iQ.tdiv (jw iQ vM))<BK) then (-1,1) else (BK*(iQ.tdiv (jw iQ vM)),vM.tdiv (jw iQ vM)))):=by
 unfold C8;refine aF (Am ob ob) λ v1 hv1=>?_;subst v1;have hg:=Bj iQ vM om; have q1:=tdiv_le iQ _ om hg; have q2:=tdiv_le vM _ om hg; have q4:=ap9 iQ vM om om; have q5:=tdiv_le 144115188075855872 _ om (show 0<iQ.tdiv (jw iQ vM) by omega);refine wm<|bJ ?_ ?_<;>intro c1
 ·have gQ:=c1;have c1:=nr c1;refine av ?_;(rw [gQ]; rfl)
 ·have gQ:=c1;have c1:=nr c1;have q3:=aaF (x:=BK) (M:=144115188075855872) (e:=iQ.tdiv (jw iQ vM)) om om om c1;refine wm<|wn ?_;refine av ?_;(rw [gQ]; rfl)
theorem Wv {pU:Int} {pV:Int} {pW:Int} (h1:k_=pU) (h2:r_.j5=pV) (h3:r_.jr=pW):W (xI r_ k_ pU pV pW) (λ r=>r=qV r_ k_):=by
 subst h1 h2 h3;unfold xI;refine aF (DF) λ v1 hv1=>?_;subst v1;refine bJ ?_ ?_<;>intro c1
 ·have gQ:=c1;have c1:=nr c1;refine av ?_;(unfold qV; rw [gQ]; rfl)
 ·have gQ:=c1;have c1:=nr c1;have hv:=mM (r:=r_) (by simpa using gQ);refine wi ?_ ?_<;>intro c2
  ·refine av ?_;(unfold qV yt; rw [gQ]; simp only [cond_false]; rw [show (!(decide (1≤k_)&&decide (k_≤64)))=true by simp; omega]; rfl)
  ·refine aF (aaH ob ob ob ob ob ob) λ v2 hv2=>?_;subst v2;have hg:=Bj k_ r_.jr om; have q1:=tdiv_le k_ _ om hg; have q2:=tdiv_le r_.jr _ om hg; have q4:=ap9 k_ r_.jr om om; have q3:=Wu (show 0≤k_.tdiv (jw k_ r_.jr) by omega) q4.2 hv.1 hv.2.1; have q6:∀M:Int,M.tdiv (k_.tdiv (jw k_ r_.jr))<r_.j5∨r_.j5≤M.tdiv (k_.tdiv (jw k_ r_.jr)):=λ M=>by omega
   refine aF (aaG (by cases hd:decide ((144115188075855872:Int).tdiv (k_.tdiv (jw k_ r_.jr))<r_.j5) with | true=>(simp only [cond_true]; omega) | false=>(have q7:=aaF (x:=r_.j5) (M:=144115188075855872) (e:=k_.tdiv (jw k_ r_.jr)) om om om (by have:=of_decide_eq_false hd; omega); simp only [cond_false]; omega)) (by cases hd:decide ((144115188075855872:Int).tdiv (k_.tdiv (jw k_ r_.jr))<r_.j5) with | true=>(simp only [cond_true]; omega) | false=>(have q7:=aaF (x:=r_.j5) (M:=144115188075855872) (e:=k_.tdiv (jw k_ r_.jr)) om om om (by have:=of_decide_eq_false hd; omega); simp only [cond_false]; omega))) λ v3 hv3=>?_;subst v3;refine av ?_;(unfold qV yt; rw [gQ]; simp only [cond_false]; rw [show (!(decide (1≤k_)&&decide (k_≤64)))=false by simp; omega]; simp only [cond_false]; cases hd:decide ((144115188075855872:Int).tdiv (k_.tdiv (jw k_ r_.jr))<r_.j5)<;>rfl)
theorem UG:W (Ec r_ k_) (λ r=>r=qV r_ k_):=by
 unfold Ec;refine aF (Wv rfl rfl rfl) λ v1 hv1=>?_;subst v1;refine av ?_;rfl
theorem GR {C9:Int} {oP:Int}:W (wC r_ C9 oP) (λ r=>r=oH r_ C9 oP):=by
 unfold wC;refine aF (DF) λ v1 hv1=>?_;subst v1;refine bJ ?_ ?_<;>intro c1
 ·have gQ:=c1;have c1:=nr c1;refine av ?_;(unfold oH; rw [show qh r_=false by simpa using gQ]; rfl)
 ·have gQ:=c1;have c1:=nr c1;have hv:=mM (r:=r_) (by simpa using gQ); have q1:=tdiv_le r_.j5 r_.jr hv.1 om;refine wm<|av ?_;(unfold oH; rw [show qh r_=true by simpa using gQ]; rfl)
theorem Ja {m:List bN} (h:kM l m=true):∀x∈m,MS l.length x=false:=λ x hx=>by
 obtain ⟨_,_,h1⟩:=yx h;obtain ⟨i,hi,rfl⟩:=List.mem_iff_getElem.1 hx;have:=h1 i hi;rwa [List.getD_eq_getElem?_getD,List.getElem?_eq_getElem hi] at this
theorem qQ {v:bL} {L:List bL} (hL:L=qW l s i++List.replicate (l.length - i) dS) (hi:i<l.length) (e:X4 (qW l s i) (l.getD i aK) (s.getD i 0)=v) {k:Nat} (hk:k=i+1:=by omega):L.set i v=qW l s k++List.replicate (l.length - k) dS:=by
 subst hk hL;have hrl:=sM l s i;have hrep:List.replicate (l.length - i) dS=dS::List.replicate (l.length - (i+1)) dS:=by
  rw [show l.length - i=(l.length - (i+1))+1 by omega];rfl
 rw [hrep,List.set_append_right _ _ om,hrl,Nat.sub_self,qW,e,List.append_assoc];rfl
theorem Ww {x_:bN} {qy:List aI} (h1:qy.length≤2000000):W (rW x_ qy) (λ r=>r=MS qy.length x_):=by
 unfold rW;refine wn<|aF (wQ (jX _ _ _)) λ v1 hv1=>?_;subst v1;refine aF (gX λ hc=>jX _ _ _) λ v2 hv2=>?_;subst v2;refine aF (gX λ hc=>jX _ _ _) λ v3 hv3=>?_;subst v3;refine av ?_;rfl
theorem zK {s_:List bN} {f_:List aI} (h1:s_.length≤2000000) (h2:f_.length≤2000000):W (lW s_ f_) (λ r=>r=s_.any (MS f_.length)):=
 wQ (RN (UA (p:=λ x=>rW x f_) (P:=MS f_.length) (λ x hx=>l5 (Ww h2)) om) (sK _ _))
variable {l_:List aI}
theorem O6 {m_:List bN} (h1:l_.length≤2000000) (h2:m_.length≤2000000):W (xD l_ m_) (λ r=>r=kM l_ m_):=by
 unfold xD;refine aF (wQ (uP ob)) λ v1 hv1=>?_;subst v1;refine aF (gX λ hc=>l5 (zK ob ob)) λ v2 hv2=>?_;subst v2;refine av ?_;rfl
variable {s_:List Int}
theorem BP (h1:l_.length≤2000000) (h2:s_.length≤2000000) (h3:afz l_):W (qO l_ s_) (λ r=>r=l6 l_ s_):=by
 unfold qO;refine bJ ?_ ?_<;>intro c1
 ·have gQ:=c1;have c1:=nr c1;refine av ?_;(unfold l6; rw [show ((s_.length:Int)==(l_.length:Int))=false by simpa using gQ]; rfl)
 ·have gQ:=c1;have c1:=nr c1;have he:((s_.length:Int)==(l_.length:Int))=true:=by simpa using gQ
  refine bI (λ (g1:Int)=>0≤g1∧g1≤s_.length∧(∀j:Nat,(j:Int)<g1→dL (s_.getD j 0) 0 ((l_.getD j aK).aN.length - 1)=true)) (λ (g1:Int)=>(s_.length - g1).toNat) ?_ ?_
  ·intro aj g1 dY bW;obtain ⟨dN,bO,bE⟩:=dY;unfold Ii;refine wi ?_ ?_<;>intro c2
   ·have hch:=h3 g1.toNat om;refine wm<|wn ?_;refine aF (wQ (jX _ _ _)) λ v3 hv3=>?_;subst v3;refine bJ ?_ ?_<;>intro c3
    ·have jJ:=c3;have c3:=nr c3;refine av ?_;(unfold l6; rw [he,yw (i:=g1.toNat) om (by simpa using jJ)]; rfl)
    ·have jJ:=c3;have c3:=nr c3;refine wn<|bW _ ?_ ?_
     ·(refine ⟨ob,ob,λ j hj=>?_⟩; by_cases q:j<g1.toNat; (exact bE j om); (have e:j=g1.toNat:=by omega); subst e; simpa using jJ)
     ·exact ob
   ·refine av ?_;(unfold l6; rw [he,Al λ j hj=>bE j om]; rfl)
  ·(refine ⟨ob,ob,λ j hj=>by omega⟩)
theorem O7 {jF:Int} (h1:0≤jF) (h2:jF<l_.length) (h3:jF<s_.length) (h4:aaC (l_.getD jF.toNat aK) (s_.getD jF.toNat 0)):W (xE l_ s_ jF) (λ r=>r=ko (l_.getD jF.toNat aK) (s_.getD jF.toNat 0)):=by
 have hp:=h4; unfold aaC at hp;unfold xE;refine wn<|bJ ?_ ?_<;>intro c1
 ·have gQ:=c1;have c1:=nr c1;refine av ?_;(unfold ko; rw [gQ]; rfl)
 ·have gQ:=c1;have c1:=nr c1;refine bJ ?_ ?_<;>intro c2
  ·have kr:=c2;have c2:=nr c2;refine wm<|wn ?_;refine av ?_;(unfold ko; rw [gQ,kr]; rfl)
  ·have kr:=c2;have c2:=nr c2;refine wn<|av ?_;(unfold ko; rw [gQ,kr]; rfl)
theorem RP (h1:Good l_ s_):W (FH l_ s_) (λ r=>r=gD l_ s_):=by
 obtain ⟨q1,q2,q3,q4,q5⟩:=h1;unfold FH;refine wn<|bI (λ (g1:Int×List bL)=>0≤g1.1∧g1.1≤l_.length∧g1.2=qW l_ s_ g1.1.toNat++List.replicate (l_.length - g1.1.toNat) dS) (λ (g1:Int×List bL)=>(l_.length - g1.1).toNat) ?_ ?_
 ·intro aj g1 dY bW;obtain ⟨dN,bO,bE⟩:=dY;unfold NR;refine wi ?_ ?_<;>intro c1
  ·have hlt:g1.1.toNat<l_.length:=om; have hch:=q3 _ hlt; have hpar:=q5 _ hlt; have hpc:=q4 _ hlt; have hrl:=sM l_ s_ g1.1.toNat; have hgl:g1.2.length=l_.length:=(by rw [bE,List.length_append,hrl,List.length_replicate]; omega);refine wm<|wn ?_;refine aF (O7 ob ob ob ob) λ v7 hv7=>?_;subst v7;refine bJ ?_ ?_<;>intro c2
   ·have kr:=c2;have c2:=nr c2;refine wm<|bW _ ?_ ?_
    ·(refine ⟨ob,ob,?_⟩; dsimp only; exact qQ bE om (by unfold X4; rw [kr]; rfl))
    ·exact ob
   ·have kr:=c2;have c2:=nr c2;have hget:g1.2.getD (ko (l_.getD g1.1.toNat aK) (s_.getD g1.1.toNat 0)).toNat dS=(qW l_ s_ g1.1.toNat).getD (ko (l_.getD g1.1.toNat aK) (s_.getD g1.1.toNat 0)).toNat dS:=by rw [bE]; exact jO _ om
    refine wn<|bJ ?_ ?_<;>intro c3
    ·have jJ:=c3;have c3:=nr c3;refine wm<|bW _ ?_ ?_
     ·(refine ⟨ob,ob,?_⟩; dsimp only; exact qQ bE om (by unfold X4; rw [kr,← hget,show (nR _||_)=true from jJ]; rfl))
     ·exact ob
    ·have jJ:=c3;have c3:=nr c3;refine bJ ?_ ?_<;>intro c4
     ·have sO:=c4;have c4:=nr c4;refine wn<|aF (X5) λ v8 vU=>?_;subst v8;refine wm<|bW _ ?_ ?_
      ·(refine ⟨ob,ob,?_⟩; dsimp only; exact qQ bE om (by unfold X4; rw [kr,← hget,show (nR _||_)=false from jJ,sO]; rfl))
      ·exact ob
     ·have sO:=c4;have c4:=nr c4;refine bJ ?_ ?_<;>intro c5
      ·have Bu:=c5;have c5:=nr c5;refine wn<|aF (UG) λ v9 Wx=>?_;subst v9;refine wm<|bW _ ?_ ?_
       ·(refine ⟨ob,ob,?_⟩; dsimp only; exact qQ bE om (by unfold X4; rw [kr,← hget,show (nR _||_)=false from jJ,sO,Bu]; rfl))
       ·exact ob
      ·have Bu:=c5;have c5:=nr c5;refine wm<|wn ?_;refine bW _ ?_ ?_
       ·(refine ⟨ob,ob,?_⟩; dsimp only; exact qQ bE om (by unfold X4; rw [kr,← hget,show (nR _||_)=false from jJ,sO,Bu]; rfl))
       ·exact ob
  ·refine av ?_;(rw [bE,show g1.1.toNat=l_.length by omega,Nat.sub_self]; simp [gD])
 ·(refine ⟨ob,ob,?_⟩; simp [qW])
theorem Yv {x_:bN} {qy:List bL} (h1:0≤x_.eZ) (h2:x_.eZ<qy.length):W (uJ x_ qy) (λ r=>r=S9 qy x_):=by
 unfold uJ;refine wm<|aF (gX λ hc=>l5 (GR)) λ v1 hv1=>?_;subst v1;refine av ?_;rfl
theorem wS {s_:List bN} {f_:List bL} (h1:s_.length≤2000000) (h2:∀x∈s_,0≤x.eZ∧x.eZ<f_.length):W (kg s_ f_) (λ r=>r=s_.any (S9 f_)):=
 wQ (RN (UA (p:=λ x=>uJ x f_) (P:=S9 f_) (λ x hx=>l5 (Yv (h2 x hx).1 (h2 x hx).2)) om) (sK _ _))
theorem abM {m_:List bN} (h1:l_.length≤2000000) (h2:s_.length≤2000000) (h3:m_.length≤2000000) (h4:afz l_):W (FN l_ s_ m_) (λ r=>r=fq l_ s_ m_):=by
 unfold FN;refine aF (O6 ob ob) λ v1 hv1=>?_;subst v1;refine aF (gX λ hc=>l5 (BP ob ob ob)) λ v2 hv2=>?_;subst v2;refine bJ ?_ ?_<;>intro c1
 ·have gQ:=c1;have c1:=nr c1;refine av ?_;(unfold fq; rw [show (kM l_ m_&&l6 l_ s_)=false from Bool.and_eq_false_iff.2 c1]; rfl)
 ·have gQ:=c1;have c1:=nr c1;have hls:kM l_ m_=true∧l6 l_ s_=true:=by simpa using gQ
  obtain ⟨hck,hml,hmb⟩:=yx hls.1;have hgd:=Qu (vB hck) hls.2;have hrl:(gD l_ s_).length=l_.length:=sM _ _ _;refine aF (RP ob) λ v3 hv3=>?_;subst v3;refine bI (λ (g1:Int)=>0≤g1∧g1≤l_.length∧(∀j:Nat,(j:Int)<g1→adR ((gD l_ s_).getD j dS) (l_.getD j aK)=false)) (λ (g1:Int)=>(l_.length - g1).toNat) ?_ ?_
  ·intro aj g1 dY bW;obtain ⟨dN,bO,bE⟩:=dY;unfold N7;refine wi ?_ ?_<;>intro c2
   ·refine wm<|wn ?_;refine aF (gX λ hc=>l5 (GR)) λ v6 hv6=>?_;subst v6;refine bJ ?_ ?_<;>intro c3
    ·have jJ:=c3;have c3:=nr c3;refine av ?_;(unfold fq; rw [hls.1,hls.2,show ownB l_ (gD l_ s_)=false from yw (i:=g1.toNat) om (by rw [show adR ((gD l_ s_).getD g1.toNat dS) (l_.getD g1.toNat aK)=true from jJ]; rfl)]; rfl)
    ·have jJ:=c3;have c3:=nr c3;refine wn<|bW _ ?_ ?_
     ·(refine ⟨ob,ob,λ j hj=>?_⟩; by_cases q:j<g1.toNat; (exact bE j om); (have e:j=g1.toNat:=by omega); subst e; exact jJ)
     ·exact ob
   ·refine aF (wS ob (λ x hx=>by rw [hrl]; exact (O5 (Ja hls.1 x hx)).1)) λ v7 hv7=>?_;subst v7;refine av ?_;(unfold fq; rw [hls.1,hls.2,show ownB l_ (gD l_ s_)=true from Al λ j hj=>by rw [bE j om]; rfl]; rfl)
  ·(refine ⟨ob,ob,λ j hj=>by omega⟩)
theorem abN (h1:l_.length≤2000000) (h2:s_.length≤2000000) (h3:afz l_):W (FI l_ s_) (λ r=>r=vT l_ s_):=by
 unfold FI;refine aF (wQ (uP ob)) λ v1 hv1=>?_;subst v1;refine bJ ?_ ?_<;>intro c1
 ·have gQ:=c1;have c1:=nr c1;refine av ?_;(unfold vT; rw [gQ]; rfl)
 ·have gQ:=c1;have c1:=nr c1;have hck:eD l_=0:=by simpa using gQ
  refine aF (BP ob ob ob) λ v2 hv2=>?_;subst v2;refine bJ ?_ ?_<;>intro c2
  ·have kr:=c2;have c2:=nr c2;refine av ?_;(unfold vT; rw [gQ,kr]; rfl)
  ·have kr:=c2;have c2:=nr c2;have hgd:=Qu (vB hck) (show l6 l_ s_=true by simpa using kr);refine aF (RP ob) λ v3 hv3=>?_;subst v3;refine av ?_;(unfold vT; rw [gQ,kr]; rfl)
end Go.Proofs.YtccjmcmolnbiiaaGreatDoor

/- An abstract machine over the model's code, that it is sound; models of the functions and their proofs. -/
import Derived.Test.YtccjmcmolnbiiaaGreatDoorA3
import Derived.Test.YtccjmcmolnbiiaaGreatDoorA4
set_option linter.unusedVariables false
set_option linter.unusedSimpArgs false
namespace Go.Ab
def XV {α:Type} (l:List α) (P:α→Bool):Int:=if l.any P then ((l.findIdx P:Nat):Int) else -1
variable {α:Type}
theorem uE (l:List α) (P:α→Bool):decide (0≤XV l P)=l.any P:=by
 unfold XV;cases l.any P<;>simp<;>omega
theorem aeP {l:List α} {P:α→Bool} {d:α} {i:Nat} (hi:i<l.length) (h:P (l.getD i d)=true):l.any P=true:=by
 rw [List.any_eq_true];refine ⟨l[i],List.getElem_mem hi,?_⟩;rw [List.getD_eq_getElem?_getD,List.getElem?_eq_getElem hi] at h;exact h
theorem any_take_succ (l:List α) (P:α→Bool) (d:α) {i:Nat} (hi:i<l.length):(l.take (i+1)).any P=((l.take i).any P||P (l.getD i d)):=by
 rw [List.take_add_one,List.any_append,List.getElem?_eq_getElem hi,List.getD_eq_getElem?_getD,List.getElem?_eq_getElem hi];simp
theorem ahx {l:List α} {P:α→Bool} {d:α} {g:Int} (h0:0≤g) (h1:g<l.length) (hb:(l.take g.toNat).any P=false) (hp:P (l.getD g.toNat d)=true):XV l P=g:=by
 have hi:g.toNat<l.length:=by omega
 unfold XV;rw [aeP hi hp,if_pos rfl];have:l.findIdx P=g.toNat:=by
  rw [List.findIdx_eq hi];constructor
  ·rw [List.getD_eq_getElem?_getD,List.getElem?_eq_getElem hi] at hp;exact hp
  ·intro j hj;have:=List.any_eq_false.1 hb (l[j]'om) (by
    rw [List.mem_take_iff_getElem]
    exact ⟨j,om,rfl⟩)
   simpa using this
 omega
theorem TV {l:List α} {d:α} {p:α→M Bool} {P:α→Bool} (hp:∀x∈l,p x (P x)) (hl:(l.length:Int)≤9223372036854775807):W (cO (λ (self:Int→M Int) g=>bif (decide (g<(l.length:Int))) then
  need (0≤g∧g<(l.length:Int))<|
  bnd (p (l.getD g.toNat d)) λ v3=>
  bif v3 then
   ret g
  else
   need (aF (g+(1:Int)))<|
   self (g+(1:Int))
 else
  ret (-1:Int)) (0:Int)) (λ r=>r=XV l P):=by
 refine bH (λ (g:Int)=>0≤g∧g≤l.length∧(l.take g.toNat).any P=false) (λ (g:Int)=>(l.length - g).toNat) ?_ ⟨om,om,by simp⟩;intro self g ⟨h0,h1,hb⟩ ih;refine bL ?_ ?_<;>intro c
 ·have c:=of_decide_eq_true c;refine aO ⟨h0,c⟩ ?_;have hi:g.toNat<l.length:=by omega
  have hm:l.getD g.toNat d∈l:=by
   rw [List.getD_eq_getElem?_getD,List.getElem?_eq_getElem hi];exact List.getElem_mem hi
  refine aH (yw (hp _ hm)) λ v hv=>?_;subst hv;refine bL ?_ ?_<;>intro c2
  ·exact av (ahx h0 c hb c2).symm
  ·refine aO (by unfold aF; omega) ?_;refine ih _ ⟨om,om,?_⟩ om;rw [show (g+1).toNat=g.toNat+1 by omega,any_take_succ l P d hi,hb,c2];rfl
 ·have c:=of_decide_eq_false c;refine av ?_;unfold XV;rw [show g.toNat=l.length by omega,List.take_length] at hb;rw [hb];rfl
theorem akk {l:List α} {d:α} {P:α→Bool} (hl:(l.length:Int)≤9223372036854775807):W (cO (λ (self:Int→M Int) g=>bif (decide (g<(l.length:Int))) then
  need (0≤g∧g<(l.length:Int))<|
  bif (P (l.getD g.toNat d)) then
   ret g
  else
   need (aF (g+(1:Int)))<|
   self (g+(1:Int))
 else
  ret (-1:Int)) (0:Int)) (λ r=>r=XV l P):=by
 refine bH (λ (g:Int)=>0≤g∧g≤l.length∧(l.take g.toNat).any P=false) (λ (g:Int)=>(l.length - g).toNat) ?_ ⟨om,om,by simp⟩;intro self g ⟨h0,h1,hb⟩ ih;refine bL ?_ ?_<;>intro c
 ·have c:=of_decide_eq_true c;refine aO ⟨h0,c⟩ ?_;have hi:g.toNat<l.length:=by omega
  refine bL ?_ ?_<;>intro c2
  ·exact av (ahx h0 c hb c2).symm
  ·refine aO (by unfold aF; omega) ?_;refine ih _ ⟨om,om,?_⟩ om;rw [show (g+1).toNat=g.toNat+1 by omega,any_take_succ l P d hi,hb,c2];rfl
 ·have c:=of_decide_eq_false c;refine av ?_;unfold XV;rw [show g.toNat=l.length by omega,List.take_length] at hb;rw [hb];rfl
theorem Rh {m:M Int} {v:Int} {b:Bool} (h:W m (λ r=>r=v)) (hb:decide (0≤v)=b):bnd m (λ v1=>ret (decide ((0:Int)≤v1))) b:=by
 refine lT (aH h λ v1 h1=>av ?_);subst h1;exact hb
theorem gV {A:Type} [Inhabited A] {c:Prop} {d:Decidable c} {m:M A} {v:A} (h:c→m v):W (grd c m) (λ r=>r=v):=⟨v,h,rfl⟩
theorem akl {R:Type} {F:(Int→M R)→Int→M R} {Q:R→Prop} (n:Nat) (inv:Nat→Prop) (h:∀(self:Int→M R) (i:Nat),i≤n→inv i→(i<n→inv (i+1)→W (self ((i:Int)+1)) Q)→W (F self (i:Int)) Q) (h0:inv 0):W (cO F (0:Int)) Q:=by
 refine bH (λ (g:Int)=>∃i:Nat,g=i∧i≤n∧inv i) (λ (g:Int)=>(n - g).toNat) ?_ ⟨0,rfl,Nat.zero_le _,h0⟩;rintro self g ⟨i,rfl,hi,hv⟩ ih;refine h self i hi hv λ h1 h2=>?_;exact ih _ ⟨i+1,by simp,h1,h2⟩ om
theorem akm {σ R:Type} {len:Nat} {B:Nat→(σ→M R)→σ→M R} {fin:σ→M R} {Q:R→Prop} (inv:Nat→σ→Prop) (h:∀(k:Nat) (self:σ→M R) (s:σ),k<len→inv k s→(∀s',inv (k+1) s'→W (self s') Q)→W (B k self s) Q) (hf:∀s,inv len s→W (fin s) Q) {s:σ} (h0:inv 0 s):W (abg len B fin len s) Q:=by
 have key:∀j s,j≤len→inv (len - j) s→W (abg len B fin j s) Q:=by
  intro j;induction j with
  | zero=>intro s _ hi; exact hf s hi
  | succ j ih=>
   intro s hj hi;refine h (len - (j+1)) _ s om hi λ s' hs=>ih s' om ?_;rwa [show len - (j+1)+1=len - j by omega] at hs
 exact key len s (Nat.le_refl _) (by rw [Nat.sub_self]; exact h0)
variable {p: Prop}
theorem nr {q: Prop} (h : p) (e : p = q := by (try simp only [Bool.and_eq_true, Bool.or_eq_true, Bool.and_eq_false_iff, Bool.or_eq_false_iff, decide_eq_true_eq, decide_eq_false_iff_not, Bool.not_eq_true', Bool.not_eq_false', beq_iff_eq, bne_iff_ne, ne_eq, beq_eq_false_iff_ne, bne_eq_false_iff_eq, Int.not_lt, Int.not_le, Bool.not_eq_true, Bool.not_eq_false]); try rfl) : q := e ▸ h
theorem ob (h : p := by
  intros; (try dsimp only); first
  | omega
  | (unfold aF; omega)
  | assumption
  | trivial
  | (simp only [aF, big, iP, List.length_take, List.length_drop, List.length_append, List.length_cons, List.length_nil, List.length_set, List.length_replicate, List.length_map, List.length_range]; omega)
  | (simp only [aF, big, List.length_take, List.length_drop, List.length_append, List.length_cons, List.length_nil, List.length_set, List.length_replicate] at *; omega)
  | (rw [Int.tmod_eq_emod_of_nonneg (by omega)]; (try simp only [List.length_cons, List.length_nil]); omega)
  | (repeat' apply And.intro) <;> first
    | omega
    | (unfold aF; omega)
    | assumption
    | trivial
    | (simp only [aF, big, iP, List.length_take, List.length_drop, List.length_append, List.length_cons, List.length_nil, List.length_set, List.length_replicate, List.length_map, List.length_range]; omega)
    | (simp only [aF, big, List.length_take, List.length_drop, List.length_append, List.length_cons, List.length_nil, List.length_set, List.length_replicate] at *; omega)
    | (rw [Int.tmod_eq_emod_of_nonneg (by omega)]; (try simp only [List.length_cons, List.length_nil]); omega)
    | ((simp only [List.forall_mem_append, List.forall_mem_singleton, List.forall_mem_cons, List.not_mem_nil, false_implies, implies_true, and_true]); done)
    | ((simp only [List.forall_mem_append, List.forall_mem_singleton, List.forall_mem_cons, List.not_mem_nil, false_implies, implies_true, and_true]); (repeat' apply And.intro) <;> first | omega | assumption | trivial | (simp only [aF, big, List.length_take, List.length_drop, List.length_append, List.length_cons, List.length_nil, List.length_set, List.length_replicate] at *; omega))
    | (simp_all; done)
    | (simp_all; omega)) : p := h
theorem wi {R : Type} {b : Bool} {q: Prop} {x y : M R} {Q : R → Prop} (h1 : p → W x Q) (h2 : q → W y Q) (e1 : (b = true) = p := by (try simp only [Bool.and_eq_true, Bool.or_eq_true, Bool.and_eq_false_iff, Bool.or_eq_false_iff, decide_eq_true_eq, decide_eq_false_iff_not, Bool.not_eq_true', Bool.not_eq_false', beq_iff_eq, bne_iff_ne, ne_eq, beq_eq_false_iff_ne, bne_eq_false_iff_eq, Int.not_lt, Int.not_le, Bool.not_eq_true, Bool.not_eq_false]); try rfl) (e2 : (b = false) = q := by (try simp only [Bool.and_eq_true, Bool.or_eq_true, Bool.and_eq_false_iff, Bool.or_eq_false_iff, decide_eq_true_eq, decide_eq_false_iff_not, Bool.not_eq_true', Bool.not_eq_false', beq_iff_eq, bne_iff_ne, ne_eq, beq_eq_false_iff_ne, bne_eq_false_iff_eq, Int.not_lt, Int.not_le, Bool.not_eq_true, Bool.not_eq_false]); try rfl) : W (cond b x y) Q := bL (λ c => h1 (e1 ▸ c)) (λ c => h2 (e2 ▸ c))
theorem wn {R : Type} {d : Decidable p} {m : M R} {Q : R → Prop} (h : W m Q) (hp : p := by exact ob) : W (need p m) Q := aO hp h
theorem wm {R : Type} {p': Prop} {d : Decidable p} {d' : Decidable p'} {m : M R} {Q : R → Prop} (h : W m Q) (hp : p := by exact ob) (hp' : p' := by exact ob) : W (need p (need p' m)) Q := aO hp (aO hp' h)
end Go.Ab
namespace Go.Proofs.YtccjmcmolnbiiaaGreatDoor
open Go.Ab
set_option maxRecDepth 100000
theorem TW (x n:Int) (h:0<n) : -n<x.tmod n∧x.tmod n<n:=by
 have h1:=Int.natAbs_tmod x n;have h2:=Nat.mod_lt x.natAbs (show 0<n.natAbs by omega);omega
theorem aeQ:∀(k i:Nat) (g:Nat→AV) (s:ByteArray),(Jg k i g s).size=s.size+k:=by
 intro k;induction k with
 | zero=>intro i g s; rfl
 | succ k ih=>intro i g s; unfold Jg; rw [ih,ByteArray.size_push]; omega
theorem agA (l:List Int):(strOf l).size=l.length:=by
 unfold strOf;rw [aeQ];simp
variable {α:Type} {i:Nat}
theorem ac3 {P:α→Prop} {l:List α} {y:α} (h:∀x∈l,P x) (hy:P y):∀x∈l.set i y,P x:=λ x hx=>by
 rcases List.mem_or_eq_of_mem_set hx with e | e
 ·exact h x e
 ·subst e; exact hy
structure amu (b:aS):Prop where
 ncl:b.bR.length≤5
 cl:∀c∈b.bR,c.aP.length≤2∧c.aM.length≤3
 nsu:b.bD.length≤3
 su:∀c∈b.bD,c.bJ.length≤3
 ngr:b.aR.ay.length≤5
 gr:∀c∈b.aR.ay,c.bS.length≤10∧c.ak.length≤2
 nre:b.aY.length≤4
 re:∀c∈b.aY,c.dY.length≤100
 ndo:b.cB.length≤4
theorem getD_in {l:List α} (d:α) (h:i<l.length):l.getD i d∈l:=by
 rw [List.getD_eq_getElem?_getD,List.getElem?_eq_getElem h];exact List.getElem_mem h
theorem aeR {l_:List Int}:W (PL l_) (λ r=>r.2=0∧r.1.length≤600):=by
 unfold PL;refine aO (by (split<;>omega)) ?_;refine av ?_;(simp only [List.length_take]; refine ⟨trivial,?_⟩; split<;>omega)
theorem aeS {x_:Int} {n_:Int} (h1:n_≤2000000):W (PN x_ n_) (λ r=>0≤r∧(0<n_→r<n_)∧(n_<1→r=0)):=by
 unfold PN;refine wi ?_ ?_<;>intro c1
 ·exact av<|ob
 ·refine wn<|aO (by (have:=TW x_ n_ om; unfold aF; omega)) ?_;refine wn<|av ?_;(have h:=TW x_ n_ om; have h2:=TW (x_.tmod n_+n_) n_ om; have h3:=Int.tmod_nonneg (a:=x_.tmod n_+n_) n_ om; omega)
variable {dF:dI}
theorem bW {n_:Int} (h1:n_≤2000000) (h2:0≤dF.At) (h3:dF.L.length≤600):W (eu n_ dF) (λ r=>0≤r.1∧(0<n_→r.1<n_)∧(n_<1→r.1=0)∧0≤r.2.At∧r.2.L.length≤600):=by
 unfold eu;refine wi ?_ ?_<;>intro c1
 ·exact av<|ob
 ·refine wm<|wn ?_;refine aH (aeS ob) λ v1 hv1=>?_;obtain ⟨Iu,BX,Iw⟩:=hv1;exact av<|ob
theorem nC {wB:Int} {yt:Int} (h1 : -2000000≤wB) (h2:yt≤100000) (h3:wB≤yt+1) (h4:yt - wB≤100000) (h5:0≤dF.At) (h6:dF.L.length≤600):W (jW wB yt dF) (λ r=>wB≤r.1∧(wB≤yt→r.1≤yt)∧(yt<wB→r.1=wB)∧0≤r.2.At∧r.2.L.length≤600):=by
 unfold jW;refine wm<|aH (bW ob ob ob) λ v1 hv1=>?_;obtain ⟨Iu,BX,Iw,Lx,Oh⟩:=hv1;refine wn<|av ?_;exact ob
theorem fZ {l_:List Int} (h1:0<l_.length) (h2:l_.length≤1000) (h3:0≤dF.At) (h4:dF.L.length≤600):W (ig l_ dF) (λ r=>(∃i:Nat,i<l_.length∧r.1=l_.getD i 0)∧0≤r.2.At∧r.2.L.length≤600):=by
 unfold ig;refine aH (bW ob ob ob) λ v1 hv1=>?_;obtain ⟨Iu,BX,Iw,Lx,Oh⟩:=hv1;refine wn<|av ?_;(exact ⟨⟨v1.1.toNat,om,rfl⟩,ob⟩)
theorem VN {l_:List ByteArray} (h1:0<l_.length) (h2:l_.length≤1000) (h3:0≤dF.At) (h4:dF.L.length≤600):W (xB l_ dF) (λ r=>(∃i:Nat,i<l_.length∧r.1=l_.getD i ByteArray.empty)∧0≤r.2.At∧r.2.L.length≤600):=by
 unfold xB;refine aH (bW ob ob ob) λ v1 hv1=>?_;obtain ⟨Iu,BX,Iw,Lx,Oh⟩:=hv1;refine wn<|av ?_;(exact ⟨⟨v1.1.toNat,om,rfl⟩,ob⟩)
theorem kL:W (oL) (λ r=>r=[({ data:=#[117,97,114,116] }:ByteArray),({ data:=#[115,112,105] }:ByteArray),({ data:=#[105,50,99] }:ByteArray),({ data:=#[112,119,109] }:ByteArray)]):=by
 unfold oL;refine av ?_;rfl
variable {k_:Int}
theorem VO {n_:Int} (h1:0≤n_) (h2:n_≤1000) (h3:1≤k_) (h4:k_≤100) (h5:0≤dF.At) (h6:dF.L.length≤600):W (kY n_ k_ dF) (λ r=>r.1.length≤n_.toNat∧(∀p∈r.1,0≤p∧p<n_)∧0≤r.2.At∧r.2.L.length≤600):=by
 unfold kY;refine bH (λ (g1:Int×List Int×Int×List Int)=>0≤g1.1∧g1.1≤n_∧0≤g1.2.2.1∧g1.2.1.length≤600∧(g1.2.2.2.length:Int)≤g1.1∧(∀p∈g1.2.2.2,0≤p∧p<n_)) (λ (g1:Int×List Int×Int×List Int)=>(n_ - g1.1).toNat) ?_ ?_
 ·intro aj g1 d9 bV;obtain ⟨dN,bO,bE,jA,BZ,LA⟩:=d9;unfold xw;refine wi ?_ ?_<;>intro c1
  ·refine aH (bW ob ob ob) λ v3 hv3=>?_;obtain ⟨aac,ab3,ab4,akn,apF⟩:=hv3;refine wn<|wi ?_ ?_<;>intro c2
   ·refine wm<|bV _ ?_ ?_
    ·exact ob
    ·exact ob
   ·refine wn<|bV _ ?_ ?_
    ·exact ob
    ·exact ob
  ·exact av<|ob
 ·exact ob
theorem R6 {jh:Int} (h1:0≤jh) (h2:jh≤100) (h3:0≤dF.At) (h4:dF.L.length≤600):W (sP jh dF) (λ r=>r.1.length≤jh.toNat∧(∀x∈r.1,x.dY.length≤100)∧0≤r.2.At∧r.2.L.length≤600):=by
 unfold sP;refine wn<|aH (bW ob ob ob) λ v1 hv1=>?_;obtain ⟨Iu,BX,Iw,Lx,Oh⟩:=hv1;refine bH (λ (g1:Int×List Int×Int×List eG)=>0≤g1.1∧0≤g1.2.2.1∧g1.2.1.length≤600∧(g1.2.2.2.length:Int)+g1.1≤jh∧(∀x∈g1.2.2.2,x.dY.length≤100)) (λ (g1:Int×List Int×Int×List eG)=>g1.1.toNat) ?_ ?_
 ·intro aj g1 d9 bV;obtain ⟨dN,bO,bE,jA,BZ⟩:=d9;unfold BR;refine wi ?_ ?_<;>intro c1
  ·refine aH (VO ob ob ob ob ob ob) λ v4 hv4=>?_;obtain ⟨ako,akp,ani,apG⟩:=hv4;refine wm<|bV _ ?_ ?_
   ·exact ob
   ·exact ob
  ·exact av<|ob
 ·exact ob
theorem Qm {jh:Int} (h1:0≤jh) (h2:jh≤50) (h3:0≤dF.At) (h4:dF.L.length≤600):W (qO jh dF) (λ r=>r.1.length≤jh.toNat∧0≤r.2.At∧r.2.L.length≤600):=by
 unfold qO;refine wn<|aH (bW ob ob ob) λ v1 hv1=>?_;obtain ⟨Iu,BX,Iw,Lx,Oh⟩:=hv1;refine bH (λ (g1:Int×List Int×Int×List dD)=>0≤g1.1∧0≤g1.2.2.1∧g1.2.1.length≤600∧(g1.2.2.2.length:Int)+g1.1≤jh) (λ (g1:Int×List Int×Int×List dD)=>g1.1.toNat) ?_ ?_
 ·intro aj g1 d9 bV;obtain ⟨dN,bO,bE,jA⟩:=d9;unfold Al;refine wi ?_ ?_<;>intro c1
  ·refine wn<|aH (nC ob ob ob ob ob ob) λ v6 hv6=>?_;obtain ⟨atp,atq,atr,att,atu⟩:=hv6;refine aH (bW ob ob ob) λ v7 hv7=>?_;obtain ⟨anj,apH,apI,atv,atw⟩:=hv7;refine wm<|bV _ ?_ ?_
   ·exact ob
   ·exact ob
  ·exact av<|ob
 ·exact ob
theorem R7 (h1:0≤dF.At) (h2:dF.L.length≤600):W (sN dF) (λ r=>r.1.length≤5∧(∀c∈r.1,c.aP.length≤2∧c.aM.length≤3)∧0≤r.2.At∧r.2.L.length≤600):=by
 unfold sN;refine aH (bW ob ob ob) λ v1 hv1=>?_;obtain ⟨Iu,BX,Iw,Lx,Oh⟩:=hv1;refine bH (λ (g1:Int×List Int×Int×List aI)=>0≤g1.1∧0≤g1.2.2.1∧g1.2.1.length≤600∧(g1.2.2.2.length:Int)+g1.1≤5∧(∀c∈g1.2.2.2,c.aP.length≤2∧c.aM.length≤3)) (λ (g1:Int×List Int×Int×List aI)=>g1.1.toNat) ?_ ?_
 ·intro aj g1 d9 bV;obtain ⟨dN,bO,bE,jA,BZ⟩:=d9;unfold BO;refine wi ?_ ?_<;>intro c1
  ·refine aH (fZ ob ob ob ob) λ v28 hv28=>?_;obtain ⟨aqL,aqM,aqN⟩:=hv28;refine wi ?_ ?_<;>intro c2
   ·refine aH (bW ob ob ob) λ v41 aqO=>?_;obtain ⟨aqP,aqQ,aqR,aqS,aqT⟩:=aqO;refine wi ?_ ?_<;>intro c3
    ·refine aH (bW ob ob ob) λ v42 aqU=>?_;obtain ⟨aqV,aqW,aqX,aqY,aqZ⟩:=aqU;refine aH (bW ob ob ob) λ v49 agB=>?_;obtain ⟨akq,akr,aks,akt,aku⟩:=agB;refine wi ?_ ?_<;>intro c4
     ·refine aH (fZ ob ob ob ob) λ v50 ac4=>?_;obtain ⟨aq0,aq1,aq2⟩:=ac4;unfold gK;refine aH (bW ob ob ob) λ v47 ac5=>?_;obtain ⟨ac6,ac7,ac8,ac9,ada⟩:=ac5;refine wi ?_ ?_<;>intro c5
      ·refine aH (fZ ob ob ob ob) λ v48 aad=>?_;obtain ⟨adb,ade,adf⟩:=aad;unfold eH;refine wm<|bV _ ?_ ?_
       ·exact ob
       ·exact ob
      ·unfold eH;refine wm<|bV _ ?_ ?_
       ·exact ob
       ·exact ob
     ·refine wi ?_ ?_<;>intro c6
      ·refine aH (fZ ob ob ob ob) λ v51 aob=>?_;obtain ⟨aq3,aq4,aq5⟩:=aob;unfold gK;refine aH (bW ob ob ob) λ v47 ac5=>?_;obtain ⟨ac6,ac7,ac8,ac9,ada⟩:=ac5;refine wi ?_ ?_<;>intro c7
       ·refine aH (fZ ob ob ob ob) λ v48 aad=>?_;obtain ⟨adb,ade,adf⟩:=aad;unfold eH;refine wm<|bV _ ?_ ?_
        ·exact ob
        ·exact ob
       ·unfold eH;refine wm<|bV _ ?_ ?_
        ·exact ob
        ·exact ob
      ·refine wi ?_ ?_<;>intro c8
       ·unfold gK;refine aH (bW ob ob ob) λ v47 ac5=>?_;obtain ⟨ac6,ac7,ac8,ac9,ada⟩:=ac5;refine wi ?_ ?_<;>intro c9
        ·refine aH (fZ ob ob ob ob) λ v48 aad=>?_;obtain ⟨adb,ade,adf⟩:=aad;unfold eH;refine wm<|bV _ ?_ ?_
         ·exact ob
         ·exact ob
        ·unfold eH;refine wm<|bV _ ?_ ?_
         ·exact ob
         ·exact ob
       ·refine wi ?_ ?_<;>intro c10
        ·refine wn<|aH (bW ob ob ob) λ v52 aq6=>?_;obtain ⟨aq7,aq8,aq9,ara,arb⟩:=aq6;refine wn ?_;unfold gK;refine aH (bW ob ob ob) λ v47 ac5=>?_;obtain ⟨ac6,ac7,ac8,ac9,ada⟩:=ac5;refine wi ?_ ?_<;>intro c11
         ·refine aH (fZ ob ob ob ob) λ v48 aad=>?_;obtain ⟨adb,ade,adf⟩:=aad;unfold eH;refine wm<|bV _ ?_ ?_
          ·exact ob
          ·exact ob
         ·unfold eH;refine wm<|bV _ ?_ ?_
          ·exact ob
          ·exact ob
        ·unfold gK;refine aH (bW ob ob ob) λ v47 ac5=>?_;obtain ⟨ac6,ac7,ac8,ac9,ada⟩:=ac5;refine wi ?_ ?_<;>intro c12
         ·refine aH (fZ ob ob ob ob) λ v48 aad=>?_;obtain ⟨adb,ade,adf⟩:=aad;unfold eH;refine wm<|bV _ ?_ ?_
          ·exact ob
          ·exact ob
         ·unfold eH;refine wm<|bV _ ?_ ?_
          ·exact ob
          ·exact ob
    ·unfold eH;refine wm<|bV _ ?_ ?_
     ·exact ob
     ·exact ob
   ·refine wn ?_;unfold eH;refine wm<|bV _ ?_ ?_
    ·exact ob
    ·exact ob
  ·exact av<|ob
 ·exact ob
theorem Oi (h1:0≤dF.At) (h2:dF.L.length≤600):W (pI dF) (λ r=>r.1.length≤3∧(∀c∈r.1,c.bJ.length≤3)∧0≤r.2.At∧r.2.L.length≤600):=by
 unfold pI;refine aH (bW ob ob ob) λ v1 hv1=>?_;obtain ⟨Iu,BX,Iw,Lx,Oh⟩:=hv1;refine bH (λ (g1:Int×List Int×Int×List aD)=>0≤g1.1∧0≤g1.2.2.1∧g1.2.1.length≤600∧(g1.2.2.2.length:Int)+g1.1≤3∧(∀c∈g1.2.2.2,c.bJ.length≤3)) (λ (g1:Int×List Int×Int×List aD)=>g1.1.toNat) ?_ ?_
 ·intro aj g1 d9 bV;obtain ⟨dN,bO,bE,jA,BZ⟩:=d9;unfold yM;refine wi ?_ ?_<;>intro c1
  ·refine wn<|aH (nC ob ob ob ob ob ob) λ v12 aae=>?_;obtain ⟨ard,arf,arh,ari,arj⟩:=aae;refine aH (fZ ob ob ob ob) λ v13 R8=>?_;obtain ⟨ark,arl,arn⟩:=R8;refine aH (fZ ob ob ob ob) λ v14 TY=>?_;obtain ⟨aro,arp,arq⟩:=TY;refine aH (bW ob ob ob) λ v15 T9=>?_;obtain ⟨ars,aru,arv,arw,arx⟩:=T9;refine wi ?_ ?_<;>intro c2
   ·unfold kg;refine aH (bW ob ob ob) λ v16 agC=>?_;obtain ⟨aoc,aod,aoe,aof,aog⟩:=agC;refine wn<|wi ?_ ?_<;>intro c3
    ·refine wm<|bV _ ?_ ?_
     ·exact ob
     ·exact ob
    ·refine wi ?_ ?_<;>intro c4
     ·refine wm<|bV _ ?_ ?_
      ·exact ob
      ·exact ob
     ·refine wi ?_ ?_<;>intro c5
      ·refine wm<|bV _ ?_ ?_
       ·exact ob
       ·exact ob
      ·refine wi ?_ ?_<;>intro c6
       ·refine wm<|bV _ ?_ ?_
        ·exact ob
        ·exact ob
       ·refine wm<|bV _ ?_ ?_
        ·exact ob
        ·exact ob
   ·unfold kg;refine aH (bW ob ob ob) λ v16 agC=>?_;obtain ⟨aoc,aod,aoe,aof,aog⟩:=agC;refine wn<|wi ?_ ?_<;>intro c7
    ·refine wm<|bV _ ?_ ?_
     ·exact ob
     ·exact ob
    ·refine wi ?_ ?_<;>intro c8
     ·refine wm<|bV _ ?_ ?_
      ·exact ob
      ·exact ob
     ·refine wi ?_ ?_<;>intro c9
      ·refine wm<|bV _ ?_ ?_
       ·exact ob
       ·exact ob
      ·refine wi ?_ ?_<;>intro c10
       ·refine wm<|bV _ ?_ ?_
        ·exact ob
        ·exact ob
       ·refine wm<|bV _ ?_ ?_
        ·exact ob
        ·exact ob
  ·exact av<|ob
 ·exact ob
theorem R9 (h1:0≤dF.At) (h2:dF.L.length≤600):W (sO dF) (λ r=>r.1.ay.length≤5∧(∀c∈r.1.ay,c.bS.length≤10∧c.ak.length≤2)∧0≤r.2.At∧r.2.L.length≤600):=by
 unfold sO;refine aH (nC ob ob ob ob ob ob) λ v1 hv1=>?_;obtain ⟨Iu,BX,Iw,Lx,Oh⟩:=hv1;refine aH (bW ob ob ob) λ v2 hv2=>?_;obtain ⟨aeT,ahy,akv,apJ,atx⟩:=hv2;refine bH (λ (g1:Int×List Int×Int×List cK)=>0≤g1.1∧0≤g1.2.2.1∧g1.2.1.length≤600∧(g1.2.2.2.length:Int)+g1.1≤5∧(∀c∈g1.2.2.2,c.bS.length≤10∧c.ak.length≤2)) (λ (g1:Int×List Int×Int×List cK)=>g1.1.toNat) ?_ ?_
 ·intro aj g1 d9 bV;obtain ⟨dN,bO,bE,jA,BZ⟩:=d9;unfold BQ;refine wi ?_ ?_<;>intro c1
  ·refine wn<|aO (by (rw [agA,show ({ data:=#[103] }:ByteArray).size=1 from rfl]; simp only [List.length_cons,List.length_nil]; omega)) ?_;refine aH (bW ob ob ob) λ v35 aoh=>?_;obtain ⟨arz,arA,arB,arC,arD⟩:=aoh;refine bH (λ (g12:Int×List Int×Int×List Int)=>0≤g12.1∧0≤g12.2.2.1∧g12.2.1.length≤600∧(g12.2.2.2.length:Int)≤g12.1∧g12.1≤10) (λ (g12:Int×List Int×Int×List Int)=>(10 - g12.1).toNat) ?_ ?_
   ·intro agx g12 apK apL;obtain ⟨arE,arF,arG,arH,arI⟩:=apK;unfold BP;refine wi ?_ ?_<;>intro c2
    ·refine aH (nC ob ob ob ob ob ob) λ v38 hv38=>?_;obtain ⟨arJ,arK,arL,arM,arN⟩:=hv38;refine wn<|wi ?_ ?_<;>intro c3
     ·refine wm<|apL _ ?_ ?_
      ·exact ob
      ·exact ob
     ·refine wi ?_ ?_<;>intro c4
      ·unfold kX;refine aH (bW ob ob ob) λ v39 hv39=>?_;obtain ⟨aoi,aoj,aok,aol,aom⟩:=hv39;refine aH (kL) λ v40 akw=>?_;subst akw;refine wn<|aH (bW ob ob ob) λ v43 akx=>?_;obtain ⟨aon,aoo,aop,aoq,aor⟩:=akx;refine wi ?_ ?_<;>intro c5
       ·refine aH (kL) λ v44 aky=>?_;subst aky;refine wm<|wm ?_;unfold jf;refine wm<|bV _ ?_ ?_
        ·exact ob
        ·exact ob
       ·unfold jf;refine wm<|bV _ ?_ ?_
        ·exact ob
        ·exact ob
      ·unfold kX;refine aH (bW ob ob ob) λ v39 hv39=>?_;obtain ⟨aoi,aoj,aok,aol,aom⟩:=hv39;refine aH (kL) λ v40 akw=>?_;subst akw;refine wn<|aH (bW ob ob ob) λ v43 akx=>?_;obtain ⟨aon,aoo,aop,aoq,aor⟩:=akx;refine wi ?_ ?_<;>intro c6
       ·refine aH (kL) λ v44 aky=>?_;subst aky;refine wm<|wm ?_;unfold jf;refine wm<|bV _ ?_ ?_
        ·exact ob
        ·exact ob
       ·unfold jf;refine wm<|bV _ ?_ ?_
        ·exact ob
        ·exact ob
    ·refine wn<|wi ?_ ?_<;>intro c7
     ·unfold jQ;refine aH (bW ob ob ob) λ v45 akz=>?_;obtain ⟨aos,aot,aou,aov,aow⟩:=akz;refine aH (kL) λ v46 agD=>?_;subst agD;refine wn<|aH (bW ob ob ob) λ v49 agB=>?_;obtain ⟨akq,akr,aks,akt,aku⟩:=agB;refine wi ?_ ?_<;>intro c8
      ·refine aH (kL) λ v50 ac4=>?_;subst ac4;refine wm<|wm ?_;unfold iJ;refine wm<|bV _ ?_ ?_
       ·exact ob
       ·exact ob
      ·unfold iJ;refine wm<|bV _ ?_ ?_
       ·exact ob
       ·exact ob
     ·unfold jQ;refine aH (bW ob ob ob) λ v45 akz=>?_;obtain ⟨aos,aot,aou,aov,aow⟩:=akz;refine aH (kL) λ v46 agD=>?_;subst agD;refine wn<|aH (bW ob ob ob) λ v49 agB=>?_;obtain ⟨akq,akr,aks,akt,aku⟩:=agB;refine wi ?_ ?_<;>intro c9
      ·refine aH (kL) λ v50 ac4=>?_;subst ac4;refine wm<|wm ?_;unfold iJ;refine wm<|bV _ ?_ ?_
       ·exact ob
       ·exact ob
      ·unfold iJ;refine wm<|bV _ ?_ ?_
       ·exact ob
       ·exact ob
   ·exact ob
  ·exact av<|ob
 ·exact ob
theorem Ua (h1:0≤dF.At) (h2:dF.L.length≤600):W (uQ dF) (λ r=>amu r.1∧0≤r.2.At∧r.2.L.length≤600):=by
 unfold uQ;refine aH (R7 ob ob) λ v1 hv1=>?_;obtain ⟨Iu,BX,Iw,Lx⟩:=hv1;refine aH (Oi ob ob) λ v2 hv2=>?_;obtain ⟨aeT,ahy,akv,apJ⟩:=hv2;refine aH (R9 ob ob) λ v3 hv3=>?_;obtain ⟨aac,ab3,ab4,akn⟩:=hv3;refine aH (R6 ob ob ob ob) λ v4 hv4=>?_;obtain ⟨ako,akp,ani,apG⟩:=hv4;refine aH (Qm ob ob ob ob) λ v5 hv5=>?_;obtain ⟨aty,atz,atA⟩:=hv5;refine av ?_;(refine ⟨⟨ob,BX,ob,ahy,ob,ab3,ob,akp,ob⟩,ob,ob⟩)
deriving instance DecidableEq for aI,bK,bM
def dK (n lo hi:Int):Bool:=decide (lo≤n)&&decide (n≤hi)
def xJ (lo hi:Int):List Int→List Int→Bool
 | _,[]=>true
 | pre,n::r=>bif !(dK n lo hi)||pre.contains n then false else xJ lo hi (pre++[n]) r
variable {lo:Int} {hi:Int}
theorem YX {n:Int} {pre r:List Int} (h:(!(dK n lo hi)||pre.contains n)=true):xJ lo hi pre (n::r)=false:=by rw [xJ,h]; rfl
theorem adg {n:Int} {pre r:List Int} (h:(!(dK n lo hi)||pre.contains n)=false):xJ lo hi pre (n::r)=xJ lo hi (pre++[n]) r:=by rw [xJ,h]; rfl
def jv (a b:Int):Int:=(Nat.gcd a.toNat b.toNat:Nat)
def pJ (r:bK):Bool:=decide (0≤r.jX)&&decide (r.jX≤144115188075855872)&&decide (1≤r.jm)&&decide (r.jm≤16777216)&&(jv r.jX r.jm==1)
def newR (num den:Int):bK×Int:=bif decide (num<0)||decide (den<1) then (⟨0,0⟩,2) else
 bif !pJ ⟨num.tdiv (jv num den),den.tdiv (jv num den)⟩ then (⟨0,0⟩,2) else (⟨num.tdiv (jv num den),den.tdiv (jv num den)⟩,0)
theorem Ay (a b:Int) (h:0<b):0<jv a b:=by
 unfold jv;have:0<b.toNat:=by omega
 have:=Nat.gcd_pos_of_pos_right a.toNat this;omega
theorem tdiv_le (a k:Int) (ha:0≤a) (hk:0<k):0≤a.tdiv k∧a.tdiv k≤a:=by
 rw [Int.tdiv_eq_ediv_of_nonneg ha];exact ⟨Int.ediv_nonneg ha om,Int.ediv_le_self _ ha⟩
def xK (k:Int):Bool:=decide (1≤k)&&decide (k≤64)
def qG (r:bK) (k:Int):bK×Int:=bif !pJ r then (⟨0,0⟩,1) else bif !xK k then (⟨0,0⟩,2) else
 bif decide ((144115188075855872:Int).tdiv (k.tdiv (jv k r.jm))<r.jX) then (⟨0,0⟩,2) else newR (r.jX*(k.tdiv (jv k r.jm))) (r.jm.tdiv (jv k r.jm))
def Az (r:bK) (k:Int):bK×Int:=bif !pJ r then (⟨0,0⟩,1) else bif !xK k then (⟨0,0⟩,2) else newR r.jX (r.jm*k)
theorem mD {r:bK} (h:pJ r=true):0≤r.jX∧r.jX≤144115188075855872∧1≤r.jm∧r.jm≤16777216∧jv r.jX r.jm=1:=by
 unfold pJ at h;simp at h;omega
theorem aox (k d:Int) (hk:1≤k∧k≤64) (hd:1≤d):1≤k.tdiv (jv k d)∧k.tdiv (jv k d)≤64:=by
 have hg:=Ay k d om;have h1:=tdiv_le k (jv k d) om hg;have hdvd:Nat.gcd k.toNat d.toNat∣k.toNat:=Nat.gcd_dvd_left _ _;have h2:0<k.toNat / Nat.gcd k.toNat d.toNat:=Nat.div_pos (Nat.le_of_dvd om hdvd) (by unfold jv at hg; omega);have h3:k.tdiv (jv k d)=((k.toNat / Nat.gcd k.toNat d.toNat:Nat):Int):=by
  unfold jv;rw [Int.tdiv_eq_ediv_of_nonneg om];have:k=(k.toNat:Int):=by omega
  rw [Int.natCast_ediv,← this]
 omega
theorem aiv (a b:Int) (ha:0≤a) (hb:1≤b) (h:a≤(144115188075855872:Int).tdiv b):0≤a*b∧a*b≤144115188075855872:=by
 rw [Int.tdiv_eq_ediv_of_nonneg (by decide)] at h;have:=(Int.le_ediv_iff_mul_le om).1 h;exact ⟨Int.mul_nonneg ha om,this⟩
theorem Ub (c a b:Nat) (hc:0<c) (hb:0<b):newR (c*a:Nat) (c*b:Nat)=newR a b:=by
 have hcb:0<c*b:=Nat.mul_pos hc hb;have g0:0<Nat.gcd a b:=Nat.gcd_pos_of_pos_right a hb;have e1:jv (c*a:Nat) (c*b:Nat)=((c*Nat.gcd a b:Nat):Int):=by
  unfold jv;rw [Int.toNat_natCast,Int.toNat_natCast,Nat.gcd_mul_left]
 have e2:jv (a:Nat) (b:Nat)=(Nat.gcd a b:Nat):=by
  unfold jv;rw [Int.toNat_natCast,Int.toNat_natCast]
 have d:∀x:Nat,((c*x:Nat):Int).tdiv ((c*Nat.gcd a b:Nat):Int)=(x:Int).tdiv (Nat.gcd a b:Nat):=by
  intro x;rw [← Int.ofNat_tdiv,← Int.ofNat_tdiv,Nat.mul_div_mul_left _ _ hc]
 unfold newR;have c1:(decide (((c*a:Nat):Int)<0)||decide (((c*b:Nat):Int)<1))=false:=by
  have h1:¬ (((c*b:Nat):Int)<1):=Int.not_lt.2 (Int.ofNat_le.2 hcb);rw [decide_eq_false (Int.not_lt.2 (Int.natCast_nonneg _)),decide_eq_false h1];rfl
 have c2:(decide ((a:Int)<0)||decide ((b:Int)<1))=false:=by simp; omega
 rw [c1,c2,e1,e2,d a,d b]
theorem aiw (num den k:Int) (hn:0≤num) (hd:1≤den) (hk:1≤k):newR (num.tdiv (jv num k)) (den*(k.tdiv (jv num k)))=newR num (den*k):=by
 obtain ⟨n,rfl⟩:=Int.eq_ofNat_of_zero_le hn;obtain ⟨d,rfl⟩:=Int.eq_ofNat_of_zero_le (show 0≤den by omega);obtain ⟨k,rfl⟩:=Int.eq_ofNat_of_zero_le (show 0≤k by omega);have hg:jv (n:Nat) (k:Nat)=(Nat.gcd n k:Nat):=by unfold jv; rw [Int.toNat_natCast,Int.toNat_natCast]
 rw [hg,← Int.ofNat_tdiv,← Int.ofNat_tdiv];have g0:0<Nat.gcd n k:=Nat.gcd_pos_of_pos_right n om;obtain ⟨a,ha⟩:=Nat.gcd_dvd_left n k;obtain ⟨b,hb⟩:=Nat.gcd_dvd_right n k;have e1:n / Nat.gcd n k=a:=by rw [Nat.div_eq_of_eq_mul_right g0 ha]
 have e2:k / Nat.gcd n k=b:=by rw [Nat.div_eq_of_eq_mul_right g0 hb]
 rw [e1,e2];have hb0:0<b:=by
  rcases Nat.eq_zero_or_pos b with h | h
  ·rw [h] at hb; simp at hb; omega
  ·exact h
 have:=Ub (Nat.gcd n k) a (d*b) g0 (Nat.mul_pos om hb0);rw [← ha] at this;have e3:Nat.gcd n k*(d*b)=d*k:=by
  rw [Nat.mul_left_comm,← hb]
 rw [e3] at this;rw [← Int.natCast_mul,← Int.natCast_mul];exact this.symm
def t1 (r:bK) (k:Int):Int×Int:=bif decide ((144115188075855872:Int).tdiv (k.tdiv (jv k r.jm))<r.jX) then (-1,1) else (r.jX*(k.tdiv (jv k r.jm)),r.jm.tdiv (jv k r.jm))
def nV (r:bK) (lo hi:Int):Bool:=pJ r&&(decide (lo≤r.jX.tdiv r.jm)&&(decide (r.jX.tdiv r.jm<hi)||(r.jX.tdiv r.jm==hi&&r.jX.tmod r.jm==0)))
def Sb (c:aI):Bool:=decide (8<(c.aP.length:Int))||decide (8<(c.aM.length:Int))
def Ma (n:Int) (x:bM):Bool:=!dK x.eZ 0 (n - 1)||!dK x.fO 0 4000000000||!dK x.Low 0 x.fO
def iW (c:aI):Bool:=
 bif c.fV==1 then ((c.aP.length:Int)==0)&&((c.aM.length:Int)==1)&&dK (c.aM.getD 0 0) 1 4000000000
 else bif c.fV==2||c.fV==3 then ((c.aP.length:Int)==1)&&decide (0<(c.aM.length:Int))&&xJ 1 64 [] c.aM
 else bif c.fV==4 then decide (0<(c.aM.length:Int))&&xJ 0 ((c.aP.length:Int) - 1) [] c.aM
 else bif c.fV==5 then ((c.aP.length:Int)==1)&&(c.aM==[0,1])
 else false
def kZ (c:aI) (k:Int):Bool:=bif c.aP.any (λ y=>!dK y 0 (k - 1))||!dK c.fO 0 4000000000||!dK c.Low 0 c.fO then false else iW c
theorem amv (l:List Int) (hi:Int) (h:xJ 0 hi [] l=true) (hl:0<l.length):0≤hi:=by
 cases l with
 | nil=>simp at hl
 | cons n l=>
  cases hw:dK n 0 hi with
  | true=>simp [dK] at hw; omega
  | false=>
   rw [YX (by rw [hw]; rfl)] at h;cases h
def Qn (a b:Int):Int:=if b > a then b else a
def Sc (c:aI):Bool:=c.fV==2||c.fV==3
def l5 (acc:List Int) (l:List Int):Int:=l.foldl (λ n p=>Qn n (acc.getD p.toNat 0)) 0
def JL (acc:List Int) (c:aI):Int:=bif Sc c then l5 acc c.aP+1 else l5 acc c.aP
def iH (l:List aI):List Int:=l.foldl (λ acc c=>acc++[JL acc c]) []
theorem Dl (l:List aI) (c:aI):iH (l++[c])=iH l++[JL (iH l) c]:=by
 unfold iH;rw [List.foldl_append];rfl
def ahz (l:List aI):Prop:=∀i,i<l.length→(l.getD i aK).aP.length≤2000000∧∀p∈(l.getD i aK).aP,0≤p∧p<i
theorem JM (acc:List Int) (b:Int) (hb0:0≤b) (hb:∀j:Nat,0≤acc.getD j 0∧acc.getD j 0≤b) (l:List Int):0≤l5 acc l∧l5 acc l≤b:=by
 have:∀(l:List Int) (n:Int),0≤n∧n≤b→0≤l.foldl (λ n p=>Qn n (acc.getD p.toNat 0)) n∧l.foldl (λ n p=>Qn n (acc.getD p.toNat 0)) n≤b:=by
  intro l;induction l with
  | nil=>exact λ n h=>h
  | cons p r ih=>
   intro n hn;refine ih _ ?_;show 0≤Qn n (acc.getD p.toNat 0)∧Qn n (acc.getD p.toNat 0)≤b;unfold Qn;have:=hb p.toNat;split<;>omega
 exact this l 0 om
theorem jR (l:List aI):(iH l).length=l.length∧∀j:Nat,0≤(iH l).getD j 0∧(iH l).getD j 0≤l.length:=by
 induction l using Jp with
 | nil=>exact ⟨rfl,λ j=>by rw [MZ]; simp; exact Nat.zero_le _⟩
 | append_singleton l c ih=>
  obtain ⟨h1,h2⟩:=ih;rw [Dl];have hb:=JM (iH l) l.length om h2 c.aP;have hf:0≤JL (iH l) c∧JL (iH l) c≤l.length+1:=by
   unfold JL;cases Sc c<;>simp only [cond_true,cond_false]<;>omega
  refine ⟨by rw [List.length_append,List.length_append,h1]; rfl,λ j=>?_⟩;have hlen:((l++[c]).length:Int)=l.length+1:=by rw [List.length_append]; rfl
  rw [hlen];by_cases hj:j<l.length
  ·rw [jo 0 om];have:=h2 j;omega
  ·by_cases hj2:j=l.length
   ·rw [jD 0 om]; exact hf
   ·rw [MZ 0 (by rw [List.length_append,h1]; simp; omega)];omega
def XW (a b:Int):Int:=if b<a then b else a
def mE (l:List aI):Int:=l.foldl (λ p c=>XW (p*c.aM.length) 1099511627776) 1
def aeU (l:List aI):Bool:=(List.range l.length).all λ i=>kZ (l.getD i aK) i
def eD (l:List aI):Int:=bif decide (16<(l.length:Int))||l.any Sb then 3 else bif !aeU l then 1 else bif decide (4096<mE l)||(iH l).any (λ n=>decide (4<n)) then 3 else 0
variable {l:List aI}
theorem ab5 (h:∀i:Nat,i<l.length→kZ (l.getD i aK) i=true):aeU l=true:=by
 unfold aeU;rw [List.all_eq_true];intro i hi;exact h i (List.mem_range.1 hi)
theorem aeV (h:aeU l=true) (i:Nat) (hi:i<l.length):kZ (l.getD i aK) i=true:=by
 unfold aeU at h;rw [List.all_eq_true] at h;exact h i (List.mem_range.2 hi)
theorem Sd (hi:i<l.length) (h:kZ (l.getD i aK) i=false):aeU l=false:=by
 cases hv:aeU l with
 | false=>rfl
 | true=>rw [aeV hv i hi] at h; cases h
theorem nL {l:List α} {p:α→Bool} (d:α) (h:l.any p=false) (i:Nat) (hi:i<l.length):p (l.getD i d)=false:=by
 rw [List.any_eq_false] at h;simpa using h _ (je d hi)
theorem xL {l:List α} {p:α→Bool} (d:α) (hi:i<l.length) (h:p (l.getD i d)=true):l.any p=true:=List.any_eq_true.2 ⟨_,je d hi,h⟩
theorem any_none {l:List α} {p:α→Bool} (d:α) (h:∀i,i<l.length→p (l.getD i d)=false):l.any p=false:=by
 rw [List.any_eq_false];intro x hx;obtain ⟨i,hi,rfl⟩:=List.mem_iff_getElem.1 hx;have:=h i hi;rw [List.getD_eq_getElem?_getD,List.getElem?_eq_getElem hi] at this;simpa using this
variable {c:aI}
theorem Oj (h:Sb c=false):c.aP.length≤8∧c.aM.length≤8:=by
 unfold Sb at h;simp at h;omega
theorem Ol (l:List aI):0≤mE l∧mE l≤1099511627776:=by
 unfold mE;induction l using Jp with
 | nil=>simp
 | append_singleton l c ih=>
  rw [List.foldl_append];show 0≤XW (l.foldl _ 1*c.aM.length) 1099511627776∧XW (l.foldl _ 1*c.aM.length) 1099511627776≤1099511627776;have:0≤l.foldl (λ p c=>XW (p*(c:aI).aM.length) 1099511627776) 1*(c.aM.length:Int):=Int.mul_nonneg ih.1 om;generalize l.foldl (λ p c=>XW (p*(c:aI).aM.length) 1099511627776) 1*(c.aM.length:Int)=q at this;unfold XW;split<;>omega
theorem akA (l:List aI) (n:Int) (h:0≤n∧n≤8):0≤mE l*n∧mE l*n≤1099511627776*8:=by
 have hb:=Ol l;exact ⟨Int.mul_nonneg hb.1 h.1,Int.mul_le_mul hb.2 h.2 h.1 om⟩
theorem within_iff (n lo hi:Int):dK n lo hi=true↔lo≤n∧n≤hi:=by
 unfold dK;simp
variable {k:Int}
theorem VP {j:Nat} (hj:j<c.aP.length) (h:dK (c.aP.getD j 0) 0 (k - 1)=false):kZ c k=false:=by
 unfold kZ;have:c.aP.any (λ y=>!dK y 0 (k - 1))=true:=xL 0 hj (by show (!dK (c.aP.getD j 0) 0 (k - 1))=true; rw [h]; rfl);rw [this];rfl
theorem aeW (h:∀j,j<c.aP.length→dK (c.aP.getD j 0) 0 (k - 1)=true):kZ c k=!(!iW c||decide (c.Low<0)||decide (c.fO<c.Low)||decide (4000000000<c.fO)):=by
 have e:c.aP.any (λ y=>!dK y 0 (k - 1))=false:=any_none 0 λ j hj=>by show (!dK (c.aP.getD j 0) 0 (k - 1))=false; rw [h j hj]; rfl
 unfold kZ;rw [e];cases hc:iW c with
 | false=>cases (false||!dK c.fO 0 4000000000||!dK c.Low 0 c.fO)<;>rfl
 | true=>
  by_cases hg:(0≤c.Low∧c.Low≤c.fO)∧c.fO≤4000000000
  ·have h1:dK c.fO 0 4000000000=true:=(within_iff _ _ _).2 om;have h2:dK c.Low 0 c.fO=true:=(within_iff _ _ _).2 om;rw [h1,h2,decide_eq_false (show ¬ c.Low<0 by omega),decide_eq_false (show ¬ c.fO<c.Low by omega),decide_eq_false (show ¬ 4000000000<c.fO by omega)];rfl
  ·have h1:(false||!dK c.fO 0 4000000000||!dK c.Low 0 c.fO)=true:=by
    simp only [Bool.false_or,Bool.or_eq_true,Bool.not_eq_true',← Bool.not_eq_true,within_iff];omega
   have h2:(!true||decide (c.Low<0)||decide (c.fO<c.Low)||decide (4000000000<c.fO))=true:=by
    simp only [Bool.not_true,Bool.false_or,Bool.or_eq_true,decide_eq_true_eq];omega
   rw [h1,h2];rfl
theorem JN (h:kZ c k=true):∀p∈c.aP,0≤p∧p<k:=by
 intro p hp;unfold kZ at h;cases ha:c.aP.any (λ y=>!dK y 0 (k - 1)) with
 | true=>rw [ha] at h; cases h
 | false=>
  rw [List.any_eq_false] at ha;have:=ha p hp;simp only [Bool.not_eq_true,Bool.not_eq_false'] at this;have:=(within_iff _ _ _).1 this;omega
theorem aeX (h:∀i:Nat,i<l.length→kZ (l.getD i aK) i=true) (hb:∀i:Nat,i<l.length→Sb (l.getD i aK)=false):ahz l:=λ i hi=>⟨by have:=Oj (hb i hi); omega,JN (h i hi)⟩
theorem VQ (l:List aI) (k:Nat):∀j,j<k→j<l.length→(iH l).getD j 0=(iH (l.take k)).getD j 0:=by
 induction l using Jp with
 | nil=>intro j _ hj; cases hj
 | append_singleton l c ih=>
  intro j hjk hj;have hlen:=(jR l).1;by_cases hk:k≤l.length
  ·rw [List.take_append_of_le_length hk,Dl,jo 0 om];exact ih j hjk om
  ·rw [List.take_of_length_le (l:=l++[c]) (by rw [List.length_append]; simp; omega)]
theorem Om (h:iW c=true):1≤c.aM.length:=by
 cases hc:c.aM with
 | nil=>
  unfold iW at h;rw [hc] at h;cases h1:c.fV==1<;>cases h2:(c.fV==2||c.fV==3)<;>cases h3:c.fV==4<;>cases h4:c.fV==5<;>rw [h1,h2,h3,h4] at h<;>simp at h
 | cons x r=>simp
theorem lg (h:kZ c k=true):iW c=true:=by
 unfold kZ at h;cases hb:(c.aP.any (λ y=>!dK y 0 (k - 1))||!dK c.fO 0 4000000000||!dK c.Low 0 c.fO) with
 | true=>rw [hb] at h; cases h
 | false=>rw [hb] at h; exact h
theorem Sg (l:List aI) (c:aI):mE (l++[c])=XW (mE l*c.aM.length) 1099511627776:=by
 unfold mE;rw [List.foldl_append];rfl
theorem agE (l:List aI):(∀c∈l,1≤c.aM.length)→∀k,mE (l.take k)≤mE l:=by
 induction l using Jp with
 | nil=>intro _ k; rw [List.take_nil]; exact Int.le_refl _
 | append_singleton l c ih=>
  intro h k;by_cases hk:k≤l.length
  ·rw [List.take_append_of_le_length hk,Sg];have h1:=ih (λ d hd=>h d (List.mem_append_left _ hd)) k;have hb:=Ol l;have hc:=h c (List.mem_append_right _ (List.mem_singleton.2 rfl));have:mE l*1≤mE l*c.aM.length:=Int.mul_le_mul_of_nonneg_left om hb.1;rw [Int.mul_one] at this;generalize mE l*(c.aM.length:Int)=q at *;unfold XW;split<;>omega
  ·rw [List.take_of_length_le (l:=l++[c]) (by rw [List.length_append]; simp; omega)];exact Int.le_refl _
def lU (l:List aI) (s:List Int):Bool:=((s.length:Int)==(l.length:Int))&&(List.range l.length).all λ i=>dK (s.getD i 0) 0 ((l.getD i aK).aM.length - 1)
variable {p:Nat→Bool}
theorem zO {n:Nat} (h:∀i,i<n→p i=true):(List.range n).all p=true:=by
 rw [List.all_eq_true];intro i hi;exact h i (List.mem_range.1 hi)
theorem adh {n:Nat} (h:(List.range n).all p=true) (hi:i<n):p i=true:=by
 rw [List.all_eq_true] at h;exact h i (List.mem_range.2 hi)
theorem xM {n:Nat} (hi:i<n) (h:p i=false):(List.range n).all p=false:=by
 cases hv:(List.range n).all p with
 | false=>rfl
 | true=>rw [adh hv hi] at h; cases h
def aeY (l:List aI):Prop:=∀i:Nat,i<l.length→(l.getD i aK).aM.length≤2000000
def lq (l:List aI) (m:List bM):Bool:=(eD l==0)&&decide ((m.length:Int)≤32)&&!(m.any (Ma l.length))
theorem aeZ (n:Int) (x:bM):Ma n x=(decide (x.eZ<0)||decide (n≤x.eZ)||decide (x.Low<0)||decide (x.fO<x.Low)||decide (4000000000<x.fO)):=by
 unfold Ma;by_cases hg:(0≤x.eZ∧x.eZ≤n - 1)∧(0≤x.fO∧x.fO≤4000000000)∧(0≤x.Low∧x.Low≤x.fO)
 ·rw [(within_iff _ _ _).2 hg.1,(within_iff _ _ _).2 hg.2.1,(within_iff _ _ _).2 hg.2.2,decide_eq_false (show ¬ x.eZ<0 by omega),decide_eq_false (show ¬ n≤x.eZ by omega),decide_eq_false (show ¬ x.Low<0 by omega),decide_eq_false (show ¬ x.fO<x.Low by omega),decide_eq_false (show ¬ 4000000000<x.fO by omega)];rfl
 ·have h1:(!dK x.eZ 0 (n - 1)||!dK x.fO 0 4000000000||!dK x.Low 0 x.fO)=true:=by
   simp only [Bool.or_eq_true,Bool.not_eq_true',← Bool.not_eq_true,within_iff];omega
  have h2:(decide (x.eZ<0)||decide (n≤x.eZ)||decide (x.Low<0)||decide (x.fO<x.Low)||decide (4000000000<x.fO))=true:=by
   simp only [Bool.or_eq_true,decide_eq_true_eq];omega
  rw [h1,h2]
def aaf (c:aI) (k:Int):Prop:=(c.fV=1)∨(c.fV=4∧0≤k∧k<c.aM.length∧0≤c.aM.getD k.toNat 0∧c.aM.getD k.toNat 0<c.aP.length)∨(c.fV≠4∧0<c.aP.length)
def j4 (c:aI) (k:Int):Int:=bif c.fV==1 then -1 else bif c.fV==4 then c.aP.getD (c.aM.getD k.toNat 0).toNat 0 else c.aP.getD 0 0
def Qo:bK:=⟨0,1⟩
def nD (r:bK):Bool:=(r.jX==0)&&((r.jm==1)&&true)
def Xx (acc:List bK) (c:aI) (k:Int):bK:=
 bif decide (j4 c k<0) then ⟨c.aM.getD k.toNat 0,1⟩ else
 bif nD (acc.getD (j4 c k).toNat dS)||((c.fV==5)&&(c.aM.getD k.toNat 0==0)) then Qo else
 bif c.fV==2 then (Az (acc.getD (j4 c k).toNat dS) (c.aM.getD k.toNat 0)).1 else
 bif c.fV==3 then (qG (acc.getD (j4 c k).toNat dS) (c.aM.getD k.toNat 0)).1 else acc.getD (j4 c k).toNat dS
def qH (l:List aI) (s:List Int):Nat→List bK
 | 0=>[]
 | i+1=>qH l s i++[Xx (qH l s i) (l.getD i aK) (s.getD i 0)]
def gD (l:List aI) (s:List Int):List bK:=qH l s l.length
theorem rZ (l:List aI) (s:List Int) (i:Nat):(qH l s i).length=i:=by
 induction i with
 | zero=>rfl
 | succ i ih=>simp [qH,ih]
structure Good (l:List aI) (s:List Int):Prop where
 small:l.length≤1000
 len:s.length=l.length
 aM:∀i,i<l.length→0≤s.getD i 0∧s.getD i 0<(l.getD i aK).aM.length
 pch:∀i,i<l.length→aaf (l.getD i aK) (s.getD i 0)
 aP:∀i,i<l.length→j4 (l.getD i aK) (s.getD i 0)<i
theorem ab6:∀(l pre:List Int),xJ lo hi pre l=true→∀x∈l,lo≤x∧x≤hi:=by
 intro l;induction l with
 | nil=>intro _ _ x hx; cases hx
 | cons n r ih=>
  intro pre h x hx;cases hb:(!(dK n lo hi)||pre.contains n) with
  | true=>rw [YX hb] at h; cases h
  | false=>
   rw [adg hb] at h;rcases List.mem_cons.1 hx with rfl | hx
   ·rw [Bool.or_eq_false_iff] at hb;have:=hb.1;simp only [Bool.not_eq_false'] at this;exact (within_iff _ _ _).1 this
   ·exact ih _ h x hx
theorem r9 (h:iW c=true):
  (c.fV=1∧c.aP=[]∧c.aM.length=1∧1≤c.aM.getD 0 0∧c.aM.getD 0 0≤4000000000)∨((c.fV=2∨c.fV=3)∧c.aP.length=1∧0<c.aM.length∧∀x∈c.aM,1≤x∧x≤64)
  ∨ (c.fV=4∧0<c.aM.length∧∀x∈c.aM,0≤x∧x≤(c.aP.length:Int) - 1)∨(c.fV=5∧c.aP.length=1∧c.aM=[0,1]):=by
 unfold iW at h;cases h1:c.fV==1 with
 | true=>
  rw [h1] at h;simp only [cond_true,Bool.and_eq_true,within_iff] at h;obtain ⟨⟨h2,h3⟩,h4⟩:=h;left;have h2:c.aP.length=0:=by have:=eq_of_beq h2; omega
  exact ⟨eq_of_beq h1,List.length_eq_zero_iff.1 h2,by have:=eq_of_beq h3; omega,h4⟩
 | false=>
  rw [h1] at h;cases h2:(c.fV==2||c.fV==3) with
  | true=>
   rw [h2] at h;simp only [cond_true,cond_false,Bool.and_eq_true] at h;obtain ⟨⟨h3,h4⟩,h5⟩:=h;right; left;refine ⟨?_,by have:=eq_of_beq h3; omega,by have:=of_decide_eq_true h4; omega,ab6 _ _ h5⟩;rw [Bool.or_eq_true] at h2;exact h2.imp eq_of_beq eq_of_beq
  | false=>
   rw [h2] at h;cases h3:c.fV==4 with
   | true=>
    rw [h3] at h;simp only [cond_true,cond_false,Bool.and_eq_true] at h;right; right; left;exact ⟨eq_of_beq h3,by have:=of_decide_eq_true h.1; omega,ab6 _ _ h.2⟩
   | false=>
    rw [h3] at h;cases h4:c.fV==5 with
    | true=>
     rw [h4] at h;simp only [cond_true,cond_false,Bool.and_eq_true] at h;right; right; right;exact ⟨eq_of_beq h4,by have:=eq_of_beq h.1; omega,eq_of_beq h.2⟩
    | false=>rw [h4] at h; cases h
structure abh (l:List aI):Prop where
 len:l.length≤16
 big:∀i:Nat,i<l.length→(l.getD i aK).aP.length≤8∧(l.getD i aK).aM.length≤8
 valid:∀i:Nat,i<l.length→kZ (l.getD i aK) i=true
 prod:mE l≤4096
 iH:∀i:Nat,i<l.length→(iH l).getD i 0≤4
theorem uW (h:eD l=0):abh l:=by
 unfold eD at h;cases h1:(decide (16<(l.length:Int))||l.any Sb) with
 | true=>rw [h1] at h; cases h
 | false=>
  rw [h1] at h;cases h2:aeU l with
  | false=>rw [h2] at h; cases h
  | true=>
   rw [h2] at h;cases h3:(decide (4096<mE l)||(iH l).any (λ n=>decide (4<n))) with
   | true=>rw [h3] at h; cases h
   | false=>
    rw [Bool.or_eq_false_iff] at h1 h3;refine ⟨by have:=of_decide_eq_false h1.1; omega,λ i hi=>Oj (nL aK h1.2 i hi),aeV h2,by have:=of_decide_eq_false h3.1; omega,λ i hi=>?_⟩;have:=nL 0 h3.2 i (by rw [(jR l).1]; exact hi);have:=of_decide_eq_false this;omega
variable {s:List Int}
theorem aag (h:lU l s=true):s.length=l.length∧∀i:Nat,i<l.length→0≤s.getD i 0∧s.getD i 0<(l.getD i aK).aM.length:=by
 unfold lU at h;rw [Bool.and_eq_true] at h;have hl:s.length=l.length:=by have:=eq_of_beq h.1; omega
 refine ⟨hl,λ i hi=>?_⟩;have:=h.2;rw [List.all_eq_true] at this;have:=this i (List.mem_range.2 om);have:=(within_iff _ _ _).1 this;omega
theorem ae0 (hv:kZ c i=true) (hk:0≤k∧k<c.aM.length):aaf c k∧j4 c k<i:=by
 have hp:=JN hv;unfold aaf j4;rcases r9 (lg hv) with ⟨h1,h2,h3,h4⟩ | ⟨h1,h2,h3,h4⟩ | ⟨h1,h2,h3⟩ | ⟨h1,h2,h3⟩
 ·refine ⟨.inl h1,?_⟩;rw [h1];show (-1:Int)<i;omega
 ·have hn1:(c.fV==1)=false:=by rcases h1 with h1 | h1<;>rw [h1]<;>rfl
  have hn4:(c.fV==4)=false:=by rcases h1 with h1 | h1<;>rw [h1]<;>rfl
  refine ⟨.inr (.inr ⟨λ e=>(by rw [e] at hn4; cases hn4),om⟩),?_⟩;rw [hn1,hn4];exact (hp _ (je 0 om)).2
 ·have hm:=h3 _ (je 0 (i:=k.toNat) om);refine ⟨.inr (.inl ⟨h1,hk.1,hk.2,hm.1,om⟩),?_⟩;rw [h1];exact (hp _ (je 0 (i:=(c.aM.getD k.toNat 0).toNat) om)).2
 ·refine ⟨.inr (.inr ⟨by rw [h1]; decide,om⟩),?_⟩;rw [h1];exact (hp _ (je 0 (i:=0) om)).2
theorem PW (h:abh l) (hs:lU l s=true):Good l s:=by
 obtain ⟨h1,h2⟩:=aag hs;exact ⟨by have:=h.len; omega,h1,h2,λ i hi=>(ae0 (h.valid i hi) (h2 i hi)).1,λ i hi=>(ae0 (h.valid i hi) (h2 i hi)).2⟩
def vI (l:List aI) (s:List Int):List bK×Int:=bif eD l != 0 then ([],eD l) else bif !lU l s then ([],1) else (gD l s,0)
def Si (r:List bK) (x:bM):Bool:=nD (r.getD x.eZ.toNat dS)||!nV (r.getD x.eZ.toNat dS) x.Low x.fO
def adi (r:bK) (c:aI):Bool:=((!nD r)&&(c.fO != 0))&&!nV r c.Low c.fO
def ownB (l:List aI) (r:List bK):Bool:=(List.range l.length).all λ i=>!adi (r.getD i dS) (l.getD i aK)
def fC (l:List aI) (s:List Int) (m:List bM):Bool:=(lq l m&&lU l s)&&(ownB l (gD l s)&&!m.any (Si (gD l s)))
theorem xO {m:List bM} (h:lq l m=true):eD l=0∧m.length≤32∧∀i,i<m.length→Ma l.length (m.getD i cZ)=false:=by
 unfold lq at h;rw [Bool.and_eq_true,Bool.and_eq_true] at h;exact ⟨eq_of_beq h.1.1,by have:=of_decide_eq_true h.1.2; omega,λ i hi=>nL cZ (by simpa using h.2) i hi⟩
theorem Oo {n:Int} {x:bM} (h:Ma n x=false):(0≤x.eZ∧x.eZ<n)∧0≤x.Low∧x.Low≤x.fO∧x.fO≤4000000000:=by
 rw [aeZ] at h;simp only [Bool.or_eq_false_iff,decide_eq_false_iff_not] at h;omega
theorem Xy {l m:List α} (d:α) (h:l.length≤i):(l++m).getD i d=m.getD (i - l.length) d:=by
 rw [List.getD_eq_getElem?_getD,List.getElem?_append_right h,List.getD_eq_getElem?_getD]
def red (a b:Nat):bK:=⟨((a / Nat.gcd a b:Nat):Int),((b / Nat.gcd a b:Nat):Int)⟩
theorem PX (a b:Nat) (hb:0<b) (ha':a≤144115188075855872) (hb':b≤16777216):pJ (red a b)=true:=by
 have g0:0<Nat.gcd a b:=Nat.gcd_pos_of_pos_right a hb;have h1:a / Nat.gcd a b≤a:=Nat.div_le_self _ _;have h2:b / Nat.gcd a b≤b:=Nat.div_le_self _ _;have h3:0<b / Nat.gcd a b:=Nat.div_pos (Nat.le_of_dvd hb (Nat.gcd_dvd_right _ _)) g0;have h4:Nat.gcd (a / Nat.gcd a b) (b / Nat.gcd a b)=1:=by
  rw [Nat.gcd_div (Nat.gcd_dvd_left _ _) (Nat.gcd_dvd_right _ _),Nat.div_self g0]
 unfold pJ red jv;simp only [Int.toNat_natCast,h4];generalize a / Nat.gcd a b=n at *;generalize b / Nat.gcd a b=d at *;simp;omega
theorem ae1 (a b:Nat) (hb:0<b) (ha':a≤144115188075855872) (hb':b≤16777216):newR a b=(red a b,0):=by
 have hv:=PX a b hb ha' hb';have e1:jv (a:Int) (b:Int)=(Nat.gcd a b:Nat):=by unfold jv; rw [Int.toNat_natCast,Int.toNat_natCast]
 have e2:(⟨(a:Int).tdiv (jv a b),(b:Int).tdiv (jv a b)⟩:bK)=red a b:=by
  rw [e1,← Int.ofNat_tdiv,← Int.ofNat_tdiv];rfl
 unfold newR;have c:(decide ((a:Int)<0)||decide ((b:Int)<1))=false:=by simp; omega
 rw [c,e2,hv];rfl
theorem ab7 (a b:Nat) (hb:0<b):∃g n d:Nat,0<g∧0<d∧g*n=a∧g*d=b∧red a b=⟨n,d⟩∧n≤a∧d≤b:=by
 have g0:0<Nat.gcd a b:=Nat.gcd_pos_of_pos_right a hb;refine ⟨Nat.gcd a b,a / Nat.gcd a b,b / Nat.gcd a b,g0,Nat.div_pos (Nat.le_of_dvd hb (Nat.gcd_dvd_right _ _)) g0,Nat.mul_div_cancel' (Nat.gcd_dvd_left _ _),Nat.mul_div_cancel' (Nat.gcd_dvd_right _ _),rfl,Nat.div_le_self _ _,Nat.div_le_self _ _⟩
theorem ab8 (h:1≤k∧k≤64):xK k=true:=by
 unfold xK;simp;omega
theorem ae2 (a b:Nat) (k:Int) (hb:0<b) (hk:1≤k∧k≤64) (ha':a≤144115188075855872) (hb':b*k.toNat≤16777216):Az (red a b) k=(red a (b*k.toNat),0):=by
 have hbk:b≤b*k.toNat:=Nat.le_mul_of_pos_right _ om;have hv:=PX a b hb ha' om;unfold Az;rw [hv,ab8 hk];simp only [Bool.not_true,cond_false];obtain ⟨g,n,d,g0,d0,e1,e2,e3,_,_⟩:=ab7 a b hb;rw [e3];have hkk:k=(k.toNat:Int):=by omega
 have hm:=Ub g n (d*k.toNat) g0 (Nat.mul_pos d0 om);rw [e1,← Nat.mul_assoc,e2] at hm;show newR (n:Int) ((d:Int)*k)=_;rw [hkk,← Int.natCast_mul,← hm,Int.toNat_natCast];exact ae1 a (b*k.toNat) om ha' hb'
theorem ab9 (a b:Nat) (k:Int) (hb:0<b) (hk:1≤k∧k≤64) (ha':a*k.toNat≤144115188075855872) (hb':b≤16777216):qG (red a b) k=(red (a*k.toNat) b,0):=by
 have hak:a≤a*k.toNat:=Nat.le_mul_of_pos_right _ om;have hv:=PX a b hb om hb';unfold qG;rw [hv,ab8 hk];simp only [Bool.not_true,cond_false];obtain ⟨g,n,d,g0,d0,e1,e2,e3,e4,e5⟩:=ab7 a b hb;rw [e3];obtain ⟨k,rfl⟩:=Int.eq_ofNat_of_zero_le (show 0≤k by omega);have hk0:0<k:=by omega
 have eg:jv ((k:Nat):Int) ((d:Nat):Int)=(Nat.gcd k d:Nat):=by unfold jv; rw [Int.toNat_natCast,Int.toNat_natCast]
 have q0:0<Nat.gcd k d:=Nat.gcd_pos_of_pos_left d hk0;have qk:Nat.gcd k d*(k / Nat.gcd k d)=k:=Nat.mul_div_cancel' (Nat.gcd_dvd_left _ _);have qd:Nat.gcd k d*(d / Nat.gcd k d)=d:=Nat.mul_div_cancel' (Nat.gcd_dvd_right _ _);have qk0:0<k / Nat.gcd k d:=Nat.div_pos (Nat.le_of_dvd hk0 (Nat.gcd_dvd_left _ _)) q0;have qd0:0<d / Nat.gcd k d:=Nat.div_pos (Nat.le_of_dvd d0 (Nat.gcd_dvd_right _ _)) q0;have qkk:k / Nat.gcd k d≤k:=Nat.div_le_self _ _;simp only [Int.toNat_natCast] at ha' ⊢;rw [eg,← Int.ofNat_tdiv,← Int.ofNat_tdiv];have hc:decide ((144115188075855872:Int).tdiv ((k / Nat.gcd k d:Nat):Int)<(n:Int))=false:=by
  apply decide_eq_false;have:n≤144115188075855872 / (k / Nat.gcd k d):=by
   rw [Nat.le_div_iff_mul_le qk0];exact Nat.le_trans (Nat.mul_le_mul e4 qkk) ha'
  have e:(144115188075855872:Int).tdiv ((k / Nat.gcd k d:Nat):Int)=((144115188075855872 / (k / Nat.gcd k d):Nat):Int):=by
   rw [Int.ofNat_tdiv];rfl
  rw [e];omega
 rw [hc];simp only [cond_false];rw [← Int.natCast_mul];have m1:=Ub (Nat.gcd k d) (n*(k / Nat.gcd k d)) (d / Nat.gcd k d) q0 qd0;rw [Nat.mul_left_comm,qk,qd] at m1;have m2:=Ub g (n*k) d g0 d0;rw [← Nat.mul_assoc,e1,e2] at m2;rw [← m1,← m2];exact ae1 (a*k) b hb ha' hb'
theorem amw (a:Nat):red a 1=⟨a,1⟩:=by
 unfold red;rw [Nat.gcd_one_right,Nat.div_one,Nat.div_one];rfl
theorem amx (a b:Nat) (ha:0<a):0<(red a b).jX:=by
 have:0<a / Nat.gcd a b:=Nat.div_pos (Nat.le_of_dvd ha (Nat.gcd_dvd_left _ _)) (Nat.gcd_pos_of_pos_left b ha);show (0:Int)<((a / Nat.gcd a b:Nat):Int);omega
theorem akB (a b:Nat) (ha:0<a):nD (red a b)=false:=by
 have:=amx a b ha;unfold nD;have:((red a b).jX==0)=false:=by
  rw [← Bool.not_eq_true];intro e;have:=eq_of_beq e;omega
 rw [this];rfl
theorem aix (k:Int) (hk:1≤k∧k≤64):qG Qo k=(Qo,0):=by
 have h:=ab9 0 1 k (by decide) hk (by simp) (by decide);rw [Nat.zero_mul] at h;exact h
theorem akC (k:Int) (hk:1≤k∧k≤64):Az Qo k=(Qo,0):=by
 have h:=ae2 0 1 k (by decide) hk (by decide) om;have e:red 0 (1*k.toNat)=Qo:=by
  unfold red Qo;rw [Nat.gcd_zero_left,Nat.zero_div,Nat.one_mul,Nat.div_self om];rfl
 rw [e] at h;exact h
theorem Sj (l:List aI) (s:List Int) (n j:Nat) (h:j<n):(qH l s n).getD j dS=Xx (qH l s j) (l.getD j aK) (s.getD j 0):=by
 induction n with
 | zero=>omega
 | succ n ih=>
  rw [qH];by_cases hj:j<n
  ·rw [jo _ (by rw [rZ]; exact hj)];exact ih hj
  ·have:j=n:=by omega
   subst this;rw [jD _ (rZ l s j).symm]
theorem aiy {acc acc':List bK} (h:0≤j4 c k→acc.getD (j4 c k).toNat dS=acc'.getD (j4 c k).toNat dS):Xx acc c k=Xx acc' c k:=by
 unfold Xx;by_cases hp:j4 c k<0
 ·rw [decide_eq_true hp]; rfl
 ·rw [h om]
theorem aiz (h:Good l s) (j:Nat) (hj:j<l.length):(gD l s).getD j dS=Xx (gD l s) (l.getD j aK) (s.getD j 0):=by
 unfold gD;rw [Sj l s l.length j hj];refine aiy λ h0=>?_;have:=h.aP j hj;rw [Sj l s l.length _ om,Sj l s j _ om]
theorem aiA (acc:List Int) (l:List Int) (p:Int) (hp:p∈l):acc.getD p.toNat 0≤l5 acc l:=by
 have mono:∀(l:List Int) (n:Int),n≤l.foldl (λ n p=>Qn n (acc.getD p.toNat 0)) n:=by
  intro l;induction l with
  | nil=>intro n; exact Int.le_refl _
  | cons q r ih=>
   intro n;have:=ih (Qn n (acc.getD q.toNat 0));have h2:n≤Qn n (acc.getD q.toNat 0):=by unfold Qn; split<;>omega
   exact Int.le_trans h2 this
 have key:∀(l:List Int) (n:Int),p∈l→acc.getD p.toNat 0≤l.foldl (λ n p=>Qn n (acc.getD p.toNat 0)) n:=by
  intro l;induction l with
  | nil=>intro n h; cases h
  | cons q r ih=>
   intro n h;rcases List.mem_cons.1 h with rfl | h
   ·have:=mono r (Qn n (acc.getD p.toNat 0));have h2:acc.getD p.toNat 0≤Qn n (acc.getD p.toNat 0):=by unfold Qn; split<;>omega
    exact Int.le_trans h2 this
   ·exact ih _ h
 exact key l 0 hp
theorem amy (hp:ahz l) (j:Nat) (hj:j<l.length):∀p∈(l.getD j aK).aP,(iH l).getD p.toNat 0+(bif Sc (l.getD j aK) then 1 else 0)≤(iH l).getD j 0:=by
 intro p hpm;have hpj:=(hp j hj).2 p hpm;have e1:(iH l).getD j 0=JL (iH (l.take j)) (l.getD j aK):=by
  rw [VQ l (j+1) j om hj,iC aK hj,Dl,jD _ (by rw [(jR _).1,take_len om])]
 have e2:(iH l).getD p.toNat 0=(iH (l.take j)).getD p.toNat 0:=VQ l j p.toNat om om;have:=aiA (iH (l.take j)) (l.getD j aK).aP p hpm;rw [e1,e2];unfold JL;cases Sc (l.getD j aK)<;>simp only [cond_true,cond_false]<;>omega
structure Made (l:List aI):Prop where
 ok:eD l=0
 pos:1≤l.length
 fix:∀i,i<l.length→(l.getD i aK).fV=1→(l.getD i aK).aM.getD 0 0≤24000000
structure XY (F a b:Nat) (f:Int):Prop where
 a0:0<a
 b0:0<b
 f0:0≤f
 al:a≤F*64 ^ f.toNat
 bl:b≤64 ^ f.toNat
variable {f:Int}
theorem amA (h:f≤4):64 ^ f.toNat≤16777216:=by
 have:f.toNat≤4:=by omega
 calc 64 ^ f.toNat≤64 ^ 4:=Nat.pow_le_pow_right (by decide) this
  _=16777216:=by decide
variable {F:Nat} {a:Nat} {b:Nat}
theorem XY.mono {g:Int} (h:XY F a b f) (hfg:f≤g):XY F a b g:=by
 have hf:=h.f0;have:64 ^ f.toNat≤64 ^ g.toNat:=Nat.pow_le_pow_right (by decide) om;exact ⟨h.a0,h.b0,om,Nat.le_trans h.al (Nat.mul_le_mul_left _ this),Nat.le_trans h.bl this⟩
theorem XY.times {g:Int} (h:XY F a b f) (hfg:f+1≤g) {k:Nat} (hk:1≤k∧k≤64):XY F (a*k) b g:=by
 have hf:=h.f0;have:64 ^ f.toNat*64≤64 ^ g.toNat:=by
  rw [← Nat.pow_succ];exact Nat.pow_le_pow_right (by decide) om
 refine ⟨Nat.mul_pos h.a0 om,h.b0,om,?_,?_⟩
 ·calc a*k≤(F*64 ^ f.toNat)*64:=Nat.mul_le_mul h.al hk.2
   _=F*(64 ^ f.toNat*64):=Nat.mul_assoc _ _ _
   _≤F*64 ^ g.toNat:=Nat.mul_le_mul_left _ this
 ·exact Nat.le_trans h.bl (Nat.le_trans (Nat.le_mul_of_pos_right _ (by decide)) this)
theorem XY.over {g:Int} (h:XY F a b f) (hfg:f+1≤g) {k:Nat} (hk:1≤k∧k≤64):XY F a (b*k) g:=by
 have hf:=h.f0;have h1:64 ^ f.toNat*64≤64 ^ g.toNat:=by
  rw [← Nat.pow_succ];exact Nat.pow_le_pow_right (by decide) om
 have h2:64 ^ f.toNat≤64 ^ g.toNat:=Nat.pow_le_pow_right (by decide) om;exact ⟨h.a0,Nat.mul_pos h.b0 om,om,Nat.le_trans h.al (Nat.mul_le_mul_left _ h2),Nat.le_trans (Nat.mul_le_mul h.bl hk.2) h1⟩
theorem XY.small (h:XY F a b f) (hf:f≤4) (hF:F≤4294967296):a≤F*16777216∧a≤144115188075855872∧b≤16777216:=by
 have hp:=amA hf;have h1:=Nat.le_trans h.al (Nat.mul_le_mul_left F hp);exact ⟨h1,Nat.le_trans h1 (Nat.le_trans (Nat.mul_le_mul_right 16777216 hF) (by decide)),Nat.le_trans h.bl hp⟩
def Jd (c:aI) (k:Int):Int:=c.aM.getD k.toNat 0
def upR (acc:List bK) (c:aI) (k:Int):bK:=acc.getD (j4 c k).toNat dS
structure Step (c:aI) (i:Nat) (k:Int):Prop where
 p0:0≤j4 c k
 pi:j4 c k<i
 mem:j4 c k∈c.aP
 n1:c.fV≠1
theorem adj (hv:kZ c i=true) (hk:0≤k∧k<c.aM.length) (hn:c.fV≠1):Step c i k:=by
 have hp:=JN hv;have key:j4 c k∈c.aP:=by
  unfold j4;rcases r9 (lg hv) with ⟨h1,h2,h3,h4⟩ | ⟨h1,h2,h3,h4⟩ | ⟨h1,h2,h3⟩ | ⟨h1,h2,h3⟩
  ·exact absurd h1 hn
  ·have hn1:(c.fV==1)=false:=by rcases h1 with h1 | h1<;>rw [h1]<;>rfl
   have hn4:(c.fV==4)=false:=by rcases h1 with h1 | h1<;>rw [h1]<;>rfl
   rw [hn1,hn4];exact je 0 om
  ·have hm:=h3 _ (je 0 (i:=k.toNat) om);rw [h1];exact je 0 (i:=(c.aM.getD k.toNat 0).toNat) om
  ·rw [h1];exact je 0 (i:=0) om
 have:=hp _ key;exact ⟨this.1,this.2,key,hn⟩
theorem amB (hv:kZ c i=true) (hk:0≤k∧k<c.aM.length) (h:c.fV=1) (acc:List bK):Jd c k=c.aM.getD 0 0∧1≤Jd c k∧Jd c k≤4000000000∧Xx acc c k=⟨Jd c k,1⟩∧j4 c k = -1:=by
 rcases r9 (lg hv) with ⟨h1,h2,h3,h4⟩ | ⟨h1,h2,h3,h4⟩ | ⟨h1,h2,h3⟩ | ⟨h1,h2,h3⟩
 ·have e:Jd c k=c.aM.getD 0 0:=by unfold Jd; rw [show k.toNat=0 by omega]
  have hp:j4 c k = -1:=by unfold j4; rw [h]; rfl
  refine ⟨e,om,om,?_,hp⟩;unfold Xx;rw [hp];rfl
 ·rcases h1 with h1 | h1<;>omega
 ·omega
 ·omega
theorem ae3 (hv:kZ c i=true) (hk:0≤k∧k<c.aM.length) (hn:c.fV≠1) (acc:List bK):
  ((nD (upR acc c k)=true∨(c.fV=5∧Jd c k=0))∧Xx acc c k=Qo)∨
  (nD (upR acc c k)=false∧((c.fV=2∧Sc c=true∧(1≤Jd c k∧Jd c k≤64)∧Xx acc c k=(Az (upR acc c k) (Jd c k)).1)∨
    (c.fV=3∧Sc c=true∧(1≤Jd c k∧Jd c k≤64)∧Xx acc c k=(qG (upR acc c k) (Jd c k)).1)∨
    ((c.fV=4∨(c.fV=5∧Jd c k=1))∧Sc c=false∧Xx acc c k=upR acc c k))):=by
 have hs:=adj hv hk hn;have hp:decide (j4 c k<0)=false:=decide_eq_false (by have:=hs.p0; omega);have e0:Xx acc c k=bif nD (upR acc c k)||((c.fV==5)&&(Jd c k==0)) then Qo else bif c.fV==2 then (Az (upR acc c k) (Jd c k)).1 else bif c.fV==3 then (qG (upR acc c k) (Jd c k)).1 else upR acc c k:=by
  unfold Xx;rw [hp];rfl
 have hmem:Jd c k∈c.aM:=je 0 om;cases ho:nD (upR acc c k) with
 | true=>left; exact ⟨.inl rfl,by rw [e0,ho]; rfl⟩
 | false=>
  rw [ho] at e0;rcases r9 (lg hv) with ⟨h1,h2,h3,h4⟩ | ⟨h1,h2,h3,h4⟩ | ⟨h1,h2,h3⟩ | ⟨h1,h2,h3⟩
  ·exact absurd h1 hn
  ·right;refine ⟨rfl,?_⟩;rcases h1 with h1 | h1
   ·left;refine ⟨h1,by unfold Sc; rw [h1]; rfl,h4 _ hmem,?_⟩;rw [e0,h1];rfl
   ·right; left;refine ⟨h1,by unfold Sc; rw [h1]; rfl,h4 _ hmem,?_⟩;rw [e0,h1];rfl
  ·right;refine ⟨rfl,.inr (.inr ⟨.inl h1,by unfold Sc; rw [h1]; rfl,?_⟩)⟩;rw [e0,h1];rfl
  ·rw [h3] at hmem;by_cases hc:Jd c k=0
   ·left;refine ⟨.inr ⟨h1,hc⟩,?_⟩;rw [e0,h1,hc];rfl
   ·have hc1:Jd c k=1:=by simp at hmem; omega
    right;refine ⟨rfl,.inr (.inr ⟨.inr ⟨h1,hc1⟩,by unfold Sc; rw [h1]; rfl,?_⟩)⟩;rw [e0,h1,hc1];rfl
theorem agF (h:abh l):ahz l:=λ i hi=>⟨by have:=(h.big i hi).1; omega,JN (h.valid i hi)⟩
def st1 (acc:List bK) (on:List Bool) (c:aI) (k:Int):bK×Bool:=
 bif c.fV==1 then (⟨c.aM.getD k.toNat 0,1⟩,true) else
 bif c.fV==2 then ((Az (acc.getD (j4 c k).toNat dS) (c.aM.getD k.toNat 0)).1,on.getD (j4 c k).toNat false) else
 bif c.fV==3 then ((qG (acc.getD (j4 c k).toNat dS) (c.aM.getD k.toNat 0)).1,on.getD (j4 c k).toNat false) else
 bif (c.fV==5)&&(c.aM.getD k.toNat 0==0) then (Qo,false) else (acc.getD (j4 c k).toNat dS,on.getD (j4 c k).toNat false)
def VR (l:List aI) (s:List Int):Nat→List bK×List Bool
 | 0=>([],[])
 | i+1=>((VR l s i).1++[(st1 (VR l s i).1 (VR l s i).2 (l.getD i aK) (s.getD i 0)).1],(VR l s i).2++[(st1 (VR l s i).1 (VR l s i).2 (l.getD i aK) (s.getD i 0)).2])
def Ri (l:List aI) (s:List Int):List bK×List Bool:=VR l s l.length
theorem PY (l:List aI) (s:List Int) (i:Nat):(VR l s i).1.length=i∧(VR l s i).2.length=i:=by
 induction i with
 | zero=>exact ⟨rfl,rfl⟩
 | succ i ih=>simp [VR,ih]
def Up (l:List aI) (s:List Int):Prop:=∀i:Nat,i<l.length→(l.getD i aK).fV≠1→0≤j4 (l.getD i aK) (s.getD i 0)
theorem akD (h:abh l) (hs:lU l s=true):Up l s:=by
 obtain ⟨_,h2⟩:=aag hs;exact λ i hi hk=>(adj (h.valid i hi) (h2 i hi) hk).p0
theorem adk (l:List aI) (s:List Int) (n j:Nat) (h:j<n):(VR l s n).1.getD j dS=(st1 (VR l s j).1 (VR l s j).2 (l.getD j aK) (s.getD j 0)).1∧(VR l s n).2.getD j false=(st1 (VR l s j).1 (VR l s j).2 (l.getD j aK) (s.getD j 0)).2:=by
 induction n with
 | zero=>omega
 | succ n ih=>
  rw [VR];have hl:=PY l s n;by_cases hj:j<n
  ·rw [jo _ om,jo _ om];exact ih hj
  ·have:j=n:=by omega
   subst this;rw [jD _ hl.1.symm,jD _ hl.2.symm];exact ⟨rfl,rfl⟩
theorem aiB {acc acc':List bK} {on on':List Bool} (h:c.fV≠1→acc.getD (j4 c k).toNat dS=acc'.getD (j4 c k).toNat dS∧on.getD (j4 c k).toNat false=on'.getD (j4 c k).toNat false):st1 acc on c k=st1 acc' on' c k:=by
 unfold st1;cases hk:c.fV==1 with
 | true=>rfl
 | false=>
  obtain ⟨h1,h2⟩:=h (λ e=>by rw [e] at hk; cases hk);rw [h1,h2]
theorem aoy (h:Good l s) (hu:Up l s) (j:Nat) (hj:j<l.length):((Ri l s).1.getD j dS,(Ri l s).2.getD j false)=st1 (Ri l s).1 (Ri l s).2 (l.getD j aK) (s.getD j 0):=by
 unfold Ri;obtain ⟨e1,e2⟩:=adk l s l.length j hj;rw [e1,e2];show st1 _ _ _ _=_;refine aiB λ hk=>?_;have h1:=h.aP j hj;have h2:=hu j hj hk;obtain ⟨a1,a2⟩:=adk l s l.length (j4 (l.getD j aK) (s.getD j 0)).toNat om;obtain ⟨b1,b2⟩:=adk l s j (j4 (l.getD j aK) (s.getD j 0)).toNat om;exact ⟨b1.trans a1.symm,b2.trans a2.symm⟩
theorem akE (hn:c.fV≠1) (acc:List bK) (on:List Bool) (k:Int):
  (c.fV=2→st1 acc on c k=((Az (upR acc c k) (Jd c k)).1,on.getD (j4 c k).toNat false))∧
  (c.fV=3→st1 acc on c k=((qG (upR acc c k) (Jd c k)).1,on.getD (j4 c k).toNat false))∧
  (c.fV=5→Jd c k=0→st1 acc on c k=(Qo,false))∧
  ((c.fV=4∨(c.fV=5∧Jd c k=1))→st1 acc on c k=(upR acc c k,on.getD (j4 c k).toNat false)):=by
 have hk:(c.fV==1)=false:=by
  cases h:c.fV==1 with
  | false=>rfl
  | true=>exact absurd (eq_of_beq h) hn
 refine ⟨λ h=>?_,λ h=>?_,λ h h0=>?_,λ h=>?_⟩
 ·unfold st1; rw [h]; rfl
 ·unfold st1; rw [h]; rfl
 ·unfold st1; rw [show c.aM.getD k.toNat 0=Jd c k from rfl,h,h0]; rfl
 ·rcases h with h | ⟨h,h1⟩
  ·unfold st1; rw [h]; rfl
  ·unfold st1; rw [show c.aM.getD k.toNat 0=Jd c k from rfl,h,h1]; rfl
theorem akF (hv:kZ c i=true) (hk:0≤k∧k<c.aM.length) (hn:c.fV≠1):(c.fV=2∧1≤Jd c k∧Jd c k≤64)∨(c.fV=3∧1≤Jd c k∧Jd c k≤64)∨c.fV=4∨(c.fV=5∧Jd c k=k∧(k=0∨k=1)):=by
 have hmem:Jd c k∈c.aM:=je 0 om;rcases r9 (lg hv) with ⟨h1,h2,h3,h4⟩ | ⟨h1,h2,h3,h4⟩ | ⟨h1,h2,h3⟩ | ⟨h1,h2,h3⟩
 ·exact absurd h1 hn
 ·rcases h1 with h1 | h1
  ·exact .inl ⟨h1,h4 _ hmem⟩
  ·exact .inr (.inl ⟨h1,h4 _ hmem⟩)
 ·exact .inr (.inr (.inl h1))
 ·rw [h3] at hk;have hk2:k=0∨k=1:=by simp at hk; omega
  refine .inr (.inr (.inr ⟨h1,?_,hk2⟩));unfold Jd;rw [h3];rcases hk2 with rfl | rfl<;>rfl
theorem akG (l:List aI):∀j:Nat,0≤(iH l).getD j 0:=λ j=>((jR l).2 j).1
theorem akH (hf:abh l) (hs:lU l s=true):∀j,j<l.length→
  ((gD l s).getD j dS=Qo∧(Ri l s).1.getD j dS=Qo∧(Ri l s).2.getD j false=false)∨
  ∃a b,XY 4000000000 a b ((iH l).getD j 0)∧(gD l s).getD j dS=red a b∧(Ri l s).1.getD j dS=red a b∧(Ri l s).2.getD j false=true:=by
 have hg:=PW hf hs;have hu:=akD hf hs;obtain ⟨_,hset⟩:=aag hs;have arO:=λ j hj=>amy (agF hf) j hj;have hfb:=akG l;generalize hA:gD l s=A;generalize hB:Ri l s=B;intro j;induction j using Nat.strongRecOn with
 | ind j ih=>
  intro hj;have eA:=aiz hg j hj;have eB:=aoy hg hu j hj;rw [hA] at eA;rw [hB] at eB;have hv:=hf.valid j hj;have hk:=hset j hj;have hfj:=hf.iH j hj;have apM:=arO j hj;generalize l.getD j aK=c at *;generalize s.getD j 0=k at *;by_cases hk1:c.fV=1
  ·right;obtain ⟨e1,e2,e3,e4,_⟩:=amB hv hk hk1 A;have eB1:st1 B.1 B.2 c k=(⟨Jd c k,1⟩,true):=by unfold st1; rw [hk1]; rfl
   rw [eB1] at eB;have hb:=hfb j;have er:(⟨Jd c k,1⟩:bK)=red (Jd c k).toNat 1:=by
    rw [amw];congr 1;omega
   refine ⟨(Jd c k).toNat,1,⟨om,by decide,om,?_,Nat.pow_pos (by decide)⟩,?_,?_,?_⟩
   ·exact Nat.le_trans (show (Jd c k).toNat≤4000000000 by omega) (Nat.le_mul_of_pos_right _ (Nat.pow_pos (by decide)))
   ·rw [eA,e4,er]
   ·rw [← er]; exact congrArg Prod.fst eB
   ·exact congrArg Prod.snd eB
  ·have hst:=adj hv hk hk1;have hpl:(j4 c k).toNat<l.length:=by have:=hst.p0; have:=hst.pi; omega
   have hpf:=apM _ hst.mem;have ihp:=ih (j4 c k).toNat (by have:=hst.p0; have:=hst.pi; omega) hpl;have uA:A.getD (j4 c k).toNat dS=upR A c k:=rfl;have uB:B.1.getD (j4 c k).toNat dS=upR B.1 c k:=rfl;rw [uA,uB] at ihp;obtain ⟨q2,q3,q50,q4⟩:=akE hk1 B.1 B.2 k;have hn:∀n:Int,1≤n∧n≤64→1≤n.toNat∧n.toNat≤64:=λ n hn=>by omega
   rcases ihp with ⟨i1,i2,i3⟩ | ⟨a,b,i0,i1,i2,i3⟩
   ·left;have hA0:Xx A c k=Qo:=by
     rcases ae3 hv hk hk1 A with ⟨_,q⟩ | ⟨q,_⟩
     ·exact q
     ·rw [i1] at q; cases q
    rw [i2,i3] at q2 q3 q4;have hB0:st1 B.1 B.2 c k=(Qo,false):=by
     rcases akF hv hk hk1 with ⟨h,h1⟩ | ⟨h,h1⟩ | h | ⟨h,h1,h2⟩
     ·rw [q2 h,akC _ h1]
     ·rw [q3 h,aix _ h1]
     ·exact q4 (.inl h)
     ·rcases h2 with h2 | h2
      ·exact q50 h om
      ·exact q4 (.inr ⟨h,om⟩)
    rw [hB0] at eB;exact ⟨by rw [eA,hA0],congrArg Prod.fst eB,congrArg Prod.snd eB⟩
   ·have oA:nD (upR A c k)=false:=by rw [i1]; exact akB a b i0.a0
    rw [i2,i3] at q2 q3 q4;rcases ae3 hv hk hk1 A with ⟨q0,q⟩ | ⟨_,q⟩
    ·left;rw [oA] at q0;rcases q0 with q0 | ⟨q0,q1⟩
     ·cases q0
     ·rw [q50 q0 q1] at eB;exact ⟨by rw [eA,q],congrArg Prod.fst eB,congrArg Prod.snd eB⟩
    ·right;rcases q with ⟨r1,r2,r3,r4⟩ | ⟨r1,r2,r3,r4⟩ | ⟨r1,r2,r3⟩
     ·rw [r2] at hpf;have hnew:=i0.over hpf (hn _ r3);have hs2:=hnew.small hfj (by decide);have eo:=ae2 a b _ i0.b0 r3 hs2.2.1 hs2.2.2;rw [q2 r1,eo] at eB;exact ⟨a,b*(Jd c k).toNat,hnew,by rw [eA,r4,i1,eo],congrArg Prod.fst eB,congrArg Prod.snd eB⟩
     ·rw [r2] at hpf;have hnew:=i0.times hpf (hn _ r3);have hs2:=hnew.small hfj (by decide);have eo:=ab9 a b _ i0.b0 r3 hs2.2.1 hs2.2.2;rw [q3 r1,eo] at eB;exact ⟨a*(Jd c k).toNat,b,hnew,by rw [eA,r4,i1,eo],congrArg Prod.fst eB,congrArg Prod.snd eB⟩
     ·rw [r2] at hpf;rw [q4 r1] at eB;exact ⟨a,b,i0.mono (by simpa using hpf),by rw [eA,r3,i1],congrArg Prod.fst eB,congrArg Prod.snd eB⟩
theorem PZ (hf:abh l) (hs:lU l s=true) (j:Nat) (hj:j<l.length):(Ri l s).1.getD j dS=(gD l s).getD j dS∧(Ri l s).2.getD j false=!nD ((gD l s).getD j dS)∧pJ ((gD l s).getD j dS)=true∧(nD ((gD l s).getD j dS)=true→(gD l s).getD j dS=Qo):=by
 rcases akH hf hs j hj with ⟨h1,h2,h3⟩ | ⟨a,b,h0,h1,h2,h3⟩
 ·rw [h1,h2,h3];exact ⟨rfl,rfl,by decide,λ _=>rfl⟩
 ·have hs2:=h0.small (hf.iH j hj) (by decide);rw [h1,h2,h3,akB a b h0.a0];exact ⟨rfl,rfl,PX a b h0.b0 hs2.2.1 hs2.2.2,nofun⟩
theorem xP {l m:List α} (d:α) (h:l.length=m.length) (he:∀i,i<l.length→l.getD i d=m.getD i d):l=m:=by
 apply List.ext_getElem h;intro i h1 h2;have:=he i h1;rw [List.getD_eq_getElem?_getD,List.getD_eq_getElem?_getD,List.getElem?_eq_getElem h1,List.getElem?_eq_getElem h2] at this;simpa using this
structure atB (l:List aI) (s w:List Int):Prop where
 chain:∀i,i+1<w.length→(l.getD (w.getD i 0).toNat aK).fV≠1∧w.getD (i+1) 0=j4 (l.getD (w.getD i 0).toNat aK) (s.getD (w.getD i 0).toNat 0)
 last:∀i,i+1=w.length→(l.getD (w.getD i 0).toNat aK).fV=1
theorem jS (n lo hi:Int):jP n lo hi (dK n lo hi):=rfl
theorem adl (hl:l.length≤2000000):lJ l (l.any Sb):=
 Rh (TV (p:=Gc) (P:=Sb) (λ _ _=>rfl) om) (uE _ _)
theorem XZ {p a:Int} (ha : -2000000≤a∧a≤2000000):zH p a (!dK p 0 (a - 1)):=
 lT (aO (by unfold aF; omega) (aH (yw (jS _ _ _)) λ v hv=>by subst hv; exact av rfl))
theorem adn {l:List Int} {a:Int} (ha : -2000000≤a∧a≤2000000) (hl:l.length≤2000000):oh l a (l.any λ y=>!dK y 0 (a - 1)):=
 Rh (TV (p:=λ x=>zH x a) (P:=λ y=>!dK y 0 (a - 1)) (λ _ _=>XZ ha) om) (uE _ _)
theorem aah {l:List Int} {v:Int} (hl:l.length≤2000000):slices_Contains_int l v (l.contains v):=by
 refine Rh (akk (P:=λ x=>v==x) om) ?_;rw [uE];exact (List.contains_eq_any_beq).symm
theorem xQ {l:List Int} (hl:l.length≤2000000):mY l lo hi (xJ lo hi [] l):=by
 refine lT (akl l.length (λ i=>xJ lo hi (l.take i) (l.drop i)=xJ lo hi [] l) ?_ rfl);intro self i hi1 hi2 ih;refine bL ?_ ?_<;>intro c
 ·have c:=of_decide_eq_true c;have hlt:i<l.length:=by omega
  rw [drop_cons 0 hlt] at hi2;refine aO om ?_;refine aH (yw (jS _ _ _)) λ v hv=>?_;subst hv;refine aO (λ _=>by omega) ?_;refine aH (gV λ _=>aah (by simp; omega)) λ v hv=>?_;subst hv;refine bL ?_ ?_<;>intro c2
  ·refine av ?_;rw [← hi2,YX (pre:=l.take i) (n:=l.getD i 0) c2]
  ·refine aO (by unfold aF; omega) (ih hlt ?_);rw [← hi2,adg (pre:=l.take i) (n:=l.getD i 0) c2,iC 0 hlt]
 ·have c:=of_decide_eq_false c;refine av ?_;rw [← hi2,List.drop_eq_nil_of_le om];rfl
theorem Sk {a b:List Int} (hl:a.length≤2000000):slices_Equal_int a b (a==b):=by
 refine lT (bL (λ c=>?_) (λ c=>?_))
 ·refine av ?_;have:a≠b:=λ h=>by subst h; simp at c
  exact (beq_eq_false_iff_ne.2 this).symm
 ·have hlen:a.length=b.length:=by simp at c; omega
  refine akl a.length (λ i=>(a==b)=(a.drop i==b.drop i)) ?_ rfl;intro self i hi1 hi2 ih;refine bL ?_ ?_<;>intro c
  ·have c:=of_decide_eq_true c;have hlt:i<a.length:=by omega
   rw [drop_cons 0 hlt,drop_cons 0 (show i<b.length by omega)] at hi2;refine aO om (aO om ?_);refine bL ?_ ?_<;>intro c2
   ·refine av ?_;rw [hi2];simp at c2;simp [c2]
   ·refine aO (by unfold aF; omega) (ih hlt ?_);rw [hi2];simp at c2;simp [c2]
  ·have c:=of_decide_eq_false c;refine av ?_;rw [hi2,List.drop_eq_nil_of_le om,List.drop_eq_nil_of_le om];rfl
theorem abj (hk : -2000000≤k∧k≤2000000) (hp:c.aP.length≤2000000) (hc:c.aM.length≤2000000):M5 c k (kZ c k):=by
 refine lT ?_;refine aH (yw (adn hk hp)) λ v1 hv=>?_;subst hv;refine aH (gV λ _=>jS c.fO 0 4000000000) λ v hv=>?_;subst hv;refine aH (gV λ _=>jS c.Low 0 c.fO) λ v hv=>?_;subst hv;refine bL ?_ ?_<;>intro h
 ·refine av ?_;unfold kZ;rw [h];rfl
 ·have hv:kZ c k=iW c:=by unfold kZ; rw [h]; rfl
  rw [hv];refine bL ?_ ?_<;>intro k1
  ·refine aO (λ h=>by simp at h; omega) ?_;refine aH (gV λ _=>jS (c.aM.getD 0 0) 1 4000000000) λ v hv=>?_;subst hv;refine av ?_;unfold iW;rw [k1];rfl
  ·refine bL ?_ ?_<;>intro k2
   ·rw [k2];refine aH (gV λ _=>xQ hc) λ v hv=>?_;subst hv;refine av ?_;unfold iW;rw [k1,k2];rfl
   ·refine bL ?_ ?_<;>intro k3
    ·refine aH (gV λ _=>xQ hc) λ v hv=>?_;subst hv;refine av ?_;unfold iW;rw [k1,k2,k3];rfl
    ·refine bL ?_ ?_<;>intro k4
     ·refine aO (λ _=>by unfold aF; omega) ?_;refine aH (gV λ _=>xQ hc) λ v hv=>?_;subst hv;refine av ?_;unfold iW;rw [k1,k2,k3,k4];rfl
     ·refine bL ?_ ?_<;>intro k5
      ·refine bL ?_ ?_<;>intro h1
       ·refine aH (gV λ _=>Sk hc) λ v hv=>?_;subst hv;refine av ?_;unfold iW;rw [k1,k2,k3,k4,k5];rfl
       ·refine av ?_;unfold iW;rw [k1,k2,k3,k4,k5];simp at h1;simp [h1]
      ·refine av ?_;unfold iW;rw [k1,k2,k3,k4,k5];rfl
theorem set_mid (a:List α) (x y:α) (z:List α):(a++x::z).set a.length y=a++y::z:=by
 rw [List.set_append_right _ _ (Nat.le_refl _),Nat.sub_self];rfl
theorem uF (hl:l.length≤2000000):rE l (eD l):=by
 refine lT ?_;refine aH (gV λ _=>adl hl) λ v hv=>?_;subst hv;refine bL ?_ ?_<;>intro h
 ·refine av ?_;unfold eD;rw [h];rfl
 ·have hb3:(decide (16<(l.length:Int))||l.any Sb)=false:=h;have h16:l.length≤16:=by simp at hb3; omega
  have hbig:∀i:Nat,i<l.length→Sb (l.getD i aK)=false:=nL aK (by simp only [Bool.or_eq_false_iff] at hb3; exact hb3.2);refine akl l.length (λ i=>∀j:Nat,j<i→kZ (l.getD j aK) j=true) ?_ (λ j hj=>absurd hj (Nat.not_lt_zero j));intro self i hi1 hi2 ih;refine bL ?_ ?_<;>intro h2
  ·have hlt:i<l.length:=by have:=of_decide_eq_true h2; omega
   have hbl:=Oj (hbig i hlt);refine aO om ?_;refine aH (yw (abj (c:=l.getD i aK) (k:=i) om om om)) λ v hv=>?_;subst hv;refine bL ?_ ?_<;>intro h3
   ·refine av ?_;unfold eD;rw [hb3,Sd hlt (by simpa using h3)];rfl
   ·refine aO (by unfold aF; omega) (ih hlt λ j hj=>?_);by_cases hji:j=i
    ·subst hji; simpa using h3
    ·exact hi2 j om
  ·have hil:i=l.length:=by have:=of_decide_eq_false h2; omega
   subst hil;have hall:=ab5 hi2;refine aO ⟨om,by show (l.length:Int)*8≤140737488355328; omega⟩ ?_;refine bH (λ g:Int×Int×List Int=>∃i:Nat,g=(mE (l.take i),(i:Int),iH (l.take i)++List.replicate (l.length - i) 0)∧i≤l.length∧mE (l.take i)≤4096∧∀j:Nat,j<i→(λ n=>decide (4<n)) ((iH l).getD j 0)=false) (λ g=>(l.length - g.2.1).toNat) ?_ ⟨0,rfl,om,by rw [List.take_zero]; decide,λ j hj=>absurd hj (Nat.not_lt_zero j)⟩;rintro dJ g ⟨i,rfl,hj1,hj2,hj3⟩ ih2;refine bL ?_ ?_<;>intro h3
   ·have hlt:i<l.length:=by have:(i:Int)<(l.length:Int):=of_decide_eq_true h3; omega
    refine aO (by show 0≤(i:Int)∧(i:Int)<(l.length:Int); omega) ?_;obtain ⟨hfl,hb⟩:=jR (l.take i);rw [take_len hj1] at hfl hb;have hpi:=(aeX hi2 hbig) i hlt;have hsn:iH (l.take (i+1))=iH (l.take i)++[JL (iH (l.take i)) (l.getD i aK)]:=by rw [iC aK hlt,Dl]
    have hpm:=JM (iH (l.take i)) i om hb;have hrep:List.replicate (l.length - i) (0:Int)=0::List.replicate (l.length - i - 1) 0:=by
     rw [show l.length - i=(l.length - i - 1)+1 by omega];rfl
    have hcut:W (uO l (mE (l.take i),(i:Int),iH (l.take i)++List.replicate (l.length - i) 0) dJ (iH (l.take i)++JL (iH (l.take i)) (l.getD i aK)::List.replicate (l.length - i - 1) 0)) (λ r=>r=eD l):=by
     have hbl:=Oj (hbig i hlt);have hpb:=Ol (l.take i);have atC:0≤mE (l.take i)*((l.getD i aK).aM.length:Int)∧mE (l.take i)*((l.getD i aK).aM.length:Int)≤4096*8:=⟨Int.mul_nonneg hpb.1 om,Int.mul_le_mul hj2 om om om⟩;have hpe:mE (l.take (i+1))=mE (l.take i)*((l.getD i aK).aM.length:Int):=by
      rw [iC aK hlt,Sg];unfold XW;rw [if_neg om]
     have hfi:(iH l).getD i 0=JL (iH (l.take i)) (l.getD i aK):=by
      rw [VQ l (i+1) i om hlt,hsn,jD 0 hfl.symm]
     refine aO (by show aF (mE (l.take i)*((l.getD i aK).aM.length:Int)); unfold aF; omega) ?_;refine aO (λ _=>by simp [hfl]; omega) ?_;refine bL ?_ ?_<;>intro h5
     ·have h5:(decide (4096<mE (l.take i)*((l.getD i aK).aM.length:Int))||decide (4<(iH (l.take i)++JL (iH (l.take i)) (l.getD i aK)::List.replicate (l.length - i - 1) 0).getD i 0))=true:=h5;rw [jD 0 hfl.symm,← hfi,← hpe] at h5;refine av ?_;unfold eD;rw [hb3,hall];have:(decide (4096<mE l)||(iH l).any (λ n=>decide (4<n)))=true:=by
       rw [Bool.or_eq_true] at h5 ⊢;rcases h5 with h5 | h5
       ·left;have h5:=of_decide_eq_true h5;have hm:=agE l (λ c hc=>by
         obtain ⟨k,hk,rfl⟩:=List.mem_iff_getElem.1 hc;have:=Om (lg (hi2 k hk));rwa [List.getD_eq_getElem?_getD,List.getElem?_eq_getElem hk] at this) (i+1)
        exact decide_eq_true om
       ·right;exact xL (p:=λ n=>decide (4<n)) 0 (by rw [(jR l).1]; exact hlt) h5
      rw [this];rfl
     ·have h5:(decide (4096<mE (l.take i)*((l.getD i aK).aM.length:Int))||decide (4<(iH (l.take i)++JL (iH (l.take i)) (l.getD i aK)::List.replicate (l.length - i - 1) 0).getD i 0))=false:=h5;rw [jD 0 hfl.symm,← hfi,← hpe] at h5;rw [Bool.or_eq_false_iff] at h5;refine aO (by show aF ((i:Int)+1); unfold aF; omega) ?_;refine ih2 _ ⟨i+1,?_,hlt,by have:=of_decide_eq_false h5.1; omega,λ j hj=>?_⟩ (by show (l.length - ((i:Int)+1)).toNat<(l.length - (i:Int)).toNat; omega)
      ·rw [hsn,List.append_assoc,show l.length - (i+1)=l.length - i - 1 by omega,hpe];rfl
      ·by_cases hji:j=i
       ·subst hji; exact h5.2
       ·exact hj3 j om
    refine bH (λ g:Int×List Int=>∃j:Nat,g=((j:Int),iH (l.take i)++l5 (iH (l.take i)) ((l.getD i aK).aP.take j)::List.replicate (l.length - i - 1) 0)∧j≤(l.getD i aK).aP.length) (λ g=>((l.getD i aK).aP.length - g.1).toNat) ?_ ⟨0,by rw [hrep]; rfl,Nat.zero_le _⟩;rintro nQ g ⟨j,rfl,hj⟩ ih7;refine bL ?_ ?_<;>intro h4
    ·have hjl:j<(l.getD i aK).aP.length:=by have:(j:Int)<((l.getD i aK).aP.length:Int):=of_decide_eq_true h4; omega
     have hin:=hpi.2 ((l.getD i aK).aP.getD j 0) (je 0 hjl);refine aO (by show 0≤(j:Int)∧(j:Int)<((l.getD i aK).aP.length:Int); omega) ?_;refine aO (by show 0≤(i:Int)∧(i:Int)<(((iH (l.take i)++l5 (iH (l.take i)) ((l.getD i aK).aP.take j)::List.replicate (l.length - i - 1) 0).length:Nat):Int); simp [hfl]; omega) ?_;refine aO (by show 0≤(l.getD i aK).aP.getD j 0∧(l.getD i aK).aP.getD j 0<(((iH (l.take i)++l5 (iH (l.take i)) ((l.getD i aK).aP.take j)::List.replicate (l.length - i - 1) 0).length:Nat):Int); rw [List.length_append,hfl,List.length_cons]; omega) ?_;refine aO (by show 0≤(i:Int)∧(i:Int)<(((iH (l.take i)++l5 (iH (l.take i)) ((l.getD i aK).aP.take j)::List.replicate (l.length - i - 1) 0).length:Nat):Int); simp [hfl]; omega) ?_;refine aO (by show aF ((j:Int)+1); unfold aF; have:=hpi.1; omega) ?_;refine ih7 _ ⟨j+1,?_,hjl⟩ (by show ((l.getD i aK).aP.length - ((j:Int)+1)).toNat<((l.getD i aK).aP.length - (j:Int)).toNat; omega);have e:l5 (iH (l.take i)) ((l.getD i aK).aP.take (j+1))=Qn ((iH (l.take i)++l5 (iH (l.take i)) ((l.getD i aK).aP.take j)::List.replicate (l.length - i - 1) 0).getD i 0) ((iH (l.take i)++l5 (iH (l.take i)) ((l.getD i aK).aP.take j)::List.replicate (l.length - i - 1) 0).getD ((l.getD i aK).aP.getD j 0).toNat 0):=by
      rw [jD 0 hfl.symm,jo 0 om];unfold l5;rw [vo _ _ 0 hjl]
     rw [e];have hs:=set_mid (iH (l.take i)) (l5 (iH (l.take i)) ((l.getD i aK).aP.take j)) (Qn ((iH (l.take i)++l5 (iH (l.take i)) ((l.getD i aK).aP.take j)::List.replicate (l.length - i - 1) 0).getD i 0) ((iH (l.take i)++l5 (iH (l.take i)) ((l.getD i aK).aP.take j)::List.replicate (l.length - i - 1) 0).getD ((l.getD i aK).aP.getD j 0).toNat 0)) (List.replicate (l.length - i - 1) 0);rw [hfl] at hs;rw [← hs];rfl
    ·have hje:j=(l.getD i aK).aP.length:=by have:¬ (j:Int)<((l.getD i aK).aP.length:Int):=of_decide_eq_false h4; omega
     subst hje;rw [List.take_length];have hpx:=hpm (l.getD i aK).aP;refine bL ?_ ?_<;>intro h5
     ·have hlen:0≤(i:Int)∧(i:Int)<(((iH (l.take i)++l5 (iH (l.take i)) (l.getD i aK).aP::List.replicate (l.length - i - 1) 0).length:Nat):Int):=by simp [hfl]; omega
      refine aO hlen ?_;refine aO (by show aF ((iH (l.take i)++l5 (iH (l.take i)) (l.getD i aK).aP::List.replicate (l.length - i - 1) 0).getD i 0+1); rw [jD 0 hfl.symm]; unfold aF; omega) ?_;refine aO hlen ?_;have e:JL (iH (l.take i)) (l.getD i aK)=(iH (l.take i)++l5 (iH (l.take i)) (l.getD i aK).aP::List.replicate (l.length - i - 1) 0).getD i 0+1:=by
       rw [jD 0 hfl.symm];unfold JL Sc;rw [show ((l.getD i aK).fV==2||(l.getD i aK).fV==3)=true from h5];rfl
      have hs:=set_mid (iH (l.take i)) (l5 (iH (l.take i)) (l.getD i aK).aP) (JL (iH (l.take i)) (l.getD i aK)) (List.replicate (l.length - i - 1) 0);rw [hfl] at hs;rw [← hs,e] at hcut;exact hcut
     ·have e:JL (iH (l.take i)) (l.getD i aK)=l5 (iH (l.take i)) (l.getD i aK).aP:=by
       unfold JL Sc;rw [show ((l.getD i aK).fV==2||(l.getD i aK).fV==3)=false from h5];rfl
      rw [e] at hcut;exact hcut
   ·have hil:i=l.length:=by have:¬ (i:Int)<(l.length:Int):=of_decide_eq_false h3; omega
    subst hil;refine av ?_;rw [List.take_length] at hj2;unfold eD;rw [hb3,hall,decide_eq_false (show ¬ 4096<mE l by omega),any_none (p:=λ n=>decide (4<n)) 0 (by rw [(jR l).1]; exact hj3)];rfl
theorem ae4 {a b:Int} (ha:0≤a) (hb:0<b):jv b (a.tmod b)=jv a b:=by
 unfold jv;rw [Int.tmod_eq_emod_of_nonneg ha,show (a % b).toNat=a.toNat % b.toNat from Int.toNat_emod ha om,Nat.gcd_comm a.toNat,Nat.gcd_rec b.toNat a.toNat,Nat.gcd_comm]
theorem aai {x M e:Int} (hM:0≤M) (he:0<e) (hx:0≤x) (h:x≤M.tdiv e):0≤x*e∧x*e≤M:=by
 rw [Int.tdiv_eq_ediv_of_nonneg hM] at h;exact ⟨Int.mul_nonneg hx om,(Int.le_ediv_iff_mul_le he).1 h⟩
theorem VT {x y X Y:Int} (h1:0≤x) (h2:x≤X) (h3:0≤y) (h4:y≤Y):0≤y*x∧y*x≤Y*X:=
 ⟨Int.mul_nonneg h3 h1,Int.mul_le_mul h4 h2 h1 om⟩
theorem zP {a_:Int} {b_:Int} (h1:0≤a_) (h2:0≤b_):W (rH a_ b_) (λ r=>r=jv a_ b_):=by
 unfold rH;refine bH (λ (g1:Int×Int)=>0≤g1.1∧0≤g1.2∧jv g1.1 g1.2=jv a_ b_) (λ (g1:Int×Int)=>g1.2.toNat) ?_ ?_
 ·intro aj g1 d9 bV;obtain ⟨dN,bO,bE⟩:=d9;unfold Nc;refine wi ?_ ?_<;>intro c1
  ·refine wn<|bV _ ?_ ?_
   ·(refine ⟨ob,Int.tmod_nonneg _ om,?_⟩; dsimp only; rw [← bE]; exact ae4 om om)
   ·(dsimp only; have:=TW g1.1 g1.2 om; have:=Int.tmod_nonneg (a:=g1.1) g1.2 om; omega)
  ·refine av ?_;(rw [← bE]; unfold jv; have e:g1.2=0:=c1; rw [e]; simp; omega)
 ·exact ob
variable {r_:bK}
theorem C9:W (vw r_) (λ r=>r=pJ r_):=by
 unfold vw;refine aH (gV λ hc=>lT (zP (by have hc:=nr hc; omega) (by have hc:=nr hc; omega))) λ v1 hv1=>?_;subst v1;refine av ?_;rfl
theorem abk {Qk:Int} {ZR:Int} {pX:Int} (h1:0≤Qk) (h2:Qk≤144115188075855872) (h3:1≤ZR) (h4:ZR≤16777216) (h5:1≤pX) (h6:pX≤64):W (EX Qk ZR pX) (λ r=>r=(Qk.tdiv (jv Qk pX),ZR*pX.tdiv (jv Qk pX))):=by
 unfold EX;refine aH (zP ob ob) λ v1 hv1=>?_;subst v1;have hg:=Ay Qk pX om; have q1:=tdiv_le Qk _ om hg; have q2:=tdiv_le pX _ om hg; have q3:=VT q2.1 (show pX.tdiv (jv Qk pX)≤64 by omega) (show 0≤ZR by omega) h4;refine wm<|wn ?_;refine av ?_;rfl
theorem aaj {wT:Int} {wU:Int} (h1:wT≤4611686018427387904) (h2:wU≤4611686018427387904):W (Nf wT wU) (λ r=>r=newR wT wU):=by
 unfold Nf;refine bL ?_ ?_<;>intro c1
 ·have gM:=c1;have c1:=nr c1;refine av ?_;(unfold newR; rw [gM]; rfl)
 ·have gM:=c1;have c1:=nr c1;have hg:=Ay wT wU om; have q1:=tdiv_le wT _ om hg; have q2:=tdiv_le wU _ om hg;refine aH (zP ob ob) λ v1 hv1=>?_;subst v1;refine wm<|aH (C9) λ v2 hv2=>?_;subst v2;refine bL ?_ ?_<;>intro c2
  ·have kE:=c2;have c2:=nr c2;refine av ?_;(unfold newR; rw [gM]; simp only [cond_false]; rw [kE]; rfl)
  ·have kE:=c2;have c2:=nr c2;refine av ?_;(unfold newR; rw [gM]; simp only [cond_false]; rw [kE]; rfl)
theorem abl {oZ:Int} {o8:Int} {o9:Int} (h1:r_.jX=oZ) (h2:r_.jm=o8) (h3:k_=o9):W (EY r_ k_ oZ o8 o9) (λ r=>r=Az r_ k_):=by
 subst h1 h2 h3;unfold EY;refine aH (C9) λ v1 hv1=>?_;subst v1;refine bL ?_ ?_<;>intro c1
 ·have gM:=c1;have c1:=nr c1;refine av ?_;(unfold Az; rw [gM]; rfl)
 ·have gM:=c1;have c1:=nr c1;have hv:=mD (r:=r_) (by simpa using gM);refine wi ?_ ?_<;>intro c2
  ·refine av ?_;(unfold Az xK; rw [gM]; simp only [cond_false]; rw [show (!(decide (1≤k_)&&decide (k_≤64)))=true by simp; omega]; rfl)
  ·refine aH (abk ob ob ob ob ob ob) λ v2 hv2=>?_;subst v2;have hg:=Ay r_.jX k_ om; have q1:=tdiv_le r_.jX _ hv.1 hg; have q2:=tdiv_le k_ _ om hg; have q3:=VT q2.1 (show k_.tdiv (jv r_.jX k_)≤64 by omega) (show 0≤r_.jm by omega) hv.2.2.2.1;refine aH (aaj ob ob) λ v3 hv3=>?_;subst v3;refine av ?_;(unfold Az xK; rw [gM]; simp only [cond_false]; rw [show (!(decide (1≤k_)&&decide (k_≤64)))=false by simp; omega]; exact aiw _ _ _ hv.1 om om)
theorem Xz:W (Ho r_ k_) (λ r=>r=Az r_ k_):=by
 unfold Ho;refine aH (abl rfl rfl rfl) λ v1 hv1=>?_;subst v1;refine av ?_;rfl
theorem aak {iK:Int} {Bb:Int} {vB:Int} (h1:1≤iK) (h2:iK≤64) (h3:0≤Bb) (h4:Bb≤144115188075855872) (h5:1≤vB) (h6:vB≤16777216):W (Cq iK Bb vB) (λ r=>r=(bif decide ((144115188075855872:Int).tdiv (iK.tdiv (jv iK vB))<Bb) then (-1,1) else (Bb*(iK.tdiv (jv iK vB)),vB.tdiv (jv iK vB)))):=by
 unfold Cq;refine aH (zP ob ob) λ v1 hv1=>?_;subst v1;have hg:=Ay iK vB om; have q1:=tdiv_le iK _ om hg; have q2:=tdiv_le vB _ om hg; have q4:=aox iK vB om om; have q5:=tdiv_le 144115188075855872 _ om (show 0<iK.tdiv (jv iK vB) by omega);refine wm<|bL ?_ ?_<;>intro c1
 ·have gM:=c1;have c1:=nr c1;refine av ?_;(rw [gM]; rfl)
 ·have gM:=c1;have c1:=nr c1;have q3:=aai (x:=Bb) (M:=144115188075855872) (e:=iK.tdiv (jv iK vB)) om om om c1;refine wm<|wn ?_;refine av ?_;(rw [gM]; rfl)
theorem VU {oZ:Int} {o8:Int} {o9:Int} (h1:k_=oZ) (h2:r_.jX=o8) (h3:r_.jm=o9):W (wV r_ k_ oZ o8 o9) (λ r=>r=qG r_ k_):=by
 subst h1 h2 h3;unfold wV;refine aH (C9) λ v1 hv1=>?_;subst v1;refine bL ?_ ?_<;>intro c1
 ·have gM:=c1;have c1:=nr c1;refine av ?_;(unfold qG; rw [gM]; rfl)
 ·have gM:=c1;have c1:=nr c1;have hv:=mD (r:=r_) (by simpa using gM);refine wi ?_ ?_<;>intro c2
  ·refine av ?_;(unfold qG xK; rw [gM]; simp only [cond_false]; rw [show (!(decide (1≤k_)&&decide (k_≤64)))=true by simp; omega]; rfl)
  ·refine aH (aak ob ob ob ob ob ob) λ v2 hv2=>?_;subst v2;have hg:=Ay k_ r_.jm om; have q1:=tdiv_le k_ _ om hg; have q2:=tdiv_le r_.jm _ om hg; have q4:=aox k_ r_.jm om om; have q3:=VT (show 0≤k_.tdiv (jv k_ r_.jm) by omega) q4.2 hv.1 hv.2.1; have q6:∀M:Int,M.tdiv (k_.tdiv (jv k_ r_.jm))<r_.jX∨r_.jX≤M.tdiv (k_.tdiv (jv k_ r_.jm)):=λ M=>by omega
   refine aH (aaj (by cases hd:decide ((144115188075855872:Int).tdiv (k_.tdiv (jv k_ r_.jm))<r_.jX) with | true=>(simp only [cond_true]; omega) | false=>(have q7:=aai (x:=r_.jX) (M:=144115188075855872) (e:=k_.tdiv (jv k_ r_.jm)) om om om (by have:=of_decide_eq_false hd; omega); simp only [cond_false]; omega)) (by cases hd:decide ((144115188075855872:Int).tdiv (k_.tdiv (jv k_ r_.jm))<r_.jX) with | true=>(simp only [cond_true]; omega) | false=>(have q7:=aai (x:=r_.jX) (M:=144115188075855872) (e:=k_.tdiv (jv k_ r_.jm)) om om om (by have:=of_decide_eq_false hd; omega); simp only [cond_false]; omega))) λ v3 hv3=>?_;subst v3;refine av ?_;(unfold qG xK; rw [gM]; simp only [cond_false]; rw [show (!(decide (1≤k_)&&decide (k_≤64)))=false by simp; omega]; simp only [cond_false]; cases hd:decide ((144115188075855872:Int).tdiv (k_.tdiv (jv k_ r_.jm))<r_.jX)<;>rfl)
theorem Uc:W (DF r_ k_) (λ r=>r=qG r_ k_):=by
 unfold DF;refine aH (VU rfl rfl rfl) λ v1 hv1=>?_;subst v1;refine av ?_;rfl
theorem Gm {Cr:Int} {oq:Int}:W (vR r_ Cr oq) (λ r=>r=nV r_ Cr oq):=by
 unfold vR;refine aH (C9) λ v1 hv1=>?_;subst v1;refine bL ?_ ?_<;>intro c1
 ·have gM:=c1;have c1:=nr c1;refine av ?_;(unfold nV; rw [show pJ r_=false by simpa using gM]; rfl)
 ·have gM:=c1;have c1:=nr c1;have hv:=mD (r:=r_) (by simpa using gM); have q1:=tdiv_le r_.jX r_.jm hv.1 om;refine wm<|av ?_;(unfold nV; rw [show pJ r_=true by simpa using gM]; rfl)
theorem Iy {m:List bM} (h:lq l m=true):∀x∈m,Ma l.length x=false:=λ x hx=>by
 obtain ⟨_,_,h1⟩:=xO h;obtain ⟨i,hi,rfl⟩:=List.mem_iff_getElem.1 hx;have:=h1 i hi;rwa [List.getD_eq_getElem?_getD,List.getElem?_eq_getElem hi] at this
theorem qC {v:bK} {L:List bK} (hL:L=qH l s i++List.replicate (l.length - i) dS) (hi:i<l.length) (e:Xx (qH l s i) (l.getD i aK) (s.getD i 0)=v) {k:Nat} (hk:k=i+1:=by omega):L.set i v=qH l s k++List.replicate (l.length - k) dS:=by
 subst hk hL;have hrl:=rZ l s i;have hrep:List.replicate (l.length - i) dS=dS::List.replicate (l.length - (i+1)) dS:=by
  rw [show l.length - i=(l.length - (i+1))+1 by omega];rfl
 rw [hrep,List.set_append_right _ _ om,hrl,Nat.sub_self,qH,e,List.append_assoc];rfl
theorem VW {x_:bM} {pX:List aI} (h1:pX.length≤2000000):W (rG x_ pX) (λ r=>r=Ma pX.length x_):=by
 unfold rG;refine wn<|aH (yw (jS _ _ _)) λ v1 hv1=>?_;subst v1;refine aH (gV λ hc=>jS _ _ _) λ v2 hv2=>?_;subst v2;refine aH (gV λ hc=>jS _ _ _) λ v3 hv3=>?_;subst v3;refine av ?_;rfl
theorem zi {s_:List bM} {f_:List aI} (h1:s_.length≤2000000) (h2:f_.length≤2000000):W (lM s_ f_) (λ r=>r=s_.any (Ma f_.length)):=
 yw (Rh (TV (p:=λ x=>rG x f_) (P:=Ma f_.length) (λ x hx=>lT (VW h2)) om) (uE _ _))
variable {l_:List aI}
theorem Oq {m_:List bM} (h1:l_.length≤2000000) (h2:m_.length≤2000000):W (wR l_ m_) (λ r=>r=lq l_ m_):=by
 unfold wR;refine aH (yw (uF ob)) λ v1 hv1=>?_;subst v1;refine aH (gV λ hc=>lT (zi ob ob)) λ v2 hv2=>?_;subst v2;refine av ?_;rfl
variable {s_:List Int}
theorem Bh (h1:l_.length≤2000000) (h2:s_.length≤2000000) (h3:aeY l_):W (qA l_ s_) (λ r=>r=lU l_ s_):=by
 unfold qA;refine bL ?_ ?_<;>intro c1
 ·have gM:=c1;have c1:=nr c1;refine av ?_;(unfold lU; rw [show ((s_.length:Int)==(l_.length:Int))=false by simpa using gM]; rfl)
 ·have gM:=c1;have c1:=nr c1;have he:((s_.length:Int)==(l_.length:Int))=true:=by simpa using gM
  refine bH (λ (g1:Int)=>0≤g1∧g1≤s_.length∧(∀j:Nat,(j:Int)<g1→dK (s_.getD j 0) 0 ((l_.getD j aK).aM.length - 1)=true)) (λ (g1:Int)=>(s_.length - g1).toNat) ?_ ?_
  ·intro aj g1 d9 bV;obtain ⟨dN,bO,bE⟩:=d9;unfold Hl;refine wi ?_ ?_<;>intro c2
   ·have hch:=h3 g1.toNat om;refine wm<|wn ?_;refine aH (yw (jS _ _ _)) λ v3 hv3=>?_;subst v3;refine bL ?_ ?_<;>intro c3
    ·have jI:=c3;have c3:=nr c3;refine av ?_;(unfold lU; rw [he,xM (i:=g1.toNat) om (by simpa using jI)]; rfl)
    ·have jI:=c3;have c3:=nr c3;refine wn<|bV _ ?_ ?_
     ·(refine ⟨ob,ob,λ j hj=>?_⟩; by_cases q:j<g1.toNat; (exact bE j om); (have e:j=g1.toNat:=by omega); subst e; simpa using jI)
     ·exact ob
   ·refine av ?_;(unfold lU; rw [he,zO λ j hj=>bE j om]; rfl)
  ·(refine ⟨ob,ob,λ j hj=>by omega⟩)
theorem Ot {jE:Int} (h1:0≤jE) (h2:jE<l_.length) (h3:jE<s_.length) (h4:aaf (l_.getD jE.toNat aK) (s_.getD jE.toNat 0)):W (wS l_ s_ jE) (λ r=>r=j4 (l_.getD jE.toNat aK) (s_.getD jE.toNat 0)):=by
 have hp:=h4; unfold aaf at hp;unfold wS;refine wn<|bL ?_ ?_<;>intro c1
 ·have gM:=c1;have c1:=nr c1;refine av ?_;(unfold j4; rw [gM]; rfl)
 ·have gM:=c1;have c1:=nr c1;refine bL ?_ ?_<;>intro c2
  ·have kE:=c2;have c2:=nr c2;refine wm<|wn ?_;refine av ?_;(unfold j4; rw [gM,kE]; rfl)
  ·have kE:=c2;have c2:=nr c2;refine wn<|av ?_;(unfold j4; rw [gM,kE]; rfl)
theorem Rj (h1:Good l_ s_):W (EZ l_ s_) (λ r=>r=gD l_ s_):=by
 obtain ⟨q1,q2,q3,q4,q5⟩:=h1;unfold EZ;refine wn<|bH (λ (g1:Int×List bK)=>0≤g1.1∧g1.1≤l_.length∧g1.2=qH l_ s_ g1.1.toNat++List.replicate (l_.length - g1.1.toNat) dS) (λ (g1:Int×List bK)=>(l_.length - g1.1).toNat) ?_ ?_
 ·intro aj g1 d9 bV;obtain ⟨dN,bO,bE⟩:=d9;unfold Ng;refine wi ?_ ?_<;>intro c1
  ·have hlt:g1.1.toNat<l_.length:=om; have hch:=q3 _ hlt; have hpar:=q5 _ hlt; have hpc:=q4 _ hlt; have hrl:=rZ l_ s_ g1.1.toNat; have hgl:g1.2.length=l_.length:=(by rw [bE,List.length_append,hrl,List.length_replicate]; omega);refine wm<|wn ?_;refine aH (Ot ob ob ob ob) λ v7 hv7=>?_;subst v7;refine bL ?_ ?_<;>intro c2
   ·have kE:=c2;have c2:=nr c2;refine wm<|bV _ ?_ ?_
    ·(refine ⟨ob,ob,?_⟩; dsimp only; exact qC bE om (by unfold Xx; rw [kE]; rfl))
    ·exact ob
   ·have kE:=c2;have c2:=nr c2;have hget:g1.2.getD (j4 (l_.getD g1.1.toNat aK) (s_.getD g1.1.toNat 0)).toNat dS=(qH l_ s_ g1.1.toNat).getD (j4 (l_.getD g1.1.toNat aK) (s_.getD g1.1.toNat 0)).toNat dS:=by rw [bE]; exact jo _ om
    refine wn<|bL ?_ ?_<;>intro c3
    ·have jI:=c3;have c3:=nr c3;refine wm<|bV _ ?_ ?_
     ·(refine ⟨ob,ob,?_⟩; dsimp only; exact qC bE om (by unfold Xx; rw [kE,← hget,show (nD _||_)=true from jI]; rfl))
     ·exact ob
    ·have jI:=c3;have c3:=nr c3;refine bL ?_ ?_<;>intro c4
     ·have sj:=c4;have c4:=nr c4;refine wn<|aH (Xz) λ v8 uG=>?_;subst v8;refine wm<|bV _ ?_ ?_
      ·(refine ⟨ob,ob,?_⟩; dsimp only; exact qC bE om (by unfold Xx; rw [kE,← hget,show (nD _||_)=false from jI,sj]; rfl))
      ·exact ob
     ·have sj:=c4;have c4:=nr c4;refine bL ?_ ?_<;>intro c5
      ·have AO:=c5;have c5:=nr c5;refine wn<|aH (Uc) λ v9 Sl=>?_;subst v9;refine wm<|bV _ ?_ ?_
       ·(refine ⟨ob,ob,?_⟩; dsimp only; exact qC bE om (by unfold Xx; rw [kE,← hget,show (nD _||_)=false from jI,sj,AO]; rfl))
       ·exact ob
      ·have AO:=c5;have c5:=nr c5;refine wm<|wn ?_;refine bV _ ?_ ?_
       ·(refine ⟨ob,ob,?_⟩; dsimp only; exact qC bE om (by unfold Xx; rw [kE,← hget,show (nD _||_)=false from jI,sj,AO]; rfl))
       ·exact ob
  ·refine av ?_;(rw [bE,show g1.1.toNat=l_.length by omega,Nat.sub_self]; simp [gD])
 ·(refine ⟨ob,ob,?_⟩; simp [qH])
theorem X0 {x_:bM} {pX:List bK} (h1:0≤x_.eZ) (h2:x_.eZ<pX.length):W (uy x_ pX) (λ r=>r=Si pX x_):=by
 unfold uy;refine wm<|aH (gV λ hc=>lT (Gm)) λ v1 hv1=>?_;subst v1;refine av ?_;rfl
theorem wC {s_:List bM} {f_:List bK} (h1:s_.length≤2000000) (h2:∀x∈s_,0≤x.eZ∧x.eZ<f_.length):W (jZ s_ f_) (λ r=>r=s_.any (Si f_)):=
 yw (Rh (TV (p:=λ x=>uy x f_) (P:=Si f_) (λ x hx=>lT (X0 (h2 x hx).1 (h2 x hx).2)) om) (uE _ _))
theorem abm {m_:List bM} (h1:l_.length≤2000000) (h2:s_.length≤2000000) (h3:m_.length≤2000000) (h4:aeY l_):W (Fb l_ s_ m_) (λ r=>r=fC l_ s_ m_):=by
 unfold Fb;refine aH (Oq ob ob) λ v1 hv1=>?_;subst v1;refine aH (gV λ hc=>lT (Bh ob ob ob)) λ v2 hv2=>?_;subst v2;refine bL ?_ ?_<;>intro c1
 ·have gM:=c1;have c1:=nr c1;refine av ?_;(unfold fC; rw [show (lq l_ m_&&lU l_ s_)=false from Bool.and_eq_false_iff.2 c1]; rfl)
 ·have gM:=c1;have c1:=nr c1;have hls:lq l_ m_=true∧lU l_ s_=true:=by simpa using gM
  obtain ⟨hck,hml,hmb⟩:=xO hls.1;have hgd:=PW (uW hck) hls.2;have hrl:(gD l_ s_).length=l_.length:=rZ _ _ _;refine aH (Rj ob) λ v3 hv3=>?_;subst v3;refine bH (λ (g1:Int)=>0≤g1∧g1≤l_.length∧(∀j:Nat,(j:Int)<g1→adi ((gD l_ s_).getD j dS) (l_.getD j aK)=false)) (λ (g1:Int)=>(l_.length - g1).toNat) ?_ ?_
  ·intro aj g1 d9 bV;obtain ⟨dN,bO,bE⟩:=d9;unfold Nq;refine wi ?_ ?_<;>intro c2
   ·refine wm<|wn ?_;refine aH (gV λ hc=>lT (Gm)) λ v6 hv6=>?_;subst v6;refine bL ?_ ?_<;>intro c3
    ·have jI:=c3;have c3:=nr c3;refine av ?_;(unfold fC; rw [hls.1,hls.2,show ownB l_ (gD l_ s_)=false from xM (i:=g1.toNat) om (by rw [show adi ((gD l_ s_).getD g1.toNat dS) (l_.getD g1.toNat aK)=true from jI]; rfl)]; rfl)
    ·have jI:=c3;have c3:=nr c3;refine wn<|bV _ ?_ ?_
     ·(refine ⟨ob,ob,λ j hj=>?_⟩; by_cases q:j<g1.toNat; (exact bE j om); (have e:j=g1.toNat:=by omega); subst e; exact jI)
     ·exact ob
   ·refine aH (wC ob (λ x hx=>by rw [hrl]; exact (Oo (Iy hls.1 x hx)).1)) λ v7 hv7=>?_;subst v7;refine av ?_;(unfold fC; rw [hls.1,hls.2,show ownB l_ (gD l_ s_)=true from zO λ j hj=>by rw [bE j om]; rfl]; rfl)
  ·(refine ⟨ob,ob,λ j hj=>by omega⟩)
theorem abn (h1:l_.length≤2000000) (h2:s_.length≤2000000) (h3:aeY l_):W (E5 l_ s_) (λ r=>r=vI l_ s_):=by
 unfold E5;refine aH (yw (uF ob)) λ v1 hv1=>?_;subst v1;refine bL ?_ ?_<;>intro c1
 ·have gM:=c1;have c1:=nr c1;refine av ?_;(unfold vI; rw [gM]; rfl)
 ·have gM:=c1;have c1:=nr c1;have hck:eD l_=0:=by simpa using gM
  refine aH (Bh ob ob ob) λ v2 hv2=>?_;subst v2;refine bL ?_ ?_<;>intro c2
  ·have kE:=c2;have c2:=nr c2;refine av ?_;(unfold vI; rw [gM,kE]; rfl)
  ·have kE:=c2;have c2:=nr c2;have hgd:=PW (uW hck) (show lU l_ s_=true by simpa using kE);refine aH (Rj ob) λ v3 hv3=>?_;subst v3;refine av ?_;(unfold vI; rw [gM,kE]; rfl)
end Go.Proofs.YtccjmcmolnbiiaaGreatDoor

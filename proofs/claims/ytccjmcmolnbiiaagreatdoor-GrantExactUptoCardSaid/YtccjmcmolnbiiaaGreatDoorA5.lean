/- A part of the proof. -/
import Derived.Test.YtccjmcmolnbiiaaGreatDoorA3
import Derived.Test.YtccjmcmolnbiiaaGreatDoorA4
set_option linter.defProp false
set_option linter.unusedVariables false
set_option linter.unusedSimpArgs false
set_option maxHeartbeats 4000000
namespace Go.Ab
def YD {α:Type} (l:List α) (P:α->Bool):Int:=if l.any P then((l.findIdx P:Nat):Int)else -1
variable {α:Type}
def qI (l:List α) (P:α->Bool):decide (0<=YD l P)=l.any P:=by
 unfold YD;cases l.any P<;>simp<;>omega
def af4 {l:List α} {P:α->Bool} {d:α} {i:Nat} (hi:i<l.length) (h:P (l.getD i d)=true):l.any P=true:=by
 rw[List.any_eq_true];refine⟨l[i],List.getElem_mem hi,?_⟩;rw[List.getD_eq_getElem?_getD,List.getElem?_eq_getElem hi]at h;exact h
def any_take_succ (l:List α) (P:α->Bool) (d:α) {i:Nat} (hi:i<l.length):(l.take (i+1)).any P=((l.take i).any P||P (l.getD i d)):=by
 rw[List.take_add_one,List.any_append,List.getElem?_eq_getElem hi,List.getD_eq_getElem?_getD,List.getElem?_eq_getElem hi];simp
def ajf {l:List α} {P:α->Bool} {d:α} {g:Int} (h0:0<=g) (h1:g<l.length) (hb:(l.take g.toNat).any P=false) (hp:P (l.getD g.toNat d)=true):YD l P=g:=by
 have hi:g.toNat<l.length:=by omega
 unfold YD;rw[af4 hi hp,if_pos rfl];have:l.findIdx P=g.toNat:=by
  rw[List.findIdx_eq hi];constructor
  ·rw[List.getD_eq_getElem?_getD,List.getElem?_eq_getElem hi]at hp;exact hp
  intro j hj;have:=List.any_eq_false.1 hb (l[j]'om) (by
   rw[List.mem_take_iff_getElem]
   exact⟨j,om,rfl⟩)
  simpa using this
 omega
def U3 {l:List α} {d:α} {p:α->M Bool} {P:α->Bool} (hp:∀x∈l,p x (P x)) (hl:(l.length:Int)<=9223372036854775807):W (dx (λ(self:Int->M Int) g=>bif(decide (g<(l.length:Int)))then
  need (0<=g/\g<(l.length:Int))<|
  bnd (p (l.getD g.toNat d)) λ v3=>
  bif v3 then
   ret g
  else
   need (aC (g+(1:Int)))<|
   self (g+(1:Int))
 else
  ret (-1:Int)) (0:Int)) (λ r=>r=YD l P):=by
 refine bK (λ(g:Int)=>0<=g/\g<=l.length/\(l.take g.toNat).any P=false) (λ(g:Int)=>(l.length - g).toNat) ?_ ⟨om,om,by simp⟩;intro self g ⟨h0,h1,hb⟩ ih;apply bL<;>intro c
 ·have c:=of_decide_eq_true c;refine aK ⟨h0,c⟩ ?_;have hi:g.toNat<l.length:=by omega
  have hm:l.getD g.toNat d∈l:=by
   rw[List.getD_eq_getElem?_getD,List.getElem?_eq_getElem hi];exact List.getElem_mem hi
  refine aG (yV (hp _ hm)) λ v hv=>?_;subst hv;apply bL<;>intro c2
  ·exact ay (ajf h0 c hb c2).symm
  refine aK (by unfold aC;omega) ?_;refine ih _ ⟨om,om,?_⟩ om;rw[show(g+1).toNat=g.toNat+1 by omega,any_take_succ l P d hi,hb,c2];rfl
 have c:=of_decide_eq_false c;refine ay ?_;unfold YD;rw[show g.toNat=l.length by omega,List.take_length]at hb;rw[hb];rfl
def ah8 {l:List α} {d:α} {P:α->Bool} (hl:(l.length:Int)<=9223372036854775807):W (dx (λ(self:Int->M Int) g=>bif(decide (g<(l.length:Int)))then
  need (0<=g/\g<(l.length:Int))<|
  bif(P (l.getD g.toNat d))then
   ret g
  else
   need (aC (g+(1:Int)))<|
   self (g+(1:Int))
 else
  ret (-1:Int)) (0:Int)) (λ r=>r=YD l P):=by
 refine bK (λ(g:Int)=>0<=g/\g<=l.length/\(l.take g.toNat).any P=false) (λ(g:Int)=>(l.length - g).toNat) ?_ ⟨om,om,by simp⟩;intro self g ⟨h0,h1,hb⟩ ih;apply bL<;>intro c
 ·have c:=of_decide_eq_true c;refine aK ⟨h0,c⟩ ?_;have hi:g.toNat<l.length:=by omega
  apply bL<;>intro c2
  ·exact ay (ajf h0 c hb c2).symm
  refine aK (by unfold aC;omega) ?_;refine ih _ ⟨om,om,?_⟩ om;rw[show(g+1).toNat=g.toNat+1 by omega,any_take_succ l P d hi,hb,c2];rfl
 have c:=of_decide_eq_false c;refine ay ?_;unfold YD;rw[show g.toNat=l.length by omega,List.take_length]at hb;rw[hb];rfl
def Sl {m:M Int} {v:Int} {b:Bool} (h:W m (λ r=>r=v)) (hb:decide (0<=v)=b):bnd m (λ v1=>ret (decide ((0:Int)<=v1))) b:=by
 refine mg (aG h λ v1 h1=>ay ?_);subst h1;exact hb
def ig {A:Type} [Inhabited A] {c:Prop} {d:Decidable c} {m:M A} {v:A} (h:c->m v):W (grd c m) (λ r=>r=v):=⟨v,h,rfl⟩
def amy {R:Type} {F:(Int->M R)->Int->M R} {Q:R->Prop} (n:Nat) (inv:Nat->Prop) (h:∀(self:Int->M R) (i:Nat),i<=n->inv i->(i<n->inv (i+1)->W (self ((i:Int)+1)) Q)->W (F self (i:Int)) Q) (h0:inv 0):W (dx F (0:Int)) Q:=by
 refine bK (λ(g:Int)=>∃i:Nat,g=i/\i<=n/\inv i) (λ(g:Int)=>(n - g).toNat) ?_ ⟨0,rfl,Nat.zero_le _,h0⟩;rintro self g ⟨i,rfl,hi,hv⟩ ih;refine h self i hi hv λ h1 h2=>?_;exact ih _ ⟨i+1,by simp,h1,h2⟩ om
def amA {σ R:Type} {len:Nat} {B:Nat->(σ->M R)->σ->M R} {fin:σ->M R} {Q:R->Prop} (inv:Nat->σ->Prop) (h:∀(k:Nat) (self:σ->M R) (s:σ),k<len->inv k s->(∀s',inv (k+1) s'->W (self s') Q)->W (B k self s) Q) (hf:∀s,inv len s->W (fin s) Q) {s:σ} (h0:inv 0 s):W (ace len B fin len s) Q:=by
 have key:∀j s,j<=len->inv (len - j) s->W (ace len B fin j s) Q:=by
  intro j;induction j with
  | zero=>intro s _ hi;exact hf s hi
  | succ j ih=>
   intro s hj hi;refine h (len - (j+1)) _ s om hi λ s' hs=>ih s' om ?_;rwa [show len - (j+1)+1=len - j by omega]at hs
 exact key len s (Nat.le_refl _) (by rw[Nat.sub_self];exact h0)
variable {p: Prop}
def eu {q: Prop} (h : p) (e : p = q := by(try simp only[Bool.and_eq_true, Bool.or_eq_true, Bool.and_eq_false_iff, Bool.or_eq_false_iff, decide_eq_true_eq, decide_eq_false_iff_not, Bool.not_eq_true', Bool.not_eq_false', beq_iff_eq, bne_iff_ne, ne_eq, beq_eq_false_iff_ne, bne_eq_false_iff_eq, Int.not_lt, Int.not_le, Bool.not_eq_true, Bool.not_eq_false]);try rfl) : q := e ▸ h
def ob (h : p := by
  intros;(try dsimp only);first
  | omega
  | (unfold aC;omega)
  | assumption
  | trivial
  | (simp only[aC, big, iE, List.length_take, List.length_drop, List.length_append, List.length_cons, List.length_nil, List.length_set, List.length_replicate, List.length_map, List.length_range];omega)
  | (simp only[aC, big, List.length_take, List.length_drop, List.length_append, List.length_cons, List.length_nil, List.length_set, List.length_replicate]at *;omega)
  | (rw[Int.tmod_eq_emod_of_nonneg (by omega)];(try simp only[List.length_cons, List.length_nil]);omega)
  | (repeat' apply And.intro) <;> first
    | omega
    | (unfold aC;omega)
    | assumption
    | trivial
    | (simp only[aC, big, iE, List.length_take, List.length_drop, List.length_append, List.length_cons, List.length_nil, List.length_set, List.length_replicate, List.length_map, List.length_range];omega)
    | (simp only[aC, big, List.length_take, List.length_drop, List.length_append, List.length_cons, List.length_nil, List.length_set, List.length_replicate]at *;omega)
    | (rw[Int.tmod_eq_emod_of_nonneg (by omega)];(try simp only[List.length_cons, List.length_nil]);omega)
    | ((simp only[List.forall_mem_append, List.forall_mem_singleton, List.forall_mem_cons, List.not_mem_nil, false_implies, implies_true, and_true]);done)
    | ((simp only[List.forall_mem_append, List.forall_mem_singleton, List.forall_mem_cons, List.not_mem_nil, false_implies, implies_true, and_true]);(repeat' apply And.intro) <;> first | omega | assumption | trivial | (simp only[aC, big, List.length_take, List.length_drop, List.length_append, List.length_cons, List.length_nil, List.length_set, List.length_replicate]at *;omega))
    | (simp_all;done)
    | (simp_all;omega)) : p := h
def wi {R : Type} {b : Bool} {q: Prop} {x y : M R} {Q : R -> Prop} (h1 : p -> W x Q) (h2 : q -> W y Q) (e1 : (b = true) = p := by(try simp only[Bool.and_eq_true, Bool.or_eq_true, Bool.and_eq_false_iff, Bool.or_eq_false_iff, decide_eq_true_eq, decide_eq_false_iff_not, Bool.not_eq_true', Bool.not_eq_false', beq_iff_eq, bne_iff_ne, ne_eq, beq_eq_false_iff_ne, bne_eq_false_iff_eq, Int.not_lt, Int.not_le, Bool.not_eq_true, Bool.not_eq_false]);try rfl) (e2 : (b = false) = q := by(try simp only[Bool.and_eq_true, Bool.or_eq_true, Bool.and_eq_false_iff, Bool.or_eq_false_iff, decide_eq_true_eq, decide_eq_false_iff_not, Bool.not_eq_true', Bool.not_eq_false', beq_iff_eq, bne_iff_ne, ne_eq, beq_eq_false_iff_ne, bne_eq_false_iff_eq, Int.not_lt, Int.not_le, Bool.not_eq_true, Bool.not_eq_false]);try rfl) : W (cond b x y) Q := bL (λ c => h1 (e1 ▸ c)) (λ c => h2 (e2 ▸ c))
def wn {R : Type} {d : Decidable p} {m : M R} {Q : R -> Prop} (h : W m Q) (hp : p := by exact ob) : W (need p m) Q := aK hp h
def wm {R : Type} {p': Prop} {d : Decidable p} {d' : Decidable p'} {m : M R} {Q : R -> Prop} (h : W m Q) (hp : p := by exact ob) (hp' : p' := by exact ob) : W (need p (need p' m)) Q := aK hp (aK hp' h)
def ak7 {p:Prop} (h:p:=by refine⟨ob,λ j hj=>by(try dsimp only at hj);omega⟩):p:=h
end Go.Ab
namespace Go.Proofs.YtccjmcmolnbiiaaGreatDoor
open Go.Ab
set_option maxRecDepth 100000
def U4 (x n:Int) (h:0<n) : -n<x.tmod n/\x.tmod n<n:=by
 have h1:=Int.natAbs_tmod x n;have h2:=Nat.mod_lt x.natAbs (show 0<n.natAbs by omega);omega
def af5:∀(k i:Nat) (g:Nat->AV) (s:ByteArray),(Kn k i g s).size=s.size+k:=by
 intro k;induction k with
 | zero=>intro i g s;rfl
 | succ k ih=>intro i g s;unfold Kn;rw[ih,ByteArray.size_push];omega
def ah9 (l:ag8):(strOf l).size=l.length:=by
 unfold strOf;rw[af5];simp
variable {α:Type} {i:Nat}
def aeb {P:α->Prop} {l:List α} {y:α} (h:∀x∈l,P x) (hy:P y):∀x∈l.set i y,P x:=λ x hx=>by
 rcases List.mem_or_eq_of_mem_set hx with e | e
 ·exact h x e
 subst e;exact hy
structure af6 (b:aM):Prop where
 ncl:b.bS.length<=5
 cl:∀c∈b.bS,c.aS.length<=2/\c.aP.length<=3
 nsu:b.bF.length<=3
 su:∀c∈b.bF,c.bY.length<=3
 ngr:b.aT.av.length<=5
 gr:∀c∈b.aT.av,c.bU.length<=10/\c.ak.length<=2
 nre:b.aZ.length<=4
 re:∀c∈b.aZ,c.eG.length<=100
 ndo:b.dz.length<=4
def getD_in {l:List α} (d:α) (h:i<l.length):l.getD i d∈l:=by
 rw[List.getD_eq_getElem?_getD,List.getElem?_eq_getElem h];exact List.getElem_mem h
def af7 {l_:ag8}:W (QN l_) (λ r=>r.2=0/\r.1.length<=600):=by
 unfold QN;refine aK (by(split<;>omega)) ?_;refine ay ?_;(simp only[List.length_take];refine⟨ag7,?_⟩;split<;>omega)
def af8 {x_:Int} {n_:Int} (h1:n_<=2000000):W (QO x_ n_) (λ r=>0<=r/\(0<n_->r<n_)/\(n_<1->r=0)):=by
 unfold QO;refine wi ?_ ?_<;>intro c1
 ·exact ay<|ob
 refine wn<|aK (by(have:=U4 x_ n_ om;unfold aC;omega)) ?_;refine wn<|ay ?_;(have h:=U4 x_ n_ om;have h2:=U4 (x_.tmod n_+n_) n_ om;have h3:=Int.tmod_nonneg (a:=x_.tmod n_+n_) n_ om;omega)
variable {dN:dI}
def bN {n_:Int} (h1:n_<=2000000) (h2:0<=dN.At) (h3:dN.L.length<=600):W (dP n_ dN) (λ r=>0<=r.1/\(0<n_->r.1<n_)/\(n_<1->r.1=0)/\0<=r.2.At/\r.2.L.length<=600):=by
 unfold dP;refine wi ?_ ?_<;>intro c1
 ·exact ay<|ob
 refine wm<|wn ?_;refine aG (af8 ob) λ v1 hv1=>?_;obtain⟨E8,Dc,E9⟩:=hv1;exact ay<|ob
def fT {wU:Int} {yT:Int} (h1 : -2000000<=wU) (h2:yT<=100000) (h3:wU<=yT+1) (h4:yT - wU<=100000) (h5:0<=dN.At) (h6:dN.L.length<=600):W (fP wU yT dN) (λ r=>wU<=r.1/\(wU<=yT->r.1<=yT)/\(yT<wU->r.1=wU)/\0<=r.2.At/\r.2.L.length<=600):=by
 unfold fP;refine wm<|aG (bN ob ob ob) λ v1 hv1=>?_;obtain⟨E8,Dc,E9,G6,JG⟩:=hv1;refine wn<|ay ?_;exact ob
def fI {l_:ag8} (h1:0<l_.length) (h2:l_.length<=1000) (h3:0<=dN.At) (h4:dN.L.length<=600):W (gK l_ dN) (λ r=>(∃i:Nat,i<l_.length/\r.1=l_.getD i 0)/\0<=r.2.At/\r.2.L.length<=600):=by
 unfold gK;refine aG (bN ob ob ob) λ v1 hv1=>?_;obtain⟨E8,Dc,E9,G6,JG⟩:=hv1;refine wn<|ay ?_;(exact⟨⟨v1.1.toNat,om,rfl⟩,ob⟩)
def JH {l_:aiS} (h1:0<l_.length) (h2:l_.length<=1000) (h3:0<=dN.At) (h4:dN.L.length<=600):W (sJ l_ dN) (λ r=>(∃i:Nat,i<l_.length/\r.1=l_.getD i ByteArray.empty)/\0<=r.2.At/\r.2.L.length<=600):=by
 unfold sJ;refine aG (bN ob ob ob) λ v1 hv1=>?_;obtain⟨E8,Dc,E9,G6,JG⟩:=hv1;refine wn<|ay ?_;(exact⟨⟨v1.1.toNat,om,rfl⟩,ob⟩)
def kV:W (o9) (λ r=>r=[({ data:=#[117,97,114,116] }:ByteArray),({ data:=#[115,112,105] }:ByteArray),({ data:=#[105,50,99] }:ByteArray),({ data:=#[112,119,109] }:ByteArray)]):=by
 unfold o9;refine ay ?_;rfl
variable {k_:Int}
def zQ {n_:Int} (h1:0<=n_) (h2:n_<=1000) (h3:1<=k_) (h4:k_<=100) (h5:0<=dN.At) (h6:dN.L.length<=600):W (oN n_ k_ dN) (λ r=>r.1.length<=n_.toNat/\(∀p∈r.1,0<=p/\p<n_)/\0<=r.2.At/\r.2.L.length<=600):=by
 unfold oN;refine bK (λ(g1:Int×ag8×Int×ag8)=>0<=g1.1/\g1.1<=n_/\0<=g1.2.2.1/\g1.2.1.length<=600/\(g1.2.2.2.length:Int)<=g1.1/\(∀p∈g1.2.2.2,0<=p/\p<n_)) (λ(g1:Int×ag8×Int×ag8)=>(n_ - g1.1).toNat) ?_ ?_
 ·intro aj g1 eT dA;obtain⟨dW,cB,bH,jW,MW,amB⟩:=eT;unfold Gx;refine wi ?_ ?_<;>intro c1
  ·refine aG (bN ob ob ob) λ v3 hv3=>?_;obtain⟨af9,ada,aga,amC,apS⟩:=hv3;refine wn<|wi ?_ ?_<;>intro c2
   ·refine wm<|dA _ ?_ ?_
    ·exact ob
    exact ob
   refine wn<|dA _ ?_ ?_
   ·exact ob
   exact ob
  exact ay<|ob
 exact ob
variable {jB:Int}
def Tx (h1:0<=jB) (h2:jB<=100) (h3:0<=dN.At) (h4:dN.L.length<=600):W (tX jB dN) (λ r=>r.1.length<=jB.toNat/\(∀x∈r.1,x.eG.length<=100)/\0<=r.2.At/\r.2.L.length<=600):=by
 unfold tX;refine wn<|aG (bN ob ob ob) λ v1 hv1=>?_;obtain⟨E8,Dc,E9,G6,JG⟩:=hv1;refine bK (λ(g1:Int×ag8×Int×ajB)=>0<=g1.1/\0<=g1.2.2.1/\g1.2.1.length<=600/\(g1.2.2.2.length:Int)+g1.1<=jB/\(∀x∈g1.2.2.2,x.eG.length<=100)) (λ(g1:Int×ag8×Int×ajB)=>g1.1.toNat) ?_ ?_
 ·intro aj g1 eT dA;obtain⟨dW,cB,bH,jW,MW⟩:=eT;unfold CZ;refine wi ?_ ?_<;>intro c1
  ·refine aG (zQ ob ob ob ob ob ob) λ v4 hv4=>?_;obtain⟨ajg,agb,ajh,amD⟩:=hv4;refine wm<|dA _ ?_ ?_
   ·exact ob
   exact ob
  exact ay<|ob
 exact ob
def Rk (h1:0<=jB) (h2:jB<=50) (h3:0<=dN.At) (h4:dN.L.length<=600):W (rE jB dN) (λ r=>r.1.length<=jB.toNat/\0<=r.2.At/\r.2.L.length<=600):=by
 unfold rE;refine wn<|aG (bN ob ob ob) λ v1 hv1=>?_;obtain⟨E8,Dc,E9,G6,JG⟩:=hv1;refine bK (λ(g1:Int×ag8×Int×aiS)=>0<=g1.1/\0<=g1.2.2.1/\g1.2.1.length<=600/\(g1.2.2.2.length:Int)+g1.1<=jB) (λ(g1:Int×ag8×Int×aiS)=>g1.1.toNat) ?_ ?_
 ·intro aj g1 eT dA;obtain⟨dW,cB,bH,jW⟩:=eT;unfold Bj;refine wi ?_ ?_<;>intro c1
  ·refine aG (kV) λ v6 hv6=>?_;subst hv6;refine aG (JH ob ob ob ob) λ v7 hv7=>?_;obtain⟨amE,amF,amG⟩:=hv7;refine wm<|dA _ ?_ ?_
   ·exact ob
   exact ob
  exact ay<|ob
 exact ob
def Rl (h1:0<=jB) (h2:jB<=50) (h3:0<=dN.At) (h4:dN.L.length<=600):W (rD jB dN) (λ r=>r.1.length<=jB.toNat/\0<=r.2.At/\r.2.L.length<=600):=by
 unfold rD;refine wn<|aG (bN ob ob ob) λ v1 hv1=>?_;obtain⟨E8,Dc,E9,G6,JG⟩:=hv1;refine bK (λ(g1:Int×ag8×Int×ajk)=>0<=g1.1/\0<=g1.2.2.1/\g1.2.1.length<=600/\(g1.2.2.2.length:Int)+g1.1<=jB) (λ(g1:Int×ag8×Int×ajk)=>g1.1.toNat) ?_ ?_
 ·intro aj g1 eT dA;obtain⟨dW,cB,bH,jW⟩:=eT;unfold Bh;refine wi ?_ ?_<;>intro c1
  ·refine wn<|aG (fT ob ob ob ob ob ob) λ v6 hv6=>?_;obtain⟨apT,apU,apV,apW,apX⟩:=hv6;refine aG (bN ob ob ob) λ v7 hv7=>?_;obtain⟨amE,amF,amG,atK,atL⟩:=hv7;refine wm<|dA _ ?_ ?_
   ·exact ob
   exact ob
  exact ay<|ob
 exact ob
def Tz (h1:0<=dN.At) (h2:dN.L.length<=600):W (tT dN) (λ r=>r.1.length<=5/\(∀c∈r.1,c.aS.length<=2/\c.aP.length<=3)/\0<=r.2.At/\r.2.L.length<=600):=by
 unfold tT;refine aG (bN ob ob ob) λ v1 hv1=>?_;obtain⟨E8,Dc,E9,G6,JG⟩:=hv1;refine bK (λ(g1:Int×ag8×Int×ah3)=>0<=g1.1/\0<=g1.2.2.1/\g1.2.1.length<=600/\(g1.2.2.2.length:Int)+g1.1<=5/\(∀c∈g1.2.2.2,c.aS.length<=2/\c.aP.length<=3)) (λ(g1:Int×ag8×Int×ah3)=>g1.1.toNat) ?_ ?_
 ·intro aj g1 eT dA;obtain⟨dW,cB,bH,jW,MW⟩:=eT;unfold CW;refine wi ?_ ?_<;>intro c1
  ·refine aG (fI ob ob ob ob) λ v28 hv28=>?_;obtain⟨avC,avD,avE⟩:=hv28;refine wi ?_ ?_<;>intro c2
   ·refine aG (bN ob ob ob) λ v41 avF=>?_;obtain⟨avG,avH,avI,avJ,avK⟩:=avF;refine wi ?_ ?_<;>intro c3
    ·refine aG (bN ob ob ob) λ v42 avL=>?_;obtain⟨avM,avN,avO,avP,avQ⟩:=avL;refine aG (bN ob ob ob) λ v49 aia=>?_;obtain⟨amH,amI,amJ,amK,amL⟩:=aia;refine wi ?_ ?_<;>intro c4
     ·refine aG (fI ob ob ob ob) λ v50 aec=>?_;obtain⟨avR,avS,avT⟩:=aec;unfold gQ;refine aG (bN ob ob ob) λ v47 aed=>?_;obtain⟨aee,aef,aeg,aeh,aei⟩:=aed;refine wi ?_ ?_<;>intro c5
      ·refine aG (fI ob ob ob ob) λ v48 aa1=>?_;obtain⟨aej,aek,ael⟩:=aa1;unfold eP;refine wm<|dA _ ?_ ?_
       ·exact ob
       exact ob
      unfold eP;refine wm<|dA _ ?_ ?_
      ·exact ob
      exact ob
     refine wi ?_ ?_<;>intro c6
     ·refine aG (fI ob ob ob ob) λ v51 aq9=>?_;obtain⟨avU,avV,avW⟩:=aq9;unfold gQ;refine aG (bN ob ob ob) λ v47 aed=>?_;obtain⟨aee,aef,aeg,aeh,aei⟩:=aed;refine wi ?_ ?_<;>intro c7
      ·refine aG (fI ob ob ob ob) λ v48 aa1=>?_;obtain⟨aej,aek,ael⟩:=aa1;unfold eP;refine wm<|dA _ ?_ ?_
       ·exact ob
       exact ob
      unfold eP;refine wm<|dA _ ?_ ?_
      ·exact ob
      exact ob
     refine wi ?_ ?_<;>intro c8
     ·unfold gQ;refine aG (bN ob ob ob) λ v47 aed=>?_;obtain⟨aee,aef,aeg,aeh,aei⟩:=aed;refine wi ?_ ?_<;>intro c9
      ·refine aG (fI ob ob ob ob) λ v48 aa1=>?_;obtain⟨aej,aek,ael⟩:=aa1;unfold eP;refine wm<|dA _ ?_ ?_
       ·exact ob
       exact ob
      unfold eP;refine wm<|dA _ ?_ ?_
      ·exact ob
      exact ob
     refine wi ?_ ?_<;>intro c10
     ·refine wn<|aG (bN ob ob ob) λ v52 avX=>?_;obtain⟨avY,avZ,av0,av1,av2⟩:=avX;refine wn ?_;unfold gQ;refine aG (bN ob ob ob) λ v47 aed=>?_;obtain⟨aee,aef,aeg,aeh,aei⟩:=aed;refine wi ?_ ?_<;>intro c11
      ·refine aG (fI ob ob ob ob) λ v48 aa1=>?_;obtain⟨aej,aek,ael⟩:=aa1;unfold eP;refine wm<|dA _ ?_ ?_
       ·exact ob
       exact ob
      unfold eP;refine wm<|dA _ ?_ ?_
      ·exact ob
      exact ob
     unfold gQ;refine aG (bN ob ob ob) λ v47 aed=>?_;obtain⟨aee,aef,aeg,aeh,aei⟩:=aed;refine wi ?_ ?_<;>intro c12
     ·refine aG (fI ob ob ob ob) λ v48 aa1=>?_;obtain⟨aej,aek,ael⟩:=aa1;unfold eP;refine wm<|dA _ ?_ ?_
      ·exact ob
      exact ob
     unfold eP;refine wm<|dA _ ?_ ?_
     ·exact ob
     exact ob
    unfold eP;refine wm<|dA _ ?_ ?_
    ·exact ob
    exact ob
   refine wn ?_;unfold eP;refine wm<|dA _ ?_ ?_
   ·exact ob
   exact ob
  exact ay<|ob
 exact ob
def Py (h1:0<=dN.At) (h2:dN.L.length<=600):W (p8 dN) (λ r=>r.1.length<=3/\(∀c∈r.1,c.bY.length<=3)/\0<=r.2.At/\r.2.L.length<=600):=by
 unfold p8;refine aG (bN ob ob ob) λ v1 hv1=>?_;obtain⟨E8,Dc,E9,G6,JG⟩:=hv1;refine bK (λ(g1:Int×ag8×Int×ahf)=>0<=g1.1/\0<=g1.2.2.1/\g1.2.1.length<=600/\(g1.2.2.2.length:Int)+g1.1<=3/\(∀c∈g1.2.2.2,c.bY.length<=3)) (λ(g1:Int×ag8×Int×ahf)=>g1.1.toNat) ?_ ?_
 ·intro aj g1 eT dA;obtain⟨dW,cB,bH,jW,MW⟩:=eT;unfold zn;refine wi ?_ ?_<;>intro c1
  ·refine wn<|aG (fT ob ob ob ob ob ob) λ v12 JI=>?_;obtain⟨ara,arb,ard,av3,av4⟩:=JI;refine aG (fI ob ob ob ob) λ v13 U5=>?_;obtain⟨arf,arh,ari⟩:=U5;refine aG (fI ob ob ob ob) λ v14 acf=>?_;obtain⟨av5,av6,av7⟩:=acf;refine aG (bN ob ob ob) λ v15 Rm=>?_;obtain⟨av8,av9,awc,awd,awe⟩:=Rm;refine wi ?_ ?_<;>intro c2
   ·unfold kJ;refine aG (bN ob ob ob) λ v16 aem=>?_;obtain⟨arj,ark,arl,arn,aro⟩:=aem;refine wn<|wi ?_ ?_<;>intro c3
    ·refine wm<|dA _ ?_ ?_
     ·exact ob
     exact ob
    refine wi ?_ ?_<;>intro c4
    ·refine wm<|dA _ ?_ ?_
     ·exact ob
     exact ob
    refine wi ?_ ?_<;>intro c5
    ·refine wm<|dA _ ?_ ?_
     ·exact ob
     exact ob
    refine wi ?_ ?_<;>intro c6
    ·refine wm<|dA _ ?_ ?_
     ·exact ob
     exact ob
    refine wm<|dA _ ?_ ?_
    ·exact ob
    exact ob
   unfold kJ;refine aG (bN ob ob ob) λ v16 aem=>?_;obtain⟨arj,ark,arl,arn,aro⟩:=aem;refine wn<|wi ?_ ?_<;>intro c7
   ·refine wm<|dA _ ?_ ?_
    ·exact ob
    exact ob
   refine wi ?_ ?_<;>intro c8
   ·refine wm<|dA _ ?_ ?_
    ·exact ob
    exact ob
   refine wi ?_ ?_<;>intro c9
   ·refine wm<|dA _ ?_ ?_
    ·exact ob
    exact ob
   refine wi ?_ ?_<;>intro c10
   ·refine wm<|dA _ ?_ ?_
    ·exact ob
    exact ob
   refine wm<|dA _ ?_ ?_
   ·exact ob
   exact ob
  exact ay<|ob
 exact ob
def TA (h1:0<=dN.At) (h2:dN.L.length<=600):W (tV dN) (λ r=>r.1.av.length<=5/\(∀c∈r.1.av,c.bU.length<=10/\c.ak.length<=2)/\0<=r.2.At/\r.2.L.length<=600):=by
 unfold tV;refine aG (fT ob ob ob ob ob ob) λ v1 hv1=>?_;obtain⟨E8,Dc,E9,G6,JG⟩:=hv1;refine aG (bN ob ob ob) λ v2 hv2=>?_;obtain⟨agc,adb,agd,amM,apY⟩:=hv2;refine bK (λ(g1:Int×ag8×Int×ajZ)=>0<=g1.1/\0<=g1.2.2.1/\g1.2.1.length<=600/\(g1.2.2.2.length:Int)+g1.1<=5/\(∀c∈g1.2.2.2,c.bU.length<=10/\c.ak.length<=2)) (λ(g1:Int×ag8×Int×ajZ)=>g1.1.toNat) ?_ ?_
 ·intro aj g1 eT dA;obtain⟨dW,cB,bH,jW,MW⟩:=eT;unfold CY;refine wi ?_ ?_<;>intro c1
  ·refine wn<|aK (by(rw[ah9,show({ data:=#[103] }:ByteArray).size=1 from rfl];simp only[List.length_cons,List.length_nil];omega)) ?_;refine aG (bN ob ob ob) λ v35 arp=>?_;obtain⟨awf,awg,awh,awi,awj⟩:=arp;refine bK (λ(g12:Int×ag8×Int×ag8)=>0<=g12.1/\0<=g12.2.2.1/\g12.2.1.length<=600/\(g12.2.2.2.length:Int)<=g12.1/\g12.1<=10) (λ(g12:Int×ag8×Int×ag8)=>(10 - g12.1).toNat) ?_ ?_
   ·intro ah5 g12 atM atN;obtain⟨awk,awl,awm,awn,awo⟩:=atM;unfold CX;refine wi ?_ ?_<;>intro c2
    ·refine aG (fT ob ob ob ob ob ob) λ v38 hv38=>?_;obtain⟨awp,awq,awr,awt,awu⟩:=hv38;refine wn<|wi ?_ ?_<;>intro c3
     ·refine wm<|atN _ ?_ ?_
      ·exact ob
      exact ob
     refine wi ?_ ?_<;>intro c4
     ·unfold lF;refine aG (bN ob ob ob) λ v39 hv39=>?_;obtain⟨arq,ars,aru,arv,arw⟩:=hv39;refine aG (kV) λ v40 amN=>?_;subst amN;refine wn<|aG (bN ob ob ob) λ v43 amO=>?_;obtain⟨arx,arz,arA,arB,arC⟩:=amO;refine wi ?_ ?_<;>intro c5
      ·refine aG (kV) λ v44 amP=>?_;subst amP;refine wm<|wm ?_;unfold jw;refine wm<|dA _ ?_ ?_
       ·exact ob
       exact ob
      unfold jw;refine wm<|dA _ ?_ ?_
      ·exact ob
      exact ob
     unfold lF;refine aG (bN ob ob ob) λ v39 hv39=>?_;obtain⟨arq,ars,aru,arv,arw⟩:=hv39;refine aG (kV) λ v40 amN=>?_;subst amN;refine wn<|aG (bN ob ob ob) λ v43 amO=>?_;obtain⟨arx,arz,arA,arB,arC⟩:=amO;refine wi ?_ ?_<;>intro c6
     ·refine aG (kV) λ v44 amP=>?_;subst amP;refine wm<|wm ?_;unfold jw;refine wm<|dA _ ?_ ?_
      ·exact ob
      exact ob
     unfold jw;refine wm<|dA _ ?_ ?_
     ·exact ob
     exact ob
    refine wn<|wi ?_ ?_<;>intro c7
    ·unfold j5;refine aG (bN ob ob ob) λ v45 amQ=>?_;obtain⟨arD,arE,arF,arG,arH⟩:=amQ;refine aG (kV) λ v46 aib=>?_;subst aib;refine wn<|aG (bN ob ob ob) λ v49 aia=>?_;obtain⟨amH,amI,amJ,amK,amL⟩:=aia;refine wi ?_ ?_<;>intro c8
     ·refine aG (kV) λ v50 aec=>?_;subst aec;refine wm<|wm ?_;unfold iU;refine wm<|dA _ ?_ ?_
      ·exact ob
      exact ob
     unfold iU;refine wm<|dA _ ?_ ?_
     ·exact ob
     exact ob
    unfold j5;refine aG (bN ob ob ob) λ v45 amQ=>?_;obtain⟨arD,arE,arF,arG,arH⟩:=amQ;refine aG (kV) λ v46 aib=>?_;subst aib;refine wn<|aG (bN ob ob ob) λ v49 aia=>?_;obtain⟨amH,amI,amJ,amK,amL⟩:=aia;refine wi ?_ ?_<;>intro c9
    ·refine aG (kV) λ v50 aec=>?_;subst aec;refine wm<|wm ?_;unfold iU;refine wm<|dA _ ?_ ?_
     ·exact ob
     exact ob
    unfold iU;refine wm<|dA _ ?_ ?_
    ·exact ob
    exact ob
   exact ob
  exact ay<|ob
 exact ob
def U6 (h1:0<=dN.At) (h2:dN.L.length<=600):W (vo dN) (λ r=>af6 r.1/\0<=r.2.At/\r.2.L.length<=600):=by
 unfold vo;refine aG (Tz ob ob) λ v1 hv1=>?_;obtain⟨E8,Dc,E9,G6⟩:=hv1;refine aG (Py ob ob) λ v2 hv2=>?_;obtain⟨agc,adb,agd,amM⟩:=hv2;refine aG (TA ob ob) λ v3 hv3=>?_;obtain⟨af9,ada,aga,amC⟩:=hv3;refine aG (Tx ob ob ob ob) λ v4 hv4=>?_;obtain⟨ajg,agb,ajh,amD⟩:=hv4;refine aG (Rl ob ob ob ob) λ v5 hv5=>?_;obtain⟨apZ,ap0,ap1⟩:=hv5;refine ay ?_;(refine⟨⟨ob,Dc,ob,adb,ob,ada,ob,agb,ob⟩,ob,ob⟩)
variable {b_:aM}
def U7 (h1:b_.bS.length<=100) (h2:0<=dN.At) (h3:dN.L.length<=600):W (vv b_ dN) (λ r=>0<=r.2.At/\r.2.L.length<=600):=by
 unfold vv;refine aG (bN ob ob ob) λ v1 hv1=>?_;obtain⟨E8,Dc,E9,G6,JG⟩:=hv1;refine aG (fI ob ob ob ob) λ v2 hv2=>?_;obtain⟨agc,adb,agd⟩:=hv2;refine aG (fI ob ob ob ob) λ v3 hv3=>?_;obtain⟨af9,ada,aga⟩:=hv3;exact ay<|ob
def WO (h1:b_.bF.length<=100) (h2:0<=dN.At) (h3:dN.L.length<=600):W (xW b_ dN) (λ r=>0<=r.2.At/\r.2.L.length<=600):=by
 unfold xW;refine aG (bN ob ob ob) λ v1 hv1=>?_;obtain⟨E8,Dc,E9,G6,JG⟩:=hv1;refine aG (fI ob ob ob ob) λ v2 hv2=>?_;obtain⟨agc,adb,agd⟩:=hv2;refine aG (fI ob ob ob ob) λ v3 hv3=>?_;obtain⟨af9,ada,aga⟩:=hv3;refine aG (fI ob ob ob ob) λ v4 hv4=>?_;obtain⟨ajg,agb,ajh⟩:=hv4;exact ay<|ob
variable {v1:Int×dI} {g1:Int×ag8×Int×aha} {v46:Int×dI} {g14:ag8×Int×ajc} {g15:ag8×Int×ai8} {g16:ag8×Int×aiS} {Q:(aha×dI)->Prop}
def wO {aj:(Int×ag8×Int×aha)->M (aha×dI)} {v53:ag8×dI} {g18:ag8×Int×ag8} (dA:∀s':(Int×ag8×Int×aha),(0<=s'.1/\s'.1<=v1.1/\0<=s'.2.2.1/\s'.2.1.length<=600/\(s'.2.2.2.length:Int)=s'.1/\(∀x∈s'.2.2.2,x.bG.length<=1/\x.d9.length<=1/\x.ak.length<=2/\x.aZ.length<=100/\x.aY.length<=100/\(∀p∈x.aY,0<=p/\p<v1.1)))->(v1.1 - s'.1).toNat<(v1.1 - g1.1).toNat->W (aj s') Q) (hc:0<=g18.2.1/\g18.1.length<=600/\g18.2.2.length<=100/\(∀p∈g18.2.2,0<=p/\p<v1.1)/\g14.2.2.length<=1/\g15.2.2.length<=1/\g16.2.2.length<=2/\v53.1.length<=100/\0<=g1.1/\g1.1<v1.1/\v1.1<=51/\(g1.2.2.2.length:Int)=g1.1/\(∀x∈g1.2.2.2,x.bG.length<=1/\x.d9.length<=1/\x.ak.length<=2/\x.aZ.length<=100/\x.aY.length<=100/\(∀p∈x.aY,0<=p/\p<v1.1))):W (kK g1 aj v46 g14 g15 g16 v53 g18) Q:=by
 obtain⟨amR,amS,amT,aic,aie,aif,aoO,aoP,aoQ,aji,ap2,atO,atP⟩:=hc;unfold kK;refine wm<|dA _ ?_ ?_
 ·exact ob
 exact ob
def wP {aj:(Int×ag8×Int×aha)->M (aha×dI)} {v53:ag8×dI} {g19:Int×ag8×Int} (dA:∀s':(Int×ag8×Int×aha),(0<=s'.1/\s'.1<=v1.1/\0<=s'.2.2.1/\s'.2.1.length<=600/\(s'.2.2.2.length:Int)=s'.1/\(∀x∈s'.2.2.2,x.bG.length<=1/\x.d9.length<=1/\x.ak.length<=2/\x.aZ.length<=100/\x.aY.length<=100/\(∀p∈x.aY,0<=p/\p<v1.1)))->(v1.1 - s'.1).toNat<(v1.1 - g1.1).toNat->W (aj s') Q) (hc:0<=g19.2.2/\g19.2.1.length<=600/\0<=g19.1/\g19.1<=51/\g14.2.2.length<=1/\g15.2.2.length<=1/\g16.2.2.length<=2/\v53.1.length<=100/\g19.1<=v1.1/\0<=g1.1/\g1.1<v1.1/\v1.1<=51/\(g1.2.2.2.length:Int)=g1.1/\(∀x∈g1.2.2.2,x.bG.length<=1/\x.d9.length<=1/\x.ak.length<=2/\x.aZ.length<=100/\x.aY.length<=100/\(∀p∈x.aY,0<=p/\p<v1.1))):W (kL g1 aj v46 g14 g15 g16 v53 g19) Q:=by
 obtain⟨amR,amS,amT,aic,aie,aif,aoO,aoP,aoQ,aji,ap2,atO,atP,atQ⟩:=hc;unfold kL;refine aG (zQ ob ob ob ob ob ob) λ v60 awv=>?_;obtain⟨aww,arI,awx,awy⟩:=awv;exact wO (v1:=v1) (λ a b c=>dA a b c) (by(refine⟨ob,ob,ob,λ p hp=>(by have:=arI p hp;omega),ob,ob,ob,ob,ob,ob,ob,ob,atQ⟩))
def wQ {aj:(Int×ag8×Int×aha)->M (aha×dI)} (dA:∀s':(Int×ag8×Int×aha),(0<=s'.1/\s'.1<=v1.1/\0<=s'.2.2.1/\s'.2.1.length<=600/\(s'.2.2.2.length:Int)=s'.1/\(∀x∈s'.2.2.2,x.bG.length<=1/\x.d9.length<=1/\x.ak.length<=2/\x.aZ.length<=100/\x.aY.length<=100/\(∀p∈x.aY,0<=p/\p<v1.1)))->(v1.1 - s'.1).toNat<(v1.1 - g1.1).toNat->W (aj s') Q) (hc:0<=g16.2.1/\g16.1.length<=600/\g14.2.2.length<=1/\g15.2.2.length<=1/\g16.2.2.length<=2/\b_.aZ.length<=4/\0<=g1.1/\g1.1<v1.1/\v1.1<=51/\(g1.2.2.2.length:Int)=g1.1/\(∀x∈g1.2.2.2,x.bG.length<=1/\x.d9.length<=1/\x.ak.length<=2/\x.aZ.length<=100/\x.aY.length<=100/\(∀p∈x.aY,0<=p/\p<v1.1))):W (kM b_ v1 g1 aj v46 g14 g15 g16) Q:=by
 obtain⟨amR,amS,amT,aic,aie,aif,aoO,aoP,aoQ,aji,ap2⟩:=hc;unfold kM;refine aG (zQ ob ob ob ob ob ob) λ v53 awz=>?_;obtain⟨awC,awD,awE,awF⟩:=awz;refine aG (bN ob ob ob) λ v58 awG=>?_;obtain⟨awH,awI,awJ,awK,awL⟩:=awG;refine wi ?_ ?_<;>intro c1
 ·refine aG (bN ob ob ob) λ v61 awM=>?_;obtain⟨awN,awO,awP,awQ,awR⟩:=awM;refine wi ?_ ?_<;>intro c2
  ·exact wP (v1:=v1) (λ a b c=>dA a b c) ob
  exact wP (v1:=v1) (λ a b c=>dA a b c) ob
 exact wO (v1:=v1) (λ a b c=>dA a b c) ob
def oQ {aj:(Int×ag8×Int×aha)->M (aha×dI)} (dA:∀s':(Int×ag8×Int×aha),(0<=s'.1/\s'.1<=v1.1/\0<=s'.2.2.1/\s'.2.1.length<=600/\(s'.2.2.2.length:Int)=s'.1/\(∀x∈s'.2.2.2,x.bG.length<=1/\x.d9.length<=1/\x.ak.length<=2/\x.aZ.length<=100/\x.aY.length<=100/\(∀p∈x.aY,0<=p/\p<v1.1)))->(v1.1 - s'.1).toNat<(v1.1 - g1.1).toNat->W (aj s') Q) (hc:0<=g15.2.1/\g15.1.length<=600/\g14.2.2.length<=1/\g15.2.2.length<=1/\b_.aZ.length<=4/\0<=g1.1/\g1.1<v1.1/\v1.1<=51/\(g1.2.2.2.length:Int)=g1.1/\(∀x∈g1.2.2.2,x.bG.length<=1/\x.d9.length<=1/\x.ak.length<=2/\x.aZ.length<=100/\x.aY.length<=100/\(∀p∈x.aY,0<=p/\p<v1.1))):W (jH b_ v1 g1 aj v46 g14 g15) Q:=by
 obtain⟨amR,amS,amT,aic,aie,aif,aoO,aoP,aoQ,aji⟩:=hc;unfold jH;refine aG (bN ob ob ob) λ v62 awS=>?_;obtain⟨awT,awU,awV,awW,awX⟩:=awS;refine wi ?_ ?_<;>intro c1
 ·refine aG (Rk ob ob ob ob) λ v63 awY=>?_;obtain⟨awZ,aw0,aw1⟩:=awY;exact wQ (λ a b c=>dA a b c) ob
 exact wQ (λ a b c=>dA a b c) ob
def qc {aj:(Int×ag8×Int×aha)->M (aha×dI)} (dA:∀s':(Int×ag8×Int×aha),(0<=s'.1/\s'.1<=v1.1/\0<=s'.2.2.1/\s'.2.1.length<=600/\(s'.2.2.2.length:Int)=s'.1/\(∀x∈s'.2.2.2,x.bG.length<=1/\x.d9.length<=1/\x.ak.length<=2/\x.aZ.length<=100/\x.aY.length<=100/\(∀p∈x.aY,0<=p/\p<v1.1)))->(v1.1 - s'.1).toNat<(v1.1 - g1.1).toNat->W (aj s') Q) (hc:0<=g14.2.1/\g14.1.length<=600/\g14.2.2.length<=1/\b_.aZ.length<=4/\b_.bF.length<=3/\0<=g1.1/\g1.1<v1.1/\v1.1<=51/\(g1.2.2.2.length:Int)=g1.1/\(∀x∈g1.2.2.2,x.bG.length<=1/\x.d9.length<=1/\x.ak.length<=2/\x.aZ.length<=100/\x.aY.length<=100/\(∀p∈x.aY,0<=p/\p<v1.1))):W (jS b_ v1 g1 aj v46 g14) Q:=by
 obtain⟨amR,amS,amT,aic,aie,aif,aoO,aoP,aoQ,aji⟩:=hc;unfold jS;refine wi ?_ ?_<;>intro c1
 ·refine aG (bN ob ob ob) λ v64 hv64=>?_;obtain⟨aw2,aw3,aw4,aw5,aw6⟩:=hv64;refine wi ?_ ?_<;>intro c2
  ·refine aG (WO ob ob ob) λ v65 aw7=>?_;obtain⟨aw8,aw9⟩:=aw7;refine wn ?_;exact oQ (λ a b c=>dA a b c) ob
  exact oQ (λ a b c=>dA a b c) ob
 refine wn ?_;exact oQ (λ a b c=>dA a b c) ob
def Rn (h1:af6 b_) (h2:0<=jB) (h3:jB<=50) (h4:0<=dN.At) (h5:dN.L.length<=600):W (rF b_ jB dN) (λ r=>r.1.length<=jB.toNat/\(∀x∈r.1,x.bG.length<=1/\x.d9.length<=1/\x.ak.length<=2/\x.aZ.length<=100/\x.aY.length<=100/\(∀p∈x.aY,0<=p/\p<(r.1.length:Int)))/\0<=r.2.At/\r.2.L.length<=600):=by
 obtain⟨q1,q2,q3,q4,q5,q6,q7,q8,q9⟩:=h1;unfold rF;refine wn<|aG (bN ob ob ob) λ v1 hv1=>?_;obtain⟨E8,Dc,E9,G6,JG⟩:=hv1;refine bK (λ(g1:Int×ag8×Int×aha)=>0<=g1.1/\g1.1<=v1.1/\0<=g1.2.2.1/\g1.2.1.length<=600/\(g1.2.2.2.length:Int)=g1.1/\(∀x∈g1.2.2.2,x.bG.length<=1/\x.d9.length<=1/\x.ak.length<=2/\x.aZ.length<=100/\x.aY.length<=100/\(∀p∈x.aY,0<=p/\p<v1.1))) (λ(g1:Int×ag8×Int×aha)=>(v1.1 - g1.1).toNat) ?_ ?_
 ·intro aj g1 eT dA;obtain⟨dW,cB,bH,jW,MW,amB⟩:=eT;unfold Bl;refine wi ?_ ?_<;>intro c1
  ·refine wn<|aG (fT ob ob ob ob ob ob) λ v46 aib=>?_;obtain⟨axa,axb,axc,axd,axe⟩:=aib;refine wi ?_ ?_<;>intro c2
   ·refine aG (bN ob ob ob) λ v66 axf=>?_;obtain⟨axg,axh,axi,axj,axk⟩:=axf;refine wi ?_ ?_<;>intro c3
    ·refine aG (U7 ob ob ob) λ v67 axl=>?_;obtain⟨axn,axo⟩:=axl;refine wn ?_;exact qc (λ a b c=>dA a b c) ob
    exact qc (λ a b c=>dA a b c) ob
   refine wn ?_;exact qc (λ a b c=>dA a b c) ob
  have hlen:(g1.2.2.2.length:Int)=v1.1:=by omega
  refine wi ?_ ?_<;>intro c4
  ·refine aG (bN ob ob ob) λ v68 axp=>?_;obtain⟨axq,axr,axt,axu,axv⟩:=axp;refine wi ?_ ?_<;>intro c5
   ·refine wn<|bK (λ(g20:Int×Int×aha)=>0<=g20.1 /\ -1<=g20.2.1/\g20.2.1<v1.1/\g20.1<=v1.1/\(g20.2.2.length:Int)=v1.1/\(∀x∈g20.2.2,x.bG.length<=1/\x.d9.length<=1/\x.ak.length<=2/\x.aZ.length<=100/\x.aY.length<=100/\(∀p∈x.aY,0<=p/\p<v1.1))) (λ(g20:Int×Int×aha)=>(g20.2.1 - g20.1).toNat) ?_ ?_
    ·intro ah7 g20 atS atT;obtain⟨axw,axx,axy,axz,axA,aii⟩:=atS;unfold zu;refine wi ?_ ?_<;>intro c6
     ·refine wm<|wm ?_;refine wm<|atT _ ?_ ?_
      ·(refine⟨ob,ob,ob,ob,ob,aeb (aeb aii (aii _ (getD_in _ om))) (aii _ (getD_in _ om))⟩)
      exact ob
     refine bK (λ(g21:Int×aha)=>0<=g21.1/\(g21.2.length:Int)=v1.1/\(∀x∈g21.2,x.bG.length<=1/\x.d9.length<=1/\x.ak.length<=2/\x.aZ.length<=100/\x.aY.length<=100/\(∀p∈x.aY,0<=p/\p<v1.1))) (λ(g21:Int×aha)=>(v1.1 - g21.1).toNat) ?_ ?_
     ·intro aaX g21 atU atV;obtain⟨axB,arJ,aij⟩:=atU;unfold zq;refine wi ?_ ?_<;>intro c7
      ·have q:=aij (g21.2.getD g21.1.toNat aU) (getD_in _ om);refine wm<|bK (λ(g24:Int×ag8) => -1<=g24.1/\g24.1<(g21.2.getD g21.1.toNat aU).aY.length/\(g24.2.length:Int)+g24.1<(g21.2.getD g21.1.toNat aU).aY.length/\(∀p∈g24.2,0<=p/\p<v1.1)) (λ(g24:Int×ag8)=>(g24.1+1).toNat) ?_ ?_
       ·intro ah6 g24 atW atX;obtain⟨axC,axD,axE,arK⟩:=atW;unfold zo;refine wi ?_ ?_<;>intro c8
        ·have q2:=q.2.2.2.2.2 _ (getD_in (i:=g24.1.toNat) 0 om);refine wm<|wm ?_;refine wm<|atX _ ?_ ?_
         ·exact ob
         exact ob
        refine wm<|atV _ ?_ ?_
        ·(refine⟨ob,ob,aeb aij ⟨q.1,q.2.1,q.2.2.1,q.2.2.2.1,ob,arK⟩⟩)
        exact ob
       exact ob
      refine ay ?_;(refine⟨ob,λ x hx=>?_,ob,ob⟩;have q:=aij x hx;rw[arJ];exact q)
     exact ob
    exact ob
   refine ay ?_;(refine⟨ob,λ x hx=>?_,ob,ob⟩;have q:=amB x hx;rw[hlen];exact q)
  refine wn<|ay ?_;(refine⟨ob,λ x hx=>?_,ob,ob⟩;have q:=amB x hx;rw[hlen];exact q)
 exact ob
deriving instance DecidableEq for aJ,bQ,bP
def dU (n lo hi:Int):Bool:=decide (lo<=n)&&decide (n<=hi)
def yu (lo hi:Int):ag8->ag8->Bool
 | _,[]=>true
 | pre,n::r=>bif !(dU n lo hi)||pre.contains n then false else yu lo hi (pre++[n]) r
variable {lo:Int} {hi:Int}
def ZG {n:Int} {pre r:ag8} (h:(!(dU n lo hi)||pre.contains n)=true):yu lo hi pre (n::r)=false:=by rw[yu,h];rfl
def aen {n:Int} {pre r:ag8} (h:(!(dU n lo hi)||pre.contains n)=false):yu lo hi pre (n::r)=yu lo hi (pre++[n]) r:=by rw[yu,h];rfl
def jG (a b:Int):Int:=(Nat.gcd a.toNat b.toNat:Nat)
def qg (r:bQ):Bool:=decide (0<=r.kC)&&decide (r.kC<=144115188075855872)&&decide (1<=r.jE)&&decide (r.jE<=16777216)&&(jG r.kC r.jE==1)
def newR (num den:Int):bQ×Int:=bif decide (num<0)||decide (den<1)then(⟨0,0⟩,2)else
 bif !qg ⟨num.tdiv (jG num den),den.tdiv (jG num den)⟩then(⟨0,0⟩,2)else(⟨num.tdiv (jG num den),den.tdiv (jG num den)⟩,0)
def BF (a b:Int) (h:0<b):0<jG a b:=by
 unfold jG;have:0<b.toNat:=by omega
 have:=Nat.gcd_pos_of_pos_right a.toNat this;omega
def tdiv_le (a k:Int) (ha:0<=a) (hk:0<k):0<=a.tdiv k/\a.tdiv k<=a:=by
 rw[Int.tdiv_eq_ediv_of_nonneg ha];exact⟨Int.ediv_nonneg ha om,Int.ediv_le_self _ ha⟩
def yw (k:Int):Bool:=decide (1<=k)&&decide (k<=64)
def qX (r:bQ) (k:Int):bQ×Int:=bif !qg r then(⟨0,0⟩,1)else bif !yw k then(⟨0,0⟩,2)else
 bif decide ((144115188075855872:Int).tdiv (k.tdiv (jG k r.jE))<r.kC)then(⟨0,0⟩,2)else newR (r.kC*(k.tdiv (jG k r.jE))) (r.jE.tdiv (jG k r.jE))
def BG (r:bQ) (k:Int):bQ×Int:=bif !qg r then(⟨0,0⟩,1)else bif !yw k then(⟨0,0⟩,2)else newR r.kC (r.jE*k)
def mR {r:bQ} (h:qg r=true):0<=r.kC/\r.kC<=144115188075855872/\1<=r.jE/\r.jE<=16777216/\jG r.kC r.jE=1:=by
 unfold qg at h;simp at h;omega
def arL (k d:Int) (hk:1<=k/\k<=64) (hd:1<=d):1<=k.tdiv (jG k d)/\k.tdiv (jG k d)<=64:=by
 have hg:=BF k d om;have h1:=tdiv_le k (jG k d) om hg;have hdvd:Nat.gcd k.toNat d.toNat∣k.toNat:=Nat.gcd_dvd_left _ _;have h2:0<k.toNat / Nat.gcd k.toNat d.toNat:=Nat.div_pos (Nat.le_of_dvd om hdvd) (by unfold jG at hg;omega);have h3:k.tdiv (jG k d)=((k.toNat / Nat.gcd k.toNat d.toNat:Nat):Int):=by
  unfold jG;rw[Int.tdiv_eq_ediv_of_nonneg om];have:k=(k.toNat:Int):=by omega
  rw[Int.natCast_ediv,<- this]
 omega
def aku (a b:Int) (ha:0<=a) (hb:1<=b) (h:a<=(144115188075855872:Int).tdiv b):0<=a*b/\a*b<=144115188075855872:=by
 rw[Int.tdiv_eq_ediv_of_nonneg (by decide)]at h;have:=(Int.le_ediv_iff_mul_le om).1 h;exact⟨Int.mul_nonneg ha om,this⟩
def U8 (c a b:Nat) (hc:0<c) (hb:0<b):newR (c*a:Nat) (c*b:Nat)=newR a b:=by
 have hcb:0<c*b:=Nat.mul_pos hc hb;have g0:0<Nat.gcd a b:=Nat.gcd_pos_of_pos_right a hb;have e1:jG (c*a:Nat) (c*b:Nat)=((c*Nat.gcd a b:Nat):Int):=by
  unfold jG;rw[Int.toNat_natCast,Int.toNat_natCast,Nat.gcd_mul_left]
 have e2:jG (a:Nat) (b:Nat)=(Nat.gcd a b:Nat):=by
  unfold jG;rw[Int.toNat_natCast,Int.toNat_natCast]
 have d:∀x:Nat,((c*x:Nat):Int).tdiv ((c*Nat.gcd a b:Nat):Int)=(x:Int).tdiv (Nat.gcd a b:Nat):=by
  intro x;rw[<- Int.ofNat_tdiv,<- Int.ofNat_tdiv,Nat.mul_div_mul_left _ _ hc]
 unfold newR;have c1:(decide (((c*a:Nat):Int)<0)||decide (((c*b:Nat):Int)<1))=false:=by
  have h1:¬ (((c*b:Nat):Int)<1):=Int.not_lt.2 (Int.ofNat_le.2 hcb);rw[decide_eq_false (Int.not_lt.2 (Int.natCast_nonneg _)),decide_eq_false h1];rfl
 have c2:(decide ((a:Int)<0)||decide ((b:Int)<1))=false:=by simp;omega
 rw[c1,c2,e1,e2,d a,d b]
def akv (num den k:Int) (hn:0<=num) (hd:1<=den) (hk:1<=k):newR (num.tdiv (jG num k)) (den*(k.tdiv (jG num k)))=newR num (den*k):=by
 obtain⟨n,rfl⟩:=Int.eq_ofNat_of_zero_le hn;obtain⟨d,rfl⟩:=Int.eq_ofNat_of_zero_le (show 0<=den by omega);obtain⟨k,rfl⟩:=Int.eq_ofNat_of_zero_le (show 0<=k by omega);have hg:jG (n:Nat) (k:Nat)=(Nat.gcd n k:Nat):=by unfold jG;rw[Int.toNat_natCast,Int.toNat_natCast]
 rw[hg,<- Int.ofNat_tdiv,<- Int.ofNat_tdiv];have g0:0<Nat.gcd n k:=Nat.gcd_pos_of_pos_right n om;obtain⟨a,ha⟩:=Nat.gcd_dvd_left n k;obtain⟨b,hb⟩:=Nat.gcd_dvd_right n k;have e1:n / Nat.gcd n k=a:=by rw[Nat.div_eq_of_eq_mul_right g0 ha]
 have e2:k / Nat.gcd n k=b:=by rw[Nat.div_eq_of_eq_mul_right g0 hb]
 rw[e1,e2];have hb0:0<b:=by
  rcases Nat.eq_zero_or_pos b with h | h
  ·rw[h]at hb;simp at hb;omega
  exact h
 have:=U8 (Nat.gcd n k) a (d*b) g0 (Nat.mul_pos om hb0);rw[<- ha]at this;have e3:Nat.gcd n k*(d*b)=d*k:=by
  rw[Nat.mul_left_comm,<- hb]
 rw[e3]at this;rw[<- Int.natCast_mul,<- Int.natCast_mul];exact this.symm
def t1 (r:bQ) (k:Int):Int×Int:=bif decide ((144115188075855872:Int).tdiv (k.tdiv (jG k r.jE))<r.kC)then(-1,1)else(r.kC*(k.tdiv (jG k r.jE)),r.jE.tdiv (jG k r.jE))
def oC (r:bQ) (lo hi:Int):Bool:=qg r&&(decide (lo<=r.kC.tdiv r.jE)&&(decide (r.kC.tdiv r.jE<hi)||(r.kC.tdiv r.jE==hi&&r.kC.tmod r.jE==0)))
def TB (c:aJ):Bool:=decide (8<(c.aS.length:Int))||decide (8<(c.aP.length:Int))
def Pz (n:Int) (x:bP):Bool:=!dU x.fE 0 (n - 1)||!dU x.fV 0 4000000000||!dU x.Low 0 x.fV
def jk (c:aJ):Bool:=
 bif c.gG==1 then((c.aS.length:Int)==0)&&((c.aP.length:Int)==1)&&dU (c.aP.getD 0 0) 1 4000000000
 else bif c.gG==2||c.gG==3 then((c.aS.length:Int)==1)&&decide (0<(c.aP.length:Int))&&yu 1 64 [] c.aP
 else bif c.gG==4 then decide (0<(c.aP.length:Int))&&yu 0 ((c.aS.length:Int) - 1) [] c.aP
 else bif c.gG==5 then((c.aS.length:Int)==1)&&(c.aP==[0,1])
 else false
def lG (c:aJ) (k:Int):Bool:=bif c.aS.any (λ y=>!dU y 0 (k - 1))||!dU c.fV 0 4000000000||!dU c.Low 0 c.fV then false else jk c
def aoR (l:ag8) (hi:Int) (h:yu 0 hi [] l=true) (hl:0<l.length):0<=hi:=by
 cases l with
 | nil=>simp at hl
 | cons n l=>
  cases hw:dU n 0 hi with
  | true=>simp[dU]at hw;omega
  | false=>
   rw[ZG (by rw[hw];rfl)]at h;cases h
def Ro (a b:Int):Int:=if b > a then b else a
def TF (c:aJ):Bool:=c.gG==2||c.gG==3
def mE (acc:ag8) (l:ag8):Int:=l.foldl (λ n p=>Ro n (acc.getD p.toNat 0)) 0
def KY (acc:ag8) (c:aJ):Int:=bif TF c then mE acc c.aS+1 else mE acc c.aS
def iR (l:ah3):ag8:=l.foldl (λ acc c=>acc++[KY acc c]) []
def En (l:ah3) (c:aJ):iR (l++[c])=iR l++[KY (iR l) c]:=by
 unfold iR;rw[List.foldl_append];rfl
def ajj (l:ah3):Prop:=∀i,i<l.length->(l.getD i aL).aS.length<=2000000/\∀p∈(l.getD i aL).aS,0<=p/\p<i
def KZ (acc:ag8) (b:Int) (hb0:0<=b) (hb:∀j:Nat,0<=acc.getD j 0/\acc.getD j 0<=b) (l:ag8):0<=mE acc l/\mE acc l<=b:=by
 have:∀(l:ag8) (n:Int),0<=n/\n<=b->0<=l.foldl (λ n p=>Ro n (acc.getD p.toNat 0)) n/\l.foldl (λ n p=>Ro n (acc.getD p.toNat 0)) n<=b:=by
  intro l;induction l with
  | nil=>exact λ n h=>h
  | cons p r ih=>
   intro n hn;refine ih _ ?_;show 0<=Ro n (acc.getD p.toNat 0)/\Ro n (acc.getD p.toNat 0)<=b;unfold Ro;have:=hb p.toNat;split<;>omega
 exact this l 0 om
def j6 (l:ah3):(iR l).length=l.length/\∀j:Nat,0<=(iR l).getD j 0/\(iR l).getD j 0<=l.length:=by
 induction l using Ky with
 | nil=>exact⟨rfl,λ j=>by rw[aaF];simp;exact Nat.zero_le _⟩
 | append_singleton l c ih=>
  obtain⟨h1,h2⟩:=ih;rw[En];have hb:=KZ (iR l) l.length om h2 c.aS;have hf:0<=KY (iR l) c/\KY (iR l) c<=l.length+1:=by
   unfold KY;cases TF c<;>simp only[cond_true,cond_false]<;>omega
  refine⟨by rw[List.length_append,List.length_append,h1];rfl,λ j=>?_⟩;have hlen:((l++[c]).length:Int)=l.length+1:=by rw[List.length_append];rfl
  rw[hlen];by_cases hj:j<l.length
  ·rw[mI 0 om];have:=h2 j;omega
  by_cases hj2:j=l.length
  ·rw[lX 0 om];exact hf
  rw[aaF 0 (by rw[List.length_append,h1];simp;omega)];omega
def YE (a b:Int):Int:=if b<a then b else a
def mU (l:ah3):Int:=l.foldl (λ p c=>YE (p*c.aP.length) 1099511627776) 1
def agf (l:ah3):Bool:=(List.range l.length).all λ i=>lG (l.getD i aL) i
def eY (l:ah3):Int:=bif decide (16<(l.length:Int))||l.any TB then 3 else bif !agf l then 1 else bif decide (4096<mU l)||(iR l).any (λ n=>decide (4<n))then 3 else 0
variable {l:ah3}
def ade (h:∀i:Nat,i<l.length->lG (l.getD i aL) i=true):agf l=true:=by
 unfold agf;rw[List.all_eq_true];intro i hi;exact h i (List.mem_range.1 hi)
def agh (h:agf l=true) (i:Nat) (hi:i<l.length):lG (l.getD i aL) i=true:=by
 unfold agf at h;rw[List.all_eq_true]at h;exact h i (List.mem_range.2 hi)
def TG (hi:i<l.length) (h:lG (l.getD i aL) i=false):agf l=false:=by
 cases hv:agf l with
 | false=>rfl
 | true=>rw[agh hv i hi]at h;cases h
def nV {l:List α} {p:α->Bool} (d:α) (h:l.any p=false) (i:Nat) (hi:i<l.length):p (l.getD i d)=false:=by
 rw[List.any_eq_false]at h;simpa using h _ (jI d hi)
def yx {l:List α} {p:α->Bool} (d:α) (hi:i<l.length) (h:p (l.getD i d)=true):l.any p=true:=List.any_eq_true.2 ⟨_,jI d hi,h⟩
def any_none {l:List α} {p:α->Bool} (d:α) (h:∀i,i<l.length->p (l.getD i d)=false):l.any p=false:=by
 rw[List.any_eq_false];intro x hx;obtain⟨i,hi,rfl⟩:=List.mem_iff_getElem.1 hx;have:=h i hi;rw[List.getD_eq_getElem?_getD,List.getElem?_eq_getElem hi]at this;simpa using this
variable {c:aJ}
def PD (h:TB c=false):c.aS.length<=8/\c.aP.length<=8:=by
 unfold TB at h;simp at h;omega
def PE (l:ah3):0<=mU l/\mU l<=1099511627776:=by
 unfold mU;induction l using Ky with
 | nil=>simp
 | append_singleton l c ih=>
  rw[List.foldl_append];show 0<=YE (l.foldl _ 1*c.aP.length) 1099511627776/\YE (l.foldl _ 1*c.aP.length) 1099511627776<=1099511627776;have:0<=l.foldl (λ p c=>YE (p*(c:aJ).aP.length) 1099511627776) 1*(c.aP.length:Int):=Int.mul_nonneg ih.1 om;generalize l.foldl (λ p c=>YE (p*(c:aJ).aP.length) 1099511627776) 1*(c.aP.length:Int)=q at this;unfold YE;split<;>omega
def amU (l:ah3) (n:Int) (h:0<=n/\n<=8):0<=mU l*n/\mU l*n<=1099511627776*8:=by
 have hb:=PE l;exact⟨Int.mul_nonneg hb.1 h.1,Int.mul_le_mul hb.2 h.2 h.1 om⟩
def within_iff (n lo hi:Int):dU n lo hi=true↔lo<=n/\n<=hi:=by
 unfold dU;simp
variable {k:Int}
def WQ {j:Nat} (hj:j<c.aS.length) (h:dU (c.aS.getD j 0) 0 (k - 1)=false):lG c k=false:=by
 unfold lG;have:c.aS.any (λ y=>!dU y 0 (k - 1))=true:=yx 0 hj (by show(!dU (c.aS.getD j 0) 0 (k - 1))=true;rw[h];rfl);rw[this];rfl
def agi (h:∀j,j<c.aS.length->dU (c.aS.getD j 0) 0 (k - 1)=true):lG c k=!(!jk c||decide (c.Low<0)||decide (c.fV<c.Low)||decide (4000000000<c.fV)):=by
 have e:c.aS.any (λ y=>!dU y 0 (k - 1))=false:=any_none 0 λ j hj=>by show(!dU (c.aS.getD j 0) 0 (k - 1))=false;rw[h j hj];rfl
 unfold lG;rw[e];cases hc:jk c with
 | false=>cases(false||!dU c.fV 0 4000000000||!dU c.Low 0 c.fV)<;>rfl
 | true=>
  by_cases hg:(0<=c.Low/\c.Low<=c.fV)/\c.fV<=4000000000
  ·have h1:dU c.fV 0 4000000000=true:=(within_iff _ _ _).2 om;have h2:dU c.Low 0 c.fV=true:=(within_iff _ _ _).2 om;rw[h1,h2,decide_eq_false (show ¬ c.Low<0 by omega),decide_eq_false (show ¬ c.fV<c.Low by omega),decide_eq_false (show ¬ 4000000000<c.fV by omega)];rfl
  have h1:(false||!dU c.fV 0 4000000000||!dU c.Low 0 c.fV)=true:=by
   simp only[Bool.false_or,Bool.or_eq_true,Bool.not_eq_true',<- Bool.not_eq_true,within_iff];omega
  have h2:(!true||decide (c.Low<0)||decide (c.fV<c.Low)||decide (4000000000<c.fV))=true:=by
   simp only[Bool.not_true,Bool.false_or,Bool.or_eq_true,decide_eq_true_eq];omega
  rw[h1,h2];rfl
def K3 (h:lG c k=true):∀p∈c.aS,0<=p/\p<k:=by
 intro p hp;unfold lG at h;cases ha:c.aS.any (λ y=>!dU y 0 (k - 1))with
 | true=>rw[ha]at h;cases h
 | false=>
  rw[List.any_eq_false]at ha;have:=ha p hp;simp only[Bool.not_eq_true,Bool.not_eq_false']at this;have:=(within_iff _ _ _).1 this;omega
def agj (h:∀i:Nat,i<l.length->lG (l.getD i aL) i=true) (hb:∀i:Nat,i<l.length->TB (l.getD i aL)=false):ajj l:=λ i hi=>⟨by have:=PD (hb i hi);omega,K3 (h i hi)⟩
def WR (l:ah3) (k:Nat):∀j,j<k->j<l.length->(iR l).getD j 0=(iR (l.take k)).getD j 0:=by
 induction l using Ky with
 | nil=>intro j _ hj;cases hj
 | append_singleton l c ih=>
  intro j hjk hj;have hlen:=(j6 l).1;by_cases hk:k<=l.length
  ·rw[List.take_append_of_le_length hk,En,mI 0 om];exact ih j hjk om
  rw[List.take_of_length_le (l:=l++[c]) (by rw[List.length_append];simp;omega)]
def PG (h:jk c=true):1<=c.aP.length:=by
 cases hc:c.aP with
 | nil=>
  unfold jk at h;rw[hc]at h;cases h1:c.gG==1<;>cases h2:(c.gG==2||c.gG==3)<;>cases h3:c.gG==4<;>cases h4:c.gG==5<;>rw[h1,h2,h3,h4]at h<;>simp at h
 | cons x r=>simp
def lH (h:lG c k=true):jk c=true:=by
 unfold lG at h;cases hb:(c.aS.any (λ y=>!dU y 0 (k - 1))||!dU c.fV 0 4000000000||!dU c.Low 0 c.fV)with
 | true=>rw[hb]at h;cases h
 | false=>rw[hb]at h;exact h
def TH (l:ah3) (c:aJ):mU (l++[c])=YE (mU l*c.aP.length) 1099511627776:=by
 unfold mU;rw[List.foldl_append];rfl
def aik (l:ah3):(∀c∈l,1<=c.aP.length)->∀k,mU (l.take k)<=mU l:=by
 induction l using Ky with
 | nil=>intro _ k;rw[List.take_nil];exact Int.le_refl _
 | append_singleton l c ih=>
  intro h k;by_cases hk:k<=l.length
  ·rw[List.take_append_of_le_length hk,TH];have h1:=ih (λ d hd=>h d (List.mem_append_left _ hd)) k;have hb:=PE l;have hc:=h c (List.mem_append_right _ (List.mem_singleton.2 rfl));have:mU l*1<=mU l*c.aP.length:=Int.mul_le_mul_of_nonneg_left om hb.1;rw[Int.mul_one]at this;generalize mU l*(c.aP.length:Int)=q at *;unfold YE;split<;>omega
  rw[List.take_of_length_le (l:=l++[c]) (by rw[List.length_append];simp;omega)];exact Int.le_refl _
def mF (l:ah3) (s:ag8):Bool:=((s.length:Int)==(l.length:Int))&&(List.range l.length).all λ i=>dU (s.getD i 0) 0 ((l.getD i aL).aP.length - 1)
variable {p:Nat->Bool}
def Aw {n:Nat} (h:∀i,i<n->p i=true):(List.range n).all p=true:=by
 rw[List.all_eq_true];intro i hi;exact h i (List.mem_range.1 hi)
def aeo {n:Nat} (h:(List.range n).all p=true) (hi:i<n):p i=true:=by
 rw[List.all_eq_true]at h;exact h i (List.mem_range.2 hi)
def yA {n:Nat} (hi:i<n) (h:p i=false):(List.range n).all p=false:=by
 cases hv:(List.range n).all p with
 | false=>rfl
 | true=>rw[aeo hv hi]at h;cases h
def agk (l:ah3):Prop:=∀i:Nat,i<l.length->(l.getD i aL).aP.length<=2000000
def nN (l:ah3) (m:ajc):Bool:=(eY l==0)&&decide ((m.length:Int)<=32)&&!(m.any (Pz l.length))
def agl (n:Int) (x:bP):Pz n x=(decide (x.fE<0)||decide (n<=x.fE)||decide (x.Low<0)||decide (x.fV<x.Low)||decide (4000000000<x.fV)):=by
 unfold Pz;by_cases hg:(0<=x.fE/\x.fE<=n - 1)/\(0<=x.fV/\x.fV<=4000000000)/\(0<=x.Low/\x.Low<=x.fV)
 ·rw[(within_iff _ _ _).2 hg.1,(within_iff _ _ _).2 hg.2.1,(within_iff _ _ _).2 hg.2.2,decide_eq_false (show ¬ x.fE<0 by omega),decide_eq_false (show ¬ n<=x.fE by omega),decide_eq_false (show ¬ x.Low<0 by omega),decide_eq_false (show ¬ x.fV<x.Low by omega),decide_eq_false (show ¬ 4000000000<x.fV by omega)];rfl
 have h1:(!dU x.fE 0 (n - 1)||!dU x.fV 0 4000000000||!dU x.Low 0 x.fV)=true:=by
  simp only[Bool.or_eq_true,Bool.not_eq_true',<- Bool.not_eq_true,within_iff];omega
 have h2:(decide (x.fE<0)||decide (n<=x.fE)||decide (x.Low<0)||decide (x.fV<x.Low)||decide (4000000000<x.fV))=true:=by
  simp only[Bool.or_eq_true,decide_eq_true_eq];omega
 rw[h1,h2]
def aa2 (c:aJ) (k:Int):Prop:=(c.gG=1)\/(c.gG=4/\0<=k/\k<c.aP.length/\0<=c.aP.getD k.toNat 0/\c.aP.getD k.toNat 0<c.aS.length)\/(c.gG≠4/\0<c.aS.length)
def kF (c:aJ) (k:Int):Int:=bif c.gG==1 then -1 else bif c.gG==4 then c.aS.getD (c.aP.getD k.toNat 0).toNat 0 else c.aS.getD 0 0
def Rp:bQ:=⟨0,1⟩
def nO (r:bQ):Bool:=(r.kC==0)&&((r.jE==1)&&true)
def Yg (acc:ajm) (c:aJ) (k:Int):bQ:=
 bif decide (kF c k<0)then⟨c.aP.getD k.toNat 0,1⟩else
 bif nO (acc.getD (kF c k).toNat dZ)||((c.gG==5)&&(c.aP.getD k.toNat 0==0))then Rp else
 bif c.gG==2 then(BG (acc.getD (kF c k).toNat dZ) (c.aP.getD k.toNat 0)).1 else
 bif c.gG==3 then(qX (acc.getD (kF c k).toNat dZ) (c.aP.getD k.toNat 0)).1 else acc.getD (kF c k).toNat dZ
def qY (l:ah3) (s:ag8):Nat->ajm
 | 0=>[]
 | i+1=>qY l s i++[Yg (qY l s i) (l.getD i aL) (s.getD i 0)]
def gV (l:ah3) (s:ag8):ajm:=qY l s l.length
def sU (l:ah3) (s:ag8) (i:Nat):(qY l s i).length=i:=by
 induction i with
 | zero=>rfl
 | succ i ih=>simp[qY,ih]
structure Good (l:ah3) (s:ag8):Prop where
 small:l.length<=1000
 len:s.length=l.length
 aP:∀i,i<l.length->0<=s.getD i 0/\s.getD i 0<(l.getD i aL).aP.length
 pch:∀i,i<l.length->aa2 (l.getD i aL) (s.getD i 0)
 aS:∀i,i<l.length->kF (l.getD i aL) (s.getD i 0)<i
def adf:∀(l pre:ag8),yu lo hi pre l=true->∀x∈l,lo<=x/\x<=hi:=by
 intro l;induction l with
 | nil=>intro _ _ x hx;cases hx
 | cons n r ih=>
  intro pre h x hx;cases hb:(!(dU n lo hi)||pre.contains n)with
  | true=>rw[ZG hb]at h;cases h
  | false=>
   rw[aen hb]at h;rcases List.mem_cons.1 hx with rfl | hx
   ·rw[Bool.or_eq_false_iff]at hb;have:=hb.1;simp only[Bool.not_eq_false']at this;exact(within_iff _ _ _).1 this
   exact ih _ h x hx
theorem sV (h:jk c=true):
  (c.gG=1/\c.aS=[]/\c.aP.length=1/\1<=c.aP.getD 0 0/\c.aP.getD 0 0<=4000000000)\/((c.gG=2\/c.gG=3)/\c.aS.length=1/\0<c.aP.length/\∀x∈c.aP,1<=x/\x<=64)
  \/ (c.gG=4/\0<c.aP.length/\∀x∈c.aP,0<=x/\x<=(c.aS.length:Int) - 1)\/(c.gG=5/\c.aS.length=1/\c.aP=[0,1]):=by
 unfold jk at h;cases h1:c.gG==1 with
 | true=>
  rw[h1]at h;simp only[cond_true,Bool.and_eq_true,within_iff]at h;obtain⟨⟨h2,h3⟩,h4⟩:=h;left;have h2:c.aS.length=0:=by have:=eq_of_beq h2;omega
  exact⟨eq_of_beq h1,List.length_eq_zero_iff.1 h2,by have:=eq_of_beq h3;omega,h4⟩
 | false=>
  rw[h1]at h;cases h2:(c.gG==2||c.gG==3)with
  | true=>
   rw[h2]at h;simp only[cond_true,cond_false,Bool.and_eq_true]at h;obtain⟨⟨h3,h4⟩,h5⟩:=h;right;left;refine⟨?_,by have:=eq_of_beq h3;omega,by have:=of_decide_eq_true h4;omega,adf _ _ h5⟩;rw[Bool.or_eq_true]at h2;exact h2.imp eq_of_beq eq_of_beq
  | false=>
   rw[h2]at h;cases h3:c.gG==4 with
   | true=>
    rw[h3]at h;simp only[cond_true,cond_false,Bool.and_eq_true]at h;right;right;left;exact⟨eq_of_beq h3,by have:=of_decide_eq_true h.1;omega,adf _ _ h.2⟩
   | false=>
    rw[h3]at h;cases h4:c.gG==5 with
    | true=>
     rw[h4]at h;simp only[cond_true,cond_false,Bool.and_eq_true]at h;right;right;right;exact⟨eq_of_beq h4,by have:=eq_of_beq h.1;omega,eq_of_beq h.2⟩
    | false=>rw[h4]at h;cases h
structure acg (l:ah3):Prop where
 len:l.length<=16
 big:∀i:Nat,i<l.length->(l.getD i aL).aS.length<=8/\(l.getD i aL).aP.length<=8
 valid:∀i:Nat,i<l.length->lG (l.getD i aL) i=true
 prod:mU l<=4096
 iR:∀i:Nat,i<l.length->(iR l).getD i 0<=4
def vE (h:eY l=0):acg l:=by
 unfold eY at h;cases h1:(decide (16<(l.length:Int))||l.any TB)with
 | true=>rw[h1]at h;cases h
 | false=>
  rw[h1]at h;cases h2:agf l with
  | false=>rw[h2]at h;cases h
  | true=>
   rw[h2]at h;cases h3:(decide (4096<mU l)||(iR l).any (λ n=>decide (4<n)))with
   | true=>rw[h3]at h;cases h
   | false=>
    rw[Bool.or_eq_false_iff]at h1 h3;refine⟨by have:=of_decide_eq_false h1.1;omega,λ i hi=>PD (nV aL h1.2 i hi),agh h2,by have:=of_decide_eq_false h3.1;omega,λ i hi=>?_⟩;have:=nV 0 h3.2 i (by rw[(j6 l).1];exact hi);have:=of_decide_eq_false this;omega
variable {s:ag8}
def aa3 (h:mF l s=true):s.length=l.length/\∀i:Nat,i<l.length->0<=s.getD i 0/\s.getD i 0<(l.getD i aL).aP.length:=by
 unfold mF at h;rw[Bool.and_eq_true]at h;have hl:s.length=l.length:=by have:=eq_of_beq h.1;omega
 refine⟨hl,λ i hi=>?_⟩;have:=h.2;rw[List.all_eq_true]at this;have:=this i (List.mem_range.2 om);have:=(within_iff _ _ _).1 this;omega
def agm (hv:lG c i=true) (hk:0<=k/\k<c.aP.length):aa2 c k/\kF c k<i:=by
 have hp:=K3 hv;unfold aa2 kF;rcases sV (lH hv)with⟨h1,h2,h3,h4⟩ | ⟨h1,h2,h3,h4⟩ | ⟨h1,h2,h3⟩ | ⟨h1,h2,h3⟩
 ·refine⟨.inl h1,?_⟩;rw[h1];show(-1:Int)<i;omega
 ·have hn1:(c.gG==1)=false:=by rcases h1 with h1 | h1<;>rw[h1]<;>rfl
  have hn4:(c.gG==4)=false:=by rcases h1 with h1 | h1<;>rw[h1]<;>rfl
  refine⟨.inr (.inr ⟨λ e=>(by rw[e]at hn4;cases hn4),om⟩),?_⟩;rw[hn1,hn4];exact(hp _ (jI 0 om)).2
 ·have hm:=h3 _ (jI 0 (i:=k.toNat) om);refine⟨.inr (.inl ⟨h1,hk.1,hk.2,hm.1,om⟩),?_⟩;rw[h1];exact(hp _ (jI 0 (i:=(c.aP.getD k.toNat 0).toNat) om)).2
 refine⟨.inr (.inr ⟨by rw[h1];decide,om⟩),?_⟩;rw[h1];exact(hp _ (jI 0 (i:=0) om)).2
def QU (h:acg l) (hs:mF l s=true):Good l s:=by
 obtain⟨h1,h2⟩:=aa3 hs;exact⟨by have:=h.len;omega,h1,h2,λ i hi=>(agm (h.valid i hi) (h2 i hi)).1,λ i hi=>(agm (h.valid i hi) (h2 i hi)).2⟩
def vX (l:ah3) (s:ag8):ajm×Int:=bif eY l != 0 then([],eY l)else bif !mF l s then([],1)else(gV l s,0)
def WS (r:ajm) (x:bP):Bool:=nO (r.getD x.fE.toNat dZ)||!oC (r.getD x.fE.toNat dZ) x.Low x.fV
def aep (r:bQ) (c:aJ):Bool:=((!nO r)&&(c.fV != 0))&&!oC r c.Low c.fV
def ownB (l:ah3) (r:ajm):Bool:=(List.range l.length).all λ i=>!aep (r.getD i dZ) (l.getD i aL)
def gD (l:ah3) (s:ag8) (m:ajc):Bool:=(nN l m&&mF l s)&&(ownB l (gV l s)&&!m.any (WS (gV l s)))
def Fa {m:ajc} (h:nN l m=true):eY l=0/\m.length<=32/\∀i,i<m.length->Pz l.length (m.getD i dM)=false:=by
 unfold nN at h;rw[Bool.and_eq_true,Bool.and_eq_true]at h;exact⟨eq_of_beq h.1.1,by have:=of_decide_eq_true h.1.2;omega,λ i hi=>nV dM (by simpa using h.2) i hi⟩
def PI {n:Int} {x:bP} (h:Pz n x=false):(0<=x.fE/\x.fE<n)/\0<=x.Low/\x.Low<=x.fV/\x.fV<=4000000000:=by
 rw[agl]at h;simp only[Bool.or_eq_false_iff,decide_eq_false_iff_not]at h;omega
def Yh {l m:List α} (d:α) (h:l.length<=i):(l++m).getD i d=m.getD (i - l.length) d:=by
 rw[List.getD_eq_getElem?_getD,List.getElem?_append_right h,List.getD_eq_getElem?_getD]
def red (a b:Nat):bQ:=⟨((a / Nat.gcd a b:Nat):Int),((b / Nat.gcd a b:Nat):Int)⟩
def QV (a b:Nat) (hb:0<b) (ha':a<=144115188075855872) (hb':b<=16777216):qg (red a b)=true:=by
 have g0:0<Nat.gcd a b:=Nat.gcd_pos_of_pos_right a hb;have h1:a / Nat.gcd a b<=a:=Nat.div_le_self _ _;have h2:b / Nat.gcd a b<=b:=Nat.div_le_self _ _;have h3:0<b / Nat.gcd a b:=Nat.div_pos (Nat.le_of_dvd hb (Nat.gcd_dvd_right _ _)) g0;have h4:Nat.gcd (a / Nat.gcd a b) (b / Nat.gcd a b)=1:=by
  rw[Nat.gcd_div (Nat.gcd_dvd_left _ _) (Nat.gcd_dvd_right _ _),Nat.div_self g0]
 unfold qg red jG;simp only[Int.toNat_natCast,h4];generalize a / Nat.gcd a b=n at *;generalize b / Nat.gcd a b=d at *;simp;omega
def agn (a b:Nat) (hb:0<b) (ha':a<=144115188075855872) (hb':b<=16777216):newR a b=(red a b,0):=by
 have hv:=QV a b hb ha' hb';have e1:jG (a:Int) (b:Int)=(Nat.gcd a b:Nat):=by unfold jG;rw[Int.toNat_natCast,Int.toNat_natCast]
 have e2:(⟨(a:Int).tdiv (jG a b),(b:Int).tdiv (jG a b)⟩:bQ)=red a b:=by
  rw[e1,<- Int.ofNat_tdiv,<- Int.ofNat_tdiv];rfl
 unfold newR;have c:(decide ((a:Int)<0)||decide ((b:Int)<1))=false:=by simp;omega
 rw[c,e2,hv];rfl
def adg (a b:Nat) (hb:0<b):∃g n d:Nat,0<g/\0<d/\g*n=a/\g*d=b/\red a b=⟨n,d⟩/\n<=a/\d<=b:=by
 have g0:0<Nat.gcd a b:=Nat.gcd_pos_of_pos_right a hb;refine⟨Nat.gcd a b,a / Nat.gcd a b,b / Nat.gcd a b,g0,Nat.div_pos (Nat.le_of_dvd hb (Nat.gcd_dvd_right _ _)) g0,Nat.mul_div_cancel' (Nat.gcd_dvd_left _ _),Nat.mul_div_cancel' (Nat.gcd_dvd_right _ _),rfl,Nat.div_le_self _ _,Nat.div_le_self _ _⟩
def adh (h:1<=k/\k<=64):yw k=true:=by
 unfold yw;simp;omega
def agp (a b:Nat) (k:Int) (hb:0<b) (hk:1<=k/\k<=64) (ha':a<=144115188075855872) (hb':b*k.toNat<=16777216):BG (red a b) k=(red a (b*k.toNat),0):=by
 have hbk:b<=b*k.toNat:=Nat.le_mul_of_pos_right _ om;have hv:=QV a b hb ha' om;unfold BG;rw[hv,adh hk];simp only[Bool.not_true,cond_false];obtain⟨g,n,d,g0,d0,e1,e2,e3,_,_⟩:=adg a b hb;rw[e3];have hkk:k=(k.toNat:Int):=by omega
 have hm:=U8 g n (d*k.toNat) g0 (Nat.mul_pos d0 om);rw[e1,<- Nat.mul_assoc,e2]at hm;show newR (n:Int) ((d:Int)*k)=_;rw[hkk,<- Int.natCast_mul,<- hm,Int.toNat_natCast];exact agn a (b*k.toNat) om ha' hb'
def adi (a b:Nat) (k:Int) (hb:0<b) (hk:1<=k/\k<=64) (ha':a*k.toNat<=144115188075855872) (hb':b<=16777216):qX (red a b) k=(red (a*k.toNat) b,0):=by
 have hak:a<=a*k.toNat:=Nat.le_mul_of_pos_right _ om;have hv:=QV a b hb om hb';unfold qX;rw[hv,adh hk];simp only[Bool.not_true,cond_false];obtain⟨g,n,d,g0,d0,e1,e2,e3,e4,e5⟩:=adg a b hb;rw[e3];obtain⟨k,rfl⟩:=Int.eq_ofNat_of_zero_le (show 0<=k by omega);have hk0:0<k:=by omega
 have eg:jG ((k:Nat):Int) ((d:Nat):Int)=(Nat.gcd k d:Nat):=by unfold jG;rw[Int.toNat_natCast,Int.toNat_natCast]
 have q0:0<Nat.gcd k d:=Nat.gcd_pos_of_pos_left d hk0;have qk:Nat.gcd k d*(k / Nat.gcd k d)=k:=Nat.mul_div_cancel' (Nat.gcd_dvd_left _ _);have qd:Nat.gcd k d*(d / Nat.gcd k d)=d:=Nat.mul_div_cancel' (Nat.gcd_dvd_right _ _);have qk0:0<k / Nat.gcd k d:=Nat.div_pos (Nat.le_of_dvd hk0 (Nat.gcd_dvd_left _ _)) q0;have qd0:0<d / Nat.gcd k d:=Nat.div_pos (Nat.le_of_dvd d0 (Nat.gcd_dvd_right _ _)) q0;have qkk:k / Nat.gcd k d<=k:=Nat.div_le_self _ _;simp only[Int.toNat_natCast]at ha' ⊢;rw[eg,<- Int.ofNat_tdiv,<- Int.ofNat_tdiv];have hc:decide ((144115188075855872:Int).tdiv ((k / Nat.gcd k d:Nat):Int)<(n:Int))=false:=by
  apply decide_eq_false;have:n<=144115188075855872 / (k / Nat.gcd k d):=by
   rw[Nat.le_div_iff_mul_le qk0];exact Nat.le_trans (Nat.mul_le_mul e4 qkk) ha'
  have e:(144115188075855872:Int).tdiv ((k / Nat.gcd k d:Nat):Int)=((144115188075855872 / (k / Nat.gcd k d):Nat):Int):=by
   rw[Int.ofNat_tdiv];rfl
  rw[e];omega
 rw[hc];simp only[cond_false];rw[<- Int.natCast_mul];have m1:=U8 (Nat.gcd k d) (n*(k / Nat.gcd k d)) (d / Nat.gcd k d) q0 qd0;rw[Nat.mul_left_comm,qk,qd]at m1;have m2:=U8 g (n*k) d g0 d0;rw[<- Nat.mul_assoc,e1,e2]at m2;rw[<- m1,<- m2];exact agn (a*k) b hb ha' hb'
def aoS (a:Nat):red a 1=⟨a,1⟩:=by
 unfold red;rw[Nat.gcd_one_right,Nat.div_one,Nat.div_one];rfl
def aoT (a b:Nat) (ha:0<a):0<(red a b).kC:=by
 have:0<a / Nat.gcd a b:=Nat.div_pos (Nat.le_of_dvd ha (Nat.gcd_dvd_left _ _)) (Nat.gcd_pos_of_pos_left b ha);show(0:Int)<((a / Nat.gcd a b:Nat):Int);omega
def amV (a b:Nat) (ha:0<a):nO (red a b)=false:=by
 have:=aoT a b ha;unfold nO;have:((red a b).kC==0)=false:=by
  rw[<- Bool.not_eq_true];intro e;have:=eq_of_beq e;omega
 rw[this];rfl
def akw (k:Int) (hk:1<=k/\k<=64):qX Rp k=(Rp,0):=by
 have h:=adi 0 1 k (by decide) hk (by simp) (by decide);rw[Nat.zero_mul]at h;exact h
def amW (k:Int) (hk:1<=k/\k<=64):BG Rp k=(Rp,0):=by
 have h:=agp 0 1 k (by decide) hk (by decide) om;have e:red 0 (1*k.toNat)=Rp:=by
  unfold red Rp;rw[Nat.gcd_zero_left,Nat.zero_div,Nat.one_mul,Nat.div_self om];rfl
 rw[e]at h;exact h
def TI (l:ah3) (s:ag8) (n j:Nat) (h:j<n):(qY l s n).getD j dZ=Yg (qY l s j) (l.getD j aL) (s.getD j 0):=by
 induction n with
 | zero=>omega
 | succ n ih=>
  rw[qY];by_cases hj:j<n
  ·rw[mI _ (by rw[sU];exact hj)];exact ih hj
  have:j=n:=by omega
  subst this;rw[lX _ (sU l s j).symm]
def akx {acc acc':ajm} (h:0<=kF c k->acc.getD (kF c k).toNat dZ=acc'.getD (kF c k).toNat dZ):Yg acc c k=Yg acc' c k:=by
 unfold Yg;by_cases hp:kF c k<0
 ·rw[decide_eq_true hp];rfl
 rw[h om]
def aky (h:Good l s) (j:Nat) (hj:j<l.length):(gV l s).getD j dZ=Yg (gV l s) (l.getD j aL) (s.getD j 0):=by
 unfold gV;rw[TI l s l.length j hj];refine akx λ h0=>?_;have:=h.aS j hj;rw[TI l s l.length _ om,TI l s j _ om]
def akz (acc:ag8) (l:ag8) (p:Int) (hp:p∈l):acc.getD p.toNat 0<=mE acc l:=by
 have mono:∀(l:ag8) (n:Int),n<=l.foldl (λ n p=>Ro n (acc.getD p.toNat 0)) n:=by
  intro l;induction l with
  | nil=>intro n;exact Int.le_refl _
  | cons q r ih=>
   intro n;have:=ih (Ro n (acc.getD q.toNat 0));have h2:n<=Ro n (acc.getD q.toNat 0):=by unfold Ro;split<;>omega
   exact Int.le_trans h2 this
 have key:∀(l:ag8) (n:Int),p∈l->acc.getD p.toNat 0<=l.foldl (λ n p=>Ro n (acc.getD p.toNat 0)) n:=by
  intro l;induction l with
  | nil=>intro n h;cases h
  | cons q r ih=>
   intro n h;rcases List.mem_cons.1 h with rfl | h
   ·have:=mono r (Ro n (acc.getD p.toNat 0));have h2:acc.getD p.toNat 0<=Ro n (acc.getD p.toNat 0):=by unfold Ro;split<;>omega
    exact Int.le_trans h2 this
   exact ih _ h
 exact key l 0 hp
def aoU (hp:ajj l) (j:Nat) (hj:j<l.length):∀p∈(l.getD j aL).aS,(iR l).getD p.toNat 0+(bif TF (l.getD j aL)then 1 else 0)<=(iR l).getD j 0:=by
 intro p hpm;have hpj:=(hp j hj).2 p hpm;have e1:(iR l).getD j 0=KY (iR (l.take j)) (l.getD j aL):=by
  rw[WR l (j+1) j om hj,iq aL hj,En,lX _ (by rw[(j6 _).1,take_len om])]
 have e2:(iR l).getD p.toNat 0=(iR (l.take j)).getD p.toNat 0:=WR l j p.toNat om om;have:=akz (iR (l.take j)) (l.getD j aL).aS p hpm;rw[e1,e2];unfold KY;cases TF (l.getD j aL)<;>simp only[cond_true,cond_false]<;>omega
structure Made (l:ah3):Prop where
 ok:eY l=0
 pos:1<=l.length
 fix:∀i,i<l.length->(l.getD i aL).gG=1->(l.getD i aL).aP.getD 0 0<=24000000
structure YF (F a b:Nat) (f:Int):Prop where
 a0:0<a
 b0:0<b
 f0:0<=f
 al:a<=F*64 ^ f.toNat
 bl:b<=64 ^ f.toNat
variable {f:Int}
def aoV (h:f<=4):64 ^ f.toNat<=16777216:=by
 have:f.toNat<=4:=by omega
 calc 64 ^ f.toNat<=64 ^ 4:=Nat.pow_le_pow_right (by decide) this
  _=16777216:=by decide
variable {F:Nat} {a:Nat} {b:Nat}
def YF.mono {g:Int} (h:YF F a b f) (hfg:f<=g):YF F a b g:=by
 have hf:=h.f0;have:64 ^ f.toNat<=64 ^ g.toNat:=Nat.pow_le_pow_right (by decide) om;exact⟨h.a0,h.b0,om,Nat.le_trans h.al (Nat.mul_le_mul_left _ this),Nat.le_trans h.bl this⟩
def YF.times {g:Int} (h:YF F a b f) (hfg:f+1<=g) {k:Nat} (hk:1<=k/\k<=64):YF F (a*k) b g:=by
 have hf:=h.f0;have:64 ^ f.toNat*64<=64 ^ g.toNat:=by
  rw[<- Nat.pow_succ];exact Nat.pow_le_pow_right (by decide) om
 refine⟨Nat.mul_pos h.a0 om,h.b0,om,?_,?_⟩
 ·calc a*k<=(F*64 ^ f.toNat)*64:=Nat.mul_le_mul h.al hk.2
   _=F*(64 ^ f.toNat*64):=Nat.mul_assoc _ _ _
   _<=F*64 ^ g.toNat:=Nat.mul_le_mul_left _ this
 exact Nat.le_trans h.bl (Nat.le_trans (Nat.le_mul_of_pos_right _ (by decide)) this)
def YF.over {g:Int} (h:YF F a b f) (hfg:f+1<=g) {k:Nat} (hk:1<=k/\k<=64):YF F a (b*k) g:=by
 have hf:=h.f0;have h1:64 ^ f.toNat*64<=64 ^ g.toNat:=by
  rw[<- Nat.pow_succ];exact Nat.pow_le_pow_right (by decide) om
 have h2:64 ^ f.toNat<=64 ^ g.toNat:=Nat.pow_le_pow_right (by decide) om;exact⟨h.a0,Nat.mul_pos h.b0 om,om,Nat.le_trans h.al (Nat.mul_le_mul_left _ h2),Nat.le_trans (Nat.mul_le_mul h.bl hk.2) h1⟩
def YF.small (h:YF F a b f) (hf:f<=4) (hF:F<=4294967296):a<=F*16777216/\a<=144115188075855872/\b<=16777216:=by
 have hp:=aoV hf;have h1:=Nat.le_trans h.al (Nat.mul_le_mul_left F hp);exact⟨h1,Nat.le_trans h1 (Nat.le_trans (Nat.mul_le_mul_right 16777216 hF) (by decide)),Nat.le_trans h.bl hp⟩
def Kj (c:aJ) (k:Int):Int:=c.aP.getD k.toNat 0
def upR (acc:ajm) (c:aJ) (k:Int):bQ:=acc.getD (kF c k).toNat dZ
structure Step (c:aJ) (i:Nat) (k:Int):Prop where
 p0:0<=kF c k
 pi:kF c k<i
 mem:kF c k∈c.aS
 n1:c.gG≠1
def aer (hv:lG c i=true) (hk:0<=k/\k<c.aP.length) (hn:c.gG≠1):Step c i k:=by
 have hp:=K3 hv;have key:kF c k∈c.aS:=by
  unfold kF;rcases sV (lH hv)with⟨h1,h2,h3,h4⟩ | ⟨h1,h2,h3,h4⟩ | ⟨h1,h2,h3⟩ | ⟨h1,h2,h3⟩
  ·exact absurd h1 hn
  ·have hn1:(c.gG==1)=false:=by rcases h1 with h1 | h1<;>rw[h1]<;>rfl
   have hn4:(c.gG==4)=false:=by rcases h1 with h1 | h1<;>rw[h1]<;>rfl
   rw[hn1,hn4];exact jI 0 om
  ·have hm:=h3 _ (jI 0 (i:=k.toNat) om);rw[h1];exact jI 0 (i:=(c.aP.getD k.toNat 0).toNat) om
  rw[h1];exact jI 0 (i:=0) om
 have:=hp _ key;exact⟨this.1,this.2,key,hn⟩
def aoW (hv:lG c i=true) (hk:0<=k/\k<c.aP.length) (h:c.gG=1) (acc:ajm):Kj c k=c.aP.getD 0 0/\1<=Kj c k/\Kj c k<=4000000000/\Yg acc c k=⟨Kj c k,1⟩/\kF c k = -1:=by
 rcases sV (lH hv)with⟨h1,h2,h3,h4⟩ | ⟨h1,h2,h3,h4⟩ | ⟨h1,h2,h3⟩ | ⟨h1,h2,h3⟩
 ·have e:Kj c k=c.aP.getD 0 0:=by unfold Kj;rw[show k.toNat=0 by omega]
  have hp:kF c k = -1:=by unfold kF;rw[h];rfl
  refine⟨e,om,om,?_,hp⟩;unfold Yg;rw[hp];rfl
 ·rcases h1 with h1 | h1<;>omega
 ·omega
 omega
theorem agq (hv:lG c i=true) (hk:0<=k/\k<c.aP.length) (hn:c.gG≠1) (acc:ajm):
  ((nO (upR acc c k)=true\/(c.gG=5/\Kj c k=0))/\Yg acc c k=Rp)\/
  (nO (upR acc c k)=false/\((c.gG=2/\TF c=true/\(1<=Kj c k/\Kj c k<=64)/\Yg acc c k=(BG (upR acc c k) (Kj c k)).1)\/
    (c.gG=3/\TF c=true/\(1<=Kj c k/\Kj c k<=64)/\Yg acc c k=(qX (upR acc c k) (Kj c k)).1)\/
    ((c.gG=4\/(c.gG=5/\Kj c k=1))/\TF c=false/\Yg acc c k=upR acc c k))):=by
 have hs:=aer hv hk hn;have hp:decide (kF c k<0)=false:=decide_eq_false (by have:=hs.p0;omega);have e0:Yg acc c k=bif nO (upR acc c k)||((c.gG==5)&&(Kj c k==0))then Rp else bif c.gG==2 then(BG (upR acc c k) (Kj c k)).1 else bif c.gG==3 then(qX (upR acc c k) (Kj c k)).1 else upR acc c k:=by
  unfold Yg;rw[hp];rfl
 have hmem:Kj c k∈c.aP:=jI 0 om;cases ho:nO (upR acc c k)with
 | true=>left;exact⟨.inl rfl,by rw[e0,ho];rfl⟩
 | false=>
  rw[ho]at e0;rcases sV (lH hv)with⟨h1,h2,h3,h4⟩ | ⟨h1,h2,h3,h4⟩ | ⟨h1,h2,h3⟩ | ⟨h1,h2,h3⟩
  ·exact absurd h1 hn
  ·right;refine⟨rfl,?_⟩;rcases h1 with h1 | h1
   ·left;refine⟨h1,by unfold TF;rw[h1];rfl,h4 _ hmem,?_⟩;rw[e0,h1];rfl
   right;left;refine⟨h1,by unfold TF;rw[h1];rfl,h4 _ hmem,?_⟩;rw[e0,h1];rfl
  ·right;refine⟨rfl,.inr (.inr ⟨.inl h1,by unfold TF;rw[h1];rfl,?_⟩)⟩;rw[e0,h1];rfl
  rw[h3]at hmem;by_cases hc:Kj c k=0
  ·left;refine⟨.inr ⟨h1,hc⟩,?_⟩;rw[e0,h1,hc];rfl
  have hc1:Kj c k=1:=by simp at hmem;omega
  right;refine⟨rfl,.inr (.inr ⟨.inr ⟨h1,hc1⟩,by unfold TF;rw[h1];rfl,?_⟩)⟩;rw[e0,h1,hc1];rfl
def ail (h:acg l):ajj l:=λ i hi=>⟨by have:=(h.big i hi).1;omega,K3 (h.valid i hi)⟩
def st1 (acc:ajm) (on:ag9) (c:aJ) (k:Int):bQ×Bool:=
 bif c.gG==1 then(⟨c.aP.getD k.toNat 0,1⟩,true)else
 bif c.gG==2 then((BG (acc.getD (kF c k).toNat dZ) (c.aP.getD k.toNat 0)).1,on.getD (kF c k).toNat false)else
 bif c.gG==3 then((qX (acc.getD (kF c k).toNat dZ) (c.aP.getD k.toNat 0)).1,on.getD (kF c k).toNat false)else
 bif(c.gG==5)&&(c.aP.getD k.toNat 0==0)then(Rp,false)else(acc.getD (kF c k).toNat dZ,on.getD (kF c k).toNat false)
def WT (l:ah3) (s:ag8):Nat->ajm×ag9
 | 0=>([],[])
 | i+1=>((WT l s i).1++[(st1 (WT l s i).1 (WT l s i).2 (l.getD i aL) (s.getD i 0)).1],(WT l s i).2++[(st1 (WT l s i).1 (WT l s i).2 (l.getD i aL) (s.getD i 0)).2])
def Sm (l:ah3) (s:ag8):ajm×ag9:=WT l s l.length
def QW (l:ah3) (s:ag8) (i:Nat):(WT l s i).1.length=i/\(WT l s i).2.length=i:=by
 induction i with
 | zero=>exact⟨rfl,rfl⟩
 | succ i ih=>simp[WT,ih]
def Up (l:ah3) (s:ag8):Prop:=∀i:Nat,i<l.length->(l.getD i aL).gG≠1->0<=kF (l.getD i aL) (s.getD i 0)
def amX (h:acg l) (hs:mF l s=true):Up l s:=by
 obtain⟨_,h2⟩:=aa3 hs;exact λ i hi hk=>(aer (h.valid i hi) (h2 i hi) hk).p0
def aes (l:ah3) (s:ag8) (n j:Nat) (h:j<n):(WT l s n).1.getD j dZ=(st1 (WT l s j).1 (WT l s j).2 (l.getD j aL) (s.getD j 0)).1/\(WT l s n).2.getD j false=(st1 (WT l s j).1 (WT l s j).2 (l.getD j aL) (s.getD j 0)).2:=by
 induction n with
 | zero=>omega
 | succ n ih=>
  rw[WT];have hl:=QW l s n;by_cases hj:j<n
  ·rw[mI _ om,mI _ om];exact ih hj
  have:j=n:=by omega
  subst this;rw[lX _ hl.1.symm,lX _ hl.2.symm];exact⟨rfl,rfl⟩
def akA {acc acc':ajm} {on on':ag9} (h:c.gG≠1->acc.getD (kF c k).toNat dZ=acc'.getD (kF c k).toNat dZ/\on.getD (kF c k).toNat false=on'.getD (kF c k).toNat false):st1 acc on c k=st1 acc' on' c k:=by
 unfold st1;cases hk:c.gG==1 with
 | true=>rfl
 | false=>
  obtain⟨h1,h2⟩:=h (λ e=>by rw[e]at hk;cases hk);rw[h1,h2]
def arM (h:Good l s) (hu:Up l s) (j:Nat) (hj:j<l.length):((Sm l s).1.getD j dZ,(Sm l s).2.getD j false)=st1 (Sm l s).1 (Sm l s).2 (l.getD j aL) (s.getD j 0):=by
 unfold Sm;obtain⟨e1,e2⟩:=aes l s l.length j hj;rw[e1,e2];show st1 _ _ _ _=_;refine akA λ hk=>?_;have h1:=h.aS j hj;have h2:=hu j hj hk;obtain⟨a1,a2⟩:=aes l s l.length (kF (l.getD j aL) (s.getD j 0)).toNat om;obtain⟨b1,b2⟩:=aes l s j (kF (l.getD j aL) (s.getD j 0)).toNat om;exact⟨b1.trans a1.symm,b2.trans a2.symm⟩
theorem amY (hn:c.gG≠1) (acc:ajm) (on:ag9) (k:Int):
  (c.gG=2->st1 acc on c k=((BG (upR acc c k) (Kj c k)).1,on.getD (kF c k).toNat false))/\
  (c.gG=3->st1 acc on c k=((qX (upR acc c k) (Kj c k)).1,on.getD (kF c k).toNat false))/\
  (c.gG=5->Kj c k=0->st1 acc on c k=(Rp,false))/\
  ((c.gG=4\/(c.gG=5/\Kj c k=1))->st1 acc on c k=(upR acc c k,on.getD (kF c k).toNat false)):=by
 have hk:(c.gG==1)=false:=by
  cases h:c.gG==1 with
  | false=>rfl
  | true=>exact absurd (eq_of_beq h) hn
 refine⟨λ h=>?_,λ h=>?_,λ h h0=>?_,λ h=>?_⟩
 ·unfold st1;rw[h];rfl
 ·unfold st1;rw[h];rfl
 ·unfold st1;rw[show c.aP.getD k.toNat 0=Kj c k from rfl,h,h0];rfl
 rcases h with h | ⟨h,h1⟩
 ·unfold st1;rw[h];rfl
 unfold st1;rw[show c.aP.getD k.toNat 0=Kj c k from rfl,h,h1];rfl
def amZ (hv:lG c i=true) (hk:0<=k/\k<c.aP.length) (hn:c.gG≠1):(c.gG=2/\1<=Kj c k/\Kj c k<=64)\/(c.gG=3/\1<=Kj c k/\Kj c k<=64)\/c.gG=4\/(c.gG=5/\Kj c k=k/\(k=0\/k=1)):=by
 have hmem:Kj c k∈c.aP:=jI 0 om;rcases sV (lH hv)with⟨h1,h2,h3,h4⟩ | ⟨h1,h2,h3,h4⟩ | ⟨h1,h2,h3⟩ | ⟨h1,h2,h3⟩
 ·exact absurd h1 hn
 ·rcases h1 with h1 | h1
  ·exact .inl ⟨h1,h4 _ hmem⟩
  exact .inr (.inl ⟨h1,h4 _ hmem⟩)
 ·exact .inr (.inr (.inl h1))
 rw[h3]at hk;have hk2:k=0\/k=1:=by simp at hk;omega
 refine .inr (.inr (.inr ⟨h1,?_,hk2⟩));unfold Kj;rw[h3];rcases hk2 with rfl | rfl<;>rfl
def am0 (l:ah3):∀j:Nat,0<=(iR l).getD j 0:=λ j=>((j6 l).2 j).1
theorem am1 (hf:acg l) (hs:mF l s=true):∀j,j<l.length->
  ((gV l s).getD j dZ=Rp/\(Sm l s).1.getD j dZ=Rp/\(Sm l s).2.getD j false=false)\/
  ∃a b,YF 4000000000 a b ((iR l).getD j 0)/\(gV l s).getD j dZ=red a b/\(Sm l s).1.getD j dZ=red a b/\(Sm l s).2.getD j false=true:=by
 have hg:=QU hf hs;have hu:=amX hf hs;obtain⟨_,hset⟩:=aa3 hs;have axF:=λ j hj=>aoU (ail hf) j hj;have hfb:=am0 l;generalize hA:gV l s=A;generalize hB:Sm l s=B;intro j;induction j using Nat.strongRecOn with
 | ind j ih=>
  intro hj;have eA:=aky hg j hj;have eB:=arM hg hu j hj;rw[hA]at eA;rw[hB]at eB;have hv:=hf.valid j hj;have hk:=hset j hj;have hfj:=hf.iR j hj;have atZ:=axF j hj;generalize l.getD j aL=c at *;generalize s.getD j 0=k at *;by_cases hk1:c.gG=1
  ·right;obtain⟨e1,e2,e3,e4,_⟩:=aoW hv hk hk1 A;have eB1:st1 B.1 B.2 c k=(⟨Kj c k,1⟩,true):=by unfold st1;rw[hk1];rfl
   rw[eB1]at eB;have hb:=hfb j;have er:(⟨Kj c k,1⟩:bQ)=red (Kj c k).toNat 1:=by
    rw[aoS];congr 1;omega
   refine⟨(Kj c k).toNat,1,⟨om,by decide,om,?_,Nat.pow_pos (by decide)⟩,?_,?_,?_⟩
   ·exact Nat.le_trans (show(Kj c k).toNat<=4000000000 by omega) (Nat.le_mul_of_pos_right _ (Nat.pow_pos (by decide)))
   ·rw[eA,e4,er]
   ·rw[<- er];exact congrArg Prod.fst eB
   exact congrArg Prod.snd eB
  have hst:=aer hv hk hk1;have hpl:(kF c k).toNat<l.length:=by have:=hst.p0;have:=hst.pi;omega
  have hpf:=atZ _ hst.mem;have ihp:=ih (kF c k).toNat (by have:=hst.p0;have:=hst.pi;omega) hpl;have uA:A.getD (kF c k).toNat dZ=upR A c k:=rfl;have uB:B.1.getD (kF c k).toNat dZ=upR B.1 c k:=rfl;rw[uA,uB]at ihp;obtain⟨q2,q3,q50,q4⟩:=amY hk1 B.1 B.2 k;have hn:∀n:Int,1<=n/\n<=64->1<=n.toNat/\n.toNat<=64:=λ n hn=>by omega
  rcases ihp with⟨i1,i2,i3⟩ | ⟨a,b,i0,i1,i2,i3⟩
  ·left;have hA0:Yg A c k=Rp:=by
    rcases agq hv hk hk1 A with⟨_,q⟩ | ⟨q,_⟩
    ·exact q
    rw[i1]at q;cases q
   rw[i2,i3]at q2 q3 q4;have hB0:st1 B.1 B.2 c k=(Rp,false):=by
    rcases amZ hv hk hk1 with⟨h,h1⟩ | ⟨h,h1⟩ | h | ⟨h,h1,h2⟩
    ·rw[q2 h,amW _ h1]
    ·rw[q3 h,akw _ h1]
    ·exact q4 (.inl h)
    rcases h2 with h2 | h2
    ·exact q50 h om
    exact q4 (.inr ⟨h,om⟩)
   rw[hB0]at eB;exact⟨by rw[eA,hA0],congrArg Prod.fst eB,congrArg Prod.snd eB⟩
  have oA:nO (upR A c k)=false:=by rw[i1];exact amV a b i0.a0
  rw[i2,i3]at q2 q3 q4;rcases agq hv hk hk1 A with⟨q0,q⟩ | ⟨_,q⟩
  ·left;rw[oA]at q0;rcases q0 with q0 | ⟨q0,q1⟩
   ·cases q0
   rw[q50 q0 q1]at eB;exact⟨by rw[eA,q],congrArg Prod.fst eB,congrArg Prod.snd eB⟩
  right;rcases q with⟨r1,r2,r3,r4⟩ | ⟨r1,r2,r3,r4⟩ | ⟨r1,r2,r3⟩
  ·rw[r2]at hpf;have hnew:=i0.over hpf (hn _ r3);have hs2:=hnew.small hfj (by decide);have eo:=agp a b _ i0.b0 r3 hs2.2.1 hs2.2.2;rw[q2 r1,eo]at eB;exact⟨a,b*(Kj c k).toNat,hnew,by rw[eA,r4,i1,eo],congrArg Prod.fst eB,congrArg Prod.snd eB⟩
  ·rw[r2]at hpf;have hnew:=i0.times hpf (hn _ r3);have hs2:=hnew.small hfj (by decide);have eo:=adi a b _ i0.b0 r3 hs2.2.1 hs2.2.2;rw[q3 r1,eo]at eB;exact⟨a*(Kj c k).toNat,b,hnew,by rw[eA,r4,i1,eo],congrArg Prod.fst eB,congrArg Prod.snd eB⟩
  rw[r2]at hpf;rw[q4 r1]at eB;exact⟨a,b,i0.mono (by simpa using hpf),by rw[eA,r3,i1],congrArg Prod.fst eB,congrArg Prod.snd eB⟩
def QX (hf:acg l) (hs:mF l s=true) (j:Nat) (hj:j<l.length):(Sm l s).1.getD j dZ=(gV l s).getD j dZ/\(Sm l s).2.getD j false=!nO ((gV l s).getD j dZ)/\qg ((gV l s).getD j dZ)=true/\(nO ((gV l s).getD j dZ)=true->(gV l s).getD j dZ=Rp):=by
 rcases am1 hf hs j hj with⟨h1,h2,h3⟩ | ⟨a,b,h0,h1,h2,h3⟩
 ·rw[h1,h2,h3];exact⟨rfl,rfl,by decide,λ _=>rfl⟩
 have hs2:=h0.small (hf.iR j hj) (by decide);rw[h1,h2,h3,amV a b h0.a0];exact⟨rfl,rfl,QV a b h0.b0 hs2.2.1 hs2.2.2,nofun⟩
def Fb {l m:List α} (d:α) (h:l.length=m.length) (he:∀i,i<l.length->l.getD i d=m.getD i d):l=m:=by
 apply List.ext_getElem h;intro i h1 h2;have:=he i h1;rw[List.getD_eq_getElem?_getD,List.getD_eq_getElem?_getD,List.getElem?_eq_getElem h1,List.getElem?_eq_getElem h2]at this;simpa using this
structure ayF (l:ah3) (s w:ag8):Prop where
 chain:∀i,i+1<w.length->(l.getD (w.getD i 0).toNat aL).gG≠1/\w.getD (i+1) 0=kF (l.getD (w.getD i 0).toNat aL) (s.getD (w.getD i 0).toNat 0)
 last:∀i,i+1=w.length->(l.getD (w.getD i 0).toNat aL).gG=1
def kg (n lo hi:Int):j4 n lo hi (dU n lo hi):=rfl
def aeu (hl:l.length<=2000000):lY l (l.any TB):=
 Sl (U3 (p:=H7) (P:=TB) (λ _ _=>rfl) om) (qI _ _)
def YG {p a:Int} (ha : -2000000<=a/\a<=2000000):Al p a (!dU p 0 (a - 1)):=
 mg (aK (by unfold aC;omega) (aG (yV (kg _ _ _)) λ v hv=>by subst hv;exact ay rfl))
def aev {l:ag8} {a:Int} (ha : -2000000<=a/\a<=2000000) (hl:l.length<=2000000):oJ l a (l.any λ y=>!dU y 0 (a - 1)):=
 Sl (U3 (p:=λ x=>Al x a) (P:=λ y=>!dU y 0 (a - 1)) (λ _ _=>YG ha) om) (qI _ _)
def aa4 {l:ag8} {v:Int} (hl:l.length<=2000000):slices_Contains_int l v (l.contains v):=by
 refine Sl (ah8 (P:=λ x=>v==x) om) ?_;rw[qI];exact(List.contains_eq_any_beq).symm
def yB {l:ag8} (hl:l.length<=2000000):nE l lo hi (yu lo hi [] l):=by
 refine mg (amy l.length (λ i=>yu lo hi (l.take i) (l.drop i)=yu lo hi [] l) ?_ rfl);intro self i hi1 hi2 ih;apply bL<;>intro c
 ·have c:=of_decide_eq_true c;have hlt:i<l.length:=by omega
  rw[drop_cons 0 hlt]at hi2;refine aK om ?_;refine aG (yV (kg _ _ _)) λ v hv=>?_;subst hv;refine aK (λ _=>by omega) ?_;refine aG (ig λ _=>aa4 (by simp;omega)) λ v hv=>?_;subst hv;apply bL<;>intro c2
  ·refine ay ?_;rw[<- hi2,ZG (pre:=l.take i) (n:=l.getD i 0) c2]
  refine aK (by unfold aC;omega) (ih hlt ?_);rw[<- hi2,aen (pre:=l.take i) (n:=l.getD i 0) c2,iq 0 hlt]
 have c:=of_decide_eq_false c;refine ay ?_;rw[<- hi2,List.drop_eq_nil_of_le om];rfl
def TJ {a b:ag8} (hl:a.length<=2000000):slices_Equal_int a b (a==b):=by
 refine mg (bL (λ c=>?_) (λ c=>?_))
 ·refine ay ?_;have:a≠b:=λ h=>by subst h;simp at c
  exact(beq_eq_false_iff_ne.2 this).symm
 have hlen:a.length=b.length:=by simp at c;omega
 refine amy a.length (λ i=>(a==b)=(a.drop i==b.drop i)) ?_ rfl;intro self i hi1 hi2 ih;apply bL<;>intro c
 ·have c:=of_decide_eq_true c;have hlt:i<a.length:=by omega
  rw[drop_cons 0 hlt,drop_cons 0 (show i<b.length by omega)]at hi2;refine aK om (aK om ?_);apply bL<;>intro c2
  ·refine ay ?_;rw[hi2];simp at c2;simp[c2]
  refine aK (by unfold aC;omega) (ih hlt ?_);rw[hi2];simp at c2;simp[c2]
 have c:=of_decide_eq_false c;refine ay ?_;rw[hi2,List.drop_eq_nil_of_le om,List.drop_eq_nil_of_le om];rfl
def ach (hk : -2000000<=k/\k<=2000000) (hp:c.aS.length<=2000000) (hc:c.aP.length<=2000000):Oh c k (lG c k):=by
 refine mg ?_;refine aG (yV (aev hk hp)) λ v1 hv=>?_;subst hv;refine aG (ig λ _=>kg c.fV 0 4000000000) λ v hv=>?_;subst hv;refine aG (ig λ _=>kg c.Low 0 c.fV) λ v hv=>?_;subst hv;apply bL<;>intro h
 ·refine ay ?_;unfold lG;rw[h];rfl
 have hv:lG c k=jk c:=by unfold lG;rw[h];rfl
 rw[hv];apply bL<;>intro k1
 ·refine aK (λ h=>by simp at h;omega) ?_;refine aG (ig λ _=>kg (c.aP.getD 0 0) 1 4000000000) λ v hv=>?_;subst hv;refine ay ?_;unfold jk;rw[k1];rfl
 apply bL<;>intro k2
 ·rw[k2];refine aG (ig λ _=>yB hc) λ v hv=>?_;subst hv;refine ay ?_;unfold jk;rw[k1,k2];rfl
 apply bL<;>intro k3
 ·refine aG (ig λ _=>yB hc) λ v hv=>?_;subst hv;refine ay ?_;unfold jk;rw[k1,k2,k3];rfl
 apply bL<;>intro k4
 ·refine aK (λ _=>by unfold aC;omega) ?_;refine aG (ig λ _=>yB hc) λ v hv=>?_;subst hv;refine ay ?_;unfold jk;rw[k1,k2,k3,k4];rfl
 apply bL<;>intro k5
 ·apply bL<;>intro h1
  ·refine aG (ig λ _=>TJ hc) λ v hv=>?_;subst hv;refine ay ?_;unfold jk;rw[k1,k2,k3,k4,k5];rfl
  refine ay ?_;unfold jk;rw[k1,k2,k3,k4,k5];simp at h1;simp[h1]
 refine ay ?_;unfold jk;rw[k1,k2,k3,k4,k5];rfl
def set_mid (a:List α) (x y:α) (z:List α):(a++x::z).set a.length y=a++y::z:=by
 rw[List.set_append_right _ _ (Nat.le_refl _),Nat.sub_self];rfl
def uV (hl:l.length<=2000000):rX l (eY l):=by
 refine mg ?_;refine aG (ig λ _=>aeu hl) λ v hv=>?_;subst hv;apply bL<;>intro h
 ·refine ay ?_;unfold eY;rw[h];rfl
 have hb3:(decide (16<(l.length:Int))||l.any TB)=false:=h;have h16:l.length<=16:=by simp at hb3;omega
 have hbig:∀i:Nat,i<l.length->TB (l.getD i aL)=false:=nV aL (by simp only[Bool.or_eq_false_iff]at hb3;exact hb3.2);refine amy l.length (λ i=>∀j:Nat,j<i->lG (l.getD j aL) j=true) ?_ (λ j hj=>absurd hj (Nat.not_lt_zero j));intro self i hi1 hi2 ih;apply bL<;>intro h2
 ·have hlt:i<l.length:=by have:=of_decide_eq_true h2;omega
  have hbl:=PD (hbig i hlt);refine aK om ?_;refine aG (yV (ach (c:=l.getD i aL) (k:=i) om om om)) λ v hv=>?_;subst hv;apply bL<;>intro h3
  ·refine ay ?_;unfold eY;rw[hb3,TG hlt (by simpa using h3)];rfl
  refine aK (by unfold aC;omega) (ih hlt λ j hj=>?_);by_cases hji:j=i
  ·subst hji;simpa using h3
  exact hi2 j om
 have hil:i=l.length:=by have:=of_decide_eq_false h2;omega
 subst hil;have hall:=ade hi2;refine aK ⟨om,by show(l.length:Int)*8<=140737488355328;omega⟩ ?_;refine bK (λ g:Int×Int×ag8=>∃i:Nat,g=(mU (l.take i),(i:Int),iR (l.take i)++List.replicate (l.length - i) 0)/\i<=l.length/\mU (l.take i)<=4096/\∀j:Nat,j<i->(λ n=>decide (4<n)) ((iR l).getD j 0)=false) (λ g=>(l.length - g.2.1).toNat) ?_ ⟨0,rfl,om,by rw[List.take_zero];decide,λ j hj=>absurd hj (Nat.not_lt_zero j)⟩;rintro dR g ⟨i,rfl,hj1,hj2,hj3⟩ ih2;apply bL<;>intro h3
 ·have hlt:i<l.length:=by have:(i:Int)<(l.length:Int):=of_decide_eq_true h3;omega
  refine aK (by show 0<=(i:Int)/\(i:Int)<(l.length:Int);omega) ?_;obtain⟨hfl,hb⟩:=j6 (l.take i);rw[take_len hj1]at hfl hb;have hpi:=(agj hi2 hbig) i hlt;have hsn:iR (l.take (i+1))=iR (l.take i)++[KY (iR (l.take i)) (l.getD i aL)]:=by rw[iq aL hlt,En]
  have hpm:=KZ (iR (l.take i)) i om hb;have hrep:List.replicate (l.length - i) (0:Int)=0::List.replicate (l.length - i - 1) 0:=by
   rw[show l.length - i=(l.length - i - 1)+1 by omega];rfl
  have hcut:W (vg l (mU (l.take i),(i:Int),iR (l.take i)++List.replicate (l.length - i) 0) dR (iR (l.take i)++KY (iR (l.take i)) (l.getD i aL)::List.replicate (l.length - i - 1) 0)) (λ r=>r=eY l):=by
   have hbl:=PD (hbig i hlt);have hpb:=PE (l.take i);have ayG:0<=mU (l.take i)*((l.getD i aL).aP.length:Int)/\mU (l.take i)*((l.getD i aL).aP.length:Int)<=4096*8:=⟨Int.mul_nonneg hpb.1 om,Int.mul_le_mul hj2 om om om⟩;have hpe:mU (l.take (i+1))=mU (l.take i)*((l.getD i aL).aP.length:Int):=by
    rw[iq aL hlt,TH];unfold YE;rw[if_neg om]
   have hfi:(iR l).getD i 0=KY (iR (l.take i)) (l.getD i aL):=by
    rw[WR l (i+1) i om hlt,hsn,lX 0 hfl.symm]
   refine aK (by show aC (mU (l.take i)*((l.getD i aL).aP.length:Int));unfold aC;omega) ?_;refine aK (λ _=>by simp[hfl];omega) ?_;apply bL<;>intro h5
   ·have h5:(decide (4096<mU (l.take i)*((l.getD i aL).aP.length:Int))||decide (4<(iR (l.take i)++KY (iR (l.take i)) (l.getD i aL)::List.replicate (l.length - i - 1) 0).getD i 0))=true:=h5;rw[lX 0 hfl.symm,<- hfi,<- hpe]at h5;refine ay ?_;unfold eY;rw[hb3,hall];have:(decide (4096<mU l)||(iR l).any (λ n=>decide (4<n)))=true:=by
     rw[Bool.or_eq_true]at h5 ⊢;rcases h5 with h5 | h5
     ·left;have h5:=of_decide_eq_true h5;have hm:=aik l (λ c hc=>by
       obtain⟨k,hk,rfl⟩:=List.mem_iff_getElem.1 hc;have:=PG (lH (hi2 k hk));rwa [List.getD_eq_getElem?_getD,List.getElem?_eq_getElem hk]at this) (i+1)
      exact decide_eq_true om
     right;exact yx (p:=λ n=>decide (4<n)) 0 (by rw[(j6 l).1];exact hlt) h5
    rw[this];rfl
   have h5:(decide (4096<mU (l.take i)*((l.getD i aL).aP.length:Int))||decide (4<(iR (l.take i)++KY (iR (l.take i)) (l.getD i aL)::List.replicate (l.length - i - 1) 0).getD i 0))=false:=h5;rw[lX 0 hfl.symm,<- hfi,<- hpe]at h5;rw[Bool.or_eq_false_iff]at h5;refine aK (by show aC ((i:Int)+1);unfold aC;omega) ?_;refine ih2 _ ⟨i+1,?_,hlt,by have:=of_decide_eq_false h5.1;omega,λ j hj=>?_⟩ (by show(l.length - ((i:Int)+1)).toNat<(l.length - (i:Int)).toNat;omega)
   ·rw[hsn,List.append_assoc,show l.length - (i+1)=l.length - i - 1 by omega,hpe];rfl
   by_cases hji:j=i
   ·subst hji;exact h5.2
   exact hj3 j om
  refine bK (λ g:Int×ag8=>∃j:Nat,g=((j:Int),iR (l.take i)++mE (iR (l.take i)) ((l.getD i aL).aS.take j)::List.replicate (l.length - i - 1) 0)/\j<=(l.getD i aL).aS.length) (λ g=>((l.getD i aL).aS.length - g.1).toNat) ?_ ⟨0,by rw[hrep];rfl,Nat.zero_le _⟩;rintro nX g ⟨j,rfl,hj⟩ ih7;apply bL<;>intro h4
  ·have hjl:j<(l.getD i aL).aS.length:=by have:(j:Int)<((l.getD i aL).aS.length:Int):=of_decide_eq_true h4;omega
   have hin:=hpi.2 ((l.getD i aL).aS.getD j 0) (jI 0 hjl);refine aK (by show 0<=(j:Int)/\(j:Int)<((l.getD i aL).aS.length:Int);omega) ?_;refine aK (by show 0<=(i:Int)/\(i:Int)<(((iR (l.take i)++mE (iR (l.take i)) ((l.getD i aL).aS.take j)::List.replicate (l.length - i - 1) 0).length:Nat):Int);simp[hfl];omega) ?_;refine aK (by show 0<=(l.getD i aL).aS.getD j 0/\(l.getD i aL).aS.getD j 0<(((iR (l.take i)++mE (iR (l.take i)) ((l.getD i aL).aS.take j)::List.replicate (l.length - i - 1) 0).length:Nat):Int);rw[List.length_append,hfl,List.length_cons];omega) ?_;refine aK (by show 0<=(i:Int)/\(i:Int)<(((iR (l.take i)++mE (iR (l.take i)) ((l.getD i aL).aS.take j)::List.replicate (l.length - i - 1) 0).length:Nat):Int);simp[hfl];omega) ?_;refine aK (by show aC ((j:Int)+1);unfold aC;have:=hpi.1;omega) ?_;refine ih7 _ ⟨j+1,?_,hjl⟩ (by show((l.getD i aL).aS.length - ((j:Int)+1)).toNat<((l.getD i aL).aS.length - (j:Int)).toNat;omega);have e:mE (iR (l.take i)) ((l.getD i aL).aS.take (j+1))=Ro ((iR (l.take i)++mE (iR (l.take i)) ((l.getD i aL).aS.take j)::List.replicate (l.length - i - 1) 0).getD i 0) ((iR (l.take i)++mE (iR (l.take i)) ((l.getD i aL).aS.take j)::List.replicate (l.length - i - 1) 0).getD ((l.getD i aL).aS.getD j 0).toNat 0):=by
    rw[lX 0 hfl.symm,mI 0 om];unfold mE;rw[vN _ _ 0 hjl]
   rw[e];have hs:=set_mid (iR (l.take i)) (mE (iR (l.take i)) ((l.getD i aL).aS.take j)) (Ro ((iR (l.take i)++mE (iR (l.take i)) ((l.getD i aL).aS.take j)::List.replicate (l.length - i - 1) 0).getD i 0) ((iR (l.take i)++mE (iR (l.take i)) ((l.getD i aL).aS.take j)::List.replicate (l.length - i - 1) 0).getD ((l.getD i aL).aS.getD j 0).toNat 0)) (List.replicate (l.length - i - 1) 0);rw[hfl]at hs;rw[<- hs];rfl
  have hje:j=(l.getD i aL).aS.length:=by have:¬ (j:Int)<((l.getD i aL).aS.length:Int):=of_decide_eq_false h4;omega
  subst hje;rw[List.take_length];have hpx:=hpm (l.getD i aL).aS;apply bL<;>intro h5
  ·have hlen:0<=(i:Int)/\(i:Int)<(((iR (l.take i)++mE (iR (l.take i)) (l.getD i aL).aS::List.replicate (l.length - i - 1) 0).length:Nat):Int):=by simp[hfl];omega
   refine aK hlen ?_;refine aK (by show aC ((iR (l.take i)++mE (iR (l.take i)) (l.getD i aL).aS::List.replicate (l.length - i - 1) 0).getD i 0+1);rw[lX 0 hfl.symm];unfold aC;omega) ?_;refine aK hlen ?_;have e:KY (iR (l.take i)) (l.getD i aL)=(iR (l.take i)++mE (iR (l.take i)) (l.getD i aL).aS::List.replicate (l.length - i - 1) 0).getD i 0+1:=by
    rw[lX 0 hfl.symm];unfold KY TF;rw[show((l.getD i aL).gG==2||(l.getD i aL).gG==3)=true from h5];rfl
   have hs:=set_mid (iR (l.take i)) (mE (iR (l.take i)) (l.getD i aL).aS) (KY (iR (l.take i)) (l.getD i aL)) (List.replicate (l.length - i - 1) 0);rw[hfl]at hs;rw[<- hs,e]at hcut;exact hcut
  have e:KY (iR (l.take i)) (l.getD i aL)=mE (iR (l.take i)) (l.getD i aL).aS:=by
   unfold KY TF;rw[show((l.getD i aL).gG==2||(l.getD i aL).gG==3)=false from h5];rfl
  rw[e]at hcut;exact hcut
 have hil:i=l.length:=by have:¬ (i:Int)<(l.length:Int):=of_decide_eq_false h3;omega
 subst hil;refine ay ?_;rw[List.take_length]at hj2;unfold eY;rw[hb3,hall,decide_eq_false (show ¬ 4096<mU l by omega),any_none (p:=λ n=>decide (4<n)) 0 (by rw[(j6 l).1];exact hj3)];rfl
def agr {a b:Int} (ha:0<=a) (hb:0<b):jG b (a.tmod b)=jG a b:=by
 unfold jG;rw[Int.tmod_eq_emod_of_nonneg ha,show(a % b).toNat=a.toNat % b.toNat from Int.toNat_emod ha om,Nat.gcd_comm a.toNat,Nat.gcd_rec b.toNat a.toNat,Nat.gcd_comm]
def aa5 {x M e:Int} (hM:0<=M) (he:0<e) (hx:0<=x) (h:x<=M.tdiv e):0<=x*e/\x*e<=M:=by
 rw[Int.tdiv_eq_ediv_of_nonneg hM]at h;exact⟨Int.mul_nonneg hx om,(Int.le_ediv_iff_mul_le he).1 h⟩
def WU {x y X Y:Int} (h1:0<=x) (h2:x<=X) (h3:0<=y) (h4:y<=Y):0<=y*x/\y*x<=Y*X:=
 ⟨Int.mul_nonneg h3 h1,Int.mul_le_mul h4 h2 h1 om⟩
def Ay {a_:Int} {b_:Int} (h1:0<=a_) (h2:0<=b_):W (r9 a_ b_) (λ r=>r=jG a_ b_):=by
 unfold r9;refine bK (λ(g1:Int×Int)=>0<=g1.1/\0<=g1.2/\jG g1.1 g1.2=jG a_ b_) (λ(g1:Int×Int)=>g1.2.toNat) ?_ ?_
 ·intro aj g1 eT dA;obtain⟨dW,cB,bH⟩:=eT;unfold Ou;refine wi ?_ ?_<;>intro c1
  ·refine wn<|dA _ ?_ ?_
   ·(refine⟨ob,Int.tmod_nonneg _ om,?_⟩;dsimp only;rw[<- bH];exact agr om om)
   (dsimp only;have:=U4 g1.1 g1.2 om;have:=Int.tmod_nonneg (a:=g1.1) g1.2 om;omega)
  refine ay ?_;(rw[<- bH];unfold jG;have e:g1.2=0:=c1;rw[e];simp;omega)
 exact ob
variable {r_:bQ}
def Eb:W (vQ r_) (λ r=>r=qg r_):=by
 unfold vQ;refine aG (ig λ hc=>mg (Ay (by have hc:=eu hc;omega) (by have hc:=eu hc;omega))) λ v1 hv1=>?_;subst v1;refine ay ?_;rfl
def aci {Rh:Int} {aaO:Int} {qw:Int} (h1:0<=Rh) (h2:Rh<=144115188075855872) (h3:1<=aaO) (h4:aaO<=16777216) (h5:1<=qw) (h6:qw<=64):W (Gg Rh aaO qw) (λ r=>r=(Rh.tdiv (jG Rh qw),aaO*qw.tdiv (jG Rh qw))):=by
 unfold Gg;refine aG (Ay ob ob) λ v1 hv1=>?_;subst v1;have hg:=BF Rh qw om;have q1:=tdiv_le Rh _ om hg;have q2:=tdiv_le qw _ om hg;have q3:=WU q2.1 (show qw.tdiv (jG Rh qw)<=64 by omega) (show 0<=aaO by omega) h4;refine wm<|wn ?_;refine ay ?_;rfl
def aa6 {xK:Int} {xL:Int} (h1:xK<=4611686018427387904) (h2:xL<=4611686018427387904):W (Ov xK xL) (λ r=>r=newR xK xL):=by
 unfold Ov;apply bL<;>intro c1
 ·have gW:=c1;have c1:=eu c1;refine ay ?_;(unfold newR;rw[gW];rfl)
 have gW:=c1;have c1:=eu c1;have hg:=BF xK xL om;have q1:=tdiv_le xK _ om hg;have q2:=tdiv_le xL _ om hg;refine aG (Ay ob ob) λ v1 hv1=>?_;subst v1;refine wm<|aG (Eb) λ v2 hv2=>?_;subst v2;apply bL<;>intro c2
 ·have lM:=c2;have c2:=eu c2;refine ay ?_;(unfold newR;rw[gW];simp only[cond_false];rw[lM];rfl)
 have lM:=c2;have c2:=eu c2;refine ay ?_;(unfold newR;rw[gW];simp only[cond_false];rw[lM];rfl)
def acj {pO:Int} {pQ:Int} {pR:Int} (h1:r_.kC=pO) (h2:r_.jE=pQ) (h3:k_=pR):W (Gh r_ k_ pO pQ pR) (λ r=>r=BG r_ k_):=by
 subst h1 h2 h3;unfold Gh;refine aG (Eb) λ v1 hv1=>?_;subst v1;apply bL<;>intro c1
 ·have gW:=c1;have c1:=eu c1;refine ay ?_;(unfold BG;rw[gW];rfl)
 have gW:=c1;have c1:=eu c1;have hv:=mR (r:=r_) (by simpa using gW);refine wi ?_ ?_<;>intro c2
 ·refine ay ?_;(unfold BG yw;rw[gW];simp only[cond_false];rw[show(!(decide (1<=k_)&&decide (k_<=64)))=true by simp;omega];rfl)
 refine aG (aci ob ob ob ob ob ob) λ v2 hv2=>?_;subst v2;have hg:=BF r_.kC k_ om;have q1:=tdiv_le r_.kC _ hv.1 hg;have q2:=tdiv_le k_ _ om hg;have q3:=WU q2.1 (show k_.tdiv (jG r_.kC k_)<=64 by omega) (show 0<=r_.jE by omega) hv.2.2.2.1;refine aG (aa6 ob ob) λ v3 hv3=>?_;subst v3;refine ay ?_;(unfold BG yw;rw[gW];simp only[cond_false];rw[show(!(decide (1<=k_)&&decide (k_<=64)))=false by simp;omega];exact akv _ _ _ hv.1 om om)
def Yi:W (I9 r_ k_) (λ r=>r=BG r_ k_):=by
 unfold I9;refine aG (acj rfl rfl rfl) λ v1 hv1=>?_;subst v1;refine ay ?_;rfl
def aa7 {iX:Int} {Ca:Int} {vR:Int} (h1:1<=iX) (h2:iX<=64) (h3:0<=Ca) (h4:Ca<=144115188075855872) (h5:1<=vR) (h6:vR<=16777216):W (Dw iX Ca vR) (λ r=>r=(bif decide ((144115188075855872:Int).tdiv (iX.tdiv (jG iX vR))<Ca)then(-1,1)else(Ca*(iX.tdiv (jG iX vR)),vR.tdiv (jG iX vR)))):=by
 unfold Dw;refine aG (Ay ob ob) λ v1 hv1=>?_;subst v1;have hg:=BF iX vR om;have q1:=tdiv_le iX _ om hg;have q2:=tdiv_le vR _ om hg;have q4:=arL iX vR om om;have q5:=tdiv_le 144115188075855872 _ om (show 0<iX.tdiv (jG iX vR) by omega);refine wm<|bL ?_ ?_<;>intro c1
 ·have gW:=c1;have c1:=eu c1;refine ay ?_;(rw[gW];rfl)
 have gW:=c1;have c1:=eu c1;have q3:=aa5 (x:=Ca) (M:=144115188075855872) (e:=iX.tdiv (jG iX vR)) om om om c1;refine wm<|wn ?_;refine ay ?_;(rw[gW];rfl)
def WV {pO:Int} {pQ:Int} {pR:Int} (h1:k_=pO) (h2:r_.kC=pQ) (h3:r_.jE=pR):W (xM r_ k_ pO pQ pR) (λ r=>r=qX r_ k_):=by
 subst h1 h2 h3;unfold xM;refine aG (Eb) λ v1 hv1=>?_;subst v1;apply bL<;>intro c1
 ·have gW:=c1;have c1:=eu c1;refine ay ?_;(unfold qX;rw[gW];rfl)
 have gW:=c1;have c1:=eu c1;have hv:=mR (r:=r_) (by simpa using gW);refine wi ?_ ?_<;>intro c2
 ·refine ay ?_;(unfold qX yw;rw[gW];simp only[cond_false];rw[show(!(decide (1<=k_)&&decide (k_<=64)))=true by simp;omega];rfl)
 refine aG (aa7 ob ob ob ob ob ob) λ v2 hv2=>?_;subst v2;have hg:=BF k_ r_.jE om;have q1:=tdiv_le k_ _ om hg;have q2:=tdiv_le r_.jE _ om hg;have q4:=arL k_ r_.jE om om;have q3:=WU (show 0<=k_.tdiv (jG k_ r_.jE) by omega) q4.2 hv.1 hv.2.1;have q6:∀M:Int,M.tdiv (k_.tdiv (jG k_ r_.jE))<r_.kC\/r_.kC<=M.tdiv (k_.tdiv (jG k_ r_.jE)):=λ M=>by omega
 refine aG (aa6 (by cases hd:decide ((144115188075855872:Int).tdiv (k_.tdiv (jG k_ r_.jE))<r_.kC)with | true=>(simp only[cond_true];omega) | false=>(have q7:=aa5 (x:=r_.kC) (M:=144115188075855872) (e:=k_.tdiv (jG k_ r_.jE)) om om om (by have:=of_decide_eq_false hd;omega);simp only[cond_false];omega)) (by cases hd:decide ((144115188075855872:Int).tdiv (k_.tdiv (jG k_ r_.jE))<r_.kC)with | true=>(simp only[cond_true];omega) | false=>(have q7:=aa5 (x:=r_.kC) (M:=144115188075855872) (e:=k_.tdiv (jG k_ r_.jE)) om om om (by have:=of_decide_eq_false hd;omega);simp only[cond_false];omega))) λ v3 hv3=>?_;subst v3;refine ay ?_;(unfold qX yw;rw[gW];simp only[cond_false];rw[show(!(decide (1<=k_)&&decide (k_<=64)))=false by simp;omega];simp only[cond_false];cases hd:decide ((144115188075855872:Int).tdiv (k_.tdiv (jG k_ r_.jE))<r_.kC)<;>rfl)
def U9:W (EC r_ k_) (λ r=>r=qX r_ k_):=by
 unfold EC;refine aG (WV rfl rfl rfl) λ v1 hv1=>?_;subst v1;refine ay ?_;rfl
def Ie {Dx:Int} {oK:Int}:W (wD r_ Dx oK) (λ r=>r=oC r_ Dx oK):=by
 unfold wD;refine aG (Eb) λ v1 hv1=>?_;subst v1;apply bL<;>intro c1
 ·have gW:=c1;have c1:=eu c1;refine ay ?_;(unfold oC;rw[show qg r_=false by simpa using gW];rfl)
 have gW:=c1;have c1:=eu c1;have hv:=mR (r:=r_) (by simpa using gW);have q1:=tdiv_le r_.kC r_.jE hv.1 om;refine wm<|ay ?_;(unfold oC;rw[show qg r_=true by simpa using gW];rfl)
def PK {m:ajc} (h:nN l m=true):∀x∈m,Pz l.length x=false:=λ x hx=>by
 obtain⟨_,_,h1⟩:=Fa h;obtain⟨i,hi,rfl⟩:=List.mem_iff_getElem.1 hx;have:=h1 i hi;rwa [List.getD_eq_getElem?_getD,List.getElem?_eq_getElem hi]at this
def qP {v:bQ} {L:ajm} (hL:L=qY l s i++List.replicate (l.length - i) dZ) (hi:i<l.length) (e:Yg (qY l s i) (l.getD i aL) (s.getD i 0)=v) {k:Nat} (hk:k=i+1:=by omega):L.set i v=qY l s k++List.replicate (l.length - k) dZ:=by
 subst hk hL;have hrl:=sU l s i;have hrep:List.replicate (l.length - i) dZ=dZ::List.replicate (l.length - (i+1)) dZ:=by
  rw[show l.length - i=(l.length - (i+1))+1 by omega];rfl
 rw[hrep,List.set_append_right _ _ om,hrl,Nat.sub_self,qY,e,List.append_assoc];rfl
def WW {x_:bP} {qw:ah3} (h1:qw.length<=2000000):W (rZ x_ qw) (λ r=>r=Pz qw.length x_):=by
 unfold rZ;refine wn<|aG (yV (kg _ _ _)) λ v1 hv1=>?_;subst v1;refine aG (ig λ hc=>kg _ _ _) λ v2 hv2=>?_;subst v2;refine aG (ig λ hc=>kg _ _ _) λ v3 hv3=>?_;subst v3;refine ay ?_;rfl
def zR {s_:ajc} {f_:ah3} (h1:s_.length<=2000000) (h2:f_.length<=2000000):W (l5 s_ f_) (λ r=>r=s_.any (Pz f_.length)):=
 yV (Sl (U3 (p:=λ x=>rZ x f_) (P:=Pz f_.length) (λ x hx=>mg (WW h2)) om) (qI _ _))
variable {l_:ah3}
def PL {m_:ajc} (h1:l_.length<=2000000) (h2:m_.length<=2000000):W (xI l_ m_) (λ r=>r=nN l_ m_):=by
 unfold xI;refine aG (yV (uV ob)) λ v1 hv1=>?_;subst v1;refine aG (ig λ hc=>mg (zR ob ob)) λ v2 hv2=>?_;subst v2;refine ay ?_;rfl
variable {s_:ag8}
def Ck (h1:l_.length<=2000000) (h2:s_.length<=2000000) (h3:agk l_):W (qN l_ s_) (λ r=>r=mF l_ s_):=by
 unfold qN;apply bL<;>intro c1
 ·have gW:=c1;have c1:=eu c1;refine ay ?_;(unfold mF;rw[show((s_.length:Int)==(l_.length:Int))=false by simpa using gW];rfl)
 have gW:=c1;have c1:=eu c1;have he:((s_.length:Int)==(l_.length:Int))=true:=by simpa using gW
 refine bK (λ(g1:Int)=>0<=g1/\g1<=s_.length/\(∀j:Nat,(j:Int)<g1->dU (s_.getD j 0) 0 ((l_.getD j aL).aP.length - 1)=true)) (λ(g1:Int)=>(s_.length - g1).toNat) ?_ ?_
 ·intro aj g1 eT dA;obtain⟨dW,cB,bH⟩:=eT;unfold I8;refine wi ?_ ?_<;>intro c2
  ·have hch:=h3 g1.toNat om;refine wm<|wn ?_;refine aG (yV (kg _ _ _)) λ v3 hv3=>?_;subst v3;apply bL<;>intro c3
   ·have jU:=c3;have c3:=eu c3;refine ay ?_;(unfold mF;rw[he,yA (i:=g1.toNat) om (by simpa using jU)];rfl)
   have jU:=c3;have c3:=eu c3;refine wn<|dA _ ?_ ?_
   ·(refine⟨ob,ob,λ j hj=>?_⟩;by_cases q:j<g1.toNat;(exact bH j om);(have e:j=g1.toNat:=by omega);subst e;simpa using jU)
   exact ob
  refine ay ?_;(unfold mF;rw[he,Aw λ j hj=>bH j om];rfl)
 (refine⟨ob,ob,λ j hj=>by omega⟩)
def PN {jP:Int} (h1:0<=jP) (h2:jP<l_.length) (h3:jP<s_.length) (h4:aa2 (l_.getD jP.toNat aL) (s_.getD jP.toNat 0)):W (xJ l_ s_ jP) (λ r=>r=kF (l_.getD jP.toNat aL) (s_.getD jP.toNat 0)):=by
 have hp:=h4;unfold aa2 at hp;unfold xJ;refine wn<|bL ?_ ?_<;>intro c1
 ·have gW:=c1;have c1:=eu c1;refine ay ?_;(unfold kF;rw[gW];rfl)
 have gW:=c1;have c1:=eu c1;apply bL<;>intro c2
 ·have lM:=c2;have c2:=eu c2;refine wm<|wn ?_;refine ay ?_;(unfold kF;rw[gW,lM];rfl)
 have lM:=c2;have c2:=eu c2;refine wn<|ay ?_;(unfold kF;rw[gW,lM];rfl)
def Sn (h1:Good l_ s_):W (Gi l_ s_) (λ r=>r=gV l_ s_):=by
 obtain⟨q1,q2,q3,q4,q5⟩:=h1;unfold Gi;refine wn<|bK (λ(g1:Int×ajm)=>0<=g1.1/\g1.1<=l_.length/\g1.2=qY l_ s_ g1.1.toNat++List.replicate (l_.length - g1.1.toNat) dZ) (λ(g1:Int×ajm)=>(l_.length - g1.1).toNat) ?_ ?_
 ·intro aj g1 eT dA;obtain⟨dW,cB,bH⟩:=eT;unfold Ow;refine wi ?_ ?_<;>intro c1
  ·have hlt:g1.1.toNat<l_.length:=om;have hch:=q3 _ hlt;have hpar:=q5 _ hlt;have hpc:=q4 _ hlt;have hrl:=sU l_ s_ g1.1.toNat;have hgl:g1.2.length=l_.length:=(by rw[bH,List.length_append,hrl,List.length_replicate];omega);refine wm<|wn ?_;refine aG (PN ob ob ob ob) λ v7 hv7=>?_;subst v7;apply bL<;>intro c2
   ·have lM:=c2;have c2:=eu c2;refine wm<|dA _ ?_ ?_
    ·(refine⟨ob,ob,?_⟩;dsimp only;exact qP bH om (by unfold Yg;rw[lM];rfl))
    exact ob
   have lM:=c2;have c2:=eu c2;have hget:g1.2.getD (kF (l_.getD g1.1.toNat aL) (s_.getD g1.1.toNat 0)).toNat dZ=(qY l_ s_ g1.1.toNat).getD (kF (l_.getD g1.1.toNat aL) (s_.getD g1.1.toNat 0)).toNat dZ:=by rw[bH];exact mI _ om
   refine wn<|bL ?_ ?_<;>intro c3
   ·have jU:=c3;have c3:=eu c3;refine wm<|dA _ ?_ ?_
    ·(refine⟨ob,ob,?_⟩;dsimp only;exact qP bH om (by unfold Yg;rw[lM,<- hget,show(nO _||_)=true from jU];rfl))
    exact ob
   have jU:=c3;have c3:=eu c3;apply bL<;>intro c4
   ·have sW:=c4;have c4:=eu c4;refine wn<|aG (Yi) λ v8 xk=>?_;subst v8;refine wm<|dA _ ?_ ?_
    ·(refine⟨ob,ob,?_⟩;dsimp only;exact qP bH om (by unfold Yg;rw[lM,<- hget,show(nO _||_)=false from jU,sW];rfl))
    exact ob
   have sW:=c4;have c4:=eu c4;apply bL<;>intro c5
   ·have BM:=c5;have c5:=eu c5;refine wn<|aG (U9) λ v9 Kk=>?_;subst v9;refine wm<|dA _ ?_ ?_
    ·(refine⟨ob,ob,?_⟩;dsimp only;exact qP bH om (by unfold Yg;rw[lM,<- hget,show(nO _||_)=false from jU,sW,BM];rfl))
    exact ob
   have BM:=c5;have c5:=eu c5;refine wm<|wn ?_;refine dA _ ?_ ?_
   ·(refine⟨ob,ob,?_⟩;dsimp only;exact qP bH om (by unfold Yg;rw[lM,<- hget,show(nO _||_)=false from jU,sW,BM];rfl))
   exact ob
  refine ay ?_;(rw[bH,show g1.1.toNat=l_.length by omega,Nat.sub_self];simp[gV])
 (refine⟨ob,ob,?_⟩;simp[qY])
def YH {x_:bP} {qw:ajm} (h1:0<=x_.fE) (h2:x_.fE<qw.length):W (uQ x_ qw) (λ r=>r=WS qw x_):=by
 unfold uQ;refine wm<|aG (ig λ hc=>mg (Ie)) λ v1 hv1=>?_;subst v1;refine ay ?_;rfl
def wW {s_:ajc} {f_:ajm} (h1:s_.length<=2000000) (h2:∀x∈s_,0<=x.fE/\x.fE<f_.length):W (kE s_ f_) (λ r=>r=s_.any (WS f_)):=
 yV (Sl (U3 (p:=λ x=>uQ x f_) (P:=WS f_) (λ x hx=>mg (YH (h2 x hx).1 (h2 x hx).2)) om) (qI _ _))
def acn {m_:ajc} (h1:l_.length<=2000000) (h2:s_.length<=2000000) (h3:m_.length<=2000000) (h4:agk l_):W (Gp l_ s_ m_) (λ r=>r=gD l_ s_ m_):=by
 unfold Gp;refine aG (PL ob ob) λ v1 hv1=>?_;subst v1;refine aG (ig λ hc=>mg (Ck ob ob ob)) λ v2 hv2=>?_;subst v2;apply bL<;>intro c1
 ·have gW:=c1;have c1:=eu c1;refine ay ?_;(unfold gD;rw[show(nN l_ m_&&mF l_ s_)=false from Bool.and_eq_false_iff.2 c1];rfl)
 have gW:=c1;have c1:=eu c1;have hls:nN l_ m_=true/\mF l_ s_=true:=by simpa using gW
 obtain⟨hck,hml,hmb⟩:=Fa hls.1;have hgd:=QU (vE hck) hls.2;have hrl:(gV l_ s_).length=l_.length:=sU _ _ _;refine aG (Sn ob) λ v3 hv3=>?_;subst v3;refine bK (λ(g1:Int)=>0<=g1/\g1<=l_.length/\(∀j:Nat,(j:Int)<g1->aep ((gV l_ s_).getD j dZ) (l_.getD j aL)=false)) (λ(g1:Int)=>(l_.length - g1).toNat) ?_ ?_
 ·intro aj g1 eT dA;obtain⟨dW,cB,bH⟩:=eT;unfold OE;refine wi ?_ ?_<;>intro c2
  ·refine wm<|wn ?_;refine aG (ig λ hc=>mg (Ie)) λ v6 hv6=>?_;subst v6;apply bL<;>intro c3
   ·have jU:=c3;have c3:=eu c3;refine ay ?_;(unfold gD;rw[hls.1,hls.2,show ownB l_ (gV l_ s_)=false from yA (i:=g1.toNat) om (by rw[show aep ((gV l_ s_).getD g1.toNat dZ) (l_.getD g1.toNat aL)=true from jU];rfl)];rfl)
   have jU:=c3;have c3:=eu c3;refine wn<|dA _ ?_ ?_
   ·(refine⟨ob,ob,λ j hj=>?_⟩;by_cases q:j<g1.toNat;(exact bH j om);(have e:j=g1.toNat:=by omega);subst e;exact jU)
   exact ob
  refine aG (wW ob (λ x hx=>by rw[hrl];exact(PI (PK hls.1 x hx)).1)) λ v7 hv7=>?_;subst v7;refine ay ?_;(unfold gD;rw[hls.1,hls.2,show ownB l_ (gV l_ s_)=true from Aw λ j hj=>by rw[bH j om];rfl];rfl)
 (refine⟨ob,ob,λ j hj=>by omega⟩)
def aco (h1:l_.length<=2000000) (h2:s_.length<=2000000) (h3:agk l_):W (Gj l_ s_) (λ r=>r=vX l_ s_):=by
 unfold Gj;refine aG (yV (uV ob)) λ v1 hv1=>?_;subst v1;apply bL<;>intro c1
 ·have gW:=c1;have c1:=eu c1;refine ay ?_;(unfold vX;rw[gW];rfl)
 have gW:=c1;have c1:=eu c1;have hck:eY l_=0:=by simpa using gW
 refine aG (Ck ob ob ob) λ v2 hv2=>?_;subst v2;apply bL<;>intro c2
 ·have lM:=c2;have c2:=eu c2;refine ay ?_;(unfold vX;rw[gW,lM];rfl)
 have lM:=c2;have c2:=eu c2;have hgd:=QU (vE hck) (show mF l_ s_=true by simpa using lM);refine aG (Sn ob) λ v3 hv3=>?_;subst v3;refine ay ?_;(unfold vX;rw[gW,lM];rfl)
end Go.Proofs.YtccjmcmolnbiiaaGreatDoor
namespace Go.Proofs.YtccjmcmolnbiiaaGreatDoor.Sp
open Go.Ab
set_option maxRecDepth 100000
deriving instance DecidableEq for aI,bO,bZ
structure Chn where
 over:Bool
 azD:ag8
 first:Int
 last:Int
deriving DecidableEq
structure Dem where
 TK:Int
 draw:Int
 child:Int
deriving DecidableEq
def aa8:Dem:=⟨0,0,0⟩
def dU (n lo hi:Int):Bool:=decide (lo<=n)&&decide (n<=hi)
def Va (s:aI):Bool:=decide (16<(s.bY.length:Int))
def Yj (s:aI) (k:Int):Bool:=((((!dU s.aW (-1) (k - 1))||((s.bY.length:Int)==0))||!dU s.gU 0 5000)||(decide (s.aW<0)&&(s.gU != 0)))||!dU s.iP 0 10000
def Rq:Int->ag8->Bool
 | _,[]=>true
 | p,v::t=>!(!dU v 1 5000||decide (v<=p))&&Rq v t
def zS (s:aI) (k:Int):Bool:=!Yj s k&&Rq 0 s.bY
variable {i:Nat}
theorem ags {lev:ag8} (hi:i<lev.length) {c:Bool} (hc:c=(!dU (lev.getD i 0) 1 5000||(decide (0<(i:Int))&&decide (lev.getD i 0<=lev.getD (i - 1) 0)))):
  Rq (if i=0 then 0 else lev.getD (i - 1) 0) (lev.drop i)=(!c&&Rq (lev.getD i 0) (lev.drop (i+1))):=by
 rw[drop_cons 0 hi,Rq,hc];congr 2;cases h:dU (lev.getD i 0) 1 5000 with
 | false=>rfl
 | true=>
  have h1:1<=lev.getD i 0:=by unfold dU at h;simp at h;simpa using h.1
  by_cases h0:i=0
  ·subst h0;simp;have h1:1<=lev.getD 0 0:=h1;have:¬ lev.getD 0 0<=0:=by omega
   simpa using this
  have:decide (0<(i:Int))=true:=by simp;omega
  rw[this,if_neg h0];simp
def acp (n:Int) (x:bO):Bool:=((!dU x.dG 0 (n - 1)||!dU x.fV 0 5000)||!dU x.Low 0 x.fV)||!dU x.Load 0 10000
def WX:Nat->ahf->Bool
 | _,[]=>true
 | i,s::t=>zS s i&&WX (i+1) t
def eY (l:ahf):Int:=bif decide (16<(l.length:Int))||l.any Va then 3 else bif WX 0 l then 0 else 1
variable {α:Type}
def nV (d:α) {p:α->Bool} {l:List α} (h:l.any p=false) (i:Nat) (hi:i<l.length):p (l.getD i d)=false:=by
 have:=jI d hi;rw[List.any_eq_false]at h;simpa using h _ this
def ajl (n:Nat):decide ((n:Int)<1)=((n:Int)==0):=by
 by_cases h:n=0
 ·subst h;rfl
 rw[decide_eq_false om];symm;simpa using h
def qZ (l:ahf) (d:ai8):Bool:=((eY l==0)&&decide ((d.length:Int)<=32))&&!(d.any (acp l.length))
def agt (n:Int) (x:bO):(((!dU x.dG 0 (n - 1)||!dU x.Low 0 x.fV)||decide (5000<x.fV))||!dU x.Load 0 10000)=acp n x:=by
 unfold acp;cases dU x.dG 0 (n - 1)with
 | false=>rfl
 | true=>
  cases dU x.Load 0 10000 with
  | false=>simp
  | true=>
   simp only[Bool.not_true,Bool.false_or,Bool.or_false];unfold dU;by_cases h1:0<=x.Low<;>by_cases h2:x.Low<=x.fV<;>by_cases h3:5000<x.fV<;>by_cases h4:0<=x.fV<;>by_cases h5:x.fV<=5000<;>simp[h1,h2,h3,h4,h5]<;>omega
def rlN:ahf->ag8->Bool
 | s::l,k::t=>dU k 0 (s.bY.length - 1)&&rlN l t
 | _,_=>true
def yC (l:ahf) (r:bZ):Bool:=bif((eY l != 0)||((r.On.length:Int) != l.length))||((r.dL.length:Int) != l.length)then false else rlN l r.dL
variable {l:ahf}
def K4 (h:eY l=0):l.length<=16/\(∀i,i<l.length->(l.getD i aD).bY.length<=16)/\WX 0 l=true:=by
 unfold eY at h;cases h1:(decide (16<(l.length:Int))||l.any Va)with
 | true=>rw[h1]at h;cases h
 | false=>
  rw[h1]at h;have h2:WX 0 l=true:=by
   cases hv:WX 0 l with
   | true=>rfl
   | false=>rw[hv]at h;cases h
  simp only[Bool.or_eq_false_iff]at h1;refine⟨by have:=of_decide_eq_false h1.1;omega,λ i hi=>?_,h2⟩;have:=nV aD h1.2 i hi;unfold Va at this;have:=of_decide_eq_false this;omega
def sZ (l:ahf) (d:ai8):Int:=bif eY l != 0 then eY l else bif !qZ l d then 1 else 0
def iD (d:α) (l:List α) (i:Nat) (v:α) (k:Nat):(l.set i v).getD k d=if k=i/\i<l.length then v else l.getD k d:=by
 rw[List.getD_eq_getElem?_getD,List.getD_eq_getElem?_getD,List.getElem?_set];by_cases h:i=k
 ·subst h;by_cases h2:i<l.length
  ·simp[h2]
  simp[h2]
 have:¬ (k=i/\i<l.length):=λ h'=>h h'.1.symm;simp[h,this]
def Vb {α:Type} (f:Nat->α->α):Nat->α->α
 | 0,a=>a
 | k+1,a=>Vb f k (f k a)
def zw (n:Nat) (d:ai8):ag9:=d.foldl (λ a x=>a.set x.dG.toNat true) (List.replicate n false)
def kN (l:ahf) (i:Nat) (a:ag9):ag9:=
 bif(a.getD i false||(l.getD i aD).gF)&&decide (0<=(l.getD i aD).aW)then(a.set i (a.getD i false||(l.getD i aD).gF)).set (l.getD i aD).aW.toNat true else a.set i (a.getD i false||(l.getD i aD).gF)
def jK (l:ahf) (d:ai8):ag9:=Vb (kN l) l.length (zw l.length d)
structure Vld (l:ahf) (d:ai8):Prop where
 len:l.length<=16
 axG:d.length<=32
 dG:∀i,i<l.length -> -1<=(l.getD i aD).aW/\(l.getD i aD).aW<i/\1<=(l.getD i aD).bY.length/\(l.getD i aD).bY.length<=16/\0<=(l.getD i aD).gU/\(l.getD i aD).gU<=5000/\0<=(l.getD i aD).iP/\(l.getD i aD).iP<=10000
 bY:∀i,i<l.length->Rq 0 (l.getD i aD).bY=true
 drw:∀x∈d,0<=x.dG/\x.dG<l.length/\0<=x.Low/\x.Low<=x.fV/\x.fV<=5000/\0<=x.Load/\x.Load<=10000
def G7 {n lo hi:Int}:dU n lo hi=true↔lo<=n/\n<=hi:=by
 unfold dU;simp
variable {k:Nat}
def agu (h:WX k l=true):∀i,i<l.length->zS (l.getD i aD) ((k+i:Nat):Int)=true:=by
 induction l generalizing k with
 | nil=>intro i hi;simp at hi
 | cons s t ih=>
  rw[WX,Bool.and_eq_true]at h;intro i hi;cases i with
  | zero=>exact h.1
  | succ i=>
   have:=ih h.2 i (by simpa using hi);rw[show k+(i+1)=k+1+i by omega];exact this
def agv {s:aI} {k:Int} (h:zS s k=true) : -1<=s.aW/\s.aW<k/\1<=s.bY.length/\0<=s.gU/\s.gU<=5000/\0<=s.iP/\s.iP<=10000/\Rq 0 s.bY=true/\(s.aW<0->s.gU=0):=by
 unfold zS Yj at h;simp only[Bool.and_eq_true,Bool.not_eq_true',Bool.or_eq_false_iff,Bool.not_eq_false',G7]at h;obtain⟨⟨⟨⟨⟨h1,h2⟩,h3⟩,h4⟩,h5⟩,h6⟩:=h;have h2':¬ (s.bY.length:Int)=0:=by simpa using h2
 refine⟨h1.1,om,om,h3.1,h3.2,h5.1,h5.2,h6,λ hp=>?_⟩;rw[decide_eq_true hp]at h4;simpa using h4
variable {d:ai8}
def aew (h:qZ l d=true):Vld l d:=by
 unfold qZ at h;simp only[Bool.and_eq_true,Bool.not_eq_true']at h;obtain⟨⟨h1,h2⟩,h3⟩:=h;have h1:eY l=0:=by simpa using h1
 obtain⟨c1,c2,c3⟩:=K4 h1;refine⟨c1,by have:=of_decide_eq_true h2;omega,λ i hi=>?_,λ i hi=>?_,λ x hx=>?_⟩
 ·have:=agv (agu c3 i hi);have:=c2 i hi;omega
 ·exact(agv (agu c3 i hi)).2.2.2.2.2.2.2.1
 have:=(List.any_eq_false.1 h3) x hx;unfold acp at this;simp only[Bool.not_eq_true,Bool.or_eq_false_iff,Bool.not_eq_false',G7]at this;omega
def adj {β:Type} (f:List α->β->List α) (hf:∀a x,(f a x).length=a.length) (d:List β) (a:List α):(d.foldl f a).length=a.length:=by
 induction d generalizing a with
 | nil=>rfl
 | cons x d ih=>rw[List.foldl_cons,ih,hf]
def wR (n:Nat) (d:ai8):(zw n d).length=n:=by
 unfold zw;rw[adj _ (λ a x=>List.length_set ..),List.length_replicate]
def qh (l:ahf) (i:Nat) (a:ag9):(kN l i a).length=a.length:=by
 unfold kN;cases(a.getD i false||(l.getD i aD).gF)&&decide (0<=(l.getD i aD).aW)<;>simp
def adk {f:Nat->List α->List α} (hf:∀i a,(f i a).length=a.length) (k:Nat) (a:List α):(Vb f k a).length=a.length:=by
 induction k generalizing a with
 | zero=>rfl
 | succ k ih=>rw[Vb,ih,hf]
def JJ (l:ahf) (d:ai8):(jK l d).length=l.length:=by
 unfold jK;rw[adk (qh l),wR]
def Wn {α:Type} (f:Nat->α->α) (n:Nat):Nat->α->α
 | 0,a=>a
 | k+1,a=>f (n - 1 - k) (Wn f n k a)
def akB (f:Nat->α->α) (n k:Nat) (hk:k<=n) (a:α):Vb f n a=Vb f (n - k) (Wn f n k a):=by
 induction k with
 | zero=>rfl
 | succ k ih=>
  rw[ih om,show n - k=n - (k+1)+1 by omega,Vb,Wn,show n - 1 - k=n - (k+1) by omega]
def ZH (f:Nat->α->α) (n:Nat) (a:α):Wn f n n a=Vb f n a:=by
 rw[akB f n n (Nat.le_refl _),Nat.sub_self];rfl
def G8 {f:Nat->List α->List α} (hf:∀i a,(f i a).length=a.length) (n k:Nat) (a:List α):(Wn f n k a).length=a.length:=by
 induction k with
 | zero=>rfl
 | succ k ih=>rw[Wn,hf,ih]
def nP (n k:Nat) (v:α):(List.replicate n v).getD k v=v:=by
 rw[List.getD_eq_getElem?_getD,List.getElem?_replicate];split<;>rfl
def Cm (n:Nat) (d:ai8):ag8:=d.foldl (λ a x=>a.set x.dG.toNat (a.getD x.dG.toNat 0+x.Load)) (List.replicate n 0)
def jD (l:ahf) (i:Nat) (a:ag8):ag8:=
 bif decide (0<=(l.getD i aD).aW)then a.set (l.getD i aD).aW.toNat (a.getD (l.getD i aD).aW.toNat 0+a.getD i 0)else a
def Fe (l:ahf) (d:ai8):ag8:=Vb (jD l) l.length (Cm l.length d)
def Vd (n:Nat) (d:ai8):(Cm n d).length=n:=by
 unfold Cm;rw[adj _ (λ a x=>List.length_set ..),List.length_replicate]
def K5 (l:ahf) (i:Nat) (a:ag8):(jD l i a).length=a.length:=by
 unfold jD;cases decide (0<=(l.getD i aD).aW)<;>simp
def TL (l:ahf) (d:ai8):(Fe l d).length=l.length:=by
 unfold Fe;rw[adk (K5 l),Vd]
def Bnd (a:ag8) (M:Int):Prop:=∀j,0<=a.getD j 0/\a.getD j 0<=M
def Bnd.set {a:ag8} {M N:Int} (h:Bnd a M) (hM:M<=N) (i:Nat) (v:Int) (hv:0<=v/\v<=N):Bnd (a.set i v) N:=λ j=>by
 rw[iD];have:=h j;split
 ·exact hv
 omega
def agw (n:Nat) (d:ai8) (hd:∀x∈d,0<=x.Load/\x.Load<=10000) (i:Nat) (hi:i<=d.length):Bnd (Cm n (d.take i)) (10000*i):=by
 induction i with
 | zero=>intro j;rw[List.take_zero];have:(Cm n []).getD j 0=0:=nP n j 0;omega
 | succ i ih=>
  have hsn:Cm n (d.take (i+1))=(Cm n (d.take i)).set (d.getD i dV).dG.toNat ((Cm n (d.take i)).getD (d.getD i dV).dG.toNat 0+(d.getD i dV).Load):=vN _ _ dV hi;rw[hsn];have h1:=ih om;have h2:=hd _ (jI dV hi);have h3:=h1 (d.getD i dV).dG.toNat;exact h1.set om _ _ om
def ain (l:ahf) (a:ag8) (M:Int) (h:Bnd a M) (k:Nat):Bnd (Wn (jD l) l.length k a) (M*2 ^ k):=by
 induction k with
 | zero=>show Bnd a (M*2 ^ 0);rw[Int.pow_zero,Int.mul_one];exact h
 | succ k ih=>
  rw[Wn];have e:M*2 ^ (k+1)=M*2 ^ k+M*2 ^ k:=by rw[Int.pow_succ,<- Int.mul_assoc];omega
  rw[e];generalize Wn (jD l) l.length k a=A at ih;generalize M*2 ^ k=X at ih;have hp:0<=X:=by have:=ih 0;omega
  unfold jD;cases decide (0<=(l.getD (l.length - 1 - k) aD).aW)with
  | true=>
   have h1:=ih (l.getD (l.length - 1 - k) aD).aW.toNat;have h2:=ih (l.length - 1 - k);exact ih.set om _ _ om
  | false=>
   intro j;have:=ih j;simp only[cond_false];omega
def Ve (hv:Vld l d) (k:Nat) (hk:k<=l.length):Bnd (Wn (jD l) l.length k (Cm l.length d)) 100000000000:=by
 have h1:=agw l.length d (λ x hx=>by have:=hv.drw x hx;omega) d.length (Nat.le_refl _);rw[List.take_length]at h1;have h2:=ain l _ _ h1 k;have hvl:=hv.len;have hvd:=hv.axG;have h3:(2:Int) ^ k<=2 ^ 16:=by exact_mod_cast Nat.pow_le_pow_right (n:=2) (by decide) (show k<=16 by omega)
 have h4:10000*(d.length:Int)*2 ^ k<=320000*2 ^ 16:=Int.mul_le_mul om h3 (Int.pow_nonneg (by decide)) (by decide);intro j;have:=h2 j;omega
def agx (h:sZ l d=0):qZ l d=true:=by
 unfold sZ at h;cases hc:eY l != 0 with
 | true=>rw[hc]at h;have:eY l=0:=h;rw[this]at hc;cases hc
 | false=>
  rw[hc]at h;cases hd:qZ l d with
  | true=>rfl
  | false=>rw[hd]at h;cases h
def zx (l:ahf) (r:bZ) (k:Nat):Int:=(l.getD k aD).bY.getD (r.dL.getD k 0).toNat 0
def TM (l:ahf) (r:bZ) (u:ag9) (ld:ag8) (i:Nat):Bool:=
 bif !r.On.getD i false then u.getD i false
 else(decide (0<=(l.getD i aD).aW)&&(!r.On.getD (l.getD i aD).aW.toNat false||decide (zx l r (l.getD i aD).aW.toNat<zx l r i+(l.getD i aD).gU)))||decide ((l.getD i aD).iP<ld.getD i 0)
def aex (l:ahf) (r:bZ) (x:bO):Bool:=!dU (zx l r x.dG.toNat) x.Low x.fV
def Cn (l:ahf) (r:bZ) (d:ai8):Bool:=(List.range l.length).all (λ i=>!TM l r (jK l d) (Fe l d) i)&&!(d.any (aex l r))
def gD (l:ahf) (r:bZ) (d:ai8):Bool:=bif !yC l r||!qZ l d then false else Cn l r d
structure Rok (l:ahf) (r:bZ):Prop where
 On:r.On.length=l.length
 len:r.dL.length=l.length
 bY:∀i,i<l.length->0<=r.dL.getD i 0/\(r.dL.getD i 0).toNat<(l.getD i aD).bY.length/\r.dL.getD i 0<(l.getD i aD).bY.length
def aoX {r:ag8} (h:r.length=l.length):rlN l r=true↔∀i,i<l.length->0<=r.getD i 0/\r.getD i 0<(l.getD i aD).bY.length:=by
 induction l generalizing r with
 | nil=>simp[rlN]
 | cons s l ih=>
  cases r with
  | nil=>simp at h
  | cons k r=>
   rw[rlN,Bool.and_eq_true,G7,ih (by simpa using h)];constructor
   ·rintro ⟨h1,h2⟩ i hi;cases i with
    | zero=>show 0<=k/\k<s.bY.length;omega
    | succ i=>exact h2 i (by simpa using hi)
   intro h2;refine⟨?_,λ i hi=>h2 (i+1) (by simpa using hi)⟩;have:0<=k/\k<s.bY.length:=h2 0 (by simp);omega
def QY {r:bZ}:yC l r=true↔eY l=0/\Rok l r:=by
 unfold yC;cases h:((eY l != 0)||((r.On.length:Int) != l.length))||((r.dL.length:Int) != l.length)with
 | true=>
  simp only[cond_true];constructor
  ·intro h;cases h
  rintro ⟨h1,h2⟩;rw[h1,h2.On,h2.len]at h;simp at h
 | false=>
  simp only[cond_false];have h':eY l=0/\r.On.length=l.length/\r.dL.length=l.length:=by
   simp at h;omega
  rw[aoX h'.2.2];constructor
  ·intro h1;exact⟨h'.1,h'.2.1,h'.2.2,λ i hi=>by have:=h1 i hi;omega⟩
  intro h1 i hi;have:=h1.2.bY i hi;omega
def aey {p:Int} {v:ag8} (h:Rq p v=true):∀j,j<v.length->p<v.getD j 0/\1<=v.getD j 0/\v.getD j 0<=5000:=by
 induction v generalizing p with
 | nil=>intro j hj;simp at hj
 | cons a v ih=>
  rw[Rq,Bool.and_eq_true,Bool.not_eq_true',Bool.or_eq_false_iff,Bool.not_eq_false',G7]at h;have h1:=of_decide_eq_false h.1.2;intro j hj;cases j with
  | zero=>show p<a/\1<=a/\a<=5000;omega
  | succ j=>
   have:=ih h.2 j (by simpa using hj);show p<v.getD j 0/\1<=v.getD j 0/\v.getD j 0<=5000;omega
def Co {n:Nat} {p:Nat->Bool} (hi:i<n) (h:p i=false):(List.range n).all p=false:=by
 rw[List.all_eq_false];exact⟨i,by simpa using hi,by simp[h]⟩
def PO {n:Nat} {p:Nat->Bool} (h:∀i,i<n->p i=true):(List.range n).all p=true:=by
 rw[List.all_eq_true];intro i hi;exact h i (by simpa using hi)
def aa9 {r:bZ} (hv:Vld l d) (hr:Rok l r) (i:Nat) (hi:i<l.length):1<=zx l r i/\zx l r i<=5000:=by
 have:=aey (hv.bY i hi) _ (hr.bY i hi).2.1;unfold zx;omega
def Fb (d:α) {a b:List α} (h1:a.length=b.length) (h2:∀j,j<a.length->a.getD j d=b.getD j d):a=b:=by
 apply List.ext_getElem h1;intro j hj hj';have:=h2 j hj;rw[List.getD_eq_getElem?_getD,List.getD_eq_getElem?_getD,List.getElem?_eq_getElem hj,List.getElem?_eq_getElem hj']at this;exact this
def atD (d:ai8) (i:Nat):Bool:=d.any (λ x=>x.dG==(i:Int))
def akC (n:Nat) (d:ai8) (hd:∀x∈d,0<=x.dG/\x.dG<n) (j:Nat):(zw n d).getD j false=atD d j:=by
 unfold zw atD;have key:∀(d:ai8) (a:ag9),a.length=n->(∀x∈d,0<=x.dG/\x.dG<n)->(d.foldl (λ a x=>a.set x.dG.toNat true) a).getD j false=(a.getD j false||d.any (λ x=>x.dG==(j:Int))):=by
  intro d;induction d with
  | nil=>intro a _ _;simp
  | cons x d ih=>
   intro a ha hd;have hx:=hd x (by simp);rw[List.foldl_cons,ih _ (by simpa using ha) (λ y hy=>hd y (by simp[hy])),iD,List.any_cons];by_cases hj:j=x.dG.toNat
   ·have:(x.dG==(j:Int))=true:=by simp;omega
    rw[if_pos ⟨hj,om⟩,this];simp
   have:(x.dG==(j:Int))=false:=by simp;omega
   rw[if_neg (λ h=>hj h.1),this];simp
 rw[key d _ (by simp) hd,nP];simp
structure Sq (l:ahf) (d:ai8) (k:Nat) (b:ag9):Prop where
 len:b.length=l.length
 hi:∀j,j<l.length->l.length - k<=j->b.getD j false=(Wn (kN l) l.length k (zw l.length d)).getD j false
 lo:∀j,j<l.length - k->(Wn (kN l) l.length k (zw l.length d)).getD j false=(b.getD j false||atD d j)
def Vf (l:ahf) (d:ai8) (i:Nat) (b:ag9):ag9:=
 bif(b.getD i false||(l.getD i aD).gF||atD d i)&&decide (0<=(l.getD i aD).aW)then(b.set i (b.getD i false||(l.getD i aD).gF||atD d i)).set (l.getD i aD).aW.toNat true else b.set i (b.getD i false||(l.getD i aD).gF||atD d i)
def Sq.step (hv:Vld l d) {b:ag9} (h:Sq l d k b) (hk:k<l.length):Sq l d (k+1) (Vf l d (l.length - 1 - k) b):=by
 obtain⟨h1,h2,h3⟩:=h;have hup:Wn (kN l) l.length (k+1) (zw l.length d)=kN l (l.length - 1 - k) (Wn (kN l) l.length k (zw l.length d)):=rfl;have hal:(Wn (kN l) l.length k (zw l.length d)).length=l.length:=by rw[G8 (qh l),wR]
 generalize Wn (kN l) l.length k (zw l.length d)=a at h2 h3 hup hal;have hs:=hv.dG (l.length - 1 - k) om;have hai:=h3 (l.length - 1 - k) om;generalize hi:l.length - 1 - k=i at hup hs hai;have hF:(a.getD i false||(l.getD i aD).gF)=(b.getD i false||(l.getD i aD).gF||atD d i):=by
  rw[hai];cases b.getD i false<;>cases(l.getD i aD).gF<;>cases atD d i<;>rfl
 refine⟨?_,?_,?_⟩
 ·unfold Vf;cases(b.getD i false||(l.getD i aD).gF||atD d i)&&decide (0<=(l.getD i aD).aW)<;>simp[h1]
 all_goals
  rw[hup]
  unfold Vf kN
  rw[hF]
  generalize (b.getD i false||(l.getD i aD).gF||atD d i)=F
  cases hc:F&&decide (0<=(l.getD i aD).aW)with
  | true=>
   simp only[cond_true]
   simp only[Bool.and_eq_true]at hc
   have hp:=of_decide_eq_true hc.2
   intro j hj
   try intro hj2
   simp only[iD,List.length_set,h1,hal]
   by_cases hjp:j=(l.getD i aD).aW.toNat/\(l.getD i aD).aW.toNat<l.length
   ·rw[if_pos hjp,if_pos hjp]
    try rfl
   rw[if_neg hjp,if_neg hjp]
   by_cases hji:j=i/\i<l.length
   ·rw[if_pos hji,if_pos hji]
    try omega
   rw[if_neg hji,if_neg hji]
   first | exact h2 j om om | exact h3 j om
  | false=>
   simp only[cond_false]
   intro j hj
   try intro hj2
   simp only[iD,h1,hal]
   by_cases hji:j=i/\i<l.length
   ·rw[if_pos hji,if_pos hji]
    try omega
   rw[if_neg hji,if_neg hji]
   first | exact h2 j om om | exact h3 j om
def Sq.done {b:ag9} (h:Sq l d l.length b):b=jK l d:=by
 refine Fb false (by rw[h.len,JJ]) λ j hj=>?_;rw[h.hi j (by rw[<- h.len];exact hj) om,ZH];rfl
def Sq.start (hv:Vld l d):Sq l d 0 (List.replicate l.length false):=by
 refine⟨by simp,λ j hj h=>by omega,λ j hj=>?_⟩;rw[nP];show(zw l.length d).getD j false=_;rw[akC _ _ (λ x hx=>by have:=hv.drw x hx;omega)];simp
def PS (d:ai8) (i:Nat):Int:=d.foldl (λ s x=>bif x.dG==(i:Int)then s+x.Load else s) 0
def WY {j:Nat} (h:j<d.length):PS (d.take (j+1)) i=bif(d.getD j dV).dG==(i:Int)then PS (d.take j) i+(d.getD j dV).Load else PS (d.take j) i:=vN _ _ dV h
def am3 (n:Nat) (d:ai8) (hd:∀x∈d,0<=x.dG/\x.dG<n) (j:Nat):(Cm n d).getD j 0=PS d j:=by
 unfold Cm PS;have key:∀(d:ai8) (a:ag8) (s:Int),a.length=n->(∀x∈d,0<=x.dG/\x.dG<n)->a.getD j 0=s->(d.foldl (λ a x=>a.set x.dG.toNat (a.getD x.dG.toNat 0+x.Load)) a).getD j 0=d.foldl (λ s x=>bif x.dG==(j:Int)then s+x.Load else s) s:=by
  intro d;induction d with
  | nil=>intro a s _ _ h;exact h
  | cons x d ih=>
   intro a s ha hd h;have hx:=hd x (by simp);rw[List.foldl_cons,List.foldl_cons];refine ih _ _ (by simpa using ha) (λ y hy=>hd y (by simp[hy])) ?_;rw[iD];by_cases hj:j=x.dG.toNat
   ·have:(x.dG==(j:Int))=true:=by simp;omega
    rw[if_pos ⟨hj,om⟩,this,<- hj,h];rfl
   have:(x.dG==(j:Int))=false:=by simp;omega
   rw[if_neg (λ h=>hj h.1),this];exact h
 exact key d _ 0 (by simp) hd (nP _ _ _)
def Vg (hd:∀x∈d,0<=x.Load/\x.Load<=10000) (i j:Nat) (hj:j<=d.length):0<=PS (d.take j) i/\PS (d.take j) i<=10000*j:=by
 induction j with
 | zero=>rw[List.take_zero];exact⟨Int.le_refl _,Int.le_refl _⟩
 | succ j ih=>
  have:=ih om;have h2:=hd _ (jI dV hj);rw[WY hj];cases(d.getD j dV).dG==(i:Int)with
  | true=>simp only[cond_true];omega
  | false=>simp only[cond_false];omega
structure MX (l:ahf) (d:ai8) (k:Nat) (b:ag8):Prop where
 len:b.length=l.length
 pos:∀j,0<=b.getD j 0
 hi:∀j,j<l.length->l.length - k<=j->b.getD j 0=(Wn (jD l) l.length k (Cm l.length d)).getD j 0
 lo:∀j,j<l.length - k->(Wn (jD l) l.length k (Cm l.length d)).getD j 0=b.getD j 0+PS d j
def QZ (l:ahf) (d:ai8) (i:Nat) (b:ag8):ag8:=
 bif decide (0<=(l.getD i aD).aW)then(b.set i (b.getD i 0+PS d i)).set (l.getD i aD).aW.toNat (b.getD (l.getD i aD).aW.toNat 0+(b.getD i 0+PS d i))else b.set i (b.getD i 0+PS d i)
variable {b:ag8}
def MX.step (hv:Vld l d) (h:MX l d k b) (hk:k<l.length):MX l d (k+1) (QZ l d (l.length - 1 - k) b):=by
 obtain⟨h1,h0,h2,h3⟩:=h;have hdp:∀i,0<=PS d i:=λ i=>by
  have:=(Vg (d:=d) (λ x hx=>by have:=hv.drw x hx;omega) i d.length (Nat.le_refl _)).1;rwa [List.take_length]at this
 have hup:Wn (jD l) l.length (k+1) (Cm l.length d)=jD l (l.length - 1 - k) (Wn (jD l) l.length k (Cm l.length d)):=rfl;have hal:(Wn (jD l) l.length k (Cm l.length d)).length=l.length:=by rw[G8 (K5 l),Vd]
 generalize Wn (jD l) l.length k (Cm l.length d)=a at h2 h3 hup hal;have hs:=hv.dG (l.length - 1 - k) om;have hai:=h3 (l.length - 1 - k) om;generalize hi:l.length - 1 - k=i at hup hs hai;have hb0:=h0 i;have hd0:=hdp i;refine⟨?_,?_,?_,?_⟩
 ·unfold QZ;cases decide (0<=(l.getD i aD).aW)<;>simp[h1]
 ·intro j;have hb1:=h0 j;have hb2:=h0 (l.getD i aD).aW.toNat;unfold QZ;cases decide (0<=(l.getD i aD).aW)<;>simp only[cond_true,cond_false,iD]<;>repeat' split
  all_goals omega
 all_goals
  rw[hup]
  unfold QZ jD
  cases hc:decide (0<=(l.getD i aD).aW)with
  | true=>
   simp only[cond_true]
   have hp:=of_decide_eq_true hc
   intro j hj
   try intro hj2
   simp only[iD,List.length_set,h1,hal]
   have hap:=h3 (l.getD i aD).aW.toNat om
   by_cases hjp:j=(l.getD i aD).aW.toNat/\(l.getD i aD).aW.toNat<l.length
   ·rw[if_pos hjp,if_pos hjp]
    try rw[hjp.1]
    omega
   rw[if_neg hjp,if_neg hjp]
   by_cases hji:j=i/\i<l.length
   ·rw[if_pos hji,hji.1]
    omega
   rw[if_neg hji]
   first | exact h2 j om om | exact h3 j om
  | false=>
   simp only[cond_false]
   intro j hj
   try intro hj2
   simp only[iD,h1]
   by_cases hji:j=i/\i<l.length
   ·rw[if_pos hji,hji.1]
    omega
   rw[if_neg hji]
   first | exact h2 j om om | exact h3 j om
def MX.done (h:MX l d l.length b):b=Fe l d:=by
 refine Fb 0 (by rw[h.len,TL]) λ j hj=>?_;rw[h.hi j (by rw[<- h.len];exact hj) om,ZH];rfl
def MX.start (hv:Vld l d):MX l d 0 (List.replicate l.length 0):=by
 refine⟨by simp,λ j=>by rw[nP];omega,λ j hj h=>by omega,λ j hj=>?_⟩;rw[nP];show(Cm l.length d).getD j 0=_;rw[am3 _ _ (λ x hx=>by have:=hv.drw x hx;omega)];simp
def MX.small (hv:Vld l d) (h:MX l d k b) (hk:k<=l.length) (j:Nat):0<=b.getD j 0/\b.getD j 0<=100000000000:=by
 have h1:=Ve hv k hk j;refine⟨h.pos j,?_⟩;have hd:=(Vg (d:=d) (λ x hx=>by have:=hv.drw x hx;omega) j d.length (Nat.le_refl _)).1;rw[List.take_length]at hd;by_cases h2:j<l.length - k
 ·have:=h.lo j h2;omega
 by_cases h3:j<l.length
 ·have:=h.hi j h3 om;omega
 rw[aaF 0 (by rw[h.len];omega)];omega
def lvN:ag8->Int->Nat
 | [],_=>0
 | x::t,v=>bif decide (v<=x)then 0 else lvN t v+1
def arN (v:Int) (l:ag8):lvN l v<=l.length:=by
 induction l with
 | nil=>exact Nat.le_refl _
 | cons x l ih=>
  rw[lvN];cases decide (v<=x)<;>simp<;>omega
def arO {v:Int} {l:ag8}:∀j,j<lvN l v->l.getD j 0<v:=by
 induction l with
 | nil=>intro j hj;simp[lvN]at hj
 | cons x l ih=>
  rw[lvN];cases h:decide (v<=x)with
  | true=>intro j hj;simp at hj
  | false=>
   have:=of_decide_eq_false h;intro j hj;cases j with
   | zero=>show x<v;omega
   | succ j=>exact ih j (by simpa using hj)
def arP {v:Int} {l:ag8} (h:lvN l v<l.length):v<=l.getD (lvN l v) 0:=by
 induction l with
 | nil=>simp at h
 | cons x l ih=>
  rw[lvN]at h ⊢;cases hd:decide (v<=x)with
  | true=>exact of_decide_eq_true hd
  | false=>
   rw[hd]at h;exact ih (by simpa using h)
def aio {v:Int} {l:ag8} (h0:k<=l.length) (h1:∀j,j<k->l.getD j 0<v) (h2:k<l.length->v<=l.getD k 0):k=lvN l v:=by
 have h3:=arN v l;rcases Nat.lt_trichotomy k (lvN l v)with h | h | h
 ·have:=arO k h;have:=h2 om;omega
 ·exact h
 have:=arP (v:=v) (l:=l) om;have:=h1 _ h;omega
def arQ {p:Int} {v:ag8} (h:Rq p v=true):∀i j,i<j->j<v.length->v.getD i 0<v.getD j 0:=by
 induction v generalizing p with
 | nil=>intro i j _ hj;simp at hj
 | cons a v ih=>
  rw[Rq,Bool.and_eq_true]at h;intro i j hij hj;cases j with
  | zero=>omega
  | succ j=>
   cases i with
   | zero=>exact(aey h.2 j (by simpa using hj)).1
   | succ i=>exact ih h.2 i j om (by simpa using hj)
def wrap_u64 {n:Int} (h:0<=n/\n<18446744073709551616):IntKind.u64.wrap n=n:=by
 show(if(false&&decide (n % (2 ^ 64:Int) ≥ 2 ^ 63))=true then n % (2 ^ 64:Int) - 2 ^ 64 else n % (2 ^ 64:Int))=n;rw[Bool.false_and,if_neg (by decide)];exact Int.emod_eq_of_lt h.1 om
structure DS where
 a:List Dem
 lv:ag8
def Df (n:Nat) (d:ai8):Nat->List Dem
 | 0=>List.replicate n ⟨0,-1,-1⟩
 | i+1=>bif decide (((Df n d i).getD (d.getD i dV).dG.toNat aa8).TK<(d.getD i dV).Low)then(Df n d i).set (d.getD i dV).dG.toNat ⟨(d.getD i dV).Low,i,-1⟩else Df n d i
def FX (l:ahf) (i:Nat) (s:DS):Nat:=lvN (l.getD i aD).bY (s.a.getD i aa8).TK
def Cq (l:ahf) (i:Nat) (s:DS):Int:=(l.getD i aD).bY.getD (FX l i s) 0+(l.getD i aD).gU
def Fg (l:ahf) (u:ag9) (i:Nat) (s:DS):DS:=
 bif !u.getD i false then s
 else⟨bif decide (0<=(l.getD i aD).aW)&&decide ((s.a.getD (l.getD i aD).aW.toNat aa8).TK<Cq l i s)then s.a.set (l.getD i aD).aW.toNat ⟨Cq l i s,-1,i⟩else s.a,s.lv.set i (FX l i s)⟩
def JK (l:ahf) (u:ag9) (i:Nat) (s:DS):Bool:=u.getD i false&&!decide ((FX l i s:Int)<(l.getD i aD).bY.length)
def acr (l:ahf) (u:ag9):Nat->DS->DS×Int
 | 0,s=>(s,-1)
 | k+1,s=>bif JK l u k s then(s,k)else acr l u k (Fg l u k s)
def ds0 (l:ahf) (d:ai8):DS:=⟨Df l.length d d.length,List.replicate l.length 0⟩
def Vh (l:ahf) (d:ai8):DS×Int:=acr l (jK l d) l.length (ds0 l d)
def WZ (n:Nat) (d:ai8) (i:Nat):(Df n d i).length=n:=by
 induction i with
 | zero=>simp[Df]
 | succ i ih=>
  rw[Df];cases decide (((Df n d i).getD (d.getD i dV).dG.toNat aa8).TK<(d.getD i dV).Low)<;>simp[ih]
structure DOk (l:ahf) (s:DS):Prop where
 al:s.a.length=l.length
 ll:s.lv.length=l.length
variable {u:ag9}
def aez {s:DS} (h:DOk l s):DOk l (Fg l u i s):=by
 unfold Fg;cases u.getD i false with
 | false=>exact h
 | true=>
  refine⟨?_,by simp[h.ll]⟩;simp only[Bool.not_true,cond_false];cases decide (0<=(l.getD i aD).aW)&&decide ((s.a.getD (l.getD i aD).aW.toNat aa8).TK<Cq l i s)<;>simp[h.al]
def aip (l:ahf) (d:ai8):DOk l (ds0 l d):=⟨WZ _ _ _,by simp[ds0]⟩
def mV (l:ahf) (d:ai8):bZ×Int:=
 bif sZ l d != 0 then(WL,sZ l d)
 else bif decide (0<=(Vh l d).2)||!gD l ⟨jK l d,(Vh l d).1.lv⟩ d then(WL,9)else(⟨jK l d,(Vh l d).1.lv⟩,0)
def akD (I:DS->Prop) (hI:∀i s,i<l.length->I s->I (Fg l u i s)):∀(k:Nat) (s:DS),k<=l.length->I s->I (acr l u k s).1:=by
 intro k;induction k with
 | zero=>intro s _ h;exact h
 | succ k ih=>
  intro s hk h;rw[acr];cases JK l u k s with
  | true=>exact h
  | false=>exact ih _ om (hI k s om h)
def aoY (l:ahf) (s:DS):Prop:=∀j,j<l.length->0<=s.lv.getD j 0/\s.lv.getD j 0<(l.getD j aD).bY.length
def lvK (l:ahf) (k v:Int):Nat:=lvN (l.getD k.toNat aD).bY v
def okK (l:ahf) (k v:Int):Bool:=decide (lvK l k v<(l.getD k.toNat aD).bY.length)
def voK (l:ahf) (k v:Int):Int:=(l.getD k.toNat aD).bY.getD (lvK l k v) 0
def rwN (l:ahf) (d:ai8) (last:Int):ag8->Int->Bool
 | [],_=>false
 | k::t,v=>bif !t.isEmpty then(bif !okK l k v then false else rwN l d last t (voK l k v+(l.getD k.toNat aD).gU))
  else bif !okK l k v||decide (last<0)then !okK l k v&&decide (last<0)
  else((d.getD last.toNat dV).dG==k)&&decide ((d.getD last.toNat dV).fV<voK l k v)
abbrev sAt (l:ahf) (i:Nat):aI:=l.getD i aD
abbrev bAt (a:ag9) (i:Nat):Bool:=a.getD i false
abbrev nAt (a:ag8) (i:Nat):Int:=a.getD i 0
def tot (d:ai8):Int:=d.foldr (λ x s=>x.Load+s) 0
abbrev dAt (a:List Dem) (i:Nat):Dem:=a.getD i aa8
abbrev xAt (d:ai8) (i:Nat):bO:=d.getD i dV
structure DI (n:Nat) (d:ai8) (i:Nat) (a:List Dem):Prop where
 len:a.length=n
 just:∀j,j<n->dAt a j=⟨0,-1,-1⟩\/∃q,q<i/\(xAt d q).dG=j/\dAt a j=⟨(xAt d q).Low,q,-1⟩
 Low:∀q,q<i->(xAt d q).Low<=(dAt a (xAt d q).dG.toNat).TK
structure Dm (l:ahf) (d:ai8) (u:ag9) (k:Nat) (s:DS):Prop where
 al:s.a.length=l.length
 ll:s.lv.length=l.length
 just:∀j,j<l.length->dAt s.a j=⟨0,-1,-1⟩\/(∃q,q<d.length/\(xAt d q).dG=j/\dAt s.a j=⟨(xAt d q).Low,q,-1⟩)\/
  ∃c:Nat,k<=c/\c<l.length/\bAt u c=true/\(sAt l c).aW=j/\FX l c s<(sAt l c).bY.length/\dAt s.a j=⟨Cq l c s,-1,c⟩
 Low:∀q,q<d.length->(xAt d q).Low<=(dAt s.a (xAt d q).dG.toNat).TK
 up:∀c,k<=c->c<l.length->bAt u c=true->0<=(sAt l c).aW->Cq l c s<=(dAt s.a (sAt l c).aW.toNat).TK
 ok:∀c,k<=c->c<l.length->bAt u c=true->FX l c s<(sAt l c).bY.length/\nAt s.lv c=FX l c s
 zero:∀c,c<l.length->c<k\/bAt u c=false->nAt s.lv c=0
structure Mt (l:ahf) (r:bZ) (d:ai8):Prop where
 used:∀i,bAt (jK l d) i=true->bAt r.On i=true
 aW:∀i,i<l.length->bAt r.On i=true->0<=(sAt l i).aW->bAt r.On (sAt l i).aW.toNat=true/\zx l r i+(sAt l i).gU<=zx l r (sAt l i).aW.toNat
 iP:∀i,i<l.length->bAt r.On i=true->nAt (Fe l d) i<=(sAt l i).iP
 drw:∀x∈d,x.Low<=zx l r x.dG.toNat/\zx l r x.dG.toNat<=x.fV
def agy (h:qZ l d=true):eY l=0:=by
 unfold qZ at h;simp only[Bool.and_eq_true]at h;simpa using h.1.1
structure Best (l:ahf) (d:ai8) (r:bZ):Prop where
 ok:gD l r d=true
 On:r.On=jK l d
 zero:∀i,bAt (jK l d) i=false->nAt r.dL i=0
 least:∀q,gD l q d=true->∀i,bAt (jK l d) i=true->bAt q.On i=true/\nAt r.dL i<=nAt q.dL i
def jnL (l:ahf) (u:ag9):ag8->Prop
 | []=>True
 | k::t=>(0<=k/\k<l.length/\bAt u k.toNat=true/\(∀k',t.head? = some k'->(sAt l k.toNat).aW=k'))/\jnL l u t
structure Good (l:ahf) (d:ai8) (last:Int) (c:ag8) (fst:Int):Prop where
 ne:c≠[]
 jn:jnL l (jK l d) c
 lo : -1<=fst
 hi:fst<d.length
 yes:0<=fst->(xAt d fst.toNat).dG=nAt c 0/\rwN l d last c (xAt d fst.toNat).Low=true
 no:fst<0->rwN l d last c 0=true
def Cr (a:List Dem):ag8:=a.map Dem.TK
def Fh (a:List Dem) (j:Nat):(Cr a).getD j 0=(a.getD j aa8).TK:=by
 unfold Cr;rw[List.getD_eq_getElem?_getD,List.getElem?_map,List.getD_eq_getElem?_getD];cases a[j]? <;> rfl
def agz (a:List Dem) (j:Nat) (x:Dem):Cr (a.set j x)=(Cr a).set j x.TK:=by
 unfold Cr;rw[List.map_set]
def Vi (a:List Dem):(Cr a).length=a.length:=by simp[Cr]
def set_self (a:ag8) (j:Nat):a.set j (a.getD j 0)=a:=by
 refine Fb 0 (by simp) λ k hk=>?_;rw[iD];split
 ·rename_i h;rw[h.1]
 rfl
def agA (a:ag8) (j:Nat) (v:Int) (h:v=a.getD j 0):a.set j v=a:=by
 rw[h,set_self]
def TN (n:Nat) (d:ai8) (i:Nat):Cr (Df n d (i+1))=(Cr (Df n d i)).set (d.getD i dV).dG.toNat (if(d.getD i dV).Low > (Cr (Df n d i)).getD (d.getD i dV).dG.toNat 0 then(d.getD i dV).Low else(Cr (Df n d i)).getD (d.getD i dV).dG.toNat 0):=by
 rw[Df,Fh];by_cases h:((Df n d i).getD (d.getD i dV).dG.toNat aa8).TK<(d.getD i dV).Low
 ·rw[decide_eq_true h,cond_true,agz,if_pos h]
 rw[decide_eq_false h,cond_false,if_neg h,agA _ _ _ (Fh _ _).symm]
def am5 {s:DS} (hu:u.length=l.length) (h:DOk l s) (hl:aoY l s):Rok l ⟨u,s.lv⟩:=
 ⟨hu,h.ll,λ i hi=>by
  have:=hl i hi;show 0<=s.lv.getD i 0/\(s.lv.getD i 0).toNat<_/\s.lv.getD i 0<_;omega⟩
def aoZ {s:DS} (hf:JK l u k s=false) (h:aoY l s):aoY l (Fg l u k s):=by
 intro j hj;unfold Fg;cases hu:u.getD k false with
 | false=>exact h j hj
 | true=>
  unfold JK at hf;rw[hu,Bool.true_and,Bool.not_eq_false']at hf;have:=of_decide_eq_true hf;show 0<=(s.lv.set k (FX l k s)).getD j 0/\(s.lv.set k (FX l k s)).getD j 0<_;rw[iD];split
  ·rename_i hjk;rw[hjk.1];omega
  exact h j hj
def Yh {l m:List α} (d:α) (h:l.length<=i):(l++m).getD i d=m.getD (i - l.length) d:=by
 rw[List.getD_eq_getElem?_getD,List.getElem?_append_right h,List.getD_eq_getElem?_getD]
structure axJ (l:ahf) (d:ai8) (r:bZ) (ok:Bool):Prop where
 is:ok=((mV l d).2==0)
 yes:ok=true->gD l r d=true
 no:ok=false->r=(mV l d).1
end Go.Proofs.YtccjmcmolnbiiaaGreatDoor.Sp

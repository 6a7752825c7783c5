/- A part of the proof. -/
import Derived.Test.YtifekdmmpbcdgaaGreatDoorA4
import Derived.Test.YtifekdmmpbcdgaaGreatDoorA3
set_option linter.unusedVariables false
set_option linter.unusedSimpArgs false
set_option maxHeartbeats 4000000
namespace Go.Ab
def NP {α:Type} (l:List α) (P:α->Bool):Int:=if l.any P then ((l.findIdx P:Nat):Int) else -1
variable {α:Type}
theorem nV (l:List α) (P:α->Bool):decide (0<=NP l P)=l.any P:=by
 unfold NP;cases l.any P<;>simp<;>omega
theorem amW {l:List α} {P:α->Bool} {d:α} {i:Nat} (hi:i<l.length) (h:P (l.getD i d)=true):l.any P=true:=by
 rw [aoH];refine ⟨l[i],anK hi,?_⟩;rw [adF,adH hi] at h;exact h
theorem any_take_succ (l:List α) (P:α->Bool) (d:α) {i:Nat} (hi:i<l.length):(l.take (i+1)).any P=((l.take i).any P||P (l.getD i d)):=by
 rw [as3,auZ,adH hi,adF,adH hi];simp
theorem aep {l:List α} {P:α->Bool} {d:α} {g:Int} (h0:0<=g) (h1:g<l.length) (hb:(l.take g.toNat).any P=false) (hp:P (l.getD g.toNat d)=true):NP l P=g:=by
 have hi:g.toNat<l.length:=by omega
 unfold NP;rw [amW hi hp,if_pos rfl];have:l.findIdx P=g.toNat:=by
  rw [List.findIdx_eq hi];constructor
  ·rw [adF,adH hi] at hp;exact hp
  intro j hj;have:=aml.1 hb (l[j]'om) (by
   rw [List.mem_take_iff_getElem]
   exact ⟨j,om,rfl⟩)
  simpa using this
 omega
theorem Qa {l:List α} {d:α} {p:α->M Bool} {P:α->Bool} (hp:∀x∈l,p x (P x)) (hl:(l.length:Int)<=9223372036854775807):W (dI (λ (self:Int->M Int) g=>bif (decide (g<(l.length:Int))) then
  need (0<=g∧g<(l.length:Int))<|
  bnd (p (l.getD g.toNat d)) λ v3=>
  bif v3 then
   ret g
  else
   need (ay (g+(1:Int)))<|
   self (g+(1:Int))
 else
  ret (-1:Int)) (0:Int)) (λ r=>r=NP l P):=by
 refine bS (λ (g:Int)=>0<=g∧g<=l.length∧(l.take g.toNat).any P=false) (λ (g:Int)=>(l.length - g).toNat) ?_ ⟨om,om,by simp⟩;intro self g ⟨h0,h1,hb⟩ ih;refine bV ?_ ?_<;>intro c
 ·have c:=of_decide_eq_true c;refine aP ⟨h0,c⟩ ?_;have hi:g.toNat<l.length:=by omega
  have hm:l.getD g.toNat d∈l:=by
   rw [adF,adH hi];exact anK hi
  refine aG (Ac (hp _ hm)) λ v hv=>?_;subst hv;refine bV ?_ ?_<;>intro c2
  ·exact aC (aep h0 c hb c2).symm
  refine aP (by unfold ay; omega) ?_;refine ih _ ⟨om,om,?_⟩ om;rw [show (g+1).toNat=g.toNat+1 by omega,any_take_succ l P d hi,hb,c2];rfl
 have c:=of_decide_eq_false c;refine aC ?_;unfold NP;rw [show g.toNat=l.length by omega,alj] at hb;rw [hb];rfl
theorem amX {l:List α} {d:α} {P:α->Bool} (hl:(l.length:Int)<=9223372036854775807):W (dI (λ (self:Int->M Int) g=>bif (decide (g<(l.length:Int))) then
  need (0<=g∧g<(l.length:Int))<|
  bif (P (l.getD g.toNat d)) then
   ret g
  else
   need (ay (g+(1:Int)))<|
   self (g+(1:Int))
 else
  ret (-1:Int)) (0:Int)) (λ r=>r=NP l P):=by
 refine bS (λ (g:Int)=>0<=g∧g<=l.length∧(l.take g.toNat).any P=false) (λ (g:Int)=>(l.length - g).toNat) ?_ ⟨om,om,by simp⟩;intro self g ⟨h0,h1,hb⟩ ih;refine bV ?_ ?_<;>intro c
 ·have c:=of_decide_eq_true c;refine aP ⟨h0,c⟩ ?_;have hi:g.toNat<l.length:=by omega
  refine bV ?_ ?_<;>intro c2
  ·exact aC (aep h0 c hb c2).symm
  refine aP (by unfold ay; omega) ?_;refine ih _ ⟨om,om,?_⟩ om;rw [show (g+1).toNat=g.toNat+1 by omega,any_take_succ l P d hi,hb,c2];rfl
 have c:=of_decide_eq_false c;refine aC ?_;unfold NP;rw [show g.toNat=l.length by omega,alj] at hb;rw [hb];rfl
theorem J7 {m:M Int} {v:Int} {b:Bool} (h:W m (λ r=>r=v)) (hb:decide (0<=v)=b):bnd m (λ v1=>ret (decide ((0:Int)<=v1))) b:=by
 refine kY (aG h λ v1 h1=>aC ?_);subst h1;exact hb
theorem gM {A:Type} [Inhabited A] {c:Prop} {d:Decidable c} {m:M A} {v:A} (h:c->m v):W (grd c m) (λ r=>r=v):=⟨v,h,rfl⟩
theorem amY {R:Type} {F:(Int->M R)->Int->M R} {Q:R->Prop} (n:Nat) (inv:Nat->Prop) (h:∀(self:Int->M R) (i:Nat),i<=n->inv i->(i<n->inv (i+1)->W (self ((i:Int)+1)) Q)->W (F self (i:Int)) Q) (h0:inv 0):W (dI F (0:Int)) Q:=by
 refine bS (λ (g:Int)=>∃i:Nat,g=i∧i<=n∧inv i) (λ (g:Int)=>(n - g).toNat) ?_ ⟨0,rfl,alh _,h0⟩;rintro self g ⟨i,rfl,hi,hv⟩ ih;refine h self i hi hv λ h1 h2=>?_;exact ih _ ⟨i+1,by simp,h1,h2⟩ om
theorem aqz {σ R:Type} {len:Nat} {B:Nat->(σ->M R)->σ->M R} {fin:σ->M R} {Q:R->Prop} (inv:Nat->σ->Prop) (h:∀(k:Nat) (self:σ->M R) (s:σ),k<len->inv k s->(∀s',inv (k+1) s'->W (self s') Q)->W (B k self s) Q) (hf:∀s,inv len s->W (fin s) Q) {s:σ} (h0:inv 0 s):W (aeg len B fin len s) Q:=by
 have key:∀j s,j<=len->inv (len - j) s->W (aeg len B fin j s) Q:=by
  intro j;induction j with
  | zero=>intro s _ hi; exact hf s hi
  | succ j ih=>
   intro s hj hi;refine h (len - (j+1)) _ s om hi λ s' hs=>ih s' om ?_;rwa [show len - (j+1)+1=len - j by omega] at hs
 exact key len s (afg _) (by rw [auQ]; exact h0)
variable {p: Prop}
theorem eX {q: Prop} (h : p) (e : p = q := by (try simp only [aei, al4, als, aff, decide_eq_true_eq, decide_eq_false_iff_not, ahk, ajz, beq_iff_eq, bne_iff_ne, ne_eq, beq_eq_false_iff_ne, bne_eq_false_iff_eq, atQ, Int.not_le, aqM, azh]); try rfl) : q := e ▸ h
theorem ob (h : p := by
  intros; (try dsimp only); first
  | omega
  | (unfold ay; omega)
  | assumption
  | trivial
  | (simp only [ay, big, jG, ahj, aqR, afa, ajO, apv, ahl, aqw, alg, ayq]; omega)
  | (simp only [ay, big, ahj, aqR, afa, ajO, apv, ahl, aqw] at *; omega)
  | (rw [aum (by omega)]; (try simp only [ajO, apv]); omega)
  | (repeat' apply And.intro) <;> first
    | omega
    | (unfold ay; omega)
    | assumption
    | trivial
    | (simp only [ay, big, jG, ahj, aqR, afa, ajO, apv, ahl, aqw, alg, ayq]; omega)
    | (simp only [ay, big, ahj, aqR, afa, ajO, apv, ahl, aqw] at *; omega)
    | (rw [aum (by omega)]; (try simp only [ajO, apv]); omega)
    | ((simp only [List.forall_mem_append, List.forall_mem_singleton, List.forall_mem_cons, ayG, false_implies, implies_true, and_true]); done)
    | ((simp only [List.forall_mem_append, List.forall_mem_singleton, List.forall_mem_cons, ayG, false_implies, implies_true, and_true]); (repeat' apply And.intro) <;> first | omega | assumption | trivial | (simp only [ay, big, ahj, aqR, afa, ajO, apv, ahl, aqw] at *; omega))
    | (simp_all; done)
    | (simp_all; omega)) : p := h
theorem wi {R : Type} {b : Bool} {q: Prop} {x y : M R} {Q : R -> Prop} (h1 : p -> W x Q) (h2 : q -> W y Q) (e1 : (b = true) = p := by (try simp only [aei, al4, als, aff, decide_eq_true_eq, decide_eq_false_iff_not, ahk, ajz, beq_iff_eq, bne_iff_ne, ne_eq, beq_eq_false_iff_ne, bne_eq_false_iff_eq, atQ, Int.not_le, aqM, azh]); try rfl) (e2 : (b = false) = q := by (try simp only [aei, al4, als, aff, decide_eq_true_eq, decide_eq_false_iff_not, ahk, ajz, beq_iff_eq, bne_iff_ne, ne_eq, beq_eq_false_iff_ne, bne_eq_false_iff_eq, atQ, Int.not_le, aqM, azh]); try rfl) : W (cond b x y) Q := bV (λ c => h1 (e1 ▸ c)) (λ c => h2 (e2 ▸ c))
theorem wn {R : Type} {d : Decidable p} {m : M R} {Q : R -> Prop} (h : W m Q) (hp : p := by exact ob) : W (need p m) Q := aP hp h
theorem wm {R : Type} {p': Prop} {d : Decidable p} {d' : Decidable p'} {m : M R} {Q : R -> Prop} (h : W m Q) (hp : p := by exact ob) (hp' : p' := by exact ob) : W (need p (need p' m)) Q := aP hp (aP hp' h)
end Go.Ab
namespace Go.Proofs.YtifekdmmpbcdgaaGreatDoor
open Go.Ab
set_option maxRecDepth 100000
theorem VE (x n:Int) (h:0<n) : -n<x.tmod n∧x.tmod n<n:=by
 have h1:=Int.natAbs_tmod x n;have h2:=auX x.natAbs (show 0<n.natAbs by omega);omega
theorem agl:∀(k i:Nat) (g:Nat->AV) (s:ByteArray),(KR k i g s).size=s.size+k:=by
 intro k;induction k with
 | zero=>intro i g s; rfl
 | succ k ih=>intro i g s; unfold KR; rw [ih,ByteArray.size_push]; omega
theorem ail (l:azp):(strOf l).size=l.length:=by
 unfold strOf;rw [agl];simp
variable {α:Type} {i:Nat}
theorem aer {P:α->Prop} {l:List α} {y:α} (h:∀x∈l,P x) (hy:P y):∀x∈l.set i y,P x:=λ x hx=>by
 rcases List.mem_or_eq_of_mem_set hx with e | e
 ·exact h x e
 subst e; exact hy
structure amZ (b:aV):Prop where
 ncl:b.bP.length<=5
 cl:∀c∈b.bP,c.aW.length<=2∧c.aO.length<=3
 nsu:b.bI.length<=3
 su:∀c∈b.bI,c.cK.length<=3
 ngr:b.aU.aH.length<=5
 gr:∀c∈b.aU.aH,c.cu.length<=10∧c.au.length<=2
 nre:b.bH.length<=4
 re:∀c∈b.bH,c.fF.length<=100
 ndo:b.bX.length<=4
theorem getD_in {l:List α} (d:α) (h:i<l.length):l.getD i d∈l:=by
 rw [adF,adH h];exact anK h
theorem agm {x_:Int} {n_:Int} (h1:n_<=2000000):W (Rm x_ n_) (λ r=>0<=r∧(0<n_->r<n_)∧(n_<1->r=0)):=by
 unfold Rm;refine wi ?_ ?_<;>intro c1
 ·exact aC<|ob
 refine wn<|aP (by (have:=VE x_ n_ om; unfold ay; omega)) ?_;refine wn<|aC ?_;(have h:=VE x_ n_ om; have h2:=VE (x_.tmod n_+n_) n_ om; have h3:=auj (a:=x_.tmod n_+n_) n_ om; omega)
variable {dD:dL}
theorem cB {n_:Int} (h1:n_<=2000000) (h2:0<=dD.At) (h3:dD.L.length<=600):W (eH n_ dD) (λ r=>0<=r.1∧(0<n_->r.1<n_)∧(n_<1->r.1=0)∧0<=r.2.At∧r.2.L.length<=600):=by
 unfold eH;refine wi ?_ ?_<;>intro c1
 ·exact aC<|ob
 refine wm<|wn ?_;refine aG (agm ob) λ v1 hv1=>?_;obtain ⟨J8,DU,J9⟩:=hv1;exact aC<|ob
theorem nW {xW:Int} {z8:Int} (h1 : -2000000<=xW) (h2:z8<=100000) (h3:xW<=z8+1) (h4:z8 - xW<=100000) (h5:0<=dD.At) (h6:dD.L.length<=600):W (kG xW z8 dD) (λ r=>xW<=r.1∧(xW<=z8->r.1<=z8)∧(z8<xW->r.1=xW)∧0<=r.2.At∧r.2.L.length<=600):=by
 unfold kG;refine wm<|aG (cB ob ob ob) λ v1 hv1=>?_;obtain ⟨J8,DU,J9,Np,Qb⟩:=hv1;refine wn<|aC ?_;exact ob
theorem gy {l_:azp} (h1:0<l_.length) (h2:l_.length<=1000) (h3:0<=dD.At) (h4:dD.L.length<=600):W (iA l_ dD) (λ r=>(∃i:Nat,i<l_.length∧r.1=l_.getD i 0)∧0<=r.2.At∧r.2.L.length<=600):=by
 unfold iA;refine aG (cB ob ob ob) λ v1 hv1=>?_;obtain ⟨J8,DU,J9,Np,Qb⟩:=hv1;refine wn<|aC ?_;(exact ⟨⟨v1.1.toNat,om,rfl⟩,ob⟩)
theorem Xo {l_:azB} (h1:0<l_.length) (h2:l_.length<=1000) (h3:0<=dD.At) (h4:dD.L.length<=600):W (zi l_ dD) (λ r=>(∃i:Nat,i<l_.length∧r.1=l_.getD i ByteArray.empty)∧0<=r.2.At∧r.2.L.length<=600):=by
 unfold zi;refine aG (cB ob ob ob) λ v1 hv1=>?_;obtain ⟨J8,DU,J9,Np,Qb⟩:=hv1;refine wn<|aC ?_;(exact ⟨⟨v1.1.toNat,om,rfl⟩,ob⟩)
theorem lH:W (pX) (λ r=>r=[({ data:=#[117,97,114,116] }:ByteArray),({ data:=#[115,112,105] }:ByteArray),({ data:=#[105,50,99] }:ByteArray),({ data:=#[112,119,109] }:ByteArray)]):=by
 unfold pX;refine aC ?_;rfl
variable {k_:Int}
theorem Xp {n_:Int} (h1:0<=n_) (h2:n_<=1000) (h3:1<=k_) (h4:k_<=100) (h5:0<=dD.At) (h6:dD.L.length<=600):W (lW n_ k_ dD) (λ r=>r.1.length<=n_.toNat∧(∀p∈r.1,0<=p∧p<n_)∧0<=r.2.At∧r.2.L.length<=600):=by
 unfold lW;refine bS (λ (g1:Int×azp×Int×azp)=>0<=g1.1∧g1.1<=n_∧0<=g1.2.2.1∧g1.2.1.length<=600∧(g1.2.2.2.length:Int)<=g1.1∧(∀p∈g1.2.2.2,0<=p∧p<n_)) (λ (g1:Int×azp×Int×azp)=>(n_ - g1.1).toNat) ?_ ?_
 ·intro ah g1 eU dB;obtain ⟨dZ,bW,bN,kW,FP,Nq⟩:=eU;unfold za;refine wi ?_ ?_<;>intro c1
  ·refine aG (cB ob ob ob) λ v3 hv3=>?_;obtain ⟨aa8,ade,adf,am0,atT⟩:=hv3;refine wn<|wi ?_ ?_<;>intro c2
   ·refine wm<|dB _ ?_ ?_
    ·exact ob
    exact ob
   refine wn<|dB _ ?_ ?_
   ·exact ob
   exact ob
  exact aC<|ob
 exact ob
theorem Ul {jy:Int} (h1:0<=jy) (h2:jy<=100) (h3:0<=dD.At) (h4:dD.L.length<=600):W (uP jy dD) (λ r=>r.1.length<=jy.toNat∧(∀x∈r.1,x.fF.length<=100)∧0<=r.2.At∧r.2.L.length<=600):=by
 unfold uP;refine wn<|aG (cB ob ob ob) λ v1 hv1=>?_;obtain ⟨J8,DU,J9,Np,Qb⟩:=hv1;refine bS (λ (g1:Int×azp×Int×azC)=>0<=g1.1∧0<=g1.2.2.1∧g1.2.1.length<=600∧(g1.2.2.2.length:Int)+g1.1<=jy∧(∀x∈g1.2.2.2,x.fF.length<=100)) (λ (g1:Int×azp×Int×azC)=>g1.1.toNat) ?_ ?_
 ·intro ah g1 eU dB;obtain ⟨dZ,bW,bN,kW,FP⟩:=eU;unfold DN;refine wi ?_ ?_<;>intro c1
  ·refine aG (Xp ob ob ob ob ob ob) λ v4 hv4=>?_;obtain ⟨am1,am2,aqA,atU⟩:=hv4;refine wm<|dB _ ?_ ?_
   ·exact ob
   exact ob
  exact aC<|ob
 exact ob
theorem RP {jy:Int} (h1:0<=jy) (h2:jy<=50) (h3:0<=dD.At) (h4:dD.L.length<=600):W (sD jy dD) (λ r=>r.1.length<=jy.toNat∧0<=r.2.At∧r.2.L.length<=600):=by
 unfold sD;refine wn<|aG (cB ob ob ob) λ v1 hv1=>?_;obtain ⟨J8,DU,J9,Np,Qb⟩:=hv1;refine bS (λ (g1:Int×azp×Int×azD)=>0<=g1.1∧0<=g1.2.2.1∧g1.2.1.length<=600∧(g1.2.2.2.length:Int)+g1.1<=jy) (λ (g1:Int×azp×Int×azD)=>g1.1.toNat) ?_ ?_
 ·intro ah g1 eU dB;obtain ⟨dZ,bW,bN,kW⟩:=eU;unfold Co;refine wi ?_ ?_<;>intro c1
  ·refine wn<|aG (nW ob ob ob ob ob ob) λ v6 hv6=>?_;obtain ⟨ay0,ay1,ay2,ay3,ay4⟩:=hv6;refine aG (cB ob ob ob) λ v7 hv7=>?_;obtain ⟨aqB,atV,atW,ay5,ay6⟩:=hv7;refine wm<|dB _ ?_ ?_
   ·exact ob
   exact ob
  exact aC<|ob
 exact ob
theorem Um (h1:0<=dD.At) (h2:dD.L.length<=600):W (uN dD) (λ r=>r.1.length<=5∧(∀c∈r.1,c.aW.length<=2∧c.aO.length<=3)∧0<=r.2.At∧r.2.L.length<=600):=by
 unfold uN;refine aG (cB ob ob ob) λ v1 hv1=>?_;obtain ⟨J8,DU,J9,Np,Qb⟩:=hv1;refine bS (λ (g1:Int×azp×Int×azs)=>0<=g1.1∧0<=g1.2.2.1∧g1.2.1.length<=600∧(g1.2.2.2.length:Int)+g1.1<=5∧(∀c∈g1.2.2.2,c.aW.length<=2∧c.aO.length<=3)) (λ (g1:Int×azp×Int×azs)=>g1.1.toNat) ?_ ?_
 ·intro ah g1 eU dB;obtain ⟨dZ,bW,bN,kW,FP⟩:=eU;unfold DJ;refine wi ?_ ?_<;>intro c1
  ·refine aG (gy ob ob ob ob) λ v28 hv28=>?_;obtain ⟨avR,avS,avT⟩:=hv28;refine wi ?_ ?_<;>intro c2
   ·refine aG (cB ob ob ob) λ v41 avU=>?_;obtain ⟨avV,avW,avX,avY,avZ⟩:=avU;refine wi ?_ ?_<;>intro c3
    ·refine aG (cB ob ob ob) λ v42 av0=>?_;obtain ⟨av1,av2,av3,av4,av5⟩:=av0;refine aG (cB ob ob ob) λ v49 ain=>?_;obtain ⟨am3,am4,am5,am6,am7⟩:=ain;refine wi ?_ ?_<;>intro c4
     ·refine aG (gy ob ob ob ob) λ v50 aes=>?_;obtain ⟨av6,av7,av8⟩:=aes;unfold gK;refine aG (cB ob ob ob) λ v47 aeu=>?_;obtain ⟨aev,aew,aex,aey,aez⟩:=aeu;refine wi ?_ ?_<;>intro c5
      ·refine aG (gy ob ob ob ob) λ v48 aa9=>?_;obtain ⟨aeA,aeB,aeC⟩:=aa9;unfold fA;refine wm<|dB _ ?_ ?_
       ·exact ob
       exact ob
      unfold fA;refine wm<|dB _ ?_ ?_
      ·exact ob
      exact ob
     refine wi ?_ ?_<;>intro c6
     ·refine aG (gy ob ob ob ob) λ v51 arO=>?_;obtain ⟨av9,awc,awd⟩:=arO;unfold gK;refine aG (cB ob ob ob) λ v47 aeu=>?_;obtain ⟨aev,aew,aex,aey,aez⟩:=aeu;refine wi ?_ ?_<;>intro c7
      ·refine aG (gy ob ob ob ob) λ v48 aa9=>?_;obtain ⟨aeA,aeB,aeC⟩:=aa9;unfold fA;refine wm<|dB _ ?_ ?_
       ·exact ob
       exact ob
      unfold fA;refine wm<|dB _ ?_ ?_
      ·exact ob
      exact ob
     refine wi ?_ ?_<;>intro c8
     ·unfold gK;refine aG (cB ob ob ob) λ v47 aeu=>?_;obtain ⟨aev,aew,aex,aey,aez⟩:=aeu;refine wi ?_ ?_<;>intro c9
      ·refine aG (gy ob ob ob ob) λ v48 aa9=>?_;obtain ⟨aeA,aeB,aeC⟩:=aa9;unfold fA;refine wm<|dB _ ?_ ?_
       ·exact ob
       exact ob
      unfold fA;refine wm<|dB _ ?_ ?_
      ·exact ob
      exact ob
     refine wi ?_ ?_<;>intro c10
     ·refine wn<|aG (cB ob ob ob) λ v52 awe=>?_;obtain ⟨awf,awg,awh,awi,awj⟩:=awe;refine wn ?_;unfold gK;refine aG (cB ob ob ob) λ v47 aeu=>?_;obtain ⟨aev,aew,aex,aey,aez⟩:=aeu;refine wi ?_ ?_<;>intro c11
      ·refine aG (gy ob ob ob ob) λ v48 aa9=>?_;obtain ⟨aeA,aeB,aeC⟩:=aa9;unfold fA;refine wm<|dB _ ?_ ?_
       ·exact ob
       exact ob
      unfold fA;refine wm<|dB _ ?_ ?_
      ·exact ob
      exact ob
     unfold gK;refine aG (cB ob ob ob) λ v47 aeu=>?_;obtain ⟨aev,aew,aex,aey,aez⟩:=aeu;refine wi ?_ ?_<;>intro c12
     ·refine aG (gy ob ob ob ob) λ v48 aa9=>?_;obtain ⟨aeA,aeB,aeC⟩:=aa9;unfold fA;refine wm<|dB _ ?_ ?_
      ·exact ob
      exact ob
     unfold fA;refine wm<|dB _ ?_ ?_
     ·exact ob
     exact ob
    unfold fA;refine wm<|dB _ ?_ ?_
    ·exact ob
    exact ob
   refine wn ?_;unfold fA;refine wm<|dB _ ?_ ?_
   ·exact ob
   exact ob
  exact aC<|ob
 exact ob
theorem Qc (h1:0<=dD.At) (h2:dD.L.length<=600):W (qG dD) (λ r=>r.1.length<=3∧(∀c∈r.1,c.cK.length<=3)∧0<=r.2.At∧r.2.L.length<=600):=by
 unfold qG;refine aG (cB ob ob ob) λ v1 hv1=>?_;obtain ⟨J8,DU,J9,Np,Qb⟩:=hv1;refine bS (λ (g1:Int×azp×Int×azv)=>0<=g1.1∧0<=g1.2.2.1∧g1.2.1.length<=600∧(g1.2.2.2.length:Int)+g1.1<=3∧(∀c∈g1.2.2.2,c.cK.length<=3)) (λ (g1:Int×azp×Int×azv)=>g1.1.toNat) ?_ ?_
 ·intro ah g1 eU dB;obtain ⟨dZ,bW,bN,kW,FP⟩:=eU;unfold Au;refine wi ?_ ?_<;>intro c1
  ·refine wn<|aG (nW ob ob ob ob ob ob) λ v12 VF=>?_;obtain ⟨awk,awl,awm,awn,awo⟩:=VF;refine aG (gy ob ob ob ob) λ v13 NQ=>?_;obtain ⟨awp,awq,awr⟩:=NQ;refine aG (gy ob ob ob ob) λ v14 RQ=>?_;obtain ⟨awt,awu,awv⟩:=RQ;refine aG (cB ob ob ob) λ v15 acj=>?_;obtain ⟨aww,awx,awy,awz,awC⟩:=acj;refine wi ?_ ?_<;>intro c2
   ·unfold kS;refine aG (cB ob ob ob) λ v16 aeD=>?_;obtain ⟨arP,arQ,arR,arS,arT⟩:=aeD;refine wn<|wi ?_ ?_<;>intro c3
    ·refine wm<|dB _ ?_ ?_
     ·exact ob
     exact ob
    refine wi ?_ ?_<;>intro c4
    ·refine wm<|dB _ ?_ ?_
     ·exact ob
     exact ob
    refine wi ?_ ?_<;>intro c5
    ·refine wm<|dB _ ?_ ?_
     ·exact ob
     exact ob
    refine wi ?_ ?_<;>intro c6
    ·refine wm<|dB _ ?_ ?_
     ·exact ob
     exact ob
    refine wm<|dB _ ?_ ?_
    ·exact ob
    exact ob
   unfold kS;refine aG (cB ob ob ob) λ v16 aeD=>?_;obtain ⟨arP,arQ,arR,arS,arT⟩:=aeD;refine wn<|wi ?_ ?_<;>intro c7
   ·refine wm<|dB _ ?_ ?_
    ·exact ob
    exact ob
   refine wi ?_ ?_<;>intro c8
   ·refine wm<|dB _ ?_ ?_
    ·exact ob
    exact ob
   refine wi ?_ ?_<;>intro c9
   ·refine wm<|dB _ ?_ ?_
    ·exact ob
    exact ob
   refine wi ?_ ?_<;>intro c10
   ·refine wm<|dB _ ?_ ?_
    ·exact ob
    exact ob
   refine wm<|dB _ ?_ ?_
   ·exact ob
   exact ob
  exact aC<|ob
 exact ob
theorem Un (h1:0<=dD.At) (h2:dD.L.length<=600):W (uO dD) (λ r=>r.1.aH.length<=5∧(∀c∈r.1.aH,c.cu.length<=10∧c.au.length<=2)∧0<=r.2.At∧r.2.L.length<=600):=by
 unfold uO;refine aG (nW ob ob ob ob ob ob) λ v1 hv1=>?_;obtain ⟨J8,DU,J9,Np,Qb⟩:=hv1;refine aG (cB ob ob ob) λ v2 hv2=>?_;obtain ⟨agn,ajx,am8,atX,ay7⟩:=hv2;refine bS (λ (g1:Int×azp×Int×azG)=>0<=g1.1∧0<=g1.2.2.1∧g1.2.1.length<=600∧(g1.2.2.2.length:Int)+g1.1<=5∧(∀c∈g1.2.2.2,c.cu.length<=10∧c.au.length<=2)) (λ (g1:Int×azp×Int×azG)=>g1.1.toNat) ?_ ?_
 ·intro ah g1 eU dB;obtain ⟨dZ,bW,bN,kW,FP⟩:=eU;unfold DL;refine wi ?_ ?_<;>intro c1
  ·refine wn<|aP (by (rw [ail,show ({ data:=#[103] }:ByteArray).size=1 from rfl]; simp only [ajO,apv]; omega)) ?_;refine aG (cB ob ob ob) λ v35 arU=>?_;obtain ⟨awD,awE,awF,awG,awH⟩:=arU;refine bS (λ (g12:Int×azp×Int×azp)=>0<=g12.1∧0<=g12.2.2.1∧g12.2.1.length<=600∧(g12.2.2.2.length:Int)<=g12.1∧g12.1<=10) (λ (g12:Int×azp×Int×azp)=>(10 - g12.1).toNat) ?_ ?_
   ·intro aif g12 atY atZ;obtain ⟨awI,awJ,awK,awL,awM⟩:=atY;unfold DK;refine wi ?_ ?_<;>intro c2
    ·refine aG (nW ob ob ob ob ob ob) λ v38 hv38=>?_;obtain ⟨awN,awO,awP,awQ,awR⟩:=hv38;refine wn<|wi ?_ ?_<;>intro c3
     ·refine wm<|atZ _ ?_ ?_
      ·exact ob
      exact ob
     refine wi ?_ ?_<;>intro c4
     ·unfold lV;refine aG (cB ob ob ob) λ v39 hv39=>?_;obtain ⟨arV,arW,arX,arY,arZ⟩:=hv39;refine aG (lH) λ v40 am9=>?_;subst am9;refine wn<|aG (cB ob ob ob) λ v43 ana=>?_;obtain ⟨ar0,ar1,ar2,ar3,ar4⟩:=ana;refine wi ?_ ?_<;>intro c5
      ·refine aG (lH) λ v44 anb=>?_;subst anb;refine wm<|wm ?_;unfold jv;refine wm<|dB _ ?_ ?_
       ·exact ob
       exact ob
      unfold jv;refine wm<|dB _ ?_ ?_
      ·exact ob
      exact ob
     unfold lV;refine aG (cB ob ob ob) λ v39 hv39=>?_;obtain ⟨arV,arW,arX,arY,arZ⟩:=hv39;refine aG (lH) λ v40 am9=>?_;subst am9;refine wn<|aG (cB ob ob ob) λ v43 ana=>?_;obtain ⟨ar0,ar1,ar2,ar3,ar4⟩:=ana;refine wi ?_ ?_<;>intro c6
     ·refine aG (lH) λ v44 anb=>?_;subst anb;refine wm<|wm ?_;unfold jv;refine wm<|dB _ ?_ ?_
      ·exact ob
      exact ob
     unfold jv;refine wm<|dB _ ?_ ?_
     ·exact ob
     exact ob
    refine wn<|wi ?_ ?_<;>intro c7
    ·unfold kD;refine aG (cB ob ob ob) λ v45 anc=>?_;obtain ⟨ar5,ar6,ar7,ar8,ar9⟩:=anc;refine aG (lH) λ v46 aio=>?_;subst aio;refine wn<|aG (cB ob ob ob) λ v49 ain=>?_;obtain ⟨am3,am4,am5,am6,am7⟩:=ain;refine wi ?_ ?_<;>intro c8
     ·refine aG (lH) λ v50 aes=>?_;subst aes;refine wm<|wm ?_;unfold iY;refine wm<|dB _ ?_ ?_
      ·exact ob
      exact ob
     unfold iY;refine wm<|dB _ ?_ ?_
     ·exact ob
     exact ob
    unfold kD;refine aG (cB ob ob ob) λ v45 anc=>?_;obtain ⟨ar5,ar6,ar7,ar8,ar9⟩:=anc;refine aG (lH) λ v46 aio=>?_;subst aio;refine wn<|aG (cB ob ob ob) λ v49 ain=>?_;obtain ⟨am3,am4,am5,am6,am7⟩:=ain;refine wi ?_ ?_<;>intro c9
    ·refine aG (lH) λ v50 aes=>?_;subst aes;refine wm<|wm ?_;unfold iY;refine wm<|dB _ ?_ ?_
     ·exact ob
     exact ob
    unfold iY;refine wm<|dB _ ?_ ?_
    ·exact ob
    exact ob
   exact ob
  exact aC<|ob
 exact ob
theorem VG (h1:0<=dD.At) (h2:dD.L.length<=600):W (wu dD) (λ r=>amZ r.1∧0<=r.2.At∧r.2.L.length<=600):=by
 unfold wu;refine aG (Um ob ob) λ v1 hv1=>?_;obtain ⟨J8,DU,J9,Np⟩:=hv1;refine aG (Qc ob ob) λ v2 hv2=>?_;obtain ⟨agn,ajx,am8,atX⟩:=hv2;refine aG (Un ob ob) λ v3 hv3=>?_;obtain ⟨aa8,ade,adf,am0⟩:=hv3;refine aG (Ul ob ob ob ob) λ v4 hv4=>?_;obtain ⟨am1,am2,aqA,atU⟩:=hv4;refine aG (RP ob ob ob ob) λ v5 hv5=>?_;obtain ⟨ay8,ay9,aza⟩:=hv5;refine aC ?_;(refine ⟨⟨ob,DU,ob,ajx,ob,ade,ob,am2,ob⟩,ob,ob⟩)
deriving instance DecidableEq for aF,bU,aZ
def dS (n lo hi:Int):Bool:=decide (lo<=n)&&decide (n<=hi)
def zF (lo hi:Int):azp->azp->Bool
 | _,[]=>true
 | pre,n::r=>bif !(dS n lo hi)||pre.contains n then false else zF lo hi (pre++[n]) r
variable {lo:Int} {hi:Int}
theorem aae {n:Int} {pre r:azp} (h:(!(dS n lo hi)||pre.contains n)=true):zF lo hi pre (n::r)=false:=by rw [zF,h]; rfl
theorem aeE {n:Int} {pre r:azp} (h:(!(dS n lo hi)||pre.contains n)=false):zF lo hi pre (n::r)=zF lo hi (pre++[n]) r:=by rw [zF,h]; rfl
def jH (a b:Int):Int:=(Nat.gcd a.toNat b.toNat:Nat)
def oD (r:bU):Bool:=decide (0<=r.j5)&&decide (r.j5<=144115188075855872)&&decide (1<=r.jD)&&decide (r.jD<=16777216)&&(jH r.j5 r.jD==1)
def newR (num den:Int):bU×Int:=bif decide (num<0)||decide (den<1) then (⟨0,0⟩,2) else
 bif !oD ⟨num.tdiv (jH num den),den.tdiv (jH num den)⟩ then (⟨0,0⟩,2) else (⟨num.tdiv (jH num den),den.tdiv (jH num den)⟩,0)
theorem Cz (a b:Int) (h:0<b):0<jH a b:=by
 unfold jH;have:0<b.toNat:=by omega
 have:=at0 a.toNat this;omega
theorem tdiv_le (a k:Int) (ha:0<=a) (hk:0<k):0<=a.tdiv k∧a.tdiv k<=a:=by
 rw [as7 ha];exact ⟨Int.ediv_nonneg ha om,Int.ediv_le_self _ ha⟩
def zG (k:Int):Bool:=decide (1<=k)&&decide (k<=64)
def rU (r:bU) (k:Int):bU×Int:=bif !oD r then (⟨0,0⟩,1) else bif !zG k then (⟨0,0⟩,2) else
 bif decide ((144115188075855872:Int).tdiv (k.tdiv (jH k r.jD))<r.j5) then (⟨0,0⟩,2) else newR (r.j5*(k.tdiv (jH k r.jD))) (r.jD.tdiv (jH k r.jD))
def CB (r:bU) (k:Int):bU×Int:=bif !oD r then (⟨0,0⟩,1) else bif !zG k then (⟨0,0⟩,2) else newR r.j5 (r.jD*k)
theorem mD {r:bU} (h:oD r=true):0<=r.j5∧r.j5<=144115188075855872∧1<=r.jD∧r.jD<=16777216∧jH r.j5 r.jD=1:=by
 unfold oD at h;simp at h;omega
theorem asa (k d:Int) (hk:1<=k∧k<=64) (hd:1<=d):1<=k.tdiv (jH k d)∧k.tdiv (jH k d)<=64:=by
 have hg:=Cz k d om;have h1:=tdiv_le k (jH k d) om hg;have hdvd:Nat.gcd k.toNat d.toNat∣k.toNat:=auf _ _;have h2:0<k.toNat / Nat.gcd k.toNat d.toNat:=ayy (avt om hdvd) (by unfold jH at hg; omega);have h3:k.tdiv (jH k d)=((k.toNat / Nat.gcd k.toNat d.toNat:Nat):Int):=by
  unfold jH;rw [as7 om];have:k=(k.toNat:Int):=by omega
  rw [Int.natCast_ediv,<- this]
 omega
theorem akF (a b:Int) (ha:0<=a) (hb:1<=b) (h:a<=(144115188075855872:Int).tdiv b):0<=a*b∧a*b<=144115188075855872:=by
 rw [as7 (by decide)] at h;have:=(Int.le_ediv_iff_mul_le om).1 h;exact ⟨auO ha om,this⟩
theorem VH (c a b:Nat) (hc:0<c) (hb:0<b):newR (c*a:Nat) (c*b:Nat)=newR a b:=by
 have hcb:0<c*b:=azb hc hb;have g0:0<Nat.gcd a b:=at0 a hb;have e1:jH (c*a:Nat) (c*b:Nat)=((c*Nat.gcd a b:Nat):Int):=by
  unfold jH;rw [ahg,ahg,Nat.gcd_mul_left]
 have e2:jH (a:Nat) (b:Nat)=(Nat.gcd a b:Nat):=by
  unfold jH;rw [ahg,ahg]
 have d:∀x:Nat,((c*x:Nat):Int).tdiv ((c*Nat.gcd a b:Nat):Int)=(x:Int).tdiv (Nat.gcd a b:Nat):=by
  intro x;rw [<- att,<- att,Nat.mul_div_mul_left _ _ hc]
 unfold newR;have c1:(decide (((c*a:Nat):Int)<0)||decide (((c*b:Nat):Int)<1))=false:=by
  have h1:¬ (((c*b:Nat):Int)<1):=atQ.2 (Int.ofNat_le.2 hcb);rw [decide_eq_false (atQ.2 (Int.natCast_nonneg _)),decide_eq_false h1];rfl
 have c2:(decide ((a:Int)<0)||decide ((b:Int)<1))=false:=by simp; omega
 rw [c1,c2,e1,e2,d a,d b]
theorem akG (num den k:Int) (hn:0<=num) (hd:1<=den) (hk:1<=k):newR (num.tdiv (jH num k)) (den*(k.tdiv (jH num k)))=newR num (den*k):=by
 obtain ⟨n,rfl⟩:=ahq hn;obtain ⟨d,rfl⟩:=ahq (show 0<=den by omega);obtain ⟨k,rfl⟩:=ahq (show 0<=k by omega);have hg:jH (n:Nat) (k:Nat)=(Nat.gcd n k:Nat):=by unfold jH; rw [ahg,ahg]
 rw [hg,<- att,<- att];have g0:0<Nat.gcd n k:=at0 n om;obtain ⟨a,ha⟩:=auf n k;obtain ⟨b,hb⟩:=at7 n k;have e1:n / Nat.gcd n k=a:=by rw [Nat.div_eq_of_eq_mul_right g0 ha]
 have e2:k / Nat.gcd n k=b:=by rw [Nat.div_eq_of_eq_mul_right g0 hb]
 rw [e1,e2];have hb0:0<b:=by
  rcases aqH b with h | h
  ·rw [h] at hb; simp at hb; omega
  exact h
 have:=VH (Nat.gcd n k) a (d*b) g0 (azb om hb0);rw [<- ha] at this;have e3:Nat.gcd n k*(d*b)=d*k:=by
  rw [Nat.mul_left_comm,<- hb]
 rw [e3] at this;rw [<- atL,<- atL];exact this.symm
def t1 (r:bU) (k:Int):Int×Int:=bif decide ((144115188075855872:Int).tdiv (k.tdiv (jH k r.jD))<r.j5) then (-1,1) else (r.j5*(k.tdiv (jH k r.jD)),r.jD.tdiv (jH k r.jD))
def sH (r:bU) (lo hi:Int):Bool:=oD r&&(decide (lo<=r.j5.tdiv r.jD)&&(decide (r.j5.tdiv r.jD<hi)||(r.j5.tdiv r.jD==hi&&r.j5.tmod r.jD==0)))
def Uo (c:aF):Bool:=decide (8<(c.aW.length:Int))||decide (8<(c.aO.length:Int))
def Ka (n:Int) (x:aZ):Bool:=!dS x.eO 0 (n - 1)||!dS x.fI 0 4000000000||!dS x.lC 0 x.fI
def jh (c:aF):Bool:=
 bif c.dG==1 then ((c.aW.length:Int)==0)&&((c.aO.length:Int)==1)&&dS (c.aO.getD 0 0) 1 4000000000
 else bif c.dG==2||c.dG==3 then ((c.aW.length:Int)==1)&&decide (0<(c.aO.length:Int))&&zF 1 64 [] c.aO
 else bif c.dG==4 then decide (0<(c.aO.length:Int))&&zF 0 ((c.aW.length:Int) - 1) [] c.aO
 else bif c.dG==5 then ((c.aW.length:Int)==1)&&(c.aO==[0,1])
 else false
def lX (c:aF) (k:Int):Bool:=bif c.aW.any (λ y=>!dS y 0 (k - 1))||!dS c.fI 0 4000000000||!dS c.lC 0 c.fI then false else jh c
theorem apx (l:azp) (hi:Int) (h:zF 0 hi [] l=true) (hl:0<l.length):0<=hi:=by
 cases l with
 | nil=>simp at hl
 | cons n l=>
  cases hw:dS n 0 hi with
  | true=>simp [dS] at hw; omega
  | false=>
   rw [aae (by rw [hw]; rfl)] at h;cases h
def RS (a b:Int):Int:=if b > a then b else a
def Uq (c:aF):Bool:=c.dG==2||c.dG==3
def mQ (acc:azp) (l:azp):Int:=l.foldl (λ n p=>RS n (acc.getD p.toNat 0)) 0
def Lj (acc:azp) (c:aF):Int:=bif Uq c then mQ acc c.aW+1 else mQ acc c.aW
def iW (l:azs):azp:=l.foldl (λ acc c=>acc++[Lj acc c]) []
theorem EN (l:azs) (c:aF):iW (l++[c])=iW l++[Lj (iW l) c]:=by
 unfold iW;rw [ayo];rfl
def ajy (l:azs):Prop:=∀i,i<l.length->(l.getD i aL).aW.length<=2000000∧∀p∈(l.getD i aL).aW,0<=p∧p<i
theorem Ll (acc:azp) (b:Int) (hb0:0<=b) (hb:∀j:Nat,0<=acc.getD j 0∧acc.getD j 0<=b) (l:azp):0<=mQ acc l∧mQ acc l<=b:=by
 have:∀(l:azp) (n:Int),0<=n∧n<=b->0<=l.foldl (λ n p=>RS n (acc.getD p.toNat 0)) n∧l.foldl (λ n p=>RS n (acc.getD p.toNat 0)) n<=b:=by
  intro l;induction l with
  | nil=>exact λ n h=>h
  | cons p r ih=>
   intro n hn;refine ih _ ?_;show 0<=RS n (acc.getD p.toNat 0)∧RS n (acc.getD p.toNat 0)<=b;unfold RS;have:=hb p.toNat;split<;>omega
 exact this l 0 om
theorem kE (l:azs):(iW l).length=l.length∧∀j:Nat,0<=(iW l).getD j 0∧(iW l).getD j 0<=l.length:=by
 induction l using KY with
 | nil=>exact ⟨rfl,λ j=>by rw [OB]; simp; exact alh _⟩
 | append_singleton l c ih=>
  obtain ⟨h1,h2⟩:=ih;rw [EN];have hb:=Ll (iW l) l.length om h2 c.aW;have hf:0<=Lj (iW l) c∧Lj (iW l) c<=l.length+1:=by
   unfold Lj;cases Uq c<;>simp only [cond_true,cond_false]<;>omega
  refine ⟨by rw [afa,afa,h1]; rfl,λ j=>?_⟩;have hlen:((l++[c]).length:Int)=l.length+1:=by rw [afa]; rfl
  rw [hlen];by_cases hj:j<l.length
  ·rw [ko 0 om];have:=h2 j;omega
  by_cases hj2:j=l.length
  ·rw [kX 0 om]; exact hf
  rw [OB 0 (by rw [afa,h1]; simp; omega)];omega
def Zd (a b:Int):Int:=if b<a then b else a
def ni (l:azs):Int:=l.foldl (λ p c=>Zd (p*c.aO.length) 1099511627776) 1
def agp (l:azs):Bool:=(List.range l.length).all λ i=>lX (l.getD i aL) i
def eD (l:azs):Int:=bif decide (16<(l.length:Int))||l.any Uo then 3 else bif !agp l then 1 else bif decide (4096<ni l)||(iW l).any (λ n=>decide (4<n)) then 3 else 0
variable {l:azs}
theorem adg (h:∀i:Nat,i<l.length->lX (l.getD i aL) i=true):agp l=true:=by
 unfold agp;rw [aoI];intro i hi;exact h i (ara.1 hi)
theorem agq (h:agp l=true) (i:Nat) (hi:i<l.length):lX (l.getD i aL) i=true:=by
 unfold agp at h;rw [aoI] at h;exact h i (ara.2 hi)
theorem Ur (hi:i<l.length) (h:lX (l.getD i aL) i=false):agp l=false:=by
 cases hv:agp l with
 | false=>rfl
 | true=>rw [agq hv i hi] at h; cases h
theorem oF {l:List α} {p:α->Bool} (d:α) (h:l.any p=false) (i:Nat) (hi:i<l.length):p (l.getD i d)=false:=by
 rw [aml] at h;simpa using h _ (jq d hi)
theorem zH {l:List α} {p:α->Bool} (d:α) (hi:i<l.length) (h:p (l.getD i d)=true):l.any p=true:=aoH.2 ⟨_,jq d hi,h⟩
theorem any_none {l:List α} {p:α->Bool} (d:α) (h:∀i,i<l.length->p (l.getD i d)=false):l.any p=false:=by
 rw [aml];intro x hx;obtain ⟨i,hi,rfl⟩:=aln.1 hx;have:=h i hi;rw [adF,adH hi] at this;simpa using this
variable {c:aF}
theorem Qd (h:Uo c=false):c.aW.length<=8∧c.aO.length<=8:=by
 unfold Uo at h;simp at h;omega
theorem Qe (l:azs):0<=ni l∧ni l<=1099511627776:=by
 unfold ni;induction l using KY with
 | nil=>simp
 | append_singleton l c ih=>
  rw [ayo];show 0<=Zd (l.foldl _ 1*c.aO.length) 1099511627776∧Zd (l.foldl _ 1*c.aO.length) 1099511627776<=1099511627776;have:0<=l.foldl (λ p c=>Zd (p*(c:aF).aO.length) 1099511627776) 1*(c.aO.length:Int):=auO ih.1 om;generalize l.foldl (λ p c=>Zd (p*(c:aF).aO.length) 1099511627776) 1*(c.aO.length:Int)=q at this;unfold Zd;split<;>omega
theorem ane (l:azs) (n:Int) (h:0<=n∧n<=8):0<=ni l*n∧ni l*n<=1099511627776*8:=by
 have hb:=Qe l;exact ⟨auO hb.1 h.1,ayY hb.2 h.2 h.1 om⟩
theorem within_iff (n lo hi:Int):dS n lo hi=true↔lo<=n∧n<=hi:=by
 unfold dS;simp
variable {k:Int}
theorem Xq {j:Nat} (hj:j<c.aW.length) (h:dS (c.aW.getD j 0) 0 (k - 1)=false):lX c k=false:=by
 unfold lX;have:c.aW.any (λ y=>!dS y 0 (k - 1))=true:=zH 0 hj (by show (!dS (c.aW.getD j 0) 0 (k - 1))=true; rw [h]; rfl);rw [this];rfl
theorem agr (h:∀j,j<c.aW.length->dS (c.aW.getD j 0) 0 (k - 1)=true):lX c k=!(!jh c||decide (c.lC<0)||decide (c.fI<c.lC)||decide (4000000000<c.fI)):=by
 have e:c.aW.any (λ y=>!dS y 0 (k - 1))=false:=any_none 0 λ j hj=>by show (!dS (c.aW.getD j 0) 0 (k - 1))=false; rw [h j hj]; rfl
 unfold lX;rw [e];cases hc:jh c with
 | false=>cases (false||!dS c.fI 0 4000000000||!dS c.lC 0 c.fI)<;>rfl
 | true=>
  by_cases hg:(0<=c.lC∧c.lC<=c.fI)∧c.fI<=4000000000
  ·have h1:dS c.fI 0 4000000000=true:=(within_iff _ _ _).2 om;have h2:dS c.lC 0 c.fI=true:=(within_iff _ _ _).2 om;rw [h1,h2,decide_eq_false (show ¬ c.lC<0 by omega),decide_eq_false (show ¬ c.fI<c.lC by omega),decide_eq_false (show ¬ 4000000000<c.fI by omega)];rfl
  have h1:(false||!dS c.fI 0 4000000000||!dS c.lC 0 c.fI)=true:=by
   simp only [avB,al4,ahk,<- aqM,within_iff];omega
  have h2:(!true||decide (c.lC<0)||decide (c.fI<c.lC)||decide (4000000000<c.fI))=true:=by
   simp only [as0,avB,al4,decide_eq_true_eq];omega
  rw [h1,h2];rfl
theorem Lm (h:lX c k=true):∀p∈c.aW,0<=p∧p<k:=by
 intro p hp;unfold lX at h;cases ha:c.aW.any (λ y=>!dS y 0 (k - 1)) with
 | true=>rw [ha] at h; cases h
 | false=>
  rw [aml] at ha;have:=ha p hp;simp only [aqM,ajz] at this;have:=(within_iff _ _ _).1 this;omega
theorem ags (h:∀i:Nat,i<l.length->lX (l.getD i aL) i=true) (hb:∀i:Nat,i<l.length->Uo (l.getD i aL)=false):ajy l:=λ i hi=>⟨by have:=Qd (hb i hi); omega,Lm (h i hi)⟩
theorem Xr (l:azs) (k:Nat):∀j,j<k->j<l.length->(iW l).getD j 0=(iW (l.take k)).getD j 0:=by
 induction l using KY with
 | nil=>intro j _ hj; cases hj
 | append_singleton l c ih=>
  intro j hjk hj;have hlen:=(kE l).1;by_cases hk:k<=l.length
  ·rw [au2 hk,EN,ko 0 om];exact ih j hjk om
  rw [aiI (l:=l++[c]) (by rw [afa]; simp; omega)]
theorem Qf (h:jh c=true):1<=c.aO.length:=by
 cases hc:c.aO with
 | nil=>
  unfold jh at h;rw [hc] at h;cases h1:c.dG==1<;>cases h2:(c.dG==2||c.dG==3)<;>cases h3:c.dG==4<;>cases h4:c.dG==5<;>rw [h1,h2,h3,h4] at h<;>simp at h
 | cons x r=>simp
theorem lY (h:lX c k=true):jh c=true:=by
 unfold lX at h;cases hb:(c.aW.any (λ y=>!dS y 0 (k - 1))||!dS c.fI 0 4000000000||!dS c.lC 0 c.fI) with
 | true=>rw [hb] at h; cases h
 | false=>rw [hb] at h; exact h
theorem Us (l:azs) (c:aF):ni (l++[c])=Zd (ni l*c.aO.length) 1099511627776:=by
 unfold ni;rw [ayo];rfl
theorem aip (l:azs):(∀c∈l,1<=c.aO.length)->∀k,ni (l.take k)<=ni l:=by
 induction l using KY with
 | nil=>intro _ k; rw [List.take_nil]; exact apw _
 | append_singleton l c ih=>
  intro h k;by_cases hk:k<=l.length
  ·rw [au2 hk,Us];have h1:=ih (λ d hd=>h d (atu _ hd)) k;have hb:=Qe l;have hc:=h c (au4 _ (ahf.2 rfl));have:ni l*1<=ni l*c.aO.length:=ayU om hb.1;rw [Int.mul_one] at this;generalize ni l*(c.aO.length:Int)=q at *;unfold Zd;split<;>omega
  rw [aiI (l:=l++[c]) (by rw [afa]; simp; omega)];exact apw _
def kH (l:azs) (s:azp):Bool:=((s.length:Int)==(l.length:Int))&&(List.range l.length).all λ i=>dS (s.getD i 0) 0 ((l.getD i aL).aO.length - 1)
variable {p:Nat->Bool}
theorem vR {n:Nat} (h:∀i,i<n->p i=true):(List.range n).all p=true:=by
 rw [aoI];intro i hi;exact h i (ara.1 hi)
theorem aeF {n:Nat} (h:(List.range n).all p=true) (hi:i<n):p i=true:=by
 rw [aoI] at h;exact h i (ara.2 hi)
theorem tV {n:Nat} (hi:i<n) (h:p i=false):(List.range n).all p=false:=by
 cases hv:(List.range n).all p with
 | false=>rfl
 | true=>rw [aeF hv hi] at h; cases h
def acn (l:azs):Prop:=∀i:Nat,i<l.length->(l.getD i aL).aO.length<=2000000
def mF (l:azs) (m:azz):Bool:=(eD l==0)&&decide ((m.length:Int)<=32)&&!(m.any (Ka l.length))
theorem anf (n:Int) (x:aZ):Ka n x=(decide (x.eO<0)||decide (n<=x.eO)||decide (x.lC<0)||decide (x.fI<x.lC)||decide (4000000000<x.fI)):=by
 unfold Ka;by_cases hg:(0<=x.eO∧x.eO<=n - 1)∧(0<=x.fI∧x.fI<=4000000000)∧(0<=x.lC∧x.lC<=x.fI)
 ·rw [(within_iff _ _ _).2 hg.1,(within_iff _ _ _).2 hg.2.1,(within_iff _ _ _).2 hg.2.2,decide_eq_false (show ¬ x.eO<0 by omega),decide_eq_false (show ¬ n<=x.eO by omega),decide_eq_false (show ¬ x.lC<0 by omega),decide_eq_false (show ¬ x.fI<x.lC by omega),decide_eq_false (show ¬ 4000000000<x.fI by omega)];rfl
 have h1:(!dS x.eO 0 (n - 1)||!dS x.fI 0 4000000000||!dS x.lC 0 x.fI)=true:=by
  simp only [al4,ahk,<- aqM,within_iff];omega
 have h2:(decide (x.eO<0)||decide (n<=x.eO)||decide (x.lC<0)||decide (x.fI<x.lC)||decide (4000000000<x.fI))=true:=by
  simp only [al4,decide_eq_true_eq];omega
 rw [h1,h2]
def abb (c:aF) (k:Int):Prop:=(c.dG=1)∨(c.dG=4∧0<=k∧k<c.aO.length∧0<=c.aO.getD k.toNat 0∧c.aO.getD k.toNat 0<c.aW.length)∨(c.dG≠4∧0<c.aW.length)
def kK (c:aF) (k:Int):Int:=bif c.dG==1 then -1 else bif c.dG==4 then c.aW.getD (c.aO.getD k.toNat 0).toNat 0 else c.aW.getD 0 0
def RU:bU:=⟨0,1⟩
def pE (r:bU):Bool:=(r.j5==0)&&((r.jD==1)&&true)
def YS (acc:azA) (c:aF) (k:Int):bU:=
 bif decide (kK c k<0) then ⟨c.aO.getD k.toNat 0,1⟩ else
 bif pE (acc.getD (kK c k).toNat dW)||((c.dG==5)&&(c.aO.getD k.toNat 0==0)) then RU else
 bif c.dG==2 then (CB (acc.getD (kK c k).toNat dW) (c.aO.getD k.toNat 0)).1 else
 bif c.dG==3 then (rU (acc.getD (kK c k).toNat dW) (c.aO.getD k.toNat 0)).1 else acc.getD (kK c k).toNat dW
def rV (l:azs) (s:azp):Nat->azA
 | 0=>[]
 | i+1=>rV l s i++[YS (rV l s i) (l.getD i aL) (s.getD i 0)]
def fU (l:azs) (s:azp):azA:=rV l s l.length
theorem tX (l:azs) (s:azp) (i:Nat):(rV l s i).length=i:=by
 induction i with
 | zero=>rfl
 | succ i ih=>simp [rV,ih]
structure Good (l:azs) (s:azp):Prop where
 small:l.length<=1000
 len:s.length=l.length
 aO:∀i,i<l.length->0<=s.getD i 0∧s.getD i 0<(l.getD i aL).aO.length
 pch:∀i,i<l.length->abb (l.getD i aL) (s.getD i 0)
 aW:∀i,i<l.length->kK (l.getD i aL) (s.getD i 0)<i
theorem adh:∀(l pre:azp),zF lo hi pre l=true->∀x∈l,lo<=x∧x<=hi:=by
 intro l;induction l with
 | nil=>intro _ _ x hx; cases hx
 | cons n r ih=>
  intro pre h x hx;cases hb:(!(dS n lo hi)||pre.contains n) with
  | true=>rw [aae hb] at h; cases h
  | false=>
   rw [aeE hb] at h;rcases alu.1 hx with rfl | hx
   ·rw [aff] at hb;have:=hb.1;simp only [ajz] at this;exact (within_iff _ _ _).1 this
   exact ih _ h x hx
theorem tY (h:jh c=true):
  (c.dG=1∧c.aW=[]∧c.aO.length=1∧1<=c.aO.getD 0 0∧c.aO.getD 0 0<=4000000000)∨((c.dG=2∨c.dG=3)∧c.aW.length=1∧0<c.aO.length∧∀x∈c.aO,1<=x∧x<=64)
  ∨ (c.dG=4∧0<c.aO.length∧∀x∈c.aO,0<=x∧x<=(c.aW.length:Int) - 1)∨(c.dG=5∧c.aW.length=1∧c.aO=[0,1]):=by
 unfold jh at h;cases h1:c.dG==1 with
 | true=>
  rw [h1] at h;simp only [cond_true,aei,within_iff] at h;obtain ⟨⟨h2,h3⟩,h4⟩:=h;left;have h2:c.aW.length=0:=by have:=eq_of_beq h2; omega
  exact ⟨eq_of_beq h1,as2.1 h2,by have:=eq_of_beq h3; omega,h4⟩
 | false=>
  rw [h1] at h;cases h2:(c.dG==2||c.dG==3) with
  | true=>
   rw [h2] at h;simp only [cond_true,cond_false,aei] at h;obtain ⟨⟨h3,h4⟩,h5⟩:=h;right; left;refine ⟨?_,by have:=eq_of_beq h3; omega,by have:=of_decide_eq_true h4; omega,adh _ _ h5⟩;rw [al4] at h2;exact h2.imp eq_of_beq eq_of_beq
  | false=>
   rw [h2] at h;cases h3:c.dG==4 with
   | true=>
    rw [h3] at h;simp only [cond_true,cond_false,aei] at h;right; right; left;exact ⟨eq_of_beq h3,by have:=of_decide_eq_true h.1; omega,adh _ _ h.2⟩
   | false=>
    rw [h3] at h;cases h4:c.dG==5 with
    | true=>
     rw [h4] at h;simp only [cond_true,cond_false,aei] at h;right; right; right;exact ⟨eq_of_beq h4,by have:=eq_of_beq h.1; omega,eq_of_beq h.2⟩
    | false=>rw [h4] at h; cases h
structure aco (l:azs):Prop where
 len:l.length<=16
 big:∀i:Nat,i<l.length->(l.getD i aL).aW.length<=8∧(l.getD i aL).aO.length<=8
 valid:∀i:Nat,i<l.length->lX (l.getD i aL) i=true
 prod:ni l<=4096
 iW:∀i:Nat,i<l.length->(iW l).getD i 0<=4
theorem sI (h:eD l=0):aco l:=by
 unfold eD at h;cases h1:(decide (16<(l.length:Int))||l.any Uo) with
 | true=>rw [h1] at h; cases h
 | false=>
  rw [h1] at h;cases h2:agp l with
  | false=>rw [h2] at h; cases h
  | true=>
   rw [h2] at h;cases h3:(decide (4096<ni l)||(iW l).any (λ n=>decide (4<n))) with
   | true=>rw [h3] at h; cases h
   | false=>
    rw [aff] at h1 h3;refine ⟨by have:=of_decide_eq_false h1.1; omega,λ i hi=>Qd (oF aL h1.2 i hi),agq h2,by have:=of_decide_eq_false h3.1; omega,λ i hi=>?_⟩;have:=oF 0 h3.2 i (by rw [(kE l).1]; exact hi);have:=of_decide_eq_false this;omega
variable {s:azp}
theorem Qg (h:kH l s=true):s.length=l.length∧∀i:Nat,i<l.length->0<=s.getD i 0∧s.getD i 0<(l.getD i aL).aO.length:=by
 unfold kH at h;rw [aei] at h;have hl:s.length=l.length:=by have:=eq_of_beq h.1; omega
 refine ⟨hl,λ i hi=>?_⟩;have:=h.2;rw [aoI] at this;have:=this i (ara.2 om);have:=(within_iff _ _ _).1 this;omega
theorem agt (hv:lX c i=true) (hk:0<=k∧k<c.aO.length):abb c k∧kK c k<i:=by
 have hp:=Lm hv;unfold abb kK;rcases tY (lY hv) with ⟨h1,h2,h3,h4⟩ | ⟨h1,h2,h3,h4⟩ | ⟨h1,h2,h3⟩ | ⟨h1,h2,h3⟩
 ·refine ⟨.inl h1,?_⟩;rw [h1];show (-1:Int)<i;omega
 ·have hn1:(c.dG==1)=false:=by rcases h1 with h1 | h1<;>rw [h1]<;>rfl
  have hn4:(c.dG==4)=false:=by rcases h1 with h1 | h1<;>rw [h1]<;>rfl
  refine ⟨.inr (.inr ⟨λ e=>(by rw [e] at hn4; cases hn4),om⟩),?_⟩;rw [hn1,hn4];exact (hp _ (jq 0 om)).2
 ·have hm:=h3 _ (jq 0 (i:=k.toNat) om);refine ⟨.inr (.inl ⟨h1,hk.1,hk.2,hm.1,om⟩),?_⟩;rw [h1];exact (hp _ (jq 0 (i:=(c.aO.getD k.toNat 0).toNat) om)).2
 refine ⟨.inr (.inr ⟨by rw [h1]; decide,om⟩),?_⟩;rw [h1];exact (hp _ (jq 0 (i:=0) om)).2
theorem Rs (h:aco l) (hs:kH l s=true):Good l s:=by
 obtain ⟨h1,h2⟩:=Qg hs;exact ⟨by have:=h.len; omega,h1,h2,λ i hi=>(agt (h.valid i hi) (h2 i hi)).1,λ i hi=>(agt (h.valid i hi) (h2 i hi)).2⟩
def wZ (l:azs) (s:azp):azA×Int:=bif eD l != 0 then ([],eD l) else bif !kH l s then ([],1) else (fU l s,0)
def RV (r:azA) (x:aZ):Bool:=pE (r.getD x.eO.toNat dW)||!sH (r.getD x.eO.toNat dW) x.lC x.fI
def aiq (r:bU) (c:aF):Bool:=((!pE r)&&(c.fI != 0))&&!sH r c.lC c.fI
def ownB (l:azs) (r:azA):Bool:=(List.range l.length).all λ i=>!aiq (r.getD i dW) (l.getD i aL)
def fH (l:azs) (s:azp) (m:azz):Bool:=(mF l m&&kH l s)&&(ownB l (fU l s)&&!m.any (RV (fU l s)))
theorem FQ {m:azz} (h:mF l m=true):eD l=0∧m.length<=32∧∀i,i<m.length->Ka l.length (m.getD i dN)=false:=by
 unfold mF at h;rw [aei,aei] at h;exact ⟨eq_of_beq h.1.1,by have:=of_decide_eq_true h.1.2; omega,λ i hi=>oF dN (by simpa using h.2) i hi⟩
theorem Qh {n:Int} {x:aZ} (h:Ka n x=false):(0<=x.eO∧x.eO<n)∧0<=x.lC∧x.lC<=x.fI∧x.fI<=4000000000:=by
 rw [anf] at h;simp only [aff,decide_eq_false_iff_not] at h;omega
theorem YT {l m:List α} (d:α) (h:l.length<=i):(l++m).getD i d=m.getD (i - l.length) d:=by
 rw [adF,arF h,adF]
def red (a b:Nat):bU:=⟨((a / Nat.gcd a b:Nat):Int),((b / Nat.gcd a b:Nat):Int)⟩
theorem Rt (a b:Nat) (hb:0<b) (ha':a<=144115188075855872) (hb':b<=16777216):oD (red a b)=true:=by
 have g0:0<Nat.gcd a b:=at0 a hb;have h1:a / Nat.gcd a b<=a:=awW _ _;have h2:b / Nat.gcd a b<=b:=awW _ _;have h3:0<b / Nat.gcd a b:=ayy (avt hb (at7 _ _)) g0;have h4:Nat.gcd (a / Nat.gcd a b) (b / Nat.gcd a b)=1:=by
  rw [Nat.gcd_div (auf _ _) (at7 _ _),Nat.div_self g0]
 unfold oD red jH;simp only [ahg,h4];generalize a / Nat.gcd a b=n at *;generalize b / Nat.gcd a b=d at *;simp;omega
theorem agu (a b:Nat) (hb:0<b) (ha':a<=144115188075855872) (hb':b<=16777216):newR a b=(red a b,0):=by
 have hv:=Rt a b hb ha' hb';have e1:jH (a:Int) (b:Int)=(Nat.gcd a b:Nat):=by unfold jH; rw [ahg,ahg]
 have e2:(⟨(a:Int).tdiv (jH a b),(b:Int).tdiv (jH a b)⟩:bU)=red a b:=by
  rw [e1,<- att,<- att];rfl
 unfold newR;have c:(decide ((a:Int)<0)||decide ((b:Int)<1))=false:=by simp; omega
 rw [c,e2,hv];rfl
theorem adi (a b:Nat) (hb:0<b):∃g n d:Nat,0<g∧0<d∧g*n=a∧g*d=b∧red a b=⟨n,d⟩∧n<=a∧d<=b:=by
 have g0:0<Nat.gcd a b:=at0 a hb;refine ⟨Nat.gcd a b,a / Nat.gcd a b,b / Nat.gcd a b,g0,ayy (avt hb (at7 _ _)) g0,awU (auf _ _),awU (at7 _ _),rfl,awW _ _,awW _ _⟩
theorem adj (h:1<=k∧k<=64):zG k=true:=by
 unfold zG;simp;omega
theorem agv (a b:Nat) (k:Int) (hb:0<b) (hk:1<=k∧k<=64) (ha':a<=144115188075855872) (hb':b*k.toNat<=16777216):CB (red a b) k=(red a (b*k.toNat),0):=by
 have hbk:b<=b*k.toNat:=ap8 _ om;have hv:=Rt a b hb ha' om;unfold CB;rw [hv,adj hk];simp only [as0,cond_false];obtain ⟨g,n,d,g0,d0,e1,e2,e3,_,_⟩:=adi a b hb;rw [e3];have hkk:k=(k.toNat:Int):=by omega
 have hm:=VH g n (d*k.toNat) g0 (azb d0 om);rw [e1,<- ayD,e2] at hm;show newR (n:Int) ((d:Int)*k)=_;rw [hkk,<- atL,<- hm,ahg];exact agu a (b*k.toNat) om ha' hb'
theorem adk (a b:Nat) (k:Int) (hb:0<b) (hk:1<=k∧k<=64) (ha':a*k.toNat<=144115188075855872) (hb':b<=16777216):rU (red a b) k=(red (a*k.toNat) b,0):=by
 have hak:a<=a*k.toNat:=ap8 _ om;have hv:=Rt a b hb om hb';unfold rU;rw [hv,adj hk];simp only [as0,cond_false];obtain ⟨g,n,d,g0,d0,e1,e2,e3,e4,e5⟩:=adi a b hb;rw [e3];obtain ⟨k,rfl⟩:=ahq (show 0<=k by omega);have hk0:0<k:=by omega
 have eg:jH ((k:Nat):Int) ((d:Nat):Int)=(Nat.gcd k d:Nat):=by unfold jH; rw [ahg,ahg]
 have q0:0<Nat.gcd k d:=Nat.gcd_pos_of_pos_left d hk0;have qk:Nat.gcd k d*(k / Nat.gcd k d)=k:=awU (auf _ _);have qd:Nat.gcd k d*(d / Nat.gcd k d)=d:=awU (at7 _ _);have qk0:0<k / Nat.gcd k d:=ayy (avt hk0 (auf _ _)) q0;have qd0:0<d / Nat.gcd k d:=ayy (avt d0 (at7 _ _)) q0;have qkk:k / Nat.gcd k d<=k:=awW _ _;simp only [ahg] at ha' ⊢;rw [eg,<- att,<- att];have hc:decide ((144115188075855872:Int).tdiv ((k / Nat.gcd k d:Nat):Int)<(n:Int))=false:=by
  apply decide_eq_false;have:n<=144115188075855872 / (k / Nat.gcd k d):=by
   rw [Nat.le_div_iff_mul_le qk0];exact afQ (ayZ e4 qkk) ha'
  have e:(144115188075855872:Int).tdiv ((k / Nat.gcd k d:Nat):Int)=((144115188075855872 / (k / Nat.gcd k d):Nat):Int):=by
   rw [att];rfl
  rw [e];omega
 rw [hc];simp only [cond_false];rw [<- atL];have m1:=VH (Nat.gcd k d) (n*(k / Nat.gcd k d)) (d / Nat.gcd k d) q0 qd0;rw [Nat.mul_left_comm,qk,qd] at m1;have m2:=VH g (n*k) d g0 d0;rw [<- ayD,e1,e2] at m2;rw [<- m1,<- m2];exact agu (a*k) b hb ha' hb'
theorem apy (a:Nat):red a 1=⟨a,1⟩:=by
 unfold red;rw [Nat.gcd_one_right,Nat.div_one,Nat.div_one];rfl
theorem apz (a b:Nat) (ha:0<a):0<(red a b).j5:=by
 have:0<a / Nat.gcd a b:=ayy (avt ha (auf _ _)) (Nat.gcd_pos_of_pos_left b ha);show (0:Int)<((a / Nat.gcd a b:Nat):Int);omega
theorem ang (a b:Nat) (ha:0<a):pE (red a b)=false:=by
 have:=apz a b ha;unfold pE;have:((red a b).j5==0)=false:=by
  rw [<- aqM];intro e;have:=eq_of_beq e;omega
 rw [this];rfl
theorem akH (k:Int) (hk:1<=k∧k<=64):rU RU k=(RU,0):=by
 have h:=adk 0 1 k (by decide) hk (by simp) (by decide);rw [asO] at h;exact h
theorem anh (k:Int) (hk:1<=k∧k<=64):CB RU k=(RU,0):=by
 have h:=agv 0 1 k (by decide) hk (by decide) om;have e:red 0 (1*k.toNat)=RU:=by
  unfold red RU;rw [Nat.gcd_zero_left,Nat.zero_div,avI,Nat.div_self om];rfl
 rw [e] at h;exact h
theorem Ut (l:azs) (s:azp) (n j:Nat) (h:j<n):(rV l s n).getD j dW=YS (rV l s j) (l.getD j aL) (s.getD j 0):=by
 induction n with
 | zero=>omega
 | succ n ih=>
  rw [rV];by_cases hj:j<n
  ·rw [ko _ (by rw [tX]; exact hj)];exact ih hj
  have:j=n:=by omega
  subst this;rw [kX _ (tX l s j).symm]
theorem akI {acc acc':azA} (h:0<=kK c k->acc.getD (kK c k).toNat dW=acc'.getD (kK c k).toNat dW):YS acc c k=YS acc' c k:=by
 unfold YS;by_cases hp:kK c k<0
 ·rw [decide_eq_true hp]; rfl
 rw [h om]
theorem akJ (h:Good l s) (j:Nat) (hj:j<l.length):(fU l s).getD j dW=YS (fU l s) (l.getD j aL) (s.getD j 0):=by
 unfold fU;rw [Ut l s l.length j hj];refine akI λ h0=>?_;have:=h.aW j hj;rw [Ut l s l.length _ om,Ut l s j _ om]
theorem akK (acc:azp) (l:azp) (p:Int) (hp:p∈l):acc.getD p.toNat 0<=mQ acc l:=by
 have mono:∀(l:azp) (n:Int),n<=l.foldl (λ n p=>RS n (acc.getD p.toNat 0)) n:=by
  intro l;induction l with
  | nil=>intro n; exact apw _
  | cons q r ih=>
   intro n;have:=ih (RS n (acc.getD q.toNat 0));have h2:n<=RS n (acc.getD q.toNat 0):=by unfold RS; split<;>omega
   exact aoJ h2 this
 have key:∀(l:azp) (n:Int),p∈l->acc.getD p.toNat 0<=l.foldl (λ n p=>RS n (acc.getD p.toNat 0)) n:=by
  intro l;induction l with
  | nil=>intro n h; cases h
  | cons q r ih=>
   intro n h;rcases alu.1 h with rfl | h
   ·have:=mono r (RS n (acc.getD p.toNat 0));have h2:acc.getD p.toNat 0<=RS n (acc.getD p.toNat 0):=by unfold RS; split<;>omega
    exact aoJ h2 this
   exact ih _ h
 exact key l 0 hp
theorem apA (hp:ajy l) (j:Nat) (hj:j<l.length):∀p∈(l.getD j aL).aW,(iW l).getD p.toNat 0+(bif Uq (l.getD j aL) then 1 else 0)<=(iW l).getD j 0:=by
 intro p hpm;have hpj:=(hp j hj).2 p hpm;have e1:(iW l).getD j 0=Lj (iW (l.take j)) (l.getD j aL):=by
  rw [Xr l (j+1) j om hj,iM aL hj,EN,kX _ (by rw [(kE _).1,take_len om])]
 have e2:(iW l).getD p.toNat 0=(iW (l.take j)).getD p.toNat 0:=Xr l j p.toNat om om;have:=akK (iW (l.take j)) (l.getD j aL).aW p hpm;rw [e1,e2];unfold Lj;cases Uq (l.getD j aL)<;>simp only [cond_true,cond_false]<;>omega
structure Made (l:azs):Prop where
 ok:eD l=0
 pos:1<=l.length
 fix:∀i,i<l.length->(l.getD i aL).dG=1->(l.getD i aL).aO.getD 0 0<=24000000
structure Ze (F a b:Nat) (f:Int):Prop where
 a0:0<a
 b0:0<b
 f0:0<=f
 al:a<=F*64 ^ f.toNat
 bl:b<=64 ^ f.toNat
variable {f:Int}
theorem apB (h:f<=4):64 ^ f.toNat<=16777216:=by
 have:f.toNat<=4:=by omega
 calc 64 ^ f.toNat<=64 ^ 4:=as1 (by decide) this
  _=16777216:=by decide
variable {F:Nat} {a:Nat} {b:Nat}
theorem Ze.mono {g:Int} (h:Ze F a b f) (hfg:f<=g):Ze F a b g:=by
 have hf:=h.f0;have:64 ^ f.toNat<=64 ^ g.toNat:=as1 (by decide) om;exact ⟨h.a0,h.b0,om,afQ h.al (aqT _ this),afQ h.bl this⟩
theorem Ze.times {g:Int} (h:Ze F a b f) (hfg:f+1<=g) {k:Nat} (hk:1<=k∧k<=64):Ze F (a*k) b g:=by
 have hf:=h.f0;have:64 ^ f.toNat*64<=64 ^ g.toNat:=by
  rw [<- Nat.pow_succ];exact as1 (by decide) om
 refine ⟨azb h.a0 om,h.b0,om,?_,?_⟩
 ·calc a*k<=(F*64 ^ f.toNat)*64:=ayZ h.al hk.2
   _=F*(64 ^ f.toNat*64):=ayD _ _ _
   _<=F*64 ^ g.toNat:=aqT _ this
 exact afQ h.bl (afQ (ap8 _ (by decide)) this)
theorem Ze.over {g:Int} (h:Ze F a b f) (hfg:f+1<=g) {k:Nat} (hk:1<=k∧k<=64):Ze F a (b*k) g:=by
 have hf:=h.f0;have h1:64 ^ f.toNat*64<=64 ^ g.toNat:=by
  rw [<- Nat.pow_succ];exact as1 (by decide) om
 have h2:64 ^ f.toNat<=64 ^ g.toNat:=as1 (by decide) om;exact ⟨h.a0,azb h.b0 om,om,afQ h.al (aqT _ h2),afQ (ayZ h.bl hk.2) h1⟩
theorem Ze.small (h:Ze F a b f) (hf:f<=4) (hF:F<=4294967296):a<=F*16777216∧a<=144115188075855872∧b<=16777216:=by
 have hp:=apB hf;have h1:=afQ h.al (aqT F hp);exact ⟨h1,afQ h1 (afQ (afh 16777216 hF) (by decide)),afQ h.bl hp⟩
def KL (c:aF) (k:Int):Int:=c.aO.getD k.toNat 0
def upR (acc:azA) (c:aF) (k:Int):bU:=acc.getD (kK c k).toNat dW
structure Step (c:aF) (i:Nat) (k:Int):Prop where
 p0:0<=kK c k
 pi:kK c k<i
 mem:kK c k∈c.aW
 n1:c.dG≠1
theorem aeG (hv:lX c i=true) (hk:0<=k∧k<c.aO.length) (hn:c.dG≠1):Step c i k:=by
 have hp:=Lm hv;have key:kK c k∈c.aW:=by
  unfold kK;rcases tY (lY hv) with ⟨h1,h2,h3,h4⟩ | ⟨h1,h2,h3,h4⟩ | ⟨h1,h2,h3⟩ | ⟨h1,h2,h3⟩
  ·exact absurd h1 hn
  ·have hn1:(c.dG==1)=false:=by rcases h1 with h1 | h1<;>rw [h1]<;>rfl
   have hn4:(c.dG==4)=false:=by rcases h1 with h1 | h1<;>rw [h1]<;>rfl
   rw [hn1,hn4];exact jq 0 om
  ·have hm:=h3 _ (jq 0 (i:=k.toNat) om);rw [h1];exact jq 0 (i:=(c.aO.getD k.toNat 0).toNat) om
  rw [h1];exact jq 0 (i:=0) om
 have:=hp _ key;exact ⟨this.1,this.2,key,hn⟩
theorem apC (hv:lX c i=true) (hk:0<=k∧k<c.aO.length) (h:c.dG=1) (acc:azA):KL c k=c.aO.getD 0 0∧1<=KL c k∧KL c k<=4000000000∧YS acc c k=⟨KL c k,1⟩∧kK c k = -1:=by
 rcases tY (lY hv) with ⟨h1,h2,h3,h4⟩ | ⟨h1,h2,h3,h4⟩ | ⟨h1,h2,h3⟩ | ⟨h1,h2,h3⟩
 ·have e:KL c k=c.aO.getD 0 0:=by unfold KL; rw [show k.toNat=0 by omega]
  have hp:kK c k = -1:=by unfold kK; rw [h]; rfl
  refine ⟨e,om,om,?_,hp⟩;unfold YS;rw [hp];rfl
 ·rcases h1 with h1 | h1<;>omega
 ·omega
 omega
theorem agw (hv:lX c i=true) (hk:0<=k∧k<c.aO.length) (hn:c.dG≠1) (acc:azA):
  ((pE (upR acc c k)=true∨(c.dG=5∧KL c k=0))∧YS acc c k=RU)∨
  (pE (upR acc c k)=false∧((c.dG=2∧Uq c=true∧(1<=KL c k∧KL c k<=64)∧YS acc c k=(CB (upR acc c k) (KL c k)).1)∨
    (c.dG=3∧Uq c=true∧(1<=KL c k∧KL c k<=64)∧YS acc c k=(rU (upR acc c k) (KL c k)).1)∨
    ((c.dG=4∨(c.dG=5∧KL c k=1))∧Uq c=false∧YS acc c k=upR acc c k))):=by
 have hs:=aeG hv hk hn;have hp:decide (kK c k<0)=false:=decide_eq_false (by have:=hs.p0; omega);have e0:YS acc c k=bif pE (upR acc c k)||((c.dG==5)&&(KL c k==0)) then RU else bif c.dG==2 then (CB (upR acc c k) (KL c k)).1 else bif c.dG==3 then (rU (upR acc c k) (KL c k)).1 else upR acc c k:=by
  unfold YS;rw [hp];rfl
 have hmem:KL c k∈c.aO:=jq 0 om;cases ho:pE (upR acc c k) with
 | true=>left; exact ⟨.inl rfl,by rw [e0,ho]; rfl⟩
 | false=>
  rw [ho] at e0;rcases tY (lY hv) with ⟨h1,h2,h3,h4⟩ | ⟨h1,h2,h3,h4⟩ | ⟨h1,h2,h3⟩ | ⟨h1,h2,h3⟩
  ·exact absurd h1 hn
  ·right;refine ⟨rfl,?_⟩;rcases h1 with h1 | h1
   ·left;refine ⟨h1,by unfold Uq; rw [h1]; rfl,h4 _ hmem,?_⟩;rw [e0,h1];rfl
   right; left;refine ⟨h1,by unfold Uq; rw [h1]; rfl,h4 _ hmem,?_⟩;rw [e0,h1];rfl
  ·right;refine ⟨rfl,.inr (.inr ⟨.inl h1,by unfold Uq; rw [h1]; rfl,?_⟩)⟩;rw [e0,h1];rfl
  rw [h3] at hmem;by_cases hc:KL c k=0
  ·left;refine ⟨.inr ⟨h1,hc⟩,?_⟩;rw [e0,h1,hc];rfl
  have hc1:KL c k=1:=by simp at hmem; omega
  right;refine ⟨rfl,.inr (.inr ⟨.inr ⟨h1,hc1⟩,by unfold Uq; rw [h1]; rfl,?_⟩)⟩;rw [e0,h1,hc1];rfl
theorem air (h:aco l):ajy l:=λ i hi=>⟨by have:=(h.big i hi).1; omega,Lm (h.valid i hi)⟩
def st1 (acc:azA) (on:azq) (c:aF) (k:Int):bU×Bool:=
 bif c.dG==1 then (⟨c.aO.getD k.toNat 0,1⟩,true) else
 bif c.dG==2 then ((CB (acc.getD (kK c k).toNat dW) (c.aO.getD k.toNat 0)).1,on.getD (kK c k).toNat false) else
 bif c.dG==3 then ((rU (acc.getD (kK c k).toNat dW) (c.aO.getD k.toNat 0)).1,on.getD (kK c k).toNat false) else
 bif (c.dG==5)&&(c.aO.getD k.toNat 0==0) then (RU,false) else (acc.getD (kK c k).toNat dW,on.getD (kK c k).toNat false)
def Xt (l:azs) (s:azp):Nat->azA×azq
 | 0=>([],[])
 | i+1=>((Xt l s i).1++[(st1 (Xt l s i).1 (Xt l s i).2 (l.getD i aL) (s.getD i 0)).1],(Xt l s i).2++[(st1 (Xt l s i).1 (Xt l s i).2 (l.getD i aL) (s.getD i 0)).2])
def Tz (l:azs) (s:azp):azA×azq:=Xt l s l.length
theorem Ru (l:azs) (s:azp) (i:Nat):(Xt l s i).1.length=i∧(Xt l s i).2.length=i:=by
 induction i with
 | zero=>exact ⟨rfl,rfl⟩
 | succ i ih=>simp [Xt,ih]
def Up (l:azs) (s:azp):Prop:=∀i:Nat,i<l.length->(l.getD i aL).dG≠1->0<=kK (l.getD i aL) (s.getD i 0)
theorem ani (h:aco l) (hs:kH l s=true):Up l s:=by
 obtain ⟨_,h2⟩:=Qg hs;exact λ i hi hk=>(aeG (h.valid i hi) (h2 i hi) hk).p0
theorem aeH (l:azs) (s:azp) (n j:Nat) (h:j<n):(Xt l s n).1.getD j dW=(st1 (Xt l s j).1 (Xt l s j).2 (l.getD j aL) (s.getD j 0)).1∧(Xt l s n).2.getD j false=(st1 (Xt l s j).1 (Xt l s j).2 (l.getD j aL) (s.getD j 0)).2:=by
 induction n with
 | zero=>omega
 | succ n ih=>
  rw [Xt];have hl:=Ru l s n;by_cases hj:j<n
  ·rw [ko _ om,ko _ om];exact ih hj
  have:j=n:=by omega
  subst this;rw [kX _ hl.1.symm,kX _ hl.2.symm];exact ⟨rfl,rfl⟩
theorem akL {acc acc':azA} {on on':azq} (h:c.dG≠1->acc.getD (kK c k).toNat dW=acc'.getD (kK c k).toNat dW∧on.getD (kK c k).toNat false=on'.getD (kK c k).toNat false):st1 acc on c k=st1 acc' on' c k:=by
 unfold st1;cases hk:c.dG==1 with
 | true=>rfl
 | false=>
  obtain ⟨h1,h2⟩:=h (λ e=>by rw [e] at hk; cases hk);rw [h1,h2]
theorem asb (h:Good l s) (hu:Up l s) (j:Nat) (hj:j<l.length):((Tz l s).1.getD j dW,(Tz l s).2.getD j false)=st1 (Tz l s).1 (Tz l s).2 (l.getD j aL) (s.getD j 0):=by
 unfold Tz;obtain ⟨e1,e2⟩:=aeH l s l.length j hj;rw [e1,e2];show st1 _ _ _ _=_;refine akL λ hk=>?_;have h1:=h.aW j hj;have h2:=hu j hj hk;obtain ⟨a1,a2⟩:=aeH l s l.length (kK (l.getD j aL) (s.getD j 0)).toNat om;obtain ⟨b1,b2⟩:=aeH l s j (kK (l.getD j aL) (s.getD j 0)).toNat om;exact ⟨b1.trans a1.symm,b2.trans a2.symm⟩
theorem anj (hn:c.dG≠1) (acc:azA) (on:azq) (k:Int):
  (c.dG=2->st1 acc on c k=((CB (upR acc c k) (KL c k)).1,on.getD (kK c k).toNat false))∧
  (c.dG=3->st1 acc on c k=((rU (upR acc c k) (KL c k)).1,on.getD (kK c k).toNat false))∧
  (c.dG=5->KL c k=0->st1 acc on c k=(RU,false))∧
  ((c.dG=4∨(c.dG=5∧KL c k=1))->st1 acc on c k=(upR acc c k,on.getD (kK c k).toNat false)):=by
 have hk:(c.dG==1)=false:=by
  cases h:c.dG==1 with
  | false=>rfl
  | true=>exact absurd (eq_of_beq h) hn
 refine ⟨λ h=>?_,λ h=>?_,λ h h0=>?_,λ h=>?_⟩
 ·unfold st1; rw [h]; rfl
 ·unfold st1; rw [h]; rfl
 ·unfold st1; rw [show c.aO.getD k.toNat 0=KL c k from rfl,h,h0]; rfl
 rcases h with h | ⟨h,h1⟩
 ·unfold st1; rw [h]; rfl
 unfold st1; rw [show c.aO.getD k.toNat 0=KL c k from rfl,h,h1]; rfl
theorem ank (hv:lX c i=true) (hk:0<=k∧k<c.aO.length) (hn:c.dG≠1):(c.dG=2∧1<=KL c k∧KL c k<=64)∨(c.dG=3∧1<=KL c k∧KL c k<=64)∨c.dG=4∨(c.dG=5∧KL c k=k∧(k=0∨k=1)):=by
 have hmem:KL c k∈c.aO:=jq 0 om;rcases tY (lY hv) with ⟨h1,h2,h3,h4⟩ | ⟨h1,h2,h3,h4⟩ | ⟨h1,h2,h3⟩ | ⟨h1,h2,h3⟩
 ·exact absurd h1 hn
 ·rcases h1 with h1 | h1
  ·exact .inl ⟨h1,h4 _ hmem⟩
  exact .inr (.inl ⟨h1,h4 _ hmem⟩)
 ·exact .inr (.inr (.inl h1))
 rw [h3] at hk;have hk2:k=0∨k=1:=by simp at hk; omega
 refine .inr (.inr (.inr ⟨h1,?_,hk2⟩));unfold KL;rw [h3];rcases hk2 with rfl | rfl<;>rfl
theorem anl (l:azs):∀j:Nat,0<=(iW l).getD j 0:=λ j=>((kE l).2 j).1
theorem anm (hf:aco l) (hs:kH l s=true):∀j,j<l.length->
  ((fU l s).getD j dW=RU∧(Tz l s).1.getD j dW=RU∧(Tz l s).2.getD j false=false)∨
  ∃a b,Ze 4000000000 a b ((iW l).getD j 0)∧(fU l s).getD j dW=red a b∧(Tz l s).1.getD j dW=red a b∧(Tz l s).2.getD j false=true:=by
 have hg:=Rs hf hs;have hu:=ani hf hs;obtain ⟨_,hset⟩:=Qg hs;have awS:=λ j hj=>apA (air hf) j hj;have hfb:=anl l;generalize hA:fU l s=A;generalize hB:Tz l s=B;intro j;induction j using Nat.strongRecOn with
 | ind j ih=>
  intro hj;have eA:=akJ hg j hj;have eB:=asb hg hu j hj;rw [hA] at eA;rw [hB] at eB;have hv:=hf.valid j hj;have hk:=hset j hj;have hfj:=hf.iW j hj;have at1:=awS j hj;generalize l.getD j aL=c at *;generalize s.getD j 0=k at *;by_cases hk1:c.dG=1
  ·right;obtain ⟨e1,e2,e3,e4,_⟩:=apC hv hk hk1 A;have eB1:st1 B.1 B.2 c k=(⟨KL c k,1⟩,true):=by unfold st1; rw [hk1]; rfl
   rw [eB1] at eB;have hb:=hfb j;have er:(⟨KL c k,1⟩:bU)=red (KL c k).toNat 1:=by
    rw [apy];congr 1;omega
   refine ⟨(KL c k).toNat,1,⟨om,by decide,om,?_,Nat.pow_pos (by decide)⟩,?_,?_,?_⟩
   ·exact afQ (show (KL c k).toNat<=4000000000 by omega) (ap8 _ (Nat.pow_pos (by decide)))
   ·rw [eA,e4,er]
   ·rw [<- er]; exact congrArg Prod.fst eB
   exact congrArg Prod.snd eB
  have hst:=aeG hv hk hk1;have hpl:(kK c k).toNat<l.length:=by have:=hst.p0; have:=hst.pi; omega
  have hpf:=at1 _ hst.mem;have ihp:=ih (kK c k).toNat (by have:=hst.p0; have:=hst.pi; omega) hpl;have uA:A.getD (kK c k).toNat dW=upR A c k:=rfl;have uB:B.1.getD (kK c k).toNat dW=upR B.1 c k:=rfl;rw [uA,uB] at ihp;obtain ⟨q2,q3,q50,q4⟩:=anj hk1 B.1 B.2 k;have hn:∀n:Int,1<=n∧n<=64->1<=n.toNat∧n.toNat<=64:=λ n hn=>by omega
  rcases ihp with ⟨i1,i2,i3⟩ | ⟨a,b,i0,i1,i2,i3⟩
  ·left;have hA0:YS A c k=RU:=by
    rcases agw hv hk hk1 A with ⟨_,q⟩ | ⟨q,_⟩
    ·exact q
    rw [i1] at q; cases q
   rw [i2,i3] at q2 q3 q4;have hB0:st1 B.1 B.2 c k=(RU,false):=by
    rcases ank hv hk hk1 with ⟨h,h1⟩ | ⟨h,h1⟩ | h | ⟨h,h1,h2⟩
    ·rw [q2 h,anh _ h1]
    ·rw [q3 h,akH _ h1]
    ·exact q4 (.inl h)
    rcases h2 with h2 | h2
    ·exact q50 h om
    exact q4 (.inr ⟨h,om⟩)
   rw [hB0] at eB;exact ⟨by rw [eA,hA0],congrArg Prod.fst eB,congrArg Prod.snd eB⟩
  have oA:pE (upR A c k)=false:=by rw [i1]; exact ang a b i0.a0
  rw [i2,i3] at q2 q3 q4;rcases agw hv hk hk1 A with ⟨q0,q⟩ | ⟨_,q⟩
  ·left;rw [oA] at q0;rcases q0 with q0 | ⟨q0,q1⟩
   ·cases q0
   rw [q50 q0 q1] at eB;exact ⟨by rw [eA,q],congrArg Prod.fst eB,congrArg Prod.snd eB⟩
  right;rcases q with ⟨r1,r2,r3,r4⟩ | ⟨r1,r2,r3,r4⟩ | ⟨r1,r2,r3⟩
  ·rw [r2] at hpf;have hnew:=i0.over hpf (hn _ r3);have hs2:=hnew.small hfj (by decide);have eo:=agv a b _ i0.b0 r3 hs2.2.1 hs2.2.2;rw [q2 r1,eo] at eB;exact ⟨a,b*(KL c k).toNat,hnew,by rw [eA,r4,i1,eo],congrArg Prod.fst eB,congrArg Prod.snd eB⟩
  ·rw [r2] at hpf;have hnew:=i0.times hpf (hn _ r3);have hs2:=hnew.small hfj (by decide);have eo:=adk a b _ i0.b0 r3 hs2.2.1 hs2.2.2;rw [q3 r1,eo] at eB;exact ⟨a*(KL c k).toNat,b,hnew,by rw [eA,r4,i1,eo],congrArg Prod.fst eB,congrArg Prod.snd eB⟩
  rw [r2] at hpf;rw [q4 r1] at eB;exact ⟨a,b,i0.mono (by simpa using hpf),by rw [eA,r3,i1],congrArg Prod.fst eB,congrArg Prod.snd eB⟩
theorem Lp (hf:aco l) (hs:kH l s=true) (j:Nat) (hj:j<l.length):(Tz l s).1.getD j dW=(fU l s).getD j dW∧(Tz l s).2.getD j false=!pE ((fU l s).getD j dW)∧oD ((fU l s).getD j dW)=true∧(pE ((fU l s).getD j dW)=true->(fU l s).getD j dW=RU):=by
 rcases anm hf hs j hj with ⟨h1,h2,h3⟩ | ⟨a,b,h0,h1,h2,h3⟩
 ·rw [h1,h2,h3];exact ⟨rfl,rfl,by decide,λ _=>rfl⟩
 have hs2:=h0.small (hf.iW j hj) (by decide);rw [h1,h2,h3,ang a b h0.a0];exact ⟨rfl,rfl,Rt a b h0.b0 hs2.2.1 hs2.2.2,nofun⟩
theorem Kc {l m:List α} (d:α) (h:l.length=m.length) (he:∀i,i<l.length->l.getD i d=m.getD i d):l=m:=by
 apply avo h;intro i h1 h2;have:=he i h1;rw [adF,adF,adH h1,adH h2] at this;simpa using this
structure azd (l:azs) (s w:azp):Prop where
 chain:∀i,i+1<w.length->(l.getD (w.getD i 0).toNat aL).dG≠1∧w.getD (i+1) 0=kK (l.getD (w.getD i 0).toNat aL) (s.getD (w.getD i 0).toNat 0)
 last:∀i,i+1=w.length->(l.getD (w.getD i 0).toNat aL).dG=1
theorem kF (n lo hi:Int):ku n lo hi (dS n lo hi):=rfl
theorem aeI (hl:l.length<=2000000):l9 l (l.any Uo):=
 J7 (Qa (p:=IC) (P:=Uo) (λ _ _=>rfl) om) (nV _ _)
theorem Zf {p a:Int} (ha : -2000000<=a∧a<=2000000):Bq p a (!dS p 0 (a - 1)):=
 kY (aP (by unfold ay; omega) (aG (Ac (kF _ _ _)) λ v hv=>by subst hv; exact aC rfl))
theorem aeJ {l:azp} {a:Int} (ha : -2000000<=a∧a<=2000000) (hl:l.length<=2000000):oV l a (l.any λ y=>!dS y 0 (a - 1)):=
 J7 (Qa (p:=λ x=>Bq x a) (P:=λ y=>!dS y 0 (a - 1)) (λ _ _=>Zf ha) om) (nV _ _)
theorem abd {l:azp} {v:Int} (hl:l.length<=2000000):slices_Contains_int l v (l.contains v):=by
 refine J7 (amX (P:=λ x=>v==x) om) ?_;rw [nV];exact (List.contains_eq_any_beq).symm
theorem zI {l:azp} (hl:l.length<=2000000):nO l lo hi (zF lo hi [] l):=by
 refine kY (amY l.length (λ i=>zF lo hi (l.take i) (l.drop i)=zF lo hi [] l) ?_ rfl);intro self i hi1 hi2 ih;refine bV ?_ ?_<;>intro c
 ·have c:=of_decide_eq_true c;have hlt:i<l.length:=by omega
  rw [drop_cons 0 hlt] at hi2;refine aP om ?_;refine aG (Ac (kF _ _ _)) λ v hv=>?_;subst hv;refine aP (λ _=>by omega) ?_;refine aG (gM λ _=>abd (by simp; omega)) λ v hv=>?_;subst hv;refine bV ?_ ?_<;>intro c2
  ·refine aC ?_;rw [<- hi2,aae (pre:=l.take i) (n:=l.getD i 0) c2]
  refine aP (by unfold ay; omega) (ih hlt ?_);rw [<- hi2,aeE (pre:=l.take i) (n:=l.getD i 0) c2,iM 0 hlt]
 have c:=of_decide_eq_false c;refine aC ?_;rw [<- hi2,alp om];rfl
theorem Uu {a b:azp} (hl:a.length<=2000000):slices_Equal_int a b (a==b):=by
 refine kY (bV (λ c=>?_) (λ c=>?_))
 ·refine aC ?_;have:a≠b:=λ h=>by subst h; simp at c
  exact (beq_eq_false_iff_ne.2 this).symm
 have hlen:a.length=b.length:=by simp at c; omega
 refine amY a.length (λ i=>(a==b)=(a.drop i==b.drop i)) ?_ rfl;intro self i hi1 hi2 ih;refine bV ?_ ?_<;>intro c
 ·have c:=of_decide_eq_true c;have hlt:i<a.length:=by omega
  rw [drop_cons 0 hlt,drop_cons 0 (show i<b.length by omega)] at hi2;refine aP om (aP om ?_);refine bV ?_ ?_<;>intro c2
  ·refine aC ?_;rw [hi2];simp at c2;simp [c2]
  refine aP (by unfold ay; omega) (ih hlt ?_);rw [hi2];simp at c2;simp [c2]
 have c:=of_decide_eq_false c;refine aC ?_;rw [hi2,alp om,alp om];rfl
theorem acp (hk : -2000000<=k∧k<=2000000) (hp:c.aW.length<=2000000) (hc:c.aO.length<=2000000):OD c k (lX c k):=by
 refine kY ?_;refine aG (Ac (aeJ hk hp)) λ v1 hv=>?_;subst hv;refine aG (gM λ _=>kF c.fI 0 4000000000) λ v hv=>?_;subst hv;refine aG (gM λ _=>kF c.lC 0 c.fI) λ v hv=>?_;subst hv;refine bV ?_ ?_<;>intro h
 ·refine aC ?_;unfold lX;rw [h];rfl
 have hv:lX c k=jh c:=by unfold lX; rw [h]; rfl
 rw [hv];refine bV ?_ ?_<;>intro k1
 ·refine aP (λ h=>by simp at h; omega) ?_;refine aG (gM λ _=>kF (c.aO.getD 0 0) 1 4000000000) λ v hv=>?_;subst hv;refine aC ?_;unfold jh;rw [k1];rfl
 refine bV ?_ ?_<;>intro k2
 ·rw [k2];refine aG (gM λ _=>zI hc) λ v hv=>?_;subst hv;refine aC ?_;unfold jh;rw [k1,k2];rfl
 refine bV ?_ ?_<;>intro k3
 ·refine aG (gM λ _=>zI hc) λ v hv=>?_;subst hv;refine aC ?_;unfold jh;rw [k1,k2,k3];rfl
 refine bV ?_ ?_<;>intro k4
 ·refine aP (λ _=>by unfold ay; omega) ?_;refine aG (gM λ _=>zI hc) λ v hv=>?_;subst hv;refine aC ?_;unfold jh;rw [k1,k2,k3,k4];rfl
 refine bV ?_ ?_<;>intro k5
 ·refine bV ?_ ?_<;>intro h1
  ·refine aG (gM λ _=>Uu hc) λ v hv=>?_;subst hv;refine aC ?_;unfold jh;rw [k1,k2,k3,k4,k5];rfl
  refine aC ?_;unfold jh;rw [k1,k2,k3,k4,k5];simp at h1;simp [h1]
 refine aC ?_;unfold jh;rw [k1,k2,k3,k4,k5];rfl
theorem set_mid (a:List α) (x y:α) (z:List α):(a++x::z).set a.length y=a++y::z:=by
 rw [List.set_append_right _ _ (afg _),auQ];rfl
theorem rM (hl:l.length<=2000000):pR l (eD l):=by
 refine kY ?_;refine aG (gM λ _=>aeI hl) λ v hv=>?_;subst hv;refine bV ?_ ?_<;>intro h
 ·refine aC ?_;unfold eD;rw [h];rfl
 have hb3:(decide (16<(l.length:Int))||l.any Uo)=false:=h;have h16:l.length<=16:=by simp at hb3; omega
 have hbig:∀i:Nat,i<l.length->Uo (l.getD i aL)=false:=oF aL (by simp only [aff] at hb3; exact hb3.2);refine amY l.length (λ i=>∀j:Nat,j<i->lX (l.getD j aL) j=true) ?_ (λ j hj=>absurd hj (ahh j));intro self i hi1 hi2 ih;refine bV ?_ ?_<;>intro h2
 ·have hlt:i<l.length:=by have:=of_decide_eq_true h2; omega
  have hbl:=Qd (hbig i hlt);refine aP om ?_;refine aG (Ac (acp (c:=l.getD i aL) (k:=i) om om om)) λ v hv=>?_;subst hv;refine bV ?_ ?_<;>intro h3
  ·refine aC ?_;unfold eD;rw [hb3,Ur hlt (by simpa using h3)];rfl
  refine aP (by unfold ay; omega) (ih hlt λ j hj=>?_);by_cases hji:j=i
  ·subst hji; simpa using h3
  exact hi2 j om
 have hil:i=l.length:=by have:=of_decide_eq_false h2; omega
 subst hil;have hall:=adg hi2;refine aP ⟨om,by show (l.length:Int)*8<=140737488355328; omega⟩ ?_;refine bS (λ g:Int×Int×azp=>∃i:Nat,g=(ni (l.take i),(i:Int),iW (l.take i)++List.replicate (l.length - i) 0)∧i<=l.length∧ni (l.take i)<=4096∧∀j:Nat,j<i->(λ n=>decide (4<n)) ((iW l).getD j 0)=false) (λ g=>(l.length - g.2.1).toNat) ?_ ⟨0,rfl,om,by rw [axa]; decide,λ j hj=>absurd hj (ahh j)⟩;rintro dY g ⟨i,rfl,hj1,hj2,hj3⟩ ih2;refine bV ?_ ?_<;>intro h3
 ·have hlt:i<l.length:=by have:(i:Int)<(l.length:Int):=of_decide_eq_true h3; omega
  refine aP (by show 0<=(i:Int)∧(i:Int)<(l.length:Int); omega) ?_;obtain ⟨hfl,hb⟩:=kE (l.take i);rw [take_len hj1] at hfl hb;have hpi:=(ags hi2 hbig) i hlt;have hsn:iW (l.take (i+1))=iW (l.take i)++[Lj (iW (l.take i)) (l.getD i aL)]:=by rw [iM aL hlt,EN]
  have hpm:=Ll (iW (l.take i)) i om hb;have hrep:List.replicate (l.length - i) (0:Int)=0::List.replicate (l.length - i - 1) 0:=by
   rw [show l.length - i=(l.length - i - 1)+1 by omega];rfl
  have hcut:W (wh l (ni (l.take i),(i:Int),iW (l.take i)++List.replicate (l.length - i) 0) dY (iW (l.take i)++Lj (iW (l.take i)) (l.getD i aL)::List.replicate (l.length - i - 1) 0)) (λ r=>r=eD l):=by
   have hbl:=Qd (hbig i hlt);have hpb:=Qe (l.take i);have aze:0<=ni (l.take i)*((l.getD i aL).aO.length:Int)∧ni (l.take i)*((l.getD i aL).aO.length:Int)<=4096*8:=⟨auO hpb.1 om,ayY hj2 om om om⟩;have hpe:ni (l.take (i+1))=ni (l.take i)*((l.getD i aL).aO.length:Int):=by
    rw [iM aL hlt,Us];unfold Zd;rw [if_neg om]
   have hfi:(iW l).getD i 0=Lj (iW (l.take i)) (l.getD i aL):=by
    rw [Xr l (i+1) i om hlt,hsn,kX 0 hfl.symm]
   refine aP (by show ay (ni (l.take i)*((l.getD i aL).aO.length:Int)); unfold ay; omega) ?_;refine aP (λ _=>by simp [hfl]; omega) ?_;refine bV ?_ ?_<;>intro h5
   ·have h5:(decide (4096<ni (l.take i)*((l.getD i aL).aO.length:Int))||decide (4<(iW (l.take i)++Lj (iW (l.take i)) (l.getD i aL)::List.replicate (l.length - i - 1) 0).getD i 0))=true:=h5;rw [kX 0 hfl.symm,<- hfi,<- hpe] at h5;refine aC ?_;unfold eD;rw [hb3,hall];have:(decide (4096<ni l)||(iW l).any (λ n=>decide (4<n)))=true:=by
     rw [al4] at h5 ⊢;rcases h5 with h5 | h5
     ·left;have h5:=of_decide_eq_true h5;have hm:=aip l (λ c hc=>by
       obtain ⟨k,hk,rfl⟩:=aln.1 hc;have:=Qf (lY (hi2 k hk));rwa [adF,adH hk] at this) (i+1)
      exact decide_eq_true om
     right;exact zH (p:=λ n=>decide (4<n)) 0 (by rw [(kE l).1]; exact hlt) h5
    rw [this];rfl
   have h5:(decide (4096<ni (l.take i)*((l.getD i aL).aO.length:Int))||decide (4<(iW (l.take i)++Lj (iW (l.take i)) (l.getD i aL)::List.replicate (l.length - i - 1) 0).getD i 0))=false:=h5;rw [kX 0 hfl.symm,<- hfi,<- hpe] at h5;rw [aff] at h5;refine aP (by show ay ((i:Int)+1); unfold ay; omega) ?_;refine ih2 _ ⟨i+1,?_,hlt,by have:=of_decide_eq_false h5.1; omega,λ j hj=>?_⟩ (by show (l.length - ((i:Int)+1)).toNat<(l.length - (i:Int)).toNat; omega)
   ·rw [hsn,ays,show l.length - (i+1)=l.length - i - 1 by omega,hpe];rfl
   by_cases hji:j=i
   ·subst hji; exact h5.2
   exact hj3 j om
  refine bS (λ g:Int×azp=>∃j:Nat,g=((j:Int),iW (l.take i)++mQ (iW (l.take i)) ((l.getD i aL).aW.take j)::List.replicate (l.length - i - 1) 0)∧j<=(l.getD i aL).aW.length) (λ g=>((l.getD i aL).aW.length - g.1).toNat) ?_ ⟨0,by rw [hrep]; rfl,alh _⟩;rintro oJ g ⟨j,rfl,hj⟩ ih7;refine bV ?_ ?_<;>intro h4
  ·have hjl:j<(l.getD i aL).aW.length:=by have:(j:Int)<((l.getD i aL).aW.length:Int):=of_decide_eq_true h4; omega
   have hin:=hpi.2 ((l.getD i aL).aW.getD j 0) (jq 0 hjl);refine aP (by show 0<=(j:Int)∧(j:Int)<((l.getD i aL).aW.length:Int); omega) ?_;refine aP (by show 0<=(i:Int)∧(i:Int)<(((iW (l.take i)++mQ (iW (l.take i)) ((l.getD i aL).aW.take j)::List.replicate (l.length - i - 1) 0).length:Nat):Int); simp [hfl]; omega) ?_;refine aP (by show 0<=(l.getD i aL).aW.getD j 0∧(l.getD i aL).aW.getD j 0<(((iW (l.take i)++mQ (iW (l.take i)) ((l.getD i aL).aW.take j)::List.replicate (l.length - i - 1) 0).length:Nat):Int); rw [afa,hfl,ajO]; omega) ?_;refine aP (by show 0<=(i:Int)∧(i:Int)<(((iW (l.take i)++mQ (iW (l.take i)) ((l.getD i aL).aW.take j)::List.replicate (l.length - i - 1) 0).length:Nat):Int); simp [hfl]; omega) ?_;refine aP (by show ay ((j:Int)+1); unfold ay; have:=hpi.1; omega) ?_;refine ih7 _ ⟨j+1,?_,hjl⟩ (by show ((l.getD i aL).aW.length - ((j:Int)+1)).toNat<((l.getD i aL).aW.length - (j:Int)).toNat; omega);have e:mQ (iW (l.take i)) ((l.getD i aL).aW.take (j+1))=RS ((iW (l.take i)++mQ (iW (l.take i)) ((l.getD i aL).aW.take j)::List.replicate (l.length - i - 1) 0).getD i 0) ((iW (l.take i)++mQ (iW (l.take i)) ((l.getD i aL).aW.take j)::List.replicate (l.length - i - 1) 0).getD ((l.getD i aL).aW.getD j 0).toNat 0):=by
    rw [kX 0 hfl.symm,ko 0 om];unfold mQ;rw [wP _ _ 0 hjl]
   rw [e];have hs:=set_mid (iW (l.take i)) (mQ (iW (l.take i)) ((l.getD i aL).aW.take j)) (RS ((iW (l.take i)++mQ (iW (l.take i)) ((l.getD i aL).aW.take j)::List.replicate (l.length - i - 1) 0).getD i 0) ((iW (l.take i)++mQ (iW (l.take i)) ((l.getD i aL).aW.take j)::List.replicate (l.length - i - 1) 0).getD ((l.getD i aL).aW.getD j 0).toNat 0)) (List.replicate (l.length - i - 1) 0);rw [hfl] at hs;rw [<- hs];rfl
  have hje:j=(l.getD i aL).aW.length:=by have:¬ (j:Int)<((l.getD i aL).aW.length:Int):=of_decide_eq_false h4; omega
  subst hje;rw [alj];have hpx:=hpm (l.getD i aL).aW;refine bV ?_ ?_<;>intro h5
  ·have hlen:0<=(i:Int)∧(i:Int)<(((iW (l.take i)++mQ (iW (l.take i)) (l.getD i aL).aW::List.replicate (l.length - i - 1) 0).length:Nat):Int):=by simp [hfl]; omega
   refine aP hlen ?_;refine aP (by show ay ((iW (l.take i)++mQ (iW (l.take i)) (l.getD i aL).aW::List.replicate (l.length - i - 1) 0).getD i 0+1); rw [kX 0 hfl.symm]; unfold ay; omega) ?_;refine aP hlen ?_;have e:Lj (iW (l.take i)) (l.getD i aL)=(iW (l.take i)++mQ (iW (l.take i)) (l.getD i aL).aW::List.replicate (l.length - i - 1) 0).getD i 0+1:=by
    rw [kX 0 hfl.symm];unfold Lj Uq;rw [show ((l.getD i aL).dG==2||(l.getD i aL).dG==3)=true from h5];rfl
   have hs:=set_mid (iW (l.take i)) (mQ (iW (l.take i)) (l.getD i aL).aW) (Lj (iW (l.take i)) (l.getD i aL)) (List.replicate (l.length - i - 1) 0);rw [hfl] at hs;rw [<- hs,e] at hcut;exact hcut
  have e:Lj (iW (l.take i)) (l.getD i aL)=mQ (iW (l.take i)) (l.getD i aL).aW:=by
   unfold Lj Uq;rw [show ((l.getD i aL).dG==2||(l.getD i aL).dG==3)=false from h5];rfl
  rw [e] at hcut;exact hcut
 have hil:i=l.length:=by have:¬ (i:Int)<(l.length:Int):=of_decide_eq_false h3; omega
 subst hil;refine aC ?_;rw [alj] at hj2;unfold eD;rw [hb3,hall,decide_eq_false (show ¬ 4096<ni l by omega),any_none (p:=λ n=>decide (4<n)) 0 (by rw [(kE l).1]; exact hj3)];rfl
theorem agy {a b:Int} (ha:0<=a) (hb:0<b):jH b (a.tmod b)=jH a b:=by
 unfold jH;rw [aum ha,show (a % b).toNat=a.toNat % b.toNat from Int.toNat_emod ha om,Nat.gcd_comm a.toNat,Nat.gcd_rec b.toNat a.toNat,Nat.gcd_comm]
theorem abe {x M e:Int} (hM:0<=M) (he:0<e) (hx:0<=x) (h:x<=M.tdiv e):0<=x*e∧x*e<=M:=by
 rw [as7 hM] at h;exact ⟨auO hx om,(Int.le_ediv_iff_mul_le he).1 h⟩
theorem Xu {x y X Y:Int} (h1:0<=x) (h2:x<=X) (h3:0<=y) (h4:y<=Y):0<=y*x∧y*x<=Y*X:=
 ⟨auO h3 h1,ayY h4 h2 h1 om⟩
theorem BD {a_:Int} {b_:Int} (h1:0<=a_) (h2:0<=b_):W (sZ a_ b_) (λ r=>r=jH a_ b_):=by
 unfold sZ;refine bS (λ (g1:Int×Int)=>0<=g1.1∧0<=g1.2∧jH g1.1 g1.2=jH a_ b_) (λ (g1:Int×Int)=>g1.2.toNat) ?_ ?_
 ·intro ah g1 eU dB;obtain ⟨dZ,bW,bN⟩:=eU;unfold OV;refine wi ?_ ?_<;>intro c1
  ·refine wn<|dB _ ?_ ?_
   ·(refine ⟨ob,auj _ om,?_⟩; dsimp only; rw [<- bN]; exact agy om om)
   (dsimp only; have:=VE g1.1 g1.2 om; have:=auj (a:=g1.1) g1.2 om; omega)
  refine aC ?_;(rw [<- bN]; unfold jH; have e:g1.2=0:=c1; rw [e]; simp; omega)
 exact ob
variable {r_:bU}
theorem Ey:W (wQ r_) (λ r=>r=oD r_):=by
 unfold wQ;refine aG (gM λ hc=>kY (BD (by have hc:=eX hc; omega) (by have hc:=eX hc; omega))) λ v1 hv1=>?_;subst v1;refine aC ?_;rfl
theorem acr {qm:Int} {uG:Int} {mg:Int} (h1:0<=qm) (h2:qm<=144115188075855872) (h3:1<=uG) (h4:uG<=16777216) (h5:1<=mg) (h6:mg<=64):W (GR qm uG mg) (λ r=>r=(qm.tdiv (jH qm mg),uG*mg.tdiv (jH qm mg))):=by
 unfold GR;refine aG (BD ob ob) λ v1 hv1=>?_;subst v1;have hg:=Cz qm mg om; have q1:=tdiv_le qm _ om hg; have q2:=tdiv_le mg _ om hg; have q3:=Xu q2.1 (show mg.tdiv (jH qm mg)<=64 by omega) (show 0<=uG by omega) h4;refine wm<|wn ?_;refine aC ?_;rfl
theorem abf {yO:Int} {yP:Int} (h1:yO<=4611686018427387904) (h2:yP<=4611686018427387904):W (OW yO yP) (λ r=>r=newR yO yP):=by
 unfold OW;refine bV ?_ ?_<;>intro c1
 ·have gD:=c1;have c1:=eX c1;refine aC ?_;(unfold newR; rw [gD]; rfl)
 have gD:=c1;have c1:=eX c1;have hg:=Cz yO yP om; have q1:=tdiv_le yO _ om hg; have q2:=tdiv_le yP _ om hg;refine aG (BD ob ob) λ v1 hv1=>?_;subst v1;refine wm<|aG (Ey) λ v2 hv2=>?_;subst v2;refine bV ?_ ?_<;>intro c2
 ·have kM:=c2;have c2:=eX c2;refine aC ?_;(unfold newR; rw [gD]; simp only [cond_false]; rw [kM]; rfl)
 have kM:=c2;have c2:=eX c2;refine aC ?_;(unfold newR; rw [gD]; simp only [cond_false]; rw [kM]; rfl)
theorem acs {qo:Int} {qx:Int} {qy:Int} (h1:r_.j5=qo) (h2:r_.jD=qx) (h3:k_=qy):W (GU r_ k_ qo qx qy) (λ r=>r=CB r_ k_):=by
 subst h1 h2 h3;unfold GU;refine aG (Ey) λ v1 hv1=>?_;subst v1;refine bV ?_ ?_<;>intro c1
 ·have gD:=c1;have c1:=eX c1;refine aC ?_;(unfold CB; rw [gD]; rfl)
 have gD:=c1;have c1:=eX c1;have hv:=mD (r:=r_) (by simpa using gD);refine wi ?_ ?_<;>intro c2
 ·refine aC ?_;(unfold CB zG; rw [gD]; simp only [cond_false]; rw [show (!(decide (1<=k_)&&decide (k_<=64)))=true by simp; omega]; rfl)
 refine aG (acr ob ob ob ob ob ob) λ v2 hv2=>?_;subst v2;have hg:=Cz r_.j5 k_ om; have q1:=tdiv_le r_.j5 _ hv.1 hg; have q2:=tdiv_le k_ _ om hg; have q3:=Xu q2.1 (show k_.tdiv (jH r_.j5 k_)<=64 by omega) (show 0<=r_.jD by omega) hv.2.2.2.1;refine aG (abf ob ob) λ v3 hv3=>?_;subst v3;refine aC ?_;(unfold CB zG; rw [gD]; simp only [cond_false]; rw [show (!(decide (1<=k_)&&decide (k_<=64)))=false by simp; omega]; exact akG _ _ _ hv.1 om om)
theorem YU:W (JC r_ k_) (λ r=>r=CB r_ k_):=by
 unfold JC;refine aG (acs rfl rfl rfl) λ v1 hv1=>?_;subst v1;refine aC ?_;rfl
theorem abg {wo:Int} {oq:Int} {mO:Int} (h1:1<=wo) (h2:wo<=64) (h3:0<=oq) (h4:oq<=144115188075855872) (h5:1<=mO) (h6:mO<=16777216):W (Ea wo oq mO) (λ r=>r=(bif decide ((144115188075855872:Int).tdiv (wo.tdiv (jH wo mO))<oq) then (-1,1) else (oq*(wo.tdiv (jH wo mO)),mO.tdiv (jH wo mO)))):=by
 unfold Ea;refine aG (BD ob ob) λ v1 hv1=>?_;subst v1;have hg:=Cz wo mO om; have q1:=tdiv_le wo _ om hg; have q2:=tdiv_le mO _ om hg; have q4:=asa wo mO om om; have q5:=tdiv_le 144115188075855872 _ om (show 0<wo.tdiv (jH wo mO) by omega);refine wm<|bV ?_ ?_<;>intro c1
 ·have gD:=c1;have c1:=eX c1;refine aC ?_;(rw [gD]; rfl)
 have gD:=c1;have c1:=eX c1;have q3:=abe (x:=oq) (M:=144115188075855872) (e:=wo.tdiv (jH wo mO)) om om om c1;refine wm<|wn ?_;refine aC ?_;(rw [gD]; rfl)
theorem Xv {qo:Int} {qx:Int} {qy:Int} (h1:k_=qo) (h2:r_.j5=qx) (h3:r_.jD=qy):W (yQ r_ k_ qo qx qy) (λ r=>r=rU r_ k_):=by
 subst h1 h2 h3;unfold yQ;refine aG (Ey) λ v1 hv1=>?_;subst v1;refine bV ?_ ?_<;>intro c1
 ·have gD:=c1;have c1:=eX c1;refine aC ?_;(unfold rU; rw [gD]; rfl)
 have gD:=c1;have c1:=eX c1;have hv:=mD (r:=r_) (by simpa using gD);refine wi ?_ ?_<;>intro c2
 ·refine aC ?_;(unfold rU zG; rw [gD]; simp only [cond_false]; rw [show (!(decide (1<=k_)&&decide (k_<=64)))=true by simp; omega]; rfl)
 refine aG (abg ob ob ob ob ob ob) λ v2 hv2=>?_;subst v2;have hg:=Cz k_ r_.jD om; have q1:=tdiv_le k_ _ om hg; have q2:=tdiv_le r_.jD _ om hg; have q4:=asa k_ r_.jD om om; have q3:=Xu (show 0<=k_.tdiv (jH k_ r_.jD) by omega) q4.2 hv.1 hv.2.1; have q6:∀M:Int,M.tdiv (k_.tdiv (jH k_ r_.jD))<r_.j5∨r_.j5<=M.tdiv (k_.tdiv (jH k_ r_.jD)):=λ M=>by omega
 refine aG (abf (by cases hd:decide ((144115188075855872:Int).tdiv (k_.tdiv (jH k_ r_.jD))<r_.j5) with | true=>(simp only [cond_true]; omega) | false=>(have q7:=abe (x:=r_.j5) (M:=144115188075855872) (e:=k_.tdiv (jH k_ r_.jD)) om om om (by have:=of_decide_eq_false hd; omega); simp only [cond_false]; omega)) (by cases hd:decide ((144115188075855872:Int).tdiv (k_.tdiv (jH k_ r_.jD))<r_.j5) with | true=>(simp only [cond_true]; omega) | false=>(have q7:=abe (x:=r_.j5) (M:=144115188075855872) (e:=k_.tdiv (jH k_ r_.jD)) om om om (by have:=of_decide_eq_false hd; omega); simp only [cond_false]; omega))) λ v3 hv3=>?_;subst v3;refine aC ?_;(unfold rU zG; rw [gD]; simp only [cond_false]; rw [show (!(decide (1<=k_)&&decide (k_<=64)))=false by simp; omega]; simp only [cond_false]; cases hd:decide ((144115188075855872:Int).tdiv (k_.tdiv (jH k_ r_.jD))<r_.j5)<;>rfl)
theorem VI:W (E8 r_ k_) (λ r=>r=rU r_ k_):=by
 unfold E8;refine aG (Xv rfl rfl rfl) λ v1 hv1=>?_;subst v1;refine aC ?_;rfl
theorem BF {D9:Int} {oW:Int}:W (pU r_ D9 oW) (λ r=>r=sH r_ D9 oW):=by
 unfold pU;refine aG (Ey) λ v1 hv1=>?_;subst v1;refine bV ?_ ?_<;>intro c1
 ·have gD:=c1;have c1:=eX c1;refine aC ?_;(unfold sH; rw [show oD r_=false by simpa using gD]; rfl)
 have gD:=c1;have c1:=eX c1;have hv:=mD (r:=r_) (by simpa using gD); have q1:=tdiv_le r_.j5 r_.jD hv.1 om;refine wm<|aC ?_;(unfold sH; rw [show oD r_=true by simpa using gD]; rfl)
theorem Ke {m:azz} (h:mF l m=true):∀x∈m,Ka l.length x=false:=λ x hx=>by
 obtain ⟨_,_,h1⟩:=FQ h;obtain ⟨i,hi,rfl⟩:=aln.1 hx;have:=h1 i hi;rwa [adF,adH hi] at this
theorem rO {v:bU} {L:azA} (hL:L=rV l s i++List.replicate (l.length - i) dW) (hi:i<l.length) (e:YS (rV l s i) (l.getD i aL) (s.getD i 0)=v) {k:Nat} (hk:k=i+1:=by omega):L.set i v=rV l s k++List.replicate (l.length - k) dW:=by
 subst hk hL;have hrl:=tX l s i;have hrep:List.replicate (l.length - i) dW=dW::List.replicate (l.length - (i+1)) dW:=by
  rw [show l.length - i=(l.length - (i+1))+1 by omega];rfl
 rw [hrep,List.set_append_right _ _ om,hrl,auQ,rV,e,ays];rfl
theorem Xw {x_:aZ} {mg:azs} (h1:mg.length<=2000000):W (sW x_ mg) (λ r=>r=Ka mg.length x_):=by
 unfold sW;refine wn<|aG (Ac (kF _ _ _)) λ v1 hv1=>?_;subst v1;refine aG (gM λ hc=>kF _ _ _) λ v2 hv2=>?_;subst v2;refine aG (gM λ hc=>kF _ _ _) λ v3 hv3=>?_;subst v3;refine aC ?_;rfl
theorem AQ {s_:azz} {f_:azs} (h1:s_.length<=2000000) (h2:f_.length<=2000000):W (mo s_ f_) (λ r=>r=s_.any (Ka f_.length)):=
 Ac (J7 (Qa (p:=λ x=>sW x f_) (P:=Ka f_.length) (λ x hx=>kY (Xw h2)) om) (nV _ _))
variable {l_:azs}
theorem Qi {m_:azz} (h1:l_.length<=2000000) (h2:m_.length<=2000000):W (yM l_ m_) (λ r=>r=mF l_ m_):=by
 unfold yM;refine aG (Ac (rM ob)) λ v1 hv1=>?_;subst v1;refine aG (gM λ hc=>kY (AQ ob ob)) λ v2 hv2=>?_;subst v2;refine aC ?_;rfl
variable {s_:azp}
theorem wF (h1:l_.length<=2000000) (h2:s_.length<=2000000) (h3:acn l_):W (oh l_ s_) (λ r=>r=kH l_ s_):=by
 unfold oh;refine bV ?_ ?_<;>intro c1
 ·have gD:=c1;have c1:=eX c1;refine aC ?_;(unfold kH; rw [show ((s_.length:Int)==(l_.length:Int))=false by simpa using gD]; rfl)
 have gD:=c1;have c1:=eX c1;have he:((s_.length:Int)==(l_.length:Int))=true:=by simpa using gD
 refine bS (λ (g1:Int)=>0<=g1∧g1<=s_.length∧(∀j:Nat,(j:Int)<g1->dS (s_.getD j 0) 0 ((l_.getD j aL).aO.length - 1)=true)) (λ (g1:Int)=>(s_.length - g1).toNat) ?_ ?_
 ·intro ah g1 eU dB;obtain ⟨dZ,bW,bN⟩:=eU;unfold JB;refine wi ?_ ?_<;>intro c2
  ·have hch:=h3 g1.toNat om;refine wm<|wn ?_;refine aG (Ac (kF _ _ _)) λ v3 hv3=>?_;subst v3;refine bV ?_ ?_<;>intro c3
   ·have jZ:=c3;have c3:=eX c3;refine aC ?_;(unfold kH; rw [he,tV (i:=g1.toNat) om (by simpa using jZ)]; rfl)
   have jZ:=c3;have c3:=eX c3;refine wn<|dB _ ?_ ?_
   ·(refine ⟨ob,ob,λ j hj=>?_⟩; by_cases q:j<g1.toNat; (exact bN j om); (have e:j=g1.toNat:=by omega); subst e; simpa using jZ)
   exact ob
  refine aC ?_;(unfold kH; rw [he,vR λ j hj=>bN j om]; rfl)
 (refine ⟨ob,ob,λ j hj=>by omega⟩)
theorem Qj {jR:Int} (h1:0<=jR) (h2:jR<l_.length) (h3:jR<s_.length) (h4:abb (l_.getD jR.toNat aL) (s_.getD jR.toNat 0)):W (yN l_ s_ jR) (λ r=>r=kK (l_.getD jR.toNat aL) (s_.getD jR.toNat 0)):=by
 have hp:=h4; unfold abb at hp;unfold yN;refine wn<|bV ?_ ?_<;>intro c1
 ·have gD:=c1;have c1:=eX c1;refine aC ?_;(unfold kK; rw [gD]; rfl)
 have gD:=c1;have c1:=eX c1;refine bV ?_ ?_<;>intro c2
 ·have kM:=c2;have c2:=eX c2;refine wm<|wn ?_;refine aC ?_;(unfold kK; rw [gD,kM]; rfl)
 have kM:=c2;have c2:=eX c2;refine wn<|aC ?_;(unfold kK; rw [gD,kM]; rfl)
theorem TA (h1:Good l_ s_):W (Cg l_ s_) (λ r=>r=fU l_ s_):=by
 obtain ⟨q1,q2,q3,q4,q5⟩:=h1;unfold Cg;refine wn<|bS (λ (g1:Int×azA)=>0<=g1.1∧g1.1<=l_.length∧g1.2=rV l_ s_ g1.1.toNat++List.replicate (l_.length - g1.1.toNat) dW) (λ (g1:Int×azA)=>(l_.length - g1.1).toNat) ?_ ?_
 ·intro ah g1 eU dB;obtain ⟨dZ,bW,bN⟩:=eU;unfold OX;refine wi ?_ ?_<;>intro c1
  ·have hlt:g1.1.toNat<l_.length:=om; have hch:=q3 _ hlt; have hpar:=q5 _ hlt; have hpc:=q4 _ hlt; have hrl:=tX l_ s_ g1.1.toNat; have hgl:g1.2.length=l_.length:=(by rw [bN,afa,hrl,aqw]; omega);refine wm<|wn ?_;refine aG (Qj ob ob ob ob) λ v7 hv7=>?_;subst v7;refine bV ?_ ?_<;>intro c2
   ·have kM:=c2;have c2:=eX c2;refine wm<|dB _ ?_ ?_
    ·(refine ⟨ob,ob,?_⟩; dsimp only; exact rO bN om (by unfold YS; rw [kM]; rfl))
    exact ob
   have kM:=c2;have c2:=eX c2;have hget:g1.2.getD (kK (l_.getD g1.1.toNat aL) (s_.getD g1.1.toNat 0)).toNat dW=(rV l_ s_ g1.1.toNat).getD (kK (l_.getD g1.1.toNat aL) (s_.getD g1.1.toNat 0)).toNat dW:=by rw [bN]; exact ko _ om
   refine wn<|bV ?_ ?_<;>intro c3
   ·have jZ:=c3;have c3:=eX c3;refine wm<|dB _ ?_ ?_
    ·(refine ⟨ob,ob,?_⟩; dsimp only; exact rO bN om (by unfold YS; rw [kM,<- hget,show (pE _||_)=true from jZ]; rfl))
    exact ob
   have jZ:=c3;have c3:=eX c3;refine bV ?_ ?_<;>intro c4
   ·have uq:=c4;have c4:=eX c4;refine wn<|aG (YU) λ v8 BG=>?_;subst v8;refine wm<|dB _ ?_ ?_
    ·(refine ⟨ob,ob,?_⟩; dsimp only; exact rO bN om (by unfold YS; rw [kM,<- hget,show (pE _||_)=false from jZ,uq]; rfl))
    exact ob
   have uq:=c4;have c4:=eX c4;refine bV ?_ ?_<;>intro c5
   ·have Di:=c5;have c5:=eX c5;refine wn<|aG (VI) λ v9 Xx=>?_;subst v9;refine wm<|dB _ ?_ ?_
    ·(refine ⟨ob,ob,?_⟩; dsimp only; exact rO bN om (by unfold YS; rw [kM,<- hget,show (pE _||_)=false from jZ,uq,Di]; rfl))
    exact ob
   have Di:=c5;have c5:=eX c5;refine wm<|wn ?_;refine dB _ ?_ ?_
   ·(refine ⟨ob,ob,?_⟩; dsimp only; exact rO bN om (by unfold YS; rw [kM,<- hget,show (pE _||_)=false from jZ,uq,Di]; rfl))
   exact ob
  refine aC ?_;(rw [bN,show g1.1.toNat=l_.length by omega,auQ]; simp [fU])
 (refine ⟨ob,ob,?_⟩; simp [rV])
theorem Zg {x_:aZ} {mg:azA} (h1:0<=x_.eO) (h2:x_.eO<mg.length):W (vI x_ mg) (λ r=>r=RV mg x_):=by
 unfold vI;refine wm<|aG (gM λ hc=>kY (BF)) λ v1 hv1=>?_;subst v1;refine aC ?_;rfl
theorem xX {s_:azz} {f_:azA} (h1:s_.length<=2000000) (h2:∀x∈s_,0<=x.eO∧x.eO<f_.length):W (kI s_ f_) (λ r=>r=s_.any (RV f_)):=
 Ac (J7 (Qa (p:=λ x=>vI x f_) (P:=RV f_) (λ x hx=>kY (Zg (h2 x hx).1 (h2 x hx).2)) om) (nV _ _))
theorem acu {m_:azz} (h1:l_.length<=2000000) (h2:s_.length<=2000000) (h3:m_.length<=2000000) (h4:acn l_):W (GV l_ s_ m_) (λ r=>r=fH l_ s_ m_):=by
 unfold GV;refine aG (Qi ob ob) λ v1 hv1=>?_;subst v1;refine aG (gM λ hc=>kY (wF ob ob ob)) λ v2 hv2=>?_;subst v2;refine bV ?_ ?_<;>intro c1
 ·have gD:=c1;have c1:=eX c1;refine aC ?_;(unfold fH; rw [show (mF l_ m_&&kH l_ s_)=false from als.2 c1]; rfl)
 have gD:=c1;have c1:=eX c1;have hls:mF l_ m_=true∧kH l_ s_=true:=by simpa using gD
 obtain ⟨hck,hml,hmb⟩:=FQ hls.1;have hgd:=Rs (sI hck) hls.2;have hrl:(fU l_ s_).length=l_.length:=tX _ _ _;refine aG (TA ob) λ v3 hv3=>?_;subst v3;refine bS (λ (g1:Int)=>0<=g1∧g1<=l_.length∧(∀j:Nat,(j:Int)<g1->aiq ((fU l_ s_).getD j dW) (l_.getD j aL)=false)) (λ (g1:Int)=>(l_.length - g1).toNat) ?_ ?_
 ·intro ah g1 eU dB;obtain ⟨dZ,bW,bN⟩:=eU;unfold OY;refine wi ?_ ?_<;>intro c2
  ·refine wm<|wn ?_;refine aG (gM λ hc=>kY (BF)) λ v6 hv6=>?_;subst v6;refine bV ?_ ?_<;>intro c3
   ·have jZ:=c3;have c3:=eX c3;refine aC ?_;(unfold fH; rw [hls.1,hls.2,show ownB l_ (fU l_ s_)=false from tV (i:=g1.toNat) om (by rw [show aiq ((fU l_ s_).getD g1.toNat dW) (l_.getD g1.toNat aL)=true from jZ]; rfl)]; rfl)
   have jZ:=c3;have c3:=eX c3;refine wn<|dB _ ?_ ?_
   ·(refine ⟨ob,ob,λ j hj=>?_⟩; by_cases q:j<g1.toNat; (exact bN j om); (have e:j=g1.toNat:=by omega); subst e; exact jZ)
   exact ob
  refine aG (xX ob (λ x hx=>by rw [hrl]; exact (Qh (Ke hls.1 x hx)).1)) λ v7 hv7=>?_;subst v7;refine aC ?_;(unfold fH; rw [hls.1,hls.2,show ownB l_ (fU l_ s_)=true from vR λ j hj=>by rw [bN j om]; rfl]; rfl)
 (refine ⟨ob,ob,λ j hj=>by omega⟩)
theorem TB (h1:l_.length<=2000000) (h2:s_.length<=2000000) (h3:acn l_):W (Ci l_ s_) (λ r=>r=wZ l_ s_):=by
 unfold Ci;refine aG (Ac (rM ob)) λ v1 hv1=>?_;subst v1;refine bV ?_ ?_<;>intro c1
 ·have gD:=c1;have c1:=eX c1;refine aC ?_;(unfold wZ; rw [gD]; rfl)
 have gD:=c1;have c1:=eX c1;have hck:eD l_=0:=by simpa using gD
 refine aG (wF ob ob ob) λ v2 hv2=>?_;subst v2;refine bV ?_ ?_<;>intro c2
 ·have kM:=c2;have c2:=eX c2;refine aC ?_;(unfold wZ; rw [gD,kM]; rfl)
 have kM:=c2;have c2:=eX c2;have hgd:=Rs (sI hck) (show kH l_ s_=true by simpa using kM);refine aG (TA ob) λ v3 hv3=>?_;subst v3;refine aC ?_;(unfold wZ; rw [gD,kM]; rfl)
end Go.Proofs.YtifekdmmpbcdgaaGreatDoor

/- A part of the proof. -/
import Derived.Test.YtifekdmmpbcdgaaGreatDoorA4
import Derived.Test.YtifekdmmpbcdgaaGreatDoorA3
set_option linter.defProp false
set_option linter.unusedVariables false
set_option linter.unusedSimpArgs false
set_option maxHeartbeats 4000000
namespace Go.Ab
def uM {α:Type} (l:List α) (P:α->Bool):Int:=if l.any P then((l.findIdx P:Nat):Int)else -1
variable {α:Type}
def j7 (l:List α) (P:α->Bool):decide (0<=uM l P)=l.any P:=by
 unfold uM;cases l.any P<;>simp<;>omega
def abk {l:List α} {P:α->Bool} {d:α} {i:Nat} (hi:i<l.length) (h:P (l.getD i d)=true):l.any P=true:=by
 rw[ai7];refine⟨l[i],ai1 hi,?_⟩;rw[ad7,aeA hi]at h;exact h
def any_take_succ (l:List α) (P:α->Bool) (d:α) {i:Nat} (hi:i<l.length):(l.take (i+1)).any P=((l.take i).any P||P (l.getD i d)):=by
 rw[alV,aoQ,aeA hi,ad7,aeA hi];simp
def R5 {l:List α} {P:α->Bool} {d:α} {g:Int} (h0:0<=g) (h1:g<l.length) (hb:(l.take g.toNat).any P=false) (hp:P (l.getD g.toNat d)=true):uM l P=g:=by
 have hi:g.toNat<l.length:=by omega
 unfold uM;rw[abk hi hp,afc rfl];have:l.findIdx P=g.toNat:=by
  rw[List.findIdx_eq hi];constructor
  ·rw[ad7,aeA hi]at hp;exact hp
  intro j hj;have:=aja.1 hb (l[j]'om) (by
   rw[List.mem_take_iff_getElem]
   exact⟨j,om,rfl⟩)
  simpa using this
 omega
def DF {l:List α} {d:α} {p:α->M Bool} {P:α->Bool} (hp:∀x∈l,p x (P x)) (hl:(l.length:Int)<=9223372036854775807):W (bU (λ(self:Int->M Int) g=>bif(decide (g<(l.length:Int)))then
  need (0<=g/\g<(l.length:Int))<|
  bnd (p (l.getD g.toNat d)) λ v3=>
  bif v3 then
   ret g
  else
   need (av (g+(1:Int)))<|
   self (g+(1:Int))
 else
  ret (-1:Int)) (0:Int)) (λ r=>r=uM l P):=by
 refine bu (λ(g:Int)=>0<=g/\g<=l.length/\(l.take g.toNat).any P=false) (λ(g:Int)=>(l.length - g).toNat) ?_ ⟨om,om,by simp⟩;intro self g ⟨h0,h1,hb⟩ ih;apply br<;>intro c
 ·have c:=afj c;refine aF ⟨h0,c⟩ ?_;have hi:g.toNat<l.length:=by omega
  have hm:l.getD g.toNat d∈l:=by
   rw[ad7,aeA hi];exact ai1 hi
  refine ar (sJ (hp _ hm)) λ v hv=>?_;subst hv;apply br<;>intro c2
  ·exact ai (R5 h0 c hb c2).symm
  refine aF (by unfold av;omega) ?_;refine ih _ ⟨om,om,?_⟩ om;rw[show(g+1).toNat=g.toNat+1 by omega,any_take_succ l P d hi,hb,c2];rfl
 have c:=ahT c;refine ai ?_;unfold uM;rw[show g.toNat=l.length by omega,agt]at hb;rw[hb];rfl
def abl {l:List α} {d:α} {P:α->Bool} (hl:(l.length:Int)<=9223372036854775807):W (bU (λ(self:Int->M Int) g=>bif(decide (g<(l.length:Int)))then
  need (0<=g/\g<(l.length:Int))<|
  bif(P (l.getD g.toNat d))then
   ret g
  else
   need (av (g+(1:Int)))<|
   self (g+(1:Int))
 else
  ret (-1:Int)) (0:Int)) (λ r=>r=uM l P):=by
 refine bu (λ(g:Int)=>0<=g/\g<=l.length/\(l.take g.toNat).any P=false) (λ(g:Int)=>(l.length - g).toNat) ?_ ⟨om,om,by simp⟩;intro self g ⟨h0,h1,hb⟩ ih;apply br<;>intro c
 ·have c:=afj c;refine aF ⟨h0,c⟩ ?_;have hi:g.toNat<l.length:=by omega
  apply br<;>intro c2
  ·exact ai (R5 h0 c hb c2).symm
  refine aF (by unfold av;omega) ?_;refine ih _ ⟨om,om,?_⟩ om;rw[show(g+1).toNat=g.toNat+1 by omega,any_take_succ l P d hi,hb,c2];rfl
 have c:=ahT c;refine ai ?_;unfold uM;rw[show g.toNat=l.length by omega,agt]at hb;rw[hb];rfl
def A2 {m:M Int} {v:Int} {b:Bool} (h:W m (λ r=>r=v)) (hb:decide (0<=v)=b):bnd m (λ v1=>ret (decide ((0:Int)<=v1))) b:=by
 refine iU (ar h λ v1 h1=>ai ?_);subst h1;exact hb
def dT {A:Type} [Inhabited A] {c:Prop} {d:Decidable c} {m:M A} {v:A} (h:c->m v):W (grd c m) (λ r=>r=v):=⟨v,h,rfl⟩
def abm {R:Type} {F:(Int->M R)->Int->M R} {Q:R->Prop} (n:Nat) (inv:Nat->Prop) (h:∀(self:Int->M R) (i:Nat),i<=n->inv i->(i<n->inv (i+1)->W (self ((i:Int)+1)) Q)->W (F self (i:Int)) Q) (h0:inv 0):W (bU F (0:Int)) Q:=by
 refine bu (λ(g:Int)=>∃i:Nat,g=i/\i<=n/\inv i) (λ(g:Int)=>(n - g).toNat) ?_ ⟨0,rfl,ahU _,h0⟩;rintro self g ⟨i,rfl,hi,hv⟩ ih;refine h self i hi hv λ h1 h2=>?_;exact ih _ ⟨i+1,by simp,h1,h2⟩ om
def afo {σ R:Type} {len:Nat} {B:Nat->(σ->M R)->σ->M R} {fin:σ->M R} {Q:R->Prop} (inv:Nat->σ->Prop) (h:∀(k:Nat) (self:σ->M R) (s:σ),k<len->inv k s->(∀s',inv (k+1) s'->W (self s') Q)->W (B k self s) Q) (hf:∀s,inv len s->W (fin s) Q) {s:σ} (h0:inv 0 s):W (RW len B fin len s) Q:=by
 have key:∀j s,j<=len->inv (len - j) s->W (RW len B fin j s) Q:=by
  intro j;induction j with
  | zero=>intro s _ hi;exact hf s hi
  | succ j ih=>
   intro s hj hi;refine h (len - (j+1)) _ s om hi λ s' hs=>ih s' om ?_;rwa [show len - (j+1)+1=len - j by omega]at hs
 exact key len s (afM _) (by rw[aow];exact h0)
variable {p: Prop}
def cG {q: Prop} (h : p) (e : p = q := by(try simp only[aeP, aiG, aiI, afr, ahQ, aie, ahA, ahS, ajZ, bne_iff_ne, ne_eq, ajP, alW, anG, Int.not_le, aj4, aos]);try rfl) : q := e ▸ h
def ob (h : p := by
  intros;(try dsimp only);first
  | omega
  | (unfold av;omega)
  | assumption
  | trivial
  | (simp only[av, big, dO, afs, ajY, aeU, ahP, ajE, afx, aj9, ahW, ao0];omega)
  | (simp only[av, big, afs, ajY, aeU, ahP, ajE, afx, aj9]at *;omega)
  | (rw[anT (by omega)];(try simp only[ahP, ajE]);omega)
  | (repeat' apply And.intro) <;> first
    | omega
    | (unfold av;omega)
    | assumption
    | trivial
    | (simp only[av, big, dO, afs, ajY, aeU, ahP, ajE, afx, aj9, ahW, ao0];omega)
    | (simp only[av, big, afs, ajY, aeU, ahP, ajE, afx, aj9]at *;omega)
    | (rw[anT (by omega)];(try simp only[ahP, ajE]);omega)
    | ((simp only[List.forall_mem_append, List.forall_mem_singleton, apo, ao7, false_implies, implies_true, and_true]);done)
    | ((simp only[List.forall_mem_append, List.forall_mem_singleton, apo, ao7, false_implies, implies_true, and_true]);(repeat' apply And.intro) <;> first | omega | assumption | trivial | (simp only[av, big, afs, ajY, aeU, ahP, ajE, afx, aj9]at *;omega))
    | (simp_all;done)
    | (simp_all;omega)) : p := h
def wi {R : Type} {b : Bool} {q: Prop} {x y : M R} {Q : R -> Prop} (h1 : p -> W x Q) (h2 : q -> W y Q) (e1 : (b = true) = p := by(try simp only[aeP, aiG, aiI, afr, ahQ, aie, ahA, ahS, ajZ, bne_iff_ne, ne_eq, ajP, alW, anG, Int.not_le, aj4, aos]);try rfl) (e2 : (b = false) = q := by(try simp only[aeP, aiG, aiI, afr, ahQ, aie, ahA, ahS, ajZ, bne_iff_ne, ne_eq, ajP, alW, anG, Int.not_le, aj4, aos]);try rfl) : W (cond b x y) Q := br (λ c => h1 (e1 ▸ c)) (λ c => h2 (e2 ▸ c))
def wn {R : Type} {d : Decidable p} {m : M R} {Q : R -> Prop} (h : W m Q) (hp : p := by exact ob) : W (need p m) Q := aF hp h
def wm {R : Type} {p': Prop} {d : Decidable p} {d' : Decidable p'} {m : M R} {Q : R -> Prop} (h : W m Q) (hp : p := by exact ob) (hp' : p' := by exact ob) : W (need p (need p' m)) Q := aF hp (aF hp' h)
def aqo {p:Prop} (h:p:=by refine⟨ob,λ j hj=>by(try dsimp only at hj);omega⟩):p:=h
end Go.Ab
namespace Go.Proofs.YtifekdmmpbcdgaaGreatDoor
open Go.Ab
set_option maxRecDepth 100000
def JP (x n:Int) (h:0<n) : -n<x.tmod n/\x.tmod n<n:=by
 have h1:=Int.natAbs_tmod x n;have h2:=anZ x.natAbs (show 0<n.natAbs by omega);omega
def Ur:∀(k i:Nat) (g:Nat->AV) (s:ByteArray),(BJ k i g s).size=s.size+k:=by
 intro k;induction k with
 | zero=>intro i g s;rfl
 | succ k ih=>intro i g s;unfold BJ;rw[ih,ByteArray.size_push];omega
def WA (l:apU):(strOf l).size=l.length:=by
 unfold strOf;rw[Ur];simp
variable {α:Type} {i:Nat}
def R6 {P:α->Prop} {l:List α} {y:α} (h:∀x∈l,P x) (hy:P y):∀x∈l.set i y,P x:=λ x hx=>by
 rcases List.mem_or_eq_of_mem_set hx with e | e
 ·exact h x e
 subst e;exact hy
structure Y2 (b:aI):Prop where
 ncl:b.bj.length<=5
 cl:∀c∈b.bj,c.aN.length<=2/\c.aE.length<=3
 nsu:b.aX.length<=3
 su:∀c∈b.aX,c.bC.length<=3
 ngr:b.aM.ax.length<=5
 gr:∀c∈b.aM.ax,c.bH.length<=10/\c.aj.length<=2
 nre:b.bc.length<=4
 re:∀c∈b.bc,c.cS.length<=100
 ndo:b.bw.length<=4
def getD_in {l:List α} (d:α) (h:i<l.length):l.getD i d∈l:=by
 rw[ad7,aeA h];exact ai1 h
def Us {x_:Int} {n_:Int} (h1:n_<=2000000):W (GP x_ n_) (λ r=>0<=r/\(0<n_->r<n_)/\(n_<1->r=0)):=by
 unfold GP;refine wi ?_ ?_<;>intro c1
 ·exact ai<|ob
 refine wn<|aF (by(have:=JP x_ n_ om;unfold av;omega)) ?_;refine wn<|ai ?_;(have h:=JP x_ n_ om;have h2:=JP (x_.tmod n_+n_) n_ om;have h3:=anR (a:=x_.tmod n_+n_) n_ om;omega)
variable {bI:bX}
def bJ {n_:Int} (h1:n_<=2000000) (h2:0<=bI.At) (h3:bI.L.length<=600):W (cE n_ bI) (λ r=>0<=r.1/\(0<n_->r.1<n_)/\(n_<1->r.1=0)/\0<=r.2.At/\r.2.L.length<=600):=by
 unfold cE;refine wi ?_ ?_<;>intro c1
 ·exact ai<|ob
 refine wm<|wn ?_;refine ar (Us ob) λ v1 hv1=>?_;obtain⟨s9,rT,A3⟩:=hv1;exact ai<|ob
def j8 {qI:Int} {sH:Int} (h1 : -2000000<=qI) (h2:sH<=100000) (h3:qI<=sH+1) (h4:sH - qI<=100000) (h5:0<=bI.At) (h6:bI.L.length<=600):W (gA qI sH bI) (λ r=>qI<=r.1/\(qI<=sH->r.1<=sH)/\(sH<qI->r.1=qI)/\0<=r.2.At/\r.2.L.length<=600):=by
 unfold gA;refine wm<|ar (bJ ob ob ob) λ v1 hv1=>?_;obtain⟨s9,rT,A3,DG,FD⟩:=hv1;refine wn<|ai ?_;exact ob
def dA {l_:apU} (h1:0<l_.length) (h2:l_.length<=1000) (h3:0<=bI.At) (h4:bI.L.length<=600):W (dX l_ bI) (λ r=>(∃i:Nat,i<l_.length/\r.1=l_.getD i 0)/\0<=r.2.At/\r.2.L.length<=600):=by
 unfold dX;refine ar (bJ ob ob ob) λ v1 hv1=>?_;obtain⟨s9,rT,A3,DG,FD⟩:=hv1;refine wn<|ai ?_;(exact⟨⟨v1.1.toNat,om,rfl⟩,ob⟩)
def K9 {l_:ap6} (h1:0<l_.length) (h2:l_.length<=1000) (h3:0<=bI.At) (h4:bI.L.length<=600):W (rM l_ bI) (λ r=>(∃i:Nat,i<l_.length/\r.1=l_.getD i ByteArray.empty)/\0<=r.2.At/\r.2.L.length<=600):=by
 unfold rM;refine ar (bJ ob ob ob) λ v1 hv1=>?_;obtain⟨s9,rT,A3,DG,FD⟩:=hv1;refine wn<|ai ?_;(exact⟨⟨v1.1.toNat,om,rfl⟩,ob⟩)
def iu:W (lq) (λ r=>r=[({ data:=#[117,97,114,116] }:ByteArray),({ data:=#[115,112,105] }:ByteArray),({ data:=#[105,50,99] }:ByteArray),({ data:=#[112,119,109] }:ByteArray)]):=by
 unfold lq;refine ai ?_;rfl
variable {k_:Int}
def La {n_:Int} (h1:0<=n_) (h2:n_<=1000) (h3:1<=k_) (h4:k_<=100) (h5:0<=bI.At) (h6:bI.L.length<=600):W (iI n_ k_ bI) (λ r=>r.1.length<=n_.toNat/\(∀p∈r.1,0<=p/\p<n_)/\0<=r.2.At/\r.2.L.length<=600):=by
 unfold iI;refine bu (λ(g1:Int×apU×Int×apU)=>0<=g1.1/\g1.1<=n_/\0<=g1.2.2.1/\g1.2.1.length<=600/\(g1.2.2.2.length:Int)<=g1.1/\(∀p∈g1.2.2.2,0<=p/\p<n_)) (λ(g1:Int×apU×Int×apU)=>(n_ - g1.1).toNat) ?_ ?_
 ·intro ab g1 cN bQ;obtain⟨cz,bB,bA,fY,ta,DH⟩:=cN;unfold rK;refine wi ?_ ?_<;>intro c1
  ·refine ar (bJ ob ob ob) λ v3 hv3=>?_;obtain⟨OP,QY,QZ,abn,aiP⟩:=hv3;refine wn<|wi ?_ ?_<;>intro c2
   ·refine wm<|bQ _ ?_ ?_
    ·exact ob
    exact ob
   refine wn<|bQ _ ?_ ?_
   ·exact ob
   exact ob
  exact ai<|ob
 exact ob
def IF {fp:Int} (h1:0<=fp) (h2:fp<=100) (h3:0<=bI.At) (h4:bI.L.length<=600):W (nW fp bI) (λ r=>r.1.length<=fp.toNat/\(∀x∈r.1,x.cS.length<=100)/\0<=r.2.At/\r.2.L.length<=600):=by
 unfold nW;refine wn<|ar (bJ ob ob ob) λ v1 hv1=>?_;obtain⟨s9,rT,A3,DG,FD⟩:=hv1;refine bu (λ(g1:Int×apU×Int×ap7)=>0<=g1.1/\0<=g1.2.2.1/\g1.2.1.length<=600/\(g1.2.2.2.length:Int)+g1.1<=fp/\(∀x∈g1.2.2.2,x.cS.length<=100)) (λ(g1:Int×apU×Int×ap7)=>g1.1.toNat) ?_ ?_
 ·intro ab g1 cN bQ;obtain⟨cz,bB,bA,fY,ta⟩:=cN;unfold vJ;refine wi ?_ ?_<;>intro c1
  ·refine ar (La ob ob ob ob ob ob) λ v4 hv4=>?_;obtain⟨abo,abp,afp,aiQ⟩:=hv4;refine wm<|bQ _ ?_ ?_
   ·exact ob
   exact ob
  exact ai<|ob
 exact ob
def G9 {fp:Int} (h1:0<=fp) (h2:fp<=50) (h3:0<=bI.At) (h4:bI.L.length<=600):W (mJ fp bI) (λ r=>r.1.length<=fp.toNat/\0<=r.2.At/\r.2.L.length<=600):=by
 unfold mJ;refine wn<|ar (bJ ob ob ob) λ v1 hv1=>?_;obtain⟨s9,rT,A3,DG,FD⟩:=hv1;refine bu (λ(g1:Int×apU×Int×ap8)=>0<=g1.1/\0<=g1.2.2.1/\g1.2.1.length<=600/\(g1.2.2.2.length:Int)+g1.1<=fp) (λ(g1:Int×apU×Int×ap8)=>g1.1.toNat) ?_ ?_
 ·intro ab g1 cN bQ;obtain⟨cz,bB,bA,fY⟩:=cN;unfold uC;refine wi ?_ ?_<;>intro c1
  ·refine wn<|ar (j8 ob ob ob ob ob ob) λ v6 hv6=>?_;obtain⟨an2,an3,an4,an5,an6⟩:=hv6;refine ar (bJ ob ob ob) λ v7 hv7=>?_;obtain⟨afq,aiR,aiS,an7,an8⟩:=hv7;refine wm<|bQ _ ?_ ?_
   ·exact ob
   exact ob
  exact ai<|ob
 exact ob
def IG (h1:0<=bI.At) (h2:bI.L.length<=600):W (nU bI) (λ r=>r.1.length<=5/\(∀c∈r.1,c.aN.length<=2/\c.aE.length<=3)/\0<=r.2.At/\r.2.L.length<=600):=by
 unfold nU;refine ar (bJ ob ob ob) λ v1 hv1=>?_;obtain⟨s9,rT,A3,DG,FD⟩:=hv1;refine bu (λ(g1:Int×apU×Int×apY)=>0<=g1.1/\0<=g1.2.2.1/\g1.2.1.length<=600/\(g1.2.2.2.length:Int)+g1.1<=5/\(∀c∈g1.2.2.2,c.aN.length<=2/\c.aE.length<=3)) (λ(g1:Int×apU×Int×apY)=>g1.1.toNat) ?_ ?_
 ·intro ab g1 cN bQ;obtain⟨cz,bB,bA,fY,ta⟩:=cN;unfold vG;refine wi ?_ ?_<;>intro c1
  ·refine ar (dA ob ob ob ob) λ v28 hv28=>?_;obtain⟨akS,akT,akU⟩:=hv28;refine wi ?_ ?_<;>intro c2
   ·refine ar (bJ ob ob ob) λ v41 akV=>?_;obtain⟨akW,akX,akY,akZ,ak0⟩:=akV;refine wi ?_ ?_<;>intro c3
    ·refine ar (bJ ob ob ob) λ v42 ak1=>?_;obtain⟨ak2,ak3,ak4,ak5,ak6⟩:=ak1;refine ar (bJ ob ob ob) λ v49 WB=>?_;obtain⟨abq,abr,abt,abu,abv⟩:=WB;refine wi ?_ ?_<;>intro c4
     ·refine ar (dA ob ob ob ob) λ v50 R7=>?_;obtain⟨ak7,ak8,ak9⟩:=R7;unfold dH;refine ar (bJ ob ob ob) λ v47 R8=>?_;obtain⟨R9,Sa,Sb,Sc,Sd⟩:=R8;refine wi ?_ ?_<;>intro c5
      ·refine ar (dA ob ob ob ob) λ v48 OQ=>?_;obtain⟨Se,Sg,Sh⟩:=OQ;unfold cP;refine wm<|bQ _ ?_ ?_
       ·exact ob
       exact ob
      unfold cP;refine wm<|bQ _ ?_ ?_
      ·exact ob
      exact ob
     refine wi ?_ ?_<;>intro c6
     ·refine ar (dA ob ob ob ob) λ v51 agC=>?_;obtain⟨ala,alb,alc⟩:=agC;unfold dH;refine ar (bJ ob ob ob) λ v47 R8=>?_;obtain⟨R9,Sa,Sb,Sc,Sd⟩:=R8;refine wi ?_ ?_<;>intro c7
      ·refine ar (dA ob ob ob ob) λ v48 OQ=>?_;obtain⟨Se,Sg,Sh⟩:=OQ;unfold cP;refine wm<|bQ _ ?_ ?_
       ·exact ob
       exact ob
      unfold cP;refine wm<|bQ _ ?_ ?_
      ·exact ob
      exact ob
     refine wi ?_ ?_<;>intro c8
     ·unfold dH;refine ar (bJ ob ob ob) λ v47 R8=>?_;obtain⟨R9,Sa,Sb,Sc,Sd⟩:=R8;refine wi ?_ ?_<;>intro c9
      ·refine ar (dA ob ob ob ob) λ v48 OQ=>?_;obtain⟨Se,Sg,Sh⟩:=OQ;unfold cP;refine wm<|bQ _ ?_ ?_
       ·exact ob
       exact ob
      unfold cP;refine wm<|bQ _ ?_ ?_
      ·exact ob
      exact ob
     refine wi ?_ ?_<;>intro c10
     ·refine wn<|ar (bJ ob ob ob) λ v52 ald=>?_;obtain⟨ale,alf,alg,alh,ali⟩:=ald;refine wn ?_;unfold dH;refine ar (bJ ob ob ob) λ v47 R8=>?_;obtain⟨R9,Sa,Sb,Sc,Sd⟩:=R8;refine wi ?_ ?_<;>intro c11
      ·refine ar (dA ob ob ob ob) λ v48 OQ=>?_;obtain⟨Se,Sg,Sh⟩:=OQ;unfold cP;refine wm<|bQ _ ?_ ?_
       ·exact ob
       exact ob
      unfold cP;refine wm<|bQ _ ?_ ?_
      ·exact ob
      exact ob
     unfold dH;refine ar (bJ ob ob ob) λ v47 R8=>?_;obtain⟨R9,Sa,Sb,Sc,Sd⟩:=R8;refine wi ?_ ?_<;>intro c12
     ·refine ar (dA ob ob ob ob) λ v48 OQ=>?_;obtain⟨Se,Sg,Sh⟩:=OQ;unfold cP;refine wm<|bQ _ ?_ ?_
      ·exact ob
      exact ob
     unfold cP;refine wm<|bQ _ ?_ ?_
     ·exact ob
     exact ob
    unfold cP;refine wm<|bQ _ ?_ ?_
    ·exact ob
    exact ob
   refine wn ?_;unfold cP;refine wm<|bQ _ ?_ ?_
   ·exact ob
   exact ob
  exact ai<|ob
 exact ob
def FE (h1:0<=bI.At) (h2:bI.L.length<=600):W (lO bI) (λ r=>r.1.length<=3/\(∀c∈r.1,c.bC.length<=3)/\0<=r.2.At/\r.2.L.length<=600):=by
 unfold lO;refine ar (bJ ob ob ob) λ v1 hv1=>?_;obtain⟨s9,rT,A3,DG,FD⟩:=hv1;refine bu (λ(g1:Int×apU×Int×ap1)=>0<=g1.1/\0<=g1.2.2.1/\g1.2.1.length<=600/\(g1.2.2.2.length:Int)+g1.1<=3/\(∀c∈g1.2.2.2,c.bC.length<=3)) (λ(g1:Int×apU×Int×ap1)=>g1.1.toNat) ?_ ?_
 ·intro ab g1 cN bQ;obtain⟨cz,bB,bA,fY,ta⟩:=cN;unfold sX;refine wi ?_ ?_<;>intro c1
  ·refine wn<|ar (j8 ob ob ob ob ob ob) λ v12 Lb=>?_;obtain⟨alj,alk,alm,aln,alo⟩:=Lb;refine ar (dA ob ob ob ob) λ v13 D1=>?_;obtain⟨alp,alq,alr⟩:=D1;refine ar (dA ob ob ob ob) λ v14 JQ=>?_;obtain⟨als,alu,alv⟩:=JQ;refine ar (bJ ob ob ob) λ v15 MS=>?_;obtain⟨alx,aly,alz,alA,alB⟩:=MS;refine wi ?_ ?_<;>intro c2
   ·unfold gM;refine ar (bJ ob ob ob) λ v16 Si=>?_;obtain⟨agD,agE,agF,agG,agH⟩:=Si;refine wn<|wi ?_ ?_<;>intro c3
    ·refine wm<|bQ _ ?_ ?_
     ·exact ob
     exact ob
    refine wi ?_ ?_<;>intro c4
    ·refine wm<|bQ _ ?_ ?_
     ·exact ob
     exact ob
    refine wi ?_ ?_<;>intro c5
    ·refine wm<|bQ _ ?_ ?_
     ·exact ob
     exact ob
    refine wi ?_ ?_<;>intro c6
    ·refine wm<|bQ _ ?_ ?_
     ·exact ob
     exact ob
    refine wm<|bQ _ ?_ ?_
    ·exact ob
    exact ob
   unfold gM;refine ar (bJ ob ob ob) λ v16 Si=>?_;obtain⟨agD,agE,agF,agG,agH⟩:=Si;refine wn<|wi ?_ ?_<;>intro c7
   ·refine wm<|bQ _ ?_ ?_
    ·exact ob
    exact ob
   refine wi ?_ ?_<;>intro c8
   ·refine wm<|bQ _ ?_ ?_
    ·exact ob
    exact ob
   refine wi ?_ ?_<;>intro c9
   ·refine wm<|bQ _ ?_ ?_
    ·exact ob
    exact ob
   refine wi ?_ ?_<;>intro c10
   ·refine wm<|bQ _ ?_ ?_
    ·exact ob
    exact ob
   refine wm<|bQ _ ?_ ?_
   ·exact ob
   exact ob
  exact ai<|ob
 exact ob
def II (h1:0<=bI.At) (h2:bI.L.length<=600):W (nV bI) (λ r=>r.1.ax.length<=5/\(∀c∈r.1.ax,c.bH.length<=10/\c.aj.length<=2)/\0<=r.2.At/\r.2.L.length<=600):=by
 unfold nV;refine ar (j8 ob ob ob ob ob ob) λ v1 hv1=>?_;obtain⟨s9,rT,A3,DG,FD⟩:=hv1;refine ar (bJ ob ob ob) λ v2 hv2=>?_;obtain⟨OR,OS,Q0,XO,abw⟩:=hv2;refine bu (λ(g1:Int×apU×Int×aqi)=>0<=g1.1/\0<=g1.2.2.1/\g1.2.1.length<=600/\(g1.2.2.2.length:Int)+g1.1<=5/\(∀c∈g1.2.2.2,c.bH.length<=10/\c.aj.length<=2)) (λ(g1:Int×apU×Int×aqi)=>g1.1.toNat) ?_ ?_
 ·intro ab g1 cN bQ;obtain⟨cz,bB,bA,fY,ta⟩:=cN;unfold vI;refine wi ?_ ?_<;>intro c1
  ·refine wn<|aF (by(rw[WA,show({ data:=#[103] }:ByteArray).size=1 from rfl];simp only[ahP,ajE];omega)) ?_;refine ar (bJ ob ob ob) λ v35 agI=>?_;obtain⟨alC,alD,alE,alF,alG⟩:=agI;refine bu (λ(g12:Int×apU×Int×apU)=>0<=g12.1/\0<=g12.2.2.1/\g12.2.1.length<=600/\(g12.2.2.2.length:Int)<=g12.1/\g12.1<=10) (λ(g12:Int×apU×Int×apU)=>(10 - g12.1).toNat) ?_ ?_
   ·intro Ww g12 aiT aiU;obtain⟨alH,alI,alJ,alK,alL⟩:=aiT;unfold vH;refine wi ?_ ?_<;>intro c2
    ·refine ar (j8 ob ob ob ob ob ob) λ v38 hv38=>?_;obtain⟨alM,alN,alO,alP,alQ⟩:=hv38;refine wn<|wi ?_ ?_<;>intro c3
     ·refine wm<|aiU _ ?_ ?_
      ·exact ob
      exact ob
     refine wi ?_ ?_<;>intro c4
     ·unfold iH;refine ar (bJ ob ob ob) λ v39 hv39=>?_;obtain⟨agJ,agK,agL,agM,agN⟩:=hv39;refine ar (iu) λ v40 abx=>?_;subst abx;refine wn<|ar (bJ ob ob ob) λ v43 aby=>?_;obtain⟨agO,agP,agQ,agR,agS⟩:=aby;refine wi ?_ ?_<;>intro c5
      ·refine ar (iu) λ v44 abz=>?_;subst abz;refine wm<|wm ?_;unfold fi;refine wm<|bQ _ ?_ ?_
       ·exact ob
       exact ob
      unfold fi;refine wm<|bQ _ ?_ ?_
      ·exact ob
      exact ob
     unfold iH;refine ar (bJ ob ob ob) λ v39 hv39=>?_;obtain⟨agJ,agK,agL,agM,agN⟩:=hv39;refine ar (iu) λ v40 abx=>?_;subst abx;refine wn<|ar (bJ ob ob ob) λ v43 aby=>?_;obtain⟨agO,agP,agQ,agR,agS⟩:=aby;refine wi ?_ ?_<;>intro c6
     ·refine ar (iu) λ v44 abz=>?_;subst abz;refine wm<|wm ?_;unfold fi;refine wm<|bQ _ ?_ ?_
      ·exact ob
      exact ob
     unfold fi;refine wm<|bQ _ ?_ ?_
     ·exact ob
     exact ob
    refine wn<|wi ?_ ?_<;>intro c7
    ·unfold gm;refine ar (bJ ob ob ob) λ v45 abA=>?_;obtain⟨agT,agU,agV,agW,agX⟩:=abA;refine ar (iu) λ v46 WC=>?_;subst WC;refine wn<|ar (bJ ob ob ob) λ v49 WB=>?_;obtain⟨abq,abr,abt,abu,abv⟩:=WB;refine wi ?_ ?_<;>intro c8
     ·refine ar (iu) λ v50 R7=>?_;subst R7;refine wm<|wm ?_;unfold eR;refine wm<|bQ _ ?_ ?_
      ·exact ob
      exact ob
     unfold eR;refine wm<|bQ _ ?_ ?_
     ·exact ob
     exact ob
    unfold gm;refine ar (bJ ob ob ob) λ v45 abA=>?_;obtain⟨agT,agU,agV,agW,agX⟩:=abA;refine ar (iu) λ v46 WC=>?_;subst WC;refine wn<|ar (bJ ob ob ob) λ v49 WB=>?_;obtain⟨abq,abr,abt,abu,abv⟩:=WB;refine wi ?_ ?_<;>intro c9
    ·refine ar (iu) λ v50 R7=>?_;subst R7;refine wm<|wm ?_;unfold eR;refine wm<|bQ _ ?_ ?_
     ·exact ob
     exact ob
    unfold eR;refine wm<|bQ _ ?_ ?_
    ·exact ob
    exact ob
   exact ob
  exact ai<|ob
 exact ob
def JR (h1:0<=bI.At) (h2:bI.L.length<=600):W (pq bI) (λ r=>Y2 r.1/\0<=r.2.At/\r.2.L.length<=600):=by
 unfold pq;refine ar (IG ob ob) λ v1 hv1=>?_;obtain⟨s9,rT,A3,DG⟩:=hv1;refine ar (FE ob ob) λ v2 hv2=>?_;obtain⟨OR,OS,Q0,XO⟩:=hv2;refine ar (II ob ob) λ v3 hv3=>?_;obtain⟨OP,QY,QZ,abn⟩:=hv3;refine ar (IF ob ob ob ob) λ v4 hv4=>?_;obtain⟨abo,abp,afp,aiQ⟩:=hv4;refine ar (G9 ob ob ob ob) λ v5 hv5=>?_;obtain⟨an9,aoa,aob⟩:=hv5;refine ai ?_;(refine⟨⟨ob,rT,ob,OS,ob,QY,ob,abp,ob⟩,ob,ob⟩)
deriving instance DecidableEq for au,bx,aP
def cn (n lo hi:Int):Bool:=decide (lo<=n)&&decide (n<=hi)
def rU (lo hi:Int):apU->apU->Bool
 | _,[]=>true
 | pre,n::r=>bif !(cn n lo hi)||pre.contains n then false else rU lo hi (pre++[n]) r
variable {lo:Int} {hi:Int}
def NP {n:Int} {pre r:apU} (h:(!(cn n lo hi)||pre.contains n)=true):rU lo hi pre (n::r)=false:=by rw[rU,h];rfl
def Sj {n:Int} {pre r:apU} (h:(!(cn n lo hi)||pre.contains n)=false):rU lo hi pre (n::r)=rU lo hi (pre++[n]) r:=by rw[rU,h];rfl
def fB (a b:Int):Int:=(Nat.gcd a.toNat b.toNat:Nat)
def kp (r:bx):Bool:=decide (0<=r.ga)&&decide (r.ga<=144115188075855872)&&decide (1<=r.fx)&&decide (r.fx<=16777216)&&(fB r.ga r.fx==1)
def newR (num den:Int):bx×Int:=bif decide (num<0)||decide (den<1)then(⟨0,0⟩,2)else
 bif !kp ⟨num.tdiv (fB num den),den.tdiv (fB num den)⟩then(⟨0,0⟩,2)else(⟨num.tdiv (fB num den),den.tdiv (fB num den)⟩,0)
def uN (a b:Int) (h:0<b):0<fB a b:=by
 unfold fB;have:0<b.toNat:=by omega
 have:=anH a.toNat this;omega
def tdiv_le (a k:Int) (ha:0<=a) (hk:0<k):0<=a.tdiv k/\a.tdiv k<=a:=by
 rw[al4 ha];exact⟨Int.ediv_nonneg ha om,Int.ediv_le_self _ ha⟩
def rV (k:Int):Bool:=decide (1<=k)&&decide (k<=64)
def mC (r:bx) (k:Int):bx×Int:=bif !kp r then(⟨0,0⟩,1)else bif !rV k then(⟨0,0⟩,2)else
 bif decide ((144115188075855872:Int).tdiv (k.tdiv (fB k r.fx))<r.ga)then(⟨0,0⟩,2)else newR (r.ga*(k.tdiv (fB k r.fx))) (r.fx.tdiv (fB k r.fx))
def uO (r:bx) (k:Int):bx×Int:=bif !kp r then(⟨0,0⟩,1)else bif !rV k then(⟨0,0⟩,2)else newR r.ga (r.fx*k)
def jd {r:bx} (h:kp r=true):0<=r.ga/\r.ga<=144115188075855872/\1<=r.fx/\r.fx<=16777216/\fB r.ga r.fx=1:=by
 unfold kp at h;simp at h;omega
def agY (k d:Int) (hk:1<=k/\k<=64) (hd:1<=d):1<=k.tdiv (fB k d)/\k.tdiv (fB k d)<=64:=by
 have hg:=uN k d om;have h1:=tdiv_le k (fB k d) om hg;have hdvd:Nat.gcd k.toNat d.toNat∣k.toNat:=anN _ _;have h2:0<k.toNat / Nat.gcd k.toNat d.toNat:=ao3 (aoD om hdvd) (by unfold fB at hg;omega);have h3:k.tdiv (fB k d)=((k.toNat / Nat.gcd k.toNat d.toNat:Nat):Int):=by
  unfold fB;rw[al4 om];have:k=(k.toNat:Int):=by omega
  rw[Int.natCast_ediv,<- this]
 omega
def Y3 (a b:Int) (ha:0<=a) (hb:1<=b) (h:a<=(144115188075855872:Int).tdiv b):0<=a*b/\a*b<=144115188075855872:=by
 rw[al4 (by decide)]at h;have:=(Int.le_ediv_iff_mul_le om).1 h;exact⟨aoc ha om,this⟩
def JS (c a b:Nat) (hc:0<c) (hb:0<b):newR (c*a:Nat) (c*b:Nat)=newR a b:=by
 have hcb:0<c*b:=apB hc hb;have g0:0<Nat.gcd a b:=anH a hb;have e1:fB (c*a:Nat) (c*b:Nat)=((c*Nat.gcd a b:Nat):Int):=by
  unfold fB;rw[ahO,ahO,Nat.gcd_mul_left]
 have e2:fB (a:Nat) (b:Nat)=(Nat.gcd a b:Nat):=by
  unfold fB;rw[ahO,ahO]
 have d:∀x:Nat,((c*x:Nat):Int).tdiv ((c*Nat.gcd a b:Nat):Int)=(x:Int).tdiv (Nat.gcd a b:Nat):=by
  intro x;rw[<- anw,<- anw,Nat.mul_div_mul_left _ _ hc]
 unfold newR;have c1:(decide (((c*a:Nat):Int)<0)||decide (((c*b:Nat):Int)<1))=false:=by
  have h1:¬ (((c*b:Nat):Int)<1):=anG.2 (Int.ofNat_le.2 hcb);rw[afe (anG.2 (Int.natCast_nonneg _)),afe h1];rfl
 have c2:(decide ((a:Int)<0)||decide ((b:Int)<1))=false:=by simp;omega
 rw[c1,c2,e1,e2,d a,d b]
def Y4 (num den k:Int) (hn:0<=num) (hd:1<=den) (hk:1<=k):newR (num.tdiv (fB num k)) (den*(k.tdiv (fB num k)))=newR num (den*k):=by
 obtain⟨n,rfl⟩:=ahD hn;obtain⟨d,rfl⟩:=ahD (show 0<=den by omega);obtain⟨k,rfl⟩:=ahD (show 0<=k by omega);have hg:fB (n:Nat) (k:Nat)=(Nat.gcd n k:Nat):=by unfold fB;rw[ahO,ahO]
 rw[hg,<- anw,<- anw];have g0:0<Nat.gcd n k:=anH n om;obtain⟨a,ha⟩:=anN n k;obtain⟨b,hb⟩:=anJ n k;have e1:n / Nat.gcd n k=a:=by rw[Nat.div_eq_of_eq_mul_right g0 ha]
 have e2:k / Nat.gcd n k=b:=by rw[Nat.div_eq_of_eq_mul_right g0 hb]
 rw[e1,e2];have hb0:0<b:=by
  rcases aj2 b with h | h
  ·rw[h]at hb;simp at hb;omega
  exact h
 have:=JS (Nat.gcd n k) a (d*b) g0 (apB om hb0);rw[<- ha]at this;have e3:Nat.gcd n k*(d*b)=d*k:=by
  rw[Nat.mul_left_comm,<- hb]
 rw[e3]at this;rw[<- anF,<- anF];exact this.symm
def t1 (r:bx) (k:Int):Int×Int:=bif decide ((144115188075855872:Int).tdiv (k.tdiv (fB k r.fx))<r.ga)then(-1,1)else(r.ga*(k.tdiv (fB k r.fx)),r.fx.tdiv (fB k r.fx))
def mM (r:bx) (lo hi:Int):Bool:=kp r&&(decide (lo<=r.ga.tdiv r.fx)&&(decide (r.ga.tdiv r.fx<hi)||(r.ga.tdiv r.fx==hi&&r.ga.tmod r.fx==0)))
def IJ (c:au):Bool:=decide (8<(c.aN.length:Int))||decide (8<(c.aE.length:Int))
def A4 (n:Int) (x:aP):Bool:=!cn x.cF 0 (n - 1)||!cn x.cY 0 4000000000||!cn x.ij 0 x.cY
def eW (c:au):Bool:=
 bif c.bY==1 then((c.aN.length:Int)==0)&&((c.aE.length:Int)==1)&&cn (c.aE.getD 0 0) 1 4000000000
 else bif c.bY==2||c.bY==3 then((c.aN.length:Int)==1)&&decide (0<(c.aE.length:Int))&&rU 1 64 [] c.aE
 else bif c.bY==4 then decide (0<(c.aE.length:Int))&&rU 0 ((c.aN.length:Int) - 1) [] c.aE
 else bif c.bY==5 then((c.aN.length:Int)==1)&&(c.aE==[0,1])
 else false
def iJ (c:au) (k:Int):Bool:=bif c.aN.any (λ y=>!cn y 0 (k - 1))||!cn c.cY 0 4000000000||!cn c.ij 0 c.cY then false else eW c
def ad8 (l:apU) (hi:Int) (h:rU 0 hi [] l=true) (hl:0<l.length):0<=hi:=by
 cases l with
 | nil=>simp at hl
 | cons n l=>
  cases hw:cn n 0 hi with
  | true=>simp[cn]at hw;omega
  | false=>
   rw[NP (by rw[hw];rfl)]at h;cases h
def Ha (a b:Int):Int:=if b > a then b else a
def IK (c:au):Bool:=c.bY==2||c.bY==3
def jm (acc:apU) (l:apU):Int:=l.foldl (λ n p=>Ha n (acc.getD p.toNat 0)) 0
def Cb (acc:apU) (c:au):Int:=bif IK c then jm acc c.aN+1 else jm acc c.aN
def eN (l:apY):apU:=l.foldl (λ acc c=>acc++[Cb acc c]) []
def wW (l:apY) (c:au):eN (l++[c])=eN l++[Cb (eN l) c]:=by
 unfold eN;rw[aoZ];rfl
def XP (l:apY):Prop:=∀i,i<l.length->(l.getD i az).aN.length<=2000000/\∀p∈(l.getD i az).aN,0<=p/\p<i
def Cc (acc:apU) (b:Int) (hb0:0<=b) (hb:∀j:Nat,0<=acc.getD j 0/\acc.getD j 0<=b) (l:apU):0<=jm acc l/\jm acc l<=b:=by
 have:∀(l:apU) (n:Int),0<=n/\n<=b->0<=l.foldl (λ n p=>Ha n (acc.getD p.toNat 0)) n/\l.foldl (λ n p=>Ha n (acc.getD p.toNat 0)) n<=b:=by
  intro l;induction l with
  | nil=>exact λ n h=>h
  | cons p r ih=>
   intro n hn;refine ih _ ?_;show 0<=Ha n (acc.getD p.toNat 0)/\Ha n (acc.getD p.toNat 0)<=b;unfold Ha;have:=hb p.toNat;split<;>omega
 exact this l 0 om
def gq (l:apY):(eN l).length=l.length/\∀j:Nat,0<=(eN l).getD j 0/\(eN l).getD j 0<=l.length:=by
 induction l using BQ with
 | nil=>exact⟨rfl,λ j=>by rw[EA];simp;exact ahU _⟩
 | append_singleton l c ih=>
  obtain⟨h1,h2⟩:=ih;rw[wW];have hb:=Cc (eN l) l.length om h2 c.aN;have hf:0<=Cb (eN l) c/\Cb (eN l) c<=l.length+1:=by
   unfold Cb;cases IK c<;>simp only[ahX,ags]<;>omega
  refine⟨by rw[aeU,aeU,h1];rfl,λ j=>?_⟩;have hlen:((l++[c]).length:Int)=l.length+1:=by rw[aeU];rfl
  rw[hlen];by_cases hj:j<l.length
  ·rw[gT 0 om];have:=h2 j;omega
  by_cases hj2:j=l.length
  ·rw[gU 0 om];exact hf
  rw[EA 0 (by rw[aeU,h1];simp;omega)];omega
def MT (a b:Int):Int:=if b<a then b else a
def jz (l:apY):Int:=l.foldl (λ p c=>MT (p*c.aE.length) 1099511627776) 1
def Ut (l:apY):Bool:=(List.range l.length).all λ i=>iJ (l.getD i az) i
def cB (l:apY):Int:=bif decide (16<(l.length:Int))||l.any IJ then 3 else bif !Ut l then 1 else bif decide (4096<jz l)||(eN l).any (λ n=>decide (4<n))then 3 else 0
variable {l:apY}
def Q1 (h:∀i:Nat,i<l.length->iJ (l.getD i az) i=true):Ut l=true:=by
 unfold Ut;rw[ajL];intro i hi;exact h i (aj7.1 hi)
def Uu (h:Ut l=true) (i:Nat) (hi:i<l.length):iJ (l.getD i az) i=true:=by
 unfold Ut at h;rw[ajL]at h;exact h i (aj7.2 hi)
def IL (hi:i<l.length) (h:iJ (l.getD i az) i=false):Ut l=false:=by
 cases hv:Ut l with
 | false=>rfl
 | true=>rw[Uu hv i hi]at h;cases h
def kr {l:List α} {p:α->Bool} (d:α) (h:l.any p=false) (i:Nat) (hi:i<l.length):p (l.getD i d)=false:=by
 rw[aja]at h;simpa using h _ (fe d hi)
def rW {l:List α} {p:α->Bool} (d:α) (hi:i<l.length) (h:p (l.getD i d)=true):l.any p=true:=ai7.2 ⟨_,fe d hi,h⟩
def any_none {l:List α} {p:α->Bool} (d:α) (h:∀i,i<l.length->p (l.getD i d)=false):l.any p=false:=by
 rw[aja];intro x hx;obtain⟨i,hi,rfl⟩:=ahZ.1 hx;have:=h i hi;rw[ad7,aeA hi]at this;simpa using this
variable {c:au}
def FF (h:IJ c=false):c.aN.length<=8/\c.aE.length<=8:=by
 unfold IJ at h;simp at h;omega
def FG (l:apY):0<=jz l/\jz l<=1099511627776:=by
 unfold jz;induction l using BQ with
 | nil=>simp
 | append_singleton l c ih=>
  rw[aoZ];show 0<=MT (l.foldl _ 1*c.aE.length) 1099511627776/\MT (l.foldl _ 1*c.aE.length) 1099511627776<=1099511627776;have:0<=l.foldl (λ p c=>MT (p*(c:au).aE.length) 1099511627776) 1*(c.aE.length:Int):=aoc ih.1 om;generalize l.foldl (λ p c=>MT (p*(c:au).aE.length) 1099511627776) 1*(c.aE.length:Int)=q at this;unfold MT;split<;>omega
def abB (l:apY) (n:Int) (h:0<=n/\n<=8):0<=jz l*n/\jz l*n<=1099511627776*8:=by
 have hb:=FG l;exact⟨aoc hb.1 h.1,apz hb.2 h.2 h.1 om⟩
def within_iff (n lo hi:Int):cn n lo hi=true↔lo<=n/\n<=hi:=by
 unfold cn;simp
variable {k:Int}
def Lc {j:Nat} (hj:j<c.aN.length) (h:cn (c.aN.getD j 0) 0 (k - 1)=false):iJ c k=false:=by
 unfold iJ;have:c.aN.any (λ y=>!cn y 0 (k - 1))=true:=rW 0 hj (by show(!cn (c.aN.getD j 0) 0 (k - 1))=true;rw[h];rfl);rw[this];rfl
def Uv (h:∀j,j<c.aN.length->cn (c.aN.getD j 0) 0 (k - 1)=true):iJ c k=!(!eW c||decide (c.ij<0)||decide (c.cY<c.ij)||decide (4000000000<c.cY)):=by
 have e:c.aN.any (λ y=>!cn y 0 (k - 1))=false:=any_none 0 λ j hj=>by show(!cn (c.aN.getD j 0) 0 (k - 1))=false;rw[h j hj];rfl
 unfold iJ;rw[e];cases hc:eW c with
 | false=>cases(false||!cn c.cY 0 4000000000||!cn c.ij 0 c.cY)<;>rfl
 | true=>
  by_cases hg:(0<=c.ij/\c.ij<=c.cY)/\c.cY<=4000000000
  ·have h1:cn c.cY 0 4000000000=true:=(within_iff _ _ _).2 om;have h2:cn c.ij 0 c.cY=true:=(within_iff _ _ _).2 om;rw[h1,h2,afe (show ¬ c.ij<0 by omega),afe (show ¬ c.cY<c.ij by omega),afe (show ¬ 4000000000<c.cY by omega)];rfl
  have h1:(false||!cn c.cY 0 4000000000||!cn c.ij 0 c.cY)=true:=by
   simp only[anU,aiG,ahA,<- aj4,within_iff];omega
  have h2:(!true||decide (c.ij<0)||decide (c.cY<c.ij)||decide (4000000000<c.cY))=true:=by
   simp only[aj1,anU,aiG,ahQ];omega
  rw[h1,h2];rfl
def Cd (h:iJ c k=true):∀p∈c.aN,0<=p/\p<k:=by
 intro p hp;unfold iJ at h;cases ha:c.aN.any (λ y=>!cn y 0 (k - 1))with
 | true=>rw[ha]at h;cases h
 | false=>
  rw[aja]at ha;have:=ha p hp;simp only[aj4,ahS]at this;have:=(within_iff _ _ _).1 this;omega
def Uw (h:∀i:Nat,i<l.length->iJ (l.getD i az) i=true) (hb:∀i:Nat,i<l.length->IJ (l.getD i az)=false):XP l:=λ i hi=>⟨by have:=FF (hb i hi);omega,Cd (h i hi)⟩
def Ld (l:apY) (k:Nat):∀j,j<k->j<l.length->(eN l).getD j 0=(eN (l.take k)).getD j 0:=by
 induction l using BQ with
 | nil=>intro j _ hj;cases hj
 | append_singleton l c ih=>
  intro j hjk hj;have hlen:=(gq l).1;by_cases hk:k<=l.length
  ·rw[aoq hk,wW,gT 0 om];exact ih j hjk om
  rw[ahH (l:=l++[c]) (by rw[aeU];simp;omega)]
def FH (h:eW c=true):1<=c.aE.length:=by
 cases hc:c.aE with
 | nil=>
  unfold eW at h;rw[hc]at h;cases h1:c.bY==1<;>cases h2:(c.bY==2||c.bY==3)<;>cases h3:c.bY==4<;>cases h4:c.bY==5<;>rw[h1,h2,h3,h4]at h<;>simp at h
 | cons x r=>simp
def iK (h:iJ c k=true):eW c=true:=by
 unfold iJ at h;cases hb:(c.aN.any (λ y=>!cn y 0 (k - 1))||!cn c.cY 0 4000000000||!cn c.ij 0 c.cY)with
 | true=>rw[hb]at h;cases h
 | false=>rw[hb]at h;exact h
def IM (l:apY) (c:au):jz (l++[c])=MT (jz l*c.aE.length) 1099511627776:=by
 unfold jz;rw[aoZ];rfl
def WD (l:apY):(∀c∈l,1<=c.aE.length)->∀k,jz (l.take k)<=jz l:=by
 induction l using BQ with
 | nil=>intro _ k;rw[List.take_nil];exact air _
 | append_singleton l c ih=>
  intro h k;by_cases hk:k<=l.length
  ·rw[aoq hk,IM];have h1:=ih (λ d hd=>h d (anx _ hd)) k;have hb:=FG l;have hc:=h c (aou _ (ahd.2 rfl));have:jz l*1<=jz l*c.aE.length:=apr om hb.1;rw[Int.mul_one]at this;generalize jz l*(c.aE.length:Int)=q at *;unfold MT;split<;>omega
  rw[ahH (l:=l++[c]) (by rw[aeU];simp;omega)];exact air _
def gQ (l:apY) (s:apU):Bool:=((s.length:Int)==(l.length:Int))&&(List.range l.length).all λ i=>cn (s.getD i 0) 0 ((l.getD i az).aE.length - 1)
variable {p:Nat->Bool}
def oZ {n:Nat} (h:∀i,i<n->p i=true):(List.range n).all p=true:=by
 rw[ajL];intro i hi;exact h i (aj7.1 hi)
def Sk {n:Nat} (h:(List.range n).all p=true) (hi:i<n):p i=true:=by
 rw[ajL]at h;exact h i (aj7.2 hi)
def nu {n:Nat} (hi:i<n) (h:p i=false):(List.range n).all p=false:=by
 cases hv:(List.range n).all p with
 | false=>rfl
 | true=>rw[Sk hv hi]at h;cases h
def P9 (l:apY):Prop:=∀i:Nat,i<l.length->(l.getD i az).aE.length<=2000000
def iL (l:apY) (m:ap4):Bool:=(cB l==0)&&decide ((m.length:Int)<=32)&&!(m.any (A4 l.length))
def abC (n:Int) (x:aP):A4 n x=(decide (x.cF<0)||decide (n<=x.cF)||decide (x.ij<0)||decide (x.cY<x.ij)||decide (4000000000<x.cY)):=by
 unfold A4;by_cases hg:(0<=x.cF/\x.cF<=n - 1)/\(0<=x.cY/\x.cY<=4000000000)/\(0<=x.ij/\x.ij<=x.cY)
 ·rw[(within_iff _ _ _).2 hg.1,(within_iff _ _ _).2 hg.2.1,(within_iff _ _ _).2 hg.2.2,afe (show ¬ x.cF<0 by omega),afe (show ¬ n<=x.cF by omega),afe (show ¬ x.ij<0 by omega),afe (show ¬ x.cY<x.ij by omega),afe (show ¬ 4000000000<x.cY by omega)];rfl
 have h1:(!cn x.cF 0 (n - 1)||!cn x.cY 0 4000000000||!cn x.ij 0 x.cY)=true:=by
  simp only[aiG,ahA,<- aj4,within_iff];omega
 have h2:(decide (x.cF<0)||decide (n<=x.cF)||decide (x.ij<0)||decide (x.cY<x.ij)||decide (4000000000<x.cY))=true:=by
  simp only[aiG,ahQ];omega
 rw[h1,h2]
def OT (c:au) (k:Int):Prop:=(c.bY=1)\/(c.bY=4/\0<=k/\k<c.aE.length/\0<=c.aE.getD k.toNat 0/\c.aE.getD k.toNat 0<c.aN.length)\/(c.bY≠4/\0<c.aN.length)
def gX (c:au) (k:Int):Int:=bif c.bY==1 then -1 else bif c.bY==4 then c.aN.getD (c.aE.getD k.toNat 0).toNat 0 else c.aN.getD 0 0
def Hb:bx:=⟨0,1⟩
def nv (r:bx):Bool:=(r.ga==0)&&((r.fx==1)&&true)
def Qa (acc:ap5) (c:au) (k:Int):bx:=
 bif decide (gX c k<0)then⟨c.aE.getD k.toNat 0,1⟩else
 bif nv (acc.getD (gX c k).toNat cD)||((c.bY==5)&&(c.aE.getD k.toNat 0==0))then Hb else
 bif c.bY==2 then(uO (acc.getD (gX c k).toNat cD) (c.aE.getD k.toNat 0)).1 else
 bif c.bY==3 then(mC (acc.getD (gX c k).toNat cD) (c.aE.getD k.toNat 0)).1 else acc.getD (gX c k).toNat cD
def pV (l:apY) (s:apU):Nat->ap5
 | 0=>[]
 | i+1=>pV l s i++[Qa (pV l s i) (l.getD i az) (s.getD i 0)]
def dx (l:apY) (s:apU):ap5:=pV l s l.length
def pW (l:apY) (s:apU) (i:Nat):(pV l s i).length=i:=by
 induction i with
 | zero=>rfl
 | succ i ih=>simp[pV,ih]
structure Good (l:apY) (s:apU):Prop where
 small:l.length<=1000
 len:s.length=l.length
 aE:∀i,i<l.length->0<=s.getD i 0/\s.getD i 0<(l.getD i az).aE.length
 pch:∀i,i<l.length->OT (l.getD i az) (s.getD i 0)
 aN:∀i,i<l.length->gX (l.getD i az) (s.getD i 0)<i
def Q2:∀(l pre:apU),rU lo hi pre l=true->∀x∈l,lo<=x/\x<=hi:=by
 intro l;induction l with
 | nil=>intro _ _ x hx;cases hx
 | cons n r ih=>
  intro pre h x hx;cases hb:(!(cn n lo hi)||pre.contains n)with
  | true=>rw[NP hb]at h;cases h
  | false=>
   rw[Sj hb]at h;rcases ah0.1 hx with rfl | hx
   ·rw[afr]at hb;have:=hb.1;simp only[ahS]at this;exact(within_iff _ _ _).1 this
   exact ih _ h x hx
theorem ny (h:eW c=true):
  (c.bY=1/\c.aN=[]/\c.aE.length=1/\1<=c.aE.getD 0 0/\c.aE.getD 0 0<=4000000000)\/((c.bY=2\/c.bY=3)/\c.aN.length=1/\0<c.aE.length/\∀x∈c.aE,1<=x/\x<=64)
  \/ (c.bY=4/\0<c.aE.length/\∀x∈c.aE,0<=x/\x<=(c.aN.length:Int) - 1)\/(c.bY=5/\c.aN.length=1/\c.aE=[0,1]):=by
 unfold eW at h;cases h1:c.bY==1 with
 | true=>
  rw[h1]at h;simp only[ahX,aeP,within_iff]at h;obtain⟨⟨h2,h3⟩,h4⟩:=h;left;have h2:c.aN.length=0:=by have:=eq_of_beq h2;omega
  exact⟨eq_of_beq h1,alU.1 h2,by have:=eq_of_beq h3;omega,h4⟩
 | false=>
  rw[h1]at h;cases h2:(c.bY==2||c.bY==3)with
  | true=>
   rw[h2]at h;simp only[ahX,ags,aeP]at h;obtain⟨⟨h3,h4⟩,h5⟩:=h;right;left;refine⟨?_,by have:=eq_of_beq h3;omega,by have:=afj h4;omega,Q2 _ _ h5⟩;rw[aiG]at h2;exact h2.imp eq_of_beq eq_of_beq
  | false=>
   rw[h2]at h;cases h3:c.bY==4 with
   | true=>
    rw[h3]at h;simp only[ahX,ags,aeP]at h;right;right;left;exact⟨eq_of_beq h3,by have:=afj h.1;omega,Q2 _ _ h.2⟩
   | false=>
    rw[h3]at h;cases h4:c.bY==5 with
    | true=>
     rw[h4]at h;simp only[ahX,ags,aeP]at h;right;right;right;exact⟨eq_of_beq h4,by have:=eq_of_beq h.1;omega,eq_of_beq h.2⟩
    | false=>rw[h4]at h;cases h
structure Qb (l:apY):Prop where
 len:l.length<=16
 big:∀i:Nat,i<l.length->(l.getD i az).aN.length<=8/\(l.getD i az).aE.length<=8
 valid:∀i:Nat,i<l.length->iJ (l.getD i az) i=true
 prod:jz l<=4096
 eN:∀i:Nat,i<l.length->(eN l).getD i 0<=4
def nY (h:cB l=0):Qb l:=by
 unfold cB at h;cases h1:(decide (16<(l.length:Int))||l.any IJ)with
 | true=>rw[h1]at h;cases h
 | false=>
  rw[h1]at h;cases h2:Ut l with
  | false=>rw[h2]at h;cases h
  | true=>
   rw[h2]at h;cases h3:(decide (4096<jz l)||(eN l).any (λ n=>decide (4<n)))with
   | true=>rw[h3]at h;cases h
   | false=>
    rw[afr]at h1 h3;refine⟨by have:=ahT h1.1;omega,λ i hi=>FF (kr az h1.2 i hi),Uu h2,by have:=ahT h3.1;omega,λ i hi=>?_⟩;have:=kr 0 h3.2 i (by rw[(gq l).1];exact hi);have:=ahT this;omega
variable {s:apU}
def JT (h:gQ l s=true):s.length=l.length/\∀i:Nat,i<l.length->0<=s.getD i 0/\s.getD i 0<(l.getD i az).aE.length:=by
 unfold gQ at h;rw[aeP]at h;have hl:s.length=l.length:=by have:=eq_of_beq h.1;omega
 refine⟨hl,λ i hi=>?_⟩;have:=h.2;rw[ajL]at this;have:=this i (aj7.2 om);have:=(within_iff _ _ _).1 this;omega
def Ux (hv:iJ c i=true) (hk:0<=k/\k<c.aE.length):OT c k/\gX c k<i:=by
 have hp:=Cd hv;unfold OT gX;rcases ny (iK hv)with⟨h1,h2,h3,h4⟩ | ⟨h1,h2,h3,h4⟩ | ⟨h1,h2,h3⟩ | ⟨h1,h2,h3⟩
 ·refine⟨.inl h1,?_⟩;rw[h1];show(-1:Int)<i;omega
 ·have hn1:(c.bY==1)=false:=by rcases h1 with h1 | h1<;>rw[h1]<;>rfl
  have hn4:(c.bY==4)=false:=by rcases h1 with h1 | h1<;>rw[h1]<;>rfl
  refine⟨.inr (.inr ⟨λ e=>(by rw[e]at hn4;cases hn4),om⟩),?_⟩;rw[hn1,hn4];exact(hp _ (fe 0 om)).2
 ·have hm:=h3 _ (fe 0 (i:=k.toNat) om);refine⟨.inr (.inl ⟨h1,hk.1,hk.2,hm.1,om⟩),?_⟩;rw[h1];exact(hp _ (fe 0 (i:=(c.aE.getD k.toNat 0).toNat) om)).2
 refine⟨.inr (.inr ⟨by rw[h1];decide,om⟩),?_⟩;rw[h1];exact(hp _ (fe 0 (i:=0) om)).2
def JU (h:Qb l) (hs:gQ l s=true):Good l s:=by
 obtain⟨h1,h2⟩:=JT hs;exact⟨by have:=h.len;omega,h1,h2,λ i hi=>(Ux (h.valid i hi) (h2 i hi)).1,λ i hi=>(Ux (h.valid i hi) (h2 i hi)).2⟩
def vm (l:apY) (s:apU):ap5×Int:=bif cB l != 0 then([],cB l)else bif !gQ l s then([],1)else(dx l s,0)
def FI (r:ap5) (x:aP):Bool:=nv (r.getD x.cF.toNat cD)||!mM (r.getD x.cF.toNat cD) x.ij x.cY
def WE (r:bx) (c:au):Bool:=((!nv r)&&(c.cY != 0))&&!mM r c.ij c.cY
def ownB (l:apY) (r:ap5):Bool:=(List.range l.length).all λ i=>!WE (r.getD i cD) (l.getD i az)
def cK (l:apY) (s:apU) (m:ap4):Bool:=(iL l m&&gQ l s)&&(ownB l (dx l s)&&!m.any (FI (dx l s)))
def xK {m:ap4} (h:iL l m=true):cB l=0/\m.length<=32/\∀i,i<m.length->A4 l.length (m.getD i bW)=false:=by
 unfold iL at h;rw[aeP,aeP]at h;exact⟨eq_of_beq h.1.1,by have:=afj h.1.2;omega,λ i hi=>kr bW (by simpa using h.2) i hi⟩
def FJ {n:Int} {x:aP} (h:A4 n x=false):(0<=x.cF/\x.cF<n)/\0<=x.ij/\x.ij<=x.cY/\x.cY<=4000000000:=by
 rw[abC]at h;simp only[afr,aie]at h;omega
def MD {l m:List α} (d:α) (h:l.length<=i):(l++m).getD i d=m.getD (i - l.length) d:=by
 rw[ad7,ako h,ad7]
def red (a b:Nat):bx:=⟨((a / Nat.gcd a b:Nat):Int),((b / Nat.gcd a b:Nat):Int)⟩
def GU (a b:Nat) (hb:0<b) (ha':a<=144115188075855872) (hb':b<=16777216):kp (red a b)=true:=by
 have g0:0<Nat.gcd a b:=anH a hb;have h1:a / Nat.gcd a b<=a:=aoR _ _;have h2:b / Nat.gcd a b<=b:=aoR _ _;have h3:0<b / Nat.gcd a b:=ao3 (aoD hb (anJ _ _)) g0;have h4:Nat.gcd (a / Nat.gcd a b) (b / Nat.gcd a b)=1:=by
  rw[Nat.gcd_div (anN _ _) (anJ _ _),Nat.div_self g0]
 unfold kp red fB;simp only[ahO,h4];generalize a / Nat.gcd a b=n at *;generalize b / Nat.gcd a b=d at *;simp;omega
def Uy (a b:Nat) (hb:0<b) (ha':a<=144115188075855872) (hb':b<=16777216):newR a b=(red a b,0):=by
 have hv:=GU a b hb ha' hb';have e1:fB (a:Int) (b:Int)=(Nat.gcd a b:Nat):=by unfold fB;rw[ahO,ahO]
 have e2:(⟨(a:Int).tdiv (fB a b),(b:Int).tdiv (fB a b)⟩:bx)=red a b:=by
  rw[e1,<- anw,<- anw];rfl
 unfold newR;have c:(decide ((a:Int)<0)||decide ((b:Int)<1))=false:=by simp;omega
 rw[c,e2,hv];rfl
def Q3 (a b:Nat) (hb:0<b):∃g n d:Nat,0<g/\0<d/\g*n=a/\g*d=b/\red a b=⟨n,d⟩/\n<=a/\d<=b:=by
 have g0:0<Nat.gcd a b:=anH a hb;refine⟨Nat.gcd a b,a / Nat.gcd a b,b / Nat.gcd a b,g0,ao3 (aoD hb (anJ _ _)) g0,aoK (anN _ _),aoK (anJ _ _),rfl,aoR _ _,aoR _ _⟩
def Q4 (h:1<=k/\k<=64):rV k=true:=by
 unfold rV;simp;omega
def Uz (a b:Nat) (k:Int) (hb:0<b) (hk:1<=k/\k<=64) (ha':a<=144115188075855872) (hb':b*k.toNat<=16777216):uO (red a b) k=(red a (b*k.toNat),0):=by
 have hbk:b<=b*k.toNat:=ajS _ om;have hv:=GU a b hb ha' om;unfold uO;rw[hv,Q4 hk];simp only[aj1,ags];obtain⟨g,n,d,g0,d0,e1,e2,e3,_,_⟩:=Q3 a b hb;rw[e3];have hkk:k=(k.toNat:Int):=by omega
 have hm:=JS g n (d*k.toNat) g0 (apB d0 om);rw[e1,<- ao4,e2]at hm;show newR (n:Int) ((d:Int)*k)=_;rw[hkk,<- anF,<- hm,ahO];exact Uy a (b*k.toNat) om ha' hb'
def Q5 (a b:Nat) (k:Int) (hb:0<b) (hk:1<=k/\k<=64) (ha':a*k.toNat<=144115188075855872) (hb':b<=16777216):mC (red a b) k=(red (a*k.toNat) b,0):=by
 have hak:a<=a*k.toNat:=ajS _ om;have hv:=GU a b hb om hb';unfold mC;rw[hv,Q4 hk];simp only[aj1,ags];obtain⟨g,n,d,g0,d0,e1,e2,e3,e4,e5⟩:=Q3 a b hb;rw[e3];obtain⟨k,rfl⟩:=ahD (show 0<=k by omega);have hk0:0<k:=by omega
 have eg:fB ((k:Nat):Int) ((d:Nat):Int)=(Nat.gcd k d:Nat):=by unfold fB;rw[ahO,ahO]
 have q0:0<Nat.gcd k d:=Nat.gcd_pos_of_pos_left d hk0;have qk:Nat.gcd k d*(k / Nat.gcd k d)=k:=aoK (anN _ _);have qd:Nat.gcd k d*(d / Nat.gcd k d)=d:=aoK (anJ _ _);have qk0:0<k / Nat.gcd k d:=ao3 (aoD hk0 (anN _ _)) q0;have qd0:0<d / Nat.gcd k d:=ao3 (aoD d0 (anJ _ _)) q0;have qkk:k / Nat.gcd k d<=k:=aoR _ _;simp only[ahO]at ha' ⊢;rw[eg,<- anw,<- anw];have hc:decide ((144115188075855872:Int).tdiv ((k / Nat.gcd k d:Nat):Int)<(n:Int))=false:=by
  apply afe;have:n<=144115188075855872 / (k / Nat.gcd k d):=by
   rw[Nat.le_div_iff_mul_le qk0];exact af3 (apA e4 qkk) ha'
  have e:(144115188075855872:Int).tdiv ((k / Nat.gcd k d:Nat):Int)=((144115188075855872 / (k / Nat.gcd k d):Nat):Int):=by
   rw[anw];rfl
  rw[e];omega
 rw[hc];simp only[ags];rw[<- anF];have m1:=JS (Nat.gcd k d) (n*(k / Nat.gcd k d)) (d / Nat.gcd k d) q0 qd0;rw[Nat.mul_left_comm,qk,qd]at m1;have m2:=JS g (n*k) d g0 d0;rw[<- ao4,e1,e2]at m2;rw[<- m1,<- m2];exact Uy (a*k) b hb ha' hb'
def ad9 (a:Nat):red a 1=⟨a,1⟩:=by
 unfold red;rw[Nat.gcd_one_right,Nat.div_one,Nat.div_one];rfl
def aea (a b:Nat) (ha:0<a):0<(red a b).ga:=by
 have:0<a / Nat.gcd a b:=ao3 (aoD ha (anN _ _)) (Nat.gcd_pos_of_pos_left b ha);show(0:Int)<((a / Nat.gcd a b:Nat):Int);omega
def abD (a b:Nat) (ha:0<a):nv (red a b)=false:=by
 have:=aea a b ha;unfold nv;have:((red a b).ga==0)=false:=by
  rw[<- aj4];intro e;have:=eq_of_beq e;omega
 rw[this];rfl
def Y5 (k:Int) (hk:1<=k/\k<=64):mC Hb k=(Hb,0):=by
 have h:=Q5 0 1 k (by decide) hk (by simp) (by decide);rw[akJ]at h;exact h
def abE (k:Int) (hk:1<=k/\k<=64):uO Hb k=(Hb,0):=by
 have h:=Uz 0 1 k (by decide) hk (by decide) om;have e:red 0 (1*k.toNat)=Hb:=by
  unfold red Hb;rw[Nat.gcd_zero_left,Nat.zero_div,aoG,Nat.div_self om];rfl
 rw[e]at h;exact h
def IN (l:apY) (s:apU) (n j:Nat) (h:j<n):(pV l s n).getD j cD=Qa (pV l s j) (l.getD j az) (s.getD j 0):=by
 induction n with
 | zero=>omega
 | succ n ih=>
  rw[pV];by_cases hj:j<n
  ·rw[gT _ (by rw[pW];exact hj)];exact ih hj
  have:j=n:=by omega
  subst this;rw[gU _ (pW l s j).symm]
def Y6 {acc acc':ap5} (h:0<=gX c k->acc.getD (gX c k).toNat cD=acc'.getD (gX c k).toNat cD):Qa acc c k=Qa acc' c k:=by
 unfold Qa;by_cases hp:gX c k<0
 ·rw[afl hp];rfl
 rw[h om]
def Y7 (h:Good l s) (j:Nat) (hj:j<l.length):(dx l s).getD j cD=Qa (dx l s) (l.getD j az) (s.getD j 0):=by
 unfold dx;rw[IN l s l.length j hj];refine Y6 λ h0=>?_;have:=h.aN j hj;rw[IN l s l.length _ om,IN l s j _ om]
def Y8 (acc:apU) (l:apU) (p:Int) (hp:p∈l):acc.getD p.toNat 0<=jm acc l:=by
 have mono:∀(l:apU) (n:Int),n<=l.foldl (λ n p=>Ha n (acc.getD p.toNat 0)) n:=by
  intro l;induction l with
  | nil=>intro n;exact air _
  | cons q r ih=>
   intro n;have:=ih (Ha n (acc.getD q.toNat 0));have h2:n<=Ha n (acc.getD q.toNat 0):=by unfold Ha;split<;>omega
   exact ajJ h2 this
 have key:∀(l:apU) (n:Int),p∈l->acc.getD p.toNat 0<=l.foldl (λ n p=>Ha n (acc.getD p.toNat 0)) n:=by
  intro l;induction l with
  | nil=>intro n h;cases h
  | cons q r ih=>
   intro n h;rcases ah0.1 h with rfl | h
   ·have:=mono r (Ha n (acc.getD p.toNat 0));have h2:acc.getD p.toNat 0<=Ha n (acc.getD p.toNat 0):=by unfold Ha;split<;>omega
    exact ajJ h2 this
   exact ih _ h
 exact key l 0 hp
def aeb (hp:XP l) (j:Nat) (hj:j<l.length):∀p∈(l.getD j az).aN,(eN l).getD p.toNat 0+(bif IK (l.getD j az)then 1 else 0)<=(eN l).getD j 0:=by
 intro p hpm;have hpj:=(hp j hj).2 p hpm;have e1:(eN l).getD j 0=Cb (eN (l.take j)) (l.getD j az):=by
  rw[Ld l (j+1) j om hj,eI az hj,wW,gU _ (by rw[(gq _).1,take_len om])]
 have e2:(eN l).getD p.toNat 0=(eN (l.take j)).getD p.toNat 0:=Ld l j p.toNat om om;have:=Y8 (eN (l.take j)) (l.getD j az).aN p hpm;rw[e1,e2];unfold Cb;cases IK (l.getD j az)<;>simp only[ahX,ags]<;>omega
structure Made (l:apY):Prop where
 ok:cB l=0
 pos:1<=l.length
 fix:∀i,i<l.length->(l.getD i az).bY=1->(l.getD i az).aE.getD 0 0<=24000000
structure MU (F a b:Nat) (f:Int):Prop where
 a0:0<a
 b0:0<b
 f0:0<=f
 al:a<=F*64 ^ f.toNat
 bl:b<=64 ^ f.toNat
variable {f:Int}
def aec (h:f<=4):64 ^ f.toNat<=16777216:=by
 have:f.toNat<=4:=by omega
 calc 64 ^ f.toNat<=64 ^ 4:=alT (by decide) this
  _=16777216:=by decide
variable {F:Nat} {a:Nat} {b:Nat}
def MU.mono {g:Int} (h:MU F a b f) (hfg:f<=g):MU F a b g:=by
 have hf:=h.f0;have:64 ^ f.toNat<=64 ^ g.toNat:=alT (by decide) om;exact⟨h.a0,h.b0,om,af3 h.al (aj6 _ this),af3 h.bl this⟩
def MU.times {g:Int} (h:MU F a b f) (hfg:f+1<=g) {k:Nat} (hk:1<=k/\k<=64):MU F (a*k) b g:=by
 have hf:=h.f0;have:64 ^ f.toNat*64<=64 ^ g.toNat:=by
  rw[<- Nat.pow_succ];exact alT (by decide) om
 refine⟨apB h.a0 om,h.b0,om,?_,?_⟩
 ·calc a*k<=(F*64 ^ f.toNat)*64:=apA h.al hk.2
   _=F*(64 ^ f.toNat*64):=ao4 _ _ _
   _<=F*64 ^ g.toNat:=aj6 _ this
 exact af3 h.bl (af3 (ajS _ (by decide)) this)
def MU.over {g:Int} (h:MU F a b f) (hfg:f+1<=g) {k:Nat} (hk:1<=k/\k<=64):MU F a (b*k) g:=by
 have hf:=h.f0;have h1:64 ^ f.toNat*64<=64 ^ g.toNat:=by
  rw[<- Nat.pow_succ];exact alT (by decide) om
 have h2:64 ^ f.toNat<=64 ^ g.toNat:=alT (by decide) om;exact⟨h.a0,apB h.b0 om,om,af3 h.al (aj6 _ h2),af3 (apA h.bl hk.2) h1⟩
def MU.small (h:MU F a b f) (hf:f<=4) (hF:F<=4294967296):a<=F*16777216/\a<=144115188075855872/\b<=16777216:=by
 have hp:=aec hf;have h1:=af3 h.al (aj6 F hp);exact⟨h1,af3 h1 (af3 (afK 16777216 hF) (by decide)),af3 h.bl hp⟩
def BC (c:au) (k:Int):Int:=c.aE.getD k.toNat 0
def Vw (acc:ap5) (c:au) (k:Int):bx:=acc.getD (gX c k).toNat cD
structure Step (c:au) (i:Nat) (k:Int):Prop where
 p0:0<=gX c k
 pi:gX c k<i
 mem:gX c k∈c.aN
 n1:c.bY≠1
def Sl (hv:iJ c i=true) (hk:0<=k/\k<c.aE.length) (hn:c.bY≠1):Step c i k:=by
 have hp:=Cd hv;have key:gX c k∈c.aN:=by
  unfold gX;rcases ny (iK hv)with⟨h1,h2,h3,h4⟩ | ⟨h1,h2,h3,h4⟩ | ⟨h1,h2,h3⟩ | ⟨h1,h2,h3⟩
  ·exact absurd h1 hn
  ·have hn1:(c.bY==1)=false:=by rcases h1 with h1 | h1<;>rw[h1]<;>rfl
   have hn4:(c.bY==4)=false:=by rcases h1 with h1 | h1<;>rw[h1]<;>rfl
   rw[hn1,hn4];exact fe 0 om
  ·have hm:=h3 _ (fe 0 (i:=k.toNat) om);rw[h1];exact fe 0 (i:=(c.aE.getD k.toNat 0).toNat) om
  rw[h1];exact fe 0 (i:=0) om
 have:=hp _ key;exact⟨this.1,this.2,key,hn⟩
def aed (hv:iJ c i=true) (hk:0<=k/\k<c.aE.length) (h:c.bY=1) (acc:ap5):BC c k=c.aE.getD 0 0/\1<=BC c k/\BC c k<=4000000000/\Qa acc c k=⟨BC c k,1⟩/\gX c k = -1:=by
 rcases ny (iK hv)with⟨h1,h2,h3,h4⟩ | ⟨h1,h2,h3,h4⟩ | ⟨h1,h2,h3⟩ | ⟨h1,h2,h3⟩
 ·have e:BC c k=c.aE.getD 0 0:=by unfold BC;rw[show k.toNat=0 by omega]
  have hp:gX c k = -1:=by unfold gX;rw[h];rfl
  refine⟨e,om,om,?_,hp⟩;unfold Qa;rw[hp];rfl
 ·rcases h1 with h1 | h1<;>omega
 ·omega
 omega
theorem UA (hv:iJ c i=true) (hk:0<=k/\k<c.aE.length) (hn:c.bY≠1) (acc:ap5):
  ((nv (Vw acc c k)=true\/(c.bY=5/\BC c k=0))/\Qa acc c k=Hb)\/
  (nv (Vw acc c k)=false/\((c.bY=2/\IK c=true/\(1<=BC c k/\BC c k<=64)/\Qa acc c k=(uO (Vw acc c k) (BC c k)).1)\/
    (c.bY=3/\IK c=true/\(1<=BC c k/\BC c k<=64)/\Qa acc c k=(mC (Vw acc c k) (BC c k)).1)\/
    ((c.bY=4\/(c.bY=5/\BC c k=1))/\IK c=false/\Qa acc c k=Vw acc c k))):=by
 have hs:=Sl hv hk hn;have hp:decide (gX c k<0)=false:=afe (by have:=hs.p0;omega);have e0:Qa acc c k=bif nv (Vw acc c k)||((c.bY==5)&&(BC c k==0))then Hb else bif c.bY==2 then(uO (Vw acc c k) (BC c k)).1 else bif c.bY==3 then(mC (Vw acc c k) (BC c k)).1 else Vw acc c k:=by
  unfold Qa;rw[hp];rfl
 have hmem:BC c k∈c.aE:=fe 0 om;cases ho:nv (Vw acc c k)with
 | true=>left;exact⟨.inl rfl,by rw[e0,ho];rfl⟩
 | false=>
  rw[ho]at e0;rcases ny (iK hv)with⟨h1,h2,h3,h4⟩ | ⟨h1,h2,h3,h4⟩ | ⟨h1,h2,h3⟩ | ⟨h1,h2,h3⟩
  ·exact absurd h1 hn
  ·right;refine⟨rfl,?_⟩;rcases h1 with h1 | h1
   ·left;refine⟨h1,by unfold IK;rw[h1];rfl,h4 _ hmem,?_⟩;rw[e0,h1];rfl
   right;left;refine⟨h1,by unfold IK;rw[h1];rfl,h4 _ hmem,?_⟩;rw[e0,h1];rfl
  ·right;refine⟨rfl,.inr (.inr ⟨.inl h1,by unfold IK;rw[h1];rfl,?_⟩)⟩;rw[e0,h1];rfl
  rw[h3]at hmem;by_cases hc:BC c k=0
  ·left;refine⟨.inr ⟨h1,hc⟩,?_⟩;rw[e0,h1,hc];rfl
  have hc1:BC c k=1:=by simp at hmem;omega
  right;refine⟨rfl,.inr (.inr ⟨.inr ⟨h1,hc1⟩,by unfold IK;rw[h1];rfl,?_⟩)⟩;rw[e0,h1,hc1];rfl
def WG (h:Qb l):XP l:=λ i hi=>⟨by have:=(h.big i hi).1;omega,Cd (h.valid i hi)⟩
def st1 (acc:ap5) (on:apV) (c:au) (k:Int):bx×Bool:=
 bif c.bY==1 then(⟨c.aE.getD k.toNat 0,1⟩,true)else
 bif c.bY==2 then((uO (acc.getD (gX c k).toNat cD) (c.aE.getD k.toNat 0)).1,on.getD (gX c k).toNat false)else
 bif c.bY==3 then((mC (acc.getD (gX c k).toNat cD) (c.aE.getD k.toNat 0)).1,on.getD (gX c k).toNat false)else
 bif(c.bY==5)&&(c.aE.getD k.toNat 0==0)then(Hb,false)else(acc.getD (gX c k).toNat cD,on.getD (gX c k).toNat false)
def Lf (l:apY) (s:apU):Nat->ap5×apV
 | 0=>([],[])
 | i+1=>((Lf l s i).1++[(st1 (Lf l s i).1 (Lf l s i).2 (l.getD i az) (s.getD i 0)).1],(Lf l s i).2++[(st1 (Lf l s i).1 (Lf l s i).2 (l.getD i az) (s.getD i 0)).2])
def H7 (l:apY) (s:apU):ap5×apV:=Lf l s l.length
def GV (l:apY) (s:apU) (i:Nat):(Lf l s i).1.length=i/\(Lf l s i).2.length=i:=by
 induction i with
 | zero=>exact⟨rfl,rfl⟩
 | succ i ih=>simp[Lf,ih]
def Up (l:apY) (s:apU):Prop:=∀i:Nat,i<l.length->(l.getD i az).bY≠1->0<=gX (l.getD i az) (s.getD i 0)
def abF (h:Qb l) (hs:gQ l s=true):Up l s:=by
 obtain⟨_,h2⟩:=JT hs;exact λ i hi hk=>(Sl (h.valid i hi) (h2 i hi) hk).p0
def Sm (l:apY) (s:apU) (n j:Nat) (h:j<n):(Lf l s n).1.getD j cD=(st1 (Lf l s j).1 (Lf l s j).2 (l.getD j az) (s.getD j 0)).1/\(Lf l s n).2.getD j false=(st1 (Lf l s j).1 (Lf l s j).2 (l.getD j az) (s.getD j 0)).2:=by
 induction n with
 | zero=>omega
 | succ n ih=>
  rw[Lf];have hl:=GV l s n;by_cases hj:j<n
  ·rw[gT _ om,gT _ om];exact ih hj
  have:j=n:=by omega
  subst this;rw[gU _ hl.1.symm,gU _ hl.2.symm];exact⟨rfl,rfl⟩
def Y9 {acc acc':ap5} {on on':apV} (h:c.bY≠1->acc.getD (gX c k).toNat cD=acc'.getD (gX c k).toNat cD/\on.getD (gX c k).toNat false=on'.getD (gX c k).toNat false):st1 acc on c k=st1 acc' on' c k:=by
 unfold st1;cases hk:c.bY==1 with
 | true=>rfl
 | false=>
  obtain⟨h1,h2⟩:=h (λ e=>by rw[e]at hk;cases hk);rw[h1,h2]
def agZ (h:Good l s) (hu:Up l s) (j:Nat) (hj:j<l.length):((H7 l s).1.getD j cD,(H7 l s).2.getD j false)=st1 (H7 l s).1 (H7 l s).2 (l.getD j az) (s.getD j 0):=by
 unfold H7;obtain⟨e1,e2⟩:=Sm l s l.length j hj;rw[e1,e2];show st1 _ _ _ _=_;refine Y9 λ hk=>?_;have h1:=h.aN j hj;have h2:=hu j hj hk;obtain⟨a1,a2⟩:=Sm l s l.length (gX (l.getD j az) (s.getD j 0)).toNat om;obtain⟨b1,b2⟩:=Sm l s j (gX (l.getD j az) (s.getD j 0)).toNat om;exact⟨b1.trans a1.symm,b2.trans a2.symm⟩
theorem abG (hn:c.bY≠1) (acc:ap5) (on:apV) (k:Int):
  (c.bY=2->st1 acc on c k=((uO (Vw acc c k) (BC c k)).1,on.getD (gX c k).toNat false))/\
  (c.bY=3->st1 acc on c k=((mC (Vw acc c k) (BC c k)).1,on.getD (gX c k).toNat false))/\
  (c.bY=5->BC c k=0->st1 acc on c k=(Hb,false))/\
  ((c.bY=4\/(c.bY=5/\BC c k=1))->st1 acc on c k=(Vw acc c k,on.getD (gX c k).toNat false)):=by
 have hk:(c.bY==1)=false:=by
  cases h:c.bY==1 with
  | false=>rfl
  | true=>exact absurd (eq_of_beq h) hn
 refine⟨λ h=>?_,λ h=>?_,λ h h0=>?_,λ h=>?_⟩
 ·unfold st1;rw[h];rfl
 ·unfold st1;rw[h];rfl
 ·unfold st1;rw[show c.aE.getD k.toNat 0=BC c k from rfl,h,h0];rfl
 rcases h with h | ⟨h,h1⟩
 ·unfold st1;rw[h];rfl
 unfold st1;rw[show c.aE.getD k.toNat 0=BC c k from rfl,h,h1];rfl
def abH (hv:iJ c i=true) (hk:0<=k/\k<c.aE.length) (hn:c.bY≠1):(c.bY=2/\1<=BC c k/\BC c k<=64)\/(c.bY=3/\1<=BC c k/\BC c k<=64)\/c.bY=4\/(c.bY=5/\BC c k=k/\(k=0\/k=1)):=by
 have hmem:BC c k∈c.aE:=fe 0 om;rcases ny (iK hv)with⟨h1,h2,h3,h4⟩ | ⟨h1,h2,h3,h4⟩ | ⟨h1,h2,h3⟩ | ⟨h1,h2,h3⟩
 ·exact absurd h1 hn
 ·rcases h1 with h1 | h1
  ·exact .inl ⟨h1,h4 _ hmem⟩
  exact .inr (.inl ⟨h1,h4 _ hmem⟩)
 ·exact .inr (.inr (.inl h1))
 rw[h3]at hk;have hk2:k=0\/k=1:=by simp at hk;omega
 refine .inr (.inr (.inr ⟨h1,?_,hk2⟩));unfold BC;rw[h3];rcases hk2 with rfl | rfl<;>rfl
def abI (l:apY):∀j:Nat,0<=(eN l).getD j 0:=λ j=>((gq l).2 j).1
theorem abJ (hf:Qb l) (hs:gQ l s=true):∀j,j<l.length->
  ((dx l s).getD j cD=Hb/\(H7 l s).1.getD j cD=Hb/\(H7 l s).2.getD j false=false)\/
  ∃a b,MU 4000000000 a b ((eN l).getD j 0)/\(dx l s).getD j cD=red a b/\(H7 l s).1.getD j cD=red a b/\(H7 l s).2.getD j false=true:=by
 have hg:=JU hf hs;have hu:=abF hf hs;obtain⟨_,hset⟩:=JT hs;have alR:=λ j hj=>aeb (WG hf) j hj;have hfb:=abI l;generalize hA:dx l s=A;generalize hB:H7 l s=B;intro j;induction j using Nat.strongRecOn with
 | ind j ih=>
  intro hj;have eA:=Y7 hg j hj;have eB:=agZ hg hu j hj;rw[hA]at eA;rw[hB]at eB;have hv:=hf.valid j hj;have hk:=hset j hj;have hfj:=hf.eN j hj;have aiW:=alR j hj;generalize l.getD j az=c at *;generalize s.getD j 0=k at *;by_cases hk1:c.bY=1
  ·right;obtain⟨e1,e2,e3,e4,_⟩:=aed hv hk hk1 A;have eB1:st1 B.1 B.2 c k=(⟨BC c k,1⟩,true):=by unfold st1;rw[hk1];rfl
   rw[eB1]at eB;have hb:=hfb j;have er:(⟨BC c k,1⟩:bx)=red (BC c k).toNat 1:=by
    rw[ad9];congr 1;omega
   refine⟨(BC c k).toNat,1,⟨om,by decide,om,?_,Nat.pow_pos (by decide)⟩,?_,?_,?_⟩
   ·exact af3 (show(BC c k).toNat<=4000000000 by omega) (ajS _ (Nat.pow_pos (by decide)))
   ·rw[eA,e4,er]
   ·rw[<- er];exact ano Prod.fst eB
   exact ano Prod.snd eB
  have hst:=Sl hv hk hk1;have hpl:(gX c k).toNat<l.length:=by have:=hst.p0;have:=hst.pi;omega
  have hpf:=aiW _ hst.mem;have ihp:=ih (gX c k).toNat (by have:=hst.p0;have:=hst.pi;omega) hpl;have uA:A.getD (gX c k).toNat cD=Vw A c k:=rfl;have uB:B.1.getD (gX c k).toNat cD=Vw B.1 c k:=rfl;rw[uA,uB]at ihp;obtain⟨q2,q3,q50,q4⟩:=abG hk1 B.1 B.2 k;have hn:∀n:Int,1<=n/\n<=64->1<=n.toNat/\n.toNat<=64:=λ n hn=>by omega
  rcases ihp with⟨i1,i2,i3⟩ | ⟨a,b,i0,i1,i2,i3⟩
  ·left;have hA0:Qa A c k=Hb:=by
    rcases UA hv hk hk1 A with⟨_,q⟩ | ⟨q,_⟩
    ·exact q
    rw[i1]at q;cases q
   rw[i2,i3]at q2 q3 q4;have hB0:st1 B.1 B.2 c k=(Hb,false):=by
    rcases abH hv hk hk1 with⟨h,h1⟩ | ⟨h,h1⟩ | h | ⟨h,h1,h2⟩
    ·rw[q2 h,abE _ h1]
    ·rw[q3 h,Y5 _ h1]
    ·exact q4 (.inl h)
    rcases h2 with h2 | h2
    ·exact q50 h om
    exact q4 (.inr ⟨h,om⟩)
   rw[hB0]at eB;exact⟨by rw[eA,hA0],ano Prod.fst eB,ano Prod.snd eB⟩
  have oA:nv (Vw A c k)=false:=by rw[i1];exact abD a b i0.a0
  rw[i2,i3]at q2 q3 q4;rcases UA hv hk hk1 A with⟨q0,q⟩ | ⟨_,q⟩
  ·left;rw[oA]at q0;rcases q0 with q0 | ⟨q0,q1⟩
   ·cases q0
   rw[q50 q0 q1]at eB;exact⟨by rw[eA,q],ano Prod.fst eB,ano Prod.snd eB⟩
  right;rcases q with⟨r1,r2,r3,r4⟩ | ⟨r1,r2,r3,r4⟩ | ⟨r1,r2,r3⟩
  ·rw[r2]at hpf;have hnew:=i0.over hpf (hn _ r3);have hs2:=hnew.small hfj (by decide);have eo:=Uz a b _ i0.b0 r3 hs2.2.1 hs2.2.2;rw[q2 r1,eo]at eB;exact⟨a,b*(BC c k).toNat,hnew,by rw[eA,r4,i1,eo],ano Prod.fst eB,ano Prod.snd eB⟩
  ·rw[r2]at hpf;have hnew:=i0.times hpf (hn _ r3);have hs2:=hnew.small hfj (by decide);have eo:=Q5 a b _ i0.b0 r3 hs2.2.1 hs2.2.2;rw[q3 r1,eo]at eB;exact⟨a*(BC c k).toNat,b,hnew,by rw[eA,r4,i1,eo],ano Prod.fst eB,ano Prod.snd eB⟩
  rw[r2]at hpf;rw[q4 r1]at eB;exact⟨a,b,i0.mono (by simpa using hpf),by rw[eA,r3,i1],ano Prod.fst eB,ano Prod.snd eB⟩
def Ce (hf:Qb l) (hs:gQ l s=true) (j:Nat) (hj:j<l.length):(H7 l s).1.getD j cD=(dx l s).getD j cD/\(H7 l s).2.getD j false=!nv ((dx l s).getD j cD)/\kp ((dx l s).getD j cD)=true/\(nv ((dx l s).getD j cD)=true->(dx l s).getD j cD=Hb):=by
 rcases abJ hf hs j hj with⟨h1,h2,h3⟩ | ⟨a,b,h0,h1,h2,h3⟩
 ·rw[h1,h2,h3];exact⟨rfl,rfl,by decide,λ _=>rfl⟩
 have hs2:=h0.small (hf.eN j hj) (by decide);rw[h1,h2,h3,abD a b h0.a0];exact⟨rfl,rfl,GU a b h0.b0 hs2.2.1 hs2.2.2,nofun⟩
def A5 {l m:List α} (d:α) (h:l.length=m.length) (he:∀i,i<l.length->l.getD i d=m.getD i d):l=m:=by
 apply aod h;intro i h1 h2;have:=he i h1;rw[ad7,ad7,aeA h1,aeA h2]at this;simpa using this
structure aoe (l:apY) (s w:apU):Prop where
 chain:∀i,i+1<w.length->(l.getD (w.getD i 0).toNat az).bY≠1/\w.getD (i+1) 0=gX (l.getD (w.getD i 0).toNat az) (s.getD (w.getD i 0).toNat 0)
 last:∀i,i+1=w.length->(l.getD (w.getD i 0).toNat az).bY=1
def gw (n lo hi:Int):gb n lo hi (cn n lo hi):=rfl
def Sn (hl:l.length<=2000000):iW l (l.any IJ):=
 A2 (DF (p:=zI) (P:=IJ) (λ _ _=>rfl) om) (j7 _ _)
def MV {p a:Int} (ha : -2000000<=a/\a<=2000000):tM p a (!cn p 0 (a - 1)):=
 iU (aF (by unfold av;omega) (ar (sJ (gw _ _ _)) λ v hv=>by subst hv;exact ai rfl))
def So {l:apU} {a:Int} (ha : -2000000<=a/\a<=2000000) (hl:l.length<=2000000):kM l a (l.any λ y=>!cn y 0 (a - 1)):=
 A2 (DF (p:=λ x=>tM x a) (P:=λ y=>!cn y 0 (a - 1)) (λ _ _=>MV ha) om) (j7 _ _)
def OU {l:apU} {v:Int} (hl:l.length<=2000000):slices_Contains_int l v (l.contains v):=by
 refine A2 (abl (P:=λ x=>v==x) om) ?_;rw[j7];exact(List.contains_eq_any_beq).symm
def rX {l:apU} (hl:l.length<=2000000):jS l lo hi (rU lo hi [] l):=by
 refine iU (abm l.length (λ i=>rU lo hi (l.take i) (l.drop i)=rU lo hi [] l) ?_ rfl);intro self i hi1 hi2 ih;apply br<;>intro c
 ·have c:=afj c;have hlt:i<l.length:=by omega
  rw[drop_cons 0 hlt]at hi2;refine aF om ?_;refine ar (sJ (gw _ _ _)) λ v hv=>?_;subst hv;refine aF (λ _=>by omega) ?_;refine ar (dT λ _=>OU (by simp;omega)) λ v hv=>?_;subst hv;apply br<;>intro c2
  ·refine ai ?_;rw[<- hi2,NP (pre:=l.take i) (n:=l.getD i 0) c2]
  refine aF (by unfold av;omega) (ih hlt ?_);rw[<- hi2,Sj (pre:=l.take i) (n:=l.getD i 0) c2,eI 0 hlt]
 have c:=ahT c;refine ai ?_;rw[<- hi2,ajU om];rfl
def IP {a b:apU} (hl:a.length<=2000000):slices_Equal_int a b (a==b):=by
 refine iU (br (λ c=>?_) (λ c=>?_))
 ·refine ai ?_;have:a≠b:=λ h=>by subst h;simp at c
  exact(ajP.2 this).symm
 have hlen:a.length=b.length:=by simp at c;omega
 refine abm a.length (λ i=>(a==b)=(a.drop i==b.drop i)) ?_ rfl;intro self i hi1 hi2 ih;apply br<;>intro c
 ·have c:=afj c;have hlt:i<a.length:=by omega
  rw[drop_cons 0 hlt,drop_cons 0 (show i<b.length by omega)]at hi2;refine aF om (aF om ?_);apply br<;>intro c2
  ·refine ai ?_;rw[hi2];simp at c2;simp[c2]
  refine aF (by unfold av;omega) (ih hlt ?_);rw[hi2];simp at c2;simp[c2]
 have c:=ahT c;refine ai ?_;rw[hi2,ajU om,ajU om];rfl
def Qc (hk : -2000000<=k/\k<=2000000) (hp:c.aN.length<=2000000) (hc:c.aE.length<=2000000):ED c k (iJ c k):=by
 refine iU ?_;refine ar (sJ (So hk hp)) λ v1 hv=>?_;subst hv;refine ar (dT λ _=>gw c.cY 0 4000000000) λ v hv=>?_;subst hv;refine ar (dT λ _=>gw c.ij 0 c.cY) λ v hv=>?_;subst hv;apply br<;>intro h
 ·refine ai ?_;unfold iJ;rw[h];rfl
 have hv:iJ c k=eW c:=by unfold iJ;rw[h];rfl
 rw[hv];apply br<;>intro k1
 ·refine aF (λ h=>by simp at h;omega) ?_;refine ar (dT λ _=>gw (c.aE.getD 0 0) 1 4000000000) λ v hv=>?_;subst hv;refine ai ?_;unfold eW;rw[k1];rfl
 apply br<;>intro k2
 ·rw[k2];refine ar (dT λ _=>rX hc) λ v hv=>?_;subst hv;refine ai ?_;unfold eW;rw[k1,k2];rfl
 apply br<;>intro k3
 ·refine ar (dT λ _=>rX hc) λ v hv=>?_;subst hv;refine ai ?_;unfold eW;rw[k1,k2,k3];rfl
 apply br<;>intro k4
 ·refine aF (λ _=>by unfold av;omega) ?_;refine ar (dT λ _=>rX hc) λ v hv=>?_;subst hv;refine ai ?_;unfold eW;rw[k1,k2,k3,k4];rfl
 apply br<;>intro k5
 ·apply br<;>intro h1
  ·refine ar (dT λ _=>IP hc) λ v hv=>?_;subst hv;refine ai ?_;unfold eW;rw[k1,k2,k3,k4,k5];rfl
  refine ai ?_;unfold eW;rw[k1,k2,k3,k4,k5];simp at h1;simp[h1]
 refine ai ?_;unfold eW;rw[k1,k2,k3,k4,k5];rfl
def set_mid (a:List α) (x y:α) (z:List α):(a++x::z).set a.length y=a++y::z:=by
 rw[List.set_append_right _ _ (afM _),aow];rfl
def o0 (hl:l.length<=2000000):mU l (cB l):=by
 refine iU ?_;refine ar (dT λ _=>Sn hl) λ v hv=>?_;subst hv;apply br<;>intro h
 ·refine ai ?_;unfold cB;rw[h];rfl
 have hb3:(decide (16<(l.length:Int))||l.any IJ)=false:=h;have h16:l.length<=16:=by simp at hb3;omega
 have hbig:∀i:Nat,i<l.length->IJ (l.getD i az)=false:=kr az (by simp only[afr]at hb3;exact hb3.2);refine abm l.length (λ i=>∀j:Nat,j<i->iJ (l.getD j az) j=true) ?_ (λ j hj=>absurd hj (ag9 j));intro self i hi1 hi2 ih;apply br<;>intro h2
 ·have hlt:i<l.length:=by have:=afj h2;omega
  have hbl:=FF (hbig i hlt);refine aF om ?_;refine ar (sJ (Qc (c:=l.getD i az) (k:=i) om om om)) λ v hv=>?_;subst hv;apply br<;>intro h3
  ·refine ai ?_;unfold cB;rw[hb3,IL hlt (by simpa using h3)];rfl
  refine aF (by unfold av;omega) (ih hlt λ j hj=>?_);by_cases hji:j=i
  ·subst hji;simpa using h3
  exact hi2 j om
 have hil:i=l.length:=by have:=ahT h2;omega
 subst hil;have hall:=Q1 hi2;refine aF ⟨om,by show(l.length:Int)*8<=140737488355328;omega⟩ ?_;refine bu (λ g:Int×Int×apU=>∃i:Nat,g=(jz (l.take i),(i:Int),eN (l.take i)++List.replicate (l.length - i) 0)/\i<=l.length/\jz (l.take i)<=4096/\∀j:Nat,j<i->(λ n=>decide (4<n)) ((eN l).getD j 0)=false) (λ g=>(l.length - g.2.1).toNat) ?_ ⟨0,rfl,om,by rw[aoW];decide,λ j hj=>absurd hj (ag9 j)⟩;rintro cy g ⟨i,rfl,hj1,hj2,hj3⟩ ih2;apply br<;>intro h3
 ·have hlt:i<l.length:=by have:(i:Int)<(l.length:Int):=afj h3;omega
  refine aF (by show 0<=(i:Int)/\(i:Int)<(l.length:Int);omega) ?_;obtain⟨hfl,hb⟩:=gq (l.take i);rw[take_len hj1]at hfl hb;have hpi:=(Uw hi2 hbig) i hlt;have hsn:eN (l.take (i+1))=eN (l.take i)++[Cb (eN (l.take i)) (l.getD i az)]:=by rw[eI az hlt,wW]
  have hpm:=Cc (eN (l.take i)) i om hb;have hrep:List.replicate (l.length - i) (0:Int)=0::List.replicate (l.length - i - 1) 0:=by
   rw[show l.length - i=(l.length - i - 1)+1 by omega];rfl
  have hcut:W (pj l (jz (l.take i),(i:Int),eN (l.take i)++List.replicate (l.length - i) 0) cy (eN (l.take i)++Cb (eN (l.take i)) (l.getD i az)::List.replicate (l.length - i - 1) 0)) (λ r=>r=cB l):=by
   have hbl:=FF (hbig i hlt);have hpb:=FG (l.take i);have aof:0<=jz (l.take i)*((l.getD i az).aE.length:Int)/\jz (l.take i)*((l.getD i az).aE.length:Int)<=4096*8:=⟨aoc hpb.1 om,apz hj2 om om om⟩;have hpe:jz (l.take (i+1))=jz (l.take i)*((l.getD i az).aE.length:Int):=by
    rw[eI az hlt,IM];unfold MT;rw[aeV om]
   have hfi:(eN l).getD i 0=Cb (eN (l.take i)) (l.getD i az):=by
    rw[Ld l (i+1) i om hlt,hsn,gU 0 hfl.symm]
   refine aF (by show av (jz (l.take i)*((l.getD i az).aE.length:Int));unfold av;omega) ?_;refine aF (λ _=>by simp[hfl];omega) ?_;apply br<;>intro h5
   ·have h5:(decide (4096<jz (l.take i)*((l.getD i az).aE.length:Int))||decide (4<(eN (l.take i)++Cb (eN (l.take i)) (l.getD i az)::List.replicate (l.length - i - 1) 0).getD i 0))=true:=h5;rw[gU 0 hfl.symm,<- hfi,<- hpe]at h5;refine ai ?_;unfold cB;rw[hb3,hall];have:(decide (4096<jz l)||(eN l).any (λ n=>decide (4<n)))=true:=by
     rw[aiG]at h5 ⊢;rcases h5 with h5 | h5
     ·left;have h5:=afj h5;have hm:=WD l (λ c hc=>by
       obtain⟨k,hk,rfl⟩:=ahZ.1 hc;have:=FH (iK (hi2 k hk));rwa [ad7,aeA hk]at this) (i+1)
      exact afl om
     right;exact rW (p:=λ n=>decide (4<n)) 0 (by rw[(gq l).1];exact hlt) h5
    rw[this];rfl
   have h5:(decide (4096<jz (l.take i)*((l.getD i az).aE.length:Int))||decide (4<(eN (l.take i)++Cb (eN (l.take i)) (l.getD i az)::List.replicate (l.length - i - 1) 0).getD i 0))=false:=h5;rw[gU 0 hfl.symm,<- hfi,<- hpe]at h5;rw[afr]at h5;refine aF (by show av ((i:Int)+1);unfold av;omega) ?_;refine ih2 _ ⟨i+1,?_,hlt,by have:=ahT h5.1;omega,λ j hj=>?_⟩ (by show(l.length - ((i:Int)+1)).toNat<(l.length - (i:Int)).toNat;omega)
   ·rw[hsn,aot,show l.length - (i+1)=l.length - i - 1 by omega,hpe];rfl
   by_cases hji:j=i
   ·subst hji;exact h5.2
   exact hj3 j om
  refine bu (λ g:Int×apU=>∃j:Nat,g=((j:Int),eN (l.take i)++jm (eN (l.take i)) ((l.getD i az).aN.take j)::List.replicate (l.length - i - 1) 0)/\j<=(l.getD i az).aN.length) (λ g=>((l.getD i az).aN.length - g.1).toNat) ?_ ⟨0,by rw[hrep];rfl,ahU _⟩;rintro ky g ⟨j,rfl,hj⟩ ih7;apply br<;>intro h4
  ·have hjl:j<(l.getD i az).aN.length:=by have:(j:Int)<((l.getD i az).aN.length:Int):=afj h4;omega
   have hin:=hpi.2 ((l.getD i az).aN.getD j 0) (fe 0 hjl);refine aF (by show 0<=(j:Int)/\(j:Int)<((l.getD i az).aN.length:Int);omega) ?_;refine aF (by show 0<=(i:Int)/\(i:Int)<(((eN (l.take i)++jm (eN (l.take i)) ((l.getD i az).aN.take j)::List.replicate (l.length - i - 1) 0).length:Nat):Int);simp[hfl];omega) ?_;refine aF (by show 0<=(l.getD i az).aN.getD j 0/\(l.getD i az).aN.getD j 0<(((eN (l.take i)++jm (eN (l.take i)) ((l.getD i az).aN.take j)::List.replicate (l.length - i - 1) 0).length:Nat):Int);rw[aeU,hfl,ahP];omega) ?_;refine aF (by show 0<=(i:Int)/\(i:Int)<(((eN (l.take i)++jm (eN (l.take i)) ((l.getD i az).aN.take j)::List.replicate (l.length - i - 1) 0).length:Nat):Int);simp[hfl];omega) ?_;refine aF (by show av ((j:Int)+1);unfold av;have:=hpi.1;omega) ?_;refine ih7 _ ⟨j+1,?_,hjl⟩ (by show((l.getD i az).aN.length - ((j:Int)+1)).toNat<((l.getD i az).aN.length - (j:Int)).toNat;omega);have e:jm (eN (l.take i)) ((l.getD i az).aN.take (j+1))=Ha ((eN (l.take i)++jm (eN (l.take i)) ((l.getD i az).aN.take j)::List.replicate (l.length - i - 1) 0).getD i 0) ((eN (l.take i)++jm (eN (l.take i)) ((l.getD i az).aN.take j)::List.replicate (l.length - i - 1) 0).getD ((l.getD i az).aN.getD j 0).toNat 0):=by
    rw[gU 0 hfl.symm,gT 0 om];unfold jm;rw[pL _ _ 0 hjl]
   rw[e];have hs:=set_mid (eN (l.take i)) (jm (eN (l.take i)) ((l.getD i az).aN.take j)) (Ha ((eN (l.take i)++jm (eN (l.take i)) ((l.getD i az).aN.take j)::List.replicate (l.length - i - 1) 0).getD i 0) ((eN (l.take i)++jm (eN (l.take i)) ((l.getD i az).aN.take j)::List.replicate (l.length - i - 1) 0).getD ((l.getD i az).aN.getD j 0).toNat 0)) (List.replicate (l.length - i - 1) 0);rw[hfl]at hs;rw[<- hs];rfl
  have hje:j=(l.getD i az).aN.length:=by have:¬ (j:Int)<((l.getD i az).aN.length:Int):=ahT h4;omega
  subst hje;rw[agt];have hpx:=hpm (l.getD i az).aN;apply br<;>intro h5
  ·have hlen:0<=(i:Int)/\(i:Int)<(((eN (l.take i)++jm (eN (l.take i)) (l.getD i az).aN::List.replicate (l.length - i - 1) 0).length:Nat):Int):=by simp[hfl];omega
   refine aF hlen ?_;refine aF (by show av ((eN (l.take i)++jm (eN (l.take i)) (l.getD i az).aN::List.replicate (l.length - i - 1) 0).getD i 0+1);rw[gU 0 hfl.symm];unfold av;omega) ?_;refine aF hlen ?_;have e:Cb (eN (l.take i)) (l.getD i az)=(eN (l.take i)++jm (eN (l.take i)) (l.getD i az).aN::List.replicate (l.length - i - 1) 0).getD i 0+1:=by
    rw[gU 0 hfl.symm];unfold Cb IK;rw[show((l.getD i az).bY==2||(l.getD i az).bY==3)=true from h5];rfl
   have hs:=set_mid (eN (l.take i)) (jm (eN (l.take i)) (l.getD i az).aN) (Cb (eN (l.take i)) (l.getD i az)) (List.replicate (l.length - i - 1) 0);rw[hfl]at hs;rw[<- hs,e]at hcut;exact hcut
  have e:Cb (eN (l.take i)) (l.getD i az)=jm (eN (l.take i)) (l.getD i az).aN:=by
   unfold Cb IK;rw[show((l.getD i az).bY==2||(l.getD i az).bY==3)=false from h5];rfl
  rw[e]at hcut;exact hcut
 have hil:i=l.length:=by have:¬ (i:Int)<(l.length:Int):=ahT h3;omega
 subst hil;refine ai ?_;rw[agt]at hj2;unfold cB;rw[hb3,hall,afe (show ¬ 4096<jz l by omega),any_none (p:=λ n=>decide (4<n)) 0 (by rw[(gq l).1];exact hj3)];rfl
def UB {a b:Int} (ha:0<=a) (hb:0<b):fB b (a.tmod b)=fB a b:=by
 unfold fB;rw[anT ha,show(a % b).toNat=a.toNat % b.toNat from Int.toNat_emod ha om,Nat.gcd_comm a.toNat,Nat.gcd_rec b.toNat a.toNat,Nat.gcd_comm]
def OV {x M e:Int} (hM:0<=M) (he:0<e) (hx:0<=x) (h:x<=M.tdiv e):0<=x*e/\x*e<=M:=by
 rw[al4 hM]at h;exact⟨aoc hx om,(Int.le_ediv_iff_mul_le he).1 h⟩
def Lg {x y X Y:Int} (h1:0<=x) (h2:x<=X) (h3:0<=y) (h4:y<=Y):0<=y*x/\y*x<=Y*X:=
 ⟨aoc h3 h1,apz h4 h2 h1 om⟩
def tR {a_:Int} {b_:Int} (h1:0<=a_) (h2:0<=b_):W (mX a_ b_) (λ r=>r=fB a_ b_):=by
 unfold mX;refine bu (λ(g1:Int×Int)=>0<=g1.1/\0<=g1.2/\fB g1.1 g1.2=fB a_ b_) (λ(g1:Int×Int)=>g1.2.toNat) ?_ ?_
 ·intro ab g1 cN bQ;obtain⟨cz,bB,bA⟩:=cN;unfold EP;refine wi ?_ ?_<;>intro c1
  ·refine wn<|bQ _ ?_ ?_
   ·(refine⟨ob,anR _ om,?_⟩;dsimp only;rw[<- bA];exact UB om om)
   (dsimp only;have:=JP g1.1 g1.2 om;have:=anR (a:=g1.1) g1.2 om;omega)
  refine ai ?_;(rw[<- bA];unfold fB;have e:g1.2=0:=c1;rw[e];simp;omega)
 exact ob
variable {r_:bx}
def wI:W (pM r_) (λ r=>r=kp r_):=by
 unfold pM;refine ar (dT λ hc=>iU (tR (by have hc:=cG hc;omega) (by have hc:=cG hc;omega))) λ v1 hv1=>?_;subst v1;refine ai ?_;rfl
def Qd {lF:Int} {nL:Int} {iA:Int} (h1:0<=lF) (h2:lF<=144115188075855872) (h3:1<=nL) (h4:nL<=16777216) (h5:1<=iA) (h6:iA<=64):W (yJ lF nL iA) (λ r=>r=(lF.tdiv (fB lF iA),nL*iA.tdiv (fB lF iA))):=by
 unfold yJ;refine ar (tR ob ob) λ v1 hv1=>?_;subst v1;have hg:=uN lF iA om;have q1:=tdiv_le lF _ om hg;have q2:=tdiv_le iA _ om hg;have q3:=Lg q2.1 (show iA.tdiv (fB lF iA)<=64 by omega) (show 0<=nL by omega) h4;refine wm<|wn ?_;refine ai ?_;rfl
def OW {ru:Int} {rv:Int} (h1:ru<=4611686018427387904) (h2:rv<=4611686018427387904):W (ER ru rv) (λ r=>r=newR ru rv):=by
 unfold ER;apply br<;>intro c1
 ·have dc:=c1;have c1:=cG c1;refine ai ?_;(unfold newR;rw[dc];rfl)
 have dc:=c1;have c1:=cG c1;have hg:=uN ru rv om;have q1:=tdiv_le ru _ om hg;have q2:=tdiv_le rv _ om hg;refine ar (tR ob ob) λ v1 hv1=>?_;subst v1;refine wm<|ar (wI) λ v2 hv2=>?_;subst v2;apply br<;>intro c2
 ·have fX:=c2;have c2:=cG c2;refine ai ?_;(unfold newR;rw[dc];simp only[ags];rw[fX];rfl)
 have fX:=c2;have c2:=cG c2;refine ai ?_;(unfold newR;rw[dc];simp only[ags];rw[fX];rfl)
def Qe {lG:Int} {lH:Int} {lI:Int} (h1:r_.ga=lG) (h2:r_.fx=lH) (h3:k_=lI):W (yK r_ k_ lG lH lI) (λ r=>r=uO r_ k_):=by
 subst h1 h2 h3;unfold yK;refine ar (wI) λ v1 hv1=>?_;subst v1;apply br<;>intro c1
 ·have dc:=c1;have c1:=cG c1;refine ai ?_;(unfold uO;rw[dc];rfl)
 have dc:=c1;have c1:=cG c1;have hv:=jd (r:=r_) (by simpa using dc);refine wi ?_ ?_<;>intro c2
 ·refine ai ?_;(unfold uO rV;rw[dc];simp only[ags];rw[show(!(decide (1<=k_)&&decide (k_<=64)))=true by simp;omega];rfl)
 refine ar (Qd ob ob ob ob ob ob) λ v2 hv2=>?_;subst v2;have hg:=uN r_.ga k_ om;have q1:=tdiv_le r_.ga _ hv.1 hg;have q2:=tdiv_le k_ _ om hg;have q3:=Lg q2.1 (show k_.tdiv (fB r_.ga k_)<=64 by omega) (show 0<=r_.fx by omega) hv.2.2.2.1;refine ar (OW ob ob) λ v3 hv3=>?_;subst v3;refine ai ?_;(unfold uO rV;rw[dc];simp only[ags];rw[show(!(decide (1<=k_)&&decide (k_<=64)))=false by simp;omega];exact Y4 _ _ _ hv.1 om om)
def UC:W (GL r_ k_) (λ r=>r=uO r_ k_):=by
 unfold GL;refine ar (Qe rfl rfl rfl) λ v1 hv1=>?_;subst v1;refine ai ?_;rfl
def OX {pk:Int} {jj:Int} {gB:Int} (h1:1<=pk) (h2:pk<=64) (h3:0<=jj) (h4:jj<=144115188075855872) (h5:1<=gB) (h6:gB<=16777216):W (vZ pk jj gB) (λ r=>r=(bif decide ((144115188075855872:Int).tdiv (pk.tdiv (fB pk gB))<jj)then(-1,1)else(jj*(pk.tdiv (fB pk gB)),gB.tdiv (fB pk gB)))):=by
 unfold vZ;refine ar (tR ob ob) λ v1 hv1=>?_;subst v1;have hg:=uN pk gB om;have q1:=tdiv_le pk _ om hg;have q2:=tdiv_le gB _ om hg;have q4:=agY pk gB om om;have q5:=tdiv_le 144115188075855872 _ om (show 0<pk.tdiv (fB pk gB) by omega);refine wm<|br ?_ ?_<;>intro c1
 ·have dc:=c1;have c1:=cG c1;refine ai ?_;(rw[dc];rfl)
 have dc:=c1;have c1:=cG c1;have q3:=OV (x:=jj) (M:=144115188075855872) (e:=pk.tdiv (fB pk gB)) om om om c1;refine wm<|wn ?_;refine ai ?_;(rw[dc];rfl)
def Lh {lG:Int} {lH:Int} {lI:Int} (h1:k_=lG) (h2:r_.ga=lH) (h3:r_.fx=lI):W (ry r_ k_ lG lH lI) (λ r=>r=mC r_ k_):=by
 subst h1 h2 h3;unfold ry;refine ar (wI) λ v1 hv1=>?_;subst v1;apply br<;>intro c1
 ·have dc:=c1;have c1:=cG c1;refine ai ?_;(unfold mC;rw[dc];rfl)
 have dc:=c1;have c1:=cG c1;have hv:=jd (r:=r_) (by simpa using dc);refine wi ?_ ?_<;>intro c2
 ·refine ai ?_;(unfold mC rV;rw[dc];simp only[ags];rw[show(!(decide (1<=k_)&&decide (k_<=64)))=true by simp;omega];rfl)
 refine ar (OX ob ob ob ob ob ob) λ v2 hv2=>?_;subst v2;have hg:=uN k_ r_.fx om;have q1:=tdiv_le k_ _ om hg;have q2:=tdiv_le r_.fx _ om hg;have q4:=agY k_ r_.fx om om;have q3:=Lg (show 0<=k_.tdiv (fB k_ r_.fx) by omega) q4.2 hv.1 hv.2.1;have q6:∀M:Int,M.tdiv (k_.tdiv (fB k_ r_.fx))<r_.ga\/r_.ga<=M.tdiv (k_.tdiv (fB k_ r_.fx)):=λ M=>by omega
 refine ar (OW (by cases hd:decide ((144115188075855872:Int).tdiv (k_.tdiv (fB k_ r_.fx))<r_.ga)with | true=>(simp only[ahX];omega) | false=>(have q7:=OV (x:=r_.ga) (M:=144115188075855872) (e:=k_.tdiv (fB k_ r_.fx)) om om om (by have:=ahT hd;omega);simp only[ags];omega)) (by cases hd:decide ((144115188075855872:Int).tdiv (k_.tdiv (fB k_ r_.fx))<r_.ga)with | true=>(simp only[ahX];omega) | false=>(have q7:=OV (x:=r_.ga) (M:=144115188075855872) (e:=k_.tdiv (fB k_ r_.fx)) om om om (by have:=ahT hd;omega);simp only[ags];omega))) λ v3 hv3=>?_;subst v3;refine ai ?_;(unfold mC rV;rw[dc];simp only[ags];rw[show(!(decide (1<=k_)&&decide (k_<=64)))=false by simp;omega];simp only[ags];cases hd:decide ((144115188075855872:Int).tdiv (k_.tdiv (fB k_ r_.fx))<r_.ga)<;>rfl)
def Sq:W (BV r_ k_) (λ r=>r=mC r_ k_):=by
 unfold BV;refine ar (Lh rfl rfl rfl) λ v1 hv1=>?_;subst v1;refine ai ?_;rfl
def tS {vX:Int} {kN:Int}:W (mY r_ vX kN) (λ r=>r=mM r_ vX kN):=by
 unfold mY;refine ar (wI) λ v1 hv1=>?_;subst v1;apply br<;>intro c1
 ·have dc:=c1;have c1:=cG c1;refine ai ?_;(unfold mM;rw[show kp r_=false by simpa using dc];rfl)
 have dc:=c1;have c1:=cG c1;have hv:=jd (r:=r_) (by simpa using dc);have q1:=tdiv_le r_.ga r_.fx hv.1 om;refine wm<|ai ?_;(unfold mM;rw[show kp r_=true by simpa using dc];rfl)
def A6 {m:ap4} (h:iL l m=true):∀x∈m,A4 l.length x=false:=λ x hx=>by
 obtain⟨_,_,h1⟩:=xK h;obtain⟨i,hi,rfl⟩:=ahZ.1 hx;have:=h1 i hi;rwa [ad7,aeA hi]at this
def A7 {v:bx} {L:ap5} (hL:L=pV l s i++List.replicate (l.length - i) cD) (hi:i<l.length) (e:Qa (pV l s i) (l.getD i az) (s.getD i 0)=v) {k:Nat} (hk:k=i+1:=by omega):L.set i v=pV l s k++List.replicate (l.length - k) cD:=by
 subst hk hL;have hrl:=pW l s i;have hrep:List.replicate (l.length - i) cD=cD::List.replicate (l.length - (i+1)) cD:=by
  rw[show l.length - i=(l.length - (i+1))+1 by omega];rfl
 rw[hrep,List.set_append_right _ _ om,hrl,aow,pV,e,aot];rfl
def Li {x_:aP} {iA:apY} (h1:iA.length<=2000000):W (mW x_ iA) (λ r=>r=A4 iA.length x_):=by
 unfold mW;refine wn<|ar (sJ (gw _ _ _)) λ v1 hv1=>?_;subst v1;refine ar (dT λ hc=>gw _ _ _) λ v2 hv2=>?_;subst v2;refine ar (dT λ hc=>gw _ _ _) λ v3 hv3=>?_;subst v3;refine ai ?_;rfl
def tu {s_:ap4} {f_:apY} (h1:s_.length<=2000000) (h2:f_.length<=2000000):W (iY s_ f_) (λ r=>r=s_.any (A4 f_.length)):=
 sJ (A2 (DF (p:=λ x=>mW x f_) (P:=A4 f_.length) (λ x hx=>iU (Li h2)) om) (j7 _ _))
variable {l_:apY}
def FK {m_:ap4} (h1:l_.length<=2000000) (h2:m_.length<=2000000):W (rq l_ m_) (λ r=>r=iL l_ m_):=by
 unfold rq;refine ar (sJ (o0 ob)) λ v1 hv1=>?_;subst v1;refine ar (dT λ hc=>iU (tu ob ob)) λ v2 hv2=>?_;subst v2;refine ai ?_;rfl
variable {s_:apU}
def vn (h1:l_.length<=2000000) (h2:s_.length<=2000000) (h3:P9 l_):W (mv l_ s_) (λ r=>r=gQ l_ s_):=by
 unfold mv;apply br<;>intro c1
 ·have dc:=c1;have c1:=cG c1;refine ai ?_;(unfold gQ;rw[show((s_.length:Int)==(l_.length:Int))=false by simpa using dc];rfl)
 have dc:=c1;have c1:=cG c1;have he:((s_.length:Int)==(l_.length:Int))=true:=by simpa using dc
 refine bu (λ(g1:Int)=>0<=g1/\g1<=s_.length/\(∀j:Nat,(j:Int)<g1->cn (s_.getD j 0) 0 ((l_.getD j az).aE.length - 1)=true)) (λ(g1:Int)=>(s_.length - g1).toNat) ?_ ?_
 ·intro ab g1 cN bQ;obtain⟨cz,bB,bA⟩:=cN;unfold Ay;refine wi ?_ ?_<;>intro c2
  ·have hch:=h3 g1.toNat om;refine wm<|wn ?_;refine ar (sJ (gw _ _ _)) λ v3 hv3=>?_;subst v3;apply br<;>intro c3
   ·have fM:=c3;have c3:=cG c3;refine ai ?_;(unfold gQ;rw[he,nu (i:=g1.toNat) om (by simpa using fM)];rfl)
   have fM:=c3;have c3:=cG c3;refine wn<|bQ _ ?_ ?_
   ·(refine⟨ob,ob,λ j hj=>?_⟩;by_cases q:j<g1.toNat;(exact bA j om);(have e:j=g1.toNat:=by omega);subst e;simpa using fM)
   exact ob
  refine ai ?_;(unfold gQ;rw[he,oZ λ j hj=>bA j om];rfl)
 (refine⟨ob,ob,λ j hj=>by omega⟩)
def OY {fN:Int} (h1:0<=fN) (h2:fN<l_.length) (h3:fN<s_.length) (h4:OT (l_.getD fN.toNat az) (s_.getD fN.toNat 0)):W (vY l_ s_ fN) (λ r=>r=gX (l_.getD fN.toNat az) (s_.getD fN.toNat 0)):=by
 have hp:=h4;unfold OT at hp;unfold vY;refine wn<|br ?_ ?_<;>intro c1
 ·have dc:=c1;have c1:=cG c1;refine ai ?_;(unfold gX;rw[dc];rfl)
 have dc:=c1;have c1:=cG c1;apply br<;>intro c2
 ·have fX:=c2;have c2:=cG c2;refine wm<|wn ?_;refine ai ?_;(unfold gX;rw[dc,fX];rfl)
 have fX:=c2;have c2:=cG c2;refine wn<|ai ?_;(unfold gX;rw[dc,fX];rfl)
def H8 (h1:Good l_ s_):W (qe l_ s_) (λ r=>r=dx l_ s_):=by
 obtain⟨q1,q2,q3,q4,q5⟩:=h1;unfold qe;refine wn<|bu (λ(g1:Int×ap5)=>0<=g1.1/\g1.1<=l_.length/\g1.2=pV l_ s_ g1.1.toNat++List.replicate (l_.length - g1.1.toNat) cD) (λ(g1:Int×ap5)=>(l_.length - g1.1).toNat) ?_ ?_
 ·intro ab g1 cN bQ;obtain⟨cz,bB,bA⟩:=cN;unfold xm;refine wi ?_ ?_<;>intro c1
  ·have hlt:g1.1.toNat<l_.length:=om;have hch:=q3 _ hlt;have hpar:=q5 _ hlt;have hpc:=q4 _ hlt;have hrl:=pW l_ s_ g1.1.toNat;have hgl:g1.2.length=l_.length:=(by rw[bA,aeU,hrl,aj9];omega);refine wm<|wn ?_;refine ar (OY ob ob ob ob) λ v7 hv7=>?_;subst v7;apply br<;>intro c2
   ·have fX:=c2;have c2:=cG c2;refine wm<|bQ _ ?_ ?_
    ·(refine⟨ob,ob,?_⟩;dsimp only;exact A7 bA om (by unfold Qa;rw[fX];rfl))
    exact ob
   have fX:=c2;have c2:=cG c2;have hget:g1.2.getD (gX (l_.getD g1.1.toNat az) (s_.getD g1.1.toNat 0)).toNat cD=(pV l_ s_ g1.1.toNat).getD (gX (l_.getD g1.1.toNat az) (s_.getD g1.1.toNat 0)).toNat cD:=by rw[bA];exact gT _ om
   refine wn<|br ?_ ?_<;>intro c3
   ·have fM:=c3;have c3:=cG c3;refine wm<|bQ _ ?_ ?_
    ·(refine⟨ob,ob,?_⟩;dsimp only;exact A7 bA om (by unfold Qa;rw[fX,<- hget,show(nv _||_)=true from fM];rfl))
    exact ob
   have fM:=c3;have c3:=cG c3;apply br<;>intro c4
   ·have lR:=c4;have c4:=cG c4;refine wn<|ar (UC) λ v8 wJ=>?_;subst v8;refine wm<|bQ _ ?_ ?_
    ·(refine⟨ob,ob,?_⟩;dsimp only;exact A7 bA om (by unfold Qa;rw[fX,<- hget,show(nv _||_)=false from fM,lR];rfl))
    exact ob
   have lR:=c4;have c4:=cG c4;apply br<;>intro c5
   ·have sN:=c5;have c5:=cG c5;refine wn<|ar (Sq) λ v9 Lj=>?_;subst v9;refine wm<|bQ _ ?_ ?_
    ·(refine⟨ob,ob,?_⟩;dsimp only;exact A7 bA om (by unfold Qa;rw[fX,<- hget,show(nv _||_)=false from fM,lR,sN];rfl))
    exact ob
   have sN:=c5;have c5:=cG c5;refine wm<|wn ?_;refine bQ _ ?_ ?_
   ·(refine⟨ob,ob,?_⟩;dsimp only;exact A7 bA om (by unfold Qa;rw[fX,<- hget,show(nv _||_)=false from fM,lR,sN];rfl))
   exact ob
  refine ai ?_;(rw[bA,show g1.1.toNat=l_.length by omega,aow];simp[dx])
 (refine⟨ob,ob,?_⟩;simp[pV])
def MW {x_:aP} {iA:ap5} (h1:0<=x_.cF) (h2:x_.cF<iA.length):W (oN x_ iA) (λ r=>r=FI iA x_):=by
 unfold oN;refine wm<|ar (dT λ hc=>iU (tS)) λ v1 hv1=>?_;subst v1;refine ai ?_;rfl
def qK {s_:ap4} {f_:ap5} (h1:s_.length<=2000000) (h2:∀x∈s_,0<=x.cF/\x.cF<f_.length):W (gC s_ f_) (λ r=>r=s_.any (FI f_)):=
 sJ (A2 (DF (p:=λ x=>oN x f_) (P:=FI f_) (λ x hx=>iU (MW (h2 x hx).1 (h2 x hx).2)) om) (j7 _ _))
def Qf {m_:ap4} (h1:l_.length<=2000000) (h2:s_.length<=2000000) (h3:m_.length<=2000000) (h4:P9 l_):W (yL l_ s_ m_) (λ r=>r=cK l_ s_ m_):=by
 unfold yL;refine ar (FK ob ob) λ v1 hv1=>?_;subst v1;refine ar (dT λ hc=>iU (vn ob ob ob)) λ v2 hv2=>?_;subst v2;apply br<;>intro c1
 ·have dc:=c1;have c1:=cG c1;refine ai ?_;(unfold cK;rw[show(iL l_ m_&&gQ l_ s_)=false from aiI.2 c1];rfl)
 have dc:=c1;have c1:=cG c1;have hls:iL l_ m_=true/\gQ l_ s_=true:=by simpa using dc
 obtain⟨hck,hml,hmb⟩:=xK hls.1;have hgd:=JU (nY hck) hls.2;have hrl:(dx l_ s_).length=l_.length:=pW _ _ _;refine ar (H8 ob) λ v3 hv3=>?_;subst v3;refine bu (λ(g1:Int)=>0<=g1/\g1<=l_.length/\(∀j:Nat,(j:Int)<g1->WE ((dx l_ s_).getD j cD) (l_.getD j az)=false)) (λ(g1:Int)=>(l_.length - g1).toNat) ?_ ?_
 ·intro ab g1 cN bQ;obtain⟨cz,bB,bA⟩:=cN;unfold ES;refine wi ?_ ?_<;>intro c2
  ·refine wm<|wn ?_;refine ar (dT λ hc=>iU (tS)) λ v6 hv6=>?_;subst v6;apply br<;>intro c3
   ·have fM:=c3;have c3:=cG c3;refine ai ?_;(unfold cK;rw[hls.1,hls.2,show ownB l_ (dx l_ s_)=false from nu (i:=g1.toNat) om (by rw[show WE ((dx l_ s_).getD g1.toNat cD) (l_.getD g1.toNat az)=true from fM];rfl)];rfl)
   have fM:=c3;have c3:=cG c3;refine wn<|bQ _ ?_ ?_
   ·(refine⟨ob,ob,λ j hj=>?_⟩;by_cases q:j<g1.toNat;(exact bA j om);(have e:j=g1.toNat:=by omega);subst e;exact fM)
   exact ob
  refine ar (qK ob (λ x hx=>by rw[hrl];exact(FJ (A6 hls.1 x hx)).1)) λ v7 hv7=>?_;subst v7;refine ai ?_;(unfold cK;rw[hls.1,hls.2,show ownB l_ (dx l_ s_)=true from oZ λ j hj=>by rw[bA j om];rfl];rfl)
 (refine⟨ob,ob,λ j hj=>by omega⟩)
def zS (h1:l_.length<=2000000) (h2:s_.length<=2000000) (h3:P9 l_):W (qg l_ s_) (λ r=>r=vm l_ s_):=by
 unfold qg;refine ar (sJ (o0 ob)) λ v1 hv1=>?_;subst v1;apply br<;>intro c1
 ·have dc:=c1;have c1:=cG c1;refine ai ?_;(unfold vm;rw[dc];rfl)
 have dc:=c1;have c1:=cG c1;have hck:cB l_=0:=by simpa using dc
 refine ar (vn ob ob ob) λ v2 hv2=>?_;subst v2;apply br<;>intro c2
 ·have fX:=c2;have c2:=cG c2;refine ai ?_;(unfold vm;rw[dc,fX];rfl)
 have fX:=c2;have c2:=cG c2;have hgd:=JU (nY hck) (show gQ l_ s_=true by simpa using fX);refine ar (H8 ob) λ v3 hv3=>?_;subst v3;refine ai ?_;(unfold vm;rw[dc,fX];rfl)
end Go.Proofs.YtifekdmmpbcdgaaGreatDoor
namespace Go.Proofs.YtifekdmmpbcdgaaGreatDoor.Sp
open Go.Ab
set_option maxRecDepth 100000
deriving instance DecidableEq for an,bf,aK
structure Chn where
 over:Bool
 apk:apU
 first:Int
 last:Int
deriving DecidableEq
structure XQ where
 sO:Int
 draw:Int
 child:Int
deriving DecidableEq
def Hc:XQ:=⟨0,0,0⟩
def cn (n lo hi:Int):Bool:=decide (lo<=n)&&decide (n<=hi)
def JV (s:an):Bool:=decide (16<(s.bC.length:Int))
def ME (s:an) (k:Int):Bool:=((((!cn s.aJ (-1) (k - 1))||((s.bC.length:Int)==0))||!cn s.dR 0 5000)||(decide (s.aJ<0)&&(s.dR != 0)))||!cn s.dW 0 10000
def Hd:Int->apU->Bool
 | _,[]=>true
 | p,v::t=>!(!cn v 1 5000||decide (v<=p))&&Hd v t
def tv (s:an) (k:Int):Bool:=!ME s k&&Hd 0 s.bC
variable {i:Nat}
theorem UD {Vx:apU} (hi:i<Vx.length) {c:Bool} (hc:c=(!cn (Vx.getD i 0) 1 5000||(decide (0<(i:Int))&&decide (Vx.getD i 0<=Vx.getD (i - 1) 0)))):
  Hd (if i=0 then 0 else Vx.getD (i - 1) 0) (Vx.drop i)=(!c&&Hd (Vx.getD i 0) (Vx.drop (i+1))):=by
 rw[drop_cons 0 hi,Hd,hc];congr 2;cases h:cn (Vx.getD i 0) 1 5000 with
 | false=>rfl
 | true=>
  have h1:1<=Vx.getD i 0:=by unfold cn at h;simp at h;simpa using h.1
  by_cases h0:i=0
  ·subst h0;simp;have h1:1<=Vx.getD 0 0:=h1;have:¬ Vx.getD 0 0<=0:=by omega
   simpa using this
  have:decide (0<(i:Int))=true:=by simp;omega
  rw[this,aeV h0];simp
def OZ (n:Int) (x:bf):Bool:=((!cn x.bE 0 (n - 1)||!cn x.cY 0 5000)||!cn x.ij 0 x.cY)||!cn x.Load 0 10000
def Lk:Nat->ap1->Bool
 | _,[]=>true
 | i,s::t=>tv s i&&Lk (i+1) t
def cB (l:ap1):Int:=bif decide (16<(l.length:Int))||l.any JV then 3 else bif Lk 0 l then 0 else 1
variable {α:Type}
def kr (d:α) {p:α->Bool} {l:List α} (h:l.any p=false) (i:Nat) (hi:i<l.length):p (l.getD i d)=false:=by
 have:=fe d hi;rw[aja]at h;simpa using h _ this
def XR (n:Nat):decide ((n:Int)<1)=((n:Int)==0):=by
 by_cases h:n=0
 ·subst h;rfl
 rw[afe om];symm;simpa using h
def dY (l:ap1) (d:ap3):Bool:=((cB l==0)&&decide ((d.length:Int)<=32))&&!(d.any (OZ l.length))
def UE (n:Int) (x:bf):(((!cn x.bE 0 (n - 1)||!cn x.ij 0 x.cY)||decide (5000<x.cY))||!cn x.Load 0 10000)=OZ n x:=by
 unfold OZ;cases cn x.bE 0 (n - 1)with
 | false=>rfl
 | true=>
  cases cn x.Load 0 10000 with
  | false=>simp
  | true=>
   simp only[aj1,anU,aoC];unfold cn;by_cases h1:0<=x.ij<;>by_cases h2:x.ij<=x.cY<;>by_cases h3:5000<x.cY<;>by_cases h4:0<=x.cY<;>by_cases h5:x.cY<=5000<;>simp[h1,h2,h3,h4,h5]<;>omega
def rlN:ap1->apU->Bool
 | s::l,k::t=>cn k 0 (s.bC.length - 1)&&rlN l t
 | _,_=>true
def iM (l:ap1) (r:aK):Bool:=bif((cB l != 0)||((r.On.length:Int) != l.length))||((r.aT.length:Int) != l.length)then false else rlN l r.aT
variable {l:ap1}
def wK (h:cB l=0):l.length<=16/\(∀i,i<l.length->(l.getD i ao).bC.length<=16)/\Lk 0 l=true:=by
 unfold cB at h;cases h1:(decide (16<(l.length:Int))||l.any JV)with
 | true=>rw[h1]at h;cases h
 | false=>
  rw[h1]at h;have h2:Lk 0 l=true:=by
   cases hv:Lk 0 l with
   | true=>rfl
   | false=>rw[hv]at h;cases h
  simp only[afr]at h1;refine⟨by have:=ahT h1.1;omega,λ i hi=>?_,h2⟩;have:=kr ao h1.2 i hi;unfold JV at this;have:=ahT this;omega
def rY (l:ap1) (d:ap3):Int:=bif cB l != 0 then cB l else bif !dY l d then 1 else 0
def dB (d:α) (l:List α) (i:Nat) (v:α) (k:Nat):(l.set i v).getD k d=if k=i/\i<l.length then v else l.getD k d:=by
 rw[ad7,ad7,anY];by_cases h:i=k
 ·subst h;by_cases h2:i<l.length
  ·simp[h2]
  simp[h2]
 have:¬ (k=i/\i<l.length):=λ h'=>h h'.1.symm;simp[h,this]
def JW {α:Type} (f:Nat->α->α):Nat->α->α
 | 0,a=>a
 | k+1,a=>JW f k (f k a)
def mn (n:Nat) (d:ap3):apV:=d.foldl (λ a x=>a.set x.bE.toNat true) (List.replicate n false)
def eu (l:ap1) (i:Nat) (a:apV):apV:=
 bif(a.getD i false||(l.getD i ao).dD)&&decide (0<=(l.getD i ao).aJ)then(a.set i (a.getD i false||(l.getD i ao).dD)).set (l.getD i ao).aJ.toNat true else a.set i (a.getD i false||(l.getD i ao).dD)
def dI (l:ap1) (d:ap3):apV:=JW (eu l) l.length (mn l.length d)
structure Ef (l:ap1) (d:ap3):Prop where
 len:l.length<=16
 alS:d.length<=32
 bE:∀i,i<l.length -> -1<=(l.getD i ao).aJ/\(l.getD i ao).aJ<i/\1<=(l.getD i ao).bC.length/\(l.getD i ao).bC.length<=16/\0<=(l.getD i ao).dR/\(l.getD i ao).dR<=5000/\0<=(l.getD i ao).dW/\(l.getD i ao).dW<=10000
 bC:∀i,i<l.length->Hd 0 (l.getD i ao).bC=true
 XS:∀x∈d,0<=x.bE/\x.bE<l.length/\0<=x.ij/\x.ij<=x.cY/\x.cY<=5000/\0<=x.Load/\x.Load<=10000
def uP {n lo hi:Int}:cn n lo hi=true↔lo<=n/\n<=hi:=by
 unfold cn;simp
variable {k:Nat}
def UF (h:Lk k l=true):∀i,i<l.length->tv (l.getD i ao) ((k+i:Nat):Int)=true:=by
 induction l generalizing k with
 | nil=>intro i hi;simp at hi
 | cons s t ih=>
  rw[Lk,aeP]at h;intro i hi;cases i with
  | zero=>exact h.1
  | succ i=>
   have:=ih h.2 i (by simpa using hi);rw[show k+(i+1)=k+1+i by omega];exact this
def UG {s:an} {k:Int} (h:tv s k=true) : -1<=s.aJ/\s.aJ<k/\1<=s.bC.length/\0<=s.dR/\s.dR<=5000/\0<=s.dW/\s.dW<=10000/\Hd 0 s.bC=true/\(s.aJ<0->s.dR=0):=by
 unfold tv ME at h;simp only[aeP,ahA,afr,ahS,uP]at h;obtain⟨⟨⟨⟨⟨h1,h2⟩,h3⟩,h4⟩,h5⟩,h6⟩:=h;have h2':¬ (s.bC.length:Int)=0:=by simpa using h2
 refine⟨h1.1,om,om,h3.1,h3.2,h5.1,h5.2,h6,λ hp=>?_⟩;rw[afl hp]at h4;simpa using h4
variable {d:ap3}
def pX (h:dY l d=true):Ef l d:=by
 unfold dY at h;simp only[aeP,ahA]at h;obtain⟨⟨h1,h2⟩,h3⟩:=h;have h1:cB l=0:=by simpa using h1
 obtain⟨c1,c2,c3⟩:=wK h1;refine⟨c1,by have:=afj h2;omega,λ i hi=>?_,λ i hi=>?_,λ x hx=>?_⟩
 ·have:=UG (UF c3 i hi);have:=c2 i hi;omega
 ·exact(UG (UF c3 i hi)).2.2.2.2.2.2.2.1
 have:=(aja.1 h3) x hx;unfold OZ at this;simp only[aj4,afr,ahS,uP]at this;omega
def Q6 {β:Type} (f:List α->β->List α) (hf:∀a x,(f a x).length=a.length) (d:List β) (a:List α):(d.foldl f a).length=a.length:=by
 induction d generalizing a with
 | nil=>rfl
 | cons x d ih=>rw[anC,ih,hf]
def nZ (n:Nat) (d:ap3):(mn n d).length=n:=by
 unfold mn;rw[Q6 _ (λ a x=>afx ..),aj9]
def j9 (l:ap1) (i:Nat) (a:apV):(eu l i a).length=a.length:=by
 unfold eu;cases(a.getD i false||(l.getD i ao).dD)&&decide (0<=(l.getD i ao).aJ)<;>simp
def Q7 {f:Nat->List α->List α} (hf:∀i a,(f i a).length=a.length) (k:Nat) (a:List α):(JW f k a).length=a.length:=by
 induction k generalizing a with
 | zero=>rfl
 | succ k ih=>rw[JW,ih,hf]
def wX (l:ap1) (d:ap3):(dI l d).length=l.length:=by
 unfold dI;rw[Q7 (j9 l),nZ]
def BD {α:Type} (f:Nat->α->α) (n:Nat):Nat->α->α
 | 0,a=>a
 | k+1,a=>f (n - 1 - k) (BD f n k a)
def Za (f:Nat->α->α) (n k:Nat) (hk:k<=n) (a:α):JW f n a=JW f (n - k) (BD f n k a):=by
 induction k with
 | zero=>rfl
 | succ k ih=>
  rw[ih om,show n - k=n - (k+1)+1 by omega,JW,BD,show n - 1 - k=n - (k+1) by omega]
def wL (f:Nat->α->α) (n:Nat) (a:α):BD f n n a=JW f n a:=by
 rw[Za f n n (afM _),aow];rfl
def pC {f:Nat->List α->List α} (hf:∀i a,(f i a).length=a.length) (n k:Nat) (a:List α):(BD f n k a).length=a.length:=by
 induction k with
 | zero=>rfl
 | succ k ih=>rw[BD,hf,ih]
def rZ (n k:Nat) (v:α):(List.replicate n v).getD k v=v:=by
 rw[ad7,aoj];split<;>rfl
def tw (n:Nat) (d:ap3):apU:=d.foldl (λ a x=>a.set x.bE.toNat (a.getD x.bE.toNat 0+x.Load)) (List.replicate n 0)
def eJ (l:ap1) (i:Nat) (a:apU):apU:=
 bif decide (0<=(l.getD i ao).aJ)then a.set (l.getD i ao).aJ.toNat (a.getD (l.getD i ao).aJ.toNat 0+a.getD i 0)else a
def gY (l:ap1) (d:ap3):apU:=JW (eJ l) l.length (tw l.length d)
def r8 (n:Nat) (d:ap3):(tw n d).length=n:=by
 unfold tw;rw[Q6 _ (λ a x=>afx ..),aj9]
def n6 (l:ap1) (i:Nat) (a:apU):(eJ l i a).length=a.length:=by
 unfold eJ;cases decide (0<=(l.getD i ao).aJ)<;>simp
def IQ (l:ap1) (d:ap3):(gY l d).length=l.length:=by
 unfold gY;rw[Q7 (n6 l),r8]
def Bnd (a:apU) (M:Int):Prop:=∀j,0<=a.getD j 0/\a.getD j 0<=M
variable {a:apU}
def Bnd.set {M N:Int} (h:Bnd a M) (hM:M<=N) (i:Nat) (v:Int) (hv:0<=v/\v<=N):Bnd (a.set i v) N:=λ j=>by
 rw[dB];have:=h j;split
 ·exact hv
 omega
def UH (n:Nat) (d:ap3) (hd:∀x∈d,0<=x.Load/\x.Load<=10000) (i:Nat) (hi:i<=d.length):Bnd (tw n (d.take i)) (10000*i):=by
 induction i with
 | zero=>intro j;rw[aoW];have:(tw n []).getD j 0=0:=rZ n j 0;omega
 | succ i ih=>
  have hsn:tw n (d.take (i+1))=(tw n (d.take i)).set (d.getD i cw).bE.toNat ((tw n (d.take i)).getD (d.getD i cw).bE.toNat 0+(d.getD i cw).Load):=pL _ _ cw hi;rw[hsn];have h1:=ih om;have h2:=hd _ (fe cw hi);have h3:=h1 (d.getD i cw).bE.toNat;exact h1.set om _ _ om
def WH (l:ap1) (a:apU) (M:Int) (h:Bnd a M) (k:Nat):Bnd (BD (eJ l) l.length k a) (M*2 ^ k):=by
 induction k with
 | zero=>show Bnd a (M*2 ^ 0);rw[Int.pow_zero,Int.mul_one];exact h
 | succ k ih=>
  rw[BD];have e:M*2 ^ (k+1)=M*2 ^ k+M*2 ^ k:=by rw[Int.pow_succ,<- Int.mul_assoc];omega
  rw[e];generalize BD (eJ l) l.length k a=A at ih;generalize M*2 ^ k=X at ih;have hp:0<=X:=by have:=ih 0;omega
  unfold eJ;cases decide (0<=(l.getD (l.length - 1 - k) ao).aJ)with
  | true=>
   have h1:=ih (l.getD (l.length - 1 - k) ao).aJ.toNat;have h2:=ih (l.length - 1 - k);exact ih.set om _ _ om
  | false=>
   intro j;have:=ih j;simp only[ags];omega
def Cf (hv:Ef l d) (k:Nat) (hk:k<=l.length):Bnd (BD (eJ l) l.length k (tw l.length d)) 100000000000:=by
 have h1:=UH l.length d (λ x hx=>by have:=hv.XS x hx;omega) d.length (afM _);rw[agt]at h1;have h2:=WH l _ _ h1 k;have hvl:=hv.len;have hvd:=hv.alS;have h3:(2:Int) ^ k<=2 ^ 16:=by exact_mod_cast alT (n:=2) (by decide) (show k<=16 by omega)
 have h4:10000*(d.length:Int)*2 ^ k<=320000*2 ^ 16:=apz om h3 (Int.pow_nonneg (by decide)) (by decide);intro j;have:=h2 j;omega
def abL (h:rY l d=0):dY l d=true:=by
 unfold rY at h;cases hc:cB l != 0 with
 | true=>rw[hc]at h;have:cB l=0:=h;rw[this]at hc;cases hc
 | false=>
  rw[hc]at h;cases hd:dY l d with
  | true=>rfl
  | false=>rw[hd]at h;cases h
def gR (l:ap1) (r:aK) (k:Nat):Int:=(l.getD k ao).bC.getD (r.aT.getD k 0).toNat 0
def FM (l:ap1) (r:aK) (u:apV) (ld:apU) (i:Nat):Bool:=
 bif !r.On.getD i false then u.getD i false
 else(decide (0<=(l.getD i ao).aJ)&&(!r.On.getD (l.getD i ao).aJ.toNat false||decide (gR l r (l.getD i ao).aJ.toNat<gR l r i+(l.getD i ao).dR)))||decide ((l.getD i ao).dW<ld.getD i 0)
def O5 (l:ap1) (r:aK) (x:bf):Bool:=!cn (gR l r x.bE.toNat) x.ij x.cY
def r9 (l:ap1) (r:aK) (d:ap3):Bool:=(List.range l.length).all (λ i=>!FM l r (dI l d) (gY l d) i)&&!(d.any (O5 l r))
def cK (l:ap1) (r:aK) (d:ap3):Bool:=bif !iM l r||!dY l d then false else r9 l r d
structure UI (l:ap1) (r:aK):Prop where
 On:r.On.length=l.length
 len:r.aT.length=l.length
 bC:∀i,i<l.length->0<=r.aT.getD i 0/\(r.aT.getD i 0).toNat<(l.getD i ao).bC.length/\r.aT.getD i 0<(l.getD i ao).bC.length
def XT {r:apU} (h:r.length=l.length):rlN l r=true↔∀i,i<l.length->0<=r.getD i 0/\r.getD i 0<(l.getD i ao).bC.length:=by
 induction l generalizing r with
 | nil=>simp[rlN]
 | cons s l ih=>
  cases r with
  | nil=>simp at h
  | cons k r=>
   rw[rlN,aeP,uP,ih (by simpa using h)];constructor
   ·rintro ⟨h1,h2⟩ i hi;cases i with
    | zero=>show 0<=k/\k<s.bC.length;omega
    | succ i=>exact h2 i (by simpa using hi)
   intro h2;refine⟨?_,λ i hi=>h2 (i+1) (by simpa using hi)⟩;have:0<=k/\k<s.bC.length:=h2 0 (by simp);omega
variable {r:aK}
def wY:iM l r=true↔cB l=0/\UI l r:=by
 unfold iM;cases h:((cB l != 0)||((r.On.length:Int) != l.length))||((r.aT.length:Int) != l.length)with
 | true=>
  simp only[ahX];constructor
  ·intro h;cases h
  rintro ⟨h1,h2⟩;rw[h1,h2.On,h2.len]at h;simp at h
 | false=>
  simp only[ags];have h':cB l=0/\r.On.length=l.length/\r.aT.length=l.length:=by
   simp at h;omega
  rw[XT h'.2.2];constructor
  ·intro h1;exact⟨h'.1,h'.2.1,h'.2.2,λ i hi=>by have:=h1 i hi;omega⟩
  intro h1 i hi;have:=h1.2.bC i hi;omega
variable {v:apU}
def XU {p:Int} (h:Hd p v=true):∀j,j<v.length->p<v.getD j 0/\1<=v.getD j 0/\v.getD j 0<=5000:=by
 induction v generalizing p with
 | nil=>intro j hj;simp at hj
 | cons a v ih=>
  rw[Hd,aeP,ahA,afr,ahS,uP]at h;have h1:=ahT h.1.2;intro j hj;cases j with
  | zero=>show p<a/\1<=a/\a<=5000;omega
  | succ j=>
   have:=ih h.2 j (by simpa using hj);show p<v.getD j 0/\1<=v.getD j 0/\v.getD j 0<=5000;omega
def vo {n:Nat} {p:Nat->Bool} (hi:i<n) (h:p i=false):(List.range n).all p=false:=by
 rw[List.all_eq_false];exact⟨i,by simpa using hi,by simp[h]⟩
def FN {n:Nat} {p:Nat->Bool} (h:∀i,i<n->p i=true):(List.range n).all p=true:=by
 rw[ajL];intro i hi;exact h i (by simpa using hi)
def JX (hv:Ef l d) (hr:UI l r) (i:Nat) (hi:i<l.length):1<=gR l r i/\gR l r i<=5000:=by
 have:=XU (hv.bC i hi) _ (hr.bC i hi).2.1;unfold gR;omega
def A5 (d:α) {a b:List α} (h1:a.length=b.length) (h2:∀j,j<a.length->a.getD j d=b.getD j d):a=b:=by
 apply aod h1;intro j hj hj';have:=h2 j hj;rw[ad7,ad7,aeA hj,aeA hj']at this;exact this
def Jj (d:ap3) (i:Nat):Bool:=d.any (λ x=>x.bE==(i:Int))
def Q8 (n:Nat) (d:ap3) (hd:∀x∈d,0<=x.bE/\x.bE<n) (j:Nat):(mn n d).getD j false=Jj d j:=by
 unfold mn Jj;have key:∀(d:ap3) (a:apV),a.length=n->(∀x∈d,0<=x.bE/\x.bE<n)->(d.foldl (λ a x=>a.set x.bE.toNat true) a).getD j false=(a.getD j false||d.any (λ x=>x.bE==(j:Int))):=by
  intro d;induction d with
  | nil=>intro a _ _;simp
  | cons x d ih=>
   intro a ha hd;have hx:=hd x (by simp);rw[anC,ih _ (by simpa using ha) (λ y hy=>hd y (by simp[hy])),dB,akp];by_cases hj:j=x.bE.toNat
   ·have:(x.bE==(j:Int))=true:=by simp;omega
    rw[afc ⟨hj,om⟩,this];simp
   have:(x.bE==(j:Int))=false:=by simp;omega
   rw[aeV (λ h=>hj h.1),this];simp
 rw[key d _ (by simp) hd,rZ];simp
structure H9 (l:ap1) (d:ap3) (k:Nat) (b:apV):Prop where
 len:b.length=l.length
 hi:∀j,j<l.length->l.length - k<=j->b.getD j false=(BD (eu l) l.length k (mn l.length d)).getD j false
 lo:∀j,j<l.length - k->(BD (eu l) l.length k (mn l.length d)).getD j false=(b.getD j false||Jj d j)
def JY (l:ap1) (d:ap3) (i:Nat) (b:apV):apV:=
 bif(b.getD i false||(l.getD i ao).dD||Jj d i)&&decide (0<=(l.getD i ao).aJ)then(b.set i (b.getD i false||(l.getD i ao).dD||Jj d i)).set (l.getD i ao).aJ.toNat true else b.set i (b.getD i false||(l.getD i ao).dD||Jj d i)
def H9.step (hv:Ef l d) {b:apV} (h:H9 l d k b) (hk:k<l.length):H9 l d (k+1) (JY l d (l.length - 1 - k) b):=by
 obtain⟨h1,h2,h3⟩:=h;have hup:BD (eu l) l.length (k+1) (mn l.length d)=eu l (l.length - 1 - k) (BD (eu l) l.length k (mn l.length d)):=rfl;have hal:(BD (eu l) l.length k (mn l.length d)).length=l.length:=by rw[pC (j9 l),nZ]
 generalize BD (eu l) l.length k (mn l.length d)=a at h2 h3 hup hal;have hs:=hv.bE (l.length - 1 - k) om;have hai:=h3 (l.length - 1 - k) om;generalize hi:l.length - 1 - k=i at hup hs hai;have hF:(a.getD i false||(l.getD i ao).dD)=(b.getD i false||(l.getD i ao).dD||Jj d i):=by
  rw[hai];cases b.getD i false<;>cases(l.getD i ao).dD<;>cases Jj d i<;>rfl
 refine⟨?_,?_,?_⟩
 ·unfold JY;cases(b.getD i false||(l.getD i ao).dD||Jj d i)&&decide (0<=(l.getD i ao).aJ)<;>simp[h1]
 all_goals
  rw[hup]
  unfold JY eu
  rw[hF]
  generalize (b.getD i false||(l.getD i ao).dD||Jj d i)=F
  cases hc:F&&decide (0<=(l.getD i ao).aJ)with
  | true=>
   simp only[ahX]
   simp only[aeP]at hc
   have hp:=afj hc.2
   intro j hj
   try intro hj2
   simp only[dB,afx,h1,hal]
   by_cases hjp:j=(l.getD i ao).aJ.toNat/\(l.getD i ao).aJ.toNat<l.length
   ·rw[afc hjp,afc hjp]
    try rfl
   rw[aeV hjp,aeV hjp]
   by_cases hji:j=i/\i<l.length
   ·rw[afc hji,afc hji]
    try omega
   rw[aeV hji,aeV hji]
   first | exact h2 j om om | exact h3 j om
  | false=>
   simp only[ags]
   intro j hj
   try intro hj2
   simp only[dB,h1,hal]
   by_cases hji:j=i/\i<l.length
   ·rw[afc hji,afc hji]
    try omega
   rw[aeV hji,aeV hji]
   first | exact h2 j om om | exact h3 j om
def H9.done {b:apV} (h:H9 l d l.length b):b=dI l d:=by
 refine A5 false (by rw[h.len,wX]) λ j hj=>?_;rw[h.hi j (by rw[<- h.len];exact hj) om,wL];rfl
def H9.start (hv:Ef l d):H9 l d 0 (List.replicate l.length false):=by
 refine⟨by simp,λ j hj h=>by omega,λ j hj=>?_⟩;rw[rZ];show(mn l.length d).getD j false=_;rw[Q8 _ _ (λ x hx=>by have:=hv.XS x hx;omega)];simp
def qL (d:ap3) (i:Nat):Int:=d.foldl (λ s x=>bif x.bE==(i:Int)then s+x.Load else s) 0
def Ll {j:Nat} (h:j<d.length):qL (d.take (j+1)) i=bif(d.getD j cw).bE==(i:Int)then qL (d.take j) i+(d.getD j cw).Load else qL (d.take j) i:=pL _ _ cw h
def A8 (n:Nat) (d:ap3) (hd:∀x∈d,0<=x.bE/\x.bE<n) (j:Nat):(tw n d).getD j 0=qL d j:=by
 unfold tw qL;have key:∀(d:ap3) (a:apU) (s:Int),a.length=n->(∀x∈d,0<=x.bE/\x.bE<n)->a.getD j 0=s->(d.foldl (λ a x=>a.set x.bE.toNat (a.getD x.bE.toNat 0+x.Load)) a).getD j 0=d.foldl (λ s x=>bif x.bE==(j:Int)then s+x.Load else s) s:=by
  intro d;induction d with
  | nil=>intro a s _ _ h;exact h
  | cons x d ih=>
   intro a s ha hd h;have hx:=hd x (by simp);rw[anC,anC];refine ih _ _ (by simpa using ha) (λ y hy=>hd y (by simp[hy])) ?_;rw[dB];by_cases hj:j=x.bE.toNat
   ·have:(x.bE==(j:Int))=true:=by simp;omega
    rw[afc ⟨hj,om⟩,this,<- hj,h];rfl
   have:(x.bE==(j:Int))=false:=by simp;omega
   rw[aeV (λ h=>hj h.1),this];exact h
 exact key d _ 0 (by simp) hd (rZ _ _ _)
def JZ (hd:∀x∈d,0<=x.Load/\x.Load<=10000) (i j:Nat) (hj:j<=d.length):0<=qL (d.take j) i/\qL (d.take j) i<=10000*j:=by
 induction j with
 | zero=>rw[aoW];exact⟨air _,air _⟩
 | succ j ih=>
  have:=ih om;have h2:=hd _ (fe cw hj);rw[Ll hj];cases(d.getD j cw).bE==(i:Int)with
  | true=>simp only[ahX];omega
  | false=>simp only[ags];omega
structure DJ (l:ap1) (d:ap3) (k:Nat) (b:apU):Prop where
 len:b.length=l.length
 pos:∀j,0<=b.getD j 0
 hi:∀j,j<l.length->l.length - k<=j->b.getD j 0=(BD (eJ l) l.length k (tw l.length d)).getD j 0
 lo:∀j,j<l.length - k->(BD (eJ l) l.length k (tw l.length d)).getD j 0=b.getD j 0+qL d j
def GW (l:ap1) (d:ap3) (i:Nat) (b:apU):apU:=
 bif decide (0<=(l.getD i ao).aJ)then(b.set i (b.getD i 0+qL d i)).set (l.getD i ao).aJ.toNat (b.getD (l.getD i ao).aJ.toNat 0+(b.getD i 0+qL d i))else b.set i (b.getD i 0+qL d i)
variable {b:apU}
def DJ.step (hv:Ef l d) (h:DJ l d k b) (hk:k<l.length):DJ l d (k+1) (GW l d (l.length - 1 - k) b):=by
 obtain⟨h1,h0,h2,h3⟩:=h;have hdp:∀i,0<=qL d i:=λ i=>by
  have:=(JZ (d:=d) (λ x hx=>by have:=hv.XS x hx;omega) i d.length (afM _)).1;rwa [agt]at this
 have hup:BD (eJ l) l.length (k+1) (tw l.length d)=eJ l (l.length - 1 - k) (BD (eJ l) l.length k (tw l.length d)):=rfl;have hal:(BD (eJ l) l.length k (tw l.length d)).length=l.length:=by rw[pC (n6 l),r8]
 generalize BD (eJ l) l.length k (tw l.length d)=a at h2 h3 hup hal;have hs:=hv.bE (l.length - 1 - k) om;have hai:=h3 (l.length - 1 - k) om;generalize hi:l.length - 1 - k=i at hup hs hai;have hb0:=h0 i;have hd0:=hdp i;refine⟨?_,?_,?_,?_⟩
 ·unfold GW;cases decide (0<=(l.getD i ao).aJ)<;>simp[h1]
 ·intro j;have hb1:=h0 j;have hb2:=h0 (l.getD i ao).aJ.toNat;unfold GW;cases decide (0<=(l.getD i ao).aJ)<;>simp only[ahX,ags,dB]<;>repeat' split
  all_goals omega
 all_goals
  rw[hup]
  unfold GW eJ
  cases hc:decide (0<=(l.getD i ao).aJ)with
  | true=>
   simp only[ahX]
   have hp:=afj hc
   intro j hj
   try intro hj2
   simp only[dB,afx,h1,hal]
   have hap:=h3 (l.getD i ao).aJ.toNat om
   by_cases hjp:j=(l.getD i ao).aJ.toNat/\(l.getD i ao).aJ.toNat<l.length
   ·rw[afc hjp,afc hjp]
    try rw[hjp.1]
    omega
   rw[aeV hjp,aeV hjp]
   by_cases hji:j=i/\i<l.length
   ·rw[afc hji,hji.1]
    omega
   rw[aeV hji]
   first | exact h2 j om om | exact h3 j om
  | false=>
   simp only[ags]
   intro j hj
   try intro hj2
   simp only[dB,h1]
   by_cases hji:j=i/\i<l.length
   ·rw[afc hji,hji.1]
    omega
   rw[aeV hji]
   first | exact h2 j om om | exact h3 j om
def DJ.done (h:DJ l d l.length b):b=gY l d:=by
 refine A5 0 (by rw[h.len,IQ]) λ j hj=>?_;rw[h.hi j (by rw[<- h.len];exact hj) om,wL];rfl
def DJ.start (hv:Ef l d):DJ l d 0 (List.replicate l.length 0):=by
 refine⟨by simp,λ j=>by rw[rZ];omega,λ j hj h=>by omega,λ j hj=>?_⟩;rw[rZ];show(tw l.length d).getD j 0=_;rw[A8 _ _ (λ x hx=>by have:=hv.XS x hx;omega)];simp
def DJ.small (hv:Ef l d) (h:DJ l d k b) (hk:k<=l.length) (j:Nat):0<=b.getD j 0/\b.getD j 0<=100000000000:=by
 have h1:=Cf hv k hk j;refine⟨h.pos j,?_⟩;have hd:=(JZ (d:=d) (λ x hx=>by have:=hv.XS x hx;omega) j d.length (afM _)).1;rw[agt]at hd;by_cases h2:j<l.length - k
 ·have:=h.lo j h2;omega
 by_cases h3:j<l.length
 ·have:=h.hi j h3 om;omega
 rw[EA 0 (by rw[h.len];omega)];omega
def S9:apU->Int->Nat
 | [],_=>0
 | x::t,v=>bif decide (v<=x)then 0 else S9 t v+1
def ag0 (v:Int) (l:apU):S9 l v<=l.length:=by
 induction l with
 | nil=>exact afM _
 | cons x l ih=>
  rw[S9];cases decide (v<=x)<;>simp<;>omega
def abM {v:Int} {l:apU}:∀j,j<S9 l v->l.getD j 0<v:=by
 induction l with
 | nil=>intro j hj;simp[S9]at hj
 | cons x l ih=>
  rw[S9];cases h:decide (v<=x)with
  | true=>intro j hj;simp at hj
  | false=>
   have:=ahT h;intro j hj;cases j with
   | zero=>show x<v;omega
   | succ j=>exact ih j (by simpa using hj)
def WI {v:Int} {l:apU} (h:S9 l v<l.length):v<=l.getD (S9 l v) 0:=by
 induction l with
 | nil=>simp at h
 | cons x l ih=>
  rw[S9]at h ⊢;cases hd:decide (v<=x)with
  | true=>exact afj hd
  | false=>
   rw[hd]at h;exact ih (by simpa using h)
def abN {v:Int} {l:apU} (h0:k<=l.length) (h1:∀j,j<k->l.getD j 0<v) (h2:k<l.length->v<=l.getD k 0):k=S9 l v:=by
 have h3:=ag0 v l;rcases anX k (S9 l v)with h | h | h
 ·have:=abM k h;have:=h2 om;omega
 ·exact h
 have:=WI (v:=v) (l:=l) om;have:=h1 _ h;omega
def ag4 {p:Int} (h:Hd p v=true):∀i j,i<j->j<v.length->v.getD i 0<v.getD j 0:=by
 induction v generalizing p with
 | nil=>intro i j _ hj;simp at hj
 | cons a v ih=>
  rw[Hd,aeP]at h;intro i j hij hj;cases j with
  | zero=>omega
  | succ j=>
   cases i with
   | zero=>exact(XU h.2 j (by simpa using hj)).1
   | succ i=>exact ih h.2 i j om (by simpa using hj)
structure DS where
 a:List XQ
 lv:apU
def tb (n:Nat) (d:ap3):Nat->List XQ
 | 0=>List.replicate n ⟨0,-1,-1⟩
 | i+1=>bif decide (((tb n d i).getD (d.getD i cw).bE.toNat Hc).sO<(d.getD i cw).ij)then(tb n d i).set (d.getD i cw).bE.toNat ⟨(d.getD i cw).ij,i,-1⟩else tb n d i
def tx (l:ap1) (i:Nat) (s:DS):Nat:=S9 (l.getD i ao).bC (s.a.getD i Hc).sO
def ks (l:ap1) (i:Nat) (s:DS):Int:=(l.getD i ao).bC.getD (tx l i s) 0+(l.getD i ao).dR
def Cg (l:ap1) (u:apV) (i:Nat) (s:DS):DS:=
 bif !u.getD i false then s
 else⟨bif decide (0<=(l.getD i ao).aJ)&&decide ((s.a.getD (l.getD i ao).aJ.toNat Hc).sO<ks l i s)then s.a.set (l.getD i ao).aJ.toNat ⟨ks l i s,-1,i⟩else s.a,s.lv.set i (tx l i s)⟩
def xL (l:ap1) (u:apV) (i:Nat) (s:DS):Bool:=u.getD i false&&!decide ((tx l i s:Int)<(l.getD i ao).bC.length)
def O6 (l:ap1) (u:apV):Nat->DS->DS×Int
 | 0,s=>(s,-1)
 | k+1,s=>bif xL l u k s then(s,k)else O6 l u k (Cg l u k s)
def ds0 (l:ap1) (d:ap3):DS:=⟨tb l.length d d.length,List.replicate l.length 0⟩
def IS (l:ap1) (d:ap3):DS×Int:=O6 l (dI l d) l.length (ds0 l d)
def Lm (n:Nat) (d:ap3) (i:Nat):(tb n d i).length=n:=by
 induction i with
 | zero=>simp[tb]
 | succ i ih=>
  rw[tb];cases decide (((tb n d i).getD (d.getD i cw).bE.toNat Hc).sO<(d.getD i cw).ij)<;>simp[ih]
structure DOk (l:ap1) (s:DS):Prop where
 al:s.a.length=l.length
 ll:s.lv.length=l.length
variable {u:apV} {s:DS}
def aee (h:DOk l s):DOk l (Cg l u i s):=by
 unfold Cg;cases u.getD i false with
 | false=>exact h
 | true=>
  refine⟨?_,by simp[h.ll]⟩;simp only[aj1,ags];cases decide (0<=(l.getD i ao).aJ)&&decide ((s.a.getD (l.getD i ao).aJ.toNat Hc).sO<ks l i s)<;>simp[h.al]
def ag5 (l:ap1) (d:ap3):DOk l (ds0 l d):=⟨Lm _ _ _,by simp[ds0]⟩
def lS (l:ap1) (d:ap3):aK×Int:=
 bif rY l d != 0 then(zH,rY l d)
 else bif decide (0<=(IS l d).2)||!cK l ⟨dI l d,(IS l d).1.lv⟩ d then(zH,9)else(⟨dI l d,(IS l d).1.lv⟩,0)
def aef (l:ap1) (s:DS):Prop:=∀j,j<l.length->0<=s.lv.getD j 0/\s.lv.getD j 0<(l.getD j ao).bC.length
def lvK (l:ap1) (k v:Int):Nat:=S9 (l.getD k.toNat ao).bC v
def okK (l:ap1) (k v:Int):Bool:=decide (lvK l k v<(l.getD k.toNat ao).bC.length)
def voK (l:ap1) (k v:Int):Int:=(l.getD k.toNat ao).bC.getD (lvK l k v) 0
def rwN (l:ap1) (d:ap3) (last:Int):apU->Int->Bool
 | [],_=>false
 | k::t,v=>bif !t.isEmpty then(bif !okK l k v then false else rwN l d last t (voK l k v+(l.getD k.toNat ao).dR))
  else bif !okK l k v||decide (last<0)then !okK l k v&&decide (last<0)
  else((d.getD last.toNat cw).bE==k)&&decide ((d.getD last.toNat cw).cY<voK l k v)
abbrev sd (l:ap1) (i:Nat):an:=l.getD i ao
abbrev xM (a:apV) (i:Nat):Bool:=a.getD i false
abbrev BE (a:apU) (i:Nat):Int:=a.getD i 0
theorem Sr {a:apV} (hi:i<a.length) (hp:(sd l i).aJ<i) (j:Nat):
  xM (eu l i a) j=true↔xM a j=true\/(j=i/\(sd l i).dD=true)\/((sd l i).aJ=j/\(xM a i=true\/(sd l i).dD=true)):=by
 unfold eu xM sd at *;generalize l.getD i ao=s at *;cases hx:(a.getD i false||s.dD)with
 | false=>
  simp only[Bool.false_and,ags];simp only[afr]at hx;rw[dB,hx.1,hx.2];by_cases hj:j=i
  ·subst hj;rw[afc ⟨rfl,hi⟩,hx.1];simp
  rw[aeV (λ h=>hj h.1)];simp[hj]
 | true=>
  have hx':a.getD i false=true\/s.dD=true:=by simpa using hx
  by_cases hp0:0<=s.aJ
  ·simp only[aj0,afl hp0,ahX];rw[dB,dB,afx];by_cases hj:j=s.aJ.toNat
   ·have:j<a.length:=by omega
    rw[afc ⟨hj,om⟩];simp only[true_iff];exact .inr (.inr ⟨om,hx'⟩)
   rw[aeV (λ h=>hj h.1)];have hj':¬ s.aJ=j:=by omega
   by_cases hji:j=i
   ·subst hji;rw[afc ⟨rfl,hi⟩];simp only[true_iff,true_and];exact hx'.elim .inl (λ h=>.inr (.inl h))
   rw[aeV (λ h=>hji h.1)];simp only[hji,hj',false_and,or_false]
  simp only[aj0,afe hp0,ags];rw[dB];have hj':¬ s.aJ=j:=by omega
  by_cases hji:j=i
  ·subst hji;rw[afc ⟨rfl,hi⟩];simp only[true_iff,true_and];exact hx'.elim .inl (λ h=>.inr (.inl h))
  rw[aeV (λ h=>hji h.1)];simp only[hji,hj',false_and,or_false]
theorem aeg (hv:Ef l d):∀k,k<=l.length->∀j:Nat,
  xM (BD (eu l) l.length k (mn l.length d)) j=true↔Jj d j=true\/(l.length - k<=j/\j<l.length/\(sd l j).dD=true)\/∃c,l.length - k<=c/\c<l.length/\(sd l c).aJ=j/\xM (BD (eu l) l.length k (mn l.length d)) c=true:=by
 intro k;induction k with
 | zero=>
  intro _ j;show(mn l.length d).getD j false=true↔_;rw[Q8 _ _ (λ x hx=>by have:=hv.XS x hx;omega)];constructor
  ·exact .inl
  rintro (h | h | ⟨c,h⟩)
  ·exact h
  ·omega
  omega
 | succ k ih=>
  intro hk j;have ih:=ih om;have hup:BD (eu l) l.length (k+1) (mn l.length d)=eu l (l.length - 1 - k) (BD (eu l) l.length k (mn l.length d)):=rfl;have hal:(BD (eu l) l.length k (mn l.length d)).length=l.length:=by rw[pC (j9 l),nZ]
  have hs:=hv.bE (l.length - 1 - k) om;rw[hup];generalize BD (eu l) l.length k (mn l.length d)=a at ih hal;generalize hi:l.length - 1 - k=i at hs;have get:=Sr (l:=l) (a:=a) (i:=i) om (by unfold sd;omega);have hne:¬ (sd l i).aJ=(i:Int):=by unfold sd;omega
  have hgt:∀c,i<c->(xM (eu l i a) c=true↔xM a c=true):=λ c hc=>by
   rw[get c];constructor
   ·rintro (h | h | h)
    ·exact h
    ·omega
    have:(sd l i).aJ=(c:Int):=h.1;unfold sd at this;omega
   exact .inl
  constructor
  ·intro h;rcases(get j).1 h with h | h | h
   ·rcases(ih j).1 h with h | h | ⟨c,h1,h2,h3,h4⟩
    ·exact .inl h
    ·exact .inr (.inl ⟨om,h.2⟩)
    exact .inr (.inr ⟨c,om,h2,h3,(hgt c om).2 h4⟩)
   ·rw[h.1];exact .inr (.inl ⟨om,om,h.2⟩)
   refine .inr (.inr ⟨i,om,om,h.1,(get i).2 ?_⟩);rcases h.2 with h | h
   ·exact .inl h
   exact .inr (.inl ⟨rfl,h⟩)
  rintro (h | ⟨h1,h2,h3⟩ | ⟨c,h1,h2,h3,h4⟩)
  ·exact(get j).2 (.inl ((ih j).2 (.inl h)))
  ·by_cases hji:j=i
   ·subst hji;exact(get j).2 (.inr (.inl ⟨rfl,h3⟩))
   exact(get j).2 (.inl ((ih j).2 (.inr (.inl ⟨om,h2,h3⟩))))
  by_cases hci:c=i
  ·subst hci;refine(get j).2 (.inr (.inr ⟨h3,?_⟩));rcases(get c).1 h4 with h | h | h
   ·exact .inl h
   ·exact .inr h.2
   exact absurd h.1 hne
  exact(get j).2 (.inl ((ih j).2 (.inr (.inr ⟨c,om,h2,h3,(hgt c om).1 h4⟩))))
def J0 (hv:Ef l d) (j:Nat):
  xM (dI l d) j=true↔Jj d j=true\/(j<l.length/\(sd l j).dD=true)\/∃c,c<l.length/\(sd l c).aJ=j/\xM (dI l d) c=true:=by
 have:=aeg hv l.length (afM _) j;rw[wL]at this;unfold dI;rw[this];constructor
 ·rintro (h | h | ⟨c,h⟩)
  ·exact .inl h
  ·exact .inr (.inl h.2)
  exact .inr (.inr ⟨c,h.2⟩)
 rintro (h | h | ⟨c,h⟩)
 ·exact .inl h
 ·exact .inr (.inl ⟨om,h⟩)
 exact .inr (.inr ⟨c,om,h⟩)
def kG {j:Nat} (h:xM (dI l d) j=true):j<l.length:=by
 rcases aiZ j l.length with h1 | h1
 ·exact h1
 unfold xM at h;rw[EA false (by rw[wX];exact h1)]at h;cases h
def Zb {d':ap3} (hv:Ef l d) (hv':Ef l d') (h:∀j,Jj d j=true->Jj d' j=true):∀j,xM (dI l d) j=true->xM (dI l d') j=true:=by
 have key:∀m j,l.length - j<=m->xM (dI l d) j=true->xM (dI l d') j=true:=by
  intro m;induction m with
  | zero=>intro j hm hj;have:=kG hj;omega
  | succ m ih=>
   intro j hm hj;rw[J0 hv]at hj;rw[J0 hv'];rcases hj with hj | hj | ⟨c,h1,h2,h3⟩
   ·exact .inl (h j hj)
   ·exact .inr (.inl hj)
   have:=(hv.bE c h1).2.1;unfold sd at h2;exact .inr (.inr ⟨c,h1,h2,ih c om h3⟩)
 intro j;exact key _ j (afM _)
def UJ (hv:Ef l d) {c:Nat} (h:xM (dI l d) c=true) (hp:0<=(sd l c).aJ):xM (dI l d) (sd l c).aJ.toNat=true:=by
 rw[J0 hv];exact .inr (.inr ⟨c,kG h,om,h⟩)
def Ln (hv:Ef l d) {x:bf} (h:x∈d):xM (dI l d) x.bE.toNat=true:=by
 rw[J0 hv];refine .inl ?_;unfold Jj;rw[ai7];have:=hv.XS x h;refine⟨x,h,?_⟩;rw[ajZ];omega
def aiY (x:bf) (i:Nat):Int:=bif x.bE==(i:Int)then x.Load else 0
def qD (x:bf) (d:ap3) (i:Nat):qL (x::d) i=aiY x i+qL d i:=by
 have key:∀(d:ap3) (s:Int),d.foldl (λ s x=>bif x.bE==(i:Int)then s+x.Load else s) s=s+qL d i:=by
  intro d;induction d with
  | nil=>intro s;show s=s+0;omega
  | cons y d ih=>
   intro s;unfold qL;rw[anC,anC,ih,ih];cases y.bE==(i:Int)<;>simp<;>omega
 show d.foldl _ _=_;rw[key];unfold aiY;cases hb:x.bE==(i:Int)<;>simp[hb]
def abO (a b:ap3) (i:Nat):qL (a++b) i=qL a i+qL b i:=by
 induction a with
 | nil=>show qL b i=0+qL b i;omega
 | cons x a ih=>rw[ajQ,qD,qD,ih];omega
def Zc {a b:ap3} (h:a.Perm b) (i:Nat):qL a i=qL b i:=by
 induction h with
 | nil=>rfl
 | cons x _ ih=>rw[qD,qD,ih]
 | swap x y l=>rw[qD,qD,qD,qD];omega
 | trans _ _ h1 h2=>exact h1.trans h2
def Ci (hi:i<a.length) (hp:(sd l i).aJ<i) (j:Nat):
  BE (eJ l i a) j=BE a j+(if(sd l i).aJ=j then BE a i else 0):=by
 unfold eJ BE sd at *;generalize l.getD i ao=s at *;by_cases hp0:0<=s.aJ
 ·rw[afl hp0,ahX,dB];by_cases hj:j=s.aJ.toNat
  ·have e:s.aJ=(j:Int):=by omega
   rw[afc ⟨hj,om⟩,afc e,hj]
  have e:¬ s.aJ=(j:Int):=by omega
  rw[aeV (λ h=>hj h.1),aeV e];omega
 have e:¬ s.aJ=(j:Int):=by omega
 rw[afe hp0,ags,aeV e];omega
def abP (hv:Ef l d) {c:apU} (ha:a.length=l.length) (hb:b.length=l.length) (hc:c.length=l.length) (h:∀j,BE c j=BE a j+BE b j):∀k,k<=l.length->∀j,BE (BD (eJ l) l.length k c) j=BE (BD (eJ l) l.length k a) j+BE (BD (eJ l) l.length k b) j:=by
 intro k;induction k with
 | zero=>intro _;exact h
 | succ k ih=>
  intro hk j;have ih:=ih om;have hs:=(hv.bE (l.length - 1 - k) om).2.1;rw[BD,BD,BD,Ci (by rw[pC (n6 l)];omega) hs,Ci (by rw[pC (n6 l)];omega) hs,Ci (by rw[pC (n6 l)];omega) hs,ih j,ih (l.length - 1 - k)];split<;>omega
def GX (hv:Ef l d):∀x∈d,0<=x.bE/\x.bE<l.length:=λ x hx=>by have:=hv.XS x hx;omega
def Zd {a b:ap3} (ha:Ef l a) (hb:Ef l b) (hab:∀x∈a++b,0<=x.bE/\x.bE<l.length) (j:Nat):BE (gY l (a++b)) j=BE (gY l a) j+BE (gY l b) j:=by
 have:=abP ha (r8 l.length a) (r8 l.length b) (r8 l.length (a++b)) (λ j=>by
  unfold BE;rw[A8 _ _ hab,A8 _ _ (GX ha),A8 _ _ (GX hb),abO]) l.length (afM _) j
 rw[wL,wL,wL]at this;exact this
def WJ {a b:ap3} (ha:Ef l a) (hb:Ef l b) (h:∀j,qL a j=qL b j):gY l a=gY l b:=by
 unfold gY;rw[show tw l.length a=tw l.length b from A5 0 (by rw[r8,r8]) λ j _=>by rw[A8 _ _ (GX ha),A8 _ _ (GX hb),h j]]
def Ss (hv:Ef l d) (j:Nat):0<=BE (gY l d) j/\BE (gY l d) j<=100000000000:=by
 have:=Cf hv l.length (afM _);rw[wL]at this;exact this j
abbrev IT (a:List XQ) (i:Nat):XQ:=a.getD i Hc
abbrev Q9 (d:ap3) (i:Nat):bf:=d.getD i cw
structure DI (n:Nat) (d:ap3) (i:Nat) (a:List XQ):Prop where
 len:a.length=n
 just:∀j,j<n->IT a j=⟨0,-1,-1⟩\/∃q,q<i/\(Q9 d q).bE=j/\IT a j=⟨(Q9 d q).ij,q,-1⟩
 ij:∀q,q<i->(Q9 d q).ij<=(IT a (Q9 d q).bE.toNat).sO
def abQ {n:Nat} (hd:∀x∈d,0<=x.bE/\x.bE<n):∀i,i<=d.length->DI n d i (tb n d i):=by
 intro i;induction i with
 | zero=>
  intro _;refine⟨Lm _ _ _,λ j hj=>.inl ?_,λ q hq=>by omega⟩;show(List.replicate n (⟨0,-1,-1⟩:XQ)).getD j Hc=_;rw[ad7,aoj,afc hj];rfl
 | succ i ih=>
  intro hi;obtain⟨h1,h2,h3⟩:=ih om;have hx:=hd _ (fe cw (show i<d.length by omega));rw[tb];generalize tb n d i=a at h1 h2 h3;by_cases hb:(IT a (Q9 d i).bE.toNat).sO<(Q9 d i).ij
  ·rw[show decide ((a.getD (d.getD i cw).bE.toNat Hc).sO<(d.getD i cw).ij)=true from afl hb,ahX];refine⟨by rw[afx,h1],λ j hj=>?_,λ q hq=>?_⟩
   ·unfold IT;rw[dB];split
    ·rename_i h;exact .inr ⟨i,om,by unfold Q9;omega,rfl⟩
    rcases h2 j hj with h | ⟨q,h4,h5⟩
    ·exact .inl h
    exact .inr ⟨q,om,h5⟩
   unfold IT;rw[dB];by_cases hqi:q=i
   ·subst hqi;rw[afc ⟨rfl,om⟩];exact air _
   have h4:=h3 q om;split
   ·rename_i h;unfold IT at h4 hb;show(Q9 d q).ij<=(Q9 d i).ij;rw[h.1]at h4;unfold Q9 at *;omega
   exact h4
  rw[show decide ((a.getD (d.getD i cw).bE.toNat Hc).sO<(d.getD i cw).ij)=false from afe hb,ags];refine⟨h1,λ j hj=>?_,λ q hq=>?_⟩
  ·rcases h2 j hj with h | ⟨q,h4,h5⟩
   ·exact .inl h
   exact .inr ⟨q,om,h5⟩
  by_cases hqi:q=i
  ·subst hqi;omega
  exact h3 q om
structure Dm (l:ap1) (d:ap3) (u:apV) (k:Nat) (s:DS):Prop where
 al:s.a.length=l.length
 ll:s.lv.length=l.length
 just:∀j,j<l.length->IT s.a j=⟨0,-1,-1⟩\/(∃q,q<d.length/\(Q9 d q).bE=j/\IT s.a j=⟨(Q9 d q).ij,q,-1⟩)\/
  ∃c:Nat,k<=c/\c<l.length/\xM u c=true/\(sd l c).aJ=j/\tx l c s<(sd l c).bC.length/\IT s.a j=⟨ks l c s,-1,c⟩
 ij:∀q,q<d.length->(Q9 d q).ij<=(IT s.a (Q9 d q).bE.toNat).sO
 up:∀c,k<=c->c<l.length->xM u c=true->0<=(sd l c).aJ->ks l c s<=(IT s.a (sd l c).aJ.toNat).sO
 ok:∀c,k<=c->c<l.length->xM u c=true->tx l c s<(sd l c).bC.length/\BE s.lv c=tx l c s
 zero:∀c,c<l.length->c<k\/xM u c=false->BE s.lv c=0
def ag6 (hv:Ef l d) (u:apV):Dm l d u l.length (ds0 l d):=by
 obtain⟨h1,h2,h3⟩:=abQ (GX hv) d.length (afM _);refine⟨h1,by simp[ds0],λ j hj=>?_,h3,λ c hc hc'=>by omega,λ c hc hc'=>by omega,λ c hc _=>rZ _ _ _⟩;rcases h2 j hj with h | h
 ·exact .inl h
 exact .inr (.inl h)
def aeh (hv:Ef l d) (hk:k<l.length) (h:Dm l d u (k+1) s) (hf:xL l u k s=false):Dm l d u k (Cg l u k s):=by
 obtain⟨al,ll,just,low,up,ok,zero⟩:=h;have hs:=(hv.bE k hk);unfold Cg;cases hu:u.getD k false with
 | false=>
  simp only[Bool.not_false,ahX];have hne:∀c,k<=c->xM u c=true->k+1<=c:=λ c h1 h2=>by
   rcases aoV h1 with h | h
   ·subst h;unfold xM at h2;rw[hu]at h2;cases h2
   exact h
  refine⟨al,ll,λ j hj=>?_,low,λ c h1 h2 h3=>up c (hne c h1 h3) h2 h3,λ c h1 h2 h3=>ok c (hne c h1 h3) h2 h3,λ c h1 h2=>zero c h1 ?_⟩
  ·rcases just j hj with h | h | ⟨c,h1,h2⟩
   ·exact .inl h
   ·exact .inr (.inl h)
   exact .inr (.inr ⟨c,om,h2⟩)
  rcases h2 with h2 | h2
  ·exact .inl om
  exact .inr h2
 | true=>
  unfold xL at hf;rw[hu,aj0,ahS]at hf;have hf:=afj hf;simp only[aj1,ags];generalize hA:(bif decide (0<=(l.getD k ao).aJ)&&decide ((s.a.getD (l.getD k ao).aJ.toNat Hc).sO<ks l k s)then s.a.set (l.getD k ao).aJ.toNat ⟨ks l k s,-1,k⟩else s.a)=A;have hAl:A.length=l.length:=by
   rw[<- hA];cases decide (0<=(l.getD k ao).aJ)&&decide ((s.a.getD (l.getD k ao).aJ.toNat Hc).sO<ks l k s)<;>simp[al]
  have hget:∀j,IT A j=IT s.a j/\((sd l k).aJ=(j:Int)->ks l k s<=(IT s.a j).sO)\/(sd l k).aJ=(j:Int)/\(IT s.a j).sO<ks l k s/\IT A j=⟨ks l k s,-1,k⟩:=by
   intro j;rw[<- hA];by_cases hp:0<=(l.getD k ao).aJ
   ·by_cases hn:(s.a.getD (l.getD k ao).aJ.toNat Hc).sO<ks l k s
    ·rw[afl hp,afl hn];simp only[Bool.and_self,ahX];unfold IT;rw[dB];by_cases hj:j=(l.getD k ao).aJ.toNat
     ·rw[afc ⟨hj,om⟩];refine .inr ⟨by unfold sd;omega,by rw[hj];exact hn,rfl⟩
     rw[aeV (λ h=>hj h.1)];exact .inl ⟨rfl,λ h=>by unfold sd at h;omega⟩
    rw[afl hp,afe hn];refine .inl ⟨rfl,λ h=>?_⟩;have:j=(l.getD k ao).aJ.toNat:=by unfold sd at h;omega
    rw[this];exact anG.1 hn
   rw[afe hp];refine .inl ⟨rfl,λ h=>by unfold sd at h;omega⟩
  have hge:∀j,(IT s.a j).sO<=(IT A j).sO:=λ j=>by
   rcases hget j with h | h
   ·rw[h.1];exact air _
   rw[h.2.2];exact Int.le_of_lt h.2.1
  have hsame:∀c,k<=c->IT A c=IT s.a c:=λ c hc=>by
   rcases hget c with h | h
   ·exact h.1
   have:=h.1;unfold sd at this;omega
  have hlv:∀c,k<=c->∀x,tx l c ⟨A,x⟩=tx l c s:=λ c hc x=>by
   have:=hsame c hc;unfold tx;unfold IT at this;simp only[this]
  have hnd:∀c,k<=c->∀x,ks l c ⟨A,x⟩=ks l c s:=λ c hc x=>by
   unfold ks;rw[hlv c hc]
  refine⟨hAl,by simp[ll],λ j hj=>?_,λ q hq=>ajJ (low q hq) (hge _),λ c h1 h2 h3 h4=>?_,λ c h1 h2 h3=>?_,λ c h1 h2=>?_⟩
  ·show IT A j=_\/_;rcases hget j with h | h
   ·show IT A j=_\/(∃q,q<d.length/\(Q9 d q).bE=j/\IT A j=_)\/∃c:Nat,_/\_/\_/\_/\_/\IT A j=_;rw[h.1];rcases just j hj with h | h | ⟨c,h1,h2,h3,h4,h5,h6⟩
    ·exact .inl h
    ·exact .inr (.inl h)
    refine .inr (.inr ⟨c,om,h2,h3,h4,?_,?_⟩)
    ·rw[hlv c om];exact h5
    rw[hnd c om];exact h6
   refine .inr (.inr ⟨k,afM _,hk,hu,h.1,?_,?_⟩)
   ·rw[hlv k (afM _)];unfold sd;omega
   rw[hnd k (afM _)];exact h.2.2
  ·show ks l c _<=(IT A (sd l c).aJ.toNat).sO;rw[hnd c h1];rcases aoV h1 with h | h
   ·subst h;rcases hget (sd l k).aJ.toNat with h | h
    ·rw[h.1];exact h.2 om
    rw[h.2.2];exact air _
   exact ajJ (up c h h2 h3 h4) (hge _)
  ·rw[hlv c h1];show _/\BE (s.lv.set k (tx l k s)) c=_;unfold BE;rw[dB];rcases aoV h1 with h | h
   ·subst h;rw[afc ⟨rfl,om⟩];exact⟨by unfold sd;omega,rfl⟩
   rw[aeV om];exact ok c h h2 h3
  show BE (s.lv.set k (tx l k s)) c=0;unfold BE;rw[dB];have hck:c≠k:=λ h=>by
   rcases h2 with h2 | h2
   ·omega
   subst h;unfold xM at h2;rw[hu]at h2;cases h2
  rw[aeV (λ h=>hck h.1)];refine zero c h1 ?_;rcases h2 with h2 | h2
  ·exact .inl om
  exact .inr h2
theorem aei (hv:Ef l d):∀(k:Nat) (s:DS),k<=l.length->Dm l d u k s->
  ((O6 l u k s).2 = -1/\Dm l d u 0 (O6 l u k s).1)\/∃q:Nat,(O6 l u k s).2=q/\q<k/\Dm l d u (q+1) (O6 l u k s).1/\xL l u q (O6 l u k s).1=true:=by
 intro k;induction k with
 | zero=>intro s _ h;exact .inl ⟨rfl,h⟩
 | succ k ih=>
  intro s hk h;rw[O6];cases hf:xL l u k s with
  | true=>exact .inr ⟨k,rfl,om,h,hf⟩
  | false=>
   simp only[ags];rcases ih _ om (aeh hv om h hf)with h | ⟨q,h1,h2,h3⟩
   ·exact .inl h
   exact .inr ⟨q,h1,om,h3⟩
def aej (hv:Ef l d):((IS l d).2 = -1/\Dm l d (dI l d) 0 (IS l d).1)\/∃q:Nat,(IS l d).2=q/\q<l.length/\Dm l d (dI l d) (q+1) (IS l d).1/\xL l (dI l d) q (IS l d).1=true:=
 aei hv _ _ (afM _) (ag6 hv _)
structure Mt (l:ap1) (r:aK) (d:ap3):Prop where
 used:∀i,xM (dI l d) i=true->xM r.On i=true
 aJ:∀i,i<l.length->xM r.On i=true->0<=(sd l i).aJ->xM r.On (sd l i).aJ.toNat=true/\gR l r i+(sd l i).dR<=gR l r (sd l i).aJ.toNat
 dW:∀i,i<l.length->xM r.On i=true->BE (gY l d) i<=(sd l i).dW
 XS:∀x∈d,x.ij<=gR l r x.bE.toNat/\gR l r x.bE.toNat<=x.cY
def WK:r9 l r d=true↔Mt l r d:=by
 unfold r9;rw[aeP,ajL,ahA,aja];have hb:∀i,(!FM l r (dI l d) (gY l d) i)=true↔(xM r.On i=false->xM (dI l d) i=false)/\(xM r.On i=true->(0<=(sd l i).aJ->xM r.On (sd l i).aJ.toNat=true/\gR l r i+(sd l i).dR<=gR l r (sd l i).aJ.toNat)/\BE (gY l d) i<=(sd l i).dW):=by
  intro i;unfold FM xM sd BE;cases hon:r.On.getD i false with
  | false=>simp
  | true=>
   simp only[aj1,ags,ahA,afr,aiI,aie,anG,ahS];constructor
   ·rintro ⟨h1,h2⟩;refine⟨nofun,λ _=>⟨λ hp=>?_,h2⟩⟩;rcases h1 with h1 | h1
    ·exact absurd hp h1
    exact h1
   rintro ⟨_,h⟩;obtain⟨h1,h2⟩:=h (by trivial);refine⟨?_,h2⟩;by_cases hp:0<=(l.getD i ao).aJ
   ·exact .inr (h1 hp)
   exact .inl hp
 have hd:∀x,¬ O5 l r x=true↔x.ij<=gR l r x.bE.toNat/\gR l r x.bE.toNat<=x.cY:=by
  intro x;unfold O5;rw[aj4,ahS,uP]
 constructor
 ·rintro ⟨h1,h2⟩;have h1:∀i,i<l.length->_:=λ i hi=>(hb i).1 (h1 i (aj7.2 hi));refine⟨λ i hi=>?_,λ i hi ho=>((h1 i hi).2 ho).1,λ i hi ho=>((h1 i hi).2 ho).2,λ x hx=>(hd x).1 (h2 x hx)⟩;have hlt:=kG hi;cases ho:xM r.On i with
  | true=>rfl
  | false=>rw[(h1 i hlt).1 ho]at hi;cases hi
 rintro ⟨h1,h2,h3,h4⟩;refine⟨λ i hi=>(hb i).2 ⟨λ ho=>?_,λ ho=>⟨h2 i (aj7.1 hi) ho,h3 i (aj7.1 hi) ho⟩⟩,λ x hx=>(hd x).2 (h4 x hx)⟩;cases hu:xM (dI l d) i with
 | false=>rfl
 | true=>rw[h1 i hu]at ho;cases ho
def FO (h:dY l d=true):cB l=0:=by
 unfold dY at h;simp only[aeP]at h;simpa using h.1.1
def fj (h:dY l d=true):cK l r d=true↔UI l r/\Mt l r d:=by
 unfold cK;rw[h];cases hr:iM l r with
 | false=>
  simp;intro hk;rw[wY.2 ⟨FO h,hk⟩]at hr;cases hr
 | true=>
  simp only[aj1,Bool.or_self,ags];rw[WK];exact⟨λ hm=>⟨(wY.1 hr).2,hm⟩,λ hm=>hm.2⟩
def NQ {v:Int} {Vx:apU} {t:Nat} (hv:v<=Vx.getD t 0):S9 Vx v<=t:=by
 rcases aiZ t (S9 Vx v)with h | h
 ·have:=abM t h;omega
 exact h
def WL {p:Int} (h:Hd p v=true) {j:Nat} (hij:i<=j) (hj:j<v.length):v.getD i 0<=v.getD j 0:=by
 rcases aoV hij with h1 | h1
 ·subst h1;exact air _
 exact Int.le_of_lt (ag4 h i j h1 hj)
def abR (hv:Ef l d) (hr:UI l r) (hm:Mt l r d) (h:Dm l d (dI l d) k s):∀j,xM (dI l d) j=true->(IT s.a j).sO<=gR l r j:=by
 have key:∀m j,l.length - j<=m->xM (dI l d) j=true->(IT s.a j).sO<=gR l r j:=by
  intro m;induction m with
  | zero=>intro j h1 h2;have:=kG h2;omega
  | succ m ih=>
   intro j h1 hj;have hlt:=kG hj;rcases h.just j hlt with h2 | ⟨q,h2,h3,h4⟩ | ⟨c,h2,h3,h4,h5,h6,h7⟩
   ·rw[h2];have:=JX hv hr j hlt;show 0<=_;omega
   ·rw[h4];have:=(hm.XS _ (fe cw h2)).1;have e:(d.getD q cw).bE.toNat=j:=by unfold Q9 at h3;omega
    rw[e]at this;exact this
   rw[h7];have hc:=(hv.bE c h3).2.1;have h8:=ih c (by unfold sd at h5;omega) h4;have h9:=hm.aJ c h3 (hm.used c h4) om;have e:(sd l c).aJ.toNat=j:=by omega
   rw[e]at h9;have h10:=hr.bC c h3;have h11:tx l c s<=(r.aT.getD c 0).toNat:=NQ h8;have h12:=WL (hv.bC c h3) h11 h10.2.1;refine ajJ ?_ h9.2;show(l.getD c ao).bC.getD (tx l c s) 0+(l.getD c ao).dR<=gR l r c+(sd l c).dR;unfold gR sd;omega
 exact λ j=>key _ j (afM _)
def Ze {q:Nat} (hv:Ef l d) (hr:UI l r) (hm:Mt l r d) (h:Dm l d (dI l d) (q+1) s) (hf:xL l (dI l d) q s=true):False:=by
 unfold xL at hf;rw[aeP,ahA]at hf;have h1:=ahT hf.2;have hlt:=kG (l:=l) (d:=d) (j:=q) hf.1;have h2:=abR hv hr hm h q hf.1;have h3:=hr.bC q hlt;have h4:tx l q s<=(r.aT.getD q 0).toNat:=NQ h2;omega
def Zf (hv:Ef l d) (h:Dm l d (dI l d) 0 s):UI l ⟨dI l d,s.lv⟩:=by
 refine⟨wX l d,h.ll,λ i hi=>?_⟩;cases hu:xM (dI l d) i with
 | true=>
  have:=h.ok i (ahU _) hi hu;unfold BE sd at this;show 0<=s.lv.getD i 0/\(s.lv.getD i 0).toNat<_/\s.lv.getD i 0<_;omega
 | false=>
  have:=h.zero i hi (.inr hu);unfold BE at this;have h1:=(hv.bE i hi).2.2.1;show 0<=s.lv.getD i 0/\(s.lv.getD i 0).toNat<_/\s.lv.getD i 0<_;omega
def Cj (h:Dm l d (dI l d) 0 s) (hu:xM (dI l d) i=true):gR l ⟨dI l d,s.lv⟩ i=(sd l i).bC.getD (tx l i s) 0:=by
 have:=(h.ok i (ahU _) (kG hu) hu).2;unfold BE at this;unfold gR;show(l.getD i ao).bC.getD (s.lv.getD i 0).toNat 0=_;rw[this];rfl
def abS (hv:Ef l d) (h:Dm l d (dI l d) 0 s) (hcap:∀i,xM (dI l d) i=true->BE (gY l d) i<=(sd l i).dW)
  (hhi:∀x∈d,gR l ⟨dI l d,s.lv⟩ x.bE.toNat<=x.cY):Mt l ⟨dI l d,s.lv⟩ d:=by
 refine⟨λ i hi=>hi,λ i hi ho hp=>⟨UJ hv ho hp,?_⟩,λ i hi ho=>hcap i ho,λ x hx=>⟨?_,hhi x hx⟩⟩
 ·have hpu:=UJ hv ho hp;have h1:=h.up i (ahU _) hi ho hp;have h2:=h.ok _ (ahU _) (kG hpu) hpu;rw[Cj h ho,Cj h hpu];have h3:=WI (v:=(IT s.a (sd l i).aJ.toNat).sO) (l:=(sd l (sd l i).aJ.toNat).bC) h2.1;exact ajJ h1 h3
 have hu:=Ln hv hx;obtain⟨q,hq,rfl⟩:∃q,q<d.length/\x=Q9 d q:=by
  obtain⟨q,hq,e⟩:=ahZ.1 hx;exact⟨q,hq,by unfold Q9;rw[ad7,aeA hq,e];rfl⟩
 rw[Cj h hu];exact ajJ (h.ij q hq) (WI (h.ok _ (ahU _) (kG hu) hu).1)
structure Best (l:ap1) (d:ap3) (r:aK):Prop where
 ok:cK l r d=true
 On:r.On=dI l d
 zero:∀i,xM (dI l d) i=false->BE r.aT i=0
 least:∀q,cK l q d=true->∀i,xM (dI l d) i=true->xM q.On i=true/\BE r.aT i<=BE q.aT i
def UK (h:dY l d=true):rY l d=0:=by
 unfold rY;rw[h,FO h];rfl
def WM (h:dY l d=true):((lS l d).2=0/\Best l d (lS l d).1)\/(lS l d=(zH,9)/\∀q,cK l q d=false):=by
 have hv:=pX h;unfold lS;rw[UK h];simp only[bne_self_eq_false,ags];rcases aej hv with⟨h1,h2⟩ | ⟨q,h1,h2,h3,h4⟩
 ·generalize IS l d=p at h1 h2;obtain⟨s,f⟩:=p;simp only at h1 h2;subst h1;cases hm:cK l ⟨dI l d,s.lv⟩ d with
  | true=>
   refine .inl ⟨rfl,?_⟩;show Best l d ⟨dI l d,s.lv⟩;refine⟨hm,rfl,λ i hi=>?_,λ q hq i hi=>?_⟩
   ·by_cases hl:i<l.length
    ·exact h2.zero i hl (.inr hi)
    exact EA 0 (by show s.lv.length<=i;rw[h2.ll];omega)
   obtain⟨hr,hmt⟩:=(fj h).1 hq;refine⟨hmt.used i hi,?_⟩;have h5:=abR hv hr hmt h2 i hi;have h6:tx l i s<=(q.aT.getD i 0).toNat:=NQ h5;have h7:=(h2.ok i (ahU _) (kG hi) hi).2;have h8:=hr.bC i (kG hi);show BE s.lv i<=BE q.aT i;rw[h7];unfold BE;omega
  | false=>
   refine .inr ⟨rfl,λ q=>?_⟩;cases hq:cK l q d with
   | false=>rfl
   | true=>
    obtain⟨hr,hmt⟩:=(fj h).1 hq;exfalso;have hle:=abR hv hr hmt h2;have:=(fj h).2 ⟨Zf hv h2,abS hv h2 (λ i hi=>hmt.dW i (kG hi) (hmt.used i hi)) (λ x hx=>?_)⟩
    ·rw[hm]at this;cases this
    have hu:=Ln hv hx;rw[Cj h2 hu];have h6:tx l x.bE.toNat s<=(q.aT.getD x.bE.toNat 0).toNat:=NQ (hle _ hu);have h8:=hr.bC _ (kG hu);have h9:=WL (hv.bC _ (kG hu)) h6 h8.2.1;have h10:=(hmt.XS x hx).2;unfold gR at h10;unfold sd;omega
 refine .inr ⟨?_,λ r=>?_⟩
 ·rw[h1,afl (by omega:(0:Int)<=(q:Nat))];rfl
 cases hq:cK l r d with
 | false=>rfl
 | true=>
  obtain⟨hr,hmt⟩:=(fj h).1 hq;exact(Ze hv hr hmt h3 h4).elim
def jnL (l:ap1) (u:apV):apU->Prop
 | []=>True
 | k::t=>(0<=k/\k<l.length/\xM u k.toNat=true/\(∀k',t.head? = some k'->(sd l k.toNat).aJ=k'))/\jnL l u t
structure Good (l:ap1) (d:ap3) (last:Int) (c:apU) (fst:Int):Prop where
 ne:c≠[]
 jn:jnL l (dI l d) c
 lo : -1<=fst
 hi:fst<d.length
 yes:0<=fst->(Q9 d fst.toNat).bE=BE c 0/\rwN l d last c (Q9 d fst.toNat).ij=true
 no:fst<0->rwN l d last c 0=true
variable {e:ap3}
def UL (hd:Ef l d) (he:Ef l e) (hu:∀j,Jj d j=true->Jj e j=true) (hl:∀j,BE (gY l d) j<=BE (gY l e) j) (hs:∀x∈d,x∈e) (h:Mt l r e):Mt l r d:=
 ⟨λ i hi=>h.used i (Zb hd he hu i hi),h.aJ,λ i hi ho=>ajJ (hl i) (h.dW i hi ho),λ x hx=>h.XS x (hs x hx)⟩
def UM (hs:∀x∈d,x∈e) (j:Nat) (h:Jj d j=true):Jj e j=true:=by
 unfold Jj at *;rw[ai7]at *;obtain⟨x,hx,h⟩:=h;exact⟨x,hs x hx,h⟩
def Ra (hd:dY l d=true) (he:dY l e=true) (hn:d.length+e.length<=32):dY l (d++e)=true:=by
 unfold dY at *;simp only[aeP,ahA]at *;refine⟨⟨hd.1.1,afl (by rw[aeU];omega)⟩,?_⟩;rw[aoQ,hd.2,he.2];rfl
def Su (hd:dY l d=true) (he:dY l e=true) (hn:d.length+e.length<=32) (j:Nat):BE (gY l d) j<=BE (gY l (d++e)) j:=by
 have:=Zd (pX hd) (pX he) (GX (pX (Ra hd he hn))) j;have:=(Ss (pX he) j).1;omega
def UN (hd:dY l d=true) (he:dY l e=true) (hn:d.length+e.length<=32) (h:cK l r (d++e)=true):cK l r d=true:=by
 have hde:=Ra hd he hn;obtain⟨h1,h2⟩:=(fj hde).1 h;refine(fj hd).2 ⟨h1,UL (pX hd) (pX hde) (UM (λ x hx=>anx _ hx)) (Su hd he hn) (λ x hx=>anx _ hx) h2⟩
def O7 (hp:d.Perm e):dY l d=dY l e:=by
 unfold dY;rw[hp.length_eq];congr 2;rw[aoS,ai7,ai7];exact⟨λ⟨x,h1,h2⟩=>⟨x,hp.mem_iff.1 h1,h2⟩,λ⟨x,h1,h2⟩=>⟨x,hp.mem_iff.2 h1,h2⟩⟩
def WN (hp:d.Perm e) (h:cK l r d=true) (hd:dY l d=true):cK l r e=true:=by
 have he:dY l e=true:=by rw[<- O7 hp];exact hd
 obtain⟨h1,h2⟩:=(fj hd).1 h;refine(fj he).2 ⟨h1,UL (pX he) (pX hd) (UM λ x hx=>hp.mem_iff.2 hx) (λ j=>?_) (λ x hx=>hp.mem_iff.2 hx) h2⟩;rw[WJ (pX he) (pX hd) (λ j=>(Zc hp j).symm)];exact air _
def zT (a:List XQ):apU:=a.map XQ.sO
def FP (a:List XQ) (j:Nat):(zT a).getD j 0=(a.getD j Hc).sO:=by
 unfold zT;rw[ad7,anW,ad7];cases a[j]? <;> rfl
def UO (a:List XQ) (j:Nat) (x:XQ):zT (a.set j x)=(zT a).set j x.sO:=by
 unfold zT;rw[List.map_set]
def UP (a:List XQ):(zT a).length=a.length:=by simp[zT]
def set_self (a:apU) (j:Nat):a.set j (a.getD j 0)=a:=by
 refine A5 0 (by simp) λ k hk=>?_;rw[dB];split
 ·rename_i h;rw[h.1]
 rfl
def xN (a:apU) (j:Nat) (v:Int) (h:v=a.getD j 0):a.set j v=a:=by
 rw[h,set_self]
def WO (n:Nat) (d:ap3) (i:Nat):zT (tb n d (i+1))=(zT (tb n d i)).set (d.getD i cw).bE.toNat (if(d.getD i cw).ij > (zT (tb n d i)).getD (d.getD i cw).bE.toNat 0 then(d.getD i cw).ij else(zT (tb n d i)).getD (d.getD i cw).bE.toNat 0):=by
 rw[tb,FP];by_cases h:((tb n d i).getD (d.getD i cw).bE.toNat Hc).sO<(d.getD i cw).ij
 ·rw[afl h,ahX,UO,afc h]
 rw[afe h,ags,aeV h,xN _ _ _ (FP _ _).symm]
def abT (hu:u.length=l.length) (h:DOk l s) (hl:aef l s):UI l ⟨u,s.lv⟩:=
 ⟨hu,h.ll,λ i hi=>by
  have:=hl i hi;show 0<=s.lv.getD i 0/\(s.lv.getD i 0).toNat<_/\s.lv.getD i 0<_;omega⟩
def aek (hf:xL l u k s=false) (h:aef l s):aef l (Cg l u k s):=by
 intro j hj;unfold Cg;cases hu:u.getD k false with
 | false=>exact h j hj
 | true=>
  unfold xL at hf;rw[hu,aj0,ahS]at hf;have:=afj hf;show 0<=(s.lv.set k (tx l k s)).getD j 0/\(s.lv.set k (tx l k s)).getD j 0<_;rw[dB];split
  ·rename_i hjk;rw[hjk.1];omega
  exact h j hj
def MD {l m:List α} (d:α) (h:l.length<=i):(l++m).getD i d=m.getD (i - l.length) d:=by
 rw[ad7,ako h,ad7]
structure alX (l:ap1) (d:ap3) (r:aK) (ok:Bool):Prop where
 is:ok=((lS l d).2==0)
 yes:ok=true->cK l r d=true
 no:ok=false->r=(lS l d).1
end Go.Proofs.YtifekdmmpbcdgaaGreatDoor.Sp

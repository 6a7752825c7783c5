/- An abstract machine over the model's code, that it is sound; models of the functions and their proofs. -/
import Derived.Test.YtifekdmmpbcdgaaGreatDoorA4
import Derived.Test.YtifekdmmpbcdgaaGreatDoorA3
set_option linter.unusedVariables false
set_option linter.unusedSimpArgs false
set_option maxHeartbeats 4000000
namespace Go.Ab
def Qm {α:Type} (l:List α) (P:α→Bool):Int:=if l.any P then ((l.findIdx P:Nat):Int) else -1
variable {α:Type}
theorem ajb {l:List α} {P:α→Bool} {d:α} {i:Nat} (hi:i<l.length) (h:P (l.getD i d)=true):l.any P=true:=by
 rw [List.any_eq_true];refine ⟨l[i],List.getElem_mem hi,?_⟩;rw [List.getD_eq_getElem?_getD,List.getElem?_eq_getElem hi] at h;exact h
theorem any_take_succ (l:List α) (P:α→Bool) (d:α) {i:Nat} (hi:i<l.length):(l.take (i+1)).any P=((l.take i).any P||P (l.getD i d)):=by
 rw [List.take_add_one,List.any_append,List.getElem?_eq_getElem hi,List.getD_eq_getElem?_getD,List.getElem?_eq_getElem hi];simp
theorem alB {l:List α} {P:α→Bool} {d:α} {g:Int} (h0:0≤g) (h1:g<l.length) (hb:(l.take g.toNat).any P=false) (hp:P (l.getD g.toNat d)=true):Qm l P=g:=by
 have hi:g.toNat<l.length:=by omega
 unfold Qm;rw [ajb hi hp,if_pos rfl];have:l.findIdx P=g.toNat:=by
  rw [List.findIdx_eq hi];constructor
  ·rw [List.getD_eq_getElem?_getD,List.getElem?_eq_getElem hi] at hp;exact hp
  ·intro j hj;have:=List.any_eq_false.1 hb (l[j]'om) (by
    rw [List.mem_take_iff_getElem]
    exact ⟨j,om,rfl⟩)
   simpa using this
 omega
theorem ap4 {l:List α} {d:α} {p:α→M Bool} {P:α→Bool} (hp:∀x∈l,p x (P x)) (hl:(l.length:Int)≤9223372036854775807):W (bY (λ (self:Int→M Int) g=>bif (decide (g<(l.length:Int))) then
  need (0≤g∧g<(l.length:Int))<|
  bnd (p (l.getD g.toNat d)) λ v3=>
  bif v3 then
   ret g
  else
   need (aJ (g+(1:Int)))<|
   self (g+(1:Int))
 else
  ret (-1:Int)) (0:Int)) (λ r=>r=Qm l P):=by
 refine cu (λ (g:Int)=>0≤g∧g≤l.length∧(l.take g.toNat).any P=false) (λ (g:Int)=>(l.length - g).toNat) ?_ ⟨om,om,by simp⟩;intro self g ⟨h0,h1,hb⟩ ih;refine cO ?_ ?_<;>intro c
 ·have c:=of_decide_eq_true c;refine bK ⟨h0,c⟩ ?_;have hi:g.toNat<l.length:=by omega
  have hm:l.getD g.toNat d∈l:=by
   rw [List.getD_eq_getElem?_getD,List.getElem?_eq_getElem hi];exact List.getElem_mem hi
  refine aL (anM (hp _ hm)) λ v hv=>?_;subst hv;refine cO ?_ ?_<;>intro c2
  ·exact aK (alB h0 c hb c2).symm
  ·refine bK (by unfold aJ; omega) ?_;refine ih _ ⟨om,om,?_⟩ om;rw [show (g+1).toNat=g.toNat+1 by omega,any_take_succ l P d hi,hb,c2];rfl
 ·have c:=of_decide_eq_false c;refine aK ?_;unfold Qm;rw [show g.toNat=l.length by omega,List.take_length] at hb;rw [hb];rfl
theorem mM {A:Type} [Inhabited A] {c:Prop} {d:Decidable c} {m:M A} {v:A} (h:c→m v):W (grd c m) (λ r=>r=v):=⟨v,h,rfl⟩
variable {p: Prop}
theorem fA {q: Prop} (h : p) (e : p = q := by (try simp only [Bool.and_eq_true, Bool.or_eq_true, Bool.and_eq_false_iff, Bool.or_eq_false_iff, decide_eq_true_eq, decide_eq_false_iff_not, Bool.not_eq_true', Bool.not_eq_false', beq_iff_eq, bne_iff_ne, ne_eq, beq_eq_false_iff_ne, bne_eq_false_iff_eq, Int.not_lt, Int.not_le, Bool.not_eq_true, Bool.not_eq_false]); try rfl) : q := e ▸ h
theorem ob (h : p := by
  intros; (try dsimp only); first
  | omega
  | (unfold aJ; omega)
  | assumption
  | trivial
  | (simp only [aJ, big, gZ, List.length_take, List.length_drop, List.length_append, List.length_cons, List.length_nil, List.length_set, List.length_replicate, List.length_map, List.length_range]; omega)
  | (simp only [aJ, big, List.length_take, List.length_drop, List.length_append, List.length_cons, List.length_nil, List.length_set, List.length_replicate] at *; omega)
  | (rw [Int.tmod_eq_emod_of_nonneg (by omega)]; (try simp only [List.length_cons, List.length_nil]); omega)
  | (repeat' apply And.intro) <;> first
    | omega
    | (unfold aJ; omega)
    | assumption
    | trivial
    | (simp only [aJ, big, gZ, List.length_take, List.length_drop, List.length_append, List.length_cons, List.length_nil, List.length_set, List.length_replicate, List.length_map, List.length_range]; omega)
    | (simp only [aJ, big, List.length_take, List.length_drop, List.length_append, List.length_cons, List.length_nil, List.length_set, List.length_replicate] at *; omega)
    | (rw [Int.tmod_eq_emod_of_nonneg (by omega)]; (try simp only [List.length_cons, List.length_nil]); omega)
    | ((simp only [List.forall_mem_append, List.forall_mem_singleton, List.forall_mem_cons, List.not_mem_nil, false_implies, implies_true, and_true]); done)
    | ((simp only [List.forall_mem_append, List.forall_mem_singleton, List.forall_mem_cons, List.not_mem_nil, false_implies, implies_true, and_true]); (repeat' apply And.intro) <;> first | omega | assumption | trivial | (simp only [aJ, big, List.length_take, List.length_drop, List.length_append, List.length_cons, List.length_nil, List.length_set, List.length_replicate] at *; omega))
    | (simp_all; done)
    | (simp_all; omega)) : p := h
theorem wi {R : Type} {b : Bool} {q: Prop} {x y : M R} {Q : R → Prop} (h1 : p → W x Q) (h2 : q → W y Q) (e1 : (b = true) = p := by (try simp only [Bool.and_eq_true, Bool.or_eq_true, Bool.and_eq_false_iff, Bool.or_eq_false_iff, decide_eq_true_eq, decide_eq_false_iff_not, Bool.not_eq_true', Bool.not_eq_false', beq_iff_eq, bne_iff_ne, ne_eq, beq_eq_false_iff_ne, bne_eq_false_iff_eq, Int.not_lt, Int.not_le, Bool.not_eq_true, Bool.not_eq_false]); try rfl) (e2 : (b = false) = q := by (try simp only [Bool.and_eq_true, Bool.or_eq_true, Bool.and_eq_false_iff, Bool.or_eq_false_iff, decide_eq_true_eq, decide_eq_false_iff_not, Bool.not_eq_true', Bool.not_eq_false', beq_iff_eq, bne_iff_ne, ne_eq, beq_eq_false_iff_ne, bne_eq_false_iff_eq, Int.not_lt, Int.not_le, Bool.not_eq_true, Bool.not_eq_false]); try rfl) : W (cond b x y) Q := cO (λ c => h1 (e1 ▸ c)) (λ c => h2 (e2 ▸ c))
theorem wn {R : Type} {d : Decidable p} {m : M R} {Q : R → Prop} (h : W m Q) (hp : p := by exact ob) : W (need p m) Q := bK hp h
theorem wm {R : Type} {p': Prop} {d : Decidable p} {d' : Decidable p'} {m : M R} {Q : R → Prop} (h : W m Q) (hp : p := by exact ob) (hp' : p' := by exact ob) : W (need p (need p' m)) Q := bK hp (bK hp' h)
end Go.Ab
namespace Go.Proofs.YtifekdmmpbcdgaaGreatDoor
open Go.Ab
set_option maxRecDepth 100000
theorem VD (x n:Int) (h:0<n) : -n<x.tmod n∧x.tmod n<n:=by
 have h1:=Int.natAbs_tmod x n;have h2:=Nat.mod_lt x.natAbs (show 0<n.natAbs by omega);omega
theorem acO:∀(k i:Nat) (g:Nat→AV) (s:ByteArray),(Gq k i g s).size=s.size+k:=by
 intro k;induction k with
 | zero=>intro i g s; rfl
 | succ k ih=>intro i g s; unfold Gq; rw [ih,ByteArray.size_push]; omega
theorem aeI (l:List Int):(strOf l).size=l.length:=by
 unfold strOf;rw [acO];simp
variable {α:Type} {i:Nat}
theorem aaK {P:α→Prop} {l:List α} {y:α} (h:∀x∈l,P x) (hy:P y):∀x∈l.set i y,P x:=λ x hx=>by
 rcases List.mem_or_eq_of_mem_set hx with e | e
 ·exact h x e
 ·subst e; exact hy
structure ag1 (b:aP):Prop where
 ncl:b.bT.length≤5
 cl:∀c∈b.bT,c.bJ.length≤2∧c.aR.length≤3
 nsu:b.bD.length≤3
 su:∀c∈b.bD,c.dV.length≤3
 ngr:b.aQ.aG.length≤5
 gr:∀c∈b.aQ.aG,c.dz.length≤10∧c.aI.length≤2
 nre:b.bf.length≤4
 re:∀c∈b.bf,c.fV.length≤100
 ndo:b.bO.length≤4
theorem getD_in {l:List α} (d:α) (h:i<l.length):l.getD i d∈l:=by
 rw [List.getD_eq_getElem?_getD,List.getElem?_eq_getElem h];exact List.getElem_mem h
theorem acP {x_:Int} {n_:Int} (h1:n_≤2000000):W (MF x_ n_) (λ r=>0≤r∧(0<n_→r<n_)∧(n_<1→r=0)):=by
 unfold MF;refine wi ?_ ?_<;>intro c1
 ·exact aK<|ob
 ·refine wn<|bK (by (have:=VD x_ n_ om; unfold aJ; omega)) ?_;refine wn<|aK ?_;(have h:=VD x_ n_ om; have h2:=VD (x_.tmod n_+n_) n_ om; have h3:=Int.tmod_nonneg (a:=x_.tmod n_+n_) n_ om; omega)
variable {bX:cB}
theorem bQ {n_:Int} (h1:n_≤2000000) (h2:0≤bX.At) (h3:bX.L.length≤600):W (dM n_ bX) (λ r=>0≤r.1∧(0<n_→r.1<n_)∧(n_<1→r.1=0)∧0≤r.2.At∧r.2.L.length≤600):=by
 unfold dM;refine wi ?_ ?_<;>intro c1
 ·exact aK<|ob
 ·refine wm<|wn ?_;refine aL (acP ob) λ v1 hv1=>?_;obtain ⟨FH,zM,FI⟩:=hv1;exact aK<|ob
theorem lW {Gi:Int} {JF:Int} (h1 : -2000000≤Gi) (h2:JF≤100000) (h3:Gi≤JF+1) (h4:JF - Gi≤100000) (h5:0≤bX.At) (h6:bX.L.length≤600):W (jN Gi JF bX) (λ r=>Gi≤r.1∧(Gi≤JF→r.1≤JF)∧(JF<Gi→r.1=Gi)∧0≤r.2.At∧r.2.L.length≤600):=by
 unfold jN;refine wm<|aL (bQ ob ob ob) λ v1 hv1=>?_;obtain ⟨FH,zM,FI,Je,Ll⟩:=hv1;refine wn<|aK ?_;exact ob
theorem fM {l_:List Int} (h1:0<l_.length) (h2:l_.length≤1000) (h3:0≤bX.At) (h4:bX.L.length≤600):W (gP l_ bX) (λ r=>(∃i:Nat,i<l_.length∧r.1=l_.getD i 0)∧0≤r.2.At∧r.2.L.length≤600):=by
 unfold gP;refine aL (bQ ob ob ob) λ v1 hv1=>?_;obtain ⟨FH,zM,FI,Je,Ll⟩:=hv1;refine wn<|aK ?_;(exact ⟨⟨v1.1.toNat,om,rfl⟩,ob⟩)
theorem R7 {l_:List ByteArray} (h1:0<l_.length) (h2:l_.length≤1000) (h3:0≤bX.At) (h4:bX.L.length≤600):W (vF l_ bX) (λ r=>(∃i:Nat,i<l_.length∧r.1=l_.getD i ByteArray.empty)∧0≤r.2.At∧r.2.L.length≤600):=by
 unfold vF;refine aL (bQ ob ob ob) λ v1 hv1=>?_;obtain ⟨FH,zM,FI,Je,Ll⟩:=hv1;refine wn<|aK ?_;(exact ⟨⟨v1.1.toNat,om,rfl⟩,ob⟩)
theorem j3:W (nA) (λ r=>r=[({ data:=#[117,97,114,116] }:ByteArray),({ data:=#[115,112,105] }:ByteArray),({ data:=#[105,50,99] }:ByteArray),({ data:=#[112,119,109] }:ByteArray)]):=by
 unfold nA;refine aK ?_;rfl
theorem R8 {n_:Int} {k_:Int} (h1:0≤n_) (h2:n_≤1000) (h3:1≤k_) (h4:k_≤100) (h5:0≤bX.At) (h6:bX.L.length≤600):W (kC n_ k_ bX) (λ r=>r.1.length≤n_.toNat∧(∀p∈r.1,0≤p∧p<n_)∧0≤r.2.At∧r.2.L.length≤600):=by
 unfold kC;refine cu (λ (g1:Int×List Int×Int×List Int)=>0≤g1.1∧g1.1≤n_∧0≤g1.2.2.1∧g1.2.1.length≤600∧(g1.2.2.2.length:Int)≤g1.1∧(∀p∈g1.2.2.2,0≤p∧p<n_)) (λ (g1:Int×List Int×Int×List Int)=>(n_ - g1.1).toNat) ?_ ?_
 ·intro ah g1 fZ dS;obtain ⟨fI,eG,dI,jF,zN,Jf⟩:=fZ;unfold vD;refine wi ?_ ?_<;>intro c1
  ·refine aL (bQ ob ob ob) λ v3 hv3=>?_;obtain ⟨Xb,Zn,Zo,ajc,ap5⟩:=hv3;refine wn<|wi ?_ ?_<;>intro c2
   ·refine wm<|dS _ ?_ ?_
    ·exact ob
    ·exact ob
   ·refine wn<|dS _ ?_ ?_
    ·exact ob
    ·exact ob
  ·exact aK<|ob
 ·exact ob
theorem OG {iX:Int} (h1:0≤iX) (h2:iX≤100) (h3:0≤bX.At) (h4:bX.L.length≤600):W (qI iX bX) (λ r=>r.1.length≤iX.toNat∧(∀x∈r.1,x.fV.length≤100)∧0≤r.2.At∧r.2.L.length≤600):=by
 unfold qI;refine wn<|aL (bQ ob ob ob) λ v1 hv1=>?_;obtain ⟨FH,zM,FI,Je,Ll⟩:=hv1;refine cu (λ (g1:Int×List Int×Int×List eu)=>0≤g1.1∧0≤g1.2.2.1∧g1.2.1.length≤600∧(g1.2.2.2.length:Int)+g1.1≤iX∧(∀x∈g1.2.2.2,x.fV.length≤100)) (λ (g1:Int×List Int×Int×List eu)=>g1.1.toNat) ?_ ?_
 ·intro ah g1 fZ dS;obtain ⟨fI,eG,dI,jF,zN⟩:=fZ;unfold zH;refine wi ?_ ?_<;>intro c1
  ·refine aL (R8 ob ob ob ob ob ob) λ v4 hv4=>?_;obtain ⟨ajd,aje,amG,ap6⟩:=hv4;refine wm<|dS _ ?_ ?_
   ·exact ob
   ·exact ob
  ·exact aK<|ob
 ·exact ob
theorem MX {iX:Int} (h1:0≤iX) (h2:iX≤50) (h3:0≤bX.At) (h4:bX.L.length≤600):W (pF iX bX) (λ r=>r.1.length≤iX.toNat∧0≤r.2.At∧r.2.L.length≤600):=by
 unfold pF;refine wn<|aL (bQ ob ob ob) λ v1 hv1=>?_;obtain ⟨FH,zM,FI,Je,Ll⟩:=hv1;refine cu (λ (g1:Int×List Int×Int×List dG)=>0≤g1.1∧0≤g1.2.2.1∧g1.2.1.length≤600∧(g1.2.2.2.length:Int)+g1.1≤iX) (λ (g1:Int×List Int×Int×List dG)=>g1.1.toNat) ?_ ?_
 ·intro ah g1 fZ dS;obtain ⟨fI,eG,dI,jF⟩:=fZ;unfold yC;refine wi ?_ ?_<;>intro c1
  ·refine wn<|aL (lW ob ob ob ob ob ob) λ v6 hv6=>?_;obtain ⟨avl,avm,avn,avo,avp⟩:=hv6;refine aL (bQ ob ob ob) λ v7 hv7=>?_;obtain ⟨amH,ap7,ap8,avq,avr⟩:=hv7;refine wm<|dS _ ?_ ?_
   ·exact ob
   ·exact ob
  ·exact aK<|ob
 ·exact ob
theorem OH (h1:0≤bX.At) (h2:bX.L.length≤600):W (qG bX) (λ r=>r.1.length≤5∧(∀c∈r.1,c.bJ.length≤2∧c.aR.length≤3)∧0≤r.2.At∧r.2.L.length≤600):=by
 unfold qG;refine aL (bQ ob ob ob) λ v1 hv1=>?_;obtain ⟨FH,zM,FI,Je,Ll⟩:=hv1;refine cu (λ (g1:Int×List Int×Int×List ay)=>0≤g1.1∧0≤g1.2.2.1∧g1.2.1.length≤600∧(g1.2.2.2.length:Int)+g1.1≤5∧(∀c∈g1.2.2.2,c.bJ.length≤2∧c.aR.length≤3)) (λ (g1:Int×List Int×Int×List ay)=>g1.1.toNat) ?_ ?_
 ·intro ah g1 fZ dS;obtain ⟨fI,eG,dI,jF,zN⟩:=fZ;unfold zD;refine wi ?_ ?_<;>intro c1
  ·refine aL (fM ob ob ob ob) λ v28 hv28=>?_;obtain ⟨ar7,ar8,ar9⟩:=hv28;refine wi ?_ ?_<;>intro c2
   ·refine aL (bQ ob ob ob) λ v41 asa=>?_;obtain ⟨asb,asc,ase,asf,asg⟩:=asa;refine wi ?_ ?_<;>intro c3
    ·refine aL (bQ ob ob ob) λ v42 ash=>?_;obtain ⟨asi,asj,asl,asn,aso⟩:=ash;refine aL (bQ ob ob ob) λ v49 aeJ=>?_;obtain ⟨ajf,ajg,ajh,aji,ajj⟩:=aeJ;refine wi ?_ ?_<;>intro c4
     ·refine aL (fM ob ob ob ob) λ v50 aaL=>?_;obtain ⟨asq,asr,asu⟩:=aaL;unfold fQ;refine aL (bQ ob ob ob) λ v47 aaM=>?_;obtain ⟨aaN,aaO,aaP,aaQ,aaR⟩:=aaM;refine wi ?_ ?_<;>intro c5
      ·refine aL (fM ob ob ob ob) λ v48 Xc=>?_;obtain ⟨aaS,aaT,aaU⟩:=Xc;unfold dX;refine wm<|dS _ ?_ ?_
       ·exact ob
       ·exact ob
      ·unfold dX;refine wm<|dS _ ?_ ?_
       ·exact ob
       ·exact ob
     ·refine wi ?_ ?_<;>intro c6
      ·refine aL (fM ob ob ob ob) λ v51 an0=>?_;obtain ⟨asv,asw,asx⟩:=an0;unfold fQ;refine aL (bQ ob ob ob) λ v47 aaM=>?_;obtain ⟨aaN,aaO,aaP,aaQ,aaR⟩:=aaM;refine wi ?_ ?_<;>intro c7
       ·refine aL (fM ob ob ob ob) λ v48 Xc=>?_;obtain ⟨aaS,aaT,aaU⟩:=Xc;unfold dX;refine wm<|dS _ ?_ ?_
        ·exact ob
        ·exact ob
       ·unfold dX;refine wm<|dS _ ?_ ?_
        ·exact ob
        ·exact ob
      ·refine wi ?_ ?_<;>intro c8
       ·unfold fQ;refine aL (bQ ob ob ob) λ v47 aaM=>?_;obtain ⟨aaN,aaO,aaP,aaQ,aaR⟩:=aaM;refine wi ?_ ?_<;>intro c9
        ·refine aL (fM ob ob ob ob) λ v48 Xc=>?_;obtain ⟨aaS,aaT,aaU⟩:=Xc;unfold dX;refine wm<|dS _ ?_ ?_
         ·exact ob
         ·exact ob
        ·unfold dX;refine wm<|dS _ ?_ ?_
         ·exact ob
         ·exact ob
       ·refine wi ?_ ?_<;>intro c10
        ·refine wn<|aL (bQ ob ob ob) λ v52 asy=>?_;obtain ⟨asz,asA,asB,asC,asD⟩:=asy;refine wn ?_;unfold fQ;refine aL (bQ ob ob ob) λ v47 aaM=>?_;obtain ⟨aaN,aaO,aaP,aaQ,aaR⟩:=aaM;refine wi ?_ ?_<;>intro c11
         ·refine aL (fM ob ob ob ob) λ v48 Xc=>?_;obtain ⟨aaS,aaT,aaU⟩:=Xc;unfold dX;refine wm<|dS _ ?_ ?_
          ·exact ob
          ·exact ob
         ·unfold dX;refine wm<|dS _ ?_ ?_
          ·exact ob
          ·exact ob
        ·unfold fQ;refine aL (bQ ob ob ob) λ v47 aaM=>?_;obtain ⟨aaN,aaO,aaP,aaQ,aaR⟩:=aaM;refine wi ?_ ?_<;>intro c12
         ·refine aL (fM ob ob ob ob) λ v48 Xc=>?_;obtain ⟨aaS,aaT,aaU⟩:=Xc;unfold dX;refine wm<|dS _ ?_ ?_
          ·exact ob
          ·exact ob
         ·unfold dX;refine wm<|dS _ ?_ ?_
          ·exact ob
          ·exact ob
    ·unfold dX;refine wm<|dS _ ?_ ?_
     ·exact ob
     ·exact ob
   ·refine wn ?_;unfold dX;refine wm<|dS _ ?_ ?_
    ·exact ob
    ·exact ob
  ·exact aK<|ob
 ·exact ob
theorem Lm (h1:0≤bX.At) (h2:bX.L.length≤600):W (nR bX) (λ r=>r.1.length≤3∧(∀c∈r.1,c.dV.length≤3)∧0≤r.2.At∧r.2.L.length≤600):=by
 unfold nR;refine aL (bQ ob ob ob) λ v1 hv1=>?_;obtain ⟨FH,zM,FI,Je,Ll⟩:=hv1;refine cu (λ (g1:Int×List Int×Int×List aC)=>0≤g1.1∧0≤g1.2.2.1∧g1.2.1.length≤600∧(g1.2.2.2.length:Int)+g1.1≤3∧(∀c∈g1.2.2.2,c.dV.length≤3)) (λ (g1:Int×List Int×Int×List aC)=>g1.1.toNat) ?_ ?_
 ·intro ah g1 fZ dS;obtain ⟨fI,eG,dI,jF,zN⟩:=fZ;unfold wH;refine wi ?_ ?_<;>intro c1
  ·refine wn<|aL (lW ob ob ob ob ob ob) λ v12 alC=>?_;obtain ⟨asE,asF,asG,asH,asI⟩:=alC;refine aL (fM ob ob ob ob) λ v13 Yw=>?_;obtain ⟨asJ,asK,asL⟩:=Yw;refine aL (fM ob ob ob ob) λ v14 Qn=>?_;obtain ⟨asM,asN,asO⟩:=Qn;refine aL (bQ ob ob ob) λ v15 aaV=>?_;obtain ⟨asP,asQ,asR,asS,asT⟩:=aaV;refine wi ?_ ?_<;>intro c2
   ·unfold jQ;refine aL (bQ ob ob ob) λ v16 Xd=>?_;obtain ⟨an1,an2,an3,an4,an5⟩:=Xd;refine wn<|wi ?_ ?_<;>intro c3
    ·refine wm<|dS _ ?_ ?_
     ·exact ob
     ·exact ob
    ·refine wi ?_ ?_<;>intro c4
     ·refine wm<|dS _ ?_ ?_
      ·exact ob
      ·exact ob
     ·refine wi ?_ ?_<;>intro c5
      ·refine wm<|dS _ ?_ ?_
       ·exact ob
       ·exact ob
      ·refine wi ?_ ?_<;>intro c6
       ·refine wm<|dS _ ?_ ?_
        ·exact ob
        ·exact ob
       ·refine wm<|dS _ ?_ ?_
        ·exact ob
        ·exact ob
   ·unfold jQ;refine aL (bQ ob ob ob) λ v16 Xd=>?_;obtain ⟨an1,an2,an3,an4,an5⟩:=Xd;refine wn<|wi ?_ ?_<;>intro c7
    ·refine wm<|dS _ ?_ ?_
     ·exact ob
     ·exact ob
    ·refine wi ?_ ?_<;>intro c8
     ·refine wm<|dS _ ?_ ?_
      ·exact ob
      ·exact ob
     ·refine wi ?_ ?_<;>intro c9
      ·refine wm<|dS _ ?_ ?_
       ·exact ob
       ·exact ob
      ·refine wi ?_ ?_<;>intro c10
       ·refine wm<|dS _ ?_ ?_
        ·exact ob
        ·exact ob
       ·refine wm<|dS _ ?_ ?_
        ·exact ob
        ·exact ob
  ·exact aK<|ob
 ·exact ob
theorem OI (h1:0≤bX.At) (h2:bX.L.length≤600):W (qH bX) (λ r=>r.1.aG.length≤5∧(∀c∈r.1.aG,c.dz.length≤10∧c.aI.length≤2)∧0≤r.2.At∧r.2.L.length≤600):=by
 unfold qH;refine aL (lW ob ob ob ob ob ob) λ v1 hv1=>?_;obtain ⟨FH,zM,FI,Je,Ll⟩:=hv1;refine aL (bQ ob ob ob) λ v2 hv2=>?_;obtain ⟨Xe,Xf,Zp,afR,ajk⟩:=hv2;refine cu (λ (g1:Int×List Int×Int×List dD)=>0≤g1.1∧0≤g1.2.2.1∧g1.2.1.length≤600∧(g1.2.2.2.length:Int)+g1.1≤5∧(∀c∈g1.2.2.2,c.dz.length≤10∧c.aI.length≤2)) (λ (g1:Int×List Int×Int×List dD)=>g1.1.toNat) ?_ ?_
 ·intro ah g1 fZ dS;obtain ⟨fI,eG,dI,jF,zN⟩:=fZ;unfold zG;refine wi ?_ ?_<;>intro c1
  ·refine wn<|bK (by (rw [aeI,show ({ data:=#[103] }:ByteArray).size=1 from rfl]; simp only [List.length_cons,List.length_nil]; omega)) ?_;refine aL (bQ ob ob ob) λ v35 an6=>?_;obtain ⟨asU,asV,asW,asX,asY⟩:=an6;refine cu (λ (g12:Int×List Int×Int×List Int)=>0≤g12.1∧0≤g12.2.2.1∧g12.2.1.length≤600∧(g12.2.2.2.length:Int)≤g12.1∧g12.1≤10) (λ (g12:Int×List Int×Int×List Int)=>(10 - g12.1).toNat) ?_ ?_
   ·intro aeF g12 ap9 aqa;obtain ⟨asZ,as0,as1,as2,as3⟩:=ap9;unfold zF;refine wi ?_ ?_<;>intro c2
    ·refine aL (lW ob ob ob ob ob ob) λ v38 hv38=>?_;obtain ⟨as4,as5,as6,as7,as8⟩:=hv38;refine wn<|wi ?_ ?_<;>intro c3
     ·refine wm<|aqa _ ?_ ?_
      ·exact ob
      ·exact ob
     ·refine wi ?_ ?_<;>intro c4
      ·unfold ku;refine aL (bQ ob ob ob) λ v39 hv39=>?_;obtain ⟨an7,an8,an9,aoa,aob⟩:=hv39;refine aL (j3) λ v40 ajl=>?_;subst ajl;refine wn<|aL (bQ ob ob ob) λ v43 ajm=>?_;obtain ⟨aoc,aod,aoe,aof,aog⟩:=ajm;refine wi ?_ ?_<;>intro c5
       ·refine aL (j3) λ v44 ajn=>?_;subst ajn;refine wm<|wm ?_;unfold iW;refine wm<|dS _ ?_ ?_
        ·exact ob
        ·exact ob
       ·unfold iW;refine wm<|dS _ ?_ ?_
        ·exact ob
        ·exact ob
      ·unfold ku;refine aL (bQ ob ob ob) λ v39 hv39=>?_;obtain ⟨an7,an8,an9,aoa,aob⟩:=hv39;refine aL (j3) λ v40 ajl=>?_;subst ajl;refine wn<|aL (bQ ob ob ob) λ v43 ajm=>?_;obtain ⟨aoc,aod,aoe,aof,aog⟩:=ajm;refine wi ?_ ?_<;>intro c6
       ·refine aL (j3) λ v44 ajn=>?_;subst ajn;refine wm<|wm ?_;unfold iW;refine wm<|dS _ ?_ ?_
        ·exact ob
        ·exact ob
       ·unfold iW;refine wm<|dS _ ?_ ?_
        ·exact ob
        ·exact ob
    ·refine wn<|wi ?_ ?_<;>intro c7
     ·unfold jI;refine aL (bQ ob ob ob) λ v45 ajo=>?_;obtain ⟨aoh,aoi,aoj,aok,aol⟩:=ajo;refine aL (j3) λ v46 aeK=>?_;subst aeK;refine wn<|aL (bQ ob ob ob) λ v49 aeJ=>?_;obtain ⟨ajf,ajg,ajh,aji,ajj⟩:=aeJ;refine wi ?_ ?_<;>intro c8
      ·refine aL (j3) λ v50 aaL=>?_;subst aaL;refine wm<|wm ?_;unfold iF;refine wm<|dS _ ?_ ?_
       ·exact ob
       ·exact ob
      ·unfold iF;refine wm<|dS _ ?_ ?_
       ·exact ob
       ·exact ob
     ·unfold jI;refine aL (bQ ob ob ob) λ v45 ajo=>?_;obtain ⟨aoh,aoi,aoj,aok,aol⟩:=ajo;refine aL (j3) λ v46 aeK=>?_;subst aeK;refine wn<|aL (bQ ob ob ob) λ v49 aeJ=>?_;obtain ⟨ajf,ajg,ajh,aji,ajj⟩:=aeJ;refine wi ?_ ?_<;>intro c9
      ·refine aL (j3) λ v50 aaL=>?_;subst aaL;refine wm<|wm ?_;unfold iF;refine wm<|dS _ ?_ ?_
       ·exact ob
       ·exact ob
      ·unfold iF;refine wm<|dS _ ?_ ?_
       ·exact ob
       ·exact ob
   ·exact ob
  ·exact aK<|ob
 ·exact ob
theorem Qo (h1:0≤bX.At) (h2:bX.L.length≤600):W (sP bX) (λ r=>ag1 r.1∧0≤r.2.At∧r.2.L.length≤600):=by
 unfold sP;refine aL (OH ob ob) λ v1 hv1=>?_;obtain ⟨FH,zM,FI,Je⟩:=hv1;refine aL (Lm ob ob) λ v2 hv2=>?_;obtain ⟨Xe,Xf,Zp,afR⟩:=hv2;refine aL (OI ob ob) λ v3 hv3=>?_;obtain ⟨Xb,Zn,Zo,ajc⟩:=hv3;refine aL (OG ob ob ob ob) λ v4 hv4=>?_;obtain ⟨ajd,aje,amG,ap6⟩:=hv4;refine aL (MX ob ob ob ob) λ v5 hv5=>?_;obtain ⟨avs,avt,avu⟩:=hv5;refine aK ?_;(refine ⟨⟨ob,zM,ob,Xf,ob,Zn,ob,aje,ob⟩,ob,ob⟩)
deriving instance DecidableEq for ay,dL,bg
def dO (n lo hi:Int):Bool:=decide (lo≤n)&&decide (n≤hi)
def zO (lo hi:Int):List Int→List Int→Bool
 | _,[]=>true
 | pre,n::r=>bif !(dO n lo hi)||pre.contains n then false else zO lo hi (pre++[n]) r
theorem aaW {lo hi n:Int} {pre r:List Int} (h:(!(dO n lo hi)||pre.contains n)=true):zO lo hi pre (n::r)=false:=by rw [zO,h]; rfl
theorem afS {lo hi n:Int} {pre r:List Int} (h:(!(dO n lo hi)||pre.contains n)=false):zO lo hi pre (n::r)=zO lo hi (pre++[n]) r:=by rw [zO,h]; rfl
def mO (a b:Int):Int:=(Nat.gcd a.toNat b.toNat:Nat)
def vN (r:dL):Bool:=decide (0≤r.pQ)&&decide (r.pQ≤144115188075855872)&&decide (1≤r.lK)&&decide (r.lK≤16777216)&&(mO r.pQ r.lK==1)
def newR (num den:Int):dL×Int:=bif decide (num<0)||decide (den<1) then (⟨0,0⟩,2) else
 bif !vN ⟨num.tdiv (mO num den),den.tdiv (mO num den)⟩ then (⟨0,0⟩,2) else (⟨num.tdiv (mO num den),den.tdiv (mO num den)⟩,0)
theorem Xg (a b:Int) (h:0<b):0<mO a b:=by
 unfold mO;have:0<b.toNat:=by omega
 have:=Nat.gcd_pos_of_pos_right a.toNat this;omega
theorem tdiv_le (a k:Int) (ha:0≤a) (hk:0<k):0≤a.tdiv k∧a.tdiv k≤a:=by
 rw [Int.tdiv_eq_ediv_of_nonneg ha];exact ⟨Int.ediv_nonneg ha om,Int.ediv_le_self _ ha⟩
def Ho (k:Int):Bool:=decide (1≤k)&&decide (k≤64)
def wY (r:dL) (k:Int):dL×Int:=bif !vN r then (⟨0,0⟩,1) else bif !Ho k then (⟨0,0⟩,2) else
 bif decide ((144115188075855872:Int).tdiv (k.tdiv (mO k r.lK))<r.pQ) then (⟨0,0⟩,2) else newR (r.pQ*(k.tdiv (mO k r.lK))) (r.lK.tdiv (mO k r.lK))
def Jg (r:dL) (k:Int):dL×Int:=bif !vN r then (⟨0,0⟩,1) else bif !Ho k then (⟨0,0⟩,2) else newR r.pQ (r.lK*k)
theorem tL {r:dL} (h:vN r=true):0≤r.pQ∧r.pQ≤144115188075855872∧1≤r.lK∧r.lK≤16777216∧mO r.pQ r.lK=1:=by
 unfold vN at h;simp at h;omega
theorem as9 (k d:Int) (hk:1≤k∧k≤64) (hd:1≤d):1≤k.tdiv (mO k d)∧k.tdiv (mO k d)≤64:=by
 have hg:=Xg k d om;have h1:=tdiv_le k (mO k d) om hg;have hdvd:Nat.gcd k.toNat d.toNat∣k.toNat:=Nat.gcd_dvd_left _ _;have h2:0<k.toNat / Nat.gcd k.toNat d.toNat:=Nat.div_pos (Nat.le_of_dvd om hdvd) (by unfold mO at hg; omega);have h3:k.tdiv (mO k d)=((k.toNat / Nat.gcd k.toNat d.toNat:Nat):Int):=by
  unfold mO;rw [Int.tdiv_eq_ediv_of_nonneg om];have:k=(k.toNat:Int):=by omega
  rw [Int.natCast_ediv,← this]
 omega
theorem ag2 (a b:Int) (ha:0≤a) (hb:1≤b) (h:a≤(144115188075855872:Int).tdiv b):0≤a*b∧a*b≤144115188075855872:=by
 rw [Int.tdiv_eq_ediv_of_nonneg (by decide)] at h;have:=(Int.le_ediv_iff_mul_le om).1 h;exact ⟨Int.mul_nonneg ha om,this⟩
theorem Xh (c a b:Nat) (hc:0<c) (hb:0<b):newR (c*a:Nat) (c*b:Nat)=newR a b:=by
 have hcb:0<c*b:=Nat.mul_pos hc hb;have g0:0<Nat.gcd a b:=Nat.gcd_pos_of_pos_right a hb;have e1:mO (c*a:Nat) (c*b:Nat)=((c*Nat.gcd a b:Nat):Int):=by
  unfold mO;rw [Int.toNat_natCast,Int.toNat_natCast,Nat.gcd_mul_left]
 have e2:mO (a:Nat) (b:Nat)=(Nat.gcd a b:Nat):=by
  unfold mO;rw [Int.toNat_natCast,Int.toNat_natCast]
 have d:∀x:Nat,((c*x:Nat):Int).tdiv ((c*Nat.gcd a b:Nat):Int)=(x:Int).tdiv (Nat.gcd a b:Nat):=by
  intro x;rw [← Int.ofNat_tdiv,← Int.ofNat_tdiv,Nat.mul_div_mul_left _ _ hc]
 unfold newR;have c1:(decide (((c*a:Nat):Int)<0)||decide (((c*b:Nat):Int)<1))=false:=by
  have h1:¬ (((c*b:Nat):Int)<1):=Int.not_lt.2 (Int.ofNat_le.2 hcb);rw [decide_eq_false (Int.not_lt.2 (Int.natCast_nonneg _)),decide_eq_false h1];rfl
 have c2:(decide ((a:Int)<0)||decide ((b:Int)<1))=false:=by simp; omega
 rw [c1,c2,e1,e2,d a,d b]
def t1 (r:dL) (k:Int):Int×Int:=bif decide ((144115188075855872:Int).tdiv (k.tdiv (mO k r.lK))<r.pQ) then (-1,1) else (r.pQ*(k.tdiv (mO k r.lK)),r.lK.tdiv (mO k r.lK))
def vO (r:dL) (lo hi:Int):Bool:=vN r&&(decide (lo≤r.pQ.tdiv r.lK)&&(decide (r.pQ.tdiv r.lK<hi)||(r.pQ.tdiv r.lK==hi&&r.pQ.tmod r.lK==0)))
def Xi (c:ay):Bool:=decide (8<(c.bJ.length:Int))||decide (8<(c.aR.length:Int))
def OJ (n:Int) (x:bg):Bool:=!dO x.fJ 0 (n - 1)||!dO x.gF 0 4000000000||!dO x.Low 0 x.gF
def kM (c:ay):Bool:=
 bif c.eT==1 then ((c.bJ.length:Int)==0)&&((c.aR.length:Int)==1)&&dO (c.aR.getD 0 0) 1 4000000000
 else bif c.eT==2||c.eT==3 then ((c.bJ.length:Int)==1)&&decide (0<(c.aR.length:Int))&&zO 1 64 [] c.aR
 else bif c.eT==4 then decide (0<(c.aR.length:Int))&&zO 0 ((c.bJ.length:Int) - 1) [] c.aR
 else bif c.eT==5 then ((c.bJ.length:Int)==1)&&(c.aR==[0,1])
 else false
def l7 (c:ay) (k:Int):Bool:=bif c.bJ.any (λ y=>!dO y 0 (k - 1))||!dO c.gF 0 4000000000||!dO c.Low 0 c.gF then false else kM c
theorem alD (l:List Int) (hi:Int) (h:zO 0 hi [] l=true) (hl:0<l.length):0≤hi:=by
 cases l with
 | nil=>simp at hl
 | cons n l=>
  cases hw:dO n 0 hi with
  | true=>simp [dO] at hw; omega
  | false=>
   rw [aaW (by rw [hw]; rfl)] at h;cases h
def Qp (a b:Int):Int:=if b > a then b else a
def R9 (c:ay):Bool:=c.eT==2||c.eT==3
def Lp (acc:List Int) (l:List Int):Int:=l.foldl (λ n p=>Qp n (acc.getD p.toNat 0)) 0
def aaX (acc:List Int) (c:ay):Int:=bif R9 c then Lp acc c.bJ+1 else Lp acc c.bJ
def ru (l:List ay):List Int:=l.foldl (λ acc c=>acc++[aaX acc c]) []
theorem FJ (l:List ay) (c:ay):ru (l++[c])=ru l++[aaX (ru l) c]:=by
 unfold ru;rw [List.foldl_append];rfl
def afT (l:List ay):Prop:=∀i,i<l.length→(l.getD i aV).bJ.length≤2000000∧∀p∈(l.getD i aV).bJ,0≤p∧p<i
theorem Qq (acc:List Int) (b:Int) (hb0:0≤b) (hb:∀j:Nat,0≤acc.getD j 0∧acc.getD j 0≤b) (l:List Int):0≤Lp acc l∧Lp acc l≤b:=by
 have:∀(l:List Int) (n:Int),0≤n∧n≤b→0≤l.foldl (λ n p=>Qp n (acc.getD p.toNat 0)) n∧l.foldl (λ n p=>Qp n (acc.getD p.toNat 0)) n≤b:=by
  intro l;induction l with
  | nil=>exact λ n h=>h
  | cons p r ih=>
   intro n hn;refine ih _ ?_;show 0≤Qp n (acc.getD p.toNat 0)∧Qp n (acc.getD p.toNat 0)≤b;unfold Qp;have:=hb p.toNat;split<;>omega
 exact this l 0 om
theorem mP (l:List ay):(ru l).length=l.length∧∀j:Nat,0≤(ru l).getD j 0∧(ru l).getD j 0≤l.length:=by
 induction l using Mx with
 | nil=>exact ⟨rfl,λ j=>by rw [Wy]; simp; exact Nat.zero_le _⟩
 | append_singleton l c ih=>
  obtain ⟨h1,h2⟩:=ih;rw [FJ];have hb:=Qq (ru l) l.length om h2 c.bJ;have hf:0≤aaX (ru l) c∧aaX (ru l) c≤l.length+1:=by
   unfold aaX;cases R9 c<;>simp only [cond_true,cond_false]<;>omega
  refine ⟨by rw [List.length_append,List.length_append,h1]; rfl,λ j=>?_⟩;have hlen:((l++[c]).length:Int)=l.length+1:=by rw [List.length_append]; rfl
  rw [hlen];by_cases hj:j<l.length
  ·rw [kX 0 om];have:=h2 j;omega
  ·by_cases hj2:j=l.length
   ·rw [tF 0 om]; exact hf
   ·rw [Wy 0 (by rw [List.length_append,h1]; simp; omega)];omega
def Yx (a b:Int):Int:=if b<a then b else a
def Du (l:List ay):Int:=l.foldl (λ p c=>Yx (p*c.aR.length) 1099511627776) 1
def acQ (l:List ay):Bool:=(List.range l.length).all λ i=>l7 (l.getD i aV) i
def fq (l:List ay):Int:=bif decide (16<(l.length:Int))||l.any Xi then 3 else bif !acQ l then 1 else bif decide (4096<Du l)||(ru l).any (λ n=>decide (4<n)) then 3 else 0
variable {l:List ay}
theorem ag3 (h:∀i:Nat,i<l.length→l7 (l.getD i aV) i=true):acQ l=true:=by
 unfold acQ;rw [List.all_eq_true];intro i hi;exact h i (List.mem_range.1 hi)
theorem acR (h:acQ l=true) (i:Nat) (hi:i<l.length):l7 (l.getD i aV) i=true:=by
 unfold acQ at h;rw [List.all_eq_true] at h;exact h i (List.mem_range.2 hi)
theorem Xj (hi:i<l.length) (h:l7 (l.getD i aV) i=false):acQ l=false:=by
 cases hv:acQ l with
 | false=>rfl
 | true=>rw [acR hv i hi] at h; cases h
theorem rZ {l:List α} {p:α→Bool} (d:α) (h:l.any p=false) (i:Nat) (hi:i<l.length):p (l.getD i d)=false:=by
 rw [List.any_eq_false] at h;simpa using h _ (jO d hi)
theorem Al {l:List α} {p:α→Bool} (d:α) (hi:i<l.length) (h:p (l.getD i d)=true):l.any p=true:=List.any_eq_true.2 ⟨_,jO d hi,h⟩
theorem any_none {l:List α} {p:α→Bool} (d:α) (h:∀i,i<l.length→p (l.getD i d)=false):l.any p=false:=by
 rw [List.any_eq_false];intro x hx;obtain ⟨i,hi,rfl⟩:=List.mem_iff_getElem.1 hx;have:=h i hi;rw [List.getD_eq_getElem?_getD,List.getElem?_eq_getElem hi] at this;simpa using this
variable {c:ay}
theorem Xk (h:Xi c=false):c.bJ.length≤8∧c.aR.length≤8:=by
 unfold Xi at h;simp at h;omega
theorem acS (l:List ay):0≤Du l∧Du l≤1099511627776:=by
 unfold Du;induction l using Mx with
 | nil=>simp
 | append_singleton l c ih=>
  rw [List.foldl_append];show 0≤Yx (l.foldl _ 1*c.aR.length) 1099511627776∧Yx (l.foldl _ 1*c.aR.length) 1099511627776≤1099511627776;have:0≤l.foldl (λ p c=>Yx (p*(c:ay).aR.length) 1099511627776) 1*(c.aR.length:Int):=Int.mul_nonneg ih.1 om;generalize l.foldl (λ p c=>Yx (p*(c:ay).aR.length) 1099511627776) 1*(c.aR.length:Int)=q at this;unfold Yx;split<;>omega
theorem ajp (l:List ay) (n:Int) (h:0≤n∧n≤8):0≤Du l*n∧Du l*n≤1099511627776*8:=by
 have hb:=acS l;exact ⟨Int.mul_nonneg hb.1 h.1,Int.mul_le_mul hb.2 h.2 h.1 om⟩
theorem within_iff (n lo hi:Int):dO n lo hi=true↔lo≤n∧n≤hi:=by
 unfold dO;simp
variable {k:Int}
theorem Sb {j:Nat} (hj:j<c.bJ.length) (h:dO (c.bJ.getD j 0) 0 (k - 1)=false):l7 c k=false:=by
 unfold l7;have:c.bJ.any (λ y=>!dO y 0 (k - 1))=true:=Al 0 hj (by show (!dO (c.bJ.getD j 0) 0 (k - 1))=true; rw [h]; rfl);rw [this];rfl
theorem acT (h:∀j,j<c.bJ.length→dO (c.bJ.getD j 0) 0 (k - 1)=true):l7 c k=!(!kM c||decide (c.Low<0)||decide (c.gF<c.Low)||decide (4000000000<c.gF)):=by
 have e:c.bJ.any (λ y=>!dO y 0 (k - 1))=false:=any_none 0 λ j hj=>by show (!dO (c.bJ.getD j 0) 0 (k - 1))=false; rw [h j hj]; rfl
 unfold l7;rw [e];cases hc:kM c with
 | false=>cases (false||!dO c.gF 0 4000000000||!dO c.Low 0 c.gF)<;>rfl
 | true=>
  by_cases hg:(0≤c.Low∧c.Low≤c.gF)∧c.gF≤4000000000
  ·have h1:dO c.gF 0 4000000000=true:=(within_iff _ _ _).2 om;have h2:dO c.Low 0 c.gF=true:=(within_iff _ _ _).2 om;rw [h1,h2,decide_eq_false (show ¬ c.Low<0 by omega),decide_eq_false (show ¬ c.gF<c.Low by omega),decide_eq_false (show ¬ 4000000000<c.gF by omega)];rfl
  ·have h1:(false||!dO c.gF 0 4000000000||!dO c.Low 0 c.gF)=true:=by
    simp only [Bool.false_or,Bool.or_eq_true,Bool.not_eq_true',← Bool.not_eq_true,within_iff];omega
   have h2:(!true||decide (c.Low<0)||decide (c.gF<c.Low)||decide (4000000000<c.gF))=true:=by
    simp only [Bool.not_true,Bool.false_or,Bool.or_eq_true,decide_eq_true_eq];omega
   rw [h1,h2];rfl
theorem Hq (h:l7 c k=true):∀p∈c.bJ,0≤p∧p<k:=by
 intro p hp;unfold l7 at h;cases ha:c.bJ.any (λ y=>!dO y 0 (k - 1)) with
 | true=>rw [ha] at h; cases h
 | false=>
  rw [List.any_eq_false] at ha;have:=ha p hp;simp only [Bool.not_eq_true,Bool.not_eq_false'] at this;have:=(within_iff _ _ _).1 this;omega
theorem ajq (h:∀i:Nat,i<l.length→l7 (l.getD i aV) i=true) (hb:∀i:Nat,i<l.length→Xi (l.getD i aV)=false):afT l:=λ i hi=>⟨by have:=Xk (hb i hi); omega,Hq (h i hi)⟩
theorem Zq (l:List ay) (k:Nat):∀j,j<k→j<l.length→(ru l).getD j 0=(ru (l.take k)).getD j 0:=by
 induction l using Mx with
 | nil=>intro j _ hj; cases hj
 | append_singleton l c ih=>
  intro j hjk hj;have hlen:=(mP l).1;by_cases hk:k≤l.length
  ·rw [List.take_append_of_le_length hk,FJ,kX 0 om];exact ih j hjk om
  ·rw [List.take_of_length_le (l:=l++[c]) (by rw [List.length_append]; simp; omega)]
theorem Ua (h:kM c=true):1≤c.aR.length:=by
 cases hc:c.aR with
 | nil=>
  unfold kM at h;rw [hc] at h;cases h1:c.eT==1<;>cases h2:(c.eT==2||c.eT==3)<;>cases h3:c.eT==4<;>cases h4:c.eT==5<;>rw [h1,h2,h3,h4] at h<;>simp at h
 | cons x r=>simp
theorem lg (h:l7 c k=true):kM c=true:=by
 unfold l7 at h;cases hb:(c.bJ.any (λ y=>!dO y 0 (k - 1))||!dO c.gF 0 4000000000||!dO c.Low 0 c.gF) with
 | true=>rw [hb] at h; cases h
 | false=>rw [hb] at h; exact h
theorem aeL (l:List ay) (c:ay):Du (l++[c])=Yx (Du l*c.aR.length) 1099511627776:=by
 unfold Du;rw [List.foldl_append];rfl
def uH (l:List ay) (s:List Int):Bool:=((s.length:Int)==(l.length:Int))&&(List.range l.length).all λ i=>dO (s.getD i 0) 0 ((l.getD i aV).aR.length - 1)
variable {p:Nat→Bool}
theorem N8 {n:Nat} (h:∀i,i<n→p i=true):(List.range n).all p=true:=by
 rw [List.all_eq_true];intro i hi;exact h i (List.mem_range.1 hi)
theorem aaY {n:Nat} (h:(List.range n).all p=true) (hi:i<n):p i=true:=by
 rw [List.all_eq_true] at h;exact h i (List.mem_range.2 hi)
theorem Lr {n:Nat} (hi:i<n) (h:p i=false):(List.range n).all p=false:=by
 cases hv:(List.range n).all p with
 | false=>rfl
 | true=>rw [aaY hv hi] at h; cases h
def ag4 (l:List ay):Prop:=∀i:Nat,i<l.length→(l.getD i aV).aR.length≤2000000
def lJ (l:List ay) (m:List bg):Bool:=(fq l==0)&&decide ((m.length:Int)≤32)&&!(m.any (OJ l.length))
theorem acU (n:Int) (x:bg):OJ n x=(decide (x.fJ<0)||decide (n≤x.fJ)||decide (x.Low<0)||decide (x.gF<x.Low)||decide (4000000000<x.gF)):=by
 unfold OJ;by_cases hg:(0≤x.fJ∧x.fJ≤n - 1)∧(0≤x.gF∧x.gF≤4000000000)∧(0≤x.Low∧x.Low≤x.gF)
 ·rw [(within_iff _ _ _).2 hg.1,(within_iff _ _ _).2 hg.2.1,(within_iff _ _ _).2 hg.2.2,decide_eq_false (show ¬ x.fJ<0 by omega),decide_eq_false (show ¬ n≤x.fJ by omega),decide_eq_false (show ¬ x.Low<0 by omega),decide_eq_false (show ¬ x.gF<x.Low by omega),decide_eq_false (show ¬ 4000000000<x.gF by omega)];rfl
 ·have h1:(!dO x.fJ 0 (n - 1)||!dO x.gF 0 4000000000||!dO x.Low 0 x.gF)=true:=by
   simp only [Bool.or_eq_true,Bool.not_eq_true',← Bool.not_eq_true,within_iff];omega
  have h2:(decide (x.fJ<0)||decide (n≤x.fJ)||decide (x.Low<0)||decide (x.gF<x.Low)||decide (4000000000<x.gF))=true:=by
   simp only [Bool.or_eq_true,decide_eq_true_eq];omega
  rw [h1,h2]
def acV (c:ay) (k:Int):Prop:=(c.eT=1)∨(c.eT=4∧0≤k∧k<c.aR.length∧0≤c.aR.getD k.toNat 0∧c.aR.getD k.toNat 0<c.bJ.length)∨(c.eT≠4∧0<c.bJ.length)
def kS (c:ay) (k:Int):Int:=bif c.eT==1 then -1 else bif c.eT==4 then c.bJ.getD (c.aR.getD k.toNat 0).toNat 0 else c.bJ.getD 0 0
def MZ:dL:=⟨0,1⟩
def zP (r:dL):Bool:=(r.pQ==0)&&((r.lK==1)&&true)
def rt1 (acc:List dL) (c:ay) (k:Int):dL:=
 bif decide (kS c k<0) then ⟨c.aR.getD k.toNat 0,1⟩ else
 bif zP (acc.getD (kS c k).toNat gW)||((c.eT==5)&&(c.aR.getD k.toNat 0==0)) then MZ else
 bif c.eT==2 then (Jg (acc.getD (kS c k).toNat gW) (c.aR.getD k.toNat 0)).1 else
 bif c.eT==3 then (wY (acc.getD (kS c k).toNat gW) (c.aR.getD k.toNat 0)).1 else acc.getD (kS c k).toNat gW
def Ls (l:List ay) (s:List Int):Nat→List dL
 | 0=>[]
 | i+1=>Ls l s i++[rt1 (Ls l s i) (l.getD i aV) (s.getD i 0)]
def jK (l:List ay) (s:List Int):List dL:=Ls l s l.length
theorem Xl (l:List ay) (s:List Int) (i:Nat):(Ls l s i).length=i:=by
 induction i with
 | zero=>rfl
 | succ i ih=>simp [Ls,ih]
structure Good (l:List ay) (s:List Int):Prop where
 small:l.length≤1000
 len:s.length=l.length
 aR:∀i,i<l.length→0≤s.getD i 0∧s.getD i 0<(l.getD i aV).aR.length
 pch:∀i,i<l.length→acV (l.getD i aV) (s.getD i 0)
 bJ:∀i,i<l.length→kS (l.getD i aV) (s.getD i 0)<i
theorem Zr {lo hi:Int}:∀(l pre:List Int),zO lo hi pre l=true→∀x∈l,lo≤x∧x≤hi:=by
 intro l;induction l with
 | nil=>intro _ _ x hx; cases hx
 | cons n r ih=>
  intro pre h x hx;cases hb:(!(dO n lo hi)||pre.contains n) with
  | true=>rw [aaW hb] at h; cases h
  | false=>
   rw [afS hb] at h;rcases List.mem_cons.1 hx with rfl | hx
   ·rw [Bool.or_eq_false_iff] at hb;have:=hb.1;simp only [Bool.not_eq_false'] at this;exact (within_iff _ _ _).1 this
   ·exact ih _ h x hx
theorem qm (h:kM c=true):
  (c.eT=1∧c.bJ=[]∧c.aR.length=1∧1≤c.aR.getD 0 0∧c.aR.getD 0 0≤4000000000)∨((c.eT=2∨c.eT=3)∧c.bJ.length=1∧0<c.aR.length∧∀x∈c.aR,1≤x∧x≤64)
  ∨ (c.eT=4∧0<c.aR.length∧∀x∈c.aR,0≤x∧x≤(c.bJ.length:Int) - 1)∨(c.eT=5∧c.bJ.length=1∧c.aR=[0,1]):=by
 unfold kM at h;cases h1:c.eT==1 with
 | true=>
  rw [h1] at h;simp only [cond_true,Bool.and_eq_true,within_iff] at h;obtain ⟨⟨h2,h3⟩,h4⟩:=h;left;have h2:c.bJ.length=0:=by have:=eq_of_beq h2; omega
  exact ⟨eq_of_beq h1,List.length_eq_zero_iff.1 h2,by have:=eq_of_beq h3; omega,h4⟩
 | false=>
  rw [h1] at h;cases h2:(c.eT==2||c.eT==3) with
  | true=>
   rw [h2] at h;simp only [cond_true,cond_false,Bool.and_eq_true] at h;obtain ⟨⟨h3,h4⟩,h5⟩:=h;right; left;refine ⟨?_,by have:=eq_of_beq h3; omega,by have:=of_decide_eq_true h4; omega,Zr _ _ h5⟩;rw [Bool.or_eq_true] at h2;exact h2.imp eq_of_beq eq_of_beq
  | false=>
   rw [h2] at h;cases h3:c.eT==4 with
   | true=>
    rw [h3] at h;simp only [cond_true,cond_false,Bool.and_eq_true] at h;right; right; left;exact ⟨eq_of_beq h3,by have:=of_decide_eq_true h.1; omega,Zr _ _ h.2⟩
   | false=>
    rw [h3] at h;cases h4:c.eT==5 with
    | true=>
     rw [h4] at h;simp only [cond_true,cond_false,Bool.and_eq_true] at h;right; right; right;exact ⟨eq_of_beq h4,by have:=eq_of_beq h.1; omega,eq_of_beq h.2⟩
    | false=>rw [h4] at h; cases h
structure Yy (l:List ay):Prop where
 len:l.length≤16
 big:∀i:Nat,i<l.length→(l.getD i aV).bJ.length≤8∧(l.getD i aV).aR.length≤8
 valid:∀i:Nat,i<l.length→l7 (l.getD i aV) i=true
 prod:Du l≤4096
 ru:∀i:Nat,i<l.length→(ru l).getD i 0≤4
theorem Am (h:fq l=0):Yy l:=by
 unfold fq at h;cases h1:(decide (16<(l.length:Int))||l.any Xi) with
 | true=>rw [h1] at h; cases h
 | false=>
  rw [h1] at h;cases h2:acQ l with
  | false=>rw [h2] at h; cases h
  | true=>
   rw [h2] at h;cases h3:(decide (4096<Du l)||(ru l).any (λ n=>decide (4<n))) with
   | true=>rw [h3] at h; cases h
   | false=>
    rw [Bool.or_eq_false_iff] at h1 h3;refine ⟨by have:=of_decide_eq_false h1.1; omega,λ i hi=>Xk (rZ aV h1.2 i hi),acR h2,by have:=of_decide_eq_false h3.1; omega,λ i hi=>?_⟩;have:=rZ 0 h3.2 i (by rw [(mP l).1]; exact hi);have:=of_decide_eq_false this;omega
variable {s:List Int}
theorem Qr (h:uH l s=true):s.length=l.length∧∀i:Nat,i<l.length→0≤s.getD i 0∧s.getD i 0<(l.getD i aV).aR.length:=by
 unfold uH at h;rw [Bool.and_eq_true] at h;have hl:s.length=l.length:=by have:=eq_of_beq h.1; omega
 refine ⟨hl,λ i hi=>?_⟩;have:=h.2;rw [List.all_eq_true] at this;have:=this i (List.mem_range.2 om);have:=(within_iff _ _ _).1 this;omega
theorem acW (hv:l7 c i=true) (hk:0≤k∧k<c.aR.length):acV c k∧kS c k<i:=by
 have hp:=Hq hv;unfold acV kS;rcases qm (lg hv) with ⟨h1,h2,h3,h4⟩ | ⟨h1,h2,h3,h4⟩ | ⟨h1,h2,h3⟩ | ⟨h1,h2,h3⟩
 ·refine ⟨.inl h1,?_⟩;rw [h1];show (-1:Int)<i;omega
 ·have hn1:(c.eT==1)=false:=by rcases h1 with h1 | h1<;>rw [h1]<;>rfl
  have hn4:(c.eT==4)=false:=by rcases h1 with h1 | h1<;>rw [h1]<;>rfl
  refine ⟨.inr (.inr ⟨λ e=>(by rw [e] at hn4; cases hn4),om⟩),?_⟩;rw [hn1,hn4];exact (hp _ (jO 0 om)).2
 ·have hm:=h3 _ (jO 0 (i:=k.toNat) om);refine ⟨.inr (.inl ⟨h1,hk.1,hk.2,hm.1,om⟩),?_⟩;rw [h1];exact (hp _ (jO 0 (i:=(c.aR.getD k.toNat 0).toNat) om)).2
 ·refine ⟨.inr (.inr ⟨by rw [h1]; decide,om⟩),?_⟩;rw [h1];exact (hp _ (jO 0 (i:=0) om)).2
theorem VE (h:Yy l) (hs:uH l s=true):Good l s:=by
 obtain ⟨h1,h2⟩:=Qr hs;exact ⟨by have:=h.len; omega,h1,h2,λ i hi=>(acW (h.valid i hi) (h2 i hi)).1,λ i hi=>(acW (h.valid i hi) (h2 i hi)).2⟩
def ajr (r:List dL) (x:bg):Bool:=zP (r.getD x.fJ.toNat gW)||!vO (r.getD x.fJ.toNat gW) x.Low x.gF
def aom (r:dL) (c:ay):Bool:=((!zP r)&&(c.gF != 0))&&!vO r c.Low c.gF
def ownB (l:List ay) (r:List dL):Bool:=(List.range l.length).all λ i=>!aom (r.getD i gW) (l.getD i aV)
def iN (l:List ay) (s:List Int) (m:List bg):Bool:=(lJ l m&&uH l s)&&(ownB l (jK l s)&&!m.any (ajr (jK l s)))
theorem Qs {m:List bg} (h:lJ l m=true):fq l=0∧m.length≤32∧∀i,i<m.length→OJ l.length (m.getD i dU)=false:=by
 unfold lJ at h;rw [Bool.and_eq_true,Bool.and_eq_true] at h;exact ⟨eq_of_beq h.1.1,by have:=of_decide_eq_true h.1.2; omega,λ i hi=>rZ dU (by simpa using h.2) i hi⟩
theorem Qt {n:Int} {x:bg} (h:OJ n x=false):(0≤x.fJ∧x.fJ<n)∧0≤x.Low∧x.Low≤x.gF∧x.gF≤4000000000:=by
 rw [acU] at h;simp only [Bool.or_eq_false_iff,decide_eq_false_iff_not] at h;omega
theorem Ub {l m:List α} (d:α) (h:l.length≤i):(l++m).getD i d=m.getD (i - l.length) d:=by
 rw [List.getD_eq_getElem?_getD,List.getElem?_append_right h,List.getD_eq_getElem?_getD]
def red (a b:Nat):dL:=⟨((a / Nat.gcd a b:Nat):Int),((b / Nat.gcd a b:Nat):Int)⟩
theorem MK (a b:Nat) (hb:0<b) (ha':a≤144115188075855872) (hb':b≤16777216):vN (red a b)=true:=by
 have g0:0<Nat.gcd a b:=Nat.gcd_pos_of_pos_right a hb;have h1:a / Nat.gcd a b≤a:=Nat.div_le_self _ _;have h2:b / Nat.gcd a b≤b:=Nat.div_le_self _ _;have h3:0<b / Nat.gcd a b:=Nat.div_pos (Nat.le_of_dvd hb (Nat.gcd_dvd_right _ _)) g0;have h4:Nat.gcd (a / Nat.gcd a b) (b / Nat.gcd a b)=1:=by
  rw [Nat.gcd_div (Nat.gcd_dvd_left _ _) (Nat.gcd_dvd_right _ _),Nat.div_self g0]
 unfold vN red mO;simp only [Int.toNat_natCast,h4];generalize a / Nat.gcd a b=n at *;generalize b / Nat.gcd a b=d at *;simp;omega
theorem acX (a b:Nat) (hb:0<b) (ha':a≤144115188075855872) (hb':b≤16777216):newR a b=(red a b,0):=by
 have hv:=MK a b hb ha' hb';have e1:mO (a:Int) (b:Int)=(Nat.gcd a b:Nat):=by unfold mO; rw [Int.toNat_natCast,Int.toNat_natCast]
 have e2:(⟨(a:Int).tdiv (mO a b),(b:Int).tdiv (mO a b)⟩:dL)=red a b:=by
  rw [e1,← Int.ofNat_tdiv,← Int.ofNat_tdiv];rfl
 unfold newR;have c:(decide ((a:Int)<0)||decide ((b:Int)<1))=false:=by simp; omega
 rw [c,e2,hv];rfl
theorem Zt (a b:Nat) (hb:0<b):∃g n d:Nat,0<g∧0<d∧g*n=a∧g*d=b∧red a b=⟨n,d⟩∧n≤a∧d≤b:=by
 have g0:0<Nat.gcd a b:=Nat.gcd_pos_of_pos_right a hb;refine ⟨Nat.gcd a b,a / Nat.gcd a b,b / Nat.gcd a b,g0,Nat.div_pos (Nat.le_of_dvd hb (Nat.gcd_dvd_right _ _)) g0,Nat.mul_div_cancel' (Nat.gcd_dvd_left _ _),Nat.mul_div_cancel' (Nat.gcd_dvd_right _ _),rfl,Nat.div_le_self _ _,Nat.div_le_self _ _⟩
theorem Zu (h:1≤k∧k≤64):Ho k=true:=by
 unfold Ho;simp;omega
theorem acY (a b:Nat) (k:Int) (hb:0<b) (hk:1≤k∧k≤64) (ha':a≤144115188075855872) (hb':b*k.toNat≤16777216):Jg (red a b) k=(red a (b*k.toNat),0):=by
 have hbk:b≤b*k.toNat:=Nat.le_mul_of_pos_right _ om;have hv:=MK a b hb ha' om;unfold Jg;rw [hv,Zu hk];simp only [Bool.not_true,cond_false];obtain ⟨g,n,d,g0,d0,e1,e2,e3,_,_⟩:=Zt a b hb;rw [e3];have hkk:k=(k.toNat:Int):=by omega
 have hm:=Xh g n (d*k.toNat) g0 (Nat.mul_pos d0 om);rw [e1,← Nat.mul_assoc,e2] at hm;show newR (n:Int) ((d:Int)*k)=_;rw [hkk,← Int.natCast_mul,← hm,Int.toNat_natCast];exact acX a (b*k.toNat) om ha' hb'
theorem Zv (a b:Nat) (k:Int) (hb:0<b) (hk:1≤k∧k≤64) (ha':a*k.toNat≤144115188075855872) (hb':b≤16777216):wY (red a b) k=(red (a*k.toNat) b,0):=by
 have hak:a≤a*k.toNat:=Nat.le_mul_of_pos_right _ om;have hv:=MK a b hb om hb';unfold wY;rw [hv,Zu hk];simp only [Bool.not_true,cond_false];obtain ⟨g,n,d,g0,d0,e1,e2,e3,e4,e5⟩:=Zt a b hb;rw [e3];obtain ⟨k,rfl⟩:=Int.eq_ofNat_of_zero_le (show 0≤k by omega);have hk0:0<k:=by omega
 have eg:mO ((k:Nat):Int) ((d:Nat):Int)=(Nat.gcd k d:Nat):=by unfold mO; rw [Int.toNat_natCast,Int.toNat_natCast]
 have q0:0<Nat.gcd k d:=Nat.gcd_pos_of_pos_left d hk0;have qk:Nat.gcd k d*(k / Nat.gcd k d)=k:=Nat.mul_div_cancel' (Nat.gcd_dvd_left _ _);have qd:Nat.gcd k d*(d / Nat.gcd k d)=d:=Nat.mul_div_cancel' (Nat.gcd_dvd_right _ _);have qk0:0<k / Nat.gcd k d:=Nat.div_pos (Nat.le_of_dvd hk0 (Nat.gcd_dvd_left _ _)) q0;have qd0:0<d / Nat.gcd k d:=Nat.div_pos (Nat.le_of_dvd d0 (Nat.gcd_dvd_right _ _)) q0;have qkk:k / Nat.gcd k d≤k:=Nat.div_le_self _ _;simp only [Int.toNat_natCast] at ha' ⊢;rw [eg,← Int.ofNat_tdiv,← Int.ofNat_tdiv];have hc:decide ((144115188075855872:Int).tdiv ((k / Nat.gcd k d:Nat):Int)<(n:Int))=false:=by
  apply decide_eq_false;have:n≤144115188075855872 / (k / Nat.gcd k d):=by
   rw [Nat.le_div_iff_mul_le qk0];exact Nat.le_trans (Nat.mul_le_mul e4 qkk) ha'
  have e:(144115188075855872:Int).tdiv ((k / Nat.gcd k d:Nat):Int)=((144115188075855872 / (k / Nat.gcd k d):Nat):Int):=by
   rw [Int.ofNat_tdiv];rfl
  rw [e];omega
 rw [hc];simp only [cond_false];rw [← Int.natCast_mul];have m1:=Xh (Nat.gcd k d) (n*(k / Nat.gcd k d)) (d / Nat.gcd k d) q0 qd0;rw [Nat.mul_left_comm,qk,qd] at m1;have m2:=Xh g (n*k) d g0 d0;rw [← Nat.mul_assoc,e1,e2] at m2;rw [← m1,← m2];exact acX (a*k) b hb ha' hb'
theorem alE (a:Nat):red a 1=⟨a,1⟩:=by
 unfold red;rw [Nat.gcd_one_right,Nat.div_one,Nat.div_one];rfl
theorem alF (a b:Nat) (ha:0<a):0<(red a b).pQ:=by
 have:0<a / Nat.gcd a b:=Nat.div_pos (Nat.le_of_dvd ha (Nat.gcd_dvd_left _ _)) (Nat.gcd_pos_of_pos_left b ha);show (0:Int)<((a / Nat.gcd a b:Nat):Int);omega
theorem ajs (a b:Nat) (ha:0<a):zP (red a b)=false:=by
 have:=alF a b ha;unfold zP;have:((red a b).pQ==0)=false:=by
  rw [← Bool.not_eq_true];intro e;have:=eq_of_beq e;omega
 rw [this];rfl
theorem ag5 (k:Int) (hk:1≤k∧k≤64):wY MZ k=(MZ,0):=by
 have h:=Zv 0 1 k (by decide) hk (by simp) (by decide);rw [Nat.zero_mul] at h;exact h
theorem ajt (k:Int) (hk:1≤k∧k≤64):Jg MZ k=(MZ,0):=by
 have h:=acY 0 1 k (by decide) hk (by decide) om;have e:red 0 (1*k.toNat)=MZ:=by
  unfold red MZ;rw [Nat.gcd_zero_left,Nat.zero_div,Nat.one_mul,Nat.div_self om];rfl
 rw [e] at h;exact h
theorem OL (l:List ay) (s:List Int) (n j:Nat) (h:j<n):(Ls l s n).getD j gW=rt1 (Ls l s j) (l.getD j aV) (s.getD j 0):=by
 induction n with
 | zero=>omega
 | succ n ih=>
  rw [Ls];by_cases hj:j<n
  ·rw [kX _ (by rw [Xl]; exact hj)];exact ih hj
  ·have:j=n:=by omega
   subst this;rw [tF _ (Xl l s j).symm]
theorem ag6 {acc acc':List dL} (h:0≤kS c k→acc.getD (kS c k).toNat gW=acc'.getD (kS c k).toNat gW):rt1 acc c k=rt1 acc' c k:=by
 unfold rt1;by_cases hp:kS c k<0
 ·rw [decide_eq_true hp]; rfl
 ·rw [h om]
theorem ag7 (h:Good l s) (j:Nat) (hj:j<l.length):(jK l s).getD j gW=rt1 (jK l s) (l.getD j aV) (s.getD j 0):=by
 unfold jK;rw [OL l s l.length j hj];refine ag6 λ h0=>?_;have:=h.bJ j hj;rw [OL l s l.length _ om,OL l s j _ om]
theorem ag8 (acc:List Int) (l:List Int) (p:Int) (hp:p∈l):acc.getD p.toNat 0≤Lp acc l:=by
 have mono:∀(l:List Int) (n:Int),n≤l.foldl (λ n p=>Qp n (acc.getD p.toNat 0)) n:=by
  intro l;induction l with
  | nil=>intro n; exact Int.le_refl _
  | cons q r ih=>
   intro n;have:=ih (Qp n (acc.getD q.toNat 0));have h2:n≤Qp n (acc.getD q.toNat 0):=by unfold Qp; split<;>omega
   exact Int.le_trans h2 this
 have key:∀(l:List Int) (n:Int),p∈l→acc.getD p.toNat 0≤l.foldl (λ n p=>Qp n (acc.getD p.toNat 0)) n:=by
  intro l;induction l with
  | nil=>intro n h; cases h
  | cons q r ih=>
   intro n h;rcases List.mem_cons.1 h with rfl | h
   ·have:=mono r (Qp n (acc.getD p.toNat 0));have h2:acc.getD p.toNat 0≤Qp n (acc.getD p.toNat 0):=by unfold Qp; split<;>omega
    exact Int.le_trans h2 this
   ·exact ih _ h
 exact key l 0 hp
theorem alG (hp:afT l) (j:Nat) (hj:j<l.length):∀p∈(l.getD j aV).bJ,(ru l).getD p.toNat 0+(bif R9 (l.getD j aV) then 1 else 0)≤(ru l).getD j 0:=by
 intro p hpm;have hpj:=(hp j hj).2 p hpm;have e1:(ru l).getD j 0=aaX (ru (l.take j)) (l.getD j aV):=by
  rw [Zq l (j+1) j om hj,jU aV hj,FJ,tF _ (by rw [(mP _).1,take_len om])]
 have e2:(ru l).getD p.toNat 0=(ru (l.take j)).getD p.toNat 0:=Zq l j p.toNat om om;have:=ag8 (ru (l.take j)) (l.getD j aV).bJ p hpm;rw [e1,e2];unfold aaX;cases R9 (l.getD j aV)<;>simp only [cond_true,cond_false]<;>omega
structure Made (l:List ay):Prop where
 ok:fq l=0
 pos:1≤l.length
 fix:∀i,i<l.length→(l.getD i aV).eT=1→(l.getD i aV).aR.getD 0 0≤24000000
structure UH (F a b:Nat) (f:Int):Prop where
 a0:0<a
 b0:0<b
 f0:0≤f
 al:a≤F*64 ^ f.toNat
 bl:b≤64 ^ f.toNat
variable {f:Int}
theorem alH (h:f≤4):64 ^ f.toNat≤16777216:=by
 have:f.toNat≤4:=by omega
 calc 64 ^ f.toNat≤64 ^ 4:=Nat.pow_le_pow_right (by decide) this
  _=16777216:=by decide
variable {F:Nat} {a:Nat} {b:Nat}
theorem UH.mono {g:Int} (h:UH F a b f) (hfg:f≤g):UH F a b g:=by
 have hf:=h.f0;have:64 ^ f.toNat≤64 ^ g.toNat:=Nat.pow_le_pow_right (by decide) om;exact ⟨h.a0,h.b0,om,Nat.le_trans h.al (Nat.mul_le_mul_left _ this),Nat.le_trans h.bl this⟩
theorem UH.times {g:Int} (h:UH F a b f) (hfg:f+1≤g) {k:Nat} (hk:1≤k∧k≤64):UH F (a*k) b g:=by
 have hf:=h.f0;have:64 ^ f.toNat*64≤64 ^ g.toNat:=by
  rw [← Nat.pow_succ];exact Nat.pow_le_pow_right (by decide) om
 refine ⟨Nat.mul_pos h.a0 om,h.b0,om,?_,?_⟩
 ·calc a*k≤(F*64 ^ f.toNat)*64:=Nat.mul_le_mul h.al hk.2
   _=F*(64 ^ f.toNat*64):=Nat.mul_assoc _ _ _
   _≤F*64 ^ g.toNat:=Nat.mul_le_mul_left _ this
 ·exact Nat.le_trans h.bl (Nat.le_trans (Nat.le_mul_of_pos_right _ (by decide)) this)
theorem UH.over {g:Int} (h:UH F a b f) (hfg:f+1≤g) {k:Nat} (hk:1≤k∧k≤64):UH F a (b*k) g:=by
 have hf:=h.f0;have h1:64 ^ f.toNat*64≤64 ^ g.toNat:=by
  rw [← Nat.pow_succ];exact Nat.pow_le_pow_right (by decide) om
 have h2:64 ^ f.toNat≤64 ^ g.toNat:=Nat.pow_le_pow_right (by decide) om;exact ⟨h.a0,Nat.mul_pos h.b0 om,om,Nat.le_trans h.al (Nat.mul_le_mul_left _ h2),Nat.le_trans (Nat.mul_le_mul h.bl hk.2) h1⟩
theorem UH.small (h:UH F a b f) (hf:f≤4) (hF:F≤4294967296):a≤F*16777216∧a≤144115188075855872∧b≤16777216:=by
 have hp:=alH hf;have h1:=Nat.le_trans h.al (Nat.mul_le_mul_left F hp);exact ⟨h1,Nat.le_trans h1 (Nat.le_trans (Nat.mul_le_mul_right 16777216 hF) (by decide)),Nat.le_trans h.bl hp⟩
def Gj (c:ay) (k:Int):Int:=c.aR.getD k.toNat 0
def upR (acc:List dL) (c:ay) (k:Int):dL:=acc.getD (kS c k).toNat gW
structure Step (c:ay) (i:Nat) (k:Int):Prop where
 p0:0≤kS c k
 pi:kS c k<i
 mem:kS c k∈c.bJ
 n1:c.eT≠1
theorem aaZ (hv:l7 c i=true) (hk:0≤k∧k<c.aR.length) (hn:c.eT≠1):Step c i k:=by
 have hp:=Hq hv;have key:kS c k∈c.bJ:=by
  unfold kS;rcases qm (lg hv) with ⟨h1,h2,h3,h4⟩ | ⟨h1,h2,h3,h4⟩ | ⟨h1,h2,h3⟩ | ⟨h1,h2,h3⟩
  ·exact absurd h1 hn
  ·have hn1:(c.eT==1)=false:=by rcases h1 with h1 | h1<;>rw [h1]<;>rfl
   have hn4:(c.eT==4)=false:=by rcases h1 with h1 | h1<;>rw [h1]<;>rfl
   rw [hn1,hn4];exact jO 0 om
  ·have hm:=h3 _ (jO 0 (i:=k.toNat) om);rw [h1];exact jO 0 (i:=(c.aR.getD k.toNat 0).toNat) om
  ·rw [h1];exact jO 0 (i:=0) om
 have:=hp _ key;exact ⟨this.1,this.2,key,hn⟩
theorem alI (hv:l7 c i=true) (hk:0≤k∧k<c.aR.length) (h:c.eT=1) (acc:List dL):Gj c k=c.aR.getD 0 0∧1≤Gj c k∧Gj c k≤4000000000∧rt1 acc c k=⟨Gj c k,1⟩∧kS c k = -1:=by
 rcases qm (lg hv) with ⟨h1,h2,h3,h4⟩ | ⟨h1,h2,h3,h4⟩ | ⟨h1,h2,h3⟩ | ⟨h1,h2,h3⟩
 ·have e:Gj c k=c.aR.getD 0 0:=by unfold Gj; rw [show k.toNat=0 by omega]
  have hp:kS c k = -1:=by unfold kS; rw [h]; rfl
  refine ⟨e,om,om,?_,hp⟩;unfold rt1;rw [hp];rfl
 ·rcases h1 with h1 | h1<;>omega
 ·omega
 ·omega
theorem acZ (hv:l7 c i=true) (hk:0≤k∧k<c.aR.length) (hn:c.eT≠1) (acc:List dL):
  ((zP (upR acc c k)=true∨(c.eT=5∧Gj c k=0))∧rt1 acc c k=MZ)∨
  (zP (upR acc c k)=false∧((c.eT=2∧R9 c=true∧(1≤Gj c k∧Gj c k≤64)∧rt1 acc c k=(Jg (upR acc c k) (Gj c k)).1)∨
    (c.eT=3∧R9 c=true∧(1≤Gj c k∧Gj c k≤64)∧rt1 acc c k=(wY (upR acc c k) (Gj c k)).1)∨
    ((c.eT=4∨(c.eT=5∧Gj c k=1))∧R9 c=false∧rt1 acc c k=upR acc c k))):=by
 have hs:=aaZ hv hk hn;have hp:decide (kS c k<0)=false:=decide_eq_false (by have:=hs.p0; omega);have e0:rt1 acc c k=bif zP (upR acc c k)||((c.eT==5)&&(Gj c k==0)) then MZ else bif c.eT==2 then (Jg (upR acc c k) (Gj c k)).1 else bif c.eT==3 then (wY (upR acc c k) (Gj c k)).1 else upR acc c k:=by
  unfold rt1;rw [hp];rfl
 have hmem:Gj c k∈c.aR:=jO 0 om;cases ho:zP (upR acc c k) with
 | true=>left; exact ⟨.inl rfl,by rw [e0,ho]; rfl⟩
 | false=>
  rw [ho] at e0;rcases qm (lg hv) with ⟨h1,h2,h3,h4⟩ | ⟨h1,h2,h3,h4⟩ | ⟨h1,h2,h3⟩ | ⟨h1,h2,h3⟩
  ·exact absurd h1 hn
  ·right;refine ⟨rfl,?_⟩;rcases h1 with h1 | h1
   ·left;refine ⟨h1,by unfold R9; rw [h1]; rfl,h4 _ hmem,?_⟩;rw [e0,h1];rfl
   ·right; left;refine ⟨h1,by unfold R9; rw [h1]; rfl,h4 _ hmem,?_⟩;rw [e0,h1];rfl
  ·right;refine ⟨rfl,.inr (.inr ⟨.inl h1,by unfold R9; rw [h1]; rfl,?_⟩)⟩;rw [e0,h1];rfl
  ·rw [h3] at hmem;by_cases hc:Gj c k=0
   ·left;refine ⟨.inr ⟨h1,hc⟩,?_⟩;rw [e0,h1,hc];rfl
   ·have hc1:Gj c k=1:=by simp at hmem; omega
    right;refine ⟨rfl,.inr (.inr ⟨.inr ⟨h1,hc1⟩,by unfold R9; rw [h1]; rfl,?_⟩)⟩;rw [e0,h1,hc1];rfl
theorem aeN (h:Yy l):afT l:=λ i hi=>⟨by have:=(h.big i hi).1; omega,Hq (h.valid i hi)⟩
def st1 (acc:List dL) (on:List Bool) (c:ay) (k:Int):dL×Bool:=
 bif c.eT==1 then (⟨c.aR.getD k.toNat 0,1⟩,true) else
 bif c.eT==2 then ((Jg (acc.getD (kS c k).toNat gW) (c.aR.getD k.toNat 0)).1,on.getD (kS c k).toNat false) else
 bif c.eT==3 then ((wY (acc.getD (kS c k).toNat gW) (c.aR.getD k.toNat 0)).1,on.getD (kS c k).toNat false) else
 bif (c.eT==5)&&(c.aR.getD k.toNat 0==0) then (MZ,false) else (acc.getD (kS c k).toNat gW,on.getD (kS c k).toNat false)
def Sc (l:List ay) (s:List Int):Nat→List dL×List Bool
 | 0=>([],[])
 | i+1=>((Sc l s i).1++[(st1 (Sc l s i).1 (Sc l s i).2 (l.getD i aV) (s.getD i 0)).1],(Sc l s i).2++[(st1 (Sc l s i).1 (Sc l s i).2 (l.getD i aV) (s.getD i 0)).2])
def Gl (l:List ay) (s:List Int):List dL×List Bool:=Sc l s l.length
theorem Hr (l:List ay) (s:List Int) (i:Nat):(Sc l s i).1.length=i∧(Sc l s i).2.length=i:=by
 induction i with
 | zero=>exact ⟨rfl,rfl⟩
 | succ i ih=>simp [Sc,ih]
def Up (l:List ay) (s:List Int):Prop:=∀i:Nat,i<l.length→(l.getD i aV).eT≠1→0≤kS (l.getD i aV) (s.getD i 0)
theorem afU (h:Yy l) (hs:uH l s=true):Up l s:=by
 obtain ⟨_,h2⟩:=Qr hs;exact λ i hi hk=>(aaZ (h.valid i hi) (h2 i hi) hk).p0
theorem aa0 (l:List ay) (s:List Int) (n j:Nat) (h:j<n):(Sc l s n).1.getD j gW=(st1 (Sc l s j).1 (Sc l s j).2 (l.getD j aV) (s.getD j 0)).1∧(Sc l s n).2.getD j false=(st1 (Sc l s j).1 (Sc l s j).2 (l.getD j aV) (s.getD j 0)).2:=by
 induction n with
 | zero=>omega
 | succ n ih=>
  rw [Sc];have hl:=Hr l s n;by_cases hj:j<n
  ·rw [kX _ om,kX _ om];exact ih hj
  ·have:j=n:=by omega
   subst this;rw [tF _ hl.1.symm,tF _ hl.2.symm];exact ⟨rfl,rfl⟩
theorem ag9 {acc acc':List dL} {on on':List Bool} (h:c.eT≠1→acc.getD (kS c k).toNat gW=acc'.getD (kS c k).toNat gW∧on.getD (kS c k).toNat false=on'.getD (kS c k).toNat false):st1 acc on c k=st1 acc' on' c k:=by
 unfold st1;cases hk:c.eT==1 with
 | true=>rfl
 | false=>
  obtain ⟨h1,h2⟩:=h (λ e=>by rw [e] at hk; cases hk);rw [h1,h2]
theorem aon (h:Good l s) (hu:Up l s) (j:Nat) (hj:j<l.length):((Gl l s).1.getD j gW,(Gl l s).2.getD j false)=st1 (Gl l s).1 (Gl l s).2 (l.getD j aV) (s.getD j 0):=by
 unfold Gl;obtain ⟨e1,e2⟩:=aa0 l s l.length j hj;rw [e1,e2];show st1 _ _ _ _=_;refine ag9 λ hk=>?_;have h1:=h.bJ j hj;have h2:=hu j hj hk;obtain ⟨a1,a2⟩:=aa0 l s l.length (kS (l.getD j aV) (s.getD j 0)).toNat om;obtain ⟨b1,b2⟩:=aa0 l s j (kS (l.getD j aV) (s.getD j 0)).toNat om;exact ⟨b1.trans a1.symm,b2.trans a2.symm⟩
theorem aju (hn:c.eT≠1) (acc:List dL) (on:List Bool) (k:Int):
  (c.eT=2→st1 acc on c k=((Jg (upR acc c k) (Gj c k)).1,on.getD (kS c k).toNat false))∧
  (c.eT=3→st1 acc on c k=((wY (upR acc c k) (Gj c k)).1,on.getD (kS c k).toNat false))∧
  (c.eT=5→Gj c k=0→st1 acc on c k=(MZ,false))∧
  ((c.eT=4∨(c.eT=5∧Gj c k=1))→st1 acc on c k=(upR acc c k,on.getD (kS c k).toNat false)):=by
 have hk:(c.eT==1)=false:=by
  cases h:c.eT==1 with
  | false=>rfl
  | true=>exact absurd (eq_of_beq h) hn
 refine ⟨λ h=>?_,λ h=>?_,λ h h0=>?_,λ h=>?_⟩
 ·unfold st1; rw [h]; rfl
 ·unfold st1; rw [h]; rfl
 ·unfold st1; rw [show c.aR.getD k.toNat 0=Gj c k from rfl,h,h0]; rfl
 ·rcases h with h | ⟨h,h1⟩
  ·unfold st1; rw [h]; rfl
  ·unfold st1; rw [show c.aR.getD k.toNat 0=Gj c k from rfl,h,h1]; rfl
theorem ajv (hv:l7 c i=true) (hk:0≤k∧k<c.aR.length) (hn:c.eT≠1):(c.eT=2∧1≤Gj c k∧Gj c k≤64)∨(c.eT=3∧1≤Gj c k∧Gj c k≤64)∨c.eT=4∨(c.eT=5∧Gj c k=k∧(k=0∨k=1)):=by
 have hmem:Gj c k∈c.aR:=jO 0 om;rcases qm (lg hv) with ⟨h1,h2,h3,h4⟩ | ⟨h1,h2,h3,h4⟩ | ⟨h1,h2,h3⟩ | ⟨h1,h2,h3⟩
 ·exact absurd h1 hn
 ·rcases h1 with h1 | h1
  ·exact .inl ⟨h1,h4 _ hmem⟩
  ·exact .inr (.inl ⟨h1,h4 _ hmem⟩)
 ·exact .inr (.inr (.inl h1))
 ·rw [h3] at hk;have hk2:k=0∨k=1:=by simp at hk; omega
  refine .inr (.inr (.inr ⟨h1,?_,hk2⟩));unfold Gj;rw [h3];rcases hk2 with rfl | rfl<;>rfl
theorem ajw (l:List ay):∀j:Nat,0≤(ru l).getD j 0:=λ j=>((mP l).2 j).1
theorem ajx (hf:Yy l) (hs:uH l s=true):∀j,j<l.length→
  ((jK l s).getD j gW=MZ∧(Gl l s).1.getD j gW=MZ∧(Gl l s).2.getD j false=false)∨
  ∃a b,UH 4000000000 a b ((ru l).getD j 0)∧(jK l s).getD j gW=red a b∧(Gl l s).1.getD j gW=red a b∧(Gl l s).2.getD j false=true:=by
 have hg:=VE hf hs;have hu:=afU hf hs;obtain ⟨_,hset⟩:=Qr hs;have ata:=λ j hj=>alG (aeN hf) j hj;have hfb:=ajw l;generalize hA:jK l s=A;generalize hB:Gl l s=B;intro j;induction j using Nat.strongRecOn with
 | ind j ih=>
  intro hj;have eA:=ag7 hg j hj;have eB:=aon hg hu j hj;rw [hA] at eA;rw [hB] at eB;have hv:=hf.valid j hj;have hk:=hset j hj;have hfj:=hf.ru j hj;have aqc:=ata j hj;generalize l.getD j aV=c at *;generalize s.getD j 0=k at *;by_cases hk1:c.eT=1
  ·right;obtain ⟨e1,e2,e3,e4,_⟩:=alI hv hk hk1 A;have eB1:st1 B.1 B.2 c k=(⟨Gj c k,1⟩,true):=by unfold st1; rw [hk1]; rfl
   rw [eB1] at eB;have hb:=hfb j;have er:(⟨Gj c k,1⟩:dL)=red (Gj c k).toNat 1:=by
    rw [alE];congr 1;omega
   refine ⟨(Gj c k).toNat,1,⟨om,by decide,om,?_,Nat.pow_pos (by decide)⟩,?_,?_,?_⟩
   ·exact Nat.le_trans (show (Gj c k).toNat≤4000000000 by omega) (Nat.le_mul_of_pos_right _ (Nat.pow_pos (by decide)))
   ·rw [eA,e4,er]
   ·rw [← er]; exact congrArg Prod.fst eB
   ·exact congrArg Prod.snd eB
  ·have hst:=aaZ hv hk hk1;have hpl:(kS c k).toNat<l.length:=by have:=hst.p0; have:=hst.pi; omega
   have hpf:=aqc _ hst.mem;have ihp:=ih (kS c k).toNat (by have:=hst.p0; have:=hst.pi; omega) hpl;have uA:A.getD (kS c k).toNat gW=upR A c k:=rfl;have uB:B.1.getD (kS c k).toNat gW=upR B.1 c k:=rfl;rw [uA,uB] at ihp;obtain ⟨q2,q3,q50,q4⟩:=aju hk1 B.1 B.2 k;have hn:∀n:Int,1≤n∧n≤64→1≤n.toNat∧n.toNat≤64:=λ n hn=>by omega
   rcases ihp with ⟨i1,i2,i3⟩ | ⟨a,b,i0,i1,i2,i3⟩
   ·left;have hA0:rt1 A c k=MZ:=by
     rcases acZ hv hk hk1 A with ⟨_,q⟩ | ⟨q,_⟩
     ·exact q
     ·rw [i1] at q; cases q
    rw [i2,i3] at q2 q3 q4;have hB0:st1 B.1 B.2 c k=(MZ,false):=by
     rcases ajv hv hk hk1 with ⟨h,h1⟩ | ⟨h,h1⟩ | h | ⟨h,h1,h2⟩
     ·rw [q2 h,ajt _ h1]
     ·rw [q3 h,ag5 _ h1]
     ·exact q4 (.inl h)
     ·rcases h2 with h2 | h2
      ·exact q50 h om
      ·exact q4 (.inr ⟨h,om⟩)
    rw [hB0] at eB;exact ⟨by rw [eA,hA0],congrArg Prod.fst eB,congrArg Prod.snd eB⟩
   ·have oA:zP (upR A c k)=false:=by rw [i1]; exact ajs a b i0.a0
    rw [i2,i3] at q2 q3 q4;rcases acZ hv hk hk1 A with ⟨q0,q⟩ | ⟨_,q⟩
    ·left;rw [oA] at q0;rcases q0 with q0 | ⟨q0,q1⟩
     ·cases q0
     ·rw [q50 q0 q1] at eB;exact ⟨by rw [eA,q],congrArg Prod.fst eB,congrArg Prod.snd eB⟩
    ·right;rcases q with ⟨r1,r2,r3,r4⟩ | ⟨r1,r2,r3,r4⟩ | ⟨r1,r2,r3⟩
     ·rw [r2] at hpf;have hnew:=i0.over hpf (hn _ r3);have hs2:=hnew.small hfj (by decide);have eo:=acY a b _ i0.b0 r3 hs2.2.1 hs2.2.2;rw [q2 r1,eo] at eB;exact ⟨a,b*(Gj c k).toNat,hnew,by rw [eA,r4,i1,eo],congrArg Prod.fst eB,congrArg Prod.snd eB⟩
     ·rw [r2] at hpf;have hnew:=i0.times hpf (hn _ r3);have hs2:=hnew.small hfj (by decide);have eo:=Zv a b _ i0.b0 r3 hs2.2.1 hs2.2.2;rw [q3 r1,eo] at eB;exact ⟨a*(Gj c k).toNat,b,hnew,by rw [eA,r4,i1,eo],congrArg Prod.fst eB,congrArg Prod.snd eB⟩
     ·rw [r2] at hpf;rw [q4 r1] at eB;exact ⟨a,b,i0.mono (by simpa using hpf),by rw [eA,r3,i1],congrArg Prod.fst eB,congrArg Prod.snd eB⟩
theorem VF (hf:Yy l) (hs:uH l s=true) (j:Nat) (hj:j<l.length):(Gl l s).1.getD j gW=(jK l s).getD j gW∧(Gl l s).2.getD j false=!zP ((jK l s).getD j gW)∧vN ((jK l s).getD j gW)=true∧(zP ((jK l s).getD j gW)=true→(jK l s).getD j gW=MZ):=by
 rcases ajx hf hs j hj with ⟨h1,h2,h3⟩ | ⟨a,b,h0,h1,h2,h3⟩
 ·rw [h1,h2,h3];exact ⟨rfl,rfl,by decide,λ _=>rfl⟩
 ·have hs2:=h0.small (hf.ru j hj) (by decide);rw [h1,h2,h3,ajs a b h0.a0];exact ⟨rfl,rfl,MK a b h0.b0 hs2.2.1 hs2.2.2,nofun⟩
theorem Lu {l m:List α} (d:α) (h:l.length=m.length) (he:∀i,i<l.length→l.getD i d=m.getD i d):l=m:=by
 apply List.ext_getElem h;intro i h1 h2;have:=he i h1;rw [List.getD_eq_getElem?_getD,List.getD_eq_getElem?_getD,List.getElem?_eq_getElem h1,List.getElem?_eq_getElem h2] at this;simpa using this
structure avx (l:List ay) (s w:List Int):Prop where
 chain:∀i,i+1<w.length→(l.getD (w.getD i 0).toNat aV).eT≠1∧w.getD (i+1) 0=kS (l.getD (w.getD i 0).toNat aV) (s.getD (w.getD i 0).toNat 0)
 last:∀i,i+1=w.length→(l.getD (w.getD i 0).toNat aV).eT=1
theorem ajy {a b:Int} (ha:0≤a) (hb:0<b):mO b (a.tmod b)=mO a b:=by
 unfold mO;rw [Int.tmod_eq_emod_of_nonneg ha,show (a % b).toNat=a.toNat % b.toNat from Int.toNat_emod ha om,Nat.gcd_comm a.toNat,Nat.gcd_rec b.toNat a.toNat,Nat.gcd_comm]
theorem aoo {x y X Y:Int} (h1:0≤x) (h2:x≤X) (h3:0≤y) (h4:y≤Y):0≤y*x∧y*x≤Y*X:=
 ⟨Int.mul_nonneg h3 h1,Int.mul_le_mul h4 h2 h1 om⟩
theorem Qu {m:List bg} (h:lJ l m=true):∀x∈m,OJ l.length x=false:=λ x hx=>by
 obtain ⟨_,_,h1⟩:=Qs h;obtain ⟨i,hi,rfl⟩:=List.mem_iff_getElem.1 hx;have:=h1 i hi;rwa [List.getD_eq_getElem?_getD,List.getElem?_eq_getElem hi] at this
end Go.Proofs.YtifekdmmpbcdgaaGreatDoor
namespace Go.Proofs.YtifekdmmpbcdgaaGreatDoor.Sp
open Go.Ab
set_option maxRecDepth 100000
deriving instance DecidableEq for aC,bU,aW
structure Chn where
 over:Bool
 awJ:List Int
 first:Int
 last:Int
deriving DecidableEq
structure Dem where
 Qv:Int
 draw:Int
 child:Int
deriving DecidableEq
def Yz:Dem:=⟨0,0,0⟩
def dO (n lo hi:Int):Bool:=decide (lo≤n)&&decide (n≤hi)
def aa1 (s:aC):Bool:=decide (16<(s.dV.length:Int))
def ac0 (s:aC) (k:Int):Bool:=((((!dO s.bG (-1) (k - 1))||((s.dV.length:Int)==0))||!dO s.iZ 0 5000)||(decide (s.bG<0)&&(s.iZ != 0)))||!dO s.jk 0 10000
def Xm:Int→List Int→Bool
 | _,[]=>true
 | p,v::t=>!(!dO v 1 5000||decide (v≤p))&&Xm v t
def OO (s:aC) (k:Int):Bool:=!ac0 s k&&Xm 0 s.dV
variable {i:Nat}
theorem ajz {lev:List Int} (hi:i<lev.length) {c:Bool} (hc:c=(!dO (lev.getD i 0) 1 5000||(decide (0<(i:Int))&&decide (lev.getD i 0≤lev.getD (i - 1) 0)))):
  Xm (if i=0 then 0 else lev.getD (i - 1) 0) (lev.drop i)=(!c&&Xm (lev.getD i 0) (lev.drop (i+1))):=by
 rw [drop_cons 0 hi,Xm,hc];congr 2;cases h:dO (lev.getD i 0) 1 5000 with
 | false=>rfl
 | true=>
  have h1:1≤lev.getD i 0:=by unfold dO at h; simp at h; simpa using h.1
  by_cases h0:i=0
  ·subst h0;simp;have h1:1≤lev.getD 0 0:=h1;have:¬ lev.getD 0 0≤0:=by omega
   simpa using this
  ·have:decide (0<(i:Int))=true:=by simp; omega
   rw [this,if_neg h0];simp
def aeO (n:Int) (x:bU):Bool:=((!dO x.dW 0 (n - 1)||!dO x.gF 0 5000)||!dO x.Low 0 x.gF)||!dO x.Load 0 10000
def YA:Nat→List aC→Bool
 | _,[]=>true
 | i,s::t=>OO s i&&YA (i+1) t
def fq (l:List aC):Int:=bif decide (16<(l.length:Int))||l.any aa1 then 3 else bif YA 0 l then 0 else 1
variable {α:Type}
theorem rZ (d:α) {p:α→Bool} {l:List α} (h:l.any p=false) (i:Nat) (hi:i<l.length):p (l.getD i d)=false:=by
 have:=jO d hi;rw [List.any_eq_false] at h;simpa using h _ this
theorem afV (n:Nat):decide ((n:Int)<1)=((n:Int)==0):=by
 by_cases h:n=0
 ·subst h; rfl
 ·rw [decide_eq_false om];symm;simpa using h
def rz (l:List aC) (d:List bU):Bool:=((fq l==0)&&decide ((d.length:Int)≤32))&&!(d.any (aeO l.length))
theorem ac1 (n:Int) (x:bU):(((!dO x.dW 0 (n - 1)||!dO x.Low 0 x.gF)||decide (5000<x.gF))||!dO x.Load 0 10000)=aeO n x:=by
 unfold aeO;cases dO x.dW 0 (n - 1) with
 | false=>rfl
 | true=>
  cases dO x.Load 0 10000 with
  | false=>simp
  | true=>
   simp only [Bool.not_true,Bool.false_or,Bool.or_false];unfold dO;by_cases h1:0≤x.Low<;>by_cases h2:x.Low≤x.gF<;>by_cases h3:5000<x.gF<;>by_cases h4:0≤x.gF<;>by_cases h5:x.gF≤5000<;>simp [h1,h2,h3,h4,h5]<;>omega
def rlN:List aC→List Int→Bool
 | s::l,k::t=>dO k 0 (s.dV.length - 1)&&rlN l t
 | _,_=>true
def tN (l:List aC) (r:aW):Bool:=bif ((fq l != 0)||((r.On.length:Int) != l.length))||((r.bC.length:Int) != l.length) then false else rlN l r.bC
variable {l:List aC}
theorem Ao (h:fq l=0):l.length≤16∧(∀i,i<l.length→(l.getD i aH).dV.length≤16)∧YA 0 l=true:=by
 unfold fq at h;cases h1:(decide (16<(l.length:Int))||l.any aa1) with
 | true=>rw [h1] at h; cases h
 | false=>
  rw [h1] at h;have h2:YA 0 l=true:=by
   cases hv:YA 0 l with
   | true=>rfl
   | false=>rw [hv] at h; cases h
  simp only [Bool.or_eq_false_iff] at h1;refine ⟨by have:=of_decide_eq_false h1.1; omega,λ i hi=>?_,h2⟩;have:=rZ aH h1.2 i hi;unfold aa1 at this;have:=of_decide_eq_false this;omega
def zk (l:List aC) (d:List bU):Int:=bif fq l != 0 then fq l else bif !rz l d then 1 else 0
theorem iO (d:α) (l:List α) (i:Nat) (v:α) (k:Nat):(l.set i v).getD k d=if k=i∧i<l.length then v else l.getD k d:=by
 rw [List.getD_eq_getElem?_getD,List.getD_eq_getElem?_getD,List.getElem?_set];by_cases h:i=k
 ·subst h;by_cases h2:i<l.length
  ·simp [h2]
  ·simp [h2]
 ·have:¬ (k=i∧i<l.length):=λ h'=>h h'.1.symm;simp [h,this]
def Qw {α:Type} (f:Nat→α→α):Nat→α→α
 | 0,a=>a
 | k+1,a=>Qw f k (f k a)
def Jh (n:Nat) (d:List bU):List Bool:=d.foldl (λ a x=>a.set x.dW.toNat true) (List.replicate n false)
def qo (l:List aC) (i:Nat) (a:List Bool):List Bool:=
 bif (a.getD i false||(l.getD i aH).gY)&&decide (0≤(l.getD i aH).bG) then (a.set i (a.getD i false||(l.getD i aH).gY)).set (l.getD i aH).bG.toNat true else a.set i (a.getD i false||(l.getD i aH).gY)
def kV (l:List aC) (d:List bU):List Bool:=Qw (qo l) l.length (Jh l.length d)
structure Vld (l:List aC) (d:List bU):Prop where
 len:l.length≤16
 atb:d.length≤32
 dW:∀i,i<l.length → -1≤(l.getD i aH).bG∧(l.getD i aH).bG<i∧1≤(l.getD i aH).dV.length∧(l.getD i aH).dV.length≤16∧0≤(l.getD i aH).iZ∧(l.getD i aH).iZ≤5000∧0≤(l.getD i aH).jk∧(l.getD i aH).jk≤10000
 dV:∀i,i<l.length→Xm 0 (l.getD i aH).dV=true
 drw:∀x∈d,0≤x.dW∧x.dW<l.length∧0≤x.Low∧x.Low≤x.gF∧x.gF≤5000∧0≤x.Load∧x.Load≤10000
theorem Dv {n lo hi:Int}:dO n lo hi=true↔lo≤n∧n≤hi:=by
 unfold dO;simp
variable {k:Nat}
theorem ac2 (h:YA k l=true):∀i,i<l.length→OO (l.getD i aH) ((k+i:Nat):Int)=true:=by
 induction l generalizing k with
 | nil=>intro i hi; simp at hi
 | cons s t ih=>
  rw [YA,Bool.and_eq_true] at h;intro i hi;cases i with
  | zero=>exact h.1
  | succ i=>
   have:=ih h.2 i (by simpa using hi);rw [show k+(i+1)=k+1+i by omega];exact this
theorem ac3 {s:aC} {k:Int} (h:OO s k=true) : -1≤s.bG∧s.bG<k∧1≤s.dV.length∧0≤s.iZ∧s.iZ≤5000∧0≤s.jk∧s.jk≤10000∧Xm 0 s.dV=true∧(s.bG<0→s.iZ=0):=by
 unfold OO ac0 at h;simp only [Bool.and_eq_true,Bool.not_eq_true',Bool.or_eq_false_iff,Bool.not_eq_false',Dv] at h;obtain ⟨⟨⟨⟨⟨h1,h2⟩,h3⟩,h4⟩,h5⟩,h6⟩:=h;have h2':¬ (s.dV.length:Int)=0:=by simpa using h2
 refine ⟨h1.1,om,om,h3.1,h3.2,h5.1,h5.2,h6,λ hp=>?_⟩;rw [decide_eq_true hp] at h4;simpa using h4
variable {d:List bU}
theorem ajB (h:rz l d=true):Vld l d:=by
 unfold rz at h;simp only [Bool.and_eq_true,Bool.not_eq_true'] at h;obtain ⟨⟨h1,h2⟩,h3⟩:=h;have h1:fq l=0:=by simpa using h1
 obtain ⟨c1,c2,c3⟩:=Ao h1;refine ⟨c1,by have:=of_decide_eq_true h2; omega,λ i hi=>?_,λ i hi=>?_,λ x hx=>?_⟩
 ·have:=ac3 (ac2 c3 i hi);have:=c2 i hi;omega
 ·exact (ac3 (ac2 c3 i hi)).2.2.2.2.2.2.2.1
 ·have:=(List.any_eq_false.1 h3) x hx;unfold aeO at this;simp only [Bool.not_eq_true,Bool.or_eq_false_iff,Bool.not_eq_false',Dv] at this;omega
theorem Zw {β:Type} (f:List α→β→List α) (hf:∀a x,(f a x).length=a.length) (d:List β) (a:List α):(d.foldl f a).length=a.length:=by
 induction d generalizing a with
 | nil=>rfl
 | cons x d ih=>rw [List.foldl_cons,ih,hf]
theorem Zx (n:Nat) (d:List bU):(Jh n d).length=n:=by
 unfold Jh;rw [Zw _ (λ a x=>List.length_set ..),List.length_replicate]
theorem Qx (l:List aC) (i:Nat) (a:List Bool):(qo l i a).length=a.length:=by
 unfold qo;cases (a.getD i false||(l.getD i aH).gY)&&decide (0≤(l.getD i aH).bG)<;>simp
theorem Zy {f:Nat→List α→List α} (hf:∀i a,(f i a).length=a.length) (k:Nat) (a:List α):(Qw f k a).length=a.length:=by
 induction k generalizing a with
 | zero=>rfl
 | succ k ih=>rw [Qw,ih,hf]
theorem Sd (l:List aC) (d:List bU):(kV l d).length=l.length:=by
 unfold kV;rw [Zy (Qx l),Zx]
def Yd {α:Type} (f:Nat→α→α) (n:Nat):Nat→α→α
 | 0,a=>a
 | k+1,a=>f (n - 1 - k) (Yd f n k a)
theorem ahb (f:Nat→α→α) (n k:Nat) (hk:k≤n) (a:α):Qw f n a=Qw f (n - k) (Yd f n k a):=by
 induction k with
 | zero=>rfl
 | succ k ih=>
  rw [ih om,show n - k=n - (k+1)+1 by omega,Qw,Yd,show n - 1 - k=n - (k+1) by omega]
theorem afW (f:Nat→α→α) (n:Nat) (a:α):Yd f n n a=Qw f n a:=by
 rw [ahb f n n (Nat.le_refl _),Nat.sub_self];rfl
theorem afX {f:Nat→List α→List α} (hf:∀i a,(f i a).length=a.length) (n k:Nat) (a:List α):(Yd f n k a).length=a.length:=by
 induction k with
 | zero=>rfl
 | succ k ih=>rw [Yd,hf,ih]
theorem r9 (n k:Nat) (v:α):(List.replicate n v).getD k v=v:=by
 rw [List.getD_eq_getElem?_getD,List.getElem?_replicate];split<;>rfl
def JG (n:Nat) (d:List bU):List Int:=d.foldl (λ a x=>a.set x.dW.toNat (a.getD x.dW.toNat 0+x.Load)) (List.replicate n 0)
def lq (l:List aC) (i:Nat) (a:List Int):List Int:=
 bif decide (0≤(l.getD i aH).bG) then a.set (l.getD i aH).bG.toNat (a.getD (l.getD i aH).bG.toNat 0+a.getD i 0) else a
def Ht (l:List aC) (d:List bU):List Int:=Qw (lq l) l.length (JG l.length d)
theorem ac4 (n:Nat) (d:List bU):(JG n d).length=n:=by
 unfold JG;rw [Zw _ (λ a x=>List.length_set ..),List.length_replicate]
theorem Qy (l:List aC) (i:Nat) (a:List Int):(lq l i a).length=a.length:=by
 unfold lq;cases decide (0≤(l.getD i aH).bG)<;>simp
theorem Xn (l:List aC) (d:List bU):(Ht l d).length=l.length:=by
 unfold Ht;rw [Zy (Qy l),ac4]
def Bnd (a:List Int) (M:Int):Prop:=∀j,0≤a.getD j 0∧a.getD j 0≤M
theorem Bnd.set {a:List Int} {M N:Int} (h:Bnd a M) (hM:M≤N) (i:Nat) (v:Int) (hv:0≤v∧v≤N):Bnd (a.set i v) N:=λ j=>by
 rw [iO];have:=h j;split
 ·exact hv
 ·omega
theorem ajC (n:Nat) (d:List bU) (hd:∀x∈d,0≤x.Load∧x.Load≤10000) (i:Nat) (hi:i≤d.length):Bnd (JG n (d.take i)) (10000*i):=by
 induction i with
 | zero=>intro j; rw [List.take_zero]; have:(JG n []).getD j 0=0:=r9 n j 0; omega
 | succ i ih=>
  have hsn:JG n (d.take (i+1))=(JG n (d.take i)).set (d.getD i eP).dW.toNat ((JG n (d.take i)).getD (d.getD i eP).dW.toNat 0+(d.getD i eP).Load):=Gy _ _ eP hi;rw [hsn];have h1:=ih om;have h2:=hd _ (jO eP hi);have h3:=h1 (d.getD i eP).dW.toNat;exact h1.set om _ _ om
theorem aeP (l:List aC) (a:List Int) (M:Int) (h:Bnd a M) (k:Nat):Bnd (Yd (lq l) l.length k a) (M*2 ^ k):=by
 induction k with
 | zero=>show Bnd a (M*2 ^ 0); rw [Int.pow_zero,Int.mul_one]; exact h
 | succ k ih=>
  rw [Yd];have e:M*2 ^ (k+1)=M*2 ^ k+M*2 ^ k:=by rw [Int.pow_succ,← Int.mul_assoc]; omega
  rw [e];generalize Yd (lq l) l.length k a=A at ih;generalize M*2 ^ k=X at ih;have hp:0≤X:=by have:=ih 0; omega
  unfold lq;cases decide (0≤(l.getD (l.length - 1 - k) aH).bG) with
  | true=>
   have h1:=ih (l.getD (l.length - 1 - k) aH).bG.toNat;have h2:=ih (l.length - 1 - k);exact ih.set om _ _ om
  | false=>
   intro j;have:=ih j;simp only [cond_false];omega
theorem aa2 (hv:Vld l d) (k:Nat) (hk:k≤l.length):Bnd (Yd (lq l) l.length k (JG l.length d)) 100000000000:=by
 have h1:=ajC l.length d (λ x hx=>by have:=hv.drw x hx; omega) d.length (Nat.le_refl _);rw [List.take_length] at h1;have h2:=aeP l _ _ h1 k;have hvl:=hv.len;have hvd:=hv.atb;have h3:(2:Int) ^ k≤2 ^ 16:=by exact_mod_cast Nat.pow_le_pow_right (n:=2) (by decide) (show k≤16 by omega)
 have h4:10000*(d.length:Int)*2 ^ k≤320000*2 ^ 16:=Int.mul_le_mul om h3 (Int.pow_nonneg (by decide)) (by decide);intro j;have:=h2 j;omega
theorem ajD (h:zk l d=0):rz l d=true:=by
 unfold zk at h;cases hc:fq l != 0 with
 | true=>rw [hc] at h; have:fq l=0:=h; rw [this] at hc; cases hc
 | false=>
  rw [hc] at h;cases hd:rz l d with
  | true=>rfl
  | false=>rw [hd] at h; cases h
def BH (l:List aC) (r:aW) (k:Nat):Int:=(l.getD k aH).dV.getD (r.bC.getD k 0).toNat 0
def YB (l:List aC) (r:aW) (u:List Bool) (ld:List Int) (i:Nat):Bool:=
 bif !r.On.getD i false then u.getD i false
 else (decide (0≤(l.getD i aH).bG)&&(!r.On.getD (l.getD i aH).bG.toNat false||decide (BH l r (l.getD i aH).bG.toNat<BH l r i+(l.getD i aH).iZ)))||decide ((l.getD i aH).jk<ld.getD i 0)
def ahc (l:List aC) (r:aW) (x:bU):Bool:=!dO (BH l r x.dW.toNat) x.Low x.gF
def Lv (l:List aC) (r:aW) (d:List bU):Bool:=(List.range l.length).all (λ i=>!YB l r (kV l d) (Ht l d) i)&&!(d.any (ahc l r))
def iN (l:List aC) (r:aW) (d:List bU):Bool:=bif !tN l r||!rz l d then false else Lv l r d
structure Rok (l:List aC) (r:aW):Prop where
 On:r.On.length=l.length
 len:r.bC.length=l.length
 dV:∀i,i<l.length→0≤r.bC.getD i 0∧(r.bC.getD i 0).toNat<(l.getD i aH).dV.length∧r.bC.getD i 0<(l.getD i aH).dV.length
theorem aa3 {r:List Int} (h:r.length=l.length):rlN l r=true↔∀i,i<l.length→0≤r.getD i 0∧r.getD i 0<(l.getD i aH).dV.length:=by
 induction l generalizing r with
 | nil=>simp [rlN]
 | cons s l ih=>
  cases r with
  | nil=>simp at h
  | cons k r=>
   rw [rlN,Bool.and_eq_true,Dv,ih (by simpa using h)];constructor
   ·rintro ⟨h1,h2⟩ i hi;cases i with
    | zero=>show 0≤k∧k<s.dV.length; omega
    | succ i=>exact h2 i (by simpa using hi)
   ·intro h2;refine ⟨?_,λ i hi=>h2 (i+1) (by simpa using hi)⟩;have:0≤k∧k<s.dV.length:=h2 0 (by simp);omega
theorem Sg {r:aW}:tN l r=true↔fq l=0∧Rok l r:=by
 unfold tN;cases h:((fq l != 0)||((r.On.length:Int) != l.length))||((r.bC.length:Int) != l.length) with
 | true=>
  simp only [cond_true];constructor
  ·intro h; cases h
  ·rintro ⟨h1,h2⟩;rw [h1,h2.On,h2.len] at h;simp at h
 | false=>
  simp only [cond_false];have h':fq l=0∧r.On.length=l.length∧r.bC.length=l.length:=by
   simp at h;omega
  rw [aa3 h'.2.2];constructor
  ·intro h1;exact ⟨h'.1,h'.2.1,h'.2.2,λ i hi=>by have:=h1 i hi; omega⟩
  ·intro h1 i hi;have:=h1.2.dV i hi;omega
theorem alJ {p:Int} {v:List Int} (h:Xm p v=true):∀j,j<v.length→p<v.getD j 0∧1≤v.getD j 0∧v.getD j 0≤5000:=by
 induction v generalizing p with
 | nil=>intro j hj; simp at hj
 | cons a v ih=>
  rw [Xm,Bool.and_eq_true,Bool.not_eq_true',Bool.or_eq_false_iff,Bool.not_eq_false',Dv] at h;have h1:=of_decide_eq_false h.1.2;intro j hj;cases j with
  | zero=>show p<a∧1≤a∧a≤5000; omega
  | succ j=>
   have:=ih h.2 j (by simpa using hj);show p<v.getD j 0∧1≤v.getD j 0∧v.getD j 0≤5000;omega
theorem UJ {n:Nat} {p:Nat→Bool} (hi:i<n) (h:p i=false):(List.range n).all p=false:=by
 rw [List.all_eq_false];exact ⟨i,by simpa using hi,by simp [h]⟩
theorem Xo {n:Nat} {p:Nat→Bool} (h:∀i,i<n→p i=true):(List.range n).all p=true:=by
 rw [List.all_eq_true];intro i hi;exact h i (by simpa using hi)
theorem ac5 {r:aW} (hv:Vld l d) (hr:Rok l r) (i:Nat) (hi:i<l.length):1≤BH l r i∧BH l r i≤5000:=by
 have:=alJ (hv.dV i hi) _ (hr.dV i hi).2.1;unfold BH;omega
theorem Lu (d:α) {a b:List α} (h1:a.length=b.length) (h2:∀j,j<a.length→a.getD j d=b.getD j d):a=b:=by
 apply List.ext_getElem h1;intro j hj hj';have:=h2 j hj;rw [List.getD_eq_getElem?_getD,List.getD_eq_getElem?_getD,List.getElem?_eq_getElem hj,List.getElem?_eq_getElem hj'] at this;exact this
def Zz (d:List bU) (i:Nat):Bool:=d.any (λ x=>x.dW==(i:Int))
theorem ahd (n:Nat) (d:List bU) (hd:∀x∈d,0≤x.dW∧x.dW<n) (j:Nat):(Jh n d).getD j false=Zz d j:=by
 unfold Jh Zz;have key:∀(d:List bU) (a:List Bool),a.length=n→(∀x∈d,0≤x.dW∧x.dW<n)→(d.foldl (λ a x=>a.set x.dW.toNat true) a).getD j false=(a.getD j false||d.any (λ x=>x.dW==(j:Int))):=by
  intro d;induction d with
  | nil=>intro a _ _; simp
  | cons x d ih=>
   intro a ha hd;have hx:=hd x (by simp);rw [List.foldl_cons,ih _ (by simpa using ha) (λ y hy=>hd y (by simp [hy])),iO,List.any_cons];by_cases hj:j=x.dW.toNat
   ·have:(x.dW==(j:Int))=true:=by simp; omega
    rw [if_pos ⟨hj,om⟩,this];simp
   ·have:(x.dW==(j:Int))=false:=by simp; omega
    rw [if_neg (λ h=>hj h.1),this];simp
 rw [key d _ (by simp) hd,r9];simp
structure N9 (l:List aC) (d:List bU) (k:Nat) (b:List Bool):Prop where
 len:b.length=l.length
 hi:∀j,j<l.length→l.length - k≤j→b.getD j false=(Yd (qo l) l.length k (Jh l.length d)).getD j false
 lo:∀j,j<l.length - k→(Yd (qo l) l.length k (Jh l.length d)).getD j false=(b.getD j false||Zz d j)
def Qz (l:List aC) (d:List bU) (i:Nat) (b:List Bool):List Bool:=
 bif (b.getD i false||(l.getD i aH).gY||Zz d i)&&decide (0≤(l.getD i aH).bG) then (b.set i (b.getD i false||(l.getD i aH).gY||Zz d i)).set (l.getD i aH).bG.toNat true else b.set i (b.getD i false||(l.getD i aH).gY||Zz d i)
theorem N9.step (hv:Vld l d) {b:List Bool} (h:N9 l d k b) (hk:k<l.length):N9 l d (k+1) (Qz l d (l.length - 1 - k) b):=by
 obtain ⟨h1,h2,h3⟩:=h;have hup:Yd (qo l) l.length (k+1) (Jh l.length d)=qo l (l.length - 1 - k) (Yd (qo l) l.length k (Jh l.length d)):=rfl;have hal:(Yd (qo l) l.length k (Jh l.length d)).length=l.length:=by rw [afX (Qx l),Zx]
 generalize Yd (qo l) l.length k (Jh l.length d)=a at h2 h3 hup hal;have hs:=hv.dW (l.length - 1 - k) om;have hai:=h3 (l.length - 1 - k) om;generalize hi:l.length - 1 - k=i at hup hs hai;have hF:(a.getD i false||(l.getD i aH).gY)=(b.getD i false||(l.getD i aH).gY||Zz d i):=by
  rw [hai];cases b.getD i false<;>cases (l.getD i aH).gY<;>cases Zz d i<;>rfl
 refine ⟨?_,?_,?_⟩
 ·unfold Qz;cases (b.getD i false||(l.getD i aH).gY||Zz d i)&&decide (0≤(l.getD i aH).bG)<;>simp [h1]
 all_goals
  rw [hup]
  unfold Qz qo
  rw [hF]
  generalize (b.getD i false||(l.getD i aH).gY||Zz d i)=F
  cases hc:F&&decide (0≤(l.getD i aH).bG) with
  | true=>
   simp only [cond_true]
   simp only [Bool.and_eq_true] at hc
   have hp:=of_decide_eq_true hc.2
   intro j hj
   try intro hj2
   simp only [iO,List.length_set,h1,hal]
   by_cases hjp:j=(l.getD i aH).bG.toNat∧(l.getD i aH).bG.toNat<l.length
   ·rw [if_pos hjp,if_pos hjp]
    try rfl
   ·rw [if_neg hjp,if_neg hjp]
    by_cases hji:j=i∧i<l.length
    ·rw [if_pos hji,if_pos hji]
     try omega
    ·rw [if_neg hji,if_neg hji]
     first | exact h2 j om om | exact h3 j om
  | false=>
   simp only [cond_false]
   intro j hj
   try intro hj2
   simp only [iO,h1,hal]
   by_cases hji:j=i∧i<l.length
   ·rw [if_pos hji,if_pos hji]
    try omega
   ·rw [if_neg hji,if_neg hji]
    first | exact h2 j om om | exact h3 j om
theorem N9.done {b:List Bool} (h:N9 l d l.length b):b=kV l d:=by
 refine Lu false (by rw [h.len,Sd]) λ j hj=>?_;rw [h.hi j (by rw [← h.len]; exact hj) om,afW];rfl
theorem N9.start (hv:Vld l d):N9 l d 0 (List.replicate l.length false):=by
 refine ⟨by simp,λ j hj h=>by omega,λ j hj=>?_⟩;rw [r9];show (Jh l.length d).getD j false=_;rw [ahd _ _ (λ x hx=>by have:=hv.drw x hx; omega)];simp
def Lx (d:List bU) (i:Nat):Int:=d.foldl (λ s x=>bif x.dW==(i:Int) then s+x.Load else s) 0
theorem Si {j:Nat} (h:j<d.length):Lx (d.take (j+1)) i=bif (d.getD j eP).dW==(i:Int) then Lx (d.take j) i+(d.getD j eP).Load else Lx (d.take j) i:=Gy _ _ eP h
theorem ajE (n:Nat) (d:List bU) (hd:∀x∈d,0≤x.dW∧x.dW<n) (j:Nat):(JG n d).getD j 0=Lx d j:=by
 unfold JG Lx;have key:∀(d:List bU) (a:List Int) (s:Int),a.length=n→(∀x∈d,0≤x.dW∧x.dW<n)→a.getD j 0=s→(d.foldl (λ a x=>a.set x.dW.toNat (a.getD x.dW.toNat 0+x.Load)) a).getD j 0=d.foldl (λ s x=>bif x.dW==(j:Int) then s+x.Load else s) s:=by
  intro d;induction d with
  | nil=>intro a s _ _ h; exact h
  | cons x d ih=>
   intro a s ha hd h;have hx:=hd x (by simp);rw [List.foldl_cons,List.foldl_cons];refine ih _ _ (by simpa using ha) (λ y hy=>hd y (by simp [hy])) ?_;rw [iO];by_cases hj:j=x.dW.toNat
   ·have:(x.dW==(j:Int))=true:=by simp; omega
    rw [if_pos ⟨hj,om⟩,this,← hj,h];rfl
   ·have:(x.dW==(j:Int))=false:=by simp; omega
    rw [if_neg (λ h=>hj h.1),this];exact h
 exact key d _ 0 (by simp) hd (r9 _ _ _)
theorem QA (hd:∀x∈d,0≤x.Load∧x.Load≤10000) (i j:Nat) (hj:j≤d.length):0≤Lx (d.take j) i∧Lx (d.take j) i≤10000*j:=by
 induction j with
 | zero=>rw [List.take_zero]; exact ⟨Int.le_refl _,Int.le_refl _⟩
 | succ j ih=>
  have:=ih om;have h2:=hd _ (jO eP hj);rw [Si hj];cases (d.getD j eP).dW==(i:Int) with
  | true=>simp only [cond_true]; omega
  | false=>simp only [cond_false]; omega
structure Ji (l:List aC) (d:List bU) (k:Nat) (b:List Int):Prop where
 len:b.length=l.length
 pos:∀j,0≤b.getD j 0
 hi:∀j,j<l.length→l.length - k≤j→b.getD j 0=(Yd (lq l) l.length k (JG l.length d)).getD j 0
 lo:∀j,j<l.length - k→(Yd (lq l) l.length k (JG l.length d)).getD j 0=b.getD j 0+Lx d j
def ML (l:List aC) (d:List bU) (i:Nat) (b:List Int):List Int:=
 bif decide (0≤(l.getD i aH).bG) then (b.set i (b.getD i 0+Lx d i)).set (l.getD i aH).bG.toNat (b.getD (l.getD i aH).bG.toNat 0+(b.getD i 0+Lx d i)) else b.set i (b.getD i 0+Lx d i)
variable {b:List Int}
theorem Ji.step (hv:Vld l d) (h:Ji l d k b) (hk:k<l.length):Ji l d (k+1) (ML l d (l.length - 1 - k) b):=by
 obtain ⟨h1,h0,h2,h3⟩:=h;have hdp:∀i,0≤Lx d i:=λ i=>by
  have:=(QA (d:=d) (λ x hx=>by have:=hv.drw x hx; omega) i d.length (Nat.le_refl _)).1;rwa [List.take_length] at this
 have hup:Yd (lq l) l.length (k+1) (JG l.length d)=lq l (l.length - 1 - k) (Yd (lq l) l.length k (JG l.length d)):=rfl;have hal:(Yd (lq l) l.length k (JG l.length d)).length=l.length:=by rw [afX (Qy l),ac4]
 generalize Yd (lq l) l.length k (JG l.length d)=a at h2 h3 hup hal;have hs:=hv.dW (l.length - 1 - k) om;have hai:=h3 (l.length - 1 - k) om;generalize hi:l.length - 1 - k=i at hup hs hai;have hb0:=h0 i;have hd0:=hdp i;refine ⟨?_,?_,?_,?_⟩
 ·unfold ML;cases decide (0≤(l.getD i aH).bG)<;>simp [h1]
 ·intro j;have hb1:=h0 j;have hb2:=h0 (l.getD i aH).bG.toNat;unfold ML;cases decide (0≤(l.getD i aH).bG)<;>simp only [cond_true,cond_false,iO]<;>repeat' split
  all_goals omega
 all_goals
  rw [hup]
  unfold ML lq
  cases hc:decide (0≤(l.getD i aH).bG) with
  | true=>
   simp only [cond_true]
   have hp:=of_decide_eq_true hc
   intro j hj
   try intro hj2
   simp only [iO,List.length_set,h1,hal]
   have hap:=h3 (l.getD i aH).bG.toNat om
   by_cases hjp:j=(l.getD i aH).bG.toNat∧(l.getD i aH).bG.toNat<l.length
   ·rw [if_pos hjp,if_pos hjp]
    try rw [hjp.1]
    omega
   ·rw [if_neg hjp,if_neg hjp]
    by_cases hji:j=i∧i<l.length
    ·rw [if_pos hji,hji.1]
     omega
    ·rw [if_neg hji]
     first | exact h2 j om om | exact h3 j om
  | false=>
   simp only [cond_false]
   intro j hj
   try intro hj2
   simp only [iO,h1]
   by_cases hji:j=i∧i<l.length
   ·rw [if_pos hji,hji.1]
    omega
   ·rw [if_neg hji]
    first | exact h2 j om om | exact h3 j om
theorem Ji.done (h:Ji l d l.length b):b=Ht l d:=by
 refine Lu 0 (by rw [h.len,Xn]) λ j hj=>?_;rw [h.hi j (by rw [← h.len]; exact hj) om,afW];rfl
theorem Ji.start (hv:Vld l d):Ji l d 0 (List.replicate l.length 0):=by
 refine ⟨by simp,λ j=>by rw [r9]; omega,λ j hj h=>by omega,λ j hj=>?_⟩;rw [r9];show (JG l.length d).getD j 0=_;rw [ajE _ _ (λ x hx=>by have:=hv.drw x hx; omega)];simp
theorem Ji.small (hv:Vld l d) (h:Ji l d k b) (hk:k≤l.length) (j:Nat):0≤b.getD j 0∧b.getD j 0≤100000000000:=by
 have h1:=aa2 hv k hk j;refine ⟨h.pos j,?_⟩;have hd:=(QA (d:=d) (λ x hx=>by have:=hv.drw x hx; omega) j d.length (Nat.le_refl _)).1;rw [List.take_length] at hd;by_cases h2:j<l.length - k
 ·have:=h.lo j h2; omega
 ·by_cases h3:j<l.length
  ·have:=h.hi j h3 om; omega
  ·rw [Wy 0 (by rw [h.len]; omega)]; omega
def lvN:List Int→Int→Nat
 | [],_=>0
 | x::t,v=>bif decide (v≤x) then 0 else lvN t v+1
theorem aoq (v:Int) (l:List Int):lvN l v≤l.length:=by
 induction l with
 | nil=>exact Nat.le_refl _
 | cons x l ih=>
  rw [lvN];cases decide (v≤x)<;>simp<;>omega
theorem aor {v:Int} {l:List Int}:∀j,j<lvN l v→l.getD j 0<v:=by
 induction l with
 | nil=>intro j hj; simp [lvN] at hj
 | cons x l ih=>
  rw [lvN];cases h:decide (v≤x) with
  | true=>intro j hj; simp at hj
  | false=>
   have:=of_decide_eq_false h;intro j hj;cases j with
   | zero=>show x<v; omega
   | succ j=>exact ih j (by simpa using hj)
theorem aos {v:Int} {l:List Int} (h:lvN l v<l.length):v≤l.getD (lvN l v) 0:=by
 induction l with
 | nil=>simp at h
 | cons x l ih=>
  rw [lvN] at h ⊢;cases hd:decide (v≤x) with
  | true=>exact of_decide_eq_true hd
  | false=>
   rw [hd] at h;exact ih (by simpa using h)
theorem ajF {v:Int} {l:List Int} (h0:k≤l.length) (h1:∀j,j<k→l.getD j 0<v) (h2:k<l.length→v≤l.getD k 0):k=lvN l v:=by
 have h3:=aoq v l;rcases Nat.lt_trichotomy k (lvN l v) with h | h | h
 ·have:=aor k h;have:=h2 om;omega
 ·exact h
 ·have:=aos (v:=v) (l:=l) om;have:=h1 _ h;omega
structure DS where
 a:List Dem
 lv:List Int
def BI (n:Nat) (d:List bU):Nat→List Dem
 | 0=>List.replicate n ⟨0,-1,-1⟩
 | i+1=>bif decide (((BI n d i).getD (d.getD i eP).dW.toNat Yz).Qv<(d.getD i eP).Low) then (BI n d i).set (d.getD i eP).dW.toNat ⟨(d.getD i eP).Low,i,-1⟩ else BI n d i
def M0 (l:List aC) (i:Nat) (s:DS):Nat:=lvN (l.getD i aH).dV (s.a.getD i Yz).Qv
def Ep (l:List aC) (i:Nat) (s:DS):Int:=(l.getD i aH).dV.getD (M0 l i s) 0+(l.getD i aH).iZ
def LA (l:List aC) (u:List Bool) (i:Nat) (s:DS):DS:=
 bif !u.getD i false then s
 else ⟨bif decide (0≤(l.getD i aH).bG)&&decide ((s.a.getD (l.getD i aH).bG.toNat Yz).Qv<Ep l i s) then s.a.set (l.getD i aH).bG.toNat ⟨Ep l i s,-1,i⟩ else s.a,s.lv.set i (M0 l i s)⟩
def Uc (l:List aC) (u:List Bool) (i:Nat) (s:DS):Bool:=u.getD i false&&!decide ((M0 l i s:Int)<(l.getD i aH).dV.length)
def ajG (l:List aC) (u:List Bool):Nat→DS→DS×Int
 | 0,s=>(s,-1)
 | k+1,s=>bif Uc l u k s then (s,k) else ajG l u k (LA l u k s)
def ds0 (l:List aC) (d:List bU):DS:=⟨BI l.length d d.length,List.replicate l.length 0⟩
def aa4 (l:List aC) (d:List bU):DS×Int:=ajG l (kV l d) l.length (ds0 l d)
theorem ZA (n:Nat) (d:List bU) (i:Nat):(BI n d i).length=n:=by
 induction i with
 | zero=>simp [BI]
 | succ i ih=>
  rw [BI];cases decide (((BI n d i).getD (d.getD i eP).dW.toNat Yz).Qv<(d.getD i eP).Low)<;>simp [ih]
structure DOk (l:List aC) (s:DS):Prop where
 al:s.a.length=l.length
 ll:s.lv.length=l.length
variable {u:List Bool}
theorem alK {s:DS} (h:DOk l s):DOk l (LA l u i s):=by
 unfold LA;cases u.getD i false with
 | false=>exact h
 | true=>
  refine ⟨?_,by simp [h.ll]⟩;simp only [Bool.not_true,cond_false];cases decide (0≤(l.getD i aH).bG)&&decide ((s.a.getD (l.getD i aH).bG.toNat Yz).Qv<Ep l i s)<;>simp [h.al]
theorem aot (l:List aC) (d:List bU):DOk l (ds0 l d):=⟨ZA _ _ _,by simp [ds0]⟩
def tO (l:List aC) (d:List bU):aW×Int:=
 bif zk l d != 0 then (Gz,zk l d)
 else bif decide (0≤(aa4 l d).2)||!iN l ⟨kV l d,(aa4 l d).1.lv⟩ d then (Gz,9) else (⟨kV l d,(aa4 l d).1.lv⟩,0)
def alL (l:List aC) (s:DS):Prop:=∀j,j<l.length→0≤s.lv.getD j 0∧s.lv.getD j 0<(l.getD j aH).dV.length
def lvK (l:List aC) (k v:Int):Nat:=lvN (l.getD k.toNat aH).dV v
def okK (l:List aC) (k v:Int):Bool:=decide (lvK l k v<(l.getD k.toNat aH).dV.length)
def voK (l:List aC) (k v:Int):Int:=(l.getD k.toNat aH).dV.getD (lvK l k v) 0
def rwN (l:List aC) (d:List bU) (last:Int):List Int→Int→Bool
 | [],_=>false
 | k::t,v=>bif !t.isEmpty then (bif !okK l k v then false else rwN l d last t (voK l k v+(l.getD k.toNat aH).iZ))
  else bif !okK l k v||decide (last<0) then !okK l k v&&decide (last<0)
  else ((d.getD last.toNat eP).dW==k)&&decide ((d.getD last.toNat eP).gF<voK l k v)
abbrev sAt (l:List aC) (i:Nat):aC:=l.getD i aH
abbrev bAt (a:List Bool) (i:Nat):Bool:=a.getD i false
abbrev nAt (a:List Int) (i:Nat):Int:=a.getD i 0
abbrev dAt (a:List Dem) (i:Nat):Dem:=a.getD i Yz
abbrev xAt (d:List bU) (i:Nat):bU:=d.getD i eP
structure DI (n:Nat) (d:List bU) (i:Nat) (a:List Dem):Prop where
 len:a.length=n
 just:∀j,j<n→dAt a j=⟨0,-1,-1⟩∨∃q,q<i∧(xAt d q).dW=j∧dAt a j=⟨(xAt d q).Low,q,-1⟩
 Low:∀q,q<i→(xAt d q).Low≤(dAt a (xAt d q).dW.toNat).Qv
structure Dm (l:List aC) (d:List bU) (u:List Bool) (k:Nat) (s:DS):Prop where
 al:s.a.length=l.length
 ll:s.lv.length=l.length
 just:∀j,j<l.length→dAt s.a j=⟨0,-1,-1⟩∨(∃q,q<d.length∧(xAt d q).dW=j∧dAt s.a j=⟨(xAt d q).Low,q,-1⟩)∨
  ∃c:Nat,k≤c∧c<l.length∧bAt u c=true∧(sAt l c).bG=j∧M0 l c s<(sAt l c).dV.length∧dAt s.a j=⟨Ep l c s,-1,c⟩
 Low:∀q,q<d.length→(xAt d q).Low≤(dAt s.a (xAt d q).dW.toNat).Qv
 up:∀c,k≤c→c<l.length→bAt u c=true→0≤(sAt l c).bG→Ep l c s≤(dAt s.a (sAt l c).bG.toNat).Qv
 ok:∀c,k≤c→c<l.length→bAt u c=true→M0 l c s<(sAt l c).dV.length∧nAt s.lv c=M0 l c s
 zero:∀c,c<l.length→c<k∨bAt u c=false→nAt s.lv c=0
structure Mt (l:List aC) (r:aW) (d:List bU):Prop where
 used:∀i,bAt (kV l d) i=true→bAt r.On i=true
 bG:∀i,i<l.length→bAt r.On i=true→0≤(sAt l i).bG→bAt r.On (sAt l i).bG.toNat=true∧BH l r i+(sAt l i).iZ≤BH l r (sAt l i).bG.toNat
 jk:∀i,i<l.length→bAt r.On i=true→nAt (Ht l d) i≤(sAt l i).jk
 drw:∀x∈d,x.Low≤BH l r x.dW.toNat∧BH l r x.dW.toNat≤x.gF
theorem ac6 (h:rz l d=true):fq l=0:=by
 unfold rz at h;simp only [Bool.and_eq_true] at h;simpa using h.1.1
structure Best (l:List aC) (d:List bU) (r:aW):Prop where
 ok:iN l r d=true
 On:r.On=kV l d
 zero:∀i,bAt (kV l d) i=false→nAt r.bC i=0
 least:∀q,iN l q d=true→∀i,bAt (kV l d) i=true→bAt q.On i=true∧nAt r.bC i≤nAt q.bC i
def jnL (l:List aC) (u:List Bool):List Int→Prop
 | []=>True
 | k::t=>(0≤k∧k<l.length∧bAt u k.toNat=true∧(∀k',t.head? = some k'→(sAt l k.toNat).bG=k'))∧jnL l u t
structure Good (l:List aC) (d:List bU) (last:Int) (c:List Int) (fst:Int):Prop where
 ne:c≠[]
 jn:jnL l (kV l d) c
 lo : -1≤fst
 hi:fst<d.length
 yes:0≤fst→(xAt d fst.toNat).dW=nAt c 0∧rwN l d last c (xAt d fst.toNat).Low=true
 no:fst<0→rwN l d last c 0=true
def Er (a:List Dem):List Int:=a.map Dem.Qv
theorem LB (a:List Dem) (j:Nat):(Er a).getD j 0=(a.getD j Yz).Qv:=by
 unfold Er;rw [List.getD_eq_getElem?_getD,List.getElem?_map,List.getD_eq_getElem?_getD];cases a[j]? <;> rfl
theorem ac7 (a:List Dem) (j:Nat) (x:Dem):Er (a.set j x)=(Er a).set j x.Qv:=by
 unfold Er;rw [List.map_set]
theorem ac8 (a:List Dem):(Er a).length=a.length:=by simp [Er]
theorem set_self (a:List Int) (j:Nat):a.set j (a.getD j 0)=a:=by
 refine Lu 0 (by simp) λ k hk=>?_;rw [iO];split
 ·rename_i h; rw [h.1]
 ·rfl
theorem ac9 (a:List Int) (j:Nat) (v:Int) (h:v=a.getD j 0):a.set j v=a:=by
 rw [h,set_self]
theorem aeQ (n:Nat) (d:List bU) (i:Nat):Er (BI n d (i+1))=(Er (BI n d i)).set (d.getD i eP).dW.toNat (if (d.getD i eP).Low > (Er (BI n d i)).getD (d.getD i eP).dW.toNat 0 then (d.getD i eP).Low else (Er (BI n d i)).getD (d.getD i eP).dW.toNat 0):=by
 rw [BI,LB];by_cases h:((BI n d i).getD (d.getD i eP).dW.toNat Yz).Qv<(d.getD i eP).Low
 ·rw [decide_eq_true h,cond_true,ac7,if_pos h]
 ·rw [decide_eq_false h,cond_false,if_neg h,ac9 _ _ _ (LB _ _).symm]
theorem ajI {s:DS} (hu:u.length=l.length) (h:DOk l s) (hl:alL l s):Rok l ⟨u,s.lv⟩:=
 ⟨hu,h.ll,λ i hi=>by
  have:=hl i hi;show 0≤s.lv.getD i 0∧(s.lv.getD i 0).toNat<_∧s.lv.getD i 0<_;omega⟩
theorem alM {s:DS} (hf:Uc l u k s=false) (h:alL l s):alL l (LA l u k s):=by
 intro j hj;unfold LA;cases hu:u.getD k false with
 | false=>exact h j hj
 | true=>
  unfold Uc at hf;rw [hu,Bool.true_and,Bool.not_eq_false'] at hf;have:=of_decide_eq_true hf;show 0≤(s.lv.set k (M0 l k s)).getD j 0∧(s.lv.set k (M0 l k s)).getD j 0<_;rw [iO];split
  ·rename_i hjk; rw [hjk.1]; omega
  ·exact h j hj
theorem Ub {l m:List α} (d:α) (h:l.length≤i):(l++m).getD i d=m.getD (i - l.length) d:=by
 rw [List.getD_eq_getElem?_getD,List.getElem?_append_right h,List.getD_eq_getElem?_getD]
structure ate (l:List aC) (d:List bU) (r:aW) (ok:Bool):Prop where
 is:ok=((tO l d).2==0)
 yes:ok=true→iN l r d=true
 no:ok=false→r=(tO l d).1
end Go.Proofs.YtifekdmmpbcdgaaGreatDoor.Sp
namespace Go.Proofs.YtifekdmmpbcdgaaGreatDoor
open Go.Ab
set_option maxRecDepth 100000
structure aov (l:List eu):Prop where
 len:l.length≤32
 af:∀i,i<l.length→∀x∈(l.getD i eU).fV,0≤x∧x<(i:Int)
structure aow (l:List dG):Prop where
 len:l.length≤16
 par:∀i,i<l.length → -1≤(l.getD i eY).bG∧(l.getD i eY).bG<(i:Int)
structure aqe (n:Int) (g:dD):Prop where
 pl:0<g.dz.length
 fl:0<g.aI.length∧g.aI.length≤8
 pn:∀x∈g.dz,0≤x∧x<n
structure Ud (p:bL) (u:gM):Prop where
 g0:0≤u.bM
 gl:u.bM<p.aG.length
 f0:0≤u.dA
 fl:u.dA<(p.aG.getD u.bM.toNat aM).aI.length
theorem fO {P:Nat→Prop} {i:Int} (h:∀j:Nat,(j:Int)<i→P j) (h0:0≤i) (hp:P i.toNat):∀j:Nat,(j:Int)<i+1→P j:=λ j hj=>by
 by_cases q:(j:Int)<i
 ·exact h j q
 ·have e:j=i.toNat:=by omega
  rw [e]; exact hp
structure amL (p:bL):Prop where
 pn:0≤p.dz∧p.dz≤64
 gl:p.aG.length≤24
 gr:∀g∈p.aG,aqe p.dz g
variable {α:Type}
theorem mQ {P:α→Prop} {l:List α} (d:α) (h:∀j,j<l.length→P (l.getD j d)):∀x∈l,P x:=λ x hx=>by
 obtain ⟨i,hi,rfl⟩:=List.mem_iff_getElem.1 hx;have:=h i hi;rwa [List.getD_eq_getElem?_getD,List.getElem?_eq_getElem hi] at this
theorem BJ {s_:List Int} (h1:s_.length≤2000000):W (slices_Clone_int s_) (λ r=>r=s_):=by
 unfold slices_Clone_int;refine wn<|aK ?_;rfl
theorem rA {s_:List Bool} (h1:s_.length≤2000000):W (jH s_) (λ r=>r=s_):=by
 unfold jH;refine wn<|aK ?_;rfl
theorem FK {s_:List au} (h1:s_.length≤2000000):W (lF s_) (λ r=>r=s_):=by
 unfold lF;refine wn<|aK ?_;rfl
structure Sj (b:aP):Prop where
 cl:b.bT.length≤2000000
 ch:ag4 b.bT
 su:b.bD.length≤2000000
 gr:∀g∈b.aQ.aG,g.dz.length≤2000000
 re:b.bf.length≤2000000
 ra:∀g∈b.bf,g.fV.length≤2000000
 dm:b.bO.length≤2000000
structure amM (b:aP):Prop where
 cl:fq b.bT=0
 su:Sp.fq b.bD=0
 pn:amL b.aQ
 rs:aov b.bf
 dm:aow b.bO
structure aa5 (n:Nat) (x:bg):Prop where
 k0:0≤x.fJ
 kl:x.fJ<n
 l0:0≤x.Low
 lh:x.Low≤x.gF
 hi:x.gF≤4000000000
structure ahg (n:Nat) (x:bU):Prop where
 k0:0≤x.dW
 kl:x.dW<n
 l0:0≤x.Low
 lh:x.Low≤x.gF
 hi:x.gF≤5000
 ld:0≤x.Load∧x.Load≤10000
structure aox (b:aP) (n:aO):Prop where
 ll:n.eF.length≤32
 dl:n.gJ.length≤32
 fl:n.aI.length≤10
 lm:∀x∈n.eF,aa5 b.bT.length x
 dw:∀x∈n.gJ,ahg b.bD.length x
 rs:∀x∈n.bf,0≤x∧x<b.bf.length
 dm : -1≤n.gB∧n.gB<b.bO.length
structure Xp (l:List aO):Prop where
 len:l.length≤2000000
 nd:∀n∈l,n.bf.length≤2000000∧n.dx.length≤2000000
structure uK (g:aF):Prop where
 st:g.Setting.length≤2000000
 on:g.aY.On.length≤2000000
 lv:g.aY.bC.length≤2000000
 us:g.Uses.length≤2000000
 re:g.Released.length≤2000000
 po:g.bq.length≤2000000
structure atf (s:iL):Prop where
 sz:Sj s.bZ
 val:amM s.bZ
 nl:s.iH.length≤12
 nd:∀n∈s.iH,aox s.bZ n
 nsz:Xp s.iH
 ml:s.dH.length≤10000
 gs:uK s.bW
structure atg (s:iL):Prop where
 mem:∀m∈s.dH,0≤m∧m<s.iH.length
 st:s.bW.Setting.length=s.bZ.bT.length
 on:s.bW.aY.On.length=s.bZ.bD.length
 lv:s.bW.aY.bC.length=s.bZ.bD.length
 re:s.bW.Released.length=s.bZ.bf.length
 po:s.bW.bq.length=s.bZ.bO.length
theorem aeR {x_:Int} {MR:Int} {wD:Int}:W (ET x_ MR wD) (λ r=>r=(decide (MR≤x_)&&decide (x_≤wD))):=by
 unfold ET;refine aK ?_;rfl
theorem ada {r_:aW} (h1:r_.On.length≤2000000) (h2:r_.bC.length≤2000000):W (EU r_) (λ r=>r=(r_.On,r_.bC)):=by
 unfold EU;refine aL (rA ob) λ v1 hv1=>?_;subst v1;refine aL (BJ ob) λ v2 hv2=>?_;subst v2;refine aK ?_;rfl
theorem LC {g_:aF} (h1:uK g_):W (qF g_) (λ r=>r=(g_.Setting,g_.aY.On,g_.aY.bC,g_.Uses,g_.Released,g_.bq)):=by
 obtain ⟨z1,z2,z3,z4,z5,z6⟩:=h1;unfold qF;refine aL (BJ ob) λ v1 hv1=>?_;subst v1;refine aL (ada ob ob) λ v2 hv2=>?_;subst v2;refine aL (FK ob) λ v3 hv3=>?_;subst v3;refine aL (rA ob) λ v4 hv4=>?_;subst v4;refine aL (rA ob) λ v5 hv5=>?_;subst v5;refine aK ?_;rfl
def Es {α:Type} (l:List α) (i:Int) (v:α):Bool×List α:=bif decide (i<0)||decide ((l.length:Int)≤i) then (false,l) else (true,l.set i.toNat v)
theorem jm (l:List α) (i:Int) (v:α):(Es l i v).2.length=l.length:=by
 unfold Es;cases decide (i<0)||decide ((l.length:Int)≤i)<;>simp
def Xq (u:Int) (h:au):Bool:=h.iB.bM==u
theorem aqf (d:α) {a b:List α} (h1:a.length=b.length) (h2:∀j,j<a.length→a.getD j d=b.getD j d):a=b:=Sp.Lu d h1 h2
theorem MN (d:α) (l:List α) (n j:Nat) (h:j<n):(l.take n).getD j d=l.getD j d:=by
 rw [List.getD_eq_getElem?_getD,List.getD_eq_getElem?_getD,List.getElem?_take_of_lt h]
theorem ahh (d:α) (l:List α) (n j:Nat):(l.drop n).getD j d=l.getD (n+j) d:=by
 rw [List.getD_eq_getElem?_getD,List.getD_eq_getElem?_getD,List.getElem?_drop]
theorem aeS (d:α) (l:List α) (i j:Nat):(l.eraseIdx i).getD j d=if j<i then l.getD j d else l.getD (j+1) d:=by
 rw [List.getD_eq_getElem?_getD,List.getElem?_eraseIdx];split<;>rw [List.getD_eq_getElem?_getD]
theorem del_eq {s:Nat} {i j:Int} {o:List au} {n k:Nat} {q:List au} (h0:0≤i∧j=i+1) (h1:j≤s) (h2:s≤o.length) (hn:n+1=s) (hk:k=n):(aau (aau o (0+i.toNat) ((o.drop (0+j.toNat)).take (s - j.toNat))) (0+(((i.toNat+(s - j.toNat)):Nat):Int).toNat) q).take n=(o.take s).eraseIdx i.toNat:=by
 have e1:(0+(((i.toNat+(s - j.toNat)):Nat):Int).toNat)=n:=by omega
 refine aqf bE ?_ ?_
 ·rw [List.length_take,gZ,gZ,List.length_eraseIdx_of_lt (by rw [List.length_take]; omega),List.length_take];omega
 ·intro t ht;rw [List.length_take,gZ,gZ] at ht;rw [MN _ _ _ _ om,RS bE (by rw [gZ]; omega),if_neg om,RS bE om,aeS];simp only [List.length_take,List.length_drop];by_cases c:t<i.toNat
  ·rw [if_neg om,if_pos c,MN _ _ _ _ om]
  ·rw [if_pos om,if_neg c,MN _ _ _ _ om,ahh,MN _ _ _ _ om];congr 1;omega
theorem afY {l:List α} {P:α→Bool} (h:0≤Qm l P):Qm l P<l.length:=by
 unfold Qm at h ⊢;split at h
 ·rename_i q;rw [if_pos q];have:=List.findIdx_lt_length_of_exists (List.any_eq_true.1 q);omega
 ·omega
theorem Oa {l:List α} {n:Nat} {x:α} (h:n≤l.length):(l.take n++[x]).take (n+1)=l.take n++[x]:=by
 rw [List.take_of_length_le];rw [List.length_append,List.length_take];simp;omega
theorem Jj {at_:Int} {x_:Int} {bX:List Int}:W (rU at_ x_ bX) (λ r=>r=Es bX at_ x_):=by
 unfold rU;refine cO ?_ ?_<;>intro c1
 ·have jf:=c1;have c1:=fA c1;refine aK ?_;(unfold Es; rw [jf]; rfl)
 ·have jf:=c1;have c1:=fA c1;refine wn<|aK ?_;(unfold Es; rw [jf]; rfl)
theorem wZ {at_:Int} {x_:Bool} {bX:List Bool}:W (kY at_ x_ bX) (λ r=>r=Es bX at_ x_):=by
 unfold kY;refine cO ?_ ?_<;>intro c1
 ·have jf:=c1;have c1:=fA c1;refine aK ?_;(unfold Es; rw [jf]; rfl)
 ·have jf:=c1;have c1:=fA c1;refine wn<|aK ?_;(unfold Es; rw [jf]; rfl)
theorem UK {u_:au} {wU:Int} {vo:Int} {wV:Int}:W (rV u_ wU vo wV) (λ r=>r=(u_.iB.bM==vo)):=by
 unfold rV;refine aK ?_;rfl
theorem Ap {s_:List au} {D9 Cu Ea:Int} (h1:s_.length≤2000000):W (lN s_ D9 Cu Ea) (λ r=>r=Qm s_ (Xq Cu)):=
 ap4 (p:=λ x=>rV x D9 Cu Ea) (P:=Xq Cu) (λ x _=>D8 UK) om
def grO (n:Nat) (o1:List Int) (o2:List Bool) (o3:List Int) (o4:List au) (o5 o6:List Bool):aF:=⟨o1,⟨o2,o3⟩,o4.take n,o5,o6⟩
def grT (r:Nat×List Int×List Bool×List Int×List Bool×List Bool×List au):aF:=grO r.1 r.2.1 r.2.2.1 r.2.2.2.1 r.2.2.2.2.2.2 r.2.2.2.2.1 r.2.2.2.2.2.1
def Et (u v:Int) (l:List au):List au:=bif decide (0<v) then l++[⟨-1,⟨u,v - 1⟩⟩] else l
def yL (u:Int) (l:List au):List au:=bif decide (0≤Qm l (Xq u)) then l.eraseIdx (Qm l (Xq u)).toNat else l
def jA (w:aD) (g:aF):Bool×aF:=
 bif decide (w.Value<0) then (false,g)
 else bif w.eT==1 then ((Es g.Setting w.Unit w.Value).1,{ g with Setting:=(Es g.Setting w.Unit w.Value).2 })
 else bif w.eT==2 then ((Es g.aY.bC w.Unit w.Value).1,{ g with aY:=⟨g.aY.On,(Es g.aY.bC w.Unit w.Value).2⟩ })
 else bif w.eT==3 then (bif decide (w.Value≤1) then ((Es g.aY.On w.Unit (w.Value==1)).1,{ g with aY:=⟨(Es g.aY.On w.Unit (w.Value==1)).2,g.aY.bC⟩ }) else (false,g))
 else bif w.eT==11 then (bif decide (w.Value≤1) then ((Es g.Released w.Unit (w.Value==1)).1,{ g with Released:=(Es g.Released w.Unit (w.Value==1)).2 }) else (false,g))
 else bif w.eT==12 then (bif decide (w.Value≤1) then ((Es g.bq w.Unit (w.Value==1)).1,{ g with bq:=(Es g.bq w.Unit (w.Value==1)).2 }) else (false,g))
 else bif w.eT==10 then (bif !(decide (0≤w.Unit)&&decide (w.Unit≤23)) then (false,g) else (true,{ g with Uses:=Et w.Unit w.Value (yL w.Unit g.Uses) }))
 else (false,g)
deriving instance DecidableEq for gM,au,aF
theorem aa6 [DecidableEq α] {a b:List α} (h:¬ (a.length:Int)=b.length):(a==b)=false:=by
 simp only [beq_eq_false_iff_ne,ne_eq];intro e;rw [e] at h;exact h rfl
theorem alN [DecidableEq α] {x y:α} {a b:List α} (h:¬ x=y):(x::a==y::b)=false:=by
 simp only [beq_eq_false_iff_ne,ne_eq,List.cons.injEq];exact λ e=>h e.1
theorem alO [DecidableEq α] {x y:α} {a b:List α} (h:x=y):(x::a==y::b)=(a==b):=by
 subst h;rw [Bool.eq_iff_iff];simp
end Go.Proofs.YtifekdmmpbcdgaaGreatDoor
namespace Go.Proofs.YtifekdmmpbcdgaaGreatDoor.Sp
open Go.Ab
set_option maxRecDepth 100000
variable {l:List aC} {d:List bU}
theorem ajJ (h:((fq l != 0)||decide (32<(d.length:Int)))=true):rz l d=false:=by
 unfold rz;by_cases h1:fq l=0
 ·rw [h1] at h;have:32<(d.length:Int):=by simpa using h
  rw [decide_eq_false (p:=(d.length:Int)≤32) om];simp
 ·have:(fq l==0)=false:=by simpa using h1
  rw [this];rfl
theorem ahi (h:((fq l != 0)||decide (32<(d.length:Int)))=false):rz l d=!(d.any (aeO l.length)):=by
 have h1:fq l=0∧(d.length:Int)≤32:=by
  simp at h;omega
 unfold rz;rw [h1.1,decide_eq_true h1.2];rfl
variable {i:Nat}
theorem alP {b:List Bool} {j:Nat} {a:Bool} {g:Int} (hi:i<b.length) (hj:j<d.length) (hg:g=(i:Int)):(b.set i (b.getD i false||a||Zz (d.take j) i)).set i ((b.set i (b.getD i false||a||Zz (d.take j) i)).getD i false||((d.getD j eP).dW==g))=b.set i (b.getD i false||a||Zz (d.take (j+1)) i):=by
 subst hg;have hsn:Zz (d.take (j+1)) i=(Zz (d.take j) i||((d.getD j eP).dW==(i:Int))):=by
  unfold Zz;rw [jU eP hj,List.any_append];simp
 rw [iO,if_pos ⟨rfl,hi⟩,List.set_set,hsn];simp only [Bool.or_assoc]
theorem nU {x_:Int} {Gi:Int} {JF:Int}:W (oI x_ Gi JF) (λ r=>r=dO x_ Gi JF):=by
 unfold oI;refine aK ?_;rfl
variable {l_:List aC}
theorem sj (h1:l_.length≤2000000):W (nD l_) (λ r=>r=fq l_):=by
 unfold nD;refine cO ?_ ?_<;>intro c1
 ·have jf:=c1;have c1:=fA c1;refine aK ?_;(unfold fq; rw [jf]; rfl)
 ·have jf:=c1;have c1:=fA c1;refine cu (λ (g1:Int)=>0≤g1∧g1≤l_.length∧(∀j:Nat,(j:Int)<g1→aa1 (l_.getD j aH)=false)) (λ (g1:Int)=>(l_.length - g1).toNat) ?_ ?_
  ·intro ah g1 fZ dS;obtain ⟨fI,eG,dI⟩:=fZ;unfold KG;refine wi ?_ ?_<;>intro c2
   ·refine wn<|cO ?_ ?_<;>intro c3
    ·have nu:=c3;have c3:=fA c3;refine aK ?_;(unfold fq; rw [Al (p:=aa1) aH (show g1.toNat<l_.length by omega) (show aa1 _=true from nu),Bool.or_true]; rfl)
    ·have nu:=c3;have c3:=fA c3;refine wn<|dS _ ?_ ?_
     ·(refine ⟨ob,ob,fO dI fI nu⟩)
     ·exact ob
   ·have hbig:=any_none (p:=aa1) aH (λ j hj=>dI j om);have hb3:(decide (16<(l_.length:Int))||l_.any aa1)=false:=(by rw [jf,hbig]; rfl);refine cu (λ (g2:Int)=>0≤g2∧g2≤l_.length∧YA g2.toNat (l_.drop g2.toNat)=YA 0 l_) (λ (g2:Int)=>(l_.length - g2).toNat) ?_ ?_
    ·intro dR g2 Eu Aq;obtain ⟨yM,nG,mo⟩:=Eu;unfold Ir;obtain ⟨i,rfl⟩:=Int.eq_ofNat_of_zero_le yM;refine wi ?_ ?_<;>intro c4
     ·have hlt:i<l_.length:=om;have hb:=dI i om;have hbl:(l_.getD i aH).dV.length≤16:=(by unfold aa1 at hb; have:=of_decide_eq_false hb; omega);rw [show ((i:Int).toNat)=i from rfl,drop_cons aH hlt,YA] at mo;simp only [Int.toNat_natCast] at *;refine wm<|aL (nU) λ v13 Yw=>?_;subst v13;refine aL (mM λ hc=>D8 (nU)) λ v14 Qn=>?_;subst v14;refine aL (mM λ hc=>D8 (nU)) λ v15 aaV=>?_;subst v15;refine cO ?_ ?_<;>intro c5
      ·have FM:=c5;have c5:=fA c5;rw [afV] at FM;refine aK ?_;(unfold fq; rw [hb3,← mo]; unfold OO; rw [show ac0 (l_.getD i aH) i=true from FM]; rfl)
      ·have FM:=c5;have c5:=fA c5;rw [afV] at FM;refine cu (λ (g5:Int)=>0≤g5∧g5≤(l_.getD i aH).dV.length∧Xm (if g5.toNat=0 then 0 else (l_.getD i aH).dV.getD (g5.toNat - 1) 0) ((l_.getD i aH).dV.drop g5.toNat)=Xm 0 (l_.getD i aH).dV) (λ (g5:Int)=>((l_.getD i aH).dV.length - g5).toNat) ?_ ?_
       ·intro jP g5 aa7 aa8;obtain ⟨Xr,Ob,Oc⟩:=aa7;unfold Iq;obtain ⟨k,rfl⟩:=Int.eq_ofNat_of_zero_le Xr;simp only [Int.toNat_natCast] at *;refine wi ?_ ?_<;>intro c6
        ·have hlk:k<(l_.getD i aH).dV.length:=om;have hst:=ajz hlk rfl;rw [hst] at Oc;have e1:(((k:Int) - 1).toNat)=k - 1:=om;simp only [e1,Int.toNat_natCast] at *;refine wn<|aL (nU) λ v18 ajK=>?_;subst v18;refine wm<|cO ?_ ?_<;>intro c7
         ·have Ue:=c7;have c7:=fA c7;refine aK ?_;(unfold fq; rw [hb3,← mo]; unfold OO; rw [show ac0 (l_.getD i aH) i=false from FM,← Oc,Ue]; rfl)
         ·have Ue:=c7;have c7:=fA c7;refine wn<|aa8 _ ?_ ?_
          ·(refine ⟨ob,ob,?_⟩; rw [← Oc,Ue]; rw [show ((k:Int)+1).toNat=k+1 by omega,if_neg om]; rfl)
          ·exact ob
        ·refine wn<|Aq _ ?_ ?_
         ·(refine ⟨ob,ob,?_⟩; rw [← mo]; unfold OO; rw [show ac0 (l_.getD i aH) i=false from FM,← Oc,show k=(l_.getD i aH).dV.length by omega,List.drop_length,show ((i:Int)+1).toNat=i+1 by omega]; rfl)
         ·exact ob
       ·(refine ⟨ob,ob,rfl⟩)
     ·refine aK ?_;(unfold fq; rw [hb3,← mo,show ((i:Int).toNat)=i from rfl,show i=l_.length by omega,List.drop_length]; rfl)
    ·(refine ⟨ob,ob,rfl⟩)
  ·(refine ⟨ob,ob,λ j hj=>by omega⟩)
variable {d_:List bU}
theorem Ev (h1:l_.length≤2000000) (h2:d_.length≤2000000):W (uD l_ d_) (λ r=>r=rz l_ d_):=by
 unfold uD;refine aL (sj ob) λ v1 hv1=>?_;subst v1;refine cO ?_ ?_<;>intro c1
 ·have jf:=c1;have c1:=fA c1;exact aK ((ajJ jf).symm)
 ·have jf:=c1;have c1:=fA c1;have hdf:=ahi jf;refine cu (λ (g1:Int)=>0≤g1∧g1≤d_.length∧(d_.drop g1.toNat).any (aeO l_.length)=d_.any (aeO l_.length)) (λ (g1:Int)=>(d_.length - g1).toNat) ?_ ?_
  ·intro ah g1 fZ dS;obtain ⟨fI,eG,dI⟩:=fZ;unfold KT;refine wi ?_ ?_<;>intro c2
   ·have hlt:g1.toNat<d_.length:=om;rw [drop_cons eP hlt,List.any_cons] at dI;refine wm<|aL (nU) λ v8 vZ=>?_;subst v8;refine aL (mM λ hc=>D8 (nU)) λ v9 QB=>?_;subst v9;refine aL (mM λ hc=>D8 (nU)) λ v10 Ar=>?_;subst v10;refine cO ?_ ?_<;>intro c3
    ·have nu:=c3;have c3:=fA c3;have hb:=(ac1 l_.length (d_.getD g1.toNat eP)).symm.trans nu;refine aK ?_;(rw [hdf,← dI,hb]; rfl)
    ·have nu:=c3;have c3:=fA c3;have hb:=(ac1 l_.length (d_.getD g1.toNat eP)).symm.trans nu;refine wn<|dS _ ?_ ?_
     ·(refine ⟨ob,ob,?_⟩; rw [← dI,hb,show (g1+1).toNat=g1.toNat+1 by omega]; rfl)
     ·exact ob
   ·refine aK ?_;(rw [hdf,← dI,show g1.toNat=d_.length by omega,List.drop_length]; rfl)
  ·(refine ⟨ob,ob,rfl⟩)
theorem YC (h1:l_.length≤2000000) (h2:d_.length≤2000000):W (Dj l_ d_) (λ r=>r=zk l_ d_):=by
 unfold Dj;refine aL (sj ob) λ v1 hv1=>?_;subst v1;refine cO ?_ ?_<;>intro c1
 ·have jf:=c1;have c1:=fA c1;refine aK ?_;(unfold zk; rw [jf]; rfl)
 ·have jf:=c1;have c1:=fA c1;refine aL (Ev ob ob) λ v2 hv2=>?_;subst v2;refine cO ?_ ?_<;>intro c2
  ·have oN:=c2;have c2:=fA c2;refine aK ?_;(unfold zk; rw [jf,oN]; rfl)
  ·have oN:=c2;have c2:=fA c2;refine aK ?_;(unfold zk; rw [jf,oN]; rfl)
theorem QC (h1:Vld l_ d_):W (Bq l_ d_) (λ r=>r=kV l_ d_):=by
 have hv:=h1;obtain ⟨vl,vd,vs,_,vx⟩:=h1;unfold Bq;refine wm<|cu (λ (g1:Int×List Bool) => -1≤g1.1∧g1.1<l_.length∧N9 l_ d_ (l_.length - 1 - g1.1).toNat g1.2) (λ (g1:Int×List Bool)=>(g1.1+1).toNat) ?_ ?_
 ·intro ah g1 fZ dS;obtain ⟨fI,eG,dI⟩:=fZ;unfold NM;have hbl:=dI.len;refine wi ?_ ?_<;>intro c1
  ·have hst:=dI.step hv (show (l_.length - 1 - g1.1).toNat<l_.length by omega);have hp:=vs g1.1.toNat om;rw [show l_.length - 1 - ((l_.length:Int) - 1 - g1.1).toNat=g1.1.toNat by omega,show ((l_.length:Int) - 1 - g1.1).toNat+1=((l_.length:Int) - 1 - (g1.1 - 1)).toNat by omega] at hst;refine wm<|wn ?_;refine cu (λ (g4:Int×List Bool)=>0≤g4.1∧g4.1≤d_.length∧g4.2=g1.2.set g1.1.toNat (g1.2.getD g1.1.toNat false||(l_.getD g1.1.toNat aH).gY||Zz (d_.take g4.1.toNat) g1.1.toNat)) (λ (g4:Int×List Bool)=>(d_.length - g4.1).toNat) ?_ ?_
   ·intro kE g4 Xt UL;obtain ⟨Uf,yN,QD⟩:=Xt;unfold NK;have ath:g4.2.length=l_.length:=(by rw [QD,List.length_set,hbl]);refine wi ?_ ?_<;>intro c2
    ·refine wm<|wm ?_;refine UL _ ?_ ?_
     ·(refine ⟨ob,ob,?_⟩; dsimp only; rw [show (g4.1+1).toNat=g4.1.toNat+1 by omega,QD]; exact alP om om om)
     ·exact ob
    ·have adb:g4.2=g1.2.set g1.1.toNat (g1.2.getD g1.1.toNat false||(l_.getD g1.1.toNat aH).gY||Zz d_ g1.1.toNat):=(by rw [QD,show g4.1.toNat=d_.length by omega,List.take_length]);have hgi:g4.2.getD g1.1.toNat false=(g1.2.getD g1.1.toNat false||(l_.getD g1.1.toNat aH).gY||Zz d_ g1.1.toNat):=(by rw [adb,iO,if_pos ⟨rfl,om⟩]);refine wm<|cO ?_ ?_<;>intro c3
     ·have nu:=c3;have c3:=fA c3;have c3b:=nu;rw [hgi] at c3b;refine wm<|dS _ ?_ ?_
      ·(refine ⟨ob,ob,?_⟩; dsimp only; unfold Qz at hst; rw [c3b] at hst; rw [adb]; exact hst)
      ·exact ob
     ·have nu:=c3;have c3:=fA c3;have c3b:=nu;rw [hgi] at c3b;refine wn<|dS _ ?_ ?_
      ·(refine ⟨ob,ob,?_⟩; dsimp only; unfold Qz at hst; rw [c3b] at hst; rw [adb]; exact hst)
      ·exact ob
   ·(refine ⟨ob,ob,?_⟩; dsimp only; rw [show (0:Int).toNat=0 from rfl,List.take_zero,show Zz [] g1.1.toNat=false from rfl,Bool.or_false])
  ·exact aK (N9.done (by rw [show l_.length=((l_.length:Int) - 1 - g1.1).toNat by omega]; exact dI))
 ·(refine ⟨ob,ob,?_⟩; dsimp only; rw [show ((l_.length:Int) - 1 - (l_.length - 1)).toNat=0 by omega]; exact N9.start hv)
theorem YD {s_:aC} {v_:Int} (h1:s_.dV.length≤2000000):W (Dk s_ v_) (λ r=>r=(bif decide (lvN s_.dV v_<s_.dV.length) then (lvN s_.dV v_:Int) else -1)):=by
 unfold Dk;refine cu (λ (g1:Int)=>0≤g1∧g1≤s_.dV.length∧(∀j:Nat,(j:Int)<g1→s_.dV.getD j 0<v_)) (λ (g1:Int)=>(s_.dV.length - g1).toNat) ?_ ?_
 ·intro ah g1 fZ dS;obtain ⟨fI,eG,dI⟩:=fZ;unfold KU;refine wi ?_ ?_<;>intro c1
  ·refine wn<|wi ?_ ?_<;>intro c2
   ·refine aK ?_;(rw [← ajF (k:=g1.toNat) om (λ j hj=>dI j om) (λ _=>c2),decide_eq_true om]; simp only [cond_true]; omega)
   ·refine wn<|dS _ ?_ ?_
    ·(refine ⟨ob,ob,fO dI fI c2⟩)
    ·exact ob
  ·refine aK ?_;(rw [← ajF (k:=g1.toNat) om (λ j hj=>dI j om) (λ h=>by omega),decide_eq_false om]; rfl)
 ·(refine ⟨ob,ob,λ j hj=>by omega⟩)
theorem xQ {r_:aW} {k_:Int} (h1:0≤k_) (h2:k_<l_.length) (h3:Rok l_ r_):W (qh l_ r_ k_) (λ r=>r=BH l_ r_ k_.toNat):=by
 obtain ⟨r1,r2,r3⟩:=h3;have r4:=r3 k_.toNat om;unfold qh;refine wm<|wn ?_;refine aK ?_;rfl
variable {r:aW} {u:List Bool} {ld:List Int}
theorem ati (h:(u.getD i false&&!r.On.getD i false)=true):YB l r u ld i=true:=by
 simp only [Bool.and_eq_true] at h;unfold YB;rw [h.1,h.2]; rfl
theorem atj (h:(u.getD i false&&!r.On.getD i false)=false) (h2:(!r.On.getD i false)=true):YB l r u ld i=false:=by
 rw [h2,Bool.and_true] at h;unfold YB;rw [h2,h]; rfl
theorem aqh (h2:(!r.On.getD i false)=false):YB l r u ld i=(decide ((l.getD i aH).jk<ld.getD i 0)||(decide (0≤(l.getD i aH).bG)&&(!r.On.getD (l.getD i aH).bG.toNat false||decide (BH l r (l.getD i aH).bG.toNat<BH l r i+(l.getD i aH).iZ)))):=by
 unfold YB;rw [h2,Bool.or_comm]; rfl
theorem ade (hi:i<l.length) (h:YB l r (kV l d) (Ht l d) i=true):Lv l r d=false:=by
 unfold Lv;rw [UJ hi (by rw [h]; rfl)];rfl
theorem adf (h:∀i,i<l.length→YB l r (kV l d) (Ht l d) i=false):Lv l r d=!(d.any (ahc l r)):=by
 unfold Lv;rw [Xo λ j hj=>(by rw [h j hj]; rfl)];rfl
variable {s:DS}
theorem ahj (h:(!u.getD i false)=true):Uc l u i s=false:=by
 unfold Uc;rw [show u.getD i false=false by simpa using h];rfl
theorem ajL {a n:Nat} (h:decide ((bif decide (a<n) then (a:Int) else -1)<0)=true):decide (a<n)=false:=by
 cases hd:decide (a<n) with
 | false=>rfl
 | true=>rw [hd] at h; have:=of_decide_eq_true h; simp only [cond_true] at this; omega
theorem ajM {a n:Nat} (h:decide ((bif decide (a<n) then (a:Int) else -1)<0)=false):decide (a<n)=true:=by
 cases hd:decide (a<n) with
 | true=>rfl
 | false=>rw [hd] at h; cases h
theorem aeT (h0:(zk l d != 0)=false) (e:(s,(i:Int))=aa4 l d):(Gz,9)=tO l d:=by
 unfold tO;rw [h0,← e,decide_eq_true (show (0:Int)≤(s,(i:Int)).2 by dsimp only; omega)];rfl
theorem ZB (h0:(zk l d != 0)=false) (hdr:rz l d=true) (e:(s,(-1:Int))=aa4 l d) (hr:Rok l ⟨kV l d,s.lv⟩):tO l d=bif !Lv l ⟨kV l d,s.lv⟩ d then (Gz,9) else (⟨kV l d,s.lv⟩,0):=by
 unfold tO;have hmf:iN l ⟨kV l d,s.lv⟩ d=Lv l ⟨kV l d,s.lv⟩ d:=by
  unfold iN;rw [Sg.2 ⟨ac6 hdr,hr⟩,hdr];rfl
 rw [h0,← e];simp only [show decide ((0:Int) ≤ -1)=false from rfl,Bool.false_or,hmf,cond_false]
theorem ajN (hu:u.getD i false=true) (hi:i<s.lv.length):BH l ⟨u,(LA l u i s).lv⟩ i+(l.getD i aH).iZ=Ep l i s:=by
 unfold BH Ep LA;rw [hu];simp only [Bool.not_true,cond_false];rw [iO,if_pos ⟨rfl,hi⟩];rfl
theorem ajO (hu:u.getD i false=true) (hp:decide (0≤(l.getD i aH).bG)=true):(Er s.a).set (l.getD i aH).bG.toNat (if Ep l i s > (Er s.a).getD (l.getD i aH).bG.toNat 0 then Ep l i s else (Er s.a).getD (l.getD i aH).bG.toNat 0)=Er (LA l u i s).a:=by
 unfold LA;rw [hu,hp,LB];simp only [Bool.not_true,cond_false,Bool.true_and];by_cases h:(s.a.getD (l.getD i aH).bG.toNat Yz).Qv<Ep l i s
 ·rw [decide_eq_true h,cond_true,ac7,if_pos h]
 ·rw [decide_eq_false h,cond_false,if_neg h,ac9 _ _ _ (LB _ _).symm]
theorem ahk (hp:decide (0≤(l.getD i aH).bG)=false):Er s.a=Er (LA l u i s).a:=by
 unfold LA;rw [hp];cases u.getD i false<;>rfl
theorem ajP (h:(!u.getD i false)=true):LA l u i s=s:=by
 unfold LA;rw [h];rfl
theorem YE (h1:Vld l_ d_):W (Dl l_ d_) (λ r=>r=Ht l_ d_):=by
 have hv:=h1;obtain ⟨vl,vd,vs,_,vx⟩:=h1;unfold Dl;refine wm<|cu (λ (g1:Int×List Int) => -1≤g1.1∧g1.1<l_.length∧Ji l_ d_ (l_.length - 1 - g1.1).toNat g1.2) (λ (g1:Int×List Int)=>(g1.1+1).toNat) ?_ ?_
 ·intro ah g1 fZ dS;obtain ⟨fI,eG,dI⟩:=fZ;unfold KW;have hbl:=dI.len;have hsm:=dI.small hv om;refine wi ?_ ?_<;>intro c1
  ·have hst:=dI.step hv (show (l_.length - 1 - g1.1).toNat<l_.length by omega);have hp:=vs g1.1.toNat om;rw [show l_.length - 1 - ((l_.length:Int) - 1 - g1.1).toNat=g1.1.toNat by omega,show ((l_.length:Int) - 1 - g1.1).toNat+1=((l_.length:Int) - 1 - (g1.1 - 1)).toNat by omega] at hst;refine cu (λ (g4:Int×List Int)=>0≤g4.1∧g4.1≤d_.length∧g4.2=g1.2.set g1.1.toNat (g1.2.getD g1.1.toNat 0+Lx (d_.take g4.1.toNat) g1.1.toNat)) (λ (g4:Int×List Int)=>(d_.length - g4.1).toNat) ?_ ?_
   ·intro kE g4 Xt UL;obtain ⟨Uf,yN,QD⟩:=Xt;unfold KV;have ath:g4.2.length=l_.length:=(by rw [QD,List.length_set,hbl]);refine wi ?_ ?_<;>intro c2
    ·have hx:=vx _ (jO eP (show g4.1.toNat<d_.length by omega));have hdb:=QA (d:=d_) (λ x hx=>by have:=vx x hx; omega) g1.1.toNat g4.1.toNat om;have hbi:=hsm g1.1.toNat;have hgi:g4.2.getD g1.1.toNat 0=g1.2.getD g1.1.toNat 0+Lx (d_.take g4.1.toNat) g1.1.toNat:=(by rw [QD,iO,if_pos ⟨rfl,om⟩]);refine wn<|cO ?_ ?_<;>intro c3
     ·have nu:=c3;have c3:=fA c3;refine wm<|wm ?_;refine UL _ ?_ ?_
      ·(refine ⟨ob,ob,?_⟩; dsimp only; rw [show (g4.1+1).toNat=g4.1.toNat+1 by omega,hgi,QD,List.set_set,Si om,show ((g1.1.toNat:Int))=g1.1 by omega,nu]; simp only [cond_true]; rw [Int.add_assoc])
      ·exact ob
     ·have nu:=c3;have c3:=fA c3;refine wn<|UL _ ?_ ?_
      ·(refine ⟨ob,ob,?_⟩; dsimp only; rw [show (g4.1+1).toNat=g4.1.toNat+1 by omega,QD,Si om,show ((g1.1.toNat:Int))=g1.1 by omega,nu]; rfl)
      ·exact ob
    ·have hdb:=QA (d:=d_) (λ x hx=>by have:=vx x hx; omega) g1.1.toNat d_.length (Nat.le_refl _);rw [List.take_length] at hdb;have adb:g4.2=g1.2.set g1.1.toNat (g1.2.getD g1.1.toNat 0+Lx d_ g1.1.toNat):=(by rw [QD,show g4.1.toNat=d_.length by omega,List.take_length]);have hgi:g4.2.getD g1.1.toNat 0=g1.2.getD g1.1.toNat 0+Lx d_ g1.1.toNat:=(by rw [adb,iO,if_pos ⟨rfl,om⟩]);have hbi:=hsm g1.1.toNat;refine wn<|cO ?_ ?_<;>intro c4
     ·have wL:=c4;have c4:=fA c4;have hgp:g4.2.getD (l_.getD g1.1.toNat aH).bG.toNat 0=g1.2.getD (l_.getD g1.1.toNat aH).bG.toNat 0:=(by rw [adb,iO,if_neg om]);have hbp:=hsm (l_.getD g1.1.toNat aH).bG.toNat;refine wm<|wm ?_;refine wn<|dS _ ?_ ?_
      ·(refine ⟨ob,ob,?_⟩; dsimp only; unfold ML at hst; rw [wL] at hst; rw [hgi,hgp,adb]; exact hst)
      ·exact ob
     ·have wL:=c4;have c4:=fA c4;refine wn<|dS _ ?_ ?_
      ·(refine ⟨ob,ob,?_⟩; dsimp only; unfold ML at hst; rw [wL] at hst; rw [adb]; exact hst)
      ·exact ob
   ·(refine ⟨ob,ob,?_⟩; dsimp only; rw [show (0:Int).toNat=0 from rfl,List.take_zero,show Lx [] g1.1.toNat=0 from rfl,Int.add_zero,set_self])
  ·exact aK (Ji.done (by rw [show l_.length=((l_.length:Int) - 1 - g1.1).toNat by omega]; exact dI))
 ·(refine ⟨ob,ob,?_⟩; dsimp only; rw [show ((l_.length:Int) - 1 - (l_.length - 1)).toNat=0 by omega]; exact Ji.start hv)
theorem Od {r_:aW} (h1:Vld l_ d_) (h2:Rok l_ r_):W (yG l_ r_ d_) (λ r=>r=Lv l_ r_ d_):=by
 have hv:=h1;have hr:=h2;have hvb:=λ i hi=>ac5 hv hr i hi;have hul:=Sd l_ d_;have hll:=Xn l_ d_;obtain ⟨vl,vd,vs,_,vx⟩:=h1;obtain ⟨r1,r2,r3⟩:=h2;unfold yG;refine aL (QC ob) λ v1 hv1=>?_;subst v1;refine aL (YE ob) λ v2 hv2=>?_;subst v2;refine cu (λ (g1:Int)=>0≤g1∧g1≤l_.length∧(∀j:Nat,(j:Int)<g1→YB l_ r_ (kV l_ d_) (Ht l_ d_) j=false)) (λ (g1:Int)=>(l_.length - g1).toNat) ?_ ?_
 ·intro ah g1 fZ dS;obtain ⟨fI,eG,dI⟩:=fZ;unfold KX;refine wi ?_ ?_<;>intro c1
  ·have hp:=vs g1.toNat om;have hv1:=hvb g1.toNat om;have hv2:=hvb (l_.getD g1.toNat aH).bG.toNat;refine wm<|wn ?_;refine cO ?_ ?_<;>intro c2
   ·have oN:=c2;have c2:=fA c2;exact aK ((ade (i:=g1.toNat) om (ati oN)).symm)
   ·have oN:=c2;have c2:=fA c2;refine wn<|cO ?_ ?_<;>intro c3
    ·have nu:=c3;have c3:=fA c3;refine wn<|dS _ ?_ ?_
     ·(refine ⟨ob,ob,fO dI fI (atj oN nu)⟩)
     ·exact ob
    ·have nu:=c3;have c3:=fA c3;refine wn<|bK (by (intro _ q; have:=of_decide_eq_true q; omega)) ?_;refine aL (mM λ hc hc2 hc3=>D8 (xQ (of_decide_eq_true hc2) (by have:=of_decide_eq_true hc2; omega) hr)) λ v7 hv7=>?_;subst v7;refine aL (mM λ hc hc2 hc3=>D8 (xQ om om hr)) λ v8 vZ=>?_;subst v8;refine bK (by (intro _ q; have:=of_decide_eq_true q; have:=hv2 om; unfold aJ; omega)) ?_;refine cO ?_ ?_<;>intro c4
     ·have wL:=c4;have c4:=fA c4;exact aK ((ade (i:=g1.toNat) om ((aqh nu).trans wL)).symm)
     ·have wL:=c4;have c4:=fA c4;refine wn<|dS _ ?_ ?_
      ·(refine ⟨ob,ob,fO dI fI ((aqh nu).trans wL)⟩)
      ·exact ob
  ·refine cu (λ (g2:Int)=>0≤g2∧g2≤d_.length∧(d_.drop g2.toNat).any (ahc l_ r_)=d_.any (ahc l_ r_)) (λ (g2:Int)=>(d_.length - g2).toNat) ?_ ?_
   ·intro dR g2 Eu Aq;obtain ⟨yM,nG,mo⟩:=Eu;unfold IJ;refine wi ?_ ?_<;>intro c5
    ·have hlt:g2.toNat<d_.length:=om;have hx:=vx _ (jO eP hlt);rw [drop_cons eP hlt,List.any_cons] at mo;refine wn<|aL (xQ hx.1 hx.2.1 hr) λ v13 Yw=>?_;subst v13;refine aL (nU) λ v14 Qn=>?_;subst v14;refine cO ?_ ?_<;>intro c6
     ·have QE:=c6;have c6:=fA c6;refine aK ?_;(rw [adf (λ j hj=>dI j om),← mo,show ahc l_ r_ (d_.getD g2.toNat eP)=true from QE]; rfl)
     ·have QE:=c6;have c6:=fA c6;refine wn<|Aq _ ?_ ?_
      ·(refine ⟨ob,ob,?_⟩; rw [← mo,show ahc l_ r_ (d_.getD g2.toNat eP)=false from QE,show (g2+1).toNat=g2.toNat+1 by omega]; rfl)
      ·exact ob
    ·refine aK ?_;(rw [adf (λ j hj=>dI j om),← mo,show g2.toNat=d_.length by omega,List.drop_length]; rfl)
   ·(refine ⟨ob,ob,rfl⟩)
 ·(refine ⟨ob,ob,λ j hj=>by omega⟩)
theorem Oe (h1:l_.length≤2000000) (h2:d_.length≤2000000):W (yH l_ d_) (λ r=>r=tO l_ d_):=by
 unfold yH;refine aL (YC ob ob) λ v1 hv1=>?_;subst v1;refine cO ?_ ?_<;>intro c1
 ·have jf:=c1;have c1:=fA c1;refine aK ?_;(unfold tO; rw [jf]; rfl)
 ·have jf:=c1;have c1:=fA c1;have hdr:=ajD (show zk l_ d_=0 by simpa using jf);have hv:=ajB hdr;obtain ⟨vl,vd,vs,vlv,vx⟩:=id hv;have hul:=Sd l_ d_;refine aL (QC hv) λ v2 hv2=>?_;subst v2;refine wm<|cu (λ (g1:Int×List Int×List Int)=>0≤g1.1∧g1.1≤d_.length∧g1.2.1=Er (BI l_.length d_ g1.1.toNat)∧g1.2.2=List.replicate l_.length 0) (λ (g1:Int×List Int×List Int)=>(d_.length - g1.1).toNat) ?_ ?_
  ·intro ah g1 fZ dS;obtain ⟨fI,eG,dI,jF⟩:=fZ;unfold KY;have hgl:g1.2.1.length=l_.length:=(by rw [dI,ac8,ZA]);refine wi ?_ ?_<;>intro c2
   ·have hx:=vx _ (jO eP (show g1.1.toNat<d_.length by omega));refine wm<|wm ?_;refine dS _ ?_ ?_
    ·(refine ⟨ob,ob,?_,jF⟩; dsimp only; rw [show (g1.1+1).toNat=g1.1.toNat+1 by omega,aeQ,dI])
    ·exact ob
   ·refine wn<|cu (λ (g2:Int×List Int×List Int) => -1≤g2.1∧g2.1<l_.length∧∃s:DS,g2.2.1=Er s.a∧g2.2.2=s.lv∧DOk l_ s∧alL l_ s∧ajG l_ (kV l_ d_) (g2.1+1).toNat s=aa4 l_ d_) (λ (g2:Int×List Int×List Int)=>(g2.1+1).toNat) ?_ ?_
    ·intro dR g2 Eu Aq;obtain ⟨yM,nG,mo⟩:=Eu;unfold IK;obtain ⟨s,e1,e2,e3,e4,e5⟩:=mo;have hal:g2.2.1.length=l_.length:=(by rw [e1,ac8,e3.al]);have hll:g2.2.2.length=l_.length:=(by rw [e2,e3.ll]);refine wi ?_ ?_<;>intro c3
     ·have hp:=vs g2.1.toNat om;rw [show (g2.1+1).toNat=g2.1.toNat+1 by omega,ajG] at e5;refine wn<|cO ?_ ?_<;>intro c4
      ·have wL:=c4;have c4:=fA c4;refine wn<|Aq _ ?_ ?_
       ·(refine ⟨ob,ob,s,e1,e2,e3,e4,?_⟩; dsimp only; rw [show (g2.1 - 1+1).toNat=g2.1.toNat by omega]; rw [ahj wL,ajP wL] at e5; exact e5)
       ·exact ob
      ·have wL:=c4;have c4:=fA c4;have hu:(kV l_ d_).getD g2.1.toNat false=true:=(by simpa using wL);refine wm<|aL (YD ob) λ v11 aoz=>?_;subst v11;rw [e1,LB,show lvN (l_.getD g2.1.toNat aH).dV (s.a.getD g2.1.toNat Yz).Qv=M0 l_ g2.1.toNat s from rfl];have hgs:(g2.2.2.set g2.1.toNat (bif decide (M0 l_ g2.1.toNat s<(l_.getD g2.1.toNat aH).dV.length) then (M0 l_ g2.1.toNat s:Int) else -1)).getD g2.1.toNat 0=(bif decide (M0 l_ g2.1.toNat s<(l_.getD g2.1.toNat aH).dV.length) then (M0 l_ g2.1.toNat s:Int) else -1):=(by rw [iO,if_pos ⟨rfl,om⟩]);refine wn ?_;unfold zh;refine wn<|cO ?_ ?_<;>intro c5
       ·have FM:=c5;have c5:=fA c5;rw [hgs] at FM;have h5:=ajL FM;have h6:decide ((M0 l_ g2.1.toNat s:Int)<(l_.getD g2.1.toNat aH).dV.length)=false:=(by simpa using h5);exact aK (aeT jf (by unfold Uc at e5; rw [hu,h6] at e5; exact e5))
       ·have FM:=c5;have c5:=fA c5;rw [hgs] at FM;have h5:=ajM FM;have h6:decide ((M0 l_ g2.1.toNat s:Int)<(l_.getD g2.1.toNat aH).dV.length)=true:=(by simpa using h5);have hf:Uc l_ (kV l_ d_) g2.1.toNat s=false:=(by unfold Uc; rw [hu,h6]; rfl);rw [hf] at e5;have hlo:=alK (u:=kV l_ d_) (i:=g2.1.toNat) e3;have hlv:=alM hf e4;have hR:=ajI hul hlo hlv;have hs:(LA l_ (kV l_ d_) g2.1.toNat s).lv=s.lv.set g2.1.toNat (M0 l_ g2.1.toNat s:Int):=(by unfold LA; rw [hu]; rfl);have hvo:=ajN (l:=l_) (u:=kV l_ d_) hu (show g2.1.toNat<s.lv.length by rw [e3.ll]; omega);have hvb:=ac5 hv hR g2.1.toNat om;rw [h5]; simp only [cond_true]; rw [e2,← hs];refine wn<|cO ?_ ?_<;>intro c6
        ·have QE:=c6;have c6:=fA c6;refine wn<|aL (xQ om om hR) λ v10 Ar=>?_;subst v10;refine wn<|bK (by (unfold aJ; omega)) ?_;refine wm<|Aq _ ?_ ?_
         ·(refine ⟨ob,ob,LA l_ (kV l_ d_) g2.1.toNat s,?_,rfl,hlo,hlv,?_⟩; (dsimp only; rw [hvo,e1]; exact ajO hu QE); (dsimp only; rw [show (g2.1 - 1+1).toNat=g2.1.toNat by omega]; exact e5))
         ·exact ob
        ·have QE:=c6;have c6:=fA c6;refine wn<|Aq _ ?_ ?_
         ·(refine ⟨ob,ob,LA l_ (kV l_ d_) g2.1.toNat s,?_,rfl,hlo,hlv,?_⟩; (dsimp only; rw [e1]; exact ahk QE); (dsimp only; rw [show (g2.1 - 1+1).toNat=g2.1.toNat by omega]; exact e5))
         ·exact ob
     ·rw [show (g2.1+1).toNat=0 by omega,ajG] at e5;have hrk:Rok l_ ⟨kV l_ d_,g2.2.2⟩:=(by rw [e2]; exact ajI hul e3 e4);refine aL (Od hv hrk) λ v12 alC=>?_;subst v12;refine cO ?_ ?_<;>intro c7
      ·have Ue:=c7;have c7:=fA c7;refine aK ?_;(rw [ZB jf hdr e5 (by rw [← e2]; exact hrk),← e2,Ue]; rfl)
      ·have Ue:=c7;have c7:=fA c7;refine aK ?_;(rw [ZB jf hdr e5 (by rw [← e2]; exact hrk),← e2,Ue]; rfl)
    ·(refine ⟨ob,ob,ds0 l_ d_,?_,jF,aot _ _,?_,?_⟩; (dsimp only; rw [dI,show g1.1.toNat=d_.length by omega]; rfl); (intro j hj; show 0≤(List.replicate l_.length (0:Int)).getD j 0∧(List.replicate l_.length (0:Int)).getD j 0<_; rw [r9]; have:=vs j hj; omega); (dsimp only; rw [show ((l_.length:Int) - 1+1).toNat=l_.length by omega]; rfl))
  ·(refine ⟨ob,ob,?_,rfl⟩; show _=Er (List.replicate l_.length (⟨0,-1,-1⟩:Dem)); unfold Er; rw [List.map_replicate]; rfl)
end Go.Proofs.YtifekdmmpbcdgaaGreatDoor.Sp
namespace Go.Proofs.YtifekdmmpbcdgaaGreatDoor
open Go.Ab
set_option maxRecDepth 100000
theorem adg (n lo hi:Int) (b:Bool):(((decide (n<lo))||(decide (hi<n)))||b)=(!(dO n lo hi)||b):=by
 unfold dO;congr 1;by_cases h1:n<lo<;>by_cases h2:hi<n<;>simp [h1,h2]<;>omega
theorem ahl {l:List Int} {x y:Int} (h:l.contains x=false) (hy:¬ y=x):(l++[y]).contains x=false:=by
 rw [List.contains_eq_any_beq] at h ⊢;rw [List.any_append,h];simpa using λ e=>hy e.symm
theorem aeU (n:Nat):decide ((1:Int)≤(n:Int))=decide ((0:Int)<(n:Int)):=by
 rw [decide_eq_decide]; omega
theorem atm {c:ay}:((decide ((1:Int)≤(c.bJ.length:Int))&&decide ((0:Int)<(c.aR.length:Int)))&&(zO 0 ((c.bJ.length:Int) - 1) [] c.aR))=(decide (0<(c.aR.length:Int))&&zO 0 ((c.bJ.length:Int) - 1) [] c.aR):=by
 by_cases h:1≤(c.bJ.length:Int)
 ·rw [decide_eq_true h,Bool.true_and]
 ·rw [decide_eq_false h,Bool.false_and,Bool.false_and];symm;rw [Bool.and_eq_false_iff];by_cases h2:0<(c.aR.length:Int)
  ·right;cases hd:zO 0 ((c.bJ.length:Int) - 1) [] c.aR with
   | false=>rfl
   | true=>have:=alD _ _ hd om; omega
  ·left; exact decide_eq_false h2
theorem ahm {l_:List Int} {x_:Int} (h1:l_.length≤2000000):W (VB l_ x_) (λ r=>r=l_.contains x_):=by
 unfold VB;refine cu (λ (g1:Int)=>0≤g1∧g1≤l_.length∧(l_.take g1.toNat).contains x_=false) (λ (g1:Int)=>(l_.length - g1).toNat) ?_ ?_
 ·intro ah g1 fZ dS;obtain ⟨fI,eG,dI⟩:=fZ;unfold WZ;refine wi ?_ ?_<;>intro c1
  ·refine wn<|wi ?_ ?_<;>intro c2
   ·exact aK ((List.elem_eq_true_of_mem (by rw [← c2]; exact getD_in 0 om)).symm)
   ·refine wn<|dS _ ?_ ?_
    ·(refine ⟨ob,ob,?_⟩; rw [show (g1+1).toNat=g1.toNat+1 by omega,jU 0 om]; exact ahl dI c2)
    ·exact ob
  ·refine aK ?_;(rw [show g1.toNat=l_.length by omega,List.take_length] at dI; exact dI.symm)
 ·(refine ⟨ob,ob,rfl⟩)
theorem Ug {a_:List Int} {b_:List Int} (h1:a_.length≤2000000):W (AO a_ b_) (λ r=>r=(a_==b_)):=by
 unfold AO;refine wi ?_ ?_<;>intro c1
 ·exact aK ((aa6 c1).symm)
 ·refine cu (λ (g1:Int)=>0≤g1∧g1≤a_.length∧(a_==b_)=(a_.drop g1.toNat==b_.drop g1.toNat)) (λ (g1:Int)=>(a_.length - g1).toNat) ?_ ?_
  ·intro ah g1 fZ dS;obtain ⟨fI,eG,dI⟩:=fZ;unfold Qc;refine wi ?_ ?_<;>intro c2
   ·rw [drop_cons 0 (show g1.toNat<a_.length by omega),drop_cons 0 (show g1.toNat<b_.length by omega)] at dI;refine wm<|wi ?_ ?_<;>intro c3
    ·refine aK ?_;(rw [dI,alN c3])
    ·refine wn<|dS _ ?_ ?_
     ·(refine ⟨ob,ob,?_⟩; rw [dI,alO c3,show (g1+1).toNat=g1.toNat+1 by omega])
     ·exact ob
   ·refine aK ?_;(rw [dI,List.drop_eq_nil_of_le om,List.drop_eq_nil_of_le om]; rfl)
  ·(refine ⟨ob,ob,rfl⟩)
theorem vP {l_:List Int} {Gi:Int} {JF:Int} (h1:l_.length≤2000000):W (kK l_ Gi JF) (λ r=>r=zO Gi JF [] l_):=by
 unfold kK;refine cu (λ (g1:Int)=>0≤g1∧g1≤l_.length∧zO Gi JF (l_.take g1.toNat) (l_.drop g1.toNat)=zO Gi JF [] l_) (λ (g1:Int)=>(l_.length - g1).toNat) ?_ ?_
 ·intro ah g1 fZ dS;obtain ⟨fI,eG,dI⟩:=fZ;unfold Bo;refine wi ?_ ?_<;>intro c1
  ·rw [drop_cons 0 (show g1.toNat<l_.length by omega)] at dI;refine wm<|aL (mM λ hc=>D8 (ahm ob)) λ v3 hv3=>?_;subst v3;refine cO ?_ ?_<;>intro c2
   ·have oN:=c2;have c2:=fA c2;rw [adg] at oN;refine aK ?_;(rw [← dI,aaW (pre:=l_.take g1.toNat) (n:=l_.getD g1.toNat 0) oN])
   ·have oN:=c2;have c2:=fA c2;rw [adg] at oN;refine wn<|dS _ ?_ ?_
    ·(refine ⟨ob,ob,?_⟩; rw [← dI,afS (pre:=l_.take g1.toNat) (n:=l_.getD g1.toNat 0) oN,show (g1+1).toNat=g1.toNat+1 by omega,jU 0 om])
    ·exact ob
  ·refine aK ?_;(rw [← dI,List.drop_eq_nil_of_le om]; rfl)
 ·(refine ⟨ob,ob,rfl⟩)
theorem UM {c_:ay} (h1:c_.bJ.length≤2000000) (h2:c_.aR.length≤2000000):W (xO c_) (λ r=>r=kM c_):=by
 unfold xO;refine cO ?_ ?_<;>intro c1
 ·have jf:=c1;have c1:=fA c1;refine bK (by (intro hc; simp only [Bool.and_eq_true,beq_iff_eq] at hc; omega)) ?_;refine bK (by (intro hc; simp only [Bool.and_eq_true,beq_iff_eq] at hc; omega)) ?_;refine aK ?_;(unfold kM; rw [jf]; simp only [cond_true]; unfold dO; rw [Bool.and_assoc])
 ·have jf:=c1;have c1:=fA c1;refine cO ?_ ?_<;>intro c2
  ·have oN:=c2;have c2:=fA c2;refine cO ?_ ?_<;>intro c3
   ·have nu:=c3;have c3:=fA c3;refine aL (mM λ hc=>D8 (vP ob)) λ v1 hv1=>?_;subst v1;refine aK ?_;(unfold kM; rw [jf,oN,aeU]; rfl)
   ·have nu:=c3;have c3:=fA c3;rw [oN] at nu; cases nu
  ·have oN:=c2;have c2:=fA c2;refine cO ?_ ?_<;>intro c4
   ·have wL:=c4;have c4:=fA c4;refine aL (mM λ hc=>D8 (vP ob)) λ v4 hv4=>?_;subst v4;refine aK ?_;(unfold kM; rw [jf,oN,wL,aeU]; rfl)
   ·have wL:=c4;have c4:=fA c4;refine cO ?_ ?_<;>intro c5
    ·have FM:=c5;have c5:=fA c5;refine wn<|aL (mM λ hc=>D8 (vP ob)) λ v5 hv5=>?_;subst v5;refine aK ?_;(unfold kM; rw [jf,oN,wL,FM,aeU c_.aR.length]; exact atm)
    ·have FM:=c5;have c5:=fA c5;refine cO ?_ ?_<;>intro c6
     ·have QE:=c6;have c6:=fA c6;refine cO ?_ ?_<;>intro c7
      ·have Ue:=c7;have c7:=fA c7;refine aL (mM λ hc=>D8 (Ug ob)) λ v6 hv6=>?_;subst v6;refine aK ?_;(unfold kM; rw [jf,oN,wL,FM,QE]; rfl)
      ·have Ue:=c7;have c7:=fA c7;refine aK ?_;(unfold kM; rw [jf,oN,wL,FM,QE,show ((c_.bJ.length:Int)==1)=false by simpa using Ue]; rfl)
     ·have QE:=c6;have c6:=fA c6;refine aK ?_;(unfold kM; rw [jf,oN,wL,FM,QE]; rfl)
variable {l_:List ay}
theorem UN (h1:l_.length≤1000) (h2:afT l_):W (xP l_) (λ r=>r=ru l_):=by
 unfold xP;refine cu (λ (g1:Int×List Int)=>0≤g1.1∧g1.1≤l_.length∧g1.2=ru (l_.take g1.1.toNat)) (λ (g1:Int×List Int)=>(l_.length - g1.1).toNat) ?_ ?_
 ·intro ah g1 fZ dS;obtain ⟨fI,eG,dI⟩:=fZ;unfold Fe;have hfb:=mP (l_.take g1.1.toNat);rw [take_len om,← dI] at hfb;refine wi ?_ ?_<;>intro c1
  ·obtain ⟨hp1,hp2⟩:=h2 g1.1.toNat om;refine wn<|cu (λ (g6:Int×Int)=>0≤g6.2∧g6.2≤(l_.getD g1.1.toNat aV).bJ.length∧g6.1=Lp g1.2 ((l_.getD g1.1.toNat aV).bJ.take g6.2.toNat)) (λ (g6:Int×Int)=>((l_.getD g1.1.toNat aV).bJ.length - g6.2).toNat) ?_ ?_
   ·intro jE g6 Xu UO;obtain ⟨Uh,Jk,Xv⟩:=Xu;unfold Fb;have hpm:=Qq g1.2 g1.1.toNat om hfb.2 ((l_.getD g1.1.toNat aV).bJ.take g6.2.toNat);rw [← Xv] at hpm;refine wi ?_ ?_<;>intro c2
    ·have hx:=hp2 _ (getD_in (i:=g6.2.toNat) 0 om);refine wm<|wn ?_;refine UO _ ?_ ?_
     ·(refine ⟨ob,ob,?_⟩; dsimp only; rw [show (g6.2+1).toNat=g6.2.toNat+1 by omega]; unfold Lp; rw [Gy _ _ 0 om,Xv]; rfl)
     ·exact ob
    ·have hpe:g6.1=Lp g1.2 (l_.getD g1.1.toNat aV).bJ:=(by rw [Xv,show g6.2.toNat=(l_.getD g1.1.toNat aV).bJ.length by omega,List.take_length]);refine cO ?_ ?_<;>intro c3
     ·have nu:=c3;have c3:=fA c3;refine wn ?_;unfold lV;refine wm<|dS _ ?_ ?_
      ·(refine ⟨ob,ob,?_⟩; dsimp only; rw [show (g1.1+1).toNat=g1.1.toNat+1 by omega,jU aV om,FJ,← dI]; unfold aaX R9; rw [nu,hpe]; rfl)
      ·exact ob
     ·have nu:=c3;have c3:=fA c3;unfold lV;refine wm<|dS _ ?_ ?_
      ·(refine ⟨ob,ob,?_⟩; dsimp only; rw [show (g1.1+1).toNat=g1.1.toNat+1 by omega,jU aV om,FJ,← dI]; unfold aaX R9; rw [nu,hpe]; rfl)
      ·exact ob
   ·(refine ⟨ob,ob,rfl⟩)
  ·refine aK ?_;(rw [dI,show g1.1.toNat=l_.length by omega,List.take_length])
 ·(refine ⟨ob,ob,rfl⟩)
theorem sw (h1:l_.length≤2000000):W (nC l_) (λ r=>r=fq l_):=by
 unfold nC;refine cO ?_ ?_<;>intro c1
 ·have jf:=c1;have c1:=fA c1;refine aK ?_;(unfold fq; rw [jf]; rfl)
 ·have jf:=c1;have c1:=fA c1;refine cu (λ (g1:Int)=>0≤g1∧g1≤l_.length∧(∀j:Nat,(j:Int)<g1→Xi (l_.getD j aV)=false)) (λ (g1:Int)=>(l_.length - g1).toNat) ?_ ?_
  ·intro ah g1 fZ dS;obtain ⟨fI,eG,dI⟩:=fZ;unfold KF;refine wi ?_ ?_<;>intro c2
   ·refine wn<|cO ?_ ?_<;>intro c3
    ·have nu:=c3;have c3:=fA c3;refine aK ?_;(unfold fq; rw [Al (p:=Xi) aV (show g1.toNat<l_.length by omega) (show Xi _=true from nu),Bool.or_true]; rfl)
    ·have nu:=c3;have c3:=fA c3;refine wn<|dS _ ?_ ?_
     ·(refine ⟨ob,ob,fO dI fI nu⟩)
     ·exact ob
   ·have hb4:∀i:Nat,i<l_.length→Xi (l_.getD i aV)=false:=λ j hj=>dI j om;have hbig:=any_none (p:=Xi) aV hb4;have hb3:(decide (16<(l_.length:Int))||l_.any Xi)=false:=(by rw [jf,hbig]; rfl);refine cu (λ (g2:Int×Int)=>0≤g2.2∧g2.2≤l_.length∧g2.1=Du (l_.take g2.2.toNat)∧(∀j:Nat,(j:Int)<g2.2→l7 (l_.getD j aV) j=true)) (λ (g2:Int×Int)=>(l_.length - g2.2).toNat) ?_ ?_
    ·intro dR g2 Eu Aq;obtain ⟨yM,nG,mo,Jl⟩:=Eu;unfold Ip;refine wi ?_ ?_<;>intro c4
     ·have hlt:g2.2.toNat<l_.length:=om;have hbl:=Xk (hb4 g2.2.toNat hlt);refine wn<|cu (λ (g5:Int)=>0≤g5∧g5≤(l_.getD g2.2.toNat aV).bJ.length∧(∀j:Nat,(j:Int)<g5→dO ((l_.getD g2.2.toNat aV).bJ.getD j 0) 0 (g2.2.toNat - 1)=true)) (λ (g5:Int)=>((l_.getD g2.2.toNat aV).bJ.length - g5).toNat) ?_ ?_
      ·intro jP g5 aa7 aa8;obtain ⟨Xr,Ob,Oc⟩:=aa7;unfold Im;refine wi ?_ ?_<;>intro c5
       ·refine wn<|wi ?_ ?_<;>intro c6
        ·refine aK ?_;(unfold fq; rw [hb3,Xj hlt (Sb (j:=g5.toNat) om (by rw [← Bool.not_eq_true,within_iff]; omega))]; rfl)
        ·refine wn<|aa8 _ ?_ ?_
         ·(refine ⟨ob,ob,fO Oc Xr (by rw [within_iff]; omega)⟩)
         ·exact ob
       ·have hvr:=acT (k:=(g2.2.toNat:Int)) (λ j hj=>Oc j om);refine aL (UM ob ob) λ v3 hv3=>?_;subst v3;refine cO ?_ ?_<;>intro c7
        ·have Ue:=c7;have c7:=fA c7;rw [Ue] at hvr;refine aK ?_;(unfold fq; rw [hb3,Xj hlt hvr]; rfl)
        ·have Ue:=c7;have c7:=fA c7;rw [Ue] at hvr;have hpm:=ajp (l_.take g2.2.toNat) (l_.getD g2.2.toNat aV).aR.length om;rw [← mo] at hpm;refine wm<|Aq _ ?_ ?_
         ·(refine ⟨ob,ob,?_,fO Jl yM hvr⟩; dsimp only; rw [show (g2.2+1).toNat=g2.2.toNat+1 by omega]; unfold Du; rw [Gy _ _ aV hlt]; rw [mo]; rfl)
         ·exact ob
      ·(refine ⟨ob,ob,λ j hj=>by omega⟩)
     ·have hva:∀i:Nat,i<l_.length→l7 (l_.getD i aV) i=true:=λ j hj=>Jl j om;have hall:=ag3 hva;have hfl:=(mP l_).1;rw [show g2.2.toNat=l_.length by omega,List.take_length] at mo;refine cO ?_ ?_<;>intro c8
      ·have c8o:=c8;have c8:=fA c8;refine aK ?_;(unfold fq; rw [hb3,hall,← mo,c8o]; rfl)
      ·have c8o:=c8;have c8:=fA c8;refine aL (UN om (ajq hva hb4)) λ v4 hv4=>?_;subst v4;refine cu (λ (g6:Int)=>0≤g6∧g6≤(ru l_).length∧(∀j:Nat,(j:Int)<g6→(λ n=>decide (4<n)) ((ru l_).getD j 0)=false)) (λ (g6:Int)=>((ru l_).length - g6).toNat) ?_ ?_
       ·intro jE g6 Xu UO;obtain ⟨Uh,Jk,Xv⟩:=Xu;unfold Io;refine wi ?_ ?_<;>intro c9
        ·refine wn<|cO ?_ ?_<;>intro c10
         ·have Xw:=c10;have c10:=fA c10;refine aK ?_;(unfold fq; rw [hb3,hall,Al (p:=λ n=>decide (4<n)) 0 (show g6.toNat<(ru l_).length by omega) Xw,Bool.or_true]; rfl)
         ·have Xw:=c10;have c10:=fA c10;refine wn<|UO _ ?_ ?_
          ·(refine ⟨ob,ob,fO Xv Uh Xw⟩)
          ·exact ob
        ·refine aK ?_;(unfold fq; rw [hb3,hall,← mo,c8o,any_none (p:=λ n=>decide (4<n)) 0 (λ j hj=>Xv j om)]; rfl)
       ·(refine ⟨ob,ob,λ j hj=>by omega⟩)
    ·(refine ⟨ob,ob,rfl,λ j hj=>by dsimp only at hj; omega⟩)
  ·(refine ⟨ob,ob,λ j hj=>by omega⟩)
theorem alQ {l:List ay} {m:List bg} (h:((fq l != 0)||decide (32<(m.length:Int)))=true):lJ l m=false:=by
 unfold lJ;by_cases h1:fq l=0
 ·rw [h1] at h;have:32<(m.length:Int):=by simpa using h
  rw [decide_eq_false (p:=(m.length:Int)≤32) om];simp
 ·have:(fq l==0)=false:=by simpa using h1
  rw [this];rfl
theorem ajQ {l:List ay} {m:List bg} (h:((fq l != 0)||decide (32<(m.length:Int)))=false):lJ l m=!(m.any (OJ l.length)):=by
 have h1:fq l=0∧(m.length:Int)≤32:=by
  simp at h;omega
 unfold lJ;rw [h1.1,decide_eq_true h1.2];rfl
theorem adi (n:Int) (x:bg):(((((decide (x.fJ<(0:Int)))||(decide (n≤x.fJ)))||(decide (x.Low<(0:Int))))||(decide (x.gF<x.Low)))||(decide ((4000000000:Int)<x.gF)))=OJ n x:=by
 unfold OJ dO;rw [Bool.eq_iff_iff];simp;omega
theorem BK {m_:List bg} (h1:l_.length≤2000000) (h2:m_.length≤2000000):W (qJ l_ m_) (λ r=>r=lJ l_ m_):=by
 unfold qJ;refine aL (sw ob) λ v1 hv1=>?_;subst v1;refine cO ?_ ?_<;>intro c1
 ·have jf:=c1;have c1:=fA c1;exact aK ((alQ jf).symm)
 ·have jf:=c1;have c1:=fA c1;have hdf:=ajQ jf;refine cu (λ (g1:Int)=>0≤g1∧g1≤m_.length∧(m_.drop g1.toNat).any (OJ l_.length)=m_.any (OJ l_.length)) (λ (g1:Int)=>(m_.length - g1).toNat) ?_ ?_
  ·intro ah g1 fZ dS;obtain ⟨fI,eG,dI⟩:=fZ;unfold IG;refine wi ?_ ?_<;>intro c2
   ·have hlt:g1.toNat<m_.length:=om;rw [drop_cons dU hlt,List.any_cons] at dI;refine wn<|cO ?_ ?_<;>intro c3
    ·have nu:=c3;have c3:=fA c3;rw [adi] at nu;refine aK ?_;(rw [hdf,← dI,nu]; rfl)
    ·have nu:=c3;have c3:=fA c3;rw [adi] at nu;refine wn<|dS _ ?_ ?_
     ·(refine ⟨ob,ob,?_⟩; rw [← dI,nu,show (g1+1).toNat=g1.toNat+1 by omega]; rfl)
     ·exact ob
   ·refine aK ?_;(rw [hdf,← dI,show g1.toNat=m_.length by omega,List.drop_length]; rfl)
  ·(refine ⟨ob,ob,rfl⟩)
theorem YF {m_:List bg} (h1:l_.length≤2000000) (h2:m_.length≤2000000):W (Dh l_ m_) (λ r=>r=(bif fq l_ != 0 then fq l_ else bif !lJ l_ m_ then 1 else 0)):=by
 unfold Dh;refine aL (sw ob) λ v1 hv1=>?_;subst v1;refine cO ?_ ?_<;>intro c1
 ·have jf:=c1;have c1:=fA c1;refine aK ?_;(rw [jf]; rfl)
 ·have jf:=c1;have c1:=fA c1;refine aL (BK ob ob) λ v2 hv2=>?_;subst v2;refine cO ?_ ?_<;>intro c2
  ·have oN:=c2;have c2:=fA c2;refine aK ?_;(rw [jf,oN]; rfl)
  ·have oN:=c2;have c2:=fA c2;refine aK ?_;(rw [jf,oN]; rfl)
theorem Xx {c_:ay} {sS:Int} (h1:acV c_ sS):W (Aa c_ sS) (λ r=>r=kS c_ sS):=by
 have hp:=h1; unfold acV at hp;unfold Aa;refine cO ?_ ?_<;>intro c1
 ·have jf:=c1;have c1:=fA c1;refine aK ?_;(unfold kS; rw [jf]; rfl)
 ·have jf:=c1;have c1:=fA c1;refine cO ?_ ?_<;>intro c2
  ·have oN:=c2;have c2:=fA c2;refine wm<|aK ?_;(unfold kS; rw [jf,oN]; rfl)
  ·have oN:=c2;have c2:=fA c2;refine wn<|aK ?_;(unfold kS; rw [jf,oN]; rfl)
theorem zl {a_:Int} {b_:Int} (h1:0≤a_) (h2:0≤b_):W (oU a_ b_) (λ r=>r=mO a_ b_):=by
 unfold oU;refine cu (λ (g1:Int×Int)=>0≤g1.1∧0≤g1.2∧mO g1.1 g1.2=mO a_ b_) (λ (g1:Int×Int)=>g1.2.toNat) ?_ ?_
 ·intro ah g1 fZ dS;obtain ⟨fI,eG,dI⟩:=fZ;unfold Fj;refine wi ?_ ?_<;>intro c1
  ·refine wn<|dS _ ?_ ?_
   ·(refine ⟨ob,Int.tmod_nonneg _ om,?_⟩; dsimp only; rw [← dI]; exact ajy om om)
   ·(dsimp only; have:=VD g1.1 g1.2 om; have:=Int.tmod_nonneg (a:=g1.1) g1.2 om; omega)
  ·refine aK ?_;(rw [← dI]; unfold mO; have e:g1.2=0:=c1; rw [e]; simp; omega)
 ·exact ob
theorem xR {r_:dL}:W (qg r_) (λ r=>r=vN r_):=by
 unfold qg;refine aL (mM λ hc=>D8 (zl (by have hc:=fA hc; omega) (by have hc:=fA hc; omega))) λ v1 hv1=>?_;subst v1;refine aK ?_;rfl
theorem LD {k_:Int}:W (vG k_) (λ r=>r=Ho k_):=by
 unfold vG;refine aK ?_;rfl
theorem Ui {Qd:Int} {Qe:Int} (h1:Qd≤4611686018427387904) (h2:Qe≤4611686018427387904):W (Fp Qd Qe) (λ r=>r=newR Qd Qe):=by
 unfold Fp;refine cO ?_ ?_<;>intro c1
 ·have jf:=c1;have c1:=fA c1;refine aK ?_;(unfold newR; rw [jf]; rfl)
 ·have jf:=c1;have c1:=fA c1;have hg:=Xg Qd Qe om; have q1:=tdiv_le Qd _ om hg; have q2:=tdiv_le Qe _ om hg;refine aL (zl ob ob) λ v1 hv1=>?_;subst v1;refine wm<|aL (xR) λ v2 hv2=>?_;subst v2;refine cO ?_ ?_<;>intro c2
  ·have oN:=c2;have c2:=fA c2;refine aK ?_;(unfold newR; rw [jf]; simp only [cond_false]; rw [oN]; rfl)
  ·have oN:=c2;have c2:=fA c2;refine aK ?_;(unfold newR; rw [jf]; simp only [cond_false]; rw [oN]; rfl)
theorem aa9 {r_:dL} {k_:Int}:W (GV r_ k_) (λ r=>r=Jg r_ k_):=by
 unfold GV;refine aL (xR) λ v1 hv1=>?_;subst v1;refine cO ?_ ?_<;>intro c1
 ·have jf:=c1;have c1:=fA c1;refine aK ?_;(unfold Jg; rw [jf]; rfl)
 ·have jf:=c1;have c1:=fA c1;have hv:=tL (r:=r_) (by simpa using jf);refine aL (LD) λ v2 hv2=>?_;subst v2;refine cO ?_ ?_<;>intro c2
  ·have oN:=c2;have c2:=fA c2;refine aK ?_;(unfold Jg; rw [jf,oN]; rfl)
  ·have oN:=c2;have c2:=fA c2;have hk:1≤k_∧k_≤64:=(by simp [Ho] at oN; omega);have q3:=aoo (show 0≤k_ by omega) hk.2 (show 0≤r_.lK by omega) hv.2.2.2.1;refine wn<|aL (Ui ob ob) λ v3 hv3=>?_;subst v3;refine aK ?_;(unfold Jg; rw [jf,oN]; rfl)
theorem YG {r_:dL} {k_:Int}:W (Di r_ k_) (λ r=>r=wY r_ k_):=by
 unfold Di;refine aL (xR) λ v1 hv1=>?_;subst v1;refine cO ?_ ?_<;>intro c1
 ·have jf:=c1;have c1:=fA c1;refine aK ?_;(unfold wY; rw [jf]; rfl)
 ·have jf:=c1;have c1:=fA c1;have hv:=tL (r:=r_) (by simpa using jf);refine aL (LD) λ v2 hv2=>?_;subst v2;refine cO ?_ ?_<;>intro c2
  ·have oN:=c2;have c2:=fA c2;refine aK ?_;(unfold wY; rw [jf,oN]; rfl)
  ·have oN:=c2;have c2:=fA c2;have hk:1≤k_∧k_≤64:=(by simp [Ho] at oN; omega);have hg:=Xg k_ r_.lK om;have q1:=tdiv_le k_ _ om hg;have q2:=tdiv_le r_.lK _ om hg;have q4:=as9 k_ r_.lK hk om;have q5:=tdiv_le 144115188075855872 _ om (show 0<k_.tdiv (mO k_ r_.lK) by omega);refine aL (zl ob ob) λ v3 hv3=>?_;subst v3;refine wm<|cO ?_ ?_<;>intro c3
   ·have nu:=c3;have c3:=fA c3;refine aK ?_;(unfold wY; rw [jf,oN,nu]; rfl)
   ·have nu:=c3;have c3:=fA c3;have q3:=ag2 r_.pQ (k_.tdiv (mO k_ r_.lK)) hv.1 q4.1 om;refine wm<|wn ?_;refine aL (Ui ob ob) λ v4 hv4=>?_;subst v4;refine aK ?_;(unfold wY; rw [jf,oN,nu]; rfl)
theorem jB {s_:List Int} {g1:Int×List dL×List Bool} {ah:(Int×List dL×List Bool)→M (List dL×List Bool)} {g7:Bool×Int×Int} {Q:(List dL×List Bool)→Prop} (dS:∀s':(Int×List dL×List Bool),(0≤s'.1∧s'.1≤l_.length∧s'.2.1=(Sc l_ s_ s'.1.toNat).1∧s'.2.2=(Sc l_ s_ s'.1.toNat).2)→(l_.length - s'.1).toNat<(l_.length - g1.1).toNat→W (ah s') Q) (hc:0≤g1.1∧g1.1<l_.length∧l_.length≤1000∧g1.2.1=(Sc l_ s_ g1.1.toNat).1∧g1.2.2=(Sc l_ s_ g1.1.toNat).2∧((⟨g7.2.1,g7.2.2⟩:dL),g7.1)=(st1 (Sc l_ s_ g1.1.toNat).1 (Sc l_ s_ g1.1.toNat).2 (l_.getD g1.1.toNat aV) (s_.getD g1.1.toNat 0))):W (je g1 ah g7) Q:=by
 obtain ⟨ajR,ajS,QF,M4,Sk,abb⟩:=hc;unfold je;refine bK (by (rw [M4,(Hr l_ s_ g1.1.toNat).1]; unfold big; omega)) ?_;refine bK (by (rw [Sk,(Hr l_ s_ g1.1.toNat).2]; unfold big; omega)) ?_;refine wn<|dS _ ?_ ?_
 ·(refine ⟨ob,ob,?_,?_⟩; (dsimp only; rw [show (g1.1+1).toNat=g1.1.toNat+1 by omega,Sc,← abb,← M4]); (dsimp only; rw [show (g1.1+1).toNat=g1.1.toNat+1 by omega,Sc,← abb,← Sk]))
 ·exact ob
theorem BL {s_:List Int} (h1:Good l_ s_) (h2:Up l_ s_):W (qK l_ s_) (λ r=>r=Gl l_ s_):=by
 obtain ⟨q1,q2,q3,q4,q5⟩:=h1;unfold qK;refine cu (λ (g1:Int×List dL×List Bool)=>0≤g1.1∧g1.1≤l_.length∧g1.2.1=(Sc l_ s_ g1.1.toNat).1∧g1.2.2=(Sc l_ s_ g1.1.toNat).2) (λ (g1:Int×List dL×List Bool)=>(l_.length - g1.1).toNat) ?_ ?_
 ·intro ah g1 fZ dS;obtain ⟨fI,eG,dI,jF⟩:=fZ;unfold II;have hst:=Hr l_ s_ g1.1.toNat;refine wi ?_ ?_<;>intro c1
  ·have hch:=q3 g1.1.toNat om;have hpar:=q5 g1.1.toNat om;have hpc:=q4 g1.1.toNat om;have hui:=h2 g1.1.toNat om;refine wm<|aL (Xx ob) λ v18 ajK=>?_;subst v18;refine wi ?_ ?_<;>intro c2
   ·refine wm ?_;unfold mJ;refine wm<|cO ?_ ?_<;>intro c3
    ·have nu:=c3;have c3:=fA c3;exact jB (l_:=l_) (s_:=s_) (λ a b c=>dS a b c) (by (exfalso; have:=(show kS (l_.getD g1.1.toNat aV) (s_.getD g1.1.toNat 0) = -1 by unfold kS; rw [nu]; rfl); omega))
    ·have nu:=c3;have c3:=fA c3;refine cO ?_ ?_<;>intro c4
     ·have wL:=c4;have c4:=fA c4;refine aL (aa9) λ v16 Xd=>?_;subst v16;exact jB (l_:=l_) (s_:=s_) (λ a b c=>dS a b c) (by (refine ⟨ob,ob,ob,dI,jF,?_⟩; dsimp only; unfold st1; rw [nu,wL,← dI,← jF]; rfl))
     ·have wL:=c4;have c4:=fA c4;refine cO ?_ ?_<;>intro c5
      ·have FM:=c5;have c5:=fA c5;refine aL (YG) λ v17 alR=>?_;subst v17;exact jB (l_:=l_) (s_:=s_) (λ a b c=>dS a b c) (by (refine ⟨ob,ob,ob,dI,jF,?_⟩; dsimp only; unfold st1; rw [nu,wL,FM,← dI,← jF]; rfl))
      ·have FM:=c5;have c5:=fA c5;refine cO ?_ ?_<;>intro c6
       ·have QE:=c6;have c6:=fA c6;refine cO ?_ ?_<;>intro c7
        ·have Ue:=c7;have c7:=fA c7;exact jB (l_:=l_) (s_:=s_) (λ a b c=>dS a b c) (by (refine ⟨ob,ob,ob,dI,jF,?_⟩; dsimp only; unfold st1; rw [nu,wL,FM,QE,Ue,← dI,← jF]; rfl))
        ·have Ue:=c7;have c7:=fA c7;exact jB (l_:=l_) (s_:=s_) (λ a b c=>dS a b c) (by (refine ⟨ob,ob,ob,dI,jF,?_⟩; dsimp only; unfold st1; rw [nu,wL,FM,QE,Ue,← dI,← jF]; rfl))
       ·have QE:=c6;have c6:=fA c6;exact jB (l_:=l_) (s_:=s_) (λ a b c=>dS a b c) (by (refine ⟨ob,ob,ob,dI,jF,?_⟩; dsimp only; unfold st1; rw [nu,wL,FM,QE,← dI,← jF]; rfl))
   ·unfold mJ;refine wm<|cO ?_ ?_<;>intro c8
    ·have c8o:=c8;have c8:=fA c8;exact jB (l_:=l_) (s_:=s_) (λ a b c=>dS a b c) (by (refine ⟨ob,ob,ob,dI,jF,?_⟩; dsimp only; unfold st1; rw [c8o]; rfl))
    ·have c8o:=c8;have c8:=fA c8;exfalso; have:=hui (by simpa using c8o); omega
  ·refine aK ?_;(unfold Gl; rw [dI,jF,show g1.1.toNat=l_.length by omega])
 ·(refine ⟨ob,ob,rfl,rfl⟩)
end Go.Proofs.YtifekdmmpbcdgaaGreatDoor

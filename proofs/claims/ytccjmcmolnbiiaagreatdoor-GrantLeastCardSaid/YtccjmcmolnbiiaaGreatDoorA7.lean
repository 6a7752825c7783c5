/- An abstract machine over the model's code, that it is sound; models of the functions and their proofs. -/
import Derived.Test.YtccjmcmolnbiiaaGreatDoorA6
import Derived.Test.YtccjmcmolnbiiaaGreatDoorProg
import Derived.Test.YtccjmcmolnbiiaaGreatDoorA4
import Derived.RangeFuncBox
import Derived.RangeFuncLeaves
import Derived.Shelf.Abstract
import Derived.WalkKit
import Derived.OwnWalkIn
import Derived.TacticsInMore
import Derived.LoopNIn
import Derived.LoopIn
import Derived.Test.YtccjmcmolnbiiaaGreatDoorCards
import Derived.Test.YtccjmcmolnbiiaaGreatDoorTie
import Derived.ProofKit
import Derived.OpenShut
import Derived.Carry
import Derived.LaidMore
import Derived.Deep.DeepHandedRow
set_option linter.unusedVariables false
set_option linter.unusedSimpArgs false
namespace Go.Proofs.YtccjmcmolnbiiaaGreatDoor
open Go.Ab
set_option maxRecDepth 100000
def J2 (p:Prop) (c:Int) (A:Int→Prop) (r:Int):Prop:=(p∧r=c)∨(¬p∧A r)
variable {c:Int} {A:Int→Prop}
theorem dV {p:Prop} (h:p):J2 p c A c:=.inl ⟨h,rfl⟩
variable {r:Int}
theorem aL {p:Prop} (h:¬p) (a:A r):J2 p c A r:=.inr ⟨h,a⟩
def Thn (A B:Int→Prop) (r:Int):Prop:=(A r∧r≠0)∨(A 0∧B r)
def Fst (n:Nat) (E:Nat→Int→Prop) (r:Int):Prop:=(∃i:Nat,i<n∧(∀k:Nat,k<i→E k 0)∧E i r∧r≠0)∨((∀k:Nat,k<n→E k 0)∧r=0)
def EF (A:Int→Prop):Prop:=∀a b,A a→A b→a=b
theorem EF.zero:EF (λ r=>r=0):=λ _ _ h k=>h.trans k.symm
theorem EF.Jc {p:Prop} (h:EF A):EF (J2 p c A):=by
 rintro a b (⟨h1,h2⟩ | ⟨h1,h2⟩) (⟨h3,h4⟩ | ⟨h3,h4⟩)
 ·rw [h2,h4]
 ·exact absurd h1 h3
 ·exact absurd h3 h1
 ·exact h _ _ h2 h4
variable {B:Int→Prop}
theorem EF.thn (h:EF A) (k:EF B):EF (Thn A B):=by
 rintro a b (⟨h1,h2⟩ | ⟨h1,h2⟩) (⟨h3,h4⟩ | ⟨h3,h4⟩)
 ·exact h _ _ h1 h3
 ·exact absurd (h _ _ h1 h3) h2
 ·exact absurd (h _ _ h3 h1) h4
 ·exact k _ _ h2 h4
variable {n:Nat} {E:Nat→Int→Prop}
theorem EF.fst (h:∀i,EF (E i)):EF (Fst n E):=by
 rintro a b (⟨i,h1,h2,h3,h4⟩ | ⟨h1,h2⟩) (⟨j,k1,k2,k3,k4⟩ | ⟨k1,k2⟩)
 ·rcases Nat.lt_trichotomy i j with q | q | q
  ·exact absurd (h _ _ _ h3 (k2 i q)) h4
  ·subst q; exact h _ _ _ h3 k3
  ·exact absurd (h _ _ _ k3 (h2 j q)) k4
 ·exact absurd (h _ _ _ h3 (k1 i h1)) h4
 ·exact absurd (h _ _ _ k3 (h1 j k1)) k4
 ·rw [h2,k2]
theorem Gq (h:A r) (hr:r≠0):Thn A B r:=.inl ⟨h,hr⟩
theorem kF (h:A 0) (k:B r):Thn A B r:=.inr ⟨h,k⟩
theorem Gr {i:Nat} (hi:i<n) (h:∀k:Nat,(k:Int)<i→E k 0) (he:E i r) (hr:r≠0):Fst n E r:=.inl ⟨i,hi,λ k hk=>h k om,he,hr⟩
theorem J3 (h:∀k:Nat,k<n→E k 0):Fst n E 0:=.inr ⟨h,rfl⟩
def ak5 (n:Int) (g:cK):Int→Prop:=
 J2 ((g.bS.length:Int)=0∨(g.ak.length:Int)=0) 9<|
 J2 (8<(g.ak.length:Int)) 3<|
 J2 (∃j:Nat,(j:Int)<g.bS.length∧¬(0≤g.bS.getD j 0∧g.bS.getD j 0<n)) 2<|
 J2 (∃j:Nat,1≤j∧(j:Int)<g.bS.length∧g.bS.getD j 0≤g.bS.getD (j - 1) 0) 12<|
 J2 (∃j:Nat,(j:Int)<g.ak.length∧¬Gp (g.ak.getD j ByteArray.empty)) 1<|
 J2 (∃k j:Nat,j<k∧(k:Int)<g.ak.length∧(g.ak.getD j ByteArray.empty).toList=(g.ak.getD k ByteArray.empty).toList) 5<|
 λ r=>r=0
theorem ak5.fun {n:Int} {g:cK}:EF (ak5 n g):=.Jc (.Jc (.Jc (.Jc (.Jc (.Jc .zero)))))
def agS (p:bn) (i:Nat):Int→Prop:=
 J2 (¬Gp (p.ay.getD i aG).wI) 1<|
 J2 (∃k:Nat,k<i∧(p.ay.getD k aG).wI.toList=(p.ay.getD i aG).wI.toList) 5<|
 ak5 p.bS (p.ay.getD i aG)
variable {p:bn}
theorem agS.fun {i:Nat}:EF (agS p i):=.Jc (.Jc ak5.fun)
def wD (p:bn):Int→Prop:=
 J2 (p.bS<0∨64<p.bS) 2<|
 J2 (24<(p.ay.length:Int)) 3<|
 Fst p.ay.length (agS p)
theorem wD.fun:EF (wD p):=.Jc (.Jc (.fst λ _=>agS.fun))
theorem Gs {l:List Int} {g:Int} (h:∀j:Nat,(j:Int)<g→1≤j→l.getD (j - 1) 0<l.getD j 0) (hg:(l.length:Int)≤g):¬ ∃j:Nat,1≤j∧(j:Int)<l.length∧l.getD j 0≤l.getD (j - 1) 0:=λ ⟨j,h1,h2,h3⟩=>by
 have:=h j om h1;omega
theorem gU {P:Nat→Prop} {g:Int} (h:∀j:Nat,(j:Int)<g→P j) (hg:(n:Int)≤g):¬ ∃j:Nat,(j:Int)<n∧¬P j:=λ ⟨j,h1,h2⟩=>h2 (h j om)
theorem J4 {s_:ByteArray}:W (sH s_) (λ r=>r=true↔Gp s_):=by
 unfold sH;refine aO (by (intro hc; have:=aas hc; omega)) ?_;refine aO (by (intro hc; simp only [Bool.or_eq_false_iff] at hc; have:=aas (s:=s_) (by simp only [Bool.or_eq_false_iff]; exact hc.1); omega)) ?_;refine bL ?_ ?_<;>intro c1
 ·have gM:=c1;have c1:=nr c1;refine av ?_;(constructor; (intro e; cases e); (rintro ⟨⟨a1,a2⟩,⟨a3,a4⟩,a5⟩; simp only [Bool.or_eq_true,decide_eq_true_eq] at gM; rcases gM with ((c | c) | c) | c; (rw [anl a1] at c; cases c); all_goals omega))
 ·have gM:=c1;have c1:=nr c1;have hsz:0<s_.size∧s_.size≤16:=aiI gM;refine bH (λ (g1:Int)=>1≤g1∧(∀j:Nat,(j:Int)<g1→1≤j→gI s_ j=45∨(48≤gI s_ j∧gI s_ j≤57)∨(97≤gI s_ j∧gI s_ j≤122))) (λ (g1:Int)=>(s_.size - g1).toNat) ?_ ?_
  ·intro aj g1 d9 bV;obtain ⟨dN,bO⟩:=d9;unfold Js;refine wi ?_ ?_<;>intro c2
   ·refine wn<|wi ?_ ?_<;>intro c3
    ·refine av ?_;(constructor; (intro e; cases e); (rintro ⟨_,_,a5⟩; have:=a5 g1.toNat om; omega))
    ·refine wn<|bV _ ?_ ?_
     ·(refine ⟨ob,λ j h1 h2=>?_⟩; by_cases q:(j:Int)<g1; (exact bO j q h2); (have e:j=g1.toNat:=by omega); subst e; omega)
     ·exact ob
   ·refine av ?_;(constructor; (intro _; refine ⟨om,om,λ j hj=>?_⟩; by_cases q:j=0; (subst q; exact .inr (.inr ⟨om,om⟩)); exact bO j om om); (intro _; rfl))
  ·(refine ⟨ob,λ j h1 h2=>by omega⟩)
theorem zU {s_:ByteArray}:W (vF s_) (λ r=>r=true↔Gp s_):=by
 unfold vF;refine aO (by (intro hc; simp only [Bool.or_eq_false_iff,beq_eq_false_iff_ne] at hc; omega)) ?_;refine aO (by (intro hc; simp only [Bool.or_eq_false_iff,beq_eq_false_iff_ne] at hc; omega)) ?_;refine bL ?_ ?_<;>intro c1
 ·have gM:=c1;have c1:=nr c1;refine av ?_;(constructor; (intro e; cases e); (rintro ⟨a1,a3,a5⟩; omega))
 ·have gM:=c1;have c1:=nr c1;have hsz:s_.size≤16:=(by simp only [Bool.or_eq_false_iff] at gM; have:=of_decide_eq_false gM.1.1.2; omega);refine bH (λ (g1:Int)=>0≤g1∧(∀j:Nat,(j:Int)<g1→gI s_ j=45∨(48≤gI s_ j∧gI s_ j≤57)∨(97≤gI s_ j∧gI s_ j≤122))) (λ (g1:Int)=>(s_.size - g1).toNat) ?_ ?_
  ·intro aj g1 d9 bV;obtain ⟨dN,bO⟩:=d9;unfold QZ;refine wi ?_ ?_<;>intro c2
   ·refine wm<|wm ?_;refine wn<|wi ?_ ?_<;>intro c3
    ·refine av ?_;(constructor; (intro e; cases e); (rintro ⟨_,_,a5⟩; have:=a5 g1.toNat om; omega))
    ·refine wn<|bV _ ?_ ?_
     ·(refine ⟨ob,dZ bO dN om⟩)
     ·exact ob
   ·refine av ?_;(constructor; (intro _; exact ⟨om,om,λ j hj=>bO j om⟩); intro _; rfl)
  ·(refine ⟨ob,λ j hj=>by (try dsimp only at hj); omega⟩)
theorem J5 {s_:List ByteArray} {v_:ByteArray} (h1:s_.length≤2000000):W (slices_Index_string s_ v_) (λ r=>(0≤r↔∃j:Nat,(j:Int)<s_.length∧(s_.getD j ByteArray.empty).toList=v_.toList)):=by
 unfold slices_Index_string;refine bH (λ (g1:Int)=>0≤g1∧(∀j:Nat,(j:Int)<g1→(s_.getD j ByteArray.empty).toList≠v_.toList)) (λ (g1:Int)=>(s_.length - g1).toNat) ?_ ?_
 ·intro aj g1 d9 bV;obtain ⟨dN,bO⟩:=d9;unfold wP;refine wi ?_ ?_<;>intro c1
  ·refine wn<|wi ?_ ?_<;>intro c2
   ·refine av ?_;(constructor; (intro _; exact ⟨g1.toNat,om,c2.symm⟩); (intro _; omega))
   ·refine wn<|bV _ ?_ ?_
    ·(refine ⟨ob,dZ bO dN (λ e=>c2 e.symm)⟩)
    ·exact ob
  ·refine av ?_;(constructor; (intro e; omega); (rintro ⟨j,h1,h2⟩; exact absurd h2 (bO j om)))
 ·(refine ⟨ob,λ j hj=>by (try dsimp only at hj); omega⟩)
theorem EG {s_:List ByteArray} {v_:ByteArray} (h1:s_.length≤2000000):W (slices_Contains_string s_ v_) (λ r=>r=true↔∃j:Nat,(j:Int)<s_.length∧(s_.getD j ByteArray.empty).toList=v_.toList):=by
 unfold slices_Contains_string;refine aH (J5 ob) λ v1 hv1=>?_;refine av ?_;(rw [← hv1]; simp)
theorem abw {M9:Int} {g_:cK} (h1:g_.bS.length≤2000000) (h2:g_.ak.length≤2000000):W (Jt M9 g_) (λ r=>ak5 M9 g_ r):=by
 unfold Jt;refine wi ?_ ?_<;>intro c1
 ·exact av<|dV c1
 ·refine wi ?_ ?_<;>intro c2
  ·exact av<|aL om (dV c2)
  ·refine bH (λ (g1:Int)=>0≤g1∧(∀j:Nat,(j:Int)<g1→0≤g_.bS.getD j 0∧g_.bS.getD j 0<M9)) (λ (g1:Int)=>(g_.bS.length - g1).toNat) ?_ ?_
   ·intro aj g1 d9 bV;obtain ⟨dN,bO⟩:=d9;unfold QT;refine wi ?_ ?_<;>intro c3
    ·refine wn<|wi ?_ ?_<;>intro c4
     ·exact av<|aL om (aL om (dV ⟨g1.toNat,om,om⟩))
     ·refine wn<|bV _ ?_ ?_
      ·(refine ⟨ob,dZ bO dN om⟩)
      ·exact ob
    ·refine bH (λ (g2:Int)=>1≤g2∧(∀j:Nat,(j:Int)<g2→1≤j→g_.bS.getD (j - 1) 0<g_.bS.getD j 0)) (λ (g2:Int)=>(g_.bS.length - g2).toNat) ?_ ?_
     ·intro dJ g2 mO qx;obtain ⟨qU,jB⟩:=mO;unfold M8;refine wi ?_ ?_<;>intro c5
      ·refine wm<|wn ?_;refine wi ?_ ?_<;>intro c6
       ·exact av<|aL om (aL om (aL (gU bO om) (dV ⟨g2.toNat,om,om,by rw [show g2.toNat - 1=(g2 - 1).toNat by omega]; omega⟩)))
       ·refine wn<|qx _ ?_ ?_
        ·(refine ⟨ob,λ j h1 h2=>?_⟩; by_cases q:(j:Int)<g2; (exact jB j q h2); (have e:j=g2.toNat:=by omega); subst e; rw [show g2.toNat - 1=(g2 - 1).toNat by omega]; omega)
        ·exact ob
      ·refine bH (λ (g3:Int)=>0≤g3∧(∀j:Nat,(j:Int)<g3→Gp (g_.ak.getD j ByteArray.empty))) (λ (g3:Int)=>(g_.ak.length - g3).toNat) ?_ ?_
       ·intro jV g3 adz adA;obtain ⟨XF,qy⟩:=adz;unfold M7;refine wi ?_ ?_<;>intro c7
        ·refine wn<|aH (J4) λ v3 hv3=>?_;refine bL ?_ ?_<;>intro c8
         ·have c8o:=c8;have c8:=nr c8;exact av<|aL om (aL om (aL (gU bO om) (aL (Gs jB om) (dV ⟨g3.toNat,om,λ h=>by simp [hv3.2 h] at c8o⟩))))
         ·have c8o:=c8;have c8:=nr c8;refine wn<|adA _ ?_ ?_
          ·(refine ⟨ob,dZ qy XF (hv3.1 (by simpa using c8o))⟩)
          ·exact ob
        ·refine bH (λ (g4:Int)=>0≤g4∧(∀k:Nat,(k:Int)<g4→∀j:Nat,j<k→(g_.ak.getD j ByteArray.empty).toList≠(g_.ak.getD k ByteArray.empty).toList)) (λ (g4:Int)=>(g_.ak.length - g4).toNat) ?_ ?_
         ·intro jk g4 JX IG;obtain ⟨FP,l6⟩:=JX;unfold M6;refine wi ?_ ?_<;>intro c9
          ·refine wm<|aH (EG ob) λ v6 hv6=>?_;refine bL ?_ ?_<;>intro c10
           ·have aiN:=c10;have c10:=nr c10;exact av (aL om (aL om (aL (gU bO om) (aL (Gs jB om) (aL (gU qy om) (dV (by obtain ⟨j,h1,h2⟩:=hv6.1 c10; rw [List.length_take] at h1; rw [P9 _ _ _ _ om] at h2; exact ⟨g4.toNat,j,om,om,h2⟩)))))))
           ·have aiN:=c10;have c10:=nr c10;refine wn<|IG _ ?_ ?_
            ·(refine ⟨ob,λ k hk j hj=>?_⟩; by_cases q:(k:Int)<g4; (exact l6 k q j hj); (have e:k=g4.toNat:=by omega); subst e; intro e2; have:=hv6.2 ⟨j,by rw [List.length_take]; omega,by rw [P9 _ _ _ _ om]; exact e2⟩; simp [this] at aiN)
            ·exact ob
          ·exact av (aL om (aL om (aL (gU bO om) (aL (Gs jB om) (aL (gU qy om) (aL (λ ⟨k,j,h1,h2,h3⟩=>l6 k om j h1 h3) rfl))))))
         ·(refine ⟨ob,λ j h1 h2=>by omega⟩)
       ·(refine ⟨ob,λ j hj=>by (try dsimp only at hj); omega⟩)
     ·(refine ⟨ob,λ j h1 h2=>by omega⟩)
   ·(refine ⟨ob,λ j hj=>by (try dsimp only at hj); omega⟩)
variable {p_:bn}
theorem aaz {i_:Int} (h1:0≤i_) (h2:i_<p_.ay.length) (h3:p_.ay.length≤2000000) (h4:∀g∈p_.ay,g.bS.length≤2000000∧g.ak.length≤2000000):W (Fv p_ i_) (λ r=>agS p_ i_.toNat r):=by
 have hgl:=h4 _ (getD_in (i:=i_.toNat) aG om);unfold Fv;refine wn<|aH (zU) λ v1 hv1=>?_;refine bL ?_ ?_<;>intro c1
 ·have gM:=c1;have c1:=nr c1;exact av<|dV (λ h=>by simp [hv1.2 h] at gM)
 ·have gM:=c1;have c1:=nr c1;refine bH (λ (g1:Int)=>0≤g1∧(∀k:Nat,(k:Int)<g1→(p_.ay.getD k aG).wI.toList≠(p_.ay.getD i_.toNat aG).wI.toList)) (λ (g1:Int)=>(i_ - g1).toNat) ?_ ?_
  ·intro aj g1 d9 bV;obtain ⟨dN,bO⟩:=d9;unfold NC;refine wi ?_ ?_<;>intro c2
   ·refine wn<|wi ?_ ?_<;>intro c3
    ·exact av (aL (λ h=>h (hv1.1 (by simpa using gM))) (dV ⟨g1.toNat,om,c3⟩))
    ·refine wn<|bV _ ?_ ?_
     ·(refine ⟨ob,dZ bO dN c3⟩)
     ·exact ob
   ·refine wi ?_ ?_<;>intro c4
    ·exact av (aL (λ h=>h (hv1.1 (by simpa using gM))) (aL (λ ⟨k,h1,h2⟩=>bO k om h2) (dV c4)))
    ·refine wi ?_ ?_<;>intro c5
     ·exact av (aL (λ h=>h (hv1.1 (by simpa using gM))) (aL (λ ⟨k,h1,h2⟩=>bO k om h2) (aL om (dV c5))))
     ·refine bH (λ (g2:Int)=>0≤g2∧(∀j:Nat,(j:Int)<g2→0≤(p_.ay.getD i_.toNat aG).bS.getD j 0∧(p_.ay.getD i_.toNat aG).bS.getD j 0<p_.bS)) (λ (g2:Int)=>((p_.ay.getD i_.toNat aG).bS.length - g2).toNat) ?_ ?_
      ·intro dJ g2 mO qx;obtain ⟨qU,jB⟩:=mO;unfold K6;refine wi ?_ ?_<;>intro c6
       ·refine wm<|wi ?_ ?_<;>intro c7
        ·exact av<|aL (λ h=>h (hv1.1 (by simpa using gM))) (aL (λ ⟨k,h1,h2⟩=>bO k om h2) (aL om (aL om (dV ⟨g2.toNat,om,om⟩))))
        ·refine wn<|qx _ ?_ ?_
         ·(refine ⟨ob,dZ jB qU om⟩)
         ·exact ob
       ·refine bH (λ (g3:Int)=>1≤g3∧(∀j:Nat,(j:Int)<g3→1≤j→(p_.ay.getD i_.toNat aG).bS.getD (j - 1) 0<(p_.ay.getD i_.toNat aG).bS.getD j 0)) (λ (g3:Int)=>((p_.ay.getD i_.toNat aG).bS.length - g3).toNat) ?_ ?_
        ·intro jV g3 adz adA;obtain ⟨XF,qy⟩:=adz;unfold K5;refine wi ?_ ?_<;>intro c8
         ·refine wm<|wn ?_;refine wi ?_ ?_<;>intro c9
          ·exact av<|aL (λ h=>h (hv1.1 (by simpa using gM))) (aL (λ ⟨k,h1,h2⟩=>bO k om h2) (aL om (aL om (aL (gU jB om) (dV ⟨g3.toNat,om,om,by rw [show g3.toNat - 1=(g3 - 1).toNat by omega]; omega⟩)))))
          ·refine wn<|adA _ ?_ ?_
           ·(refine ⟨ob,λ j h1 h2=>?_⟩; by_cases q:(j:Int)<g3; (exact qy j q h2); (have e:j=g3.toNat:=by omega); subst e; rw [show g3.toNat - 1=(g3 - 1).toNat by omega]; omega)
           ·exact ob
         ·refine bH (λ (g4:Int)=>0≤g4∧(∀j:Nat,(j:Int)<g4→Gp ((p_.ay.getD i_.toNat aG).ak.getD j ByteArray.empty))) (λ (g4:Int)=>((p_.ay.getD i_.toNat aG).ak.length - g4).toNat) ?_ ?_
          ·intro jk g4 JX IG;obtain ⟨FP,l6⟩:=JX;unfold K4;refine wi ?_ ?_<;>intro c10
           ·refine wn<|aH (zU) λ v4 hv4=>?_;refine bL ?_ ?_<;>intro c11
            ·have aoD:=c11;have c11:=nr c11;exact av<|aL (λ h=>h (hv1.1 (by simpa using gM))) (aL (λ ⟨k,h1,h2⟩=>bO k om h2) (aL om (aL om (aL (gU jB om) (aL (Gs qy om) (dV ⟨g4.toNat,om,λ h=>by simp [hv4.2 h] at aoD⟩))))))
            ·have aoD:=c11;have c11:=nr c11;refine wn<|IG _ ?_ ?_
             ·(refine ⟨ob,dZ l6 FP (hv4.1 (by simpa using aoD))⟩)
             ·exact ob
           ·refine bH (λ (g5:Int)=>0≤g5∧(∀k:Nat,(k:Int)<g5→∀j:Nat,j<k→((p_.ay.getD i_.toNat aG).ak.getD j ByteArray.empty).toList≠((p_.ay.getD i_.toNat aG).ak.getD k ByteArray.empty).toList)) (λ (g5:Int)=>((p_.ay.getD i_.toNat aG).ak.length - g5).toNat) ?_ ?_
            ·intro j5 g5 V7 V8;obtain ⟨Rl,Eh⟩:=V7;unfold K3;refine wi ?_ ?_<;>intro c12
             ·refine bH (λ (g8:Int)=>0≤g8∧(∀j:Nat,(j:Int)<g8→((p_.ay.getD i_.toNat aG).ak.getD j ByteArray.empty).toList≠((p_.ay.getD i_.toNat aG).ak.getD g5.toNat ByteArray.empty).toList)) (λ (g8:Int)=>(g5 - g8).toNat) ?_ ?_
              ·intro Z8 g8 aoE aoF;obtain ⟨anm,ak6⟩:=aoE;unfold KZ;refine wi ?_ ?_<;>intro c13
               ·refine wm<|wi ?_ ?_<;>intro c14
                ·exact av (aL (λ h=>h (hv1.1 (by simpa using gM))) (aL (λ ⟨k,h1,h2⟩=>bO k om h2) (aL om (aL om (aL (gU jB om) (aL (Gs qy om) (aL (gU l6 om) (dV ⟨g5.toNat,g8.toNat,om,om,c14⟩))))))))
                ·refine wn<|aoF _ ?_ ?_
                 ·(refine ⟨ob,dZ ak6 anm c14⟩)
                 ·exact ob
               ·refine wn<|V8 _ ?_ ?_
                ·(refine ⟨ob,λ k hk j hj=>?_⟩; by_cases q:(k:Int)<g5; (exact Eh k q j hj); (have e:k=g5.toNat:=by omega); subst e; exact ak6 j om)
                ·exact ob
              ·(refine ⟨ob,λ j hj=>by (try dsimp only at hj); omega⟩)
             ·exact av (aL (λ h=>h (hv1.1 (by simpa using gM))) (aL (λ ⟨k,h1,h2⟩=>bO k om h2) (aL om (aL om (aL (gU jB om) (aL (Gs qy om) (aL (gU l6 om) (aL (λ ⟨k,j,h1,h2,h3⟩=>Eh k om j h1 h3) rfl))))))))
            ·(refine ⟨ob,λ j h1 h2=>by omega⟩)
          ·(refine ⟨ob,λ j hj=>by (try dsimp only at hj); omega⟩)
        ·(refine ⟨ob,λ j h1 h2=>by omega⟩)
      ·(refine ⟨ob,λ j hj=>by (try dsimp only at hj); omega⟩)
  ·(refine ⟨ob,λ j hj=>by (try dsimp only at hj); omega⟩)
theorem Gt {l:List Int} {x:Int} (hn:n≤l.length):(l.take n).contains x=true↔∃k:Nat,k<n∧l.getD k 0=x:=by
 rw [List.contains_iff_mem,List.mem_take_iff_getElem];constructor
 ·rintro ⟨i,hi,e⟩;exact ⟨i,om,by rw [List.getD_eq_getElem?_getD,List.getElem?_eq_getElem om]; exact e⟩
 ·rintro ⟨k,hk,e⟩;rw [List.getD_eq_getElem?_getD,List.getElem?_eq_getElem om] at e;exact ⟨k,om,e⟩
def RsE (l:List eG) (i:Nat):Int→Prop:=
 J2 (∃j:Nat,(j:Int)<((l.getD i dn).dY).length∧¬(0≤((l.getD i dn).dY).getD j 0∧((l.getD i dn).dY).getD j 0<(i:Int))) 2<|
 J2 (∃j:Nat,1≤j∧(j:Int)<((l.getD i dn).dY).length∧((l.getD i dn).dY).getD j 0≤((l.getD i dn).dY).getD (j - 1) 0) 12<|
 λ r=>r=0
def RsA (l:List eG):Int→Prop:=J2 (32<(l.length:Int)) 3<|Fst l.length (RsE l)
theorem RsA.fun {l:List eG}:EF (RsA l):=.Jc (.fst λ _=>.Jc (.Jc .zero))
theorem uI {p:Prop} (hc:c≠0) (h:J2 p c A 0):¬p∧A 0:=by
 rcases h with ⟨_,h⟩ | h
 ·exact absurd h.symm hc
 ·exact h
theorem ak7 (h:Fst n E 0):∀k,k<n→E k 0:=by
 rcases h with ⟨_,_,_,_,h⟩ | h
 ·exact absurd rfl h
 ·exact h.1
theorem RsA.ok {l:List eG} (h:RsA l 0):akQ l:=by
 obtain ⟨h1,h2⟩:=uI (by decide) h;refine ⟨om,λ i hi=>kC 0 λ j hj=>?_⟩;obtain ⟨h3,_⟩:=uI (by decide) (ak7 h2 i hi);by_cases q:0≤((l.getD i dn).dY).getD j 0∧((l.getD i dn).dY).getD j 0<(i:Int)
 ·exact q
 ·exact absurd ⟨j,om,q⟩ h3
def ak8 (l:List eG) (s:List Bool):Prop:=(s.length:Int)=l.length∧∀i:Nat,(i:Int)<l.length→∀j:Nat,(j:Int)<((l.getD i dn).dY).length→s.getD i false=true→s.getD (((l.getD i dn).dY).getD j 0).toNat false=true
def DmA (l:List dD):Int→Prop:=J2 (16<(l.length:Int)) 3<|J2 (∃i:Nat,(i:Int)<l.length∧¬(-1≤(l.getD i dH).aN∧(l.getD i dH).aN<(i:Int))) 2<|λ r=>r=0
theorem DmA.fun {l:List dD}:EF (DmA l):=.Jc (.Jc .zero)
theorem DmA.ok {l:List dD} (h:DmA l 0):amJ l:=by
 obtain ⟨h1,h2⟩:=uI (by decide) h;obtain ⟨h3,_⟩:=uI (by decide) h2;refine ⟨om,λ i hi=>?_⟩;by_cases q : -1≤(l.getD i dH).aN∧(l.getD i dH).aN<(i:Int)
 ·exact q
 ·exact absurd ⟨i,om,q⟩ h3
def DgP (l:List dD) (s:List Bool) (i:Nat):Prop:=((l.getD i dH).fK=true→s.getD i false=true)∧(s.getD i false=true→0≤(l.getD i dH).aN→s.getD (l.getD i dH).aN.toNat false=true)
def RgP (l:List dD) (s:List Bool):Prop:=(s.length:Int)=l.length∧∀i:Nat,(i:Int)<l.length→DgP l s i
def yA (l:List aJ) (m:List Int):Prop:=∀i:Nat,(i:Int)<m.length→(0≤m.getD i 0∧m.getD i 0<l.length)∧∀k:Nat,k<i→m.getD k 0≠m.getD i 0
def ak9 (b:aS) (l:List aJ) (g:bF):Prop:=((g.dA.length:Int)=b.bR.length∧(g.fA.On.length:Int)=b.bD.length∧(g.fA.dQ.length:Int)=b.bD.length∧(g.dU.length:Int)=b.aY.length∧(g.fq.length:Int)=b.cB.length)∧
 (∀i:Nat,(i:Int)<g.dA.length→0≤g.dA.getD i 0∧g.dA.getD i 0<(b.bR.getD i aK).aM.length)∧∀i:Nat,(i:Int)<g.dP.length → -1≤(g.dP.getD i bB).gW∧(g.dP.getD i bB).gW<l.length
theorem zV (h1:∀g∈p_.ay,g.bS.length≤2000000∧g.ak.length≤2000000):W (vv p_) (λ r=>wD p_ r):=by
 unfold vv;refine wi ?_ ?_<;>intro c1
 ·exact av<|dV c1
 ·refine wi ?_ ?_<;>intro c2
  ·exact av<|aL om (dV c2)
  ·refine bH (λ (g1:(Int×(qD→Option Int)))=>0≤g1.1∧(∀j:Nat,(j:Int)<g1.1→agS p_ j 0)∧(∀s:ByteArray,Ch g1.2 (.s s)≠0↔∃k:Nat,(k:Int)<g1.1∧(p_.ay.getD k aG).wI=s)) (λ (g1:(Int×(qD→Option Int)))=>(p_.ay.length - g1.1).toNat) ?_ ?_
   ·intro aj g1 d9 bV;obtain ⟨dN,bO,bE⟩:=d9;unfold QU;refine wi ?_ ?_<;>intro c3
    ·have hgl:=h1 _ (getD_in (i:=g1.1.toNat) aG om);refine wn<|aH (J4) λ v5 hv5=>?_;refine bL ?_ ?_<;>intro c4
     ·have sj:=c4;have c4:=nr c4;exact av (aL om (aL om (Gr (i:=g1.1.toNat) om (λ k hk=>bO k om) (dV (λ h=>by simp [hv5.2 h] at sj)) (by decide))))
     ·have sj:=c4;have c4:=nr c4;refine wi ?_ ?_<;>intro c5
      ·exact av (aL om (aL om (Gr (i:=g1.1.toNat) om (λ k hk=>bO k om) (aL (λ h=>h (hv5.1 (by simpa using sj))) (dV (by obtain ⟨k,h1,h2⟩:=(bE _).1 c5; exact ⟨k,om,by rw [h2]⟩))) (by decide))))
      ·refine aH (abw hgl.1 hgl.2) λ v6 hv6=>?_;refine bL ?_ ?_<;>intro c6
       ·have c6o:=c6;have c6:=nr c6;exact av (aL om (aL om (Gr (i:=g1.1.toNat) om (λ k hk=>bO k om) (aL (λ h=>h (hv5.1 (by simpa using sj))) (aL (λ ⟨k,h1,h2⟩=>(bE _).2 ⟨k,om,Sw h2⟩ c5) hv6)) (c6))))
       ·have c6o:=c6;have c6:=nr c6;refine wn<|bV _ ?_ ?_
        ·(refine ⟨ob,dZ bO dN (aL (λ h=>h (hv5.1 (by simpa using sj))) (aL (λ ⟨k,h1,h2⟩=>(bE _).2 ⟨k,om,Sw h2⟩ c5) (by have e:v6=0:=(by simpa using c6o); rw [e] at hv6; exact hv6))),λ s=>?_⟩; dsimp only; rw [zn]; by_cases q:(.s s:qD)=.s (p_.ay.getD g1.1.toNat aG).wI; (rw [if_pos q]; constructor; (intro _; exact ⟨g1.1.toNat,om,(qD.s.inj q).symm⟩); (intro _; decide)); (rw [if_neg q,bE]; constructor; (rintro ⟨k,h1,h2⟩; exact ⟨k,om,h2⟩); (rintro ⟨k,h1,h2⟩; refine ⟨k,?_,h2⟩; by_cases e:(k:Int)<g1.1; (exact e); exfalso; apply q; rw [← h2,show k=g1.1.toNat by omega])))
        ·exact ob
    ·exact av (aL om (aL om (J3 (λ k hk=>bO k om))))
   ·(refine ⟨ob,λ j hj=>by dsimp only at hj; omega,λ s=>?_⟩; constructor; (intro h; exact absurd rfl h); (rintro ⟨k,h1,_⟩; dsimp only at h1; omega))
theorem Ej (h1:∀g∈p_.ay,g.bS.length≤2000000∧g.ak.length≤2000000):W (vY p_) (λ r=>wD p_ r):=by
 unfold vY;refine wi ?_ ?_<;>intro c1
 ·exact av<|dV c1
 ·refine wi ?_ ?_<;>intro c2
  ·exact av<|aL om (dV c2)
  ·refine bH (λ (g1:Int)=>0≤g1∧(∀j:Nat,(j:Int)<g1→agS p_ j 0)) (λ (g1:Int)=>(p_.ay.length - g1).toNat) ?_ ?_
   ·intro aj g1 d9 bV;obtain ⟨dN,bO⟩:=d9;unfold ND;refine wi ?_ ?_<;>intro c3
    ·refine aH (aaz om om om h1) λ v3 hv3=>?_;refine bL ?_ ?_<;>intro c4
     ·have sj:=c4;have c4:=nr c4;exact av (aL om (aL om (Gr (i:=g1.toNat) om (λ k hk=>bO k om) (hv3) (c4))))
     ·have sj:=c4;have c4:=nr c4;refine wn<|bV _ ?_ ?_
      ·(refine ⟨ob,dZ bO dN (by have e:v3=0:=(by simpa using sj); rw [e] at hv3; exact hv3)⟩)
      ·exact ob
    ·exact av (aL om (aL om (J3 (λ k hk=>bO k om))))
   ·(refine ⟨ob,λ j hj=>by (try dsimp only at hj); omega⟩)
theorem El {l_:List eG} (h1:∀g∈l_,g.dY.length≤2000000):W (vQ l_) (λ r=>RsA l_ r):=by
 unfold vQ;refine wi ?_ ?_<;>intro c1
 ·exact av<|dV c1
 ·refine bH (λ (g1:Int)=>0≤g1∧(∀j:Nat,(j:Int)<g1→RsE l_ j 0)) (λ (g1:Int)=>(l_.length - g1).toNat) ?_ ?_
  ·intro aj g1 d9 bV;obtain ⟨dN,bO⟩:=d9;unfold Nb;refine wi ?_ ?_<;>intro c2
   ·have hgl:=h1 _ (getD_in (i:=g1.toNat) dn om);refine wn<|bH (λ (g6:Int)=>0≤g6∧(∀j:Nat,(j:Int)<g6→0≤((l_.getD g1.toNat dn).dY).getD j 0∧((l_.getD g1.toNat dn).dY).getD j 0<((g1.toNat:Nat):Int))) (λ (g6:Int)=>(((l_.getD g1.toNat dn).dY).length - g6).toNat) ?_ ?_
    ·intro jG g6 OC JY;obtain ⟨LG,wu⟩:=OC;unfold Na;refine wi ?_ ?_<;>intro c3
     ·refine wn<|wi ?_ ?_<;>intro c4
      ·exact av<|aL om (Gr (i:=g1.toNat) om (λ k hk=>bO k om) (dV ⟨g6.toNat,om,om⟩) (by decide))
      ·refine wn<|JY _ ?_ ?_
       ·(refine ⟨ob,dZ wu LG om⟩)
       ·exact ob
     ·refine bH (λ (g7:Int)=>1≤g7∧(∀j:Nat,(j:Int)<g7→1≤j→((l_.getD g1.toNat dn).dY).getD (j - 1) 0<((l_.getD g1.toNat dn).dY).getD j 0)) (λ (g7:Int)=>(((l_.getD g1.toNat dn).dY).length - g7).toNat) ?_ ?_
      ·intro nQ g7 aaA X8;obtain ⟨aaB,Cb⟩:=aaA;unfold Kt;refine wi ?_ ?_<;>intro c5
       ·refine wm<|wn ?_;refine wi ?_ ?_<;>intro c6
        ·exact av<|aL om (Gr (i:=g1.toNat) om (λ k hk=>bO k om) (aL (gU wu om) (dV ⟨g7.toNat,om,om,by rw [show g7.toNat - 1=(g7 - 1).toNat by omega]; omega⟩)) (by decide))
        ·refine wn<|X8 _ ?_ ?_
         ·(refine ⟨ob,λ j h1 h2=>?_⟩; by_cases q:(j:Int)<g7; (exact Cb j q h2); (have e:j=g7.toNat:=by omega); subst e; rw [show g7.toNat - 1=(g7 - 1).toNat by omega]; omega)
         ·exact ob
       ·refine wn<|bV _ ?_ ?_
        ·(refine ⟨ob,dZ bO dN (aL (gU wu om) (aL (Gs Cb om) rfl))⟩)
        ·exact ob
      ·(refine ⟨ob,λ j h1 h2=>by omega⟩)
    ·(refine ⟨ob,λ j hj=>by (try dsimp only at hj); omega⟩)
   ·exact av<|aL om (J3 λ k hk=>bO k om)
  ·(refine ⟨ob,λ j hj=>by (try dsimp only at hj); omega⟩)
theorem Em {l_:List eG} (h1:∀g∈l_,g.dY.length≤2000000):W (vZ l_) (λ r=>RsA l_ r):=by
 unfold vZ;refine wi ?_ ?_<;>intro c1
 ·exact av<|dV c1
 ·refine bH (λ (g1:Int)=>0≤g1∧(∀j:Nat,(j:Int)<g1→RsE l_ j 0)) (λ (g1:Int)=>(l_.length - g1).toNat) ?_ ?_
  ·intro aj g1 d9 bV;obtain ⟨dN,bO⟩:=d9;unfold NH;refine wi ?_ ?_<;>intro c2
   ·have hgl:=h1 _ (getD_in (i:=g1.toNat) dn om);refine bH (λ (g6:Int)=>0≤g6∧(∀j:Nat,(j:Int)<g6→0≤((l_.getD g1.toNat dn).dY).getD j 0∧((l_.getD g1.toNat dn).dY).getD j 0<((g1.toNat:Nat):Int))) (λ (g6:Int)=>(((l_.getD g1.toNat dn).dY).length - g6).toNat) ?_ ?_
    ·intro jG g6 OC JY;obtain ⟨LG,wu⟩:=OC;unfold NG;refine wn<|wi ?_ ?_<;>intro c3
     ·refine wm<|wm ?_;refine wi ?_ ?_<;>intro c4
      ·exact av<|aL om (Gr (i:=g1.toNat) om (λ k hk=>bO k om) (dV ⟨g6.toNat,om,om⟩) (by decide))
      ·refine wn<|JY _ ?_ ?_
       ·(refine ⟨ob,dZ wu LG om⟩)
       ·exact ob
     ·refine bH (λ (g7:Int)=>1≤g7∧(∀j:Nat,(j:Int)<g7→1≤j→((l_.getD g1.toNat dn).dY).getD (j - 1) 0<((l_.getD g1.toNat dn).dY).getD j 0)) (λ (g7:Int)=>(((l_.getD g1.toNat dn).dY).length - g7).toNat) ?_ ?_
      ·intro nQ g7 aaA X8;obtain ⟨aaB,Cb⟩:=aaA;unfold K7;refine wn<|wi ?_ ?_<;>intro c5
       ·refine wm<|wm ?_;refine wn<|wi ?_ ?_<;>intro c6
        ·exact av<|aL om (Gr (i:=g1.toNat) om (λ k hk=>bO k om) (aL (gU wu om) (dV ⟨g7.toNat,om,om,by rw [show g7.toNat - 1=(g7 - 1).toNat by omega]; omega⟩)) (by decide))
        ·refine wn<|X8 _ ?_ ?_
         ·(refine ⟨ob,λ j h1 h2=>?_⟩; by_cases q:(j:Int)<g7; (exact Cb j q h2); (have e:j=g7.toNat:=by omega); subst e; rw [show g7.toNat - 1=(g7 - 1).toNat by omega]; omega)
         ·exact ob
       ·refine wn<|bV _ ?_ ?_
        ·(refine ⟨ob,dZ bO dN (aL (gU wu om) (aL (Gs Cb om) rfl))⟩)
        ·exact ob
      ·(refine ⟨ob,λ j h1 h2=>by omega⟩)
    ·(refine ⟨ob,λ j hj=>by (try dsimp only at hj); omega⟩)
   ·exact av<|aL om (J3 λ k hk=>bO k om)
  ·(refine ⟨ob,λ j hj=>by (try dsimp only at hj); omega⟩)
variable {dL:List Bool}
theorem X9 {l_:List eG} (h1:akQ l_) (h2:∀g∈l_,g.dY.length≤2000000):W (CF l_ dL) (λ r=>r=true↔ak8 l_ dL):=by
 obtain ⟨p1,p2⟩:=h1;unfold CF;refine wi ?_ ?_<;>intro c1
 ·refine av ?_;(constructor; (intro e; cases e); (rintro ⟨a,_⟩; omega))
 ·refine bH (λ (g1:Int)=>0≤g1∧(∀i:Nat,(i:Int)<g1→∀j:Nat,(j:Int)<((l_.getD i dn).dY).length→dL.getD i false=true→dL.getD (((l_.getD i dn).dY).getD j 0).toNat false=true)) (λ (g1:Int)=>(l_.length - g1).toNat) ?_ ?_
  ·intro aj g1 d9 bV;obtain ⟨dN,bO⟩:=d9;unfold KO;refine wi ?_ ?_<;>intro c2
   ·have hgl:=h2 _ (getD_in (i:=g1.toNat) dn om);refine wn<|bH (λ (g4:Int)=>0≤g4∧(∀j:Nat,(j:Int)<g4→dL.getD g1.toNat false=true→dL.getD (((l_.getD g1.toNat dn).dY).getD j 0).toNat false=true)) (λ (g4:Int)=>(((l_.getD g1.toNat dn).dY).length - g4).toNat) ?_ ?_
    ·intro jk g4 JX IG;obtain ⟨FP,l6⟩:=JX;unfold KN;refine wi ?_ ?_<;>intro c3
     ·have hx:=p2 g1.toNat om _ (getD_in (i:=g4.toNat) 0 om);refine wm<|wn ?_;refine bL ?_ ?_<;>intro c4
      ·have sj:=c4;have c4:=nr c4;refine av ?_;(constructor; (intro e; cases e); (rintro ⟨_,a⟩; simp only [Bool.and_eq_true,Bool.not_eq_true'] at sj; have:=a g1.toNat om g4.toNat om sj.1; rw [this] at sj; cases sj.2))
      ·have sj:=c4;have c4:=nr c4;refine wn<|IG _ ?_ ?_
       ·(refine ⟨ob,λ j h1 hr=>?_⟩; by_cases q:(j:Int)<g4; (exact l6 j q hr); (have e:j=g4.toNat:=by omega); subst e; simp only [hr,Bool.true_and,Bool.not_eq_false'] at sj; exact sj)
       ·exact ob
     ·refine wn<|bV _ ?_ ?_
      ·(refine ⟨ob,λ i hi j hj hr=>?_⟩; by_cases q:(i:Int)<g1; (exact bO i q j hj hr); (have e:i=g1.toNat:=by omega); subst e; exact l6 j om hr)
      ·exact ob
    ·(refine ⟨ob,λ j h1 h2=>by omega⟩)
   ·refine av ?_;(constructor; (intro _; exact ⟨om,λ i hi=>bO i om⟩); (intro _; rfl))
  ·(refine ⟨ob,λ j h1 h2=>by omega⟩)
theorem Ya {l_:List eG} (h1:∀g∈l_,g.dY.length≤2000000):W (CG l_ dL) (λ r=>(r=true↔RsA l_ 0∧ak8 l_ dL)):=by
 unfold CG;refine aH (El ob) λ v1 hv1=>?_;refine aH (rA λ hc=>X9 (by have e:v1=0:=(by simpa using hc); rw [e] at hv1; exact hv1.ok) h1) λ v2 hv2=>?_;refine av ?_;(constructor; (intro hr; simp only [Bool.and_eq_true] at hr; have e:v1=0:=(by simpa using hr.1); exact ⟨e ▸ hv1,(hv2 hr.1).1 hr.2⟩); (rintro ⟨a,b⟩; have e:=RsA.fun _ _ hv1 a; subst e; have:=(hv2 rfl).2 b; rw [this]; rfl))
theorem Yb {l_:List eG} (h1:∀g∈l_,g.dY.length≤2000000):W (CV l_ dL) (λ r=>(r=true↔RsA l_ 0∧ak8 l_ dL)):=by
 unfold CV;refine aH (Em ob) λ v1 hv1=>?_;refine wi ?_ ?_<;>intro c1
 ·refine av ?_;(constructor; (intro e; cases e); (rintro ⟨a,b,_⟩; have e:=RsA.fun _ _ hv1 a; omega))
 ·have hok:RsA l_ 0:=(by have e:v1=0:=om; rw [e] at hv1; exact hv1);obtain ⟨p1,p2⟩:=hok.ok;refine bH (λ (g1:Int)=>0≤g1∧(∀i:Nat,(i:Int)<g1→∀j:Nat,(j:Int)<((l_.getD i dn).dY).length→dL.getD i false=true→dL.getD (((l_.getD i dn).dY).getD j 0).toNat false=true)) (λ (g1:Int)=>(l_.length - g1).toNat) ?_ ?_
  ·intro aj g1 d9 bV;obtain ⟨dN,bO⟩:=d9;unfold Lm;refine wi ?_ ?_<;>intro c2
   ·have hgl:=h1 _ (getD_in (i:=g1.toNat) dn om);refine bH (λ (g4:Int)=>0≤g4∧(∀j:Nat,(j:Int)<g4→dL.getD g1.toNat false=true→dL.getD (((l_.getD g1.toNat dn).dY).getD j 0).toNat false=true)) (λ (g4:Int)=>(((l_.getD g1.toNat dn).dY).length - g4).toNat) ?_ ?_
    ·intro jk g4 JX IG;obtain ⟨FP,l6⟩:=JX;unfold Ll;refine wn<|wi ?_ ?_<;>intro c3
     ·have hx:=p2 g1.toNat om _ (getD_in (i:=g4.toNat) 0 om);refine wm<|wm ?_;refine bL ?_ ?_<;>intro c4
      ·have sj:=c4;have c4:=nr c4;refine av ?_;(constructor; (intro e; cases e); (rintro ⟨_,_,a⟩; simp only [Bool.and_eq_true,Bool.not_eq_true'] at sj; have:=a g1.toNat om g4.toNat om sj.1; rw [this] at sj; cases sj.2))
      ·have sj:=c4;have c4:=nr c4;refine wn<|IG _ ?_ ?_
       ·(refine ⟨ob,λ j h1 hr=>?_⟩; by_cases q:(j:Int)<g4; (exact l6 j q hr); (have e:j=g4.toNat:=by omega); subst e; simp only [hr,Bool.true_and,Bool.not_eq_false'] at sj; exact sj)
       ·exact ob
     ·refine wn<|bV _ ?_ ?_
      ·(refine ⟨ob,λ i hi j hj hr=>?_⟩; by_cases q:(i:Int)<g1; (exact bO i q j hj hr); (have e:i=g1.toNat:=by omega); subst e; exact l6 j om hr)
      ·exact ob
    ·(refine ⟨ob,λ j h1 h2=>by omega⟩)
   ·refine av ?_;(constructor; (intro _; exact ⟨hok,om,λ i hi=>bO i om⟩); (intro _; rfl))
  ·(refine ⟨ob,λ j h1 h2=>by omega⟩)
theorem Bt {l_:List dD}:W (sI l_) (λ r=>DmA l_ r):=by
 unfold sI;refine wi ?_ ?_<;>intro c1
 ·exact av<|dV c1
 ·refine bH (λ (g1:Int)=>0≤g1∧(∀j:Nat,(j:Int)<g1 → -1≤(l_.getD j dH).aN∧(l_.getD j dH).aN<(j:Int))) (λ (g1:Int)=>(l_.length - g1).toNat) ?_ ?_
  ·intro aj g1 d9 bV;obtain ⟨dN,bO⟩:=d9;unfold Ku;refine wi ?_ ?_<;>intro c2
   ·refine wn<|wi ?_ ?_<;>intro c3
    ·exact av<|aL om (dV ⟨g1.toNat,om,om⟩)
    ·refine wn<|bV _ ?_ ?_
     ·(refine ⟨ob,dZ bO dN om⟩)
     ·exact ob
   ·exact av<|aL om (aL (gU bO om) rfl)
  ·(refine ⟨ob,λ j hj=>by (try dsimp only at hj); omega⟩)
theorem En {l_:List dD}:W (wh l_) (λ r=>DmA l_ r):=by
 unfold wh;refine wi ?_ ?_<;>intro c1
 ·exact av<|dV c1
 ·refine bH (λ (g1:Int)=>0≤g1∧(∀j:Nat,(j:Int)<g1 → -1≤(l_.getD j dH).aN∧(l_.getD j dH).aN<(j:Int))) (λ (g1:Int)=>(l_.length - g1).toNat) ?_ ?_
  ·intro aj g1 d9 bV;obtain ⟨dN,bO⟩:=d9;unfold NI;refine wi ?_ ?_<;>intro c2
   ·refine wm<|wi ?_ ?_<;>intro c3
    ·exact av<|aL om (dV ⟨g1.toNat,om,om⟩)
    ·refine wn<|bV _ ?_ ?_
     ·(refine ⟨ob,dZ bO dN om⟩)
     ·exact ob
   ·exact av<|aL om (aL (gU bO om) rfl)
  ·(refine ⟨ob,λ j hj=>by (try dsimp only at hj); omega⟩)
variable {qM:List Bool}
theorem Yc {l_:List dD} (h1:amJ l_):W (CJ l_ qM) (λ r=>r=true↔RgP l_ qM):=by
 obtain ⟨p1,p2⟩:=h1;unfold CJ;refine wi ?_ ?_<;>intro c1
 ·refine av ?_;(constructor; (intro e; cases e); (rintro ⟨a,_⟩; omega))
 ·refine bH (λ (g1:Int)=>0≤g1∧(∀j:Nat,(j:Int)<g1→DgP l_ qM j)) (λ (g1:Int)=>(l_.length - g1).toNat) ?_ ?_
  ·intro aj g1 d9 bV;obtain ⟨dN,bO⟩:=d9;unfold KP;refine wi ?_ ?_<;>intro c2
   ·have hx:=p2 g1.toNat om;refine wm<|wm ?_;refine bL ?_ ?_<;>intro c3
    ·have jI:=c3;have c3:=nr c3;refine av ?_;(constructor; (intro e; cases e); (rintro ⟨_,this⟩; have hd:=this g1.toNat om; obtain ⟨d1,d2⟩:=hd; revert d1 d2; cases hA:(l_.getD g1.toNat dH).fK<;>cases hB:qM.getD g1.toNat false<;>simp_all))
    ·have jI:=c3;have c3:=nr c3;refine wn<|bV _ ?_ ?_
     ·(refine ⟨ob,dZ bO dN ?_⟩; unfold DgP; revert jI; cases hA:(l_.getD g1.toNat dH).fK<;>cases hB:qM.getD g1.toNat false<;>simp)
     ·exact ob
   ·refine av ?_;(constructor; (intro _; exact ⟨om,λ i hi=>bO i om⟩); (intro _; rfl))
  ·(refine ⟨ob,λ j hj=>by (try dsimp only at hj); omega⟩)
theorem Yd {l_:List dD} :W (CK l_ qM) (λ r=>(r=true↔DmA l_ 0∧RgP l_ qM)):=by
 unfold CK;refine aH (Bt) λ v1 hv1=>?_;refine aH (rA λ hc=>Yc (by have e:v1=0:=(by simpa using hc); rw [e] at hv1; exact hv1.ok)) λ v2 hv2=>?_;refine av ?_;(constructor; (intro hr; simp only [Bool.and_eq_true] at hr; have e:v1=0:=(by simpa using hr.1); exact ⟨e ▸ hv1,(hv2 hr.1).1 hr.2⟩); (rintro ⟨a,b⟩; have e:=DmA.fun _ _ hv1 a; subst e; have:=(hv2 rfl).2 b; rw [this]; rfl))
theorem aaC {l_:List dD} :W (FI l_ qM) (λ r=>(r=true↔DmA l_ 0∧RgP l_ qM)):=by
 unfold FI;refine aH (En) λ v1 hv1=>?_;refine wi ?_ ?_<;>intro c1
 ·refine av ?_;(constructor; (intro e; cases e); (rintro ⟨a,b,_⟩; have e:=DmA.fun _ _ hv1 a; omega))
 ·have hok:DmA l_ 0:=(by have e:v1=0:=om; rw [e] at hv1; exact hv1);obtain ⟨p1,p2⟩:=hok.ok;refine bH (λ (g1:Int)=>0≤g1∧(∀j:Nat,(j:Int)<g1→DgP l_ qM j)) (λ (g1:Int)=>(l_.length - g1).toNat) ?_ ?_
  ·intro aj g1 d9 bV;obtain ⟨dN,bO⟩:=d9;unfold N7;refine wi ?_ ?_<;>intro c2
   ·have hx:=p2 g1.toNat om;refine wm<|wm ?_;refine wm<|bL ?_ ?_<;>intro c3
    ·have jI:=c3;have c3:=nr c3;refine av ?_;(constructor; (intro e; cases e); (rintro ⟨_,_,this⟩; have hd:=this g1.toNat om; obtain ⟨d1,d2⟩:=hd; revert d1 d2; cases hA:(l_.getD g1.toNat dH).fK<;>cases hB:qM.getD g1.toNat false<;>simp_all))
    ·have jI:=c3;have c3:=nr c3;refine wn<|bV _ ?_ ?_
     ·(refine ⟨ob,dZ bO dN ?_⟩; unfold DgP; revert jI; cases hA:(l_.getD g1.toNat dH).fK<;>cases hB:qM.getD g1.toNat false<;>simp)
     ·exact ob
   ·refine av ?_;(constructor; (intro _; exact ⟨hok,om,λ i hi=>bO i om⟩); (intro _; rfl))
  ·(refine ⟨ob,λ j hj=>by (try dsimp only at hj); omega⟩)
variable {l_:List aJ} {ah:List Int}
theorem Sy (h1:l_.length≤2000000) (h2:ah.length≤2000000):W (uP l_ ah) (λ r=>r=true↔yA l_ ah):=by
 unfold uP;refine bH (λ (g1:Int)=>0≤g1∧(∀i:Nat,(i:Int)<g1→(0≤ah.getD i 0∧ah.getD i 0<l_.length)∧∀k:Nat,k<i→ah.getD k 0≠ah.getD i 0)) (λ (g1:Int)=>(ah.length - g1).toNat) ?_ ?_
 ·intro aj g1 d9 bV;obtain ⟨dN,bO⟩:=d9;unfold DN;refine wi ?_ ?_<;>intro c1
  ·refine wm<|aH (pQ) λ v5 hv5=>?_;subst v5;refine wn<|aH (gV λ hc=>iT ob) λ v6 hv6=>?_;subst v6;refine bL ?_ ?_<;>intro c2
   ·have kE:=c2;have c2:=nr c2;refine av ?_;(constructor; (intro e; cases e); (intro a; obtain ⟨b,d⟩:=a g1.toNat om; simp only [Bool.or_eq_true] at kE; rcases kE with c | c; (simp only [Bool.not_eq_true',Bool.and_eq_false_iff,decide_eq_false_iff_not] at c; omega); (obtain ⟨k,h3,h4⟩:=(Gt om).1 c; exact absurd h4 (d k h3))))
   ·have kE:=c2;have c2:=nr c2;refine wn<|bV _ ?_ ?_
    ·(refine ⟨ob,dZ bO dN ?_⟩; simp only [Bool.or_eq_false_iff] at kE; refine ⟨(by have:=kE.1; simp only [Bool.not_eq_false',Bool.and_eq_true,decide_eq_true_eq] at this; omega),λ k hk e=>?_⟩; rw [(Gt om).2 ⟨k,hk,e⟩] at kE; cases kE.2)
    ·exact ob
  ·refine av ?_;(constructor; (intro _ i hi; exact bO i om); (intro _; rfl))
 ·(refine ⟨ob,λ j hj=>by (try dsimp only at hj); omega⟩)
theorem sW (h1:l_.length≤2000000) (h2:ah.length≤2000000):W (nK l_ ah) (λ r=>r=true↔yA l_ ah):=by
 unfold nK;refine bH (λ (g1:Int)=>0≤g1∧(∀i:Nat,(i:Int)<g1→(0≤ah.getD i 0∧ah.getD i 0<l_.length)∧∀k:Nat,k<i→ah.getD k 0≠ah.getD i 0)) (λ (g1:Int)=>(ah.length - g1).toNat) ?_ ?_
 ·intro aj g1 d9 bV;obtain ⟨dN,bO⟩:=d9;unfold H8;refine wi ?_ ?_<;>intro c1
  ·refine wm<|wi ?_ ?_<;>intro c2
   ·refine av ?_;(constructor; (intro e; cases e); (intro a; obtain ⟨b,d⟩:=a g1.toNat om; omega))
   ·refine bH (λ (g4:Int)=>0≤g4∧(∀k:Nat,(k:Int)<g4→ah.getD k 0≠ah.getD g1.toNat 0)) (λ (g4:Int)=>(g1 - g4).toNat) ?_ ?_
    ·intro jk g4 JX IG;obtain ⟨FP,l6⟩:=JX;unfold H7;refine wi ?_ ?_<;>intro c3
     ·refine wm<|wi ?_ ?_<;>intro c4
      ·refine av ?_;(constructor; (intro e; cases e); (intro a; obtain ⟨b,d⟩:=a g1.toNat om; exact absurd c4 (d g4.toNat om)))
      ·refine wn<|IG _ ?_ ?_
       ·(refine ⟨ob,dZ l6 FP c4⟩)
       ·exact ob
     ·refine wn<|bV _ ?_ ?_
      ·(refine ⟨ob,dZ bO dN ⟨om,λ k hk=>l6 k om⟩⟩)
      ·exact ob
    ·(refine ⟨ob,λ j hj=>by (try dsimp only at hj); omega⟩)
  ·refine av ?_;(constructor; (intro _ i hi; exact bO i om); (intro _; rfl))
 ·(refine ⟨ob,λ j hj=>by (try dsimp only at hj); omega⟩)
def NdE (b:aS) (n:aJ) (dv:Int):Int→Prop:=
 J2 (32<(n.bY.length:Int)∨32<(n.fJ.length:Int)∨10<(n.ak.length:Int)) 3<|
 J2 (∃j:Nat,(j:Int)<n.bY.length∧¬abo b.bR.length (n.bY.getD j cZ)) 2<|
 J2 (∃j:Nat,(j:Int)<n.fJ.length∧¬agN b.bD.length (n.fJ.getD j dG)) 2<|
 J2 (∃j:Nat,(j:Int)<n.ak.length∧¬Gp (n.ak.getD j ByteArray.empty)) 1<|
 J2 (∃j:Nat,(j:Int)<n.aY.length∧¬(0≤n.aY.getD j 0∧n.aY.getD j 0<b.aY.length)) 2<|
 J2 (¬(-1≤n.fI∧n.fI<b.cB.length)) 2<|
 J2 (∃j:Nat,(j:Int)<n.bT.length∧¬(0≤n.bT.getD j 0∧n.bT.getD j 0<dv)) 2<|
 J2 (∃j:Nat,1≤j∧(j:Int)<n.bT.length∧n.bT.getD j 0≤n.bT.getD (j - 1) 0) 12<|
 λ r=>r=0
variable {b:aS}
theorem NdE.fun {n:aJ} {dv:Int}:EF (NdE b n dv):=.Jc (.Jc (.Jc (.Jc (.Jc (.Jc (.Jc (.Jc .zero)))))))
def OI (b:aS):Int→Prop:=Thn (λ r=>r=eD b.bR)<|Thn (λ r=>r=Sp.eD b.bD)<|Thn (wD b.aR)<|Thn (RsA b.aY) (DmA b.cB)
theorem OI.fun:EF (OI b):=.thn (λ _ _ h k=>h.trans k.symm) (.thn (λ _ _ h k=>h.trans k.symm) (.thn wD.fun (.thn RsA.fun DmA.fun)))
def mQ (b:aS) (l:List aJ):Int→Prop:=Thn (OI b)<|J2 (12<(l.length:Int)) 3<|Fst l.length λ i=>NdE b (l.getD i aZ) l.length
theorem mQ.fun {l:List aJ}:EF (mQ b l):=.thn OI.fun (.Jc (.fst λ _=>NdE.fun))
variable {b_:aS}
theorem aaD (h1:Ef b_) (h2:∀g∈b_.aR.ay,g.bS.length≤2000000∧g.ak.length≤2000000):W (Af b_) (λ r=>OI b_ r):=by
 obtain ⟨z1,z2,z3,z4,z5,z6,z7⟩:=h1;unfold Af;refine aH (yw (uF ob)) λ v1 hv1=>?_;subst v1;refine wi ?_ ?_<;>intro c1
 ·exact av<|Gq rfl c1
 ·refine aH (Sp.xV ob) λ v2 hv2=>?_;subst v2;refine wi ?_ ?_<;>intro c2
  ·exact av<|kF c1.symm (Gq rfl c2)
  ·refine aH (zV h2) λ v3 hv3=>?_;refine wi ?_ ?_<;>intro c3
   ·exact av<|kF c1.symm (kF c2.symm (Gq hv3 c3))
   ·refine aH (El ob) λ v4 hv4=>?_;refine wi ?_ ?_<;>intro c4
    ·exact av<|kF c1.symm (kF c2.symm (kF (c3 ▸ hv3) (Gq hv4 c4)))
    ·refine aH (Bt) λ v5 hv5=>?_;exact av<|kF c1.symm (kF c2.symm (kF (c3 ▸ hv3) (kF (c4 ▸ hv4) hv5)))
theorem aaE (h1:Ef b_) (h2:∀g∈b_.aR.ay,g.bS.length≤2000000∧g.ak.length≤2000000):W (Fw b_) (λ r=>OI b_ r):=by
 obtain ⟨z1,z2,z3,z4,z5,z6,z7⟩:=h1;unfold Fw;refine aH (zS ob) λ v1 hv1=>?_;subst v1;refine wi ?_ ?_<;>intro c1
 ·exact av<|Gq rfl c1
 ·refine aH (Sp.zQ ob) λ v2 hv2=>?_;subst v2;refine wi ?_ ?_<;>intro c2
  ·exact av<|kF c1.symm (Gq rfl c2)
  ·refine aH (Ej h2) λ v3 hv3=>?_;refine wi ?_ ?_<;>intro c3
   ·exact av<|kF c1.symm (kF c2.symm (Gq hv3 c3))
   ·refine aH (Em ob) λ v4 hv4=>?_;refine wi ?_ ?_<;>intro c4
    ·exact av<|kF c1.symm (kF c2.symm (kF (c3 ▸ hv3) (Gq hv4 c4)))
    ·refine aH (En) λ v5 hv5=>?_;exact av<|kF c1.symm (kF c2.symm (kF (c3 ▸ hv3) (kF (c4 ▸ hv4) hv5)))
theorem abx {n_:aJ} {iG:Int} (h1:Ef b_) (h2:0≤iG) (h3:iG≤2000000) (h4:n_.aY.length≤2000000) (h5:n_.bT.length≤2000000):W (JC b_ n_ iG) (λ r=>NdE b_ n_ iG r):=by
 obtain ⟨z1,z2,z3,z4,z5,z6,z7⟩:=h1;unfold JC;refine wi ?_ ?_<;>intro c1
 ·exact av<|dV om
 ·refine bH (λ (g1:Int)=>0≤g1∧(∀j:Nat,(j:Int)<g1→abo b_.bR.length (n_.bY.getD j cZ))) (λ (g1:Int)=>(n_.bY.length - g1).toNat) ?_ ?_
  ·intro aj g1 d9 bV;obtain ⟨dN,bO⟩:=d9;unfold QX;refine wi ?_ ?_<;>intro c2
   ·refine wm<|aH (pQ) λ v3 hv3=>?_;subst v3;refine wi ?_ ?_<;>intro c3
    ·exact av (aL om (dV ⟨g1.toNat,om,λ ⟨_,_,_,_,_⟩=>by omega⟩))
    ·refine wn<|bV _ ?_ ?_
     ·(refine ⟨ob,dZ bO dN ⟨om,om,om,om,om⟩⟩)
     ·exact ob
   ·refine bH (λ (g2:Int)=>0≤g2∧(∀j:Nat,(j:Int)<g2→agN b_.bD.length (n_.fJ.getD j dG))) (λ (g2:Int)=>(n_.fJ.length - g2).toNat) ?_ ?_
    ·intro dJ g2 mO qx;obtain ⟨qU,jB⟩:=mO;unfold Nn;refine wi ?_ ?_<;>intro c4
     ·refine wm<|aH (pQ) λ v8 uG=>?_;subst v8;refine aH (gV λ hc=>lT (pQ)) λ v9 Sl=>?_;subst v9;refine wi ?_ ?_<;>intro c5
      ·exact av (aL om (aL (gU bO om) (dV ⟨g2.toNat,om,λ ⟨_,_,_,_,_,_,_⟩=>by omega⟩)))
      ·refine wn<|qx _ ?_ ?_
       ·(refine ⟨ob,dZ jB qU ⟨om,om,om,om,om,om,om⟩⟩)
       ·exact ob
     ·refine bH (λ (g3:Int)=>0≤g3∧(∀j:Nat,(j:Int)<g3→Gp (n_.ak.getD j ByteArray.empty))) (λ (g3:Int)=>(n_.ak.length - g3).toNat) ?_ ?_
      ·intro jV g3 adz adA;obtain ⟨XF,qy⟩:=adz;unfold Nl;refine wi ?_ ?_<;>intro c6
       ·refine wn<|aH (J4) λ v12 aae=>?_;refine bL ?_ ?_<;>intro c7
        ·have XC:=c7;have c7:=nr c7;exact av (aL om (aL (gU bO om) (aL (gU jB om) (dV ⟨g3.toNat,om,λ h=>by simp [aae.2 h] at XC⟩))))
        ·have XC:=c7;have c7:=nr c7;refine wn<|adA _ ?_ ?_
         ·(refine ⟨ob,dZ qy XF (aae.1 (by simpa using XC))⟩)
         ·exact ob
       ·refine bH (λ (g4:Int)=>0≤g4∧(∀j:Nat,(j:Int)<g4→0≤n_.aY.getD j 0∧n_.aY.getD j 0<b_.aY.length)) (λ (g4:Int)=>(n_.aY.length - g4).toNat) ?_ ?_
        ·intro jk g4 JX IG;obtain ⟨FP,l6⟩:=JX;unfold Nk;refine wi ?_ ?_<;>intro c8
         ·refine wm<|aH (pQ) λ v15 T9=>?_;subst v15;refine wi ?_ ?_<;>intro c9
          ·exact av (aL om (aL (gU bO om) (aL (gU jB om) (aL (gU qy om) (dV ⟨g4.toNat,om,om⟩)))))
          ·refine wn<|IG _ ?_ ?_
           ·(refine ⟨ob,dZ l6 FP om⟩)
           ·exact ob
         ·refine wn<|aH (pQ) λ v16 agC=>?_;subst v16;refine wi ?_ ?_<;>intro c10
          ·exact av (aL om (aL (gU bO om) (aL (gU jB om) (aL (gU qy om) (aL (gU l6 om) (dV om))))))
          ·refine bH (λ (g5:Int)=>0≤g5∧(∀j:Nat,(j:Int)<g5→0≤n_.bT.getD j 0∧n_.bT.getD j 0<iG)) (λ (g5:Int)=>(n_.bT.length - g5).toNat) ?_ ?_
           ·intro j5 g5 V7 V8;obtain ⟨Rl,Eh⟩:=V7;unfold Nj;refine wi ?_ ?_<;>intro c11
            ·refine wm<|aH (pQ) λ v19 atN=>?_;subst v19;refine wi ?_ ?_<;>intro c12
             ·exact av (aL om (aL (gU bO om) (aL (gU jB om) (aL (gU qy om) (aL (gU l6 om) (aL om (dV ⟨g5.toNat,om,om⟩)))))))
             ·refine wn<|V8 _ ?_ ?_
              ·(refine ⟨ob,dZ Eh Rl om⟩)
              ·exact ob
            ·refine bH (λ (g6:Int)=>1≤g6∧(∀j:Nat,(j:Int)<g6→1≤j→n_.bT.getD (j - 1) 0<n_.bT.getD j 0)) (λ (g6:Int)=>(n_.bT.length - g6).toNat) ?_ ?_
             ·intro jG g6 OC JY;obtain ⟨LG,wu⟩:=OC;unfold Ni;refine wi ?_ ?_<;>intro c13
              ·refine wm<|wn ?_;refine wi ?_ ?_<;>intro c14
               ·exact av (aL om (aL (gU bO om) (aL (gU jB om) (aL (gU qy om) (aL (gU l6 om) (aL om (aL (gU Eh om) (dV ⟨g6.toNat,om,om,by rw [show g6.toNat - 1=(g6 - 1).toNat by omega]; omega⟩))))))))
               ·refine wn<|JY _ ?_ ?_
                ·(refine ⟨ob,λ j h1 h2=>?_⟩; by_cases q:(j:Int)<g6; (exact wu j q h2); (have e:j=g6.toNat:=by omega); subst e; rw [show g6.toNat - 1=(g6 - 1).toNat by omega]; omega)
                ·exact ob
              ·exact av (aL om (aL (gU bO om) (aL (gU jB om) (aL (gU qy om) (aL (gU l6 om) (aL om (aL (gU Eh om) (aL (Gs wu om) (rfl)))))))))
             ·(refine ⟨ob,λ j h1 h2=>by omega⟩)
           ·(refine ⟨ob,λ j hj=>by (try dsimp only at hj); omega⟩)
        ·(refine ⟨ob,λ j hj=>by (try dsimp only at hj); omega⟩)
      ·(refine ⟨ob,λ j hj=>by (try dsimp only at hj); omega⟩)
    ·(refine ⟨ob,λ j hj=>by (try dsimp only at hj); omega⟩)
  ·(refine ⟨ob,λ j hj=>by (try dsimp only at hj); omega⟩)
theorem aby {x_:aJ} (h1:Ef b_) (h2:l_.length≤2000000) (h3:x_.aY.length≤2000000) (h4:x_.bT.length≤2000000):W (JD b_ l_ x_) (λ r=>NdE b_ x_ l_.length r):=by
 obtain ⟨z1,z2,z3,z4,z5,z6,z7⟩:=h1;unfold JD;refine wi ?_ ?_<;>intro c1
 ·exact av<|dV om
 ·refine bH (λ (g1:Int)=>0≤g1∧(∀j:Nat,(j:Int)<g1→abo b_.bR.length (x_.bY.getD j cZ))) (λ (g1:Int)=>(x_.bY.length - g1).toNat) ?_ ?_
  ·intro aj g1 d9 bV;obtain ⟨dN,bO⟩:=d9;unfold Q0;refine wi ?_ ?_<;>intro c2
   ·refine wn<|wi ?_ ?_<;>intro c3
    ·exact av (aL om (dV ⟨g1.toNat,om,λ ⟨_,_,_,_,_⟩=>by omega⟩))
    ·refine wn<|bV _ ?_ ?_
     ·(refine ⟨ob,dZ bO dN ⟨om,om,om,om,om⟩⟩)
     ·exact ob
   ·refine bH (λ (g2:Int)=>0≤g2∧(∀j:Nat,(j:Int)<g2→agN b_.bD.length (x_.fJ.getD j dG))) (λ (g2:Int)=>(x_.fJ.length - g2).toNat) ?_ ?_
    ·intro dJ g2 mO qx;obtain ⟨qU,jB⟩:=mO;unfold NQ;refine wi ?_ ?_<;>intro c4
     ·refine wn<|wi ?_ ?_<;>intro c5
      ·exact av (aL om (aL (gU bO om) (dV ⟨g2.toNat,om,λ ⟨_,_,_,_,_,_,_⟩=>by omega⟩)))
      ·refine wn<|qx _ ?_ ?_
       ·(refine ⟨ob,dZ jB qU ⟨om,om,om,om,om,om,om⟩⟩)
       ·exact ob
     ·refine bH (λ (g3:Int)=>0≤g3∧(∀j:Nat,(j:Int)<g3→Gp (x_.ak.getD j ByteArray.empty))) (λ (g3:Int)=>(x_.ak.length - g3).toNat) ?_ ?_
      ·intro jV g3 adz adA;obtain ⟨XF,qy⟩:=adz;unfold NP;refine wi ?_ ?_<;>intro c6
       ·refine wn<|aH (zU) λ v3 hv3=>?_;refine bL ?_ ?_<;>intro c7
        ·have XC:=c7;have c7:=nr c7;exact av (aL om (aL (gU bO om) (aL (gU jB om) (dV ⟨g3.toNat,om,λ h=>by simp [hv3.2 h] at XC⟩))))
        ·have XC:=c7;have c7:=nr c7;refine wn<|adA _ ?_ ?_
         ·(refine ⟨ob,dZ qy XF (hv3.1 (by simpa using XC))⟩)
         ·exact ob
       ·refine bH (λ (g4:Int)=>0≤g4∧(∀j:Nat,(j:Int)<g4→0≤x_.aY.getD j 0∧x_.aY.getD j 0<b_.aY.length)) (λ (g4:Int)=>(x_.aY.length - g4).toNat) ?_ ?_
        ·intro jk g4 JX IG;obtain ⟨FP,l6⟩:=JX;unfold NM;refine wi ?_ ?_<;>intro c8
         ·refine wn<|wi ?_ ?_<;>intro c9
          ·exact av (aL om (aL (gU bO om) (aL (gU jB om) (aL (gU qy om) (dV ⟨g4.toNat,om,om⟩)))))
          ·refine wn<|IG _ ?_ ?_
           ·(refine ⟨ob,dZ l6 FP om⟩)
           ·exact ob
         ·refine wi ?_ ?_<;>intro c10
          ·exact av (aL om (aL (gU bO om) (aL (gU jB om) (aL (gU qy om) (aL (gU l6 om) (dV om))))))
          ·refine bH (λ (g5:Int)=>0≤g5∧(∀j:Nat,(j:Int)<g5→0≤x_.bT.getD j 0∧x_.bT.getD j 0<(l_.length:Int))) (λ (g5:Int)=>(x_.bT.length - g5).toNat) ?_ ?_
           ·intro j5 g5 V7 V8;obtain ⟨Rl,Eh⟩:=V7;unfold NK;refine wi ?_ ?_<;>intro c11
            ·refine wn<|wi ?_ ?_<;>intro c12
             ·exact av (aL om (aL (gU bO om) (aL (gU jB om) (aL (gU qy om) (aL (gU l6 om) (aL om (dV ⟨g5.toNat,om,om⟩)))))))
             ·refine wn<|V8 _ ?_ ?_
              ·(refine ⟨ob,dZ Eh Rl om⟩)
              ·exact ob
            ·refine bH (λ (g6:Int)=>1≤g6∧(∀j:Nat,(j:Int)<g6→1≤j→x_.bT.getD (j - 1) 0<x_.bT.getD j 0)) (λ (g6:Int)=>(x_.bT.length - g6).toNat) ?_ ?_
             ·intro jG g6 OC JY;obtain ⟨LG,wu⟩:=OC;unfold NJ;refine wi ?_ ?_<;>intro c13
              ·refine wm<|wn ?_;refine wi ?_ ?_<;>intro c14
               ·exact av (aL om (aL (gU bO om) (aL (gU jB om) (aL (gU qy om) (aL (gU l6 om) (aL om (aL (gU Eh om) (dV ⟨g6.toNat,om,om,by rw [show g6.toNat - 1=(g6 - 1).toNat by omega]; omega⟩))))))))
               ·refine wn<|JY _ ?_ ?_
                ·(refine ⟨ob,λ j h1 h2=>?_⟩; by_cases q:(j:Int)<g6; (exact wu j q h2); (have e:j=g6.toNat:=by omega); subst e; rw [show g6.toNat - 1=(g6 - 1).toNat by omega]; omega)
                ·exact ob
              ·exact av (aL om (aL (gU bO om) (aL (gU jB om) (aL (gU qy om) (aL (gU l6 om) (aL om (aL (gU Eh om) (aL (Gs wu om) (rfl)))))))))
             ·(refine ⟨ob,λ j h1 h2=>by omega⟩)
           ·(refine ⟨ob,λ j hj=>by (try dsimp only at hj); omega⟩)
        ·(refine ⟨ob,λ j hj=>by (try dsimp only at hj); omega⟩)
      ·(refine ⟨ob,λ j hj=>by (try dsimp only at hj); omega⟩)
    ·(refine ⟨ob,λ j hj=>by (try dsimp only at hj); omega⟩)
  ·(refine ⟨ob,λ j hj=>by (try dsimp only at hj); omega⟩)
theorem Rs (h1:Ef b_) (h2:∀g∈b_.aR.ay,g.bS.length≤2000000∧g.ak.length≤2000000) (h3:Md l_):W (DL b_ l_) (λ r=>mQ b_ l_ r):=by
 obtain ⟨w1,w2⟩:=h3;unfold DL;refine aH (aaD h1 h2) λ v1 hv1=>?_;refine wi ?_ ?_<;>intro c1
 ·exact av<|Gq hv1 c1
 ·refine wi ?_ ?_<;>intro c2
  ·exact av<|kF (c1 ▸ hv1) (dV c2)
  ·refine bH (λ (g1:Int)=>0≤g1∧(∀j:Nat,(j:Int)<g1→NdE b_ (l_.getD j aZ) l_.length 0)) (λ (g1:Int)=>(l_.length - g1).toNat) ?_ ?_
   ·intro aj g1 d9 bV;obtain ⟨dN,bO⟩:=d9;unfold QY;refine wi ?_ ?_<;>intro c3
    ·have hw:=w2 _ (getD_in (i:=g1.toNat) aZ om);refine wn<|aH (abx ob ob ob ob ob) λ v4 hv4=>?_;refine wi ?_ ?_<;>intro c4
     ·exact av<|kF (c1 ▸ hv1) (aL om (Gr (i:=g1.toNat) om (λ k hk=>bO k om) hv4 c4))
     ·refine wn<|bV _ ?_ ?_
      ·(refine ⟨ob,dZ bO dN (by rw [c4] at hv4; exact hv4)⟩)
      ·exact ob
    ·exact av<|kF (c1 ▸ hv1) (aL om (J3 λ k hk=>bO k om))
   ·(refine ⟨ob,λ j hj=>by (try dsimp only at hj); omega⟩)
theorem zW (h1:Ef b_) (h2:∀g∈b_.aR.ay,g.bS.length≤2000000∧g.ak.length≤2000000) (h3:Md l_):W (vG b_ l_) (λ r=>mQ b_ l_ r):=by
 obtain ⟨w1,w2⟩:=h3;unfold vG;refine aH (aaE h1 h2) λ v1 hv1=>?_;refine wi ?_ ?_<;>intro c1
 ·exact av<|Gq hv1 c1
 ·refine wi ?_ ?_<;>intro c2
  ·exact av<|kF (c1 ▸ hv1) (dV c2)
  ·refine bH (λ (g1:Int)=>0≤g1∧(∀j:Nat,(j:Int)<g1→NdE b_ (l_.getD j aZ) l_.length 0)) (λ (g1:Int)=>(l_.length - g1).toNat) ?_ ?_
   ·intro aj g1 d9 bV;obtain ⟨dN,bO⟩:=d9;unfold Q5;refine wi ?_ ?_<;>intro c3
    ·have hw:=w2 _ (getD_in (i:=g1.toNat) aZ om);refine wn<|aH (aby ob ob ob ob) λ v4 hv4=>?_;refine wi ?_ ?_<;>intro c4
     ·exact av<|kF (c1 ▸ hv1) (aL om (Gr (i:=g1.toNat) om (λ k hk=>bO k om) hv4 c4))
     ·refine wn<|bV _ ?_ ?_
      ·(refine ⟨ob,dZ bO dN (by rw [c4] at hv4; exact hv4)⟩)
      ·exact ob
    ·exact av<|kF (c1 ▸ hv1) (aL om (J3 λ k hk=>bO k om))
   ·(refine ⟨ob,λ j hj=>by (try dsimp only at hj); omega⟩)
variable {s_:gY}
theorem OJ (h1:abp s_):W (qL s_) (λ r=>(r=true↔yA s_.dB s_.aQ∧ak9 s_.bG s_.dB s_.aW)):=by
 obtain ⟨⟨s1,s2,s3,s4,s5,s6,s7⟩,v_,n1,n2,⟨n3,n4⟩,m1,⟨z1,z2,z3,z4,z5,z6⟩⟩:=h1;have hch:∀i,i<s_.bG.bR.length→(s_.bG.bR.getD i aK).aM.length≤2000000:=s2;unfold qL;refine aH (Sy ob ob) λ v1 hv1=>?_;refine bL ?_ ?_<;>intro c1
 ·have gM:=c1;have c1:=nr c1;refine av ?_;(constructor; (intro e; cases e); (rintro ⟨a,⟨b1,b2,b3,b4,b5⟩,_⟩; rw [hv1.2 a] at gM; simp only [Bool.not_true,Bool.false_or,Bool.or_eq_true,bne_iff_ne] at gM; omega))
 ·have gM:=c1;have c1:=nr c1;have hm:=hv1.1 (by simp only [Bool.or_eq_false_iff] at gM; simpa using gM.1.1.1.1.1);have hl:(s_.aW.dA.length:Int)=s_.bG.bR.length:=(by simp only [Bool.or_eq_false_iff] at gM; simpa using gM.1.1.1.1.2);refine bH (λ (g1:Int)=>0≤g1∧(∀j:Nat,(j:Int)<g1→0≤s_.aW.dA.getD j 0∧s_.aW.dA.getD j 0<(s_.bG.bR.getD j aK).aM.length)) (λ (g1:Int)=>(s_.bG.bR.length - g1).toNat) ?_ ?_
  ·intro aj g1 d9 bV;obtain ⟨dN,bO⟩:=d9;unfold Ai;refine wi ?_ ?_<;>intro c2
   ·have hq:=hch g1.toNat om;refine wm<|wn ?_;refine aH (pQ) λ v4 hv4=>?_;subst v4;refine wi ?_ ?_<;>intro c3
    ·refine av ?_;(constructor; (intro e; cases e); (rintro ⟨_,_,a,_⟩; have:=a g1.toNat om; omega))
    ·refine wn<|bV _ ?_ ?_
     ·(refine ⟨ob,dZ bO dN om⟩)
     ·exact ob
   ·refine bH (λ (g2:Int)=>0≤g2∧(∀j:Nat,(j:Int)<g2 → -1≤(s_.aW.dP.getD j bB).gW∧(s_.aW.dP.getD j bB).gW<s_.dB.length)) (λ (g2:Int)=>(s_.aW.dP.length - g2).toNat) ?_ ?_
    ·intro dJ g2 mO qx;obtain ⟨qU,jB⟩:=mO;unfold yG;refine wi ?_ ?_<;>intro c4
     ·refine wm<|aH (pQ) λ v7 hv7=>?_;subst v7;refine wi ?_ ?_<;>intro c5
      ·refine av ?_;(constructor; (intro e; cases e); (rintro ⟨_,_,_,a⟩; have:=a g2.toNat om; omega))
      ·refine wn<|qx _ ?_ ?_
       ·(refine ⟨ob,dZ jB qU om⟩)
       ·exact ob
     ·refine av ?_;(constructor; (intro _; exact ⟨hm,⟨om,om,om,om,om⟩,λ i hi=>bO i om,λ i hi=>jB i om⟩); (intro _; rfl))
    ·(refine ⟨ob,λ j hj=>by (try dsimp only at hj); omega⟩)
  ·(refine ⟨ob,λ j hj=>by (try dsimp only at hj); omega⟩)
variable {g_:bF}
theorem Ye (h1:Ef b_) (h2:l_.length≤2000000) (h3:Qq g_):W (CQ b_ l_ g_) (λ r=>r=true↔ak9 b_ l_ g_):=by
 obtain ⟨s1,s2,s3,s4,s5,s6,s7⟩:=h1;obtain ⟨z1,z2,z3,z4,z5,z6⟩:=h3;unfold CQ;refine wi ?_ ?_<;>intro c1
 ·refine av ?_;(constructor; (intro e; cases e); (rintro ⟨⟨b1,b2,b3,b4,b5⟩,_⟩; omega))
 ·refine bH (λ (g1:Int)=>0≤g1∧(∀j:Nat,(j:Int)<g1→0≤g_.dA.getD j 0∧g_.dA.getD j 0<(b_.bR.getD j aK).aM.length)) (λ (g1:Int)=>(g_.dA.length - g1).toNat) ?_ ?_
  ·intro aj g1 d9 bV;obtain ⟨dN,bO⟩:=d9;unfold Lg;refine wi ?_ ?_<;>intro c2
   ·refine wm<|wn ?_;refine wi ?_ ?_<;>intro c3
    ·refine av ?_;(constructor; (intro e; cases e); (rintro ⟨_,a,_⟩; have:=a g1.toNat om; omega))
    ·refine wn<|bV _ ?_ ?_
     ·(refine ⟨ob,dZ bO dN om⟩)
     ·exact ob
   ·refine bH (λ (g2:Int)=>0≤g2∧(∀j:Nat,(j:Int)<g2 → -1≤(g_.dP.getD j bB).gW∧(g_.dP.getD j bB).gW<l_.length)) (λ (g2:Int)=>(g_.dP.length - g2).toNat) ?_ ?_
    ·intro dJ g2 mO qx;obtain ⟨qU,jB⟩:=mO;unfold Lf;refine wi ?_ ?_<;>intro c4
     ·refine wm<|wi ?_ ?_<;>intro c5
      ·refine av ?_;(constructor; (intro e; cases e); (rintro ⟨_,_,a⟩; have:=a g2.toNat om; omega))
      ·refine wn<|qx _ ?_ ?_
       ·(refine ⟨ob,dZ jB qU om⟩)
       ·exact ob
     ·refine av ?_;(constructor; (intro _; exact ⟨⟨om,om,om,om,om⟩,λ i hi=>bO i om,λ i hi=>jB i om⟩); (intro _; rfl))
    ·(refine ⟨ob,λ j hj=>by (try dsimp only at hj); omega⟩)
  ·(refine ⟨ob,λ j hj=>by (try dsimp only at hj); omega⟩)
variable {l:List aI} {s:List Int}
theorem amP (hf:abh l) (hs:lU l s=true) {x:bM} (h0:0≤x.eZ) (h1:x.eZ<l.length):aau (Ri l s) x=Si (gD l s) x:=by
 obtain ⟨e1,e2,_,_⟩:=PZ hf hs x.eZ.toNat om;unfold aau Si;rw [e1,e2,Bool.not_not]
theorem amQ (hf:abh l) (hs:lU l s=true):aiO l (Ri l s)=ownB l (gD l s):=by
 unfold aiO ownB;have:∀i∈List.range l.length,(!ak2 (Ri l s).1 (Ri l s).2 l i)=(!adi ((gD l s).getD i dS) (l.getD i aK)):=λ i hi=>by
  obtain ⟨e1,e2,_,_⟩:=PZ hf hs i (by simpa using hi);unfold ak2 adi;rw [e1,e2]
 rw [Bool.eq_iff_iff,List.all_eq_true,List.all_eq_true];exact ⟨λ h i hi=>by rw [← this i hi]; exact h i hi,λ h i hi=>by rw [this i hi]; exact h i hi⟩
variable {α:Type}
theorem any_congr {l:List α} {p q:α→Bool} (h:∀x∈l,p x=q x):l.any p=l.any q:=by
 rw [Bool.eq_iff_iff,List.any_eq_true,List.any_eq_true];exact ⟨λ ⟨x,h1,h2⟩=>⟨x,h1,by rw [← h x h1]; exact h2⟩,λ ⟨x,h1,h2⟩=>⟨x,h1,by rw [h x h1]; exact h2⟩⟩
theorem J6 {m:List bM} (h1:lq l m=true) (h2:lU l s=true):fC l s m=Rp l s m:=by
 obtain ⟨hck,hml,hmb⟩:=xO h1;have hf:=uW hck;unfold fC Rp;rw [h1,h2,amQ hf h2,any_congr λ x hx=>amP hf h2 (Oo (Iy h1 x hx)).1.1 (Oo (Iy h1 x hx)).1.2,Bool.and_comm (!_)];rfl
theorem Wd {l_:List aI} {s_:List Int} (h1:l_.length≤2000000) (h2:s_.length≤2000000) (h3:aeY l_):W (zM l_ s_) (λ r=>r=((eD l_==0)&&lU l_ s_)):=by
 unfold zM;refine aH (zS ob) λ v1 hv1=>?_;subst v1;refine bL ?_ ?_<;>intro c1
 ·have gM:=c1;have c1:=nr c1;refine av ?_;(rcases Bool.or_eq_true_iff.1 gM with c | c; (rw [show (eD l_==0)=false by simpa using c]; rfl); (unfold lU; rw [show ((s_.length:Int)==(l_.length:Int))=false by simpa using c]; simp))
 ·have gM:=c1;have c1:=nr c1;have he:((s_.length:Int)==(l_.length:Int))=true:=(by have:=(Bool.or_eq_false_iff.1 gM).2; simpa using this);have hc0:(eD l_==0)=true:=(by have:=(Bool.or_eq_false_iff.1 gM).1; simpa using this);refine bH (λ (g1:Int)=>0≤g1∧g1≤l_.length∧(∀j:Nat,(j:Int)<g1→dK (s_.getD j 0) 0 ((l_.getD j aK).aM.length - 1)=true)) (λ (g1:Int)=>(l_.length - g1).toNat) ?_ ?_
  ·intro aj g1 d9 bV;obtain ⟨dN,bO,bE⟩:=d9;unfold Ii;refine wi ?_ ?_<;>intro c2
   ·have hch:=h3 g1.toNat om;refine wm<|wn ?_;refine wi ?_ ?_<;>intro c3
    ·refine av ?_;(unfold lU; rw [he,xM (i:=g1.toNat) om (by unfold dK; rw [Bool.and_eq_false_iff,decide_eq_false_iff_not,decide_eq_false_iff_not]; omega)]; simp)
    ·refine wn<|bV _ ?_ ?_
     ·(refine ⟨ob,ob,dZ bE dN (by unfold dK; rw [Bool.and_eq_true,decide_eq_true_eq,decide_eq_true_eq]; omega)⟩)
     ·exact ob
   ·refine av ?_;(unfold lU; rw [he,hc0,zO λ j hj=>bE j om]; rfl)
  ·(refine ⟨ob,ob,λ j hj=>by omega⟩)
theorem Eo {l_:List aI} {s_:List Int} {m_:List bM} (h1:l_.length≤2000000) (h2:s_.length≤2000000) (h3:m_.length≤2000000) (h4:aeY l_):W (Av l_ s_ m_) (λ r=>r=fC l_ s_ m_):=by
 unfold Av;refine aH (Wd ob ob ob) λ v1 hv1=>?_;subst v1;refine aH (gV λ hc=>lT (OD ob ob)) λ v2 hv2=>?_;subst v2;refine bL ?_ ?_<;>intro c1
 ·have gM:=c1;have c1:=nr c1;refine av ?_;(unfold fC; rcases Bool.or_eq_true_iff.1 gM with c | c; (simp only [Bool.not_eq_true',Bool.and_eq_false_iff,beq_eq_false_iff_ne] at c; rcases c with c | c; (rw [show lq l_ m_=false by (unfold lq; rw [show (eD l_==0)=false by simpa using c]; rfl)]; rfl); (rw [c,Bool.and_false]; rfl)); (rw [show lq l_ m_=false by simpa using c]; rfl))
 ·have gM:=c1;have c1:=nr c1;have hss:lU l_ s_=true:=(by have:=(Bool.or_eq_false_iff.1 gM).1; simp only [Bool.not_eq_false',Bool.and_eq_true] at this; exact this.2);have hlm:lq l_ m_=true:=(by have:=(Bool.or_eq_false_iff.1 gM).2; simpa using this);obtain ⟨hck,hml,hmb⟩:=xO hlm;have hst:=PY l_ s_ l_.length;refine aH (OG (PW (uW hck) hss) (akD (uW hck) hss)) λ v3 hv3=>?_;subst v3;have hs1:(Ri l_ s_).1.length=l_.length:=hst.1;have hs2:(Ri l_ s_).2.length=l_.length:=hst.2;refine bH (λ (g1:Int)=>0≤g1∧g1≤m_.length∧(m_.drop g1.toNat).any (aau (Ri l_ s_))=m_.any (aau (Ri l_ s_))) (λ (g1:Int)=>(m_.length - g1).toNat) ?_ ?_
  ·intro aj g1 d9 bV;obtain ⟨dN,bO,bE⟩:=d9;unfold NY;refine wi ?_ ?_<;>intro c2
   ·have hlt:g1.toNat<m_.length:=om;have hx:=(Oo (Iy hlm _ (getD_in (i:=g1.toNat) cZ hlt))).1;rw [drop_cons cZ hlt,List.any_cons] at bE;refine wm<|wn ?_;refine aH (gV λ hc=>lT (Ei)) λ v6 hv6=>?_;subst v6;refine bL ?_ ?_<;>intro c3
    ·have jI:=c3;have c3:=nr c3;refine av ?_;(rw [J6 hlm hss]; unfold Rp; rw [← bE,show aau (Ri l_ s_) (m_.getD g1.toNat cZ)=true from jI]; rfl)
    ·have jI:=c3;have c3:=nr c3;refine wn<|bV _ ?_ ?_
     ·(refine ⟨ob,ob,?_⟩; rw [← bE,show aau (Ri l_ s_) (m_.getD g1.toNat cZ)=false from jI,show (g1+1).toNat=g1.toNat+1 by omega]; rfl)
     ·exact ob
   ·refine aH (XE ob ob ob) λ v7 hv7=>?_;subst v7;refine av ?_;(rw [J6 hlm hss]; unfold Rp; rw [← bE,show g1.toNat=m_.length by omega,List.drop_length]; rfl)
  ·(refine ⟨ob,ob,rfl⟩)
theorem wD.v (h:wD p 0):adx p:=by
 obtain ⟨h1,h2⟩:=uI (by decide) h;obtain ⟨h3,h4⟩:=uI (by decide) h2;have h5:=ak7 h4;have hg:∀i:Nat,(i:Int)<p.ay.length→GpV p.bS (p.ay.getD i aG)∧∀k:Nat,k<i→(p.ay.getD k aG).wI.toList≠(p.ay.getD i aG).wI.toList:=λ i hi=>by
  obtain ⟨a1,a2⟩:=uI (by decide) (h5 i om);obtain ⟨b1,b2⟩:=uI (by decide) a2;obtain ⟨c1,c2⟩:=uI (by decide) b2;obtain ⟨d1,d2⟩:=uI (by decide) c2;obtain ⟨e1,e2⟩:=uI (by decide) d2;obtain ⟨f1,f2⟩:=uI (by decide) e2;obtain ⟨k1,k2⟩:=uI (by decide) f2;obtain ⟨l1,_⟩:=uI (by decide) k2;refine ⟨⟨⟨om,om,kC 0 λ j hj=>?_⟩,Classical.not_not.1 a1,λ k hk hl=>?_,λ j hj=>?_,λ k j hj hk e=>l1 ⟨k,j,hj,hk,e⟩⟩,λ k hk e=>b1 ⟨k,hk,e⟩⟩
  ·exact Classical.byContradiction λ q=>e1 ⟨j,om,q⟩
  ·exact Classical.byContradiction λ q=>f1 ⟨k,hk,hl,om⟩
  ·exact Classical.byContradiction λ q=>k1 ⟨j,hj,q⟩
 exact ⟨⟨om,om,kC aG λ i hi=>(hg i om).1.ok⟩,λ i hi=>(hg i hi).1,λ i k hk hi=>(hg i hi).2 k hk⟩
def aoG (p:bn) (l:List oJ) (i:Nat):Prop:=LC p (l.getD i fU)∧(∀k:Nat,k<i→(l.getD k fU).dx≠(l.getD i fU).dx)∧
 ∀k:Nat,k<i→∀a b:Nat,(a:Int)<(p.ay.getD (l.getD k fU).dx.toNat aG).bS.length→(b:Int)<(p.ay.getD (l.getD i fU).dx.toNat aG).bS.length→(p.ay.getD (l.getD k fU).dx.toNat aG).bS.getD a 0≠(p.ay.getD (l.getD i fU).dx.toNat aG).bS.getD b 0
def OL (p:bn) (l:List oJ):Prop:=∀i:Nat,(i:Int)<l.length→aoG p l i
theorem aaF {l_:List oJ} (h1:∀g∈p_.ay,g.bS.length≤2000000∧g.ak.length≤2000000) (h2:l_.length≤2000000):W (Fe p_ l_) (λ r=>(r.2=0↔wD p_ 0∧OL p_ l_)):=by
 unfold Fe;refine bH (λ (g1:(Int×(Nat→Int)×(Nat→Int)))=>0≤g1.1∧(∀x:Nat,(x:Int)<g1.1→g1.2.2 x = -1)) (λ (g1:(Int×(Nat→Int)×(Nat→Int)))=>(64 - g1.1).toNat) ?_ ?_
 ·intro aj g1 d9 bV;obtain ⟨dN,bO⟩:=d9;unfold Nr;refine wi ?_ ?_<;>intro c1
  ·refine wm<|bV _ ?_ ?_
   ·(refine ⟨ob,λ x hx=>?_⟩; dsimp only at hx ⊢; by_cases q:x=g1.1.toNat; (rw [q,RI]); (rw [upd_ne q]; exact bO x om))
   ·exact ob
  ·refine aH (zV h1) λ v1 hv1=>?_;refine wi ?_ ?_<;>intro c2
   ·refine av ?_;(refine ⟨λ e=>by (try dsimp only at e); omega,λ ⟨a,_⟩=>absurd (wD.fun _ _ hv1 a) c2⟩)
   ·have hpa:wD p_ 0:=(by rw [c2] at hv1; exact hv1);have hpv:=hpa.v;obtain ⟨⟨p1,p2,p3⟩,gr,nm⟩:=id hpv;refine wn<|bH (λ (g2:(Int×(Nat→Int)×List Bool))=>0≤g2.1∧g2.2.2.length=p_.ay.length∧(∀x:Nat,x<64→(0≤g2.2.1 x↔∃j:Nat,(j:Int)<g2.1∧∃k:Nat,(k:Int)<(p_.ay.getD (l_.getD j fU).dx.toNat aG).bS.length∧(p_.ay.getD (l_.getD j fU).dx.toNat aG).bS.getD k 0=x))∧(∀x:Nat,g2.2.2.getD x false=true↔∃j:Nat,(j:Int)<g2.1∧(l_.getD j fU).dx=x)∧(∀i:Nat,(i:Int)<g2.1→aoG p_ l_ i)) (λ (g2:(Int×(Nat→Int)×List Bool))=>(l_.length - g2.1).toNat) ?_ ?_
    ·intro dJ g2 mO qx;obtain ⟨qU,jB,mI,Ca,Rt⟩:=mO;unfold KM;refine wi ?_ ?_<;>intro c3
     ·refine wm<|wi ?_ ?_<;>intro c4
      ·refine av ?_;(refine ⟨λ e=>by (try dsimp only at e); omega,λ ⟨_,h⟩=>?_⟩; obtain ⟨⟨u1,u2,u3,u4⟩,_⟩:=h g2.1.toNat om; omega)
      ·have hu:LC p_ (l_.getD g2.1.toNat fU):=⟨om,om,om,om⟩;obtain ⟨u1,u2,u3,u4⟩:=id hu;refine wn<|bL ?_ ?_<;>intro c5
       ·have AO:=c5;have c5:=nr c5;refine av ?_;(refine ⟨λ e=>by (try dsimp only at e); omega,λ ⟨_,h⟩=>?_⟩; obtain ⟨_,hd,_⟩:=h g2.1.toNat om; obtain ⟨j,e3,e4⟩:=(Ca _).1 AO; exact absurd e4 (λ e4=>hd j om om))
       ·have AO:=c5;have c5:=nr c5;refine wm<|bH (λ (g5:(Int×(Nat→Int)×List Bool))=>0≤g5.1∧g5.1≤(p_.ay.getD (l_.getD g2.1.toNat fU).dx.toNat aG).bS.length∧g5.2.2.length=p_.ay.length∧(∀x:Nat,x<64→(0≤g5.2.1 x↔(∃j:Nat,(j:Int)<g2.1∧∃k:Nat,(k:Int)<(p_.ay.getD (l_.getD j fU).dx.toNat aG).bS.length∧(p_.ay.getD (l_.getD j fU).dx.toNat aG).bS.getD k 0=x)∨∃k:Nat,(k:Int)<g5.1∧(p_.ay.getD (l_.getD g2.1.toNat fU).dx.toNat aG).bS.getD k 0=x))∧(∀x:Nat,g5.2.2.getD x false=true↔∃j:Nat,(j:Int)<g2.1+1∧(l_.getD j fU).dx=x)∧(∀b:Nat,(b:Int)<g5.1→∀j:Nat,(j:Int)<g2.1→∀a:Nat,(a:Int)<(p_.ay.getD (l_.getD j fU).dx.toNat aG).bS.length→(p_.ay.getD (l_.getD j fU).dx.toNat aG).bS.getD a 0≠(p_.ay.getD (l_.getD g2.1.toNat fU).dx.toNat aG).bS.getD b 0)) (λ (g5:(Int×(Nat→Int)×List Bool))=>((p_.ay.getD (l_.getD g2.1.toNat fU).dx.toNat aG).bS.length - g5.1).toNat) ?_ ?_
        ·intro j5 g5 V7 V8;obtain ⟨Rl,Eh,LD,aaG,afp,acj⟩:=V7;unfold KL;refine wi ?_ ?_<;>intro c6
         ·have hmg:=getD_in (l:=p_.ay) (i:=(l_.getD g2.1.toNat fU).dx.toNat) aG om;have hgl:=(h1 _ hmg).1;have hpn:=(p3 _ hmg).pn _ (getD_in (i:=g5.1.toNat) 0 om);refine wm<|wi ?_ ?_<;>intro c7
          ·refine av ?_;(refine ⟨λ e=>by (try dsimp only at e); omega,λ ⟨_,h⟩=>?_⟩; obtain ⟨_,_,hd⟩:=h g2.1.toNat om; exfalso; rcases (aaG _ om).1 c7 with ⟨j,e3,k,e5,e6⟩ | ⟨k,e5,e6⟩; (exact hd j om k g5.1.toNat e5 om (by rw [e6]; omega)); (have:=Uv hpv u1 u2 k g5.1.toNat om om; omega))
          ·refine wm<|V8 _ ?_ ?_
           ·(refine ⟨ob,ob,ob,λ x hx=>?_,afp,λ b hb j hj a ha=>?_⟩; (dsimp only; by_cases q:x=((p_.ay.getD (l_.getD g2.1.toNat fU).dx.toNat aG).bS.getD g5.1.toNat 0).toNat; (rw [q,RI]; constructor; (intro _; exact .inr ⟨g5.1.toNat,om,om⟩); (intro _; omega)); (rw [upd_ne q,aaG x hx]; constructor; (rintro (h | ⟨k,e5,e6⟩); (exact .inl h); (exact .inr ⟨k,om,e6⟩)); (rintro (h | ⟨k,e5,e6⟩); (exact .inl h); (refine .inr ⟨k,?_,e6⟩; by_cases e:(k:Int)<g5.1; (exact e); exfalso; apply q; rw [show g5.1.toNat=k by omega]; omega)))); (by_cases q:(b:Int)<g5.1; (exact acj b q j hj a ha); (have e:b=g5.1.toNat:=by (try dsimp only at hb); omega); subst e; intro e7; have e8:=(aaG ((p_.ay.getD (l_.getD g2.1.toNat fU).dx.toNat aG).bS.getD g5.1.toNat 0).toNat om).2 (.inl ⟨j,hj,a,ha,by rw [e7]; omega⟩); omega))
           ·exact ob
         ·refine wn<|qx _ ?_ ?_
          ·(refine ⟨ob,LD,λ x hx=>?_,λ x=>afp x,dZ Rt qU ⟨hu,λ k hk e=>?_,λ k hk a b ha hb=>acj b om k om a ha⟩⟩; (dsimp only; rw [aaG x hx]; constructor; (rintro (⟨j,e3,e⟩ | ⟨k,e5,e6⟩); (exact ⟨j,om,e⟩); (exact ⟨g2.1.toNat,om,k,om,e6⟩)); (rintro ⟨j,e3,k,e5,e6⟩; by_cases q:(j:Int)<g2.1; (exact .inl ⟨j,q,k,e5,e6⟩); (have e:j=g2.1.toNat:=by omega); subst e; exact .inr ⟨k,om,e6⟩)); (rw [(Ca _).2 ⟨k,om,om⟩] at c5; cases c5))
          ·exact ob
        ·(refine ⟨ob,ob,ob,λ x hx=>⟨λ h=>.inl ((mI x hx).1 h),?_⟩,λ x=>?_,λ b hb=>?_⟩; (rintro (h | ⟨k,e5,_⟩); (exact (mI x hx).2 h); (exfalso; (try dsimp only at e5); omega)); (dsimp only; by_cases q:x=(l_.getD g2.1.toNat fU).dx.toNat; (rw [q,pU om]; exact ⟨λ _=>⟨g2.1.toNat,om,om⟩,λ _=>rfl⟩); (rw [kM q,Ca]; constructor; (rintro ⟨j,e3,e4⟩; exact ⟨j,om,e4⟩); (rintro ⟨j,e3,e4⟩; refine ⟨j,?_,e4⟩; by_cases e:(j:Int)<g2.1; (exact e); exfalso; apply q; rw [show g2.1.toNat=j by omega]; omega))); (exfalso; (try dsimp only at hb); omega))
     ·refine av ?_;(refine ⟨λ _=>⟨hpa,λ i hi=>Rt i om⟩,λ _=>rfl⟩)
    ·(refine ⟨ob,by simp,λ x hx=>⟨λ h=>?_,λ ⟨j,e,_⟩=>?_⟩,λ x=>⟨λ hx=>?_,λ ⟨j,e,_⟩=>?_⟩,λ j hj=>?_⟩; (exfalso; have:=bO x om; (try dsimp only at h); omega); (exfalso; (try dsimp only at e); omega); (exfalso; dsimp only at hx; rw [List.getD_eq_getElem?_getD,List.getElem?_replicate] at hx; split at hx<;>simp at hx); (exfalso; (try dsimp only at e); omega); (exfalso; (try dsimp only at hj); omega))
 ·(refine ⟨ob,λ j hj=>by (try dsimp only at hj); omega⟩)
structure NdV (b:aS) (k:Int) (n:aJ):Prop where
 ok:aoB b n
 fw:∀j:Nat,(j:Int)<n.ak.length→Gp (n.ak.getD j ByteArray.empty)
 pr:∀x∈n.bT,0≤x∧x<k
 ps:∀k:Nat,1≤k→(k:Int)<n.bT.length→n.bT.getD (k - 1) 0<n.bT.getD k 0
def arX (l:List Int):Prop:=∀k j:Nat,j<k→(k:Int)<l.length→l.getD j 0≠l.getD k 0
def nmU (p:bn) (u:oJ):ByteArray:=((p.ay.getD u.dx.toNat aG).ak.getD u.gy.toNat ByteArray.empty)
def Qs (p:bn) (us:List aT) (m:Int) (f:ByteArray):Nat:=us.countP λ u=>(u.gW==m)&&decide (nmU p u.kH=f)
def cntF (l:List ByteArray) (f:ByteArray):Nat:=l.countP λ x=>decide (x=f)
variable {f:ByteArray}
theorem Qa {us:List aT} {u:aT} {m:Int} :Qs p (us++[u]) m f=Qs p us m f+(if u.gW=m∧nmU p u.kH=f then 1 else 0):=by
 unfold Qs;rw [List.countP_append,List.countP_singleton];congr 1;simp only [Bool.and_eq_true,beq_iff_eq,decide_eq_true_eq]
theorem Qb {l:List ByteArray} {x:ByteArray} :cntF (l++[x]) f=cntF l f+(if x=f then 1 else 0):=by
 unfold cntF;rw [List.countP_append,List.countP_singleton];congr 1;simp only [decide_eq_true_eq]
theorem aiT {l:List ByteArray} (k:Nat):cntF (l.take k) f≤cntF l f:=by
 unfold cntF;conv=>rhs; rw [← List.take_append_drop k l]
 rw [List.countP_append]; omega
theorem agT (h1:eD l=0) (h2:lU l s=true):(vI l s).2=0:=by
 unfold vI;rw [h1,h2]; rfl
def apS (r:bK) (x:bM):Prop:=r.jX≠0∧r.jX≤x.fO*r.jm∧x.Low*r.jm≤r.jX
structure atO (s:gY):Prop where
 sc:abp s
 sh:agO s
 bv:BdV s.bG
 dst:arX s.aQ
 st:∀i:Nat,(i:Int)<s.bG.bR.length→0≤s.aW.dA.getD i 0∧s.aW.dA.getD i 0<(s.bG.bR.getD i aK).aM.length
 us:∀u∈s.aW.dP,-1≤u.gW∧u.gW<s.dB.length
 sb:lU s.bG.bR s.aW.dA=true
 mt:fC s.bG.bR s.aW.dA []=true
 lm:∀m∈s.aQ,∀x∈(s.dB.getD m.toNat aZ).bY,apS ((gD s.bG.bR s.aW.dA).getD x.eZ.toNat dS) x
 dr:Sp.fC s.bG.bD s.aW.fA (s.aQ.flatMap λ m=>(s.dB.getD m.toNat aZ).fJ)=true
 pn:UsV s.bG.aR (s.aW.dP.map aT.kH)
 fn:∀m∈s.aQ,∀f,cntF (s.dB.getD m.toNat aZ).ak f≤Qs s.bG.aR s.aW.dP m f
 rs:aax s.bG.aY s.aW.dU
 rl:∀m∈s.aQ,∀x∈(s.dB.getD m.toNat aZ).aY,s.aW.dU.getD x.toNat false=true
 dm:afo s.bG.cB s.aW.fq
 dl:∀m∈s.aQ,0≤(s.dB.getD m.toNat aZ).fI→s.aW.fq.getD (s.dB.getD m.toNat aZ).fI.toNat false=true
theorem acn {r:bK} (hv:pJ r=true) (h:nD r=false):r.jX≠0:=by
 intro e;obtain ⟨_,_,h3,_,h5⟩:=mD hv;rw [e] at h5;unfold jv at h5;rw [show (0:Int).toNat=0 from rfl,Nat.gcd_zero_left] at h5;have:r.jm=1:=by omega
 unfold nD at h;rw [e,this] at h;cases h
theorem agU {r:bK} {lo hi:Int} (h:nV r lo hi=true):lo*r.jm≤r.jX∧r.jX≤hi*r.jm:=by
 unfold nV at h;simp only [Bool.and_eq_true,Bool.or_eq_true,decide_eq_true_eq,beq_iff_eq] at h;obtain ⟨hv,h1,h2⟩:=h;obtain ⟨n0,_,d1,_,_⟩:=mD hv;have e:=Int.mul_tdiv_add_tmod r.jX r.jm;have m0:=Int.tmod_nonneg r.jm n0;have m1:=Int.tmod_lt_of_pos r.jX (show 0<r.jm by omega);have e2:r.jm*r.jX.tdiv r.jm=r.jX.tdiv r.jm*r.jm:=Int.mul_comm _ _;have l1:lo*r.jm≤r.jX.tdiv r.jm*r.jm:=Int.mul_le_mul_of_nonneg_right h1 om;refine ⟨om,?_⟩;rcases h2 with h2 | ⟨h2,h3⟩
 ·have l2:(r.jX.tdiv r.jm+1)*r.jm≤hi*r.jm:=Int.mul_le_mul_of_nonneg_right h2 om;rw [Int.add_mul,Int.one_mul] at l2;omega
 ·rw [← h2]; omega
theorem sZ {β:Type} {f:α→β} {l:List α} {k:Nat} {d:α} {e:β} (h:k<l.length):(l.map f).getD k e=f (l.getD k d):=by
 rw [List.getD_eq_getElem?_getD,List.getElem?_map,List.getD_eq_getElem?_getD,List.getElem?_eq_getElem h]; rfl
theorem ahG {l:List α} {j:Nat} {v d:α} (hj:j<l.length):(l.set j v).getD j d=v:=by
 rw [List.getD_eq_getElem?_getD,List.getElem?_set_self hj]; rfl
theorem ahH {l:List α} {i j:Nat} {v d:α} (h:i≠j):(l.set j v).getD i d=l.getD i d:=by
 rw [List.getD_eq_getElem?_getD,List.getElem?_set_ne (Ne.symm h),← List.getD_eq_getElem?_getD]
theorem amR {r:bK} (h:r.jX≠0):nD r=false:=by
 unfold nD;rw [show (r.jX==0)=false by simpa using h]; rfl
theorem agV {r:bK} {lo hi:Int} (hv:pJ r=true) (h1:lo*r.jm≤r.jX) (h2:r.jX≤hi*r.jm):nV r lo hi=true:=by
 unfold nV;obtain ⟨n0,_,d1,_,_⟩:=mD hv;have e:=Int.mul_tdiv_add_tmod r.jX r.jm;have m0:=Int.tmod_nonneg r.jm n0;have m1:=Int.tmod_lt_of_pos r.jX (show 0<r.jm by omega);have e2:r.jm*r.jX.tdiv r.jm=r.jX.tdiv r.jm*r.jm:=Int.mul_comm _ _;simp only [Bool.and_eq_true,Bool.or_eq_true,decide_eq_true_eq,beq_iff_eq];have q1:lo≤r.jX.tdiv r.jm:=by
  refine Int.not_lt.1 λ h=>?_;have:(r.jX.tdiv r.jm+1)*r.jm≤lo*r.jm:=Int.mul_le_mul_of_nonneg_right h om;rw [Int.add_mul,Int.one_mul] at this;omega
 have q2:r.jX.tdiv r.jm≤hi:=by
  refine Int.not_lt.1 λ h=>?_;have:(hi+1)*r.jm≤r.jX.tdiv r.jm*r.jm:=Int.mul_le_mul_of_nonneg_right h om;rw [Int.add_mul,Int.one_mul] at this;omega
 refine ⟨hv,q1,?_⟩;by_cases q:r.jX.tdiv r.jm<hi
 ·exact .inl q
 ·have:r.jX.tdiv r.jm=hi:=by omega
  refine .inr ⟨this,?_⟩;rw [this] at e e2;omega
theorem Wh (h:fC l s []=true):eD l=0∧lU l s=true∧ownB l (gD l s)=true:=by
 unfold fC at h;simp only [Bool.and_eq_true] at h;exact ⟨(xO h.1.1).1,h.1.2,h.2.1⟩
def ala (r:bK) (x:bM) (bt:Bool):Prop:=r.jX≠0∧r.jX≤x.fO*r.jm∧(bt=false→x.Low*r.jm≤r.jX)
theorem aco {k lo hi:Int} (h:fC l s []=true) (k0:0≤k) (k1:k<l.length) (h0:0≤lo) (h1:lo≤hi) (h2:hi≤4000000000):
  fC l s [⟨k,lo,hi⟩]=true↔((gD l s).getD k.toNat dS).jX≠0∧((gD l s).getD k.toNat dS).jX≤hi*((gD l s).getD k.toNat dS).jm∧lo*((gD l s).getD k.toNat dS).jm≤((gD l s).getD k.toNat dS).jX:=by
 obtain ⟨c1,c2,c3⟩:=Wh h;have hv:=(PZ (uW c1) c2 k.toNat om).2.2.1;have hb:Ma (l.length:Int) ⟨k,lo,hi⟩=false:=by
  unfold Ma dK;simp only [Bool.or_eq_false_iff,Bool.not_eq_false',Bool.and_eq_true,decide_eq_true_eq];omega
 have hl:lq l [⟨k,lo,hi⟩]=true:=by
  unfold lq;rw [c1,show List.any [(⟨k,lo,hi⟩:bM)] (Ma l.length)=false by rw [List.any_cons,hb]; rfl]; rfl
 unfold fC;rw [hl,c2,c3];simp only [Bool.true_and,List.any_cons,List.any_nil,Bool.or_false,Bool.not_eq_true'];unfold Si;dsimp only;constructor
 ·intro e;rw [Bool.or_eq_false_iff,Bool.not_eq_false'] at e;obtain ⟨w1,w2⟩:=agU e.2;exact ⟨acn hv e.1,w2,w1⟩
 ·rintro ⟨a1,a2,a3⟩;rw [amR a1,agV hv a3 a2]; rfl
def alb (b:aS) (g:bF) (n:aJ) (bt:Bool):Prop:=∀j:Nat,(j:Int)<n.bY.length→ala ((gD b.bR g.dA).getD (n.bY.getD j cZ).eZ.toNat dS) (n.bY.getD j cZ) bt
def alc (b:aS) (g:bF) (n:aJ) (d:Int):Prop:=∀f:ByteArray,cntF n.ak f≤Qs b.aR g.dP d f
def amS (g:bF) (n:aJ):Prop:=∀j:Nat,(j:Int)<n.aY.length→g.dU.getD (n.aY.getD j 0).toNat false=true
def amT (g:bF) (n:aJ):Prop:=0≤n.fI→g.fq.getD n.fI.toNat false=true
def drM (l:List aJ) (ms:List Int):List bq:=ms.flatMap λ m=>(l.getD m.toNat aZ).fJ
theorem kN {b:Bool} {P:Prop} (h:b=true↔P) (c:b=false):¬P:=λ p=>by rw [h.2 p] at c; cases c
theorem aaH {l_:List oJ} (h1:∀g∈p_.ay,g.bS.length≤2000000∧g.ak.length≤2000000) (h2:l_.length≤2000000):W (Fg p_ l_) (λ r=>(r.2=0↔wD p_ 0∧OL p_ l_)):=by
 unfold Fg;refine aH (aaF ob ob) λ v1 hv1=>?_;refine wi ?_ ?_<;>intro c1
 ·exact av (⟨λ e=>absurd e c1,λ h=>absurd (hv1.2 h) c1⟩)
 ·obtain ⟨p1,_,_⟩:=(hv1.1 c1).1.v.ok;unfold DR;refine wn<|aH (Mc (by simp only [List.length_map,List.length_range]; omega) om) λ v2 hv2=>?_;subst v2;exact av (⟨λ _=>hv1.1 c1,λ _=>rfl⟩)
theorem Yf {l_:List oJ} (h1:∀g∈p_.ay,g.bS.length≤2000000∧g.ak.length≤2000000) (h2:l_.length≤2000000):W (CU p_ l_) (λ r=>(r.2=0↔wD p_ 0∧OL p_ l_)):=by
 unfold CU;refine aH (Ej h1) λ v1 hv1=>?_;refine wi ?_ ?_<;>intro c1
 ·refine av ?_;(refine ⟨λ e=>by (try dsimp only at e); omega,λ ⟨a,_⟩=>absurd (wD.fun _ _ hv1 a) c1⟩)
 ·have hpa:wD p_ 0:=(by rw [c1] at hv1; exact hv1);have hpv:=hpa.v;obtain ⟨⟨p1,p2,p3⟩,gr,nm⟩:=id hpv;refine wn<|bH (λ (g1:Int×List Int)=>0≤g1.1∧g1.2.length=p_.bS.toNat∧(∀x:Nat,(x:Int)<g1.1→g1.2.getD x 0 = -1)) (λ (g1:Int×List Int)=>(p_.bS - g1.1).toNat) ?_ ?_
  ·intro aj g1 d9 bV;obtain ⟨dN,bO,bE⟩:=d9;unfold Lj;refine wi ?_ ?_<;>intro c2
   ·refine wm<|bV _ ?_ ?_
    ·(refine ⟨ob,by simp only [List.length_set]; exact bO,λ x hx=>?_⟩; dsimp only at hx ⊢; by_cases q:x=g1.1.toNat; (rw [q,ahG om]); (rw [ahH q]; exact bE x om))
    ·exact ob
   ·refine bH (λ (g2:Int×List Int)=>0≤g2.1∧g2.2.length=p_.bS.toNat∧(∀x:Nat,(x:Int)<p_.bS→(g2.2.getD x 0 ≠ -1↔∃j:Nat,(j:Int)<g2.1∧∃k:Nat,(k:Int)<(p_.ay.getD (l_.getD j fU).dx.toNat aG).bS.length∧(p_.ay.getD (l_.getD j fU).dx.toNat aG).bS.getD k 0=x))∧(∀i:Nat,(i:Int)<g2.1→aoG p_ l_ i)) (λ (g2:Int×List Int)=>(l_.length - g2.1).toNat) ?_ ?_
    ·intro dJ g2 mO qx;obtain ⟨qU,jB,mI,Ca⟩:=mO;unfold Li;refine wi ?_ ?_<;>intro c3
     ·refine wm<|wm ?_;refine wi ?_ ?_<;>intro c4
      ·refine av ?_;(refine ⟨λ e=>by (try dsimp only at e); omega,λ ⟨_,h⟩=>?_⟩; obtain ⟨⟨u1,u2,u3,u4⟩,_⟩:=h g2.1.toNat om; omega)
      ·have hu:LC p_ (l_.getD g2.1.toNat fU):=⟨om,om,om,om⟩;obtain ⟨u1,u2,u3,u4⟩:=id hu;refine bH (λ (g7:Int)=>0≤g7∧(∀k:Nat,(k:Int)<g7→(l_.getD k fU).dx≠(l_.getD g2.1.toNat fU).dx)) (λ (g7:Int)=>(g2.1 - g7).toNat) ?_ ?_
       ·intro nQ g7 aaA X8;obtain ⟨aaB,Cb⟩:=aaA;unfold Ik;refine wi ?_ ?_<;>intro c5
        ·refine wn<|wi ?_ ?_<;>intro c6
         ·refine av ?_;(refine ⟨λ e=>by (try dsimp only at e); omega,λ ⟨_,h⟩=>?_⟩; obtain ⟨_,hd,_⟩:=h g2.1.toNat om; exact absurd c6 (hd g7.toNat om))
         ·refine wn<|X8 _ ?_ ?_
          ·(refine ⟨ob,dZ Cb aaB c6⟩)
          ·exact ob
        ·refine wn<|bH (λ (g8:Int×List Int)=>0≤g8.1∧g8.1≤(p_.ay.getD (l_.getD g2.1.toNat fU).dx.toNat aG).bS.length∧g8.2.length=p_.bS.toNat∧(∀x:Nat,(x:Int)<p_.bS→(g8.2.getD x 0 ≠ -1↔(∃j:Nat,(j:Int)<g2.1∧∃k:Nat,(k:Int)<(p_.ay.getD (l_.getD j fU).dx.toNat aG).bS.length∧(p_.ay.getD (l_.getD j fU).dx.toNat aG).bS.getD k 0=x)∨∃k:Nat,(k:Int)<g8.1∧(p_.ay.getD (l_.getD g2.1.toNat fU).dx.toNat aG).bS.getD k 0=x))∧(∀b:Nat,(b:Int)<g8.1→∀j:Nat,(j:Int)<g2.1→∀a:Nat,(a:Int)<(p_.ay.getD (l_.getD j fU).dx.toNat aG).bS.length→(p_.ay.getD (l_.getD j fU).dx.toNat aG).bS.getD a 0≠(p_.ay.getD (l_.getD g2.1.toNat fU).dx.toNat aG).bS.getD b 0)) (λ (g8:Int×List Int)=>((p_.ay.getD (l_.getD g2.1.toNat fU).dx.toNat aG).bS.length - g8.1).toNat) ?_ ?_
         ·intro Z8 g8 aoE aoF;obtain ⟨anm,ak6,ano,ahI,anp⟩:=aoE;unfold Ij;refine wi ?_ ?_<;>intro c7
          ·have hmg:=getD_in (l:=p_.ay) (i:=(l_.getD g2.1.toNat fU).dx.toNat) aG om;have hgl:=(h1 _ hmg).1;have hpn:=(p3 _ hmg).pn _ (getD_in (i:=g8.1.toNat) 0 om);refine wm<|wi ?_ ?_<;>intro c8
           ·refine av ?_;(refine ⟨λ e=>by (try dsimp only at e); omega,λ ⟨_,h⟩=>?_⟩; obtain ⟨_,_,hd⟩:=h g2.1.toNat om; exfalso; rcases (ahI ((p_.ay.getD (l_.getD g2.1.toNat fU).dx.toNat aG).bS.getD g8.1.toNat 0).toNat om).1 c8 with ⟨j,e3,k,e5,e6⟩ | ⟨k,e5,e6⟩; (exact hd j om k g8.1.toNat e5 om (by rw [e6]; omega)); (have:=Uv hpv u1 u2 k g8.1.toNat om om; omega))
           ·refine wm<|aoF _ ?_ ?_
            ·(refine ⟨ob,ob,by simp only [List.length_set]; exact ano,λ x hx=>?_,λ b hb j hj a ha=>?_⟩; (dsimp only; by_cases q:x=((p_.ay.getD (l_.getD g2.1.toNat fU).dx.toNat aG).bS.getD g8.1.toNat 0).toNat; (rw [q,ahG om]; constructor; (intro _; exact .inr ⟨g8.1.toNat,om,om⟩); (intro _; omega)); (rw [ahH q,ahI x hx]; constructor; (rintro (h | ⟨k,e5,e6⟩); (exact .inl h); (exact .inr ⟨k,om,e6⟩)); (rintro (h | ⟨k,e5,e6⟩); (exact .inl h); (refine .inr ⟨k,?_,e6⟩; by_cases e:(k:Int)<g8.1; (exact e); exfalso; apply q; rw [show g8.1.toNat=k by omega]; omega)))); (by_cases q:(b:Int)<g8.1; (exact anp b q j hj a ha); (have e:b=g8.1.toNat:=by (try dsimp only at hb); omega); subst e; intro e7; have e8:=(ahI ((p_.ay.getD (l_.getD g2.1.toNat fU).dx.toNat aG).bS.getD g8.1.toNat 0).toNat om).2 (.inl ⟨j,hj,a,ha,by rw [e7]; omega⟩); omega))
            ·exact ob
          ·refine wn<|qx _ ?_ ?_
           ·(refine ⟨ob,ano,λ x hx=>?_,dZ Ca qU ⟨hu,λ k hk e=>Cb k om e,λ k hk a b ha hb=>anp b om k om a ha⟩⟩; dsimp only; rw [ahI x hx]; constructor; (rintro (⟨j,e3,e⟩ | ⟨k,e5,e6⟩); (exact ⟨j,om,e⟩); (exact ⟨g2.1.toNat,om,k,om,e6⟩)); (rintro ⟨j,e3,k,e5,e6⟩; by_cases q:(j:Int)<g2.1; (exact .inl ⟨j,q,k,e5,e6⟩); (have e:j=g2.1.toNat:=by omega); subst e; exact .inr ⟨k,om,e6⟩))
           ·exact ob
         ·(refine ⟨ob,ob,ob,λ x hx=>⟨λ h=>.inl ((mI x hx).1 h),?_⟩,λ b hb=>?_⟩; (rintro (h | ⟨k,e5,_⟩); (exact (mI x hx).2 h); (exfalso; (try dsimp only at e5); omega)); (exfalso; (try dsimp only at hb); omega))
       ·(refine ⟨ob,λ j hj=>by (try dsimp only at hj); omega⟩)
     ·refine av ?_;(refine ⟨λ _=>⟨hpa,λ i hi=>Ca i om⟩,λ _=>rfl⟩)
    ·(refine ⟨ob,om,λ x hx=>⟨λ h=>?_,λ ⟨j,e,_⟩=>?_⟩,λ j hj=>?_⟩; (exact absurd (bE x om) h); (exfalso; (try dsimp only at e); omega); (exfalso; (try dsimp only at hj); omega))
  ·(refine ⟨ob,by simp,λ x hx=>by dsimp only at hx; omega⟩)
theorem abz {l_:List aT} (h1:l_.length≤2000000):W (JJ l_) (λ r=>r=l_.map aT.kH):=by
 unfold JJ;refine bH (λ (g1:Int×List oJ)=>0≤g1.1∧g1.1≤l_.length∧g1.2=(l_.take g1.1.toNat).map aT.kH) (λ (g1:Int×List oJ)=>(l_.length - g1.1).toNat) ?_ ?_
 ·intro aj g1 d9 bV;obtain ⟨dN,bO,bE⟩:=d9;unfold Ra;have hgl:g1.2.length=g1.1.toNat:=(by rw [bE,List.length_map,List.length_take]; omega);refine wi ?_ ?_<;>intro c1
  ·refine wm<|wn ?_;refine bV _ ?_ ?_
   ·(refine ⟨ob,ob,?_⟩; dsimp only; rw [show (g1.1+1).toNat=g1.1.toNat+1 by omega,iC bB om,List.map_append,bE]; rfl)
   ·exact ob
  ·refine av ?_;(rw [bE,show g1.1.toNat=l_.length by omega,List.take_length])
 ·(refine ⟨ob,ob,rfl⟩)
def fnG (l:List ByteArray) (j:Nat):ByteArray:=l.getD j ByteArray.empty
theorem ald {l:List ByteArray} (h:0<cntF l f):∃j:Nat,(j:Int)<l.length∧fnG l j=f:=by
 unfold cntF at h;obtain ⟨x,hx,e⟩:=List.countP_pos_iff.1 h;obtain ⟨j,hj,rfl⟩:=List.mem_iff_getElem.1 hx;exact ⟨j,om,by unfold fnG; rw [List.getD_eq_getElem?_getD,List.getElem?_eq_getElem hj]; simpa using e⟩
theorem adB {l:List Int} {p:Int→Bool}:l.any p=false↔∀j:Nat,(j:Int)<l.length→p (l.getD j 0)=false:=by
 rw [List.any_eq_false];constructor
 ·intro h j hj;have:=h _ (getD_in (i:=j) 0 om);simpa using this
 ·intro h;have:∀x∈l,p x=false:=kC 0 λ j hj=>h j om;intro x hx;rw [this x hx]; decide
theorem Me (h1:abp s_):W (pq s_) (λ r=>r=fC s_.bG.bR s_.aW.dA []):=by
 obtain ⟨⟨s1,s2,s3,s4,s5,s6,s7⟩,vl_,n1,n2,⟨n3,n4⟩,m1,⟨z1,z2,z3,z4,z5,z6⟩⟩:=h1;unfold pq;refine aH (abm ob ob ob ob) λ v1 hv1=>?_;subst v1;refine av ?_;rfl
theorem Mf (h1:abp s_) (h2:agO s_) (h3:fC s_.bG.bR s_.aW.dA []=true):W (pz s_) (λ r=>r=true↔∀i:Nat,(i:Int)<s_.aQ.length→alb s_.bG s_.aW (s_.dB.getD (s_.aQ.getD i 0).toNat aZ) s_.jO):=by
 obtain ⟨⟨s1,s2,s3,s4,s5,s6,s7⟩,vl_,n1,n2,⟨n3,n4⟩,m1,⟨z1,z2,z3,z4,z5,z6⟩⟩:=h1;obtain ⟨y1,y2,y3,y4,y5,y6⟩:=h2;obtain ⟨k1,k2,k3⟩:=Wh h3;unfold pz;refine aH (abn ob ob ob) λ v1 hv1=>?_;subst v1;refine bL ?_ ?_<;>intro c1
 ·have gM:=c1;have c1:=nr c1;exact av (absurd (agT k1 k2) c1)
 ·have gM:=c1;have c1:=nr c1;obtain ⟨r1,r2,r3⟩:=akS (by simpa using gM);have hrl:(vI s_.bG.bR s_.aW.dA).1.length=s_.bG.bR.length:=(by rw [r3]; exact rZ ..);refine bH (λ (g1:Int)=>0≤g1∧(∀i:Nat,(i:Int)<g1→alb s_.bG s_.aW (s_.dB.getD (s_.aQ.getD i 0).toNat aZ) s_.jO)) (λ (g1:Int)=>(s_.aQ.length - g1).toNat) ?_ ?_
  ·intro aj g1 d9 bV;obtain ⟨dN,bO⟩:=d9;unfold yI;refine wi ?_ ?_<;>intro c2
   ·have hmem:=getD_in (l:=s_.aQ) (i:=g1.toNat) 0 om;have hmi:=y1 _ hmem;have hnd:=getD_in (l:=s_.dB) (i:=(s_.aQ.getD g1.toNat 0).toNat) aZ om;have hno:=n2 _ hnd;have hns:=n4 _ hnd;refine wm<|bH (λ (g4:Int)=>0≤g4∧(∀j:Nat,(j:Int)<g4→ala ((gD s_.bG.bR s_.aW.dA).getD ((s_.dB.getD (s_.aQ.getD g1.toNat 0).toNat aZ).bY.getD j cZ).eZ.toNat dS) ((s_.dB.getD (s_.aQ.getD g1.toNat 0).toNat aZ).bY.getD j cZ) s_.jO)) (λ (g4:Int)=>((s_.dB.getD (s_.aQ.getD g1.toNat 0).toNat aZ).bY.length - g4).toNat) ?_ ?_
    ·intro jk g4 JX IG;obtain ⟨FP,l6⟩:=JX;unfold yH;refine wi ?_ ?_<;>intro c3
     ·obtain ⟨x1,x2,x3,x4,x5⟩:=hno.lm _ (getD_in (i:=g4.toNat) cZ om);have hll:=hno.ll;have hv:=akT r1 r2 (((s_.dB.getD ((s_.aQ.getD g1.toNat 0).toNat) aZ).bY.getD g4.toNat cZ).eZ.toNat) om;rw [← r3] at hv;have q1:=VT (show 0≤_ by exact Int.le_trans (by decide) hv.1) hv.2 (Int.le_trans x3 x4) x5;have q2:=VT (show 0≤_ by exact Int.le_trans (by decide) hv.1) hv.2 x3 (Int.le_trans x4 x5);refine wm<|wm ?_;refine wi ?_ ?_<;>intro c4
      ·rw [r3] at c4;refine av ?_;(constructor; (intro e; cases e); (intro h; exfalso; obtain ⟨l1,l2,l3⟩:=h g1.toNat om g4.toNat om; rcases c4 with (c4 | c4) | c4; (exact l1 c4); (exact Int.not_lt.2 l2 c4); (exact Int.not_lt.2 (l3 (by simpa using c4.1)) c4.2)))
      ·rw [r3] at c4;refine wn<|IG _ ?_ ?_
       ·(refine ⟨ob,dZ l6 FP ⟨c4.1.1,c4.1.2,λ e=>c4.2.resolve_left (by rw [e]; decide)⟩⟩)
       ·exact ob
     ·have hll:=hno.ll;refine wn<|bV _ ?_ ?_
      ·(refine ⟨ob,dZ bO dN (λ j hj=>l6 j om)⟩)
      ·exact ob
    ·(refine ⟨ob,λ j hj=>by (try dsimp only at hj); omega⟩)
   ·refine av ?_;(constructor; (intro _; exact λ i hi=>bO i om); (intro _; rfl))
  ·(refine ⟨ob,λ j hj=>by (try dsimp only at hj); omega⟩)
theorem II (h1:abp s_) (h2:agO s_):W (nu s_) (λ r=>r=Sp.fC s_.bG.bD s_.aW.fA (drM s_.dB s_.aQ)):=by
 obtain ⟨⟨s1,s2,s3,s4,s5,s6,s7⟩,vl_,n1,n2,⟨n3,n4⟩,m1,⟨z1,z2,z3,z4,z5,z6⟩⟩:=h1;obtain ⟨y1,y2,y3,y4,y5,y6⟩:=h2;unfold nu;refine bH (λ (g1:Int×List bq)=>0≤g1.1∧g1.1≤s_.aQ.length∧(g1.2.length:Int)≤32*g1.1∧g1.2=drM s_.dB (s_.aQ.take g1.1.toNat)) (λ (g1:Int×List bq)=>(s_.aQ.length - g1.1).toNat) ?_ ?_
 ·intro aj g1 d9 bV;obtain ⟨dN,bO,bE,jA⟩:=d9;unfold vT;refine wi ?_ ?_<;>intro c1
  ·have hmem:=getD_in (l:=s_.aQ) (i:=g1.1.toNat) 0 om;have hmi:=y1 _ hmem;have hnd:=getD_in (l:=s_.dB) (i:=(s_.aQ.getD g1.1.toNat 0).toNat) aZ om;have hno:=n2 _ hnd;have hns:=n4 _ hnd;have hdl:=hno.dl;refine wm<|wm ?_;refine bV _ ?_ ?_
   ·(refine ⟨ob,ob,ob,?_⟩; dsimp only; unfold drM at *; rw [show (g1.1+1).toNat=g1.1.toNat+1 by omega,iC 0 om,List.flatMap_append,jA]; simp only [List.flatMap_cons,List.flatMap_nil,List.append_nil])
   ·exact ob
  ·refine aH (XB ob ob) λ v1 hv1=>?_;subst v1;refine aH (Sp.OB ob ob ob) λ v2 hv2=>?_;subst v2;refine av ?_;(rw [jA,show g1.1.toNat=s_.aQ.length by omega,List.take_length])
 ·(refine ⟨ob,ob,ob,rfl⟩)
theorem Qt (h1:abp s_) (h2:∀g∈s_.bG.aR.ay,g.bS.length≤2000000∧g.ak.length≤2000000):W (sJ s_) (λ r=>(r=true↔wD s_.bG.aR 0∧OL s_.bG.aR (s_.aW.dP.map aT.kH))):=by
 obtain ⟨⟨s1,s2,s3,s4,s5,s6,s7⟩,vl_,n1,n2,⟨n3,n4⟩,m1,⟨z1,z2,z3,z4,z5,z6⟩⟩:=h1;unfold sJ;refine bH (λ (g1:Int×List oJ)=>0≤g1.1∧g1.1≤s_.aW.dP.length∧g1.2=(s_.aW.dP.take g1.1.toNat).map aT.kH) (λ (g1:Int×List oJ)=>(s_.aW.dP.length - g1.1).toNat) ?_ ?_
 ·intro aj g1 d9 bV;obtain ⟨dN,bO,bE⟩:=d9;unfold BM;have hgl:g1.2.length=g1.1.toNat:=(by rw [bE,List.length_map,List.length_take]; omega);refine wi ?_ ?_<;>intro c1
  ·refine wm<|wn ?_;refine bV _ ?_ ?_
   ·(refine ⟨ob,ob,?_⟩; dsimp only; rw [show (g1.1+1).toNat=g1.1.toNat+1 by omega,iC bB om,List.map_append,bE]; rfl)
   ·exact ob
  ·refine aH (aaH h2 ob) λ v1 hv1=>?_;refine av ?_;(rw [bE,show g1.1.toNat=s_.aW.dP.length by omega,List.take_length] at hv1; rw [← hv1]; simp)
 ·(refine ⟨ob,ob,rfl⟩)
theorem Gu (h1:abp s_) (h2:agO s_) (h3:∀u∈s_.aW.dP,LC s_.bG.aR u.kH):W (mJ s_) (λ r=>r=true↔∀i:Nat,(i:Int)<s_.aQ.length→alc s_.bG s_.aW (s_.dB.getD (s_.aQ.getD i 0).toNat aZ) (s_.aQ.getD i 0)):=by
 obtain ⟨⟨s1,s2,s3,s4,s5,s6,s7⟩,vl_,n1,n2,⟨n3,n4⟩,m1,⟨z1,z2,z3,z4,z5,z6⟩⟩:=h1;obtain ⟨y1,y2,y3,y4,y5,y6⟩:=h2;unfold mJ;refine bH (λ (g1:Int)=>0≤g1∧(∀i:Nat,(i:Int)<g1→alc s_.bG s_.aW (s_.dB.getD (s_.aQ.getD i 0).toNat aZ) (s_.aQ.getD i 0))) (λ (g1:Int)=>(s_.aQ.length - g1).toNat) ?_ ?_
 ·intro aj g1 d9 bV;obtain ⟨dN,bO⟩:=d9;unfold uD;refine wi ?_ ?_<;>intro c1
  ·have hmem:=getD_in (l:=s_.aQ) (i:=g1.toNat) 0 om;have hmi:=y1 _ hmem;have hnd:=getD_in (l:=s_.dB) (i:=(s_.aQ.getD g1.toNat 0).toNat) aZ om;have hno:=n2 _ hnd;have hns:=n4 _ hnd;have hfl:=hno.fl;refine wn<|bH (λ (g6:(Int×(qD→Option Int)))=>0≤g6.1∧g6.1≤s_.aW.dP.length∧(∀k,0≤Ch g6.2 k∧Ch g6.2 k≤g6.1)∧(∀f,Ch g6.2 (.s f)=(Qs s_.bG.aR (s_.aW.dP.take g6.1.toNat) (s_.aQ.getD g1.toNat 0) f:Int))) (λ (g6:(Int×(qD→Option Int)))=>(s_.aW.dP.length - g6.1).toNat) ?_ ?_
   ·intro jG g6 OC JY;obtain ⟨LG,wu,LH,XG⟩:=OC;unfold uz;refine wi ?_ ?_<;>intro c2
    ·obtain ⟨u1,u2,u3,u4⟩:=h3 _ (getD_in (i:=g6.1.toNat) bB om);have hmk:=LH (.s (((s_.bG.aR.ay.getD ((((s_.aW.dP.getD g6.1.toNat bB).kH).dx).toNat) aG).ak).getD ((((s_.aW.dP.getD g6.1.toNat bB).kH).gy).toNat) ByteArray.empty));refine wn<|bL ?_ ?_<;>intro c3
     ·have jI:=c3;have c3:=nr c3;refine wm<|wm ?_;refine JY _ ?_ ?_
      ·(refine ⟨ob,ob,λ k=>?_,λ f=>?_⟩; (dsimp only; rw [zn]; have:=LH k; split<;>omega); dsimp only; rw [zn,XG,XG,show (g6.1+1).toNat=g6.1.toNat+1 by omega,iC bB om,Qa]; by_cases q:f=nmU s_.bG.aR (s_.aW.dP.getD g6.1.toNat bB).kH; (subst q; refine (if_pos rfl).trans ?_; rw [if_pos ⟨by simpa using jI,rfl⟩]; show ((Qs _ _ _ (nmU _ _):Nat):Int)+1=_; omega); (refine (if_neg (λ e=>q (qD.s.inj e))).trans ?_; rw [if_neg (λ e=>q e.2.symm)]; rfl))
      ·exact ob
     ·have jI:=c3;have c3:=nr c3;refine wn<|JY _ ?_ ?_
      ·(refine ⟨ob,ob,λ k=>?_,λ f=>?_⟩; (have:=LH k; dsimp only; omega); dsimp only; rw [XG,show (g6.1+1).toNat=g6.1.toNat+1 by omega,iC bB om,Qa,if_neg (λ e=>absurd e.1 (by simpa using jI))]; rfl)
      ·exact ob
    ·refine wn<|bH (λ (g7:(Int×(qD→Option Int)))=>0≤g7.1∧(∀k,0≤Ch g7.2 k∧Ch g7.2 k≤2000000)∧(∀f,Ch g7.2 (.s f)=(Qs s_.bG.aR s_.aW.dP (s_.aQ.getD g1.toNat 0) f:Int) - (cntF ((s_.dB.getD (s_.aQ.getD g1.toNat 0).toNat aZ).ak.take g7.1.toNat) f:Int))) (λ (g7:(Int×(qD→Option Int)))=>((s_.dB.getD (s_.aQ.getD g1.toNat 0).toNat aZ).ak.length - g7.1).toNat) ?_ ?_
     ·intro nQ g7 aaA X8;obtain ⟨aaB,Cb,ahJ⟩:=aaA;unfold tV;refine wi ?_ ?_<;>intro c4
      ·have hmk:=Cb (.s (((s_.dB.getD ((s_.aQ.getD g1.toNat 0).toNat) aZ).ak).getD g7.1.toNat ByteArray.empty));have hlt:g7.1.toNat<(s_.dB.getD (s_.aQ.getD g1.toNat 0).toNat aZ).ak.length:=om;have hts:=iC ByteArray.empty hlt;have hcs:cntF ((s_.dB.getD (s_.aQ.getD g1.toNat 0).toNat aZ).ak.take (g7.1.toNat+1)) ((s_.dB.getD (s_.aQ.getD g1.toNat 0).toNat aZ).ak.getD g7.1.toNat ByteArray.empty)=cntF ((s_.dB.getD (s_.aQ.getD g1.toNat 0).toNat aZ).ak.take g7.1.toNat) ((s_.dB.getD (s_.aQ.getD g1.toNat 0).toNat aZ).ak.getD g7.1.toNat ByteArray.empty)+1:=(by rw [hts,Qb,if_pos rfl]);have hct:=aiT (l:=(s_.dB.getD (s_.aQ.getD g1.toNat 0).toNat aZ).ak) (f:=(s_.dB.getD (s_.aQ.getD g1.toNat 0).toNat aZ).ak.getD g7.1.toNat ByteArray.empty) (g7.1.toNat+1);have hq:=ahJ ((s_.dB.getD (s_.aQ.getD g1.toNat 0).toNat aZ).ak.getD g7.1.toNat ByteArray.empty);refine wm<|wi ?_ ?_<;>intro c5
       ·refine av ?_;(constructor; (intro e; cases e); (intro h; exfalso; rw [zn,if_pos rfl] at c5; have hff:=h g1.toNat om ((s_.dB.getD (s_.aQ.getD g1.toNat 0).toNat aZ).ak.getD g7.1.toNat ByteArray.empty); omega))
       ·rw [zn,if_pos rfl] at c5;refine wn<|X8 _ ?_ ?_
        ·(refine ⟨ob,λ k=>?_,λ f=>?_⟩; (dsimp only; rw [zn]; have:=Cb k; split<;>omega); dsimp only; rw [zn,show (g7.1+1).toNat=g7.1.toNat+1 by omega]; by_cases q:f=(s_.dB.getD (s_.aQ.getD g1.toNat 0).toNat aZ).ak.getD g7.1.toNat ByteArray.empty; (subst q; rw [if_pos rfl,hcs]; omega); (rw [if_neg (λ e=>q (qD.s.inj e)),hts,Qb,if_neg (λ e=>q e.symm),ahJ f]; rfl))
        ·exact ob
      ·refine wn<|bV _ ?_ ?_
       ·(refine ⟨ob,dZ bO dN (λ f=>?_)⟩; have e1:=ahJ f; have e2:=Cb (.s f); rw [List.take_of_length_le om] at e1; omega)
       ·exact ob
     ·(refine ⟨ob,λ k=>by have:=LH k; dsimp only; omega,λ f=>?_⟩; dsimp only; rw [XG f,show g6.1.toNat=s_.aW.dP.length by omega,List.take_length]; show _=_ - ((0:Nat):Int); omega)
   ·(refine ⟨ob,ob,λ k=>⟨Int.le_refl _,Int.le_refl _⟩,λ f=>rfl⟩)
  ·refine av ?_;(constructor; (intro _; exact λ i hi=>bO i om); (intro _; rfl))
 ·(refine ⟨ob,λ j hj=>by (try dsimp only at hj); omega⟩)
theorem Mg (h1:abp s_) (h2:agO s_):W (pE s_) (λ r=>(r=true↔(RsA s_.bG.aY 0∧ak8 s_.bG.aY s_.aW.dU)∧∀i:Nat,(i:Int)<s_.aQ.length→amS s_.aW (s_.dB.getD (s_.aQ.getD i 0).toNat aZ))):=by
 obtain ⟨⟨s1,s2,s3,s4,s5,s6,s7⟩,vl_,n1,n2,⟨n3,n4⟩,m1,⟨z1,z2,z3,z4,z5,z6⟩⟩:=h1;obtain ⟨y1,y2,y3,y4,y5,y6⟩:=h2;unfold pE;refine aH (Ya ob) λ v1 hv1=>?_;refine bL ?_ ?_<;>intro c1
 ·have gM:=c1;have c1:=nr c1;refine av ?_;(constructor; (intro e; cases e); (intro h; exact absurd (hv1.2 h.1) (by simpa using gM)))
 ·have gM:=c1;have c1:=nr c1;refine bH (λ (g1:Int)=>0≤g1∧(∀i:Nat,(i:Int)<g1→amS s_.aW (s_.dB.getD (s_.aQ.getD i 0).toNat aZ))) (λ (g1:Int)=>(s_.aQ.length - g1).toNat) ?_ ?_
  ·intro aj g1 d9 bV;obtain ⟨dN,bO⟩:=d9;unfold yJ;refine wi ?_ ?_<;>intro c2
   ·have hmem:=getD_in (l:=s_.aQ) (i:=g1.toNat) 0 om;have hmi:=y1 _ hmem;have hnd:=getD_in (l:=s_.dB) (i:=(s_.aQ.getD g1.toNat 0).toNat) aZ om;have hno:=n2 _ hnd;have hns:=n4 _ hnd;refine wm<|aH (Bp om (λ x hx=>(by have:=hno.rs x hx; omega))) λ v4 hv4=>?_;subst v4;refine bL ?_ ?_<;>intro c3
    ·have jI:=c3;have c3:=nr c3;refine av ?_;(constructor; (intro e; cases e); (intro h; exfalso; have:=adB.2 (λ j hj=>by have:=h.2 g1.toNat om j hj; rw [this]; rfl) |>.symm.trans jI; cases this))
    ·have jI:=c3;have c3:=nr c3;refine wn<|bV _ ?_ ?_
     ·(refine ⟨ob,dZ bO dN (λ j hj=>?_)⟩; have:=adB.1 jI j hj; simpa using this)
     ·exact ob
   ·refine av ?_;(constructor; (intro _; exact ⟨hv1.1 (by simpa using gM),λ i hi=>bO i om⟩); (intro _; rfl))
  ·(refine ⟨ob,λ j hj=>by (try dsimp only at hj); omega⟩)
theorem J7 (h1:abp s_) (h2:agO s_):W (nU s_) (λ r=>(r=true↔(DmA s_.bG.cB 0∧RgP s_.bG.cB s_.aW.fq)∧∀i:Nat,(i:Int)<s_.aQ.length→amT s_.aW (s_.dB.getD (s_.aQ.getD i 0).toNat aZ))):=by
 obtain ⟨⟨s1,s2,s3,s4,s5,s6,s7⟩,vl_,n1,n2,⟨n3,n4⟩,m1,⟨z1,z2,z3,z4,z5,z6⟩⟩:=h1;obtain ⟨y1,y2,y3,y4,y5,y6⟩:=h2;unfold nU;refine aH (Yd) λ v1 hv1=>?_;refine bL ?_ ?_<;>intro c1
 ·have gM:=c1;have c1:=nr c1;refine av ?_;(constructor; (intro e; cases e); (intro h; exact absurd (hv1.2 h.1) (by simpa using gM)))
 ·have gM:=c1;have c1:=nr c1;refine aH (Bq om (λ x hx=>(by have q:=y1 x hx; have:=(n2 _ (getD_in (i:=x.toNat) aZ om)).dm; omega))) λ v2 hv2=>?_;subst v2;refine av ?_;(rw [Bool.not_eq_true',adB]; constructor; (intro h; refine ⟨hv1.1 (by simpa using gM),λ i hi=>?_⟩; have:=h i hi; intro h0; simp only [Bool.and_eq_false_iff,decide_eq_false_iff_not,Bool.not_eq_false'] at this; exact this.resolve_left (λ q=>q h0)); (intro h j hj; have:=h.2 j hj; unfold amT at this; simp only [Bool.and_eq_false_iff,decide_eq_false_iff_not,Bool.not_eq_false']; by_cases q:0≤(s_.dB.getD (s_.aQ.getD j 0).toNat aZ).fI; (exact .inr (this q)); exact .inl q))
theorem aaI {x:bM} (h:fC l s []=true) (hx:abo l.length x):fC l s [⟨x.eZ,0,x.fO⟩]=true↔ala ((gD l s).getD x.eZ.toNat dS) x true:=by
 obtain ⟨x1,x2,x3,x4,x5⟩:=hx;rw [aco h x1 x2 (Int.le_refl 0) om x5,Int.zero_mul];obtain ⟨c1,c2,_⟩:=Wh h;have hv:=(mD (PZ (uW c1) c2 x.eZ.toNat om).2.2.1).1;exact ⟨λ ⟨a,b,_⟩=>⟨a,b,nofun⟩,λ ⟨a,b,_⟩=>⟨a,b,hv⟩⟩
theorem Sz {x:bM} (h:fC l s []=true) (hx:abo l.length x):fC l s [⟨x.eZ,x.Low,x.fO⟩]=true↔ala ((gD l s).getD x.eZ.toNat dS) x false:=by
 obtain ⟨x1,x2,x3,x4,x5⟩:=hx;rw [aco h x1 x2 x3 x4 x5];exact ⟨λ ⟨a,b,c⟩=>⟨a,b,λ _=>c⟩,λ ⟨a,b,c⟩=>⟨a,b,c rfl⟩⟩
theorem OO (h:Thn A B 0):A 0∧B 0:=by
 rcases h with h | h
 ·exact absurd rfl h.2
 ·exact h
theorem tq {l:List aJ} (h:mQ b l 0):ank b∧l.length≤12∧∀n∈l,aoB b n:=by
 obtain ⟨h1,h2⟩:=OO h;obtain ⟨b1,h3⟩:=OO h1;obtain ⟨b2,h4⟩:=OO h3;obtain ⟨b3,h5⟩:=OO h4;obtain ⟨b4,b5⟩:=OO h5;obtain ⟨c1,c2⟩:=uI (by decide) h2;refine ⟨⟨b1.symm,b2.symm,b3.v.ok,b4.ok,b5.ok⟩,om,kC aZ λ i hi=>?_⟩;obtain ⟨d1,d2⟩:=uI (by decide) (ak7 c2 i hi);obtain ⟨e1,e2⟩:=uI (by decide) d2;obtain ⟨f1,f2⟩:=uI (by decide) e2;obtain ⟨g1,g2⟩:=uI (by decide) f2;obtain ⟨k1,k2⟩:=uI (by decide) g2;obtain ⟨m1,m2⟩:=uI (by decide) k2;refine ⟨om,om,om,kC cZ λ j hj=>?_,kC dG λ j hj=>?_,kC 0 λ j hj=>?_,Classical.not_not.1 m1⟩
 ·exact Classical.byContradiction λ q=>e1 ⟨j,om,q⟩
 ·exact Classical.byContradiction λ q=>f1 ⟨j,om,q⟩
 ·exact Classical.byContradiction λ q=>k1 ⟨j,om,q⟩
def apT (b:aS) (l:List aJ) (ms:List Int) (g:bF) (bt:Bool):Prop:=∀i:Nat,(i:Int)<ms.length→alb b g (l.getD (ms.getD i 0).toNat aZ) bt
def amU (b:aS) (l:List aJ) (ms:List Int) (g:bF):Prop:=∀i:Nat,(i:Int)<ms.length→alc b g (l.getD (ms.getD i 0).toNat aZ) (ms.getD i 0)
def apU (b:aS) (l:List aJ) (ms:List Int) (g:bF):Prop:=(RsA b.aY 0∧ak8 b.aY g.dU)∧∀i:Nat,(i:Int)<ms.length→amS g (l.getD (ms.getD i 0).toNat aZ)
def arY (b:aS) (l:List aJ) (ms:List Int) (g:bF):Prop:=(DmA b.cB 0∧RgP b.cB g.fq)∧∀i:Nat,(i:Int)<ms.length→amT g (l.getD (ms.getD i 0).toNat aZ)
def ale (b:aS) (l:List aJ) (ms:List Int) (g:bF) (bt:Bool):Int→Prop:=
 J2 (¬(yA l ms∧ak9 b l g)) 1<|
 J2 (fC b.bR g.dA []=false) 2<|
 J2 (¬apT b l ms g bt) 3<|
 J2 (Sp.fC b.bD g.fA (drM l ms)=false) 4<|
 J2 (¬(wD b.aR 0∧OL b.aR (g.dP.map aT.kH))) 5<|
 J2 (¬amU b l ms g) 6<|
 J2 (¬apU b l ms g) 7<|
 J2 (¬arY b l ms g) 8<|
 λ r=>r=0
theorem ale.fun {l:List aJ} {ms:List Int} {g:bF} {bt:Bool}:EF (ale b l ms g bt):=.Jc (.Jc (.Jc (.Jc (.Jc (.Jc (.Jc (.Jc .zero)))))))
def abA (b:aS) (l:List aJ) (ms:List Int) (g:bF) (bt:Bool):Int→Prop:=J2 (¬mQ b l 0) 1 (ale b l ms g bt)
theorem abA.fun {l:List aJ} {ms:List Int} {g:bF} {bt:Bool}:EF (abA b l ms g bt):=.Jc ale.fun
theorem apV {s:gY} (h:yA s.dB s.aQ∧ak9 s.bG s.dB s.aW):agO s:=by
 obtain ⟨h1,⟨h2,h3,h4,h5,h6⟩,_,_⟩:=h;exact ⟨kC 0 λ j hj=>(h1 j om).1,om,om,om,om,om⟩
theorem Qc {us:List aT} (h:OL p (us.map aT.kH)):∀u∈us,LC p u.kH:=by
 refine kC bB λ i hi=>?_;have:=(h i (by rw [List.length_map]; omega)).1;rw [sZ (d:=bB) hi] at this;exact this
theorem Mh (h1:abp s_) (h2:∀g∈s_.bG.aR.ay,g.bS.length≤2000000∧g.ak.length≤2000000):W (pF s_) (λ r=>ale s_.bG s_.dB s_.aQ s_.aW s_.jO r):=by
 unfold pF;refine wn<|aH (OJ h1) λ v1 hv1=>?_;refine wi ?_ ?_<;>intro c1
 ·refine wn<|av ?_;(exact dV (kN hv1 c1))
 ·have q1:=hv1.1 c1;have hsh:=apV q1;refine wm<|aH (Me h1) λ v2 hv2=>?_;subst v2;refine wi ?_ ?_<;>intro c2
  ·refine wn<|av ?_;(exact aL (λ h=>h q1) (dV c2))
  ·refine wm<|aH (Mf h1 hsh c2) λ v3 hv3=>?_;refine wi ?_ ?_<;>intro c3
   ·refine wn<|av ?_;(exact aL (λ h=>h q1) (aL (by rw [c2]; decide) (dV (kN hv3 c3))))
   ·have q3:=hv3.1 c3;refine wm<|aH (II h1 hsh) λ v4 hv4=>?_;subst v4;refine wi ?_ ?_<;>intro c4
    ·refine wn<|av ?_;(exact aL (λ h=>h q1) (aL (by rw [c2]; decide) (aL (λ h=>h q3) (dV c4))))
    ·refine wm<|aH (Qt h1 h2) λ v5 hv5=>?_;refine wi ?_ ?_<;>intro c5
     ·refine wn<|av ?_;(exact aL (λ h=>h q1) (aL (by rw [c2]; decide) (aL (λ h=>h q3) (aL (by rw [c4]; decide) (dV (kN hv5 c5))))))
     ·have q5:=hv5.1 c5;refine wm<|aH (Gu h1 hsh (Qc q5.2)) λ v6 hv6=>?_;refine wi ?_ ?_<;>intro c6
      ·refine wn<|av ?_;(exact aL (λ h=>h q1) (aL (by rw [c2]; decide) (aL (λ h=>h q3) (aL (by rw [c4]; decide) (aL (λ h=>h q5) (dV (kN hv6 c6)))))))
      ·have q6:=hv6.1 c6;refine wm<|aH (Mg h1 hsh) λ v7 hv7=>?_;refine wi ?_ ?_<;>intro c7
       ·refine wn<|av ?_;(exact aL (λ h=>h q1) (aL (by rw [c2]; decide) (aL (λ h=>h q3) (aL (by rw [c4]; decide) (aL (λ h=>h q5) (aL (λ h=>h q6) (dV (kN hv7 c7))))))))
       ·have q7:=hv7.1 c7;refine wm<|aH (J7 h1 hsh) λ v8 uG=>?_;refine wi ?_ ?_<;>intro c8
        ·refine wn<|av ?_;(exact aL (λ h=>h q1) (aL (by rw [c2]; decide) (aL (λ h=>h q3) (aL (by rw [c4]; decide) (aL (λ h=>h q5) (aL (λ h=>h q6) (aL (λ h=>h q7) (dV (kN uG c8)))))))))
        ·refine wn<|av ?_;(exact aL (λ h=>h q1) (aL (by rw [c2]; decide) (aL (λ h=>h q3) (aL (by rw [c4]; decide) (aL (λ h=>h q5) (aL (λ h=>h q6) (aL (λ h=>h q7) (aL (λ h=>h (uG.1 c8)) rfl))))))))
theorem Yg {gQ:Bool} (h1:Ef b_) (h2:∀g∈b_.aR.ay,g.bS.length≤2000000∧g.ak.length≤2000000) (h3:Md l_) (h4:ah.length≤10000) (h5:Qq g_):W (CO b_ l_ ah g_ gQ) (λ r=>abA b_ l_ ah g_ gQ r):=by
 unfold CO;refine aH (Rs h1 h2 h3) λ v1 hv1=>?_;refine wi ?_ ?_<;>intro c1
 ·exact av<|dV (λ h=>c1 (mQ.fun _ _ hv1 h))
 ·have hn0:mQ b_ l_ 0:=(by rw [c1] at hv1; exact hv1);obtain ⟨nk1,nk2,nk3⟩:=tq hn0;refine aH (Mh ⟨h1,nk1,nk2,nk3,h3,h4,h5⟩ h2) λ v2 hv2=>?_;exact av<|aL (λ h=>h hn0) hv2
theorem Yh {x_:aJ} {gQ:Bool} (h1:b_.bR.length≤2000000) (h2:g_.dA.length≤2000000) (h3:aeY b_.bR) (h4:fC b_.bR g_.dA []=true) (h5:∀x∈x_.bY,abo b_.bR.length x) (h6:x_.bY.length≤2000000):W (CS b_ g_ x_ gQ) (λ r=>r=true↔alb b_ g_ x_ gQ):=by
 unfold CS;refine bH (λ (g1:Int)=>0≤g1∧(∀j:Nat,(j:Int)<g1→ala ((gD b_.bR g_.dA).getD (x_.bY.getD j cZ).eZ.toNat dS) (x_.bY.getD j cZ) gQ)) (λ (g1:Int)=>(x_.bY.length - g1).toNat) ?_ ?_
 ·intro aj g1 d9 bV;obtain ⟨dN,bO⟩:=d9;unfold Lh;refine wi ?_ ?_<;>intro c1
  ·have hx:=h5 _ (getD_in (i:=g1.toNat) cZ om);refine wn<|wi ?_ ?_<;>intro c2
   ·subst c2;unfold qo;refine aH (Eo ob ob ob ob) λ v3 hv3=>?_;subst v3;refine wi ?_ ?_<;>intro c3
    ·refine av ?_;(constructor; (intro e; cases e); (intro h; exfalso; rw [(aaI h4 hx).2 (h g1.toNat om)] at c3; cases c3))
    ·refine wn<|bV _ ?_ ?_
     ·(refine ⟨ob,dZ bO dN ((aaI h4 hx).1 c3)⟩)
     ·exact ob
   ·subst c2;unfold qo;refine aH (Eo ob ob ob ob) λ v3 hv3=>?_;subst v3;refine wi ?_ ?_<;>intro c4
    ·refine av ?_;(constructor; (intro e; cases e); (intro h; exfalso; rw [(Sz h4 hx).2 (h g1.toNat om)] at c4; cases c4))
    ·refine wn<|bV _ ?_ ?_
     ·(refine ⟨ob,dZ bO dN ((Sz h4 hx).1 c4)⟩)
     ·exact ob
  ·refine av ?_;(constructor; (intro _; exact λ j hj=>bO j om); (intro _; rfl))
 ·(refine ⟨ob,λ j hj=>by (try dsimp only at hj); omega⟩)
theorem SA {x_:aJ} {bI:Int} (h1:g_.dP.length≤2000000) (h2:x_.ak.length≤2000000) (h3:∀u∈g_.dP,LC b_.aR u.kH):W (uT b_ g_ x_ bI) (λ r=>r=true↔alc b_ g_ x_ bI):=by
 unfold uT;refine bH (λ (g1:Int)=>0≤g1∧(∀j:Nat,(j:Int)<g1→cntF x_.ak (fnG x_.ak j)≤Qs b_.aR g_.dP bI (fnG x_.ak j))) (λ (g1:Int)=>(x_.ak.length - g1).toNat) ?_ ?_
 ·intro aj g1 d9 bV;obtain ⟨dN,bO⟩:=d9;unfold D9;refine wi ?_ ?_<;>intro c1
  ·refine wn<|bH (λ (g6:Int×Int)=>0≤g6.2∧g6.2≤x_.ak.length∧(0≤g6.1∧g6.1≤g6.2)∧g6.1=(cntF (x_.ak.take g6.2.toNat) (x_.ak.getD g1.toNat ByteArray.empty):Int)) (λ (g6:Int×Int)=>(x_.ak.length - g6.2).toNat) ?_ ?_
   ·intro jG g6 OC JY;obtain ⟨LG,wu,LH,XG⟩:=OC;unfold D8;refine wi ?_ ?_<;>intro c2
    ·refine wn<|bL ?_ ?_<;>intro c3
     ·have jI:=c3;have c3:=nr c3;refine wm<|JY _ ?_ ?_
      ·(refine ⟨ob,ob,ob,?_⟩; dsimp only; rw [XG,show (g6.2+1).toNat=g6.2.toNat+1 by omega,iC ByteArray.empty om,Qb,if_pos (Sw (by simpa using jI))]; rfl)
      ·exact ob
     ·have jI:=c3;have c3:=nr c3;refine wn<|JY _ ?_ ?_
      ·(refine ⟨ob,ob,ob,?_⟩; dsimp only; rw [XG,show (g6.2+1).toNat=g6.2.toNat+1 by omega,iC ByteArray.empty om,Qb,if_neg (λ e=>by rw [e] at jI; simp at jI)]; rfl)
      ·exact ob
    ·refine bH (λ (g7:Int×Int)=>0≤g7.2∧g7.2≤g_.dP.length∧(0≤g7.1∧g7.1≤g7.2)∧g7.1=(Qs b_.aR (g_.dP.take g7.2.toNat) bI (x_.ak.getD g1.toNat ByteArray.empty):Int)) (λ (g7:Int×Int)=>(g_.dP.length - g7.2).toNat) ?_ ?_
     ·intro nQ g7 aaA X8;obtain ⟨aaB,Cb,ahJ,alf⟩:=aaA;unfold BS;refine wi ?_ ?_<;>intro c4
      ·obtain ⟨u1,u2,u3,u4⟩:=h3 _ (getD_in (i:=g7.2.toNat) bB om);refine wm<|wn ?_;refine bL ?_ ?_<;>intro c5
       ·have AO:=c5;have c5:=nr c5;refine wm<|X8 _ ?_ ?_
        ·(refine ⟨ob,ob,ob,?_⟩; dsimp only; rw [alf,show (g7.2+1).toNat=g7.2.toNat+1 by omega,iC bB om,Qa,if_pos (by simp only [Bool.and_eq_true,beq_iff_eq] at AO; exact ⟨AO.1,Sw AO.2⟩)]; rfl)
        ·exact ob
       ·have AO:=c5;have c5:=nr c5;refine wn<|X8 _ ?_ ?_
        ·(refine ⟨ob,ob,ob,?_⟩; dsimp only; rw [alf,show (g7.2+1).toNat=g7.2.toNat+1 by omega,iC bB om,Qa,if_neg (λ e=>by have e2:=e.2; unfold nmU at e2; rw [e.1,e2] at AO; simp at AO)]; rfl)
        ·exact ob
      ·rw [List.take_of_length_le om] at XG alf;refine wi ?_ ?_<;>intro c6
       ·refine av ?_;(constructor; (intro e; cases e); (intro h; exfalso; have:=h (x_.ak.getD g1.toNat ByteArray.empty); omega))
       ·refine wn<|bV _ ?_ ?_
        ·(refine ⟨ob,dZ bO dN (by unfold fnG; omega)⟩)
        ·exact ob
     ·(refine ⟨ob,ob,ob,rfl⟩)
   ·(refine ⟨ob,ob,ob,rfl⟩)
  ·refine av ?_;(constructor; (intro _ f; rcases Nat.eq_zero_or_pos (cntF x_.ak f) with e | e; (omega); (obtain ⟨j,h4,rfl⟩:=ald e; exact bO j om)); (intro _; rfl))
 ·(refine ⟨ob,λ j hj=>by (try dsimp only at hj); omega⟩)
end Go.Proofs.YtccjmcmolnbiiaaGreatDoor
namespace Go.Proofs.YtccjmcmolnbiiaaGreatDoor.Sp
open Go.Ab
set_option maxRecDepth 100000
theorem aaJ {l_:List aD} {r_:dh} (h1:l_.length≤2000000) (h2:r_.dQ.length≤2000000):W (FE l_ r_) (λ r=>r=vJ l_ r_):=by
 unfold FE;refine aH (Sp.zQ ob) λ v1 hv1=>?_;subst v1;refine bL ?_ ?_<;>intro c1
 ·have gM:=c1;have c1:=nr c1;refine av ?_;(unfold vJ; rw [gM]; rfl)
 ·have gM:=c1;have c1:=nr c1;have hck:eD l_=0∧r_.On.length=l_.length∧r_.dQ.length=l_.length:=(by have:=gM; simp only [Bool.or_eq_false_iff,bne_eq_false_iff_eq] at this; omega);obtain ⟨b1,b2,b3⟩:=JO hck.1;refine bH (λ (g1:Int)=>0≤g1∧g1≤l_.length∧rlN (l_.drop g1.toNat) (r_.dQ.drop g1.toNat)=rlN l_ r_.dQ) (λ (g1:Int)=>(l_.length - g1).toNat) ?_ ?_
  ·intro aj g1 d9 bV;obtain ⟨dN,bO,bE⟩:=d9;unfold NZ;obtain ⟨i,rfl⟩:=Int.eq_ofNat_of_zero_le dN;refine wi ?_ ?_<;>intro c2
   ·have hlt:i<l_.length:=om;have hb:=b2 i hlt;rw [show ((i:Int).toNat)=i from rfl,drop_cons au hlt,drop_cons 0 (show i<r_.dQ.length by omega),rlN] at bE;simp only [Int.toNat_natCast] at *;refine wm<|wn ?_;refine aH (Sp.pR) λ v4 hv4=>?_;subst v4;refine bL ?_ ?_<;>intro c3
    ·have jI:=c3;have c3:=nr c3;refine av ?_;(unfold vJ; rw [gM,← bE]; rw [show dK (r_.dQ.getD i 0) 0 _=false by simpa using jI]; rfl)
    ·have jI:=c3;have c3:=nr c3;refine wn<|bV _ ?_ ?_
     ·(refine ⟨ob,ob,?_⟩; rw [← bE,show dK (r_.dQ.getD i 0) 0 _=true by simpa using jI,show ((i:Int)+1).toNat=i+1 by omega]; rfl)
     ·exact ob
   ·refine av ?_;have e:i=l_.length:=om;unfold vJ; rw [gM,← bE,show (i:Int).toNat=i from rfl,e,List.drop_length]; cases List.drop l_.length r_.dQ<;>rfl
  ·(refine ⟨ob,ob,rfl⟩)
end Go.Proofs.YtccjmcmolnbiiaaGreatDoor.Sp
namespace Go.Proofs.YtccjmcmolnbiiaaGreatDoor
open Go.Ab
set_option maxRecDepth 100000
theorem aaK {l_:List aD} {r_:dh} {d_:List bq} (h1:l_.length≤2000000) (h2:d_.length≤2000000) (h3:r_.dQ.length≤2000000):W (FH l_ r_ d_) (λ r=>r=Sp.fC l_ r_ d_):=by
 unfold FH;refine aH (Sp.Rm ob ob) λ v1 hv1=>?_;subst v1;refine aH (gV λ hc=>lT (Sp.aaJ ob ob)) λ v2 hv2=>?_;subst v2;refine aH (gV λ hc=>lT (Sp.Rn (Sp.Ed (by simp only [Bool.and_eq_true] at hc; exact hc.1)) (Sp.Dn.1 (by simp only [Bool.and_eq_true] at hc; exact hc.2)).2)) λ v3 hv3=>?_;subst v3;refine av ?_;(unfold Sp.fC; cases Sp.jq l_ d_<;>cases Sp.vJ l_ r_<;>rfl)
theorem Yi {b_:aS} {l_:List aJ} {ah:List Int} {g_:bF} {gQ:Bool} (h1:Ef b_) (h2:∀g∈b_.aR.ay,g.bS.length≤2000000∧g.ak.length≤2000000) (h3:Md l_) (h4:ah.length≤10000) (h5:Qq g_):W (CW b_ l_ ah g_ gQ) (λ r=>abA b_ l_ ah g_ gQ r):=by
 obtain ⟨n3,n4⟩:=id h3;obtain ⟨s1,s2,s3,s4,s5,s6,s7⟩:=id h1;obtain ⟨z1,z2,z3,z4,z5,z6⟩:=id h5;unfold CW;refine aH (zW h1 h2 h3) λ v1 hv1=>?_;refine aH (rA λ hc=>sW n3 om) λ v2 hv2=>?_;refine aH (rA λ hc=>Ye h1 n3 h5) λ v3 hv3=>?_;refine bL ?_ ?_<;>intro c1
 ·have gM:=c1;have c1:=nr c1;refine av ?_;(by_cases q:mQ b_ l_ 0; (refine aL (λ h=>h q) (dV (λ h=>?_)); have e:=mQ.fun _ _ hv1 q; have a2:=(hv2 (by rw [e]; rfl)).2 h.1; have a3:=(hv3 (by rw [e,a2]; rfl)).2 h.2; rw [e,a2,a3] at gM; cases gM); exact dV q)
 ·have gM:=c1;have c1:=nr c1;have e1:v1=0∧v2=true∧v3=true:=(by simp only [Bool.or_eq_false_iff,bne_eq_false_iff_eq,Bool.not_eq_false'] at gM; exact ⟨gM.1.1,gM.1.2,gM.2⟩);have hn0:mQ b_ l_ 0:=(by rw [e1.1] at hv1; exact hv1);have q1:yA l_ ah∧ak9 b_ l_ g_:=⟨(hv2 (by rw [e1.1]; rfl)).1 e1.2.1,(hv3 (by rw [e1.1,e1.2.1]; rfl)).1 e1.2.2⟩;have nok:=tq hn0;have hsl:=q1.2.1;refine aH (Eo s1 z1 (by decide) s2) λ v4 hv4=>?_;subst v4;refine wi ?_ ?_<;>intro c2
  ·exact av (aL (λ h=>h hn0) (aL (λ h=>h q1) (dV c2)))
  ·refine bH (λ (g1:Int×List bq)=>0≤g1.1∧g1.1≤ah.length∧(g1.2.length:Int)≤32*g1.1∧g1.2=drM l_ (ah.take g1.1.toNat)∧(∀i:Nat,(i:Int)<g1.1→alb b_ g_ (l_.getD (ah.getD i 0).toNat aZ) gQ)) (λ (g1:Int×List bq)=>(ah.length - g1.1).toNat) ?_ ?_
   ·intro aj g1 d9 bV;obtain ⟨dN,bO,bE,jA,BZ⟩:=d9;unfold Lp;refine wi ?_ ?_<;>intro c3
    ·have hmi:=(q1.1 g1.1.toNat om).1;have hnd:=getD_in (l:=l_) (i:=(ah.getD g1.1.toNat 0).toNat) aZ om;have hno:=nok.2.2 _ hnd;have hns:=n4 _ hnd;obtain ⟨o1,o2,o3,o4,o5,o6,o7⟩:=id hno;refine aO (by first | omega | (unfold aF; omega) | (intro h0; have:=of_decide_eq_true h0; omega) | (unfold big; omega)) ?_;refine aO (by first | omega | (unfold aF; omega) | (intro h0; have:=of_decide_eq_true h0; omega) | (unfold big; omega)) ?_;refine aH (Yh s1 z1 s2 c2 o4 om) λ v7 hv7=>?_;refine wi ?_ ?_<;>intro c4
     ·exact av (aL (λ h=>h hn0) (aL (λ h=>h q1) (aL (by rw [c2]; decide) (dV (λ h=>kN hv7 c4 (h g1.1.toNat om))))))
     ·refine aO (by first | omega | (unfold aF; omega) | (intro h0; have:=of_decide_eq_true h0; omega) | (unfold big; omega)) ?_;refine aO (by first | omega | (unfold aF; omega) | (intro h0; have:=of_decide_eq_true h0; omega) | (unfold big; omega)) ?_;refine aO (by first | omega | (unfold aF; omega) | (intro h0; have:=of_decide_eq_true h0; omega) | (unfold big; omega)) ?_;refine bV _ ?_ ?_
      ·(refine ⟨om,om,by (simp only [List.length_append]; omega),?_,dZ BZ dN (hv7.1 c4)⟩; dsimp only; unfold drM at *; rw [show (g1.1+1).toNat=g1.1.toNat+1 by omega,iC 0 om,List.flatMap_append,jA]; simp only [List.flatMap_cons,List.flatMap_nil,List.append_nil])
      ·omega
    ·have q3:apT b_ l_ ah g_ gQ:=λ i hi=>BZ i om;have hdr:g1.2=drM l_ ah:=(by rw [jA,show g1.1.toNat=ah.length by omega,List.take_length]);have arZ:(drM l_ ah).length≤2000000:=(by rw [← hdr]; omega);rw [hdr];refine aH (aaK s3 arZ z3) λ v8 uG=>?_;subst v8;refine wi ?_ ?_<;>intro c5
     ·exact av (aL (λ h=>h hn0) (aL (λ h=>h q1) (aL (by rw [c2]; decide) (aL (λ h=>h q3) (dV c5)))))
     ·refine aH (abz z4) λ v9 Sl=>?_;subst v9;refine aH (Yf h2 (by rw [List.length_map]; exact z4)) λ v10 ED=>?_;refine wi ?_ ?_<;>intro c6
      ·exact av (aL (λ h=>h hn0) (aL (λ h=>h q1) (aL (by rw [c2]; decide) (aL (λ h=>h q3) (aL (by rw [c5]; decide) (dV (λ h=>c6 (ED.2 h))))))))
      ·have q5:=ED.1 c6;have hown:=Qc q5.2;refine bH (λ (g2:Int)=>0≤g2∧(∀i:Nat,(i:Int)<g2→alc b_ g_ (l_.getD (ah.getD i 0).toNat aZ) (ah.getD i 0))) (λ (g2:Int)=>(ah.length - g2).toNat) ?_ ?_
       ·intro dJ g2 mO qx;obtain ⟨qU,jB⟩:=mO;unfold Ip;refine wi ?_ ?_<;>intro c7
        ·have hmi:=(q1.1 g2.toNat om).1;have hnd:=getD_in (l:=l_) (i:=(ah.getD g2.toNat 0).toNat) aZ om;have hno:=nok.2.2 _ hnd;have hns:=n4 _ hnd;obtain ⟨o1,o2,o3,o4,o5,o6,o7⟩:=id hno;refine aO (by first | omega | (unfold aF; omega) | (intro h0; have:=of_decide_eq_true h0; omega) | (unfold big; omega)) ?_;refine aO (by first | omega | (unfold aF; omega) | (intro h0; have:=of_decide_eq_true h0; omega) | (unfold big; omega)) ?_;refine aH (SA z4 om hown) λ v13 R8=>?_;refine wi ?_ ?_<;>intro c8
         ·exact av (aL (λ h=>h hn0) (aL (λ h=>h q1) (aL (by rw [c2]; decide) (aL (λ h=>h q3) (aL (by rw [c5]; decide) (aL (λ h=>h q5) (dV (λ h=>kN R8 c8 (h g2.toNat om)))))))))
         ·refine aO (by first | omega | (unfold aF; omega) | (intro h0; have:=of_decide_eq_true h0; omega) | (unfold big; omega)) ?_;refine qx _ ?_ ?_
          ·(refine ⟨om,dZ jB qU (R8.1 c8)⟩)
          ·omega
        ·have q6:amU b_ l_ ah g_:=λ i hi=>jB i om;refine aH (Yb s6) λ v14 TY=>?_;refine wi ?_ ?_<;>intro c9
         ·exact av (aL (λ h=>h hn0) (aL (λ h=>h q1) (aL (by rw [c2]; decide) (aL (λ h=>h q3) (aL (by rw [c5]; decide) (aL (λ h=>h q5) (aL (λ h=>h q6) (dV (λ h=>kN TY c9 h.1)))))))))
         ·have q7a:=TY.1 c9;refine bH (λ (g3:Int)=>0≤g3∧(∀i:Nat,(i:Int)<g3→amS g_ (l_.getD (ah.getD i 0).toNat aZ))) (λ (g3:Int)=>(ah.length - g3).toNat) ?_ ?_
          ·intro jV g3 adz adA;obtain ⟨XF,qy⟩:=adz;unfold Io;refine wi ?_ ?_<;>intro c10
           ·have hmi:=(q1.1 g3.toNat om).1;have hnd:=getD_in (l:=l_) (i:=(ah.getD g3.toNat 0).toNat) aZ om;have hno:=nok.2.2 _ hnd;have hns:=n4 _ hnd;obtain ⟨o1,o2,o3,o4,o5,o6,o7⟩:=id hno;refine aO (by first | omega | (unfold aF; omega) | (intro h0; have:=of_decide_eq_true h0; omega) | (unfold big; omega)) ?_;refine aO (by first | omega | (unfold aF; omega) | (intro h0; have:=of_decide_eq_true h0; omega) | (unfold big; omega)) ?_;refine bH (λ (g6:Int)=>0≤g6∧(∀j:Nat,(j:Int)<g6→g_.dU.getD ((l_.getD (ah.getD g3.toNat 0).toNat aZ).aY.getD j 0).toNat false=true)) (λ (g6:Int)=>((l_.getD (ah.getD g3.toNat 0).toNat aZ).aY.length - g6).toNat) ?_ ?_
            ·intro jG g6 OC JY;obtain ⟨LG,wu⟩:=OC;unfold Il;refine wi ?_ ?_<;>intro c11
             ·have hx:=o6 _ (getD_in (i:=g6.toNat) 0 om);refine aO (by first | omega | (unfold aF; omega) | (intro h0; have:=of_decide_eq_true h0; omega) | (unfold big; omega)) ?_;refine aO (by first | omega | (unfold aF; omega) | (intro h0; have:=of_decide_eq_true h0; omega) | (unfold big; omega)) ?_;refine wi ?_ ?_<;>intro c12
              ·exact av (aL (λ h=>h hn0) (aL (λ h=>h q1) (aL (by rw [c2]; decide) (aL (λ h=>h q3) (aL (by rw [c5]; decide) (aL (λ h=>h q5) (aL (λ h=>h q6) (dV (λ h=>by have:=h.2 g3.toNat om g6.toNat om; rw [this] at c12; cases c12)))))))))
              ·refine aO (by first | omega | (unfold aF; omega) | (intro h0; have:=of_decide_eq_true h0; omega) | (unfold big; omega)) ?_;refine JY _ ?_ ?_
               ·(refine ⟨om,dZ wu LG c12⟩)
               ·omega
             ·refine aO (by first | omega | (unfold aF; omega) | (intro h0; have:=of_decide_eq_true h0; omega) | (unfold big; omega)) ?_;refine adA _ ?_ ?_
              ·(refine ⟨om,dZ qy XF (λ j hj=>wu j om)⟩)
              ·omega
            ·(refine ⟨om,λ j hj=>by (try dsimp only at hj); omega⟩)
           ·have q7:apU b_ l_ ah g_:=⟨q7a,λ i hi=>qy i om⟩;refine aH (aaC) λ v15 T9=>?_;refine wi ?_ ?_<;>intro c13
            ·exact av (aL (λ h=>h hn0) (aL (λ h=>h q1) (aL (by rw [c2]; decide) (aL (λ h=>h q3) (aL (by rw [c5]; decide) (aL (λ h=>h q5) (aL (λ h=>h q6) (aL (λ h=>h q7) (dV (λ h=>kN T9 c13 h.1))))))))))
            ·have q8a:=T9.1 c13;refine bH (λ (g7:Int)=>0≤g7∧(∀i:Nat,(i:Int)<g7→amT g_ (l_.getD (ah.getD i 0).toNat aZ))) (λ (g7:Int)=>(ah.length - g7).toNat) ?_ ?_
             ·intro nQ g7 aaA X8;obtain ⟨aaB,Cb⟩:=aaA;unfold Im;refine wi ?_ ?_<;>intro c14
              ·have hmi:=(q1.1 g7.toNat om).1;have hnd:=getD_in (l:=l_) (i:=(ah.getD g7.toNat 0).toNat) aZ om;have hno:=nok.2.2 _ hnd;have hns:=n4 _ hnd;obtain ⟨o1,o2,o3,o4,o5,o6,o7⟩:=id hno;refine aO (by first | omega | (unfold aF; omega) | (intro h0; have:=of_decide_eq_true h0; omega) | (unfold big; omega)) ?_;refine aO (by first | omega | (unfold aF; omega) | (intro h0; have:=of_decide_eq_true h0; omega) | (unfold big; omega)) ?_;refine aO (by first | omega | (unfold aF; omega) | (intro h0; have:=of_decide_eq_true h0; omega) | (unfold big; omega)) ?_;refine bL ?_ ?_<;>intro c15
               ·have aoH:=c15;have c15:=nr c15;exact av (aL (λ h=>h hn0) (aL (λ h=>h q1) (aL (by rw [c2]; decide) (aL (λ h=>h q3) (aL (by rw [c5]; decide) (aL (λ h=>h q5) (aL (λ h=>h q6) (aL (λ h=>h q7) (dV (λ h=>by have:=h.2 g7.toNat om c15.1; rw [this] at c15; cases c15.2))))))))))
               ·have aoH:=c15;have c15:=nr c15;refine aO (by first | omega | (unfold aF; omega) | (intro h0; have:=of_decide_eq_true h0; omega) | (unfold big; omega)) ?_;refine X8 _ ?_ ?_
                ·(refine ⟨om,dZ Cb aaB (λ h0=>?_)⟩; simp only [Bool.and_eq_false_iff,decide_eq_false_iff_not,Bool.not_eq_false'] at aoH; exact aoH.resolve_left (λ q=>q h0))
                ·omega
              ·exact av (aL (λ h=>h hn0) (aL (λ h=>h q1) (aL (by rw [c2]; decide) (aL (λ h=>h q3) (aL (by rw [c5]; decide) (aL (λ h=>h q5) (aL (λ h=>h q6) (aL (λ h=>h q7) (aL (λ h=>h ⟨q8a,λ i hi=>Cb i om⟩) rfl)))))))))
             ·(refine ⟨om,λ j hj=>by (try dsimp only at hj); omega⟩)
          ·(refine ⟨om,λ j hj=>by (try dsimp only at hj); omega⟩)
       ·(refine ⟨om,λ j hj=>by (try dsimp only at hj); omega⟩)
   ·(refine ⟨om,by (dsimp only; omega),by (simp only [List.length_nil]; omega),rfl,λ i hi=>by (try dsimp only at hi); omega⟩)
def cfg:yE where
 ty:=[(3,⟨1,false,8,[(.int .i64)],(.int .i64)⟩),
 (4,⟨1,false,1,[.bool],.bool⟩),
 (5,⟨1,false,1,[(.int .u8)],(.int .u8)⟩),
 (9,⟨1,false,16,[.str],.str⟩),
 (22,⟨1,false,24,[.slice],(.slice 3)⟩),
 (24,⟨1,false,8,[.ptr],(.pointer 95)⟩),
 (26,⟨1,false,24,[.slice],(.slice 191)⟩),
 (27,⟨1,false,24,[.slice],(.slice 175)⟩),
 (28,⟨1,false,24,[.slice],(.slice 60)⟩),
 (29,⟨2,true,32,[(.int .i64),.slice],(.struct [(0,3),(1,28)])⟩),
 (30,⟨2,true,32,[(.int .i64),.slice],(.struct [(0,3),(1,28)])⟩),
 (31,⟨1,false,24,[.slice],(.slice 133)⟩),
 (32,⟨1,false,24,[.slice],(.slice 136)⟩),
 (33,⟨6,true,128,[.slice,.slice,(.int .i64),.slice,.slice,.slice],(.struct [(0,26),(1,27),(2,30),(4,31),(5,32)])⟩),
 (34,⟨6,true,128,[.slice,.slice,(.int .i64),.slice,.slice,.slice],(.struct [(0,26),(1,27),(2,30),(4,31),(5,32)])⟩),
 (35,⟨1,false,24,[.slice],(.slice 53)⟩),
 (36,⟨1,false,24,[.slice],(.slice 4)⟩),
 (37,⟨2,true,48,[.slice,.slice],(.struct [(0,36),(1,22)])⟩),
 (38,⟨2,true,48,[.slice,.slice],(.struct [(0,36),(1,22)])⟩),
 (39,⟨1,false,24,[.slice],(.slice 57)⟩),
 (40,⟨6,true,144,[.slice,.slice,.slice,.slice,.slice,.slice],(.struct [(0,22),(1,38),(3,39),(4,36),(5,36)])⟩),
 (41,⟨6,true,144,[.slice,.slice,.slice,.slice,.slice,.slice],(.struct [(0,22),(1,38),(3,39),(4,36),(5,36)])⟩),
 (44,⟨1,false,8,[(.int .i64)],(.int .i64)⟩),
 (49,⟨1,false,24,[.slice],(.slice 112)⟩),
 (50,⟨1,false,24,[.slice],(.slice 114)⟩),
 (51,⟨1,false,24,[.slice],(.slice 9)⟩),
 (52,⟨6,true,128,[.slice,.slice,.slice,.slice,(.int .i64),.slice],(.struct [(0,49),(1,50),(2,51),(3,22),(4,3),(5,22)])⟩),
 (53,⟨6,true,128,[.slice,.slice,.slice,.slice,(.int .i64),.slice],(.struct [(0,49),(1,50),(2,51),(3,22),(4,3),(5,22)])⟩),
 (54,⟨2,true,16,[(.int .i64),(.int .i64)],(.struct [(0,3),(1,3)])⟩),
 (55,⟨2,true,16,[(.int .i64),(.int .i64)],(.struct [(0,3),(1,3)])⟩),
 (56,⟨3,true,24,[(.int .i64),(.int .i64),(.int .i64)],(.struct [(0,3),(1,55)])⟩),
 (57,⟨3,true,24,[(.int .i64),(.int .i64),(.int .i64)],(.struct [(0,3),(1,55)])⟩),
 (59,⟨3,true,64,[.str,.slice,.slice],(.struct [(0,9),(1,22),(2,51)])⟩),
 (60,⟨3,true,64,[.str,.slice,.slice],(.struct [(0,9),(1,22),(2,51)])⟩),
 (64,⟨1,false,24,[.slice],(.slice 55)⟩),
 (67,⟨1,false,24,[.slice],(.slice 5)⟩),
 (69,⟨12,true,256,[.slice,.slice,(.int .i64),.slice,.slice,.slice,.slice,.slice,(.int .i64),.slice,.slice,.slice],(.array 2 34)⟩),
 (72,⟨3,true,72,[.slice,.slice,.slice],(.array 3 35)⟩),
 (73,⟨2,true,48,[.slice,.slice],(.array 2 22)⟩),
 (77,⟨18,true,432,[.slice,.slice,.slice,.slice,.slice,.slice,.slice,.slice,.slice,.slice,.slice,.slice,.slice,.slice,.slice,.slice,.slice,.slice],(.array 3 41)⟩),
 (81,⟨2,true,16,[(.int .i64),(.int .i64)],(.array 2 3)⟩),
 (94,⟨2,true,32,[.slice,(.int .i64)],(.struct [(0,22),(1,3)])⟩),
 (95,⟨2,true,32,[.slice,(.int .i64)],(.struct [(0,22),(1,3)])⟩),
 (111,⟨3,true,24,[(.int .i64),(.int .i64),(.int .i64)],(.struct [(0,3),(1,3),(2,3)])⟩),
 (112,⟨3,true,24,[(.int .i64),(.int .i64),(.int .i64)],(.struct [(0,3),(1,3),(2,3)])⟩),
 (113,⟨4,true,32,[(.int .i64),(.int .i64),(.int .i64),(.int .i64)],(.struct [(0,3),(1,3),(2,3),(3,3)])⟩),
 (114,⟨4,true,32,[(.int .i64),(.int .i64),(.int .i64),(.int .i64)],(.struct [(0,3),(1,3),(2,3),(3,3)])⟩),
 (116,⟨1,false,8,[.other],.other⟩),
 (118,⟨1,false,8,[.other],.other⟩),
 (130,⟨1,false,8,[.other],.other⟩),
 (132,⟨1,true,24,[.slice],(.struct [(0,22)])⟩),
 (133,⟨1,true,24,[.slice],(.struct [(0,22)])⟩),
 (135,⟨2,true,16,[(.int .i64),.bool],(.struct [(0,3),(1,4)])⟩),
 (136,⟨2,true,16,[(.int .i64),.bool],(.struct [(0,3),(1,4)])⟩),
 (149,⟨1,false,8,[.other],.other⟩),
 (150,⟨1,false,24,[.slice],(.slice 22)⟩),
 (151,⟨1,false,24,[.slice],(.slice 152)⟩),
 (152,⟨1,false,8,[(.int .u64)],(.int .u64)⟩),
 (153,⟨4,true,80,[.slice,.slice,.slice,(.int .u64)],(.struct [(0,150),(1,151),(2,22),(3,152)])⟩),
 (154,⟨4,true,80,[.slice,.slice,.slice,(.int .u64)],(.struct [(0,150),(1,151),(2,22),(3,152)])⟩),
 (174,⟨5,true,56,[(.int .i64),.slice,(.int .i64),(.int .i64),.bool],(.struct [(0,3),(1,22),(2,3),(3,3),(4,4)])⟩),
 (175,⟨5,true,56,[(.int .i64),.slice,(.int .i64),(.int .i64),.bool],(.struct [(0,3),(1,22),(2,3),(3,3),(4,4)])⟩),
 (178,⟨15,true,328,[.slice,.slice,(.int .i64),.slice,.slice,.slice,.slice,.slice,.slice,.slice,.slice,.slice,.slice,.slice,.bool],(.struct [(0,34),(6,35),(7,22),(8,41),(14,4)])⟩),
 (179,⟨15,true,328,[.slice,.slice,(.int .i64),.slice,.slice,.slice,.slice,.slice,.slice,.slice,.slice,.slice,.slice,.slice,.bool],(.struct [(0,34),(6,35),(7,22),(8,41),(14,4)])⟩),
 (190,⟨5,true,72,[(.int .i64),.slice,.slice,(.int .i64),(.int .i64)],(.struct [(0,3),(1,22),(2,22),(3,3),(4,3)])⟩),
 (191,⟨5,true,72,[(.int .i64),.slice,.slice,(.int .i64),(.int .i64)],(.struct [(0,3),(1,22),(2,22),(3,3),(4,3)])⟩),
 (194,⟨1,false,8,[.other],.other⟩),
 (196,⟨1,false,8,[.other],.other⟩),
 (197,⟨1,false,24,[.slice],(.slice 241)⟩),
 (202,⟨1,false,8,[.other],.other⟩),
 (203,⟨1,false,8,[.other],.other⟩),
 (205,⟨1,false,8,[.other],.other⟩),
 (208,⟨1,false,8,[.other],.other⟩),
 (210,⟨1,false,8,[.other],(.map 9 4)⟩),
 (218,⟨1,false,8,[.other],.other⟩),
 (219,⟨1,false,24,[.slice],(.slice 218)⟩),
 (221,⟨1,false,24,[.slice],(.slice 226)⟩),
 (225,⟨2,true,16,[(.int .i64),(.int .i64)],(.struct [(0,3),(1,3)])⟩),
 (226,⟨2,true,16,[(.int .i64),(.int .i64)],(.struct [(0,3),(1,3)])⟩),
 (232,⟨1,false,24,[.slice],(.slice 237)⟩),
 (236,⟨5,true,40,[(.int .i64),(.int .i64),(.int .i64),(.int .i64),.bool],(.struct [(0,3),(1,3),(2,3),(3,3),(4,4)])⟩),
 (237,⟨5,true,40,[(.int .i64),(.int .i64),(.int .i64),(.int .i64),.bool],(.struct [(0,3),(1,3),(2,3),(3,3),(4,4)])⟩),
 (240,⟨3,true,24,[(.int .i64),(.int .i64),(.int .i64)],(.struct [(0,3),(1,3),(2,3)])⟩),
 (241,⟨3,true,24,[(.int .i64),(.int .i64),(.int .i64)],(.struct [(0,3),(1,3),(2,3)])⟩),
 (248,⟨1,false,8,[.other],.other⟩),
 (256,⟨1,false,8,[.other],(.map 9 3)⟩),
 (261,⟨1,false,8,[.other],.other⟩),
 (263,⟨1,false,8,[(.int .u64)],(.int .u64)⟩),
 (269,⟨64,true,512,[(.int .i64),(.int .i64),(.int .i64),(.int .i64),(.int .i64),(.int .i64),(.int .i64),(.int .i64),(.int .i64),(.int .i64),(.int .i64),(.int .i64),(.int .i64),(.int .i64),(.int .i64),(.int .i64),(.int .i64),(.int .i64),(.int .i64),(.int .i64),(.int .i64),(.int .i64),(.int .i64),(.int .i64),(.int .i64),(.int .i64),(.int .i64),(.int .i64),(.int .i64),(.int .i64),(.int .i64),(.int .i64),(.int .i64),(.int .i64),(.int .i64),(.int .i64),(.int .i64),(.int .i64),(.int .i64),(.int .i64),(.int .i64),(.int .i64),(.int .i64),(.int .i64),(.int .i64),(.int .i64),(.int .i64),(.int .i64),(.int .i64),(.int .i64),(.int .i64),(.int .i64),(.int .i64),(.int .i64),(.int .i64),(.int .i64),(.int .i64),(.int .i64),(.int .i64),(.int .i64),(.int .i64),(.int .i64),(.int .i64),(.int .i64)],(.array 64 3)⟩),
 (270,⟨64,true,512,[(.int .i64),(.int .i64),(.int .i64),(.int .i64),(.int .i64),(.int .i64),(.int .i64),(.int .i64),(.int .i64),(.int .i64),(.int .i64),(.int .i64),(.int .i64),(.int .i64),(.int .i64),(.int .i64),(.int .i64),(.int .i64),(.int .i64),(.int .i64),(.int .i64),(.int .i64),(.int .i64),(.int .i64),(.int .i64),(.int .i64),(.int .i64),(.int .i64),(.int .i64),(.int .i64),(.int .i64),(.int .i64),(.int .i64),(.int .i64),(.int .i64),(.int .i64),(.int .i64),(.int .i64),(.int .i64),(.int .i64),(.int .i64),(.int .i64),(.int .i64),(.int .i64),(.int .i64),(.int .i64),(.int .i64),(.int .i64),(.int .i64),(.int .i64),(.int .i64),(.int .i64),(.int .i64),(.int .i64),(.int .i64),(.int .i64),(.int .i64),(.int .i64),(.int .i64),(.int .i64),(.int .i64),(.int .i64),(.int .i64),(.int .i64)],(.array 64 3)⟩),
 (276,⟨1,false,4,[(.int .u32)],(.int .u32)⟩),
 (283,⟨1,false,8,[.other],.other⟩)]
 eqs:=[(57,[(.int .i64),(.int .i64),(.int .i64)]),(226,[(.int .i64),(.int .i64)])]
 fns:=[(10,⟨[],true⟩),(11,⟨[0],true⟩),(12,⟨[],true⟩),(13,⟨[2],true⟩),(15,⟨[],true⟩),(16,⟨[],true⟩),(17,⟨[],true⟩),(18,⟨[],true⟩),(20,⟨[0],true⟩),(21,⟨[],true⟩),(22,⟨[1],true⟩),(23,⟨[],true⟩),(24,⟨[1],true⟩),(25,⟨[0],true⟩),(26,⟨[],true⟩),(27,⟨[2],true⟩),(30,⟨[0],false⟩),(31,⟨[2],true⟩),(32,⟨[2],true⟩),(33,⟨[],true⟩),(35,⟨[],true⟩),(40,⟨[],true⟩),(41,⟨[],true⟩),(42,⟨[0],true⟩),(43,⟨[0],true⟩),(46,⟨[],true⟩),(47,⟨[0],true⟩),(48,⟨[],true⟩),(49,⟨[],true⟩),(51,⟨[],true⟩),(54,⟨[0],false⟩),(55,⟨[0],false⟩),(56,⟨[0],false⟩),(57,⟨[],true⟩),(58,⟨[],true⟩),(59,⟨[],true⟩),(60,⟨[],true⟩),(65,⟨[],true⟩),(66,⟨[],true⟩),(67,⟨[1],true⟩),(73,⟨[],true⟩),(74,⟨[],true⟩),(75,⟨[0],true⟩),(79,⟨[0],true⟩),(80,⟨[0],true⟩),(81,⟨[0],true⟩),(82,⟨[0],true⟩),(83,⟨[0],true⟩),(84,⟨[0],false⟩),(85,⟨[0],false⟩),(86,⟨[0],true⟩),(87,⟨[0],true⟩),(89,⟨[],true⟩),(90,⟨[],true⟩),(91,⟨[],true⟩),(92,⟨[],true⟩),(93,⟨[],true⟩),(94,⟨[],true⟩),(95,⟨[],true⟩),(96,⟨[],true⟩),(97,⟨[],true⟩),(98,⟨[],true⟩),(99,⟨[],true⟩),(100,⟨[],true⟩),(101,⟨[],true⟩),(102,⟨[],true⟩),(103,⟨[],true⟩),(114,⟨[],true⟩),(116,⟨[],true⟩),(129,⟨[],true⟩),(132,⟨[],true⟩),(133,⟨[],true⟩),(134,⟨[],true⟩),(136,⟨[2],false⟩),(137,⟨[0,2,3],false⟩),(139,⟨[],true⟩),(140,⟨[],true⟩),(142,⟨[],true⟩),(147,⟨[],true⟩),(148,⟨[1,2,3,4],false⟩),(149,⟨[],true⟩),(163,⟨[],true⟩),(165,⟨[],true⟩),(176,⟨[],true⟩),(182,⟨[],true⟩),(185,⟨[],true⟩),(186,⟨[1],true⟩),(189,⟨[],true⟩),(190,⟨[],true⟩),(193,⟨[],true⟩),(198,⟨[],true⟩),(209,⟨[],true⟩),(211,⟨[1],false⟩),(212,⟨[],true⟩),(225,⟨[1],true⟩),(265,⟨[0],false⟩),(266,⟨[0],false⟩),(267,⟨[0],false⟩),(268,⟨[0],false⟩),(269,⟨[0],false⟩),(272,⟨[0],false⟩)]
 glob:=[(0,[iV (0:Int),iV (1:Int)])]
theorem iR:iy Tryz.prog cfg:=aj5 (by kernel_rfl) (by kernel_rfl) (by kernel_rfl)
abbrev S:=Ab.Spec Tryz.prog cfg
open Go.Ab Go.RowKit Go.Shelf
attribute [local go_sem] Oper.semAt_some
set_option maxRecDepth 100000 in
set_option maxHeartbeats 2000000 in
theorem amV (F:Fence) (n:Nat) (h7:F.fn 229) (hro:F.round=none) (hn:1≤n) (l B O b off len cap:Nat) (hlen:len≤1000000) (Keep:World→Prop)
  (c0 c1 c2 c3 c4:Nat→Value) (v1:Nat→Value) (hv:∀i,v1 i=.agg #[c0 i,c1 i,c2 i,c3 i,c4 i])
  (hB:∀w,Keep w→w.cell? ⟨B,O,none⟩=some (.slice (some ⟨b,off,none⟩) len cap))
  (h0:∀w i,Keep w→i<len→w.cell? ⟨b,off+i*5,none⟩=some (c0 i)) (h1:∀w i,Keep w→i<len→w.cell? ⟨b,off+i*5+1,none⟩=some (c1 i)) (h2:∀w i,Keep w→i<len→w.cell? ⟨b,off+i*5+2,none⟩=some (c2 i))
  (h3:∀w i,Keep w→i<len→w.cell? ⟨b,off+i*5+3,none⟩=some (c3 i)) (h4:∀w i,Keep w→i<len→w.cell? ⟨b,off+i*5+4,none⟩=some (c4 i))
  (J:Nat→World→Prop) (Jx:World→Prop)
  (hY:∀k W,k<len→J k W→YieldAt F (n - 1) Tryz.prog l #[.int .i64 ((len - 1 - k:Nat):Int),v1 (len - 1 - k)] W λ e W'=>
    (e=.returned (.bool true)∧J (k+1) W'∧Keep W')∨(e=.returned (.bool false)∧Jx W'))
  (W:World) (hW:Keep W) (hJ:J 0 W):
  CallsIn F n Tryz.prog 229 #[.func (.yield l) #[] #[],.pointer (some ⟨B,O,none⟩)] W λ e W'=>(∃v,e=.returned v)∧(J len W'∨Jx W'):=by
 refine callsIn_of_wp Tryz.func229 rfl h7 ?_ hro;simp only [Tryz.ntmps229,List.size_toArray,List.length_cons,List.length_nil,Nat.reduceAdd,Nat.reduceSub,Array.replicate_succ,Array.replicate_zero,List.push_toArray,List.append_toArray,List.nil_append,List.cons_append];have hB0:=hB W hW;gi_wp2;gi_loopw [3] (λ i wr=>∃k:Nat,k≤len∧i=.int .i64 ((len:Int) - 1 - k)∧J k wr∧Keep wr)
  (λ i _=>(intOf i+1).toNat)
 case atStart=>exact ⟨0,Nat.zero_le _,by simp,hJ,hW⟩
 case round=>
  obtain ⟨k,hk,rfl,hJs,hkp⟩:=hrel
  by_cases hlt:k<len
  ·obtain ⟨fn,tmps,assign,body,hy,hR⟩:=hY k wr hlt hJs
   have hBr:=hB wr hkp
   obtain ⟨i,hi⟩:∃i:Nat,i=len - 1 - k:=⟨_,rfl⟩
   rw [← hi] at hy
   have hil:i<len:=by omega
   have hii:((len:Int) - 1 - k)=(i:Int):=by omega
   rw [hii]
   have e0:=h0 wr i hkp hil
   have e1:=h1 wr i hkp hil
   have e2:=h2 wr i hkp hil
   have e3:=h3 wr i hkp hil
   have e4:=h4 wr i hkp hil
   rw [hv] at hy
   have A:Aside (i+k+1=len):=by show i+k+1=len; omega
   have hi0:¬ ((i:Int)<0):=by omega
   have hi1:0≤(i:Int):=by omega
   clear hi hii hlt hk
   gi_wp2
   refine hR.mono ?_
   rintro e W3 (⟨rfl,hJ3,hk3⟩ | ⟨rfl,hJx3⟩)
   ·have A':=A.out
    gi_wp2
    go_roundw
    case rel=>exact ⟨k+1,by omega,by have:=A'; simp; omega,hJ3,hk3⟩
    case measure=>simp [intOf]
   ·gi_wp2
    refine bodyPost_ret (results_none rfl _ _ _) rfl ?_
    exact ⟨⟨_,rfl⟩,.inr hJx3⟩
  ·obtain rfl:k=len:=by omega
   have hneg:((k:Int) - 1 - k) = -1:=by omega
   rw [hneg]
   gi_wp2
   go_end0
   exact ⟨⟨_,rfl⟩,.inl hJs⟩
set_option maxRecDepth 100000 in
set_option maxHeartbeats 2000000 in
theorem afq (F:Fence) (n:Nat) (h7:F.fn 229) (hro:F.round=none) (l B O cap:Nat) (a:Option Addr) (J:World→Prop) (W:World) (hB:W.cell? ⟨B,O,none⟩=some (.slice a 0 cap)) (hJ:J W):
  CallsIn F n Tryz.prog 229 #[.func (.yield l) #[] #[],.pointer (some ⟨B,O,none⟩)] W λ e W'=>(∃v,e=.returned v)∧J W':=by
 refine callsIn_of_wp Tryz.func229 rfl h7 ?_ hro;simp only [Tryz.ntmps229,List.size_toArray,List.length_cons,List.length_nil,Nat.reduceAdd,Nat.reduceSub,Array.replicate_succ,Array.replicate_zero,List.push_toArray,List.append_toArray,List.nil_append,List.cons_append];gi_wp2;gi_loopw [3] (λ i wr=>i=.int .i64 (-1)∧J wr) (λ _ _=>0);case atStart=>exact ⟨by simp,hJ⟩
 case round=>
  obtain ⟨rfl,hJs⟩:=hrel
  gi_wp2
  go_end0
  exact ⟨⟨_,rfl⟩,hJs⟩
variable {f:FuncId}
theorem RH {n n':Nat} {P:Program} {args:Array Value} {w:World} {R:Ending→World→Prop} (h:CallsIn (FW none) n P f args w R):CallsIn (FW none) n' P f args w R:=
 ⟨h.1,λ cs _=>h.2 cs (λ _ hd=>by cases hd)⟩
theorem Wi (l:List aD) (hl:l.length≤1000000):ZM Tryz.prog 229 [.ro [aV l]] l.length (λ k=>iV ((l.length - 1 - k:Nat):Int)) (λ k=>Cm (l.getD (l.length - 1 - k) au)):=by
 refine ⟨enters_of Tryz.func229 (by kernel_rfl) rfl,λ w I lb hI hlb hp=>?_⟩;have h0:=hp 0 (by simp);have apW:lb=#[lb.getD 0 Go.undef]:=by
  have:lb.size=1:=hlb;apply Array.ext
  ·simp [this]
  ·intro i h1 h2;have:i=0:=by omega
   subst this;simp [h1]
 rw [apW];generalize lb.getD 0 Go.undef=x at h0;clear apW hp hlb;cases h0 with
 | ro B O vs hIB hm hr=>
  have hs:=hr 0 (by simp);have hm0:=hm 0 (by simp);have hs:iE w I (aV l) (vs 0):=hs;generalize vs 0=sv at hs hm0;cases hs with
  | @sl _ _ _ _ a cap b off cs hcap _ ha hes hcm h1 hcr=>
   by_cases hz:l.length=0
   ·refine ⟨λ _=>.bool true,λ _=>.bool true,λ k hk=>absurd hk om,λ y n J Jx W hW hY hJ=>?_⟩;have hBc:W.cell? ⟨B,O,none⟩=some (.slice a 0 cap):=by
     rw [cell?_of_heap (w:=w) (hW B hIB),← hz];exact hm0
    rw [hz];exact (afq (FW none) n trivial rfl y B O cap a (λ W=>J 0 W) W hBc hJ).mono λ e W' ⟨h1,h2⟩=>⟨h1,.inl h2⟩
   ·obtain ⟨ha1,VA⟩:=ha hz;subst ha1;refine ⟨λ k=>.int .i64 ((l.length - 1 - k:Nat):Int),λ k=>.agg #[cs (l.length - 1 - k) 0,cs (l.length - 1 - k) 1,cs (l.length - 1 - k) 2,cs (l.length - 1 - k) 3,cs (l.length - 1 - k) 4],λ k hk=>⟨.int _ _,?_⟩,λ y n J Jx W hW hY hJ=>?_⟩
    ·refine .agg rfl λ j hj=>?_;have hj:j<5:=hj;have:=hcr (l.length - 1 - k) j om hj;have e:nth (Cm (l.getD (l.length - 1 - k) au)).cells j=nth [iV (l.getD (l.length - 1 - k) au).aN,aj6 (l.getD (l.length - 1 - k) au).bJ,iV (l.getD (l.length - 1 - k) au).gB,iV (l.getD (l.length - 1 - k) au).gZ,.bool (l.getD (l.length - 1 - k) au).fK] j:=rfl;rcases (by omega:j=0∨j=1∨j=2∨j=3∨j=4) with rfl | rfl | rfl | rfl | rfl<;>exact this
    ·have key:∀W':World,(∀b,I b→W'.heap[b]? = w.heap[b]?)→∀i j,i<l.length→j<5→W'.cell? ⟨b,off+(i*5+j),none⟩=some (cs i j):=λ W' hW' i j hi hj=>by
      rw [cell?_of_heap (w:=w) (hW' b VA)];exact hcm i j hi hj
     refine RH (amV (FW none) (n+1) trivial rfl om y B O b off l.length cap hl (λ W':World=>∀b,I b→W'.heap[b]? = w.heap[b]?) (λ i=>cs i 0) (λ i=>cs i 1) (λ i=>cs i 2) (λ i=>cs i 3) (λ i=>cs i 4) (λ i=>.agg #[cs i 0,cs i 1,cs i 2,cs i 3,cs i 4]) (λ _=>rfl)
      (λ W' hW'=>by rw [cell?_of_heap (w:=w) (hW' B hIB)]; exact hm0) (λ W' i h hi=>key W' h i 0 hi om) (λ W' i h hi=>key W' h i 1 hi om) (λ W' i h hi=>key W' h i 2 hi om) (λ W' i h hi=>key W' h i 3 hi om) (λ W' i h hi=>key W' h i 4 hi om)
      (λ k W1=>J k W1∧∀b,I b→W1.heap[b]? = w.heap[b]?) Jx ?_ W hW ⟨hJ,hW⟩ |>.mono ?_)
     ·rintro k W1 hk ⟨hJ1,hW1⟩;obtain ⟨fn,tmps,assign,body,hy,hR⟩:=hY k W1 hk hJ1;refine ⟨fn,tmps,assign,body,hy,hR.mono ?_⟩;rintro e W' (⟨rfl,h2,h3⟩ | ⟨rfl,h2⟩)
      ·have hW':∀b,I b→W'.heap[b]? = w.heap[b]? := λ b hb=>(h3 b hb).trans (hW1 b hb);exact .inl ⟨rfl,⟨h2,hW'⟩,hW'⟩
      ·exact .inr ⟨rfl,h2⟩
     ·rintro e W' ⟨h1,⟨h2,_⟩ | h2⟩
      ·exact ⟨h1,.inl h2⟩
      ·exact ⟨h1,.inr h2⟩
theorem abB (l:List aD):S 190 [aV l] [] (.fn 229 [.ro [aV l]]) []:=by
 refine aii (ct:=[]) iR Tryz.func190 rfl rfl (Nat.le_of_ble_eq_true rfl) (by decide +kernel) (Nat.zero_le _) ?_;conv=>whnf
 exact ⟨⟨rfl,Rz.refl _,trivial⟩,trivial⟩
open Go.ChangeShapes Go.WideShapes Go.ChangeAt Go.RowKit
theorem own:ownKnob Tryz.prog.godebug=none:=by kernel_rfl
theorem laidOut:laidOutB Tryz.prog=true:=by kernel_rfl
theorem ar0:Tryz.prog.globalNamed "bringup/clock.off" = some 0:=by kernel_rfl
theorem ar1:(Tryz.prog.globals[0]?).map (·.type)=some 226:=by kernel_rfl
theorem amW:Tryz.prog.cellsOf 226=2:=by kernel_rfl
theorem cells3:Tryz.prog.cellsOf 3=1:=by kernel_rfl
abbrev alg:List (String×DataW Unit):=[("bringup/clock.off", Rows.laid_bringup_clock_off)]
variable {W:World}
theorem amX (h:laidMetH Tryz.prog alg W):W.cell? ⟨0,0,none⟩=some (.int .i64 0)∧W.cell? ⟨0,1,none⟩=some (.int .i64 1):=by
 rw [MakeChecks.laidMetH_plain _ _ _ (by kernel_rfl)] at h;obtain ⟨ps,⟨g0,t0,cs0,f0,p0,q0,hg0,ht0,hv0,hd0,_⟩,_,_⟩:=h;obtain rfl:=Option.some.inj (ar0.symm.trans hg0);obtain rfl:=Option.some.inj (ar1.symm.trans ht0);obtain ⟨y0,y1,n,hx,hl,h0,h1⟩:=trod_struct2 Tryz.underlying226 hd0;rw [amW] at hl;simp only [Prod.mk.injEq,Rows.laid_bringup_clock_off,DataW.agg.injEq,List.cons.injEq] at hx;obtain ⟨k0,e1,e2,_⟩:=DataW.trod_int Tryz.underlying3 h0;obtain ⟨k1,e3,e4,_⟩:=DataW.trod_int Tryz.underlying3 h1;have hk0:k0=0:=by have:=hx.1.1; rw [e2] at this; simpa using this.symm
 have hk1:k1=1:=by have:=hx.1.2.1; rw [e4] at this; simpa using this.symm
 subst hk0; subst hk1;have c0:=World.var?_cell hg0 hv0 0;have c1:=World.var?_cell hg0 hv0 1;obtain ⟨l⟩:=cs0;match l,hl with
 | [a,b],_=>
  rw [cells3] at e1 e3
  simp at e1 e3
  subst e1; subst e3
  exact ⟨by simpa using c0,by simpa using c1⟩
def Old (W:World):Nat→Prop:=λ b=>b<W.heap.size
theorem ar2 (h:laidMetH Tryz.prog alg W):Rel cfg (L6 W (Old W) (λ _=>none) 0) (hof []) (λ o=>o<0) W (Old W) (λ _=>none):=by
 obtain ⟨h0,h1⟩:=amX h;exact {
  dom:=λ o=>by simp [hof]
  used:=λ o p h=>by cases h
  objs:=λ o ob p _ h=>by cases h
  inj:=λ o o' p p' b bo sz b' p8 sz' h=>by cases h
  p9:=λ o p b bo sz h=>by cases h
  lt:=λ o p b bo sz h=>by cases h
  AU:=λ b h=>h
  size:=Nat.le_refl _
  frame:=λ _ _ _=>rfl
  new:=λ o p b bo sz h=>by cases h
  glob:=λ g cs hg=>by
   have e:g=0∧cs=[.int .i64 0,.int .i64 1]:=by
    unfold cfg at hg
    simp only [Ab.look] at hg
    cases hb:Nat.beq 0 g with
    | true=>
     rw [hb] at hg
     have:=Nat.eq_of_beq_eq_true hb
     simp at hg
     exact ⟨this.symm,hg.symm⟩
    | false=>rw [hb] at hg; cases hg
   obtain ⟨rfl,rfl⟩:=e
   refine .ro 0 0 (λ j=>match j with | 0=>.int .i64 0 | _=>.int .i64 1) (World.block_lt_of_cell? _ _ h0) (λ j hj=>?_) (λ j hj=>?_)
   ·match j,hj with
    | 0,_=>exact h0
    | 1,_=>exact h1
   ·match j,hj with
    | 0,_=>exact .int _ _
    | 1,_=>exact .int _ _
  Tg:=λ _ h=>h
  Xc:=λ _ h=>.inl h
  Zk:=λ _ _=>.inl rfl
  Dm:=λ _ h=>h
  env:=⟨iD.refl _,λ _ _ h=>h.elim⟩
  maps:=λ o kd z f p b bo sz h=>by cases h }
variable {args:List AV}
theorem amY {vals:Array Value} (hs:S f args [] (.bool true) []) (hL:laidMetH Tryz.prog alg W) (hl:vals.size=args.length) (hr:∀j,j<args.length→iE W (Old W) (nth args j) (vals.getD j Go.undef)):
  Calls Tryz.prog f vals W λ e W'=>e=.returned (.bool true)∧Below W.heap.size W W':=by
 obtain ⟨_,_,hc⟩:=hs;refine (hc W (Old W) (λ _=>none) vals (ar2 hL) hl (λ j hj=>.pure (hr j hj))).mono λ e W' h=>?_;obtain ⟨x,I',O',rfl,hR,hx⟩:=h;have hb:x=.bool true:=hx.lQ;subst hb;refine ⟨rfl,⟨hR.env.same.os,hR.env.same.tape,hR.env.same.output,hR.size,λ k hk=>hR.frame k hk ?_⟩⟩;rintro ⟨o,p,bo,sz,h,_⟩;cases h
theorem agW {H:Type} {enc:TypeId×Value→H} {v:Value} {d:DataW H} {ps:List MemPlace} {base:Nat} (hv:Value.okWide Tryz.prog W .any base 22 v) (h:DataW.Trod enc Tryz.prog W 0 (λ _=>true) true 22 v d ps):∃l:List Int,I64 l∧iE W (Old W) (aC l) v:=by
 obtain ⟨a0,len,cap,rfl⟩:=okWide_slice Tryz.underlying22 hv;obtain ⟨fuel,hf⟩:=h;rcases open_ints Tryz.underlying22 Tryz.underlying3 cells3 hf with ⟨hcs,hx⟩ | ⟨a,len',cap',zs,hcs,_,hl,hm,hz,hx,hcell,hwz⟩
 ·simp [Value.cells] at hcs;obtain ⟨rfl,rfl,rfl⟩:=hcs;refine ⟨[],(λ x hx=>by cases hx),?_⟩;exact .sl 0 0 (λ _ _=>Go.undef) (Nat.le_refl _) nofun (λ h=>absurd rfl h) (λ i hi=>by cases hi) (λ i j hi=>by cases hi) (λ i j hi=>by cases hi) (λ i j hi=>by cases hi)
 ·simp [Value.cells] at hcs;obtain ⟨rfl,rfl,rfl⟩:=hcs;simp only [if_true] at hz;refine ⟨zs.take len,λ x hx=>?_,?_⟩
  ·have:=hwz x (List.mem_of_mem_take hx);simp only [Lit.wf,Bool.and_eq_true,decide_eq_true_eq] at this;exact this
  ·have hlen:(zs.take len).length=len:=by simp; omega
   unfold aC aj6;rw [hlen];refine .sl a.block a.off (λ i _=>.int .i64 (zs.getD i 0)) hl nofun (λ hn=>?_) (λ i hi=>rfl) (λ i j hi hj=>?_) (λ i j hi hj=>rfl) (λ i j hi hj=>?_)
   ·have h0:=hcell 0 om;have hsp:=World.cell?_spot h0;have e:a.add 0=a:=by simp [Addr.add]
    rw [e] at hsp h0;refine ⟨by cases a; simp at hsp; subst hsp; rfl,World.block_lt_of_cell? _ _ h0⟩
   ·have hj0:j=0:=by omega
    subst hj0;have h0:=hcell 0 om;have hsp:=World.cell?_spot h0;have e:a.add 0=a:=by simp [Addr.add]
    rw [e] at hsp;have hi':=hcell i om;have e2:a.add i=⟨a.block,a.off+(i*1+0),none⟩:=by
     obtain ⟨b,off,sp⟩:=a;simp at hsp;subst hsp;rw [Addr.add_mid];simp
    rw [e2] at hi';exact hi'
   ·have hj0:j=0:=by omega
    subst hj0;have e:nth (bP iV 0 (zs.take len) i).cells 0=iV (zs.getD i 0):=by
     show iV ((zs.take len).getD i 0)=_;rw [getD_take zs 0 hi]
    rw [e];exact .int _ _
variable {p:Prop}
theorem z (h:p:=by
 repeat' first
  | with_reducible exact trivial
  | with_reducible exact rfl
  | with_reducible refine And.intro ?_ ?_
  | ((conv=>whnf); first
   | with_reducible refine And.intro ?_ ?_
   | with_reducible refine Emb.mk ?_ ?_ ?_
   | with_reducible exact trivial)
  | exact rfl
  | exact λ _ _=>Le.refl _
  | exact λ _=>rfl
  | exact id
  | exact λ h=>Bool.noConfusion h
  | exact Le.refl _
  | exact Rz.refl _
  | exact λ h=>absurd rfl h
  | exact λ _ h=>absurd h (Nat.not_lt_zero _)
  | exact ake (.refl _) rfl (Nat.lt_of_sub_pos (by exact Nat.zero_lt_succ _))
  | omega
  | (simp [iP]; done)
  | (simp [iP]; omega)
  | (simp [iP,Tm]; done)
  | (simp [iP,Tm]; omega)
  | refine EW ?_ ?_ ?_
  | refine jL ?_ ?_ ?_ ?_
  | exact amq (λ _ _=>Le.refl _) (Le.refl _)
  | exact ab1 (λ _=>rfl)
  | exact l8 om
  | exact gN _ _ _
  | exact TG _ _
  | refine uq ?_ ?_
  | refine Le.Qg ?_
  | refine Le.sl ?_ ?_ ?_ ?_):p:=h
theorem dk (h:p:=by decide +kernel):p:=h
theorem oz (h:p:=by first | omega | (simp [iP]; done) | (simp [iP]; omega)):p:=h
theorem sr {n es:Nat} {f:Bool} {g:Nat→AV}:n=n∧(n≠0→es=es)∧(f=true→f=true)∧∀i,i<n→Le (g i) (g i):=⟨rfl,λ _=>rfl,id,λ _ _=>.refl _⟩
theorem sf {n es:Nat} {f:Bool} {g:Nat→AV}:n=n∧(n≠0→es=es)∧(false=true→f=true)∧∀i,i<n→Le (g i) (g i):=⟨rfl,λ _=>rfl,nofun,λ _ _=>.refl _⟩
variable {A:Type} {B:Type} {C:Type}
theorem r4 {D:Type} {a:A} {b:B} {c:C} {d:D}:a=a∧b=b∧c=c∧d=d:=⟨rfl,rfl,rfl,rfl⟩
theorem r2 {a:A} {b:B}:a=a∧b=b:=⟨rfl,rfl⟩
theorem sn {R:Type} {d:Decidable p} {m:M R} {r:R} {K:Prop} (hm:need p m r) (h:p→m r→K):p∧K:=⟨hm.1,h hm.1 hm.2⟩
theorem sq {A R B C : Type} {m : M A} {k : A → M R} {r : R} {p K : B → C → Prop} {a : A → B} {b : A → C} (hm : bnd m k r) (F : ∀ {v}, m v → p (a v) (b v)) (h : ∀ v, k v r → K (a v) (b v)) : ∃ a b, p a b ∧ K a b := iF hm λ v hv hm => ⟨a v, b v, F hv, h v hm⟩
theorem s2 {R:Type} {q:Prop} {d:Decidable p} {d2:Decidable q} {m:M R} {r:R} {K:Prop} (hm:need p (need q m) r) (h:p→q→m r→K):p∧q∧K:=⟨hm.1,hm.2.1,h hm.1 hm.2.1 hm.2.2⟩
theorem si {R:Type} {c:Bool} {x y:M R} {r:R} {A B:Prop} (hm:(cond c x y) r) (h1:c=true→x r→A) (h2:c=false→y r→B):Zd c A B:=iU hm h1 h2
theorem sb {R:Type} {m:M A} {k:A→M R} {r:R} {G:Prop} (hm:bnd m k r) (h:∀v,m v→k v r→G):G:=iF hm h
theorem cl {p K:A→B→Prop} {a:A} {b:B} (h:p a b) (k:K a b):∃a b,p a b∧K a b:=⟨a,b,h,k⟩
theorem re {P:List A→List B→Prop} (h:P [] []:=by exact z):∃a b,P a b:=⟨_,_,h⟩
theorem rt {P:A→B→Prop} (a:A) (b:B) (h:P a b:=by exact z):∃a b,P a b:=⟨_,_,h⟩
theorem lc {p:A→Prop} {E:A→B→C→Prop} {a:A} (b:B) (c:C) (hm:p a) (h:E a b c:=by exact z):∃a b c,p a∧E a b c:=⟨a,b,c,hm,h⟩
theorem lce {p:A→Prop} {E:A→B→C→Prop} {a:A} (b:B) (c:C) (hm:p a) (h:E a b c):∃a b c,p a∧E a b c:=⟨a,b,c,hm,h⟩
theorem le {p:A→Prop} {E:A→List B→List C→Prop} {a:A} (hm:p a) (h:E a [] []:=by exact z):∃a b c,p a∧E a b c:=⟨a,_,_,hm,h⟩
theorem spc (ct:List Nat) {fn:Func} {c:Code} {args:List AV} {obs:List dW} {r:AV} {fQ:List dW} (hf:Tryz.prog.funcs[f]? = some fn) (hb:fn.body=some c)
  (h:lG cfg (Ab.Spec Tryz.prog cfg) ct (Loops Tryz.prog cfg fn.ntmps none obs.length) c ⟨Kl args 0,Ji.oO obs 0,obs.length⟩ (aj2 cfg fn.results.toList obs.length r fQ))
  (hnm:(fn.name == "runtime.NumGoroutine")=false:=by exact rfl)
  (hN:args.length≤fn.ntmps:=by exact Nat.le_of_ble_eq_true rfl) (hok:iZ fn.ntmps c=true:=by decide +kernel) (hle:obs.length≤fQ.length:=by exact Nat.le_of_ble_eq_true rfl):S f args obs r fQ:=
 nJ iR hf hb hnm hN hok hle h
theorem sp {fn:Func} {c:Code} {args:List AV} {obs:List dW} {r:AV} {fQ:List dW} (hf:Tryz.prog.funcs[f]? = some fn) (hb:fn.body=some c)
  (h:lG cfg (Ab.Spec Tryz.prog cfg) [] (Loops Tryz.prog cfg fn.ntmps none obs.length) c ⟨Kl args 0,Ji.oO obs 0,obs.length⟩ (aj2 cfg fn.results.toList obs.length r fQ))
  (hnm:(fn.name == "runtime.NumGoroutine")=false:=by exact rfl)
  (hN:args.length≤fn.ntmps:=by exact Nat.le_of_ble_eq_true rfl) (hok:iZ fn.ntmps c=true:=by decide +kernel) (hle:obs.length≤fQ.length:=by exact Nat.le_of_ble_eq_true rfl):S f args obs r fQ:=
 nJ iR hf hb hnm hN hok hle h
section
variable {N:Nat} {rr:Option Nat} {m:Nat}
variable {c:Code} {s:St} {K:Exit→St→Prop} {σ R:Type} {F:(σ→M R)→σ→M R} {x0:σ} {r:R}
theorem lfe (ct:List Nat) (hm:cO F x0 r) (st:σ→St) (ρ0:List (Nat×Option Nat)) (os0:List Nat) (hE:RJ m ρ0 os0 s (st x0))
  (round:∀(self:σ→M R) (x:σ),F self x r→lG cfg (Ab.Spec Tryz.prog cfg) ct (Loops Tryz.prog cfg N rr m) c (st x) (λ e s'=>match e with | .normal=>∃x' ρ os,self x' r∧RJ m ρ os s' (st x') | e=>K e s'))
  (hok:iZ N c=true:=by decide +kernel):Loops Tryz.prog cfg N rr m (.loop c) s K:=vP iR hok hm st ρ0 os0 hE round
theorem Vo (ct:List Nat) (hm:cO F x0 r) (st:σ→St) (ρ0:List (Nat×Option Nat)) (os0:List Nat)
  (round:∀(self:σ→M R) (x:σ),F self x r→lG cfg (Ab.Spec Tryz.prog cfg) ct (Loops Tryz.prog cfg N rr m) c (st x) (λ e s'=>match e with | .normal=>∃x' ρ os,self x' r∧RJ m ρ os s' (st x') | e=>K e s'))
  (hE:RJ m ρ0 os0 s (st x0):=by exact z) (hok:iZ N c=true:=by decide +kernel):Loops Tryz.prog cfg N rr m (.loop c) s K:=vP iR hok hm st ρ0 os0 hE round
theorem lf (hm:cO F x0 r) (st:σ→St) (ρ0:List (Nat×Option Nat)) (os0:List Nat)
  (round:∀(self:σ→M R) (x:σ),F self x r→lG cfg (Ab.Spec Tryz.prog cfg) [] (Loops Tryz.prog cfg N rr m) c (st x) (λ e s'=>match e with | .normal=>∃x' ρ os,self x' r∧RJ m ρ os s' (st x') | e=>K e s'))
  (hE:RJ m ρ0 os0 s (st x0):=by exact z) (hok:iZ N c=true:=by decide +kernel):Loops Tryz.prog cfg N rr m (.loop c) s K:=vP iR hok hm st ρ0 os0 hE round
theorem l0 (hm:cO F x0 r) (st:σ→St)
  (round:∀(self:σ→M R) (x:σ),F self x r→lG cfg (Ab.Spec Tryz.prog cfg) [] (Loops Tryz.prog cfg N rr m) c (st x) (λ e s'=>match e with | .normal=>∃x' ρ os,self x' r∧RJ m ρ os s' (st x') | e=>K e s'))
  (hE:RJ m [] [] s (st x0):=by exact z) (hok:iZ N c=true:=by decide +kernel):Loops Tryz.prog cfg N rr m (.loop c) s K:=vP iR hok hm st [] [] hE round
theorem ck (ct:List Nat) {x y:Code} {s:St} {K:Exit→St→Prop} (k:σ→M R) (r:R) (st:σ→St)
  (h1:lG cfg (Ab.Spec Tryz.prog cfg) ct (Loops Tryz.prog cfg N rr m) x s (λ e s'=>match e with | .normal=>∃x' ρ os,k x' r∧RJ m ρ os s' (st x') | e=>K e s'))
  (h2:∀x',k x' r→lG cfg (Ab.Spec Tryz.prog cfg) ct (Loops Tryz.prog cfg N rr m) y (st x') K) (an3:iZ N x=true:=by decide +kernel) (an4:iZ N y=true:=by decide +kernel):Loops Tryz.prog cfg N rr m (.seq x y) s K:=ZN iR an3 an4 k r st h1 h2
end
end Go.Proofs.YtccjmcmolnbiiaaGreatDoor

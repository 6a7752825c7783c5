/- An abstract machine over the model's code, that it is sound; models of the functions and their proofs. -/
import Derived.Test.YtccjmcmolnbiiaaGreatDoorA6
import Derived.Test.YtccjmcmolnbiiaaGreatDoorProg
import Derived.Test.YtccjmcmolnbiiaaGreatDoorA4
import Derived.RangeFuncBox
import Derived.RangeFuncLeaves
import Derived.Shelf.Abstract
import Derived.WalkKit
import Derived.OwnWalkIn
import Derived.TacticsInMore
import Derived.LoopNIn
import Derived.LoopIn
set_option linter.unusedVariables false
set_option linter.unusedSimpArgs false
namespace Go.Proofs.YtccjmcmolnbiiaaGreatDoor
open Go.Ab
set_option maxRecDepth 100000
def RgK (l:List dF) (s:List Bool) (k:Nat):Prop:=((l.getD k dI).fM=true→s.getD k false=true)∧(s.getD k false=true→0≤(l.getD k dI).aM→s.getD (l.getD k dI).aM.toNat false=true)
variable {i:Nat} {j:Nat}
theorem U3 {s:List Bool} {b:Bool} (hi:i<s.length) (h:s.getD j false=true):(s.set i (s.getD i false||b)).getD j false=true:=by
 by_cases e:j=i
 ·subst e; rw [qo hi,h]; rfl
 ·rw [kR e]; exact h
variable {g:Int}
theorem arM {l:List dF} {s:List Bool} (h0:0≤g) (hs:s.length=l.length) (h:∀k:Nat,g<(k:Int)→(k:Int)<l.length→RgK l s k)
  (hn:¬ ((s.set g.toNat (s.getD g.toNat false||(l.getD g.toNat dI).fM)).getD g.toNat false=true∧0≤(l.getD g.toNat dI).aM)) {k:Nat} (hk:g≤(k:Int)) (hl:(k:Int)<l.length):RgK l (s.set g.toNat (s.getD g.toNat false||(l.getD g.toNat dI).fM)) k:=by
 by_cases e:k=g.toNat
 ·subst e;refine ⟨λ h1=>?_,λ h1 h2=>absurd ⟨h1,h2⟩ hn⟩;rw [qo om,h1,Bool.or_true]
 ·obtain ⟨h1,h2⟩:=h k om hl;refine ⟨λ q=>by rw [kR e]; exact h1 q,λ q1 q2=>?_⟩;rw [kR e] at q1;exact U3 om (h2 q1 q2)
theorem arN {l:List dF} {s:List Bool} (h0:0≤g) (hs:s.length=l.length) (hp:0≤(l.getD g.toNat dI).aM∧(l.getD g.toNat dI).aM<g) (h:∀k:Nat,g<(k:Int)→(k:Int)<l.length→RgK l s k)
  {k:Nat} (hk:g≤(k:Int)) (hl:(k:Int)<l.length):RgK l ((s.set g.toNat (s.getD g.toNat false||(l.getD g.toNat dI).fM)).set (l.getD g.toNat dI).aM.toNat true) k:=by
 have hne:k≠(l.getD g.toNat dI).aM.toNat:=by omega
 have hlen:(l.getD g.toNat dI).aM.toNat<(s.set g.toNat (s.getD g.toNat false||(l.getD g.toNat dI).fM)).length:=by rw [List.length_set]; omega
 by_cases e:k=g.toNat
 ·subst e;refine ⟨λ h1=>?_,λ h1 h2=>qo hlen⟩;rw [kR hne,qo om,h1,Bool.or_true]
 ·obtain ⟨h1,h2⟩:=h k om hl;refine ⟨λ q=>by rw [kR hne,kR e]; exact h1 q,λ q1 q2=>?_⟩;rw [kR hne,kR e] at q1;exact Gl (.inl (U3 om (h2 q1 q2))) hlen
variable {p:bn}
theorem U4 (h:ad7 p) {x:Int} (h0:0≤x) (h1:x<p.aD.length):aaR (p.aD.getD x.toNat aH).bQ:=aqf λ k h2 h3=>(h.gr x.toNat om).so k h2 h3
theorem Pp {g_:dh} {fD:ByteArray} (h1:g_.ak.length≤2000000):W (I5 g_ fD) (λ r => -1≤r∧r<g_.ak.length∧(0≤r→(g_.ak.getD r.toNat ByteArray.empty).toList=fD.toList)∧(r<0→∀k:Nat,(k:Int)<g_.ak.length→(g_.ak.getD k ByteArray.empty).toList≠fD.toList)):=by
 unfold I5;refine bI (λ (g1:Int)=>0≤g1∧(∀k:Nat,(k:Int)<g1→(g_.ak.getD k ByteArray.empty).toList≠fD.toList)) (λ (g1:Int)=>(g_.ak.length - g1).toNat) ?_ ?_
 ·intro aj g1 dY bW;obtain ⟨dN,bO⟩:=dY;unfold X0;refine wi ?_ ?_<;>intro c1
  ·refine wn<|bJ ?_ ?_<;>intro c2
   ·have kr:=c2;have c2:=nr c2;refine av ?_;(refine ⟨om,om,λ _=>by simpa using kr,λ h=>by omega⟩)
   ·have kr:=c2;have c2:=nr c2;refine wn<|bW _ ?_ ?_
    ·(refine ⟨ob,dU bO dN (by simpa using kr)⟩)
    ·exact ob
  ·refine av ?_;(refine ⟨om,om,λ h=>by omega,λ _ k hk=>bO k om⟩)
 ·(refine ⟨ob,λ j hj=>by (try dsimp only at hj); omega⟩)
theorem aaT {a_:List Int} {b_:List Int} (h1:a_.length≤2000000) (h2:b_.length≤2000000) (h3:aaR a_) (h4:aaR b_):W (Gg a_ b_) (λ r=>r=false→∀i j:Nat,(i:Int)<a_.length→(j:Int)<b_.length→a_.getD i 0≠b_.getD j 0):=by
 unfold Gg;refine bI (λ (g1:Int×Int)=>0≤g1.1∧0≤g1.2∧(∀i j:Nat,(i:Int)<a_.length→(j:Int)<b_.length→((i:Int)<g1.1∨(j:Int)<g1.2)→a_.getD i 0≠b_.getD j 0)) (λ (g1:Int×Int)=>(a_.length - g1.1).toNat+(b_.length - g1.2).toNat) ?_ ?_
 ·intro aj g1 dY bW;obtain ⟨dN,bO,bE⟩:=dY;unfold OQ;refine bJ ?_ ?_<;>intro c1
  ·have gQ:=c1;have c1:=nr c1;refine wm<|wi ?_ ?_<;>intro c2
   ·exact av<|ob
   ·refine wm<|wi ?_ ?_<;>intro c3
    ·refine wn<|bW _ ?_ ?_
     ·(refine ⟨ob,ob,λ i j hi hj hc=>?_⟩; by_cases q:(i:Int)<g1.1∨(j:Int)<g1.2; (exact bE i j hi hj q); (have e:i=g1.1.toNat:=by (try dsimp only at hc); omega); subst e; by_cases e2:j=g1.2.toNat; (subst e2; omega); (have:=h4 g1.2.toNat j om hj); omega)
     ·exact ob
    ·refine wn<|bW _ ?_ ?_
     ·(refine ⟨ob,ob,λ i j hi hj hc=>?_⟩; by_cases q:(i:Int)<g1.1∨(j:Int)<g1.2; (exact bE i j hi hj q); (have e:j=g1.2.toNat:=by (try dsimp only at hc); omega); subst e; by_cases e2:i=g1.1.toNat; (subst e2; omega); (have:=h3 g1.1.toNat i om hi); omega)
     ·exact ob
  ·have gQ:=c1;have c1:=nr c1;refine av ?_;(intro _ i j hi hj; refine bE i j hi hj ?_; simp only [Bool.and_eq_false_iff,decide_eq_false_iff_not] at gQ; omega)
 ·(refine ⟨ob,ob,λ i j h1 h2 h3=>by (try dsimp only at h3); omega⟩)
variable {p_:bn}
theorem R3 {eY:List Int} {g_:Int} (h1:∀g∈p_.aD,g.bQ.length≤2000000∧g.ak.length≤2000000) (h2:eY.length≤2000000) (h3:∀x∈eY,0≤x∧x<p_.aD.length) (h4:0≤g_) (h5:g_<p_.aD.length) (h6:ad7 p_):W (Ey p_ eY g_) (λ r=>r=true→∀j:Nat,(j:Int)<eY.length→ajX p_ (eY.getD j 0) g_):=by
 have hgl:=h1 _ (getD_in (i:=g_.toNat) aH om);unfold Ey;refine bI (λ (g1:Int)=>0≤g1∧(∀j:Nat,(j:Int)<g1→ajX p_ (eY.getD j 0) g_)) (λ (g1:Int)=>(eY.length - g1).toNat) ?_ ?_
 ·intro aj g1 dY bW;obtain ⟨dN,bO⟩:=dY;unfold RI;refine wi ?_ ?_<;>intro c1
  ·have hx:=h3 _ (getD_in (i:=g1.toNat) 0 om);have hgx:=h1 _ (getD_in (i:=(eY.getD g1.toNat 0).toNat) aH om);refine wm<|wm ?_;refine aF (qX λ hc=>aaT om om (U4 h6 hx.1 hx.2) (U4 h6 h4 h5)) λ v3 hv3=>?_;refine bJ ?_ ?_<;>intro c2
   ·have kr:=c2;have c2:=nr c2;exact av<|ob
   ·have kr:=c2;have c2:=nr c2;refine wn<|bW _ ?_ ?_
    ·(refine ⟨ob,dU bO dN ?_⟩; rw [decide_eq_true hx.1,Bool.true_and] at kr; exact hv3 (decide_eq_true hx.1) kr)
    ·exact ob
  ·refine av ?_;(intro _ j hj; exact bO j om)
 ·(refine ⟨ob,λ j hj=>by (try dsimp only at hj); omega⟩)
theorem Yy {fD:ByteArray} (h1:∀g∈p_.aD,g.bQ.length≤2000000∧g.ak.length≤2000000) (h2:p_.aD.length≤2000000):W (Dy p_ fD) (λ r=>r.length≤p_.aD.length∧∀x∈r,(0≤x∧x<p_.aD.length)∧an9 p_ x fD):=by
 unfold Dy;refine bI (λ (g1:Int×List Int)=>0≤g1.1∧g1.1≤p_.aD.length∧(g1.2.length:Int)≤g1.1∧(∀x∈g1.2,(0≤x∧x<p_.aD.length)∧an9 p_ x fD)) (λ (g1:Int×List Int)=>(p_.aD.length - g1.1).toNat) ?_ ?_
 ·intro aj g1 dY bW;obtain ⟨dN,bO,bE,jB⟩:=dY;unfold Me;refine wi ?_ ?_<;>intro c1
  ·have hgl:=h1 _ (getD_in (i:=g1.1.toNat) aH om);refine wn<|aF (Pp ob) λ v3 hv3=>?_;obtain ⟨aaA,acD,acE,alB⟩:=hv3;refine wi ?_ ?_<;>intro c2
   ·refine wm<|bW _ ?_ ?_
    ·(refine ⟨ob,ob,ob,λ x hx=>?_⟩; rcases List.mem_append.1 hx with hx | hx; (exact jB x hx); rw [List.mem_singleton] at hx; subst hx; exact ⟨om,v3.toNat,om,acE om⟩)
    ·exact ob
   ·refine wn<|bW _ ?_ ?_
    ·exact ob
    ·exact ob
  ·refine av ?_;(refine ⟨om,jB⟩)
 ·exact ob
theorem af3 {l:List ByteArray} {gs:List Int} {x:Int} (h:WL p l gs) (hx:0≤x∧x<p.aD.length) (ho:an9 p x (l.getD gs.length ByteArray.empty)) (hd:∀j:Nat,(j:Int)<gs.length→ajX p (gs.getD j 0) x):WL p l (gs++[x]):=by
 have e1:∀j:Nat,j<gs.length→(gs++[x]).getD j 0=gs.getD j 0:=λ j hj=>jO 0 hj;have e2:(gs++[x]).getD gs.length 0=x:=kI 0 rfl;refine ⟨λ y hy=>?_,λ k hk=>?_,λ k j hj hk=>?_⟩
 ·rcases List.mem_append.1 hy with hy | hy
  ·exact h.ir y hy
  ·rw [List.mem_singleton] at hy; rw [hy]; exact hx
 ·rw [List.length_append,List.length_singleton] at hk;by_cases q:k<gs.length
  ·rw [e1 k q]; exact h.off k om
  ·have:k=gs.length:=by omega
   subst this; rw [e2]; exact ho
 ·rw [List.length_append,List.length_singleton] at hk;by_cases q:k<gs.length
  ·rw [e1 k q,e1 j om]; exact h.dj k j hj om
  ·have:k=gs.length:=by omega
   subst this; rw [e2,e1 j om]; exact hd j om
theorem aoa (bs:ByteArray):∀(n i:Nat) (r:List UInt8),bs.size - i=n→ByteArray.toList.loop bs i r=r.reverse++bs.data.toList.drop i:=by
 intro n;induction n with
 | zero=>
  intro i r h;unfold ByteArray.toList.loop;rw [if_neg om,List.drop_eq_nil_of_le (by show bs.data.toList.length≤i; rw [Array.length_toList]; show bs.size≤i; omega),List.append_nil]
 | succ n ih=>
  intro i r h;unfold ByteArray.toList.loop;rw [if_pos om,ih (i+1) _ om,List.reverse_cons,List.append_assoc];have hi:i<bs.data.toList.length:=by rw [Array.length_toList]; show i<bs.size; omega
  rw [List.drop_eq_getElem_cons hi];congr 1;show bs.get! i::_=_;congr 1;unfold ByteArray.get!;rw [Array.getElem_toList];exact getElem!_pos bs.data i _
theorem aiE (b:ByteArray):b.toList=b.data.toList:=by
 unfold ByteArray.toList;rw [aoa b _ 0 [] rfl]; rfl
theorem Ti {a b:ByteArray} (h:a.toList=b.toList):a=b:=by
 rw [aiE,aiE] at h;cases a; cases b;congr;exact Array.toList_inj.1 h
theorem arO {s:ByteArray} (h:0<s.size):(s.toList==({ data:=#[] }:ByteArray).toList)=false:=by
 rw [beq_eq_false_iff_ne];intro e;have:=Ti e;rw [this] at h;exact absurd h (by decide)
variable {α:Type}
theorem Sq {X:Nat→α} {x:α}:upd X j x j=x:=ajx X j x
theorem upd_ne {X:Nat→α} {x:α} (h:i≠j):upd X j x i=X i:=by
 unfold upd;cases e:Nat.beq i j with
 | true=>exact absurd (Nat.eq_of_beq_eq_true e) h
 | false=>rfl
def UsV (p:bn) (l:List ou):Prop:=(∀u∈l,Jd p u)∧∀k j:Nat,j<k→(k:Int)<l.length→ajX p (l.getD j fU).cZ (l.getD k fU).cZ
def KA (p:Prop) (c:Int) (A:Int→Prop) (r:Int):Prop:=(p∧r=c)∨(¬p∧A r)
variable {c:Int} {A:Int→Prop}
theorem dV {p:Prop} (h:p):KA p c A c:=.inl ⟨h,rfl⟩
variable {r:Int}
theorem aL {p:Prop} (h:¬p) (a:A r):KA p c A r:=.inr ⟨h,a⟩
def Thn (A B:Int→Prop) (r:Int):Prop:=(A r∧r≠0)∨(A 0∧B r)
def Fst (n:Nat) (E:Nat→Int→Prop) (r:Int):Prop:=(∃i:Nat,i<n∧(∀k:Nat,k<i→E k 0)∧E i r∧r≠0)∨((∀k:Nat,k<n→E k 0)∧r=0)
def Fa (A:Int→Prop):Prop:=∀a b,A a→A b→a=b
theorem Fa.zero:Fa (λ r=>r=0):=λ _ _ h k=>h.trans k.symm
theorem Fa.JF {p:Prop} (h:Fa A):Fa (KA p c A):=by
 rintro a b (⟨h1,h2⟩ | ⟨h1,h2⟩) (⟨h3,h4⟩ | ⟨h3,h4⟩)
 ·rw [h2,h4]
 ·exact absurd h1 h3
 ·exact absurd h3 h1
 ·exact h _ _ h2 h4
variable {B:Int→Prop}
theorem Fa.thn (h:Fa A) (k:Fa B):Fa (Thn A B):=by
 rintro a b (⟨h1,h2⟩ | ⟨h1,h2⟩) (⟨h3,h4⟩ | ⟨h3,h4⟩)
 ·exact h _ _ h1 h3
 ·exact absurd (h _ _ h1 h3) h2
 ·exact absurd (h _ _ h3 h1) h4
 ·exact k _ _ h2 h4
variable {n:Nat} {E:Nat→Int→Prop}
theorem Fa.fst (h:∀i,Fa (E i)):Fa (Fst n E):=by
 rintro a b (⟨i,h1,h2,h3,h4⟩ | ⟨h1,h2⟩) (⟨j,k1,k2,k3,k4⟩ | ⟨k1,k2⟩)
 ·rcases Nat.lt_trichotomy i j with q | q | q
  ·exact absurd (h _ _ _ h3 (k2 i q)) h4
  ·subst q; exact h _ _ _ h3 k3
  ·exact absurd (h _ _ _ k3 (h2 j q)) k4
 ·exact absurd (h _ _ _ h3 (k1 i h1)) h4
 ·exact absurd (h _ _ _ k3 (h1 j k1)) k4
 ·rw [h2,k2]
theorem GX (h:A r) (hr:r≠0):Thn A B r:=.inl ⟨h,hr⟩
theorem kK (h:A 0) (k:B r):Thn A B r:=.inr ⟨h,k⟩
theorem GY (hi:i<n) (h:∀k:Nat,(k:Int)<i→E k 0) (he:E i r) (hr:r≠0):Fst n E r:=.inl ⟨i,hi,λ k hk=>h k om,he,hr⟩
theorem KC (h:∀k:Nat,k<n→E k 0):Fst n E 0:=.inr ⟨h,rfl⟩
def amk (n:Int) (g:dh):Int→Prop:=
 KA ((g.bQ.length:Int)=0∨(g.ak.length:Int)=0) 9<|
 KA (8<(g.ak.length:Int)) 3<|
 KA (∃j:Nat,(j:Int)<g.bQ.length∧¬(0≤g.bQ.getD j 0∧g.bQ.getD j 0<n)) 2<|
 KA (∃j:Nat,1≤j∧(j:Int)<g.bQ.length∧g.bQ.getD j 0≤g.bQ.getD (j - 1) 0) 12<|
 KA (∃j:Nat,(j:Int)<g.ak.length∧¬Po (g.ak.getD j ByteArray.empty)) 1<|
 KA (∃k j:Nat,j<k∧(k:Int)<g.ak.length∧(g.ak.getD j ByteArray.empty).toList=(g.ak.getD k ByteArray.empty).toList) 5<|
 λ r=>r=0
theorem amk.fun {n:Int} {g:dh}:Fa (amk n g):=.JF (.JF (.JF (.JF (.JF (.JF .zero)))))
def ahH (p:bn) (i:Nat):Int→Prop:=
 KA (¬Po (p.aD.getD i aH).wY) 1<|
 KA (∃k:Nat,k<i∧(p.aD.getD k aH).wY.toList=(p.aD.getD i aH).wY.toList) 5<|
 amk p.bQ (p.aD.getD i aH)
theorem ahH.fun:Fa (ahH p i):=.JF (.JF amk.fun)
def yV (p:bn):Int→Prop:=
 KA (p.bQ<0∨64<p.bQ) 2<|
 KA (24<(p.aD.length:Int)) 3<|
 Fst p.aD.length (ahH p)
theorem yV.fun:Fa (yV p):=.JF (.JF (.fst λ _=>ahH.fun))
theorem GZ {l:List Int} (h:∀j:Nat,(j:Int)<g→1≤j→l.getD (j - 1) 0<l.getD j 0) (hg:(l.length:Int)≤g):¬ ∃j:Nat,1≤j∧(j:Int)<l.length∧l.getD j 0≤l.getD (j - 1) 0:=λ ⟨j,h1,h2,h3⟩=>by
 have:=h j om h1;omega
theorem gW {P:Nat→Prop} (h:∀j:Nat,(j:Int)<g→P j) (hg:(n:Int)≤g):¬ ∃j:Nat,(j:Int)<n∧¬P j:=λ ⟨j,h1,h2⟩=>h2 (h j om)
theorem DL {s_:ByteArray}:W (zF s_) (λ r=>r=true↔Po s_):=by
 unfold zF;refine aO (by (intro hc; have:=aaN hc; omega)) ?_;refine aO (by (intro hc; simp only [Bool.or_eq_false_iff] at hc; have:=aaN (s:=s_) (by simp only [Bool.or_eq_false_iff]; exact hc.1); omega)) ?_;refine bJ ?_ ?_<;>intro c1
 ·have gQ:=c1;have c1:=nr c1;refine av ?_;(constructor; (intro e; cases e); (rintro ⟨⟨a1,a2⟩,⟨a3,a4⟩,a5⟩; simp only [Bool.or_eq_true,decide_eq_true_eq] at gQ; rcases gQ with ((c | c) | c) | c; (rw [arO a1] at c; cases c); all_goals omega))
 ·have gQ:=c1;have c1:=nr c1;have hsz:0<s_.size∧s_.size≤16:=ajN gQ;refine bI (λ (g1:Int)=>1≤g1∧(∀j:Nat,(j:Int)<g1→1≤j→gI s_ j=45∨(48≤gI s_ j∧gI s_ j≤57)∨(97≤gI s_ j∧gI s_ j≤122))) (λ (g1:Int)=>(s_.size - g1).toNat) ?_ ?_
  ·intro aj g1 dY bW;obtain ⟨dN,bO⟩:=dY;unfold Ul;refine wi ?_ ?_<;>intro c2
   ·refine wn<|wi ?_ ?_<;>intro c3
    ·refine av ?_;(constructor; (intro e; cases e); (rintro ⟨_,_,a5⟩; have:=a5 g1.toNat om; omega))
    ·refine wn<|bW _ ?_ ?_
     ·(refine ⟨ob,λ j h1 h2=>?_⟩; by_cases q:(j:Int)<g1; (exact bO j q h2); (have e:j=g1.toNat:=by omega); subst e; omega)
     ·exact ob
   ·refine av ?_;(constructor; (intro _; refine ⟨om,om,λ j hj=>?_⟩; by_cases q:j=0; (subst q; exact .inr (.inr ⟨om,om⟩)); exact bO j om om); (intro _; rfl))
  ·(refine ⟨ob,λ j h1 h2=>by omega⟩)
theorem Au {s_:ByteArray}:W (vQ s_) (λ r=>r=true↔Po s_):=by
 unfold vQ;refine aO (by (intro hc; simp only [Bool.or_eq_false_iff,beq_eq_false_iff_ne] at hc; omega)) ?_;refine aO (by (intro hc; simp only [Bool.or_eq_false_iff,beq_eq_false_iff_ne] at hc; omega)) ?_;refine bJ ?_ ?_<;>intro c1
 ·have gQ:=c1;have c1:=nr c1;refine av ?_;(constructor; (intro e; cases e); (rintro ⟨a1,a3,a5⟩; omega))
 ·have gQ:=c1;have c1:=nr c1;have hsz:s_.size≤16:=(by simp only [Bool.or_eq_false_iff] at gQ; have:=of_decide_eq_false gQ.1.1.2; omega);refine bI (λ (g1:Int)=>0≤g1∧(∀j:Nat,(j:Int)<g1→gI s_ j=45∨(48≤gI s_ j∧gI s_ j≤57)∨(97≤gI s_ j∧gI s_ j≤122))) (λ (g1:Int)=>(s_.size - g1).toNat) ?_ ?_
  ·intro aj g1 dY bW;obtain ⟨dN,bO⟩:=dY;unfold Ry;refine wi ?_ ?_<;>intro c2
   ·refine wm<|wm ?_;refine wn<|wi ?_ ?_<;>intro c3
    ·refine av ?_;(constructor; (intro e; cases e); (rintro ⟨_,_,a5⟩; have:=a5 g1.toNat om; omega))
    ·refine wn<|bW _ ?_ ?_
     ·(refine ⟨ob,dU bO dN om⟩)
     ·exact ob
   ·refine av ?_;(constructor; (intro _; exact ⟨om,om,λ j hj=>bO j om⟩); intro _; rfl)
  ·(refine ⟨ob,λ j hj=>by (try dsimp only at hj); omega⟩)
theorem KD {s_:List ByteArray} {v_:ByteArray} (h1:s_.length≤2000000):W (slices_Index_string s_ v_) (λ r=>(0≤r↔∃j:Nat,(j:Int)<s_.length∧(s_.getD j ByteArray.empty).toList=v_.toList)):=by
 unfold slices_Index_string;refine bI (λ (g1:Int)=>0≤g1∧(∀j:Nat,(j:Int)<g1→(s_.getD j ByteArray.empty).toList≠v_.toList)) (λ (g1:Int)=>(s_.length - g1).toNat) ?_ ?_
 ·intro aj g1 dY bW;obtain ⟨dN,bO⟩:=dY;unfold xB;refine wi ?_ ?_<;>intro c1
  ·refine wn<|wi ?_ ?_<;>intro c2
   ·refine av ?_;(constructor; (intro _; exact ⟨g1.toNat,om,c2.symm⟩); (intro _; omega))
   ·refine wn<|bW _ ?_ ?_
    ·(refine ⟨ob,dU bO dN (λ e=>c2 e.symm)⟩)
    ·exact ob
  ·refine av ?_;(constructor; (intro e; omega); (rintro ⟨j,h1,h2⟩; exact absurd h2 (bO j om)))
 ·(refine ⟨ob,λ j hj=>by (try dsimp only at hj); omega⟩)
theorem Fb {s_:List ByteArray} {v_:ByteArray} (h1:s_.length≤2000000):W (slices_Contains_string s_ v_) (λ r=>r=true↔∃j:Nat,(j:Int)<s_.length∧(s_.getD j ByteArray.empty).toList=v_.toList):=by
 unfold slices_Contains_string;refine aF (KD ob) λ v1 hv1=>?_;refine av ?_;(rw [← hv1]; simp)
theorem abV {NJ:Int} {g_:dh} (h1:g_.bQ.length≤2000000) (h2:g_.ak.length≤2000000):W (JZ NJ g_) (λ r=>amk NJ g_ r):=by
 unfold JZ;refine wi ?_ ?_<;>intro c1
 ·exact av<|dV c1
 ·refine wi ?_ ?_<;>intro c2
  ·exact av<|aL om (dV c2)
  ·refine bI (λ (g1:Int)=>0≤g1∧(∀j:Nat,(j:Int)<g1→0≤g_.bQ.getD j 0∧g_.bQ.getD j 0<NJ)) (λ (g1:Int)=>(g_.bQ.length - g1).toNat) ?_ ?_
   ·intro aj g1 dY bW;obtain ⟨dN,bO⟩:=dY;unfold Rs;refine wi ?_ ?_<;>intro c3
    ·refine wn<|wi ?_ ?_<;>intro c4
     ·exact av<|aL om (aL om (dV ⟨g1.toNat,om,om⟩))
     ·refine wn<|bW _ ?_ ?_
      ·(refine ⟨ob,dU bO dN om⟩)
      ·exact ob
    ·refine bI (λ (g2:Int)=>1≤g2∧(∀j:Nat,(j:Int)<g2→1≤j→g_.bQ.getD (j - 1) 0<g_.bQ.getD j 0)) (λ (g2:Int)=>(g_.bQ.length - g2).toNat) ?_ ?_
     ·intro dK g2 nk qL;obtain ⟨rG,jD⟩:=nk;unfold NI;refine wi ?_ ?_<;>intro c5
      ·refine wm<|wn ?_;refine wi ?_ ?_<;>intro c6
       ·exact av<|aL om (aL om (aL (gW bO om) (dV ⟨g2.toNat,om,om,by rw [show g2.toNat - 1=(g2 - 1).toNat by omega]; omega⟩)))
       ·refine wn<|qL _ ?_ ?_
        ·(refine ⟨ob,λ j h1 h2=>?_⟩; by_cases q:(j:Int)<g2; (exact jD j q h2); (have e:j=g2.toNat:=by omega); subst e; rw [show g2.toNat - 1=(g2 - 1).toNat by omega]; omega)
        ·exact ob
      ·refine bI (λ (g3:Int)=>0≤g3∧(∀j:Nat,(j:Int)<g3→Po (g_.ak.getD j ByteArray.empty))) (λ (g3:Int)=>(g_.ak.length - g3).toNat) ?_ ?_
       ·intro jZ g3 ad8 ad9;obtain ⟨Yb,qM⟩:=ad8;unfold NH;refine wi ?_ ?_<;>intro c7
        ·refine wn<|aF (DL) λ v3 hv3=>?_;refine bJ ?_ ?_<;>intro c8
         ·have c8o:=c8;have c8:=nr c8;exact av<|aL om (aL om (aL (gW bO om) (aL (GZ jD om) (dV ⟨g3.toNat,om,λ h=>by simp [hv3.2 h] at c8o⟩))))
         ·have c8o:=c8;have c8:=nr c8;refine wn<|ad9 _ ?_ ?_
          ·(refine ⟨ob,dU qM Yb (hv3.1 (by simpa using c8o))⟩)
          ·exact ob
        ·refine bI (λ (g4:Int)=>0≤g4∧(∀k:Nat,(k:Int)<g4→∀j:Nat,j<k→(g_.ak.getD j ByteArray.empty).toList≠(g_.ak.getD k ByteArray.empty).toList)) (λ (g4:Int)=>(g_.ak.length - g4).toNat) ?_ ?_
         ·intro jq g4 Kw Jj;obtain ⟨Gj,mq⟩:=Kw;unfold NG;refine wi ?_ ?_<;>intro c9
          ·refine wm<|aF (Fb ob) λ v6 hv6=>?_;refine bJ ?_ ?_<;>intro c10
           ·have ajS:=c10;have c10:=nr c10;exact av (aL om (aL om (aL (gW bO om) (aL (GZ jD om) (aL (gW qM om) (dV (by obtain ⟨j,h1,h2⟩:=hv6.1 c10; rw [List.length_take] at h1; rw [Jh _ _ _ _ om] at h2; exact ⟨g4.toNat,j,om,om,h2⟩)))))))
           ·have ajS:=c10;have c10:=nr c10;refine wn<|Jj _ ?_ ?_
            ·(refine ⟨ob,λ k hk j hj=>?_⟩; by_cases q:(k:Int)<g4; (exact mq k q j hj); (have e:k=g4.toNat:=by omega); subst e; intro e2; have:=hv6.2 ⟨j,by rw [List.length_take]; omega,by rw [Jh _ _ _ _ om]; exact e2⟩; simp [this] at ajS)
            ·exact ob
          ·exact av (aL om (aL om (aL (gW bO om) (aL (GZ jD om) (aL (gW qM om) (aL (λ ⟨k,j,h1,h2,h3⟩=>mq k om j h1 h3) rfl))))))
         ·(refine ⟨ob,λ j h1 h2=>by omega⟩)
       ·(refine ⟨ob,λ j hj=>by (try dsimp only at hj); omega⟩)
     ·(refine ⟨ob,λ j h1 h2=>by omega⟩)
   ·(refine ⟨ob,λ j hj=>by (try dsimp only at hj); omega⟩)
theorem aaU {i_:Int} (h1:0≤i_) (h2:i_<p_.aD.length) (h3:p_.aD.length≤2000000) (h4:∀g∈p_.aD,g.bQ.length≤2000000∧g.ak.length≤2000000):W (F3 p_ i_) (λ r=>ahH p_ i_.toNat r):=by
 have hgl:=h4 _ (getD_in (i:=i_.toNat) aH om);unfold F3;refine wn<|aF (Au) λ v1 hv1=>?_;refine bJ ?_ ?_<;>intro c1
 ·have gQ:=c1;have c1:=nr c1;exact av<|dV (λ h=>by simp [hv1.2 h] at gQ)
 ·have gQ:=c1;have c1:=nr c1;refine bI (λ (g1:Int)=>0≤g1∧(∀k:Nat,(k:Int)<g1→(p_.aD.getD k aH).wY.toList≠(p_.aD.getD i_.toNat aH).wY.toList)) (λ (g1:Int)=>(i_ - g1).toNat) ?_ ?_
  ·intro aj g1 dY bW;obtain ⟨dN,bO⟩:=dY;unfold Oi;refine wi ?_ ?_<;>intro c2
   ·refine wn<|wi ?_ ?_<;>intro c3
    ·exact av (aL (λ h=>h (hv1.1 (by simpa using gQ))) (dV ⟨g1.toNat,om,c3⟩))
    ·refine wn<|bW _ ?_ ?_
     ·(refine ⟨ob,dU bO dN c3⟩)
     ·exact ob
   ·refine wi ?_ ?_<;>intro c4
    ·exact av (aL (λ h=>h (hv1.1 (by simpa using gQ))) (aL (λ ⟨k,h1,h2⟩=>bO k om h2) (dV c4)))
    ·refine wi ?_ ?_<;>intro c5
     ·exact av (aL (λ h=>h (hv1.1 (by simpa using gQ))) (aL (λ ⟨k,h1,h2⟩=>bO k om h2) (aL om (dV c5))))
     ·refine bI (λ (g2:Int)=>0≤g2∧(∀j:Nat,(j:Int)<g2→0≤(p_.aD.getD i_.toNat aH).bQ.getD j 0∧(p_.aD.getD i_.toNat aH).bQ.getD j 0<p_.bQ)) (λ (g2:Int)=>((p_.aD.getD i_.toNat aH).bQ.length - g2).toNat) ?_ ?_
      ·intro dK g2 nk qL;obtain ⟨rG,jD⟩:=nk;unfold LH;refine wi ?_ ?_<;>intro c6
       ·refine wm<|wi ?_ ?_<;>intro c7
        ·exact av<|aL (λ h=>h (hv1.1 (by simpa using gQ))) (aL (λ ⟨k,h1,h2⟩=>bO k om h2) (aL om (aL om (dV ⟨g2.toNat,om,om⟩))))
        ·refine wn<|qL _ ?_ ?_
         ·(refine ⟨ob,dU jD rG om⟩)
         ·exact ob
       ·refine bI (λ (g3:Int)=>1≤g3∧(∀j:Nat,(j:Int)<g3→1≤j→(p_.aD.getD i_.toNat aH).bQ.getD (j - 1) 0<(p_.aD.getD i_.toNat aH).bQ.getD j 0)) (λ (g3:Int)=>((p_.aD.getD i_.toNat aH).bQ.length - g3).toNat) ?_ ?_
        ·intro jZ g3 ad8 ad9;obtain ⟨Yb,qM⟩:=ad8;unfold LG;refine wi ?_ ?_<;>intro c8
         ·refine wm<|wn ?_;refine wi ?_ ?_<;>intro c9
          ·exact av<|aL (λ h=>h (hv1.1 (by simpa using gQ))) (aL (λ ⟨k,h1,h2⟩=>bO k om h2) (aL om (aL om (aL (gW jD om) (dV ⟨g3.toNat,om,om,by rw [show g3.toNat - 1=(g3 - 1).toNat by omega]; omega⟩)))))
          ·refine wn<|ad9 _ ?_ ?_
           ·(refine ⟨ob,λ j h1 h2=>?_⟩; by_cases q:(j:Int)<g3; (exact qM j q h2); (have e:j=g3.toNat:=by omega); subst e; rw [show g3.toNat - 1=(g3 - 1).toNat by omega]; omega)
           ·exact ob
         ·refine bI (λ (g4:Int)=>0≤g4∧(∀j:Nat,(j:Int)<g4→Po ((p_.aD.getD i_.toNat aH).ak.getD j ByteArray.empty))) (λ (g4:Int)=>((p_.aD.getD i_.toNat aH).ak.length - g4).toNat) ?_ ?_
          ·intro jq g4 Kw Jj;obtain ⟨Gj,mq⟩:=Kw;unfold LD;refine wi ?_ ?_<;>intro c10
           ·refine wn<|aF (Au) λ v4 hv4=>?_;refine bJ ?_ ?_<;>intro c11
            ·have aqh:=c11;have c11:=nr c11;exact av<|aL (λ h=>h (hv1.1 (by simpa using gQ))) (aL (λ ⟨k,h1,h2⟩=>bO k om h2) (aL om (aL om (aL (gW jD om) (aL (GZ qM om) (dV ⟨g4.toNat,om,λ h=>by simp [hv4.2 h] at aqh⟩))))))
            ·have aqh:=c11;have c11:=nr c11;refine wn<|Jj _ ?_ ?_
             ·(refine ⟨ob,dU mq Gj (hv4.1 (by simpa using aqh))⟩)
             ·exact ob
           ·refine bI (λ (g5:Int)=>0≤g5∧(∀k:Nat,(k:Int)<g5→∀j:Nat,j<k→((p_.aD.getD i_.toNat aH).ak.getD j ByteArray.empty).toList≠((p_.aD.getD i_.toNat aH).ak.getD k ByteArray.empty).toList)) (λ (g5:Int)=>((p_.aD.getD i_.toNat aH).ak.length - g5).toNat) ?_ ?_
            ·intro ku g5 WI WJ;obtain ⟨RS,ED⟩:=WI;unfold LC;refine wi ?_ ?_<;>intro c12
             ·refine bI (λ (g8:Int)=>0≤g8∧(∀j:Nat,(j:Int)<g8→((p_.aD.getD i_.toNat aH).ak.getD j ByteArray.empty).toList≠((p_.aD.getD i_.toNat aH).ak.getD g5.toNat ByteArray.empty).toList)) (λ (g8:Int)=>(g5 - g8).toNat) ?_ ?_
              ·intro aay g8 aqi aqj;obtain ⟨aoQ,aml⟩:=aqi;unfold LB;refine wi ?_ ?_<;>intro c13
               ·refine wm<|wi ?_ ?_<;>intro c14
                ·exact av (aL (λ h=>h (hv1.1 (by simpa using gQ))) (aL (λ ⟨k,h1,h2⟩=>bO k om h2) (aL om (aL om (aL (gW jD om) (aL (GZ qM om) (aL (gW mq om) (dV ⟨g5.toNat,g8.toNat,om,om,c14⟩))))))))
                ·refine wn<|aqj _ ?_ ?_
                 ·(refine ⟨ob,dU aml aoQ c14⟩)
                 ·exact ob
               ·refine wn<|WJ _ ?_ ?_
                ·(refine ⟨ob,λ k hk j hj=>?_⟩; by_cases q:(k:Int)<g5; (exact ED k q j hj); (have e:k=g5.toNat:=by omega); subst e; exact aml j om)
                ·exact ob
              ·(refine ⟨ob,λ j hj=>by (try dsimp only at hj); omega⟩)
             ·exact av (aL (λ h=>h (hv1.1 (by simpa using gQ))) (aL (λ ⟨k,h1,h2⟩=>bO k om h2) (aL om (aL om (aL (gW jD om) (aL (GZ qM om) (aL (gW mq om) (aL (λ ⟨k,j,h1,h2,h3⟩=>ED k om j h1 h3) rfl))))))))
            ·(refine ⟨ob,λ j h1 h2=>by omega⟩)
          ·(refine ⟨ob,λ j hj=>by (try dsimp only at hj); omega⟩)
        ·(refine ⟨ob,λ j h1 h2=>by omega⟩)
      ·(refine ⟨ob,λ j hj=>by (try dsimp only at hj); omega⟩)
  ·(refine ⟨ob,λ j hj=>by (try dsimp only at hj); omega⟩)
theorem G5 {l:List Int} {x:Int} (hn:n≤l.length):(l.take n).contains x=true↔∃k:Nat,k<n∧l.getD k 0=x:=by
 rw [List.contains_iff_mem,List.mem_take_iff_getElem];constructor
 ·rintro ⟨i,hi,e⟩;exact ⟨i,om,by rw [List.getD_eq_getElem?_getD,List.getElem?_eq_getElem om]; exact e⟩
 ·rintro ⟨k,hk,e⟩;rw [List.getD_eq_getElem?_getD,List.getElem?_eq_getElem om] at e;exact ⟨k,om,e⟩
def RsE (l:List eG) (i:Nat):Int→Prop:=
 KA (∃j:Nat,(j:Int)<((l.getD i dz).dX).length∧¬(0≤((l.getD i dz).dX).getD j 0∧((l.getD i dz).dX).getD j 0<(i:Int))) 2<|
 KA (∃j:Nat,1≤j∧(j:Int)<((l.getD i dz).dX).length∧((l.getD i dz).dX).getD j 0≤((l.getD i dz).dX).getD (j - 1) 0) 12<|
 λ r=>r=0
def RsA (l:List eG):Int→Prop:=KA (32<(l.length:Int)) 3<|Fst l.length (RsE l)
theorem RsA.fun {l:List eG}:Fa (RsA l):=.JF (.fst λ _=>.JF (.JF .zero))
theorem uQ {p:Prop} (hc:c≠0) (h:KA p c A 0):¬p∧A 0:=by
 rcases h with ⟨_,h⟩ | h
 ·exact absurd h.symm hc
 ·exact h
theorem amm (h:Fst n E 0):∀k,k<n→E k 0:=by
 rcases h with ⟨_,_,_,_,h⟩ | h
 ·exact absurd rfl h
 ·exact h.1
theorem RsA.ok {l:List eG} (h:RsA l 0):al6 l:=by
 obtain ⟨h1,h2⟩:=uQ (by decide) h;refine ⟨om,λ i hi=>jC 0 λ j hj=>?_⟩;obtain ⟨h3,_⟩:=uQ (by decide) (amm h2 i hi);by_cases q:0≤((l.getD i dz).dX).getD j 0∧((l.getD i dz).dX).getD j 0<(i:Int)
 ·exact q
 ·exact absurd ⟨j,om,q⟩ h3
def amn (l:List eG) (s:List Bool):Prop:=(s.length:Int)=l.length∧∀i:Nat,(i:Int)<l.length→∀j:Nat,(j:Int)<((l.getD i dz).dX).length→s.getD i false=true→s.getD (((l.getD i dz).dX).getD j 0).toNat false=true
def DmA (l:List dF):Int→Prop:=KA (16<(l.length:Int)) 3<|KA (∃i:Nat,(i:Int)<l.length∧¬(-1≤(l.getD i dI).aM∧(l.getD i dI).aM<(i:Int))) 2<|λ r=>r=0
theorem DmA.fun {l:List dF}:Fa (DmA l):=.JF (.JF .zero)
theorem DmA.ok {l:List dF} (h:DmA l 0):an4 l:=by
 obtain ⟨h1,h2⟩:=uQ (by decide) h;obtain ⟨h3,_⟩:=uQ (by decide) h2;refine ⟨om,λ i hi=>?_⟩;by_cases q : -1≤(l.getD i dI).aM∧(l.getD i dI).aM<(i:Int)
 ·exact q
 ·exact absurd ⟨i,om,q⟩ h3
def DgP (l:List dF) (s:List Bool) (i:Nat):Prop:=((l.getD i dI).fM=true→s.getD i false=true)∧(s.getD i false=true→0≤(l.getD i dI).aM→s.getD (l.getD i dI).aM.toNat false=true)
def RgP (l:List dF) (s:List Bool):Prop:=(s.length:Int)=l.length∧∀i:Nat,(i:Int)<l.length→DgP l s i
def vW (l:List aJ) (m:List Int):Prop:=∀i:Nat,(i:Int)<m.length→(0≤m.getD i 0∧m.getD i 0<l.length)∧∀k:Nat,k<i→m.getD k 0≠m.getD i 0
def amo (b:aS) (l:List aJ) (g:bg):Prop:=((g.dG.length:Int)=b.bS.length∧(g.fC.On.length:Int)=b.bG.length∧(g.fC.dQ.length:Int)=b.bG.length∧(g.d9.length:Int)=b.bq.length∧(g.fB.length:Int)=b.cO.length)∧
 (∀i:Nat,(i:Int)<g.dG.length→0≤g.dG.getD i 0∧g.dG.getD i 0<(b.bS.getD i aK).aN.length)∧∀i:Nat,(i:Int)<g.bZ.length → -1≤(g.bZ.getD i bC).gF∧(g.bZ.getD i bC).gF<l.length
theorem Av (h1:∀g∈p_.aD,g.bQ.length≤2000000∧g.ak.length≤2000000):W (vK p_) (λ r=>yV p_ r):=by
 unfold vK;refine wi ?_ ?_<;>intro c1
 ·exact av<|dV c1
 ·refine wi ?_ ?_<;>intro c2
  ·exact av<|aL om (dV c2)
  ·refine bI (λ (g1:(Int×(qR→Option Int)))=>0≤g1.1∧(∀j:Nat,(j:Int)<g1.1→ahH p_ j 0)∧(∀s:ByteArray,CS g1.2 (.s s)≠0↔∃k:Nat,(k:Int)<g1.1∧(p_.aD.getD k aH).wY=s)) (λ (g1:(Int×(qR→Option Int)))=>(p_.aD.length - g1.1).toNat) ?_ ?_
   ·intro aj g1 dY bW;obtain ⟨dN,bO,bE⟩:=dY;unfold Rt;refine wi ?_ ?_<;>intro c3
    ·have hgl:=h1 _ (getD_in (i:=g1.1.toNat) aH om);refine wn<|aF (DL) λ v5 hv5=>?_;refine bJ ?_ ?_<;>intro c4
     ·have sO:=c4;have c4:=nr c4;exact av (aL om (aL om (GY (i:=g1.1.toNat) om (λ k hk=>bO k om) (dV (λ h=>by simp [hv5.2 h] at sO)) (by decide))))
     ·have sO:=c4;have c4:=nr c4;refine wi ?_ ?_<;>intro c5
      ·exact av (aL om (aL om (GY (i:=g1.1.toNat) om (λ k hk=>bO k om) (aL (λ h=>h (hv5.1 (by simpa using sO))) (dV (by obtain ⟨k,h1,h2⟩:=(bE _).1 c5; exact ⟨k,om,by rw [h2]⟩))) (by decide))))
      ·refine aF (abV hgl.1 hgl.2) λ v6 hv6=>?_;refine bJ ?_ ?_<;>intro c6
       ·have c6o:=c6;have c6:=nr c6;exact av (aL om (aL om (GY (i:=g1.1.toNat) om (λ k hk=>bO k om) (aL (λ h=>h (hv5.1 (by simpa using sO))) (aL (λ ⟨k,h1,h2⟩=>(bE _).2 ⟨k,om,Ti h2⟩ c5) hv6)) (c6))))
       ·have c6o:=c6;have c6:=nr c6;refine wn<|bW _ ?_ ?_
        ·(refine ⟨ob,dU bO dN (aL (λ h=>h (hv5.1 (by simpa using sO))) (aL (λ ⟨k,h1,h2⟩=>(bE _).2 ⟨k,om,Ti h2⟩ c5) (by have e:v6=0:=(by simpa using c6o); rw [e] at hv6; exact hv6))),λ s=>?_⟩; dsimp only; rw [zP]; by_cases q:(.s s:qR)=.s (p_.aD.getD g1.1.toNat aH).wY; (rw [if_pos q]; constructor; (intro _; exact ⟨g1.1.toNat,om,(qR.s.inj q).symm⟩); (intro _; decide)); (rw [if_neg q,bE]; constructor; (rintro ⟨k,h1,h2⟩; exact ⟨k,om,h2⟩); (rintro ⟨k,h1,h2⟩; refine ⟨k,?_,h2⟩; by_cases e:(k:Int)<g1.1; (exact e); exfalso; apply q; rw [← h2,show k=g1.1.toNat by omega])))
        ·exact ob
    ·exact av (aL om (aL om (KC (λ k hk=>bO k om))))
   ·(refine ⟨ob,λ j hj=>by dsimp only at hj; omega,λ s=>?_⟩; constructor; (intro h; exact absurd rfl h); (rintro ⟨k,h1,_⟩; dsimp only at h1; omega))
theorem EG (h1:∀g∈p_.aD,g.bQ.length≤2000000∧g.ak.length≤2000000):W (wI p_) (λ r=>yV p_ r):=by
 unfold wI;refine wi ?_ ?_<;>intro c1
 ·exact av<|dV c1
 ·refine wi ?_ ?_<;>intro c2
  ·exact av<|aL om (dV c2)
  ·refine bI (λ (g1:Int)=>0≤g1∧(∀j:Nat,(j:Int)<g1→ahH p_ j 0)) (λ (g1:Int)=>(p_.aD.length - g1).toNat) ?_ ?_
   ·intro aj g1 dY bW;obtain ⟨dN,bO⟩:=dY;unfold Oj;refine wi ?_ ?_<;>intro c3
    ·refine aF (aaU om om om h1) λ v3 hv3=>?_;refine bJ ?_ ?_<;>intro c4
     ·have sO:=c4;have c4:=nr c4;exact av (aL om (aL om (GY (i:=g1.toNat) om (λ k hk=>bO k om) (hv3) (c4))))
     ·have sO:=c4;have c4:=nr c4;refine wn<|bW _ ?_ ?_
      ·(refine ⟨ob,dU bO dN (by have e:v3=0:=(by simpa using sO); rw [e] at hv3; exact hv3)⟩)
      ·exact ob
    ·exact av (aL om (aL om (KC (λ k hk=>bO k om))))
   ·(refine ⟨ob,λ j hj=>by (try dsimp only at hj); omega⟩)
theorem EH {l_:List eG} (h1:∀g∈l_,g.dX.length≤2000000):W (wB l_) (λ r=>RsA l_ r):=by
 unfold wB;refine wi ?_ ?_<;>intro c1
 ·exact av<|dV c1
 ·refine bI (λ (g1:Int)=>0≤g1∧(∀j:Nat,(j:Int)<g1→RsE l_ j 0)) (λ (g1:Int)=>(l_.length - g1).toNat) ?_ ?_
  ·intro aj g1 dY bW;obtain ⟨dN,bO⟩:=dY;unfold NM;refine wi ?_ ?_<;>intro c2
   ·have hgl:=h1 _ (getD_in (i:=g1.toNat) dz om);refine wn<|bI (λ (g6:Int)=>0≤g6∧(∀j:Nat,(j:Int)<g6→0≤((l_.getD g1.toNat dz).dX).getD j 0∧((l_.getD g1.toNat dz).dX).getD j 0<((g1.toNat:Nat):Int))) (λ (g6:Int)=>(((l_.getD g1.toNat dz).dX).length - g6).toNat) ?_ ?_
    ·intro jH g6 Pj Ky;obtain ⟨Ml,wO⟩:=Pj;unfold NK;refine wi ?_ ?_<;>intro c3
     ·refine wn<|wi ?_ ?_<;>intro c4
      ·exact av<|aL om (GY (i:=g1.toNat) om (λ k hk=>bO k om) (dV ⟨g6.toNat,om,om⟩) (by decide))
      ·refine wn<|Ky _ ?_ ?_
       ·(refine ⟨ob,dU wO Ml om⟩)
       ·exact ob
     ·refine bI (λ (g7:Int)=>1≤g7∧(∀j:Nat,(j:Int)<g7→1≤j→((l_.getD g1.toNat dz).dX).getD (j - 1) 0<((l_.getD g1.toNat dz).dX).getD j 0)) (λ (g7:Int)=>(((l_.getD g1.toNat dz).dX).length - g7).toNat) ?_ ?_
      ·intro oq g7 aaV Yz;obtain ⟨aaW,CK⟩:=aaV;unfold KW;refine wi ?_ ?_<;>intro c5
       ·refine wm<|wn ?_;refine wi ?_ ?_<;>intro c6
        ·exact av<|aL om (GY (i:=g1.toNat) om (λ k hk=>bO k om) (aL (gW wO om) (dV ⟨g7.toNat,om,om,by rw [show g7.toNat - 1=(g7 - 1).toNat by omega]; omega⟩)) (by decide))
        ·refine wn<|Yz _ ?_ ?_
         ·(refine ⟨ob,λ j h1 h2=>?_⟩; by_cases q:(j:Int)<g7; (exact CK j q h2); (have e:j=g7.toNat:=by omega); subst e; rw [show g7.toNat - 1=(g7 - 1).toNat by omega]; omega)
         ·exact ob
       ·refine wn<|bW _ ?_ ?_
        ·(refine ⟨ob,dU bO dN (aL (gW wO om) (aL (GZ CK om) rfl))⟩)
        ·exact ob
      ·(refine ⟨ob,λ j h1 h2=>by omega⟩)
    ·(refine ⟨ob,λ j hj=>by (try dsimp only at hj); omega⟩)
   ·exact av<|aL om (KC λ k hk=>bO k om)
  ·(refine ⟨ob,λ j hj=>by (try dsimp only at hj); omega⟩)
theorem EI {l_:List eG} (h1:∀g∈l_,g.dX.length≤2000000):W (wJ l_) (λ r=>RsA l_ r):=by
 unfold wJ;refine wi ?_ ?_<;>intro c1
 ·exact av<|dV c1
 ·refine bI (λ (g1:Int)=>0≤g1∧(∀j:Nat,(j:Int)<g1→RsE l_ j 0)) (λ (g1:Int)=>(l_.length - g1).toNat) ?_ ?_
  ·intro aj g1 dY bW;obtain ⟨dN,bO⟩:=dY;unfold Om;refine wi ?_ ?_<;>intro c2
   ·have hgl:=h1 _ (getD_in (i:=g1.toNat) dz om);refine bI (λ (g6:Int)=>0≤g6∧(∀j:Nat,(j:Int)<g6→0≤((l_.getD g1.toNat dz).dX).getD j 0∧((l_.getD g1.toNat dz).dX).getD j 0<((g1.toNat:Nat):Int))) (λ (g6:Int)=>(((l_.getD g1.toNat dz).dX).length - g6).toNat) ?_ ?_
    ·intro jH g6 Pj Ky;obtain ⟨Ml,wO⟩:=Pj;unfold Ol;refine wn<|wi ?_ ?_<;>intro c3
     ·refine wm<|wm ?_;refine wi ?_ ?_<;>intro c4
      ·exact av<|aL om (GY (i:=g1.toNat) om (λ k hk=>bO k om) (dV ⟨g6.toNat,om,om⟩) (by decide))
      ·refine wn<|Ky _ ?_ ?_
       ·(refine ⟨ob,dU wO Ml om⟩)
       ·exact ob
     ·refine bI (λ (g7:Int)=>1≤g7∧(∀j:Nat,(j:Int)<g7→1≤j→((l_.getD g1.toNat dz).dX).getD (j - 1) 0<((l_.getD g1.toNat dz).dX).getD j 0)) (λ (g7:Int)=>(((l_.getD g1.toNat dz).dX).length - g7).toNat) ?_ ?_
      ·intro oq g7 aaV Yz;obtain ⟨aaW,CK⟩:=aaV;unfold LJ;refine wn<|wi ?_ ?_<;>intro c5
       ·refine wm<|wm ?_;refine wn<|wi ?_ ?_<;>intro c6
        ·exact av<|aL om (GY (i:=g1.toNat) om (λ k hk=>bO k om) (aL (gW wO om) (dV ⟨g7.toNat,om,om,by rw [show g7.toNat - 1=(g7 - 1).toNat by omega]; omega⟩)) (by decide))
        ·refine wn<|Yz _ ?_ ?_
         ·(refine ⟨ob,λ j h1 h2=>?_⟩; by_cases q:(j:Int)<g7; (exact CK j q h2); (have e:j=g7.toNat:=by omega); subst e; rw [show g7.toNat - 1=(g7 - 1).toNat by omega]; omega)
         ·exact ob
       ·refine wn<|bW _ ?_ ?_
        ·(refine ⟨ob,dU bO dN (aL (gW wO om) (aL (GZ CK om) rfl))⟩)
        ·exact ob
      ·(refine ⟨ob,λ j h1 h2=>by omega⟩)
    ·(refine ⟨ob,λ j hj=>by (try dsimp only at hj); omega⟩)
   ·exact av<|aL om (KC λ k hk=>bO k om)
  ·(refine ⟨ob,λ j hj=>by (try dsimp only at hj); omega⟩)
variable {dM:List Bool}
theorem YA {l_:List eG} (h1:al6 l_) (h2:∀g∈l_,g.dX.length≤2000000):W (Dj l_ dM) (λ r=>r=true↔amn l_ dM):=by
 obtain ⟨p1,p2⟩:=h1;unfold Dj;refine wi ?_ ?_<;>intro c1
 ·refine av ?_;(constructor; (intro e; cases e); (rintro ⟨a,_⟩; omega))
 ·refine bI (λ (g1:Int)=>0≤g1∧(∀i:Nat,(i:Int)<g1→∀j:Nat,(j:Int)<((l_.getD i dz).dX).length→dM.getD i false=true→dM.getD (((l_.getD i dz).dX).getD j 0).toNat false=true)) (λ (g1:Int)=>(l_.length - g1).toNat) ?_ ?_
  ·intro aj g1 dY bW;obtain ⟨dN,bO⟩:=dY;unfold Li;refine wi ?_ ?_<;>intro c2
   ·have hgl:=h2 _ (getD_in (i:=g1.toNat) dz om);refine wn<|bI (λ (g4:Int)=>0≤g4∧(∀j:Nat,(j:Int)<g4→dM.getD g1.toNat false=true→dM.getD (((l_.getD g1.toNat dz).dX).getD j 0).toNat false=true)) (λ (g4:Int)=>(((l_.getD g1.toNat dz).dX).length - g4).toNat) ?_ ?_
    ·intro jq g4 Kw Jj;obtain ⟨Gj,mq⟩:=Kw;unfold Lh;refine wi ?_ ?_<;>intro c3
     ·have hx:=p2 g1.toNat om _ (getD_in (i:=g4.toNat) 0 om);refine wm<|wn ?_;refine bJ ?_ ?_<;>intro c4
      ·have sO:=c4;have c4:=nr c4;refine av ?_;(constructor; (intro e; cases e); (rintro ⟨_,a⟩; simp only [Bool.and_eq_true,Bool.not_eq_true'] at sO; have:=a g1.toNat om g4.toNat om sO.1; rw [this] at sO; cases sO.2))
      ·have sO:=c4;have c4:=nr c4;refine wn<|Jj _ ?_ ?_
       ·(refine ⟨ob,λ j h1 hr=>?_⟩; by_cases q:(j:Int)<g4; (exact mq j q hr); (have e:j=g4.toNat:=by omega); subst e; simp only [hr,Bool.true_and,Bool.not_eq_false'] at sO; exact sO)
       ·exact ob
     ·refine wn<|bW _ ?_ ?_
      ·(refine ⟨ob,λ i hi j hj hr=>?_⟩; by_cases q:(i:Int)<g1; (exact bO i q j hj hr); (have e:i=g1.toNat:=by omega); subst e; exact mq j om hr)
      ·exact ob
    ·(refine ⟨ob,λ j h1 h2=>by omega⟩)
   ·refine av ?_;(constructor; (intro _; exact ⟨om,λ i hi=>bO i om⟩); (intro _; rfl))
  ·(refine ⟨ob,λ j h1 h2=>by omega⟩)
theorem YB {l_:List eG} (h1:∀g∈l_,g.dX.length≤2000000):W (Dk l_ dM) (λ r=>(r=true↔RsA l_ 0∧amn l_ dM)):=by
 unfold Dk;refine aF (EH ob) λ v1 hv1=>?_;refine aF (qX λ hc=>YA (by have e:v1=0:=(by simpa using hc); rw [e] at hv1; exact hv1.ok) h1) λ v2 hv2=>?_;refine av ?_;(constructor; (intro hr; simp only [Bool.and_eq_true] at hr; have e:v1=0:=(by simpa using hr.1); exact ⟨e ▸ hv1,(hv2 hr.1).1 hr.2⟩); (rintro ⟨a,b⟩; have e:=RsA.fun _ _ hv1 a; subst e; have:=(hv2 rfl).2 b; rw [this]; rfl))
theorem YC {l_:List eG} (h1:∀g∈l_,g.dX.length≤2000000):W (Dv l_ dM) (λ r=>(r=true↔RsA l_ 0∧amn l_ dM)):=by
 unfold Dv;refine aF (EI ob) λ v1 hv1=>?_;refine wi ?_ ?_<;>intro c1
 ·refine av ?_;(constructor; (intro e; cases e); (rintro ⟨a,b,_⟩; have e:=RsA.fun _ _ hv1 a; omega))
 ·have hok:RsA l_ 0:=(by have e:v1=0:=om; rw [e] at hv1; exact hv1);obtain ⟨p1,p2⟩:=hok.ok;refine bI (λ (g1:Int)=>0≤g1∧(∀i:Nat,(i:Int)<g1→∀j:Nat,(j:Int)<((l_.getD i dz).dX).length→dM.getD i false=true→dM.getD (((l_.getD i dz).dX).getD j 0).toNat false=true)) (λ (g1:Int)=>(l_.length - g1).toNat) ?_ ?_
  ·intro aj g1 dY bW;obtain ⟨dN,bO⟩:=dY;unfold L9;refine wi ?_ ?_<;>intro c2
   ·have hgl:=h1 _ (getD_in (i:=g1.toNat) dz om);refine bI (λ (g4:Int)=>0≤g4∧(∀j:Nat,(j:Int)<g4→dM.getD g1.toNat false=true→dM.getD (((l_.getD g1.toNat dz).dX).getD j 0).toNat false=true)) (λ (g4:Int)=>(((l_.getD g1.toNat dz).dX).length - g4).toNat) ?_ ?_
    ·intro jq g4 Kw Jj;obtain ⟨Gj,mq⟩:=Kw;unfold L8;refine wn<|wi ?_ ?_<;>intro c3
     ·have hx:=p2 g1.toNat om _ (getD_in (i:=g4.toNat) 0 om);refine wm<|wm ?_;refine bJ ?_ ?_<;>intro c4
      ·have sO:=c4;have c4:=nr c4;refine av ?_;(constructor; (intro e; cases e); (rintro ⟨_,_,a⟩; simp only [Bool.and_eq_true,Bool.not_eq_true'] at sO; have:=a g1.toNat om g4.toNat om sO.1; rw [this] at sO; cases sO.2))
      ·have sO:=c4;have c4:=nr c4;refine wn<|Jj _ ?_ ?_
       ·(refine ⟨ob,λ j h1 hr=>?_⟩; by_cases q:(j:Int)<g4; (exact mq j q hr); (have e:j=g4.toNat:=by omega); subst e; simp only [hr,Bool.true_and,Bool.not_eq_false'] at sO; exact sO)
       ·exact ob
     ·refine wn<|bW _ ?_ ?_
      ·(refine ⟨ob,λ i hi j hj hr=>?_⟩; by_cases q:(i:Int)<g1; (exact bO i q j hj hr); (have e:i=g1.toNat:=by omega); subst e; exact mq j om hr)
      ·exact ob
    ·(refine ⟨ob,λ j h1 h2=>by omega⟩)
   ·refine av ?_;(constructor; (intro _; exact ⟨hok,om,λ i hi=>bO i om⟩); (intro _; rfl))
  ·(refine ⟨ob,λ j h1 h2=>by omega⟩)
theorem Ca {l_:List dF}:W (sV l_) (λ r=>DmA l_ r):=by
 unfold sV;refine wi ?_ ?_<;>intro c1
 ·exact av<|dV c1
 ·refine bI (λ (g1:Int)=>0≤g1∧(∀j:Nat,(j:Int)<g1 → -1≤(l_.getD j dI).aM∧(l_.getD j dI).aM<(j:Int))) (λ (g1:Int)=>(l_.length - g1).toNat) ?_ ?_
  ·intro aj g1 dY bW;obtain ⟨dN,bO⟩:=dY;unfold KX;refine wi ?_ ?_<;>intro c2
   ·refine wn<|wi ?_ ?_<;>intro c3
    ·exact av<|aL om (dV ⟨g1.toNat,om,om⟩)
    ·refine wn<|bW _ ?_ ?_
     ·(refine ⟨ob,dU bO dN om⟩)
     ·exact ob
   ·exact av<|aL om (aL (gW bO om) rfl)
  ·(refine ⟨ob,λ j hj=>by (try dsimp only at hj); omega⟩)
theorem EJ {l_:List dF}:W (wK l_) (λ r=>DmA l_ r):=by
 unfold wK;refine wi ?_ ?_<;>intro c1
 ·exact av<|dV c1
 ·refine bI (λ (g1:Int)=>0≤g1∧(∀j:Nat,(j:Int)<g1 → -1≤(l_.getD j dI).aM∧(l_.getD j dI).aM<(j:Int))) (λ (g1:Int)=>(l_.length - g1).toNat) ?_ ?_
  ·intro aj g1 dY bW;obtain ⟨dN,bO⟩:=dY;unfold Oo;refine wi ?_ ?_<;>intro c2
   ·refine wm<|wi ?_ ?_<;>intro c3
    ·exact av<|aL om (dV ⟨g1.toNat,om,om⟩)
    ·refine wn<|bW _ ?_ ?_
     ·(refine ⟨ob,dU bO dN om⟩)
     ·exact ob
   ·exact av<|aL om (aL (gW bO om) rfl)
  ·(refine ⟨ob,λ j hj=>by (try dsimp only at hj); omega⟩)
variable {rz:List Bool}
theorem YD {l_:List dF} (h1:an4 l_):W (Dl l_ rz) (λ r=>r=true↔RgP l_ rz):=by
 obtain ⟨p1,p2⟩:=h1;unfold Dl;refine wi ?_ ?_<;>intro c1
 ·refine av ?_;(constructor; (intro e; cases e); (rintro ⟨a,_⟩; omega))
 ·refine bI (λ (g1:Int)=>0≤g1∧(∀j:Nat,(j:Int)<g1→DgP l_ rz j)) (λ (g1:Int)=>(l_.length - g1).toNat) ?_ ?_
  ·intro aj g1 dY bW;obtain ⟨dN,bO⟩:=dY;unfold Lj;refine wi ?_ ?_<;>intro c2
   ·have hx:=p2 g1.toNat om;refine wm<|wm ?_;refine bJ ?_ ?_<;>intro c3
    ·have jJ:=c3;have c3:=nr c3;refine av ?_;(constructor; (intro e; cases e); (rintro ⟨_,this⟩; have hd:=this g1.toNat om; obtain ⟨d1,d2⟩:=hd; revert d1 d2; cases hA:(l_.getD g1.toNat dI).fM<;>cases hB:rz.getD g1.toNat false<;>simp_all))
    ·have jJ:=c3;have c3:=nr c3;refine wn<|bW _ ?_ ?_
     ·(refine ⟨ob,dU bO dN ?_⟩; unfold DgP; revert jJ; cases hA:(l_.getD g1.toNat dI).fM<;>cases hB:rz.getD g1.toNat false<;>simp)
     ·exact ob
   ·refine av ?_;(constructor; (intro _; exact ⟨om,λ i hi=>bO i om⟩); (intro _; rfl))
  ·(refine ⟨ob,λ j hj=>by (try dsimp only at hj); omega⟩)
theorem YE {l_:List dF} :W (Dn l_ rz) (λ r=>(r=true↔DmA l_ 0∧RgP l_ rz)):=by
 unfold Dn;refine aF (Ca) λ v1 hv1=>?_;refine aF (qX λ hc=>YD (by have e:v1=0:=(by simpa using hc); rw [e] at hv1; exact hv1.ok)) λ v2 hv2=>?_;refine av ?_;(constructor; (intro hr; simp only [Bool.and_eq_true] at hr; have e:v1=0:=(by simpa using hr.1); exact ⟨e ▸ hv1,(hv2 hr.1).1 hr.2⟩); (rintro ⟨a,b⟩; have e:=DmA.fun _ _ hv1 a; subst e; have:=(hv2 rfl).2 b; rw [this]; rfl))
theorem aaX {l_:List dF} :W (Gd l_ rz) (λ r=>(r=true↔DmA l_ 0∧RgP l_ rz)):=by
 unfold Gd;refine aF (EJ) λ v1 hv1=>?_;refine wi ?_ ?_<;>intro c1
 ·refine av ?_;(constructor; (intro e; cases e); (rintro ⟨a,b,_⟩; have e:=DmA.fun _ _ hv1 a; omega))
 ·have hok:DmA l_ 0:=(by have e:v1=0:=om; rw [e] at hv1; exact hv1);obtain ⟨p1,p2⟩:=hok.ok;refine bI (λ (g1:Int)=>0≤g1∧(∀j:Nat,(j:Int)<g1→DgP l_ rz j)) (λ (g1:Int)=>(l_.length - g1).toNat) ?_ ?_
  ·intro aj g1 dY bW;obtain ⟨dN,bO⟩:=dY;unfold OH;refine wi ?_ ?_<;>intro c2
   ·have hx:=p2 g1.toNat om;refine wm<|wm ?_;refine wm<|bJ ?_ ?_<;>intro c3
    ·have jJ:=c3;have c3:=nr c3;refine av ?_;(constructor; (intro e; cases e); (rintro ⟨_,_,this⟩; have hd:=this g1.toNat om; obtain ⟨d1,d2⟩:=hd; revert d1 d2; cases hA:(l_.getD g1.toNat dI).fM<;>cases hB:rz.getD g1.toNat false<;>simp_all))
    ·have jJ:=c3;have c3:=nr c3;refine wn<|bW _ ?_ ?_
     ·(refine ⟨ob,dU bO dN ?_⟩; unfold DgP; revert jJ; cases hA:(l_.getD g1.toNat dI).fM<;>cases hB:rz.getD g1.toNat false<;>simp)
     ·exact ob
   ·refine av ?_;(constructor; (intro _; exact ⟨hok,om,λ i hi=>bO i om⟩); (intro _; rfl))
  ·(refine ⟨ob,λ j hj=>by (try dsimp only at hj); omega⟩)
variable {l_:List aJ} {ah:List Int}
theorem Tj (h1:l_.length≤2000000) (h2:ah.length≤2000000):W (uY l_ ah) (λ r=>r=true↔vW l_ ah):=by
 unfold uY;refine bI (λ (g1:Int)=>0≤g1∧(∀i:Nat,(i:Int)<g1→(0≤ah.getD i 0∧ah.getD i 0<l_.length)∧∀k:Nat,k<i→ah.getD k 0≠ah.getD i 0)) (λ (g1:Int)=>(ah.length - g1).toNat) ?_ ?_
 ·intro aj g1 dY bW;obtain ⟨dN,bO⟩:=dY;unfold Eh;refine wi ?_ ?_<;>intro c1
  ·refine wm<|aF (ql) λ v5 hv5=>?_;subst v5;refine wn<|aF (gX λ hc=>gZ ob) λ v6 hv6=>?_;subst v6;refine bJ ?_ ?_<;>intro c2
   ·have kr:=c2;have c2:=nr c2;refine av ?_;(constructor; (intro e; cases e); (intro a; obtain ⟨b,d⟩:=a g1.toNat om; simp only [Bool.or_eq_true] at kr; rcases kr with c | c; (simp only [Bool.not_eq_true',Bool.and_eq_false_iff,decide_eq_false_iff_not] at c; omega); (obtain ⟨k,h3,h4⟩:=(G5 om).1 c; exact absurd h4 (d k h3))))
   ·have kr:=c2;have c2:=nr c2;refine wn<|bW _ ?_ ?_
    ·(refine ⟨ob,dU bO dN ?_⟩; simp only [Bool.or_eq_false_iff] at kr; refine ⟨(by have:=kr.1; simp only [Bool.not_eq_false',Bool.and_eq_true,decide_eq_true_eq] at this; omega),λ k hk e=>?_⟩; rw [(G5 om).2 ⟨k,hk,e⟩] at kr; cases kr.2)
    ·exact ob
  ·refine av ?_;(constructor; (intro _ i hi; exact bO i om); (intro _; rfl))
 ·(refine ⟨ob,λ j hj=>by (try dsimp only at hj); omega⟩)
theorem tO (h1:l_.length≤2000000) (h2:ah.length≤2000000):W (nY l_ ah) (λ r=>r=true↔vW l_ ah):=by
 unfold nY;refine bI (λ (g1:Int)=>0≤g1∧(∀i:Nat,(i:Int)<g1→(0≤ah.getD i 0∧ah.getD i 0<l_.length)∧∀k:Nat,k<i→ah.getD k 0≠ah.getD i 0)) (λ (g1:Int)=>(ah.length - g1).toNat) ?_ ?_
 ·intro aj g1 dY bW;obtain ⟨dN,bO⟩:=dY;unfold IC;refine wi ?_ ?_<;>intro c1
  ·refine wm<|wi ?_ ?_<;>intro c2
   ·refine av ?_;(constructor; (intro e; cases e); (intro a; obtain ⟨b,d⟩:=a g1.toNat om; omega))
   ·refine bI (λ (g4:Int)=>0≤g4∧(∀k:Nat,(k:Int)<g4→ah.getD k 0≠ah.getD g1.toNat 0)) (λ (g4:Int)=>(g1 - g4).toNat) ?_ ?_
    ·intro jq g4 Kw Jj;obtain ⟨Gj,mq⟩:=Kw;unfold IB;refine wi ?_ ?_<;>intro c3
     ·refine wm<|wi ?_ ?_<;>intro c4
      ·refine av ?_;(constructor; (intro e; cases e); (intro a; obtain ⟨b,d⟩:=a g1.toNat om; exact absurd c4 (d g4.toNat om)))
      ·refine wn<|Jj _ ?_ ?_
       ·(refine ⟨ob,dU mq Gj c4⟩)
       ·exact ob
     ·refine wn<|bW _ ?_ ?_
      ·(refine ⟨ob,dU bO dN ⟨om,λ k hk=>mq k om⟩⟩)
      ·exact ob
    ·(refine ⟨ob,λ j hj=>by (try dsimp only at hj); omega⟩)
  ·refine av ?_;(constructor; (intro _ i hi; exact bO i om); (intro _; rfl))
 ·(refine ⟨ob,λ j hj=>by (try dsimp only at hj); omega⟩)
def NdE (b:aS) (n:aJ) (dv:Int):Int→Prop:=
 KA (32<(n.bU.length:Int)∨32<(n.fF.length:Int)∨10<(n.ak.length:Int)) 3<|
 KA (∃j:Nat,(j:Int)<n.bU.length∧¬abO b.bS.length (n.bU.getD j dx)) 2<|
 KA (∃j:Nat,(j:Int)<n.fF.length∧¬ahC b.bG.length (n.fF.getD j dH)) 2<|
 KA (∃j:Nat,(j:Int)<n.ak.length∧¬Po (n.ak.getD j ByteArray.empty)) 1<|
 KA (∃j:Nat,(j:Int)<n.bq.length∧¬(0≤n.bq.getD j 0∧n.bq.getD j 0<b.bq.length)) 2<|
 KA (¬(-1≤n.fT∧n.fT<b.cO.length)) 2<|
 KA (∃j:Nat,(j:Int)<n.bT.length∧¬(0≤n.bT.getD j 0∧n.bT.getD j 0<dv)) 2<|
 KA (∃j:Nat,1≤j∧(j:Int)<n.bT.length∧n.bT.getD j 0≤n.bT.getD (j - 1) 0) 12<|
 λ r=>r=0
variable {b:aS}
theorem NdE.fun {n:aJ} {dv:Int}:Fa (NdE b n dv):=.JF (.JF (.JF (.JF (.JF (.JF (.JF (.JF .zero)))))))
def Pq (b:aS):Int→Prop:=Thn (λ r=>r=eD b.bS)<|Thn (λ r=>r=Sp.eD b.bG)<|Thn (yV b.aT)<|Thn (RsA b.bq) (DmA b.cO)
theorem Pq.fun:Fa (Pq b):=.thn (λ _ _ h k=>h.trans k.symm) (.thn (λ _ _ h k=>h.trans k.symm) (.thn yV.fun (.thn RsA.fun DmA.fun)))
def lT (b:aS) (l:List aJ):Int→Prop:=Thn (Pq b)<|KA (12<(l.length:Int)) 3<|Fst l.length λ i=>NdE b (l.getD i bB) l.length
theorem lT.fun {l:List aJ}:Fa (lT b l):=.thn Pq.fun (.JF (.fst λ _=>NdE.fun))
variable {b_:aS}
theorem aaY (h1:Bq b_) (h2:∀g∈b_.aT.aD,g.bQ.length≤2000000∧g.ak.length≤2000000):W (AU b_) (λ r=>Pq b_ r):=by
 obtain ⟨z1,z2,z3,z4,z5,z6,z7⟩:=h1;unfold AU;refine aF (wQ (uP ob)) λ v1 hv1=>?_;subst v1;refine wi ?_ ?_<;>intro c1
 ·exact av<|GX rfl c1
 ·refine aF (Sp.yG ob) λ v2 hv2=>?_;subst v2;refine wi ?_ ?_<;>intro c2
  ·exact av<|kK c1.symm (GX rfl c2)
  ·refine aF (Av h2) λ v3 hv3=>?_;refine wi ?_ ?_<;>intro c3
   ·exact av<|kK c1.symm (kK c2.symm (GX hv3 c3))
   ·refine aF (EH ob) λ v4 hv4=>?_;refine wi ?_ ?_<;>intro c4
    ·exact av<|kK c1.symm (kK c2.symm (kK (c3 ▸ hv3) (GX hv4 c4)))
    ·refine aF (Ca) λ v5 hv5=>?_;exact av<|kK c1.symm (kK c2.symm (kK (c3 ▸ hv3) (kK (c4 ▸ hv4) hv5)))
theorem aaZ (h1:Bq b_) (h2:∀g∈b_.aT.aD,g.bQ.length≤2000000∧g.ak.length≤2000000):W (F4 b_) (λ r=>Pq b_ r):=by
 obtain ⟨z1,z2,z3,z4,z5,z6,z7⟩:=h1;unfold F4;refine aF (Aq ob) λ v1 hv1=>?_;subst v1;refine wi ?_ ?_<;>intro c1
 ·exact av<|GX rfl c1
 ·refine aF (Sp.Ao ob) λ v2 hv2=>?_;subst v2;refine wi ?_ ?_<;>intro c2
  ·exact av<|kK c1.symm (GX rfl c2)
  ·refine aF (EG h2) λ v3 hv3=>?_;refine wi ?_ ?_<;>intro c3
   ·exact av<|kK c1.symm (kK c2.symm (GX hv3 c3))
   ·refine aF (EI ob) λ v4 hv4=>?_;refine wi ?_ ?_<;>intro c4
    ·exact av<|kK c1.symm (kK c2.symm (kK (c3 ▸ hv3) (GX hv4 c4)))
    ·refine aF (EJ) λ v5 hv5=>?_;exact av<|kK c1.symm (kK c2.symm (kK (c3 ▸ hv3) (kK (c4 ▸ hv4) hv5)))
theorem abW {n_:aJ} {iM:Int} (h1:Bq b_) (h2:0≤iM) (h3:iM≤2000000) (h4:n_.bq.length≤2000000) (h5:n_.bT.length≤2000000):W (J9 b_ n_ iM) (λ r=>NdE b_ n_ iM r):=by
 obtain ⟨z1,z2,z3,z4,z5,z6,z7⟩:=h1;unfold J9;refine wi ?_ ?_<;>intro c1
 ·exact av<|dV om
 ·refine bI (λ (g1:Int)=>0≤g1∧(∀j:Nat,(j:Int)<g1→abO b_.bS.length (n_.bU.getD j dx))) (λ (g1:Int)=>(n_.bU.length - g1).toNat) ?_ ?_
  ·intro aj g1 dY bW;obtain ⟨dN,bO⟩:=dY;unfold Rw;refine wi ?_ ?_<;>intro c2
   ·refine wm<|aF (ql) λ v3 hv3=>?_;subst v3;refine wi ?_ ?_<;>intro c3
    ·exact av (aL om (dV ⟨g1.toNat,om,λ ⟨_,_,_,_,_⟩=>by omega⟩))
    ·refine wn<|bW _ ?_ ?_
     ·(refine ⟨ob,dU bO dN ⟨om,om,om,om,om⟩⟩)
     ·exact ob
   ·refine bI (λ (g2:Int)=>0≤g2∧(∀j:Nat,(j:Int)<g2→ahC b_.bG.length (n_.fF.getD j dH))) (λ (g2:Int)=>(n_.fF.length - g2).toNat) ?_ ?_
    ·intro dK g2 nk qL;obtain ⟨rG,jD⟩:=nk;unfold NY;refine wi ?_ ?_<;>intro c4
     ·refine wm<|aF (ql) λ v8 vU=>?_;subst v8;refine aF (gX λ hc=>l5 (ql)) λ v9 Wx=>?_;subst v9;refine wi ?_ ?_<;>intro c5
      ·exact av (aL om (aL (gW bO om) (dV ⟨g2.toNat,om,λ ⟨_,_,_,_,_,_,_⟩=>by omega⟩)))
      ·refine wn<|qL _ ?_ ?_
       ·(refine ⟨ob,dU jD rG ⟨om,om,om,om,om,om,om⟩⟩)
       ·exact ob
     ·refine bI (λ (g3:Int)=>0≤g3∧(∀j:Nat,(j:Int)<g3→Po (n_.ak.getD j ByteArray.empty))) (λ (g3:Int)=>(n_.ak.length - g3).toNat) ?_ ?_
      ·intro jZ g3 ad8 ad9;obtain ⟨Yb,qM⟩:=ad8;unfold NW;refine wi ?_ ?_<;>intro c6
       ·refine wn<|aF (DL) λ v12 MR=>?_;refine bJ ?_ ?_<;>intro c7
        ·have X8:=c7;have c7:=nr c7;exact av (aL om (aL (gW bO om) (aL (gW jD om) (dV ⟨g3.toNat,om,λ h=>by simp [MR.2 h] at X8⟩))))
        ·have X8:=c7;have c7:=nr c7;refine wn<|ad9 _ ?_ ?_
         ·(refine ⟨ob,dU qM Yb (MR.1 (by simpa using X8))⟩)
         ·exact ob
       ·refine bI (λ (g4:Int)=>0≤g4∧(∀j:Nat,(j:Int)<g4→0≤n_.bq.getD j 0∧n_.bq.getD j 0<b_.bq.length)) (λ (g4:Int)=>(n_.bq.length - g4).toNat) ?_ ?_
        ·intro jq g4 Kw Jj;obtain ⟨Gj,mq⟩:=Kw;unfold NV;refine wi ?_ ?_<;>intro c8
         ·refine wm<|aF (ql) λ v15 QN=>?_;subst v15;refine wi ?_ ?_<;>intro c9
          ·exact av (aL om (aL (gW bO om) (aL (gW jD om) (aL (gW qM om) (dV ⟨g4.toNat,om,om⟩)))))
          ·refine wn<|Jj _ ?_ ?_
           ·(refine ⟨ob,dU mq Gj om⟩)
           ·exact ob
         ·refine wn<|aF (ql) λ v16 ahp=>?_;subst v16;refine wi ?_ ?_<;>intro c10
          ·exact av (aL om (aL (gW bO om) (aL (gW jD om) (aL (gW qM om) (aL (gW mq om) (dV om))))))
          ·refine bI (λ (g5:Int)=>0≤g5∧(∀j:Nat,(j:Int)<g5→0≤n_.bT.getD j 0∧n_.bT.getD j 0<iM)) (λ (g5:Int)=>(n_.bT.length - g5).toNat) ?_ ?_
           ·intro ku g5 WI WJ;obtain ⟨RS,ED⟩:=WI;unfold NU;refine wi ?_ ?_<;>intro c11
            ·refine wm<|aF (ql) λ v19 amq=>?_;subst v19;refine wi ?_ ?_<;>intro c12
             ·exact av (aL om (aL (gW bO om) (aL (gW jD om) (aL (gW qM om) (aL (gW mq om) (aL om (dV ⟨g5.toNat,om,om⟩)))))))
             ·refine wn<|WJ _ ?_ ?_
              ·(refine ⟨ob,dU ED RS om⟩)
              ·exact ob
            ·refine bI (λ (g6:Int)=>1≤g6∧(∀j:Nat,(j:Int)<g6→1≤j→n_.bT.getD (j - 1) 0<n_.bT.getD j 0)) (λ (g6:Int)=>(n_.bT.length - g6).toNat) ?_ ?_
             ·intro jH g6 Pj Ky;obtain ⟨Ml,wO⟩:=Pj;unfold NT;refine wi ?_ ?_<;>intro c13
              ·refine wm<|wn ?_;refine wi ?_ ?_<;>intro c14
               ·exact av (aL om (aL (gW bO om) (aL (gW jD om) (aL (gW qM om) (aL (gW mq om) (aL om (aL (gW ED om) (dV ⟨g6.toNat,om,om,by rw [show g6.toNat - 1=(g6 - 1).toNat by omega]; omega⟩))))))))
               ·refine wn<|Ky _ ?_ ?_
                ·(refine ⟨ob,λ j h1 h2=>?_⟩; by_cases q:(j:Int)<g6; (exact wO j q h2); (have e:j=g6.toNat:=by omega); subst e; rw [show g6.toNat - 1=(g6 - 1).toNat by omega]; omega)
                ·exact ob
              ·exact av (aL om (aL (gW bO om) (aL (gW jD om) (aL (gW qM om) (aL (gW mq om) (aL om (aL (gW ED om) (aL (GZ wO om) (rfl)))))))))
             ·(refine ⟨ob,λ j h1 h2=>by omega⟩)
           ·(refine ⟨ob,λ j hj=>by (try dsimp only at hj); omega⟩)
        ·(refine ⟨ob,λ j hj=>by (try dsimp only at hj); omega⟩)
      ·(refine ⟨ob,λ j hj=>by (try dsimp only at hj); omega⟩)
    ·(refine ⟨ob,λ j hj=>by (try dsimp only at hj); omega⟩)
  ·(refine ⟨ob,λ j hj=>by (try dsimp only at hj); omega⟩)
theorem abX {x_:aJ} (h1:Bq b_) (h2:l_.length≤2000000) (h3:x_.bq.length≤2000000) (h4:x_.bT.length≤2000000):W (Ka b_ l_ x_) (λ r=>NdE b_ x_ l_.length r):=by
 obtain ⟨z1,z2,z3,z4,z5,z6,z7⟩:=h1;unfold Ka;refine wi ?_ ?_<;>intro c1
 ·exact av<|dV om
 ·refine bI (λ (g1:Int)=>0≤g1∧(∀j:Nat,(j:Int)<g1→abO b_.bS.length (x_.bU.getD j dx))) (λ (g1:Int)=>(x_.bU.length - g1).toNat) ?_ ?_
  ·intro aj g1 dY bW;obtain ⟨dN,bO⟩:=dY;unfold Rz;refine wi ?_ ?_<;>intro c2
   ·refine wn<|wi ?_ ?_<;>intro c3
    ·exact av (aL om (dV ⟨g1.toNat,om,λ ⟨_,_,_,_,_⟩=>by omega⟩))
    ·refine wn<|bW _ ?_ ?_
     ·(refine ⟨ob,dU bO dN ⟨om,om,om,om,om⟩⟩)
     ·exact ob
   ·refine bI (λ (g2:Int)=>0≤g2∧(∀j:Nat,(j:Int)<g2→ahC b_.bG.length (x_.fF.getD j dH))) (λ (g2:Int)=>(x_.fF.length - g2).toNat) ?_ ?_
    ·intro dK g2 nk qL;obtain ⟨rG,jD⟩:=nk;unfold Ow;refine wi ?_ ?_<;>intro c4
     ·refine wn<|wi ?_ ?_<;>intro c5
      ·exact av (aL om (aL (gW bO om) (dV ⟨g2.toNat,om,λ ⟨_,_,_,_,_,_,_⟩=>by omega⟩)))
      ·refine wn<|qL _ ?_ ?_
       ·(refine ⟨ob,dU jD rG ⟨om,om,om,om,om,om,om⟩⟩)
       ·exact ob
     ·refine bI (λ (g3:Int)=>0≤g3∧(∀j:Nat,(j:Int)<g3→Po (x_.ak.getD j ByteArray.empty))) (λ (g3:Int)=>(x_.ak.length - g3).toNat) ?_ ?_
      ·intro jZ g3 ad8 ad9;obtain ⟨Yb,qM⟩:=ad8;unfold Ov;refine wi ?_ ?_<;>intro c6
       ·refine wn<|aF (Au) λ v3 hv3=>?_;refine bJ ?_ ?_<;>intro c7
        ·have X8:=c7;have c7:=nr c7;exact av (aL om (aL (gW bO om) (aL (gW jD om) (dV ⟨g3.toNat,om,λ h=>by simp [hv3.2 h] at X8⟩))))
        ·have X8:=c7;have c7:=nr c7;refine wn<|ad9 _ ?_ ?_
         ·(refine ⟨ob,dU qM Yb (hv3.1 (by simpa using X8))⟩)
         ·exact ob
       ·refine bI (λ (g4:Int)=>0≤g4∧(∀j:Nat,(j:Int)<g4→0≤x_.bq.getD j 0∧x_.bq.getD j 0<b_.bq.length)) (λ (g4:Int)=>(x_.bq.length - g4).toNat) ?_ ?_
        ·intro jq g4 Kw Jj;obtain ⟨Gj,mq⟩:=Kw;unfold Ou;refine wi ?_ ?_<;>intro c8
         ·refine wn<|wi ?_ ?_<;>intro c9
          ·exact av (aL om (aL (gW bO om) (aL (gW jD om) (aL (gW qM om) (dV ⟨g4.toNat,om,om⟩)))))
          ·refine wn<|Jj _ ?_ ?_
           ·(refine ⟨ob,dU mq Gj om⟩)
           ·exact ob
         ·refine wi ?_ ?_<;>intro c10
          ·exact av (aL om (aL (gW bO om) (aL (gW jD om) (aL (gW qM om) (aL (gW mq om) (dV om))))))
          ·refine bI (λ (g5:Int)=>0≤g5∧(∀j:Nat,(j:Int)<g5→0≤x_.bT.getD j 0∧x_.bT.getD j 0<(l_.length:Int))) (λ (g5:Int)=>(x_.bT.length - g5).toNat) ?_ ?_
           ·intro ku g5 WI WJ;obtain ⟨RS,ED⟩:=WI;unfold Ot;refine wi ?_ ?_<;>intro c11
            ·refine wn<|wi ?_ ?_<;>intro c12
             ·exact av (aL om (aL (gW bO om) (aL (gW jD om) (aL (gW qM om) (aL (gW mq om) (aL om (dV ⟨g5.toNat,om,om⟩)))))))
             ·refine wn<|WJ _ ?_ ?_
              ·(refine ⟨ob,dU ED RS om⟩)
              ·exact ob
            ·refine bI (λ (g6:Int)=>1≤g6∧(∀j:Nat,(j:Int)<g6→1≤j→x_.bT.getD (j - 1) 0<x_.bT.getD j 0)) (λ (g6:Int)=>(x_.bT.length - g6).toNat) ?_ ?_
             ·intro jH g6 Pj Ky;obtain ⟨Ml,wO⟩:=Pj;unfold Oq;refine wi ?_ ?_<;>intro c13
              ·refine wm<|wn ?_;refine wi ?_ ?_<;>intro c14
               ·exact av (aL om (aL (gW bO om) (aL (gW jD om) (aL (gW qM om) (aL (gW mq om) (aL om (aL (gW ED om) (dV ⟨g6.toNat,om,om,by rw [show g6.toNat - 1=(g6 - 1).toNat by omega]; omega⟩))))))))
               ·refine wn<|Ky _ ?_ ?_
                ·(refine ⟨ob,λ j h1 h2=>?_⟩; by_cases q:(j:Int)<g6; (exact wO j q h2); (have e:j=g6.toNat:=by omega); subst e; rw [show g6.toNat - 1=(g6 - 1).toNat by omega]; omega)
                ·exact ob
              ·exact av (aL om (aL (gW bO om) (aL (gW jD om) (aL (gW qM om) (aL (gW mq om) (aL om (aL (gW ED om) (aL (GZ wO om) (rfl)))))))))
             ·(refine ⟨ob,λ j h1 h2=>by omega⟩)
           ·(refine ⟨ob,λ j hj=>by (try dsimp only at hj); omega⟩)
        ·(refine ⟨ob,λ j hj=>by (try dsimp only at hj); omega⟩)
      ·(refine ⟨ob,λ j hj=>by (try dsimp only at hj); omega⟩)
    ·(refine ⟨ob,λ j hj=>by (try dsimp only at hj); omega⟩)
  ·(refine ⟨ob,λ j hj=>by (try dsimp only at hj); omega⟩)
theorem R4 (h1:Bq b_) (h2:∀g∈b_.aT.aD,g.bQ.length≤2000000∧g.ak.length≤2000000) (h3:Jf l_):W (Ef b_ l_) (λ r=>lT b_ l_ r):=by
 obtain ⟨w1,w2⟩:=h3;unfold Ef;refine aF (aaY h1 h2) λ v1 hv1=>?_;refine wi ?_ ?_<;>intro c1
 ·exact av<|GX hv1 c1
 ·refine wi ?_ ?_<;>intro c2
  ·exact av<|kK (c1 ▸ hv1) (dV c2)
  ·refine bI (λ (g1:Int)=>0≤g1∧(∀j:Nat,(j:Int)<g1→NdE b_ (l_.getD j bB) l_.length 0)) (λ (g1:Int)=>(l_.length - g1).toNat) ?_ ?_
   ·intro aj g1 dY bW;obtain ⟨dN,bO⟩:=dY;unfold Rx;refine wi ?_ ?_<;>intro c3
    ·have hw:=w2 _ (getD_in (i:=g1.toNat) bB om);refine wn<|aF (abW ob ob ob ob ob) λ v4 hv4=>?_;refine wi ?_ ?_<;>intro c4
     ·exact av<|kK (c1 ▸ hv1) (aL om (GY (i:=g1.toNat) om (λ k hk=>bO k om) hv4 c4))
     ·refine wn<|bW _ ?_ ?_
      ·(refine ⟨ob,dU bO dN (by rw [c4] at hv4; exact hv4)⟩)
      ·exact ob
    ·exact av<|kK (c1 ▸ hv1) (aL om (KC λ k hk=>bO k om))
   ·(refine ⟨ob,λ j hj=>by (try dsimp only at hj); omega⟩)
theorem Aw (h1:Bq b_) (h2:∀g∈b_.aT.aD,g.bQ.length≤2000000∧g.ak.length≤2000000) (h3:Jf l_):W (vR b_ l_) (λ r=>lT b_ l_ r):=by
 obtain ⟨w1,w2⟩:=h3;unfold vR;refine aF (aaZ h1 h2) λ v1 hv1=>?_;refine wi ?_ ?_<;>intro c1
 ·exact av<|GX hv1 c1
 ·refine wi ?_ ?_<;>intro c2
  ·exact av<|kK (c1 ▸ hv1) (dV c2)
  ·refine bI (λ (g1:Int)=>0≤g1∧(∀j:Nat,(j:Int)<g1→NdE b_ (l_.getD j bB) l_.length 0)) (λ (g1:Int)=>(l_.length - g1).toNat) ?_ ?_
   ·intro aj g1 dY bW;obtain ⟨dN,bO⟩:=dY;unfold RA;refine wi ?_ ?_<;>intro c3
    ·have hw:=w2 _ (getD_in (i:=g1.toNat) bB om);refine wn<|aF (abX ob ob ob ob) λ v4 hv4=>?_;refine wi ?_ ?_<;>intro c4
     ·exact av<|kK (c1 ▸ hv1) (aL om (GY (i:=g1.toNat) om (λ k hk=>bO k om) hv4 c4))
     ·refine wn<|bW _ ?_ ?_
      ·(refine ⟨ob,dU bO dN (by rw [c4] at hv4; exact hv4)⟩)
      ·exact ob
    ·exact av<|kK (c1 ▸ hv1) (aL om (KC λ k hk=>bO k om))
   ·(refine ⟨ob,λ j hj=>by (try dsimp only at hj); omega⟩)
variable {s_:ig}
theorem Pt (h1:abP s_):W (ru s_) (λ r=>(r=true↔vW s_.dB s_.aQ∧amo s_.bH s_.dB s_.aW)):=by
 obtain ⟨⟨s1,s2,s3,s4,s5,s6,s7⟩,v_,n1,n2,⟨n3,n4⟩,m1,⟨z1,z2,z3,z4,z5,z6⟩⟩:=h1;have hch:∀i,i<s_.bH.bS.length→(s_.bH.bS.getD i aK).aN.length≤2000000:=s2;unfold ru;refine aF (Tj ob ob) λ v1 hv1=>?_;refine bJ ?_ ?_<;>intro c1
 ·have gQ:=c1;have c1:=nr c1;refine av ?_;(constructor; (intro e; cases e); (rintro ⟨a,⟨b1,b2,b3,b4,b5⟩,_⟩; rw [hv1.2 a] at gQ; simp only [Bool.not_true,Bool.false_or,Bool.or_eq_true,bne_iff_ne] at gQ; omega))
 ·have gQ:=c1;have c1:=nr c1;have hm:=hv1.1 (by simp only [Bool.or_eq_false_iff] at gQ; simpa using gQ.1.1.1.1.1);have hl:(s_.aW.dG.length:Int)=s_.bH.bS.length:=(by simp only [Bool.or_eq_false_iff] at gQ; simpa using gQ.1.1.1.1.2);refine bI (λ (g1:Int)=>0≤g1∧(∀j:Nat,(j:Int)<g1→0≤s_.aW.dG.getD j 0∧s_.aW.dG.getD j 0<(s_.bH.bS.getD j aK).aN.length)) (λ (g1:Int)=>(s_.bH.bS.length - g1).toNat) ?_ ?_
  ·intro aj g1 dY bW;obtain ⟨dN,bO⟩:=dY;unfold AZ;refine wi ?_ ?_<;>intro c2
   ·have hq:=hch g1.toNat om;refine wm<|wn ?_;refine aF (ql) λ v4 hv4=>?_;subst v4;refine wi ?_ ?_<;>intro c3
    ·refine av ?_;(constructor; (intro e; cases e); (rintro ⟨_,_,a,_⟩; have:=a g1.toNat om; omega))
    ·refine wn<|bW _ ?_ ?_
     ·(refine ⟨ob,dU bO dN om⟩)
     ·exact ob
   ·refine bI (λ (g2:Int)=>0≤g2∧(∀j:Nat,(j:Int)<g2 → -1≤(s_.aW.bZ.getD j bC).gF∧(s_.aW.bZ.getD j bC).gF<s_.dB.length)) (λ (g2:Int)=>(s_.aW.bZ.length - g2).toNat) ?_ ?_
    ·intro dK g2 nk qL;obtain ⟨rG,jD⟩:=nk;unfold y9;refine wi ?_ ?_<;>intro c4
     ·refine wm<|aF (ql) λ v7 hv7=>?_;subst v7;refine wi ?_ ?_<;>intro c5
      ·refine av ?_;(constructor; (intro e; cases e); (rintro ⟨_,_,_,a⟩; have:=a g2.toNat om; omega))
      ·refine wn<|qL _ ?_ ?_
       ·(refine ⟨ob,dU jD rG om⟩)
       ·exact ob
     ·refine av ?_;(constructor; (intro _; exact ⟨hm,⟨om,om,om,om,om⟩,λ i hi=>bO i om,λ i hi=>jD i om⟩); (intro _; rfl))
    ·(refine ⟨ob,λ j hj=>by (try dsimp only at hj); omega⟩)
  ·(refine ⟨ob,λ j hj=>by (try dsimp only at hj); omega⟩)
variable {g_:bg}
theorem YF (h1:Bq b_) (h2:l_.length≤2000000) (h3:MV g_):W (Dr b_ l_ g_) (λ r=>r=true↔amo b_ l_ g_):=by
 obtain ⟨s1,s2,s3,s4,s5,s6,s7⟩:=h1;obtain ⟨z1,z2,z3,z4,z5,z6⟩:=h3;unfold Dr;refine wi ?_ ?_<;>intro c1
 ·refine av ?_;(constructor; (intro e; cases e); (rintro ⟨⟨b1,b2,b3,b4,b5⟩,_⟩; omega))
 ·refine bI (λ (g1:Int)=>0≤g1∧(∀j:Nat,(j:Int)<g1→0≤g_.dG.getD j 0∧g_.dG.getD j 0<(b_.bS.getD j aK).aN.length)) (λ (g1:Int)=>(g_.dG.length - g1).toNat) ?_ ?_
  ·intro aj g1 dY bW;obtain ⟨dN,bO⟩:=dY;unfold LX;refine wi ?_ ?_<;>intro c2
   ·refine wm<|wn ?_;refine wi ?_ ?_<;>intro c3
    ·refine av ?_;(constructor; (intro e; cases e); (rintro ⟨_,a,_⟩; have:=a g1.toNat om; omega))
    ·refine wn<|bW _ ?_ ?_
     ·(refine ⟨ob,dU bO dN om⟩)
     ·exact ob
   ·refine bI (λ (g2:Int)=>0≤g2∧(∀j:Nat,(j:Int)<g2 → -1≤(g_.bZ.getD j bC).gF∧(g_.bZ.getD j bC).gF<l_.length)) (λ (g2:Int)=>(g_.bZ.length - g2).toNat) ?_ ?_
    ·intro dK g2 nk qL;obtain ⟨rG,jD⟩:=nk;unfold LW;refine wi ?_ ?_<;>intro c4
     ·refine wm<|wi ?_ ?_<;>intro c5
      ·refine av ?_;(constructor; (intro e; cases e); (rintro ⟨_,_,a⟩; have:=a g2.toNat om; omega))
      ·refine wn<|qL _ ?_ ?_
       ·(refine ⟨ob,dU jD rG om⟩)
       ·exact ob
     ·refine av ?_;(constructor; (intro _; exact ⟨⟨om,om,om,om,om⟩,λ i hi=>bO i om,λ i hi=>jD i om⟩); (intro _; rfl))
    ·(refine ⟨ob,λ j hj=>by (try dsimp only at hj); omega⟩)
  ·(refine ⟨ob,λ j hj=>by (try dsimp only at hj); omega⟩)
variable {l:List aI} {s:List Int}
theorem aoc (hf:abI l) (hs:l6 l s=true) {x:bN} (h0:0≤x.eZ) (h1:x.eZ<l.length):aaP (RO l s) x=S9 (gD l s) x:=by
 obtain ⟨e1,e2,_,_⟩:=Qx hf hs x.eZ.toNat om;unfold aaP S9;rw [e1,e2,Bool.not_not]
theorem aod (hf:abI l) (hs:l6 l s=true):ajT l (RO l s)=ownB l (gD l s):=by
 unfold ajT ownB;have:∀i∈List.range l.length,(!ami (RO l s).1 (RO l s).2 l i)=(!adR ((gD l s).getD i dS) (l.getD i aK)):=λ i hi=>by
  obtain ⟨e1,e2,_,_⟩:=Qx hf hs i (by simpa using hi);unfold ami adR;rw [e1,e2]
 rw [Bool.eq_iff_iff,List.all_eq_true,List.all_eq_true];exact ⟨λ h i hi=>by rw [← this i hi]; exact h i hi,λ h i hi=>by rw [this i hi]; exact h i hi⟩
theorem any_congr {l:List α} {p q:α→Bool} (h:∀x∈l,p x=q x):l.any p=l.any q:=by
 rw [Bool.eq_iff_iff,List.any_eq_true,List.any_eq_true];exact ⟨λ ⟨x,h1,h2⟩=>⟨x,h1,by rw [← h x h1]; exact h2⟩,λ ⟨x,h1,h2⟩=>⟨x,h1,by rw [h x h1]; exact h2⟩⟩
theorem KE {m:List bN} (h1:kM l m=true) (h2:l6 l s=true):fq l s m=RZ l s m:=by
 obtain ⟨hck,hml,hmb⟩:=yx h1;have hf:=vB hck;unfold fq RZ;rw [h1,h2,aod hf h2,any_congr λ x hx=>aoc hf h2 (O5 (Ja h1 x hx)).1.1 (O5 (Ja h1 x hx)).1.2,Bool.and_comm (!_)];rfl
theorem WM {l_:List aI} {s_:List Int} (h1:l_.length≤2000000) (h2:s_.length≤2000000) (h3:afz l_):W (Aj l_ s_) (λ r=>r=((eD l_==0)&&l6 l_ s_)):=by
 unfold Aj;refine aF (Aq ob) λ v1 hv1=>?_;subst v1;refine bJ ?_ ?_<;>intro c1
 ·have gQ:=c1;have c1:=nr c1;refine av ?_;(rcases Bool.or_eq_true_iff.1 gQ with c | c; (rw [show (eD l_==0)=false by simpa using c]; rfl); (unfold l6; rw [show ((s_.length:Int)==(l_.length:Int))=false by simpa using c]; simp))
 ·have gQ:=c1;have c1:=nr c1;have he:((s_.length:Int)==(l_.length:Int))=true:=(by have:=(Bool.or_eq_false_iff.1 gQ).2; simpa using this);have hc0:(eD l_==0)=true:=(by have:=(Bool.or_eq_false_iff.1 gQ).1; simpa using this);refine bI (λ (g1:Int)=>0≤g1∧g1≤l_.length∧(∀j:Nat,(j:Int)<g1→dL (s_.getD j 0) 0 ((l_.getD j aK).aN.length - 1)=true)) (λ (g1:Int)=>(l_.length - g1).toNat) ?_ ?_
  ·intro aj g1 dY bW;obtain ⟨dN,bO,bE⟩:=dY;unfold IQ;refine wi ?_ ?_<;>intro c2
   ·have hch:=h3 g1.toNat om;refine wm<|wn ?_;refine wi ?_ ?_<;>intro c3
    ·refine av ?_;(unfold l6; rw [he,yw (i:=g1.toNat) om (by unfold dL; rw [Bool.and_eq_false_iff,decide_eq_false_iff_not,decide_eq_false_iff_not]; omega)]; simp)
    ·refine wn<|bW _ ?_ ?_
     ·(refine ⟨ob,ob,dU bE dN (by unfold dL; rw [Bool.and_eq_true,decide_eq_true_eq,decide_eq_true_eq]; omega)⟩)
     ·exact ob
   ·refine av ?_;(unfold l6; rw [he,hc0,Al λ j hj=>bE j om]; rfl)
  ·(refine ⟨ob,ob,λ j hj=>by omega⟩)
theorem EK {l_:List aI} {s_:List Int} {m_:List bN} (h1:l_.length≤2000000) (h2:s_.length≤2000000) (h3:m_.length≤2000000) (h4:afz l_):W (Bh l_ s_ m_) (λ r=>r=fq l_ s_ m_):=by
 unfold Bh;refine aF (WM ob ob ob) λ v1 hv1=>?_;subst v1;refine aF (gX λ hc=>l5 (Pk ob ob)) λ v2 hv2=>?_;subst v2;refine bJ ?_ ?_<;>intro c1
 ·have gQ:=c1;have c1:=nr c1;refine av ?_;(unfold fq; rcases Bool.or_eq_true_iff.1 gQ with c | c; (simp only [Bool.not_eq_true',Bool.and_eq_false_iff,beq_eq_false_iff_ne] at c; rcases c with c | c; (rw [show kM l_ m_=false by (unfold kM; rw [show (eD l_==0)=false by simpa using c]; rfl)]; rfl); (rw [c,Bool.and_false]; rfl)); (rw [show kM l_ m_=false by simpa using c]; rfl))
 ·have gQ:=c1;have c1:=nr c1;have hss:l6 l_ s_=true:=(by have:=(Bool.or_eq_false_iff.1 gQ).1; simp only [Bool.not_eq_false',Bool.and_eq_true] at this; exact this.2);have hlm:kM l_ m_=true:=(by have:=(Bool.or_eq_false_iff.1 gQ).2; simpa using this);obtain ⟨hck,hml,hmb⟩:=yx hlm;have hst:=Qw l_ s_ l_.length;refine aF (Pn (Qu (vB hck) hss) (alR (vB hck) hss)) λ v3 hv3=>?_;subst v3;have hs1:(RO l_ s_).1.length=l_.length:=hst.1;have hs2:(RO l_ s_).2.length=l_.length:=hst.2;refine bI (λ (g1:Int)=>0≤g1∧g1≤m_.length∧(m_.drop g1.toNat).any (aaP (RO l_ s_))=m_.any (aaP (RO l_ s_))) (λ (g1:Int)=>(m_.length - g1).toNat) ?_ ?_
  ·intro aj g1 dY bW;obtain ⟨dN,bO,bE⟩:=dY;unfold OE;refine wi ?_ ?_<;>intro c2
   ·have hlt:g1.toNat<m_.length:=om;have hx:=(O5 (Ja hlm _ (getD_in (i:=g1.toNat) dx hlt))).1;rw [drop_cons dx hlt,List.any_cons] at bE;refine wm<|wn ?_;refine aF (gX λ hc=>l5 (EF)) λ v6 hv6=>?_;subst v6;refine bJ ?_ ?_<;>intro c3
    ·have jJ:=c3;have c3:=nr c3;refine av ?_;(rw [KE hlm hss]; unfold RZ; rw [← bE,show aaP (RO l_ s_) (m_.getD g1.toNat dx)=true from jJ]; rfl)
    ·have jJ:=c3;have c3:=nr c3;refine wn<|bW _ ?_ ?_
     ·(refine ⟨ob,ob,?_⟩; rw [← bE,show aaP (RO l_ s_) (m_.getD g1.toNat dx)=false from jJ,show (g1+1).toNat=g1.toNat+1 by omega]; rfl)
     ·exact ob
   ·refine aF (Ya ob ob ob) λ v7 hv7=>?_;subst v7;refine av ?_;(rw [KE hlm hss]; unfold RZ; rw [← bE,show g1.toNat=m_.length by omega,List.drop_length]; rfl)
  ·(refine ⟨ob,ob,rfl⟩)
theorem yV.v (h:yV p 0):ad7 p:=by
 obtain ⟨h1,h2⟩:=uQ (by decide) h;obtain ⟨h3,h4⟩:=uQ (by decide) h2;have h5:=amm h4;have hg:∀i:Nat,(i:Int)<p.aD.length→GpV p.bQ (p.aD.getD i aH)∧∀k:Nat,k<i→(p.aD.getD k aH).wY.toList≠(p.aD.getD i aH).wY.toList:=λ i hi=>by
  obtain ⟨a1,a2⟩:=uQ (by decide) (h5 i om);obtain ⟨b1,b2⟩:=uQ (by decide) a2;obtain ⟨c1,c2⟩:=uQ (by decide) b2;obtain ⟨d1,d2⟩:=uQ (by decide) c2;obtain ⟨e1,e2⟩:=uQ (by decide) d2;obtain ⟨f1,f2⟩:=uQ (by decide) e2;obtain ⟨k1,k2⟩:=uQ (by decide) f2;obtain ⟨l1,_⟩:=uQ (by decide) k2;refine ⟨⟨⟨om,om,jC 0 λ j hj=>?_⟩,Classical.not_not.1 a1,λ k hk hl=>?_,λ j hj=>?_,λ k j hj hk e=>l1 ⟨k,j,hj,hk,e⟩⟩,λ k hk e=>b1 ⟨k,hk,e⟩⟩
  ·exact Classical.byContradiction λ q=>e1 ⟨j,om,q⟩
  ·exact Classical.byContradiction λ q=>f1 ⟨k,hk,hl,om⟩
  ·exact Classical.byContradiction λ q=>k1 ⟨j,hj,q⟩
 exact ⟨⟨om,om,jC aH λ i hi=>(hg i om).1.ok⟩,λ i hi=>(hg i hi).1,λ i k hk hi=>(hg i hi).2 k hk⟩
def aqk (p:bn) (l:List ou) (i:Nat):Prop:=Jd p (l.getD i fU)∧(∀k:Nat,k<i→(l.getD k fU).cZ≠(l.getD i fU).cZ)∧
 ∀k:Nat,k<i→∀a b:Nat,(a:Int)<(p.aD.getD (l.getD k fU).cZ.toNat aH).bQ.length→(b:Int)<(p.aD.getD (l.getD i fU).cZ.toNat aH).bQ.length→(p.aD.getD (l.getD k fU).cZ.toNat aH).bQ.getD a 0≠(p.aD.getD (l.getD i fU).cZ.toNat aH).bQ.getD b 0
def G6 (p:bn) (l:List ou):Prop:=∀i:Nat,(i:Int)<l.length→aqk p l i
theorem aa0 {l_:List ou} (h1:∀g∈p_.aD,g.bQ.length≤2000000∧g.ak.length≤2000000) (h2:l_.length≤2000000):W (FP p_ l_) (λ r=>(r.2=0↔yV p_ 0∧G6 p_ l_)):=by
 unfold FP;refine bI (λ (g1:(Int×(Nat→Int)×(Nat→Int)))=>0≤g1.1∧(∀x:Nat,(x:Int)<g1.1→g1.2.2 x = -1)) (λ (g1:(Int×(Nat→Int)×(Nat→Int)))=>(64 - g1.1).toNat) ?_ ?_
 ·intro aj g1 dY bW;obtain ⟨dN,bO⟩:=dY;unfold N8;refine wi ?_ ?_<;>intro c1
  ·refine wm<|bW _ ?_ ?_
   ·(refine ⟨ob,λ x hx=>?_⟩; dsimp only at hx ⊢; by_cases q:x=g1.1.toNat; (rw [q,Sq]); (rw [upd_ne q]; exact bO x om))
   ·exact ob
  ·refine aF (Av h1) λ v1 hv1=>?_;refine wi ?_ ?_<;>intro c2
   ·refine av ?_;(refine ⟨λ e=>by (try dsimp only at e); omega,λ ⟨a,_⟩=>absurd (yV.fun _ _ hv1 a) c2⟩)
   ·have hpa:yV p_ 0:=(by rw [c2] at hv1; exact hv1);have hpv:=hpa.v;obtain ⟨⟨p1,p2,p3⟩,gr,nm⟩:=id hpv;refine wn<|bI (λ (g2:(Int×(Nat→Int)×List Bool))=>0≤g2.1∧g2.2.2.length=p_.aD.length∧(∀x:Nat,x<64→(0≤g2.2.1 x↔∃j:Nat,(j:Int)<g2.1∧∃k:Nat,(k:Int)<(p_.aD.getD (l_.getD j fU).cZ.toNat aH).bQ.length∧(p_.aD.getD (l_.getD j fU).cZ.toNat aH).bQ.getD k 0=x))∧(∀x:Nat,g2.2.2.getD x false=true↔∃j:Nat,(j:Int)<g2.1∧(l_.getD j fU).cZ=x)∧(∀i:Nat,(i:Int)<g2.1→aqk p_ l_ i)) (λ (g2:(Int×(Nat→Int)×List Bool))=>(l_.length - g2.1).toNat) ?_ ?_
    ·intro dK g2 nk qL;obtain ⟨rG,jD,mV,CJ,R5⟩:=nk;unfold Lg;refine wi ?_ ?_<;>intro c3
     ·refine wm<|wi ?_ ?_<;>intro c4
      ·refine av ?_;(refine ⟨λ e=>by (try dsimp only at e); omega,λ ⟨_,h⟩=>?_⟩; obtain ⟨⟨u1,u2,u3,u4⟩,_⟩:=h g2.1.toNat om; omega)
      ·have hu:Jd p_ (l_.getD g2.1.toNat fU):=⟨om,om,om,om⟩;obtain ⟨u1,u2,u3,u4⟩:=id hu;refine wn<|bJ ?_ ?_<;>intro c5
       ·have Bu:=c5;have c5:=nr c5;refine av ?_;(refine ⟨λ e=>by (try dsimp only at e); omega,λ ⟨_,h⟩=>?_⟩; obtain ⟨_,hd,_⟩:=h g2.1.toNat om; obtain ⟨j,e3,e4⟩:=(CJ _).1 Bu; exact absurd e4 (λ e4=>hd j om om))
       ·have Bu:=c5;have c5:=nr c5;refine wm<|bI (λ (g5:(Int×(Nat→Int)×List Bool))=>0≤g5.1∧g5.1≤(p_.aD.getD (l_.getD g2.1.toNat fU).cZ.toNat aH).bQ.length∧g5.2.2.length=p_.aD.length∧(∀x:Nat,x<64→(0≤g5.2.1 x↔(∃j:Nat,(j:Int)<g2.1∧∃k:Nat,(k:Int)<(p_.aD.getD (l_.getD j fU).cZ.toNat aH).bQ.length∧(p_.aD.getD (l_.getD j fU).cZ.toNat aH).bQ.getD k 0=x)∨∃k:Nat,(k:Int)<g5.1∧(p_.aD.getD (l_.getD g2.1.toNat fU).cZ.toNat aH).bQ.getD k 0=x))∧(∀x:Nat,g5.2.2.getD x false=true↔∃j:Nat,(j:Int)<g2.1+1∧(l_.getD j fU).cZ=x)∧(∀b:Nat,(b:Int)<g5.1→∀j:Nat,(j:Int)<g2.1→∀a:Nat,(a:Int)<(p_.aD.getD (l_.getD j fU).cZ.toNat aH).bQ.length→(p_.aD.getD (l_.getD j fU).cZ.toNat aH).bQ.getD a 0≠(p_.aD.getD (l_.getD g2.1.toNat fU).cZ.toNat aH).bQ.getD b 0)) (λ (g5:(Int×(Nat→Int)×List Bool))=>((p_.aD.getD (l_.getD g2.1.toNat fU).cZ.toNat aH).bQ.length - g5.1).toNat) ?_ ?_
        ·intro ku g5 WI WJ;obtain ⟨RS,ED,Mk,aa1,af4,acT⟩:=WI;unfold Lf;refine wi ?_ ?_<;>intro c6
         ·have hmg:=getD_in (l:=p_.aD) (i:=(l_.getD g2.1.toNat fU).cZ.toNat) aH om;have hgl:=(h1 _ hmg).1;have hpn:=(p3 _ hmg).pn _ (getD_in (i:=g5.1.toNat) 0 om);refine wm<|wi ?_ ?_<;>intro c7
          ·refine av ?_;(refine ⟨λ e=>by (try dsimp only at e); omega,λ ⟨_,h⟩=>?_⟩; obtain ⟨_,_,hd⟩:=h g2.1.toNat om; exfalso; rcases (aa1 _ om).1 c7 with ⟨j,e3,k,e5,e6⟩ | ⟨k,e5,e6⟩; (exact hd j om k g5.1.toNat e5 om (by rw [e6]; omega)); (have:=U4 hpv u1 u2 k g5.1.toNat om om; omega))
          ·refine wm<|WJ _ ?_ ?_
           ·(refine ⟨ob,ob,ob,λ x hx=>?_,af4,λ b hb j hj a ha=>?_⟩; (dsimp only; by_cases q:x=((p_.aD.getD (l_.getD g2.1.toNat fU).cZ.toNat aH).bQ.getD g5.1.toNat 0).toNat; (rw [q,Sq]; constructor; (intro _; exact .inr ⟨g5.1.toNat,om,om⟩); (intro _; omega)); (rw [upd_ne q,aa1 x hx]; constructor; (rintro (h | ⟨k,e5,e6⟩); (exact .inl h); (exact .inr ⟨k,om,e6⟩)); (rintro (h | ⟨k,e5,e6⟩); (exact .inl h); (refine .inr ⟨k,?_,e6⟩; by_cases e:(k:Int)<g5.1; (exact e); exfalso; apply q; rw [show g5.1.toNat=k by omega]; omega)))); (by_cases q:(b:Int)<g5.1; (exact acT b q j hj a ha); (have e:b=g5.1.toNat:=by (try dsimp only at hb); omega); subst e; intro e7; have e8:=(aa1 ((p_.aD.getD (l_.getD g2.1.toNat fU).cZ.toNat aH).bQ.getD g5.1.toNat 0).toNat om).2 (.inl ⟨j,hj,a,ha,by rw [e7]; omega⟩); omega))
           ·exact ob
         ·refine wn<|qL _ ?_ ?_
          ·(refine ⟨ob,Mk,λ x hx=>?_,λ x=>af4 x,dU R5 rG ⟨hu,λ k hk e=>?_,λ k hk a b ha hb=>acT b om k om a ha⟩⟩; (dsimp only; rw [aa1 x hx]; constructor; (rintro (⟨j,e3,e⟩ | ⟨k,e5,e6⟩); (exact ⟨j,om,e⟩); (exact ⟨g2.1.toNat,om,k,om,e6⟩)); (rintro ⟨j,e3,k,e5,e6⟩; by_cases q:(j:Int)<g2.1; (exact .inl ⟨j,q,k,e5,e6⟩); (have e:j=g2.1.toNat:=by omega); subst e; exact .inr ⟨k,om,e6⟩)); (rw [(CJ _).2 ⟨k,om,om⟩] at c5; cases c5))
          ·exact ob
        ·(refine ⟨ob,ob,ob,λ x hx=>⟨λ h=>.inl ((mV x hx).1 h),?_⟩,λ x=>?_,λ b hb=>?_⟩; (rintro (h | ⟨k,e5,_⟩); (exact (mV x hx).2 h); (exfalso; (try dsimp only at e5); omega)); (dsimp only; by_cases q:x=(l_.getD g2.1.toNat fU).cZ.toNat; (rw [q,qo om]; exact ⟨λ _=>⟨g2.1.toNat,om,om⟩,λ _=>rfl⟩); (rw [kR q,CJ]; constructor; (rintro ⟨j,e3,e4⟩; exact ⟨j,om,e4⟩); (rintro ⟨j,e3,e4⟩; refine ⟨j,?_,e4⟩; by_cases e:(j:Int)<g2.1; (exact e); exfalso; apply q; rw [show g2.1.toNat=j by omega]; omega))); (exfalso; (try dsimp only at hb); omega))
     ·refine av ?_;(refine ⟨λ _=>⟨hpa,λ i hi=>R5 i om⟩,λ _=>rfl⟩)
    ·(refine ⟨ob,by simp,λ x hx=>⟨λ h=>?_,λ ⟨j,e,_⟩=>?_⟩,λ x=>⟨λ hx=>?_,λ ⟨j,e,_⟩=>?_⟩,λ j hj=>?_⟩; (exfalso; have:=bO x om; (try dsimp only at h); omega); (exfalso; (try dsimp only at e); omega); (exfalso; dsimp only at hx; rw [List.getD_eq_getElem?_getD,List.getElem?_replicate] at hx; split at hx<;>simp at hx); (exfalso; (try dsimp only at e); omega); (exfalso; (try dsimp only at hj); omega))
 ·(refine ⟨ob,λ j hj=>by (try dsimp only at hj); omega⟩)
structure NdV (b:aS) (k:Int) (n:aJ):Prop where
 ok:aqe b n
 fw:∀j:Nat,(j:Int)<n.ak.length→Po (n.ak.getD j ByteArray.empty)
 pr:∀x∈n.bT,0≤x∧x<k
 ps:∀k:Nat,1≤k→(k:Int)<n.bT.length→n.bT.getD (k - 1) 0<n.bT.getD k 0
def auu (l:List Int):Prop:=∀k j:Nat,j<k→(k:Int)<l.length→l.getD j 0≠l.getD k 0
def nmU (p:bn) (u:ou):ByteArray:=((p.aD.getD u.cZ.toNat aH).ak.getD u.gL.toNat ByteArray.empty)
def MW (p:bn) (us:List aR) (m:Int) (f:ByteArray):Nat:=us.countP λ u=>(u.gF==m)&&decide (nmU p u.jN=f)
def cntF (l:List ByteArray) (f:ByteArray):Nat:=l.countP λ x=>decide (x=f)
variable {f:ByteArray}
theorem QC {us:List aR} {u:aR} {m:Int} :MW p (us++[u]) m f=MW p us m f+(if u.gF=m∧nmU p u.jN=f then 1 else 0):=by
 unfold MW;rw [List.countP_append,List.countP_singleton];congr 1;simp only [Bool.and_eq_true,beq_iff_eq,decide_eq_true_eq]
theorem QD {l:List ByteArray} {x:ByteArray} :cntF (l++[x]) f=cntF l f+(if x=f then 1 else 0):=by
 unfold cntF;rw [List.countP_append,List.countP_singleton];congr 1;simp only [decide_eq_true_eq]
theorem ajY {l:List ByteArray} (k:Nat):cntF (l.take k) f≤cntF l f:=by
 unfold cntF;conv=>rhs; rw [← List.take_append_drop k l]
 rw [List.countP_append]; omega
theorem ahI (h1:eD l=0) (h2:l6 l s=true):(vT l s).2=0:=by
 unfold vT;rw [h1,h2]; rfl
def arS (r:bL) (x:bN):Prop:=r.j5≠0∧r.j5≤x.fP*r.jr∧x.Low*r.jr≤r.j5
structure axz (s:ig):Prop where
 sc:abP s
 sh:ahD s
 bv:BdV s.bH
 dst:auu s.aQ
 st:∀i:Nat,(i:Int)<s.bH.bS.length→0≤s.aW.dG.getD i 0∧s.aW.dG.getD i 0<(s.bH.bS.getD i aK).aN.length
 us:∀u∈s.aW.bZ,-1≤u.gF∧u.gF<s.dB.length
 sb:l6 s.bH.bS s.aW.dG=true
 mt:fq s.bH.bS s.aW.dG []=true
 lm:∀m∈s.aQ,∀x∈(s.dB.getD m.toNat bB).bU,arS ((gD s.bH.bS s.aW.dG).getD x.eZ.toNat dS) x
 dr:Sp.fq s.bH.bG s.aW.fC (s.aQ.flatMap λ m=>(s.dB.getD m.toNat bB).fF)=true
 pn:UsV s.bH.aT (s.aW.bZ.map aR.jN)
 fn:∀m∈s.aQ,∀f,cntF (s.dB.getD m.toNat bB).ak f≤MW s.bH.aT s.aW.bZ m f
 rs:aaS s.bH.bq s.aW.d9
 rl:∀m∈s.aQ,∀x∈(s.dB.getD m.toNat bB).bq,s.aW.d9.getD x.toNat false=true
 dm:af2 s.bH.cO s.aW.fB
 dl:∀m∈s.aQ,0≤(s.dB.getD m.toNat bB).fT→s.aW.fB.getD (s.dB.getD m.toNat bB).fT.toNat false=true
theorem acU {r:bL} (hv:qh r=true) (h:nR r=false):r.j5≠0:=by
 intro e;obtain ⟨_,_,h3,_,h5⟩:=mM hv;rw [e] at h5;unfold jw at h5;rw [show (0:Int).toNat=0 from rfl,Nat.gcd_zero_left] at h5;have:r.jr=1:=by omega
 unfold nR at h;rw [e,this] at h;cases h
theorem ahJ {r:bL} {lo hi:Int} (h:oH r lo hi=true):lo*r.jr≤r.j5∧r.j5≤hi*r.jr:=by
 unfold oH at h;simp only [Bool.and_eq_true,Bool.or_eq_true,decide_eq_true_eq,beq_iff_eq] at h;obtain ⟨hv,h1,h2⟩:=h;obtain ⟨n0,_,d1,_,_⟩:=mM hv;have e:=Int.mul_tdiv_add_tmod r.j5 r.jr;have m0:=Int.tmod_nonneg r.jr n0;have m1:=Int.tmod_lt_of_pos r.j5 (show 0<r.jr by omega);have e2:r.jr*r.j5.tdiv r.jr=r.j5.tdiv r.jr*r.jr:=Int.mul_comm _ _;have l1:lo*r.jr≤r.j5.tdiv r.jr*r.jr:=Int.mul_le_mul_of_nonneg_right h1 om;refine ⟨om,?_⟩;rcases h2 with h2 | ⟨h2,h3⟩
 ·have l2:(r.j5.tdiv r.jr+1)*r.jr≤hi*r.jr:=Int.mul_le_mul_of_nonneg_right h2 om;rw [Int.add_mul,Int.one_mul] at l2;omega
 ·rw [← h2]; omega
theorem tQ {β:Type} {f:α→β} {l:List α} {k:Nat} {d:α} {e:β} (h:k<l.length):(l.map f).getD k e=f (l.getD k d):=by
 rw [List.getD_eq_getElem?_getD,List.getElem?_map,List.getD_eq_getElem?_getD,List.getElem?_eq_getElem h]; rfl
theorem aiG {l:List α} {v d:α} (hj:j<l.length):(l.set j v).getD j d=v:=by
 rw [List.getD_eq_getElem?_getD,List.getElem?_set_self hj]; rfl
theorem aiH {l:List α} {v d:α} (h:i≠j):(l.set j v).getD i d=l.getD i d:=by
 rw [List.getD_eq_getElem?_getD,List.getElem?_set_ne (Ne.symm h),← List.getD_eq_getElem?_getD]
theorem aoe {r:bL} (h:r.j5≠0):nR r=false:=by
 unfold nR;rw [show (r.j5==0)=false by simpa using h]; rfl
theorem ahK {r:bL} {lo hi:Int} (hv:qh r=true) (h1:lo*r.jr≤r.j5) (h2:r.j5≤hi*r.jr):oH r lo hi=true:=by
 unfold oH;obtain ⟨n0,_,d1,_,_⟩:=mM hv;have e:=Int.mul_tdiv_add_tmod r.j5 r.jr;have m0:=Int.tmod_nonneg r.jr n0;have m1:=Int.tmod_lt_of_pos r.j5 (show 0<r.jr by omega);have e2:r.jr*r.j5.tdiv r.jr=r.j5.tdiv r.jr*r.jr:=Int.mul_comm _ _;simp only [Bool.and_eq_true,Bool.or_eq_true,decide_eq_true_eq,beq_iff_eq];have q1:lo≤r.j5.tdiv r.jr:=by
  refine Int.not_lt.1 λ h=>?_;have:(r.j5.tdiv r.jr+1)*r.jr≤lo*r.jr:=Int.mul_le_mul_of_nonneg_right h om;rw [Int.add_mul,Int.one_mul] at this;omega
 have q2:r.j5.tdiv r.jr≤hi:=by
  refine Int.not_lt.1 λ h=>?_;have:(hi+1)*r.jr≤r.j5.tdiv r.jr*r.jr:=Int.mul_le_mul_of_nonneg_right h om;rw [Int.add_mul,Int.one_mul] at this;omega
 refine ⟨hv,q1,?_⟩;by_cases q:r.j5.tdiv r.jr<hi
 ·exact .inl q
 ·have:r.j5.tdiv r.jr=hi:=by omega
  refine .inr ⟨this,?_⟩;rw [this] at e e2;omega
theorem WO (h:fq l s []=true):eD l=0∧l6 l s=true∧ownB l (gD l s)=true:=by
 unfold fq at h;simp only [Bool.and_eq_true] at h;exact ⟨(yx h.1.1).1,h.1.2,h.2.1⟩
def amr (r:bL) (x:bN) (bt:Bool):Prop:=r.j5≠0∧r.j5≤x.fP*r.jr∧(bt=false→x.Low*r.jr≤r.j5)
theorem acV {k lo hi:Int} (h:fq l s []=true) (k0:0≤k) (k1:k<l.length) (h0:0≤lo) (h1:lo≤hi) (h2:hi≤4000000000):
  fq l s [⟨k,lo,hi⟩]=true↔((gD l s).getD k.toNat dS).j5≠0∧((gD l s).getD k.toNat dS).j5≤hi*((gD l s).getD k.toNat dS).jr∧lo*((gD l s).getD k.toNat dS).jr≤((gD l s).getD k.toNat dS).j5:=by
 obtain ⟨c1,c2,c3⟩:=WO h;have hv:=(Qx (vB c1) c2 k.toNat om).2.2.1;have hb:MS (l.length:Int) ⟨k,lo,hi⟩=false:=by
  unfold MS dL;simp only [Bool.or_eq_false_iff,Bool.not_eq_false',Bool.and_eq_true,decide_eq_true_eq];omega
 have hl:kM l [⟨k,lo,hi⟩]=true:=by
  unfold kM;rw [c1,show List.any [(⟨k,lo,hi⟩:bN)] (MS l.length)=false by rw [List.any_cons,hb]; rfl]; rfl
 unfold fq;rw [hl,c2,c3];simp only [Bool.true_and,List.any_cons,List.any_nil,Bool.or_false,Bool.not_eq_true'];unfold S9;dsimp only;constructor
 ·intro e;rw [Bool.or_eq_false_iff,Bool.not_eq_false'] at e;obtain ⟨w1,w2⟩:=ahJ e.2;exact ⟨acU hv e.1,w2,w1⟩
 ·rintro ⟨a1,a2,a3⟩;rw [aoe a1,ahK hv a3 a2]; rfl
def ams (b:aS) (g:bg) (n:aJ) (bt:Bool):Prop:=∀j:Nat,(j:Int)<n.bU.length→amr ((gD b.bS g.dG).getD (n.bU.getD j dx).eZ.toNat dS) (n.bU.getD j dx) bt
def amt (b:aS) (g:bg) (n:aJ) (d:Int):Prop:=∀f:ByteArray,cntF n.ak f≤MW b.aT g.bZ d f
def aof (g:bg) (n:aJ):Prop:=∀j:Nat,(j:Int)<n.bq.length→g.d9.getD (n.bq.getD j 0).toNat false=true
def aog (g:bg) (n:aJ):Prop:=0≤n.fT→g.fB.getD n.fT.toNat false=true
def drM (l:List aJ) (ms:List Int):List bf:=ms.flatMap λ m=>(l.getD m.toNat bB).fF
theorem kS {b:Bool} {P:Prop} (h:b=true↔P) (c:b=false):¬P:=λ p=>by rw [h.2 p] at c; cases c
theorem aa2 {l_:List ou} (h1:∀g∈p_.aD,g.bQ.length≤2000000∧g.ak.length≤2000000) (h2:l_.length≤2000000):W (FT p_ l_) (λ r=>(r.2=0↔yV p_ 0∧G6 p_ l_)):=by
 unfold FT;refine aF (aa0 ob ob) λ v1 hv1=>?_;refine wi ?_ ?_<;>intro c1
 ·exact av (⟨λ e=>absurd e c1,λ h=>absurd (hv1.2 h) c1⟩)
 ·obtain ⟨p1,_,_⟩:=(hv1.1 c1).1.v.ok;unfold Ei;refine wn<|aF (MU (by simp only [List.length_map,List.length_range]; omega) om) λ v2 hv2=>?_;subst v2;exact av (⟨λ _=>hv1.1 c1,λ _=>rfl⟩)
theorem YG {l_:List ou} (h1:∀g∈p_.aD,g.bQ.length≤2000000∧g.ak.length≤2000000) (h2:l_.length≤2000000):W (Du p_ l_) (λ r=>(r.2=0↔yV p_ 0∧G6 p_ l_)):=by
 unfold Du;refine aF (EG h1) λ v1 hv1=>?_;refine wi ?_ ?_<;>intro c1
 ·refine av ?_;(refine ⟨λ e=>by (try dsimp only at e); omega,λ ⟨a,_⟩=>absurd (yV.fun _ _ hv1 a) c1⟩)
 ·have hpa:yV p_ 0:=(by rw [c1] at hv1; exact hv1);have hpv:=hpa.v;obtain ⟨⟨p1,p2,p3⟩,gr,nm⟩:=id hpv;refine wn<|bI (λ (g1:Int×List Int)=>0≤g1.1∧g1.2.length=p_.bQ.toNat∧(∀x:Nat,(x:Int)<g1.1→g1.2.getD x 0 = -1)) (λ (g1:Int×List Int)=>(p_.bQ - g1.1).toNat) ?_ ?_
  ·intro aj g1 dY bW;obtain ⟨dN,bO,bE⟩:=dY;unfold L6;refine wi ?_ ?_<;>intro c2
   ·refine wm<|bW _ ?_ ?_
    ·(refine ⟨ob,by simp only [List.length_set]; exact bO,λ x hx=>?_⟩; dsimp only at hx ⊢; by_cases q:x=g1.1.toNat; (rw [q,aiG om]); (rw [aiH q]; exact bE x om))
    ·exact ob
   ·refine bI (λ (g2:Int×List Int)=>0≤g2.1∧g2.2.length=p_.bQ.toNat∧(∀x:Nat,(x:Int)<p_.bQ→(g2.2.getD x 0 ≠ -1↔∃j:Nat,(j:Int)<g2.1∧∃k:Nat,(k:Int)<(p_.aD.getD (l_.getD j fU).cZ.toNat aH).bQ.length∧(p_.aD.getD (l_.getD j fU).cZ.toNat aH).bQ.getD k 0=x))∧(∀i:Nat,(i:Int)<g2.1→aqk p_ l_ i)) (λ (g2:Int×List Int)=>(l_.length - g2.1).toNat) ?_ ?_
    ·intro dK g2 nk qL;obtain ⟨rG,jD,mV,CJ⟩:=nk;unfold LZ;refine wi ?_ ?_<;>intro c3
     ·refine wm<|wm ?_;refine wi ?_ ?_<;>intro c4
      ·refine av ?_;(refine ⟨λ e=>by (try dsimp only at e); omega,λ ⟨_,h⟩=>?_⟩; obtain ⟨⟨u1,u2,u3,u4⟩,_⟩:=h g2.1.toNat om; omega)
      ·have hu:Jd p_ (l_.getD g2.1.toNat fU):=⟨om,om,om,om⟩;obtain ⟨u1,u2,u3,u4⟩:=id hu;refine bI (λ (g7:Int)=>0≤g7∧(∀k:Nat,(k:Int)<g7→(l_.getD k fU).cZ≠(l_.getD g2.1.toNat fU).cZ)) (λ (g7:Int)=>(g2.1 - g7).toNat) ?_ ?_
       ·intro oq g7 aaV Yz;obtain ⟨aaW,CK⟩:=aaV;unfold IV;refine wi ?_ ?_<;>intro c5
        ·refine wn<|wi ?_ ?_<;>intro c6
         ·refine av ?_;(refine ⟨λ e=>by (try dsimp only at e); omega,λ ⟨_,h⟩=>?_⟩; obtain ⟨_,hd,_⟩:=h g2.1.toNat om; exact absurd c6 (hd g7.toNat om))
         ·refine wn<|Yz _ ?_ ?_
          ·(refine ⟨ob,dU CK aaW c6⟩)
          ·exact ob
        ·refine wn<|bI (λ (g8:Int×List Int)=>0≤g8.1∧g8.1≤(p_.aD.getD (l_.getD g2.1.toNat fU).cZ.toNat aH).bQ.length∧g8.2.length=p_.bQ.toNat∧(∀x:Nat,(x:Int)<p_.bQ→(g8.2.getD x 0 ≠ -1↔(∃j:Nat,(j:Int)<g2.1∧∃k:Nat,(k:Int)<(p_.aD.getD (l_.getD j fU).cZ.toNat aH).bQ.length∧(p_.aD.getD (l_.getD j fU).cZ.toNat aH).bQ.getD k 0=x)∨∃k:Nat,(k:Int)<g8.1∧(p_.aD.getD (l_.getD g2.1.toNat fU).cZ.toNat aH).bQ.getD k 0=x))∧(∀b:Nat,(b:Int)<g8.1→∀j:Nat,(j:Int)<g2.1→∀a:Nat,(a:Int)<(p_.aD.getD (l_.getD j fU).cZ.toNat aH).bQ.length→(p_.aD.getD (l_.getD j fU).cZ.toNat aH).bQ.getD a 0≠(p_.aD.getD (l_.getD g2.1.toNat fU).cZ.toNat aH).bQ.getD b 0)) (λ (g8:Int×List Int)=>((p_.aD.getD (l_.getD g2.1.toNat fU).cZ.toNat aH).bQ.length - g8.1).toNat) ?_ ?_
         ·intro aay g8 aqi aqj;obtain ⟨aoQ,aml,aoT,aiI,aoU⟩:=aqi;unfold IU;refine wi ?_ ?_<;>intro c7
          ·have hmg:=getD_in (l:=p_.aD) (i:=(l_.getD g2.1.toNat fU).cZ.toNat) aH om;have hgl:=(h1 _ hmg).1;have hpn:=(p3 _ hmg).pn _ (getD_in (i:=g8.1.toNat) 0 om);refine wm<|wi ?_ ?_<;>intro c8
           ·refine av ?_;(refine ⟨λ e=>by (try dsimp only at e); omega,λ ⟨_,h⟩=>?_⟩; obtain ⟨_,_,hd⟩:=h g2.1.toNat om; exfalso; rcases (aiI ((p_.aD.getD (l_.getD g2.1.toNat fU).cZ.toNat aH).bQ.getD g8.1.toNat 0).toNat om).1 c8 with ⟨j,e3,k,e5,e6⟩ | ⟨k,e5,e6⟩; (exact hd j om k g8.1.toNat e5 om (by rw [e6]; omega)); (have:=U4 hpv u1 u2 k g8.1.toNat om om; omega))
           ·refine wm<|aqj _ ?_ ?_
            ·(refine ⟨ob,ob,by simp only [List.length_set]; exact aoT,λ x hx=>?_,λ b hb j hj a ha=>?_⟩; (dsimp only; by_cases q:x=((p_.aD.getD (l_.getD g2.1.toNat fU).cZ.toNat aH).bQ.getD g8.1.toNat 0).toNat; (rw [q,aiG om]; constructor; (intro _; exact .inr ⟨g8.1.toNat,om,om⟩); (intro _; omega)); (rw [aiH q,aiI x hx]; constructor; (rintro (h | ⟨k,e5,e6⟩); (exact .inl h); (exact .inr ⟨k,om,e6⟩)); (rintro (h | ⟨k,e5,e6⟩); (exact .inl h); (refine .inr ⟨k,?_,e6⟩; by_cases e:(k:Int)<g8.1; (exact e); exfalso; apply q; rw [show g8.1.toNat=k by omega]; omega)))); (by_cases q:(b:Int)<g8.1; (exact aoU b q j hj a ha); (have e:b=g8.1.toNat:=by (try dsimp only at hb); omega); subst e; intro e7; have e8:=(aiI ((p_.aD.getD (l_.getD g2.1.toNat fU).cZ.toNat aH).bQ.getD g8.1.toNat 0).toNat om).2 (.inl ⟨j,hj,a,ha,by rw [e7]; omega⟩); omega))
            ·exact ob
          ·refine wn<|qL _ ?_ ?_
           ·(refine ⟨ob,aoT,λ x hx=>?_,dU CJ rG ⟨hu,λ k hk e=>CK k om e,λ k hk a b ha hb=>aoU b om k om a ha⟩⟩; dsimp only; rw [aiI x hx]; constructor; (rintro (⟨j,e3,e⟩ | ⟨k,e5,e6⟩); (exact ⟨j,om,e⟩); (exact ⟨g2.1.toNat,om,k,om,e6⟩)); (rintro ⟨j,e3,k,e5,e6⟩; by_cases q:(j:Int)<g2.1; (exact .inl ⟨j,q,k,e5,e6⟩); (have e:j=g2.1.toNat:=by omega); subst e; exact .inr ⟨k,om,e6⟩))
           ·exact ob
         ·(refine ⟨ob,ob,ob,λ x hx=>⟨λ h=>.inl ((mV x hx).1 h),?_⟩,λ b hb=>?_⟩; (rintro (h | ⟨k,e5,_⟩); (exact (mV x hx).2 h); (exfalso; (try dsimp only at e5); omega)); (exfalso; (try dsimp only at hb); omega))
       ·(refine ⟨ob,λ j hj=>by (try dsimp only at hj); omega⟩)
     ·refine av ?_;(refine ⟨λ _=>⟨hpa,λ i hi=>CJ i om⟩,λ _=>rfl⟩)
    ·(refine ⟨ob,om,λ x hx=>⟨λ h=>?_,λ ⟨j,e,_⟩=>?_⟩,λ j hj=>?_⟩; (exact absurd (bE x om) h); (exfalso; (try dsimp only at e); omega); (exfalso; (try dsimp only at hj); omega))
  ·(refine ⟨ob,by simp,λ x hx=>by dsimp only at hx; omega⟩)
theorem abY {l_:List aR} (h1:l_.length≤2000000):W (Kj l_) (λ r=>r=l_.map aR.jN):=by
 unfold Kj;refine bI (λ (g1:Int×List ou)=>0≤g1.1∧g1.1≤l_.length∧g1.2=(l_.take g1.1.toNat).map aR.jN) (λ (g1:Int×List ou)=>(l_.length - g1.1).toNat) ?_ ?_
 ·intro aj g1 dY bW;obtain ⟨dN,bO,bE⟩:=dY;unfold RH;have hgl:g1.2.length=g1.1.toNat:=(by rw [bE,List.length_map,List.length_take]; omega);refine wi ?_ ?_<;>intro c1
  ·refine wm<|wn ?_;refine bW _ ?_ ?_
   ·(refine ⟨ob,ob,?_⟩; dsimp only; rw [show (g1.1+1).toNat=g1.1.toNat+1 by omega,gP bC om,List.map_append,bE]; rfl)
   ·exact ob
  ·refine av ?_;(rw [bE,show g1.1.toNat=l_.length by omega,List.take_length])
 ·(refine ⟨ob,ob,rfl⟩)
def fnG (l:List ByteArray) (j:Nat):ByteArray:=l.getD j ByteArray.empty
theorem amu {l:List ByteArray} (h:0<cntF l f):∃j:Nat,(j:Int)<l.length∧fnG l j=f:=by
 unfold cntF at h;obtain ⟨x,hx,e⟩:=List.countP_pos_iff.1 h;obtain ⟨j,hj,rfl⟩:=List.mem_iff_getElem.1 hx;exact ⟨j,om,by unfold fnG; rw [List.getD_eq_getElem?_getD,List.getElem?_eq_getElem hj]; simpa using e⟩
theorem aea {l:List Int} {p:Int→Bool}:l.any p=false↔∀j:Nat,(j:Int)<l.length→p (l.getD j 0)=false:=by
 rw [List.any_eq_false];constructor
 ·intro h j hj;have:=h _ (getD_in (i:=j) 0 om);simpa using this
 ·intro h;have:∀x∈l,p x=false:=jC 0 λ j hj=>h j om;intro x hx;rw [this x hx]; decide
theorem MX (h1:abP s_):W (pX s_) (λ r=>r=fq s_.bH.bS s_.aW.dG []):=by
 obtain ⟨⟨s1,s2,s3,s4,s5,s6,s7⟩,vl_,n1,n2,⟨n3,n4⟩,m1,⟨z1,z2,z3,z4,z5,z6⟩⟩:=h1;unfold pX;refine aF (abM ob ob ob ob) λ v1 hv1=>?_;subst v1;refine av ?_;rfl
theorem MZ (h1:abP s_) (h2:ahD s_) (h3:fq s_.bH.bS s_.aW.dG []=true):W (pY s_) (λ r=>r=true↔∀i:Nat,(i:Int)<s_.aQ.length→ams s_.bH s_.aW (s_.dB.getD (s_.aQ.getD i 0).toNat bB) s_.jT):=by
 obtain ⟨⟨s1,s2,s3,s4,s5,s6,s7⟩,vl_,n1,n2,⟨n3,n4⟩,m1,⟨z1,z2,z3,z4,z5,z6⟩⟩:=h1;obtain ⟨y1,y2,y3,y4,y5,y6⟩:=h2;obtain ⟨k1,k2,k3⟩:=WO h3;unfold pY;refine aF (abN ob ob ob) λ v1 hv1=>?_;subst v1;refine bJ ?_ ?_<;>intro c1
 ·have gQ:=c1;have c1:=nr c1;exact av (absurd (ahI k1 k2) c1)
 ·have gQ:=c1;have c1:=nr c1;obtain ⟨r1,r2,r3⟩:=al7 (by simpa using gQ);have hrl:(vT s_.bH.bS s_.aW.dG).1.length=s_.bH.bS.length:=(by rw [r3]; exact sM ..);refine bI (λ (g1:Int)=>0≤g1∧(∀i:Nat,(i:Int)<g1→ams s_.bH s_.aW (s_.dB.getD (s_.aQ.getD i 0).toNat bB) s_.jT)) (λ (g1:Int)=>(s_.aQ.length - g1).toNat) ?_ ?_
  ·intro aj g1 dY bW;obtain ⟨dN,bO⟩:=dY;unfold zh;refine wi ?_ ?_<;>intro c2
   ·have hmem:=getD_in (l:=s_.aQ) (i:=g1.toNat) 0 om;have hmi:=y1 _ hmem;have hnd:=getD_in (l:=s_.dB) (i:=(s_.aQ.getD g1.toNat 0).toNat) bB om;have hno:=n2 _ hnd;have hns:=n4 _ hnd;refine wm<|bI (λ (g4:Int)=>0≤g4∧(∀j:Nat,(j:Int)<g4→amr ((gD s_.bH.bS s_.aW.dG).getD ((s_.dB.getD (s_.aQ.getD g1.toNat 0).toNat bB).bU.getD j dx).eZ.toNat dS) ((s_.dB.getD (s_.aQ.getD g1.toNat 0).toNat bB).bU.getD j dx) s_.jT)) (λ (g4:Int)=>((s_.dB.getD (s_.aQ.getD g1.toNat 0).toNat bB).bU.length - g4).toNat) ?_ ?_
    ·intro jq g4 Kw Jj;obtain ⟨Gj,mq⟩:=Kw;unfold za;refine wi ?_ ?_<;>intro c3
     ·obtain ⟨x1,x2,x3,x4,x5⟩:=hno.lm _ (getD_in (i:=g4.toNat) dx om);have hll:=hno.ll;have hv:=al8 r1 r2 (((s_.dB.getD ((s_.aQ.getD g1.toNat 0).toNat) bB).bU.getD g4.toNat dx).eZ.toNat) om;rw [← r3] at hv;have q1:=Wu (show 0≤_ by exact Int.le_trans (by decide) hv.1) hv.2 (Int.le_trans x3 x4) x5;have q2:=Wu (show 0≤_ by exact Int.le_trans (by decide) hv.1) hv.2 x3 (Int.le_trans x4 x5);refine wm<|wm ?_;refine wi ?_ ?_<;>intro c4
      ·rw [r3] at c4;refine av ?_;(constructor; (intro e; cases e); (intro h; exfalso; obtain ⟨l1,l2,l3⟩:=h g1.toNat om g4.toNat om; rcases c4 with (c4 | c4) | c4; (exact l1 c4); (exact Int.not_lt.2 l2 c4); (exact Int.not_lt.2 (l3 (by simpa using c4.1)) c4.2)))
      ·rw [r3] at c4;refine wn<|Jj _ ?_ ?_
       ·(refine ⟨ob,dU mq Gj ⟨c4.1.1,c4.1.2,λ e=>c4.2.resolve_left (by rw [e]; decide)⟩⟩)
       ·exact ob
     ·have hll:=hno.ll;refine wn<|bW _ ?_ ?_
      ·(refine ⟨ob,dU bO dN (λ j hj=>mq j om)⟩)
      ·exact ob
    ·(refine ⟨ob,λ j hj=>by (try dsimp only at hj); omega⟩)
   ·refine av ?_;(constructor; (intro _; exact λ i hi=>bO i om); (intro _; rfl))
  ·(refine ⟨ob,λ j hj=>by (try dsimp only at hj); omega⟩)
theorem Jk (h1:abP s_) (h2:ahD s_):W (nN s_) (λ r=>r=Sp.fq s_.bH.bG s_.aW.fC (drM s_.dB s_.aQ)):=by
 obtain ⟨⟨s1,s2,s3,s4,s5,s6,s7⟩,vl_,n1,n2,⟨n3,n4⟩,m1,⟨z1,z2,z3,z4,z5,z6⟩⟩:=h1;obtain ⟨y1,y2,y3,y4,y5,y6⟩:=h2;unfold nN;refine bI (λ (g1:Int×List bf)=>0≤g1.1∧g1.1≤s_.aQ.length∧(g1.2.length:Int)≤32*g1.1∧g1.2=drM s_.dB (s_.aQ.take g1.1.toNat)) (λ (g1:Int×List bf)=>(s_.aQ.length - g1.1).toNat) ?_ ?_
 ·intro aj g1 dY bW;obtain ⟨dN,bO,bE,jB⟩:=dY;unfold wE;refine wi ?_ ?_<;>intro c1
  ·have hmem:=getD_in (l:=s_.aQ) (i:=g1.1.toNat) 0 om;have hmi:=y1 _ hmem;have hnd:=getD_in (l:=s_.dB) (i:=(s_.aQ.getD g1.1.toNat 0).toNat) bB om;have hno:=n2 _ hnd;have hns:=n4 _ hnd;have hdl:=hno.dl;refine wm<|wm ?_;refine bW _ ?_ ?_
   ·(refine ⟨ob,ob,ob,?_⟩; dsimp only; unfold drM at *; rw [show (g1.1+1).toNat=g1.1.toNat+1 by omega,gP 0 om,List.flatMap_append,jB]; simp only [List.flatMap_cons,List.flatMap_nil,List.append_nil])
   ·exact ob
  ·refine aF (X7 ob ob) λ v1 hv1=>?_;subst v1;refine aF (Sp.Ph ob ob ob) λ v2 hv2=>?_;subst v2;refine av ?_;(rw [jB,show g1.1.toNat=s_.aQ.length by omega,List.take_length])
 ·(refine ⟨ob,ob,ob,rfl⟩)
theorem QV (h1:abP s_) (h2:∀g∈s_.bH.aT.aD,g.bQ.length≤2000000∧g.ak.length≤2000000):W (sZ s_) (λ r=>(r=true↔yV s_.bH.aT 0∧G6 s_.bH.aT (s_.aW.bZ.map aR.jN))):=by
 obtain ⟨⟨s1,s2,s3,s4,s5,s6,s7⟩,vl_,n1,n2,⟨n3,n4⟩,m1,⟨z1,z2,z3,z4,z5,z6⟩⟩:=h1;unfold sZ;refine bI (λ (g1:Int×List ou)=>0≤g1.1∧g1.1≤s_.aW.bZ.length∧g1.2=(s_.aW.bZ.take g1.1.toNat).map aR.jN) (λ (g1:Int×List ou)=>(s_.aW.bZ.length - g1.1).toNat) ?_ ?_
 ·intro aj g1 dY bW;obtain ⟨dN,bO,bE⟩:=dY;unfold Ct;have hgl:g1.2.length=g1.1.toNat:=(by rw [bE,List.length_map,List.length_take]; omega);refine wi ?_ ?_<;>intro c1
  ·refine wm<|wn ?_;refine bW _ ?_ ?_
   ·(refine ⟨ob,ob,?_⟩; dsimp only; rw [show (g1.1+1).toNat=g1.1.toNat+1 by omega,gP bC om,List.map_append,bE]; rfl)
   ·exact ob
  ·refine aF (aa2 h2 ob) λ v1 hv1=>?_;refine av ?_;(rw [bE,show g1.1.toNat=s_.aW.bZ.length by omega,List.take_length] at hv1; rw [← hv1]; simp)
 ·(refine ⟨ob,ob,rfl⟩)
theorem G7 (h1:abP s_) (h2:ahD s_) (h3:∀u∈s_.aW.bZ,Jd s_.bH.aT u.jN):W (mX s_) (λ r=>r=true↔∀i:Nat,(i:Int)<s_.aQ.length→amt s_.bH s_.aW (s_.dB.getD (s_.aQ.getD i 0).toNat bB) (s_.aQ.getD i 0)):=by
 obtain ⟨⟨s1,s2,s3,s4,s5,s6,s7⟩,vl_,n1,n2,⟨n3,n4⟩,m1,⟨z1,z2,z3,z4,z5,z6⟩⟩:=h1;obtain ⟨y1,y2,y3,y4,y5,y6⟩:=h2;unfold mX;refine bI (λ (g1:Int)=>0≤g1∧(∀i:Nat,(i:Int)<g1→amt s_.bH s_.aW (s_.dB.getD (s_.aQ.getD i 0).toNat bB) (s_.aQ.getD i 0))) (λ (g1:Int)=>(s_.aQ.length - g1).toNat) ?_ ?_
 ·intro aj g1 dY bW;obtain ⟨dN,bO⟩:=dY;unfold uL;refine wi ?_ ?_<;>intro c1
  ·have hmem:=getD_in (l:=s_.aQ) (i:=g1.toNat) 0 om;have hmi:=y1 _ hmem;have hnd:=getD_in (l:=s_.dB) (i:=(s_.aQ.getD g1.toNat 0).toNat) bB om;have hno:=n2 _ hnd;have hns:=n4 _ hnd;have hfl:=hno.fl;refine wn<|bI (λ (g6:(Int×(qR→Option Int)))=>0≤g6.1∧g6.1≤s_.aW.bZ.length∧(∀k,0≤CS g6.2 k∧CS g6.2 k≤g6.1)∧(∀f,CS g6.2 (.s f)=(MW s_.bH.aT (s_.aW.bZ.take g6.1.toNat) (s_.aQ.getD g1.toNat 0) f:Int))) (λ (g6:(Int×(qR→Option Int)))=>(s_.aW.bZ.length - g6.1).toNat) ?_ ?_
   ·intro jH g6 Pj Ky;obtain ⟨Ml,wO,Mq,Yc⟩:=Pj;unfold uK;refine wi ?_ ?_<;>intro c2
    ·obtain ⟨u1,u2,u3,u4⟩:=h3 _ (getD_in (i:=g6.1.toNat) bC om);have hmk:=Mq (.s (((s_.bH.aT.aD.getD ((((s_.aW.bZ.getD g6.1.toNat bC).jN).cZ).toNat) aH).ak).getD ((((s_.aW.bZ.getD g6.1.toNat bC).jN).gL).toNat) ByteArray.empty));refine wn<|bJ ?_ ?_<;>intro c3
     ·have jJ:=c3;have c3:=nr c3;refine wm<|wm ?_;refine Ky _ ?_ ?_
      ·(refine ⟨ob,ob,λ k=>?_,λ f=>?_⟩; (dsimp only; rw [zP]; have:=Mq k; split<;>omega); dsimp only; rw [zP,Yc,Yc,show (g6.1+1).toNat=g6.1.toNat+1 by omega,gP bC om,QC]; by_cases q:f=nmU s_.bH.aT (s_.aW.bZ.getD g6.1.toNat bC).jN; (subst q; refine (if_pos rfl).trans ?_; rw [if_pos ⟨by simpa using jJ,rfl⟩]; show ((MW _ _ _ (nmU _ _):Nat):Int)+1=_; omega); (refine (if_neg (λ e=>q (qR.s.inj e))).trans ?_; rw [if_neg (λ e=>q e.2.symm)]; rfl))
      ·exact ob
     ·have jJ:=c3;have c3:=nr c3;refine wn<|Ky _ ?_ ?_
      ·(refine ⟨ob,ob,λ k=>?_,λ f=>?_⟩; (have:=Mq k; dsimp only; omega); dsimp only; rw [Yc,show (g6.1+1).toNat=g6.1.toNat+1 by omega,gP bC om,QC,if_neg (λ e=>absurd e.1 (by simpa using jJ))]; rfl)
      ·exact ob
    ·refine wn<|bI (λ (g7:(Int×(qR→Option Int)))=>0≤g7.1∧(∀k,0≤CS g7.2 k∧CS g7.2 k≤2000000)∧(∀f,CS g7.2 (.s f)=(MW s_.bH.aT s_.aW.bZ (s_.aQ.getD g1.toNat 0) f:Int) - (cntF ((s_.dB.getD (s_.aQ.getD g1.toNat 0).toNat bB).ak.take g7.1.toNat) f:Int))) (λ (g7:(Int×(qR→Option Int)))=>((s_.dB.getD (s_.aQ.getD g1.toNat 0).toNat bB).ak.length - g7.1).toNat) ?_ ?_
     ·intro oq g7 aaV Yz;obtain ⟨aaW,CK,aiJ⟩:=aaV;unfold uo;refine wi ?_ ?_<;>intro c4
      ·have hmk:=CK (.s (((s_.dB.getD ((s_.aQ.getD g1.toNat 0).toNat) bB).ak).getD g7.1.toNat ByteArray.empty));have hlt:g7.1.toNat<(s_.dB.getD (s_.aQ.getD g1.toNat 0).toNat bB).ak.length:=om;have hts:=gP ByteArray.empty hlt;have hcs:cntF ((s_.dB.getD (s_.aQ.getD g1.toNat 0).toNat bB).ak.take (g7.1.toNat+1)) ((s_.dB.getD (s_.aQ.getD g1.toNat 0).toNat bB).ak.getD g7.1.toNat ByteArray.empty)=cntF ((s_.dB.getD (s_.aQ.getD g1.toNat 0).toNat bB).ak.take g7.1.toNat) ((s_.dB.getD (s_.aQ.getD g1.toNat 0).toNat bB).ak.getD g7.1.toNat ByteArray.empty)+1:=(by rw [hts,QD,if_pos rfl]);have hct:=ajY (l:=(s_.dB.getD (s_.aQ.getD g1.toNat 0).toNat bB).ak) (f:=(s_.dB.getD (s_.aQ.getD g1.toNat 0).toNat bB).ak.getD g7.1.toNat ByteArray.empty) (g7.1.toNat+1);have hq:=aiJ ((s_.dB.getD (s_.aQ.getD g1.toNat 0).toNat bB).ak.getD g7.1.toNat ByteArray.empty);refine wm<|wi ?_ ?_<;>intro c5
       ·refine av ?_;(constructor; (intro e; cases e); (intro h; exfalso; rw [zP,if_pos rfl] at c5; have hff:=h g1.toNat om ((s_.dB.getD (s_.aQ.getD g1.toNat 0).toNat bB).ak.getD g7.1.toNat ByteArray.empty); omega))
       ·rw [zP,if_pos rfl] at c5;refine wn<|Yz _ ?_ ?_
        ·(refine ⟨ob,λ k=>?_,λ f=>?_⟩; (dsimp only; rw [zP]; have:=CK k; split<;>omega); dsimp only; rw [zP,show (g7.1+1).toNat=g7.1.toNat+1 by omega]; by_cases q:f=(s_.dB.getD (s_.aQ.getD g1.toNat 0).toNat bB).ak.getD g7.1.toNat ByteArray.empty; (subst q; rw [if_pos rfl,hcs]; omega); (rw [if_neg (λ e=>q (qR.s.inj e)),hts,QD,if_neg (λ e=>q e.symm),aiJ f]; rfl))
        ·exact ob
      ·refine wn<|bW _ ?_ ?_
       ·(refine ⟨ob,dU bO dN (λ f=>?_)⟩; have e1:=aiJ f; have e2:=CK (.s f); rw [List.take_of_length_le om] at e1; omega)
       ·exact ob
     ·(refine ⟨ob,λ k=>by have:=Mq k; dsimp only; omega,λ f=>?_⟩; dsimp only; rw [Yc f,show g6.1.toNat=s_.aW.bZ.length by omega,List.take_length]; show _=_ - ((0:Nat):Int); omega)
   ·(refine ⟨ob,ob,λ k=>⟨Int.le_refl _,Int.le_refl _⟩,λ f=>rfl⟩)
  ·refine av ?_;(constructor; (intro _; exact λ i hi=>bO i om); (intro _; rfl))
 ·(refine ⟨ob,λ j hj=>by (try dsimp only at hj); omega⟩)
theorem M0 (h1:abP s_) (h2:ahD s_):W (p8 s_) (λ r=>(r=true↔(RsA s_.bH.bq 0∧amn s_.bH.bq s_.aW.d9)∧∀i:Nat,(i:Int)<s_.aQ.length→aof s_.aW (s_.dB.getD (s_.aQ.getD i 0).toNat bB))):=by
 obtain ⟨⟨s1,s2,s3,s4,s5,s6,s7⟩,vl_,n1,n2,⟨n3,n4⟩,m1,⟨z1,z2,z3,z4,z5,z6⟩⟩:=h1;obtain ⟨y1,y2,y3,y4,y5,y6⟩:=h2;unfold p8;refine aF (YB ob) λ v1 hv1=>?_;refine bJ ?_ ?_<;>intro c1
 ·have gQ:=c1;have c1:=nr c1;refine av ?_;(constructor; (intro e; cases e); (intro h; exact absurd (hv1.2 h.1) (by simpa using gQ)))
 ·have gQ:=c1;have c1:=nr c1;refine bI (λ (g1:Int)=>0≤g1∧(∀i:Nat,(i:Int)<g1→aof s_.aW (s_.dB.getD (s_.aQ.getD i 0).toNat bB))) (λ (g1:Int)=>(s_.aQ.length - g1).toNat) ?_ ?_
  ·intro aj g1 dY bW;obtain ⟨dN,bO⟩:=dY;unfold zi;refine wi ?_ ?_<;>intro c2
   ·have hmem:=getD_in (l:=s_.aQ) (i:=g1.toNat) 0 om;have hmi:=y1 _ hmem;have hnd:=getD_in (l:=s_.dB) (i:=(s_.aQ.getD g1.toNat 0).toNat) bB om;have hno:=n2 _ hnd;have hns:=n4 _ hnd;refine wm<|aF (BU om (λ x hx=>(by have:=hno.rs x hx; omega))) λ v4 hv4=>?_;subst v4;refine bJ ?_ ?_<;>intro c3
    ·have jJ:=c3;have c3:=nr c3;refine av ?_;(constructor; (intro e; cases e); (intro h; exfalso; have:=aea.2 (λ j hj=>by have:=h.2 g1.toNat om j hj; rw [this]; rfl) |>.symm.trans jJ; cases this))
    ·have jJ:=c3;have c3:=nr c3;refine wn<|bW _ ?_ ?_
     ·(refine ⟨ob,dU bO dN (λ j hj=>?_)⟩; have:=aea.1 jJ j hj; simpa using this)
     ·exact ob
   ·refine av ?_;(constructor; (intro _; exact ⟨hv1.1 (by simpa using gQ),λ i hi=>bO i om⟩); (intro _; rfl))
  ·(refine ⟨ob,λ j hj=>by (try dsimp only at hj); omega⟩)
theorem KF (h1:abP s_) (h2:ahD s_):W (oG s_) (λ r=>(r=true↔(DmA s_.bH.cO 0∧RgP s_.bH.cO s_.aW.fB)∧∀i:Nat,(i:Int)<s_.aQ.length→aog s_.aW (s_.dB.getD (s_.aQ.getD i 0).toNat bB))):=by
 obtain ⟨⟨s1,s2,s3,s4,s5,s6,s7⟩,vl_,n1,n2,⟨n3,n4⟩,m1,⟨z1,z2,z3,z4,z5,z6⟩⟩:=h1;obtain ⟨y1,y2,y3,y4,y5,y6⟩:=h2;unfold oG;refine aF (YE) λ v1 hv1=>?_;refine bJ ?_ ?_<;>intro c1
 ·have gQ:=c1;have c1:=nr c1;refine av ?_;(constructor; (intro e; cases e); (intro h; exact absurd (hv1.2 h.1) (by simpa using gQ)))
 ·have gQ:=c1;have c1:=nr c1;refine aF (BX om (λ x hx=>(by have q:=y1 x hx; have:=(n2 _ (getD_in (i:=x.toNat) bB om)).dm; omega))) λ v2 hv2=>?_;subst v2;refine av ?_;(rw [Bool.not_eq_true',aea]; constructor; (intro h; refine ⟨hv1.1 (by simpa using gQ),λ i hi=>?_⟩; have:=h i hi; intro h0; simp only [Bool.and_eq_false_iff,decide_eq_false_iff_not,Bool.not_eq_false'] at this; exact this.resolve_left (λ q=>q h0)); (intro h j hj; have:=h.2 j hj; unfold aog at this; simp only [Bool.and_eq_false_iff,decide_eq_false_iff_not,Bool.not_eq_false']; by_cases q:0≤(s_.dB.getD (s_.aQ.getD j 0).toNat bB).fT; (exact .inr (this q)); exact .inl q))
theorem aa3 {x:bN} (h:fq l s []=true) (hx:abO l.length x):fq l s [⟨x.eZ,0,x.fP⟩]=true↔amr ((gD l s).getD x.eZ.toNat dS) x true:=by
 obtain ⟨x1,x2,x3,x4,x5⟩:=hx;rw [acV h x1 x2 (Int.le_refl 0) om x5,Int.zero_mul];obtain ⟨c1,c2,_⟩:=WO h;have hv:=(mM (Qx (vB c1) c2 x.eZ.toNat om).2.2.1).1;exact ⟨λ ⟨a,b,_⟩=>⟨a,b,nofun⟩,λ ⟨a,b,_⟩=>⟨a,b,hv⟩⟩
theorem Tk {x:bN} (h:fq l s []=true) (hx:abO l.length x):fq l s [⟨x.eZ,x.Low,x.fP⟩]=true↔amr ((gD l s).getD x.eZ.toNat dS) x false:=by
 obtain ⟨x1,x2,x3,x4,x5⟩:=hx;rw [acV h x1 x2 x3 x4 x5];exact ⟨λ ⟨a,b,c⟩=>⟨a,b,λ _=>c⟩,λ ⟨a,b,c⟩=>⟨a,b,c rfl⟩⟩
theorem Pv (h:Thn A B 0):A 0∧B 0:=by
 rcases h with h | h
 ·exact absurd rfl h.2
 ·exact h
theorem tT {l:List aJ} (h:lT b l 0):aoP b∧l.length≤12∧∀n∈l,aqe b n:=by
 obtain ⟨h1,h2⟩:=Pv h;obtain ⟨b1,h3⟩:=Pv h1;obtain ⟨b2,h4⟩:=Pv h3;obtain ⟨b3,h5⟩:=Pv h4;obtain ⟨b4,b5⟩:=Pv h5;obtain ⟨c1,c2⟩:=uQ (by decide) h2;refine ⟨⟨b1.symm,b2.symm,b3.v.ok,b4.ok,b5.ok⟩,om,jC bB λ i hi=>?_⟩;obtain ⟨d1,d2⟩:=uQ (by decide) (amm c2 i hi);obtain ⟨e1,e2⟩:=uQ (by decide) d2;obtain ⟨f1,f2⟩:=uQ (by decide) e2;obtain ⟨g1,g2⟩:=uQ (by decide) f2;obtain ⟨k1,k2⟩:=uQ (by decide) g2;obtain ⟨m1,m2⟩:=uQ (by decide) k2;refine ⟨om,om,om,jC dx λ j hj=>?_,jC dH λ j hj=>?_,jC 0 λ j hj=>?_,Classical.not_not.1 m1⟩
 ·exact Classical.byContradiction λ q=>e1 ⟨j,om,q⟩
 ·exact Classical.byContradiction λ q=>f1 ⟨j,om,q⟩
 ·exact Classical.byContradiction λ q=>k1 ⟨j,om,q⟩
def arU (b:aS) (l:List aJ) (ms:List Int) (g:bg) (bt:Bool):Prop:=∀i:Nat,(i:Int)<ms.length→ams b g (l.getD (ms.getD i 0).toNat bB) bt
def aoh (b:aS) (l:List aJ) (ms:List Int) (g:bg):Prop:=∀i:Nat,(i:Int)<ms.length→amt b g (l.getD (ms.getD i 0).toNat bB) (ms.getD i 0)
def arV (b:aS) (l:List aJ) (ms:List Int) (g:bg):Prop:=(RsA b.bq 0∧amn b.bq g.d9)∧∀i:Nat,(i:Int)<ms.length→aof g (l.getD (ms.getD i 0).toNat bB)
def auv (b:aS) (l:List aJ) (ms:List Int) (g:bg):Prop:=(DmA b.cO 0∧RgP b.cO g.fB)∧∀i:Nat,(i:Int)<ms.length→aog g (l.getD (ms.getD i 0).toNat bB)
def amv (b:aS) (l:List aJ) (ms:List Int) (g:bg) (bt:Bool):Int→Prop:=
 KA (¬(vW l ms∧amo b l g)) 1<|
 KA (fq b.bS g.dG []=false) 2<|
 KA (¬arU b l ms g bt) 3<|
 KA (Sp.fq b.bG g.fC (drM l ms)=false) 4<|
 KA (¬(yV b.aT 0∧G6 b.aT (g.bZ.map aR.jN))) 5<|
 KA (¬aoh b l ms g) 6<|
 KA (¬arV b l ms g) 7<|
 KA (¬auv b l ms g) 8<|
 λ r=>r=0
theorem amv.fun {l:List aJ} {ms:List Int} {g:bg} {bt:Bool}:Fa (amv b l ms g bt):=.JF (.JF (.JF (.JF (.JF (.JF (.JF (.JF .zero)))))))
def YH (b:aS) (l:List aJ) (ms:List Int) (g:bg) (bt:Bool):Int→Prop:=KA (¬lT b l 0) 1 (amv b l ms g bt)
theorem YH.fun {l:List aJ} {ms:List Int} {g:bg} {bt:Bool}:Fa (YH b l ms g bt):=.JF amv.fun
theorem arW {s:ig} (h:vW s.dB s.aQ∧amo s.bH s.dB s.aW):ahD s:=by
 obtain ⟨h1,⟨h2,h3,h4,h5,h6⟩,_,_⟩:=h;exact ⟨jC 0 λ j hj=>(h1 j om).1,om,om,om,om,om⟩
theorem QE {us:List aR} (h:G6 p (us.map aR.jN)):∀u∈us,Jd p u.jN:=by
 refine jC bC λ i hi=>?_;have:=(h i (by rw [List.length_map]; omega)).1;rw [tQ (d:=bC) hi] at this;exact this
theorem M4 (h1:abP s_) (h2:∀g∈s_.bH.aT.aD,g.bQ.length≤2000000∧g.ak.length≤2000000):W (p9 s_) (λ r=>amv s_.bH s_.dB s_.aQ s_.aW s_.jT r):=by
 unfold p9;refine wn<|aF (Pt h1) λ v1 hv1=>?_;refine wi ?_ ?_<;>intro c1
 ·refine wn<|av ?_;(exact dV (kS hv1 c1))
 ·have q1:=hv1.1 c1;have hsh:=arW q1;refine wm<|aF (MX h1) λ v2 hv2=>?_;subst v2;refine wi ?_ ?_<;>intro c2
  ·refine wn<|av ?_;(exact aL (λ h=>h q1) (dV c2))
  ·refine wm<|aF (MZ h1 hsh c2) λ v3 hv3=>?_;refine wi ?_ ?_<;>intro c3
   ·refine wn<|av ?_;(exact aL (λ h=>h q1) (aL (by rw [c2]; decide) (dV (kS hv3 c3))))
   ·have q3:=hv3.1 c3;refine wm<|aF (Jk h1 hsh) λ v4 hv4=>?_;subst v4;refine wi ?_ ?_<;>intro c4
    ·refine wn<|av ?_;(exact aL (λ h=>h q1) (aL (by rw [c2]; decide) (aL (λ h=>h q3) (dV c4))))
    ·refine wm<|aF (QV h1 h2) λ v5 hv5=>?_;refine wi ?_ ?_<;>intro c5
     ·refine wn<|av ?_;(exact aL (λ h=>h q1) (aL (by rw [c2]; decide) (aL (λ h=>h q3) (aL (by rw [c4]; decide) (dV (kS hv5 c5))))))
     ·have q5:=hv5.1 c5;refine wm<|aF (G7 h1 hsh (QE q5.2)) λ v6 hv6=>?_;refine wi ?_ ?_<;>intro c6
      ·refine wn<|av ?_;(exact aL (λ h=>h q1) (aL (by rw [c2]; decide) (aL (λ h=>h q3) (aL (by rw [c4]; decide) (aL (λ h=>h q5) (dV (kS hv6 c6)))))))
      ·have q6:=hv6.1 c6;refine wm<|aF (M0 h1 hsh) λ v7 hv7=>?_;refine wi ?_ ?_<;>intro c7
       ·refine wn<|av ?_;(exact aL (λ h=>h q1) (aL (by rw [c2]; decide) (aL (λ h=>h q3) (aL (by rw [c4]; decide) (aL (λ h=>h q5) (aL (λ h=>h q6) (dV (kS hv7 c7))))))))
       ·have q7:=hv7.1 c7;refine wm<|aF (KF h1 hsh) λ v8 vU=>?_;refine wi ?_ ?_<;>intro c8
        ·refine wn<|av ?_;(exact aL (λ h=>h q1) (aL (by rw [c2]; decide) (aL (λ h=>h q3) (aL (by rw [c4]; decide) (aL (λ h=>h q5) (aL (λ h=>h q6) (aL (λ h=>h q7) (dV (kS vU c8)))))))))
        ·refine wn<|av ?_;(exact aL (λ h=>h q1) (aL (by rw [c2]; decide) (aL (λ h=>h q3) (aL (by rw [c4]; decide) (aL (λ h=>h q5) (aL (λ h=>h q6) (aL (λ h=>h q7) (aL (λ h=>h (vU.1 c8)) rfl))))))))
theorem YI {gU:Bool} (h1:Bq b_) (h2:∀g∈b_.aT.aD,g.bQ.length≤2000000∧g.ak.length≤2000000) (h3:Jf l_) (h4:ah.length≤10000) (h5:MV g_):W (Dp b_ l_ ah g_ gU) (λ r=>YH b_ l_ ah g_ gU r):=by
 unfold Dp;refine aF (R4 h1 h2 h3) λ v1 hv1=>?_;refine wi ?_ ?_<;>intro c1
 ·exact av<|dV (λ h=>c1 (lT.fun _ _ hv1 h))
 ·have hn0:lT b_ l_ 0:=(by rw [c1] at hv1; exact hv1);obtain ⟨nk1,nk2,nk3⟩:=tT hn0;refine aF (M4 ⟨h1,nk1,nk2,nk3,h3,h4,h5⟩ h2) λ v2 hv2=>?_;exact av<|aL (λ h=>h hn0) hv2
theorem YJ {x_:aJ} {gU:Bool} (h1:b_.bS.length≤2000000) (h2:g_.dG.length≤2000000) (h3:afz b_.bS) (h4:fq b_.bS g_.dG []=true) (h5:∀x∈x_.bU,abO b_.bS.length x) (h6:x_.bU.length≤2000000):W (Dt b_ g_ x_ gU) (λ r=>r=true↔ams b_ g_ x_ gU):=by
 unfold Dt;refine bI (λ (g1:Int)=>0≤g1∧(∀j:Nat,(j:Int)<g1→amr ((gD b_.bS g_.dG).getD (x_.bU.getD j dx).eZ.toNat dS) (x_.bU.getD j dx) gU)) (λ (g1:Int)=>(x_.bU.length - g1).toNat) ?_ ?_
 ·intro aj g1 dY bW;obtain ⟨dN,bO⟩:=dY;unfold LY;refine wi ?_ ?_<;>intro c1
  ·have hx:=h5 _ (getD_in (i:=g1.toNat) dx om);refine wn<|wi ?_ ?_<;>intro c2
   ·subst c2;unfold qJ;refine aF (EK ob ob ob ob) λ v3 hv3=>?_;subst v3;refine wi ?_ ?_<;>intro c3
    ·refine av ?_;(constructor; (intro e; cases e); (intro h; exfalso; rw [(aa3 h4 hx).2 (h g1.toNat om)] at c3; cases c3))
    ·refine wn<|bW _ ?_ ?_
     ·(refine ⟨ob,dU bO dN ((aa3 h4 hx).1 c3)⟩)
     ·exact ob
   ·subst c2;unfold qJ;refine aF (EK ob ob ob ob) λ v3 hv3=>?_;subst v3;refine wi ?_ ?_<;>intro c4
    ·refine av ?_;(constructor; (intro e; cases e); (intro h; exfalso; rw [(Tk h4 hx).2 (h g1.toNat om)] at c4; cases c4))
    ·refine wn<|bW _ ?_ ?_
     ·(refine ⟨ob,dU bO dN ((Tk h4 hx).1 c4)⟩)
     ·exact ob
  ·refine av ?_;(constructor; (intro _; exact λ j hj=>bO j om); (intro _; rfl))
 ·(refine ⟨ob,λ j hj=>by (try dsimp only at hj); omega⟩)
theorem Tm {x_:aJ} {aU:Int} (h1:g_.bZ.length≤2000000) (h2:x_.ak.length≤2000000) (h3:∀u∈g_.bZ,Jd b_.aT u.jN):W (vg b_ g_ x_ aU) (λ r=>r=true↔amt b_ g_ x_ aU):=by
 unfold vg;refine bI (λ (g1:Int)=>0≤g1∧(∀j:Nat,(j:Int)<g1→cntF x_.ak (fnG x_.ak j)≤MW b_.aT g_.bZ aU (fnG x_.ak j))) (λ (g1:Int)=>(x_.ak.length - g1).toNat) ?_ ?_
 ·intro aj g1 dY bW;obtain ⟨dN,bO⟩:=dY;unfold Ev;refine wi ?_ ?_<;>intro c1
  ·refine wn<|bI (λ (g6:Int×Int)=>0≤g6.2∧g6.2≤x_.ak.length∧(0≤g6.1∧g6.1≤g6.2)∧g6.1=(cntF (x_.ak.take g6.2.toNat) (x_.ak.getD g1.toNat ByteArray.empty):Int)) (λ (g6:Int×Int)=>(x_.ak.length - g6.2).toNat) ?_ ?_
   ·intro jH g6 Pj Ky;obtain ⟨Ml,wO,Mq,Yc⟩:=Pj;unfold Eu;refine wi ?_ ?_<;>intro c2
    ·refine wn<|bJ ?_ ?_<;>intro c3
     ·have jJ:=c3;have c3:=nr c3;refine wm<|Ky _ ?_ ?_
      ·(refine ⟨ob,ob,ob,?_⟩; dsimp only; rw [Yc,show (g6.2+1).toNat=g6.2.toNat+1 by omega,gP ByteArray.empty om,QD,if_pos (Ti (by simpa using jJ))]; rfl)
      ·exact ob
     ·have jJ:=c3;have c3:=nr c3;refine wn<|Ky _ ?_ ?_
      ·(refine ⟨ob,ob,ob,?_⟩; dsimp only; rw [Yc,show (g6.2+1).toNat=g6.2.toNat+1 by omega,gP ByteArray.empty om,QD,if_neg (λ e=>by rw [e] at jJ; simp at jJ)]; rfl)
      ·exact ob
    ·refine bI (λ (g7:Int×Int)=>0≤g7.2∧g7.2≤g_.bZ.length∧(0≤g7.1∧g7.1≤g7.2)∧g7.1=(MW b_.aT (g_.bZ.take g7.2.toNat) aU (x_.ak.getD g1.toNat ByteArray.empty):Int)) (λ (g7:Int×Int)=>(g_.bZ.length - g7.2).toNat) ?_ ?_
     ·intro oq g7 aaV Yz;obtain ⟨aaW,CK,aiJ,amw⟩:=aaV;unfold Cz;refine wi ?_ ?_<;>intro c4
      ·obtain ⟨u1,u2,u3,u4⟩:=h3 _ (getD_in (i:=g7.2.toNat) bC om);refine wm<|wn ?_;refine bJ ?_ ?_<;>intro c5
       ·have Bu:=c5;have c5:=nr c5;refine wm<|Yz _ ?_ ?_
        ·(refine ⟨ob,ob,ob,?_⟩; dsimp only; rw [amw,show (g7.2+1).toNat=g7.2.toNat+1 by omega,gP bC om,QC,if_pos (by simp only [Bool.and_eq_true,beq_iff_eq] at Bu; exact ⟨Bu.1,Ti Bu.2⟩)]; rfl)
        ·exact ob
       ·have Bu:=c5;have c5:=nr c5;refine wn<|Yz _ ?_ ?_
        ·(refine ⟨ob,ob,ob,?_⟩; dsimp only; rw [amw,show (g7.2+1).toNat=g7.2.toNat+1 by omega,gP bC om,QC,if_neg (λ e=>by have e2:=e.2; unfold nmU at e2; rw [e.1,e2] at Bu; simp at Bu)]; rfl)
        ·exact ob
      ·rw [List.take_of_length_le om] at Yc amw;refine wi ?_ ?_<;>intro c6
       ·refine av ?_;(constructor; (intro e; cases e); (intro h; exfalso; have:=h (x_.ak.getD g1.toNat ByteArray.empty); omega))
       ·refine wn<|bW _ ?_ ?_
        ·(refine ⟨ob,dU bO dN (by unfold fnG; omega)⟩)
        ·exact ob
     ·(refine ⟨ob,ob,ob,rfl⟩)
   ·(refine ⟨ob,ob,ob,rfl⟩)
  ·refine av ?_;(constructor; (intro _ f; rcases Nat.eq_zero_or_pos (cntF x_.ak f) with e | e; (omega); (obtain ⟨j,h4,rfl⟩:=amu e; exact bO j om)); (intro _; rfl))
 ·(refine ⟨ob,λ j hj=>by (try dsimp only at hj); omega⟩)
end Go.Proofs.YtccjmcmolnbiiaaGreatDoor
namespace Go.Proofs.YtccjmcmolnbiiaaGreatDoor.Sp
open Go.Ab
set_option maxRecDepth 100000
theorem aa4 {l_:List ay} {r_:cu} (h1:l_.length≤2000000) (h2:r_.dQ.length≤2000000):W (Gb l_ r_) (λ r=>r=vV l_ r_):=by
 unfold Gb;refine aF (Sp.Ao ob) λ v1 hv1=>?_;subst v1;refine bJ ?_ ?_<;>intro c1
 ·have gQ:=c1;have c1:=nr c1;refine av ?_;(unfold vV; rw [gQ]; rfl)
 ·have gQ:=c1;have c1:=nr c1;have hck:eD l_=0∧r_.On.length=l_.length∧r_.dQ.length=l_.length:=(by have:=gQ; simp only [Bool.or_eq_false_iff,bne_eq_false_iff_eq] at this; omega);obtain ⟨b1,b2,b3⟩:=Kn hck.1;refine bI (λ (g1:Int)=>0≤g1∧g1≤l_.length∧rlN (l_.drop g1.toNat) (r_.dQ.drop g1.toNat)=rlN l_ r_.dQ) (λ (g1:Int)=>(l_.length - g1).toNat) ?_ ?_
  ·intro aj g1 dY bW;obtain ⟨dN,bO,bE⟩:=dY;unfold OG;obtain ⟨i,rfl⟩:=Int.eq_ofNat_of_zero_le dN;refine wi ?_ ?_<;>intro c2
   ·have hlt:i<l_.length:=om;have hb:=b2 i hlt;rw [show ((i:Int).toNat)=i from rfl,drop_cons au hlt,drop_cons 0 (show i<r_.dQ.length by omega),rlN] at bE;simp only [Int.toNat_natCast] at *;refine wm<|wn ?_;refine aF (Sp.qm) λ v4 hv4=>?_;subst v4;refine bJ ?_ ?_<;>intro c3
    ·have jJ:=c3;have c3:=nr c3;refine av ?_;(unfold vV; rw [gQ,← bE]; rw [show dL (r_.dQ.getD i 0) 0 _=false by simpa using jJ]; rfl)
    ·have jJ:=c3;have c3:=nr c3;refine wn<|bW _ ?_ ?_
     ·(refine ⟨ob,ob,?_⟩; rw [← bE,show dL (r_.dQ.getD i 0) 0 _=true by simpa using jJ,show ((i:Int)+1).toNat=i+1 by omega]; rfl)
     ·exact ob
   ·refine av ?_;have e:i=l_.length:=om;unfold vV; rw [gQ,← bE,show (i:Int).toNat=i from rfl,e,List.drop_length]; cases List.drop l_.length r_.dQ<;>rfl
  ·(refine ⟨ob,ob,rfl⟩)
end Go.Proofs.YtccjmcmolnbiiaaGreatDoor.Sp
namespace Go.Proofs.YtccjmcmolnbiiaaGreatDoor
open Go.Ab
set_option maxRecDepth 100000
theorem aa5 {l_:List ay} {r_:cu} {d_:List bf} (h1:l_.length≤2000000) (h2:d_.length≤2000000) (h3:r_.dQ.length≤2000000):W (Gc l_ r_ d_) (λ r=>r=Sp.fq l_ r_ d_):=by
 unfold Gc;refine aF (Sp.RU ob ob) λ v1 hv1=>?_;subst v1;refine aF (gX λ hc=>l5 (Sp.aa4 ob ob)) λ v2 hv2=>?_;subst v2;refine aF (gX λ hc=>l5 (Sp.RX (Sp.sP (by simp only [Bool.and_eq_true] at hc; exact hc.1)) (Sp.DY.1 (by simp only [Bool.and_eq_true] at hc; exact hc.2)).2)) λ v3 hv3=>?_;subst v3;refine av ?_;(unfold Sp.fq; cases Sp.iB l_ d_<;>cases Sp.vV l_ r_<;>rfl)
theorem YK {b_:aS} {l_:List aJ} {ah:List Int} {g_:bg} {gU:Bool} (h1:Bq b_) (h2:∀g∈b_.aT.aD,g.bQ.length≤2000000∧g.ak.length≤2000000) (h3:Jf l_) (h4:ah.length≤10000) (h5:MV g_):W (Dw b_ l_ ah g_ gU) (λ r=>YH b_ l_ ah g_ gU r):=by
 obtain ⟨n3,n4⟩:=id h3;obtain ⟨s1,s2,s3,s4,s5,s6,s7⟩:=id h1;obtain ⟨z1,z2,z3,z4,z5,z6⟩:=id h5;unfold Dw;refine aF (Aw h1 h2 h3) λ v1 hv1=>?_;refine aF (qX λ hc=>tO n3 om) λ v2 hv2=>?_;refine aF (qX λ hc=>YF h1 n3 h5) λ v3 hv3=>?_;refine bJ ?_ ?_<;>intro c1
 ·have gQ:=c1;have c1:=nr c1;refine av ?_;(by_cases q:lT b_ l_ 0; (refine aL (λ h=>h q) (dV (λ h=>?_)); have e:=lT.fun _ _ hv1 q; have a2:=(hv2 (by rw [e]; rfl)).2 h.1; have a3:=(hv3 (by rw [e,a2]; rfl)).2 h.2; rw [e,a2,a3] at gQ; cases gQ); exact dV q)
 ·have gQ:=c1;have c1:=nr c1;have e1:v1=0∧v2=true∧v3=true:=(by simp only [Bool.or_eq_false_iff,bne_eq_false_iff_eq,Bool.not_eq_false'] at gQ; exact ⟨gQ.1.1,gQ.1.2,gQ.2⟩);have hn0:lT b_ l_ 0:=(by rw [e1.1] at hv1; exact hv1);have q1:vW l_ ah∧amo b_ l_ g_:=⟨(hv2 (by rw [e1.1]; rfl)).1 e1.2.1,(hv3 (by rw [e1.1,e1.2.1]; rfl)).1 e1.2.2⟩;have nok:=tT hn0;have hsl:=q1.2.1;refine aF (EK s1 z1 (by decide) s2) λ v4 hv4=>?_;subst v4;refine wi ?_ ?_<;>intro c2
  ·exact av (aL (λ h=>h hn0) (aL (λ h=>h q1) (dV c2)))
  ·refine bI (λ (g1:Int×List bf)=>0≤g1.1∧g1.1≤ah.length∧(g1.2.length:Int)≤32*g1.1∧g1.2=drM l_ (ah.take g1.1.toNat)∧(∀i:Nat,(i:Int)<g1.1→ams b_ g_ (l_.getD (ah.getD i 0).toNat bB) gU)) (λ (g1:Int×List bf)=>(ah.length - g1.1).toNat) ?_ ?_
   ·intro aj g1 dY bW;obtain ⟨dN,bO,bE,jB,CG⟩:=dY;unfold Ma;refine wi ?_ ?_<;>intro c3
    ·have hmi:=(q1.1 g1.1.toNat om).1;have hnd:=getD_in (l:=l_) (i:=(ah.getD g1.1.toNat 0).toNat) bB om;have hno:=nok.2.2 _ hnd;have hns:=n4 _ hnd;obtain ⟨o1,o2,o3,o4,o5,o6,o7⟩:=id hno;refine aO (by first | omega | (unfold aG; omega) | (intro h0; have:=of_decide_eq_true h0; omega) | (unfold big; omega)) ?_;refine aO (by first | omega | (unfold aG; omega) | (intro h0; have:=of_decide_eq_true h0; omega) | (unfold big; omega)) ?_;refine aF (YJ s1 z1 s2 c2 o4 om) λ v7 hv7=>?_;refine wi ?_ ?_<;>intro c4
     ·exact av (aL (λ h=>h hn0) (aL (λ h=>h q1) (aL (by rw [c2]; decide) (dV (λ h=>kS hv7 c4 (h g1.1.toNat om))))))
     ·refine aO (by first | omega | (unfold aG; omega) | (intro h0; have:=of_decide_eq_true h0; omega) | (unfold big; omega)) ?_;refine aO (by first | omega | (unfold aG; omega) | (intro h0; have:=of_decide_eq_true h0; omega) | (unfold big; omega)) ?_;refine aO (by first | omega | (unfold aG; omega) | (intro h0; have:=of_decide_eq_true h0; omega) | (unfold big; omega)) ?_;refine bW _ ?_ ?_
      ·(refine ⟨om,om,by (simp only [List.length_append]; omega),?_,dU CG dN (hv7.1 c4)⟩; dsimp only; unfold drM at *; rw [show (g1.1+1).toNat=g1.1.toNat+1 by omega,gP 0 om,List.flatMap_append,jB]; simp only [List.flatMap_cons,List.flatMap_nil,List.append_nil])
      ·omega
    ·have q3:arU b_ l_ ah g_ gU:=λ i hi=>CG i om;have hdr:g1.2=drM l_ ah:=(by rw [jB,show g1.1.toNat=ah.length by omega,List.take_length]);have auw:(drM l_ ah).length≤2000000:=(by rw [← hdr]; omega);rw [hdr];refine aF (aa5 s3 auw z3) λ v8 vU=>?_;subst v8;refine wi ?_ ?_<;>intro c5
     ·exact av (aL (λ h=>h hn0) (aL (λ h=>h q1) (aL (by rw [c2]; decide) (aL (λ h=>h q3) (dV c5)))))
     ·refine aF (abY z4) λ v9 Wx=>?_;subst v9;refine aF (YG h2 (by rw [List.length_map]; exact z4)) λ v10 Ji=>?_;refine wi ?_ ?_<;>intro c6
      ·exact av (aL (λ h=>h hn0) (aL (λ h=>h q1) (aL (by rw [c2]; decide) (aL (λ h=>h q3) (aL (by rw [c5]; decide) (dV (λ h=>c6 (Ji.2 h))))))))
      ·have q5:=Ji.1 c6;have hown:=QE q5.2;refine bI (λ (g2:Int)=>0≤g2∧(∀i:Nat,(i:Int)<g2→amt b_ g_ (l_.getD (ah.getD i 0).toNat bB) (ah.getD i 0))) (λ (g2:Int)=>(ah.length - g2).toNat) ?_ ?_
       ·intro dK g2 nk qL;obtain ⟨rG,jD⟩:=nk;unfold IZ;refine wi ?_ ?_<;>intro c7
        ·have hmi:=(q1.1 g2.toNat om).1;have hnd:=getD_in (l:=l_) (i:=(ah.getD g2.toNat 0).toNat) bB om;have hno:=nok.2.2 _ hnd;have hns:=n4 _ hnd;obtain ⟨o1,o2,o3,o4,o5,o6,o7⟩:=id hno;refine aO (by first | omega | (unfold aG; omega) | (intro h0; have:=of_decide_eq_true h0; omega) | (unfold big; omega)) ?_;refine aO (by first | omega | (unfold aG; omega) | (intro h0; have:=of_decide_eq_true h0; omega) | (unfold big; omega)) ?_;refine aF (Tm z4 om hown) λ v13 Yq=>?_;refine wi ?_ ?_<;>intro c8
         ·exact av (aL (λ h=>h hn0) (aL (λ h=>h q1) (aL (by rw [c2]; decide) (aL (λ h=>h q3) (aL (by rw [c5]; decide) (aL (λ h=>h q5) (dV (λ h=>kS Yq c8 (h g2.toNat om)))))))))
         ·refine aO (by first | omega | (unfold aG; omega) | (intro h0; have:=of_decide_eq_true h0; omega) | (unfold big; omega)) ?_;refine qL _ ?_ ?_
          ·(refine ⟨om,dU jD rG (Yq.1 c8)⟩)
          ·omega
        ·have q6:aoh b_ l_ ah g_:=λ i hi=>jD i om;refine aF (YC s6) λ v14 UD=>?_;refine wi ?_ ?_<;>intro c9
         ·exact av (aL (λ h=>h hn0) (aL (λ h=>h q1) (aL (by rw [c2]; decide) (aL (λ h=>h q3) (aL (by rw [c5]; decide) (aL (λ h=>h q5) (aL (λ h=>h q6) (dV (λ h=>kS UD c9 h.1)))))))))
         ·have q7a:=UD.1 c9;refine bI (λ (g3:Int)=>0≤g3∧(∀i:Nat,(i:Int)<g3→aof g_ (l_.getD (ah.getD i 0).toNat bB))) (λ (g3:Int)=>(ah.length - g3).toNat) ?_ ?_
          ·intro jZ g3 ad8 ad9;obtain ⟨Yb,qM⟩:=ad8;unfold IY;refine wi ?_ ?_<;>intro c10
           ·have hmi:=(q1.1 g3.toNat om).1;have hnd:=getD_in (l:=l_) (i:=(ah.getD g3.toNat 0).toNat) bB om;have hno:=nok.2.2 _ hnd;have hns:=n4 _ hnd;obtain ⟨o1,o2,o3,o4,o5,o6,o7⟩:=id hno;refine aO (by first | omega | (unfold aG; omega) | (intro h0; have:=of_decide_eq_true h0; omega) | (unfold big; omega)) ?_;refine aO (by first | omega | (unfold aG; omega) | (intro h0; have:=of_decide_eq_true h0; omega) | (unfold big; omega)) ?_;refine bI (λ (g6:Int)=>0≤g6∧(∀j:Nat,(j:Int)<g6→g_.d9.getD ((l_.getD (ah.getD g3.toNat 0).toNat bB).bq.getD j 0).toNat false=true)) (λ (g6:Int)=>((l_.getD (ah.getD g3.toNat 0).toNat bB).bq.length - g6).toNat) ?_ ?_
            ·intro jH g6 Pj Ky;obtain ⟨Ml,wO⟩:=Pj;unfold IW;refine wi ?_ ?_<;>intro c11
             ·have hx:=o6 _ (getD_in (i:=g6.toNat) 0 om);refine aO (by first | omega | (unfold aG; omega) | (intro h0; have:=of_decide_eq_true h0; omega) | (unfold big; omega)) ?_;refine aO (by first | omega | (unfold aG; omega) | (intro h0; have:=of_decide_eq_true h0; omega) | (unfold big; omega)) ?_;refine wi ?_ ?_<;>intro c12
              ·exact av (aL (λ h=>h hn0) (aL (λ h=>h q1) (aL (by rw [c2]; decide) (aL (λ h=>h q3) (aL (by rw [c5]; decide) (aL (λ h=>h q5) (aL (λ h=>h q6) (dV (λ h=>by have:=h.2 g3.toNat om g6.toNat om; rw [this] at c12; cases c12)))))))))
              ·refine aO (by first | omega | (unfold aG; omega) | (intro h0; have:=of_decide_eq_true h0; omega) | (unfold big; omega)) ?_;refine Ky _ ?_ ?_
               ·(refine ⟨om,dU wO Ml c12⟩)
               ·omega
             ·refine aO (by first | omega | (unfold aG; omega) | (intro h0; have:=of_decide_eq_true h0; omega) | (unfold big; omega)) ?_;refine ad9 _ ?_ ?_
              ·(refine ⟨om,dU qM Yb (λ j hj=>wO j om)⟩)
              ·omega
            ·(refine ⟨om,λ j hj=>by (try dsimp only at hj); omega⟩)
           ·have q7:arV b_ l_ ah g_:=⟨q7a,λ i hi=>qM i om⟩;refine aF (aaX) λ v15 QN=>?_;refine wi ?_ ?_<;>intro c13
            ·exact av (aL (λ h=>h hn0) (aL (λ h=>h q1) (aL (by rw [c2]; decide) (aL (λ h=>h q3) (aL (by rw [c5]; decide) (aL (λ h=>h q5) (aL (λ h=>h q6) (aL (λ h=>h q7) (dV (λ h=>kS QN c13 h.1))))))))))
            ·have q8a:=QN.1 c13;refine bI (λ (g7:Int)=>0≤g7∧(∀i:Nat,(i:Int)<g7→aog g_ (l_.getD (ah.getD i 0).toNat bB))) (λ (g7:Int)=>(ah.length - g7).toNat) ?_ ?_
             ·intro oq g7 aaV Yz;obtain ⟨aaW,CK⟩:=aaV;unfold IX;refine wi ?_ ?_<;>intro c14
              ·have hmi:=(q1.1 g7.toNat om).1;have hnd:=getD_in (l:=l_) (i:=(ah.getD g7.toNat 0).toNat) bB om;have hno:=nok.2.2 _ hnd;have hns:=n4 _ hnd;obtain ⟨o1,o2,o3,o4,o5,o6,o7⟩:=id hno;refine aO (by first | omega | (unfold aG; omega) | (intro h0; have:=of_decide_eq_true h0; omega) | (unfold big; omega)) ?_;refine aO (by first | omega | (unfold aG; omega) | (intro h0; have:=of_decide_eq_true h0; omega) | (unfold big; omega)) ?_;refine aO (by first | omega | (unfold aG; omega) | (intro h0; have:=of_decide_eq_true h0; omega) | (unfold big; omega)) ?_;refine bJ ?_ ?_<;>intro c15
               ·have aql:=c15;have c15:=nr c15;exact av (aL (λ h=>h hn0) (aL (λ h=>h q1) (aL (by rw [c2]; decide) (aL (λ h=>h q3) (aL (by rw [c5]; decide) (aL (λ h=>h q5) (aL (λ h=>h q6) (aL (λ h=>h q7) (dV (λ h=>by have:=h.2 g7.toNat om c15.1; rw [this] at c15; cases c15.2))))))))))
               ·have aql:=c15;have c15:=nr c15;refine aO (by first | omega | (unfold aG; omega) | (intro h0; have:=of_decide_eq_true h0; omega) | (unfold big; omega)) ?_;refine Yz _ ?_ ?_
                ·(refine ⟨om,dU CK aaW (λ h0=>?_)⟩; simp only [Bool.and_eq_false_iff,decide_eq_false_iff_not,Bool.not_eq_false'] at aql; exact aql.resolve_left (λ q=>q h0))
                ·omega
              ·exact av (aL (λ h=>h hn0) (aL (λ h=>h q1) (aL (by rw [c2]; decide) (aL (λ h=>h q3) (aL (by rw [c5]; decide) (aL (λ h=>h q5) (aL (λ h=>h q6) (aL (λ h=>h q7) (aL (λ h=>h ⟨q8a,λ i hi=>CK i om⟩) rfl)))))))))
             ·(refine ⟨om,λ j hj=>by (try dsimp only at hj); omega⟩)
          ·(refine ⟨om,λ j hj=>by (try dsimp only at hj); omega⟩)
       ·(refine ⟨om,λ j hj=>by (try dsimp only at hj); omega⟩)
   ·(refine ⟨om,by (dsimp only; omega),by (simp only [List.length_nil]; omega),rfl,λ i hi=>by (try dsimp only at hi); omega⟩)
def cfg:y7 where
 ty:=[(3,⟨1,false,8,[(.int .i64)],(.int .i64)⟩),
 (4,⟨1,false,1,[.bool],.bool⟩),
 (5,⟨1,false,1,[(.int .u8)],(.int .u8)⟩),
 (9,⟨1,false,16,[.str],.str⟩),
 (22,⟨1,false,24,[.slice],(.slice 3)⟩),
 (24,⟨1,false,8,[.ptr],(.pointer 95)⟩),
 (26,⟨1,false,24,[.slice],(.slice 191)⟩),
 (27,⟨1,false,24,[.slice],(.slice 175)⟩),
 (28,⟨1,false,24,[.slice],(.slice 60)⟩),
 (29,⟨2,true,32,[(.int .i64),.slice],(.struct [(0,3),(1,28)])⟩),
 (30,⟨2,true,32,[(.int .i64),.slice],(.struct [(0,3),(1,28)])⟩),
 (31,⟨1,false,24,[.slice],(.slice 133)⟩),
 (32,⟨1,false,24,[.slice],(.slice 136)⟩),
 (33,⟨6,true,128,[.slice,.slice,(.int .i64),.slice,.slice,.slice],(.struct [(0,26),(1,27),(2,30),(4,31),(5,32)])⟩),
 (34,⟨6,true,128,[.slice,.slice,(.int .i64),.slice,.slice,.slice],(.struct [(0,26),(1,27),(2,30),(4,31),(5,32)])⟩),
 (35,⟨1,false,24,[.slice],(.slice 53)⟩),
 (36,⟨1,false,24,[.slice],(.slice 4)⟩),
 (37,⟨2,true,48,[.slice,.slice],(.struct [(0,36),(1,22)])⟩),
 (38,⟨2,true,48,[.slice,.slice],(.struct [(0,36),(1,22)])⟩),
 (39,⟨1,false,24,[.slice],(.slice 57)⟩),
 (40,⟨6,true,144,[.slice,.slice,.slice,.slice,.slice,.slice],(.struct [(0,22),(1,38),(3,39),(4,36),(5,36)])⟩),
 (41,⟨6,true,144,[.slice,.slice,.slice,.slice,.slice,.slice],(.struct [(0,22),(1,38),(3,39),(4,36),(5,36)])⟩),
 (44,⟨1,false,8,[(.int .i64)],(.int .i64)⟩),
 (49,⟨1,false,24,[.slice],(.slice 112)⟩),
 (50,⟨1,false,24,[.slice],(.slice 114)⟩),
 (51,⟨1,false,24,[.slice],(.slice 9)⟩),
 (52,⟨6,true,128,[.slice,.slice,.slice,.slice,(.int .i64),.slice],(.struct [(0,49),(1,50),(2,51),(3,22),(4,3),(5,22)])⟩),
 (53,⟨6,true,128,[.slice,.slice,.slice,.slice,(.int .i64),.slice],(.struct [(0,49),(1,50),(2,51),(3,22),(4,3),(5,22)])⟩),
 (54,⟨2,true,16,[(.int .i64),(.int .i64)],(.struct [(0,3),(1,3)])⟩),
 (55,⟨2,true,16,[(.int .i64),(.int .i64)],(.struct [(0,3),(1,3)])⟩),
 (56,⟨3,true,24,[(.int .i64),(.int .i64),(.int .i64)],(.struct [(0,3),(1,55)])⟩),
 (57,⟨3,true,24,[(.int .i64),(.int .i64),(.int .i64)],(.struct [(0,3),(1,55)])⟩),
 (59,⟨3,true,64,[.str,.slice,.slice],(.struct [(0,9),(1,22),(2,51)])⟩),
 (60,⟨3,true,64,[.str,.slice,.slice],(.struct [(0,9),(1,22),(2,51)])⟩),
 (64,⟨1,false,24,[.slice],(.slice 55)⟩),
 (67,⟨1,false,24,[.slice],(.slice 5)⟩),
 (69,⟨12,true,256,[.slice,.slice,(.int .i64),.slice,.slice,.slice,.slice,.slice,(.int .i64),.slice,.slice,.slice],(.array 2 34)⟩),
 (72,⟨3,true,72,[.slice,.slice,.slice],(.array 3 35)⟩),
 (73,⟨2,true,48,[.slice,.slice],(.array 2 22)⟩),
 (77,⟨18,true,432,[.slice,.slice,.slice,.slice,.slice,.slice,.slice,.slice,.slice,.slice,.slice,.slice,.slice,.slice,.slice,.slice,.slice,.slice],(.array 3 41)⟩),
 (81,⟨2,true,16,[(.int .i64),(.int .i64)],(.array 2 3)⟩),
 (94,⟨2,true,32,[.slice,(.int .i64)],(.struct [(0,22),(1,3)])⟩),
 (95,⟨2,true,32,[.slice,(.int .i64)],(.struct [(0,22),(1,3)])⟩),
 (111,⟨3,true,24,[(.int .i64),(.int .i64),(.int .i64)],(.struct [(0,3),(1,3),(2,3)])⟩),
 (112,⟨3,true,24,[(.int .i64),(.int .i64),(.int .i64)],(.struct [(0,3),(1,3),(2,3)])⟩),
 (113,⟨4,true,32,[(.int .i64),(.int .i64),(.int .i64),(.int .i64)],(.struct [(0,3),(1,3),(2,3),(3,3)])⟩),
 (114,⟨4,true,32,[(.int .i64),(.int .i64),(.int .i64),(.int .i64)],(.struct [(0,3),(1,3),(2,3),(3,3)])⟩),
 (116,⟨1,false,8,[.other],.other⟩),
 (118,⟨1,false,8,[.other],.other⟩),
 (130,⟨1,false,8,[.other],.other⟩),
 (132,⟨1,true,24,[.slice],(.struct [(0,22)])⟩),
 (133,⟨1,true,24,[.slice],(.struct [(0,22)])⟩),
 (135,⟨2,true,16,[(.int .i64),.bool],(.struct [(0,3),(1,4)])⟩),
 (136,⟨2,true,16,[(.int .i64),.bool],(.struct [(0,3),(1,4)])⟩),
 (149,⟨1,false,8,[.other],.other⟩),
 (150,⟨1,false,24,[.slice],(.slice 22)⟩),
 (151,⟨1,false,24,[.slice],(.slice 152)⟩),
 (152,⟨1,false,8,[(.int .u64)],(.int .u64)⟩),
 (153,⟨4,true,80,[.slice,.slice,.slice,(.int .u64)],(.struct [(0,150),(1,151),(2,22),(3,152)])⟩),
 (154,⟨4,true,80,[.slice,.slice,.slice,(.int .u64)],(.struct [(0,150),(1,151),(2,22),(3,152)])⟩),
 (174,⟨5,true,56,[(.int .i64),.slice,(.int .i64),(.int .i64),.bool],(.struct [(0,3),(1,22),(2,3),(3,3),(4,4)])⟩),
 (175,⟨5,true,56,[(.int .i64),.slice,(.int .i64),(.int .i64),.bool],(.struct [(0,3),(1,22),(2,3),(3,3),(4,4)])⟩),
 (178,⟨15,true,328,[.slice,.slice,(.int .i64),.slice,.slice,.slice,.slice,.slice,.slice,.slice,.slice,.slice,.slice,.slice,.bool],(.struct [(0,34),(6,35),(7,22),(8,41),(14,4)])⟩),
 (179,⟨15,true,328,[.slice,.slice,(.int .i64),.slice,.slice,.slice,.slice,.slice,.slice,.slice,.slice,.slice,.slice,.slice,.bool],(.struct [(0,34),(6,35),(7,22),(8,41),(14,4)])⟩),
 (190,⟨5,true,72,[(.int .i64),.slice,.slice,(.int .i64),(.int .i64)],(.struct [(0,3),(1,22),(2,22),(3,3),(4,3)])⟩),
 (191,⟨5,true,72,[(.int .i64),.slice,.slice,(.int .i64),(.int .i64)],(.struct [(0,3),(1,22),(2,22),(3,3),(4,3)])⟩),
 (194,⟨1,false,8,[.other],.other⟩),
 (196,⟨1,false,8,[.other],.other⟩),
 (197,⟨1,false,24,[.slice],(.slice 241)⟩),
 (202,⟨1,false,8,[.other],.other⟩),
 (203,⟨1,false,8,[.other],.other⟩),
 (205,⟨1,false,8,[.other],.other⟩),
 (208,⟨1,false,8,[.other],.other⟩),
 (210,⟨1,false,8,[.other],(.map 9 4)⟩),
 (218,⟨1,false,8,[.other],.other⟩),
 (219,⟨1,false,24,[.slice],(.slice 218)⟩),
 (221,⟨1,false,24,[.slice],(.slice 226)⟩),
 (225,⟨2,true,16,[(.int .i64),(.int .i64)],(.struct [(0,3),(1,3)])⟩),
 (226,⟨2,true,16,[(.int .i64),(.int .i64)],(.struct [(0,3),(1,3)])⟩),
 (232,⟨1,false,24,[.slice],(.slice 237)⟩),
 (236,⟨5,true,40,[(.int .i64),(.int .i64),(.int .i64),(.int .i64),.bool],(.struct [(0,3),(1,3),(2,3),(3,3),(4,4)])⟩),
 (237,⟨5,true,40,[(.int .i64),(.int .i64),(.int .i64),(.int .i64),.bool],(.struct [(0,3),(1,3),(2,3),(3,3),(4,4)])⟩),
 (240,⟨3,true,24,[(.int .i64),(.int .i64),(.int .i64)],(.struct [(0,3),(1,3),(2,3)])⟩),
 (241,⟨3,true,24,[(.int .i64),(.int .i64),(.int .i64)],(.struct [(0,3),(1,3),(2,3)])⟩),
 (248,⟨1,false,8,[.other],.other⟩),
 (256,⟨1,false,8,[.other],(.map 9 3)⟩),
 (261,⟨1,false,8,[.other],.other⟩),
 (263,⟨1,false,8,[(.int .u64)],(.int .u64)⟩),
 (269,⟨64,true,512,[(.int .i64),(.int .i64),(.int .i64),(.int .i64),(.int .i64),(.int .i64),(.int .i64),(.int .i64),(.int .i64),(.int .i64),(.int .i64),(.int .i64),(.int .i64),(.int .i64),(.int .i64),(.int .i64),(.int .i64),(.int .i64),(.int .i64),(.int .i64),(.int .i64),(.int .i64),(.int .i64),(.int .i64),(.int .i64),(.int .i64),(.int .i64),(.int .i64),(.int .i64),(.int .i64),(.int .i64),(.int .i64),(.int .i64),(.int .i64),(.int .i64),(.int .i64),(.int .i64),(.int .i64),(.int .i64),(.int .i64),(.int .i64),(.int .i64),(.int .i64),(.int .i64),(.int .i64),(.int .i64),(.int .i64),(.int .i64),(.int .i64),(.int .i64),(.int .i64),(.int .i64),(.int .i64),(.int .i64),(.int .i64),(.int .i64),(.int .i64),(.int .i64),(.int .i64),(.int .i64),(.int .i64),(.int .i64),(.int .i64),(.int .i64)],(.array 64 3)⟩),
 (270,⟨64,true,512,[(.int .i64),(.int .i64),(.int .i64),(.int .i64),(.int .i64),(.int .i64),(.int .i64),(.int .i64),(.int .i64),(.int .i64),(.int .i64),(.int .i64),(.int .i64),(.int .i64),(.int .i64),(.int .i64),(.int .i64),(.int .i64),(.int .i64),(.int .i64),(.int .i64),(.int .i64),(.int .i64),(.int .i64),(.int .i64),(.int .i64),(.int .i64),(.int .i64),(.int .i64),(.int .i64),(.int .i64),(.int .i64),(.int .i64),(.int .i64),(.int .i64),(.int .i64),(.int .i64),(.int .i64),(.int .i64),(.int .i64),(.int .i64),(.int .i64),(.int .i64),(.int .i64),(.int .i64),(.int .i64),(.int .i64),(.int .i64),(.int .i64),(.int .i64),(.int .i64),(.int .i64),(.int .i64),(.int .i64),(.int .i64),(.int .i64),(.int .i64),(.int .i64),(.int .i64),(.int .i64),(.int .i64),(.int .i64),(.int .i64),(.int .i64)],(.array 64 3)⟩),
 (276,⟨1,false,4,[(.int .u32)],(.int .u32)⟩),
 (283,⟨1,false,8,[.other],.other⟩)]
 eqs:=[(57,[(.int .i64),(.int .i64),(.int .i64)]),(226,[(.int .i64),(.int .i64)])]
 fns:=[(10,⟨[],true⟩),(11,⟨[0],true⟩),(12,⟨[],true⟩),(13,⟨[2],true⟩),(15,⟨[],true⟩),(16,⟨[],true⟩),(17,⟨[],true⟩),(18,⟨[],true⟩),(20,⟨[0],true⟩),(21,⟨[],true⟩),(22,⟨[1],true⟩),(23,⟨[],true⟩),(24,⟨[1],true⟩),(25,⟨[0],true⟩),(26,⟨[],true⟩),(27,⟨[2],true⟩),(30,⟨[0],false⟩),(31,⟨[2],true⟩),(32,⟨[2],true⟩),(33,⟨[],true⟩),(35,⟨[],true⟩),(40,⟨[],true⟩),(41,⟨[],true⟩),(42,⟨[0],true⟩),(43,⟨[0],true⟩),(46,⟨[],true⟩),(47,⟨[0],true⟩),(48,⟨[],true⟩),(49,⟨[],true⟩),(51,⟨[],true⟩),(54,⟨[0],false⟩),(55,⟨[0],false⟩),(56,⟨[0],false⟩),(57,⟨[],true⟩),(58,⟨[],true⟩),(59,⟨[],true⟩),(60,⟨[],true⟩),(65,⟨[],true⟩),(66,⟨[],true⟩),(67,⟨[1],true⟩),(73,⟨[],true⟩),(74,⟨[],true⟩),(75,⟨[0],true⟩),(79,⟨[0],true⟩),(80,⟨[0],true⟩),(81,⟨[0],true⟩),(82,⟨[0],true⟩),(83,⟨[0],true⟩),(84,⟨[0],false⟩),(85,⟨[0],false⟩),(86,⟨[0],true⟩),(87,⟨[0],true⟩),(89,⟨[],true⟩),(90,⟨[],true⟩),(91,⟨[],true⟩),(92,⟨[],true⟩),(93,⟨[],true⟩),(94,⟨[],true⟩),(95,⟨[],true⟩),(96,⟨[],true⟩),(97,⟨[],true⟩),(98,⟨[],true⟩),(99,⟨[],true⟩),(100,⟨[],true⟩),(101,⟨[],true⟩),(102,⟨[],true⟩),(103,⟨[],true⟩),(114,⟨[],true⟩),(116,⟨[],true⟩),(129,⟨[],true⟩),(132,⟨[],true⟩),(133,⟨[],true⟩),(134,⟨[],true⟩),(136,⟨[2],false⟩),(137,⟨[0,2,3],false⟩),(139,⟨[],true⟩),(140,⟨[],true⟩),(142,⟨[],true⟩),(147,⟨[],true⟩),(148,⟨[1,2,3,4],false⟩),(149,⟨[],true⟩),(163,⟨[],true⟩),(165,⟨[],true⟩),(176,⟨[],true⟩),(182,⟨[],true⟩),(185,⟨[],true⟩),(186,⟨[1],true⟩),(189,⟨[],true⟩),(190,⟨[],true⟩),(193,⟨[],true⟩),(198,⟨[],true⟩),(209,⟨[],true⟩),(211,⟨[1],false⟩),(212,⟨[],true⟩),(225,⟨[1],true⟩),(265,⟨[0],false⟩),(266,⟨[0],false⟩),(267,⟨[0],false⟩),(268,⟨[0],false⟩),(269,⟨[0],false⟩),(272,⟨[0],false⟩)]
 glob:=[(0,[iV (0:Int),iV (1:Int)])]
theorem iX:iE Tryz.prog cfg:=alg (by kernel_rfl) (by kernel_rfl) (by kernel_rfl)
abbrev S:=Ab.Spec Tryz.prog cfg
open Go.Ab Go.RowKit Go.Shelf
attribute [local go_sem] Oper.semAt_some
set_option maxRecDepth 100000 in
set_option maxHeartbeats 2000000 in
theorem aoi (F:Fence) (n:Nat) (h7:F.fn 229) (hro:F.round=none) (hn:1≤n) (l B O b off len cap:Nat) (hlen:len≤1000000) (Keep:World→Prop)
  (c0 c1 c2 c3 c4:Nat→Value) (v1:Nat→Value) (hv:∀i,v1 i=.agg #[c0 i,c1 i,c2 i,c3 i,c4 i])
  (hB:∀w,Keep w→w.cell? ⟨B,O,none⟩=some (.slice (some ⟨b,off,none⟩) len cap))
  (h0:∀w i,Keep w→i<len→w.cell? ⟨b,off+i*5,none⟩=some (c0 i)) (h1:∀w i,Keep w→i<len→w.cell? ⟨b,off+i*5+1,none⟩=some (c1 i)) (h2:∀w i,Keep w→i<len→w.cell? ⟨b,off+i*5+2,none⟩=some (c2 i))
  (h3:∀w i,Keep w→i<len→w.cell? ⟨b,off+i*5+3,none⟩=some (c3 i)) (h4:∀w i,Keep w→i<len→w.cell? ⟨b,off+i*5+4,none⟩=some (c4 i))
  (J:Nat→World→Prop) (Jx:World→Prop)
  (hY:∀k W,k<len→J k W→YieldAt F (n - 1) Tryz.prog l #[.int .i64 ((len - 1 - k:Nat):Int),v1 (len - 1 - k)] W λ e W'=>
    (e=.returned (.bool true)∧J (k+1) W'∧Keep W')∨(e=.returned (.bool false)∧Jx W'))
  (W:World) (hW:Keep W) (hJ:J 0 W):
  CallsIn F n Tryz.prog 229 #[.func (.yield l) #[] #[],.pointer (some ⟨B,O,none⟩)] W λ e W'=>(∃v,e=.returned v)∧(J len W'∨Jx W'):=by
 refine callsIn_of_wp Tryz.func229 rfl h7 ?_ hro;simp only [Tryz.ntmps229,List.size_toArray,List.length_cons,List.length_nil,Nat.reduceAdd,Nat.reduceSub,Array.replicate_succ,Array.replicate_zero,List.push_toArray,List.append_toArray,List.nil_append,List.cons_append];have hB0:=hB W hW;gi_wp2;gi_loopw [3] (λ i wr=>∃k:Nat,k≤len∧i=.int .i64 ((len:Int) - 1 - k)∧J k wr∧Keep wr)
  (λ i _=>(intOf i+1).toNat)
 case atStart=>exact ⟨0,Nat.zero_le _,by simp,hJ,hW⟩
 case round=>
  obtain ⟨k,hk,rfl,hJs,hkp⟩:=hrel
  by_cases hlt:k<len
  ·obtain ⟨fn,tmps,assign,body,hy,hR⟩:=hY k wr hlt hJs
   have hBr:=hB wr hkp
   obtain ⟨i,hi⟩:∃i:Nat,i=len - 1 - k:=⟨_,rfl⟩
   rw [← hi] at hy
   have hil:i<len:=by omega
   have hii:((len:Int) - 1 - k)=(i:Int):=by omega
   rw [hii]
   have e0:=h0 wr i hkp hil
   have e1:=h1 wr i hkp hil
   have e2:=h2 wr i hkp hil
   have e3:=h3 wr i hkp hil
   have e4:=h4 wr i hkp hil
   rw [hv] at hy
   have A:Aside (i+k+1=len):=by show i+k+1=len; omega
   have hi0:¬ ((i:Int)<0):=by omega
   have hi1:0≤(i:Int):=by omega
   clear hi hii hlt hk
   gi_wp2
   refine hR.mono ?_
   rintro e W3 (⟨rfl,hJ3,hk3⟩ | ⟨rfl,hJx3⟩)
   ·have A':=A.out
    gi_wp2
    go_roundw
    case rel=>exact ⟨k+1,by omega,by have:=A'; simp; omega,hJ3,hk3⟩
    case measure=>simp [intOf]
   ·gi_wp2
    refine bodyPost_ret (results_none rfl _ _ _) rfl ?_
    exact ⟨⟨_,rfl⟩,.inr hJx3⟩
  ·obtain rfl:k=len:=by omega
   have hneg:((k:Int) - 1 - k) = -1:=by omega
   rw [hneg]
   gi_wp2
   go_end0
   exact ⟨⟨_,rfl⟩,.inl hJs⟩
set_option maxRecDepth 100000 in
set_option maxHeartbeats 2000000 in
theorem af5 (F:Fence) (n:Nat) (h7:F.fn 229) (hro:F.round=none) (l B O cap:Nat) (a:Option Addr) (J:World→Prop) (W:World) (hB:W.cell? ⟨B,O,none⟩=some (.slice a 0 cap)) (hJ:J W):
  CallsIn F n Tryz.prog 229 #[.func (.yield l) #[] #[],.pointer (some ⟨B,O,none⟩)] W λ e W'=>(∃v,e=.returned v)∧J W':=by
 refine callsIn_of_wp Tryz.func229 rfl h7 ?_ hro;simp only [Tryz.ntmps229,List.size_toArray,List.length_cons,List.length_nil,Nat.reduceAdd,Nat.reduceSub,Array.replicate_succ,Array.replicate_zero,List.push_toArray,List.append_toArray,List.nil_append,List.cons_append];gi_wp2;gi_loopw [3] (λ i wr=>i=.int .i64 (-1)∧J wr) (λ _ _=>0);case atStart=>exact ⟨by simp,hJ⟩
 case round=>
  obtain ⟨rfl,hJs⟩:=hrel
  gi_wp2
  go_end0
  exact ⟨⟨_,rfl⟩,hJs⟩
theorem Sn {n n':Nat} {P:Program} {f:FuncId} {args:Array Value} {w:World} {R:Ending→World→Prop} (h:CallsIn (FW none) n P f args w R):CallsIn (FW none) n' P f args w R:=
 ⟨h.1,λ cs _=>h.2 cs (λ _ hd=>by cases hd)⟩
theorem WQ (l:List ay) (hl:l.length≤1000000):aah Tryz.prog 229 [.ro [aV l]] l.length (λ k=>iV ((l.length - 1 - k:Nat):Int)) (λ k=>CX (l.getD (l.length - 1 - k) au)):=by
 refine ⟨enters_of Tryz.func229 (by kernel_rfl) rfl,λ w I lb hI hlb hp=>?_⟩;have h0:=hp 0 (by simp);have arX:lb=#[lb.getD 0 Go.undef]:=by
  have:lb.size=1:=hlb;apply Array.ext
  ·simp [this]
  ·intro i h1 h2;have:i=0:=by omega
   subst this;simp [h1]
 rw [arX];generalize lb.getD 0 Go.undef=x at h0;clear arX hp hlb;cases h0 with
 | ro B O vs hIB hm hr=>
  have hs:=hr 0 (by simp);have hm0:=hm 0 (by simp);have hs:iK w I (aV l) (vs 0):=hs;generalize vs 0=sv at hs hm0;cases hs with
  | @sl _ _ _ _ a cap b off cs hcap _ ha hes hcm h1 hcr=>
   by_cases hz:l.length=0
   ·refine ⟨λ _=>.bool true,λ _=>.bool true,λ k hk=>absurd hk om,λ y n J Jx W hW hY hJ=>?_⟩;have hBc:W.cell? ⟨B,O,none⟩=some (.slice a 0 cap):=by
     rw [cell?_of_heap (w:=w) (hW B hIB),← hz];exact hm0
    rw [hz];exact (af5 (FW none) n trivial rfl y B O cap a (λ W=>J 0 W) W hBc hJ).mono λ e W' ⟨h1,h2⟩=>⟨h1,.inl h2⟩
   ·obtain ⟨ha1,V6⟩:=ha hz;subst ha1;refine ⟨λ k=>.int .i64 ((l.length - 1 - k:Nat):Int),λ k=>.agg #[cs (l.length - 1 - k) 0,cs (l.length - 1 - k) 1,cs (l.length - 1 - k) 2,cs (l.length - 1 - k) 3,cs (l.length - 1 - k) 4],λ k hk=>⟨.int _ _,?_⟩,λ y n J Jx W hW hY hJ=>?_⟩
    ·refine .agg rfl λ j hj=>?_;have hj:j<5:=hj;have:=hcr (l.length - 1 - k) j om hj;have e:nth (CX (l.getD (l.length - 1 - k) au)).cells j=nth [iV (l.getD (l.length - 1 - k) au).aM,alh (l.getD (l.length - 1 - k) au).bK,iV (l.getD (l.length - 1 - k) au).gB,iV (l.getD (l.length - 1 - k) au).iy,.bool (l.getD (l.length - 1 - k) au).fM] j:=rfl;rcases (by omega:j=0∨j=1∨j=2∨j=3∨j=4) with rfl | rfl | rfl | rfl | rfl<;>exact this
    ·have key:∀W':World,(∀b,I b→W'.heap[b]? = w.heap[b]?)→∀i j,i<l.length→j<5→W'.cell? ⟨b,off+(i*5+j),none⟩=some (cs i j):=λ W' hW' i j hi hj=>by
      rw [cell?_of_heap (w:=w) (hW' b V6)];exact hcm i j hi hj
     refine Sn (aoi (FW none) (n+1) trivial rfl om y B O b off l.length cap hl (λ W':World=>∀b,I b→W'.heap[b]? = w.heap[b]?) (λ i=>cs i 0) (λ i=>cs i 1) (λ i=>cs i 2) (λ i=>cs i 3) (λ i=>cs i 4) (λ i=>.agg #[cs i 0,cs i 1,cs i 2,cs i 3,cs i 4]) (λ _=>rfl)
      (λ W' hW'=>by rw [cell?_of_heap (w:=w) (hW' B hIB)]; exact hm0) (λ W' i h hi=>key W' h i 0 hi om) (λ W' i h hi=>key W' h i 1 hi om) (λ W' i h hi=>key W' h i 2 hi om) (λ W' i h hi=>key W' h i 3 hi om) (λ W' i h hi=>key W' h i 4 hi om)
      (λ k W1=>J k W1∧∀b,I b→W1.heap[b]? = w.heap[b]?) Jx ?_ W hW ⟨hJ,hW⟩ |>.mono ?_)
     ·rintro k W1 hk ⟨hJ1,hW1⟩;obtain ⟨fn,tmps,assign,body,hy,hR⟩:=hY k W1 hk hJ1;refine ⟨fn,tmps,assign,body,hy,hR.mono ?_⟩;rintro e W' (⟨rfl,h2,h3⟩ | ⟨rfl,h2⟩)
      ·have hW':∀b,I b→W'.heap[b]? = w.heap[b]? := λ b hb=>(h3 b hb).trans (hW1 b hb);exact .inl ⟨rfl,⟨h2,hW'⟩,hW'⟩
      ·exact .inr ⟨rfl,h2⟩
     ·rintro e W' ⟨h1,⟨h2,_⟩ | h2⟩
      ·exact ⟨h1,.inl h2⟩
      ·exact ⟨h1,.inr h2⟩
theorem abZ (l:List ay):S 190 [aV l] [] (.fn 229 [.ro [aV l]]) []:=by
 refine ajn (ct:=[]) iX Tryz.func190 rfl rfl (Nat.le_of_ble_eq_true rfl) (by decide +kernel) (Nat.zero_le _) ?_;conv=>whnf
 exact ⟨⟨rfl,Sd.refl _,trivial⟩,trivial⟩
end Go.Proofs.YtccjmcmolnbiiaaGreatDoor
